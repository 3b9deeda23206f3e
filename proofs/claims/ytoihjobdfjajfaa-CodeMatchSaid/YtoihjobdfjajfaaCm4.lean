/- Merged texts: MP1, MP2, BL1, BV1, CB2, MA1, DB1, DB2, DB3, DB4, DB5, DB6, DP1, DL1, UB1, MA2, MA3, MA4, MA5, MA6, MA7, BX1, CB3, CB4, MA8, MB1, MB2, MB3, MB4. -/
import Derived.Test.YtoihjobdfjajfaaCm3
import Derived.Laws.CopyRow
set_option linter.unusedVariables false
set_option linter.unusedSimpArgs false
open List renaming getElem?_eq_getElem → Qa, mem_cons_of_mem → Qb, mem_append_left → Qc, mem_cons_self → Qe, mem_of_getElem? → Qf, getElem?_eq_some_iff → Qg, eq_nil_of_length_eq_zero → Qh, length_append → Qi, mem_append_right → Qj, setIfInBounds_toArray → Qk, not_mem_nil → Ql, mem_append → Qn, getElem?_map → Qp, foldl_cons → Qq, set_cons_succ → Qr, set_cons_zero → Qs, all_eq_true → Qt, length_map → Qu, mem_cons → Qw, map_cons → Qx, length_cons → QB
open Bool renaming and_eq_true → Qd
open Nat renaming le_refl → Qm, lt_of_lt_of_le → Qo, lt_irrefl → Qy, lt_of_le_of_lt → Qz, le_trans → QA
open Array renaming getElem?_toList → Qv, getElem?_eq_some_iff → QC
set_option maxHeartbeats 12800000
namespace Go.Proofs.Ytoihjobdfjajfaa
namespace Tm
structure MS where
 m:Nat
 l:Trail
 rs:List (Tm Unit)
 ss:List (Tm Unit)
inductive MR where
 | go (st:MS)
 | stop (e:Int) (m:Nat)
def tieM (st:MS) (x t:Tm Unit):MR:=
 if x.kind=0 then (if setE st.m st.l x.n t=0 then .go ⟨st.m,(x.n,t) :: st.l,st.rs,st.ss⟩ else .stop (setE st.m st.l x.n t) st.m)
 else if sameB x t=true then .go st else .stop 0 st.m
def putAt (rs:List (Tm Unit)) (c:Nat) (xs:List (Tm Unit)):List (Tm Unit):=rs.take c++(xs++rs.drop (c+xs.length))
def news (m k:Nat):List (Tm Unit):=(List.range k).map fun i=>V ((m+i:Nat):Int)
def newT (s:Stp) (m:Nat):Tm Unit:=.mk 2 0 s.name () (news m s.b.toNat)
def compM (st:MS) (x:Tm Unit) (s:Stp):MR:=
 if x.kind=0 then
  (if st.m+s.b.toNat≤65536 then
   (if setE (st.m+s.b.toNat) st.l x.n (newT s st.m)=0 then .go ⟨st.m+s.b.toNat,(x.n,newT s st.m) :: st.l,putAt st.rs s.c.toNat (news st.m s.b.toNat),st.ss⟩
   else .stop (setE (st.m+s.b.toNat) st.l x.n (newT s st.m)) (st.m+s.b.toNat))
  else .stop 12 65536)
 else if x.name=s.name∧(x.args.length:Int)=s.b then .go ⟨st.m,st.l,putAt st.rs s.c.toNat x.args,st.ss⟩ else .stop 0 st.m
noncomputable def valM (st:MS) (y x:Tm Unit):MR:=
 if (bothR st.m st.l y x).1=true∧(bothR st.m st.l y x).2.2.1=0 then .go ⟨st.m,(bothR st.m st.l y x).2.2.2,st.rs,st.ss⟩ else .stop (bothR st.m st.l y x).2.2.1 st.m
noncomputable def stepM (st:MS) (s:Stp):MR:=
 let x:=walkT st.l (st.rs.getD s.a.toNat (V 0))
 if s.op=sVar then .go ⟨st.m,st.l,st.rs,st.ss.set s.b.toNat x⟩
 else if s.op=sVal then valM st (st.ss.getD s.b.toNat (V 0)) x
 else if s.op=sInt then tieM st x (.mk 1 s.n ByteArray.empty () [])
 else if s.op=sAtom then tieM st x (.mk 2 0 s.name () [])
 else compM st x s
noncomputable def runM:MS→List Stp→MR
 | st,[]=>.go st
 | st,s :: L=>match stepM st s with
  | .go st'=>runM st' L
  | .stop e m=>.stop e m
theorem putAt_length {rs xs:List (Tm Unit)} {c:Nat} (h:c+xs.length≤rs.length):(putAt rs c xs).length=rs.length:=by
 unfold putAt;rw [Qi,Qi,List.length_take,List.length_drop];omega
theorem putAt_old {rs xs:List (Tm Unit)} {c j:Nat} (h:c+xs.length≤rs.length) (hj:j < c):(putAt rs c xs)[j]? = rs[j]?:=by
 unfold putAt;rw [List.getElem?_append_left (by rw [List.length_take];omega),List.getElem?_take,if_pos hj]
theorem putAt_new {rs xs:List (Tm Unit)} {c j:Nat} (h:c+xs.length≤rs.length) (hj:j < xs.length):(putAt rs c xs)[c+j]? = xs[j]?:=by
 unfold putAt
 have hl:(rs.take c).length=c:=by rw [List.length_take];omega
 rw [List.getElem?_append_right (by omega),hl,Nat.add_sub_cancel_left,List.getElem?_append_left hj]
theorem news_length (m k:Nat):(news m k).length=k:=by unfold news;rw [Qu,List.length_range]
theorem news_at {m k j:Nat} (h:j < k):(news m k)[j]? = some (V ((m+j:Nat):Int)):=by
 unfold news;rw [Qp,List.getElem?_range h];rfl
structure MInv {α:Type} (t:Tm α) (i:Nat) (st:MS):Prop where
 ok:okT st.m st.l
 most:st.m≤65536
 rl:st.rs.length=sizes t.args
 sl:st.ss.length=t.vars.length
 own:∀ j y,j < cb t.args i→st.rs[j]? = some y→ownB st.m y=true
 slots:∀ v∈met t.args i,∀ y,st.ss[posOf t.vars v]? = some y→ownB st.m y=true
structure MSol {α:Type} (t:Tm α) (ρ:Int→Tm Unit) (i:Nat) (st:MS) (θ:Int→Tm Unit):Prop where
 sol:solves θ st.l
 regs:∀ j y r,j < cb t.args i→st.rs[j]? = some y→(Tm.regs t.args)[j]? = some r→subT θ y=subT ρ r.bare
 slots:∀ v∈met t.args i,∀ y,st.ss[posOf t.vars v]? = some y→subT θ y=ρ v
structure MNext {α:Type} (t:Tm α) (i:Nat) (x:Tm α) (st st':MS):Prop where
 inv:MInv t (i+1) st'
 le:st.m≤st'.m
 pre:∃ a,st'.l=a++st.l
 rs:∀ j,j < cb t.args i→st'.rs[j]? = st.rs[j]?
 ss:∀ v∈met t.args i,st'.ss[posOf t.vars v]? = st.ss[posOf t.vars v]?
 snd:∀ θ ρ,solves θ st'.l→(∀ j,j < x.args.length→∀ y r,st'.rs[cb t.args i+j]? = some y→x.args[j]? = some r→subT θ y=subT ρ r.bare)→(x.kind=0→∀ y,st'.ss[posOf t.vars x.n]? = some y→subT θ y=ρ x.n)→∀ y,st.rs[i]? = some y→subT θ y=subT ρ x.bare
 cpl:∀ θ ρ,MSol t ρ i st θ→∃ θ',(∀ v,v < (st.m:Int)→θ' v=θ v)∧MSol t ρ (i+1) st' θ'
def MStep {α:Type} (t:Tm α) (i:Nat) (x:Tm α) (st:MS):MR→Prop
 | .go st'=>MNext t i x st st'
 | .stop e m'=>st.m≤m'∧m'≤65536∧(e=0→∀ θ ρ,¬ MSol t ρ i st θ)
theorem ownB_more {m m':Nat} {t:Tm Unit} (h:ownB m t=true) (hm:m≤m'):ownB m' t=true:=by
 rw [ownB_iff] at h ⊢;exact ⟨h.1,fun v hv=>by have:=h.2 v hv;omega⟩
theorem subT_own {m:Nat} {t:Tm Unit} {θ θ':Int→Tm Unit} (h:ownB m t=true) (hθ:∀ v,v < (m:Int)→θ' v=θ v):subT θ' t=subT θ t:=
 subT_congr t (fun x hx hk=>hθ _ ((ownB_iff.1 h).2 _ ⟨x,hx,hk,rfl⟩))
theorem solves_own {m:Nat} {l:Trail} {θ θ':Int→Tm Unit} (h:okT m l) (hθ:∀ v,v < (m:Int)→θ' v=θ v) (hs:solves θ l):solves θ' l:=by
 intro b hb;obtain ⟨h0,h1,h2,h3⟩:=okT_mem h hb;rw [hθ _ h1,hs b hb];exact (subT_congr _ (fun x hx hk=>hθ _ (h3 _ ⟨x,hx,hk,rfl⟩))).symm
theorem solves_pre {θ:Int→Tm Unit} {a l:Trail} (h:solves θ (a++l)):solves θ l:=fun b hb=>h b (Qj _ hb)
section
variable {α:Type} {t:Tm α} {i:Nat} {x:Tm α} {st:MS}
theorem cb_le {l:List (Tm α)} {i:Nat} (h:i≤sizes l):cb l i≤sizes l:=by
 have h1:=reg_le l h;have h2:=regs_length l;unfold regs at h2;unfold cb;omega
theorem MNext.trail {l':Trail} (hx:(regs t.args)[i]? = some x) (ha:x.args.length=0) (hm:x.kind≠0∨x.n∈met t.args i) (I:MInv t i st) (hok:okT st.m l') (hpre:∃ a,l'=a++st.l)
 (hsnd:∀ θ ρ,solves θ l'→(x.kind=0→∀ y,st.ss[posOf t.vars x.n]? = some y→subT θ y=ρ x.n)→∀ y,st.rs[i]? = some y→subT θ y=subT ρ x.bare)
 (hcpl:∀ θ ρ,MSol t ρ i st θ→solves θ l'):MNext t i x st ⟨st.m,l',st.rs,st.ss⟩:=by
 have hc:cb t.args (i+1)=cb t.args i:=by have:=(cb_next hx).1;omega
 have hmet:met t.args (i+1)=met t.args i:=by
  rw [met_succ hx];unfold addVar
  rcases hm with h | h
  · rw [if_neg (fun c=>h c.1)]
  · rw [if_neg (fun c=>c.2 h)]
 exact ⟨⟨hok,I.most,I.rl,I.sl,by rw [hc];exact I.own,by rw [hmet];exact I.slots⟩,Qm _,hpre,fun _ _=>rfl,fun _ _=>rfl,fun θ ρ hs _ h3=>hsnd θ ρ hs h3,fun θ ρ S=>⟨θ,fun _ _=>rfl,hcpl θ ρ S,by rw [hc];exact S.regs,by rw [hmet];exact S.slots⟩⟩
theorem walk_facts (I:MInv t i st) (hi:i < cb t.args i):∃ y,st.rs[i]? = some y∧st.rs.getD i (V 0)=y∧ownB st.m y=true∧ownB st.m (walkT st.l y)=true∧((walkT st.l y).kind=0→(walkT st.l y).n∉dom st.l)∧∀ θ,solves θ st.l→subT θ (walkT st.l y)=subT θ y:=by
 by_cases hlt:i < st.rs.length
 · have hy:st.rs[i]? = some st.rs[i]:=Qa hlt
   have ho:=I.own i _ hi hy;have hw:=walked I.ok _ st.rs[i] (Qm _) (good_ones' (ownB_iff.1 ho).1);exact ⟨_,hy,by rw [List.getD_eq_getElem?_getD,hy];rfl,ho,walkT_own I.ok _ _ (Qm _) ho,hw.free,fun θ hs=>solves_walk I.ok hs (good_ones' (ownB_iff.1 ho).1)⟩
 · exfalso
   have hrl:=I.rl
   have:i < sizes t.args∨sizes t.args≤i:=by omega
   rcases this with h | h
   · omega
   · have h1:cb t.args i≤sizes t.args:=by
      have hl:=regs_length t.args;unfold regs at hl;unfold cb
      have hs:∀ j,(reg t.args (sizes t.args+j)).length=sizes t.args:=by
       intro j
       induction j with
       | zero=>exact hl
       | succ j ih=>
        have hn:(reg t.args (sizes t.args+j))[sizes t.args+j]? = none:=List.getElem?_eq_none (by omega);rw [←Nat.add_assoc];simp only [reg,hn];exact ih
      have:=hs (i - sizes t.args);rw [show sizes t.args+(i - sizes t.args)=i by omega] at this;omega
     omega
theorem tie_step {c:Tm Unit} (hx:(regs t.args)[i]? = some x) (hg:goodB c=true) (hc0:¬ c.kind=0) (hca:c.args=[]) (hb:x.bare=c) (I:MInv t i st):MStep t i x st (tieM st (walkT st.l (st.rs.getD i (V 0))) c):=by
 obtain ⟨c1,c2,c3,c4⟩:=cb_next hx;obtain ⟨y,hy,hgd,ho,how,hfree,hsw⟩:=walk_facts I c2;rw [hgd]
 have hk:x.kind=c.kind:=by rw [←hb,bare_kind]
 have ha:x.args.length=0:=by
  have:x.bare.args=[]:=by rw [hb];exact hca
  rw [bare_args,bares_eq] at this;have:=congrArg List.length this;simpa using this
 have hsub:∀ ρ,subT ρ x.bare=c:=by
  intro ρ;rw [hb,subT_node ρ hc0,hca];exact (ext_mk rfl rfl rfl (by rw [hca];rfl))
 unfold tieM
 by_cases h0:(walkT st.l y).kind=0
 · rw [if_pos h0]
   by_cases he:setE st.m st.l (walkT st.l y).n c=0
   · rw [if_pos he]
     have hv:walkT st.l y=V (walkT st.l y).n:=(ownB_var how h0).2.2;refine MNext.trail hx ha (.inl (by rw [hk];exact hc0)) I (setE_ok I.ok he) ⟨[_],rfl⟩ ?_ ?_
     · intro θ ρ hs _ y' hy'
       rw [hy] at hy';injection hy' with hy';subst hy'
       obtain ⟨s1,s2⟩:=solves_cons.1 hs;rw [hsub,←hsw θ s2,hv,subT_V1];simp only at s1;rw [s1,←hb,hsub,hb]
     · intro θ ρ S
       refine solves_cons.2 ⟨?_,S.sol⟩;have h1:=S.regs i y x c2 hy hx;rw [hsub,←hsw θ S.sol,hv,subT_V1] at h1;show θ (walkT st.l y).n=subT θ c;rw [h1,←hb,hsub,hb]
   · rw [if_neg he]
     exact ⟨Qm _,I.most,fun e=>absurd e he⟩
 · rw [if_neg h0]
   by_cases hs:sameB (walkT st.l y) c=true
   · rw [if_pos hs]
     have he:walkT st.l y=c:=by
      unfold sameB at hs;simp only [Qd] at hs;exact (same_unit _ _).1 hs.2.2
     have:=MNext.trail (l':=st.l) hx ha (.inl (by rw [hk];exact hc0)) I I.ok ⟨[],rfl⟩ ?_ ?_
     · exact this
     · intro θ ρ hso _ y' hy'
       rw [hy] at hy';injection hy' with hy';subst hy'
       rw [hsub,←hsw θ hso,he,←hb,hsub,hb]
     · exact fun θ ρ S=>S.sol
   · rw [if_neg hs]
     refine ⟨Qm _,I.most,fun _ θ ρ S=>hs ?_⟩;have h1:=S.regs i y x c2 hy hx;rw [hsub,←hsw θ S.sol,subT_node θ h0] at h1
     have hargs:(walkT st.l y).args=[]:=by
      have:=congrArg args h1;simp only [args_mk] at this;have h2:=congrArg List.length this;rw [Qu,hca] at h2;exact Qh h2
     have he:walkT st.l y=c:=by
      rw [←h1];exact ext_mk rfl rfl rfl (by rw [hargs];rfl)
     unfold sameB;rw [he,hg,(same_unit c c).2 rfl];rfl
theorem val_step (hx:(regs t.args)[i]? = some x) (hk:x.kind=0) (hxb:x.bare=V x.n) (hv:x.n∈t.vars) (hm:x.n∈met t.args i) (I:MInv t i st):MStep t i x st (valM st (st.ss.getD (posOf t.vars x.n) (V 0)) (walkT st.l (st.rs.getD i (V 0)))):=by
 obtain ⟨c1,c2,c3,c4⟩:=cb_next hx;obtain ⟨y,hy,hgd,ho,how,hfree,hsw⟩:=walk_facts I c2;rw [hgd]
 have hps:posOf t.vars x.n < st.ss.length:=by rw [I.sl];exact List.idxOf_lt_length_of_mem hv
 have hz:st.ss[posOf t.vars x.n]? = some st.ss[posOf t.vars x.n]:=Qa hps;rw [List.getD_eq_getElem?_getD,hz,Option.getD_some];generalize st.ss[posOf t.vars x.n]=z at hz;have hzo:=I.slots _ hm z hz
 have ha:x.args.length=0:=by
  have:=congrArg (fun q=>q.args.length) hxb;simp only [bare_arity] at this;exact this
 have hsub:∀ ρ,subT ρ x.bare=ρ x.n:=fun ρ=>by rw [hxb,subT_V1]
 have hspec:=unify_spec I.most (2000+1) st.l 2000 [(z,walkT st.l y)] I.ok (fun p hp=>by rw [List.mem_singleton] at hp;rw [hp];exact ⟨hzo,how⟩) (unify st.l 2000 [(z,walkT st.l y)]) rfl
 have hall:∀ θ,allEq θ [(z,walkT st.l y)]↔subT θ z=subT θ (walkT st.l y):=fun θ=>by unfold allEq;simp
 have hb:bothR st.m st.l z (walkT st.l y)=(match unify st.l 2000 [(z,walkT st.l y)] with | .ok l' left'=>(true,2000 - (left':Int),0,l') | .no q=>(false,2000 - (q:Int),0,st.l) | .over=>(false,0,12,st.l)):=by
  unfold bothR;refine (if_pos ⟨hzo,how⟩).trans ?_
  cases unify st.l 2000 [(z,walkT st.l y)] <;> rfl
 unfold valM;rw [hb];revert hspec
 cases unify st.l 2000 [(z,walkT st.l y)] with
 | ok l' left'=>
  intro hspec;obtain ⟨s1,s2,_,s3⟩:=hspec;rw [if_pos ⟨rfl,rfl⟩];refine MNext.trail hx ha (.inr hm) I s1 s2 ?_ ?_
  · intro θ ρ hs h3 y' hy'
    rw [hy] at hy';injection hy' with hy';subst hy'
    obtain ⟨q1,q2⟩:=(s3 θ).1 hs;rw [hsub,←h3 hk z hz,(hall θ).1 q2,hsw θ q1]
  · intro θ ρ S
    refine (s3 θ).2 ⟨S.sol,(hall θ).2 ?_⟩;rw [S.slots _ hm z hz,hsw θ S.sol,S.regs i y x c2 hy hx,hsub]
 | no q=>
  intro hspec;rw [if_neg (fun c=>by cases c.1)];refine ⟨Qm _,I.most,fun _ θ ρ S=>hspec θ S.sol ((hall θ).2 ?_)⟩;rw [S.slots _ hm z hz,hsw θ S.sol,S.regs i y x c2 hy hx,hsub]
 | over=>
  intro hspec;rw [if_neg (fun c=>by cases c.1)];exact ⟨Qm _,I.most,fun e=>by cases e⟩
theorem var_step (hx:(regs t.args)[i]? = some x) (hk:x.kind=0) (hxb:x.bare=V x.n) (hv:x.n∈t.vars) (hmv:∀ v∈met t.args i,v∈t.vars) (hm:x.n∉met t.args i) (I:MInv t i st):MStep t i x st (.go ⟨st.m,st.l,st.rs,st.ss.set (posOf t.vars x.n) (walkT st.l (st.rs.getD i (V 0)))⟩):=by
 obtain ⟨c1,c2,c3,c4⟩:=cb_next hx;obtain ⟨y,hy,hgd,ho,how,hfree,hsw⟩:=walk_facts I c2;rw [hgd]
 have hps:posOf t.vars x.n < st.ss.length:=by rw [I.sl];exact List.idxOf_lt_length_of_mem hv
 have ha:x.args.length=0:=by
  have:=congrArg (fun q=>q.args.length) hxb;simp only [bare_arity] at this;exact this
 have hc:cb t.args (i+1)=cb t.args i:=by omega
 have hsub:∀ ρ,subT ρ x.bare=ρ x.n:=fun ρ=>by rw [hxb,subT_V1]
 have hmet:met t.args (i+1)=met t.args i++[x.n]:=by rw [met_succ hx];unfold addVar;rw [if_pos ⟨hk,hm⟩]
 have hself:(st.ss.set (posOf t.vars x.n) (walkT st.l y))[posOf t.vars x.n]? = some (walkT st.l y):=List.getElem?_set_self hps
 have hoth:∀ v∈met t.args i,(st.ss.set (posOf t.vars x.n) (walkT st.l y))[posOf t.vars v]? = st.ss[posOf t.vars v]?:=by
  intro v hvm;refine List.getElem?_set_ne (fun e=>hm ?_);have p1:=posOf_mem (hmv v hvm);have p2:=posOf_mem hv;rw [←e,p2] at p1
  injection p1 with p1
  rw [p1];exact hvm
 refine ⟨⟨I.ok,I.most,I.rl,by rw [List.length_set];exact I.sl,by rw [hc];exact I.own,?_⟩,Qm _,⟨[],rfl⟩,fun _ _=>rfl,hoth,?_,?_⟩
 · rw [hmet]
   intro v hvm z hz
   rcases Qn.1 hvm with h | h
   · rw [hoth v h] at hz;exact I.slots v h z hz
   · rw [List.mem_singleton] at h;subst h
     rw [hself] at hz;injection hz with hz;subst hz;exact how
 · intro θ ρ hs _ h3 y' hy'
   rw [hy] at hy';injection hy' with hy';subst hy'
   rw [hsub,←h3 hk _ hself,hsw θ hs]
 · intro θ ρ S
   refine ⟨θ,fun _ _=>rfl,S.sol,by rw [hc];exact S.regs,?_⟩;rw [hmet];intro v hvm z hz
   rcases Qn.1 hvm with h | h
   · rw [hoth v h] at hz;exact S.slots v h z hz
   · rw [List.mem_singleton] at h;subst h
     rw [hself] at hz;injection hz with hz;subst hz
     rw [hsw θ S.sol,S.regs i y x c2 hy hx,hsub]
theorem comp_step (hx:(regs t.args)[i]? = some x) (hk:x.kind=2) (hn:x.n=0) (ha:x.args.length≠0) (I:MInv t i st):MStep t i x st (compM st (walkT st.l (st.rs.getD i (V 0))) ⟨sComp,i,x.args.length,cb t.args i,0,x.name⟩):=by
 obtain ⟨c1,c2,c3,c4⟩:=cb_next hx;obtain ⟨y,hy,hgd,ho,how,hfree,hsw⟩:=walk_facts I c2;rw [hgd]
 have hmet:met t.args (i+1)=met t.args i:=by rw [met_succ hx];unfold addVar;rw [if_neg (fun c=>by omega)]
 have hrl:=I.rl
 have hsub:∀ ρ,subT ρ x.bare = .mk 2 0 x.name () (x.args.map fun r=>subT ρ r.bare):=by
  intro ρ
  have hk':¬ x.bare.kind=0:=by rw [bare_kind];omega
  rw [subT_node ρ hk',bare_kind,bare_n,bare_name,bare_args,bares_eq,List.map_map,hk,hn];rfl
 unfold compM;simp only [Int.toNat_natCast]
 by_cases h0:(walkT st.l y).kind=0
 · rw [if_pos h0]
   have hv:walkT st.l y=V (walkT st.l y).n:=(ownB_var how h0).2.2;have hvlt:=(ownB_var how h0).2.1
   by_cases hm:st.m+x.args.length≤65536
   · rw [if_pos hm]
     by_cases he:setE (st.m+x.args.length) st.l (walkT st.l y).n (newT ⟨sComp,i,x.args.length,cb t.args i,0,x.name⟩ st.m)=0
     · rw [if_pos he]
       have hnt:newT ⟨sComp,i,x.args.length,cb t.args i,0,x.name⟩ st.m = .mk 2 0 x.name () (news st.m x.args.length):=by unfold newT;simp only [Int.toNat_natCast]
       have hok:=setE_ok (I.ok.more (Nat.le_add_right _ _)) he;rw [hnt] at he hok ⊢
       have hle:cb t.args i+(news st.m x.args.length).length≤st.rs.length:=by rw [news_length];omega
       have hold:∀ j,j < cb t.args i→(putAt st.rs (cb t.args i) (news st.m x.args.length))[j]? = st.rs[j]?:=fun j hj=>putAt_old hle hj
       have hnew:∀ j,j < x.args.length→(putAt st.rs (cb t.args i) (news st.m x.args.length))[cb t.args i+j]? = some (V ((st.m+j:Nat):Int)):=fun j hj=>(putAt_new hle (by rw [news_length];exact hj)).trans (news_at hj)
       refine ⟨⟨hok,hm,by rw [putAt_length hle];exact hrl,I.sl,?_,?_⟩,Nat.le_add_right _ _,⟨[_],rfl⟩,hold,fun _ _=>rfl,?_,?_⟩
       · intro j z hj hz
         rcases Nat.lt_or_ge j (cb t.args i) with h | h
         · rw [hold j h] at hz;exact ownB_more (I.own j z h hz) (Nat.le_add_right _ _)
         · have:=hnew (j - cb t.args i) (by omega)
           rw [show cb t.args i+(j - cb t.args i)=j by omega,hz] at this
           injection this with this
           rw [this];exact ownB_V (by omega) (by show ((st.m+(j - cb t.args i):Nat):Int) < ((st.m+x.args.length:Nat):Int);omega) hm
       · rw [hmet]
         exact fun v hvm z hz=>ownB_more (I.slots v hvm z hz) (Nat.le_add_right _ _)
       · intro θ ρ hs h2 _ y' hy'
         rw [hy] at hy';injection hy' with hy';subst hy'
         obtain ⟨s1,s2⟩:=solves_cons.1 hs;rw [hsub,←hsw θ s2,hv,subT_V1];simp only at s1;rw [s1,subT_node θ (by simp only [kind];omega)];simp only [kind_mk,n_mk,name_mk,args_mk];congr 1;refine List.ext_getElem? (fun j=>?_);rw [Qp,Qp]
         by_cases hj:j < x.args.length
         · have hr:x.args[j]? = some x.args[j]:=Qa hj
           rw [news_at hj,hr,Option.map_some,Option.map_some,h2 j hj _ _ (hnew j hj) hr]
         · rw [List.getElem?_eq_none (by rw [news_length];omega),List.getElem?_eq_none (by omega)]
           rfl
       · intro θ ρ S
         let θ':Int→Tm Unit:=fun v=>if v < (st.m:Int) then θ v else match x.args[(v - (st.m:Int)).toNat]? with | none=>θ v | some r=>subT ρ r.bare
         have hag:∀ v,v < (st.m:Int)→θ' v=θ v:=fun v hv=>by show (if v < (st.m:Int) then θ v else _)=_;rw [if_pos hv]
         have hfr:∀ j r,x.args[j]? = some r→θ' ((st.m+j:Nat):Int)=subT ρ r.bare:=by
          intro j r hr;show (if ((st.m+j:Nat):Int) < (st.m:Int) then θ _ else _)=_;rw [if_neg (by omega),show (((st.m+j:Nat):Int) - (st.m:Int)).toNat=j by omega,hr]
         have h1:=S.regs i y x c2 hy hx;refine ⟨θ',hag,solves_cons.2 ⟨?_,solves_own I.ok hag S.sol⟩,?_,?_⟩
         · show θ' (walkT st.l y).n=subT θ' (.mk 2 0 x.name () (news st.m x.args.length))
           rw [hag _ hvlt];rw [hsub,←hsw θ S.sol,hv,subT_V1] at h1;rw [h1,subT_node θ' (by simp only [kind];omega)];simp only [kind_mk,n_mk,name_mk,args_mk];congr 1;refine List.ext_getElem? (fun j=>?_);rw [Qp,Qp]
           by_cases hj:j < x.args.length
           · have hr:x.args[j]? = some x.args[j]:=Qa hj
             rw [news_at hj,hr,Option.map_some,Option.map_some,subT_V1,hfr j _ hr]
           · rw [List.getElem?_eq_none (l:=news _ _) (by rw [news_length];omega),List.getElem?_eq_none (by omega)]
             rfl
         · intro j z r hj hz hr
           rcases Nat.lt_or_ge j (cb t.args i) with h | h
           · rw [hold j h] at hz
             rw [subT_own (I.own j z h hz) hag];exact S.regs j z r h hz hr
           · have hj':j - cb t.args i < x.args.length:=by omega
             have h5:=hnew (j - cb t.args i) hj';have h6:=c4 (j - cb t.args i) hj';rw [show cb t.args i+(j - cb t.args i)=j by omega] at h5 h6
             rw [hz] at h5;injection h5 with h5
             rw [hr] at h6;rw [h5,subT_V1,hfr _ r h6.symm]
         · rw [hmet]
           intro v hvm z hz;rw [subT_own (I.slots v hvm z hz) hag];exact S.slots v hvm z hz
     · rw [if_neg he]
       exact ⟨Nat.le_add_right _ _,hm,fun e=>absurd e he⟩
   · rw [if_neg hm]
     exact ⟨I.most,Qm _,fun e=>by cases e⟩
 · rw [if_neg h0]
   have hargs:∀ z∈(walkT st.l y).args,ownB st.m z=true:=fun z hz=>ownB_arg how h0 hz
   have hnode:∀ θ,solves θ st.l→subT θ y = .mk (walkT st.l y).kind (walkT st.l y).n (walkT st.l y).name () ((walkT st.l y).args.map (subT θ)):=fun θ hs=>by rw [←hsw θ hs,subT_node θ h0]
   by_cases hc:(walkT st.l y).name=x.name∧((walkT st.l y).args.length:Int)=(x.args.length:Int)
   · rw [if_pos hc]
     obtain ⟨hcn,hcl⟩:=hc
     have hcl:(walkT st.l y).args.length=x.args.length:=by omega
     have hk2:(walkT st.l y).kind=2∧(walkT st.l y).n=0:=by
      have:=one_args (good_ones' (ownB_iff.1 how).1 _ (by rw [flat_eq];exact Qe ..)) (fun e=>by rw [e] at hcl;simp at hcl;omega);exact ⟨this.1,this.2.1⟩
     have hle:cb t.args i+(walkT st.l y).args.length≤st.rs.length:=by omega
     have hold:∀ j,j < cb t.args i→(putAt st.rs (cb t.args i) (walkT st.l y).args)[j]? = st.rs[j]?:=fun j hj=>putAt_old hle hj
     have hnew:∀ j,j < x.args.length→(putAt st.rs (cb t.args i) (walkT st.l y).args)[cb t.args i+j]? = (walkT st.l y).args[j]?:=fun j hj=>putAt_new hle (by omega)
     refine ⟨⟨I.ok,I.most,by rw [putAt_length hle];exact hrl,I.sl,?_,by rw [hmet];exact I.slots⟩,Qm _,⟨[],rfl⟩,hold,fun _ _=>rfl,?_,?_⟩
     · intro j z hj hz
       rcases Nat.lt_or_ge j (cb t.args i) with h | h
       · rw [hold j h] at hz;exact I.own j z h hz
       · have:=hnew (j - cb t.args i) (by omega)
         rw [show cb t.args i+(j - cb t.args i)=j by omega,hz] at this;exact hargs z (Qf this.symm)
     · intro θ ρ hs h2 _ y' hy'
       rw [hy] at hy';injection hy' with hy';subst hy'
       rw [hsub,hnode θ hs,hk2.1,hk2.2,hcn];congr 1;refine List.ext_getElem? (fun j=>?_);rw [Qp,Qp]
       by_cases hj:j < x.args.length
       · have hr:x.args[j]? = some x.args[j]:=Qa hj
         have hz:(walkT st.l y).args[j]? = some ((walkT st.l y).args[j]'(by omega)):=Qa _;rw [hz,hr,Option.map_some,Option.map_some,h2 j hj _ _ ((hnew j hj).trans hz) hr]
       · rw [List.getElem?_eq_none (by omega),List.getElem?_eq_none (by omega)]
         rfl
     · intro θ ρ S
       refine ⟨θ,fun _ _=>rfl,S.sol,?_,by rw [hmet];exact S.slots⟩;have h1:=S.regs i y x c2 hy hx;rw [hsub,hnode θ S.sol] at h1;have h7:=congrArg args h1;simp only [args_mk] at h7;intro j z r hj hz hr
       rcases Nat.lt_or_ge j (cb t.args i) with h | h
       · rw [hold j h] at hz;exact S.regs j z r h hz hr
       · have hj':j - cb t.args i < x.args.length:=by omega
         have h5:=hnew (j - cb t.args i) hj';have h6:=c4 (j - cb t.args i) hj';rw [show cb t.args i+(j - cb t.args i)=j by omega] at h5 h6;rw [hz] at h5;rw [hr] at h6;have h8:=congrArg (fun q=>q[j - cb t.args i]?) h7;simp only [Qp] at h8;rw [←h5,←h6,Option.map_some,Option.map_some] at h8;injection h8
   · rw [if_neg hc]
     refine ⟨Qm _,I.most,fun _ θ ρ S=>hc ?_⟩;have h1:=S.regs i y x c2 hy hx;rw [hsub,hnode θ S.sol] at h1;have h7:=congrArg (fun q=>q.args.length) h1;have h8:=congrArg name h1;simp only [args_mk,name_mk,Qu] at h7 h8;exact ⟨h8,by omega⟩
end
end Tm
namespace Tm
section
variable {α:Type} {t:Tm α} {i:Nat} {x:Tm α} {st:MS}
theorem met_vars {i:Nat} {v:Int} (h:v∈met t.args i):v∈t.vars:=by
 obtain ⟨y,hy,h0,rfl⟩:=mem_met h;exact (mem_fold _ _ _).2 (.inr ⟨_,by rw [flat_eq];exact Qb _ hy,h0,rfl⟩)
theorem leaf_bare {x:Tm α} (h:x.args.length=0):x.bare = .mk x.kind x.n x.name () []:=by
 cases x with | mk k n s e aa=>
 simp only [args_mk] at h;obtain rfl:aa=[]:=Qh h;rfl
theorem goodB_leaf {c:Tm Unit} (h:goodOneB c=true) (ha:c.args=[]):goodB c=true:=by
 unfold goodB;rw [size_eq,depth_eq,flat_eq,ha];simp only [sizes,depths,flats,List.all_cons,List.all_nil,h];decide
theorem step_head (hg:goodB t=true) (hx:(regs t.args)[i]? = some x) (I:MInv t i st):MStep t i x st (stepM st (stepX t.vars t.args i x)):=by
 have hmem:x∈t.flat:=by rw [flat_eq];exact Qb _ (regs_flats x (Qf hx))
 have hones:∀ y∈t.flat,goodOneB y=true:=by
  unfold goodB at hg;simp only [Qd,decide_eq_true_eq,Qt] at hg;exact hg.2.2
 have hone:=hones x hmem;obtain ⟨n1,n2,n3,n4,n5,n6,n7,n8,n9,n10⟩:=ne_ops
 have hob:goodOneB x.bare=true:=by rw [goodOneB_bare];exact hone
 unfold stepM stepX
 by_cases h0:x.kind=0
 · have hxv:x.n∈t.vars:=(mem_fold _ _ _).2 (.inr ⟨_,hmem,h0,rfl⟩)
   have hxb:x.bare=V x.n:=by
    have:=leafy_good (t:=x.bare) (fun y hy=>?_)
    · have h2:=leafy_self this (by rw [bare_kind];exact h0)
      rw [bare_n] at h2;exact h2
    · rw [goodOneB_0 x h0] at hone
      simp only [Qd,decide_eq_true_eq] at hone;rw [leaf_bare hone.2.2.2] at hy hob;simp only [flat,flats,List.mem_singleton] at hy;rw [hy];exact hob
   rw [if_pos h0];simp only [Int.toNat_natCast]
   by_cases hm:x.n∈met t.args i
   · rw [if_pos hm,if_neg n1,if_pos rfl]
     exact val_step hx h0 hxb hxv hm I
   · rw [if_neg hm,if_pos rfl]
     exact var_step hx h0 hxb hxv (fun v hv=>met_vars hv) hm I
 · rw [if_neg h0]
   by_cases h1:x.kind=1
   · rw [goodOneB_1 x h1] at hone
     simp only [Qd,decide_eq_true_eq] at hone;have hb:=leaf_bare hone.2;rw [h1,(bytes_nil _).1 hone.1] at hb;rw [if_pos h1,if_neg n2,if_neg n3,if_pos rfl];simp only [Int.toNat_natCast];rw [hb] at hob;exact tie_step hx (goodB_leaf hob rfl) (by simp only [kind];omega) rfl hb I
   · have h2:x.kind=2:=by
      by_cases h2:x.kind=2
      · exact h2
      · rw [goodOneB_3 x h0 h1 h2] at hone;cases hone
     rw [goodOneB_2 x h2] at hone;simp only [Qd,decide_eq_true_eq] at hone;rw [if_neg h1]
     by_cases ha:x.args.length=0
     · have hb:=leaf_bare ha
       rw [h2,hone.1] at hb;rw [if_pos ha,if_neg n4,if_neg n5,if_neg n6,if_pos rfl];simp only [Int.toNat_natCast];rw [hb] at hob;exact tie_step hx (goodB_leaf hob rfl) (by simp only [kind];omega) rfl hb I
     · rw [if_neg ha,if_neg n7,if_neg n8,if_neg n9,if_neg n10]
       have:=comp_step hx h2 hone.1 ha I;simpa only [Int.toNat_natCast] using this
structure MLast (t:Tm α) (i:Nat) (st st':MS):Prop where
 inv:MInv t (sizes t.args) st'
 le:st.m≤st'.m
 pre:∃ a,st'.l=a++st.l
 rs:∀ j,j < cb t.args i→st'.rs[j]? = st.rs[j]?
 ss:∀ v∈met t.args i,st'.ss[posOf t.vars v]? = st.ss[posOf t.vars v]?
 snd:∀ θ ρ,solves θ st'.l→(∀ v∈met t.args (sizes t.args),∀ y,st'.ss[posOf t.vars v]? = some y→subT θ y=ρ v)→∀ j,i≤j→∀ y r,st'.rs[j]? = some y→(Tm.regs t.args)[j]? = some r→subT θ y=subT ρ r.bare
 cpl:∀ θ ρ,MSol t ρ i st θ→∃ θ',(∀ v,v < (st.m:Int)→θ' v=θ v)∧MSol t ρ (sizes t.args) st' θ'
def MRun (t:Tm α) (i:Nat) (st:MS):MR→Prop
 | .go st'=>MLast t i st st'
 | .stop e m'=>st.m≤m'∧m'≤65536∧(e=0→∀ θ ρ,¬ MSol t ρ i st θ)
theorem met_mono {l:List (Tm α)} {i:Nat}:∀ j,∀ v∈met l i,v∈met l (i+j):=by
 intro j
 induction j with
 | zero=>exact fun v h=>h
 | succ j ih=>
  intro v h;have h1:=ih v h
  cases hx:(regs l)[i+j]? with
  | none=>
   have:met l (i+(j+1))=met l (i+j):=by
    unfold met;have hl:=List.getElem?_eq_none_iff.1 hx;rw [List.take_of_length_le hl,List.take_of_length_le (by omega)]
   rw [this];exact h1
  | some x=>
   rw [←Nat.add_assoc,met_succ hx];unfold addVar
   split
   · exact Qc _ h1
   · exact h1
theorem run_head (hg:goodB t=true):∀ j i st,i+j=sizes t.args→MInv t i st→MRun t i st (runM st ((List.range' i j).map (stepAt t.vars t.args))):=by
 intro j
 induction j with
 | zero=>
  intro i st hi I
  obtain rfl:i=sizes t.args:=by omega
  rw [List.range'_zero,List.map_nil,runM];refine ⟨I,Qm _,⟨[],rfl⟩,fun _ _=>rfl,fun _ _=>rfl,?_,fun θ ρ S=>⟨θ,fun _ _=>rfl,S⟩⟩;intro θ ρ _ _ j hj y r _ hr;have:=(Qg.1 hr).1;rw [regs_length] at this;omega
 | succ j ih=>
  intro i st hi I;obtain ⟨x,hx,_,_⟩:=regs_some (l:=t.args) (i:=i) (by omega);obtain ⟨c1,c2,c3,c4⟩:=cb_next hx;rw [List.range'_succ,Qx]
  have hs:stepAt t.vars t.args i=stepX t.vars t.args i x:=by unfold stepAt;rw [hx]
  rw [hs,runM];have hstep:=step_head hg hx I;revert hstep
  cases stepM st (stepX t.vars t.args i x) with
  | stop e m'=>exact fun h=>h
  | go st1=>
   intro N;have hih:=ih (i+1) st1 (by omega) N.inv;show MRun t i st (runM st1 _);revert hih
   cases runM st1 ((List.range' (i+1) j).map (stepAt t.vars t.args)) with
   | stop e m'=>
    rintro ⟨h1,h2,h3⟩
    refine ⟨QA N.le h1,h2,fun he θ ρ S=>?_⟩;obtain ⟨θ',_,S'⟩:=N.cpl θ ρ S;exact h3 he θ' ρ S'
   | go st2=>
    intro M;obtain ⟨a1,ha1⟩:=N.pre;obtain ⟨a2,ha2⟩:=M.pre;have hmi:∀ v∈met t.args i,v∈met t.args (i+1):=met_mono 1;refine ⟨M.inv,QA N.le M.le,⟨a2++a1,by rw [ha2,ha1,List.append_assoc]⟩,fun q hq=>(M.rs q (by omega)).trans (N.rs q hq),fun v hv=>(M.ss v (hmi v hv)).trans (N.ss v hv),?_,?_⟩
    · intro θ ρ hso hsl q hq y r hy hr
      by_cases he:i=q
      · subst he
        rw [hx] at hr;injection hr with hr;subst hr
        rw [M.rs i (by omega),N.rs i c2] at hy;refine N.snd θ ρ (by rw [ha2] at hso;exact solves_pre hso) ?_ ?_ y hy
        · intro k hk z r hz hr
          rw [←M.rs _ (by omega)] at hz;exact M.snd θ ρ hso hsl _ (by omega) z r hz ((c4 k hk).trans hr)
        · intro hk z hz
          have hm1:x.n∈met t.args (i+1):=by
           rw [met_succ hx];unfold addVar
           by_cases hc:x.kind=0∧x.n∉met t.args i
           · rw [if_pos hc];exact Qj _ (List.mem_singleton.2 rfl)
           · rw [if_neg hc]
             by_cases hm:x.n∈met t.args i
             · exact hm
             · exact absurd ⟨hk,hm⟩ hc
          rw [←M.ss _ hm1] at hz;have:=met_mono (l:=t.args) (i:=i+1) j _ hm1;rw [show i+1+j=sizes t.args by omega] at this;exact hsl _ this z hz
      · exact M.snd θ ρ hso hsl q (by omega) y r hy hr
    · intro θ ρ S
      obtain ⟨θ1,e1,S1⟩:=N.cpl θ ρ S;obtain ⟨θ2,e2,S2⟩:=M.cpl θ1 ρ S1;exact ⟨θ2,fun v hv=>(e2 v (by have:=N.le;omega)).trans (e1 v hv),S2⟩
end
section
variable {α:Type} {t:Tm α} {m:Nat} {a:List (Tm Unit)}
def startM (t:Tm α) (m:Nat) (a:List (Tm Unit)):MS:=⟨m,[],putAt (List.replicate (sizes t.args) (V 0)) 0 a,List.replicate t.vars.length (V 0)⟩
theorem lens_le (l:List (Tm α)):l.length≤sizes l:=by
 have:=cb_le (l:=l) (Nat.zero_le _);rw [cb_zero] at this;exact this
theorem start_inv (hm:m≤65536) (hl:a.length=t.args.length) (ha:∀ z∈a,ownB m z=true):MInv t 0 (startM t m a):=by
 have hle:0+a.length≤(List.replicate (sizes t.args) (V 0)).length:=by rw [List.length_replicate];have:=lens_le t.args;omega
 refine ⟨trivial,hm,by unfold startM;rw [putAt_length hle,List.length_replicate],by unfold startM;rw [List.length_replicate],?_,?_⟩
 · intro j y hj hy
   rw [cb_zero] at hj;have:=putAt_new hle (j:=j) (by omega);rw [Nat.zero_add] at this;unfold startM at hy;rw [this] at hy;exact ha y (Qf hy)
 · intro v hv
   unfold met at hv;simp at hv
theorem start_at (hl:a.length=t.args.length) {j:Nat} (hj:j < a.length):(startM t m a).rs[j]? = a[j]?:=by
 have hle:0+a.length≤(List.replicate (sizes t.args) (V 0)).length:=by rw [List.length_replicate];have:=lens_le t.args;omega
 have:=putAt_new hle (j:=j) hj;rw [Nat.zero_add] at this;exact this
theorem start_sol (hl:a.length=t.args.length) {θ ρ:Int→Tm Unit} (h:∀ (j:Nat) (y:Tm Unit) (r:Tm α),a[j]? = some y→t.args[j]? = some r→subT θ y=subT ρ r.bare):MSol t ρ 0 (startM t m a) θ:=by
 refine ⟨fun b hb=>(by cases hb),?_,?_⟩
 · intro j y r hj hy hr
   rw [cb_zero] at hj;rw [start_at hl (by omega)] at hy;rw [regs_zero hj] at hr;exact h j y r hy hr
 · intro v hv
   unfold met at hv;simp at hv
noncomputable def matchR (t:Tm α) (m:Nat) (a:List (Tm Unit)):MR:=runM (startM t m a) (steps t.vars t.args (sizes t.args))
theorem match_run (hg:goodB t=true) (hm:m≤65536) (hl:a.length=t.args.length) (ha:∀ z∈a,ownB m z=true):MRun t 0 (startM t m a) (matchR t m a):=by
 unfold matchR steps;rw [List.range_eq_range'];exact run_head hg _ 0 _ (by omega) (start_inv hm hl ha)
structure MEqs (t:Tm α) (a s:List (Tm Unit)) (m:Nat) (lb lw:Trail):Prop where
 fwd:∃ θ,(∀ y∈a,subT θ (img lb y)=img lw y)∧∀ (j:Nat) (y:Tm Unit),s[j]? = some y→subT θ (img lb y)=img lw (V ((m:Int)+(j:Int)))
 bwd:∃ θ,(∀ y∈a,subT θ (img lw y)=img lb y)∧∀ (j:Nat) (y:Tm Unit),s[j]? = some y→subT θ (img lw (V ((m:Int)+(j:Int))))=img lb y
theorem vars_met (hk:t.kind≠0) {v:Int} (h:v∈t.vars):v∈met t.args (sizes t.args):=by
 unfold met;rw [List.take_of_length_le (by rw [regs_length];exact Qm _),mem_fold]
 rcases (mem_fold _ _ _).1 h with h | ⟨x,h,h3⟩
 · cases h
 · rw [flat_eq] at h
   rcases Qw.1 h with rfl | h
   · exact absurd h3.1 hk
   · exact .inr ⟨x,(regs_perm _).mem_iff.2 h,h3⟩
theorem alike_iff (hg:goodB t=true) (hk:t.kind=2) (hl:a.length=t.args.length) (θ:Int→Tm Unit) :
 subT θ (fromT t.bare (m:Int))=subT θ (.mk 2 0 t.name () a)↔∀ (j:Nat) (y:Tm Unit) (r:Tm α),a[j]? = some y→t.args[j]? = some r→subT θ y=subT (fun v=>θ (fromS t.vars (m:Int) v)) r.bare:=by
 have h:=hg;unfold goodB at h;simp only [Qd,decide_eq_true_eq,Qt] at h;have ht:=h.2.2 t (by rw [flat_eq];exact Qe ..);rw [goodOneB_2 t hk] at ht;simp only [Qd,decide_eq_true_eq] at ht
 have e1:subT θ (fromT t.bare (m:Int))=subT (fun v=>θ (fromS t.vars (m:Int) v)) t.bare:=by
  unfold fromT ren;rw [subT_subT,vars_bare];exact subT_congr _ (fun x _ _=>subT_V1 θ _)
 rw [e1,subT_node _ (show ¬ t.bare.kind=0 by rw [bare_kind];omega),subT_node θ (show ¬ (Tm.mk 2 0 t.name () a).kind=0 by simp only [kind];omega),bare_kind,bare_n,bare_name,bare_args,bares_eq,hk,ht.1];simp only [kind_mk,n_mk,name_mk,args_mk];constructor
 · intro e j y r hy hr
   have e2:=congrArg args e;simp only [args_mk] at e2;have e3:=congrArg (fun q=>q[j]?) e2;simp only [Qp,hy,hr,Option.map_some] at e3
   injection e3 with e3
   exact e3.symm
 · intro e
   congr 1;refine List.ext_getElem? (fun j=>?_);rw [Qp,Qp,Qp]
   by_cases hj:j < a.length
   · have h1:a[j]? = some a[j]:=Qa hj
     have h2:t.args[j]? = some (t.args[j]'(by omega)):=Qa _;rw [h1,h2,Option.map_some,Option.map_some,Option.map_some,e j _ _ h1 h2]
   · rw [List.getElem?_eq_none (l:=a) (by omega),List.getElem?_eq_none (l:=t.args) (by omega)]
     rfl
theorem match_law (hg:goodB t=true) (hk:t.kind=2) (hm:m+t.vars.length≤65536) (hl:a.length=t.args.length) (ha:∀ z∈a,ownB m z=true) {r:UR}
 (hr:UniOk (m+t.vars.length) [] 2000 [(fromT t.bare (m:Int),.mk 2 0 t.name () a)] r) :
 match matchR t m a,r with
 | .go st,.ok l _=>MEqs t a st.ss m st.l l∧okT st.m st.l∧st.ss.length=t.vars.length∧st.m≤65536∧m≤st.m∧∀ z∈st.ss,ownB st.m z=true
 | .go _,.no _=>False
 | .stop e _,.ok _ _=>e≠0
 | _,_=>True:=by
 have hrun:=match_run hg (by omega) hl ha
 have hall:∀ θ,allEq θ [(fromT t.bare (m:Int),.mk 2 0 t.name () a)]↔subT θ (fromT t.bare (m:Int))=subT θ (.mk 2 0 t.name () a):=fun θ=>by unfold allEq;simp
 have hss:∀ {st:MS},MLast t 0 (startM t m a) st→∀ j y,st.ss[j]? = some y→∃ v,t.vars[j]? = some v∧v∈met t.args (sizes t.args)∧posOf t.vars v=j:=by
  intro st M j y hy;have hj:=(Qg.1 hy).1;rw [M.inv.sl] at hj;have hv:t.vars[j]? = some t.vars[j]:=Qa hj;exact ⟨_,hv,vars_met (by omega) (List.getElem_mem hj),posOf_at (vars_nodup t) hv⟩
 -- a solution out of what Match left
 have hout:∀ {st:MS},MLast t 0 (startM t m a) st→∀ θ,solves θ st.l→∃ θ2:Int→Tm Unit,(∀ v,v < (m:Int)→θ2 v=θ v)∧(∀ (j:Nat) (y:Tm Unit),st.ss[j]? = some y→θ2 ((m:Int)+(j:Int))=subT θ y)∧subT θ2 (fromT t.bare (m:Int))=subT θ2 (.mk 2 0 t.name () a):=by
  intro st M θ hs
  let θ2:Int→Tm Unit:=fun v=>if v < (m:Int) then θ v else match st.ss[(v - (m:Int)).toNat]? with | none=>θ v | some y=>subT θ y
  have h1:∀ v,v < (m:Int)→θ2 v=θ v:=fun v hv=>by show (if v < (m:Int) then θ v else _)=_;rw [if_pos hv]
  have h2:∀ (j:Nat) (y:Tm Unit),st.ss[j]? = some y→θ2 ((m:Int)+(j:Int))=subT θ y:=by
   intro j y hy;show (if (m:Int)+(j:Int) < (m:Int) then θ _ else _)=_;rw [if_neg (by omega),show ((m:Int)+(j:Int) - (m:Int)).toNat=j by omega,hy]
  refine ⟨θ2,h1,h2,(alike_iff hg hk hl θ2).2 ?_⟩;intro j y r hy hr;rw [subT_own (ha y (Qf hy)) h1];have hjl:=(Qg.1 hy).1;refine M.snd θ _ hs ?_ j (Nat.zero_le _) y r ?_ ?_
  · intro v hv z hz
    have:=h2 _ _ hz;unfold fromS;exact this.symm
  · rw [M.rs j (by rw [cb_zero];omega),start_at hl hjl];exact hy
  · rw [regs_zero (by omega)];exact hr
 -- a solution for Match
 have hin:∀ θ,subT θ (fromT t.bare (m:Int))=subT θ (.mk 2 0 t.name () a)→MSol t (fun v=>θ (fromS t.vars (m:Int) v)) 0 (startM t m a) θ:=fun θ h=>start_sol hl ((alike_iff hg hk hl θ).1 h)
 revert hrun
 cases matchR t m a with
 | stop e m'=>
  rintro ⟨_,_,h3⟩
  cases r with
  | ok l q=>
   intro he;obtain ⟨o1,_,_,s1⟩:=hr;exact h3 he _ _ (hin _ ((hall _).1 ((s1 _).1 (sig_solves o1)).2))
  | no q=>trivial
  | over=>trivial
 | go st=>
  intro M
  cases r with
  | over=>trivial
  | no q=>
   obtain ⟨θ2,_,_,h⟩:=hout M _ (sig_solves M.inv.ok);exact hr θ2 (fun b hb=>by cases hb) ((hall _).2 h)
  | ok l q=>
   obtain ⟨o1,_,_,s1⟩:=hr
   have hslots:∀ z∈st.ss,ownB st.m z=true:=by
    intro z hz;obtain ⟨j,hj⟩:=List.mem_iff_getElem?.1 hz;obtain ⟨v,hv,hm,hp⟩:=hss M j z hj;exact M.inv.slots v hm z (by rw [hp];exact hj)
   refine ⟨⟨?_,?_⟩,M.inv.ok,M.inv.sl,M.inv.most,M.le,hslots⟩
   · obtain ⟨θ',e1,S⟩:=M.cpl _ _ (hin (sig l) ((hall _).1 ((s1 _).1 (sig_solves o1)).2))
     refine ⟨θ',fun y hy=>?_,fun j y hy=>?_⟩
     · rw [solves_img S.sol,subT_own (ha y hy) e1]
       rfl
     · obtain ⟨v,hv,hm,hp⟩:=hss M j y hy
       rw [solves_img S.sol,S.slots v hm y (by rw [hp];exact hy),img_V];unfold fromS;rw [hp]
   · obtain ⟨θ2,e1,e2,h⟩:=hout M (sig st.l) (sig_solves M.inv.ok)
     have hs2:solves θ2 l:=(s1 _).2 ⟨(fun b hb=>by cases hb),(hall _).2 h⟩;refine ⟨θ2,fun y hy=>?_,fun j y hy=>?_⟩
     · rw [solves_img hs2,subT_own (ha y hy) e1]
       rfl
     · rw [solves_img hs2,subT_V1,e2 j y hy]
       rfl
end
end Tm
end Go.Proofs.Ytoihjobdfjajfaa
namespace Go.Proofs.Ytoihjobdfjajfaa
open Go.RowKit Go.Maps
theorem wholeE_ok {m:Nat} {l:Tm.Trail} {t:Tm Unit} (h:wholeE m l t=0):Tm.ownB m t=true∧Tm.wholeB l t=true:=by
 unfold wholeE at h
 split at h
 · rename_i h1
   split at h
   · rename_i h2;exact ⟨h1,h2⟩
   · cases h
 · cases h
structure WholeQ (m:Nat) (l:Tm.Trail) (u:LT):Prop where
 good:goodB u.bare=true
 free:∀ v∈u.vars,0≤v∧v < (m:Int)∧v∉Tm.dom l
 again:wholeE m l u.bare=0
 same:wholeT m l u.bare=u.bare
theorem wholeQ {m:Nat} {l:Tm.Trail} {t:Tm Unit} {u:LT} (hl:Tm.okT m l) (h:wholeE m l t=0) (hu:u.bare=wholeT m l t):WholeQ m l u:=by
 obtain ⟨h1,h2⟩:=wholeE_ok h
 have e:u.bare=Tm.img l t:=by rw [hu];unfold wholeT;rw [h];rfl
 have hw:=Tm.whole_good hl h1 h2;obtain ⟨i1,i2⟩:=Tm.whole_whole hl h1 h2
 have ha:wholeE m l u.bare=0:=by unfold wholeE;rw [e,if_pos hw,if_pos i2]
 refine ⟨by rw [e];exact (Tm.ownB_iff.1 hw).1,fun v hv=>?_,ha,?_⟩
 · rw [←Tm.vars_bare,e] at hv
   obtain ⟨x,hx,hk,rfl⟩:=(Tm.vars_mem v).1 hv;have hg:=Tm.good_ones' (Tm.ownB_iff.1 hw).1 x hx;rw [goodOneB_0 x hk] at hg;simp only [Qd,decide_eq_true_eq] at hg;exact ⟨hg.1,(Tm.ownB_iff.1 hw).2 _ ⟨x,hx,hk,rfl⟩,Tm.img_vars_free hl h1 hv⟩
 · unfold wholeT;rw [ha,e];exact i1
theorem good_slimB {t:LT} (h:goodB t.bare=true):slim t:=by
 intro x hx;have h1:=Tm.good_ones' h x.bare (by rw [Tm.flat_bare];exact List.mem_map_of_mem hx);rw [goodOneB_bare] at h1
 by_cases ha:x.args=[]
 · rw [ha];exact Nat.zero_le _
 · have:=(Tm.one_args h1 ha).2.2;omega
theorem wholeVal {p O:Nat→Prop} {bb m:Nat} {l:TL} {w:World} {t:LT} {E:Int} (h:BO p bb O m l w) (ht:t.In p w) (hs:slim t) (hE:wholeE m (bt l) t.bare=E) :
 Calls Try.prog 89 #[.pointer (some ⟨bb,0,none⟩),.agg #[.int .i64 t.kind,.int .i64 t.n,.string t.name,.slice t.at_.1 t.args.length t.at_.2]] w fun e w'=>∃ u:LT,e = .returned (.tuple #[.agg #[.int .i64 u.kind,.int .i64 u.n,.string u.name,.slice u.at_.1 u.args.length u.at_.2],.int .i64 E])∧u.bare=wholeT m (bt l) t.bare∧u.In (fun k=>p k∨w.heap.size≤k) w'∧Turned zN w w':=by
 have:=wholeO89 h ht hs;rw [LT.val_eq,hE] at this
 exact this.mono fun e w' ⟨u,h1,h2⟩=>⟨u,by rw [h1,LT.val_eq],h2⟩
theorem varsVal {p:Nat→Prop} {w:World} {u:LT} (hu:u.In p w) (hg:goodB u.bare=true) :
 Calls Try.prog 34 #[.agg #[.int .i64 u.kind,.int .i64 u.n,.string u.name,.slice u.at_.1 u.args.length u.at_.2]] w fun e w'=>∃ (va:Option Addr) (vc:Nat),e = .returned (.slice va u.vars.length vc)∧Row w' 2 1 (.slice va u.vars.length vc) u.vars.length (u.vars.map (Value.int .i64))∧Turned zN w w':=by
 have hg':goodB u=true:=by rw [←goodB_bare];exact hg
 have:=vars34 hu (good_slimB hg);rw [LT.val_eq] at this;refine this.mono ?_
 rintro e w' ⟨v,rfl,hr,_,T⟩
 rw [show varsB u=u.vars from by unfold varsB;rw [if_pos hg']] at hr;obtain ⟨va,vc,rfl⟩:=hr.shape;exact ⟨va,vc,rfl,hr,T⟩
theorem bothVal {p O:Nat→Prop} {bb m:Nat} {l:TL} {w:World} {x y:LT} {ok:Bool} {c e:Int} {tr:Tm.Trail} (h:BO p bb O m l w) (hx:x.In p w) (sx:slim x) (hy:y.In p w) (sy:slim y) (hR:bothR m (bt l) x.bare y.bare=(ok,c,e,tr)) :
 Calls Try.prog 110 #[.pointer (some ⟨bb,0,none⟩),.agg #[.int .i64 x.kind,.int .i64 x.n,.string x.name,.slice x.at_.1 x.args.length x.at_.2],.agg #[.int .i64 y.kind,.int .i64 y.n,.string y.name,.slice y.at_.1 y.args.length y.at_.2]] w fun E w'=>E = .returned (.tuple #[.bool ok,.int .i64 c,.int .i64 e])∧∃ l2,bt l2=tr∧After p bb O m l2 w w':=by
 have:=bothO110 h hx sx hy sy;rw [LT.val_eq,LT.val_eq,hR] at this;exact this
end Go.Proofs.Ytoihjobdfjajfaa
namespace Go.Proofs.Ytoihjobdfjajfaa
open Go.RowKit Go.Maps
open Tm (Stp)
def stC (s:Stp):List Value:=[.string s.op,.int .i64 s.a,.int .i64 s.b,.int .i64 s.c,.int .i64 s.n,.string s.name]
theorem stC_length (s:Stp):(stC s).length=6:=rfl
theorem stC_one (s:Stp):∀ u∈stC s,u.oneCell'=true:=by
 intro u hu;simp only [stC,Qw,Ql,or_false] at hu
 rcases hu with rfl | rfl | rfl | rfl | rfl | rfl <;> rfl
theorem stCs_at {L:List Stp} {i:Nat} {s:Stp} (h:L[i]? = some s) (j:Nat) (hj:j < 6):(L.flatMap stC)[i * 6+j]? = (stC s)[j]?:=by
 induction L generalizing i with
 | nil=>simp at h
 | cons y l ih=>
  rw [List.flatMap_cons]
  cases i with
  | zero=>
   simp at h;subst h;rw [List.getElem?_append_left (by rw [stC_length];omega),Nat.zero_mul,Nat.zero_add]
  | succ i=>
   simp at h;rw [List.getElem?_append_right (by rw [stC_length];omega),stC_length]
   have:(i+1) * 6+j - 6=i * 6+j:=by omega
   rw [this];exact ih h
theorem step_cells {w:World} {L:List Stp} {g cap i:Nat} {s:Stp} (h:Row w 139 6 (.slice (some ⟨g,0,none⟩) L.length cap) L.length (L.flatMap stC)) (hi:L[i]? = some s) :
 w.cell? ⟨g,i * 6,none⟩=some (.string s.op)∧w.cell? ⟨g,i * 6+1,none⟩=some (.int .i64 s.a)∧w.cell? ⟨g,i * 6+2,none⟩=some (.int .i64 s.b)∧w.cell? ⟨g,i * 6+3,none⟩=some (.int .i64 s.c)∧w.cell? ⟨g,i * 6+4,none⟩=some (.int .i64 s.n)∧w.cell? ⟨g,i * 6+5,none⟩=some (.string s.name):=by
 have hc:=h.cells rfl;refine ⟨hc _ _ (by have:=stCs_at hi 0 (by omega);rw [Nat.add_zero] at this;rw [this];rfl),hc _ _ (by rw [stCs_at hi 1 (by omega)];rfl),hc _ _ (by rw [stCs_at hi 2 (by omega)];rfl),hc _ _ (by rw [stCs_at hi 3 (by omega)];rfl),hc _ _ (by rw [stCs_at hi 4 (by omega)];rfl),hc _ _ (by rw [stCs_at hi 5 (by omega)];rfl)⟩
def stOk (s:Stp):Prop:=s.op.size≤maxLen∧I64 s.a∧I64 s.b∧I64 s.c∧I64 s.n∧s.name.size≤maxLen
theorem cells6 {w:World} {bb:Nat} {a b c d e f:Value} {T:TypeId} (h:w.heap[bb]? = some (.cells #[a,b,c,d,e,f] T (0,0))) :
 w.cell? ⟨bb,0,none⟩=some a∧w.cell? ⟨bb,1,none⟩=some b∧w.cell? ⟨bb,2,none⟩=some c∧w.cell? ⟨bb,3,none⟩=some d∧w.cell? ⟨bb,4,none⟩=some e∧w.cell? ⟨bb,5,none⟩=some f:=
 ⟨by rw [cell_of_row w bb 0 _ T (0,0) h];rfl,by rw [cell_of_row w bb 1 _ T (0,0) h];rfl,by rw [cell_of_row w bb 2 _ T (0,0) h];rfl,by rw [cell_of_row w bb 3 _ T (0,0) h];rfl,by rw [cell_of_row w bb 4 _ T (0,0) h];rfl,by rw [cell_of_row w bb 5 _ T (0,0) h];rfl⟩
theorem free6 {w:World} {bb:Nat} {cs:Array Value} {T:TypeId} (h:w.heap[bb]? = some (.cells cs T (0,0))) (j:Nat):w.frozen? ⟨bb,j,none⟩=false:=frozen_of_row w bb j _ T h
end Go.Proofs.Ytoihjobdfjajfaa
namespace Go.Proofs.Ytoihjobdfjajfaa
open Go.RowKit Go.Maps
theorem run_copy_n {P:Program} (w:World) (dT sT ty elem:TypeId) (size g o dLen dCap:Nat) (a:Addr) (sLen sCap:Nat) (cur:Array Value) (t:TypeId) (cs:List Value)
 (hu:P.underlying dT=some (.slice elem)) (hs:(P.info? elem).map (·.size)=some size)
 (hg:w.heap[g]? = some (.cells cur t (0,0))) (hn:cs.length=Nat.min sLen dLen * size)
 (hsrc:∀ j v,cs[j]? = some v→w.cell? (a.add j)=some v) (hfit:o+cs.length≤cur.size) (h1:∀ v∈cs,v.oneCell'=true) :
 (Builtin.copy_ #[dT,sT] ty #[.slice (some ⟨g,o,none⟩) dLen dCap,.slice (some a) sLen sCap]).run P w =
  .ok (goInt (Nat.min sLen dLen)) (w.setRow g (cur.toList.take o++cs++cur.toList.drop (o+cs.length)).toArray):=by
 have hl:=run_loadCells_list (P:=P) w a cs hsrc;have hst:=run_storeCells_at P g o t cs 0 cur w hg (by simpa using hfit) h1
 cases hq:P.info? elem with
 | none=>simp [hq] at hs
 | some i=>
  have hi:i.size=size:=by simpa [hq] using hs
  simp [Builtin.copy_,run_underlying hu,Builtin.lenOf,Builtin.firstCells,sizeOf,typeInfo,hq,hi,←hn,hl,hst]
def MK (N bb mb gr gs R S:Nat) (bx:List (Nat × Obj)) (ts:List LT) (w1:World) (st:Tm.MS) (W:World):Prop:=
 ∃ (q:Nat→Prop) (l:TL) (O:Nat→Prop) (rs ss:List LT),(∀ k,k < N→q k)∧bt l=st.l∧BO q bb O st.m l W∧(∀ k,O k→N≤k)∧Turned zN w1 W∧
  W.heap[mb]? = some (.cells #[.pointer (some ⟨bb,0,none⟩),.slice (some ⟨gr,0,none⟩) R R,.slice (some ⟨gs,0,none⟩) S S] 197 (0,0))∧
  (Row W 27 4 (.slice (some ⟨gr,0,none⟩) R R) R (rs.flatMap LT.cells)∧rs.map Tm.bare=st.rs∧∀ x∈rs,x.In q W)∧(Row W 27 4 (.slice (some ⟨gs,0,none⟩) S S) S (ss.flatMap LT.cells)∧ss.map Tm.bare=st.ss∧∀ x∈ss,x.In q W)∧
  (∀ g,g=mb∨g=gr∨g=gs→N≤g∧¬ O g∧¬ q g)∧(mb≠gr∧mb≠gs∧gr≠gs)∧(∀ b∈bx,W.heap[b.1]? = some b.2∧¬ O b.1∧b.1≠mb∧b.1≠gr∧b.1≠gs∧¬ q b.1)∧∀ x∈ts,x.In q W
section
variable {N bb mb gr gs R S:Nat} {bx:List (Nat × Obj)} {ts:List LT} {w1 W W' W0:World} {st st':Tm.MS} {x t:LT}
theorem MK.turned0 (h:MK N bb mb gr gs R S bx ts w1 st W) (T:Turned zN W W'):MK N bb mb gr gs R S bx ts w1 st W':=by
 obtain ⟨q,l,O,rs,ss,h1,h2,h3,h4,h5,h6,⟨r1,r2,r3⟩,⟨s1,s2,s3⟩,h9,h10,h11,h12⟩:=h;exact ⟨q,l,O,rs,ss,h1,h2,h3.turned0 T,h4,h5.trans T,(T.bt h6),⟨r1.turned0 T,r2,fun x hx=>(r3 x hx).turned0 T⟩,⟨s1.turned0 T,s2,fun x hx=>(s3 x hx).turned0 T⟩,h9,h10,fun b hb=>⟨(T.bt (h11 b hb).1),(h11 b hb).2⟩,fun x hx=>(h12 x hx).turned0 T⟩
theorem MK.old (h:MK N bb mb gr gs R S bx ts w1 st W):Turned zN w1 W:=by
 obtain ⟨q,l,O,rs,ss,h1,h2,h3,h4,h5,_⟩:=h;exact h5
theorem MK.mbox (h:MK N bb mb gr gs R S bx ts w1 st W):W.heap[mb]? = some (.cells #[.pointer (some ⟨bb,0,none⟩),.slice (some ⟨gr,0,none⟩) R R,.slice (some ⟨gs,0,none⟩) S S] 197 (0,0)):=by
 obtain ⟨q,l,O,rs,ss,h1,h2,h3,h4,h5,h6,_⟩:=h;exact h6
theorem MK.boxes (h:MK N bb mb gr gs R S bx ts w1 st W):∀ b∈bx,W.heap[b.1]? = some b.2:=by
 obtain ⟨q,l,O,rs,ss,h1,h2,h3,h4,h5,h6,h7,h8,h9,h10,h11,h12⟩:=h
 exact fun b hb=>(h11 b hb).1
theorem MK.terms (h:MK N bb mb gr gs R S bx ts w1 st W):∀ x∈ts,x.In (fun _=>True) W:=by
 obtain ⟨q,l,O,rs,ss,h1,h2,h3,h4,h5,h6,h7,h8,h9,h10,h11,h12⟩:=h
 exact fun x hx=>(h12 x hx).mono (fun _ _ _=>trivial)
theorem MK.ok (h:MK N bb mb gr gs R S bx ts w1 st W):Tm.okT st.m st.l:=by
 obtain ⟨q,l,O,rs,ss,h1,h2,h3,_⟩:=h;rw [←h2];exact h3.ok
theorem MK.most (h:MK N bb mb gr gs R S bx ts w1 st W):st.m≤65536:=by
 obtain ⟨q,l,O,rs,ss,h1,h2,h3,_⟩:=h;exact h3.most
theorem MK.lens (h:MK N bb mb gr gs R S bx ts w1 st W):st.rs.length=R∧st.ss.length=S:=by
 obtain ⟨q,l,O,rs,ss,h1,h2,h3,h4,h5,h6,⟨r1,r2,r3⟩,⟨s1,s2,s3⟩,_⟩:=h;have e1:=r1.1;have e2:=s1.1;rw [LT.flat_length] at e1 e2;rw [←r2,←s2,Qu,Qu];omega
theorem MK.box (h:MK N bb mb gr gs R S bx ts w1 st W) (o:Obj):MK N bb mb gr gs R S ((W.heap.size,o) :: bx) ts w1 st (W.alloc o):=by
 have T:=(Turned.refl (fun _=>False) W).alloc o;obtain ⟨q,l,O,rs,ss,h1,h2,h3,h4,h5,h6,⟨r1,r2,r3⟩,⟨s1,s2,s3⟩,h9,h10,h11,h12⟩:=h;have l1:=(zL h6);have l2:=r1.lt gr rfl;have l3:=s1.lt gs rfl;refine ⟨q,l,O,rs,ss,h1,h2,h3.turned0 T,h4,h5.trans T,(T.block _ l1 (fun f=>f)).trans h6,⟨r1.turned0 T,r2,fun x hx=>(r3 x hx).turned0 T⟩,⟨s1.turned0 T,s2,fun x hx=>(s3 x hx).turned0 T⟩,h9,h10,fun b hb=>?_,fun x hx=>(h12 x hx).turned0 T⟩
 rcases Qw.1 hb with rfl | hb
 · exact ⟨heap_alloc_new W o,fun c=>Qy _ (h3.lt _ c),fun e=>by simp only [] at e;omega,fun e=>by simp only [] at e;omega,fun e=>by simp only [] at e;omega,fun c=>Qy _ (h3.plt _ c)⟩
 · exact ⟨(T.bt (h11 b hb).1),(h11 b hb).2⟩
theorem MK.keep (h:MK N bb mb gr gs R S bx ts w1 st W0) (T:Turned zN W0 W) (hx:x.In (fun k=>k < N∨W0.heap.size≤k) W):MK N bb mb gr gs R S bx (x :: ts) w1 st W:=by
 obtain ⟨q,l,O,rs,ss,h1,h2,h3,h4,h5,h6,⟨r1,r2,r3⟩,⟨s1,s2,s3⟩,h9,h10,h11,h12⟩:=h;have l1:=(zL h6);have l2:=r1.lt gr rfl;have l3:=s1.lt gs rfl
 have up:∀ {y:LT},y.In q W0→y.In (fun k=>q k∨(W0.heap.size≤k∧k < W.heap.size)) W:=fun hy=>(hy.turned0 T).mono (fun _ _ h=>.inl h)
 refine ⟨fun k=>q k∨(W0.heap.size≤k∧k < W.heap.size),l,O,rs,ss,fun k hk=>.inl (h1 k hk),h2,(h3.turned0 T).wide (fun k hk=>.inl hk) (fun k hk=>?_),h4,h5.trans T,(T.block _ l1 (fun f=>f)).trans h6,⟨r1.turned0 T,r2,fun x hx=>up (r3 x hx)⟩,⟨s1.turned0 T,s2,fun x hx=>up (s3 x hx)⟩,fun g hg=>⟨(h9 g hg).1,(h9 g hg).2.1,fun c=>?_⟩,h10,fun b hb=>⟨(T.bt (h11 b hb).1),(h11 b hb).2.1,(h11 b hb).2.2.1,(h11 b hb).2.2.2.1,(h11 b hb).2.2.2.2.1,fun c=>c.elim (h11 b hb).2.2.2.2.2 (fun c=>by have:=(zL (h11 b hb).1);omega)⟩,fun y hy=>?_⟩
 · rcases hk with hk | hk
   · exact ⟨Qo (h3.plt k hk) T.size,h3.sep k hk⟩
   · exact ⟨hk.2,fun c=>by have:=h3.lt k c;omega⟩
 · rcases c with c | c
   · exact (h9 g hg).2.2 c
   · rcases hg with rfl | rfl | rfl <;> omega
 · rcases Qw.1 hy with rfl | hy
   · exact hx.mono (fun k hk h=>h.elim (fun h=>.inl (h1 k h)) (fun h=>.inr ⟨h,hk⟩))
   · exact up (h12 y hy)
theorem MK.call (hN:N=w1.heap.size) (h:MK N bb mb gr gs R S bx ts w1 st W):∃ (q O:Nat→Prop) (l:TL),BO q bb O st.m l W∧bt l=st.l∧(∀ k,k < N→q k)∧(∀ x∈ts,x.In q W)∧∀ m' l' w',After q bb O m' l' W w'→MK N bb mb gr gs R S bx ts w1 ⟨m',bt l',st.rs,st.ss⟩ w':=by
 obtain ⟨q,l,O,rs,ss,h1,h2,h3,h4,h5,h6,⟨r1,r2,r3⟩,⟨s1,s2,s3⟩,h9,h10,h11,h12⟩:=h;refine ⟨q,O,l,h3,h2,h1,h12,fun m' l' w' ha=>?_⟩;obtain ⟨O',a1,a2,a3⟩:=ha;have l1:=(zL h6);have l2:=r1.lt gr rfl;have l3:=s1.lt gs rfl
 have up:∀ {y:LT},y.In q W→y.In q w':=fun hy=>LT.In.turned a3 (fun k _ hk e=>h3.sep k hk e) (fun _ _ q=>q) _ hy
 refine ⟨q,l',O',rs,ss,h1,rfl,a1,fun k hk=>?_,h5.step a3 (fun i hi e=>by have:=h4 i e;omega),(a3.block mb l1 (h9 mb (.inl rfl)).2.1).trans h6,⟨r1.turned a3 (fun k hk e=>?_),r2,fun x hx=>up (r3 x hx)⟩,⟨s1.turned a3 (fun k hk e=>?_),s2,fun x hx=>up (s3 x hx)⟩,fun g hg=>⟨(h9 g hg).1,fun c=>(h9 g hg).2.1 (a2 g c (by rcases hg with rfl | rfl | rfl <;> assumption)),(h9 g hg).2.2⟩,h10,fun b hb=>?_,fun x hx=>up (h12 x hx)⟩
 · rcases Nat.lt_or_ge k W.heap.size with hh | hh
   · exact h4 k (a2 k hk hh)
   · have:=h5.size;omega
 · simp [Value.ownBlock] at hk
   exact (h9 gr (.inr (.inl rfl))).2.1 (hk ▸ e)
 · simp [Value.ownBlock] at hk
   exact (h9 gs (.inr (.inr rfl))).2.1 (hk ▸ e)
 · obtain ⟨c1,c2,c3⟩:=h11 b hb
   have hlt:=(zL c1);exact ⟨(a3.block _ hlt c2).trans c1,fun e=>c2 (a2 _ e hlt),c3⟩
theorem MK.reg (h:MK N bb mb gr gs R S bx ts w1 st W) {i:Nat} {y:Tm Unit} (hy:st.rs[i]? = some y):∃ r:LT,r.bare=y∧(W.cell? ⟨gr,i * 4,none⟩=some (.int .i64 r.kind)∧W.cell? ⟨gr,i * 4+1,none⟩=some (.int .i64 r.n)∧W.cell? ⟨gr,i * 4+2,none⟩=some (.string r.name)∧W.cell? ⟨gr,i * 4+3,none⟩=some (.slice r.at_.1 r.args.length r.at_.2))∧MK N bb mb gr gs R S bx (r :: ts) w1 st W:=by
 obtain ⟨q,l,O,rs,ss,h1,h2,h3,h4,h5,h6,⟨r1,r2,r3⟩,h8,h9,h10,h11,h12⟩:=h;rw [←r2,Qp] at hy;obtain ⟨r,hr,rfl⟩:=Option.map_eq_some_iff.1 hy;obtain ⟨g,hg,c0,c1,c2,c3⟩:=row_at r1 hr
 injection hg with hg
 injection hg with hg
 subst hg;exact ⟨r,rfl,⟨c0,c1,c2,c3⟩,q,l,O,rs,ss,h1,h2,h3,h4,h5,h6,⟨r1,r2,r3⟩,h8,h9,h10,h11,fun x hx=>(Qw.1 hx).elim (fun e=>e ▸ r3 r (Qf hr)) (h12 x)⟩
theorem MK.slot (h:MK N bb mb gr gs R S bx ts w1 st W) {i:Nat} {y:Tm Unit} (hy:st.ss[i]? = some y):∃ r:LT,r.bare=y∧(W.cell? ⟨gs,i * 4,none⟩=some (.int .i64 r.kind)∧W.cell? ⟨gs,i * 4+1,none⟩=some (.int .i64 r.n)∧W.cell? ⟨gs,i * 4+2,none⟩=some (.string r.name)∧W.cell? ⟨gs,i * 4+3,none⟩=some (.slice r.at_.1 r.args.length r.at_.2))∧MK N bb mb gr gs R S bx (r :: ts) w1 st W:=by
 obtain ⟨q,l,O,rs,ss,h1,h2,h3,h4,h5,h6,h7,⟨s1,s2,s3⟩,h9,h10,h11,h12⟩:=h;rw [←s2,Qp] at hy;obtain ⟨r,hr,rfl⟩:=Option.map_eq_some_iff.1 hy;obtain ⟨g,hg,c0,c1,c2,c3⟩:=row_at s1 hr
 injection hg with hg
 injection hg with hg
 subst hg;exact ⟨r,rfl,⟨c0,c1,c2,c3⟩,q,l,O,rs,ss,h1,h2,h3,h4,h5,h6,h7,⟨s1,s2,s3⟩,h9,h10,h11,fun x hx=>(Qw.1 hx).elim (fun e=>e ▸ s3 r (Qf hr)) (h12 x)⟩
theorem MK.setSlot (hN:N=w1.heap.size) (h:MK N bb mb gr gs R S bx (x :: ts) w1 st W) {i:Nat} (hi:i < S) :
 MK N bb mb gr gs R S bx (x :: ts) w1 ⟨st.m,st.l,st.rs,st.ss.set i x.bare⟩ ((((W.setCell ⟨gs,i * 4,none⟩ (.int .i64 x.kind)).setCell ⟨gs,i * 4+1,none⟩ (.int .i64 x.n)).setCell ⟨gs,i * 4+2,none⟩ (.string x.name)).setCell ⟨gs,i * 4+3,none⟩ (.slice x.at_.1 x.args.length x.at_.2)):=by
 obtain ⟨q,l,O,rs,ss,h1,h2,h3,h4,h5,h6,⟨r1,r2,r3⟩,⟨s1,s2,s3⟩,h9,h10,h11,h12⟩:=h
 have Tq:Turned (fun k=>k=gs) W ((((W.setCell ⟨gs,i * 4,none⟩ (.int .i64 x.kind)).setCell ⟨gs,i * 4+1,none⟩ (.int .i64 x.n)).setCell ⟨gs,i * 4+2,none⟩ (.string x.name)).setCell ⟨gs,i * 4+3,none⟩ (.slice x.at_.1 x.args.length x.at_.2)):=
  ((((Turned.refl (fun k=>k=gs) W).setCell (p:=⟨gs,i * 4,none⟩) (.inr rfl) _).setCell (p:=⟨gs,i * 4+1,none⟩) (.inr rfl) _).setCell (p:=⟨gs,i * 4+2,none⟩) (.inr rfl) _).setCell (p:=⟨gs,i * 4+3,none⟩) (.inr rfl) _
 have hgs:=h9 gs (.inr (.inr rfl))
 have up:∀ {y:LT},y.In q W→y.In q _:=fun {y} hy=>LT.In.turned Tq (fun k _ hk e=>hgs.2.2 (e ▸ hk)) (fun _ _ q=>q) y hy
 have e2:=s1.1;rw [LT.flat_length] at e2;have t1:=s1.setAt (off:=i * 4) (by omega) (.int .i64 x.kind);have t2:=t1.setAt (off:=i * 4+1) (by omega) (.int .i64 x.n);have t3:=t2.setAt (off:=i * 4+2) (by omega) (.string x.name);have t4:=t3.setAt (off:=i * 4+3) (by omega) (.slice x.at_.1 x.args.length x.at_.2);rw [flat_set (by omega)] at t4;refine ⟨q,l,O,rs,ss.set i x,h1,h2,h3.turned Tq (fun k hk e=>⟨fun c=>hgs.2.1 (e ▸ c),fun c=>hgs.2.2 (e ▸ c)⟩),h4,h5.step Tq (fun k hk e=>by have:=hgs.1;omega),(Tq.block mb (zL h6) h10.2.1).trans h6,⟨r1.turned Tq (fun k hk e=>by simp [Value.ownBlock] at hk;exact h10.2.2 (hk.trans e)),r2,fun y hy=>up (r3 y hy)⟩,⟨t4,by rw [List.map_set,s2],fun y hy=>?_⟩,h9,h10,fun b hb=>⟨(Tq.block _ (zL (h11 b hb).1) (h11 b hb).2.2.2.2.1).trans (h11 b hb).1,(h11 b hb).2⟩,fun y hy=>up (h12 y hy)⟩
 rcases List.mem_or_eq_of_mem_set hy with hy | rfl
 · exact up (s3 y hy)
 · exact up (h12 y (Qe ..))
end
def ownD (wb:Nat) (tv iv rv:Value) (k:Nat):Prop:=k=wb∨tv.ownBlock=some k∨iv.ownBlock=some k∨rv.ownBlock=some k
structure DB (p:Nat→Prop) (wb:Nat) (tv iv rv:Value) (us:List LT) (is:List Bool) (tr:List Int) (w:World):Prop where
 b:w.heap[wb]? = some (.cells #[tv,iv,rv] 113 (0,0))
 row:Row w 41 4 tv us.length (us.flatMap LT.cells)
 bools:Row w 4 1 iv is.length (is.map Value.bool)
 trail:Row w 2 1 rv tr.length (tr.map (Value.int .i64))
 same:is.length=us.length
 ins:LT.Ins p w us
 most:us.length≤65536
 ne:tv.ownBlock≠some wb∧iv.ownBlock≠some wb∧rv.ownBlock≠some wb∧(∀ k,tv.ownBlock=some k→iv.ownBlock≠some k∧rv.ownBlock≠some k)∧∀ k,iv.ownBlock=some k→rv.ownBlock≠some k
 sep:∀ k,p k→k < w.heap.size∧¬ ownD wb tv iv rv k
section
variable {p:Nat→Prop} {wb:Nat} {tv iv rv:Value} {us:List LT} {is:List Bool} {tr:List Int} {w w':World}
theorem DB.own_lt (h:DB p wb tv iv rv us is tr w):∀ k,ownD wb tv iv rv k→k < w.heap.size:=by
 rintro k (rfl | hk | hk | hk)
 · exact (zL h.b)
 · exact h.row.lt k hk
 · exact h.bools.lt k hk
 · exact h.trail.lt k hk
theorem DB.turned {S:Nat→Prop} (h:DB p wb tv iv rv us is tr w) (ht:Turned S w w') (hS:∀ k,k < w.heap.size→S k→¬ ownD wb tv iv rv k∧¬ p k):DB p wb tv iv rv us is tr w':=by
 have hb:=(zL h.b)
 exact ⟨(ht.block _ hb (fun f=>(hS _ hb f).1 (.inl rfl))).trans h.b,
  h.row.turned ht (fun k hk f=>(hS _ (h.row.lt k hk) f).1 (.inr (.inl hk))),
  h.bools.turned ht (fun k hk f=>(hS _ (h.bools.lt k hk) f).1 (.inr (.inr (.inl hk)))),
  h.trail.turned ht (fun k hk f=>(hS _ (h.trail.lt k hk) f).1 (.inr (.inr (.inr hk)))),h.same,
  LT.Ins.turned ht (fun k hk hq f=>(hS k hk f).2 hq) (fun _ _ q=>q) _ h.ins,h.most,h.ne,fun k hk=>⟨Qo (h.sep k hk).1 ht.size,(h.sep k hk).2⟩⟩
theorem DB.turned0 (h:DB p wb tv iv rv us is tr w) (ht:Turned zN w w'):DB p wb tv iv rv us is tr w':=
 h.turned ht (fun _ _ f=>f.elim)
theorem DB.none {w:World} (hp:∀ k,p k→k < w.heap.size):DB p w.heap.size (.slice none 0 0) (.slice none 0 0) (.slice none 0 0) [] [] [] (w.alloc (.cells #[.slice none 0 0,.slice none 0 0,.slice none 0 0] 113)):=by
 refine ⟨heap_alloc_new w _,Row.nil _ _ _,Row.nil _ _ _,Row.nil _ _ _,rfl,trivial,Nat.zero_le _,⟨by simp [Value.ownBlock],by simp [Value.ownBlock],by simp [Value.ownBlock],fun k hk=>by simp [Value.ownBlock] at hk,fun k hk=>by simp [Value.ownBlock] at hk⟩,fun k hk=>?_⟩;have:=hp k hk;refine ⟨by simp;omega,?_⟩
 rintro (e | e | e | e)
 · omega
 · simp [Value.ownBlock] at e
 · simp [Value.ownBlock] at e
 · simp [Value.ownBlock] at e
end
section
variable {p:Nat→Prop} {wb:Nat} {tv iv rv tv' iv':Value} {us:List LT} {is:List Bool} {tr:List Int} {w w':World}
theorem DB.fresh (h:DB p wb tv iv rv us is tr w) (hm:us.length < 65536) (ht:Turned (fun k=>k=wb∨tv.ownBlock=some k∨iv.ownBlock=some k) w w') (hb:w'.heap[wb]? = some (.cells #[tv',iv',rv] 113 (0,0)))
 (hr:Row w' 41 4 tv' (us.length+1) (us.flatMap LT.cells++(leaf 0 0 ByteArray.empty:LT).cells)) (hi:Row w' 4 1 iv' (is.length+1) (is.map Value.bool++[.bool false]))
 (ho:tv'.ownBlock=tv.ownBlock∨∀ k,tv'.ownBlock=some k→w.heap.size≤k) (ho2:iv'.ownBlock=iv.ownBlock∨∀ k,iv'.ownBlock=some k→w.heap.size≤k) (hd:∀ k,tv'.ownBlock=some k→iv'.ownBlock≠some k) :
 DB p wb tv' iv' rv (us++[leaf 0 0 ByteArray.empty]) (is++[false]) tr w':=by
 obtain ⟨n1,n2,n3,n4,n5⟩:=h.ne;have hbl:=(zL h.b)
 have old:∀ {a a':Value},(a'.ownBlock=a.ownBlock∨∀ k,a'.ownBlock=some k→w.heap.size≤k)→∀ q,q < w.heap.size→a'.ownBlock=some q→a.ownBlock=some q:=fun ho q hq e=>by
  rcases ho with ho | ho
  · exact ho ▸ e
  · have:=ho q e;omega
 have hown:∀ k,k < w.heap.size→ownD wb tv' iv' rv k→ownD wb tv iv rv k:=by
  rintro k hk (rfl | hq | hq | hq)
  · exact .inl rfl
  · exact .inr (.inl (old ho k hk hq))
  · exact .inr (.inr (.inl (old ho2 k hk hq)))
  · exact .inr (.inr (.inr hq))
 refine ⟨hb,?_,?_,h.trail.turned ht (fun k hk e=>?_),by simp [h.same],(LT.ins_append _ _).2 ⟨LT.Ins.turned ht (fun k hk hq e=>?_) (fun _ _ q=>q) _ h.ins,?_⟩,by simp;omega,⟨fun e=>n1 (old ho _ hbl e),fun e=>n2 (old ho2 _ hbl e),n3,fun k hk=>⟨hd k hk,fun e=>?_⟩,fun k hk e=>?_⟩,fun k hk=>⟨Qo (h.sep k hk).1 ht.size,fun c=>(h.sep k hk).2 (hown k (h.sep k hk).1 c)⟩⟩
 · rw [Qi,List.flatMap_append]
   simpa using hr
 · rw [Qi,List.map_append]
   simpa using hi
 · rcases e with e | e | e
   · exact n3 (e ▸ hk)
   · exact (n4 k e).2 hk
   · exact n5 k e hk
 · refine (h.sep k hq).2 ?_
   rcases e with e | e | e
   · exact .inl e
   · exact .inr (.inl e)
   · exact .inr (.inr (.inl e))
 · exact ⟨var_in (i64_lit 0 (by omega)),trivial⟩
 · have hl:=h.trail.lt k e
   exact (n4 k (old ho k hl hk)).2 e
 · have hl:=h.trail.lt k e
   exact n5 k (old ho2 k hl hk) e
end
structure Chain (e:TypeId) (size:Nat) (tv:Value) (n:Nat) (xs news:List Value) (i j:Nat) (w0:World) (hs:Hist) (W:World):Prop where
 old:(∀ v,(j,v)∉hs)→Row W e size tv n xs
 one:∀ v,(i,v)∈hs→(∀ x,(j,x)∉hs)→∃ S,v = .slice (some ⟨S,0,none⟩) 1 1∧w0.heap.size≤S∧W.heap[S]? = some (.cells news.toArray e (0,0))
 new:∀ v,(j,v)∈hs→∃ g cap,v = .slice (some ⟨g,0,none⟩) (n+1) cap∧Row W e size v (n+1) (xs++news)∧(some g=tv.ownBlock∨w0.heap.size≤g)
section
variable {e:TypeId} {size:Nat} {tv:Value} {n:Nat} {xs news:List Value} {i j:Nat} {w0 W W':World} {hs:Hist}
theorem Chain.start (h:Row w0 e size tv n xs) (T:Turned zN w0 W):Chain e size tv n xs news i j w0 [] W:=
 ⟨fun _=>h.turned0 T,fun v h=>(Ql h).elim,fun v h=>(Ql h).elim⟩
theorem Chain.turned {S:Nat→Prop} (h:Chain e size tv n xs news i j w0 hs W) (T:Turned S W W') (hS:∀ k,S k→k < w0.heap.size∧tv.ownBlock≠some k):Chain e size tv n xs news i j w0 hs W':=by
 refine ⟨fun hn=>(h.old hn).turned T (fun k hk c=>(hS k c).2 hk),fun v hv hn=>?_,fun v hv=>?_⟩
 · obtain ⟨B,h1,h2,h3⟩:=h.one v hv hn
   exact ⟨B,h1,h2,(T.block B (zL h3) (fun c=>by have:=(hS B c).1;omega)).trans h3⟩
 · obtain ⟨g,cap,h1,h2,h3⟩:=h.new v hv
   refine ⟨g,cap,h1,h2.turned T (fun k hk c=>?_),h3⟩;rw [h1] at hk;simp only [Value.ownBlock,Option.some.injEq] at hk;subst hk
   rcases h3 with h3 | h3
   · exact (hS _ c).2 h3.symm
   · have:=(hS _ c).1;omega
theorem Chain.turned0 (h:Chain e size tv n xs news i j w0 hs W) (T:Turned zN W W'):Chain e size tv n xs news i j w0 hs W':=h.turned T (fun _ f=>f.elim)
theorem Chain.other {q:Nat} {x:Value} (h:Chain e size tv n xs news i j w0 hs W) (hi:q≠i) (hj:q≠j):Chain e size tv n xs news i j w0 (hs++[(q,x)]) W:=by
 have ne:∀ {a:Nat} {v:Value},a≠q→(a,v)∈hs++[(q,x)]→(a,v)∈hs:=fun ha hm=>by
  rcases mem_snoc hm with hm | ⟨c,_⟩
  · exact hm
  · exact absurd c ha
 exact ⟨fun hn=>h.old (fun v c=>hn v (Qc _ c)),fun v hv hn=>h.one v (ne hi.symm hv) (fun x c=>hn x (Qc _ c)),fun v hv=>h.new v (ne hj.symm hv)⟩
theorem Chain.laid (h:Chain e size tv n xs news i j w0 hs W) (hw:w0.heap.size≤W.heap.size) (hij:i≠j) (hno:∀ v,(i,v)∉hs):Chain e size tv n xs news i j w0 (hs++[(i,.slice (some ⟨W.heap.size,0,none⟩) 1 1)]) (W.alloc (.cells news.toArray e)):=by
 have T:Turned zN W (W.alloc (.cells news.toArray e)):=(Turned.refl _ W).alloc _;have hk:=h.turned0 T;refine ⟨fun hn=>hk.old (fun v c=>hn v (Qc _ c)),fun v hv hn=>?_,fun v hv=>?_⟩
 · rcases mem_snoc hv with hm | ⟨_,c⟩
   · exact absurd hm (hno v)
   · exact ⟨_,c,hw,heap_alloc_new W _⟩
 · rcases mem_snoc hv with hm | ⟨c,_⟩
   · exact hk.new v hm
   · exact absurd c.symm hij
theorem Chain.appended {g cap:Nat} (hno:∀ v,(j,v)∉hs) (hr:Row W' e size (.slice (some ⟨g,0,none⟩) (n+1) cap) (n+1) (xs++news)) (hg:some g=tv.ownBlock∨w0.heap.size≤g):Chain e size tv n xs news i j w0 (hs++[(j,.slice (some ⟨g,0,none⟩) (n+1) cap)]) W':=by
 refine ⟨fun hn=>absurd (Qj _ (List.mem_singleton.2 rfl)) (hn _),fun v hv hn=>absurd (Qj _ (List.mem_singleton.2 rfl)) (hn _),fun v hv=>?_⟩
 rcases mem_snoc hv with hm | ⟨_,c⟩
 · exact absurd hm (hno v)
 · subst c
   exact ⟨g,cap,rfl,hr,hg⟩
end
abbrev zc:List Value:=(leaf 0 0 ByteArray.empty:LT).cells
structure FsR (wb:Nat) (tv iv rv:Value) (us:List LT) (is:List Bool) (w0:World) (hs:Hist) (W:World):Prop where
 t:Turned (fun k=>k=wb∨tv.ownBlock=some k∨iv.ownBlock=some k) w0 W
 ct:Chain 41 4 tv us.length (us.flatMap LT.cells) zc 7 8 w0 hs W
 ci:Chain 4 1 iv is.length (is.map Value.bool) [.bool false] 13 14 w0 hs W
 blk:∃ a b,W.heap[wb]? = some (.cells #[a,b,rv] 113 (0,0))∧((∀ q,(17,q)∉hs)→a=tv)∧(∀ q,(17,q)∈hs→(8,a)∈hs)∧((∀ q,(20,q)∉hs)→b=iv)∧∀ q,(20,q)∈hs→(14,b)∈hs
section
variable {p:Nat→Prop} {wb:Nat} {tv iv rv:Value} {us:List LT} {is:List Bool} {tr:List Int} {w0 W W':World} {hs:Hist}
theorem FsR.start (h:DB p wb tv iv rv us is tr w0) (T:Turned zN w0 W):FsR wb tv iv rv us is w0 [] W:=by
 have h':=h.turned0 T;exact ⟨T.mono (fun _ _ f=>f.elim),Chain.start h.row T,Chain.start h.bools T,tv,iv,h'.b,fun _=>rfl,fun q hq=>(Ql hq).elim,fun _=>rfl,fun q hq=>(Ql hq).elim⟩
theorem FsR.turned0 (h:FsR wb tv iv rv us is w0 hs W) (T:Turned zN W W'):FsR wb tv iv rv us is w0 hs W':=by
 obtain ⟨a,b,h1,h2,h3,h4,h5⟩:=h.blk;exact ⟨h.t.trans (T.mono (fun _ _ f=>f.elim)),h.ct.turned0 T,h.ci.turned0 T,a,b,(T.block wb (zL h1) (fun f=>f)).trans h1,h2,h3,h4,h5⟩
theorem blk_other {q:Nat} {x:Value} (h7:q≠17) (h2:q≠20) (h:∃ a b,W.heap[wb]? = some (.cells #[a,b,rv] 113 (0,0))∧((∀ q,(17,q)∉hs)→a=tv)∧(∀ q,(17,q)∈hs→(8,a)∈hs)∧((∀ q,(20,q)∉hs)→b=iv)∧∀ q,(20,q)∈hs→(14,b)∈hs) :
 ∃ a b,W.heap[wb]? = some (.cells #[a,b,rv] 113 (0,0))∧((∀ y,(17,y)∉hs++[(q,x)])→a=tv)∧(∀ y,(17,y)∈hs++[(q,x)]→(8,a)∈hs++[(q,x)])∧((∀ y,(20,y)∉hs++[(q,x)])→b=iv)∧∀ y,(20,y)∈hs++[(q,x)]→(14,b)∈hs++[(q,x)]:=by
 have ne:∀ {a:Nat} {v:Value},a≠q→(a,v)∈hs++[(q,x)]→(a,v)∈hs:=fun ha hm=>by
  rcases mem_snoc hm with hm | ⟨c,_⟩
  · exact hm
  · exact absurd c ha
 obtain ⟨a,b,g1,g2,g3,g4,g5⟩:=h;exact ⟨a,b,g1,fun hn=>g2 (fun y c=>hn y (Qc _ c)),fun y hy=>Qc _ (g3 y (ne h7.symm hy)),fun hn=>g4 (fun y c=>hn y (Qc _ c)),fun y hy=>Qc _ (g5 y (ne h2.symm hy))⟩
theorem FsR.laidT (h:FsR wb tv iv rv us is w0 hs W) (hno:∀ v,(7,v)∉hs):FsR wb tv iv rv us is w0 (hs++[(7,.slice (some ⟨W.heap.size,0,none⟩) 1 1)]) (W.alloc (.cells zc.toArray 41)):=by
 have T:Turned zN W (W.alloc (.cells zc.toArray 41)):=(Turned.refl _ W).alloc _;have h':=h.turned0 T;exact ⟨h'.t,h.ct.laid h.t.size (by decide) hno,h'.ci.other (by decide) (by decide),blk_other (by decide) (by decide) h'.blk⟩
theorem FsR.laidI (h:FsR wb tv iv rv us is w0 hs W) (hno:∀ v,(13,v)∉hs):FsR wb tv iv rv us is w0 (hs++[(13,.slice (some ⟨W.heap.size,0,none⟩) 1 1)]) (W.alloc (.cells #[.bool false] 4)):=by
 have T:Turned zN W (W.alloc (.cells #[.bool false] 4)):=(Turned.refl _ W).alloc _;have h':=h.turned0 T;exact ⟨h'.t,h'.ct.other (by decide) (by decide),h.ci.laid h.t.size (by decide) hno,blk_other (by decide) (by decide) h'.blk⟩
end
section
variable {p:Nat→Prop} {wb:Nat} {tv iv rv:Value} {us:List LT} {is:List Bool} {tr:List Int} {w0 W W':World} {hs:Hist}
theorem FsR.appT {g cap:Nat} (hd:DB p wb tv iv rv us is tr w0) (h:FsR wb tv iv rv us is w0 hs W) (hno:∀ v,(8,v)∉hs) (T:Turned (fun k=>tv.ownBlock=some k) W W') (hr:Row W' 41 4 (.slice (some ⟨g,0,none⟩) (us.length+1) cap) (us.length+1) (us.flatMap LT.cells++zc)) (hg:some g=tv.ownBlock∨g=W.heap.size) :
 FsR wb tv iv rv us is w0 (hs++[(8,.slice (some ⟨g,0,none⟩) (us.length+1) cap)]) W':=by
 obtain ⟨n1,n2,n3,n4,n5⟩:=hd.ne;obtain ⟨a,b,h1,h2,h3,h4,h5⟩:=h.blk;refine ⟨h.t.step T (fun i hi e=>.inr (.inl e)),Chain.appended hno hr (hg.imp_right fun e=>by have:=h.t.size;omega),(h.ci.turned T (fun k hk=>⟨hd.row.lt k hk,(n4 k hk).1⟩)).other (by decide) (by decide),?_⟩;exact blk_other (by decide) (by decide) ⟨a,b,(T.block wb (zL h1) n1).trans h1,h2,h3,h4,h5⟩
theorem FsR.appI {g cap:Nat} (hd:DB p wb tv iv rv us is tr w0) (h:FsR wb tv iv rv us is w0 hs W) (hno:∀ v,(14,v)∉hs) (T:Turned (fun k=>iv.ownBlock=some k) W W') (hr:Row W' 4 1 (.slice (some ⟨g,0,none⟩) (is.length+1) cap) (is.length+1) (is.map Value.bool++[.bool false])) (hg:some g=iv.ownBlock∨g=W.heap.size) :
 FsR wb tv iv rv us is w0 (hs++[(14,.slice (some ⟨g,0,none⟩) (is.length+1) cap)]) W':=by
 obtain ⟨n1,n2,n3,n4,n5⟩:=hd.ne;obtain ⟨a,b,h1,h2,h3,h4,h5⟩:=h.blk;refine ⟨h.t.step T (fun i hi e=>.inr (.inr e)),(h.ct.turned T (fun k hk=>⟨hd.bools.lt k hk,fun c=>(n4 k c).1 hk⟩)).other (by decide) (by decide),Chain.appended hno hr (hg.imp_right fun e=>by have:=h.t.size;omega),?_⟩;exact blk_other (by decide) (by decide) ⟨a,b,(T.block wb (zL h1) n2).trans h1,h2,h3,h4,h5⟩
theorem turned_cell (W:World) (g j:Nat) (v:Value):Turned (fun k=>k=g) W (W.setCell ⟨g,j,none⟩ v):=
 (Turned.refl (fun k=>k=g) W).setCell (p:=⟨g,j,none⟩) (.inr rfl) v
theorem FsR.stT {v x:Value} (hd:DB p wb tv iv rv us is tr w0) (h:FsR wb tv iv rv us is w0 hs W) (h8:(8,v)∈hs):FsR wb tv iv rv us is w0 (hs++[(17,x)]) (W.setCell ⟨wb,0,none⟩ v):=by
 obtain ⟨n1,n2,n3,n4,n5⟩:=hd.ne;obtain ⟨a,b,h1,h2,h3,h4,h5⟩:=h.blk;have T:=turned_cell W wb 0 v;have hl:=(zL hd.b);have hset:=heap_setCell_same W wb 0 _ 113 v h1;refine ⟨h.t.step T (fun i hi e=>.inl e),(h.ct.turned T (fun k hk=>⟨by omega,fun c=>n1 (by rw [c,hk])⟩)).other (by decide) (by decide),(h.ci.turned T (fun k hk=>⟨by omega,fun c=>n2 (by rw [c,hk])⟩)).other (by decide) (by decide),v,b,by simpa using hset,fun hn=>absurd (Qj _ (List.mem_singleton.2 rfl)) (hn x),fun q hq=>Qc _ h8,fun hn=>h4 (fun q c=>hn q (Qc _ c)),fun q hq=>Qc _ (h5 q ?_)⟩
 rcases mem_snoc hq with hm | ⟨c,_⟩
 · exact hm
 · cases c
theorem FsR.stI {v x:Value} (hd:DB p wb tv iv rv us is tr w0) (h:FsR wb tv iv rv us is w0 hs W) (h14:(14,v)∈hs):FsR wb tv iv rv us is w0 (hs++[(20,x)]) (W.setCell ⟨wb,1,none⟩ v):=by
 obtain ⟨n1,n2,n3,n4,n5⟩:=hd.ne;obtain ⟨a,b,h1,h2,h3,h4,h5⟩:=h.blk;have T:=turned_cell W wb 1 v;have hl:=(zL hd.b);have hset:=heap_setCell_same W wb 1 _ 113 v h1;refine ⟨h.t.step T (fun i hi e=>.inl e),(h.ct.turned T (fun k hk=>⟨by omega,fun c=>n1 (by rw [c,hk])⟩)).other (by decide) (by decide),(h.ci.turned T (fun k hk=>⟨by omega,fun c=>n2 (by rw [c,hk])⟩)).other (by decide) (by decide),a,v,by simpa using hset,fun hn=>h2 (fun q c=>hn q (Qc _ c)),fun q hq=>Qc _ (h3 q ?_),fun hn=>absurd (Qj _ (List.mem_singleton.2 rfl)) (hn x),fun q hq=>Qc _ h14⟩
 rcases mem_snoc hq with hm | ⟨c,_⟩
 · exact hm
 · cases c
theorem FsR.done (hd:DB p wb tv iv rv us is tr w0) (hm:us.length < 65536) (h:FsR wb tv iv rv us is w0 hs W) (hall:∀ i∈[7,8,13,14,17,20],∃ v,(i,v)∈hs):∃ tv' iv',DB p wb tv' iv' rv (us++[leaf 0 0 ByteArray.empty]) (is++[false]) tr W∧Turned (fun k=>k=wb∨tv.ownBlock=some k∨iv.ownBlock=some k) w0 W∧(tv'.ownBlock=tv.ownBlock∨∀ k,tv'.ownBlock=some k→w0.heap.size≤k)∧(iv'.ownBlock=iv.ownBlock∨∀ k,iv'.ownBlock=some k→w0.heap.size≤k):=by
 obtain ⟨a,b,h1,h2,h3,h4,h5⟩:=h.blk;obtain ⟨q,hq⟩:=hall 17 (by simp);obtain ⟨r,hr⟩:=hall 20 (by simp);obtain ⟨g,cap,rfl,r1,g1⟩:=h.ct.new _ (h3 q hq);obtain ⟨g',cap',rfl,r2,g2⟩:=h.ci.new _ (h5 r hr)
 have o1:(Value.slice (some ⟨g,0,none⟩) (us.length+1) cap).ownBlock=tv.ownBlock∨∀ k,(Value.slice (some ⟨g,0,none⟩) (us.length+1) cap).ownBlock=some k→w0.heap.size≤k:=by
  rcases g1 with g1 | g1
  · exact .inl (by simpa [Value.ownBlock] using g1)
  · exact .inr (fun k hk=>by simp [Value.ownBlock] at hk;omega)
 have o2:(Value.slice (some ⟨g',0,none⟩) (is.length+1) cap').ownBlock=iv.ownBlock∨∀ k,(Value.slice (some ⟨g',0,none⟩) (is.length+1) cap').ownBlock=some k→w0.heap.size≤k:=by
  rcases g2 with g2 | g2
  · exact .inl (by simpa [Value.ownBlock] using g2)
  · exact .inr (fun k hk=>by simp [Value.ownBlock] at hk;omega)
 refine ⟨_,_,hd.fresh hm h.t h1 r1 r2 o1 o2 (fun k k1 k2=>?_),h.t,o1,o2⟩;simp only [Value.ownBlock,Option.some.injEq] at k1 k2;subst k1;subst k2
 rcases r1.2 with ⟨c,_⟩ | ⟨x,xc,cur,e1,e2,_⟩
 · cases c
 rcases r2.2 with ⟨c,_⟩ | ⟨y,yc,cur',f1,f2,_⟩
 · cases c
 injection e1 with e1;injection e1 with e1;injection e1 with e1
 injection f1 with f1;injection f1 with f1;injection f1 with f1
 subst e1;rw [←f1,e2] at f2
 injection f2 with f2
 injection f2 with _ f2
 cases f2
end
end Go.Proofs.Ytoihjobdfjajfaa
namespace Go.Proofs.Ytoihjobdfjajfaa
open Lib (hid)
open Go.RowKit Go.Maps
theorem rec3b {w:World} {bb:Nat} {x y z:Value} {T:TypeId} (h:w.heap[bb]? = some (.cells #[x,y,z] T (0,0))) :
 w.cell? ⟨bb,0,none⟩=some x∧w.cell? ⟨bb,1,none⟩=some y∧w.cell? ⟨bb,2,none⟩=some z∧w.frozen? ⟨bb,0,none⟩=false∧w.frozen? ⟨bb,1,none⟩=false∧w.frozen? ⟨bb,2,none⟩=false:=
 ⟨by rw [cell_of_row w bb 0 _ T (0,0) h];rfl,by rw [cell_of_row w bb 1 _ T (0,0) h];rfl,by rw [cell_of_row w bb 2 _ T (0,0) h];rfl,frozen_of_row w bb 0 _ T h,frozen_of_row w bb 1 _ T h,frozen_of_row w bb 2 _ T h⟩
theorem infoB4:(Try.prog.info? 4).map (fun i=>(i.zero,i.size,i.bytes))=some (some (.bool false),1,1):=by kernel_rfl
section
variable {p:Nat→Prop} {wb:Nat} {tv iv rv:Value} {us:List LT} {is:List Bool} {tr:List Int} {w:World}
set_option maxRecDepth 100000 in
theorem fresh103 (h:DB p wb tv iv rv us is tr w) (hm:us.length < 65536) :
 Calls Try.prog 103 #[.pointer (some ⟨wb,0,none⟩)] w fun e w'=>e = .returned (.tuple #[.agg #[.int .i64 0,.int .i64 (us.length:Int),.string ByteArray.empty,.slice none 0 0],.bool true])∧∃ tv' iv',DB p wb tv' iv' rv (us++[leaf 0 0 ByteArray.empty]) (is++[false]) tr w'∧Turned (fun k=>k=wb∨tv.ownBlock=some k∨iv.ownBlock=some k) w w'∧(tv'.ownBlock=tv.ownBlock∨∀ k,tv'.ownBlock=some k→w.heap.size≤k)∧(iv'.ownBlock=iv.ownBlock∨∀ k,iv'.ownBlock=some k→w.heap.size≤k):=by
 obtain ⟨i0,hi0,hz0,hz1,hz2⟩:=info_parts infoR;obtain ⟨i1,hi1,hy0,hy1,hy2⟩:=info_parts infoB4;obtain ⟨a,c,rfl⟩:=h.row.shape;have hmx:=h.row.max;obtain ⟨w2,hw2⟩:∃ z,z=w.alloc (.cells #[.int .i64 0,.int .i64 0,.string ⟨#[]⟩,.slice none 0 0] 41):=⟨_,rfl⟩
 have T2:Turned zN w w2:=by rw [hw2];exact (Turned.refl _ w).alloc _
 have hb2:w2.heap[w.heap.size]? = some (.cells #[.int .i64 0,.int .i64 0,.string ⟨#[]⟩,.slice none 0 0] 41 (0,0)):=by rw [hw2];exact heap_alloc_new w _
 have hd2:=h.turned0 T2;have hb3:=hd2.b;rw [hw2] at hb3;obtain ⟨d0,d1,d2,g0,g1,g2⟩:=rec3b hb3;have H:=hid h;have H2:=hid hd2;have HT2:=hid T2;have HB2:=hid hb2;have HW2:=hid hw2;have hge:decide (65536≤(us.length:Int))=false:=decide_eq_false (by omega);have HM:=hid hm;clear h hd2 T2 hb2 hb3 hm hw2;go_enter Try.func103,Try.ntmps103
 go_wp2_with fail
 rw [←HW2.out];clear d0 d1 d2 g0 g1 g2;refine wp_region_k [11,12,13,14,15,16,17,18,19,20,21,22,23,24,25,26,27,28,29] [7,8,13,14,17,20] [(18,7),(19,8),(24,13),(25,14)] (fun dd vv=>(match dd with | 11=>vv = .pointer (some ⟨wb,0,none⟩) | 12=>vv = .pointer (some ⟨wb,0,none⟩) | 13=>vv = .pointer (some ⟨wb,0,none⟩) | 14=>vv = .pointer (some ⟨wb,0,none⟩) | 15=>vv = .pointer (some ⟨wb,0,none⟩) | 16=>vv = .slice a us.length c | 17=>vv = .agg #[.int .i64 0,.int .i64 0,.string ⟨#[]⟩,.slice none 0 0] | 20=>vv = .pointer (some ⟨wb,0,none⟩) | 21=>vv = .pointer (some ⟨wb,0,none⟩) | 22=>vv = .pointer (some ⟨wb,1,none⟩) | 23=>vv=iv | 26=>vv = .pointer (some ⟨wb,0,none⟩) | 27=>vv = .pointer (some ⟨wb,0,none⟩) | 28=>vv = .pointer (some ⟨wb,0,none⟩) | 29=>vv = .pointer (some ⟨wb,1,none⟩) | _=>True:Prop)) (FsR wb (.slice a us.length c) iv rv us is w2) (by kernel_rfl) rfl (by kernel_rfl) (by kernel_rfl) (fun w h=>FsR.start H2.out h) (fun hs w w' h ht=>h.turned0 ht) ?hs ?hQ
 case hs=>
  refine ⟨?s0,?s1,?s2,?s3,?s4,?s5,?s6,?s7,?s8,?s9,?s10,?s11,?s12,?s13,?s14,?s15,?s16,?s17,?s18,?s19,?s20,trivial⟩
  case s0=>refine fun hs hl=>zG [] [0] fun ac W hT hI hO=>?_;simp only [execOp,Act.eval,hO 0 (by simp)];go_simp;try exact tq
  case s1=>refine fun hs hl=>zG [] [0] fun ac W hT hI hO=>?_;simp only [execOp,Act.eval,hO 0 (by simp)];go_simp;try exact tq
  case s2=>refine fun hs hl=>zG [] [0] fun ac W hT hI hO=>?_;simp only [execOp,Act.eval,hO 0 (by simp)];go_simp;try exact tq
  case s3=>refine fun hs hl=>zG [13] [] fun ac W hT hI hO=>?_;have h13:_=_:=hI 13 (by simp);simp only [execOp,Act.eval,h13];go_simp;try exact tq
  case s4=>refine fun hs hl=>zG [14] [] fun ac W hT hI hO=>?_;have h14:_=_:=hI 14 (by simp);simp only [execOp,Act.eval,h14];go_simp;try exact tq
  case s5=>refine fun hs hl=>zG [15] [] fun ac W hT hI hO=>?_;have h15:_=_:=hI 15 (by simp);obtain ⟨xa,xb,x1,x2,x3,x4,x5⟩:=hT.blk;obtain rfl:=x2 (fun q=>hl 17 22 q (by kernel_rfl));obtain ⟨e0,e1,e2,_⟩:=rec3b x1;simp only [execOp,Act.eval,h15];go_simp;try exact tq
  case s6=>refine fun hs hl=>zG [] [] fun ac W hT hI hO=>?_;simp only [execOp,Act.eval];go_simp;try exact tq
  case s7=>
   refine fun hs hno hl=>zG [17] [] fun ac W hT hI hO=>?_;have h17:_=_:=hI 17 (by simp);show Brings _ (fun vv w'=>FsR wb (.slice a us.length c) iv rv us is w2 (hs++[(7,vv)]) w') _
   have h17':ac.tmps[17]?.getD undef = .agg #[.int .i64 0,.int .i64 0,.string ⟨#[]⟩,.slice none 0 0]:=by rw [←Array.getD_eq_getD_getElem?];exact h17
   simp only [execOp,Act.eval,h17];go_simp;exact hT.laidT hno
  case s8=>
   refine fun hs hno hl=>zG [16,18] [] fun ac W hT hI hO=>?_;have h16:_=_:=hI 16 (by simp);have h18:(7,ac.tmps.getD 18 undef)∈hs:=hI 18 (by simp);show Brings _ (fun vv w'=>FsR wb (.slice a us.length c) iv rv us is w2 (hs++[(8,vv)]) w') _;obtain ⟨S,eS,_,hS⟩:=hT.ct.one _ h18 hno;refine brings_append (.tmp 16) (.tmp 18) 39 rfl 41 i0 zeroR 4 56 Try.underlying39 hi0 hz0 hz1 hz2 rfl (by decide) _ _ _ h16 (hT.ct.old hno) ⟨S,0,none⟩ 1 1 zc eS (LT.cells_length _) (news_block hS) (LT.cells_one _) (by omega) (by unfold maxLen;have:=HM.out;omega) (by have:=HM.out;omega) ?_;intro g cap w' k1 k2 k3;exact hT.appT H2.out hno k2 k1 k3
  case s9=>refine fun hs hl=>zG [] [0] fun ac W hT hI hO=>?_;simp only [execOp,Act.eval,hO 0 (by simp)];go_simp;try exact tq
  case s10=>refine fun hs hl=>zG [20] [] fun ac W hT hI hO=>?_;have h20:_=_:=hI 20 (by simp);simp only [execOp,Act.eval,h20];go_simp;try exact tq
  case s11=>refine fun hs hl=>zG [21] [] fun ac W hT hI hO=>?_;have h21:_=_:=hI 21 (by simp);simp only [execOp,Act.eval,h21];go_simp;try exact tq
  case s12=>refine fun hs hl=>zG [22] [] fun ac W hT hI hO=>?_;have h22:_=_:=hI 22 (by simp);obtain ⟨xa,xb,x1,x2,x3,x4,x5⟩:=hT.blk;obtain rfl:=x4 (fun q=>hl 20 22 q (by kernel_rfl));obtain ⟨e0,e1,e2,_⟩:=rec3b x1;simp only [execOp,Act.eval,h22];go_simp;try exact tq
  case s13=>
   refine fun hs hno hl=>zG [] [] fun ac W hT hI hO=>?_;show Brings _ (fun vv w'=>FsR wb (.slice a us.length c) iv rv us is w2 (hs++[(13,vv)]) w') _;simp only [execOp,Act.eval];go_simp;exact hT.laidI hno
  case s14=>
   refine fun hs hno hl=>zG [23,24] [] fun ac W hT hI hO=>?_;have h23:_=_:=hI 23 (by simp);have h24:(13,ac.tmps.getD 24 undef)∈hs:=hI 24 (by simp);show Brings _ (fun vv w'=>FsR wb (.slice a us.length c) iv rv us is w2 (hs++[(14,vv)]) w') _;obtain ⟨S,eS,_,hS⟩:=hT.ci.one _ h24 hno;refine brings_append (.tmp 23) (.tmp 24) 56 rfl 4 i1 (.bool false) 1 1 Try.underlying56 hi1 hy0 hy1 hy2 rfl (by decide) _ _ _ h23 (hT.ci.old hno) ⟨S,0,none⟩ 1 1 [.bool false] eS rfl (news_block hS) (by simp [Value.oneCell']) (by omega) (by unfold maxLen;have:=HM.out;have:=H2.out.same;omega) (by have:=HM.out;have:=H2.out.same;omega) ?_;intro g cap w' k1 k2 k3;exact hT.appI H2.out hno k2 k1 k3
  case s15=>refine fun hs hl=>zG [11] [] fun ac W hT hI hO=>?_;have h11:_=_:=hI 11 (by simp);simp only [execOp,Act.eval,h11];go_simp;try exact tq
  case s16=>refine fun hs hl=>zG [26] [] fun ac W hT hI hO=>?_;have h26:_=_:=hI 26 (by simp);simp only [execOp,Act.eval,h26];go_simp;try exact tq
  case s17=>
   refine fun hs hno hl=>zG [27,19] [] fun ac W hT hI hO=>?_;have h27:_=_:=hI 27 (by simp);have h19:(8,ac.tmps.getD 19 undef)∈hs:=hI 19 (by simp);obtain ⟨xa,xb,x1,x2,x3,x4,x5⟩:=hT.blk;obtain ⟨e0,e1,e2,f0,f1,f2⟩:=rec3b x1;show Brings _ (fun vv w'=>FsR wb (.slice a us.length c) iv rv us is w2 (hs++[(17,vv)]) w') _;obtain ⟨g,cap,e19,_,_⟩:=hT.ct.new _ h19;rw [e19] at h19;simp only [execOp,Act.eval,h27,e19];go_simp;exact hT.stT H2.out h19
  case s18=>refine fun hs hl=>zG [12] [] fun ac W hT hI hO=>?_;have h12:_=_:=hI 12 (by simp);simp only [execOp,Act.eval,h12];go_simp;try exact tq
  case s19=>refine fun hs hl=>zG [28] [] fun ac W hT hI hO=>?_;have h28:_=_:=hI 28 (by simp);simp only [execOp,Act.eval,h28];go_simp;try exact tq
  case s20=>
   refine fun hs hno hl=>zG [29,25] [] fun ac W hT hI hO=>?_;have h29:_=_:=hI 29 (by simp);have h25:(14,ac.tmps.getD 25 undef)∈hs:=hI 25 (by simp);obtain ⟨xa,xb,x1,x2,x3,x4,x5⟩:=hT.blk;obtain ⟨e0,e1,e2,f0,f1,f2⟩:=rec3b x1;show Brings _ (fun vv w'=>FsR wb (.slice a us.length c) iv rv us is w2 (hs++[(20,vv)]) w') _;obtain ⟨g,cap,e25,_,_⟩:=hT.ci.new _ h25;rw [e25] at h25;simp only [execOp,Act.eval,h29,e25];go_simp;exact hT.stI H2.out h25
 case hQ=>
  intro hs3 vs3 w3 hall huniq hR hV;simp only [Qq,List.foldl_nil,Qk,Qs,Qr];obtain ⟨tv3,iv3,hd3,T3,o1,o2⟩:=hR.done H2.out HM.out hall;have hb3:=(T3.block w.heap.size (zL HB2.out) (fun e=>by have:=H.out.own_lt w.heap.size (e.elim .inl (fun e=>e.elim (fun e=>.inr (.inl e)) (fun e=>.inr (.inr (.inl e)))));omega)).trans HB2.out;obtain ⟨a3,c3,rfl⟩:=hd3.row.shape;obtain ⟨e0,e1,e2,_⟩:=rec3b hd3.b;rw [show (us++[leaf 0 0 ByteArray.empty]).length=us.length+1 from by simp] at e0;obtain ⟨c0,c1,c2,c4,f0,f1,f2,f3⟩:=cells4 hb3;have HD3:=hid hd3;have HT3:=hid T3;have HO:=hid (And.intro o1 o2);have HB3:=hid hb3
  have hz3:((us.length:Int)+1 - 1)=(us.length:Int):=by omega
  clear hR hV hall huniq hd3 T3 o1 o2 hb3
  go_wp2_with fail
  have hset:=set4 (a':=.int .i64 0) (b':=.int .i64 (us.length:Int)) (c':=.string ByteArray.empty) (d':=.slice none 0 0) HB3.out;have Tq:=turned_store4 w3 w.heap.size (.int .i64 0) (.int .i64 (us.length:Int)) (.string ByteArray.empty) (.slice none 0 0)
  have hs2:w2.heap.size=w.heap.size+1:=by rw [HW2.out];simp
  obtain ⟨o1,o2⟩:=HO.out;refine bodyPost_ret (results_cell_tmp1 Try.results103 _ _ w.heap.size 41 _ (0,0) _ rfl hset Try.underlying41 rfl (by kernel_rfl)) rfl ⟨rfl,_,_,HD3.out.turned Tq (fun k _ hk=>⟨fun c=>?_,fun c=>by have:=(H.out.sep k c).1;omega⟩),((HT2.out.mono (fun _ _ f=>f.elim)).trans HT3.out).step Tq (fun i hi e=>by omega),o1.imp_right (fun o k hk=>by have:=o k hk;omega),o2.imp_right (fun o k hk=>by have:=o k hk;omega)⟩
  rcases c with c | c | c | c
  · have:=H.out.own_lt wb (.inl rfl);omega
  · rcases o1 with o | o
    · have:=H.out.own_lt k (.inr (.inl (o ▸ c)));omega
    · have:=o k c;omega
  · rcases o2 with o | o
    · have:=H.out.own_lt k (.inr (.inr (.inl (o ▸ c))));omega
    · have:=o k c;omega
  · have:=H.out.own_lt k (.inr (.inr (.inr c)));omega
end
end Go.Proofs.Ytoihjobdfjajfaa
namespace Go.Proofs.Ytoihjobdfjajfaa
namespace Tm
noncomputable def UR.andThen (r:UR) (b:List (Tm Unit × Tm Unit)):UR:=
 match r with
 | .ok l left=>unify l left b
 | .no q=>.no q
 | .over=>.over
theorem unify_append (b:List (Tm Unit × Tm Unit)):∀ (k left:Nat),left≤k→∀ (l:Trail) (a:List (Tm Unit × Tm Unit)),unify l left (a++b)=(unify l left a).andThen b:=by
 intro k
 induction k with
 | zero=>
  intro left hl l a
  obtain rfl:left=0:=by omega
  cases a with
  | nil=>rfl
  | cons p a=>rw [List.cons_append,unify_zero,unify_zero];rfl
 | succ k ih=>
  intro left hl l a
  cases a with
  | nil=>rfl
  | cons p a=>
   obtain ⟨x,y⟩:=p
   cases left with
   | zero=>rw [List.cons_append,unify_zero,unify_zero];rfl
   | succ left=>
    rw [List.cons_append]
    cases ho:oneU l left (walkT l x) (walkT l y) with
    | more ps=>
     rw [unify_more ho,unify_more ho,←List.append_assoc];exact ih left (by omega) l (ps++a)
    | done r=>
     cases r with
     | ok l' left'=>
      rw [unify_ok ho,unify_ok ho];exact ih left' (by have:=oneU_left ho;omega) l' a
     | no q=>rw [unify_no ho,unify_no ho];rfl
     | over=>rw [unify_over ho,unify_over ho];rfl
theorem unify_cons (l:Trail) (left:Nat) (p:Tm Unit × Tm Unit) (b:List (Tm Unit × Tm Unit)):unify l left (p :: b)=(unify l left [p]).andThen b:=
 unify_append b left left (Qm _) l [p]
theorem unify_left:∀ (k left:Nat),left≤k→∀ (l:Trail) (a:List (Tm Unit × Tm Unit)),match unify l left a with | .ok l' q=>q≤left∧(a≠[]→q < left)∧∃ e,l'=e++l | .no q=>q < left | .over=>True:=by
 intro k
 induction k with
 | zero=>
  intro left hl l a
  obtain rfl:left=0:=by omega
  cases a with
  | nil=>exact ⟨Qm _,fun h=>absurd rfl h,[],rfl⟩
  | cons p a=>rw [unify_zero];trivial
 | succ k ih=>
  intro left hl l a
  cases a with
  | nil=>exact ⟨Qm _,fun h=>absurd rfl h,[],rfl⟩
  | cons p a=>
   obtain ⟨x,y⟩:=p
   cases left with
   | zero=>rw [unify_zero];trivial
   | succ left=>
    cases ho:oneU l left (walkT l x) (walkT l y) with
    | more ps=>
     rw [unify_more ho];have:=ih left (by omega) l (ps++a);revert this
     cases unify l left (ps++a) with
     | ok l' q=>rintro ⟨h1,_,h3⟩;exact ⟨by omega,fun _=>by omega,h3⟩
     | no q=>intro h;show q < _;have:q < left:=h;omega
     | over=>intro _;trivial
    | done r=>
     cases r with
     | ok l' left'=>
      rw [unify_ok ho];have hle:=oneU_left ho;obtain ⟨e,he⟩:=oneU_pre ho;have:=ih left' (by omega) l' a;revert this
      cases unify l' left' a with
      | ok l2 q=>
       rintro ⟨h1,_,e2,h3⟩
       exact ⟨by omega,fun _=>by omega,e2++e,by rw [h3,he,List.append_assoc]⟩
      | no q=>intro h;show q < _;have:q < left':=h;omega
      | over=>intro _;trivial
     | no q=>
      rw [unify_no ho];show q < left+1
      have:q≤left:=by
       unfold oneU at ho
       split at ho
       · split at ho
         · split at ho <;> (injection ho with ho;cases ho)
         · injection ho with ho
           unfold tieU at ho
           split at ho
           · cases ho
           · split at ho
             · injection ho with ho;omega
             · cases ho
       · split at ho
         · injection ho with ho
           unfold tieU at ho
           split at ho
           · cases ho
           · split at ho
             · injection ho with ho;omega
             · cases ho
         · split at ho
           · cases ho
           · injection ho with ho;injection ho with ho;omega
      omega
     | over=>rw [unify_over ho];trivial
end Tm
end Go.Proofs.Ytoihjobdfjajfaa
namespace Go.Proofs.Ytoihjobdfjajfaa
open Go.RowKit Go.Maps
structure DT (m:Nat) (l:Tm.Trail) (us:List LT) (is:List Bool) (tr:List Int):Prop where
 ok:Tm.okT m l
 len:us.length=m
 set:∀ i:Nat,i < m→is[i]? = some (decide ((i:Int)∈Tm.dom l))
 val:∀ (i:Int) (t:Tm Unit),Tm.look l i=some t→∃ u:LT,us[i.toNat]? = some u∧u.bare=t
 tr:tr=(Tm.dom l).reverse
structure DO (p:Nat→Prop) (wb:Nat) (O:Nat→Prop) (m:Nat) (l:Tm.Trail) (w:World):Prop where
 db:∃ tv iv rv us is tr,DB p wb tv iv rv us is tr w∧DT m l us is tr∧∀ k,ownD wb tv iv rv k→O k
 lt:∀ k,O k→k < w.heap.size
 sep:∀ k,p k→¬ O k
section
variable {p q O O' S:Nat→Prop} {wb m:Nat} {l:Tm.Trail} {w w':World} {t:LT}
theorem DO.ok (h:DO p wb O m l w):Tm.okT m l:=by obtain ⟨_,_,_,_,_,_,_,T,_⟩:=h.db;exact T.ok
theorem DO.most (h:DO p wb O m l w):m≤65536:=by obtain ⟨_,_,_,_,_,_,D,T,_⟩:=h.db;have:=D.most;have:=T.len;omega
theorem DO.plt (h:DO p wb O m l w):∀ k,p k→k < w.heap.size:=by obtain ⟨_,_,_,_,_,_,D,_⟩:=h.db;exact fun k hk=>(D.sep k hk).1
theorem DO.turned (h:DO p wb O m l w) (T:Turned S w w') (hS:∀ k,k < w.heap.size→S k→¬ O k∧¬ p k):DO p wb O m l w':=by
 obtain ⟨tv,iv,rv,us,is,tr,D,R,hO⟩:=h.db;exact ⟨⟨tv,iv,rv,us,is,tr,D.turned T (fun k hk e=>⟨fun c=>(hS k hk e).1 (hO k c),(hS k hk e).2⟩),R,hO⟩,fun k hk=>Qo (h.lt k hk) T.size,h.sep⟩
theorem DO.turned0 (h:DO p wb O m l w) (T:Turned zN w w'):DO p wb O m l w':=h.turned T (fun _ _ f=>f.elim)
theorem DB.wide {tv iv rv:Value} {us:List LT} {is:List Bool} {tr:List Int} (h:DB p wb tv iv rv us is tr w) (hp:∀ k,p k→q k) (hq:∀ k,q k→k < w.heap.size∧¬ ownD wb tv iv rv k):DB q wb tv iv rv us is tr w:=
 ⟨h.b,h.row,h.bools,h.trail,h.same,(LT.ins_iff _).2 (fun x hx=>((LT.ins_iff _).1 h.ins x hx).mono (fun k _ hk=>hp k hk)),h.most,h.ne,hq⟩
theorem DO.wide (h:DO p wb O m l w) (hp:∀ k,p k→q k) (hq:∀ k,q k→k < w.heap.size∧¬ O k):DO q wb O m l w:=by
 obtain ⟨tv,iv,rv,us,is,tr,D,R,h1⟩:=h.db;exact ⟨⟨tv,iv,rv,us,is,tr,D.wide hp (fun k hk=>⟨(hq k hk).1,fun c=>(hq k hk).2 (h1 k c)⟩),R,h1⟩,h.lt,fun k hk=>(hq k hk).2⟩
def AfterD (p:Nat→Prop) (wb:Nat) (O:Nat→Prop) (m:Nat) (l:Tm.Trail) (w w':World):Prop:=
 ∃ O':Nat→Prop,DO p wb O' m l w'∧(∀ k,O' k→k < w.heap.size→O k)∧Turned O w w'
theorem AfterD.turned0 {w2:World} (h:AfterD p wb O m l w w') (T:Turned zN w' w2):AfterD p wb O m l w w2:=by
 obtain ⟨O',h1,h2,h3⟩:=h;exact ⟨O',h1.turned0 T,h2,h3.trans (T.mono (fun _ _ f=>f.elim))⟩
theorem newD (w:World) (hp:∀ k,p k→k < w.heap.size):DO p w.heap.size (fun k=>w.heap.size≤k∧k < w.heap.size+1) 0 [] (w.alloc (.cells #[.slice none 0 0,.slice none 0 0,.slice none 0 0] 113)):=by
 refine ⟨⟨_,_,_,[],[],[],DB.none hp,⟨trivial,rfl,fun i hi=>absurd hi (Nat.not_lt_zero _),fun i t h=>(by cases h),rfl⟩,fun k hk=>?_⟩,fun k hk=>(by simp;omega),fun k hk c=>by have:=hp k hk;omega⟩
 rcases hk with e | e | e | e
 · omega
 · simp [Value.ownBlock] at e
 · simp [Value.ownBlock] at e
 · simp [Value.ownBlock] at e
theorem freshD (h:DO p wb O m l w) (hm:m < 65536) :
 Calls Try.prog 103 #[.pointer (some ⟨wb,0,none⟩)] w fun e w'=>e = .returned (.tuple #[.agg #[.int .i64 0,.int .i64 (m:Int),.string ByteArray.empty,.slice none 0 0],.bool true])∧AfterD p wb O (m+1) l w w':=by
 obtain ⟨tv,iv,rv,us,is,tr,D,R,hO⟩:=h.db;have hl:=R.len;refine (fresh103 D (by omega)).mono ?_
 rintro e w' ⟨rfl,tv',iv',D',T,o1,o2⟩
 have hold:∀ k,ownD wb tv' iv' rv k→k < w.heap.size→ownD wb tv iv rv k:=fun k hk hl=>by
  rcases hk with e | e | e | e
  · exact .inl e
  · rcases o1 with o | o
    · exact .inr (.inl (o ▸ e))
    · have:=o k e;omega
  · rcases o2 with o | o
    · exact .inr (.inr (.inl (o ▸ e)))
    · have:=o k e;omega
  · exact .inr (.inr (.inr e))
 have hnd:((us.length:Nat):Int)∉Tm.dom l:=fun c=>by
  obtain ⟨b,hb,e⟩:=List.mem_map.1 c;have:=(Tm.okT_mem R.ok hb).2.1;omega
 have his:is.length=m:=by rw [D.same];exact hl
 refine ⟨by rw [hl],fun k=>ownD wb tv' iv' rv k∨(O k∧k < w.heap.size),⟨⟨tv',iv',rv,_,_,tr,D',⟨R.ok.more (Nat.le_succ m),by rw [Qi,hl];rfl,?_,?_,R.tr⟩,fun k hk=>.inl hk⟩,fun k hk=>hk.elim (D'.own_lt k) (fun e=>Qo e.2 T.size),fun k hk c=>?_⟩,fun k hk hl=>hk.elim (fun c=>hO k (hold k c hl)) (fun e=>e.1),T.mono (fun k _ e=>hO k (e.elim .inl (fun e=>e.elim (fun e=>.inr (.inl e)) (fun e=>.inr (.inr (.inl e))))))⟩
 · intro i hi
   rcases Nat.lt_or_ge i m with h1 | h1
   · rw [List.getElem?_append_left (by omega)];exact R.set i h1
   · obtain rfl:i=us.length:=by omega
     rw [List.getElem?_append_right (by omega),show us.length - is.length=0 by omega,decide_eq_false hnd];rfl
 · intro i t hi
   obtain ⟨u,hu,hb⟩:=R.val i t hi;exact ⟨u,by rw [List.getElem?_append_left (Qg.1 hu).1];exact hu,hb⟩
 · rcases c with c | c
   · exact (D'.sep k hk).2 c
   · exact h.sep k hk c.1
end
structure BD2 (q:Nat→Prop) (bb wb:Nat) (O D:Nat→Prop) (m mw:Nat) (l:TL) (lw:Tm.Trail) (w:World):Prop where
 b:BO q bb O m l w
 d:DO q wb D mw lw w
 dis:∀ k,O k→¬ D k
section
variable {q q' O D:Nat→Prop} {bb wb m mw m':Nat} {l l':TL} {lw lw':Tm.Trail} {w w':World} {N:Nat} {w1 wr:World}
theorem BD2.turned0 (h:BD2 q bb wb O D m mw l lw w) (T:Turned zN w w'):BD2 q bb wb O D m mw l lw w':=
 ⟨h.b.turned0 T,h.d.turned0 T,h.dis⟩
theorem BD2.stepB (h:BD2 q bb wb O D m mw l lw w) (ha:After q bb O m' l' w w'):∃ O',BD2 q bb wb O' D m' mw l' lw w'∧(∀ k,O' k→k < w.heap.size→O k)∧Turned O w w':=by
 obtain ⟨O',a1,a2,a3⟩:=ha;refine ⟨O',⟨a1,h.d.turned a3 (fun k hk e=>⟨h.dis k e,fun c=>h.b.sep k c e⟩),fun k hk c=>h.dis k (a2 k hk (h.d.lt k c)) c⟩,a2,a3⟩
theorem BD2.stepD (h:BD2 q bb wb O D m mw l lw w) (ha:AfterD q wb D m' lw' w w'):∃ D',BD2 q bb wb O D' m m' l lw' w'∧(∀ k,D' k→k < w.heap.size→D k)∧Turned D w w':=by
 obtain ⟨D',a1,a2,a3⟩:=ha;refine ⟨D',⟨h.b.turned a3 (fun k hk e=>⟨fun c=>h.dis k c e,fun c=>h.d.sep k c e⟩),a1,fun k hk c=>h.dis k hk (a2 k c (h.b.lt k hk))⟩,a2,a3⟩
theorem BD2.wide (h:BD2 q bb wb O D m mw l lw w) (hp:∀ k,q k→q' k) (hq:∀ k,q' k→k < w.heap.size∧¬ O k∧¬ D k):BD2 q' bb wb O D m mw l lw w:=
 ⟨h.b.wide hp (fun k hk=>⟨(hq k hk).1,(hq k hk).2.1⟩),h.d.wide hp (fun k hk=>⟨(hq k hk).1,(hq k hk).2.2⟩),h.dis⟩
theorem BD2.grown (h:BD2 q bb wb O D m mw l lw w) (T:Turned zN w w'):BD2 (fun k=>q k∨(w.heap.size≤k∧k < w'.heap.size)) bb wb O D m mw l lw w':=by
 refine (h.turned0 T).wide (fun k hk=>.inl hk) (fun k hk=>?_)
 rcases hk with hk | hk
 · exact ⟨Qo (h.b.plt k hk) T.size,h.b.sep k hk,h.d.sep k hk⟩
 · exact ⟨hk.2,fun c=>by have:=h.b.lt k c;omega,fun c=>by have:=h.d.lt k c;omega⟩
def BDq (q:Nat→Prop) (N bb wb m mw:Nat) (l:TL) (lw:Tm.Trail) (w1 wr:World):Prop:=
 ∃ O D,BD2 q bb wb O D m mw l lw wr∧(∀ k,O k→N≤k)∧(∀ k,D k→N≤k)∧Turned zN w1 wr
theorem BDq.stepB (hN:N≤w1.heap.size) (h:BD2 q bb wb O D m mw l lw wr) (hO:∀ k,O k→N≤k) (hD:∀ k,D k→N≤k) (hO1:∀ k,O k→w1.heap.size≤k) (T:Turned zN w1 wr) (ha:After q bb O m' l' wr w'):BDq q N bb wb m' mw l' lw w1 w':=by
 obtain ⟨O',a1,a2,a3⟩:=h.stepB ha;refine ⟨O',D,a1,fun k hk=>?_,hD,T.step a3 (fun i hi e=>by have:=hO1 i e;omega)⟩
 rcases Nat.lt_or_ge k wr.heap.size with h1 | h1
 · exact hO k (a2 k hk h1)
 · have:=T.size;omega
theorem BDq.stepD (hN:N≤w1.heap.size) (h:BD2 q bb wb O D m mw l lw wr) (hO:∀ k,O k→N≤k) (hD:∀ k,D k→N≤k) (hD1:∀ k,D k→w1.heap.size≤k) (T:Turned zN w1 wr) (ha:AfterD q wb D m' lw' wr w'):BDq q N bb wb m m' l lw' w1 w':=by
 obtain ⟨D',a1,a2,a3⟩:=h.stepD ha;refine ⟨O,D',a1,hO,fun k hk=>?_,T.step a3 (fun i hi e=>by have:=hD1 i e;omega)⟩
 rcases Nat.lt_or_ge k wr.heap.size with h1 | h1
 · exact hD k (a2 k hk h1)
 · have:=T.size;omega
theorem BDq.turned0 (h:BDq q N bb wb m mw l lw w1 wr) (T:Turned zN wr w'):BDq q N bb wb m mw l lw w1 w':=by
 obtain ⟨O,D,h1,h3,h4,h5⟩:=h;exact ⟨O,D,h1.turned0 T,h3,h4,h5.trans T⟩
end
end Go.Proofs.Ytoihjobdfjajfaa
namespace Go.Proofs.Ytoihjobdfjajfaa
open Lib (hid)
open Go.RowKit Go.Maps
def MRQ (mk:Tm.MS→World→Prop) (st:Tm.MS):Tm.MR→Ending→World→Prop
 | .go st',e,w'=>e = .returned (.tuple #[.bool true,.int .i64 0])∧mk st' w'
 | .stop E m',e,w'=>∃ (b:Bool) (st2:Tm.MS),e = .returned (.tuple #[.bool b,.int .i64 E])∧(b=true→¬ E=0)∧st2.m=m'∧(∃ a,st2.l=a++st.l)∧mk st2 w'
def tieB:Tm.MR→Bool
 | .go _=>true
 | .stop E _=>decide (¬ E=0)
def tieE:Tm.MR→Int
 | .go _=>0
 | .stop E _=>E
theorem sameB_unbare (a b:LT):sameB a b=sameB a.bare b.bare:=by
 unfold sameB;rw [goodB_bare,goodB_bare];congr 2;rw [Bool.eq_iff_iff,Tm.same_iff,Tm.same_iff,Tm.bare_unit,Tm.bare_unit]
section
variable {N bb mb gr gs R S:Nat} {bx:List (Nat × Obj)} {ts:List LT} {w1 W W' W0:World} {st st':Tm.MS} {x t:LT}
set_option maxRecDepth 100000 in
theorem tie178 (hN:N=w1.heap.size) (h:MK N bb mb gr gs R S bx ts w1 st W) (hx:x.In (fun _=>True) W) (sx:slim x) (gx:Tm.ownB st.m x.bare=true) (ht:∀ (p:Nat→Prop) (w:World),t.In p w) (sl:slim t) :
 Calls Try.prog 178 #[.pointer (some ⟨mb,0,none⟩),.agg #[.int .i64 x.kind,.int .i64 x.n,.string x.name,.slice x.at_.1 x.args.length x.at_.2],.agg #[.int .i64 t.kind,.int .i64 t.n,.string t.name,.slice t.at_.1 t.args.length t.at_.2]] W (fun e w'=>MRQ (MK N bb mb gr gs R S bx ts w1) st (Tm.tieM st x.bare t.bare) e w'∧e = .returned (.tuple #[.bool (tieB (Tm.tieM st x.bare t.bare)),.int .i64 (tieE (Tm.tieM st x.bare t.bare))])):=by
 have h2:=twoBox W (.cells #[.int .i64 x.kind,.int .i64 x.n,.string x.name,.slice x.at_.1 x.args.length x.at_.2] 27) (.cells #[.int .i64 t.kind,.int .i64 t.n,.string t.name,.slice t.at_.1 t.args.length t.at_.2] 27);obtain ⟨w2,hw2⟩:∃ z,z=(W.alloc (.cells #[.int .i64 x.kind,.int .i64 x.n,.string x.name,.slice x.at_.1 x.args.length x.at_.2] 27)).alloc (.cells #[.int .i64 t.kind,.int .i64 t.n,.string t.name,.slice t.at_.1 t.args.length t.at_.2] 27):=⟨_,rfl⟩;rw [←hw2] at h2;have hm2:=h.turned0 h2.1
 have hmb:=fun W' (T:Turned zN w2 W')=>(hm2.turned0 T).mbox
 have hbx:∀ W',Turned zN w2 W'→W'.heap[W.heap.size]? = some (.cells #[.int .i64 x.kind,.int .i64 x.n,.string x.name,.slice x.at_.1 x.args.length x.at_.2] 27 (0,0))∧W'.heap[W.heap.size+1]? = some (.cells #[.int .i64 t.kind,.int .i64 t.n,.string t.name,.slice t.at_.1 t.args.length t.at_.2] 27 (0,0)):=fun W' hW=>⟨(hW.block _ (by have:=h2.2.1;omega) (fun f=>f)).trans h2.2.2.1,(hW.block _ (by have:=h2.2.1;omega) (fun f=>f)).trans h2.2.2.2⟩
 obtain ⟨MR,hMR⟩:∃ z,z=Tm.tieM st x.bare t.bare:=⟨_,rfl⟩;rw [←hMR];have HMR:=hid hMR;clear hMR;have HN:=hid hN;have HMB:=hid hmb;have HBX:=hid hbx;have HW2:=hid hw2;have HM2:=hid hm2;have HH:=hid h;have HT2:=hid h2.1;have HX:=hid (hx.turned0 h2.1);have HSX:=hid sx;have HSL:=hid sl;have HTI:=hid ht;obtain ⟨k0,k1,k2,k3,_⟩:=cells4 (hbx w2 (Turned.refl _ _)).1;obtain ⟨m0,m1,m2,m3,_⟩:=cells4 (hbx w2 (Turned.refl _ _)).2;obtain ⟨b0,b1,b2,_⟩:=rec3b (hmb w2 (Turned.refl _ _));clear hm2 hmb hbx h2 hw2 h hx sx sl ht hN
 by_cases hk:x.kind=0
 · have bx0:(x.kind == 0)=true:=by simp [hk]
   obtain ⟨n0,n1,n2⟩:=Tm.ownB_var gx (by rw [Tm.bare_kind];exact hk);have hms:=HH.out.most;rw [Tm.bare_n] at n0 n1
   have hi64:I64 x.n:=by unfold I64;omega
   have hset:Calls Try.prog 88 #[.pointer (some ⟨bb,0,none⟩),.int .i64 x.n,.agg #[.int .i64 t.kind,.int .i64 t.n,.string t.name,.slice t.at_.1 t.args.length t.at_.2]] w2.drew fun e w'=>e = .returned (.int .i64 (Tm.setE st.m st.l x.n t.bare))∧MK N bb mb gr gs R S bx ts w1 ⟨st.m,if Tm.setE st.m st.l x.n t.bare=0 then (x.n,t.bare) :: st.l else st.l,st.rs,st.ss⟩ w':=by
    obtain ⟨q,O,l,h3,hl,hq,hts,hk⟩:=MK.call HN.out (HM2.out.turned0 ((Turned.refl _ w2).drew));have:=setO88 h3 (HTI.out q _) HSL.out x.n hi64;rw [LT.val_eq,hl] at this;refine this.mono ?_
    rintro e w' ⟨rfl,l',hl',ha⟩
    have:=hk _ l' w' ha;rw [hl'] at this;exact ⟨rfl,this⟩
   obtain ⟨E,hE⟩:∃ z,z=Tm.setE st.m st.l x.n t.bare:=⟨_,rfl⟩
   have hti:Tm.tieM st x.bare t.bare=(if E=0 then .go ⟨st.m,(x.n,t.bare) :: st.l,st.rs,st.ss⟩ else .stop E st.m):=by
    unfold Tm.tieM;rw [if_pos (by rw [Tm.bare_kind];exact hk),Tm.bare_n,hE]
   rw [←hE] at hset;have HTM:=hid (HMR.out.trans hti);have HSET:=hid hset;clear hk n0 n1 n2 hms hi64 hset hti hE gx;go_enter Try.func178,Try.ntmps178
   go_wp2_with fail
   rw [←HW2.out]
   go_wp2_with fail
   refine region_tail 7 (by kernel_rfl) (by kernel_rfl) ?_;simp only [List.take_succ_cons,List.take_zero,List.drop_succ_cons,List.drop_zero]
   repeat still_step
   refine wpStill_nil ?_
   go_wp2_with (go_at_call 88;(with_reducible refine HSET.out.mono ?_);rintro e w5 ⟨rfl,h5⟩;have H5:=hid h5;clear h5)
   go_ret2
   rw [HTM.out];have h5:=H5.out
   by_cases hE:E=0
   · subst hE
     rw [if_pos rfl] at h5 ⊢;exact ⟨⟨rfl,h5⟩,rfl⟩
   · rw [if_neg hE] at h5 ⊢
     exact ⟨⟨true,⟨st.m,st.l,st.rs,st.ss⟩,rfl,fun _=>hE,rfl,⟨[],rfl⟩,h5⟩,by simp [tieB,tieE,hE]⟩
 · have bx0:(x.kind == 0)=false:=by simp [hk]
   obtain ⟨b,hb⟩:∃ z,z=sameB x.bare t.bare:=⟨_,rfl⟩
   have hti:Tm.tieM st x.bare t.bare=(if b=true then .go st else .stop 0 st.m):=by
    unfold Tm.tieM;rw [if_neg (by rw [Tm.bare_kind];exact hk),hb]
   have hsame:Calls Try.prog 52 #[.agg #[.int .i64 x.kind,.int .i64 x.n,.string x.name,.slice x.at_.1 x.args.length x.at_.2],.agg #[.int .i64 t.kind,.int .i64 t.n,.string t.name,.slice t.at_.1 t.args.length t.at_.2]] w2 fun e w'=>e = .returned (.bool b)∧Turned zN w2 w':=
    sameVal' (p:=fun _=>True) HX.out (HTI.out _ _) HSX.out HSL.out (by rw [hb];exact sameB_unbare x t)
   have HTM:=hid (HMR.out.trans hti);have HSM:=hid hsame;clear hk hti hsame hb gx
   cases b with
   | true=>
    go_enter Try.func178,Try.ntmps178
    go_wp2_with (go_at_call 52;rw [←HW2.out];(with_reducible refine HSM.out.mono ?_);rintro e w5 ⟨rfl,T5⟩;have HT5:=hid T5;clear T5)
    go_ret2
    rw [HTM.out];exact ⟨⟨rfl,HM2.out.turned0 HT5.out⟩,rfl⟩
   | false=>
    go_enter Try.func178,Try.ntmps178
    go_wp2_with (go_at_call 52;rw [←HW2.out];(with_reducible refine HSM.out.mono ?_);rintro e w5 ⟨rfl,T5⟩;have HT5:=hid T5;clear T5)
    go_ret2
    rw [HTM.out];exact ⟨⟨false,st,rfl,(fun e=>by cases e),rfl,⟨[],rfl⟩,HM2.out.turned0 HT5.out⟩,rfl⟩
end
end Go.Proofs.Ytoihjobdfjajfaa
namespace Go.Proofs.Ytoihjobdfjajfaa
open Go.RowKit Go.Maps
theorem flat_take (l:List LT) (c:Nat) (hc:c≤l.length):(l.take c).flatMap LT.cells=(l.flatMap LT.cells).take (c * 4)∧(l.drop c).flatMap LT.cells=(l.flatMap LT.cells).drop (c * 4):=by
 have h:=List.take_append_drop c l
 have hl:((l.take c).flatMap LT.cells).length=c * 4:=by rw [LT.flat_length,List.length_take];omega
 constructor
 · conv=>rhs;rw [←h,List.flatMap_append]
   rw [List.take_left' hl]
 · conv=>rhs;rw [←h,List.flatMap_append]
   rw [List.drop_left' hl]
def putL (rs xs:List LT) (c:Nat):List LT:=rs.take c++(xs++rs.drop (c+xs.length))
theorem putL_flat {rs xs:List LT} {c:Nat} (h:c+xs.length≤rs.length):(putL rs xs c).flatMap LT.cells=(rs.flatMap LT.cells).take (c * 4)++(xs.flatMap LT.cells++(rs.flatMap LT.cells).drop (c * 4+(xs.flatMap LT.cells).length)):=by
 unfold putL;rw [List.flatMap_append,List.flatMap_append,(flat_take rs c (by omega)).1,(flat_take rs (c+xs.length) h).2,LT.flat_length,Nat.add_mul]
theorem putL_bare {rs xs:List LT} {c:Nat}:(putL rs xs c).map Tm.bare=Tm.putAt (rs.map Tm.bare) c (xs.map Tm.bare):=by
 unfold putL Tm.putAt;rw [List.map_append,List.map_append,List.map_take,List.map_drop,Qu]
theorem info27s:(Try.prog.info? 27).map (·.size)=some 4:=by kernel_rfl
theorem Row.copied {w:World} {g R c cap:Nat} {a:Addr} {rs xs:List LT} (h:Row w 27 4 (.slice (some ⟨g,0,none⟩) R R) R (rs.flatMap LT.cells)) (hc:c+xs.length≤R) (hs:∀ j v,(xs.flatMap LT.cells)[j]? = some v→w.cell? (a.add j)=some v) :
 ∃ w',(∀ ty,(Builtin.copy_ #[22,22] ty #[.slice (some ⟨g,c * 4,none⟩) (R - c) (R - c),.slice (some a) xs.length cap]).run Try.prog w = .ok (.int .i64 xs.length) w')∧Row w' 27 4 (.slice (some ⟨g,0,none⟩) R R) R ((putL rs xs c).flatMap LT.cells)∧Turned (fun k=>k=g) w w':=by
 have hlen:=h.1;rw [LT.flat_length] at hlen
 rcases h.2 with ⟨he,h0⟩ | ⟨g',cap',cur,he,hg,h1,h2,h3,h4⟩
 · cases he
 injection he with e1 _ e3
 injection e1 with e1
 injection e1 with e1
 subst e1 e3;have hxl:(xs.flatMap LT.cells).length=xs.length * 4:=LT.flat_length xs;have hmin:Nat.min xs.length (R - c)=xs.length:=Nat.min_eq_left (by omega)
 have hrun:=fun ty=>run_copy_n (P:=Try.prog) w 22 22 ty 27 4 g (c * 4) (R - c) (R - c) a xs.length cap cur 27 (xs.flatMap LT.cells) Try.underlying22 info27s hg (by rw [hmin,hxl]) hs (by rw [hxl];omega) (fun v hv=>by
  obtain ⟨y,_,hy⟩:=List.mem_flatMap.1 hv
  exact LT.cells_one y v hy)
 rw [hmin] at hrun;refine ⟨_,hrun,⟨by rw [LT.flat_length];unfold putL;rw [Qi,Qi,List.length_take,List.length_drop];omega,.inr ⟨g,R,_,rfl,setRow_heap w g cur _ 27 _ hg,Qm _,h2,?_,?_⟩⟩,⟨rfl,rfl,rfl,by simp [World.setRow],fun k _ hk=>setRow_other w g k _ hk⟩⟩
 · have:cur.toList.length=cur.size:=by simp
   simp only [List.size_toArray,Qi,List.length_take,List.length_drop,hxl,this];omega
 · have hcl:cur.toList.length=cur.size:=by simp
   have hX:=List.take_append_drop (R * 4) cur.toList;rw [h4] at hX;have hXl:(rs.flatMap LT.cells).length=R * 4:=h.1;rw [putL_flat (by omega)]
   have t1:cur.toList.take (c * 4)=(rs.flatMap LT.cells).take (c * 4):=by
    conv=>lhs;rw [←hX]
    rw [List.take_append_of_le_length (by omega)]
   have t2:cur.toList.drop (c * 4+(xs.flatMap LT.cells).length)=(rs.flatMap LT.cells).drop (c * 4+(xs.flatMap LT.cells).length)++cur.toList.drop (R * 4):=by
    conv=>lhs;rw [←hX]
    rw [List.drop_append_of_le_length (by omega)]
   simp only [];rw [t1,t2,List.append_assoc,←List.append_assoc (xs.flatMap LT.cells),←List.append_assoc];refine List.take_left' ?_;simp only [Qi,List.length_take,List.length_drop,hXl,hxl];omega
section
variable {N bb mb gr gs R S:Nat} {bx:List (Nat × Obj)} {ts:List LT} {w1 W W' W0:World} {st st':Tm.MS} {x t:LT}
theorem MK.copyArgs (hN:N=w1.heap.size) (h:MK N bb mb gr gs R S bx ts w1 st W) (hx:x∈ts) {c:Nat} (hc:c+x.args.length≤R) (h0:0 < x.args.length) :
 ∃ ad w',x.at_.1=some ad∧(∀ ty,(Builtin.copy_ #[22,22] ty #[.slice (some ⟨gr,c * 4,none⟩) (R - c) (R - c),.slice (some ad) x.args.length x.at_.2]).run Try.prog W = .ok (.int .i64 x.args.length) w')∧MK N bb mb gr gs R S bx ts w1 ⟨st.m,st.l,Tm.putAt st.rs c x.bare.args,st.ss⟩ w':=by
 obtain ⟨q,l,O,rs,ss,h1,h2,h3,h4,h5,h6,⟨r1,r2,r3⟩,⟨s1,s2,s3⟩,h9,h10,h11,h12⟩:=h;have hxi:=h12 x hx;obtain ⟨b,o,hbo,_,hcells⟩:=hxi.lies (by omega);obtain ⟨w',hrun,hrow,Tq⟩:=r1.copied (xs:=x.args) (a:=⟨b,o,none⟩) (cap:=x.at_.2) hc (fun j v hv=>by rw [Addr.add_lit];exact hcells j v hv);have hgr:=h9 gr (.inr (.inl rfl))
 have up:∀ {y:LT},y.In q W→y.In q w':=fun {y} hy=>LT.In.turned Tq (fun k _ hk e=>hgr.2.2 (e ▸ hk)) (fun _ _ q=>q) y hy
 refine ⟨⟨b,o,none⟩,w',hbo,hrun,q,l,O,putL rs x.args c,ss,h1,h2,h3.turned Tq (fun k hk e=>⟨fun c=>hgr.2.1 (e ▸ c),fun c=>hgr.2.2 (e ▸ c)⟩),h4,h5.step Tq (fun k hk e=>by have:=hgr.1;omega),(Tq.block mb (zL h6) h10.1).trans h6,⟨hrow,by rw [putL_bare,r2,Tm.bare_args,Tm.bares_eq],fun y hy=>?_⟩,⟨s1.turned Tq (fun k hk e=>by simp [Value.ownBlock] at hk;exact h10.2.2 (e.symm.trans hk.symm)),s2,fun y hy=>up (s3 y hy)⟩,h9,h10,fun b hb=>⟨(Tq.block _ (zL (h11 b hb).1) (h11 b hb).2.2.2.1).trans (h11 b hb).1,(h11 b hb).2⟩,fun y hy=>up (h12 y hy)⟩;unfold putL at hy
 rcases Qn.1 hy with hy | hy
 · exact up (r3 y (List.mem_of_mem_take hy))
 · rcases Qn.1 hy with hy | hy
   · exact up ((LT.ins_iff _).1 hxi.args y hy)
   · exact up (r3 y (List.mem_of_mem_drop hy))
end
end Go.Proofs.Ytoihjobdfjajfaa
namespace Go.Proofs.Ytoihjobdfjajfaa
open Lib (hid)
open Go.RowKit Go.Maps
section
variable {N bb mb gr gs R S:Nat} {bx:List (Nat × Obj)} {ts:List LT} {w1 W W' W0:World} {st st':Tm.MS} {x t:LT}
set_option maxRecDepth 100000 in
theorem comp179a {op name:ByteArray} {a n:Int} {b c:Nat} (hN:N=w1.heap.size) (h:MK N bb mb gr gs R S bx ts w1 st W) (hx:x∈ts) (hk:¬ x.kind=0) (hb:1≤b) (hc:c+b≤R) (hR:R≤2000) :
 Calls Try.prog 179 #[.pointer (some ⟨mb,0,none⟩),.agg #[.int .i64 x.kind,.int .i64 x.n,.string x.name,.slice x.at_.1 x.args.length x.at_.2],.agg #[.string op,.int .i64 a,.int .i64 (b:Int),.int .i64 (c:Int),.int .i64 n,.string name]] W (MRQ (MK N bb mb gr gs R S bx ts w1) st (Tm.compM st x.bare ⟨op,a,(b:Int),(c:Int),n,name⟩)):=by
 have h2:=twoBox W (.cells #[.int .i64 x.kind,.int .i64 x.n,.string x.name,.slice x.at_.1 x.args.length x.at_.2] 27) (.cells #[.string op,.int .i64 a,.int .i64 (b:Int),.int .i64 (c:Int),.int .i64 n,.string name] 139);obtain ⟨w2,hw2⟩:∃ z,z=(W.alloc (.cells #[.int .i64 x.kind,.int .i64 x.n,.string x.name,.slice x.at_.1 x.args.length x.at_.2] 27)).alloc (.cells #[.string op,.int .i64 a,.int .i64 (b:Int),.int .i64 (c:Int),.int .i64 n,.string name] 139):=⟨_,rfl⟩;rw [←hw2] at h2;have hm2:=h.turned0 h2.1;have hxl:=(hm2.terms x hx).len
 have hxa:x.args.length≤9223372036854775807:=by have:=hxl.1;have:=hxl.2.1;unfold maxLen at this;omega
 obtain ⟨MR,hMR⟩:∃ z,z=Tm.compM st x.bare ⟨op,a,(b:Int),(c:Int),n,name⟩:=⟨_,rfl⟩
 have hcm:MR=(if x.name=name∧(x.args.length:Int)=(b:Int) then .go ⟨st.m,st.l,Tm.putAt st.rs c x.bare.args,st.ss⟩ else .stop 0 st.m):=by
  rw [hMR];unfold Tm.compM;rw [if_neg (by rw [Tm.bare_kind];exact hk)];simp only [Tm.bare_name,Tm.bare_arity,Int.toNat_natCast]
 rw [←hMR];have HCM:=hid hcm;have HM2:=hid hm2;have HW2:=hid hw2;have HN:=hid hN;have HXT:=hid hx
 have bk:(x.kind != 0)=true:=by simp [hk]
 obtain ⟨k0,k1,k2,k3,_⟩:=cells4 h2.2.2.1;obtain ⟨m0,m1,m2,m3,m4,m5⟩:=cells6 h2.2.2.2;obtain ⟨b0,b1,b2,_⟩:=rec3b hm2.mbox;clear h hm2 hw2 hMR hcm hN hx hk hxl
 by_cases h1:x.name=name
 · have t1:(x.name.toList != name.toList)=false:=by simp [h1]
   have t1':(x.name.toList == name.toList)=true:=by simp [h1]
   by_cases hl:x.args.length=b
   · have t2:((x.args.length:Int) != (b:Int))=false:=by simp [hl]
     have HE:Hid (MR = .go ⟨st.m,st.l,Tm.putAt st.rs c x.bare.args,st.ss⟩):=by show _=_;rw [HCM.out,if_pos ⟨h1,by omega⟩]
     obtain ⟨ad,w',had,hcp,hmk⟩:=MK.copyArgs HN.out (HM2.out.turned0 ((Turned.refl _ w2).drew)) HXT.out (c:=c) (by omega) (by omega);rw [had] at k3;have HMK:=hid hmk;have HAD:=hid had
     have hcr:c≤R:=by omega
     have hcr2:(c:Int)≤(R:Int):=by omega
     have HL:=hid hl;clear h1 hl hmk had h2;go_enter Try.func179,Try.ntmps179
     go_wp2_with fail
     rw [←HW2.out]
     go_wp2_with fail
     refine region_tail 9 (by kernel_rfl) (by kernel_rfl) ?_;simp only [List.take_succ_cons,List.take_zero,List.drop_succ_cons,List.drop_zero]
     repeat still_step
     refine wpStill_nil ?_
     go_wp2_with fail
     go_ret2
     rw [HE.out];exact ⟨rfl,HMK.out⟩
   · have t2:((x.args.length:Int) != (b:Int))=true:=by simp;omega
     have HE:Hid (MR = .stop 0 st.m):=by show _=_;rw [HCM.out,if_neg (fun e=>hl (by omega))]
     clear h1 hl h2;go_enter Try.func179,Try.ntmps179
     go_wp2_with fail
     rw [←HW2.out]
     try go_wp2_with fail
     go_ret2
     rw [HE.out];exact ⟨false,st,rfl,(fun e=>by cases e),rfl,⟨[],rfl⟩,HM2.out⟩
 · have t1:(x.name.toList != name.toList)=true:=by rw [bne,str_neq h1];rfl
   have t1':(x.name.toList == name.toList)=false:=str_neq h1
   have HE:Hid (MR = .stop 0 st.m):=by show _=_;rw [HCM.out,if_neg (fun e=>h1 e.1)]
   clear h1 h2;go_enter Try.func179,Try.ntmps179
   go_wp2_with fail
   rw [←HW2.out]
   try go_wp2_with fail
   go_ret2
   rw [HE.out];exact ⟨false,st,rfl,(fun e=>by cases e),rfl,⟨[],rfl⟩,HM2.out⟩
end
theorem comp37q {p q:Nat→Prop} {w:World} {a:Option Addr} {c:Nat} {l:List LT} (s:ByteArray) (hs:s.size≤maxLen) (h:LT.Sl p w a c l) (hi:LT.Ins q w l) (hn:l.length≤65536) :
 Calls Try.prog 37 #[.string s,.slice a l.length c] w fun e w'=>∃ d,e = .returned (LT.val (.mk 2 0 s d l))∧LT.In (fun k=>q k∨w.heap.size≤k) w' (.mk 2 0 s d l)∧Turned zN w w':=by
 have hcl:∀ o,Calls Try.prog 128 #[.slice a l.length c] (w.alloc o) _:=fun o=>clone128 (h.turned0 ((Turned.refl _ w).alloc o)) hn
 have HCL:=hid hcl;clear hcl;go_enter Try.func37,Try.ntmps37
 go_wp2_with (go_at_call 128;refine (HCL.out _).mono ?_;rintro e w2 ⟨a',c',rfl,hv,hl,ht⟩;obtain ⟨hbox,hlt⟩:=box4 ht;obtain ⟨c0,c1,c2,c3,f0,f1,f2,f3⟩:=cells4 hbox;have HB:=hid hbox;clear hbox)
 have T0:=((Turned.refl (fun _=>False) w).alloc (.cells #[.int .i64 0,.int .i64 0,.string ⟨#[]⟩,.slice none 0 0] 27)).trans ht
 have hsz:w.heap.size≤(w.alloc (.cells #[.int .i64 0,.int .i64 0,.string ⟨#[]⟩,.slice none 0 0] 27)).heap.size:=by simp
 have hset:=set4 (a':=.int .i64 2) (b':=.int .i64 0) (c':=.string s) (d':=.slice a' l.length c') HB.out;have T4:=turned4 (a:=.int .i64 2) (b:=.int .i64 0) (c:=.string s) (d:=.slice a' l.length c') T0 (Qm _)
 have hrow:Row ((((w2.setCell ⟨w.heap.size,0,none⟩ (.int .i64 2)).setCell ⟨w.heap.size,1,none⟩ (.int .i64 0)).setCell ⟨w.heap.size,2,none⟩ (.string s)).setCell ⟨w.heap.size,3,none⟩ (.slice a' l.length c')) 27 4 (.slice a' l.length c') l.length (l.flatMap LT.cells):=by
  have hne:∀ j,(Value.slice a' l.length c').ownBlock≠some (Addr.block ⟨w.heap.size,j,none⟩):=fun j e=>by
   have:=hl _ e;simp at this;omega
  exact (((hv.setCell (hne 0) _).setCell (hne 1) _).setCell (hne 2) _).setCell (hne 3) _
 refine bodyPost_ret (v:=.agg #[.int .i64 2,.int .i64 0,.string s,.slice a' l.length c']) (results_cell_row Try.results37 _ _ w.heap.size 27 _ (0,0) _ rfl hset Try.underlying27 rfl (by kernel_rfl)) rfl ⟨(a',c'),rfl,?_,T4⟩;have hi4:LT.Ins q _ l:=(LT.ins_iff _).2 (fun x hx=>((LT.ins_iff _).1 hi x hx).turned0 T4);obtain ⟨_,hsl⟩:=LT.Sl.of_row (p:=fun k=>q k∨w.heap.size≤k) hrow (fun k hk=>.inr (QA hsz (hl k hk))) (LT.Ins.mono hi4 (fun _ _ hk=>.inl hk));exact hsl.in_ (i64_lit 2 (by omega)) (i64_lit 0 (by omega)) hs
theorem LT.In.none {p q:Nat→Prop} {W W':World} {x:LT} (h:x.In p W) (hx:x.args=[]):x.In q W':=by
 obtain ⟨k,n,s,d,aa⟩:=x;simp only [Tm.args] at hx;subst hx;obtain ⟨h1,h2,h3,h4,h5,h6,h7,h8⟩:=h;exact ⟨h1,h2,h3,h4,h5,h6,fun hp=>absurd hp (by simp),trivial⟩
section
variable {N bb mb gr gs R S:Nat} {bx bx':List (Nat × Obj)} {ts ts':List LT} {w1 W W' W0:World} {st st':Tm.MS} {x t:LT}
theorem MK.sub (h:MK N bb mb gr gs R S bx ts w1 st W) (hb:∀ b∈bx',b∈bx) (ht:∀ x∈ts',x∈ts):MK N bb mb gr gs R S bx' ts' w1 st W:=by
 obtain ⟨q,l,O,rs,ss,h1,h2,h3,h4,h5,h6,h7,h8,h9,h10,h11,h12⟩:=h;exact ⟨q,l,O,rs,ss,h1,h2,h3,h4,h5,h6,h7,h8,h9,h10,fun b hb'=>h11 b (hb b hb'),fun x hx=>h12 x (ht x hx)⟩
theorem MK.leaf (h:MK N bb mb gr gs R S bx ts w1 st W) (hx:∀ (p:Nat→Prop) (w:World),x.In p w):MK N bb mb gr gs R S bx (x :: ts) w1 st W:=
 h.keep (Turned.refl _ _) (hx _ _)
theorem MK.setReg (hN:N=w1.heap.size) (h:MK N bb mb gr gs R S bx (x :: ts) w1 st W) {i:Nat} (hi:i < R) :
 MK N bb mb gr gs R S bx (x :: ts) w1 ⟨st.m,st.l,st.rs.set i x.bare,st.ss⟩ ((((W.setCell ⟨gr,i * 4,none⟩ (.int .i64 x.kind)).setCell ⟨gr,i * 4+1,none⟩ (.int .i64 x.n)).setCell ⟨gr,i * 4+2,none⟩ (.string x.name)).setCell ⟨gr,i * 4+3,none⟩ (.slice x.at_.1 x.args.length x.at_.2)):=by
 obtain ⟨q,l,O,rs,ss,h1,h2,h3,h4,h5,h6,⟨r1,r2,r3⟩,⟨s1,s2,s3⟩,h9,h10,h11,h12⟩:=h
 have Tq:Turned (fun k=>k=gr) W ((((W.setCell ⟨gr,i * 4,none⟩ (.int .i64 x.kind)).setCell ⟨gr,i * 4+1,none⟩ (.int .i64 x.n)).setCell ⟨gr,i * 4+2,none⟩ (.string x.name)).setCell ⟨gr,i * 4+3,none⟩ (.slice x.at_.1 x.args.length x.at_.2)):=
  ((((Turned.refl (fun k=>k=gr) W).setCell (p:=⟨gr,i * 4,none⟩) (.inr rfl) _).setCell (p:=⟨gr,i * 4+1,none⟩) (.inr rfl) _).setCell (p:=⟨gr,i * 4+2,none⟩) (.inr rfl) _).setCell (p:=⟨gr,i * 4+3,none⟩) (.inr rfl) _
 have hgr:=h9 gr (.inr (.inl rfl))
 have up:∀ {y:LT},y.In q W→y.In q _:=fun {y} hy=>LT.In.turned Tq (fun k _ hk e=>hgr.2.2 (e ▸ hk)) (fun _ _ q=>q) y hy
 have e2:=r1.1;rw [LT.flat_length] at e2;have t1:=r1.setAt (off:=i * 4) (by omega) (.int .i64 x.kind);have t2:=t1.setAt (off:=i * 4+1) (by omega) (.int .i64 x.n);have t3:=t2.setAt (off:=i * 4+2) (by omega) (.string x.name);have t4:=t3.setAt (off:=i * 4+3) (by omega) (.slice x.at_.1 x.args.length x.at_.2);rw [flat_set (by omega)] at t4;refine ⟨q,l,O,rs.set i x,ss,h1,h2,h3.turned Tq (fun k hk e=>⟨fun c=>hgr.2.1 (e ▸ c),fun c=>hgr.2.2 (e ▸ c)⟩),h4,h5.step Tq (fun k hk e=>by have:=hgr.1;omega),(Tq.block mb (zL h6) h10.1).trans h6,⟨t4,by rw [List.map_set,r2],fun y hy=>?_⟩,⟨s1.turned Tq (fun k hk e=>by simp [Value.ownBlock] at hk;exact h10.2.2 (e.symm.trans hk.symm)),s2,fun y hy=>up (s3 y hy)⟩,h9,h10,fun b hb=>⟨(Tq.block _ (zL (h11 b hb).1) (h11 b hb).2.2.2.1).trans (h11 b hb).1,(h11 b hb).2⟩,fun y hy=>up (h12 y hy)⟩
 rcases List.mem_or_eq_of_mem_set hy with hy | rfl
 · exact up (r3 y hy)
 · exact up (h12 y (Qe ..))
theorem MK.regAt (h:MK N bb mb gr gs R S bx ts w1 st W) {i:Nat} (hi:i < R):∃ c0 c1 c2 c3,(W.cell? ⟨gr,i * 4,none⟩=some c0∧W.cell? ⟨gr,i * 4+1,none⟩=some c1∧W.cell? ⟨gr,i * 4+2,none⟩=some c2∧W.cell? ⟨gr,i * 4+3,none⟩=some c3)∧W.frozen? ⟨gr,i * 4,none⟩=false∧W.frozen? ⟨gr,i * 4+1,none⟩=false∧W.frozen? ⟨gr,i * 4+2,none⟩=false∧W.frozen? ⟨gr,i * 4+3,none⟩=false:=by
 have hl:=h.lens.1;obtain ⟨r,_,hc,_⟩:=h.reg (Qa (show i < st.rs.length by omega));obtain ⟨q,l,O,rs,ss,h1,h2,h3,h4,h5,h6,⟨r1,_⟩,_⟩:=h;exact ⟨_,_,_,_,hc,r1.free rfl _,r1.free rfl _,r1.free rfl _,r1.free rfl _⟩
theorem MK.slotAt (h:MK N bb mb gr gs R S bx ts w1 st W) {i:Nat} (hi:i < S):∃ c0 c1 c2 c3,(W.cell? ⟨gs,i * 4,none⟩=some c0∧W.cell? ⟨gs,i * 4+1,none⟩=some c1∧W.cell? ⟨gs,i * 4+2,none⟩=some c2∧W.cell? ⟨gs,i * 4+3,none⟩=some c3)∧W.frozen? ⟨gs,i * 4,none⟩=false∧W.frozen? ⟨gs,i * 4+1,none⟩=false∧W.frozen? ⟨gs,i * 4+2,none⟩=false∧W.frozen? ⟨gs,i * 4+3,none⟩=false:=by
 have hl:=h.lens.2;obtain ⟨r,_,hc,_⟩:=h.slot (Qa (show i < st.ss.length by omega));obtain ⟨q,l,O,rs,ss,h1,h2,h3,h4,h5,h6,_,⟨s1,_⟩,_⟩:=h;exact ⟨_,_,_,_,hc,s1.free rfl _,s1.free rfl _,s1.free rfl _,s1.free rfl _⟩
theorem MK.comp37 (hN:N=w1.heap.size) (h:MK N bb mb gr gs R S bx ts w1 st W) (s:ByteArray) (hs:s.size≤maxLen) {b c:Nat} (hc:c+b≤R) (hR:R≤2000) (h0:∀ y∈(st.rs.drop c).take b,y.args=[]) :
 Calls Try.prog 37 #[.string s,.slice (some ⟨gr,c * 4,none⟩) b (R - c)] W fun e w'=>∃ y:LT,e = .returned y.val∧y.bare = .mk 2 0 s () ((st.rs.drop c).take b)∧Turned zN W w'∧MK N bb mb gr gs R S bx (y :: ts) w1 st w':=by
 have hk:=h;obtain ⟨q,l,O,rs,ss,h1,h2,h3,h4,h5,h6,⟨r1,r2,r3⟩,⟨s1,s2,s3⟩,h9,h10,h11,h12⟩:=h;have e2:=r1.1;rw [LT.flat_length] at e2
 have hL:((rs.drop c).take b).map Tm.bare=(st.rs.drop c).take b:=by rw [List.map_take,List.map_drop,r2]
 have hlen:((rs.drop c).take b).length=b:=by rw [List.length_take,List.length_drop];omega
 have hno:∀ y∈(rs.drop c).take b,y.args=[]:=fun y hy=>by
  have:=h0 y.bare (by rw [←hL];exact List.mem_map_of_mem hy);rw [Tm.bare_args,Tm.bares_eq] at this;exact List.map_eq_nil_iff.1 this
 have hin:LT.Ins (fun _=>False) W ((rs.drop c).take b):=(LT.ins_iff _).2 (fun y hy=>(r3 y (List.mem_of_mem_drop (List.mem_of_mem_take hy))).none (hno y hy))
 have hsl:LT.Sl (fun _=>True) W (some ⟨gr,c * 4,none⟩) (R - c) ((rs.drop c).take b):=by
  refine ⟨fun e=>(by cases e),fun _=>⟨gr,c * 4,rfl,trivial,fun j v hv=>r1.cells rfl _ _ ?_⟩,LT.Ins.mono hin (fun _ _ f=>f.elim),by rw [hlen];omega,by unfold maxLen;omega⟩
  have hj:j < b * 4:=by
   have:=(Qg.1 hv).1;rw [LT.flat_length,hlen] at this;exact this
  have hf:=(flat_take (rs.drop c) b (by rw [List.length_drop];omega)).1;rw [hf,List.getElem?_take,if_pos hj,(flat_take rs c (by omega)).2,List.getElem?_drop] at hv;exact hv
 have hcl:=comp37q (q:=fun _=>False) s hs hsl hin (by rw [hlen];omega);rw [hlen] at hcl;refine hcl.mono ?_
 rintro e w' ⟨d,rfl,hy,T⟩
 refine ⟨_,rfl,?_,T,hk.keep T (hy.mono (fun k _ h=>h.elim (fun f=>f.elim) (fun h=>.inr h)))⟩;rw [Tm.bare,Tm.bares_eq,hL]
end
theorem putAt_news (rs:List (Tm Unit)) (c m j:Nat) (h:c+j < rs.length):Tm.putAt rs c (Tm.news m (j+1))=(Tm.putAt rs c (Tm.news m j)).set (c+j) (leaf 0 ((m+j:Nat):Int) ByteArray.empty:LT).bare:=by
 apply List.ext_getElem?;intro i;have l1:(Tm.news m (j+1)).length=j+1:=Tm.news_length ..;have l2:(Tm.news m j).length=j:=Tm.news_length ..;have hl:(Tm.putAt rs c (Tm.news m j)).length=rs.length:=Tm.putAt_length (by rw [l2];omega);rw [List.getElem?_set]
 by_cases hi:c+j=i
 · subst hi
   rw [if_pos rfl,if_pos (by omega),Tm.putAt_new (by rw [l1];omega) (by rw [l1];omega),Tm.news_at (by omega)];rfl
 · rw [if_neg hi]
   rcases Nat.lt_or_ge i c with hc | hc
   · rw [Tm.putAt_old (by rw [l1];omega) hc,Tm.putAt_old (by rw [l2];omega) hc]
   · obtain ⟨d,rfl⟩:∃ d,i=c+d:=⟨i - c,by omega⟩
     rcases Nat.lt_or_ge d j with hd | hd
     · rw [Tm.putAt_new (by rw [l1];omega) (by rw [l1];omega),Tm.putAt_new (by rw [l2];omega) (by rw [l2];omega),Tm.news_at (by omega),Tm.news_at (by omega)]
     · have hx:∀ (xs:List (Tm Unit)),xs.length≤d→(Tm.putAt rs c xs)[c+d]? = rs[c+d]?:=fun xs hx=>by
        unfold Tm.putAt
        have:(rs.take c).length=c:=by rw [List.length_take];omega
        rw [List.getElem?_append_right (by omega),this,Nat.add_sub_cancel_left,List.getElem?_append_right hx,List.getElem?_drop];congr 1;omega
       rw [hx _ (by rw [l1];omega),hx _ (by rw [l2];omega)]
theorem putAt_none (rs:List (Tm Unit)) (c m:Nat):Tm.putAt rs c (Tm.news m 0)=rs:=by
 unfold Tm.putAt Tm.news;simp
theorem putAt_part (rs xs:List (Tm Unit)) (c:Nat) (h:c+xs.length≤rs.length):((Tm.putAt rs c xs).drop c).take xs.length=xs:=by
 unfold Tm.putAt;rw [List.drop_left' (by rw [List.length_take];omega),List.take_left]
theorem news_args (m k:Nat):∀ y∈Tm.news m k,y.args=[]:=by
 intro y hy;unfold Tm.news at hy;obtain ⟨i,_,rfl⟩:=List.mem_map.1 hy;rfl
theorem flats_flat:∀ (l:List LT),(∀ y∈l,y.args=[])→∀ x∈Tm.flats l,x.args=[]
 | [],_,x,hx=>by cases hx
 | y :: l,h,x,hx=>by
  rw [Tm.flats,Tm.flat_eq,h y (Qe ..)] at hx
  rcases Qn.1 hx with hx | hx
  · rcases Qw.1 hx with rfl | hx
    · exact h x (Qe ..)
    · cases hx
  · exact flats_flat l (fun z hz=>h z (Qb _ hz)) x hx
theorem slim_newT {y:LT} {s:ByteArray} {m k:Nat} (h:y.bare = .mk 2 0 s () (Tm.news m k)) (hk:k≤12):slim y:=by
 have ha:y.args.map Tm.bare=Tm.news m k:=by
  rw [←Tm.bares_eq,←Tm.bare_args,h];rfl
 have hl:y.args.length=k:=by rw [←Qu (f:=Tm.bare),ha,Tm.news_length]
 have hn:∀ z∈y.args,z.args=[]:=fun z hz=>by
  have:=news_args m k z.bare (by rw [←ha];exact List.mem_map_of_mem hz);rw [Tm.bare_args,Tm.bares_eq] at this;exact List.map_eq_nil_iff.1 this
 intro x hx;rw [Tm.flat_eq] at hx
 rcases Qw.1 hx with rfl | hx
 · omega
 · rw [flats_flat _ hn x hx]
   exact Nat.zero_le _
def CompS (mk:LT→World→Prop) (nt:Tm Unit) (E:Int) (Q:World→Prop) (w0:World):List Value→World→Prop
 | [],W=>Turned zN w0 W
 | [a],W=>Turned zN w0 W∧∃ y:LT,a = .agg #[.int .i64 y.kind,.int .i64 y.n,.string y.name,.slice y.at_.1 y.args.length y.at_.2]∧y.bare=nt∧mk y W
 | [_,b],W=>b = .int .i64 E∧Q W
 | _,_=>False
section
variable {mk:LT→World→Prop} {nt:Tm Unit} {E:Int} {Q:World→Prop} {w0:World}
theorem CompS.turned0 (hm:∀ y W W',mk y W→Turned zN W W'→mk y W') (hQ:∀ W W',Q W→Turned zN W W'→Q W'):∀ (hs:List Value) (w w':World),CompS mk nt E Q w0 hs w→Turned zN w w'→CompS mk nt E Q w0 hs w'
 | [],_,_,h,T=>Turned.trans h T
 | [_],_,_,⟨h,y,h1,h2,h3⟩,T=>⟨h.trans T,y,h1,h2,hm _ _ _ h3 T⟩
 | [_,_],_,_,h,T=>⟨h.1,hQ _ _ h.2 T⟩
 | _ :: _ :: _ :: _,_,_,h,_=>h.elim
theorem CompS.early:∀ (hs:List Value) (W:World),hs.length≤1→CompS mk nt E Q w0 hs W→Turned zN w0 W
 | [],_,_,h=>h
 | [_],_,_,h=>h.1
 | _ :: _ :: _,_,h,_=>absurd h (by simp)
theorem CompS.val:∀ (hs:List Value) (W:World) {x:Value},CompS mk nt E Q w0 hs W→hs[1]? = some x→x = .int .i64 E
 | [],_,_,_,e=>by simp at e
 | [_],_,_,_,e=>by simp at e
 | [_,_],_,_,h,e=>by simp at e;rw [←e];exact h.1
 | _ :: _ :: _ :: _,_,_,h,_=>h.elim
end
section
variable {N bb mb gr gs R S:Nat} {bx:List (Nat × Obj)} {ts:List LT} {w1 w:World} {st st':Tm.MS} {x t:LT}
set_option maxRecDepth 100000 in
theorem comp179b {op name:ByteArray} {a n:Int} {b c:Nat} (hN:N=w1.heap.size) (h:MK N bb mb gr gs R S bx ts w1 st w) (hx:x∈ts) (hk:x.kind=0) (hb:1≤b) (hb12:b≤12) (hc:c+b≤R) (hR:R≤2000) (hm:st.m+b≤65536) (hs:name.size≤maxLen) (h64:I64 x.n) :
 Calls Try.prog 179 #[.pointer (some ⟨mb,0,none⟩),.agg #[.int .i64 x.kind,.int .i64 x.n,.string x.name,.slice x.at_.1 x.args.length x.at_.2],.agg #[.string op,.int .i64 a,.int .i64 (b:Int),.int .i64 (c:Int),.int .i64 n,.string name]] w (MRQ (MK N bb mb gr gs R S bx ts w1) st (Tm.compM st x.bare ⟨op,a,(b:Int),(c:Int),n,name⟩)):=by
 have h2:=twoBox w (.cells #[.int .i64 x.kind,.int .i64 x.n,.string x.name,.slice x.at_.1 x.args.length x.at_.2] 27) (.cells #[.string op,.int .i64 a,.int .i64 (b:Int),.int .i64 (c:Int),.int .i64 n,.string name] 139)
 have hm2:MK N bb mb gr gs R S ((w.heap.size+1,.cells #[.string op,.int .i64 a,.int .i64 (b:Int),.int .i64 (c:Int),.int .i64 n,.string name] 139 (0,0)) :: (w.heap.size,.cells #[.int .i64 x.kind,.int .i64 x.n,.string x.name,.slice x.at_.1 x.args.length x.at_.2] 27 (0,0)) :: bx) ts w1 st ((w.alloc (.cells #[.int .i64 x.kind,.int .i64 x.n,.string x.name,.slice x.at_.1 x.args.length x.at_.2] 27)).alloc (.cells #[.string op,.int .i64 a,.int .i64 (b:Int),.int .i64 (c:Int),.int .i64 n,.string name] 139)):=by
  have:=(h.box (.cells #[.int .i64 x.kind,.int .i64 x.n,.string x.name,.slice x.at_.1 x.args.length x.at_.2] 27)).box (.cells #[.string op,.int .i64 a,.int .i64 (b:Int),.int .i64 (c:Int),.int .i64 n,.string name] 139);rw [show (w.alloc (.cells #[.int .i64 x.kind,.int .i64 x.n,.string x.name,.slice x.at_.1 x.args.length x.at_.2] 27)).heap.size=w.heap.size+1 by simp] at this;exact this
 obtain ⟨w2,hw2⟩:∃ z,z=(w.alloc (.cells #[.int .i64 x.kind,.int .i64 x.n,.string x.name,.slice x.at_.1 x.args.length x.at_.2] 27)).alloc (.cells #[.string op,.int .i64 a,.int .i64 (b:Int),.int .i64 (c:Int),.int .i64 n,.string name] 139):=⟨_,rfl⟩;rw [←hw2] at h2 hm2;have hlens:=h.lens;obtain ⟨MR,hMR⟩:∃ z,z=Tm.compM st x.bare ⟨op,a,(b:Int),(c:Int),n,name⟩:=⟨_,rfl⟩;obtain ⟨E,hE⟩:∃ z,z=Tm.setE (st.m+b) st.l x.n (.mk 2 0 name () (Tm.news st.m b)):=⟨_,rfl⟩
 have hcm:MR=(if E=0 then .go ⟨st.m+b,(x.n,.mk 2 0 name () (Tm.news st.m b)) :: st.l,Tm.putAt st.rs c (Tm.news st.m b),st.ss⟩ else .stop E (st.m+b)):=by
  rw [hMR];unfold Tm.compM Tm.newT;rw [if_pos (by rw [Tm.bare_kind];exact hk)];simp only [Int.toNat_natCast,Tm.bare_n];rw [if_pos hm,hE]
 rw [←hMR]
 obtain ⟨l2,hl2⟩:∃ z,z=if E=0 then (x.n,.mk 2 0 name () (Tm.news st.m b)) :: st.l else st.l:=⟨_,rfl⟩
 have HL2:=hid hl2;have HB12:=hid hb12;have HCM:=hid hcm;have HM2:=hid hm2;have HW2:=hid hw2;have HN:=hid hN;have HXT:=hid hx;have HE:=hid hE;have HLS:=hid hlens;have HM:=hid hm;have HC:=hid hc;have HS:=hid hs;have H64:=hid h64
 have bk:(x.kind != 0)=false:=by simp [hk]
 obtain ⟨k0,k1,k2,k3,_⟩:=cells4 h2.2.2.1;obtain ⟨m0,m1,m2,m3,m4,m5⟩:=cells6 h2.2.2.2;obtain ⟨b0,b1,b2,_⟩:=rec3b hm2.mbox;clear hl2 hb12 h hm2 hw2 hMR hcm hN hx hk hE hlens hm hs h64 h2;go_enter Try.func179,Try.ntmps179
 go_wp2_with fail
 rw [←HW2.out]
 go_wp2_with fail
 go_loopg [39] b (fun k i wr=>∃ j:Nat,Hid (j+k=b)∧j≤b∧i = .int .i64 j∧Hid (MK N bb mb gr gs R S ((w.heap.size+1,.cells #[.string op,.int .i64 a,.int .i64 (b:Int),.int .i64 (c:Int),.int .i64 n,.string name] 139 (0,0)) :: (w.heap.size,.cells #[.int .i64 x.kind,.int .i64 x.n,.string x.name,.slice x.at_.1 x.args.length x.at_.2] 27 (0,0)) :: bx) ts w1 ⟨st.m+j,st.l,Tm.putAt st.rs c (Tm.news st.m j),st.ss⟩ wr))
 case atStart=>exact ⟨0,Nat.zero_add _,Nat.zero_le _,rfl,by show MK _ _ _ _ _ _ _ _ _ _ _ _;rw [putAt_none];exact HM2.out⟩
 case round=>
  obtain ⟨j,HG,hj,rfl,HMJ⟩:=hrel
  by_cases hjl:j < b
  · have dj:decide ((j:Int) < (b:Int))=true:=decide_eq_true (by omega)
    obtain ⟨m',hm'⟩:∃ z,z=st.m+j:=⟨_,rfl⟩;rw [←hm'] at HMJ;have hmj:=HMJ.out;obtain ⟨q,O,l,h3,hl,hq,hts,hkk⟩:=MK.call HN.out hmj
    have hfr:Calls Try.prog 87 #[.pointer (some ⟨bb,0,none⟩)] wr fun e w'=>e = .returned (.tuple #[.agg #[.int .i64 0,.int .i64 (m':Int),.string ByteArray.empty,.slice none 0 0],.bool true])∧MK N bb mb gr gs R S ((w.heap.size+1,.cells #[.string op,.int .i64 a,.int .i64 (b:Int),.int .i64 (c:Int),.int .i64 n,.string name] 139 (0,0)) :: (w.heap.size,.cells #[.int .i64 x.kind,.int .i64 x.n,.string x.name,.slice x.at_.1 x.args.length x.at_.2] 27 (0,0)) :: bx) ts w1 ⟨m'+1,st.l,Tm.putAt st.rs c (Tm.news st.m j),st.ss⟩ w':=by
     refine (freshO87 h3 (show m' < 65536 by have:=HM.out;omega)).mono ?_
     rintro e w' ⟨rfl,ha⟩
     have:=hkk _ l w' ha;rw [hl] at this;exact ⟨rfl,this⟩
    have HFR:=hid hfr;have HMM:=hid hm';have hbx:=hmj.boxes;have g1:=hbx _ (Qe ..);obtain ⟨b0,b1,b2,_⟩:=rec3b hmj.mbox;clear hfr hmj h3 hl hq hts hkk hm' hbx g1
    go_wp2_with (go_at_call 87;(with_reducible refine HFR.out.mono ?_);rintro e w5 ⟨rfl,h5⟩;have HM5:=hid h5;clear h5)
    obtain ⟨w6,hw6⟩:∃ z,z=w5.alloc (.cells #[.int .i64 0,.int .i64 (m':Int),.string ByteArray.empty,.slice none 0 0] 27):=⟨_,rfl⟩;rw [←hw6];have hnew:=heap_alloc_new w5 (.cells #[.int .i64 0,.int .i64 (m':Int),.string ByteArray.empty,.slice none 0 0] 27);rw [←hw6] at hnew;obtain ⟨v0,v1,v2,v3,_⟩:=cells4 hnew;have hm6:=(HM5.out.turned0 (show Turned zN w5 w6 by rw [hw6];exact (Turned.refl _ _).alloc _)).leaf (x:=leaf 0 (m':Int) ByteArray.empty) (fun p w=>leafIn' (i64_lit 0 (by omega)) (by unfold I64;have:=HMM.out;have:=HM.out;omega) (by unfold maxLen;decide));obtain ⟨b0,b1,b2,_⟩:=rec3b hm6.mbox;obtain ⟨m0,m1,m2,m3,m4,m5⟩:=cells6 (hm6.boxes _ (Qe ..));obtain ⟨cj,hcj⟩:∃ z,z=c+j:=⟨_,rfl⟩
    have hjr:cj < R:=by have:=HC.out;omega
    have hw:IntKind.i64.wrap ((c:Int)+(j:Int))=(cj:Int):=by rw [wrapI (by omega) (by omega)];omega
    have hms:=(hm6.turned0 ((Turned.refl (fun _=>False) w6).drew)).setReg HN.out (i:=cj) hjr;have HMS:=hid hms;obtain ⟨e0,e1,e2,e3,⟨r0,r1,r2,r3⟩,f0,f1,f2,f3⟩:=hm6.regAt hjr;have HCJ:=hid hcj;clear hms hm6 hnew hw6 hcj;refine region_tail 10 (by kernel_rfl) (by kernel_rfl) ?_;simp only [List.take_succ_cons,List.take_zero,List.drop_succ_cons,List.drop_zero]
    repeat still_step
    try rw [hw]
    repeat still_step
    refine wpStill_nil ?_
    go_wp2_with fail
    go_roundg (gk - 1)
    case measure=>have:=HG.out;omega
    case rel=>
     refine ⟨j+1,show _=_ by have:=HG.out;omega,by omega,by go_num,?_⟩;show MK _ _ _ _ _ _ _ _ _ _ _ _;have h1:=HMS.out;have e1:=HMM.out;have e2:=HCJ.out;subst e1 e2;rw [putAt_news _ _ _ _ (by have:=HLS.out.1;have:=HC.out;omega)];exact h1.sub (fun b h=>h) (fun x h=>Qb _ h)
  · obtain rfl:j=b:=by omega
    have dj:decide ((j:Int) < (j:Int))=false:=decide_eq_false (by omega);obtain ⟨b0,b1,b2,_⟩:=rec3b HMJ.out.mbox;have HWR:=hid HMJ.out;obtain ⟨cb,hcb⟩:∃ z,z=c+j:=⟨_,rfl⟩;have HWC:Hid (IntKind.i64.wrap ((c:Int)+(j:Int))=(cb:Int)∧c≤cb∧cb≤R∧c≤R∧cb - c=j∧¬ R=c):=⟨by have:=HC.out;rw [wrapI (by omega) (by omega)];omega,by omega,by have:=HC.out;omega,by have:=HC.out;omega,by omega,by have:=HC.out;omega⟩
    have hpart:(List.take j (List.drop c (Tm.putAt st.rs c (Tm.news st.m j))))=Tm.news st.m j:=by
     have:=putAt_part st.rs (Tm.news st.m j) c (by rw [Tm.news_length];have:=HLS.out.1;have:=HC.out;omega)
     rwa [Tm.news_length] at this
    have HCP:Hid (∀ W,Turned zN wr W→Calls Try.prog 37 #[.string name,.slice (some ⟨gr,c * 4,none⟩) j (R - c)] W fun e w'=>∃ y:LT,e = .returned y.val∧y.bare = .mk 2 0 name () (Tm.news st.m j)∧Turned zN W w'∧MK N bb mb gr gs R S ((w.heap.size+1,.cells #[.string op,.int .i64 a,.int .i64 (j:Int),.int .i64 (c:Int),.int .i64 n,.string name] 139 (0,0)) :: (w.heap.size,.cells #[.int .i64 x.kind,.int .i64 x.n,.string x.name,.slice x.at_.1 x.args.length x.at_.2] 27 (0,0)) :: bx) (y :: ts) w1 ⟨st.m+j,st.l,Tm.putAt st.rs c (Tm.news st.m j),st.ss⟩ w'):=fun W T=>by
     have:=(HWR.out.turned0 T).comp37 HN.out name HS.out (c:=c) (b:=j) HC.out hR (by rw [hpart];exact news_args _ _);rw [hpart] at this;exact this
    have HST:Hid (∀ (y:LT) W,y.bare = .mk 2 0 name () (Tm.news st.m j)→MK N bb mb gr gs R S ((w.heap.size+1,.cells #[.string op,.int .i64 a,.int .i64 (j:Int),.int .i64 (c:Int),.int .i64 n,.string name] 139 (0,0)) :: (w.heap.size,.cells #[.int .i64 x.kind,.int .i64 x.n,.string x.name,.slice x.at_.1 x.args.length x.at_.2] 27 (0,0)) :: bx) (y :: ts) w1 ⟨st.m+j,st.l,Tm.putAt st.rs c (Tm.news st.m j),st.ss⟩ W→Calls Try.prog 88 #[.pointer (some ⟨bb,0,none⟩),.int .i64 x.n,.agg #[.int .i64 y.kind,.int .i64 y.n,.string y.name,.slice y.at_.1 y.args.length y.at_.2]] W fun e w'=>e = .returned (.int .i64 E)∧MK N bb mb gr gs R S bx ts w1 ⟨st.m+j,l2,Tm.putAt st.rs c (Tm.news st.m j),st.ss⟩ w'):=fun y W y2 y3=>by
     obtain ⟨q,O,l,h3,hl,hq,hts,hkk⟩:=MK.call HN.out y3;have:=setO88 h3 (hts y (Qe ..)) (slim_newT y2 HB12.out) x.n H64.out;rw [LT.val_eq,hl,y2,←HE.out,←HL2.out] at this;refine this.mono ?_
     rintro e w' ⟨rfl,l',hl',ha⟩
     have:=hkk _ l' w' ha;rw [hl'] at this;exact ⟨rfl,this.sub (fun b h=>Qb _ (Qb _ h)) (fun x h=>Qb _ h)⟩
    clear hpart hcb;have HBX:=hid (fun W (T:Turned zN wr W)=>And.intro (cells4 ((HWR.out.turned0 T).boxes _ (Qb _ (Qe ..)))) (And.intro (cells6 ((HWR.out.turned0 T).boxes _ (Qe ..))) (rec3b (HWR.out.turned0 T).mbox)))
    go_wp2_with fail
    refine wp_region_hsW [63,64,65,66,67,68,69,70,71,72,73,74,75,76,77,78,79,80,81,82,83,84,6,7] [20,21] [1,1,1,1,1,1,0,0,0,0,0,0,0,0,0,0,0,0,0,0,1,2,2,2] [83,84] (fun dd vv=>(match dd with | 63=>vv = .pointer (some ⟨mb,0,none⟩) | 64=>vv = .pointer (some ⟨mb,0,none⟩) | 65=>vv = .pointer (some ⟨mb,0,none⟩) | 66=>vv = .pointer (some ⟨bb,0,none⟩) | 67=>vv = .pointer (some ⟨w.heap.size,1,none⟩) | 68=>vv = .int .i64 x.n | 69=>vv = .pointer (some ⟨w.heap.size+1,5,none⟩) | 70=>vv = .string name | 71=>vv = .pointer (some ⟨mb,0,none⟩) | 72=>vv = .pointer (some ⟨mb,0,none⟩) | 73=>vv = .pointer (some ⟨mb,1,none⟩) | 74=>vv = .slice (some ⟨gr,0,none⟩) R R | 75=>vv = .pointer (some ⟨w.heap.size+1,3,none⟩) | 76=>vv = .int .i64 (c:Int) | 77=>vv = .pointer (some ⟨w.heap.size+1,3,none⟩) | 78=>vv = .int .i64 (c:Int) | 79=>vv = .pointer (some ⟨w.heap.size+1,2,none⟩) | 80=>vv = .int .i64 (j:Int) | 81=>vv = .int .i64 ((cb:Nat):Int) | 82=>vv = .slice (some ⟨gr,c * 4,none⟩) j (R - c) | 6=>vv = .bool true | 7=>vv = .int .i64 E | _=>True:Prop)) (CompS (fun y W=>MK N bb mb gr gs R S ((w.heap.size+1,.cells #[.string op,.int .i64 a,.int .i64 (j:Int),.int .i64 (c:Int),.int .i64 n,.string name] 139 (0,0)) :: (w.heap.size,.cells #[.int .i64 x.kind,.int .i64 x.n,.string x.name,.slice x.at_.1 x.args.length x.at_.2] 27 (0,0)) :: bx) (y :: ts) w1 ⟨st.m+j,st.l,Tm.putAt st.rs c (Tm.news st.m j),st.ss⟩ W) (.mk 2 0 name () (Tm.news st.m j)) E (fun W=>MK N bb mb gr gs R S bx ts w1 ⟨st.m+j,l2,Tm.putAt st.rs c (Tm.news st.m j),st.ss⟩ W) wr) (by kernel_rfl) rfl (by kernel_rfl) (by kernel_rfl) (by kernel_rfl) (by kernel_rfl) (fun w h=>h) (fun hs w w' h T=>CompS.turned0 (fun y W W' h T=>h.turned0 T) (fun W W' h T=>h.turned0 T) hs w w' h T) ?hs ?hQ
    case hs=>
     refine ⟨?s0,?s1,?s2,?s3,?s4,?s5,?s6,?s7,?s8,?s9,?s10,?s11,?s12,?s13,?s14,?s15,?s16,?s17,?s18,?s19,?s20,?s21,?s22,?s23,trivial⟩
     case s0=>refine fun hs hle=>zG [] [0] fun ac W hT hI hO=>?_;have hle:hs.length≤1:=hle;simp only [execOp,Act.eval,hO 0 (by simp)];go_simp;try exact tq
     case s1=>refine fun hs hle=>zG [63] [] fun ac W hT hI hO=>?_;have hle:hs.length≤1:=hle;have h63:_=_:=hI 63 (by simp);simp only [execOp,Act.eval,h63];go_simp;try exact tq
     case s2=>refine fun hs hle=>zG [64] [] fun ac W hT hI hO=>?_;have hle:hs.length≤1:=hle;have h64:_=_:=hI 64 (by simp);simp only [execOp,Act.eval,h64];go_simp;try exact tq
     case s3=>refine fun hs hle=>zG [65] [] fun ac W hT hI hO=>?_;have hle:hs.length≤1:=hle;have h65:_=_:=hI 65 (by simp);obtain ⟨⟨k0,k1,k2,k3,_⟩,⟨m0,m1,m2,m3,m4,m5⟩,b0,b1,b2,_⟩:=HBX.out W (CompS.early hs W (by omega) hT);simp only [execOp,Act.eval,h65];go_simp;try exact tq
     case s4=>refine fun hs hle=>zG [] [4] fun ac W hT hI hO=>?_;have hle:hs.length≤1:=hle;simp only [execOp,Act.eval,hO 4 (by simp)];go_simp;try exact tq
     case s5=>refine fun hs hle=>zG [67] [] fun ac W hT hI hO=>?_;have hle:hs.length≤1:=hle;have h67:_=_:=hI 67 (by simp);obtain ⟨⟨k0,k1,k2,k3,_⟩,⟨m0,m1,m2,m3,m4,m5⟩,b0,b1,b2,_⟩:=HBX.out W (CompS.early hs W (by omega) hT);simp only [execOp,Act.eval,h67];go_simp;try exact tq
     case s6=>refine fun hs hle=>zG [] [5] fun ac W hT hI hO=>?_;have hle:hs.length≤0:=hle;simp only [execOp,Act.eval,hO 5 (by simp)];go_simp;try exact tq
     case s7=>refine fun hs hle=>zG [69] [] fun ac W hT hI hO=>?_;have hle:hs.length≤0:=hle;have h69:_=_:=hI 69 (by simp);obtain ⟨⟨k0,k1,k2,k3,_⟩,⟨m0,m1,m2,m3,m4,m5⟩,b0,b1,b2,_⟩:=HBX.out W (CompS.early hs W (by omega) hT);simp only [execOp,Act.eval,h69];go_simp;try exact tq
     case s8=>refine fun hs hle=>zG [] [0] fun ac W hT hI hO=>?_;have hle:hs.length≤0:=hle;simp only [execOp,Act.eval,hO 0 (by simp)];go_simp;try exact tq
     case s9=>refine fun hs hle=>zG [71] [] fun ac W hT hI hO=>?_;have hle:hs.length≤0:=hle;have h71:_=_:=hI 71 (by simp);simp only [execOp,Act.eval,h71];go_simp;try exact tq
     case s10=>refine fun hs hle=>zG [72] [] fun ac W hT hI hO=>?_;have hle:hs.length≤0:=hle;have h72:_=_:=hI 72 (by simp);simp only [execOp,Act.eval,h72];go_simp;try exact tq
     case s11=>refine fun hs hle=>zG [73] [] fun ac W hT hI hO=>?_;have hle:hs.length≤0:=hle;have h73:_=_:=hI 73 (by simp);obtain ⟨⟨k0,k1,k2,k3,_⟩,⟨m0,m1,m2,m3,m4,m5⟩,b0,b1,b2,_⟩:=HBX.out W (CompS.early hs W (by omega) hT);simp only [execOp,Act.eval,h73];go_simp;try exact tq
     case s12=>refine fun hs hle=>zG [] [5] fun ac W hT hI hO=>?_;have hle:hs.length≤0:=hle;simp only [execOp,Act.eval,hO 5 (by simp)];go_simp;try exact tq
     case s13=>refine fun hs hle=>zG [75] [] fun ac W hT hI hO=>?_;have hle:hs.length≤0:=hle;have h75:_=_:=hI 75 (by simp);obtain ⟨⟨k0,k1,k2,k3,_⟩,⟨m0,m1,m2,m3,m4,m5⟩,b0,b1,b2,_⟩:=HBX.out W (CompS.early hs W (by omega) hT);simp only [execOp,Act.eval,h75];go_simp;try exact tq
     case s14=>refine fun hs hle=>zG [] [5] fun ac W hT hI hO=>?_;have hle:hs.length≤0:=hle;simp only [execOp,Act.eval,hO 5 (by simp)];go_simp;try exact tq
     case s15=>refine fun hs hle=>zG [77] [] fun ac W hT hI hO=>?_;have hle:hs.length≤0:=hle;have h77:_=_:=hI 77 (by simp);obtain ⟨⟨k0,k1,k2,k3,_⟩,⟨m0,m1,m2,m3,m4,m5⟩,b0,b1,b2,_⟩:=HBX.out W (CompS.early hs W (by omega) hT);simp only [execOp,Act.eval,h77];go_simp;try exact tq
     case s16=>refine fun hs hle=>zG [] [5] fun ac W hT hI hO=>?_;have hle:hs.length≤0:=hle;simp only [execOp,Act.eval,hO 5 (by simp)];go_simp;try exact tq
     case s17=>refine fun hs hle=>zG [79] [] fun ac W hT hI hO=>?_;have hle:hs.length≤0:=hle;have h79:_=_:=hI 79 (by simp);obtain ⟨⟨k0,k1,k2,k3,_⟩,⟨m0,m1,m2,m3,m4,m5⟩,b0,b1,b2,_⟩:=HBX.out W (CompS.early hs W (by omega) hT);simp only [execOp,Act.eval,h79];go_simp;try exact tq
     case s18=>refine fun hs hle=>zG [78,80] [] fun ac W hT hI hO=>?_;have hle:hs.length≤0:=hle;have h78:_=_:=hI 78 (by simp);have h80:_=_:=hI 80 (by simp);have hw:=HWC.out;simp only [execOp,Act.eval,h78,h80];go_simp;try exact tq
     case s19=>refine fun hs hle=>zG [74,76,81] [] fun ac W hT hI hO=>?_;have hle:hs.length≤0:=hle;have h74:_=_:=hI 74 (by simp);have h76:_=_:=hI 76 (by simp);have h81:_=_:=hI 81 (by simp);have hw:=HWC.out;simp only [execOp,Act.eval,h74,h76,h81];go_simp;try exact tq
     case s20=>
      refine fun hs hlen=>zG [70,82] [] fun ac W hT hI hO=>?_;have h70:_=_:=hI 70 (by simp);have h82:_=_:=hI 82 (by simp);obtain rfl:hs=[]:=Qh hlen;replace hT:Turned zN wr W:=hT;show Brings _ (fun vv w'=>CompS (fun y W=>MK N bb mb gr gs R S ((w.heap.size+1,.cells #[.string op,.int .i64 a,.int .i64 (j:Int),.int .i64 (c:Int),.int .i64 n,.string name] 139 (0,0)) :: (w.heap.size,.cells #[.int .i64 x.kind,.int .i64 x.n,.string x.name,.slice x.at_.1 x.args.length x.at_.2] 27 (0,0)) :: bx) (y :: ts) w1 ⟨st.m+j,st.l,Tm.putAt st.rs c (Tm.news st.m j),st.ss⟩ W) (.mk 2 0 name () (Tm.news st.m j)) E (fun W=>MK N bb mb gr gs R S bx ts w1 ⟨st.m+j,l2,Tm.putAt st.rs c (Tm.news st.m j),st.ss⟩ W) wr [vv] w') _;simp only [execOp,Act.eval,h70,h82];go_simp;show Calls Try.prog 37 _ W _
      (with_reducible refine (HCP.out W hT).mono ?_)
      rintro e w' ⟨y,rfl,hb,T',hmk⟩
      exact ⟨_,rfl,hT.trans T',y,LT.val_eq y,hb,hmk⟩
     case s21=>
      refine fun hs hlen=>zG [66,68,83] [] fun ac W hT hI hO=>?_;have h66:_=_:=hI 66 (by simp);have h68:_=_:=hI 68 (by simp);have h83:hs[0]? = some (ac.tmps.getD 83 undef):=hI 83 (by simp);obtain ⟨a1,rfl⟩:=List.length_eq_one_iff.1 hlen
      have e83:a1=ac.tmps.getD 83 undef:=by simpa using h83
      obtain ⟨hT1,y,y1,y2,y3⟩:=hT;rw [e83] at y1;show Brings _ (fun vv w'=>CompS (fun y W=>MK N bb mb gr gs R S ((w.heap.size+1,.cells #[.string op,.int .i64 a,.int .i64 (j:Int),.int .i64 (c:Int),.int .i64 n,.string name] 139 (0,0)) :: (w.heap.size,.cells #[.int .i64 x.kind,.int .i64 x.n,.string x.name,.slice x.at_.1 x.args.length x.at_.2] 27 (0,0)) :: bx) (y :: ts) w1 ⟨st.m+j,st.l,Tm.putAt st.rs c (Tm.news st.m j),st.ss⟩ W) (.mk 2 0 name () (Tm.news st.m j)) E (fun W=>MK N bb mb gr gs R S bx ts w1 ⟨st.m+j,l2,Tm.putAt st.rs c (Tm.news st.m j),st.ss⟩ W) wr [a1,vv] w') _;simp only [execOp,Act.eval,h66,h68,y1];go_simp;show Calls Try.prog 88 _ W _
      (with_reducible refine (HST.out y W y2 y3).mono ?_)
      rintro e w' ⟨rfl,hq⟩
      exact ⟨_,rfl,rfl,hq⟩
     case s22=>refine fun hs hle=>zG [] [] fun ac W hT hI hO=>?_;have hle:hs.length≤2:=hle;simp only [execOp,Act.eval];go_simp;try exact tq
     case s23=>
      refine fun hs hle=>zG [84] [] fun ac W hT hI hO=>?_;have hle:hs.length≤2:=hle;have h84:hs[1]? = some (ac.tmps.getD 84 undef):=hI 84 (by simp);have e84:=CompS.val hs W hT h84;simp only [execOp,Act.eval,e84];go_simp
      try exact tq
    case hQ=>
     intro hs vs w5 hlen hR hV;have q6:vs 6 = .bool true:=hV 6 (by simp);have q7:vs 7 = .int .i64 E:=hV 7 (by simp);simp only [Qq,List.foldl_nil,Qk,Qs,Qr,q6,q7];obtain ⟨a1,a2,rfl⟩:=list2' hlen;have HQ5:=hid hR.2;clear hlen hR hV q6 q7
     go_wp2_with fail
     go_ret2
     rw [HCM.out];have h5:=HQ5.out;rw [HL2.out] at h5
     by_cases hE:E=0
     · subst hE
       rw [if_pos rfl] at h5 ⊢;exact ⟨rfl,h5⟩
     · rw [if_neg hE] at h5 ⊢
       exact ⟨true,⟨st.m+j,st.l,Tm.putAt st.rs c (Tm.news st.m j),st.ss⟩,rfl,fun _=>hE,rfl,⟨[],rfl⟩,h5⟩
end
end Go.Proofs.Ytoihjobdfjajfaa
namespace Go.Proofs.Ytoihjobdfjajfaa
open Go.RowKit Go.Maps
def aggM (u:LT):Value:=.agg #[.int .i64 u.kind,.int .i64 u.n,.string u.name,.slice u.at_.1 u.args.length u.at_.2]
section
variable {N bb mb gr gs R S:Nat} {bx bx':List (Nat × Obj)} {ts ts':List LT} {w1 W W' w0:World} {st st':Tm.MS} {x t:LT}
theorem MK.setBox {B:Nat} {c0 c1 c2 c3 a b c d:Value} (h:MK N bb mb gr gs R S ((B,.cells #[c0,c1,c2,c3] 27 (0,0)) :: bx) ts w1 st W) (hB:∀ e∈bx,e.1≠B) (hN:w1.heap.size≤B) :
 MK N bb mb gr gs R S ((B,.cells #[a,b,c,d] 27 (0,0)) :: bx) ts w1 st ((((W.setCell ⟨B,0,none⟩ a).setCell ⟨B,1,none⟩ b).setCell ⟨B,2,none⟩ c).setCell ⟨B,3,none⟩ d):=by
 obtain ⟨q,l,O,rs,ss,h1,h2,h3,h4,h5,h6,⟨r1,r2,r3⟩,⟨s1,s2,s3⟩,h9,h10,h11,h12⟩:=h
 have Tq:Turned (fun k=>k=B) W ((((W.setCell ⟨B,0,none⟩ a).setCell ⟨B,1,none⟩ b).setCell ⟨B,2,none⟩ c).setCell ⟨B,3,none⟩ d):=
  ((((Turned.refl (fun k=>k=B) W).setCell (p:=⟨B,0,none⟩) (.inr rfl) _).setCell (p:=⟨B,1,none⟩) (.inr rfl) _).setCell (p:=⟨B,2,none⟩) (.inr rfl) _).setCell (p:=⟨B,3,none⟩) (.inr rfl) _
 obtain ⟨k1,k2,k3,k4,k5,k6⟩:=h11 _ (Qe ..);simp only [] at k1 k2 k3 k4 k5 k6
 have up:∀ {y:LT},y.In q W→y.In q _:=fun {y} hy=>LT.In.turned Tq (fun k _ hk e=>k6 (e ▸ hk)) (fun _ _ q=>q) y hy
 refine ⟨q,l,O,rs,ss,h1,h2,h3.turned Tq (fun k hk e=>⟨fun c=>k2 (e ▸ c),fun c=>k6 (e ▸ c)⟩),h4,h5.step Tq (fun k hk e=>by omega),(Tq.block mb (zL h6) (fun e=>k3 e.symm)).trans h6,⟨r1.turned Tq (fun k hk e=>by simp [Value.ownBlock] at hk;exact k4 (e.symm.trans hk.symm)),r2,fun y hy=>up (r3 y hy)⟩,⟨s1.turned Tq (fun k hk e=>by simp [Value.ownBlock] at hk;exact k5 (e.symm.trans hk.symm)),s2,fun y hy=>up (s3 y hy)⟩,h9,h10,fun e he=>?_,fun y hy=>up (h12 y hy)⟩
 rcases Qw.1 he with rfl | he
 · exact ⟨set4 k1,k2,k3,k4,k5,k6⟩
 · obtain ⟨j1,j2⟩:=h11 e (Qb _ he)
   exact ⟨(Tq.block _ (zL j1) (hB e he)).trans j1,j2⟩
theorem MK.wsize (h:MK N bb mb gr gs R S bx ts w1 st W):w1.heap.size≤W.heap.size:=h.old.size
theorem MK.walk (hN:N=w1.heap.size) (h:MK N bb mb gr gs R S bx ts w1 st W) (ht:t∈ts) (hg:∀ z∈t.bare.flat,goodOneB z=true) :
 Calls Try.prog 90 #[.pointer (some ⟨bb,0,none⟩),.agg #[.int .i64 t.kind,.int .i64 t.n,.string t.name,.slice t.at_.1 t.args.length t.at_.2]] W fun e w'=>∃ u:LT,e = .returned (aggM u)∧u.bare=Tm.walkT st.l t.bare∧Turned zN W w'∧MK N bb mb gr gs R S bx (u :: ts) w1 st w':=by
 have hk:=h;obtain ⟨q,l,O,rs,ss,h1,h2,h3,h4,h5,h6,⟨r1,r2,r3⟩,⟨s1,s2,s3⟩,h9,h10,h11,h12⟩:=h;have:=walkO90 h3 (h12 t ht) hg;rw [LT.val_eq,h2] at this;refine this.mono ?_
 rintro e w' ⟨u,rfl,g1,g2,T⟩
 refine ⟨u,by rw [LT.val_eq];rfl,g2,T,?_⟩;have hk':=hk.turned0 T;exact ⟨q,l,O,rs,ss,h1,h2,h3.turned0 T,h4,h5.trans T,(T.bt h6),⟨r1.turned0 T,r2,fun x hx=>(r3 x hx).turned0 T⟩,⟨s1.turned0 T,s2,fun x hx=>(s3 x hx).turned0 T⟩,h9,h10,fun b hb=>⟨(T.bt (h11 b hb).1),(h11 b hb).2⟩,fun x hx=>(Qw.1 hx).elim (fun e=>e ▸ g1) (fun hx=>(h12 x hx).turned0 T)⟩
structure WkR (mk:List (Nat × Obj)→List LT→World→Prop) (w0:World) (Q:Tm Unit) (hs:Hist) (W:World):Prop where
 t:Turned zN w0 W
 it:∃ (bs:List (Nat × Obj)) (us:List LT),mk bs us W∧(∀ v,(12,v)∈hs→∃ u∈us,v=aggM u∧u.bare=Q)∧((∀ v,(13,v)∉hs)→bs=[])∧∀ v,(13,v)∈hs→∃ B c0 c1 c2 c3,v=ptr B∧w0.heap.size≤B∧bs=[(B,.cells #[c0,c1,c2,c3] 27 (0,0))]∧∀ q,(14,q)∈hs→(12,.agg #[c0,c1,c2,c3])∈hs
def MKx (N bb mb gr gs R S:Nat) (bx:List (Nat × Obj)) (ts:List LT) (w1:World) (st:Tm.MS) (bs:List (Nat × Obj)) (us:List LT) (W:World):Prop:=MK N bb mb gr gs R S (bs++bx) (us++ts) w1 st W
variable {Q:Tm Unit} {hs:Hist}
theorem WkR.start (h:MK N bb mb gr gs R S bx ts w1 st w0) (T:Turned zN w0 W):WkR (MKx N bb mb gr gs R S bx ts w1 st) w0 Q [] W:=
 ⟨T,[],[],h.turned0 T,fun v h=>(Ql h).elim,fun _=>rfl,fun v h=>(Ql h).elim⟩
theorem WkR.turned0 (h:WkR (MKx N bb mb gr gs R S bx ts w1 st) w0 Q hs W) (T:Turned zN W W'):WkR (MKx N bb mb gr gs R S bx ts w1 st) w0 Q hs W':=by
 obtain ⟨t,bs,us,h1,h2⟩:=h;exact ⟨t.trans T,bs,us,MK.turned0 h1 T,h2⟩
theorem WkR.called (hN:N=w1.heap.size) (h:WkR (MKx N bb mb gr gs R S bx ts w1 st) w0 (Tm.walkT st.l t.bare) hs W) (ht:t∈ts) (hg:∀ z∈t.bare.flat,goodOneB z=true) (hno:∀ v,(12,v)∉hs) (hst:∀ q,(14,q)∉hs) :
 Calls Try.prog 90 #[.pointer (some ⟨bb,0,none⟩),.agg #[.int .i64 t.kind,.int .i64 t.n,.string t.name,.slice t.at_.1 t.args.length t.at_.2]] W fun e w'=>∃ v,e = .returned v∧WkR (MKx N bb mb gr gs R S bx ts w1 st) w0 (Tm.walkT st.l t.bare) (hs++[(12,v)]) w':=by
 obtain ⟨T,bs,us,h1,h2,h3,h4⟩:=h;refine (MK.walk hN (show MK _ _ _ _ _ _ _ _ _ _ _ _ from h1) (Qj _ ht) hg).mono ?_
 rintro e w' ⟨u,rfl,g1,T',g2⟩
 refine ⟨_,rfl,T.trans T',bs,u :: us,g2,fun v hv=>?_,fun hn=>h3 (fun v hv=>hn v (Qc _ hv)),fun v hv=>?_⟩
 · rcases mem_snoc hv with hv | ⟨_,e⟩
   · exact absurd hv (hno v)
   · exact ⟨u,Qe ..,e,g1⟩
 · rcases mem_snoc hv with hv | ⟨e,_⟩
   · obtain ⟨B,c0,c1,c2,c3,k1,k2,k3,k4⟩:=h4 v hv
     refine ⟨B,c0,c1,c2,c3,k1,k2,k3,fun q hq=>?_⟩
     rcases mem_snoc hq with hq | ⟨e,_⟩
     · exact absurd hq (hst q)
     · cases e
   · cases e
theorem WkR.laid {c0 c1 c2 c3:Value} (h:WkR (MKx N bb mb gr gs R S bx ts w1 st) w0 Q hs W) (hno:∀ v,(13,v)∉hs) (hst:∀ q,(14,q)∉hs):WkR (MKx N bb mb gr gs R S bx ts w1 st) w0 Q (hs++[(13,ptr W.heap.size)]) (W.alloc (.cells #[c0,c1,c2,c3] 27)):=by
 obtain ⟨T,bs,us,h1,h2,h3,h4⟩:=h;obtain rfl:=h3 hno;refine ⟨T.trans ((Turned.refl _ W).alloc _),[(W.heap.size,.cells #[c0,c1,c2,c3] 27 (0,0))],us,MK.box h1 _,fun v hv=>?_,fun hn=>absurd (Qj _ (List.mem_singleton.2 rfl)) (hn (ptr W.heap.size)),fun v hv=>?_⟩
 · rcases mem_snoc hv with hv | ⟨e,_⟩
   · exact h2 v hv
   · cases e
 · rcases mem_snoc hv with hv | ⟨_,e⟩
   · exact absurd hv (hno v)
   · refine ⟨W.heap.size,c0,c1,c2,c3,e,T.size,rfl,fun q hq=>?_⟩
     rcases mem_snoc hq with hq | ⟨e,_⟩
     · exact absurd hq (hst q)
     · cases e
theorem WkR.cell {v:Value} (h:WkR (MKx N bb mb gr gs R S bx ts w1 st) w0 Q hs W) (h9:(13,v)∈hs):∃ B c0 c1 c2 c3,v = .pointer (some ⟨B,0,none⟩)∧W.heap[B]? = some (.cells #[c0,c1,c2,c3] 27 (0,0)):=by
 obtain ⟨T,bs,us,h1,h2,h3,h4⟩:=h;obtain ⟨B,c0,c1,c2,c3,k1,k2,rfl,k4⟩:=h4 v h9;exact ⟨B,c0,c1,c2,c3,k1,MK.boxes h1 _ (Qe ..)⟩
theorem WkR.val {v:Value} (h:WkR (MKx N bb mb gr gs R S bx ts w1 st) w0 Q hs W) (h9:(12,v)∈hs):∃ u:LT,v = .agg #[.int .i64 u.kind,.int .i64 u.n,.string u.name,.slice u.at_.1 u.args.length u.at_.2]:=by
 obtain ⟨T,bs,us,h1,h2,h3,h4⟩:=h;obtain ⟨u,_,e,_⟩:=h2 v h9;exact ⟨u,e⟩
theorem WkR.stored {B:Nat} {u:LT} {q:Value} (h:WkR (MKx N bb mb gr gs R S bx ts w1 st) w0 Q hs W) (hw0:w1.heap.size≤w0.heap.size) (hbx:∀ e∈bx,e.1 < w0.heap.size) (h13:(13,ptr B)∈hs) (h12:(12,.agg #[.int .i64 u.kind,.int .i64 u.n,.string u.name,.slice u.at_.1 u.args.length u.at_.2])∈hs) :
 WkR (MKx N bb mb gr gs R S bx ts w1 st) w0 Q (hs++[(14,q)]) ((((W.setCell ⟨B,0,none⟩ (.int .i64 u.kind)).setCell ⟨B,1,none⟩ (.int .i64 u.n)).setCell ⟨B,2,none⟩ (.string u.name)).setCell ⟨B,3,none⟩ (.slice u.at_.1 u.args.length u.at_.2)):=by
 obtain ⟨T,bs,us,h1,h2,h3,h4⟩:=h;obtain ⟨B',c0,c1,c2,c3,k1,k2,rfl,k4⟩:=h4 _ h13;obtain rfl:=ptr_inj k1;have Ts:=turned_store4 W B (.int .i64 u.kind) (.int .i64 u.n) (.string u.name) (.slice u.at_.1 u.args.length u.at_.2);have hs1:=MK.setBox (a:=.int .i64 u.kind) (b:=.int .i64 u.n) (c:=.string u.name) (d:=.slice u.at_.1 u.args.length u.at_.2) (show MK N bb mb gr gs R S ((B,.cells #[c0,c1,c2,c3] 27 (0,0)) :: bx) (us++ts) w1 st W from h1) (fun e he=>by have:=hbx e he;omega) (by omega);refine ⟨T.step Ts (fun i hi e=>by omega),[(B,.cells #[.int .i64 u.kind,.int .i64 u.n,.string u.name,.slice u.at_.1 u.args.length u.at_.2] 27 (0,0))],us,hs1,fun v hv=>?_,fun hn=>absurd (Qc _ h13) (hn _),fun v hv=>?_⟩
 · rcases mem_snoc hv with hv | ⟨e,_⟩
   · exact h2 v hv
   · cases e
 · rcases mem_snoc hv with hv | ⟨e,_⟩
   · obtain ⟨B2,_,_,_,_,e1,_,e2,_⟩:=h4 _ hv
     have e3:B=B2:=by injection e2 with e2;injection e2
     exact ⟨B,_,_,_,_,by rw [e1,e3],k2,rfl,fun q _=>Qc _ h12⟩
   · cases e
theorem WkR.done {v:Value} (h:WkR (MKx N bb mb gr gs R S bx ts w1 st) w0 Q hs W) (hall:∀ i∈[12,13,14],∃ v,(i,v)∈hs) (h13:(13,v)∈hs) :
 ∃ B,∃ u:LT,v = .pointer (some ⟨B,0,none⟩)∧u.bare=Q∧MK N bb mb gr gs R S ((B,.cells #[.int .i64 u.kind,.int .i64 u.n,.string u.name,.slice u.at_.1 u.args.length u.at_.2] 27 (0,0)) :: bx) (u :: ts) w1 st W:=by
 obtain ⟨T,bs,us,h1,h2,h3,h4⟩:=h;obtain ⟨B,c0,c1,c2,c3,k1,k2,rfl,k4⟩:=h4 _ h13;obtain ⟨q,hq⟩:=hall 14 (by simp);obtain ⟨u,hu,e,hb⟩:=h2 _ (k4 q hq)
 have e1:c0 = .int .i64 u.kind∧c1 = .int .i64 u.n∧c2 = .string u.name∧c3 = .slice u.at_.1 u.args.length u.at_.2:=by
  unfold aggM at e;simpa using e
 obtain ⟨rfl,rfl,rfl,rfl⟩:=e1;refine ⟨B,u,k1,hb,MK.sub h1 (fun b h=>h) (fun x hx=>?_)⟩
 rcases Qw.1 hx with rfl | hx
 · exact Qc _ hu
 · exact Qj _ hx
end
structure BoxR (g:Nat) (ty:TypeId) (bs ns:List Value) (ops:List (Nat × Nat)) (w0:World) (hs:Hist) (W:World):Prop where
 t:Turned (fun k=>k=g) w0 W
 box:∃ cs:List Value,cs.length=bs.length∧W.heap[g]? = some (.cells cs.toArray ty (0,0))∧(∀ c,(∀ j,(j,c)∈ops→∀ v,(j,v)∉hs)→cs[c]? = bs[c]?)∧∀ j c v,(j,c)∈ops→(j,v)∈hs→cs[c]? = ns[c]?
def opsOk (ops:List (Nat × Nat)):Bool:=ops.all fun a=>ops.all fun b=>(a.1 == b.1) == (a.2 == b.2)
section
variable {g:Nat} {ty:TypeId} {bs ns:List Value} {ops:List (Nat × Nat)} {w0 W W':World} {hs:Hist}
theorem opsOk.iff (h:opsOk ops=true) {a b:Nat × Nat} (ha:a∈ops) (hb:b∈ops):a.1=b.1↔a.2=b.2:=by
 unfold opsOk at h;rw [Qt] at h;have h1:=h a ha;rw [Qt] at h1;have h2:=h1 b hb;simp only [beq_iff_eq] at h2;constructor
 · intro e
   have:(a.1 == b.1)=true:=by simp [e]
   rw [this] at h2;simpa using h2.symm
 · intro e
   have:(a.2 == b.2)=true:=by simp [e]
   rw [this] at h2;simpa using h2
theorem BoxR.start (h:w0.heap[g]? = some (.cells bs.toArray ty (0,0))) (T:Turned zN w0 W):BoxR g ty bs ns ops w0 [] W:=
 ⟨T.mono (fun _ _ f=>f.elim),bs,rfl,(T.block g (zL h) (fun f=>f)).trans h,fun _ _=>rfl,fun j c v _ hm=>(Ql hm).elim⟩
theorem BoxR.turned0 (h:BoxR g ty bs ns ops w0 hs W) (T:Turned zN W W'):BoxR g ty bs ns ops w0 hs W':=by
 obtain ⟨cs,h1,h2,h3,h4⟩:=h.box;exact ⟨h.t.trans (T.mono (fun _ _ f=>f.elim)),cs,h1,(T.block g (zL h2) (fun f=>f)).trans h2,h3,h4⟩
theorem BoxR.store (h:BoxR g ty bs ns ops w0 hs W) (hok:opsOk ops=true) {j c:Nat} {x v:Value} (hj:(j,c)∈ops) (hc:c < bs.length) (hv:ns[c]? = some v):BoxR g ty bs ns ops w0 (hs++[(j,x)]) (W.setCell ⟨g,c,none⟩ v):=by
 obtain ⟨cs,h1,h2,h3,h4⟩:=h.box;have T:Turned (fun k=>k=g) W (W.setCell ⟨g,c,none⟩ v):=(Turned.refl (fun k=>k=g) W).setCell (p:=⟨g,c,none⟩) (.inr rfl) v;have hset:=heap_setCell_same W g c cs.toArray ty v h2;refine ⟨h.t.step T (fun i hi e=>e),cs.set c v,by rw [List.length_set];exact h1,by simpa using hset,fun c' hn=>?_,fun j' c' v' hm hq=>?_⟩
 · have hne:c≠c':=fun e=>hn j (e ▸ hj) x (Qj _ (List.mem_singleton.2 rfl))
   rw [List.getElem?_set_ne hne];exact h3 c' (fun j' hm v' hq=>hn j' hm v' (Qc _ hq))
 · by_cases he:c=c'
   · subst he
     rw [List.getElem?_set_self (by omega),hv]
   · rw [List.getElem?_set_ne he]
     rcases mem_snoc hq with hq | ⟨e,_⟩
     · exact h4 j' c' v' hm hq
     · exact absurd ((opsOk.iff hok hm hj).1 e).symm he
theorem BoxR.at (h:BoxR g ty bs ns ops w0 hs W) {c:Nat} (hc:c < bs.length):(∃ v,W.cell? ⟨g,c,none⟩=some v)∧W.frozen? ⟨g,c,none⟩=false:=by
 obtain ⟨cs,h1,h2,h3,h4⟩:=h.box;refine ⟨⟨cs[c]'(by omega),?_⟩,frozen_of_row W g c _ ty h2⟩;rw [cell_of_row W g c _ ty (0,0) h2];simp [h1,hc]
theorem BoxR.old (h:BoxR g ty bs ns ops w0 hs W) {c:Nat} {v0:Value} (hb:bs[c]? = some v0) (hn:∀ j,(j,c)∈ops→∀ v,(j,v)∉hs):W.cell? ⟨g,c,none⟩=some v0:=by
 obtain ⟨cs,h1,h2,h3,h4⟩:=h.box;rw [cell_of_row W g c _ ty (0,0) h2];simp only [List.getElem?_toArray];rw [h3 c hn,hb]
theorem BoxR.done (h:BoxR g ty bs ns ops w0 hs W) (hl:ns.length=bs.length) (hall:∀ a∈ops,∃ v,(a.1,v)∈hs) (hsame:∀ c,c < bs.length→c∉ops.map (·.2)→ns[c]? = bs[c]?):W.heap[g]? = some (.cells ns.toArray ty (0,0)):=by
 obtain ⟨cs,h1,h2,h3,h4⟩:=h.box
 have:cs=ns:=by
  refine List.ext_getElem? (fun c=>?_)
  by_cases hc:c < bs.length
  · by_cases hm:c∈ops.map (·.2)
    · obtain ⟨⟨j,c'⟩,ha,rfl⟩:=List.mem_map.1 hm
      obtain ⟨v,hv⟩:=hall _ ha;exact h4 j c' v ha hv
    · rw [hsame c hc hm]
      refine h3 c (fun j hj v hv=>hm (List.mem_map.2 ⟨_,hj,rfl⟩))
  · rw [List.getElem?_eq_none (by omega),List.getElem?_eq_none (by omega)]
 rw [this] at h2;exact h2
end
end Go.Proofs.Ytoihjobdfjajfaa
namespace Go.Proofs.Ytoihjobdfjajfaa
open Go.RowKit Go.Maps
open Tm (Stp sVar sVal sInt sAtom sComp)
def hadF (had:List Int):Int→Option Value:=fun i=>if i∈had then some (.bool true) else none
theorem hadF_nil:hadF []=fun _=>none:=by funext i;unfold hadF;simp
theorem hadF_put (had:List Int) (b:Int):upd (hadF had) b (.bool true)=hadF (had++[b]):=by
 funext i
 unfold upd hadF
 by_cases h:i=b
 · rw [if_pos h,if_pos (by rw [h];simp)]
 · rw [if_neg h]
   by_cases hm:i∈had
   · rw [if_pos hm,if_pos (Qc _ hm)]
   · rw [if_neg hm,if_neg (by simp [hm,h])]
theorem hadF_same {had:List Int} {b:Int} (h:b∈had):upd (hadF had) b (.bool true)=hadF had:=by
 funext i
 unfold upd hadF
 by_cases e:i=b
 · rw [if_pos e,e,if_pos h]
 · rw [if_neg e]
theorem hadF_get (had:List Int) (b:Int):((hadF had b).getD (.bool false)) = .bool (decide (b∈had)):=by
 unfold hadF
 by_cases h:b∈had
 · rw [if_pos h,decide_eq_true h];rfl
 · rw [if_neg h,decide_eq_false h];rfl
structure Chk (kb mb:Nat) (k:Int) (had:List Int) (w:World):Prop where
 b:w.heap[kb]? = some (.cells #[.int .i64 k,.map (some mb)] 178 (0,0))
 m:IMap Try.prog 3 w mb had.length (hadF had)
 ne:kb≠mb
 few:had.length≤60000
theorem Chk.turned0 {kb mb:Nat} {k:Int} {had:List Int} {w w':World} (h:Chk kb mb k had w) (T:Turned zN w w'):Chk kb mb k had w':=
 ⟨(T.bt h.b),h.m.turned T (fun f=>f),h.ne,h.few⟩
theorem Chk.lt {kb mb:Nat} {k:Int} {had:List Int} {w:World} (h:Chk kb mb k had w):kb < w.heap.size∧mb < w.heap.size:=⟨(zL h.b),h.m.lt⟩
def stEqB (a b:Stp):Bool:=decide (a.op=b.op) && (decide (a.a=b.a) && (decide (a.b=b.b) && (decide (a.c=b.c) && (decide (a.n=b.n) && decide (a.name=b.name)))))
end Go.Proofs.Ytoihjobdfjajfaa
namespace Go.Proofs.Ytoihjobdfjajfaa
open Lib (hid)
open Go.RowKit Go.Maps
open Tm (Stp sVar sVal sInt sAtom sComp)
theorem op_Var_Var:(sVar.toList == [118,97,114])=true:=by rw [ByteArray.toList_eq];rfl
theorem op_Var_Val:(sVar.toList == [118,97,108])=false:=by rw [ByteArray.toList_eq];rfl
theorem op_Var_Int:(sVar.toList == [105,110,116])=false:=by rw [ByteArray.toList_eq];rfl
theorem op_Var_Atom:(sVar.toList == [97,116,111,109])=false:=by rw [ByteArray.toList_eq];rfl
theorem op_Var_Comp:(sVar.toList == [99,111,109,112])=false:=by rw [ByteArray.toList_eq];rfl
theorem op_Val_Var:(sVal.toList == [118,97,114])=false:=by rw [ByteArray.toList_eq];rfl
theorem op_Val_Val:(sVal.toList == [118,97,108])=true:=by rw [ByteArray.toList_eq];rfl
theorem op_Val_Int:(sVal.toList == [105,110,116])=false:=by rw [ByteArray.toList_eq];rfl
theorem op_Val_Atom:(sVal.toList == [97,116,111,109])=false:=by rw [ByteArray.toList_eq];rfl
theorem op_Val_Comp:(sVal.toList == [99,111,109,112])=false:=by rw [ByteArray.toList_eq];rfl
theorem op_Int_Var:(sInt.toList == [118,97,114])=false:=by rw [ByteArray.toList_eq];rfl
theorem op_Int_Val:(sInt.toList == [118,97,108])=false:=by rw [ByteArray.toList_eq];rfl
theorem op_Int_Int:(sInt.toList == [105,110,116])=true:=by rw [ByteArray.toList_eq];rfl
theorem op_Int_Atom:(sInt.toList == [97,116,111,109])=false:=by rw [ByteArray.toList_eq];rfl
theorem op_Int_Comp:(sInt.toList == [99,111,109,112])=false:=by rw [ByteArray.toList_eq];rfl
theorem op_Atom_Var:(sAtom.toList == [118,97,114])=false:=by rw [ByteArray.toList_eq];rfl
theorem op_Atom_Val:(sAtom.toList == [118,97,108])=false:=by rw [ByteArray.toList_eq];rfl
theorem op_Atom_Int:(sAtom.toList == [105,110,116])=false:=by rw [ByteArray.toList_eq];rfl
theorem op_Atom_Atom:(sAtom.toList == [97,116,111,109])=true:=by rw [ByteArray.toList_eq];rfl
theorem op_Atom_Comp:(sAtom.toList == [99,111,109,112])=false:=by rw [ByteArray.toList_eq];rfl
theorem op_Comp_Var:(sComp.toList == [118,97,114])=false:=by rw [ByteArray.toList_eq];rfl
theorem op_Comp_Val:(sComp.toList == [118,97,108])=false:=by rw [ByteArray.toList_eq];rfl
theorem op_Comp_Int:(sComp.toList == [105,110,116])=false:=by rw [ByteArray.toList_eq];rfl
theorem op_Comp_Atom:(sComp.toList == [97,116,111,109])=false:=by rw [ByteArray.toList_eq];rfl
theorem op_Comp_Comp:(sComp.toList == [99,111,109,112])=true:=by rw [ByteArray.toList_eq];rfl
theorem empty_nil:(ByteArray.empty.toList=[])=True:=by simp [(bytes_nil ByteArray.empty).2 rfl]
theorem stEqB_iff {a b:Stp}:stEqB a b=true↔a.op=b.op∧a.a=b.a∧a.b=b.b∧a.c=b.c∧a.n=b.n∧a.name=b.name:=by
 unfold stEqB;simp only [Qd,decide_eq_true_eq]
theorem slim_leaf (k n:Int) (s:ByteArray):slim (leaf k n s):=by
 intro x hx;rw [show (leaf k n s).flat=[leaf k n s] from rfl,List.mem_singleton] at hx;subst hx;exact Nat.zero_le _
theorem goodAtom (s:ByteArray) (hs:s.size≤maxLen) (w:World):Calls Try.prog 38 #[.agg #[.int .i64 2,.int .i64 0,.string s,.slice none 0 0]] w fun e w'=>e = .returned (.bool (goodNameB s))∧Turned zN w w':=by
 have h:=good38 (p:=fun _=>True) (t:=leaf 2 0 s) (w:=w) (leafIn' (i64_lit _ (by omega)) (i64_lit _ (by omega)) hs) (slim_leaf _ _ _)
 have hg:goodB (leaf 2 0 s)=goodNameB s:=by
  unfold goodB;rw [show (leaf 2 0 s).size=1 from rfl,show (leaf 2 0 s).depth=1 from rfl,show (leaf 2 0 s).flat=[leaf 2 0 s] from rfl];simp only [List.all_cons,List.all_nil,Bool.and_true];rw [goodOneB_2 (leaf 2 0 s) rfl];show (decide (1≤2000) && (decide (1≤64) && (decide ((0:Int)=0) && (goodNameB s && decide (0≤8)))))=goodNameB s
  cases goodNameB s <;> rfl
 rw [hg] at h;exact h
theorem atomOnly (s:ByteArray) (hs:s.size≤maxLen) (w:World):Calls Try.prog 63 #[.string s] w fun e w'=>e = .returned (.agg #[.int .i64 2,.int .i64 0,.string s,.slice none 0 0])∧Turned zN w w':=
 (atomV s hs w).mono fun e w' ⟨h1,_,h3⟩=>⟨h1,h3⟩
set_option maxRecDepth 100000 in
theorem one_int {kb:Nat} {ar sl rg i:Int} {lv:Value} {s:Stp} {w:World} (hs:stOk s) (hop:s.op=sInt) :
 Calls Try.prog 149 #[.pointer (some ⟨kb,0,none⟩),.agg #[.int .i64 ar,.int .i64 sl,.int .i64 rg,lv],.int .i64 i,.agg #[.string s.op,.int .i64 s.a,.int .i64 s.b,.int .i64 s.c,.int .i64 s.n,.string s.name]] w fun e w'=>e = .returned (.bool (stEqB s ⟨sInt,i,0,0,s.n,ByteArray.empty⟩ && goodNameB s.name))∧Turned zN w w':=by
 have hnm:=hs.2.2.2.2.2;have o0:=op_Int_Var;have o1:=op_Int_Val;have o2:=op_Int_Int;have o3:=op_Int_Atom;have o4:=op_Int_Comp;have en:=empty_nil
 cases hq:stEqB s ⟨sInt,i,0,0,s.n,ByteArray.empty⟩ with
 | true=>
  obtain ⟨_,h1,h2,h3,h4,h5⟩:=stEqB_iff.1 hq;obtain ⟨op,a,b,c,n,name⟩:=s;simp only at hop h1 h2 h3 h4 h5 hnm;subst hop h1 h2 h3 h5;clear hq hs;obtain ⟨B,hB⟩:∃ B,B=goodNameB ByteArray.empty:=⟨_,rfl⟩;have HB:=hid hB;clear hB;go_enter Try.func149,Try.ntmps149
  go_wp2_with (first
   | (go_at_call 63;(with_reducible refine (atomOnly ByteArray.empty hnm _).mono ?_);rintro e W1 ⟨rfl,T1⟩)
   | (go_at_call 38;(with_reducible refine (goodAtom ByteArray.empty hnm _).mono ?_);rintro e W2 ⟨rfl,T2⟩;rw [←HB.out]))
  all_goals
   go_ret;exact ⟨by rw [←HB.out];rfl,((((Turned.refl _ w).alloc _).alloc _).alloc _).trans (T1.trans T2)⟩
 | false=>
  have HQ:Hid (¬ (s.a=i∧s.b=0∧s.c=0∧s.name=ByteArray.empty)):=fun c=>by
   rw [show stEqB s ⟨sInt,i,0,0,s.n,ByteArray.empty⟩=true from stEqB_iff.2 ⟨hop,c.1,c.2.1,c.2.2.1,rfl,c.2.2.2⟩] at hq;cases hq
  clear hq hs;rw [hop];go_enter Try.func149,Try.ntmps149
  go_wp2_with (go_at_call 63;exfalso;exact HQ.out (by first | exact ⟨‹_›,‹_›,‹_›,(bytes_nil _).1 ‹_›⟩ | exact ⟨‹_›,‹_›,‹_›,‹_›⟩))
  all_goals
   go_ret;exact ⟨rfl,(((Turned.refl _ w).alloc _).alloc _).alloc _⟩
set_option maxRecDepth 100000 in
theorem one_atom {kb:Nat} {ar sl rg i:Int} {lv:Value} {s:Stp} {w:World} (hs:stOk s) (hop:s.op=sAtom) :
 Calls Try.prog 149 #[.pointer (some ⟨kb,0,none⟩),.agg #[.int .i64 ar,.int .i64 sl,.int .i64 rg,lv],.int .i64 i,.agg #[.string s.op,.int .i64 s.a,.int .i64 s.b,.int .i64 s.c,.int .i64 s.n,.string s.name]] w fun e w'=>e = .returned (.bool (stEqB s ⟨sAtom,i,0,0,0,s.name⟩ && goodNameB s.name))∧Turned zN w w':=by
 have hnm:=hs.2.2.2.2.2;have o0:=op_Atom_Var;have o1:=op_Atom_Val;have o2:=op_Atom_Int;have o3:=op_Atom_Atom;have o4:=op_Atom_Comp;have en:=empty_nil
 cases hq:stEqB s ⟨sAtom,i,0,0,0,s.name⟩ with
 | true=>
  obtain ⟨_,h1,h2,h3,h4,h5⟩:=stEqB_iff.1 hq;obtain ⟨op,a,b,c,n,name⟩:=s;simp only at hop h1 h2 h3 h4 h5 hnm;subst hop h1 h2 h3 h4;clear hq hs;obtain ⟨B,hB⟩:∃ B,B=goodNameB name:=⟨_,rfl⟩;have HB:=hid hB;clear hB;go_enter Try.func149,Try.ntmps149
  go_wp2_with (first
   | (go_at_call 63;(with_reducible refine (atomOnly name hnm _).mono ?_);rintro e W1 ⟨rfl,T1⟩)
   | (go_at_call 38;(with_reducible refine (goodAtom name hnm _).mono ?_);rintro e W2 ⟨rfl,T2⟩;rw [←HB.out]))
  all_goals
   go_ret;exact ⟨by rw [←HB.out];rfl,((((Turned.refl _ w).alloc _).alloc _).alloc _).trans (T1.trans T2)⟩
 | false=>
  have HQ:Hid (¬ (s.a=i∧s.b=0∧s.c=0∧s.n=0)):=fun c=>by
   rw [show stEqB s ⟨sAtom,i,0,0,0,s.name⟩=true from stEqB_iff.2 ⟨hop,c.1,c.2.1,c.2.2.1,c.2.2.2,rfl⟩] at hq;cases hq
  clear hq hs;rw [hop];go_enter Try.func149,Try.ntmps149
  go_wp2_with (go_at_call 63;exfalso;exact HQ.out (by first | exact ⟨‹_›,‹_›,‹_›,(bytes_nil _).1 ‹_›⟩ | exact ⟨‹_›,‹_›,‹_›,‹_›⟩))
  all_goals
   go_ret;exact ⟨rfl,(((Turned.refl _ w).alloc _).alloc _).alloc _⟩
end Go.Proofs.Ytoihjobdfjajfaa
namespace Go.Proofs.Ytoihjobdfjajfaa
open Lib (hid)
open Go.RowKit Go.Maps
theorem MRQ.mono {mk mk':Tm.MS→World→Prop} {st:Tm.MS} {r:Tm.MR} {e:Ending} {w:World} (hm:∀ s W,mk s W→mk' s W) (h:MRQ mk st r e w):MRQ mk' st r e w:=by
 cases r with
 | go s=>exact ⟨h.1,hm _ _ h.2⟩
 | stop E m=>obtain ⟨b,s2,h1,h2,h3,h4,h5⟩:=h;exact ⟨b,s2,h1,h2,h3,h4,hm _ _ h5⟩
theorem MRQ.turned0 {mk:Tm.MS→World→Prop} {st:Tm.MS} {r:Tm.MR} {e:Ending} {w w':World} (hm:∀ s W W',mk s W→Turned zN W W'→mk s W') (h:MRQ mk st r e w) (T:Turned zN w w'):MRQ mk st r e w':=by
 cases r with
 | go s=>exact ⟨h.1,hm _ _ _ h.2 T⟩
 | stop E m=>obtain ⟨b,s2,h1,h2,h3,h4,h5⟩:=h;exact ⟨b,s2,h1,h2,h3,h4,hm _ _ _ h5 T⟩
theorem MRQ.shape {mk:Tm.MS→World→Prop} {st:Tm.MS} {r:Tm.MR} {e:Ending} {w:World} (h:MRQ mk st r e w):∃ (b:Bool) (E:Int),e = .returned (.tuple #[.bool b,.int .i64 E]):=by
 cases r with
 | go s=>exact ⟨_,_,h.1⟩
 | stop E m=>obtain ⟨b,s2,h1,_⟩:=h;exact ⟨_,_,h1⟩
theorem bothR_stop {m:Nat} {l tr:Tm.Trail} {x y:Tm Unit} {ok:Bool} {c e:Int} (h:bothR m l x y=(ok,c,e,tr)) (hn:¬ (ok=true∧e=0)):ok=false∧tr=l:=by
 unfold bothR at h
 split at h
 · split at h <;> injection h with h1 h <;> injection h with h2 h <;> injection h with h3 h <;> subst h1 h3 h
   · exact absurd ⟨rfl,rfl⟩ hn
   · exact ⟨rfl,rfl⟩
   · exact ⟨rfl,rfl⟩
 · injection h with h1 h
   injection h with h2 h
   injection h with h3 h
   subst h1 h;exact ⟨rfl,rfl⟩
def OneM (V:Value) (Q:World→Prop) (w0:World):List Value→World→Prop
 | [],W=>Turned zN w0 W
 | [a],W=>a=V∧Q W
 | _,_=>False
section
variable {V:Value} {Q:World→Prop} {w0:World}
theorem OneM.turned0 (hQ:∀ W W',Q W→Turned zN W W'→Q W'):∀ (hs:List Value) (w w':World),OneM V Q w0 hs w→Turned zN w w'→OneM V Q w0 hs w'
 | [],_,_,h,T=>Turned.trans h T
 | [_],_,_,h,T=>⟨h.1,hQ _ _ h.2 T⟩
 | _ :: _ :: _,_,_,h,_=>h.elim
theorem OneM.early:∀ (hs:List Value) (W:World),hs.length≤0→OneM V Q w0 hs W→Turned zN w0 W
 | [],_,_,h=>h
theorem OneM.val:∀ (hs:List Value) (W:World) {x:Value},OneM V Q w0 hs W→hs[0]? = some x→x=V
 | [],_,_,_,e=>by simp at e
 | [_],_,_,h,e=>by simp at e;rw [←e];exact h.1
 | _ :: _ :: _,_,_,h,_=>h.elim
end
def TieS (t:LT) (b:Bool) (E:Int) (mk:Tm.MS→World→Prop) (st:Tm.MS) (MR:Tm.MR) (w0:World):List Value→World→Prop
 | [],W=>Turned zN w0 W
 | [v],W=>Turned zN w0 W∧v = .agg #[.int .i64 t.kind,.int .i64 t.n,.string t.name,.slice t.at_.1 t.args.length t.at_.2]
 | [_,v],W=>v = .tuple #[.bool b,.int .i64 E]∧MRQ mk st MR (.returned (.tuple #[.bool b,.int .i64 E])) W
 | _,_=>False
section
variable {t:LT} {b:Bool} {E:Int} {mk:Tm.MS→World→Prop} {st:Tm.MS} {MR:Tm.MR} {w0:World}
theorem TieS.turned0 (hm:∀ s W W',mk s W→Turned zN W W'→mk s W'):∀ (hs:List Value) (w w':World),TieS t b E mk st MR w0 hs w→Turned zN w w'→TieS t b E mk st MR w0 hs w'
 | [],_,_,h,T=>Turned.trans h T
 | [_],_,_,h,T=>⟨h.1.trans T,h.2⟩
 | [_,_],_,_,h,T=>⟨h.1,h.2.turned0 hm T⟩
 | _ :: _ :: _ :: _,_,_,h,_=>h.elim
theorem TieS.early:∀ (hs:List Value) (W:World),hs.length≤1→TieS t b E mk st MR w0 hs W→Turned zN w0 W
 | [],_,_,h=>h
 | [_],_,_,h=>h.1
 | _ :: _ :: _,_,h,_=>absurd h (by simp)
theorem TieS.val:∀ (hs:List Value) (W:World) {x:Value},TieS t b E mk st MR w0 hs W→hs[1]? = some x→x = .tuple #[.bool b,.int .i64 E]
 | [],_,_,_,e=>by simp at e
 | [_],_,_,_,e=>by simp at e
 | [_,_],_,_,h,e=>by simp at e;rw [←e];exact h.1
 | _ :: _ :: _ :: _,_,_,h,_=>h.elim
end
section
variable {N bb mb gr gs R S:Nat} {bx:List (Nat × Obj)} {ts:List LT} {w1 w:World} {st st':Tm.MS} {x t:LT}
def OneOk (R S:Nat) (st:Tm.MS) (op name:ByteArray) (b c:Nat) (n:Int):Prop:=
 (op=Tm.sVar∧b < S)∨(op=Tm.sVal∧b < S∧Tm.ownB st.m (st.ss.getD b (Tm.V 0))=true)∨(op=Tm.sInt∧I64 n)∨(op=Tm.sAtom)∨(op=Tm.sComp∧1≤b∧b≤12∧c+b≤R∧st.m+b≤65536)
set_option maxRecDepth 100000 in
theorem one159 {op name:ByteArray} {a b c:Nat} {n:Int} (hN:N=w1.heap.size) (h:MK N bb mb gr gs R S bx ts w1 st w) (ha:a < R) (hR:R≤2000) (hS:S≤2000) (hs:name.size≤maxLen) (hown:Tm.ownB st.m (st.rs.getD a (Tm.V 0))=true) (hop:OneOk R S st op name b c n) :
 Calls Try.prog 159 #[.pointer (some ⟨mb,0,none⟩),.agg #[.string op,.int .i64 (a:Int),.int .i64 (b:Int),.int .i64 (c:Int),.int .i64 n,.string name]] w (MRQ (MK N bb mb gr gs R S bx ts w1) st (Tm.stepM st ⟨op,(a:Int),(b:Int),(c:Int),n,name⟩)):=by
 have hm1:MK N bb mb gr gs R S ((w.heap.size,.cells #[.string op,.int .i64 (a:Int),.int .i64 (b:Int),.int .i64 (c:Int),.int .i64 n,.string name] 139 (0,0)) :: bx) ts w1 st (w.alloc (.cells #[.string op,.int .i64 (a:Int),.int .i64 (b:Int),.int .i64 (c:Int),.int .i64 n,.string name] 139)):=h.box (.cells #[.string op,.int .i64 (a:Int),.int .i64 (b:Int),.int .i64 (c:Int),.int .i64 n,.string name] 139);obtain ⟨w2,hw2⟩:∃ z,z=w.alloc (.cells #[.string op,.int .i64 (a:Int),.int .i64 (b:Int),.int .i64 (c:Int),.int .i64 n,.string name] 139):=⟨_,rfl⟩;rw [←hw2] at hm1
 have hla:st.rs[a]? = some (st.rs.getD a (Tm.V 0)):=by
  have:=h.lens.1;rw [List.getD_eq_getElem?_getD,Qa (by omega)];rfl
 obtain ⟨r,hr,hrc,hm2⟩:=hm1.reg hla;rw [←hr] at hown;obtain ⟨MR,hMR⟩:∃ z,z=Tm.stepM st ⟨op,(a:Int),(b:Int),(c:Int),n,name⟩:=⟨_,rfl⟩;rw [←hMR];unfold Tm.stepM at hMR;simp only [Int.toNat_natCast,←hr] at hMR;have howx:Tm.ownB st.m (Tm.walkT st.l r.bare)=true:=Tm.walkT_own h.ok _ _ (Qm _) hown;have HMR:=hid hMR;have HOX:=hid howx;have HM2:=hid hm2;have HW2:=hid hw2;have HN:=hid hN;have HAR:Hid (a < R∧R≤2000):=⟨ha,hR⟩;have HOP:=hid hop;have HNS:=hid hs
 have HGO:Hid (∀ z∈r.bare.flat,goodOneB z=true):=by
  have:=(Tm.ownB_iff.1 hown).1;unfold goodB at this;simp only [Qd,Qt] at this;exact this.2.2
 have HW12:Hid (w1.heap.size≤w2.heap.size):=hm2.wsize
 have HBL:Hid (∀ e∈((w.heap.size,.cells #[.string op,.int .i64 (a:Int),.int .i64 (b:Int),.int .i64 (c:Int),.int .i64 n,.string name] 139 (0,0)) :: bx),e.1 < w2.heap.size):=fun e he=>(zL (hm2.boxes e he))
 have HBX:Hid (∀ W,Turned zN w2 W→(W.cell? ⟨mb,0,none⟩=some (.pointer (some ⟨bb,0,none⟩))∧W.cell? ⟨mb,1,none⟩=some (.slice (some ⟨gr,0,none⟩) R R)∧W.cell? ⟨mb,2,none⟩=some (.slice (some ⟨gs,0,none⟩) S S))∧(W.cell? ⟨w.heap.size,0,none⟩=some (.string op)∧W.cell? ⟨w.heap.size,1,none⟩=some (.int .i64 (a:Int))∧W.cell? ⟨w.heap.size,2,none⟩=some (.int .i64 (b:Int))∧W.cell? ⟨w.heap.size,3,none⟩=some (.int .i64 (c:Int))∧W.cell? ⟨w.heap.size,4,none⟩=some (.int .i64 n)∧W.cell? ⟨w.heap.size,5,none⟩=some (.string name))∧
  W.cell? ⟨gr,a * 4,none⟩=some (.int .i64 r.kind)∧W.cell? ⟨gr,a * 4+1,none⟩=some (.int .i64 r.n)∧W.cell? ⟨gr,a * 4+2,none⟩=some (.string r.name)∧W.cell? ⟨gr,a * 4+3,none⟩=some (.slice r.at_.1 r.args.length r.at_.2)):=fun W T=>by
  have hW:=hm2.turned0 T;obtain ⟨b0,b1,b2,_⟩:=rec3b hW.mbox;exact ⟨⟨b0,b1,b2⟩,cells6 (hW.boxes _ (Qe ..)),T.cell0 hrc.1,T.cell0 hrc.2.1,T.cell0 hrc.2.2.1,T.cell0 hrc.2.2.2⟩
 obtain ⟨⟨b0,b1,b2⟩,⟨m0,m1,m2,m3,m4,m5⟩,r0,r1,r2,r3⟩:=HBX.out w2 (Turned.refl _ _);clear h hm1 hm2 hw2 hla hr hrc hMR hown howx hN ha hR hS hs hop;go_enter Try.func159,Try.ntmps159
 go_wp2_with fail
 rw [←HW2.out]
 try go_wp2_with fail
 refine wp_region_k [10,11,12,13,14,15,16,17,18,19,20,21,22,6] [12,13,14] [(22,12),(6,13)] (fun dd vv=>(match dd with | 10=>vv = .pointer (some ⟨mb,0,none⟩) | 11=>vv = .pointer (some ⟨mb,0,none⟩) | 12=>vv = .pointer (some ⟨mb,0,none⟩) | 13=>vv = .pointer (some ⟨bb,0,none⟩) | 14=>vv = .pointer (some ⟨mb,0,none⟩) | 15=>vv = .pointer (some ⟨mb,0,none⟩) | 16=>vv = .pointer (some ⟨mb,1,none⟩) | 17=>vv = .slice (some ⟨gr,0,none⟩) R R | 18=>vv = .pointer (some ⟨w.heap.size,1,none⟩) | 19=>vv = .int .i64 (a:Int) | 20=>vv = .pointer (some ⟨gr,a * 4,none⟩) | 21=>vv = .agg #[.int .i64 r.kind,.int .i64 r.n,.string r.name,.slice r.at_.1 r.args.length r.at_.2] | _=>True:Prop)) (WkR (MKx N bb mb gr gs R S ((w.heap.size,.cells #[.string op,.int .i64 (a:Int),.int .i64 (b:Int),.int .i64 (c:Int),.int .i64 n,.string name] 139 (0,0)) :: bx) (r :: ts) w1 st) w2 (Tm.walkT st.l r.bare)) (by kernel_rfl) rfl (by kernel_rfl) (by kernel_rfl) (fun W T=>WkR.start HM2.out T) (fun hs W W' h T=>h.turned0 T) ?hs ?hQ
 case hs=>
  refine ⟨?s0,?s1,?s2,?s3,?s4,?s5,?s6,?s7,?s8,?s9,?s10,?s11,?s12,?s13,?s14,trivial⟩
  case s0=>refine fun hs hl=>zG [] [0] fun ac W hT hI hO=>?_;simp only [execOp,Act.eval,hO 0 (by simp)];go_simp;try exact tq
  case s1=>refine fun hs hl=>zG [10] [] fun ac W hT hI hO=>?_;have h10:_=_:=hI 10 (by simp);simp only [execOp,Act.eval,h10];go_simp;try exact tq
  case s2=>refine fun hs hl=>zG [11] [] fun ac W hT hI hO=>?_;have h11:_=_:=hI 11 (by simp);simp only [execOp,Act.eval,h11];go_simp;try exact tq
  case s3=>refine fun hs hl=>zG [12] [] fun ac W hT hI hO=>?_;have h12:_=_:=hI 12 (by simp);obtain ⟨⟨b0,b1,b2⟩,⟨m0,m1,m2,m3,m4,m5⟩,r0,r1,r2,r3⟩:=HBX.out W hT.t;simp only [execOp,Act.eval,h12];go_simp;try exact tq
  case s4=>refine fun hs hl=>zG [] [0] fun ac W hT hI hO=>?_;simp only [execOp,Act.eval,hO 0 (by simp)];go_simp;try exact tq
  case s5=>refine fun hs hl=>zG [14] [] fun ac W hT hI hO=>?_;have h14:_=_:=hI 14 (by simp);simp only [execOp,Act.eval,h14];go_simp;try exact tq
  case s6=>refine fun hs hl=>zG [15] [] fun ac W hT hI hO=>?_;have h15:_=_:=hI 15 (by simp);simp only [execOp,Act.eval,h15];go_simp;try exact tq
  case s7=>refine fun hs hl=>zG [16] [] fun ac W hT hI hO=>?_;have h16:_=_:=hI 16 (by simp);obtain ⟨⟨b0,b1,b2⟩,⟨m0,m1,m2,m3,m4,m5⟩,r0,r1,r2,r3⟩:=HBX.out W hT.t;simp only [execOp,Act.eval,h16];go_simp;try exact tq
  case s8=>refine fun hs hl=>zG [] [3] fun ac W hT hI hO=>?_;simp only [execOp,Act.eval,hO 3 (by simp)];go_simp;try exact tq
  case s9=>refine fun hs hl=>zG [18] [] fun ac W hT hI hO=>?_;have h18:_=_:=hI 18 (by simp);obtain ⟨⟨b0,b1,b2⟩,⟨m0,m1,m2,m3,m4,m5⟩,r0,r1,r2,r3⟩:=HBX.out W hT.t;simp only [execOp,Act.eval,h18];go_simp;try exact tq
  case s10=>refine fun hs hl=>zG [17,19] [] fun ac W hT hI hO=>?_;have h17:_=_:=hI 17 (by simp);have h19:_=_:=hI 19 (by simp);have haR:=HAR.out;simp only [execOp,Act.eval,h17,h19];go_simp;try exact tq
  case s11=>refine fun hs hl=>zG [20] [] fun ac W hT hI hO=>?_;have h20:_=_:=hI 20 (by simp);obtain ⟨⟨b0,b1,b2⟩,⟨m0,m1,m2,m3,m4,m5⟩,r0,r1,r2,r3⟩:=HBX.out W hT.t;simp only [execOp,Act.eval,h20];go_simp;try exact tq
  case s12=>
   refine fun hs hno hl=>zG [13,21] [] fun ac W hT hI hO=>?_;have h13:_=_:=hI 13 (by simp);have h21:_=_:=hI 21 (by simp);show Brings _ (fun vv w'=>WkR (MKx N bb mb gr gs R S ((w.heap.size,.cells #[.string op,.int .i64 (a:Int),.int .i64 (b:Int),.int .i64 (c:Int),.int .i64 n,.string name] 139 (0,0)) :: bx) (r :: ts) w1 st) w2 (Tm.walkT st.l r.bare) (hs++[(12,vv)]) w') _;simp only [execOp,Act.eval,h13,h21];go_simp;show Calls Try.prog 90 _ W _
   (with_reducible refine (hT.called HN.out (Qe ..) HGO.out hno (fun q=>hl 14 15 q (by kernel_rfl))).mono ?_)
   rintro e w' ⟨u,rfl,g⟩
   exact ⟨_,rfl,g⟩
  case s13=>
   refine fun hs hno hl=>zG [] [] fun ac W hT hI hO=>?_;show Brings _ (fun vv w'=>WkR (MKx N bb mb gr gs R S ((w.heap.size,.cells #[.string op,.int .i64 (a:Int),.int .i64 (b:Int),.int .i64 (c:Int),.int .i64 n,.string name] 139 (0,0)) :: bx) (r :: ts) w1 st) w2 (Tm.walkT st.l r.bare) (hs++[(13,vv)]) w') _;simp only [execOp,Act.eval];go_simp;exact hT.laid hno (fun q=>hl 14 15 q (by kernel_rfl))
  case s14=>
   refine fun hs hno hl=>zG [6,22] [] fun ac W hT hI hO=>?_;have h6:(13,ac.tmps.getD 6 undef)∈hs:=hI 6 (by simp);have h22:(12,ac.tmps.getD 22 undef)∈hs:=hI 22 (by simp);obtain ⟨B,a0,a1,a2,a3,eB,hB⟩:=hT.cell h6;obtain ⟨u,eA⟩:=hT.val h22;have h22':=h22;rw [eA] at h22';obtain ⟨d0,d1,d2,d3,f0,f1,f2,f3⟩:=cells4 hB;show Brings _ (fun vv w'=>WkR (MKx N bb mb gr gs R S ((w.heap.size,.cells #[.string op,.int .i64 (a:Int),.int .i64 (b:Int),.int .i64 (c:Int),.int .i64 n,.string name] 139 (0,0)) :: bx) (r :: ts) w1 st) w2 (Tm.walkT st.l r.bare) (hs++[(14,vv)]) w') _;simp only [execOp,Act.eval,eB,eA];go_simp;rw [eB] at h6;exact hT.stored HW12.out HBL.out h6 h22'
 case hQ=>
  intro hs vs w5 hall huniq hR hV;have q6:(13,vs 6)∈hs:=hV 6 (by simp);obtain ⟨B,u,hB,hub,hmk⟩:=hR.done hall q6;simp only [Qq,List.foldl_nil,Qk,Qs,Qr,hB];have HM5:Hid (MK N bb mb gr gs R S ((B,.cells #[.int .i64 u.kind,.int .i64 u.n,.string u.name,.slice u.at_.1 u.args.length u.at_.2] 27 (0,0)) :: (w.heap.size,.cells #[.string op,.int .i64 (a:Int),.int .i64 (b:Int),.int .i64 (c:Int),.int .i64 n,.string name] 139 (0,0)) :: bx) (u :: r :: ts) w1 st w5):=hmk;have HUB:=hid hub;clear hall huniq hR hV q6 hB hmk hub
  have HC5:Hid (∀ W,Turned zN w5 W→(W.cell? ⟨mb,0,none⟩=some (.pointer (some ⟨bb,0,none⟩))∧W.cell? ⟨mb,1,none⟩=some (.slice (some ⟨gr,0,none⟩) R R)∧W.cell? ⟨mb,2,none⟩=some (.slice (some ⟨gs,0,none⟩) S S))∧(W.cell? ⟨w.heap.size,0,none⟩=some (.string op)∧W.cell? ⟨w.heap.size,1,none⟩=some (.int .i64 (a:Int))∧W.cell? ⟨w.heap.size,2,none⟩=some (.int .i64 (b:Int))∧W.cell? ⟨w.heap.size,3,none⟩=some (.int .i64 (c:Int))∧W.cell? ⟨w.heap.size,4,none⟩=some (.int .i64 n)∧W.cell? ⟨w.heap.size,5,none⟩=some (.string name))∧
   W.cell? ⟨B,0,none⟩=some (.int .i64 u.kind)∧W.cell? ⟨B,1,none⟩=some (.int .i64 u.n)∧W.cell? ⟨B,2,none⟩=some (.string u.name)∧W.cell? ⟨B,3,none⟩=some (.slice u.at_.1 u.args.length u.at_.2)):=fun W T=>by
   have hW:=HM5.out.turned0 T;obtain ⟨b0,b1,b2,_⟩:=rec3b hW.mbox;obtain ⟨e0,e1,e2,e3,_⟩:=cells4 (hW.boxes _ (Qe ..));exact ⟨⟨b0,b1,b2⟩,cells6 (hW.boxes _ (Qb _ (Qe ..))),e0,e1,e2,e3⟩
  have gu:goodB u=true:=by rw [←goodB_bare,HUB.out];exact (Tm.ownB_iff.1 HOX.out).1
  have HSU:Hid (slim u):=good_slim gu
  have hsub:∀ s W,MK N bb mb gr gs R S ((B,.cells #[.int .i64 u.kind,.int .i64 u.n,.string u.name,.slice u.at_.1 u.args.length u.at_.2] 27 (0,0)) :: (w.heap.size,.cells #[.string op,.int .i64 (a:Int),.int .i64 (b:Int),.int .i64 (c:Int),.int .i64 n,.string name] 139 (0,0)) :: bx) (u :: r :: ts) w1 s W→MK N bb mb gr gs R S bx ts w1 s W:=fun s W h=>h.sub (fun b h=>Qb _ (Qb _ h)) (fun x h=>Qb _ (Qb _ h))
  have HSB:=hid hsub;clear gu hsub;obtain ⟨⟨b0,b1,b2⟩,⟨m0,m1,m2,m3,m4,m5⟩,r0,r1,r2,r3⟩:=HC5.out w5 (Turned.refl _ _);have hop:=HOP.out;rw [←HUB.out] at HMR
  rcases hop with ⟨rfl,hbS⟩ | ⟨rfl,hbS,hos⟩ | ⟨rfl,h64⟩ | rfl | ⟨rfl,hb1,hb12,hcR,hmb⟩
  · have o0:=op_Var_Var
    have HE:Hid (MR = .go ⟨st.m,st.l,st.rs,st.ss.set b u.bare⟩):=by show _=_;rw [HMR.out,if_pos rfl]
    have hms:=(HM5.out.turned0 ((Turned.refl (fun _=>False) w5).drew)).setSlot HN.out (i:=b) hbS;have HMS:=hid hms;obtain ⟨e0,e1,e2,e3,⟨s0,s1,s2,s3⟩,f0,f1,f2,f3⟩:=HM5.out.slotAt hbS;clear hms
    go_wp2_with fail
    refine region_tail 8 (by kernel_rfl) (by kernel_rfl) ?_;simp only [List.take_succ_cons,List.take_zero,List.drop_succ_cons,List.drop_zero]
    repeat still_step
    refine wpStill_nil ?_
    go_wp2_with fail
    go_ret2
    rw [HE.out];exact ⟨rfl,HSB.out _ _ HMS.out⟩
  · have o0:=op_Val_Var
    have o1:=op_Val_Val
    have hlb:st.ss[b]? = some (st.ss.getD b (Tm.V 0)):=by
     have:=HM5.out.lens.2;rw [List.getD_eq_getElem?_getD,Qa (by omega)];rfl
    obtain ⟨s,hsb,hsc,hms⟩:=HM5.out.slot hlb;rw [←hsb] at hos
    have gs0:goodB s=true:=by rw [←goodB_bare];exact (Tm.ownB_iff.1 hos).1
    have HSS:Hid (slim s):=good_slim gs0;obtain ⟨Q,hQ⟩:∃ z,z=bothR st.m st.l s.bare u.bare:=⟨_,rfl⟩;obtain ⟨rok,rc,re,rtr⟩:=Q
    have hval:MR=(if rok=true∧re=0 then .go ⟨st.m,rtr,st.rs,st.ss⟩ else .stop re st.m):=by
     rw [HMR.out,if_neg (by decide),if_pos rfl];unfold Tm.valM;rw [←hsb,←hQ]
    have HVAL:=hid hval;have HQR:=hid hQ.symm
    have hboth:∀ W,Turned zN w5 W→Calls Try.prog 110 #[.pointer (some ⟨bb,0,none⟩),.agg #[.int .i64 s.kind,.int .i64 s.n,.string s.name,.slice s.at_.1 s.args.length s.at_.2],.agg #[.int .i64 u.kind,.int .i64 u.n,.string u.name,.slice u.at_.1 u.args.length u.at_.2]] W fun E w'=>E = .returned (.tuple #[.bool rok,.int .i64 rc,.int .i64 re])∧MK N bb mb gr gs R S bx ts w1 ⟨st.m,rtr,st.rs,st.ss⟩ w':=fun W T=>by
     obtain ⟨q,O,l,h3,hl,hq,hts,hk⟩:=MK.call HN.out (hms.turned0 T);refine (bothVal h3 (hts s (Qe ..)) HSS.out (hts u (Qb _ (Qe ..))) HSU.out (show bothR st.m (bt l) s.bare u.bare=(rok,rc,re,rtr) by rw [hl];exact HQR.out)).mono ?_
     rintro E w' ⟨rfl,l2,hl2,ha⟩
     have:=hk _ l2 w' ha;rw [hl2] at this;exact ⟨rfl,this.sub (fun b h=>Qb _ (Qb _ h)) (fun x h=>Qb _ (Qb _ (Qb _ h)))⟩
    have HBO:=hid hboth
    have HSC:Hid (∀ W,Turned zN w5 W→W.cell? ⟨gs,b * 4,none⟩=some (.int .i64 s.kind)∧W.cell? ⟨gs,b * 4+1,none⟩=some (.int .i64 s.n)∧W.cell? ⟨gs,b * 4+2,none⟩=some (.string s.name)∧W.cell? ⟨gs,b * 4+3,none⟩=some (.slice s.at_.1 s.args.length s.at_.2)):=fun W T=>⟨T.cell0 hsc.1,T.cell0 hsc.2.1,T.cell0 hsc.2.2.1,T.cell0 hsc.2.2.2⟩
    have HBS:=hid hbS;clear hsc hlb hsb hms hos gs0 hQ hval hboth
    go_wp2_with fail
    refine wp_region_hsW [38,39,40,41,42,43,44,45,46,47,48,49,50,51,37,52,53,54,7,8,9] [13] [0,0,0,0,0,0,0,0,0,0,0,0,0,1,1,1,1,1,1,1,1] [51] (fun dd vv=>(match dd with | 38=>vv = .pointer (some ⟨mb,0,none⟩) | 39=>vv = .pointer (some ⟨mb,0,none⟩) | 40=>vv = .pointer (some ⟨mb,0,none⟩) | 41=>vv = .pointer (some ⟨bb,0,none⟩) | 42=>vv = .pointer (some ⟨mb,0,none⟩) | 43=>vv = .pointer (some ⟨mb,0,none⟩) | 44=>vv = .pointer (some ⟨mb,2,none⟩) | 45=>vv = .slice (some ⟨gs,0,none⟩) S S | 46=>vv = .pointer (some ⟨w.heap.size,2,none⟩) | 47=>vv = .int .i64 (b:Int) | 48=>vv = .pointer (some ⟨gs,b * 4,none⟩) | 49=>vv = .agg #[.int .i64 s.kind,.int .i64 s.n,.string s.name,.slice s.at_.1 s.args.length s.at_.2] | 50=>vv = .agg #[.int .i64 u.kind,.int .i64 u.n,.string u.name,.slice u.at_.1 u.args.length u.at_.2] | 37=>vv = .tuple #[.bool rok,.int .i64 rc,.int .i64 re] | 52=>vv = .bool rok | 53=>vv = .int .i64 rc | 54=>vv = .int .i64 re | 7=>vv = .bool rok | 8=>vv = .int .i64 rc | 9=>vv = .int .i64 re | _=>True:Prop)) (OneM (.tuple #[.bool rok,.int .i64 rc,.int .i64 re]) (MK N bb mb gr gs R S bx ts w1 ⟨st.m,rtr,st.rs,st.ss⟩) w5) (by kernel_rfl) rfl (by kernel_rfl) (by kernel_rfl) (by kernel_rfl) (by kernel_rfl) (fun w h=>h) (fun hs w w' h T=>OneM.turned0 (fun W W' h T=>h.turned0 T) hs w w' h T) ?hs ?hQ
    case hs=>
     refine ⟨?s0,?s1,?s2,?s3,?s4,?s5,?s6,?s7,?s8,?s9,?s10,?s11,?s12,?s13,?s14,?s15,?s16,?s17,?s18,?s19,?s20,trivial⟩
     case s0=>refine fun hs hle=>zG [] [0] fun ac W hT hI hO=>?_;have hle:hs.length≤0:=hle;simp only [execOp,Act.eval,hO 0 (by simp)];go_simp;try exact tq
     case s1=>refine fun hs hle=>zG [38] [] fun ac W hT hI hO=>?_;have hle:hs.length≤0:=hle;have h38:_=_:=hI 38 (by simp);simp only [execOp,Act.eval,h38];go_simp;try exact tq
     case s2=>refine fun hs hle=>zG [39] [] fun ac W hT hI hO=>?_;have hle:hs.length≤0:=hle;have h39:_=_:=hI 39 (by simp);simp only [execOp,Act.eval,h39];go_simp;try exact tq
     case s3=>refine fun hs hle=>zG [40] [] fun ac W hT hI hO=>?_;have hle:hs.length≤0:=hle;have h40:_=_:=hI 40 (by simp);obtain ⟨⟨b0,b1,b2⟩,⟨m0,m1,m2,m3,m4,m5⟩,r0,r1,r2,r3⟩:=HC5.out W (OneM.early hs W (by omega) hT);simp only [execOp,Act.eval,h40];go_simp;try exact tq
     case s4=>refine fun hs hle=>zG [] [0] fun ac W hT hI hO=>?_;have hle:hs.length≤0:=hle;simp only [execOp,Act.eval,hO 0 (by simp)];go_simp;try exact tq
     case s5=>refine fun hs hle=>zG [42] [] fun ac W hT hI hO=>?_;have hle:hs.length≤0:=hle;have h42:_=_:=hI 42 (by simp);simp only [execOp,Act.eval,h42];go_simp;try exact tq
     case s6=>refine fun hs hle=>zG [43] [] fun ac W hT hI hO=>?_;have hle:hs.length≤0:=hle;have h43:_=_:=hI 43 (by simp);simp only [execOp,Act.eval,h43];go_simp;try exact tq
     case s7=>refine fun hs hle=>zG [44] [] fun ac W hT hI hO=>?_;have hle:hs.length≤0:=hle;have h44:_=_:=hI 44 (by simp);obtain ⟨⟨b0,b1,b2⟩,⟨m0,m1,m2,m3,m4,m5⟩,r0,r1,r2,r3⟩:=HC5.out W (OneM.early hs W (by omega) hT);simp only [execOp,Act.eval,h44];go_simp;try exact tq
     case s8=>refine fun hs hle=>zG [] [3] fun ac W hT hI hO=>?_;have hle:hs.length≤0:=hle;simp only [execOp,Act.eval,hO 3 (by simp)];go_simp;try exact tq
     case s9=>refine fun hs hle=>zG [46] [] fun ac W hT hI hO=>?_;have hle:hs.length≤0:=hle;have h46:_=_:=hI 46 (by simp);obtain ⟨⟨b0,b1,b2⟩,⟨m0,m1,m2,m3,m4,m5⟩,r0,r1,r2,r3⟩:=HC5.out W (OneM.early hs W (by omega) hT);simp only [execOp,Act.eval,h46];go_simp;try exact tq
     case s10=>refine fun hs hle=>zG [45,47] [] fun ac W hT hI hO=>?_;have hle:hs.length≤0:=hle;have h45:_=_:=hI 45 (by simp);have h47:_=_:=hI 47 (by simp);have hbS:=HBS.out;simp only [execOp,Act.eval,h45,h47];go_simp;try exact tq
     case s11=>refine fun hs hle=>zG [48] [] fun ac W hT hI hO=>?_;have hle:hs.length≤0:=hle;have h48:_=_:=hI 48 (by simp);obtain ⟨s0,s1,s2,s3⟩:=HSC.out W (OneM.early hs W (by omega) hT);simp only [execOp,Act.eval,h48];go_simp;try exact tq
     case s12=>refine fun hs hle=>zG [] [6] fun ac W hT hI hO=>?_;have hle:hs.length≤0:=hle;obtain ⟨⟨b0,b1,b2⟩,⟨m0,m1,m2,m3,m4,m5⟩,r0,r1,r2,r3⟩:=HC5.out W (OneM.early hs W (by omega) hT);simp only [execOp,Act.eval,hO 6 (by simp)];go_simp;try exact tq
     case s13=>
      refine fun hs hlen=>zG [41,49,50] [] fun ac W hT hI hO=>?_;have h41:_=_:=hI 41 (by simp);have h49:_=_:=hI 49 (by simp);have h50:_=_:=hI 50 (by simp);obtain rfl:hs=[]:=Qh hlen;replace hT:Turned zN w5 W:=hT;show Brings _ (fun vv w'=>OneM (.tuple #[.bool rok,.int .i64 rc,.int .i64 re]) (MK N bb mb gr gs R S bx ts w1 ⟨st.m,rtr,st.rs,st.ss⟩) w5 [vv] w') _;simp only [execOp,Act.eval,h41,h49,h50];go_simp;show Calls Try.prog 110 _ W _
      (with_reducible refine (HBO.out W hT).mono ?_)
      rintro e w' ⟨rfl,hq⟩
      exact ⟨_,rfl,rfl,hq⟩
     case s14=>refine fun hs hle=>zG [51] [] fun ac W hT hI hO=>?_;have hle:hs.length≤1:=hle;have h51:hs[0]? = some (ac.tmps.getD 51 undef):=hI 51 (by simp);have ef:=OneM.val hs W hT h51;simp only [execOp,Act.eval,ef];go_simp;try exact tq
     case s15=>refine fun hs hle=>zG [37] [] fun ac W hT hI hO=>?_;have hle:hs.length≤1:=hle;have h37:_=_:=hI 37 (by simp);simp only [execOp,Act.eval,h37];go_simp;try exact tq
     case s16=>refine fun hs hle=>zG [37] [] fun ac W hT hI hO=>?_;have hle:hs.length≤1:=hle;have h37:_=_:=hI 37 (by simp);simp only [execOp,Act.eval,h37];go_simp;try exact tq
     case s17=>refine fun hs hle=>zG [37] [] fun ac W hT hI hO=>?_;have hle:hs.length≤1:=hle;have h37:_=_:=hI 37 (by simp);simp only [execOp,Act.eval,h37];go_simp;try exact tq
     case s18=>refine fun hs hle=>zG [52] [] fun ac W hT hI hO=>?_;have hle:hs.length≤1:=hle;have h52:_=_:=hI 52 (by simp);simp only [execOp,Act.eval,h52];go_simp;try exact tq
     case s19=>refine fun hs hle=>zG [53] [] fun ac W hT hI hO=>?_;have hle:hs.length≤1:=hle;have h53:_=_:=hI 53 (by simp);simp only [execOp,Act.eval,h53];go_simp;try exact tq
     case s20=>
      refine fun hs hle=>zG [54] [] fun ac W hT hI hO=>?_;have hle:hs.length≤1:=hle;have h54:_=_:=hI 54 (by simp);simp only [execOp,Act.eval,h54];go_simp
      try exact tq
    case hQ=>
     intro hs vs w6 hlen hR hV;have q7:vs 7 = .bool rok:=hV 7 (by simp);have q8:vs 8 = .int .i64 rc:=hV 8 (by simp);have q9:vs 9 = .int .i64 re:=hV 9 (by simp);simp only [Qq,List.foldl_nil,Qk,Qs,Qr,q7,q8,q9];obtain ⟨a1,rfl⟩:=List.length_eq_one_iff.1 hlen;have H6:=hid hR.2;clear hlen hR hV q7 q8 q9
     go_wp2_with fail
     go_ret2
     rw [HVAL.out]
     by_cases hg:rok=true∧re=0
     · rw [if_pos hg,hg.1,hg.2]
       exact ⟨rfl,H6.out⟩
     · rw [if_neg hg]
       obtain ⟨rfl,rfl⟩:=bothR_stop HQR.out hg;exact ⟨false,⟨st.m,st.l,st.rs,st.ss⟩,rfl,(fun e=>by cases e),rfl,⟨[],rfl⟩,H6.out⟩
  · have o0:=op_Int_Var
    have o1:=op_Int_Val;have o2:=op_Int_Int;have H64:=hid h64;clear h64
    have HMT:Hid (MR=Tm.tieM st u.bare (leaf 1 n ByteArray.empty:LT).bare):=by show _=_;rw [HMR.out,if_neg (by decide),if_neg (by decide),if_pos rfl];rfl
    obtain ⟨B1,hB1⟩:∃ z,z=tieB MR:=⟨_,rfl⟩;obtain ⟨E1,hE1⟩:∃ z,z=tieE MR:=⟨_,rfl⟩
    have htie:∀ W,Turned zN w5 W→Calls Try.prog 178 #[.pointer (some ⟨mb,0,none⟩),.agg #[.int .i64 u.kind,.int .i64 u.n,.string u.name,.slice u.at_.1 u.args.length u.at_.2],.agg #[.int .i64 1,.int .i64 n,.string ByteArray.empty,.slice none 0 0]] W fun e w'=>e = .returned (.tuple #[.bool B1,.int .i64 E1])∧MRQ (MK N bb mb gr gs R S ((B,.cells #[.int .i64 u.kind,.int .i64 u.n,.string u.name,.slice u.at_.1 u.args.length u.at_.2] 27 (0,0)) :: (w.heap.size,.cells #[.string Tm.sInt,.int .i64 (a:Int),.int .i64 (b:Int),.int .i64 (c:Int),.int .i64 n,.string name] 139 (0,0)) :: bx) (u :: r :: ts) w1) st MR (.returned (.tuple #[.bool B1,.int .i64 E1])) w':=fun W T=>by
     have:=tie178 HN.out (HM5.out.turned0 T) ((HM5.out.turned0 T).terms u (Qe ..)) HSU.out (by rw [HUB.out];exact HOX.out) (t:=leaf 1 n ByteArray.empty) (fun p w=>leafIn' (i64_lit 1 (by omega)) H64.out (by unfold maxLen;decide)) (slim_leaf _ _ _);rw [←HMT.out,←hB1,←hE1] at this;refine this.mono ?_
     rintro e w' ⟨h,rfl⟩
     exact ⟨rfl,h⟩
    have HTI:=hid htie;clear hB1 hE1 htie
    go_wp2_with fail
    refine wp_region_hsW [59,60,61,62,63,64,65,66,4,5] [4,5] [1,1,0,0,1,2,2,2,2,2] [63,64] (fun dd vv=>(match dd with | 59=>vv = .pointer (some ⟨mb,0,none⟩) | 60=>vv = .agg #[.int .i64 u.kind,.int .i64 u.n,.string u.name,.slice u.at_.1 u.args.length u.at_.2] | 61=>vv = .pointer (some ⟨w.heap.size,4,none⟩) | 62=>vv = .int .i64 n | 65=>vv = .bool B1 | 66=>vv = .int .i64 E1 | 4=>vv = .bool B1 | 5=>vv = .int .i64 E1 | _=>True:Prop)) (TieS (leaf 1 n ByteArray.empty) B1 E1 (MK N bb mb gr gs R S ((B,.cells #[.int .i64 u.kind,.int .i64 u.n,.string u.name,.slice u.at_.1 u.args.length u.at_.2] 27 (0,0)) :: (w.heap.size,.cells #[.string Tm.sInt,.int .i64 (a:Int),.int .i64 (b:Int),.int .i64 (c:Int),.int .i64 n,.string name] 139 (0,0)) :: bx) (u :: r :: ts) w1) st MR w5) (by kernel_rfl) rfl (by kernel_rfl) (by kernel_rfl) (by kernel_rfl) (by kernel_rfl) (fun w h=>h) (fun hs w w' h T=>TieS.turned0 (fun s W W' h T=>h.turned0 T) hs w w' h T) ?hs ?hQ
    case hs=>
     refine ⟨?s0,?s1,?s2,?s3,?s4,?s5,?s6,?s7,?s8,?s9,trivial⟩
     case s0=>refine fun hs hle=>zG [] [0] fun ac W hT hI hO=>?_;have hle:hs.length≤1:=hle;simp only [execOp,Act.eval,hO 0 (by simp)];go_simp;try exact tq
     case s1=>refine fun hs hle=>zG [] [6] fun ac W hT hI hO=>?_;have hle:hs.length≤1:=hle;obtain ⟨⟨b0,b1,b2⟩,⟨m0,m1,m2,m3,m4,m5⟩,r0,r1,r2,r3⟩:=HC5.out W (TieS.early hs W (by omega) hT);simp only [execOp,Act.eval,hO 6 (by simp)];go_simp;try exact tq
     case s2=>refine fun hs hle=>zG [] [3] fun ac W hT hI hO=>?_;have hle:hs.length≤0:=hle;simp only [execOp,Act.eval,hO 3 (by simp)];go_simp;try exact tq
     case s3=>refine fun hs hle=>zG [61] [] fun ac W hT hI hO=>?_;have hle:hs.length≤0:=hle;have h61:_=_:=hI 61 (by simp);obtain ⟨⟨b0,b1,b2⟩,⟨m0,m1,m2,m3,m4,m5⟩,r0,r1,r2,r3⟩:=HC5.out W (TieS.early hs W (by omega) hT);simp only [execOp,Act.eval,h61];go_simp;try exact tq
     case s4=>
      refine fun hs hlen=>zG [62] [] fun ac W hT hI hO=>?_;have h62:_=_:=hI 62 (by simp);obtain rfl:hs=[]:=Qh hlen;replace hT:Turned zN w5 W:=hT;show Brings _ (fun vv w'=>TieS (leaf 1 n ByteArray.empty) B1 E1 (MK N bb mb gr gs R S ((B,.cells #[.int .i64 u.kind,.int .i64 u.n,.string u.name,.slice u.at_.1 u.args.length u.at_.2] 27 (0,0)) :: (w.heap.size,.cells #[.string Tm.sInt,.int .i64 (a:Int),.int .i64 (b:Int),.int .i64 (c:Int),.int .i64 n,.string name] 139 (0,0)) :: bx) (u :: r :: ts) w1) st MR w5 [vv] w') _;simp only [execOp,Act.eval,h62];go_simp;show Calls Try.prog 61 _ W _
      (with_reducible refine (int61 n H64.out W).mono ?_)
      rintro e w' ⟨rfl,_,T'⟩
      exact ⟨_,rfl,hT.trans T',by rw [LT.val_eq];rfl⟩
     case s5=>
      refine fun hs hlen=>zG [59,60,63] [] fun ac W hT hI hO=>?_;have h59:_=_:=hI 59 (by simp);have h60:_=_:=hI 60 (by simp);have h63:hs[0]? = some (ac.tmps.getD 63 undef):=hI 63 (by simp);obtain ⟨a1,rfl⟩:=List.length_eq_one_iff.1 hlen
      have e63:a1=ac.tmps.getD 63 undef:=by simpa using h63
      obtain ⟨hT1,y1⟩:=hT;rw [e63] at y1;show Brings _ (fun vv w'=>TieS (leaf 1 n ByteArray.empty) B1 E1 (MK N bb mb gr gs R S ((B,.cells #[.int .i64 u.kind,.int .i64 u.n,.string u.name,.slice u.at_.1 u.args.length u.at_.2] 27 (0,0)) :: (w.heap.size,.cells #[.string Tm.sInt,.int .i64 (a:Int),.int .i64 (b:Int),.int .i64 (c:Int),.int .i64 n,.string name] 139 (0,0)) :: bx) (u :: r :: ts) w1) st MR w5 [a1,vv] w') _;simp only [execOp,Act.eval,h59,h60,y1];go_simp;show Calls Try.prog 178 _ W _;refine (HTI.out W hT1).mono ?_
      rintro e w' ⟨rfl,hq⟩
      exact ⟨_,rfl,rfl,hq⟩
     case s6=>refine fun hs hle=>zG [64] [] fun ac W hT hI hO=>?_;have hle:hs.length≤2:=hle;have h64:hs[1]? = some (ac.tmps.getD 64 undef):=hI 64 (by simp);have ef:=TieS.val hs W hT h64;simp only [execOp,Act.eval,ef];go_simp;try exact tq
     case s7=>refine fun hs hle=>zG [64] [] fun ac W hT hI hO=>?_;have hle:hs.length≤2:=hle;have h64:hs[1]? = some (ac.tmps.getD 64 undef):=hI 64 (by simp);have ef:=TieS.val hs W hT h64;simp only [execOp,Act.eval,ef];go_simp;try exact tq
     case s8=>refine fun hs hle=>zG [65] [] fun ac W hT hI hO=>?_;have hle:hs.length≤2:=hle;have h65:_=_:=hI 65 (by simp);simp only [execOp,Act.eval,h65];go_simp;try exact tq
     case s9=>
      refine fun hs hle=>zG [66] [] fun ac W hT hI hO=>?_;have hle:hs.length≤2:=hle;have h66:_=_:=hI 66 (by simp);simp only [execOp,Act.eval,h66];go_simp
      try exact tq
    case hQ=>
     intro hs vs w6 hlen hR hV;have q4:vs 4 = .bool B1:=hV 4 (by simp);have q5:vs 5 = .int .i64 E1:=hV 5 (by simp);simp only [Qq,List.foldl_nil,Qk,Qs,Qr,q4,q5];obtain ⟨a1,a2,rfl⟩:=list2' hlen;obtain ⟨rfl,hr2⟩:=hR;have HR2:=hid hr2;clear hlen hV q4 q5 hr2
     go_wp2_with fail
     go_ret2
     exact HR2.out.mono HSB.out
  · have o0:=op_Atom_Var
    have o1:=op_Atom_Val;have o2:=op_Atom_Int;have o3:=op_Atom_Atom
    have HMT:Hid (MR=Tm.tieM st u.bare (leaf 2 0 name:LT).bare):=by show _=_;rw [HMR.out,if_neg (by decide),if_neg (by decide),if_neg (by decide),if_pos rfl];rfl
    obtain ⟨B1,hB1⟩:∃ z,z=tieB MR:=⟨_,rfl⟩;obtain ⟨E1,hE1⟩:∃ z,z=tieE MR:=⟨_,rfl⟩
    have htie:∀ W,Turned zN w5 W→Calls Try.prog 178 #[.pointer (some ⟨mb,0,none⟩),.agg #[.int .i64 u.kind,.int .i64 u.n,.string u.name,.slice u.at_.1 u.args.length u.at_.2],.agg #[.int .i64 2,.int .i64 0,.string name,.slice none 0 0]] W fun e w'=>e = .returned (.tuple #[.bool B1,.int .i64 E1])∧MRQ (MK N bb mb gr gs R S ((B,.cells #[.int .i64 u.kind,.int .i64 u.n,.string u.name,.slice u.at_.1 u.args.length u.at_.2] 27 (0,0)) :: (w.heap.size,.cells #[.string Tm.sAtom,.int .i64 (a:Int),.int .i64 (b:Int),.int .i64 (c:Int),.int .i64 n,.string name] 139 (0,0)) :: bx) (u :: r :: ts) w1) st MR (.returned (.tuple #[.bool B1,.int .i64 E1])) w':=fun W T=>by
     have:=tie178 HN.out (HM5.out.turned0 T) ((HM5.out.turned0 T).terms u (Qe ..)) HSU.out (by rw [HUB.out];exact HOX.out) (t:=leaf 2 0 name) (fun p w=>leafIn' (i64_lit 2 (by omega)) (i64_lit 0 (by omega)) HNS.out) (slim_leaf _ _ _);rw [←HMT.out,←hB1,←hE1] at this;refine this.mono ?_
     rintro e w' ⟨h,rfl⟩
     exact ⟨rfl,h⟩
    have HTI:=hid htie;clear hB1 hE1 htie
    go_wp2_with fail
    refine wp_region_hsW [69,70,71,72,73,74,75,76,4,5] [4,5] [1,1,0,0,1,2,2,2,2,2] [73,74] (fun dd vv=>(match dd with | 69=>vv = .pointer (some ⟨mb,0,none⟩) | 70=>vv = .agg #[.int .i64 u.kind,.int .i64 u.n,.string u.name,.slice u.at_.1 u.args.length u.at_.2] | 71=>vv = .pointer (some ⟨w.heap.size,5,none⟩) | 72=>vv = .string name | 75=>vv = .bool B1 | 76=>vv = .int .i64 E1 | 4=>vv = .bool B1 | 5=>vv = .int .i64 E1 | _=>True:Prop)) (TieS (leaf 2 0 name) B1 E1 (MK N bb mb gr gs R S ((B,.cells #[.int .i64 u.kind,.int .i64 u.n,.string u.name,.slice u.at_.1 u.args.length u.at_.2] 27 (0,0)) :: (w.heap.size,.cells #[.string Tm.sAtom,.int .i64 (a:Int),.int .i64 (b:Int),.int .i64 (c:Int),.int .i64 n,.string name] 139 (0,0)) :: bx) (u :: r :: ts) w1) st MR w5) (by kernel_rfl) rfl (by kernel_rfl) (by kernel_rfl) (by kernel_rfl) (by kernel_rfl) (fun w h=>h) (fun hs w w' h T=>TieS.turned0 (fun s W W' h T=>h.turned0 T) hs w w' h T) ?hs ?hQ
    case hs=>
     refine ⟨?s0,?s1,?s2,?s3,?s4,?s5,?s6,?s7,?s8,?s9,trivial⟩
     case s0=>refine fun hs hle=>zG [] [0] fun ac W hT hI hO=>?_;have hle:hs.length≤1:=hle;simp only [execOp,Act.eval,hO 0 (by simp)];go_simp;try exact tq
     case s1=>refine fun hs hle=>zG [] [6] fun ac W hT hI hO=>?_;have hle:hs.length≤1:=hle;obtain ⟨⟨b0,b1,b2⟩,⟨m0,m1,m2,m3,m4,m5⟩,r0,r1,r2,r3⟩:=HC5.out W (TieS.early hs W (by omega) hT);simp only [execOp,Act.eval,hO 6 (by simp)];go_simp;try exact tq
     case s2=>refine fun hs hle=>zG [] [3] fun ac W hT hI hO=>?_;have hle:hs.length≤0:=hle;simp only [execOp,Act.eval,hO 3 (by simp)];go_simp;try exact tq
     case s3=>refine fun hs hle=>zG [71] [] fun ac W hT hI hO=>?_;have hle:hs.length≤0:=hle;have h71:_=_:=hI 71 (by simp);obtain ⟨⟨b0,b1,b2⟩,⟨m0,m1,m2,m3,m4,m5⟩,r0,r1,r2,r3⟩:=HC5.out W (TieS.early hs W (by omega) hT);simp only [execOp,Act.eval,h71];go_simp;try exact tq
     case s4=>
      refine fun hs hlen=>zG [72] [] fun ac W hT hI hO=>?_;have h72:_=_:=hI 72 (by simp);obtain rfl:hs=[]:=Qh hlen;replace hT:Turned zN w5 W:=hT;show Brings _ (fun vv w'=>TieS (leaf 2 0 name) B1 E1 (MK N bb mb gr gs R S ((B,.cells #[.int .i64 u.kind,.int .i64 u.n,.string u.name,.slice u.at_.1 u.args.length u.at_.2] 27 (0,0)) :: (w.heap.size,.cells #[.string Tm.sAtom,.int .i64 (a:Int),.int .i64 (b:Int),.int .i64 (c:Int),.int .i64 n,.string name] 139 (0,0)) :: bx) (u :: r :: ts) w1) st MR w5 [vv] w') _;simp only [execOp,Act.eval,h72];go_simp;show Calls Try.prog 63 _ W _
      (with_reducible refine (atom63 name HNS.out W).mono ?_)
      rintro e w' ⟨rfl,_,T'⟩
      exact ⟨_,rfl,hT.trans T',by rw [LT.val_eq];rfl⟩
     case s5=>
      refine fun hs hlen=>zG [69,70,73] [] fun ac W hT hI hO=>?_;have h69:_=_:=hI 69 (by simp);have h70:_=_:=hI 70 (by simp);have h73:hs[0]? = some (ac.tmps.getD 73 undef):=hI 73 (by simp);obtain ⟨a1,rfl⟩:=List.length_eq_one_iff.1 hlen
      have e63:a1=ac.tmps.getD 73 undef:=by simpa using h73
      obtain ⟨hT1,y1⟩:=hT;rw [e63] at y1;show Brings _ (fun vv w'=>TieS (leaf 2 0 name) B1 E1 (MK N bb mb gr gs R S ((B,.cells #[.int .i64 u.kind,.int .i64 u.n,.string u.name,.slice u.at_.1 u.args.length u.at_.2] 27 (0,0)) :: (w.heap.size,.cells #[.string Tm.sAtom,.int .i64 (a:Int),.int .i64 (b:Int),.int .i64 (c:Int),.int .i64 n,.string name] 139 (0,0)) :: bx) (u :: r :: ts) w1) st MR w5 [a1,vv] w') _;simp only [execOp,Act.eval,h69,h70,y1];go_simp;show Calls Try.prog 178 _ W _;refine (HTI.out W hT1).mono ?_
      rintro e w' ⟨rfl,hq⟩
      exact ⟨_,rfl,rfl,hq⟩
     case s6=>refine fun hs hle=>zG [74] [] fun ac W hT hI hO=>?_;have hle:hs.length≤2:=hle;have h74:hs[1]? = some (ac.tmps.getD 74 undef):=hI 74 (by simp);have ef:=TieS.val hs W hT h74;simp only [execOp,Act.eval,ef];go_simp;try exact tq
     case s7=>refine fun hs hle=>zG [74] [] fun ac W hT hI hO=>?_;have hle:hs.length≤2:=hle;have h74:hs[1]? = some (ac.tmps.getD 74 undef):=hI 74 (by simp);have ef:=TieS.val hs W hT h74;simp only [execOp,Act.eval,ef];go_simp;try exact tq
     case s8=>refine fun hs hle=>zG [75] [] fun ac W hT hI hO=>?_;have hle:hs.length≤2:=hle;have h75:_=_:=hI 75 (by simp);simp only [execOp,Act.eval,h75];go_simp;try exact tq
     case s9=>
      refine fun hs hle=>zG [76] [] fun ac W hT hI hO=>?_;have hle:hs.length≤2:=hle;have h76:_=_:=hI 76 (by simp);simp only [execOp,Act.eval,h76];go_simp
      try exact tq
    case hQ=>
     intro hs vs w6 hlen hR hV;have q4:vs 4 = .bool B1:=hV 4 (by simp);have q5:vs 5 = .int .i64 E1:=hV 5 (by simp);simp only [Qq,List.foldl_nil,Qk,Qs,Qr,q4,q5];obtain ⟨a1,a2,rfl⟩:=list2' hlen;obtain ⟨rfl,hr2⟩:=hR;have HR2:=hid hr2;clear hlen hV q4 q5 hr2
     go_wp2_with fail
     go_ret2
     exact HR2.out.mono HSB.out
  · have o0:=op_Comp_Var
    have o1:=op_Comp_Val;have o2:=op_Comp_Int;have o3:=op_Comp_Atom
    have hco:Calls Try.prog 179 #[.pointer (some ⟨mb,0,none⟩),.agg #[.int .i64 u.kind,.int .i64 u.n,.string u.name,.slice u.at_.1 u.args.length u.at_.2],.agg #[.string Tm.sComp,.int .i64 (a:Int),.int .i64 (b:Int),.int .i64 (c:Int),.int .i64 n,.string name]] w5 (MRQ (MK N bb mb gr gs R S ((B,.cells #[.int .i64 u.kind,.int .i64 u.n,.string u.name,.slice u.at_.1 u.args.length u.at_.2] 27 (0,0)) :: (w.heap.size,.cells #[.string Tm.sComp,.int .i64 (a:Int),.int .i64 (b:Int),.int .i64 (c:Int),.int .i64 n,.string name] 139 (0,0)) :: bx) (u :: r :: ts) w1) st MR):=by
     rw [HMR.out,if_neg (by decide),if_neg (by decide),if_neg (by decide),if_neg (by decide)]
     by_cases hk:u.kind=0
     · have hv:=Tm.ownB_var (show Tm.ownB st.m u.bare=true by rw [HUB.out];exact HOX.out) (by rw [Tm.bare_kind];exact hk)
       rw [Tm.bare_n] at hv;exact comp179b HN.out HM5.out (Qe ..) hk hb1 hb12 hcR HAR.out.2 hmb HNS.out (by unfold I64;omega)
     · exact comp179a HN.out HM5.out (Qe ..) hk hb1 hcR HAR.out.2
    have HCO:=hid hco;clear hco
    go_wp2_with (go_at_call 179;(with_reducible refine HCO.out.mono ?_);rintro e w6 h6;obtain ⟨b',E',rfl⟩:=h6.shape;have H6:=hid h6;clear h6)
    go_ret2
    exact H6.out.mono HSB.out
end
theorem enter157 (args:Array Value) (w:World):(callFunc 157 args).run Try.prog w = .ok (.enter 157 args) w:=by kernel_rfl
theorem closure157 {p O:Nat→Prop} {bb m K:Nat} {l:TL} {w:World} {x:LT} (h:BO p bb O m l w) (hx:x.In p w) (hs:slim x) (ho:Tm.ownB m x=true) (hK:w.heap[K]? = some (.cells #[.pointer (some ⟨bb,0,none⟩)] 93 (0,0))) :
 Calls Try.prog 157 #[.agg #[.int .i64 x.kind,.int .i64 x.n,.string x.name,.slice x.at_.1 x.args.length x.at_.2],.pointer (some ⟨K,0,none⟩)] w fun e w'=>e = .returned (.bool false)∧Turned zN w w':=by
 have hk0:=cell_of_row w K 0 _ 93 (0,0) hK;simp only [List.getElem?_toArray,List.getElem?_cons_zero] at hk0;have T1:Turned zN w (w.alloc (.cells #[.int .i64 x.kind,.int .i64 x.n,.string x.name,.slice x.at_.1 x.args.length x.at_.2] 27)):=(Turned.refl _ w).alloc _;have hnew:=heap_alloc_new w (.cells #[.int .i64 x.kind,.int .i64 x.n,.string x.name,.slice x.at_.1 x.args.length x.at_.2] 27)
 have hown:Calls Try.prog 144 #[.pointer (some ⟨bb,0,none⟩),.agg #[.int .i64 x.kind,.int .i64 x.n,.string x.name,.slice x.at_.1 x.args.length x.at_.2]] (w.alloc (.cells #[.int .i64 x.kind,.int .i64 x.n,.string x.name,.slice x.at_.1 x.args.length x.at_.2] 27)) fun e w'=>e = .returned (.bool true)∧Turned zN (w.alloc (.cells #[.int .i64 x.kind,.int .i64 x.n,.string x.name,.slice x.at_.1 x.args.length x.at_.2] 27)) w':=by
  obtain ⟨sb,lv,tv,B,hO⟩:=(h.turned0 T1).bi;have:=own144 B (hx.turned0 T1) hs;rw [LT.val_eq,ho] at this;exact this
 have k0:=(T1.cell0 hk0);obtain ⟨c0,c1,c2,c3,_⟩:=cells4 hnew;have HOW:=hid hown;have HT1:=hid T1;clear h hx hs ho hK T1 hnew hown;go_enter Try.func157,Try.ntmps157
 go_wp2_with (go_at_call 144;(with_reducible refine HOW.out.mono ?_);rintro e w3 ⟨rfl,T3⟩;have HT3:=hid T3;clear T3)
 go_ret;exact ⟨rfl,HT1.out.trans HT3.out⟩
theorem indexNone177 {p:Nat→Prop} {l:List LT} {a:Option Addr} {c:Nat} {cap:Value} {w:World} (h:LT.Sl p w a c l) (hcall:∀ x∈l,∀ W,Turned zN w W→Calls Try.prog 157 #[.agg #[.int .i64 x.kind,.int .i64 x.n,.string x.name,.slice x.at_.1 x.args.length x.at_.2],cap] W fun e w'=>e = .returned (.bool false)∧Turned zN W w') :
 Calls Try.prog 177 #[.slice a l.length c,.func (.func 157) #[] #[cap]] w fun e w'=>e = .returned (.int .i64 (-1))∧Turned zN w w':=by
 have hc1:=h.cap;have hm1:=h.max;unfold maxLen at hm1;have henter:=enter157;have HL:=hid h;have HC:=hid hcall;clear h hcall;go_enter Try.func177,Try.ntmps177
 go_wp2_with fail
 go_loopg [8] l.length (fun g i wr=>∃ j:Nat,Hid (j+g=l.length)∧j≤l.length∧i = .int .i64 j∧Hid (Turned zN w wr))
 case atStart=>exact ⟨0,Nat.zero_add _,Nat.zero_le _,rfl,Turned.refl _ _⟩
 case round=>
  obtain ⟨j,HG,hj,rfl,HT⟩:=hrel
  by_cases hjl:j < l.length
  · have dj:decide ((j:Int) < (l.length:Int))=true:=decide_eq_true (by omega)
    obtain ⟨x,hx⟩:∃ x:LT,l[j]? = some x:=⟨_,Qa hjl⟩;obtain ⟨b1,o1,rfl,_,k0,k1,k2,k3⟩:=(HL.out.turned0 HT.out).lies.cell hx;have HCX:=hid (HC.out x (Qf hx));clear hx
    go_wp2_with (go_at_call 157;(with_reducible refine (HCX.out wr HT.out).mono ?_);rintro e w3 ⟨rfl,T3⟩;have HT3:=hid T3;clear T3)
    go_roundg (gk - 1)
    case measure=>have:=HG.out;omega
    case rel=>exact ⟨j+1,show _=_ by have:=HG.out;omega,by omega,by go_num,HT.out.trans HT3.out⟩
  · obtain rfl:j=l.length:=by omega
    have dj:decide ((l.length:Int) < (l.length:Int))=false:=decide_eq_false (by omega)
    go_wp2_with fail
    go_ret;exact ⟨rfl,HT.out⟩
theorem containsNone158 {p:Nat→Prop} {l:List LT} {a:Option Addr} {c:Nat} {cap:Value} {w:World} (h:LT.Sl p w a c l) (hcall:∀ x∈l,∀ W,Turned zN w W→Calls Try.prog 157 #[.agg #[.int .i64 x.kind,.int .i64 x.n,.string x.name,.slice x.at_.1 x.args.length x.at_.2],cap] W fun e w'=>e = .returned (.bool false)∧Turned zN W w') :
 Calls Try.prog 158 #[.slice a l.length c,.func (.func 157) #[] #[cap]] w fun e w'=>e = .returned (.bool false)∧Turned zN w w':=by
 have hi:=indexNone177 h hcall;have HI:=hid hi;clear h hcall hi;go_enter Try.func158,Try.ntmps158
 go_wp2_with (go_at_call 177;(with_reducible refine HI.out.mono ?_);rintro e w3 ⟨rfl,T3⟩;have HT3:=hid T3;clear T3)
 go_ret;exact ⟨rfl,HT3.out⟩
end Go.Proofs.Ytoihjobdfjajfaa
namespace Go.Proofs.Ytoihjobdfjajfaa
open Go.RowKit Go.Maps
def BM (N bb:Nat) (bx:List (Nat × Obj)) (ts:List LT) (w1:World) (m:Nat) (tr:Tm.Trail) (W:World):Prop:=
 ∃ (q:Nat→Prop) (l:TL) (O:Nat→Prop),(∀ k,k < N→q k)∧bt l=tr∧BO q bb O m l W∧(∀ k,O k→N≤k)∧Turned zN w1 W∧(∀ b∈bx,W.heap[b.1]? = some b.2∧¬ O b.1∧¬ q b.1)∧∀ x∈ts,x.In q W
section
variable {N bb mb gr gs R S m:Nat} {bx bx':List (Nat × Obj)} {ts ts':List LT} {w1 w0 W W':World} {tr:Tm.Trail} {st:Tm.MS} {x:LT}
theorem BM.turned0 (h:BM N bb bx ts w1 m tr W) (T:Turned zN W W'):BM N bb bx ts w1 m tr W':=by
 obtain ⟨q,l,O,h1,h2,h3,h4,h5,h6,h7⟩:=h;exact ⟨q,l,O,h1,h2,h3.turned0 T,h4,h5.trans T,fun b hb=>⟨(T.bt (h6 b hb).1),(h6 b hb).2⟩,fun x hx=>(h7 x hx).turned0 T⟩
theorem BM.old (h:BM N bb bx ts w1 m tr W):Turned zN w1 W:=by
 obtain ⟨q,l,O,h1,h2,h3,h4,h5,h6,h7⟩:=h;exact h5
theorem BM.boxes (h:BM N bb bx ts w1 m tr W):∀ b∈bx,W.heap[b.1]? = some b.2:=by
 obtain ⟨q,l,O,h1,h2,h3,h4,h5,h6,h7⟩:=h
 exact fun b hb=>(h6 b hb).1
theorem BM.terms (h:BM N bb bx ts w1 m tr W):∀ x∈ts,x.In (fun _=>True) W:=by
 obtain ⟨q,l,O,h1,h2,h3,h4,h5,h6,h7⟩:=h
 exact fun x hx=>(h7 x hx).mono (fun _ _ _=>trivial)
theorem BM.sub (h:BM N bb bx ts w1 m tr W) (hb:∀ b∈bx',b∈bx) (ht:∀ x∈ts',x∈ts):BM N bb bx' ts' w1 m tr W:=by
 obtain ⟨q,l,O,h1,h2,h3,h4,h5,h6,h7⟩:=h;exact ⟨q,l,O,h1,h2,h3,h4,h5,fun b hb'=>h6 b (hb b hb'),fun x hx=>h7 x (ht x hx)⟩
theorem BM.box (h:BM N bb bx ts w1 m tr W) (o:Obj):BM N bb ((W.heap.size,o) :: bx) ts w1 m tr (W.alloc o):=by
 have T:=(Turned.refl (fun _=>False) W).alloc o;have h':=h.turned0 T;obtain ⟨q,l,O,h1,h2,h3,h4,h5,h6,h7⟩:=h;refine ⟨q,l,O,h1,h2,h3.turned0 T,h4,h5.trans T,fun b hb=>?_,fun x hx=>(h7 x hx).turned0 T⟩
 rcases Qw.1 hb with rfl | hb
 · exact ⟨heap_alloc_new W o,fun c=>Qy _ (h3.lt _ c),fun c=>Qy _ (h3.plt _ c)⟩
 · exact ⟨(T.bt (h6 b hb).1),(h6 b hb).2⟩
theorem BM.call (hN:N=w1.heap.size) (h:BM N bb bx ts w1 m tr W):∃ (q O:Nat→Prop) (l:TL),BO q bb O m l W∧bt l=tr∧(∀ k,k < N→q k)∧(∀ x∈ts,x.In q W)∧∀ m' l' w',After q bb O m' l' W w'→BM N bb bx ts w1 m' (bt l') w':=by
 obtain ⟨q,l,O,h1,h2,h3,h4,h5,h6,h7⟩:=h;refine ⟨q,O,l,h3,h2,h1,h7,fun m' l' w' ha=>?_⟩;obtain ⟨O',a1,a2,a3⟩:=ha;refine ⟨q,l',O',h1,rfl,a1,fun k hk=>?_,h5.step a3 (fun i hi e=>by have:=h4 i e;omega),fun b hb=>?_,fun x hx=>LT.In.turned a3 (fun k hk hq e=>h3.sep k hq e) (fun _ _ q=>q) _ (h7 x hx)⟩
 · rcases Nat.lt_or_ge k W.heap.size with hh | hh
   · exact h4 k (a2 k hk hh)
   · have:=h5.size;omega
 · obtain ⟨c1,c2,c3⟩:=h6 b hb
   have hlt:=(zL c1);exact ⟨(a3.block _ hlt c2).trans c1,fun e=>c2 (a2 _ e hlt),c3⟩
theorem blanks_leaf (n:Nat):∀ x∈blanks n,∀ (p:Nat→Prop) (w:World),x.In p w:=by
 intro x hx p w;obtain rfl:=List.eq_of_mem_replicate hx;exact leafIn' (i64_lit 0 (by omega)) (i64_lit 0 (by omega)) (by unfold maxLen;decide)
theorem BM.matcher (h:BM N bb bx ts w1 m tr w0) (T:Turned zN w0 W) (hw:w1.heap.size=N)
 (hmb:W.heap[mb]? = some (.cells #[.pointer (some ⟨bb,0,none⟩),.slice (some ⟨gr,0,none⟩) R R,.slice (some ⟨gs,0,none⟩) S S] 197 (0,0)))
 (hr:Row W 27 4 (.slice (some ⟨gr,0,none⟩) R R) R ((blanks R).flatMap LT.cells)) (hs:Row W 27 4 (.slice (some ⟨gs,0,none⟩) S S) S ((blanks S).flatMap LT.cells))
 (h1:w0.heap.size≤mb∧w0.heap.size≤gr∧w0.heap.size≤gs) (h2:mb≠gr∧mb≠gs∧gr≠gs) :
 MK N bb mb gr gs R S bx ts w1 ⟨m,tr,(blanks R).map Tm.bare,(blanks S).map Tm.bare⟩ W:=by
 have hsz:=h.old.size;obtain ⟨q,l,O,g1,g2,g3,g4,g5,g6,g7⟩:=h;refine ⟨q,l,O,blanks R,blanks S,g1,g2,g3.turned0 T,g4,g5.trans T,hmb,⟨hr,rfl,fun x hx=>blanks_leaf R x hx _ _⟩,⟨hs,rfl,fun x hx=>blanks_leaf S x hx _ _⟩,fun g hg=>?_,h2,fun b hb=>?_,fun x hx=>(g7 x hx).turned0 T⟩
 · have hg0:w0.heap.size≤g:=by rcases hg with rfl | rfl | rfl <;> omega
   exact ⟨by omega,fun c=>by have:=g3.lt _ c;omega,fun c=>by have:=g3.plt _ c;omega⟩
 · have hlt:=(zL (g6 b hb).1)
   exact ⟨(T.block _ hlt (fun f=>f)).trans (g6 b hb).1,(g6 b hb).2.1,by omega,by omega,by omega,(g6 b hb).2.2⟩
theorem MK.done (h:MK N bb mb gr gs R S bx ts w1 st W):∃ (ss:List LT) (cur:Array Value),ss.map Tm.bare=st.ss∧Row W 27 4 (.slice (some ⟨gs,0,none⟩) S S) S (ss.flatMap LT.cells)∧BM N bb ((gs,.cells cur 27 (0,0)) :: bx) (ss++ts) w1 st.m st.l W:=by
 obtain ⟨q,l,O,rs,ss,h1,h2,h3,h4,h5,h6,⟨r1,r2,r3⟩,⟨s1,s2,s3⟩,h9,h10,h11,h12⟩:=h;have s1':=s1
 rcases s1'.2 with ⟨he,_⟩ | ⟨g',cap',cur,he,hg,_⟩
 · cases he
 injection he with e1 _ e3
 injection e1 with e1
 injection e1 with e1
 subst e1 e3;refine ⟨ss,cur,s2,s1,q,l,O,h1,h2,h3,h4,h5,fun b hb=>?_,fun x hx=>?_⟩
 · rcases Qw.1 hb with rfl | hb
   · exact ⟨hg,(h9 gs (.inr (.inr rfl))).2.1,(h9 gs (.inr (.inr rfl))).2.2⟩
   · exact ⟨(h11 b hb).1,(h11 b hb).2.1,(h11 b hb).2.2.2.2.2⟩
 · rcases Qn.1 hx with hx | hx
   · exact s3 x hx
   · exact h12 x hx
theorem MK.drop' (h:MK N bb mb gr gs R S bx ts w1 st W):BM N bb bx ts w1 st.m st.l W:=by
 obtain ⟨ss,cur,_,_,h⟩:=h.done;exact h.sub (fun b hb=>Qb _ hb) (fun x hx=>Qj _ hx)
end
def sl (g n:Nat):Value:=.slice (some ⟨g,0,none⟩) n n
structure MtS (w0:World) (bb R S:Nat) (hs:Hist) (W:World):Prop where
 t:Turned zN w0 W
 r:∀ v,(3,v)∈hs→∃ g,v=sl g R∧w0.heap.size≤g∧Row W 27 4 (sl g R) R ((blanks R).flatMap LT.cells)
 s:∀ v,(6,v)∈hs→∃ g,v=sl g S∧w0.heap.size≤g∧Row W 27 4 (sl g S) S ((blanks S).flatMap LT.cells)
 ne:∀ g g',(3,sl g R)∈hs→(6,sl g' S)∈hs→g≠g'
 b:∀ v,(7,v)∈hs→∃ g g',(3,sl g R)∈hs∧(6,sl g' S)∈hs∧v = .agg #[.pointer (some ⟨bb,0,none⟩),sl g R,sl g' S]
 x:∀ v,(8,v)∈hs→∃ mb g g',v=ptr mb∧(3,sl g R)∈hs∧(6,sl g' S)∈hs∧w0.heap.size≤mb∧mb≠g∧mb≠g'∧W.heap[mb]? = some (.cells #[.pointer (some ⟨bb,0,none⟩),sl g R,sl g' S] 197 (0,0))
 a:∀ v,(9,v)∈hs→(8,v)∈hs
section
variable {w0 W W':World} {bb R S:Nat} {hs:Hist}
theorem sl_inj {g g' n:Nat} (h:sl g n=sl g' n):g=g':=by
 unfold sl at h
 injection h with h
 injection h with h
 injection h
theorem MtS.start (T:Turned zN w0 W):MtS w0 bb R S [] W:=
 ⟨T,fun v h=>(Ql h).elim,fun v h=>(Ql h).elim,fun g g' h=>(Ql h).elim,fun v h=>(Ql h).elim,fun v h=>(Ql h).elim,fun v h=>(Ql h).elim⟩
theorem MtS.turned0 (h:MtS w0 bb R S hs W) (T:Turned zN W W'):MtS w0 bb R S hs W':=by
 refine ⟨h.t.trans T,fun v hv=>?_,fun v hv=>?_,h.ne,h.b,fun v hv=>?_,h.a⟩
 · obtain ⟨g,h1,h2,h3⟩:=h.r v hv
   exact ⟨g,h1,h2,h3.turned0 T⟩
 · obtain ⟨g,h1,h2,h3⟩:=h.s v hv
   exact ⟨g,h1,h2,h3.turned0 T⟩
 · obtain ⟨mb,g,g',h1,h2,h3,h4,h5,h6,h7⟩:=h.x v hv
   exact ⟨mb,g,g',h1,h2,h3,h4,h5,h6,(T.bt h7)⟩
theorem MtS.regs (h:MtS w0 bb R S hs W) (hno:∀ v,(3,v)∉hs) (hR:R≤1000) :
 MtS w0 bb R S (hs++[(3,sl W.heap.size R)]) (W.alloc (.cells (madeCells zeroT.cells (R * 4)) 27)):=by
 have T:=(Turned.refl (fun _=>False) W).alloc (.cells (madeCells zeroT.cells (R * 4)) 27);have h':=h.turned0 T;refine ⟨h'.t,fun v hv=>?_,fun v hv=>?_,fun g g' hg hg'=>?_,fun v hv=>?_,fun v hv=>?_,fun v hv=>Qc _ (h.a v ((mem_snoc hv).elim id (fun e=>absurd e.1 (by decide))))⟩
 · rcases mem_snoc hv with hv | ⟨_,e⟩
   · exact absurd hv (hno v)
   · exact ⟨_,e,h.t.size,(make_blanksT R hR W).2⟩
 · rcases mem_snoc hv with hv | ⟨e,_⟩
   · exact h'.s v hv
   · cases e
 · rcases mem_snoc hg' with hg' | ⟨e,_⟩
   · obtain ⟨k,e1,_,e3⟩:=h.s _ hg'
     have:=sl_inj e1;have:=e3.lt k rfl
     rcases mem_snoc hg with hg | ⟨_,e⟩
     · exact absurd hg (hno _)
     · have:=sl_inj e
       omega
   · cases e
 · rcases mem_snoc hv with hv | ⟨e,_⟩
   · obtain ⟨g,g',h1,h2,h3⟩:=h'.b v hv
     exact ⟨g,g',Qc _ h1,Qc _ h2,h3⟩
   · cases e
 · rcases mem_snoc hv with hv | ⟨e,_⟩
   · obtain ⟨mb,g,g',h1,h2,h3,h4⟩:=h'.x v hv
     exact ⟨mb,g,g',h1,Qc _ h2,Qc _ h3,h4⟩
   · cases e
theorem MtS.slots (h:MtS w0 bb R S hs W) (hno:∀ v,(6,v)∉hs) (hS:S≤1000) :
 MtS w0 bb R S (hs++[(6,sl W.heap.size S)]) (W.alloc (.cells (madeCells zeroT.cells (S * 4)) 27)):=by
 have T:=(Turned.refl (fun _=>False) W).alloc (.cells (madeCells zeroT.cells (S * 4)) 27);have h':=h.turned0 T;refine ⟨h'.t,fun v hv=>?_,fun v hv=>?_,fun g g' hg hg'=>?_,fun v hv=>?_,fun v hv=>?_,fun v hv=>Qc _ (h.a v ((mem_snoc hv).elim id (fun e=>absurd e.1 (by decide))))⟩
 · rcases mem_snoc hv with hv | ⟨e,_⟩
   · exact h'.r v hv
   · cases e
 · rcases mem_snoc hv with hv | ⟨_,e⟩
   · exact absurd hv (hno v)
   · exact ⟨_,e,h.t.size,(make_blanksT S hS W).2⟩
 · rcases mem_snoc hg with hg | ⟨e,_⟩
   · obtain ⟨k,e1,_,e3⟩:=h.r _ hg
     have:=sl_inj e1;have:=e3.lt k rfl
     rcases mem_snoc hg' with hg' | ⟨_,e⟩
     · exact absurd hg' (hno _)
     · have:=sl_inj e
       omega
   · cases e
 · rcases mem_snoc hv with hv | ⟨e,_⟩
   · obtain ⟨g,g',h1,h2,h3⟩:=h'.b v hv
     exact ⟨g,g',Qc _ h1,Qc _ h2,h3⟩
   · cases e
 · rcases mem_snoc hv with hv | ⟨e,_⟩
   · obtain ⟨mb,g,g',h1,h2,h3,h4⟩:=h'.x v hv
     exact ⟨mb,g,g',h1,Qc _ h2,Qc _ h3,h4⟩
   · cases e
theorem MtS.built {g g':Nat} (h:MtS w0 bb R S hs W) (h3:(3,sl g R)∈hs) (h6:(6,sl g' S)∈hs):MtS w0 bb R S (hs++[(7,.agg #[.pointer (some ⟨bb,0,none⟩),sl g R,sl g' S])]) W:=by
 have ne:∀ {j:Nat} {v u:Value},j≠7→(j,v)∈hs++[(7,u)]→(j,v)∈hs:=fun hj hm=>by
  rcases mem_snoc hm with hm | ⟨e,_⟩
  · exact hm
  · exact absurd e hj
 refine ⟨h.t,fun v hv=>h.r v (ne (by decide) hv),fun v hv=>h.s v (ne (by decide) hv),fun a b ha hb=>h.ne a b (ne (by decide) ha) (ne (by decide) hb),fun v hv=>?_,fun v hv=>?_,fun v hv=>Qc _ (h.a v ((mem_snoc hv).elim id (fun e=>absurd e.1 (by decide))))⟩
 · rcases mem_snoc hv with hv | ⟨_,e⟩
   · obtain ⟨k,k',h1,h2,h3⟩:=h.b v hv
     exact ⟨k,k',Qc _ h1,Qc _ h2,h3⟩
   · exact ⟨g,g',Qc _ h3,Qc _ h6,e⟩
 · obtain ⟨mb,k,k',h1,h2,h3,h4⟩:=h.x v (ne (by decide) hv)
   exact ⟨mb,k,k',h1,Qc _ h2,Qc _ h3,h4⟩
theorem MtS.boxed {g g':Nat} (h:MtS w0 bb R S hs W) (hno:∀ v,(8,v)∉hs) (h3:(3,sl g R)∈hs) (h6:(6,sl g' S)∈hs):MtS w0 bb R S (hs++[(8,ptr W.heap.size)]) (W.alloc (.cells #[.pointer (some ⟨bb,0,none⟩),sl g R,sl g' S] 197)):=by
 have T:=(Turned.refl (fun _=>False) W).alloc (.cells #[.pointer (some ⟨bb,0,none⟩),sl g R,sl g' S] 197);have h':=h.turned0 T
 have ne:∀ {j:Nat} {v u:Value},j≠8→(j,v)∈hs++[(8,u)]→(j,v)∈hs:=fun hj hm=>by
  rcases mem_snoc hm with hm | ⟨e,_⟩
  · exact hm
  · exact absurd e hj
 refine ⟨h'.t,fun v hv=>h'.r v (ne (by decide) hv),fun v hv=>h'.s v (ne (by decide) hv),fun a b ha hb=>h.ne a b (ne (by decide) ha) (ne (by decide) hb),fun v hv=>?_,fun v hv=>?_,fun v hv=>Qc _ (h.a v ((mem_snoc hv).elim id (fun e=>absurd e.1 (by decide))))⟩
 · obtain ⟨k,k',h1,h2,h3⟩:=h.b v (ne (by decide) hv)
   exact ⟨k,k',Qc _ h1,Qc _ h2,h3⟩
 · rcases mem_snoc hv with hv | ⟨_,e⟩
   · exact absurd hv (hno v)
   · obtain ⟨a,a1,_,a3⟩:=h.r _ h3
     obtain ⟨b,b1,_,b3⟩:=h.s _ h6;have e1:=sl_inj a1;have e2:=sl_inj b1;have l1:=a3.lt a rfl;have l2:=b3.lt b rfl;exact ⟨_,g,g',e,Qc _ h3,Qc _ h6,h.t.size,by omega,by omega,heap_alloc_new W _⟩
theorem MtS.assigned {v:Value} (h:MtS w0 bb R S hs W) (h8:(8,v)∈hs):MtS w0 bb R S (hs++[(9,v)]) W:=by
 have ne:∀ {j:Nat} {v u:Value},j≠9→(j,v)∈hs++[(9,u)]→(j,v)∈hs:=fun hj hm=>by
  rcases mem_snoc hm with hm | ⟨e,_⟩
  · exact hm
  · exact absurd e hj
 refine ⟨h.t,fun v hv=>h.r v (ne (by decide) hv),fun v hv=>h.s v (ne (by decide) hv),fun a b ha hb=>h.ne a b (ne (by decide) ha) (ne (by decide) hb),fun v hv=>?_,fun v hv=>?_,fun v hv=>?_⟩
 · obtain ⟨k,k',h1,h2,h3⟩:=h.b v (ne (by decide) hv)
   exact ⟨k,k',Qc _ h1,Qc _ h2,h3⟩
 · obtain ⟨mb,k,k',h1,h2,h3,h4⟩:=h.x v (ne (by decide) hv)
   exact ⟨mb,k,k',h1,Qc _ h2,Qc _ h3,h4⟩
 · rcases mem_snoc hv with hv | ⟨_,e⟩
   · exact Qc _ (h.a v hv)
   · rw [e];exact Qc _ h8
theorem MtS.done {v:Value} (h:MtS w0 bb R S hs W) (hv9:(9,v)∈hs):∃ mb gr gs,v = .pointer (some ⟨mb,0,none⟩)∧W.heap[mb]? = some (.cells #[.pointer (some ⟨bb,0,none⟩),.slice (some ⟨gr,0,none⟩) R R,.slice (some ⟨gs,0,none⟩) S S] 197 (0,0))∧
 Row W 27 4 (.slice (some ⟨gr,0,none⟩) R R) R ((blanks R).flatMap LT.cells)∧Row W 27 4 (.slice (some ⟨gs,0,none⟩) S S) S ((blanks S).flatMap LT.cells)∧(w0.heap.size≤mb∧w0.heap.size≤gr∧w0.heap.size≤gs)∧(mb≠gr∧mb≠gs∧gr≠gs)∧Turned zN w0 W:=by
 have hv:=h.a v hv9;obtain ⟨mb,g,g',h1,h2,h3,h4,h5,h6,h7⟩:=h.x v hv;obtain ⟨a,a1,a2,a3⟩:=h.r _ h2;obtain ⟨b,b1,b2,b3⟩:=h.s _ h3;obtain rfl:=sl_inj a1;obtain rfl:=sl_inj b1;exact ⟨mb,g,g',h1,h7,a3,b3,⟨h4,a2,b2⟩,⟨h5,h6,h.ne _ _ h2 h3⟩,h.t⟩
end
end Go.Proofs.Ytoihjobdfjajfaa
namespace Go.Proofs.Ytoihjobdfjajfaa
open Lib (hid)
open Go.RowKit Go.Maps
theorem brings_build197 {o:Oper} {a:Act} {w:World} {F:Value→World→Prop} (x y z:Tmp) (ho:o.op=Op.build 197 #[(0,.tmp x),(1,.tmp y),(2,.tmp z)]) {bp sa sb:Option Addr} {sn sc tn tc:Nat} (hx:a.tmps.getD x undef = .pointer bp) (hy:a.tmps.getD y undef = .slice sa sn sc) (hz:a.tmps.getD z undef = .slice sb tn tc)
 (h:F (.agg #[.pointer bp,.slice sa sn sc,.slice sb tn tc]) w):Brings Try.prog F ((execOp a.eval o).run Try.prog w):=by
 have e:∀ q,a.eval (.tmp q)=a.tmps.getD q undef:=fun _=>rfl
 unfold execOp;simp only [ho,List.map_toArray,Qx,List.map_nil,e,hx,hy,hz];go_simp;exact h
theorem run_copy_zero (w:World) (ty:TypeId) (a b:Option Addr) (n m d:Nat):(Builtin.copy_ #[22,22] ty #[.slice a n m,.slice b 0 d]).run Try.prog w = .ok (.int .i64 0) w:=by
 have hl:∀ a:Addr,(loadCells a 0).run Try.prog w = .ok #[] w:=fun a=>run_loadCells_list (P:=Try.prog) w a [] (fun j v h=>by simp at h)
 have hst:∀ a:Addr,(storeCells a []).run Try.prog w = .ok () w:=fun a=>rfl
 cases a <;> cases b <;> simp [Builtin.copy_,run_underlying Try.underlying22,Builtin.lenOf,Builtin.firstCells,goInt,hl,hst]
section
variable {N bb mb gr gs R S m:Nat} {bx:List (Nat × Obj)} {ts:List LT} {w1 w W:World} {tr:Tm.Trail} {st st':Tm.MS} {x:LT}
theorem MK.mark (h:MK N bb mb gr gs R S bx ts w1 st W):Calls Try.prog 111 #[.pointer (some ⟨bb,0,none⟩)] W fun e w'=>e = .returned (.int .i64 st.l.length)∧Turned zN W w':=by
 obtain ⟨q,l,O,rs,ss,h1,h2,h3,_⟩:=h;rw [←h2,bt_length];exact markO111 h3
theorem MK.copyIn (hN:N=w1.heap.size) (h:MK N bb mb gr gs R S bx ts w1 st W) (hx:x∈ts) (hR:x.args.length≤R) :
 ∃ w',(∀ ty,(Builtin.copy_ #[22,22] ty #[.slice (some ⟨gr,0,none⟩) R R,.slice x.at_.1 x.args.length x.at_.2]).run Try.prog W = .ok (.int .i64 x.args.length) w')∧MK N bb mb gr gs R S bx ts w1 ⟨st.m,st.l,Tm.putAt st.rs 0 x.bare.args,st.ss⟩ w':=by
 rcases Nat.eq_zero_or_pos x.args.length with h0 | h0
 · have he:x.bare.args=[]:=by rw [Tm.bare_args,Tm.bares_eq,List.length_eq_zero_iff.1 h0];rfl
   refine ⟨W,fun ty=>by rw [h0];exact run_copy_zero W ty _ _ _ _ _,?_⟩;rw [he];unfold Tm.putAt;simp;exact h
 · obtain ⟨ad,w',had,hcp,hmk⟩:=h.copyArgs hN hx (c:=0) (by omega) h0
   rw [Nat.zero_mul,Nat.sub_zero] at hcp;rw [had];exact ⟨w',hcp,hmk⟩
theorem BM.undo (hN:N=w1.heap.size) (h:BM N bb bx ts w1 m tr W) (n:Nat) (hn:n≤tr.length):Calls Try.prog 101 #[.pointer (some ⟨bb,0,none⟩),.int .i64 n] W fun e w'=>e = .returned (.bool true)∧BM N bb bx ts w1 m (tr.drop (tr.length - n)) w':=by
 obtain ⟨q,O,l,h3,rfl,_,_,hk⟩:=h.call hN;rw [bt_length] at hn ⊢;refine (undoO101 h3 n hn).mono ?_
 rintro e w' ⟨rfl,ha⟩
 refine ⟨rfl,?_⟩;have:=hk _ _ w' ha
 rwa [show bt (l.drop (l.length - n))=(bt l).drop (l.length - n) from by unfold bt;rw [List.map_drop]] at this
end
def MatchQ (N bb S m:Nat) (bx:List (Nat × Obj)) (ts:List LT) (w1:World) (tr:Tm.Trail):Tm.MR→Ending→World→Prop
 | .go st',e,w'=>∃ (gs:Nat) (ss:List LT) (cur:Array Value),e = .returned (.tuple #[.slice (some ⟨gs,0,none⟩) S S,.bool true,.int .i64 0])∧ss.map Tm.bare=st'.ss∧Row w' 27 4 (.slice (some ⟨gs,0,none⟩) S S) S (ss.flatMap LT.cells)∧BM N bb ((gs,.cells cur 27 (0,0)) :: bx) (ss++ts) w1 st'.m st'.l w'
 | .stop E m',e,w'=>e = .returned (.tuple #[.slice none 0 0,.bool false,.int .i64 E])∧BM N bb bx ts w1 m' tr w'
structure RunOk (R S:Nat) (tr:Tm.Trail) (L:List Tm.Stp) (Inv:Nat→Tm.MS→Prop):Prop where
 step:∀ i s st,L[i]? = some s→Inv i st→∃ (op name:ByteArray) (a b c:Nat) (n:Int),s=⟨op,(a:Int),(b:Int),(c:Int),n,name⟩∧a < R∧name.size≤maxLen∧Tm.ownB st.m (st.rs.getD a (Tm.V 0))=true∧OneOk R S st op name b c n
 next:∀ i s st st',L[i]? = some s→Inv i st→Tm.stepM st s = .go st'→Inv (i+1) st'
 pre:∀ i st,Inv i st→∃ a,st.l=a++tr
section
variable {N bb mb gr gs R S m:Nat} {bx:List (Nat × Obj)} {ts:List LT} {w1 w W:World} {tr:Tm.Trail} {st st':Tm.MS} {x:LT} {L:List Tm.Stp} {Inv:Nat→Tm.MS→Prop}
set_option maxRecDepth 100000 in
theorem match121 {aL:Option Addr} {cL:Nat} (hN:N=w1.heap.size) (h:BM N bb bx ts w1 m tr w) (hx:x∈ts) (hR:x.args.length≤R∧R≤1000) (hS:S≤1000) (hL64:L.length≤65536)
 (hrow:∀ W,(∀ b∈bx,W.heap[b.1]? = some b.2)→Row W 139 6 (.slice aL L.length cL) L.length (L.flatMap stC))
 (hgood:∀ W,(∀ b∈bx,W.heap[b.1]? = some b.2)→Calls Try.prog 95 #[.agg #[.int .i64 (x.args.length:Int),.int .i64 (S:Int),.int .i64 (R:Int),.slice aL L.length cL]] W fun e w'=>e = .returned (.bool true)∧Turned zN W w')
 (hown:∀ y∈x.args,Tm.ownB m y=true) (hrun:RunOk R S tr L Inv) (h0:Inv 0 ⟨m,tr,Tm.putAt ((blanks R).map Tm.bare) 0 x.bare.args,(blanks S).map Tm.bare⟩) :
 Calls Try.prog 121 #[.pointer (some ⟨bb,0,none⟩),.agg #[.int .i64 (x.args.length:Int),.int .i64 (S:Int),.int .i64 (R:Int),.slice aL L.length cL],.slice x.at_.1 x.args.length x.at_.2] w (MatchQ N bb S m bx ts w1 tr (Tm.runM ⟨m,tr,Tm.putAt ((blanks R).map Tm.bare) 0 x.bare.args,(blanks S).map Tm.bare⟩ L)):=by
 have hb2:BM N bb ((w.heap.size+1,.cells #[.int .i64 (x.args.length:Int),.int .i64 (S:Int),.int .i64 (R:Int),.slice aL L.length cL] 104 (0,0)) :: (w.heap.size,.cells #[.pointer (some ⟨bb,0,none⟩)] 93 (0,0)) :: bx) ts w1 m tr ((w.alloc (.cells #[.pointer (some ⟨bb,0,none⟩)] 93)).alloc (.cells #[.int .i64 (x.args.length:Int),.int .i64 (S:Int),.int .i64 (R:Int),.slice aL L.length cL] 104)):=by
  have:=(h.box (.cells #[.pointer (some ⟨bb,0,none⟩)] 93)).box (.cells #[.int .i64 (x.args.length:Int),.int .i64 (S:Int),.int .i64 (R:Int),.slice aL L.length cL] 104);rw [show (w.alloc (.cells #[.pointer (some ⟨bb,0,none⟩)] 93)).heap.size=w.heap.size+1 by simp] at this;exact this
 obtain ⟨w2,hw2⟩:∃ z,z=(w.alloc (.cells #[.pointer (some ⟨bb,0,none⟩)] 93)).alloc (.cells #[.int .i64 (x.args.length:Int),.int .i64 (S:Int),.int .i64 (R:Int),.slice aL L.length cL] 104):=⟨_,rfl⟩;rw [←hw2] at hb2;obtain ⟨MR,hMR⟩:∃ z,z=Tm.runM ⟨m,tr,Tm.putAt ((blanks R).map Tm.bare) 0 x.bare.args,(blanks S).map Tm.bare⟩ L:=⟨_,rfl⟩;rw [←hMR]
 have hcx:∀ W,Turned zN w2 W→(W.cell? ⟨w.heap.size+1,0,none⟩=some (.int .i64 (x.args.length:Int))∧W.cell? ⟨w.heap.size+1,1,none⟩=some (.int .i64 (S:Int))∧W.cell? ⟨w.heap.size+1,2,none⟩=some (.int .i64 (R:Int))∧W.cell? ⟨w.heap.size+1,3,none⟩=some (.slice aL L.length cL))∧W.cell? ⟨w.heap.size,0,none⟩=some (.pointer (some ⟨bb,0,none⟩)):=fun W T=>by
  have hbx:=(hb2.turned0 T).boxes;have c1:=cells4 (hbx _ (Qe ..));have c2:=cell_of_row W w.heap.size 0 _ 93 (0,0) (hbx _ (Qb _ (Qe ..)));exact ⟨⟨c1.1,c1.2.1,c1.2.2.1,c1.2.2.2.1⟩,c2⟩
 have hmf:∀ (fn:Fn) (first cap:Array Value) (w:World),(Instr.makeFunc fn first cap).run Try.prog w = .ok (.func fn first cap) w:=fun _ _ _ _=>rfl
 have hbd:∀ W,Turned zN w2 W→∀ b∈bx,W.heap[b.1]? = some b.2:=fun W T b hb=>(hb2.turned0 T).boxes b (Qb _ (Qb _ hb))
 have hxl:=(hb2.terms x hx).len
 have hxa:x.args.length≤1000:=by omega
 have hno:∀ W,Turned zN w2 W→Calls Try.prog 158 #[.slice x.at_.1 x.args.length x.at_.2,.func (.func 157) #[] #[.pointer (some ⟨w.heap.size,0,none⟩)]] W fun e w'=>e = .returned (.bool false)∧Turned zN W w':=fun W T=>by
  refine containsNone158 (((hb2.turned0 T).terms x hx).sl) (fun y hy W' T'=>?_);have hb':=hb2.turned0 (T.trans T');have hK:=hb'.boxes _ (Qb _ (Qe ..));obtain ⟨q,O,l,g1,g2,g3,g4,_⟩:=hb'.call hN;refine closure157 g1 ((LT.ins_iff _).1 (g4 x hx).args y hy) (good_slim ?_) (by rw [←ownB_bare,ownB_bare];exact hown y hy) hK;have:=hown y hy;rw [←ownB_bare] at this;rw [←goodB_bare];exact (Tm.ownB_iff.1 this).1
 have HB2:=hid hb2;have HW2:=hid hw2;have HCX:=hid hcx;have HBD:=hid hbd;have HNO:=hid hno;have HGD:=hid hgood;have HROW:=hid hrow;have HN:=hid hN;have HXT:=hid hx;have HRS:Hid (R≤1000∧S≤1000):=⟨hR.2,hS⟩;have HXR:=hid hR.1;have HRUN:=hid hrun;have HI0:=hid h0;have HMR:=hid hMR;obtain ⟨⟨k0,k1,k2,k3⟩,j0⟩:=hcx w2 (Turned.refl _ _);clear h hb2 hw2 hcx hbd hno hgood hrow hN hx hR hS hrun h0 hMR hown hxl;go_enter Try.func121,Try.ntmps121
 go_wp2_with fail
 rw [←HW2.out]
 go_wp2_with (first
  | (go_at_call 158;have HT3:=HT3;(with_reducible refine (HNO.out _ HT3.out).mono ?_);rintro e w4 ⟨rfl,T4⟩;have HT4:=hid (HT3.out.trans T4);clear T4)
  | (go_at_call 95;(with_reducible refine (HGD.out w2 (HBD.out w2 (Turned.refl _ _))).mono ?_);rintro e w3 ⟨rfl,T3⟩;have HT3:=hid T3;clear T3;obtain ⟨⟨k0,k1,k2,k3⟩,j0⟩:=HCX.out w3 HT3.out))
 refine wp_region_k [36,37,38,39,40,41,42,43,44,10] [3,6,7,8,9] [(39,3),(42,6),(43,7),(44,8),(10,9)] (fun dd vv=>(match dd with | 36=>vv = .pointer (some ⟨bb,0,none⟩) | 37=>vv = .pointer (some ⟨w.heap.size+1,2,none⟩) | 38=>vv = .int .i64 (R:Int) | 40=>vv = .pointer (some ⟨w.heap.size+1,1,none⟩) | 41=>vv = .int .i64 (S:Int) | _=>True:Prop)) (MtS w4 bb R S) (by kernel_rfl) rfl (by kernel_rfl) (by kernel_rfl) (fun W T=>MtS.start T) (fun hs W W' h T=>h.turned0 T) ?hs ?hQ
 case hs=>
  refine ⟨?s0,?s1,?s2,?s3,?s4,?s5,?s6,?s7,?s8,?s9,trivial⟩
  case s0=>refine fun hs hl=>zG [] [3] fun ac W hT hI hO=>?_;obtain ⟨⟨k0,k1,k2,k3⟩,j0⟩:=HCX.out W (HT4.out.trans hT.t);simp only [execOp,Act.eval,hO 3 (by simp)];go_simp;try exact tq
  case s1=>refine fun hs hl=>zG [] [4] fun ac W hT hI hO=>?_;simp only [execOp,Act.eval,hO 4 (by simp)];go_simp;try exact tq
  case s2=>refine fun hs hl=>zG [37] [] fun ac W hT hI hO=>?_;have h37:_=_:=hI 37 (by simp);obtain ⟨⟨k0,k1,k2,k3⟩,j0⟩:=HCX.out W (HT4.out.trans hT.t);simp only [execOp,Act.eval,h37];go_simp;try exact tq
  case s3=>
   refine fun hs hno hl=>zG [38] [] fun ac W hT hI hO=>?_;have h38:_=_:=hI 38 (by simp);show Brings _ (fun vv w'=>MtS w4 bb R S (hs++[(3,vv)]) w') _;have hmk:=(make_blanksT R HRS.out.1 W).1;simp only [execOp,Act.eval,h38];go_simp;exact hT.regs hno HRS.out.1
  case s4=>refine fun hs hl=>zG [] [4] fun ac W hT hI hO=>?_;simp only [execOp,Act.eval,hO 4 (by simp)];go_simp;try exact tq
  case s5=>refine fun hs hl=>zG [40] [] fun ac W hT hI hO=>?_;have h40:_=_:=hI 40 (by simp);obtain ⟨⟨k0,k1,k2,k3⟩,j0⟩:=HCX.out W (HT4.out.trans hT.t);simp only [execOp,Act.eval,h40];go_simp;try exact tq
  case s6=>
   refine fun hs hno hl=>zG [41] [] fun ac W hT hI hO=>?_;have h41:_=_:=hI 41 (by simp);show Brings _ (fun vv w'=>MtS w4 bb R S (hs++[(6,vv)]) w') _;have hmk:=(make_blanksT S HRS.out.2 W).1;simp only [execOp,Act.eval,h41];go_simp;exact hT.slots hno HRS.out.2
  case s7=>
   refine fun hs hno hl=>zG [36,39,42] [] fun ac W hT hI hO=>?_;have h36:_=_:=hI 36 (by simp);have h39:(3,ac.tmps.getD 39 undef)∈hs:=hI 39 (by simp);have h42:(6,ac.tmps.getD 42 undef)∈hs:=hI 42 (by simp);obtain ⟨g,e39,_,_⟩:=hT.r _ h39;obtain ⟨g',e42,_,_⟩:=hT.s _ h42;rw [e39] at h39;rw [e42] at h42;unfold sl at e39 e42;show Brings _ (fun vv w'=>MtS w4 bb R S (hs++[(7,vv)]) w') _;exact brings_build197 36 39 42 rfl h36 e39 e42 (hT.built h39 h42)
  case s8=>
   refine fun hs hno hl=>zG [43] [] fun ac W hT hI hO=>?_;have h43:(7,ac.tmps.getD 43 undef)∈hs:=hI 43 (by simp);obtain ⟨g,g',a1,a2,e43⟩:=hT.b _ h43;unfold sl at e43;show Brings _ (fun vv w'=>MtS w4 bb R S (hs++[(8,vv)]) w') _;simp only [execOp,Act.eval,e43];go_simp;exact hT.boxed hno a1 a2
  case s9=>
   refine fun hs hno hl=>zG [44] [] fun ac W hT hI hO=>?_;have h44:(8,ac.tmps.getD 44 undef)∈hs:=hI 44 (by simp);obtain ⟨mb,g,g',e44,_⟩:=hT.x _ h44;have h44':=h44;rw [e44] at h44';unfold ptr at e44;show Brings _ (fun vv w'=>MtS w4 bb R S (hs++[(9,vv)]) w') _;simp only [execOp,Act.eval,e44];go_simp;exact hT.assigned h44'
 case hQ=>
  intro hs vs w5 hall huniq hR hV;have q10:(9,vs 10)∈hs:=hV 10 (by simp);obtain ⟨mb,gr,gs,hB,hmb,hrr,hss,hn1,hn2,T5⟩:=hR.done q10;simp only [Qq,List.foldl_nil,Qk,Qs,Qr,hB];have hmk5:=(HB2.out.turned0 HT4.out).matcher T5 HN.out.symm hmb hrr hss hn1 hn2;obtain ⟨w6,hcp,hmk6⟩:=hmk5.copyIn HN.out HXT.out HXR.out;have HM6:=hid hmk6;obtain ⟨b0,b1,b2,_⟩:=rec3b hmk5.mbox;have hj5:=(HCX.out w5 (HT4.out.trans T5)).2;have hj6:=cell_of_row w6 w.heap.size 0 _ 93 (0,0) (hmk6.boxes _ (Qb _ (Qe ..)));simp only [List.getElem?_toArray,List.getElem?_cons_zero] at hj6;clear hall huniq hR hV q10 hB hmb hrr hss hn1 hn2 hmk5 hmk6
  go_wp2_with (go_at_call 111;(with_reducible refine (HM6.out.mark).mono ?_);rintro e w7 ⟨rfl,T7⟩;have HM7:=hid (HM6.out.turned0 T7);clear T7;obtain ⟨k0,k1,k2,k3,_⟩:=cells4 (HM7.out.boxes _ (Qe ..)))
  go_loopg [56] L.length (fun k i wr=>∃ (j:Nat) (st:Tm.MS),Hid (j+k=L.length)∧j≤L.length∧i = .int .i64 j∧Hid (Inv j st∧MR=Tm.runM st (L.drop j))∧Hid (MK N bb mb gr gs R S ((w.heap.size+1,.cells #[.int .i64 (x.args.length:Int),.int .i64 (S:Int),.int .i64 (R:Int),.slice aL L.length cL] 104 (0,0)) :: (w.heap.size,.cells #[.pointer (some ⟨bb,0,none⟩)] 93 (0,0)) :: bx) ts w1 st wr))
  case atStart=>exact ⟨0,_,Nat.zero_add _,Nat.zero_le _,rfl,⟨HI0.out,HMR.out⟩,HM7.out⟩
  case round=>
   obtain ⟨j,st,HG,hj,rfl,HIJ,HMJ⟩:=hrel
   have hbd:=fun b hb=>HMJ.out.boxes b (Qb _ (Qb _ hb))
   by_cases hjl:j < L.length
   · have dj:decide ((j:Int) < (L.length:Int))=true:=decide_eq_true (by omega)
     obtain ⟨s,hs⟩:∃ s:Tm.Stp,L[j]? = some s:=⟨_,Qa hjl⟩;obtain ⟨op,nm,sa,sb,sc,sn,hse,hsa,hnm,hso,hop⟩:=HRUN.out.step j s st hs HIJ.out.1;have hrw:=HROW.out wr hbd;obtain ⟨gL,capL,hgL⟩:=hrw.shape_pos (by omega)
     have haL:aL=some ⟨gL,0,none⟩:=by injection hgL
     subst haL;obtain ⟨n0,n1,n2,n3,n4,n5⟩:=step_cells hrw hs;subst hse;simp only [] at n0 n1 n2 n3 n4 n5
     have hdrop:L.drop j=⟨op,(sa:Int),(sb:Int),(sc:Int),sn,nm⟩ :: L.drop (j+1):=by
      rw [List.drop_eq_getElem_cons hjl];congr 1;have:=Qa hjl;rw [hs] at this;exact (Option.some.inj this).symm
     have hone:=fun W (T:Turned zN wr W)=>one159 (op:=op) (name:=nm) (a:=sa) (b:=sb) (c:=sc) (n:=sn) HN.out (HMJ.out.turned0 T) hsa (by have:=HRS.out.1;omega) (by have:=HRS.out.2;omega) hnm hso hop
     have HONE:=hid hone;have HS:=hid hs;have HDR:=hid hdrop;have HNX:=hid (HRUN.out.next j ⟨op,(sa:Int),(sb:Int),(sc:Int),sn,nm⟩ st);have HPR:=hid (HRUN.out.pre j st HIJ.out.1);clear hbd hrw hgL hs hsa hnm hso hop hdrop hone;obtain ⟨M,hM⟩:∃ z,z=Tm.stepM st ⟨op,(sa:Int),(sb:Int),(sc:Int),sn,nm⟩:=⟨_,rfl⟩;have HM:=hid hM
     cases M with
     | go st''=>
      have hrun:MR=Tm.runM st'' (L.drop (j+1)):=by
       rw [HIJ.out.2,HDR.out,Tm.runM,←HM.out]
      have HR:=hid hrun;clear hM hrun
      go_wp2_with (go_at_call 159;have h1:=HONE.out _ ((Turned.refl (fun _=>False) wr).alloc (.cells #[.string op,.int .i64 (sa:Int),.int .i64 (sb:Int),.int .i64 (sc:Int),.int .i64 sn,.string nm] 139));rw [←HM.out] at h1;(with_reducible refine h1.mono ?_);rintro e w8 ⟨rfl,h8⟩;have HM8:=hid h8;clear h8 h1)
      go_roundg (gk - 1)
      case measure=>have:=HG.out;omega
      case rel=>exact ⟨j+1,st'',show _=_ by have:=HG.out;omega,by omega,by go_num,⟨HNX.out st'' HS.out HIJ.out.1 HM.out.symm,HR.out⟩,HM8.out⟩
     | stop E m'=>
      have hrun:MR = .stop E m':=by
       rw [HIJ.out.2,HDR.out,Tm.runM,←HM.out]
      have HR:=hid hrun;have h1:=HONE.out _ ((Turned.refl (fun _=>False) wr).alloc (.cells #[.string op,.int .i64 (sa:Int),.int .i64 (sb:Int),.int .i64 (sc:Int),.int .i64 sn,.string nm] 139));rw [←HM.out] at h1;have H1:=hid h1;clear hM hrun h1
      go_wp2_with fail
      refine H1.out.mono ?_
      rintro e w8 ⟨b,st2,rfl,hb,hm2,⟨a1,ha1⟩,h8⟩
      obtain ⟨a2,ha2⟩:=HPR.out;have hb8:=h8.drop';have hj8:=cell_of_row w8 w.heap.size 0 _ 93 (0,0) (hb8.boxes _ (Qb _ (Qe ..)));simp only [List.getElem?_toArray,List.getElem?_cons_zero] at hj8;have hun:=hb8.undo HN.out tr.length (by rw [ha1,ha2];simp only [Qi];omega);rw [show List.drop (st2.l.length - tr.length) st2.l=tr by rw [ha1,ha2,←List.append_assoc];exact List.drop_left' (by simp only [Qi];omega),hm2] at hun;have HUN:=hid hun;have HB:=hid hb;clear hb8 h8 ha1 ha2 hun hb hm2
      cases b with
      | false=>
       go_wp2_with (go_at_call 101;(with_reducible refine HUN.out.mono ?_);rintro e w9 ⟨rfl,h9⟩;have H9:=hid h9;clear h9)
       go_ret3
       rw [HR.out];exact ⟨rfl,H9.out.sub (fun b h=>Qb _ (Qb _ h)) (fun x h=>h)⟩
      | true=>
       have bE:(E != 0)=true:=by have:=HB.out rfl;simp [this]
       go_wp2_with (go_at_call 101;(with_reducible refine HUN.out.mono ?_);rintro e w9 ⟨rfl,h9⟩;have H9:=hid h9;clear h9)
       go_ret3
       rw [HR.out];exact ⟨rfl,H9.out.sub (fun b h=>Qb _ (Qb _ h)) (fun x h=>h)⟩
   · obtain rfl:j=L.length:=by omega
     have dj:decide ((L.length:Int) < (L.length:Int))=false:=decide_eq_false (by omega)
     have hrun:MR = .go st:=by rw [HIJ.out.2,List.drop_length];rfl
     have HR:=hid hrun;obtain ⟨b0,b1,b2,_⟩:=rec3b HMJ.out.mbox;clear hbd hrun
     go_wp2_with fail
     go_ret3
     rw [HR.out];obtain ⟨ss,cur,g1,g2,g3⟩:=HMJ.out.done;refine ⟨gs,ss,cur,rfl,g1,g2,g3.sub (fun b h=>?_) (fun x h=>h)⟩
     rcases Qw.1 h with rfl | h
     · exact Qe ..
     · exact Qb _ (Qb _ (Qb _ h))
end
end Go.Proofs.Ytoihjobdfjajfaa

/- Merged texts: AL1, Any6, TK1, AL3, AL4, BS, BS2, CB1, BS3, RL3, RL4, BI, BD1, BD2, BD3, BS4, BS5, BW0, BD5, RL5, BD7, BD8, BD9. -/
import Derived.Test.YtoihjobdfjajfaaCm1
import Derived.Laws.StructEq
import Derived.BigQuiet
import Derived.Laws.MakeOwn
set_option linter.unusedVariables false
set_option linter.unusedSimpArgs false
open List renaming getElem?_eq_getElem → Qa, mem_cons_of_mem → Qb, mem_append_left → Qc, mem_cons_self → Qe, mem_of_getElem? → Qf, getElem?_eq_some_iff → Qg, eq_nil_of_length_eq_zero → Qh, length_append → Qi, mem_append_right → Qj, setIfInBounds_toArray → Qk, not_mem_nil → Ql, mem_append → Qn, getElem?_map → Qp, foldl_cons → Qq, set_cons_succ → Qr, set_cons_zero → Qs, all_eq_true → Qt, length_map → Qu, mem_cons → Qw, map_cons → Qx, length_cons → QB
open Bool renaming and_eq_true → Qd
open Nat renaming le_refl → Qm, lt_of_lt_of_le → Qo, lt_irrefl → Qy, lt_of_le_of_lt → Qz, le_trans → QA
open Array renaming getElem?_toList → Qv, getElem?_eq_some_iff → QC
set_option maxHeartbeats 12800000
namespace Go.Proofs.Ytoihjobdfjajfaa
namespace Tm
def V (n:Int):Tm Unit:=.mk 0 n ByteArray.empty () []
mutual
def subT (σ:Int→Tm Unit):Tm Unit→Tm Unit
 | .mk k n s e aa=>if k=0 then σ n else .mk k n s e (subTs σ aa)
def subTs (σ:Int→Tm Unit):List (Tm Unit)→List (Tm Unit)
 | []=>[]
 | x :: l=>subT σ x :: subTs σ l
end
theorem subTs_eq (σ:Int→Tm Unit) (l:List (Tm Unit)):subTs σ l=l.map (subT σ):=by
 induction l with
 | nil=>rfl
 | cons x l ih=>simp only [subTs,Qx,ih]
def leafy (t:Tm Unit):Prop:=∀ x∈t.flat,x.kind=0→x=V x.n
theorem leafy_args {k n:Int} {s:ByteArray} {aa:List (Tm Unit)} (h:leafy (.mk k n s () aa)):∀ x∈aa,leafy x:=by
 intro x hx y hy;refine h y ?_;rw [flat_eq];refine Qb _ ?_;clear h
 induction aa with
 | nil=>cases hx
 | cons z aa ih=>
  simp only [args,flats,Qn] at ih ⊢
  rcases Qw.1 hx with rfl | hx
  · exact .inl hy
  · exact .inr (ih hx)
theorem leafy_good {t:Tm Unit} (h:∀ x∈t.flat,goodOneB x=true):leafy t:=by
 intro x hx hk;have:=h x hx;rw [goodOneB_0 x hk] at this;simp only [Qd,decide_eq_true_eq] at this;obtain ⟨_,_,h3,h4⟩:=this
 cases x with | mk k n s e aa=>
 simp only [kind] at hk;simp only [name] at h3;simp only [args] at h4;have:aa=[]:=Qh h4;subst this;have hs:s=ByteArray.empty:=(bytes_nil s).1 h3;subst hs hk;rfl
def numsIn (t:Tm Unit) (n:Int):Prop:=∃ x∈t.flat,x.kind=0∧x.n=n
mutual
theorem subT_congr {σ τ:Int→Tm Unit}:∀ t:Tm Unit,(∀ x∈t.flat,x.kind=0→σ x.n=τ x.n)→subT σ t=subT τ t
 | .mk k n s e aa,h=>by
  by_cases hk:k=0
  · have:=h (.mk k n s e aa) (by rw [flat_eq];exact Qe ..) hk
    simp only [subT,if_pos hk];exact this
  · simp only [subT,if_neg hk]
    rw [subTs_congr aa (fun x hx=>h x (by rw [flat_eq];exact Qb _ hx))]
theorem subTs_congr {σ τ:Int→Tm Unit}:∀ l:List (Tm Unit),(∀ x∈flats l,x.kind=0→σ x.n=τ x.n)→subTs σ l=subTs τ l
 | [],_=>rfl
 | x :: l,h=>by
  simp only [subTs];rw [subT_congr x (fun y hy=>h y (by simp only [flats];exact Qc _ hy)),subTs_congr l (fun y hy=>h y (by simp only [flats];exact Qj _ hy))]
end
mutual
theorem subT_subT {σ τ:Int→Tm Unit}:∀ t:Tm Unit,subT τ (subT σ t)=subT (fun n=>subT τ (σ n)) t
 | .mk k n s e aa=>by
  by_cases hk:k=0
  · simp only [subT,if_pos hk]
  · simp only [subT,if_neg hk,subTs_subTs aa]
theorem subTs_subTs {σ τ:Int→Tm Unit}:∀ l:List (Tm Unit),subTs τ (subTs σ l)=subTs (fun n=>subT τ (σ n)) l
 | []=>rfl
 | x :: l=>by simp only [subTs,subT_subT x,subTs_subTs l]
end
mutual
theorem subT_V:∀ t:Tm Unit,leafy t→subT V t=t
 | .mk k n s e aa,h=>by
  by_cases hk:k=0
  · have:=h (.mk k n s e aa) (by rw [flat_eq];exact Qe ..) hk
    simp only [subT,if_pos hk];exact this.symm
  · simp only [subT,if_neg hk]
    rw [subTs_V aa (fun x hx=>h x (by rw [flat_eq];exact Qb _ hx))]
theorem subTs_V:∀ l:List (Tm Unit),(∀ x∈flats l,x.kind=0→x=V x.n)→subTs V l=l
 | [],_=>rfl
 | x :: l,h=>by
  simp only [subTs];rw [subT_V x (fun y hy=>h y (by simp only [flats];exact Qc _ hy)),subTs_V l (fun y hy=>h y (by simp only [flats];exact Qj _ hy))]
end
def ren (s:Int→Int) (t:Tm Unit):Tm Unit:=subT (fun n=>V (s n)) t
def rens (s:Int→Int) (l:List (Tm Unit)):List (Tm Unit):=subTs (fun n=>V (s n)) l
theorem ren_kind (s:Int→Int) (t:Tm Unit):(ren s t).kind=t.kind:=by
 cases t with | mk k n nm e aa=>
 unfold ren
 by_cases hk:k=0
 · simp only [subT,if_pos hk,V,kind];exact hk.symm
 · simp only [subT,if_neg hk,kind]
theorem ren_n {s:Int→Int} {t:Tm Unit} (h:t.kind=0):(ren s t).n=s t.n:=by
 cases t with | mk k n nm e aa=>
 unfold ren;simp only [kind] at h;simp only [subT,if_pos h,V,Tm.n]
mutual
theorem flat_ren (s:Int→Int):∀ t:Tm Unit,leafy t→(ren s t).flat=t.flat.map (ren s)
 | .mk k n nm e aa,h=>by
  by_cases hk:k=0
  · have:=h (.mk k n nm e aa) (by rw [flat_eq];exact Qe ..) hk
    rw [this];simp only [Tm.n,V,flat,flats,ren,subT,if_pos,Qx,List.map_nil]
  · have hr:ren s (.mk k n nm e aa) = .mk k n nm e (rens s aa):=by unfold ren rens;simp only [subT,if_neg hk]
    rw [flat_eq (.mk k n nm e aa),Qx,hr,flat];congr 1;exact flats_ren s aa (fun x hx=>h x (by rw [flat_eq];exact Qb _ hx))
theorem flats_ren (s:Int→Int):∀ l:List (Tm Unit),(∀ x∈flats l,x.kind=0→x=V x.n)→flats (rens s l)=(flats l).map (ren s)
 | [],_=>rfl
 | x :: l,h=>by
  show flats (ren s x :: rens s l)=_;simp only [flats,List.map_append];rw [flat_ren s x (fun y hy=>h y (by simp only [flats];exact Qc _ hy)),flats_ren s l (fun y hy=>h y (by simp only [flats];exact Qj _ hy))]
end
theorem size_ren (s:Int→Int) {t:Tm Unit} (h:leafy t):(ren s t).size=t.size:=by rw [←flat_length,flat_ren s t h,Qu,flat_length]
mutual
theorem depth_ren (s:Int→Int):∀ t:Tm Unit,leafy t→(ren s t).depth=t.depth
 | .mk k n nm e aa,h=>by
  by_cases hk:k=0
  · have:=h (.mk k n nm e aa) (by rw [flat_eq];exact Qe ..) hk
    rw [this];simp only [Tm.n,V,ren,subT,if_pos,depth,depths]
  · have hr:ren s (.mk k n nm e aa) = .mk k n nm e (rens s aa):=by unfold ren rens;simp only [subT,if_neg hk]
    rw [hr,depth,depth,depths_ren s aa (fun x hx=>h x (by rw [flat_eq];exact Qb _ hx))]
theorem depths_ren (s:Int→Int):∀ l:List (Tm Unit),(∀ x∈flats l,x.kind=0→x=V x.n)→depths (rens s l)=depths l
 | [],_=>rfl
 | x :: l,h=>by
  show depths (ren s x :: rens s l)=_;simp only [depths];rw [depth_ren s x (fun y hy=>h y (by simp only [flats];exact Qc _ hy)),depths_ren s l (fun y hy=>h y (by simp only [flats];exact Qj _ hy))]
end
theorem vars_mem {t:Tm Unit} (n:Int):n∈t.vars↔numsIn t n:=by
 unfold vars numsIn;generalize t.flat=l
 suffices h:∀ (l:List (Tm Unit)) (vs:List Int),n∈l.foldl addVar vs↔n∈vs∨∃ x∈l,x.kind=0∧x.n=n by
  rw [h];simp
 intro l
 induction l with
 | nil=>intro vs;simp
 | cons y l ih=>
  intro vs;rw [Qq,ih];unfold addVar
  by_cases h:y.kind=0∧y.n∉vs
  · rw [if_pos h]
    simp only [Qn,Qw,Ql,or_false,exists_eq_or_imp];constructor
    · rintro ((h1 | h1) | h1)
      · exact .inl h1
      · exact .inr (.inl ⟨h.1,h1.symm⟩)
      · exact .inr (.inr h1)
    · rintro (h1 | h1 | h1)
      · exact .inl (.inl h1)
      · exact .inl (.inr h1.2.symm)
      · exact .inr h1
  · rw [if_neg h]
    simp only [Qw,exists_eq_or_imp];constructor
    · rintro (h1 | h1)
      · exact .inl h1
      · exact .inr (.inr h1)
    · rintro (h1 | h1 | h1)
      · exact .inl h1
      · refine .inl ?_
        by_cases hm:y.n∈vs
        · rw [←h1.2];exact hm
        · exact absurd ⟨h1.1,hm⟩ h
      · exact .inr h1
theorem vars_nodup {α:Type} (t:Tm α):t.vars.Nodup:=by
 unfold vars
 suffices h:∀ (l:List (Tm α)) (vs:List Int),vs.Nodup→(l.foldl addVar vs).Nodup from h _ _ List.nodup_nil
 intro l
 induction l with
 | nil=>intro vs h;exact h
 | cons y l ih=>
  intro vs h;rw [Qq];apply ih;unfold addVar
  split
  · rename_i hc
    rw [List.nodup_append];exact ⟨h,List.nodup_cons.2 ⟨Ql,List.nodup_nil⟩,fun a ha b hb=>by simp at hb;subst hb;exact fun e=>hc.2 (e ▸ ha)⟩
  · exact h
def InjOn (s:Int→Int) (l:List Int):Prop:=∀ a∈l,∀ b∈l,s a=s b→a=b
theorem vars_ren {s:Int→Int} {t:Tm Unit} (h:leafy t) (hs:InjOn s t.vars):(ren s t).vars=t.vars.map s:=by
 have hs':∀ a b,numsIn t a→numsIn t b→s a=s b→a=b:=fun a b ha hb=>hs a ((vars_mem a).2 ha) b ((vars_mem b).2 hb)
 unfold vars;rw [flat_ren s t h];unfold numsIn at hs';revert hs';clear hs h;generalize t.flat=l;intro hs'
 suffices hh:∀ (r:List (Tm Unit)) (vs:List Int),(∀ x∈r,x∈l)→(∀ v∈vs,∃ x∈l,x.kind=0∧x.n=v)→(r.map (ren s)).foldl addVar (vs.map s)=(r.foldl addVar vs).map s from
  hh l [] (fun _ h=>h) (fun _ h=>by cases h)
 intro r
 induction r with
 | nil=>intro vs _ _;rfl
 | cons y r ih=>
  intro vs hr hv;simp only [Qx,Qq];have hy:=hr y (Qe ..)
  have e:addVar (vs.map s) (ren s y)=(addVar vs y).map s:=by
   unfold addVar;rw [ren_kind]
   by_cases hk:y.kind=0
   · rw [ren_n hk]
     have hm:s y.n∈vs.map s↔y.n∈vs:=by
      constructor
      · intro hm
        obtain ⟨v,hv1,hv2⟩:=List.mem_map.1 hm;have:=hs' v y.n (hv v hv1) ⟨y,hy,hk,rfl⟩ hv2;rw [←this];exact hv1
      · exact fun hm=>List.mem_map_of_mem hm
     by_cases hn:y.n∈vs
     · rw [if_neg (fun c=>c.2 (hm.2 hn)),if_neg (fun c=>c.2 hn)]
     · rw [if_pos ⟨hk,fun c=>hn (hm.1 c)⟩,if_pos ⟨hk,hn⟩,List.map_append];rfl
   · rw [if_neg (fun c=>hk c.1),if_neg (fun c=>hk c.1)]
  rw [e];refine ih _ (fun x hx=>hr x (Qb _ hx)) ?_;intro v hv';unfold addVar at hv'
  split at hv'
  · rename_i hc
    rcases Qn.1 hv' with h1 | h1
    · exact hv v h1
    · simp at h1;exact ⟨y,hy,hc.1,h1.symm⟩
  · exact hv v hv'
def posOf (vs:List Int) (n:Int):Nat:=vs.idxOf n
theorem posOf_at {vs:List Int} (h:vs.Nodup) {i:Nat} {v:Int} (hi:vs[i]? = some v):posOf vs v=i:=by
 unfold posOf;obtain ⟨hl,rfl⟩:=Qg.1 hi;exact List.Nodup.idxOf_getElem h i hl
theorem posOf_mem {vs:List Int} {n:Int} (h:n∈vs):vs[posOf vs n]? = some n:=by
 have hl:=List.idxOf_lt_length_of_mem h;unfold posOf;rw [Qa hl,List.getElem_idxOf hl]
theorem posOf_map {vs:List Int} {s:Int→Int} (hs:InjOn s vs) (hnd:vs.Nodup) {n:Int} (h:n∈vs):posOf (vs.map s) (s n)=posOf vs n:=by
 have hnd':(vs.map s).Nodup:=by
  clear h
  induction vs with
  | nil=>exact List.nodup_nil
  | cons v vs ih=>
   rw [Qx,List.nodup_cons];rw [List.nodup_cons] at hnd;refine ⟨fun hm=>?_,ih (fun a ha b hb=>hs a (Qb _ ha) b (Qb _ hb)) hnd.2⟩;obtain ⟨u,hu1,hu2⟩:=List.mem_map.1 hm;have:=hs u (Qb _ hu1) v (Qe ..) hu2;exact hnd.1 (this ▸ hu1)
 refine posOf_at hnd' ?_;rw [Qp,posOf_mem h];rfl
def fromS (vs:List Int) (first:Int) (n:Int):Int:=first+(posOf vs n:Nat)
def fromT (t:Tm Unit) (first:Int):Tm Unit:=ren (fromS t.vars first) t
theorem ren_ren (s r:Int→Int) (t:Tm Unit):ren r (ren s t)=ren (fun n=>r (s n)) t:=by
 unfold ren;rw [subT_subT];congr 1
theorem ren_congr {s r:Int→Int} {t:Tm Unit} (h:∀ n∈t.vars,s n=r n):ren s t=ren r t:=
 subT_congr t (fun x hx hk=>by rw [h x.n ((vars_mem _).2 ⟨x,hx,hk,rfl⟩)])
theorem fromT_ren {s:Int→Int} {t:Tm Unit} (h:leafy t) (hs:InjOn s t.vars) (first:Int):fromT (ren s t) first=fromT t first:=by
 unfold fromT;rw [vars_ren h hs,ren_ren];refine ren_congr (fun n hn=>?_);unfold fromS;rw [posOf_map hs (vars_nodup t) hn]
end Tm
theorem good_leafy {t:Tm Unit} (h:goodB t=true):Tm.leafy t:=by
 unfold goodB at h;simp only [Qd,decide_eq_true_eq,Qt] at h;exact Tm.leafy_good h.2.2
theorem goodB_ren {s:Int→Int} {t:Tm Unit} (h:goodB t=true) (hs:∀ n∈t.vars,0≤s n∧s n≤2147483647):goodB (Tm.ren s t)=true:=by
 have hl:=good_leafy h;unfold goodB at h ⊢;rw [Tm.size_ren s hl,Tm.depth_ren s t hl,Tm.flat_ren s t hl];simp only [Qd,decide_eq_true_eq,Qt] at h ⊢;refine ⟨h.1,h.2.1,?_⟩;intro x hx;obtain ⟨y,hy,rfl⟩:=List.mem_map.1 hx
 by_cases hk:y.kind=0
 · have:=hs y.n ((Tm.vars_mem _).2 ⟨y,hy,hk,rfl⟩)
   rw [hl y hy hk];simp only [Tm.V,Tm.n,Tm.ren,Tm.subT,if_pos];rw [goodOneB_0 _ rfl];show (decide (0≤s y.n) && (decide (s y.n≤2147483647) && (decide (ByteArray.empty.toList=[]) && decide (0=0))))=true;rw [decide_eq_true this.1,decide_eq_true this.2,decide_eq_true ((bytes_nil _).2 rfl)];rfl
 · have hy':=h.2.2 y hy
   cases y with | mk k n nm e aa=>
   have hr:Tm.ren s (.mk k n nm e aa) = .mk k n nm e (Tm.rens s aa):=by unfold Tm.ren Tm.rens;simp only [Tm.kind] at hk;simp only [Tm.subT,if_neg hk]
   rw [hr];unfold goodOneB at hy' ⊢
   have e1:(Tm.rens s aa).length=aa.length:=by unfold Tm.rens;rw [Tm.subTs_eq,Qu]
   simp only [Tm.kind,Tm.n,Tm.name,Tm.args,e1] at hy' ⊢;exact hy'
theorem goodB_fromT {t:Tm Unit} {first:Int} (h:goodB t=true) (h0:0≤first) (h1:first+t.vars.length≤2147483648):goodB (Tm.fromT t first)=true:=by
 refine goodB_ren h (fun n hn=>?_);have:=List.idxOf_lt_length_of_mem hn;unfold Tm.fromS Tm.posOf;omega
namespace Tm
theorem same_unit (a b:Tm Unit):same a b=true↔a=b:=by rw [same_iff,bare_unit,bare_unit]
abbrev MM:=Int→Option (Tm Unit)
def setM (m:MM) (n:Int) (b:Tm Unit):MM:=fun j=>if j=n then some b else m j
mutual
def moreM (a b:Tm Unit) (m:MM):Option MM:=
 match a with
 | .mk k n s _ aa=>
  if k=0 then (match m n with | none=>some (setM m n b) | some x=>if same x b=true then some m else none)
  else if k=b.kind∧n=b.n∧s=b.name∧aa.length=b.args.length then moresM aa b.args m else none
def moresM (l r:List (Tm Unit)) (m:MM):Option MM:=
 match l with
 | []=>some m
 | x :: l=>(match r with | []=>some m | y :: r=>(match moreM x y m with | none=>none | some m=>moresM l r m))
end
def Ext (m:MM) (σ:Int→Tm Unit):Prop:=∀ n x,m n=some x→σ n=x
def Sub (m m':MM):Prop:=∀ n x,m n=some x→m' n=some x
theorem Sub.refl (m:MM):Sub m m:=fun _ _ h=>h
theorem Sub.trans {a b c:MM} (h:Sub a b) (k:Sub b c):Sub a c:=fun n x e=>k n x (h n x e)
theorem eq_mk (b:Tm Unit):b = .mk b.kind b.n b.name () b.args:=by cases b;rfl
mutual
theorem moreM_some:∀ (a b:Tm Unit) (m m':MM),moreM a b m=some m'→Sub m m'∧∀ σ,Ext m' σ→subT σ a=b
 | .mk k n s e aa,b,m,m',h=>by
  unfold moreM at h
  by_cases hk:k=0
  · rw [if_pos hk] at h
    cases hm:m n with
    | none=>
     rw [hm] at h
     injection h with h;subst h
     refine ⟨fun j x hj=>?_,fun σ hσ=>?_⟩
     · unfold setM;by_cases e:j=n
       · subst e;rw [hm] at hj;cases hj
       · rw [if_neg e];exact hj
     · simp only [subT,if_pos hk]
       exact hσ n b (by unfold setM;rw [if_pos rfl])
    | some x=>
     rw [hm] at h;simp only at h
     by_cases hx:same x b=true
     · rw [if_pos hx] at h
       injection h with h;subst h
       exact ⟨Sub.refl _,fun σ hσ=>by simp only [subT,if_pos hk];rw [←(same_unit x b).1 hx];exact hσ n x hm⟩
     · rw [if_neg hx] at h;cases h
  · rw [if_neg hk] at h
    by_cases hc:k=b.kind∧n=b.n∧s=b.name∧aa.length=b.args.length
    · rw [if_pos hc] at h
      obtain ⟨h1,h2⟩:=moresM_some aa b.args m m' hc.2.2.2 h;refine ⟨h1,fun σ hσ=>?_⟩;simp only [subT,if_neg hk];rw [h2 σ hσ,eq_mk b,←hc.1,←hc.2.1,←hc.2.2.1];rfl
    · rw [if_neg hc] at h;cases h
theorem moresM_some:∀ (l r:List (Tm Unit)) (m m':MM),l.length=r.length→moresM l r m=some m'→Sub m m'∧∀ σ,Ext m' σ→subTs σ l=r
 | [],[],m,m',_,h=>by
  unfold moresM at h
  injection h with h;subst h
  exact ⟨Sub.refl _,fun _ _=>rfl⟩
 | [],_ :: _,_,_,hl,_=>by simp at hl
 | _ :: _,[],_,_,hl,_=>by simp at hl
 | x :: l,y :: r,m,m',hl,h=>by
  unfold moresM at h;simp only at h
  cases h1:moreM x y m with
  | none=>rw [h1] at h;cases h
  | some m1=>
   rw [h1] at h;simp only at h;obtain ⟨a1,a2⟩:=moreM_some x y m m1 h1;obtain ⟨b1,b2⟩:=moresM_some l r m1 m' (by simpa using hl) h;refine ⟨a1.trans b1,fun σ hσ=>?_⟩;simp only [subTs];rw [a2 σ (fun j z hz=>hσ j z (b1 j z hz)),b2 σ hσ]
end
mutual
theorem moreM_of (σ:Int→Tm Unit):∀ (a b:Tm Unit) (m:MM),Ext m σ→subT σ a=b→∃ m',moreM a b m=some m'∧Ext m' σ
 | .mk k n s e aa,b,m,hm,h=>by
  unfold moreM
  by_cases hk:k=0
  · simp only [subT,if_pos hk] at h
    rw [if_pos hk]
    cases hn:m n with
    | none=>
     refine ⟨_,rfl,fun j x hj=>?_⟩;unfold setM at hj
     by_cases e:j=n
     · rw [if_pos e] at hj;injection hj with hj;rw [e,h,hj]
     · rw [if_neg e] at hj;exact hm j x hj
    | some x=>
     have:=hm n x hn;rw [h] at this;simp only;rw [if_pos ((same_unit x b).2 this.symm)];exact ⟨m,rfl,hm⟩
  · simp only [subT,if_neg hk] at h
    subst h;rw [if_neg hk,if_pos ⟨rfl,rfl,rfl,by simp only [args];rw [subTs_eq,Qu]⟩];exact moresM_of σ aa m hm
theorem moresM_of (σ:Int→Tm Unit):∀ (l:List (Tm Unit)) (m:MM),Ext m σ→∃ m',moresM l (subTs σ l) m=some m'∧Ext m' σ
 | [],m,hm=>⟨m,by unfold moresM;rfl,hm⟩
 | x :: l,m,hm=>by
  obtain ⟨m1,e1,h1⟩:=moreM_of σ x (subT σ x) m hm rfl;obtain ⟨m2,e2,h2⟩:=moresM_of σ l m1 h1;refine ⟨m2,?_,h2⟩;unfold moresM;simp only [subTs];rw [e1];exact e2
end
def moreS (a b:Tm Unit):Bool:=(moreM a b fun _=>none).isSome
theorem moreS_iff (a b:Tm Unit):moreS a b=true↔∃ σ,subT σ a=b:=by
 unfold moreS;constructor
 · intro h
   obtain ⟨m,hm⟩:=Option.isSome_iff_exists.1 h;refine ⟨fun n=>(m n).getD b,(moreM_some a b _ m hm).2 _ (fun n x hx=>by rw [hx];rfl)⟩
 · rintro ⟨σ,hσ⟩
   obtain ⟨m,hm,_⟩:=moreM_of σ a b (fun _=>none) (fun _ _ h=>by cases h) hσ;rw [hm];rfl
theorem subT_kind {σ:Int→Tm Unit} {t:Tm Unit} (h:t.kind≠0):(subT σ t).kind=t.kind:=by
 cases t with | mk k n s e aa=>simp only [kind] at h;simp only [subT,if_neg h,kind]
mutual
theorem subT_mem (σ:Int→Tm Unit) (n:Int):∀ t:Tm Unit,(∃ x∈t.flat,x.kind=0∧x.n=n)→leafy t→σ n∈(subT σ t).flat
 | .mk k m s e aa,h,hl=>by
  by_cases hk:k=0
  · have hv:=hl (.mk k m s e aa) (by rw [flat_eq];exact Qe ..) hk
    rw [hv] at h ⊢;obtain ⟨x,hx,_,hn⟩:=h;simp only [V,Tm.n,flat,flats,Qw,Ql,or_false] at hx;subst hx;simp only [Tm.n] at hn;subst hn;simp only [V,subT,if_pos,Tm.n];rw [flat_eq];exact Qe ..
  · simp only [subT,if_neg hk,flat]
    refine Qb _ ?_;refine subTs_mem σ n aa ?_ (fun x hx=>hl x (by rw [flat_eq];exact Qb _ hx));obtain ⟨x,hx,h0,hn⟩:=h;rw [flat_eq] at hx
    rcases Qw.1 hx with rfl | hx
    · exact absurd h0 hk
    · exact ⟨x,hx,h0,hn⟩
theorem subTs_mem (σ:Int→Tm Unit) (n:Int):∀ l:List (Tm Unit),(∃ x∈flats l,x.kind=0∧x.n=n)→(∀ x∈flats l,x.kind=0→x=V x.n)→σ n∈flats (subTs σ l)
 | [],h,_=>by obtain ⟨x,hx,_⟩:=h;cases hx
 | y :: l,h,hl=>by
  simp only [subTs,flats];obtain ⟨x,hx,h0,hn⟩:=h;simp only [flats] at hx
  rcases Qn.1 hx with hx | hx
  · exact Qc _ (subT_mem σ n y ⟨x,hx,h0,hn⟩ (fun z hz=>hl z (by simp only [flats];exact Qc _ hz)))
  · exact Qj _ (subTs_mem σ n l ⟨x,hx,h0,hn⟩ (fun z hz=>hl z (by simp only [flats];exact Qj _ hz)))
end
mutual
theorem subT_eq {σ τ:Int→Tm Unit} {n:Int}:∀ {t:Tm Unit},subT σ t=subT τ t→leafy t→numsIn t n→σ n=τ n
 | .mk k m s e aa,h,hl,hn=>by
  by_cases hk:k=0
  · have hv:=hl (.mk k m s e aa) (by rw [flat_eq];exact Qe ..) hk
    rw [hv] at h hn;obtain ⟨x,hx,_,hn⟩:=hn;simp only [V,Tm.n,flat,flats,Qw,Ql,or_false] at hx;subst hx;simp only [Tm.n] at hn;subst hn;simpa only [V,subT,if_pos,Tm.n] using h
  · simp only [subT,if_neg hk,Tm.mk.injEq,true_and] at h
    obtain ⟨x,hx,h0,hn⟩:=hn;rw [flat_eq] at hx
    rcases Qw.1 hx with rfl | hx
    · exact absurd h0 hk
    · exact subTs_eq' h (fun x hx=>hl x (by rw [flat_eq];exact Qb _ hx)) ⟨x,hx,h0,hn⟩
theorem subTs_eq' {σ τ:Int→Tm Unit} {n:Int}:∀ {l:List (Tm Unit)},subTs σ l=subTs τ l→(∀ x∈flats l,x.kind=0→x=V x.n)→(∃ x∈flats l,x.kind=0∧x.n=n)→σ n=τ n
 | [],_,_,h=>by obtain ⟨x,hx,_⟩:=h;cases hx
 | y :: l,h,hl,hn=>by
  simp only [subTs,List.cons.injEq] at h;obtain ⟨x,hx,h0,hn⟩:=hn;simp only [flats] at hx
  rcases Qn.1 hx with hx | hx
  · exact subT_eq h.1 (fun z hz=>hl z (by simp only [flats];exact Qc _ hz)) ⟨x,hx,h0,hn⟩
  · exact subTs_eq' h.2 (fun z hz=>hl z (by simp only [flats];exact Qj _ hz)) ⟨x,hx,h0,hn⟩
end
def plainT (t:Tm Unit):Tm Unit:=fromT t 0
theorem more_alike {a b:Tm Unit} (ha:leafy a) (hb:leafy b) (h:moreS a b=true) (k:moreS b a=true):plainT a=plainT b:=by
 obtain ⟨σ,hσ⟩:=(moreS_iff a b).1 h;obtain ⟨τ,hτ⟩:=(moreS_iff b a).1 k
 have hcomp:subT (fun n=>subT τ (σ n)) a=subT V a:=by rw [←subT_subT,hσ,hτ,subT_V a ha]
 have key:∀ n∈a.vars,subT τ (σ n)=V n:=by
  intro n hn;have hn':=(vars_mem n).1 hn;clear hn h k hσ hτ hb;exact subT_eq hcomp ha hn'
 have hvar:∀ n∈a.vars,σ n=V (σ n).n:=by
  intro n hn
  have h0:(σ n).kind=0:=by
   by_cases hk:(σ n).kind=0
   · exact hk
   · have:=congrArg kind (key n hn)
     rw [subT_kind hk] at this;exact absurd this hk
  exact hb _ (by rw [←hσ];exact subT_mem σ n a ((vars_mem n).1 hn) ha) h0
 have e:b=ren (fun n=>(σ n).n) a:=by
  rw [←hσ];exact subT_congr a (fun x hx hk=>hvar x.n ((vars_mem _).2 ⟨x,hx,hk,rfl⟩))
 have hinj:InjOn (fun n=>(σ n).n) a.vars:=by
  intro m hm n hn hmn;have h1:=key m hm;have h2:=key n hn;rw [hvar m hm] at h1;rw [hvar n hn] at h2;simp only at hmn;rw [hmn,h2] at h1;exact (congrArg Tm.n h1).symm
 rw [e];exact (fromT_ren ha hinj 0).symm
end Tm
end Go.Proofs.Ytoihjobdfjajfaa
namespace Go.Proofs.Ytoihjobdfjajfaa
open Go
def edgeMask (ops:Array Oper) (i:Nat):Nat:=match ops[i]? with
 | none=>0
 | some o=>o.after.toList.foldl (fun m e=>if Region.binds .any e then m ||| 1 <<< e.on else m) 0
def reachMask (ops:Array Oper) (j:Nat):Nat:=(List.range (j+1)).reverse.foldl (fun m i=>if m.testBit i then m ||| edgeMask ops i else m) (1 <<< j)
theorem bit_one (k i:Nat):(1 <<< k).testBit i=true↔k=i:=by
 rw [Nat.one_shiftLeft,Nat.testBit_two_pow,decide_eq_true_eq]
theorem edgeMask_bit {ops:Array Oper} {i k:Nat} (h:(edgeMask ops i).testBit k=true):∃ o,ops[i]? = some o∧∃ e∈o.after,Region.binds .any e=true∧e.on=k:=by
 unfold edgeMask at h
 cases ho:ops[i]? with
 | none=>rw [ho] at h;simp at h
 | some o=>
  rw [ho] at h;simp only at h;refine ⟨o,rfl,?_⟩
  have key:∀ (l:List Edge) (m:Nat),(l.foldl (fun m e=>if Region.binds .any e then m ||| 1 <<< e.on else m) m).testBit k=true→m.testBit k=true∨∃ e∈l,Region.binds .any e=true∧e.on=k:=by
   intro l
   induction l with
   | nil=>intro m h;exact .inl h
   | cons x l ih=>
    intro m h;rw [Qq] at h
    rcases ih _ h with h | ⟨e,he,hb⟩
    · split at h
      · rename_i hb
        rw [Nat.testBit_or,Bool.or_eq_true] at h
        rcases h with h | h
        · exact .inl h
        · exact .inr ⟨x,Qe ..,hb,(bit_one _ _).1 h⟩
      · exact .inl h
    · exact .inr ⟨e,Qb _ he,hb⟩
  rcases key _ _ h with h | ⟨e,he,hb⟩
  · simp at h
  · exact ⟨e,by simpa using he,hb⟩
theorem waits_edge {ops:Array Oper} {i k:Nat} (he:∃ o,ops[i]? = some o∧∃ e∈o.after,Region.binds .any e=true∧e.on=k):∀ (n j:Nat),waits ops n j i=true→waits ops (n+1) j k=true:=by
 intro n
 induction n with
 | zero=>intro j h;cases h
 | succ n ih=>
  intro j h;unfold waits at h ⊢
  cases ho:ops[j]? with
  | none=>rw [ho] at h;cases h
  | some o=>
   rw [ho] at h;simp only at h ⊢;obtain ⟨e,hm,hb⟩:=(Array.any_eq_true').1 h;simp only [Qd,Bool.or_eq_true,beq_iff_eq] at hb;refine (Array.any_eq_true').2 ⟨e,hm,?_⟩;simp only [Qd,Bool.or_eq_true,beq_iff_eq];refine ⟨hb.1,.inr ?_⟩
   rcases hb.2 with hq | hq
   · subst hq
     obtain ⟨o',ho',e',he',hb',hon⟩:=he;unfold waits;rw [ho'];refine (Array.any_eq_true').2 ⟨e',he',?_⟩;simp only [Qd,Bool.or_eq_true,beq_iff_eq];exact ⟨hb',.inl hon⟩
   · exact ih _ hq
theorem waits_one {ops:Array Oper} {i k:Nat} (he:∃ o,ops[i]? = some o∧∃ e∈o.after,Region.binds .any e=true∧e.on=k):waits ops 1 i k=true:=by
 obtain ⟨o',ho',e',he',hb',hon⟩:=he;unfold waits;rw [ho'];refine (Array.any_eq_true').2 ⟨e',he',?_⟩;simp only [Qd,Bool.or_eq_true,beq_iff_eq];exact ⟨hb',.inl hon⟩
theorem reachMask_bit {ops:Array Oper} {j i:Nat} (h:(reachMask ops j).testBit i=true):i=j∨∃ n,waits ops n j i=true:=by
 unfold reachMask at h
 have key:∀ (l:List Nat) (m:Nat),(∀ i,m.testBit i=true→i=j∨∃ n,waits ops n j i=true)→∀ i,(l.foldl (fun m i=>if m.testBit i then m ||| edgeMask ops i else m) m).testBit i=true→i=j∨∃ n,waits ops n j i=true:=by
  intro l
  induction l with
  | nil=>intro m hm i h;exact hm i h
  | cons x l ih=>
   intro m hm i h;rw [Qq] at h;refine ih _ ?_ i h;intro k hk
   split at hk
   · rename_i hx
     rw [Nat.testBit_or,Bool.or_eq_true] at hk
     rcases hk with hk | hk
     · exact hm k hk
     · have he:=edgeMask_bit hk
       rcases hm x hx with rfl | ⟨n,hn⟩
       · exact .inr ⟨1,waits_one he⟩
       · exact .inr ⟨n+1,waits_edge he n j hn⟩
   · exact hm k hk
 refine key _ _ (fun i h=>?_) i h;exact .inl ((bit_one _ _).1 h).symm
def chkStW (ops:Array Oper) (st:List Nat):Bool:=
 st.all (fun i=>decide (i < ops.size)) && (List.range st.length).all fun k=>match st[k]?,st[k+1]? with
  | some i,some j=>decide (i < j) && (reachMask ops j).testBit i
  | _,_=>true
theorem chkSt_ltW {ops:Array Oper} {st:List Nat} (h:chkStW ops st=true) {k i:Nat} (hi:st[k]? = some i):i < ops.size:=by
 simp only [chkStW,Qd,Qt] at h;simpa using h.1 i (Qf hi)
theorem chkSt_nextW {ops:Array Oper} {st:List Nat} (h:chkStW ops st=true) {k i j:Nat} (hi:st[k]? = some i) (hj:st[k+1]? = some j):i < j∧∃ n,waits ops n j i=true:=by
 simp only [chkStW,Qd,Qt] at h;have:=h.2 k (List.mem_range.2 (Qg.1 hi).1);rw [hi,hj] at this;simp only [Qd,decide_eq_true_eq] at this;refine ⟨this.1,?_⟩
 rcases reachMask_bit this.2 with e | e
 · omega
 · exact e
theorem chkSt_monoW {ops:Array Oper} {st:List Nat} (h:chkStW ops st=true) (d:Nat):∀ {k i j:Nat},st[k]? = some i→st[k+d+1]? = some j→i < j:=by
 induction d with
 | zero=>intro k i j hi hj;exact (chkSt_nextW h hi hj).1
 | succ d ih=>
  intro k i j hi hj
  have hlt:k+d+1 < st.length:=by have:=(Qg.1 hj).1;omega
  have hm:st[k+d+1]? = some st[k+d+1]:=Qa hlt;have h1:=ih hi hm;have h2:=(chkSt_nextW h hm (by rw [show k+d+1+1=k+(d+1)+1 from by omega];exact hj)).1;omega
theorem chkSt_injW {ops:Array Oper} {st:List Nat} (h:chkStW ops st=true) {k k' i:Nat} (hi:st[k]? = some i) (hj:st[k']? = some i):k=k':=by
 rcases Nat.lt_trichotomy k k' with hl | hl | hl
 · have:=chkSt_monoW h (k' - k - 1) hi (by rw [show k+(k' - k - 1)+1=k' from by omega];exact hj)
   omega
 · exact hl
 · have:=chkSt_monoW h (k - k' - 1) hj (by rw [show k'+(k - k' - 1)+1=k from by omega];exact hi)
   omega
section
variable {P:Program} {G:List Value→Tmp→Value→World→Prop} {ops:Array Oper} {a0:Act} {w0:World} {Q:Exit→Act→World→Prop} {st:List Nat} {R:List Value→World→Prop} {Step:World→World→Prop}
theorem InvS.hereW {listed:Array Bool} {hs:List Value} {m:Nat} {w:World} (h:InvS ops st R listed hs m w) (hst:chkStW ops st=true) {i k:Nat} (hp:posOf st i=some k) (hr:i∈Region.ready .any ops listed):k=m:=by
 obtain ⟨hf,o,ho,hall⟩:=mem_ready.1 hr;have hk:=posOf_some hp;have h1:=h.done k i hk
 have hmk:m≤k:=by
  have:listed.getD i false=false:=by
   have hf':=hf;simp only [Array.getD_eq_getD_getElem?] at hf' ⊢
   cases h:listed[i]? with
   | none=>rfl
   | some b=>rw [h] at hf';simpa using hf'
  rw [this] at h1;have:=of_decide_eq_false h1.symm;omega
 by_cases e:k=m
 · exact e
 · exfalso
   have hk1:st[k - 1]? = some (st[k - 1]'(by have:=(Qg.1 hk).1;omega)):=Qa _;obtain ⟨_,hedge⟩:=chkSt_nextW hst hk1 (by rw [show k - 1+1=k from by omega];exact hk);have h2:=h.done _ _ hk1
   have h3:listed.getD (st[k - 1]'(by have:=(Qg.1 hk).1;omega)) false=true:=by
    obtain ⟨n,hedge⟩:=hedge
    cases n with
    | zero=>cases hedge
    | succ n=>
    unfold waits at hedge;rw [ho] at hedge;obtain ⟨e',he',hb⟩:=(Array.any_eq_true').1 hedge;simp only [Qd,Bool.or_eq_true,beq_iff_eq] at hb;have h4:=hall e' he' hb.1
    rcases hb.2 with hq | hq
    · rw [←hq];exact h4
    · exact waits_listed h.shut n _ _ hq h4
   rw [h3] at h2;have:=of_decide_eq_true h2.symm;omega
theorem InvS.nextW {listed:Array Bool} {hs:List Value} {m:Nat} {w w':World} (h:InvS ops st R listed hs m w) (hst:chkStW ops st=true) (hl:listed.size=ops.size) {i:Nat} (hr:i∈Region.ready .any ops listed) (hp:posOf st i=some m) {v:Value} (hR:R (hs++[v]) w'):InvS ops st R (listed.setIfInBounds i true) (hs++[v]) (m+1) w':=by
 have hk:=posOf_some hp;have hlt:=(Qg.1 hk).1;refine ⟨hlt,by rw [Qi,h.len];rfl,hR,fun k j hj=>?_,shut_set h.shut hl hr⟩
 by_cases e:j=i
 · subst e
   have:=chkSt_injW hst hj hk;subst this
   have hb:j < listed.size:=by rw [hl];exact chkSt_ltW hst hk
   simp [hb]
 · rw [getD_set_ne false (Ne.symm e),h.done k j hj,decide_eq_decide]
   have hne:k≠m:=fun e'=>by subst e';rw [hk] at hj;injection hj with hj;exact e hj.symm
   omega
theorem st_goW (hc:chkAny ops a0.tmps.size=true) (hst:chkStW ops st=true) (hG:∀ hs d v w w',Step w w'→G hs d v w→G hs d v w') (hG2:∀ hs x d v w,G hs d v w→G (hs++[x]) d v w) (hs:StepsAt P G ops a0 st R Step 0 ops.toList)
 (hQ:∀ hs a w,hs.length=st.length→R hs w→(∀ s,Looks (G hs) ops a0 a w s)→a.defers=a0.defers→a.tmps.size=a0.tmps.size→Q .normal a w) :
 ∀ (fuel:Nat) (listed:Array Bool) (a:Act) (w:World) (hs:List Value) (m:Nat),listed.toList.count false≤fuel→InvS ops st R listed hs m w→InvA (G hs) ops a0 a listed w→wpAny P .any ops Q fuel listed a w:=by
 intro fuel
 have hend:∀ (listed:Array Bool) (a:Act) (w:World) (hs:List Value) (m:Nat),InvS ops st R listed hs m w→InvA (G hs) ops a0 a listed w→Region.ready .any ops listed=[]→Q .normal a w:=by
  intro listed a w hs m hT hI hr;have hall:=all_listed hc hI.lsize hr
  have hm:m=st.length:=by
   rcases Nat.lt_or_ge m st.length with hl | hl
   · have hk:st[m]? = some st[m]:=Qa hl
     have h1:=hT.done m _ hk;rw [hall _ (chkSt_ltW hst hk)] at h1;have:=of_decide_eq_true h1.symm;omega
   · have:=hT.le;omega
  subst hm;refine hQ hs a w hT.len hT.state (fun s=>?_) hI.defers hI.size;unfold Looks
  split
  · rename_i hm
    obtain ⟨oj,hoj,hd⟩:=List.mem_filterMap.1 hm;obtain ⟨j,hj⟩:=List.getElem?_of_mem hoj;rw [Qv] at hj;exact hI.done j oj s hj hd (hall j (zL hj))
  · rename_i hm
    refine hI.rest s fun j oj hj hd=>absurd (List.mem_filterMap.2 ⟨oj,?_,hd⟩) hm
    exact Qf (by rw [Qv];exact hj)
 induction fuel with
 | zero=>
  intro listed a w hs' m hf hT hI
  have hr:Region.ready .any ops listed=[]:=by
   apply List.eq_nil_iff_forall_not_mem.2;intro i hi;obtain ⟨hfalse,o,ho,_⟩:=mem_ready.1 hi
   have hlt:i < listed.size:=by rw [hI.lsize];exact (zL ho)
   simp [hlt] at hfalse
   have:false∈listed.toList:=by rw [←hfalse];exact Array.getElem_mem_toList hlt
   have:=List.count_pos_iff.2 this;omega
  exact ⟨hr,hend _ _ _ _ _ hT hI hr⟩
 | succ fuel ih=>
  intro listed a w hs' m hf hT hI;refine ⟨hend _ _ _ _ _ hT hI,fun i hi=>?_⟩;obtain ⟨hfalse,o,ho,_⟩:=mem_ready.1 hi
  have hlt:i < listed.size:=by rw [hI.lsize];exact (zL ho)
  have hcnt:(listed.setIfInBounds i true).toList.count false≤fuel:=by
   have h1:listed.toList[i]? = some false:=by
    simp [hlt] at hfalse;rw [Qv,Array.getElem?_eq_getElem hlt,hfalse]
   have:=count_set h1;rw [Array.toList_setIfInBounds];omega
  have hst1:=hs.at (j:=i) (o:=o) (by rw [Qv];exact ho);rw [Nat.zero_add] at hst1;unfold wpOp;simp only [ho];unfold StepAt at hst1
  cases hp:posOf st i with
  | none=>
   rw [hp] at hst1
   have hst2:=hst1 hs' (by rw [hT.len];exact hT.le) (fun k j n hk hedge=>by
    rw [hT.len];have h1:=hT.done k j hk
    rcases Nat.lt_or_ge k m with hl | hl
    · exfalso
      have h2:=waits_listed hT.shut n j i hedge (by rw [h1];exact decide_eq_true hl)
      have h3:listed.getD i true=false:=by simpa using hfalse
      simp only [Array.getD_eq_getD_getElem?] at h2 h3
      cases hx:listed[i]? with
      | none=>rw [hx] at h2;simp at h2
      | some b=>rw [hx] at h2 h3;simp at h2 h3;rw [h2] at h3;cases h3
    · exact hl) a w hT.state (hI.looks hc ho hi)
   split
   · rename_i hw
     refine .inl ?_
     exact Brings.upon (hst2.1 hw) fun v w' hv=>ih _ _ _ hs' m hcnt (hT.other hp hI.lsize hi hv.1) (hI.stepG hc (fun d v=>hG hs' d v _ _ hv.2.1) ho hv.2.2)
   · rename_i hw
     have:=hst2.2 (by simpa using hw);exact ih _ _ _ hs' m hcnt (hT.other hp hI.lsize hi this.1) (hI.stepG hc (fun d v h=>h) ho this.2.2)
  | some k=>
   rw [hp] at hst1;have hkm:=InvS.hereW hT hst hp hi;subst hkm;have hst2:=hst1 hs' hT.len a w hT.state (hI.looks hc ho hi)
   split
   · rename_i hw
     refine .inl ?_
     exact Brings.upon (hst2.1 hw) fun v w' hv=>ih _ _ _ (hs'++[v]) (k+1) hcnt (InvS.nextW hT hst hI.lsize hi hp hv.1) (hI.stepG hc (fun d u h=>hG2 _ _ _ _ _ (hG hs' d u _ _ hv.2.1 h)) ho hv.2.2)
   · rename_i hw
     have:=hst2.2 (by simpa using hw);exact ih _ _ _ (hs'++[undef]) (k+1) hcnt (InvS.nextW hT hst hI.lsize hi hp this.1) (hI.stepG hc (fun d u h=>hG2 _ _ _ _ _ h) ho this.2.2)
theorem wp_region_stW {id:Nat} (dl:List Tmp) (st:List Nat) (R:List Value→World→Prop) (Step:World→World→Prop) (hdl:ops.toList.filterMap (·.dst)=dl) (hm:P.follows .mixedOrders=true) (hc:chkAny ops a0.tmps.size=true) (hst:chkStW ops st=true) (hR:∀ w,Turned zN w0 w→R [] w) (hG:∀ hs d v w w',Step w w'→G hs d v w→G hs d v w') (hG2:∀ hs x d v w,G hs d v w→G (hs++[x]) d v w) (hs:StepsAt P G ops a0 st R Step 0 ops.toList)
 (hQ:∀ (hs:List Value) (vs:Tmp→Value) w,hs.length=st.length→R hs w→(∀ s∈dl,G hs s (vs s) w)→Q .normal ⟨dl.foldl (fun t d=>t.setIfInBounds d (vs d)) a0.tmps,a0.defers⟩ w):(Code.region id ops true).wp P Q a0 w0:=by
 refine wp_region_any hm (st_goW hc hst hG hG2 hs ?_ _ _ _ _ [] 0 ?_ ⟨Nat.zero_le _,rfl,hR _ ((Turned.refl _ w0).drew),fun k i hi=>?_,fun j o ho hj=>?_⟩ ?_)
 · intro hs a w hlen hR hL hd hsz
   have:=hQ hs (fun d=>a.tmps.getD d undef) w hlen hR (fun s hs=>by
    have:=hL s;unfold Looks at this;rw [hdl,if_pos hs] at this
    exact this)
   have e:a=⟨dl.foldl (fun t d=>t.setIfInBounds d (a.tmps.getD d undef)) a0.tmps,a0.defers⟩:=by
    cases a with | mk tmps defers=>
    simp only at hd hsz this ⊢;subst hd;congr 1;apply Array.ext
    · rw [fold_size];exact hsz
    · intro i h1 h2
      have h3:i < a0.tmps.size:=by rw [←hsz];exact h1
      have hf:=fold_getD (fun d=>tmps.getD d undef) dl a0.tmps i h3;have hl:=hL i;unfold Looks at hl;rw [hdl] at hl;have e1:=getD_lt tmps i h1;have e2:=getD_lt _ i h2;rw [←e1,←e2,hf]
      by_cases hm:i∈dl
      · rw [if_pos hm]
      · rw [if_neg hm] at hl ⊢
        exact hl
   rw [e];exact this
 · rw [Array.toList_replicate,List.count_replicate_self]
   exact Qm _
 · have hlt:=chkSt_ltW hst hi
   simp [hlt]
 · have hlt:=(zL ho)
   simp [hlt] at hj
 · refine ⟨rfl,rfl,by simp,fun j oj d hj hd hl=>?_,fun d _=>rfl⟩
   have hlt:=(zL hj);simp [hlt] at hl
end
def chkBdW (ops:Array Oper) (st bd:List Nat):Bool:=
 (List.range ops.size).all fun i=>bd.getD i st.length == st.length || match st[bd.getD i st.length]? with
  | none=>false
  | some j=>!(j == i) && (reachMask ops j).testBit i
theorem chkBd_atW {ops:Array Oper} {st bd:List Nat} (h:chkBdW ops st bd=true) {i:Nat} {o:Oper} (ho:ops[i]? = some o) {hs:List Value} (h1:hs.length≤st.length)
 (h2:∀ k j n,st[k]? = some j→waits ops n j i=true→hs.length≤k):hs.length≤bd.getD i st.length:=by
 have:=Qt.1 h i (List.mem_range.2 (zL ho));rw [Bool.or_eq_true] at this
 rcases this with this | this
 · rw [beq_iff_eq] at this;omega
 · cases hj:st[bd.getD i st.length]? with
   | none=>rw [hj] at this;cases this
   | some j=>
    rw [hj] at this;simp only [Qd,Bool.not_eq_true',beq_eq_false_iff_ne] at this
    rcases reachMask_bit this.2 with e | ⟨n,hn⟩
    · exact absurd e.symm this.1
    · exact h2 _ j n hj hn
section
variable {P:Program} {hist:List Tmp} {GL:Tmp→Value→Prop} {ops:Array Oper} {a0:Act} {w0:World} {Q:Exit→Act→World→Prop} {st bd:List Nat} {R:List Value→World→Prop}
theorem StepsH.upW (hh:chkHist ops st hist=true) (hb0:chkBdW ops st bd=true) (hRt:∀ hs w w',R hs w→Turned zN w w'→R hs w'):∀ (l:List Oper) (b:Nat),(∀ j o,l[j]? = some o→ops[b+j]? = some o)→StepsH P hist GL ops a0 st bd R b l→StepsAt P (fun hs d v _=>GH hist GL hs d v) ops a0 st R (fun _ _=>True) b l:=by
 intro l
 induction l with
 | nil=>intro b _ _;trivial
 | cons o l ih=>
  intro b hb hs;refine ⟨?_,ih (b+1) (fun j x hx=>by have:=hb (j+1) x (by simpa using hx);rwa [show b+(j+1)=b+1+j from by omega] at this) hs.2⟩;have ho:ops[b]? = some o:=hb 0 o (by simp);have h1:=hs.1;unfold StepH at h1;unfold StepAt
  cases hp:posOf st b with
  | none=>
   rw [hp] at h1;intro hl hl1 hl2 a w hR hL;obtain ⟨k1,k2⟩:=h1 hl (chkBd_atW hb0 ho hl1 hl2) a w hR hL
   have hg:∀ v,GDL GL o.dst v→∀ w',GD (fun d v _=>GH hist GL hl d v) o.dst v w':=by
    intro v hv w'
    cases hd:o.dst with
    | none=>trivial
    | some d=>
     rw [hd] at hv;show GH hist GL hl d v;unfold GH;rw [chkHist_at hh ho hd,hp];exact hv
   refine ⟨fun hw=>(k1 hw).mono fun v w' hv=>⟨hRt _ _ _ hR hv.1,trivial,hg v hv.2 _⟩,fun hw=>⟨hR,trivial,hg _ (k2 hw).2 _⟩⟩
  | some k=>
   rw [hp] at h1;intro hl hk a w hR hL;obtain ⟨k1,k2⟩:=h1 hl hk a w hR hL
   have hg:∀ v w',GD (fun d v _=>GH hist GL (hl++[v]) d v) o.dst v w':=by
    intro v w'
    cases hd:o.dst with
    | none=>trivial
    | some d=>
     show GH hist GL (hl++[v]) d v;unfold GH;rw [chkHist_at hh ho hd,hp];simp only;rw [←hk];simp
   refine ⟨fun hw=>(k1 hw).mono fun v w' hv=>⟨hv,trivial,?_⟩,fun hw=>⟨k2 hw,trivial,?_⟩⟩
   · have:=hg v w'
     cases hd:o.dst with
     | none=>trivial
     | some d=>rw [hd] at this;exact this
   · have:=hg undef w
     cases hd:o.dst with
     | none=>trivial
     | some d=>rw [hd] at this;exact this
theorem wp_region_hsW {id:Nat} (dl:List Tmp) (st bd:List Nat) (hist:List Tmp) (GL:Tmp→Value→Prop) (R:List Value→World→Prop) (hdl:ops.toList.filterMap (·.dst)=dl) (hm:P.follows .mixedOrders=true) (hc:chkAny ops a0.tmps.size=true) (hst:chkStW ops st=true) (hh:chkHist ops st hist=true) (hb:chkBdW ops st bd=true)
 (hR0:∀ w,Turned zN w0 w→R [] w) (hRt:∀ hs w w',R hs w→Turned zN w w'→R hs w') (hs:StepsH P hist GL ops a0 st bd R 0 ops.toList)
 (hQ:∀ (hs:List Value) (vs:Tmp→Value) w,hs.length=st.length→R hs w→(∀ s∈dl,GH hist GL hs s (vs s))→Q .normal ⟨dl.foldl (fun t d=>t.setIfInBounds d (vs d)) a0.tmps,a0.defers⟩ w):(Code.region id ops true).wp P Q a0 w0:=by
 refine wp_region_stW (G:=fun hs d v _=>GH hist GL hs d v) dl st R (fun _ _=>True) hdl hm hc hst hR0 (fun _ _ _ _ _ _ h=>h) (fun hl x d v _ h=>?_) (StepsH.upW hh hb hRt _ 0 (fun j o ho=>by rw [Nat.zero_add];rwa [Qv] at ho) hs) hQ;show GH hist GL (hl++[x]) d v;have h':GH hist GL hl d v:=h;unfold GH at h' ⊢
 split at h'
 · rename_i k hk
   exact (List.getElem?_append_left (Qg.1 h').1).trans h'
 · exact h'
end
end Go.Proofs.Ytoihjobdfjajfaa
namespace Go.Proofs.Ytoihjobdfjajfaa
open Go.RowKit
theorem leafIn' {p:Nat→Prop} {w:World} {k n:Int} {s:ByteArray} (h1:I64 k) (h2:I64 n) (h3:s.size≤maxLen):(leaf k n s).In p w:=
 LT.In.mk h1 h2 h3 (Qm _) (by unfold maxLen;omega) (fun _=>⟨rfl,rfl⟩) (fun h=>absurd h (by decide)) trivial
end Go.Proofs.Ytoihjobdfjajfaa
namespace Go.Proofs.Ytoihjobdfjajfaa
open Go.RowKit Go.Maps
theorem good_nums {t:LT} (hg:goodB t=true):∀ n∈t.vars,0≤n∧n≤2147483647:=by
 intro n hn;rw [←Tm.vars_bare] at hn;obtain ⟨x,hx,hk,rfl⟩:=(Tm.vars_mem n).1 hn;rw [←goodB_bare] at hg;unfold goodB at hg;simp only [Qd,decide_eq_true_eq,Qt] at hg;have:=hg.2.2 x hx;rw [goodOneB_0 x hk] at this;simp only [Qd,decide_eq_true_eq] at this;exact ⟨this.1,this.2.1⟩
theorem results_cell_tmp2 {P:Program} {fn:Func} {s q p:Tmp} {ty:TypeId} (h:fn.results = #[.cell p ty,.tmp s,.tmp q]) (tmps:Array Value) (w:World) (g:Nat) (t:TypeId) (cs:Array Value) (fr:Nat × Nat) (d:TypeDesc)
 (hp:tmps.getD p undef = .pointer (some ⟨g,0,none⟩)) (hg:w.heap[g]? = some (.cells cs t fr))
 (hu:P.underlying ty=some d) (hd:(match d with | .struct _ | .array _ _=>true | _=>false)=true) (hi:(P.info? ty).map (·.size)=some cs.size) :
 (results fn tmps).run P w = .ok (.tuple #[.agg cs,tmps.getD s undef,tmps.getD q undef]) w:=by
 have hp':tmps[p]?.getD undef = .pointer (some ⟨g,0,none⟩):=by simpa using hp
 simp [results,h,hp',asAddr,run_loadVar_row w g t ty cs fr d hg hu hd hi]
theorem results_cell_tmp1 {P:Program} {fn:Func} {s p:Tmp} {ty:TypeId} (h:fn.results = #[.cell p ty,.tmp s]) (tmps:Array Value) (w:World) (g:Nat) (t:TypeId) (cs:Array Value) (fr:Nat × Nat) (d:TypeDesc)
 (hp:tmps.getD p undef = .pointer (some ⟨g,0,none⟩)) (hg:w.heap[g]? = some (.cells cs t fr))
 (hu:P.underlying ty=some d) (hd:(match d with | .struct _ | .array _ _=>true | _=>false)=true) (hi:(P.info? ty).map (·.size)=some cs.size) :
 (results fn tmps).run P w = .ok (.tuple #[.agg cs,tmps.getD s undef]) w:=by
 have hp':tmps[p]?.getD undef = .pointer (some ⟨g,0,none⟩):=by simpa using hp
 simp [results,h,hp',asAddr,run_loadVar_row w g t ty cs fr d hg hu hd hi]
def FromR (t:Tm Unit) (first:Int) (u:Tm Unit) (m er:Int):Prop:=
 if goodB t=true∧0≤first∧first≤2147483647 then
  (if first+(t.vars.length:Int)≤2147483648 then er=0∧m=first+(t.vars.length:Int)∧u=Tm.fromT t first else er=3∧m=0∧u=Tm.V 0)
 else er=1∧m=0∧u=Tm.V 0
theorem varE (n:Int) (hn:I64 n) (w:World):Calls Try.prog 62 #[.int .i64 n] w fun e w'=>e = .returned (.agg #[.int .i64 0,.int .i64 n,.string ByteArray.empty,.slice none 0 0])∧Turned zN w w':=
 (varV n hn w).mono fun e w' ⟨h1,_,h3⟩=>⟨h1,h3⟩
theorem vtIn {p:Nat→Prop} {W:World}:(leaf 0 0 ByteArray.empty).In p W:=leafIn' (i64_lit _ (by omega)) (i64_lit _ (by omega)) (by unfold maxLen;decide)
theorem good_slim {α:Type} {t:Tm α} (h:goodB t=true):slim t:=by
 unfold goodB at h;simp only [Qd,decide_eq_true_eq,Qt] at h;intro x hx;have:=h.2.2 x hx;unfold goodOneB at this
 split at this
 · simp only [Qd,decide_eq_true_eq] at this;omega
 · split at this
   · simp only [Qd,decide_eq_true_eq] at this;omega
   · split at this
     · simp only [Qd,decide_eq_true_eq] at this;omega
     · cases this
theorem fromR_good {t u:Tm Unit} {m er:Int} (hg:goodB t=true) (h:FromR t 0 u m er):er=0∧m=(t.vars.length:Int)∧u=Tm.plainT t:=by
 have hle:=varsB_le t;unfold varsB at hle;rw [if_pos hg] at hle;unfold FromR at h;rw [if_pos ⟨hg,by omega,by omega⟩,if_pos (by omega)] at h;exact ⟨h.1,by rw [h.2.1];omega,h.2.2⟩
theorem fromR_bad {t u:Tm Unit} {first m er:Int} (hg:goodB t=false) (h:FromR t first u m er):er=1∧m=0∧u=Tm.V 0:=by
 unfold FromR at h;rw [if_neg (by rw [hg];simp)] at h;exact h
theorem plain_good {t:Tm Unit} (hg:goodB t=true):goodB (Tm.plainT t)=true:=by
 have hle:=varsB_le t;unfold varsB at hle;rw [if_pos hg] at hle;exact goodB_fromT hg (by omega) (by omega)
theorem same_bares {α β:Type} (a:Tm α) (b:Tm β):Tm.same a b=Tm.same a.bare b.bare:=by
 rw [Bool.eq_iff_iff,Tm.same_iff,Tm.same_iff,Tm.bare_unit,Tm.bare_unit]
def alikeB {α β:Type} (a:Tm α) (b:Tm β):Bool:=goodB a && (goodB b && Tm.same (Tm.plainT a.bare) (Tm.plainT b.bare))
end Go.Proofs.Ytoihjobdfjajfaa
namespace Go.Proofs.Ytoihjobdfjajfaa
namespace Tm
theorem numsIn_V {i v:Int}:numsIn (V i) v↔v=i:=by
 unfold numsIn V;constructor
 · rintro ⟨x,hx,_,rfl⟩
   simp only [flat,flats,Qw,Ql,or_false] at hx;subst hx;rfl
 · rintro rfl
   exact ⟨_,by simp only [flat,flats];exact Qe ..,rfl,rfl⟩
theorem flat_V (i:Int):(V i).flat=[V i]:=by unfold V;simp only [flat,flats]
theorem leafy_V (i:Int):leafy (V i):=by
 intro x hx hk;rw [flat_V] at hx;simp only [Qw,Ql,or_false] at hx;subst hx;rfl
theorem leafy_self {t:Tm Unit} (h:leafy t) (hk:t.kind=0):t=V t.n:=h t (by rw [flat_eq];exact Qe ..) hk
theorem numsIn_mk {k n:Int} {s:ByteArray} {e:Unit} {aa:List (Tm Unit)} {v:Int} (hk:¬ k=0):numsIn (.mk k n s e aa) v↔∃ x∈flats aa,x.kind=0∧x.n=v:=by
 unfold numsIn;constructor
 · rintro ⟨x,hx,h1,h2⟩
   rw [flat_eq] at hx
   rcases Qw.1 hx with rfl | hx
   · exact absurd h1 hk
   · exact ⟨x,hx,h1,h2⟩
 · rintro ⟨x,hx,h1,h2⟩
   exact ⟨x,by rw [flat_eq];exact Qb _ hx,h1,h2⟩
mutual
theorem numsIn_subT {σ:Int→Tm Unit} {v:Int}:∀ t:Tm Unit,leafy t→(numsIn (subT σ t) v↔∃ u,numsIn t u∧numsIn (σ u) v)
 | .mk k n s e aa,h=>by
  by_cases hk:k=0
  · have:=leafy_self h hk
    rw [this];simp only [Tm.n,V,subT,if_pos];constructor
    · intro hv;exact ⟨n,numsIn_V.2 rfl,hv⟩
    · rintro ⟨u,hu,hv⟩
      have:=numsIn_V.1 hu;subst this;exact hv
  · simp only [subT,if_neg hk]
    rw [numsIn_mk hk,numsIn_subTs aa (fun x hx=>h x (by rw [flat_eq];exact Qb _ hx))];constructor
    · rintro ⟨u,hu,hv⟩;exact ⟨u,(numsIn_mk hk).2 hu,hv⟩
    · rintro ⟨u,hu,hv⟩;exact ⟨u,(numsIn_mk hk).1 hu,hv⟩
theorem numsIn_subTs {σ:Int→Tm Unit} {v:Int}:∀ l:List (Tm Unit),(∀ x∈flats l,x.kind=0→x=V x.n)→((∃ x∈flats (subTs σ l),x.kind=0∧x.n=v)↔∃ u,(∃ x∈flats l,x.kind=0∧x.n=u)∧numsIn (σ u) v)
 | [],_=>by simp [flats,subTs]
 | y :: l,h=>by
  have h1:=numsIn_subT (σ:=σ) (v:=v) y (fun x hx=>h x (by simp only [flats];exact Qc _ hx));have h2:=numsIn_subTs (σ:=σ) (v:=v) l (fun x hx=>h x (by simp only [flats];exact Qj _ hx));unfold numsIn at h1;simp only [subTs,flats,Qn];constructor
  · rintro ⟨x,hx | hx,hk,hn⟩
    · obtain ⟨u,⟨z,hz,h3,h4⟩,hv⟩:=h1.1 ⟨x,hx,hk,hn⟩
      exact ⟨u,⟨z,.inl hz,h3,h4⟩,hv⟩
    · obtain ⟨u,⟨z,hz,h3,h4⟩,hv⟩:=h2.1 ⟨x,hx,hk,hn⟩
      exact ⟨u,⟨z,.inr hz,h3,h4⟩,hv⟩
  · rintro ⟨u,⟨z,hz | hz,h3,h4⟩,hv⟩
    · obtain ⟨x,hx,hk,hn⟩:=h1.2 ⟨u,⟨z,hz,h3,h4⟩,hv⟩
      exact ⟨x,.inl hx,hk,hn⟩
    · obtain ⟨x,hx,hk,hn⟩:=h2.2 ⟨u,⟨z,hz,h3,h4⟩,hv⟩
      exact ⟨x,.inr hx,hk,hn⟩
end
def allN (P:Tm Unit→Prop) (t:Tm Unit):Prop:=∀ x∈t.flat,P x
mutual
theorem allN_subT {P:Tm Unit→Prop} {σ:Int→Tm Unit} (hP:∀ k n s aa bb,P (.mk k n s () aa)→aa.length=bb.length→¬ k=0→P (.mk k n s () bb)):∀ t:Tm Unit,allN P t→(∀ u,numsIn t u→allN P (σ u))→allN P (subT σ t)
 | .mk k n s e aa,h,hσ=>by
  by_cases hk:k=0
  · simp only [subT,if_pos hk]
    exact hσ n ⟨.mk k n s e aa,by rw [flat_eq];exact Qe ..,hk,rfl⟩
  · simp only [subT,if_neg hk]
    intro x hx;rw [flat_eq] at hx
    rcases Qw.1 hx with rfl | hx
    · exact hP k n s aa _ (h _ (by rw [flat_eq];exact Qe ..)) (by rw [subTs_eq,Qu]) hk
    · exact allN_subTs hP aa (fun x hx=>h x (by rw [flat_eq];exact Qb _ hx)) (fun u hu=>hσ u ((numsIn_mk hk).2 hu)) x hx
theorem allN_subTs {P:Tm Unit→Prop} {σ:Int→Tm Unit} (hP:∀ k n s aa bb,P (.mk k n s () aa)→aa.length=bb.length→¬ k=0→P (.mk k n s () bb)):∀ l:List (Tm Unit),(∀ x∈flats l,P x)→(∀ u,(∃ x∈flats l,x.kind=0∧x.n=u)→allN P (σ u))→∀ x∈flats (subTs σ l),P x
 | [],_,_=>by simp [flats,subTs]
 | y :: l,h,hσ=>by
  intro x hx;simp only [subTs,flats,Qn] at hx
  rcases hx with hx | hx
  · exact allN_subT hP y (fun x hx=>h x (by simp only [flats];exact Qc _ hx)) (fun u ⟨z,hz,h3⟩=>hσ u ⟨z,by simp only [flats];exact Qc _ hz,h3⟩) x hx
  · exact allN_subTs hP l (fun x hx=>h x (by simp only [flats];exact Qj _ hx)) (fun u ⟨z,hz,h3⟩=>hσ u ⟨z,by simp only [flats];exact Qj _ hz,h3⟩) x hx
end
theorem leafy_subT {σ:Int→Tm Unit} {t:Tm Unit} (h:leafy t) (hσ:∀ u,numsIn t u→leafy (σ u)):leafy (subT σ t):=
 allN_subT (P:=fun x=>x.kind=0→x=V x.n) (fun k n s aa bb _ _ hk h=>absurd h hk) t h hσ
def put (n:Int) (x:Tm Unit):Int→Tm Unit:=fun i=>if i=n then x else V i
theorem put_self (n:Int) (x:Tm Unit):put n x n=x:=by unfold put;rw [if_pos rfl]
theorem put_ne {n i:Int} (x:Tm Unit) (h:¬ i=n):put n x i=V i:=by unfold put;rw [if_neg h]
abbrev Trail:=List (Int × Tm Unit)
def sig:Trail→Int→Tm Unit
 | []=>V
 | b :: l=>fun i=>subT (put b.1 (subT (sig l) b.2)) (sig l i)
def img (l:Trail) (t:Tm Unit):Tm Unit:=subT (sig l) t
def dom (l:Trail):List Int:=l.map (·.1)
def look:Trail→Int→Option (Tm Unit)
 | [],_=>none
 | b :: l,n=>if b.1=n then some b.2 else look l n
def okT (m:Nat):Trail→Prop
 | []=>True
 | b :: l=>okT m l∧0≤b.1∧b.1 < m∧b.1∉dom l∧goodB b.2=true∧(∀ v,numsIn b.2 v→v < (m:Int))∧¬ numsIn (img l b.2) b.1
theorem okT.more {m m':Nat} (h:m≤m'):∀ {l:Trail},okT m l→okT m' l
 | [],_=>trivial
 | b :: l,⟨h1,h2,h3,h4,h5,h6,h7⟩=>⟨okT.more h h1,h2,by omega,h4,h5,fun v hv=>by have:=h6 v hv;omega,h7⟩
theorem look_none {l:Trail} {n:Int}:look l n=none↔n∉dom l:=by
 induction l with
 | nil=>simp [look,dom]
 | cons b l ih=>
  simp only [look,dom,Qx,Qw,not_or]
  by_cases h:b.1=n
  · rw [if_pos h];simp [h]
  · rw [if_neg h]
    rw [ih]
    have h':¬ n=b.1:=fun e=>h e.symm
    unfold dom;exact ⟨fun c=>⟨h',c⟩,fun c=>c.2⟩
theorem look_mem {l:Trail} {n:Int} {t:Tm Unit} (h:look l n=some t):(n,t)∈l:=by
 induction l with
 | nil=>simp [look] at h
 | cons b l ih=>
  simp only [look] at h
  split at h
  · rename_i e;injection h with h;subst e h;exact Qe ..
  · exact Qb _ (ih h)
theorem okT_mem {m:Nat} {l:Trail} (h:okT m l) {b:Int × Tm Unit} (hb:b∈l):0≤b.1∧b.1 < m∧goodB b.2=true∧∀ v,numsIn b.2 v→v < (m:Int):=by
 induction l with
 | nil=>cases hb
 | cons c l ih=>
  obtain ⟨h1,h2,h3,h4,h5,h6,h7⟩:=h
  rcases Qw.1 hb with rfl | hb
  · exact ⟨h2,h3,h5,h6⟩
  · exact ih h1 hb
theorem sig_free {m:Nat} {l:Trail} (h:okT m l) {i:Int} (hi:i∉dom l):sig l i=V i:=by
 induction l with
 | nil=>rfl
 | cons b l ih=>
  simp only [dom,Qx,Qw,not_or] at hi;simp only [sig];rw [ih h.1 hi.2];simp only [V,subT,if_pos];exact put_ne _ hi.1
theorem sig_leafy {m:Nat} {l:Trail} (h:okT m l) (i:Int):leafy (sig l i):=by
 induction l generalizing i with
 | nil=>exact leafy_V i
 | cons b l ih=>
  simp only [sig];refine leafy_subT (ih h.1 i) (fun u _=>?_);unfold put
  split
  · exact leafy_subT (good_leafy h.2.2.2.2.1) (fun u _=>ih h.1 u)
  · exact leafy_V u
theorem img_leafy {m:Nat} {l:Trail} (h:okT m l) {t:Tm Unit} (ht:leafy t):leafy (img l t):=leafy_subT ht (fun u _=>sig_leafy h u)
theorem sig_nums {m:Nat} {l:Trail} (h:okT m l) {i v:Int} (hv:numsIn (sig l i) v):v∉dom l:=by
 induction l generalizing i v with
 | nil=>simp [dom]
 | cons b l ih=>
  simp only [sig] at hv;obtain ⟨u,hu,hv⟩:=(numsIn_subT _ (sig_leafy h.1 i)).1 hv;have h1:=ih h.1 hu;unfold put at hv;simp only [dom,Qx,Qw,not_or]
  split at hv
  · obtain ⟨z,_,hz⟩:=(numsIn_subT _ (good_leafy h.2.2.2.2.1)).1 hv
    exact ⟨fun e=>h.2.2.2.2.2.2 (by rw [←e];exact hv),ih h.1 hz⟩
  · rename_i hne
    have:=numsIn_V.1 hv;subst this;exact ⟨hne,h1⟩
theorem img_nums {m:Nat} {l:Trail} (h:okT m l) {t:Tm Unit} (ht:leafy t) {v:Int} (hv:numsIn (img l t) v):v∉dom l:=by
 obtain ⟨u,_,hu⟩:=(numsIn_subT t ht).1 hv;exact sig_nums h hu
theorem img_same {m:Nat} {l:Trail} (h:okT m l) {t:Tm Unit} (ht:leafy t) (hv:∀ v,numsIn t v→v∉dom l):img l t=t:=by
 unfold img;rw [subT_congr (τ:=V) t (fun x hx hk=>sig_free h (hv _ ⟨x,hx,hk,rfl⟩)),subT_V t ht]
theorem img_img {m:Nat} {l:Trail} (h:okT m l) {t:Tm Unit} (ht:leafy t):img l (img l t)=img l t:=
 img_same h (img_leafy h ht) (fun v hv=>img_nums h ht hv)
theorem img_cons {m:Nat} {b:Int × Tm Unit} {l:Trail} (t:Tm Unit):img (b :: l) t=subT (put b.1 (img l b.2)) (img l t):=by
 unfold img;rw [subT_subT];rfl
theorem put_none {n:Int} {x t:Tm Unit} (ht:leafy t) (h:¬ numsIn t n):subT (put n x) t=t:=by
 rw [subT_congr (τ:=V) t (fun y hy hk=>put_ne _ (fun e=>h ⟨y,hy,hk,e⟩)),subT_V t ht]
theorem sig_look {m:Nat} {l:Trail} (h:okT m l) {i:Int} {t:Tm Unit} (hi:look l i=some t):sig l i=img l t:=by
 induction l generalizing i t with
 | nil=>simp [look] at hi
 | cons b l ih=>
  have hg:=good_leafy h.2.2.2.2.1;rw [img_cons (m:=m)];simp only [look] at hi;simp only [sig]
  split at hi
  · rename_i e
    injection hi with hi
    subst hi;rw [sig_free h.1 (by rw [←e];exact h.2.2.2.1),put_none (img_leafy h.1 hg) h.2.2.2.2.2.2];simp only [V,subT,if_pos];rw [←e,put_self];rfl
  · rw [ih h.1 hi]
    rfl
theorem img_V (l:Trail) (i:Int):img l (V i)=sig l i:=by unfold img V;simp only [subT,if_pos]
theorem img_mk {k n:Int} {s:ByteArray} {e:Unit} {aa:List (Tm Unit)} (l:Trail) (hk:¬ k=0):img l (.mk k n s e aa) = .mk k n s () (aa.map (img l)):=by
 unfold img;simp only [subT,if_neg hk,subTs_eq]
theorem img_goodOne {m:Nat} {l:Trail} (h:okT m l) {t:Tm Unit} (ht:∀ x∈t.flat,goodOneB x=true):∀ x∈(img l t).flat,goodOneB x=true:=by
 have hP:∀ k n s (aa bb:List (Tm Unit)),goodOneB (.mk k n s () aa)=true→aa.length=bb.length→¬ k=0→goodOneB (.mk k n s () bb)=true:=by
  intro k n s aa bb h1 h2 h3;unfold goodOneB at h1 ⊢;simp only [kind,Tm.n,name,args] at h1 ⊢;simp only [h2] at h1;exact h1
 have hs:∀ (l:Trail),okT m l→∀ i,0≤i∧i < 2147483648→allN (fun x=>goodOneB x=true) (sig l i):=by
  intro l
  induction l with
  | nil=>
   intro _ i hi x hx;simp only [sig] at hx;rw [flat_V] at hx;simp only [Qw,Ql,or_false] at hx;subst hx;rw [goodOneB_0 _ rfl];simp only [V,Tm.n,name,args,List.length_nil,Qd,decide_eq_true_eq];refine ⟨decide_eq_true (show 0≤i by omega),decide_eq_true (show i≤2147483647 by omega),?_,?_⟩
   · first | rfl | (exact decide_eq_true rfl) | simp
   · first | rfl | trivial | simp
  | cons b l ih=>
   intro hok i hi;simp only [sig];refine allN_subT hP _ (ih hok.1 i hi) (fun u hu=>?_);have hgb:=hok.2.2.2.2.1
   have hones:∀ x∈b.2.flat,goodOneB x=true:=by
    unfold goodB at hgb;simp only [Qd,Qt] at hgb;exact hgb.2.2
   have hnum:∀ {t:Tm Unit},allN (fun x=>goodOneB x=true) t→∀ u,numsIn t u→0≤u∧u < 2147483648:=by
    rintro t ht u ⟨x,hx,hk,rfl⟩
    have:=ht x hx;simp only [goodOneB_0 x hk,Qd,decide_eq_true_eq] at this;omega
   unfold put
   split
   · exact allN_subT hP _ hones (fun u hu=>ih hok.1 u (hnum hones u hu))
   · have h1:=hnum (ih hok.1 i hi) u hu
     have:=ih hok.1 i hi;intro x hx;rw [flat_V] at hx;simp only [Qw,Ql,or_false] at hx;subst hx;rw [goodOneB_0 _ rfl];simp only [V,Tm.n,name,args,List.length_nil,Qd,decide_eq_true_eq];refine ⟨decide_eq_true (show 0≤u by omega),decide_eq_true (show u≤2147483647 by omega),?_,?_⟩
     · first | rfl | (exact decide_eq_true rfl) | simp
     · first | rfl | trivial | simp
 refine allN_subT hP t ht (fun u hu=>hs l h u ?_);obtain ⟨x,hx,hk,rfl⟩:=hu;have:=ht x hx;simp only [goodOneB_0 x hk,Qd,decide_eq_true_eq] at this;omega
theorem img_lt {m:Nat} {l:Trail} (h:okT m l) {t:Tm Unit} (ht:leafy t) (hv:∀ v,numsIn t v→v < (m:Int)):∀ v,numsIn (img l t) v→v < (m:Int):=by
 have hs:∀ (l:Trail),okT m l→∀ i,i < (m:Int)→∀ v,numsIn (sig l i) v→v < (m:Int):=by
  intro l
  induction l with
  | nil=>intro _ i hi v hv;have:=numsIn_V.1 hv;omega
  | cons b l ih=>
   intro hok i hi v hv;simp only [sig] at hv;obtain ⟨u,hu,hv⟩:=(numsIn_subT _ (sig_leafy hok.1 i)).1 hv;unfold put at hv
   split at hv
   · obtain ⟨z,hz,hv⟩:=(numsIn_subT _ (good_leafy hok.2.2.2.2.1)).1 hv
     exact ih hok.1 z (hok.2.2.2.2.2.1 z hz) v hv
   · have:=numsIn_V.1 hv
     subst this;exact ih hok.1 i hi _ hu
 intro v hv';obtain ⟨u,hu,hv'⟩:=(numsIn_subT _ ht).1 hv';exact hs l h u (hv u hu) v hv'
def total (f:Int→Nat) (l:List Int):Nat:=(l.map f).sum
theorem total_mem {f:Int→Nat} {l:List Int} {v:Int} (h:v∈l):f v≤total f l:=by
 unfold total
 induction l with
 | nil=>cases h
 | cons a l ih=>
  simp only [Qx,List.sum_cons]
  rcases Qw.1 h with rfl | h
  · omega
  · have:=ih h;omega
open Classical in
noncomputable def rk:Trail→Int→Nat
 | [],_=>0
 | b :: l,i=>if numsIn (sig l i) b.1 then rk l i+total (rk l) b.2.vars+1 else rk l i
theorem rk_lt {m:Nat} {l:Trail} (h:okT m l) {i v:Int} {t:Tm Unit} (hi:look l i=some t) (hv:numsIn t v):rk l v < rk l i:=by
 induction l generalizing i t v with
 | nil=>simp [look] at hi
 | cons b l ih=>
  have hg:=good_leafy h.2.2.2.2.1;simp only [look] at hi;simp only [rk]
  split at hi
  · rename_i e
    injection hi with hi
    subst hi
    have h0:¬ numsIn (sig l v) b.1:=fun c=>h.2.2.2.2.2.2 ((numsIn_subT _ hg).2 ⟨v,hv,c⟩)
    rw [if_neg h0,if_pos]
    · have:=total_mem (f:=rk l) ((vars_mem v).2 hv)
      omega
    · rw [←e,sig_free h.1 h.2.2.2.1]
      exact numsIn_V.2 rfl
  · have h1:=ih h.1 hi hv
    have hl:leafy t:=by
     have:=okT_mem h.1 (look_mem hi);exact good_leafy this.2.2.1
    by_cases hc:numsIn (sig l v) b.1
    · rw [if_pos hc,if_pos]
      · omega
      · rw [sig_look h.1 hi]
        exact (numsIn_subT _ hl).2 ⟨v,hv,hc⟩
    · rw [if_neg hc]
      split <;> omega
end Tm
namespace Tm
def lower (l:Trail) (y:Tm Unit) (h:Int):Prop:=∀ v,numsIn y v→rk l v < rk l h
structure Seek (l:Trail) (n:Int) (t:Tm Unit) (todo:List (Tm Unit)) (had:List Int):Prop where
 leafy:∀ y∈todo,leafy y
 sound:∀ y∈todo,numsIn (img l y) n→numsIn (img l t) n
 met:∀ h∈had,numsIn (sig l h) n→∃ y∈todo,numsIn (img l y) n∧lower l y h
 whole:numsIn (img l t) n→∃ y∈todo,numsIn (img l y) n
theorem Seek.start {l:Trail} {n:Int} {t:Tm Unit} (ht:Tm.leafy t):Seek l n t [t] []:=
 ⟨fun y hy=>by rw [List.mem_singleton] at hy;rw [hy];exact ht,fun y hy h=>by rw [List.mem_singleton] at hy;rwa [←hy],fun h hh=>(by cases hh),fun h=>⟨t,List.mem_singleton.2 rfl,h⟩⟩
theorem Seek.stop {l:Trail} {n:Int} {t:Tm Unit} {had:List Int} (h:Seek l n t [] had):¬ numsIn (img l t) n:=fun c=>by
 obtain ⟨y,hy,_⟩:=h.whole c
 cases hy
theorem mem_flats_iff {α:Type} {l:List (Tm α)} {x:Tm α}:x∈flats l↔∃ y∈l,x∈y.flat:=by
 induction l with
 | nil=>simp [flats]
 | cons z l ih=>
  simp only [flats,Qn,ih,Qw];constructor
  · rintro (h | ⟨y,hy,h⟩)
    · exact ⟨z,.inl rfl,h⟩
    · exact ⟨y,.inr hy,h⟩
  · rintro ⟨y,rfl | hy,h⟩
    · exact .inl h
    · exact .inr ⟨y,hy,h⟩
theorem numsIn_args {y:Tm Unit} (hk:¬ y.kind=0) {v:Int}:numsIn y v↔∃ a∈y.args,numsIn a v:=by
 cases y with | mk k n s e aa=>
 rw [numsIn_mk (by exact hk)];simp only [mem_flats_iff,args];unfold numsIn;constructor
 · rintro ⟨x,⟨a,ha,hx⟩,h1,h2⟩;exact ⟨a,ha,x,hx,h1,h2⟩
 · rintro ⟨a,ha,x,hx,h1,h2⟩;exact ⟨x,⟨a,ha,hx⟩,h1,h2⟩
theorem img_args {l:Trail} {y:Tm Unit} (hk:¬ y.kind=0):img l y = .mk y.kind y.n y.name () (y.args.map (img l)):=by
 cases y with | mk k n s e aa=>exact img_mk l hk
theorem leafy_arg {y:Tm Unit} (h:Tm.leafy y):∀ a∈y.args,Tm.leafy a:=by
 cases y with | mk k n s e aa=>exact leafy_args h
theorem Seek.args {l:Trail} {n:Int} {t y:Tm Unit} {todo:List (Tm Unit)} {had:List Int} (h:Seek l n t (todo++[y]) had) (hk:¬ y.kind=0):Seek l n t (todo++y.args) had:=by
 have hi:numsIn (img l y) n↔∃ a∈y.args,numsIn (img l a) n:=by
  rw [img_args hk,numsIn_args (by exact hk)];simp only [Tm.args,List.mem_map];constructor
  · rintro ⟨_,⟨a,ha,rfl⟩,h⟩;exact ⟨a,ha,h⟩
  · rintro ⟨a,ha,h⟩;exact ⟨_,⟨a,ha,rfl⟩,h⟩
 have hy:y∈todo++[y]:=by simp
 refine ⟨fun x hx=>?_,fun x hx hn=>?_,fun m hm hn=>?_,fun hn=>?_⟩
 · rcases Qn.1 hx with hx | hx
   · exact h.leafy x (Qc _ hx)
   · exact leafy_arg (h.leafy y hy) x hx
 · rcases Qn.1 hx with hx | hx
   · exact h.sound x (Qc _ hx) hn
   · exact h.sound y hy (hi.2 ⟨x,hx,hn⟩)
 · obtain ⟨z,hz,h1,h2⟩:=h.met m hm hn
   rcases Qn.1 hz with hz | hz
   · exact ⟨z,Qc _ hz,h1,h2⟩
   · rw [List.mem_singleton] at hz
     subst hz;obtain ⟨a,ha,h3⟩:=hi.1 h1;exact ⟨a,Qj _ ha,h3,fun v hv=>h2 v ((numsIn_args hk).2 ⟨a,ha,hv⟩)⟩
 · obtain ⟨z,hz,h1⟩:=h.whole hn
   rcases Qn.1 hz with hz | hz
   · exact ⟨z,Qc _ hz,h1⟩
   · rw [List.mem_singleton] at hz
     subst hz;obtain ⟨a,ha,h3⟩:=hi.1 h1;exact ⟨a,Qj _ ha,h3⟩
theorem Seek.skip {l:Trail} {n k:Int} {t:Tm Unit} {todo:List (Tm Unit)} {had:List Int} (h:Seek l n t (todo++[V k]) had) (hk:k∈had):Seek l n t todo had:=by
 have hR:numsIn (img l (V k)) n→∃ y∈todo,numsIn (img l y) n∧lower l y k:=by
  intro hr;rw [img_V] at hr;obtain ⟨z,hz,h1,h2⟩:=h.met k hk hr
  rcases Qn.1 hz with hz | hz
  · exact ⟨z,hz,h1,h2⟩
  · rw [List.mem_singleton] at hz
    subst hz;have:=h2 k (numsIn_V.2 rfl);omega
 refine ⟨fun x hx=>h.leafy x (Qc _ hx),fun x hx hn=>h.sound x (Qc _ hx) hn,fun m hm hn=>?_,fun hn=>?_⟩
 · obtain ⟨z,hz,h1,h2⟩:=h.met m hm hn
   rcases Qn.1 hz with hz | hz
   · exact ⟨z,hz,h1,h2⟩
   · rw [List.mem_singleton] at hz
     subst hz;obtain ⟨z',hz',h3,h4⟩:=hR h1;have:=h2 k (numsIn_V.2 rfl);exact ⟨z',hz',h3,fun v hv=>by have:=h4 v hv;omega⟩
 · obtain ⟨z,hz,h1⟩:=h.whole hn
   rcases Qn.1 hz with hz | hz
   · exact ⟨z,hz,h1⟩
   · rw [List.mem_singleton] at hz
     subst hz;obtain ⟨z',hz',h3,_⟩:=hR h1;exact ⟨z',hz',h3⟩
theorem Seek.found {m:Nat} {l:Trail} {n:Int} {t:Tm Unit} {todo:List (Tm Unit)} {had:List Int} (hl:okT m l) (h:Seek l n t (todo++[V n]) had) (hn:n∉dom l):numsIn (img l t) n:=
 h.sound (V n) (by simp) (by rw [img_V,sig_free hl hn];exact numsIn_V.2 rfl)
theorem Seek.free {m:Nat} {l:Trail} {n k:Int} {t:Tm Unit} {todo:List (Tm Unit)} {had:List Int} (hl:okT m l) (h:Seek l n t (todo++[V k]) had) (hk:look l k=none) (hne:¬ k=n):Seek l n t todo (k :: had):=by
 have hR:¬ numsIn (img l (V k)) n:=by
  rw [img_V,sig_free hl (look_none.1 hk),numsIn_V]
  exact fun e=>hne e.symm
 have hR':¬ numsIn (sig l k) n:=by rwa [img_V] at hR
 have hf:∀ P:Tm Unit→Prop,(∃ y∈todo++[V k],numsIn (img l y) n∧P y)→∃ y∈todo,numsIn (img l y) n∧P y:=by
  rintro P ⟨z,hz,h1,h2⟩
  rcases Qn.1 hz with hz | hz
  · exact ⟨z,hz,h1,h2⟩
  · rw [List.mem_singleton] at hz
    subst hz;exact absurd h1 hR
 refine ⟨fun x hx=>h.leafy x (Qc _ hx),fun x hx hn=>h.sound x (Qc _ hx) hn,fun m hm hn=>?_,fun hn=>?_⟩
 · rcases Qw.1 hm with rfl | hm
   · exact absurd hn hR'
   · exact hf _ (h.met m hm hn)
 · obtain ⟨z,hz,h1⟩:=h.whole hn
   obtain ⟨z',hz',h3,_⟩:=hf (fun _=>True) ⟨z,hz,h1,trivial⟩;exact ⟨z',hz',h3⟩
theorem Seek.bound {m:Nat} {l:Trail} {n k:Int} {t p:Tm Unit} {todo:List (Tm Unit)} {had:List Int} (hl:okT m l) (h:Seek l n t (todo++[V k]) had) (hk:look l k=some p):Seek l n t (todo++[p]) (k :: had):=by
 have hp:Tm.leafy p:=good_leafy (okT_mem hl (look_mem hk)).2.2.1
 have hR:numsIn (img l (V k)) n→numsIn (img l p) n:=by rw [img_V,sig_look hl hk];exact id
 have hR':numsIn (img l p) n→numsIn (img l (V k)) n:=by rw [img_V,sig_look hl hk];exact id
 have hbl:lower l p k:=fun v hv=>rk_lt hl hk hv
 refine ⟨fun x hx=>?_,fun x hx hn=>?_,fun m hm hn=>?_,fun hn=>?_⟩
 · rcases Qn.1 hx with hx | hx
   · exact h.leafy x (Qc _ hx)
   · rw [List.mem_singleton] at hx;rw [hx];exact hp
 · rcases Qn.1 hx with hx | hx
   · exact h.sound x (Qc _ hx) hn
   · rw [List.mem_singleton] at hx
     rw [hx] at hn;exact h.sound (V k) (by simp) (hR' hn)
 · rcases Qw.1 hm with rfl | hm
   · refine ⟨p,by simp,?_,hbl⟩
     rw [←sig_look hl hk];exact hn
   · obtain ⟨z,hz,h1,h2⟩:=h.met m hm hn
     rcases Qn.1 hz with hz | hz
     · exact ⟨z,Qc _ hz,h1,h2⟩
     · rw [List.mem_singleton] at hz
       subst hz;have:=h2 k (numsIn_V.2 rfl);exact ⟨p,by simp,hR h1,fun v hv=>by have:=hbl v hv;omega⟩
 · obtain ⟨z,hz,h1⟩:=h.whole hn
   rcases Qn.1 hz with hz | hz
   · exact ⟨z,Qc _ hz,h1⟩
   · rw [List.mem_singleton] at hz
     subst hz;exact ⟨p,by simp,hR h1⟩
def gasT:Trail→List Int→Nat
 | [],_=>0
 | b :: l,had=>(if b.1∈had then 0 else b.2.size)+gasT l had
theorem gasT_mono {l:Trail} {had:List Int} (k:Int):gasT l (k :: had)≤gasT l had:=by
 induction l with
 | nil=>exact Qm _
 | cons b l ih=>
  simp only [gasT]
  by_cases h:b.1∈had
  · rw [if_pos h,if_pos (Qb _ h)];omega
  · rw [if_neg h]
    split <;> omega
theorem gasT_met {l:Trail} {had:List Int} {k:Int} {p:Tm Unit} (h:look l k=some p) (hk:k∉had):gasT l (k :: had)+p.size≤gasT l had:=by
 induction l with
 | nil=>simp [look] at h
 | cons b l ih=>
  simp only [look] at h;simp only [gasT]
  split at h
  · rename_i e
    injection h with h
    subst h;rw [if_pos (by rw [e];exact Qe ..),if_neg (by rw [e];exact hk)];have:=gasT_mono (l:=l) (had:=had) k;omega
  · have:=ih h
    by_cases hb:b.1∈had
    · rw [if_pos hb,if_pos (Qb _ hb)];omega
    · rw [if_neg hb]
      split <;> omega
theorem gasT_le {m:Nat} {l:Trail} (h:okT m l) (had:List Int):gasT l had≤2000 * l.length:=by
 induction l with
 | nil=>exact Nat.zero_le _
 | cons b l ih=>
  have hg:=h.2.2.2.2.1;have h1:=ih h.1;unfold goodB at hg;simp only [Qd,decide_eq_true_eq] at hg;simp only [gasT,QB]
  split <;> omega
structure Walked (m:Nat) (l:Trail) (t x:Tm Unit):Prop where
 img:img l x=img l t
 free:x.kind=0→x.n∉dom l
 leafy:leafy x
 ones:∀ y∈x.flat,goodOneB y=true
 lt:(∀ v,numsIn t v→v < (m:Int))→∀ v,numsIn x v→v < (m:Int)
theorem Walked.self {m:Nat} {l:Trail} {t:Tm Unit} (ht:∀ y∈t.flat,goodOneB y=true) (h:t.kind=0→t.n∉dom l):Walked m l t t:=
 ⟨rfl,h,leafy_good ht,ht,fun h=>h⟩
theorem Walked.step {m:Nat} {l:Trail} {t p x:Tm Unit} (hl:okT m l) (ht:Tm.leafy t) (hk:t.kind=0) (hp:look l t.n=some p) (h:Walked m l p x):Walked m l t x:=
 ⟨by rw [h.img,leafy_self ht hk,img_V,sig_look hl hp],h.free,h.leafy,h.ones,fun _=>h.lt (okT_mem hl (look_mem hp)).2.2.2⟩
theorem Walked.var {m:Nat} {l:Trail} {t x:Tm Unit} (hl:okT m l) (h:Walked m l t x) (hk:x.kind=0):Tm.img l t=x:=by
 rw [←h.img,leafy_self h.leafy hk,img_V,sig_free hl (h.free hk)]
theorem Walked.flat {m:Nat} {l:Trail} {t x:Tm Unit} (hl:okT m l) (h:Walked m l t x) (ha:x.args=[]):Tm.img l t=x:=by
 by_cases hk:x.kind=0
 · exact h.var hl hk
 · rw [←h.img,img_args hk,ha]
   cases x with | mk k n s e aa=>
   simp only [args] at ha;subst ha;rfl
theorem one_args {α:Type} {x:Tm α} (h:goodOneB x=true) (ha:¬ x.args=[]):x.kind=2∧x.n=0∧x.args.length≤8:=by
 have hl:¬ x.args.length=0:=fun c=>ha (Qh c)
 by_cases h0:x.kind=0
 · rw [goodOneB_0 x h0] at h
   simp only [Qd,decide_eq_true_eq] at h;exact absurd h.2.2.2 hl
 · by_cases h1:x.kind=1
   · rw [goodOneB_1 x h1] at h
     simp only [Qd,decide_eq_true_eq] at h;exact absurd h.2 hl
   · by_cases h2:x.kind=2
     · rw [goodOneB_2 x h2] at h
       simp only [Qd,decide_eq_true_eq] at h;exact ⟨h2,h.1,h.2.2⟩
     · rw [goodOneB_3 x h0 h1 h2] at h
       cases h
theorem Walked.args {m:Nat} {l:Trail} {t x:Tm Unit} (h:Walked m l t x) (ha:¬ x.args=[]):Tm.img l t = .mk x.kind 0 x.name () (x.args.map (Tm.img l)):=by
 obtain ⟨h1,h2,_⟩:=one_args (h.ones x (by rw [flat_eq];exact Qe ..)) ha;rw [←h.img,img_args (by omega),h2]
def makeOk (s d:Nat) (u:Tm Unit):Bool:=decide (s+u.size≤2000) && decide (d+u.depth≤65)
theorem makeOk_iff {s d:Nat} {u:Tm Unit}:makeOk s d u=true↔s+u.size≤2000∧d+u.depth≤65:=by
 unfold makeOk;simp only [Qd,decide_eq_true_eq]
theorem depths_mem {α:Type} {l:List (Tm α)} {x:Tm α} (h:x∈l):x.depth≤depths l:=by
 induction l with
 | nil=>cases h
 | cons z l ih=>
  simp only [depths]
  rcases Qw.1 h with rfl | h
  · omega
  · have:=ih h;omega
theorem depths_le {α:Type} {l:List (Tm α)} {d:Nat} (h:∀ x∈l,x.depth≤d):depths l≤d:=by
 induction l with
 | nil=>exact Nat.zero_le _
 | cons z l ih=>
  simp only [depths];have:=h z (Qe ..);have:=ih (fun x hx=>h x (Qb _ hx));omega
theorem sizes_take {α:Type} {l:List (Tm α)} {i:Nat} {x:Tm α} (h:l[i]? = some x):sizes (l.take (i+1))=sizes (l.take i)+x.size:=by
 rw [List.take_add_one,h,sizes_append];simp only [Option.toList,sizes];omega
theorem sizes_take_le {α:Type} (l:List (Tm α)) (i:Nat):sizes (l.take i)≤sizes l:=by
 have:=sizes_append (l.take i) (l.drop i);rw [List.take_append_drop] at this;omega
theorem makeOk_no {s d i:Nat} {u x:Tm Unit} (h:u.args[i]? = some x) (hx:makeOk (s+1+sizes (u.args.take i)) (d+1) x=false):makeOk s d u=false:=by
 rw [Bool.eq_false_iff,ne_eq,makeOk_iff] at hx ⊢;intro c;apply hx;have h1:=sizes_take h;have h2:=sizes_take_le u.args (i+1);have h3:=depths_mem (Qf h);have h4:=size_eq u;have h5:=depth_eq u;omega
theorem makeOk_yes {s d:Nat} {u:Tm Unit} (h0:s+1≤2000) (h1:d≤64) (h2:s+1+sizes u.args≤2000) (h3:∀ x∈u.args,d+1+x.depth≤65):makeOk s d u=true:=by
 rw [makeOk_iff];have h4:=size_eq u;have h5:=depth_eq u;have h6:=depths_le (d:=64 - d) (l:=u.args) (fun x hx=>by have:=h3 x hx;omega);omega
def ownB {α:Type} (m:Nat) (t:Tm α):Bool:=goodB t && t.vars.all fun v=>decide (v < (m:Int))
theorem ownB_iff {m:Nat} {t:Tm Unit}:ownB m t=true↔goodB t=true∧∀ v,numsIn t v→v < (m:Int):=by
 unfold ownB;simp only [Qd,Qt,decide_eq_true_eq];constructor
 · rintro ⟨h1,h2⟩;exact ⟨h1,fun v hv=>h2 v ((vars_mem v).2 hv)⟩
 · rintro ⟨h1,h2⟩;exact ⟨h1,fun v hv=>h2 v ((vars_mem v).1 hv)⟩
theorem good_ones' {t:Tm Unit} (h:goodB t=true):∀ x∈t.flat,goodOneB x=true:=by
 unfold goodB at h;simp only [Qd,Qt] at h;exact h.2.2
def wholeB (l:Trail) (t:Tm Unit):Bool:=decide ((img l t).size≤2000) && decide ((img l t).depth≤64)
theorem makeOk_whole (l:Trail) (t:Tm Unit):makeOk 0 1 (img l t)=wholeB l t:=by
 unfold makeOk wholeB;rw [Nat.zero_add];congr 1;rw [decide_eq_decide];omega
theorem whole_good {m:Nat} {l:Trail} {t:Tm Unit} (hl:okT m l) (ht:ownB m t=true) (hw:wholeB l t=true):ownB m (img l t)=true:=by
 obtain ⟨h1,h2⟩:=ownB_iff.1 ht;refine ownB_iff.2 ⟨?_,img_lt hl (good_leafy h1) h2⟩;unfold wholeB at hw;unfold goodB;simp only [Qd,decide_eq_true_eq,Qt] at hw ⊢;exact ⟨hw.1,hw.2,img_goodOne hl (good_ones' h1)⟩
theorem whole_whole {m:Nat} {l:Trail} {t:Tm Unit} (hl:okT m l) (ht:ownB m t=true) (hw:wholeB l t=true):img l (img l t)=img l t∧wholeB l (img l t)=true:=by
 have h:=img_img hl (good_leafy (ownB_iff.1 ht).1);exact ⟨h,by unfold wholeB at hw ⊢;rw [h];exact hw⟩
end Tm
namespace Tm
section
variable {α:Type}
def reg (l:List (Tm α)):Nat→List (Tm α)
 | 0=>l
 | i+1=>match (reg l i)[i]? with
  | none=>reg l i
  | some x=>reg l i++x.args
theorem reg_next {l:List (Tm α)} {i:Nat} {x:Tm α} (h:(reg l i)[i]? = some x):reg l (i+1)=reg l i++x.args:=by
 simp only [reg,h]
theorem reg_pre (l:List (Tm α)) (i:Nat):∀ j,∃ r,reg l (i+j)=reg l i++r:=by
 intro j
 induction j with
 | zero=>exact ⟨[],(List.append_nil _).symm⟩
 | succ j ih=>
  obtain ⟨r,hr⟩:=ih
  cases hx:(reg l (i+j))[i+j]? with
  | none=>exact ⟨r,by rw [←Nat.add_assoc];simp only [reg,hx];exact hr⟩
  | some x=>exact ⟨r++x.args,by rw [←Nat.add_assoc,reg_next hx,hr,List.append_assoc]⟩
theorem reg_le (l:List (Tm α)) {i j:Nat} (h:i≤j):(reg l i).length≤(reg l j).length:=by
 obtain ⟨r,hr⟩:=reg_pre l i (j - i);rw [show i+(j - i)=j by omega] at hr;rw [hr,Qi];omega
theorem reg_at {l:List (Tm α)} {i j k:Nat} (h:i≤j) (hk:k < (reg l i).length):(reg l j)[k]? = (reg l i)[k]?:=by
 obtain ⟨r,hr⟩:=reg_pre l i (j - i);rw [show i+(j - i)=j by omega] at hr;rw [hr,List.getElem?_append_left hk]
theorem reg_sizes (l:List (Tm α)):∀ i,i≤sizes l→i≤(reg l i).length∧i+sizes ((reg l i).drop i)=sizes l:=by
 intro i
 induction i with
 | zero=>intro _;exact ⟨Nat.zero_le _,by simp [reg]⟩
 | succ i ih=>
  intro hi;obtain ⟨h1,h2⟩:=ih (by omega)
  have hlt:i < (reg l i).length:=by
   rcases Nat.lt_or_ge i (reg l i).length with h | h
   · exact h
   · rw [List.drop_eq_nil_of_le h] at h2;simp only [sizes] at h2;omega
  have hx:(reg l i)[i]? = some (reg l i)[i]:=Qa hlt;rw [reg_next hx];refine ⟨by rw [Qi];omega,?_⟩;rw [List.drop_eq_getElem_cons hlt] at h2;rw [List.drop_append_of_le_length (by omega),sizes_append];simp only [sizes] at h2;rw [size_eq] at h2;omega
theorem reg_lt {l:List (Tm α)} {i:Nat} (h:i < sizes l):i < (reg l i).length:=by
 obtain ⟨h1,h2⟩:=reg_sizes l i (by omega)
 rcases Nat.lt_or_ge i (reg l i).length with h' | h'
 · exact h'
 · rw [List.drop_eq_nil_of_le h'] at h2;simp only [sizes] at h2;omega
def regs (l:List (Tm α)):List (Tm α):=reg l (sizes l)
theorem sizes_nil {l:List (Tm α)} (h:sizes l=0):l=[]:=by
 cases l with
 | nil=>rfl
 | cons x l=>simp only [sizes] at h;have:=size_pos x;omega
theorem regs_length (l:List (Tm α)):(regs l).length=sizes l:=by
 obtain ⟨h1,h2⟩:=reg_sizes l (sizes l) (Qm _);have:=sizes_nil (l:=(reg l (sizes l)).drop (sizes l)) (by omega);have h3:=List.drop_eq_nil_iff.1 this;unfold regs;omega
theorem reg_regs {l:List (Tm α)} {i k:Nat} (hi:i≤sizes l) (hk:k < (reg l i).length):(regs l)[k]? = (reg l i)[k]?:=reg_at hi hk
def cb (l:List (Tm α)) (i:Nat):Nat:=(reg l i).length
theorem cb_zero (l:List (Tm α)):cb l 0=l.length:=rfl
theorem cb_end (l:List (Tm α)):cb l (sizes l)=sizes l:=regs_length l
theorem regs_some {l:List (Tm α)} {i:Nat} (h:i < sizes l):∃ x,(regs l)[i]? = some x∧(reg l i)[i]? = some x∧reg l (i+1)=reg l i++x.args:=by
 have hl:=reg_lt h;have hx:(reg l i)[i]? = some (reg l i)[i]:=Qa hl;exact ⟨_,(reg_regs (by omega) hl).trans hx,hx,reg_next hx⟩
theorem cb_next {l:List (Tm α)} {i:Nat} {x:Tm α} (h:(regs l)[i]? = some x):cb l (i+1)=cb l i+x.args.length∧i < cb l i∧cb l i+x.args.length≤sizes l∧∀ j,j < x.args.length→(regs l)[cb l i+j]? = x.args[j]?:=by
 have hi:i < sizes l:=by have:=(Qg.1 h).1;rw [regs_length] at this;exact this
 obtain ⟨y,h1,h2,h3⟩:=regs_some hi
 rw [h1] at h;injection h with h;subst h
 unfold cb;have hle:=reg_le l (show i+1≤sizes l by omega)
 have hl:(reg l (i+1)).length=(reg l i).length+y.args.length:=by rw [h3,Qi]
 have hr:=regs_length l;unfold regs at hr;refine ⟨hl,reg_lt hi,by omega,fun j hj=>?_⟩;rw [reg_regs (i:=i+1) (by omega) (by omega),h3,List.getElem?_append_right (by omega)];congr 1;omega
theorem regs_zero {l:List (Tm α)} {j:Nat} (h:j < l.length):(regs l)[j]? = l[j]?:=reg_regs (i:=0) (Nat.zero_le _) h
theorem reg_perm (l:List (Tm α)):∀ i,i≤sizes l→((reg l i).take i++flats ((reg l i).drop i)).Perm (flats l):=by
 intro i
 induction i with
 | zero=>intro _;simp [reg]
 | succ i ih=>
  intro hi;have h:=ih (by omega);have hlt:=reg_lt (show i < sizes l by omega);have hx:(reg l i)[i]? = some (reg l i)[i]:=Qa hlt;rw [reg_next hx];refine List.Perm.trans ?_ h;rw [List.take_append_of_le_length (by omega),List.drop_append_of_le_length (by omega),List.take_succ_eq_append_getElem hlt,List.drop_eq_getElem_cons hlt,flats_append];simp only [flats];rw [flat_eq];generalize (reg l i)[i]=x;simp only [List.append_assoc,List.cons_append,List.nil_append];refine List.Perm.append_left _ (List.Perm.cons _ List.perm_append_comm)
theorem regs_perm (l:List (Tm α)):(regs l).Perm (flats l):=by
 have h:=reg_perm l (sizes l) (Qm _);have hl:=regs_length l;unfold regs at hl ⊢;rw [List.take_of_length_le (by omega),List.drop_eq_nil_of_le (by omega)] at h;simpa [flats] using h
theorem regs_flats {l:List (Tm α)}:∀ x∈regs l,x∈flats l:=fun x hx=>(regs_perm l).mem_iff.1 hx
end
theorem kind_mk {α:Type} (k n:Int) (s:ByteArray) (e:α) (aa:List (Tm α)):(Tm.mk k n s e aa).kind=k:=rfl
theorem n_mk {α:Type} (k n:Int) (s:ByteArray) (e:α) (aa:List (Tm α)):(Tm.mk k n s e aa).n=n:=rfl
theorem name_mk {α:Type} (k n:Int) (s:ByteArray) (e:α) (aa:List (Tm α)):(Tm.mk k n s e aa).name=s:=rfl
theorem args_mk {α:Type} (k n:Int) (s:ByteArray) (e:α) (aa:List (Tm α)):(Tm.mk k n s e aa).args=aa:=rfl
def sVar:ByteArray:=⟨#[118,97,114]⟩
def sVal:ByteArray:=⟨#[118,97,108]⟩
def sInt:ByteArray:=⟨#[105,110,116]⟩
def sAtom:ByteArray:=⟨#[97,116,111,109]⟩
def sComp:ByteArray:=⟨#[99,111,109,112]⟩
structure Stp where
 op:ByteArray
 a:Int
 b:Int
 c:Int
 n:Int
 name:ByteArray
section
variable {α:Type}
def met (l:List (Tm α)) (i:Nat):List Int:=((regs l).take i).foldl addVar []
def stepX (vs:List Int) (l:List (Tm α)) (i:Nat) (x:Tm α):Stp:=
 if x.kind=0 then ⟨if x.n∈met l i then sVal else sVar,i,posOf vs x.n,0,0,ByteArray.empty⟩
 else if x.kind=1 then ⟨sInt,i,0,0,x.n,ByteArray.empty⟩
 else if x.args.length=0 then ⟨sAtom,i,0,0,0,x.name⟩
 else ⟨sComp,i,x.args.length,cb l i,0,x.name⟩
def stepAt (vs:List Int) (l:List (Tm α)) (i:Nat):Stp:=
 match (regs l)[i]? with
 | none=>⟨ByteArray.empty,0,0,0,0,ByteArray.empty⟩
 | some x=>stepX vs l i x
def steps (vs:List Int) (l:List (Tm α)) (k:Nat):List Stp:=(List.range k).map (stepAt vs l)
theorem steps_succ {vs:List Int} {l:List (Tm α)} {k:Nat} {x:Tm α} (h:(regs l)[k]? = some x):steps vs l (k+1)=steps vs l k++[stepX vs l k x]:=by
 unfold steps;rw [List.range_succ,List.map_append,Qx,List.map_nil];congr 2;unfold stepAt;rw [h]
theorem steps_length (vs:List Int) (l:List (Tm α)) (k:Nat):(steps vs l k).length=k:=by unfold steps;rw [Qu,List.length_range]
theorem met_succ {l:List (Tm α)} {i:Nat} {x:Tm α} (h:(regs l)[i]? = some x):met l (i+1)=addVar (met l i) x:=by
 unfold met;obtain ⟨hl,rfl⟩:=Qg.1 h;rw [List.take_succ_eq_append_getElem hl,List.foldl_append];rfl
theorem mem_fold (n:Int):∀ (l:List (Tm α)) (vs:List Int),n∈l.foldl addVar vs↔n∈vs∨∃ x∈l,x.kind=0∧x.n=n:=by
 intro l
 induction l with
 | nil=>intro vs;simp
 | cons y l ih=>
  intro vs;rw [Qq,ih];unfold addVar
  by_cases h:y.kind=0∧y.n∉vs
  · rw [if_pos h]
    simp only [Qn,Qw,Ql,or_false,exists_eq_or_imp];constructor
    · rintro ((h1 | h1) | h1)
      · exact .inl h1
      · exact .inr (.inl ⟨h.1,h1.symm⟩)
      · exact .inr (.inr h1)
    · rintro (h1 | h1 | h1)
      · exact .inl (.inl h1)
      · exact .inl (.inr h1.2.symm)
      · exact .inr h1
  · rw [if_neg h]
    simp only [Qw,exists_eq_or_imp];constructor
    · rintro (h1 | h1)
      · exact .inl h1
      · exact .inr (.inr h1)
    · rintro (h1 | h1 | h1)
      · exact .inl h1
      · refine .inl ?_
        by_cases hm:y.n∈vs
        · rw [←h1.2];exact hm
        · exact absurd ⟨h1.1,hm⟩ h
      · exact .inr h1
theorem fold_nodup:∀ (l:List (Tm α)) (vs:List Int),vs.Nodup→(l.foldl addVar vs).Nodup:=by
 intro l
 induction l with
 | nil=>intro vs h;exact h
 | cons y l ih=>
  intro vs h;rw [Qq];apply ih;unfold addVar
  split
  · rename_i hc
    rw [List.nodup_append];exact ⟨h,List.nodup_cons.2 ⟨Ql,List.nodup_nil⟩,fun a ha b hb=>by simp at hb;subst hb;exact fun e=>hc.2 (e ▸ ha)⟩
  · exact h
theorem mem_met {l:List (Tm α)} {i:Nat} {n:Int} (h:n∈met l i):∃ x∈flats l,x.kind=0∧x.n=n:=by
 unfold met at h
 rcases (mem_fold n _ _).1 h with h | ⟨x,h1,h2⟩
 · cases h
 · exact ⟨x,regs_flats x (List.mem_of_mem_take h1),h2⟩
theorem met_all {t:Tm α} (ht:t.kind≠0):(met t.args (sizes t.args)).length=t.vars.length:=by
 have h1:(met t.args (sizes t.args)).Nodup:=fold_nodup _ _ List.nodup_nil;have h2:t.vars.Nodup:=vars_nodup t
 have hm:∀ n,n∈met t.args (sizes t.args)↔n∈t.vars:=by
  intro n;unfold met vars;rw [List.take_of_length_le (by rw [regs_length];exact Qm _),mem_fold,mem_fold,flat_eq];constructor
  · rintro (h | ⟨x,h,h3⟩)
    · cases h
    · exact .inr ⟨x,Qb _ ((regs_perm _).mem_iff.1 h),h3⟩
  · rintro (h | ⟨x,h,h3⟩)
    · cases h
    · rcases Qw.1 h with rfl | h
      · exact absurd h3.1 ht
      · exact .inr ⟨x,(regs_perm _).mem_iff.2 h,h3⟩
 exact ((List.perm_ext_iff_of_nodup h1 h2).2 hm).length_eq
end
def oneC (slots i k:Int) (had:List Int) (s:Stp):Option (Int × List Int):=
 if s.a=i∧goodNameB s.name=true then
  if s.op=sVar then (if 0≤s.b∧s.b < slots∧s.b∉had∧s.c=0∧s.n=0∧s.name=ByteArray.empty then some (k,had++[s.b]) else none)
  else if s.op=sVal then (if 0≤s.b∧s.b < slots∧s.b∈had∧s.c=0∧s.n=0∧s.name=ByteArray.empty then some (k,had) else none)
  else if s.op=sInt then (if s.b=0∧s.c=0∧s.name=ByteArray.empty then some (k,had) else none)
  else if s.op=sAtom then (if s.b=0∧s.c=0∧s.n=0 then some (k,had) else none)
  else if s.op=sComp then (if 1≤s.b∧s.b≤8∧s.c=k∧s.n=0 then some (k+s.b,had) else none)
  else none
 else none
def runC (slots:Int):List Stp→Nat→Int→List Int→Option (Int × List Int)
 | [],_,k,had=>some (k,had)
 | s :: L,i,k,had=>if (i:Int) < k then (match oneC slots i k had s with | none=>none | some c=>runC slots L (i+1) c.1 c.2) else none
def endC (rg sl:Int):Option (Int × List Int)→Bool
 | none=>false
 | some c=>decide (c.1=rg) && decide ((c.2.length:Int)=sl)
def goodC (ar sl rg:Int) (L:List Stp):Bool:=
 if 0≤ar∧ar≤8∧ar≤rg∧rg≤2000∧(L.length:Int)=rg then endC rg sl (runC sl L 0 ar []) else false
theorem ne_ops:sVal≠sVar∧sInt≠sVar∧sInt≠sVal∧sAtom≠sVar∧sAtom≠sVal∧sAtom≠sInt∧sComp≠sVar∧sComp≠sVal∧sComp≠sInt∧sComp≠sAtom:=by
 refine ⟨?_,?_,?_,?_,?_,?_,?_,?_,?_,?_⟩ <;> exact fun h=>absurd (congrArg ByteArray.data h) (by decide)
theorem good_empty:goodNameB ByteArray.empty=true:=by rfl
section
variable {α:Type}
theorem one_ok {t:Tm α} (hg:goodB t=true) (hk:t.kind≠0) {i:Nat} {x:Tm α} (hx:(regs t.args)[i]? = some x) :
 oneC t.vars.length i (cb t.args i) ((met t.args i).map fun n=>(posOf t.vars n:Int)) (stepX t.vars t.args i x)=some ((cb t.args (i+1):Int),(met t.args (i+1)).map fun n=>(posOf t.vars n:Int)):=by
 have hmem:x∈t.flat:=by rw [flat_eq];exact Qb _ (regs_flats x (Qf hx))
 have hones:∀ y∈t.flat,goodOneB y=true:=by
  unfold goodB at hg;simp only [Qd,decide_eq_true_eq,Qt] at hg;exact hg.2.2
 have hone:=hones x hmem;obtain ⟨n1,n2,n3,n4,n5,n6,n7,n8,n9,n10⟩:=ne_ops;obtain ⟨c1,c2,c3,_⟩:=cb_next hx
 have hvm:∀ {y:Tm α},y∈t.flat→y.kind=0→y.n∈t.vars:=fun hy h0=>(mem_fold _ _ _).2 (.inr ⟨_,hy,h0,rfl⟩)
 have hmv:∀ {n:Int},n∈met t.args i→n∈t.vars:=fun h=>by
  obtain ⟨y,hy,h0,rfl⟩:=mem_met h;exact hvm (by rw [flat_eq];exact Qb _ hy) h0
 rw [met_succ hx,c1];unfold stepX
 by_cases h0:x.kind=0
 · have hxv:=hvm hmem h0
   rw [goodOneB_0 x h0] at hone;simp only [Qd,decide_eq_true_eq] at hone;obtain ⟨_,_,_,ha⟩:=hone;rw [if_pos h0,ha];have hlt:posOf t.vars x.n < t.vars.length:=List.idxOf_lt_length_of_mem hxv
   have hin:(posOf t.vars x.n:Int)∈(met t.args i).map (fun n=>(posOf t.vars n:Int))↔x.n∈met t.args i:=by
    constructor
    · intro h
      obtain ⟨v,hv,e⟩:=List.mem_map.1 h
      have e':posOf t.vars v=posOf t.vars x.n:=by exact Int.ofNat.inj e
      have p1:=posOf_mem (hmv hv);have p2:=posOf_mem hxv;rw [e',p2] at p1
      injection p1 with p1
      rw [p1];exact hv
    · exact fun h=>List.mem_map.2 ⟨_,h,rfl⟩
   unfold oneC addVar
   by_cases hm:x.n∈met t.args i
   · rw [if_pos hm,if_neg (show ¬ (x.kind=0∧x.n∉met t.args i) from fun c=>c.2 hm),if_pos ⟨rfl,good_empty⟩,if_neg n1,if_pos rfl,if_pos ⟨by simp only;omega,by simp only;omega,hin.2 hm,rfl,rfl,rfl⟩]
     simp
   · rw [if_neg hm,if_pos (show x.kind=0∧x.n∉met t.args i from ⟨h0,hm⟩),if_pos ⟨rfl,good_empty⟩,if_pos rfl,if_pos ⟨by simp only;omega,by simp only;omega,fun c=>hm (hin.1 c),rfl,rfl,rfl⟩]
     simp
 · rw [if_neg h0]
   have hadd:addVar (met t.args i) x=met t.args i:=by unfold addVar;rw [if_neg (fun c=>h0 c.1)]
   rw [hadd]
   by_cases h1:x.kind=1
   · rw [goodOneB_1 x h1] at hone
     simp only [Qd,decide_eq_true_eq] at hone;rw [if_pos h1,hone.2];unfold oneC;rw [if_pos ⟨rfl,good_empty⟩,if_neg n2,if_neg n3,if_pos rfl,if_pos ⟨rfl,rfl,rfl⟩];simp
   · have h2:x.kind=2:=by
      by_cases h2:x.kind=2
      · exact h2
      · rw [goodOneB_3 x h0 h1 h2] at hone;cases hone
     rw [goodOneB_2 x h2] at hone;simp only [Qd,decide_eq_true_eq] at hone;rw [if_neg h1];unfold oneC
     by_cases ha:x.args.length=0
     · rw [if_pos ha,if_pos ⟨rfl,hone.2.1⟩,if_neg n4,if_neg n5,if_neg n6,if_pos rfl,if_pos ⟨rfl,rfl,rfl⟩,ha]
       simp
     · rw [if_neg ha,if_pos ⟨rfl,hone.2.1⟩,if_neg n7,if_neg n8,if_neg n9,if_neg n10,if_pos rfl,if_pos ⟨by simp only;omega,by simp only;omega,rfl,rfl⟩]
       simp
theorem run_ok {t:Tm α} (hg:goodB t=true) (hk:t.kind≠0):∀ j i,i+j=sizes t.args→runC t.vars.length ((List.range' i j).map (stepAt t.vars t.args)) i (cb t.args i) ((met t.args i).map fun n=>(posOf t.vars n:Int))=some ((sizes t.args:Int),(met t.args (sizes t.args)).map fun n=>(posOf t.vars n:Int)):=by
 intro j
 induction j with
 | zero=>
  intro i hi
  obtain rfl:i=sizes t.args:=by omega
  rw [List.range'_zero,List.map_nil,runC,cb_end]
 | succ j ih=>
  intro i hi;obtain ⟨x,hx,_,_⟩:=regs_some (l:=t.args) (i:=i) (by omega);rw [List.range'_succ,Qx]
  have hs:stepAt t.vars t.args i=stepX t.vars t.args i x:=by unfold stepAt;rw [hx]
  rw [hs,runC,if_pos (by have:=(cb_next hx).2.1;omega),one_ok hg hk hx];exact ih (i+1) (by omega)
theorem head_good {t:Tm α} (hg:goodB t=true) (hk:t.kind=2):goodC t.args.length t.vars.length (sizes t.args) (steps t.vars t.args (sizes t.args))=true:=by
 have h:=hg;unfold goodB at h;simp only [Qd,decide_eq_true_eq,Qt] at h;obtain ⟨h1,_,h3⟩:=h;have ht:=h3 t (by rw [flat_eq];exact Qe ..);rw [goodOneB_2 t hk] at ht;simp only [Qd,decide_eq_true_eq] at ht;rw [size_eq] at h1;have hle:=reg_le t.args (Nat.zero_le (sizes t.args));have hrl:=regs_length t.args;unfold regs at hrl;simp only [reg] at hle;unfold goodC;rw [if_pos ⟨by omega,by have:=ht.2.2;omega,by omega,by omega,by rw [steps_length]⟩];have:=run_ok hg (by omega) (sizes t.args) 0 (by omega);unfold steps;rw [List.range_eq_range'];rw [cb_zero] at this
 have hm:(met t.args 0).map (fun n=>(posOf t.vars n:Int))=[]:=by unfold met;simp
 rw [hm] at this;rw [this];unfold endC;simp only [Qu,met_all (show t.kind≠0 by omega)];simp
end
end Tm
theorem nodup_length:∀ (m:Nat) (l:List Int),l.Nodup→(∀ x∈l,0≤x∧x < (m:Int))→l.length≤m:=by
 intro m
 induction m with
 | zero=>
  intro l _ h
  cases l with
  | nil=>exact Qm _
  | cons x l=>have:=h x (Qe ..);omega
 | succ m ih=>
  intro l hn h
  by_cases hm:(m:Int)∈l
  · have h1:=ih (l.erase m) (hn.erase _) (fun x hx=>by
     have hx':=(hn.mem_erase_iff).1 hx;have:=h x hx'.2;have hne:x≠(m:Int):=hx'.1
     omega)
    have h2:=List.length_erase_of_mem hm;omega
  · have:=ih l hn (fun x hx=>by
     have h1:=h x hx
     have:x≠(m:Int):=fun e=>hm (e ▸ hx)
     omega)
    omega
namespace Tm
theorem okT_nodup {m:Nat} {l:Trail} (h:okT m l):(dom l).Nodup:=by
 induction l with
 | nil=>simp [dom]
 | cons b l ih=>
  simp only [dom,Qx,List.nodup_cons];exact ⟨h.2.2.2.1,ih h.1⟩
theorem okT_length {m:Nat} {l:Trail} (h:okT m l):l.length≤m:=by
 have:=nodup_length m (dom l) (okT_nodup h) (fun x hx=>by
  obtain ⟨b,hb,rfl⟩:=List.mem_map.1 hx;have:=okT_mem h hb
  exact ⟨this.1,this.2.1⟩)
 simpa [dom] using this
def setE (m:Nat) (l:Trail) (n:Int) (t:Tm Unit):Int:=
 if 0≤n∧n < (m:Int)∧ownB m t=true then
  (if n∈dom l then 8 else if n∈(img l t).vars then 5 else 0)
 else 1
theorem setE_ok {m:Nat} {l:Trail} {n:Int} {t:Tm Unit} (hl:okT m l) (h:setE m l n t=0):okT m ((n,t) :: l):=by
 unfold setE at h
 split at h
 · rename_i h1
   split at h
   · cases h
   · rename_i h2
     split at h
     · cases h
     · rename_i h3
       obtain ⟨g1,g2⟩:=ownB_iff.1 h1.2.2;exact ⟨hl,h1.1,h1.2.1,h2,g1,g2,fun c=>h3 ((vars_mem n).2 c)⟩
 · cases h
end Tm
end Go.Proofs.Ytoihjobdfjajfaa
namespace Go.Proofs.Ytoihjobdfjajfaa
open Go.RowKit Go.Maps
theorem rComp160 (s:ByteArray) (a:Option Addr) (n c:Nat) (w:World) :
 Calls Try.prog 160 #[.string s,.slice a n c] w fun e w'=>e = .returned (.agg #[.int .i64 2,.int .i64 0,.string s,.slice a n c])∧Turned zN w w':=by
 go_enter Try.func160,Try.ntmps160
 go_wp2_with fail
 exact bodyPost_ret (v:=.agg #[.int .i64 2,.int .i64 0,.string s,.slice a n c]) (results_cell_row Try.results160 _ _ w.heap.size 41 _ (0,0) _ rfl (heap_alloc_new w _) Try.underlying41 rfl (by kernel_rfl)) rfl ⟨rfl,(Turned.refl _ _).alloc _⟩
theorem posOf_first {vs:List Int} {n:Int} {j:Nat} (h:vs[j]? = some n) (hno:∀ i,i < j→vs[i]?≠some n):Tm.posOf vs n=j:=by
 unfold Tm.posOf
 induction vs generalizing j with
 | nil=>simp at h
 | cons v vs ih=>
  cases j with
  | zero=>
   simp at h;subst h;simp [List.idxOf_cons]
  | succ j=>
   have hv:v≠n:=fun e=>hno 0 (by omega) (by simp [e])
   have hb:(v == n)=false:=by rw [beq_eq_false_iff_ne];exact hv
   rw [List.idxOf_cons,hb];simp only [cond_false];rw [ih (j:=j) (by simpa using h) (fun i hi=>by have:=hno (i+1) (by omega);simpa using this)]
theorem Row.setAt {w:World} {e:TypeId} {size n g cap off:Nat} {xs:List Value} (h:Row w e size (.slice (some ⟨g,0,none⟩) n cap) n xs) (ho:off < n * size) (u:Value):Row (w.setCell ⟨g,off,none⟩ u) e size (.slice (some ⟨g,0,none⟩) n cap) n (xs.set off u):=by
 refine ⟨by rw [List.length_set];exact h.1,.inr ?_⟩
 rcases h.2 with ⟨he,h0⟩ | ⟨g',cap',cur,he,hg,h1,h2,h3,h4⟩
 · cases he
 · injection he with e1 _ e3
   injection e1 with e1
   injection e1 with e1
   subst e1 e3;refine ⟨g,cap,cur.setIfInBounds off u,rfl,heap_setCell_same w g off cur e u hg,h1,h2,by simpa using h3,?_⟩;rw [Array.toList_setIfInBounds,List.take_set,h4]
theorem flat_set {us:List LT} {j:Nat} {u:LT} (hj:j < us.length) :
 ((((us.flatMap LT.cells).set (j * 4) (.int .i64 u.kind)).set (j * 4+1) (.int .i64 u.n)).set (j * 4+2) (.string u.name)).set (j * 4+3) (.slice u.at_.1 u.args.length u.at_.2)=(us.set j u).flatMap LT.cells:=by
 induction us generalizing j with
 | nil=>simp at hj
 | cons x us ih=>
  cases j with
  | zero=>
   rw [Qs,List.flatMap_cons,List.flatMap_cons,LT.cells_eq x,LT.cells_eq u];rfl
  | succ j=>
   have ih:=ih (j:=j) (by simpa using hj);rw [Qr,List.flatMap_cons,List.flatMap_cons,←ih,LT.cells_eq x]
   have e0:(j+1) * 4=j * 4+4:=by omega
   rw [e0];rfl
abbrev TL:=List (Int × Nat × LT)
def bt (l:TL):Tm.Trail:=l.map fun b=>(b.1,b.2.2.bare)
def lookL:TL→Int→Option (Nat × LT)
 | [],_=>none
 | b :: l,n=>if b.1=n then some b.2 else lookL l n
theorem look_bt (l:TL) (n:Int):Tm.look (bt l) n=(lookL l n).map fun c=>c.2.bare:=by
 induction l with
 | nil=>rfl
 | cons b l ih=>
  show (if b.1=n then some b.2.2.bare else Tm.look (bt l) n)=_;simp only [lookL]
  split
  · rfl
  · exact ih
theorem lookL_mem {l:TL} {n:Int} {c:Nat × LT} (h:lookL l n=some c):(n,c)∈l:=by
 induction l with
 | nil=>simp [lookL] at h
 | cons b l ih=>
  simp only [lookL] at h
  split at h
  · rename_i e;injection h with h;subst e h;exact Qe ..
  · exact Qb _ (ih h)
theorem bt_length (l:TL):(bt l).length=l.length:=by unfold bt;rw [Qu]
def ptrV:Option (Nat × LT)→Value
 | none=>.pointer none
 | some c=>.pointer (some ⟨c.1,0,none⟩)
def ptrs (m:Nat) (l:TL):List Value:=(List.range m).map fun (i:Nat)=>ptrV (lookL l (i:Int))
theorem ptrs_at {m:Nat} {l:TL} {i:Nat} (h:i < m):(ptrs m l)[i]? = some (ptrV (lookL l (i:Int))):=by
 unfold ptrs;rw [Qp,List.getElem?_range h];rfl
theorem ptrs_length (m:Nat) (l:TL):(ptrs m l).length=m:=by unfold ptrs;rw [Qu,List.length_range]
theorem ptrs_succ {m:Nat} {l:TL} (h:lookL l (m:Int)=none):ptrs m l++[.pointer none]=ptrs (m+1) l:=by
 unfold ptrs;rw [List.range_succ,List.map_append,Qx,List.map_nil,h];rfl
theorem ptrs_set {m:Nat} {l:TL} {i:Nat} {c:Nat} {x:LT} (h:i < m):(ptrs m l).set i (.pointer (some ⟨c,0,none⟩))=ptrs m (((i:Int),c,x) :: l):=by
 refine List.ext_getElem? (fun j=>?_)
 by_cases hj:j < m
 · rw [ptrs_at hj]
   simp only [lookL]
   by_cases he:i=j
   · subst he
     rw [List.getElem?_set_self (by rw [ptrs_length];exact h),if_pos rfl];rfl
   · rw [List.getElem?_set_ne he,ptrs_at hj,if_neg (by omega)]
 · rw [List.getElem?_eq_none (by rw [List.length_set,ptrs_length];omega),List.getElem?_eq_none (by rw [ptrs_length];omega)]
def ownK (bb sb:Nat) (lv tv:Value) (k:Nat):Prop:=k=bb∨k=sb∨lv.ownBlock=some k∨tv.ownBlock=some k
structure BI (p:Nat→Prop) (bb sb:Nat) (lv tv:Value) (m:Nat) (l:TL) (w:World):Prop where
 b:w.heap[bb]? = some (.cells #[lv,.pointer (some ⟨sb,0,none⟩)] 163 (0,0))
 s:w.heap[sb]? = some (.cells #[.int .i64 65536,tv] 209 (0,0))
 row:Row w 165 1 lv m (ptrs m l)
 trail:Row w 2 1 tv l.length ((l.map fun b=>Value.int .i64 b.1).reverse)
 terms:∀ b∈l,w.heap[b.2.1]? = some (.cells #[.int .i64 b.2.2.kind,.int .i64 b.2.2.n,.string b.2.2.name,.slice b.2.2.at_.1 b.2.2.args.length b.2.2.at_.2] 27 (0,0))∧b.2.2.In p w∧¬ ownK bb sb lv tv b.2.1
 ok:Tm.okT m (bt l)
 most:m≤65536
 ne:bb≠sb∧lv.ownBlock≠some bb∧lv.ownBlock≠some sb∧tv.ownBlock≠some bb∧tv.ownBlock≠some sb∧∀ k,lv.ownBlock=some k→tv.ownBlock≠some k
 sep:∀ k,p k→k < w.heap.size∧¬ ownK bb sb lv tv k
section
variable {p:Nat→Prop} {bb sb m:Nat} {lv tv:Value} {l:TL} {w w':World}
theorem BI.own_lt (h:BI p bb sb lv tv m l w):∀ k,ownK bb sb lv tv k→k < w.heap.size:=by
 rintro k (rfl | rfl | hk | hk)
 · exact (zL h.b)
 · exact (zL h.s)
 · exact h.row.lt k hk
 · exact h.trail.lt k hk
theorem BI.turned {S:Nat→Prop} (h:BI p bb sb lv tv m l w) (ht:Turned S w w') (hS:∀ k,k < w.heap.size→S k→¬ ownK bb sb lv tv k∧(∀ b∈l,k≠b.2.1)∧¬ p k):BI p bb sb lv tv m l w':=by
 have hb:=(zL h.b);have hs:=(zL h.s)
 refine ⟨(ht.block _ hb (fun f=>(hS _ hb f).1 (.inl rfl))).trans h.b,(ht.block _ hs (fun f=>(hS _ hs f).1 (.inr (.inl rfl)))).trans h.s,h.row.turned ht (fun k hk f=>(hS _ (h.row.lt k hk) f).1 (.inr (.inr (.inl hk)))),h.trail.turned ht (fun k hk f=>(hS _ (h.trail.lt k hk) f).1 (.inr (.inr (.inr hk)))),
  fun b hb=>⟨?_,LT.In.turned ht (fun k hk hq f=>(hS k hk f).2.2 hq) (fun _ _ q=>q) _ (h.terms b hb).2.1,(h.terms b hb).2.2⟩,h.ok,h.most,h.ne,fun k hk=>⟨Qo (h.sep k hk).1 ht.size,(h.sep k hk).2⟩⟩
 have hl:=(zL (h.terms b hb).1);exact (ht.block _ hl (fun f=>(hS _ hl f).2.1 b hb rfl)).trans (h.terms b hb).1
theorem BI.turned0 (h:BI p bb sb lv tv m l w) (ht:Turned zN w w'):BI p bb sb lv tv m l w':=
 h.turned ht (fun _ _ f=>f.elim)
theorem BI.wide {q:Nat→Prop} (h:BI p bb sb lv tv m l w) (hp:∀ k,p k→q k) (hq:∀ k,q k→k < w.heap.size∧¬ ownK bb sb lv tv k):BI q bb sb lv tv m l w:=
 ⟨h.b,h.s,h.row,h.trail,fun b hb=>⟨(h.terms b hb).1,(h.terms b hb).2.1.mono (fun k _ hk=>hp k hk),(h.terms b hb).2.2⟩,h.ok,h.most,h.ne,hq⟩
theorem BI.length (h:BI p bb sb lv tv m l w):l.length≤m:=by have:=Tm.okT_length h.ok;rwa [bt_length] at this
theorem BI.free (h:BI p bb sb lv tv m l w) {n:Int}:lookL l n=none↔n∉Tm.dom (bt l):=by
 rw [←Tm.look_none,look_bt]
 cases lookL l n <;> simp
theorem BI.fresh {lv':Value} (h:BI p bb sb lv tv m l w) (hm:m < 65536) (ht:Turned (fun k=>k=bb∨lv.ownBlock=some k) w w') (hb:w'.heap[bb]? = some (.cells #[lv',.pointer (some ⟨sb,0,none⟩)] 163 (0,0)))
 (hr:Row w' 165 1 lv' (m+1) (ptrs m l++[.pointer none])) (ho:lv'.ownBlock=lv.ownBlock∨∀ k,lv'.ownBlock=some k→w.heap.size≤k):BI p bb sb lv' tv (m+1) l w':=by
 obtain ⟨n1,n2,n3,n4,n5,n6⟩:=h.ne;have hbl:=(zL h.b);have hsl:=(zL h.s)
 have hfree:lookL l (m:Int)=none:=h.free.2 (fun c=>by
  obtain ⟨b,hb,e⟩:=List.mem_map.1 c;have:=(Tm.okT_mem h.ok hb).2.1
  omega)
 have hown:∀ k,k < w.heap.size→ownK bb sb lv' tv k→ownK bb sb lv tv k:=by
  rintro k hk (rfl | rfl | hq | hq)
  · exact .inl rfl
  · exact .inr (.inl rfl)
  · rcases ho with ho | ho
    · exact .inr (.inr (.inl (ho ▸ hq)))
    · have:=ho k hq;omega
  · exact .inr (.inr (.inr hq))
 have hlv:∀ q,q < w.heap.size→lv.ownBlock≠some q→lv'.ownBlock≠some q:=fun q hq hne e=>by
  rcases ho with ho | ho
  · exact hne (ho ▸ e)
  · have:=ho q e;omega
 refine ⟨hb,(ht.block _ hsl (fun e=>e.elim (fun e=>n1 e.symm) n3)).trans h.s,?_,h.trail.turned ht (fun k hk e=>?_),fun b hb=>⟨?_,?_,?_⟩,h.ok.more (Nat.le_succ m),by omega,⟨n1,hlv _ hbl n2,hlv _ hsl n3,n4,n5,fun k hk e=>?_⟩,fun k hk=>⟨Qo (h.sep k hk).1 ht.size,fun c=>(h.sep k hk).2 (hown k (h.sep k hk).1 c)⟩⟩
 · rw [←ptrs_succ hfree];exact hr
 · rcases e with e | e
   · exact n4 (e ▸ hk)
   · exact n6 k e hk
 · obtain ⟨t1,t2,t3⟩:=h.terms b hb
   refine (ht.block _ (zL t1) ?_).trans t1
   rintro (e | e)
   · exact t3 (.inl e)
   · exact t3 (.inr (.inr (.inl e)))
 · obtain ⟨t1,t2,t3⟩:=h.terms b hb
   refine LT.In.turned ht (fun k hk hq e=>?_) (fun k hk hq=>hq) _ t2
   rcases e with e | e
   · exact (h.sep k hq).2 (.inl e)
   · exact (h.sep k hq).2 (.inr (.inr (.inl e)))
 · obtain ⟨t1,t2,t3⟩:=h.terms b hb
   exact fun e=>t3 (hown _ (zL t1) e)
 · have hk':=h.trail.lt k e
   exact hlv k hk' (fun c=>n6 k c e) hk
theorem BI.set {tv':Value} {i c:Nat} {x:LT} (h:BI p bb sb lv tv m l w) (hi:i < m) (hok:Tm.setE m (bt l) (i:Int) x.bare=0)
 (ht:Turned (fun k=>k=sb∨lv.ownBlock=some k∨tv.ownBlock=some k) w w') (hs:w'.heap[sb]? = some (.cells #[.int .i64 65536,tv'] 209 (0,0)))
 (hr:Row w' 165 1 lv m ((ptrs m l).set i (.pointer (some ⟨c,0,none⟩)))) (htr:Row w' 2 1 tv' (l.length+1) ((l.map fun b=>Value.int .i64 b.1).reverse++[.int .i64 i])) (ho:tv'.ownBlock=tv.ownBlock∨∀ k,tv'.ownBlock=some k→w.heap.size≤k∧k≠c)
 (hcb:w.heap[c]? = some (.cells #[.int .i64 x.kind,.int .i64 x.n,.string x.name,.slice x.at_.1 x.args.length x.at_.2] 27 (0,0))) (hcn:¬ ownK bb sb lv tv c) (hx:x.In p w):BI p bb sb lv tv' m (((i:Int),c,x) :: l) w':=by
 obtain ⟨n1,n2,n3,n4,n5,n6⟩:=h.ne;have hbl:=(zL h.b);have hsl:=(zL h.s)
 have hown:∀ k,k < w.heap.size→ownK bb sb lv tv' k→ownK bb sb lv tv k:=by
  rintro k hk (rfl | rfl | hq | hq)
  · exact .inl rfl
  · exact .inr (.inl rfl)
  · exact .inr (.inr (.inl hq))
  · rcases ho with ho | ho
    · exact .inr (.inr (.inr (ho ▸ hq)))
    · have:=(ho k hq).1;omega
 have htv:∀ q,q < w.heap.size→tv.ownBlock≠some q→tv'.ownBlock≠some q:=fun q hq hne e=>by
  rcases ho with ho | ho
  · exact hne (ho ▸ e)
  · have:=(ho q e).1;omega
 have keep:∀ x:LT,∀ c,w.heap[c]? = some (.cells #[.int .i64 x.kind,.int .i64 x.n,.string x.name,.slice x.at_.1 x.args.length x.at_.2] 27 (0,0))→x.In p w→¬ ownK bb sb lv tv c→
  w'.heap[c]? = some (.cells #[.int .i64 x.kind,.int .i64 x.n,.string x.name,.slice x.at_.1 x.args.length x.at_.2] 27 (0,0))∧x.In p w'∧¬ ownK bb sb lv tv' c:=by
  intro x c t1 t2 t3;exact ⟨(ht.block _ (zL t1) (fun e=>t3 (.inr e))).trans t1,LT.In.turned ht (fun k hk hq e=>(h.sep k hq).2 (.inr e)) (fun k hk hq=>hq) _ t2,fun e=>t3 (hown _ (zL t1) e)⟩
 refine ⟨(ht.block _ hbl (fun e=>e.elim n1 (fun e=>e.elim n2 n4))).trans h.b,hs,?_,?_,fun b hb=>?_,Tm.setE_ok h.ok hok,h.most,⟨n1,n2,n3,htv _ hbl n4,htv _ hsl n5,fun k hk=>htv k (h.row.lt k hk) (n6 k hk)⟩,fun k hk=>⟨Qo (h.sep k hk).1 ht.size,fun c=>(h.sep k hk).2 (hown k (h.sep k hk).1 c)⟩⟩
 · rw [←ptrs_set (x:=x) hi];exact hr
 · rw [Qx,List.reverse_cons,QB];exact htr
 · rcases Qw.1 hb with rfl | hb
   · exact keep x c hcb hx hcn
   · obtain ⟨t1,t2,t3⟩:=h.terms b hb
     exact keep _ _ t1 t2 t3
end
end Go.Proofs.Ytoihjobdfjajfaa
namespace Go.Proofs.Ytoihjobdfjajfaa
open Lib (hid)
open Go.RowKit Go.Maps
theorem newStk142 (w:World) :
 Calls Try.prog 142 #[.int .i64 65536] w fun e w'=>e = .returned (.pointer (some ⟨w.heap.size,0,none⟩))∧w'=w.alloc (.cells #[.int .i64 65536,.slice none 0 0] 209):=by
 go_enter Try.func142,Try.ntmps142
 go_wp2_with fail
 go_ret
 all_goals first | exact ⟨rfl,rfl⟩ | (refine ⟨rfl,?_⟩;congr 5;omega)
theorem new86 (w:World) :
 Calls Try.prog 86 #[] w fun e w'=>e = .returned (.pointer (some ⟨w.heap.size+1,0,none⟩))∧w'=(w.alloc (.cells #[.int .i64 65536,.slice none 0 0] 209)).alloc (.cells #[.slice none 0 0,.pointer (some ⟨w.heap.size,0,none⟩)] 163):=by
 go_enter Try.func86,Try.ntmps86
 go_wp2_with (go_at_call 142;(with_reducible refine (newStk142 _).mono ?_);rintro e w3 ⟨rfl,rfl⟩)
 go_ret;exact ⟨rfl,rfl⟩
theorem BI.new {p:Nat→Prop} (w:World) (hp:∀ k,p k→k < w.heap.size) :
 BI p (w.heap.size+1) w.heap.size (.slice none 0 0) (.slice none 0 0) 0 [] ((w.alloc (.cells #[.int .i64 65536,.slice none 0 0] 209)).alloc (.cells #[.slice none 0 0,.pointer (some ⟨w.heap.size,0,none⟩)] 163)):=by
 have h1:=heap_alloc2_new w (.cells #[.int .i64 65536,.slice none 0 0] 209) (.cells #[.slice none 0 0,.pointer (some ⟨w.heap.size,0,none⟩)] 163);have h2:=heap_alloc2_old w (.cells #[.int .i64 65536,.slice none 0 0] 209) (.cells #[.slice none 0 0,.pointer (some ⟨w.heap.size,0,none⟩)] 163);refine ⟨h1,h2,Row.nil _ _ _,Row.nil _ _ _,fun b hb=>(by cases hb),trivial,by omega,⟨by omega,by simp [Value.ownBlock],by simp [Value.ownBlock],by simp [Value.ownBlock],by simp [Value.ownBlock],by simp [Value.ownBlock]⟩,fun k hk=>⟨by have:=hp k hk;simp;omega,?_⟩⟩
 rintro (e | e | e | e)
 · have:=hp k hk;omega
 · have:=hp k hk;omega
 · simp [Value.ownBlock] at e
 · simp [Value.ownBlock] at e
theorem newB86 {p:Nat→Prop} (w:World) (hp:∀ k,p k→k < w.heap.size) :
 Calls Try.prog 86 #[] w fun e w'=>e = .returned (.pointer (some ⟨w.heap.size+1,0,none⟩))∧BI p (w.heap.size+1) w.heap.size (.slice none 0 0) (.slice none 0 0) 0 [] w'∧Turned zN w w':=
 (new86 w).mono fun e w' ⟨h1,h2⟩=>⟨h1,by rw [h2];exact BI.new w hp,by rw [h2];exact ((Turned.refl _ w).alloc _).alloc _⟩
section
variable {p:Nat→Prop} {bb sb m:Nat} {lv tv:Value} {l:TL} {w w':World}
theorem rec2b {w:World} {bb:Nat} {x y:Value} {T:TypeId} (h:w.heap[bb]? = some (.cells #[x,y] T (0,0))) :
 w.cell? ⟨bb,0,none⟩=some x∧w.cell? ⟨bb,1,none⟩=some y∧w.frozen? ⟨bb,0,none⟩=false∧w.frozen? ⟨bb,1,none⟩=false:=
 ⟨by rw [cell_of_row w bb 0 _ T (0,0) h];rfl,by rw [cell_of_row w bb 1 _ T (0,0) h];rfl,frozen_of_row w bb 0 _ T h,frozen_of_row w bb 1 _ T h⟩
theorem given143q (h:BI p bb sb lv tv m l w) (n:Int) :
 Calls Try.prog 143 #[.pointer (some ⟨bb,0,none⟩),.int .i64 n] w fun e w'=>e = .returned (.bool (decide (0≤n∧n < (m:Int))))∧w'=w:=by
 obtain ⟨a,c,rfl⟩:=h.row.shape;obtain ⟨c0,c1,_⟩:=rec2b h.b;have hm:=h.row.max;clear h
 by_cases h0:0≤n
 · have d0:decide (0≤n)=true:=decide_eq_true h0
   by_cases h1:n < (m:Int)
   · have d1:decide (n < (m:Int))=true:=decide_eq_true h1
     rw [decide_eq_true (⟨h0,h1⟩:0≤n∧n < (m:Int))];go_enter Try.func143,Try.ntmps143
     go_wp2_with fail
     go_ret;exact ⟨rfl,rfl⟩
   · have d1:decide (n < (m:Int))=false:=decide_eq_false h1
     rw [decide_eq_false (fun c=>h1 c.2:¬ (0≤n∧n < (m:Int)))];go_enter Try.func143,Try.ntmps143
     go_wp2_with fail
     go_ret;exact ⟨rfl,rfl⟩
 · have d0:decide (0≤n)=false:=decide_eq_false h0
   rw [decide_eq_false (fun c=>h0 c.1:¬ (0≤n∧n < (m:Int)))];go_enter Try.func143,Try.ntmps143
   go_wp2_with fail
   go_ret;exact ⟨rfl,rfl⟩
theorem given143 (h:BI p bb sb lv tv m l w) (n:Int) :
 Calls Try.prog 143 #[.pointer (some ⟨bb,0,none⟩),.int .i64 n] w fun e w'=>e = .returned (.bool (decide (0≤n∧n < (m:Int))))∧Turned zN w w':=
 (given143q h n).mono fun e w' ⟨h1,h2⟩=>⟨h1,by rw [h2];exact Turned.refl _ _⟩
def OwnL (vs:List Int) (m:Nat) (w1:World) (q:Nat) (i:Value) (wr:World):Prop:=∃ j:Nat,Hid (j+q=vs.length)∧j≤vs.length∧i = .int .i64 j∧Hid ((vs.take j).all (fun v=>decide (v < (m:Int)))=true)∧Turned zN w1 wr
set_option maxRecDepth 100000 in
theorem own144 {p0:Nat→Prop} {t:LT} (h:BI p bb sb lv tv m l w) (ht:t.In p0 w) (hs:slim t) :
 Calls Try.prog 144 #[.pointer (some ⟨bb,0,none⟩),t.val] w fun e w'=>e = .returned (.bool (Tm.ownB m t))∧Turned zN w w':=by
 obtain ⟨bx,hbx⟩:∃ bx:Obj,bx = .cells #[.int .i64 t.kind,.int .i64 t.n,.string t.name,.slice t.at_.1 t.args.length t.at_.2] 27:=⟨_,rfl⟩;have T1:=(Turned.refl (fun _=>False) w).alloc bx
 have hc:∀ W,Turned zN (w.alloc bx) W→W.heap[w.heap.size]? = some bx:=fun W hW=>(hW.block _ (by simp) (fun f=>f)).trans (heap_alloc_new w bx)
 have hgo:=good38 (ht.turned0 T1) hs
 have hvs:=fun W (hW:Turned zN w W)=>vars34 (ht.turned0 hW) hs
 rw [LT.val_eq t] at hgo hvs ⊢;have HB:=hid h;have hmm:=h.most;subst hbx;have HC:=hid hc;have HT:=hid T1;clear h hc T1 ht hs
 cases hg:goodB t with
 | false=>
  have e1:Tm.ownB m t=false:=by unfold Tm.ownB;rw [hg];rfl
  rw [e1];rw [hg] at hgo;have HGO:=hid hgo;clear hgo hvs hg e1;go_enter Try.func144,Try.ntmps144
  go_wp2_with (go_at_call 38;(with_reducible refine HGO.out.mono ?_);rintro e w3 ⟨rfl,T3⟩)
  go_ret;exact ⟨rfl,HT.out.trans T3⟩
 | true=>
  have ev:varsB t=t.vars:=by unfold varsB;rw [if_pos hg]
  have e1:Tm.ownB m t=t.vars.all (fun v=>decide (v < (m:Int))):=by unfold Tm.ownB;rw [hg];rfl
  rw [e1];rw [hg] at hgo;rw [ev] at hvs;have hnn:=good_nums hg;obtain ⟨vs,hv⟩:∃ z,z=t.vars:=⟨_,rfl⟩;rw [←hv] at hvs hnn ⊢;have HGO:=hid hgo;have HVS:=hid hvs;have HNN:=hid hnn;clear hgo hvs hnn hg ev e1 hv;go_enter Try.func144,Try.ntmps144
  go_wp2_with (first
   | (go_at_call 38;(with_reducible refine HGO.out.mono ?_);rintro e w3 ⟨rfl,T3⟩;obtain ⟨c0,c1,c2,c3,_⟩:=cells4 (HC.out _ T3))
   | (go_at_call 34;(with_reducible refine (HVS.out _ (HT.out.trans T3)).mono ?_);rintro e w4 ⟨v,rfl,hrow,hown,T4⟩;obtain ⟨va,vc,rfl⟩:=hrow.shape;have hmx:=hrow.max;have TT:=HT.out.trans (T3.trans T4);have HROW:=hid hrow;clear hrow hown))
  have HTT:=hid TT;clear TT c0 c1 c2 c3 T3 T4 HGO HVS HC HT
  go_loopg [13] vs.length (fun q i wr=>OwnL vs m w4 q i wr)
  case atStart=>exact ⟨0,Nat.zero_add _,Nat.zero_le _,rfl,rfl,Turned.refl _ _⟩
  case round=>
   obtain ⟨j,HG,hj,rfl,HA,hT⟩:=hrel
   by_cases hjl:j < vs.length
   · obtain ⟨x,hx⟩:∃ x,vs[j]? = some x:=⟨_,Qa hjl⟩
     have hrw:=HROW.out.turned0 hT;obtain ⟨gv,cap,he⟩:=hrw.shape_pos (by omega)
     injection he with q1 _ q3
     subst q1 q3;have hcv:=hrw.cells rfl j (.int .i64 x) (by rw [Qp,hx];rfl);have hx0:=(HNN.out x (Qf hx)).1;have hgv:=given143 (HB.out.turned0 (HTT.out.trans hT)) x;have HX:=hid hx
     by_cases hxm:x < (m:Int)
     · rw [decide_eq_true (⟨hx0,hxm⟩:0≤x∧x < (m:Int))] at hgv
       have HGV:=hid hgv
       have hst:(vs.take (j+1)).all (fun v=>decide (v < (m:Int)))=true:=by rw [all_snoc _ _ _ x hx,HA.out,decide_eq_true hxm];rfl
       have HST:=hid hst;clear hx hrw hgv hst hxm hx0
       go_wp2_with (go_at_call 143;(with_reducible refine HGV.out.mono ?_);rintro e w5 ⟨rfl,T5⟩)
       go_roundg (gk - 1)
       case measure=>have:=HG.out;omega
       case rel=>exact ⟨j+1,show _=_ by have:=HG.out;omega,by omega,by go_num,HST.out,hT.trans T5⟩
     · rw [decide_eq_false (fun c=>hxm c.2:¬ (0≤x∧x < (m:Int)))] at hgv
       have HGV:=hid hgv;have hno:vs.all (fun v=>decide (v < (m:Int)))=false:=all_no _ _ j x hx (decide_eq_false hxm);have HNO:=hid hno;clear hx hrw hgv hno hxm hx0
       go_wp2_with (go_at_call 143;(with_reducible refine HGV.out.mono ?_);rintro e w5 ⟨rfl,T5⟩)
       go_ret;exact ⟨by rw [HNO.out];rfl,HTT.out.trans (hT.trans T5)⟩
   · obtain rfl:j=vs.length:=by omega
     have ha:=HA.out;rw [List.take_length] at ha;have HA':=hid ha;clear ha
     go_wp2_with fail
     go_ret;exact ⟨by rw [HA'.out];rfl,HTT.out.trans hT⟩
end
theorem infoP:(Try.prog.info? 165).map (fun i=>(i.zero,i.size,i.bytes))=some (some (.pointer none),1,8):=by kernel_rfl
theorem rec2_set0 {w:World} {bb:Nat} {x y:Value} {T:TypeId} (h:w.heap[bb]? = some (.cells #[x,y] T (0,0))) (u:Value) :
 (w.setCell ⟨bb,0,none⟩ u).heap[bb]? = some (.cells #[u,y] T (0,0)):=by
 have:=heap_setCell_same w bb 0 _ T u h;simpa using this
theorem rec2_set1 {w:World} {bb:Nat} {x y:Value} {T:TypeId} (h:w.heap[bb]? = some (.cells #[x,y] T (0,0))) (u:Value) :
 (w.setCell ⟨bb,1,none⟩ u).heap[bb]? = some (.cells #[x,u] T (0,0)):=by
 have:=heap_setCell_same w bb 1 _ T u h;simpa using this
theorem turned_store4 (W:World) (g:Nat) (c0 c1 c2 c3:Value):Turned (fun k=>k=g) W ((((W.setCell ⟨g,0,none⟩ c0).setCell ⟨g,1,none⟩ c1).setCell ⟨g,2,none⟩ c2).setCell ⟨g,3,none⟩ c3):=
 ((((Turned.refl (fun k=>k=g) W).setCell (p:=⟨g,0,none⟩) (.inr rfl) _).setCell (p:=⟨g,1,none⟩) (.inr rfl) _).setCell (p:=⟨g,2,none⟩) (.inr rfl) _).setCell (p:=⟨g,3,none⟩) (.inr rfl) _
section
variable {p:Nat→Prop} {bb sb m:Nat} {lv tv:Value} {l:TL} {w w':World}
set_option maxRecDepth 100000 in
theorem fresh87 (h:BI p bb sb lv tv m l w) (hm:m < 65536) :
 Calls Try.prog 87 #[.pointer (some ⟨bb,0,none⟩)] w fun e w'=>e = .returned (.tuple #[.agg #[.int .i64 0,.int .i64 (m:Int),.string ByteArray.empty,.slice none 0 0],.bool true])∧(∃ lv',BI p bb sb lv' tv (m+1) l w'∧(lv'.ownBlock=lv.ownBlock∨∀ k,lv'.ownBlock=some k→w.heap.size≤k))∧Turned (fun k=>k=bb∨lv.ownBlock=some k) w w':=by
 obtain ⟨i0,hi0,hz0,hz1,hz2⟩:=info_parts infoP;obtain ⟨a,c,rfl⟩:=h.row.shape;have hmx:=h.row.max;have hm2:decide (65536≤(m:Int))=false:=decide_eq_false (by omega);have h2:=twoBox w (.cells #[.int .i64 0,.int .i64 0,.string ⟨#[]⟩,.slice none 0 0] 27) (.cells #[.pointer none] 165);have hb2:=(h2.1.bt h.b);have hb1:=(((Turned.refl (fun _=>False) w).alloc (.cells #[.int .i64 0,.int .i64 0,.string ⟨#[]⟩,.slice none 0 0] 27)).bt h.b);have hrw:=h.row.turned0 h2.1;have hnb:=news_block (cs:=[.pointer none]) h2.2.2.2;have hbl:=(zL h.b)
 have hown:Hid (∀ k,(k=bb∨(Value.slice a m c).ownBlock=some k)→k < w.heap.size):=fun k hk=>h.own_lt k (hk.elim .inl (fun e=>.inr (.inr (.inl e))))
 have H:=hid h;have H2:=hid h2;obtain ⟨c0,c1,_⟩:=rec2b hb1;obtain ⟨d0,d1,_⟩:=rec2b hb2;have HRW:=hid hrw;have HNB:=hid hnb;have HB2:=hid hb2;clear h h2 hrw hnb hb2 hb1;go_enter Try.func87,Try.ntmps87
 go_wp2_with (first
  | (at_builtin;refine append_some _ rfl _ _ 161 rfl 165 i0 (.pointer none) 1 8 Try.underlying161 hi0 hz0 hz1 hz2 rfl (by decide) _ _ _ rfl HRW.out ⟨w.heap.size+1,0,none⟩ 1 1 [.pointer none] rfl rfl HNB.out (by simp [Value.oneCell']) (by omega) (by unfold maxLen;omega) (by omega) ?_;intro g cap w3 hrow3 T3 hg3;have hb3:=(T3.block bb (by have:=H2.out.2.1;omega) H.out.ne.2.1).trans HB2.out;obtain ⟨e0,e1,f0,f1⟩:=rec2b hb3;have HROW:=hid hrow3;have HB4:=hid (rec2_set0 hb3 (.slice (some ⟨g,0,none⟩) (m+1) cap));have HG3:Hid (some g=(Value.slice a m c).ownBlock∨w.heap.size+2≤g):=hg3.elim .inl (fun e=>.inr (by rw [e];exact Nat.le_of_eq H2.out.2.1.symm));have HT4:=hid ((T3.mono (fun k _ e=>Or.inr e):Turned (fun k=>k=bb∨(Value.slice a m c).ownBlock=some k) _ w3).setCell (p:=⟨bb,0,none⟩) (.inr (.inl rfl)) (.slice (some ⟨g,0,none⟩) (m+1) cap));clear hrow3 hb3 hg3 c0 c1 d0 d1 T3)
  | (go_at_call 62;(with_reducible refine (varE (m:Int) (by unfold I64;omega) _).mono ?_);rintro e w5 ⟨rfl,T5⟩;have hx5:=(T5.block w.heap.size (by have:=HT4.out.size;have:=H2.out.2.1;omega) (fun f=>f)).trans ((HT4.out.block w.heap.size (by have:=H2.out.2.1;omega) (fun e=>by have:=hown.out _ e;omega)).trans H2.out.2.2.1);obtain ⟨_,_,_,_,g0,g1,g2,g3⟩:=cells4 hx5;have HX5:=hid hx5;clear hx5))
 have hset:=set4 (a':=.int .i64 0) (b':=.int .i64 (m:Int)) (c':=.string ByteArray.empty) (d':=.slice none 0 0) HX5.out;have Tq:=turned_store4 w5 w.heap.size (.int .i64 0) (.int .i64 (m:Int)) (.string ByteArray.empty) (.slice none 0 0);have T15:Turned (fun k=>k=bb∨(Value.slice a m c).ownBlock=some k) w w5:=((H2.out.1.mono (fun _ _ f=>f.elim)).trans HT4.out).trans (T5.mono (fun _ _ f=>f.elim));have T16:=T15.step Tq (fun i hi e=>by omega);refine bodyPost_ret (results_cell_tmp1 Try.results87 _ _ w.heap.size 27 _ (0,0) _ rfl hset Try.underlying27 rfl (by kernel_rfl)) rfl ⟨rfl,⟨.slice (some ⟨g,0,none⟩) (m+1) cap,?_,?_⟩,T16⟩
 · have hgn:∀ q,(Value.slice (some ⟨g,0,none⟩) (m+1) cap).ownBlock=some q→q≠bb∧q≠w.heap.size:=fun q e=>by
    simp [Value.ownBlock] at e;subst e
    rcases HG3.out with e | e
    · exact ⟨fun c=>H.out.ne.2.1 (by rw [←e,c]),by have:=hown.out g (.inr e.symm);omega⟩
    · omega
   refine H.out.fresh hm T16 ?_ ?_ ?_
   · have h5:=(T5.block bb (by have:=HT4.out.size;have:=H2.out.2.1;omega) (fun f=>f)).trans HB4.out
     exact (Tq.block bb (zL h5) (by omega)).trans h5
   · have r4:=HROW.out.setCell (p:=⟨bb,0,none⟩) (fun e=>(hgn _ e).1 rfl) (.slice (some ⟨g,0,none⟩) (m+1) cap)
     exact (r4.turned0 T5).turned Tq (fun k hk e=>(hgn k hk).2 e)
   · rcases HG3.out with e | e
     · exact .inl e
     · exact .inr (fun k hk=>by simp [Value.ownBlock] at hk;omega)
 · rcases HG3.out with e | e
   · exact .inl e
   · exact .inr (fun k hk=>by simp [Value.ownBlock] at hk;omega)
end
theorem infoN3:(Try.prog.info? 2).map (fun i=>(i.zero,i.size,i.bytes))=some (some (.int .i64 0),1,8):=by kernel_rfl
set_option maxRecDepth 100000 in
theorem push146 {w:World} {sb n g0:Nat} {tv:Value} {xs:List Value} {x:Int} (hs:w.heap[sb]? = some (.cells #[.int .i64 65536,tv] 209 (0,0))) (hr:Row w 2 1 tv n xs) (hn:n < 65536) (hne:tv.ownBlock≠some sb) (h0:w.heap[g0]? = some (.cells #[.int .i64 x] 2 (0,0))) :
 Calls Try.prog 146 #[.pointer (some ⟨sb,0,none⟩),.slice (some ⟨g0,0,none⟩) 1 1] w fun e w'=>e = .returned (.bool true)∧∃ tv',w'.heap[sb]? = some (.cells #[.int .i64 65536,tv'] 209 (0,0))∧Row w' 2 1 tv' (n+1) (xs++[.int .i64 x])∧Turned (fun k=>k=sb∨tv.ownBlock=some k) w w'∧(tv'.ownBlock=tv.ownBlock∨∀ k,tv'.ownBlock=some k→w.heap.size≤k):=by
 obtain ⟨i0,hi0,hz0,hz1,hz2⟩:=info_parts infoN3;obtain ⟨a,c,rfl⟩:=hr.shape;have hmx:=hr.max;obtain ⟨c0,c1,f0,f1⟩:=rec2b hs;have hnb:=news_block (cs:=[.int .i64 x]) h0;have hsl:=(zL hs)
 have ht:¬ ((65536:Int) - (n:Int) < 1):=by omega
 have ht2:(1:Int)≤65536 - (n:Int):=by omega
 have HS:=hid hs;have HR:=hid hr;have HNB:=hid hnb;have HNE:=hid hne;clear hs hr hnb hne h0;go_enter Try.func146,Try.ntmps146
 go_wp2_with fail
 go_quiet (fail)
 go_wp2_with (at_builtin;refine append_some _ rfl _ _ 24 rfl 2 i0 (.int .i64 0) 1 8 Try.underlying24 hi0 hz0 hz1 hz2 rfl (by decide) _ _ _ rfl (HR.out.turned0 ((Turned.refl _ _).drewN _)) ⟨g0,0,none⟩ 1 1 [.int .i64 x] rfl rfl HNB.out (by simp [Value.oneCell']) (by omega) (by unfold maxLen;omega) (by omega) ?_;intro g cap w3 hrow3 T3 hg3;have T3':Turned (fun k=>(Value.slice a n c).ownBlock=some k) w w3:=((Turned.refl _ w).drewN _).trans T3;have hs3:=(T3'.block sb hsl HNE.out).trans HS.out;obtain ⟨e0,e1,k0,k1⟩:=rec2b hs3;have HS4:=hid (rec2_set1 hs3 (.slice (some ⟨g,0,none⟩) (n+1) cap));have HROW:=hid hrow3;have HT3:=hid T3';have HG3:Hid (some g=(Value.slice a n c).ownBlock∨w.heap.size≤g):=hg3.elim .inl (fun e=>.inr (by rw [e];exact Qm _));clear hs3 hrow3 T3 T3' hg3 c0 c1 f0 f1)
 go_ret;refine ⟨rfl,.slice (some ⟨g,0,none⟩) (n+1) cap,HS4.out,HROW.out.setCell (p:=⟨sb,1,none⟩) (fun e=>?_) _,(HT3.out.mono (fun k _ e=>Or.inr e):Turned (fun k=>k=sb∨(Value.slice a n c).ownBlock=some k) w w3).setCell (p:=⟨sb,1,none⟩) (.inr (.inl rfl)) _,?_⟩
 · simp [Value.ownBlock] at e
   subst e
   rcases HG3.out with e | e
   · exact HNE.out e.symm
   · omega
 · rcases HG3.out with e | e
   · exact .inl e
   · exact .inr (fun k hk=>by simp [Value.ownBlock] at hk;omega)
theorem markS154 {w:World} {sb n:Nat} {tv:Value} {xs:List Value} (hs:w.heap[sb]? = some (.cells #[.int .i64 65536,tv] 209 (0,0))) (hr:Row w 2 1 tv n xs) :
 Calls Try.prog 154 #[.pointer (some ⟨sb,0,none⟩)] w fun e w'=>e = .returned (.int .i64 n)∧w'=w:=by
 obtain ⟨a,c,rfl⟩:=hr.shape;obtain ⟨c0,c1,f0,f1⟩:=rec2b hs;clear hs hr;go_enter Try.func154,Try.ntmps154
 go_wp2_with fail
 go_ret;exact ⟨rfl,rfl⟩
section
variable {p:Nat→Prop} {bb sb m:Nat} {lv tv:Value} {l:TL} {w w':World}
theorem mark111 (h:BI p bb sb lv tv m l w):Calls Try.prog 111 #[.pointer (some ⟨bb,0,none⟩)] w fun e w'=>e = .returned (.int .i64 l.length)∧Turned zN w w':=by
 obtain ⟨c0,c1,f0,f1⟩:=rec2b h.b;have hm:=markS154 h.s h.trail;have HM:=hid hm;clear h hm;go_enter Try.func111,Try.ntmps111
 go_wp2_with (go_at_call 154;(with_reducible refine HM.out.mono ?_);rintro e w3 ⟨rfl,rfl⟩)
 go_ret;exact ⟨rfl,Turned.refl _ _⟩
end
end Go.Proofs.Ytoihjobdfjajfaa
namespace Go.Proofs.Ytoihjobdfjajfaa
namespace Tm
def hasL (most:Nat) (n:Int):Nat→List (Tm Unit)→Bool × Nat
 | c,[]=>(false,c)
 | c,x :: l=>if most < c+1∨(x.kind=0∧x.n=n) then (true,c+1) else hasL most n (c+1) l
theorem hasL_append (most:Nat) (n:Int) (a b:List (Tm Unit)):∀ c,hasL most n c (a++b)=if (hasL most n c a).1=true then hasL most n c a else hasL most n (hasL most n c a).2 b:=by
 induction a with
 | nil=>intro c;simp [hasL]
 | cons x a ih=>
  intro c;simp only [List.cons_append,hasL]
  split
  · rfl
  · exact ih (c+1)
theorem hasL_le (most:Nat) (n:Int) (l:List (Tm Unit)):∀ c,c≤(hasL most n c l).2∧(hasL most n c l).2≤c+l.length:=by
 induction l with
 | nil=>intro c;exact ⟨Qm _,Qm _⟩
 | cons x l ih=>
  intro c;simp only [hasL,QB]
  split
  · exact ⟨Nat.le_succ c,by simp only [];omega⟩
  · have:=ih (c+1);omega
theorem hasL_most (most:Nat) (n:Int) (l:List (Tm Unit)):∀ c,c≤most→(hasL most n c l).2≤most+1:=by
 induction l with
 | nil=>intro c h;exact Nat.le_succ_of_le h
 | cons x l ih=>
  intro c h;simp only [hasL]
  split
  · simp only [];omega
  · rename_i h1
    exact ih (c+1) (by omega)
theorem hasL_in (most:Nat) (n:Int) (l:List (Tm Unit)):∀ c,(hasL most n c l).2≤most→((hasL most n c l).1=true↔∃ x∈l,x.kind=0∧x.n=n):=by
 induction l with
 | nil=>intro c _;simp [hasL]
 | cons x l ih=>
  intro c h;simp only [hasL] at h ⊢
  split
  · rename_i h1
    rw [if_pos h1] at h;simp only [] at h
    rcases h1 with h1 | h1
    · omega
    · exact ⟨fun _=>⟨x,Qe ..,h1⟩,fun _=>rfl⟩
  · rename_i h1
    rw [if_neg h1] at h;rw [ih (c+1) h];constructor
    · rintro ⟨y,hy,h2⟩;exact ⟨y,Qb _ hy,h2⟩
    · rintro ⟨y,hy,h2⟩
      rcases Qw.1 hy with rfl | hy
      · exact absurd (Or.inr h2) h1
      · exact ⟨y,hy,h2⟩
theorem hasL_vars {most:Nat} {n:Int} {t:Tm Unit} (h:(hasL most n 0 t.flat).2≤most):(hasL most n 0 t.flat).1=decide (n∈t.vars):=by
 rw [Bool.eq_iff_iff,hasL_in most n t.flat 0 h,decide_eq_true_eq,vars_mem];rfl
theorem Walked.flat_var {m:Nat} {l:Trail} {t x:Tm Unit} (hl:okT m l) (h:Walked m l t x) (hk:x.kind=0):(Tm.img l t).flat=[x]:=by
 rw [h.var hl hk,flat_eq];have:=leafy_self h.leafy hk;rw [this];rfl
theorem Walked.flat_node {m:Nat} {l:Trail} {t x:Tm Unit} (hl:okT m l) (h:Walked m l t x) (hk:¬ x.kind=0):(Tm.img l t).flat=Tm.img l x :: flats (x.args.map (Tm.img l))∧¬ (Tm.img l x).kind=0:=by
 rw [←h.img,img_args hk];refine ⟨?_,hk⟩;rw [flat_eq];rfl
theorem hasL_node {most c:Nat} {n:Int} {y:Tm Unit} {l:List (Tm Unit)} (hk:¬ y.kind=0) (hc:c < most):hasL most n c (y :: l)=hasL most n (c+1) l:=by
 simp only [hasL];rw [if_neg]
 rintro (h | h)
 · omega
 · exact hk h.1
theorem hasL_stop {most c:Nat} {n:Int} {l:List (Tm Unit)} (hc:most≤c) (hl:l≠[]):hasL most n c l=(true,c+1):=by
 cases l with
 | nil=>exact absurd rfl hl
 | cons y l=>simp only [hasL];rw [if_pos (.inl (by omega))]
theorem hasL_hit {most c:Nat} {n:Int} {y:Tm Unit} {l:List (Tm Unit)} (hk:y.kind=0) (hn:y.n=n):hasL most n c (y :: l)=(true,c+1):=by
 simp only [hasL];rw [if_pos (.inr ⟨hk,hn⟩)]
theorem hasL_miss {most c:Nat} {n:Int} {y:Tm Unit} {l:List (Tm Unit)} (hn:¬ (y.kind=0∧y.n=n)) (hc:c < most):hasL most n c (y :: l)=hasL most n (c+1) l:=by
 simp only [hasL];rw [if_neg]
 rintro (h | h)
 · omega
 · exact hn h
theorem okT_drop {m:Nat}:∀ (k:Nat) {l:Trail},okT m l→okT m (l.drop k)
 | 0,_,h=>h
 | _+1,[],h=>h
 | k+1,_ :: l,h=>okT_drop k h.1
theorem img_vars_free {m:Nat} {l:Trail} {t:Tm Unit} (hl:okT m l) (ht:ownB m t=true) {v:Int} (hv:v∈(img l t).vars):v∉dom l:=
 img_nums hl (good_leafy (ownB_iff.1 ht).1) ((vars_mem v).1 hv)
end Tm
namespace Tm
def walkF:Nat→Trail→Tm Unit→Tm Unit
 | 0,_,t=>t
 | k+1,l,t=>if t.kind=0 then (match look l t.n with | some p=>walkF k l p | none=>t) else t
open Classical in
noncomputable def walkG (l:Trail) (x:Tm Unit):Nat:=if x.kind=0 then rk l x.n+1 else 0
theorem walkG_lt {m:Nat} {l:Trail} (h:okT m l) {t p:Tm Unit} (hk:t.kind=0) (hp:look l t.n=some p):walkG l p < walkG l t:=by
 unfold walkG;rw [if_pos hk]
 split
 · rename_i h0
   have:=rk_lt h hp (v:=p.n) ⟨p,by rw [flat_eq];exact Qe ..,h0,rfl⟩;omega
 · omega
theorem walkF_enough {m:Nat} {l:Trail} (h:okT m l):∀ (k k':Nat) (t:Tm Unit),walkG l t≤k→walkG l t≤k'→walkF k l t=walkF k' l t:=by
 intro k
 induction k with
 | zero=>
  intro k' t h1 _
  have hk:¬ t.kind=0:=fun c=>by unfold walkG at h1;rw [if_pos c] at h1;omega
  cases k' with
  | zero=>rfl
  | succ k'=>simp only [walkF,if_neg hk]
 | succ k ih=>
  intro k' t h1 h2
  cases k' with
  | zero=>
   have hk:¬ t.kind=0:=fun c=>by unfold walkG at h2;rw [if_pos c] at h2;omega
   simp only [walkF,if_neg hk]
  | succ k'=>
   simp only [walkF]
   split
   · rename_i hk
     cases hp:look l t.n with
     | none=>rfl
     | some p=>
      have:=walkG_lt h hk hp;exact ih k' p (by omega) (by omega)
   · rfl
noncomputable def walkT (l:Trail) (t:Tm Unit):Tm Unit:=walkF (walkG l t) l t
theorem walkT_step {m:Nat} {l:Trail} (h:okT m l) {t p:Tm Unit} (hk:t.kind=0) (hp:look l t.n=some p):walkT l t=walkT l p:=by
 have h1:=walkG_lt h hk hp;obtain ⟨k,hk'⟩:∃ k,walkG l t=k+1:=⟨walkG l t - 1,by omega⟩;unfold walkT;rw [hk'];simp only [walkF,if_pos hk,hp];exact walkF_enough h _ _ _ (by omega) (Qm _)
theorem walkT_stop {l:Trail} {t:Tm Unit} (h:t.kind=0→look l t.n=none):walkT l t=t:=by
 unfold walkT
 cases walkG l t with
 | zero=>rfl
 | succ k=>
  simp only [walkF]
  split
  · rename_i hk
    rw [h hk]
  · rfl
theorem walked {m:Nat} {l:Trail} (h:okT m l):∀ (k:Nat) (t:Tm Unit),walkG l t≤k→(∀ y∈t.flat,goodOneB y=true)→Walked m l t (walkT l t):=by
 intro k
 induction k with
 | zero=>
  intro t hk ht
  have hk:¬ t.kind=0:=fun c=>by unfold walkG at hk;rw [if_pos c] at hk;omega
  rw [walkT_stop (fun c=>absurd c hk)];exact Walked.self ht (fun c=>absurd c hk)
 | succ k ih=>
  intro t hk ht
  by_cases h0:t.kind=0
  · cases hp:look l t.n with
    | none=>
     rw [walkT_stop (fun _=>hp)];exact Walked.self ht (fun _=>look_none.1 hp)
    | some p=>
     rw [walkT_step h h0 hp];have h1:=walkG_lt h h0 hp;exact Walked.step h (leafy_good ht) h0 hp (ih p (by omega) (good_ones' (okT_mem h (look_mem hp)).2.2.1))
  · rw [walkT_stop (fun c=>absurd c h0)]
    exact Walked.self ht (fun c=>absurd c h0)
theorem ownB_arg {m:Nat} {t x:Tm Unit} (h:ownB m t=true) (hk:¬ t.kind=0) (hx:x∈t.args):ownB m x=true:=by
 obtain ⟨h1,h2⟩:=ownB_iff.1 h;refine ownB_iff.2 ⟨?_,fun v hv=>h2 v ((numsIn_args hk).2 ⟨x,hx,hv⟩)⟩;unfold goodB at h1 ⊢;simp only [Qd,decide_eq_true_eq,Qt] at h1 ⊢
 have hxf:∀ y∈x.flat,y∈t.flat:=fun y hy=>by rw [flat_eq];exact Qb _ (mem_flats_iff.2 ⟨x,hx,hy⟩)
 refine ⟨?_,?_,fun y hy=>h1.2.2 y (hxf y hy)⟩
 · have:=mem_flat_size t x (hxf x (by rw [flat_eq];exact Qe ..));omega
 · have:=depths_mem hx;have:=depth_eq t;omega
theorem walkT_own {m:Nat} {l:Trail} (h:okT m l):∀ (k:Nat) (t:Tm Unit),walkG l t≤k→ownB m t=true→ownB m (walkT l t)=true:=by
 intro k
 induction k with
 | zero=>
  intro t hk ht
  have hk:¬ t.kind=0:=fun c=>by unfold walkG at hk;rw [if_pos c] at hk;omega
  rw [walkT_stop (fun c=>absurd c hk)];exact ht
 | succ k ih=>
  intro t hk ht
  by_cases h0:t.kind=0
  · cases hp:look l t.n with
    | none=>rw [walkT_stop (fun _=>hp)];exact ht
    | some p=>
     rw [walkT_step h h0 hp];have h1:=walkG_lt h h0 hp;have h2:=okT_mem h (look_mem hp);exact ih p (by omega) (ownB_iff.2 ⟨h2.2.2.1,h2.2.2.2⟩)
  · rw [walkT_stop (fun c=>absurd c h0)];exact ht
def solves (θ:Int→Tm Unit) (l:Trail):Prop:=∀ b∈l,θ b.1=subT θ b.2
theorem solves_cons {θ:Int→Tm Unit} {b:Int × Tm Unit} {l:Trail}:solves θ (b :: l)↔θ b.1=subT θ b.2∧solves θ l:=by
 unfold solves;constructor
 · intro h;exact ⟨h b (Qe ..),fun c hc=>h c (Qb _ hc)⟩
 · rintro ⟨h1,h2⟩ c hc
   rcases Qw.1 hc with rfl | hc
   · exact h1
   · exact h2 c hc
theorem subT_V1 (θ:Int→Tm Unit) (i:Int):subT θ (V i)=θ i:=by simp only [V,subT,if_pos]
theorem solves_sig {θ:Int→Tm Unit} {l:Trail} (h:solves θ l) (i:Int):subT θ (sig l i)=θ i:=by
 induction l generalizing i with
 | nil=>exact subT_V1 θ i
 | cons b l ih=>
  obtain ⟨h1,h2⟩:=solves_cons.1 h;simp only [sig];rw [subT_subT,subT_congr (τ:=θ) _ (fun x _ _=>?_),ih h2];unfold put
  split
  · rename_i e
    rw [subT_subT,subT_congr (τ:=θ) _ (fun x _ _=>ih h2 _),e,h1]
  · exact subT_V1 θ _
theorem solves_img {θ:Int→Tm Unit} {l:Trail} (h:solves θ l) (t:Tm Unit):subT θ (img l t)=subT θ t:=by
 unfold img;rw [subT_subT];exact subT_congr t (fun x _ _=>solves_sig h _)
theorem look_of_mem {m:Nat} {l:Trail} (h:okT m l) {b:Int × Tm Unit} (hb:b∈l):look l b.1=some b.2:=by
 induction l with
 | nil=>cases hb
 | cons c l ih=>
  simp only [look]
  rcases Qw.1 hb with rfl | hb
  · rw [if_pos rfl]
  · rw [if_neg (fun e=>h.2.2.2.1 (by rw [e];exact List.mem_map.2 ⟨b,hb,rfl⟩)),ih h.1 hb]
theorem sig_solves {m:Nat} {l:Trail} (h:okT m l):solves (sig l) l:=fun b hb=>sig_look h (look_of_mem h hb)
theorem solves_walk {m:Nat} {l:Trail} (h:okT m l) {θ:Int→Tm Unit} (hs:solves θ l) {t:Tm Unit} (ht:∀ y∈t.flat,goodOneB y=true):subT θ (walkT l t)=subT θ t:=by
 have hw:=walked h _ t (Qm _) ht;rw [←solves_img hs (walkT l t),hw.img,solves_img hs]
theorem size_within (θ:Int→Tm Unit) {t:Tm Unit} (ht:leafy t) (hk:¬ t.kind=0) {n:Int} (hn:numsIn t n):(θ n).size < (subT θ t).size:=by
 cases t with | mk k i s e aa=>
 simp only [kind] at hk;have h1:=(numsIn_mk hk).1 hn;have h2:=subTs_mem θ n aa h1 (fun x hx=>ht x (by rw [flat_eq];exact Qb _ hx));have h3:=mem_flats_size _ _ h2;simp only [subT,if_neg hk,size];omega
inductive UR where
 | ok (l:Trail) (left:Nat)
 | no (left:Nat)
 | over
inductive UStep where
 | more (ps:List (Tm Unit × Tm Unit))
 | done (r:UR)
def tieU (l:Trail) (left:Nat) (n:Int) (t:Tm Unit):UR:=
 if left < (hasL left n 0 (img l t).flat).2 then .over
 else if (hasL left n 0 (img l t).flat).1=true then .no (left - (hasL left n 0 (img l t).flat).2)
 else .ok ((n,t) :: l) (left - (hasL left n 0 (img l t).flat).2)
def headsB (x y:Tm Unit):Bool:=decide (x.kind=y.kind) && (decide (x.n=y.n) && (decide (x.name=y.name) && decide (x.args.length=y.args.length)))
theorem headsB_iff {x y:Tm Unit}:headsB x y=true↔x.kind=y.kind∧x.n=y.n∧x.name=y.name∧x.args.length=y.args.length:=by
 unfold headsB;simp only [Qd,decide_eq_true_eq]
def oneU (l:Trail) (left:Nat) (x y:Tm Unit):UStep:=
 if x.kind=0 then
  if y.kind=0 then
   if x.n=y.n then .done (.ok l left) else .done (.ok ((max x.n y.n,V (min x.n y.n)) :: l) left)
  else .done (tieU l left x.n y)
 else if y.kind=0 then .done (tieU l left y.n x)
 else if headsB x y=true then .more (x.args.zip y.args) else .done (.no left)
noncomputable def uni:Nat→Trail→Nat→List (Tm Unit × Tm Unit)→UR
 | 0,_,_,_=>.over
 | _+1,l,left,[]=>.ok l left
 | k+1,l,left,(x,y) :: r=>
  if left=0 then .over else
  match oneU l (left - 1) (walkT l x) (walkT l y) with
  | .more ps=>uni k l (left - 1) (ps++r)
  | .done (.ok l' left')=>uni k l' left' r
  | .done (.no q)=>.no q
  | .done .over=>.over
theorem tieU_left {l l':Trail} {left left':Nat} {n:Int} {t:Tm Unit} (h:tieU l left n t = .ok l' left'):left'≤left∧l'=(n,t) :: l:=by
 unfold tieU at h
 split at h
 · cases h
 · split at h
   · cases h
   · injection h with h1 h2;exact ⟨by omega,h1.symm⟩
theorem oneU_left {l l':Trail} {left left':Nat} {x y:Tm Unit} (h:oneU l left x y = .done (.ok l' left')):left'≤left:=by
 unfold oneU at h
 split at h
 · split at h
   · split at h
     · injection h with h;injection h with _ h2;omega
     · injection h with h;injection h with _ h2;omega
   · injection h with h;exact (tieU_left h).1
 · split at h
   · injection h with h;exact (tieU_left h).1
   · split at h
     · cases h
     · injection h with h;cases h
theorem oneU_pre {l l':Trail} {left left':Nat} {x y:Tm Unit} (h:oneU l left x y = .done (.ok l' left')):∃ a,l'=a++l:=by
 unfold oneU at h
 split at h
 · split at h
   · split at h
     · injection h with h;injection h with h1 _;exact ⟨[],h1.symm⟩
     · injection h with h;injection h with h1 _;exact ⟨[_],h1.symm⟩
   · injection h with h;exact ⟨[_],(tieU_left h).2⟩
 · split at h
   · injection h with h;exact ⟨[_],(tieU_left h).2⟩
   · split at h
     · cases h
     · injection h with h;cases h
theorem oneU_more_len {m:Nat} {l:Trail} {left:Nat} {x y:Tm Unit} {ps:List (Tm Unit × Tm Unit)} (h:oneU l left x y = .more ps) (hx:ownB m x=true):ps.length≤8:=by
 unfold oneU at h
 split at h
 · split at h
   · split at h <;> cases h
   · cases h
 · split at h
   · cases h
   · split at h
     · injection h with h
       rw [←h,List.length_zip]
       by_cases ha:x.args=[]
       · rw [ha];simp
       · have:=(one_args (good_ones' (ownB_iff.1 hx).1 x (by rw [flat_eq];exact Qe ..)) ha).2.2
         omega
     · cases h
theorem uni_enough:∀ (k k':Nat) (l:Trail) (left:Nat) (todo:List (Tm Unit × Tm Unit)),left < k→left < k'→uni k l left todo=uni k' l left todo:=by
 intro k
 induction k with
 | zero=>intro k' l left todo h;omega
 | succ k ih=>
  intro k' l left todo h h';obtain ⟨k',rfl⟩:∃ q,k'=q+1:=⟨k' - 1,by omega⟩
  cases todo with
  | nil=>rfl
  | cons p r=>
   obtain ⟨x,y⟩:=p;simp only [uni]
   by_cases h0:left=0
   · rw [if_pos h0,if_pos h0]
   · rw [if_neg h0,if_neg h0]
     cases hs:oneU l (left - 1) (walkT l x) (walkT l y) with
     | more ps=>exact ih k' _ _ _ (by omega) (by omega)
     | done u=>
      cases u with
      | ok l' left'=>
       have:=oneU_left hs;exact ih k' _ _ _ (by omega) (by omega)
      | no q=>rfl
      | over=>rfl
noncomputable def unify (l:Trail) (left:Nat) (todo:List (Tm Unit × Tm Unit)):UR:=uni (left+1) l left todo
theorem unify_zero (l:Trail) (p:Tm Unit × Tm Unit) (r:List (Tm Unit × Tm Unit)):unify l 0 (p :: r) = .over:=by
 obtain ⟨x,y⟩:=p;unfold unify;simp only [uni,if_pos]
theorem unify_more {l:Trail} {left:Nat} {x y:Tm Unit} {ps r:List (Tm Unit × Tm Unit)} (h:oneU l left (walkT l x) (walkT l y) = .more ps):unify l (left+1) ((x,y) :: r)=unify l left (ps++r):=by
 unfold unify;rw [show left+1+1=(left+1)+1 from rfl];simp only [uni,Nat.add_one_ne_zero,if_false,Nat.add_sub_cancel,h]
theorem unify_ok {l l':Trail} {left left':Nat} {x y:Tm Unit} {r:List (Tm Unit × Tm Unit)} (h:oneU l left (walkT l x) (walkT l y) = .done (.ok l' left')):unify l (left+1) ((x,y) :: r)=unify l' left' r:=by
 have h1:=oneU_left h;unfold unify;rw [show left+1+1=(left+1)+1 from rfl];simp only [uni,Nat.add_one_ne_zero,if_false,Nat.add_sub_cancel,h];exact uni_enough _ _ _ _ _ (by omega) (by omega)
theorem unify_no {l:Trail} {left q:Nat} {x y:Tm Unit} {r:List (Tm Unit × Tm Unit)} (h:oneU l left (walkT l x) (walkT l y) = .done (.no q)):unify l (left+1) ((x,y) :: r) = .no q:=by
 unfold unify;rw [show left+1+1=(left+1)+1 from rfl];simp only [uni,Nat.add_one_ne_zero,if_false,Nat.add_sub_cancel,h]
theorem unify_over {l:Trail} {left:Nat} {x y:Tm Unit} {r:List (Tm Unit × Tm Unit)} (h:oneU l left (walkT l x) (walkT l y) = .done .over):unify l (left+1) ((x,y) :: r) = .over:=by
 unfold unify;rw [show left+1+1=(left+1)+1 from rfl];simp only [uni,Nat.add_one_ne_zero,if_false,Nat.add_sub_cancel,h]
def allEq (θ:Int→Tm Unit) (todo:List (Tm Unit × Tm Unit)):Prop:=∀ p∈todo,subT θ p.1=subT θ p.2
def ownP (m:Nat) (todo:List (Tm Unit × Tm Unit)):Prop:=∀ p∈todo,ownB m p.1=true∧ownB m p.2=true
theorem ownB_var {m:Nat} {t:Tm Unit} (h:ownB m t=true) (hk:t.kind=0):0≤t.n∧t.n < (m:Int)∧t=V t.n:=by
 obtain ⟨h1,h2⟩:=ownB_iff.1 h;have h3:=good_ones' h1 t (by rw [flat_eq];exact Qe ..);rw [goodOneB_0 t hk] at h3;simp only [Qd,decide_eq_true_eq] at h3;exact ⟨h3.1,h2 _ ⟨t,by rw [flat_eq];exact Qe ..,hk,rfl⟩,leafy_self (good_leafy h1) hk⟩
theorem goodB_V {i:Int} (h0:0≤i) (h1:i≤2147483647):goodB (V i)=true:=by
 unfold goodB;rw [flat_V];simp only [Qd,decide_eq_true_eq,Qt,Qw,Ql,or_false];refine ⟨by simp [V,size,sizes],by simp [V,depth,depths],?_⟩
 rintro x rfl
 rw [goodOneB_0 _ rfl];simp only [V,Tm.n,name,args,List.length_nil,Qd,decide_eq_true_eq];refine ⟨decide_eq_true h0,decide_eq_true h1,?_,?_⟩
 · first | rfl | (exact decide_eq_true rfl) | simp
 · first | rfl | trivial | simp
theorem ownB_V {m:Nat} {i:Int} (h0:0≤i) (h1:i < (m:Int)) (hm:m≤65536):ownB m (V i)=true:=
 ownB_iff.2 ⟨goodB_V h0 (by omega),fun v hv=>by rw [numsIn_V.1 hv];exact h1⟩
def TieOk (m:Nat) (l:Trail) (n:Int) (t:Tm Unit):UR→Prop
 | .ok l' _=>l'=(n,t) :: l∧okT m l'∧setE m l n t=0
 | .no _=>∀ θ,solves θ l→θ n≠subT θ t
 | .over=>True
theorem tieU_spec {m:Nat} {l:Trail} (hl:okT m l) {left:Nat} {n:Int} {t:Tm Unit} (h0:0≤n) (h1:n < (m:Int)) (hn:n∉dom l) (ht:ownB m t=true) (hk:¬ t.kind=0):TieOk m l n t (tieU l left n t):=by
 obtain ⟨g1,g2⟩:=ownB_iff.1 ht;unfold tieU
 split
 · trivial
 · rename_i hle
   have hv:=hasL_vars (most:=left) (n:=n) (t:=img l t) (by omega)
   split
   · rename_i hh
     intro θ hs e;rw [hv,decide_eq_true_eq] at hh;have hi:=(vars_mem n).1 hh
     have hki:¬ (img l t).kind=0:=by rw [img_args hk];exact hk
     have:=size_within θ (img_leafy hl (good_leafy g1)) hki hi;rw [solves_img hs,←e] at this;omega
   · rename_i hh
     rw [hv,decide_eq_true_eq] at hh;refine ⟨rfl,⟨hl,h0,h1,hn,g1,g2,fun c=>hh ((vars_mem n).2 c)⟩,?_⟩;unfold setE;rw [if_pos ⟨h0,h1,ht⟩,if_neg hn,if_neg hh]
theorem ext_mk {x y:Tm Unit} (h1:x.kind=y.kind) (h2:x.n=y.n) (h3:x.name=y.name) (h4:x.args=y.args):x=y:=by
 cases x;cases y
 simp only [kind,Tm.n,name,args] at h1 h2 h3 h4;subst h1 h2 h3 h4;rfl
theorem subT_node (θ:Int→Tm Unit) {x:Tm Unit} (hk:¬ x.kind=0):subT θ x = .mk x.kind x.n x.name () (x.args.map (subT θ)):=by
 cases x with | mk k n s e aa=>
 simp only [kind] at hk;simp only [subT,if_neg hk,subTs_eq,kind,Tm.n,name,args]
theorem zip_all {f:Tm Unit→Tm Unit}:∀ {a b:List (Tm Unit)},a.length=b.length→((∀ p∈a.zip b,f p.1=f p.2)↔a.map f=b.map f)
 | [],[],_=>by simp
 | x :: a,y :: b,h=>by
  have:=zip_all (f:=f) (a:=a) (b:=b) (by simpa using h);simp only [List.zip_cons_cons,Qw,forall_eq_or_imp,Qx,List.cons.injEq,this]
def UniOk (m:Nat) (l:Trail) (left:Nat) (todo:List (Tm Unit × Tm Unit)):UR→Prop
 | .ok l' left'=>okT m l'∧(∃ a,l'=a++l)∧left'≤left∧∀ θ,solves θ l'↔solves θ l∧allEq θ todo
 | .no _=>∀ θ,solves θ l→¬ allEq θ todo
 | .over=>True
theorem unify_spec {m:Nat} (hm:m≤65536):∀ (k:Nat) (l:Trail) (left:Nat) (todo:List (Tm Unit × Tm Unit)),okT m l→ownP m todo→∀ r,uni k l left todo=r→UniOk m l left todo r:=by
 intro k
 induction k with
 | zero=>intro l left todo _ _ r h;subst h;trivial
 | succ k ih=>
  intro l left todo hl ho r h
  cases todo with
  | nil=>
   subst h;exact ⟨hl,⟨[],rfl⟩,Qm _,fun θ=>⟨fun h=>⟨h,fun p hp=>by cases hp⟩,fun h=>h.1⟩⟩
  | cons p rest=>
   obtain ⟨x,y⟩:=p;simp only [uni] at h
   split at h
   · subst h;trivial
   · rename_i h0
     obtain ⟨hx,hy⟩:=ho (x,y) (Qe ..)
     have hrest:ownP m rest:=fun p hp=>ho p (Qb _ hp)
     have hX:=walkT_own hl _ x (Qm _) hx;have hY:=walkT_own hl _ y (Qm _) hy;have wX:=walked hl _ x (Qm _) (good_ones' (ownB_iff.1 hx).1);have wY:=walked hl _ y (Qm _) (good_ones' (ownB_iff.1 hy).1)
     have sX:∀ θ,solves θ l→subT θ (walkT l x)=subT θ x:=fun θ hs=>solves_walk hl hs (good_ones' (ownB_iff.1 hx).1)
     have sY:∀ θ,solves θ l→subT θ (walkT l y)=subT θ y:=fun θ hs=>solves_walk hl hs (good_ones' (ownB_iff.1 hy).1)
     revert h hX hY wX wY sX sY;generalize walkT l x=X;generalize walkT l y=Y;intro h hX hY wX wY sX sY
     have hcons:∀ θ,allEq θ ((x,y) :: rest)↔subT θ x=subT θ y∧allEq θ rest:=fun θ=>by
      unfold allEq;simp only [Qw,forall_eq_or_imp]
     -- a pair bound: what it says
     have bound:∀ (n:Int) (t:Tm Unit) (left':Nat),okT m ((n,t) :: l)→left'≤left→(∀ θ,solves θ l→(subT θ x=subT θ y↔θ n=subT θ t))→∀ r,uni k ((n,t) :: l) left' rest=r→
      UniOk m l left ((x,y) :: rest) r:=by
      intro n t left' hok hle hb r hr;have:=ih _ left' rest hok hrest r hr
      cases r with
      | ok l' q=>
       obtain ⟨g1,⟨a,g2⟩,g4,g3⟩:=this;refine ⟨g1,⟨a++[(n,t)],by rw [g2];simp⟩,by omega,fun θ=>?_⟩;rw [g3,solves_cons,hcons];constructor
       · rintro ⟨⟨h1,h2⟩,h3⟩;exact ⟨h2,(hb θ h2).2 h1,h3⟩
       · rintro ⟨h2,h1,h3⟩;exact ⟨⟨(hb θ h2).1 h1,h2⟩,h3⟩
      | no q=>
       intro θ hs hc;obtain ⟨h1,h2⟩:=(hcons θ).1 hc;exact this θ (solves_cons.2 ⟨(hb θ hs).1 h1,hs⟩) h2
      | over=>trivial
     have tied:∀ (n:Int) (t:Tm Unit),0≤n→n < (m:Int)→n∉dom l→ownB m t=true→¬ t.kind=0→(∀ θ,solves θ l→(subT θ x=subT θ y↔θ n=subT θ t))→∀ r,
      (match UStep.done (tieU l (left - 1) n t) with
       | .more ps=>uni k l (left - 1) (ps++rest)
       | .done (.ok l' left')=>uni k l' left' rest
       | .done (.no q)=>.no q
       | .done .over=>.over)=r→
      UniOk m l left ((x,y) :: rest) r:=by
      intro n t g0 g1 g2 g3 g4 hb r hr;have hsp:=tieU_spec hl (left:=left - 1) g0 g1 g2 g3 g4
      have hlf:=fun l' left'=>tieU_left (l:=l) (l':=l') (left:=left - 1) (left':=left') (n:=n) (t:=t)
      revert hr hsp hlf
      cases tieU l (left - 1) n t with
      | ok l' left'=>
       intro hr hsp hlf;obtain ⟨e1,e2,_⟩:=hsp;subst e1;exact bound n t left' e2 (by have:=(hlf _ _ rfl).1;omega) hb r hr
      | no q=>
       intro hr hsp _;simp only at hr;subst hr
       exact fun θ hs hc=>hsp θ hs ((hb θ hs).1 ((hcons θ).1 hc).1)
      | over=>
       intro hr _ _;simp only at hr;subst hr;trivial
     unfold oneU at h
     by_cases kx:X.kind=0
     · obtain ⟨x0,x1,xe⟩:=ownB_var hX kx
       have xf:=wX.free kx
       have xs:∀ θ,solves θ l→subT θ x=θ X.n:=fun θ hs=>by rw [←sX θ hs,xe,subT_V1];rfl
       rw [if_pos kx] at h
       by_cases ky:Y.kind=0
       · obtain ⟨y0,y1,ye⟩:=ownB_var hY ky
         have yf:=wY.free ky
         have ys:∀ θ,solves θ l→subT θ y=θ Y.n:=fun θ hs=>by rw [←sY θ hs,ye,subT_V1];rfl
         rw [if_pos ky] at h
         by_cases hxy:X.n=Y.n
         · rw [if_pos hxy] at h
           have:=ih l (left - 1) rest hl hrest r h
           cases r with
           | ok l' q=>
            obtain ⟨g1,g2,g4,g3⟩:=this;refine ⟨g1,g2,by omega,fun θ=>?_⟩;rw [g3,hcons];exact ⟨fun ⟨a,b⟩=>⟨a,by rw [xs θ a,ys θ a,hxy],b⟩,fun ⟨a,_,b⟩=>⟨a,b⟩⟩
           | no q=>exact fun θ hs hc=>this θ hs ((hcons θ).1 hc).2
           | over=>trivial
         · rw [if_neg hxy] at h
           have hmn:∀ θ:Int→Tm Unit,(θ X.n=θ Y.n↔θ (max X.n Y.n)=subT θ (V (min X.n Y.n))):=fun θ=>by
            rw [subT_V1]
            rcases Int.le_total X.n Y.n with c | c
            · rw [Int.max_eq_right c,Int.min_eq_left c];exact ⟨fun e=>e.symm,fun e=>e.symm⟩
            · rw [Int.max_eq_left c,Int.min_eq_right c]
           refine bound (max X.n Y.n) (V (min X.n Y.n)) (left - 1) ?_ (by omega) (fun θ hs=>by rw [xs θ hs,ys θ hs];exact hmn θ) r h
           have h2:min X.n Y.n∉dom l:=by
            rcases Int.le_total X.n Y.n with c | c
            · rw [Int.min_eq_left c];exact xf
            · rw [Int.min_eq_right c];exact yf
           refine ⟨hl,by show 0≤max X.n Y.n;omega,by show max X.n Y.n < (m:Int);omega,?_,goodB_V (by omega) (by omega),fun v hv=>by rw [numsIn_V.1 hv];omega,?_⟩
           · show max X.n Y.n∉dom l
             rcases Int.le_total X.n Y.n with c | c
             · rw [Int.max_eq_right c];exact yf
             · rw [Int.max_eq_left c];exact xf
           · show ¬ numsIn (img l (V (min X.n Y.n))) (max X.n Y.n)
             rw [img_V,sig_free hl h2];intro c;have:=numsIn_V.1 c;omega
       · rw [if_neg ky] at h
         exact tied X.n Y x0 x1 xf hY ky (fun θ hs=>by rw [xs θ hs,sY θ hs]) r h
     · rw [if_neg kx] at h
       by_cases ky:Y.kind=0
       · obtain ⟨y0,y1,ye⟩:=ownB_var hY ky
         have yf:=wY.free ky
         have ys:∀ θ,solves θ l→subT θ y=θ Y.n:=fun θ hs=>by rw [←sY θ hs,ye,subT_V1];rfl
         rw [if_pos ky] at h;exact tied Y.n X y0 y1 yf hX kx (fun θ hs=>by rw [ys θ hs,sX θ hs];exact ⟨fun e=>e.symm,fun e=>e.symm⟩) r h
       · rw [if_neg ky] at h
         by_cases hh:headsB X Y=true
         · rw [if_pos hh] at h
           obtain ⟨e1,e2,e3,e4⟩:=headsB_iff.1 hh
           have hargs:∀ θ,solves θ l→(subT θ x=subT θ y↔allEq θ (X.args.zip Y.args)):=fun θ hs=>by
            rw [←sX θ hs,←sY θ hs,subT_node θ kx,subT_node θ ky];unfold allEq;rw [zip_all e4];constructor
            · intro e;injection e
            · intro e;rw [e1,e2,e3,e]
           have hown:ownP m (X.args.zip Y.args++rest):=fun p hp=>by
            rcases Qn.1 hp with hp | hp
            · have:=List.of_mem_zip hp
              exact ⟨ownB_arg hX kx this.1,ownB_arg hY ky this.2⟩
            · exact hrest p hp
           have happ:∀ θ,allEq θ (X.args.zip Y.args++rest)↔allEq θ (X.args.zip Y.args)∧allEq θ rest:=fun θ=>by
            unfold allEq;simp only [Qn];exact ⟨fun h=>⟨fun p hp=>h p (.inl hp),fun p hp=>h p (.inr hp)⟩,fun h p hp=>hp.elim (h.1 p) (h.2 p)⟩
           have:=ih l (left - 1) _ hl hown r h
           cases r with
           | ok l' q=>
            obtain ⟨g1,g2,g4,g3⟩:=this;refine ⟨g1,g2,by omega,fun θ=>?_⟩;rw [g3,hcons,happ];exact ⟨fun ⟨a,b,c⟩=>⟨a,(hargs θ a).2 b,c⟩,fun ⟨a,b,c⟩=>⟨a,(hargs θ a).1 b,c⟩⟩
           | no q=>exact fun θ hs hc=>this θ hs ((happ θ).2 ⟨(hargs θ hs).1 ((hcons θ).1 hc).1,((hcons θ).1 hc).2⟩)
           | over=>trivial
         · rw [if_neg hh] at h
           simp only at h;subst h;intro θ hs hc;have e:=((hcons θ).1 hc).1;rw [←sX θ hs,←sY θ hs,subT_node θ kx,subT_node θ ky] at e
           injection e with e1 e2 e3 _ e4
           exact hh (headsB_iff.2 ⟨e1,e2,e3,by have:=congrArg List.length e4;simpa using this⟩)
end Tm
end Go.Proofs.Ytoihjobdfjajfaa
namespace Go.Proofs.Ytoihjobdfjajfaa
open Go.RowKit Go.Maps
def given (m:Nat) (t:LT):Prop:=(∀ z∈t.bare.flat,goodOneB z=true)∧∀ v,Tm.numsIn t.bare v→v < (m:Int)
theorem given_leafy {m:Nat} {t:LT} (h:given m t):Tm.leafy t.bare:=Tm.leafy_good h.1
theorem given_one {m:Nat} {t:LT} (h:given m t):goodOneB t=true:=by
 rw [←goodOneB_bare];exact h.1 _ (by rw [Tm.flat_eq];exact Qe ..)
theorem given_var {m:Nat} {t:LT} (h:given m t) (hk:t.kind=0):0≤t.n∧t.n < (m:Int)∧t.n≤2147483647∧t.args=[]∧t.bare=Tm.V t.n:=by
 have h1:=given_one h;have h2:=h1;rw [goodOneB_0 t hk] at h1;simp only [Qd,decide_eq_true_eq] at h1
 have hb:t.bare=Tm.V t.n:=by
  have:=Tm.leafy_self (given_leafy h) (by rw [Tm.bare_kind];exact hk)
  rwa [Tm.bare_n] at this
 exact ⟨h1.1,h.2 _ (by rw [hb];exact Tm.numsIn_V.2 rfl),h1.2.1,Qh h1.2.2.2,hb⟩
theorem given_args {m:Nat} {t:LT} (h:given m t) (hk:¬ t.kind=0):∀ a∈t.args,given m a:=by
 intro a ha
 have hm:a.bare∈t.bare.args:=by rw [Tm.bare_args,Tm.bares_eq];exact List.mem_map_of_mem ha
 refine ⟨fun z hz=>h.1 z ?_,fun v hv=>h.2 v ((Tm.numsIn_args (by rw [Tm.bare_kind];exact hk)).2 ⟨_,hm,hv⟩)⟩;rw [Tm.flat_eq];exact Qb _ (Tm.mem_flats_iff.2 ⟨_,hm,hz⟩)
theorem given_arity {m:Nat} {t:LT} (h:given m t):t.args.length≤8:=by
 by_cases ha:t.args=[]
 · rw [ha];exact Nat.zero_le _
 · exact (Tm.one_args (given_one h) ha).2.2
theorem given_bound {p:Nat→Prop} {bb sb m:Nat} {lv tv:Value} {l:TL} {w:World} (h:BI p bb sb lv tv m l w) {n:Int} {c:Nat} {x:LT} (hx:lookL l n=some (c,x)):given m x:=by
 have h1:(n,x.bare)∈bt l:=List.mem_map.2 ⟨_,lookL_mem hx,rfl⟩;have h2:=Tm.okT_mem h.ok h1;exact ⟨Tm.good_ones' h2.2.2.1,h2.2.2.2⟩
structure SeekI (p:Nat→Prop) (mb m:Nat) (l:TL) (n:Int) (t:LT) (w0:World) (todo:List LT) (had:List Int) (v:Value) (w:World):Prop where
 row:Row w 27 4 v todo.length (todo.flatMap LT.cells)
 own:∀ g,v.ownBlock=some g→w0.heap.size≤g
 map:IMap Try.prog 2 w mb had.length (fun i=>if i∈had then some (.bool true) else none)
 seek:Tm.Seek (bt l) n t.bare (todo.map Tm.bare) had
 mem:∀ y∈todo,y.In p w0∧given m y
 nodup:had.Nodup
 less:∀ k∈had,0≤k∧k < (m:Int)
 turned:Turned (· = mb) w0 w
 base:mb < w0.heap.size
section
variable {p:Nat→Prop} {mb m:Nat} {l:TL} {n:Int} {t x:LT} {w0 w w':World} {todo ys:List LT} {had:List Int} {v:Value}
theorem SeekI.room (h:SeekI p mb m l n t w0 todo had v w):todo.length≤Tm.sizes todo:=by
 clear h
 induction todo with
 | nil=>exact Qm _
 | cons x l ih=>have:=Tm.size_pos x;simp only [Tm.sizes,QB];omega
theorem SeekI.turned0 (h:SeekI p mb m l n t w0 todo had v w) (ht:Turned zN w w'):SeekI p mb m l n t w0 todo had v w':=
 ⟨h.row.turned0 ht,h.own,h.map.turned ht (fun f=>f),h.seek,h.mem,h.nodup,h.less,h.turned.trans (ht.mono (fun _ _ f=>f.elim)),h.base⟩
theorem SeekI.pop {g k cap:Nat} (h:SeekI p mb m l n t w0 (ys++[x]) had (.slice (some ⟨g,0,none⟩) k cap) w):k=ys.length+1∧Row w 27 4 (.slice (some ⟨g,0,none⟩) ys.length cap) ys.length (ys.flatMap LT.cells)∧ys.length+1≤cap∧cap≤maxLen:=by
 have hr:=h.row
 have hn:k=ys.length+1:=by
  rcases hr.2 with ⟨e,_⟩ | ⟨g',c',cur,e,_⟩
  · cases e
  · injection e with _ e _;simp at e;exact e
 subst hn
 have hcap:ys.length+1≤cap∧cap≤maxLen:=by
  rcases hr.2 with ⟨e,_⟩ | ⟨g',c',cur,e,_,h1,h2,_⟩
  · cases e
  · injection e with _ _ e;subst e;simp at h1;omega
 have hr':Row w 27 4 (.slice (some ⟨g,0,none⟩) (ys.length+1) cap) (ys.length+1) ((ys++[x]).flatMap LT.cells):=by simpa using hr
 have ht:=hr'.take (m:=ys.length) (c:=cap) (by omega) (by omega) (Qm _);rw [List.flatMap_append,List.take_left' (by rw [LT.flat_length])] at ht;exact ⟨rfl,ht,hcap⟩
theorem SeekI.top {g k cap:Nat} (h:SeekI p mb m l n t w0 (ys++[x]) had (.slice (some ⟨g,0,none⟩) k cap) w) :
 w.cell? ⟨g,ys.length * 4,none⟩=some (.int .i64 x.kind)∧w.cell? ⟨g,ys.length * 4+1,none⟩=some (.int .i64 x.n)∧w.cell? ⟨g,ys.length * 4+2,none⟩=some (.string x.name)∧w.cell? ⟨g,ys.length * 4+3,none⟩=some (.slice x.at_.1 x.args.length x.at_.2):=by
 have hn:=h.pop.1;subst hn
 have hr:Row w 27 4 (.slice (some ⟨g,0,none⟩) (ys.length+1) cap) (ys.length+1) ((ys++[x]).flatMap LT.cells):=by simpa using h.row
 have hi:(ys++[x])[ys.length]? = some x:=by simp
 refine ⟨hr.cells rfl _ _ ?_,hr.cells rfl _ _ ?_,hr.cells rfl _ _ ?_,hr.cells rfl _ _ ?_⟩
 · have:=LT.flat_at hi 0 (by omega);rw [Nat.add_zero] at this;rw [this,LT.cells_eq];rfl
 · rw [LT.flat_at hi 1 (by omega),LT.cells_eq];rfl
 · rw [LT.flat_at hi 2 (by omega),LT.cells_eq];rfl
 · rw [LT.flat_at hi 3 (by omega),LT.cells_eq];rfl
theorem SeekI.args {v':Value} (h:SeekI p mb m l n t w0 (ys++[x]) had v w) (hk:¬ x.kind=0) (hr:Row w' 27 4 v' (ys.length+x.args.length) (ys.flatMap LT.cells++x.args.flatMap LT.cells)) (ht:Turned (fun k=>v.ownBlock=some k) w w') (ho:v'.ownBlock=v.ownBlock∨∀ k,v'.ownBlock=some k→w.heap.size≤k):SeekI p mb m l n t w0 (ys++x.args) had v' w':=by
 obtain ⟨hx,hg⟩:=h.mem x (by simp);refine ⟨?_,fun g e=>?_,h.map.turned ht (fun e=>?_),?_,fun y hy=>?_,h.nodup,h.less,h.turned.step ht (fun i hi e=>?_),h.base⟩
 · rw [List.flatMap_append,Qi];exact hr
 · rcases ho with ho | ho
   · exact h.own g (ho ▸ e)
   · have:=ho g e
     have:=h.turned.size;omega
 · have:=h.own _ e;have:=h.base;omega
 · have hs:=h.seek
   rw [List.map_append,Qx,List.map_nil] at hs;have:=hs.args (by rw [Tm.bare_kind];exact hk);rw [Tm.bare_args,Tm.bares_eq] at this;rw [List.map_append];exact this
 · rcases Qn.1 hy with hy | hy
   · exact h.mem y (Qc _ hy)
   · exact ⟨(LT.ins_iff _).1 hx.args y hy,given_args hg hk y hy⟩
 · have:=h.own i e;omega
theorem SeekI.row_var {v':Value} (h:SeekI p mb m l n t w0 (ys++[x]) had v w) (hr:Row w' 27 4 v' (ys.length+0) (ys.flatMap LT.cells++[])) (ht:Turned (fun k=>v.ownBlock=some k) w w') (ho:v'.ownBlock=v.ownBlock∨∀ k,v'.ownBlock=some k→w.heap.size≤k) :
 Row w' 27 4 v' ys.length (ys.flatMap LT.cells)∧(∀ g,v'.ownBlock=some g→w0.heap.size≤g)∧IMap Try.prog 2 w' mb had.length (fun i=>if i∈had then some (.bool true) else none)∧Turned (· = mb) w0 w':=by
 refine ⟨by simpa using hr,fun g e=>?_,h.map.turned ht (fun e=>?_),h.turned.step ht (fun i hi e=>?_)⟩
 · rcases ho with ho | ho
   · exact h.own g (ho ▸ e)
   · have:=ho g e
     have:=h.turned.size;omega
 · have:=h.own _ e;have:=h.base;omega
 · have:=h.own i e;omega
theorem SeekI.skip {v':Value} (h:SeekI p mb m l n t w0 (ys++[x]) had v w) (hk:x.kind=0) (hm:x.n∈had) (hr:Row w' 27 4 v' (ys.length+0) (ys.flatMap LT.cells++[])) (ht:Turned (fun k=>v.ownBlock=some k) w w') (ho:v'.ownBlock=v.ownBlock∨∀ k,v'.ownBlock=some k→w.heap.size≤k):SeekI p mb m l n t w0 ys had v' w':=by
 obtain ⟨q1,q2,q3,q4⟩:=h.row_var hr ht ho;have hg:=(h.mem x (by simp)).2;refine ⟨q1,q2,q3,?_,fun y hy=>h.mem y (Qc _ hy),h.nodup,h.less,q4,h.base⟩;have hs:=h.seek;rw [List.map_append,Qx,List.map_nil,(given_var hg hk).2.2.2.2] at hs;exact hs.skip hm
theorem had_upd {k:Int}:upd (fun i=>if i∈had then some (Value.bool true) else none) k (.bool true)=fun i=>if i∈k :: had then some (.bool true) else none:=by
 funext i
 unfold upd
 by_cases h:i=k
 · rw [if_pos h,if_pos (by rw [h];exact Qe ..)]
 · rw [if_neg h]
   show (if i∈had then some (Value.bool true) else none)=_
   by_cases hq:i∈had
   · rw [if_pos hq,if_pos (Qb _ hq)]
   · rw [if_neg hq,if_neg (by simp [h,hq])]
theorem SeekI.met {v':Value} {w1 w2:World} (h:SeekI p mb m l n t w0 (ys++[x]) had v w) (hk:x.kind=0) (hm:x.n∉had) (hr:Row w1 27 4 v' (ys.length+0) (ys.flatMap LT.cells++[])) (ht:Turned (fun k=>v.ownBlock=some k) w w1) (ho:v'.ownBlock=v.ownBlock∨∀ k,v'.ownBlock=some k→w.heap.size≤k)
 (hm2:IMap Try.prog 2 w2 mb (if ((fun i=>if i∈had then some (Value.bool true) else none) x.n).isSome then had.length else had.length+1) (upd (fun i=>if i∈had then some (Value.bool true) else none) x.n (.bool true))) (ht2:Turned (· = mb) w1 w2) :
 Row w2 27 4 v' ys.length (ys.flatMap LT.cells)∧(∀ g,v'.ownBlock=some g→w0.heap.size≤g)∧IMap Try.prog 2 w2 mb (x.n :: had).length (fun i=>if i∈x.n :: had then some (.bool true) else none)∧Turned (· = mb) w0 w2∧(x.n :: had).Nodup∧∀ k∈x.n :: had,0≤k∧k < (m:Int):=by
 obtain ⟨q1,q2,q3,q4⟩:=h.row_var hr ht ho;have hg:=given_var (h.mem x (by simp)).2 hk;refine ⟨q1.turned ht2 (fun k e c=>?_),q2,?_,q4.step ht2 (fun i _ e=>e),List.nodup_cons.2 ⟨hm,h.nodup⟩,fun k e=>?_⟩
 · have:=q2 k e;have:=h.base;omega
 · rw [had_upd] at hm2
   simp only [if_neg hm,Option.isSome_none] at hm2;simpa using hm2
 · rcases Qw.1 e with rfl | e
   · exact ⟨hg.1,hg.2.1⟩
   · exact h.less k e
theorem SeekI.free {bb sb:Nat} {lv tv v':Value} {w1 w2:World} (hb:Tm.okT m (bt l)) (h:SeekI p mb m l n t w0 (ys++[x]) had v w) (hk:x.kind=0) (hm:x.n∉had) (hne:¬ x.n=n) (hl:lookL l x.n=none) (hr:Row w1 27 4 v' (ys.length+0) (ys.flatMap LT.cells++[])) (ht:Turned (fun k=>v.ownBlock=some k) w w1) (ho:v'.ownBlock=v.ownBlock∨∀ k,v'.ownBlock=some k→w.heap.size≤k)
 (hm2:IMap Try.prog 2 w2 mb (if ((fun i=>if i∈had then some (Value.bool true) else none) x.n).isSome then had.length else had.length+1) (upd (fun i=>if i∈had then some (Value.bool true) else none) x.n (.bool true))) (ht2:Turned (· = mb) w1 w2):SeekI p mb m l n t w0 ys (x.n :: had) v' w2:=by
 obtain ⟨q1,q2,q3,q4,q5,q6⟩:=h.met hk hm hr ht ho hm2 ht2;have hs:=h.seek;rw [List.map_append,Qx,List.map_nil,(given_var (h.mem x (by simp)).2 hk).2.2.2.2] at hs;exact ⟨q1,q2,q3,hs.free hb (by rw [look_bt,hl];rfl) hne,fun y hy=>h.mem y (Qc _ hy),q5,q6,q4,h.base⟩
theorem SeekI.bound {bb sb c:Nat} {lv tv v' v'':Value} {y:LT} {w1 w2 w3:World} (hb:BI p bb sb lv tv m l w0) (h:SeekI p mb m l n t w0 (ys++[x]) had v w) (hk:x.kind=0) (hm:x.n∉had) (hl:lookL l x.n=some (c,y)) (hr:Row w1 27 4 v' (ys.length+0) (ys.flatMap LT.cells++[])) (ht:Turned (fun k=>v.ownBlock=some k) w w1) (ho:v'.ownBlock=v.ownBlock∨∀ k,v'.ownBlock=some k→w.heap.size≤k)
 (hm2:IMap Try.prog 2 w2 mb (if ((fun i=>if i∈had then some (Value.bool true) else none) x.n).isSome then had.length else had.length+1) (upd (fun i=>if i∈had then some (Value.bool true) else none) x.n (.bool true))) (ht2:Turned (· = mb) w1 w2)
 (hr3:Row w3 27 4 v'' (ys.length+1) (ys.flatMap LT.cells++y.cells)) (ht3:Turned (fun k=>v'.ownBlock=some k) w2 w3) (ho3:v''.ownBlock=v'.ownBlock∨∀ k,v''.ownBlock=some k→w2.heap.size≤k):SeekI p mb m l n t w0 (ys++[y]) (x.n :: had) v'' w3:=by
 obtain ⟨q1,q2,q3,q4,q5,q6⟩:=h.met hk hm hr ht ho hm2 ht2;have hs:=h.seek;rw [List.map_append,Qx,List.map_nil,(given_var (h.mem x (by simp)).2 hk).2.2.2.2] at hs;have hs':=hs.bound hb.ok (by rw [look_bt,hl];rfl);refine ⟨?_,fun g e=>?_,q3.turned ht3 (fun e=>?_),?_,fun z hz=>?_,q5,q6,q4.step ht3 (fun i hi e=>?_),h.base⟩
 · rw [List.flatMap_append,Qi]
   simpa using hr3
 · rcases ho3 with ho3 | ho3
   · exact q2 g (ho3 ▸ e)
   · have:=ho3 g e
     have:=q4.size;omega
 · have:=q2 _ e;have:=h.base;omega
 · rw [List.map_append];exact hs'
 · rcases Qn.1 hz with hz | hz
   · exact h.mem z (Qc _ hz)
   · rw [List.mem_singleton] at hz
     subst hz;exact ⟨(hb.terms _ (lookL_mem hl)).2.1,given_bound hb hl⟩
 · have:=q2 i e;omega
theorem SeekI.size (hb:Tm.okT m (bt l)) (h:SeekI p mb m l n t w0 todo had v w):had.length≤m:=nodup_length m had h.nodup h.less
end
end Go.Proofs.Ytoihjobdfjajfaa
namespace Go.Proofs.Ytoihjobdfjajfaa
open Lib (hid)
open Go.RowKit Go.Maps
structure WalkI (p:Nat→Prop) (m:Nat) (l:TL) (t:LT) (w0:World) (x:LT):Prop where
 inn:x.In p w0
 ones:∀ z∈x.bare.flat,goodOneB z=true
 on:Tm.walkT (bt l) x.bare=Tm.walkT (bt l) t.bare
theorem WalkI.step {p:Nat→Prop} {bb sb m:Nat} {lv tv:Value} {l:TL} {w:World} {t x y:LT} {c:Nat} (hb:BI p bb sb lv tv m l w) (h:WalkI p m l t w x) (hk:x.kind=0) (hl:lookL l x.n=some (c,y)):WalkI p m l t w y∧Tm.walkG (bt l) y.bare < Tm.walkG (bt l) x.bare:=by
 have h1:Tm.look (bt l) x.n=some y.bare:=by rw [look_bt,hl];rfl
 have hm:=Tm.okT_mem hb.ok (Tm.look_mem h1);rw [←Tm.bare_n x] at h1
 have hk':x.bare.kind=0:=by rw [Tm.bare_kind];exact hk
 exact ⟨⟨(hb.terms _ (lookL_mem hl)).2.1,Tm.good_ones' hm.2.2.1,by rw [←Tm.walkT_step hb.ok hk' h1];exact h.on⟩,Tm.walkG_lt hb.ok hk' h1⟩
theorem WalkI.done {p:Nat→Prop} {m:Nat} {l:TL} {w:World} {t x:LT} (h:WalkI p m l t w x) (hk:x.kind=0→x.n∉Tm.dom (bt l)):x.bare=Tm.walkT (bt l) t.bare:=by
 rw [←h.on,Tm.walkT_stop (fun e=>?_)];rw [Tm.bare_kind] at e;rw [Tm.bare_n];exact Tm.look_none.2 (hk e)
def WalkR (p:Nat→Prop) (m:Nat) (l:TL) (t:LT) (B:Nat) (w0:World) (k:Nat) (wr:World):Prop:=
 ∃ x:LT,Hid (Tm.walkG (bt l) x.bare=k)∧Hid (WalkI p m l t w0 x)∧wr.heap[B]? = some (.cells #[.int .i64 x.kind,.int .i64 x.n,.string x.name,.slice x.at_.1 x.args.length x.at_.2] 27 (0,0))∧wr.heap[B+1]? = some (.cells #[.int .i64 0,.int .i64 0,.string ⟨#[]⟩,.slice none 0 0] 27 (0,0))∧Turned zN w0 wr
set_option maxRecDepth 100000 in
theorem walk90 {p:Nat→Prop} {bb sb m:Nat} {lv tv:Value} {l:TL} {w:World} {t:LT} (h:BI p bb sb lv tv m l w) (ht:t.In p w) (hg:∀ z∈t.bare.flat,goodOneB z=true) :
 Calls Try.prog 90 #[.pointer (some ⟨bb,0,none⟩),t.val] w fun e w'=>∃ x:LT,e = .returned x.val∧x.In p w'∧x.bare=Tm.walkT (bt l) t.bare∧Turned zN w w':=by
 have h2:=twoBox w (.cells #[.int .i64 t.kind,.int .i64 t.n,.string t.name,.slice t.at_.1 t.args.length t.at_.2] 27) (.cells #[.int .i64 0,.int .i64 0,.string ⟨#[]⟩,.slice none 0 0] 27);have hst:Hid (WalkI p m l t w t):=⟨ht,hg,rfl⟩;have H:=hid h;have H2:=hid h2;clear h ht hg h2;rw [LT.val_eq];go_enter Try.func90,Try.ntmps90
 go_wp2_with fail
 revert H2;generalize ((w.alloc (.cells #[.int .i64 t.kind,.int .i64 t.n,.string t.name,.slice t.at_.1 t.args.length t.at_.2] 27)).alloc (.cells #[.int .i64 0,.int .i64 0,.string ⟨#[]⟩,.slice none 0 0] 27))=w2;intro H2
 go_loopg [] (Tm.walkG (bt l) t.bare) (fun k wr=>WalkR p m l t w.heap.size w k wr)
 case atStart=>exact ⟨t,rfl,hst,H2.out.2.2.1,H2.out.2.2.2,H2.out.1⟩
 case round=>
  obtain ⟨x,HG,HI,hb0,hb1,hT⟩:=hrel;obtain ⟨x0,x1,x2,x3,_⟩:=cells4 hb0;obtain ⟨z0,z1,z2,z3,f0,f1,f2,f3⟩:=cells4 hb1;have HB0:=hid hb0;have HB1:=hid hb1;have HBI:=hid (H.out.turned0 hT);clear hb0 hb1
  by_cases hk:x.kind=0
  · have hkx:(x.kind == 0)=true:=by simp [hk]
    have h0:0≤x.n:=by
     have:=HI.out.ones x.bare (by rw [Tm.flat_eq];exact Qe ..);rw [goodOneB_bare,goodOneB_0 x hk] at this;simp only [Qd,decide_eq_true_eq] at this;exact this.1
    have HK:=hid hk;clear hk
    have hgv:=fun n=>given143q (HBI.out.turned0 ((Turned.refl _ wr).drewN n)) x.n
    by_cases hm:x.n < (m:Int)
    · rw [decide_eq_true (⟨h0,hm⟩:0≤x.n∧x.n < (m:Int))] at hgv
      have HGV:=hid hgv;clear hgv;obtain ⟨g,cl,hle⟩:=HBI.out.row.shape_pos (by omega);subst hle;obtain ⟨b0,_⟩:=rec2b HBI.out.b;have hmx:=HBI.out.row.max;have hm65:=HBI.out.most;have hrow:=HBI.out.row.cells rfl x.n.toNat _ (ptrs_at (by omega));rw [Int.toNat_of_nonneg h0] at hrow
      cases hlk0:lookL l x.n with
      | none=>
       rw [hlk0,ptrV] at hrow;have hdone:=HI.out.done (fun _=>(H.out.free).1 hlk0);have HD:=hid hdone;clear hlk0 hdone
       go_wp2_with fail
       go_quiet ((go_at_call 143;exact Calls.quiet_of_same (HGV.out _)))
       go_wp2_with fail
       have hbq:(wr.drewN nq).heap[w.heap.size+1]? = _:=HB1.out;have hset:=set4 (a':=.int .i64 x.kind) (b':=.int .i64 x.n) (c':=.string x.name) (d':=.slice x.at_.1 x.args.length x.at_.2) hbq;have T4:=turned4 (a:=.int .i64 x.kind) (b:=.int .i64 x.n) (c:=.string x.name) (d:=.slice x.at_.1 x.args.length x.at_.2) (hT.drewN nq) (g:=w.heap.size+1) (by omega);refine bodyPost_ret (v:=.agg #[.int .i64 x.kind,.int .i64 x.n,.string x.name,.slice x.at_.1 x.args.length x.at_.2]) (results_cell_row Try.results90 _ _ (w.heap.size+1) 27 _ (0,0) _ rfl hset Try.underlying27 rfl (by kernel_rfl)) rfl ⟨x,by rw [LT.val_eq],HI.out.inn.turned0 T4,HD.out,T4⟩
      | some cy=>
       obtain ⟨c,y⟩:=cy;rw [hlk0,ptrV] at hrow;have hst:=HI.out.step H.out HK.out hlk0;have HS:=hid hst;obtain ⟨y0,y1,y2,y3,_⟩:=cells4 (HBI.out.terms _ (lookL_mem hlk0)).1;clear hlk0 hst
       go_wp2_with fail
       go_quiet ((go_at_call 143;exact Calls.quiet_of_same (HGV.out _)))
       go_wp2_with fail
       refine region_tail 10 (by kernel_rfl) (by kernel_rfl) ?_;simp only [List.take_succ_cons,List.take_zero,List.drop_succ_cons,List.drop_zero]
       repeat still_step
       refine wpStill_nil ?_
       go_wp2_with fail
       have hbq:((wr.drewN nq).drew).heap[w.heap.size]? = _:=HB0.out;have hset:=set4 (a':=.int .i64 y.kind) (b':=.int .i64 y.n) (c':=.string y.name) (d':=.slice y.at_.1 y.args.length y.at_.2) hbq;have T4:=turned4 (a:=.int .i64 y.kind) (b:=.int .i64 y.n) (c:=.string y.name) (d:=.slice y.at_.1 y.args.length y.at_.2) (((hT.drewN nq)).drew) (g:=w.heap.size) (by omega);have T5:=turned_store4 ((wr.drewN nq).drew) w.heap.size (.int .i64 y.kind) (.int .i64 y.n) (.string y.name) (.slice y.at_.1 y.args.length y.at_.2);go_roundg (Tm.walkG (bt l) y.bare)
       case measure=>have:=HG.out;have:=HS.out.2;omega
       case rel=>exact ⟨y,rfl,HS.out.1,hset,(T5.block _ (zL HB1.out) (by omega)).trans HB1.out,T4⟩
    · rw [decide_eq_false (fun c=>hm c.2:¬ (0≤x.n∧x.n < (m:Int)))] at hgv
      have HGV:=hid hgv
      have hdone:=HI.out.done (fun _ e=>by
       obtain ⟨b,hb,e2⟩:=List.mem_map.1 e;have:=(Tm.okT_mem H.out.ok hb).2.1
       omega)
      have HD:=hid hdone;clear hgv hdone
      go_wp2_with fail
      go_quiet ((go_at_call 143;exact Calls.quiet_of_same (HGV.out _)))
      go_wp2_with fail
      have hbq:(wr.drewN nq).heap[w.heap.size+1]? = _:=HB1.out;have hset:=set4 (a':=.int .i64 x.kind) (b':=.int .i64 x.n) (c':=.string x.name) (d':=.slice x.at_.1 x.args.length x.at_.2) hbq;have T4:=turned4 (a:=.int .i64 x.kind) (b:=.int .i64 x.n) (c:=.string x.name) (d:=.slice x.at_.1 x.args.length x.at_.2) (hT.drewN nq) (g:=w.heap.size+1) (by omega);refine bodyPost_ret (v:=.agg #[.int .i64 x.kind,.int .i64 x.n,.string x.name,.slice x.at_.1 x.args.length x.at_.2]) (results_cell_row Try.results90 _ _ (w.heap.size+1) 27 _ (0,0) _ rfl hset Try.underlying27 rfl (by kernel_rfl)) rfl ⟨x,by rw [LT.val_eq],HI.out.inn.turned0 T4,HD.out,T4⟩
  · have hkx:(x.kind == 0)=false:=by simp [hk]
    have hdone:=HI.out.done (fun e=>absurd e hk);have HD:=hid hdone;clear hk hdone
    go_wp2_with fail
    go_quiet (fail)
    go_wp2_with fail
    have hbq:(wr.drewN nq).heap[w.heap.size+1]? = _:=HB1.out;have hset:=set4 (a':=.int .i64 x.kind) (b':=.int .i64 x.n) (c':=.string x.name) (d':=.slice x.at_.1 x.args.length x.at_.2) hbq;have T4:=turned4 (a:=.int .i64 x.kind) (b:=.int .i64 x.n) (c:=.string x.name) (d:=.slice x.at_.1 x.args.length x.at_.2) (hT.drewN nq) (g:=w.heap.size+1) (by omega);refine bodyPost_ret (v:=.agg #[.int .i64 x.kind,.int .i64 x.n,.string x.name,.slice x.at_.1 x.args.length x.at_.2]) (results_cell_row Try.results90 _ _ (w.heap.size+1) 27 _ (0,0) _ rfl hset Try.underlying27 rfl (by kernel_rfl)) rfl ⟨x,by rw [LT.val_eq],HI.out.inn.turned0 T4,HD.out,T4⟩
def blanks (n:Nat):List LT:=List.replicate n (leaf 0 0 ByteArray.empty)
theorem made_blanks (n:Nat):(madeCells zeroR.cells (n * 4)).toList=(blanks n).flatMap LT.cells:=by
 refine List.ext_getElem? (fun k=>?_)
 have hl:((blanks n).flatMap LT.cells).length=n * 4:=by rw [LT.flat_length];unfold blanks;rw [List.length_replicate]
 by_cases hk:k < n * 4
 · have hi:(blanks n)[k / 4]? = some (leaf 0 0 ByteArray.empty):=by
    unfold blanks;rw [List.getElem?_replicate,if_pos (by omega)]
   have h:=LT.flat_at hi (k % 4) (by omega);rw [show k / 4 * 4+k % 4=k from by omega] at h;rw [h];unfold madeCells;rw [Array.toList_map,Array.toList_range,Qp,List.getElem?_range hk]
   have h4:k % 4=0∨k % 4=1∨k % 4=2∨k % 4=3:=by omega
   have hz:zeroR.cells.size=4:=rfl;show some (zeroR.cells[k % zeroR.cells.size]!)=_;rw [hz]
   rcases h4 with h4 | h4 | h4 | h4 <;> rw [h4] <;> rfl
 · refine (List.getElem?_eq_none ?_).trans (List.getElem?_eq_none (by rw [hl];omega)).symm
   unfold madeCells;simp;omega
theorem blanks_length (n:Nat):(blanks n).length=n:=by unfold blanks;rw [List.length_replicate]
theorem make_blanks (n:Nat) (hn:n≤1000) (W:World):(Instr.makeSlice 39 (.int .i64 n) (.int .i64 n)).run Try.prog W = .ok (.slice (some ⟨W.heap.size,0,none⟩) n n) (W.alloc (.cells (madeCells zeroR.cells (n * 4)) 41))∧
 Row (W.alloc (.cells (madeCells zeroR.cells (n * 4)) 41)) 41 4 (.slice (some ⟨W.heap.size,0,none⟩) n n) n ((blanks n).flatMap LT.cells):=by
 obtain ⟨i0,hi0,hz0,hz1,hz2⟩:=info_parts infoR;refine ⟨?_,?_⟩
 · have h:=run_make (P:=Try.prog) W 39 41 i0 zeroR Try.underlying39 hi0 hz0 .i64 .i64 n n (by omega) (Int.le_refl _) (by rw [hz2];omega) (by omega)
   rw [hz1] at h;simpa using h
 · have h:=Row.made W 41 4 (madeCells zeroR.cells (n * 4)) n (size_madeCells _ _) (by unfold maxLen;omega)
   rw [made_blanks] at h;exact h
theorem blanks_in (n:Nat) (p:Nat→Prop) (w:World):LT.Ins p w (blanks n):=by
 rw [LT.ins_iff];intro x hx;unfold blanks at hx;rw [List.eq_of_mem_replicate hx];exact leafIn' (i64_lit _ (by omega)) (i64_lit _ (by omega)) (by unfold maxLen;decide)
structure RenI (p:Nat→Prop) (σ:Tm Unit→Tm Unit) (G:Nat) (t:LT) (w3:World) (j:Nat) (us:List LT) (W:World):Prop where
 len:us.length=t.args.length
 bares:(us.take j).map Tm.bare=(t.args.take j).map fun x=>σ x.bare
 row:Row W 41 4 (.slice (some ⟨G,0,none⟩) t.args.length t.args.length) t.args.length (us.flatMap LT.cells)
 ins:LT.Ins (fun k=>p k∨G+1≤k) W us
 turned:Turned (fun k=>k=G) w3 W
theorem RenI.put {p:Nat→Prop} {σ:Tm Unit→Tm Unit} {G:Nat} {t x u:LT} {w3 W W7:World} {j:Nat} {us:List LT} (h:RenI p σ G t w3 j us W) (hp:∀ k,p k→k < G) (hG:G < W.heap.size) (hx:t.args[j]? = some x) (hb:u.bare=σ x.bare) (hu:u.In (fun k=>p k∨W.heap.size≤k) W7) (hT:Turned zN W W7) :
 RenI p σ G t w3 (j+1) (us.set j u) ((((W7.setCell ⟨G,j * 4,none⟩ (.int .i64 u.kind)).setCell ⟨G,j * 4+1,none⟩ (.int .i64 u.n)).setCell ⟨G,j * 4+2,none⟩ (.string u.name)).setCell ⟨G,j * 4+3,none⟩ (.slice u.at_.1 u.args.length u.at_.2)):=by
 have hjl:j < t.args.length:=(Qg.1 hx).1
 have hju:j < us.length:=by rw [h.len];exact hjl
 have Tq:Turned (fun k=>k=G) W7 ((((W7.setCell ⟨G,j * 4,none⟩ (.int .i64 u.kind)).setCell ⟨G,j * 4+1,none⟩ (.int .i64 u.n)).setCell ⟨G,j * 4+2,none⟩ (.string u.name)).setCell ⟨G,j * 4+3,none⟩ (.slice u.at_.1 u.args.length u.at_.2)):=
  ((((Turned.refl (fun k=>k=G) W7).setCell (p:=⟨G,j * 4,none⟩) (.inr rfl) _).setCell (p:=⟨G,j * 4+1,none⟩) (.inr rfl) _).setCell (p:=⟨G,j * 4+2,none⟩) (.inr rfl) _).setCell (p:=⟨G,j * 4+3,none⟩) (.inr rfl) _
 refine ⟨by rw [List.length_set];exact h.len,?_,?_,?_,(h.turned.trans (hT.mono (fun _ _ f=>f.elim))).trans Tq⟩
 · have e1:(us.set j u).take (j+1)=us.take j++[u]:=by
    rw [List.take_add_one,List.take_set,List.getElem?_set_self hju];rw [List.set_eq_of_length_le (by rw [List.length_take];omega)];rfl
   have e2:t.args.take (j+1)=t.args.take j++[x]:=by rw [List.take_add_one,hx];rfl
   rw [e1,e2,List.map_append,List.map_append,h.bares];simp [hb]
 · have hr:=h.row.turned0 hT
   have r1:=hr.setAt (off:=j * 4) (by omega) (.int .i64 u.kind);have r2:=r1.setAt (off:=j * 4+1) (by omega) (.int .i64 u.n);have r3:=r2.setAt (off:=j * 4+2) (by omega) (.string u.name);have r4:=r3.setAt (off:=j * 4+3) (by omega) (.slice u.at_.1 u.args.length u.at_.2);rw [flat_set hju] at r4;exact r4
 · rw [LT.ins_iff]
   intro y hy
   have keep:∀ z:LT,z.In (fun k=>p k∨G+1≤k) W7→z.In (fun k=>p k∨G+1≤k) _:=fun z hz=>LT.In.turned Tq (fun k _ hk e=>by
    rcases hk with hk | hk
    · have:=hp k hk;omega
    · omega) (fun _ _ hk=>hk) z hz
   refine keep y ?_
   rcases List.mem_or_eq_of_mem_set hy with hy | rfl
   · exact ((LT.ins_iff _).1 h.ins y hy).turned0 hT
   · exact hu.mono (fun k _ hk=>hk.elim .inl (fun hk=>.inr (by omega)))
theorem ren_noargs {s:Int→Int} {t:Tm Unit} (hk:¬ t.kind=0) (ha:t.args=[]):Tm.ren s t=t:=by
 cases t with | mk k n nm e aa=>
 simp only [Tm.args] at ha;subst ha;unfold Tm.ren;simp only [Tm.kind] at hk;simp only [Tm.subT,if_neg hk,Tm.subTs]
theorem ren_args {s:Int→Int} {t:LT} (hg:goodOneB t=true) (ha:¬ t.args=[]):Tm.ren s t.bare = .mk 2 0 t.name () (t.args.map fun x=>Tm.ren s x.bare):=by
 obtain ⟨h1,h2,_⟩:=Tm.one_args hg ha
 cases t with | mk k n nm e aa=>
 simp only [Tm.kind,Tm.n] at h1 h2;subst h1 h2;unfold Tm.ren;simp only [Tm.bare,Tm.subT];rw [if_neg (by omega),Tm.subTs_eq,Tm.bares_eq,List.map_map];rfl
theorem ren_var {s:Int→Int} {t:LT} (hg:goodOneB t=true) (hk:t.kind=0):Tm.ren s t.bare=Tm.V (s t.n):=by
 rw [goodOneB_0 t hk] at hg
 cases t with | mk k n nm e aa=>
 simp only [Tm.kind] at hk;subst hk;unfold Tm.ren;simp only [Tm.bare,Tm.subT,if_pos,Tm.n]
theorem row_some {w:World} {e:TypeId} {size n g cap:Nat} {xs:List Value} (h:Row w e size (.slice (some ⟨g,0,none⟩) n cap) n xs) (k:Nat) (hk:k < n * size):∃ z,w.cell? ⟨g,k,none⟩=some z:=
 ⟨_,h.cells rfl k _ (Qa (by rw [h.1];exact hk))⟩
def RenL (vs:List Int) (n:Int) (w2:World) (q:Nat) (i:Value) (wr:World):Prop:=∃ j:Nat,Hid (j+q=vs.length)∧j≤vs.length∧i = .int .i64 j∧Hid (∀ k,k < j→vs[k]?≠some n)∧Turned zN w2 wr
set_option maxRecDepth 100000 in
theorem rename140 {vs:List Int} {first:Int} {va:Option Addr} {vc:Nat} (hf0:0≤first) (hf1:first≤2147483648) (hvl:vs.length≤2000) (n:Nat):∀ (p:Nat→Prop) (t:LT) (w:World),t.depth≤n→t.In p w→(∀ x∈t.flat,goodOneB x=true)→(∀ x∈t.flat,x.kind=0→x.n∈vs)→Row w 2 1 (.slice va vs.length vc) vs.length (vs.map (Value.int .i64))→
 Calls Try.prog 140 #[t.val,.slice va vs.length vc,.int .i64 first] w fun e w'=>∃ u:LT,e = .returned u.val∧u.bare=Tm.ren (Tm.fromS vs first) t.bare∧u.In (fun k=>p k∨w.heap.size≤k) w'∧Turned zN w w':=by
 induction n with
 | zero=>intro p t w h;have:=Tm.depth_pos t;omega
 | succ n ih=>
  intro p t w hd ht hg hn hrow;have h2:=twoBox w (.cells #[.int .i64 t.kind,.int .i64 t.n,.string t.name,.slice t.at_.1 t.args.length t.at_.2] 41) (.cells #[.int .i64 0,.int .i64 0,.string ⟨#[]⟩,.slice none 0 0] 41)
  have hself:t∈t.flat:=by rw [Tm.flat_eq];exact Qe ..
  have hg1:=hg t hself
  by_cases hk:t.kind=0
  · have k0:(t.kind == 0)=true:=by simp [hk]
    have hmem:=hn t hself hk;have hrv:=ren_var (s:=Tm.fromS vs first) hg1 hk;obtain ⟨tn,htn⟩:∃ z,z=t.n:=⟨_,rfl⟩;rw [←htn] at hmem hrv h2;have HRV:=hid hrv;have HM:=hid hmem;have HROW:=hid (hrow.turned0 h2.1);have H2:=hid h2;have hmax:=hrow.max;rw [LT.val_eq t,←htn];clear ih hd ht hg hn hrow hg1 hk hself hmem hrv htn;obtain ⟨c0,c1,c2,c3,_⟩:=cells4 h2.2.2.1;clear h2;go_enter Try.func140,Try.ntmps140
    go_wp2_with fail
    revert H2 HROW;generalize ((w.alloc (.cells #[.int .i64 t.kind,.int .i64 tn,.string t.name,.slice t.at_.1 t.args.length t.at_.2] 41)).alloc (.cells #[.int .i64 0,.int .i64 0,.string ⟨#[]⟩,.slice none 0 0] 41))=w2;intro HROW H2;clear c0 c1 c2 c3
    go_loopg [7] vs.length (fun q i wr=>RenL vs tn w2 q i wr)
    case atStart=>exact ⟨0,Nat.zero_add _,Nat.zero_le _,rfl,fun k hk=>absurd hk (Nat.not_lt_zero k),Turned.refl _ _⟩
    case round=>
     obtain ⟨j,HG,hj,rfl,HNO,hT⟩:=hrel
     by_cases hjl:j < vs.length
     · obtain ⟨x,hx⟩:∃ x,vs[j]? = some x:=⟨_,Qa hjl⟩
       have hrw:=HROW.out.turned0 hT;obtain ⟨gv,cap,he⟩:=hrw.shape_pos (by omega)
       injection he with e1 _ e3
       subst e1 e3;have hcv:=hrw.cells rfl j (.int .i64 x) (by rw [Qp,hx];rfl);obtain ⟨c0,c1,c2,c3,_⟩:=cells4 ((hT.bt H2.out.2.2.1));have HX:=hid hx;clear hx hrw
       by_cases hxt:x=tn
       · have hb:(x == tn)=true:=by simp [hxt]
         have hpos:=posOf_first (n:=tn) (j:=j) (by rw [HX.out,hxt]) HNO.out;have HP:=hid hpos;have hb1:=(hT.bt H2.out.2.2.2);obtain ⟨d0,d1,d2,d3,f0,f1,f2,f3⟩:=cells4 hb1;have HB1:=hid hb1;clear hpos hxt hb1
         go_wp2_with fail
         go_quiet (fail)
         go_wp2_with fail
         have hb2:(wr.drewN nq).heap[w.heap.size+1]? = _:=HB1.out;have hset:=set4 (a':=.int .i64 0) (b':=.int .i64 (first+j)) (c':=.string ⟨#[]⟩) (d':=.slice none 0 0) hb2;have T4:=turned4 (a:=.int .i64 0) (b:=.int .i64 (first+j)) (c:=.string ⟨#[]⟩) (d:=.slice none 0 0) ((H2.out.1.trans hT).drewN nq) (g:=w.heap.size+1) (by omega);refine bodyPost_ret (v:=.agg #[.int .i64 0,.int .i64 (first+j),.string ⟨#[]⟩,.slice none 0 0]) (results_cell_row Try.results140 _ _ (w.heap.size+1) 41 _ (0,0) _ rfl hset Try.underlying41 rfl (by kernel_rfl)) rfl ⟨leaf 0 (first+j) ByteArray.empty,rfl,?_,leafIn' (i64_lit _ (by omega)) (by unfold I64;omega) (by unfold maxLen;decide),T4⟩;rw [HRV.out,Tm.fromS,HP.out];rfl
       · have hb:(x == tn)=false:=by simp [hxt]
         have HNE:=hid hxt;clear hxt
         go_wp2_with fail
         go_quiet (fail)
         go_wp2_with fail
         go_roundg (gk - 1)
         case measure=>have:=HG.out;omega
         case rel=>exact ⟨j+1,show _=_ by have:=HG.out;omega,by omega,by go_num,fun k hk e=>by
          rcases Nat.lt_or_ge k j with h | h
          · exact HNO.out k h e
          · obtain rfl:k=j:=by omega
            rw [HX.out] at e
            injection e with e
            exact HNE.out e,hT.drewN nq⟩
     · exfalso
       obtain ⟨k,hk⟩:=List.getElem?_of_mem HM.out;have:=(Qg.1 hk).1;exact HNO.out k (by omega) hk
  · have k0:(t.kind == 0)=false:=by simp [hk]
    by_cases ha:t.args=[]
    · have hl:t.args.length=0:=by rw [ha];rfl
      have hren:Tm.ren (Tm.fromS vs first) t.bare=t.bare:=ren_noargs (by rw [Tm.bare_kind];exact hk) (by rw [Tm.bare_args,ha];rfl);have HREN:=hid hren;have HIN:=hid (LT.val_eq t);have HT:=hid ht;have H2:=hid h2;rw [LT.val_eq t,hl];have hb0:=h2.2.2.1;rw [hl] at hb0;obtain ⟨c0,c1,c2,c3,_⟩:=cells4 hb0;have hb1:=h2.2.2.2;rw [hl] at hb1;obtain ⟨d0,d1,d2,d3,f0,f1,f2,f3⟩:=cells4 hb1;have HB1:=hid hb1;have HA:=hid hl;clear ih hd ht hg hn hrow hg1 hk hself hren ha hl h2 hb0 hb1;go_enter Try.func140,Try.ntmps140
      go_wp2_with fail
      have h2':=twoBox w (.cells #[.int .i64 t.kind,.int .i64 t.n,.string t.name,.slice t.at_.1 0 t.at_.2] 41) (.cells #[.int .i64 t.kind,.int .i64 t.n,.string t.name,.slice t.at_.1 0 t.at_.2] 41);have hset:=h2'.2.2.2;have T4:=h2'.1;refine bodyPost_ret (v:=.agg #[.int .i64 t.kind,.int .i64 t.n,.string t.name,.slice t.at_.1 0 t.at_.2]) (results_cell_row Try.results140 _ _ (w.heap.size+1) 41 _ (0,0) _ rfl hset Try.underlying41 rfl (by kernel_rfl)) rfl ⟨t,?_,?_,?_,T4⟩
      · rw [HIN.out,HA.out]
      · rw [HREN.out]
      · exact (HT.out.turned0 T4).mono (fun k _ h=>.inl h)
    · have hlen:t.args.length≤8:=(Tm.one_args hg1 ha).2.2
      have hkn:=Tm.one_args hg1 ha;have hren:=ren_args (s:=Tm.fromS vs first) hg1 ha
      have hlp:0 < t.args.length:=by
       rcases Nat.eq_zero_or_pos t.args.length with h | h
       · exact absurd (Qh h) ha
       · exact h
      have hmk:=fun W=>(make_blanks t.args.length (by omega) W).1
      have HMK:=hid (fun W=>(make_blanks t.args.length (by omega) W).2)
      obtain ⟨p',hp'⟩:∃ q:Nat→Prop,q=fun k=>p k∧k < w.heap.size:=⟨_,rfl⟩
      have HPL:Hid (∀ k,p' k→p k∧k < w.heap.size):=by intro k hq;rw [hp'] at hq;exact hq
      have ht':t.In p' w:=ht.mono (fun k hk h=>by rw [hp'];exact ⟨h,hk⟩)
      have hcall:∀ x:LT,x∈t.args→∀ W,Turned zN w W→Calls Try.prog 140 #[x.val,.slice va vs.length vc,.int .i64 first] W fun e w'=>∃ u:LT,e = .returned u.val∧u.bare=Tm.ren (Tm.fromS vs first) x.bare∧u.In (fun k=>p' k∨W.heap.size≤k) w'∧Turned zN W w':=fun x hx W hW=>
       ih p' x W (by have:=arg_depth hx;omega) ((LT.ins_iff _).1 (ht'.turned0 hW).args x hx) (fun y hy=>hg y (by rw [Tm.flat_eq];exact Qb _ (mem_flats_arg hx hy))) (fun y hy=>hn y (by rw [Tm.flat_eq];exact Qb _ (mem_flats_arg hx hy))) (hrow.turned0 hW)
      have HC:=hid hcall;have HIN:=hid ht';have HREN:=hid hren;have HKN:=hid hkn
      have hL:=fun W h=>(LT.In.lies (p:=p') (w:=W) (t:=t) h)
      rw [LT.val_eq];obtain ⟨ad,had⟩:∃ z,z=t.at_.1:=⟨_,rfl⟩;obtain ⟨cd,hcd⟩:∃ z,z=t.at_.2:=⟨_,rfl⟩;rw [←had] at hL h2;rw [←hcd] at h2;rw [←had,←hcd];have HL:=hid hL;have H2:=hid h2;obtain ⟨c0,c1,c2,c3,_⟩:=cells4 h2.2.2.1
      have hal:(t.args.length == 0)=false:=by simp;omega
      have hal2:((t.args.length:Int) == 0)=false:=by simp;omega
      clear ih hd ht ht' hg hn hrow hg1 hk hself hcall hren hkn had hcd hp' hL ha h2;generalize hZZ:madeCells zeroR.cells (t.args.length * 4)=ZZ at hmk HMK;clear hZZ;go_enter Try.func140,Try.ntmps140
      go_wp2_with fail
      have HR0:=HMK.out ((w.alloc (.cells #[.int .i64 t.kind,.int .i64 t.n,.string t.name,.slice ad t.args.length cd] 41)).alloc (.cells #[.int .i64 0,.int .i64 0,.string ⟨#[]⟩,.slice none 0 0] 41));have HT0:=(Turned.refl (fun _=>False) ((w.alloc (.cells #[.int .i64 t.kind,.int .i64 t.n,.string t.name,.slice ad t.args.length cd] 41)).alloc (.cells #[.int .i64 0,.int .i64 0,.string ⟨#[]⟩,.slice none 0 0] 41))).alloc (.cells ZZ 41);have hsz:((w.alloc (.cells #[.int .i64 t.kind,.int .i64 t.n,.string t.name,.slice ad t.args.length cd] 41)).alloc (.cells #[.int .i64 0,.int .i64 0,.string ⟨#[]⟩,.slice none 0 0] 41)).heap.size=w.heap.size+2:=H2.out.2.1;rw [hsz] at HR0
      try rw [hsz]
      have HH:=And.intro (hid HR0) (And.intro (hid (H2.out.1.trans HT0)) (And.intro (hid ((HT0.bt H2.out.2.2.1))) (And.intro (hid ((HT0.bt H2.out.2.2.2))) (hid (show (((w.alloc (.cells #[.int .i64 t.kind,.int .i64 t.n,.string t.name,.slice ad t.args.length cd] 41)).alloc (.cells #[.int .i64 0,.int .i64 0,.string ⟨#[]⟩,.slice none 0 0] 41)).alloc (.cells ZZ 41)).heap.size=w.heap.size+3 by simp)))));clear HR0 HT0 H2 c0 c1 c2 c3 hmk HMK hsz;revert HH;generalize ((w.alloc (.cells #[.int .i64 t.kind,.int .i64 t.n,.string t.name,.slice ad t.args.length cd] 41)).alloc (.cells #[.int .i64 0,.int .i64 0,.string ⟨#[]⟩,.slice none 0 0] 41)).alloc (.cells ZZ 41)=w3;obtain ⟨G,hG⟩:∃ z,z=w.heap.size+2:=⟨_,rfl⟩;obtain ⟨B1,hB1⟩:∃ z,z=w.heap.size+1:=⟨_,rfl⟩;obtain ⟨B0,hB0⟩:∃ z,z=w.heap.size:=⟨_,rfl⟩;rw [←hG,←hB1]
      try rw [←hB0]
      intro HH;obtain ⟨HR0,HT0,HB0,HB1,HS⟩:=HH;have HE:=hid (And.intro hG (And.intro hB1 hB0));clear hG hB1 hB0;have hinit:Hid (RenI p' (Tm.ren (Tm.fromS vs first)) G t w3 0 (blanks t.args.length) w3):=⟨blanks_length _,rfl,HR0.out,blanks_in _ _ _,Turned.refl _ _⟩
      go_loopg [9] t.args.length (fun q i wr=>∃ j:Nat,Hid (j+q=t.args.length)∧j≤t.args.length∧i = .int .i64 j∧∃ us,Hid (RenI p' (Tm.ren (Tm.fromS vs first)) G t w3 j us wr))
      case atStart=>exact ⟨0,Nat.zero_add _,Nat.zero_le _,rfl,_,hinit⟩
      case round=>
       obtain ⟨j,HG,hj,rfl,us,HOR⟩:=hrel;have HTw:Hid (Turned zN w wr):=HT0.out.step HOR.out.turned (fun i hi e=>by have:=HE.out;omega);have hb0:=(HOR.out.turned.block _ (zL HB0.out) (fun e=>by have:=HE.out;omega)).trans HB0.out;obtain ⟨c0,c1,c2,c3,_⟩:=cells4 hb0;clear hb0
       by_cases hjl:j < t.args.length
       · obtain ⟨x,hx⟩:∃ x:LT,t.args[j]? = some x:=⟨_,Qa hjl⟩
         have tin:=HIN.out.turned0 HTw.out;obtain ⟨b,o,rfl,_,x0,x1,x2,x3⟩:=(HL.out _ tin).cell hx;have hcx:=HC.out x (Qf hx) wr HTw.out;rw [LT.val_eq x] at hcx;have HCX:=hid hcx;have HX:=hid hx;clear hx hcx tin
         go_wp2_with (go_at_call 140;(with_reducible refine HCX.out.mono ?_);rintro e w7 ⟨u,rfl,hub,hui,T7⟩;rw [LT.val_eq u];have hI:=HOR.out.put (fun k hk=>by have:=(HPL.out k hk).2;have:=HE.out;omega) (by have:=HOR.out.turned.size;have:=HS.out;have:=HE.out;omega) HX.out hub hui T7;have hrw:=HOR.out.row.turned0 T7;have f0:=hrw.free rfl (j * 4);have f1:=hrw.free rfl (j * 4+1);have f2:=hrw.free rfl (j * 4+2);have f3:=hrw.free rfl (j * 4+3);have g0:=row_some hrw (j * 4) (by omega);have g1:=row_some hrw (j * 4+1) (by omega);have g2:=row_some hrw (j * 4+2) (by omega);have g3:=row_some hrw (j * 4+3) (by omega);obtain ⟨z0,g0⟩:=g0;obtain ⟨z1,g1⟩:=g1;obtain ⟨z2,g2⟩:=g2;obtain ⟨z3,g3⟩:=g3;have HI:=hid hI;clear hI hrw hub hui)
         go_roundg (gk - 1)
         case measure=>have:=HG.out;omega
         case rel=>exact ⟨j+1,show _=_ by have:=HG.out;omega,by omega,by go_num,_,HI⟩
       · obtain rfl:j=t.args.length:=by omega
         have hb1:=(HOR.out.turned.block _ (zL HB1.out) (fun e=>by have:=HE.out;omega)).trans HB1.out;have HBX:=hid hb1;clear hb1
         go_wp2_with (go_at_call 160;(with_reducible refine (rComp160 _ _ _ _ _).mono ?_);rintro e w7 ⟨rfl,T7⟩;have hb1:=(T7.bt HBX.out);obtain ⟨d0,d1,d2,d3,f0,f1,f2,f3⟩:=cells4 hb1;have HB7:=hid hb1;clear hb1)
         have hset:=set4 (a':=.int .i64 2) (b':=.int .i64 0) (c':=.string t.name) (d':=.slice (some ⟨G,0,none⟩) t.args.length t.args.length) HB7.out
         have hge:w.heap.size≤B1:=by have:=HE.out;omega
         have T4:=turned4 (a:=.int .i64 2) (b:=.int .i64 0) (c:=.string t.name) (d:=.slice (some ⟨G,0,none⟩) t.args.length t.args.length) (HTw.out.trans T7) hge;refine bodyPost_ret (v:=.agg #[.int .i64 2,.int .i64 0,.string t.name,.slice (some ⟨G,0,none⟩) t.args.length t.args.length]) (results_cell_row Try.results140 _ _ B1 41 _ (0,0) _ rfl hset Try.underlying41 rfl (by kernel_rfl)) rfl ?_
         have hne:∀ q,(Value.slice (some ⟨G,0,none⟩) t.args.length t.args.length).ownBlock≠some (Addr.block ⟨B1,q,none⟩):=fun q e=>by simp [Value.ownBlock] at e;have:=HE.out;omega
         have hrow:=(((((HOR.out.row.turned0 T7).setCell (hne 0) (.int .i64 2)).setCell (hne 1) (.int .i64 0)).setCell (hne 2) (.string t.name)).setCell (hne 3) (.slice (some ⟨G,0,none⟩) t.args.length t.args.length));have Tq:Turned (fun k=>k=B1) w7 _:=((((Turned.refl (fun k=>k=B1) w7).setCell (p:=⟨B1,0,none⟩) (.inr rfl) (.int .i64 2)).setCell (p:=⟨B1,1,none⟩) (.inr rfl) (.int .i64 0)).setCell (p:=⟨B1,2,none⟩) (.inr rfl) (.string t.name)).setCell (p:=⟨B1,3,none⟩) (.inr rfl) (.slice (some ⟨G,0,none⟩) t.args.length t.args.length);have hpl:=HPL.out
         have hins:=(HOR.out.ins.turned0 T7).turned (q:=fun k=>p k∨w.heap.size≤k) Tq (fun k _ hk e=>by
          have:=HE.out
          rcases hk with h | h
          · have:=(hpl k h).2;omega
          · omega) (fun k _ hk=>by
          have:=HE.out
          rcases hk with h | h
          · exact .inl (hpl k h).1
          · exact .inr (by omega))
         obtain ⟨e1,e2⟩:=LT.Sl.of_row (p:=fun k=>p k∨w.heap.size≤k) hrow (fun k hk=>.inr (by simp [Value.ownBlock] at hk;have:=HE.out;omega)) hins;have hUL:us.length=t.args.length:=HOR.out.len;refine ⟨.mk 2 0 t.name (some ⟨G,0,none⟩,t.args.length) us,?_,?_,e2.in_ (i64_lit _ (by omega)) (i64_lit _ (by omega)) HIN.out.name,T4⟩
         · show _=Ending.returned (LT.val (.mk 2 0 t.name (some ⟨G,0,none⟩,t.args.length) us))
           rw [LT.val_eq];show _=Ending.returned (.agg #[.int .i64 2,.int .i64 0,.string t.name,.slice (some ⟨G,0,none⟩) us.length t.args.length]);rw [hUL]
         · have hbr:=HOR.out.bares
           rw [List.take_length,←hUL,List.take_length] at hbr;rw [HREN.out,Tm.bare,Tm.bares_eq,hbr]
end Go.Proofs.Ytoihjobdfjajfaa
namespace Go.Proofs.Ytoihjobdfjajfaa
open Go.RowKit Go.Maps
theorem made_blanksT (n:Nat):(madeCells zeroT.cells (n * 4)).toList=(blanks n).flatMap LT.cells:=made_blanks n
theorem make_blanksT (n:Nat) (hn:n≤1000) (W:World):(Instr.makeSlice 22 (.int .i64 n) (.int .i64 n)).run Try.prog W = .ok (.slice (some ⟨W.heap.size,0,none⟩) n n) (W.alloc (.cells (madeCells zeroT.cells (n * 4)) 27))∧
 Row (W.alloc (.cells (madeCells zeroT.cells (n * 4)) 27)) 27 4 (.slice (some ⟨W.heap.size,0,none⟩) n n) n ((blanks n).flatMap LT.cells):=by
 obtain ⟨i0,hi0,hz0,hz1,hz2⟩:=info_parts infoT;refine ⟨?_,?_⟩
 · have h:=run_make (P:=Try.prog) W 22 27 i0 zeroT Try.underlying22 hi0 hz0 .i64 .i64 n n (by omega) (Int.le_refl _) (by rw [hz2];omega) (by omega)
   rw [hz1] at h;simpa using h
 · have h:=Row.made W 27 4 (madeCells zeroT.cells (n * 4)) n (size_madeCells _ _) (by unfold maxLen;omega)
   rw [made_blanksT] at h;exact h
structure MakI (p:Nat→Prop) (σ:Tm Unit→Tm Unit) (G K:Nat) (t:LT) (w3:World) (j:Nat) (us:List LT) (W:World):Prop where
 len:us.length=t.args.length
 bares:(us.take j).map Tm.bare=(t.args.take j).map fun x=>σ x.bare
 row:Row W 27 4 (.slice (some ⟨G,0,none⟩) t.args.length t.args.length) t.args.length (us.flatMap LT.cells)
 ins:LT.Ins (fun k=>p k∨G+1≤k) W us
 turned:Turned (fun k=>k=G∨k=K) w3 W
theorem MakI.put {p:Nat→Prop} {σ:Tm Unit→Tm Unit} {G K:Nat} {t x u:LT} {w3 W W7:World} {j:Nat} {us:List LT} (h:MakI p σ G K t w3 j us W) (hp:∀ k,p k→k < G∧k≠K) (hKG:K < G) (hG:G < W.heap.size) (hx:t.args[j]? = some x) (hb:u.bare=σ x.bare) (hu:u.In (fun k=>p k∨W.heap.size≤k) W7) (hT:Turned (fun k=>k=K) W W7) :
 MakI p σ G K t w3 (j+1) (us.set j u) ((((W7.setCell ⟨G,j * 4,none⟩ (.int .i64 u.kind)).setCell ⟨G,j * 4+1,none⟩ (.int .i64 u.n)).setCell ⟨G,j * 4+2,none⟩ (.string u.name)).setCell ⟨G,j * 4+3,none⟩ (.slice u.at_.1 u.args.length u.at_.2)):=by
 have hjl:j < t.args.length:=(Qg.1 hx).1
 have hju:j < us.length:=by rw [h.len];exact hjl
 have Tq:Turned (fun k=>k=G) W7 ((((W7.setCell ⟨G,j * 4,none⟩ (.int .i64 u.kind)).setCell ⟨G,j * 4+1,none⟩ (.int .i64 u.n)).setCell ⟨G,j * 4+2,none⟩ (.string u.name)).setCell ⟨G,j * 4+3,none⟩ (.slice u.at_.1 u.args.length u.at_.2)):=
  ((((Turned.refl (fun k=>k=G) W7).setCell (p:=⟨G,j * 4,none⟩) (.inr rfl) _).setCell (p:=⟨G,j * 4+1,none⟩) (.inr rfl) _).setCell (p:=⟨G,j * 4+2,none⟩) (.inr rfl) _).setCell (p:=⟨G,j * 4+3,none⟩) (.inr rfl) _
 refine ⟨by rw [List.length_set];exact h.len,?_,?_,?_,(h.turned.trans (hT.mono (fun _ _ e=>.inr e))).trans (Tq.mono (fun _ _ e=>.inl e))⟩
 · have e1:(us.set j u).take (j+1)=us.take j++[u]:=by
    rw [List.take_add_one,List.take_set,List.getElem?_set_self hju];rw [List.set_eq_of_length_le (by rw [List.length_take];omega)];rfl
   have e2:t.args.take (j+1)=t.args.take j++[x]:=by rw [List.take_add_one,hx];rfl
   rw [e1,e2,List.map_append,List.map_append,h.bares];simp [hb]
 · have hr:=h.row.turned hT (fun k hk e=>by simp [Value.ownBlock] at hk;omega)
   have r1:=hr.setAt (off:=j * 4) (by omega) (.int .i64 u.kind);have r2:=r1.setAt (off:=j * 4+1) (by omega) (.int .i64 u.n);have r3:=r2.setAt (off:=j * 4+2) (by omega) (.string u.name);have r4:=r3.setAt (off:=j * 4+3) (by omega) (.slice u.at_.1 u.args.length u.at_.2);rw [flat_set hju] at r4;exact r4
 · rw [LT.ins_iff]
   intro y hy
   have keep:∀ z:LT,z.In (fun k=>p k∨G+1≤k) W7→z.In (fun k=>p k∨G+1≤k) _:=fun z hz=>LT.In.turned Tq (fun k _ hk e=>by
    rcases hk with hk | hk
    · have:=hp k hk;omega
    · omega) (fun _ _ hk=>hk) z hz
   refine keep y ?_
   rcases List.mem_or_eq_of_mem_set hy with hy | rfl
   · exact LT.In.turned hT (fun k _ hk e=>by
      rcases hk with hk | hk
      · exact (hp k hk).2 e
      · omega) (fun _ _ hk=>hk) y ((LT.ins_iff _).1 h.ins y hy)
   · exact hu.mono (fun k _ hk=>hk.elim .inl (fun hk=>.inr (by omega)))
def apart (p:Nat→Prop) (bb sb:Nat) (lv tv:Value) (l:TL) (K:Nat):Prop:=¬ ownK bb sb lv tv K∧(∀ b∈l,K≠b.2.1)∧¬ p K
def MakeQ (p:Nat→Prop) (bb K:Nat) (l:TL) (t:LT) (s d:Nat) (w:World) (e:Ending) (w':World):Prop:=
 ∃ u:LT,e = .returned (.tuple #[u.val,.bool (Tm.makeOk s d (Tm.img (bt l) t.bare))])∧u.In (fun k=>p k∨w.heap.size≤k) w'∧(Tm.makeOk s d (Tm.img (bt l) t.bare)=true→u.bare=Tm.img (bt l) t.bare)∧
  (∃ s':Int,w'.heap[K]? = some (.cells #[.pointer (some ⟨bb,0,none⟩),.int .i64 s'] 170 (0,0))∧(Tm.makeOk s d (Tm.img (bt l) t.bare)=true→s'=((s+(Tm.img (bt l) t.bare).size:Nat):Int)))∧Turned (fun k=>k=K) w w'
structure MkR (w0:World) (x:LT) (n:Nat) (hs:Hist) (W:World):Prop where
 t:Turned zN w0 W
 row:∀ v,(7,v)∈hs→∃ G,v = .slice (some ⟨G,0,none⟩) n n∧w0.heap.size≤G∧Row W 27 4 v n ((blanks n).flatMap LT.cells)
 agg:∀ v,(8,v)∈hs→∃ s,(7,s)∈hs∧v = .agg #[.int .i64 x.kind,.int .i64 0,.string x.name,s]
 box:∀ v,(9,v)∈hs→∃ B c0 c1 c2 c3,v=ptr B∧w0.heap.size≤B∧W.heap[B]? = some (.cells #[c0,c1,c2,c3] 27 (0,0))∧(∀ s,(7,s)∈hs→s.ownBlock≠some B)∧∀ q,(10,q)∈hs→(8,.agg #[c0,c1,c2,c3])∈hs
 uq:∀ v v',(9,v)∈hs→(9,v')∈hs→v=v'
section
variable {w0 W W':World} {x:LT} {n:Nat} {hs:Hist}
theorem MkR.start (h:Turned zN w0 W):MkR w0 x n [] W:=⟨h,fun v h=>(Ql h).elim,fun v h=>(Ql h).elim,fun v h=>(Ql h).elim,fun v v' h=>(Ql h).elim⟩
theorem MkR.turned0 (h:MkR w0 x n hs W) (T:Turned zN W W'):MkR w0 x n hs W':=by
 refine ⟨h.t.trans T,fun v hv=>?_,h.agg,fun v hv=>?_,h.uq⟩
 · obtain ⟨G,h1,h2,h3⟩:=h.row v hv
   exact ⟨G,h1,h2,h3.turned0 T⟩
 · obtain ⟨B,c0,c1,c2,c3,h1,h2,h3,h4⟩:=h.box v hv
   exact ⟨B,c0,c1,c2,c3,h1,h2,(T.block B (zL h3) (fun f=>f)).trans h3,h4⟩
theorem MkR.made {ZZ:Array Value} (h:MkR w0 x n hs W) (hno:∀ v,(7,v)∉hs) (hr:Row (W.alloc (.cells ZZ 27)) 27 4 (.slice (some ⟨W.heap.size,0,none⟩) n n) n ((blanks n).flatMap LT.cells)) :
 MkR w0 x n (hs++[(7,.slice (some ⟨W.heap.size,0,none⟩) n n)]) (W.alloc (.cells ZZ 27)):=by
 have T:Turned zN W (W.alloc (.cells ZZ 27)):=(Turned.refl _ W).alloc _;refine ⟨h.t.trans T,fun v hv=>?_,fun v hv=>?_,fun v hv=>?_,fun v v' hv hv'=>?_⟩
 · rcases mem_snoc hv with hm | ⟨_,e⟩
   · exact absurd hm (hno v)
   · rw [e];exact ⟨_,rfl,h.t.size,hr⟩
 · rcases mem_snoc hv with hm | ⟨e,_⟩
   · obtain ⟨s,h1,h2⟩:=h.agg v hm
     exact ⟨s,Qc _ h1,h2⟩
   · omega
 · rcases mem_snoc hv with hm | ⟨e,_⟩
   · obtain ⟨B,c0,c1,c2,c3,h1,h2,h3,h4,h5⟩:=h.box v hm
     have hl:=(zL h3);refine ⟨B,c0,c1,c2,c3,h1,h2,(T.block B hl (fun f=>f)).trans h3,fun s hs=>?_,fun q hq=>?_⟩
     · rcases mem_snoc hs with hm | ⟨_,e⟩
       · exact absurd hm (hno s)
       · rw [e];intro e2;simp [Value.ownBlock] at e2;omega
     · rcases mem_snoc hq with hq | ⟨e,_⟩
       · exact Qc _ (h5 q hq)
       · omega
   · omega
 · rcases mem_snoc hv with hm | ⟨e,_⟩
   · rcases mem_snoc hv' with hm' | ⟨e,_⟩
     · exact h.uq v v' hm hm'
     · omega
   · omega
theorem MkR.built {s:Value} (h:MkR w0 x n hs W) (hs7:(7,s)∈hs):MkR w0 x n (hs++[(8,.agg #[.int .i64 x.kind,.int .i64 0,.string x.name,s])]) W:=by
 have ne:∀ {j:Nat} {v:Value},j≠8→(j,v)∈hs++[(8,Value.agg #[.int .i64 x.kind,.int .i64 0,.string x.name,s])]→(j,v)∈hs:=fun hj hm=>by
  rcases mem_snoc hm with hm | ⟨e,_⟩
  · exact hm
  · exact absurd e hj
 refine ⟨h.t,fun v hv=>h.row v (ne (by decide) hv),fun v hv=>?_,fun v hv=>?_,fun v v' hv hv'=>h.uq v v' (ne (by decide) hv) (ne (by decide) hv')⟩
 · rcases mem_snoc hv with hm | ⟨_,e⟩
   · obtain ⟨s,h1,h2⟩:=h.agg v hm
     exact ⟨s,Qc _ h1,h2⟩
   · exact ⟨s,Qc _ hs7,e⟩
 · obtain ⟨B,c0,c1,c2,c3,h1,h2,h3,h4,h5⟩:=h.box v (ne (by decide) hv)
   exact ⟨B,c0,c1,c2,c3,h1,h2,h3,fun s hs=>h4 s (ne (by decide) hs),fun q hq=>Qc _ (h5 q (ne (by decide) hq))⟩
theorem MkR.laid {c0 c1 c2 c3:Value} (h:MkR w0 x n hs W) (hno:∀ v,(9,v)∉hs) (hst:∀ q,(10,q)∉hs):MkR w0 x n (hs++[(9,ptr W.heap.size)]) (W.alloc (.cells #[c0,c1,c2,c3] 27)):=by
 have T:Turned zN W (W.alloc (.cells #[c0,c1,c2,c3] 27)):=(Turned.refl _ W).alloc _
 have ne:∀ {j:Nat} {v:Value},j≠9→(j,v)∈hs++[(9,ptr W.heap.size)]→(j,v)∈hs:=fun hj hm=>by
  rcases mem_snoc hm with hm | ⟨e,_⟩
  · exact hm
  · exact absurd e hj
 have last:∀ {v:Value},(9,v)∈hs++[(9,ptr W.heap.size)]→v=ptr W.heap.size:=fun hm=>by
  rcases mem_snoc hm with hm | ⟨_,e⟩
  · exact absurd hm (hno _)
  · exact e
 refine ⟨h.t.trans T,fun v hv=>?_,fun v hv=>?_,fun v hv=>?_,fun v v' hv hv'=>by rw [last hv,last hv']⟩
 · obtain ⟨G,h1,h2,h3⟩:=h.row v (ne (by decide) hv)
   exact ⟨G,h1,h2,h3.turned0 T⟩
 · obtain ⟨s,h1,h2⟩:=h.agg v (ne (by decide) hv)
   exact ⟨s,Qc _ h1,h2⟩
 · refine ⟨W.heap.size,c0,c1,c2,c3,last hv,h.t.size,heap_alloc_new W _,fun s hs=>?_,fun q hq=>absurd (ne (by decide) hq) (hst q)⟩
   obtain ⟨G,h1,_,h3⟩:=h.row s (ne (by decide) hs);intro e;have:=h3.lt _ e;omega
theorem MkR.cell {v:Value} (h:MkR w0 x n hs W) (h9:(9,v)∈hs):∃ B c0 c1 c2 c3,v = .pointer (some ⟨B,0,none⟩)∧W.heap[B]? = some (.cells #[c0,c1,c2,c3] 27 (0,0)):=by
 obtain ⟨B,c0,c1,c2,c3,h1,h2,h3,_⟩:=h.box v h9;exact ⟨B,c0,c1,c2,c3,h1,h3⟩
theorem MkR.stored {B:Nat} {s q:Value} (h:MkR w0 x n hs W) (h9:(9,ptr B)∈hs) (h8:(8,.agg #[.int .i64 x.kind,.int .i64 0,.string x.name,s])∈hs) :
 MkR w0 x n (hs++[(10,q)]) ((((W.setCell ⟨B,0,none⟩ (.int .i64 x.kind)).setCell ⟨B,1,none⟩ (.int .i64 0)).setCell ⟨B,2,none⟩ (.string x.name)).setCell ⟨B,3,none⟩ s):=by
 obtain ⟨B',c0,c1,c2,c3,h1,h2,h3,h4,h5⟩:=h.box _ h9;obtain rfl:=ptr_inj h1;have hset:=set4 (a':=.int .i64 x.kind) (b':=.int .i64 0) (c':=.string x.name) (d':=s) h3;have T:=turned_store4 W B (.int .i64 x.kind) (.int .i64 0) (.string x.name) s
 have ne:∀ {j:Nat} {v:Value},j≠10→(j,v)∈hs++[(10,q)]→(j,v)∈hs:=fun hj hm=>by
  rcases mem_snoc hm with hm | ⟨e,_⟩
  · exact hm
  · exact absurd e hj
 refine ⟨h.t.step T (fun i hi e=>by omega),fun v hv=>?_,fun v hv=>?_,fun v hv=>?_,fun v v' hv hv'=>h.uq v v' (ne (by decide) hv) (ne (by decide) hv')⟩
 · obtain ⟨G,g1,g2,g3⟩:=h.row v (ne (by decide) hv)
   exact ⟨G,g1,g2,g3.turned T (fun k hk e=>h4 v (ne (by decide) hv) (by rw [hk,e]))⟩
 · obtain ⟨s,h1,h2⟩:=h.agg v (ne (by decide) hv)
   exact ⟨s,Qc _ h1,h2⟩
 · rw [h.uq _ _ (ne (by decide) hv) h9]
   exact ⟨B,_,_,_,_,rfl,h2,hset,fun s hs=>h4 s (ne (by decide) hs),fun q hq=>Qc _ h8⟩
theorem MkR.done {v:Value} (h:MkR w0 x n hs W) (hall:∀ i∈[7,8,9,10],∃ v,(i,v)∈hs) (h9:(9,v)∈hs) (uniq:∀ i v v',(i,v)∈hs→(i,v')∈hs→v=v') :
 ∃ G B,v = .pointer (some ⟨B,0,none⟩)∧G≠B∧w0.heap.size≤G∧w0.heap.size≤B∧W.heap[B]? = some (.cells #[.int .i64 x.kind,.int .i64 0,.string x.name,.slice (some ⟨G,0,none⟩) n n] 27 (0,0))∧Row W 27 4 (.slice (some ⟨G,0,none⟩) n n) n ((blanks n).flatMap LT.cells)∧Turned zN w0 W:=by
 obtain ⟨B,c0,c1,c2,c3,h1,h2,h3,h4,h5⟩:=h.box _ h9;obtain ⟨q,hq⟩:=hall 10 (by simp);obtain ⟨s,s1,s2⟩:=h.agg _ (h5 q hq);obtain ⟨G,g1,g2,g3⟩:=h.row s s1;have hne:=h4 s s1
 injection s2 with s2
 rw [s2,g1] at h3;rw [g1] at hne g3;refine ⟨G,B,h1,fun e=>hne (by rw [e];rfl),g2,h2,h3,g3,h.t⟩
end
end Go.Proofs.Ytoihjobdfjajfaa
namespace Go.Proofs.Ytoihjobdfjajfaa
open Lib (hid)
open Go.RowKit Go.Maps
theorem afterWalk {w3:World} {N K bb:Nat} {s:Value} {a0 b0 c0 d0 z0 z1 z2 z3:Value} (hN:w3.heap[N]? = some (.cells #[a0,b0,c0,d0] 27 (0,0))) (hK:w3.heap[K]? = some (.cells #[.pointer (some ⟨bb,0,none⟩),s] 170 (0,0))) (h1:w3.heap[N+1]? = some (.cells #[z0,z1,z2,z3] 27 (0,0))) (hne:K < N) (a b c d v:Value) :
 (((((w3.setCell ⟨N,0,none⟩ a).setCell ⟨N,1,none⟩ b).setCell ⟨N,2,none⟩ c).setCell ⟨N,3,none⟩ d).setCell ⟨K,1,none⟩ v).heap[N]? = some (.cells #[a,b,c,d] 27 (0,0))∧
 (((((w3.setCell ⟨N,0,none⟩ a).setCell ⟨N,1,none⟩ b).setCell ⟨N,2,none⟩ c).setCell ⟨N,3,none⟩ d).setCell ⟨K,1,none⟩ v).heap[K]? = some (.cells #[.pointer (some ⟨bb,0,none⟩),v] 170 (0,0))∧
 (((((w3.setCell ⟨N,0,none⟩ a).setCell ⟨N,1,none⟩ b).setCell ⟨N,2,none⟩ c).setCell ⟨N,3,none⟩ d).setCell ⟨K,1,none⟩ v).heap[N+1]? = some (.cells #[z0,z1,z2,z3] 27 (0,0))∧
 Turned (fun k=>k=N∨k=K) w3 (((((w3.setCell ⟨N,0,none⟩ a).setCell ⟨N,1,none⟩ b).setCell ⟨N,2,none⟩ c).setCell ⟨N,3,none⟩ d).setCell ⟨K,1,none⟩ v):=by
 have T1:=turned_store4 w3 N a b c d;have hs:=set4 (a':=a) (b':=b) (c':=c) (d':=d) hN;have hk:=(T1.block K (zL hK) (by omega)).trans hK;have h1':=(T1.block (N+1) (zL h1) (by omega)).trans h1;revert T1 hs hk h1';generalize (((w3.setCell ⟨N,0,none⟩ a).setCell ⟨N,1,none⟩ b).setCell ⟨N,2,none⟩ c).setCell ⟨N,3,none⟩ d=W;intro T1 hs hk h1';have T2:Turned (fun k=>k=K) W (W.setCell ⟨K,1,none⟩ v):=(Turned.refl (fun k=>k=K) W).setCell (p:=⟨K,1,none⟩) (.inr rfl) v;refine ⟨(T2.block N (zL hs) (by omega)).trans hs,rec2_set1 hk v,(T2.block (N+1) (zL h1') (by omega)).trans h1',(T1.mono (fun _ _ e=>.inl e)).trans (T2.mono (fun _ _ e=>.inr e))⟩
theorem MakeQ.no {p:Nat→Prop} {bb K:Nat} {l:TL} {t:LT} {s d:Nat} {s':Int} {w w':World} (hno:Tm.makeOk s d (Tm.img (bt l) t.bare)=false) (hK:w'.heap[K]? = some (.cells #[.pointer (some ⟨bb,0,none⟩),.int .i64 s'] 170 (0,0))) (T:Turned (fun k=>k=K) w w') :
 MakeQ p bb K l t s d w (.returned (.tuple #[.agg #[.int .i64 0,.int .i64 0,.string ⟨#[]⟩,.slice none 0 0],.bool false])) w':=
 ⟨leaf 0 0 ByteArray.empty,by rw [hno];rfl,leafIn' (i64_lit _ (by omega)) (i64_lit _ (by omega)) (by unfold maxLen;decide),fun c=>by (rw [hno] at c;cases c),⟨s',hK,fun c=>by (rw [hno] at c;cases c)⟩,T⟩
theorem MakeQ.yes {p:Nat→Prop} {bb K:Nat} {l:TL} {t u:LT} {s d:Nat} {s':Int} {w w':World} (hok:Tm.makeOk s d (Tm.img (bt l) t.bare)=true) (hb:u.bare=Tm.img (bt l) t.bare) (hu:u.In (fun k=>p k∨w.heap.size≤k) w') (hK:w'.heap[K]? = some (.cells #[.pointer (some ⟨bb,0,none⟩),.int .i64 s'] 170 (0,0))) (hs:s'=((s+(Tm.img (bt l) t.bare).size:Nat):Int)) (T:Turned (fun k=>k=K) w w') :
 MakeQ p bb K l t s d w (.returned (.tuple #[.agg #[.int .i64 u.kind,.int .i64 u.n,.string u.name,.slice u.at_.1 u.args.length u.at_.2],.bool true])) w':=
 ⟨u,by rw [hok,LT.val_eq],hu,fun _=>hb,⟨s',hK,fun _=>hs⟩,T⟩
theorem leaf_make {m s d:Nat} {l:Tm.Trail} {t X:Tm Unit} (hl:Tm.okT m l) (h:Tm.Walked m l t X) (ha:X.args.length=0) (hs:s+1≤2000) (hd:d≤64):Tm.img l t=X∧Tm.makeOk s d (Tm.img l t)=true∧(Tm.img l t).size=1:=by
 have ha':=Qh ha;have hx:=h.flat hl ha'
 have h1:X.size=1:=by rw [Tm.size_eq,ha'];rfl
 have h2:X.depth=1:=by rw [Tm.depth_eq,ha'];rfl
 exact ⟨hx,by rw [hx,Tm.makeOk_iff];omega,by rw [hx,h1]⟩
theorem make_in {p q:Nat→Prop} {w3 w W W':World} {K:Nat} {x:LT} (hp:∀ k,p k→k < w.heap.size∧k≠K) (A:Turned (fun k=>k=w.heap.size∨k=K) w3 W) (Tq:Turned (fun k=>k=w.heap.size+1) W W') (h:x.In p w3) (hq:∀ k,p k→q k):x.In q W':=
 LT.In.turned Tq (fun k _ hk e=>by have:=(hp k hk).1;omega) (fun k _ hk=>hq k hk) x (LT.In.turned A (fun k _ hk e=>by have:=hp k hk;omega) (fun _ _ hk=>hk) x h)
structure MadeW (p:Nat→Prop) (bb sb m:Nat) (lv tv:Value) (l:TL) (K:Nat) (x:LT) (s:Int) (w W:World):Prop where
 n0:W.heap[w.heap.size]? = some (.cells #[.int .i64 x.kind,.int .i64 x.n,.string x.name,.slice x.at_.1 x.args.length x.at_.2] 27 (0,0))
 n1:W.heap[w.heap.size+1]? = some (.cells #[.int .i64 0,.int .i64 0,.string ⟨#[]⟩,.slice none 0 0] 27 (0,0))
 k:W.heap[K]? = some (.cells #[.pointer (some ⟨bb,0,none⟩),.int .i64 s] 170 (0,0))
 inn:x.In p W
 bi:BI p bb sb lv tv m l W
 turned:Turned (fun k=>k=K) w W
theorem MadeW.mk' {p:Nat→Prop} {bb sb m:Nat} {lv tv:Value} {l:TL} {K:Nat} {x:LT} {s:Int} {w w2 w3 W:World} (h:BI p bb sb lv tv m l w) (hap:apart p bb sb lv tv l K) (A:W.heap[w.heap.size]? = some (.cells #[.int .i64 x.kind,.int .i64 x.n,.string x.name,.slice x.at_.1 x.args.length x.at_.2] 27 (0,0))∧W.heap[K]? = some (.cells #[.pointer (some ⟨bb,0,none⟩),.int .i64 s] 170 (0,0))∧W.heap[w.heap.size+1]? = some (.cells #[.int .i64 0,.int .i64 0,.string ⟨#[]⟩,.slice none 0 0] 27 (0,0))∧Turned (fun k=>k=w.heap.size∨k=K) w3 W)
 (T2:Turned zN w w2) (S3:Turned zN w2 w3) (hx:x.In p w3):MadeW p bb sb m lv tv l K x s w W:=by
 have T:Turned (fun k=>k=K) w W:=((T2.trans S3).mono (fun _ _ f=>f.elim)).step A.2.2.2 (fun i hi e=>e.elim (fun c=>by omega) (fun c=>c));exact ⟨A.1,A.2.2.1,A.2.1,LT.In.turned A.2.2.2 (fun k _ hk e=>e.elim (fun c=>by have:=(h.sep k hk).1;omega) (fun c=>hap.2.2 (c ▸ hk))) (fun _ _ hk=>hk) x hx,h.turned T (fun k hk e=>by rw [show k=K from e];exact hap),T⟩
theorem MadeW.on {p:Nat→Prop} {bb sb m:Nat} {lv tv:Value} {l:TL} {K:Nat} {x:LT} {s:Int} {w W W':World} (h:MadeW p bb sb m lv tv l K x s w W) (T:Turned zN W W'):MadeW p bb sb m lv tv l K x s w W':=
 ⟨(T.bt h.n0),(T.bt h.n1),(T.bt h.k),h.inn.turned0 T,h.bi.turned0 T,h.turned.trans (T.mono (fun _ _ f=>f.elim))⟩
theorem make_turned {w w2 w3 W W':World} {K:Nat} (T2:Turned zN w w2) (S3:Turned zN w2 w3) (A:Turned (fun k=>k=w.heap.size∨k=K) w3 W) (Tq:Turned (fun k=>k=w.heap.size+1) W W'):Turned (fun k=>k=K) w W':=
 ((((T2.trans S3).mono (fun _ _ f=>f.elim)).step A (fun i hi e=>e.elim (fun c=>by omega) (fun c=>c))).step Tq (fun i hi e=>by omega))
def CallQ (p:Nat→Prop) (bb K:Nat) (ok:Bool) (y:Tm Unit) (sj:Nat) (wx:World) (u:LT) (W:World):Prop:=
 u.In (fun k=>p k∨wx.heap.size≤k) W∧(ok=true→u.bare=y)∧(∃ s':Int,W.heap[K]? = some (.cells #[.pointer (some ⟨bb,0,none⟩),.int .i64 s'] 170 (0,0))∧(ok=true→s'=((sj+y.size:Nat):Int)))∧Turned (fun k=>k=K) wx W
def RowQ (p:Nat→Prop) (σ:Tm Unit→Tm Unit) (bb K G:Nat) (ok:Bool) (y:Tm Unit) (sj:Nat) (x:LT) (j:Nat) (W5 wx W:World):Prop:=
 (∃ s':Int,W.heap[K]? = some (.cells #[.pointer (some ⟨bb,0,none⟩),.int .i64 s'] 170 (0,0))∧(ok=true→s'=((sj+y.size:Nat):Int)))∧Turned (fun k=>k=K∨k=G) wx W∧(ok=true→∃ us,MakI p σ G K x W5 (j+1) us W)
def MrS (p:Nat→Prop) (σ:Tm Unit→Tm Unit) (bb K G:Nat) (ok:Bool) (y:Tm Unit) (sj:Nat) (x:LT) (j:Nat) (W5 wx:World):List Value→World→Prop
 | [],W=>Turned zN wx W
 | [a],W=>∃ u:LT,a = .tuple #[.agg #[.int .i64 u.kind,.int .i64 u.n,.string u.name,.slice u.at_.1 u.args.length u.at_.2],.bool ok]∧CallQ p bb K ok y sj wx u W
 | [_,b],W=>∃ u:LT,b = .tuple #[.agg #[.int .i64 u.kind,.int .i64 u.n,.string u.name,.slice u.at_.1 u.args.length u.at_.2],.bool ok]∧CallQ p bb K ok y sj wx u W
 | [_,b,c],W=>∃ u:LT,b = .tuple #[.agg #[.int .i64 u.kind,.int .i64 u.n,.string u.name,.slice u.at_.1 u.args.length u.at_.2],.bool ok]∧c = .agg #[.int .i64 u.kind,.int .i64 u.n,.string u.name,.slice u.at_.1 u.args.length u.at_.2]∧CallQ p bb K ok y sj wx u W
 | [_,b,_,_],W=>(∃ u:LT,b = .tuple #[.agg #[.int .i64 u.kind,.int .i64 u.n,.string u.name,.slice u.at_.1 u.args.length u.at_.2],.bool ok])∧RowQ p σ bb K G ok y sj x j W5 wx W
 | _,_=>False
section
variable {p:Nat→Prop} {σ:Tm Unit→Tm Unit} {bb K G:Nat} {ok:Bool} {y:Tm Unit} {sj:Nat} {x:LT} {j:Nat} {W5 wx W W':World} {u:LT}
theorem CallQ.turned0 (h:CallQ p bb K ok y sj wx u W) (T:Turned zN W W'):CallQ p bb K ok y sj wx u W':=by
 obtain ⟨h1,h2,⟨s',h3,h4⟩,h5⟩:=h;exact ⟨h1.turned0 T,h2,⟨s',(T.bt h3),h4⟩,h5.trans (T.mono (fun _ _ f=>f.elim))⟩
theorem MakI.on {t:LT} {w3:World} {us:List LT} (h:MakI p σ G K t w3 j us W) (T:Turned zN W W'):MakI p σ G K t w3 j us W':=
 ⟨h.len,h.bares,h.row.turned0 T,h.ins.turned0 T,h.turned.trans (T.mono (fun _ _ f=>f.elim))⟩
theorem RowQ.turned0 (h:RowQ p σ bb K G ok y sj x j W5 wx W) (T:Turned zN W W'):RowQ p σ bb K G ok y sj x j W5 wx W':=by
 obtain ⟨⟨s',h3,h4⟩,h5,h6⟩:=h;refine ⟨⟨s',(T.bt h3),h4⟩,h5.trans (T.mono (fun _ _ f=>f.elim)),fun e=>?_⟩;obtain ⟨us,h⟩:=h6 e;exact ⟨us,h.on T⟩
theorem MrS.turned0:∀ (hs:List Value) (w w':World),MrS p σ bb K G ok y sj x j W5 wx hs w→Turned zN w w'→MrS p σ bb K G ok y sj x j W5 wx hs w'
 | [],_,_,h,T=>Turned.trans h T
 | [_],_,_,h,T=>by obtain ⟨u,h1,h2⟩:=h;exact ⟨u,h1,h2.turned0 T⟩
 | [_,_],_,_,h,T=>by obtain ⟨u,h1,h2⟩:=h;exact ⟨u,h1,h2.turned0 T⟩
 | [_,_,_],_,_,h,T=>by obtain ⟨u,h1,h2,h3⟩:=h;exact ⟨u,h1,h2,h3.turned0 T⟩
 | [_,_,_,_],_,_,h,T=>⟨h.1,h.2.turned0 T⟩
 | _ :: _ :: _ :: _ :: _ :: _,_,_,h,_=>h.elim
theorem MrS.turned:∀ (hs:List Value) (W:World),MrS p σ bb K G ok y sj x j W5 wx hs W→Turned (fun k=>k=K∨k=G) wx W
 | [],_,h=>Turned.mono h (fun _ _ f=>f.elim)
 | [_],_,h=>by obtain ⟨u,h1,h2⟩:=h;exact h2.2.2.2.mono (fun _ _ e=>.inl e)
 | [_,_],_,h=>by obtain ⟨u,h1,h2⟩:=h;exact h2.2.2.2.mono (fun _ _ e=>.inl e)
 | [_,_,_],_,h=>by obtain ⟨u,h1,h2,h3⟩:=h;exact h3.2.2.2.mono (fun _ _ e=>.inl e)
 | [_,_,_,_],_,h=>h.2.2.1
 | _ :: _ :: _ :: _ :: _ :: _,_,h=>h.elim
theorem MrS.tup:∀ (hs:List Value) (W:World) (b:Value),MrS p σ bb K G ok y sj x j W5 wx hs W→hs[1]? = some b→∃ u:LT,b = .tuple #[.agg #[.int .i64 u.kind,.int .i64 u.n,.string u.name,.slice u.at_.1 u.args.length u.at_.2],.bool ok]
 | [],_,_,_,e=>by simp at e
 | [_],_,_,_,e=>by simp at e
 | [_,_],_,_,h,e=>by simp at e;subst e;obtain ⟨u,h1,_⟩:=h;exact ⟨u,h1⟩
 | [_,_,_],_,_,h,e=>by simp at e;subst e;obtain ⟨u,h1,_⟩:=h;exact ⟨u,h1⟩
 | [_,_,_,_],_,_,h,e=>by simp at e;subst e;exact h.1
 | _ :: _ :: _ :: _ :: _ :: _,_,_,h,_=>h.elim
theorem mr_store {w3 wr:World} {us:List LT} {xj:LT} (h:MakI p σ G K x W5 j us wr) (TX:Turned zN wr wx) (hp:∀ k,p k→k < G∧k≠K) (hKG:K < G) (hG:G < wr.heap.size) (hx:x.args[j]? = some xj) (hy:σ xj.bare=y) (hC:CallQ p bb K ok y sj wx u W) :
 RowQ p σ bb K G ok y sj x j W5 wx ((((W.setCell ⟨G,j * 4,none⟩ (.int .i64 u.kind)).setCell ⟨G,j * 4+1,none⟩ (.int .i64 u.n)).setCell ⟨G,j * 4+2,none⟩ (.string u.name)).setCell ⟨G,j * 4+3,none⟩ (.slice u.at_.1 u.args.length u.at_.2)):=by
 obtain ⟨h1,h2,⟨s',h3,h4⟩,h5⟩:=hC
 have Tq:Turned (fun k=>k=G) W ((((W.setCell ⟨G,j * 4,none⟩ (.int .i64 u.kind)).setCell ⟨G,j * 4+1,none⟩ (.int .i64 u.n)).setCell ⟨G,j * 4+2,none⟩ (.string u.name)).setCell ⟨G,j * 4+3,none⟩ (.slice u.at_.1 u.args.length u.at_.2)):=
  ((((Turned.refl (fun k=>k=G) W).setCell (p:=⟨G,j * 4,none⟩) (.inr rfl) _).setCell (p:=⟨G,j * 4+1,none⟩) (.inr rfl) _).setCell (p:=⟨G,j * 4+2,none⟩) (.inr rfl) _).setCell (p:=⟨G,j * 4+3,none⟩) (.inr rfl) _
 refine ⟨⟨s',(Tq.block K (zL h3) (by omega)).trans h3,h4⟩,(h5.mono (fun _ _ e=>.inl e)).trans (Tq.mono (fun _ _ e=>.inr e)),fun e=>⟨_,h.put hp hKG hG hx ((h2 e).trans hy.symm) (h1.mono (fun k _ hk=>hk.elim .inl (fun hk=>.inr (QA TX.size hk)))) ((TX.mono (fun _ _ f=>f.elim)).trans h5)⟩⟩
end
theorem brings_build27 {o:Oper} {a:Act} {w:World} {F:Value→World→Prop} (x y z:Tmp) (ho:o.op=Op.build 27 #[(0,.tmp x),(2,.tmp y),(3,.tmp z)]) {k:Int} {nm:ByteArray} {sa:Option Addr} {sn sc:Nat} (hx:a.tmps.getD x undef = .int .i64 k) (hy:a.tmps.getD y undef = .string nm) (hz:a.tmps.getD z undef = .slice sa sn sc)
 (h:F (.agg #[.int .i64 k,.int .i64 0,.string nm,.slice sa sn sc]) w):Brings Try.prog F ((execOp a.eval o).run Try.prog w):=by
 have e:∀ q,a.eval (.tmp q)=a.tmps.getD q undef:=fun _=>rfl
 unfold execOp;simp only [ho,List.map_toArray,Qx,List.map_nil,e,hx,hy,hz];go_simp;exact h
def MakL (p:Nat→Prop) (bb K:Nat) (l:TL) (x:LT) (s d G:Nat) (Y:List (Tm Unit)) (W5:World) (k:Nat) (i:Value) (wr:World):Prop:=
 ∃ (j:Nat) (us:List LT),Hid (j+k=x.args.length)∧j≤x.args.length∧i = .int .i64 j∧Hid (MakI p (Tm.img (bt l)) G K x W5 j us wr)∧Hid (wr.heap[K]? = some (.cells #[.pointer (some ⟨bb,0,none⟩),.int .i64 ((s+1+Tm.sizes (Y.take j):Nat):Int)] 170 (0,0)))∧Hid (s+1+Tm.sizes (Y.take j)≤2000)∧Hid (∀ y∈Y.take j,d+1+y.depth≤65)
set_option maxRecDepth 100000 in
theorem make147 {p:Nat→Prop} {bb sb m:Nat} {lv tv:Value} {l:TL} {K:Nat} (n:Nat):∀ (t:LT) (w:World) (s d:Nat),d+n=66→d≤65→BI p bb sb lv tv m l w→t.In p w→(∀ z∈t.bare.flat,goodOneB z=true)→apart p bb sb lv tv l K→
 w.heap[K]? = some (.cells #[.pointer (some ⟨bb,0,none⟩),.int .i64 s] 170 (0,0))→s≤2000→Calls Try.prog 147 #[.pointer (some ⟨K,0,none⟩),t.val,.int .i64 d] w (MakeQ p bb K l t s d w):=by
 induction n with
 | zero=>intro t w s d h1 h2;omega
 | succ n ih=>
  intro t w s d hdn hd h ht hg hap hK hs;have h2:=twoBox w (.cells #[.int .i64 t.kind,.int .i64 t.n,.string t.name,.slice t.at_.1 t.args.length t.at_.2] 27) (.cells #[.int .i64 0,.int .i64 0,.string ⟨#[]⟩,.slice none 0 0] 27);have hkl:=(zL hK);obtain ⟨w2,hw2⟩:∃ z,z=(w.alloc (.cells #[.int .i64 t.kind,.int .i64 t.n,.string t.name,.slice t.at_.1 t.args.length t.at_.2] 27)).alloc (.cells #[.int .i64 0,.int .i64 0,.string ⟨#[]⟩,.slice none 0 0] 27):=⟨_,rfl⟩;rw [←hw2] at h2
  have hkp:∀ W,Turned zN w2 W→W.heap[K]? = some (.cells #[.pointer (some ⟨bb,0,none⟩),.int .i64 s] 170 (0,0)):=fun W hW=>((h2.1.trans hW).block K hkl (fun f=>f)).trans hK
  have hcp:∀ W,Turned zN w2 W→W.heap[w.heap.size]? = some (.cells #[.int .i64 t.kind,.int .i64 t.n,.string t.name,.slice t.at_.1 t.args.length t.at_.2] 27 (0,0))∧W.heap[w.heap.size+1]? = some (.cells #[.int .i64 0,.int .i64 0,.string ⟨#[]⟩,.slice none 0 0] 27 (0,0)):=fun W hW=>⟨(hW.block _ (by have:=h2.2.1;omega) (fun f=>f)).trans h2.2.2.1,(hW.block _ (by have:=h2.2.1;omega) (fun f=>f)).trans h2.2.2.2⟩
  have hwk:∀ W,Turned zN w2 W→Calls Try.prog 90 #[.pointer (some ⟨bb,0,none⟩),t.val] W fun e w'=>∃ x:LT,e = .returned x.val∧x.In p w'∧x.bare=Tm.walkT (bt l) t.bare∧Turned zN W w':=fun W hW=>walk90 (h.turned0 (h2.1.trans hW)) (ht.turned0 (h2.1.trans hW)) hg
  have hwd:=Tm.walked h.ok _ t.bare (Qm _) hg;obtain ⟨X,hX⟩:∃ z,z=Tm.walkT (bt l) t.bare:=⟨_,rfl⟩;rw [←hX] at hwk hwd;have HV:=LT.val_eq t;rw [HV] at hwk;rw [HV];have HWK:=hid hwk;have HKP:=hid hkp;have HCP:=hid hcp;have HW2:=hid hw2;have HWD:=hid hwd;have HKL:=hid hkl
  have hKN:K≠w.heap.size:=by omega
  have hNK:w.heap.size≠K:=by omega
  have hKN1:K≠w.heap.size+1:=by omega
  have hNK1:w.heap.size+1≠K:=by omega
  have HT2:=hid h2.1;have HH:=hid h;have HAP:=hid hap;clear hwk hkp hcp h2 hX hkl hK ht hg hap HV hw2 hwd h
  by_cases hA:s+1≤2000
  · have d1:decide (2000 < (s:Int)+1)=false:=decide_eq_false (by omega)
    by_cases hD:d≤64
    · have d2:decide (64 < (d:Int))=false:=decide_eq_false (by omega)
      obtain ⟨q,hq⟩:∃ z,z=X.args.length:=⟨_,rfl⟩
      by_cases hL:q=0
      · have HLM:=hid (leaf_make HH.out.ok HWD.out (by rw [←hq];exact hL) hA hD)
        have HQ:=hid (show X.args.length=0 by rw [←hq];exact hL);clear hq hL;go_enter Try.func147,Try.ntmps147
        go_wp2_with fail
        rw [←HW2.out];obtain ⟨e0,e1,_⟩:=rec2b (HKP.out w2 (Turned.refl _ _));obtain ⟨y0,y1,y2,y3,_⟩:=cells4 (HCP.out w2 (Turned.refl _ _)).1;refine region_tail 5 (by kernel_rfl) (by kernel_rfl) ?_;simp only [List.take_succ_cons,List.take_zero,List.drop_succ_cons,List.drop_zero]
        repeat still_step
        refine wpStill_nil ?_
        go_wp2_with (go_at_call 90;(with_reducible refine (HWK.out _ (Turned.refl _ _).drew).mono ?_);rintro e w3 ⟨x,rfl,hxin,hxb,T3⟩;rw [LT.val_eq x];have S3:=(Turned.refl _ w2).drew.trans T3;have hq3:=HKP.out _ S3;obtain ⟨hb3,hz3⟩:=HCP.out _ S3;obtain ⟨k0,k1,kf0,kf1⟩:=rec2b hq3;obtain ⟨c0,c1,c2,c3,f0,f1,f2,f3⟩:=cells4 hb3;obtain ⟨z0,z1,z2,z3,g0,g1,g2,g3⟩:=cells4 hz3;have HAW:=hid (afterWalk hb3 hq3 hz3 HKL.out (.int .i64 x.kind) (.int .i64 x.n) (.string x.name) (.slice x.at_.1 x.args.length x.at_.2) (.int .i64 ((s:Int)+1)));have HXI:=hid hxin;have HXB:=hid hxb;have HS3:=hid S3;have hal2:((x.args.length:Int) == 0)=true:=(by (have h1:=Tm.bare_arity x;have h2:=HQ.out;rw [hxb] at h1;rw [←h1,h2];rfl));clear hq3 hb3 hz3 hxin hxb S3 T3)
        obtain ⟨A1,A2,A3,A4⟩:=HAW.out;have hset:=set4 (a':=.int .i64 x.kind) (b':=.int .i64 x.n) (c':=.string x.name) (d':=.slice x.at_.1 x.args.length x.at_.2) A3
        have Tq:=fun W=>turned_store4 W (w.heap.size+1) (.int .i64 x.kind) (.int .i64 x.n) (.string x.name) (.slice x.at_.1 x.args.length x.at_.2)
        have hp:∀ k,p k→k < w.heap.size∧k≠K:=fun k hk=>⟨(HH.out.sep k hk).1,fun e=>HAP.out.2.2 (e ▸ hk)⟩
        refine bodyPost_ret (results_cell_tmp1 Try.results147 _ _ (w.heap.size+1) 27 _ (0,0) _ rfl hset Try.underlying27 rfl (by kernel_rfl)) rfl (MakeQ.yes HLM.out.2.1 (HXB.out.trans HLM.out.1.symm) (make_in hp A4 (Tq _) HXI.out (fun _ hk=>.inl hk)) (((Tq _).block K (zL A2) (by omega)).trans A2) (by rw [HLM.out.2.2];omega) (make_turned HT2.out HS3.out A4 (Tq _)))
      · have hxa:¬ X.args=[]:=fun e=>hL (by rw [hq,e];rfl)
        have HKN:=hid (Tm.one_args (HWD.out.ones X (by rw [Tm.flat_eq];exact Qe ..)) hxa);have HAR:=hid (HWD.out.args hxa);have HQ:=hid (show 0 < X.args.length by omega);clear hq hL hxa;go_enter Try.func147,Try.ntmps147
        go_wp2_with fail
        rw [←HW2.out];obtain ⟨e0,e1,_⟩:=rec2b (HKP.out w2 (Turned.refl _ _));obtain ⟨y0,y1,y2,y3,_⟩:=cells4 (HCP.out w2 (Turned.refl _ _)).1;refine region_tail 5 (by kernel_rfl) (by kernel_rfl) ?_;simp only [List.take_succ_cons,List.take_zero,List.drop_succ_cons,List.drop_zero]
        repeat still_step
        refine wpStill_nil ?_
        go_wp2_with (go_at_call 90;(with_reducible refine (HWK.out _ (Turned.refl _ _).drew).mono ?_);rintro e w3 ⟨x,rfl,hxin,hxb,T3⟩;rw [LT.val_eq x];have S3:=(Turned.refl _ w2).drew.trans T3;have hq3:=HKP.out _ S3;obtain ⟨hb3,hz3⟩:=HCP.out _ S3;obtain ⟨k0,k1,kf0,kf1⟩:=rec2b hq3;obtain ⟨c0,c1,c2,c3,f0,f1,f2,f3⟩:=cells4 hb3;obtain ⟨z0,z1,z2,z3,g0,g1,g2,g3⟩:=cells4 hz3;have HAW:=hid (afterWalk hb3 hq3 hz3 HKL.out (.int .i64 x.kind) (.int .i64 x.n) (.string x.name) (.slice x.at_.1 x.args.length x.at_.2) (.int .i64 ((s:Int)+1)));have HXI:=hid hxin;have HXB:=hid hxb;have HS3:=hid S3;have hal2:((x.args.length:Int) == 0)=false:=(by (have h1:=Tm.bare_arity x;have h2:=HQ.out;rw [hxb] at h1;simp only [beq_eq_false_iff_ne,ne_eq];omega));clear hq3 hb3 hz3 hxin hxb S3 T3)
        have HM:=hid (MadeW.mk' HH.out HAP.out HAW.out HT2.out HS3.out HXI.out);clear HAW HXI HS3 HT2;revert HM;generalize (((((w3.setCell ⟨w.heap.size,0,none⟩ (.int .i64 x.kind)).setCell ⟨w.heap.size,1,none⟩ (.int .i64 x.n)).setCell ⟨w.heap.size,2,none⟩ (.string x.name)).setCell ⟨w.heap.size,3,none⟩ (.slice x.at_.1 x.args.length x.at_.2)).setCell ⟨K,1,none⟩ (.int .i64 ((s:Int)+1)))=W4;intro HM
        have hal8:x.args.length≤8:=by have h1:=Tm.bare_arity x;have h2:=HKN.out.2.2;rw [HXB.out] at h1;omega
        have HLP:Hid (0 < x.args.length):=by show 0 < _;have h1:=Tm.bare_arity x;have h2:=HQ.out;rw [HXB.out] at h1;omega
        have HCX:=hid (fun W (T:Turned zN W4 W)=>cells4 (HM.out.on T).n0);clear c0 c1 c2 c3 f0 f1 f2 f3 z0 z1 z2 z3 g0 g1 g2 g3 k0 k1 kf0 kf1 e0 e1 y0 y1 y2 y3;refine wp_region_k [40,41,42,43,44,45,46,47,48,8] [7,8,9,10] [(47,7),(48,8),(8,9)] (fun dd v=>(match dd with | 40=>v = .pointer (some ⟨w.heap.size,0,none⟩) | 41=>v = .int .i64 x.kind | 42=>v = .pointer (some ⟨w.heap.size,2,none⟩) | 43=>v = .string x.name | 44=>v = .pointer (some ⟨w.heap.size,3,none⟩) | 45=>v = .slice x.at_.1 x.args.length x.at_.2 | 46=>v = .int .i64 x.args.length | _=>True:Prop)) (MkR W4 x x.args.length) (by kernel_rfl) rfl (by kernel_rfl) (by kernel_rfl) (fun w h=>MkR.start h) (fun hs w w' h ht=>h.turned0 ht) ?hs ?hQ
        case hs=>
         refine ⟨?s0,?s1,?s2,?s3,?s4,?s5,?s6,?s7,?s8,?s9,?s10,trivial⟩
         case s0=>refine fun hs hl=>zG [] [4] fun ac W hT hI hO=>?_;simp only [execOp,Act.eval,hO 4 (by simp)];go_simp;try exact tq
         case s1=>refine fun hs hl=>zG [40] [] fun ac W hT hI hO=>?_;have h40:_=_:=hI 40 (by simp);obtain ⟨q0,q1,q2,q3,_⟩:=HCX.out W hT.t;simp only [execOp,Act.eval,h40];go_simp;try exact tq
         case s2=>refine fun hs hl=>zG [] [4] fun ac W hT hI hO=>?_;simp only [execOp,Act.eval,hO 4 (by simp)];go_simp;try exact tq
         case s3=>refine fun hs hl=>zG [42] [] fun ac W hT hI hO=>?_;have h42:_=_:=hI 42 (by simp);obtain ⟨q0,q1,q2,q3,_⟩:=HCX.out W hT.t;simp only [execOp,Act.eval,h42];go_simp;try exact tq
         case s4=>refine fun hs hl=>zG [] [4] fun ac W hT hI hO=>?_;simp only [execOp,Act.eval,hO 4 (by simp)];go_simp;try exact tq
         case s5=>refine fun hs hl=>zG [44] [] fun ac W hT hI hO=>?_;have h44:_=_:=hI 44 (by simp);obtain ⟨q0,q1,q2,q3,_⟩:=HCX.out W hT.t;simp only [execOp,Act.eval,h44];go_simp;try exact tq
         case s6=>refine fun hs hl=>zG [45] [] fun ac W hT hI hO=>?_;have h45:_=_:=hI 45 (by simp);simp only [execOp,Act.eval,h45];go_simp;try exact tq
         case s7=>
          refine fun hs hno hl=>zG [46] [] fun ac W hT hI hO=>?_;have h46:_=_:=hI 46 (by simp);show Brings _ (fun v w'=>MkR W4 x x.args.length (hs++[(7,v)]) w') _;have hmk:=make_blanksT x.args.length (by omega) W;have hm1:=hmk.1;have HM2:=hid hmk.2;clear hmk;simp only [execOp,Act.eval,h46];go_simp;exact hT.made hno HM2.out
         case s8=>
          refine fun hs hno hl=>zG [41,43,47] [] fun ac W hT hI hO=>?_;have h41:_=_:=hI 41 (by simp);have h43:_=_:=hI 43 (by simp);have h47:(7,ac.tmps.getD 47 undef)∈hs:=hI 47 (by simp);show Brings _ (fun v w'=>MkR W4 x x.args.length (hs++[(8,v)]) w') _;obtain ⟨G,eG,_,_⟩:=hT.row _ h47;refine brings_build27 41 43 47 rfl h41 h43 eG ?_;rw [eG] at h47;exact hT.built h47
         case s9=>
          refine fun hs hno hl=>zG [] [] fun ac W hT hI hO=>?_;show Brings _ (fun v w'=>MkR W4 x x.args.length (hs++[(9,v)]) w') _;simp only [execOp,Act.eval];go_simp;exact hT.laid hno (fun q=>hl 10 11 q (by kernel_rfl))
         case s10=>
          refine fun hs hno hl=>zG [8,48] [] fun ac W hT hI hO=>?_;have h8:(9,ac.tmps.getD 8 undef)∈hs:=hI 8 (by simp);have h48:(8,ac.tmps.getD 48 undef)∈hs:=hI 48 (by simp);obtain ⟨B,a0,a1,a2,a3,eB,hB⟩:=hT.cell h8;obtain ⟨sv,hsv,eA⟩:=hT.agg _ h48;obtain ⟨G,eG,_,_⟩:=hT.row _ hsv;rw [eG] at eA;obtain ⟨d0,d1,d2,d3,f0,f1,f2,f3⟩:=cells4 hB;show Brings _ (fun v w'=>MkR W4 x x.args.length (hs++[(10,v)]) w') _;simp only [execOp,Act.eval,eB,eA];go_simp;rw [eB] at h8;rw [eA] at h48;exact hT.stored h8 h48
        case hQ=>
         intro hs7 vs W5 hall huniq hR hV;obtain ⟨G,B,q8,hGB,hG,hB,hb5,hr5,T5⟩:=hR.done hall (hV 8 (by simp)) huniq;simp only [Qq,List.foldl_nil,Qk,Qs,Qr,q8];have HM5:=hid (HM.out.on T5);have HB5:=hid hb5
         have HZ:Hid (G≠B∧w.heap.size+2≤G∧w.heap.size+2≤B∧B < W5.heap.size∧G < W5.heap.size):=by
          have h1:=(zL HM.out.n1);exact ⟨hGB,by omega,by omega,(zL hb5),hr5.lt G rfl⟩
         obtain ⟨c0,c1,c2,c3,_⟩:=cells4 HM5.out.n0
         have hL:=fun W h=>(LT.In.lies (p:=p) (w:=W) (t:=x) h)
         obtain ⟨ad,had⟩:∃ z,z=x.at_.1:=⟨_,rfl⟩;rw [←had] at hL c3;rw [←had];have HL:=hid hL;obtain ⟨o0,o1,o2,o3,_⟩:=cells4 hb5;have HMI:Hid (MakI p (Tm.img (bt l)) G K x W5 0 (blanks x.args.length) W5):=⟨blanks_length _,rfl,hr5,blanks_in _ _ _,Turned.refl _ _⟩;obtain ⟨Y,hY⟩:∃ z,z=x.args.map (fun y=>Tm.img (bt l) y.bare):=⟨_,rfl⟩
         have HYI:Hid (Tm.img (bt l) t.bare = .mk x.kind 0 x.name () Y):=by
          show _=_;have h1:=HAR.out;rw [←HXB.out,Tm.bare_kind,Tm.bare_name,Tm.bare_args,Tm.bares_eq,List.map_map] at h1;rw [h1,hY];rfl
         have HY:=hid hY;clear hall huniq hR hV hs7 hGB hG hB hb5 hr5 T5 q8 hY had hL
         go_wp2_with fail
         go_loopg [52] x.args.length (fun k i wr=>MakL p bb K l x s d G Y W5 k i wr)
         case atStart=>exact ⟨0,_,Nat.zero_add _,Nat.zero_le _,rfl,HMI,show _=_ by (have:=HM5.out.k;simpa [Tm.sizes] using this),show _≤_ by simpa [Tm.sizes] using hA,fun y hy=>by simp at hy⟩
         case round=>
          obtain ⟨j,us,HG,hj,rfl,HMI,HKJ,HSJ,HDJ⟩:=hrel;have hob:=(HMI.out.turned.block B HZ.out.2.2.2.1 (fun e=>by have:=HZ.out;have:=HKL.out;omega)).trans HB5.out
          have HXJ:=hid (LT.In.turned HMI.out.turned (fun k _ hk e=>by
           have h1:=(HH.out.sep k hk).1
           rcases e with e | e
           · have:=HZ.out;omega
           · exact HAP.out.2.2 (e ▸ hk)) (fun _ _ hk=>hk) x HM5.out.inn)
          have HBJ:Hid (BI p bb sb lv tv m l wr):=HM5.out.bi.turned HMI.out.turned (fun k hk e=>by
           rcases e with e | e
           · subst e
             have h0:=HZ.out.2.1;refine ⟨fun c=>by have:=HH.out.own_lt _ c;omega,fun b hb c=>by have:=(zL (HH.out.terms b hb).1);omega,fun c=>by have:=(HH.out.sep _ c).1;omega⟩
           · rw [show k=K from e];exact HAP.out)
          have HSZ:Hid (W5.heap.size≤wr.heap.size):=HMI.out.turned.size;obtain ⟨o0,o1,o2,o3,_⟩:=cells4 hob;have HOB:=hid hob;clear hob
          by_cases hjl:j < x.args.length
          · obtain ⟨xj,hxj⟩:∃ y:LT,x.args[j]? = some y:=⟨_,Qa hjl⟩
            have hYj:Y[j]? = some (Tm.img (bt l) xj.bare):=by rw [HY.out,Qp,hxj];rfl
            have hone:∀ z∈xj.bare.flat,goodOneB z=true:=fun z hz=>HWD.out.ones z (by
             rw [←HXB.out,Tm.flat_eq];refine Qb _ (Tm.mem_flats_iff.2 ⟨xj.bare,?_,hz⟩);rw [Tm.bare_args,Tm.bares_eq]
             exact List.mem_map_of_mem (Qf hxj))
            have hih:=fun W (T:Turned zN wr W)=>ih xj W (s+1+Tm.sizes (Y.take j)) (d+1) (by omega) (by omega) (HBJ.out.turned0 T) ((LT.ins_iff _).1 (HXJ.out.turned0 T).args xj (Qf hxj)) hone HAP.out ((T.block K (zL HKJ.out) (fun f=>f)).trans HKJ.out) HSJ.out
            rw [show (((d+1:Nat):Int))=(d:Int)+1 from by omega,LT.val_eq xj] at hih;obtain ⟨b,o,rfl,_,x0,x1,x2,x3⟩:=(HL.out _ HXJ.out).cell hxj;have HXX:=hid hxj;have HYJ:=hid hYj
            have hhw:(w.heap.size+1:Nat)≠G:=by have:=HZ.out;omega
            have hbx:=heap_alloc_new wr (.cells #[.int .i64 xj.kind,.int .i64 xj.n,.string xj.name,.slice xj.at_.1 xj.args.length xj.at_.2] 27);have TX:Turned zN wr (wr.alloc (.cells #[.int .i64 xj.kind,.int .i64 xj.n,.string xj.name,.slice xj.at_.1 xj.args.length xj.at_.2] 27)):=(Turned.refl _ wr).alloc _;have HBT:=And.intro (hid hbx) (hid TX);clear hbx TX hxj hYj hone;obtain ⟨ok,hok⟩:∃ z,z=Tm.makeOk (s+1+Tm.sizes (Y.take j)) (d+1) (Tm.img (bt l) xj.bare):=⟨_,rfl⟩
            have hih':∀ W,Turned zN wr W→Calls Try.prog 147 #[.pointer (some ⟨K,0,none⟩),.agg #[.int .i64 xj.kind,.int .i64 xj.n,.string xj.name,.slice xj.at_.1 xj.args.length xj.at_.2],.int .i64 ((d:Int)+1)] W fun e w'=>∃ u:LT,e = .returned (.tuple #[u.val,.bool ok])∧CallQ p bb K ok (Tm.img (bt l) xj.bare) (s+1+Tm.sizes (Y.take j)) W u w':=fun W T=>(hih W T).mono (fun e w' ⟨u,h1,h2,h3,h4,h5⟩=>⟨u,by rw [h1,hok],h2,by rw [hok];exact h3,by rw [hok];exact h4,h5⟩)
            have HIH:=hid hih';have HOK:=hid hok;clear hih hih' hok
            go_wp2_with fail
            revert HBT;generalize wr.alloc (.cells #[.int .i64 xj.kind,.int .i64 xj.n,.string xj.name,.slice xj.at_.1 xj.args.length xj.at_.2] 27)=wx;obtain ⟨B9,hB9⟩:∃ z,z=wr.heap.size:=⟨_,rfl⟩;rw [←hB9];intro HBT;have HB9:=hid hB9;clear hB9;obtain ⟨HBX,HTX⟩:=HBT;have HCB:=hid (fun W (T:Turned (fun k=>k=K∨k=G) wx W)=>cells4 ((T.block B9 (zL HBX.out) (fun e=>by have:=HB9.out;have:=HKL.out;have:=HZ.out;have:=HSZ.out;omega)).trans HBX.out));have HCO:=hid (fun W (T:Turned (fun k=>k=K∨k=G) wx W)=>cells4 ((T.block B (Qo (zL HOB.out) HTX.out.size) (fun e=>by have:=HKL.out;have:=HZ.out;omega)).trans ((HTX.out.block B (zL HOB.out) (fun f=>f)).trans HOB.out)));clear o0 o1 o2 o3 x0 x1 x2 x3;refine wp_region_hsW [58,59,60,61,62,63,64,65,57,66,67,68,11] [7,8,9,12] [3,3,3,0,0,0,0,1,2,3,4,3,4,4] [65,57,66,100012] (fun dd v=>(match dd with | 58=>v = .pointer (some ⟨B,3,none⟩) | 59=>v = .slice (some ⟨G,0,none⟩) x.args.length x.args.length | 60=>v = .int .i64 j | 61=>v = .pointer (some ⟨K,0,none⟩) | 62=>v = .agg #[.int .i64 xj.kind,.int .i64 xj.n,.string xj.name,.slice xj.at_.1 xj.args.length xj.at_.2] | 63=>v = .int .i64 d | 64=>v = .int .i64 ((d:Int)+1) | 67=>v = .bool ok | 68=>v = .pointer (some ⟨G,j * 4,none⟩) | 11=>v = .bool ok | _=>True:Prop)) (MrS p (Tm.img (bt l)) bb K G ok (Tm.img (bt l) xj.bare) (s+1+Tm.sizes (Y.take j)) x j W5 wx) (by kernel_rfl) rfl (by kernel_rfl) (by kernel_rfl) (by kernel_rfl) (by kernel_rfl) (fun w h=>h) (fun hs w w' h T=>MrS.turned0 hs w w' h T) ?hs ?hQ
            case hs=>
             refine ⟨?s0,?s1,?s2,?s3,?s4,?s5,?s6,?s7,?s8,?s9,?s10,?s11,?s12,?s13,trivial⟩
             case s0=>refine fun hs hle=>zG [] [8] fun ac W hT hI hO=>?_;simp only [execOp,Act.eval,hO 8 (by simp)];go_simp;try exact tq
             case s1=>refine fun hs hle=>zG [58] [] fun ac W hT hI hO=>?_;have h58:_=_:=hI 58 (by simp);obtain ⟨q0,q1,q2,q3,_⟩:=HCO.out W (MrS.turned hs W hT);simp only [execOp,Act.eval,h58];go_simp;try exact tq
             case s2=>refine fun hs hle=>zG [] [9] fun ac W hT hI hO=>?_;simp only [execOp,Act.eval,hO 9 (by simp)];go_simp;try exact tq
             case s3=>refine fun hs hle=>zG [] [0] fun ac W hT hI hO=>?_;simp only [execOp,Act.eval,hO 0 (by simp)];go_simp;try exact tq
             case s4=>refine fun hs hle=>zG [] [10] fun ac W hT hI hO=>?_;obtain ⟨q0,q1,q2,q3,_⟩:=HCB.out W (MrS.turned hs W hT);simp only [execOp,Act.eval,hO 10 (by simp)];go_simp;try exact tq
             case s5=>refine fun hs hle=>zG [] [2] fun ac W hT hI hO=>?_;simp only [execOp,Act.eval,hO 2 (by simp)];go_simp;try exact tq
             case s6=>
              refine fun hs hle=>zG [63] [] fun ac W hT hI hO=>?_;have h63:_=_:=hI 63 (by simp);simp only [execOp,Act.eval,h63];go_simp
              try rw [wrapI (by omega) (by omega)]
              try exact tq
             case s7=>
              refine fun hs hlen=>zG [61,62,64] [] fun ac W hT hI hO=>?_;have h61:_=_:=hI 61 (by simp);have h62:_=_:=hI 62 (by simp);have h64:_=_:=hI 64 (by simp);obtain rfl:hs=[]:=Qh hlen;replace hT:Turned zN wx W:=hT;show Brings _ (fun v w'=>MrS p (Tm.img (bt l)) bb K G ok (Tm.img (bt l) xj.bare) (s+1+Tm.sizes (Y.take j)) x j W5 wx [v] w') _;simp only [execOp,Act.eval,h61,h62,h64];go_simp;show Calls Try.prog 147 _ W _
              (with_reducible refine (HIH.out W (HTX.out.trans hT)).mono ?_)
              rintro e w' ⟨u,rfl,k1,k2,k3,k4⟩
              exact ⟨_,rfl,u,by rw [LT.val_eq],k1.mono (fun k _ hk=>hk.elim .inl (fun hk=>.inr (QA hT.size hk))),k2,k3,(hT.mono (fun _ _ f=>f.elim)).trans k4⟩
             case s8=>
              refine fun hs hlen=>zG [65] [] fun ac W hT hI hO=>?_;have h65:hs[0]? = some (ac.tmps.getD 65 undef):=hI 65 (by simp);obtain ⟨a,rfl⟩:=List.length_eq_one_iff.1 hlen;obtain ⟨u,ea,hC⟩:=hT
              have e65:a=ac.tmps.getD 65 undef:=by simpa using h65
              rw [e65] at ea;show Brings _ (fun v w'=>MrS p (Tm.img (bt l)) bb K G ok (Tm.img (bt l) xj.bare) (s+1+Tm.sizes (Y.take j)) x j W5 wx [a,v] w') _;simp only [execOp,Act.eval,ea];go_simp;exact ⟨u,rfl,hC⟩
             case s9=>
              refine fun hs hlen=>zG [57] [] fun ac W hT hI hO=>?_;have h57:hs[1]? = some (ac.tmps.getD 57 undef):=hI 57 (by simp);obtain ⟨a,b,rfl⟩:=list2' hlen;obtain ⟨u,ea,hC⟩:=hT
              have e57:b=ac.tmps.getD 57 undef:=by simpa using h57
              show Brings _ (fun v w'=>MrS p (Tm.img (bt l)) bb K G ok (Tm.img (bt l) xj.bare) (s+1+Tm.sizes (Y.take j)) x j W5 wx [a,b,v] w') _;rw [e57] at ea;simp only [execOp,Act.eval,ea];go_simp;exact ⟨u,by first | rfl | (rw [e57];exact ea),rfl,hC⟩
             case s10=>refine fun hs hle=>zG [57] [] fun ac W hT hI hO=>?_;have h57:hs[1]? = some (ac.tmps.getD 57 undef):=hI 57 (by simp);obtain ⟨u,eu⟩:=MrS.tup hs W _ hT h57;simp only [execOp,Act.eval,eu];go_simp;try exact tq
             case s11=>refine fun hs hle=>zG [59,60] [] fun ac W hT hI hO=>?_;have h59:_=_:=hI 59 (by simp);have h60:_=_:=hI 60 (by simp);simp only [execOp,Act.eval,h59,h60];go_simp;try exact tq
             case s12=>
              refine fun hs hlen=>zG [68,66] [] fun ac W hT hI hO=>?_;have h68:_=_:=hI 68 (by simp);have h66:hs[2]? = some (ac.tmps.getD 66 undef):=hI 66 (by simp);obtain ⟨a,b,c,rfl⟩:=list3' hlen;obtain ⟨u,eb,ec,hC⟩:=hT
              have e66:c=ac.tmps.getD 66 undef:=by simpa using h66
              show Brings _ (fun v w'=>MrS p (Tm.img (bt l)) bb K G ok (Tm.img (bt l) xj.bare) (s+1+Tm.sizes (Y.take j)) x j W5 wx [a,b,c,v] w') _;rw [e66] at ec;have hrw:=(HMI.out.row.turned0 HTX.out).turned hC.2.2.2 (fun k hk e=>by simp [Value.ownBlock] at hk;have:=HZ.out;have:=HKL.out;omega);have f0:=hrw.free rfl (j * 4);have f1:=hrw.free rfl (j * 4+1);have f2:=hrw.free rfl (j * 4+2);have f3:=hrw.free rfl (j * 4+3);obtain ⟨z0,g0⟩:=row_some hrw (j * 4) (by omega);obtain ⟨z1,g1⟩:=row_some hrw (j * 4+1) (by omega);obtain ⟨z2,g2⟩:=row_some hrw (j * 4+2) (by omega);obtain ⟨z3,g3⟩:=row_some hrw (j * 4+3) (by omega);have HRS:=hid (mr_store (w3:=W5) HMI.out HTX.out (fun k hk=>⟨by have:=(HH.out.sep k hk).1;have:=HZ.out;omega,fun e=>HAP.out.2.2 (e ▸ hk)⟩) (by have:=HZ.out;have:=HKL.out;omega) (by have:=HZ.out;have:=HSZ.out;omega) HXX.out rfl hC);simp only [execOp,Act.eval,h68,ec];go_simp;exact ⟨⟨u,by first | rfl | exact eb⟩,HRS.out⟩
             case s13=>
              refine fun hs hle=>zG [67] [] fun ac W hT hI hO=>?_;have h67:_=_:=hI 67 (by simp);simp only [execOp,Act.eval,h67];go_simp
              try exact tq
            case hQ=>
             intro hs4 vs4 W9 hlen hR hV;have q11:vs4 11 = .bool ok:=hV 11 (by simp);simp only [Qq,List.foldl_nil,Qk,Qs,Qr,q11];obtain ⟨e1,e2,e3,e4,rfl⟩:∃ a b c d,hs4=[a,b,c,d]:=list4' hlen;have HRQ:=hid (show RowQ p (Tm.img (bt l)) bb K G ok (Tm.img (bt l) xj.bare) (s+1+Tm.sizes (Y.take j)) x j W5 wx W9 from hR.2);clear hR hV q11 hlen
             cases ok with
             | false=>
              have HNO:Hid (Tm.makeOk s d (Tm.img (bt l) t.bare)=false):=Tm.makeOk_no (i:=j) (x:=Tm.img (bt l) xj.bare) (by rw [HYI.out];exact HYJ.out) (by rw [HYI.out];exact HOK.out.symm);have hz9:=(HRQ.out.2.1.block (w.heap.size+1) (by have:=(zL HM5.out.n1);have:=HSZ.out;have:=HTX.out.size;omega) (fun e=>by have:=HKL.out;have:=HZ.out;omega)).trans ((HTX.out.block _ (by have:=(zL HM5.out.n1);have:=HSZ.out;omega) (fun f=>f)).trans ((HMI.out.turned.block _ (zL HM5.out.n1) (fun e=>by have:=HKL.out;have:=HZ.out;omega)).trans HM5.out.n1));obtain ⟨z0,z1,z2,z3,f0,f1,f2,f3⟩:=cells4 hz9;have HZ9:=hid hz9;clear hz9
              go_wp2_with fail
              have hset:=set4 (a':=.int .i64 0) (b':=.int .i64 0) (c':=.string ⟨#[]⟩) (d':=.slice none 0 0) HZ9.out
              have Tq:=fun W=>turned_store4 W (w.heap.size+1) (.int .i64 0) (.int .i64 0) (.string ⟨#[]⟩) (.slice none 0 0)
              obtain ⟨⟨s',hk9,_⟩,ht9,_⟩:=HRQ.out;refine bodyPost_ret (results_cell_tmp1 Try.results147 _ _ (w.heap.size+1) 27 _ (0,0) _ rfl hset Try.underlying27 rfl (by kernel_rfl)) rfl (MakeQ.no HNO.out (((Tq _).block K (zL hk9) (by omega)).trans hk9) ?_);refine ((((HM5.out.turned.step HMI.out.turned (fun i hi e=>?_)).trans (HTX.out.mono (fun _ _ f=>f.elim))).step ht9 (fun i hi e=>?_))).step (Tq _) (fun i hi e=>by omega)
              · rcases e with e | e
                · have:=HZ.out;omega
                · exact e
              · rcases e with e | e
                · exact e
                · have:=HZ.out;omega
             | true=>
              obtain ⟨⟨s',hk9,hs9⟩,ht9,hm9⟩:=HRQ.out;have hs9':=hs9 rfl;subst hs9';have HK9:=hid hk9;have HT9:=hid ht9;have HM9:=hid (hm9 rfl);clear hk9 ht9 hm9 hs9
              go_wp2_with fail
              have hst:=Tm.sizes_take HYJ.out;obtain ⟨h1,h2⟩:=Tm.makeOk_iff.1 HOK.out.symm;obtain ⟨us',hI9⟩:=HM9.out;have HST:=hid hst;have HI9:=hid hI9;have H12:=hid (And.intro h1 h2);clear hst hI9 h1 h2;go_roundg (gk - 1)
              case measure=>have:=HG.out;omega
              case rel=>
               refine ⟨j+1,us',show _=_ by have:=HG.out;omega,by omega,by go_num,HI9,?_,?_,?_⟩
               · show _=_
                 rw [HST.out];have:=HK9.out;rw [show s+1+(Tm.sizes (Y.take j)+(Tm.img (bt l) xj.bare).size)=s+1+Tm.sizes (Y.take j)+(Tm.img (bt l) xj.bare).size from by omega];exact this
               · show _≤_
                 rw [HST.out];have:=H12.out.1;omega
               · show ∀ y∈_,_
                 intro y hy;rw [List.take_add_one,HYJ.out] at hy
                 rcases Qn.1 hy with hy | hy
                 · exact HDJ.out y hy
                 · simp at hy;rw [hy];have:=H12.out.2;omega
          · obtain rfl:j=x.args.length:=by omega
            have hyl:Y.length=x.args.length:=by rw [HY.out,Qu]
            have hk0:=HKJ.out;have hs0:=HSJ.out;have hd0:=HDJ.out;rw [←hyl,List.take_length] at hk0 hs0 hd0;have hmk:Tm.makeOk s d (Tm.img (bt l) t.bare)=true:=Tm.makeOk_yes hA hD (by rw [HYI.out];exact hs0) (by rw [HYI.out];exact hd0)
            have hms:(Tm.img (bt l) t.bare).size=1+Tm.sizes Y:=by rw [HYI.out,Tm.size_eq];rfl
            have HK0:=hid hk0;have HMK:=hid (And.intro hmk hms);have hz9:=(HMI.out.turned.block _ (zL HM5.out.n1) (fun e=>by have:=HKL.out;have:=HZ.out;omega)).trans HM5.out.n1;obtain ⟨z0,z1,z2,z3,f0,f1,f2,f3⟩:=cells4 hz9;have HZ9:=hid hz9;clear hz9 hyl hk0 hs0 hd0 hmk hms
            go_wp2_with fail
            have hset:=set4 (a':=.int .i64 x.kind) (b':=.int .i64 0) (c':=.string x.name) (d':=.slice (some ⟨G,0,none⟩) x.args.length x.args.length) HZ9.out
            have Tq:=fun W=>turned_store4 W (w.heap.size+1) (.int .i64 x.kind) (.int .i64 0) (.string x.name) (.slice (some ⟨G,0,none⟩) x.args.length x.args.length)
            refine bodyPost_ret (results_cell_tmp1 Try.results147 _ _ (w.heap.size+1) 27 _ (0,0) _ rfl hset Try.underlying27 rfl (by kernel_rfl)) rfl ?_
            have hTT:=(HM5.out.turned.step HMI.out.turned (fun i hi e=>by
             rcases e with e | e
             · have:=HZ.out;omega
             · exact e)).step (Tq _) (fun i hi e=>by omega)
            have hrow:=HMI.out.row.turned (Tq _) (fun k hk e=>by simp [Value.ownBlock] at hk;have:=HZ.out;omega)
            have hins:=HMI.out.ins.turned (q:=fun k=>p k∨w.heap.size≤k) (Tq _) (fun k _ hk e=>by
             rcases hk with hk | hk
             · have:=(HH.out.sep k hk).1;omega
             · have:=HZ.out;omega) (fun k _ hk=>hk.elim .inl (fun hk=>.inr (by have:=HZ.out;omega)))
            obtain ⟨e1,e2⟩:=LT.Sl.of_row (p:=fun k=>p k∨w.heap.size≤k) hrow (fun k hk=>.inr (by simp [Value.ownBlock] at hk;have:=HZ.out;omega)) hins;have hUL:us.length=x.args.length:=HMI.out.len;have hyes:=MakeQ.yes (p:=p) (bb:=bb) (K:=K) (l:=l) (t:=t) (u:=.mk x.kind 0 x.name (some ⟨G,0,none⟩,x.args.length) us) (s:=s) (d:=d) (w:=w) HMK.out.1 ?_ (e2.in_ HM5.out.inn.kind (i64_lit _ (by omega)) HM5.out.inn.name) (((Tq _).block K (zL HK0.out) (by omega)).trans HK0.out) (by rw [HMK.out.2];omega) hTT
            · simp only [Tm.kind,Tm.n,Tm.name,Tm.args,LT.at_] at hyes
              rw [hUL] at hyes;exact hyes
            · have hbr:=HMI.out.bares
              rw [List.take_length,←hUL,List.take_length] at hbr;rw [HYI.out,Tm.bare,Tm.bares_eq,hbr,HY.out]
    · have d2:decide (64 < (d:Int))=true:=decide_eq_true (by omega)
      have hno:Tm.makeOk s d (Tm.img (bt l) t.bare)=false:=by
       rw [Bool.eq_false_iff,ne_eq,Tm.makeOk_iff];have:=Tm.depth_pos (Tm.img (bt l) t.bare);omega
      go_enter Try.func147,Try.ntmps147
      go_wp2_with fail
      rw [←HW2.out];obtain ⟨e0,e1,_⟩:=rec2b (HKP.out w2 (Turned.refl _ _));obtain ⟨y0,y1,y2,y3,_⟩:=cells4 (HCP.out w2 (Turned.refl _ _)).1;refine region_tail 5 (by kernel_rfl) (by kernel_rfl) ?_;simp only [List.take_succ_cons,List.take_zero,List.drop_succ_cons,List.drop_zero]
      repeat still_step
      refine wpStill_nil ?_
      go_wp2_with (go_at_call 90;(with_reducible refine (HWK.out _ (Turned.refl _ _).drew).mono ?_);rintro e w3 ⟨x,rfl,hxin,hxb,T3⟩;rw [LT.val_eq x];have S3:=(Turned.refl _ w2).drew.trans T3;have hq3:=HKP.out _ S3;obtain ⟨hb3,hz3⟩:=HCP.out _ S3;obtain ⟨k0,k1,kf0,kf1⟩:=rec2b hq3;obtain ⟨c0,c1,c2,c3,f0,f1,f2,f3⟩:=cells4 hb3;obtain ⟨z0,z1,z2,z3,g0,g1,g2,g3⟩:=cells4 hz3;have HAW:=hid (afterWalk hb3 hq3 hz3 HKL.out (.int .i64 x.kind) (.int .i64 x.n) (.string x.name) (.slice x.at_.1 x.args.length x.at_.2) (.int .i64 ((s:Int)+1)));have HXI:=hid hxin;have HXB:=hid hxb;have HS3:=hid S3;clear hq3 hb3 hz3 hxin hxb S3 T3)
      obtain ⟨A1,A2,A3,A4⟩:=HAW.out;have hset:=set4 (a':=.int .i64 0) (b':=.int .i64 0) (c':=.string ⟨#[]⟩) (d':=.slice none 0 0) A3
      have Tq:=fun W=>turned_store4 W (w.heap.size+1) (.int .i64 0) (.int .i64 0) (.string ⟨#[]⟩) (.slice none 0 0)
      refine bodyPost_ret (results_cell_tmp1 Try.results147 _ _ (w.heap.size+1) 27 _ (0,0) _ rfl hset Try.underlying27 rfl (by kernel_rfl)) rfl (MakeQ.no hno (((Tq _).block K (zL A2) (by omega)).trans A2) (make_turned HT2.out HS3.out A4 (Tq _)))
  · have d1:decide (2000 < (s:Int)+1)=true:=decide_eq_true (by omega)
    have hno:Tm.makeOk s d (Tm.img (bt l) t.bare)=false:=by
     rw [Bool.eq_false_iff,ne_eq,Tm.makeOk_iff];have:=Tm.size_pos (Tm.img (bt l) t.bare);omega
    go_enter Try.func147,Try.ntmps147
    go_wp2_with fail
    rw [←HW2.out];obtain ⟨e0,e1,_⟩:=rec2b (HKP.out w2 (Turned.refl _ _));obtain ⟨y0,y1,y2,y3,_⟩:=cells4 (HCP.out w2 (Turned.refl _ _)).1;refine region_tail 5 (by kernel_rfl) (by kernel_rfl) ?_;simp only [List.take_succ_cons,List.take_zero,List.drop_succ_cons,List.drop_zero]
    repeat still_step
    refine wpStill_nil ?_
    go_wp2_with (go_at_call 90;(with_reducible refine (HWK.out _ (Turned.refl _ _).drew).mono ?_);rintro e w3 ⟨x,rfl,hxin,hxb,T3⟩;rw [LT.val_eq x];have S3:=(Turned.refl _ w2).drew.trans T3;have hq3:=HKP.out _ S3;obtain ⟨hb3,hz3⟩:=HCP.out _ S3;obtain ⟨k0,k1,kf0,kf1⟩:=rec2b hq3;obtain ⟨c0,c1,c2,c3,f0,f1,f2,f3⟩:=cells4 hb3;obtain ⟨z0,z1,z2,z3,g0,g1,g2,g3⟩:=cells4 hz3;have HAW:=hid (afterWalk hb3 hq3 hz3 HKL.out (.int .i64 x.kind) (.int .i64 x.n) (.string x.name) (.slice x.at_.1 x.args.length x.at_.2) (.int .i64 ((s:Int)+1)));have HXI:=hid hxin;have HXB:=hid hxb;have HS3:=hid S3;clear hq3 hb3 hz3 hxin hxb S3 T3)
    obtain ⟨A1,A2,A3,A4⟩:=HAW.out;have hset:=set4 (a':=.int .i64 0) (b':=.int .i64 0) (c':=.string ⟨#[]⟩) (d':=.slice none 0 0) A3
    have Tq:=fun W=>turned_store4 W (w.heap.size+1) (.int .i64 0) (.int .i64 0) (.string ⟨#[]⟩) (.slice none 0 0)
    refine bodyPost_ret (results_cell_tmp1 Try.results147 _ _ (w.heap.size+1) 27 _ (0,0) _ rfl hset Try.underlying27 rfl (by kernel_rfl)) rfl (MakeQ.no hno (((Tq _).block K (zL A2) (by omega)).trans A2) (make_turned HT2.out HS3.out A4 (Tq _)))
end Go.Proofs.Ytoihjobdfjajfaa

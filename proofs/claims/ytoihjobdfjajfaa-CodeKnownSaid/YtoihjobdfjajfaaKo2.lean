/- Merged texts: BS2, CB1, BS3, TV2, Key, AL5, RL4, BI, BD1, BD2, BD3, BS4, BS5, BW0, BD5, RL5, BD7, BD8, BD9, BD4, BD6, BD10, AL7, BE1, BE2, BT1. -/
import Derived.Test.YtoihjobdfjajfaaKo1
import Derived.Laws.StructEq
import Derived.BigQuiet
import Derived.Laws.MakeOwn
import Derived.Deep.OwnRows
import Derived.Laws.OwnMore
import Derived.Deep.RegionLaw
import Derived.Deep.RegionHeld3
import Derived.Deep.DrawnRows
import Derived.Deep.DeepCutAuto
import Derived.Deep.CutBlock
import Derived.Lib.SliceRun
import Derived.LoopTactic
import Derived.BigRegion
set_option linter.unusedVariables false
set_option linter.unusedSimpArgs false
open List renaming getElem?_eq_getElem → Qa, mem_cons_of_mem → Qb, mem_append_left → Qc, mem_cons_self → Qe, mem_of_getElem? → Qf, getElem?_eq_some_iff → Qg, eq_nil_of_length_eq_zero → Qh, length_append → Qi, mem_append_right → Qj, setIfInBounds_toArray → Qk, not_mem_nil → Ql, mem_append → Qn, getElem?_map → Qp, foldl_cons → Qq, set_cons_succ → Qr, set_cons_zero → Qs, all_eq_true → Qt, length_map → Qu, mem_cons → Qw, map_cons → Qx, length_cons → QB
open Bool renaming and_eq_true → Qd
open Nat renaming le_refl → Qm, lt_of_lt_of_le → Qo, lt_irrefl → Qy, lt_of_le_of_lt → Qz, le_trans → QA
open Array renaming getElem?_toList → Qv, getElem?_eq_some_iff → QC
set_option maxHeartbeats 12800000
namespace Go.Proofs.Ytoihjobdfjajfaa
namespace Tm
def lower (l:Trail) (y:Tm Unit) (h:Int):Prop:=∀ v,numsIn y v→rk l v < rk l h
structure Seek (l:Trail) (n:Int) (t:Tm Unit) (todo:List (Tm Unit)) (had:List Int):Prop where
 leafy:∀ y∈todo,leafy y
 sound:∀ y∈todo,numsIn (img l y) n→numsIn (img l t) n
 met:∀ h∈had,numsIn (sig l h) n→∃ y∈todo,numsIn (img l y) n∧lower l y h
 whole:numsIn (img l t) n→∃ y∈todo,numsIn (img l y) n
theorem Seek.start {l:Trail} {n:Int} {t:Tm Unit} (ht:Tm.leafy t):Seek l n t [t] []:=
 ⟨fun y hy=>by rw [List.mem_singleton] at hy;rw [hy];exact ht,fun y hy h=>by rw [List.mem_singleton] at hy;rwa [←hy],fun h hh=>(by cases hh),fun h=>⟨t,List.mem_singleton.2 rfl,h⟩⟩
theorem Seek.stop {l:Trail} {n:Int} {t:Tm Unit} {had:List Int} (h:Seek l n t [] had):¬ numsIn (img l t) n:=fun c=>by
 obtain ⟨y,hy,_⟩:=h.whole c
 cases hy
theorem mem_flats_iff {α:Type} {l:List (Tm α)} {x:Tm α}:x∈flats l↔∃ y∈l,x∈y.flat:=by
 induction l with
 | nil=>simp [flats]
 | cons z l ih=>
  simp only [flats,Qn,ih,Qw];constructor
  · rintro (h | ⟨y,hy,h⟩)
    · exact ⟨z,.inl rfl,h⟩
    · exact ⟨y,.inr hy,h⟩
  · rintro ⟨y,rfl | hy,h⟩
    · exact .inl h
    · exact .inr ⟨y,hy,h⟩
theorem numsIn_args {y:Tm Unit} (hk:¬ y.kind=0) {v:Int}:numsIn y v↔∃ a∈y.args,numsIn a v:=by
 cases y with | mk k n s e aa=>
 rw [numsIn_mk (by exact hk)];simp only [mem_flats_iff,args];unfold numsIn;constructor
 · rintro ⟨x,⟨a,ha,hx⟩,h1,h2⟩;exact ⟨a,ha,x,hx,h1,h2⟩
 · rintro ⟨a,ha,x,hx,h1,h2⟩;exact ⟨x,⟨a,ha,hx⟩,h1,h2⟩
theorem img_args {l:Trail} {y:Tm Unit} (hk:¬ y.kind=0):img l y = .mk y.kind y.n y.name () (y.args.map (img l)):=by
 cases y with | mk k n s e aa=>exact img_mk l hk
theorem leafy_arg {y:Tm Unit} (h:Tm.leafy y):∀ a∈y.args,Tm.leafy a:=by
 cases y with | mk k n s e aa=>exact leafy_args h
theorem Seek.args {l:Trail} {n:Int} {t y:Tm Unit} {todo:List (Tm Unit)} {had:List Int} (h:Seek l n t (todo++[y]) had) (hk:¬ y.kind=0):Seek l n t (todo++y.args) had:=by
 have hi:numsIn (img l y) n↔∃ a∈y.args,numsIn (img l a) n:=by
  rw [img_args hk,numsIn_args (by exact hk)];simp only [Tm.args,List.mem_map];constructor
  · rintro ⟨_,⟨a,ha,rfl⟩,h⟩;exact ⟨a,ha,h⟩
  · rintro ⟨a,ha,h⟩;exact ⟨_,⟨a,ha,rfl⟩,h⟩
 have hy:y∈todo++[y]:=by simp
 refine ⟨fun x hx=>?_,fun x hx hn=>?_,fun m hm hn=>?_,fun hn=>?_⟩
 · rcases Qn.1 hx with hx | hx
   · exact h.leafy x (Qc _ hx)
   · exact leafy_arg (h.leafy y hy) x hx
 · rcases Qn.1 hx with hx | hx
   · exact h.sound x (Qc _ hx) hn
   · exact h.sound y hy (hi.2 ⟨x,hx,hn⟩)
 · obtain ⟨z,hz,h1,h2⟩:=h.met m hm hn
   rcases Qn.1 hz with hz | hz
   · exact ⟨z,Qc _ hz,h1,h2⟩
   · rw [List.mem_singleton] at hz
     subst hz;obtain ⟨a,ha,h3⟩:=hi.1 h1;exact ⟨a,Qj _ ha,h3,fun v hv=>h2 v ((numsIn_args hk).2 ⟨a,ha,hv⟩)⟩
 · obtain ⟨z,hz,h1⟩:=h.whole hn
   rcases Qn.1 hz with hz | hz
   · exact ⟨z,Qc _ hz,h1⟩
   · rw [List.mem_singleton] at hz
     subst hz;obtain ⟨a,ha,h3⟩:=hi.1 h1;exact ⟨a,Qj _ ha,h3⟩
theorem Seek.skip {l:Trail} {n k:Int} {t:Tm Unit} {todo:List (Tm Unit)} {had:List Int} (h:Seek l n t (todo++[V k]) had) (hk:k∈had):Seek l n t todo had:=by
 have hR:numsIn (img l (V k)) n→∃ y∈todo,numsIn (img l y) n∧lower l y k:=by
  intro hr;rw [img_V] at hr;obtain ⟨z,hz,h1,h2⟩:=h.met k hk hr
  rcases Qn.1 hz with hz | hz
  · exact ⟨z,hz,h1,h2⟩
  · rw [List.mem_singleton] at hz
    subst hz;have:=h2 k (numsIn_V.2 rfl);omega
 refine ⟨fun x hx=>h.leafy x (Qc _ hx),fun x hx hn=>h.sound x (Qc _ hx) hn,fun m hm hn=>?_,fun hn=>?_⟩
 · obtain ⟨z,hz,h1,h2⟩:=h.met m hm hn
   rcases Qn.1 hz with hz | hz
   · exact ⟨z,hz,h1,h2⟩
   · rw [List.mem_singleton] at hz
     subst hz;obtain ⟨z',hz',h3,h4⟩:=hR h1;have:=h2 k (numsIn_V.2 rfl);exact ⟨z',hz',h3,fun v hv=>by have:=h4 v hv;omega⟩
 · obtain ⟨z,hz,h1⟩:=h.whole hn
   rcases Qn.1 hz with hz | hz
   · exact ⟨z,hz,h1⟩
   · rw [List.mem_singleton] at hz
     subst hz;obtain ⟨z',hz',h3,_⟩:=hR h1;exact ⟨z',hz',h3⟩
theorem Seek.found {m:Nat} {l:Trail} {n:Int} {t:Tm Unit} {todo:List (Tm Unit)} {had:List Int} (hl:okT m l) (h:Seek l n t (todo++[V n]) had) (hn:n∉dom l):numsIn (img l t) n:=
 h.sound (V n) (by simp) (by rw [img_V,sig_free hl hn];exact numsIn_V.2 rfl)
theorem Seek.free {m:Nat} {l:Trail} {n k:Int} {t:Tm Unit} {todo:List (Tm Unit)} {had:List Int} (hl:okT m l) (h:Seek l n t (todo++[V k]) had) (hk:look l k=none) (hne:¬ k=n):Seek l n t todo (k :: had):=by
 have hR:¬ numsIn (img l (V k)) n:=by
  rw [img_V,sig_free hl (look_none.1 hk),numsIn_V]
  exact fun e=>hne e.symm
 have hR':¬ numsIn (sig l k) n:=by rwa [img_V] at hR
 have hf:∀ P:Tm Unit→Prop,(∃ y∈todo++[V k],numsIn (img l y) n∧P y)→∃ y∈todo,numsIn (img l y) n∧P y:=by
  rintro P ⟨z,hz,h1,h2⟩
  rcases Qn.1 hz with hz | hz
  · exact ⟨z,hz,h1,h2⟩
  · rw [List.mem_singleton] at hz
    subst hz;exact absurd h1 hR
 refine ⟨fun x hx=>h.leafy x (Qc _ hx),fun x hx hn=>h.sound x (Qc _ hx) hn,fun m hm hn=>?_,fun hn=>?_⟩
 · rcases Qw.1 hm with rfl | hm
   · exact absurd hn hR'
   · exact hf _ (h.met m hm hn)
 · obtain ⟨z,hz,h1⟩:=h.whole hn
   obtain ⟨z',hz',h3,_⟩:=hf (fun _=>True) ⟨z,hz,h1,trivial⟩;exact ⟨z',hz',h3⟩
theorem Seek.bound {m:Nat} {l:Trail} {n k:Int} {t p:Tm Unit} {todo:List (Tm Unit)} {had:List Int} (hl:okT m l) (h:Seek l n t (todo++[V k]) had) (hk:look l k=some p):Seek l n t (todo++[p]) (k :: had):=by
 have hp:Tm.leafy p:=good_leafy (okT_mem hl (look_mem hk)).2.2.1
 have hR:numsIn (img l (V k)) n→numsIn (img l p) n:=by rw [img_V,sig_look hl hk];exact id
 have hR':numsIn (img l p) n→numsIn (img l (V k)) n:=by rw [img_V,sig_look hl hk];exact id
 have hbl:lower l p k:=fun v hv=>rk_lt hl hk hv
 refine ⟨fun x hx=>?_,fun x hx hn=>?_,fun m hm hn=>?_,fun hn=>?_⟩
 · rcases Qn.1 hx with hx | hx
   · exact h.leafy x (Qc _ hx)
   · rw [List.mem_singleton] at hx;rw [hx];exact hp
 · rcases Qn.1 hx with hx | hx
   · exact h.sound x (Qc _ hx) hn
   · rw [List.mem_singleton] at hx
     rw [hx] at hn;exact h.sound (V k) (by simp) (hR' hn)
 · rcases Qw.1 hm with rfl | hm
   · refine ⟨p,by simp,?_,hbl⟩
     rw [←sig_look hl hk];exact hn
   · obtain ⟨z,hz,h1,h2⟩:=h.met m hm hn
     rcases Qn.1 hz with hz | hz
     · exact ⟨z,Qc _ hz,h1,h2⟩
     · rw [List.mem_singleton] at hz
       subst hz;have:=h2 k (numsIn_V.2 rfl);exact ⟨p,by simp,hR h1,fun v hv=>by have:=hbl v hv;omega⟩
 · obtain ⟨z,hz,h1⟩:=h.whole hn
   rcases Qn.1 hz with hz | hz
   · exact ⟨z,Qc _ hz,h1⟩
   · rw [List.mem_singleton] at hz
     subst hz;exact ⟨p,by simp,hR h1⟩
def gasT:Trail→List Int→Nat
 | [],_=>0
 | b :: l,had=>(if b.1∈had then 0 else b.2.size)+gasT l had
theorem gasT_mono {l:Trail} {had:List Int} (k:Int):gasT l (k :: had)≤gasT l had:=by
 induction l with
 | nil=>exact Qm _
 | cons b l ih=>
  simp only [gasT]
  by_cases h:b.1∈had
  · rw [if_pos h,if_pos (Qb _ h)];omega
  · rw [if_neg h]
    split <;> omega
theorem gasT_met {l:Trail} {had:List Int} {k:Int} {p:Tm Unit} (h:look l k=some p) (hk:k∉had):gasT l (k :: had)+p.size≤gasT l had:=by
 induction l with
 | nil=>simp [look] at h
 | cons b l ih=>
  simp only [look] at h;simp only [gasT]
  split at h
  · rename_i e
    injection h with h
    subst h;rw [if_pos (by rw [e];exact Qe ..),if_neg (by rw [e];exact hk)];have:=gasT_mono (l:=l) (had:=had) k;omega
  · have:=ih h
    by_cases hb:b.1∈had
    · rw [if_pos hb,if_pos (Qb _ hb)];omega
    · rw [if_neg hb]
      split <;> omega
theorem gasT_le {m:Nat} {l:Trail} (h:okT m l) (had:List Int):gasT l had≤2000 * l.length:=by
 induction l with
 | nil=>exact Nat.zero_le _
 | cons b l ih=>
  have hg:=h.2.2.2.2.1;have h1:=ih h.1;unfold goodB at hg;simp only [Qd,decide_eq_true_eq] at hg;simp only [gasT,QB]
  split <;> omega
structure Walked (m:Nat) (l:Trail) (t x:Tm Unit):Prop where
 img:img l x=img l t
 free:x.kind=0→x.n∉dom l
 leafy:leafy x
 ones:∀ y∈x.flat,goodOneB y=true
 lt:(∀ v,numsIn t v→v < (m:Int))→∀ v,numsIn x v→v < (m:Int)
theorem Walked.self {m:Nat} {l:Trail} {t:Tm Unit} (ht:∀ y∈t.flat,goodOneB y=true) (h:t.kind=0→t.n∉dom l):Walked m l t t:=
 ⟨rfl,h,leafy_good ht,ht,fun h=>h⟩
theorem Walked.step {m:Nat} {l:Trail} {t p x:Tm Unit} (hl:okT m l) (ht:Tm.leafy t) (hk:t.kind=0) (hp:look l t.n=some p) (h:Walked m l p x):Walked m l t x:=
 ⟨by rw [h.img,leafy_self ht hk,img_V,sig_look hl hp],h.free,h.leafy,h.ones,fun _=>h.lt (okT_mem hl (look_mem hp)).2.2.2⟩
theorem Walked.var {m:Nat} {l:Trail} {t x:Tm Unit} (hl:okT m l) (h:Walked m l t x) (hk:x.kind=0):Tm.img l t=x:=by
 rw [←h.img,leafy_self h.leafy hk,img_V,sig_free hl (h.free hk)]
theorem Walked.flat {m:Nat} {l:Trail} {t x:Tm Unit} (hl:okT m l) (h:Walked m l t x) (ha:x.args=[]):Tm.img l t=x:=by
 by_cases hk:x.kind=0
 · exact h.var hl hk
 · rw [←h.img,img_args hk,ha]
   cases x with | mk k n s e aa=>
   simp only [args] at ha;subst ha;rfl
theorem one_args {α:Type} {x:Tm α} (h:goodOneB x=true) (ha:¬ x.args=[]):x.kind=2∧x.n=0∧x.args.length≤8:=by
 have hl:¬ x.args.length=0:=fun c=>ha (Qh c)
 by_cases h0:x.kind=0
 · rw [goodOneB_0 x h0] at h
   simp only [Qd,decide_eq_true_eq] at h;exact absurd h.2.2.2 hl
 · by_cases h1:x.kind=1
   · rw [goodOneB_1 x h1] at h
     simp only [Qd,decide_eq_true_eq] at h;exact absurd h.2 hl
   · by_cases h2:x.kind=2
     · rw [goodOneB_2 x h2] at h
       simp only [Qd,decide_eq_true_eq] at h;exact ⟨h2,h.1,h.2.2⟩
     · rw [goodOneB_3 x h0 h1 h2] at h
       cases h
theorem Walked.args {m:Nat} {l:Trail} {t x:Tm Unit} (h:Walked m l t x) (ha:¬ x.args=[]):Tm.img l t = .mk x.kind 0 x.name () (x.args.map (Tm.img l)):=by
 obtain ⟨h1,h2,_⟩:=one_args (h.ones x (by rw [flat_eq];exact Qe ..)) ha;rw [←h.img,img_args (by omega),h2]
def makeOk (s d:Nat) (u:Tm Unit):Bool:=decide (s+u.size≤2000) && decide (d+u.depth≤65)
theorem makeOk_iff {s d:Nat} {u:Tm Unit}:makeOk s d u=true↔s+u.size≤2000∧d+u.depth≤65:=by
 unfold makeOk;simp only [Qd,decide_eq_true_eq]
theorem depths_mem {α:Type} {l:List (Tm α)} {x:Tm α} (h:x∈l):x.depth≤depths l:=by
 induction l with
 | nil=>cases h
 | cons z l ih=>
  simp only [depths]
  rcases Qw.1 h with rfl | h
  · omega
  · have:=ih h;omega
theorem depths_le {α:Type} {l:List (Tm α)} {d:Nat} (h:∀ x∈l,x.depth≤d):depths l≤d:=by
 induction l with
 | nil=>exact Nat.zero_le _
 | cons z l ih=>
  simp only [depths];have:=h z (Qe ..);have:=ih (fun x hx=>h x (Qb _ hx));omega
theorem sizes_take {α:Type} {l:List (Tm α)} {i:Nat} {x:Tm α} (h:l[i]? = some x):sizes (l.take (i+1))=sizes (l.take i)+x.size:=by
 rw [List.take_add_one,h,sizes_append];simp only [Option.toList,sizes];omega
theorem sizes_take_le {α:Type} (l:List (Tm α)) (i:Nat):sizes (l.take i)≤sizes l:=by
 have:=sizes_append (l.take i) (l.drop i);rw [List.take_append_drop] at this;omega
theorem makeOk_no {s d i:Nat} {u x:Tm Unit} (h:u.args[i]? = some x) (hx:makeOk (s+1+sizes (u.args.take i)) (d+1) x=false):makeOk s d u=false:=by
 rw [Bool.eq_false_iff,ne_eq,makeOk_iff] at hx ⊢;intro c;apply hx;have h1:=sizes_take h;have h2:=sizes_take_le u.args (i+1);have h3:=depths_mem (Qf h);have h4:=size_eq u;have h5:=depth_eq u;omega
theorem makeOk_yes {s d:Nat} {u:Tm Unit} (h0:s+1≤2000) (h1:d≤64) (h2:s+1+sizes u.args≤2000) (h3:∀ x∈u.args,d+1+x.depth≤65):makeOk s d u=true:=by
 rw [makeOk_iff];have h4:=size_eq u;have h5:=depth_eq u;have h6:=depths_le (d:=64 - d) (l:=u.args) (fun x hx=>by have:=h3 x hx;omega);omega
def ownB {α:Type} (m:Nat) (t:Tm α):Bool:=goodB t && t.vars.all fun v=>decide (v < (m:Int))
theorem ownB_iff {m:Nat} {t:Tm Unit}:ownB m t=true↔goodB t=true∧∀ v,numsIn t v→v < (m:Int):=by
 unfold ownB;simp only [Qd,Qt,decide_eq_true_eq];constructor
 · rintro ⟨h1,h2⟩;exact ⟨h1,fun v hv=>h2 v ((vars_mem v).2 hv)⟩
 · rintro ⟨h1,h2⟩;exact ⟨h1,fun v hv=>h2 v ((vars_mem v).1 hv)⟩
theorem good_ones' {t:Tm Unit} (h:goodB t=true):∀ x∈t.flat,goodOneB x=true:=by
 unfold goodB at h;simp only [Qd,Qt] at h;exact h.2.2
def wholeB (l:Trail) (t:Tm Unit):Bool:=decide ((img l t).size≤2000) && decide ((img l t).depth≤64)
theorem makeOk_whole (l:Trail) (t:Tm Unit):makeOk 0 1 (img l t)=wholeB l t:=by
 unfold makeOk wholeB;rw [Nat.zero_add];congr 1;rw [decide_eq_decide];omega
end Tm
namespace Tm
section
variable {α:Type}
def reg (l:List (Tm α)):Nat→List (Tm α)
 | 0=>l
 | i+1=>match (reg l i)[i]? with
  | none=>reg l i
  | some x=>reg l i++x.args
theorem reg_next {l:List (Tm α)} {i:Nat} {x:Tm α} (h:(reg l i)[i]? = some x):reg l (i+1)=reg l i++x.args:=by
 simp only [reg,h]
theorem reg_pre (l:List (Tm α)) (i:Nat):∀ j,∃ r,reg l (i+j)=reg l i++r:=by
 intro j
 induction j with
 | zero=>exact ⟨[],(List.append_nil _).symm⟩
 | succ j ih=>
  obtain ⟨r,hr⟩:=ih
  cases hx:(reg l (i+j))[i+j]? with
  | none=>exact ⟨r,by rw [←Nat.add_assoc];simp only [reg,hx];exact hr⟩
  | some x=>exact ⟨r++x.args,by rw [←Nat.add_assoc,reg_next hx,hr,List.append_assoc]⟩
theorem reg_le (l:List (Tm α)) {i j:Nat} (h:i≤j):(reg l i).length≤(reg l j).length:=by
 obtain ⟨r,hr⟩:=reg_pre l i (j - i);rw [show i+(j - i)=j by omega] at hr;rw [hr,Qi];omega
theorem reg_at {l:List (Tm α)} {i j k:Nat} (h:i≤j) (hk:k < (reg l i).length):(reg l j)[k]? = (reg l i)[k]?:=by
 obtain ⟨r,hr⟩:=reg_pre l i (j - i);rw [show i+(j - i)=j by omega] at hr;rw [hr,List.getElem?_append_left hk]
theorem reg_sizes (l:List (Tm α)):∀ i,i≤sizes l→i≤(reg l i).length∧i+sizes ((reg l i).drop i)=sizes l:=by
 intro i
 induction i with
 | zero=>intro _;exact ⟨Nat.zero_le _,by simp [reg]⟩
 | succ i ih=>
  intro hi;obtain ⟨h1,h2⟩:=ih (by omega)
  have hlt:i < (reg l i).length:=by
   rcases Nat.lt_or_ge i (reg l i).length with h | h
   · exact h
   · rw [List.drop_eq_nil_of_le h] at h2;simp only [sizes] at h2;omega
  have hx:(reg l i)[i]? = some (reg l i)[i]:=Qa hlt;rw [reg_next hx];refine ⟨by rw [Qi];omega,?_⟩;rw [List.drop_eq_getElem_cons hlt] at h2;rw [List.drop_append_of_le_length (by omega),sizes_append];simp only [sizes] at h2;rw [size_eq] at h2;omega
theorem reg_lt {l:List (Tm α)} {i:Nat} (h:i < sizes l):i < (reg l i).length:=by
 obtain ⟨h1,h2⟩:=reg_sizes l i (by omega)
 rcases Nat.lt_or_ge i (reg l i).length with h' | h'
 · exact h'
 · rw [List.drop_eq_nil_of_le h'] at h2;simp only [sizes] at h2;omega
def regs (l:List (Tm α)):List (Tm α):=reg l (sizes l)
theorem sizes_nil {l:List (Tm α)} (h:sizes l=0):l=[]:=by
 cases l with
 | nil=>rfl
 | cons x l=>simp only [sizes] at h;have:=size_pos x;omega
theorem regs_length (l:List (Tm α)):(regs l).length=sizes l:=by
 obtain ⟨h1,h2⟩:=reg_sizes l (sizes l) (Qm _);have:=sizes_nil (l:=(reg l (sizes l)).drop (sizes l)) (by omega);have h3:=List.drop_eq_nil_iff.1 this;unfold regs;omega
theorem reg_regs {l:List (Tm α)} {i k:Nat} (hi:i≤sizes l) (hk:k < (reg l i).length):(regs l)[k]? = (reg l i)[k]?:=reg_at hi hk
def cb (l:List (Tm α)) (i:Nat):Nat:=(reg l i).length
theorem cb_zero (l:List (Tm α)):cb l 0=l.length:=rfl
theorem cb_end (l:List (Tm α)):cb l (sizes l)=sizes l:=regs_length l
theorem regs_some {l:List (Tm α)} {i:Nat} (h:i < sizes l):∃ x,(regs l)[i]? = some x∧(reg l i)[i]? = some x∧reg l (i+1)=reg l i++x.args:=by
 have hl:=reg_lt h;have hx:(reg l i)[i]? = some (reg l i)[i]:=Qa hl;exact ⟨_,(reg_regs (by omega) hl).trans hx,hx,reg_next hx⟩
theorem cb_next {l:List (Tm α)} {i:Nat} {x:Tm α} (h:(regs l)[i]? = some x):cb l (i+1)=cb l i+x.args.length∧i < cb l i∧cb l i+x.args.length≤sizes l∧∀ j,j < x.args.length→(regs l)[cb l i+j]? = x.args[j]?:=by
 have hi:i < sizes l:=by have:=(Qg.1 h).1;rw [regs_length] at this;exact this
 obtain ⟨y,h1,h2,h3⟩:=regs_some hi
 rw [h1] at h;injection h with h;subst h
 unfold cb;have hle:=reg_le l (show i+1≤sizes l by omega)
 have hl:(reg l (i+1)).length=(reg l i).length+y.args.length:=by rw [h3,Qi]
 have hr:=regs_length l;unfold regs at hr;refine ⟨hl,reg_lt hi,by omega,fun j hj=>?_⟩;rw [reg_regs (i:=i+1) (by omega) (by omega),h3,List.getElem?_append_right (by omega)];congr 1;omega
theorem regs_zero {l:List (Tm α)} {j:Nat} (h:j < l.length):(regs l)[j]? = l[j]?:=reg_regs (i:=0) (Nat.zero_le _) h
theorem reg_perm (l:List (Tm α)):∀ i,i≤sizes l→((reg l i).take i++flats ((reg l i).drop i)).Perm (flats l):=by
 intro i
 induction i with
 | zero=>intro _;simp [reg]
 | succ i ih=>
  intro hi;have h:=ih (by omega);have hlt:=reg_lt (show i < sizes l by omega);have hx:(reg l i)[i]? = some (reg l i)[i]:=Qa hlt;rw [reg_next hx];refine List.Perm.trans ?_ h;rw [List.take_append_of_le_length (by omega),List.drop_append_of_le_length (by omega),List.take_succ_eq_append_getElem hlt,List.drop_eq_getElem_cons hlt,flats_append];simp only [flats];rw [flat_eq];generalize (reg l i)[i]=x;simp only [List.append_assoc,List.cons_append,List.nil_append];refine List.Perm.append_left _ (List.Perm.cons _ List.perm_append_comm)
theorem regs_perm (l:List (Tm α)):(regs l).Perm (flats l):=by
 have h:=reg_perm l (sizes l) (Qm _);have hl:=regs_length l;unfold regs at hl ⊢;rw [List.take_of_length_le (by omega),List.drop_eq_nil_of_le (by omega)] at h;simpa [flats] using h
theorem regs_flats {l:List (Tm α)}:∀ x∈regs l,x∈flats l:=fun x hx=>(regs_perm l).mem_iff.1 hx
end
theorem kind_mk {α:Type} (k n:Int) (s:ByteArray) (e:α) (aa:List (Tm α)):(Tm.mk k n s e aa).kind=k:=rfl
theorem n_mk {α:Type} (k n:Int) (s:ByteArray) (e:α) (aa:List (Tm α)):(Tm.mk k n s e aa).n=n:=rfl
theorem name_mk {α:Type} (k n:Int) (s:ByteArray) (e:α) (aa:List (Tm α)):(Tm.mk k n s e aa).name=s:=rfl
theorem args_mk {α:Type} (k n:Int) (s:ByteArray) (e:α) (aa:List (Tm α)):(Tm.mk k n s e aa).args=aa:=rfl
def sVar:ByteArray:=⟨#[118,97,114]⟩
def sVal:ByteArray:=⟨#[118,97,108]⟩
def sInt:ByteArray:=⟨#[105,110,116]⟩
def sAtom:ByteArray:=⟨#[97,116,111,109]⟩
def sComp:ByteArray:=⟨#[99,111,109,112]⟩
structure Stp where
 op:ByteArray
 a:Int
 b:Int
 c:Int
 n:Int
 name:ByteArray
section
variable {α:Type}
def met (l:List (Tm α)) (i:Nat):List Int:=((regs l).take i).foldl addVar []
def stepX (vs:List Int) (l:List (Tm α)) (i:Nat) (x:Tm α):Stp:=
 if x.kind=0 then ⟨if x.n∈met l i then sVal else sVar,i,posOf vs x.n,0,0,ByteArray.empty⟩
 else if x.kind=1 then ⟨sInt,i,0,0,x.n,ByteArray.empty⟩
 else if x.args.length=0 then ⟨sAtom,i,0,0,0,x.name⟩
 else ⟨sComp,i,x.args.length,cb l i,0,x.name⟩
def stepAt (vs:List Int) (l:List (Tm α)) (i:Nat):Stp:=
 match (regs l)[i]? with
 | none=>⟨ByteArray.empty,0,0,0,0,ByteArray.empty⟩
 | some x=>stepX vs l i x
def steps (vs:List Int) (l:List (Tm α)) (k:Nat):List Stp:=(List.range k).map (stepAt vs l)
theorem steps_succ {vs:List Int} {l:List (Tm α)} {k:Nat} {x:Tm α} (h:(regs l)[k]? = some x):steps vs l (k+1)=steps vs l k++[stepX vs l k x]:=by
 unfold steps;rw [List.range_succ,List.map_append,Qx,List.map_nil];congr 2;unfold stepAt;rw [h]
theorem steps_length (vs:List Int) (l:List (Tm α)) (k:Nat):(steps vs l k).length=k:=by unfold steps;rw [Qu,List.length_range]
theorem met_succ {l:List (Tm α)} {i:Nat} {x:Tm α} (h:(regs l)[i]? = some x):met l (i+1)=addVar (met l i) x:=by
 unfold met;obtain ⟨hl,rfl⟩:=Qg.1 h;rw [List.take_succ_eq_append_getElem hl,List.foldl_append];rfl
theorem mem_fold (n:Int):∀ (l:List (Tm α)) (vs:List Int),n∈l.foldl addVar vs↔n∈vs∨∃ x∈l,x.kind=0∧x.n=n:=by
 intro l
 induction l with
 | nil=>intro vs;simp
 | cons y l ih=>
  intro vs;rw [Qq,ih];unfold addVar
  by_cases h:y.kind=0∧y.n∉vs
  · rw [if_pos h]
    simp only [Qn,Qw,Ql,or_false,exists_eq_or_imp];constructor
    · rintro ((h1 | h1) | h1)
      · exact .inl h1
      · exact .inr (.inl ⟨h.1,h1.symm⟩)
      · exact .inr (.inr h1)
    · rintro (h1 | h1 | h1)
      · exact .inl (.inl h1)
      · exact .inl (.inr h1.2.symm)
      · exact .inr h1
  · rw [if_neg h]
    simp only [Qw,exists_eq_or_imp];constructor
    · rintro (h1 | h1)
      · exact .inl h1
      · exact .inr (.inr h1)
    · rintro (h1 | h1 | h1)
      · exact .inl h1
      · refine .inl ?_
        by_cases hm:y.n∈vs
        · rw [←h1.2];exact hm
        · exact absurd ⟨h1.1,hm⟩ h
      · exact .inr h1
theorem fold_nodup:∀ (l:List (Tm α)) (vs:List Int),vs.Nodup→(l.foldl addVar vs).Nodup:=by
 intro l
 induction l with
 | nil=>intro vs h;exact h
 | cons y l ih=>
  intro vs h;rw [Qq];apply ih;unfold addVar
  split
  · rename_i hc
    rw [List.nodup_append];exact ⟨h,List.nodup_cons.2 ⟨Ql,List.nodup_nil⟩,fun a ha b hb=>by simp at hb;subst hb;exact fun e=>hc.2 (e ▸ ha)⟩
  · exact h
theorem mem_met {l:List (Tm α)} {i:Nat} {n:Int} (h:n∈met l i):∃ x∈flats l,x.kind=0∧x.n=n:=by
 unfold met at h
 rcases (mem_fold n _ _).1 h with h | ⟨x,h1,h2⟩
 · cases h
 · exact ⟨x,regs_flats x (List.mem_of_mem_take h1),h2⟩
theorem met_all {t:Tm α} (ht:t.kind≠0):(met t.args (sizes t.args)).length=t.vars.length:=by
 have h1:(met t.args (sizes t.args)).Nodup:=fold_nodup _ _ List.nodup_nil;have h2:t.vars.Nodup:=vars_nodup t
 have hm:∀ n,n∈met t.args (sizes t.args)↔n∈t.vars:=by
  intro n;unfold met vars;rw [List.take_of_length_le (by rw [regs_length];exact Qm _),mem_fold,mem_fold,flat_eq];constructor
  · rintro (h | ⟨x,h,h3⟩)
    · cases h
    · exact .inr ⟨x,Qb _ ((regs_perm _).mem_iff.1 h),h3⟩
  · rintro (h | ⟨x,h,h3⟩)
    · cases h
    · rcases Qw.1 h with rfl | h
      · exact absurd h3.1 ht
      · exact .inr ⟨x,(regs_perm _).mem_iff.2 h,h3⟩
 exact ((List.perm_ext_iff_of_nodup h1 h2).2 hm).length_eq
end
def oneC (slots i k:Int) (had:List Int) (s:Stp):Option (Int × List Int):=
 if s.a=i∧goodNameB s.name=true then
  if s.op=sVar then (if 0≤s.b∧s.b < slots∧s.b∉had∧s.c=0∧s.n=0∧s.name=ByteArray.empty then some (k,had++[s.b]) else none)
  else if s.op=sVal then (if 0≤s.b∧s.b < slots∧s.b∈had∧s.c=0∧s.n=0∧s.name=ByteArray.empty then some (k,had) else none)
  else if s.op=sInt then (if s.b=0∧s.c=0∧s.name=ByteArray.empty then some (k,had) else none)
  else if s.op=sAtom then (if s.b=0∧s.c=0∧s.n=0 then some (k,had) else none)
  else if s.op=sComp then (if 1≤s.b∧s.b≤8∧s.c=k∧s.n=0 then some (k+s.b,had) else none)
  else none
 else none
def runC (slots:Int):List Stp→Nat→Int→List Int→Option (Int × List Int)
 | [],_,k,had=>some (k,had)
 | s :: L,i,k,had=>if (i:Int) < k then (match oneC slots i k had s with | none=>none | some c=>runC slots L (i+1) c.1 c.2) else none
def endC (rg sl:Int):Option (Int × List Int)→Bool
 | none=>false
 | some c=>decide (c.1=rg) && decide ((c.2.length:Int)=sl)
def goodC (ar sl rg:Int) (L:List Stp):Bool:=
 if 0≤ar∧ar≤8∧ar≤rg∧rg≤2000∧(L.length:Int)=rg then endC rg sl (runC sl L 0 ar []) else false
theorem ne_ops:sVal≠sVar∧sInt≠sVar∧sInt≠sVal∧sAtom≠sVar∧sAtom≠sVal∧sAtom≠sInt∧sComp≠sVar∧sComp≠sVal∧sComp≠sInt∧sComp≠sAtom:=by
 refine ⟨?_,?_,?_,?_,?_,?_,?_,?_,?_,?_⟩ <;> exact fun h=>absurd (congrArg ByteArray.data h) (by decide)
theorem good_empty:goodNameB ByteArray.empty=true:=by rfl
section
variable {α:Type}
theorem one_ok {t:Tm α} (hg:goodB t=true) (hk:t.kind≠0) {i:Nat} {x:Tm α} (hx:(regs t.args)[i]? = some x) :
 oneC t.vars.length i (cb t.args i) ((met t.args i).map fun n=>(posOf t.vars n:Int)) (stepX t.vars t.args i x)=some ((cb t.args (i+1):Int),(met t.args (i+1)).map fun n=>(posOf t.vars n:Int)):=by
 have hmem:x∈t.flat:=by rw [flat_eq];exact Qb _ (regs_flats x (Qf hx))
 have hones:∀ y∈t.flat,goodOneB y=true:=by
  unfold goodB at hg;simp only [Qd,decide_eq_true_eq,Qt] at hg;exact hg.2.2
 have hone:=hones x hmem;obtain ⟨n1,n2,n3,n4,n5,n6,n7,n8,n9,n10⟩:=ne_ops;obtain ⟨c1,c2,c3,_⟩:=cb_next hx
 have hvm:∀ {y:Tm α},y∈t.flat→y.kind=0→y.n∈t.vars:=fun hy h0=>(mem_fold _ _ _).2 (.inr ⟨_,hy,h0,rfl⟩)
 have hmv:∀ {n:Int},n∈met t.args i→n∈t.vars:=fun h=>by
  obtain ⟨y,hy,h0,rfl⟩:=mem_met h;exact hvm (by rw [flat_eq];exact Qb _ hy) h0
 rw [met_succ hx,c1];unfold stepX
 by_cases h0:x.kind=0
 · have hxv:=hvm hmem h0
   rw [goodOneB_0 x h0] at hone;simp only [Qd,decide_eq_true_eq] at hone;obtain ⟨_,_,_,ha⟩:=hone;rw [if_pos h0,ha];have hlt:posOf t.vars x.n < t.vars.length:=List.idxOf_lt_length_of_mem hxv
   have hin:(posOf t.vars x.n:Int)∈(met t.args i).map (fun n=>(posOf t.vars n:Int))↔x.n∈met t.args i:=by
    constructor
    · intro h
      obtain ⟨v,hv,e⟩:=List.mem_map.1 h
      have e':posOf t.vars v=posOf t.vars x.n:=by exact Int.ofNat.inj e
      have p1:=posOf_mem (hmv hv);have p2:=posOf_mem hxv;rw [e',p2] at p1
      injection p1 with p1
      rw [p1];exact hv
    · exact fun h=>List.mem_map.2 ⟨_,h,rfl⟩
   unfold oneC addVar
   by_cases hm:x.n∈met t.args i
   · rw [if_pos hm,if_neg (show ¬ (x.kind=0∧x.n∉met t.args i) from fun c=>c.2 hm),if_pos ⟨rfl,good_empty⟩,if_neg n1,if_pos rfl,if_pos ⟨by simp only;omega,by simp only;omega,hin.2 hm,rfl,rfl,rfl⟩]
     simp
   · rw [if_neg hm,if_pos (show x.kind=0∧x.n∉met t.args i from ⟨h0,hm⟩),if_pos ⟨rfl,good_empty⟩,if_pos rfl,if_pos ⟨by simp only;omega,by simp only;omega,fun c=>hm (hin.1 c),rfl,rfl,rfl⟩]
     simp
 · rw [if_neg h0]
   have hadd:addVar (met t.args i) x=met t.args i:=by unfold addVar;rw [if_neg (fun c=>h0 c.1)]
   rw [hadd]
   by_cases h1:x.kind=1
   · rw [goodOneB_1 x h1] at hone
     simp only [Qd,decide_eq_true_eq] at hone;rw [if_pos h1,hone.2];unfold oneC;rw [if_pos ⟨rfl,good_empty⟩,if_neg n2,if_neg n3,if_pos rfl,if_pos ⟨rfl,rfl,rfl⟩];simp
   · have h2:x.kind=2:=by
      by_cases h2:x.kind=2
      · exact h2
      · rw [goodOneB_3 x h0 h1 h2] at hone;cases hone
     rw [goodOneB_2 x h2] at hone;simp only [Qd,decide_eq_true_eq] at hone;rw [if_neg h1];unfold oneC
     by_cases ha:x.args.length=0
     · rw [if_pos ha,if_pos ⟨rfl,hone.2.1⟩,if_neg n4,if_neg n5,if_neg n6,if_pos rfl,if_pos ⟨rfl,rfl,rfl⟩,ha]
       simp
     · rw [if_neg ha,if_pos ⟨rfl,hone.2.1⟩,if_neg n7,if_neg n8,if_neg n9,if_neg n10,if_pos rfl,if_pos ⟨by simp only;omega,by simp only;omega,rfl,rfl⟩]
       simp
theorem run_ok {t:Tm α} (hg:goodB t=true) (hk:t.kind≠0):∀ j i,i+j=sizes t.args→runC t.vars.length ((List.range' i j).map (stepAt t.vars t.args)) i (cb t.args i) ((met t.args i).map fun n=>(posOf t.vars n:Int))=some ((sizes t.args:Int),(met t.args (sizes t.args)).map fun n=>(posOf t.vars n:Int)):=by
 intro j
 induction j with
 | zero=>
  intro i hi
  obtain rfl:i=sizes t.args:=by omega
  rw [List.range'_zero,List.map_nil,runC,cb_end]
 | succ j ih=>
  intro i hi;obtain ⟨x,hx,_,_⟩:=regs_some (l:=t.args) (i:=i) (by omega);rw [List.range'_succ,Qx]
  have hs:stepAt t.vars t.args i=stepX t.vars t.args i x:=by unfold stepAt;rw [hx]
  rw [hs,runC,if_pos (by have:=(cb_next hx).2.1;omega),one_ok hg hk hx];exact ih (i+1) (by omega)
theorem head_good {t:Tm α} (hg:goodB t=true) (hk:t.kind=2):goodC t.args.length t.vars.length (sizes t.args) (steps t.vars t.args (sizes t.args))=true:=by
 have h:=hg;unfold goodB at h;simp only [Qd,decide_eq_true_eq,Qt] at h;obtain ⟨h1,_,h3⟩:=h;have ht:=h3 t (by rw [flat_eq];exact Qe ..);rw [goodOneB_2 t hk] at ht;simp only [Qd,decide_eq_true_eq] at ht;rw [size_eq] at h1;have hle:=reg_le t.args (Nat.zero_le (sizes t.args));have hrl:=regs_length t.args;unfold regs at hrl;simp only [reg] at hle;unfold goodC;rw [if_pos ⟨by omega,by have:=ht.2.2;omega,by omega,by omega,by rw [steps_length]⟩];have:=run_ok hg (by omega) (sizes t.args) 0 (by omega);unfold steps;rw [List.range_eq_range'];rw [cb_zero] at this
 have hm:(met t.args 0).map (fun n=>(posOf t.vars n:Int))=[]:=by unfold met;simp
 rw [hm] at this;rw [this];unfold endC;simp only [Qu,met_all (show t.kind≠0 by omega)];simp
end
def madeS (s:Stp) (rs:List (Tm Unit)):Tm Unit:=
 if s.op=sVar∨s.op=sVal then V s.b
 else if s.op=sInt then .mk 1 s.n ByteArray.empty () []
 else if s.op=sAtom then .mk 2 0 s.name () []
 else .mk 2 0 s.name () ((rs.drop s.c.toNat).take s.b.toNat)
def backs:List Stp→Nat→List (Tm Unit)→List (Tm Unit)
 | [],_,rs=>rs
 | s :: L,i,rs=>(backs L (i+1) rs).set i (madeS s (backs L (i+1) rs))
theorem backs_length:∀ (L:List Stp) (i:Nat) (rs:List (Tm Unit)),(backs L i rs).length=rs.length:=by
 intro L
 induction L with
 | nil=>intro i rs;rfl
 | cons s L ih=>intro i rs;simp only [backs];rw [List.length_set,ih]
def backT (ar rg:Nat) (L:List Stp) (name:ByteArray):Tm Unit:=.mk 2 0 name () ((backs L 0 (List.replicate rg (V 0))).take ar)
section
variable {α:Type}
theorem made_head {t:Tm α} (hg:goodB t=true) {i:Nat} {x:Tm α} (hx:(regs t.args)[i]? = some x) {rs:List (Tm Unit)} (hrs:∀ j,i < j→rs[j]? = ((regs t.args)[j]?).map fun y=>ren (fun n=>(posOf t.vars n:Int)) y.bare) :
 madeS (stepX t.vars t.args i x) rs=ren (fun n=>(posOf t.vars n:Int)) x.bare:=by
 have hmem:x∈t.flat:=by rw [flat_eq];exact Qb _ (regs_flats x (Qf hx))
 have hones:∀ y∈t.flat,goodOneB y=true:=by
  unfold goodB at hg;simp only [Qd,decide_eq_true_eq,Qt] at hg;exact hg.2.2
 have hone:=hones x hmem;obtain ⟨n1,n2,n3,n4,n5,n6,n7,n8,n9,n10⟩:=ne_ops;obtain ⟨c1,c2,c3,c4⟩:=cb_next hx
 have hbx:x.bare = .mk x.kind x.n x.name () (bares x.args):=by cases x;rfl
 rw [hbx];unfold stepX madeS ren
 by_cases h0:x.kind=0
 · rw [if_pos h0,if_pos (by simp only [];split <;> simp)]
   simp only [subT,if_pos h0]
 · rw [if_neg h0]
   simp only [subT,if_neg h0]
   by_cases h1:x.kind=1
   · rw [goodOneB_1 _ h1] at hone
     simp only [Qd,decide_eq_true_eq] at hone;have haa:x.args=[]:=Qh hone.2;rw [if_pos h1,if_neg (by simp [n2,n3]),if_pos rfl,h1,(bytes_nil _).1 hone.1,haa];simp only [bares,subTs]
   · have h2:x.kind=2:=by
      by_cases h2:x.kind=2
      · exact h2
      · rw [goodOneB_3 _ h0 h1 h2] at hone;cases hone
     rw [goodOneB_2 _ h2] at hone;simp only [Qd,decide_eq_true_eq] at hone;rw [if_neg h1]
     by_cases ha:x.args.length=0
     · have haa:x.args=[]:=Qh ha
       rw [if_pos ha,if_neg (by simp [n4,n5]),if_neg n6,if_pos rfl,h2,hone.1,haa];simp only [bares,subTs]
     · rw [if_neg ha,if_neg (by simp [n7,n8]),if_neg n9,if_neg n10,h2,hone.1]
       congr 1;rw [subTs_eq];refine List.ext_getElem? (fun j=>?_);rw [List.getElem?_take,List.getElem?_drop,Qp]
       have hb:(bares x.args)[j]? = (x.args[j]?).map bare:=by
        rw [bares_eq,Qp]
       rw [hb];simp only [Int.toNat_natCast]
       by_cases hj:j < x.args.length
       · rw [if_pos hj,hrs _ (by omega),c4 j hj,Option.map_map]
         rfl
       · rw [if_neg hj,List.getElem?_eq_none (by omega)]
         rfl
theorem backs_head {t:Tm α} (hg:goodB t=true):∀ j i,i+j=sizes t.args→∀ q,i≤q→(backs ((List.range' i j).map (stepAt t.vars t.args)) i (List.replicate (sizes t.args) (V 0)))[q]? = ((regs t.args)[q]?).map fun y=>ren (fun n=>(posOf t.vars n:Int)) y.bare:=by
 intro j
 induction j with
 | zero=>
  intro i hi q hq;rw [List.range'_zero,List.map_nil,backs,List.getElem?_eq_none (by rw [List.length_replicate];omega),List.getElem?_eq_none (by rw [regs_length];omega)];rfl
 | succ j ih=>
  intro i hi q hq;obtain ⟨x,hx,_,_⟩:=regs_some (l:=t.args) (i:=i) (by omega);rw [List.range'_succ,Qx]
  have hs:stepAt t.vars t.args i=stepX t.vars t.args i x:=by unfold stepAt;rw [hx]
  rw [hs,backs];have hih:=ih (i+1) (by omega);have hm:=made_head hg hx (fun q hq=>hih q hq);rw [hm]
  by_cases he:i=q
  · subst he
    rw [List.getElem?_set_self (by rw [backs_length,List.length_replicate];omega),hx];rfl
  · rw [List.getElem?_set_ne he]
    exact hih q (by omega)
theorem back_head {t:Tm α} (hg:goodB t=true) (hk:t.kind=2):backT t.args.length (sizes t.args) (steps t.vars t.args (sizes t.args)) t.name=fromT t.bare 0:=by
 have hb:=backs_head hg (sizes t.args) 0 (by omega);have h:=hg;unfold goodB at h;simp only [Qd,decide_eq_true_eq,Qt] at h;have ht:=h.2.2 t (by rw [flat_eq];exact Qe ..);rw [goodOneB_2 t hk] at ht;simp only [Qd,decide_eq_true_eq] at ht;unfold backT steps;rw [List.range_eq_range'];unfold fromT;rw [vars_bare]
 have hs:fromS t.vars 0=fun n=>(posOf t.vars n:Int):=by funext n;unfold fromS;omega
 rw [hs];revert hb;generalize backs _ 0 _=rs;intro hb
 have hr0:=fun {j:Nat} (h:j < t.args.length)=>regs_zero h
 cases t with | mk k n nm e aa=>
 simp only [kind_mk,n_mk,name_mk,args_mk] at *;obtain rfl:=ht.1;subst hk;rw [show (Tm.mk 2 0 nm e aa).bare = .mk 2 0 nm () (bares aa) from rfl];unfold ren;simp only [subT,if_neg (show ¬ (2:Int)=0 by omega)];congr 1;rw [subTs_eq];refine List.ext_getElem? (fun j=>?_);rw [List.getElem?_take,Qp,show bares aa=aa.map bare from bares_eq aa,Qp]
 by_cases hj:j < aa.length
 · rw [if_pos hj,hb j (by omega),hr0 hj,Option.map_map]
   rfl
 · rw [if_neg hj,List.getElem?_eq_none (by omega)]
   rfl
end
end Tm
theorem nodup_length:∀ (m:Nat) (l:List Int),l.Nodup→(∀ x∈l,0≤x∧x < (m:Int))→l.length≤m:=by
 intro m
 induction m with
 | zero=>
  intro l _ h
  cases l with
  | nil=>exact Qm _
  | cons x l=>have:=h x (Qe ..);omega
 | succ m ih=>
  intro l hn h
  by_cases hm:(m:Int)∈l
  · have h1:=ih (l.erase m) (hn.erase _) (fun x hx=>by
     have hx':=(hn.mem_erase_iff).1 hx;have:=h x hx'.2;have hne:x≠(m:Int):=hx'.1
     omega)
    have h2:=List.length_erase_of_mem hm;omega
  · have:=ih l hn (fun x hx=>by
     have h1:=h x hx
     have:x≠(m:Int):=fun e=>hm (e ▸ hx)
     omega)
    omega
namespace Tm
theorem okT_nodup {m:Nat} {l:Trail} (h:okT m l):(dom l).Nodup:=by
 induction l with
 | nil=>simp [dom]
 | cons b l ih=>
  simp only [dom,Qx,List.nodup_cons];exact ⟨h.2.2.2.1,ih h.1⟩
theorem okT_length {m:Nat} {l:Trail} (h:okT m l):l.length≤m:=by
 have:=nodup_length m (dom l) (okT_nodup h) (fun x hx=>by
  obtain ⟨b,hb,rfl⟩:=List.mem_map.1 hx;have:=okT_mem h hb
  exact ⟨this.1,this.2.1⟩)
 simpa [dom] using this
def setE (m:Nat) (l:Trail) (n:Int) (t:Tm Unit):Int:=
 if 0≤n∧n < (m:Int)∧ownB m t=true then
  (if n∈dom l then 8 else if n∈(img l t).vars then 5 else 0)
 else 1
theorem setE_ok {m:Nat} {l:Trail} {n:Int} {t:Tm Unit} (hl:okT m l) (h:setE m l n t=0):okT m ((n,t) :: l):=by
 unfold setE at h
 split at h
 · rename_i h1
   split at h
   · cases h
   · rename_i h2
     split at h
     · cases h
     · rename_i h3
       obtain ⟨g1,g2⟩:=ownB_iff.1 h1.2.2;exact ⟨hl,h1.1,h1.2.1,h2,g1,g2,fun c=>h3 ((vars_mem n).2 c)⟩
 · cases h
end Tm
end Go.Proofs.Ytoihjobdfjajfaa
namespace Go.Proofs.Ytoihjobdfjajfaa
open Go.RowKit
theorem LT.Lies.at {p:Nat→Prop} {w:World} {b o:Nat} {l:List LT} (h:LT.Lies p w (some ⟨b,o,none⟩) l) {i:Nat} {x:LT} (hi:l[i]? = some x) :
 w.cell? ⟨b,o+i * 4,none⟩=some (.int .i64 x.kind)∧w.cell? ⟨b,o+i * 4+1,none⟩=some (.int .i64 x.n)∧w.cell? ⟨b,o+i * 4+2,none⟩=some (.string x.name)∧w.cell? ⟨b,o+i * 4+3,none⟩=some (.slice x.at_.1 x.args.length x.at_.2):=by
 obtain ⟨b',o',e,_,h⟩:=h.cell hi
 injection e with e
 injection e with e1 e2
 subst e1 e2;exact h
theorem LT.Sl.mem {p:Nat→Prop} {w:World} {a:Option Addr} {c:Nat} {l:List LT} (h:LT.Sl p w a c l) {i:Nat} {x:LT} (hi:l[i]? = some x):x.In p w:=(LT.ins_iff _).1 h.ins x (Qf hi)
structure Key where
 kind:Int
 n:Int
 name:ByteArray
 arity:Int
 deriving DecidableEq
def Key.val (k:Key):Value:=.agg #[.int .i64 k.kind,.int .i64 k.n,.string k.name,.int .i64 k.arity]
def Key.zero:Key:=⟨0,0,ByteArray.empty,0⟩
def keyOf1 {α:Type} (x:Tm α):Key:=if x.kind=0 then Key.zero else if x.kind=1 then ⟨1,x.n,ByteArray.empty,0⟩ else ⟨x.kind,0,x.name,x.args.length⟩
def keyOf {α:Type} (t:Tm α):Key:=match t.args with
 | []=>Key.zero
 | x :: _=>if goodB t then keyOf1 x else Key.zero
end Go.Proofs.Ytoihjobdfjajfaa
namespace Go.Proofs.Ytoihjobdfjajfaa
open Go.RowKit Go.Maps
def MoreP (p:Nat→Prop) (mb N:Nat) (mo:Option Tm.MM) (W:World):Prop:=
 ∀ m',mo=some m'→∃ (mn:Nat) (g:Int→Option LT),mn≤N∧IMap Try.prog 2 W mb mn (valsM g)∧baresM g=m'∧∀ i x,g i=some x→x.In p W∧goodB x=true
theorem MoreP.turned0 {p:Nat→Prop} {mb N:Nat} {mo:Option Tm.MM} {W W':World} (h:MoreP p mb N mo W) (ht:Turned zN W W'):MoreP p mb N mo W':=by
 intro m' hm;obtain ⟨mn,g,h1,h2,h3,h4⟩:=h m' hm;exact ⟨mn,g,h1,h2.turned ht (fun f=>f),h3,fun i x hx=>⟨(h4 i x hx).1.turned0 ht,(h4 i x hx).2⟩⟩
def MoreS (p:Nat→Prop) (mb mj:Nat) (gj:Int→Option LT) (x y:LT) (wr:World) (RB:Bool):List Value→World→Prop
 | [],W=>Turned zN wr W
 | [v],W=>∃ b:Bool,v = .bool b∧b=RB∧Turned (fun k=>k=mb) wr W∧MoreP p mb (mj+x.size) (Tm.moreM x.bare y.bare (baresM gj)) W
 | _,_=>False
theorem MoreS.turned0 {p:Nat→Prop} {mb mj:Nat} {gj:Int→Option LT} {x y:LT} {wr:World} {RB:Bool}:∀ (hs:List Value) (w w':World),MoreS p mb mj gj x y wr RB hs w→Turned zN w w'→MoreS p mb mj gj x y wr RB hs w'
 | [],_,_,h,ht=>Turned.trans h ht
 | [_],_,_,h,ht=>by obtain ⟨b,h0,h1,h2,h3⟩:=h;exact ⟨b,h0,h1,h2.trans (ht.mono (fun _ _ f=>f.elim)),h3.turned0 ht⟩
 | _ :: _ :: _,_,_,h,_=>h.elim
theorem Row.setAt {w:World} {e:TypeId} {size n g cap off:Nat} {xs:List Value} (h:Row w e size (.slice (some ⟨g,0,none⟩) n cap) n xs) (ho:off < n * size) (u:Value):Row (w.setCell ⟨g,off,none⟩ u) e size (.slice (some ⟨g,0,none⟩) n cap) n (xs.set off u):=by
 refine ⟨by rw [List.length_set];exact h.1,.inr ?_⟩
 rcases h.2 with ⟨he,h0⟩ | ⟨g',cap',cur,he,hg,h1,h2,h3,h4⟩
 · cases he
 · injection he with e1 _ e3
   injection e1 with e1
   injection e1 with e1
   subst e1 e3;refine ⟨g,cap,cur.setIfInBounds off u,rfl,heap_setCell_same w g off cur e u hg,h1,h2,by simpa using h3,?_⟩;rw [Array.toList_setIfInBounds,List.take_set,h4]
theorem flat_set {us:List LT} {j:Nat} {u:LT} (hj:j < us.length) :
 ((((us.flatMap LT.cells).set (j * 4) (.int .i64 u.kind)).set (j * 4+1) (.int .i64 u.n)).set (j * 4+2) (.string u.name)).set (j * 4+3) (.slice u.at_.1 u.args.length u.at_.2)=(us.set j u).flatMap LT.cells:=by
 induction us generalizing j with
 | nil=>simp at hj
 | cons x us ih=>
  cases j with
  | zero=>
   rw [Qs,List.flatMap_cons,List.flatMap_cons,LT.cells_eq x,LT.cells_eq u];rfl
  | succ j=>
   have ih:=ih (j:=j) (by simpa using hj);rw [Qr,List.flatMap_cons,List.flatMap_cons,←ih,LT.cells_eq x]
   have e0:(j+1) * 4=j * 4+4:=by omega
   rw [e0];rfl
abbrev TL:=List (Int × Nat × LT)
def bt (l:TL):Tm.Trail:=l.map fun b=>(b.1,b.2.2.bare)
def lookL:TL→Int→Option (Nat × LT)
 | [],_=>none
 | b :: l,n=>if b.1=n then some b.2 else lookL l n
theorem look_bt (l:TL) (n:Int):Tm.look (bt l) n=(lookL l n).map fun c=>c.2.bare:=by
 induction l with
 | nil=>rfl
 | cons b l ih=>
  show (if b.1=n then some b.2.2.bare else Tm.look (bt l) n)=_;simp only [lookL]
  split
  · rfl
  · exact ih
theorem lookL_mem {l:TL} {n:Int} {c:Nat × LT} (h:lookL l n=some c):(n,c)∈l:=by
 induction l with
 | nil=>simp [lookL] at h
 | cons b l ih=>
  simp only [lookL] at h
  split at h
  · rename_i e;injection h with h;subst e h;exact Qe ..
  · exact Qb _ (ih h)
theorem bt_length (l:TL):(bt l).length=l.length:=by unfold bt;rw [Qu]
def ptrV:Option (Nat × LT)→Value
 | none=>.pointer none
 | some c=>.pointer (some ⟨c.1,0,none⟩)
def ptrs (m:Nat) (l:TL):List Value:=(List.range m).map fun (i:Nat)=>ptrV (lookL l (i:Int))
theorem ptrs_at {m:Nat} {l:TL} {i:Nat} (h:i < m):(ptrs m l)[i]? = some (ptrV (lookL l (i:Int))):=by
 unfold ptrs;rw [Qp,List.getElem?_range h];rfl
theorem ptrs_length (m:Nat) (l:TL):(ptrs m l).length=m:=by unfold ptrs;rw [Qu,List.length_range]
theorem ptrs_succ {m:Nat} {l:TL} (h:lookL l (m:Int)=none):ptrs m l++[.pointer none]=ptrs (m+1) l:=by
 unfold ptrs;rw [List.range_succ,List.map_append,Qx,List.map_nil,h];rfl
theorem ptrs_set {m:Nat} {l:TL} {i:Nat} {c:Nat} {x:LT} (h:i < m):(ptrs m l).set i (.pointer (some ⟨c,0,none⟩))=ptrs m (((i:Int),c,x) :: l):=by
 refine List.ext_getElem? (fun j=>?_)
 by_cases hj:j < m
 · rw [ptrs_at hj]
   simp only [lookL]
   by_cases he:i=j
   · subst he
     rw [List.getElem?_set_self (by rw [ptrs_length];exact h),if_pos rfl];rfl
   · rw [List.getElem?_set_ne he,ptrs_at hj,if_neg (by omega)]
 · rw [List.getElem?_eq_none (by rw [List.length_set,ptrs_length];omega),List.getElem?_eq_none (by rw [ptrs_length];omega)]
def ownK (bb sb:Nat) (lv tv:Value) (k:Nat):Prop:=k=bb∨k=sb∨lv.ownBlock=some k∨tv.ownBlock=some k
structure BI (p:Nat→Prop) (bb sb:Nat) (lv tv:Value) (m:Nat) (l:TL) (w:World):Prop where
 b:w.heap[bb]? = some (.cells #[lv,.pointer (some ⟨sb,0,none⟩)] 163 (0,0))
 s:w.heap[sb]? = some (.cells #[.int .i64 65536,tv] 209 (0,0))
 row:Row w 165 1 lv m (ptrs m l)
 trail:Row w 2 1 tv l.length ((l.map fun b=>Value.int .i64 b.1).reverse)
 terms:∀ b∈l,w.heap[b.2.1]? = some (.cells #[.int .i64 b.2.2.kind,.int .i64 b.2.2.n,.string b.2.2.name,.slice b.2.2.at_.1 b.2.2.args.length b.2.2.at_.2] 27 (0,0))∧b.2.2.In p w∧¬ ownK bb sb lv tv b.2.1
 ok:Tm.okT m (bt l)
 most:m≤65536
 ne:bb≠sb∧lv.ownBlock≠some bb∧lv.ownBlock≠some sb∧tv.ownBlock≠some bb∧tv.ownBlock≠some sb∧∀ k,lv.ownBlock=some k→tv.ownBlock≠some k
 sep:∀ k,p k→k < w.heap.size∧¬ ownK bb sb lv tv k
section
variable {p:Nat→Prop} {bb sb m:Nat} {lv tv:Value} {l:TL} {w w':World}
theorem BI.own_lt (h:BI p bb sb lv tv m l w):∀ k,ownK bb sb lv tv k→k < w.heap.size:=by
 rintro k (rfl | rfl | hk | hk)
 · exact (zL h.b)
 · exact (zL h.s)
 · exact h.row.lt k hk
 · exact h.trail.lt k hk
theorem BI.turned {S:Nat→Prop} (h:BI p bb sb lv tv m l w) (ht:Turned S w w') (hS:∀ k,k < w.heap.size→S k→¬ ownK bb sb lv tv k∧(∀ b∈l,k≠b.2.1)∧¬ p k):BI p bb sb lv tv m l w':=by
 have hb:=(zL h.b);have hs:=(zL h.s)
 refine ⟨(ht.block _ hb (fun f=>(hS _ hb f).1 (.inl rfl))).trans h.b,(ht.block _ hs (fun f=>(hS _ hs f).1 (.inr (.inl rfl)))).trans h.s,h.row.turned ht (fun k hk f=>(hS _ (h.row.lt k hk) f).1 (.inr (.inr (.inl hk)))),h.trail.turned ht (fun k hk f=>(hS _ (h.trail.lt k hk) f).1 (.inr (.inr (.inr hk)))),
  fun b hb=>⟨?_,LT.In.turned ht (fun k hk hq f=>(hS k hk f).2.2 hq) (fun _ _ q=>q) _ (h.terms b hb).2.1,(h.terms b hb).2.2⟩,h.ok,h.most,h.ne,fun k hk=>⟨Qo (h.sep k hk).1 ht.size,(h.sep k hk).2⟩⟩
 have hl:=(zL (h.terms b hb).1);exact (ht.block _ hl (fun f=>(hS _ hl f).2.1 b hb rfl)).trans (h.terms b hb).1
theorem BI.turned0 (h:BI p bb sb lv tv m l w) (ht:Turned zN w w'):BI p bb sb lv tv m l w':=
 h.turned ht (fun _ _ f=>f.elim)
theorem BI.wide {q:Nat→Prop} (h:BI p bb sb lv tv m l w) (hp:∀ k,p k→q k) (hq:∀ k,q k→k < w.heap.size∧¬ ownK bb sb lv tv k):BI q bb sb lv tv m l w:=
 ⟨h.b,h.s,h.row,h.trail,fun b hb=>⟨(h.terms b hb).1,(h.terms b hb).2.1.mono (fun k _ hk=>hp k hk),(h.terms b hb).2.2⟩,h.ok,h.most,h.ne,hq⟩
theorem BI.length (h:BI p bb sb lv tv m l w):l.length≤m:=by have:=Tm.okT_length h.ok;rwa [bt_length] at this
theorem BI.free (h:BI p bb sb lv tv m l w) {n:Int}:lookL l n=none↔n∉Tm.dom (bt l):=by
 rw [←Tm.look_none,look_bt]
 cases lookL l n <;> simp
theorem BI.fresh {lv':Value} (h:BI p bb sb lv tv m l w) (hm:m < 65536) (ht:Turned (fun k=>k=bb∨lv.ownBlock=some k) w w') (hb:w'.heap[bb]? = some (.cells #[lv',.pointer (some ⟨sb,0,none⟩)] 163 (0,0)))
 (hr:Row w' 165 1 lv' (m+1) (ptrs m l++[.pointer none])) (ho:lv'.ownBlock=lv.ownBlock∨∀ k,lv'.ownBlock=some k→w.heap.size≤k):BI p bb sb lv' tv (m+1) l w':=by
 obtain ⟨n1,n2,n3,n4,n5,n6⟩:=h.ne;have hbl:=(zL h.b);have hsl:=(zL h.s)
 have hfree:lookL l (m:Int)=none:=h.free.2 (fun c=>by
  obtain ⟨b,hb,e⟩:=List.mem_map.1 c;have:=(Tm.okT_mem h.ok hb).2.1
  omega)
 have hown:∀ k,k < w.heap.size→ownK bb sb lv' tv k→ownK bb sb lv tv k:=by
  rintro k hk (rfl | rfl | hq | hq)
  · exact .inl rfl
  · exact .inr (.inl rfl)
  · rcases ho with ho | ho
    · exact .inr (.inr (.inl (ho ▸ hq)))
    · have:=ho k hq;omega
  · exact .inr (.inr (.inr hq))
 have hlv:∀ q,q < w.heap.size→lv.ownBlock≠some q→lv'.ownBlock≠some q:=fun q hq hne e=>by
  rcases ho with ho | ho
  · exact hne (ho ▸ e)
  · have:=ho q e;omega
 refine ⟨hb,(ht.block _ hsl (fun e=>e.elim (fun e=>n1 e.symm) n3)).trans h.s,?_,h.trail.turned ht (fun k hk e=>?_),fun b hb=>⟨?_,?_,?_⟩,h.ok.more (Nat.le_succ m),by omega,⟨n1,hlv _ hbl n2,hlv _ hsl n3,n4,n5,fun k hk e=>?_⟩,fun k hk=>⟨Qo (h.sep k hk).1 ht.size,fun c=>(h.sep k hk).2 (hown k (h.sep k hk).1 c)⟩⟩
 · rw [←ptrs_succ hfree];exact hr
 · rcases e with e | e
   · exact n4 (e ▸ hk)
   · exact n6 k e hk
 · obtain ⟨t1,t2,t3⟩:=h.terms b hb
   refine (ht.block _ (zL t1) ?_).trans t1
   rintro (e | e)
   · exact t3 (.inl e)
   · exact t3 (.inr (.inr (.inl e)))
 · obtain ⟨t1,t2,t3⟩:=h.terms b hb
   refine LT.In.turned ht (fun k hk hq e=>?_) (fun k hk hq=>hq) _ t2
   rcases e with e | e
   · exact (h.sep k hq).2 (.inl e)
   · exact (h.sep k hq).2 (.inr (.inr (.inl e)))
 · obtain ⟨t1,t2,t3⟩:=h.terms b hb
   exact fun e=>t3 (hown _ (zL t1) e)
 · have hk':=h.trail.lt k e
   exact hlv k hk' (fun c=>n6 k c e) hk
theorem BI.set {tv':Value} {i c:Nat} {x:LT} (h:BI p bb sb lv tv m l w) (hi:i < m) (hok:Tm.setE m (bt l) (i:Int) x.bare=0)
 (ht:Turned (fun k=>k=sb∨lv.ownBlock=some k∨tv.ownBlock=some k) w w') (hs:w'.heap[sb]? = some (.cells #[.int .i64 65536,tv'] 209 (0,0)))
 (hr:Row w' 165 1 lv m ((ptrs m l).set i (.pointer (some ⟨c,0,none⟩)))) (htr:Row w' 2 1 tv' (l.length+1) ((l.map fun b=>Value.int .i64 b.1).reverse++[.int .i64 i])) (ho:tv'.ownBlock=tv.ownBlock∨∀ k,tv'.ownBlock=some k→w.heap.size≤k∧k≠c)
 (hcb:w.heap[c]? = some (.cells #[.int .i64 x.kind,.int .i64 x.n,.string x.name,.slice x.at_.1 x.args.length x.at_.2] 27 (0,0))) (hcn:¬ ownK bb sb lv tv c) (hx:x.In p w):BI p bb sb lv tv' m (((i:Int),c,x) :: l) w':=by
 obtain ⟨n1,n2,n3,n4,n5,n6⟩:=h.ne;have hbl:=(zL h.b);have hsl:=(zL h.s)
 have hown:∀ k,k < w.heap.size→ownK bb sb lv tv' k→ownK bb sb lv tv k:=by
  rintro k hk (rfl | rfl | hq | hq)
  · exact .inl rfl
  · exact .inr (.inl rfl)
  · exact .inr (.inr (.inl hq))
  · rcases ho with ho | ho
    · exact .inr (.inr (.inr (ho ▸ hq)))
    · have:=(ho k hq).1;omega
 have htv:∀ q,q < w.heap.size→tv.ownBlock≠some q→tv'.ownBlock≠some q:=fun q hq hne e=>by
  rcases ho with ho | ho
  · exact hne (ho ▸ e)
  · have:=(ho q e).1;omega
 have keep:∀ x:LT,∀ c,w.heap[c]? = some (.cells #[.int .i64 x.kind,.int .i64 x.n,.string x.name,.slice x.at_.1 x.args.length x.at_.2] 27 (0,0))→x.In p w→¬ ownK bb sb lv tv c→
  w'.heap[c]? = some (.cells #[.int .i64 x.kind,.int .i64 x.n,.string x.name,.slice x.at_.1 x.args.length x.at_.2] 27 (0,0))∧x.In p w'∧¬ ownK bb sb lv tv' c:=by
  intro x c t1 t2 t3;exact ⟨(ht.block _ (zL t1) (fun e=>t3 (.inr e))).trans t1,LT.In.turned ht (fun k hk hq e=>(h.sep k hq).2 (.inr e)) (fun k hk hq=>hq) _ t2,fun e=>t3 (hown _ (zL t1) e)⟩
 refine ⟨(ht.block _ hbl (fun e=>e.elim n1 (fun e=>e.elim n2 n4))).trans h.b,hs,?_,?_,fun b hb=>?_,Tm.setE_ok h.ok hok,h.most,⟨n1,n2,n3,htv _ hbl n4,htv _ hsl n5,fun k hk=>htv k (h.row.lt k hk) (n6 k hk)⟩,fun k hk=>⟨Qo (h.sep k hk).1 ht.size,fun c=>(h.sep k hk).2 (hown k (h.sep k hk).1 c)⟩⟩
 · rw [←ptrs_set (x:=x) hi];exact hr
 · rw [Qx,List.reverse_cons,QB];exact htr
 · rcases Qw.1 hb with rfl | hb
   · exact keep x c hcb hx hcn
   · obtain ⟨t1,t2,t3⟩:=h.terms b hb
     exact keep _ _ t1 t2 t3
end
end Go.Proofs.Ytoihjobdfjajfaa
namespace Go.Proofs.Ytoihjobdfjajfaa
open Lib (hid)
open Go.RowKit Go.Maps
theorem newStk142 (w:World) :
 Calls Try.prog 142 #[.int .i64 65536] w fun e w'=>e = .returned (.pointer (some ⟨w.heap.size,0,none⟩))∧w'=w.alloc (.cells #[.int .i64 65536,.slice none 0 0] 209):=by
 go_enter Try.func142,Try.ntmps142
 go_wp2_with fail
 go_ret
 all_goals first | exact ⟨rfl,rfl⟩ | (refine ⟨rfl,?_⟩;congr 5;omega)
theorem new86 (w:World) :
 Calls Try.prog 86 #[] w fun e w'=>e = .returned (.pointer (some ⟨w.heap.size+1,0,none⟩))∧w'=(w.alloc (.cells #[.int .i64 65536,.slice none 0 0] 209)).alloc (.cells #[.slice none 0 0,.pointer (some ⟨w.heap.size,0,none⟩)] 163):=by
 go_enter Try.func86,Try.ntmps86
 go_wp2_with (go_at_call 142;(with_reducible refine (newStk142 _).mono ?_);rintro e w3 ⟨rfl,rfl⟩)
 go_ret;exact ⟨rfl,rfl⟩
theorem BI.new {p:Nat→Prop} (w:World) (hp:∀ k,p k→k < w.heap.size) :
 BI p (w.heap.size+1) w.heap.size (.slice none 0 0) (.slice none 0 0) 0 [] ((w.alloc (.cells #[.int .i64 65536,.slice none 0 0] 209)).alloc (.cells #[.slice none 0 0,.pointer (some ⟨w.heap.size,0,none⟩)] 163)):=by
 have h1:=heap_alloc2_new w (.cells #[.int .i64 65536,.slice none 0 0] 209) (.cells #[.slice none 0 0,.pointer (some ⟨w.heap.size,0,none⟩)] 163);have h2:=heap_alloc2_old w (.cells #[.int .i64 65536,.slice none 0 0] 209) (.cells #[.slice none 0 0,.pointer (some ⟨w.heap.size,0,none⟩)] 163);refine ⟨h1,h2,Row.nil _ _ _,Row.nil _ _ _,fun b hb=>(by cases hb),trivial,by omega,⟨by omega,by simp [Value.ownBlock],by simp [Value.ownBlock],by simp [Value.ownBlock],by simp [Value.ownBlock],by simp [Value.ownBlock]⟩,fun k hk=>⟨by have:=hp k hk;simp;omega,?_⟩⟩
 rintro (e | e | e | e)
 · have:=hp k hk;omega
 · have:=hp k hk;omega
 · simp [Value.ownBlock] at e
 · simp [Value.ownBlock] at e
theorem newB86 {p:Nat→Prop} (w:World) (hp:∀ k,p k→k < w.heap.size) :
 Calls Try.prog 86 #[] w fun e w'=>e = .returned (.pointer (some ⟨w.heap.size+1,0,none⟩))∧BI p (w.heap.size+1) w.heap.size (.slice none 0 0) (.slice none 0 0) 0 [] w'∧Turned zN w w':=
 (new86 w).mono fun e w' ⟨h1,h2⟩=>⟨h1,by rw [h2];exact BI.new w hp,by rw [h2];exact ((Turned.refl _ w).alloc _).alloc _⟩
section
variable {p:Nat→Prop} {bb sb m:Nat} {lv tv:Value} {l:TL} {w w':World}
theorem rec2b {w:World} {bb:Nat} {x y:Value} {T:TypeId} (h:w.heap[bb]? = some (.cells #[x,y] T (0,0))) :
 w.cell? ⟨bb,0,none⟩=some x∧w.cell? ⟨bb,1,none⟩=some y∧w.frozen? ⟨bb,0,none⟩=false∧w.frozen? ⟨bb,1,none⟩=false:=
 ⟨by rw [cell_of_row w bb 0 _ T (0,0) h];rfl,by rw [cell_of_row w bb 1 _ T (0,0) h];rfl,frozen_of_row w bb 0 _ T h,frozen_of_row w bb 1 _ T h⟩
theorem given143q (h:BI p bb sb lv tv m l w) (n:Int) :
 Calls Try.prog 143 #[.pointer (some ⟨bb,0,none⟩),.int .i64 n] w fun e w'=>e = .returned (.bool (decide (0≤n∧n < (m:Int))))∧w'=w:=by
 obtain ⟨a,c,rfl⟩:=h.row.shape;obtain ⟨c0,c1,_⟩:=rec2b h.b;have hm:=h.row.max;clear h
 by_cases h0:0≤n
 · have d0:decide (0≤n)=true:=decide_eq_true h0
   by_cases h1:n < (m:Int)
   · have d1:decide (n < (m:Int))=true:=decide_eq_true h1
     rw [decide_eq_true (⟨h0,h1⟩:0≤n∧n < (m:Int))];go_enter Try.func143,Try.ntmps143
     go_wp2_with fail
     go_ret;exact ⟨rfl,rfl⟩
   · have d1:decide (n < (m:Int))=false:=decide_eq_false h1
     rw [decide_eq_false (fun c=>h1 c.2:¬ (0≤n∧n < (m:Int)))];go_enter Try.func143,Try.ntmps143
     go_wp2_with fail
     go_ret;exact ⟨rfl,rfl⟩
 · have d0:decide (0≤n)=false:=decide_eq_false h0
   rw [decide_eq_false (fun c=>h0 c.1:¬ (0≤n∧n < (m:Int)))];go_enter Try.func143,Try.ntmps143
   go_wp2_with fail
   go_ret;exact ⟨rfl,rfl⟩
theorem given143 (h:BI p bb sb lv tv m l w) (n:Int) :
 Calls Try.prog 143 #[.pointer (some ⟨bb,0,none⟩),.int .i64 n] w fun e w'=>e = .returned (.bool (decide (0≤n∧n < (m:Int))))∧Turned zN w w':=
 (given143q h n).mono fun e w' ⟨h1,h2⟩=>⟨h1,by rw [h2];exact Turned.refl _ _⟩
def OwnL (vs:List Int) (m:Nat) (w1:World) (q:Nat) (i:Value) (wr:World):Prop:=∃ j:Nat,Hid (j+q=vs.length)∧j≤vs.length∧i = .int .i64 j∧Hid ((vs.take j).all (fun v=>decide (v < (m:Int)))=true)∧Turned zN w1 wr
set_option maxRecDepth 100000 in
theorem own144 {p0:Nat→Prop} {t:LT} (h:BI p bb sb lv tv m l w) (ht:t.In p0 w) (hs:slim t) :
 Calls Try.prog 144 #[.pointer (some ⟨bb,0,none⟩),t.val] w fun e w'=>e = .returned (.bool (Tm.ownB m t))∧Turned zN w w':=by
 obtain ⟨bx,hbx⟩:∃ bx:Obj,bx = .cells #[.int .i64 t.kind,.int .i64 t.n,.string t.name,.slice t.at_.1 t.args.length t.at_.2] 27:=⟨_,rfl⟩;have T1:=(Turned.refl (fun _=>False) w).alloc bx
 have hc:∀ W,Turned zN (w.alloc bx) W→W.heap[w.heap.size]? = some bx:=fun W hW=>(hW.block _ (by simp) (fun f=>f)).trans (heap_alloc_new w bx)
 have hgo:=good38 (ht.turned0 T1) hs
 have hvs:=fun W (hW:Turned zN w W)=>vars34 (ht.turned0 hW) hs
 rw [LT.val_eq t] at hgo hvs ⊢;have HB:=hid h;have hmm:=h.most;subst hbx;have HC:=hid hc;have HT:=hid T1;clear h hc T1 ht hs
 cases hg:goodB t with
 | false=>
  have e1:Tm.ownB m t=false:=by unfold Tm.ownB;rw [hg];rfl
  rw [e1];rw [hg] at hgo;have HGO:=hid hgo;clear hgo hvs hg e1;go_enter Try.func144,Try.ntmps144
  go_wp2_with (go_at_call 38;(with_reducible refine HGO.out.mono ?_);rintro e w3 ⟨rfl,T3⟩)
  go_ret;exact ⟨rfl,HT.out.trans T3⟩
 | true=>
  have ev:varsB t=t.vars:=by unfold varsB;rw [if_pos hg]
  have e1:Tm.ownB m t=t.vars.all (fun v=>decide (v < (m:Int))):=by unfold Tm.ownB;rw [hg];rfl
  rw [e1];rw [hg] at hgo;rw [ev] at hvs;have hnn:=good_nums hg;obtain ⟨vs,hv⟩:∃ z,z=t.vars:=⟨_,rfl⟩;rw [←hv] at hvs hnn ⊢;have HGO:=hid hgo;have HVS:=hid hvs;have HNN:=hid hnn;clear hgo hvs hnn hg ev e1 hv;go_enter Try.func144,Try.ntmps144
  go_wp2_with (first
   | (go_at_call 38;(with_reducible refine HGO.out.mono ?_);rintro e w3 ⟨rfl,T3⟩;obtain ⟨c0,c1,c2,c3,_⟩:=cells4 (HC.out _ T3))
   | (go_at_call 34;(with_reducible refine (HVS.out _ (HT.out.trans T3)).mono ?_);rintro e w4 ⟨v,rfl,hrow,hown,T4⟩;obtain ⟨va,vc,rfl⟩:=hrow.shape;have hmx:=hrow.max;have TT:=HT.out.trans (T3.trans T4);have HROW:=hid hrow;clear hrow hown))
  have HTT:=hid TT;clear TT c0 c1 c2 c3 T3 T4 HGO HVS HC HT
  go_loopg [13] vs.length (fun q i wr=>OwnL vs m w4 q i wr)
  case atStart=>exact ⟨0,Nat.zero_add _,Nat.zero_le _,rfl,rfl,Turned.refl _ _⟩
  case round=>
   obtain ⟨j,HG,hj,rfl,HA,hT⟩:=hrel
   by_cases hjl:j < vs.length
   · obtain ⟨x,hx⟩:∃ x,vs[j]? = some x:=⟨_,Qa hjl⟩
     have hrw:=HROW.out.turned0 hT;obtain ⟨gv,cap,he⟩:=hrw.shape_pos (by omega)
     injection he with q1 _ q3
     subst q1 q3;have hcv:=hrw.cells rfl j (.int .i64 x) (by rw [Qp,hx];rfl);have hx0:=(HNN.out x (Qf hx)).1;have hgv:=given143 (HB.out.turned0 (HTT.out.trans hT)) x;have HX:=hid hx
     by_cases hxm:x < (m:Int)
     · rw [decide_eq_true (⟨hx0,hxm⟩:0≤x∧x < (m:Int))] at hgv
       have HGV:=hid hgv
       have hst:(vs.take (j+1)).all (fun v=>decide (v < (m:Int)))=true:=by rw [all_snoc _ _ _ x hx,HA.out,decide_eq_true hxm];rfl
       have HST:=hid hst;clear hx hrw hgv hst hxm hx0
       go_wp2_with (go_at_call 143;(with_reducible refine HGV.out.mono ?_);rintro e w5 ⟨rfl,T5⟩)
       go_roundg (gk - 1)
       case measure=>have:=HG.out;omega
       case rel=>exact ⟨j+1,show _=_ by have:=HG.out;omega,by omega,by go_num,HST.out,hT.trans T5⟩
     · rw [decide_eq_false (fun c=>hxm c.2:¬ (0≤x∧x < (m:Int)))] at hgv
       have HGV:=hid hgv;have hno:vs.all (fun v=>decide (v < (m:Int)))=false:=all_no _ _ j x hx (decide_eq_false hxm);have HNO:=hid hno;clear hx hrw hgv hno hxm hx0
       go_wp2_with (go_at_call 143;(with_reducible refine HGV.out.mono ?_);rintro e w5 ⟨rfl,T5⟩)
       go_ret;exact ⟨by rw [HNO.out];rfl,HTT.out.trans (hT.trans T5)⟩
   · obtain rfl:j=vs.length:=by omega
     have ha:=HA.out;rw [List.take_length] at ha;have HA':=hid ha;clear ha
     go_wp2_with fail
     go_ret;exact ⟨by rw [HA'.out];rfl,HTT.out.trans hT⟩
end
theorem infoP:(Try.prog.info? 165).map (fun i=>(i.zero,i.size,i.bytes))=some (some (.pointer none),1,8):=by kernel_rfl
theorem rec2_set0 {w:World} {bb:Nat} {x y:Value} {T:TypeId} (h:w.heap[bb]? = some (.cells #[x,y] T (0,0))) (u:Value) :
 (w.setCell ⟨bb,0,none⟩ u).heap[bb]? = some (.cells #[u,y] T (0,0)):=by
 have:=heap_setCell_same w bb 0 _ T u h;simpa using this
theorem rec2_set1 {w:World} {bb:Nat} {x y:Value} {T:TypeId} (h:w.heap[bb]? = some (.cells #[x,y] T (0,0))) (u:Value) :
 (w.setCell ⟨bb,1,none⟩ u).heap[bb]? = some (.cells #[x,u] T (0,0)):=by
 have:=heap_setCell_same w bb 1 _ T u h;simpa using this
theorem turned_store4 (W:World) (g:Nat) (c0 c1 c2 c3:Value):Turned (fun k=>k=g) W ((((W.setCell ⟨g,0,none⟩ c0).setCell ⟨g,1,none⟩ c1).setCell ⟨g,2,none⟩ c2).setCell ⟨g,3,none⟩ c3):=
 ((((Turned.refl (fun k=>k=g) W).setCell (p:=⟨g,0,none⟩) (.inr rfl) _).setCell (p:=⟨g,1,none⟩) (.inr rfl) _).setCell (p:=⟨g,2,none⟩) (.inr rfl) _).setCell (p:=⟨g,3,none⟩) (.inr rfl) _
section
variable {p:Nat→Prop} {bb sb m:Nat} {lv tv:Value} {l:TL} {w w':World}
set_option maxRecDepth 100000 in
theorem fresh87 (h:BI p bb sb lv tv m l w) (hm:m < 65536) :
 Calls Try.prog 87 #[.pointer (some ⟨bb,0,none⟩)] w fun e w'=>e = .returned (.tuple #[.agg #[.int .i64 0,.int .i64 (m:Int),.string ByteArray.empty,.slice none 0 0],.bool true])∧(∃ lv',BI p bb sb lv' tv (m+1) l w'∧(lv'.ownBlock=lv.ownBlock∨∀ k,lv'.ownBlock=some k→w.heap.size≤k))∧Turned (fun k=>k=bb∨lv.ownBlock=some k) w w':=by
 obtain ⟨i0,hi0,hz0,hz1,hz2⟩:=info_parts infoP;obtain ⟨a,c,rfl⟩:=h.row.shape;have hmx:=h.row.max;have hm2:decide (65536≤(m:Int))=false:=decide_eq_false (by omega);have h2:=twoBox w (.cells #[.int .i64 0,.int .i64 0,.string ⟨#[]⟩,.slice none 0 0] 27) (.cells #[.pointer none] 165);have hb2:=(h2.1.bt h.b);have hb1:=(((Turned.refl (fun _=>False) w).alloc (.cells #[.int .i64 0,.int .i64 0,.string ⟨#[]⟩,.slice none 0 0] 27)).bt h.b);have hrw:=h.row.turned0 h2.1;have hnb:=news_block (cs:=[.pointer none]) h2.2.2.2;have hbl:=(zL h.b)
 have hown:Hid (∀ k,(k=bb∨(Value.slice a m c).ownBlock=some k)→k < w.heap.size):=fun k hk=>h.own_lt k (hk.elim .inl (fun e=>.inr (.inr (.inl e))))
 have H:=hid h;have H2:=hid h2;obtain ⟨c0,c1,_⟩:=rec2b hb1;obtain ⟨d0,d1,_⟩:=rec2b hb2;have HRW:=hid hrw;have HNB:=hid hnb;have HB2:=hid hb2;clear h h2 hrw hnb hb2 hb1;go_enter Try.func87,Try.ntmps87
 go_wp2_with (first
  | (at_builtin;refine append_some _ rfl _ _ 161 rfl 165 i0 (.pointer none) 1 8 Try.underlying161 hi0 hz0 hz1 hz2 rfl (by decide) _ _ _ rfl HRW.out ⟨w.heap.size+1,0,none⟩ 1 1 [.pointer none] rfl rfl HNB.out (by simp [Value.oneCell']) (by omega) (by unfold maxLen;omega) (by omega) ?_;intro g cap w3 hrow3 T3 hg3;have hb3:=(T3.block bb (by have:=H2.out.2.1;omega) H.out.ne.2.1).trans HB2.out;obtain ⟨e0,e1,f0,f1⟩:=rec2b hb3;have HROW:=hid hrow3;have HB4:=hid (rec2_set0 hb3 (.slice (some ⟨g,0,none⟩) (m+1) cap));have HG3:Hid (some g=(Value.slice a m c).ownBlock∨w.heap.size+2≤g):=hg3.elim .inl (fun e=>.inr (by rw [e];exact Nat.le_of_eq H2.out.2.1.symm));have HT4:=hid ((T3.mono (fun k _ e=>Or.inr e):Turned (fun k=>k=bb∨(Value.slice a m c).ownBlock=some k) _ w3).setCell (p:=⟨bb,0,none⟩) (.inr (.inl rfl)) (.slice (some ⟨g,0,none⟩) (m+1) cap));clear hrow3 hb3 hg3 c0 c1 d0 d1 T3)
  | (go_at_call 62;(with_reducible refine (varE (m:Int) (by unfold I64;omega) _).mono ?_);rintro e w5 ⟨rfl,T5⟩;have hx5:=(T5.block w.heap.size (by have:=HT4.out.size;have:=H2.out.2.1;omega) (fun f=>f)).trans ((HT4.out.block w.heap.size (by have:=H2.out.2.1;omega) (fun e=>by have:=hown.out _ e;omega)).trans H2.out.2.2.1);obtain ⟨_,_,_,_,g0,g1,g2,g3⟩:=cells4 hx5;have HX5:=hid hx5;clear hx5))
 have hset:=set4 (a':=.int .i64 0) (b':=.int .i64 (m:Int)) (c':=.string ByteArray.empty) (d':=.slice none 0 0) HX5.out;have Tq:=turned_store4 w5 w.heap.size (.int .i64 0) (.int .i64 (m:Int)) (.string ByteArray.empty) (.slice none 0 0);have T15:Turned (fun k=>k=bb∨(Value.slice a m c).ownBlock=some k) w w5:=((H2.out.1.mono (fun _ _ f=>f.elim)).trans HT4.out).trans (T5.mono (fun _ _ f=>f.elim));have T16:=T15.step Tq (fun i hi e=>by omega);refine bodyPost_ret (results_cell_tmp1 Try.results87 _ _ w.heap.size 27 _ (0,0) _ rfl hset Try.underlying27 rfl (by kernel_rfl)) rfl ⟨rfl,⟨.slice (some ⟨g,0,none⟩) (m+1) cap,?_,?_⟩,T16⟩
 · have hgn:∀ q,(Value.slice (some ⟨g,0,none⟩) (m+1) cap).ownBlock=some q→q≠bb∧q≠w.heap.size:=fun q e=>by
    simp [Value.ownBlock] at e;subst e
    rcases HG3.out with e | e
    · exact ⟨fun c=>H.out.ne.2.1 (by rw [←e,c]),by have:=hown.out g (.inr e.symm);omega⟩
    · omega
   refine H.out.fresh hm T16 ?_ ?_ ?_
   · have h5:=(T5.block bb (by have:=HT4.out.size;have:=H2.out.2.1;omega) (fun f=>f)).trans HB4.out
     exact (Tq.block bb (zL h5) (by omega)).trans h5
   · have r4:=HROW.out.setCell (p:=⟨bb,0,none⟩) (fun e=>(hgn _ e).1 rfl) (.slice (some ⟨g,0,none⟩) (m+1) cap)
     exact (r4.turned0 T5).turned Tq (fun k hk e=>(hgn k hk).2 e)
   · rcases HG3.out with e | e
     · exact .inl e
     · exact .inr (fun k hk=>by simp [Value.ownBlock] at hk;omega)
 · rcases HG3.out with e | e
   · exact .inl e
   · exact .inr (fun k hk=>by simp [Value.ownBlock] at hk;omega)
end
theorem infoN3:(Try.prog.info? 2).map (fun i=>(i.zero,i.size,i.bytes))=some (some (.int .i64 0),1,8):=by kernel_rfl
set_option maxRecDepth 100000 in
theorem push146 {w:World} {sb n g0:Nat} {tv:Value} {xs:List Value} {x:Int} (hs:w.heap[sb]? = some (.cells #[.int .i64 65536,tv] 209 (0,0))) (hr:Row w 2 1 tv n xs) (hn:n < 65536) (hne:tv.ownBlock≠some sb) (h0:w.heap[g0]? = some (.cells #[.int .i64 x] 2 (0,0))) :
 Calls Try.prog 146 #[.pointer (some ⟨sb,0,none⟩),.slice (some ⟨g0,0,none⟩) 1 1] w fun e w'=>e = .returned (.bool true)∧∃ tv',w'.heap[sb]? = some (.cells #[.int .i64 65536,tv'] 209 (0,0))∧Row w' 2 1 tv' (n+1) (xs++[.int .i64 x])∧Turned (fun k=>k=sb∨tv.ownBlock=some k) w w'∧(tv'.ownBlock=tv.ownBlock∨∀ k,tv'.ownBlock=some k→w.heap.size≤k):=by
 obtain ⟨i0,hi0,hz0,hz1,hz2⟩:=info_parts infoN3;obtain ⟨a,c,rfl⟩:=hr.shape;have hmx:=hr.max;obtain ⟨c0,c1,f0,f1⟩:=rec2b hs;have hnb:=news_block (cs:=[.int .i64 x]) h0;have hsl:=(zL hs)
 have ht:¬ ((65536:Int) - (n:Int) < 1):=by omega
 have ht2:(1:Int)≤65536 - (n:Int):=by omega
 have HS:=hid hs;have HR:=hid hr;have HNB:=hid hnb;have HNE:=hid hne;clear hs hr hnb hne h0;go_enter Try.func146,Try.ntmps146
 go_wp2_with fail
 go_quiet (fail)
 go_wp2_with (at_builtin;refine append_some _ rfl _ _ 24 rfl 2 i0 (.int .i64 0) 1 8 Try.underlying24 hi0 hz0 hz1 hz2 rfl (by decide) _ _ _ rfl (HR.out.turned0 ((Turned.refl _ _).drewN _)) ⟨g0,0,none⟩ 1 1 [.int .i64 x] rfl rfl HNB.out (by simp [Value.oneCell']) (by omega) (by unfold maxLen;omega) (by omega) ?_;intro g cap w3 hrow3 T3 hg3;have T3':Turned (fun k=>(Value.slice a n c).ownBlock=some k) w w3:=((Turned.refl _ w).drewN _).trans T3;have hs3:=(T3'.block sb hsl HNE.out).trans HS.out;obtain ⟨e0,e1,k0,k1⟩:=rec2b hs3;have HS4:=hid (rec2_set1 hs3 (.slice (some ⟨g,0,none⟩) (n+1) cap));have HROW:=hid hrow3;have HT3:=hid T3';have HG3:Hid (some g=(Value.slice a n c).ownBlock∨w.heap.size≤g):=hg3.elim .inl (fun e=>.inr (by rw [e];exact Qm _));clear hs3 hrow3 T3 T3' hg3 c0 c1 f0 f1)
 go_ret;refine ⟨rfl,.slice (some ⟨g,0,none⟩) (n+1) cap,HS4.out,HROW.out.setCell (p:=⟨sb,1,none⟩) (fun e=>?_) _,(HT3.out.mono (fun k _ e=>Or.inr e):Turned (fun k=>k=sb∨(Value.slice a n c).ownBlock=some k) w w3).setCell (p:=⟨sb,1,none⟩) (.inr (.inl rfl)) _,?_⟩
 · simp [Value.ownBlock] at e
   subst e
   rcases HG3.out with e | e
   · exact HNE.out e.symm
   · omega
 · rcases HG3.out with e | e
   · exact .inl e
   · exact .inr (fun k hk=>by simp [Value.ownBlock] at hk;omega)
theorem markS154 {w:World} {sb n:Nat} {tv:Value} {xs:List Value} (hs:w.heap[sb]? = some (.cells #[.int .i64 65536,tv] 209 (0,0))) (hr:Row w 2 1 tv n xs) :
 Calls Try.prog 154 #[.pointer (some ⟨sb,0,none⟩)] w fun e w'=>e = .returned (.int .i64 n)∧w'=w:=by
 obtain ⟨a,c,rfl⟩:=hr.shape;obtain ⟨c0,c1,f0,f1⟩:=rec2b hs;clear hs hr;go_enter Try.func154,Try.ntmps154
 go_wp2_with fail
 go_ret;exact ⟨rfl,rfl⟩
section
variable {p:Nat→Prop} {bb sb m:Nat} {lv tv:Value} {l:TL} {w w':World}
theorem mark111 (h:BI p bb sb lv tv m l w):Calls Try.prog 111 #[.pointer (some ⟨bb,0,none⟩)] w fun e w'=>e = .returned (.int .i64 l.length)∧Turned zN w w':=by
 obtain ⟨c0,c1,f0,f1⟩:=rec2b h.b;have hm:=markS154 h.s h.trail;have HM:=hid hm;clear h hm;go_enter Try.func111,Try.ntmps111
 go_wp2_with (go_at_call 154;(with_reducible refine HM.out.mono ?_);rintro e w3 ⟨rfl,rfl⟩)
 go_ret;exact ⟨rfl,Turned.refl _ _⟩
end
end Go.Proofs.Ytoihjobdfjajfaa
namespace Go.Proofs.Ytoihjobdfjajfaa
namespace Tm
def hasL (most:Nat) (n:Int):Nat→List (Tm Unit)→Bool × Nat
 | c,[]=>(false,c)
 | c,x :: l=>if most < c+1∨(x.kind=0∧x.n=n) then (true,c+1) else hasL most n (c+1) l
theorem hasL_le (most:Nat) (n:Int) (l:List (Tm Unit)):∀ c,c≤(hasL most n c l).2∧(hasL most n c l).2≤c+l.length:=by
 induction l with
 | nil=>intro c;exact ⟨Qm _,Qm _⟩
 | cons x l ih=>
  intro c;simp only [hasL,QB]
  split
  · exact ⟨Nat.le_succ c,by simp only [];omega⟩
  · have:=ih (c+1);omega
theorem hasL_most (most:Nat) (n:Int) (l:List (Tm Unit)):∀ c,c≤most→(hasL most n c l).2≤most+1:=by
 induction l with
 | nil=>intro c h;exact Nat.le_succ_of_le h
 | cons x l ih=>
  intro c h;simp only [hasL]
  split
  · simp only [];omega
  · rename_i h1
    exact ih (c+1) (by omega)
theorem hasL_in (most:Nat) (n:Int) (l:List (Tm Unit)):∀ c,(hasL most n c l).2≤most→((hasL most n c l).1=true↔∃ x∈l,x.kind=0∧x.n=n):=by
 induction l with
 | nil=>intro c _;simp [hasL]
 | cons x l ih=>
  intro c h;simp only [hasL] at h ⊢
  split
  · rename_i h1
    rw [if_pos h1] at h;simp only [] at h
    rcases h1 with h1 | h1
    · omega
    · exact ⟨fun _=>⟨x,Qe ..,h1⟩,fun _=>rfl⟩
  · rename_i h1
    rw [if_neg h1] at h;rw [ih (c+1) h];constructor
    · rintro ⟨y,hy,h2⟩;exact ⟨y,Qb _ hy,h2⟩
    · rintro ⟨y,hy,h2⟩
      rcases Qw.1 hy with rfl | hy
      · exact absurd (Or.inr h2) h1
      · exact ⟨y,hy,h2⟩
theorem hasL_vars {most:Nat} {n:Int} {t:Tm Unit} (h:(hasL most n 0 t.flat).2≤most):(hasL most n 0 t.flat).1=decide (n∈t.vars):=by
 rw [Bool.eq_iff_iff,hasL_in most n t.flat 0 h,decide_eq_true_eq,vars_mem];rfl
theorem Walked.flat_var {m:Nat} {l:Trail} {t x:Tm Unit} (hl:okT m l) (h:Walked m l t x) (hk:x.kind=0):(Tm.img l t).flat=[x]:=by
 rw [h.var hl hk,flat_eq];have:=leafy_self h.leafy hk;rw [this];rfl
theorem Walked.flat_node {m:Nat} {l:Trail} {t x:Tm Unit} (hl:okT m l) (h:Walked m l t x) (hk:¬ x.kind=0):(Tm.img l t).flat=Tm.img l x :: flats (x.args.map (Tm.img l))∧¬ (Tm.img l x).kind=0:=by
 rw [←h.img,img_args hk];refine ⟨?_,hk⟩;rw [flat_eq];rfl
theorem hasL_node {most c:Nat} {n:Int} {y:Tm Unit} {l:List (Tm Unit)} (hk:¬ y.kind=0) (hc:c < most):hasL most n c (y :: l)=hasL most n (c+1) l:=by
 simp only [hasL];rw [if_neg]
 rintro (h | h)
 · omega
 · exact hk h.1
theorem hasL_stop {most c:Nat} {n:Int} {l:List (Tm Unit)} (hc:most≤c) (hl:l≠[]):hasL most n c l=(true,c+1):=by
 cases l with
 | nil=>exact absurd rfl hl
 | cons y l=>simp only [hasL];rw [if_pos (.inl (by omega))]
theorem hasL_hit {most c:Nat} {n:Int} {y:Tm Unit} {l:List (Tm Unit)} (hk:y.kind=0) (hn:y.n=n):hasL most n c (y :: l)=(true,c+1):=by
 simp only [hasL];rw [if_pos (.inr ⟨hk,hn⟩)]
theorem hasL_miss {most c:Nat} {n:Int} {y:Tm Unit} {l:List (Tm Unit)} (hn:¬ (y.kind=0∧y.n=n)) (hc:c < most):hasL most n c (y :: l)=hasL most n (c+1) l:=by
 simp only [hasL];rw [if_neg]
 rintro (h | h)
 · omega
 · exact hn h
theorem okT_drop {m:Nat}:∀ (k:Nat) {l:Trail},okT m l→okT m (l.drop k)
 | 0,_,h=>h
 | _+1,[],h=>h
 | k+1,_ :: l,h=>okT_drop k h.1
end Tm
namespace Tm
def walkF:Nat→Trail→Tm Unit→Tm Unit
 | 0,_,t=>t
 | k+1,l,t=>if t.kind=0 then (match look l t.n with | some p=>walkF k l p | none=>t) else t
open Classical in
noncomputable def walkG (l:Trail) (x:Tm Unit):Nat:=if x.kind=0 then rk l x.n+1 else 0
theorem walkG_lt {m:Nat} {l:Trail} (h:okT m l) {t p:Tm Unit} (hk:t.kind=0) (hp:look l t.n=some p):walkG l p < walkG l t:=by
 unfold walkG;rw [if_pos hk]
 split
 · rename_i h0
   have:=rk_lt h hp (v:=p.n) ⟨p,by rw [flat_eq];exact Qe ..,h0,rfl⟩;omega
 · omega
theorem walkF_enough {m:Nat} {l:Trail} (h:okT m l):∀ (k k':Nat) (t:Tm Unit),walkG l t≤k→walkG l t≤k'→walkF k l t=walkF k' l t:=by
 intro k
 induction k with
 | zero=>
  intro k' t h1 _
  have hk:¬ t.kind=0:=fun c=>by unfold walkG at h1;rw [if_pos c] at h1;omega
  cases k' with
  | zero=>rfl
  | succ k'=>simp only [walkF,if_neg hk]
 | succ k ih=>
  intro k' t h1 h2
  cases k' with
  | zero=>
   have hk:¬ t.kind=0:=fun c=>by unfold walkG at h2;rw [if_pos c] at h2;omega
   simp only [walkF,if_neg hk]
  | succ k'=>
   simp only [walkF]
   split
   · rename_i hk
     cases hp:look l t.n with
     | none=>rfl
     | some p=>
      have:=walkG_lt h hk hp;exact ih k' p (by omega) (by omega)
   · rfl
noncomputable def walkT (l:Trail) (t:Tm Unit):Tm Unit:=walkF (walkG l t) l t
theorem walkT_step {m:Nat} {l:Trail} (h:okT m l) {t p:Tm Unit} (hk:t.kind=0) (hp:look l t.n=some p):walkT l t=walkT l p:=by
 have h1:=walkG_lt h hk hp;obtain ⟨k,hk'⟩:∃ k,walkG l t=k+1:=⟨walkG l t - 1,by omega⟩;unfold walkT;rw [hk'];simp only [walkF,if_pos hk,hp];exact walkF_enough h _ _ _ (by omega) (Qm _)
theorem walkT_stop {l:Trail} {t:Tm Unit} (h:t.kind=0→look l t.n=none):walkT l t=t:=by
 unfold walkT
 cases walkG l t with
 | zero=>rfl
 | succ k=>
  simp only [walkF]
  split
  · rename_i hk
    rw [h hk]
  · rfl
theorem walked {m:Nat} {l:Trail} (h:okT m l):∀ (k:Nat) (t:Tm Unit),walkG l t≤k→(∀ y∈t.flat,goodOneB y=true)→Walked m l t (walkT l t):=by
 intro k
 induction k with
 | zero=>
  intro t hk ht
  have hk:¬ t.kind=0:=fun c=>by unfold walkG at hk;rw [if_pos c] at hk;omega
  rw [walkT_stop (fun c=>absurd c hk)];exact Walked.self ht (fun c=>absurd c hk)
 | succ k ih=>
  intro t hk ht
  by_cases h0:t.kind=0
  · cases hp:look l t.n with
    | none=>
     rw [walkT_stop (fun _=>hp)];exact Walked.self ht (fun _=>look_none.1 hp)
    | some p=>
     rw [walkT_step h h0 hp];have h1:=walkG_lt h h0 hp;exact Walked.step h (leafy_good ht) h0 hp (ih p (by omega) (good_ones' (okT_mem h (look_mem hp)).2.2.1))
  · rw [walkT_stop (fun c=>absurd c h0)]
    exact Walked.self ht (fun c=>absurd c h0)
theorem ownB_arg {m:Nat} {t x:Tm Unit} (h:ownB m t=true) (hk:¬ t.kind=0) (hx:x∈t.args):ownB m x=true:=by
 obtain ⟨h1,h2⟩:=ownB_iff.1 h;refine ownB_iff.2 ⟨?_,fun v hv=>h2 v ((numsIn_args hk).2 ⟨x,hx,hv⟩)⟩;unfold goodB at h1 ⊢;simp only [Qd,decide_eq_true_eq,Qt] at h1 ⊢
 have hxf:∀ y∈x.flat,y∈t.flat:=fun y hy=>by rw [flat_eq];exact Qb _ (mem_flats_iff.2 ⟨x,hx,hy⟩)
 refine ⟨?_,?_,fun y hy=>h1.2.2 y (hxf y hy)⟩
 · have:=mem_flat_size t x (hxf x (by rw [flat_eq];exact Qe ..));omega
 · have:=depths_mem hx;have:=depth_eq t;omega
theorem walkT_own {m:Nat} {l:Trail} (h:okT m l):∀ (k:Nat) (t:Tm Unit),walkG l t≤k→ownB m t=true→ownB m (walkT l t)=true:=by
 intro k
 induction k with
 | zero=>
  intro t hk ht
  have hk:¬ t.kind=0:=fun c=>by unfold walkG at hk;rw [if_pos c] at hk;omega
  rw [walkT_stop (fun c=>absurd c hk)];exact ht
 | succ k ih=>
  intro t hk ht
  by_cases h0:t.kind=0
  · cases hp:look l t.n with
    | none=>rw [walkT_stop (fun _=>hp)];exact ht
    | some p=>
     rw [walkT_step h h0 hp];have h1:=walkG_lt h h0 hp;have h2:=okT_mem h (look_mem hp);exact ih p (by omega) (ownB_iff.2 ⟨h2.2.2.1,h2.2.2.2⟩)
  · rw [walkT_stop (fun c=>absurd c h0)];exact ht
def solves (θ:Int→Tm Unit) (l:Trail):Prop:=∀ b∈l,θ b.1=subT θ b.2
theorem solves_cons {θ:Int→Tm Unit} {b:Int × Tm Unit} {l:Trail}:solves θ (b :: l)↔θ b.1=subT θ b.2∧solves θ l:=by
 unfold solves;constructor
 · intro h;exact ⟨h b (Qe ..),fun c hc=>h c (Qb _ hc)⟩
 · rintro ⟨h1,h2⟩ c hc
   rcases Qw.1 hc with rfl | hc
   · exact h1
   · exact h2 c hc
theorem subT_V1 (θ:Int→Tm Unit) (i:Int):subT θ (V i)=θ i:=by simp only [V,subT,if_pos]
theorem solves_sig {θ:Int→Tm Unit} {l:Trail} (h:solves θ l) (i:Int):subT θ (sig l i)=θ i:=by
 induction l generalizing i with
 | nil=>exact subT_V1 θ i
 | cons b l ih=>
  obtain ⟨h1,h2⟩:=solves_cons.1 h;simp only [sig];rw [subT_subT,subT_congr (τ:=θ) _ (fun x _ _=>?_),ih h2];unfold put
  split
  · rename_i e
    rw [subT_subT,subT_congr (τ:=θ) _ (fun x _ _=>ih h2 _),e,h1]
  · exact subT_V1 θ _
theorem solves_img {θ:Int→Tm Unit} {l:Trail} (h:solves θ l) (t:Tm Unit):subT θ (img l t)=subT θ t:=by
 unfold img;rw [subT_subT];exact subT_congr t (fun x _ _=>solves_sig h _)
theorem size_within (θ:Int→Tm Unit) {t:Tm Unit} (ht:leafy t) (hk:¬ t.kind=0) {n:Int} (hn:numsIn t n):(θ n).size < (subT θ t).size:=by
 cases t with | mk k i s e aa=>
 simp only [kind] at hk;have h1:=(numsIn_mk hk).1 hn;have h2:=subTs_mem θ n aa h1 (fun x hx=>ht x (by rw [flat_eq];exact Qb _ hx));have h3:=mem_flats_size _ _ h2;simp only [subT,if_neg hk,size];omega
inductive UR where
 | ok (l:Trail) (left:Nat)
 | no (left:Nat)
 | over
inductive UStep where
 | more (ps:List (Tm Unit × Tm Unit))
 | done (r:UR)
def tieU (l:Trail) (left:Nat) (n:Int) (t:Tm Unit):UR:=
 if left < (hasL left n 0 (img l t).flat).2 then .over
 else if (hasL left n 0 (img l t).flat).1=true then .no (left - (hasL left n 0 (img l t).flat).2)
 else .ok ((n,t) :: l) (left - (hasL left n 0 (img l t).flat).2)
def headsB (x y:Tm Unit):Bool:=decide (x.kind=y.kind) && (decide (x.n=y.n) && (decide (x.name=y.name) && decide (x.args.length=y.args.length)))
theorem headsB_iff {x y:Tm Unit}:headsB x y=true↔x.kind=y.kind∧x.n=y.n∧x.name=y.name∧x.args.length=y.args.length:=by
 unfold headsB;simp only [Qd,decide_eq_true_eq]
def oneU (l:Trail) (left:Nat) (x y:Tm Unit):UStep:=
 if x.kind=0 then
  if y.kind=0 then
   if x.n=y.n then .done (.ok l left) else .done (.ok ((max x.n y.n,V (min x.n y.n)) :: l) left)
  else .done (tieU l left x.n y)
 else if y.kind=0 then .done (tieU l left y.n x)
 else if headsB x y=true then .more (x.args.zip y.args) else .done (.no left)
noncomputable def uni:Nat→Trail→Nat→List (Tm Unit × Tm Unit)→UR
 | 0,_,_,_=>.over
 | _+1,l,left,[]=>.ok l left
 | k+1,l,left,(x,y) :: r=>
  if left=0 then .over else
  match oneU l (left - 1) (walkT l x) (walkT l y) with
  | .more ps=>uni k l (left - 1) (ps++r)
  | .done (.ok l' left')=>uni k l' left' r
  | .done (.no q)=>.no q
  | .done .over=>.over
theorem tieU_left {l l':Trail} {left left':Nat} {n:Int} {t:Tm Unit} (h:tieU l left n t = .ok l' left'):left'≤left∧l'=(n,t) :: l:=by
 unfold tieU at h
 split at h
 · cases h
 · split at h
   · cases h
   · injection h with h1 h2;exact ⟨by omega,h1.symm⟩
theorem oneU_left {l l':Trail} {left left':Nat} {x y:Tm Unit} (h:oneU l left x y = .done (.ok l' left')):left'≤left:=by
 unfold oneU at h
 split at h
 · split at h
   · split at h
     · injection h with h;injection h with _ h2;omega
     · injection h with h;injection h with _ h2;omega
   · injection h with h;exact (tieU_left h).1
 · split at h
   · injection h with h;exact (tieU_left h).1
   · split at h
     · cases h
     · injection h with h;cases h
theorem oneU_pre {l l':Trail} {left left':Nat} {x y:Tm Unit} (h:oneU l left x y = .done (.ok l' left')):∃ a,l'=a++l:=by
 unfold oneU at h
 split at h
 · split at h
   · split at h
     · injection h with h;injection h with h1 _;exact ⟨[],h1.symm⟩
     · injection h with h;injection h with h1 _;exact ⟨[_],h1.symm⟩
   · injection h with h;exact ⟨[_],(tieU_left h).2⟩
 · split at h
   · injection h with h;exact ⟨[_],(tieU_left h).2⟩
   · split at h
     · cases h
     · injection h with h;cases h
theorem oneU_more_len {m:Nat} {l:Trail} {left:Nat} {x y:Tm Unit} {ps:List (Tm Unit × Tm Unit)} (h:oneU l left x y = .more ps) (hx:ownB m x=true):ps.length≤8:=by
 unfold oneU at h
 split at h
 · split at h
   · split at h <;> cases h
   · cases h
 · split at h
   · cases h
   · split at h
     · injection h with h
       rw [←h,List.length_zip]
       by_cases ha:x.args=[]
       · rw [ha];simp
       · have:=(one_args (good_ones' (ownB_iff.1 hx).1 x (by rw [flat_eq];exact Qe ..)) ha).2.2
         omega
     · cases h
theorem uni_enough:∀ (k k':Nat) (l:Trail) (left:Nat) (todo:List (Tm Unit × Tm Unit)),left < k→left < k'→uni k l left todo=uni k' l left todo:=by
 intro k
 induction k with
 | zero=>intro k' l left todo h;omega
 | succ k ih=>
  intro k' l left todo h h';obtain ⟨k',rfl⟩:∃ q,k'=q+1:=⟨k' - 1,by omega⟩
  cases todo with
  | nil=>rfl
  | cons p r=>
   obtain ⟨x,y⟩:=p;simp only [uni]
   by_cases h0:left=0
   · rw [if_pos h0,if_pos h0]
   · rw [if_neg h0,if_neg h0]
     cases hs:oneU l (left - 1) (walkT l x) (walkT l y) with
     | more ps=>exact ih k' _ _ _ (by omega) (by omega)
     | done u=>
      cases u with
      | ok l' left'=>
       have:=oneU_left hs;exact ih k' _ _ _ (by omega) (by omega)
      | no q=>rfl
      | over=>rfl
noncomputable def unify (l:Trail) (left:Nat) (todo:List (Tm Unit × Tm Unit)):UR:=uni (left+1) l left todo
theorem unify_zero (l:Trail) (p:Tm Unit × Tm Unit) (r:List (Tm Unit × Tm Unit)):unify l 0 (p :: r) = .over:=by
 obtain ⟨x,y⟩:=p;unfold unify;simp only [uni,if_pos]
theorem unify_more {l:Trail} {left:Nat} {x y:Tm Unit} {ps r:List (Tm Unit × Tm Unit)} (h:oneU l left (walkT l x) (walkT l y) = .more ps):unify l (left+1) ((x,y) :: r)=unify l left (ps++r):=by
 unfold unify;rw [show left+1+1=(left+1)+1 from rfl];simp only [uni,Nat.add_one_ne_zero,if_false,Nat.add_sub_cancel,h]
theorem unify_ok {l l':Trail} {left left':Nat} {x y:Tm Unit} {r:List (Tm Unit × Tm Unit)} (h:oneU l left (walkT l x) (walkT l y) = .done (.ok l' left')):unify l (left+1) ((x,y) :: r)=unify l' left' r:=by
 have h1:=oneU_left h;unfold unify;rw [show left+1+1=(left+1)+1 from rfl];simp only [uni,Nat.add_one_ne_zero,if_false,Nat.add_sub_cancel,h];exact uni_enough _ _ _ _ _ (by omega) (by omega)
theorem unify_no {l:Trail} {left q:Nat} {x y:Tm Unit} {r:List (Tm Unit × Tm Unit)} (h:oneU l left (walkT l x) (walkT l y) = .done (.no q)):unify l (left+1) ((x,y) :: r) = .no q:=by
 unfold unify;rw [show left+1+1=(left+1)+1 from rfl];simp only [uni,Nat.add_one_ne_zero,if_false,Nat.add_sub_cancel,h]
theorem unify_over {l:Trail} {left:Nat} {x y:Tm Unit} {r:List (Tm Unit × Tm Unit)} (h:oneU l left (walkT l x) (walkT l y) = .done .over):unify l (left+1) ((x,y) :: r) = .over:=by
 unfold unify;rw [show left+1+1=(left+1)+1 from rfl];simp only [uni,Nat.add_one_ne_zero,if_false,Nat.add_sub_cancel,h]
theorem ownB_var {m:Nat} {t:Tm Unit} (h:ownB m t=true) (hk:t.kind=0):0≤t.n∧t.n < (m:Int)∧t=V t.n:=by
 obtain ⟨h1,h2⟩:=ownB_iff.1 h;have h3:=good_ones' h1 t (by rw [flat_eq];exact Qe ..);rw [goodOneB_0 t hk] at h3;simp only [Qd,decide_eq_true_eq] at h3;exact ⟨h3.1,h2 _ ⟨t,by rw [flat_eq];exact Qe ..,hk,rfl⟩,leafy_self (good_leafy h1) hk⟩
theorem goodB_V {i:Int} (h0:0≤i) (h1:i≤2147483647):goodB (V i)=true:=by
 unfold goodB;rw [flat_V];simp only [Qd,decide_eq_true_eq,Qt,Qw,Ql,or_false];refine ⟨by simp [V,size,sizes],by simp [V,depth,depths],?_⟩
 rintro x rfl
 rw [goodOneB_0 _ rfl];simp only [V,Tm.n,name,args,List.length_nil,Qd,decide_eq_true_eq];refine ⟨decide_eq_true h0,decide_eq_true h1,?_,?_⟩
 · first | rfl | (exact decide_eq_true rfl) | simp
 · first | rfl | trivial | simp
theorem ownB_V {m:Nat} {i:Int} (h0:0≤i) (h1:i < (m:Int)) (hm:m≤65536):ownB m (V i)=true:=
 ownB_iff.2 ⟨goodB_V h0 (by omega),fun v hv=>by rw [numsIn_V.1 hv];exact h1⟩
def TieOk (m:Nat) (l:Trail) (n:Int) (t:Tm Unit):UR→Prop
 | .ok l' _=>l'=(n,t) :: l∧okT m l'∧setE m l n t=0
 | .no _=>∀ θ,solves θ l→θ n≠subT θ t
 | .over=>True
theorem tieU_spec {m:Nat} {l:Trail} (hl:okT m l) {left:Nat} {n:Int} {t:Tm Unit} (h0:0≤n) (h1:n < (m:Int)) (hn:n∉dom l) (ht:ownB m t=true) (hk:¬ t.kind=0):TieOk m l n t (tieU l left n t):=by
 obtain ⟨g1,g2⟩:=ownB_iff.1 ht;unfold tieU
 split
 · trivial
 · rename_i hle
   have hv:=hasL_vars (most:=left) (n:=n) (t:=img l t) (by omega)
   split
   · rename_i hh
     intro θ hs e;rw [hv,decide_eq_true_eq] at hh;have hi:=(vars_mem n).1 hh
     have hki:¬ (img l t).kind=0:=by rw [img_args hk];exact hk
     have:=size_within θ (img_leafy hl (good_leafy g1)) hki hi;rw [solves_img hs,←e] at this;omega
   · rename_i hh
     rw [hv,decide_eq_true_eq] at hh;refine ⟨rfl,⟨hl,h0,h1,hn,g1,g2,fun c=>hh ((vars_mem n).2 c)⟩,?_⟩;unfold setE;rw [if_pos ⟨h0,h1,ht⟩,if_neg hn,if_neg hh]
end Tm
end Go.Proofs.Ytoihjobdfjajfaa
namespace Go.Proofs.Ytoihjobdfjajfaa
open Go.RowKit Go.Maps
def given (m:Nat) (t:LT):Prop:=(∀ z∈t.bare.flat,goodOneB z=true)∧∀ v,Tm.numsIn t.bare v→v < (m:Int)
theorem given_leafy {m:Nat} {t:LT} (h:given m t):Tm.leafy t.bare:=Tm.leafy_good h.1
theorem given_one {m:Nat} {t:LT} (h:given m t):goodOneB t=true:=by
 rw [←goodOneB_bare];exact h.1 _ (by rw [Tm.flat_eq];exact Qe ..)
theorem given_var {m:Nat} {t:LT} (h:given m t) (hk:t.kind=0):0≤t.n∧t.n < (m:Int)∧t.n≤2147483647∧t.args=[]∧t.bare=Tm.V t.n:=by
 have h1:=given_one h;have h2:=h1;rw [goodOneB_0 t hk] at h1;simp only [Qd,decide_eq_true_eq] at h1
 have hb:t.bare=Tm.V t.n:=by
  have:=Tm.leafy_self (given_leafy h) (by rw [Tm.bare_kind];exact hk)
  rwa [Tm.bare_n] at this
 exact ⟨h1.1,h.2 _ (by rw [hb];exact Tm.numsIn_V.2 rfl),h1.2.1,Qh h1.2.2.2,hb⟩
theorem given_args {m:Nat} {t:LT} (h:given m t) (hk:¬ t.kind=0):∀ a∈t.args,given m a:=by
 intro a ha
 have hm:a.bare∈t.bare.args:=by rw [Tm.bare_args,Tm.bares_eq];exact List.mem_map_of_mem ha
 refine ⟨fun z hz=>h.1 z ?_,fun v hv=>h.2 v ((Tm.numsIn_args (by rw [Tm.bare_kind];exact hk)).2 ⟨_,hm,hv⟩)⟩;rw [Tm.flat_eq];exact Qb _ (Tm.mem_flats_iff.2 ⟨_,hm,hz⟩)
theorem given_arity {m:Nat} {t:LT} (h:given m t):t.args.length≤8:=by
 by_cases ha:t.args=[]
 · rw [ha];exact Nat.zero_le _
 · exact (Tm.one_args (given_one h) ha).2.2
theorem given_bound {p:Nat→Prop} {bb sb m:Nat} {lv tv:Value} {l:TL} {w:World} (h:BI p bb sb lv tv m l w) {n:Int} {c:Nat} {x:LT} (hx:lookL l n=some (c,x)):given m x:=by
 have h1:(n,x.bare)∈bt l:=List.mem_map.2 ⟨_,lookL_mem hx,rfl⟩;have h2:=Tm.okT_mem h.ok h1;exact ⟨Tm.good_ones' h2.2.2.1,h2.2.2.2⟩
structure SeekI (p:Nat→Prop) (mb m:Nat) (l:TL) (n:Int) (t:LT) (w0:World) (todo:List LT) (had:List Int) (v:Value) (w:World):Prop where
 row:Row w 27 4 v todo.length (todo.flatMap LT.cells)
 own:∀ g,v.ownBlock=some g→w0.heap.size≤g
 map:IMap Try.prog 2 w mb had.length (fun i=>if i∈had then some (.bool true) else none)
 seek:Tm.Seek (bt l) n t.bare (todo.map Tm.bare) had
 mem:∀ y∈todo,y.In p w0∧given m y
 nodup:had.Nodup
 less:∀ k∈had,0≤k∧k < (m:Int)
 turned:Turned (· = mb) w0 w
 base:mb < w0.heap.size
section
variable {p:Nat→Prop} {mb m:Nat} {l:TL} {n:Int} {t x:LT} {w0 w w':World} {todo ys:List LT} {had:List Int} {v:Value}
theorem SeekI.room (h:SeekI p mb m l n t w0 todo had v w):todo.length≤Tm.sizes todo:=by
 clear h
 induction todo with
 | nil=>exact Qm _
 | cons x l ih=>have:=Tm.size_pos x;simp only [Tm.sizes,QB];omega
theorem SeekI.turned0 (h:SeekI p mb m l n t w0 todo had v w) (ht:Turned zN w w'):SeekI p mb m l n t w0 todo had v w':=
 ⟨h.row.turned0 ht,h.own,h.map.turned ht (fun f=>f),h.seek,h.mem,h.nodup,h.less,h.turned.trans (ht.mono (fun _ _ f=>f.elim)),h.base⟩
theorem SeekI.pop {g k cap:Nat} (h:SeekI p mb m l n t w0 (ys++[x]) had (.slice (some ⟨g,0,none⟩) k cap) w):k=ys.length+1∧Row w 27 4 (.slice (some ⟨g,0,none⟩) ys.length cap) ys.length (ys.flatMap LT.cells)∧ys.length+1≤cap∧cap≤maxLen:=by
 have hr:=h.row
 have hn:k=ys.length+1:=by
  rcases hr.2 with ⟨e,_⟩ | ⟨g',c',cur,e,_⟩
  · cases e
  · injection e with _ e _;simp at e;exact e
 subst hn
 have hcap:ys.length+1≤cap∧cap≤maxLen:=by
  rcases hr.2 with ⟨e,_⟩ | ⟨g',c',cur,e,_,h1,h2,_⟩
  · cases e
  · injection e with _ _ e;subst e;simp at h1;omega
 have hr':Row w 27 4 (.slice (some ⟨g,0,none⟩) (ys.length+1) cap) (ys.length+1) ((ys++[x]).flatMap LT.cells):=by simpa using hr
 have ht:=hr'.take (m:=ys.length) (c:=cap) (by omega) (by omega) (Qm _);rw [List.flatMap_append,List.take_left' (by rw [LT.flat_length])] at ht;exact ⟨rfl,ht,hcap⟩
theorem SeekI.top {g k cap:Nat} (h:SeekI p mb m l n t w0 (ys++[x]) had (.slice (some ⟨g,0,none⟩) k cap) w) :
 w.cell? ⟨g,ys.length * 4,none⟩=some (.int .i64 x.kind)∧w.cell? ⟨g,ys.length * 4+1,none⟩=some (.int .i64 x.n)∧w.cell? ⟨g,ys.length * 4+2,none⟩=some (.string x.name)∧w.cell? ⟨g,ys.length * 4+3,none⟩=some (.slice x.at_.1 x.args.length x.at_.2):=by
 have hn:=h.pop.1;subst hn
 have hr:Row w 27 4 (.slice (some ⟨g,0,none⟩) (ys.length+1) cap) (ys.length+1) ((ys++[x]).flatMap LT.cells):=by simpa using h.row
 have hi:(ys++[x])[ys.length]? = some x:=by simp
 refine ⟨hr.cells rfl _ _ ?_,hr.cells rfl _ _ ?_,hr.cells rfl _ _ ?_,hr.cells rfl _ _ ?_⟩
 · have:=LT.flat_at hi 0 (by omega);rw [Nat.add_zero] at this;rw [this,LT.cells_eq];rfl
 · rw [LT.flat_at hi 1 (by omega),LT.cells_eq];rfl
 · rw [LT.flat_at hi 2 (by omega),LT.cells_eq];rfl
 · rw [LT.flat_at hi 3 (by omega),LT.cells_eq];rfl
theorem SeekI.args {v':Value} (h:SeekI p mb m l n t w0 (ys++[x]) had v w) (hk:¬ x.kind=0) (hr:Row w' 27 4 v' (ys.length+x.args.length) (ys.flatMap LT.cells++x.args.flatMap LT.cells)) (ht:Turned (fun k=>v.ownBlock=some k) w w') (ho:v'.ownBlock=v.ownBlock∨∀ k,v'.ownBlock=some k→w.heap.size≤k):SeekI p mb m l n t w0 (ys++x.args) had v' w':=by
 obtain ⟨hx,hg⟩:=h.mem x (by simp);refine ⟨?_,fun g e=>?_,h.map.turned ht (fun e=>?_),?_,fun y hy=>?_,h.nodup,h.less,h.turned.step ht (fun i hi e=>?_),h.base⟩
 · rw [List.flatMap_append,Qi];exact hr
 · rcases ho with ho | ho
   · exact h.own g (ho ▸ e)
   · have:=ho g e
     have:=h.turned.size;omega
 · have:=h.own _ e;have:=h.base;omega
 · have hs:=h.seek
   rw [List.map_append,Qx,List.map_nil] at hs;have:=hs.args (by rw [Tm.bare_kind];exact hk);rw [Tm.bare_args,Tm.bares_eq] at this;rw [List.map_append];exact this
 · rcases Qn.1 hy with hy | hy
   · exact h.mem y (Qc _ hy)
   · exact ⟨(LT.ins_iff _).1 hx.args y hy,given_args hg hk y hy⟩
 · have:=h.own i e;omega
theorem SeekI.row_var {v':Value} (h:SeekI p mb m l n t w0 (ys++[x]) had v w) (hr:Row w' 27 4 v' (ys.length+0) (ys.flatMap LT.cells++[])) (ht:Turned (fun k=>v.ownBlock=some k) w w') (ho:v'.ownBlock=v.ownBlock∨∀ k,v'.ownBlock=some k→w.heap.size≤k) :
 Row w' 27 4 v' ys.length (ys.flatMap LT.cells)∧(∀ g,v'.ownBlock=some g→w0.heap.size≤g)∧IMap Try.prog 2 w' mb had.length (fun i=>if i∈had then some (.bool true) else none)∧Turned (· = mb) w0 w':=by
 refine ⟨by simpa using hr,fun g e=>?_,h.map.turned ht (fun e=>?_),h.turned.step ht (fun i hi e=>?_)⟩
 · rcases ho with ho | ho
   · exact h.own g (ho ▸ e)
   · have:=ho g e
     have:=h.turned.size;omega
 · have:=h.own _ e;have:=h.base;omega
 · have:=h.own i e;omega
theorem SeekI.skip {v':Value} (h:SeekI p mb m l n t w0 (ys++[x]) had v w) (hk:x.kind=0) (hm:x.n∈had) (hr:Row w' 27 4 v' (ys.length+0) (ys.flatMap LT.cells++[])) (ht:Turned (fun k=>v.ownBlock=some k) w w') (ho:v'.ownBlock=v.ownBlock∨∀ k,v'.ownBlock=some k→w.heap.size≤k):SeekI p mb m l n t w0 ys had v' w':=by
 obtain ⟨q1,q2,q3,q4⟩:=h.row_var hr ht ho;have hg:=(h.mem x (by simp)).2;refine ⟨q1,q2,q3,?_,fun y hy=>h.mem y (Qc _ hy),h.nodup,h.less,q4,h.base⟩;have hs:=h.seek;rw [List.map_append,Qx,List.map_nil,(given_var hg hk).2.2.2.2] at hs;exact hs.skip hm
theorem had_upd {k:Int}:upd (fun i=>if i∈had then some (Value.bool true) else none) k (.bool true)=fun i=>if i∈k :: had then some (.bool true) else none:=by
 funext i
 unfold upd
 by_cases h:i=k
 · rw [if_pos h,if_pos (by rw [h];exact Qe ..)]
 · rw [if_neg h]
   show (if i∈had then some (Value.bool true) else none)=_
   by_cases hq:i∈had
   · rw [if_pos hq,if_pos (Qb _ hq)]
   · rw [if_neg hq,if_neg (by simp [h,hq])]
theorem SeekI.met {v':Value} {w1 w2:World} (h:SeekI p mb m l n t w0 (ys++[x]) had v w) (hk:x.kind=0) (hm:x.n∉had) (hr:Row w1 27 4 v' (ys.length+0) (ys.flatMap LT.cells++[])) (ht:Turned (fun k=>v.ownBlock=some k) w w1) (ho:v'.ownBlock=v.ownBlock∨∀ k,v'.ownBlock=some k→w.heap.size≤k)
 (hm2:IMap Try.prog 2 w2 mb (if ((fun i=>if i∈had then some (Value.bool true) else none) x.n).isSome then had.length else had.length+1) (upd (fun i=>if i∈had then some (Value.bool true) else none) x.n (.bool true))) (ht2:Turned (· = mb) w1 w2) :
 Row w2 27 4 v' ys.length (ys.flatMap LT.cells)∧(∀ g,v'.ownBlock=some g→w0.heap.size≤g)∧IMap Try.prog 2 w2 mb (x.n :: had).length (fun i=>if i∈x.n :: had then some (.bool true) else none)∧Turned (· = mb) w0 w2∧(x.n :: had).Nodup∧∀ k∈x.n :: had,0≤k∧k < (m:Int):=by
 obtain ⟨q1,q2,q3,q4⟩:=h.row_var hr ht ho;have hg:=given_var (h.mem x (by simp)).2 hk;refine ⟨q1.turned ht2 (fun k e c=>?_),q2,?_,q4.step ht2 (fun i _ e=>e),List.nodup_cons.2 ⟨hm,h.nodup⟩,fun k e=>?_⟩
 · have:=q2 k e;have:=h.base;omega
 · rw [had_upd] at hm2
   simp only [if_neg hm,Option.isSome_none] at hm2;simpa using hm2
 · rcases Qw.1 e with rfl | e
   · exact ⟨hg.1,hg.2.1⟩
   · exact h.less k e
theorem SeekI.free {bb sb:Nat} {lv tv v':Value} {w1 w2:World} (hb:Tm.okT m (bt l)) (h:SeekI p mb m l n t w0 (ys++[x]) had v w) (hk:x.kind=0) (hm:x.n∉had) (hne:¬ x.n=n) (hl:lookL l x.n=none) (hr:Row w1 27 4 v' (ys.length+0) (ys.flatMap LT.cells++[])) (ht:Turned (fun k=>v.ownBlock=some k) w w1) (ho:v'.ownBlock=v.ownBlock∨∀ k,v'.ownBlock=some k→w.heap.size≤k)
 (hm2:IMap Try.prog 2 w2 mb (if ((fun i=>if i∈had then some (Value.bool true) else none) x.n).isSome then had.length else had.length+1) (upd (fun i=>if i∈had then some (Value.bool true) else none) x.n (.bool true))) (ht2:Turned (· = mb) w1 w2):SeekI p mb m l n t w0 ys (x.n :: had) v' w2:=by
 obtain ⟨q1,q2,q3,q4,q5,q6⟩:=h.met hk hm hr ht ho hm2 ht2;have hs:=h.seek;rw [List.map_append,Qx,List.map_nil,(given_var (h.mem x (by simp)).2 hk).2.2.2.2] at hs;exact ⟨q1,q2,q3,hs.free hb (by rw [look_bt,hl];rfl) hne,fun y hy=>h.mem y (Qc _ hy),q5,q6,q4,h.base⟩
theorem SeekI.bound {bb sb c:Nat} {lv tv v' v'':Value} {y:LT} {w1 w2 w3:World} (hb:BI p bb sb lv tv m l w0) (h:SeekI p mb m l n t w0 (ys++[x]) had v w) (hk:x.kind=0) (hm:x.n∉had) (hl:lookL l x.n=some (c,y)) (hr:Row w1 27 4 v' (ys.length+0) (ys.flatMap LT.cells++[])) (ht:Turned (fun k=>v.ownBlock=some k) w w1) (ho:v'.ownBlock=v.ownBlock∨∀ k,v'.ownBlock=some k→w.heap.size≤k)
 (hm2:IMap Try.prog 2 w2 mb (if ((fun i=>if i∈had then some (Value.bool true) else none) x.n).isSome then had.length else had.length+1) (upd (fun i=>if i∈had then some (Value.bool true) else none) x.n (.bool true))) (ht2:Turned (· = mb) w1 w2)
 (hr3:Row w3 27 4 v'' (ys.length+1) (ys.flatMap LT.cells++y.cells)) (ht3:Turned (fun k=>v'.ownBlock=some k) w2 w3) (ho3:v''.ownBlock=v'.ownBlock∨∀ k,v''.ownBlock=some k→w2.heap.size≤k):SeekI p mb m l n t w0 (ys++[y]) (x.n :: had) v'' w3:=by
 obtain ⟨q1,q2,q3,q4,q5,q6⟩:=h.met hk hm hr ht ho hm2 ht2;have hs:=h.seek;rw [List.map_append,Qx,List.map_nil,(given_var (h.mem x (by simp)).2 hk).2.2.2.2] at hs;have hs':=hs.bound hb.ok (by rw [look_bt,hl];rfl);refine ⟨?_,fun g e=>?_,q3.turned ht3 (fun e=>?_),?_,fun z hz=>?_,q5,q6,q4.step ht3 (fun i hi e=>?_),h.base⟩
 · rw [List.flatMap_append,Qi]
   simpa using hr3
 · rcases ho3 with ho3 | ho3
   · exact q2 g (ho3 ▸ e)
   · have:=ho3 g e
     have:=q4.size;omega
 · have:=q2 _ e;have:=h.base;omega
 · rw [List.map_append];exact hs'
 · rcases Qn.1 hz with hz | hz
   · exact h.mem z (Qc _ hz)
   · rw [List.mem_singleton] at hz
     subst hz;exact ⟨(hb.terms _ (lookL_mem hl)).2.1,given_bound hb hl⟩
 · have:=q2 i e;omega
theorem SeekI.size (hb:Tm.okT m (bt l)) (h:SeekI p mb m l n t w0 todo had v w):had.length≤m:=nodup_length m had h.nodup h.less
end
end Go.Proofs.Ytoihjobdfjajfaa
namespace Go.Proofs.Ytoihjobdfjajfaa
open Lib (hid)
open Go.RowKit Go.Maps
structure WalkI (p:Nat→Prop) (m:Nat) (l:TL) (t:LT) (w0:World) (x:LT):Prop where
 inn:x.In p w0
 ones:∀ z∈x.bare.flat,goodOneB z=true
 on:Tm.walkT (bt l) x.bare=Tm.walkT (bt l) t.bare
theorem WalkI.step {p:Nat→Prop} {bb sb m:Nat} {lv tv:Value} {l:TL} {w:World} {t x y:LT} {c:Nat} (hb:BI p bb sb lv tv m l w) (h:WalkI p m l t w x) (hk:x.kind=0) (hl:lookL l x.n=some (c,y)):WalkI p m l t w y∧Tm.walkG (bt l) y.bare < Tm.walkG (bt l) x.bare:=by
 have h1:Tm.look (bt l) x.n=some y.bare:=by rw [look_bt,hl];rfl
 have hm:=Tm.okT_mem hb.ok (Tm.look_mem h1);rw [←Tm.bare_n x] at h1
 have hk':x.bare.kind=0:=by rw [Tm.bare_kind];exact hk
 exact ⟨⟨(hb.terms _ (lookL_mem hl)).2.1,Tm.good_ones' hm.2.2.1,by rw [←Tm.walkT_step hb.ok hk' h1];exact h.on⟩,Tm.walkG_lt hb.ok hk' h1⟩
theorem WalkI.done {p:Nat→Prop} {m:Nat} {l:TL} {w:World} {t x:LT} (h:WalkI p m l t w x) (hk:x.kind=0→x.n∉Tm.dom (bt l)):x.bare=Tm.walkT (bt l) t.bare:=by
 rw [←h.on,Tm.walkT_stop (fun e=>?_)];rw [Tm.bare_kind] at e;rw [Tm.bare_n];exact Tm.look_none.2 (hk e)
def WalkR (p:Nat→Prop) (m:Nat) (l:TL) (t:LT) (B:Nat) (w0:World) (k:Nat) (wr:World):Prop:=
 ∃ x:LT,Hid (Tm.walkG (bt l) x.bare=k)∧Hid (WalkI p m l t w0 x)∧wr.heap[B]? = some (.cells #[.int .i64 x.kind,.int .i64 x.n,.string x.name,.slice x.at_.1 x.args.length x.at_.2] 27 (0,0))∧wr.heap[B+1]? = some (.cells #[.int .i64 0,.int .i64 0,.string ⟨#[]⟩,.slice none 0 0] 27 (0,0))∧Turned zN w0 wr
set_option maxRecDepth 100000 in
theorem walk90 {p:Nat→Prop} {bb sb m:Nat} {lv tv:Value} {l:TL} {w:World} {t:LT} (h:BI p bb sb lv tv m l w) (ht:t.In p w) (hg:∀ z∈t.bare.flat,goodOneB z=true) :
 Calls Try.prog 90 #[.pointer (some ⟨bb,0,none⟩),t.val] w fun e w'=>∃ x:LT,e = .returned x.val∧x.In p w'∧x.bare=Tm.walkT (bt l) t.bare∧Turned zN w w':=by
 have h2:=twoBox w (.cells #[.int .i64 t.kind,.int .i64 t.n,.string t.name,.slice t.at_.1 t.args.length t.at_.2] 27) (.cells #[.int .i64 0,.int .i64 0,.string ⟨#[]⟩,.slice none 0 0] 27);have hst:Hid (WalkI p m l t w t):=⟨ht,hg,rfl⟩;have H:=hid h;have H2:=hid h2;clear h ht hg h2;rw [LT.val_eq];go_enter Try.func90,Try.ntmps90
 go_wp2_with fail
 revert H2;generalize ((w.alloc (.cells #[.int .i64 t.kind,.int .i64 t.n,.string t.name,.slice t.at_.1 t.args.length t.at_.2] 27)).alloc (.cells #[.int .i64 0,.int .i64 0,.string ⟨#[]⟩,.slice none 0 0] 27))=w2;intro H2
 go_loopg [] (Tm.walkG (bt l) t.bare) (fun k wr=>WalkR p m l t w.heap.size w k wr)
 case atStart=>exact ⟨t,rfl,hst,H2.out.2.2.1,H2.out.2.2.2,H2.out.1⟩
 case round=>
  obtain ⟨x,HG,HI,hb0,hb1,hT⟩:=hrel;obtain ⟨x0,x1,x2,x3,_⟩:=cells4 hb0;obtain ⟨z0,z1,z2,z3,f0,f1,f2,f3⟩:=cells4 hb1;have HB0:=hid hb0;have HB1:=hid hb1;have HBI:=hid (H.out.turned0 hT);clear hb0 hb1
  by_cases hk:x.kind=0
  · have hkx:(x.kind == 0)=true:=by simp [hk]
    have h0:0≤x.n:=by
     have:=HI.out.ones x.bare (by rw [Tm.flat_eq];exact Qe ..);rw [goodOneB_bare,goodOneB_0 x hk] at this;simp only [Qd,decide_eq_true_eq] at this;exact this.1
    have HK:=hid hk;clear hk
    have hgv:=fun n=>given143q (HBI.out.turned0 ((Turned.refl _ wr).drewN n)) x.n
    by_cases hm:x.n < (m:Int)
    · rw [decide_eq_true (⟨h0,hm⟩:0≤x.n∧x.n < (m:Int))] at hgv
      have HGV:=hid hgv;clear hgv;obtain ⟨g,cl,hle⟩:=HBI.out.row.shape_pos (by omega);subst hle;obtain ⟨b0,_⟩:=rec2b HBI.out.b;have hmx:=HBI.out.row.max;have hm65:=HBI.out.most;have hrow:=HBI.out.row.cells rfl x.n.toNat _ (ptrs_at (by omega));rw [Int.toNat_of_nonneg h0] at hrow
      cases hlk0:lookL l x.n with
      | none=>
       rw [hlk0,ptrV] at hrow;have hdone:=HI.out.done (fun _=>(H.out.free).1 hlk0);have HD:=hid hdone;clear hlk0 hdone
       go_wp2_with fail
       go_quiet ((go_at_call 143;exact Calls.quiet_of_same (HGV.out _)))
       go_wp2_with fail
       have hbq:(wr.drewN nq).heap[w.heap.size+1]? = _:=HB1.out;have hset:=set4 (a':=.int .i64 x.kind) (b':=.int .i64 x.n) (c':=.string x.name) (d':=.slice x.at_.1 x.args.length x.at_.2) hbq;have T4:=turned4 (a:=.int .i64 x.kind) (b:=.int .i64 x.n) (c:=.string x.name) (d:=.slice x.at_.1 x.args.length x.at_.2) (hT.drewN nq) (g:=w.heap.size+1) (by omega);refine bodyPost_ret (v:=.agg #[.int .i64 x.kind,.int .i64 x.n,.string x.name,.slice x.at_.1 x.args.length x.at_.2]) (results_cell_row Try.results90 _ _ (w.heap.size+1) 27 _ (0,0) _ rfl hset Try.underlying27 rfl (by kernel_rfl)) rfl ⟨x,by rw [LT.val_eq],HI.out.inn.turned0 T4,HD.out,T4⟩
      | some cy=>
       obtain ⟨c,y⟩:=cy;rw [hlk0,ptrV] at hrow;have hst:=HI.out.step H.out HK.out hlk0;have HS:=hid hst;obtain ⟨y0,y1,y2,y3,_⟩:=cells4 (HBI.out.terms _ (lookL_mem hlk0)).1;clear hlk0 hst
       go_wp2_with fail
       go_quiet ((go_at_call 143;exact Calls.quiet_of_same (HGV.out _)))
       go_wp2_with fail
       refine region_tail 10 (by kernel_rfl) (by kernel_rfl) ?_;simp only [List.take_succ_cons,List.take_zero,List.drop_succ_cons,List.drop_zero]
       repeat still_step
       refine wpStill_nil ?_
       go_wp2_with fail
       have hbq:((wr.drewN nq).drew).heap[w.heap.size]? = _:=HB0.out;have hset:=set4 (a':=.int .i64 y.kind) (b':=.int .i64 y.n) (c':=.string y.name) (d':=.slice y.at_.1 y.args.length y.at_.2) hbq;have T4:=turned4 (a:=.int .i64 y.kind) (b:=.int .i64 y.n) (c:=.string y.name) (d:=.slice y.at_.1 y.args.length y.at_.2) (((hT.drewN nq)).drew) (g:=w.heap.size) (by omega);have T5:=turned_store4 ((wr.drewN nq).drew) w.heap.size (.int .i64 y.kind) (.int .i64 y.n) (.string y.name) (.slice y.at_.1 y.args.length y.at_.2);go_roundg (Tm.walkG (bt l) y.bare)
       case measure=>have:=HG.out;have:=HS.out.2;omega
       case rel=>exact ⟨y,rfl,HS.out.1,hset,(T5.block _ (zL HB1.out) (by omega)).trans HB1.out,T4⟩
    · rw [decide_eq_false (fun c=>hm c.2:¬ (0≤x.n∧x.n < (m:Int)))] at hgv
      have HGV:=hid hgv
      have hdone:=HI.out.done (fun _ e=>by
       obtain ⟨b,hb,e2⟩:=List.mem_map.1 e;have:=(Tm.okT_mem H.out.ok hb).2.1
       omega)
      have HD:=hid hdone;clear hgv hdone
      go_wp2_with fail
      go_quiet ((go_at_call 143;exact Calls.quiet_of_same (HGV.out _)))
      go_wp2_with fail
      have hbq:(wr.drewN nq).heap[w.heap.size+1]? = _:=HB1.out;have hset:=set4 (a':=.int .i64 x.kind) (b':=.int .i64 x.n) (c':=.string x.name) (d':=.slice x.at_.1 x.args.length x.at_.2) hbq;have T4:=turned4 (a:=.int .i64 x.kind) (b:=.int .i64 x.n) (c:=.string x.name) (d:=.slice x.at_.1 x.args.length x.at_.2) (hT.drewN nq) (g:=w.heap.size+1) (by omega);refine bodyPost_ret (v:=.agg #[.int .i64 x.kind,.int .i64 x.n,.string x.name,.slice x.at_.1 x.args.length x.at_.2]) (results_cell_row Try.results90 _ _ (w.heap.size+1) 27 _ (0,0) _ rfl hset Try.underlying27 rfl (by kernel_rfl)) rfl ⟨x,by rw [LT.val_eq],HI.out.inn.turned0 T4,HD.out,T4⟩
  · have hkx:(x.kind == 0)=false:=by simp [hk]
    have hdone:=HI.out.done (fun e=>absurd e hk);have HD:=hid hdone;clear hk hdone
    go_wp2_with fail
    go_quiet (fail)
    go_wp2_with fail
    have hbq:(wr.drewN nq).heap[w.heap.size+1]? = _:=HB1.out;have hset:=set4 (a':=.int .i64 x.kind) (b':=.int .i64 x.n) (c':=.string x.name) (d':=.slice x.at_.1 x.args.length x.at_.2) hbq;have T4:=turned4 (a:=.int .i64 x.kind) (b:=.int .i64 x.n) (c:=.string x.name) (d:=.slice x.at_.1 x.args.length x.at_.2) (hT.drewN nq) (g:=w.heap.size+1) (by omega);refine bodyPost_ret (v:=.agg #[.int .i64 x.kind,.int .i64 x.n,.string x.name,.slice x.at_.1 x.args.length x.at_.2]) (results_cell_row Try.results90 _ _ (w.heap.size+1) 27 _ (0,0) _ rfl hset Try.underlying27 rfl (by kernel_rfl)) rfl ⟨x,by rw [LT.val_eq],HI.out.inn.turned0 T4,HD.out,T4⟩
end Go.Proofs.Ytoihjobdfjajfaa
namespace Go.Proofs.Ytoihjobdfjajfaa
open Go.RowKit Go.Maps
def blanks (n:Nat):List LT:=List.replicate n (leaf 0 0 ByteArray.empty)
theorem made_blanks (n:Nat):(madeCells zeroR.cells (n * 4)).toList=(blanks n).flatMap LT.cells:=by
 refine List.ext_getElem? (fun k=>?_)
 have hl:((blanks n).flatMap LT.cells).length=n * 4:=by rw [LT.flat_length];unfold blanks;rw [List.length_replicate]
 by_cases hk:k < n * 4
 · have hi:(blanks n)[k / 4]? = some (leaf 0 0 ByteArray.empty):=by
    unfold blanks;rw [List.getElem?_replicate,if_pos (by omega)]
   have h:=LT.flat_at hi (k % 4) (by omega);rw [show k / 4 * 4+k % 4=k from by omega] at h;rw [h];unfold madeCells;rw [Array.toList_map,Array.toList_range,Qp,List.getElem?_range hk]
   have h4:k % 4=0∨k % 4=1∨k % 4=2∨k % 4=3:=by omega
   have hz:zeroR.cells.size=4:=rfl;show some (zeroR.cells[k % zeroR.cells.size]!)=_;rw [hz]
   rcases h4 with h4 | h4 | h4 | h4 <;> rw [h4] <;> rfl
 · refine (List.getElem?_eq_none ?_).trans (List.getElem?_eq_none (by rw [hl];omega)).symm
   unfold madeCells;simp;omega
theorem blanks_length (n:Nat):(blanks n).length=n:=by unfold blanks;rw [List.length_replicate]
theorem blanks_in (n:Nat) (p:Nat→Prop) (w:World):LT.Ins p w (blanks n):=by
 rw [LT.ins_iff];intro x hx;unfold blanks at hx;rw [List.eq_of_mem_replicate hx];exact leafIn' (i64_lit _ (by omega)) (i64_lit _ (by omega)) (by unfold maxLen;decide)
structure RenI (p:Nat→Prop) (σ:Tm Unit→Tm Unit) (G:Nat) (t:LT) (w3:World) (j:Nat) (us:List LT) (W:World):Prop where
 len:us.length=t.args.length
 bares:(us.take j).map Tm.bare=(t.args.take j).map fun x=>σ x.bare
 row:Row W 41 4 (.slice (some ⟨G,0,none⟩) t.args.length t.args.length) t.args.length (us.flatMap LT.cells)
 ins:LT.Ins (fun k=>p k∨G+1≤k) W us
 turned:Turned (fun k=>k=G) w3 W
theorem RenI.put {p:Nat→Prop} {σ:Tm Unit→Tm Unit} {G:Nat} {t x u:LT} {w3 W W7:World} {j:Nat} {us:List LT} (h:RenI p σ G t w3 j us W) (hp:∀ k,p k→k < G) (hG:G < W.heap.size) (hx:t.args[j]? = some x) (hb:u.bare=σ x.bare) (hu:u.In (fun k=>p k∨W.heap.size≤k) W7) (hT:Turned zN W W7) :
 RenI p σ G t w3 (j+1) (us.set j u) ((((W7.setCell ⟨G,j * 4,none⟩ (.int .i64 u.kind)).setCell ⟨G,j * 4+1,none⟩ (.int .i64 u.n)).setCell ⟨G,j * 4+2,none⟩ (.string u.name)).setCell ⟨G,j * 4+3,none⟩ (.slice u.at_.1 u.args.length u.at_.2)):=by
 have hjl:j < t.args.length:=(Qg.1 hx).1
 have hju:j < us.length:=by rw [h.len];exact hjl
 have Tq:Turned (fun k=>k=G) W7 ((((W7.setCell ⟨G,j * 4,none⟩ (.int .i64 u.kind)).setCell ⟨G,j * 4+1,none⟩ (.int .i64 u.n)).setCell ⟨G,j * 4+2,none⟩ (.string u.name)).setCell ⟨G,j * 4+3,none⟩ (.slice u.at_.1 u.args.length u.at_.2)):=
  ((((Turned.refl (fun k=>k=G) W7).setCell (p:=⟨G,j * 4,none⟩) (.inr rfl) _).setCell (p:=⟨G,j * 4+1,none⟩) (.inr rfl) _).setCell (p:=⟨G,j * 4+2,none⟩) (.inr rfl) _).setCell (p:=⟨G,j * 4+3,none⟩) (.inr rfl) _
 refine ⟨by rw [List.length_set];exact h.len,?_,?_,?_,(h.turned.trans (hT.mono (fun _ _ f=>f.elim))).trans Tq⟩
 · have e1:(us.set j u).take (j+1)=us.take j++[u]:=by
    rw [List.take_add_one,List.take_set,List.getElem?_set_self hju];rw [List.set_eq_of_length_le (by rw [List.length_take];omega)];rfl
   have e2:t.args.take (j+1)=t.args.take j++[x]:=by rw [List.take_add_one,hx];rfl
   rw [e1,e2,List.map_append,List.map_append,h.bares];simp [hb]
 · have hr:=h.row.turned0 hT
   have r1:=hr.setAt (off:=j * 4) (by omega) (.int .i64 u.kind);have r2:=r1.setAt (off:=j * 4+1) (by omega) (.int .i64 u.n);have r3:=r2.setAt (off:=j * 4+2) (by omega) (.string u.name);have r4:=r3.setAt (off:=j * 4+3) (by omega) (.slice u.at_.1 u.args.length u.at_.2);rw [flat_set hju] at r4;exact r4
 · rw [LT.ins_iff]
   intro y hy
   have keep:∀ z:LT,z.In (fun k=>p k∨G+1≤k) W7→z.In (fun k=>p k∨G+1≤k) _:=fun z hz=>LT.In.turned Tq (fun k _ hk e=>by
    rcases hk with hk | hk
    · have:=hp k hk;omega
    · omega) (fun _ _ hk=>hk) z hz
   refine keep y ?_
   rcases List.mem_or_eq_of_mem_set hy with hy | rfl
   · exact ((LT.ins_iff _).1 h.ins y hy).turned0 hT
   · exact hu.mono (fun k _ hk=>hk.elim .inl (fun hk=>.inr (by omega)))
theorem row_some {w:World} {e:TypeId} {size n g cap:Nat} {xs:List Value} (h:Row w e size (.slice (some ⟨g,0,none⟩) n cap) n xs) (k:Nat) (hk:k < n * size):∃ z,w.cell? ⟨g,k,none⟩=some z:=
 ⟨_,h.cells rfl k _ (Qa (by rw [h.1];exact hk))⟩
theorem made_blanksT (n:Nat):(madeCells zeroT.cells (n * 4)).toList=(blanks n).flatMap LT.cells:=made_blanks n
theorem make_blanksT (n:Nat) (hn:n≤1000) (W:World):(Instr.makeSlice 22 (.int .i64 n) (.int .i64 n)).run Try.prog W = .ok (.slice (some ⟨W.heap.size,0,none⟩) n n) (W.alloc (.cells (madeCells zeroT.cells (n * 4)) 27))∧
 Row (W.alloc (.cells (madeCells zeroT.cells (n * 4)) 27)) 27 4 (.slice (some ⟨W.heap.size,0,none⟩) n n) n ((blanks n).flatMap LT.cells):=by
 obtain ⟨i0,hi0,hz0,hz1,hz2⟩:=info_parts infoT;refine ⟨?_,?_⟩
 · have h:=run_make (P:=Try.prog) W 22 27 i0 zeroT Try.underlying22 hi0 hz0 .i64 .i64 n n (by omega) (Int.le_refl _) (by rw [hz2];omega) (by omega)
   rw [hz1] at h;simpa using h
 · have h:=Row.made W 27 4 (madeCells zeroT.cells (n * 4)) n (size_madeCells _ _) (by unfold maxLen;omega)
   rw [made_blanksT] at h;exact h
structure MakI (p:Nat→Prop) (σ:Tm Unit→Tm Unit) (G K:Nat) (t:LT) (w3:World) (j:Nat) (us:List LT) (W:World):Prop where
 len:us.length=t.args.length
 bares:(us.take j).map Tm.bare=(t.args.take j).map fun x=>σ x.bare
 row:Row W 27 4 (.slice (some ⟨G,0,none⟩) t.args.length t.args.length) t.args.length (us.flatMap LT.cells)
 ins:LT.Ins (fun k=>p k∨G+1≤k) W us
 turned:Turned (fun k=>k=G∨k=K) w3 W
theorem MakI.put {p:Nat→Prop} {σ:Tm Unit→Tm Unit} {G K:Nat} {t x u:LT} {w3 W W7:World} {j:Nat} {us:List LT} (h:MakI p σ G K t w3 j us W) (hp:∀ k,p k→k < G∧k≠K) (hKG:K < G) (hG:G < W.heap.size) (hx:t.args[j]? = some x) (hb:u.bare=σ x.bare) (hu:u.In (fun k=>p k∨W.heap.size≤k) W7) (hT:Turned (fun k=>k=K) W W7) :
 MakI p σ G K t w3 (j+1) (us.set j u) ((((W7.setCell ⟨G,j * 4,none⟩ (.int .i64 u.kind)).setCell ⟨G,j * 4+1,none⟩ (.int .i64 u.n)).setCell ⟨G,j * 4+2,none⟩ (.string u.name)).setCell ⟨G,j * 4+3,none⟩ (.slice u.at_.1 u.args.length u.at_.2)):=by
 have hjl:j < t.args.length:=(Qg.1 hx).1
 have hju:j < us.length:=by rw [h.len];exact hjl
 have Tq:Turned (fun k=>k=G) W7 ((((W7.setCell ⟨G,j * 4,none⟩ (.int .i64 u.kind)).setCell ⟨G,j * 4+1,none⟩ (.int .i64 u.n)).setCell ⟨G,j * 4+2,none⟩ (.string u.name)).setCell ⟨G,j * 4+3,none⟩ (.slice u.at_.1 u.args.length u.at_.2)):=
  ((((Turned.refl (fun k=>k=G) W7).setCell (p:=⟨G,j * 4,none⟩) (.inr rfl) _).setCell (p:=⟨G,j * 4+1,none⟩) (.inr rfl) _).setCell (p:=⟨G,j * 4+2,none⟩) (.inr rfl) _).setCell (p:=⟨G,j * 4+3,none⟩) (.inr rfl) _
 refine ⟨by rw [List.length_set];exact h.len,?_,?_,?_,(h.turned.trans (hT.mono (fun _ _ e=>.inr e))).trans (Tq.mono (fun _ _ e=>.inl e))⟩
 · have e1:(us.set j u).take (j+1)=us.take j++[u]:=by
    rw [List.take_add_one,List.take_set,List.getElem?_set_self hju];rw [List.set_eq_of_length_le (by rw [List.length_take];omega)];rfl
   have e2:t.args.take (j+1)=t.args.take j++[x]:=by rw [List.take_add_one,hx];rfl
   rw [e1,e2,List.map_append,List.map_append,h.bares];simp [hb]
 · have hr:=h.row.turned hT (fun k hk e=>by simp [Value.ownBlock] at hk;omega)
   have r1:=hr.setAt (off:=j * 4) (by omega) (.int .i64 u.kind);have r2:=r1.setAt (off:=j * 4+1) (by omega) (.int .i64 u.n);have r3:=r2.setAt (off:=j * 4+2) (by omega) (.string u.name);have r4:=r3.setAt (off:=j * 4+3) (by omega) (.slice u.at_.1 u.args.length u.at_.2);rw [flat_set hju] at r4;exact r4
 · rw [LT.ins_iff]
   intro y hy
   have keep:∀ z:LT,z.In (fun k=>p k∨G+1≤k) W7→z.In (fun k=>p k∨G+1≤k) _:=fun z hz=>LT.In.turned Tq (fun k _ hk e=>by
    rcases hk with hk | hk
    · have:=hp k hk;omega
    · omega) (fun _ _ hk=>hk) z hz
   refine keep y ?_
   rcases List.mem_or_eq_of_mem_set hy with hy | rfl
   · exact LT.In.turned hT (fun k _ hk e=>by
      rcases hk with hk | hk
      · exact (hp k hk).2 e
      · omega) (fun _ _ hk=>hk) y ((LT.ins_iff _).1 h.ins y hy)
   · exact hu.mono (fun k _ hk=>hk.elim .inl (fun hk=>.inr (by omega)))
def apart (p:Nat→Prop) (bb sb:Nat) (lv tv:Value) (l:TL) (K:Nat):Prop:=¬ ownK bb sb lv tv K∧(∀ b∈l,K≠b.2.1)∧¬ p K
def MakeQ (p:Nat→Prop) (bb K:Nat) (l:TL) (t:LT) (s d:Nat) (w:World) (e:Ending) (w':World):Prop:=
 ∃ u:LT,e = .returned (.tuple #[u.val,.bool (Tm.makeOk s d (Tm.img (bt l) t.bare))])∧u.In (fun k=>p k∨w.heap.size≤k) w'∧(Tm.makeOk s d (Tm.img (bt l) t.bare)=true→u.bare=Tm.img (bt l) t.bare)∧
  (∃ s':Int,w'.heap[K]? = some (.cells #[.pointer (some ⟨bb,0,none⟩),.int .i64 s'] 170 (0,0))∧(Tm.makeOk s d (Tm.img (bt l) t.bare)=true→s'=((s+(Tm.img (bt l) t.bare).size:Nat):Int)))∧Turned (fun k=>k=K) w w'
structure MkR (w0:World) (x:LT) (n:Nat) (hs:Hist) (W:World):Prop where
 t:Turned zN w0 W
 row:∀ v,(7,v)∈hs→∃ G,v = .slice (some ⟨G,0,none⟩) n n∧w0.heap.size≤G∧Row W 27 4 v n ((blanks n).flatMap LT.cells)
 agg:∀ v,(8,v)∈hs→∃ s,(7,s)∈hs∧v = .agg #[.int .i64 x.kind,.int .i64 0,.string x.name,s]
 box:∀ v,(9,v)∈hs→∃ B c0 c1 c2 c3,v=ptr B∧w0.heap.size≤B∧W.heap[B]? = some (.cells #[c0,c1,c2,c3] 27 (0,0))∧(∀ s,(7,s)∈hs→s.ownBlock≠some B)∧∀ q,(10,q)∈hs→(8,.agg #[c0,c1,c2,c3])∈hs
 uq:∀ v v',(9,v)∈hs→(9,v')∈hs→v=v'
section
variable {w0 W W':World} {x:LT} {n:Nat} {hs:Hist}
theorem MkR.start (h:Turned zN w0 W):MkR w0 x n [] W:=⟨h,fun v h=>(Ql h).elim,fun v h=>(Ql h).elim,fun v h=>(Ql h).elim,fun v v' h=>(Ql h).elim⟩
theorem MkR.turned0 (h:MkR w0 x n hs W) (T:Turned zN W W'):MkR w0 x n hs W':=by
 refine ⟨h.t.trans T,fun v hv=>?_,h.agg,fun v hv=>?_,h.uq⟩
 · obtain ⟨G,h1,h2,h3⟩:=h.row v hv
   exact ⟨G,h1,h2,h3.turned0 T⟩
 · obtain ⟨B,c0,c1,c2,c3,h1,h2,h3,h4⟩:=h.box v hv
   exact ⟨B,c0,c1,c2,c3,h1,h2,(T.block B (zL h3) (fun f=>f)).trans h3,h4⟩
theorem MkR.made {ZZ:Array Value} (h:MkR w0 x n hs W) (hno:∀ v,(7,v)∉hs) (hr:Row (W.alloc (.cells ZZ 27)) 27 4 (.slice (some ⟨W.heap.size,0,none⟩) n n) n ((blanks n).flatMap LT.cells)) :
 MkR w0 x n (hs++[(7,.slice (some ⟨W.heap.size,0,none⟩) n n)]) (W.alloc (.cells ZZ 27)):=by
 have T:Turned zN W (W.alloc (.cells ZZ 27)):=(Turned.refl _ W).alloc _;refine ⟨h.t.trans T,fun v hv=>?_,fun v hv=>?_,fun v hv=>?_,fun v v' hv hv'=>?_⟩
 · rcases mem_snoc hv with hm | ⟨_,e⟩
   · exact absurd hm (hno v)
   · rw [e];exact ⟨_,rfl,h.t.size,hr⟩
 · rcases mem_snoc hv with hm | ⟨e,_⟩
   · obtain ⟨s,h1,h2⟩:=h.agg v hm
     exact ⟨s,Qc _ h1,h2⟩
   · omega
 · rcases mem_snoc hv with hm | ⟨e,_⟩
   · obtain ⟨B,c0,c1,c2,c3,h1,h2,h3,h4,h5⟩:=h.box v hm
     have hl:=(zL h3);refine ⟨B,c0,c1,c2,c3,h1,h2,(T.block B hl (fun f=>f)).trans h3,fun s hs=>?_,fun q hq=>?_⟩
     · rcases mem_snoc hs with hm | ⟨_,e⟩
       · exact absurd hm (hno s)
       · rw [e];intro e2;simp [Value.ownBlock] at e2;omega
     · rcases mem_snoc hq with hq | ⟨e,_⟩
       · exact Qc _ (h5 q hq)
       · omega
   · omega
 · rcases mem_snoc hv with hm | ⟨e,_⟩
   · rcases mem_snoc hv' with hm' | ⟨e,_⟩
     · exact h.uq v v' hm hm'
     · omega
   · omega
theorem MkR.built {s:Value} (h:MkR w0 x n hs W) (hs7:(7,s)∈hs):MkR w0 x n (hs++[(8,.agg #[.int .i64 x.kind,.int .i64 0,.string x.name,s])]) W:=by
 have ne:∀ {j:Nat} {v:Value},j≠8→(j,v)∈hs++[(8,Value.agg #[.int .i64 x.kind,.int .i64 0,.string x.name,s])]→(j,v)∈hs:=fun hj hm=>by
  rcases mem_snoc hm with hm | ⟨e,_⟩
  · exact hm
  · exact absurd e hj
 refine ⟨h.t,fun v hv=>h.row v (ne (by decide) hv),fun v hv=>?_,fun v hv=>?_,fun v v' hv hv'=>h.uq v v' (ne (by decide) hv) (ne (by decide) hv')⟩
 · rcases mem_snoc hv with hm | ⟨_,e⟩
   · obtain ⟨s,h1,h2⟩:=h.agg v hm
     exact ⟨s,Qc _ h1,h2⟩
   · exact ⟨s,Qc _ hs7,e⟩
 · obtain ⟨B,c0,c1,c2,c3,h1,h2,h3,h4,h5⟩:=h.box v (ne (by decide) hv)
   exact ⟨B,c0,c1,c2,c3,h1,h2,h3,fun s hs=>h4 s (ne (by decide) hs),fun q hq=>Qc _ (h5 q (ne (by decide) hq))⟩
theorem MkR.laid {c0 c1 c2 c3:Value} (h:MkR w0 x n hs W) (hno:∀ v,(9,v)∉hs) (hst:∀ q,(10,q)∉hs):MkR w0 x n (hs++[(9,ptr W.heap.size)]) (W.alloc (.cells #[c0,c1,c2,c3] 27)):=by
 have T:Turned zN W (W.alloc (.cells #[c0,c1,c2,c3] 27)):=(Turned.refl _ W).alloc _
 have ne:∀ {j:Nat} {v:Value},j≠9→(j,v)∈hs++[(9,ptr W.heap.size)]→(j,v)∈hs:=fun hj hm=>by
  rcases mem_snoc hm with hm | ⟨e,_⟩
  · exact hm
  · exact absurd e hj
 have last:∀ {v:Value},(9,v)∈hs++[(9,ptr W.heap.size)]→v=ptr W.heap.size:=fun hm=>by
  rcases mem_snoc hm with hm | ⟨_,e⟩
  · exact absurd hm (hno _)
  · exact e
 refine ⟨h.t.trans T,fun v hv=>?_,fun v hv=>?_,fun v hv=>?_,fun v v' hv hv'=>by rw [last hv,last hv']⟩
 · obtain ⟨G,h1,h2,h3⟩:=h.row v (ne (by decide) hv)
   exact ⟨G,h1,h2,h3.turned0 T⟩
 · obtain ⟨s,h1,h2⟩:=h.agg v (ne (by decide) hv)
   exact ⟨s,Qc _ h1,h2⟩
 · refine ⟨W.heap.size,c0,c1,c2,c3,last hv,h.t.size,heap_alloc_new W _,fun s hs=>?_,fun q hq=>absurd (ne (by decide) hq) (hst q)⟩
   obtain ⟨G,h1,_,h3⟩:=h.row s (ne (by decide) hs);intro e;have:=h3.lt _ e;omega
theorem MkR.cell {v:Value} (h:MkR w0 x n hs W) (h9:(9,v)∈hs):∃ B c0 c1 c2 c3,v = .pointer (some ⟨B,0,none⟩)∧W.heap[B]? = some (.cells #[c0,c1,c2,c3] 27 (0,0)):=by
 obtain ⟨B,c0,c1,c2,c3,h1,h2,h3,_⟩:=h.box v h9;exact ⟨B,c0,c1,c2,c3,h1,h3⟩
theorem MkR.stored {B:Nat} {s q:Value} (h:MkR w0 x n hs W) (h9:(9,ptr B)∈hs) (h8:(8,.agg #[.int .i64 x.kind,.int .i64 0,.string x.name,s])∈hs) :
 MkR w0 x n (hs++[(10,q)]) ((((W.setCell ⟨B,0,none⟩ (.int .i64 x.kind)).setCell ⟨B,1,none⟩ (.int .i64 0)).setCell ⟨B,2,none⟩ (.string x.name)).setCell ⟨B,3,none⟩ s):=by
 obtain ⟨B',c0,c1,c2,c3,h1,h2,h3,h4,h5⟩:=h.box _ h9;obtain rfl:=ptr_inj h1;have hset:=set4 (a':=.int .i64 x.kind) (b':=.int .i64 0) (c':=.string x.name) (d':=s) h3;have T:=turned_store4 W B (.int .i64 x.kind) (.int .i64 0) (.string x.name) s
 have ne:∀ {j:Nat} {v:Value},j≠10→(j,v)∈hs++[(10,q)]→(j,v)∈hs:=fun hj hm=>by
  rcases mem_snoc hm with hm | ⟨e,_⟩
  · exact hm
  · exact absurd e hj
 refine ⟨h.t.step T (fun i hi e=>by omega),fun v hv=>?_,fun v hv=>?_,fun v hv=>?_,fun v v' hv hv'=>h.uq v v' (ne (by decide) hv) (ne (by decide) hv')⟩
 · obtain ⟨G,g1,g2,g3⟩:=h.row v (ne (by decide) hv)
   exact ⟨G,g1,g2,g3.turned T (fun k hk e=>h4 v (ne (by decide) hv) (by rw [hk,e]))⟩
 · obtain ⟨s,h1,h2⟩:=h.agg v (ne (by decide) hv)
   exact ⟨s,Qc _ h1,h2⟩
 · rw [h.uq _ _ (ne (by decide) hv) h9]
   exact ⟨B,_,_,_,_,rfl,h2,hset,fun s hs=>h4 s (ne (by decide) hs),fun q hq=>Qc _ h8⟩
theorem MkR.done {v:Value} (h:MkR w0 x n hs W) (hall:∀ i∈[7,8,9,10],∃ v,(i,v)∈hs) (h9:(9,v)∈hs) (uniq:∀ i v v',(i,v)∈hs→(i,v')∈hs→v=v') :
 ∃ G B,v = .pointer (some ⟨B,0,none⟩)∧G≠B∧w0.heap.size≤G∧w0.heap.size≤B∧W.heap[B]? = some (.cells #[.int .i64 x.kind,.int .i64 0,.string x.name,.slice (some ⟨G,0,none⟩) n n] 27 (0,0))∧Row W 27 4 (.slice (some ⟨G,0,none⟩) n n) n ((blanks n).flatMap LT.cells)∧Turned zN w0 W:=by
 obtain ⟨B,c0,c1,c2,c3,h1,h2,h3,h4,h5⟩:=h.box _ h9;obtain ⟨q,hq⟩:=hall 10 (by simp);obtain ⟨s,s1,s2⟩:=h.agg _ (h5 q hq);obtain ⟨G,g1,g2,g3⟩:=h.row s s1;have hne:=h4 s s1
 injection s2 with s2
 rw [s2,g1] at h3;rw [g1] at hne g3;refine ⟨G,B,h1,fun e=>hne (by rw [e];rfl),g2,h2,h3,g3,h.t⟩
end
end Go.Proofs.Ytoihjobdfjajfaa
namespace Go.Proofs.Ytoihjobdfjajfaa
open Lib (hid)
open Go.RowKit Go.Maps
theorem afterWalk {w3:World} {N K bb:Nat} {s:Value} {a0 b0 c0 d0 z0 z1 z2 z3:Value} (hN:w3.heap[N]? = some (.cells #[a0,b0,c0,d0] 27 (0,0))) (hK:w3.heap[K]? = some (.cells #[.pointer (some ⟨bb,0,none⟩),s] 170 (0,0))) (h1:w3.heap[N+1]? = some (.cells #[z0,z1,z2,z3] 27 (0,0))) (hne:K < N) (a b c d v:Value) :
 (((((w3.setCell ⟨N,0,none⟩ a).setCell ⟨N,1,none⟩ b).setCell ⟨N,2,none⟩ c).setCell ⟨N,3,none⟩ d).setCell ⟨K,1,none⟩ v).heap[N]? = some (.cells #[a,b,c,d] 27 (0,0))∧
 (((((w3.setCell ⟨N,0,none⟩ a).setCell ⟨N,1,none⟩ b).setCell ⟨N,2,none⟩ c).setCell ⟨N,3,none⟩ d).setCell ⟨K,1,none⟩ v).heap[K]? = some (.cells #[.pointer (some ⟨bb,0,none⟩),v] 170 (0,0))∧
 (((((w3.setCell ⟨N,0,none⟩ a).setCell ⟨N,1,none⟩ b).setCell ⟨N,2,none⟩ c).setCell ⟨N,3,none⟩ d).setCell ⟨K,1,none⟩ v).heap[N+1]? = some (.cells #[z0,z1,z2,z3] 27 (0,0))∧
 Turned (fun k=>k=N∨k=K) w3 (((((w3.setCell ⟨N,0,none⟩ a).setCell ⟨N,1,none⟩ b).setCell ⟨N,2,none⟩ c).setCell ⟨N,3,none⟩ d).setCell ⟨K,1,none⟩ v):=by
 have T1:=turned_store4 w3 N a b c d;have hs:=set4 (a':=a) (b':=b) (c':=c) (d':=d) hN;have hk:=(T1.block K (zL hK) (by omega)).trans hK;have h1':=(T1.block (N+1) (zL h1) (by omega)).trans h1;revert T1 hs hk h1';generalize (((w3.setCell ⟨N,0,none⟩ a).setCell ⟨N,1,none⟩ b).setCell ⟨N,2,none⟩ c).setCell ⟨N,3,none⟩ d=W;intro T1 hs hk h1';have T2:Turned (fun k=>k=K) W (W.setCell ⟨K,1,none⟩ v):=(Turned.refl (fun k=>k=K) W).setCell (p:=⟨K,1,none⟩) (.inr rfl) v;refine ⟨(T2.block N (zL hs) (by omega)).trans hs,rec2_set1 hk v,(T2.block (N+1) (zL h1') (by omega)).trans h1',(T1.mono (fun _ _ e=>.inl e)).trans (T2.mono (fun _ _ e=>.inr e))⟩
theorem MakeQ.no {p:Nat→Prop} {bb K:Nat} {l:TL} {t:LT} {s d:Nat} {s':Int} {w w':World} (hno:Tm.makeOk s d (Tm.img (bt l) t.bare)=false) (hK:w'.heap[K]? = some (.cells #[.pointer (some ⟨bb,0,none⟩),.int .i64 s'] 170 (0,0))) (T:Turned (fun k=>k=K) w w') :
 MakeQ p bb K l t s d w (.returned (.tuple #[.agg #[.int .i64 0,.int .i64 0,.string ⟨#[]⟩,.slice none 0 0],.bool false])) w':=
 ⟨leaf 0 0 ByteArray.empty,by rw [hno];rfl,leafIn' (i64_lit _ (by omega)) (i64_lit _ (by omega)) (by unfold maxLen;decide),fun c=>by (rw [hno] at c;cases c),⟨s',hK,fun c=>by (rw [hno] at c;cases c)⟩,T⟩
theorem MakeQ.yes {p:Nat→Prop} {bb K:Nat} {l:TL} {t u:LT} {s d:Nat} {s':Int} {w w':World} (hok:Tm.makeOk s d (Tm.img (bt l) t.bare)=true) (hb:u.bare=Tm.img (bt l) t.bare) (hu:u.In (fun k=>p k∨w.heap.size≤k) w') (hK:w'.heap[K]? = some (.cells #[.pointer (some ⟨bb,0,none⟩),.int .i64 s'] 170 (0,0))) (hs:s'=((s+(Tm.img (bt l) t.bare).size:Nat):Int)) (T:Turned (fun k=>k=K) w w') :
 MakeQ p bb K l t s d w (.returned (.tuple #[.agg #[.int .i64 u.kind,.int .i64 u.n,.string u.name,.slice u.at_.1 u.args.length u.at_.2],.bool true])) w':=
 ⟨u,by rw [hok,LT.val_eq],hu,fun _=>hb,⟨s',hK,fun _=>hs⟩,T⟩
theorem leaf_make {m s d:Nat} {l:Tm.Trail} {t X:Tm Unit} (hl:Tm.okT m l) (h:Tm.Walked m l t X) (ha:X.args.length=0) (hs:s+1≤2000) (hd:d≤64):Tm.img l t=X∧Tm.makeOk s d (Tm.img l t)=true∧(Tm.img l t).size=1:=by
 have ha':=Qh ha;have hx:=h.flat hl ha'
 have h1:X.size=1:=by rw [Tm.size_eq,ha'];rfl
 have h2:X.depth=1:=by rw [Tm.depth_eq,ha'];rfl
 exact ⟨hx,by rw [hx,Tm.makeOk_iff];omega,by rw [hx,h1]⟩
theorem make_in {p q:Nat→Prop} {w3 w W W':World} {K:Nat} {x:LT} (hp:∀ k,p k→k < w.heap.size∧k≠K) (A:Turned (fun k=>k=w.heap.size∨k=K) w3 W) (Tq:Turned (fun k=>k=w.heap.size+1) W W') (h:x.In p w3) (hq:∀ k,p k→q k):x.In q W':=
 LT.In.turned Tq (fun k _ hk e=>by have:=(hp k hk).1;omega) (fun k _ hk=>hq k hk) x (LT.In.turned A (fun k _ hk e=>by have:=hp k hk;omega) (fun _ _ hk=>hk) x h)
structure MadeW (p:Nat→Prop) (bb sb m:Nat) (lv tv:Value) (l:TL) (K:Nat) (x:LT) (s:Int) (w W:World):Prop where
 n0:W.heap[w.heap.size]? = some (.cells #[.int .i64 x.kind,.int .i64 x.n,.string x.name,.slice x.at_.1 x.args.length x.at_.2] 27 (0,0))
 n1:W.heap[w.heap.size+1]? = some (.cells #[.int .i64 0,.int .i64 0,.string ⟨#[]⟩,.slice none 0 0] 27 (0,0))
 k:W.heap[K]? = some (.cells #[.pointer (some ⟨bb,0,none⟩),.int .i64 s] 170 (0,0))
 inn:x.In p W
 bi:BI p bb sb lv tv m l W
 turned:Turned (fun k=>k=K) w W
theorem MadeW.mk' {p:Nat→Prop} {bb sb m:Nat} {lv tv:Value} {l:TL} {K:Nat} {x:LT} {s:Int} {w w2 w3 W:World} (h:BI p bb sb lv tv m l w) (hap:apart p bb sb lv tv l K) (A:W.heap[w.heap.size]? = some (.cells #[.int .i64 x.kind,.int .i64 x.n,.string x.name,.slice x.at_.1 x.args.length x.at_.2] 27 (0,0))∧W.heap[K]? = some (.cells #[.pointer (some ⟨bb,0,none⟩),.int .i64 s] 170 (0,0))∧W.heap[w.heap.size+1]? = some (.cells #[.int .i64 0,.int .i64 0,.string ⟨#[]⟩,.slice none 0 0] 27 (0,0))∧Turned (fun k=>k=w.heap.size∨k=K) w3 W)
 (T2:Turned zN w w2) (S3:Turned zN w2 w3) (hx:x.In p w3):MadeW p bb sb m lv tv l K x s w W:=by
 have T:Turned (fun k=>k=K) w W:=((T2.trans S3).mono (fun _ _ f=>f.elim)).step A.2.2.2 (fun i hi e=>e.elim (fun c=>by omega) (fun c=>c));exact ⟨A.1,A.2.2.1,A.2.1,LT.In.turned A.2.2.2 (fun k _ hk e=>e.elim (fun c=>by have:=(h.sep k hk).1;omega) (fun c=>hap.2.2 (c ▸ hk))) (fun _ _ hk=>hk) x hx,h.turned T (fun k hk e=>by rw [show k=K from e];exact hap),T⟩
theorem MadeW.on {p:Nat→Prop} {bb sb m:Nat} {lv tv:Value} {l:TL} {K:Nat} {x:LT} {s:Int} {w W W':World} (h:MadeW p bb sb m lv tv l K x s w W) (T:Turned zN W W'):MadeW p bb sb m lv tv l K x s w W':=
 ⟨(T.bt h.n0),(T.bt h.n1),(T.bt h.k),h.inn.turned0 T,h.bi.turned0 T,h.turned.trans (T.mono (fun _ _ f=>f.elim))⟩
theorem make_turned {w w2 w3 W W':World} {K:Nat} (T2:Turned zN w w2) (S3:Turned zN w2 w3) (A:Turned (fun k=>k=w.heap.size∨k=K) w3 W) (Tq:Turned (fun k=>k=w.heap.size+1) W W'):Turned (fun k=>k=K) w W':=
 ((((T2.trans S3).mono (fun _ _ f=>f.elim)).step A (fun i hi e=>e.elim (fun c=>by omega) (fun c=>c))).step Tq (fun i hi e=>by omega))
def CallQ (p:Nat→Prop) (bb K:Nat) (ok:Bool) (y:Tm Unit) (sj:Nat) (wx:World) (u:LT) (W:World):Prop:=
 u.In (fun k=>p k∨wx.heap.size≤k) W∧(ok=true→u.bare=y)∧(∃ s':Int,W.heap[K]? = some (.cells #[.pointer (some ⟨bb,0,none⟩),.int .i64 s'] 170 (0,0))∧(ok=true→s'=((sj+y.size:Nat):Int)))∧Turned (fun k=>k=K) wx W
def RowQ (p:Nat→Prop) (σ:Tm Unit→Tm Unit) (bb K G:Nat) (ok:Bool) (y:Tm Unit) (sj:Nat) (x:LT) (j:Nat) (W5 wx W:World):Prop:=
 (∃ s':Int,W.heap[K]? = some (.cells #[.pointer (some ⟨bb,0,none⟩),.int .i64 s'] 170 (0,0))∧(ok=true→s'=((sj+y.size:Nat):Int)))∧Turned (fun k=>k=K∨k=G) wx W∧(ok=true→∃ us,MakI p σ G K x W5 (j+1) us W)
def MrS (p:Nat→Prop) (σ:Tm Unit→Tm Unit) (bb K G:Nat) (ok:Bool) (y:Tm Unit) (sj:Nat) (x:LT) (j:Nat) (W5 wx:World):List Value→World→Prop
 | [],W=>Turned zN wx W
 | [a],W=>∃ u:LT,a = .tuple #[.agg #[.int .i64 u.kind,.int .i64 u.n,.string u.name,.slice u.at_.1 u.args.length u.at_.2],.bool ok]∧CallQ p bb K ok y sj wx u W
 | [_,b],W=>∃ u:LT,b = .tuple #[.agg #[.int .i64 u.kind,.int .i64 u.n,.string u.name,.slice u.at_.1 u.args.length u.at_.2],.bool ok]∧CallQ p bb K ok y sj wx u W
 | [_,b,c],W=>∃ u:LT,b = .tuple #[.agg #[.int .i64 u.kind,.int .i64 u.n,.string u.name,.slice u.at_.1 u.args.length u.at_.2],.bool ok]∧c = .agg #[.int .i64 u.kind,.int .i64 u.n,.string u.name,.slice u.at_.1 u.args.length u.at_.2]∧CallQ p bb K ok y sj wx u W
 | [_,b,_,_],W=>(∃ u:LT,b = .tuple #[.agg #[.int .i64 u.kind,.int .i64 u.n,.string u.name,.slice u.at_.1 u.args.length u.at_.2],.bool ok])∧RowQ p σ bb K G ok y sj x j W5 wx W
 | _,_=>False
section
variable {p:Nat→Prop} {σ:Tm Unit→Tm Unit} {bb K G:Nat} {ok:Bool} {y:Tm Unit} {sj:Nat} {x:LT} {j:Nat} {W5 wx W W':World} {u:LT}
theorem CallQ.turned0 (h:CallQ p bb K ok y sj wx u W) (T:Turned zN W W'):CallQ p bb K ok y sj wx u W':=by
 obtain ⟨h1,h2,⟨s',h3,h4⟩,h5⟩:=h;exact ⟨h1.turned0 T,h2,⟨s',(T.bt h3),h4⟩,h5.trans (T.mono (fun _ _ f=>f.elim))⟩
theorem MakI.on {t:LT} {w3:World} {us:List LT} (h:MakI p σ G K t w3 j us W) (T:Turned zN W W'):MakI p σ G K t w3 j us W':=
 ⟨h.len,h.bares,h.row.turned0 T,h.ins.turned0 T,h.turned.trans (T.mono (fun _ _ f=>f.elim))⟩
theorem RowQ.turned0 (h:RowQ p σ bb K G ok y sj x j W5 wx W) (T:Turned zN W W'):RowQ p σ bb K G ok y sj x j W5 wx W':=by
 obtain ⟨⟨s',h3,h4⟩,h5,h6⟩:=h;refine ⟨⟨s',(T.bt h3),h4⟩,h5.trans (T.mono (fun _ _ f=>f.elim)),fun e=>?_⟩;obtain ⟨us,h⟩:=h6 e;exact ⟨us,h.on T⟩
theorem MrS.turned0:∀ (hs:List Value) (w w':World),MrS p σ bb K G ok y sj x j W5 wx hs w→Turned zN w w'→MrS p σ bb K G ok y sj x j W5 wx hs w'
 | [],_,_,h,T=>Turned.trans h T
 | [_],_,_,h,T=>by obtain ⟨u,h1,h2⟩:=h;exact ⟨u,h1,h2.turned0 T⟩
 | [_,_],_,_,h,T=>by obtain ⟨u,h1,h2⟩:=h;exact ⟨u,h1,h2.turned0 T⟩
 | [_,_,_],_,_,h,T=>by obtain ⟨u,h1,h2,h3⟩:=h;exact ⟨u,h1,h2,h3.turned0 T⟩
 | [_,_,_,_],_,_,h,T=>⟨h.1,h.2.turned0 T⟩
 | _ :: _ :: _ :: _ :: _ :: _,_,_,h,_=>h.elim
theorem MrS.turned:∀ (hs:List Value) (W:World),MrS p σ bb K G ok y sj x j W5 wx hs W→Turned (fun k=>k=K∨k=G) wx W
 | [],_,h=>Turned.mono h (fun _ _ f=>f.elim)
 | [_],_,h=>by obtain ⟨u,h1,h2⟩:=h;exact h2.2.2.2.mono (fun _ _ e=>.inl e)
 | [_,_],_,h=>by obtain ⟨u,h1,h2⟩:=h;exact h2.2.2.2.mono (fun _ _ e=>.inl e)
 | [_,_,_],_,h=>by obtain ⟨u,h1,h2,h3⟩:=h;exact h3.2.2.2.mono (fun _ _ e=>.inl e)
 | [_,_,_,_],_,h=>h.2.2.1
 | _ :: _ :: _ :: _ :: _ :: _,_,h=>h.elim
theorem MrS.tup:∀ (hs:List Value) (W:World) (b:Value),MrS p σ bb K G ok y sj x j W5 wx hs W→hs[1]? = some b→∃ u:LT,b = .tuple #[.agg #[.int .i64 u.kind,.int .i64 u.n,.string u.name,.slice u.at_.1 u.args.length u.at_.2],.bool ok]
 | [],_,_,_,e=>by simp at e
 | [_],_,_,_,e=>by simp at e
 | [_,_],_,_,h,e=>by simp at e;subst e;obtain ⟨u,h1,_⟩:=h;exact ⟨u,h1⟩
 | [_,_,_],_,_,h,e=>by simp at e;subst e;obtain ⟨u,h1,_⟩:=h;exact ⟨u,h1⟩
 | [_,_,_,_],_,_,h,e=>by simp at e;subst e;exact h.1
 | _ :: _ :: _ :: _ :: _ :: _,_,_,h,_=>h.elim
theorem mr_store {w3 wr:World} {us:List LT} {xj:LT} (h:MakI p σ G K x W5 j us wr) (TX:Turned zN wr wx) (hp:∀ k,p k→k < G∧k≠K) (hKG:K < G) (hG:G < wr.heap.size) (hx:x.args[j]? = some xj) (hy:σ xj.bare=y) (hC:CallQ p bb K ok y sj wx u W) :
 RowQ p σ bb K G ok y sj x j W5 wx ((((W.setCell ⟨G,j * 4,none⟩ (.int .i64 u.kind)).setCell ⟨G,j * 4+1,none⟩ (.int .i64 u.n)).setCell ⟨G,j * 4+2,none⟩ (.string u.name)).setCell ⟨G,j * 4+3,none⟩ (.slice u.at_.1 u.args.length u.at_.2)):=by
 obtain ⟨h1,h2,⟨s',h3,h4⟩,h5⟩:=hC
 have Tq:Turned (fun k=>k=G) W ((((W.setCell ⟨G,j * 4,none⟩ (.int .i64 u.kind)).setCell ⟨G,j * 4+1,none⟩ (.int .i64 u.n)).setCell ⟨G,j * 4+2,none⟩ (.string u.name)).setCell ⟨G,j * 4+3,none⟩ (.slice u.at_.1 u.args.length u.at_.2)):=
  ((((Turned.refl (fun k=>k=G) W).setCell (p:=⟨G,j * 4,none⟩) (.inr rfl) _).setCell (p:=⟨G,j * 4+1,none⟩) (.inr rfl) _).setCell (p:=⟨G,j * 4+2,none⟩) (.inr rfl) _).setCell (p:=⟨G,j * 4+3,none⟩) (.inr rfl) _
 refine ⟨⟨s',(Tq.block K (zL h3) (by omega)).trans h3,h4⟩,(h5.mono (fun _ _ e=>.inl e)).trans (Tq.mono (fun _ _ e=>.inr e)),fun e=>⟨_,h.put hp hKG hG hx ((h2 e).trans hy.symm) (h1.mono (fun k _ hk=>hk.elim .inl (fun hk=>.inr (QA TX.size hk)))) ((TX.mono (fun _ _ f=>f.elim)).trans h5)⟩⟩
end
theorem brings_build27 {o:Oper} {a:Act} {w:World} {F:Value→World→Prop} (x y z:Tmp) (ho:o.op=Op.build 27 #[(0,.tmp x),(2,.tmp y),(3,.tmp z)]) {k:Int} {nm:ByteArray} {sa:Option Addr} {sn sc:Nat} (hx:a.tmps.getD x undef = .int .i64 k) (hy:a.tmps.getD y undef = .string nm) (hz:a.tmps.getD z undef = .slice sa sn sc)
 (h:F (.agg #[.int .i64 k,.int .i64 0,.string nm,.slice sa sn sc]) w):Brings Try.prog F ((execOp a.eval o).run Try.prog w):=by
 have e:∀ q,a.eval (.tmp q)=a.tmps.getD q undef:=fun _=>rfl
 unfold execOp;simp only [ho,List.map_toArray,Qx,List.map_nil,e,hx,hy,hz];go_simp;exact h
def MakL (p:Nat→Prop) (bb K:Nat) (l:TL) (x:LT) (s d G:Nat) (Y:List (Tm Unit)) (W5:World) (k:Nat) (i:Value) (wr:World):Prop:=
 ∃ (j:Nat) (us:List LT),Hid (j+k=x.args.length)∧j≤x.args.length∧i = .int .i64 j∧Hid (MakI p (Tm.img (bt l)) G K x W5 j us wr)∧Hid (wr.heap[K]? = some (.cells #[.pointer (some ⟨bb,0,none⟩),.int .i64 ((s+1+Tm.sizes (Y.take j):Nat):Int)] 170 (0,0)))∧Hid (s+1+Tm.sizes (Y.take j)≤2000)∧Hid (∀ y∈Y.take j,d+1+y.depth≤65)
set_option maxRecDepth 100000 in
theorem make147 {p:Nat→Prop} {bb sb m:Nat} {lv tv:Value} {l:TL} {K:Nat} (n:Nat):∀ (t:LT) (w:World) (s d:Nat),d+n=66→d≤65→BI p bb sb lv tv m l w→t.In p w→(∀ z∈t.bare.flat,goodOneB z=true)→apart p bb sb lv tv l K→
 w.heap[K]? = some (.cells #[.pointer (some ⟨bb,0,none⟩),.int .i64 s] 170 (0,0))→s≤2000→Calls Try.prog 147 #[.pointer (some ⟨K,0,none⟩),t.val,.int .i64 d] w (MakeQ p bb K l t s d w):=by
 induction n with
 | zero=>intro t w s d h1 h2;omega
 | succ n ih=>
  intro t w s d hdn hd h ht hg hap hK hs;have h2:=twoBox w (.cells #[.int .i64 t.kind,.int .i64 t.n,.string t.name,.slice t.at_.1 t.args.length t.at_.2] 27) (.cells #[.int .i64 0,.int .i64 0,.string ⟨#[]⟩,.slice none 0 0] 27);have hkl:=(zL hK);obtain ⟨w2,hw2⟩:∃ z,z=(w.alloc (.cells #[.int .i64 t.kind,.int .i64 t.n,.string t.name,.slice t.at_.1 t.args.length t.at_.2] 27)).alloc (.cells #[.int .i64 0,.int .i64 0,.string ⟨#[]⟩,.slice none 0 0] 27):=⟨_,rfl⟩;rw [←hw2] at h2
  have hkp:∀ W,Turned zN w2 W→W.heap[K]? = some (.cells #[.pointer (some ⟨bb,0,none⟩),.int .i64 s] 170 (0,0)):=fun W hW=>((h2.1.trans hW).block K hkl (fun f=>f)).trans hK
  have hcp:∀ W,Turned zN w2 W→W.heap[w.heap.size]? = some (.cells #[.int .i64 t.kind,.int .i64 t.n,.string t.name,.slice t.at_.1 t.args.length t.at_.2] 27 (0,0))∧W.heap[w.heap.size+1]? = some (.cells #[.int .i64 0,.int .i64 0,.string ⟨#[]⟩,.slice none 0 0] 27 (0,0)):=fun W hW=>⟨(hW.block _ (by have:=h2.2.1;omega) (fun f=>f)).trans h2.2.2.1,(hW.block _ (by have:=h2.2.1;omega) (fun f=>f)).trans h2.2.2.2⟩
  have hwk:∀ W,Turned zN w2 W→Calls Try.prog 90 #[.pointer (some ⟨bb,0,none⟩),t.val] W fun e w'=>∃ x:LT,e = .returned x.val∧x.In p w'∧x.bare=Tm.walkT (bt l) t.bare∧Turned zN W w':=fun W hW=>walk90 (h.turned0 (h2.1.trans hW)) (ht.turned0 (h2.1.trans hW)) hg
  have hwd:=Tm.walked h.ok _ t.bare (Qm _) hg;obtain ⟨X,hX⟩:∃ z,z=Tm.walkT (bt l) t.bare:=⟨_,rfl⟩;rw [←hX] at hwk hwd;have HV:=LT.val_eq t;rw [HV] at hwk;rw [HV];have HWK:=hid hwk;have HKP:=hid hkp;have HCP:=hid hcp;have HW2:=hid hw2;have HWD:=hid hwd;have HKL:=hid hkl
  have hKN:K≠w.heap.size:=by omega
  have hNK:w.heap.size≠K:=by omega
  have hKN1:K≠w.heap.size+1:=by omega
  have hNK1:w.heap.size+1≠K:=by omega
  have HT2:=hid h2.1;have HH:=hid h;have HAP:=hid hap;clear hwk hkp hcp h2 hX hkl hK ht hg hap HV hw2 hwd h
  by_cases hA:s+1≤2000
  · have d1:decide (2000 < (s:Int)+1)=false:=decide_eq_false (by omega)
    by_cases hD:d≤64
    · have d2:decide (64 < (d:Int))=false:=decide_eq_false (by omega)
      obtain ⟨q,hq⟩:∃ z,z=X.args.length:=⟨_,rfl⟩
      by_cases hL:q=0
      · have HLM:=hid (leaf_make HH.out.ok HWD.out (by rw [←hq];exact hL) hA hD)
        have HQ:=hid (show X.args.length=0 by rw [←hq];exact hL);clear hq hL;go_enter Try.func147,Try.ntmps147
        go_wp2_with fail
        rw [←HW2.out];obtain ⟨e0,e1,_⟩:=rec2b (HKP.out w2 (Turned.refl _ _));obtain ⟨y0,y1,y2,y3,_⟩:=cells4 (HCP.out w2 (Turned.refl _ _)).1;refine region_tail 5 (by kernel_rfl) (by kernel_rfl) ?_;simp only [List.take_succ_cons,List.take_zero,List.drop_succ_cons,List.drop_zero]
        repeat still_step
        refine wpStill_nil ?_
        go_wp2_with (go_at_call 90;(with_reducible refine (HWK.out _ (Turned.refl _ _).drew).mono ?_);rintro e w3 ⟨x,rfl,hxin,hxb,T3⟩;rw [LT.val_eq x];have S3:=(Turned.refl _ w2).drew.trans T3;have hq3:=HKP.out _ S3;obtain ⟨hb3,hz3⟩:=HCP.out _ S3;obtain ⟨k0,k1,kf0,kf1⟩:=rec2b hq3;obtain ⟨c0,c1,c2,c3,f0,f1,f2,f3⟩:=cells4 hb3;obtain ⟨z0,z1,z2,z3,g0,g1,g2,g3⟩:=cells4 hz3;have HAW:=hid (afterWalk hb3 hq3 hz3 HKL.out (.int .i64 x.kind) (.int .i64 x.n) (.string x.name) (.slice x.at_.1 x.args.length x.at_.2) (.int .i64 ((s:Int)+1)));have HXI:=hid hxin;have HXB:=hid hxb;have HS3:=hid S3;have hal2:((x.args.length:Int) == 0)=true:=(by (have h1:=Tm.bare_arity x;have h2:=HQ.out;rw [hxb] at h1;rw [←h1,h2];rfl));clear hq3 hb3 hz3 hxin hxb S3 T3)
        obtain ⟨A1,A2,A3,A4⟩:=HAW.out;have hset:=set4 (a':=.int .i64 x.kind) (b':=.int .i64 x.n) (c':=.string x.name) (d':=.slice x.at_.1 x.args.length x.at_.2) A3
        have Tq:=fun W=>turned_store4 W (w.heap.size+1) (.int .i64 x.kind) (.int .i64 x.n) (.string x.name) (.slice x.at_.1 x.args.length x.at_.2)
        have hp:∀ k,p k→k < w.heap.size∧k≠K:=fun k hk=>⟨(HH.out.sep k hk).1,fun e=>HAP.out.2.2 (e ▸ hk)⟩
        refine bodyPost_ret (results_cell_tmp1 Try.results147 _ _ (w.heap.size+1) 27 _ (0,0) _ rfl hset Try.underlying27 rfl (by kernel_rfl)) rfl (MakeQ.yes HLM.out.2.1 (HXB.out.trans HLM.out.1.symm) (make_in hp A4 (Tq _) HXI.out (fun _ hk=>.inl hk)) (((Tq _).block K (zL A2) (by omega)).trans A2) (by rw [HLM.out.2.2];omega) (make_turned HT2.out HS3.out A4 (Tq _)))
      · have hxa:¬ X.args=[]:=fun e=>hL (by rw [hq,e];rfl)
        have HKN:=hid (Tm.one_args (HWD.out.ones X (by rw [Tm.flat_eq];exact Qe ..)) hxa);have HAR:=hid (HWD.out.args hxa);have HQ:=hid (show 0 < X.args.length by omega);clear hq hL hxa;go_enter Try.func147,Try.ntmps147
        go_wp2_with fail
        rw [←HW2.out];obtain ⟨e0,e1,_⟩:=rec2b (HKP.out w2 (Turned.refl _ _));obtain ⟨y0,y1,y2,y3,_⟩:=cells4 (HCP.out w2 (Turned.refl _ _)).1;refine region_tail 5 (by kernel_rfl) (by kernel_rfl) ?_;simp only [List.take_succ_cons,List.take_zero,List.drop_succ_cons,List.drop_zero]
        repeat still_step
        refine wpStill_nil ?_
        go_wp2_with (go_at_call 90;(with_reducible refine (HWK.out _ (Turned.refl _ _).drew).mono ?_);rintro e w3 ⟨x,rfl,hxin,hxb,T3⟩;rw [LT.val_eq x];have S3:=(Turned.refl _ w2).drew.trans T3;have hq3:=HKP.out _ S3;obtain ⟨hb3,hz3⟩:=HCP.out _ S3;obtain ⟨k0,k1,kf0,kf1⟩:=rec2b hq3;obtain ⟨c0,c1,c2,c3,f0,f1,f2,f3⟩:=cells4 hb3;obtain ⟨z0,z1,z2,z3,g0,g1,g2,g3⟩:=cells4 hz3;have HAW:=hid (afterWalk hb3 hq3 hz3 HKL.out (.int .i64 x.kind) (.int .i64 x.n) (.string x.name) (.slice x.at_.1 x.args.length x.at_.2) (.int .i64 ((s:Int)+1)));have HXI:=hid hxin;have HXB:=hid hxb;have HS3:=hid S3;have hal2:((x.args.length:Int) == 0)=false:=(by (have h1:=Tm.bare_arity x;have h2:=HQ.out;rw [hxb] at h1;simp only [beq_eq_false_iff_ne,ne_eq];omega));clear hq3 hb3 hz3 hxin hxb S3 T3)
        have HM:=hid (MadeW.mk' HH.out HAP.out HAW.out HT2.out HS3.out HXI.out);clear HAW HXI HS3 HT2;revert HM;generalize (((((w3.setCell ⟨w.heap.size,0,none⟩ (.int .i64 x.kind)).setCell ⟨w.heap.size,1,none⟩ (.int .i64 x.n)).setCell ⟨w.heap.size,2,none⟩ (.string x.name)).setCell ⟨w.heap.size,3,none⟩ (.slice x.at_.1 x.args.length x.at_.2)).setCell ⟨K,1,none⟩ (.int .i64 ((s:Int)+1)))=W4;intro HM
        have hal8:x.args.length≤8:=by have h1:=Tm.bare_arity x;have h2:=HKN.out.2.2;rw [HXB.out] at h1;omega
        have HLP:Hid (0 < x.args.length):=by show 0 < _;have h1:=Tm.bare_arity x;have h2:=HQ.out;rw [HXB.out] at h1;omega
        have HCX:=hid (fun W (T:Turned zN W4 W)=>cells4 (HM.out.on T).n0);clear c0 c1 c2 c3 f0 f1 f2 f3 z0 z1 z2 z3 g0 g1 g2 g3 k0 k1 kf0 kf1 e0 e1 y0 y1 y2 y3;refine wp_region_k [40,41,42,43,44,45,46,47,48,8] [7,8,9,10] [(47,7),(48,8),(8,9)] (fun dd v=>(match dd with | 40=>v = .pointer (some ⟨w.heap.size,0,none⟩) | 41=>v = .int .i64 x.kind | 42=>v = .pointer (some ⟨w.heap.size,2,none⟩) | 43=>v = .string x.name | 44=>v = .pointer (some ⟨w.heap.size,3,none⟩) | 45=>v = .slice x.at_.1 x.args.length x.at_.2 | 46=>v = .int .i64 x.args.length | _=>True:Prop)) (MkR W4 x x.args.length) (by kernel_rfl) rfl (by kernel_rfl) (by kernel_rfl) (fun w h=>MkR.start h) (fun hs w w' h ht=>h.turned0 ht) ?hs ?hQ
        case hs=>
         refine ⟨?s0,?s1,?s2,?s3,?s4,?s5,?s6,?s7,?s8,?s9,?s10,trivial⟩
         case s0=>refine fun hs hl=>zG [] [4] fun ac W hT hI hO=>?_;simp only [execOp,Act.eval,hO 4 (by simp)];go_simp;try exact tq
         case s1=>refine fun hs hl=>zG [40] [] fun ac W hT hI hO=>?_;have h40:_=_:=hI 40 (by simp);obtain ⟨q0,q1,q2,q3,_⟩:=HCX.out W hT.t;simp only [execOp,Act.eval,h40];go_simp;try exact tq
         case s2=>refine fun hs hl=>zG [] [4] fun ac W hT hI hO=>?_;simp only [execOp,Act.eval,hO 4 (by simp)];go_simp;try exact tq
         case s3=>refine fun hs hl=>zG [42] [] fun ac W hT hI hO=>?_;have h42:_=_:=hI 42 (by simp);obtain ⟨q0,q1,q2,q3,_⟩:=HCX.out W hT.t;simp only [execOp,Act.eval,h42];go_simp;try exact tq
         case s4=>refine fun hs hl=>zG [] [4] fun ac W hT hI hO=>?_;simp only [execOp,Act.eval,hO 4 (by simp)];go_simp;try exact tq
         case s5=>refine fun hs hl=>zG [44] [] fun ac W hT hI hO=>?_;have h44:_=_:=hI 44 (by simp);obtain ⟨q0,q1,q2,q3,_⟩:=HCX.out W hT.t;simp only [execOp,Act.eval,h44];go_simp;try exact tq
         case s6=>refine fun hs hl=>zG [45] [] fun ac W hT hI hO=>?_;have h45:_=_:=hI 45 (by simp);simp only [execOp,Act.eval,h45];go_simp;try exact tq
         case s7=>
          refine fun hs hno hl=>zG [46] [] fun ac W hT hI hO=>?_;have h46:_=_:=hI 46 (by simp);show Brings _ (fun v w'=>MkR W4 x x.args.length (hs++[(7,v)]) w') _;have hmk:=make_blanksT x.args.length (by omega) W;have hm1:=hmk.1;have HM2:=hid hmk.2;clear hmk;simp only [execOp,Act.eval,h46];go_simp;exact hT.made hno HM2.out
         case s8=>
          refine fun hs hno hl=>zG [41,43,47] [] fun ac W hT hI hO=>?_;have h41:_=_:=hI 41 (by simp);have h43:_=_:=hI 43 (by simp);have h47:(7,ac.tmps.getD 47 undef)∈hs:=hI 47 (by simp);show Brings _ (fun v w'=>MkR W4 x x.args.length (hs++[(8,v)]) w') _;obtain ⟨G,eG,_,_⟩:=hT.row _ h47;refine brings_build27 41 43 47 rfl h41 h43 eG ?_;rw [eG] at h47;exact hT.built h47
         case s9=>
          refine fun hs hno hl=>zG [] [] fun ac W hT hI hO=>?_;show Brings _ (fun v w'=>MkR W4 x x.args.length (hs++[(9,v)]) w') _;simp only [execOp,Act.eval];go_simp;exact hT.laid hno (fun q=>hl 10 11 q (by kernel_rfl))
         case s10=>
          refine fun hs hno hl=>zG [8,48] [] fun ac W hT hI hO=>?_;have h8:(9,ac.tmps.getD 8 undef)∈hs:=hI 8 (by simp);have h48:(8,ac.tmps.getD 48 undef)∈hs:=hI 48 (by simp);obtain ⟨B,a0,a1,a2,a3,eB,hB⟩:=hT.cell h8;obtain ⟨sv,hsv,eA⟩:=hT.agg _ h48;obtain ⟨G,eG,_,_⟩:=hT.row _ hsv;rw [eG] at eA;obtain ⟨d0,d1,d2,d3,f0,f1,f2,f3⟩:=cells4 hB;show Brings _ (fun v w'=>MkR W4 x x.args.length (hs++[(10,v)]) w') _;simp only [execOp,Act.eval,eB,eA];go_simp;rw [eB] at h8;rw [eA] at h48;exact hT.stored h8 h48
        case hQ=>
         intro hs7 vs W5 hall huniq hR hV;obtain ⟨G,B,q8,hGB,hG,hB,hb5,hr5,T5⟩:=hR.done hall (hV 8 (by simp)) huniq;simp only [Qq,List.foldl_nil,Qk,Qs,Qr,q8];have HM5:=hid (HM.out.on T5);have HB5:=hid hb5
         have HZ:Hid (G≠B∧w.heap.size+2≤G∧w.heap.size+2≤B∧B < W5.heap.size∧G < W5.heap.size):=by
          have h1:=(zL HM.out.n1);exact ⟨hGB,by omega,by omega,(zL hb5),hr5.lt G rfl⟩
         obtain ⟨c0,c1,c2,c3,_⟩:=cells4 HM5.out.n0
         have hL:=fun W h=>(LT.In.lies (p:=p) (w:=W) (t:=x) h)
         obtain ⟨ad,had⟩:∃ z,z=x.at_.1:=⟨_,rfl⟩;rw [←had] at hL c3;rw [←had];have HL:=hid hL;obtain ⟨o0,o1,o2,o3,_⟩:=cells4 hb5;have HMI:Hid (MakI p (Tm.img (bt l)) G K x W5 0 (blanks x.args.length) W5):=⟨blanks_length _,rfl,hr5,blanks_in _ _ _,Turned.refl _ _⟩;obtain ⟨Y,hY⟩:∃ z,z=x.args.map (fun y=>Tm.img (bt l) y.bare):=⟨_,rfl⟩
         have HYI:Hid (Tm.img (bt l) t.bare = .mk x.kind 0 x.name () Y):=by
          show _=_;have h1:=HAR.out;rw [←HXB.out,Tm.bare_kind,Tm.bare_name,Tm.bare_args,Tm.bares_eq,List.map_map] at h1;rw [h1,hY];rfl
         have HY:=hid hY;clear hall huniq hR hV hs7 hGB hG hB hb5 hr5 T5 q8 hY had hL
         go_wp2_with fail
         go_loopg [52] x.args.length (fun k i wr=>MakL p bb K l x s d G Y W5 k i wr)
         case atStart=>exact ⟨0,_,Nat.zero_add _,Nat.zero_le _,rfl,HMI,show _=_ by (have:=HM5.out.k;simpa [Tm.sizes] using this),show _≤_ by simpa [Tm.sizes] using hA,fun y hy=>by simp at hy⟩
         case round=>
          obtain ⟨j,us,HG,hj,rfl,HMI,HKJ,HSJ,HDJ⟩:=hrel;have hob:=(HMI.out.turned.block B HZ.out.2.2.2.1 (fun e=>by have:=HZ.out;have:=HKL.out;omega)).trans HB5.out
          have HXJ:=hid (LT.In.turned HMI.out.turned (fun k _ hk e=>by
           have h1:=(HH.out.sep k hk).1
           rcases e with e | e
           · have:=HZ.out;omega
           · exact HAP.out.2.2 (e ▸ hk)) (fun _ _ hk=>hk) x HM5.out.inn)
          have HBJ:Hid (BI p bb sb lv tv m l wr):=HM5.out.bi.turned HMI.out.turned (fun k hk e=>by
           rcases e with e | e
           · subst e
             have h0:=HZ.out.2.1;refine ⟨fun c=>by have:=HH.out.own_lt _ c;omega,fun b hb c=>by have:=(zL (HH.out.terms b hb).1);omega,fun c=>by have:=(HH.out.sep _ c).1;omega⟩
           · rw [show k=K from e];exact HAP.out)
          have HSZ:Hid (W5.heap.size≤wr.heap.size):=HMI.out.turned.size;obtain ⟨o0,o1,o2,o3,_⟩:=cells4 hob;have HOB:=hid hob;clear hob
          by_cases hjl:j < x.args.length
          · obtain ⟨xj,hxj⟩:∃ y:LT,x.args[j]? = some y:=⟨_,Qa hjl⟩
            have hYj:Y[j]? = some (Tm.img (bt l) xj.bare):=by rw [HY.out,Qp,hxj];rfl
            have hone:∀ z∈xj.bare.flat,goodOneB z=true:=fun z hz=>HWD.out.ones z (by
             rw [←HXB.out,Tm.flat_eq];refine Qb _ (Tm.mem_flats_iff.2 ⟨xj.bare,?_,hz⟩);rw [Tm.bare_args,Tm.bares_eq]
             exact List.mem_map_of_mem (Qf hxj))
            have hih:=fun W (T:Turned zN wr W)=>ih xj W (s+1+Tm.sizes (Y.take j)) (d+1) (by omega) (by omega) (HBJ.out.turned0 T) ((LT.ins_iff _).1 (HXJ.out.turned0 T).args xj (Qf hxj)) hone HAP.out ((T.block K (zL HKJ.out) (fun f=>f)).trans HKJ.out) HSJ.out
            rw [show (((d+1:Nat):Int))=(d:Int)+1 from by omega,LT.val_eq xj] at hih;obtain ⟨b,o,rfl,_,x0,x1,x2,x3⟩:=(HL.out _ HXJ.out).cell hxj;have HXX:=hid hxj;have HYJ:=hid hYj
            have hhw:(w.heap.size+1:Nat)≠G:=by have:=HZ.out;omega
            have hbx:=heap_alloc_new wr (.cells #[.int .i64 xj.kind,.int .i64 xj.n,.string xj.name,.slice xj.at_.1 xj.args.length xj.at_.2] 27);have TX:Turned zN wr (wr.alloc (.cells #[.int .i64 xj.kind,.int .i64 xj.n,.string xj.name,.slice xj.at_.1 xj.args.length xj.at_.2] 27)):=(Turned.refl _ wr).alloc _;have HBT:=And.intro (hid hbx) (hid TX);clear hbx TX hxj hYj hone;obtain ⟨ok,hok⟩:∃ z,z=Tm.makeOk (s+1+Tm.sizes (Y.take j)) (d+1) (Tm.img (bt l) xj.bare):=⟨_,rfl⟩
            have hih':∀ W,Turned zN wr W→Calls Try.prog 147 #[.pointer (some ⟨K,0,none⟩),.agg #[.int .i64 xj.kind,.int .i64 xj.n,.string xj.name,.slice xj.at_.1 xj.args.length xj.at_.2],.int .i64 ((d:Int)+1)] W fun e w'=>∃ u:LT,e = .returned (.tuple #[u.val,.bool ok])∧CallQ p bb K ok (Tm.img (bt l) xj.bare) (s+1+Tm.sizes (Y.take j)) W u w':=fun W T=>(hih W T).mono (fun e w' ⟨u,h1,h2,h3,h4,h5⟩=>⟨u,by rw [h1,hok],h2,by rw [hok];exact h3,by rw [hok];exact h4,h5⟩)
            have HIH:=hid hih';have HOK:=hid hok;clear hih hih' hok
            go_wp2_with fail
            revert HBT;generalize wr.alloc (.cells #[.int .i64 xj.kind,.int .i64 xj.n,.string xj.name,.slice xj.at_.1 xj.args.length xj.at_.2] 27)=wx;obtain ⟨B9,hB9⟩:∃ z,z=wr.heap.size:=⟨_,rfl⟩;rw [←hB9];intro HBT;have HB9:=hid hB9;clear hB9;obtain ⟨HBX,HTX⟩:=HBT;have HCB:=hid (fun W (T:Turned (fun k=>k=K∨k=G) wx W)=>cells4 ((T.block B9 (zL HBX.out) (fun e=>by have:=HB9.out;have:=HKL.out;have:=HZ.out;have:=HSZ.out;omega)).trans HBX.out));have HCO:=hid (fun W (T:Turned (fun k=>k=K∨k=G) wx W)=>cells4 ((T.block B (Qo (zL HOB.out) HTX.out.size) (fun e=>by have:=HKL.out;have:=HZ.out;omega)).trans ((HTX.out.block B (zL HOB.out) (fun f=>f)).trans HOB.out)));clear o0 o1 o2 o3 x0 x1 x2 x3;refine wp_region_hsW [58,59,60,61,62,63,64,65,57,66,67,68,11] [7,8,9,12] [3,3,3,0,0,0,0,1,2,3,4,3,4,4] [65,57,66,100012] (fun dd v=>(match dd with | 58=>v = .pointer (some ⟨B,3,none⟩) | 59=>v = .slice (some ⟨G,0,none⟩) x.args.length x.args.length | 60=>v = .int .i64 j | 61=>v = .pointer (some ⟨K,0,none⟩) | 62=>v = .agg #[.int .i64 xj.kind,.int .i64 xj.n,.string xj.name,.slice xj.at_.1 xj.args.length xj.at_.2] | 63=>v = .int .i64 d | 64=>v = .int .i64 ((d:Int)+1) | 67=>v = .bool ok | 68=>v = .pointer (some ⟨G,j * 4,none⟩) | 11=>v = .bool ok | _=>True:Prop)) (MrS p (Tm.img (bt l)) bb K G ok (Tm.img (bt l) xj.bare) (s+1+Tm.sizes (Y.take j)) x j W5 wx) (by kernel_rfl) rfl (by kernel_rfl) (by kernel_rfl) (by kernel_rfl) (by kernel_rfl) (fun w h=>h) (fun hs w w' h T=>MrS.turned0 hs w w' h T) ?hs ?hQ
            case hs=>
             refine ⟨?s0,?s1,?s2,?s3,?s4,?s5,?s6,?s7,?s8,?s9,?s10,?s11,?s12,?s13,trivial⟩
             case s0=>refine fun hs hle=>zG [] [8] fun ac W hT hI hO=>?_;simp only [execOp,Act.eval,hO 8 (by simp)];go_simp;try exact tq
             case s1=>refine fun hs hle=>zG [58] [] fun ac W hT hI hO=>?_;have h58:_=_:=hI 58 (by simp);obtain ⟨q0,q1,q2,q3,_⟩:=HCO.out W (MrS.turned hs W hT);simp only [execOp,Act.eval,h58];go_simp;try exact tq
             case s2=>refine fun hs hle=>zG [] [9] fun ac W hT hI hO=>?_;simp only [execOp,Act.eval,hO 9 (by simp)];go_simp;try exact tq
             case s3=>refine fun hs hle=>zG [] [0] fun ac W hT hI hO=>?_;simp only [execOp,Act.eval,hO 0 (by simp)];go_simp;try exact tq
             case s4=>refine fun hs hle=>zG [] [10] fun ac W hT hI hO=>?_;obtain ⟨q0,q1,q2,q3,_⟩:=HCB.out W (MrS.turned hs W hT);simp only [execOp,Act.eval,hO 10 (by simp)];go_simp;try exact tq
             case s5=>refine fun hs hle=>zG [] [2] fun ac W hT hI hO=>?_;simp only [execOp,Act.eval,hO 2 (by simp)];go_simp;try exact tq
             case s6=>
              refine fun hs hle=>zG [63] [] fun ac W hT hI hO=>?_;have h63:_=_:=hI 63 (by simp);simp only [execOp,Act.eval,h63];go_simp
              try rw [wrapI (by omega) (by omega)]
              try exact tq
             case s7=>
              refine fun hs hlen=>zG [61,62,64] [] fun ac W hT hI hO=>?_;have h61:_=_:=hI 61 (by simp);have h62:_=_:=hI 62 (by simp);have h64:_=_:=hI 64 (by simp);obtain rfl:hs=[]:=Qh hlen;replace hT:Turned zN wx W:=hT;show Brings _ (fun v w'=>MrS p (Tm.img (bt l)) bb K G ok (Tm.img (bt l) xj.bare) (s+1+Tm.sizes (Y.take j)) x j W5 wx [v] w') _;simp only [execOp,Act.eval,h61,h62,h64];go_simp;show Calls Try.prog 147 _ W _
              (with_reducible refine (HIH.out W (HTX.out.trans hT)).mono ?_)
              rintro e w' ⟨u,rfl,k1,k2,k3,k4⟩
              exact ⟨_,rfl,u,by rw [LT.val_eq],k1.mono (fun k _ hk=>hk.elim .inl (fun hk=>.inr (QA hT.size hk))),k2,k3,(hT.mono (fun _ _ f=>f.elim)).trans k4⟩
             case s8=>
              refine fun hs hlen=>zG [65] [] fun ac W hT hI hO=>?_;have h65:hs[0]? = some (ac.tmps.getD 65 undef):=hI 65 (by simp);obtain ⟨a,rfl⟩:=List.length_eq_one_iff.1 hlen;obtain ⟨u,ea,hC⟩:=hT
              have e65:a=ac.tmps.getD 65 undef:=by simpa using h65
              rw [e65] at ea;show Brings _ (fun v w'=>MrS p (Tm.img (bt l)) bb K G ok (Tm.img (bt l) xj.bare) (s+1+Tm.sizes (Y.take j)) x j W5 wx [a,v] w') _;simp only [execOp,Act.eval,ea];go_simp;exact ⟨u,rfl,hC⟩
             case s9=>
              refine fun hs hlen=>zG [57] [] fun ac W hT hI hO=>?_;have h57:hs[1]? = some (ac.tmps.getD 57 undef):=hI 57 (by simp);obtain ⟨a,b,rfl⟩:=list2' hlen;obtain ⟨u,ea,hC⟩:=hT
              have e57:b=ac.tmps.getD 57 undef:=by simpa using h57
              show Brings _ (fun v w'=>MrS p (Tm.img (bt l)) bb K G ok (Tm.img (bt l) xj.bare) (s+1+Tm.sizes (Y.take j)) x j W5 wx [a,b,v] w') _;rw [e57] at ea;simp only [execOp,Act.eval,ea];go_simp;exact ⟨u,by first | rfl | (rw [e57];exact ea),rfl,hC⟩
             case s10=>refine fun hs hle=>zG [57] [] fun ac W hT hI hO=>?_;have h57:hs[1]? = some (ac.tmps.getD 57 undef):=hI 57 (by simp);obtain ⟨u,eu⟩:=MrS.tup hs W _ hT h57;simp only [execOp,Act.eval,eu];go_simp;try exact tq
             case s11=>refine fun hs hle=>zG [59,60] [] fun ac W hT hI hO=>?_;have h59:_=_:=hI 59 (by simp);have h60:_=_:=hI 60 (by simp);simp only [execOp,Act.eval,h59,h60];go_simp;try exact tq
             case s12=>
              refine fun hs hlen=>zG [68,66] [] fun ac W hT hI hO=>?_;have h68:_=_:=hI 68 (by simp);have h66:hs[2]? = some (ac.tmps.getD 66 undef):=hI 66 (by simp);obtain ⟨a,b,c,rfl⟩:=list3' hlen;obtain ⟨u,eb,ec,hC⟩:=hT
              have e66:c=ac.tmps.getD 66 undef:=by simpa using h66
              show Brings _ (fun v w'=>MrS p (Tm.img (bt l)) bb K G ok (Tm.img (bt l) xj.bare) (s+1+Tm.sizes (Y.take j)) x j W5 wx [a,b,c,v] w') _;rw [e66] at ec;have hrw:=(HMI.out.row.turned0 HTX.out).turned hC.2.2.2 (fun k hk e=>by simp [Value.ownBlock] at hk;have:=HZ.out;have:=HKL.out;omega);have f0:=hrw.free rfl (j * 4);have f1:=hrw.free rfl (j * 4+1);have f2:=hrw.free rfl (j * 4+2);have f3:=hrw.free rfl (j * 4+3);obtain ⟨z0,g0⟩:=row_some hrw (j * 4) (by omega);obtain ⟨z1,g1⟩:=row_some hrw (j * 4+1) (by omega);obtain ⟨z2,g2⟩:=row_some hrw (j * 4+2) (by omega);obtain ⟨z3,g3⟩:=row_some hrw (j * 4+3) (by omega);have HRS:=hid (mr_store (w3:=W5) HMI.out HTX.out (fun k hk=>⟨by have:=(HH.out.sep k hk).1;have:=HZ.out;omega,fun e=>HAP.out.2.2 (e ▸ hk)⟩) (by have:=HZ.out;have:=HKL.out;omega) (by have:=HZ.out;have:=HSZ.out;omega) HXX.out rfl hC);simp only [execOp,Act.eval,h68,ec];go_simp;exact ⟨⟨u,by first | rfl | exact eb⟩,HRS.out⟩
             case s13=>
              refine fun hs hle=>zG [67] [] fun ac W hT hI hO=>?_;have h67:_=_:=hI 67 (by simp);simp only [execOp,Act.eval,h67];go_simp
              try exact tq
            case hQ=>
             intro hs4 vs4 W9 hlen hR hV;have q11:vs4 11 = .bool ok:=hV 11 (by simp);simp only [Qq,List.foldl_nil,Qk,Qs,Qr,q11];obtain ⟨e1,e2,e3,e4,rfl⟩:∃ a b c d,hs4=[a,b,c,d]:=list4' hlen;have HRQ:=hid (show RowQ p (Tm.img (bt l)) bb K G ok (Tm.img (bt l) xj.bare) (s+1+Tm.sizes (Y.take j)) x j W5 wx W9 from hR.2);clear hR hV q11 hlen
             cases ok with
             | false=>
              have HNO:Hid (Tm.makeOk s d (Tm.img (bt l) t.bare)=false):=Tm.makeOk_no (i:=j) (x:=Tm.img (bt l) xj.bare) (by rw [HYI.out];exact HYJ.out) (by rw [HYI.out];exact HOK.out.symm);have hz9:=(HRQ.out.2.1.block (w.heap.size+1) (by have:=(zL HM5.out.n1);have:=HSZ.out;have:=HTX.out.size;omega) (fun e=>by have:=HKL.out;have:=HZ.out;omega)).trans ((HTX.out.block _ (by have:=(zL HM5.out.n1);have:=HSZ.out;omega) (fun f=>f)).trans ((HMI.out.turned.block _ (zL HM5.out.n1) (fun e=>by have:=HKL.out;have:=HZ.out;omega)).trans HM5.out.n1));obtain ⟨z0,z1,z2,z3,f0,f1,f2,f3⟩:=cells4 hz9;have HZ9:=hid hz9;clear hz9
              go_wp2_with fail
              have hset:=set4 (a':=.int .i64 0) (b':=.int .i64 0) (c':=.string ⟨#[]⟩) (d':=.slice none 0 0) HZ9.out
              have Tq:=fun W=>turned_store4 W (w.heap.size+1) (.int .i64 0) (.int .i64 0) (.string ⟨#[]⟩) (.slice none 0 0)
              obtain ⟨⟨s',hk9,_⟩,ht9,_⟩:=HRQ.out;refine bodyPost_ret (results_cell_tmp1 Try.results147 _ _ (w.heap.size+1) 27 _ (0,0) _ rfl hset Try.underlying27 rfl (by kernel_rfl)) rfl (MakeQ.no HNO.out (((Tq _).block K (zL hk9) (by omega)).trans hk9) ?_);refine ((((HM5.out.turned.step HMI.out.turned (fun i hi e=>?_)).trans (HTX.out.mono (fun _ _ f=>f.elim))).step ht9 (fun i hi e=>?_))).step (Tq _) (fun i hi e=>by omega)
              · rcases e with e | e
                · have:=HZ.out;omega
                · exact e
              · rcases e with e | e
                · exact e
                · have:=HZ.out;omega
             | true=>
              obtain ⟨⟨s',hk9,hs9⟩,ht9,hm9⟩:=HRQ.out;have hs9':=hs9 rfl;subst hs9';have HK9:=hid hk9;have HT9:=hid ht9;have HM9:=hid (hm9 rfl);clear hk9 ht9 hm9 hs9
              go_wp2_with fail
              have hst:=Tm.sizes_take HYJ.out;obtain ⟨h1,h2⟩:=Tm.makeOk_iff.1 HOK.out.symm;obtain ⟨us',hI9⟩:=HM9.out;have HST:=hid hst;have HI9:=hid hI9;have H12:=hid (And.intro h1 h2);clear hst hI9 h1 h2;go_roundg (gk - 1)
              case measure=>have:=HG.out;omega
              case rel=>
               refine ⟨j+1,us',show _=_ by have:=HG.out;omega,by omega,by go_num,HI9,?_,?_,?_⟩
               · show _=_
                 rw [HST.out];have:=HK9.out;rw [show s+1+(Tm.sizes (Y.take j)+(Tm.img (bt l) xj.bare).size)=s+1+Tm.sizes (Y.take j)+(Tm.img (bt l) xj.bare).size from by omega];exact this
               · show _≤_
                 rw [HST.out];have:=H12.out.1;omega
               · show ∀ y∈_,_
                 intro y hy;rw [List.take_add_one,HYJ.out] at hy
                 rcases Qn.1 hy with hy | hy
                 · exact HDJ.out y hy
                 · simp at hy;rw [hy];have:=H12.out.2;omega
          · obtain rfl:j=x.args.length:=by omega
            have hyl:Y.length=x.args.length:=by rw [HY.out,Qu]
            have hk0:=HKJ.out;have hs0:=HSJ.out;have hd0:=HDJ.out;rw [←hyl,List.take_length] at hk0 hs0 hd0;have hmk:Tm.makeOk s d (Tm.img (bt l) t.bare)=true:=Tm.makeOk_yes hA hD (by rw [HYI.out];exact hs0) (by rw [HYI.out];exact hd0)
            have hms:(Tm.img (bt l) t.bare).size=1+Tm.sizes Y:=by rw [HYI.out,Tm.size_eq];rfl
            have HK0:=hid hk0;have HMK:=hid (And.intro hmk hms);have hz9:=(HMI.out.turned.block _ (zL HM5.out.n1) (fun e=>by have:=HKL.out;have:=HZ.out;omega)).trans HM5.out.n1;obtain ⟨z0,z1,z2,z3,f0,f1,f2,f3⟩:=cells4 hz9;have HZ9:=hid hz9;clear hz9 hyl hk0 hs0 hd0 hmk hms
            go_wp2_with fail
            have hset:=set4 (a':=.int .i64 x.kind) (b':=.int .i64 0) (c':=.string x.name) (d':=.slice (some ⟨G,0,none⟩) x.args.length x.args.length) HZ9.out
            have Tq:=fun W=>turned_store4 W (w.heap.size+1) (.int .i64 x.kind) (.int .i64 0) (.string x.name) (.slice (some ⟨G,0,none⟩) x.args.length x.args.length)
            refine bodyPost_ret (results_cell_tmp1 Try.results147 _ _ (w.heap.size+1) 27 _ (0,0) _ rfl hset Try.underlying27 rfl (by kernel_rfl)) rfl ?_
            have hTT:=(HM5.out.turned.step HMI.out.turned (fun i hi e=>by
             rcases e with e | e
             · have:=HZ.out;omega
             · exact e)).step (Tq _) (fun i hi e=>by omega)
            have hrow:=HMI.out.row.turned (Tq _) (fun k hk e=>by simp [Value.ownBlock] at hk;have:=HZ.out;omega)
            have hins:=HMI.out.ins.turned (q:=fun k=>p k∨w.heap.size≤k) (Tq _) (fun k _ hk e=>by
             rcases hk with hk | hk
             · have:=(HH.out.sep k hk).1;omega
             · have:=HZ.out;omega) (fun k _ hk=>hk.elim .inl (fun hk=>.inr (by have:=HZ.out;omega)))
            obtain ⟨e1,e2⟩:=LT.Sl.of_row (p:=fun k=>p k∨w.heap.size≤k) hrow (fun k hk=>.inr (by simp [Value.ownBlock] at hk;have:=HZ.out;omega)) hins;have hUL:us.length=x.args.length:=HMI.out.len;have hyes:=MakeQ.yes (p:=p) (bb:=bb) (K:=K) (l:=l) (t:=t) (u:=.mk x.kind 0 x.name (some ⟨G,0,none⟩,x.args.length) us) (s:=s) (d:=d) (w:=w) HMK.out.1 ?_ (e2.in_ HM5.out.inn.kind (i64_lit _ (by omega)) HM5.out.inn.name) (((Tq _).block K (zL HK0.out) (by omega)).trans HK0.out) (by rw [HMK.out.2];omega) hTT
            · simp only [Tm.kind,Tm.n,Tm.name,Tm.args,LT.at_] at hyes
              rw [hUL] at hyes;exact hyes
            · have hbr:=HMI.out.bares
              rw [List.take_length,←hUL,List.take_length] at hbr;rw [HYI.out,Tm.bare,Tm.bares_eq,hbr,HY.out]
    · have d2:decide (64 < (d:Int))=true:=decide_eq_true (by omega)
      have hno:Tm.makeOk s d (Tm.img (bt l) t.bare)=false:=by
       rw [Bool.eq_false_iff,ne_eq,Tm.makeOk_iff];have:=Tm.depth_pos (Tm.img (bt l) t.bare);omega
      go_enter Try.func147,Try.ntmps147
      go_wp2_with fail
      rw [←HW2.out];obtain ⟨e0,e1,_⟩:=rec2b (HKP.out w2 (Turned.refl _ _));obtain ⟨y0,y1,y2,y3,_⟩:=cells4 (HCP.out w2 (Turned.refl _ _)).1;refine region_tail 5 (by kernel_rfl) (by kernel_rfl) ?_;simp only [List.take_succ_cons,List.take_zero,List.drop_succ_cons,List.drop_zero]
      repeat still_step
      refine wpStill_nil ?_
      go_wp2_with (go_at_call 90;(with_reducible refine (HWK.out _ (Turned.refl _ _).drew).mono ?_);rintro e w3 ⟨x,rfl,hxin,hxb,T3⟩;rw [LT.val_eq x];have S3:=(Turned.refl _ w2).drew.trans T3;have hq3:=HKP.out _ S3;obtain ⟨hb3,hz3⟩:=HCP.out _ S3;obtain ⟨k0,k1,kf0,kf1⟩:=rec2b hq3;obtain ⟨c0,c1,c2,c3,f0,f1,f2,f3⟩:=cells4 hb3;obtain ⟨z0,z1,z2,z3,g0,g1,g2,g3⟩:=cells4 hz3;have HAW:=hid (afterWalk hb3 hq3 hz3 HKL.out (.int .i64 x.kind) (.int .i64 x.n) (.string x.name) (.slice x.at_.1 x.args.length x.at_.2) (.int .i64 ((s:Int)+1)));have HXI:=hid hxin;have HXB:=hid hxb;have HS3:=hid S3;clear hq3 hb3 hz3 hxin hxb S3 T3)
      obtain ⟨A1,A2,A3,A4⟩:=HAW.out;have hset:=set4 (a':=.int .i64 0) (b':=.int .i64 0) (c':=.string ⟨#[]⟩) (d':=.slice none 0 0) A3
      have Tq:=fun W=>turned_store4 W (w.heap.size+1) (.int .i64 0) (.int .i64 0) (.string ⟨#[]⟩) (.slice none 0 0)
      refine bodyPost_ret (results_cell_tmp1 Try.results147 _ _ (w.heap.size+1) 27 _ (0,0) _ rfl hset Try.underlying27 rfl (by kernel_rfl)) rfl (MakeQ.no hno (((Tq _).block K (zL A2) (by omega)).trans A2) (make_turned HT2.out HS3.out A4 (Tq _)))
  · have d1:decide (2000 < (s:Int)+1)=true:=decide_eq_true (by omega)
    have hno:Tm.makeOk s d (Tm.img (bt l) t.bare)=false:=by
     rw [Bool.eq_false_iff,ne_eq,Tm.makeOk_iff];have:=Tm.size_pos (Tm.img (bt l) t.bare);omega
    go_enter Try.func147,Try.ntmps147
    go_wp2_with fail
    rw [←HW2.out];obtain ⟨e0,e1,_⟩:=rec2b (HKP.out w2 (Turned.refl _ _));obtain ⟨y0,y1,y2,y3,_⟩:=cells4 (HCP.out w2 (Turned.refl _ _)).1;refine region_tail 5 (by kernel_rfl) (by kernel_rfl) ?_;simp only [List.take_succ_cons,List.take_zero,List.drop_succ_cons,List.drop_zero]
    repeat still_step
    refine wpStill_nil ?_
    go_wp2_with (go_at_call 90;(with_reducible refine (HWK.out _ (Turned.refl _ _).drew).mono ?_);rintro e w3 ⟨x,rfl,hxin,hxb,T3⟩;rw [LT.val_eq x];have S3:=(Turned.refl _ w2).drew.trans T3;have hq3:=HKP.out _ S3;obtain ⟨hb3,hz3⟩:=HCP.out _ S3;obtain ⟨k0,k1,kf0,kf1⟩:=rec2b hq3;obtain ⟨c0,c1,c2,c3,f0,f1,f2,f3⟩:=cells4 hb3;obtain ⟨z0,z1,z2,z3,g0,g1,g2,g3⟩:=cells4 hz3;have HAW:=hid (afterWalk hb3 hq3 hz3 HKL.out (.int .i64 x.kind) (.int .i64 x.n) (.string x.name) (.slice x.at_.1 x.args.length x.at_.2) (.int .i64 ((s:Int)+1)));have HXI:=hid hxin;have HXB:=hid hxb;have HS3:=hid S3;clear hq3 hb3 hz3 hxin hxb S3 T3)
    obtain ⟨A1,A2,A3,A4⟩:=HAW.out;have hset:=set4 (a':=.int .i64 0) (b':=.int .i64 0) (c':=.string ⟨#[]⟩) (d':=.slice none 0 0) A3
    have Tq:=fun W=>turned_store4 W (w.heap.size+1) (.int .i64 0) (.int .i64 0) (.string ⟨#[]⟩) (.slice none 0 0)
    refine bodyPost_ret (results_cell_tmp1 Try.results147 _ _ (w.heap.size+1) 27 _ (0,0) _ rfl hset Try.underlying27 rfl (by kernel_rfl)) rfl (MakeQ.no hno (((Tq _).block K (zL A2) (by omega)).trans A2) (make_turned HT2.out HS3.out A4 (Tq _)))
theorem brings_append_any {P:Program} {w:World} {o:Oper} {a:Act} {F:Value→World→Prop} (s x:Operand) (t:TypeId)
 (ho:o.op = .call { callee:=.builtin .append,args:=#[s,x],argTypes:=#[t,t] })
 (e:TypeId) (i:TypeInfo) (z:Value) (size bytes:Nat) (ht:P.underlying t=some (.slice e)) (hi:P.info? e=some i) (hz:i.zero=some z)
 (hsize:i.size=size) (hby:i.bytes=bytes) (hzs:z.cells.size=size) (hsz:0 < size)
 (v:Value) (n:Nat) (xs:List Value) (hs:a.eval s=v) (hown:Row w e size v n xs)
 (ao:Option Addr) (m c:Nat) (news:List Value) (hx:a.eval x = .slice ao m c) (hnone:ao=none→m=0∧c=0) (hl:news.length=m * size) (hnews:∀ ad,ao=some ad→∀ j u,news[j]? = some u→w.cell? (ad.add j)=some u) (h1:∀ u∈news,u.oneCell'=true)
 (h63:n+m≤maxLen) (hbytes:(n+m) * bytes≤140737488355328)
 (h:∀ v' w',Row w' e size v' (n+m) (xs++news)→Turned (fun k=>v.ownBlock=some k) w w'→(v'.ownBlock=v.ownBlock∨v'.ownBlock=some w.heap.size)→F v' w'):Brings P F ((execOp a.eval o).run P w):=by
 obtain ⟨v',w',hr,h2,h3,h4⟩:=run_append_any (P:=P) w t o.type e i z size bytes ht hi hz hsize hby hzs hsz v n xs hown ao m c news hnone hl hnews h1 h63 hbytes;unfold execOp;simp only [ho,resolve,invoke,builtin,Sem.run_bind,Sem.run_pure,Result.andThen_ok,List.map_toArray,Qx,List.map_nil,hs,hx,hr];exact h v' w' h2 h3 h4
def AppS (v0:Value) (n k:Nat) (xs news:List Value) (wx:World):List Value→World→Prop
 | [],W=>Turned zN wx W
 | [v],W=>Row W 27 4 v (n+k) (xs++news)∧Turned (fun q=>v0.ownBlock=some q) wx W∧(v.ownBlock=v0.ownBlock∨∀ q,v.ownBlock=some q→wx.heap.size≤q)
 | _,_=>False
theorem AppS.turned0 {v0:Value} {n k:Nat} {xs news:List Value} {wx:World}:∀ (hs:List Value) (w w':World),AppS v0 n k xs news wx hs w→Turned zN w w'→AppS v0 n k xs news wx hs w'
 | [],_,_,h,ht=>Turned.trans h ht
 | [_],_,_,h,ht=>⟨h.1.turned0 ht,h.2.1.trans (ht.mono (fun _ _ f=>f.elim)),h.2.2⟩
 | _ :: _ :: _,_,_,h,_=>h.elim
theorem AppS.nil {v0:Value} {n k:Nat} {xs news:List Value} {wx W:World} {hs:List Value} (hl:hs.length≤0) (h:AppS v0 n k xs news wx hs W):Turned zN wx W:=by
 match hs,hl,h with
 | [],_,h=>exact h
theorem lies_any {p:Nat→Prop} {w:World} {a:Option Addr} {l:List LT} (h:LT.Lies p w a l) (ad:Addr) (ha:a=some ad) (j:Nat) (u:Value) (hu:(l.flatMap LT.cells)[j]? = some u):w.cell? (ad.add j)=some u:=by
 have hl:0 < l.length:=by
  have:=(Qg.1 hu).1;rw [LT.flat_length] at this;omega
 obtain ⟨b,o,e,_,hc⟩:=h hl;rw [ha] at e;have e2:=Option.some.inj e;subst e2;rw [Addr.add_lit];exact hc j u hu
theorem had_yes {w:World} {mb n:Nat} {had:List Int} {k:Int} (h:IMap Try.prog 2 w mb n (fun i=>if i∈had then some (.bool true) else none)) (hk:k∈had) (h64:I64 k):(Instr.lookup 140 (.map (some mb)) (.int .i64 k) false).run Try.prog w = .ok (.bool true) w:=by
 have:=h.look law2 Try.underlying140 (zero4 _) (key2 h64);simp only [if_pos hk,Option.getD_some] at this;exact this
theorem had_no {w:World} {mb n:Nat} {had:List Int} {k:Int} (h:IMap Try.prog 2 w mb n (fun i=>if i∈had then some (.bool true) else none)) (hk:k∉had) (h64:I64 k):(Instr.lookup 140 (.map (some mb)) (.int .i64 k) false).run Try.prog w = .ok (.bool false) w:=by
 have:=h.look law2 Try.underlying140 (zero4 _) (key2 h64);simp only [if_neg hk,Option.getD_none] at this;exact this
theorem BI.read {p:Nat→Prop} {bb sb m mb:Nat} {g cl:Nat} {tv:Value} {l:TL} {w w':World} {n:Int} (h:BI p bb sb (.slice (some ⟨g,0,none⟩) m cl) tv m l w) (hmb:¬ ownK bb sb (.slice (some ⟨g,0,none⟩) m cl) tv mb∧(∀ b∈l,mb≠b.2.1)∧¬ p mb) (T:Turned (· = mb) w w') (h0:0≤n) (h1:n < (m:Int)) :
 w'.cell? ⟨bb,0,none⟩=some (.slice (some ⟨g,0,none⟩) m cl)∧w'.cell? ⟨g,n.toNat,none⟩=some (ptrV (lookL l n))∧BI p bb sb (.slice (some ⟨g,0,none⟩) m cl) tv m l w':=by
 have hb:=h.turned T (fun k _ e=>by rw [show k=mb from e];exact hmb);obtain ⟨c0,_⟩:=rec2b hb.b;refine ⟨c0,?_,hb⟩;have:=hb.row.cells rfl n.toNat _ (ptrs_at (by omega));rw [Int.toNat_of_nonneg h0] at this;exact this
theorem own_new {g n c:Nat} {w W:World} (hg:g=W.heap.size) (hW:w.heap.size≤W.heap.size):∀ k,(Value.slice (some ⟨g,0,none⟩) n c).ownBlock=some k→w.heap.size≤k:=by
 intro k hk;simp [Value.ownBlock] at hk;omega
def WithR (p:Nat→Prop) (mb m:Nat) (l:TL) (n:Int) (t:LT) (w0:World) (k:Nat) (v:Value) (wr:World):Prop:=
 ∃ (todo:List LT) (had:List Int),Hid (Tm.sizes todo+Tm.gasT (bt l) had=k)∧k≤131074000∧Hid (SeekI p mb m l n t w0 todo had v wr)
set_option maxRecDepth 100000 in
theorem within145 {p:Nat→Prop} {bb sb m:Nat} {lv tv:Value} {l:TL} {w:World} {mb:Nat} {t:LT} {n:Int} (h:BI p bb sb lv tv m l w) (ht:t.In p w) (hg:Tm.ownB m t=true) (hn:n∉Tm.dom (bt l)) (hm:IMap Try.prog 2 w mb 0 (fun _=>none)) (hmb:¬ ownK bb sb lv tv mb∧(∀ b∈l,mb≠b.2.1)∧¬ p mb) :
 Calls Try.prog 145 #[.pointer (some ⟨bb,0,none⟩),.int .i64 n,t.val,.map (some mb)] w fun e w'=>e = .returned (.bool (decide (n∈(Tm.img (bt l) t.bare).vars)))∧Turned (· = mb) w w':=by
 obtain ⟨i0,hi0,hz0,hz1,hz2⟩:=info_parts infoT
 have hgood:goodB t=true:=by unfold Tm.ownB at hg;exact (Bool.and_eq_true_iff.1 hg).1
 have hgiv:given m t:=by
  have h1:=Tm.ownB_iff.1 (show Tm.ownB m t.bare=true by unfold Tm.ownB at hg ⊢;rw [goodB_bare,Tm.vars_bare];exact hg);exact ⟨Tm.good_ones' h1.1,h1.2⟩
 have hsz:t.size≤2000:=by
  unfold goodB at hgood;simp only [Qd,decide_eq_true_eq] at hgood;exact hgood.1
 have hgas:Tm.gasT (bt l) []≤2000 * 65536:=by
  have h1:=Tm.gasT_le h.ok [];have h2:=h.length;have h3:=h.most;rw [bt_length] at h1;omega
 have hmlt:=hm.lt;have h2:=twoBox w (.cells #[.int .i64 t.kind,.int .i64 t.n,.string t.name,.slice t.at_.1 t.args.length t.at_.2] 27) (.cells #[.int .i64 t.kind,.int .i64 t.n,.string t.name,.slice t.at_.1 t.args.length t.at_.2] 27);obtain ⟨RB,hRB⟩:∃ z,z=decide (n∈(Tm.img (bt l) t.bare).vars):=⟨_,rfl⟩;rw [←hRB];have HRB:=hid hRB
 have hst:Hid (SeekI p mb m l n t w [t] [] (.slice (some ⟨w.heap.size+1,0,none⟩) 1 1) ((w.alloc (.cells #[.int .i64 t.kind,.int .i64 t.n,.string t.name,.slice t.at_.1 t.args.length t.at_.2] 27)).alloc (.cells #[.int .i64 t.kind,.int .i64 t.n,.string t.name,.slice t.at_.1 t.args.length t.at_.2] 27))):=by
  refine ⟨?_,fun g e=>by simp [Value.ownBlock] at e;omega,hm.turned h2.1 (fun f=>f),Tm.Seek.start (given_leafy hgiv),fun y hy=>?_,List.nodup_nil,fun k hk=>(by cases hk),h2.1.mono (fun _ _ f=>f.elim),hmlt⟩
  · have:=Row.made (w.alloc (.cells #[.int .i64 t.kind,.int .i64 t.n,.string t.name,.slice t.at_.1 t.args.length t.at_.2] 27)) 27 4 #[.int .i64 t.kind,.int .i64 t.n,.string t.name,.slice t.at_.1 t.args.length t.at_.2] 1 rfl (by unfold maxLen;omega)
    simpa [LT.cells_eq] using this
  · rw [List.mem_singleton] at hy
    rw [hy];exact ⟨ht,hgiv⟩
 have H:=hid h;have HN:=hid hn;have HMB:=hid hmb
 have HSZ:Hid (t.size+Tm.gasT (bt l) []≤131074000):=show _≤_ by omega
 clear h ht hg hn hm hmb hgood hgiv hsz hgas hmlt h2 hRB;rw [LT.val_eq];go_enter Try.func145,Try.ntmps145
 go_wp2_with fail
 revert hst;generalize ((w.alloc (.cells #[.int .i64 t.kind,.int .i64 t.n,.string t.name,.slice t.at_.1 t.args.length t.at_.2] 27)).alloc (.cells #[.int .i64 t.kind,.int .i64 t.n,.string t.name,.slice t.at_.1 t.args.length t.at_.2] 27))=w1;intro hst
 go_loopg [9] (t.size+Tm.gasT (bt l) []) (fun k v wr=>WithR p mb m l n t w k v wr)
 case atStart=>exact ⟨[t],[],show _=_ by simp only [Tm.sizes];omega,HSZ.out,hst⟩
 case round=>
  obtain ⟨todo,had,HG,hk0,HI⟩:=hrel;obtain ⟨wo,rfl⟩:∃ wo:World,wo=wr:=⟨_,rfl⟩;have hroom:=HI.out.room
  rcases List.eq_nil_or_concat todo with rfl | ⟨ys,x,rfl⟩
  · obtain ⟨a,cap,rfl⟩:=HI.out.row.shape
    have hres:RB=false:=by
     rw [HRB.out,decide_eq_false];have hs:=HI.out.seek
     exact fun c=>hs.stop ((Tm.vars_mem n).1 c)
    clear hroom
    go_wp2_with fail
    go_ret;rw [hres];exact ⟨rfl,HI.out.turned⟩
  · rw [List.concat_eq_append] at HG HI hroom
    obtain ⟨g,cap,rfl⟩:=HI.out.row.shape_pos (by simp);obtain ⟨hn1,hrow,hc1,hc2⟩:=HI.out.pop;obtain ⟨c0,c1,c2,c3⟩:=HI.out.top;obtain ⟨hxin,hxg⟩:=HI.out.mem x (by simp)
    have hys:ys.length≤131074000:=by have:=HG.out;rw [Qi,List.length_singleton] at hroom;omega
    have hc3:cap≤9223372036854775807:=by unfold maxLen at hc2;exact hc2
    have hal:x.args.length≤8:=given_arity hxg;have hlen:=hxin.len
    have hac:x.at_.2≤9223372036854775807:=by have:=hlen.2.1;unfold maxLen at this;exact this
    have hgw:=hrow.lt g rfl;have HWO:Hid (w.heap.size≤wo.heap.size):=HI.out.turned.size;have TX:Turned zN wo (wo.alloc (.cells #[.int .i64 x.kind,.int .i64 x.n,.string x.name,.slice x.at_.1 x.args.length x.at_.2] 27)):=(Turned.refl _ wo).alloc _;have hbox:=heap_alloc_new wo (.cells #[.int .i64 x.kind,.int .i64 x.n,.string x.name,.slice x.at_.1 x.args.length x.at_.2] 27)
    have HIX:Hid (SeekI p mb m l n t w (ys++[x]) had (.slice (some ⟨g,0,none⟩) (ys.length+1) cap) (wo.alloc (.cells #[.int .i64 x.kind,.int .i64 x.n,.string x.name,.slice x.at_.1 x.args.length x.at_.2] 27))):=by
     have:=HI.out.turned0 TX;rw [hn1] at this;exact this
    have HRX:=hid (hrow.turned0 TX);have HLX:=hid (((LT.In.turned HI.out.turned (fun k hk hp e=>by have:=HMB.out.2.2;rw [e] at hp;exact this hp) (fun _ _ q=>q) _ hxin).turned0 TX).lies)
    have HGN:Hid (g≠wo.heap.size):=by show _≠_;omega
    rw [Qi,List.length_singleton];have HXG:=hid hxg;have HLN:=hid hlen;clear hrow hxin hxg hroom hlen;have HIQ:=And.intro HIX (And.intro HRX (And.intro HLX (hid hbox)));clear HIX HRX HLX hbox HI TX
    by_cases hk:x.kind=0
    · have hkx:(x.kind != 0)=false:=by simp [hk]
      have hv:=given_var HXG.out hk;have HARG:=hid hv.2.2.2.1;obtain ⟨gl,cl,hle⟩:=H.out.row.shape_pos (by omega);subst hle;have hmx:=H.out.row.max
      have h64:Hid (I64 x.n):=by show I64 x.n;unfold I64;omega
      have hv0:=hv.1;have hv1:=hv.2.1;have hkey:=key2 h64.out;have HV:=hid hv.2.2.2.2;clear hv;have HK:=hid hk;clear hk;have hm65:=H.out.most;have hadl:=HIQ.1.out.size H.out.ok
      by_cases hm:x.n∈had
      · have HM:=hid hm
        clear hm
        go_wp2_with fail
        revert HIQ;generalize wo.alloc (.cells #[.int .i64 x.kind,.int .i64 x.n,.string x.name,.slice x.at_.1 x.args.length x.at_.2] 27)=wx;obtain ⟨B,hB⟩:∃ z,z=wo.heap.size:=⟨_,rfl⟩;rw [←hB] at HGN;rw [←hB];have HBE:=hid hB;clear hB
        have hcc:ys.length≤cap:=by omega
        have hwr:IntKind.i64.wrap (ys.length:Int)=(ys.length:Int):=wrapI (by omega) (by omega);intro HIQ;obtain ⟨HIX,HRX,HLX,HBX⟩:=HIQ;obtain ⟨x0,x1,x2,x3,_⟩:=cells4 HBX.out;refine region_tail 7 (by kernel_rfl) (by kernel_rfl) ?_;simp only [List.take_succ_cons,List.take_zero,List.drop_succ_cons,List.drop_zero]
        repeat still_step
        refine wpStill_nil ?_
        go_wp2_with (first
         | (at_builtin;refine append_any _ rfl _ _ 22 rfl 27 i0 zeroT 4 56 Try.underlying22 hi0 hz0 hz1 hz2 rfl (by decide) (.slice (some ⟨g,0,none⟩) ys.length cap) ys.length (ys.flatMap LT.cells) rfl (HRX.out.turned0 (Turned.refl _ _).drew) x.at_.1 x.args.length x.at_.2 (x.args.flatMap LT.cells) rfl HLN.out.2.2 (by rw [LT.flat_length]) (fun ad e j u hu=>lies_any HLX.out ad e j u hu) (LT.flat_one _) (by unfold maxLen;omega) (by omega) ?_;intro v' w3 hr3 T3' ho3';have T3:Turned (fun k=>(Value.slice (some ⟨g,0,none⟩) ys.length cap).ownBlock=some k) wx w3:=(Turned.refl _ wx).drew.trans T3';have ho3:v'.ownBlock=(Value.slice (some ⟨g,0,none⟩) (ys.length+1) cap).ownBlock∨∀ k,v'.ownBlock=some k→wx.heap.size≤k:=ho3'.elim .inl (fun e=>.inr (fun k hk=>by rw [hk] at e;injection e with e;exact Nat.le_of_eq e.symm));have hb3:=(T3.block B (zL HBX.out) (fun e=>HGN.out (by simpa [Value.ownBlock] using e))).trans HBX.out;obtain ⟨y0,y1,y2,y3,_⟩:=cells4 hb3;have HB3:=hid hb3;clear x0 x1 x2 x3 hb3 T3' ho3';have hr3':Row w3 27 4 v' (ys.length+0) (ys.flatMap LT.cells++[]):=(by rw [HARG.out] at hr3;exact hr3);obtain ⟨q1,q2,q3,q4⟩:=HIX.out.row_var hr3' T3 ho3;obtain ⟨a',cap',rfl⟩:=q1.shape;have hmx':=q1.max;have HR3:=hid hr3';have HQ3:=hid q3;clear hr3 hr3' q1 q2 q3 q4;have hlk:=had_yes HQ3.out HM.out h64.out))
        have HI3:Hid (SeekI p mb m l n t w ys had _ w3):=HIX.out.skip HK.out HM.out HR3.out T3 ho3;have HGB:Hid (0≤0):=Qm 0;go_roundg (Tm.sizes ys+Tm.gasT (bt l) had)
        case measure=>
         have:=HG.out;have:=Tm.size_eq x;have hgb:=HGB.out;simp only [Tm.sizes_append,Tm.sizes] at *;omega
        case rel=>
         refine ⟨_,_,rfl,?_,HI3⟩;have:=HG.out;have:=Tm.size_eq x;have hgb:=HGB.out;simp only [Tm.sizes_append,Tm.sizes] at *;omega
      · have HM:=hid hm
        clear hm
        by_cases hxn:x.n=n
        · have hxb:(x.n == n)=true:=by simp [hxn]
          have hres:RB=true:=by
           rw [HRB.out,decide_eq_true];have hs:=HIQ.1.out.seek;rw [List.map_append,Qx,List.map_nil,HV.out,hxn] at hs;exact (Tm.vars_mem n).2 (hs.found H.out.ok HN.out)
          have HRES:=hid hres;clear hres hxn
          go_wp2_with fail
          revert HIQ;generalize wo.alloc (.cells #[.int .i64 x.kind,.int .i64 x.n,.string x.name,.slice x.at_.1 x.args.length x.at_.2] 27)=wx;obtain ⟨B,hB⟩:∃ z,z=wo.heap.size:=⟨_,rfl⟩;rw [←hB] at HGN;rw [←hB];have HBE:=hid hB;clear hB
          have hcc:ys.length≤cap:=by omega
          have hwr:IntKind.i64.wrap (ys.length:Int)=(ys.length:Int):=wrapI (by omega) (by omega);intro HIQ;obtain ⟨HIX,HRX,HLX,HBX⟩:=HIQ;obtain ⟨x0,x1,x2,x3,_⟩:=cells4 HBX.out;refine region_tail 7 (by kernel_rfl) (by kernel_rfl) ?_;simp only [List.take_succ_cons,List.take_zero,List.drop_succ_cons,List.drop_zero]
          repeat still_step
          refine wpStill_nil ?_
          go_wp2_with (first
           | (at_builtin;refine append_any _ rfl _ _ 22 rfl 27 i0 zeroT 4 56 Try.underlying22 hi0 hz0 hz1 hz2 rfl (by decide) (.slice (some ⟨g,0,none⟩) ys.length cap) ys.length (ys.flatMap LT.cells) rfl (HRX.out.turned0 (Turned.refl _ _).drew) x.at_.1 x.args.length x.at_.2 (x.args.flatMap LT.cells) rfl HLN.out.2.2 (by rw [LT.flat_length]) (fun ad e j u hu=>lies_any HLX.out ad e j u hu) (LT.flat_one _) (by unfold maxLen;omega) (by omega) ?_;intro v' w3 hr3 T3' ho3';have T3:Turned (fun k=>(Value.slice (some ⟨g,0,none⟩) ys.length cap).ownBlock=some k) wx w3:=(Turned.refl _ wx).drew.trans T3';have ho3:v'.ownBlock=(Value.slice (some ⟨g,0,none⟩) (ys.length+1) cap).ownBlock∨∀ k,v'.ownBlock=some k→wx.heap.size≤k:=ho3'.elim .inl (fun e=>.inr (fun k hk=>by rw [hk] at e;injection e with e;exact Nat.le_of_eq e.symm));have hb3:=(T3.block B (zL HBX.out) (fun e=>HGN.out (by simpa [Value.ownBlock] using e))).trans HBX.out;obtain ⟨y0,y1,y2,y3,_⟩:=cells4 hb3;have HB3:=hid hb3;clear x0 x1 x2 x3 hb3 T3' ho3';have hr3':Row w3 27 4 v' (ys.length+0) (ys.flatMap LT.cells++[]):=(by rw [HARG.out] at hr3;exact hr3);obtain ⟨q1,q2,q3,q4⟩:=HIX.out.row_var hr3' T3 ho3;obtain ⟨a',cap',rfl⟩:=q1.shape;have hmx':=q1.max;have HR3:=hid hr3';have HQ3:=hid q3;clear hr3 hr3' q1 q2 q3 q4;have hlk:=had_no HQ3.out HM.out h64.out))
          go_ret;rw [HRES.out];exact ⟨rfl,(HIX.out.row_var HR3.out T3 ho3).2.2.2⟩
        · have hxb:(x.n == n)=false:=by simp [hxn]
          have HNE:=hid hxn;clear hxn
          cases hlk0:lookL l x.n with
          | none=>
           have HLK:=hid hlk0;clear hlk0
           go_wp2_with fail
           revert HIQ;generalize wo.alloc (.cells #[.int .i64 x.kind,.int .i64 x.n,.string x.name,.slice x.at_.1 x.args.length x.at_.2] 27)=wx;obtain ⟨B,hB⟩:∃ z,z=wo.heap.size:=⟨_,rfl⟩;rw [←hB] at HGN;rw [←hB];have HBE:=hid hB;clear hB
           have hcc:ys.length≤cap:=by omega
           have hwr:IntKind.i64.wrap (ys.length:Int)=(ys.length:Int):=wrapI (by omega) (by omega);intro HIQ;obtain ⟨HIX,HRX,HLX,HBX⟩:=HIQ;obtain ⟨x0,x1,x2,x3,_⟩:=cells4 HBX.out;refine region_tail 7 (by kernel_rfl) (by kernel_rfl) ?_;simp only [List.take_succ_cons,List.take_zero,List.drop_succ_cons,List.drop_zero]
           repeat still_step
           refine wpStill_nil ?_
           go_wp2_with (first
            | (at_builtin;refine append_any _ rfl _ _ 22 rfl 27 i0 zeroT 4 56 Try.underlying22 hi0 hz0 hz1 hz2 rfl (by decide) (.slice (some ⟨g,0,none⟩) ys.length cap) ys.length (ys.flatMap LT.cells) rfl (HRX.out.turned0 (Turned.refl _ _).drew) x.at_.1 x.args.length x.at_.2 (x.args.flatMap LT.cells) rfl HLN.out.2.2 (by rw [LT.flat_length]) (fun ad e j u hu=>lies_any HLX.out ad e j u hu) (LT.flat_one _) (by unfold maxLen;omega) (by omega) ?_;intro v' w3 hr3 T3' ho3';have T3:Turned (fun k=>(Value.slice (some ⟨g,0,none⟩) ys.length cap).ownBlock=some k) wx w3:=(Turned.refl _ wx).drew.trans T3';have ho3:v'.ownBlock=(Value.slice (some ⟨g,0,none⟩) (ys.length+1) cap).ownBlock∨∀ k,v'.ownBlock=some k→wx.heap.size≤k:=ho3'.elim .inl (fun e=>.inr (fun k hk=>by rw [hk] at e;injection e with e;exact Nat.le_of_eq e.symm));have hb3:=(T3.block B (zL HBX.out) (fun e=>HGN.out (by simpa [Value.ownBlock] using e))).trans HBX.out;obtain ⟨y0,y1,y2,y3,_⟩:=cells4 hb3;have HB3:=hid hb3;clear x0 x1 x2 x3 hb3 T3' ho3';have hr3':Row w3 27 4 v' (ys.length+0) (ys.flatMap LT.cells++[]):=(by rw [HARG.out] at hr3;exact hr3);obtain ⟨q1,q2,q3,q4⟩:=HIX.out.row_var hr3' T3 ho3;obtain ⟨a',cap',rfl⟩:=q1.shape;have hmx':=q1.max;have HR3:=hid hr3';have HQ3:=hid q3;clear hr3 hr3' q1 q2 q3 q4;have hlk:=had_no HQ3.out HM.out h64.out)
            | (at_mapUpdate;refine wpList_put rfl _ _ _ 140 rfl law2 Try.underlying140 rfl HQ3.out (by unfold maxLen;omega) rfl rfl hkey trivial ?_;intro w4 hm4 T4;have hmt:=HIX.out.met HK.out HM.out HR3.out T3 ho3 hm4 T4;obtain ⟨z0,z1,hb4⟩:=H.out.read HMB.out hmt.2.2.2.1 hv0 hv1;rw [HLK.out] at z1;have hx4:=(T4.block B (zL HB3.out) (fun e=>by have:=HBE.out;have:=HIX.out.base;have:=HIX.out.turned.size;have:=HWO.out;omega)).trans HB3.out;obtain ⟨u0,u1,u2,u3,_⟩:=cells4 hx4;have HM4:=hid hm4;have HR4:=hid hmt.1;have HBI4:=hid hb4;clear y0 y1 y2 y3 hm4 hmt hb4 hx4 hlk;rw [ptrV] at z1))
           go_quiet (fail)
           go_wp2_with fail
           have HI3:Hid (SeekI p mb m l n t w ys (x.n :: had) _ (w4.drewN nq)):=(HIX.out.free H.out.ok HK.out HM.out HNE.out HLK.out HR3.out T3 ho3 HM4.out T4 (bb:=bb) (sb:=sb) (lv:=.slice none 0 0) (tv:=tv)).turned0 ((Turned.refl _ w4).drewN nq);have HGB:Hid (Tm.gasT (bt l) (x.n :: had)≤Tm.gasT (bt l) had):=Tm.gasT_mono x.n;go_roundg (Tm.sizes ys+Tm.gasT (bt l) (x.n :: had))
           case measure=>
            have:=HG.out;have:=Tm.size_eq x;have hgb:=HGB.out;simp only [Tm.sizes_append,Tm.sizes] at *;omega
           case rel=>
            refine ⟨_,_,rfl,?_,HI3⟩;have:=HG.out;have:=Tm.size_eq x;have hgb:=HGB.out;simp only [Tm.sizes_append,Tm.sizes] at *;omega
          | some cy=>
           obtain ⟨c,y⟩:=cy;have HLK:=hid hlk0;clear hlk0
           go_wp2_with fail
           revert HIQ;generalize wo.alloc (.cells #[.int .i64 x.kind,.int .i64 x.n,.string x.name,.slice x.at_.1 x.args.length x.at_.2] 27)=wx;obtain ⟨B,hB⟩:∃ z,z=wo.heap.size:=⟨_,rfl⟩;rw [←hB] at HGN;rw [←hB];have HBE:=hid hB;clear hB
           have hcc:ys.length≤cap:=by omega
           have hwr:IntKind.i64.wrap (ys.length:Int)=(ys.length:Int):=wrapI (by omega) (by omega);intro HIQ;obtain ⟨HIX,HRX,HLX,HBX⟩:=HIQ;obtain ⟨x0,x1,x2,x3,_⟩:=cells4 HBX.out;refine region_tail 7 (by kernel_rfl) (by kernel_rfl) ?_;simp only [List.take_succ_cons,List.take_zero,List.drop_succ_cons,List.drop_zero]
           repeat still_step
           refine wpStill_nil ?_
           go_wp2_with (first
            | (at_builtin;refine append_any _ rfl _ _ 22 rfl 27 i0 zeroT 4 56 Try.underlying22 hi0 hz0 hz1 hz2 rfl (by decide) (.slice (some ⟨g,0,none⟩) ys.length cap) ys.length (ys.flatMap LT.cells) rfl (HRX.out.turned0 (Turned.refl _ _).drew) x.at_.1 x.args.length x.at_.2 (x.args.flatMap LT.cells) rfl HLN.out.2.2 (by rw [LT.flat_length]) (fun ad e j u hu=>lies_any HLX.out ad e j u hu) (LT.flat_one _) (by unfold maxLen;omega) (by omega) ?_;intro v' w3 hr3 T3' ho3';have T3:Turned (fun k=>(Value.slice (some ⟨g,0,none⟩) ys.length cap).ownBlock=some k) wx w3:=(Turned.refl _ wx).drew.trans T3';have ho3:v'.ownBlock=(Value.slice (some ⟨g,0,none⟩) (ys.length+1) cap).ownBlock∨∀ k,v'.ownBlock=some k→wx.heap.size≤k:=ho3'.elim .inl (fun e=>.inr (fun k hk=>by rw [hk] at e;injection e with e;exact Nat.le_of_eq e.symm));have hb3:=(T3.block B (zL HBX.out) (fun e=>HGN.out (by simpa [Value.ownBlock] using e))).trans HBX.out;obtain ⟨y0,y1,y2,y3,_⟩:=cells4 hb3;have HB3:=hid hb3;clear x0 x1 x2 x3 hb3 T3' ho3';have hr3':Row w3 27 4 v' (ys.length+0) (ys.flatMap LT.cells++[]):=(by rw [HARG.out] at hr3;exact hr3);obtain ⟨q1,q2,q3,q4⟩:=HIX.out.row_var hr3' T3 ho3;obtain ⟨a',cap',rfl⟩:=q1.shape;have hmx':=q1.max;have HR3:=hid hr3';have HQ3:=hid q3;clear hr3 hr3' q1 q2 q3 q4;have hlk:=had_no HQ3.out HM.out h64.out)
            | (at_mapUpdate;refine wpList_put rfl _ _ _ 140 rfl law2 Try.underlying140 rfl HQ3.out (by unfold maxLen;omega) rfl rfl hkey trivial ?_;intro w4 hm4 T4;have hmt:=HIX.out.met HK.out HM.out HR3.out T3 ho3 hm4 T4;obtain ⟨z0,z1,hb4⟩:=H.out.read HMB.out hmt.2.2.2.1 hv0 hv1;rw [HLK.out] at z1;have hx4:=(T4.block B (zL HB3.out) (fun e=>by have:=HBE.out;have:=HIX.out.base;have:=HIX.out.turned.size;have:=HWO.out;omega)).trans HB3.out;obtain ⟨u0,u1,u2,u3,_⟩:=cells4 hx4;have HM4:=hid hm4;have HR4:=hid hmt.1;have HBI4:=hid hb4;clear y0 y1 y2 y3 hm4 hmt hb4 hx4 hlk;rw [ptrV] at z1;obtain ⟨t0,t1,t2,t3,_⟩:=cells4 (HBI4.out.terms _ (lookL_mem HLK.out)).1))
           go_quiet (fail)
           go_wp2_with (first
            | (at_builtin;refine append_some _ rfl _ _ 22 rfl 27 i0 zeroT 4 56 Try.underlying22 hi0 hz0 hz1 hz2 rfl (by decide) (.slice a' ys.length cap') ys.length (ys.flatMap LT.cells) rfl ((HR4.out.turned0 ((Turned.refl _ _).drewN nq)).alloc _) ⟨w4.heap.size,0,none⟩ 1 1 y.cells rfl (LT.cells_length y) (news_block (by rw [LT.cells_eq];exact heap_alloc_new (w4.drewN nq) _)) (LT.cells_one y) (by omega) (by unfold maxLen;omega) (by omega) ?_;intro g5 cap5 w5 hr5 T5' hg5;have T5:Turned (fun k=>(Value.slice a' ys.length cap').ownBlock=some k) w4 w5:=(((Turned.refl _ w4).drewN nq).alloc _).trans T5'))
           have HI3:Hid (SeekI p mb m l n t w (ys++[y]) (x.n :: had) (.slice (some ⟨g5,0,none⟩) (ys.length+1) cap5) w5):=HIX.out.bound H.out HK.out HM.out HLK.out HR3.out T3 ho3 HM4.out T4 hr5 T5 (hg5.elim (fun e=>.inl e) (fun e=>.inr (own_new e (by simp))))
           have HGB:Hid (Tm.gasT (bt l) (x.n :: had)+y.size≤Tm.gasT (bt l) had):=by
            have:=Tm.gasT_met (p:=y.bare) (by rw [look_bt,HLK.out];rfl) HM.out;rw [Tm.size_bare] at this;exact this
           go_roundg (Tm.sizes (ys++[y])+Tm.gasT (bt l) (x.n :: had))
           case measure=>
            have:=HG.out;have:=Tm.size_eq x;have hgb:=HGB.out;simp only [Tm.sizes_append,Tm.sizes] at *;omega
           case rel=>
            refine ⟨_,_,rfl,?_,HI3⟩;have:=HG.out;have:=Tm.size_eq x;have hgb:=HGB.out;simp only [Tm.sizes_append,Tm.sizes] at *;omega
    · have hkx:(x.kind != 0)=true:=by simp [hk]
      have HK:=hid hk;clear hk
      go_wp2_with fail
      revert HIQ;generalize wo.alloc (.cells #[.int .i64 x.kind,.int .i64 x.n,.string x.name,.slice x.at_.1 x.args.length x.at_.2] 27)=wx;obtain ⟨B,hB⟩:∃ z,z=wo.heap.size:=⟨_,rfl⟩;rw [←hB] at HGN;rw [←hB];have HBE:=hid hB;clear hB
      have hcc:ys.length≤cap:=by omega
      have hwr:IntKind.i64.wrap (ys.length:Int)=(ys.length:Int):=wrapI (by omega) (by omega);intro HIQ;obtain ⟨HIX,HRX,HLX,HBX⟩:=HIQ;obtain ⟨x0,x1,x2,x3,_⟩:=cells4 HBX.out;refine region_tail 7 (by kernel_rfl) (by kernel_rfl) ?_;simp only [List.take_succ_cons,List.take_zero,List.drop_succ_cons,List.drop_zero]
      repeat still_step
      refine wpStill_nil ?_
      go_wp2_with (first
       | (at_builtin;refine append_any _ rfl _ _ 22 rfl 27 i0 zeroT 4 56 Try.underlying22 hi0 hz0 hz1 hz2 rfl (by decide) (.slice (some ⟨g,0,none⟩) ys.length cap) ys.length (ys.flatMap LT.cells) rfl (HRX.out.turned0 (Turned.refl _ _).drew) x.at_.1 x.args.length x.at_.2 (x.args.flatMap LT.cells) rfl HLN.out.2.2 (by rw [LT.flat_length]) (fun ad e j u hu=>lies_any HLX.out ad e j u hu) (LT.flat_one _) (by unfold maxLen;omega) (by omega) ?_;intro v' w3 hr3 T3' ho3';have T3:Turned (fun k=>(Value.slice (some ⟨g,0,none⟩) ys.length cap).ownBlock=some k) wx w3:=(Turned.refl _ wx).drew.trans T3';have ho3:v'.ownBlock=(Value.slice (some ⟨g,0,none⟩) (ys.length+1) cap).ownBlock∨∀ k,v'.ownBlock=some k→wx.heap.size≤k:=ho3'.elim .inl (fun e=>.inr (fun k hk=>by rw [hk] at e;injection e with e;exact Nat.le_of_eq e.symm));have hb3:=(T3.block B (zL HBX.out) (fun e=>HGN.out (by simpa [Value.ownBlock] using e))).trans HBX.out;obtain ⟨y0,y1,y2,y3,_⟩:=cells4 hb3;have HB3:=hid hb3;clear x0 x1 x2 x3 hb3 T3' ho3'))
      have HI3:Hid (SeekI p mb m l n t w (ys++x.args) had v' w3):=HIX.out.args HK.out hr3 T3 ho3;obtain ⟨a',cap',rfl⟩:=hr3.shape;have HGB:Hid (0≤0):=Qm 0;go_roundg (Tm.sizes (ys++x.args)+Tm.gasT (bt l) had)
      case measure=>
       have:=HG.out;have:=Tm.size_eq x;have hgb:=HGB.out;simp only [Tm.sizes_append,Tm.sizes] at *;omega
      case rel=>
       refine ⟨_,_,rfl,?_,HI3⟩;have:=HG.out;have:=Tm.size_eq x;have hgb:=HGB.out;simp only [Tm.sizes_append,Tm.sizes] at *;omega
theorem ownB_bare (m:Nat) (t:LT):Tm.ownB m t.bare=Tm.ownB m t:=by unfold Tm.ownB;rw [goodB_bare,Tm.vars_bare]
theorem noted0 {w w':World} {o:Obj} (T:Turned (· = w.heap.size) (w.alloc o) w'):Turned zN w w':=
 ((Turned.refl (fun _=>False) w).alloc o).step T (fun i hi e=>by omega)
section
variable {p:Nat→Prop} {bb sb m:Nat} {lv tv:Value} {l:TL} {w w':World} {t:LT} {n:Int}
def SetQ (p:Nat→Prop) (bb sb m:Nat) (lv tv:Value) (l:TL) (w:World) (n:Int) (t:LT) (w':World):Prop:=
 (∃ tv' l',BI p bb sb lv tv' m l' w'∧bt l'=(if Tm.setE m (bt l) n t.bare=0 then (n,t.bare) :: bt l else bt l)∧(tv'.ownBlock=tv.ownBlock∨∀ k,tv'.ownBlock=some k→w.heap.size≤k)∧∀ b∈l',b∈l∨w.heap.size≤b.2.1)∧Turned (fun k=>k=sb∨lv.ownBlock=some k∨tv.ownBlock=some k) w w'
theorem SetQ.same (h:BI p bb sb lv tv m l w) (hE:¬ Tm.setE m (bt l) n t.bare=0) (T:Turned zN w w'):SetQ p bb sb m lv tv l w n t w':=
 ⟨⟨tv,l,h.turned0 T,by rw [if_neg hE],.inl rfl,fun b hb=>.inl hb⟩,T.mono (fun _ _ f=>f.elim)⟩
theorem push_at {g cl i:Nat} {v:Value} (hb:BI p bb sb (.slice (some ⟨g,0,none⟩) m cl) tv m l w) (hn:l.length < 65536) (hi:i < m) :
 Calls Try.prog 146 #[.pointer (some ⟨sb,0,none⟩),.slice (some ⟨w.heap.size,0,none⟩) 1 1] ((w.setCell ⟨g,i,none⟩ v).alloc (.cells #[.int .i64 n] 2)) fun e w'=>e = .returned (.bool true)∧∃ tv',w'.heap[sb]? = some (.cells #[.int .i64 65536,tv'] 209 (0,0))∧
  Row w' 2 1 tv' (l.length+1) ((l.map fun b=>Value.int .i64 b.1).reverse++[.int .i64 n])∧Row w' 165 1 (.slice (some ⟨g,0,none⟩) m cl) m ((ptrs m l).set i v)∧Turned (fun k=>k=sb∨(Value.slice (some ⟨g,0,none⟩) m cl).ownBlock=some k∨tv.ownBlock=some k) w w'∧(tv'.ownBlock=tv.ownBlock∨∀ k,tv'.ownBlock=some k→w.heap.size+1≤k):=by
 obtain ⟨n1,n2,n3,n4,n5,n6⟩:=hb.ne
 have hgs:g≠sb:=fun e=>n3 (by rw [e];rfl)
 have hsl:=(zL hb.s);have hgl:=hb.row.lt g rfl;have T1:Turned (fun k=>k=g) w (w.setCell ⟨g,i,none⟩ v):=(Turned.refl (fun k=>k=g) w).setCell (p:=⟨g,i,none⟩) (.inr rfl) v;have T2:=T1.alloc (.cells #[.int .i64 n] 2);have hs2:=(T2.block sb hsl (fun e=>hgs e.symm)).trans hb.s;have ht2:=hb.trail.turned T2 (fun k hk e=>n6 g rfl (by rw [←e];exact hk));have hr2:=(hb.row.setAt (off:=i) (by omega) v).turned0 ((Turned.refl _ _).alloc (.cells #[.int .i64 n] 2));have h0:=heap_alloc_new (w.setCell ⟨g,i,none⟩ v) (.cells #[.int .i64 n] 2)
 have hz:(w.setCell ⟨g,i,none⟩ v).heap.size=w.heap.size:=by simp
 rw [hz] at h0;refine (push146 hs2 ht2 hn n5 h0).mono ?_
 rintro e w' ⟨rfl,tv',g1,g2,g3,g4⟩
 refine ⟨rfl,tv',g1,g2,hr2.turned g3 (fun k hk e=>?_),(T2.mono (fun k _ e=>.inr (.inl (by rw [e];rfl)))).trans (g3.mono (fun k _ e=>e.elim .inl (fun e=>.inr (.inr e)))),g4.elim .inl (fun q=>.inr (fun k hk=>?_))⟩
 · simp [Value.ownBlock] at hk
   subst hk;exact e.elim hgs (fun e=>n6 g rfl e)
 · have:=q k hk
   have h2:((w.setCell ⟨g,i,none⟩ v).alloc (.cells #[.int .i64 n] 2)).heap.size=w.heap.size+1:=by simp
   omega
theorem SetQ.done {g cl:Nat} {tv':Value} {w6 w9:World} (h:BI p bb sb (.slice (some ⟨g,0,none⟩) m cl) tv m l w) (ht:t.In p w) (h0:0≤n) (h1:n < (m:Int)) (hE:Tm.setE m (bt l) n t.bare=0) (T6:Turned zN w w6) (hD:BI p bb sb (.slice (some ⟨g,0,none⟩) m cl) tv m l w6)
 (hc:w6.heap[w.heap.size]? = some (.cells #[.int .i64 t.kind,.int .i64 t.n,.string t.name,.slice t.at_.1 t.args.length t.at_.2] 27 (0,0)))
 (g1:w9.heap[sb]? = some (.cells #[.int .i64 65536,tv'] 209 (0,0))) (g2:Row w9 2 1 tv' (l.length+1) ((l.map fun b=>Value.int .i64 b.1).reverse++[.int .i64 n])) (g3:Row w9 165 1 (.slice (some ⟨g,0,none⟩) m cl) m ((ptrs m l).set n.toNat (.pointer (some ⟨w.heap.size,0,none⟩))))
 (g4:Turned (fun k=>k=sb∨(Value.slice (some ⟨g,0,none⟩) m cl).ownBlock=some k∨tv.ownBlock=some k) w6 w9) (g5:tv'.ownBlock=tv.ownBlock∨∀ k,tv'.ownBlock=some k→w6.heap.size+1≤k):SetQ p bb sb m (.slice (some ⟨g,0,none⟩) m cl) tv l w n t w9:=by
 have hn:((n.toNat:Nat):Int)=n:=Int.toNat_of_nonneg h0;have hcl:=(zL hc);refine ⟨⟨tv',((n.toNat:Int),w.heap.size,t) :: l,?_,?_,?_,fun b hb=>(Qw.1 hb).elim (fun e=>.inr (by rw [e];exact Qm _)) .inl⟩,(T6.mono (fun _ _ f=>f.elim)).trans g4⟩
 · refine hD.set (by omega) (by rw [hn];exact hE) g4 g1 g3 (by rw [hn];exact g2) (g5.elim .inl (fun q=>.inr (fun k hk=>?_))) hc (fun c=>?_) (ht.turned0 T6)
   · have:=q k hk;omega
   · exact Qy _ (h.own_lt _ c)
 · rw [if_pos hE,hn];rfl
 · refine g5.elim .inl (fun q=>.inr (fun k hk=>?_))
   have:=q k hk;have:=T6.size;omega
set_option maxRecDepth 100000 in
theorem set88 (h:BI p bb sb lv tv m l w) (ht:t.In p w) (hs:slim t) (n:Int) (h64:I64 n) :
 Calls Try.prog 88 #[.pointer (some ⟨bb,0,none⟩),.int .i64 n,t.val] w fun e w'=>e = .returned (.int .i64 (Tm.setE m (bt l) n t.bare))∧SetQ p bb sb m lv tv l w n t w':=by
 have hmm:=@run_makeMap Try.prog;have T1:=(Turned.refl (fun _=>False) w).alloc (.cells #[.int .i64 t.kind,.int .i64 t.n,.string t.name,.slice t.at_.1 t.args.length t.at_.2] 27);have hbx:=heap_alloc_new w (.cells #[.int .i64 t.kind,.int .i64 t.n,.string t.name,.slice t.at_.1 t.args.length t.at_.2] 27);have hgv:=given143q (h.turned0 T1) n;have how:=own144 (h.turned0 T1) (ht.turned0 T1) hs;have H:=hid h;have HT:=hid ht;have HV:=LT.val_eq t;rw [HV] at how ⊢;have HT1:=hid T1;have HBX:=hid hbx;have HEB:=hid (ownB_bare m t)
 by_cases hn0:0≤n∧n < (m:Int)
 · rw [decide_eq_true hn0] at hgv
   have HGV:=hid hgv;obtain ⟨hv0,hv1⟩:=hn0
   cases hob:Tm.ownB m t with
   | false=>
    rw [hob] at how
    have hE:Tm.setE m (bt l) n t.bare=1:=by unfold Tm.setE;rw [HEB.out,hob,if_neg (fun c=>Bool.false_ne_true c.2.2)]
    have HE:=hid hE;have HOW:=hid how;clear h ht hs hgv how hE hob T1 hbx HV;go_enter Try.func88,Try.ntmps88
    go_wp2_with (first
     | (go_at_call 143;(with_reducible refine HGV.out.mono ?_);rintro e w3 ⟨rfl,rfl⟩)
     | (go_at_call 144;(with_reducible refine HOW.out.mono ?_);rintro e w4 ⟨rfl,T4⟩))
    go_ret;exact ⟨by rw [HE.out];rfl,SetQ.same H.out (by rw [HE.out];decide) (HT1.out.trans T4)⟩
   | true=>
    rw [hob] at how;have HOW:=hid how;have hgb:=Tm.ownB_iff.1 (show Tm.ownB m t.bare=true by rw [HEB.out];exact hob);obtain ⟨g,cl,hle⟩:=h.row.shape_pos (by omega);subst hle;have hmx:=h.row.max;have hm65:=h.most
    have hfacts:∀ W,Turned zN (w.alloc (.cells #[.int .i64 t.kind,.int .i64 t.n,.string t.name,.slice t.at_.1 t.args.length t.at_.2] 27)) W→W.cell? ⟨bb,0,none⟩=some (.slice (some ⟨g,0,none⟩) m cl)∧W.cell? ⟨bb,1,none⟩=some (.pointer (some ⟨sb,0,none⟩))∧W.cell? ⟨g,n.toNat,none⟩=some (ptrV (lookL l n))∧W.frozen? ⟨g,n.toNat,none⟩=false∧W.heap[w.heap.size]? = some (.cells #[.int .i64 t.kind,.int .i64 t.n,.string t.name,.slice t.at_.1 t.args.length t.at_.2] 27 (0,0))∧BI p bb sb (.slice (some ⟨g,0,none⟩) m cl) tv m l W:=by
     intro W hW;have hb:=H.out.turned0 (HT1.out.trans hW);obtain ⟨c0,c1,_⟩:=rec2b hb.b;have hr:=hb.row.cells rfl n.toNat _ (ptrs_at (by omega));rw [Int.toNat_of_nonneg hv0] at hr;exact ⟨c0,c1,hr,hb.row.free rfl _,(hW.block _ (by simp) (fun f=>f)).trans HBX.out,hb⟩
    have HF:=hid hfacts
    cases hlk:lookL l n with
    | some cy=>
     obtain ⟨c,y⟩:=cy
     have hE:Tm.setE m (bt l) n t.bare=8:=by
      unfold Tm.setE;rw [HEB.out,if_pos ⟨hv0,hv1,hob⟩,if_pos]
      exact Classical.byContradiction (fun c=>by
       have:=h.free.2 c;rw [hlk] at this
       cases this)
     have HE:=hid hE;have HLK:=hid hlk;clear h ht hs hgv how hE hob T1 hbx HV hfacts hlk hgb;go_enter Try.func88,Try.ntmps88
     go_wp2_with (first
      | (go_at_call 143;(with_reducible refine HGV.out.mono ?_);rintro e w3 ⟨rfl,rfl⟩)
      | (go_at_call 144;(with_reducible refine HOW.out.mono ?_);rintro e w4 ⟨rfl,T4⟩;obtain ⟨b0,b1,b2,b3,b4,b5⟩:=HF.out _ T4;rw [HLK.out,ptrV] at b2;clear b4 b5))
     go_ret;exact ⟨by rw [HE.out];rfl,SetQ.same H.out (by rw [HE.out];decide) (HT1.out.trans T4)⟩
    | none=>
     have hdom:=h.free.1 hlk
     have hwi:∀ W,Turned zN (w.alloc (.cells #[.int .i64 t.kind,.int .i64 t.n,.string t.name,.slice t.at_.1 t.args.length t.at_.2] 27)) W→Calls Try.prog 145 #[.pointer (some ⟨bb,0,none⟩),.int .i64 n,.agg #[.int .i64 t.kind,.int .i64 t.n,.string t.name,.slice t.at_.1 t.args.length t.at_.2],.map (some W.heap.size)] (W.alloc (.map #[] 0)) fun e w'=>e = .returned (.bool (decide (n∈(Tm.img (bt l) t.bare).vars)))∧Turned (· = W.heap.size) (W.alloc (.map #[] 0)) w':=by
      intro W hW;have hb:=(HF.out W hW).2.2.2.2.2
      have hq:=within145 (mb:=W.heap.size) (hb.turned0 ((Turned.refl _ W).alloc (.map #[] 0))) (HT.out.turned0 ((HT1.out.trans hW).alloc _)) hob hdom (IMap.made W Try.prog 2)
       ⟨fun c=>Qy _ (hb.own_lt _ c),fun b hbm c=>(by have:=(zL (hb.terms b hbm).1);omega),fun c=>Qy _ (hb.sep _ c).1⟩
      rw [HV] at hq;exact hq
     have HLK:=hid hlk
     by_cases hvv:n∈(Tm.img (bt l) t.bare).vars
     · have hE:Tm.setE m (bt l) n t.bare=5:=by
        unfold Tm.setE;rw [HEB.out,if_pos ⟨hv0,hv1,hob⟩,if_neg hdom,if_pos hvv]
       have HE:=hid hE;rw [decide_eq_true hvv] at hwi;have HWI:=hid hwi;clear h ht hs hgv how hE hob T1 hbx HV hfacts hlk hgb hdom hvv hwi;go_enter Try.func88,Try.ntmps88
       go_wp2_with (first
        | (go_at_call 143;(with_reducible refine HGV.out.mono ?_);rintro e w3 ⟨rfl,rfl⟩)
        | (go_at_call 144;(with_reducible refine HOW.out.mono ?_);rintro e w4 ⟨rfl,T4⟩;obtain ⟨b0,b1,b2,b3,b4,b5⟩:=HF.out _ T4;rw [HLK.out,ptrV] at b2;obtain ⟨x0,x1,x2,x3,_⟩:=cells4 b4;clear b4 b5)
        | (go_at_call 145;(with_reducible refine (HWI.out _ T4).mono ?_);rintro e w6 ⟨rfl,T6⟩))
       go_ret;exact ⟨by rw [HE.out];rfl,SetQ.same H.out (by rw [HE.out];decide) ((HT1.out.trans T4).trans (noted0 T6))⟩
     · have hE:Tm.setE m (bt l) n t.bare=0:=by
        unfold Tm.setE;rw [HEB.out,if_pos ⟨hv0,hv1,hob⟩,if_neg hdom,if_neg hvv]
       have HE:=hid hE;rw [decide_eq_false hvv] at hwi;have HWI:=hid hwi
       have hne:¬ bb=g:=fun e=>h.ne.2.1 (by rw [e];rfl)
       have hne':¬ g=bb:=fun e=>hne e.symm
       have hlen:=h.length
       have hll:l.length < 65536:=by
        have:=nodup_length m (n :: Tm.dom (bt l)) (List.nodup_cons.2 ⟨hdom,Tm.okT_nodup h.ok⟩) (fun x hx=>by
         rcases Qw.1 hx with rfl | hx
         · exact ⟨hv0,hv1⟩
         · obtain ⟨b,hb,rfl⟩:=List.mem_map.1 hx
           have:=Tm.okT_mem h.ok hb
           exact ⟨this.1,this.2.1⟩)
        simp [Tm.dom,bt_length] at this;omega
       clear h ht hs hgv how hE hob T1 hbx HV hfacts hlk hgb hdom hvv hwi;go_enter Try.func88,Try.ntmps88
       go_wp2_with (first
        | (go_at_call 143;(with_reducible refine HGV.out.mono ?_);rintro e w3 ⟨rfl,rfl⟩)
        | (go_at_call 144;(with_reducible refine HOW.out.mono ?_);rintro e w4 ⟨rfl,T4⟩;obtain ⟨b0,b1,b2,b3,b4,b5⟩:=HF.out _ T4;rw [HLK.out,ptrV] at b2;obtain ⟨x0,x1,x2,x3,_⟩:=cells4 b4;clear b4 b5)
        | (go_at_call 145;(with_reducible refine (HWI.out _ T4).mono ?_);rintro e w6 ⟨rfl,T6⟩;have TM:=T4.trans (noted0 T6);obtain ⟨d0,d1,d2,d3,d4,d5⟩:=HF.out _ TM;have HD4:=hid d4;have HD5:=hid d5;have HTM:=hid TM;clear b0 b1 b2 b3 x0 x1 x2 x3 d4 d5 TM;rw [HLK.out,ptrV] at d2)
        | (go_at_call 146;(with_reducible refine (push_at HD5.out hll (by omega)).mono ?_);rintro e w9 ⟨rfl,tv',g1,g2,g3,g4,g5⟩;have HG:=hid (And.intro g1 (And.intro g2 (And.intro g3 (And.intro g4 g5))));clear g1 g2 g3 g4 g5))
       go_ret;refine ⟨by rw [HE.out];rfl,SetQ.done H.out HT.out hv0 hv1 HE.out (HT1.out.trans HTM.out) HD5.out HD4.out HG.out.1 HG.out.2.1 HG.out.2.2.1 HG.out.2.2.2.1 HG.out.2.2.2.2⟩
 · rw [decide_eq_false hn0] at hgv
   have HGV:=hid hgv
   have hE:Tm.setE m (bt l) n t.bare=1:=by unfold Tm.setE;rw [if_neg (fun c=>hn0 ⟨c.1,c.2.1⟩)]
   have HE:=hid hE;clear h ht hs hgv how hE hn0 hbx HV T1;go_enter Try.func88,Try.ntmps88
   go_wp2_with (go_at_call 143;(with_reducible refine HGV.out.mono ?_);rintro e w3 ⟨rfl,rfl⟩)
   go_ret;exact ⟨by rw [HE.out];rfl,SetQ.same H.out (by rw [HE.out];decide) HT1.out⟩
end
def wholeE (m:Nat) (l:Tm.Trail) (t:Tm Unit):Int:=if Tm.ownB m t=true then (if Tm.wholeB l t=true then 0 else 12) else 1
def wholeT (m:Nat) (l:Tm.Trail) (t:Tm Unit):Tm Unit:=if wholeE m l t=0 then Tm.img l t else (leaf 0 0 ByteArray.empty).bare
section
variable {p:Nat→Prop} {bb sb m:Nat} {lv tv:Value} {l:TL} {w w':World} {t:LT}
set_option maxRecDepth 100000 in
theorem whole89 (h:BI p bb sb lv tv m l w) (ht:t.In p w) (hs:slim t) :
 Calls Try.prog 89 #[.pointer (some ⟨bb,0,none⟩),t.val] w fun e w'=>∃ u:LT,e = .returned (.tuple #[u.val,.int .i64 (wholeE m (bt l) t.bare)])∧u.bare=wholeT m (bt l) t.bare∧u.In (fun k=>p k∨w.heap.size≤k) w'∧Turned zN w w':=by
 have h2:=twoBox w (.cells #[.int .i64 t.kind,.int .i64 t.n,.string t.name,.slice t.at_.1 t.args.length t.at_.2] 27) (.cells #[.int .i64 0,.int .i64 0,.string ⟨#[]⟩,.slice none 0 0] 27);obtain ⟨w2,hw2⟩:∃ z,z=(w.alloc (.cells #[.int .i64 t.kind,.int .i64 t.n,.string t.name,.slice t.at_.1 t.args.length t.at_.2] 27)).alloc (.cells #[.int .i64 0,.int .i64 0,.string ⟨#[]⟩,.slice none 0 0] 27):=⟨_,rfl⟩;rw [←hw2] at h2
 have hkp:∀ W,Turned zN w2 W→W.heap[w.heap.size]? = some (.cells #[.int .i64 t.kind,.int .i64 t.n,.string t.name,.slice t.at_.1 t.args.length t.at_.2] 27 (0,0))∧W.heap[w.heap.size+1]? = some (.cells #[.int .i64 0,.int .i64 0,.string ⟨#[]⟩,.slice none 0 0] 27 (0,0)):=fun W hW=>⟨(hW.block _ (by have:=h2.2.1;omega) (fun f=>f)).trans h2.2.2.1,(hW.block _ (by have:=h2.2.1;omega) (fun f=>f)).trans h2.2.2.2⟩
 have how:=own144 (h.turned0 h2.1) (ht.turned0 h2.1) hs;have HV:=LT.val_eq t;rw [HV] at how;rw [HV];have HOW:=hid how;have HKP:=hid hkp;have HT2:=hid h2.1;have HS2:=hid h2.2.1;have HW2:=hid hw2;have HH:=hid h;have HT:=hid ht;have HVV:=hid HV;have hob0:=ownB_bare m t;clear how hkp h2 hw2 h ht hs HV
 cases hob:Tm.ownB m t with
 | false=>
  have HE:Hid (wholeE m (bt l) t.bare=1):=by show _=_;unfold wholeE;rw [hob0,hob];rfl
  have HU:Hid (wholeT m (bt l) t.bare=(leaf 0 0 ByteArray.empty).bare):=by show _=_;unfold wholeT;rw [HE.out];rfl
  rw [hob] at HOW;clear hob hob0;go_enter Try.func89,Try.ntmps89
  go_wp2_with (go_at_call 144;rw [←HW2.out];(with_reducible refine HOW.out.mono ?_);rintro e w4 ⟨rfl,T4⟩;obtain ⟨_,hz⟩:=HKP.out _ T4;obtain ⟨z0,z1,z2,z3,f0,f1,f2,f3⟩:=cells4 hz;have HZ:=hid hz;clear hz)
  have hset:=set4 (a':=.int .i64 0) (b':=.int .i64 0) (c':=.string ⟨#[]⟩) (d':=.slice none 0 0) HZ.out;have Tq:=turned_store4 w4 (w.heap.size+1) (.int .i64 0) (.int .i64 0) (.string ⟨#[]⟩) (.slice none 0 0);refine bodyPost_ret (results_cell_tmp1 Try.results89 _ _ (w.heap.size+1) 27 _ (0,0) _ rfl hset Try.underlying27 rfl (by kernel_rfl)) rfl ⟨leaf 0 0 ByteArray.empty,by rw [HE.out];rfl,HU.out.symm,leafIn' (i64_lit _ (by omega)) (i64_lit _ (by omega)) (by unfold maxLen;decide),(HT2.out.trans T4).step Tq (fun i hi e=>by omega)⟩
 | true=>
  have hgb:=Tm.ownB_iff.1 (show Tm.ownB m t.bare=true by rw [hob0,hob]);rw [hob] at HOW;obtain ⟨ok,hok⟩:∃ z,z=Tm.wholeB (bt l) t.bare:=⟨_,rfl⟩
  have hmk:∀ W,Turned zN w2 W→Calls Try.prog 147 #[.pointer (some ⟨W.heap.size,0,none⟩),.agg #[.int .i64 t.kind,.int .i64 t.n,.string t.name,.slice t.at_.1 t.args.length t.at_.2],.int .i64 1] (W.alloc (.cells #[.pointer (some ⟨bb,0,none⟩),.int .i64 0] 170)) fun e w'=>∃ u:LT,e = .returned (.tuple #[u.val,.bool ok])∧u.In (fun k=>p k∨w.heap.size+2≤k) w'∧(ok=true→u.bare=Tm.img (bt l) t.bare)∧Turned zN W w':=by
   intro W hW;have hb:=HH.out.turned0 (HT2.out.trans hW);have TA:Turned zN W (W.alloc (.cells #[.pointer (some ⟨bb,0,none⟩),.int .i64 0] 170)):=(Turned.refl _ W).alloc _;have:=make147 (K:=W.heap.size) 65 t (W.alloc (.cells #[.pointer (some ⟨bb,0,none⟩),.int .i64 0] 170)) 0 1 (by omega) (by omega) (hb.turned0 TA) (HT.out.turned0 ((HT2.out.trans hW).trans TA)) (Tm.good_ones' hgb.1) ⟨fun c=>Qy _ (hb.own_lt _ c),fun b hbm c=>(by have:=(zL (hb.terms b hbm).1);omega),fun c=>Qy _ (hb.sep _ c).1⟩ (heap_alloc_new W _) (by omega);rw [HVV.out] at this;refine this.mono (fun e w' ⟨u,h1,h2,h3,_,h5⟩=>⟨u,?_,h2.mono (fun k _ hk=>hk.elim .inl (fun hk=>.inr (by have:=(hW.trans TA).size;have:=HS2.out;omega))),fun e=>h3 (by rw [Tm.makeOk_whole,←hok,e]),TA.step h5 (fun i hi e=>by omega)⟩);rw [h1,Tm.makeOk_whole,←hok]
  have HMK:=hid hmk
  have HE:Hid (wholeE m (bt l) t.bare=if ok=true then 0 else 12):=by show _=_;unfold wholeE;rw [hob0,hob,←hok];rfl
  have HU:Hid (wholeT m (bt l) t.bare=if ok=true then Tm.img (bt l) t.bare else (leaf 0 0 ByteArray.empty).bare):=by
   show _=_;unfold wholeT;rw [HE.out]
   cases ok <;> rfl
  clear hob hob0 hmk hgb hok
  cases ok with
  | false=>
   go_enter Try.func89,Try.ntmps89
   go_wp2_with (first
    | (go_at_call 144;rw [←HW2.out];(with_reducible refine HOW.out.mono ?_);rintro e w4 ⟨rfl,T4⟩;obtain ⟨hc,_⟩:=HKP.out _ (T4.alloc (.cells #[.pointer (some ⟨bb,0,none⟩),.int .i64 0] 170));obtain ⟨c0,c1,c2,c3,_⟩:=cells4 hc;have HT4:=hid T4;clear hc)
    | (go_at_call 147;(with_reducible refine (HMK.out _ T4).mono ?_);rintro e w7 ⟨u,rfl,hui,_,T7⟩;rw [LT.val_eq];have T8:=(T7.alloc (.cells #[.int .i64 u.kind,.int .i64 u.n,.string u.name,.slice u.at_.1 u.args.length u.at_.2] 27));have hz8:=(HKP.out _ (HT4.out.trans T8)).2;obtain ⟨z0,z1,z2,z3,f0,f1,f2,f3⟩:=cells4 hz8;have HZ:=hid hz8;have HT8:=hid T8;clear hz8 T7 T8 hui))
   have hset:=set4 (a':=.int .i64 0) (b':=.int .i64 0) (c':=.string ⟨#[]⟩) (d':=.slice none 0 0) HZ.out
   have Tq:=fun W=>turned_store4 W (w.heap.size+1) (.int .i64 0) (.int .i64 0) (.string ⟨#[]⟩) (.slice none 0 0)
   refine bodyPost_ret (results_cell_tmp1 Try.results89 _ _ (w.heap.size+1) 27 _ (0,0) _ rfl hset Try.underlying27 rfl (by kernel_rfl)) rfl ⟨leaf 0 0 ByteArray.empty,by rw [HE.out];rfl,HU.out.symm,leafIn' (i64_lit _ (by omega)) (i64_lit _ (by omega)) (by unfold maxLen;decide),((HT2.out.trans HT4.out).trans HT8.out).step (Tq _) (fun i hi e=>by omega)⟩
  | true=>
   go_enter Try.func89,Try.ntmps89
   go_wp2_with (first
    | (go_at_call 144;rw [←HW2.out];(with_reducible refine HOW.out.mono ?_);rintro e w4 ⟨rfl,T4⟩;obtain ⟨hc,_⟩:=HKP.out _ (T4.alloc (.cells #[.pointer (some ⟨bb,0,none⟩),.int .i64 0] 170));obtain ⟨c0,c1,c2,c3,_⟩:=cells4 hc;have HT4:=hid T4;clear hc)
    | (go_at_call 147;((with_reducible refine (HMK.out _ T4).mono ?_);rintro e w7 ⟨u,rfl,hui,hub,T7⟩;rw [LT.val_eq];have T8:=(T7.alloc (.cells #[.int .i64 u.kind,.int .i64 u.n,.string u.name,.slice u.at_.1 u.args.length u.at_.2] 27));have hz8:=(HKP.out _ (HT4.out.trans T8)).2;obtain ⟨z0,z1,z2,z3,f0,f1,f2,f3⟩:=cells4 hz8;have HZ:=hid hz8;have HT8:=hid T8;have HUI:=hid (hui.turned0 ((Turned.refl _ w7).alloc (.cells #[.int .i64 u.kind,.int .i64 u.n,.string u.name,.slice u.at_.1 u.args.length u.at_.2] 27)));have HUB:=hid (hub (by trivial));clear hz8 T7 T8 hui hub)))
   have hset:=set4 (a':=.int .i64 u.kind) (b':=.int .i64 u.n) (c':=.string u.name) (d':=.slice u.at_.1 u.args.length u.at_.2) HZ.out
   have Tq:=fun W=>turned_store4 W (w.heap.size+1) (.int .i64 u.kind) (.int .i64 u.n) (.string u.name) (.slice u.at_.1 u.args.length u.at_.2)
   refine bodyPost_ret (results_cell_tmp1 Try.results89 _ _ (w.heap.size+1) 27 _ (0,0) _ rfl hset Try.underlying27 rfl (by kernel_rfl)) rfl ⟨u,by rw [HE.out,LT.val_eq];rfl,HUB.out.trans HU.out.symm,?_,((HT2.out.trans HT4.out).trans HT8.out).step (Tq _) (fun i hi e=>by omega)⟩
   exact HUI.out.turned (Tq _) (fun k _ hk e=>by
    rcases hk with hk | hk
    · have:=(HH.out.sep k hk).1;omega
    · omega) (fun k _ hk=>hk.elim .inl (fun hk=>.inr (by omega)))
end
end Go.Proofs.Ytoihjobdfjajfaa
namespace Go.Proofs.Ytoihjobdfjajfaa
open Go.RowKit Go.Maps
def pT:Tm Unit:=.mk 2 0 ⟨#[102]⟩ () [Tm.V 0,Tm.V 1,Tm.V 0]
theorem goodVal' {p:Nat→Prop} {t:LT} {w:World} {b:Bool} (ht:t.In p w) (hs:slim t) (hg:goodB t=b):Calls Try.prog 38 #[.agg #[.int .i64 t.kind,.int .i64 t.n,.string t.name,.slice t.at_.1 t.args.length t.at_.2]] w fun e w'=>e = .returned (.bool b)∧Turned zN w w':=by
 have h:=good38 ht hs;rw [LT.val_eq,hg] at h;exact h
theorem sameVal' {p:Nat→Prop} {a b:LT} {w:World} {r:Bool} (ha:a.In p w) (hb:b.In p w) (sa:slim a) (sb:slim b) (hr:sameB a b=r):Calls Try.prog 52 #[.agg #[.int .i64 a.kind,.int .i64 a.n,.string a.name,.slice a.at_.1 a.args.length a.at_.2],.agg #[.int .i64 b.kind,.int .i64 b.n,.string b.name,.slice b.at_.1 b.args.length b.at_.2]] w fun e w'=>e = .returned (.bool r)∧Turned zN w w':=by
 have h:=same52 ha hb sa sb;rw [LT.val_eq a,LT.val_eq b,hr] at h;exact h
def Aw13 (wz:World):List Value→World→Prop
 | [],W=>Turned zN wz W
 | [v],W=>Turned zN wz W∧∃ g:Nat,v = .slice (some ⟨g,0,none⟩) 3 3∧LT.Sl (fun _=>True) W (some ⟨g,0,none⟩) 3 [leaf 0 0 ByteArray.empty,leaf 0 1 ByteArray.empty,leaf 0 0 ByteArray.empty]
 | [_,v],W=>Turned zN wz W∧∃ u:LT,v=u.val∧u.bare=pT∧u.In (fun _=>True) W
 | _,_=>False
theorem Aw13.turned {wz:World}:∀ (hs:List Value) (W:World),Aw13 wz hs W→Turned zN wz W
 | [],_,h=>h
 | [_],_,h=>h.1
 | [_,_],_,h=>h.1
 | _ :: _ :: _ :: _,_,h=>h.elim
theorem Aw13.turned0 {wz:World}:∀ (hs:List Value) (w w':World),Aw13 wz hs w→Turned zN w w'→Aw13 wz hs w'
 | [],_,_,h,ht=>Turned.trans h ht
 | [_],_,_,h,ht=>by obtain ⟨h1,g,h2,h3⟩:=h;exact ⟨h1.trans ht,g,h2,h3.turned0 ht⟩
 | [_,_],_,_,h,ht=>by obtain ⟨h1,u,h2,h3,h4⟩:=h;exact ⟨h1.trans ht,u,h2,h3,h4.turned0 ht⟩
 | _ :: _ :: _ :: _,_,_,h,_=>h.elim
theorem leaf_slim (k n:Int) (s:ByteArray):slim (leaf k n s):=by
 intro x hx;simp only [leaf,Tm.flat,Tm.flats,Qw,Ql,or_false] at hx;subst hx;simp [Tm.args]
theorem var_in {p:Nat→Prop} {w:World} {n:Int} (h:I64 n):(leaf 0 n ByteArray.empty).In p w:=leafIn' (i64_lit _ (by omega)) h (by unfold maxLen;decide)
theorem sameB_eq {α β:Type} {a:Tm α} {b:Tm β} (h:a.bare=b.bare) (hg:goodB a.bare=true):sameB a b=true:=by
 unfold sameB
 have h1:goodB a=true:=by rw [←goodB_bare];exact hg
 have h2:goodB b=true:=by rw [←goodB_bare,←h];exact hg
 rw [h1,h2,(Tm.same_iff a b).2 h];rfl
structure BO (p:Nat→Prop) (bb:Nat) (O:Nat→Prop) (m:Nat) (l:TL) (w:World):Prop where
 bi:∃ sb lv tv,BI p bb sb lv tv m l w∧∀ k,ownK bb sb lv tv k→O k
 box:∀ b∈l,O b.2.1
 lt:∀ k,O k→k < w.heap.size
 sep:∀ k,p k→¬ O k
section
variable {p q O O' S:Nat→Prop} {bb m:Nat} {l:TL} {w w':World} {t:LT}
theorem BO.ok (h:BO p bb O m l w):Tm.okT m (bt l):=by obtain ⟨sb,lv,tv,B,_⟩:=h.bi;exact B.ok
theorem BO.most (h:BO p bb O m l w):m≤65536:=by obtain ⟨sb,lv,tv,B,_⟩:=h.bi;exact B.most
theorem BO.plt (h:BO p bb O m l w):∀ k,p k→k < w.heap.size:=by obtain ⟨sb,lv,tv,B,_⟩:=h.bi;exact fun k hk=>(B.sep k hk).1
theorem BO.turned (h:BO p bb O m l w) (T:Turned S w w') (hS:∀ k,k < w.heap.size→S k→¬ O k∧¬ p k):BO p bb O m l w':=by
 obtain ⟨sb,lv,tv,B,hO⟩:=h.bi;refine ⟨⟨sb,lv,tv,B.turned T (fun k hk e=>⟨fun c=>(hS k hk e).1 (hO k c),fun b hb c=>(hS k hk e).1 (c ▸ h.box b hb),(hS k hk e).2⟩),hO⟩,h.box,fun k hk=>Qo (h.lt k hk) T.size,h.sep⟩
theorem BO.turned0 (h:BO p bb O m l w) (T:Turned zN w w'):BO p bb O m l w':=h.turned T (fun _ _ f=>f.elim)
theorem BO.more (h:BO p bb O m l w) (hO:∀ k,O k→O' k) (hl:∀ k,O' k→k < w.heap.size) (hs:∀ k,p k→¬ O' k):BO p bb O' m l w:=by
 obtain ⟨sb,lv,tv,B,h1⟩:=h.bi;exact ⟨⟨sb,lv,tv,B,fun k hk=>hO k (h1 k hk)⟩,fun b hb=>hO _ (h.box b hb),hl,hs⟩
theorem BO.wide (h:BO p bb O m l w) (hp:∀ k,p k→q k) (hq:∀ k,q k→k < w.heap.size∧¬ O k):BO q bb O m l w:=by
 obtain ⟨sb,lv,tv,B,h1⟩:=h.bi;exact ⟨⟨sb,lv,tv,B.wide hp (fun k hk=>⟨(hq k hk).1,fun c=>(hq k hk).2 (h1 k c)⟩),h1⟩,h.box,h.lt,fun k hk=>(hq k hk).2⟩
def After (p:Nat→Prop) (bb:Nat) (O:Nat→Prop) (m:Nat) (l:TL) (w w':World):Prop:=
 ∃ O':Nat→Prop,BO p bb O' m l w'∧(∀ k,O' k→k < w.heap.size→O k)∧Turned O w w'
theorem After.turned0 {w2:World} (h:After p bb O m l w w') (T:Turned zN w' w2):After p bb O m l w w2:=by
 obtain ⟨O',h1,h2,h3⟩:=h;exact ⟨O',h1.turned0 T,h2,h3.trans (T.mono (fun _ _ f=>f.elim))⟩
theorem After.trans {m' m2:Nat} {l' l2:TL} {w2:World} (h:After p bb O m' l' w w') (h2:∀ O',BO p bb O' m' l' w'→After p bb O' m2 l2 w' w2):After p bb O m2 l2 w w2:=by
 obtain ⟨O',a1,a2,a3⟩:=h;obtain ⟨O2,b1,b2,b3⟩:=h2 O' a1;refine ⟨O2,b1,fun k hk hl=>a2 k (b2 k hk (Qo hl a3.size)) hl,a3.step b3 (fun i hi e=>a2 i e hi)⟩
theorem newO86 {p:Nat→Prop} (w:World) (hp:∀ k,p k→k < w.heap.size) :
 Calls Try.prog 86 #[] w fun e w'=>∃ bb,e = .returned (.pointer (some ⟨bb,0,none⟩))∧BO p bb (fun k=>w.heap.size≤k∧k < w'.heap.size) 0 [] w'∧w.heap.size≤bb∧Turned zN w w':=by
 refine (newB86 w hp).mono ?_
 rintro e w' ⟨rfl,B,T⟩
 refine ⟨_,rfl,⟨⟨_,_,_,B,fun k hk=>⟨?_,B.own_lt k hk⟩⟩,fun b hb=>(by cases hb),fun k hk=>hk.2,fun k hk c=>by have:=hp k hk;omega⟩,by omega,T⟩
 rcases hk with e | e | e | e
 · omega
 · omega
 · simp [Value.ownBlock] at e
 · simp [Value.ownBlock] at e
theorem freshO87 (h:BO p bb O m l w) (hm:m < 65536) :
 Calls Try.prog 87 #[.pointer (some ⟨bb,0,none⟩)] w fun e w'=>e = .returned (.tuple #[.agg #[.int .i64 0,.int .i64 (m:Int),.string ByteArray.empty,.slice none 0 0],.bool true])∧After p bb O (m+1) l w w':=by
 obtain ⟨sb,lv,tv,B,hO⟩:=h.bi;refine (fresh87 B hm).mono ?_
 rintro e w' ⟨rfl,⟨lv',B',ho⟩,T⟩
 have hold:∀ k,ownK bb sb lv' tv k→k < w.heap.size→ownK bb sb lv tv k:=fun k hk hl=>by
  rcases hk with e | e | e | e
  · exact .inl e
  · exact .inr (.inl e)
  · rcases ho with ho | ho
    · exact .inr (.inr (.inl (ho ▸ e)))
    · have:=ho k e;omega
  · exact .inr (.inr (.inr e))
 refine ⟨rfl,fun k=>ownK bb sb lv' tv k∨(O k∧k < w.heap.size),⟨⟨sb,lv',tv,B',fun k hk=>.inl hk⟩,fun b hb=>.inr ⟨h.box b hb,h.lt _ (h.box b hb)⟩,fun k hk=>hk.elim (B'.own_lt k) (fun e=>Qo e.2 T.size),fun k hk c=>?_⟩,fun k hk hl=>hk.elim (fun c=>hO k (hold k c hl)) (fun e=>e.1),T.mono (fun k _ e=>hO k (e.elim .inl (fun e=>.inr (.inr (.inl e)))))⟩
 rcases c with c | c
 · exact (B'.sep k hk).2 c
 · exact h.sep k hk c.1
theorem setO88 (h:BO p bb O m l w) (ht:t.In p w) (hs:slim t) (n:Int) (h64:I64 n) :
 Calls Try.prog 88 #[.pointer (some ⟨bb,0,none⟩),.int .i64 n,t.val] w fun e w'=>e = .returned (.int .i64 (Tm.setE m (bt l) n t.bare))∧∃ l',bt l'=(if Tm.setE m (bt l) n t.bare=0 then (n,t.bare) :: bt l else bt l)∧After p bb O m l' w w':=by
 obtain ⟨sb,lv,tv,B,hO⟩:=h.bi;refine (set88 B ht hs n h64).mono ?_
 rintro e w' ⟨rfl,⟨tv',l',B',hbt,ho,hb⟩,T⟩
 have hold:∀ k,ownK bb sb lv tv' k→k < w.heap.size→ownK bb sb lv tv k:=fun k hk hl=>by
  rcases hk with e | e | e | e
  · exact .inl e
  · exact .inr (.inl e)
  · exact .inr (.inr (.inl e))
  · rcases ho with ho | ho
    · exact .inr (.inr (.inr (ho ▸ e)))
    · have:=ho k e;omega
 refine ⟨rfl,l',hbt,fun k=>ownK bb sb lv tv' k∨(O k∧k < w.heap.size)∨(w.heap.size≤k∧k < w'.heap.size),⟨⟨sb,lv,tv',B',fun k hk=>.inl hk⟩,fun b hbl=>?_,fun k hk=>?_,fun k hk c=>?_⟩,fun k hk hl=>?_,T.mono (fun k _ e=>hO k (e.elim (fun e=>.inr (.inl e)) (fun e=>.inr (.inr e))))⟩
 · rcases hb b hbl with e | e
   · exact .inr (.inl ⟨h.box b e,h.lt _ (h.box b e)⟩)
   · exact .inr (.inr ⟨e,(zL (B'.terms b hbl).1)⟩)
 · rcases hk with e | e | e
   · exact B'.own_lt k e
   · exact Qo e.2 T.size
   · exact e.2
 · rcases c with c | c | c
   · exact (B'.sep k hk).2 c
   · exact h.sep k hk c.1
   · have:=(B.sep k hk).1;omega
 · rcases hk with e | e | e
   · exact hO k (hold k e hl)
   · exact e.1
   · omega
theorem walkO90 (h:BO p bb O m l w) (ht:t.In p w) (hg:∀ z∈t.bare.flat,goodOneB z=true) :
 Calls Try.prog 90 #[.pointer (some ⟨bb,0,none⟩),t.val] w fun e w'=>∃ x:LT,e = .returned x.val∧x.In p w'∧x.bare=Tm.walkT (bt l) t.bare∧Turned zN w w':=by
 obtain ⟨sb,lv,tv,B,hO⟩:=h.bi;exact walk90 B ht hg
theorem wholeO89 (h:BO p bb O m l w) (ht:t.In p w) (hs:slim t) :
 Calls Try.prog 89 #[.pointer (some ⟨bb,0,none⟩),t.val] w fun e w'=>∃ u:LT,e = .returned (.tuple #[u.val,.int .i64 (wholeE m (bt l) t.bare)])∧u.bare=wholeT m (bt l) t.bare∧u.In (fun k=>p k∨w.heap.size≤k) w'∧Turned zN w w':=by
 obtain ⟨sb,lv,tv,B,hO⟩:=h.bi;exact whole89 B ht hs
theorem markO111 (h:BO p bb O m l w):Calls Try.prog 111 #[.pointer (some ⟨bb,0,none⟩)] w fun e w'=>e = .returned (.int .i64 l.length)∧Turned zN w w':=by
 obtain ⟨sb,lv,tv,B,hO⟩:=h.bi;exact mark111 B
end
end Go.Proofs.Ytoihjobdfjajfaa
namespace Go.Proofs.Ytoihjobdfjajfaa
open Lib (hid)
open Go.RowKit
theorem Row.stored {w:World} {e:TypeId} {n g cap:Nat} {xs:List Value} (h:Row w e 1 (.slice (some ⟨g,0,none⟩) n cap) n xs) {i:Nat} (hi:i < n) (u:Value) :
 Row (w.setCell ⟨g,i,none⟩ u) e 1 (.slice (some ⟨g,0,none⟩) n cap) n (xs.set i u):=by
 refine ⟨by simpa using h.1,.inr ?_⟩
 rcases h.2 with ⟨e,_⟩ | ⟨g',c,cur,e,hg,h1,h2,h3,h4⟩
 · cases e
 · injection e with e1 _ e3;injection e1 with e1;injection e1 with e1;subst e1;subst e3
   refine ⟨g,cap,cur.setIfInBounds i u,rfl,?_,h1,h2,by simpa using h3,?_⟩
   · simp only [World.setCell,Array.getElem?_modify]
     simp [hg]
   · simp only [Array.toList_setIfInBounds]
     rw [←h4,Nat.mul_one,List.take_set]
theorem Row.over {w w':World} {e:TypeId} {n g cap m:Nat} {xs:List Value} (h:Row w e 1 (.slice (some ⟨g,0,none⟩) n cap) n xs) (hm:m≤n)
 (hw:∃ cur cur':Array Value,w.heap[g]? = some (.cells cur e (0,0))∧w'.heap[g]? = some (.cells cur' e (0,0))∧cur'.size=cur.size∧cur'.toList.take m=cur.toList.take m) :
 Row w' e 1 (.slice (some ⟨g,0,none⟩) m cap) m (xs.take m):=by
 obtain ⟨cur,cur',q1,q2,q3,q4⟩:=hw
 rcases h.2 with ⟨e,_⟩ | ⟨g',c,cu,e,hg,h1,h2,h3,h4⟩
 · cases e
 · injection e with e1 _ e3;injection e1 with e1;injection e1 with e1;subst e1;subst e3
   rw [q1] at hg;injection hg with hg;injection hg with hg;subst hg
   refine ⟨?_,.inr ⟨g,cap,cur',rfl,q2,by omega,h2,by rw [q3];exact h3,?_⟩⟩
   · rw [List.length_take,h.1];omega
   · rw [Nat.mul_one,q4,←h4,List.take_take,Nat.mul_one,Nat.min_eq_left hm]
structure Stk {α:Type} (st e:TypeId) (enc:α→Value) (w:World) (B sb room:Nat) (lv:Value) (l:List α):Prop where
 base:B≤sb
 baseR:∀ k,lv.ownBlock=some k→B≤k
 blk:w.heap[sb]? = some (.cells #[.int .i64 room,lv] st (0,0))
 row:Row w e 1 lv l.length (l.map enc)
 apart:lv.ownBlock≠some sb
 room1:1≤room
 room2:room≤65536
 len:l.length≤room
def Mine2 (sb:Nat) (lv:Value) (k:Nat):Prop:=k=sb∨lv.ownBlock=some k
theorem rec2_cells {w:World} {sb:Nat} {r:Int} {lv:Value} {st:TypeId} (h:w.heap[sb]? = some (.cells #[.int .i64 r,lv] st (0,0))) :
 w.cell? ⟨sb,0,none⟩=some (.int .i64 r)∧w.cell? ⟨sb,1,none⟩=some lv∧w.frozen? ⟨sb,1,none⟩=false:=
 ⟨by rw [cell_of_row w sb 0 _ st (0,0) h];rfl,by rw [cell_of_row w sb 1 _ st (0,0) h];rfl,frozen_of_row w sb 1 _ st h⟩
theorem rec2_set {w:World} {sb:Nat} {r:Int} {lv:Value} {st:TypeId} (h:w.heap[sb]? = some (.cells #[.int .i64 r,lv] st (0,0))) (u:Value) :
 (w.setCell ⟨sb,1,none⟩ u).heap[sb]? = some (.cells #[.int .i64 r,u] st (0,0)):=by
 simp only [World.setCell,Array.getElem?_modify];simp [h]
section
variable {α:Type} {st e:TypeId} {enc:α→Value} {w:World} {B sb room:Nat} {lv:Value} {l:List α}
theorem Stk.turned {S:Nat→Prop} {w':World} (h:Stk st e enc w B sb room lv l) (ht:Turned S w w') (hS:∀ k,S k→¬ Mine2 sb lv k):Stk st e enc w' B sb room lv l:=
 ⟨h.base,h.baseR,(ht.block sb (zL h.blk) (fun s=>hS sb s (.inl rfl))).trans h.blk,h.row.turned ht (fun k e s=>hS k s (.inr e)),h.apart,h.room1,h.room2,h.len⟩
theorem Stk.turned0 {w':World} (h:Stk st e enc w B sb room lv l) (ht:Turned zN w w'):Stk st e enc w' B sb room lv l:=h.turned ht (fun _ x=>False.elim x)
theorem Stk.fresh (h:Stk st e enc w B sb room lv l):∀ k,Mine2 sb lv k→B≤k:=by
 rintro k (rfl | e)
 · exact h.base
 · exact h.baseR k e
theorem Stk.old (h:Stk st e enc w B sb room lv l):∀ k,Mine2 sb lv k→k < w.heap.size:=by
 rintro k (rfl | e)
 · exact (zL h.blk)
 · exact h.row.lt k e
end
abbrev StkI:=Stk (α:=Int) 209 2 (Value.int .i64)
theorem onesI (l:List Int):∀ x∈l.map (Value.int .i64),x.oneCell'=true:=by intro x hx;obtain ⟨_,_,rfl⟩:=List.mem_map.1 hx;rfl
theorem stkInfoI:(Try.prog.info? 2).map (fun i=>(i.zero,i.size,i.bytes))=some (some (.int .i64 0),1,8):=by kernel_rfl
def revAtI (xs:List Int) (k p:Nat):Option Int:=if p < k∨xs.length - k≤p then xs[xs.length - 1 - p]? else xs[p]?
theorem rev_stepI {xs ys:List Int} {k y:Nat} {p q:Int} (hl:ys.length=xs.length) (hy:y+k+1=xs.length) (hky:k < y) (hys:∀ r,r < xs.length→ys[r]? = revAtI xs k r) (hp:ys[k]? = some p) (hq:ys[y]? = some q) :
 ∀ r,r < xs.length→((ys.set k q).set y p)[r]? = revAtI xs (k+1) r:=by
 intro r hr;have hk:=hys k (by omega);have hy':=hys y (by omega);rw [hp] at hk;rw [hq] at hy';unfold revAtI at hk hy' ⊢;rw [if_neg (by omega)] at hk hy'
 by_cases e1:r=y
 · subst e1
   rw [List.getElem?_set_self (by simp;omega),if_pos (by omega),show xs.length - 1 - r=k from by omega];exact hk
 · rw [List.getElem?_set_ne (by omega)]
   by_cases e2:r=k
   · subst e2
     rw [List.getElem?_set_self (by omega),if_pos (by omega),show xs.length - 1 - r=y from by omega];exact hy'
   · rw [List.getElem?_set_ne (by omega),hys r hr]
     unfold revAtI
     by_cases hc:r < k∨xs.length - k≤r
     · rw [if_pos hc,if_pos (by omega)]
     · rw [if_neg hc,if_neg (by omega)]
theorem rev_endI {xs ys:List Int} {k:Nat} (hl:ys.length=xs.length) (hk1:2 * k≤xs.length+1) (hk2:xs.length≤2 * k+1) (hys:∀ r,r < xs.length→ys[r]? = revAtI xs k r):ys=xs.reverse:=by
 apply List.ext_getElem?;intro r
 by_cases hr:r < xs.length
 · rw [hys r hr,List.getElem?_reverse hr]
   unfold revAtI
   split
   · rfl
   · rw [show xs.length - 1 - r=r from by omega]
 · rw [List.getElem?_eq_none (by omega),List.getElem?_eq_none (by simp;omega)]
theorem revI {w:World} {v:Value} {xs:List Int} (h:Row w 2 1 v xs.length (xs.map (Value.int .i64))) (hn:xs.length≤65536) :
 Calls Try.prog 172 #[v] w fun e w'=>e = .returned (.tuple #[])∧Row w' 2 1 v xs.length (xs.map (Value.int .i64)).reverse∧Turned (fun k=>v.ownBlock=some k) w w':=by
 obtain ⟨a,cap,rfl⟩:=h.shape;go_enter Try.func172,Try.ntmps172
 go_wp2
 go_loopw [2,3] (fun i j wr=>∃ (k:Nat) (x:Int),2 * k≤xs.length+1∧i = .int .i64 k∧j = .int .i64 x∧x+k+1≤xs.length∧(xs.length:Int)≤x+k+1∧(∃ ys:List Int,Row wr 2 1 (.slice a xs.length cap) xs.length (ys.map (Value.int .i64))∧∀ p,p < xs.length→ys[p]? = revAtI xs k p)∧Turned (fun k=>(Value.slice a xs.length cap).ownBlock=some k) w wr) (fun i j _=>(intOf j - intOf i+1).toNat)
 case atStart=>exact ⟨0,_,by omega,rfl,rfl,by omega,by omega,⟨xs,h,fun p hp=>by simp [revAtI];omega⟩,Turned.refl _ _⟩
 case round=>
  obtain ⟨k,x,hk,rfl,rfl,hx1,hx2,⟨ys,hrow,hys⟩,hT⟩:=hrel
  have hl:ys.length=xs.length:=by have:=hrow.1;simpa using this
  by_cases hlt:2 * k+1 < xs.length
  · obtain ⟨y,rfl⟩:∃ y:Nat,x=y:=⟨x.toNat,by omega⟩
    have hky:k < y:=by omega
    have hne:¬ k=y:=by omega
    have hne2:¬ y=k:=by omega
    have hyn:y < xs.length:=by omega
    have hkn:k < xs.length:=by omega
    obtain ⟨p,hp⟩:∃ p,ys[k]? = some p:=⟨_,Qa (by omega)⟩;obtain ⟨q,hq⟩:∃ q,ys[y]? = some q:=⟨_,Qa (by omega)⟩;obtain ⟨g,cap3,hgc⟩:=hrow.shape_pos (by omega)
    injection hgc with q1 _ q2
    subst q1;subst q2;have cp:=hrow.cells rfl k ((Value.int .i64) p) (by rw [Qp,hp];rfl);have cq:=hrow.cells rfl y ((Value.int .i64) q) (by rw [Qp,hq];rfl);have fk:=hrow.free rfl k;have fy:=hrow.free rfl y;have hst:=hid (rev_stepI hl (y:=y) (by omega) hky hys hp hq);have hr2:=(hrow.stored (i:=k) hkn ((Value.int .i64) q)).stored (i:=y) hyn ((Value.int .i64) p);rw [←List.map_set,←List.map_set] at hr2;have HR2:=hid hr2;clear hp hq hys hr2
    go_wp2_with fail
    go_region
    all_goals
     go_wp2_with fail
     go_roundw
     case rel=>exact ⟨k+1,(y:Int) - 1,by omega,by go_num,rfl,by omega,by omega,⟨_,HR2.out,hst.out⟩,((hT.setCell (p:=⟨g,k,none⟩) (.inr rfl) _).setCell (p:=⟨g,y,none⟩) (.inr rfl) _).drew⟩
     case measure=>(simp [intOf];try omega)
  · have hge:¬ ((k:Int) < x):=by omega
    have he:=rev_endI hl hk (by omega) hys;clear hys;have HE:=hid he;clear he
    go_wp2
    go_end0;exact ⟨rfl,by rw [←List.map_reverse,←HE.out];exact hrow,hT⟩
theorem setCells_blk (b:Nat) (e:TypeId) (m:Nat):∀ (vs:List Value) (o:Nat) (w:World) (cur:Array Value),m≤o→w.heap[b]? = some (.cells cur e (0,0))→∃ cur':Array Value,(w.setCells b o vs).heap[b]? = some (.cells cur' e (0,0))∧cur'.size=cur.size∧cur'.toList.take m=cur.toList.take m
 | [],o,w,cur,_,h=>⟨cur,h,rfl,rfl⟩
 | v :: r,o,w,cur,ho,h=>by
  have h1:(w.setCell ⟨b,o,none⟩ v).heap[b]? = some (.cells (cur.setIfInBounds o v) e (0,0)):=by
   simp only [World.setCell,Array.getElem?_modify];simp [h]
  obtain ⟨cur',q1,q2,q3⟩:=setCells_blk b e m r (o+1) _ _ (by omega) h1;refine ⟨cur',q1,by rw [q2];simp,?_⟩;rw [q3,Array.toList_setIfInBounds,List.take_set_of_le ho]
theorem setCells_turned (b:Nat):∀ (vs:List Value) (o:Nat) (w:World),Turned (· = b) w (w.setCells b o vs)
 | [],_,w=>Turned.refl _ _
 | v :: r,o,w=>((Turned.refl (· = b) w).setCell (p:=⟨b,o,none⟩) (.inr rfl) v).trans (setCells_turned b r (o+1) _)
theorem run_clear_row {P:Program} {w:World} {t e ty:TypeId} {z:Value} (ht:P.underlying t=some (.slice e)) (hv:∀ w,(zeroValue e).run P w = .ok z w) (hz:z.cells = #[z]) (h1:z.oneCell'=true)
 {g n cap m c k:Nat} {xs:List Value} (h:Row w e 1 (.slice (some ⟨g,0,none⟩) n cap) n xs) (hk:m+k=n) :
 ∃ w',(Builtin.clear_ #[t] ty #[.slice (some ⟨g,m,none⟩) k c]).run P w = .ok (.tuple #[]) w'∧Row w' e 1 (.slice (some ⟨g,0,none⟩) m cap) m (xs.take m)∧Turned (· = g) w w':=by
 rcases h.2 with ⟨e,_⟩ | ⟨g',cp,cur,e,hg,q1,q2,q3,q4⟩
 · cases e
 · injection e with e1 _ e3;injection e1 with e1;injection e1 with e1;subst e1;subst e3
   by_cases h0:k=0
   · subst h0
     refine ⟨w,?_,?_,Turned.refl _ _⟩
     · simp [Builtin.clear_,run_underlying ht]
     · exact h.over (by omega) ⟨cur,cur,hg,hg,rfl,rfl⟩
   · obtain ⟨cur',r1,r2,r3⟩:=setCells_blk g e m (List.replicate k z) m w cur (Qm _) hg
     have hc:∀ j,j < k→(w.cell? ⟨g,m+j,none⟩).isSome=true:=by
      intro j hj;rw [cell_of_row w g (m+j) cur e (0,0) hg];simp;omega
     refine ⟨_,Lib.run_clear_slice w t e ty z ht hv hz h1 g m k c (by omega) hc (fun j _=>frozen_of_row w g _ cur e hg),?_,setCells_turned g _ _ w⟩;exact h.over (by omega) ⟨cur,cur',hg,r1,r2,r3⟩
theorem clear_row {P:Program} (w:World) {ops:Array Oper} {rest:List Oper} {o:Oper} {a:Act} {Q:Exit→Act→World→Prop} (hgd:o.guard=none) (s:Operand) (t:TypeId)
 (ho:o.op = .call { callee:=.builtin .clear,args:=#[s],argTypes:=#[t] })
 (e:TypeId) (z:Value) (ht:P.underlying t=some (.slice e)) (hv:∀ w,(zeroValue e).run P w = .ok z w) (hz:z.cells = #[z]) (h1:z.oneCell'=true)
 (g n cap m c k:Nat) (xs:List Value) (h:Row w e 1 (.slice (some ⟨g,0,none⟩) n cap) n xs) (hk:m+k=n) (hs:a.eval s = .slice (some ⟨g,m,none⟩) k c)
 (hK:∀ w',Row w' e 1 (.slice (some ⟨g,0,none⟩) m cap) m (xs.take m)→Turned (· = g) w w'→wpList P ops Q rest (a.put o.dst (.tuple #[])) w'):wpList P ops Q (o :: rest) a w:=by
 refine wpList_plain hgd fun K hK'=>?_
 obtain ⟨w',hr,h2,h3⟩:=run_clear_row (P:=P) (ty:=o.type) ht hv hz h1 (c:=c) h hk;unfold Oper.wp execOp;simp only [ho,resolve,invoke,builtin,Sem.run_bind,Sem.run_pure,Result.andThen_ok,List.map_toArray,Qx,List.map_nil,hs,hr];exact hK' _ _ (hK w' h2 h3)
theorem clear_none {P:Program} (w:World) {ops:Array Oper} {rest:List Oper} {o:Oper} {a:Act} {Q:Exit→Act→World→Prop} (hgd:o.guard=none) (s:Operand) (t:TypeId)
 (ho:o.op = .call { callee:=.builtin .clear,args:=#[s],argTypes:=#[t] }) (e:TypeId) (ht:P.underlying t=some (.slice e)) (ao:Option Addr) (k c:Nat) (hk0:k=0) (hs:a.eval s = .slice ao k c)
 (hK:wpList P ops Q rest (a.put o.dst (.tuple #[])) w):wpList P ops Q (o :: rest) a w:=by
 subst hk0
 refine wpList_plain hgd fun K hK'=>?_
 have hr:(Builtin.clear_ #[t] o.type #[.slice ao 0 c]).run P w = .ok (.tuple #[]) w:=by
  cases ao <;> simp [Builtin.clear_,run_underlying ht]
 unfold Oper.wp execOp;simp only [ho,resolve,invoke,builtin,Sem.run_bind,Sem.run_pure,Result.andThen_ok,List.map_toArray,Qx,List.map_nil,hs,hr];exact hK' _ _ hK
theorem zeroVI (w:World):(zeroValue 2).run Try.prog w = .ok (.int .i64 0) w:=by kernel_rfl
theorem stkCloneI_some {w:World} {ad:Addr} {n cap:Nat} {xs:List Value} (hl:xs.length=n * 1) (hcells:∀ j u,xs[j]? = some u→w.cell? (ad.add j)=some u) (hx:∀ x∈xs,x.oneCell'=true) (hn:n≤65536) :
 Calls Try.prog 171 #[.slice (some ad) n cap] w fun e w'=>∃ v,e = .returned v∧Row w' 2 1 v n xs∧(∀ k,v.ownBlock=some k→w.heap.size≤k)∧Turned zN w w':=by
 obtain ⟨i0,hi0,hz0,hz1,hz2⟩:=info_parts stkInfoI
 have hnil:=fun (w:World) (a:Option Addr) (n c:Nat)=>Lib.run_eql_slice_nil (P:=Try.prog) w 24 2 a n c 0 0 Try.underlying24
 have hc':∀ o:Obj,∀ j u,xs[j]? = some u→(w.alloc o).cell? (ad.add j)=some u:=fun o j u h=>cell_old (hcells j u h)
 have HC:=hid hc';clear hcells hc';go_enter Try.func171,Try.ntmps171
 go_wp2_with (first
  | (at_builtin;refine append_row _ rfl _ _ 24 rfl 2 i0 (.int .i64 0) 1 8 Try.underlying24 hi0 hz0 hz1 hz2 rfl (by decide) _ _ _ rfl (Row.made _ 2 1 #[] 0 rfl (by simp)) ad n cap xs rfl hl (HC.out _) hx (by unfold maxLen;omega) (by omega) ?_;intro v2 w2 hown2 hg2 hl2 _))
 go_ret;refine ⟨_,rfl,by simpa using hown2,?_,((Turned.refl (fun _=>False) w).alloc (.cells #[] 2)).step hg2 ?_⟩
 · intro k hk
   change v2.ownBlock=some k at hk
   rcases hl2 with e | e
   · rw [hk] at e;simp [Value.ownBlock,Act.eval] at e;omega
   · rw [hk] at e;simp at e;omega
 · intro k hk1 hk
   simp [Value.ownBlock,Act.eval] at hk;omega
theorem stkCloneI_nil (w:World) :
 Calls Try.prog 171 #[.slice none 0 0] w fun e w'=>e = .returned (.slice none 0 0)∧w=w':=by
 have hnil:=fun (w:World) (a:Option Addr) (n c:Nat)=>Lib.run_eql_slice_nil (P:=Try.prog) w 24 2 a n c 0 0 Try.underlying24
 go_enter Try.func171,Try.ntmps171
 go_wp2
 go_ret;exact ⟨rfl,rfl⟩
theorem stkCloneI {w:World} {ao:Option Addr} {n cap:Nat} {xs:List Value} (hnone:ao=none→n=0∧cap=0) (hl:xs.length=n) (hcells:∀ ad,ao=some ad→∀ j u,xs[j]? = some u→w.cell? (ad.add j)=some u) (hx:∀ x∈xs,x.oneCell'=true) (hn:n≤65536) :
 Calls Try.prog 171 #[.slice ao n cap] w fun e w'=>∃ v,e = .returned v∧Row w' 2 1 v n xs∧(∀ k,v.ownBlock=some k→w.heap.size≤k)∧Turned zN w w':=by
 cases ao with
 | some ad=>exact stkCloneI_some (by rw [Nat.mul_one];exact hl) (hcells ad rfl) hx hn
 | none=>
  obtain ⟨rfl,rfl⟩:=hnone rfl;have:xs=[]:=Qh hl;subst this
  exact (stkCloneI_nil w).mono fun e w' ⟨he,hw⟩=>hw ▸ ⟨_,he,Row.nil _ _ _,by simp [Value.ownBlock],Turned.refl _ _⟩
theorem undo_closeI {w w1 w2:World} {B sb room cap g n:Nat} {l:List Int} (h:StkI w B sb room (.slice (some ⟨g,0,none⟩) l.length cap) l) (hn:n≤l.length)
 (T1:Turned zN w w1) (T2:Turned (· = g) w1 w2) (hrow:Row w2 2 1 (.slice (some ⟨g,0,none⟩) n cap) n ((l.map (Value.int .i64)).take n)) :
 StkI (w2.setCell ⟨sb,1,none⟩ (.slice (some ⟨g,0,none⟩) n cap)) B sb room (.slice (some ⟨g,0,none⟩) n cap) (l.take n)∧Turned (Mine2 sb (.slice (some ⟨g,0,none⟩) l.length cap)) w (w2.setCell ⟨sb,1,none⟩ (.slice (some ⟨g,0,none⟩) n cap)):=by
 have hgs:g≠sb:=fun e=>h.apart (by rw [e];rfl)
 have lsb:=(zL h.blk);have hl:=h.len
 have hlen:(l.take n).length=n:=by rw [List.length_take];omega
 have blk2:=(T2.block sb (Qo lsb T1.size) (fun e=>hgs e.symm)).trans ((T1.block sb lsb (fun f=>f)).trans h.blk);refine ⟨⟨h.base,fun k hk=>h.baseR k hk,rec2_set blk2 _,?_,by simp [Value.ownBlock];exact hgs,h.room1,h.room2,by omega⟩,?_⟩
 · rw [hlen,List.map_take]
   exact hrow.setCell (p:=⟨sb,1,none⟩) (by simp [Value.ownBlock];exact hgs) _
 · exact Turned.setCell (((T1.mono (fun _ _ f=>f.elim))).step (T:=(· = g)) T2 (fun i _ e=>.inr (by rw [e];rfl))) (.inr (.inl rfl)) _
theorem stkUndoI_some {w:World} {B sb room g cap:Nat} {l:List Int} (h:StkI w B sb room (.slice (some ⟨g,0,none⟩) l.length cap) l) (n:Nat) (hn:n≤l.length) :
 Calls Try.prog 151 #[.pointer (some ⟨sb,0,none⟩),.int .i64 n] w fun e w'=>∃ v lv',e = .returned (.tuple #[v,.bool true])∧Row w' 2 1 v (l.length - n) ((l.drop n).map (Value.int .i64)).reverse∧(∀ k,v.ownBlock=some k→w.heap.size≤k)∧
  StkI w' B sb room lv' (l.take n)∧lv'.ownBlock=some g∧Turned (Mine2 sb (.slice (some ⟨g,0,none⟩) l.length cap)) w w':=by
 have hk:=hid h;have hr:=h.room2;have hl:=h.len;obtain ⟨c0,c1,f1⟩:=rec2_cells h.blk;have lsb:=(zL h.blk);have lg:=h.row.lt g rfl
 have hcl:l.length≤cap:=by
  rcases h.row.2 with ⟨e,_⟩ | ⟨_,_,_,e,_,hh,_⟩
  · cases e
  · injection e with _ _ e;omega
 have hd:decide ((n:Int) < 0)=false:=by simp
 have hd2:decide (l.length < n)=false:=by simp;omega
 have hgs:¬ sb=g:=fun e=>h.apart (by rw [e];rfl)
 have hcells:∀ c,(¬ cap=n→c=n)→∀ ad,some (⟨g,c,none⟩:Addr)=some ad→∀ j u,((l.drop n).map (Value.int .i64))[j]? = some u→w.cell? (ad.add j)=some u:=by
  intro c hc ad e j u hu
  injection e with e;subst e
  have hj:=(Qg.1 hu).1;simp at hj;rw [hc (by omega),Addr.add_lit];refine hk.out.row.cells rfl _ _ ?_;rw [Qp,List.getElem?_drop] at hu;rw [Qp];exact hu
 have hrl:(l.drop n).length=l.length - n:=List.length_drop
 by_cases hcn:cap=n
 · have hcn2:=hcn.symm
   subst hcn2;have hcl':=stkCloneI (w:=w) (ao:=some ⟨g,0,none⟩) (n:=0) (cap:=0) (xs:=[]) (by simp) (by simp) (by simp) (by simp) (by omega);have HCL:=hid hcl';have HZ:=hid (show l.length - n=0 from by omega);have HD:=hid (show l.drop n=[] from List.drop_eq_nil_of_le (by omega));clear hcells h hcl';go_enter Try.func151,Try.ntmps151
   go_wp2_with fail
   refine HCL.out.mono ?_
   rintro e w1 ⟨v,rfl,hv,hfr,T1⟩
   have hrv:=revI (w:=w1) (v:=v) (xs:=[]) hv (by simp);have HRV:=hid hrv;obtain ⟨av,capv,rfl⟩:=hv.shape;clear hrv
   go_wp2_with fail
   refine HRV.out.mono ?_
   rintro e w2 ⟨rfl,hv2,T2⟩
   have T12:=T1.step T2 (fun i hi e=>by have:=hfr i e;omega);have d1:=T12.cell0 c1;have f2:=T12.frozen lsb f1 (fun f=>f);have hrow2:=hk.out.row.turned0 T12;clear c0 c1 f1
   go_wp2_with (first
    | (refine clear_none _ rfl (.tmp 32) 24 rfl 2 Try.underlying24 _ _ _ rfl rfl ?_))
   go_ret2
   have hrow3:=hrow2.take (m:=n) (c:=n) hn (Qm _) (Qm _);rw [Nat.mul_one] at hrow3;obtain ⟨r1,r2⟩:=undo_closeI hk.out hn T12 (Turned.refl _ _) hrow3;refine ⟨_,_,rfl,?_,hfr,r1,rfl,r2⟩;rw [HZ.out,HD.out];exact hv2.setCell (p:=⟨sb,1,none⟩) (fun e=>by have q:w.heap.size≤sb:=hfr _ e;omega) _
 · have hcl':=stkCloneI (w:=w) (ao:=some ⟨g,n,none⟩) (n:=l.length - n) (cap:=cap - n) (xs:=(l.drop n).map (Value.int .i64)) (by simp) (by simp) (hcells n (fun _=>rfl)) (onesI _) (by omega)
   have HCL:=hid hcl';clear hcells h hcl';go_enter Try.func151,Try.ntmps151
   go_wp2_with fail
   refine HCL.out.mono ?_
   rintro e w1 ⟨v,rfl,hv,hfr,T1⟩
   have hrv:=revI (w:=w1) (v:=v) (xs:=l.drop n) (by rw [hrl];exact hv) (by omega);rw [hrl] at hrv;have HRV:=hid hrv;obtain ⟨av,capv,rfl⟩:=hv.shape;clear hrv
   go_wp2_with fail
   refine HRV.out.mono ?_
   rintro e w2 ⟨rfl,hv2,T2⟩
   have T12:=T1.step T2 (fun i hi e=>by have:=hfr i e;omega);have d1:=T12.cell0 c1;have f2:=T12.frozen lsb f1 (fun f=>f);have hrow2:=hk.out.row.turned0 T12
   have lsb2:sb < w2.heap.size:=by have:=T12.size;omega
   clear c0 c1 f1
   go_wp2_with (first
    | (refine clear_row _ rfl (.tmp 32) 24 rfl 2 (.int .i64 0) Try.underlying24 zeroVI rfl rfl g l.length cap n _ (l.length - n) _ hrow2 (by omega) rfl ?_;intro w3 hrow3 T3;have e1:=T3.cell d1 hgs;have f3:=T3.frozen lsb2 f2 hgs;clear d1 f2))
   go_ret2
   obtain ⟨r1,r2⟩:=undo_closeI hk.out hn T12 T3 hrow3;refine ⟨_,_,rfl,?_,hfr,r1,rfl,r2⟩;exact (hv2.turned T3 (fun k e s=>by have:=hfr k e;have s:k=g:=s;omega)).setCell (p:=⟨sb,1,none⟩) (fun e=>by have q:w.heap.size≤sb:=hfr _ e;omega) _
theorem stkUndoI_nil {w:World} {B sb room:Nat} (h:StkI w B sb room (.slice none 0 0) []) :
 Calls Try.prog 151 #[.pointer (some ⟨sb,0,none⟩),.int .i64 0] w fun e w'=>e = .returned (.tuple #[.slice none 0 0,.bool true])∧StkI w' B sb room (.slice none 0 0) []∧Turned (Mine2 sb (.slice none 0 0)) w w':=by
 have hk:=hid h;obtain ⟨c0,c1,f1⟩:=rec2_cells h.blk;have HCL:=hid (stkCloneI_nil w);have hrv:=revI (w:=w) (v:=.slice none 0 0) (xs:=[]) (Row.nil _ _ _) (by simp);have HRV:=hid hrv;have lsb:=(zL h.blk);clear h hrv;go_enter Try.func151,Try.ntmps151
 go_wp2_with fail
 refine HCL.out.mono ?_
 rintro e w1 ⟨rfl,rfl⟩
 go_wp2_with fail
 refine HRV.out.mono ?_
 rintro e w2 ⟨rfl,hv2,T2⟩
 have T3:Turned zN w w2:=T2.mono (fun i _ e=>by simp [Value.ownBlock] at e);have d1:=T3.cell0 c1;have f2:=T3.frozen lsb f1 (fun f=>f);clear c0 c1 f1
 go_wp2_with (first
  | (refine clear_none _ rfl (.tmp 32) 24 rfl 2 Try.underlying24 _ _ _ rfl rfl ?_))
 go_ret2
 have h2:=hk.out.turned0 T3;exact ⟨rfl,⟨h2.base,h2.baseR,rec2_set h2.blk _,Row.nil _ _ _,h2.apart,h2.room1,h2.room2,h2.len⟩,(T3.mono (fun _ _ f=>f.elim)).setCell (.inr (.inl rfl)) _⟩
theorem stkUndoI {w:World} {B sb room:Nat} {lv:Value} {l:List Int} (h:StkI w B sb room lv l) (n:Nat) (hn:n≤l.length) :
 Calls Try.prog 151 #[.pointer (some ⟨sb,0,none⟩),.int .i64 n] w fun e w'=>∃ v lv',e = .returned (.tuple #[v,.bool true])∧Row w' 2 1 v (l.length - n) ((l.drop n).map (Value.int .i64)).reverse∧(∀ k,v.ownBlock=some k→w.heap.size≤k)∧
  StkI w' B sb room lv' (l.take n)∧lv'.ownBlock=lv.ownBlock∧Turned (Mine2 sb lv) w w':=by
 rcases h.row.2 with ⟨rfl,hl⟩ | ⟨g,cap,cur,rfl,_⟩
 · obtain rfl:l=[]:=Qh hl
   obtain rfl:n=0:=by simpa using hn
   refine (stkUndoI_nil h).mono fun e w' ⟨he,h1,h2⟩=>⟨_,_,he,by simpa using Row.nil _ _ _,by simp [Value.ownBlock],by simpa using h1,rfl,h2⟩
 · exact stkUndoI_some h n hn
end Go.Proofs.Ytoihjobdfjajfaa

/- Part 4. -/
import Derived.Test.YtjbmbpabpaeklaaGreatDoorK2
import Derived.Test.YtjbmbpabpaeklaaGreatDoorK3
noncomputable section
open Bool renaming and_eq_true->Lc',and_true->Ma',eq_iff_iff->LZ',false_eq_true->Mi',not_eq_true'->MN',not_false->NH',not_true->Mc',or_eq_false_iff->NC',or_eq_true->LU',or_false->MP',true_and->LQ'
open Int renaming reduceBEq->MD',toNat_natCast->Ln'
open List renaming Pairwise->NV',all_append->Lv',all_cons->LE',all_eq_true->Le',all_nil->Mf',any_append->NM',any_cons->MA',any_eq_false->MQ',any_eq_true->LL',any_nil->Nf',append_assoc->Lt',append_nil->MK',cons->NO',cons_append->Mg',count_cons->NP',drop_eq_getElem_cons->LO',eq_nil_of_length_eq_zero->LB',ext_getElem?->Np',flatMap_cons->Mk',foldl_cons->Mu',getD->Ms',getD_eq_getElem?_getD->NW',getElem?_append_left->LD',getElem?_append_right->Ls',getElem?_drop->Mh',getElem?_eq_getElem->Lb',getElem?_eq_none_iff->MS',getElem?_eq_some_iff->La',getElem?_replicate->NK',getElem?_set_ne->My',getElem?_set_self->Md',getElem?_take_of_lt->Lw',getElem?_zip_eq_some->Ob',getElem_mem->Lu',getElem_of_mem->LW',getLast?_eq_none_iff->Ni',length_append->Lf',length_cons->Ld',length_drop->LK',length_filter_le->NA',length_map->LH',length_nil->Lh',length_range->MG',length_replicate->Ny',length_take->LC',map_cons->LJ',mem_append->Lo',mem_append_left->LN',mem_append_right->LT',mem_cons->Lq',mem_filter->MM',mem_flatMap->Ng',mem_map->Lx',mem_of_find?_eq_some->Oc',mem_of_getElem?->Lj',mem_singleton->Lp',nil_append->Mj',nodup_append->Ml',nodup_cons->Nl',not_mem_nil->NJ',of_mem_zip->Oa',pairwise_append->ML',pairwise_cons->Mr',range->LY',replicate->Ll',replicate_succ->MR',set_cons_succ->Od',takeWhile_append_dropWhile->MH',take_append_drop->Mm',take_length->NT'
open Nat renaming add_assoc->MC',add_mul->LP',add_zero->ME',ble->Mq',ble_eq_true_of_le->MV',blt->LF',le_refl->Lg',le_trans->Lr',lt_of_lt_of_le->MB',lt_or_ge->NR',mod_eq_of_lt->Nt',mul_le_mul->NG',mul_le_mul_right->LA',mul_one->Ne',pow_le_pow_right->ND',zero_add->LM',zero_le->Mb'
open Option renaming bind_assoc->LX',bind_some->KY',getD_some->Mo',some->LI'
namespace Go.Pl
open Go Go.RowKit Go.Sx Go.Qx
def bf (N:Nat)(k:Int):Bool:=decide (0<=k)&&decide (k<(N:Int))
def sZ (N:Nat)(l:List dm):Bool:=bC cK (l.map (·.bq))&&(l.all (λf=>fK f.bq)&&l.all λf=>bf N f.iR)
def jd (N:Nat)(x:aF):Bool :=
 if x.af=3 then x.ai.isEmpty&&decide (x.Lo<=x.Hi) else if x.af=4 then x.ai.isEmpty&&decide ((x.Text.size:Int)<=64) else
 if x.af=6 then x.ai.isEmpty&&qw x.Text else if x.af=19 then x.ai.isEmpty&&qz x.Text else
 if x.af=1\/x.af=2\/x.af=5\/x.af=7\/x.af=8\/x.af=9\/x.af=11\/x.af=15 then x.ai.isEmpty else
 if x.af=10 then decide ((x.ai.length:Int)<=4) else if x.af=12 then (x.ai.length:Int)==2 else
 if x.af=14 then decide (1<=(x.ai.length:Int))&&decide ((x.ai.length:Int)<=5) else
 if x.af=16\/x.af=17 then decide (1<=(x.ai.length:Int)) else if x.af=18 then (x.ai.length:Int)==1 else
 if x.af=13 then sZ N x.aS&&(x.ai.isEmpty&&(bf N x.Rest.1&&bf N x.Rest.2)) else false
def qG (r:Int×Int):Bool:=r.1==0&&r.2==0
def fC (N:Nat)(x:aF):Bool :=
 x.ai.all (bf N)&&((x.af==3||(x.Lo==0&&x.Hi==0))&&((x.af==4||x.af==6||x.af==19||bU x.Text ⟨#[]⟩)&&((x.af==13||(x.aS.isEmpty&&qG x.Rest))&&jd N x)))
theorem KQ {α:Type}(l:List α):((l.length:Int)==0)=l.isEmpty:=by cases l<;>simp<;>omega
theorem iw' (r:Int×Int):Dh r (0,0)=qG r:=by unfold Dh qG; simp
theorem KX (t:ay)(k:Int):yN t k=some (bf t.aj.length k):=by unfold yN bf;cases decide (0<=k)<;>rfl
theorem dn {i n:Nat}(h:i<n):decide ((i:Int)<(n:Int))=true:=decide_eq_true (by omega)
theorem qr' (q:dm->Bool)(l:List dm):(LY' l.length).all (wC (λa b=>cK a.bq b.bq) q l)=(bC cK (l.map (·.bq))&&l.all q):=by
 rw [Yk];congr 1;rw [LZ',Qf,Qf];constructor
 ·intro h i h1 hi;have:=h i h1 (by simpa using hi)
  simpa using this
 ·intro h i h1 hi;have:=h i h1 (by simpa using hi)
  simpa using this
theorem dY' {step:Int->Option (Fl Int (Sum Unit Bool))}(q:dm->Bool)(l:List dm)
 (hst:∀ (i:Nat) (x:dm),l[i]?=some x->step (i:Int)=some (if wC (λa b=>cK a.bq b.bq) q l i=true then .next ((i+1:Nat):Int) else .done (.inr false)))
 (hend:step (l.length:Int)=some (.done (.inl ()))):iter step (l.length+1) 0=some (if (bC cK (l.map (·.bq))&&l.all q)=true then .inl () else .inr false):=by
 have:=QB (step:=step) (λa b:dm=>cK a.bq b.bq) q l false hst hend;rw [<- Yk,qr'] at this;exact this
theorem Cd' (t:ay)(x:aF)(hk:x.ai.length<=4194304)(hf:x.aS.length<=4194304):Oj t x=some (fC t.aj.length x):=by
 have l1:iter (Rm t x) (x.ai.length+1) 0=some (if x.ai.all (bf t.aj.length)=true then .inl () else .inr false):=by
  refine lF x.ai (bf t.aj.length) (λi=>(i:Int)) () false ?_ ?_
  ·intro i k hx;have hi:i<x.ai.length:=(La'.1 hx).1;unfold Rm;rw [dn hi,aR hx];simp only [cond_true,KY',KX,aV];rw [bF i (by omega)]
   exact yV _ _
  ·unfold Rm;simp
 have l2:iter (OO t x) (x.aS.length+1) 0=some (if (bC cK (x.aS.map (·.bq))&&x.aS.all λf=>bf t.aj.length f.iR&&fK f.bq)=true then .inl () else .inr false):=by
  refine dY' (λf=>bf t.aj.length f.iR&&fK f.bq) x.aS ?_ ?_
  ·intro i f hx;have hi:i<x.aS.length:=(La'.1 hx).1;unfold OO;rw [dn hi,aR hx];simp only [cond_true,KY',KX,YR,aV,jg];have hq:((bif !bf t.aj.length f.iR then some true else some (!fK f.bq)).bind λq=>some q)=some (!(bf t.aj.length f.iR&&fK f.bq)):=by cases bf t.aj.length f.iR<;>cases fK f.bq<;>rfl
   rw [jg] at hq;rw [hq];simp only [KY'];refine Lf (λa b:dm=>cK a.bq b.bq) (λf=>bf t.aj.length f.iR&&fK f.bq) x.aS i f hx (by omega) (λh=>by rw [h]; rfl) (λh h0=>by subst h0; rw [h]; rfl) (λh j y hj hy zx=>?_)
   subst hj;rw [h,zx,Jg];simp only [Mc',cond_false,cond_true,KY',PG];by_cases hc:cK y.bq f.bq<0
   ·have:¬ 0<=cK y.bq f.bq:=by omega
    simp [hc,this]
   ·have:0<=cK y.bq f.bq:=by omega
    simp [hc,this]
  ·unfold OO;simp
 unfold Oj;simp only [dw,jg,KX,iw',Vq,ki',KQ,dp'];rw [l1,l2];unfold fC;cases x.ai.all (bf t.aj.length)
 ·rfl
 simp only [KY',if_true,aL];have hF:(bC cK (x.aS.map (·.bq))&&x.aS.all λf=>bf t.aj.length f.iR&&fK f.bq)=sZ t.aj.length x.aS:=by unfold sZ;congr 1;rw [LZ',Lc',Le',Le',Le'];simp only [Lc'];exact ⟨λh=>⟨λf hf=>(h f hf).2,λf hf=>(h f hf).1⟩,λh f hf=>⟨h.2 f hf,h.1 f hf⟩⟩
 rw [hF];unfold jd;simp only [bne];generalize sZ t.aj.length x.aS=A;generalize bf t.aj.length x.Rest.1=B;generalize bf t.aj.length x.Rest.2=C;generalize qG x.Rest=D;generalize x.aS.isEmpty=E;generalize bU x.Text ⟨#[]⟩=G;generalize (x.Lo==0)=H;generalize (x.Hi==0)=J;generalize x.ai.isEmpty=M;generalize qw x.Text=O;generalize qz x.Text=Q;generalize decide (x.Lo<=x.Hi)=R;generalize decide ((x.Text.size:Int)<=64)=T;generalize decide ((x.ai.length:Int)<=4)=U;generalize ((x.ai.length:Int)==2)=V;generalize ((x.ai.length:Int)==1)=W;generalize decide (1<=(x.ai.length:Int))=X;generalize decide ((x.ai.length:Int)<=5)=Y;by_cases hk:x.af=1\/x.af=2\/x.af=3\/x.af=4\/x.af=5\/x.af=6\/x.af=7\/x.af=8\/x.af=9\/x.af=10\/x.af=11\/x.af=12\/x.af=13\/x.af=14\/x.af=15\/x.af=16\/x.af=17\/x.af=18\/x.af=19
 ·rcases hk with h | h | h | h | h | h | h | h | h | h | h | h | h | h | h | h | h | h | h<;>rw [h]<;>cases G<;>cases H<;>cases J<;>cases E<;>cases D<;>simp
  all_goals first
   | rfl
   | (cases M<;>rfl)
   | (cases X<;>rfl)
   | (cases A<;>cases M<;>cases B<;>rfl)
 ·simp only [not_or] at hk;obtain ⟨h1,h2,h3,h4,h5,h6,h7,h8,h9,h10,h11,h12,NP,NQ,h15,h16,Bo,h18,h19⟩:=hk;have e:∀ {n:Int},¬ x.af=n->(x.af==n)=false:=λh=>by simpa using h
  simp only [e h1,e h2,e h3,e h4,e h5,e h6,e h7,e h8,e h9,e h10,e h11,e h12,e NP,e NQ,e h15,e h16,e Bo,e h18,e h19,if_neg h3,if_neg h4,if_neg h6,if_neg h19,if_neg h10,if_neg h12,if_neg NQ,if_neg h18,if_neg NP,h1,h2,h5,h7,h8,h9,h11,h15,h16,Bo,or_self,if_false];cases G<;>cases H<;>cases J<;>cases E<;>cases D<;>rfl
def LB (x:aF):Bool :=
 (x.af==3||(x.Lo==0&&x.Hi==0))&&((x.af==4||x.af==6||x.af==19||bU x.Text ⟨#[]⟩) &&
   ((x.af==10||x.af==12||x.af==14||x.af==16||x.af==17||x.af==18||x.ai.isEmpty)&&(x.af==13||(x.aS.isEmpty&&qG x.Rest))))
def KA (l:List dm):Bool:=bC cK (l.map (·.bq))&&l.all λf=>fK f.bq
def K4 (x:aF):Bool :=
 if x.af=3 then decide (x.Lo<=x.Hi) else if x.af=4 then decide ((x.Text.size:Int)<=64) else
 if x.af=6 then qw x.Text else if x.af=19 then qz x.Text else
 if x.af=1\/x.af=2\/x.af=5\/x.af=7\/x.af=8\/x.af=9\/x.af=11\/x.af=15 then true else
 if x.af=10 then decide ((x.ai.length:Int)<=4) else if x.af=12 then (x.ai.length:Int)==2 else
 if x.af=14 then decide (1<=(x.ai.length:Int))&&decide ((x.ai.length:Int)<=5) else
 if x.af=16\/x.af=17 then decide (1<=(x.ai.length:Int)) else if x.af=18 then (x.ai.length:Int)==1 else
 if x.af=13 then KA x.aS else false
def tK (x:aF):List Int:=x.ai++x.aS.map (·.iR)++(if x.af=13 then [x.Rest.1,x.Rest.2] else [])
theorem Gr (k:Int):(k=1\/k=2\/k=3\/k=4\/k=5\/k=6\/k=7\/k=8\/k=9\/k=10\/k=11\/k=12\/k=13\/k=14\/k=15\/k=16\/k=17\/k=18\/k=19)\/∀ n:Int,1<=n->n<=19->(k==n)=false:=by
 by_cases h:1<=k/\k<=19
 ·left; omega
 ·right;intro n h1 h2;have:k≠n:=by omega
  simpa using this
theorem nS' (x:aF):Sy x=some (LB x):=by
 unfold Sy LB;simp only [jg,iw',KQ];generalize qG x.Rest=D;generalize x.aS.isEmpty=E;generalize bU x.Text ⟨#[]⟩=G;generalize (x.Lo==0)=H;generalize (x.Hi==0)=J;generalize x.ai.isEmpty=M;rcases Gr x.af with h | h
 ·rcases h with h | h | h | h | h | h | h | h | h | h | h | h | h | h | h | h | h | h | h<;>rw [h]<;>cases G<;>cases H<;>cases J<;>cases E<;>cases D<;>cases M<;>rfl
 ·simp only [h 3 (by omega) (by omega),h 4 (by omega) (by omega),h 6 (by omega) (by omega),h 19 (by omega) (by omega),h 10 (by omega) (by omega),h 12 (by omega) (by omega),h 14 (by omega) (by omega),h 16 (by omega) (by omega),h 17 (by omega) (by omega),h 18 (by omega) (by omega),h 13 (by omega) (by omega)]
  cases G<;>cases H<;>cases J<;>cases E<;>cases D<;>cases M<;>rfl
theorem uU' (l:List dm)(hl:l.length<=4194304):RP l=some (KA l):=by
 have l2:iter (OB l) (l.length+1) 0=some (if (bC cK (l.map (·.bq))&&l.all λf=>fK f.bq)=true then .inl () else .inr false):=by
  refine dY' (λf=>fK f.bq) l ?_ ?_
  ·intro i f hx;have hi:i<l.length:=(La'.1 hx).1;unfold OB;rw [dn hi,aR hx];simp only [cond_true,KY',XP,aV,jg];refine Lf (λa b:dm=>cK a.bq b.bq) (λf=>fK f.bq) l i f hx (by omega) (λh=>by rw [h]; rfl) (λh h0=>by subst h0; rw [h]; rfl) (λh j y hj hy zx=>?_)
   subst hj;rw [h,zx,Jg];simp only [Mc',cond_false,cond_true,KY',jT'];by_cases hc:cK y.bq f.bq<0
   ·have:¬ 0<=cK y.bq f.bq:=by omega
    simp [hc,this]
   ·have:0<=cK y.bq f.bq:=by omega
    simp [hc,this]
  ·unfold OB;simp
 unfold RP KA;rw [dw,l2];cases (bC cK (l.map (·.bq))&&l.all λf=>fK f.bq)<;>rfl
theorem nu' (x:aF)(hf:x.aS.length<=4194304):Rq x=some (K4 x):=by
 unfold Rq K4;simp only [jg,fC',wo',uU' x.aS hf];generalize KA x.aS=A;generalize qw x.Text=O;generalize qz x.Text=Q;generalize decide (x.Lo<=x.Hi)=R;generalize decide ((x.Text.size:Int)<=64)=T;generalize decide ((x.ai.length:Int)<=4)=U;generalize ((x.ai.length:Int)==2)=V;generalize ((x.ai.length:Int)==1)=W;generalize decide (1<=(x.ai.length:Int))=X;generalize decide ((x.ai.length:Int)<=5)=Y;rcases Gr x.af with h | h
 ·rcases h with h | h | h | h | h | h | h | h | h | h | h | h | h | h | h | h | h | h | h<;>rw [h]<;>first | rfl | (cases X<;>rfl)
 ·have e:∀ n:Int,1<=n->n<=19->¬ x.af=n:=λn h1 h2=>by simpa using h n h1 h2
  simp only [h 1 (by omega) (by omega),h 2 (by omega) (by omega),h 5 (by omega) (by omega),h 7 (by omega) (by omega),h 8 (by omega) (by omega),h 9 (by omega) (by omega),h 11 (by omega) (by omega),h 15 (by omega) (by omega),h 3 (by omega) (by omega),h 4 (by omega) (by omega),h 6 (by omega) (by omega),h 19 (by omega) (by omega),h 10 (by omega) (by omega),h 12 (by omega) (by omega),h 14 (by omega) (by omega),h 16 (by omega) (by omega),h 17 (by omega) (by omega),h 18 (by omega) (by omega),h 13 (by omega) (by omega),
   e 1 (by omega) (by omega),e 2 (by omega) (by omega),e 5 (by omega) (by omega),e 7 (by omega) (by omega),e 8 (by omega) (by omega),e 9 (by omega) (by omega),e 11 (by omega) (by omega),e 15 (by omega) (by omega),e 3 (by omega) (by omega),e 4 (by omega) (by omega),e 6 (by omega) (by omega),e 19 (by omega) (by omega),e 10 (by omega) (by omega),e 12 (by omega) (by omega),e 14 (by omega) (by omega),e 16 (by omega) (by omega),e 17 (by omega) (by omega),e 18 (by omega) (by omega),e 13 (by omega) (by omega),or_self,if_false]
  rfl
theorem RA {α β:Type}(f:α->β):∀ (l:List α) (s:List β),l.foldl (λs x=>s++[f x]) s=s++l.map f
 | [],s=>by simp
 | x::r,s=>by rw [Mu',RA f r]; simp
theorem yU' (x:aF)(hk:x.ai.length<=1100000)(hf:x.aS.length<=1100000):Sb x=some (tK x):=by
 unfold Sb iY tK;rw [dX (by omega)]
 simp only [KY',dw];have key:=nK (σ:=List Int) (step:=GJ x) x.aS (λs i=>(s,(i:Int))) (λs f=>s++[f.iR]) (λi s=>s.length<=x.ai.length+i) (λs=>s)
  ?_ ?_ x.ai (by simp) _ (Lg' _)
 ·have e:iter (GJ x) (x.aS.length+1) (x.ai,0)=iter (GJ x) (x.aS.length+1) (x.ai,((0:Nat):Int)):=rfl;rw [e,key,RA];simp only [KY'];by_cases h:x.af=13
  ·rw [show (x.af==13)=true by simpa using h,if_pos h,dX (by simp only [Lf',LH',Ld',Lh']; omega)]
   rfl
  ·rw [show (x.af==13)=false by simpa using h,if_neg h,MK']
   rfl
 ·intro i s f hx hI;have hi:i<x.aS.length:=(La'.1 hx).1;refine ⟨?_,by simp only [Lf',Ld',Lh']; omega⟩
  unfold GJ;simp only [aV];rw [dn hi,aR hx];simp only [cond_true,KY'];rw [dX (by simp only [Ld',Lh']; omega),bF i (by omega)]
  rfl
 ·intro s _;unfold GJ;simp
theorem wt' (N:Nat)(x:aF):(LB x&&(K4 x&&(tK x).all (bf N)))=fC N x:=by
 unfold LB K4 fC jd tK sZ KA;simp only [Lv',List.all_map];have hE:x.aS.isEmpty=true->x.aS=[]:=List.isEmpty_iff.1;have hM:x.ai.isEmpty=true->x.ai=[]:=List.isEmpty_iff.1;rcases Gr x.af with h | h
 ·have hK:x.ai.isEmpty=true->x.ai.all (bf N)=true:=λe=>by rw [hM e]; rfl
  have hF:x.aS.isEmpty=true->(x.aS.all (bf N∘λf=>f.iR))=true:=λe=>by rw [hE e]; rfl
  have hcomp:(x.aS.all λf=>bf N f.iR)=x.aS.all (bf N∘λf=>f.iR):=rfl;rw [hcomp];generalize x.aS.all (bf N∘λf=>f.iR)=a1 at hF;generalize x.ai.all (bf N)=a2 at hK;generalize x.aS.isEmpty=E at hF;generalize x.ai.isEmpty=M at hK;generalize qG x.Rest=D;generalize bU x.Text ⟨#[]⟩=G;generalize (x.Lo==0)=H;generalize (x.Hi==0)=J;rcases h with h | h | h | h | h | h | h | h | h | h | h | h | h | h | h | h | h | h | h<;>rw [h]<;>simp <;>
   cases G<;>cases H<;>cases J<;>cases E<;>cases D<;>cases M<;>simp_all
  all_goals first
   | (simp only [Bool.and_assoc]; done)
   | (cases a2<;>simp; done)
 ·have e:∀ n:Int,1<=n->n<=19->¬ x.af=n:=λn h1 h2=>by simpa using h n h1 h2
  simp only [e 1 (by omega) (by omega),e 2 (by omega) (by omega),e 5 (by omega) (by omega),e 7 (by omega) (by omega),e 8 (by omega) (by omega),e 9 (by omega) (by omega),e 11 (by omega) (by omega),e 15 (by omega) (by omega),e 3 (by omega) (by omega),e 4 (by omega) (by omega),e 6 (by omega) (by omega),e 19 (by omega) (by omega),e 10 (by omega) (by omega),e 12 (by omega) (by omega),e 14 (by omega) (by omega),e 16 (by omega) (by omega),e 17 (by omega) (by omega),e 18 (by omega) (by omega),e 13 (by omega) (by omega),or_self,if_false]
  simp
def iC (x:aF):Bool:=x.af==16||x.af==17||x.af==18
def Em (ns:List aF):Prop:=∀ (i:Nat) (x:aF),ns[i]?=some x->iC x=true->∀ k∈x.ai,(i:Int)<k
def mM (ns:List aF):Bool:=ns.all (fC ns.length)
theorem te' (x:aF):PL x.af=some (iC x):=by unfold PL iC;cases (x.af==16)<;>cases (x.af==17)<;>rfl
theorem Wu (x:aF):QC x=some (iC x):=by unfold QC iC;cases (x.af==16)<;>cases (x.af==17)<;>rfl
theorem yu {N:Nat}{x:aF}(h:fC N x=true):∀ k∈x.ai,bf N k=true:=by unfold fC at h;simp only [Lc'] at h;exact Le'.1 h.1
theorem nE {N:Nat}{k:Int}(h:bf N k=true):∃ j:Nat,k=(j:Int)/\j<N:=by unfold bf at h;simp only [Lc',decide_eq_true_eq] at h;exact ⟨k.toNat,by omega,by omega⟩
def Rk (ns:List aF)(r:Nat->Nat):Prop:=∀ (i:Nat) (x:aF),ns[i]?=some x->iC x=true->∀ k∈x.ai,r k.toNat<r i
def Mc (ns:List aF):Prop:=∃ r,Rk ns r
open Classical in
def nQ (ns:List aF):Bool:=decide (Mc ns)
theorem Mi {ns:List aF}:nQ ns=true↔Mc ns:=by
 unfold nQ
 classical exact decide_eq_true_iff
theorem Em.NR {ns:List aF}(h:Em ns)(hT:mM ns=true):nQ ns=true :=
 Mi.2 ⟨λi=>ns.length-i,λi x hx hb k hk=>by obtain ⟨j,rfl,hj⟩:=nE (yu (Le'.1 hT x (Lj' hx)) k hk);have:=h i x hx hb _ hk;show ns.length-((j:Int)).toNat<ns.length-i;rw [Ln'];omega⟩
def Gd (ns:List aF)(D:Nat->Prop):Prop:=∃ r:Nat->Nat,∀ (i:Nat) (x:aF),D i->ns[i]?=some x->iC x=true->∀ k∈x.ai,D k.toNat/\r k.toNat<r i
theorem jt' (r:Nat->Nat):∀ (l:List Int) (k:Int),k∈l->r k.toNat<=(l.map λk=>r k.toNat).sum
 | [],_,h=>by cases h
 | y::l,k,h=>by
   rw [LJ',List.sum_cons];rcases Lq'.1 h with rfl | h
   ·omega
   ·have:=jt' r l k h; omega
theorem Gd.add {ns:List aF}{D D':Nat->Prop}(h:Gd ns D){i:Nat}{x:aF}(hx:ns[i]?=some x)(hk:iC x=true->∀ k∈x.ai,D k.toNat)(hD:∀ j,D' j↔D j\/j=i):Gd ns D':=by
 obtain ⟨r,hr⟩:=h;by_cases hi:D i
 ·have e:∀ j,D' j↔D j:=λj=>(hD j).trans ⟨λh=>h.elim id (λh=>by rw [h]; exact hi),.inl⟩
  exact ⟨r,λj y h1 h2 h3 k h4=>by obtain ⟨k1,k2⟩:=hr j y ((e j).1 h1) h2 h3 k h4;exact ⟨(e _).2 k1,k2⟩⟩
 ·refine ⟨λj=>if j=i then 1+(x.ai.map λk=>r k.toNat).sum else r j,λj y h1 h2 h3 k h4=>?_⟩
  by_cases hj:j=i
  ·subst hj;rw [hx] at h2;cases h2;have hDk:=hk h3 k h4;have hne:k.toNat≠j:=λe=>hi (e▸hDk);refine ⟨(hD _).2 (.inl hDk),?_⟩;simp only [if_neg hne,if_true];have:=jt' r x.ai k h4;omega
  ·obtain ⟨k1,k2⟩:=hr j y (((hD j).1 h1).resolve_right hj) h2 h3 k h4;have hne:k.toNat≠i:=λe=>hi (e▸k1);refine ⟨(hD _).2 (.inl k1),?_⟩;simp only [if_neg hne,if_neg hj];exact k2
theorem Gd.NR {ns:List aF}{D:Nat->Prop}(h:Gd ns D)(hD:∀ j,j<ns.length->D j):Mc ns:=by obtain ⟨r,hr⟩:=h;exact ⟨r,λi x hx hb k hk=>(hr i x (hD i (La'.1 hx).1) hx hb k hk).2⟩
theorem Mc.small {ns:List aF}(h:Mc ns)(hT:mM ns=true):∃ r,Rk ns r/\∀ i,i<ns.length->r i<ns.length:=by
 obtain ⟨r,hr⟩:=h;have mono:∀ (l:List Nat) (a b:Nat),a<=b->(l.countP λj=>decide (j<a))<=l.countP λj=>decide (j<b):=λl a b hab =>
  List.countP_mono_left λx _ hx=>by simp at hx ⊢; omega
 have strict:∀ (l:List Nat) (a b:Nat),a<b->a∈l->(l.countP λj=>decide (j<a))<l.countP λj=>decide (j<b):=by
  intro l
  induction l with
  | nil=>intro a b _ h; cases h
  | cons y l ih =>
    intro a b hab hm;rw [List.countP_cons,List.countP_cons];rcases Lq'.1 hm with rfl | hm
    ·have:=mono l a b (by omega)
     simp only [Nat.lt_irrefl,decide_false,hab,decide_true,if_true];simp;omega
    ·have h1:=ih a b hab hm;by_cases h2:y<a
     ·simp only [h2,show y<b by omega,decide_true,if_true]; omega
     ·simp only [h2,decide_false];by_cases h3:y<b<;>simp [h3]<;>omega
 have hlt:∀ (l:List Nat) (a:Nat),a∈l->(l.countP λj=>decide (j<a))<l.length:=λl a hm=>by
  have h1:=strict l a (a+1) (by omega) hm
  have h2:(l.countP λj=>decide (j<a+1))<=l.length:=List.countP_le_length;omega
 refine ⟨λi=>((LY' ns.length).map r).countP λj=>decide (j<r i),λi x hx hb k hk=>?_,λi hi=>?_⟩
 ·obtain ⟨j,rfl,hj⟩:=nE (yu (Le'.1 hT x (Lj' hx)) k hk);exact strict _ _ _ (hr i x hx hb _ hk) (Lx'.2 ⟨j,by simpa using hj,by simp⟩)
 ·have:=hlt ((LY' ns.length).map r) (r i) (Lx'.2 ⟨i,by simpa using hi,rfl⟩)
  simpa using this
def DF (ns:List aF)(st:List Int)(j:Nat):Prop:=st[j]?=some 2\/∃ x,ns[j]?=some x/\iC x=false
theorem gN':∀ (l:List Int) (i:Nat),l[i]?=some 0->(l.set i 1).count 0+1=l.count 0
 | [],i,h=>by simp at h
 | x::l,0,h=>by
   have:x=0:=by simpa using h
   subst this;simp
 | x::l,i+1,h=>by
   have:=gN' l i (by simpa using h)
   rw [Od',NP',NP'];omega
theorem cU':∀ (l:List Int) (i:Nat),(l.set i 2).count 0<=l.count 0
 | [],i=>by simp
 | x::l,0=>by rw [List.set_cons_zero,NP',NP'];simp
 | x::l,i+1=>by have:=cU' l i;rw [Od',NP',NP'];omega
structure Eg (ns:List aF)(st st':List Int):Prop where
 len:st'.length=ns.length
 val:∀ (j:Nat) e,st'[j]?=some e->e=0\/e=1\/e=2
 gd:Gd ns (DF ns st')
 opn:∀ j:Nat,st'[j]?=some 1↔st[j]?=some 1
 NS:∀ j:Nat,st[j]?=some 2->st'[j]?=some 2
 TR:st'.count 0<=st.count 0
theorem tx' (t:ay)(hT:mM t.aj=true)(hk:∀ x∈t.aj,x.ai.length<=1100000) :
 ∀ (fuel i:Nat) (st:List Int),st.count 0<fuel->i<t.aj.length->Eg t.aj st st ->
  ∃ b st',tL fuel (i:Int) st t ()=some (b,st')/\(b=true->Eg t.aj st st'/\DF t.aj st' i)/\(b=false->∀ r,Rk t.aj r->(∀ o:Nat,st[o]?=some 1->r i<r o)->False):=by
 intro fuel
 induction fuel with
 | zero=>intro i st h1; omega
 | succ f ih =>
   intro i st h1 h2 hS;show ∃ b st',VP f (tL f) (i:Int) st t ()=some (b,st')/\_;have h3:=hS.len;have hi:i<st.length:=by omega
   have hst:=Lb' hi;have hn:=Lb' h2;generalize st[i]=e at hst;generalize hx:t.aj[i]=x at hn;have hxm:x∈t.aj:=Lj' hn;unfold VP;simp only [aR hst,aR hn,Ln',hst,KY',te',dw,aV];by_cases hq:e=0/\iC x=true
   ·obtain ⟨he,hb⟩:=hq;subst he;rw [hb];simp only [bne_self_eq_false,cond_false,Mc',KY'];have hke:=hk x hxm;have hz:=gN' st i hst;have hset:∀ j:Nat,(st.set i 1)[j]?=some 1↔st[j]?=some 1\/j=i:=λj=>by
     by_cases e:i=j
     ·subst e; rw [Md' hi]; simp
     ·rw [My' e]; exact ⟨.inl,λh=>h.resolve_right (Ne.symm e)⟩
    have lQ':∀ j:Nat,(st.set i 1)[j]?=some 2↔st[j]?=some 2:=λj=>by
     by_cases e:i=j
     ·subst e; rw [Md' hi,hst]; simp
     ·rw [My' e]
    have hS1:Eg t.aj (st.set i 1) (st.set i 1):=by
     refine ⟨by simpa using h3,λj e hj=>?_,?_,λ_=>Iff.rfl,λ_ h=>h,Lg' _⟩
     ·by_cases e1:i=j
      ·subst e1; rw [Md' hi] at hj; simp at hj; omega
      ·rw [My' e1] at hj; exact hS.val j e hj
     ·have e:∀ j,DF t.aj (st.set i 1) j↔DF t.aj st j:=λj=>or_congr (lQ' j) Iff.rfl;obtain ⟨r,hr⟩:=hS.gd;exact ⟨r,λj y a1 a2 a3 k a4=>by obtain ⟨k1,k2⟩:=hr j y ((e j).1 a1) a2 a3 k a4;exact ⟨(e _).2 k1,k2⟩⟩
    have key:∀ (m a k:Nat) (s:List Int),a+m=x.ai.length->m+1<=k->Eg t.aj (st.set i 1) s->(∀ (q:Nat) (y:Int),q<a->x.ai[q]?=some y->DF t.aj s y.toNat) ->
     (∃ s',iter (vF t x (tL f)) k ((a:Int),s)=some (.inl s')/\Eg t.aj (st.set i 1) s'/\∀ y∈x.ai,DF t.aj s' y.toNat) \/
     ∃ s',iter (vF t x (tL f)) k ((a:Int),s)=some (.inr (false,s'))/\∀ r,Rk t.aj r->(∀ o:Nat,st[o]?=some 1->r i<r o)->False:=by
     intro m
     induction m with
     | zero =>
       intro a k s b1 b2 b3 b4;obtain ⟨k,rfl⟩:∃ m,k=m+1:=⟨k-1,by omega⟩
       have e:a=x.ai.length:=by omega
       subst e;have:vF t x (tL f) ((x.ai.length:Int),s)=some (.done (.inl s)):=by unfold vF;simp
       exact .inl ⟨s,by simp only [iter,this,KY'],b3,λy hy=>by obtain ⟨q,hq,e⟩:=LW' hy;exact b4 q y hq (by rw [Lb' hq,e])⟩
     | succ m ihm =>
       intro a k s b1 b2 b3 b4;obtain ⟨k,rfl⟩:∃ m,k=m+1:=⟨k-1,by omega⟩
       have ha:a<x.ai.length:=by omega
       have hka:=Lb' ha;have hkm:=Lu' ha;obtain ⟨j,hj1,hj3⟩:=nE (yu (Le'.1 hT x hxm) _ hkm);obtain ⟨b,s',c1,c2,c3⟩:=ih j s (by have:=b3.TR; omega) hj3 ⟨b3.len,b3.val,b3.gd,λ_=>Iff.rfl,λ_ h=>h,Lg' _⟩
       cases b with
       | true =>
         obtain ⟨c4,c5⟩:=c2 rfl;have:vF t x (tL f) ((a:Int),s)=some (.next (((a+1:Nat):Int),s')):=by
          unfold vF;rw [dn ha,aR hka,hj1];simp only [cond_true,KY',aV];rw [c1,bF a (by omega)]
          rfl
         simp only [iter,this,KY'];refine ihm (a+1) k s' (by omega) (by omega) ⟨c4.len,c4.val,c4.gd,λq=>(c4.opn q).trans (b3.opn q),λq hq=>c4.NS q (b3.NS q hq),Lr' c4.TR b3.TR⟩ (λq y hq hy=>?_)
         by_cases hqa:q=a
         ·subst hqa;rw [hka] at hy;cases hy;rw [hj1,Ln'];exact c5
         ·exact (b4 q y (by omega) hy).imp (λh=>c4.NS _ h) id
       | false =>
         have:vF t x (tL f) ((a:Int),s)=some (.done (.inr (false,s'))):=by unfold vF;rw [dn ha,aR hka,hj1];simp only [cond_true,KY',aV];rw [c1];rfl
         refine .inr ⟨s',by simp only [iter,this,KY'],λr hr ho=>c3 rfl r hr λo Ii=>?_⟩
         have hrk:r j<r i:=by have:=hr i x hn hb _ hkm;rwa [hj1,Ln'] at this
         rcases (hset o).1 ((b3.opn o).1 Ii) with h | rfl
         ·exact Nat.lt_trans hrk (ho o h)
         ·exact hrk
    have e0:iter (vF t x (tL f)) (x.ai.length+1) (0,st.set i 1)=iter (vF t x (tL f)) (x.ai.length+1) (((0:Nat):Int),st.set i 1):=rfl;rw [e0];rcases key x.ai.length 0 (x.ai.length+1) (st.set i 1) (by omega) (Lg' _) hS1 (λq y hq=>by omega) with ⟨s',c1,c2,c3⟩ | ⟨s',c1,c2⟩
    ·rw [c1];have hi':i<s'.length:=by rw [c2.len]; exact h2
     have hs':=Lb' hi';have hs1:s'[i]?=some 1:=(c2.opn i).2 ((hset i).2 (.inr rfl));simp only [KY',aL,aR hs',hs'];refine ⟨true,s'.set i 2,rfl,λ_=>⟨⟨by simpa using c2.len,λj e hj=>?_,?_,λj=>?_,λj hj=>?_,?_⟩,.inl (Md' hi')⟩,λh=>by cases h⟩
     ·by_cases e1:i=j
      ·subst e1; rw [Md' hi'] at hj; simp at hj; omega
      ·rw [My' e1] at hj; exact c2.val j e hj
     ·refine Gd.add c2.gd hn (λ_=>c3) λj=>?_;unfold DF;by_cases e1:i=j
      ·subst e1; rw [Md' hi']; simp
      ·rw [My' e1]; exact ⟨.inl,λh=>h.resolve_right (Ne.symm e1)⟩
     ·by_cases e1:i=j
      ·subst e1; rw [Md' hi',hst]; simp
      ·rw [My' e1];exact (c2.opn j).trans ((hset j).trans ⟨λh=>h.resolve_right (Ne.symm e1),.inl⟩)
     ·have h2':=c2.NS j ((lQ' j).2 hj);by_cases e1:i=j
      ·subst e1; rw [Md' hi']
      ·rw [My' e1]; exact h2'
     ·have a1:=cU' s' i;have a2:=c2.TR;omega
    ·rw [c1];exact ⟨false,s',rfl,(λh=>by cases h),λ_=>c2⟩
   ·by_cases he1:e=1
    ·subst he1;exact ⟨false,st,by cases iC x<;>rfl,(λh=>by cases h),λ_ r _ ho=>Nat.lt_irrefl _ (ho i hst)⟩
    ·refine ⟨true,st,?_,λ_=>⟨hS,?_⟩,λh=>by cases h⟩
     ·by_cases he:e=0
      ·subst he;have hb:iC x=false:=by
        cases hb:iC x with
        | true=>exact absurd ⟨rfl,hb⟩ hq
        | false=>rfl
       rw [hb];rfl
      ·have e2:(e != 0)=true:=by simpa using he
       have e3:(e != 1)=true:=by simpa using he1
       rw [e2,e3];rfl
     ·rcases hS.val i e hst with rfl | rfl | rfl
      ·right;refine ⟨x,hn,?_⟩;cases hb:iC x with
       | true=>exact absurd ⟨rfl,hb⟩ hq
       | false=>rfl
      ·exact absurd rfl he1
      ·exact .inl hst
theorem ww' (t:ay)(hT:mM t.aj=true)(hk:∀ x∈t.aj,x.ai.length<=1100000)(hN:t.aj.length<=1100000)(fuel:Nat)(hf:t.aj.length+1<=fuel):OM fuel t=some (nQ t.aj):=by
 unfold OM jY;have e0:(decide (0<=(t.aj.length:Int))&&decide ((t.aj.length:Int)<=(t.aj.length:Int))&&decide ((t.aj.length:Int)*((8:Nat):Int)<=140737488355328))=true:=by simp; omega
 rw [e0];simp only [cond_true,KY',dw];have key:∀ (m a k:Nat) (s:List Int),a+m=t.aj.length->m+1<=k->Eg t.aj s s->(∀ j:Nat,s[j]?≠some 1)->(∀ j,j<a->DF t.aj s j) ->
  (∃ s',iter (uS t fuel) k ((a:Int),s)=some (.inl s')/\nQ t.aj=true)\/∃ s',iter (uS t fuel) k ((a:Int),s)=some (.inr (false,s'))/\nQ t.aj=false:=by
  intro m
  induction m with
  | zero =>
    intro a k s b1 b2 b3 b4 b5;obtain ⟨k,rfl⟩:∃ m,k=m+1:=⟨k-1,by omega⟩
    have e:a=t.aj.length:=by omega
    subst e;have:uS t fuel ((t.aj.length:Int),s)=some (.done (.inl s)):=by unfold uS;simp
    exact .inl ⟨s,by simp only [iter,this,KY'],Mi.2 (b3.gd.NR b5)⟩
  | succ m ih =>
    intro a k s b1 b2 b3 b4 b5;obtain ⟨k,rfl⟩:∃ m,k=m+1:=⟨k-1,by omega⟩
    have hz:s.count 0<=t.aj.length:=by rw [<- b3.len]; exact List.count_le_length
    obtain ⟨b,s',c1,c2,c3⟩:=tx' t hT hk fuel a s (by omega) (by omega) b3
    cases b with
    | true =>
      obtain ⟨c4,c5⟩:=c2 rfl;have:uS t fuel ((a:Int),s)=some (.next (((a+1:Nat):Int),s')):=by
       unfold uS;rw [dn (show a<t.aj.length by omega)]
       simp only [cond_true,KY',aV];rw [c1,bF a (by omega)]
       rfl
      simp only [iter,this,KY'];refine ih (a+1) k s' (by omega) (by omega) ⟨c4.len,c4.val,c4.gd,λ_=>Iff.rfl,λ_ h=>h,Lg' _⟩ (λj h=>b4 j ((c4.opn j).1 h)) (λj hj=>?_)
      by_cases h:j=a
      ·rw [h]; exact c5
      ·exact (b5 j (by omega)).imp (λh=>c4.NS _ h) id
    | false =>
      have:uS t fuel ((a:Int),s)=some (.done (.inr (false,s'))):=by
       unfold uS;rw [dn (show a<t.aj.length by omega)]
       simp only [cond_true,KY',aV];rw [c1];rfl
      refine .inr ⟨s',by simp only [iter,this,KY'],?_⟩
      cases hA:nQ t.aj with
      | false=>rfl
      | true =>obtain ⟨r,hr⟩:=Mi.1 hA;exact (c3 rfl r hr λo ho=>absurd ho (b4 o)).elim
 have hrep:∀ (j:Nat) (e:Int),(Ll' t.aj.length (0:Int))[j]?=some e->e=0:=λj e h=>by
  rw [NK'] at h;split at h
  ·simpa using h.symm
  ·cases h
 have hS:Eg t.aj (Ll' t.aj.length (0:Int)) (Ll' t.aj.length (0:Int)) :=
  ⟨by simp,λj e h=>.inl (hrep j e h),⟨λ_=>0,λi x hi hx hb=>by
   rcases hi with hi | ⟨y,hy,hyb⟩
   ·have:=hrep i 2 hi; omega
   ·rw [hx] at hy; cases hy; rw [hb] at hyb; cases hyb⟩,λ_=>Iff.rfl,λ_ h=>h,Lg' _⟩
 have e':∀ s,iter (uS t fuel) (t.aj.length+1) (0,s)=iter (uS t fuel) (t.aj.length+1) (((0:Nat):Int),s):=λ_=>rfl;rw [e'];rcases key t.aj.length 0 (t.aj.length+1) (Ll' t.aj.length (0:Int)) (by omega) (Lg' _) hS (λj h=>by have:=hrep j 1 h; omega) (λj hj=>by omega) with ⟨s',e,hA⟩ | ⟨s',e,hA⟩
 ·rw [e,hA]; rfl
 ·rw [e,hA]; rfl
theorem nM' (t:ay)(hk:∀ x∈t.aj,x.ai.length<=1100000/\x.aS.length<=1100000)(hN:t.aj.length<=1100000)(fuel:Nat)(hf:t.aj.length+1<=fuel):wZ fuel t=some (if bf t.aj.length t.dh&&mM t.aj then (if nQ t.aj then 0 else 3) else 1):=by
 have l2:iter (RL t) (t.aj.length+1) 0=some (if t.aj.all (fC t.aj.length)=true then .inl () else .inr 1):=by
  refine lF t.aj (fC t.aj.length) (λi=>(i:Int)) () 1 ?_ ?_
  ·intro i x hx;have hi:i<t.aj.length:=(La'.1 hx).1;obtain ⟨hk1,hk2⟩:=hk x (Lj' hx);unfold RL;rw [dn hi,aR hx];simp only [cond_true,KY',nS',nu' x (by omega),aV,dw]
   rw [<- wt',bF i (by omega)]
   cases LB x
   ·rfl
   cases K4 x
   ·rfl
   simp only [Mc',cond_false,KY',LQ'];rw [yU' x hk1 hk2];simp only [KY'];have he:(tK x).length<=4194304:=by unfold tK;simp only [Lf',LH'];split<;>simp<;>omega
   have l1:iter (O7 t (tK x)) ((tK x).length+1) 0=some (if (tK x).all (bf t.aj.length)=true then .inl () else .inr 1):=by
    refine lF (tK x) (bf t.aj.length) (λi=>(i:Int)) () 1 ?_ ?_
    ·intro j y hy;have hj:j<(tK x).length:=(La'.1 hy).1;unfold O7;rw [dn hj,aR hy];simp only [cond_true,KY',aV];rw [bF j (by omega)]
     unfold bf;by_cases h1:y<0
     ·have a1:decide (y<0)=true:=by simpa using h1
      have a2:decide (0<=y)=false:=by simp; omega
      rw [a1,a2]; rfl
     ·have a1:decide (y<0)=false:=by simpa using h1
      have a2:decide (0<=y)=true:=by simp; omega
      rw [a1,a2];by_cases h2:y<(t.aj.length:Int)
      ·have a3:decide ((t.aj.length:Int)<=y)=false:=by simp; omega
       have a4:decide (y<(t.aj.length:Int))=true:=by simpa using h2
       rw [a3,a4]; rfl
      ·have a3:decide ((t.aj.length:Int)<=y)=true:=by simp; omega
       have a4:decide (y<(t.aj.length:Int))=false:=by simpa using h2
       rw [a3,a4]; rfl
    ·unfold O7;simp
   rw [l1];cases (tK x).all (bf t.aj.length)<;>rfl
  ·unfold RL;simp
 unfold wZ;rw [dw,l2];have hq:((bif t.dh<0 then some true else some (decide ((t.aj.length:Int)<=t.dh))).bind λq=>some q)=some (!bf t.aj.length t.dh):=by
  unfold bf;by_cases h1:t.dh<0
  ·have a1:decide (t.dh<0)=true:=by simpa using h1
   have a2:decide (0<=t.dh)=false:=by simp; omega
   rw [a1,a2]; rfl
  ·have a1:decide (t.dh<0)=false:=by simpa using h1
   have a2:decide (0<=t.dh)=true:=by simp; omega
   rw [a1,a2];by_cases h2:t.dh<(t.aj.length:Int)
   ·have a3:decide ((t.aj.length:Int)<=t.dh)=false:=by simp; omega
    have a4:decide (t.dh<(t.aj.length:Int))=true:=by simpa using h2
    rw [a3,a4]; rfl
   ·have a3:decide ((t.aj.length:Int)<=t.dh)=true:=by simp; omega
    have a4:decide (t.dh<(t.aj.length:Int))=false:=by simpa using h2
    rw [a3,a4]; rfl
 rw [jg] at hq;rw [hq];simp only [KY'];cases bf t.aj.length t.dh
 ·rfl
 show _=some (if mM t.aj=true then (if nQ t.aj then (0:Int) else 3) else 1)
 cases hA:mM t.aj with
 | true =>have hA':t.aj.all (fC t.aj.length)=true:=hA;rw [hA'];simp only [Mc',cond_false,if_true,KY',aL];rw [ww' t hA (λx hx=>(hk x hx).1) hN fuel hf];cases nQ t.aj<;>rfl
 | false =>have hA':t.aj.all (fC t.aj.length)=false:=hA;rw [hA'];rfl
theorem sG' (t:ay)(hO:Em t.aj)(hk:∀ x∈t.aj,x.ai.length<=1100000/\x.aS.length<=1100000)(hN:t.aj.length<=1100000)(fuel:Nat)(hf:t.aj.length+1<=fuel):wZ fuel t=some (if bf t.aj.length t.dh&&mM t.aj then 0 else 1):=by
 rw [nM' t hk hN fuel hf];cases hA:mM t.aj with
 | false=>rw [Bool.and_false]; rfl
 | true=>rw [hO.NR hA]; rfl
theorem Bf' (t:ay)(D:List Bool)(i fuel:Nat)(x:aF)(hx:t.aj[i]?=some x)(hD:D.length=t.aj.length)(hT:mM t.aj=true)(hk:x.ai.length<=1100000)(hf:x.ai.length+1<=fuel) :
 ∃ A,iter (xS t (D,(i:Int))) fuel (D,true,0)=some (D,A)/\((iC x=true->∀ k∈x.ai,D[k.toNat]?=some true)↔A=true):=by
 have hxm:x∈t.aj:=Lj' hx;have hkr:=yu (Le'.1 hT x hxm);have hix:=aR hx;cases hb:iC x with
 | false =>
   obtain ⟨k,rfl⟩:∃ m,fuel=m+1:=⟨fuel-1,by omega⟩
   have:xS t (D,(i:Int)) (D,true,0)=some (.done (D,true)):=by unfold xS;simp only [hix,KY',Wu,hb];rfl
   exact ⟨true,by simp only [iter,this,KY'],λ_=>rfl,λ_ h=>by cases h⟩
 | true =>
   have key:∀ (m a k:Nat) (A:Bool),a+m=x.ai.length->m+1<=k ->
    ∃ A',iter (xS t (D,(i:Int))) k (D,A,(a:Int))=some (D,A')/\((A=true/\∀ (q:Nat) (y:Int),a<=q->x.ai[q]?=some y->D[y.toNat]?=some true)↔A'=true):=by
    intro m
    induction m with
    | zero =>
      intro a k A b1 b2;obtain ⟨k,rfl⟩:∃ m,k=m+1:=⟨k-1,by omega⟩
      have e:a=x.ai.length:=by omega
      subst e;have:xS t (D,(i:Int)) (D,A,(x.ai.length:Int))=some (.done (D,A)):=by unfold xS;simp only [hix,KY',Wu,hb,cond_true];simp
      exact ⟨A,by simp only [iter,this,KY'],λh=>h.1,λh=>⟨h,λq y h1 h2=>by have:=(La'.1 h2).1; omega⟩⟩
    | succ m ih =>
      intro a k A b1 b2;obtain ⟨k,rfl⟩:∃ m,k=m+1:=⟨k-1,by omega⟩
      have ha:a<x.ai.length:=by omega
      have hka:=Lb' ha;have hkm:=Lu' ha;obtain ⟨j,hj,hj2⟩:=nE (hkr _ hkm);have TS:=Lb' (show j<D.length by omega)
      obtain ⟨A',c1,c2⟩:=ih (a+1) k (bif A then D[j] else false) (by omega) (by omega)
      have:xS t (D,(i:Int)) (D,A,(a:Int))=some (.next (D,(bif A then D[j] else false),((a+1:Nat):Int))):=by
       unfold xS;simp only [hix,KY',Wu,hb,cond_true,dn ha,aR hka,hj,aR TS,Ln',TS,aV];rw [bF a (by omega)]
       cases A<;>rfl
      simp only [iter,this,KY'];refine ⟨A',c1,Iff.trans ⟨λ⟨hA,hall⟩=>⟨?_,λq y hq hy=>hall q y (by omega) hy⟩,λ⟨hA,hall⟩=>?_⟩ c2⟩
      ·have hq:=hall a _ (Lg' _) hka;rw [hj,Ln',TS] at hq;subst hA;simpa using hq
      ·cases A with
       | false=>cases hA
       | true =>
         refine ⟨rfl,λq y hq hy=>?_⟩;by_cases e:q=a
         ·subst e;rw [hka] at hy;cases hy;rw [hj,Ln',TS];simpa using hA
         ·exact hall q y (by omega) hy
   obtain ⟨A,c1,c2⟩:=key x.ai.length 0 fuel true (by omega) hf
   refine ⟨A,c1,Iff.trans ⟨λh=>⟨rfl,λq y _ hy=>h rfl y (Lj' hy)⟩,λh _ y hy=>?_⟩ c2⟩;obtain ⟨q,hq,e⟩:=LW' hy;exact h.2 q y (Mb' _) (by rw [Lb' hq,e])
def EC (D:List Bool)(j:Nat):Prop:=D[j]?=some true
theorem ue' (t:ay)(hT:mM t.aj=true)(hk:∀ x∈t.aj,x.ai.length<=1100000)(hN:t.aj.length<=1100000)(fuel:Nat)(hf:1100001<=fuel)(r:Nat->Nat)(q:Nat) :
 ∀ (m a k:Nat) (D:List Bool),a+m=t.aj.length->m+1<=k->D.length=t.aj.length->Gd t.aj (EC D)->(Rk t.aj r->(∀ j,j<t.aj.length->r j<q->D[j]?=some true)/\∀ j,j<a->r j<q+1->D[j]?=some true) ->
  ∃ D',iter (C9 t fuel) k (D,(a:Int))=some D'/\D'.length=t.aj.length/\Gd t.aj (EC D')/\(Rk t.aj r->∀ j,j<t.aj.length->r j<q+1->D'[j]?=some true):=by
 intro m
 induction m with
 | zero =>
   intro a k D b1 b2 b3 b4 b5;obtain ⟨k,rfl⟩:∃ m,k=m+1:=⟨k-1,by omega⟩
   have e:a=t.aj.length:=by omega
   subst e;have:C9 t fuel (D,(t.aj.length:Int))=some (.done D):=by unfold C9;simp
   exact ⟨D,by simp only [iter,this,KY'],b3,b4,λhr=>(b5 hr).2⟩
 | succ m ih =>
   intro a k D b1 b2 b3 b4 b5;obtain ⟨k,rfl⟩:∃ m,k=m+1:=⟨k-1,by omega⟩
   have ha:a<t.aj.length:=by omega
   have hn:=Lb' ha;generalize hx:t.aj[a]=x at hn;have hxm:x∈t.aj:=Lj' hn;have hkx:=hk x hxm;obtain ⟨A,c1,c2⟩:=Bf' t D a fuel x hn b3 hT hkx (by omega)
   have NT:a<D.length:=by omega
   have NU:=Lb' NT;generalize D[a]=e at NU;have step:C9 t fuel (D,(a:Int))=some (.next (D.set a (e||A),((a+1:Nat):Int))):=by
    unfold C9;simp only;rw [dn ha,c1];simp only [cond_true,KY',aR NU,Ln',NU,aV];rw [bF a (by omega)]
    cases e<;>rfl
   simp only [iter,step,KY'];have hset:∀ j,D[j]?=some true->(D.set a (e||A))[j]?=some true:=λj hj=>by
    by_cases h:a=j
    ·subst h;rw [Md' NT];rw [NU] at hj;cases hj;rfl
    ·rw [My' h]; exact hj
   refine ih (a+1) k (D.set a (e||A)) (by omega) (by omega) (by simpa using b3) ?_ (λhr=>⟨λj hj h=>hset j ((b5 hr).1 j hj h),λj hj h=>?_⟩)
   ·cases hA:A with
    | false =>
      have:D.set a (e||false)=D:=by
       apply Np';intro j;by_cases h:a=j
       ·subst h; rw [Md' NT,NU,MP']
       ·rw [My' h]
      rw [this]; exact b4
    | true =>
      refine Gd.add b4 hn (λhb k hk=>c2.2 hA hb k hk) λj=>?_;unfold EC;by_cases h:a=j
      ·subst h; rw [Md' NT]; simp
      ·rw [My' h]; exact ⟨.inl,λh1=>h1.resolve_right (Ne.symm h)⟩
   ·by_cases e1:j=a
    ·subst e1;rw [Md' NT];have hA:A=true:=c2.1 λhb kk hkk=>by obtain ⟨i,rfl,hi⟩:=nE (yu (Le'.1 hT x hxm) kk hkk);have:=hr j x hn hb _ hkk;rw [Ln'] at this ⊢;exact (b5 hr).1 i hi (by omega)
     rw [hA];simp
    ·exact hset j ((b5 hr).2 j (by omega) h)
theorem se' (t:ay)(hk:∀ x∈t.aj,x.ai.length<=1100000/\x.aS.length<=1100000)(hN:t.aj.length<=1100000)(fuel:Nat)(hf:1100001<=fuel):EY fuel t=some (if bf t.aj.length t.dh&&mM t.aj then (if nQ t.aj then 0 else 3) else 1):=by
 have l1:iter (SK t) (t.aj.length+1) 0=some (if t.aj.all (fC t.aj.length)=true then .inl () else .inr 1):=by
  refine lF t.aj (fC t.aj.length) (λi=>(i:Int)) () 1 ?_ ?_
  ·intro i x hx;have hi:i<t.aj.length:=(La'.1 hx).1;obtain ⟨hk1,hk2⟩:=hk x (Lj' hx);unfold SK;rw [dn hi,aR hx];simp only [cond_true,KY',aV];rw [Cd' t x (by omega) (by omega),bF i (by omega)]
   cases fC t.aj.length x<;>rfl
  ·unfold SK;simp
 unfold EY;rw [KX,dw,l1];simp only [KY'];cases bf t.aj.length t.dh
 ·rfl
 show _=some (if mM t.aj=true then (if nQ t.aj then (0:Int) else 3) else 1)
 cases hA:mM t.aj with
 | false =>have hA':t.aj.all (fC t.aj.length)=false:=hA;rw [hA'];rfl
 | true =>
   have hA':t.aj.all (fC t.aj.length)=true:=hA;rw [hA'];simp only [Mc',cond_false,if_true,KY',aL];have e0:jY (t.aj.length:Int) (t.aj.length:Int) 1=some t.aj.length:=by
    unfold jY;have:(decide (0<=(t.aj.length:Int))&&decide ((t.aj.length:Int)<=(t.aj.length:Int))&&decide ((t.aj.length:Int)*((1:Nat):Int)<=140737488355328))=true:=by simp; omega
    rw [this];simp
   rw [e0];simp only [KY'];obtain ⟨r,hrr⟩:∃ r,nQ t.aj=true->Rk t.aj r/\∀ i,i<t.aj.length->r i<t.aj.length:=by
    cases hA2:nQ t.aj with
    | false=>exact ⟨λ_=>0,λh=>by cases h⟩
    | true =>obtain ⟨r,h⟩:=(Mi.1 hA2).small hA;exact ⟨r,λ_=>h⟩
   have key:∀ (m q k:Nat) (D:List Bool),q+m=t.aj.length->m+1<=k->D.length=t.aj.length->Gd t.aj (EC D)->(Rk t.aj r->∀ j,j<t.aj.length->r j<q->D[j]?=some true) ->
    ∃ D',iter (Dj t fuel) k (D,(q:Int))=some D'/\D'.length=t.aj.length/\Gd t.aj (EC D')/\(Rk t.aj r->∀ j,j<t.aj.length->r j<t.aj.length->D'[j]?=some true):=by
    intro m
    induction m with
    | zero =>
      intro q k D b1 b2 b3 b4 b5;obtain ⟨k,rfl⟩:∃ m,k=m+1:=⟨k-1,by omega⟩
      have e:q=t.aj.length:=by omega
      subst e;have:Dj t fuel (D,(t.aj.length:Int))=some (.done D):=by unfold Dj;simp
      exact ⟨D,by simp only [iter,this,KY'],b3,b4,b5⟩
    | succ m ih =>
      intro q k D b1 b2 b3 b4 b5;obtain ⟨k,rfl⟩:∃ m,k=m+1:=⟨k-1,by omega⟩
      obtain ⟨D',c1,c2,c3,c4⟩:=ue' t hA (λx hx=>(hk x hx).1) hN fuel hf r q t.aj.length 0 (t.aj.length+1) D (by omega) (Lg' _) b3 b4 (λhr=>⟨b5 hr,λj hj=>by omega⟩)
      have c1':iter (C9 t fuel) (t.aj.length+1) (D,0)=some D':=c1;have step:Dj t fuel (D,(q:Int))=some (.next (D',((q+1:Nat):Int))):=by
       unfold Dj;simp only;rw [dn (show q<t.aj.length by omega),dw,c1']
       simp only [cond_true,KY',aV];rw [bF q (by omega)]
      simp only [iter,step,KY'];exact ih (q+1) k D' (by omega) (by omega) c2 c3 c4
   have hrep:∀ (j:Nat),(Ll' t.aj.length false)[j]?≠some true:=λj h=>by rw [NK'] at h;split at h<;>cases h
   obtain ⟨D,c1,c2,c3,c4⟩:=key t.aj.length 0 (t.aj.length+1) (Ll' t.aj.length false) (by omega) (Lg' _) (by simp) ⟨λ_=>0,λi x hi=>absurd hi (hrep i)⟩ (λ_ j hj h=>by omega)
   have c1':iter (Dj t fuel) (t.aj.length+1) (Ll' t.aj.length false,0)=some D:=c1;rw [c1'];simp only [KY'];have hall:D.all (λb=>b)=nQ t.aj:=by
    rw [LZ',Le'];constructor
    ·intro h;refine Mi.2 (c3.NR λj hj=>?_);have hj':j<D.length:=by omega
     unfold EC;rw [Lb' hj',h _ (Lu' hj')]
    ·intro h b hb;obtain ⟨j,hj,rfl⟩:=LW' hb;have:=c4 (hrr h).1 j (by omega) ((hrr h).2 j (by omega))
     rw [Lb' hj] at this;simpa using this
   have l5:=lF (step:=Jq) D (λb=>b) (λi=>(D,(i:Int))) D ((3:Int),D) (λi x hx=>by
    have hi:i<D.length:=(La'.1 hx).1;unfold Jq;simp only;rw [dn hi,aR hx];simp only [cond_true,KY',Ln',hx,aV];rw [bF i (by omega)]
    cases x<;>rfl) (by
    unfold Jq;simp)
   rw [hall] at l5;have l5':iter Jq (D.length+1) (D,0)=some (if nQ t.aj=true then .inl D else .inr ((3:Int),D)):=l5
   rw [dw,l5'];cases nQ t.aj<;>rfl
theorem rL' (t:ay)(hO:Em t.aj)(hk:∀ x∈t.aj,x.ai.length<=1100000/\x.aS.length<=1100000)(hN:t.aj.length<=1100000)(fuel:Nat)(hf:1100001<=fuel):EY fuel t=some (if bf t.aj.length t.dh&&mM t.aj then 0 else 1):=by
 rw [se' t hk hN fuel hf];cases hA:mM t.aj with
 | false=>rw [Bool.and_false]; rfl
 | true=>rw [hO.NR hA]; rfl
structure GN (N i:Nat)(x:aF):Prop where
 ok:fC N x=true
 ord:iC x=true->∀ k∈x.ai,(i:Int)<k
 kids:x.ai.length<=4
 text:x.Text.size<=5
 uq:x.aS.length<=3
 keys:∀ f∈x.aS,wV f.bq<=8
 gu : -9223372036854775808<=x.Lo/\x.Lo<=9223372036854775807 /\ -9223372036854775808<=x.Hi/\x.Hi<=9223372036854775807
theorem Pp {N M:Nat}(h:N<=M){k:Int}(hk:bf N k=true):bf M k=true:=by unfold bf at *;simp only [Lc',decide_eq_true_eq] at *;omega
theorem cQ' {α:Type}{p q:α->Bool}{l:List α}(h:∀ x,p x=true->q x=true)(k:l.all p=true):l.all q=true:=Le'.2 λx hx=>h x (Le'.1 k x hx)
theorem uY' {N M:Nat}(h:N<=M){x:aF}(hx:fC N x=true):fC M x=true:=by
 unfold fC at *;simp only [Lc'] at *;refine ⟨cQ' (λk=>Pp h) hx.1,hx.2.1,hx.2.2.1,hx.2.2.2.1,?_⟩;have hk:=hx.2.2.2.2;unfold jd at *;split<;>rename_i h3
 ·rwa [if_pos h3] at hk
 rw [if_neg h3] at hk;split<;>rename_i h4
 ·rwa [if_pos h4] at hk
 rw [if_neg h4] at hk;split<;>rename_i h6
 ·rwa [if_pos h6] at hk
 rw [if_neg h6] at hk;split<;>rename_i h19
 ·rwa [if_pos h19] at hk
 rw [if_neg h19] at hk;split<;>rename_i hs
 ·rwa [if_pos hs] at hk
 rw [if_neg hs] at hk;split<;>rename_i h10
 ·rwa [if_pos h10] at hk
 rw [if_neg h10] at hk;split<;>rename_i h12
 ·rwa [if_pos h12] at hk
 rw [if_neg h12] at hk;split<;>rename_i NQ
 ·rwa [if_pos NQ] at hk
 rw [if_neg NQ] at hk;split<;>rename_i h16
 ·rwa [if_pos h16] at hk
 rw [if_neg h16] at hk;split<;>rename_i h18
 ·rwa [if_pos h18] at hk
 rw [if_neg h18] at hk;split<;>rename_i NP
 ·rw [if_pos NP] at hk;unfold sZ at *;simp only [Lc'] at *;exact ⟨⟨hk.1.1,hk.1.2.1,cQ' (λf=>Pp h) hk.1.2.2⟩,hk.2.1,Pp h hk.2.2.1,Pp h hk.2.2.2⟩
 ·rwa [if_neg NP] at hk
theorem GN.mono {N M i:Nat}{x:aF}(h:GN N i x)(k:N<=M):GN M i x:=⟨uY' k h.ok,h.ord,h.kids,h.text,h.uq,h.keys,h.gu⟩
abbrev FL (k:Int)(l:List Int):aF:=aF.mk k 0 0 (⟨#[]⟩:ByteArray) l ([]:List dm) (0,0)
abbrev xt' (k:Int)(s:ByteArray):aF:=aF.mk k 0 0 s ([]:List Int) ([]:List dm) (0,0)
theorem Ca {N i:Nat}{k:Int}{l:List Int}(hl:l.all (bf N)=true)(h4:l.length<=4)(hk:jd N (FL k l)=true)(ho:k=16\/k=17\/k=18->∀ x∈l,(i:Int)<x):GN N i (FL k l):=by
 refine ⟨?_,λhb=>ho ?_,h4,by show (⟨#[]⟩:ByteArray).size<=5; decide,by show (0:Nat)<=3; omega,(λf hf=>by cases hf),by show (-9223372036854775808:Int)<=0/\(0:Int)<=9223372036854775807/\(-9223372036854775808:Int)<=0/\(0:Int)<=9223372036854775807; decide⟩
 ·unfold fC;rw [hk];simp [hl,wU,qG]
 ·unfold iC at hb;simp at hb;omega
theorem Yh {N i:Nat}{k:Int}{s:ByteArray}(hs:s.size<=5)(hk:(k=4)\/(k=6/\qw s=true)\/(k=19/\qz s=true)):GN N i (xt' k s):=by
 refine ⟨?_,λhb=>?_,by show (0:Nat)<=4; omega,hs,by show (0:Nat)<=3; omega,(λf hf=>by cases hf),by show (-9223372036854775808:Int)<=0/\(0:Int)<=9223372036854775807/\(-9223372036854775808:Int)<=0/\(0:Int)<=9223372036854775807; decide⟩
 ·have h64:(s.size:Int)<=64:=by omega
  rcases hk with rfl | ⟨rfl,h⟩ | ⟨rfl,h⟩
  ·simp [fC,jd,qG,h64]
  ·simp [fC,jd,qG,h]
  ·simp [fC,jd,qG,h]
 ·intro x hx; cases hx
section
variable {L:List Int}
theorem OT {γ σ τ:Type}{step:σ->Option (Fl σ τ)}(pack:γ->Int->aA->σ)(out:γ->aA->τ)(Inv:Nat->γ->Prop)(J:Nat)
 (hst:∀ (j:Nat) (g:γ) (s:aA),j<J->Inv j g->OS L s->∃ g' s',step (pack g (j:Int) s)=some (.next (pack g' ((j+1:Nat):Int) s'))/\OS L s'/\Inv (j+1) g')
 (hend:∀ g s,step (pack g (J:Int) s)=some (.done (out g s))) :
 ∀ (n j k:Nat) (g:γ) (s:aA),j+n=J->n+1<=k->Inv j g->OS L s->∃ g' s',iter step k (pack g (j:Int) s)=some (out g' s')/\OS L s'/\Inv J g':=by
 intro n
 induction n with
 | zero =>
   intro j k g s hJ hk hI hs;obtain ⟨k,rfl⟩:∃ m,k=m+1:=⟨k-1,by omega⟩
   have e:j=J:=by omega
   subst e;exact ⟨g,s,by have:=hend g s; simp [iter,this],hs,hI⟩
 | succ n ih =>
   intro j k g s hJ hk hI hs;obtain ⟨k,rfl⟩:∃ m,k=m+1:=⟨k-1,by omega⟩
   obtain ⟨g1,s1,e,hs1,hI1⟩:=hst j g s (by omega) hI hs
   obtain ⟨g2,s2,e2,hs2,hI2⟩:=ih (j+1) k g1 s1 (by omega) (by omega) hI1 hs1
   refine ⟨g2,s2,?_,hs2,hI2⟩;simp only [iter,e,KY'];exact e2
theorem DB' (hL:L.length<=4194304){s:aA}(h:OS L s)(m i N:Nat)(hm:m<=4)(hi:i<N)(hN:N<=100) :
 ∃ l t,mq s (m:Int) (i:Int) (N:Int)=some (l,t)/\OS L t/\l.length=m/\∀ k∈l,(i:Int)<=k/\k<(N:Int):=by
 unfold mq;obtain ⟨g,s',e,hs',h1,h2⟩:=Af (γ:=List Int) (L:=L) (step:=Om (i:Int) (N:Int)) (λg j s=>(j,g,s)) (λg s=>(g,s)) (λj g=>g.length=j/\∀ k∈g,(i:Int)<=k/\k<(N:Int)) m
  (λj n g s hj hn hI hs=>by
    obtain ⟨x,t,e,ht,a,b⟩:=fu hL hs (n:=d9 ((N:Int)-(i:Int))) (by rw [dZ (by omega) (by omega)]; omega) (by rw [dZ (by omega) (by omega)]; omega)
    rw [dZ (by omega) (by omega)] at b
    have hw:d9 ((i:Int)+x)=(i:Int)+x:=dZ (by omega) (by omega)
    refine ⟨g++[(i:Int)+x],t,?_,ht,?_,?_⟩
    ·unfold Om;simp only [aV];rw [show decide (0<((n+1:Nat):Int))=true from decide_eq_true (by omega),e]
     simp only [cond_true,KY',hw];rw [dX (by simp only [Ld',Lh']; have:=hI.1; omega),show d9 (((n+1:Nat):Int)-1)=(n:Int) by rw [dZ (by omega) (by omega)]; omega]
     rfl
    ·simp [hI.1]
    ·intro k hk;rcases Lo'.1 hk with hk | hk
     ·exact hI.2 k hk
     ·rw [Lp'.1 hk]; omega) (λg s=>by
    unfold Om;rfl) m 0 ((m:Int).toNat+2) [] s (by omega) (by omega) ⟨rfl,λk hk=>by cases hk⟩ h
 rw [e];exact ⟨g,s',rfl,hs',by simpa using h1,h2⟩
theorem Ch {N:Nat}{k:Int}(h0:0<=k)(h1:k<(N:Int)):bf N k=true:=by unfold bf;simp [h0,h1]
theorem GH {N i:Nat}{l:List Int}(h:∀ k∈l,(i:Int)<=k/\k<(N:Int)):l.all (bf N)=true:=Le'.2 λk hk=>by
 have:=h k hk;exact Ch (by omega) this.2
abbrev gf':Key:=Key.mk 0 ⟨#[97]⟩
abbrev fZ':Key:=Key.mk 0 ⟨#[98]⟩
abbrev Qh:Key:=Key.mk 1 ⟨#[115]⟩
abbrev Bw':Type:=Int×Int×Int×ByteArray×(List Int)×(List dm)×Int×Int
abbrev GZ (F:List dm)(a b:Int):Bw':=(13,0,0,(⟨#[]⟩:ByteArray),[],F,a,b)
theorem WX (hL:L.length<=4194304){s:aA}(h:OS L s)(N j:Nat)(hN:1<=N)(zy:N<=100)(hj:j<3)(K:Key)(hK:[gf',fZ',Qh][j]?=some K)(F:List dm)(hF:F.length<=j)(a b:Int) :
 ∃ O t,H7 (N:Int) ((j:Int),s,GZ F a b)=some (.next (((j+1:Nat):Int),t,GZ (F++O) a b))/\OS L t/\(O=[]\/∃ n o,O=[dm.mk K n o]/\bf N n=true):=by
 obtain ⟨x,t,e,ht,_,_⟩:=fu hL h (n:=2) (by omega) (by omega)
 unfold H7;simp only [aV];rw [show decide ((j:Int)<3)=true from decide_eq_true (by omega),e]
 simp only [cond_true,KY'];rw [bF j (by omega)]
 cases hx:x==1
 ·exact ⟨[],t,by simp only [cond_false,KY',MK'],ht,.inl rfl⟩
 ·simp only [cond_true];rw [aR hK];obtain ⟨n,t2,e2,ht2,n0,n1⟩:=fu hL ht (n:=(N:Int)) (by omega) (by omega)
  obtain ⟨o,t3,e3,ht3,_,_⟩:=fu hL ht2 (n:=2) (by omega) (by omega)
  simp only [KY',e2,e3];rw [dX (by simp only [Ld',Lh']; omega)]
  exact ⟨[dm.mk K n (o==1)],t3,rfl,ht3,.inr ⟨n,_,rfl,Ch n0 n1⟩⟩
theorem sJ' (hL:L.length<=4194304){s:aA}(h:OS L s)(N i:Nat)(hN:1<=N)(zy:N<=100):∃ x t,QY s (N:Int)=some (x,t)/\OS L t/\GN N i x:=by
 obtain ⟨a,t1,e1,ht1,a0,a1⟩:=fu hL h (n:=(N:Int)) (by omega) (by omega)
 obtain ⟨b,t2,e2,ht2,b0,b1⟩:=fu hL ht1 (n:=(N:Int)) (by omega) (by omega)
 obtain ⟨O0,t3,e3,ht3,h0⟩:=WX hL ht2 N 0 hN zy (by omega) gf' rfl [] (by simp) a b
 have l0:O0.length<=1:=by rcases h0 with rfl | ⟨n,o,rfl,_⟩<;>simp
 obtain ⟨O1,t4,e4,NN,h1⟩:=WX hL ht3 N 1 hN zy (by omega) fZ' rfl ([]++O0) (by simpa using l0) a b
 have l1:O1.length<=1:=by rcases h1 with rfl | ⟨n,o,rfl,_⟩<;>simp
 obtain ⟨O2,t5,e5,Ee,h2⟩:=WX hL NN N 2 hN zy (by omega) Qh rfl (([]++O0)++O1) (by simp; omega) a b
 have e6:H7 (N:Int) (((2+1:Nat):Int),t5,GZ ((([]++O0)++O1)++O2) a b)=some (.done (t5,GZ ((([]++O0)++O1)++O2) a b)):=rfl;refine ⟨aF.mk 13 0 0 (⟨#[]⟩:ByteArray) [] (O0++O1++O2) (a,b),t5,?_,Ee,?_⟩
 ·unfold QY;rw [e1];simp only [KY'];rw [e2];simp only [KY'];have ei:iter (H7 (N:Int)) ((3:Int).toNat+1) (0,t2,(13,0,0,(⟨#[]⟩:ByteArray),[],[],a,b))=some (t5,GZ ((([]++O0)++O1)++O2) a b):=by show iter (H7 (N:Int)) (3+1) (((0:Nat):Int),t2,GZ [] a b)=_;simp only [iter,e3,e4,e5,e6,KY']
  rw [ei];rfl
 ·refine ⟨?_,λhb=>absurd hb (show ¬ (false=true) by simp),by show (0:Nat)<=4; omega,by show (⟨#[]⟩:ByteArray).size<=5; decide,?_,?_,by show (-9223372036854775808:Int)<=0/\(0:Int)<=9223372036854775807/\(-9223372036854775808:Int)<=0/\(0:Int)<=9223372036854775807; decide⟩
  ·have ha:=Ch (N:=N) a0 a1;have hb:=Ch (N:=N) b0 b1;have hF:sZ N (O0++O1++O2)=true:=by
    unfold sZ;rw [Lc',Lc'];refine ⟨?_,?_,?_⟩
    ·rcases h0 with rfl | ⟨n,o,rfl,_⟩<;>rcases h1 with rfl | ⟨n',o',rfl,_⟩<;>rcases h2 with rfl | ⟨n'',o'',rfl,_⟩<;>kernel_rfl
    ·rcases h0 with rfl | ⟨n,o,rfl,_⟩<;>rcases h1 with rfl | ⟨n',o',rfl,_⟩<;>rcases h2 with rfl | ⟨n'',o'',rfl,_⟩<;>kernel_rfl
    ·rcases h0 with rfl | ⟨n,o,rfl,q0⟩<;>rcases h1 with rfl | ⟨n',o',rfl,q1⟩<;>rcases h2 with rfl | ⟨n'',o'',rfl,q2⟩<;>simp_all
   unfold fC jd;simp only [hF,ha,hb,wU];simp
  ·show (O0++O1++O2).length<=3;have l2:O2.length<=1:=by rcases h2 with rfl | ⟨n,o,rfl,_⟩<;>simp
   simp only [Lf'];omega
  ·intro f hf;have hf:f∈O0++O1++O2:=hf;have one:∀ {O:List dm} {K:Key},(O=[]\/∃ n o,O=[dm.mk K n o]/\bf N n=true)->f∈O->f.bq=K:=λhO hm=>by
    rcases hO with rfl | ⟨n,o,rfl,_⟩
    ·cases hm
    ·rw [Lp'.1 hm]
   rcases Lo'.1 hf with hf | hf
   ·rcases Lo'.1 hf with hf | hf
    ·rw [one h0 hf]; decide
    ·rw [one h1 hf]; decide
   ·rw [one h2 hf]; decide
end
theorem P5 {N i:Nat}{k:Int}(hk:k=1\/k=2\/k=5\/k=7\/k=8\/k=9\/k=11\/k=15):GN N i (FL k []) :=
 Ca rfl (by simp) (by rcases hk with rfl | rfl | rfl | rfl | rfl | rfl | rfl | rfl<;>rfl) (λ_ x hx=>by cases hx)
theorem zg' {N i:Nat}{lo hi:Int}(h:lo<=hi)(h2 : -9223372036854775808<=lo/\lo<=9223372036854775807 /\ -9223372036854775808<=hi/\hi<=9223372036854775807):GN N i (aF.mk 3 lo hi (⟨#[]⟩:ByteArray) ([]:List Int) ([]:List dm) (0,0)) :=
 ⟨by simp [fC,jd,qG,wU,h],(λ_ x hx=>by cases hx),(by show (0:Nat)<=4; omega),(by show (⟨#[]⟩:ByteArray).size<=5; decide),(by show (0:Nat)<=3; omega),(λf hf=>by cases hf),h2⟩
theorem DV':Hy.all (λx=>qz x&&decide (x.size<=5))=true:=by kernel_rfl
section
variable {L:List Int}
theorem wD {x:Int}(h:0<=x):∃ m:Nat,x=(m:Int):=⟨x.toNat,by omega⟩
theorem xe' (hL:L.length<=4194304){s:aA}(h:OS L s)(N i:Nat)(hi:i<N)(zy:N<=100):∃ x t,Oo s (i:Int) (N:Int)=some (x,t)/\OS L t/\GN N i x:=by
 have hw:d9 ((N:Int)-1)=(N:Int)-1:=dZ (by omega) (by omega)
 have hwi:=bF i (by omega)
 obtain ⟨b,hb,hlast,KH'⟩:∃ b:Int,(bif ((i:Int)==(wr .i64 ((N:Int)-1))) then (some 14:Option Int) else some 18)=some b/\(14<b->i+1<N)/\(b=14\/b=18):=by
  by_cases e:i+1=N
  ·refine ⟨14,?_,λh=>by omega,.inl rfl⟩
   have:((i:Int)==(N:Int)-1)=true:=by simp; omega
   simp only [aV,hw,this,cond_true]
  ·refine ⟨18,?_,λ_=>by omega,.inr rfl⟩
   have:((i:Int)==(N:Int)-1)=false:=by simp; omega
   simp only [aV,hw,this,cond_false]
 unfold Oo;rw [hb];simp only [KY'];obtain ⟨c,t,e,ht,c0,c1⟩:=fu hL h (n:=b) (by omega) (by omega)
 rw [e];simp only [KY'];have ix:∀ {s:aA},OS L s->∀ (m f:Nat),m<=4->f<N->∃ l t,mq s (m:Int) (f:Int) (N:Int)=some (l,t)/\OS L t/\l.length=m/\∀ k∈l,(f:Int)<=k/\k<(N:Int):=λhs m f hm hf=>DB' hL hs m f N hm hf zy;have hc:c=0\/c=1\/c=2\/c=3\/c=4\/c=5\/c=6\/c=7\/c=8\/c=9\/c=10\/c=11\/c=12\/c=13\/c=14\/c=15\/c=16\/c=17:=by omega
 have nV:∀ {s:aA},OS L s->∃ x t,((dQ s 3).bind λsP=>(mq sP.2 sP.1 0 (N:Int)).bind λl6=>some (FL 10 l6.1,l6.2))=some (x,t)/\OS L t/\GN N i x:=λhs=>by
  obtain ⟨m,t2,e2,ht2,m0,m1⟩:=fu hL hs (n:=3) (by omega) (by omega)
  obtain ⟨m,rfl⟩:=wD m0;obtain ⟨l,t3,e3,ht3,hl,hr⟩:=ix ht2 m 0 (by omega) (by omega)
  rw [e2];simp only [KY'];have e3':mq t2 (m:Int) 0 (N:Int)=some (l,t3):=e3;rw [e3'];refine ⟨_,t3,rfl,ht3,Ca (l:=l) (GH hr) (show l.length<=4 by omega) ?_ (λh=>by omega)⟩
  show decide ((l.length:Int)<=4)=true;exact decide_eq_true (by omega)
 have lT':∀ {s:aA},OS L s->∃ x t,((dQ s 3).bind λNA=>(mq NA.2 (d9 (1+NA.1)) 0 (N:Int)).bind λuD=>some (FL 14 uD.1,uD.2))=some (x,t)/\OS L t/\GN N i x:=λhs=>by
  obtain ⟨m,t2,e2,ht2,m0,m1⟩:=fu hL hs (n:=3) (by omega) (by omega)
  obtain ⟨m,rfl⟩:=wD m0;obtain ⟨l,t3,e3,ht3,hl,hr⟩:=ix ht2 (m+1) 0 (by omega) (by omega)
  rw [e2];simp only [KY'];have e3':mq t2 (d9 (1+(m:Int))) 0 (N:Int)=some (l,t3):=by
   rw [dZ (by omega) (by omega),show 1+(m:Int)=((m+1:Nat):Int) by omega]
   exact e3
  rw [e3'];refine ⟨_,t3,rfl,ht3,Ca (l:=l) (GH hr) (show l.length<=4 by omega) ?_ (λh=>by omega)⟩
  show (decide (1<=(l.length:Int))&&decide ((l.length:Int)<=5))=true;rw [Lc'];exact ⟨decide_eq_true (by omega),decide_eq_true (by omega)⟩
 have uni:i+1<N->∀ {s:aA},OS L s->∃ x t,((dQ s 2).bind λqc=>(mq qc.2 (d9 (2+qc.1)) (d9 ((i:Int)+1)) (N:Int)).bind λNC=>some (FL 16 NC.1,NC.2))=some (x,t)/\OS L t/\GN N i x:=λhlt s hs=>by
  obtain ⟨m,t2,e2,ht2,m0,m1⟩:=fu hL hs (n:=2) (by omega) (by omega)
  obtain ⟨m,rfl⟩:=wD m0;obtain ⟨l,t3,e3,ht3,hl,hr⟩:=ix ht2 (m+2) (i+1) (by omega) hlt
  rw [e2];simp only [KY'];have e3':mq t2 (d9 (2+(m:Int))) (d9 ((i:Int)+1)) (N:Int)=some (l,t3):=by
   rw [dZ (x:=2+(m:Int)) (by omega) (by omega),hwi,show 2+(m:Int)=((m+2:Nat):Int) by omega]
   exact e3
  rw [e3'];refine ⟨_,t3,rfl,ht3,Ca (l:=l) (GH hr) (show l.length<=4 by omega) ?_ (λ_ x hx=>by have:=hr x hx; omega)⟩
  show decide (1<=(l.length:Int))=true;exact decide_eq_true (by omega)
 rcases hc with rfl | rfl | rfl | rfl | rfl | rfl | rfl | rfl | rfl | rfl | rfl | rfl | rfl | rfl | rfl | rfl | rfl | rfl<;>simp only [MD',cond_true,cond_false,KY',aV]
 ·obtain ⟨a,t2,e2,ht2,a0,a1⟩:=fu hL ht (n:=5) (by omega) (by omega)
  obtain ⟨d,t3,e3,ht3,d0,d1⟩:=fu hL ht2 (n:=d9 (5-a)) (by rw [dZ (by omega) (by omega)]; omega) (by rw [dZ (by omega) (by omega)]; omega)
  rw [dZ (x:=5-a) (by omega) (by omega)] at d1
  rw [e2];simp only [KY'];rw [e3];simp only [KY'];rw [dZ (x:=a+d) (by omega) (by omega)]
  have ha:a=0\/a=1\/a=2\/a=3\/a=4:=by omega
  have hd:d=0\/d=1\/d=2\/d=3\/d=4:=by omega
  rcases ha with rfl | rfl | rfl | rfl | rfl<;>rcases hd with rfl | rfl | rfl | rfl | rfl<;>first | (exfalso; omega) | exact ⟨_,t3,rfl,ht3,zg' (by decide) (by decide)⟩
 ·obtain ⟨x,t2,e2,ht2,hx⟩:=RJ hL ht;have hf:=Le'.1 Pj x hx;simp only [Lc',decide_eq_true_eq] at hf;rw [e2];exact ⟨_,t2,rfl,ht2,Yh hf.2 (.inr (.inl ⟨rfl,hf.1⟩))⟩
 ·exact ⟨_,t,rfl,ht,P5 (by omega)⟩
 ·obtain ⟨x,t2,e2,ht2,hx⟩:=PU hL ht;have hf:=Le'.1 Rz x hx;simp only [decide_eq_true_eq] at hf;rw [e2];exact ⟨_,t2,rfl,ht2,Yh hf (.inl rfl)⟩
 ·obtain ⟨a,t2,e2,ht2,a0,a1⟩:=fu hL ht (n:=4) (by omega) (by omega)
  rw [e2];have ha:a=0\/a=1\/a=2\/a=3:=by omega
  rcases ha with rfl | rfl | rfl | rfl<;>exact ⟨_,t2,rfl,ht2,P5 (by omega)⟩
 ·exact ⟨_,t,rfl,ht,P5 (by omega)⟩
 ·obtain ⟨a,t2,e2,ht2,a0,a1⟩:=fu hL ht (n:=2) (by omega) (by omega)
  rw [e2];have ha:a=0\/a=1:=by omega
  rcases ha with rfl | rfl<;>exact ⟨_,t2,rfl,ht2,P5 (by omega)⟩
 ·obtain ⟨x,t2,e2,ht2,hx⟩:=UJ hL ht;have hf:=Le'.1 DV' x hx;simp only [Lc',decide_eq_true_eq] at hf;rw [e2];exact ⟨_,t2,rfl,ht2,Yh hf.2 (.inr (.inr ⟨rfl,hf.1⟩))⟩
 ·exact nV ht
 ·exact nV ht
 ·obtain ⟨l,t3,e3,ht3,hl,hr⟩:=ix ht 2 0 (by omega) (by omega)
  have e3':mq t 2 0 (N:Int)=some (l,t3):=e3;rw [e3'];refine ⟨_,t3,rfl,ht3,Ca (l:=l) (GH hr) (show l.length<=4 by omega) ?_ (λh=>by omega)⟩
  show ((l.length:Int)==2)=true;simp [hl]
 ·obtain ⟨x,t2,e2,ht2,hg⟩:=sJ' hL ht N i (by omega) zy
  rw [e2];exact ⟨x,t2,rfl,ht2,hg⟩
 ·exact lT' ht
 ·exact lT' ht
 ·have hlt:=hlast (by omega)
  obtain ⟨l,t3,e3,ht3,hl,hr⟩:=ix ht 1 (i+1) (by omega) hlt
  have e3':mq t 1 (d9 ((i:Int)+1)) (N:Int)=some (l,t3):=by rw [hwi]; exact e3
  rw [e3'];refine ⟨_,t3,rfl,ht3,Ca (l:=l) (GH hr) (show l.length<=4 by omega) ?_ (λ_ x hx=>by have:=hr x hx; omega)⟩
  show ((l.length:Int)==1)=true;simp [hl]
 ·have hlt:=hlast (by omega)
  obtain ⟨l,t3,e3,ht3,hl,hr⟩:=ix ht 2 (i+1) (by omega) hlt
  have e3':mq t 2 (d9 ((i:Int)+1)) (N:Int)=some (l,t3):=by rw [hwi]; exact e3
  rw [e3'];refine ⟨_,t3,rfl,ht3,Ca (l:=l) (GH hr) (show l.length<=4 by omega) ?_ (λ_ x hx=>by have:=hr x hx; omega)⟩
  show decide (1<=(l.length:Int))=true;exact decide_eq_true (by omega)
 ·exact uni (hlast (by omega)) ht
 ·exact uni (hlast (by omega)) ht
def zU (N:Nat)(ns:List aF):Prop:=∀ (i:Nat) (x:aF),ns[i]?=some x->GN N i x
theorem zU.snoc {N:Nat}{ns:List aF}{x:aF}(h:zU N ns)(hx:GN N ns.length x):zU N (ns++[x]):=λi y hy=>by
 by_cases hi:i<ns.length
 ·rw [LD' hi] at hy;exact h i y hy
 ·have hlt:=(La'.1 hy).1;simp only [Lf',Ld',Lh'] at hlt;have e:i=ns.length:=by omega
  subst e;simp at hy;subst hy;exact hx
theorem yk' (hL:L.length<=4194304){s:aA}(h:OS L s)(N:Nat)(hN:1<=N)(zy:N<=100):∃ ns t,Jw s (N:Int)=some (ay.mk ns 0,t)/\OS L t/\ns.length=N/\zU N ns:=by
 unfold Jw;have hmax:max (N:Int) 1=(N:Int):=by omega
 rw [hmax,Ln'];obtain ⟨g,s',e,hs',h1,h2⟩:=OT (γ:=List aF) (L:=L) (step:=Jl (N:Int)) (λg j s=>(j,s,(g,0))) (λg s=>(s,(g,0))) (λj g=>g.length=j/\zU N g) N
  (λj g s hj hI hs=>by
    obtain ⟨x,t,e,ht,hx⟩:=xe' hL hs N j hj zy;refine ⟨g++[x],t,?_,ht,by simp [hI.1],hI.2.snoc (by rw [hI.1]; exact hx)⟩
    unfold Jl;simp only [aV,hmax];rw [dn hj,e];simp only [cond_true,KY'];rw [dX (by simp only [Ld',Lh']; have:=hI.1; omega),bF j (by omega)]
    rfl) (λg s=>by
    unfold Jl;simp [hmax]) N 0 (N+1) [] s (by omega) (Lg' _) ⟨rfl,λi x hx=>by simp at hx⟩ h
 have e':iter (Jl (N:Int)) (N+1) (0,s,([],0))=some (s',(g,0)):=e;rw [e'];exact ⟨g,s',rfl,hs',h1,h2⟩
end
theorem RD {a b:ByteArray}(h:cS a b=0):a=b:=by
 rcases VH a.data.toList b.data.toList with ⟨_,e,_⟩ | ⟨_,_,e⟩ | ⟨_,e,_⟩
 ·have:cS a b = -1:=e;omega
 ·exact ByteArray.ext (Array.toList_inj.1 e)
 ·have:cS a b=1:=e;omega
theorem V5 {a b:Key}(h:cK a b=0):a=b:=by
 obtain ⟨k,t⟩:=a;obtain ⟨k2,t2⟩:=b;unfold cK tn at h;simp only at h;rcases je k k2 with ⟨_,e⟩ | ⟨_,e⟩ | ⟨p,e⟩
 ·rw [e] at h; simp at h
 ·rw [e] at h; simp at h
 ·rw [e,if_pos rfl] at h;rw [p,RD h]
theorem VJ (a b c:Key)(h1:cK a b<=0)(h2:cK b c<=0):cK a c<=0:=by rw [Qy] at *; exact Vg _ _ _ h1 h2
theorem SE (a:Key):cK a a=0:=by rw [Qy]; exact jf' _
theorem cr' {a b c:Key}(h1:cK a b<0)(h2:cK b c<=0):cK a c<0:=by
 have h3:=VJ a b c (by omega) h2
 by_cases h:cK a c=0
 ·have:=V5 h;subst this;have:=Ej a b;omega
 ·omega
abbrev Ey (a b:Key):Prop:=cK a b<0
theorem zA:∀ l:List Key,bC cK l=true↔l.Pairwise Ey
 | []=>by simp [bC]
 | [a]=>by simp [bC]
 | a::b::r=>by
   have ih:=zA (b::r);simp only [bC,Lc',decide_eq_true_eq];rw [ih,Mr' (a:=a)];constructor
   ·intro ⟨h1,h2⟩;refine ⟨λx hx=>?_,h2⟩;rcases Lq'.1 hx with rfl | hx
    ·exact h1
    ·have:=(Mr'.1 h2).1 x hx;exact cr' h1 (by unfold Ey at this; omega)
   ·intro ⟨h1,h2⟩;exact ⟨h1 b (by simp),h2⟩
structure xN {α:Type}(c:α->α->Int):Prop where
 anti:∀ a b,c b a = - c a b
 trans:∀ a b d,c a b<=0->c b d<=0->c a d<=0
 ZP:∀ a b,c a b=0->a=b
theorem cI0 {x y:Int}(h:cI x y=0):x=y:=by
 rcases je x y with ⟨_,e⟩ | ⟨_,e⟩ | ⟨p,_⟩
 ·omega
 ·omega
 ·exact p
theorem Yi (a b:ByteArray):cS a b=lx (eS a) (eS b):=by have:=OY a b [] [];simpa [lx,EX] using this.symm
theorem Kg:xN cS:=⟨λa b=>by rw [Yi,Yi]; exact Mf _ _,λa b d h1 h2=>by rw [Yi] at *; exact Vg _ _ _ h1 h2,λ_ _ h=>RD h⟩
section
variable {α:Type}{c:α->α->Int}(hc:xN c)
include hc
theorem xN.self (a:α):c a a=0:=by have:=hc.anti a a; omega
theorem xN.strict {a b d:α}(h1:c a b<0)(h2:c b d<=0):c a d<0:=by
 have h3:=hc.trans a b d (by omega) h2
 by_cases h:c a d=0
 ·have:=hc.ZP _ _ h;subst this;have:=hc.anti a b;omega
 ·omega
theorem xN.zA:∀ l:List α,bC c l=true↔l.Pairwise λa b=>c a b<0
 | []=>by simp [bC]
 | [a]=>by simp [bC]
 | a::b::r=>by
   have ih:=xN.zA (b::r);simp only [bC,Lc',decide_eq_true_eq];rw [ih,Mr' (a:=a)];constructor
   ·intro ⟨h1,h2⟩;refine ⟨λx hx=>?_,h2⟩;rcases Lq'.1 hx with rfl | hx
    ·exact h1
    ·have:=(Mr'.1 h2).1 x hx;exact hc.strict h1 (by omega)
   ·intro ⟨h1,h2⟩;exact ⟨h1 b (by simp),h2⟩
theorem xN.nodup {l:List α}(h:l.Pairwise λa b=>c a b<0):l.Nodup:=h.imp λ{a b} h e=>by
 subst e;have:=hc.self a;omega
theorem xN.uniq {l m:List α}(h1:bC c l=true)(h2:bC c m=true)(h:∀ x,x∈l↔x∈m):l=m:=by have p1:=(hc.zA l).1 h1;have p2:=(hc.zA m).1 h2;have hp:=(List.perm_ext_iff_of_nodup (hc.nodup p1) (hc.nodup p2)).2 h;exact hp.eq_of_pairwise (le:=λa b=>c a b<0) (λa b _ _ h1 h2=>by have:=hc.anti a b; omega) p1 p2
omit hc in
def iD (c:α->α->Int)(out:List α)(x:α):List α :=
 match (out.dropWhile (λy=>decide (c y x<0))).head? with
 | some y=>if c y x=0 then out else gL (λy=>decide (c y x<0)) x out
 | none=>gL (λy=>decide (c y x<0)) x out
omit hc in
theorem cq' {p:α->Bool}{x y:α}{out:List α}:y∈gL p x out↔y=x\/y∈out:=by
 constructor
 ·exact O5
 ·intro h;have e:=MH' (p:=p) (l:=out);simp only [gL,Lo',Lp'];rcases h with h | h
  ·exact .inl (.inr h)
  ·rw [<- e] at h;rcases Lo'.1 h with h | h
   ·exact .inl (.inl h)
   ·exact .inr h
theorem BE' {x y:α}{out:List α}:y∈iD c out x↔y=x\/y∈out:=by
 unfold iD;split
 ·rename_i z hz;split
  ·rename_i h0;have:=hc.ZP _ _ h0;subst this;have hm:z∈out:=(List.dropWhile_sublist _).subset (List.mem_of_mem_head? hz);constructor
   ·exact .inr
   ·rintro (rfl | h)
    ·exact hm
    ·exact h
  ·exact cq'
 ·exact cq'
theorem wQ' (out:List α)(x:α)(h:bC c out=true):bC c (iD c out x)=true:=by
 unfold iD;split
 ·rename_i y hy;split
  ·exact h
  ·rename_i hne;refine He c hc.anti x out h (λz hz=>?_);rw [hy] at hz;cases hz;exact hne
 ·rename_i hy;refine He c hc.anti x out h (λz hz=>?_);rw [hy] at hz; cases hz
theorem eh':∀ (xs out:List α),bC c out=true->bC c (xs.foldl (iD c) out)=true/\∀ y,y∈xs.foldl (iD c) out↔y∈out\/y∈xs
 | [],out,h=>⟨h,λy=>by simp⟩
 | x::r,out,h=>by
   obtain ⟨h1,h2⟩:=eh' r (iD c out x) (wQ' hc out x h);refine ⟨h1,λy=>?_⟩;rw [Mu',h2,BE' hc,Lq'];constructor
   ·rintro ((h | h) | h)
    ·exact .inr (.inl h)
    ·exact .inl h
    ·exact .inr (.inr h)
   ·rintro (h | h | h)
    ·exact .inl (.inr h)
    ·exact .inl (.inl h)
    ·exact .inr h
theorem Ke (xs:List α):bC c (xs.foldl (iD c) [])=true/\∀ y,y∈xs.foldl (iD c) []↔y∈xs:=by obtain ⟨h1,h2⟩:=eh' hc xs [] rfl;exact ⟨h1,λy=>by rw [h2]; simp⟩
omit hc in
def dd (r:α->α->Bool):α->List α->List α
 | _,[]=>[]
 | p,x::l=>if r x p=true then dd r x l else x::dd r x l
omit hc in
def mh (r:α->α->Bool):List α->List α
 | []=>[]
 | x::l=>x::dd r x l
theorem jm':∀ (l:List α) (p:α),(p::l).Pairwise (λa b=>¬ c b a<0) ->
 (p::dd (λx y=>decide (c x y=0)) p l).Pairwise (λa b=>c a b<0)/\∀ y,y∈p::dd (λx y=>decide (c x y=0)) p l↔y∈p::l
 | [],p,_=>⟨by simp [dd],λy=>by simp [dd]⟩
 | x::l,p,h=>by
   have hp:=Mr'.1 h;obtain ⟨h1,h2⟩:=jm' l x hp.2;simp only [dd];by_cases h0:c x p=0
   ·rw [if_pos (by simpa using h0)]
    have:=hc.ZP _ _ h0;subst this;refine ⟨h1,λy=>?_⟩;rw [h2];simp
   ·rw [if_neg (by simpa using h0)]
    have hlt:c p x<0:=by have:=hp.1 x (by simp); have:=hc.anti p x; omega
    refine ⟨Mr'.2 ⟨λb hb=>?_,h1⟩,λy=>?_⟩
    ·rcases Lq'.1 hb with rfl | hb
     ·exact hlt
     ·exact hc.strict hlt (by have:=(Mr'.1 h1).1 b hb; omega)
    ·rw [Lq',h2,Lq' (b:=p)]
theorem cz' (l:List α)(h:l.Pairwise λa b=>¬ c b a<0):bC c (mh (λx y=>decide (c x y=0)) l)=true/\∀ y,y∈mh (λx y=>decide (c x y=0)) l↔y∈l:=by
 cases l with
 | nil=>exact ⟨rfl,λy=>Iff.rfl⟩
 | cons p l =>obtain ⟨h1,h2⟩:=jm' hc l p h;exact ⟨(hc.zA _).2 h1,h2⟩
theorem dU' {xs p:List α}(hp:p.Perm xs)(hs:p.Pairwise λa b=>¬ c b a<0):mh (λx y=>decide (c x y=0)) p=xs.foldl (iD c) []:=by obtain ⟨h1,h2⟩:=cz' hc p hs;obtain ⟨h3,h4⟩:=Ke hc xs;exact hc.uniq h1 h3 λy=>by rw [h2,h4,hp.mem_iff]
theorem pX' {xs:List α}(h:bC c xs=true):xs.foldl (iD c) []=xs:=by obtain ⟨h3,h4⟩:=Ke hc xs;exact hc.uniq h3 h h4
end
section
variable {α:Type}{r:α->α->Bool}
theorem zy' {ok:α->Prop}{step:(Int×Int)×List α->Option (Fl ((Int×Int)×List α) (Int×List α))}(i0 n:Nat)
 (hst:∀ (i k:Nat) (s:List α) (x y:α),ok x->s.length=n->i0+k<n->1<=k->i<i0+k->s[i0+k]?=some x->s[i0+k-1]?=some y ->
   step (((i:Int),(k:Int)),s)=some (.next (if r x y=true then (((i:Int),((k+1:Nat):Int)),s) else ((((i+1:Nat):Int),((k+1:Nat):Int)),s.set i x))))
 (hend:∀ (i:Int) (k:Nat) (s:List α),s.length=n->i0+k=n->step ((i,(k:Int)),s)=some (.done (i,s))) :
 ∀ (m i k:Nat) (s:List α) (y:α) (fuel:Nat),s.length=n->i0+k+m=n->1<=k->i<i0+k->s[i0+k-1]?=some y->m+1<=fuel->(∀ x∈s,ok x) ->
  ∃ s',iter step fuel (((i:Int),(k:Int)),s)=some (((i+(dd r y (s.drop (i0+k))).length:Nat):Int),s')/\s'.length=n/\s'.take (i+(dd r y (s.drop (i0+k))).length)=s.take i++dd r y (s.drop (i0+k)):=by
 intro m
 induction m with
 | zero =>
   intro i k s y fuel hl hm hk hi hy hf hok;obtain ⟨fuel,rfl⟩:∃ m,fuel=m+1:=⟨fuel-1,by omega⟩
   have e:s.drop (i0+k)=[]:=List.drop_eq_nil_of_le (by omega)
   rw [e];refine ⟨s,?_,hl,?_⟩
   ·simp only [iter,hend (i:Int) k s hl (by omega),KY']
    rfl
   ·simp [dd]
 | succ m ih =>
   intro i k s y fuel hl hm hk hi hy hf hok;obtain ⟨fuel,rfl⟩:∃ m,fuel=m+1:=⟨fuel-1,by omega⟩
   have hlt:i0+k<s.length:=by omega
   have hx:=Lb' hlt;rw [LO' hlt];simp only [dd];simp only [iter,hst i k s _ y (hok _ (Lu' hlt)) hl (by omega) hk hi hx hy,KY']
   by_cases h:r s[i0+k] y=true
   ·rw [if_pos h,if_pos h];have:=ih i (k+1) s s[i0+k] fuel hl (by omega) (by omega) (by omega) (by rw [show i0+(k+1)-1=i0+k by omega]; exact hx) (by omega) hok
    rw [show i0+(k+1)=i0+k+1 by omega] at this
    exact this
   ·rw [if_neg h,if_neg h];have hd:(s.set i s[i0+k]).drop (i0+k+1)=s.drop (i0+k+1):=by rw [List.drop_set_of_lt (by omega)]
    have:=ih (i+1) (k+1) (s.set i s[i0+k]) s[i0+k] fuel (by rw [List.length_set]; exact hl) (by omega) (by omega) (by omega) (by
     rw [show i0+(k+1)-1=i0+k by omega]
     by_cases e:i=i0+k
     ·omega
     ·rw [My' e]; exact hx) (by omega) (λz hz=>by
     rcases List.mem_or_eq_of_mem_set hz with hz | rfl
     ·exact hok z hz
     ·exact hok _ (Lu' hlt))
    rw [show i0+(k+1)=i0+k+1 by omega,hd] at this
    obtain ⟨s',h1,h2,h3⟩:=this;refine ⟨s',?_,h2,?_⟩
    ·rw [h1,Ld'];congr 3;omega
    ·rw [Ld',show i+((dd r s[i0+k] (s.drop (i0+k+1))).length+1)=i+1+(dd r s[i0+k] (s.drop (i0+k+1))).length by omega,h3]
     have e:(s.set i s[i0+k]).take (i+1)=s.take i++[s[i0+k]]:=by rw [zI (x:=s[i0+k]) (by rw [Md' (by omega)]),List.take_set_of_le (Lg' _)]
     rw [e,Lt'];rfl
theorem Xq {step:(Int×Int)×List α->Option (Fl ((Int×Int)×List α) (Int×List α))}(i0 n:Nat)
 (hst:∀ (i k:Nat) (s:List α) (x y:α),s.length=n->i0+k<n->1<=k->i<i0+k->s[i0+k]?=some x->s[i0+k-1]?=some y ->
   step (((i:Int),(k:Int)),s)=some (.next (if r x y=true then (((i:Int),((k+1:Nat):Int)),s) else ((((i+1:Nat):Int),((k+1:Nat):Int)),s.set i x))))
 (hend:∀ (i:Int) (k:Nat) (s:List α),s.length=n->i0+k=n->step ((i,(k:Int)),s)=some (.done (i,s)))
 (m i k:Nat) (s:List α) (y:α) (fuel:Nat) (h1:s.length=n) (h2:i0+k+m=n) (h3:1<=k) (h4:i<i0+k) (h5:s[i0+k-1]?=some y) (h6:m+1<=fuel) :
   ∃ s',iter step fuel (((i:Int),(k:Int)),s)=some (((i+(dd r y (s.drop (i0+k))).length:Nat):Int),s')/\s'.length=n/\s'.take (i+(dd r y (s.drop (i0+k))).length)=s.take i++dd r y (s.drop (i0+k)) :=
 zy' (ok:=λ_=>True) i0 n (λi k s x y _=>hst i k s x y) hend m i k s y fuel h1 h2 h3 h4 h5 h6 (λ_ _=>trivial)
theorem II:∀ (l:List α) (p:α),(dd r p l).length<=l.length
 | [],_=>Lg' _
 | x::l,p=>by
   have:=II l x;simp only [dd];split
   ·simp only [Ld']; omega
   ·simp only [Ld']; omega
theorem Wp:∀ (a:List α) (p:α) (l:List α),(∀ (i:Nat) (x y:α),(a++[p])[i+1]?=some x->(a++[p])[i]?=some y->r x y=false)->mh r (a++p::l)=a++p::dd r p l
 | [],p,l,_=>rfl
 | x::a,p,l,h=>by
   have h2:=Wp a p l (λi u v h1 h2=>h (i+1) u v (by simpa using h1) (by simpa using h2))
   cases a with
   | nil =>have h0:=h 0 p x rfl rfl;show x::dd r x (p::l)=_;simp [dd,h0]
   | cons y a =>have h0:=h 0 y x rfl rfl;show x::dd r x (y::(a++p::l))=_;simp only [dd,h0,Mi',if_false];have h2':y::dd r y (a++p::l)=y::a++p::dd r p l:=h2;rw [h2'];rfl
end
theorem AU (x y:ByteArray):bU x y=decide (cS x y=0):=by rcases Ev x y with ⟨_,h,e⟩ | ⟨_,h,e⟩ | ⟨_,h,e⟩<;>simp [h,e]
theorem nE' (x y:ByteArray):jI x y=decide (cS x y<0):=by rcases Ev x y with ⟨h,_,e⟩ | ⟨h,_,e⟩ | ⟨h,_,e⟩<;>simp [h,e]
theorem Bs' (l out:List ByteArray)(i:Nat)(x:ByteArray)(hx:l[i]?=some x)(hl:out.length<=4194304)(hi:i<=4194304) :
 Dv l (out,(i:Int))=some (.next (iD cS out x,((i+1:Nat):Int))):=by
 have hlt:i<l.length:=(La'.1 hx).1;have hix:ak l (i:Int)=some x:=aR hx;unfold Dv;simp only [dw];rw [RQ (step:=OW l (out,(i:Int))) out (λy=>decide (cS y x<0)) ?_ ?_]
 ·simp only [eZ,aV];rw [if_pos (by simp; omega)]
  simp only [KY',hix];have hk:=BS (λy=>decide (cS y x<0)) out;have hat:=Ll (λy=>decide (cS y x<0)) out;have go:((cut out 0 ((out.takeWhile (λy=>decide (cS y x<0))).length:Int)).bind λu=>(aT (0+u.length) 16).bind λ_ =>
   (aT (u.length+[x].length) 16).bind λ_=>(cut out ((out.takeWhile (λy=>decide (cS y x<0))).length:Int) (out.length:Int)).bind λw =>
   (aT ((u++[x]).length+w.length) 16).bind λ_=>some ((u++[x])++w))=some (gL (λy=>decide (cS y x<0)) x out) :=
   Va out x _ 16 (by omega) hl (λl=>some l)
  rw [bF i (by omega),go]
  unfold iD;cases hh:(out.dropWhile (λy=>decide (cS y x<0))).head? with
  | none =>
    rw [hh] at hat;have hge:=MS'.1 hat;rw [if_neg (by simp; omega)]
    rfl
  | some y =>
    rw [hh] at hat;have hlt2:=(La'.1 hat).1;rw [if_pos (by simp; omega),aR hat]
    simp only [KY',AU];by_cases h0:cS y x=0
    ·rw [if_pos (by simp [h0]),if_pos h0]
     rfl
    ·rw [if_neg (by simp [h0]),if_neg h0]
     rfl
 ·intro j y hy;have hj:j<out.length:=(La'.1 hy).1;unfold OW;simp only [eZ,aV];rw [if_pos (by simp; omega),aR hy,hix]
  simp only [KY',nE',bF j (by omega)]
  by_cases h:cS y x<0<;>simp [h]
 ·unfold OW;simp
theorem Pq {α:Type}(c:α->α->Int)(out:List α)(x:α):(iD c out x).length<=out.length+1:=by
 unfold iD;split
 ·split
  ·omega
  ·rw [Db]; omega
 ·rw [Db]; omega
theorem db' (l:List ByteArray)(hl:l.length<=4194304):yL l=some (l.foldl (iD cS) []):=by
 unfold yL;have key:=nK (σ:=List ByteArray) (step:=Dv l) l (λs i=>(s,(i:Int))) (iD cS) (λi s=>s.length<=i) (λs=>s)
  ?_ ?_ [] (by simp) _ (Lg' _)
 ·have e:iter (Dv l) (l.length+1) (([]:List ByteArray),0)=iter (Dv l) (l.length+1) (([]:List ByteArray),((0:Nat):Int)):=rfl;rw [dw,e,key];rfl
 ·intro i s x hx hI;have hi:i<l.length:=(La'.1 hx).1;refine ⟨Bs' l s i x hx (by omega) (by omega),?_⟩
  have:=Pq cS s x;omega
 ·intro s _;unfold Dv;simp
theorem WQ (a b:List ByteArray):iN (a++b)=iN a+iN b:=by
 induction a with
 | nil=>simp [iN]
 | cons x r ih=>simp only [Mg',iN,ih]; omega
theorem pY' (out:List ByteArray)(x:ByteArray):iN (iD cS out x)<=iN out+qK x:=by
 have hk:∀ p:ByteArray->Bool,iN (gL p x out)=iN out+qK x:=λp=>by have e:=congrArg iN (MH' (p:=p) (l:=out));rw [WQ] at e;simp only [gL,WQ,iN];omega
 unfold iD;split
 ·split
  ·omega
  ·rw [hk]; omega
 ·rw [hk]; omega
theorem Xi:∀ (l out:List ByteArray),iN (l.foldl (iD cS) out)<=iN out+iN l
 | [],out=>by simp [iN]
 | x::r,out=>by have h1:=Xi r (iD cS out x);have h2:=pY' out x;simp only [Mu',iN];omega
section
variable {α:Type}{r:α->α->Bool}
theorem WU {step:List α×Int->Option (Fl (List α×Int) (Sum (List α) (List α)))}(s:List α)(hl:1<=s.length)
 (hst:∀ (i:Nat) (x y:α),1<=i->s[i]?=some x->s[i-1]?=some y->r x y=false->step (s,(i:Int))=some (.next (s,((i+1:Nat):Int))))
 (hhit:∀ (i:Nat) (x y:α),1<=i->s[i]?=some x->s[i-1]?=some y->r x y=true->∃ q:List α,step (s,(i:Int))=some (.done (.inr (s.take i++dd r x (s.drop (i+1))))))
 (hend:step (s,(s.length:Int))=some (.done (.inl s))) :
 (iter step (s.length+1) (s,1)=some (.inl s)/\mh r s=s)\/∃ q:List α,iter step (s.length+1) (s,1)=some (.inr (mh r s)):=by
 have key:∀ (m i fuel:Nat),i+m=s.length->1<=i->m+1<=fuel->(∀ j:Nat,(hj:j+1<s.length)->j+1<i->r s[j+1] (s[j]'(by omega))=false) ->
  (iter step fuel (s,(i:Int))=some (.inl s)/\mh r s=s)\/∃ q:List α,iter step fuel (s,(i:Int))=some (.inr (mh r s)):=by
  intro m
  induction m with
  | zero =>
    intro i fuel hm hi hf hok;obtain ⟨fuel,rfl⟩:∃ m,fuel=m+1:=⟨fuel-1,by omega⟩
    have e:i=s.length:=by omega
    subst e;left;refine ⟨by simp only [iter,hend,KY'],?_⟩
    have h1:s.length-1<s.length:=by omega
    have hs:s=s.take (s.length-1)++s[s.length-1]::[]:=by
     have:=zI (Lb' h1);rw [show s.length-1+1=s.length by omega,NT'] at this
     exact this
    have hc:=Wp (r:=r) (s.take (s.length-1)) s[s.length-1] [] (by
     rw [<- hs];intro j x y h1 h2;have hj:=(La'.1 h1).1;rw [Lb' hj] at h1;rw [Lb' (by omega)] at h2
     cases h1; cases h2;exact hok j hj (by omega))
    rw [<- hs] at hc;rw [hc];exact hs.symm
  | succ m ih =>
    intro i fuel hm hi hf hok;obtain ⟨fuel,rfl⟩:∃ m,fuel=m+1:=⟨fuel-1,by omega⟩
    have hlt:i<s.length:=by omega
    have hlt2:i-1<s.length:=by omega
    have hx:=Lb' hlt;have hy:=Lb' hlt2;by_cases h:r s[i] s[i-1]=true
    ·right;obtain ⟨q,hq⟩:=hhit i _ _ hi hx hy h;refine ⟨q,?_⟩;simp only [iter,hq,KY'];have hs:s=s.take (i-1)++s[i-1]::s[i]::s.drop (i+1):=by
      have e1:=Mm' (i-1) s;have e2:=LO' hlt2;have e3:=LO' hlt;rw [show i-1+1=i by omega,e3] at e2
      rw [<- e2];exact e1.symm
     have hc:=Wp (r:=r) (s.take (i-1)) s[i-1] (s[i]::s.drop (i+1)) (by
      have e:s.take (i-1)++[s[i-1]]=s.take i:=by
       have:=zI hy;rw [show i-1+1=i by omega] at this
       exact this.symm
      rw [e];intro j x y h1 h2;have hj:=(La'.1 h1).1;have hj':j+1<i:=by rw [LC'] at hj; omega
      rw [Lw' hj',Lb' (by omega)] at h1
      rw [Lw' (by omega),Lb' (by omega)] at h2
      cases h1; cases h2;exact hok j (by omega) hj')
     rw [<- hs] at hc;rw [hc];have e:s.take i=s.take (i-1)++[s[i-1]]:=by
      have:=zI hy;rw [show i-1+1=i by omega] at this
      exact this
     rw [e,Lt'];simp only [dd,h,if_true];rfl
    ·have h':r s[i] s[i-1]=false:=by simpa using h
     simp only [iter,hst i _ _ hi hx hy h',KY'];refine ih (i+1) fuel (by omega) (by omega) (by omega) (λj hj hji=>?_)
     by_cases e:j+1<i
     ·exact hok j hj e
     ·have:j+1=i:=by omega
      subst this;exact h'
 exact key (s.length-1) 1 (s.length+1) (by omega) (Lg' _) (by omega) (λj _ h=>by omega)
theorem YQ {β γ:Type}(z:α)(j n:Nat)(s' T:List α)(hl:s'.length=n)(hj:j<n)(ht:s'.take j=T) :
 ∃ q:List α,((ak s' (j:Int)).bind λ_=>bif LF' (j:Int).toNat s'.length then ((cut (s'.take (j:Int).toNat++Ll' (s'.length-(j:Int).toNat) z) 0 (j:Int)).bind λy =>
  some (Fl.done (Sum.inr y):Fl β (Sum γ (List α)))) else none)=some (.done (.inr T)):=by
 refine ⟨s'.take j++Ll' (s'.length-j) z,?_⟩;have e:(j:Int).toNat=j:=by omega
 rw [aR (Lb' (show j<s'.length by omega)),e]
 simp only [KY'];have eb:LF' j s'.length=true:=by simp [LF']; omega
 rw [eb,Ru _ (by simp; omega)]
 simp only [cond_true,KY'];rw [List.take_append_of_le_length (by simp; omega),List.take_take,Nat.min_self,ht]
end
theorem yP (n:Nat)(h:n<=4611686018427387904)(h1:1<=n):d9 ((n:Int)-1)=((n-1:Nat):Int):=by rw [dZ (by omega) (by omega)]; omega
section
variable {L:List Int}{t:ay}{N b:Nat}{h:Nat}{rN:aA->ay->Int->Int->Option (Val×aA)}
def Ag (L:List Int)(t:ay)(N b h:Nat)(rN:aA->ay->Int->Int->Option (Val×aA)):Prop :=
 ∀ (k:Nat) (s:aA),k<N->OS L s->∃ v u,rN s t (k:Int) (h:Int)=some (v,u)/\OS L u/\bP v=true/\bD v<=b
theorem Ko {N:Nat}{x:aF}(hx:fC N x=true){j:Nat}(hj:j<x.ai.length):∃ k:Nat,ak x.ai (j:Int)=some (k:Int)/\x.ai[j]?=some (k:Int)/\k<N:=by have e:=Lb' hj;obtain ⟨k,hk,hk2⟩:=nE (yu hx _ (Lu' hj));rw [hk] at e;exact ⟨k,aR e,e,hk2⟩
theorem aG' (hd:Ag L t N b h rN){x:aF}(hx:fC N x=true)(hl:x.ai.length<=4)(hh:h<=10){s:aA}(hs:OS L s) :
 ∃ g u,iter (ED t ((h:Int)+1) x rN) (x.ai.length+1) (0,s,(0,0,(⟨#[]⟩:ByteArray),[],[],[],[]))=some (u,(0,0,(⟨#[]⟩:ByteArray),g,[],[],[]))/\OS L u/\g.length=x.ai.length/\bL g<=x.ai.length*b:=by
 have hw:d9 ((h:Int)+1-1)=(h:Int):=by rw [dZ (by omega) (by omega)]; omega
 obtain ⟨g,u,e,hu,h1,h2⟩:=OT (γ:=List Val) (L:=L) (step:=ED t ((h:Int)+1) x rN) (λg j s=>(j,s,(0,0,(⟨#[]⟩:ByteArray),g,[],[],[]))) (λg s=>(s,(0,0,(⟨#[]⟩:ByteArray),g,[],[],[]))) (λj g=>g.length=j/\bL g<=j*b) x.ai.length
  (λj g s hj hI hs=>by
    obtain ⟨k,e1,_,e2⟩:=Ko hx hj;obtain ⟨v,u,e3,hu,_,hb⟩:=hd k s e2 hs;refine ⟨g++[v],u,?_,hu,by simp [hI.1],by rw [uf,LP']; simp only [bL]; have:=hI.2; omega⟩
    unfold ED;simp only [aV,hw];rw [dn hj,e1];simp only [cond_true,KY'];rw [e3];simp only [KY'];rw [dX (by simp only [Ld',Lh']; have:=hI.1; omega),bF j (by omega)]
    rfl) (λg s=>by
    unfold ED;simp) x.ai.length 0 (x.ai.length+1) [] s (by omega) (Lg' _) ⟨rfl,by simp [bL]⟩ hs
 exact ⟨g,u,e,hu,h1,h2⟩
theorem xk' (hd:Ag L t N b h rN){x:aF}(hx:fC N x=true)(hl:x.ai.length<=4)(TU:1<=x.ai.length)(hh:h<=10){s:aA}(hs:OS L s) :
 ∃ g u,iter (CS t x ((h:Int)+1) rN) ((d9 ((x.ai.length:Int)-1)).toNat+1) (0,s,([],false,0,0,(⟨#[]⟩:ByteArray),[],[],[],[]))=some (u,(g,false,0,0,(⟨#[]⟩:ByteArray),[],[],[],[]))/\OS L u/\g.length=x.ai.length-1/\gY g=true/\bL g<=3*b:=by
 have hw:d9 ((h:Int)+1-1)=(h:Int):=by rw [dZ (by omega) (by omega)]; omega
 have hw2:d9 ((x.ai.length:Int)-1)=((x.ai.length-1:Nat):Int):=by rw [dZ (by omega) (by omega)]; omega
 rw [hw2,Ln'];obtain ⟨g,u,e,hu,h1,h2,h3⟩:=OT (γ:=List Val) (L:=L) (step:=CS t x ((h:Int)+1) rN) (λg j s=>(j,s,(g,false,0,0,(⟨#[]⟩:ByteArray),[],[],[],[]))) (λg s=>(s,(g,false,0,0,(⟨#[]⟩:ByteArray),[],[],[],[]))) (λj g=>g.length=j/\gY g=true/\bL g<=j*b) (x.ai.length-1)
  (λj g s hj hI hs=>by
    obtain ⟨k,e1,_,e2⟩:=Ko hx (show j<x.ai.length by omega)
    obtain ⟨v,u,e3,hu,ho,hb⟩:=hd k s e2 hs;refine ⟨g++[v],u,?_,hu,by simp [hI.1],by rw [Qm,hI.2.1]; simp [gY,ho],by rw [uf,LP']; simp only [bL]; have:=hI.2.2; omega⟩
    unfold CS;simp only [aV,hw,hw2];rw [dn hj,e1];simp only [cond_true,KY'];rw [e3];simp only [KY'];rw [dX (by simp only [Ld',Lh']; have:=hI.1; omega),bF j (by omega)]
    rfl) (λg s=>by
    unfold CS;simp [aV,hw2]) (x.ai.length-1) 0 (x.ai.length-1+1) [] s (by omega) (Lg' _) ⟨rfl,rfl,by simp [bL]⟩ hs
 have e':iter (CS t x ((h:Int)+1) rN) (x.ai.length-1+1) (0,s,([],false,0,0,(⟨#[]⟩:ByteArray),[],[],[],[]))=some (u,(g,false,0,0,(⟨#[]⟩:ByteArray),[],[],[],[])):=e;refine ⟨g,u,e',hu,h1,h2,Lr' h3 (LA' _ (by omega))⟩
theorem vb' (hL:L.length<=4194304)(hd:Ag L t N b h rN)(hb:8<=b){x:aF}(hx:fC N x=true)(hl:x.ai.length<=4)(TU:1<=x.ai.length)(hh:h<=10)(m:Nat)(hm:m<=2){s:aA}(hs:OS L s) :
 ∃ es u,iter (Fj t x ((h:Int)+1) rN) ((m:Int).toNat+2) ([],(m:Int),s)=some (es,u)/\OS L u/\dz es<=m*(4*b+3):=by
 have hw:d9 ((h:Int)+1-1)=(h:Int):=by rw [dZ (by omega) (by omega)]; omega
 have hw2:d9 ((x.ai.length:Int)-1)=((x.ai.length-1:Nat):Int):=by rw [dZ (by omega) (by omega)]; omega
 obtain ⟨g,u,e,hu,h1,h2⟩:=Af (γ:=List aD) (L:=L) (step:=Fj t x ((h:Int)+1) rN) (λg n s=>(g,n,s)) (λg s=>(g,s)) (λj g=>g.length=j/\dz g<=j*(4*b+3)) m
  (λj n g s hj hn hI hs=>by
    obtain ⟨ag,u1,e1,hu1,ha1,_,ha2⟩:=xk' hd hx hl TU hh hs;obtain ⟨z,u2,e2,hu2,_,_⟩:=fu hL hu1 (n:=6) (by omega) (by omega)
    obtain ⟨k,e3,_,e4⟩:=Ko hx (show x.ai.length-1<x.ai.length by omega)
    have gJ:∀ (fl:Bool) (v:Val) (u3:aA),OS L u3->bD v<=b->∃ g' s',((aT (g.length+([aD.mk ag fl v]:List aD).length) 160).bind λ_=>(some (Fl.next (g++([aD.mk ag fl v]:List aD),d9 (((n+1:Nat):Int)-1),u3)):Option (Fl (List aD×Int×aA) (List aD×aA))))=some (.next (g',(n:Int),s'))/\OS L s'/\(g'.length=j+1/\dz g'<=(j+1)*(4*b+3)):=λfl v u3 hu3 hv=>by
     rw [dX (by simp only [Ld',Lh']; have:=hI.1; omega),show d9 (((n+1:Nat):Int)-1)=(n:Int) by rw [dZ (by omega) (by omega)]; omega]
     refine ⟨_,u3,rfl,hu3,by simp [hI.1],?_⟩
     have hbe:=rT (aD.mk ag fl v);simp only [aD.cu,aD.Result] at hbe;rw [OD,LP'];simp only [dz,hbe];have:=hI.2;omega
    unfold Fj;simp only [aV,hw,hw2];rw [show decide (0<((n+1:Nat):Int))=true from decide_eq_true (by omega)]
    rw [hw2] at e1;rw [e1];simp only [cond_true,KY'];rw [e2];simp only [KY'];cases hz:z==1
    ·simp only [cond_false];obtain ⟨v,u3,e5,hu3,_,hv⟩:=hd k u2 e4 hu2;rw [e3];simp only [KY'];rw [e5];simp only [KY'];have:=gJ false v u3 hu3 hv;cases v;exact this
    ·simp only [cond_true,KY'];exact gJ true rM u2 hu2 (by rw [rM,iT]; simp only [kP,bL,dK,dz]; omega)) (λg s=>by
    unfold Fj;rfl) m 0 ((m:Int).toNat+2) [] s (by omega) (by omega) ⟨rfl,by simp [dz]⟩ hs
 exact ⟨g,u,e,hu,by simpa using h2⟩
theorem nR' (hL:L.length<=4194304)(hd:Ag L t N b h rN){x:aF}(hf:∀ f∈x.aS,bf N f.iR=true)(hk:∀ f∈x.aS,wV f.bq<=8)(hl:x.aS.length<=3)(hh:h<=10){s:aA}(hs:OS L s) :
 ∃ ks vs u,iter (GV t x ((h:Int)+1) rN) (x.aS.length+1) ([],[],0,s)=some (ks,vs,u)/\OS L u/\ks.length<=3/\vs.length<=3/\dK ks<=24/\bL vs<=3*b:=by
 have hw:d9 ((h:Int)+1-1)=(h:Int):=by rw [dZ (by omega) (by omega)]; omega
 obtain ⟨g,u,e,hu,h1,h2,h3,h4⟩:=OT (γ:=List Key×List Val) (L:=L) (step:=GV t x ((h:Int)+1) rN) (λg j s=>(g.1,g.2,j,s)) (λg s=>(g.1,g.2,s)) (λj g=>g.1.length<=j/\g.2.length<=j/\dK g.1<=j*8/\bL g.2<=j*b) x.aS.length
  (λj g s hj hI hs=>by
    have ex:=Lb' hj;have hm:=Lu' hj;generalize x.aS[j]=f at ex hm;obtain ⟨k,e1,e2⟩:=nE (hf f hm);have hkb:=hk f hm;have skip:∀ u,OS L u->∃ (g':List Key×List Val) (s':aA),(some (Fl.next (g.1,g.2,d9 ((j:Int)+1),u)):Option (Fl (List Key×List Val×Int×aA) (List Key×List Val×aA)))=some (.next (g'.1,g'.2,((j+1:Nat):Int),s'))/\OS L s'/\(g'.1.length<=j+1/\g'.2.length<=j+1/\dK g'.1<=(j+1)*8/\bL g'.2<=(j+1)*b):=λu hu=>by
     rw [bF j (by omega)]
     exact ⟨(g.1,g.2),u,rfl,hu,Nat.le_succ_of_le hI.1,Nat.le_succ_of_le hI.2.1,Lr' hI.2.2.1 (LA' _ (Nat.le_succ _)),Lr' hI.2.2.2 (LA' _ (Nat.le_succ _))⟩
    have take:∀ u,OS L u->∃ (g':List Key×List Val) (s':aA),(((aT (g.1.length+([f.bq]:List Key).length) 24).bind λ_=>(rN u t f.iR (h:Int)).bind λr8=>(aT (g.2.length+([r8.1]:List Val).length) 128).bind λ_=>some (g.1++([f.bq]:List Key),g.2++([r8.1]:List Val),r8.2)).bind λb10 =>
     (some (Fl.next (b10.1,b10.2.1,d9 ((j:Int)+1),b10.2.2)):Option (Fl (List Key×List Val×Int×aA) (List Key×List Val×aA))))=some (.next (g'.1,g'.2,((j+1:Nat):Int),s'))/\OS L s'/\(g'.1.length<=j+1/\g'.2.length<=j+1/\dK g'.1<=(j+1)*8/\bL g'.2<=(j+1)*b):=λu hu=>by
     obtain ⟨v,u2,e3,hu2,_,hv⟩:=hd k u e2 hu;rw [dX (by simp only [Ld',Lh']; have:=hI.1; omega),e1,e3]
     simp only [KY'];rw [dX (by simp only [Ld',Lh']; have:=hI.2.1; omega),bF j (by omega)]
     refine ⟨(g.1++[f.bq],g.2++[v]),u2,rfl,hu2,?_,?_,?_,?_⟩
     ·simp only [Lf',Ld',Lh']; have:=hI.1; omega
     ·simp only [Lf',Ld',Lh']; have:=hI.2.1; omega
     ·rw [KF]; simp only [dK]; have:=hI.2.2.1; omega
     ·rw [uf,LP']; simp only [bL]; have:=hI.2.2.2; omega
    unfold GV;simp only [aV,hw];rw [dn hj,aR ex];simp only [cond_true,KY'];cases hO:f.o6
    ·simp only [cond_false,KY'];exact take s hs
    ·simp only [cond_true];obtain ⟨z,u,e4,hu,_,_⟩:=fu hL hs (n:=2) (by omega) (by omega)
     rw [e4];simp only [KY'];cases hz:z==1
     ·simp only [cond_false];exact take u hu
     ·simp only [cond_true,KY'];exact skip u hu) (λg s=>by
    unfold GV;simp) x.aS.length 0 (x.aS.length+1) ([],[]) s (by omega) (Lg' _) ⟨Lg' _,Lg' _,by simp [dK],by simp [bL]⟩ hs
 refine ⟨g.1,g.2,u,e,hu,by omega,by omega,by omega,Lr' h4 (LA' _ hl)⟩
end
structure GT (t:ay):Prop where
 len:t.aj.length<=10
 nodes:zU t.aj.length t.aj
def DB:Nat->Nat
 | 0=>300
 | h+1=>700+8*DB h
theorem YM {h:Nat}(hh:h<=4):DB h<=1638300:=by
 match h,hh with
 | 0,_=>decide
 | 1,_=>decide
 | 2,_=>decide
 | 3,_=>decide
 | 4,_=>decide
theorem uC' {h:Nat}(hh:h<=3):DB h<=204700:=by
 match h,hh with
 | 0,_=>decide
 | 1,_=>decide
 | 2,_=>decide
 | 3,_=>decide
theorem jV' (h:Nat):300<=DB h:=by cases h<;>simp [DB]; omega
theorem cX' (x:Val):∀ (l:List Val) (i:Nat),bL (l.set i x)<=bL l+bD x
 | [],_=>by simp [bL]
 | y::r,0=>by simp only [List.set_cons_zero,bL]; omega
 | y::r,i+1=>by have:=cX' x r i; simp only [Od',bL]; omega
theorem tj' (k n:Int)(s:ByteArray)(a:List Val)(b:List Key)(c:List aD)(l m:List ByteArray)(q:Nat)(h:iN m<=iN l+q):bD (Val.mk k n s a b c m)<=bD (Val.mk k n s a b c l)+q:=by simp only [bD]; omega
theorem pQ' {t:ay}(hT:GT t){i:Nat}{x:aF}(hx:t.aj[i]?=some x)(v:Val)(hv:bD v<=2000000):∃ w,iter (uZ t x) (x.ai.length+1) (0,v)=some w/\bD w<=bD v+x.ai.length*6:=by
 have hg:=hT.nodes i x hx;have key:∀ (m a k:Nat) (w:Val),a+m=x.ai.length->m+1<=k->bD w<=bD v+a*6->∃ w',iter (uZ t x) k ((a:Int),w)=some w'/\bD w'<=bD v+x.ai.length*6:=by
  intro m
  induction m with
  | zero =>
    intro a k w h1 h2 h3;obtain ⟨k,rfl⟩:∃ m,k=m+1:=⟨k-1,by omega⟩
    have e:a=x.ai.length:=by omega
    subst e;have:uZ t x ((x.ai.length:Int),w)=some (.done w):=by unfold uZ;simp
    exact ⟨w,by simp only [iter,this,KY'],h3⟩
  | succ m ih =>
    intro a k w h1 h2 h3;obtain ⟨k,rfl⟩:∃ m,k=m+1:=⟨k-1,by omega⟩
    have ha:a<x.ai.length:=by omega
    have hk4:=hg.kids;obtain ⟨j,e1,_,hj⟩:=Ko hg.ok ha;have e2:=Lb' hj;generalize t.aj[j]=y at e2;have hy:=(hT.nodes j y e2).text;have step:∃ w',uZ t x ((a:Int),w)=some (.next (((a+1:Nat):Int),w'))/\bD w'<=bD w+6:=by
     unfold uZ;simp only [aV];rw [dn ha,e1];simp only [cond_true,KY'];rw [aR e2];simp only [KY'];rw [bF a (by omega)]
     cases hc:y.af==19
     ·simp only [cond_false,KY'];exact ⟨w,rfl,by omega⟩
     ·simp only [cond_true];obtain ⟨kk,n,s,kids,keys,nY,nZ⟩:=w;simp only [Val.bX,Val.af,Val.bn,Val.Text,Val.ai,Val.aU,Val.aW];have hlab:nZ.length<=bD (Val.mk kk n s kids keys nY nZ):=by have:=Km nZ;simp only [bD]; omega
      rw [dX (by omega),dX (by simp only [Ld',Lh']; omega)]
      simp only [KY'];rw [db' (nZ++[y.Text]) (by simp only [Lf',Ld',Lh']; omega)]
      refine ⟨_,rfl,tj' _ _ _ _ _ _ _ _ 6 ?_⟩;have h4:=Xi (nZ++[y.Text]) [];rw [WQ] at h4;simp only [iN,qK] at h4;omega
    obtain ⟨w',e3,h5⟩:=step;simp only [iter,e3,KY'];exact ih (a+1) k w' (by omega) (by omega) (by omega)
 exact key x.ai.length 0 (x.ai.length+1) v (by omega) (Lg' _) (by omega)
theorem tV' {ks:List Key}{vs:List Val}{u:List Val×List Key}(h:tT (ks.zip vs) ([],[])=some u):bD (wT u)<=8+dK ks+bL vs:=by obtain ⟨_,_,_,_,_,m⟩:=Xr (ks.zip vs) ([],[]) u h rfl rfl;have hz:=XU ks vs;simp only [bL,dK] at m;simp only [wT,iT,kP,dz];omega
section
variable {L:List Int}{t:ay}
theorem ux' (hL:L.length<=4194304){b h:Nat}{rN}(hd:Ag L t t.aj.length b h rN)(hb:8<=b)(hb2:b<=300000)(hh:h<=10){i:Nat}{x:aF}(hg:GN t.aj.length i x)(hk:x.af=13){s:aA}(hs:OS L s)(f:Nat)(r1:aA->ay->Int->Int->Option (Val×aA))(r2 r3:aA->ay->aF->Int->Option (Val×aA)) :
 ∃ v u,Cz f rN r1 r2 r3 s t x ((h:Int)+1)=some (v,u)/\OS L u/\bD v<=100+4*b:=by
 have hw:d9 ((h:Int)+1-1)=(h:Int):=by rw [dZ (by omega) (by omega)]; omega
 have hn:=hg.ok;unfold fC jd sZ at hn;simp only [hk] at hn;simp only [Lc'] at hn;have hn2:=hn.2.2.2.2;simp at hn2;obtain ⟨⟨_,_,hfn⟩,_,hr0,hr1⟩:=hn2;obtain ⟨ks,vs,u,e,hu,l1,l2,b1,b2⟩:=nR' hL hd hfn hg.keys hg.uq hh hs;obtain ⟨k0,hk0,hk0'⟩:=nE hr0;obtain ⟨k1,hk1,Ju'⟩:=nE hr1;unfold Cz;rw [dw,e];simp only [KY'];obtain ⟨z,u2,e2,hu2,_,_⟩:=fu hL hu (n:=2) (by omega) (by omega)
 rw [e2];simp only [KY',aV,hw];have gJ:∀ (ks:List Key) (vs:List Val) (u3:aA),ks.length<=4->OS L u3->dK ks<=40->bL vs<=4*b->∃ v u,((vJ ks vs).bind λl6=>bif l6.2 != 0 then ((qB).bind λoQ=>some (oQ,u3)) else (some (l6.1,u3)))=some (v,u)/\OS L u/\bD v<=100+4*b:=λks vs u3 q1 hu3 q2 q3=>by
  rw [fy' ks vs (by omega)]
  have lV':bD (Val.mk 5 0 (⟨#[]⟩:ByteArray) ([]:List Val) ([]:List Key) ([]:List aD) ([]:List ByteArray))<=100+4*b:=by rw [iT]; simp only [kP,bL,dK,dz]; omega
  by_cases hc:ks.length=vs.length/\ks.all fK=true
  ·rw [if_pos hc];cases hm:tT (ks.zip vs) ([],[]) with
   | none=>exact ⟨_,u3,rfl,hu3,lV'⟩
   | some t =>have:=tV' hm;exact ⟨wT t,u3,rfl,hu3,by omega⟩
  ·rw [if_neg hc];exact ⟨_,u3,rfl,hu3,lV'⟩
 have other:∀ (z:Int) (kk:Nat) (u4:aA),kk<t.aj.length->OS L u4->∃ v u,(((rN u4 t (kk:Int) (h:Int)).bind λgy=>(aT (vs.length+([gy.1]:List Val).length) 128).bind λ_=>some (ks++([Key.mk z (⟨#[111,116,104,101,114]⟩:ByteArray)]:List Key),vs++([gy.1]:List Val),gy.2)).bind λb19 =>
  (vJ b19.1 b19.2.1).bind λl6=>bif l6.2 != 0 then ((qB).bind λoQ=>some (oQ,b19.2.2)) else (some (l6.1,b19.2.2)))=some (v,u)/\OS L u/\bD v<=100+4*b:=λz kk u4 hkk hu4=>by
  obtain ⟨v,u5,e5,hu5,_,hv⟩:=hd kk u4 hkk hu4;rw [e5];simp only [KY'];rw [dX (by simp only [Ld',Lh']; omega)]
  simp only [KY'];refine gJ _ _ u5 (by simp only [Lf',Ld',Lh']; omega) hu5 ?_ ?_
  ·rw [KF];have:dK ([Key.mk z (⟨#[111,116,104,101,114]⟩:ByteArray)]:List Key)<=10:=by simp only [dK,wV,qK];decide
   omega
  ·rw [uf]; simp only [bL]; omega
 cases hz:z==1
 ·simp only [cond_false,KY'];exact gJ ks vs u2 (by omega) hu2 (by omega) (by omega)
 ·simp only [cond_true];obtain ⟨y,u3,e3,hu3,y0,y1⟩:=fu hL hu2 (n:=2) (by omega) (by omega)
  rw [e3];simp only [KY'];rw [dX (by simp only [Ld',Lh']; omega)]
  simp only [KY'];have hy:y=0\/y=1:=by omega
  rcases hy with rfl | rfl
  ·simp only [MD',cond_true];rw [hk0];exact other 0 k0 u3 hk0' hu3
  ·simp only [MD',cond_true,cond_false];rw [hk1];exact other 1 k1 u3 Ju' hu3
theorem oU' (hL:L.length<=4194304){b h:Nat}{rN}(hd:Ag L t t.aj.length b h rN)(hb:8<=b)(hb2:b<=300000)(hh:h<=10){i:Nat}{x:aF}(hg:GN t.aj.length i x)(hk:x.af=14){s:aA}(hs:OS L s)(f:Nat)(hf:9000000<=f)(r1:aA->ay->Int->Int->Option (Val×aA))(r2 r3:aA->ay->aF->Int->Option (Val×aA)) :
 ∃ v u,Co f rN r1 r2 r3 s t x ((h:Int)+1)=some (v,u)/\OS L u/\bD v<=100+8*b:=by
 have hn:=hg.ok;unfold fC jd at hn;simp only [hk] at hn;simp only [Lc'] at hn;have hn2:=hn.2.2.2.2;simp at hn2;have hk4:=hg.kids;have TU:1<=x.ai.length:=by omega
 obtain ⟨m,u,e,hu,m0,m1⟩:=fu hL hs (n:=3) (by omega) (by omega)
 obtain ⟨m,rfl⟩:=wD m0;obtain ⟨es,u2,e2,hu2,hbe⟩:=vb' hL hd hb hg.ok hk4 TU hh m (by omega) hu
 unfold Co;rw [e];simp only [KY'];rw [e2];simp only [KY'];have KI':dz es<=2*(4*b+3):=Lr' hbe (LA' _ (by omega))
 rw [iv' f _ es (by omega) (by omega)]
 have Ze:=Uo es [];simp only [dz] at Ze;by_cases hc:0<=(wr .i64 ((x.ai.length:Int)-1))/\(wr .i64 ((x.ai.length:Int)-1))<=4/\es.all (lV (wr .i64 ((x.ai.length:Int)-1)))=true
 ·rw [if_pos hc];refine ⟨_,u2,rfl,hu2,?_⟩;simp only [zS,iT,kP,bL,dK];omega
 ·rw [if_neg hc];refine ⟨_,u2,rfl,hu2,?_⟩;rw [iT]; simp only [kP,bL,dK,dz]; omega
end
section
variable {L:List Int}{t:ay}
def KN (L:List Int)(t:ay)(h:Nat):Prop:=∀ (k f:Nat) (s:aA),k<t.aj.length->9000000+14*h+(10-k)<=f->OS L s ->
 ∃ v u,(bM f).2.1 s t (k:Int) (h:Int)=some (v,u)/\OS L u/\bD v+24*k<=DB h
theorem P7 (hL:L.length<=4194304)(hT:GT t){h:Nat}(hh:h<=4)(hP:KN L t h)(f:Nat)(hf:9000000+14*h+11<=f):Ag L t t.aj.length (DB h) h (bM f).1:=by
 intro k s hk hs;obtain ⟨f,rfl⟩:∃ m,f=m+1:=⟨f-1,by omega⟩
 obtain ⟨v,u,e,hu,hb⟩:=hP k f s hk (by omega) hs
 have hD:=YM hh;show ∃ v u,Cu f (bM f).1 (bM f).2.1 (bM f).2.2.1 (bM f).2.2.2 s t (k:Int) (h:Int)=some (v,u)/\_;unfold Cu;rw [e];simp only [KY'];rw [Wj f v (by omega) (by omega)]
 simp only [KY'];cases hv:bP v
 ·obtain ⟨w,u2,e2,hu2,h1,h2⟩:=KS hL hu;have:=jV' h;simp only [NH',cond_true];rw [e2];exact ⟨w,u2,rfl,hu2,h1,by omega⟩
 ·exact ⟨v,u,rfl,hu,hv,by omega⟩
theorem zF' (hL:L.length<=4194304)(hT:GT t):KN L t 0:=by
 intro k f s hk hf hs;obtain ⟨f,rfl⟩:∃ m,f=m+1:=⟨f-1,by omega⟩
 obtain ⟨v,u,e,hu,_,hb⟩:=KS hL hs;refine ⟨v,u,?_,hu,by have:=hT.len; simp only [DB]; omega⟩
 show xQ f (bM f).1 (bM f).2.1 (bM f).2.2.1 (bM f).2.2.2 s t (k:Int) ((0:Nat):Int)=some (v,u);unfold xQ;have e0:decide (((0:Nat):Int)<=0)=true:=rfl;rw [e0];simp only [cond_true,KY'];rw [e];rfl
theorem qO' (hL:L.length<=4194304)(hT:GT t){h:Nat}(hh:h<=3)(hP:KN L t h):KN L t (h+1):=by
 have key:∀ (d k f:Nat) (s:aA),t.aj.length-k<=d->k<t.aj.length->9000000+14*(h+1)+(10-k)<=f->OS L s ->
  ∃ v u,(bM f).2.1 s t (k:Int) ((h:Int)+1)=some (v,u)/\OS L u/\bD v+24*k<=DB (h+1):=by
  intro d
  induction d with
  | zero=>intro k f s h1 h2; omega
  | succ d ih =>
    intro k f s hd hk hf hs;obtain ⟨f,rfl⟩:∃ m,f=m+1:=⟨f-1,by omega⟩
    have hlen:=hT.len;have hD:=uC' hh;have hDp:=jV' h;have ex:=Lb' hk;generalize t.aj[k]=x at ex;have hg:=hT.nodes k x ex;have hn:=hg.ok;have small:∀ {n:Nat},n<=440+8*DB h->n+24*k<=DB (h+1):=λhn=>by simp only [DB]; omega
    show ∃ v u,xQ f (bM f).1 (bM f).2.1 (bM f).2.2.1 (bM f).2.2.2 s t (k:Int) ((h:Int)+1)=some (v,u)/\_;have hQ:=P7 hL hT (show h<=4 by omega) hP f (by omega)
    unfold xQ;have q0:decide ((h:Int)+1<=0)=false:=decide_eq_false (by omega)
    have q1:decide ((k:Int)<0)=false:=decide_eq_false (by omega)
    have q2:decide ((t.aj.length:Int)<=(k:Int))=false:=decide_eq_false (by omega)
    rw [q0,q1,q2,aR ex];simp only [cond_false,KY'];have kid:∀ (s:aA),OS L s->iC x=true->1<=x.ai.length->∃ (z:Int) (u:aA) (k':Nat) (v:Val) (u':aA),dQ s (x.ai.length:Int)=some (z,u)/\ak x.ai z=some (k':Int) /\
     (bM f).2.1 u t (k':Int) ((h:Int)+1)=some (v,u')/\OS L u'/\bD v+24*(k+1)<=DB (h+1):=λs hs hb h1=>by
     have h4:=hg.kids;obtain ⟨z,u,e,hu,z0,z1⟩:=fu hL hs (n:=(x.ai.length:Int)) (by omega) (by omega)
     obtain ⟨z,rfl⟩:=wD z0;obtain ⟨k',e1,e2,hk'⟩:=Ko hn (show z<x.ai.length by omega)
     have hlt:=hg.ord hb _ (Lj' e2);obtain ⟨v,u',e3,hu',hbv⟩:=ih k' f u (by omega) hk' (by omega) hu
     exact ⟨z,u,k',v,u',e,e1,e3,hu',by omega⟩
    have other:∃ v u,((I5 f s 2).bind λNM=>some (NM.1,NM.2))=some (v,u)/\OS L u/\bD v+24*k<=DB (h+1):=by
     obtain ⟨v,u,e,hu,_,hb⟩:=oA' hL 1 f (by omega) (by omega) s hs
     have e':I5 f s 2=some (v,u):=e;rw [e'];exact ⟨v,u,rfl,hu,small (by have:Go.Pl.hb 1=320:=rfl; omega)⟩
    have Jx':=Gr x.af;rcases Jx' with hK | hK
    ·have kt:=hn;unfold fC jd at kt;rcases hK with hK | hK | hK | hK | hK | hK | hK | hK | hK | hK | hK | hK | hK | hK | hK | hK | hK | hK | hK<;>simp only [hK] at kt ⊢<;>simp only [MD',cond_true,cond_false,KY']
     ·exact other
     ·exact other
     ·have qd:∀ a:Int,BZ .i64 a 2=some (wr .i64 (a.tdiv 2)):=λa=>rfl;rw [qd,qd];simp only [KY'];obtain ⟨z,u,e,hu,z0,z1⟩:=fu hL hs (n:=3) (by omega) (by omega)
      rw [e];simp only [KY'];generalize wr .i64 (x.Lo+(wr .i64 ((wr .i64 (x.Hi.tdiv 2))-(wr .i64 (x.Lo.tdiv 2)))))=mid;obtain ⟨y,ey,eg,_⟩:=LP ([x.Lo,x.Hi,mid]:List Int) z0 (by simpa using z1)
      rw [ey,eg];refine ⟨_,u,rfl,hu,small ?_⟩;rw [iT]; simp only [kP,bL,dK,dz]; omega
     ·refine ⟨_,s,rfl,hs,small ?_⟩;have:=hg.text;rw [iT]; simp only [bL,dK,dz]; omega
     ·obtain ⟨w,u,e,hu,hw⟩:=PU hL hs;have hw2:=Le'.1 Rz w hw;simp only [decide_eq_true_eq] at hw2;rw [e];refine ⟨_,u,rfl,hu,small ?_⟩;rw [iT]; simp only [bL,dK,dz]; omega
     ·refine ⟨_,s,rfl,hs,small ?_⟩;have:=hg.text;rw [iT]; simp only [bL,dK,dz]; omega
     ·obtain ⟨w,u,e,hu,hw⟩:=RJ hL hs;have hw2:=Le'.1 Pj w hw;simp only [Lc',decide_eq_true_eq] at hw2;rw [e];refine ⟨_,u,rfl,hu,small ?_⟩;rw [iT]; simp only [bL,dK,dz]; omega
     ·obtain ⟨z,u,e,hu,z0,z1⟩:=fu hL hs (n:=2) (by omega) (by omega)
      rw [e];refine ⟨_,u,rfl,hu,small ?_⟩;rw [iT]; simp only [kP,bL,dK,dz]; omega
     ·refine ⟨_,s,rfl,hs,small ?_⟩;rw [iT]; simp only [kP,bL,dK,dz]; omega
     ·obtain ⟨g,u,e,hu,hl,hb⟩:=aG' hQ hn hg.kids (by omega) hs
      rw [dw,e];refine ⟨_,u,rfl,hu,small ?_⟩;have h4:=hg.kids;have:x.ai.length*DB h<=4*DB h:=LA' _ h4;rw [iT]; simp only [kP,dK,dz]; omega
     ·exact other
     ·obtain ⟨g,u,e,hu,hl,hb⟩:=aG' hQ hn hg.kids (by omega) hs
      rw [dw,e];simp only [KY'];have h4:=hg.kids;have h2:x.ai.length=2:=by simp only [Lc'] at kt;have:=kt.2.2.2.2;simp at this;omega
      have hgl:1<g.length:=by omega
      have eg:=Lb' hgl;generalize g[1]=w at eg;have ei:ak g 1=some w:=aR (i:=1) eg;have e1:(1:Int).toNat=1:=rfl;rw [ei,e1,eg];simp only [KY'];have:x.ai.length*DB h<=4*DB h:=LA' _ h4;cases hw:w.af != 7
      ·simp only [cond_false,KY'];refine ⟨_,u,rfl,hu,small ?_⟩;rw [iT]; simp only [kP,dK,dz]; omega
      ·simp only [cond_true];refine ⟨_,u,rfl,hu,small ?_⟩;have hs:=cX' (Val.mk 5 0 (⟨#[]⟩:ByteArray) [] [] [] []) g 1;rw [iT] at hs;simp only [kP,bL,dK,dz] at hs;rw [iT]; simp only [kP,dK,dz]; omega
     ·obtain ⟨f,rfl⟩:∃ m,f=m+1:=⟨f-1,by omega⟩
      have ZQ:=P7 hL hT (show h<=4 by omega) hP f (by omega)
      obtain ⟨v,u,e,hu,hb⟩:=ux' hL ZQ (by omega) (by omega) (by omega) hg hK hs f (bM f).2.1 (bM f).2.2.1 (bM f).2.2.2
      have e':(bM (f+1)).2.2.2 s t x ((h:Int)+1)=some (v,u):=e;rw [e'];exact ⟨v,u,rfl,hu,small (by omega)⟩
     ·obtain ⟨f,rfl⟩:∃ m,f=m+1:=⟨f-1,by omega⟩
      have ZQ:=P7 hL hT (show h<=4 by omega) hP f (by omega)
      obtain ⟨v,u,e,hu,hb⟩:=oU' hL ZQ (by omega) (by omega) (by omega) hg hK hs f (by omega) (bM f).2.1 (bM f).2.2.1 (bM f).2.2.2
      have e':(bM (f+1)).2.2.1 s t x ((h:Int)+1)=some (v,u):=e;rw [e'];exact ⟨v,u,rfl,hu,small (by omega)⟩
     ·exact other
     ·have h1:1<=x.ai.length:=by
       simp only [Lc'] at kt;have:=kt.2.2.2.2;simp at this;omega
      obtain ⟨z,u,k',v,u',e1,e2,e3,hu',hb⟩:=kid s hs (by unfold iC; rw [hK]; rfl) h1
      rw [e1];simp only [KY'];rw [e2];simp only [KY'];rw [e3];exact ⟨v,u',rfl,hu',by omega⟩
     ·have h1:1<=x.ai.length:=by
       simp only [Lc'] at kt;have:=kt.2.2.2.2;simp at this;omega
      obtain ⟨z,u,k',v,u',e1,e2,e3,hu',hb⟩:=kid s hs (by unfold iC; rw [hK]; rfl) h1
      rw [e1];simp only [KY'];rw [e2];simp only [KY'];rw [e3];simp only [KY'];have hD2:=YM (show h+1<=4 by omega)
      obtain ⟨w,e4,hb4⟩:=pQ' hT ex v (by omega)
      rw [dw,e4];have h4:=hg.kids;exact ⟨w,u',rfl,hu',by omega⟩
     ·exact other
     ·obtain ⟨v,u,e,hu,_,hb⟩:=KS hL hs;rw [e];simp only [KY'];unfold Lr;rw [db' [x.Text] (by simp)]
      refine ⟨_,u,rfl,hu,small ?_⟩;have h5:=hg.text;have h6:=Xi [x.Text] [];simp only [iN,qK] at h6;have h7:=Kl v (List.foldl (iD cS) [] [x.Text]);unfold xR at h7;show bD (Val.mk v.af v.bn v.Text v.ai v.aU v.aW (List.foldl (iD cS) [] [x.Text]))<=_;omega
    ·have e:∀ n:Int,1<=n->n<=19->¬ x.af=n:=λn h1 h2=>by simpa using hK n h1 h2
     unfold fC jd at hn;rw [if_neg (e 3 (by omega) (by omega)),if_neg (e 4 (by omega) (by omega)),if_neg (e 6 (by omega) (by omega)),if_neg (e 19 (by omega) (by omega)),if_neg (by have:=e 1 (by omega) (by omega); have:=e 2 (by omega) (by omega); have:=e 5 (by omega) (by omega); have:=e 7 (by omega) (by omega); have:=e 8 (by omega) (by omega); have:=e 9 (by omega) (by omega); have:=e 11 (by omega) (by omega); have:=e 15 (by omega) (by omega); omega),
      if_neg (e 10 (by omega) (by omega)),if_neg (e 12 (by omega) (by omega)),if_neg (e 14 (by omega) (by omega)),if_neg (by have:=e 16 (by omega) (by omega); have:=e 17 (by omega) (by omega); omega),if_neg (e 18 (by omega) (by omega)),if_neg (e 13 (by omega) (by omega))] at hn
     simp at hn
 intro k f s hk hf hs;exact key t.aj.length k f s (by omega) hk hf hs
theorem gb' (hL:L.length<=4194304)(hT:GT t):∀ h:Nat,h<=4->KN L t h
 | 0,_=>zF' hL hT
 | h+1,hh=>qO' hL hT (by omega) (gb' hL hT h (by omega))
theorem Ct' (hL:L.length<=4194304)(hT:GT t)(f:Nat)(hf:10000000<=f)(h:Nat)(hh:h<=4):Ag L t t.aj.length 1638300 h (Po f):=λk s hk hs=>by
 obtain ⟨v,u,h1,h2,h3,h4⟩:=P7 hL hT hh (gb' hL hT h hh) f (by omega) k s hk hs
 exact ⟨v,u,h1,h2,h3,Lr' h4 (YM hh)⟩
end
theorem qJ {α β:Type}{step:Int->Option (Fl Int (Sum Unit β))}(xs:List α)(p:α->Bool)(out:Nat->α->β)
 (hst:∀ (i:Nat) (x:α),xs[i]?=some x->step (i:Int)=some (if p x=true then .done (.inr (out i x)) else .next ((i+1:Nat):Int)))
 (hend:step (xs.length:Int)=some (.done (.inl ()))) :
 (∃ i x,xs[i]?=some x/\p x=true/\(∀ j,j<i->∀ y,xs[j]?=some y->p y=false)/\iter step (xs.length+1) 0=some (.inr (out i x)))\/(xs.any p=false/\iter step (xs.length+1) 0=some (.inl ())):=by
 have key:∀ (m a k:Nat),a+m=xs.length->m+1<=k->(∀ j,j<a->∀ y,xs[j]?=some y->p y=false) ->
  (∃ i x,xs[i]?=some x/\p x=true/\(∀ j,j<i->∀ y,xs[j]?=some y->p y=false)/\iter step k (a:Int)=some (.inr (out i x)))\/(xs.any p=false/\iter step k (a:Int)=some (.inl ())):=by
  intro m
  induction m with
  | zero =>
    intro a k h1 h2 h3;obtain ⟨k,rfl⟩:∃ m,k=m+1:=⟨k-1,by omega⟩
    have e:a=xs.length:=by omega
    subst e;refine .inr ⟨?_,by simp only [iter,hend,KY']⟩
    rw [MQ'];intro x hx;obtain ⟨j,hj,rfl⟩:=LW' hx;have:=h3 j hj _ (Lb' hj);simp [this]
  | succ m ih =>
    intro a k h1 h2 h3;obtain ⟨k,rfl⟩:∃ m,k=m+1:=⟨k-1,by omega⟩
    have ha:a<xs.length:=by omega
    have ex:=Lb' ha;have hs:=hst a _ ex;cases hp:p xs[a] with
    | true =>rw [if_pos hp] at hs;exact .inl ⟨a,xs[a],ex,hp,h3,by simp only [iter,hs,KY']⟩
    | false =>
      rw [if_neg (by simp [hp])] at hs
      simp only [iter,hs,KY'];refine ih (a+1) k (by omega) (by omega) λj hj y hy=>?_
      by_cases hja:j=a
      ·subst hja;rw [ex] at hy;cases hy;exact hp
      ·exact h3 j (by omega) y hy
 exact key xs.length 0 (xs.length+1) (by omega) (Lg' _) (λj hj=>by omega)
theorem vE {α:Type}{xs:List α}{p:α->Bool}{i:Nat}{x:α}(h:xs[i]?=some x)(hp:p x=true):xs.any p=true:=LL'.2 ⟨x,Lj' h,hp⟩
theorem zE':decide ((0:Int) <= -1)=false:=rfl
theorem Cr (i:Nat):decide ((0:Int)<=(i:Int))=true:=decide_eq_true (by omega)
theorem WK (a b:ByteArray):bU a b=bU b a:=by
 rw [AU,AU];have:cS b a = - cS a b:=Kg.anti a b;by_cases h:cS a b=0
 ·simp [h,this]
 ·have h2:¬ cS b a=0:=by omega
  simp [h,h2]
theorem Br (a b:Key):rV a b=fZ a b:=rfl
theorem sk' (l:List ByteArray)(k:ByteArray)(hl:l.length<=4194304):Ow l k=some (l.any λy=>bU y k):=by
 unfold Ow Wq;rw [dw];rcases qJ (step:=Qb l k) l (λy=>bU y k) (λi _=>(i:Int)) (λi x hx=>by
  have hi:i<l.length:=(La'.1 hx).1;unfold Qb;rw [dn hi,aR hx];simp only [cond_true,KY',aV];rw [bF i (by omega),WK k x]
  cases bU x k<;>rfl) (by
  unfold Qb;simp) with ⟨i,x,hx,hp,_,e⟩ | ⟨h,e⟩
 ·rw [e,vE hx hp];simp only [KY',aL,Cr]
 ·rw [e,h];rfl
theorem Uh (l:List Int)(f:Int->Option Bool)(p:Int->Bool)(hl:l.length<=4194304)(hf:∀ x∈l,f x=some (p x)):yU l f=some (l.any p):=by
 unfold yU Xf;rw [dw];rcases qJ (step:=Qn l f) l p (λi _=>(i:Int)) (λi x hx=>by
  have hi:i<l.length:=(La'.1 hx).1;unfold Qn;rw [dn hi,aR hx];simp only [cond_true,KY',aV];rw [bF i (by omega),hf x (Lj' hx)]
  cases p x<;>rfl) (by
  unfold Qn;simp) with ⟨i,x,hx,hp,_,e⟩ | ⟨h,e⟩
 ·rw [e,vE hx hp];simp only [KY',aL,Cr]
 ·rw [e,h];rfl
def yH (x:aF)(k:Key):Int:=if k.af=0 then x.Rest.1 else x.Rest.2
def lG (x:aF)(k:Key):Int:=match x.aS.find? (λf=>fZ f.bq k) with
 | some f=>f.iR
 | none=>yH x k
theorem Ri {α:Type}{p:α->Bool}:∀ {l:List α} {i:Nat} {x:α},l[i]?=some x->p x=true->(∀ j,j<i->∀ y,l[j]?=some y->p y=false)->l.find? p=some x
 | [],_,_,h,_,_=>by simp at h
 | y::r,0,x,h,hp,_=>by simp at h;subst h;simp [hp]
 | y::r,i+1,x,h,hp,hn=>by
   have hy:=hn 0 (by omega) y rfl
   rw [List.find?_cons,hy];exact Ri (l:=r) (i:=i) (by simpa using h) hp λj hj z hz=>hn (j+1) (by omega) z (by simpa using hz)
theorem Sk {α:Type}{p:α->Bool}{l:List α}(h:l.any p=false):l.find? p=none:=by rw [List.find?_eq_none];rw [MQ'] at h;exact h
theorem Vt {k:Key}(h:fK k=true):k.af=0\/k.af=1:=by
 unfold fK at h;split at h
 ·left; assumption
 ·split at h
  ·right; assumption
  ·cases h
theorem oV' (x:aF)(k:Key)(hf:x.aS.length<=4194304)(hk:fK k=true):Pb x k=some (lG x k):=by
 unfold Pb lG;rw [dw];rcases qJ (step:=OV x k) x.aS (λf=>fZ f.bq k) (λ_ f=>f.iR) (λi f hx=>by
  have hi:i<x.aS.length:=(La'.1 hx).1;unfold OV;rw [dn hi,aR hx];simp only [cond_true,KY',Br,aV];rw [bF i (by omega)]
  cases fZ f.bq k<;>rfl) (by
  unfold OV;simp) with ⟨i,f,hx,hp,hn,e⟩ | ⟨h,e⟩
 ·rw [e,Ri hx hp hn];rfl
 ·rw [e,Sk h];unfold yH;rcases Vt hk with h0 | h1
  ·simp [aL,h0]
  ·simp [aL,h1]
theorem xG' (v:Val)(k:Key)(hl:v.aU.length<=4194304):∃ r,Qw v k=some r/\decide (r<0)=!(v.aU.any λy=>fZ y k):=by
 unfold Qw;rw [dw];rcases qJ (step:=Sn v k) v.aU (λy=>fZ y k) (λi _=>(i:Int)) (λi x hx=>by
  have hi:i<v.aU.length:=(La'.1 hx).1;unfold Sn;rw [dn hi,aR hx];simp only [cond_true,KY',Br,aV];rw [bF i (by omega)]
  cases fZ x k<;>rfl) (by
  unfold Sn;simp) with ⟨i,x,hx,hp,_,e⟩ | ⟨h,e⟩
 ·rw [e,vE hx hp];exact ⟨(i:Int),rfl,decide_eq_false (by omega)⟩
 ·rw [e,h];exact ⟨-1,rfl,rfl⟩
theorem mw' (x:aF)(k:Key)(hl:x.aS.length<=4194304):(∃ (i:Nat) (f:dm),Fe x k=some (i:Int)/\x.aS[i]?=some f/\lG x k=f.iR)\/(Fe x k=some (-1)/\lG x k=yH x k):=by
 unfold Fe lG;rw [dw];rcases qJ (step:=QZ x k) x.aS (λf=>fZ f.bq k) (λi _=>(i:Int)) (λi f hx=>by
  have hi:i<x.aS.length:=(La'.1 hx).1;unfold QZ;rw [dn hi,aR hx];simp only [cond_true,KY',Br,aV];rw [bF i (by omega)]
  cases fZ f.bq k<;>rfl) (by
  unfold QZ;simp) with ⟨i,f,hx,hp,hn,e⟩ | ⟨h,e⟩
 ·left;rw [e,Ri hx hp hn];exact ⟨i,f,rfl,hx,rfl⟩
 ·right;rw [e,Sk h];exact ⟨rfl,rfl⟩
section
variable (μ:Val->Int->Bool)
def pO (l:List Val)(ks:List Int):Bool:=((l.length:Int)==(ks.length:Int))&&(l.zip ks).all λp=>μ p.1 p.2
def wE (v:Val)(x:aF):Bool:=(x.aS.all λf=>f.o6||v.aU.any λy=>fZ y f.bq)&&(v.aU.zip v.ai).all λp=>μ p.2 (lG x p.1)
def GK (ks:List Int):Int:=ks.getD (ks.length-1) 0
def BL (e:aD)(ks:List Int):Bool:=!pO μ e.cu (ks.take (ks.length-1))||(!e.Fails&&μ e.Result (GK ks))
def xY (v:Val)(x:aF):Bool:=(v.bn==((x.ai.length-1:Nat):Int))&&v.aW.all λe=>BL μ e x.ai
def pF (v:Val)(x:aF):Bool :=
 if x.af=2 then true else if x.af=3 then v.af==1&&(decide (x.Lo<=v.bn)&&decide (v.bn<=x.Hi)) else if x.af=4 then v.af==2&&bU v.Text x.Text else
 if x.af=5 then v.af==2 else if x.af=6 then v.af==3&&bU v.Text x.Text else if x.af=7 then v.af==3 else if x.af=8 then v.af==4 else if x.af=9 then v.af==5 else
 if x.af=11 then v.af==6 else if x.af=15 then v.af==9 else if x.af=10 then v.af==6&&pO μ v.ai x.ai else if x.af=12 then v.af==7&&pO μ v.ai x.ai else
 if x.af=13 then v.af==8&&wE μ v x else if x.af=14 then v.af==9&&xY μ v x else if x.af=16 then x.ai.any (μ v) else if x.af=17 then x.ai.all (μ v) else
 if x.af=18 then !μ v (x.ai.getD 0 0) else if x.af=19 then v.bX.any λy=>bU y x.Text else false
end
def FU (b:Nat):Nat:=4*(b*21+20)+4
def bE (t:ay)(v:Val)(k:Int):Bool:=(jc (FU (bD v)) v t k).getD false
def MS (v:Val)(k:Nat):Nat:=bD v*21+(20-k)
theorem EQ {α β:Type}{l:List α}{m:List β}{i:Nat}{p:α×β}(h:(l.zip m)[i]?=some p):l[i]?=some p.1/\m[i]?=some p.2:=by obtain ⟨a,b⟩:=p;rw [Ob'] at h;exact h
theorem aA' {l:List Val}(h:gY l=true){x:Val}(hx:x∈l):bP x=true:=by rw [uJ] at h;exact Le'.1 h x hx
section
variable {t:ay}{f0 b:Nat}
def RH (t:ay)(f0 b:Nat):Prop:=∀ (v:Val) (k:Nat) (f:Nat),bD v<b->bP v=true->k<t.aj.length->f0<=f->True/\jc f v t (k:Int)=some (bE t v (k:Int))
theorem jr' (hR:RH t f0 b){l:List Val}{ks:List Int}(hl:∀ x∈l,bD x<b)(ho:gY l=true)(hk:∀ k∈ks,bf t.aj.length k=true)(hlen:l.length<=4194304)(f:Nat)(hf:f0+1<=f) :
 True/\AJ f l t ks=some (pO (bE t) l ks):=by
 obtain ⟨f,rfl⟩:∃ m,f=m+1:=⟨f-1,by omega⟩
 by_cases he:l.length=ks.length
 ·have e1:((l.length:Int) != (ks.length:Int))=false:=by simp [he]
  have e2:((l.length:Int)==(ks.length:Int))=true:=by simp [he]
  have hz:(l.zip ks).length=l.length:=by rw [List.length_zip]; omega
  have one:∀ (i:Nat) (p:Val×Int),(l.zip ks)[i]?=some p->i<l.length/\ak l (i:Int)=some p.1/\ak ks (i:Int)=some p.2/\True/\jc f p.1 t p.2=some (bE t p.1 p.2):=λi p hp=>by
   obtain ⟨h1,h2⟩:=EQ hp;obtain ⟨j,hj,hj2⟩:=nE (hk _ (Lj' h2));have hm:=Lj' h1;have:=hR p.1 j f (hl _ hm) (aA' ho hm) hj2 (by omega)
   rw [<- hj] at this;exact ⟨(La'.1 h1).1,aR h1,aR h2,this⟩
  have l2:=lF (step:=I4 l t ks (jc f)) (l.zip ks) (λp=>bE t p.1 p.2) (λi=>(i:Int)) () false (λi p hp=>by
   obtain ⟨h0,h1,h2,_,h3⟩:=one i p hp;unfold I4;rw [dn h0,h1];simp only [cond_true,KY',aV];rw [h2];simp only [KY'];rw [h3,bF i (by omega)]
   exact yV _ _) (by
   unfold I4;simp [hz])
  rw [hz] at l2;unfold pO;constructor
  ·trivial
  ·show JV f (Bv f) (Dx f) (jc f) (AJ f) l t ks=_;unfold JV;have NV:iter (I4 l t ks (jc f)) (l.length+1) 0=_:=l2;rw [e1,dw,NV,e2];cases (l.zip ks).all λp=>bE t p.1 p.2<;>rfl
 ·have e1:((l.length:Int) != (ks.length:Int))=true:=by simp; omega
  have e2:((l.length:Int)==(ks.length:Int))=false:=by simp; omega
  unfold pO;rw [e2];constructor
  ·trivial
  ·show JV f (Bv f) (Dx f) (jc f) (AJ f) l t ks=_;unfold JV;rw [e1]; rfl
theorem tN' {ks:List Int}(h:1<=ks.length):ks[ks.length-1]?=some (GK ks):=by
 unfold GK;rw [NW',Lb' (show ks.length-1<ks.length by omega)]
 rfl
theorem qR' {ks:List Int}(h:1<=ks.length)(h2:ks.length<=4194304):cut ks 0 (d9 ((ks.length:Int)-1))=some (ks.take (ks.length-1)):=by
 rw [show d9 ((ks.length:Int)-1)=((ks.length-1:Nat):Int) by rw [dZ (by omega) (by omega)]; omega]
 unfold cut;rw [if_pos (by omega)]
 simp
theorem DQ' (hR:RH t f0 b){v:Val}(hv:bD v<=b)(ho:ko v.aW=true)(hb:b<=4194304){x:aF}(hk:∀ k∈x.ai,bf t.aj.length k=true)(h1:1<=x.ai.length)(h4:x.ai.length<=4194304)(f:Nat)(hf:f0+3<=f) :
 True/\Bv f v t x=some (xY (bE t) v x):=by
 obtain ⟨f,rfl⟩:∃ m,f=m+1:=⟨f-1,by omega⟩
 have hbe:=tO v;have hle:=Dl v.aW;have hw:d9 ((x.ai.length:Int)-1)=((x.ai.length-1:Nat):Int):=by rw [dZ (by omega) (by omega)]; omega
 have ent:∀ e∈v.aW,(∀ y∈e.cu,bD y<b)/\bD e.Result<b/\wL e=true/\e.cu.length<=4194304:=λe he=>by
  have hm:=vI he;have h2:=rT e;have h3:=Ho e.cu;refine ⟨λy hy=>by have:=vC hy; omega,by omega,?_,by omega⟩
  rw [Ct] at ho;exact Le'.1 ho e he
 have l2:iter (RB v t x (AJ f) (jc f)) (v.aW.length+1) 0=some (if (v.aW.all λe=>BL (bE t) e x.ai)=true then .inl () else .inr false):=by
  refine lF v.aW (λe=>BL (bE t) e x.ai) (λi=>(i:Int)) () false ?_ ?_
  ·intro i e he;have hi:i<v.aW.length:=(La'.1 he).1;obtain ⟨a1,a2,a3,a4⟩:=ent e (Lj' he);have a3':=a3;rw [Kv] at a3';simp only [Lc'] at a3';have hall:=(jr' hR (ks:=x.ai.take (x.ai.length-1)) a1 a3'.1 (λk hkk=>hk k (List.mem_of_mem_take hkk)) a4 f (by omega)).2
   unfold RB;rw [dn hi,aR he];simp only [cond_true,KY',aV];rw [qR' h1 h4];simp only [KY'];rw [hall,bF i (by omega)]
   simp only [KY',jg];unfold BL;cases pO (bE t) e.cu (x.ai.take (x.ai.length-1))
   ·rfl
   cases hF:e.Fails
   ·have hl:=tN' h1;obtain ⟨j,hj,hj2⟩:=nE (hk _ (Lj' hl));have hv2:bP e.Result=true:=by have:=a3'.2; rw [hF] at this; simpa using this
    have:=(hR e.Result j f a2 hv2 hj2 (by omega)).2
    rw [<- hj] at this;simp only [Mc',NH',cond_false,cond_true,Bool.false_or,LQ'];rw [hw,aR hl];simp only [KY'];rw [this];simp only [KY'];cases bE t e.Result (GK x.ai)<;>rfl
   ·rfl
  ·unfold RB;simp
 unfold xY;have e0:(v.bn != ((x.ai.length-1:Nat):Int))=!(v.bn==((x.ai.length-1:Nat):Int)):=rfl;constructor
 ·trivial
 ·show Wo f (Bv f) (Dx f) (jc f) (AJ f) v t x=_;unfold Wo;simp only [aV];rw [hw,dw,l2,e0];cases (v.bn==((x.ai.length-1:Nat):Int))
  ·rfl
  cases v.aW.all λe=>BL (bE t) e x.ai<;>rfl
theorem qm' {x:aF}{N:Nat}(hf:∀ f∈x.aS,bf N f.iR=true)(h0:bf N x.Rest.1=true)(h1:bf N x.Rest.2=true)(k:Key):bf N (lG x k)=true:=by
 unfold lG;cases h:x.aS.find? λf=>fZ f.bq k with
 | some f=>exact hf f (Oc' h)
 | none =>simp only;unfold yH;split<;>assumption
theorem nG' (hR:RH t f0 b){v:Val}(hv:bD v<=b)(ho:gY v.ai=true)(hm:yO v=true)(hb:b<=4194304){x:aF}(hf:∀ f∈x.aS,bf t.aj.length f.iR=true)(h0:bf t.aj.length x.Rest.1=true)(h1:bf t.aj.length x.Rest.2=true)(h3:x.aS.length<=4194304)(f:Nat)(hff:f0+1<=f) :
 True/\Dx f v t x=some (wE (bE t) v x):=by
 obtain ⟨f,rfl⟩:∃ m,f=m+1:=⟨f-1,by omega⟩
 have hbe:=tO v;have hkl:=P6 v.aU;unfold yO at hm;simp only [Lc'] at hm;have hlen:v.aU.length=v.ai.length:=by simpa using hm.1
 have hz:(v.aU.zip v.ai).length=v.aU.length:=by rw [List.length_zip]; omega
 have a2:iter (QG v x) (x.aS.length+1) 0=some (if (x.aS.all λf=>f.o6||v.aU.any λy=>fZ y f.bq)=true then .inl () else .inr false):=by
  refine lF x.aS (λf=>f.o6||v.aU.any λy=>fZ y f.bq) (λi=>(i:Int)) () false ?_ ?_
  ·intro i g hx;have hi:i<x.aS.length:=(La'.1 hx).1;obtain ⟨r,e1,e2⟩:=xG' v g.bq (by omega)
   unfold QG;rw [dn hi,aR hx];simp only [cond_true,KY',aV];rw [e1,bF i (by omega)]
   simp only [KY'];rw [e2];cases g.o6<;>cases (v.aU.any λy=>fZ y g.bq)<;>rfl
  ·unfold QG;simp
 have one:∀ (i:Nat) (p:Key×Val),(v.aU.zip v.ai)[i]?=some p->i<v.aU.length/\ak v.aU (i:Int)=some p.1/\ak v.ai (i:Int)=some p.2/\fK p.1=true/\True/\jc f p.2 t (lG x p.1)=some (bE t p.2 (lG x p.1)):=λi p hp=>by
  obtain ⟨q1,q2⟩:=EQ hp;have m1:=Lj' q1;have m2:=Lj' q2;obtain ⟨j,hj,hj2⟩:=nE (qm' hf h0 h1 p.1);have hbm:=vC m2;have:=hR p.2 j f (by omega) (aA' ho m2) hj2 (by omega)
  rw [<- hj] at this;exact ⟨(La'.1 q1).1,aR q1,aR q2,Le'.1 hm.2.2 _ m1,this⟩
 have b2:=lF (step:=JN v t x (jc f)) (v.aU.zip v.ai) (λp=>bE t p.2 (lG x p.1)) (λi=>(i:Int)) () false (λi p hp=>by
  obtain ⟨h0,h1,h2,h3',_,h4⟩:=one i p hp;unfold JN;rw [dn h0,h1];simp only [cond_true,KY',aV];have hrest:(bif p.1.af==0 then some x.Rest.1 else (bif p.1.af==1 then some x.Rest.2 else none))=some (yH x p.1):=by
   unfold yH;rcases Vt h3' with h | h
   ·simp [h]
   ·simp [h]
  rw [hrest];have hto:∀ {β:Type} (g:Int->Option β),((Fe x p.1).bind λiA=>(some (yH x p.1)).bind λb13=>(bif 0<=iA then ((ak x.aS iA).bind λe14=>some e14.iR) else (some b13)).bind g)=g (lG x p.1):=by
   intro β g;rcases mw' x p.1 h3 with ⟨i',fl,e1,e2,e3⟩ | ⟨e1,e3⟩
   ·rw [e1];simp only [KY',Cr,cond_true];rw [aR e2];simp only [KY',e3]
   ·rw [e1];simp only [KY',zE',cond_false,e3]
  rw [hto,h2];simp only [KY'];rw [h4,bF i (by omega)]
  exact yV _ _) (by
  unfold JN;simp [hz])
 rw [hz] at b2;unfold wE;constructor
 ·trivial
 ·show V7 f (Bv f) (Dx f) (jc f) (AJ f) v t x=_;unfold V7;have b2':iter (JN v t x (jc f)) (v.aU.length+1) 0=_:=b2;rw [dw,a2,dw,b2'];cases (x.aS.all λf=>f.o6||v.aU.any λy=>fZ y f.bq)
  ·rfl
  cases (v.aU.zip v.ai).all λp=>bE t p.2 (lG x p.1)<;>rfl
end
structure GM (t:ay):Prop where
 len:t.aj.length<=20
 nodes:zU t.aj.length t.aj
theorem GT.gm {t:ay}(h:GT t):GM t:=⟨by have:=h.len; omega,h.nodes⟩
instance (t:ay):Coe (GT t) (GM t):=⟨GT.gm⟩
section
variable {t:ay}
theorem GM.ord (hT:GM t){k:Nat}{x:aF}(hx:t.aj[k]?=some x)(hb:iC x=true){j:Int}(hj:j∈x.ai):∃ j':Nat,j=(j':Int)/\k<j'/\j'<t.aj.length:=by have hg:=hT.nodes k x hx;obtain ⟨j',e,h1⟩:=nE (yu hg.ok j hj);have:=hg.ord hb j hj;exact ⟨j',e,by omega,h1⟩
theorem Ad {N:Nat}{x:aF}(h:fC N x=true):jd N x=true:=by unfold fC at h;simp only [Lc'] at h;exact h.2.2.2.2
theorem Dk' {N:Nat}{x:aF}(h:fC N x=true):x.af=1\/x.af=2\/x.af=3\/x.af=4\/x.af=5\/x.af=6\/x.af=7\/x.af=8\/x.af=9\/x.af=10\/x.af=11\/x.af=12\/x.af=13\/x.af=14\/x.af=15\/x.af=16\/x.af=17\/x.af=18\/x.af=19:=by
 rcases Gr x.af with hk | hk
 ·exact hk
 ·have e:∀ n:Int,1<=n->n<=19->¬ x.af=n:=λn h1 h2=>by simpa using hk n h1 h2
  have hn:=Ad h;unfold jd at hn;rw [if_neg (e 3 (by omega) (by omega)),if_neg (e 4 (by omega) (by omega)),if_neg (e 6 (by omega) (by omega)),if_neg (e 19 (by omega) (by omega)),if_neg (by have:=e 1 (by omega) (by omega); have:=e 2 (by omega) (by omega); have:=e 5 (by omega) (by omega); have:=e 7 (by omega) (by omega); have:=e 8 (by omega) (by omega); have:=e 9 (by omega) (by omega); have:=e 11 (by omega) (by omega); have:=e 15 (by omega) (by omega); omega),
   if_neg (e 10 (by omega) (by omega)),if_neg (e 12 (by omega) (by omega)),if_neg (e 14 (by omega) (by omega)),if_neg (by have:=e 16 (by omega) (by omega); have:=e 17 (by omega) (by omega); omega),if_neg (e 18 (by omega) (by omega)),if_neg (e 13 (by omega) (by omega))] at hn
  cases hn
theorem An' {N:Nat}{x:aF}(h:fC N x=true)(hk:x.af=14):1<=x.ai.length/\x.ai.length<=5:=by have hn:=Ad h;unfold jd at hn;simp [hk] at hn;omega
theorem tP' {N:Nat}{x:aF}(h:fC N x=true)(hk:x.af=18):x.ai.length=1:=by have hn:=Ad h;unfold jd at hn;simp [hk] at hn;omega
theorem Dm' {N:Nat}{x:aF}(h:fC N x=true)(hk:x.af=13):(∀ f∈x.aS,bf N f.iR=true)/\bf N x.Rest.1=true/\bf N x.Rest.2=true:=by have hn:=Ad h;unfold jd sZ at hn;simp [hk] at hn;exact ⟨hn.1.2.2,hn.2.2.1,hn.2.2.2⟩
theorem gU' {v:Val}(h:bP v=true)(hk:v.af=8):yO v=true:=by rw [Hq] at h;simp only [Lc'] at h;have:=h.1;unfold l9 oK at this;simp only [Lc'] at this;have h2:=this.2.2;simp [hk] at h2;exact h2
theorem zh' {v:Val}(h:bP v=true):gY v.ai=true/\ko v.aW=true:=by rw [Hq] at h;simp only [Lc'] at h;exact h.2
theorem Qp {α:Type}(p:α->Bool)(l:List α):(!(l.any λx=>!p x))=l.all p:=by rw [LZ'];simp
theorem mD' (hT:GM t){v:Val}{k:Nat}{x:aF}(hx:t.aj[k]?=some x)(ho:bP v=true)(hb:bD v<=4194304){f0:Nat}(hR:RH t f0 (bD v))
 (hB:iC x=true->∀ j∈x.ai,∀ f,f0<=f->True/\jc f v t j=some (bE t v j)) (f:Nat) (hf:f0+4<=f) :
 True/\jc f v t (k:Int)=some (pF (bE t) v x):=by
 obtain ⟨f,rfl⟩:∃ m,f=m+1:=⟨f-1,by omega⟩
 have hg:=hT.nodes k x hx;have hn:=hg.ok;have hk4:=hg.kids;have hf3:=hg.uq;have hkr:=yu hn;obtain ⟨ho1,ho2⟩:=zh' ho;have hbe:=tO v;have hkl:=Ho v.ai;have hll:=Km v.bX;have hall:=jr' hR (l:=v.ai) (ks:=x.ai) (λy hy=>by have:=vC hy; omega) ho1 hkr (by omega) f (by omega)
 have Jy':((iter (L6 v x) (v.bX.length+1) 0).bind λM0=>aL (λ_=>some false) (λy32=>some y32) M0)=some (v.bX.any λy=>bU y x.Text):=by
  rcases qJ (step:=L6 v x) v.bX (λy=>bU y x.Text) (λ_ _=>true) (λi y hy=>by
   have hi:i<v.bX.length:=(La'.1 hy).1;unfold L6;rw [dn hi,aR hy];simp only [cond_true,KY',aV];rw [bF i (by omega)]
   cases bU y x.Text<;>rfl) (by
   unfold L6;simp) with ⟨i,y,hy,hp,_,e⟩ | ⟨h,e⟩
  ·rw [e,vE hy hp]; rfl
  ·rw [e,h]; rfl
 have lW':iC x=true->True/\True /\
  ((iter (LG v t x (jc f)) (x.ai.length+1) 0).bind λb17=>aL (λ_=>some false) (λBl=>some Bl) b17)=some (x.ai.any (bE t v)) /\
  ((iter (HY v t x (jc f)) (x.ai.length+1) 0).bind λvT=>aL (λ_=>some true) (λy25=>some y25) vT)=some (x.ai.all (bE t v)):=λhb=>by
  have hB:=hB hb;obtain ⟨f,rfl⟩:∃ m,f=m+1:=⟨f-1,by omega⟩
  refine ⟨trivial,trivial,?_,?_⟩
  ·rcases qJ (step:=LG v t x (jc (f+1))) x.ai (bE t v) (λ_ _=>true) (λi y hy=>by
    have hi:i<x.ai.length:=(La'.1 hy).1;unfold LG;rw [dn hi,aR hy];simp only [cond_true,KY',aV];rw [(hB y (Lj' hy) (f+1) (by omega)).2,bF i (by omega)]
    simp only [KY'];cases bE t v y<;>rfl) (by
    unfold LG;simp) with ⟨i,y,hy,hp,_,e⟩ | ⟨h,e⟩
   ·rw [e,vE hy hp]; rfl
   ·rw [e,h]; rfl
  ·have l2:=lF (step:=HY v t x (jc (f+1))) x.ai (bE t v) (λi=>(i:Int)) () false (λi y hy=>by
    have hi:i<x.ai.length:=(La'.1 hy).1;unfold HY;rw [dn hi,aR hy];simp only [cond_true,KY',aV];rw [(hB y (Lj' hy) (f+1) (by omega)).2,bF i (by omega)]
    exact yV _ _) (by
    unfold HY;simp)
   have NV:iter (HY v t x (jc (f+1))) (x.ai.length+1) 0=_:=l2;rw [NV];cases x.ai.all (bE t v)<;>rfl
 have hidx:=aR hx;constructor
 ·trivial
 ·show Xb f (Bv f) (Dx f) (jc f) (AJ f) v t (k:Int)=_;unfold Xb;rw [hidx];simp only [KY',dw];rcases Dk' hn with hK | hK | hK | hK | hK | hK | hK | hK | hK | hK | hK | hK | hK | hK | hK | hK | hK | hK | hK<;>unfold pF<;>simp only [hK,MD',Int.reduceEq,if_true,if_false,cond_true,cond_false,KY']
  ·cases v.af==1<;>cases decide (x.Lo<=v.bn)<;>rfl
  ·cases v.af==2<;>rfl
  ·cases v.af==3<;>rfl
  ·rw [hall.2];cases v.af==6<;>rfl
  ·rw [hall.2];cases v.af==7<;>rfl
  ·cases hv:v.af==8
   ·rfl
   ·obtain ⟨q1,q2,q3⟩:=Dm' hn hK;rw [(nG' hR (Lg' _) ho1 (gU' ho (by simpa using hv)) hb q1 q2 q3 (by omega) f (by omega)).2]
    rfl
  ·obtain ⟨q1,q2⟩:=An' hn hK;rw [(DQ' hR (Lg' _) ho2 hb hkr q1 (by omega) f (by omega)).2]
   cases v.af==9<;>rfl
  ·exact (lW' (by unfold iC; rw [hK]; rfl)).2.2.1
  ·exact (lW' (by unfold iC; rw [hK]; rfl)).2.2.2
  ·have h1:=tP' hn hK;have ek:=Lb' (show 0<x.ai.length by omega)
   have e0:ak x.ai 0=some x.ai[0]:=aR ek;rw [e0];simp only [KY'];rw [(hB (by unfold iC; rw [hK]; rfl) _ (Lj' ek) f (by omega)).2,NW',ek]
   rfl
  ·exact Jy'
theorem iy' (hT:GM t):∀ (m:Nat) (v:Val) (k:Nat) (x:aF),MS v k<=m->bP v=true->bD v<=4194304->t.aj[k]?=some x ->
 (∀ f,4*MS v k+4<=f->True/\jc f v t (k:Int)=some (bE t v (k:Int)))/\bE t v (k:Int)=pF (bE t) v x:=by
 intro m
 induction m with
 | zero=>intro v k x h; have:=LD v; unfold MS at h; omega
 | succ m ih =>
   intro v k x hm ho hb hx;have hkN:k<t.aj.length:=(La'.1 hx).1;have hN:=hT.len;have hR:RH t (4*MS v k) (bD v):=λw j f hw hwo hj hf=>by
    have ej:=Lb' hj;have hlt:MS w j+1<=MS v k:=by unfold MS; omega
    exact (ih w j _ (by omega) hwo (by omega) ej).1 f (by omega)
   have hst:=mD' hT hx ho hb hR (λhbx j hj f hf=>by
    obtain ⟨j',rfl,h1,h2⟩:=hT.ord hx hbx hj;have ej:=Lb' h2;have hlt:MS v j'+1<=MS v k:=by unfold MS; omega
    exact (ih v j' _ (by omega) ho hb ej).1 f (by omega))
   have hmem:bE t v (k:Int)=pF (bE t) v x:=by
    have ZR:4*MS v k+4<=FU (bD v):=by unfold FU MS; omega
    have:=(hst (FU (bD v)) ZR).2;unfold bE at *;rw [this];rfl
   refine ⟨λf hf=>?_,hmem⟩;rw [hmem];exact hst f hf
theorem nP' (hT:GM t){v:Val}{k:Nat}(ho:bP v=true)(hb:bD v<=4194304)(hk:k<t.aj.length)(f:Nat)(hf:FU (bD v)<=f):jc f v t (k:Int)=some (bE t v (k:Int)) :=
 ((iy' hT (MS v k) v k _ (Lg' _) ho hb (Lb' hk)).1 f (by unfold FU at hf; unfold MS; omega)).2
theorem PS (hT:GM t){v:Val}{k:Nat}{x:aF}(hx:t.aj[k]?=some x)(ho:bP v=true)(hb:bD v<=4194304):bE t v (k:Int)=pF (bE t) v x :=
 (iy' hT (MS v k) v k x (Lg' _) ho hb hx).2
end
section
variable {t:ay}
theorem GM.all (hT:GM t):mM t.aj=true:=Le'.2 λx hx=>by
 obtain ⟨i,hi,rfl⟩:=LW' hx;exact (hT.nodes i _ (Lb' hi)).ok
theorem GM.TW (hT:GM t):Em t.aj:=λi x hx hb k hk=>(hT.nodes i x hx).ord hb k hk
theorem GM.small (hT:GM t):∀ x∈t.aj,x.ai.length<=1100000/\x.aS.length<=1100000:=λx hx=>by
 obtain ⟨i,hi,rfl⟩:=LW' hx;have hg:=hT.nodes i _ (Lb' hi);have h1:=hg.kids;have h2:=hg.uq;omega
theorem wf0 (hT:GM t)(hr:bf t.aj.length t.dh=true)(f:Nat)(hf:1100001<=f):wZ f t=some 0:=by
 have hN:=hT.len;rw [sG' t hT.TW hT.small (by omega) f (by omega),hT.all,hr]
 rfl
theorem rn' (hT:GM t)(hr:bf t.aj.length t.dh=true)(f:Nat)(hf:1100001<=f):EY f t=some 0:=by
 have hN:=hT.len;rw [rL' t hT.TW hT.small (by omega) f hf,hT.all,hr]
 rfl
theorem GT.ord (hT:GT t){k:Nat}{x:aF}(hx:t.aj[k]?=some x)(hb:iC x=true){j:Int}(hj:j∈x.ai):∃ j':Nat,j=(j':Int)/\k<j'/\j'<t.aj.length:=hT.gm.ord hx hb hj
theorem GT.all (hT:GT t):mM t.aj=true:=hT.gm.all
theorem GT.TW (hT:GT t):Em t.aj:=hT.gm.TW
theorem GT.small (hT:GT t):∀ x∈t.aj,x.ai.length<=1100000/\x.aS.length<=1100000:=hT.gm.small
end
theorem Li:xN cI:=⟨λx y=>by
 rcases je x y with ⟨_,h⟩ | ⟨_,h⟩ | ⟨_,h⟩<;>rcases je y x with ⟨_,k⟩ | ⟨_,k⟩ | ⟨_,k⟩<;>rw [h,k]<;>omega,
 λx y z h1 h2=>by rcases je x y with ⟨_,h⟩ | ⟨_,h⟩ | ⟨_,h⟩<;>rcases je y z with ⟨_,k⟩ | ⟨_,k⟩ | ⟨_,k⟩<;>rcases je x z with ⟨_,l⟩ | ⟨_,l⟩ | ⟨_,l⟩<;>rw [h] at h1<;>rw [k] at h2<;>rw [l]<;>omega,
 λ_ _ h=>cI0 h⟩
abbrev Dq (x y:Int):Bool:=decide (cI x y=0)
theorem Pv (x y:Int):(x==y)=decide (cI x y=0):=by
 rcases je x y with ⟨h,k⟩ | ⟨h,k⟩ | ⟨h,k⟩
 ·rw [k]; simp; omega
 ·rw [k]; simp; omega
 ·rw [k]; simp [h]
theorem az' (x y:Int):decide (x<y)=decide (cI x y<0):=by
 rcases je x y with ⟨h,k⟩ | ⟨h,k⟩ | ⟨h,k⟩
 ·rw [k]; simp [h]
 ·rw [k]; simp; omega
 ·rw [k]; simp [h]
theorem zp' (s0:List Int)(i0 n:Nat)(hn:n<=4194304)(i k:Nat)(s:List Int)(x y:Int)(hl:s.length=n)(hk:i0+k<n)(h1:1<=k)(hi:i<i0+k)(hx:s[i0+k]?=some x)(hy:s[i0+k-1]?=some y) :
 GU (s0,(i0:Int)) (((i:Int),(k:Int)),s)=some (.next (if Dq x y=true then (((i:Int),((k+1:Nat):Int)),s) else ((((i+1:Nat):Int),((k+1:Nat):Int)),s.set i x))):=by
 unfold GU;simp only [eZ,aV,Ln'];have hdl:(s.drop i0).length=n-i0:=by rw [LK',hl]
 rw [if_pos (decide_eq_true (by show (k:Int)<(((s.drop i0).length:Nat):Int); rw [hdl]; omega)),bF i (by omega),bF k (by omega),yP k (by omega) h1]
 simp only [Ln'];have a1:ak (s.drop i0) (k:Int)=some x:=aR (by rw [Mh']; exact hx)
 have a2:ak (s.drop i0) ((k-1:Nat):Int)=some y:=aR (by rw [Mh',show i0+(k-1)=i0+k-1 by omega]; exact hy)
 have a3:ak s (i:Int)=some (s[i]'(by omega)):=aR (Lb' (by omega))
 rw [a1,a2,a3,hx,show i0+(k-1)=i0+k-1 by omega,hy,Lb' (show i<s.length by omega)]
 simp only [KY',bne];rw [Pv];by_cases h:cI x y=0<;>simp [Dq,h]
theorem wG' (l:List Int)(hl:l.length<=4194304):R9 l=some (mh Dq l):=by
 unfold R9;by_cases h2:(l.length:Int)<2
 ·have e:decide ((l.length:Int)<2)=true:=by simpa using h2
  rw [e]
  match l,h2 with
  | [],_=>rfl
  | [_],_=>rfl
  | _::_::_,h=>exact absurd h (by simp; omega)
 ·have e:decide ((l.length:Int)<2)=false:=by simpa using h2
  rw [e,dw];simp only [cond_false];have key:=WU (r:=Dq) (step:=JI) l (by omega) ?_ ?_ ?_
  ·rcases key with ⟨h,hc⟩ | ⟨q,h⟩
   ·rw [h,hc]; rfl
   ·rw [h]; rfl
  ·intro i x y hi hx hy hr;have hlt:i<l.length:=(La'.1 hx).1;unfold JI;simp only [eZ,aV,Ln'];rw [if_pos (by simp; omega),yP i (by omega) hi,aR hx,aR hy]
   simp only [Ln',hx,hy,KY'];rw [Pv];have hr':decide (cI x y=0)=false:=hr;rw [hr',bF i (by omega)]
   rfl
  ·intro i x y hi hx hy hr;have hlt:i<l.length:=(La'.1 hx).1;unfold JI;simp only [eZ,aV,Ln'];rw [if_pos (by simp; omega),yP i (by omega) hi,aR hx,aR hy]
   simp only [Ln',hx,hy,KY'];rw [Pv];have hr':decide (cI x y=0)=true:=hr;rw [hr',if_pos rfl];obtain ⟨s',e1,e2,e3⟩:=Xq (r:=Dq) (step:=GU (l,(i:Int))) i l.length (λi' k s x y a1 a2 a3 a4 a5 a6=>zp' l i l.length hl i' k s x y a1 a2 a3 a4 a5 a6)
    (λi' k s a1 a2=>by
      unfold GU;simp only [Ln'];have:decide ((k:Int)<(((s.drop i).length:Nat):Int))=false:=by rw [LK']; simp; omega
      rw [this];rfl) (l.length-(i+1)) i 1 l x ((l.drop i).length+1) rfl (by omega) (Lg' _) (by omega) (by simpa using hx) (by rw [LK']; omega)
   have zB:iter (GU (l,(i:Int))) ((l.drop i).length+1) (((i:Int),1),l)=_:=e1;rw [zB];simp only [KY',<- eZ];have hd:=II (r:=Dq) (l.drop (i+1)) x;rw [LK'] at hd;exact YQ (0:Int) _ l.length s' _ e2 (by omega) e3
  ·unfold JI;simp
theorem qv' (l:List Int):(l.mergeSort λx y=>decide (x<=y)).Pairwise λa b=>¬ cI b a<0:=by
 refine (List.pairwise_mergeSort (le:=λx y:Int=>decide (x<=y)) (λa b c h1 h2=>?_) (λa b=>?_) l).imp λ{a b} h=>?_
 ·simp only [decide_eq_true_eq] at *;omega
 ·simp only [LU',decide_eq_true_eq];omega
 ·simp only [decide_eq_true_eq] at h;rcases je b a with ⟨_,k⟩ | ⟨_,k⟩ | ⟨_,k⟩<;>rw [k]<;>omega
def fJ (l:List Int):List Int:=l.foldl (iD cI) []
theorem PI (l:List Int)(hl:l.length<=4194304):BN l=some (fJ l):=by
 unfold BN iY;rw [dX (by omega)]
 simp only [KY'];unfold WT LA;have e:decide (l.length<4611686018427387904)=true:=by simp; omega
 rw [e];simp only [cond_true,KY'];have hp:=List.mergeSort_perm l λx y:Int=>decide (x<=y);rw [wG' _ (by rw [hp.length_eq]; exact hl)]
 simp only [KY'];unfold XT;have:=dU' Li hp (qv' l);rw [show mh (λx y=>decide (cI x y=0))=mh Dq from rfl] at this
 rw [this];simp [fJ]
theorem aj' (l:List Int):bC cI (fJ l)=true:=(Ke (c:=cI) Li l).1
theorem JA (l:List Int)(y:Int):y∈fJ l↔y∈l:=(Ke (c:=cI) Li l).2 y
theorem QI (l:List Int):fJ (fJ l)=fJ l:=pX' Li (aj' l)
theorem FD (l:List Int):(fJ l).length<=l.length:=by
 have key:∀ (l out:List Int),(l.foldl (iD cI) out).length<=out.length+l.length:=by
  intro l
  induction l with
  | nil=>intro out; simp
  | cons x r ih =>intro out;have h1:=ih (iD cI out x);have h2:=Pq cI out x;simp only [Mu',Ld'];omega
 have:=key l [];simpa [fJ] using this
theorem DT' (out:List Int)(x:Int)(hl:out.length<=4194304):QM out x=some (iD cI out x):=by
 unfold QM;simp only [dw];have p:=RQ (step:=JC out x) out (λy=>decide (cI y x<0)) ?_ ?_
 ·have p':iter (JC out x) (out.length+1) 0=_:=p;rw [p'];simp only [KY'];have hk:=BS (λy=>decide (cI y x<0)) out;have hat:=Ll (λy=>decide (cI y x<0)) out;have go:((cut out 0 ((out.takeWhile (λy=>decide (cI y x<0))).length:Int)).bind λu=>(aT (0+u.length) 8).bind λ_ =>
   (aT (u.length+[x].length) 8).bind λ_=>(cut out ((out.takeWhile (λy=>decide (cI y x<0))).length:Int) (out.length:Int)).bind λw =>
   (aT ((u++[x]).length+w.length) 8).bind λ_=>some ((u++[x])++w))=some (gL (λy=>decide (cI y x<0)) x out) :=
   Va out x _ 8 (by omega) hl (λl=>some l)
  rw [go];unfold iD;cases hh:(out.dropWhile (λy=>decide (cI y x<0))).head? with
  | none =>
    rw [hh] at hat;have hge:=MS'.1 hat;have:decide (((out.takeWhile (λy=>decide (cI y x<0))).length:Int)<(out.length:Int))=false:=by simp; omega
    rw [this];rfl
  | some y =>
    rw [hh] at hat;have hlt2:=(La'.1 hat).1;have:decide (((out.takeWhile (λy=>decide (cI y x<0))).length:Int)<(out.length:Int))=true:=by simp; omega
    rw [this,aR hat];simp only [cond_true,KY',Pv];by_cases h0:cI y x=0<;>simp [h0]
 ·intro j y hy;have hj:j<out.length:=(La'.1 hy).1;unfold JC;simp only [aV];rw [show decide ((j:Int)<(out.length:Int))=true from by simp; omega,aR hy]
  simp only [cond_true,KY',bF j (by omega)]
  rw [az' y x];by_cases h:cI y x<0<;>simp [h]
 ·unfold JC;simp
theorem iI' (l:List Int)(hl:l.length<=4194304):Kb l=some (fJ l):=by
 unfold Kb;have key:=nK (σ:=List Int) (step:=Ig l) l (λs i=>(s,(i:Int))) (iD cI) (λi s=>s.length<=i) (λs=>s)
  ?_ ?_ [] (by simp) _ (Lg' _)
 ·have e:iter (Ig l) (l.length+1) (([]:List Int),0)=iter (Ig l) (l.length+1) (([]:List Int),((0:Nat):Int)):=rfl;rw [dw,e,key];rfl
 ·intro i s x hx hI;have hi:i<l.length:=(La'.1 hx).1;refine ⟨?_,?_⟩
  ·unfold Ig;simp only [aV];rw [show decide ((i:Int)<(l.length:Int))=true from by simp; omega,aR hx]
   simp only [cond_true,KY'];rw [DT' s x (by omega),bF i (by omega)]
   rfl
  ·have:=Pq cI s x;omega
 ·intro s _;unfold Ig;simp
abbrev g0 (p q:List Int):ax:=ax.mk p q false
theorem YU {α:Type}{step:Int->Option (Fl Int (Sum Unit Bool))}(xs:List α)(p:α->Bool)(b:Bool)(hst:∀ (i:Nat) (x:α),xs[i]?=some x->step (i:Int)=some (if p x=true then Fl.next ((i+1:Nat):Int) else Fl.done (.inr b)))
 (hend:step (xs.length:Int)=some (.done (.inl ()))):iter step (xs.length+1) 0=some (if xs.all p=true then .inl () else .inr b) :=
 lF (step:=step) xs p (λi=>(i:Int)) () b hst hend
theorem Uw (p q:List Int)(b:Bool)(h1:p.length<=4194304)(h2:q.length<=4194304):jf (ax.mk p q b)=some (ax.mk (fJ p) (fJ q) b):=by unfold jf;rw [PI p h1,PI q h2];rfl
theorem DU' (p q:List Int)(b:Bool)(h1:p.length<=4194304)(h2:q.length<=4194304):Pt (ax.mk p q b)=some (ax.mk (fJ p) (fJ q) b):=by unfold Pt;rw [iI' p h1,iI' q h2];rfl
theorem jc' (l:List Int)(x:Int)(hl:l.length<=4194304):IJ l x=some (l.any λy=>x==y):=by
 unfold IJ Wi;rw [dw];rcases qJ (step:=PX l x) l (λy=>x==y) (λi _=>(i:Int)) (λi y hy=>by
  have hi:i<l.length:=(La'.1 hy).1;unfold PX;rw [dn hi,aR hy];simp only [cond_true,KY',aV];rw [bF i (by omega)]
  cases x==y<;>rfl) (by
  unfold PX;simp) with ⟨i,y,hy,hp,_,e⟩ | ⟨h,e⟩
 ·rw [e,vE hy hp];simp only [KY',aL,Cr]
 ·rw [e,h];rfl
def Gu (p q:List Int):Bool:=p.any λx=>q.any λy=>x==y
theorem rg' (p q:List Int)(h1:p.length<=4194304)(h2:q.length<=4194304):Ce p q=some (Gu p q):=by
 unfold Ce;rw [Uh p _ (λx=>q.any λy=>x==y) h1 λx _=>by unfold Wn;simp only [jg];exact jc' q x h2]
 rfl
section
variable {T:ay}
def mr (N:Nat)(g:ax):Bool:=g.Pos.all (bf N)&&g.Neg.all (bf N)
def gM (T:ay)(v:Val)(g:ax):Bool:=g.Pos.all (bE T v)&&g.Neg.all λk=>!bE T v k
theorem Ux (g:ax)(h1:g.Pos.length<=1000000)(h2:g.Neg.length<=1000000):yM T g=some (mr T.aj.length g):=by
 unfold yM iY;rw [dX (by omega)]
 simp only [KY'];rw [dX (by omega)]
 simp only [KY',dw];have l1:=lF (step:=Ji T g g.Pos) (g.Pos++g.Neg) (bf T.aj.length) (λi=>(i:Int)) () false (λi k hk=>by
  have hi:i<(g.Pos++g.Neg).length:=(La'.1 hk).1;have hi':=hi;rw [Lf'] at hi';unfold Ji;simp only [aV];rw [dn hi,aR hk];simp only [cond_true,KY'];rw [bF i (by omega)]
  unfold bf;by_cases a1:k<0
  ·have b1:decide (k<0)=true:=by simpa using a1
   have b2:decide (0<=k)=false:=by simp; omega
   rw [b1,b2]; rfl
  ·have b1:decide (k<0)=false:=by simpa using a1
   have b2:decide (0<=k)=true:=by simp; omega
   rw [b1,b2];by_cases a2:k<(T.aj.length:Int)
   ·have b3:decide ((T.aj.length:Int)<=k)=false:=by simp; omega
    have b4:decide (k<(T.aj.length:Int))=true:=by simpa using a2
    rw [b3,b4]; rfl
   ·have b3:decide ((T.aj.length:Int)<=k)=true:=by simp; omega
    have b4:decide (k<(T.aj.length:Int))=false:=by simpa using a2
    rw [b3,b4]; rfl) (by
  unfold Ji;simp)
 have NW:iter (Ji T g g.Pos) ((g.Pos++g.Neg).length+1) 0=_:=l1;rw [NW,Lv'];unfold mr;cases g.Pos.all (bf T.aj.length)&&g.Neg.all (bf T.aj.length)<;>rfl
theorem nU' (g:ax)(h1:g.Pos.length<=1000000)(h2:g.Neg.length<=1000000):QR T g=some (mr T.aj.length g):=by
 unfold QR;rw [dX (by omega),dX (by omega)]
 simp only [KY',dw];have l1:=lF (step:=Kr T g) (g.Pos++g.Neg) (bf T.aj.length) (λi=>(i:Int)) () false (λi k hk=>by
  have hi:i<(g.Pos++g.Neg).length:=(La'.1 hk).1;have hi':=hi;rw [Lf'] at hi';unfold Kr;simp only [aV];rw [dn hi,aR hk];simp only [cond_true,KY'];rw [KX,bF i (by omega)]
  exact yV _ _) (by
  unfold Kr;simp)
 have NW:iter (Kr T g) ((g.Pos++g.Neg).length+1) 0=_:=l1;rw [NW,Lv'];unfold mr;cases g.Pos.all (bf T.aj.length)&&g.Neg.all (bf T.aj.length)<;>rfl
theorem bF' (hT:GT T){v:Val}(ho:bP v=true)(hb:bD v<=2097152)(f:Nat)(hf:200000000<=f){k:Int}(hk:bf T.aj.length k=true):jc f v T k=some (bE T v k):=by
 obtain ⟨j,rfl⟩:∃ j:Nat,k=(j:Int):=⟨k.toNat,by unfold bf at hk; simp at hk; omega⟩
 have hj:j<T.aj.length:=by unfold bf at hk; simp at hk; omega
 have ZR:FU (bD v)<=f:=by unfold FU; omega
 exact nP' hT.gm ho (by omega) hj f ZR
end
abbrev PZ:Type:=List Int×List Int×List Int×List Int
def aC (T:ay)(i:Int):aF:=T.aj.getD i.toNat (aF.mk 0 0 0 ⟨#[]⟩ [] [] (0,0))
def EH (T:ay)(i:Int)(l n fp fn:List Int):List PZ :=
 if (aC T i).af=2 then [(l,n,fp,fn)] else if (aC T i).af=1 then [] else if (aC T i).af=17 then [(l++(aC T i).ai,n,fp,fn)] else
 if (aC T i).af=18 then [(l,n++[(aC T i).ai.getD 0 0],fp,fn)] else if (aC T i).af=16 then (aC T i).ai.map λk=>(l++[k],n,fp,fn) else [(l,n,fp++[i],fn)]
def Hf (T:ay)(i:Int)(l fp fn:List Int):List PZ :=
 if (aC T i).af=1 then [([],l,fp,fn)] else if (aC T i).af=2 then [] else if (aC T i).af=16 then [([],l++(aC T i).ai,fp,fn)] else
 if (aC T i).af=18 then [([(aC T i).ai.getD 0 0],l,fp,fn)] else if (aC T i).af=17 then (aC T i).ai.map λk=>([],l++[k],fp,fn) else [([],l,fp,fn++[i])]
def yg (T:ay)(p:PZ):List PZ :=
 match p.1.getLast? with
 | some i=>EH T i p.1.dropLast p.2.1 p.2.2.1 p.2.2.2
 | none=>match p.2.1.getLast? with
   | some i=>Hf T i p.2.1.dropLast p.2.2.1 p.2.2.2
   | none=>[]
structure IB (T:ay)(μ:Int->Bool):Prop where
 h1:∀ i,bf T.aj.length i=true->(aC T i).af=1->μ i=false
 h2:∀ i,bf T.aj.length i=true->(aC T i).af=2->μ i=true
 h16:∀ i,bf T.aj.length i=true->(aC T i).af=16->μ i=(aC T i).ai.any μ
 Bo:∀ i,bf T.aj.length i=true->(aC T i).af=17->μ i=(aC T i).ai.all μ
 h18:∀ i,bf T.aj.length i=true->(aC T i).af=18->μ i=!μ ((aC T i).ai.getD 0 0)
def hZ (μ:Int->Bool)(p:PZ):Bool:=p.1.all μ&&(p.2.1.all (λk=>!μ k)&&(p.2.2.1.all μ&&p.2.2.2.all λk=>!μ k))
def fM (T:ay)(k:Int):Bool:=bf T.aj.length k&&!((aC T k).af==1||(aC T k).af==2||(aC T k).af==16||(aC T k).af==17||(aC T k).af==18)
structure sU (T:ay)(p:PZ):Prop where
 pos:p.1.all (bf T.aj.length)=true
 neg:p.2.1.all (bf T.aj.length)=true
 fp:p.2.2.1.all (fM T)=true
 fn:p.2.2.2.all (fM T)=true
theorem su {T:ay}{i:Int}(h:bf T.aj.length i=true):∃ j:Nat,i=(j:Int)/\j<T.aj.length/\T.aj[j]?=some (aC T i)/\ak T.aj i=some (aC T i):=by
 obtain ⟨j,rfl,hj⟩:=nE h;have e:T.aj[j]?=some (aC T (j:Int)):=by unfold aC;rw [NW',Ln',Lb' hj];rfl
 exact ⟨j,rfl,hj,e,aR e⟩
section
variable {T:ay}{μ:Int->Bool}
theorem qq' (hμ:IB T μ){i:Int}(hi:bf T.aj.length i=true)(l n fp fn:List Int):(EH T i l n fp fn).any (hZ μ)=hZ μ (l++[i],n,fp,fn):=by
 unfold EH;by_cases k2:(aC T i).af=2
 ·rw [if_pos k2]; simp [hZ,hμ.h2 i hi k2]
 rw [if_neg k2];by_cases k1:(aC T i).af=1
 ·rw [if_pos k1]; simp [hZ,hμ.h1 i hi k1]
 rw [if_neg k1];by_cases k17:(aC T i).af=17
 ·rw [if_pos k17]; simp [hZ,hμ.Bo i hi k17]
 rw [if_neg k17];by_cases k18:(aC T i).af=18
 ·rw [if_pos k18]; simp only [hZ,MA',Nf',MP',Lv',LE',Mf',Ma',hμ.h18 i hi k18];cases l.all μ<;>cases (n.all λk=>!μ k)<;>cases μ ((aC T i).ai.getD 0 0)<;>rfl
 rw [if_neg k18];by_cases k16:(aC T i).af=16
 ·rw [if_pos k16,List.any_map]; simp only [Function.comp_def,hZ,Lv',LE',Mf',Ma',hμ.h16 i hi k16];generalize (aC T i).ai=ks;generalize l.all μ=a;generalize ((n.all λk=>!μ k)&&(fp.all μ&&fn.all λk=>!μ k))=b
  induction ks with
  | nil=>simp
  | cons x r ih =>rw [MA',ih];simp only [MA'];cases a<;>cases b<;>cases μ x<;>simp
 rw [if_neg k16];simp only [hZ,MA',Nf',MP',Lv',LE',Mf',Ma'];cases l.all μ<;>cases μ i<;>cases (n.all λk=>!μ k)<;>simp
theorem sv' (hμ:IB T μ){i:Int}(hi:bf T.aj.length i=true)(l fp fn:List Int):(Hf T i l fp fn).any (hZ μ)=hZ μ ([],l++[i],fp,fn):=by
 unfold Hf;by_cases k1:(aC T i).af=1
 ·rw [if_pos k1]; simp [hZ,hμ.h1 i hi k1]
 rw [if_neg k1];by_cases k2:(aC T i).af=2
 ·rw [if_pos k2]; simp [hZ,hμ.h2 i hi k2]
 rw [if_neg k2];by_cases k16:(aC T i).af=16
 ·rw [if_pos k16];have key:(!(aC T i).ai.any μ)=(aC T i).ai.all λk=>!μ k:=by
   generalize (aC T i).ai=ks
   induction ks with
   | nil=>rfl
   | cons x r ih=>simp only [MA',LE',Bool.not_or,ih]
  simp only [hZ,MA',Nf',MP',Lv',LE',Mf',Ma',hμ.h16 i hi k16,key]
 rw [if_neg k16];by_cases k18:(aC T i).af=18
 ·rw [if_pos k18]; simp only [hZ,MA',Nf',MP',Lv',LE',Mf',Ma',hμ.h18 i hi k18,Bool.not_not];cases μ ((aC T i).ai.getD 0 0)<;>cases (l.all λk=>!μ k)<;>rfl
 rw [if_neg k18];by_cases k17:(aC T i).af=17
 ·rw [if_pos k17,List.any_map]; simp only [Function.comp_def,hZ,Lv',LE',Mf',Ma',LQ',hμ.Bo i hi k17];generalize (aC T i).ai=ks;generalize (l.all λk=>!μ k)=a;generalize (fp.all μ&&fn.all λk=>!μ k)=b
  induction ks with
  | nil=>simp
  | cons x r ih =>rw [MA',ih];simp only [LE'];cases a<;>cases b<;>cases μ x<;>simp
 rw [if_neg k17];simp only [hZ,MA',Nf',MP',Lv',LE',Mf',Ma'];cases (l.all λk=>!μ k)<;>cases μ i<;>cases fp.all μ<;>simp
theorem Vx {l:List Int}{i:Int}(h:l.getLast?=some i):l=l.dropLast++[i]:=by
 cases l with
 | nil=>simp at h
 | cons x r =>
   rw [List.getLast?_eq_some_getLast (by simp)] at h
   have:=List.dropLast_concat_getLast (l:=x::r) (by simp)
   rw [LI'.inj h] at this;exact this.symm
def ul (p:PZ):Prop:=¬ (p.1=[]/\p.2.1=[])
theorem RI {p:PZ}(ho:ul p):(∃ l i,p.1=l++[i]/\yg T p=EH T i l p.2.1 p.2.2.1 p.2.2.2)\/(p.1=[]/\∃ l i,p.2.1=l++[i]/\yg T p=Hf T i l p.2.2.1 p.2.2.2):=by
 unfold yg;cases h:p.1.getLast? with
 | some i=>exact .inl ⟨p.1.dropLast,i,Vx h,rfl⟩
 | none =>
   have e:=Ni'.1 h;cases h2:p.2.1.getLast? with
   | some i=>exact .inr ⟨e,p.2.1.dropLast,i,Vx h2,rfl⟩
   | none=>exact absurd ⟨e,Ni'.1 h2⟩ ho
theorem wY' (hμ:IB T μ){p:PZ}(hp:sU T p)(ho:ul p):(yg T p).any (hZ μ)=hZ μ p:=by
 rcases RI (T:=T) ho with ⟨l,i,e,h⟩ | ⟨e0,l,i,e,h⟩
 ·have hi:=hp.pos;rw [e,Lv'] at hi;simp only [Lc',LE',Mf',Ma'] at hi;rw [h,qq' hμ hi.2];unfold hZ;rw [e]
 ·have hi:=hp.neg;rw [e,Lv'] at hi;simp only [Lc',LE',Mf',Ma'] at hi;rw [h,sv' hμ hi.2];unfold hZ;rw [e,e0]
end
section
variable {T:ay}
def wt (T:ay)(i:Int):Nat:=5^(T.aj.length-i.toNat)
def kz (T:ay)(l:List Int):Nat:=(l.map (wt T)).sum
def ms (T:ay)(p:PZ):Nat:=kz T p.1+kz T p.2.1+p.2.2.1.length+p.2.2.2.length
theorem CK (a b:List Int):kz T (a++b)=kz T a+kz T b:=by unfold kz; rw [List.map_append,List.sum_append]
theorem Gz (i:Int):kz T [i]=wt T i:=by unfold kz; simp
theorem rk' (i:Int):1<=wt T i:=by unfold wt; exact Nat.one_le_pow _ _ (by omega)
theorem Ws {i:Int}(h:bf T.aj.length i=true):5<=wt T i:=by
 obtain ⟨j,rfl,hj⟩:=nE h;unfold wt;rw [Ln'];obtain ⟨m,hm⟩:∃ m,T.aj.length-j=m+1:=⟨T.aj.length-j-1,by omega⟩
 rw [hm,Nat.pow_succ];have:1<=5^m:=Nat.one_le_pow _ _ (by omega)
 omega
theorem EW (l:List Int):l.length<=kz T l:=by
 induction l with
 | nil=>simp
 | cons x r ih =>have:=rk' (T:=T) x;unfold kz at *;simp only [Ld',LJ',List.sum_cons];omega
theorem Dg (hT:GT T){i:Int}(hi:bf T.aj.length i=true)(hb:iC (aC T i)=true){k:Int}(hk:k∈(aC T i).ai):bf T.aj.length k=true/\5*wt T k<=wt T i:=by
 obtain ⟨j,rfl,hj,e,_⟩:=su hi;have hg:=hT.nodes j _ e;have hr:=yu hg.ok k hk;have hlt:=hg.ord hb k hk;refine ⟨hr,?_⟩;obtain ⟨m,rfl,hm⟩:=nE hr;unfold wt;simp only [Ln'];have h1:j<m:=by omega
 calc 5*5^(T.aj.length-m)=5^(T.aj.length-m+1):=by rw [Nat.pow_succ]; omega
  _<=5^(T.aj.length-j):=ND' (by omega) (by omega)
theorem fG' (hT:GT T){i:Int}(hi:bf T.aj.length i=true)(hb:iC (aC T i)=true):kz T (aC T i).ai+1<=wt T i:=by
 have h5:=Ws hi;have hk:=λk hk=>Dg hT hi hb (k:=k) hk;have h4:(aC T i).ai.length<=4:=by obtain ⟨j,rfl,hj,e,_⟩:=su hi;exact (hT.nodes j _ e).kids
 generalize (aC T i).ai=ks at hk h4;have key:∀ ks:List Int,(∀ k∈ks,bf T.aj.length k=true/\5*wt T k<=wt T i)->5*kz T ks<=ks.length*wt T i:=by
  intro ks
  induction ks with
  | nil=>intro _; simp [kz]
  | cons x r ih =>intro h;have h1:=ih λk hk=>h k (List.mem_cons_of_mem _ hk);have h2:=(h x (List.mem_cons_self ..)).2;unfold kz at *;simp only [LJ',List.sum_cons,Ld',LP',Nat.mul_add];omega
 have h6:=key ks hk;have h7:ks.length*wt T i<=4*wt T i:=LA' _ h4;omega
theorem Vm (hT:GT T){i:Int}(hi:bf T.aj.length i=true)(hk:(aC T i).af=18):(aC T i).ai.getD 0 0∈(aC T i).ai:=by
 obtain ⟨j,rfl,hj,e,_⟩:=su hi;have hn:=(hT.nodes j _ e).ok;unfold fC jd at hn;simp only [hk,Lc'] at hn;have h2:=hn.2.2.2.2;simp at h2;cases hks:(aC T (j:Int)).ai with
 | nil=>rw [hks] at h2; simp at h2
 | cons x r=>simp
theorem aJ' {i:Int}(hi:bf T.aj.length i=true)(h1:¬ (aC T i).af=1)(h2:¬ (aC T i).af=2)(h16:¬ (aC T i).af=16)(Bo:¬ (aC T i).af=17)(h18:¬ (aC T i).af=18):fM T i=true:=by unfold fM;simp [hi,h1,h2,h16,Bo,h18]
theorem FO {i:Int}(h:(aC T i).af=16\/(aC T i).af=17\/(aC T i).af=18):iC (aC T i)=true:=by unfold iC;rcases h with h | h | h<;>simp [h]
theorem fu' (hT:GT T){p:PZ}(hp:sU T p)(ho:ul p):(∀ q∈yg T p,sU T q/\ms T q<ms T p)/\(yg T p).length<=4:=by
 rcases RI (T:=T) ho with ⟨l,i,e,h⟩ | ⟨e0,l,i,e,h⟩
 ·have hi:=hp.pos;rw [e,Lv'] at hi;simp only [Lc',LE',Mf',Ma'] at hi;obtain ⟨hl,hi⟩:=hi;have hm:ms T p=kz T l+wt T i+kz T p.2.1+p.2.2.1.length+p.2.2.2.length:=by unfold ms; rw [e,CK,Gz]
  have h5:=Ws hi;rw [h,hm];unfold EH;by_cases k2:(aC T i).af=2
  ·rw [if_pos k2];exact ⟨λq hq=>by rw [Lp'] at hq; subst hq; exact ⟨⟨hl,hp.neg,hp.fp,hp.fn⟩,by unfold ms; simp only; omega⟩,by simp⟩
  rw [if_neg k2];by_cases k1:(aC T i).af=1
  ·rw [if_pos k1]; exact ⟨λq hq=>by simp at hq,by simp⟩
  rw [if_neg k1];by_cases k17:(aC T i).af=17
  ·rw [if_pos k17];have hb:=FO (T:=T) (i:=i) (.inr (.inl k17));have hk:=fG' hT hi hb;refine ⟨λq hq=>?_,by simp⟩
   rw [Lp'] at hq; subst hq;refine ⟨⟨?_,hp.neg,hp.fp,hp.fn⟩,by unfold ms; simp only [CK]; omega⟩
   show (l++(aC T i).ai).all _=true;rw [Lv',hl,LQ'];exact Le'.2 λk hk=>(Dg hT hi hb hk).1
  rw [if_neg k17];by_cases k18:(aC T i).af=18
  ·rw [if_pos k18];have hb:=FO (T:=T) (i:=i) (.inr (.inr k18));have hk:=Dg hT hi hb (Vm hT hi k18);refine ⟨λq hq=>?_,by simp⟩
   rw [Lp'] at hq; subst hq;refine ⟨⟨hl,?_,hp.fp,hp.fn⟩,by unfold ms; simp only [CK,Gz]; omega⟩
   show (p.2.1++[(aC T i).ai.getD 0 0]).all _=true;rw [Lv',hp.neg];simp only [LE',Mf',Ma',LQ'];exact hk.1
  rw [if_neg k18];by_cases k16:(aC T i).af=16
  ·rw [if_pos k16];have hb:=FO (T:=T) (i:=i) (.inl k16);refine ⟨λq hq=>?_,?_⟩
   ·obtain ⟨k,hk,rfl⟩:=Lx'.1 hq;have hw:=Dg hT hi hb hk;refine ⟨⟨?_,hp.neg,hp.fp,hp.fn⟩,by unfold ms; simp only [CK,Gz]; omega⟩
    show (l++[k]).all _=true;rw [Lv',hl];simp only [LE',Mf',Ma',LQ'];exact hw.1
   ·obtain ⟨j,rfl,hj,e,_⟩:=su hi;rw [LH'];exact (hT.nodes j _ e).kids
  rw [if_neg k16];refine ⟨λq hq=>?_,by simp⟩
  rw [Lp'] at hq; subst hq;refine ⟨⟨hl,hp.neg,?_,hp.fn⟩,by unfold ms; simp only [Lf',Ld',Lh']; omega⟩
  show (p.2.2.1++[i]).all _=true;rw [Lv',hp.fp];simp only [LE',Mf',Ma',LQ'];exact aJ' hi k1 k2 k16 k17 k18
 ·have hi:=hp.neg;rw [e,Lv'] at hi;simp only [Lc',LE',Mf',Ma'] at hi;obtain ⟨hl,hi⟩:=hi;have hm:ms T p=kz T l+wt T i+p.2.2.1.length+p.2.2.2.length:=by unfold ms; rw [e,e0,CK,Gz]; simp [kz]
  have h5:=Ws hi;rw [h,hm];have w0:kz T []=0:=rfl;unfold Hf;by_cases k1:(aC T i).af=1
  ·rw [if_pos k1];exact ⟨λq hq=>by rw [Lp'] at hq; subst hq; exact ⟨⟨rfl,hl,hp.fp,hp.fn⟩,by unfold ms; simp only [w0]; omega⟩,by simp⟩
  rw [if_neg k1];by_cases k2:(aC T i).af=2
  ·rw [if_pos k2]; exact ⟨λq hq=>by simp at hq,by simp⟩
  rw [if_neg k2];by_cases k16:(aC T i).af=16
  ·rw [if_pos k16];have hb:=FO (T:=T) (i:=i) (.inl k16);have hk:=fG' hT hi hb;refine ⟨λq hq=>?_,by simp⟩
   rw [Lp'] at hq; subst hq;refine ⟨⟨rfl,?_,hp.fp,hp.fn⟩,by unfold ms; simp only [w0,CK]; omega⟩
   show (l++(aC T i).ai).all _=true;rw [Lv',hl,LQ'];exact Le'.2 λk hk=>(Dg hT hi hb hk).1
  rw [if_neg k16];by_cases k18:(aC T i).af=18
  ·rw [if_pos k18];have hb:=FO (T:=T) (i:=i) (.inr (.inr k18));have hk:=Dg hT hi hb (Vm hT hi k18);refine ⟨λq hq=>?_,by simp⟩
   rw [Lp'] at hq; subst hq;refine ⟨⟨?_,hl,hp.fp,hp.fn⟩,by unfold ms; simp only [Gz]; omega⟩
   show ([(aC T i).ai.getD 0 0]).all _=true;simp only [LE',Mf',Ma'];exact hk.1
  rw [if_neg k18];by_cases k17:(aC T i).af=17
  ·rw [if_pos k17];have hb:=FO (T:=T) (i:=i) (.inr (.inl k17));refine ⟨λq hq=>?_,?_⟩
   ·obtain ⟨k,hk,rfl⟩:=Lx'.1 hq;have hw:=Dg hT hi hb hk;refine ⟨⟨rfl,?_,hp.fp,hp.fn⟩,by unfold ms; simp only [w0,CK,Gz]; omega⟩
    show (l++[k]).all _=true;rw [Lv',hl];simp only [LE',Mf',Ma',LQ'];exact hw.1
   ·obtain ⟨j,rfl,hj,e,_⟩:=su hi;rw [LH'];exact (hT.nodes j _ e).kids
  rw [if_neg k17];refine ⟨λq hq=>?_,by simp⟩
  rw [Lp'] at hq; subst hq;refine ⟨⟨rfl,hl,hp.fp,?_⟩,by unfold ms; simp only [w0,Lf',Ld',Lh']; omega⟩
  show (p.2.2.2++[i]).all _=true;rw [Lv',hp.fn];simp only [LE',Mf',Ma',LQ'];exact aJ' hi k1 k2 k16 k17 k18
end
def small (l:List Int):Prop:=∀ n∈l,0<=n/\n<10
def rP (n:Int):UInt8:=UInt8.ofNat (48+n.toNat)
def iV (c:UInt8)(l:List Int):List UInt8:=l.flatMap λn=>[c,rP n]
theorem uk' (c:UInt8)(l:List Int):(iV c l).length=2*l.length:=by
 unfold iV
 induction l with
 | nil=>rfl
 | cons x r ih=>simp only [Mk',Lf',ih,Ld',Lh']; omega
theorem De':∀ n<10,∀ m<10,UInt8.ofNat (48+n)=UInt8.ofNat (48+m)->n=m:=by decide
theorem ja' {n m:Int}(hn:0<=n/\n<10)(hm:0<=m/\m<10)(h:rP n=rP m):n=m:=by
 have:=De' n.toNat (by omega) m.toNat (by omega) h
 omega
theorem UQ (c:UInt8):∀ (l:List Int) (b:List UInt8),small l->b.length+2*l.length<=1000->AO c l b=some (b++iV c l)
 | [],b,_,_=>by simp [AO,iV]
 | n::r,b,h,hb=>by
   have hn:=h n (by simp)
   simp only [Ld'] at hb;have e:Aa c b n=some (b++[c,rP n]):=by
    unfold Aa nJ;rw [show decide (0<=n)=true from decide_eq_true hn.1,show decide (n<100)=true from decide_eq_true (by omega),show Mq' b.length 1000000=true from MV' (by omega),show LF' n.toNat 10=true from by rw [Nat.blt_eq]; omega]
    rfl
   have e2:=UQ c r (b++[c,rP n]) (λx hx=>h x (by simp [hx])) (by simp only [Lf',Ld',Lh']; omega)
   simp only [AO,e,KY',e2];simp [iV]
theorem bN' (c:UInt8):∀ (l m:List Int),small l->small m->iV c l=iV c m->l=m
 | [],[],_,_,_=>rfl
 | [],_::_,_,_,h=>by simp [iV] at h
 | _::_,[],_,_,h=>by simp [iV] at h
 | x::l,y::m,h1,h2,h=>by
   have e:c::rP x::iV c l=c::rP y::iV c m:=h;rw [NO'.injEq,NO'.injEq] at e;have a:=ja' (h1 x (by simp)) (h2 y (by simp)) e.2.1
   rw [a,bN' c l m (λz hz=>h1 z (by simp [hz])) (λz hz=>h2 z (by simp [hz])) e.2.2]
theorem fk':∀ (p p' q q':List Int),small p->small p'->small q->small q'->iV 43 p++iV 45 q=iV 43 p'++iV 45 q'->p=p'/\q=q'
 | [],[],q,q',_,_,h3,h4,h=>⟨rfl,bN' 45 q q' h3 h4 h⟩
 | [],y::m,q,q',_,_,_,_,h=>by
   cases q with
   | nil=>simp [iV] at h
   | cons z r =>have e:(45:UInt8)::rP z::iV 45 r=43::rP y::(iV 43 m++iV 45 q'):=h;rw [NO'.injEq] at e;exact absurd e.1 (by decide)
 | x::l,[],q,q',_,_,_,_,h=>by
   cases q' with
   | nil=>simp [iV] at h
   | cons z r =>have e:(43:UInt8)::rP x::(iV 43 l++iV 45 q)=45::rP z::iV 45 r:=h;rw [NO'.injEq] at e;exact absurd e.1 (by decide)
 | x::l,y::m,q,q',h1,h2,h3,h4,h=>by
   have e:(43:UInt8)::rP x::(iV 43 l++iV 45 q)=43::rP y::(iV 43 m++iV 45 q'):=h;rw [NO'.injEq,NO'.injEq] at e;have a:=ja' (h1 x (by simp)) (h2 y (by simp)) e.2.1
   obtain ⟨b,c⟩:=fk' l m q q' (λz hz=>h1 z (by simp [hz])) (λz hz=>h2 z (by simp [hz])) h3 h4 e.2.2
   exact ⟨by rw [a,b],c⟩
def yC:Nat->List (List Int)
 | 0=>[[]]
 | n+1=>yC n++(yC n).map λl=>l++[(n:Int)]
theorem ff':∀ n,(yC n).length=2^n
 | 0=>rfl
 | n+1=>by simp only [yC,Lf',LH',ff' n,Nat.pow_succ]; omega
theorem Lc:∀ (n:Nat) (l:List Int),l.Pairwise (λa b=>a<b)->(∀ x∈l,0<=x/\x<(n:Int))->l∈yC n
 | 0,l,_,h=>by
   cases l with
   | nil=>simp [yC]
   | cons x r=>have:=h x (by simp); omega
 | n+1,l,hp,h=>by
   simp only [yC];cases hg:l.getLast? with
   | none =>have e:=Ni'.1 hg;subst e;exact LN' _ (Lc n [] NV'.nil (by simp))
   | some x =>
     have e:=Vx hg;generalize l.dropLast=a at e;subst e;have hpa:=ML'.1 hp;have hx:=h x (by simp)
     by_cases hxn:x=(n:Int)
     ·subst hxn;refine LT' _ (Lx'.2 ⟨a,Lc n a hpa.1 λy hy=>?_,rfl⟩);have h1:=h y (by simp [hy])
      have h2:=hpa.2.2 y hy _ (Lp'.2 rfl);omega
     ·refine LN' _ (Lc n _ hp λy hy=>?_);have h1:=h y hy;rcases Lo'.1 hy with hy | hy
      ·have h2:=hpa.2.2 y hy _ (Lp'.2 rfl);omega
      ·rw [Lp'] at hy; subst hy;omega
theorem Xd {α:Type} [DecidableEq α]:∀ (l m:List α),l.Nodup->(∀ x∈l,x∈m)->l.length<=m.length
 | [],_,_,_=>by simp
 | x::r,m,h,hs=>by
   have hn:=Nl'.1 h;have hx:=hs x (by simp)
   have h1:=Xd r (m.erase x) hn.2 λy hy=>by have hne:y≠x:=λe=>hn.1 (e▸hy);exact (List.mem_erase_of_ne hne).2 (hs y (by simp [hy]))
   have h2:=List.length_erase_of_mem hx;have h3:0<m.length:=List.length_pos_of_mem hx;simp only [Ld'];omega
theorem vu' {α β:Type}(l:List α)(m:List β):(l.flatMap λa=>m.map λb=>(a,b)).length=l.length*m.length:=by
 induction l with
 | nil=>simp
 | cons x r ih=>simp only [Mk',Lf',LH',ih,Ld',LP']; omega
theorem uS' (l:List (List Int×List Int))(h:l.Nodup)(hs:∀ g∈l,(g.1.Pairwise (λa b=>a<b)/\small g.1)/\(g.2.Pairwise (λa b=>a<b)/\small g.2)):l.length<=1048576:=by
 have h1:=Xd l ((yC 10).flatMap λa=>(yC 10).map λb=>(a,b)) h λg hg=>by obtain ⟨⟨a,b⟩,c,d⟩:=hs g hg;exact Ng'.2 ⟨g.1,Lc 10 _ a (λx hx=>b x hx),Lx'.2 ⟨g.2,Lc 10 _ c (λx hx=>d x hx),rfl⟩⟩
 rw [vu',ff'] at h1;exact h1
abbrev jW (q:PZ):fU:=fU.mk q.1 q.2.1 q.2.2.1 q.2.2.2
theorem yF {l:List Int}{b:Nat}(h:l.length<=4000000)(hb:b<=8):iY b l=some l:=by
 unfold iY;rw [dX (by have:l.length*b<=4000000*8:=NG' h hb; simp only [LM']; omega)]
 rfl
theorem Yj (p:PZ)(h1:p.1.length<=4000000)(h2:p.2.1.length<=4000000)(h3:p.2.2.1.length<=4000000)(h4:p.2.2.2.length<=4000000):LF (jW p)=some p:=by unfold LF;rw [yF h1 (Lg' _),yF h2 (Lg' _),yF h3 (Lg' _),yF h4 (Lg' _)];rfl
def VN (p:PZ)(b:Bool)(k:Int):PZ:=if b=true then (p.1++[k],p.2) else (p.1,p.2.1++[k],p.2.2)
theorem aI' (p:PZ)(ks:List Int)(b:Bool)(hk:ks.length<=4)(h1:p.1.length<=4000000)(h2:p.2.1.length<=4000000)(h3:p.2.2.1.length<=4000000)(h4:p.2.2.2.length<=4000000) :
 BF (jW p) ks b=some ((ks.map (VN p b)).map jW):=by
 unfold BF;have key:=nK (σ:=List fU) (step:=Gm (jW p) ks b) ks (λs i=>(s,(i:Int))) (λs k=>s++[jW (VN p b k)]) (λi s=>s.length<=i) (λs=>s)
  (λi s k hx hI=>by
    have hi:i<ks.length:=(La'.1 hx).1;refine ⟨?_,by simp only [Lf',Ld',Lh']; omega⟩
    unfold Gm;simp only [aV];rw [dn hi,aR hx];simp only [cond_true,KY'];rw [Yj p h1 h2 h3 h4,bF i (by omega)]
    simp only [KY'];cases b
    ·simp only [cond_false];rw [dX (by simp only [Ld',Lh']; omega)]
     simp only [KY'];rw [dX (by simp only [Ld',Lh']; omega)]
     rfl
    ·simp only [cond_true];rw [dX (by simp only [Ld',Lh']; omega)]
     simp only [KY'];rw [dX (by simp only [Ld',Lh']; omega)]
     rfl) (λs _=>by
    unfold Gm;simp) [] (by simp) _ (Lg' _)
 have e:iter (Gm (jW p) ks b) (ks.length+1) (([]:List fU),0)=iter (Gm (jW p) ks b) (ks.length+1) (([]:List fU),((0:Nat):Int)):=rfl;rw [dw,e,key];simp only [KY'];rw [RA (λk=>jW (VN p b k))];simp
theorem dO' {l:List Int}{i:Int}(h:l.length<=4000000):wr .i64 (((l++[i]).length:Int)-1)=(l.length:Int)/\ak (l++[i]) (l.length:Int)=some i/\(l++[i])[(l.length:Int).toNat]?=some i/\cut (l++[i]) 0 (l.length:Int)=some l:=by
 have e:(l++[i])[l.length]?=some i:=by rw [Ls' (Lg' _)]; simp
 refine ⟨?_,aR e,by rw [Ln']; exact e,?_⟩
 ·rw [aV,dZ (by simp only [Lf',Ld',Lh']; omega) (by simp only [Lf',Ld',Lh']; omega)]
  simp only [Lf',Ld',Lh']; omega
 ·unfold cut;rw [if_pos (by simp only [Lf',Ld',Lh']; omega)]
  simp
section
variable {T:ay}
theorem eX' (hT:GT T){i:Int}(hi:bf T.aj.length i=true)(hk:(aC T i).af=18):ak (aC T i).ai 0=some ((aC T i).ai.getD 0 0):=by
 have h:=Vm hT hi hk;cases hks:(aC T i).ai with
 | nil=>rw [hks] at h; simp at h
 | cons x r=>exact aR (i:=0) (by simp)
theorem uh' (hT:GT T){p:PZ}(hp:sU T p)(ho:ul p)(hm:ms T p<=4000000):JR p T=some ((yg T p).map jW):=by
 have l1:p.1.length<=4000000:=Lr' (EW (T:=T) p.1) (by unfold ms at hm; omega)
 have l2:p.2.1.length<=4000000:=Lr' (EW (T:=T) p.2.1) (by unfold ms at hm; omega)
 have l3:p.2.2.1.length<=4000000:=by unfold ms at hm; omega
 have l4:p.2.2.2.length<=4000000:=by unfold ms at hm; omega
 have r1:∀ n b:Nat,n<=4000000+10->b<=96->aT n b=some ():=λn b h1 h2=>dX (by have:n*b<=(4000000+10)*96:=NG' h1 h2; omega)
 unfold JR;rcases RI (T:=T) ho with ⟨l,i,e,h⟩ | ⟨e0,l,i,e,h⟩
 ·rw [h];have hi:=hp.pos;rw [e,Lv'] at hi;simp only [Lc',LE',Mf',Ma'] at hi;obtain ⟨hl,hi⟩:=hi;rw [e] at l1;simp only [Lf',Ld',Lh'] at l1;obtain ⟨f1,f2,f3,f4⟩:=dO' (l:=l) (i:=i) (by omega)
  obtain ⟨j,hj0,hj,ej,ei⟩:=su hi;have h4:(aC T i).ai.length<=4:=(hT.nodes j _ ej).kids;have NY:=λhk=>eX' hT hi hk;rw [e,f1,f2,f3,f4,show decide (0<=(l.length:Int))=true from decide_eq_true (by omega)]
  simp only [cond_true,KY'];rw [ei];simp only [KY'];unfold EH;generalize aC T i=x at h4 NY ⊢;by_cases k2:x.af=2
  ·rw [if_pos k2,show (x.af==2)=true by simp [k2]]; rfl
  rw [if_neg k2,show (x.af==2)=false by simp [k2]]
  by_cases k1:x.af=1
  ·rw [if_pos k1,show (x.af==1)=true by simp [k1]]; rfl
  rw [if_neg k1,show (x.af==1)=false by simp [k1]]
  by_cases k17:x.af=17
  ·rw [if_pos k17,show (x.af==17)=true by simp [k17]]
   simp only [cond_true,cond_false];rw [r1 _ _ (by omega) (by omega)]; rfl
  rw [if_neg k17,show (x.af==17)=false by simp [k17]]
  by_cases k18:x.af=18
  ·rw [if_pos k18,show (x.af==18)=true by simp [k18]]
   simp only [cond_true,cond_false];rw [NY k18];simp only [KY'];rw [r1 _ _ (by simp only [Ld',Lh']; omega) (by omega)]; rfl
  rw [if_neg k18,show (x.af==18)=false by simp [k18]]
  by_cases k16:x.af=16
  ·rw [if_pos k16,show (x.af==16)=true by simp [k16]]
   simp only [cond_true,cond_false];have hc:=aI' (l,p.2.1,p.2.2.1,p.2.2.2) x.ai true h4 (by simp only; omega) l2 l3 l4
   have hc':BF (fU.mk l p.2.1 p.2.2.1 p.2.2.2) x.ai true=_:=hc;rw [hc'];rfl
  rw [if_neg k16,show (x.af==16)=false by simp [k16]]
  simp only [cond_false];rw [r1 _ _ (by simp only [Ld',Lh']; omega) (by omega)]; rfl
 ·rw [h];have hi:=hp.neg;rw [e,Lv'] at hi;simp only [Lc',LE',Mf',Ma'] at hi;obtain ⟨hl,hi⟩:=hi;rw [e] at l2;simp only [Lf',Ld',Lh'] at l2;obtain ⟨f1,f2,f3,f4⟩:=dO' (l:=l) (i:=i) (by omega)
  obtain ⟨j,hj0,hj,ej,ei⟩:=su hi;have h4:(aC T i).ai.length<=4:=(hT.nodes j _ ej).kids;have NY:=λhk=>eX' hT hi hk;have e1:decide (0<=wr .i64 (((([]:List Int)).length:Int)-1))=false:=by decide
  rw [e0,e,f1,f2,f3,f4,e1];simp only [cond_false,KY'];rw [ei];simp only [KY'];unfold Hf;generalize aC T i=x at h4 NY ⊢;by_cases k1:x.af=1
  ·rw [if_pos k1,show (x.af==1)=true by simp [k1]]; rfl
  rw [if_neg k1,show (x.af==1)=false by simp [k1]]
  by_cases k2:x.af=2
  ·rw [if_pos k2,show (x.af==2)=true by simp [k2]]; rfl
  rw [if_neg k2,show (x.af==2)=false by simp [k2]]
  by_cases k16:x.af=16
  ·rw [if_pos k16,show (x.af==16)=true by simp [k16]]
   simp only [cond_true,cond_false];rw [r1 _ _ (by omega) (by omega)]; rfl
  rw [if_neg k16,show (x.af==16)=false by simp [k16]]
  by_cases k18:x.af=18
  ·rw [if_pos k18,show (x.af==18)=true by simp [k18]]
   simp only [cond_true,cond_false];rw [NY k18];simp only [KY'];rw [r1 _ _ (by simp only [Ld',Lh']; omega) (by omega)]; rfl
  rw [if_neg k18,show (x.af==18)=false by simp [k18]]
  by_cases k17:x.af=17
  ·rw [if_pos k17,show (x.af==17)=true by simp [k17]]
   simp only [cond_true,cond_false];have hc:=aI' ([],l,p.2.2.1,p.2.2.2) x.ai false h4 (by simp) (by simp only; omega) l3 l4
   have hc':BF (fU.mk [] l p.2.2.1 p.2.2.2) x.ai false=_:=hc;rw [hc'];rfl
  rw [if_neg k17,show (x.af==17)=false by simp [k17]]
  simp only [cond_false];rw [r1 _ _ (by simp only [Ld',Lh']; omega) (by omega)]; rfl
def uP (L:Bool)(p q:List Int):ByteArray:=⟨((bif L then [108] else [])++iV 43 p++iV 45 q).toArray⟩
theorem DJ' {L:Bool}{p q p' q':List Int}(h1:small p)(h2:small p')(h3:small q)(h4:small q')(h:uP L p q=uP L p' q'):p=p'/\q=q':=by unfold uP at h;have e:=congrArg (λb:ByteArray=>b.data.toList) h;simp only [Lt'] at e;exact fk' p p' q q' h1 h2 h3 h4 (List.append_cancel_left e)
abbrev ES:Type:=List (ByteArray×Bool)×List ax
def kU (L:Bool)(p:PZ):ax:=ax.mk (fJ p.2.2.1) (fJ p.2.2.2) L
structure NG (T:ay)(L:Bool)(e:ax):Prop where
 lists:e.eu=L
 sp:fJ e.Pos=e.Pos
 sn:fJ e.Neg=e.Neg
 pos:e.Pos.all (fM T)=true
 neg:e.Neg.all (fM T)=true
theorem CR {i:Int}(h:fM T i=true):bf T.aj.length i=true:=by unfold fM at h;simp only [Lc'] at h;exact h.1
theorem wB (hT:GT T){l:List Int}(h:l.all (fM T)=true):small l:=λn hn=>by
 obtain ⟨j,rfl,hj⟩:=nE (CR (Le'.1 h n hn));have:=hT.len;omega
theorem Rc {l:List Int}(h:fJ l=l):l.Pairwise λa b=>a<b:=by have ha:=aj' l;rw [h] at ha;refine ((xN.zA (c:=cI) Li l).1 ha).imp λ{a b} hab=>?_;rcases je a b with ⟨_,k⟩ | ⟨_,k⟩ | ⟨_,k⟩<;>rw [k] at hab<;>omega
theorem ke':∀ (n:Nat) (l:List Int),l.Pairwise (λa b=>a<b)->(∀ x∈l,0<=x/\x<(n:Int))->l.length<=n:=by
 intro n l hp hs;have:=Xd l ((LY' n).map λi:Nat=>(i:Int)) (hp.imp λ{a b} h e=>by omega) λx hx=>by have:=hs x hx;exact Lx'.2 ⟨x.toNat,List.mem_range.2 (by omega),by omega⟩
 simpa using this
theorem NG.lens (hT:GT T){L:Bool}{e:ax}(h:NG T L e):e.Pos.length<=10/\e.Neg.length<=10 :=
 ⟨ke' 10 _ (Rc h.sp) λx hx=>wB hT h.pos x hx,ke' 10 _ (Rc h.sn) λx hx=>wB hT h.neg x hx⟩
theorem kc' {p:PZ}(hp:sU T p)(L:Bool):NG T L (kU L p):=by have key:∀ (l:List Int),l.all (fM T)=true->(fJ l).all (fM T)=true:=λl h=>Le'.2 λx hx=>Le'.1 h x ((JA l x).1 hx);exact ⟨rfl,QI _,QI _,key _ hp.fp,key _ hp.fn⟩
theorem ng' (hT:GT T){L:Bool}{e:ax}(h:NG T L e):wX e=some (uP L e.Pos e.Neg):=by
 obtain ⟨l1,l2⟩:=h.lens hT;obtain ⟨p,q,b⟩:=e;unfold wX;rw [Uw p q b (by simp only at l1; omega) (by simp only at l2; omega)]
 simp only [KY'];have hs:=h.sp;have hn:=h.sn;have hl:=h.lists;simp only at hs hn hl l1 l2;rw [hs,hn,hl];have hb:(bif L then [108] else []:List UInt8).length<=1:=by cases L<;>simp
 rw [UQ 43 p _ (wB hT h.pos) (by omega)]
 simp only [KY'];rw [UQ 45 q _ (wB hT h.neg) (by rw [Lf',uk']; omega)]
 rfl
structure zC (T:ay)(L:Bool)(s:ES):Prop where
 ng:∀ e∈s.2,NG T L e
 nd:s.2.Nodup
 seen:∀ e,NG T L e->(((gQ s.1 (uP L e.Pos e.Neg)).getD false)=true↔e∈s.2)
def rA (L:Bool)(s:ES)(p:PZ):ES :=
 bif !((gQ s.1 (uP L (kU L p).Pos (kU L p).Neg)).getD false) then (jG s.1 (uP L (kU L p).Pos (kU L p).Neg) true,s.2++[kU L p]) else s
theorem zC.len (hT:GT T){L:Bool}{s:ES}(h:zC T L s):s.2.length<=1048576:=by
 have:=uS' (s.2.map λe=>(e.Pos,e.Neg)) ?_ λg hg=>?_
 ·simpa using this
 ·refine List.pairwise_map.2 ((NV'.and_mem.1 h.nd).imp λ{a b} hab he=>?_);obtain ⟨ha,hb,hne⟩:=hab;apply hne;have h1:=(h.ng a ha).lists;have h2:=(h.ng b hb).lists;obtain ⟨p,q,x⟩:=a;obtain ⟨p',q',x'⟩:=b;simp only [Prod.mk.injEq] at he h1 h2;rw [he.1,he.2,h1,h2]
 ·obtain ⟨e,he,rfl⟩:=Lx'.1 hg;have hn:=h.ng e he;exact ⟨⟨Rc hn.sp,wB hT hn.pos⟩,Rc hn.sn,wB hT hn.neg⟩
theorem zD' (hT:GT T){L:Bool}{s:ES}(h:zC T L s){p:PZ}(hp:sU T p):zC T L (rA L s p)/\∀ e,e∈(rA L s p).2↔e∈s.2\/e=kU L p:=by
 have hN:=kc' hp L;have hs:=h.seen _ hN;unfold rA;cases hg:(gQ s.1 (uP L (kU L p).Pos (kU L p).Neg)).getD false with
 | true =>
   rw [hg] at hs;have hm:=hs.1 rfl;refine ⟨h,λe=>⟨λhe=>.inl he,λhe=>?_⟩⟩;rcases he with he | rfl
   ·exact he
   ·exact hm
 | false =>
   rw [hg] at hs;have hm:kU L p ∉ s.2:=λhe=>by have:=hs.2 he; cases this
   simp only [NH',cond_true];refine ⟨⟨λe he=>?_,?_,λe he=>?_⟩,λe=>by simp⟩
   ·rcases Lo'.1 he with he | he
    ·exact h.ng e he
    ·rw [Lp'] at he; subst he; exact hN
   ·refine Ml'.2 ⟨h.nd,by simp,λa ha b hb e=>?_⟩
    rw [Lp'] at hb;subst hb;exact hm (e▸ha)
   ·simp only;rw [Ec'];by_cases ht:uP L e.Pos e.Neg=uP L (kU L p).Pos (kU L p).Neg
    ·rw [if_pos ht];obtain ⟨e1,e2⟩:=DJ' (wB hT he.pos) (wB hT hN.pos) (wB hT he.neg) (wB hT hN.neg) ht;have e3:e=kU L p:=by have h1:=he.lists;have h2:=hN.lists;obtain ⟨a,b,c⟩:=e;generalize kU L p=g at e1 e2 h2;obtain ⟨a',b',c'⟩:=g;simp only at e1 e2 h1 h2;rw [e1,e2,h1,h2]
     simp [e3]
    ·rw [if_neg ht];have hne:e≠kU L p:=λe0=>ht (by rw [e0])
     rw [h.seen e he];simp [hne]
theorem Vj (hT:GT T){L:Bool}:∀ (ls:List PZ) (s:ES),zC T L s->(∀ p∈ls,sU T p)->zC T L (ls.foldl (rA L) s)/\∀ e,e∈(ls.foldl (rA L) s).2↔e∈s.2\/∃ p∈ls,e=kU L p
 | [],s,h,_=>⟨h,λe=>by simp⟩
 | p::r,s,h,hp=>by
   obtain ⟨h1,h2⟩:=zD' hT h (hp p (by simp))
   obtain ⟨h3,h4⟩:=Vj hT r (rA L s p) h1 λq hq=>hp q (by simp [hq])
   refine ⟨h3,λe=>?_⟩;rw [Mu',h4,h2];constructor
   ·rintro ((h | h) | ⟨q,hq,h⟩)
    ·exact .inl h
    ·exact .inr ⟨p,by simp,h⟩
    ·exact .inr ⟨q,by simp [hq],h⟩
   ·rintro (h | ⟨q,hq,h⟩)
    ·exact .inl (.inl h)
    ·rcases Lq'.1 hq with rfl | hq
     ·exact .inl (.inr h)
     ·exact .inr ⟨q,hq,h⟩
theorem fL' {l:List fU}{i:fU}(h:l.length<=100000000000):wr .i64 (((l++[i]).length:Int)-1)=(l.length:Int)/\ak (l++[i]) (l.length:Int)=some i/\(l++[i])[(l.length:Int).toNat]?=some i/\cut (l++[i]) 0 (l.length:Int)=some l:=by
 have e:(l++[i])[l.length]?=some i:=by rw [Ls' (Lg' _)]; simp
 refine ⟨?_,aR e,by rw [Ln']; exact e,?_⟩
 ·rw [aV,dZ (by simp only [Lf',Ld',Lh']; omega) (by simp only [Lf',Ld',Lh']; omega)]
  simp only [Lf',Ld',Lh']; omega
 ·unfold cut;rw [if_pos (by simp only [Lf',Ld',Lh']; omega)]
  simp
theorem pB' (hT:GT T)(g:ax){p:PZ}(hp:sU T p)(ho:ul p)(hm:ms T p<=4000000)(w:List fU)(hw:w.length<=10000000000)(s:ES) :
 wm T g (w++[jW p],s.1,s.2)=some (.next (w++(yg T p).map jW,s.1,s.2)):=by
 have l1:p.1.length<=4000000:=Lr' (EW (T:=T) p.1) (by unfold ms at hm; omega)
 have l2:p.2.1.length<=4000000:=Lr' (EW (T:=T) p.2.1) (by unfold ms at hm; omega)
 have l3:p.2.2.1.length<=4000000:=by unfold ms at hm; omega
 have l4:p.2.2.2.length<=4000000:=by unfold ms at hm; omega
 obtain ⟨f1,f2,f3,f4⟩:=fL' (l:=w) (i:=jW p) (by omega)
 unfold wm;simp only;rw [show decide (0<((w++[jW p]).length:Int))=true from decide_eq_true (by simp only [Lf',Ld',Lh']; omega),f1,f2,f3,f4]
 simp only [cond_true,KY'];rw [Yj p l1 l2 l3 l4];simp only [KY'];have hlen:0<p.1.length+p.2.1.length:=by apply Nat.pos_of_ne_zero;intro h0;apply ho;exact ⟨LB' (by omega),LB' (by omega)⟩
 rw [aV,dZ (by omega) (by omega),show decide (0<(p.1.length:Int)+(p.2.1.length:Int))=true from decide_eq_true (by omega)]
 simp only [cond_true];have hr:=uh' hT hp ho hm;have hr':JR (p.1,p.2.1,p.2.2.1,p.2.2.2) T=_:=hr;rw [hr'];simp only [KY'];have h4:=(fu' hT hp ho).2;rw [dX (by rw [LH']; omega)]
 rfl
theorem iG' (hT:GT T)(g:ax){p:PZ}(hp:sU T p)(ho:¬ ul p)(hm:ms T p<=4000000)(w:List fU)(hw:w.length<=10000000000)(s:ES)(hs:zC T g.eu s) :
 wm T g (w++[jW p],s.1,s.2)=some (.next (w,(rA g.eu s p).1,(rA g.eu s p).2)):=by
 have l3:p.2.2.1.length<=4000000:=by unfold ms at hm; omega
 have l4:p.2.2.2.length<=4000000:=by unfold ms at hm; omega
 have e:p.1=[]/\p.2.1=[]:=Decidable.not_not.1 (by unfold ul at ho; exact ho)
 obtain ⟨f1,f2,f3,f4⟩:=fL' (l:=w) (i:=jW p) (by omega)
 unfold wm;simp only;rw [show decide (0<((w++[jW p]).length:Int))=true from decide_eq_true (by simp only [Lf',Ld',Lh']; omega),f1,f2,f3,f4]
 simp only [cond_true,KY'];rw [Yj p (by rw [e.1]; simp) (by rw [e.2]; simp) l3 l4]
 simp only [KY',e.1,e.2];have e0:decide (0<wr .i64 (((([]:List Int).length:Nat):Int)+((([]:List Int).length:Nat):Int)))=false:=by decide
 rw [e0];simp only [cond_false];rw [Uw p.2.2.1 p.2.2.2 g.eu (by omega) (by omega)]
 simp only [KY'];have hN:=kc' hp g.eu;have hk:=ng' hT hN;have hk':wX (ax.mk (fJ p.2.2.1) (fJ p.2.2.2) g.eu)=_:=hk;rw [hk'];simp only [KY'];have hlen:=hs.len hT;unfold rA;cases (gQ s.1 (uP g.eu (kU g.eu p).Pos (kU g.eu p).Neg)).getD false
 ·simp only [NH',cond_true];rw [dX (by simp only [Ld',Lh']; omega)]
  rfl
 ·rfl
theorem U9 {St β:Type}{step:St->Option (Fl St β)}{s t:St}(h:step s=some (.next t))(k:Nat):iter step (k+1) s=iter step k t:=by simp only [iter,h,KY']
structure Jz' (T:ay)(ps ls:List PZ):Prop where
 ok:∀ q∈ls,sU T q/\¬ ul q
 mem:∀ μ,IB T μ->ls.any (hZ μ)=ps.any (hZ μ)
def P8 (T:ay)(g:ax)(m:Nat)(ps:List PZ):Prop :=
 ∃ c ls,Jz' T ps ls/\∀ (w:List fU) (s:ES) (k:Nat),w.length+4*m<=10000000000->zC T g.eu s ->
  iter (wm T g) (k+c) (w++ps.map jW,s.1,s.2)=iter (wm T g) k (w,(ls.foldl (rA g.eu) s).1,(ls.foldl (rA g.eu) s).2)
theorem ii' (hT:GT T)(g:ax)(m:Nat):∀ r:List PZ,r.length<=4->(∀ q∈r,P8 T g m [q])->P8 T g (m+1) r.reverse
 | [],_,_=>⟨0,[],⟨by simp,λ_ _=>rfl⟩,λw s k _ _=>by simp⟩
 | q::r,hl,h=>by
   simp only [Ld'] at hl;obtain ⟨c1,l1,a1,b1⟩:=h q (by simp)
   have hr:P8 T g (m+1) r.reverse:=ii' hT g m r (by omega) λx hx=>h x (by simp [hx])
   obtain ⟨c2,l2,a2,b2⟩:=hr;refine ⟨c2+c1,l1++l2,⟨λx hx=>?_,λμ hμ=>?_⟩,λw s k hw hs=>?_⟩
   ·rcases Lo'.1 hx with hx | hx
    ·exact a1.ok x hx
    ·exact a2.ok x hx
   ·rw [NM',a1.mem μ hμ,a2.mem μ hμ];simp only [List.reverse_cons,NM',Bool.or_comm]
   ·have e:w++(q::r).reverse.map jW=(w++r.reverse.map jW)++[q].map jW:=by simp
    have hs1:=(Vj hT l1 s hs λx hx=>(a1.ok x hx).1).1;rw [e,<- MC',b1 (w++r.reverse.map jW) s (k+c2) (by simp only [Lf',LH',List.length_reverse]; omega) hs,b2 w _ k hw hs1,List.foldl_append]
theorem qt' (hT:GT T)(g:ax):∀ (m:Nat) (p:PZ),sU T p->ms T p<=m->m<=4000000->P8 T g m [p]:=by
 intro m
 induction m with
 | zero =>
   intro p hp hm hB;have hno:¬ ul p:=λho=>by
    rcases RI (T:=T) ho with ⟨l,i,e,_⟩ | ⟨_,l,i,e,_⟩
    ·have:=EW (T:=T) p.1;rw [e] at this;simp only [Lf',Ld',Lh'] at this;unfold ms at hm;rw [e] at hm;omega
    ·have:=EW (T:=T) p.2.1;rw [e] at this;simp only [Lf',Ld',Lh'] at this;unfold ms at hm;rw [e] at hm;omega
   refine ⟨1,[p],⟨λq hq=>by rw [Lp'] at hq; subst hq; exact ⟨hp,hno⟩,λ_ _=>rfl⟩,λw s k hw hs=>?_⟩
   exact U9 (iG' hT g hp hno (by omega) w (by omega) s hs) k
 | succ m ih =>
   intro p hp hm hB;by_cases ho:ul p
   ·obtain ⟨h1,h2⟩:=fu' hT hp ho;have hr:=ii' hT g m (yg T p).reverse (by rw [List.length_reverse]; exact h2) λq hq=>by have:=h1 q (List.mem_reverse.1 hq);exact ih q this.1 (by omega) (by omega)
    rw [List.reverse_reverse] at hr;obtain ⟨c,ls,a,b⟩:=hr;refine ⟨c+1,ls,⟨a.ok,λμ hμ=>?_⟩,λw s k hw hs=>?_⟩
    ·rw [a.mem μ hμ,wY' hμ hp ho];simp
    ·have e:=U9 (pB' hT g hp ho (by omega) w (by omega) s) (k+c)
     have e':iter (wm T g) (k+(c+1)) (w++[p].map jW,s.1,s.2)=_:=e;rw [e',b w s k hw hs]
   ·refine ⟨1,[p],⟨λq hq=>by rw [Lp'] at hq; subst hq; exact ⟨hp,ho⟩,λ_ _=>rfl⟩,λw s k hw hs=>?_⟩
    exact U9 (iG' hT g hp ho (by omega) w (by omega) s hs) k
structure lX' (T:ay)(g:ax)(out:List ax):Prop where
 ng:∀ e∈out,NG T g.eu e
 len:out.length<=1048576
 mem:∀ μ,IB T μ->(out.any λe=>e.Pos.all μ&&e.Neg.all λk=>!μ k)=(g.Pos.all μ&&g.Neg.all λk=>!μ k)
theorem KD (l:List Int)(r:Int->Bool):(fJ l).all r=l.all r:=by rw [LZ',Le',Le'];exact ⟨λh x hx=>h x ((JA l x).2 hx),λh x hx=>h x ((JA l x).1 hx)⟩
theorem fA' (hN:T.aj.length<=8)(l:List Int):kz T l<=l.length*390625:=by
 induction l with
 | nil=>simp [kz]
 | cons x r ih =>
   have:wt T x<=390625:=by unfold wt;exact Lr' (ND' (by omega) (show T.aj.length-x.toNat<=8 by omega)) (by decide)
   unfold kz at *;simp only [LJ',List.sum_cons,Ld',LP'];omega
theorem zi' (hT:GT T)(hN:T.aj.length<=8)(g:ax)(hg:mr T.aj.length g=true)(hl:g.Pos.length+g.Neg.length<=10) :
 ∃ c out,(∀ n,c<=n->Ht n T g=some out)/\lX' T g out:=by
 unfold mr at hg;simp only [Lc'] at hg;have h1:=FD g.Pos;have h2:=FD g.Neg;have hp:sU T (fJ g.Pos,fJ g.Neg,[],[]):=⟨by simp only [KD]; exact hg.1,by simp only [KD]; exact hg.2,rfl,rfl⟩
 have hm:ms T (fJ g.Pos,fJ g.Neg,[],[])<=4000000:=by have w1:=fA' hN (fJ g.Pos);have w2:=fA' hN (fJ g.Neg);unfold ms;simp only [Lh'];omega
 obtain ⟨c,ls,a,b⟩:=qt' hT g 4000000 _ hp hm (Lg' _);have hs0:zC T g.eu (([],[]):ES):=⟨by simp,by simp,λe _=>by simp [gQ]⟩
 obtain ⟨i1,i2⟩:=Vj hT ls _ hs0 λq hq=>(a.ok q hq).1;refine ⟨c+1,(ls.foldl (rA g.eu) ([],[])).2,λn hn=>?_,⟨i1.ng,i1.len hT,λμ hμ=>?_⟩⟩
 ·unfold Ht;rw [PI g.Pos (by omega),PI g.Neg (by omega)]
  simp only [KY'];obtain ⟨k,rfl⟩:∃ k,n=(k+1)+c:=⟨n-1-c,by omega⟩
  have:=b [] ([],[]) (k+1) (by simp) hs0
  have e:iter (wm T g) (k+1+c) (([fU.mk (fJ g.Pos) (fJ g.Neg) ([]:List Int) ([]:List Int)]:List fU),([]:List (ByteArray×Bool)),([]:List ax))=_:=this;rw [e];have h0:∀ s:ES,wm T g ([],s.1,s.2)=some (.done (s.1,s.2)):=λs=>rfl;simp only [iter,h0,KY']
 ·have hmem:=a.mem μ hμ;have e1:((ls.foldl (rA g.eu) ([],[])).2.any λe=>e.Pos.all μ&&e.Neg.all λk=>!μ k)=ls.any (hZ μ):=by
   have key:∀ q,sU T q/\¬ ul q->hZ μ q=((kU g.eu q).Pos.all μ&&(kU g.eu q).Neg.all λk=>!μ k):=λq hq=>by
    have e:q.1=[]/\q.2.1=[]:=Decidable.not_not.1 (by have:=hq.2; unfold ul at this; exact this)
    unfold hZ kU;simp only [KD,e.1,e.2,Mf',LQ']
   rw [LZ',LL',LL'];constructor
   ·rintro ⟨e,he,h⟩;rcases (i2 e).1 he with h0 | ⟨q,hq,rfl⟩
    ·simp at h0
    ·exact ⟨q,hq,by rw [key q (a.ok q hq)]; exact h⟩
   ·rintro ⟨q,hq,h⟩;exact ⟨_,(i2 _).2 (.inr ⟨q,hq,rfl⟩),by rw [<- key q (a.ok q hq)]; exact h⟩
  rw [e1,hmem];simp [hZ,KD]
end
abbrev Cg (x y:ByteArray):Bool:=decide (cS x y=0)
theorem si' (s0:List ByteArray)(i0 n:Nat)(hn:n<=4194304)(i k:Nat)(s:List ByteArray)(x y:ByteArray)(hl:s.length=n)(hk:i0+k<n)(h1:1<=k)(hi:i<i0+k)(hx:s[i0+k]?=some x)(hy:s[i0+k-1]?=some y) :
 FJ (s0,(i0:Int)) (((i:Int),(k:Int)),s)=some (.next (if Cg x y=true then (((i:Int),((k+1:Nat):Int)),s) else ((((i+1:Nat):Int),((k+1:Nat):Int)),s.set i x))):=by
 unfold FJ;simp only [eZ,aV,Ln'];have hdl:(s.drop i0).length=n-i0:=by rw [LK',hl]
 rw [if_pos (decide_eq_true (by show (k:Int)<(((s.drop i0).length:Nat):Int); rw [hdl]; omega)),bF i (by omega),bF k (by omega),yP k (by omega) h1]
 simp only [Ln'];have a1:ak (s.drop i0) (k:Int)=some x:=aR (by rw [Mh']; exact hx)
 have a2:ak (s.drop i0) ((k-1:Nat):Int)=some y:=aR (by rw [Mh',show i0+(k-1)=i0+k-1 by omega]; exact hy)
 have a3:ak s (i:Int)=some (s[i]'(by omega)):=aR (Lb' (by omega))
 rw [a1,a2,a3,hx,show i0+(k-1)=i0+k-1 by omega,hy,Lb' (show i<s.length by omega)]
 simp only [KY'];rw [AU];by_cases h:cS x y=0<;>simp [Cg,h]
theorem pm' (l:List ByteArray)(hl:l.length<=4194304):EG l=some (mh Cg l):=by
 unfold EG;by_cases h2:(l.length:Int)<2
 ·have e:decide ((l.length:Int)<2)=true:=by simpa using h2
  rw [e]
  match l,h2 with
  | [],_=>rfl
  | [_],_=>rfl
  | _::_::_,h=>exact absurd h (by simp; omega)
 ·have e:decide ((l.length:Int)<2)=false:=by simpa using h2
  rw [e,dw];simp only [cond_false];have key:=WU (r:=Cg) (step:=KP) l (by omega) ?_ ?_ ?_
  ·rcases key with ⟨h,hc⟩ | ⟨q,h⟩
   ·rw [h,hc]; rfl
   ·rw [h]; rfl
  ·intro i x y hi hx hy hr;have hlt:i<l.length:=(La'.1 hx).1;unfold KP;simp only [eZ,aV,Ln'];rw [if_pos (by simp; omega),yP i (by omega) hi,aR hx,aR hy]
   simp only [Ln',hx,hy,KY'];rw [AU];have hr':decide (cS x y=0)=false:=hr;rw [hr',bF i (by omega)]
   rfl
  ·intro i x y hi hx hy hr;have hlt:i<l.length:=(La'.1 hx).1;unfold KP;simp only [eZ,aV,Ln'];rw [if_pos (by simp; omega),yP i (by omega) hi,aR hx,aR hy]
   simp only [Ln',hx,hy,KY'];rw [AU];have hr':decide (cS x y=0)=true:=hr;rw [hr',if_pos rfl];obtain ⟨s',e1,e2,e3⟩:=Xq (r:=Cg) (step:=FJ (l,(i:Int))) i l.length (λi' k s x y a1 a2 a3 a4 a5 a6=>si' l i l.length hl i' k s x y a1 a2 a3 a4 a5 a6)
    (λi' k s a1 a2=>by
      unfold FJ;simp only [Ln'];have:decide ((k:Int)<(((s.drop i).length:Nat):Int))=false:=by rw [LK']; simp; omega
      rw [this];rfl) (l.length-(i+1)) i 1 l x ((l.drop i).length+1) rfl (by omega) (Lg' _) (by omega) (by simpa using hx) (by rw [LK']; omega)
   have zB:iter (FJ (l,(i:Int))) ((l.drop i).length+1) (((i:Int),1),l)=_:=e1;rw [zB];simp only [KY',<- eZ];have hd:=II (r:=Cg) (l.drop (i+1)) x;rw [LK'] at hd;exact YQ (⟨#[]⟩:ByteArray) _ l.length s' _ e2 (by omega) e3
  ·unfold KP;simp
theorem dl':∀ a b:List UInt8,a<=b->lU a b<=0
 | [],[],_=>by simp [lU]
 | [],_::_,_=>by simp [lU]
 | _::_,[],h=>absurd h (by simp)
 | x::xs,y::ys,h=>by
   simp only [lU];rw [List.cons_le_cons_iff] at h;rcases h with h | ⟨h,h2⟩
   ·rcases je (x.toNat:Int) (y.toNat:Int) with ⟨_,e⟩ | ⟨p,_⟩ | ⟨p,_⟩
    ·rw [e]; simp [tn]
    ·have:=UInt8.lt_iff_toNat_lt.1 h; omega
    ·have:=UInt8.lt_iff_toNat_lt.1 h; omega
   ·subst h;have ih:=dl' xs ys h2;rcases je (x.toNat:Int) (x.toNat:Int) with ⟨_,e⟩ | ⟨_,_⟩ | ⟨_,e⟩
    ·omega
    ·omega
    ·rw [e,AB]; exact ih
theorem qn' (l:List ByteArray):(l.mergeSort λx y=>decide (x.data.toList<=y.data.toList)).Pairwise λa b=>¬ cS b a<0:=by
 refine (List.pairwise_mergeSort (le:=λx y:ByteArray=>decide (x.data.toList<=y.data.toList)) (λa b c h1 h2=>?_) (λa b=>?_) l).imp λ{a b} h=>?_
 ·simp only [decide_eq_true_eq] at *;exact List.le_trans h1 h2
 ·simp only [LU',decide_eq_true_eq];exact List.le_total _ _
 ·simp only [decide_eq_true_eq] at h;have h1:cS a b<=0:=dl' _ _ h;have:=Kg.anti a b;omega
def oI (l:List ByteArray):List ByteArray:=l.foldl (iD cS) []
theorem By' (l:List ByteArray)(y:ByteArray):y∈oI l↔y∈l:=(Ke (c:=cS) Kg l).2 y
theorem sB' (l:List ByteArray):(oI l).length<=l.length:=by
 have key:∀ (l out:List ByteArray),(l.foldl (iD cS) out).length<=out.length+l.length:=by
  intro l
  induction l with
  | nil=>intro out; simp
  | cons x r ih =>intro out;have h1:=ih (iD cS out x);have h2:=Pq cS out x;simp only [Mu',Ld'];omega
 have:=key l [];simpa [oI] using this
theorem tU' (l:List ByteArray)(hl:l.length<=4194304):((LQ l).bind λr3=>(EG r3.2).bind λr4=>Jm r4)=some (oI l):=by
 unfold LQ Jz;have e:decide (l.length<4611686018427387904)=true:=by simp; omega
 rw [e];simp only [cond_true,KY'];have hp:=List.mergeSort_perm l λx y:ByteArray=>decide (x.data.toList<=y.data.toList);rw [pm' _ (by rw [hp.length_eq]; exact hl)]
 simp only [KY'];unfold Jm;have:=dU' Kg hp (qn' l);rw [show mh (λx y=>decide (cS x y=0))=mh Cg from rfl] at this
 rw [this];simp [oI]
section
variable {T:ay}
def mO (T:ay)(l:List Int):List ByteArray:=(l.filter λi=>(aC T i).af==19).map λi=>(aC T i).Text
theorem ay' (l:List Int)(hl:l.length<=4194304)(hi:∀ i∈l,bf T.aj.length i=true):yQ T l=some (oI (mO T l)):=by
 unfold yQ;have key:=nK (σ:=List ByteArray) (step:=EB T l) l (λs i=>(s,(i:Int))) (λs k=>if (aC T k).af=19 then s++[(aC T k).Text] else s) (λi s=>s.length<=i) (λs=>s)
  (λi s k hx hI=>by
    have hlt:i<l.length:=(La'.1 hx).1;obtain ⟨j,_,_,_,ei⟩:=su (hi k (Lj' hx));refine ⟨?_,by split<;>(try simp only [Lf',Ld',Lh'])<;>omega⟩
    unfold EB;simp only [aV];rw [dn hlt,aR hx];simp only [cond_true,KY'];rw [ei,bF i (by omega)]
    simp only [KY'];by_cases hk:(aC T k).af=19
    ·rw [if_pos hk,show ((aC T k).af==19)=true by simp [hk]]
     simp only [cond_true];rw [dX (by simp only [Ld',Lh']; omega)]
     rfl
    ·rw [if_neg hk,show ((aC T k).af==19)=false by simp [hk]]
     rfl) (λs _=>by
    unfold EB;simp) [] (by simp) _ (Lg' _)
 have e:iter (EB T l) (l.length+1) (([]:List ByteArray),0)=iter (EB T l) (l.length+1) (([]:List ByteArray),((0:Nat):Int)):=rfl;rw [dw,e,key];simp only [KY',jg];have ef:∀ (l:List Int) (s:List ByteArray),l.foldl (λs k=>if (aC T k).af=19 then s++[(aC T k).Text] else s) s=s++mO T l:=by
  intro l
  induction l with
  | nil=>intro s; simp [mO]
  | cons x r ih =>
    intro s;rw [Mu',ih];unfold mO;rw [List.filter_cons];by_cases hk:(aC T x).af=19
    ·rw [if_pos hk,show ((aC T x).af==19)=true by simp [hk]]; simp
    ·rw [if_neg hk,show ((aC T x).af==19)=false by simp [hk]]; simp
 rw [ef,Mj'];have hv:(mO T l).length<=l.length:=by unfold mO; rw [LH']; exact NA' _ _
 exact tU' _ (by omega)
end
def Ez (p q:List ByteArray):Bool:=p.any λx=>q.any λy=>bU y x
theorem nK' (l:List ByteArray)(f:ByteArray->Option Bool)(p:ByteArray->Bool)(hl:l.length<=4194304)(hf:∀ x∈l,f x=some (p x)):Sw l f=some (l.any p):=by
 unfold Sw WY;rw [dw];rcases qJ (step:=Qt l f) l p (λi _=>(i:Int)) (λi y hy=>by
  have hi:i<l.length:=(La'.1 hy).1;unfold Qt;rw [dn hi,aR hy];simp only [cond_true,KY',aV];rw [hf y (Lj' hy),bF i (by omega)]
  cases p y<;>rfl) (by
  unfold Qt;simp) with ⟨i,y,hy,hp,_,e⟩ | ⟨h,e⟩
 ·rw [e,vE hy hp];simp only [KY',aL,Cr]
 ·rw [e,h];rfl
theorem Du' (p q:List ByteArray)(h1:p.length<=4194304)(h2:q.length<=4194304):Gl p q=some (Ez p q):=by
 unfold Gl;rw [nK' p _ (λx=>q.any λy=>bU y x) h1 λx _=>by unfold XC;simp only [jg];exact sk' q x h2]
 rfl
def nR (r:aJ)(n:Int):Bool:=decide (r.Lo<=n)&&decide (n<=r.Hi)
def gD (l:List aJ)(n:Int):Bool:=l.any λr=>nR r n
def rI (r:aJ):Prop:=(-9223372036854775808)<=r.Lo/\r.Lo<=9223372036854775807/\(-9223372036854775808)<=r.Hi/\r.Hi<=9223372036854775807
structure VR (l:List aJ):Prop where
 i:∀ r∈l,rI r
 le:∀ r∈l,r.Lo<=r.Hi
 gap:l.Pairwise λa b=>a.Hi+1<b.Lo
theorem VR.nil:VR []:=⟨by simp,by simp,NV'.nil⟩
def ql (o r:aJ):Bool:=o.Hi==9223372036854775807||decide (r.Lo<=o.Hi+1)
def oJ (out:List aJ)(r:aJ):List aJ:=match out.getLast? with
 | some o=>if ql o r=true then out.dropLast++[aJ.mk o.Lo (max o.Hi r.Hi)] else out++[r]
 | none=>[r]
theorem SI {α:Type}{l:List α}{o:α}(h:l.getLast?=some o):l=l.dropLast++[o]:=by
 cases l with
 | nil=>simp at h
 | cons x r =>
   rw [List.getLast?_eq_some_getLast (by simp)] at h
   have:=List.dropLast_concat_getLast (l:=x::r) (by simp)
   rw [LI'.inj h] at this;exact this.symm
theorem sy' {out:List aJ}{r:aJ}(h:VR out)(hr:rI r)(hl:r.Lo<=r.Hi)(hs:∀ o∈out,o.Lo<=r.Lo) :
 VR (oJ out r)/\(∀ n,gD (oJ out r) n=(gD out n||nR r n))/\(∀ o∈oJ out r,o.Lo<=r.Lo):=by
 unfold oJ;cases hg:out.getLast? with
 | none =>have e:=Ni'.1 hg;subst e;exact ⟨⟨by simp [hr],by simp [hl],by simp⟩,λn=>by simp [gD],by simp⟩
 | some o =>
   have e:=SI hg;generalize out.dropLast=a at e ⊢;subst e;have ho:=hs o (by simp)
   have hoi:=h.i o (by simp)
   have hol:=h.le o (by simp)
   have hga:=ML'.1 h.gap;dsimp only;cases ht:ql o r with
   | true =>
     simp only [if_true];have hm:o.Hi=9223372036854775807\/r.Lo<=o.Hi+1:=by unfold ql at ht;simpa using ht
     unfold rI at *;refine ⟨⟨λx hx=>?_,λx hx=>?_,?_⟩,λn=>?_,λx hx=>?_⟩
     ·rcases Lo'.1 hx with hx | hx
      ·exact h.i x (by simp [hx])
      ·rw [Lp'] at hx; subst hx;unfold rI;simp only;omega
     ·rcases Lo'.1 hx with hx | hx
      ·exact h.le x (by simp [hx])
      ·rw [Lp'] at hx; subst hx;simp only;omega
     ·refine ML'.2 ⟨hga.1,by simp,λx hx y hy=>?_⟩
      rw [Lp'] at hy; subst hy;exact hga.2.2 x hx o (by simp)
     ·unfold gD;simp only [NM',MA',Nf',MP'];rw [Bool.or_assoc];congr 1;unfold nR;rw [LZ'];simp only [LU',Lc',decide_eq_true_eq];omega
     ·rcases Lo'.1 hx with hx | hx
      ·exact hs x (by simp [hx])
      ·rw [Lp'] at hx; subst hx;exact ho
   | false =>
     rw [if_neg (by simp)]
     have hm:o.Hi+1<r.Lo:=by unfold ql at ht;simp at ht;omega
     refine ⟨⟨λx hx=>?_,λx hx=>?_,?_⟩,λn=>?_,λx hx=>?_⟩
     ·rcases Lo'.1 hx with hx | hx
      ·exact h.i x hx
      ·rw [Lp'] at hx; subst hx; exact hr
     ·rcases Lo'.1 hx with hx | hx
      ·exact h.le x hx
      ·rw [Lp'] at hx; subst hx; exact hl
     ·refine ML'.2 ⟨h.gap,by simp,λx hx y hy=>?_⟩
      rw [Lp'] at hy; subst hy;rcases Lo'.1 hx with hx | hx
      ·have:=hga.2.2 x hx o (by simp)
       omega
      ·rw [Lp'] at hx; subst hx; exact hm
     ·unfold gD;simp only [NM',MA',Nf',MP']
     ·rcases Lo'.1 hx with hx | hx
      ·exact hs x hx
      ·rw [Lp'] at hx; subst hx; exact Int.le_refl _
theorem da' (out:List aJ)(r:aJ):(oJ out r).length<=out.length+1:=by
 unfold oJ;cases hg:out.getLast? with
 | none=>simp
 | some o =>have e:=congrArg List.length (SI hg);simp only [Lf',Ld',Lh'] at e;dsimp only;cases ql o r<;>simp<;>omega
theorem bB':∀ (l out:List aJ),VR out->(∀ r∈l,rI r/\r.Lo<=r.Hi)->l.Pairwise (λa b=>a.Lo<=b.Lo)->(∀ o∈out,∀ r∈l,o.Lo<=r.Lo) ->
 VR (l.foldl oJ out)/\(∀ n,gD (l.foldl oJ out) n=(gD out n||gD l n))/\(l.foldl oJ out).length<=out.length+l.length
 | [],out,h,_,_,_=>⟨h,λn=>by simp [gD],by simp⟩
 | r::l,out,h,hl,hp,hs=>by
   have hp2:=Mr'.1 hp;have h1:=hl r (by simp)
   obtain ⟨a,b,c⟩:=sy' h h1.1 h1.2 λo ho=>hs o ho r (by simp)
   obtain ⟨d,e,f⟩:=bB' l (oJ out r) a (λx hx=>hl x (by simp [hx])) hp2.2 λo ho x hx=>Int.le_trans (c o ho) (hp2.1 x hx)
   refine ⟨d,λn=>?_,?_⟩
   ·rw [Mu',e,b];simp only [gD,MA',Bool.or_assoc]
   ·have:=da' out r;simp only [Mu',Ld'];omega
theorem JJ (i:Nat)(h:i<=4611686018427387904):wr .i64 ((i:Int)+1)=((i+1:Nat):Int):=bF i h
theorem Ue {x:Int}(h1 : -9223372036854775808<=x)(h2:x<=9223372036854775807):wr .i64 x=x:=dZ h1 h2
theorem DG' (x y:Int):OJ x y=some (cI x y):=by
 unfold OJ R5;simp only [KY',bne_self_eq_false,cond_false];rcases je x y with ⟨h,k⟩ | ⟨h,k⟩ | ⟨h,k⟩
 ·rw [k,show decide (x<y)=true from decide_eq_true h]; rfl
 ·rw [k,show decide (x<y)=false from decide_eq_false (by omega),show decide (y<x)=true from decide_eq_true (by omega)]; rfl
 ·rw [k,show decide (x<y)=false from decide_eq_false (by omega),show decide (y<x)=false from decide_eq_false (by omega)]; rfl
theorem oB' (l:List aJ)(hl:l.length<=4194304):∃ m,(uX l λz5 z6=>(J7 z5 z6).bind λr7=>some r7)=some ((),m)/\m.Perm l/\m.Pairwise λa b=>a.Lo<=b.Lo:=by
 have eg:(λz5 z6:aJ=>(J7 z5 z6).bind λr7=>some r7)=λa b=>some (cI a.Lo b.Lo):=by funext a b;unfold J7;simp only [jg];exact DG' _ _
 rw [eg];have hlt:∀ a b:aJ,jb (λa b:aJ=>some (cI a.Lo b.Lo)) a b=decide (a.Lo<b.Lo):=λa b=>by unfold jb;exact (az' a.Lo b.Lo).symm
 have hw:DY (jb (λa b:aJ=>some (cI a.Lo b.Lo))) l:=⟨λx _=>by rw [hlt]; simp,λx _ y _ z _ h1 h2=>by
  rw [hlt] at *;simp only [decide_eq_true_eq] at *;omega,λx _ y _ z _ h1 h2=>by
  rw [hlt] at *;simp only [decide_eq_false_iff_not] at *;omega⟩
 have hok:DZ l (λa b:aJ=>some (cI a.Lo b.Lo)):=⟨by omega,λx _ y _=>⟨_,rfl⟩,hw⟩
 obtain ⟨h1,h2⟩:=YN hw;refine ⟨vz (jb λa b:aJ=>some (cI a.Lo b.Lo)) l,?_,h1,h2.imp λ{a b} h=>?_⟩
 ·unfold uX KI;rw [if_pos hok];rfl
 ·rw [hlt] at h;simp only [decide_eq_false_iff_not] at h;omega
theorem zv' {l m:List aJ}(h:l.Perm m)(n:Int):gD l n=gD m n:=by unfold gD;rw [LZ',LL',LL'];exact ⟨λ⟨r,a,b⟩=>⟨r,h.mem_iff.1 a,b⟩,λ⟨r,a,b⟩=>⟨r,h.mem_iff.2 a,b⟩⟩
theorem Co' (l:List aJ)(n:Int):gD (l.filter λr=>decide (r.Lo<=r.Hi)) n=gD l n:=by
 unfold gD;rw [LZ',LL',LL'];constructor
 ·rintro ⟨r,a,b⟩;exact ⟨r,(MM'.1 a).1,b⟩
 ·rintro ⟨r,a,b⟩;refine ⟨r,MM'.2 ⟨a,?_⟩,b⟩;unfold nR at b;simp at b ⊢;omega
theorem oc' (m:List aJ)(hm:m.length<=4194304)(i:Nat)(out:List aJ)(r:aJ)(hx:m[i]?=some r)(hout:out.length<=i)(ho:∀ o∈out,rI o) :
 Cc ((),m) (out,m,(i:Int))=some (.next (oJ out r,m,((i+1:Nat):Int))):=by
 have hi:i<m.length:=(La'.1 hx).1;unfold Cc;simp only [Ln'];rw [dn hi,aR hx,hx];simp only [cond_true,KY',jg];unfold oJ;cases hg:out.getLast? with
 | none =>
   have e:=Ni'.1 hg;subst e;have e1:decide (0<=wr .i64 (((([]:List aJ)).length:Int)-1))=false:=by decide
   rw [e1];simp only [cond_false,KY'];rw [dX (by simp),JJ i (by omega)]
   rfl
 | some o =>
   have e:=SI hg;generalize out.dropLast=a at e ⊢;subst e;have hal:a.length+1<=4194304:=by simp only [Lf',Ld',Lh'] at hout; omega
   have hw:wr .i64 (((a++[o]).length:Int)-1)=(a.length:Int):=by
    rw [Ue (by simp only [Lf',Ld',Lh']; omega) (by simp only [Lf',Ld',Lh']; omega)]
    simp only [Lf',Ld',Lh']; omega
   have hat:(a++[o])[a.length]?=some o:=by rw [Ls' (Lg' _)]; simp
   have hset:∀ x:aJ,(a++[o]).set a.length x=a++[x]:=λx=>by rw [List.set_append];simp
   obtain ⟨o1,o2,o3,o4⟩:=ho o (by simp)
   rw [hw,aR hat];simp only [Ln',hat,KY'];rw [show decide (0<=(a.length:Int))=true from decide_eq_true (by omega),JJ i (by omega)]
   simp only [cond_true];have ht:(bif o.Hi==9223372036854775807 then some true else some (decide (r.Lo<=wr .i64 (o.Hi+1))))=some (ql o r):=by
    unfold ql;cases hh:o.Hi==9223372036854775807 with
    | true=>simp [hh]
    | false =>
      have:o.Hi≠9223372036854775807:=by simpa using hh
      rw [Ue (by omega) (by omega)]
      simp [hh]
   rw [ht];simp only [KY'];cases ql o r with
   | true=>simp [hset]
   | false =>
     simp only [cond_false];rw [dX (by simp only [Lf',Ld',Lh']; omega)]
     simp
theorem CR' {out:List aJ}{r:aJ}(ho:∀ o∈out,rI o)(hr:rI r):∀ o∈oJ out r,rI o:=by
 unfold oJ;cases hg:out.getLast? with
 | none=>intro o h; simp only [Lp'] at h; subst h; exact hr
 | some o =>
   have e:=SI hg;generalize out.dropLast=a at e ⊢;subst e;have h1:=ho o (by simp)
   dsimp only;intro x hx;cases ht:ql o r
   ·rw [ht,if_neg (by simp)] at hx
    rcases Lo'.1 hx with hx | hx
    ·exact ho x hx
    ·rw [Lp'] at hx; subst hx; exact hr
   ·rw [ht,if_pos rfl] at hx;rcases Lo'.1 hx with hx | hx
    ·exact ho x (by simp [hx])
    ·rw [Lp'] at hx; subst hx;unfold rI at *;simp only;omega
theorem Ot (l:List aJ)(hl:l.length<=1048576)(hi:∀ r∈l,rI r):∃ m,zX l=some m/\VR m/\(∀ n,gD m n=gD l n)/\m.length<=l.length:=by
 unfold zX;have key:=nK (σ:=List aJ) (step:=Gw l) l (λs i=>(s,(i:Int))) (λs r=>if r.Lo<=r.Hi then s++[r] else s) (λi s=>s.length<=i) (λs=>s)
  (λi s k hx hI=>by
    have hlt:i<l.length:=(La'.1 hx).1;refine ⟨?_,by split<;>(try simp only [Lf',Ld',Lh'])<;>omega⟩
    unfold Gw;simp only [aV];rw [dn hlt,aR hx];simp only [cond_true,KY'];rw [bF i (by omega)]
    by_cases hk:k.Lo<=k.Hi
    ·rw [if_pos hk,show decide (k.Lo<=k.Hi)=true from decide_eq_true hk]
     simp only [cond_true];rw [dX (by simp only [Ld',Lh']; omega)]
     rfl
    ·rw [if_neg hk,show decide (k.Lo<=k.Hi)=false from decide_eq_false hk]
     rfl) (λs _=>by
    unfold Gw;simp) [] (by simp) _ (Lg' _)
 have e:iter (Gw l) (l.length+1) (([]:List aJ),0)=iter (Gw l) (l.length+1) (([]:List aJ),((0:Nat):Int)):=rfl;rw [dw,e,key];simp only [KY'];have ef:∀ (l s:List aJ),l.foldl (λs r=>if r.Lo<=r.Hi then s++[r] else s) s=s++l.filter λr=>decide (r.Lo<=r.Hi):=by
  intro l
  induction l with
  | nil=>intro s; simp
  | cons x r ih =>
    intro s;rw [Mu',ih,List.filter_cons];by_cases hk:x.Lo<=x.Hi
    ·rw [if_pos hk,show decide (x.Lo<=x.Hi)=true from decide_eq_true hk]; simp
    ·rw [if_neg hk,show decide (x.Lo<=x.Hi)=false from decide_eq_false hk]; simp
 rw [ef,Mj'];have hfl:=NA' (λr:aJ=>decide (r.Lo<=r.Hi)) l;obtain ⟨m,h1,h2,h3⟩:=oB' (l.filter λr=>decide (r.Lo<=r.Hi)) (by omega)
 rw [h1];simp only [KY',dw];have hml:=h2.length_eq;have hin:∀ r∈m,rI r/\r.Lo<=r.Hi:=λr hr=>by have:=MM'.1 (h2.mem_iff.1 hr);exact ⟨hi r this.1,by simpa using this.2⟩
 have Qh:=nK (σ:=List aJ) (step:=Cc ((),m)) m (λs i=>(s,m,(i:Int))) oJ (λi s=>s.length<=i/\∀ o∈s,rI o) (λs=>(s,m))
  (λi s k hx hI=>⟨oc' m (by omega) i s k hx hI.1 hI.2,by have:=da' s k; omega,CR' hI.2 (hin k (Lj' hx)).1⟩) (λs _=>by unfold Cc;simp) [] ⟨by simp,by simp⟩ _ (Lg' _)
 have e2:iter (Cc ((),m)) (m.length+1) (([]:List aJ),m,0)=iter (Cc ((),m)) (m.length+1) (([]:List aJ),m,((0:Nat):Int)):=rfl;rw [e2,Qh];obtain ⟨k1,k2,k3⟩:=bB' m [] VR.nil hin h3 (by simp)
 refine ⟨_,rfl,k1,λn=>?_,by rw [Lh',LM'] at k3; show (List.foldl oJ [] m).length<=l.length; omega⟩
 rw [k2,zv' h2,Co'];simp [gD]
def wN (a b:aJ):aJ:=aJ.mk (max a.Lo b.Lo) (min a.Hi b.Hi)
theorem js' (a b:aJ)(n:Int):nR (wN a b) n=(nR a n&&nR b n):=by unfold nR wN;rw [LZ'];simp only [Lc',decide_eq_true_eq];omega
theorem zz' {a b:aJ}(ha:rI a)(hb:rI b):rI (wN a b):=by unfold rI wN at *;simp only;omega
theorem bQ' (a b:List aJ)(hab:a.length*b.length<=1000000)(ha:a.length<=1000000)(hb:b.length<=1000000)(hai:∀ r∈a,rI r)(hbi:∀ r∈b,rI r) :
 ∃ m,CV a b=some m/\VR m/\(∀ n,gD m n=(gD a n&&gD b n))/\m.length<=a.length*b.length:=by
 obtain ⟨x,x1,x2,x3,x4⟩:=Ot a (by omega) hai
 obtain ⟨y,y1,y2,y3,y4⟩:=Ot b (by omega) hbi
 have hxy:x.length*y.length<=a.length*b.length:=NG' x4 y4;unfold CV;rw [x1];simp only [KY',dw];have inner:∀ (r:aJ) (s:List aJ),s.length+y.length<=1048576->iter (Cy r y) (y.length+1) (s,0)=some (s++y.map (wN r)):=λr s hs=>by
  have key:=nK (σ:=List aJ) (step:=Cy r y) y (λs i=>(s,(i:Int))) (λs q=>s++[wN r q]) (λi s'=>s'.length=s.length+i) (λs=>s)
   (λi s' q hx hI=>by
     have hlt:i<y.length:=(La'.1 hx).1;refine ⟨?_,by simp only [Lf',Ld',Lh']; omega⟩
     unfold Cy;simp only [aV];rw [dn hlt,aR hx];simp only [cond_true,KY'];rw [dX (by simp only [Ld',Lh']; omega),bF i (by omega)]
     rfl) (λs _=>by
     unfold Cy;simp) s (by simp) _ (Lg' _)
  have e:iter (Cy r y) (y.length+1) (s,0)=iter (Cy r y) (y.length+1) (s,((0:Nat):Int)):=rfl;rw [e,key,RA]
 have key:=nK (σ:=List aJ) (step:=Gb b x) x (λs i=>(s,(i:Int))) (λs r=>s++y.map (wN r)) (λi s=>s.length=i*y.length) (λs=>s)
  (λi s r hx hI=>by
    have hlt:i<x.length:=(La'.1 hx).1;refine ⟨?_,by rw [Lf',LH',hI,LP']; omega⟩
    have hbd:i*y.length+y.length<=x.length*y.length:=by
     have:(i+1)*y.length<=x.length*y.length:=LA' _ (by omega)
     rw [LP'] at this;omega
    unfold Gb;simp only [aV];rw [dn hlt,aR hx];simp only [cond_true,KY'];rw [y1];simp only [KY',dw];rw [inner r s (by rw [hI]; omega),bF i (by omega)]
    rfl) (λs _=>by
    unfold Gb;simp) [] (by simp) _ (Lg' _)
 have e:iter (Gb b x) (x.length+1) (([]:List aJ),0)=iter (Gb b x) (x.length+1) (([]:List aJ),((0:Nat):Int)):=rfl;rw [e,key,Ar];simp only [KY',Mj',jg];have hfl:(x.flatMap λr=>y.map (wN r)).length=x.length*y.length:=by
  have:∀ x:List aJ,(x.flatMap λr=>y.map (wN r)).length=x.length*y.length:=by
   intro x
   induction x with
   | nil=>simp
   | cons z r ih=>simp only [Mk',Lf',LH',ih,Ld',LP']; omega
  exact this x
 obtain ⟨m,m1,m2,m3,m4⟩:=Ot (x.flatMap λr=>y.map (wN r)) (by omega) λr hr=>by obtain ⟨p,hp,hr⟩:=Ng'.1 hr;obtain ⟨q,hq,rfl⟩:=Lx'.1 hr;exact zz' (x2.i p hp) (y2.i q hq)
 refine ⟨m,m1,m2,λn=>?_,by omega⟩
 rw [m3,<- x3,<- y3];unfold gD;rw [LZ'];simp only [LL',Lc',Ng',Lx'];constructor
 ·rintro ⟨r,⟨p,hp,q,hq,rfl⟩,h⟩;rw [js',Lc'] at h;exact ⟨⟨p,hp,h.1⟩,q,hq,h.2⟩
 ·rintro ⟨⟨p,hp,h1⟩,q,hq,h2⟩;exact ⟨_,⟨p,hp,q,hq,rfl⟩,by rw [js',h1,h2]; rfl⟩
theorem yV' (r:aJ)(h:r.Lo<=r.Hi)(hi:rI r):zX [r]=some [r]:=by
 obtain ⟨m,m1,m2,m3,m4⟩:=Ot [r] (by simp) (by simpa using hi)
 rw [m1];congr 1;simp only [Ld',Lh'] at m4
 match m,m2,m3,m4 with
 | [],_,m3,_ =>have:=m3 r.Lo;simp [gD,nR] at this;omega
 | [x],m2,m3,_ =>
   have h1:=m2.le x (by simp)
   have h3:∀ n:Int,(x.Lo<=n/\n<=x.Hi)↔(r.Lo<=n/\n<=r.Hi):=λn=>by have:=m3 n;unfold gD nR at this;simp only [MA',Nf',MP'] at this;rw [LZ'] at this;simpa using this
   have a:=h3 x.Lo;have b:=h3 x.Hi;have c:=h3 r.Lo;have d:=h3 r.Hi;obtain ⟨x1,x2⟩:=x;obtain ⟨r1,r2⟩:=r;simp only at *;have:x1=r1:=by omega
   have:x2=r2:=by omega
   subst_vars
   rfl
theorem rz' (r:aJ)(h:r.Lo<=r.Hi)(hi:rI r):∃ m,Ma [r]=some m/\(∀ x∈m,rI x)/\(∀ n,(-9223372036854775808)<=n->n<=9223372036854775807->gD m n=!nR r n)/\m.length<=2:=by
 unfold Ma;rw [yV' r h hi];simp only [KY'];obtain ⟨h1,h2,h3,h4⟩:=hi;have e0:(([r]:List aJ).length:Int).toNat+1=2:=rfl;rw [e0];have s1:J6 [r] ([],-9223372036854775808,0)=(bif r.Hi==9223372036854775807 then some (.done (.inr (if (-9223372036854775808)<r.Lo then [aJ.mk (-9223372036854775808) (r.Lo-1)] else []))) else some (.next ((if (-9223372036854775808)<r.Lo then [aJ.mk (-9223372036854775808) (r.Lo-1)] else []),r.Hi+1,1))):=by
  unfold J6;have ei:ak [r] 0=some r:=aR (i:=0) rfl;have ed:decide ((0:Int)<(([r]:List aJ).length:Int))=true:=rfl;simp only [aV];rw [ed,ei];simp only [cond_true,KY'];rw [AQ _ (by simp) _ (by omega)]
  have ew:d9 (0+1)=1:=by decide
  rw [ew];by_cases hl:(-9223372036854775808)<r.Lo
  ·rw [if_pos hl,show decide (-9223372036854775808<r.Lo)=true from decide_eq_true hl,dZ (x:=r.Lo-1) (by omega) (by omega)]
   simp only [cond_true,KY',Mj'];cases hh:r.Hi==9223372036854775807
   ·have:r.Hi≠9223372036854775807:=by simpa using hh
    rw [dZ (x:=r.Hi+1) (by omega) (by omega)]
   ·rfl
  ·rw [if_neg hl,show decide (-9223372036854775808<r.Lo)=false from decide_eq_false hl]
   simp only [cond_false,KY'];cases hh:r.Hi==9223372036854775807
   ·have:r.Hi≠9223372036854775807:=by simpa using hh
    rw [dZ (x:=r.Hi+1) (by omega) (by omega)]
   ·rfl
 have mem1:∀ n,(-9223372036854775808)<=n->gD (if (-9223372036854775808)<r.Lo then [aJ.mk (-9223372036854775808) (r.Lo-1)] else []) n=decide (n<r.Lo):=λn hn=>by
  by_cases hl:(-9223372036854775808)<r.Lo
  ·rw [if_pos hl];simp only [gD,nR,MA',Nf',MP'];rw [LZ'];simp only [Lc',decide_eq_true_eq];omega
  ·rw [if_neg hl];simp only [gD,Nf'];rw [eq_comm,decide_eq_false_iff_not];omega
 have ZT:∀ x∈(if (-9223372036854775808)<r.Lo then [aJ.mk (-9223372036854775808) (r.Lo-1)] else []),rI x:=λx hx=>by
  by_cases hl:(-9223372036854775808)<r.Lo
  ·rw [if_pos hl,Lp'] at hx;subst hx;unfold rI;simp only;omega
  ·rw [if_neg hl] at hx;simp at hx
 have TY:(if (-9223372036854775808)<r.Lo then [aJ.mk (-9223372036854775808) (r.Lo-1)] else []).length<=1:=by split<;>simp
 generalize (if (-9223372036854775808)<r.Lo then [aJ.mk (-9223372036854775808) (r.Lo-1)] else [])=A at s1 mem1 ZT TY
 simp only [iter,s1];cases hh:r.Hi==9223372036854775807
 ·have hne:r.Hi≠9223372036854775807:=by simpa using hh
  have s2:J6 [r] (A,r.Hi+1,1)=some (.done (.inl (A,r.Hi+1))):=by unfold J6;rfl
  simp only [cond_false,KY',s2,aL];rw [AQ _ (by simp only [Ld',Lh']; omega) _ (by omega)]
  refine ⟨_,rfl,λx hx=>?_,λn n1 n2=>?_,by simp only [Lf',Ld',Lh']; omega⟩
  ·rcases Lo'.1 hx with hx | hx
   ·exact ZT x hx
   ·rw [Lp'] at hx;subst hx;unfold rI;simp only;omega
  ·have:=mem1 n n1;unfold gD at *;rw [NM',this];simp only [MA',Nf',MP',nR];rw [LZ'];simp only [LU',Lc',decide_eq_true_eq,MN',Bool.and_eq_false_iff,decide_eq_false_iff_not];omega
 ·have he:r.Hi=9223372036854775807:=by simpa using hh
  simp only [cond_true,KY',aL];refine ⟨A,rfl,ZT,λn n1 n2=>?_,by omega⟩
  rw [mem1 n n1];unfold nR;rw [LZ'];simp only [decide_eq_true_eq,MN',Bool.and_eq_false_iff,decide_eq_false_iff_not];omega
theorem eG' {σ α St β:Type}{step:St->Option (Fl St β)}(xs:List α)(pack:σ->Nat->St)(I:Nat->σ->Prop)(D:σ->β)
 (hstep:∀ i s x,xs[i]?=some x->I i s->∃ s',step (pack s i)=some (.next (pack s' (i+1)))/\I (i+1) s')
 (hend:∀ s,I xs.length s->step (pack s xs.length)=some (.done (D s))) (s0:σ) (h0:I 0 s0) (k:Nat) (hk:xs.length+1<=k) :
 ∃ s,iter step k (pack s0 0)=some (D s)/\I xs.length s:=by
 have key:∀ (n i:Nat) (s:σ) (k:Nat),i+n=xs.length->n+1<=k->I i s->∃ s',iter step k (pack s i)=some (D s')/\I xs.length s':=by
  intro n
  induction n with
  | zero =>
    intro i s k hi hk hI;have e:i=xs.length:=by omega
    subst e;obtain ⟨k,rfl⟩:∃ m,k=m+1:=⟨k-1,by omega⟩
    exact ⟨s,by simp only [iter,hend s hI,KY'],hI⟩
  | succ n ih =>
    intro i s k hi hk hI;have hlt:i<xs.length:=by omega
    obtain ⟨k,rfl⟩:∃ m,k=m+1:=⟨k-1,by omega⟩
    obtain ⟨s',h1,h2⟩:=hstep i s xs[i] (Lb' hlt) hI;obtain ⟨t,h3,h4⟩:=ih (i+1) s' k (by omega) (by omega) h2
    exact ⟨t,by simp only [iter,h1,KY']; exact h3,h4⟩
 exact key xs.length 0 s0 k (by omega) hk h0
theorem pd' (x y:ByteArray):bU x y=true↔x=y:=by rw [AU,decide_eq_true_iff];exact ⟨RD,λh=>by subst h; exact Kg.self x⟩
def Lu (l:List ByteArray)(s:ByteArray):Bool:=l.any λy=>bU y s
theorem jb' {α:Type}(p:α->Bool):∀ (l s:List α),l.foldl (λs x=>if p x=true then s++[x] else s) s=s++l.filter p
 | [],s=>by simp
 | x::r,s=>by rw [Mu',jb' p r,List.filter_cons];cases p x<;>simp
theorem zJ' {α:Type}{step:List α×Int->Option (Fl (List α×Int) (List α))}(xs:List α)(p:α->Bool)(hst:∀ (i:Nat) (s:List α) (x:α),xs[i]?=some x->s.length<=i->step (s,(i:Int))=some (.next (if p x=true then s++[x] else s,((i+1:Nat):Int))))
 (hend:∀ s,step (s,(xs.length:Int))=some (.done s)):iter step (xs.length+1) ([],0)=some (xs.filter p):=by
 have key:=nK (σ:=List α) (step:=step) xs (λs i=>(s,(i:Int))) (λs x=>if p x=true then s++[x] else s) (λi s=>s.length<=i) (λs=>s)
  (λi s x hx hI=>⟨hst i s x hx hI,by split<;>(try simp only [Lf',Ld',Lh'])<;>omega⟩) (λs _=>hend s) [] (by simp) _ (Lg' _)
 have e:iter step (xs.length+1) (([]:List α),0)=iter step (xs.length+1) (([]:List α),((0:Nat):Int)):=rfl;rw [e,key,jb',Mj']
def cT' (a:gV)(s:ByteArray):Bool:=Lu a.iQ s != a.kG
def uj (K A:Int)(x:aF):Bool :=
 if x.af=3 then K==1 else if x.af=4\/x.af=5 then K==2 else if x.af=6\/x.af=7 then K==3 else if x.af=8 then K==4 else if x.af=9 then K==5 else if x.af=12 then K==7 else
 if x.af=13 then K==8 else if x.af=11 then K==6 else if x.af=10 then K==6&&A==(x.ai.length:Int) else if x.af=15 then K==9 else if x.af=14 then K==9&&A==(x.ai.length:Int)-1 else false
def nI (K:Int):Int:=if K=1 then 3 else if K=2 then 4 else if K=3 then 6 else 0
def Au (K:Int):Int:=if K=2 then 5 else if K=3 then 7 else if K=4 then 8 else if K=5 then 9 else if K=6 then 11 else if K=9 then 15 else 0
def F3 (K:Int):Int:=if K=6 then 10 else if K=7 then 12 else if K=8 then 13 else if K=9 then 14 else 0
def kg (v:Val):Int:=if v.af=6 then (v.ai.length:Int) else if v.af=9 then v.bn else 0
theorem Ap {T:ay}(hT:GT T){i:Int}(h:fM T i=true):∃ j:Nat,i=(j:Int)/\j<T.aj.length/\T.aj[j]?=some (aC T i)/\GN T.aj.length j (aC T i) /\
 ((aC T i).af=3\/(aC T i).af=4\/(aC T i).af=5\/(aC T i).af=6\/(aC T i).af=7\/(aC T i).af=8\/(aC T i).af=9\/(aC T i).af=10\/(aC T i).af=11\/(aC T i).af=12\/(aC T i).af=13\/(aC T i).af=14\/(aC T i).af=15\/(aC T i).af=19):=by
 unfold fM at h;simp only [Lc',MN',NC',beq_eq_false_iff_ne,ne_eq] at h;obtain ⟨hi,⟨⟨⟨h1,h2⟩,h16⟩,Bo⟩,h18⟩:=h;obtain ⟨j,rfl,hj,e,_⟩:=su hi;have hg:=hT.nodes j _ e;refine ⟨j,rfl,hj,e,hg,?_⟩;rcases Gr (aC T (j:Int)).af with h | h
 ·omega
 ·have hn:=hg.ok;have e:∀ n:Int,1<=n->n<=19->¬ (aC T (j:Int)).af=n:=λn h1 h2=>by simpa using h n h1 h2
  unfold fC jd at hn;rw [if_neg (e 3 (by omega) (by omega)),if_neg (e 4 (by omega) (by omega)),if_neg (e 6 (by omega) (by omega)),if_neg (e 19 (by omega) (by omega)),if_neg (by have:=e 1 (by omega) (by omega); have:=e 2 (by omega) (by omega); have:=e 5 (by omega) (by omega); have:=e 7 (by omega) (by omega); have:=e 8 (by omega) (by omega); have:=e 9 (by omega) (by omega); have:=e 11 (by omega) (by omega); have:=e 15 (by omega) (by omega); omega),
   if_neg (e 10 (by omega) (by omega)),if_neg (e 12 (by omega) (by omega)),if_neg (e 14 (by omega) (by omega)),if_neg (by have:=e 16 (by omega) (by omega); have:=e 17 (by omega) (by omega); omega),if_neg (e 18 (by omega) (by omega)),if_neg (e 13 (by omega) (by omega))] at hn
  simp at hn
section
variable {T:ay}{v:Val}
theorem bD' (hT:GT T)(ho:bP v=true)(hb:bD v<=4194304){i:Int}(hi:fM T i=true)(hn:(aC T i).af≠19)(hm:bE T v i=true):uj v.af (kg v) (aC T i)=true:=by
 obtain ⟨j,rfl,hj,e,hg,hK⟩:=Ap hT hi;rw [PS hT e ho hb] at hm;have hl:(aC T (j:Int)).af=14->1<=(aC T (j:Int)).ai.length:=λhk=>by have hn:=hg.ok;unfold fC jd at hn;simp only [hk,Lc'] at hn;have hn2:=hn.2.2.2.2;simp at hn2;omega
 generalize aC T (j:Int)=x at *;unfold pF at hm;unfold uj kg;rcases hK with hK | hK | hK | hK | hK | hK | hK | hK | hK | hK | hK | hK | hK | hK<;>simp only [hK] at hm hn hl ⊢<;>simp at hm hn hl ⊢
 ·exact hm.1
 ·exact hm.1
 ·exact hm
 ·exact hm.1
 ·exact hm
 ·exact hm
 ·exact hm
 ·refine ⟨hm.1,?_⟩;rw [if_pos hm.1];have h:=hm.2;unfold pO at h;simp only [Lc',beq_iff_eq] at h;exact h.1
 ·exact hm
 ·exact hm.1
 ·exact hm.1
 ·refine ⟨hm.1,?_⟩;rw [if_neg (by omega),if_pos hm.1]
  have h:=hm.2;unfold xY at h;simp only [Lc',beq_iff_eq] at h;omega
 ·exact hm
theorem aS' {K A:Int}{x:aF}(hf:uj K A x=true):(x.af=nI K\/x.af=Au K\/x.af=F3 K)/\1<=K/\K<=9/\x.af≠0:=by
 unfold uj at hf;unfold nI Au F3;split at hf
 ·simp at hf; subst hf; simp; omega
 split at hf
 ·simp at hf; subst hf; simp; omega
 split at hf
 ·simp at hf; subst hf; simp; omega
 split at hf
 ·simp at hf; subst hf; simp; omega
 split at hf
 ·simp at hf; subst hf; simp; omega
 split at hf
 ·simp at hf; subst hf; simp; omega
 split at hf
 ·simp at hf; subst hf; simp; omega
 split at hf
 ·simp at hf; subst hf; simp; omega
 split at hf
 ·simp at hf; obtain ⟨rfl,_⟩:=hf; simp; omega
 split at hf
 ·simp at hf; subst hf; simp; omega
 split at hf
 ·simp at hf; obtain ⟨rfl,_⟩:=hf; simp; omega
 ·simp at hf
theorem ap' (hT:GT T)(ho:bP v=true)(hb:bD v<=4194304){i:Int}(hi:fM T i=true)(hk:(aC T i).af=Au v.af):bE T v i=true:=by
 obtain ⟨j,rfl,hj,e,hg,hK⟩:=Ap hT hi;rw [PS hT e ho hb];generalize aC T (j:Int)=x at *;unfold Au at hk;unfold pF;split at hk
 ·simp [hk, *]
 split at hk
 ·simp [hk, *]
 split at hk
 ·simp [hk, *]
 split at hk
 ·simp [hk, *]
 split at hk
 ·simp [hk, *]
 split at hk
 ·simp [hk, *]
 ·omega
def dH (T:ay)(k:Int)(i:Int):Bool:=(aC T i).af==k
def o9 (T:ay)(K A:Int)(i:Int):Bool:=uj K A (aC T i)
def gW (T:ay)(K A k:Int)(l:List Int):List Int:=l.filter λi=>dH T k i&&o9 T K A i
theorem wk' (hT:GT T)(ho:bP v=true)(hb:bD v<=4194304){p q:List Int}(hp:p.all (fM T)=true)(hq:q.all (fM T)=true) :
 (p.all (bE T v)=true/\(q.all λi=>!bE T v i)=true) ↔
 ((∀ i∈p,(aC T i).af=19->bE T v i=true)/\(∀ i∈q,(aC T i).af=19->bE T v i=false))/\(∀ i∈p,(aC T i).af=19\/o9 T v.af (kg v) i=true) /\
 ((∀ i∈p,(aC T i).af=nI v.af->bE T v i=true)/\(∀ i∈q,(aC T i).af=nI v.af->bE T v i=false)) /\
 ((∀ i∈gW T v.af (kg v) (F3 v.af) p,bE T v i=true)/\(∀ i∈gW T v.af (kg v) (F3 v.af) q,bE T v i=false))/\(∀ i∈q,(aC T i).af≠Au v.af):=by
 have hP:=Le'.1 hp;have hQ:=Le'.1 hq;rw [Le',Le'];constructor
 ·rintro ⟨h1,h2⟩;have h2':∀ i∈q,bE T v i=false:=λi hi=>by simpa using h2 i hi
  refine ⟨⟨λi hi _=>h1 i hi,λi hi _=>h2' i hi⟩,λi hi=>?_,⟨λi hi _=>h1 i hi,λi hi _=>h2' i hi⟩,⟨λi hi=>h1 i (MM'.1 hi).1,λi hi=>h2' i (MM'.1 hi).1⟩,λi hi e=>?_⟩
  ·by_cases hk:(aC T i).af=19
   ·exact .inl hk
   ·exact .inr (bD' hT ho hb (hP i hi) hk (h1 i hi))
  ·have:=ap' hT ho hb (hQ i hi) e;rw [h2' i hi] at this;cases this
 ·rintro ⟨⟨v1,v2⟩,op,⟨l1,l2⟩,⟨s1,s2⟩,ev⟩;constructor
  ·intro i hi;rcases op i hi with hk | hf
   ·exact v1 i hi hk
   ·rcases (aS' hf).1 with h | h | h
    ·exact l1 i hi h
    ·exact ap' hT ho hb (hP i hi) h
    ·refine s1 i (MM'.2 ⟨hi,?_⟩);unfold dH;rw [hf,h];simp
  ·intro i hi;cases hm:bE T v i with
   | false=>rfl
   | true =>
     exfalso;by_cases hk:(aC T i).af=19
     ·rw [v2 i hi hk] at hm; cases hm
     ·have hf:o9 T v.af (kg v) i=true:=bD' hT ho hb (hQ i hi) hk hm;rcases (aS' hf).1 with h | h | h
      ·rw [l2 i hi h] at hm; cases hm
      ·exact ev i hi h
      ·have:=s2 i (MM'.2 ⟨hi,by unfold dH; rw [hf,h]; simp⟩)
       rw [this] at hm; cases hm
end
section
variable {T:ay}
theorem eD' (K A:Int)(x:aF)(hl:x.ai.length<=1000):Kc (bN.mk K A) x=some (uj K A x):=by
 unfold Kc uj;simp only;rw [Ue (x:=(x.ai.length:Int)-1) (by omega) (by omega)]
 have key:∀ n m:Int,(bif x.af==n then (some (x.af==n):Option Bool) else some (x.af==m))=some (decide (x.af=n\/x.af=m)):=λn m=>by
  by_cases h:x.af=n
  ·simp [h]
  ·have:(x.af==n)=false:=by simp [h]
   rw [this];simp [h];by_cases h2:x.af=m<;>simp [h2]
 rw [key 4 5,key 6 7];simp only [KY'];have step:∀ (n:Int) (a b:Option Bool) (a' b':Bool),a=some a'->b=some b'->(bif x.af==n then a else b)=some (if x.af=n then a' else b'):=λn a b a' b' h1 h2=>by
  by_cases h:x.af=n
  ·rw [if_pos h,show (x.af==n)=true by simp [h],h1]; rfl
  ·rw [if_neg h,show (x.af==n)=false by simp [h],h2]; rfl
 have step2:∀ (n m:Int) (a b:Option Bool) (a' b':Bool),a=some a'->b=some b'->(bif x.af=n\/x.af=m then a else b)=some (if x.af=n\/x.af=m then a' else b'):=λn m a b a' b' h1 h2=>by
  by_cases h:x.af=n\/x.af=m
  ·rw [if_pos h,decide_eq_true h,h1]; rfl
  ·rw [if_neg h,decide_eq_false h,h2]; rfl
 have lY':∀ a b:Bool,((bif a then some b else some false).bind λq:Bool=>some q)=some (a&&b):=λa b=>by cases a<;>cases b<;>rfl
 exact step 3 _ _ _ _ rfl (step2 4 5 _ _ _ _ rfl (step2 6 7 _ _ _ _ rfl (step 8 _ _ _ _ rfl (step 9 _ _ _ _ rfl (step 12 _ _ _ _ rfl (step 13 _ _ _ _ rfl (step 11 _ _ _ _ rfl (step 10 _ _ _ _ (lY' _ _) (step 15 _ _ _ _ rfl (step 14 _ _ _ _ (lY' _ _) rfl))))))))))
theorem w9 (hT:GT T){i:Int}(h:fM T i=true):ak T.aj i=some (aC T i)/\(aC T i).ai.length<=4:=by obtain ⟨j,_,hj,e,ei⟩:=su (CR h);exact ⟨ei,(hT.nodes j _ e).kids⟩
def rZ (T:ay)(e:ax)(K A:Int):Bool:=!(e.eu&&(K != 5&&K != 7))&&e.Pos.all λi=>dH T 19 i||o9 T K A i
theorem oF' (hT:GT T){e:ax}(he:e.Pos.all (fM T)=true)(hl:e.Pos.length<=1000)(K A:Int):GR (bN.mk K A) T e=some (rZ T e K A):=by
 unfold GR;have h1:((bif e.eu then some (K != 5) else some false).bind λq1=>(bif q1 then some (K != 7) else some false).bind λq2 =>
  bif q2 then (some false:Option Bool) else ((yU e.Pos (λz3=>(Ju z3 T (bN.mk K A)).bind λr4=>some r4)).bind λr5=>some (!r5)))=some (rZ T e K A):=by
  have hc:yU e.Pos (λz3=>(Ju z3 T (bN.mk K A)).bind λr4=>some r4)=some (e.Pos.any λi=>!(dH T 19 i||o9 T K A i)):=Uh e.Pos _ _ (by omega) λi hi=>by
   obtain ⟨h1,h2⟩:=w9 hT (Le'.1 he i hi);unfold Ju;rw [h1];simp only [KY',jg];rw [eD' K A _ (by omega)]
   unfold dH o9;simp only [bne,KY'];cases (aC T i).af==19<;>simp
  rw [hc];unfold rZ;have ha:(!(e.Pos.any λi=>!(dH T 19 i||o9 T K A i)))=e.Pos.all λi=>dH T 19 i||o9 T K A i:=Qp _ _
  simp only [KY'];rw [ha];cases e.eu<;>cases K != 5<;>cases K != 7<;>simp
 exact h1
theorem zG (hT:GT T){l:List Int}(he:l.all (fM T)=true)(hl:l.length<=1000)(K A k:Int):kH (bN.mk K A) T l k=some (gW T K A k l):=by
 unfold kH;rw [dw];simp only [jg];exact zJ' (step:=Qc (bN.mk K A) T l k) l (λi=>dH T k i&&o9 T K A i) (λi s x hx hs=>by
  have hlt:i<l.length:=(La'.1 hx).1;obtain ⟨h1,h2⟩:=w9 hT (Le'.1 he x (Lj' hx));unfold Qc;simp only;rw [dn hlt,aR hx];simp only [cond_true,KY'];rw [h1,JJ i (by omega)]
  simp only [KY',jg];rw [eD' K A _ (by omega)]
  unfold dH o9;cases (aC T x).af==k
  ·rfl
  ·cases uj K A (aC T x)
   ·rfl
   ·simp only [cond_true,KY',Bool.and_self,if_true];rw [dX (by simp only [Ld',Lh']; omega)]
    rfl) (λs=>by
  unfold Qc;simp)
def xC (T:ay)(i n:Int):Bool:=decide ((aC T i).Lo<=n)&&decide (n<=(aC T i).Hi)
theorem bY' (hT:GT T){i:Int}(h:fM T i=true)(hk:(aC T i).af=3):(aC T i).Lo<=(aC T i).Hi/\rI (aJ.mk (aC T i).Lo (aC T i).Hi):=by obtain ⟨j,_,hj,e,ei⟩:=su (CR h);have hg:=hT.nodes j _ e;have hn:=hg.ok;unfold fC jd at hn;simp only [hk,Lc'] at hn;have h2:=hn.2.2.2.2;simp at h2;exact ⟨h2.2,hg.gu⟩
theorem CN' (hT:GT T){e:ax}(hp:e.Pos.all (fM T)=true)(hq:e.Neg.all (fM T)=true)(h1:e.Pos.length<=10)(h2:e.Neg.length<=10) :
 ∃ m,FK T e=some m/\VR m/\∀ n,-9223372036854775808<=n->n<=9223372036854775807->(gD m n=((e.Pos.all λi=>!dH T 3 i||xC T i n)&&e.Neg.all λi=>!dH T 3 i||!xC T i n))/\m.length<=1024:=by
 unfold FK Rt;simp only [KY',dw];have hF:VR [aJ.mk (-9223372036854775808) 9223372036854775807]:=⟨by simp [rI],by simp,by simp⟩
 obtain ⟨a,e1,k1⟩:=eG' (σ:=List aJ) (step:=GQ T e) e.Pos (λs i=>(s,(i:Int))) (λi s=>VR s/\s.length<=1/\∀ n,-9223372036854775808<=n->n<=9223372036854775807->gD s n=(e.Pos.take i).all λi=>!dH T 3 i||xC T i n) (λs=>s)
  (λi s x hx hI=>by
    have hlt:i<e.Pos.length:=(La'.1 hx).1;have hb:=Le'.1 hp x (Lj' hx);obtain ⟨g1,g2⟩:=w9 hT hb;unfold GQ;simp only;rw [dn hlt,aR hx];simp only [cond_true,KY'];rw [g1,JJ i (by omega)]
    simp only [KY'];by_cases hk:(aC T x).af=3
    ·obtain ⟨n1,n2⟩:=bY' hT hb hk;rw [show ((aC T x).af==3)=true by simp [hk]]
     simp only [cond_true];obtain ⟨m,m1,m2,m3,m4⟩:=bQ' s [aJ.mk (aC T x).Lo (aC T x).Hi] (by simp only [Ld',Lh']; omega) (by omega) (by simp) hI.1.i (by intro r hr; rw [Lp'] at hr; subst hr; exact n2)
     rw [m1];refine ⟨m,rfl,m2,by simp only [Ld',Lh'] at m4; omega,λn a1 a2=>?_⟩
     rw [m3,hI.2.2 n a1 a2,zI hx,Lv'];simp [gD,nR,dH,hk,xC]
    ·have hk':((aC T x).af==3)=false:=by simp [hk]
     rw [hk'];refine ⟨s,rfl,hI.1,hI.2.1,λn a1 a2=>?_⟩;rw [hI.2.2 n a1 a2,zI hx,Lv'];simp [dH,hk']) (λs _=>by
    unfold GQ;simp) [aJ.mk (-9223372036854775808) 9223372036854775807] ⟨hF,by simp,λn a1 a2=>by simp [gD,nR,a1,a2]⟩ _ (Lg' _)
 have zB:iter (GQ T e) (e.Pos.length+1) (([aJ.mk (-9223372036854775808) 9223372036854775807]:List aJ),0)=_:=e1;rw [zB];simp only [KY'];obtain ⟨b,e2,k2⟩:=eG' (σ:=List aJ) (step:=Hu T e) e.Neg (λs i=>(s,(i:Int))) (λi s=>VR s/\s.length<=2^i/\∀ n,-9223372036854775808<=n->n<=9223372036854775807->gD s n=(gD a n&&(e.Neg.take i).all λi=>!dH T 3 i||!xC T i n)) (λs=>s)
  (λi s x hx hI=>by
    have hlt:i<e.Neg.length:=(La'.1 hx).1;have hb:=Le'.1 hq x (Lj' hx);obtain ⟨g1,g2⟩:=w9 hT hb;have h2i:2^i<=2^10:=ND' (by omega) (by omega)
    have h10:2^10=1024:=by decide
    have hI2:=hI.2.1;unfold Hu;simp only;rw [dn hlt,aR hx];simp only [cond_true,KY'];rw [g1,JJ i (by omega)]
    simp only [KY'];by_cases hk:(aC T x).af=3
    ·obtain ⟨n1,n2⟩:=bY' hT hb hk;rw [show ((aC T x).af==3)=true by simp [hk]]
     simp only [cond_true];obtain ⟨c,c1,c2,c3,c4⟩:=rz' (aJ.mk (aC T x).Lo (aC T x).Hi) n1 n2;rw [c1];simp only [KY'];have hsc:s.length*c.length<=2^i*2:=NG' hI2 c4;obtain ⟨m,m1,m2,m3,m4⟩:=bQ' s c (by omega) (by omega) (by omega) hI.1.i c2
     rw [m1];refine ⟨m,rfl,m2,by rw [Nat.pow_succ]; omega,λn a1 a2=>?_⟩
     rw [m3,hI.2.2 n a1 a2,zI hx,Lv',c3 n a1 a2,Bool.and_assoc];simp [nR,dH,hk,xC]
    ·have hk':((aC T x).af==3)=false:=by simp [hk]
     rw [hk'];refine ⟨s,rfl,hI.1,by rw [Nat.pow_succ]; omega,λn a1 a2=>?_⟩
     rw [hI.2.2 n a1 a2,zI hx,Lv'];simp [dH,hk']) (λs _=>by
    unfold Hu;simp) a ⟨k1.1,by have:=k1.2.1; omega,λn _ _=>by simp⟩ _ (Lg' _)
 have e2':iter (Hu T e) (e.Neg.length+1) (a,0)=_:=e2;rw [e2'];refine ⟨b,rfl,k2.1,λn a1 a2=>⟨?_,?_⟩⟩
 ·rw [k2.2.2 n a1 a2,k1.2.2 n a1 a2,NT',NT']
 ·exact Lr' k2.2.1 (ND' (n:=2) (by omega) h2)
def Fw (T:ay)(i:Int)(s:ByteArray):Bool:=bU (aC T i).Text s
end
section
variable {T:ay}
def JF (T:ay)(e:ax)(n:Int):Bool:=(e.Pos.all λi=>!dH T 3 i||xC T i n)&&e.Neg.all λi=>!dH T 3 i||!xC T i n
def uU (T:ay)(e:ax)(k:Int)(s:ByteArray):Bool:=(e.Pos.all λi=>!dH T k i||Fw T i s)&&e.Neg.all λi=>!dH T k i||!Fw T i s
def i64 (n:Int):Prop := -9223372036854775808<=n/\n<=9223372036854775807
structure JA' (T:ay)(e:ax)(K A:Int)(l:ig):Prop where
 kind:l.af=K
 ar:l.dB=A
 op:rZ T e K A=true
 JB':K=1->VR l.Ints/\l.Ints≠[]/\(∀ n,i64 n->gD l.Ints n=JF T e n)/\l.Ints.length<=1024
 KN':K≠1->l.Ints=[]
 JC':K=2\/K=3->bC cS l.Names.iQ=true/\(l.Names.kG=true\/l.Names.iQ≠[])/\(∀ s,cT' l.Names s=uU T e (nI K) s)/\l.Names.iQ.length<=100
 KO':K≠2->K≠3->l.Names=gV.mk false []
 pos:l.Pos=gW T K A (F3 K) e.Pos
 neg:l.Neg=gW T K A (F3 K) e.Neg
 ev:e.Neg.any (dH T (Au K))=false
def bL' (T:ay)(e:ax)(K A:Int):Prop :=
 rZ T e K A=false\/e.Neg.any (dH T (Au K))=true\/(K=1/\∀ n,i64 n->JF T e n=false)\/((K=2\/K=3)/\∀ s,uU T e (nI K) s=false)
theorem DF' (hT:GT T){i:Int}(h:fM T i=true):dH T 0 i=false:=by obtain ⟨j,_,_,_,_,hk⟩:=Ap hT h;unfold dH;rw [beq_eq_false_iff_ne];omega
theorem Uz (hT:GT T){l:List Int}(h:l.all (fM T)=true):l.any (dH T 0)=false:=by rw [MQ'];intro i hi;rw [DF' hT (Le'.1 h i hi)];simp
def kM:List bN:=[bN.mk 1 0,bN.mk 2 0,bN.mk 3 0,bN.mk 4 0,bN.mk 5 0,bN.mk 7 0,bN.mk 8 0,bN.mk 6 0,bN.mk 9 0,bN.mk 6 1,bN.mk 9 1,bN.mk 6 2,bN.mk 9 2,bN.mk 6 3,bN.mk 9 3,bN.mk 6 4,bN.mk 9 4]
theorem yg':Ld=some kM:=by kernel_rfl
theorem Cx' {s:bN}(h:s∈kM):(s.af=1\/s.af=2\/s.af=3\/s.af=4\/s.af=5\/s.af=6\/s.af=7\/s.af=8\/s.af=9)/\(s.af=6\/s.af=9\/s.dB=0):=by unfold kM at h;simp only [Lq',NJ',or_false] at h;rcases h with rfl | rfl | rfl | rfl | rfl | rfl | rfl | rfl | rfl | rfl | rfl | rfl | rfl | rfl | rfl | rfl | rfl<;>simp
theorem vZ' {K A:Int}(h:((K=1\/K=2\/K=3\/K=4\/K=5\/K=7\/K=8)/\A=0)\/((K=6\/K=9)/\0<=A/\A<=4)):bN.mk K A∈kM:=by
 rcases h with ⟨h,rfl⟩ | ⟨h,h0,h4⟩
 ·rcases h with rfl | rfl | rfl | rfl | rfl | rfl | rfl<;>simp [kM]
 ·have hA:A=0\/A=1\/A=2\/A=3\/A=4:=by omega
  rcases h with rfl | rfl<;>rcases hA with rfl | rfl | rfl | rfl | rfl<;>simp [kM]
def wz' (l:ig)(a b:List ByteArray):ig:=ig.mk l.af l.dB l.Ints l.Names l.Pos l.Neg a b
def I9 (T:ay)(e:ax):Bool:=!Gu e.Pos e.Neg&&!Ez (oI (mO T e.Pos)) (oI (mO T e.Neg))
theorem iK' (l:List Int):(oI (mO T l)).length<=l.length:=by refine Lr' (sB' _) ?_;unfold mO;rw [LH'];exact NA' _ _
end
section
variable {T:ay}{v:Val}
def wG (v:Val)(L:Bool):Bool:=!L||(v.af==5||v.af==7)
def gA (T:ay)(v:Val)(g:ax):Bool:=mr T.aj.length g&&(wG v g.eu&&gM T v g)
theorem vw' (hT:GT T)(hr:bf T.aj.length T.dh=true)(ho:bP v=true)(hb:bD v<=2097152)(g:ax)(h1:g.Pos.length<=1000000)(h2:g.Neg.length<=1000000)(f:Nat)(hf:200000000<=f) :
 Qv f v T g=some (gA T v g):=by
 unfold Qv gA;rw [Wj f v (by omega) (by omega),ho,rn' hT hr f (by omega),nU' g h1 h2]
 simp only [KY',beq_self_eq_true,cond_true,jg];cases hg:mr T.aj.length g with
 | false=>rfl
 | true =>
   have hg':=hg;unfold mr at hg';simp only [Lc'] at hg';simp only [cond_true,jg];unfold Yz;have l1:=YU (step:=Ov v T g f) g.Pos (bE T v) false (λi k hk=>by
    have hi:i<g.Pos.length:=(La'.1 hk).1;unfold Ov;simp only [aV];rw [dn hi,aR hk];simp only [cond_true,KY'];rw [(bF' hT ho hb f hf (Le'.1 hg'.1 k (Lj' hk))),bF i (by omega)]
    exact yV _ _) (by
    unfold Ov;simp)
   have l2:=YU (step:=Sg v T g f) g.Neg (λk=>!bE T v k) false (λi k hk=>by
    have hi:i<g.Neg.length:=(La'.1 hk).1;unfold Sg;simp only [aV];rw [dn hi,aR hk];simp only [cond_true,KY'];rw [(bF' hT ho hb f hf (Le'.1 hg'.2 k (Lj' hk))),bF i (by omega)]
    simp only [KY'];cases bE T v k<;>rfl) (by
    unfold Sg;simp)
   simp only [dw];rw [l1];unfold gM wG;cases hp:g.Pos.all (bE T v)
   ·simp [aL]
   ·simp only [if_true,KY',aL];rw [l2];cases hq:g.Neg.all λk=>!bE T v k
    ·simp [aL]
    ·simp only [if_true,KY',aL,jg];cases g.eu<;>cases v.af==5<;>cases v.af==7<;>rfl
def Ut (T:ay)(v:Val)(l:ig):Bool :=
 if v.af=1 then gD l.Ints v.bn else if v.af=2\/v.af=3 then cT' l.Names v.Text else if v.af=6 then ((v.ai.length:Int)==l.dB)&&gM T v (g0 l.Pos l.Neg) else
 if v.af=9 then (v.bn==l.dB)&&gM T v (g0 l.Pos l.Neg) else if v.af=7\/v.af=8 then gM T v (g0 l.Pos l.Neg) else true
def ju' (v:Val)(l:ig):Bool:=(l.Vars.all λs=>Lu v.bX s)&&l.lH'.all λs=>!Lu v.bX s
def fB' (T:ay)(v:Val)(l:ig):Bool:=v.af==l.af&&(ju' v l&&Ut T v l)
theorem xm' (ho:bP v=true):(v.af=1\/v.af=2\/v.af=3\/v.af=4\/v.af=5\/v.af=6\/v.af=7\/v.af=8\/v.af=9)/\(v.af=6->v.ai.length<=4)/\(v.af=9->0<=v.bn/\v.bn<=4):=by
 rw [Hq] at ho;simp only [Lc'] at ho;have h:=ho.1;unfold l9 at h;simp only [Lc'] at h;have hk:=h.2.2;unfold oK at hk;by_cases h1:v.af=1
 ·exact ⟨by omega,by omega,by omega⟩
 rw [if_neg h1] at hk;by_cases h2:v.af=2
 ·exact ⟨by omega,by omega,by omega⟩
 rw [if_neg h2] at hk;by_cases h3:v.af=3
 ·exact ⟨by omega,by omega,by omega⟩
 rw [if_neg h3] at hk;by_cases h4:v.af=4
 ·exact ⟨by omega,by omega,by omega⟩
 rw [if_neg h4] at hk;by_cases h5:v.af=5
 ·exact ⟨by omega,by omega,by omega⟩
 rw [if_neg h5] at hk;by_cases h6:v.af=6
 ·rw [if_pos h6] at hk;exact ⟨by omega,λ_=>by simpa using hk,by omega⟩
 rw [if_neg h6] at hk;by_cases h7:v.af=7
 ·exact ⟨by omega,by omega,by omega⟩
 rw [if_neg h7] at hk;by_cases h8:v.af=8
 ·exact ⟨by omega,by omega,by omega⟩
 rw [if_neg h8] at hk;by_cases h9:v.af=9
 ·rw [if_pos h9] at hk;unfold BU at hk;simp only [Lc',decide_eq_true_eq] at hk;exact ⟨by omega,by omega,λ_=>⟨hk.1.1,hk.1.2⟩⟩
 rw [if_neg h9] at hk;cases hk
end
section
variable {T:ay}{v:Val}
theorem np' (hT:GT T)(ho:bP v=true)(hb:bD v<=4194304):IB T (bE T v):=by
 have key:∀ i,bf T.aj.length i=true->bE T v i=pF (bE T) v (aC T i):=λi hi=>by obtain ⟨j,rfl,_,e,_⟩:=su hi;exact PS hT e ho hb
 refine ⟨λi hi hk=>?_,λi hi hk=>?_,λi hi hk=>?_,λi hi hk=>?_,λi hi hk=>?_⟩<;>rw [key i hi]<;>unfold pF<;>simp [hk]
theorem J9 (hT:GT T)(ho:bP v=true)(hb:bD v<=4194304){i:Int}(hi:fM T i=true):bE T v i=pF (bE T) v (aC T i):=by obtain ⟨j,rfl,_,e,_⟩:=su (CR hi);exact PS hT e ho hb
theorem Q0 (hT:GT T)(ho:bP v=true)(hb:bD v<=4194304){i:Int}(hi:fM T i=true)(hk:(aC T i).af=19):bE T v i=Lu v.bX (aC T i).Text:=by rw [J9 hT ho hb hi];unfold pF Lu;simp [hk]
theorem Pd {l:List Int}{s:ByteArray}:s∈oI (mO T l)↔∃ i∈l,(aC T i).af=19/\(aC T i).Text=s:=by
 rw [By'];unfold mO;simp only [Lx',MM',beq_iff_eq];constructor
 ·rintro ⟨i,⟨a,b⟩,c⟩; exact ⟨i,a,b,c⟩
 ·rintro ⟨i,a,b,c⟩; exact ⟨i,⟨a,b⟩,c⟩
theorem oS' {p q:List Int}:Gu p q=true↔∃ i,i∈p/\i∈q:=by
 unfold Gu;simp only [LL',beq_iff_eq];constructor
 ·rintro ⟨x,hx,y,hy,rfl⟩; exact ⟨x,hx,hy⟩
 ·rintro ⟨x,hx,hy⟩; exact ⟨x,hx,x,hy,rfl⟩
theorem qK' {p q:List ByteArray}:Ez p q=true↔∃ i,i∈p/\i∈q:=by
 unfold Ez;simp only [LL',pd'];constructor
 ·rintro ⟨x,hx,y,hy,rfl⟩; exact ⟨y,hx,hy⟩
 ·rintro ⟨x,hx,hy⟩; exact ⟨x,hx,x,hy,rfl⟩
def ol (v:Val):Prop:=v.af=1->i64 v.bn
def Gx (T:ay)(v:Val)(e:ax):Bool:=wG v e.eu&&(e.Pos.all (bE T v)&&e.Neg.all λk=>!bE T v k)
theorem OU (hT:GT T)(ho:bP v=true)(hb:bD v<=4194304){i:Int}(hi:fM T i=true)(hk:(aC T i).af=nI v.af):bE T v i=if v.af=1 then xC T i v.bn else Fw T i v.Text:=by
 rw [J9 hT ho hb hi];have h0:(aC T i).af≠0:=by obtain ⟨j,_,_,_,_,hK⟩:=Ap hT hi;omega
 unfold nI at hk;unfold pF xC Fw;by_cases h1:v.af=1
 ·simp [h1] at hk;simp [h1,hk]
 ·rw [if_neg h1] at hk;by_cases h2:v.af=2
  ·simp [h2] at hk;simp [h2,hk,WK]
  ·rw [if_neg h2] at hk;by_cases h3:v.af=3
   ·simp [h3] at hk;simp [h3,hk,WK]
   ·rw [if_neg h3] at hk;exact absurd hk h0
theorem mO' (p q:List Int):gM T v (g0 p q)=true↔(∀ i∈p,bE T v i=true)/\∀ i∈q,bE T v i=false:=by unfold gM;simp
theorem CF' (hT:GT T)(ho:bP v=true)(hb:bD v<=4194304)(hI:ol v){L:Bool}{e:ax}(he:NG T L e)(hm:Gx T v e=true) :
 I9 T e=true/\bN.mk v.af (kg v)∈kM/\¬ bL' T e v.af (kg v)/\∀ l0,JA' T e v.af (kg v) l0->fB' T v (wz' l0 (oI (mO T e.Pos)) (oI (mO T e.Neg)))=true:=by
 have hp:=Le'.1 he.pos;have hq:=Le'.1 he.neg;unfold Gx at hm;simp only [Lc'] at hm;obtain ⟨T9,hpos,hneg⟩:=hm;obtain ⟨⟨v1,v2⟩,op,⟨k1,k2⟩,⟨s1,s2⟩,ev⟩:=(wk' hT ho hb he.pos he.neg).1 ⟨hpos,hneg⟩;have hP:=Le'.1 hpos;have hQ:∀ i∈e.Neg,bE T v i=false:=λi hi=>by simpa using Le'.1 hneg i hi
 obtain ⟨hK,hK6,hK9⟩:=xm' ho;have hopen:rZ T e v.af (kg v)=true:=by
  unfold rZ;simp only [Lc',Le',LU'];refine ⟨?_,λi hi=>?_⟩
  ·unfold wG at T9;simp only [bne];revert T9;generalize e.eu=a;generalize (v.af==5)=b;generalize (v.af==7)=c;revert a b c;decide
  ·rcases op i hi with h | h
   ·exact .inl (by unfold dH; simp [h])
   ·exact .inr h
 have lZ':v.af=1->JF T e v.bn=true:=λh1=>by
  unfold JF;simp only [Lc',Le',LU'];have hl:nI v.af=3:=by unfold nI; rw [if_pos h1]
  refine ⟨λi hi=>?_,λi hi=>?_⟩
  ·cases hk:dH T 3 i with
   | false=>exact .inl rfl
   | true =>
     have hk3:(aC T i).af=nI v.af:=by rw [hl]; unfold dH at hk; simpa using hk
     have:=k1 i hi hk3;rw [OU hT ho hb (hp i hi) hk3,if_pos h1] at this;exact .inr this
  ·cases hk:dH T 3 i with
   | false=>exact .inl rfl
   | true =>
     have hk3:(aC T i).af=nI v.af:=by rw [hl]; unfold dH at hk; simpa using hk
     have:=k2 i hi hk3;rw [OU hT ho hb (hq i hi) hk3,if_pos h1] at this;exact .inr (by rw [this]; rfl)
 have mf':v.af=2\/v.af=3->uU T e (nI v.af) v.Text=true:=λh23=>by
  have h1:¬ v.af=1:=by omega
  unfold uU;simp only [Lc',Le',LU'];refine ⟨λi hi=>?_,λi hi=>?_⟩
  ·cases hk:dH T (nI v.af) i with
   | false=>exact .inl rfl
   | true =>
     have hk3:(aC T i).af=nI v.af:=by unfold dH at hk; simpa using hk
     have:=k1 i hi hk3;rw [OU hT ho hb (hp i hi) hk3,if_neg h1] at this;exact .inr this
  ·cases hk:dH T (nI v.af) i with
   | false=>exact .inl rfl
   | true =>
     have hk3:(aC T i).af=nI v.af:=by unfold dH at hk; simpa using hk
     have:=k2 i hi hk3;rw [OU hT ho hb (hq i hi) hk3,if_neg h1] at this;exact .inr (by rw [this]; rfl)
 have hev:e.Neg.any (dH T (Au v.af))=false:=by rw [MQ'];intro i hi;unfold dH;simp [ev i hi]
 refine ⟨?_,?_,?_,λl0 hZ=>?_⟩
 ·unfold I9;rw [Lc'];constructor
  ·cases h:Gu e.Pos e.Neg with
   | false=>rfl
   | true =>obtain ⟨i,h1,h2⟩:=oS'.1 h;have:=hQ i h2;rw [hP i h1] at this;cases this
  ·cases h:Ez (oI (mO T e.Pos)) (oI (mO T e.Neg)) with
   | false=>rfl
   | true =>obtain ⟨s,h1,h2⟩:=qK'.1 h;obtain ⟨i,a1,a2,a3⟩:=Pd.1 h1;obtain ⟨j,b1,b2,b3⟩:=Pd.1 h2;have c1:=v1 i a1 a2;have c2:=v2 j b1 b2;rw [Q0 hT ho hb (hp i a1) a2,a3] at c1;rw [Q0 hT ho hb (hq j b1) b2,b3,c1] at c2;cases c2
 ·refine vZ' ?_;unfold kg;by_cases h6:v.af=6
  ·rw [if_pos h6]; have:=hK6 h6; omega
  ·rw [if_neg h6];by_cases h9:v.af=9
   ·rw [if_pos h9]; have:=hK9 h9; omega
   ·rw [if_neg h9]; omega
 ·rintro (h | h | ⟨h1,h⟩ | ⟨h1,h⟩)
  ·rw [hopen] at h; cases h
  ·rw [hev] at h; cases h
  ·have:=lZ' h1;rw [h v.bn (hI h1)] at this;cases this
  ·have:=mf' h1;rw [h v.Text] at this;cases this
 ·unfold fB' ju';simp only [Lc',Le',beq_iff_eq];refine ⟨hZ.kind.symm,⟨λs hs=>?_,λs hs=>?_⟩,?_⟩
  ·obtain ⟨i,a1,a2,a3⟩:=Pd.1 hs;have c1:=v1 i a1 a2;rw [Q0 hT ho hb (hp i a1) a2,a3] at c1;exact c1
  ·obtain ⟨j,b1,b2,b3⟩:=Pd.1 hs;have c2:=v2 j b1 b2;rw [Q0 hT ho hb (hq j b1) b2,b3] at c2;rw [c2]; rfl
  ·have hgm:gM T v (g0 l0.Pos l0.Neg)=true:=by
    rw [mO',hZ.pos,hZ.neg];exact ⟨s1,s2⟩
   show Ut T v l0=true;unfold Ut;by_cases h1:v.af=1
   ·rw [if_pos h1,(hZ.JB' h1).2.2.1 v.bn (hI h1)];exact lZ' h1
   rw [if_neg h1];by_cases h23:v.af=2\/v.af=3
   ·rw [if_pos h23,(hZ.JC' h23).2.2.1 v.Text];exact mf' h23
   rw [if_neg h23,hZ.ar,hgm];unfold kg;by_cases h6:v.af=6
   ·simp [h6]
   by_cases h9:v.af=9
   ·simp [h9]
   simp [h6,h9]
end
def iX:List Nat->Nat->List Int
 | [],_=>[]
 | m::ms,k=>((k%m:Nat):Int)::iX ms (k / m)
def tot:List Nat->Nat
 | []=>1
 | m::ms=>m*tot ms
def mR:List Int->List Nat->List Int×Bool
 | d::ds,m::ms=>if d+1<(m:Int) then ((d+1)::ds,true) else (0::(mR ds ms).1,(mR ds ms).2)
 | ds,_=>(ds,false)
theorem dR':∀ (ms:List Nat) (k:Nat),(iX ms k).length=ms.length
 | [],_=>rfl
 | _::ms,k=>by simp [iX,dR' ms]
theorem gi':∀ (ms:List Nat) (k:Nat),(∀ m∈ms,1<=m)->∀ (j:Nat) (d:Int) (m:Nat),(iX ms k)[j]?=some d->ms[j]?=some m->0<=d/\d<(m:Int)
 | [],_,_,j,d,m,h,_=>by simp [iX] at h
 | m0::ms,k,h1,0,d,m,h,hm=>by
   simp only [iX,List.getElem?_cons_zero,LI'.injEq] at h hm;subst h; subst hm;have:=h1 m0 (by simp)
   have:=Nat.mod_lt k (show 0<m0 by omega)
   omega
 | m0::ms,k,h1,j+1,d,m,h,hm=>gi' ms (k / m0) (λm hm=>h1 m (by simp [hm])) j d m (by simpa [iX] using h) (by simpa using hm)
theorem jH':∀ (ms:List Nat) (ds:List Int),ds.length=ms.length->(∀ (j:Nat) (d:Int) (m:Nat),ds[j]?=some d->ms[j]?=some m->0<=d/\d<(m:Int))->∃ k,k<tot ms/\iX ms k=ds
 | [],[],_,_=>⟨0,by simp [tot],rfl⟩
 | [],_::_,h,_=>by simp at h
 | _::_,[],h,_=>by simp at h
 | m::ms,d::ds,h,hd=>by
   obtain ⟨k,h1,h2⟩:=jH' ms ds (by simpa using h) λj e m' he hm=>hd (j+1) e m' (by simpa using he) (by simpa using hm)
   obtain ⟨d1,d2⟩:=hd 0 d m rfl rfl;obtain ⟨e,rfl⟩:∃ e:Nat,d=(e:Int):=⟨d.toNat,by omega⟩
   have hem:e<m:=by omega
   refine ⟨m*k+e,?_,?_⟩
   ·simp only [tot];have:m*(k+1)<=m*tot ms:=Nat.mul_le_mul_left m h1;rw [Nat.mul_add,Ne'] at this;omega
   ·simp only [iX];have e1:(m*k+e)%m=e:=by rw [Nat.mul_add_mod,Nt' hem]
    have e2:(m*k+e) / m=k:=by rw [Nat.mul_add_div (by omega),Nat.div_eq_of_lt hem,ME']
    rw [e1,e2,h2]
theorem hZ':∀ ms:List Nat,(∀ m∈ms,1<=m)->1<=tot ms
 | [],_=>by simp [tot]
 | m::ms,h=>by
   have h1:=h m (by simp)
   have h2:=hZ' ms λx hx=>h x (by simp [hx])
   simp only [tot];exact NG' h1 h2
theorem am':∀ (ms:List Nat) (k:Nat),(∀ m∈ms,1<=m)->k<tot ms->(k+1<tot ms->mR (iX ms k) ms=(iX ms (k+1),true))/\(¬ k+1<tot ms->(mR (iX ms k) ms).2=false)
 | [],k,_,h=>by simp only [tot] at h ⊢; exact ⟨λh=>by omega,λ_=>rfl⟩
 | m::ms,k,h1,hk=>by
   have hm:=h1 m (by simp)
   have h1':∀ x∈ms,1<=x:=λx hx=>h1 x (by simp [hx])
   simp only [tot] at hk ⊢;have hkm:k / m<tot ms:=Nat.div_lt_of_lt_mul hk;have hdm:=Nat.div_add_mod k m;have hml:=Nat.mod_lt k (show 0<m by omega)
   obtain ⟨i1,i2⟩:=am' ms (k / m) h1' hkm;by_cases hc:k%m+1<m
   ·have e1:(k+1)%m=k%m+1:=by rw [Nat.add_mod,Nt' (show 1<m by omega),Nt' (by omega)]
    have e2:(k+1) / m=k / m:=by
     have:k+1=m*(k / m)+(k%m+1):=by omega
     rw [this,Nat.mul_add_div (by omega),Nat.div_eq_of_lt hc,ME']
    have e3:mR (iX (m::ms) k) (m::ms)=((((k%m:Nat):Int)+1)::iX ms (k / m),true):=by simp only [iX,mR];rw [if_pos (by omega)]
    refine ⟨λ_=>?_,λhn=>?_⟩
    ·rw [e3];simp only [iX];rw [e1,e2];rfl
    ·exfalso;apply hn;have:m*(k / m+1)<=m*tot ms:=Nat.mul_le_mul_left m hkm;rw [Nat.mul_add,Ne'] at this;omega
   ·have KQ':k%m+1=m:=by omega
    have e0:k+1=m*(k / m+1):=by rw [Nat.mul_add,Ne']; omega
    have e1:(k+1)%m=0:=by rw [e0]; simp
    have e2:(k+1) / m=k / m+1:=by rw [e0,Nat.mul_div_cancel_left _ (by omega)]
    have e3:mR (iX (m::ms) k) (m::ms)=(0::(mR (iX ms (k / m)) ms).1,(mR (iX ms (k / m)) ms).2):=by simp only [iX,mR];rw [if_neg (by omega)]
    have e4:k+1<m*tot ms↔k / m+1<tot ms:=by rw [e0];exact ⟨λh=>Nat.lt_of_mul_lt_mul_left h,λh=>Nat.mul_lt_mul_of_pos_left h (by omega)⟩
    rw [e3];refine ⟨λh=>?_,λh=>?_⟩
    ·rw [i1 (e4.1 h)];simp only [iX];rw [e1,e2];rfl
    ·exact i2 λh'=>h (e4.2 h')
theorem ci':∀ ms:List Nat,iX ms 0=Ll' ms.length 0
 | []=>rfl
 | m::ms=>by simp [iX,ci' ms,MR']
def xW (a b:List Int):Bool:=a.all λx=>b.any λy=>x==y
def Pw (l:List ax)(g:ax):Bool:=l.any λc=>xW c.Pos g.Pos&&(xW c.Neg g.Neg&&(!c.eu||g.eu))
theorem bU' (a b:List Int)(h1:a.length<=4194304)(h2:b.length<=4194304):KM a b=some (xW a b):=by
 unfold KM;rw [Uh a _ (λx=>!(b.any λy=>x==y)) h1 (λx _=>by unfold WM;rw [jc' b x h2];rfl)]
 simp only [KY',Qp];rfl
theorem Vi (l:List ax)(f:ax->Option Bool)(p:ax->Bool)(hl:l.length<=4194304)(hf:∀ x∈l,f x=some (p x)):EP l f=some (l.any p):=by
 unfold EP Yv;rw [dw];rcases qJ (step:=PY l f) l p (λi _=>(i:Int)) (λi x hx=>by
  have hi:i<l.length:=(La'.1 hx).1;unfold PY;rw [dn hi,aR hx];simp only [cond_true,KY',aV];rw [bF i (by omega),hf x (Lj' hx)]
  cases p x<;>rfl) (by
  unfold PY;simp) with ⟨i,x,hx,hp,_,e⟩ | ⟨h,e⟩
 ·rw [e,vE hx hp];simp only [KY',aL,Cr]
 ·rw [e,h];rfl
def gSh (g:ax):Prop:=g.Pos.length<=4194304/\g.Neg.length<=4194304
theorem iU' (l:List ax)(g:ax)(hl:l.length<=4194304)(h:∀ c∈l,gSh c)(hg:gSh g):FH l g=some (Pw l g):=by
 unfold FH;rw [Vi l _ (λc=>xW c.Pos g.Pos&&(xW c.Neg g.Neg&&(!c.eu||g.eu))) hl (λc hc=>by unfold UY;rw [bU' _ _ (h c hc).1 hg.1,bU' _ _ (h c hc).2 hg.2];cases xW c.Pos g.Pos<;>cases xW c.Neg g.Neg<;>cases c.eu<;>rfl)]
 rfl
theorem CU {α:Type}{step:Int->Option (Fl Int (Sum Unit Int))}(xs:List α)(p:α->Bool)
 (hst:∀ (i:Nat) (x:α),xs[i]?=some x->step (i:Int)=some (if p x=true then .done (.inr (i:Int)) else .next ((i+1:Nat):Int)))
 (hend:step (xs.length:Int)=some (.done (.inl ()))) :
 (((iter step ((xs.length:Int).toNat+1) 0).bind λb=>aL (λ_=>some (((-1:Int),()),())) (λy=>some ((y,()),())) b).bind λb=>some ((decide (0<=b.1.1),()),()))=some ((xs.any p,()),()):=by
 rw [dw];rcases qJ (step:=step) xs p (λi _=>(i:Int)) hst hend with ⟨i,x,hx,hp,_,e⟩ | ⟨h,e⟩
 ·rw [e,vE hx hp];simp only [KY',aL,Cr]
 ·rw [e,h];rfl
section
variable {T:ay}{v:Val}
def yE (T:ay)(e:ax)(K:Int)(x:Int):Option (Fl Int (Sum Unit Int)) :=
 bif x<(e.Neg.length:Int)
 then ((ak e.Neg x).bind λa =>
 ((ak T.aj a).bind λb =>
 some ((b.af==K,()),())).bind λb =>
 bif b.1.1
 then (some (.done (.inr x)))
 else (some (.next (wr .i64 (x+1)))))
 else (some (.done (.inl ())))
theorem Gv (hT:GT T){e:ax}(he:e.Neg.all (fM T)=true)(hl:e.Neg.length<=1000)(K:Int) :
 (((iter (yE T e K) ((e.Neg.length:Int).toNat+1) 0).bind λb=>aL (λ_=>some (((-1:Int),()),())) (λy=>some ((y,()),())) b).bind λb=>some ((decide (0<=b.1.1),()),()))=some ((e.Neg.any (dH T K),()),()) :=
 CU e.Neg (dH T K) (λi x hx=>by
  have hi:i<e.Neg.length:=(La'.1 hx).1;unfold yE;rw [dn hi,aR hx];simp only [cond_true,KY',aV];rw [(w9 hT (Le'.1 he x (Lj' hx))).1,bF i (by omega)]
  unfold dH;simp only [KY'];cases (aC T x).af==K<;>rfl) (by
  unfold yE;simp)
def xk (T:ay)(e:ax)(K:Int)(x:Bool×Int×ByteArray):Option (Fl (Bool×Int×ByteArray) (Sum (Bool×ByteArray) (Bool×ByteArray))) :=
 bif x.2.1<(e.Pos.length:Int)
 then ((ak e.Pos x.2.1).bind λa =>
 (ak T.aj a).bind λb =>
 bif b.af==K
 then ((bif x.1
 then (some (!(bU b.Text x.2.2)))
 else (some false)).bind λq =>
 bif q
 then (some (.done (.inr (true,x.2.2))))
 else (some (.next (true,wr .i64 (x.2.1+1),b.Text))))
 else (some (.next (x.1,wr .i64 (x.2.1+1),x.2.2))))
 else (some (.done (.inl (x.1,x.2.2))))
def FV (T:ay)(e:ax)(K:Int)(s:Bool×ByteArray)(x:Int):Option (Fl Int (Sum Unit Int)) :=
 bif x<(e.Neg.length:Int)
 then ((ak e.Neg x).bind λa =>
 ((ak T.aj a).bind λb =>
 (bif b.af==K
 then ((ak T.aj a).bind λc =>
 some (bU c.Text s.2))
 else (some false)).bind λq =>
 some ((q,()),())).bind λb =>
 bif b.1.1
 then (some (.done (.inr x)))
 else (some (.next (wr .i64 (x+1)))))
 else (some (.done (.inl ())))
def OI (T:ay)(e:ax)(K:Int):Option ((Bool×Unit)×Unit) :=
 (iter (xk T e K) ((e.Pos.length:Int).toNat+1) (false,0,(⟨#[]⟩:ByteArray))).bind λb =>
 aL (λx =>
 (bif x.1
 then ((((iter (FV T e K x) ((e.Neg.length:Int).toNat+1) 0).bind λb =>
 aL (λ_ =>
 some (((-1),()),())) (λy =>
 some ((y,()),())) b).bind λb =>
 some ((decide (0<=b.1.1),()),())).bind λb =>
 some b.1.1)
 else (some false)).bind λq =>
 some ((q,()),())) (λy =>
 some ((y.1,()),())) b
theorem O6 {a b:ByteArray}(h:bU a b=true):a=b:=by rw [AU,decide_eq_true_iff] at h;exact RD h
theorem an' (hT:GT T){e:ax}(hp:e.Pos.all (fM T)=true)(hq:e.Neg.all (fM T)=true)(l1:e.Pos.length<=1000)(l2:e.Neg.length<=1000)(K:Int) :
 ∃ b,OI T e K=some ((b,()),())/\(b=true->∀ s,uU T e K s=false):=by
 have hP:=Le'.1 hp;have hQ:=Le'.1 hq;have key:∃ r,iter (xk T e K) (e.Pos.length+1) (false,((0:Nat):Int),(⟨#[]⟩:ByteArray))=some r/\((∃ x,r=.inr x/\x.1=true/\∀ s,uU T e K s=false)\/∃ x,r=.inl x/\(x.1=true->∃ i∈e.Pos,dH T K i=true/\(aC T i).Text=x.2)):=by
  have gen:∀ (m i k:Nat) (f:Bool) (o:ByteArray),i+m=e.Pos.length->m+1<=k->(f=true->∃ j∈e.Pos,dH T K j=true/\(aC T j).Text=o) ->
   ∃ r,iter (xk T e K) k (f,(i:Int),o)=some r/\((∃ x,r=.inr x/\x.1=true/\∀ s,uU T e K s=false)\/∃ x,r=.inl x/\(x.1=true->∃ i∈e.Pos,dH T K i=true/\(aC T i).Text=x.2)):=by
   intro m
   induction m with
   | zero =>
     intro i k f o hi hk hf;obtain ⟨k,rfl⟩:∃ q,k=q+1:=⟨k-1,by omega⟩
     have hs:xk T e K (f,(i:Int),o)=some (.done (.inl (f,o))):=by
      unfold xk;rw [decide_eq_false (show ¬ (i:Int)<(e.Pos.length:Int) by omega)]
      rfl
     exact ⟨.inl (f,o),by simp only [iter,hs,KY'],.inr ⟨_,rfl,hf⟩⟩
   | succ m ih =>
     intro i k f o hi hk hf;obtain ⟨k,rfl⟩:∃ q,k=q+1:=⟨k-1,by omega⟩
     have hlt:i<e.Pos.length:=by omega
     have hx:=Lb' hlt;generalize e.Pos[i]=a at hx;have hm:=Lj' hx;have hb:=(w9 hT (hP a hm)).1;have h0:xk T e K (f,(i:Int),o)=bif dH T K a then (bif (bif f then !(bU (aC T a).Text o) else false) then some (.done (.inr (true,o))) else some (.next (true,((i+1:Nat):Int),(aC T a).Text))) else some (.next (f,((i+1:Nat):Int),o)):=by
      unfold xk;rw [dn hlt,aR hx];simp only [cond_true,KY',aV,hb];rw [bF i (by omega)]
      unfold dH;cases (aC T a).af==K<;>cases f<;>rfl
     cases hk1:dH T K a with
     | false =>rw [hk1] at h0;simp only [iter,h0,cond_false,KY'];exact ih (i+1) k f o (by omega) (by omega) hf
     | true =>
       rw [hk1] at h0;cases hc:(bif f then !(bU (aC T a).Text o) else false) with
       | false =>rw [hc] at h0;simp only [iter,h0,cond_true,cond_false,KY'];exact ih (i+1) k true _ (by omega) (by omega) λ_=>⟨a,hm,hk1,rfl⟩
       | true =>
         rw [hc] at h0;refine ⟨.inr (true,o),by simp only [iter,h0,cond_true,KY'],.inl ⟨_,rfl,rfl,λs=>?_⟩⟩
         cases f with
         | false=>cases hc
         | true =>
           obtain ⟨j,j1,j2,j3⟩:=hf rfl;cases hsp:uU T e K s with
           | false=>rfl
           | true =>
             unfold uU at hsp;simp only [Lc',Le',LU'] at hsp;have q1:=hsp.1 a hm;have q2:=hsp.1 j j1;rw [hk1] at q1;rw [j2] at q2;unfold Fw at q1 q2;have e1:=O6 (q1.resolve_left (by simp))
             have e2:=O6 (q2.resolve_left (by simp))
             rw [e1,<- j3,e2] at hc;simp [bU] at hc
  exact gen e.Pos.length 0 _ false _ (by omega) (Lg' _) (λh=>by cases h)
 obtain ⟨r,hr,hc⟩:=key;unfold OI;have hr':iter (xk T e K) ((e.Pos.length:Int).toNat+1) (false,0,(⟨#[]⟩:ByteArray))=some r:=by rw [dw]; exact hr
 rw [hr'];rcases hc with ⟨x,rfl,h1,h2⟩ | ⟨x,rfl,h1⟩
 ·exact ⟨x.1,rfl,λ_=>h2⟩
 ·obtain ⟨f,o⟩:=x;cases f with
  | false=>exact ⟨false,rfl,λh=>by cases h⟩
  | true =>
    obtain ⟨j,j1,j2,j3⟩:=h1 rfl;have hn:∀ i∈e.Neg,ak T.aj i=some (aC T i):=λi hi=>(w9 hT (hQ i hi)).1;have hs:=CU (step:=FV T e K (true,o)) e.Neg (λi=>dH T K i&&bU (aC T i).Text o) (λi x hx=>by
     have hi:i<e.Neg.length:=(La'.1 hx).1;unfold FV;rw [dn hi,aR hx];simp only [cond_true,KY',aV,hn x (Lj' hx)];rw [bF i (by omega)]
     unfold dH;cases (aC T x).af==K<;>cases bU (aC T x).Text o<;>rfl) (by
     unfold FV;simp)
    simp only [KY',aL,cond_true];simp only [aL] at hs;rw [hs];refine ⟨e.Neg.any λi=>dH T K i&&bU (aC T i).Text o,rfl,λh s=>?_⟩;obtain ⟨i,i1,i2⟩:=LL'.1 h;rw [Lc'] at i2;cases hsp:uU T e K s with
    | false=>rfl
    | true =>
      unfold uU at hsp;simp only [Lc',Le',LU'] at hsp;have q1:=hsp.1 j j1;have q2:=hsp.2 i i1;rw [j2] at q1;rw [i2.1] at q2;unfold Fw at q1 q2;have e1:(aC T j).Text=s:=O6 (q1.resolve_left (by simp))
      have e2:=O6 i2.2;have e3:o=s:=j3.symm.trans e1;rw [e2,e3] at q2;simp [bU] at q2
theorem wJ' (e:ax):Qs (T.aj,T.dh,()) e=(FK T e).bind λl=>some ((l.length:Int)==0):=by have h1:bP' (T.aj,T.dh,()) e=GQ T e:=rfl;have h2:aV' (T.aj,T.dh,()) e=Hu T e:=rfl;unfold Qs FK;rw [h1,h2];simp only [LX',KY']
end
def AZ (m base:Nat)(ds:List Int):Prop:=ds.length=m/\∀ d∈ds,0<=d/\d<(base:Int)
def CF (m top:Int)(x:List Int×Int):Option (Fl (List Int×Int) (List Int×Int)) :=
 (bif x.2<m
 then ((ak x.1 x.2).bind λ_ =>
 (x.1[x.2.toNat]?).bind λb =>
 some (b==top))
 else (some false)).bind λq =>
 bif q
 then ((ak x.1 x.2).bind λ_ =>
 (x.1[x.2.toNat]?).bind λ_ =>
 some (.next (x.1.set x.2.toNat 0,wr .i64 (x.2+1))))
 else (some (.done (x.1,x.2)))
def pM (FB:List Int->Option ((Bool×Unit)×Unit))(m top:Int)(ds:List Int):Option (Fl (List Int) (Bool×List Int)) :=
 (FB ds).bind λb =>
 bif !b.1.1
 then (some (.done (false,ds)))
 else ((iter (CF m top) (m.toNat+1) (ds,0)).bind λb =>
 bif b.2==m
 then (some (.done (true,b.1)))
 else ((ak b.1 b.2).bind λ_ =>
 (b.1[b.2.toNat]?).bind λc =>
 (ak b.1 b.2).bind λ_ =>
 (b.1[b.2.toNat]?).bind λ_ =>
 some (.next (b.1.set b.2.toNat (wr .i64 (c+1))))))
def jq (top:Int):List Int->Nat
 | []=>0
 | d::ds=>if d=top then jq top ds+1 else 0
def nH (top:Int):List Int->List Int
 | []=>[]
 | d::ds=>if d=top then 0::nH top ds else d::ds
theorem fz' {top d:Int}{ds:List Int}(e:d=top):jq top (d::ds)=jq top ds+1:=by rw [jq,if_pos e]
theorem kf' {top d:Int}{ds:List Int}(e:¬ d=top):jq top (d::ds)=0:=by rw [jq,if_neg e]
theorem gR' {top d:Int}{ds:List Int}(e:d=top):nH top (d::ds)=0::nH top ds:=by rw [nH,if_pos e]
theorem iW' {top d:Int}{ds:List Int}(e:¬ d=top):nH top (d::ds)=d::ds:=by rw [nH,if_neg e]
theorem eB' (top:Int):∀ ds:List Int,jq top ds<=ds.length
 | []=>Lg' _
 | d::ds=>by
   unfold jq;split
   ·simp [eB' top ds]
   ·simp
theorem cN' (m:Nat)(hm:m<=1000)(top:Int):∀ (ds pre:List Int) (k:Nat),pre.length+ds.length=m->ds.length+1<=k ->
 iter (CF (m:Int) top) k (pre++ds,(pre.length:Int))=some (pre++nH top ds,((pre.length+jq top ds:Nat):Int))
 | [],pre,k,hl,hk=>by
   obtain ⟨k,rfl⟩:∃ q,k=q+1:=⟨k-1,by omega⟩
   have hs:CF (m:Int) top (pre++[],(pre.length:Int))=some (.done (pre++[],(pre.length:Int))):=by
    unfold CF;rw [decide_eq_false (show ¬ (pre.length:Int)<(m:Int) by simp at hl; omega)]
    rfl
   simp only [iter,hs,KY',nH,jq,ME']
 | d::ds,pre,k,hl,hk=>by
   obtain ⟨k,rfl⟩:∃ q,k=q+1:=⟨k-1,by omega⟩
   simp only [Ld'] at hl hk;have hx:(pre++d::ds)[pre.length]?=some d:=by simp
   have hs:CF (m:Int) top (pre++d::ds,(pre.length:Int))=if d=top then some (.next ((pre++[0])++ds,((pre.length+1:Nat):Int))) else some (.done (pre++d::ds,(pre.length:Int))):=by
    unfold CF;rw [decide_eq_true (show (pre.length:Int)<(m:Int) by omega)]
    simp only [cond_true,aR hx,KY',Ln',hx,aV];by_cases e:d=top
    ·rw [if_pos e,bF _ (by omega)]
     have:(d==top)=true:=by simp [e]
     rw [this];simp [List.set_append]
    ·rw [if_neg e];have:(d==top)=false:=by simp [e]
     rw [this];rfl
   by_cases e:d=top
   ·rw [if_pos e] at hs;have:=cN' m hm top ds (pre++[0]) k (by simp; omega) (by omega)
    simp only [Lf',Ld',Lh',LM'] at this;simp only [iter,hs,KY'];rw [this];rw [gR' e,fz' e];simp only [Lt',Mg',Mj'];rw [show pre.length+1+jq top ds=pre.length+(jq top ds+1) by omega]
   ·rw [if_neg e] at hs;simp only [iter,hs,KY'];rw [iW' e,kf' e];rfl
theorem kh' (base:Nat)(hb:1<=base):∀ ds:List Int,(∀ d∈ds,0<=d/\d<(base:Int)) ->
 (jq ((base:Int)-1) ds=ds.length->(mR ds (Ll' ds.length base)).2=false) /\
 (jq ((base:Int)-1) ds<ds.length->∃ c,(nH ((base:Int)-1) ds)[jq ((base:Int)-1) ds]?=some c/\c+1<(base:Int)/\0<=c/\mR ds (Ll' ds.length base)=((nH ((base:Int)-1) ds).set (jq ((base:Int)-1) ds) (c+1),true))
 | [],_=>⟨λ_=>rfl,λh=>by simp [jq] at h⟩
 | d::ds,h=>by
   obtain ⟨i1,i2⟩:=kh' base hb ds λx hx=>h x (by simp [hx])
   have hd:=h d (by simp)
   by_cases e:d=(base:Int)-1
   ·have e1:mR (d::ds) (Ll' (d::ds).length base)=(0::(mR ds (Ll' ds.length base)).1,(mR ds (Ll' ds.length base)).2):=by
     simp only [Ld',MR',mR];rw [if_neg (by omega)]
    have e2:jq ((base:Int)-1) (d::ds)=jq ((base:Int)-1) ds+1:=fz' e;have e3:nH ((base:Int)-1) (d::ds)=0::nH ((base:Int)-1) ds:=gR' e;rw [e1,e2,e3];refine ⟨λh=>i1 (by simpa using h),λh=>?_⟩
    obtain ⟨c,c1,c2,c3,c4⟩:=i2 (by simpa using h)
    refine ⟨c,by simpa using c1,c2,c3,?_⟩
    rw [c4];rfl
   ·have e1:mR (d::ds) (Ll' (d::ds).length base)=((d+1)::ds,true):=by
     simp only [Ld',MR',mR];rw [if_pos (by omega)]
    have e2:jq ((base:Int)-1) (d::ds)=0:=kf' e;have e3:nH ((base:Int)-1) (d::ds)=d::ds:=iW' e;rw [e1,e2,e3];exact ⟨λh=>by simp at h,λ_=>⟨d,rfl,by omega,hd.1,rfl⟩⟩
theorem uA' (m base:Nat)(hm:m<=1000)(hb:1<=base)(hb2:base<=1000000000){FB:List Int->Option ((Bool×Unit)×Unit)}(f:List Int->Bool)
 (hF:∀ ds,AZ m base ds->FB ds=some ((f ds,()),())) (n:Nat) (hn:tot (Ll' m base)+1<=n) :
 ∃ b z,iter (pM FB (m:Int) ((base:Int)-1)) n (Ll' m 0)=some (b,z)/\(b=true->∀ ds,AZ m base ds->f ds=true):=by
 have hms:∀ x∈Ll' m base,1<=x:=λx hx=>by rw [(List.mem_replicate.1 hx).2]; exact hb
 have hdg:∀ k,AZ m base (iX (Ll' m base) k):=λk=>by
  have hl:(iX (Ll' m base) k).length=m:=by rw [dR']; simp
  refine ⟨hl,λd hd=>?_⟩;obtain ⟨j,hj,rfl⟩:=LW' hd;have hjm:j<m:=by omega
  exact gi' _ k hms j _ base (Lb' hj) (by rw [NK',if_pos hjm])
 have gen:∀ (q k n:Nat),k+q=tot (Ll' m base)->1<=q->q+1<=n->(∀ j,j<k->f (iX (Ll' m base) j)=true) ->
  ∃ b z,iter (pM FB (m:Int) ((base:Int)-1)) n (iX (Ll' m base) k)=some (b,z)/\(b=true->∀ j,j<tot (Ll' m base)->f (iX (Ll' m base) j)=true):=by
  intro q
  induction q with
  | zero=>intro k n _ h1; omega
  | succ q ih =>
    intro k n hk _ hn hall;obtain ⟨n,rfl⟩:∃ r,n=r+1:=⟨n-1,by omega⟩
    have hD:=hdg k;generalize hds:iX (Ll' m base) k=ds at hD;have hI:=cN' m hm ((base:Int)-1) ds [] (m+1) (by simp [hD.1]) (by rw [hD.1]; exact Lg' _)
    simp only [Mj',Lh',LM'] at hI;have hI':iter (CF (m:Int) ((base:Int)-1)) ((m:Int).toNat+1) (ds,0)=some (nH ((base:Int)-1) ds,(jq ((base:Int)-1) ds:Int)):=hI;obtain ⟨a1,a2⟩:=kh' base hb ds hD.2;have hrl:Ll' ds.length base=Ll' m base:=by rw [hD.1]
    rw [hrl] at a1 a2;obtain ⟨o1,o2⟩:=am' (Ll' m base) k hms (by omega)
    rw [hds] at o1 o2;cases hf:f ds with
    | false =>
      have hs:pM FB (m:Int) ((base:Int)-1) ds=some (.done (false,ds)):=by unfold pM;rw [hF ds hD,hf];rfl
      exact ⟨false,ds,by simp only [iter,hs,KY'],λh=>by cases h⟩
    | true =>
      have hle:=eB' ((base:Int)-1) ds;by_cases hj:jq ((base:Int)-1) ds=ds.length
      ·have hs:pM FB (m:Int) ((base:Int)-1) ds=some (.done (true,nH ((base:Int)-1) ds)):=by
        unfold pM;rw [hF ds hD,hf];simp only [KY',Mc',cond_false];rw [hI'];have:((jq ((base:Int)-1) ds:Int)==(m:Int))=true:=by rw [hj,hD.1]; simp
        simp only [KY',this,cond_true]
       refine ⟨true,nH ((base:Int)-1) ds,by simp only [iter,hs,KY'],λ_ j hjt=>?_⟩
       have hlast:¬ k+1<tot (Ll' m base):=λh=>by have:=o1 h;have h2:=a1 hj;rw [this] at h2;simp at h2
       by_cases hjk:j=k
       ·rw [hjk,hds]; exact hf
       ·exact hall j (by omega)
      ·obtain ⟨c,c1,c2,c3,c4⟩:=a2 (by omega)
       have hs:pM FB (m:Int) ((base:Int)-1) ds=some (.next ((nH ((base:Int)-1) ds).set (jq ((base:Int)-1) ds) (c+1))):=by
        unfold pM;rw [hF ds hD,hf];simp only [KY',Mc',cond_false];rw [hI'];have:((jq ((base:Int)-1) ds:Int)==(m:Int))=false:=by rw [beq_eq_false_iff_ne];have:=hD.1;omega
        simp only [KY',this,cond_false,aR c1,Ln',c1,aV];rw [dZ (by omega) (by omega)]
       have hmore:k+1<tot (Ll' m base):=by
        rcases NR' (k+1) (tot (Ll' m base)) with h | h
        ·exact h
        ·have:=o2 (by omega)
         rw [c4] at this;cases this
       have hnx:=o1 hmore;rw [c4] at hnx;simp only [Prod.mk.injEq,and_true] at hnx;rw [hnx] at hs;simp only [iter,hs,KY'];exact ih (k+1) n (by omega) (by omega) (by omega) λj hj'=>by
        by_cases hjk:j=k
        ·rw [hjk,hds]; exact hf
        ·exact hall j (by omega)
 obtain ⟨b,z,h1,h2⟩:=gen (tot (Ll' m base)) 0 n (by omega) (hZ' _ hms) hn (λj hj=>by omega)
 rw [ci'] at h1;simp only [Ny'] at h1;refine ⟨b,z,h1,λhb' ds hds=>?_⟩;obtain ⟨k,k1,k2⟩:=jH' (Ll' m base) ds (by simp [hds.1]) λj d q hd hq=>by
  rw [NK'] at hq;split at hq
  ·cases hq;exact hds.2 d (Lj' hd)
  ·cases hq
 rw [<- k2];exact h2 hb' k k1
section
variable {T:ay}{all:List ax}
structure SG (all:List ax):Prop where
 len:all.length<=1000
 sh:∀ c∈all,c.Pos.length<=1000/\c.Neg.length<=1000
abbrev nG (p q:List Int)(L:Bool):ax:=ax.mk (fJ p) (fJ q) L
def jK (all:List ax)(p q:List Int)(L:Bool):Bool:=Pw all (nG p q L)
theorem JB (h:SG all)(p q:List Int)(L:Bool)(hp:p.length<=1000)(hq:q.length<=1000) :
 ((jf (ax.mk p q L)).bind λr=>rE r all)=some (jK all p q L):=by
 rw [Uw p q L (by omega) (by omega),KY']
 have h1:=FD p;have h2:=FD q;unfold rE;rw [iU' all _ (by have:=h.len; omega) (λc hc=>⟨by have:=(h.sh c hc).1; omega,by have:=(h.sh c hc).2; omega⟩) ⟨by show (fJ p).length<=_; omega,by show (fJ q).length<=_; omega⟩]
 rfl
theorem Me {α β:Type}(f:α->β):∀ z:List α,(z.flatMap λx=>[f x])=z.map f
 | []=>rfl
 | x::z=>by rw [Mk',Me f z]; rfl
def eH (T:ay)(k:Nat)(i:Int):Int:=(aC T i).ai.getD k 0
theorem RS (l:List Int)(k:Nat)(hl:l.length<=1000)(h:∀ i∈l,ak T.aj i=some (aC T i)/\k<(aC T i).ai.length) :
 kZ (T.aj,T.dh,()) l (k:Int)=some (l.map (eH T k)):=by
 have key:=nK (σ:=List Int) (step:=KJ (T.aj,T.dh,()) l (k:Int)) l (λout i=>(out,(i:Int))) (λout x=>out++[eH T k x]) (λi out=>out.length=i) (λout=>out)
  (λi out x hx hI=>by
    have hi:i<l.length:=(La'.1 hx).1;obtain ⟨a1,a2⟩:=h x (Lj' hx);have hk:(aC T x).ai[k]?=some (eH T k x):=by unfold eH;rw [Ms',Lb' a2,Mo']
    refine ⟨?_,by simp [hI]⟩
    unfold KJ;simp only;rw [dn hi,aR hx];simp only [cond_true,KY',Ln',hx,a1,aR hk,aV];rw [dX (by simp only [Ld',Lh']; omega),bF i (by omega)]
    rfl) (λout _=>by
    unfold KJ;simp) [] rfl (l.length+1) (Lg' _)
 unfold kZ;rw [dw];have key':iter (KJ (T.aj,T.dh,()) l (k:Int)) (l.length+1) ([],0)=_:=key;rw [key',Ar,Me];simp
def dV (l ds:List Int)(v:Int):List Int:=((l.zip ds).filter λp=>p.2==v).map (·.1)
theorem Qr (l ds:List Int)(v:Int):(dV l ds v).length<=l.length:=by unfold dV;rw [LH'];refine Lr' (NA' _ _) ?_;rw [List.length_zip];omega
theorem Cw {l ds:List Int}{v x:Int}(h:x∈dV l ds v):x∈l:=by unfold dV at h;obtain ⟨p,hp,rfl⟩:=Lx'.1 h;exact (Oa' (MM'.1 hp).1).1
theorem Kw (l ds:List Int)(v:Int)(hl:l.length<=1000)(hd:ds.length=l.length):ou l ds v=some (dV l ds v):=by
 have hz:(l.zip ds).length=l.length:=by simp [hd]
 have key:=nK (σ:=List Int) (step:=JK l ds v) (l.zip ds) (λout i=>(out,(i:Int))) (λout p=>out++(if p.2==v then [p.1] else [])) (λi out=>out.length<=i) (λout=>out)
  (λi out p hp hI=>by
    obtain ⟨e1,e2⟩:=EQ hp;have hi:i<l.length:=(La'.1 e1).1;refine ⟨?_,by rw [Lf']; split<;>simp<;>omega⟩
    unfold JK;simp only;rw [dn hi,aR e1,aR e2];simp only [cond_true,KY',Ln',e1,e2,aV];rw [dX (by simp only [Ld',Lh']; omega),bF i (by omega)]
    cases p.2==v<;>simp) (λout _=>by
    unfold JK;simp [hd]) [] (Lg' _) (l.length+1) (by omega)
 unfold ou;rw [dw];have key':iter (JK l ds v) (l.length+1) ([],0)=_:=key;rw [key',Ar];have:∀ z:List (Int×Int),z.flatMap (λp=>if p.2==v then [p.1] else [])=(z.filter λp=>p.2==v).map (·.1):=by
  intro z
  induction z with
  | nil=>rfl
  | cons p z ih =>rw [Mk',ih,List.filter_cons];cases p.2==v<;>simp
 simp only [Mj',KY',this];rfl
def Am (T:ay)(all:List ax)(pos neg:List Int)(w:Nat)(L:Bool)(ds:List Int):Bool :=
 (LY' w).any λi=>jK all (pos.map (eH T i)) ((dV neg ds (i:Int)).map (eH T i)) (L&&i==1)
theorem HZ {w i x:Nat}(h:(LY' w)[i]?=some x):x=i/\i<w:=by
 have hi:i<w:=by simpa using (La'.1 h).1
 rw [List.getElem?_range hi] at h;exact ⟨(LI'.inj h).symm,hi⟩
theorem cG' {step:Int->Option (Fl Int (Sum Unit Bool))}(w:Nat)(p:Nat->Bool)
 (hst:∀ i:Nat,i<w->step (i:Int)=some (bif p i then .done (.inr true) else .next ((i+1:Nat):Int))) (hend:step (w:Int)=some (.done (.inl ()))) :
 ((iter step ((w:Int).toNat+1) 0).bind λb=>aL (λ_=>some ((false,()),())) (λy=>some ((y,()),())) b)=some (((LY' w).any p,()),()):=by
 have hl:(LY' w).length=w:=MG';have e:=qJ (step:=step) (LY' w) p (λ_ _=>true) (λi x hx=>by obtain ⟨rfl,hi⟩:=HZ hx;rw [hst _ hi];cases p x<;>rfl) (by rw [hl]; exact hend)
 rw [hl] at e;have hw:(w:Int).toNat=w:=by omega
 rw [hw];rcases e with ⟨i,x,hx,hp,_,e⟩ | ⟨h,e⟩
 ·rw [e,vE hx hp];rfl
 ·rw [e,h];rfl
theorem PD (l:List Int)(h:l.length<=1000):jY (l.length:Int) (l.length:Int) 8=some l.length:=by
 unfold jY;rw [decide_eq_true (show (0:Int)<=(l.length:Int) by omega),decide_eq_true (show (l.length:Int)<=(l.length:Int) by omega),decide_eq_true (show (l.length:Int)*((8:Nat):Int)<=140737488355328 by omega)]
 simp
theorem Ou (m base:Nat)(hm:m<=1000)(hb2:base<=1000000000){FB:List Int->Option ((Bool×Unit)×Unit)}(f:List Int->Bool)(hF:∀ ds,AZ m base ds->FB ds=some ((f ds,()),()))(h0:base=0->f []=false)(n:Nat)(hn:tot (Ll' m base)+1<=n) :
 ∃ b,((bif (base:Int)==0
  then (some (decide (0<(m:Int))))
  else (some false)).bind λq =>
  bif q
  then (some ((true,()),()))
  else ((some m).bind λz =>
  (iter (pM FB (m:Int) ((base:Int)-1)) n (Ll' z (0:Int))).bind λb =>
  some ((b.1,()),())))=some ((b,()),())/\(b=true->∀ ds,AZ m base ds->f ds=true):=by
 by_cases hb:base=0
 ·subst hb;have e:(((0:Nat):Int)==0)=true:=rfl;rw [e];simp only [cond_true,KY'];by_cases hm0:m=0
  ·subst hm0;have hf:=h0 rfl;have hD:AZ 0 0 []:=⟨rfl,λd hd=>by cases hd⟩
   obtain ⟨n,rfl⟩:∃ q,n=q+1:=⟨n-1,by omega⟩
   have hs:pM FB ((0:Nat):Int) (((0:Nat):Int)-1) (Ll' 0 0)=some (.done (false,[])):=by
    unfold pM;rw [show Ll' 0 (0:Int)=[] from rfl,hF [] hD,hf]
    rfl
   refine ⟨false,?_,λh=>by cases h⟩
   rw [show decide ((0:Int)<((0:Nat):Int))=false from rfl]
   simp only [cond_false,iter,hs,KY']
  ·rw [decide_eq_true (show (0:Int)<(m:Int) by omega)]
   refine ⟨true,rfl,λ_ ds hds=>?_⟩;obtain ⟨h1,h2⟩:=hds;cases ds with
   | nil=>exact absurd h1.symm hm0
   | cons d ds =>
     have:=h2 d (by simp)
     omega
 ·have e:((base:Int)==0)=false:=by rw [beq_eq_false_iff_ne]; omega
  rw [e];simp only [cond_false,KY'];obtain ⟨b,z,h1,h2⟩:=uA' m base hm (by omega) hb2 f hF n hn
  rw [h1];exact ⟨b,rfl,h2⟩
def NK (T:ay)(l:List Int)(w:Nat):Prop:=l.length<=1000/\∀ i∈l,ak T.aj i=some (aC T i)/\w<=(aC T i).ai.length
theorem cH' (hG:SG all){pos neg ds:List Int}{w i:Nat}(hp:NK T pos w)(hq:NK T neg w)(hd:ds.length=neg.length)(hi:i<w)(L:Bool) :
 ((kZ (T.aj,T.dh,()) pos (i:Int)).bind λa=>(ou neg ds (i:Int)).bind λb=>(kZ (T.aj,T.dh,()) b (i:Int)).bind λc =>
   (jf (ax.mk a c L)).bind λd=>rE d all)=some (jK all (pos.map (eH T i)) ((dV neg ds (i:Int)).map (eH T i)) L):=by
 have hl:=Qr neg ds (i:Int);have h1:=hp.1;have h2:=hq.1;rw [RS pos i h1 λx hx=>⟨(hp.2 x hx).1,MB' hi (hp.2 x hx).2⟩,KY',Kw neg ds _ h2 hd,KY',
  RS (dV neg ds (i:Int)) i (by omega) λx hx=>⟨(hq.2 x (Cw hx)).1,MB' hi (hq.2 x (Cw hx)).2⟩,KY']
 exact JB hG _ _ L (by rw [LH']; omega) (by rw [LH']; omega)
theorem uQ' (hG:SG all){pos neg:List Int}{w:Nat}(hw:w<=1000)(hp:NK T pos w)(hq:NK T neg w)(K:Int)(n:Nat)(hn:tot (Ll' neg.length w)+1<=n) :
 ∃ b,((bif (bN.mk K (w:Int)).dB==0
  then (some (decide (0<(neg.length:Int))))
  else (some false)).bind λq =>
  bif q
  then (some ((true,()),()))
  else ((jY (neg.length:Int) (neg.length:Int) 8).bind λz =>
  (iter (YJ T all (bN.mk K (w:Int)) pos neg) n (Ll' z (0:Int))).bind λb =>
  some ((b.1,()),())))=some ((b,()),())/\(b=true->∀ ds,AZ neg.length w ds->Am T all pos neg w false ds=true):=by
 rw [PD neg hq.1];have e1:YJ T all (bN.mk K (w:Int)) pos neg=pM (λds=>(iter (Pg T all (bN.mk K (w:Int)) pos neg ds) ((w:Int).toNat+1) 0).bind λb=>aL (λ_=>some ((false,()),())) (λy=>some ((y,()),())) b) (neg.length:Int) (wr .i64 ((w:Int)-1)):=rfl;have e2:wr .i64 ((w:Int)-1)=(w:Int)-1:=dZ (by omega) (by omega)
 rw [e1,e2];refine Ou neg.length w hq.1 (by omega) (Am T all pos neg w false) (λds hds=>?_) (λh=>by subst h; rfl) n hn
 refine cG' w _ (λi hi=>?_) (by unfold Pg;simp)
 have h:=cH' hG hp hq hds.1 hi false;unfold Pg;simp only [decide_eq_true (show (i:Int)<(w:Int) by omega),cond_true,aV]
 rw [bF i (by omega),Bool.false_and]
 revert h;cases kZ (T.aj,T.dh,()) pos (i:Int) with
 | none=>intro h; cases h
 | some a =>
 cases ou neg ds (i:Int) with
 | none=>intro h; cases h
 | some b =>
 simp only [KY'];cases kZ (T.aj,T.dh,()) b (i:Int) with
 | none=>intro h; cases h
 | some c =>
 simp only [KY'];cases jf (ax.mk a c false) with
 | none=>intro h; cases h
 | some d =>
 simp only [KY'];intro h;rw [h];simp only [KY'];cases jK all (pos.map (eH T i)) ((dV neg ds (i:Int)).map (eH T i)) false<;>rfl
theorem sr' (hG:SG all){pos neg:List Int}(hp:NK T pos 2)(hq:NK T neg 2)(n:Nat)(hn:tot (Ll' neg.length 2)+1<=n) :
 ∃ b,((bif (2:Int)==0
  then (some (decide (0<(neg.length:Int))))
  else (some false)).bind λq =>
  bif q
  then (some ((true,()),()))
  else ((jY (neg.length:Int) (neg.length:Int) 8).bind λz =>
  (iter (YB T all pos neg) n (Ll' z (0:Int))).bind λb =>
  some ((b.1,()),())))=some ((b,()),())/\(b=true->∀ ds,AZ neg.length 2 ds->Am T all pos neg 2 true ds=true):=by
 rw [PD neg hq.1];have e1:YB T all pos neg=pM (λds=>(iter (Qd T all pos neg ds) (((2:Nat):Int).toNat+1) 0).bind λb=>aL (λ_=>some ((false,()),())) (λy=>some ((y,()),())) b) (neg.length:Int) (wr .i64 ((2:Int)-1)):=rfl;have e2:wr .i64 ((2:Int)-1)=((2:Nat):Int)-1:=rfl;rw [e1,e2];refine Ou neg.length 2 hq.1 (by omega) (Am T all pos neg 2 true) (λds hds=>?_) (λh=>by cases h) n hn
 refine cG' 2 _ (λi hi=>?_) (by unfold Qd;simp)
 have hb:((i:Int)==1)=(i==1):=by
  have:i=0\/i=1:=by omega
  rcases this with rfl | rfl<;>rfl
 have h:=cH' hG hp hq hds.1 hi (i==1);unfold Qd;simp only [decide_eq_true (show (i:Int)<2 by omega),cond_true,aV,hb]
 rw [bF i (by omega),LQ']
 revert h;cases kZ (T.aj,T.dh,()) pos (i:Int) with
 | none=>intro h; cases h
 | some a =>
 cases ou neg ds (i:Int) with
 | none=>intro h; cases h
 | some b =>
 simp only [KY'];cases kZ (T.aj,T.dh,()) b (i:Int) with
 | none=>intro h; cases h
 | some c =>
 simp only [KY'];cases jf (ax.mk a c (i==1)) with
 | none=>intro h; cases h
 | some d =>
 simp only [KY'];intro h;rw [h];simp only [KY'];cases jK all (pos.map (eH T i)) ((dV neg ds (i:Int)).map (eH T i)) (i==1)<;>rfl
end
theorem CM' (s0:List Key)(i0 n:Nat)(hn:n<=4194304)(i k:Nat)(s:List Key)(x y:Key)(hl:s.length=n)(hk:i0+k<n)(h1:1<=k)(hi:i<i0+k)(hx:s[i0+k]?=some x)(hy:s[i0+k-1]?=some y) :
 Hl (s0,(i0:Int)) (((i:Int),(k:Int)),s)=some (.next (if fZ x y=true then (((i:Int),((k+1:Nat):Int)),s) else ((((i+1:Nat):Int),((k+1:Nat):Int)),s.set i x))):=by
 unfold Hl;simp only [eZ,aV,Ln'];have hdl:(s.drop i0).length=n-i0:=by rw [LK',hl]
 rw [if_pos (decide_eq_true (by show (k:Int)<(((s.drop i0).length:Nat):Int); rw [hdl]; omega)),bF i (by omega),bF k (by omega),yP k (by omega) h1]
 simp only [Ln'];have a1:ak (s.drop i0) (k:Int)=some x:=aR (by rw [Mh']; exact hx)
 have a2:ak (s.drop i0) ((k-1:Nat):Int)=some y:=aR (by rw [Mh',show i0+(k-1)=i0+k-1 by omega]; exact hy)
 have a3:ak s (i:Int)=some (s[i]'(by omega)):=aR (Lb' (by omega))
 rw [a1,a2,a3,hx,show i0+(k-1)=i0+k-1 by omega,hy,Lb' (show i<s.length by omega)]
 simp only [KY'];rw [Br];cases h:fZ x y<;>simp
theorem ot' (l:List Key)(hl:l.length<=4194304):SL l=some (mh fZ l):=by
 unfold SL;by_cases h2:(l.length:Int)<2
 ·have e:decide ((l.length:Int)<2)=true:=by simpa using h2
  rw [e]
  match l,h2 with
  | [],_=>rfl
  | [_],_=>rfl
  | _::_::_,h=>exact absurd h (by simp; omega)
 ·have e:decide ((l.length:Int)<2)=false:=by simpa using h2
  rw [e,dw];simp only [cond_false];have key:=WU (r:=fZ) (step:=J5) l (by omega) ?_ ?_ ?_
  ·rcases key with ⟨h,hc⟩ | ⟨q,h⟩
   ·rw [h,hc]; rfl
   ·rw [h]; rfl
  ·intro i x y hi hx hy hr;have hlt:i<l.length:=(La'.1 hx).1;unfold J5;simp only [eZ,aV,Ln'];rw [if_pos (by simp; omega),yP i (by omega) hi,aR hx,aR hy]
   simp only [Ln',hx,hy,KY'];rw [Br,hr,bF i (by omega)]
   rfl
  ·intro i x y hi hx hy hr;have hlt:i<l.length:=(La'.1 hx).1;unfold J5;simp only [eZ,aV,Ln'];rw [if_pos (by simp; omega),yP i (by omega) hi,aR hx,aR hy]
   simp only [Ln',hx,hy,KY'];rw [Br,hr,if_pos rfl];obtain ⟨s',e1,e2,e3⟩:=Xq (r:=fZ) (step:=Hl (l,(i:Int))) i l.length (λi' k s x y a1 a2 a3 a4 a5 a6=>CM' l i l.length hl i' k s x y a1 a2 a3 a4 a5 a6)
    (λi' k s a1 a2=>by
      unfold Hl;simp only [Ln'];have:decide ((k:Int)<(((s.drop i).length:Nat):Int))=false:=by rw [LK']; simp; omega
      rw [this];rfl) (l.length-(i+1)) i 1 l x ((l.drop i).length+1) rfl (by omega) (Lg' _) (by omega) (by simpa using hx) (by rw [LK']; omega)
   have zB:iter (Hl (l,(i:Int))) ((l.drop i).length+1) (((i:Int),1),l)=_:=e1;rw [zB];simp only [KY',<- eZ];have hd:=II (r:=fZ) (l.drop (i+1)) x;rw [LK'] at hd;exact YQ (Key.mk 0 (⟨#[]⟩:ByteArray)) _ l.length s' _ e2 (by omega) e3
  ·unfold J5;simp
theorem pW' (l:List Key)(hl:l.length<=4194304):∃ m,(uX l λz5 z6=>(Df z5 z6).bind λr7=>some r7)=some ((),m)/\m.Perm l/\m.Pairwise λa b=>¬ cK b a<0:=by
 have eg:(λz5 z6:Key=>(Df z5 z6).bind λr7=>some r7)=λa b=>some (cK a b):=by funext a b;rw [jT'];rfl
 rw [eg];have hlt:∀ a b:Key,jb (λa b:Key=>some (cK a b)) a b=decide (cK a b<0):=λa b=>rfl;have hw:DY (jb (λa b:Key=>some (cK a b))) l:=⟨λx _=>by rw [hlt,SE]; rfl,λx _ y _ z _ h1 h2=>by
  rw [hlt] at *;simp only [decide_eq_true_eq] at *;exact cr' h1 (by omega),λx _ y _ z _ h1 h2=>by
  rw [hlt] at *;simp only [decide_eq_false_iff_not] at *;have a1:=Ej x y;have a2:=Ej y z;have a3:=Ej x z;have:=VJ z y x (by omega) (by omega)
  omega⟩
 have hok:DZ l (λa b:Key=>some (cK a b)):=⟨by omega,λx _ y _=>⟨_,rfl⟩,hw⟩
 obtain ⟨h1,h2⟩:=YN hw;refine ⟨vz (jb λa b:Key=>some (cK a b)) l,?_,h1,h2.imp λ{a b} h=>?_⟩
 ·unfold uX KI;rw [if_pos hok];rfl
 ·rw [hlt] at h;simpa using h
end Go.Pl
end

/- Part 5. -/
import Derived.Test.YtjbmbpabpaeklaaGreatDoorK2
import Derived.Test.YtjbmbpabpaeklaaGreatDoorK3
import Derived.Test.YtjbmbpabpaeklaaGreatDoorK4
import Derived.BigCall
import Derived.KernelRfl
import Derived.Shelf.Lays
import Derived.Shelf.SlLaysF0
import Derived.Shelf.Strings.Builder1
import Derived.Test.YtjbmbpabpaeklaaGreatDoorProg
import Derived.WalkKit
noncomputable section
open Array renaming getElem?_eq_some_iff->MI',getElem_append->Nn',getElem_ofFn->MX',length_toList->LV',replicate->Nz'
open Bool renaming and_eq_true->Lc',and_true->Ma',eq_iff_iff->LZ',not_false->NH',not_true->Mc',or_eq_false_iff->NC',or_eq_true->LU',true_and->LQ'
open Int renaming reduceBEq->MD',toNat_natCast->Ln'
open List renaming all_append->Lv',all_cons->LE',all_eq_true->Le',all_nil->Mf',any_eq_false->MQ',any_eq_true->LL',eq_nil_of_length_eq_zero->LB',filterMap_cons->Me',flatMap_cons->Mk',getD->Ms',getElem?_eq_getElem->Lb',getElem?_eq_none->LR',getElem?_eq_some_iff->La',getElem?_of_mem->MZ',getElem?_take_of_lt->Lw',getElem?_zip_eq_some->Ob',getElem_mem->Lu',getElem_of_mem->LW',length_append->Lf',length_cons->Ld',length_filter_le->NA',length_map->LH',length_nil->Lh',length_range->MG',length_take->LC',map_cons->LJ',mem_append->Lo',mem_append_left->LN',mem_append_right->LT',mem_cons->Lq',mem_filter->MM',mem_flatMap->Ng',mem_map->Lx',mem_of_find?_eq_some->Oc',mem_of_getElem?->Lj',mem_singleton->Lp',nil_append->Mj',not_mem_nil->NJ',of_mem_zip->Oa',pairwise_iff_getElem->NZ',range->LY',replicate->Ll',replicate_succ->MR'
open Nat renaming add_zero->ME',beq->Lm',ble->Mq',blt->LF',eq_of_beq_eq_true->Li',le_of_ble_eq_true->LG',le_refl->Lg',le_trans->Lr',one_mul->NF',pow_le_pow_right->ND',zero_le->Mb'
open Option renaming bind_assoc->LX',bind_some->KY',getD_some->Mo',map_eq_some_iff->Mx',some->LI'
namespace Go.Pl
open Go Go.RowKit Go.Sx Go.Qx
section
variable {T:ay}{all:List ax}
def MK (T:ay)(l:List Int):Prop:=l.length<=1000/\∀ i∈l,fM T i=true/\(aC T i).af=13
theorem zZ (hT:GT T){i:Int}(h:fM T i=true)(hk:(aC T i).af=13) :
 ak T.aj i=some (aC T i)/\T.aj[i.toNat]?=some (aC T i)/\(aC T i).aS.length<=3/\(∀ f∈(aC T i).aS,fK f.bq=true)/\bf T.aj.length i=true:=by
 obtain ⟨j,rfl,hj,e,hg,_⟩:=Ap hT h;refine ⟨aR e,by simpa using e,hg.uq,λf hf=>?_,CR h⟩
 have hn:=Ad hg.ok;unfold jd sZ at hn;simp [hk] at hn;exact hn.1.2.1 f hf
theorem wE' (hT:GT T)(l:List Int)(hl:MK T l) :
 ∃ ks,Si (T.aj,T.dh,()) l=some ks/\ks.length<=3*l.length/\∀ y,y∈ks↔∃ i∈l,∃ f∈(aC T i).aS,f.bq=y:=by
 have hlen:=hl.1;have h1:=nK (σ:=List Key) (step:=I7 (T.aj,T.dh,()) l) l (λs i=>(s,(i:Int))) (λs k=>s++(aC T k).aS.map (·.bq)) (λi s=>s.length<=3*i) (λs=>s)
  (λi s k hk hI=>by
    have hi:i<l.length:=(La'.1 hk).1;obtain ⟨b1,b2⟩:=hl.2 k (Lj' hk);obtain ⟨m1,_,m3,_⟩:=zZ hT b1 b2;have h2:=nK (σ:=List Key) (step:=IQ (aC T k)) (aC T k).aS (λs i=>(s,(i:Int))) (λs f=>s++[f.bq]) (λi s'=>s'.length=s.length+i) (λs=>s)
     (λi' s' f hf' hI'=>by
       have hi':i'<(aC T k).aS.length:=(La'.1 hf').1;refine ⟨?_,by simp only [Lf',Ld',Lh']; omega⟩
       unfold IQ;simp only [aV];rw [dn hi',aR hf'];simp only [cond_true,KY'];rw [dX (by simp only [Ld',Lh']; omega),bF i' (by omega)]
       rfl) (λs' _=>by
       unfold IQ;simp) s (by simp) _ (Lg' _)
    rw [Ar,Me] at h2;refine ⟨?_,by simp only [Lf',LH']; omega⟩
    unfold I7;simp only [aV];rw [dn hi,aR hk];simp only [cond_true,KY',Ln',hk,m1,dw];have h2':iter (IQ (aC T k)) ((aC T k).aS.length+1) (s,0)=_:=h2;rw [h2',bF i (by omega)]
    rfl) (λs _=>by
    unfold I7;simp) [] (by simp) _ (Lg' _)
 rw [Ar,Mj'] at h1;have h1':iter (I7 (T.aj,T.dh,()) l) (l.length+1) ([],0)=some (l.flatMap λk=>(aC T k).aS.map (·.bq)):=h1
 have hb:∀ z:List Int,(∀ i∈z,(aC T i).aS.length<=3)->(z.flatMap λk=>(aC T k).aS.map (·.bq)).length<=3*z.length:=by
  intro z
  induction z with
  | nil=>intro _; simp
  | cons x z ih =>
    intro h;have:=ih λi hi=>h i (by simp [hi])
    have:=h x (by simp)
    simp only [Mk',Lf',LH',Ld'];omega
 have hl2:=hb l λi hi=>(zZ hT (hl.2 i hi).1 (hl.2 i hi).2).2.2.1;obtain ⟨m,e1,hp,hs⟩:=pW' (l.flatMap λk=>(aC T k).aS.map (·.bq)) (by omega)
 have hml:=hp.length_eq;have hsame:(fZ:Key->Key->Bool)=λx y=>decide (cK x y=0):=by funext x y;rw [LZ'];rw [WN];simp
 obtain ⟨q1,q2⟩:=cz' (c:=cK) ⟨Ej,VJ,λa b h=>V5 h⟩ m hs;have q3:∀ y,y∈mh fZ m↔∃ i∈l,∃ f∈(aC T i).aS,f.bq=y:=λy=>by rw [hsame,q2,hp.mem_iff,Ng'];simp only [Lx']
 refine ⟨mh fZ m,?_,?_,q3⟩
 ·unfold Si;rw [dw,h1'];simp only [KY'];rw [e1];simp only [KY'];rw [ot' m (by omega)]
  rfl
 ·have:(mh fZ m).length<=m.length:=by
   cases m with
   | nil=>exact Lg' _
   | cons x r =>have:=II (r:=fZ) r x;simp only [mh,Ld'];omega
  omega
def qF (T:ay)(k:Key)(i:Int):Int:=lG (aC T i) k
theorem dA' (hT:GT T)(l:List Int)(k:Key)(hl:MK T l)(hk:fK k=true):JW (T.aj,T.dh,()) l k=some (l.map (qF T k)):=by
 have hlen:=hl.1;have key:=nK (σ:=List Int) (step:=Jf (T.aj,T.dh,()) l k) l (λout i=>(out,(i:Int))) (λout x=>out++[qF T k x]) (λi out=>out.length=i) (λout=>out)
  (λi out x hx hI=>by
    have hi:i<l.length:=(La'.1 hx).1;obtain ⟨b1,b2⟩:=hl.2 x (Lj' hx);obtain ⟨m1,_,m3,_⟩:=zZ hT b1 b2;refine ⟨?_,by simp [hI]⟩
    unfold Jf;simp only;rw [dn hi,aR hx];simp only [cond_true,KY',Ln',hx,m1,aV];rw [oV' _ k (by omega) hk]
    simp only [KY'];rw [dX (by simp only [Ld',Lh']; omega),bF i (by omega)]
    rfl) (λout _=>by
    unfold Jf;simp) [] rfl (l.length+1) (Lg' _)
 unfold JW;rw [dw];have key':iter (Jf (T.aj,T.dh,()) l k) (l.length+1) ([],0)=_:=key;rw [key',Ar,Me];simp
def jm (T:ay)(kd:Nat)(i:Int):Int:=if kd=0 then (aC T i).Rest.1 else (aC T i).Rest.2
theorem xo' (hT:GT T)(l:List Int)(kd:Nat)(hl:MK T l)(hk:kd<2):QD (T.aj,T.dh,()) l (kd:Int)=some (l.map (jm T kd)):=by
 have hlen:=hl.1;have key:=nK (σ:=List Int) (step:=Mj (T.aj,T.dh,()) l (kd:Int)) l (λout i=>(out,(i:Int))) (λout x=>out++[jm T kd x]) (λi out=>out.length=i) (λout=>out)
  (λi out x hx hI=>by
    have hi:i<l.length:=(La'.1 hx).1;obtain ⟨b1,b2⟩:=hl.2 x (Lj' hx);obtain ⟨m1,_,m3,_⟩:=zZ hT b1 b2;refine ⟨?_,by simp [hI]⟩
    unfold Mj;simp only;rw [dn hi,aR hx];simp only [cond_true,KY',Ln',hx,m1,aV];rw [dX (by simp only [Ld',Lh']; omega),dX (by simp only [Ld',Lh']; omega),bF i (by omega)]
    have:kd=0\/kd=1:=by omega
    rcases this with rfl | rfl<;>rfl) (λout _=>by
    unfold Mj;simp) [] rfl (l.length+1) (Lg' _)
 unfold QD;rw [dw];have key':iter (Mj (T.aj,T.dh,()) l (kd:Int)) (l.length+1) ([],0)=_:=key;rw [key',Ar,Me];simp
def qC (x:aF)(k:Key):Bool:=match x.aS.find? (λf=>fZ f.bq k) with
 | some f=>!f.o6
 | none=>false
theorem jZ' (x:aF)(k:Key)(hf:x.aS.length<=4194304):Kk x k=some (qC x k):=by
 unfold Kk qC;rw [dw];rcases qJ (step:=QL x k) x.aS (λf=>fZ f.bq k) (λ_ f=>!f.o6) (λi f hx=>by
  have hi:i<x.aS.length:=(La'.1 hx).1;unfold QL;rw [dn hi,aR hx];simp only [cond_true,KY',Br,aV];rw [bF i (by omega)]
  cases fZ f.bq k<;>rfl) (by
  unfold QL;simp) with ⟨i,f,hx,hp,hn,e⟩ | ⟨h,e⟩
 ·rw [e,Ri hx hp hn];rfl
 ·rw [e,Sk h];rfl
abbrev k0:Key:=Key.mk 0 (⟨#[]⟩:ByteArray)
def Lp (T:ay)(pos here:List Int)(k:Key):Bool:=pos.any (λj=>qC (aC T j) k)||here.any λj=>!qC (aC T j) k
def Fh (T:ay)(all:List ax)(pos neg:List Int)(ks:List Key)(ds:List Int):Bool :=
 ((LY' ks.length).any λi=>Lp T pos (dV neg ds (i:Int)) (ks.getD i k0)&&jK all (pos.map (qF T (ks.getD i k0))) ((dV neg ds (i:Int)).map (qF T (ks.getD i k0))) false) ||
 (LY' 2).any λkd=>(dV neg ds ((ks.length:Int)+(kd:Int))).any λm=>jK all (pos.map (jm T kd)) [jm T kd m] false
theorem de' {neg ds:List Int}{v:Int}(h:MK T neg):MK T (dV neg ds v):=⟨Lr' (Qr neg ds v) h.1,λi hi=>h.2 i (Cw hi)⟩
theorem Pn {α β:Type}{step:Int->Option (Fl Int (Sum Unit β))}(xs:List α)(p:α->Bool)(b:β)
 (hst:∀ (i:Nat) (x:α),xs[i]?=some x->step (i:Int)=some (bif p x then .done (.inr b) else .next ((i+1:Nat):Int))) (hend:step (xs.length:Int)=some (.done (.inl ()))) :
 iter step ((xs.length:Int).toNat+1) 0=some (if xs.any p=true then .inr b else .inl ()):=by
 rw [dw];rcases qJ (step:=step) xs p (λ_ _=>b) (λi x hx=>by rw [hst i x hx];cases p x<;>rfl) hend with ⟨i,x,hx,hp,_,e⟩ | ⟨h,e⟩
 ·rw [e,vE hx hp];rfl
 ·rw [e,h];rfl
theorem mB' (hT:GT T)(hG:SG all){pos neg:List Int}(hp:MK T pos)(hq:MK T neg){ks:List Key}(hks:ks.length<=6000)(hko:∀ k∈ks,fK k=true)(n:Nat)(hn:tot (Ll' neg.length (ks.length+2))+1<=n) :
 ∃ b,((bif (wr .i64 ((ks.length:Int)+2))==0
  then (some (decide (0<(neg.length:Int))))
  else (some false)).bind λq =>
  bif q
  then (some ((true,()),()))
  else ((jY (neg.length:Int) (neg.length:Int) 8).bind λz =>
  (iter (Ya T all pos neg ks) n (Ll' z (0:Int))).bind λb =>
  some ((b.1,()),())))=some ((b,()),())/\(b=true->∀ ds,AZ neg.length (ks.length+2) ds->Fh T all pos neg ks ds=true):=by
 rw [PD neg hq.1];have ew:wr .i64 ((ks.length:Int)+2)=((ks.length+2:Nat):Int):=dZ (by omega) (by omega)
 have e1:Ya T all pos neg ks=pM (λds=>(iter (K3 T all pos neg ks ds) ((ks.length:Int).toNat+1) 0).bind λb =>
  aL (λ_=>(iter (GL T all pos neg ks ds) ((2:Int).toNat+1) 0).bind λb=>aL (λ_=>some ((false,()),())) (λy=>some ((y,()),())) b) (λy=>some ((y,()),())) b) (neg.length:Int) (wr .i64 (wr .i64 ((ks.length:Int)+2)-1)):=rfl
 have e2:wr .i64 (((ks.length+2:Nat):Int)-1)=((ks.length+2:Nat):Int)-1:=dZ (by omega) (by omega)
 rw [e1,ew,e2];refine Ou neg.length (ks.length+2) hq.1 (by omega) (Fh T all pos neg ks) (λds hds=>?_) (λh=>by omega) n hn
 have hpl:=hp.1;have NZ:=hq.1;have l1:=Pn (step:=K3 T all pos neg ks ds) (LY' ks.length) (λi=>Lp T pos (dV neg ds (i:Int)) (ks.getD i k0)&&jK all (pos.map (qF T (ks.getD i k0))) ((dV neg ds (i:Int)).map (qF T (ks.getD i k0))) false) true (λi x hx=>by
  obtain ⟨rfl,hi⟩:=HZ hx;have hk:=Lb' hi;have hkd:ks.getD x k0=ks[x]:=by rw [Ms',hk,Mo']
  rw [hkd];generalize ks[x]=k at hk;have hka:=hko k (Lj' hk);have ha:=de' (ds:=ds) (v:=(x:Int)) hq;have hal:=ha.1;unfold K3;rw [dn hi,aR hk];simp only [cond_true,KY',Ln',hk,aV];rw [Kw neg ds _ NZ hds.1,bF x (by omega)]
  simp only [KY'];have s1:=CU (step:=Pe T pos k) pos (λj=>qC (aC T j) k) (λi j hj=>by
   have hi:i<pos.length:=(La'.1 hj).1;obtain ⟨b1,b2⟩:=hp.2 j (Lj' hj);obtain ⟨m1,_,m3,_⟩:=zZ hT b1 b2;unfold Pe;rw [dn hi,aR hj];simp only [cond_true,KY',m1,aV];rw [jZ' _ k (by omega),bF i (by omega)]
   simp only [KY'];cases qC (aC T j) k<;>rfl) (by
   unfold Pe;simp)
  have s2:=CU (step:=SF T k (dV neg ds (x:Int))) (dV neg ds (x:Int)) (λj=>!qC (aC T j) k) (λi j hj=>by
   have hi:i<(dV neg ds (x:Int)).length:=(La'.1 hj).1;obtain ⟨b1,b2⟩:=ha.2 j (Lj' hj);obtain ⟨m1,_,m3,_⟩:=zZ hT b1 b2;unfold SF;rw [dn hi,aR hj];simp only [cond_true,KY',Ln',hj,m1,aV];rw [jZ' _ k (by omega),bF i (by omega)]
   simp only [KY'];cases qC (aC T j) k<;>rfl) (by
   unfold SF;simp)
  rw [dw] at s1 s2;rw [s1];simp only [KY'];have s2':=congrArg (λo:Option ((Bool×Unit)×Unit)=>Option.bind o λb=>some b.1.1) s2;simp only [KY'] at s2';rw [s2',dA' hT pos k hp hka,dA' hT _ k ha hka];simp only [KY'];have hc:=JB hG (pos.map (qF T k)) ((dV neg ds (x:Int)).map (qF T k)) false (by rw [LH']; omega) (by rw [LH']; omega)
  unfold Lp;cases hN:jf (ax.mk (pos.map (qF T k)) ((dV neg ds (x:Int)).map (qF T k)) false) with
  | none=>rw [hN] at hc; cases hc
  | some d =>rw [hN] at hc;simp only [KY'] at hc ⊢;rw [hc];simp only [KY'];cases pos.any (λj=>qC (aC T j) k)<;>cases (dV neg ds (x:Int)).any (λj=>!qC (aC T j) k)<;>cases jK all (pos.map (qF T k)) ((dV neg ds (x:Int)).map (qF T k)) false<;>rfl) (by
  rw [MG'];unfold K3;simp)
 rw [MG'] at l1;have l2:=Pn (step:=GL T all pos neg ks ds) (LY' 2) (λkd=>(dV neg ds ((ks.length:Int)+(kd:Int))).any λm=>jK all (pos.map (jm T kd)) [jm T kd m] false) true (λi x hx=>by
  obtain ⟨rfl,hi⟩:=HZ hx;have ha:=de' (ds:=ds) (v:=(ks.length:Int)+(x:Int)) hq;have hal:=ha.1;unfold GL;rw [decide_eq_true (show (x:Int)<2 by omega)]
  simp only [cond_true,aV];rw [dZ (show -9223372036854775808<=(ks.length:Int)+(x:Int) by omega) (by omega),Kw neg ds _ NZ hds.1,bF x (by omega)]
  simp only [KY'];have s1:=Pn (step:=Rv T all pos (x:Int) (dV neg ds ((ks.length:Int)+(x:Int)))) (dV neg ds ((ks.length:Int)+(x:Int))) (λm=>jK all (pos.map (jm T x)) [jm T x m] false) true (λi m hm=>by
   have hi':i<(dV neg ds ((ks.length:Int)+(x:Int))).length:=(La'.1 hm).1;obtain ⟨b1,b2⟩:=ha.2 m (Lj' hm);obtain ⟨m1,_,m3,_⟩:=zZ hT b1 b2;have hc:=JB hG (pos.map (jm T x)) [jm T x m] false (by rw [LH']; omega) (by simp)
   unfold Rv;rw [dn hi',aR hm];simp only [cond_true,KY',aV];rw [xo' hT pos x hp hi,bF i (by omega)]
   simp only [KY',m1];have hx2:x=0\/x=1:=by omega
   rcases hx2 with rfl | rfl
   ·have e:[(aC T m).Rest.1]=[jm T 0 m]:=rfl;rw [show (((0:Nat):Int)==0)=true from rfl,e]
    simp only [cond_true];cases hN:jf (ax.mk (pos.map (jm T 0)) [jm T 0 m] false) with
    | none=>rw [hN] at hc; cases hc
    | some d =>rw [hN] at hc;simp only [KY'] at hc ⊢;rw [hc];simp only [KY'];cases jK all (pos.map (jm T 0)) [jm T 0 m] false<;>rfl
   ·have e:[(aC T m).Rest.2]=[jm T 1 m]:=rfl;rw [show (((1:Nat):Int)==0)=false from rfl,show (((1:Nat):Int)==1)=true from rfl,e]
    simp only [cond_true,cond_false];cases hN:jf (ax.mk (pos.map (jm T 1)) [jm T 1 m] false) with
    | none=>rw [hN] at hc; cases hc
    | some d =>rw [hN] at hc;simp only [KY'] at hc ⊢;rw [hc];simp only [KY'];cases jK all (pos.map (jm T 1)) [jm T 1 m] false<;>rfl) (by
   unfold Rv;simp)
  rw [s1];cases (dV neg ds ((ks.length:Int)+(x:Int))).any λm=>jK all (pos.map (jm T x)) [jm T x m] false<;>rfl) (by
  rw [MG'];unfold GL;simp)
 rw [MG'] at l2;have NV:iter (GL T all pos neg ks ds) ((2:Int).toNat+1) 0=_:=l2;rw [l1,NV];unfold Fh;cases (LY' ks.length).any λi=>Lp T pos (dV neg ds (i:Int)) (ks.getD i k0)&&jK all (pos.map (qF T (ks.getD i k0))) ((dV neg ds (i:Int)).map (qF T (ks.getD i k0))) false with
 | true=>rfl
 | false =>cases (LY' 2).any λkd=>(dV neg ds ((ks.length:Int)+(kd:Int))).any λm=>jK all (pos.map (jm T kd)) [jm T kd m] false<;>rfl
end
section
variable {T:ay}{all:List ax}
def Lg (T:ay)(all:List ax)(pos:List Int)(f:Int)(A:Nat)(ds:List Int):Bool :=
 ((LY' A).any λi=>jK all [eH T i f] ((dV pos ds (i:Int)).map (eH T i)) false)||(!(dV pos ds (A:Int)).isEmpty&&jK all ((dV pos ds (A:Int)).map (eH T A)) [eH T A f] false)
theorem km' {f:Int}{k:Nat}(h:k<(aC T f).ai.length):(aC T f).ai[k]?=some (eH T k f):=by unfold eH;rw [Ms',Lb' h,Mo']
def Oa (T:ay)(all:List ax)(n:Nat)(e16:bN)(pos:List Int)(f:Int):Option (Bool×Unit) :=
 (bif (wr .i64 (e16.dB+1))==0
 then (some (decide (0<(pos.length:Int))))
 else (some false)).bind λNu =>
 bif Nu
 then (some ((true,())))
 else ((jY (pos.length:Int) (pos.length:Int) 8).bind λNv =>
 (iter (Ps T all e16 pos f) n (Ll' Nv (0:Int))).bind λNw =>
 some ((Nw.1,())))
theorem jO' (hG:SG all){pos:List Int}{f:Int}{A:Nat}(hA:A<=1000)(hp:NK T pos (A+1))(hf:ak T.aj f=some (aC T f)/\A+1<=(aC T f).ai.length)(K:Int)(n:Nat)(hn:tot (Ll' pos.length (A+1))+1<=n) :
 ∃ b,Oa T all n (bN.mk K (A:Int)) pos f=some (b,())/\(b=true->∀ ds,AZ pos.length (A+1) ds->Lg T all pos f A ds=true):=by
 have hpl:=hp.1;have ew:wr .i64 ((A:Int)+1)=((A+1:Nat):Int):=dZ (by omega) (by omega)
 have e1:Ps T all (bN.mk K (A:Int)) pos f=pM (λds=>((iter (FQ T all (bN.mk K (A:Int)) pos f ds) ((A:Int).toNat+1) 0).bind λb =>
  aL (λ_=>(ou pos ds (A:Int)).bind λBj =>
   bif (Bj.length:Int)==0
   then (some ((false,()),()))
   else ((kZ (T.aj,T.dh,()) Bj (A:Int)).bind λNp =>
   (ak T.aj f).bind λe275 =>
   (ak e275.ai (A:Int)).bind λNq =>
   (jf (ax.mk Np ([Nq]:List Int) false)).bind λNr =>
   (rE Nr all).bind λNs =>
   some ((Ns,()),()))) (λy=>some ((y,()),())) b).bind λb=>some ((b.1.1,()),())) (pos.length:Int) (wr .i64 (wr .i64 ((A:Int)+1)-1)):=rfl
 have e2:wr .i64 (((A+1:Nat):Int)-1)=((A+1:Nat):Int)-1:=dZ (by omega) (by omega)
 have key:=Ou pos.length (A+1) hp.1 (by omega) (FB:=λds=>((iter (FQ T all (bN.mk K (A:Int)) pos f ds) ((A:Int).toNat+1) 0).bind λb =>
  aL (λ_=>(ou pos ds (A:Int)).bind λBj =>
   bif (Bj.length:Int)==0
   then (some ((false,()),()))
   else ((kZ (T.aj,T.dh,()) Bj (A:Int)).bind λNp =>
   (ak T.aj f).bind λe275 =>
   (ak e275.ai (A:Int)).bind λNq =>
   (jf (ax.mk Np ([Nq]:List Int) false)).bind λNr =>
   (rE Nr all).bind λNs =>
   some ((Ns,()),()))) (λy=>some ((y,()),())) b).bind λb=>some ((b.1.1,()),())) (Lg T all pos f A) (λds hds=>?_) (λh=>by omega) n hn
 ·obtain ⟨b,h1,h2⟩:=key;refine ⟨b,?_,h2⟩;unfold Oa;simp only;rw [PD pos hp.1,e1,ew,e2];have h3:=congrArg (λo:Option ((Bool×Unit)×Unit)=>Option.bind o λb=>some b.1) h1;simp only [KY'] at h3;rw [<- h3];have hz:(((A+1:Nat):Int)==0)=false:=by rw [beq_eq_false_iff_ne]; omega
  rw [hz];simp only [cond_false,KY',LX']
 ·have hal:=Qr pos ds (A:Int);have l1:=Pn (step:=FQ T all (bN.mk K (A:Int)) pos f ds) (LY' A) (λi=>jK all [eH T i f] ((dV pos ds (i:Int)).map (eH T i)) false) true (λi x hx=>by
   obtain ⟨rfl,hi⟩:=HZ hx;have hl:=Qr pos ds (x:Int);have hc:=JB hG [eH T x f] ((dV pos ds (x:Int)).map (eH T x)) false (by simp) (by rw [LH']; omega)
   unfold FQ;simp only;rw [decide_eq_true (show (x:Int)<(A:Int) by omega),hf.1]
   simp only [cond_true,KY',aV];rw [aR (km' (f:=f) (k:=x) (by omega)),bF x (by omega),Kw pos ds _ hp.1 hds.1]
   simp only [KY'];rw [RS (dV pos ds (x:Int)) x (by omega) λy hy=>⟨(hp.2 y (Cw hy)).1,by have:=(hp.2 y (Cw hy)).2; omega⟩]
   simp only [KY'];cases hN:jf (ax.mk [eH T x f] ((dV pos ds (x:Int)).map (eH T x)) false) with
   | none=>rw [hN] at hc; cases hc
   | some d =>rw [hN] at hc;simp only [KY'] at hc ⊢;rw [hc];simp only [KY'];cases jK all [eH T x f] ((dV pos ds (x:Int)).map (eH T x)) false<;>rfl) (by
   rw [MG'];unfold FQ;simp)
  rw [MG'] at l1;rw [l1];unfold Lg;cases (LY' A).any λi=>jK all [eH T i f] ((dV pos ds (i:Int)).map (eH T i)) false with
  | true=>rfl
  | false =>
    simp only [if_neg (show ¬ (false=true) by simp),KY',aL,Bool.false_or]
    rw [Kw pos ds _ hp.1 hds.1];simp only [KY'];by_cases h0:dV pos ds (A:Int)=[]
    ·rw [h0];rfl
    ·have hz:(((dV pos ds (A:Int)).length:Int)==0)=false:=by
      rw [beq_eq_false_iff_ne];intro h;exact h0 (LB' (by omega))
     have hz2:(dV pos ds (A:Int)).isEmpty=false:=by
      cases h:dV pos ds (A:Int) with
      | nil=>exact absurd h h0
      | cons=>rfl
     have hc:=JB hG ((dV pos ds (A:Int)).map (eH T A)) [eH T A f] false (by rw [LH']; omega) (by simp)
     rw [hz,hz2];simp only [cond_false,NH',LQ'];rw [RS (dV pos ds (A:Int)) A (by omega) λy hy=>⟨(hp.2 y (Cw hy)).1,by have:=(hp.2 y (Cw hy)).2; omega⟩,hf.1]
     simp only [KY'];rw [aR (km' (f:=f) (k:=A) (by omega))]
     simp only [KY'];cases hN:jf (ax.mk ((dV pos ds (A:Int)).map (eH T A)) [eH T A f] false) with
     | none=>rw [hN] at hc; cases hc
     | some d =>rw [hN] at hc;simp only [KY'] at hc ⊢;rw [hc];rfl
def YD (T:ay)(all:List ax)(pos neg:List Int)(A:Nat):Prop:=∃ f∈neg,∀ ds,AZ pos.length (A+1) ds->Lg T all pos f A ds=true
theorem rJ' (hG:SG all){pos neg:List Int}{A:Nat}(hA:A<=1000)(hp:NK T pos (A+1))(hq:NK T neg (A+1))(K:Int)(n:Nat)(hn:tot (Ll' pos.length (A+1))+1<=n) :
 ∃ b,(((iter (Jd T all n (bN.mk K (A:Int)) pos neg) ((neg.length:Int).toNat+1) 0).bind λb=>aL (λ_=>some (((-1:Int),()),())) (λy=>some ((y,()),())) b).bind λb=>some ((decide (0<=b.1.1),()),()))=some ((b,()),()) /\
  (b=true->YD T all pos neg A):=by
 have h:=CU (step:=Jd T all n (bN.mk K (A:Int)) pos neg) neg (λf=>((Oa T all n (bN.mk K (A:Int)) pos f).getD (false,())).1) (λi f hf=>by
  have hi:i<neg.length:=(La'.1 hf).1;have NZ:=hq.1;obtain ⟨b,h1,_⟩:=jO' hG hA hp (hq.2 f (Lj' hf)) K n hn;rw [h1];unfold Jd;rw [dn hi,aR hf];simp only [cond_true,KY',aV];rw [bF i (by omega)]
  have h2:=congrArg (λo:Option (Bool×Unit)=>Option.bind o λb=>some ((b.1,()),())) h1;unfold Oa at h2;simp only [KY'] at h2;have h3:(((bif (d9 ((A:Int)+1))==0
   then (some (decide (0<(pos.length:Int))))
   else (some false)).bind λNu =>
   bif Nu
   then (some ((true,()),()))
   else ((jY (pos.length:Int) (pos.length:Int) 8).bind λNv =>
   (iter (Ps T all (bN.mk K (A:Int)) pos f) n (Ll' Nv (0:Int))).bind λNw =>
   some ((Nw.1,()),()))).bind λZA =>
   some ((ZA.1.1,()),()))=some ((b,()),()):=by
   rw [<- h2];show (@Option.bind _ _ (@Option.bind _ _ (bif (d9 ((A:Int)+1))==0 then _ else _) _) _)=@Option.bind _ _ (@Option.bind _ _ (bif (d9 ((A:Int)+1))==0 then _ else _) _) _
   cases d9 ((A:Int)+1)==0 with
   | true =>
     cases decide (0<(pos.length:Int)) with
     | true=>rfl
     | false=>simp only [cond_true,cond_false,KY',LX']
   | false=>simp only [cond_false,KY',LX']
  rw [h3];cases b<;>rfl) (by
  unfold Jd;simp)
 rw [h];refine ⟨_,rfl,λhb=>?_⟩;obtain ⟨f,f1,f2⟩:=LL'.1 hb;obtain ⟨b,h1,h2⟩:=jO' hG hA hp (hq.2 f f1) K n hn;rw [h1] at f2;exact ⟨f,f1,h2 f2⟩
end
theorem bZ' (b:Nat):∀ m:Nat,tot (Ll' m b)=b^m
 | 0=>rfl
 | m+1=>by rw [MR',tot,bZ' b m,Nat.pow_succ,Nat.mul_comm]
def Ai:Nat:=1000000000000000000000
theorem RY {m b:Nat}(hm:m<=10)(hb:b<=62){n:Nat}(hn:Ai<=n):tot (Ll' m b)+1<=n:=by
 rw [bZ'];have h1:b^m<=62^m:=Nat.pow_le_pow_left hb m;have h2:62^m<=62^10:=ND' (by omega) hm
 have h3:62^10+1<=Ai:=by decide
 omega
section
variable {T:ay}{all:List ax}
theorem uT {K A k:Int}{l:List Int}{i:Int}(h:i∈gW T K A k l):i∈l/\(aC T i).af=k/\o9 T K A i=true:=by unfold gW at h;obtain ⟨h1,h2⟩:=MM'.1 h;rw [Lc'] at h2;unfold dH at h2;exact ⟨h1,by simpa using h2.1,h2.2⟩
theorem xX (K A k:Int)(l:List Int)(h:l.length<=10):(gW T K A k l).length<=10:=Lr' (NA' _ _) h
theorem dQ' (hT:GT T){l:List Int}(hb:l.all (fM T)=true)(hl:l.length<=10)(A:Nat):NK T (gW T 6 (A:Int) 10 l) A:=by
 refine ⟨by have:=xX (T:=T) 6 (A:Int) 10 l hl; omega,λi hi=>?_⟩
 obtain ⟨h1,h2,h3⟩:=uT hi;refine ⟨(w9 hT (Le'.1 hb i h1)).1,?_⟩;unfold o9 uj at h3;simp [h2] at h3;omega
theorem ga' (hT:GT T){l:List Int}(hb:l.all (fM T)=true)(hl:l.length<=10)(A:Int):NK T (gW T 7 A 12 l) 2:=by
 refine ⟨by have:=xX (T:=T) 7 A 12 l hl; omega,λi hi=>?_⟩
 obtain ⟨h1,h2,_⟩:=uT hi;refine ⟨(w9 hT (Le'.1 hb i h1)).1,?_⟩;obtain ⟨j,_,_,_,hg,_⟩:=Ap hT (Le'.1 hb i h1);have hn:=Ad hg.ok;unfold jd at hn;simp [h2] at hn;omega
theorem hY' (hT:GT T){l:List Int}(hb:l.all (fM T)=true)(hl:l.length<=10)(A:Nat):NK T (gW T 9 (A:Int) 14 l) (A+1):=by
 refine ⟨by have:=xX (T:=T) 9 (A:Int) 14 l hl; omega,λi hi=>?_⟩
 obtain ⟨h1,h2,h3⟩:=uT hi;refine ⟨(w9 hT (Le'.1 hb i h1)).1,?_⟩;unfold o9 uj at h3;simp [h2] at h3;omega
theorem cI' (hT:GT T){l:List Int}(hb:l.all (fM T)=true)(hl:l.length<=10)(A:Int):MK T (gW T 8 A 13 l):=by
 refine ⟨by have:=xX (T:=T) 8 A 13 l hl; omega,λi hi=>?_⟩
 obtain ⟨h1,h2,_⟩:=uT hi;exact ⟨Le'.1 hb i h1,h2⟩
def KC (T:ay)(all:List ax)(e:ax)(K A:Int):Prop :=
 bL' T e K A\/(K=6/\∀ ds,AZ (gW T 6 A 10 e.Neg).length A.toNat ds->Am T all (gW T 6 A 10 e.Pos) (gW T 6 A 10 e.Neg) A.toNat false ds=true) \/
 (K=7/\∀ ds,AZ (gW T 7 A 12 e.Neg).length 2 ds->Am T all (gW T 7 A 12 e.Pos) (gW T 7 A 12 e.Neg) 2 true ds=true) \/
 (K=8/\∃ ks,(∀ y,y∈ks↔∃ i∈gW T 8 A 13 e.Pos++gW T 8 A 13 e.Neg,∃ f∈(aC T i).aS,f.bq=y)/\∀ ds,AZ (gW T 8 A 13 e.Neg).length (ks.length+2) ds->Fh T all (gW T 8 A 13 e.Pos) (gW T 8 A 13 e.Neg) ks ds=true) \/
 (K=9/\YD T all (gW T 9 A 14 e.Pos) (gW T 9 A 14 e.Neg) A.toNat)
theorem aL' (hT:GT T)(hG:SG all){L:Bool}{e:ax}(he:NG T L e){n:Nat}(hn:Ai<=n){x:Nat}{s:bN}(hx:kM[x]?=some s) :
 ∃ kc:Bool,BI T all n e kM (x:Int)=some (if (rZ T e s.af s.dB&&!kc)=true then .done (.inr (x:Int)) else .next ((x+1:Nat):Int))/\(kc=true->KC T all e s.af s.dB):=by
 obtain ⟨l1,l2⟩:=he.lens hT;have hp:=he.pos;have hq:=he.neg;have hlt:x<kM.length:=(La'.1 hx).1;have hlen:kM.length=17:=rfl;have hm:=Lj' hx;obtain ⟨hK,ZU⟩:=Cx' hm;have hA:0<=s.dB/\s.dB<=4:=by unfold kM at hm;simp only [Lq',NJ',or_false] at hm;rcases hm with rfl | rfl | rfl | rfl | rfl | rfl | rfl | rfl | rfl | rfl | rfl | rfl | rfl | rfl | rfl | rfl | rfl<;>decide
 obtain ⟨K,A⟩:=s;simp only at hK hA;obtain ⟨a,rfl⟩:∃ a:Nat,A=(a:Int):=⟨A.toNat,by omega⟩
 have j1:gl' T e=yE T e 5:=rfl;have j2:dD' T e=xk T e 4:=rfl;have j3:ia' T e=FV T e 4:=rfl;have j4:fN' T e=yE T e 7:=rfl;have j5:dZ' T e=xk T e 6:=rfl;have j6:dc' T e=FV T e 6:=rfl;have j7:jC' T e=yE T e 8:=rfl;have j8:ie' T e=yE T e 9:=rfl;have j9:iY' T e=yE T e 11:=rfl;have j23:cY' T e=yE T e 15:=rfl;have gJ:∀ b:Bool,(((some ((b,()),()):Option ((Bool×Unit)×Unit)).bind λNy=>some (!Ny.1.1)).bind λNz=>(some ((Nz,()),()):Option ((Bool×Unit)×Unit)))=some ((!b,()),()):=λ_=>rfl;unfold BI;rw [dn hlt,aR hx];simp only [cond_true,KY'];rw [Ln' x,hx];simp only [KY'];rw [oF' hT hp (by omega) K (a:Int),show wr .i64 ((x:Int)+1)=((x+1:Nat):Int) from bF x (by omega)]
 simp only [KY'];cases hop:rZ T e K (a:Int) with
 | false=>exact ⟨false,rfl,λh=>by cases h⟩
 | true =>
   simp only [cond_true,LQ'];have done:∀ {o:Option ((Bool×Unit)×Unit)} {b:Bool},o=some ((b,()),())->(((Option.bind o λNy=>some (!Ny.1.1)).bind λNz=>(some ((Nz,()),()):Option ((Bool×Unit)×Unit))).bind λZF =>
    bif ZF.1.1 then (some (.done (.inr (x:Int))):Option (Fl Int (Sum Unit Int))) else some (.next ((x+1:Nat):Int)))=some (if (!b)=true then .done (.inr (x:Int)) else .next ((x+1:Nat):Int)):=λ{o b} h=>by
    rw [h];cases b<;>rfl
   rcases hK with rfl | rfl | rfl | rfl | rfl | rfl | rfl | rfl | rfl
   ·obtain ⟨m,m1,m2,m3⟩:=CN' hT hp hq l1 l2;refine ⟨(m.length:Int)==0,done ?_,λh=>.inl (.inr (.inr (.inl ⟨rfl,λi hi=>?_⟩)))⟩
    ·simp only [MD',cond_true];rw [wJ',m1];rfl
    ·have hm0:m=[]:=LB' (by simpa using h)
     have:=(m3 i hi.1 hi.2).1;unfold JF;rw [<- this,hm0];rfl
   ·obtain ⟨b,b1,b2⟩:=an' hT hp hq (by omega) (by omega) 4
    refine ⟨e.Neg.any (dH T 5)||b,done ?_,λh=>?_⟩
    ·simp only [MD',cond_true,cond_false];rw [j1,j2,j3,Gv hT hq (by omega) 5]
     unfold OI at b1;rw [b1];cases e.Neg.any (dH T 5)<;>rfl
    ·rcases LU' ..▸h with h | h
     ·exact .inl (.inr (.inl h))
     ·exact .inl (.inr (.inr (.inr ⟨.inl rfl,b2 h⟩)))
   ·obtain ⟨b,b1,b2⟩:=an' hT hp hq (by omega) (by omega) 6
    refine ⟨e.Neg.any (dH T 7)||b,done ?_,λh=>?_⟩
    ·simp only [MD',cond_true,cond_false];rw [j4,j5,j6,Gv hT hq (by omega) 7]
     unfold OI at b1;rw [b1];cases e.Neg.any (dH T 7)<;>rfl
    ·rcases LU' ..▸h with h | h
     ·exact .inl (.inr (.inl h))
     ·exact .inl (.inr (.inr (.inr ⟨.inr rfl,b2 h⟩)))
   ·refine ⟨e.Neg.any (dH T 8),done ?_,λh=>.inl (.inr (.inl h))⟩;simp only [MD',cond_true,cond_false];rw [j7,Gv hT hq (by omega) 8]
    rfl
   ·refine ⟨e.Neg.any (dH T 9),done ?_,λh=>.inl (.inr (.inl h))⟩;simp only [MD',cond_true,cond_false];rw [j8,Gv hT hq (by omega) 9]
    rfl
   ·have n1:=dQ' hT hp l1 a;have n2:=dQ' hT hq l2 a;obtain ⟨b,b1,b2⟩:=uQ' hG (by omega) n1 n2 6 n (RY (xX 6 (a:Int) 10 e.Neg l2) (by omega) hn)
    refine ⟨e.Neg.any (dH T 11)||b,done ?_,λh=>?_⟩
    ·simp only [MD',cond_true,cond_false];rw [j9,Gv hT hq (by omega) 11,zG hT hp (by omega),zG hT hq (by omega)]
     simp only [KY'];simp only at b1;rw [b1];cases e.Neg.any (dH T 11)<;>rfl
    ·rcases LU' ..▸h with h | h
     ·exact .inl (.inr (.inl h))
     ·exact .inr (.inl ⟨rfl,by simpa using b2 h⟩)
   ·have n1:=ga' hT hp l1 (a:Int);have n2:=ga' hT hq l2 (a:Int);obtain ⟨b,b1,b2⟩:=sr' hG n1 n2 n (RY (xX 7 (a:Int) 12 e.Neg l2) (by omega) hn)
    refine ⟨b,done ?_,λh=>.inr (.inr (.inl ⟨rfl,b2 h⟩))⟩;simp only [MD',cond_true,cond_false];rw [zG hT hp (by omega),zG hT hq (by omega)]
    simp only [KY',cond_false];simp only [MD',cond_false,KY'] at b1;rw [b1];rfl
   ·have n1:=cI' hT hp l1 (a:Int);have n2:=cI' hT hq l2 (a:Int);have s1:=xX (T:=T) 8 (a:Int) 13 e.Pos l1;have s2:=xX (T:=T) 8 (a:Int) 13 e.Neg l2;have n3:MK T (gW T 8 (a:Int) 13 e.Pos++gW T 8 (a:Int) 13 e.Neg):=⟨by rw [Lf']; omega,λi hi=>(Lo'.1 hi).elim (n1.2 i) (n2.2 i)⟩
    obtain ⟨ks,k1,k2,k3⟩:=wE' hT _ n3;rw [Lf'] at k2;have hko:∀ k∈ks,fK k=true:=λk hk=>by obtain ⟨i,hi,f,hf,rfl⟩:=(k3 k).1 hk;exact (zZ hT (n3.2 i hi).1 (n3.2 i hi).2).2.2.2.1 f hf
    obtain ⟨b,b1,b2⟩:=mB' hT hG n1 n2 (ks:=ks) (by omega) hko n (RY s2 (by omega) hn)
    refine ⟨b,done ?_,λh=>.inr (.inr (.inr (.inl ⟨rfl,ks,k3,b2 h⟩)))⟩;simp only [MD',cond_true,cond_false];rw [zG hT hp (by omega),zG hT hq (by omega)]
    simp only [KY'];rw [show iY 8 (gW T 8 (a:Int) 13 e.Pos)=some (gW T 8 (a:Int) 13 e.Pos) from yF (by omega) (by omega),KY',dX (by omega),KY',k1,KY',b1]
    rfl
   ·have n1:=hY' hT hp l1 a;have n2:=hY' hT hq l2 a;obtain ⟨b,b1,b2⟩:=rJ' hG (by omega) n1 n2 9 n (RY (xX 9 (a:Int) 14 e.Pos l1) (by omega) hn)
    refine ⟨e.Neg.any (dH T 15)||b,done ?_,λh=>?_⟩
    ·simp only [MD',cond_false];rw [j23,Gv hT hq (by omega) 15,zG hT hp (by omega),zG hT hq (by omega)]
     simp only [KY'];rw [b1];cases e.Neg.any (dH T 15)<;>rfl
    ·rcases LU' ..▸h with h | h
     ·exact .inl (.inr (.inl h))
     ·exact .inr (.inr (.inr (.inr ⟨rfl,by simpa using b2 h⟩)))
end
def XB:Option (Fl Int (Sum Unit Int))->Bool
 | some (.done _)=>true
 | _=>false
section
variable {T:ay}{all:List ax}
def CL (T:ay)(all:List ax)(e:ax):Prop:=I9 T e=false\/∀ s∈kM,rZ T e s.af s.dB=true->KC T all e s.af s.dB
theorem td' (hT:GT T)(hG:SG all){L:Bool}{e:ax}(he:NG T L e){n:Nat}(hn:Ai<=n) :
 ∃ b:Bool,(((iter (BI T all n e kM) ((kM.length:Int).toNat+1) 0).bind λb=>aL (λ_=>some (((-1:Int),()),())) (λy=>some ((y,()),())) b).bind λb=>some ((decide (0<=b.1.1),()),()))=some ((b,()),()) /\
  (b=false->∀ s∈kM,rZ T e s.af s.dB=true->KC T all e s.af s.dB):=by
 have hl:(LY' kM.length).length=kM.length:=MG';have h:=CU (step:=BI T all n e kM) (LY' kM.length) (λi=>XB (BI T all n e kM (i:Int))) (λi x hx=>by
  obtain ⟨rfl,hi⟩:=HZ hx;obtain ⟨kc,h1,_⟩:=aL' hT hG he hn (Lb' hi);rw [h1];split
  ·rfl
  ·rfl) (by
  rw [hl];unfold BI;simp)
 rw [hl] at h;refine ⟨_,h,λhb s hs ho=>?_⟩;obtain ⟨i,hi,rfl⟩:=LW' hs;have hx:=Lb' hi;obtain ⟨kc,h1,h2⟩:=aL' hT hG he hn hx;cases kc with
 | true=>exact h2 rfl
 | false =>
   rw [MQ'] at hb;have:=hb i (by simpa using hi)
   rw [h1,ho] at this;exact absurd rfl this
theorem gp' (hT:GT T)(hG:SG all){L:Bool}{out:List ax}(hout:out.length<=1048576){e:ax}(he:NG T L e){n:Nat}(hn:Ai<=n){x:Nat}(hx:out[x]?=some e) :
 ∃ cl:Bool,Bu T all n out (x:Int)=some (if (!cl)=true then .done (.inr (x:Int)) else .next ((x+1:Nat):Int))/\(cl=true->CL T all e):=by
 obtain ⟨l1,l2⟩:=he.lens hT;have hlt:x<out.length:=(La'.1 hx).1;have v1:=iK' (T:=T) e.Pos;have v2:=iK' (T:=T) e.Neg;obtain ⟨b,b1,b2⟩:=td' hT hG he hn;unfold Bu;rw [dn hlt,aR hx];simp only [cond_true,KY'];rw [Ln' x,hx];simp only [KY'];rw [rg' e.Pos e.Neg (by omega) (by omega),ay' e.Pos (by omega) (λi hi=>CR (Le'.1 he.pos i hi)),ay' e.Neg (by omega) (λi hi=>CR (Le'.1 he.neg i hi)),yg',
  show wr .i64 ((x:Int)+1)=((x+1:Nat):Int) from bF x (by omega)]
 simp only [KY'];rw [Du' _ _ (by omega) (by omega),b1]
 cases h1:Gu e.Pos e.Neg with
 | true=>exact ⟨true,rfl,λ_=>.inl (by unfold I9; rw [h1]; rfl)⟩
 | false =>
   cases h2:Ez (oI (mO T e.Pos)) (oI (mO T e.Neg)) with
   | true=>exact ⟨true,rfl,λ_=>.inl (by unfold I9; rw [h1,h2]; rfl)⟩
   | false =>
     refine ⟨!b,?_,λh=>.inr (b2 (by simpa using h))⟩
     cases b<;>rfl
def JZ (T:ay)(all:List ax)(g:ax):Prop:=∃ out,lX' T g out/\∀ e∈out,CL T all e
theorem iH' (hT:GT T)(hr:bf T.aj.length T.dh=true)(hG:SG all)(n:Nat)(hn:1100001<=n):Lv n T all=some (all.all (mr T.aj.length)):=by
 unfold Lv;rw [wf0 hT hr n hn];simp only [KY',beq_self_eq_true,cond_true];rw [Vi all _ (λg=>!mr T.aj.length g) (by have:=hG.len; omega) (λg hg=>by
  unfold Xz;rw [Ux g (by have:=(hG.sh g hg).1; omega) (by have:=(hG.sh g hg).2; omega)]
  rfl)]
 simp only [KY',Qp]
theorem zm' (hT:GT T)(hN:T.aj.length<=8)(hr:bf T.aj.length T.dh=true)(hG:SG all)(hin:all.all (mr T.aj.length)=true)(g:ax)(hg:mr T.aj.length g=true)(hl:g.Pos.length+g.Neg.length<=10) :
 ∃ c,∀ n,c<=n->∃ b,Fa n T all g=some b/\(b=true->JZ T all g):=by
 obtain ⟨c,out,h1,hE⟩:=zi' hT hN g hg hl;refine ⟨max c Ai,λn hn=>?_⟩;have hnB:Ai<=n:=by omega
 have hn2:1100001<=n:=by
  have:1100001<=Ai:=by decide
  omega
 have hlo:=hE.len;have hlen:(LY' out.length).length=out.length:=MG';have h:=CU (step:=Bu T all n out) (LY' out.length) (λi=>XB (Bu T all n out (i:Int))) (λi x hx=>by
  obtain ⟨rfl,hi⟩:=HZ hx;have hm:=Lu' hi;obtain ⟨cl,h1,_⟩:=gp' hT hG hlo (hE.ng _ hm) hnB (Lb' hi);rw [h1];split
  ·rfl
  ·rfl) (by
  rw [hlen];unfold Bu;simp)
 rw [hlen] at h;unfold Fa;rw [iH' hT hr hG n hn2,hin];simp only [KY',Mc',cond_false];rw [Ux g (by omega) (by omega),hg,h1 n (by omega)]
 simp only [KY',Mc',cond_false];rw [h];refine ⟨_,rfl,λhb=>⟨out,hE,λe he=>?_⟩⟩;obtain ⟨i,hi,rfl⟩:=LW' he;obtain ⟨cl,h2,h3⟩:=gp' hT hG hlo (hE.ng _ he) hnB (Lb' hi);cases cl with
 | true=>exact h3 rfl
 | false =>
   have hb':((LY' out.length).any λi=>XB (Bu T all n out (i:Int)))=false:=by simpa using hb
   rw [MQ'] at hb';have:=hb' i (by simpa using hi)
   rw [h2] at this;exact absurd rfl this
theorem qo' (hT:GT T)(hN:T.aj.length<=8)(hr:bf T.aj.length T.dh=true)(hG:SG all)(hin:all.all (mr T.aj.length)=true)(hl:∀ g∈all,g.Pos.length+g.Neg.length<=10)(x:ax)(hx:x∈all) :
 ∃ c,∀ n,c<=n->∃ b,F7 n T x (qO.mk all)=some b/\(b=true->∀ g∈all,JZ T all g):=by
 have key:∀ l:List ax,(∀ g∈l,g∈all)->∃ c,∀ n,c<=n->∀ g∈l,∃ b,Fa n T all g=some b/\(b=true->JZ T all g):=by
  intro l
  induction l with
  | nil=>intro _; exact ⟨0,λn _ g hg=>by cases hg⟩
  | cons g l ih =>
    intro h;obtain ⟨c1,h1⟩:=ih λy hy=>h y (by simp [hy])
    have hg:=h g (by simp)
    obtain ⟨c2,h2⟩:=zm' hT hN hr hG hin g (Le'.1 hin g hg) (hl g hg);refine ⟨max c1 c2,λn hn y hy=>?_⟩;rcases Lq'.1 hy with rfl | hy
    ·exact h2 n (by omega)
    ·exact h1 n (by omega) y hy
 obtain ⟨c,hc⟩:=key all λg hg=>hg;refine ⟨max c 1100001,λn hn=>?_⟩;have hJ:=hc n (by omega)
 have hxi:=Le'.1 hin x hx;have hxl:=hl x hx;unfold F7;simp only;rw [iH' hT hr hG n (by omega),hin,Ux x (by omega) (by omega),hxi,iU' all x (by have:=hG.len; omega) (λc hc=>⟨by have:=(hG.sh c hc).1; omega,by have:=(hG.sh c hc).2; omega⟩) ⟨by omega,by omega⟩]
 simp only [KY',Mc',cond_false];cases Im:Pw all x with
 | false=>exact ⟨false,rfl,λh=>by cases h⟩
 | true =>
   simp only [Mc',cond_false];rw [Vi all _ (λg=>!((Fa n T all g).getD false)) (by have:=hG.len; omega) (λg hg=>by obtain ⟨b,b1,_⟩:=hJ g hg;unfold Uc;simp only;rw [b1];rfl)]
   simp only [KY',Qp];refine ⟨_,rfl,λhb g hg=>?_⟩;obtain ⟨b,b1,b2⟩:=hJ g hg;have:=Le'.1 hb g hg;rw [b1] at this;exact b2 this
end
theorem Jp {l:List Int}{f:Int->Int}{v i:Int}(h:i∈dV l (l.map f) v):i∈l/\f i=v:=by
 have hz:∀ l:List Int,l.zip (l.map f)=l.map λi=>(i,f i):=by
  intro l
  induction l with
  | nil=>rfl
  | cons x l ih=>simp [ih]
 unfold dV at h;rw [hz] at h;obtain ⟨p,hp,rfl⟩:=Lx'.1 h;obtain ⟨h1,h2⟩:=MM'.1 hp;obtain ⟨i,hi,rfl⟩:=Lx'.1 h1;exact ⟨hi,by simpa using h2⟩
theorem X3 (l:List Int)(f:Int->Int)(base:Nat)(h:∀ i∈l,0<=f i/\f i<(base:Int)):AZ l.length base (l.map f) :=
 ⟨by simp,λd hd=>by obtain ⟨i,hi,rfl⟩:=Lx'.1 hd;exact h i hi⟩
theorem Pm {μ:Val->Int->Bool}{l:List Val}{ks:List Int}:pO μ l ks=true↔l.length=ks.length/\∀ k w,l[k]?=some w->μ w (ks.getD k 0)=true:=by
 unfold pO;rw [Lc',Le'];constructor
 ·rintro ⟨h1,h2⟩;have hl:l.length=ks.length:=by simp at h1; omega
  refine ⟨hl,λk w hw=>?_⟩;have hk:k<l.length:=(La'.1 hw).1;have hx:=Lb' (show k<ks.length by omega)
  rw [Ms',hx,Mo'];exact h2 (w,ks[k]) (Lj' (i:=k) (by rw [Ob']; exact ⟨hw,hx⟩))
 ·rintro ⟨h1,h2⟩;refine ⟨by simp [h1],λp hp=>?_⟩
  obtain ⟨k,hk⟩:=MZ' hp;obtain ⟨e1,e2⟩:=EQ hk;have:=h2 k p.1 e1;rw [Ms',e2,Mo'] at this;exact this
inductive DI:Val->Prop where
 | mk (v:Val) (h:ol v) (hp:∀ w∈xh v,DI w):DI v
theorem DI.iok {v:Val}(h:DI v):ol v:=by cases h; assumption
theorem DI.part {v w:Val}(h:DI v)(hw:w∈xh v):DI w:=by
 cases h with
 | mk _ _ hp=>exact hp w hw
theorem uq' {v w:Val}(ho:bP v=true)(hw:w∈xh v):bP w=true:=by rw [uu',Lc'] at ho;exact Le'.1 ho.2 w hw
theorem pD' {v w:Val}(hw:w∈xh v):bD w<bD v:=by have:=vC hw;have:=ve' v;omega
section
variable {T:ay}{all:List ax}{v:Val}
def RX (T:ay)(all:List ax)(v:Val):Prop :=
 ∃ w∈xh v,∃ p q L,jK all p q L=true/\wG w L=true/\(∀ i∈p,bE T w i=true)/\∀ i∈q,bE T w i=false
theorem Gh (w:Val):wG w false=true:=rfl
theorem fD' (pos neg:List Int)(w:Nat)(L:Bool)(hw:v.ai.length=w)
 (hp:∀ i∈pos,∀ k x,v.ai[k]?=some x->bE T x (eH T k i)=true) (hq:∀ i∈neg,∃ k x,v.ai[k]?=some x/\bE T x (eH T k i)=false)
 (hl:L=true->∀ x,v.ai[1]?=some x->wG x true=true) (hc:∀ ds,AZ neg.length w ds->Am T all pos neg w L ds=true):RX T all v:=by
 have hq':∀ i:Int,∃ k:Nat,i∈neg->∃ x,v.ai[k]?=some x/\bE T x (eH T k i)=false:=λi=>by
  by_cases hi:i∈neg
  ·obtain ⟨k,x,h⟩:=hq i hi;exact ⟨k,λ_=>⟨x,h⟩⟩
  ·exact ⟨0,λh=>absurd h hi⟩
 obtain ⟨pick,hpick⟩:=Classical.axiomOfChoice hq';have hd:=hc (neg.map λi=>(pick i:Int)) (X3 neg _ w λi hi=>by obtain ⟨x,h1,_⟩:=hpick i hi;have:=(La'.1 h1).1;omega)
 unfold Am at hd;obtain ⟨k,hk,hcv⟩:=LL'.1 hd;have hkw:k<w:=by simpa using hk
 have hx:=Lb' (show k<v.ai.length by omega)
 refine ⟨v.ai[k],LN' _ (Lu' _),_,_,_,hcv,?_,λj hj=>?_,λj hj=>?_⟩
 ·cases hL:L with
  | false=>rw [Bool.false_and]; exact Gh _
  | true =>
    by_cases h1:k=1
    ·subst h1;exact hl hL _ hx
    ·have:(k==1)=false:=by simp [h1]
     rw [this,Bool.and_false];exact Gh _
 ·obtain ⟨i,hi,rfl⟩:=Lx'.1 hj;exact hp i hi k _ hx
 ·obtain ⟨i,hi,rfl⟩:=Lx'.1 hj;obtain ⟨h1,h2⟩:=Jp hi;have h2:pick i=k:=by omega
  obtain ⟨x,h3,h4⟩:=hpick i h1;rw [h2,hx] at h3;cases h3;rw [h2] at h4;exact h4
theorem Hg {a b:Key}:fZ a b=true↔a=b:=by rw [WN];exact ⟨λh=>V5 h,λh=>by subst h; exact SE a⟩
theorem Ai' {ks:List Key}{vs:List Val}(h:bC cK ks=true){k:Key}{x y:Val}(hx:(k,x)∈ks.zip vs)(hy:(k,y)∈ks.zip vs):x=y:=by
 obtain ⟨i,hi⟩:=MZ' hx;obtain ⟨j,hj⟩:=MZ' hy;obtain ⟨a1,a2⟩:=EQ hi;obtain ⟨b1,b2⟩:=EQ hj;have hp:=(zA ks).1 h;have hij:i=j:=by
  have li:=(La'.1 a1).1;have lj:=(La'.1 b1).1;rw [NZ'] at hp;have ei:ks[i]=k:=by rw [Lb' li] at a1; exact LI'.inj a1
  have ej:ks[j]=k:=by rw [Lb' lj] at b1; exact LI'.inj b1
  have hs:=SE k;rcases Nat.lt_trichotomy i j with h | h | h
  ·have:=hp i j li lj h;rw [ei,ej] at this;unfold Ey at this;omega
  ·exact h
  ·have:=hp j i lj li h;rw [ei,ej] at this;unfold Ey at this;omega
 subst hij;rw [a2] at b2;exact LI'.inj b2
theorem wL' {fs:List dm}(h:bC cK (fs.map (·.bq))=true){f g:dm}(hf:f∈fs)(hg:g∈fs)(e:f.bq=g.bq):f=g:=by
 obtain ⟨i,hi⟩:=MZ' hf;obtain ⟨j,hj⟩:=MZ' hg;have li:=(La'.1 hi).1;have lj:=(La'.1 hj).1;have hp:=(zA _).1 h;rw [List.pairwise_map,NZ'] at hp;have ei:fs[i]=f:=by rw [Lb' li] at hi; exact LI'.inj hi
 have ej:fs[j]=g:=by rw [Lb' lj] at hj; exact LI'.inj hj
 have hs:=SE g.bq;rcases Nat.lt_trichotomy i j with h | h | h
 ·have:=hp i j li lj h;rw [ei,ej,e] at this;unfold Ey at this;omega
 ·subst h;rw [<- ei,<- ej]
 ·have:=hp j i lj li h;rw [ei,ej,e] at this;unfold Ey at this;omega
theorem yf' {x:aF}{k:Key}(h:∀ f∈x.aS,f.bq≠k):lG x k=yH x k:=by unfold lG;rw [Sk];rw [MQ'];intro f hf hk;exact h f hf (Hg.1 hk)
theorem ze' {x:aF}{k:Key}(ha:bC cK (x.aS.map (·.bq))=true){f:dm}(hf:f∈x.aS)(hk:f.bq=k):qC x k=!f.o6:=by
 unfold qC;cases h:x.aS.find? (λf=>fZ f.bq k) with
 | none =>rw [List.find?_eq_none] at h;exact absurd (Hg.2 hk) (h f hf)
 | some g =>
   have h1:=Oc' h;have h2:=Hg.1 (List.find?_some (p:=λf:dm=>fZ f.bq k) h);have:g=f:=wL' ha h1 hf (by rw [h2,hk])
   rw [this]
theorem tk' {x:aF}{k:Key}(h:qC x k=true):∃ f∈x.aS,f.bq=k/\f.o6=false:=by
 unfold qC at h;split at h
 ·rename_i f e;exact ⟨f,Oc' e,Hg.1 (List.find?_some (p:=λf:dm=>fZ f.bq k) e),by simpa using h⟩
 ·cases h
theorem mP' (pos neg:List Int)(ks:List Key)(hkl:v.aU.length=v.ai.length)(hka:bC cK v.aU=true)(hko:∀ k∈v.aU,fK k=true)
 (hks:∀ i∈pos++neg,∀ f∈(aC T i).aS,f.bq∈ks) (hfa:∀ i∈pos++neg,bC cK ((aC T i).aS.map (·.bq))=true)
 (hp:∀ i∈pos,wE (bE T) v (aC T i)=true) (hq:∀ i∈neg,wE (bE T) v (aC T i)=false)
 (hc:∀ ds,AZ neg.length (ks.length+2) ds->Fh T all pos neg ks ds=true):RX T all v:=by
 have mi':∀ k∈ks,∃ d,d<ks.length/\ks.getD d k0=k:=λk hk=>by obtain ⟨d,hd⟩:=MZ' hk;exact ⟨d,(La'.1 hd).1,by rw [Ms',hd,Mo']⟩
 let kd:Key->Nat:=λk=>if k.af=0 then 0 else 1
 let R:Int->Nat->Prop:=λm d=>(d<ks.length/\∃ f∈(aC T m).aS,f.o6=false/\f.bq=ks.getD d k0/\∀ y∈v.aU,y≠f.bq) \/
  (d<ks.length/\∃ x,(ks.getD d k0,x)∈v.aU.zip v.ai/\bE T x (lG (aC T m) (ks.getD d k0))=false) \/
  ∃ p∈v.aU.zip v.ai,bE T p.2 (lG (aC T m) p.1)=false/\p.1 ∉ ks/\d=ks.length+kd p.1
 have hR:∀ m:Int,∃ d:Nat,m∈neg->R m d/\d<ks.length+2:=λm=>by
  by_cases hm:m∈neg
  ·have hf:=hq m hm;unfold wE at hf;rw [Bool.and_eq_false_iff] at hf;rcases hf with hf | hf
   ·rw [List.all_eq_false] at hf;obtain ⟨f,f1,f2⟩:=hf;simp only [LU',not_or,Bool.not_eq_true,MQ'] at f2;obtain ⟨d,d1,d2⟩:=mi' f.bq (hks m (LT' _ hm) f f1);exact ⟨d,λ_=>⟨.inl ⟨d1,f,f1,f2.1,d2.symm,λy hy e=>by have:=f2.2 y hy;rw [Hg.2 e] at this;cases this⟩,by omega⟩⟩
   ·rw [List.all_eq_false] at hf;obtain ⟨p,p1,p2⟩:=hf;by_cases hk:p.1∈ks
    ·obtain ⟨d,d1,d2⟩:=mi' p.1 hk;exact ⟨d,λ_=>⟨.inr (.inl ⟨d1,p.2,by rw [d2]; exact p1,by rw [d2]; simpa using p2⟩),by omega⟩⟩
    ·refine ⟨ks.length+kd p.1,λ_=>⟨.inr (.inr ⟨p,p1,by simpa using p2,hk,rfl⟩),?_⟩⟩
     show ks.length+(if p.1.af=0 then 0 else 1)<_
     split<;>omega
  ·exact ⟨0,λh=>absurd h hm⟩
 obtain ⟨pick,hpick⟩:=Classical.axiomOfChoice hR;have hd:=hc (neg.map λi=>(pick i:Int)) (X3 neg _ _ λi hi=>by have:=(hpick i hi).2;omega)
 unfold Fh at hd;rcases LU' ..▸hd with hd | hd
 ·obtain ⟨i,hi,h⟩:=LL'.1 hd;have hil:i<ks.length:=by simpa using hi
  rw [Lc'] at h;obtain ⟨ZV,hcv⟩:=h;generalize hk:ks.getD i k0=k at ZV hcv;have hag:∀ m∈dV neg (neg.map λi=>(pick i:Int)) (i:Int),m∈neg/\((∃ f∈(aC T m).aS,f.o6=false/\f.bq=k/\∀ y∈v.aU,y≠k)\/∃ x,(k,x)∈v.aU.zip v.ai/\bE T x (lG (aC T m) k)=false):=λm hm=>by
   obtain ⟨h1,h2⟩:=Jp hm;have h2:pick m=i:=by omega
   refine ⟨h1,?_⟩;have:=(hpick m h1).1;rw [h2] at this;rcases this with ⟨_,f,f1,f2,f3,f4⟩ | ⟨_,x,x1,x2⟩ | ⟨p,_,_,_,e⟩
   ·rw [hk] at f3;exact .inl ⟨f,f1,f2,f3,λy hy=>by rw [<- f3]; exact f4 y hy⟩
   ·rw [hk] at x1 x2;exact .inr ⟨x,x1,x2⟩
   ·omega
  have hhas:∃ x,(k,x)∈v.aU.zip v.ai:=by
   unfold Lp at ZV;rcases LU' ..▸ZV with h | h
   ·obtain ⟨j,j1,j2⟩:=LL'.1 h;obtain ⟨f,f1,f2,f3⟩:=tk' j2;have:=hp j j1;unfold wE at this;rw [Lc',Le'] at this;have:=this.1 f f1;rw [f3,Bool.false_or,LL'] at this;obtain ⟨y,y1,y2⟩:=this;have e:=Hg.1 y2;rw [f2] at e;subst e;obtain ⟨q,hq'⟩:=MZ' y1;have NZ:q<v.ai.length:=by rw [<- hkl]; exact (La'.1 hq').1
    exact ⟨v.ai[q],Lj' (i:=q) (by rw [Ob']; exact ⟨hq',Lb' NZ⟩)⟩
   ·obtain ⟨m,m1,m2⟩:=LL'.1 h;obtain ⟨h1,h2⟩:=hag m m1;rcases h2 with ⟨f,f1,f2,f3,_⟩ | ⟨x,x1,_⟩
    ·rw [ze' (hfa m (LT' _ h1)) f1 f3,f2] at m2;cases m2
    ·exact ⟨x,x1⟩
  obtain ⟨x,hx⟩:=hhas;have hxk:=(Oa' hx);refine ⟨x,LN' _ hxk.2,_,_,_,hcv,Gh _,λj hj=>?_,λj hj=>?_⟩
  ·obtain ⟨i',hi',rfl⟩:=Lx'.1 hj;have:=hp i' hi';unfold wE at this;rw [Lc',Le',Le'] at this;exact this.2 (k,x) hx
  ·obtain ⟨m,hm,rfl⟩:=Lx'.1 hj;obtain ⟨_,h2⟩:=hag m hm;rcases h2 with ⟨f,_,_,_,f4⟩ | ⟨y,y1,y2⟩
   ·exact absurd rfl (f4 k hxk.1)
   ·have:=Ai' hka hx y1;rw [this];exact y2
 ·obtain ⟨q,hq',h⟩:=LL'.1 hd;have hq2:q<2:=by simpa using hq'
  obtain ⟨m,hm,hcv⟩:=LL'.1 h;obtain ⟨h1,h2⟩:=Jp hm;have h2:pick m=ks.length+q:=by omega
  have:=(hpick m h1).1;rw [h2] at this;rcases this with ⟨h,_⟩ | ⟨h,_⟩ | ⟨p,p1,p2,p3,p4⟩
  ·omega
  ·omega
  ·have hpk:=Oa' p1;have hat:∀ i∈pos++neg,lG (aC T i) p.1=jm T q i:=λi hi=>by
    rw [yf' λf hf e=>p3 (by rw [<- e]; exact hks i hi f hf)]
    have JG':=Vt (hko p.1 hpk.1);have IC:q=if p.1.af=0 then 0 else 1:=by
     have:ks.length+q=ks.length+(if p.1.af=0 then 0 else 1):=p4
     omega
    unfold yH jm;rcases JG' with h0 | h0
    ·rw [h0] at IC ⊢;simp at IC;subst IC;rfl
    ·rw [h0] at IC ⊢;simp at IC;subst IC;rfl
   refine ⟨p.2,LN' _ hpk.2,_,_,_,hcv,Gh _,λj hj=>?_,λj hj=>?_⟩
   ·obtain ⟨i',hi',rfl⟩:=Lx'.1 hj;have:=hp i' hi';unfold wE at this;rw [Lc',Le',Le'] at this;rw [<- hat i' (LN' _ hi')];exact this.2 p p1
   ·rw [Lp'] at hj;subst hj;rw [<- hat m (LT' _ h1)];exact p2
theorem pV' (pos neg:List Int)(A:Nat)(hes:∀ en∈v.aW,en.cu.length=A)(hint:v.bn=(A:Int))(hkl:∀ i∈pos++neg,(aC T i).ai.length=A+1)
 (hp:∀ i∈pos,xY (bE T) v (aC T i)=true) (hq:∀ i∈neg,xY (bE T) v (aC T i)=false) (hc:YD T all pos neg A):RX T all v:=by
 obtain ⟨f,hf,hform⟩:=hc;have hfl:=hkl f (LT' _ hf);have hlast:∀ i∈pos++neg,GK (aC T i).ai=eH T A i:=λi hi=>by unfold GK eH;rw [hkl i hi];rfl
 have htake:∀ i∈pos++neg,∀ k,k<A->((aC T i).ai.take ((aC T i).ai.length-1)).getD k 0=eH T k i:=λi hi k hk=>by unfold eH;rw [hkl i hi,Ms',Ms',Lw' (by omega)]
 have hn:=hq f hf;unfold xY at hn;rw [hfl,hint] at hn;have e0:((A:Int)==((A+1-1:Nat):Int))=true:=by simp
 rw [e0,LQ',List.all_eq_false] at hn;obtain ⟨en,ZW,ZX⟩:=hn;have hal:=hes en ZW;unfold BL at ZX;simp only [Bool.not_eq_true,NC',Bool.not_eq_false'] at ZX;obtain ⟨hargs,hres⟩:=ZX;rw [Pm] at hargs;have JH':∀ k w,en.cu[k]?=some w->bE T w (eH T k f)=true:=λk w hw=>by
  have hk:k<A:=by rw [<- hal]; exact (La'.1 hw).1
  have:=hargs.2 k w hw;rw [htake f (LT' _ hf) k hk] at this;exact this
 have hpos:∀ i∈pos,(∃ k w,en.cu[k]?=some w/\bE T w (eH T k i)=false)\/(en.Fails=false/\bE T en.Result (eH T A i)=true):=λi hi=>by
  have:=hp i hi;unfold xY at this;rw [Lc',Le'] at this;have:=this.2 en ZW;unfold BL at this;rcases LU' ..▸this with h | h
  ·left;have h':¬ pO (bE T) en.cu ((aC T i).ai.take ((aC T i).ai.length-1))=true:=by simpa using h
   rw [Pm] at h';have hl:en.cu.length=((aC T i).ai.take ((aC T i).ai.length-1)).length:=by rw [LC',hkl i (LN' _ hi),hal];omega
   apply Classical.byContradiction;intro hno;apply h';refine ⟨hl,λk w hw=>?_⟩;have hk:k<A:=by rw [<- hal]; exact (La'.1 hw).1
   rw [htake i (LN' _ hi) k hk];cases hm:bE T w (eH T k i) with
   | true=>rfl
   | false=>exact absurd ⟨k,w,hw,hm⟩ hno
  ·right;rw [Lc'] at h;rw [hlast i (LN' _ hi)] at h;exact ⟨by simpa using h.1,h.2⟩
 have hpk:∀ i:Int,∃ d:Nat,i∈pos->d<A+1/\((d<A/\∃ w,en.cu[d]?=some w/\bE T w (eH T d i)=false)\/(d=A/\en.Fails=false/\bE T en.Result (eH T A i)=true)):=λi=>by
  by_cases hi:i∈pos
  ·rcases hpos i hi with ⟨k,w,h1,h2⟩ | h
   ·have hk:k<A:=by rw [<- hal]; exact (La'.1 h1).1
    exact ⟨k,λ_=>⟨by omega,.inl ⟨hk,w,h1,h2⟩⟩⟩
   ·exact ⟨A,λ_=>⟨by omega,.inr ⟨rfl,h⟩⟩⟩
  ·exact ⟨0,λh=>absurd h hi⟩
 obtain ⟨pick,hpick⟩:=Classical.axiomOfChoice hpk;have hd:=hform (pos.map λi=>(pick i:Int)) (X3 pos _ _ λi hi=>by have:=(hpick i hi).1;omega)
 have hpart:∀ w∈vg en,w∈xh v:=λw hw=>LT' _ (Ng'.2 ⟨en,ZW,hw⟩);unfold Lg at hd;rcases LU' ..▸hd with hd | hd
 ·obtain ⟨k,hk,hcv⟩:=LL'.1 hd;have hkA:k<A:=by simpa using hk
  have hx:=Lb' (show k<en.cu.length by omega)
  refine ⟨en.cu[k],hpart _ (LN' _ (Lu' _)),_,_,_,hcv,Gh _,λj hj=>?_,λj hj=>?_⟩
  ·rw [Lp'] at hj;subst hj;exact JH' k _ hx
  ·obtain ⟨i,hi,rfl⟩:=Lx'.1 hj;obtain ⟨h1,h2⟩:=Jp hi;have h2:pick i=k:=by omega
   rcases (hpick i h1).2 with ⟨_,w,w1,w2⟩ | ⟨h,_⟩
   ·rw [h2] at w1 w2;rw [hx] at w1;cases w1;exact w2
   ·omega
 ·rw [Lc'] at hd;obtain ⟨hne,hcv⟩:=hd;have hall:∀ i∈dV pos (pos.map λi=>(pick i:Int)) (A:Int),en.Fails=false/\bE T en.Result (eH T A i)=true:=λi hi=>by
   obtain ⟨h1,h2⟩:=Jp hi;have h2:pick i=A:=by omega
   rcases (hpick i h1).2 with ⟨h,_⟩ | ⟨_,h⟩
   ·omega
   ·exact h
  have hfa:en.Fails=false:=by
   cases h:dV pos (pos.map λi=>(pick i:Int)) (A:Int) with
   | nil=>rw [h] at hne; cases hne
   | cons i r=>exact (hall i (by rw [h]; simp)).1
  refine ⟨en.Result,hpart _ (LT' _ (by rw [hfa]; simp)),_,_,_,hcv,Gh _,λj hj=>?_,λj hj=>?_⟩
  ·obtain ⟨i,hi,rfl⟩:=Lx'.1 hj;exact (hall i hi).2
  ·rw [Lp'] at hj;subst hj;rw [hfa,hlast f (LT' _ hf)] at hres;simpa using hres
end
section
variable {T:ay}{all:List ax}{v:Val}
theorem ek' (ho:bP v=true):oK v=true:=by rw [Hq] at ho;simp only [Lc'] at ho;have h:=ho.1;unfold l9 at h;simp only [Lc'] at h;exact h.2.2
theorem qE' (ho:bP v=true)(hk:v.af=7):v.ai.length=2/\∀ x,v.ai[1]?=some x->wG x true=true:=by
 have h:=ek' ho;unfold oK at h;simp [hk] at h;revert h;generalize v.ai=l;intro h;unfold G8 at h;split at h
 ·refine ⟨rfl,λx hx=>?_⟩;simp at hx;subst hx;unfold wG;simpa using h
 ·cases h
theorem qa' (ho:bP v=true)(hk:v.af=9):0<=v.bn/\v.bn<=4/\∀ en∈v.aW,(en.cu.length:Int)=v.bn:=by have h:=ek' ho;unfold oK at h;simp [hk] at h;unfold BU at h;simp only [Lc',decide_eq_true_eq,Le'] at h;refine ⟨h.1.1,h.1.2,λen hen=>?_⟩;have:=h.2.2 en hen;unfold lV at this;simp only [Lc',beq_iff_eq] at this;exact this.1
theorem OG (hT:GT T)(ho:bP v=true)(hb:bD v<=4194304){i:Int}(hi:fM T i=true)(hk:(aC T i).af=10/\v.af=6\/(aC T i).af=12/\v.af=7):bE T v i=pO (bE T) v.ai (aC T i).ai:=by rw [J9 hT ho hb hi];unfold pF;rcases hk with ⟨h1,h2⟩ | ⟨h1,h2⟩<;>simp [h1,h2]
theorem ic' (hT:GT T)(ho:bP v=true)(hb:bD v<=4194304){i:Int}(hi:fM T i=true)(hk:(aC T i).af=13)(hv:v.af=8):bE T v i=wE (bE T) v (aC T i):=by rw [J9 hT ho hb hi];unfold pF;simp [hk,hv]
theorem jp' (hT:GT T)(ho:bP v=true)(hb:bD v<=4194304){i:Int}(hi:fM T i=true)(hk:(aC T i).af=14)(hv:v.af=9):bE T v i=xY (bE T) v (aC T i):=by rw [J9 hT ho hb hi];unfold pF;simp [hk,hv]
theorem PW {i:Int}{w:Nat}(hw:v.ai.length=w)(hl:(aC T i).ai.length=w) :
 (pO (bE T) v.ai (aC T i).ai=true->∀ k x,v.ai[k]?=some x->bE T x (eH T k i)=true)/\(pO (bE T) v.ai (aC T i).ai=false->∃ k x,v.ai[k]?=some x/\bE T x (eH T k i)=false):=by
 refine ⟨λh=>(Pm.1 h).2,λh=>?_⟩;apply Classical.byContradiction;intro hno;have:pO (bE T) v.ai (aC T i).ai=true:=Pm.2 ⟨by omega,λk x hx=>by
  cases hm:bE T x (eH T k i) with
  | true=>exact hm
  | false=>exact absurd ⟨k,x,hx,hm⟩ hno⟩
 rw [h] at this;cases this
theorem Dw' (hT:GT T)(ho:bP v=true)(hb:bD v<=4194304)(hI:ol v){L:Bool}{e:ax}(he:NG T L e)(hm:Gx T v e=true)(hc:CL T all e):RX T all v:=by
 obtain ⟨hap,hs,hbad,_⟩:=CF' hT ho hb hI he hm;rcases hc with h | h
 ·rw [hap] at h; cases h
 have hop:rZ T e v.af (kg v)=true:=by
  cases h:rZ T e v.af (kg v) with
  | true=>rfl
  | false=>exact absurd (.inl h) hbad
 have hk:KC T all e v.af (kg v):=h _ hs hop;unfold Gx at hm;simp only [Lc'] at hm;obtain ⟨_,hpos,hneg⟩:=hm;have hP:=Le'.1 he.pos;have hQ:=Le'.1 he.neg;have mP:=Le'.1 hpos;have mQ:∀ i∈e.Neg,bE T v i=false:=λi hi=>by simpa using Le'.1 hneg i hi
 rcases hk with h | ⟨hK,h⟩ | ⟨hK,h⟩ | ⟨hK,ks,hks,h⟩ | ⟨hK,h⟩
 ·exact absurd h hbad
 ·have hA:kg v=(v.ai.length:Int):=by unfold kg; rw [if_pos hK]
  rw [hA] at h;have hlen:∀ {l:List Int} {i:Int},i∈gW T 6 (v.ai.length:Int) 10 l->i∈l/\(aC T i).af=10/\(aC T i).ai.length=v.ai.length:=λ{l i} hi=>by obtain ⟨h1,h2,h3⟩:=uT hi;unfold o9 uj at h3;simp [h2] at h3;exact ⟨h1,h2,by omega⟩
  rw [Ln'] at h;refine fD' (all:=all) _ _ v.ai.length false rfl (λi hi=>?_) (λi hi=>?_) (λh=>by cases h) h
  ·obtain ⟨h1,h2,h3⟩:=hlen hi;have:=mP i h1;rw [OG hT ho hb (hP i h1) (.inl ⟨h2,hK⟩)] at this;exact (PW rfl h3).1 this
  ·obtain ⟨h1,h2,h3⟩:=hlen hi;have:=mQ i h1;rw [OG hT ho hb (hQ i h1) (.inl ⟨h2,hK⟩)] at this;exact (PW rfl h3).2 this
 ·obtain ⟨c1,c2⟩:=qE' ho hK;have hlen:∀ {l:List Int} {i:Int},(∀ j∈l,fM T j=true)->i∈gW T 7 (kg v) 12 l->i∈l/\(aC T i).af=12/\(aC T i).ai.length=2:=λ{l i} hl hi=>by obtain ⟨h1,h2,_⟩:=uT hi;obtain ⟨j,_,_,_,hg,_⟩:=Ap hT (hl i h1);have hn:=Ad hg.ok;unfold jd at hn;simp [h2] at hn;exact ⟨h1,h2,by omega⟩
  refine fD' (all:=all) _ _ 2 true c1 (λi hi=>?_) (λi hi=>?_) (λ_=>c2) h
  ·obtain ⟨h1,h2,h3⟩:=hlen hP hi;have:=mP i h1;rw [OG hT ho hb (hP i h1) (.inr ⟨h2,hK⟩)] at this;exact (PW c1 h3).1 this
  ·obtain ⟨h1,h2,h3⟩:=hlen hQ hi;have:=mQ i h1;rw [OG hT ho hb (hQ i h1) (.inr ⟨h2,hK⟩)] at this;exact (PW c1 h3).2 this
 ·have hv:=gU' ho hK;unfold yO at hv;simp only [Lc',beq_iff_eq,Le'] at hv;have hof:∀ i∈gW T 8 (kg v) 13 e.Pos++gW T 8 (kg v) 13 e.Neg,fM T i=true/\(aC T i).af=13:=λi hi=>by
   rcases Lo'.1 hi with hi | hi
   ·obtain ⟨h1,h2,_⟩:=uT hi; exact ⟨hP i h1,h2⟩
   ·obtain ⟨h1,h2,_⟩:=uT hi; exact ⟨hQ i h1,h2⟩
  refine mP' (all:=all) _ _ ks hv.1 hv.2.1 hv.2.2 (λi hi f hf=>(hks _).2 ⟨i,hi,f,hf,rfl⟩) (λi hi=>?_) (λi hi=>?_) (λi hi=>?_) h
  ·obtain ⟨h1,h2⟩:=hof i hi;obtain ⟨j,_,_,_,hg,_⟩:=Ap hT h1;have hn:=Ad hg.ok;unfold jd sZ at hn;simp [h2] at hn;exact hn.1.1
  ·obtain ⟨h1,h2,_⟩:=uT hi;rw [<- ic' hT ho hb (hP i h1) h2 hK];exact mP i h1
  ·obtain ⟨h1,h2,_⟩:=uT hi;rw [<- ic' hT ho hb (hQ i h1) h2 hK];exact mQ i h1
 ·obtain ⟨f1,f2,f3⟩:=qa' ho hK;have hA:kg v=v.bn:=by unfold kg; rw [if_neg (by omega),if_pos hK]
  obtain ⟨a,ha⟩:∃ a:Nat,v.bn=(a:Int):=⟨v.bn.toNat,by omega⟩
  rw [hA,ha,Ln'] at h;have hlen:∀ {l:List Int} {i:Int},i∈gW T 9 (a:Int) 14 l->i∈l/\(aC T i).af=14/\(aC T i).ai.length=a+1:=λ{l i} hi=>by obtain ⟨h1,h2,h3⟩:=uT hi;unfold o9 uj at h3;simp [h2] at h3;exact ⟨h1,h2,by omega⟩
  refine pV' (all:=all) _ _ a (λen hen=>by have:=f3 en hen; omega) ha (λi hi=>?_) (λi hi=>?_) (λi hi=>?_) h
  ·rcases Lo'.1 hi with hi | hi
   ·exact (hlen hi).2.2
   ·exact (hlen hi).2.2
  ·obtain ⟨h1,h2,_⟩:=hlen hi;rw [<- jp' hT ho hb (hP i h1) h2 hK];exact mP i h1
  ·obtain ⟨h1,h2,_⟩:=hlen hi;rw [<- jp' hT ho hb (hQ i h1) h2 hK];exact mQ i h1
theorem ed' {a b:List Int}(h:xW a b=true):∀ i∈a,i∈b:=λi hi=>by
 unfold xW at h;have:=Le'.1 h i hi;obtain ⟨j,j1,j2⟩:=LL'.1 this;have:i=j:=by simpa using j2
 rw [this];exact j1
theorem hX' (hT:GT T)(hin:all.all (mr T.aj.length)=true)(hJ:∀ g∈all,JZ T all g):∀ (m:Nat) (v:Val),bD v<=m->bP v=true->bD v<=4194304->DI v->∀ g∈all,gA T v g=false
 | 0,v,h,_,_,_,_,_=>by have:=LD v; omega
 | m+1,v,h,ho,hb,hI,g,hg=>by
   cases hgA:gA T v g with
   | false=>rfl
   | true =>
     exfalso;obtain ⟨out,hE,hCL⟩:=hJ g hg;unfold gA at hgA;simp only [Lc'] at hgA;obtain ⟨_,T9,hgM⟩:=hgA;have hmem:=hE.mem (bE T v) (np' hT ho hb);unfold gM at hgM;rw [hgM] at hmem;obtain ⟨e,he,hem⟩:=LL'.1 hmem;have hNG:=hE.ng e he;have hE':Gx T v e=true:=by unfold Gx;rw [hNG.lists,T9,hem];rfl
     obtain ⟨w,hw,p,q,L,hcv,hl,h1,h2⟩:=Dw' hT ho hb hI.iok hNG hE' (hCL e he);unfold jK Pw at hcv;obtain ⟨c,hc,hcc⟩:=LL'.1 hcv;simp only [Lc'] at hcc;obtain ⟨s1,s2,s3⟩:=hcc;have hbw:=pD' hw;have:=hX' hT hin hJ m w (by omega) (uq' ho hw) (by omega) (hI.part hw) c hc
     unfold gA at this;rw [Le'.1 hin c hc,LQ'] at this;have hl':wG w c.eu=true:=by
      cases hcl:c.eu with
      | false=>rfl
      | true =>rw [hcl] at s3;simp only [Mc',Bool.false_or] at s3;rw [s3] at hl;exact hl
     have hgm:gM T w c=true:=by
      unfold gM;rw [Lc',Le',Le'];refine ⟨λi hi=>h1 i ?_,λi hi=>?_⟩
      ·exact (JA p i).1 (ed' s1 i hi)
      ·rw [h2 i ((JA q i).1 (ed' s2 i hi))];rfl
     rw [hl',hgm] at this;cases this
end
def ah {α:Type}(o:Option α)(Q:α->Prop):Prop:=∀ r,o=some r->Q r
theorem ah.bind {α β:Type}{o:Option α}{f:α->Option β}{P:α->Prop}{Q:β->Prop}(h1:ah o P)(h2:∀ x,P x->ah (f x) Q):ah (Option.bind o f) Q:=λr h=>by
 cases o with
 | none=>cases h
 | some x=>exact h2 x (h1 x rfl) r h
theorem ah.any {α:Type}{o:Option α}:ah o λ_=>True:=λ_ _=>trivial
theorem ah.cond {α:Type}{b:Bool}{x y:Option α}{Q:α->Prop}(h1:ah x Q)(h2:ah y Q):ah (bif b then x else y) Q:=by cases b; exact h2; exact h1
theorem ah.ret {α:Type}{x:α}{Q:α->Prop}(h:Q x):ah (some x) Q:=λr e=>by rw [<- LI'.inj e]; exact h
theorem ah.none {α:Type}{Q:α->Prop}:ah (none:Option α) Q:=λr e=>by cases e
theorem ah.aL {α β γ:Type}{f:α->Option γ}{g:β->Option γ}{s:Sum α β}{Q:γ->Prop}(h1:∀ x,s=.inl x->ah (f x) Q)(h2:∀ y,s=.inr y->ah (g y) Q):ah (aL f g s) Q:=by
 cases s with
 | inl x=>exact h1 x rfl
 | inr y=>exact h2 y rfl
theorem ah.iter {St β:Type}{step:St->Option (Fl St β)}{J:St->Prop}{Q:β->Prop}(hs:∀ s,J s->ah (step s) λr=>match r with | .next s'=>J s' | .done b=>Q b):∀ (k:Nat) (s:St),J s->ah (iter step k s) Q
 | 0,_,_=>λr h=>by cases h
 | k+1,s,hJ=>by
   intro r h;simp only [Go.Sx.iter] at h;cases hst:step s with
   | none=>rw [hst] at h; cases h
   | some x =>
     have:=hs s hJ x hst;rw [hst] at h;cases x with
     | next s'=>exact ah.iter hs k s' this r h
     | done b=>simp only [KY'] at h; rw [<- LI'.inj h]; exact this
abbrev V1 (r:Val×aA):Prop:=ol r.1
theorem p8 {v:Val}(h:v.af≠1):ol v:=λe=>absurd e h
theorem Sz {v w:Val}(h1:w.af=v.af)(h2:w.bn=v.bn)(h:ol v):ol w:=λe=>by rw [h2]; exact h (by rw [<- h1]; exact e)
theorem aP' (s:aA):ah (Gt s) λr=>i64 r.1:=by unfold Gt;refine ah.bind ah.any λr _=>ah.bind (P:=λ_=>True) ah.any λx _=>ah.bind (P:=i64) (λy hy=>?_) λy hy=>ah.ret hy;have hm:=Lj' hy;simp only [Lq',NJ',or_false] at hm;unfold i64;omega
theorem Kj (s:aA):ah (rO s) V1:=by
 unfold rO;refine ah.bind ah.any λr _=>ah.cond ?_ (ah.cond ?_ (ah.cond ?_ (ah.cond ?_ (ah.cond ?_ ?_))))
 ·exact ah.bind (aP' _) λx hx=>ah.bind (P:=λv=>v.bn=x.1) (λv hv=>by unfold KY at hv; rw [<- LI'.inj hv]; rfl) λv hv=>ah.ret λ_=>by rw [hv]; exact hx
 ·exact ah.bind ah.any λx _=>ah.bind (P:=λv=>v.af≠1) (λv hv=>by unfold CY at hv; rw [<- LI'.inj hv]; exact (by decide:(3:Int)≠1)) λv hv=>ah.ret (p8 hv)
 ·exact ah.bind ah.any λx _=>ah.bind (P:=λv=>v.af≠1) (λv hv=>by unfold Bq at hv; rw [<- LI'.inj hv]; exact (by decide:(2:Int)≠1)) λv hv=>ah.ret (p8 hv)
 ·exact ah.bind ah.any λx _=>ah.bind (P:=λv=>v.af≠1) (λv hv=>by unfold EF at hv; rw [<- LI'.inj hv]; exact (by decide:(4:Int)≠1)) λv hv=>ah.ret (p8 hv)
 ·exact ah.bind (P:=λv=>v.af≠1) (λv hv=>by unfold qB at hv; rw [<- LI'.inj hv]; exact (by decide:(5:Int)≠1)) λv hv=>ah.ret (p8 hv)
 ·refine ah.bind (P:=λv=>v.af≠1) ?_ λv hv=>ah.ret (p8 hv);unfold Aj;exact ah.bind ah.any λx _=>ah.ret (by decide:(6:Int)≠1)
theorem ar' (ks:List Key)(l:List Val):ah (vJ ks l) λr=>r.1.af≠1:=by
 unfold vJ;refine ah.cond (ah.ret (by decide)) ?_
 refine ah.bind (P:=λb=>match b with | .inl x=>x.1=0 | .inr y=>y.2.1=0) (ah.iter (J:=λx=>x.2.1=0) (λs hJ=>?_) _ _ rfl) λb hb=>ah.aL (λx hx=>?_) (λy hy=>ah.ret ?_)
 ·unfold Aq;exact ah.cond (ah.bind ah.any λ_ _=>ah.bind ah.any λ_ _=>ah.cond (ah.ret rfl) (ah.ret hJ)) (ah.ret hJ)
 ·subst hx;refine ah.bind (P:=λb=>match b with | .inl x=>x.2.1=8 | .inr y=>y.2.1.1=0) (ah.iter (J:=λx=>x.2.1.1=0/\x.2.2.1=8) (λs hJ=>?_) _ _ ⟨hb,rfl⟩) λb hb=>ah.aL (λx hx=>ah.ret ?_) (λy hy=>ah.ret ?_)
  ·unfold yD;refine ah.cond (ah.bind ah.any λ_ _=>ah.bind ah.any λ_ _=>ah.cond (ah.ret rfl) ?_) (ah.ret hJ.2);exact ah.bind ah.any λ_ _=>ah.bind ah.any λ_ _=>ah.bind ah.any λ_ _=>ah.bind ah.any λ_ _=>ah.bind ah.any λ_ _=>ah.bind ah.any λ_ _=>ah.bind ah.any λ_ _=>ah.bind ah.any λ_ _=>ah.bind ah.any λ_ _=>ah.bind ah.any λ_ _=>ah.bind ah.any λ_ _=>ah.bind ah.any λ_ _=>ah.ret hJ
  ·subst hx;show x.2.1≠1;have hb':x.2.1=8:=hb;omega
  ·subst hy;show y.2.1.1≠1;have hb':y.2.1.1=0:=hb;omega
 ·subst hy;show y.2.1≠1;have hb':y.2.1=0:=hb;omega
theorem cd' (n:Nat)(a:Int)(l:List aD):ah (yJ n a l) λr=>r.1.af≠1:=by
 unfold yJ;refine ah.bind ah.any λ_ _=>ah.cond (ah.ret (by decide)) ?_
 refine ah.bind (P:=λb=>match b with | .inl x=>True | .inr y=>y.2.1=0) (ah.iter (J:=λx=>x.2.1=0) (λs hJ=>?_) _ _ rfl) λb hb=>ah.aL (λx hx=>?_) (λy hy=>ah.ret ?_)
 ·unfold Az;exact ah.cond (ah.bind ah.any λ_ _=>ah.bind ah.any λ_ _=>ah.bind ah.any λ_ _=>ah.cond (ah.ret rfl) (ah.ret hJ)) (ah.ret trivial)
 ·exact ah.bind ah.any λ_ _=>ah.ret (by decide:(9:Int)≠1)
 ·subst hy;show y.2.1≠1;have hb':y.2.1=0:=hb;omega
theorem qy':∀ (n:Nat) (s:aA) (h:Int),ah ((fA n).2.1 s h) V1
 | 0,_,_=>ah.none
 | n+1,s,h=>by
   show ah (yS n (fA n).1 (fA n).2.1 (fA n).2.2 s h) V1;unfold yS;refine ah.cond (ah.bind (Kj _) λr hr=>ah.ret hr) (ah.bind ah.any λr _=>?_);refine ah.bind (P:=λb=>match b with | .inl _=>True | .inr y=>y.2.1≠1) ?_ λb hb=>ah.aL (λx hx=>ah.bind (Kj _) λr hr=>ah.ret hr) (λy hy=>ah.ret ?_)
   ·refine ah.cond ?_ (ah.cond ?_ (ah.cond ?_ (ah.cond ?_ (ah.ret trivial))))
    ·refine ah.bind ah.any λ_ _=>ah.bind ah.any λ_ _=>ah.bind (P:=λv=>v.af≠1) ?_ λv hv=>ah.ret hv;unfold Aj;exact ah.bind ah.any λx _=>ah.ret (by decide:(6:Int)≠1)
    ·refine ah.bind ah.any λ_ _=>ah.bind ah.any λ_ _=>ah.bind ah.any λ_ _=>ah.bind ah.any λ_ _=>ah.bind ah.any λ_ _=>ah.bind (P:=λv=>v.af≠1) ?_ λv hv=>ah.ret hv;unfold FN;exact ah.ret (by decide:(7:Int)≠1)
    ·exact ah.bind ah.any λ_ _=>ah.bind ah.any λ_ _=>ah.bind (ar' _ _) λv hv=>ah.cond (ah.ret hv) (ah.ret trivial)
    ·exact ah.bind ah.any λ_ _=>ah.bind ah.any λ_ _=>ah.bind ah.any λ_ _=>ah.bind (cd' _ _ _) λv hv=>ah.cond (ah.ret hv) (ah.ret trivial)
   ·subst hy;exact p8 hb
theorem AZ' (n:Nat)(s:aA)(h:Int):ah (I5 n s h) V1:=by
 cases n with
 | zero=>exact ah.none
 | succ n =>show ah (CW n (fA n).1 (fA n).2.1 (fA n).2.2 s h) V1;unfold CW;exact ah.bind (qy' n s h) λr hr=>ah.bind ah.any λl _=>ah.ret (Sz rfl rfl hr)
theorem zX' (t:ay)(x:aF)(k:Nat)(v:Val)(hv:ol v):ah (iter (uZ t x) k (0,v)) ol:=by refine ah.iter (J:=λs=>ol s.2) (λs hJ=>?_) k (0,v) hv;unfold uZ;refine ah.cond (ah.bind (P:=ol) ?_ λw hw=>ah.ret hw) (ah.ret hJ);refine ah.bind ah.any λ_ _=>ah.bind ah.any λ_ _=>ah.cond ?_ (ah.ret hJ);exact ah.bind ah.any λ_ _=>ah.bind ah.any λ_ _=>ah.bind ah.any λ_ _=>ah.bind ah.any λ_ _=>ah.bind ah.any λ_ _=>ah.ret (Sz rfl rfl hJ)
theorem ex' {t:ay}(hT:GT t):∀ n:Nat,(∀ s k h,ah ((bM n).1 s t k h) V1)/\(∀ s k h,ah ((bM n).2.1 s t k h) V1) /\
 (∀ s x h,ah ((bM n).2.2.1 s t x h) V1)/\∀ s x h,ah ((bM n).2.2.2 s t x h) V1
 | 0=>⟨λ_ _ _=>ah.none,λ_ _ _=>ah.none,λ_ _ _=>ah.none,λ_ _ _=>ah.none⟩
 | n+1=>by
   obtain ⟨i1,i2,i3,i4⟩:=ex' hT n;refine ⟨λs k h=>?_,λs k h=>?_,λs x h=>?_,λs x h=>?_⟩
   ·show ah (Cu n (bM n).1 (bM n).2.1 (bM n).2.2.1 (bM n).2.2.2 s t k h) V1;unfold Cu;exact ah.bind (i2 s k h) λr hr=>ah.bind ah.any λ_ _=>ah.cond (ah.bind (Kj _) λq hq=>ah.ret hq) (ah.ret hr)
   ·show ah (xQ n (bM n).1 (bM n).2.1 (bM n).2.2.1 (bM n).2.2.2 s t k h) V1;unfold xQ;refine ah.bind ah.any λ_ _=>ah.bind ah.any λ_ _=>ah.cond (ah.bind (Kj _) λr hr=>ah.ret hr) ?_;refine ah.bind (P:=λx=>x∈t.aj) (λx hx=>?_) λx hx=>?_
    ·unfold ak at hx;split at hx
     ·exact Lj' hx
     ·cases hx
    have st:∀ (w:ByteArray) (s:aA),ah ((Bq w).bind λr=>some (r,s)) V1:=λw s=>ah.ret (p8 (by decide:(2:Int)≠1))
    have at_:∀ (w:ByteArray) (s:aA),ah ((CY w).bind λr=>some (r,s)) V1:=λw s=>ah.ret (p8 (by decide:(3:Int)≠1))
    have pd:∀ (w:Int) (s:aA),ah ((EF w).bind λr=>some (r,s)) V1:=λw s=>ah.ret (p8 (by decide:(4:Int)≠1))
    have nl:∀ (s:aA),ah ((qB).bind λr=>some (r,s)) V1:=λs=>ah.ret (p8 (by decide:(5:Int)≠1))
    refine ah.cond ?_ (ah.cond (st _ _) (ah.cond (ah.bind ah.any λ_ _=>st _ _) (ah.cond (at_ _ _) (ah.cond (ah.bind ah.any λ_ _=>at_ _ _) (ah.cond (ah.bind ah.any λ_ _=>pd _ _) (ah.cond (nl _) ?_))))))
    ·obtain ⟨j,hj,rfl⟩:=LW' hx;have hg:=(hT.nodes j _ (Lb' hj)).gu;refine ah.bind ah.any λd5 _=>ah.bind ah.any λd6 _=>ah.bind ah.any λr _=>ah.bind (P:=λ_=>True) ah.any λ_ _=>ah.bind (P:=i64) (λy hy=>?_) λy hy=>ah.ret λ_=>hy;have hm:=Lj' hy;simp only [Lq',NJ',or_false] at hm;rcases hm with rfl | rfl | rfl
     ·exact ⟨hg.1,hg.2.1⟩
     ·exact ⟨hg.2.2.1,hg.2.2.2⟩
     ·generalize t.aj[j].Lo+wr .i64 (d5-d6)=z;unfold i64 wr;rw [IntKind.wrap_i64];omega
    ·refine ah.bind ah.any λ_ _=>ah.cond ?_ (ah.cond ?_ (ah.cond ?_ (ah.cond ?_ (ah.cond ?_ (ah.cond ?_ ?_)))))
     ·refine ah.bind ah.any λb _=>ah.bind (P:=λy=>y.1≠1) ?_ λy hy=>ah.ret (p8 hy);exact ah.cond (ah.bind ah.any λ_ _=>ah.bind ah.any λ_ _=>ah.cond (ah.bind ah.any λ_ _=>ah.bind ah.any λ_ _=>ah.bind ah.any λ_ _=>ah.ret (by decide:(7:Int)≠1)) (ah.ret (by decide:(7:Int)≠1))) (ah.ret (by decide:(6:Int)≠1))
     ·exact ah.bind (i4 _ _ _) λr hr=>ah.ret hr
     ·exact ah.bind (i3 _ _ _) λr hr=>ah.ret hr
     ·exact ah.bind ah.any λ_ _=>ah.bind ah.any λ_ _=>ah.bind (i2 _ _ _) λr hr=>ah.ret hr
     ·exact ah.bind ah.any λ_ _=>ah.bind ah.any λ_ _=>ah.bind (i2 _ _ _) λr hr=>ah.bind (zX' t x _ _ hr) λw hw=>ah.ret hw
     ·refine ah.bind (Kj _) λr hr=>ah.bind (P:=ol) ?_ λw hw=>ah.ret hw;unfold Lr;exact ah.bind ah.any λ_ _=>ah.ret (Sz rfl rfl hr)
     ·exact ah.bind (AZ' n _ _) λr hr=>ah.ret hr
   ·show ah (Co n (bM n).1 (bM n).2.1 (bM n).2.2.1 (bM n).2.2.2 s t x h) V1;unfold Co;exact ah.bind ah.any λ_ _=>ah.bind ah.any λ_ _=>ah.bind (cd' _ _ _) λr hr=>ah.cond (ah.ret (p8 (by decide:(5:Int)≠1))) (ah.ret (p8 hr))
   ·show ah (Cz n (bM n).1 (bM n).2.1 (bM n).2.2.1 (bM n).2.2.2 s t x h) V1;unfold Cz;exact ah.bind ah.any λ_ _=>ah.bind ah.any λ_ _=>ah.bind ah.any λ_ _=>ah.bind (ar' _ _) λr hr=>ah.cond (ah.ret (p8 (by decide:(5:Int)≠1))) (ah.ret (p8 hr))
theorem aE' (l:List (List Int))(hl:l.length<=1000):Sr l=some (l.all λx=>!decide (80<(x.length:Int))):=by
 have l1:=lF (step:=Ls l) l (λx=>!decide (80<(x.length:Int))) (λi=>(i:Int)) () false (λi x hx=>by
  have hi:i<l.length:=(La'.1 hx).1;unfold Ls;rw [dn hi,aR hx];simp only [cond_true,KY',aV];rw [bF i (by omega)]
  cases decide (80<(x.length:Int))<;>rfl) (by
  unfold Ls;simp)
 have NW:iter (Ls l) (l.length+1) 0=_:=l1;unfold Sr;rw [dw,NW];cases l.all λx=>!decide (80<(x.length:Int))<;>rfl
structure DT (T:ay):Prop where
 gt:GT T
 one:1<=T.aj.length
 len:T.aj.length<=7
 root:bf T.aj.length T.dh=true
structure DV (v:Val):Prop where
 ok:bP v=true
 bulk:bD v<=1638300
 int:ol v
theorem QF (L:List Int):OS L (aA.mk L 0):=⟨rfl,by show (0:Int)<=0; omega,by show (0:Int)<=_; omega⟩
theorem vT' (l:List Int)(hl:l.length<=4194304):∃ T,DT T/\∀ m:List Int,m.length<=4194304->∀ n,10000000<=n->∃ v,Eo n l m=some (T,v)/\DV v:=by
 obtain ⟨x,t1,e1,h1,x0,x1⟩:=fu hl (QF l) (n:=7) (by omega) (by omega)
 obtain ⟨x,rfl⟩:=wD x0;obtain ⟨ns,t2,e2,h2,hlen,hns⟩:=yk' hl h1 (x+1) (by omega) (by omega)
 have hgt:GT (ay.mk ns 0):=⟨by show ns.length<=10; omega,by show zU ns.length ns; rw [hlen]; exact hns⟩
 have hDT:DT (ay.mk ns 0):=⟨hgt,by show 1<=ns.length; omega,by show ns.length<=7; omega,Ch (show (0:Int)<=0 by omega) (by show (0:Int)<(ns.length:Int); omega)⟩
 refine ⟨_,hDT,λm hm n hn=>?_⟩;obtain ⟨k,t3,e3,h3,k0,k1⟩:=fu hm (QF m) (n:=(ns.length:Int)) (by omega) (by omega)
 obtain ⟨k,rfl⟩:=wD k0;obtain ⟨v,u,e4,_,hv,hb⟩:=Ct' hm hgt n hn 4 (Lg' 4) k t3 (by show k<ns.length; omega) h3
 have hI:ol v:=(ex' hgt n).1 t3 (k:Int) ((4:Nat):Int) (v,u) e4;refine ⟨v,?_,hv,hb,hI⟩;unfold Eo;rw [e1];simp only [KY'];rw [show wr .i64 (1+(x:Int))=((x+1:Nat):Int) by rw [aV,dZ (by omega) (by omega)]; omega]
 rw [show Jw t1 ((x+1:Nat):Int)=some (ay.mk ns 0,t2) from e2]
 simp only [KY'];rw [e3];simp only [KY'];have e4':Po n t3 (ay.mk ns 0) (k:Int) 4=some (v,u):=e4;rw [e4'];rfl
section
variable {L:List Int}{T:ay}
theorem uM' (hL:L.length<=4194304)(hT:DT T){s:aA}(hs:OS L s)(m:Nat)(hm:m<=4) :
 ∃ a t,iter (KE T) ((m:Int).toNat+2) ((m:Int),s,([],[],false))=some (t,(a,[],false))/\OS L t/\a.length=m/\a.all (bf T.aj.length)=true:=by
 have h1:=hT.one;have h7:=hT.len;obtain ⟨g,u,e,hu,i1,i2⟩:=Af (γ:=List Int) (L:=L) (step:=KE T) (λg n s=>(n,s,(g,([]:List Int),false))) (λg s=>(s,(g,([]:List Int),false))) (λj g=>g.length=j/\g.all (bf T.aj.length)=true) m
  (λj n g s hj hn hI hs=>by
    obtain ⟨x,t,e,ht,x0,x1⟩:=fu hL hs (n:=(T.aj.length:Int)) (by omega) (by omega)
    refine ⟨g++[x],t,?_,ht,by simp [hI.1],by rw [Lv',hI.2]; simp only [LE',Mf',Ma',LQ']; exact Ch x0 x1⟩
    unfold KE;simp only;rw [show decide (0<((n+1:Nat):Int))=true from decide_eq_true (by omega),e]
    simp only [cond_true,KY'];rw [dX (by simp only [Ld',Lh']; have:=hI.1; omega),show wr .i64 (((n+1:Nat):Int)-1)=(n:Int) by rw [aV,dZ (by omega) (by omega)]; omega]
    rfl) (λg s=>by
    unfold KE;rfl) m 0 ((m:Int).toNat+2) [] s (by omega) (by omega) ⟨rfl,rfl⟩ hs
 exact ⟨g,u,e,hu,by omega,i2⟩
theorem vG' (hL:L.length<=4194304)(hT:DT T){s:aA}(hs:OS L s)(p:List Int)(m:Nat)(hm:m<=4) :
 ∃ a t,iter (Jh T) ((m:Int).toNat+2) ((m:Int),s,(p,[],false))=some (t,(p,a,false))/\OS L t/\a.length=m/\a.all (bf T.aj.length)=true:=by
 have h1:=hT.one;have h7:=hT.len;obtain ⟨g,u,e,hu,i1,i2⟩:=Af (γ:=List Int) (L:=L) (step:=Jh T) (λg n s=>(n,s,(p,g,false))) (λg s=>(s,(p,g,false))) (λj g=>g.length=j/\g.all (bf T.aj.length)=true) m
  (λj n g s hj hn hI hs=>by
    obtain ⟨x,t,e,ht,x0,x1⟩:=fu hL hs (n:=(T.aj.length:Int)) (by omega) (by omega)
    refine ⟨g++[x],t,?_,ht,by simp [hI.1],by rw [Lv',hI.2]; simp only [LE',Mf',Ma',LQ']; exact Ch x0 x1⟩
    unfold Jh;simp only;rw [show decide (0<((n+1:Nat):Int))=true from decide_eq_true (by omega),e]
    simp only [cond_true,KY'];rw [dX (by simp only [Ld',Lh']; have:=hI.1; omega),show wr .i64 (((n+1:Nat):Int)-1)=(n:Int) by rw [aV,dZ (by omega) (by omega)]; omega]
    rfl) (λg s=>by
    unfold Jh;rfl) m 0 ((m:Int).toNat+2) [] s (by omega) (by omega) ⟨rfl,rfl⟩ hs
 exact ⟨g,u,e,hu,by omega,i2⟩
structure DG (T:ay)(g:ax):Prop where
 ix:mr T.aj.length g=true
 pos:g.Pos.length<=2
 neg:g.Neg.length<=2
 sp:fJ g.Pos=g.Pos
 sn:fJ g.Neg=g.Neg
theorem dH' (hL:L.length<=4194304)(hT:DT T){s:aA}(hs:OS L s):∃ g t,Ka s T=some (g,t)/\OS L t/\DG T g:=by
 obtain ⟨x,t1,e1,h1,x0,x1⟩:=fu hL hs (n:=2) (by omega) (by omega)
 obtain ⟨x,rfl⟩:=wD x0;obtain ⟨a,t2,e2,h2,la,ia⟩:=uM' hL hT h1 (x+1) (by omega)
 obtain ⟨y,t3,e3,h3,y0,y1⟩:=fu hL h2 (n:=3) (by omega) (by omega)
 obtain ⟨y,rfl⟩:=wD y0;obtain ⟨b,t4,e4,h4,lb,ib⟩:=vG' hL hT h3 a y (by omega)
 obtain ⟨z,t5,e5,h5,z0,z1⟩:=fu hL h4 (n:=8) (by omega) (by omega)
 have sa:=FD a;have sb:=FD b;refine ⟨ax.mk (fJ a) (fJ b) (z==1),t5,?_,h5,?_,by show (fJ a).length<=2; omega,by show (fJ b).length<=2; omega,QI a,QI b⟩
 ·unfold Ka;rw [e1];simp only [KY'];rw [show wr .i64 (1+(x:Int))=((x+1:Nat):Int) by rw [aV,dZ (by omega) (by omega)]; omega,e2]
  simp only [KY'];rw [e3];simp only [KY'];rw [e4];simp only [KY'];rw [e5];simp only [KY'];rw [DU' a b _ (by omega) (by omega)]
  rfl
 ·show mr T.aj.length (ax.mk (fJ a) (fJ b) (z==1))=true;unfold mr;simp only [KD,ia,ib,Bool.and_self]
end
def DL (l:List Val):Prop:=∀ x∈l,DI x
def DE (l:List aD):Prop:=∀ e∈l,∀ w∈vg e,DI w
theorem Cs {v:Val}(h:ol v)(hk:DL v.ai)(he:DE v.aW):DI v:=⟨v,h,λw hw=>(Lo'.1 hw).elim (hk w) λhw=>by
 obtain ⟨e,e1,e2⟩:=Ng'.1 hw;exact he e e1 w e2⟩
theorem nI' {v:Val}(h:DI v):DL v.ai:=λ_ hx=>h.part (LN' _ hx)
theorem BQ' {v:Val}(h:DI v):DE v.aW:=λe he _ hw=>h.part (LT' _ (Ng'.2 ⟨e,he,hw⟩))
theorem yo {v w:Val}(h1:w.af=v.af)(h2:w.bn=v.bn)(h3:w.ai=v.ai)(h4:w.aW=v.aW)(h:DI v):DI w :=
 Cs (Sz h1 h2 h.iok) (by rw [h3]; exact nI' h) (by rw [h4]; exact BQ' h)
theorem wu:DL []:=λ_ h=>by cases h
theorem zL:DE []:=λ_ h=>by cases h
theorem u7 {a b:List Val}(h:DL a)(k:DL b):DL (a++b):=λx hx=>(Lo'.1 hx).elim (h x) (k x)
theorem vH {a:Val}(h:DI a):DL [a]:=λx hx=>by rw [Lp'.1 hx]; exact h
theorem Rf {a b:List aD}(h:DE a)(k:DE b):DE (a++b):=λx hx=>(Lo'.1 hx).elim (h x) (k x)
theorem Un {a:aD}(h:∀ w∈vg a,DI w):DE [a]:=λx hx=>by rw [Lp'.1 hx]; exact h
theorem XM {a:List Val}{f:Bool}{r:Val}(h:DL a)(k:f=true\/DI r):∀ w∈vg (aD.mk a f r),DI w:=λw hw=>by
 rcases Lo'.1 hw with hw | hw
 ·exact h w hw
 ·rcases k with k | k
  ·subst k; cases hw
  ·change w∈(if f=true then ([]:List Val) else [r]) at hw
   cases f with
   | true=>cases hw
   | false=>rw [Lp'.1 hw]; exact k
theorem Q7 {α:Type}(xs:List α)(a b:Int):ah (cut xs a b) λys=>∀ y∈ys,y∈xs:=λys h y hy=>by
 unfold cut at h;split at h
 ·cases h; exact List.mem_of_mem_take (List.mem_of_mem_drop hy)
 ·cases h
theorem bE' {α:Type}(xs:List α)(a:Int):ah (ak xs a) λy=>y∈xs:=λy h=>by
 unfold ak at h;split at h
 ·exact Lj' h
 ·cases h
theorem tR' {α:Type}(xs:List α)(a:Nat):ah xs[a]? λy=>y∈xs:=λ_ h=>Lj' h
theorem ko' (l:List Val):ah (Av l) λr=>r=l:=ah.bind ah.any λ_ _=>ah.ret rfl
theorem H6 {k n:Int}{s:ByteArray}{ks:List Key}{l:List ByteArray}(h:k=1->i64 n):DI (Val.mk k n s [] ks [] l):=Cs h wu zL
def V2 (r:Val×aA):Prop:=DI r.1
theorem Dt:ah qB DI:=ah.ret (H6 λh=>by cases h)
theorem bi' {n:Int}(h:i64 n):ah (KY n) DI:=ah.ret (H6 λ_=>h)
theorem Xk (s:ByteArray):ah (CY s) DI:=ah.ret (H6 λh=>by cases h)
theorem Yr (s:ByteArray):ah (Bq s) DI:=ah.ret (H6 λh=>by cases h)
theorem eP' (n:Int):ah (EF n) DI:=ah.ret (H6 λh=>by cases h)
theorem eU' {l:List Val}(h:DL l):ah (Aj l) DI:=ah.bind (ko' l) λr hr=>ah.ret (by subst hr; exact Cs (λh=>by cases h) h zL)
theorem gY' {a b:Val}(h:DI a)(k:DI b):ah (FN a b) DI:=ah.ret (Cs (λh=>by cases h) (u7 (vH h) (vH k)) zL)
theorem JP (s:aA):ah (rO s) V2:=by
 unfold rO;refine ah.bind ah.any λr _=>ah.cond ?_ (ah.cond ?_ (ah.cond ?_ (ah.cond ?_ (ah.cond ?_ ?_))))
 ·exact ah.bind (aP' _) λx hx=>ah.bind (bi' hx) λv hv=>ah.ret hv
 ·exact ah.bind ah.any λx _=>ah.bind (Xk _) λv hv=>ah.ret hv
 ·exact ah.bind ah.any λx _=>ah.bind (Yr _) λv hv=>ah.ret hv
 ·exact ah.bind ah.any λx _=>ah.bind (eP' _) λv hv=>ah.ret hv
 ·exact ah.bind Dt λv hv=>ah.ret hv
 ·exact ah.bind (eU' wu) λv hv=>ah.ret hv
abbrev TV:Type:=Int×Int×ByteArray×(List Val)×(List Key)×(List aD)×(List ByteArray)
abbrev ve (t:TV):Val:=Val.mk t.1 t.2.1 t.2.2.1 t.2.2.2.1 t.2.2.2.2.1 t.2.2.2.2.2.1 t.2.2.2.2.2.2
theorem Dk:DI (ve (0,0,(⟨#[]⟩:ByteArray),[],[],[],[])):=H6 λh=>by cases h
theorem jh' (ks:List Key)(l:List Val)(hl:DL l):ah (vJ ks l) λr=>DI r.1:=by
 unfold vJ;refine ah.cond (ah.ret Dk) ?_;refine ah.bind (P:=λb=>match b with | .inl x=>DI (ve x) | .inr y=>DI (ve y.2)) (ah.iter (J:=λx=>DI (ve x.2)) (λs hJ=>?_) _ _ Dk) λb hb=>ah.aL (λx hx=>?_) (λy hy=>ah.ret ?_)
 ·unfold Aq;exact ah.cond (ah.bind ah.any λ_ _=>ah.bind ah.any λ_ _=>ah.cond (ah.ret Dk) (ah.ret hJ)) (ah.ret hJ)
 ·subst hx;refine ah.bind (P:=λb=>match b with | .inl x=>DI (ve x.2) | .inr y=>DI (ve y.2.1)) (ah.iter (J:=λx=>DI (ve x.2.1)/\x.2.2.1=8/\DL x.2.2.2.2.2.1/\x.2.2.2.2.2.2.2.1=[]) (λs hJ=>?_) _ _ ⟨hb,rfl,wu,rfl⟩) λb hb=>ah.aL (λx hx=>ah.ret ?_) (λy hy=>ah.ret ?_)
  ·unfold yD;obtain ⟨j1,j2,j3,j4⟩:=hJ;refine ah.cond (ah.bind ah.any λ_ _=>ah.bind ah.any λ_ _=>ah.cond (ah.ret Dk) ?_) (ah.ret ?_)
   ·refine ah.bind ah.any λ_ _=>ah.bind ah.any λ_ _=>ah.bind (Q7 _ _ _) λy hy=>ah.bind (ko' _) λr hr=>ah.bind ah.any λ_ _=>ah.bind ah.any λ_ _=>ah.bind ah.any λ_ _=>ah.bind ah.any λ_ _=>ah.bind (bE' _ _) λe he=>ah.bind ah.any λ_ _=>ah.bind (Q7 _ _ _) λz hz=>ah.bind ah.any λ_ _=>ah.ret ⟨j1,j2,?_,j4⟩;subst hr;exact u7 (u7 (λx hx=>j3 x (hy x hx)) (vH (hl e he))) λx hx=>j3 x (hz x hx)
   ·exact Cs (λh=>by have h:s.2.2.1=1:=h; omega) j3 (by show DE s.2.2.2.2.2.2.2.1; rw [j4]; exact zL)
  ·subst hx; exact hb
  ·subst hy; exact hb
 ·subst hy; exact hb
theorem Ak' (n:Nat)(l:List aD)(hl:DE l):ah (HV n l) DE:=by
 unfold HV;refine ah.bind (ah.iter (J:=λx=>DE x.1) (λs hJ=>?_) _ _ zL) λr hr=>ah.ret hr;unfold zN;refine ah.cond (ah.bind (P:=DE) ?_ λr hr=>ah.ret hr) (ah.ret hJ);refine ah.bind ah.any λ_ _=>ah.bind ah.any λ_ _=>ah.cond (ah.ret hJ) ?_;exact ah.bind (Q7 _ _ _) λy hy=>ah.bind ah.any λ_ _=>ah.bind ah.any λ_ _=>ah.bind (tR' _ _) λe he=>ah.bind ah.any λ_ _=>ah.bind (Q7 _ _ _) λz hz=>ah.bind ah.any λ_ _ =>
  ah.ret (Rf (Rf (λx hx=>hJ x (hy x hx)) (Un (hl e he))) λx hx=>hJ x (hz x hx))
theorem bg' (n:Nat)(a:Int)(l:List aD)(hl:DE l):ah (yJ n a l) λr=>DI r.1:=by
 unfold yJ;refine ah.bind ah.any λ_ _=>ah.cond (ah.ret Dk) ?_;refine ah.bind (P:=λb=>match b with | .inl x=>True | .inr y=>DI (ve y.2)) (ah.iter (J:=λx=>DI (ve x.2)) (λs hJ=>?_) _ _ Dk) λb hb=>ah.aL (λx hx=>?_) (λy hy=>ah.ret ?_)
 ·unfold Az;exact ah.cond (ah.bind ah.any λ_ _=>ah.bind ah.any λ_ _=>ah.bind ah.any λ_ _=>ah.cond (ah.ret Dk) (ah.ret hJ)) (ah.ret trivial)
 ·exact ah.bind (Ak' n l hl) λr hr=>ah.ret (Cs (λh=>by cases h) wu hr)
 ·subst hy; exact hb
theorem cJ':∀ n:Nat,(∀ s h,ah ((fA n).1 s h) V2)/\(∀ s h,ah ((fA n).2.1 s h) V2)/\∀ s a h,ah ((fA n).2.2 s a h) λr=>∀ w∈vg r.1,DI w
 | 0=>⟨λ_ _=>ah.none,λ_ _=>ah.none,λ_ _ _=>ah.none⟩
 | n+1=>by
   obtain ⟨i1,i2,i3⟩:=cJ' n;refine ⟨λs h=>?_,λs h=>?_,λs a h=>?_⟩
   ·show ah (CW n (fA n).1 (fA n).2.1 (fA n).2.2 s h) V2;unfold CW;exact ah.bind (i2 s h) λr hr=>ah.bind ah.any λl _=>ah.ret (yo (v:=r.1) rfl rfl rfl rfl hr)
   ·show ah (yS n (fA n).1 (fA n).2.1 (fA n).2.2 s h) V2;unfold yS;refine ah.cond (ah.bind (JP _) λr hr=>ah.ret hr) (ah.bind ah.any λr _=>?_);refine ah.bind (P:=λb=>match b with | .inl _=>True | .inr y=>DI (ve y.2)) ?_ λb hb=>ah.aL (λx hx=>ah.bind (JP _) λr hr=>ah.ret hr) (λy hy=>ah.ret ?_)
    ·refine ah.cond ?_ (ah.cond ?_ (ah.cond ?_ (ah.cond ?_ (ah.ret trivial))))
     ·refine ah.bind ah.any λ_ _=>ah.bind (P:=λx=>DL x.1) (ah.iter (J:=λx=>DL x.1) (λs hJ=>?_) _ _ wu) λb hb=>ah.bind (eU' hb) λv hv=>ah.ret (yo (v:=v) rfl rfl rfl rfl hv);unfold Kh;exact ah.cond (ah.bind (i1 _ _) λr hr=>ah.bind ah.any λ_ _=>ah.ret (u7 hJ (vH hr))) (ah.ret hJ)
     ·refine ah.bind Dt λr9 h9=>ah.bind ah.any λ_ _=>ah.bind (P:=λx=>DI x.2) (ah.cond (ah.bind (i1 _ _) λr hr=>ah.bind Dt λq hq=>ah.bind (gY' hr hq) λv hv=>ah.ret hv) (ah.ret h9)) λb hb=>ah.bind ah.any λ_ _=>ah.bind (i1 _ _) λr hr=>ah.bind (gY' hr (yo (v:=b.2) rfl rfl rfl rfl hb)) λv hv=>ah.ret (yo (v:=v) rfl rfl rfl rfl hv)
     ·refine ah.bind ah.any λ_ _=>ah.bind (P:=λx=>DL x.2.1) (ah.iter (J:=λx=>DL x.2.1) (λs hJ=>?_) _ _ wu) λb hb=>ah.bind (jh' _ _ hb) λv hv=>ah.cond (ah.ret (yo (v:=v.1) rfl rfl rfl rfl hv)) (ah.ret trivial);unfold Le;exact ah.cond (ah.bind ah.any λ_ _=>ah.bind ah.any λ_ _=>ah.bind (i1 _ _) λr hr=>ah.bind ah.any λ_ _=>ah.ret (u7 hJ (vH hr))) (ah.ret hJ)
     ·refine ah.bind ah.any λ_ _=>ah.bind ah.any λ_ _=>ah.bind (P:=λx=>DE x.1) (ah.iter (J:=λx=>DE x.1) (λs hJ=>?_) _ _ zL) λb hb=>ah.bind (bg' _ _ _ hb) λv hv=>ah.cond (ah.ret (yo (v:=v.1) rfl rfl rfl rfl hv)) (ah.ret trivial);unfold LJ;exact ah.cond (ah.bind (i3 _ _ _) λr hr=>ah.bind ah.any λ_ _=>ah.ret (Rf hJ (Un hr))) (ah.ret hJ)
    ·subst hy; exact hb
   ·show ah (Md n (fA n).1 (fA n).2.1 (fA n).2.2 s a h) _;unfold Md;refine ah.bind (P:=λx=>DL x.2.1) (ah.iter (J:=λx=>DL x.2.2.1) (λs hJ=>?_) _ _ wu) λb hb=>ah.bind ah.any λ_ _=>ah.cond (ah.ret (XM hb (.inl rfl))) (ah.bind (i1 _ _) λr hr=>ah.ret (XM hb (.inr hr)));unfold Lh;exact ah.cond (ah.bind (i1 _ _) λr hr=>ah.bind ah.any λ_ _=>ah.ret (u7 hJ (vH hr))) (ah.ret hJ)
theorem zQ' (t:ay)(x:aF)(k:Nat)(v:Val)(hv:DI v):ah (iter (uZ t x) k (0,v)) DI:=by refine ah.iter (J:=λs=>DI s.2) (λs hJ=>?_) k (0,v) hv;unfold uZ;refine ah.cond (ah.bind (P:=DI) ?_ λw hw=>ah.ret hw) (ah.ret hJ);refine ah.bind ah.any λ_ _=>ah.bind ah.any λ_ _=>ah.cond ?_ (ah.ret hJ);exact ah.bind ah.any λ_ _=>ah.bind ah.any λ_ _=>ah.bind ah.any λ_ _=>ah.bind ah.any λ_ _=>ah.bind ah.any λ_ _=>ah.ret (yo (v:=s.2) rfl rfl rfl rfl hJ)
theorem jq' {t:ay}(hT:GT t):∀ n:Nat,(∀ s k h,ah ((bM n).1 s t k h) V2)/\(∀ s k h,ah ((bM n).2.1 s t k h) V2) /\
 (∀ s x h,ah ((bM n).2.2.1 s t x h) V2)/\∀ s x h,ah ((bM n).2.2.2 s t x h) V2
 | 0=>⟨λ_ _ _=>ah.none,λ_ _ _=>ah.none,λ_ _ _=>ah.none,λ_ _ _=>ah.none⟩
 | n+1=>by
   obtain ⟨i1,i2,i3,i4⟩:=jq' hT n;refine ⟨λs k h=>?_,λs k h=>?_,λs x h=>?_,λs x h=>?_⟩
   ·show ah (Cu n (bM n).1 (bM n).2.1 (bM n).2.2.1 (bM n).2.2.2 s t k h) V2;unfold Cu;exact ah.bind (i2 s k h) λr hr=>ah.bind ah.any λ_ _=>ah.cond (ah.bind (JP _) λq hq=>ah.ret hq) (ah.ret hr)
   ·show ah (xQ n (bM n).1 (bM n).2.1 (bM n).2.2.1 (bM n).2.2.2 s t k h) V2;unfold xQ;refine ah.bind ah.any λ_ _=>ah.bind ah.any λ_ _=>ah.cond (ah.bind (JP _) λr hr=>ah.ret hr) ?_;refine ah.bind (bE' _ _) λx hx=>?_;refine ah.cond ?_ (ah.cond (ah.bind (Yr _) λv hv=>ah.ret hv) (ah.cond (ah.bind ah.any λ_ _=>ah.bind (Yr _) λv hv=>ah.ret hv) (ah.cond (ah.bind (Xk _) λv hv=>ah.ret hv)
     (ah.cond (ah.bind ah.any λ_ _=>ah.bind (Xk _) λv hv=>ah.ret hv) (ah.cond (ah.bind ah.any λ_ _=>ah.bind (eP' _) λv hv=>ah.ret hv) (ah.cond (ah.bind Dt λv hv=>ah.ret hv) ?_))))))
    ·obtain ⟨j,hj,rfl⟩:=LW' hx;have hg:=(hT.nodes j _ (Lb' hj)).gu;refine ah.bind ah.any λd5 _=>ah.bind ah.any λd6 _=>ah.bind ah.any λr _=>ah.bind (P:=λ_=>True) ah.any λ_ _=>ah.bind (P:=i64) (λy hy=>?_) λy hy=>ah.bind (bi' hy) λv hv=>ah.ret hv;have hm:=Lj' hy;simp only [Lq',NJ',or_false] at hm;rcases hm with rfl | rfl | rfl
     ·exact ⟨hg.1,hg.2.1⟩
     ·exact ⟨hg.2.2.1,hg.2.2.2⟩
     ·generalize t.aj[j].Lo+wr .i64 (d5-d6)=z;unfold i64 wr;rw [IntKind.wrap_i64];omega
    ·refine ah.bind ah.any λ_ _=>ah.cond ?_ (ah.cond ?_ (ah.cond ?_ (ah.cond ?_ (ah.cond ?_ (ah.cond ?_ ?_)))))
     ·refine ah.bind (P:=λb=>DL b.2.2.2.2.1/\b.2.2.2.2.2.2.1=[]) (ah.iter (J:=λs=>DL s.2.2.2.2.2.1/\s.2.2.2.2.2.2.2.1=[]) (λs hJ=>?_) _ _ ⟨wu,rfl⟩) λb hb=>ah.bind (P:=λy=>y.1≠1/\DL y.2.2.2.1/\y.2.2.2.2.2.1=[]) ?_ λy hy=>ah.ret (Cs (λh=>absurd h hy.1) hy.2.1 (by show DE y.2.2.2.2.2.1; rw [hy.2.2]; exact zL))
      ·unfold ED;exact ah.cond (ah.bind ah.any λ_ _=>ah.bind (i1 _ _ _) λr hr=>ah.bind ah.any λ_ _=>ah.ret ⟨u7 hJ.1 (vH hr),hJ.2⟩) (ah.ret hJ)
      ·refine ah.cond (ah.bind ah.any λ_ _=>ah.bind ah.any λ_ _=>ah.cond (ah.bind Dt λr hr=>ah.bind ah.any λ_ _=>ah.bind ah.any λ_ _=>ah.ret ⟨(by decide:(7:Int)≠1),λx hx=>?_,hb.2⟩) (ah.ret ⟨(by decide:(7:Int)≠1),hb⟩)) (ah.ret ⟨(by decide:(6:Int)≠1),hb⟩)
       rcases List.mem_or_eq_of_mem_set hx with hx | hx
       ·exact hb.1 x hx
       ·rw [hx]; exact hr
     ·exact ah.bind (i4 _ _ _) λr hr=>ah.ret hr
     ·exact ah.bind (i3 _ _ _) λr hr=>ah.ret hr
     ·exact ah.bind ah.any λ_ _=>ah.bind ah.any λ_ _=>ah.bind (i2 _ _ _) λr hr=>ah.ret hr
     ·exact ah.bind ah.any λ_ _=>ah.bind ah.any λ_ _=>ah.bind (i2 _ _ _) λr hr=>ah.bind (zQ' t x _ _ hr) λw hw=>ah.ret hw
     ·refine ah.bind (JP _) λr hr=>ah.bind (P:=DI) ?_ λw hw=>ah.ret hw;unfold Lr;exact ah.bind ah.any λ_ _=>ah.ret (yo (v:=r.1) rfl rfl rfl rfl hr)
     ·exact ah.bind ((cJ' n).1 _ _) λr hr=>ah.ret hr
   ·show ah (Co n (bM n).1 (bM n).2.1 (bM n).2.2.1 (bM n).2.2.2 s t x h) V2;unfold Co;refine ah.bind ah.any λ_ _=>ah.bind (P:=λx=>DE x.1) (ah.iter (J:=λx=>DE x.1) (λs hJ=>?_) _ _ zL) λb hb=>ah.bind (bg' _ _ _ hb) λr hr=>ah.cond (ah.bind Dt λv hv=>ah.ret hv) (ah.ret hr);unfold Fj;refine ah.cond (ah.bind (P:=λx=>DL x.2.1) (ah.iter (J:=λx=>DL x.2.2.1) (λs hJ=>?_) _ _ wu) λb hb=>ah.bind ah.any λ_ _=>ah.bind (P:=λx=>DL x.2.1/\(x.2.2.1=true\/DI (ve x.2.2.2))) (ah.cond (ah.ret ⟨hb,.inl rfl⟩) (ah.bind ah.any λ_ _=>ah.bind (i1 _ _ _) λr hr=>ah.ret ⟨hb,.inr (yo (v:=r.1) rfl rfl rfl rfl hr)⟩)) λq hq=>ah.bind ah.any λ_ _=>ah.ret (Rf hJ (Un (XM hq.1 hq.2)))) (ah.ret hJ);unfold CS;exact ah.cond (ah.bind ah.any λ_ _=>ah.bind (i1 _ _ _) λr hr=>ah.bind ah.any λ_ _=>ah.ret (u7 hJ (vH hr))) (ah.ret hJ)
   ·show ah (Cz n (bM n).1 (bM n).2.1 (bM n).2.2.1 (bM n).2.2.2 s t x h) V2;unfold Cz;refine ah.bind (P:=λx=>DL x.2.1) (ah.iter (J:=λx=>DL x.2.1) (λs hJ=>?_) _ _ wu) λb hb=>ah.bind ah.any λ_ _=>ah.bind (P:=λx=>DL x.2.1) ?_ λq hq=>ah.bind (jh' _ _ hq) λr hr=>ah.cond (ah.bind Dt λv hv=>ah.ret hv) (ah.ret hr)
    ·unfold GV;exact ah.cond (ah.bind (P:=λx=>DL x.2.1) (ah.bind ah.any λ_ _=>ah.cond (ah.ret hJ) (ah.bind ah.any λ_ _=>ah.bind ah.any λ_ _=>ah.bind ah.any λ_ _=>ah.bind (i1 _ _ _) λr hr=>ah.bind ah.any λ_ _=>ah.ret (u7 hJ (vH hr)))) λq hq=>ah.ret hq) (ah.ret hJ)
    ·exact ah.cond (ah.bind ah.any λ_ _=>ah.bind ah.any λ_ _=>ah.cond (ah.bind (i1 _ _ _) λr hr=>ah.bind ah.any λ_ _=>ah.ret (u7 hb (vH hr))) (ah.cond (ah.bind (i1 _ _ _) λr hr=>ah.bind ah.any λ_ _=>ah.ret (u7 hb (vH hr))) ah.none)) (ah.ret hb)
theorem DS' (n:Nat)(l m:List Int):ah (Eo n l m) λr=>GT r.1->DI r.2:=by unfold Eo;exact ah.bind ah.any λ_ _=>ah.bind ah.any λt _=>ah.bind ah.any λ_ _=>ah.bind (P:=λr:Val×aA=>GT t.1->DI r.1) (λr hr hT=>(jq' hT n).1 _ _ _ r hr) λr hr=>ah.ret hr
def Yt:Option Bool->Bool
 | some true=>true
 | _=>false
theorem uy' {o:Option Bool}(h:Yt o=true):o=some true:=by
 unfold Yt at h;split at h
 ·rfl
 ·cases h
def UL (k n:Nat):Nat:=Nat.rec (motive:=λ_=>Nat) n (λ_ ih=>Nat.succ ih) k
theorem io' (n:Nat):∀ k,UL k n=n+k
 | 0=>rfl
 | k+1=>by show Nat.succ (UL k n)=_;rw [io' n k];rfl
theorem xI' (n:Nat):Yt (CP (UL 3000 n))=true:=by kernel_rfl
theorem gg' {n:Nat}(h:3000<=n):CP n=some true:=by have:=uy' (xI' (n-3000));rw [io',Nat.sub_add_cancel h] at this;exact this
section
variable {L:List Int}{T:ay}
theorem ep' (hL:L.length<=4194304)(hT:DT T):∀ (m:Nat) (acc:List ax) (s:aA) (k:Nat),m<=4->acc.length+m<=4->OS L s->m+1<=k->(∀ g∈acc,DG T g) ->
 ∃ gs t,iter (Oz T) k (acc,(m:Int),s)=some (gs,t)/\gs.length<=4/\∀ g∈gs,DG T g
 | 0,acc,s,k,_,ha,_,hk,h=>by
   obtain ⟨k,rfl⟩:∃ q,k=q+1:=⟨k-1,by omega⟩
   exact ⟨acc,s,rfl,by omega,h⟩
 | m+1,acc,s,k,hm,ha,hs,hk,h=>by
   obtain ⟨k,rfl⟩:∃ q,k=q+1:=⟨k-1,by omega⟩
   obtain ⟨g,t,e1,e2,e3⟩:=dH' hL hT hs;have hst:Oz T (acc,((m+1:Nat):Int),s)=some (.next (acc++[g],(m:Int),t)):=by
    unfold Oz;simp only;rw [decide_eq_true (show (0:Int)<((m+1:Nat):Int) by omega),e1]
    simp only [cond_true,KY',aV];rw [dX (by simp only [Ld',Lh']; omega),dZ (by omega) (by omega)]
    simp only [KY'];rw [show ((m+1:Nat):Int)-1=(m:Int) by omega]
   obtain ⟨gs,t',q1,q2,q3⟩:=ep' hL hT m (acc++[g]) t k (by omega) (by simp; omega) e2 (by omega) (λy hy=>by
    rcases Lo'.1 hy with hy | hy
    ·exact h y hy
    ·rw [Lp'.1 hy]; exact e3)
   exact ⟨gs,t',by simp only [iter,hst,KY']; exact q1,q2,q3⟩
theorem tX' (hL:L.length<=4194304)(hT:DT T):∃ gs,QO T L=some gs/\gs.length<=4/\∀ g∈gs,DG T g:=by
 obtain ⟨x,t1,e1,h1,x0,x1⟩:=fu hL (QF L) (n:=5) (by omega) (by omega)
 obtain ⟨x,rfl⟩:=wD x0;obtain ⟨gs,t,q1,q2,q3⟩:=ep' hL hT x [] t1 (x+2) (by omega) (by simp; omega) h1 (by omega) (λg hg=>by cases hg)
 refine ⟨gs,?_,q2,q3⟩;unfold QO;rw [e1];simp only [KY',Ln'];rw [q1];rfl
end
theorem vt' (l g h m:List Int):∃ n,Lj n l g h m=some true:=by
 cases hs:([l,g,h,m]:List (List Int)).all λx=>!decide (80<(x.length:Int)) with
 | false =>
   refine ⟨3000,?_⟩;unfold Lj;rw [aE' _ (by simp),hs]
   simp only [KY',NH',cond_true,gg' (Lg' 3000)]
 | true =>
   have hlen:l.length<=80/\g.length<=80/\h.length<=80/\m.length<=80:=by simp at hs;omega
   obtain ⟨T,hT,hv⟩:=vT' l (by omega)
   obtain ⟨x,t,e2,_,hx⟩:=dH' (L:=g) (by omega) hT (QF _)
   obtain ⟨gs,e3,g1,g2⟩:=tX' (L:=h) (T:=T) (by omega) hT
   have hall:∀ y∈gs++[x],DG T y:=λy hy=>by
    rcases Lo'.1 hy with hy | hy
    ·exact g2 y hy
    ·rw [Lp'.1 hy]; exact hx
   have hin:(gs++[x]).all (mr T.aj.length)=true:=Le'.2 λy hy=>(hall y hy).ix;have hsum:∀ y∈gs++[x],y.Pos.length+y.Neg.length<=10:=λy hy=>by have:=(hall y hy).pos;have:=(hall y hy).neg;omega
   have hG:SG (gs++[x]):=⟨by simp; omega,λy hy=>by have:=hsum y hy; omega⟩
   have h7:=hT.len;obtain ⟨c,hc⟩:=qo' hT.gt (by omega) hT.root hG hin hsum x (by simp)
   refine ⟨max c 200000000,?_⟩;obtain ⟨b,hb,hJ⟩:=hc (max c 200000000) (by omega)
   obtain ⟨v,e1,hV⟩:=hv m (by omega) (max c 200000000) (by omega)
   have hDI:DI v:=DS' _ _ _ _ e1 hT.gt;have haw:CP (max c 200000000)=some true:=gg' (by omega)
   generalize hn:max c 200000000=n at *;have hn2:200000000<=n:=by omega
   unfold Lj;rw [aE' _ (by simp),hs]
   simp only [KY',Mc',cond_false];rw [e1];simp only [KY'];rw [e2];simp only [KY'];rw [e3];simp only [KY'];rw [dX (by simp only [Ld',Lh']; omega)]
   simp only [KY'];rw [hb];simp only [KY'];cases b with
   | false=>simp only [NH',cond_true,haw,KY']
   | true =>
     have hvb:=hV.bulk;have JL':=hX' hT.gt hin (hJ rfl) (bD v) v (Lg' _) hV.ok (by omega) hDI
     simp only [Mc',cond_false];rw [dw,YU (step:=Qz n (T,v) (x,t) gs) (gs++[x]) (λ_=>true) false (λi y hy=>by
      have hi:i<(gs++[x]).length:=(La'.1 hy).1;have hm:=Lj' hy;have hys:=hsum y hm;have hl5:(gs++[x]).length<=5:=by simp; omega
      unfold Qz;simp only;rw [dn hi,aR hy];simp only [cond_true,KY',aV];rw [vw' hT.gt hT.root hV.ok (by omega) y (by omega) (by omega) n hn2,JL' y hm,bF i (by omega)]
      rfl) (by
      unfold Qz;simp)]
     have:(gs++[x]).all (λ_=>true)=true:=by simp
     rw [this];simp only [if_true,KY',aL,haw]
end Go.Pl
namespace Go.Proofs
open Go.Shelf
set_option maxRecDepth 100000
def Tryz.lay240_ren:Go.Shelf.Ren:=⟨λ| 6=>240 | 15=>182 | 14=>270 | 28=>228 | 29=>229 | 20=>288 | 21=>289 | 22=>290 | 23=>291 | 24=>292 | 25=>293 | 26=>294 | 27=>295 | 46=>315 | 47=>259 | 48=>260 | 49=>316 | 50=>317 | 57=>334 | n=>n,λ| 22=>33 | 24=>151 | 25=>152 | 3=>3 | 39=>211 | 0=>0 | 53=>251 | 55=>253 | 4=>4 | 46=>244 | 45=>243 | 50=>192 | 5=>5 | 9=>9 | 66=>284 | 70=>288 | 76=>307 | 77=>308 | n=>n,λ| n=>n⟩
theorem Tryz.lay240:Go.Proofs.SlLaysF0.n6 Tryz.prog Tryz.lay240_ren:={
 mixed:=by kernel_rfl
 f6:=⟨Tryz.f240.name,by decide,Tryz.func240.trans (congrArg some (by kernel_rfl))⟩
 f14:=⟨Tryz.f270.name,by decide,Tryz.func270.trans (congrArg some (by kernel_rfl))⟩
 f15:=Tryz.func182.trans (congrArg some (by kernel_rfl))
 f20:=⟨Tryz.f288.name,by decide,Tryz.func288.trans (congrArg some (by kernel_rfl))⟩
 f21:=⟨Tryz.f289.name,by decide,Tryz.func289.trans (congrArg some (by kernel_rfl))⟩
 f22:=⟨Tryz.f290.name,by decide,Tryz.func290.trans (congrArg some (by kernel_rfl))⟩
 f23:=⟨Tryz.f291.name,by decide,Tryz.func291.trans (congrArg some (by kernel_rfl))⟩
 f24:=⟨Tryz.f292.name,by decide,Tryz.func292.trans (congrArg some (by kernel_rfl))⟩
 f25:=⟨Tryz.f293.name,by decide,Tryz.func293.trans (congrArg some (by kernel_rfl))⟩
 f26:=⟨Tryz.f294.name,by decide,Tryz.func294.trans (congrArg some (by kernel_rfl))⟩
 f27:=⟨Tryz.f295.name,by decide,Tryz.func295.trans (congrArg some (by kernel_rfl))⟩
 f28:=Tryz.func228.trans (congrArg some (by kernel_rfl))
 f29:=Tryz.func229.trans (congrArg some (by kernel_rfl))
 f46:=⟨Tryz.f315.name,by decide,Tryz.func315.trans (congrArg some (by kernel_rfl))⟩
 f47:=Tryz.func259.trans (congrArg some (by kernel_rfl))
 f48:=Tryz.func260.trans (congrArg some (by kernel_rfl))
 f49:=⟨Tryz.f316.name,by decide,Tryz.func316.trans (congrArg some (by kernel_rfl))⟩
 f50:=⟨Tryz.f317.name,by decide,Tryz.func317.trans (congrArg some (by kernel_rfl))⟩
 f57:=⟨Tryz.f334.name,by decide,Tryz.func334.trans (congrArg some (by kernel_rfl))⟩
 t0:=Tryz.underlying0
 a0:=Tryz.isAgg0
 z0:=Tryz.sizeOf0
 v0:=Tryz.zeroValue0
 t3:=Tryz.underlying3
 a3:=Tryz.isAgg3
 z3:=Tryz.sizeOf3
 v3:=Tryz.zeroValue3
 t4:=Tryz.underlying4
 a4:=Tryz.isAgg4
 z4:=Tryz.sizeOf4
 v4:=Tryz.zeroValue4
 t5:=Tryz.underlying5
 a5:=Tryz.isAgg5
 z5:=Tryz.sizeOf5
 v5:=Tryz.zeroValue5
 t9:=Tryz.underlying9
 a9:=Tryz.isAgg9
 z9:=Tryz.sizeOf9
 v9:=Tryz.zeroValue9
 t22:=Tryz.underlying33
 a22:=Tryz.isAgg33
 z22:=Tryz.sizeOf33
 v22:=Tryz.zeroValue33
 t25:=Tryz.underlying152
 a25:=Tryz.isAgg152
 z25:=Tryz.sizeOf152
 v25:=Tryz.zeroValue152
 t39:=Tryz.underlying211
 a39:=Tryz.isAgg211
 z39:=Tryz.sizeOf211
 v39:=Tryz.zeroValue211
 t45:=Tryz.underlying243
 a45:=Tryz.isAgg243
 z45:=Tryz.sizeOf243
 v45:=Tryz.zeroValue243
 t46:=Tryz.underlying244
 a46:=Tryz.isAgg244
 z46:=Tryz.sizeOf244
 v46:=Tryz.zeroValue244
 t50:=Tryz.underlying192
 a50:=Tryz.isAgg192
 z50:=Tryz.sizeOf192
 v50:=Tryz.zeroValue192
 t53:=Tryz.underlying251
 a53:=Tryz.isAgg251
 z53:=Tryz.sizeOf251
 v53:=Tryz.zeroValue251
 t55:=Tryz.underlying253
 a55:=Tryz.isAgg253
 z55:=Tryz.sizeOf253
 v55:=Tryz.zeroValue253
 t66:=Tryz.underlying284
 a66:=Tryz.isAgg284
 z66:=Tryz.sizeOf284
 v66:=Tryz.zeroValue284
 t70:=Tryz.underlying288
 a70:=Tryz.isAgg288
 z70:=Tryz.sizeOf288
 v70:=Tryz.zeroValue288
 t76:=Tryz.underlying307
 a76:=Tryz.isAgg307
 z76:=Tryz.sizeOf307
 v76:=Tryz.zeroValue307
 t77:=Tryz.underlying308
 a77:=Tryz.isAgg308
 z77:=Tryz.sizeOf308
 v77:=Tryz.zeroValue308 }
def Tryz.lay267_ren:Go.Shelf.Ren:=⟨λ| 6=>267 | 15=>182 | 14=>286 | 28=>228 | 29=>229 | 20=>307 | 21=>308 | 22=>309 | 23=>310 | 24=>311 | 25=>312 | 26=>313 | 27=>314 | 46=>331 | 47=>259 | 48=>260 | 49=>332 | 50=>333 | 57=>349 | n=>n,λ| 22=>142 | 24=>189 | 25=>293 | 3=>3 | 39=>211 | 0=>0 | 53=>251 | 55=>253 | 4=>4 | 46=>244 | 45=>243 | 50=>192 | 5=>5 | 9=>9 | 66=>284 | 70=>288 | 76=>307 | 77=>308 | n=>n,λ| n=>n⟩
theorem Tryz.lay267:Go.Proofs.SlLaysF0.n6 Tryz.prog Tryz.lay267_ren:={
 mixed:=by kernel_rfl
 f6:=⟨Tryz.f267.name,by decide,Tryz.func267.trans (congrArg some (by kernel_rfl))⟩
 f14:=⟨Tryz.f286.name,by decide,Tryz.func286.trans (congrArg some (by kernel_rfl))⟩
 f15:=Tryz.func182.trans (congrArg some (by kernel_rfl))
 f20:=⟨Tryz.f307.name,by decide,Tryz.func307.trans (congrArg some (by kernel_rfl))⟩
 f21:=⟨Tryz.f308.name,by decide,Tryz.func308.trans (congrArg some (by kernel_rfl))⟩
 f22:=⟨Tryz.f309.name,by decide,Tryz.func309.trans (congrArg some (by kernel_rfl))⟩
 f23:=⟨Tryz.f310.name,by decide,Tryz.func310.trans (congrArg some (by kernel_rfl))⟩
 f24:=⟨Tryz.f311.name,by decide,Tryz.func311.trans (congrArg some (by kernel_rfl))⟩
 f25:=⟨Tryz.f312.name,by decide,Tryz.func312.trans (congrArg some (by kernel_rfl))⟩
 f26:=⟨Tryz.f313.name,by decide,Tryz.func313.trans (congrArg some (by kernel_rfl))⟩
 f27:=⟨Tryz.f314.name,by decide,Tryz.func314.trans (congrArg some (by kernel_rfl))⟩
 f28:=Tryz.func228.trans (congrArg some (by kernel_rfl))
 f29:=Tryz.func229.trans (congrArg some (by kernel_rfl))
 f46:=⟨Tryz.f331.name,by decide,Tryz.func331.trans (congrArg some (by kernel_rfl))⟩
 f47:=Tryz.func259.trans (congrArg some (by kernel_rfl))
 f48:=Tryz.func260.trans (congrArg some (by kernel_rfl))
 f49:=⟨Tryz.f332.name,by decide,Tryz.func332.trans (congrArg some (by kernel_rfl))⟩
 f50:=⟨Tryz.f333.name,by decide,Tryz.func333.trans (congrArg some (by kernel_rfl))⟩
 f57:=⟨Tryz.f349.name,by decide,Tryz.func349.trans (congrArg some (by kernel_rfl))⟩
 t0:=Tryz.underlying0
 a0:=Tryz.isAgg0
 z0:=Tryz.sizeOf0
 v0:=Tryz.zeroValue0
 t3:=Tryz.underlying3
 a3:=Tryz.isAgg3
 z3:=Tryz.sizeOf3
 v3:=Tryz.zeroValue3
 t4:=Tryz.underlying4
 a4:=Tryz.isAgg4
 z4:=Tryz.sizeOf4
 v4:=Tryz.zeroValue4
 t5:=Tryz.underlying5
 a5:=Tryz.isAgg5
 z5:=Tryz.sizeOf5
 v5:=Tryz.zeroValue5
 t9:=Tryz.underlying9
 a9:=Tryz.isAgg9
 z9:=Tryz.sizeOf9
 v9:=Tryz.zeroValue9
 t22:=Tryz.underlying142
 a22:=Tryz.isAgg142
 z22:=Tryz.sizeOf142
 v22:=Tryz.zeroValue142
 t25:=Tryz.underlying293
 a25:=Tryz.isAgg293
 z25:=Tryz.sizeOf293
 v25:=Tryz.zeroValue293
 t39:=Tryz.underlying211
 a39:=Tryz.isAgg211
 z39:=Tryz.sizeOf211
 v39:=Tryz.zeroValue211
 t45:=Tryz.underlying243
 a45:=Tryz.isAgg243
 z45:=Tryz.sizeOf243
 v45:=Tryz.zeroValue243
 t46:=Tryz.underlying244
 a46:=Tryz.isAgg244
 z46:=Tryz.sizeOf244
 v46:=Tryz.zeroValue244
 t50:=Tryz.underlying192
 a50:=Tryz.isAgg192
 z50:=Tryz.sizeOf192
 v50:=Tryz.zeroValue192
 t53:=Tryz.underlying251
 a53:=Tryz.isAgg251
 z53:=Tryz.sizeOf251
 v53:=Tryz.zeroValue251
 t55:=Tryz.underlying253
 a55:=Tryz.isAgg253
 z55:=Tryz.sizeOf253
 v55:=Tryz.zeroValue253
 t66:=Tryz.underlying284
 a66:=Tryz.isAgg284
 z66:=Tryz.sizeOf284
 v66:=Tryz.zeroValue284
 t70:=Tryz.underlying288
 a70:=Tryz.isAgg288
 z70:=Tryz.sizeOf288
 v70:=Tryz.zeroValue288
 t76:=Tryz.underlying307
 a76:=Tryz.isAgg307
 z76:=Tryz.sizeOf307
 v76:=Tryz.zeroValue307
 t77:=Tryz.underlying308
 a77:=Tryz.isAgg308
 z77:=Tryz.sizeOf308
 v77:=Tryz.zeroValue308 }
def Tryz.lay125_ren:Go.Shelf.Ren:=⟨λ| 171=>125 | 243=>179 | 246=>215 | 283=>245 | 284=>246 | 285=>247 | 286=>248 | 129=>229 | 317=>272 | 318=>273 | 319=>274 | 320=>275 | 337=>296 | 338=>297 | n=>n,λ| 3=>3 | 9=>9 | 2=>2 | 4=>4 | 171=>262 | 0=>0 | 53=>253 | 37=>161 | 5=>5 | 173=>264 | 212=>296 | 51=>251 | 20=>20 | 213=>297 | 46=>211 | 232=>337 | 233=>338 | n=>n,λ| 17=>1 | 18=>2 | 19=>3 | n=>n⟩
theorem Tryz.lay125:Go.Proofs.Lays.n171 Tryz.prog Tryz.lay125_ren:={
 mixed:=by kernel_rfl
 f129:=Tryz.func229.trans (congrArg some (by kernel_rfl))
 f171:=Tryz.func125.trans (congrArg some (by kernel_rfl))
 f243:=Tryz.func179.trans (congrArg some (by kernel_rfl))
 f246:=Tryz.func215.trans (congrArg some (by kernel_rfl))
 f283:=Tryz.func245.trans (congrArg some (by kernel_rfl))
 f284:=Tryz.func246.trans (congrArg some (by kernel_rfl))
 f285:=Tryz.func247.trans (congrArg some (by kernel_rfl))
 f286:=Tryz.func248.trans (congrArg some (by kernel_rfl))
 f317:=Tryz.func272.trans (congrArg some (by kernel_rfl))
 f318:=Tryz.func273.trans (congrArg some (by kernel_rfl))
 f319:=Tryz.func274.trans (congrArg some (by kernel_rfl))
 f320:=Tryz.func275.trans (congrArg some (by kernel_rfl))
 f337:=Tryz.func296.trans (congrArg some (by kernel_rfl))
 f338:=Tryz.func297.trans (congrArg some (by kernel_rfl))
 t0:=Tryz.underlying0
 a0:=Tryz.isAgg0
 z0:=Tryz.sizeOf0
 v0:=Tryz.zeroValue0
 t2:=Tryz.underlying2
 a2:=Tryz.isAgg2
 z2:=Tryz.sizeOf2
 v2:=Tryz.zeroValue2
 t3:=Tryz.underlying3
 a3:=Tryz.isAgg3
 z3:=Tryz.sizeOf3
 v3:=Tryz.zeroValue3
 t4:=Tryz.underlying4
 a4:=Tryz.isAgg4
 z4:=Tryz.sizeOf4
 v4:=Tryz.zeroValue4
 t5:=Tryz.underlying5
 a5:=Tryz.isAgg5
 z5:=Tryz.sizeOf5
 v5:=Tryz.zeroValue5
 t9:=Tryz.underlying9
 a9:=Tryz.isAgg9
 z9:=Tryz.sizeOf9
 v9:=Tryz.zeroValue9
 t20:=Tryz.underlying20
 a20:=Tryz.isAgg20
 z20:=Tryz.sizeOf20
 v20:=Tryz.zeroValue20
 t37:=Tryz.underlying161
 a37:=Tryz.isAgg161
 z37:=Tryz.sizeOf161
 v37:=Tryz.zeroValue161
 t46:=Tryz.underlying211
 a46:=Tryz.isAgg211
 z46:=Tryz.sizeOf211
 v46:=Tryz.zeroValue211
 t51:=Tryz.underlying251
 a51:=Tryz.isAgg251
 z51:=Tryz.sizeOf251
 v51:=Tryz.zeroValue251
 t53:=Tryz.underlying253
 a53:=Tryz.isAgg253
 z53:=Tryz.sizeOf253
 v53:=Tryz.zeroValue253
 t171:=Tryz.underlying262
 a171:=Tryz.isAgg262
 z171:=Tryz.sizeOf262
 v171:=Tryz.zeroValue262
 t173:=Tryz.underlying264
 a173:=Tryz.isAgg264
 z173:=Tryz.sizeOf264
 v173:=Tryz.zeroValue264
 t212:=Tryz.underlying296
 a212:=Tryz.isAgg296
 z212:=Tryz.sizeOf296
 v212:=Tryz.zeroValue296
 t213:=Tryz.underlying297
 a213:=Tryz.isAgg297
 z213:=Tryz.sizeOf297
 t232:=Tryz.underlying337
 a232:=Tryz.isAgg337
 z232:=Tryz.sizeOf337
 v232:=Tryz.zeroValue337
 t233:=Tryz.underlying338
 a233:=Tryz.isAgg338
 z233:=Tryz.sizeOf338
 v233:=Tryz.zeroValue338
 g17:=by kernel_rfl
 g18:=by kernel_rfl
 g19:=by kernel_rfl }
def Tryz.lay128_ren:Go.Shelf.Ren:=⟨λ| 189=>128 | 125=>182 | 257=>181 | 128=>228 | 129=>229 | 294=>219 | 295=>220 | 296=>221 | 297=>222 | 298=>223 | 299=>224 | 216=>225 | 300=>226 | 301=>227 | 328=>258 | 329=>259 | 330=>260 | 331=>261 | 332=>262 | 215=>243 | 343=>284 | n=>n,λ| 28=>23 | 3=>3 | 46=>211 | 0=>0 | 51=>251 | 53=>253 | 4=>4 | 183=>244 | 182=>243 | 131=>192 | 5=>5 | 9=>9 | 218=>284 | 222=>288 | 228=>307 | 229=>308 | n=>n,λ| n=>n⟩
theorem Tryz.lay128:Go.Proofs.Lays.n189 Tryz.prog Tryz.lay128_ren:={
 mixed:=by kernel_rfl
 f125:=Tryz.func182.trans (congrArg some (by kernel_rfl))
 f128:=Tryz.func228.trans (congrArg some (by kernel_rfl))
 f129:=Tryz.func229.trans (congrArg some (by kernel_rfl))
 f189:=Tryz.func128.trans (congrArg some (by kernel_rfl))
 f215:=Tryz.func243.trans (congrArg some (by kernel_rfl))
 f216:=Tryz.func225.trans (congrArg some (by kernel_rfl))
 f257:=Tryz.func181.trans (congrArg some (by kernel_rfl))
 f294:=Tryz.func219.trans (congrArg some (by kernel_rfl))
 f295:=Tryz.func220.trans (congrArg some (by kernel_rfl))
 f296:=Tryz.func221.trans (congrArg some (by kernel_rfl))
 f297:=Tryz.func222.trans (congrArg some (by kernel_rfl))
 f298:=Tryz.func223.trans (congrArg some (by kernel_rfl))
 f299:=Tryz.func224.trans (congrArg some (by kernel_rfl))
 f300:=Tryz.func226.trans (congrArg some (by kernel_rfl))
 f301:=Tryz.func227.trans (congrArg some (by kernel_rfl))
 f328:=Tryz.func258.trans (congrArg some (by kernel_rfl))
 f329:=Tryz.func259.trans (congrArg some (by kernel_rfl))
 f330:=Tryz.func260.trans (congrArg some (by kernel_rfl))
 f331:=Tryz.func261.trans (congrArg some (by kernel_rfl))
 f332:=Tryz.func262.trans (congrArg some (by kernel_rfl))
 f343:=Tryz.func284.trans (congrArg some (by kernel_rfl))
 t0:=Tryz.underlying0
 a0:=Tryz.isAgg0
 z0:=Tryz.sizeOf0
 v0:=Tryz.zeroValue0
 t3:=Tryz.underlying3
 a3:=Tryz.isAgg3
 z3:=Tryz.sizeOf3
 v3:=Tryz.zeroValue3
 t4:=Tryz.underlying4
 a4:=Tryz.isAgg4
 z4:=Tryz.sizeOf4
 v4:=Tryz.zeroValue4
 t5:=Tryz.underlying5
 a5:=Tryz.isAgg5
 z5:=Tryz.sizeOf5
 v5:=Tryz.zeroValue5
 t9:=Tryz.underlying9
 a9:=Tryz.isAgg9
 z9:=Tryz.sizeOf9
 v9:=Tryz.zeroValue9
 t28:=Tryz.underlying23
 a28:=Tryz.isAgg23
 z28:=Tryz.sizeOf23
 v28:=Tryz.zeroValue23
 t46:=Tryz.underlying211
 a46:=Tryz.isAgg211
 z46:=Tryz.sizeOf211
 v46:=Tryz.zeroValue211
 t51:=Tryz.underlying251
 a51:=Tryz.isAgg251
 z51:=Tryz.sizeOf251
 v51:=Tryz.zeroValue251
 t53:=Tryz.underlying253
 a53:=Tryz.isAgg253
 z53:=Tryz.sizeOf253
 v53:=Tryz.zeroValue253
 t131:=Tryz.underlying192
 a131:=Tryz.isAgg192
 z131:=Tryz.sizeOf192
 v131:=Tryz.zeroValue192
 t182:=Tryz.underlying243
 a182:=Tryz.isAgg243
 z182:=Tryz.sizeOf243
 v182:=Tryz.zeroValue243
 t183:=Tryz.underlying244
 a183:=Tryz.isAgg244
 z183:=Tryz.sizeOf244
 v183:=Tryz.zeroValue244
 t218:=Tryz.underlying284
 a218:=Tryz.isAgg284
 z218:=Tryz.sizeOf284
 v218:=Tryz.zeroValue284
 t222:=Tryz.underlying288
 a222:=Tryz.isAgg288
 z222:=Tryz.sizeOf288
 v222:=Tryz.zeroValue288
 t228:=Tryz.underlying307
 a228:=Tryz.isAgg307
 z228:=Tryz.sizeOf307
 v228:=Tryz.zeroValue307
 t229:=Tryz.underlying308
 a229:=Tryz.isAgg308
 z229:=Tryz.sizeOf308
 v229:=Tryz.zeroValue308 }
def Tryz.lay141_ren:Go.Shelf.Ren:=⟨λ| 190=>141 | 125=>182 | 258=>189 | 128=>228 | 129=>229 | 302=>230 | 303=>231 | 304=>232 | 305=>233 | 306=>234 | 307=>235 | 308=>236 | 309=>237 | 310=>238 | 333=>263 | 329=>259 | 330=>260 | 334=>264 | 335=>265 | 336=>266 | 344=>285 | n=>n,λ| 31=>35 | 9=>9 | 3=>3 | 46=>211 | 0=>0 | 51=>251 | 53=>253 | 4=>4 | 183=>244 | 182=>243 | 131=>192 | 5=>5 | 218=>284 | 222=>288 | 228=>307 | 229=>308 | n=>n,λ| n=>n⟩
theorem Tryz.lay141:Go.Proofs.Lays.n190 Tryz.prog Tryz.lay141_ren:={
 mixed:=by kernel_rfl
 f125:=Tryz.func182.trans (congrArg some (by kernel_rfl))
 f128:=Tryz.func228.trans (congrArg some (by kernel_rfl))
 f129:=Tryz.func229.trans (congrArg some (by kernel_rfl))
 f190:=Tryz.func141.trans (congrArg some (by kernel_rfl))
 f258:=Tryz.func189.trans (congrArg some (by kernel_rfl))
 f302:=Tryz.func230.trans (congrArg some (by kernel_rfl))
 f303:=Tryz.func231.trans (congrArg some (by kernel_rfl))
 f304:=Tryz.func232.trans (congrArg some (by kernel_rfl))
 f305:=Tryz.func233.trans (congrArg some (by kernel_rfl))
 f306:=Tryz.func234.trans (congrArg some (by kernel_rfl))
 f307:=Tryz.func235.trans (congrArg some (by kernel_rfl))
 f308:=Tryz.func236.trans (congrArg some (by kernel_rfl))
 f309:=Tryz.func237.trans (congrArg some (by kernel_rfl))
 f310:=Tryz.func238.trans (congrArg some (by kernel_rfl))
 f329:=Tryz.func259.trans (congrArg some (by kernel_rfl))
 f330:=Tryz.func260.trans (congrArg some (by kernel_rfl))
 f333:=Tryz.func263.trans (congrArg some (by kernel_rfl))
 f334:=Tryz.func264.trans (congrArg some (by kernel_rfl))
 f335:=Tryz.func265.trans (congrArg some (by kernel_rfl))
 f336:=Tryz.func266.trans (congrArg some (by kernel_rfl))
 f344:=Tryz.func285.trans (congrArg some (by kernel_rfl))
 t0:=Tryz.underlying0
 a0:=Tryz.isAgg0
 z0:=Tryz.sizeOf0
 v0:=Tryz.zeroValue0
 t3:=Tryz.underlying3
 a3:=Tryz.isAgg3
 z3:=Tryz.sizeOf3
 v3:=Tryz.zeroValue3
 t4:=Tryz.underlying4
 a4:=Tryz.isAgg4
 z4:=Tryz.sizeOf4
 v4:=Tryz.zeroValue4
 t5:=Tryz.underlying5
 a5:=Tryz.isAgg5
 z5:=Tryz.sizeOf5
 v5:=Tryz.zeroValue5
 t9:=Tryz.underlying9
 a9:=Tryz.isAgg9
 z9:=Tryz.sizeOf9
 v9:=Tryz.zeroValue9
 t31:=Tryz.underlying35
 a31:=Tryz.isAgg35
 z31:=Tryz.sizeOf35
 v31:=Tryz.zeroValue35
 t46:=Tryz.underlying211
 a46:=Tryz.isAgg211
 z46:=Tryz.sizeOf211
 v46:=Tryz.zeroValue211
 t51:=Tryz.underlying251
 a51:=Tryz.isAgg251
 z51:=Tryz.sizeOf251
 v51:=Tryz.zeroValue251
 t53:=Tryz.underlying253
 a53:=Tryz.isAgg253
 z53:=Tryz.sizeOf253
 v53:=Tryz.zeroValue253
 t131:=Tryz.underlying192
 a131:=Tryz.isAgg192
 z131:=Tryz.sizeOf192
 v131:=Tryz.zeroValue192
 t182:=Tryz.underlying243
 a182:=Tryz.isAgg243
 z182:=Tryz.sizeOf243
 v182:=Tryz.zeroValue243
 t183:=Tryz.underlying244
 a183:=Tryz.isAgg244
 z183:=Tryz.sizeOf244
 v183:=Tryz.zeroValue244
 t218:=Tryz.underlying284
 a218:=Tryz.isAgg284
 z218:=Tryz.sizeOf284
 v218:=Tryz.zeroValue284
 t222:=Tryz.underlying288
 a222:=Tryz.isAgg288
 z222:=Tryz.sizeOf288
 v222:=Tryz.zeroValue288
 t228:=Tryz.underlying307
 a228:=Tryz.isAgg307
 z228:=Tryz.sizeOf307
 v228:=Tryz.zeroValue307
 t229:=Tryz.underlying308
 a229:=Tryz.isAgg308
 z229:=Tryz.sizeOf308
 v229:=Tryz.zeroValue308 }
end Go.Proofs
section
open Go.Proofs.Tryz renaming prog->KZ'
open Go.Proofs.Tryz
namespace Go.Qx
open Go Go.RowKit Go.Sx
set_option maxRecDepth 100000
abbrev ji' (v:ax):(List Int)×(List Int)×Bool:=(v.Pos,v.Neg,v.eu)
abbrev oh' (x:(List Int)×(List Int)×Bool):ax:=⟨x.1,x.2.1,x.2.2⟩
@[reducible] def qy:Rp ax:=nT ji' (eY (@bY _ (bS .i64)) (eY (@bY _ (bS .i64)) (qL)))
abbrev bI' (v:dm):Key×Int×Bool:=(v.bq,v.iR,v.o6)
abbrev mY' (x:Key×Int×Bool):dm:=⟨x.1,x.2.1,x.2.2⟩
@[reducible] def Gs:Rp dm:=nT bI' (eY (vR) (eY (bS .i64) (qL)))
abbrev gG' (v:aF):Int×Int×Int×ByteArray×(List Int)×(List dm)×(Int×Int):=(v.af,v.Lo,v.Hi,v.Text,v.ai,v.aS,v.Rest)
abbrev wW' (x:Int×Int×Int×ByteArray×(List Int)×(List dm)×(Int×Int)):aF:=⟨x.1,x.2.1,x.2.2.1,x.2.2.2.1,x.2.2.2.2.1,x.2.2.2.2.2.1,x.2.2.2.2.2.2⟩
@[reducible] def Ih:Rp aF:=nT gG' (eY (bS .i64) (eY (bS .i64) (eY (bS .i64) (eY (nU) (eY (@bY _ (bS .i64)) (eY (@bY _ (Gs)) (eY (bS .i64) (bS .i64))))))))
abbrev dJ' (v:ay):(List aF)×Int:=(v.aj,v.dh)
abbrev vW' (x:(List aF)×Int):ay:=⟨x.1,x.2⟩
@[reducible] def YG:Rp ay:=nT dJ' (eY (@bY _ (Ih)) (bS .i64))
abbrev jM' (v:aA):(List Int)×Int:=(v.L,v.At)
abbrev vn' (x:(List Int)×Int):aA:=⟨x.1,x.2⟩
@[reducible] def YA:Rp aA:=nT jM' (eY (@bY _ (bS .i64)) (bS .i64))
abbrev ew' (v:qO):(List ax):=v.MN
abbrev zB' (x:(List ax)):qO:=⟨x⟩
@[reducible] def VG:Rp qO:=nT ew' (@bY _ (qy))
abbrev dx' (v:fU):(List Int)×(List Int)×(List Int)×(List Int):=(v.pos,v.neg,v.lF',v.lG')
abbrev rR' (x:(List Int)×(List Int)×(List Int)×(List Int)):fU:=⟨x.1,x.2.1,x.2.2.1,x.2.2.2⟩
@[reducible] def U5:Rp fU:=nT dx' (eY (@bY _ (bS .i64)) (eY (@bY _ (bS .i64)) (eY (@bY _ (bS .i64)) (@bY _ (bS .i64)))))
abbrev ao' (v:bN):Int×Int:=(v.af,v.dB)
abbrev vM' (x:Int×Int):bN:=⟨x.1,x.2⟩
@[reducible] def Uj:Rp bN:=nT ao' (eY (bS .i64) (bS .i64))
abbrev eH' (v:aJ):Int×Int:=(v.Lo,v.Hi)
abbrev CW' (x:Int×Int):aJ:=⟨x.1,x.2⟩
@[reducible] def GX:Rp aJ:=nT eH' (eY (bS .i64) (bS .i64))
abbrev dw' (v:qb):(List Int)×Bool×Int:=(v.cu,v.Fails,v.Result)
abbrev wF' (x:(List Int)×Bool×Int):qb:=⟨x.1,x.2.1,x.2.2⟩
@[reducible] def EA:Rp qb:=nT dw' (eY (@bY _ (bS .i64)) (eY (qL) (bS .i64)))
abbrev cP' (v:iL):Val×(List Key)×(List qb)×(List ax):=(v.Leaf,v.aU,v.af',v.MO)
abbrev oQ' (x:Val×(List Key)×(List qb)×(List ax)):iL:=⟨x.1,x.2.1,x.2.2.1,x.2.2.2⟩
@[reducible] def K5:Rp iL:=nT cP' (eY (sw) (eY (@bY _ (vR)) (eY (@bY _ (EA)) (@bY _ (qy)))))
abbrev gK' (v:lu):(List ax)×Bool×ax:=(v.cu,v.Fails,v.Result)
abbrev rM' (x:(List ax)×Bool×ax):lu:=⟨x.1,x.2.1,x.2.2⟩
@[reducible] def CX:Rp lu:=nT gK' (eY (@bY _ (qy)) (eY (qL) (qy)))
abbrev dE' (v:dY):iL×(List (List lu)):=(v.Alternative,v.aW)
abbrev tH' (x:iL×(List (List lu))):dY:=⟨x.1,x.2⟩
@[reducible] def Yo:Rp dY:=nT dE' (eY (K5) (@bY _ (@bY _ (CX))))
abbrev fT' (v:gV):Bool×(List ByteArray):=(v.kG,v.iQ)
abbrev ov' (x:Bool×(List ByteArray)):gV:=⟨x.1,x.2⟩
@[reducible] def BK:Rp gV:=nT fT' (eY (qL) (@bY _ (nU)))
abbrev kn' (v:ig):Int×Int×(List aJ)×gV×(List Int)×(List Int)×(List ByteArray)×(List ByteArray):=(v.af,v.dB,v.Ints,v.Names,v.Pos,v.Neg,v.Vars,v.lH')
abbrev nk' (x:Int×Int×(List aJ)×gV×(List Int)×(List Int)×(List ByteArray)×(List ByteArray)):ig:=⟨x.1,x.2.1,x.2.2.1,x.2.2.2.1,x.2.2.2.2.1,x.2.2.2.2.2.1,x.2.2.2.2.2.2.1,x.2.2.2.2.2.2.2⟩
@[reducible] def Yb:Rp ig:=nT kn' (eY (bS .i64) (eY (bS .i64) (eY (@bY _ (GX)) (eY (BK) (eY (@bY _ (bS .i64)) (eY (@bY _ (bS .i64)) (eY (@bY _ (nU)) (@bY _ (nU)))))))))
abbrev cO' (v:lC):(List ax):=v.Parts
abbrev AX' (x:(List ax)):lC:=⟨x⟩
@[reducible] def Ug:Rp lC:=nT cO' (@bY _ (qy))
abbrev iR' (v:oO):gV:=v.Names
abbrev yL' (x:gV):oO:=⟨x⟩
@[reducible] def Ww:Rp oO:=nT iR' (BK)
def tyL:List TE:=[⟨2,Int,bS .i64⟩,
 ⟨3,Int,bS .i64⟩,
 ⟨4,Bool,qL⟩,
 ⟨9,ByteArray,nU⟩,
 ⟨22,List ax,@bY _ (qy)⟩,
 ⟨23,List Int,@bY _ (bS .i64)⟩,
 ⟨25,ax,qy⟩,
 ⟨29,List aF,@bY _ (Ih)⟩,
 ⟨31,ay,YG⟩,
 ⟨32,List Val,@bY _ (sw)⟩,
 ⟨33,List Key,@bY _ (vR)⟩,
 ⟨34,List aD,@bY _ (DX)⟩,
 ⟨35,List ByteArray,@bY _ (nU)⟩,
 ⟨37,Val,sw⟩,
 ⟨42,aA,YA⟩,
 ⟨46,qO,VG⟩,
 ⟨52,List dm,@bY _ (Gs)⟩,
 ⟨53,Int×Int,eY (bS .i64) (bS .i64)⟩,
 ⟨55,aF,Ih⟩,
 ⟨103,aD,DX⟩,
 ⟨128,fU,U5⟩,
 ⟨137,bN,Uj⟩,
 ⟨142,List aJ,@bY _ (GX)⟩,
 ⟨151,Key,vR⟩,
 ⟨156,dm,Gs⟩,
 ⟨189,aJ,GX⟩,
 ⟨234,List qb,@bY _ (EA)⟩,
 ⟨236,iL,K5⟩,
 ⟨237,List (List lu),@bY _ (@bY _ (CX))⟩,
 ⟨239,dY,Yo⟩,
 ⟨269,gV,BK⟩,
 ⟨271,ig,Yb⟩,
 ⟨274,List lu,@bY _ (CX)⟩,
 ⟨279,lu,CX⟩,
 ⟨329,lC,Ug⟩,
 ⟨360,oO,Ww⟩,
 ⟨377,qb,EA⟩]
abbrev I (E:TypeId):Type:=(ER tyL E).α
instance rI (E:TypeId):Rp (I E):=(ER tyL E).rp
def dM':Fd I (I 25) inferInstance:=(lK (rg:=qy) (fF (fT 3:Fd I (List Int) (@bY _ (bS .i64))) (fF (fT 3:Fd I (List Int) (@bY _ (bS .i64))) ((CQ:Fd I Bool (qL))))) ji' oh' (λ_=>rfl) (λ_ _ _=>Iff.rfl):Fd I ax qy)
def AV':Fd I (I 31) inferInstance:=(lK (rg:=YG) (fF (fT 55:Fd I (List aF) (@bY _ (Ih))) ((lT .i64:Fd I Int (bS .i64)))) dJ' vW' (λ_=>rfl) (λ_ _ _=>Iff.rfl):Fd I ay YG)
def WB:Fd I (I 37) inferInstance:=(lK (rg:=sw) (fF (lT .i64:Fd I Int (bS .i64)) (fF (lT .i64:Fd I Int (bS .i64)) (fF (Qi:Fd I ByteArray (nU)) (fF (fT 37:Fd I (List Val) (@bY _ (sw))) (fF (fT 151:Fd I (List Key) (@bY _ (vR))) (fF (fT 103:Fd I (List aD) (@bY _ (DX))) ((fT 9:Fd I (List ByteArray) (@bY _ (nU)))))))))) Val.to Val.of (λ_=>rfl) Val.MJ:Fd I Val sw)
def vO':Fd I (I 42) inferInstance:=(lK (rg:=YA) (fF (fT 3:Fd I (List Int) (@bY _ (bS .i64))) ((lT .i64:Fd I Int (bS .i64)))) jM' vn' (λ_=>rfl) (λ_ _ _=>Iff.rfl):Fd I aA YA)
def tD':Fd I (I 46) inferInstance:=(lK (rg:=VG) ((fT 25:Fd I (List ax) (@bY _ (qy)))) ew' zB' (λ_=>rfl) (λ_ _ _=>Iff.rfl):Fd I qO VG)
def jg':Fd I (I 53) inferInstance:=(fF (lT .i64:Fd I Int (bS .i64)) ((lT .i64:Fd I Int (bS .i64))):Fd I (Int×Int) (eY (bS .i64) (bS .i64)))
def zY':Fd I (I 55) inferInstance:=(lK (rg:=Ih) (fF (lT .i64:Fd I Int (bS .i64)) (fF (lT .i64:Fd I Int (bS .i64)) (fF (lT .i64:Fd I Int (bS .i64)) (fF (Qi:Fd I ByteArray (nU)) (fF (fT 3:Fd I (List Int) (@bY _ (bS .i64))) (fF (fT 156:Fd I (List dm) (@bY _ (Gs))) ((zQ 53 jg':Fd I (Int×Int) (eY (bS .i64) (bS .i64)))))))))) gG' wW' (λ_=>rfl) (λ_ _ _=>Iff.rfl):Fd I aF Ih)
def Df':Fd I (I 103) inferInstance:=(lK (rg:=DX) (fF (fT 37:Fd I (List Val) (@bY _ (sw))) (fF (CQ:Fd I Bool (qL)) ((zQ 37 WB:Fd I Val (sw))))) aD.to aD.of (λ_=>rfl) aD.MJ:Fd I aD DX)
def nC':Fd I (I 128) inferInstance:=(lK (rg:=U5) (fF (fT 3:Fd I (List Int) (@bY _ (bS .i64))) (fF (fT 3:Fd I (List Int) (@bY _ (bS .i64))) (fF (fT 3:Fd I (List Int) (@bY _ (bS .i64))) ((fT 3:Fd I (List Int) (@bY _ (bS .i64))))))) dx' rR' (λ_=>rfl) (λ_ _ _=>Iff.rfl):Fd I fU U5)
def oZ':Fd I (I 137) inferInstance:=(lK (rg:=Uj) (fF (lT .i64:Fd I Int (bS .i64)) ((lT .i64:Fd I Int (bS .i64)))) ao' vM' (λ_=>rfl) (λ_ _ _=>Iff.rfl):Fd I bN Uj)
def iM':Fd I (I 151) inferInstance:=(lK (rg:=vR) (fF (lT .i64:Fd I Int (bS .i64)) ((Qi:Fd I ByteArray (nU)))) Key.to Key.of (λ_=>rfl) Key.MJ:Fd I Key vR)
def rK':Fd I (I 156) inferInstance:=(lK (rg:=Gs) (fF (zQ 151 iM':Fd I Key (vR)) (fF (lT .i64:Fd I Int (bS .i64)) ((CQ:Fd I Bool (qL))))) bI' mY' (λ_=>rfl) (λ_ _ _=>Iff.rfl):Fd I dm Gs)
def oe':Fd I (I 189) inferInstance:=(lK (rg:=GX) (fF (lT .i64:Fd I Int (bS .i64)) ((lT .i64:Fd I Int (bS .i64)))) eH' CW' (λ_=>rfl) (λ_ _ _=>Iff.rfl):Fd I aJ GX)
def dh':Fd I (I 236) inferInstance:=(lK (rg:=K5) (fF (zQ 37 WB:Fd I Val (sw)) (fF (fT 151:Fd I (List Key) (@bY _ (vR))) (fF (fT 377:Fd I (List qb) (@bY _ (EA))) ((fT 25:Fd I (List ax) (@bY _ (qy))))))) cP' oQ' (λ_=>rfl) (λ_ _ _=>Iff.rfl):Fd I iL K5)
def pk':Fd I (I 239) inferInstance:=(lK (rg:=Yo) (fF (zQ 236 dh':Fd I iL (K5)) ((fT 274:Fd I (List (List lu)) (@bY _ (@bY _ (CX)))))) dE' tH' (λ_=>rfl) (λ_ _ _=>Iff.rfl):Fd I dY Yo)
def Xg:Fd I (I 269) inferInstance:=(lK (rg:=BK) (fF (CQ:Fd I Bool (qL)) ((fT 9:Fd I (List ByteArray) (@bY _ (nU))))) fT' ov' (λ_=>rfl) (λ_ _ _=>Iff.rfl):Fd I gV BK)
def BZ':Fd I (I 271) inferInstance:=(lK (rg:=Yb) (fF (lT .i64:Fd I Int (bS .i64)) (fF (lT .i64:Fd I Int (bS .i64)) (fF (fT 189:Fd I (List aJ) (@bY _ (GX))) (fF (zQ 269 Xg:Fd I gV (BK)) (fF (fT 3:Fd I (List Int) (@bY _ (bS .i64))) (fF (fT 3:Fd I (List Int) (@bY _ (bS .i64))) (fF (fT 9:Fd I (List ByteArray) (@bY _ (nU))) ((fT 9:Fd I (List ByteArray) (@bY _ (nU))))))))))) kn' nk' (λ_=>rfl) (λ_ _ _=>Iff.rfl):Fd I ig Yb)
def BP':Fd I (I 279) inferInstance:=(lK (rg:=CX) (fF (fT 25:Fd I (List ax) (@bY _ (qy))) (fF (CQ:Fd I Bool (qL)) ((zQ 25 dM':Fd I ax (qy))))) gK' rM' (λ_=>rfl) (λ_ _ _=>Iff.rfl):Fd I lu CX)
def BX':Fd I (I 329) inferInstance:=(lK (rg:=Ug) ((fT 25:Fd I (List ax) (@bY _ (qy)))) cO' AX' (λ_=>rfl) (λ_ _ _=>Iff.rfl):Fd I lC Ug)
def qg':Fd I (I 360) inferInstance:=(lK (rg:=Ww) ((zQ 269 Xg:Fd I gV (BK))) iR' yL' (λ_=>rfl) (λ_ _ _=>Iff.rfl):Fd I oO Ww)
def Bt':Fd I (I 377) inferInstance:=(lK (rg:=EA) (fF (fT 3:Fd I (List Int) (@bY _ (bS .i64))) (fF (CQ:Fd I Bool (qL)) ((lT .i64:Fd I Int (bS .i64))))) dw' wF' (λ_=>rfl) (λ_ _ _=>Iff.rfl):Fd I qb EA)
def QT:List (FE I):=[⟨2,lT .i64⟩,
 ⟨3,lT .i64⟩,
 ⟨4,CQ⟩,
 ⟨9,Qi⟩,
 ⟨22,fT 25⟩,
 ⟨23,fT 3⟩,
 ⟨25,dM'⟩,
 ⟨29,fT 55⟩,
 ⟨31,AV'⟩,
 ⟨32,fT 37⟩,
 ⟨33,fT 151⟩,
 ⟨34,fT 103⟩,
 ⟨35,fT 9⟩,
 ⟨37,WB⟩,
 ⟨42,vO'⟩,
 ⟨46,tD'⟩,
 ⟨52,fT 156⟩,
 ⟨53,jg'⟩,
 ⟨55,zY'⟩,
 ⟨103,Df'⟩,
 ⟨128,nC'⟩,
 ⟨137,oZ'⟩,
 ⟨142,fT 189⟩,
 ⟨151,iM'⟩,
 ⟨156,rK'⟩,
 ⟨189,oe'⟩,
 ⟨234,fT 377⟩,
 ⟨236,dh'⟩,
 ⟨237,fT 274⟩,
 ⟨239,pk'⟩,
 ⟨269,Xg⟩,
 ⟨271,BZ'⟩,
 ⟨274,fT 279⟩,
 ⟨279,BP'⟩,
 ⟨329,BX'⟩,
 ⟨360,qg'⟩,
 ⟨377,Bt'⟩]
def iq':Tp I where
 sz:=[(25,3),(31,2),(37,7),(46,1),(53,2),(55,8),(70,3),(103,9),(128,4),(137,2),(151,2),(156,4),(189,2),(207,2),(236,10),(239,11),(269,2),(271,9),(279,5),(329,1),(360,2)]
 one:=[(2,()),(3,()),(4,()),(9,()),(22,()),(23,()),(29,()),(32,()),(33,()),(34,()),(35,()),(52,()),(61,()),(80,()),(86,()),(142,()),(204,()),(205,()),(224,()),(237,()),(274,())]
 gF:=[(25,[(0,23),(1,23),(2,4)]),(31,[(0,29),(1,3)]),(37,[(0,3),(1,2),(2,9),(3,32),(4,33),(5,34),(6,35)]),(42,[(0,23),(1,3)]),(46,[(0,22)]),(55,[(0,3),(1,2),(2,2),(3,9),(4,23),(5,52),(6,53)]),(70,[(0,31),(2,61)]),(82,[(0,31),(2,22),(3,80)]),(103,[(0,32),(1,4),(2,37)]),(128,[(0,23),(1,23),(2,23),(3,23)]),(137,[(0,3),(1,3)]),(151,[(0,3),(1,9)]),(156,[(0,151),(2,3),(3,4)]),(189,[(0,2),(1,2)]),(207,[(0,204),(1,205)]),(236,[(0,37),(7,33),(8,234),(9,22)]),(239,[(0,236),(10,237)]),(269,[(0,4),(1,35)]),(271,[(0,3),(1,3),(2,142),(3,269),(5,23),(6,23),(7,35),(8,35)]),(279,[(0,22),(1,4),(2,25)]),(329,[(0,22)]),(360,[(0,269)])]
 el:=[(22,25),(23,3),(29,55),(32,37),(33,151),(34,103),(35,9),(52,156),(62,23),(105,4),(114,2),(129,128),(135,137),(142,189),(231,239),(237,274),(266,271),(272,236),(274,279),(325,329)]
 str:=[(9,())]
 bool:=[(4,())]
 ik:=[(3,.i64),(211,.u64)]
 fe:=QT
 inf:=[(2,1,8,[.int .i64 0]),(3,1,8,[.int .i64 0]),(4,1,1,[.bool false]),(9,1,16,[.str ⟨#[]⟩]),(22,1,24,[.nl 25]),(23,1,24,[.nl 3]),(25,3,56,[.nl 3,.nl 3,.bool false]),(29,1,24,[.nl 55]),(31,2,32,[.nl 55,.int .i64 0]),(32,1,24,[.nl 37]),(33,1,24,[.nl 151]),(35,1,24,[.nl 9]),(37,7,128,[.int .i64 0,.int .i64 0,.str ⟨#[]⟩,.nl 37,.nl 151,.nl 103,.nl 9]),(42,2,32,[.nl 3,.int .i64 0]),(46,1,24,[.nl 25]),(52,1,24,[.nl 156]),(53,2,16,[.int .i64 0,.int .i64 0]),(55,8,104,[.int .i64 0,.int .i64 0,.int .i64 0,.str ⟨#[]⟩,.nl 3,.nl 156,.int .i64 0,.int .i64 0]),(70,3,40,[.nl 55,.int .i64 0,.any]),(82,4,64,[.nl 55,.int .i64 0,.nl 25,.any]),(86,1,8,[.any]),(103,9,160,[.nl 37,.bool false,.int .i64 0,.int .i64 0,.str ⟨#[]⟩,.nl 37,.nl 151,.nl 103,.nl 9]),(128,4,96,[.nl 3,.nl 3,.nl 3,.nl 3]),(137,2,16,[.int .i64 0,.int .i64 0]),(142,1,24,[.nl 189]),(151,2,24,[.int .i64 0,.str ⟨#[]⟩]),(156,4,40,[.int .i64 0,.str ⟨#[]⟩,.int .i64 0,.bool false]),(189,2,16,[.int .i64 0,.int .i64 0]),(207,2,16,[.any,.any]),(224,1,8,[.any]),(231,1,24,[.nl 239]),(236,10,200,[.int .i64 0,.int .i64 0,.str ⟨#[]⟩,.nl 37,.nl 151,.nl 103,.nl 9,.nl 151,.nl 377,.nl 25]),(239,11,224,[.int .i64 0,.int .i64 0,.str ⟨#[]⟩,.nl 37,.nl 151,.nl 103,.nl 9,.nl 151,.nl 377,.nl 25,.nl 274]),(269,2,32,[.bool false,.nl 9]),(271,9,168,[.int .i64 0,.int .i64 0,.nl 189,.bool false,.nl 9,.nl 3,.nl 3,.nl 9,.nl 9]),(274,1,24,[.nl 279]),(279,5,88,[.nl 25,.bool false,.nl 3,.nl 3,.bool false]),(329,1,24,[.nl 25]),(360,2,32,[.bool false,.nl 9])]
 st:=[(25,[(0,1),(1,1),(2,1)]),(31,[(0,1),(1,1)]),(37,[(0,1),(1,1),(2,1),(3,1),(4,1),(5,1),(6,1)]),(42,[(0,1),(1,1)]),(46,[(0,1)]),(53,[(0,1),(1,1)]),(55,[(0,1),(1,1),(2,1),(3,1),(4,1),(5,1),(6,2)]),(70,[(0,2),(2,1)]),(82,[(0,2),(2,1),(3,1)]),(128,[(0,1),(1,1),(2,1),(3,1)]),(137,[(0,1),(1,1)]),(151,[(0,1),(1,1)]),(156,[(0,2),(2,1),(3,1)]),(189,[(0,1),(1,1)]),(207,[(0,1),(1,1)]),(236,[(0,7),(7,1),(8,1),(9,1)]),(239,[(0,10),(10,1)]),(269,[(0,1),(1,1)]),(271,[(0,1),(1,1),(2,1),(3,2),(5,1),(6,1),(7,1),(8,1)]),(360,[(0,2)])]
 eq:=[(53,Ku QT 53 Dh),(151,Ku QT 151 rV)]
 nest:=[(23,3,0),(25,3,1)]
 arr:=[(53,3,2,1)]
 mp:=[(80,.bool),(204,.sl 239),(205,.int .i64)]
 fb:=[(20,()),(35,()),(44,()),(51,()),(137,()),(139,()),(145,()),(171,()),(172,()),(174,()),(175,()),(177,()),(256,()),(268,()),(321,()),(327,()),(353,())]
abbrev tb:aX I:=gH' iq'
theorem ti2:dU KZ' 2 (.int .i64 0) 1 8:=fV (by kernel_rfl)
theorem JE:dU KZ' 3 (.int .i64 0) 1 8:=fV (by kernel_rfl)
theorem VE:dU KZ' 4 (.bool false) 1 1:=fV (by kernel_rfl)
theorem ti9:dU KZ' 9 (.string ⟨#[]⟩) 1 16:=fV (by kernel_rfl)
theorem xR':dU KZ' 22 (.slice none 0 0) 1 24:=fV (by kernel_rfl)
theorem di':dU KZ' 23 (.slice none 0 0) 1 24:=fV (by kernel_rfl)
theorem eK':dU KZ' 25 (.agg #[.slice none 0 0,.slice none 0 0,.bool false]) 3 56:=fV (by kernel_rfl)
theorem zG':dU KZ' 29 (.slice none 0 0) 1 24:=fV (by kernel_rfl)
theorem pI':dU KZ' 31 (.agg #[.slice none 0 0,.int .i64 0]) 2 32:=fV (by kernel_rfl)
theorem ox':dU KZ' 32 (.slice none 0 0) 1 24:=fV (by kernel_rfl)
theorem pq':dU KZ' 33 (.slice none 0 0) 1 24:=fV (by kernel_rfl)
theorem uz':dU KZ' 35 (.slice none 0 0) 1 24:=fV (by kernel_rfl)
theorem jw':dU KZ' 37 (.agg #[.int .i64 0,.int .i64 0,.string ⟨#[]⟩,.slice none 0 0,.slice none 0 0,.slice none 0 0,.slice none 0 0]) 7 128:=fV (by kernel_rfl)
theorem mG':dU KZ' 42 (.agg #[.slice none 0 0,.int .i64 0]) 2 32:=fV (by kernel_rfl)
theorem zC':dU KZ' 46 (.agg #[.slice none 0 0]) 1 24:=fV (by kernel_rfl)
theorem yy':dU KZ' 52 (.slice none 0 0) 1 24:=fV (by kernel_rfl)
theorem sQ':dU KZ' 53 (.agg #[.int .i64 0,.int .i64 0]) 2 16:=fV (by kernel_rfl)
theorem gP':dU KZ' 55 (.agg #[.int .i64 0,.int .i64 0,.int .i64 0,.string ⟨#[]⟩,.slice none 0 0,.slice none 0 0,.int .i64 0,.int .i64 0]) 8 104:=fV (by kernel_rfl)
theorem uO':dU KZ' 70 (.agg #[.slice none 0 0,.int .i64 0,.nilFunc]) 3 40:=fV (by kernel_rfl)
theorem vh':dU KZ' 82 (.agg #[.slice none 0 0,.int .i64 0,.slice none 0 0,.map none]) 4 64:=fV (by kernel_rfl)
theorem vo':dU KZ' 86 (.nilFunc) 1 8:=fV (by kernel_rfl)
theorem aC':dU KZ' 103 (.agg #[.slice none 0 0,.bool false,.int .i64 0,.int .i64 0,.string ⟨#[]⟩,.slice none 0 0,.slice none 0 0,.slice none 0 0,.slice none 0 0]) 9 160:=fV (by kernel_rfl)
theorem fg':dU KZ' 128 (.agg #[.slice none 0 0,.slice none 0 0,.slice none 0 0,.slice none 0 0]) 4 96:=fV (by kernel_rfl)
theorem bl':dU KZ' 137 (.agg #[.int .i64 0,.int .i64 0]) 2 16:=fV (by kernel_rfl)
theorem yJ':dU KZ' 142 (.slice none 0 0) 1 24:=fV (by kernel_rfl)
theorem gJ':dU KZ' 151 (.agg #[.int .i64 0,.string ⟨#[]⟩]) 2 24:=fV (by kernel_rfl)
theorem dL':dU KZ' 156 (.agg #[.int .i64 0,.string ⟨#[]⟩,.int .i64 0,.bool false]) 4 40:=fV (by kernel_rfl)
theorem gC':dU KZ' 189 (.agg #[.int .i64 0,.int .i64 0]) 2 16:=fV (by kernel_rfl)
theorem Am':dU KZ' 207 (.agg #[.map none,.map none]) 2 16:=fV (by kernel_rfl)
theorem zV':dU KZ' 224 (.nilFunc) 1 8:=fV (by kernel_rfl)
theorem fm':dU KZ' 231 (.slice none 0 0) 1 24:=fV (by kernel_rfl)
theorem jW':dU KZ' 236 (.agg #[.int .i64 0,.int .i64 0,.string ⟨#[]⟩,.slice none 0 0,.slice none 0 0,.slice none 0 0,.slice none 0 0,.slice none 0 0,.slice none 0 0,.slice none 0 0]) 10 200:=fV (by kernel_rfl)
theorem iB':dU KZ' 239 (.agg #[.int .i64 0,.int .i64 0,.string ⟨#[]⟩,.slice none 0 0,.slice none 0 0,.slice none 0 0,.slice none 0 0,.slice none 0 0,.slice none 0 0,.slice none 0 0,.slice none 0 0]) 11 224:=fV (by kernel_rfl)
theorem Af':dU KZ' 269 (.agg #[.bool false,.slice none 0 0]) 2 32:=fV (by kernel_rfl)
theorem em':dU KZ' 271 (.agg #[.int .i64 0,.int .i64 0,.slice none 0 0,.bool false,.slice none 0 0,.slice none 0 0,.slice none 0 0,.slice none 0 0,.slice none 0 0]) 9 168:=fV (by kernel_rfl)
theorem jx':dU KZ' 274 (.slice none 0 0) 1 24:=fV (by kernel_rfl)
theorem gw':dU KZ' 279 (.agg #[.slice none 0 0,.bool false,.slice none 0 0,.slice none 0 0,.bool false]) 5 88:=fV (by kernel_rfl)
theorem jj':dU KZ' 329 (.agg #[.slice none 0 0]) 1 24:=fV (by kernel_rfl)
theorem DC':dU KZ' 360 (.agg #[.bool false,.slice none 0 0]) 2 32:=fV (by kernel_rfl)
theorem to2:iJ KZ' 2:=⟨_,underlying2,rfl,by kernel_rfl⟩
theorem Cf:iJ KZ' 3:=⟨_,underlying3,rfl,by kernel_rfl⟩
theorem to4:iJ KZ' 4:=⟨_,underlying4,rfl,by kernel_rfl⟩
theorem Yw:iJ KZ' 9:=⟨_,underlying9,rfl,by kernel_rfl⟩
theorem tc':iJ KZ' 22:=⟨_,underlying22,rfl,by kernel_rfl⟩
theorem Au':iJ KZ' 23:=⟨_,underlying23,rfl,by kernel_rfl⟩
theorem tu':iJ KZ' 29:=⟨_,underlying29,rfl,by kernel_rfl⟩
theorem vc':iJ KZ' 32:=⟨_,underlying32,rfl,by kernel_rfl⟩
theorem yZ':iJ KZ' 33:=⟨_,underlying33,rfl,by kernel_rfl⟩
theorem yM':iJ KZ' 34:=⟨_,underlying34,rfl,by kernel_rfl⟩
theorem pl':iJ KZ' 35:=⟨_,underlying35,rfl,by kernel_rfl⟩
theorem wg':iJ KZ' 52:=⟨_,underlying52,rfl,by kernel_rfl⟩
theorem wT':iJ KZ' 61:=⟨_,underlying61,rfl,by kernel_rfl⟩
theorem nQ':iJ KZ' 80:=⟨_,underlying80,rfl,by kernel_rfl⟩
theorem pZ':iJ KZ' 86:=⟨_,underlying86,rfl,by kernel_rfl⟩
theorem AN':iJ KZ' 142:=⟨_,underlying142,rfl,by kernel_rfl⟩
theorem Cs':iJ KZ' 204:=⟨_,underlying204,rfl,by kernel_rfl⟩
theorem xN':iJ KZ' 205:=⟨_,underlying205,rfl,by kernel_rfl⟩
theorem pE':iJ KZ' 224:=⟨_,underlying224,rfl,by kernel_rfl⟩
theorem zk':iJ KZ' 237:=⟨_,underlying237,rfl,by kernel_rfl⟩
theorem sS':iJ KZ' 274:=⟨_,underlying274,rfl,by kernel_rfl⟩
theorem zt' {σ:S}{x y:Int×Int}{cs ds:List Value}(h:(rI 53).cells σ x cs)(k:(rI 53).cells σ y ds):Sx.EqAt KZ' 2 53 (.agg cs.toArray) (.agg ds.toArray) (Dh x y):=by obtain ⟨_,_,rfl,rfl,rfl⟩:=h;obtain ⟨_,_,rfl,rfl,rfl⟩:=k;exact Cm' underlying53 JE (fE' (yK Cf rfl) (yK Cf rfl) (Vf underlying3) (fE' (yK Cf rfl) (yK Cf rfl) (Vf underlying3) zo'))
theorem mJ' {σ:S}{x y:Key}{cs ds:List Value}(h:(rI 151).cells σ x cs)(k:(rI 151).cells σ y ds):Sx.EqAt KZ' 2 151 (.agg cs.toArray) (.agg ds.toArray) (rV x y):=by obtain ⟨_,_,rfl,rfl,rfl⟩:=h;obtain ⟨_,_,rfl,rfl,rfl⟩:=k;exact DL' underlying151 (by kernel_rfl) (kx' (by decide) (yK Cf rfl) (yK Cf rfl) (Vf underlying3) (kx' (by decide) (yK Yw rfl) (yK Yw rfl) (sX' underlying9) rQ'))
theorem eqT (T:TypeId)(g:I T->I T->Bool){K:Nat}(h:∀ {σ:S} {x y:I T} {cs ds:List Value},Rp.cells σ x cs->Rp.cells σ y ds->Sx.EqAt KZ' K T (.agg cs.toArray) (.agg ds.toArray) (g x y))(hg:KZ'.eqGuardType (KZ').depth T=false)(hK:Mq' K 10000=true)
 {X:bZ} {c:Cx} {σ:S} {ls ms:List (PV I)} {r:Bool} {cs ds:List Value} (h1:Ku QT T g ls ms=some r) (h2:RG X c σ ls cs) (h3:RG X c σ ms ds) :
 KZ'.eqGuardType (KZ').depth T=false/\∃ j,Mq' j 10000=true/\Sx.EqAt KZ' j T (.agg cs.toArray) (.agg ds.toArray) r:=by
 obtain ⟨x,y,k1,k2,rfl⟩:=xw' h1 h2 h3;exact ⟨hg,K,hK,h k1 k2⟩
theorem xL':lD' KZ' iq' where
 sz:=⟨⟨_,underlying25,rfl,by kernel_rfl⟩,⟨⟨_,underlying31,rfl,by kernel_rfl⟩,⟨⟨_,underlying37,rfl,by kernel_rfl⟩,⟨⟨_,underlying46,rfl,by kernel_rfl⟩,⟨⟨_,underlying53,rfl,by kernel_rfl⟩,⟨⟨_,underlying55,rfl,by kernel_rfl⟩,⟨⟨_,underlying70,rfl,by kernel_rfl⟩,⟨⟨_,underlying103,rfl,by kernel_rfl⟩,⟨⟨_,underlying128,rfl,by kernel_rfl⟩,⟨⟨_,underlying137,rfl,by kernel_rfl⟩,⟨⟨_,underlying151,rfl,by kernel_rfl⟩,⟨⟨_,underlying156,rfl,by kernel_rfl⟩,⟨⟨_,underlying189,rfl,by kernel_rfl⟩,⟨⟨_,underlying207,rfl,by kernel_rfl⟩,⟨⟨_,underlying236,rfl,by kernel_rfl⟩,⟨⟨_,underlying239,rfl,by kernel_rfl⟩,⟨⟨_,underlying269,rfl,by kernel_rfl⟩,⟨⟨_,underlying271,rfl,by kernel_rfl⟩,⟨⟨_,underlying279,rfl,by kernel_rfl⟩,⟨⟨_,underlying329,rfl,by kernel_rfl⟩,⟨⟨_,underlying360,rfl,by kernel_rfl⟩,trivial⟩⟩⟩⟩⟩⟩⟩⟩⟩⟩⟩⟩⟩⟩⟩⟩⟩⟩⟩⟩⟩
 one:=⟨to2,⟨Cf,⟨to4,⟨Yw,⟨tc',⟨Au',⟨tu',⟨vc',⟨yZ',⟨yM',⟨pl',⟨wg',⟨wT',⟨nQ',⟨pZ',⟨AN',⟨Cs',⟨xN',⟨pE',⟨zk',⟨sS',trivial⟩⟩⟩⟩⟩⟩⟩⟩⟩⟩⟩⟩⟩⟩⟩⟩⟩⟩⟩⟩⟩
 gF:=⟨⟨⟨_,_,underlying25,rfl,rfl,by kernel_rfl⟩,⟨⟨_,_,underlying25,rfl,rfl⟩,⟨⟨_,_,underlying25,rfl,rfl,by kernel_rfl⟩,⟨⟨_,_,underlying25,rfl,rfl⟩,⟨⟨_,_,underlying25,rfl,rfl,by kernel_rfl⟩,⟨⟨_,_,underlying25,rfl,rfl⟩,trivial⟩⟩⟩⟩⟩⟩,⟨⟨⟨_,_,underlying31,rfl,rfl,by kernel_rfl⟩,⟨⟨_,_,underlying31,rfl,rfl⟩,⟨⟨_,_,underlying31,rfl,rfl,by kernel_rfl⟩,⟨⟨_,_,underlying31,rfl,rfl⟩,trivial⟩⟩⟩⟩,⟨⟨⟨_,_,underlying37,rfl,rfl,by kernel_rfl⟩,⟨⟨_,_,underlying37,rfl,rfl⟩,⟨⟨_,_,underlying37,rfl,rfl,by kernel_rfl⟩,⟨⟨_,_,underlying37,rfl,rfl⟩,⟨⟨_,_,underlying37,rfl,rfl,by kernel_rfl⟩,⟨⟨_,_,underlying37,rfl,rfl⟩,⟨⟨_,_,underlying37,rfl,rfl,by kernel_rfl⟩,⟨⟨_,_,underlying37,rfl,rfl⟩,⟨⟨_,_,underlying37,rfl,rfl,by kernel_rfl⟩,⟨⟨_,_,underlying37,rfl,rfl⟩,⟨⟨_,_,underlying37,rfl,rfl,by kernel_rfl⟩,⟨⟨_,_,underlying37,rfl,rfl⟩,⟨⟨_,_,underlying37,rfl,rfl,by kernel_rfl⟩,⟨⟨_,_,underlying37,rfl,rfl⟩,trivial⟩⟩⟩⟩⟩⟩⟩⟩⟩⟩⟩⟩⟩⟩,⟨⟨⟨_,_,underlying42,rfl,rfl,by kernel_rfl⟩,⟨⟨_,_,underlying42,rfl,rfl⟩,⟨⟨_,_,underlying42,rfl,rfl,by kernel_rfl⟩,⟨⟨_,_,underlying42,rfl,rfl⟩,trivial⟩⟩⟩⟩,⟨⟨⟨_,_,underlying46,rfl,rfl,by kernel_rfl⟩,⟨⟨_,_,underlying46,rfl,rfl⟩,trivial⟩⟩,⟨⟨⟨_,_,underlying55,rfl,rfl,by kernel_rfl⟩,⟨⟨_,_,underlying55,rfl,rfl⟩,⟨⟨_,_,underlying55,rfl,rfl,by kernel_rfl⟩,⟨⟨_,_,underlying55,rfl,rfl⟩,⟨⟨_,_,underlying55,rfl,rfl,by kernel_rfl⟩,⟨⟨_,_,underlying55,rfl,rfl⟩,⟨⟨_,_,underlying55,rfl,rfl,by kernel_rfl⟩,⟨⟨_,_,underlying55,rfl,rfl⟩,⟨⟨_,_,underlying55,rfl,rfl,by kernel_rfl⟩,⟨⟨_,_,underlying55,rfl,rfl⟩,⟨⟨_,_,underlying55,rfl,rfl,by kernel_rfl⟩,⟨⟨_,_,underlying55,rfl,rfl⟩,⟨⟨_,_,underlying55,rfl,rfl,by kernel_rfl⟩,⟨⟨_,_,underlying55,rfl,rfl⟩,trivial⟩⟩⟩⟩⟩⟩⟩⟩⟩⟩⟩⟩⟩⟩,⟨⟨⟨_,_,underlying70,rfl,rfl,by kernel_rfl⟩,⟨⟨_,_,underlying70,rfl,rfl⟩,⟨⟨_,_,underlying70,rfl,rfl,by kernel_rfl⟩,⟨⟨_,_,underlying70,rfl,rfl⟩,trivial⟩⟩⟩⟩,⟨⟨⟨_,_,underlying82,rfl,rfl,by kernel_rfl⟩,⟨⟨_,_,underlying82,rfl,rfl⟩,⟨⟨_,_,underlying82,rfl,rfl,by kernel_rfl⟩,⟨⟨_,_,underlying82,rfl,rfl⟩,⟨⟨_,_,underlying82,rfl,rfl,by kernel_rfl⟩,⟨⟨_,_,underlying82,rfl,rfl⟩,trivial⟩⟩⟩⟩⟩⟩,⟨⟨⟨_,_,underlying103,rfl,rfl,by kernel_rfl⟩,⟨⟨_,_,underlying103,rfl,rfl⟩,⟨⟨_,_,underlying103,rfl,rfl,by kernel_rfl⟩,⟨⟨_,_,underlying103,rfl,rfl⟩,⟨⟨_,_,underlying103,rfl,rfl,by kernel_rfl⟩,⟨⟨_,_,underlying103,rfl,rfl⟩,trivial⟩⟩⟩⟩⟩⟩,⟨⟨⟨_,_,underlying128,rfl,rfl,by kernel_rfl⟩,⟨⟨_,_,underlying128,rfl,rfl⟩,⟨⟨_,_,underlying128,rfl,rfl,by kernel_rfl⟩,⟨⟨_,_,underlying128,rfl,rfl⟩,⟨⟨_,_,underlying128,rfl,rfl,by kernel_rfl⟩,⟨⟨_,_,underlying128,rfl,rfl⟩,⟨⟨_,_,underlying128,rfl,rfl,by kernel_rfl⟩,⟨⟨_,_,underlying128,rfl,rfl⟩,trivial⟩⟩⟩⟩⟩⟩⟩⟩,⟨⟨⟨_,_,underlying137,rfl,rfl,by kernel_rfl⟩,⟨⟨_,_,underlying137,rfl,rfl⟩,⟨⟨_,_,underlying137,rfl,rfl,by kernel_rfl⟩,⟨⟨_,_,underlying137,rfl,rfl⟩,trivial⟩⟩⟩⟩,⟨⟨⟨_,_,underlying151,rfl,rfl,by kernel_rfl⟩,⟨⟨_,_,underlying151,rfl,rfl⟩,⟨⟨_,_,underlying151,rfl,rfl,by kernel_rfl⟩,⟨⟨_,_,underlying151,rfl,rfl⟩,trivial⟩⟩⟩⟩,⟨⟨⟨_,_,underlying156,rfl,rfl,by kernel_rfl⟩,⟨⟨_,_,underlying156,rfl,rfl⟩,⟨⟨_,_,underlying156,rfl,rfl,by kernel_rfl⟩,⟨⟨_,_,underlying156,rfl,rfl⟩,⟨⟨_,_,underlying156,rfl,rfl,by kernel_rfl⟩,⟨⟨_,_,underlying156,rfl,rfl⟩,trivial⟩⟩⟩⟩⟩⟩,⟨⟨⟨_,_,underlying189,rfl,rfl,by kernel_rfl⟩,⟨⟨_,_,underlying189,rfl,rfl⟩,⟨⟨_,_,underlying189,rfl,rfl,by kernel_rfl⟩,⟨⟨_,_,underlying189,rfl,rfl⟩,trivial⟩⟩⟩⟩,⟨⟨⟨_,_,underlying207,rfl,rfl,by kernel_rfl⟩,⟨⟨_,_,underlying207,rfl,rfl⟩,⟨⟨_,_,underlying207,rfl,rfl,by kernel_rfl⟩,⟨⟨_,_,underlying207,rfl,rfl⟩,trivial⟩⟩⟩⟩,⟨⟨⟨_,_,underlying236,rfl,rfl,by kernel_rfl⟩,⟨⟨_,_,underlying236,rfl,rfl⟩,⟨⟨_,_,underlying236,rfl,rfl,by kernel_rfl⟩,⟨⟨_,_,underlying236,rfl,rfl⟩,⟨⟨_,_,underlying236,rfl,rfl,by kernel_rfl⟩,⟨⟨_,_,underlying236,rfl,rfl⟩,⟨⟨_,_,underlying236,rfl,rfl,by kernel_rfl⟩,⟨⟨_,_,underlying236,rfl,rfl⟩,trivial⟩⟩⟩⟩⟩⟩⟩⟩,⟨⟨⟨_,_,underlying239,rfl,rfl,by kernel_rfl⟩,⟨⟨_,_,underlying239,rfl,rfl⟩,⟨⟨_,_,underlying239,rfl,rfl,by kernel_rfl⟩,⟨⟨_,_,underlying239,rfl,rfl⟩,trivial⟩⟩⟩⟩,⟨⟨⟨_,_,underlying269,rfl,rfl,by kernel_rfl⟩,⟨⟨_,_,underlying269,rfl,rfl⟩,⟨⟨_,_,underlying269,rfl,rfl,by kernel_rfl⟩,⟨⟨_,_,underlying269,rfl,rfl⟩,trivial⟩⟩⟩⟩,⟨⟨⟨_,_,underlying271,rfl,rfl,by kernel_rfl⟩,⟨⟨_,_,underlying271,rfl,rfl⟩,⟨⟨_,_,underlying271,rfl,rfl,by kernel_rfl⟩,⟨⟨_,_,underlying271,rfl,rfl⟩,⟨⟨_,_,underlying271,rfl,rfl,by kernel_rfl⟩,⟨⟨_,_,underlying271,rfl,rfl⟩,⟨⟨_,_,underlying271,rfl,rfl,by kernel_rfl⟩,⟨⟨_,_,underlying271,rfl,rfl⟩,⟨⟨_,_,underlying271,rfl,rfl,by kernel_rfl⟩,⟨⟨_,_,underlying271,rfl,rfl⟩,⟨⟨_,_,underlying271,rfl,rfl,by kernel_rfl⟩,⟨⟨_,_,underlying271,rfl,rfl⟩,⟨⟨_,_,underlying271,rfl,rfl,by kernel_rfl⟩,⟨⟨_,_,underlying271,rfl,rfl⟩,⟨⟨_,_,underlying271,rfl,rfl,by kernel_rfl⟩,⟨⟨_,_,underlying271,rfl,rfl⟩,trivial⟩⟩⟩⟩⟩⟩⟩⟩⟩⟩⟩⟩⟩⟩⟩⟩,⟨⟨⟨_,_,underlying279,rfl,rfl,by kernel_rfl⟩,⟨⟨_,_,underlying279,rfl,rfl⟩,⟨⟨_,_,underlying279,rfl,rfl,by kernel_rfl⟩,⟨⟨_,_,underlying279,rfl,rfl⟩,⟨⟨_,_,underlying279,rfl,rfl,by kernel_rfl⟩,⟨⟨_,_,underlying279,rfl,rfl⟩,trivial⟩⟩⟩⟩⟩⟩,⟨⟨⟨_,_,underlying329,rfl,rfl,by kernel_rfl⟩,⟨⟨_,_,underlying329,rfl,rfl⟩,trivial⟩⟩,⟨⟨⟨_,_,underlying360,rfl,rfl,by kernel_rfl⟩,⟨⟨_,_,underlying360,rfl,rfl⟩,trivial⟩⟩,trivial⟩⟩⟩⟩⟩⟩⟩⟩⟩⟩⟩⟩⟩⟩⟩⟩⟩⟩⟩⟩⟩⟩
 el:=⟨⟨underlying22,_,_,eK',rfl,by decide⟩,⟨⟨underlying23,_,_,JE,rfl,by decide⟩,⟨⟨underlying29,_,_,gP',rfl,by decide⟩,⟨⟨underlying32,_,_,jw',rfl,by decide⟩,⟨⟨underlying33,_,_,gJ',rfl,by decide⟩,⟨⟨underlying34,_,_,aC',rfl,by decide⟩,⟨⟨underlying35,_,_,ti9,rfl,by decide⟩,⟨⟨underlying52,_,_,dL',rfl,by decide⟩,⟨⟨underlying62,_,_,di',rfl,by decide⟩,⟨⟨underlying105,_,_,VE,rfl,by decide⟩,⟨⟨underlying114,_,_,ti2,rfl,by decide⟩,⟨⟨underlying129,_,_,fg',rfl,by decide⟩,⟨⟨underlying135,_,_,bl',rfl,by decide⟩,⟨⟨underlying142,_,_,gC',rfl,by decide⟩,⟨⟨underlying231,_,_,iB',rfl,by decide⟩,⟨⟨underlying237,_,_,jx',rfl,by decide⟩,⟨⟨underlying266,_,_,em',rfl,by decide⟩,⟨⟨underlying272,_,_,jW',rfl,by decide⟩,⟨⟨underlying274,_,_,gw',rfl,by decide⟩,⟨⟨underlying325,_,_,jj',rfl,by decide⟩,trivial⟩⟩⟩⟩⟩⟩⟩⟩⟩⟩⟩⟩⟩⟩⟩⟩⟩⟩⟩⟩
 str:=⟨underlying9,trivial⟩
 bool:=⟨underlying4,trivial⟩
 ik:=⟨underlying3,⟨underlying211,trivial⟩⟩
 inf:=⟨⟨_,ti2,λX c σ=>RG.aY rfl iP (RG.nl)⟩,⟨⟨_,JE,λX c σ=>RG.aY rfl iP (RG.nl)⟩,⟨⟨_,VE,λX c σ=>RG.aY rfl yR (RG.nl)⟩,⟨⟨_,ti9,λX c σ=>RG.aY rfl Ac (RG.nl)⟩,⟨⟨_,xR',λX c σ=>RG.aY rfl dI (RG.nl)⟩,⟨⟨_,di',λX c σ=>RG.aY rfl dI (RG.nl)⟩,⟨⟨_,eK',λX c σ=>RG.aY rfl dI (RG.aY rfl dI (RG.aY rfl yR (RG.nl)))⟩,⟨⟨_,zG',λX c σ=>RG.aY rfl dI (RG.nl)⟩,⟨⟨_,pI',λX c σ=>RG.aY rfl dI (RG.aY rfl iP (RG.nl))⟩,⟨⟨_,ox',λX c σ=>RG.aY rfl dI (RG.nl)⟩,⟨⟨_,pq',λX c σ=>RG.aY rfl dI (RG.nl)⟩,⟨⟨_,uz',λX c σ=>RG.aY rfl dI (RG.nl)⟩,⟨⟨_,jw',λX c σ=>RG.aY rfl iP (RG.aY rfl iP (RG.aY rfl Ac (RG.aY rfl dI (RG.aY rfl dI (RG.aY rfl dI (RG.aY rfl dI (RG.nl)))))))⟩,⟨⟨_,mG',λX c σ=>RG.aY rfl dI (RG.aY rfl iP (RG.nl))⟩,⟨⟨_,zC',λX c σ=>RG.aY rfl dI (RG.nl)⟩,⟨⟨_,yy',λX c σ=>RG.aY rfl dI (RG.nl)⟩,⟨⟨_,sQ',λX c σ=>RG.aY rfl iP (RG.aY rfl iP (RG.nl))⟩,⟨⟨_,gP',λX c σ=>RG.aY rfl iP (RG.aY rfl iP (RG.aY rfl iP (RG.aY rfl Ac (RG.aY rfl dI (RG.aY rfl dI (RG.aY rfl iP (RG.aY rfl iP (RG.nl))))))))⟩,⟨⟨_,uO',λX c σ=>RG.aY rfl dI (RG.aY rfl iP (RG.aY rfl Fz (RG.nl)))⟩,⟨⟨_,vh',λX c σ=>RG.aY rfl dI (RG.aY rfl iP (RG.aY rfl dI (RG.aY rfl Fz (RG.nl))))⟩,⟨⟨_,vo',λX c σ=>RG.aY rfl Fz (RG.nl)⟩,⟨⟨_,aC',λX c σ=>RG.aY rfl dI (RG.aY rfl yR (RG.aY rfl iP (RG.aY rfl iP (RG.aY rfl Ac (RG.aY rfl dI (RG.aY rfl dI (RG.aY rfl dI (RG.aY rfl dI (RG.nl)))))))))⟩,⟨⟨_,fg',λX c σ=>RG.aY rfl dI (RG.aY rfl dI (RG.aY rfl dI (RG.aY rfl dI (RG.nl))))⟩,⟨⟨_,bl',λX c σ=>RG.aY rfl iP (RG.aY rfl iP (RG.nl))⟩,⟨⟨_,yJ',λX c σ=>RG.aY rfl dI (RG.nl)⟩,⟨⟨_,gJ',λX c σ=>RG.aY rfl iP (RG.aY rfl Ac (RG.nl))⟩,⟨⟨_,dL',λX c σ=>RG.aY rfl iP (RG.aY rfl Ac (RG.aY rfl iP (RG.aY rfl yR (RG.nl))))⟩,⟨⟨_,gC',λX c σ=>RG.aY rfl iP (RG.aY rfl iP (RG.nl))⟩,⟨⟨_,Am',λX c σ=>RG.aY rfl Fz (RG.aY rfl Fz (RG.nl))⟩,⟨⟨_,zV',λX c σ=>RG.aY rfl Fz (RG.nl)⟩,⟨⟨_,fm',λX c σ=>RG.aY rfl dI (RG.nl)⟩,⟨⟨_,jW',λX c σ=>RG.aY rfl iP (RG.aY rfl iP (RG.aY rfl Ac (RG.aY rfl dI (RG.aY rfl dI (RG.aY rfl dI (RG.aY rfl dI (RG.aY rfl dI (RG.aY rfl dI (RG.aY rfl dI (RG.nl))))))))))⟩,⟨⟨_,iB',λX c σ=>RG.aY rfl iP (RG.aY rfl iP (RG.aY rfl Ac (RG.aY rfl dI (RG.aY rfl dI (RG.aY rfl dI (RG.aY rfl dI (RG.aY rfl dI (RG.aY rfl dI (RG.aY rfl dI (RG.aY rfl dI (RG.nl)))))))))))⟩,⟨⟨_,Af',λX c σ=>RG.aY rfl yR (RG.aY rfl dI (RG.nl))⟩,⟨⟨_,em',λX c σ=>RG.aY rfl iP (RG.aY rfl iP (RG.aY rfl dI (RG.aY rfl yR (RG.aY rfl dI (RG.aY rfl dI (RG.aY rfl dI (RG.aY rfl dI (RG.aY rfl dI (RG.nl)))))))))⟩,⟨⟨_,jx',λX c σ=>RG.aY rfl dI (RG.nl)⟩,⟨⟨_,gw',λX c σ=>RG.aY rfl dI (RG.aY rfl yR (RG.aY rfl dI (RG.aY rfl dI (RG.aY rfl yR (RG.nl)))))⟩,⟨⟨_,jj',λX c σ=>RG.aY rfl dI (RG.nl)⟩,⟨⟨_,DC',λX c σ=>RG.aY rfl yR (RG.aY rfl dI (RG.nl))⟩,trivial⟩⟩⟩⟩⟩⟩⟩⟩⟩⟩⟩⟩⟩⟩⟩⟩⟩⟩⟩⟩⟩⟩⟩⟩⟩⟩⟩⟩⟩⟩⟩⟩⟩⟩⟩⟩⟩⟩⟩
 st:=⟨.inl ⟨_,underlying25,by kernel_rfl⟩,⟨.inl ⟨_,underlying31,by kernel_rfl⟩,⟨.inl ⟨_,underlying37,by kernel_rfl⟩,⟨.inl ⟨_,underlying42,by kernel_rfl⟩,⟨.inl ⟨_,underlying46,by kernel_rfl⟩,⟨.inr (uj' underlying53 JE rfl),⟨.inl ⟨_,underlying55,by kernel_rfl⟩,⟨.inl ⟨_,underlying70,by kernel_rfl⟩,⟨.inl ⟨_,underlying82,by kernel_rfl⟩,⟨.inl ⟨_,underlying128,by kernel_rfl⟩,⟨.inl ⟨_,underlying137,by kernel_rfl⟩,⟨.inl ⟨_,underlying151,by kernel_rfl⟩,⟨.inl ⟨_,underlying156,by kernel_rfl⟩,⟨.inl ⟨_,underlying189,by kernel_rfl⟩,⟨.inl ⟨_,underlying207,by kernel_rfl⟩,⟨.inl ⟨_,underlying236,by kernel_rfl⟩,⟨.inl ⟨_,underlying239,by kernel_rfl⟩,⟨.inl ⟨_,underlying269,by kernel_rfl⟩,⟨.inl ⟨_,underlying271,by kernel_rfl⟩,⟨.inl ⟨_,underlying360,by kernel_rfl⟩,trivial⟩⟩⟩⟩⟩⟩⟩⟩⟩⟩⟩⟩⟩⟩⟩⟩⟩⟩⟩⟩
 eq:=⟨λX c σ ls ms r cs ds h1 h2 h3=>eqT 53 Dh (λh k=>zt' h k) (by kernel_rfl) (by decide) h1 h2 h3,⟨λX c σ ls ms r cs ds h1 h2 h3=>eqT 151 rV (λh k=>mJ' h k) (by kernel_rfl) (by decide) h1 h2 h3,trivial⟩⟩
 arr:=⟨⟨underlying53,by kernel_rfl⟩,trivial⟩
 mp:=⟨⟨_,_,_,_,_,underlying80,underlying9,VE,λx h σ=>by cases h; exact rfl⟩,⟨⟨_,_,_,_,_,underlying204,underlying9,fm',λx h σ=>by cases h; exact ⟨none,0,rfl,Sl.AV _ _ _ (Mb' _)⟩⟩,⟨⟨_,_,_,_,_,underlying205,underlying9,JE,λx h σ=>by cases h; exact rfl⟩,trivial⟩⟩⟩
 fb:=⟨⟨_,_,func20,rfl,by kernel_rfl⟩,⟨⟨_,_,func35,rfl,by kernel_rfl⟩,⟨⟨_,_,func44,rfl,by kernel_rfl⟩,⟨⟨_,_,func51,rfl,by kernel_rfl⟩,⟨⟨_,_,func137,rfl,by kernel_rfl⟩,⟨⟨_,_,func139,rfl,by kernel_rfl⟩,⟨⟨_,_,func145,rfl,by kernel_rfl⟩,⟨⟨_,_,func171,rfl,by kernel_rfl⟩,⟨⟨_,_,func172,rfl,by kernel_rfl⟩,⟨⟨_,_,func174,rfl,by kernel_rfl⟩,⟨⟨_,_,func175,rfl,by kernel_rfl⟩,⟨⟨_,_,func177,rfl,by kernel_rfl⟩,⟨⟨_,_,func256,rfl,by kernel_rfl⟩,⟨⟨_,_,func268,rfl,by kernel_rfl⟩,⟨⟨_,_,func321,rfl,by kernel_rfl⟩,⟨⟨_,_,func327,rfl,by kernel_rfl⟩,⟨⟨_,_,func353,rfl,by kernel_rfl⟩,trivial⟩⟩⟩⟩⟩⟩⟩⟩⟩⟩⟩⟩⟩⟩⟩⟩⟩
theorem dO:bT KZ' tb:=sD' xL'
theorem mixed:(KZ').follows .mixedOrders=true:=by kernel_rfl
end Go.Qx
end
namespace Go.Qx
open Go Go.RowKit Go.Sx
structure Bw (B:Nat)(w w':World):Prop where
 below:Below B w w'
 drawn:w.drawn<=w'.drawn
theorem Bw.refl (B:Nat)(w:World):Bw B w w:=⟨Below.refl B w,Lg' _⟩
theorem Bw.trans {B:Nat}{a b c:World}(h:Bw B a b)(k:Bw B b c):Bw B a c:=⟨h.below.trans k.below,Lr' h.drawn k.drawn⟩
theorem Bw.setCells {B b:Nat}(hb:B<=b)(o:Nat)(vs:List Value)(w:World):Bw B w (w.setCells b o vs):=by obtain ⟨r1,r2,r3⟩:=WW b vs o w;exact ⟨⟨r1,r2,r3,Nat.le_of_eq (XH b vs o w).symm,λk hk=>FZ b vs o w k (by omega)⟩,Nat.le_of_eq (Us b vs o w).symm⟩
section
variable {P:Program}{ops:Array Oper}{Q:Exit->Act->World->Prop}{n:Nat}{F:Fr}{rest:List Oper}{d:Option Nat}{ty:TypeId}{pos:String}{bV:Array Edge}{w:World}
theorem VU {T T':TypeId}{x y:Operand}{b:Nat}{cs:List Value}(hb:w.heap[b]?=some (.cells cs.toArray T' (0,0)))(o:Nat)(v:Value)(hx:ev F x=.pointer (some ⟨b,o,none⟩))(hy:ev F y=v)
 (hkx:bR n x=true) (hky:bR n y=true) (hv:v.cells.toList=[v]) (hT:(P.info? T).map (·.size)=some 1) (h1:v.oneCell'=true) (hl:o<cs.length)
 (h:wpList P ops Q rest (fr n (dF F d undef)) (w.setCells b o [v])) :
 wpList P ops Q (⟨d,.store T x y,ty,pos,bV,none⟩::rest) (fr n F) w:=by
 have hsz:v.cells.size=1:=by rw [<- LV',hv]; rfl
 refine KW rfl (w.setCells b o [v]) ?_ h;show Sem.run P (do Instr.storeAt T ((fr n F).eval x) ((fr n F).eval y); pure Next.skip) w=_
 rw [dx hkx,dx hky,hx,hy];have hst:=run_storeCells_cells (P:=P) b o [v] 0 w (λj hj=>by
  have hj0:j=0:=by simp at hj; omega
  subst hj0;simp only [World.cell?,hb,ME'];simp [Lb' hl]) (λj hj=>by simp [World.frozen?,hb]) (λu hu=>by simp at hu; subst hu; exact h1)
 simp only [ME'] at hst;simp only [Instr.storeAt,Instr.sureAddr,storeVar,Sem.run_bind,Sem.run_pure,Result.andThen_ok,Go.Sx.run_sizeOf hT,hsz,ne_eq,not_true_eq_false,if_false,hv,hst]
theorem gB' {x y:Operand}{t u:TypeId}{a b v:Value}{w':World}(hx:ev F x=a)(hy:ev F y=b)(hkx:bR n x=true)(hky:bR n y=true)(hr:(Builtin.append_ #[t,u] ty #[a,b]).run P w=.ok v w')
 (h:wpList P ops Q rest (fr n (dF F d v)) w'):wpList P ops Q (⟨d,.call ⟨.builtin .append,#[x,y],#[t,u]⟩,ty,pos,bV,none⟩::rest) (fr n F) w :=
 gH rfl v w' (by simp [execOp,resolve,invoke,builtin,dx hkx,dx hky,hx,hy,hr]) h
theorem jB' {src dst:TypeId}{x:Operand}{a v:Value}(hx:ev F x=a)(hkx:bR n x=true)(hr:(convert src dst a).run P w=.ok v w)(h:wpList P ops Q rest (fr n (dF F d v)) w) :
 wpList P ops Q (⟨d,.convert src dst x,ty,pos,bV,none⟩::rest) (fr n F) w:=YT a v hx hkx hr h
theorem Wz {f:FuncId}{fn:Func}{c:Code}{vs:List Value}{R:Ending->World->Prop}(nt:Nat)(hf:P.funcs[f]?=some fn)(hb:fn.body=some c)(hn:fn.ntmps=nt)(hle:Mq' vs.length nt=true)
 (h:c.wp P (bodyPost P fn R) (fr nt (gZ vs)) w):Calls P f vs.toArray w R:=by
 refine calls_of_wp hf hb ?_;have hle':=LG' hle;have e:(⟨vs.toArray++Nz' (fn.ntmps-vs.toArray.size) undef,[]⟩:Act)=fr nt (gZ vs):=by
  rw [hn];simp only [fr];congr 1;apply Array.ext
  ·simp; omega
  ·intro i h1 h2;simp only [MX',gZ,Nn'];split
   ·rename_i hi; simp at hi; simp [Ms',Lb' hi]
   ·rename_i hi; simp at hi; simp [Ms',LR' hi]
 rw [e];exact h
theorem iC' {fn:Func}{R:Ending->World->Prop}(hr:fn.results=#[])(h:R (.returned (.tuple #[])) w):bodyPost P fn R .normal (fr n F) w :=
 ⟨rfl,.tuple #[],by rw [Ql,hr];simp only [List.mapM_toArray,List.mapM_nil,Sem.run_bind,Sem.run_map,Result.andThen_ok,Sem.run_pure];rfl,h⟩
theorem DK' {fn:Func}{R:Ending->World->Prop}{t:Nat}(v:Value)(hr:fn.results=#[.tmp t])(ht:LF' t n=true)(hv:F t=v)(h:R (.returned v) w):bodyPost P fn R .ret (fr n F) w :=
 ⟨rfl,v,by have e1:=LU (P:=P) (w:=w) (r:=.tmp t) (v:=v) ⟨ht,hv⟩;rw [Ql,hr];simp only [List.mapM_toArray,List.mapM_cons,List.mapM_nil,Sem.run_bind,Sem.run_map,e1,Result.andThen_ok,Sem.run_pure];rfl,h⟩
theorem xD' {fn:Func}{R:Ending->World->Prop}{t u:Nat}(v x:Value)(hr:fn.results=#[.tmp t,.tmp u])(ht:LF' t n=true)(hu:LF' u n=true)(hv:F t=v)(hx:F u=x)(h:R (.returned (.tuple #[v,x])) w):bodyPost P fn R .ret (fr n F) w :=
 ⟨rfl,.tuple #[v,x],by have e1:=LU (P:=P) (w:=w) (r:=.tmp t) (v:=v) ⟨ht,hv⟩;have e2:=LU (P:=P) (w:=w) (r:=.tmp u) (v:=x) ⟨hu,hx⟩;rw [Ql,hr];simp only [List.mapM_toArray,List.mapM_cons,List.mapM_nil,Sem.run_bind,Sem.run_map,e1,e2,Result.andThen_ok,Sem.run_pure];rfl,h⟩
theorem jd' {T E:TypeId}{x y:Operand}{p:Option Addr}(hT:P.underlying T=some (.pointer E)) :
 bg P w (do eqGuard .eql T x y (.pointer p) (.pointer none); binOp .eql T (.pointer p) (.pointer none)) (.bool p.isNone):=by
 have h:∀ d:Nat,(Op.equalIn (d+1) T (.pointer p) (.pointer none)).run P w=.ok p.isNone w:=λd=>by cases p<;>simp [Op.equalIn,run_underlying hT]
 show Sem.run P (do eqGuard .eql T x y (.pointer p) (.pointer none); pure (Value.bool (<- Op.equalIn 10000 T (.pointer p) (.pointer none)))) w=_
 have hg:eqGuard .eql T x y (.pointer p) (.pointer none)=pure ():=rfl;rw [hg];simp only [Sem.run_bind,Sem.run_pure,Result.andThen_ok,h 9999]
theorem vq' {T E:TypeId}{x y:Operand}{a:Addr}{j:TypeInfo}(hT:P.underlying T=some (.pointer E))(hj:P.info? E=some j) :
 bg P w (do eqGuard .neq T x y (.pointer (some a)) (.pointer (some a)); binOp .neq T (.pointer (some a)) (.pointer (some a))) (.bool false):=by
 have hg:eqGuard .neq T x y (.pointer (some a)) (.pointer (some a))=pure ():=rfl;show Sem.run P (do eqGuard .neq T x y (.pointer (some a)) (.pointer (some a)); binOp .neq T (.pointer (some a)) (.pointer (some a))) w=_
 rw [hg];simp only [Sem.run_bind,Sem.run_pure,Result.andThen_ok];exact Lib.run_neq_ptr_same w a hT hj
theorem AP {f:FuncId}{xs:List Operand}{ats:Array TypeId}(vs:List Value){R:Ending->World->Prop}(hvs:xs.map (ev F)=vs)(hk:xs.all (bR n)=true)(hb:mV P f)(hc:Calls P f vs.toArray w R)
 (hR:∀ e w',R e w'->∃ v,e=.returned v/\wpList P ops Q rest (fr n (dF F d v)) w') :
 wpList P ops Q (⟨d,.call ⟨.value (.func f),xs.toArray,ats⟩,ty,pos,bV,none⟩::rest) (fr n F) w:=by
 subst hvs;refine Gj (σ:=⟨w,λ_=>(0,0)⟩) (E:=λ_=>True) (R:=λv τ=>wpList P ops Q rest (fr n (dF F d v)) τ.w) rfl (.inl ⟨hb,hc.mono λe w' h=>?_⟩) (X8 hk w) (λv τ _ h=>h);obtain ⟨v,e1,h2⟩:=hR e w' h;exact ⟨v,⟨w',λ_=>(0,0)⟩,e1,rfl,trivial,h2⟩
theorem Bw.grown {B:Nat}{w w':World}{v:Value}(h:w.grownBy w' v.ownBlock)(hd:w.drawn<=w'.drawn)(hv:∀ g,v.ownBlock=some g->B<=g)(hB:B<=w.heap.size):Bw B w w' :=
 ⟨⟨h.os,h.tape,h.output,h.size,λk hk=>h.block k (by omega) (λe=>by have:=hv k e.symm; omega)⟩,hd⟩
theorem eQ' {B:Nat}{T:TypeId}{s n:Nat}{v:Value}{xs:List Value}(h:w.ownsRow B T s v n xs):∀ g,v.ownBlock=some g->B<=g:=by
 intro g hg;rcases h.2 with ⟨rfl,_⟩ | ⟨g',cap,aM,rfl,hb,_⟩
 ·cases hg
 ·cases hg; exact hb
theorem mz' {T E:TypeId}{i:TypeInfo}{z v:Value}{x:Operand}(hu:P.underlying T=some (.slice E))(hi:P.info? E=some i)(hz:i.zero=some z)(hs:i.size=1)(_:z.cells.size=1)(hx:ev F x=v)(hk:bR n x=true)(hv:v.cells.toList=[v])(hv2:v.cells.size=1)
 (h:wpList P ops Q rest (fr n (dF F d (.slice (some ⟨w.heap.size,0,none⟩) 1 1))) (w.alloc (.cells #[v] E))) :
 wpList P ops Q (⟨d,.buildSlice T 1 #[(0,x)],ty,pos,bV,none⟩::rest) (fr n F) w:=by
 refine gH rfl (.slice (some ⟨w.heap.size,0,none⟩) 1 1) (w.alloc (.cells #[v] E)) ?_ h;have yY:=XI 1 (Nat.zero_lt_one) [v] 0 (((Array.range 1).map (z.cells[·%z.cells.size]!)).toList) (by simp) (by simp [hv2])
 simp only [Nat.zero_mul,List.take_zero,Mj',Array.toArray_toList] at yY;show Sem.run P (do pure (Next.value (<- Instr.buildSlice T 1 (#[(0,x)].map λ(i,x)=>(i,(fr n F).eval x))))) w=_
 have he:(#[((0:Nat),x)].map λ(i,x)=>(i,(fr n F).eval x))=#[(0,v)]:=by simp [dx hk,hx]
 rw [he];have hrun:(Instr.buildSlice T 1 #[(0,v)]).run P w=.ok (.slice (some ⟨w.heap.size,0,none⟩) 1 1) (w.alloc (.cells #[v] E)):=by
  unfold Instr.buildSlice;simp only [List.zipIdx_cons,List.zipIdx_nil,LJ',List.map_nil] at yY;rw [<- hs] at yY;simp only [Sem.run_bind,run_underlying hu,Result.andThen_ok,sizeOf,typeInfo,run_program,hi,Sem.run_pure,hs,NF',if_neg (show ¬ (1:Nat)>2^24 by decide),if_neg (show ¬ (1:Nat)=0 by decide),zeroValue,hz,newRow]
  rw [hs] at yY;simp only [yY,Sem.run_pure,Result.andThen_ok,Sem.run_bind,run_newObj];simp [hv]
 rw [Sem.run_bind,hrun];rfl
end
end Go.Qx
section
open Go.Proofs.Tryz renaming prog->KZ'
open Go.Proofs.Tryz
namespace Go.Qx
open Go Go.RowKit Go.Sx
set_option maxHeartbeats 1600000
set_option maxRecDepth 100000
abbrev eB (b:Nat):Value:=.pointer (some ⟨b,0,none⟩)
theorem Xy:FX KZ' 163 0 0:=⟨_,_,underlying163,rfl,rfl,by kernel_rfl⟩
theorem QS:FX KZ' 163 1 1:=⟨_,_,underlying163,rfl,rfl,by kernel_rfl⟩
theorem ig':iJ KZ' 160:=⟨_,underlying160,rfl,by kernel_rfl⟩
theorem iV':iJ KZ' 161:=⟨_,underlying161,rfl,by kernel_rfl⟩
theorem mU' (x:Value)(w:World):(callFunc 214 [x].toArray).run KZ' w=.ok (.value x) w:=by
 have hn:Extern.findNext f214=none:=by kernel_rfl
 have he:Extern.find f214=some Extern.AbiNoEscape.same:=by kernel_rfl
 rw [run_callFunc_extern func214 (by kernel_rfl) (by kernel_rfl) hn he]
 rfl
theorem ei' {b B:Nat}{bs:List Value}{p:Value}{w:World}(hp:p=.pointer none\/p=eB b)(h:Lib.BuilderAt 163 5 B b p bs w) :
 Calls KZ' 178 [eB b].toArray w λe w'=>e=.returned (.tuple #[])/\Lib.BuilderAt 163 5 B b (eB b) bs w'/\Bw B w w':=by
 obtain ⟨j,hj,hjs⟩:∃ j,KZ'.info? 163=some j/\j.size=2:=Mx'.1 (by kernel_rfl)
 obtain ⟨hB,v,hb,hown,hne⟩:=h;have c0:w.cell? ⟨b,0,none⟩=some p:=by simp [World.cell?,hb]
 refine Wz 20 func178 rfl rfl rfl ?_;refine wp_seq (wp_region_lit ?_);refine jZ (eB b) rfl rfl ?_;refine wM ⟨b,0,none⟩ rfl rfl ?_;refine rW b 0 0 0 rfl rfl Xy rfl ?_;refine om b 0 p rfl rfl (vo ig' c0) ?_;rcases hp with rfl | rfl
 ·refine vv (.pointer none) (.pointer none) (.bool true) rfl rfl rfl rfl (jd' underlying160) ?_;refine wpList_nil (iM ?_);refine Ki rfl rfl rfl (wp_region_lit ?_);refine jZ (eB b) rfl rfl ?_;refine jZ (eB b) rfl rfl ?_;have hsh:w.shape? b=some (163,2):=by simp [World.shape?,hb]
  refine jB' rfl rfl (Lib.run_to_unsafe (e:=163) (cells:=2) w ⟨b,0,none⟩ underlying160 underlying228 hj (by rw [hjs]; decide) hsh (Nat.zero_lt_succ 1)) ?_
  refine rG' [eB b] (eB b) rfl rfl (mU' _ w) ?_;refine jB' rfl rfl (Lib.run_from_unsafe (e:=163) (cells:=2) w ⟨b,0,none⟩ underlying228 underlying160 hj hsh (by kernel_rfl)) ?_
  refine wM ⟨b,0,none⟩ rfl rfl ?_;refine rW b 0 0 0 rfl rfl Xy rfl ?_;refine VU (cs:=[.pointer none,v]) hb 0 (eB b) rfl rfl rfl rfl rfl (by kernel_rfl) rfl (Nat.zero_lt_succ 1) ?_
  refine wpList_nil (iC' rfl ⟨rfl,⟨hB,v,?_,?_,hne⟩,Bw.setCells hB 0 _ w⟩)
  ·have:=LY b 163 [eB b] 0 w [.pointer none,v] hb (Nat.le_succ 1);exact this
  ·obtain ⟨h1,h2⟩:=hown;refine ⟨h1,h2.imp id λ⟨g,cap,aM,e,hg,hh,r⟩=>⟨g,cap,aM,e,hg,?_,r⟩⟩;rw [FZ b _ 0 w g (by rintro rfl; rw [e] at hne; exact hne rfl)]
   exact hh
 ·refine vv (eB b) (.pointer none) (.bool false) rfl rfl rfl rfl (jd' underlying160) ?_;refine wpList_nil (iM ?_);refine GY rfl rfl rfl (wp_seq (wp_region_lit ?_));refine jZ (eB b) rfl rfl ?_;refine wM ⟨b,0,none⟩ rfl rfl ?_;refine rW b 0 0 0 rfl rfl Xy rfl ?_;refine om b 0 (eB b) rfl rfl (vo ig' c0) ?_;refine jZ (eB b) rfl rfl ?_;refine vv (eB b) (eB b) (.bool false) rfl rfl rfl rfl (vq' underlying160 hj) ?_;refine wpList_nil (iM ?_);refine GY rfl rfl rfl (wp_skip (iC' rfl ⟨rfl,⟨hB,v,hb,hown,hne⟩,Bw.refl B w⟩))
theorem eo':mV KZ' 178:=⟨_,_,func178,rfl,by kernel_rfl⟩
theorem Yu {b B:Nat}{bs:List Value}{w:World}(h:Lib.IsBuilder 163 5 B b bs w):∃ p,(p=.pointer none\/p=eB b)/\Lib.BuilderAt 163 5 B b p bs w :=
 h.elim (λh=>⟨_,.inl rfl,h⟩) (λh=>⟨_,.inr rfl,h⟩)
theorem aD' {b B:Nat}{cs:List Value}{w w':World}{v v':Value}(hB:B<=b)(hb:w.heap[b]?=some (.cells #[eB b,v] 163 (0,0)))(hne:v.ownBlock≠some b)(hg:w.grownBy w' v.ownBlock)(hown:w'.ownsRow B 5 1 v' cs.length cs)(hne':v'.ownBlock≠some b) :
 w'.heap[b]?=some (.cells #[eB b,v] 163 (0,0))/\Lib.BuilderAt 163 5 B b (eB b) cs (w'.setCells b 1 [v']):=by
 have hlt:b<w.heap.size:=(MI'.1 hb).1;have h1:w'.heap[b]?=some (.cells #[eB b,v] 163 (0,0)):=by rw [hg.block b hlt λe=>hne e.symm]; exact hb
 refine ⟨h1,hB,v',?_,?_,hne'⟩
 ·exact LY b 163 [v'] 1 w' [eB b,v] h1 (Lg' 2)
 ·obtain ⟨a1,a2⟩:=hown;refine ⟨a1,a2.imp id λ⟨g,cap,aM,e,hg,hh,r⟩=>⟨g,cap,aM,e,hg,?_,r⟩⟩;rw [FZ b _ 1 w' g (by rintro rfl; rw [e] at hne'; exact hne' rfl)]
  exact hh
theorem cW' {b B:Nat}{T:TypeId}{cs:List Value}{w w':World}{v v':Value}{n:Nat}(hlt:b<w.heap.size)(hb:w.heap[b]?=some (.cells #[eB b,v] 163 (0,0)))(hne:v.ownBlock≠some b)(hg:w.grownBy w' v.ownBlock)(hown:w'.ownsRow B 5 1 v' n cs):v'.ownBlock≠some b:=by
 intro e;rcases hown.2 with ⟨rfl,_⟩ | ⟨g,cap,aM,rfl,_,hh,_⟩
 ·cases e
 ·cases e;rw [hg.block g hlt λe=>hne e.symm,hb] at hh;cases hh
theorem bws {b B:Nat}{bs:List Value}{s:ByteArray}{w:World}(h:Lib.IsBuilder 163 5 B b bs w)(hlen:bs.length+s.size<=1000000000)(hBw:B<=w.heap.size) :
 Calls KZ' 124 [eB b,.string s].toArray w λe w'=>(∃ v,e=.returned v)/\Lib.BuilderAt 163 5 B b (eB b) (bs++Lib.strCells s) w'/\Bw B w w':=by
 obtain ⟨p,hp,h⟩:=Yu h;obtain ⟨i,hi,hz⟩:∃ i,KZ'.info? 5=some i/\(i.zero,i.size,i.bytes)=(some (.int .u8 0),1,1):=Mx'.1 (by kernel_rfl)
 simp only [Prod.mk.injEq] at hz;refine Wz 19 func124 rfl rfl rfl ?_;refine wp_seq (wp_region_lit ?_);refine sj (.int .i64 0) rfl rfl ?_;refine sj .nilIface rfl rfl ?_;refine wpList_nil (iM (wp_seq (wp_region_lit ?_)));refine jZ (eB b) rfl rfl ?_;refine AP [eB b] rfl rfl eo' (ei' hp h) ?_;rintro e w1 ⟨rfl,hat,hbw⟩;refine ⟨_,rfl,?_⟩;refine wpList_nil (iM (wp_seq (wp_region_lit ?_)));obtain ⟨hB,v,hb,hown,hne⟩:=hat;have c1:w1.cell? ⟨b,1,none⟩=some v:=by simp [World.cell?,hb]
 have hlt:b<w1.heap.size:=(MI'.1 hb).1;refine jZ (eB b) rfl rfl ?_;refine jZ (eB b) rfl rfl ?_;refine wM ⟨b,0,none⟩ rfl rfl ?_;refine rW b 0 1 1 rfl rfl QS rfl ?_;refine om b 1 v rfl rfl (vo iV' c1) ?_;refine jZ (.string s) rfl rfl ?_;obtain ⟨v',w2,hr,hown',hg,_⟩:=Lib.run_append_own_string (P:=KZ') (w:=w1) B 161 9 161 5 i underlying161 underlying9 hi hz.1 hz.2.1 hz.2.2 v bs.length bs hown s (by unfold maxLen; omega) (by omega) (Lr' hBw hbw.below.size)
 refine gB' rfl rfl rfl rfl hr ?_;have hd:=CO _ hr;have hl:bs.length+s.size=(bs++Lib.strCells s).length:=by rw [Lf',Lib.strCells_length]
 rw [hl] at hown';have hne':=cW' (T:=5) hlt hb hne hg hown';obtain ⟨hb2,ZY⟩:=aD' hB hb hne hg hown' hne';refine wM ⟨b,0,none⟩ rfl rfl ?_;refine rW b 0 1 1 rfl rfl QS rfl ?_;have hv1:v'.cells.toList=[v']/\v'.oneCell'=true:=by
  rcases hown'.2 with ⟨rfl,_⟩ | ⟨g,cap,aM,rfl,_⟩
  ·exact ⟨rfl,rfl⟩
  ·exact ⟨rfl,rfl⟩
 refine VU (cs:=[eB b,v]) hb2 1 v' rfl rfl rfl rfl hv1.1 (by kernel_rfl) hv1.2 (Nat.lt_succ_self 1) ?_
 refine wpList_nil (iM (wp_seq (wp_region_lit ?_)));refine jZ (.string s) rfl rfl ?_;refine fH' s rfl rfl underlying9 ?_;refine sj (.int .i64 (s.size:Int)) rfl rfl ?_;refine sj .nilIface rfl rfl ?_;refine wpList_nil (iM (wp_ret (xD' (.int .i64 (s.size:Int)) .nilIface rfl rfl rfl rfl rfl ⟨⟨_,rfl⟩,ZY,?_⟩)));exact hbw.trans ((Bw.grown hg hd (eQ' hown) (Lr' hBw hbw.below.size)).trans (Bw.setCells hB 1 _ w2))
theorem bwb {b B:Nat}{bs:List Value}{c:Int}{w:World}(h:Lib.IsBuilder 163 5 B b bs w)(hlen:bs.length+1<=1000000000)(hBw:B<=w.heap.size) :
 Calls KZ' 123 [eB b,.int .u8 c].toArray w λe w'=>(∃ v,e=.returned v)/\Lib.BuilderAt 163 5 B b (eB b) (bs++[.int .u8 c]) w'/\Bw B w w':=by
 obtain ⟨p,hp,h⟩:=Yu h;obtain ⟨i,hi,hz⟩:∃ i,KZ'.info? 5=some i/\(i.zero,i.size,i.bytes)=(some (.int .u8 0),1,1):=Mx'.1 (by kernel_rfl)
 simp only [Prod.mk.injEq] at hz;refine Wz 17 func123 rfl rfl rfl ?_;refine wp_seq (wp_region_lit ?_);refine sj .nilIface rfl rfl ?_;refine wpList_nil (iM (wp_seq (wp_region_lit ?_)));refine jZ (eB b) rfl rfl ?_;refine AP [eB b] rfl rfl eo' (ei' hp h) ?_;rintro e w1 ⟨rfl,hat,hbw⟩;refine ⟨_,rfl,?_⟩;refine wpList_nil (iM (wp_seq (wp_region_lit ?_)));obtain ⟨hB,v,hb,hown,hne⟩:=hat;have c1:w1.cell? ⟨b,1,none⟩=some v:=by simp [World.cell?,hb]
 have hlt:b<w1.heap.size:=(MI'.1 hb).1;refine jZ (eB b) rfl rfl ?_;refine jZ (eB b) rfl rfl ?_;refine wM ⟨b,0,none⟩ rfl rfl ?_;refine rW b 0 1 1 rfl rfl QS rfl ?_;refine om b 1 v rfl rfl (vo iV' c1) ?_;refine jZ (.int .u8 c) rfl rfl ?_;refine mz' (v:=.int .u8 c) underlying161 hi hz.1 hz.2.1 rfl rfl rfl rfl rfl ?_;have Bp:Bw B w1 (w1.alloc (.cells #[.int .u8 c] 5)):=⟨(Below.refl _ _).alloc (Lr' hBw hbw.below.size) _,Lg' _⟩;have hb1:(w1.alloc (.cells #[.int .u8 c] 5)).heap[b]?=some (.cells #[eB b,v] 163 (0,0)):=by rw [heap_alloc_old _ _ hlt]; exact hb
 have hown1:(w1.alloc (.cells #[.int .u8 c] 5)).ownsRow B 5 1 v bs.length bs:=by obtain ⟨a1,a2⟩:=hown;refine ⟨a1,a2.imp id λ⟨g,cap,aM,e,hg,hh,r⟩=>⟨g,cap,aM,e,hg,?_,r⟩⟩;rw [heap_alloc_old _ _ (MI'.1 hh).1];exact hh
 have hlt1:b<(w1.alloc (.cells #[.int .u8 c] 5)).heap.size:=(MI'.1 hb1).1;have hBw1:=Lr' (Lr' hBw hbw.below.size) Bp.below.size;obtain ⟨v',w2,hr,hown',hg,_⟩:=run_append_own (P:=KZ') (w:=w1.alloc (.cells #[.int .u8 c] 5)) B 161 161 5 i (.int .u8 0) 1 1 underlying161 hi hz.1 hz.2.1 hz.2.2 rfl Nat.zero_lt_one v bs.length bs hown1 ⟨w1.heap.size,0,none⟩ 1 1 [.int .u8 c] rfl (λj u hj=>by
  have hj0:j=0:=by
   rcases j with _ | j
   ·rfl
   ·simp at hj
  subst hj0;simp at hj;subst hj;rw [show (Addr.add ⟨w1.heap.size,0,none⟩ 0:Addr)=⟨w1.heap.size,0,none⟩ from rfl,World.cell?,heap_alloc_new]
  rfl) (λu hu=>by simp at hu; subst hu; rfl) (by unfold maxLen; omega) (by omega) hBw1
 refine gB' rfl rfl rfl rfl hr ?_;have hd:=CO _ hr;rw [show bs.length+1=(bs++[Value.int .u8 c]).length by simp] at hown'
 have hne':=cW' (T:=5) hlt1 hb1 hne hg hown';obtain ⟨hb2,ZY⟩:=aD' hB hb1 hne hg hown' hne';refine wM ⟨b,0,none⟩ rfl rfl ?_;refine rW b 0 1 1 rfl rfl QS rfl ?_;have hv1:v'.cells.toList=[v']/\v'.oneCell'=true:=by
  rcases hown'.2 with ⟨rfl,_⟩ | ⟨g,cap,aM,rfl,_⟩
  ·exact ⟨rfl,rfl⟩
  ·exact ⟨rfl,rfl⟩
 refine VU (cs:=[eB b,v]) hb2 1 v' rfl rfl rfl rfl hv1.1 (by kernel_rfl) hv1.2 (Nat.lt_succ_self 1) ?_
 refine wpList_nil (iM (wp_seq (wp_region_lit ?_)));refine sj .nilIface rfl rfl ?_;refine wpList_nil (iM (wp_ret (DK' .nilIface rfl rfl rfl ⟨⟨_,rfl⟩,ZY,?_⟩)));exact hbw.trans (Bp.trans ((Bw.grown hg hd (eQ' hown1) hBw1).trans (Bw.setCells hB 1 _ w2)))
end Go.Qx
end
namespace Go.Proofs
open Go.RowKit
set_option maxRecDepth 100000
set_option maxHeartbeats 4000000 in
theorem Tryz.bstr1 {b g cap:Nat}{aM:Array Value}{p:Value}{l:List UInt8}{w:World}(hb:w.heap[b]?=some (.cells #[p,.slice (some ⟨g,0,none⟩) l.length cap] 163 (0,0)))(hg:w.heap[g]?=some (.cells aM 5 (0,0)))
 (h0:l≠[]) (hnc:l.length<=cap) (hcs:aM.size=cap) (hcm:l.length<=1000000000) (hc:∀ (j:Nat) (x:UInt8),l[j]?=some x->aM[j]?=some (Value.int IntKind.u8 (x.toNat:Int))) :
 Calls Tryz.prog 126 #[.pointer (some ⟨b,0,none⟩)] w λe w'=>e=.returned (.string ⟨l.toArray⟩)/\w'=w.drew.freeze ⟨g,0,none⟩ l.length:=by
 have hl0:l.length≠0:=by simpa using h0
 have hb':w.drew.heap[b]?=some (.cells #[p,.slice (some ⟨g,0,none⟩) l.length cap] 163 (0,0)):=hb;have hg':w.drew.heap[g]?=some (.cells aM 5 (0,0)):=hg;have c1:w.drew.cell? ⟨b,1,none⟩=some (.slice (some ⟨g,0,none⟩) l.length cap):=by simp [World.cell?,hb']
 have hSD:(Builtin.unsafeSliceData_ #[161] 203 #[.slice (some ⟨g,0,none⟩) l.length cap]).run Tryz.prog w.drew=.ok (.pointer (some ⟨g,0,none⟩)) w.drew :=
  Lib.run_unsafeSliceData_row _ _ _ _ _ _ (by omega)
 have hUS:(Builtin.unsafeString_ #[203,3] 9 #[.pointer (some ⟨g,0,none⟩),.int .i64 l.length]).run Tryz.prog w.drew=.ok (.string ⟨l.toArray⟩) (w.drew.freeze ⟨g,0,none⟩ l.length) :=
  Lib.run_unsafeString_row w.drew 203 3 9 5 Tryz.underlying203 (by kernel_rfl) g aM.size (by simp [World.shape?,hg']) l h0 (by omega) (by omega) (λj x hx=>by
   have:=hc j x hx;have e:((⟨g,0,none⟩:Addr).add j)=⟨g,j,none⟩:=by rcases j with _ | j<;>simp [Addr.add]
   rw [e];simp [World.cell?,hg',this])
 go_enter Tryz.func126,Tryz.ntmps126
 go_wp2
 go_region
 all_goals (go_wp2; go_ret; exact ⟨rfl,rfl⟩)
set_option maxHeartbeats 4000000 in
theorem Tryz.bstr0 {b:Nat}{p:Value}{w:World}(hb:w.heap[b]?=some (.cells #[p,.slice none 0 0] 163 (0,0))) :
 Calls Tryz.prog 126 #[.pointer (some ⟨b,0,none⟩)] w λe w'=>e=.returned (.string ⟨#[]⟩)/\w'=w.drew:=by
 have hb':w.drew.heap[b]?=some (.cells #[p,.slice none 0 0] 163 (0,0)):=hb;have c1:w.drew.cell? ⟨b,1,none⟩=some (.slice none 0 0):=by simp [World.cell?,hb']
 have hSD:(Builtin.unsafeSliceData_ #[161] 203 #[.slice none 0 0]).run Tryz.prog w.drew=.ok (.pointer none) w.drew:=Lib.run_unsafeSliceData_nil _ _ _ _ _;have hUS:(Builtin.unsafeString_ #[203,3] 9 #[.pointer none,.int .i64 0]).run Tryz.prog w.drew=.ok (.string .empty) w.drew:=Lib.run_unsafeString_none _ _ _ _ _
 go_enter Tryz.func126,Tryz.ntmps126
 go_wp2
 go_region
 all_goals (go_wp2; go_ret; exact ⟨rfl,rfl⟩)
end Go.Proofs
namespace Go.Qx
open Go Go.RowKit Go.Sx
section
variable {I:TypeId->Type} [∀ E,Rp (I E)] {P:Program}{tb:aX I}{X X':bZ}{c c':Cx}{σ τ:S}{s:St I}{n:Nat}{F:Fr}
abbrev jv (I:TypeId->Type)(k:Kd):Type:=List (ByteArray×Ty I k)
def hH' (tb:aX I)(TA TB:TypeId)(ka kb:Kd)(rs:List Kd)(rl:List ResultVar):Ex->St I->Option (jl I rs×jv I ka×jv I kb):=λe s=>match e with
 | .exit _=>none
 | _=>(pG tb s rl).bind λa=>(ug tb s.O rs a).bind λx=>bif lS x.2 then (match s.O 0,s.O 1 with
   | some (some (.map mH _ ma)),some (some (.map l7 _ mb))=>(pW (T:=TA) (T':=mH) (kd:=ka) ma).bind λya=>(pW (T:=TB) (T':=l7) (kd:=kb) mb).bind λyb=>some (x.1,ya,yb)
   | _,_=>none) else none
def VK (tb:aX I)(TA TB:TypeId)(ka kb:Kd)(ks:List Kd)(nt:Nat)(ma:jv I ka)(mb:jv I kb)(q:jl I ks):St I :=
 ⟨nt,λi=>(PV.agg [.mp 0,.mp 1]::oh tb ks q)[i]?,λl=>bif Lm' l 0 then some (some (.map TA ka ma)) else bif Lm' l 1 then some (some (.map TB kb mb)) else none,2⟩
def BX (tb:aX I)(TA TB:TypeId)(ka kb:Kd)(ks rs:List Kd)(run:jv I ka->jv I kb->jl I ks->Option (jl I rs×jv I ka×jv I kb))(_:fQ I)(ρ:Type)(O:aN I)(_:Nat)(ps:List (PV I))(k:Ef I->Option ρ):Option ρ:=match ps with
 | .agg [.mp la,.mp lb]::r=>match O la,O lb with
   | some (some (.map mH _ ma)),some (some (.map l7 _ mb))=>bif Lm' la lb then none else (pW (T:=TA) (T':=mH) (kd:=ka) ma).bind λya=>(pW (T:=TB) (T':=l7) (kd:=kb) mb).bind λyb =>
      (ug tb O ks r).bind λq=>(run ya yb q.1).bind λx=>k ⟨mJ (oh tb rs x.1),bQ O q.2++[(la,some (.map TA ka x.2.1)),(lb,some (.map TB kb x.2.2))],[]⟩
   | _,_=>none
 | _=>none
theorem mA' (ht:bT P tb){N7:fQ I}(hd0:lY P N7)(hmx:P.follows .mixedOrders=true){f:FuncId}{fn:Func}{TA TB:TypeId}{ka kb:Kd}{ks rs:List Kd}{nt:Nat}{cd:Code}{rl:List ResultVar}{H:Hints I}
 {run:jv I ka->jv I kb->jl I ks->Option (jl I rs×jv I ka×jv I kb)}
 (hf : P.funcs[f]? = some fn) (hb : fn.body = some cd) (hname : (fn.name == "runtime.NumGoroutine") = false) (hn : fn.ntmps = nt) (hres : fn.results.toList = rl) (hle : Nat.ble (ks.length + 1) nt = true) (hcode : kJ H cd 1 = true)
 (hex:run=λma mb q=>nN tb N7 H cd 1 (jl I rs×jv I ka×jv I kb) (VK tb TA TB ka kb ks nt ma mb q) (hH' tb TA TB ka kb rs rl)) :
 zf P (⟨f,BX tb TA TB ka kb ks rs run⟩:oN I):=by
 refine ⟨λaH ρ O nb ps k=>?_,λaH hd O nb ps ef he=>?_⟩
 ·show BX tb TA TB ka kb ks rs run aH ρ O nb ps k=(BX tb TA TB ka kb ks rs run aH (Ef I) O nb ps some).bind k;unfold BX;split
  ·rename_i la lb r;split
   ·cases Lm' la lb
    ·simp only [cond_false,LX',KY']
    ·rfl
   ·rfl
  ·rfl
 ·intro X c σ s n F vs hX hO h hvs hfree;have he':BX tb TA TB ka kb ks rs run aH (Ef I) O nb ps some=some ef:=he;unfold BX at he';split at he'
  ·rename_i la lb r;split at he'
   ·rename_i mH qj ma l7 oZ mb hoa gq;cases hab:Lm' la lb with
    | true=>rw [hab] at he'; cases he'
    | false =>
    rw [hab] at he';simp only [cond_false] at he';have hne:la≠lb:=λe=>by subst e; simp at hab
    obtain ⟨ya,hya,he'⟩:=bind_some he';obtain ⟨yb,hyb,he'⟩:=bind_some he';obtain ⟨q,hq,he'⟩:=bind_some he';obtain ⟨x,hx,he'⟩:=bind_some he';cases he';obtain ⟨ea,eTa,rfl⟩:=wP hya;subst ea;subst eTa;obtain ⟨eb,eTb,rfl⟩:=wP hyb;subst eb;subst eTb;obtain ⟨σ1,p1,p2,p3,p4,p5,p6⟩:=h.pubs hO q.2;have xI:∀ {l:Nat} {T:TypeId} {kd:Kd} {m:jv I kd},O l=some (some (.map T kd m))->(aZ s O q.2).O l=some (some (.map T kd m)):=λ{l T kd m} ho=>by
     have:(aZ s O q.2).O l=s.O l:=by
      show dD s.O (bQ O q.2) l=s.O l;apply pU;intro hm;have hp:∀ {ls:List Nat},l∈iK (bQ O ls)->∃ E,∃ xs:List (I E),O l=some (some (.row E xs false)):=by
       intro ls
       induction ls with
       | nil=>intro h; simp [bQ,iK] at h
       | cons a r ih =>
         intro h;simp only [bQ] at h;split at h
         ·rename_i E xs e;simp only [iK,LJ',Lq'] at h;rcases h with rfl | h
          ·exact ⟨E,xs,e⟩
          ·exact ih h
         ·exact ih h
      obtain ⟨E,xs,e⟩:=hp hm;rw [ho] at e;cases e
     rw [this]; exact hO l _ ho
    have hsa:=xI hoa;have hsb:=xI gq;have zh:=aB.step p2 _ _ hvs;simp only [aB] at zh;obtain ⟨v0,vs',rfl,hv0,JO'⟩:=zh;have hdv:=FY ht p4 hq (λl hl=>hl) JO';obtain ⟨ba,xO,Ua⟩:=p3.bB la _ hsa;obtain ⟨bb,zD,Ub⟩:=p3.bB lb _ hsb;have hbne:ba≠bb:=λe=>hne (p3.inj la lb _ _ ba ⟨_,hsa⟩ ⟨_,hsb⟩ xO zD rfl (by rw [e]))
    have JP':v0=.agg [Value.map (some ba),Value.map (some bb)].toArray:=by
     simp only [RV,RG] at hv0;obtain ⟨cs,e,a1,r1,e1,h1,a2,r2,e2,h2,h3⟩:=hv0;rcases h1 with h1 | ⟨_,w1,f1,g1⟩
     ·exact absurd h1 (by simp [vK])
     rcases h2 with h2 | ⟨_,w2,f2,g2⟩
     ·exact absurd h2 (by simp [vK])
     obtain ⟨b1,u1,m1,n1⟩:=g1;obtain ⟨b2,u2,m2,n2⟩:=g2;rw [xO] at m1;cases m1;rw [zD] at m2;cases m2;rw [e,e1,f1,e2,f2,h3,n1,n2];rfl
    let X0:bZ:=⟨P,σ1.N,λb=>b=ba\/b=bb⟩
    let c0:Cx:=λl=>bif Lm' l 0 then some ⟨some ⟨ba,0,none⟩,0,0,some ba⟩ else bif Lm' l 1 then some ⟨some ⟨bb,0,none⟩,0,0,some bb⟩ else none
    have iF:∀ {l:Nat} {o:Ob I},(VK tb mH l7 qj oZ ks nt ma mb q.1).O l=some (some o)->(l=0/\o=.map mH qj ma)\/(l=1/\o=.map l7 oZ mb):=λ{l o} ho=>by
     have ho':(bif Lm' l 0 then some (some (Ob.map mH qj ma)) else bif Lm' l 1 then some (some (.map l7 oZ mb)) else none)=some (some o):=ho
     cases h0:Lm' l 0 with
     | true=>rw [h0] at ho'; cases ho'; exact .inl ⟨Li' h0,rfl⟩
     | false =>
       rw [h0] at ho';cases h1:Lm' l 1 with
       | true=>rw [h1] at ho'; cases ho'; exact .inr ⟨Li' h1,rfl⟩
       | false=>rw [h1] at ho'; cases ho'
    have hvd:aB X0 c0 σ1 (oh tb ks q.1) vs':=Hr ht hdv;have ze:Rel X0 c0 σ1 (VK tb mH l7 qj oZ ks nt ma mb q.1) nt (gZ (v0::vs')):=by
     refine ⟨rfl,λi p hp=>?_,λl o ho=>?_,λl l' p p' b ⟨o,ho⟩ ⟨o',ho'⟩ hc hc' hw hw'=>?_,λl p b ⟨o,ho⟩ hc hw=>?_,λl hl=>?_,⟨Lg' _,λE=>Lr' (p3.base.2 E) p3.base.1⟩,mo.DR λl E E' u xs q e=>?_⟩
     ·have iG:aB X0 c0 σ1 (.agg [.mp 0,.mp 1]::oh tb ks q.1) (v0::vs'):=by
       simp only [aB];refine ⟨v0,vs',rfl,?_,hvd⟩;simp only [RV];refine ⟨_,JP',?_⟩;simp only [RG];exact ⟨[.map (some ba)],[.map (some bb)],rfl,.inr ⟨rfl,_,rfl,by simp only [RV]; exact ⟨ba,_,rfl,rfl⟩⟩,[.map (some bb)],[],rfl,.inr ⟨rfl,_,rfl,by simp only [RV]; exact ⟨bb,_,rfl,rfl⟩⟩,rfl⟩
      obtain ⟨v,hv,hr⟩:=aB.at_ _ _ iG i p hp;have:gZ (v0::vs') i=v:=by simp [gZ,Ms',hv]
      rw [this]; exact hr
     ·rcases iF ho with ⟨rfl,rfl⟩ | ⟨rfl,rfl⟩
      ·exact ⟨ba,rfl,Ua⟩
      ·exact ⟨bb,rfl,Ub⟩
     ·rcases iF ho with ⟨rfl,rfl⟩ | ⟨rfl,rfl⟩<;>rcases iF ho' with ⟨rfl,rfl⟩ | ⟨rfl,rfl⟩
      ·rfl
      ·cases hc; cases hc'; cases hw; cases hw'; exact absurd rfl hbne
      ·cases hc; cases hc'; cases hw; cases hw'; exact absurd rfl hbne
      ·rfl
     ·rcases iF ho with ⟨rfl,rfl⟩ | ⟨rfl,rfl⟩
      ·cases hc; cases hw; exact .inr (.inl rfl)
      ·cases hc; cases hw; exact .inr (.inr rfl)
     ·have hl':(bif Lm' l 0 then some (some (Ob.map mH qj ma)) else bif Lm' l 1 then some (some (.map l7 oZ mb)) else none)=(none:Option (Option (Ob I))):=hl
      show (bif Lm' l 0 then some _ else bif Lm' l 1 then some _ else none)=none
      cases h0:Lm' l 0 with
      | true=>rw [h0] at hl'; cases hl'
      | false =>
        rw [h0] at hl';cases h1:Lm' l 1 with
        | true=>rw [h1] at hl'; cases hl'
        | false=>rfl
     ·rcases iF e with ⟨_,e⟩ | ⟨_,e⟩<;>cases e
    have hle':=LG' hle;have hlen:vs'.length=ks.length:=by
     have h1:=aB.len _ _ hvd;have h2:∀ (ks:List Kd) (q:jl I ks),(oh tb ks q).length=ks.length:=by
      intro ks
      induction ks with
      | nil=>intro q; rfl
      | cons k r ih=>intro q; simp only [oh,Ld']; rw [ih]
     rw [h1,h2]
    have hcall:kX P f (v0::vs') σ1 (Stp X0.M σ1) λv τ=>∃ (s':St I) (c2:Cx) (F':Fr) (ws:List Value) (zs:List (PV I)),Rel X0 c2 τ s' nt F'/\Cx.le c0 c2/\s'.O 0=some (some (.map mH qj x.2.1))/\s'.O 1=some (some (.map l7 oZ x.2.2))/\v=jU ws/\qI τ rs x.1 ws:=by
     refine .inl ⟨⟨fn,_,hf,hb,hname⟩,calls_of_wp hf hb ?_⟩;have e:(⟨(v0::vs').toArray++Nz' (fn.ntmps-(v0::vs').toArray.size) undef,[]⟩:Act)=fr nt (gZ (v0::vs')):=by
      rw [hn];simp only [fr];congr 1;apply Array.ext
      ·simp; omega
      ·intro i h1 h2;simp only [MX',gZ,Nn'];split
       ·rename_i hi; simp at hi; simp [Ms',Lb' (show i<(v0::vs').length by simp; omega)]
       ·rename_i hi; simp at hi; simp [Ms',LR' (l:=v0::vs') (show (v0::vs').length<=i by simp; omega)]
     rw [e];rw [hex] at hx;refine oG ht hd0 hmx cd 1 hcode _ _ _ _ X0 _ σ1 _ _ rfl hx ze λex s' c2 τ F' hfin hle2 hr st _=>?_;have key:hH' tb mH l7 qj oZ rs rl .normal s'=some x->∃ v,(results fn (fr nt F').tmps).run P τ.w=.ok v τ.w/\∃ v' τ',Ending.returned v=.returned v'/\τ'.w=τ.w/\Stp X0.M σ1 τ'/\∃ (s':St I) (c2:Cx) (F':Fr) (ws:List Value) (zs:List (PV I)),Rel X0 c2 τ' s' nt F'/\Cx.le c0 c2/\s'.O 0=some (some (.map mH qj x.2.1))/\s'.O 1=some (some (.map l7 oZ x.2.2))/\v'=jU ws/\qI τ' rs x.1 ws:=by
      intro hh;have hh':((pG tb s' rl).bind λa=>(ug tb s'.O rs a).bind λx=>bif lS x.2 then (match s'.O 0,s'.O 1 with
       | some (some (.map TA0 ka0 ma0)),some (some (.map TB0 kb0 mb0))=>(pW (T:=mH) (T':=TA0) (kd:=qj) ma0).bind λya=>(pW (T:=l7) (T':=TB0) (kd:=oZ) mb0).bind λyb=>some (x.1,ya,yb)
       | _,_=>none) else none)=some x:=hh
      obtain ⟨zs,z1,hh'⟩:=bind_some hh';obtain ⟨y,z2,hh'⟩:=bind_some hh';obtain ⟨z3,hh'⟩:=bA hh';obtain ⟨ws,w1,w2⟩:=C8 ht hr z1;have hnil:y.2=[]:=by
       revert z3;cases y.2 with
       | nil=>intro _; rfl
       | cons a r=>intro h; cases h
      obtain ⟨τ2,t1,t2,t3,t4,_,t6⟩:=hr.pubs (O:=s'.O) (λ_ _ h=>h) [];have N8:=FY ht t4 z2 (λl hl=>by rw [hnil] at hl; cases hl) (aB.step t2 _ _ w1)
      split at hh'
      ·rename_i TA0 ka0 ma0 TB0 kb0 mb0 o1 o2;obtain ⟨yy,u1,hh'⟩:=bind_some hh';obtain ⟨yz,u2,hh'⟩:=bind_some hh';cases hh';obtain ⟨g1,g2,rfl⟩:=wP u1;subst g1;subst g2;obtain ⟨g1,g2,rfl⟩:=wP u2;subst g1;subst g2;exact ⟨jU ws,KR (by rw [hres]; exact w2),jU ws,τ2,rfl,t1,st.trans t2,aZ s' s'.O [],c2,F',ws,zs,t3,hle2,(t6 0 (by simp)).trans o1,(t6 1 (by simp)).trans o2,rfl,N8⟩
      ·cases hh'
     cases ex with
     | exit i=>cases hfin
     | normal =>obtain ⟨v,h1,v',τ',h2,h3⟩:=key hfin;exact ⟨rfl,v,h1,v',τ',h2,h3⟩
     | ret =>obtain ⟨v,h1,v',τ',h2,h3⟩:=key hfin;exact ⟨rfl,v,h1,v',τ',h2,h3⟩
    refine hcall.mono p1.symm λv τ st ⟨s',c2,F',ws,zs,hr,hle2,o1,o2,hv,hds⟩=>?_;subst hv;have hMa:X.M ba:=p3.mine la _ ba ⟨_,hsa⟩ xO rfl;have Bb:X.M bb:=p3.mine lb _ bb ⟨_,hsb⟩ zD rfl;have q1:=p3.kill (l:=la) ⟨_,hsa⟩;have JS':(bG (aZ s O q.2) la none).O lb=some (some (.map l7 oZ mb)):=(fq (λe=>hne e.symm)).trans hsb;have q2:=q1.kill (l:=lb) ⟨_,JS'⟩;have hlive:∀ {l':Nat},bH (bG (bG (aZ s O q.2) la none) lb none) l'->l'≠la/\l'≠lb/\bH (aZ s O q.2) l':=λ{l'} ⟨o,ho⟩=>by
     rcases dM ho with ⟨_,e⟩ | ⟨e1,ho⟩
     ·cases e
     ·rcases dM ho with ⟨_,e⟩ | ⟨e2,ho⟩
      ·cases e
      ·exact ⟨e2,e1,o,ho⟩
    have uw:∀ b,X0.M b->X.M b:=λb hb=>by
     rcases hb with hb | rfl | rfl
     ·exact .inl (Lr' p3.base.1 hb)
     ·exact hMa
     ·exact Bb
    have hn:∀ l p g,bH (bG (bG (aZ s O q.2) la none) lb none) l->c l=some p->p.w=some g->¬ X0.M g:=λl p g hl hc hw hg=>by
     obtain ⟨e1,e2,o,ho⟩:=hlive hl;rcases hg with hg | rfl | rfl
     ·have:=(p3.bB l o ho).lt hc hw;have hg':σ1.N<=g:=hg;omega
     ·exact e1 (p3.inj l la p _ g ⟨o,ho⟩ ⟨_,hsa⟩ hc xO hw rfl)
     ·exact e2 (p3.inj l lb p _ g ⟨o,ho⟩ ⟨_,hsb⟩ hc zD hw rfl)
    have hi:∀ g,X0.M g->eD c σ1 (bG (bG (aZ s O q.2) la none) lb none) g:=λg hg=>by
     have hni:eD c σ1 (aZ s O q.2) g:=by
      rcases hg with hg | rfl | rfl
      ·exact p3.fresh hg
      ·exact p3.owned ⟨_,hsa⟩ xO rfl
      ·exact p3.owned ⟨_,hsb⟩ zD rfl
     exact (hni.set (l:=la) (o:=none)).set
    have q3:Rel X c τ (bG (bG (aZ s O q.2) la none) lb none) n F:=q2.stepG st uw hn hi;have hi3:∀ g,X0.M g->eD c τ (bG (bG (aZ s O q.2) la none) lb none) g:=λg hg=>(hi g hg).step q2 st hn hi;obtain ⟨ba',j1,j2⟩:=hr.bB 0 _ o1;have j3:c2 0=some ⟨some ⟨ba,0,none⟩,0,0,some ba⟩:=hle2 0 _ rfl;rw [j3] at j1;cases j1;obtain ⟨bb',i1,i2⟩:=hr.bB 1 _ o2;have i3:c2 1=some ⟨some ⟨bb,0,none⟩,0,0,some bb⟩:=hle2 1 _ rfl;rw [i3] at i1;cases i1;have q4:=q3.Io (l:=la) (o:=.map mH qj x.2.1) ⟨ba,xO,j2⟩ λp g hc hw=>by rw [xO] at hc;cases hc;cases hw;exact ⟨hMa,hi3 ba (.inr (.inl rfl)),λl' p' _ hl' hc' hw'=>hn l' p' ba hl' hc' hw' (.inr (.inl rfl))⟩
    have q5:=q4.Io (l:=lb) (o:=.map l7 oZ x.2.2) ⟨bb,zD,i2⟩ λp g hc hw=>by
     rw [zD] at hc;cases hc;cases hw;refine ⟨Bb,(hi3 bb (.inr (.inr rfl))).set,λl' p' _ ⟨o',hl'⟩ hc' hw'=>?_⟩;rcases dM hl' with ⟨e,_⟩ | ⟨_,hl'⟩
     ·subst e;rw [xO] at hc';cases hc';cases hw';exact hbne rfl
     ·exact hn l' p' bb ⟨o',hl'⟩ hc' hw' (.inr (.inr rfl))
    have hend:jQ s nb ⟨mJ (oh tb rs x.1),bQ O q.2++[(la,some (.map mH qj x.2.1)),(lb,some (.map l7 oZ x.2.2))],[]⟩=bG (bG (bG (bG (aZ s O q.2) la none) lb none) la (some (.map mH qj x.2.1))) lb (some (.map l7 oZ x.2.2)):=by
     have Dz:dD s.O (bQ O q.2++[(la,some (.map mH qj x.2.1)),(lb,some (.map l7 oZ x.2.2))])=cB (cB (cB (cB (dD s.O (bQ O q.2)) la none) lb none) la (some (.map mH qj x.2.1))) lb (some (.map l7 oZ x.2.2)):=by rw [oD];simp only [dD];funext i;simp only [cB];cases Lm' i lb<;>cases Lm' i la<;>rfl
     show (⟨s.n,s.F,dD s.O (bQ O q.2++[(la,some (.map mH qj x.2.1)),(lb,some (.map l7 oZ x.2.2))]),s.nx⟩:St I)=_;rw [Dz];rfl
    refine ⟨τ,rfl,p2.trans (st.mono λb _ hb=>uw b hb),c,Cx.le_refl c,by rw [hend]; exact q5,?_⟩
    exact FC (Hr ht hds)
   ·cases he'
  ·cases he'
def bw' (tb:aX I)(rs:List Kd)(rl:List ResultVar):Ex->St I->Option (jl I rs):=λe s=>match e with
 | .exit _=>none
 | _=>(pG tb s rl).bind λa=>(ug tb s.O rs a).bind λx=>bif lS x.2 then some x.1 else none
def Wv (tb:aX I)(TV TA TB:TypeId)(ka kb k1:Kd)(nt:Nat)(ma:jv I ka)(mb:jv I kb)(q:Ty I k1):St I :=
 ⟨nt,λi=>[oC tb k1 q,.ptr 0 0][i]?,λl=>bif Lm' l 0 then some (some (.var TV [.mp 1,.mp 2] false)) else bif Lm' l 1 then some (some (.gU TA ka ma)) else bif Lm' l 2 then some (some (.gU TB kb mb)) else none,3⟩
def Mh (O:aN I)(l:Nat)(T:TypeId)(kd:Kd):Option (jv I kd):=match O l with
 | some (some (.map T' _ m))=>pW (T:=T) (T':=T') (kd:=kd) m
 | some (some (.gU T' _ m))=>pW (T:=T) (T':=T') (kd:=kd) m
 | _=>none
omit [∀ E,Rp (I E)] in
theorem zL' {O:aN I}{l:Nat}{T:TypeId}{kd:Kd}{m:jv I kd}(h:Mh O l T kd=some m):O l=some (some (.map T kd m))\/O l=some (some (.gU T kd m)):=by
 unfold Mh at h;split at h
 ·rename_i T' kd' m' e;obtain ⟨e1,e2,rfl⟩:=wP h;subst e1;subst e2;exact .inl e
 ·rename_i T' kd' m' e;obtain ⟨e1,e2,rfl⟩:=wP h;subst e1;subst e2;exact .inr e
 ·cases h
theorem ah' {l:Nat}{T:TypeId}{kd:Kd}{m:jv I kd}(hr:Rel X c σ s n F)(h:s.O l=some (some (.map T kd m))\/s.O l=some (some (.gU T kd m))):∃ b w,c l=some ⟨some ⟨b,0,none⟩,0,0,w⟩/\qA σ kd m b:=by
 rcases h with h | h
 ·obtain ⟨b,h1,h2⟩:=hr.bB l _ h;exact ⟨b,_,h1,h2⟩
 ·obtain ⟨b,h1,h2,_⟩:=hr.bB l _ h;exact ⟨b,_,h1,h2⟩
def Cn (tb:aX I)(TV TA TB:TypeId)(ka kb k1:Kd)(rs:List Kd)(run:jv I ka->jv I kb->Ty I k1->Option (jl I rs))(_:fQ I)(ρ:Type)(O:aN I)(_:Nat)(ps:List (PV I))(k:Ef I->Option ρ):Option ρ:=match ps with
 | [p,.ptr l 0]=>match O l with
   | some (some (.var T [.mp la,.mp lb] _))=>bif Lm' T TV then (Mh O la TA ka).bind λya=>(Mh O lb TB kb).bind λyb =>
      (uR tb O k1 p).bind λq=>bif lS q.2 then (run ya yb q.1).bind λx=>k ⟨mJ (oh tb rs x),[],[]⟩ else none else none
   | _=>none
 | _=>none
theorem rP' (ht:bT P tb){N7:fQ I}(hd0:lY P N7)(hmx:P.follows .mixedOrders=true){f:FuncId}{fn:Func}{TV TA TB:TypeId}{ka kb k1:Kd}{rs:List Kd}{nt:Nat}{cd:Code}{rl:List ResultVar}{H:Hints I}
 {run:jv I ka->jv I kb->Ty I k1->Option (jl I rs)}
 (hf : P.funcs[f]? = some fn) (hb : fn.body = some cd) (hname : (fn.name == "runtime.NumGoroutine") = false) (hn : fn.ntmps = nt) (hres : fn.results.toList = rl) (hle : Nat.ble 2 nt = true) (hcode : kJ H cd 1 = true)
 (hex:run=λma mb q=>nN tb N7 H cd 1 (jl I rs) (Wv tb TV TA TB ka kb k1 nt ma mb q) (bw' tb rs rl)) :
 zf P (⟨f,Cn tb TV TA TB ka kb k1 rs run⟩:oN I):=by
 refine ⟨λaH ρ O nb ps k=>?_,λaH hd O nb ps ef he=>?_⟩
 ·show Cn tb TV TA TB ka kb k1 rs run aH ρ O nb ps k=(Cn tb TV TA TB ka kb k1 rs run aH (Ef I) O nb ps some).bind k;unfold Cn;split
  ·split
   ·rename_i T la lb w e;cases Lm' T TV
    ·rfl
    ·simp only [cond_true,LX'];congr 1;funext ya;congr 1;funext yb;congr 1;funext q;cases lS q.2
     ·rfl
     ·simp only [cond_true,LX',KY']
   ·rfl
  ·rfl
 ·intro X c σ s n F vs hX hO h hvs hfree;have he':Cn tb TV TA TB ka kb k1 rs run aH (Ef I) O nb ps some=some ef:=he;unfold Cn at he';split at he'
  ·rename_i p l;split at he'
   ·rename_i T la lb w hol;obtain ⟨hT,hf'⟩:=bA he';clear he';have he':=hf';clear hf';have hT':=Li' hT;clear hT he;subst hT';obtain ⟨ya,hya,he'⟩:=bind_some he';obtain ⟨yb,hyb,he'⟩:=bind_some he';obtain ⟨q,hq,he'⟩:=bind_some he';obtain ⟨hnl,he'⟩:=bA he';obtain ⟨x,hx,he'⟩:=bind_some he';cases he';have hnl:=tH hnl;obtain ⟨σ1,p1,p2,p3',p4,p5,p6⟩:=h.pubs hO [];have p3:Rel X c σ1 s n F:=p3';have zh:=aB.step p2 _ _ hvs;simp only [aB] at zh;obtain ⟨v0,vs',rfl,hv0,v1,vs'',rfl,hv1,rfl⟩:=zh;have hdv:DV σ1 k1 q.1 v0:=yI ht p4 (ls:=q.2) hq (λl hl=>by rw [hnl] at hl; exact hl) hv0
    have hsO:∀ {l:Nat} {T:TypeId} {kd:Kd} {m:jv I kd},Mh O l T kd=some m->s.O l=some (some (.map T kd m))\/s.O l=some (some (.gU T kd m)):=λh=>(zL' h).imp (hO _ _) (hO _ _);obtain ⟨ba,wa,xO,Ua⟩:=ah' p3 (hsO hya);obtain ⟨bb,wb,zD,Ub⟩:=ah' p3 (hsO hyb);obtain ⟨bv,cs,l1,l2,l3,_,_⟩:=p3.bB l _ (hO l _ hol);have JV':v1=.pointer (some ⟨bv,0,none⟩):=by simp only [RV] at hv1;obtain ⟨b,w,e1,e2⟩:=hv1;rw [l1] at e1;cases e1;exact e2
    have hcs:cs=[Value.map (some ba),Value.map (some bb)]:=by
     simp only [RG] at l2;obtain ⟨a1,r1,e1,h1,a2,r2,e2,h2,h3⟩:=l2;rcases h1 with h1 | ⟨_,w1,f1,g1⟩
     ·exact absurd h1 (by simp [vK])
     rcases h2 with h2 | ⟨_,w2,f2,g2⟩
     ·exact absurd h2 (by simp [vK])
     simp only [RV] at g1 g2;obtain ⟨b1,u1,m1,n1⟩:=g1;obtain ⟨b2,u2,m2,n2⟩:=g2;rw [xO] at m1;cases m1;rw [zD] at m2;cases m2;rw [e1,f1,e2,f2,h3,n1,n2];rfl
    let X0:bZ:=⟨P,σ1.N,λ_=>False⟩
    let c0:Cx:=λl=>bif Lm' l 0 then some ⟨some ⟨bv,0,none⟩,0,0,none⟩ else bif Lm' l 1 then some ⟨some ⟨ba,0,none⟩,0,0,none⟩ else bif Lm' l 2 then some ⟨some ⟨bb,0,none⟩,0,0,none⟩ else none
    have hM0:∀ {b:Nat},b<σ1.N->¬ X0.M b:=λ{b} hlt hm=>by
     rcases hm with hm | hm
     ·have:σ1.N<=b:=hm;omega
     ·exact hm
    have iF:∀ {l:Nat} {o:Ob I},(Wv tb T TA TB ka kb k1 nt ya yb q.1).O l=some (some o)->(l=0/\o=.var T [.mp 1,.mp 2] false)\/(l=1/\o=.gU TA ka ya)\/(l=2/\o=.gU TB kb yb):=λ{l o} ho=>by
     have ho':(bif Lm' l 0 then some (some (Ob.var T [.mp 1,.mp 2] false)) else bif Lm' l 1 then some (some (Ob.gU TA ka ya)) else bif Lm' l 2 then some (some (.gU TB kb yb)) else none)=some (some o):=ho
     cases h0:Lm' l 0 with
     | true=>rw [h0] at ho'; cases ho'; exact .inl ⟨Li' h0,rfl⟩
     | false =>
       rw [h0] at ho';cases h1:Lm' l 1 with
       | true=>rw [h1] at ho'; cases ho'; exact .inr (.inl ⟨Li' h1,rfl⟩)
       | false =>
         rw [h1] at ho';cases h2:Lm' l 2 with
         | true=>rw [h2] at ho'; cases ho'; exact .inr (.inr ⟨Li' h2,rfl⟩)
         | false=>rw [h2] at ho'; cases ho'
    have hcn:∀ {l:Nat} {p:Pl} {g:Nat},c0 l=some p->p.w=some g->False:=λ{l p g} hc hw=>by
     have hc':(bif Lm' l 0 then some (⟨some ⟨bv,0,none⟩,0,0,none⟩:Pl) else bif Lm' l 1 then some ⟨some ⟨ba,0,none⟩,0,0,none⟩ else bif Lm' l 2 then some ⟨some ⟨bb,0,none⟩,0,0,none⟩ else none)=some p:=hc
     cases h0:Lm' l 0 with
     | true=>rw [h0] at hc'; cases hc'; cases hw
     | false =>
       rw [h0] at hc';cases h1:Lm' l 1 with
       | true=>rw [h1] at hc'; cases hc'; cases hw
       | false =>
         rw [h1] at hc';cases h2:Lm' l 2 with
         | true=>rw [h2] at hc'; cases hc'; cases hw
         | false=>rw [h2] at hc'; cases hc'
    have ze:Rel X0 c0 σ1 (Wv tb T TA TB ka kb k1 nt ya yb q.1) nt (gZ [v0,v1]):=by
     refine ⟨rfl,λi p hp=>?_,λl o ho=>?_,λl l' p p' b _ _ hc _ hw _=>(hcn hc hw).elim,λl p b _ hc hw=>(hcn hc hw).elim,λl hl=>?_,⟨Lg' _,λE=>Lr' (p3.base.2 E) p3.base.1⟩,mo.DR λl E E' u xs q e=>?_⟩
     ·have iG:aB X0 c0 σ1 [oC tb k1 q.1,.ptr 0 0] [v0,v1]:=by
       simp only [aB];refine ⟨v0,[v1],rfl,CZ ht hdv,v1,[],rfl,?_,rfl⟩;simp only [RV];exact ⟨bv,none,rfl,JV'⟩
      obtain ⟨v,hv,hr⟩:=aB.at_ _ _ iG i p hp;have:gZ [v0,v1] i=v:=by simp [gZ,Ms',hv]
      rw [this]; exact hr
     ·rcases iF ho with ⟨rfl,rfl⟩ | ⟨rfl,rfl⟩ | ⟨rfl,rfl⟩
      ·refine ⟨bv,cs,rfl,?_,l3,λe=>(by cases e),λ_=>hM0 (jJ l3)⟩
       rw [hcs];simp only [RG];exact ⟨[.map (some ba)],[.map (some bb)],rfl,.inr ⟨rfl,_,rfl,by simp only [RV]; exact ⟨ba,_,rfl,rfl⟩⟩,[.map (some bb)],[],rfl,.inr ⟨rfl,_,rfl,by simp only [RV]; exact ⟨bb,_,rfl,rfl⟩⟩,rfl⟩
      ·exact ⟨ba,rfl,Ua,hM0 Ua.lt⟩
      ·exact ⟨bb,rfl,Ub,hM0 Ub.lt⟩
     ·have hl':(bif Lm' l 0 then some (some (Ob.var T [.mp 1,.mp 2] false)) else bif Lm' l 1 then some (some (Ob.gU TA ka ya)) else bif Lm' l 2 then some (some (.gU TB kb yb)) else none)=(none:Option (Option (Ob I))):=hl
      show (bif Lm' l 0 then some _ else bif Lm' l 1 then some _ else bif Lm' l 2 then some _ else none)=none
      cases h0:Lm' l 0 with
      | true=>rw [h0] at hl'; cases hl'
      | false =>
        rw [h0] at hl';cases h1:Lm' l 1 with
        | true=>rw [h1] at hl'; cases hl'
        | false =>
          rw [h1] at hl';cases h2:Lm' l 2 with
          | true=>rw [h2] at hl'; cases hl'
          | false=>rfl
     ·rcases iF e with ⟨_,e⟩ | ⟨_,e⟩ | ⟨_,e⟩<;>cases e
    have hle':=LG' hle;have hcall:kX P f [v0,v1] σ1 (Stp X0.M σ1) λv τ=>∃ ws,v=jU ws/\qI τ rs x ws:=by
     refine .inl ⟨⟨fn,_,hf,hb,hname⟩,calls_of_wp hf hb ?_⟩;have e:(⟨([v0,v1]:List Value).toArray++Nz' (fn.ntmps-([v0,v1]:List Value).toArray.size) undef,[]⟩:Act)=fr nt (gZ [v0,v1]):=by
      rw [hn];simp only [fr];congr 1;apply Array.ext
      ·simp; omega
      ·intro i h1 h2;simp only [MX',gZ,Nn'];split
       ·rename_i hi; simp at hi; simp [Ms',Lb' (show i<([v0,v1]:List Value).length by simp; omega)]
       ·rename_i hi; simp at hi; simp [Ms',LR' (l:=[v0,v1]) (show ([v0,v1]:List Value).length<=i by simp; omega)]
     rw [e];rw [hex] at hx;refine oG ht hd0 hmx cd 1 hcode _ _ _ _ X0 _ σ1 _ _ rfl hx ze λex s' c2 τ F' hfin hle2 hr st _=>?_;have key:bw' tb rs rl .normal s'=some x->∃ v,(results fn (fr nt F').tmps).run P τ.w=.ok v τ.w/\∃ v' τ',Ending.returned v=.returned v'/\τ'.w=τ.w/\Stp X0.M σ1 τ'/\∃ ws,v'=jU ws/\qI τ' rs x ws:=by
      intro hh;have hh':((pG tb s' rl).bind λa=>(ug tb s'.O rs a).bind λx=>bif lS x.2 then some x.1 else none)=some x:=hh
      obtain ⟨zs,z1,hh'⟩:=bind_some hh';obtain ⟨y,z2,hh'⟩:=bind_some hh';obtain ⟨z3,hh'⟩:=bA hh';cases hh';obtain ⟨ws,w1,w2⟩:=C8 ht hr z1;have hnil:y.2=[]:=by
       revert z3;cases y.2 with
       | nil=>intro _; rfl
       | cons a r=>intro h; cases h
      obtain ⟨τ2,t1,t2,t3,t4,_,t6⟩:=hr.pubs (O:=s'.O) (λ_ _ h=>h) [];have N8:=FY ht t4 z2 (λl hl=>by rw [hnil] at hl; cases hl) (aB.step t2 _ _ w1)
      exact ⟨jU ws,KR (by rw [hres]; exact w2),jU ws,τ2,rfl,t1,st.trans t2,ws,rfl,N8⟩
     cases ex with
     | exit i=>cases hfin
     | normal =>obtain ⟨v,h1,v',τ',h2,h3⟩:=key hfin;exact ⟨rfl,v,h1,v',τ',h2,h3⟩
     | ret =>obtain ⟨v,h1,v',τ',h2,h3⟩:=key hfin;exact ⟨rfl,v,h1,v',τ',h2,h3⟩
    refine hcall.mono p1.symm λv τ st ⟨ws,hv,hds⟩=>?_;subst hv;have uw:∀ b,X0.M b->X.M b:=λb hb=>by
     rcases hb with hb | hb
     ·exact .inl (Lr' p3.base.1 hb)
     ·exact hb.elim
    have hn:∀ l p g,bH s l->c l=some p->p.w=some g->¬ X0.M g:=λl p g ⟨o,ho⟩ hc hw=>hM0 ((p3.bB l o ho).lt hc hw);have hi:∀ g,X0.M g->eD c σ1 s g:=λg hg=>by
     rcases hg with hg | hg
     ·exact p3.fresh hg
     ·exact hg.elim
    have q3:Rel X c τ s n F:=p3.stepG st uw hn hi;exact ⟨τ,rfl,p2.trans (st.mono λb _ hb=>uw b hb),c,Cx.le_refl c,q3,FC (Hr ht hds)⟩
   ·cases he'
  ·cases he'
end
section
variable {I:TypeId->Type} [∀ E,Rp (I E)] {P:Program}{tb:aX I}{X X':bZ}{c c':Cx}{σ τ:S}{s:St I}{n nb:Nat}{F:Fr}{O:aN I}
mutual
def bV' (nb:Nat):PV I->Bool
 | .ptr l _=>LF' l nb
 | .vw l=>LF' l nb
 | .vp l _ _ _=>LF' l nb
 | .vs l _ _=>LF' l nb
 | .av l _ _=>LF' l nb
 | .mp l=>LF' l nb
 | .qM _ ls=>rH nb ls
 | .xD _ ls=>rH nb ls
 | .agg ls=>rH nb ls
 | .nV ls=>rH nb ls
 | _=>true
def rH (nb:Nat):List (PV I)->Bool
 | []=>true
 | p::r=>bV' nb p&&rH nb r
end
theorem kN {a b:Nat}(h:LF' a b=true):a<b:=by simpa using h
mutual
theorem RV.lt (hc:∀ l p,l<nb->c l=some p->c' l=some p):∀ (p:PV I) (v:Value),bV' nb p=true->RV X c σ p v->RV X c' σ p v
 | .int _ _,_,_,h=>by simp only [RV] at h ⊢; exact h
 | .bool _,_,_,h=>by simp only [RV] at h ⊢; exact h
 | .str _,_,_,h=>by simp only [RV] at h ⊢; exact h
 | .sl _ _ _,_,_,h=>by simp only [RV] at h ⊢; exact h
 | .nl _,_,_,h=>by simp only [RV] at h ⊢; exact h
 | .ptr l _,_,k,h=>by simp only [RV] at h ⊢;obtain ⟨b,w,h1,h2⟩:=h;exact ⟨b,w,hc _ _ (kN k) h1,h2⟩
 | .vw l,_,k,h=>by simp only [RV] at h ⊢;obtain ⟨p,h1,h2⟩:=h;exact ⟨p,hc _ _ (kN k) h1,h2⟩
 | .vp l _ _ _,_,k,h=>by simp only [RV] at h ⊢;obtain ⟨b,q,k',m,w,h1,h2⟩:=h;exact ⟨b,q,k',m,w,hc _ _ (kN k) h1,h2⟩
 | .vs l _ _,_,k,h=>by simp only [RV] at h ⊢;obtain ⟨b,k',m,w,h1,h2⟩:=h;exact ⟨b,k',m,w,hc _ _ (kN k) h1,h2⟩
 | .av l _ _,_,k,h=>by simp only [RV] at h ⊢;obtain ⟨b,k',m,w,h1,h2⟩:=h;exact ⟨b,k',m,w,hc _ _ (kN k) h1,h2⟩
 | .mp l,_,k,h=>by simp only [RV] at h ⊢;obtain ⟨b,w,h1,h2⟩:=h;exact ⟨b,w,hc _ _ (kN k) h1,h2⟩
 | .ep _ _ _,_,_,h=>by simp only [RV] at h ⊢; exact h
 | .dat _ _,_,_,h=>by simp only [RV] at h ⊢; exact h
 | .qM _ ls,_,k,h=>by simp only [RV] at h ⊢;obtain ⟨cs,e,hl⟩:=h;exact ⟨cs,e,aB.lt hc ls cs k hl⟩
 | .xD _ ls,_,k,h=>by simp only [RV] at h ⊢;obtain ⟨cs,e,hl⟩:=h;exact ⟨cs,e,aB.lt hc ls cs k hl⟩
 | .fn _ _ _,_,_,h=>by simp only [RV] at h ⊢; exact h
 | .agg ls,_,k,h=>by simp only [RV] at h ⊢;obtain ⟨cs,e,hl⟩:=h;exact ⟨cs,e,RG.lt hc ls cs k hl⟩
 | .nV ls,_,k,h=>by simp only [RV] at h ⊢;obtain ⟨cs,e,hl⟩:=h;exact ⟨cs,e,aB.lt hc ls cs k hl⟩
 | .undef,_,_,h=>by simp only [RV] at h ⊢; exact h
 | .any,_,_,_=>by simp only [RV]
theorem aB.lt (hc:∀ l p,l<nb->c l=some p->c' l=some p):∀ (ps:List (PV I)) (cs:List Value),rH nb ps=true->aB X c σ ps cs->aB X c' σ ps cs
 | [],_,_,h=>by simp only [aB] at h ⊢; exact h
 | p::ps,_,k,h=>by simp only [aB] at h ⊢;simp only [rH,Lc'] at k;obtain ⟨v,r,e,h1,h2⟩:=h;exact ⟨v,r,e,RV.lt hc p v k.1 h1,aB.lt hc ps r k.2 h2⟩
theorem RG.lt (hc:∀ l p,l<nb->c l=some p->c' l=some p):∀ (ps:List (PV I)) (cs:List Value),rH nb ps=true->RG X c σ ps cs->RG X c' σ ps cs
 | [],_,_,h=>by simp only [RG] at h ⊢; exact h
 | p::ps,_,k,h=>by
   simp only [RG] at h ⊢;simp only [rH,Lc'] at k;obtain ⟨a,r,e,h1,h2⟩:=h;refine ⟨a,r,e,?_,RG.lt hc ps r k.2 h2⟩;rcases h1 with h1 | ⟨h0,v,e1,h1⟩
   ·exact .inl h1
   ·exact .inr ⟨h0,v,e1,RV.lt hc p v k.1 h1⟩
end
def BD (own:List Nat)(nb:Nat)(O:aN I):aN I:=λl=>bif LF' l nb then (match O l with
 | some (some (.aP _ _ _ _ _))=>some none
 | some (some (.row E xs false))=>bif cO l own then some (some (.row E xs false)) else some (some (.bo E xs))
 | some (some (.row E xs true))=>bif cO l own then some (some (.row E xs true)) else some (some (.ro E xs))
 | some (some (.var T ls w))=>some (some (.var T ls (bif cO l own then w else false)))
 | some (some (.map T kd m))=>bif cO l own then some (some (.map T kd m)) else some (some (.gU T kd m))
 | some (some o)=>some (some o)
 | _=>some none) else none
def IY (nb:Nat)(O:aN I):Nat->Bool
 | 0=>true
 | m+1=>(match O m with
   | some (some (.var _ ls _))=>rH nb ls
   | _=>true)&&IY nb O m
structure IH (I:TypeId->Type) where
 W:List (Nat×V)
 H:Hints I
def uM (O:aN I)(W:List (Nat×V)):List (Nat×TypeId×V):=W.filterMap λx=>match O x.1 with
 | some (some (.var T _ true))=>some (x.1,T,x.2)
 | _=>none
def aw' (tb:aX I)(O:aN I)(rk:List Kd)(W:List (Nat×V))(rl:List ResultVar):Ex->St I->Option (jl I rk×mg I [] W):=λe s=>match e with
 | .exit _=>none
 | _=>(pG tb s rl).bind λa=>(ug tb (λ_=>none) rk a).bind λr=>bif lS r.2 then (tZ tb O [] W (W.map (·.1)) s).bind λx=>some (r.1,x) else none
def fv' (O:aN I)(nt nb:Nat)(ps:List (PV I))(own:List Nat):St I:=⟨nt,λi=>ps[i]?,BD own nb O,nb⟩
def nS (O:aN I)(W:List (Nat×V)):List Nat:=W.map (·.1)++(nest O (W.map (·.1))).filter (isRow O)
def Xt (cd:Code)(nt:Nat)(hs:Nat->IH I)(O:aN I)(nb:Nat)(ps:List (PV I)):Bool :=
 (rH nb ps&&IY nb O nb)&&(Mq' ps.length nt&&kJ (hs nb).H cd 1)&&(Lm' (uM O (hs nb).W).length (hs nb).W.length&&(nS O (hs nb).W).all λl=>LF' l nb&&isRow O l)
def eG (tb:aX I)(cd:Code)(nt:Nat)(rl:List ResultVar)(rk:List Kd)(hs:Nat->IH I)(aH:fQ I)(ρ:Type)(O:aN I)(nb:Nat)(ps:List (PV I))(k:Ef I->Option ρ):Option ρ :=
 bif Xt cd nt hs O nb ps then
 (nN tb aH (hs nb).H cd 1 (jl I rk×mg I [] (hs nb).W) (fv' O nt nb ps (nS O (hs nb).W)) (aw' tb O rk (hs nb).W rl)).bind λx =>
  k ⟨mJ (oh tb rk x.1),jr ((nS O (hs nb).W).map some)++kQ (uM O (hs nb).W) (eF tb nb (ja [] (hs nb).W) x.2),fB (ja [] (hs nb).W) x.2⟩ else none
omit [∀ E,Rp (I E)] in
theorem ej':∀ {m l:Nat},IY nb O m=true->l<m->∀ {T ls w},O l=some (some (.var T ls w))->rH nb ls=true
 | 0,_,_,hl,_,_,_,_=>by omega
 | m+1,l,h,hl,T,ls,w,e=>by
   simp only [IY,Lc'] at h;by_cases hm:l=m
   ·subst hm;have:=h.1;rw [e] at this;exact this
   ·exact ej' h.2 (by omega) e
omit [∀ E,Rp (I E)] in
theorem nH' {own:List Nat}{l:Nat}{E E':TypeId}{u q:Nat}{xs:List (I E)}:BD own nb O l≠some (some (.aP E E' u xs q)):=λe=>by
 unfold BD at e;obtain ⟨_,e⟩:=bA e;split at e
 ·cases e
 ·cases hm:cO l own<;>rw [hm] at e<;>cases e
 ·cases hm:cO l own<;>rw [hm] at e<;>cases e
 ·cases e
 ·cases hm:cO l own<;>rw [hm] at e<;>cases e
 ·rename_i e1 e2 e3 e4 e5 e6;cases e;exact e1 _ _ _ _ _ rfl
 ·cases e
theorem CI' (hO:∀ l o,O l=some (some o)->s.O l=some (some o))(h:Rel X c σ s n F){own:List Nat}{nt:Nat}{ps:List (PV I)}{vs:List Value}(hvs:aB X c σ ps vs)(hp:rH nb ps=true)(hc:IY nb O nb=true) :
 ∃ c1:Cx,(∀ l,l<nb->c1 l=dA own c l)/\Rel (eX X c σ s own) c1 σ (fv' O nt nb ps own) nt (gZ vs):=by
 let c1:Cx:=λl=>bif LF' l nb then dA own c l else none
 have e1:∀ l,l<nb->c1 l=dA own c l:=λl hl=>by
  show (bif LF' l nb then _ else _)=_
  rw [show LF' l nb=true by simpa using hl]
  rfl
 have e2:∀ l,¬ l<nb->c1 l=none:=λl hl=>by
  show (bif LF' l nb then _ else _)=_
  cases hb:LF' l nb with
  | true=>exact absurd (kN hb) hl
  | false=>rfl
 have hlt:∀ l p,l<nb->dA own c l=some p->c1 l=some p:=λl p hl hp=>(e1 l hl).trans hp;have hcv:∀ l p,c l=some p->∃ w,dA own c l=some ⟨p.A,p.k,p.m,w⟩:=λl p hp=>by
  unfold dA;cases cO l own with
  | true=>exact ⟨p.w,by simp only [cond_true,hp]⟩
  | false=>exact ⟨none,by simp only [cond_false,hp]; rfl⟩
 have hM:=uO h own;have gq:∀ {l:Nat} {o:Ob I},BD own nb O l=some (some o)->l<nb/\gI (eX X c σ s own) c1 σ l o/\bH s l:=λ{l o} ho=>by
  unfold BD at ho;obtain ⟨hl,ho⟩:=bA ho;have hl:=kN hl;have ec:=e1 l hl;have hcl:∀ {p},cO l own=false->c l=some p->c1 l=some ⟨p.A,p.k,p.m,none⟩:=λhm hp=>by rw [ec]; unfold dA; rw [hm,hp]; rfl
  have hct:∀ {p},cO l own=true->c l=some p->c1 l=some p:=λhm hp=>by rw [ec]; unfold dA; rw [hm]; exact hp
  refine ⟨hl,?_⟩;split at ho
  ·cases ho
  ·rename_i E xs e;have hs:=hO _ _ e;obtain ⟨A,k,ow,k1,k2⟩:=h.bB l _ hs;cases hm:cO l own with
   | true=>rw [hm] at ho; cases ho; exact ⟨⟨A,k,ow,hct hm k1,k2⟩,_,hs⟩
   | false=>rw [hm] at ho; cases ho; exact ⟨⟨A,k,hcl hm k1,jP.kH' k2 λg hg=>yX h ⟨_,hs⟩ (oo.1 hm) k1 hg⟩,_,hs⟩
  ·rename_i E xs e;have hs:=hO _ _ e;obtain ⟨A,k,ow,k1,k2⟩:=h.bB l _ hs;cases hm:cO l own with
   | true=>rw [hm] at ho; cases ho; exact ⟨⟨A,k,ow,hct hm k1,k2⟩,_,hs⟩
   | false=>rw [hm] at ho; cases ho; exact ⟨⟨A,k,hcl hm k1,k2.sl⟩,_,hs⟩
  ·rename_i T ls w e;have hs:=hO _ _ e;obtain ⟨b,cs,k1,k2,k3,k4,k5⟩:=h.bB l _ hs;have hg:RG (eX X c σ s own) c1 σ ls cs:=RG.lt hlt _ _ (ej' hc hl e) (RG.conv (X:=X) (X':=eX X c σ s own) (c:=c) rfl hM hcv _ _ k2)
   cases hm:cO l own with
   | true =>rw [hm] at ho;cases ho;exact ⟨⟨b,cs,hct hm k1,hg,k3,k4,λe hb=>k5 e (hM b hb)⟩,_,hs⟩
   | false =>
     rw [hm] at ho;cases ho;refine ⟨⟨b,cs,hcl hm k1,hg,k3,(λe=>by cases e),λ_=>?_⟩,_,hs⟩
     cases w with
     | true=>exact yX h ⟨_,hs⟩ (oo.1 hm) k1 rfl
     | false=>exact λhb=>k5 rfl (hM b hb)
  ·rename_i T kd m e;have hs:=hO _ _ e;obtain ⟨b,k1,k2⟩:=h.bB l _ hs;cases hm:cO l own with
   | true=>rw [hm] at ho; cases ho; exact ⟨⟨b,hct hm k1,k2⟩,_,hs⟩
   | false=>rw [hm] at ho; cases ho; exact ⟨⟨b,hcl hm k1,k2,yX h ⟨_,hs⟩ (oo.1 hm) k1 rfl⟩,_,hs⟩
  ·rename_i o' n1 n2 n3 n4 n5 e;cases ho;have hs:=hO _ _ e;refine ⟨?_,_,hs⟩;have hx:∀ {p},c l=some p->p.w=none->c1 l=some p:=λ{p} hp hw=>by
    cases hm:cO l own with
    | true=>exact hct hm hp
    | false=>rw [hcl hm hp]; cases p; cases hw; rfl
   cases o with
   | var T ls w=>exact absurd rfl (n4 T ls w)
   | row E xs fl =>
     cases fl with
     | true=>exact absurd rfl (n3 E xs)
     | false=>exact absurd rfl (n2 E xs)
   | aP E E' u xs q=>exact absurd rfl (n1 E E' u xs q)
   | map T kd m=>exact absurd rfl (n5 T kd m)
   | gU T kd m =>obtain ⟨b,k1,k2,k3⟩:=h.bB l _ hs;exact ⟨b,hx k1 rfl,k2,λhb=>k3 (hM b hb)⟩
   | ro E xs =>obtain ⟨A,k,k1,k2⟩:=h.bB l _ hs;exact ⟨A,k,hx k1 rfl,k2⟩
   | bo E xs =>obtain ⟨A,k,k1,k2⟩:=h.bB l _ hs;exact ⟨A,k,hx k1 rfl,k2.sub λb _=>hM b⟩
  ·cases ho
 have hcw:∀ {l p g},l<nb->c1 l=some p->p.w=some g->l∈own/\c l=some p:=λ{l p g} hl hc hw=>by
  rw [e1 l hl] at hc;unfold dA at hc;cases hm:cO l own with
  | true=>rw [hm] at hc; exact ⟨kE.1 hm,hc⟩
  | false =>rw [hm] at hc;simp only [cond_false,Mx'] at hc;obtain ⟨q,_,e⟩:=hc;rw [<- e] at hw;cases hw
 have hargs:aB (eX X c σ s own) c1 σ ps vs:=aB.lt hlt _ _ hp (aB.conv (X:=X) (X':=eX X c σ s own) (c:=c) rfl hM hcv _ _ hvs)
 refine ⟨c1,e1,rfl,λi p hi=>?_,λl o ho=>(gq ho).2.1,λl l' p p' b ⟨o,a1⟩ ⟨o',a2⟩ a3 a4 a5 a6=>?_,λl p b ⟨o,a1⟩ a2 a3=>?_,λl hl=>?_,⟨Lg' _,λE=>Lr' (h.base.2 E) h.base.1⟩,mo.DR λl E E' u xs q e=>nH' e⟩
 ·obtain ⟨v,hv,hr⟩:=aB.at_ _ _ hargs i p hi;have:gZ vs i=v:=by simp [gZ,Ms',hv]
  rw [this]; exact hr
 ·obtain ⟨l1,_,v1⟩:=gq a1;obtain ⟨l2,_,v2⟩:=gq a2;obtain ⟨_,n1⟩:=hcw l1 a3 a5;obtain ⟨_,n2⟩:=hcw l2 a4 a6;exact h.inj l l' p p' b v1 v2 n1 n2 a5 a6
 ·obtain ⟨l1,_,v1⟩:=gq a1;obtain ⟨m1,n1⟩:=hcw l1 a2 a3;exact .inr ⟨l,m1,v1,.inl ⟨p,n1,a3⟩⟩
 ·refine e2 l λhlt=>?_;have hl':BD own nb O l=none:=hl;unfold BD at hl';rw [show LF' l nb=true by simpa using hlt] at hl'
  simp only [cond_true] at hl';split at hl'<;>first | cases hl' | (cases hm:cO l own<;>rw [hm] at hl'<;>cases hl')
omit [∀ E,Rp (I E)] in
theorem kK.mono {τ:S}{cb:Cx}{O0 O1:aN I}(hO:∀ l o,O0 l=some (some o)->O1 l=some (some o)):∀ {W:List (Nat×V)} {wl:List Nat} {us:List Value},kK τ cb O0 W wl us->kK τ cb O1 W wl us
 | [],[],_,h=>h
 | [],_::_,_,h=>h.elim
 | _::_,[],_,h=>h.elim
 | _::_,_::_,_,⟨u,mE,b,T,vs,w,cs,e1,e2,e3,e4,e5,e6,e7⟩=>⟨u,mE,b,T,vs,w,cs,e1,hO _ _ e2,e3,e4,e5,e6,kK.mono hO e7⟩
omit [∀ E,Rp (I E)] in
theorem dj':∀ {W:List (Nat×V)},(uM O W).length=W.length->(uM O W).map (λx=>(x.1,x.2.2))=W/\∀ x∈uM O W,∃ ls,O x.1=some (some (.var x.2.1 ls true))
 | [],_=>⟨rfl,λx hx=>by cases hx⟩
 | y::r,h=>by
   unfold uM at h ⊢;rw [Me'] at h ⊢;have hle:=List.length_filterMap_le (λx:Nat×V=>match O x.1 with
    | some (some (.var T _ true))=>some (x.1,T,x.2)
    | _=>none) r
   split at h
   ·rw [Ld'] at h;omega
   ·rename_i b e;simp only [Ld',Nat.add_right_cancel_iff] at h;obtain ⟨h1,h2⟩:=dj' (W:=r) h;split at e
    ·rename_i T ls e';cases e;refine ⟨by rw [LJ']; exact congrArg _ h1,λx hx=>?_⟩
     rcases Lq'.1 hx with rfl | hx
     ·exact ⟨ls,e'⟩
     ·exact h2 x hx
    ·cases e
theorem fG (ht:bT P tb)(hmx:P.follows .mixedOrders=true){f:FuncId}{fn:Func}{nt:Nat}{cd:Code}{rl:List ResultVar}{rk:List Kd}{hs:Nat->IH I}
 (hf : P.funcs[f]? = some fn) (hb : fn.body = some cd) (hname : (fn.name == "runtime.NumGoroutine") = false) (hn : fn.ntmps = nt) (hres : fn.results.toList = rl) : zf P (⟨f, eG tb cd nt rl rk hs⟩ : oN I) := by
 refine ⟨λaH ρ O nb ps k=>?_,λaH hd O nb ps ef he=>?_⟩
 ·show eG tb cd nt rl rk hs aH ρ O nb ps k=(eG tb cd nt rl rk hs aH (Ef I) O nb ps some).bind k;unfold eG;cases Xt cd nt hs O nb ps
  ·rfl
  ·simp only [cond_true,LX',KY']
 ·intro X c σ s n F vs hX hO h hvs hfree;have he':eG tb cd nt rl rk hs aH (Ef I) O nb ps some=some ef:=he;unfold eG at he';obtain ⟨hck,he'⟩:=bA he';obtain ⟨x,hx,he'⟩:=bind_some he';cases he';simp only [Xt,Lc'] at hck;obtain ⟨⟨⟨q1,q2⟩,q3,q4⟩,q5,q6⟩:=hck;have q3:=LG' q3;have q5:=Li' q5;have hown:∀ l∈nS O (hs nb).W,l<nb/\isRow O l=true:=λl hl=>by have:=Le'.1 q6 l hl;simp only [Lc'] at this;exact ⟨kN this.1,this.2⟩
  have hlive:∀ l∈nS O (hs nb).W,bH s l:=λl hl=>by
   have:=(hown l hl).2;unfold isRow at this;split at this
   ·rename_i e; exact ⟨_,hO _ _ e⟩
   ·rename_i e; exact ⟨_,hO _ _ e⟩
   ·rename_i e; exact ⟨_,hO _ _ e⟩
   ·cases this
  obtain ⟨g1,g2⟩:=dj' q5;obtain ⟨cx,hcx,ze⟩:=CI' (nt:=nt) hO h (own:=nS O (hs nb).W) hvs q1 q2;have hlen:=aB.len _ _ hvs;refine .inl ⟨⟨fn,_,hf,hb,hname⟩,calls_of_wp hf hb ?_⟩;have e:(⟨vs.toArray++Nz' (fn.ntmps-vs.toArray.size) undef,[]⟩:Act)=fr nt (gZ vs):=by
   rw [hn];simp only [fr];congr 1;apply Array.ext
   ·simp; omega
   ·intro i h1 h2;simp only [MX',gZ,Nn'];split
    ·rename_i hi; simp at hi; simp [Ms',Lb' hi]
    ·rename_i hi; simp at hi; simp [Ms',LR' hi]
  rw [e];refine oG ht hd hmx cd 1 q4 _ _ _ _ (eX X c σ s (nS O (hs nb).W)) _ σ _ _ hX hx ze λex s' c2 τ F' hfin hle2 hr st _=>?_;have key:aw' tb O rk (hs nb).W rl .normal s'=some x->∃ v,(results fn (fr nt F').tmps).run P τ.w=.ok v τ.w/\∃ v' τ',Ending.returned v=.returned v'/\τ'.w=τ.w/\Stp X.M σ τ'/\∃ c',Cx.le c c' /\
   Rel X c' τ' (jQ s nb ⟨mJ (oh tb rk x.1),jr ((nS O (hs nb).W).map some)++kQ (uM O (hs nb).W) (eF tb nb (ja [] (hs nb).W) x.2),fB (ja [] (hs nb).W) x.2⟩) n F/\RV X c' τ' (mJ (oh tb rk x.1)) v':=by
   intro hh;have hh':((pG tb s' rl).bind λa=>(ug tb (λ_=>none) rk a).bind λr=>bif lS r.2 then (tZ tb O [] (hs nb).W ((hs nb).W.map (·.1)) s').bind λx=>some (r.1,x) else none)=some x:=hh
   obtain ⟨zs,z1,hh'⟩:=bind_some hh';obtain ⟨y,z2,hh'⟩:=bind_some hh';obtain ⟨z3,hh'⟩:=bA hh';obtain ⟨xx,z4,hh'⟩:=bind_some hh';cases hh';have hnil:=tH z3;obtain ⟨ws,w1,w2⟩:=C8 ht hr z1;have N8:=FY ht iU.none_ z2 (λl hl=>by rw [hnil] at hl; cases hl) w1
   have hcl:∀ l∈(hs nb).W.map (·.1),c2 l=c l:=λl hl=>by
    have hm:l∈nS O (hs nb).W:=LN' _ hl;obtain ⟨o,ho⟩:=hlive l hm;obtain ⟨p,hp⟩:=(h.bB l o ho).place;have h1:cx l=some p:=by rw [hcx l (hown l hm).1];unfold dA;rw [kE.2 hm];exact hp
    rw [hle2 l p h1,hp]
   obtain ⟨τ2,au,us,t1,t2,hfa⟩:=X5 ht hr hcl z4;have st2:=st.trans t2;have hs2:Rel X c σ ⟨s.n,s.F,s.O,nb⟩ n F:=⟨h.len,h.frame,h.bB,h.inj,h.mine,h.jh,h.base,h.aP⟩;have JW':Facts (eX X c σ s (nS O (hs nb).W)).M τ2 c s.O F [] (hs nb).W ((hs nb).W.map (·.1)) xx au us:=⟨hfa.tt,kK.mono hO hfa.cont,hfa.nodup,hfa.own,hfa.Tf⟩
   have hfree':jH s.O nb (fB (ja [] (hs nb).W) xx)=true:=by
    rw [o8] at hfree ⊢;intro l hl;have h0:=hfree l hl;by_cases hk:l∈iK (jr ((nS O (hs nb).W).map some)++kQ (uM O (hs nb).W) (eF tb nb (ja [] (hs nb).W) xx))
    ·exact absurd h0 (BG (O':=s.O) hk).2
    ·rwa [pU hk] at h0
   have hnot:∀ {l},l ∉ (hs nb).W.map (·.1)->l ∉ (nest O ((hs nb).W.map (·.1))).filter (isRow O)->l ∉ nS O (hs nb).W:=λh1 h2 hm=>(Lo'.1 hm).elim h1 h2
   obtain ⟨k1,k2⟩:=build (m:=0) (dead:=(nest O ((hs nb).W.map (·.1))).filter (isRow O)) ht hs2 st2 (uO h (nS O (hs nb).W)) (λ_ _=>rfl) (λl p g hl hnw hnd hc hw=>yX h hl (hnot hnw hnd) hc hw) (λl i g hnw hnd hb=>RF h (hnot hnw hnd) hb) JW' hfree'
   have Ms:dD s.O (jr ((nS O (hs nb).W).map some))=dL (nS O (hs nb).W) s.O:=by
    funext l;rw [Ja (λl hl=>by
     obtain ⟨l',hl',e⟩:=Lx'.1 hl;injection e with e
     subst e;obtain ⟨o,ho⟩:=hlive _ hl';rw [ho]; simp)]
    congr 1;simp
   have hst:fo (dD s.O (jr ((nS O (hs nb).W).map some)++kQ (uM O (hs nb).W) (eF tb nb (ja [] (hs nb).W) xx))) nb (fB (ja [] (hs nb).W) xx) =
    iH s.O (hs nb).W ((hs nb).W.map (·.1)) (eF tb nb (ja [] (hs nb).W) xx) (fo (dL (nS O (hs nb).W) s.O) nb (fB (ja [] (hs nb).W) xx)):=by
    rw [oD,Ms,Rn (O0:=s.O) (gv:=uM O (hs nb).W) λy hy=>?_]
    ·have g3:(uM O (hs nb).W).map (·.1)=(hs nb).W.map (·.1):=by
      rw [<- congrArg (List.map (·.1)) g1,List.map_map]
      rfl
     rw [g1,g3]
    ·obtain ⟨ls,e⟩:=g2 y hy;refine ⟨⟨ls,hO _ _ e⟩,λhm=>?_⟩;have hw:y.1∈(hs nb).W.map (·.1):=by rw [<- g1];exact Lx'.2 ⟨(y.1,y.2.2),Lx'.2 ⟨y,hy,rfl⟩,rfl⟩
     have h1:=(hown y.1 (LN' _ hw)).1;have h2:=(lH.1 hm).1;omega
   refine ⟨jU ws,KR (by rw [hres]; exact w2),jU ws,τ2,rfl,t1,st2.mono λb _ hb=>uO h _ b hb,_,k1,?_,FC (Hr ht (N8.mono t2.eP))⟩
   have hF:uL 0 s.F=s.F:=by funext i;simp [uL]
   have e4:(oF tb ⟨s.n,s.F,s.O,nb⟩ 0 ((nest O ((hs nb).W.map (·.1))).filter (isRow O)) [] (hs nb).W ((hs nb).W.map (·.1)) xx).F=s.F:=hF
   simp only [jQ,hst];exact ⟨k2.len,λi p hp=>k2.frame i p (by rw [e4]; exact hp),k2.bB,k2.inj,k2.mine,k2.jh,k2.base,k2.aP⟩
  cases ex with
  | exit i=>cases hfin
  | normal =>obtain ⟨v,h1,v',τ',h2,h3⟩:=key hfin;exact ⟨rfl,v,h1,v',τ',h2,h3⟩
  | ret =>obtain ⟨v,h1,v',τ',h2,h3⟩:=key hfin;exact ⟨rfl,v,h1,v',τ',h2,h3⟩
end
end Go.Qx
end

/- Part 1. -/
import Derived.Test.YtjbmbpabpaeklaaGreatDoorK0
section
open Array renaming getElem?_toList->iy',length_toList->iM'
open Bool renaming and_eq_true->ik',not_eq_true'->ju'
open List renaming append_assoc->iA',append_nil->jo',getElem?_append_left->iD',getElem?_append_right->iv',getElem?_drop->jj',getElem?_eq_some_iff->ij',getElem?_take_of_lt->iB',length_append->iq',length_cons->iF',length_drop->jd',length_nil->jw',length_take->iI',replicate->iC',size_toArray->jH',take_append->jY',take_append_drop->iW',take_left->jh',take_of_length_le->jM',toArray->je'
open Nat renaming add_assoc->jf',add_mul->jb',add_sub_cancel_left->iY',beq->il',ble_eq_true_of_le->jC',eq_of_beq_eq_true->ii',le_mul_of_pos_right->jJ',le_of_ble_eq_true->iE',le_refl->ip',le_trans->iz',min_eq_left->jO',mul_le_mul_right->iR',one_mul->jW',zero_add->iO',zero_le->iP'
open Option renaming getD_none->kn',getD_some->jr',map_some->jc'
namespace Go.Qx
open Go Go.RowKit Go.Sx
section
variable {I:TypeId->Type} [∀ E,Rp (I E)] {P:Program}{tb:aD I}{X:aY}{c c':Cx}{σ τ:S}{s:St I}{n:Nat}{F:Fr}{O:ay I}
theorem Rel.newVar (h:Rel X c σ s n F){nb:Nat}{T:TypeId}{ls:List (PV I)}{cs:List Value}{b:Nat}(hnb:s.O nb=none)(hE:kM σ τ)(hb:ic σ.N 0 τ b T cs)(hl:RG X c τ ls cs) :
 Cx.le c (dw c nb ⟨some ⟨b,0,none⟩,0,0,some b⟩)/\Rel X (dw c nb ⟨some ⟨b,0,none⟩,0,0,some b⟩) τ (aP s nb (some (.var T ls true))) n F:=by
 have h':=h.step (Stp.ext hE);have hle:Cx.le c (dw c nb ⟨some ⟨b,0,none⟩,0,0,some b⟩):=wI (h.fq nb hnb);refine h'.add hnb (λg hg=>?_) ⟨b,cs,dU _ _ _,RG.grow hle _ _ hl,hb.2.1,λ_=>by rw [hb.2.2],λe=>by cases e⟩
 cases hg;refine ⟨.inl (iz' h.base.1 hb.1),h.zk (Stp.ext hE) hb.1,λl' p' ⟨o,ho⟩ hc hw=>?_⟩;have:=(h.aL l' o ho).lt hc hw;have:=hb.1;omega
theorem Rel.newRow (h:Rel X c σ s n F){nb:Nat}{E:TypeId}{xs:List (I E)}{fl:Bool}{A:Option Addr}{k:Nat}{ow:Option Nat}(hnb:s.O nb=none)(ho:cu ow fl E σ xs A k)
 (hw:∀ g,ow=some g->X.M g/\bQ c σ s g/\∀ l' p',aQ s l'->c l'=some p'->p'.w≠some g) :
 Cx.le c (dw c nb ⟨A,k,xs.length,ow⟩)/\Rel X (dw c nb ⟨A,k,xs.length,ow⟩) σ (aP s nb (some (.row E xs fl))) n F :=
 h.add hnb hw ⟨A,k,ow,dU _ _ _,ho⟩
omit [∀ E,Rp (I E)] in
theorem oU {O:ay I}{nb:Nat}{o:Ob I}(h:gI O nb [o]=true):O nb=none:=by simp only [gI,Bool.and_true] at h;simpa using h
theorem Rel.do' (h:Rel X c σ s n F){nb:Nat}{T:TypeId}{kd:Kd}{m:List (ByteArray×Ty I kd)}(hnb:s.O nb=none)(hE:kM σ τ)(hm:lm τ kd m σ.N) :
 Cx.le c (dw c nb ⟨some ⟨σ.N,0,none⟩,0,0,some σ.N⟩)/\Rel X (dw c nb ⟨some ⟨σ.N,0,none⟩,0,0,some σ.N⟩) τ (aP s nb (some (.map T kd m))) n F:=by
 have h':=h.step (Stp.ext hE);refine h'.add hnb (λg hg=>?_) ⟨σ.N,dU _ _ _,hm⟩;cases hg;refine ⟨.inl h.base.1,h.zk (Stp.ext hE) (ip' _),λl' p' ⟨o,ho⟩ hc hw=>?_⟩;have:=(h.aL l' o ho).lt hc hw;omega
omit [∀ E,Rp (I E)] in
theorem Sr {E:TypeId}{p:PV I}{lo hi mx:Option Operand}{l:Nat}{xs:List (I E)}{y:Operand}(h:EP O E p lo hi mx=some (l,xs,y)):p=.vw l/\lo=none/\hi=some y/\mx=none/\O l=some (some (.row E xs false)):=by
 unfold EP at h;split at h
 ·split at h
  ·rename_i l0 x0 E' HZ ho;replace h:=bind_some h;obtain ⟨ys,hys,h⟩:=h;obtain ⟨e,e'⟩:=iM hys;subst e;subst e';cases h;exact ⟨rfl,rfl,rfl,rfl,ho⟩
  ·cases h
 ·cases h
theorem Wu {T E:TypeId}{A:Option Addr}{len k sz:Nat}{h:Int}{w:World}(h0:0<=h)(hle:h<=(k:Int))(hT:P.underlying T=some (.slice E))(hE:(P.info? E).map (·.size)=some sz) :
 aF P w (Instr.sliceAt T (.slice A len k) none (some (.int .i64 h)) none) (.slice A h.toNat k):=by
 have hsz:=Sx.run_sizeOf hE w;simp only [aF,Instr.sliceAt,Instr.slice,Instr.sliceBounds,Instr.sliceBound,asIntOf,Sem.run_bind,run_underlying hT,Result.andThen_ok,Sem.run_pure,if_pos (And.intro h0 hle),hsz];have e:Option.map (λx:Addr=>x.add (0*sz)) A=A:=by cases A<;>simp [Addr.add]
 rw [e,Nat.sub_zero,Nat.sub_zero];by_cases hk:k=0<;>simp [hk]
omit [∀ E,Rp (I E)] in
theorem VJ {E:TypeId}{p:PV I}{lo hi mx:Option Operand}{l:Nat}{xs:List (I E)}{y:Operand}(h:Dr O E p lo hi mx=some (l,xs,y)):p=.vw l/\lo=some y/\hi=none/\mx=none/\O l=some (some (.row E xs false)):=by
 unfold Dr at h;split at h
 ·split at h
  ·rename_i l0 x0 E' HZ ho;replace h:=bind_some h;obtain ⟨ys,hys,h⟩:=h;obtain ⟨e,e'⟩:=iM hys;subst e;subst e';cases h;exact ⟨rfl,rfl,rfl,rfl,ho⟩
  ·cases h
 ·cases h
theorem Ce {q:PV I}{j:Int}{v:Value}(hj:fD q=some j)(hv:RV X c σ q v):v=.int .i64 j:=by
 unfold fD at hj;split at hj
 ·cases hj; simpa only [RV] using hv
 ·cases hj
theorem GU {T:TypeId}{s t:ByteArray}{w:World}(l h:Option Int)(hT:P.underlying T=some .string)(hc:yA s (l.getD 0) (h.getD (s.size:Int))=some t) :
 aF P w (Instr.sliceAt T (.string s) (l.map λj=>.int .i64 j) (h.map λj=>.int .i64 j) none) (.string t):=by
 unfold yA at hc;split at hc
 ·rename_i hb;cases hc;obtain ⟨h0,h1,h2⟩:=hb;cases l with
  | none =>
    cases h with
    | none =>simp only [aF,Instr.sliceAt,Instr.slice,Instr.sliceBounds,Sem.run_bind,run_underlying hT,Result.andThen_ok,Option.map_none,kn'];simp
    | some j =>simp only [jr',kn'] at h0 h1 h2;simp only [aF,Instr.sliceAt,Instr.slice,Instr.sliceBounds,Instr.sliceBound,asIntOf,Sem.run_bind,run_underlying hT,Result.andThen_ok,Option.map_none,jc',jr',kn'];simp;intro a;exact absurd (a h1) (by omega)
  | some i =>
    cases h with
    | none =>simp only [jr',kn'] at h0 h1 h2;simp only [aF,Instr.sliceAt,Instr.slice,Instr.sliceBounds,Instr.sliceBound,asIntOf,Sem.run_bind,run_underlying hT,Result.andThen_ok,Option.map_none,jc',jr',kn'];simp;intro a;exact absurd (a h0) (by omega)
    | some j =>
      simp only [jr'] at h0 h1 h2;have h3:i<=((j.toNat:Nat):Int):=by omega
      simp only [aF,Instr.sliceAt,Instr.slice,Instr.sliceBounds,Instr.sliceBound,asIntOf,Sem.run_bind,run_underlying hT,Result.andThen_ok,jc',jr'];simp;rw [if_pos (And.intro (Int.le_trans h0 h1) h2),if_pos (And.intro h0 (by omega))]
 ·cases hc
omit [∀ E,Rp (I E)] in
theorem Zq {T:TypeId}{p v:PV I}{lo hi mx:Option Operand}(h:Gi tb T p lo hi mx=some v):∃ l o E m k,p=.ptr l o/\lo=none/\hi=none/\mx=none/\v=.av l o m/\tb.arr T=some (E,m,k):=by
 unfold Gi at h;split at h
 ·replace h:=bind_some h;obtain ⟨⟨E,m,k⟩,ha,h⟩:=h;cases h;exact ⟨_,_,E,m,k,rfl,rfl,rfl,rfl,rfl,ha⟩
 ·cases h
theorem WA {T E:TypeId}{b o m k:Nat}{w:World}(hT:P.underlying T=some (.array m E))(hE:(P.info? E).map (·.size)=some k) :
 aF P w (Instr.sliceAt T (.pointer (some ⟨b,o,none⟩)) none none none) (.slice (some ⟨b,o,none⟩) m m):=by
 have hsz:=Sx.run_sizeOf hE w;simp only [aF,Instr.sliceAt,Instr.sureAddr,Instr.sliceBounds,Sem.run_bind,run_underlying hT,Result.andThen_ok,Sem.run_pure,hsz];simp [Addr.add_mid]
theorem LG (ht:aV P tb){O:ay I}{LS:List Nat}(hS:eX X c σ O LS){E:TypeId}:∀ {m:Nat} {ls:List (PV I)} {xs:List (I E)} {ps:List Nat} {cs:List Value},Ht tb O E m ls=some (xs,ps)->(∀ l∈ps,l∈LS)->RG X c σ ls cs->xs.length=m/\∃ d e,cs=d++e/\bE σ xs d
 | 0,_,_,_,cs,h,_,_=>by cases h; exact ⟨rfl,[],cs,rfl,rfl⟩
 | m+1,ls,xs,ps,cs,h,hl,hg=>by
   replace h:=bind_some h;obtain ⟨r,hr,h⟩:=h;replace h:=bind_some h;obtain ⟨x,hx,h⟩:=h;replace h:=bind_some h;obtain ⟨t,pE,h⟩:=h;cases h;obtain ⟨c1,c2,rfl,k1,k2,k3⟩:=pW ht (a:=r.1) (b:=r.2) hr hg;have hd:=qb ht hS (ls:=x.2) hx (λl hm=>hl l (by simp [hm])) (sj k2)
   obtain ⟨q1,d,e,rfl,q2⟩:=LG ht hS (ps:=t.2) pE (λl hm=>hl l (by simp [hm])) k3
   obtain ⟨cx,e1,e2⟩:=hd;have:c1=cx:=by
    injection e1 with e1
    have:=congrArg Array.toList e1;simpa using this
   subst this;exact ⟨by simp [q1],c1++d,e,by rw [iA'],c1,d,rfl,e2,q2⟩
theorem Ww (ht:aV P tb){O:ay I}{s1:St I}(h:Rel X c σ s1 n F){LS:List Nat}(hS:eX X c σ O LS){E:TypeId}{p:PV I}{x:List (I E)}{ls:List Nat}(hx:FU tb O E p=some (x,ls))(hl:∀ l∈ls,l∈LS)
 (hO:∀ l T vs w,O l=some (some (.var T vs w))->l ∉ ls->s1.O l=some (some (.var T vs w))) {v:Value} (hv:RV X c σ p v):∃ A k,v=.slice A x.length k/\gu l5 σ x A:=by
 unfold FU at hx;split at hx
 ·rename_i l o m;split at hx
  ·rename_i T vs w ho;replace hx:=bind_some hx;obtain ⟨q,hq,hx⟩:=hx;replace hx:=bind_some hx;obtain ⟨t,pE,hx⟩:=hx;cases hel:t.2.elem l with
   | true=>rw [hel] at hx; cases hx
   | false =>
     rw [hel] at hx;cases hx;have hnl:l ∉ ls:=by simpa using hel
     obtain ⟨b,cs,k1,k2,k3,_⟩:=h.aL l _ (hO l T vs w ho hnl);obtain ⟨c1,c2,rfl,m1,m2,m3⟩:=pW ht (a:=q.1) (b:=q.2) hq k2;obtain ⟨q1,d,e,rfl,q2⟩:=LG ht hS pE hl m3;simp only [RV] at hv;obtain ⟨b',k,m',w',k4,rfl⟩:=hv;rw [k1] at k4;injection k4 with k4
     injection k4 with k5
     injection k5 with k5
     injection k5 with k5
     subst k5;refine ⟨some ⟨b,o,none⟩,m,by rw [q1],d,q2,λ_=>⟨b,o,rfl,λi v hi=>?_,.inr λh=>h⟩⟩
     have hil:=(ij'.1 hi).1;simp only [World.cell?,k3];rw [<- m1,<- iy'];simp only [iv' (Nat.le_add_right _ _),iY',iD' hil];exact hi
  ·cases hx
 ·obtain ⟨A,k,e,hs⟩:=EX hS hx hl hv;exact ⟨A,k,e,gu.Cy hs⟩
theorem Xx {ty:TypeId}(ht:aV P tb){O:ay I}{s1:St I}{T T' E:TypeId}{fE:Nat}(hE:tb.el T=some E)(hby:tb.bytes E=some fE)(h:Rel X c σ s1 n F){LS:List Nat}(hS:eX X c σ O LS){p:PV I}{x:List (I E)}{ls:List Nat}(hx:EA tb O E T T' p=some (x,ls))(hl:∀ l∈ls,l∈LS)
 (hO:∀ l T vs w,O l=some (some (.var T vs w))->l ∉ ls->s1.O l=some (some (.var T vs w))) {v:Value} (hv:RV X c σ p v):yE P ty T T' E fE σ v x:=by
 obtain ⟨z,hT⟩:=ht.slice _ _ _ hE hby;unfold EA at hx;cases H6:il' T' T with
 | true =>rw [H6] at hx;have e:=ii' H6;subst e;obtain ⟨A,k,e,hb⟩:=Ww ht h hS hx hl hO hv;rw [e];exact bv' hb hT
 | false =>
   rw [H6] at hx;replace hx:=aK hx;obtain ⟨hstr,hx⟩:=hx;replace hx:=bind_some hx;obtain ⟨t,pE,hx⟩:=hx;replace hx:=bind_some hx;obtain ⟨g,hg,hx⟩:=hx;cases hx;unfold BO at pE;split at pE
   ·cases pE;simp only [RV] at hv;rw [hv];exact RI (ht.nW _ _ hg) hT (ht.isStr _ hstr)
   ·cases pE
theorem cU' {T E:TypeId}{g len k sz:Nat}{j:Int}{w:World}(h0:0<=j)(hlt:j<(len:Int))(hle:len<=k)(hT:P.underlying T=some (.slice E))(hE:(P.info? E).map (·.size)=some sz) :
 aF P w (Instr.sliceAt T (.slice (some ⟨g,0,none⟩) len k) (some (.int .i64 j)) none none) (.slice (some ⟨g,j.toNat*sz,none⟩) (len-j.toNat) (k-j.toNat)):=by
 have hne:k≠j.toNat:=by omega
 have hjl:j<=(len:Int):=by omega
 simp only [aF,Instr.sliceAt,Instr.slice,Instr.sliceBounds,Instr.sliceBound,asIntOf,Sem.run_bind,run_underlying hT,Result.andThen_ok,Sem.run_pure,if_pos (And.intro h0 hjl),Sx.run_sizeOf hE,if_neg hne,jc',Addr.add_mid,iO']
omit [∀ E,Rp (I E)] in
theorem cB' [∀ E,Rp (I E)] {E:TypeId}{zs:List (PV I)}{xs:List (I E)}:AZ tb E zs xs=.row E xs false\/∃ E' u r,AZ tb E zs xs=.aA E E' u xs 0/\mM tb 300 u zs=some r/\vg tb 300 r.2=some (.nl E'):=by
 unfold AZ;split
 ·rename_i q hq;split
  ·rename_i r hr;split
   ·rename_i E' hh;cases hb:il' E' q.1 with
    | true =>have e:=ii' hb;subst e;exact .inr ⟨_,q.2,r,rfl,hr,hh⟩
    | false=>exact .inl rfl
   ·exact .inl rfl
  ·exact .inl rfl
 ·exact .inl rfl
theorem Rel.dp' (h:Rel X c σ s n F){nb k u:Nat}{E E':TypeId}{xs:List (I E)}(hst:Stp l5 σ τ)(hnb:s.O nb=none)(hown:cu (some σ.N) false E τ xs (some ⟨σ.N,0,none⟩) k)
 (hcell:∀ i,i<xs.length->∃ A,τ.w.cell? ⟨σ.N,i*Rp.sz (I E)+u,none⟩=some (.slice A 0 0)) :
 Cx.le c (dw c nb ⟨some ⟨σ.N,0,none⟩,k,xs.length,some σ.N⟩)/\Rel X (dw c nb ⟨some ⟨σ.N,0,none⟩,k,xs.length,some σ.N⟩) τ (aP s nb (some (.aA E E' u xs 0))) n F:=by
 have h':=h.step hst;have hle:Cx.le c (dw c nb ⟨some ⟨σ.N,0,none⟩,k,xs.length,some σ.N⟩):=wI (h.fq nb hnb);have hne:∀ {l},l≠nb->dw c nb ⟨some ⟨σ.N,0,none⟩,k,xs.length,some σ.N⟩ l=c l:=λe=>by simp [dw,e]
 refine h'.PD hnb (λg hg=>?_) ⟨_,_,_,dU _ _ _,hown⟩ ?_
 ·cases hg;refine ⟨.inl h.base.1,λl' p' ⟨o,ho⟩ hc hw=>?_⟩;have:=(h.aL l' o ho).lt hc hw;omega
 ·have hI:∀ {l i E1 v},eD (dw c nb ⟨some ⟨σ.N,0,none⟩,k,xs.length,some σ.N⟩) τ (aZ s.O nb (some (.aA E E' u xs 0))) l i E1 v->(∃ A,v=.slice A 0 0)\/(l≠nb/\eD c τ s.O l i E1 v):=λ{l i E1 v} ⟨E2,u2,o9,q2,g,kk,m,w,h1,h2,h3,h4,h5⟩=>by
   rcases bG h1 with ⟨e,e2⟩ | ⟨e,e2⟩
   ·cases e2;subst e;rw [dU] at h2;cases h2;obtain ⟨A,hA⟩:=hcell i h3;rw [hA] at h5;cases h5;exact .inl ⟨A,rfl⟩
   ·rw [hne e] at h2;exact .inr ⟨e,E2,u2,o9,q2,g,kk,m,w,e2,h2,h3,h4,h5⟩
  have hB:∀ {l i b},bX (dw c nb ⟨some ⟨σ.N,0,none⟩,k,xs.length,some σ.N⟩) τ (aZ s.O nb (some (.aA E E' u xs 0))) l i b->l≠nb/\bX c τ s.O l i b:=λ⟨E1,v,h1,h2⟩=>by
   rcases hI h1 with ⟨A,rfl⟩ | ⟨a1,a2⟩
   ·cases A<;>cases h2
   ·exact ⟨a1,E1,v,a2,h2⟩
  refine ⟨λl E1 E2 u1 mX q e i hi hq=>?_,λl i b hb=>h'.aA.mine l i b (hB hb).2,λl i b hb l' o p' ho' hc' hw'=>?_,λl i b l' i' h1 h2=>h'.aA.inj l i b l' i' (hB h1).2 (hB h2).2⟩
  ·rcases bG e with ⟨e1,e2⟩ | ⟨e1,e2⟩
   ·cases e2;subst e1;obtain ⟨A,hA⟩:=hcell i hi;refine ⟨_,⟨_,_,_,_,σ.N,k,xs.length,some σ.N,dS _ _ _,dU _ _ _,hi,hq,hA⟩,[],A,0,rfl,?_⟩;have:kJ (.slice A 0 0)=none:=by cases A<;>rfl
    rw [this];exact .inl ⟨rfl,rfl⟩
   ·obtain ⟨v,⟨E3,u3,pq,q3,g,kk,m,w,h1,h2,h3⟩,k2⟩:=h'.aA.opn l _ _ _ _ _ e2 i hi hq;exact ⟨v,⟨E3,u3,pq,q3,g,kk,m,w,by rw [bW e1]; exact h1,by rw [hne e1]; exact h2,h3⟩,k2⟩
  ·rcases bG ho' with ⟨e1,_⟩ | ⟨e1,e2⟩
   ·subst e1;rw [dU] at hc';cases hc';cases hw';exact h.zk hst (ip' _) l i (hB hb).2
   ·rw [hne e1] at hc';exact h'.aA.free l i b (hB hb).2 l' o p' e2 hc' hw'
theorem Nn (ht:aV P tb)(h:Rel X c σ s n F){l j o k b u q:Nat}{E E' E2 T:TypeId}{xs:List (I E)}{ys:List (I E2)}{x0 x1:I E}{ls':List (PV I)}{x y:Operand}{d:Option Tmp}{ty:TypeId}{pos:String}{aX:Array Edge}
 {ops:Array Oper} {Q:Exit->Act->World->Prop} {rest:List Oper} (ho:s.O l=some (some (.aA E E' u xs q))) (hc:c l=some ⟨some ⟨b,0,none⟩,k,xs.length,some b⟩) (hxj:xs[j]?=some x0) (hls:tX tb o [.sl E2 ys false] [.dat E x0]=some ls') (hx1:qR tb E ls'=some x1)
 (hxv:ev F x=.pointer (some ⟨b,j*Rp.sz (I E)+o,none⟩)) (h1:aU n x=true) (h3:aU n y=true) {v2:Value} (hyv:(ev F y).cells.toList=[v2]) (hsl:RV X c σ (.sl E2 ys false) v2) (hsz:(P.info? T).map (·.size)=some 1) (hone:v2.oneCell'=true)
 (hk:∀ υ,Stp (λb'=>b'=b) σ υ->dJ X c υ l (.aA E E' u (xs.set j x1) q)->(∀ i,i≠j*Rp.sz (I E)+o->υ.w.cell? ⟨b,i,none⟩=σ.w.cell? ⟨b,i,none⟩)->υ.w.cell? ⟨b,j*Rp.sz (I E)+o,none⟩=some v2->o<Rp.sz (I E) ->
   wpList P ops Q rest (fr n (bD F d undef)) υ.w):wpList P ops Q (⟨d,.store T x y,ty,pos,aX,none⟩::rest) (fr n F) σ.w:=by
 obtain ⟨A,kk,ow,k1,k2⟩:=h.aL l _ ho;rw [hc] at k1;cases k1;obtain ⟨au,cs,e,hh,a1,a2,a3,a4,a5,a6⟩:=k2;obtain ⟨c1,cj,c2,e1,e2,e3,e4⟩:=A7 a4 hxj;have hlt:RG X c σ [(.sl E2 ys false:PV I)] [v2]:=RG.single rfl hsl;obtain ⟨g4,g5⟩:=BI ht hls (RG.one (X:=X) (c:=c) e3) hlt;have g4:o+1<=cj.length:=g4;have H7:=a4.len;have hcur:au.toList=c1++cj++c2++au.toList.drop (xs.length*Rp.sz (I E)):=by rw [<- e1,<- a5]; exact (iW' _ _).symm
 have gX':cj.length=Rp.sz (I E):=Rp.len e3;have hB:ic 0 b (mK σ) b E au.toList:=⟨iP' _,by show σ.w.heap[b]?=_; simpa using hh,by show ((σ.L b).1,b)=_; rw [show (σ.L b).1=0 from a6]⟩
 have hle:j*Rp.sz (I E)+o+[v2].length<=au.toList.length:=by rw [hcur];simp only [iq',e2,iF',jw'];omega
 have hnew:au.toList.take (j*Rp.sz (I E)+o)++[v2]++au.toList.drop (j*Rp.sz (I E)+o+[v2].length)=c1++(cj.take o++[v2]++cj.drop (o+[v2].length))++c2++au.toList.drop (xs.length*Rp.sz (I E)):=by
  have f1:au.toList.take (j*Rp.sz (I E)+o)=c1++cj.take o:=by
   rw [hcur,iA',iA',<- e2,jY',iY',jM' (by omega),jY',show o-cj.length=0 from by omega]
   simp
  have f2:au.toList.drop (j*Rp.sz (I E)+o+[v2].length)=cj.drop (o+[v2].length)++c2++au.toList.drop (xs.length*Rp.sz (I E)):=by
   conv=>lhs; rw [hcur]
   rw [iA',iA',<- e2,jf',List.drop_append,List.drop_of_length_le (by omega),iY',List.drop_append,show o+[v2].length-cj.length=0 from by simp only [iF',jw']; omega]
   simp
  rw [f1,f2];simp only [iA']
 show wpList P ops Q _ (fr n F) (mK σ).w;refine Co hB (j*Rp.sz (I E)+o) _ [v2] _ hxv rfl h1 h3 hyv hsz (by simpa using hone) (jC' hle) hnew λυ hMod hB'=>?_
 have jw:=BP hMod;have hM:X.M b:=h.mine l _ b ⟨_,ho⟩ hc rfl;have qx:Stp X.M σ υ:=jw.mono λ_ _ e=>by rw [e]; exact hM
 have hheap:=hB'.2.1;have hat:∀ i,υ.w.cell? ⟨b,i,none⟩=(au.toList.take (j*Rp.sz (I E)+o)++[v2]++au.toList.drop (j*Rp.sz (I E)+o+[v2].length))[i]?:=λi=>by unfold World.cell?;rw [hheap,hnew];simp
 have dq':∀ i,σ.w.cell? ⟨b,i,none⟩=au.toList[i]?:=λi=>by unfold World.cell?;rw [hh];simp
 have hl0:(au.toList.take (j*Rp.sz (I E)+o)).length=j*Rp.sz (I E)+o:=by rw [iI'];simp only [iF',jw'] at hle;omega
 refine hk υ jw ⟨some ⟨b,0,none⟩,k,some b,by simpa using hc,(c1++(cj.take o++[v2]++cj.drop (o+[v2].length))++c2++au.toList.drop (xs.length*Rp.sz (I E))).toArray,c1++(cj.take o++[v2]++cj.drop (o+[v2].length))++c2,rfl,hB'.2.1,by simpa using a1,a2,?_,?_,?_,by rw [hB'.2.2]; rfl⟩ (λi hi=>?_) ?_ (by omega)
 ·rw [<- hnew];simp only [jH',iq',iI',jd'];rw [<- a3,<- iM'];omega
 ·exact e4 υ x1 _ qx.bS (AX ht hx1 (RG.step qx _ _ g5))
 ·rw [List.length_set];have hl1:(c1++(cj.take o++[v2]++cj.drop (o+[v2].length))++c2).length=xs.length*Rp.sz (I E):=by rw [<- H7,e1];simp only [iq',iI',jd',iF',jw'];omega
  rw [<- hl1];exact jh'
 ·rw [hat,dq'];rcases Nat.lt_or_ge i (j*Rp.sz (I E)+o) with hlt' | hge
  ·rw [iA',iD' (by rw [hl0]; exact hlt'),iB' hlt']
  ·rw [iv' (by simp only [iq',iF',jw']; rw [hl0]; omega),jj']
   congr 1;simp only [iq',iF',jw'];rw [hl0];omega
 ·rw [hat,iA',iv' (by rw [hl0]; exact ip' _),hl0,Nat.sub_self]
  rfl
theorem Ri (ht:aV P tb){aj:dn I}(h:Rel X c σ s n F){G:Nat->Option (PV I)}(hG:mU X c σ G F)(d9:∀ l o,O l=some (some o)->s.O l=some (some o)){e:Ef I}{nb:Nat}{T:TypeId}{x:Operand}{d:Option Tmp}{ty:TypeId}{pos:String}{aX:Array Edge}
 (hx:oq tb aj n G O nb ty (.load T x) some=some e) (hne:e.new≠[]) (hf:gI (bC s.O e.upd) nb e.new=true) {ops:Array Oper} {Q:Exit->Act->World->Prop} {rest:List Oper}
 (hk:∀ v τ c',Cx.le c c'->Rel X c' τ (gD s nb e) n F->RV X c' τ e.p v->Stp X.M σ τ->wpList P ops Q rest (fr n (bD F d v)) τ.w):wpList P ops Q (⟨d,.load T x,ty,pos,aX,none⟩::rest) (fr n F) σ.w:=by
 unfold oq at hx;replace hx:=bind_some hx;obtain ⟨p,hp,hx⟩:=hx;obtain ⟨h1,h2⟩:=wh hG hp;split at hx
 ·split at hx
  ·replace hx:=bind_some hx;obtain ⟨z,hz,hx⟩:=hx;cases hx;exact absurd rfl hne
  ·cases hx
 ·replace hx:=bind_some hx;obtain ⟨z,hz,hx⟩:=hx;cases hx;exact absurd rfl hne
 ·rename_i l sz j o;split at hx
  ·replace hx:=aK hx;obtain ⟨_,hx⟩:=hx;replace hx:=bind_some hx;obtain ⟨_,_,hx⟩:=hx;replace hx:=bind_some hx;obtain ⟨z,hz,hx⟩:=hx;cases hx;exact absurd rfl hne
  ·replace hx:=aK hx;obtain ⟨_,hx⟩:=hx;replace hx:=bind_some hx;obtain ⟨_,_,hx⟩:=hx;replace hx:=bind_some hx;obtain ⟨z,hz,hx⟩:=hx;cases hx;exact absurd rfl hne
  ·rename_i E E' u xs q0 ho;replace hx:=aK hx;obtain ⟨hsz,hx⟩:=hx;have hsz':=ii' hsz;subst hsz';replace hx:=bind_some hx;obtain ⟨x0,hxj,hx⟩:=hx;replace hx:=bind_some hx;obtain ⟨z,hz,hx⟩:=hx;cases hb:(il' q0 1&&il' o u) with
   | false =>rw [hb] at hx;cases hx;exact absurd rfl hne
   | true =>
     rw [hb] at hx;simp only [cond_true] at hx;simp only [ik'] at hb;have hq1:=ii' hb.1;have hou:=ii' hb.2;subst hq1;subst hou;split at hx
     ·rename_i E1 ys full;replace hx:=bind_some hx;obtain ⟨zs,hzs,hx⟩:=hx;obtain ⟨e1,e2⟩:=iM hzs;subst e1;subst e2;cases hx;have hos:=d9 _ _ ho;obtain ⟨A,k,ow,k1,k2⟩:=h.aL l _ hos;simp only [RV] at h2;obtain ⟨b,q,k',m,w,h3,h4⟩:=h2;rw [k1] at h3;cases h3;have hjl:j<xs.length:=(ij'.1 hxj).1;obtain ⟨cj,c1,c2⟩:=k2.el hxj;have hq0:q=0/\ow=some b:=by
       cases ow with
       | none =>
         rcases k2 with ⟨e,_⟩ | ⟨e,_⟩
         ·subst e; simp at hxj
         ·cases e
       | some g =>obtain ⟨au,cs,e,_⟩:=k2;cases e;exact ⟨rfl,rfl⟩
      obtain ⟨rfl,rfl⟩:=hq0;rcases Bl (X:=X) (c:=c) ht hz (RG.one c1) with ⟨kk,_,_,hv⟩ | ⟨hone,v,hv,eu⟩
      ·simp only [RV] at hv;obtain ⟨A',k',e,_⟩:=hv;cases e
      have hcell:σ.w.cell? ⟨b,j*Rp.sz (I E)+o,none⟩=some v:=by have:=c2 o v hv;rwa [iO'] at this
      have PI:=eu;simp only [RV] at PI;obtain ⟨A1,k3,H8,hsl,_⟩:=PI;have hN:=h.aA;have hat:eD c σ s.O l j E1 v:=⟨E,o,xs,1,b,_,_,_,hos,k1,hjl,by omega,hcell⟩
      obtain ⟨ys0,A0,k0,PK,hown0⟩:=hN.Pz hat;rw [H8] at PK;have he0:A1=A0/\zs.length=ys0.length/\k3=k0:=by
       injection PK with a1 a2 a3
       exact ⟨a1,a2,a3⟩
      obtain ⟨rfl,hyl,rfl⟩:=he0;have hown:=hown0.other hsl hyl;obtain ⟨hT1,hT2⟩:=hN.take (j:=j) hos (by omega)
      have h1':Rel X c σ (aP s l (some (.aA E E1 o xs (j+2)))) n F:=h.CB (g:=b) ⟨_,hos⟩ k1 rfl (Stp.refl _ _) (λo' e=>by cases e; exact ⟨_,_,_,k1,k2⟩) hT1
      have hnb:(aP s l (some (.aA E E1 o xs (j+2)))).O nb=none:=oU hf;obtain ⟨n1,n2⟩:=h1'.newRow (nb:=nb) hnb hown λg hg=>by
       have hin:bX c σ s.O l j g:=⟨E1,v,hat,by rw [H8] at hg ⊢; exact hg⟩
       refine ⟨hN.mine _ _ _ hin,λl' i hb'=>?_,λl' p' ⟨o',ho'⟩ hc'=>?_⟩
       ·obtain ⟨b1,b2⟩:=hT2 _ _ _ hb';exact b2 (hN.inj _ _ _ _ _ hin b1)
       ·rcases bG ho' with ⟨e',_⟩ | ⟨_,e'⟩
        ·subst e'; exact hN.free _ _ _ hin _ _ _ hos hc'
        ·exact hN.free _ _ _ hin _ _ _ e' hc'
      refine jU b (0+(j*Rp.sz (I E)+o)) v h4 h1 (nR hone (by rw [iO']; exact hcell)) ?_
      refine hk v σ _ n1 n2 ?_ (Stp.refl _ _);simp only [RV];exact ⟨_,dU _ _ _,H8⟩
     ·cases hx
  ·cases hx
 ·cases hx
theorem Yp (ht:aV P tb){aj:dn I}(hd:iT P aj)(h:Rel X c σ s n F)(hX:X.P=P){G:Nat->Option (PV I)}(hG0:∀ i p,G i=some p->s.F i=some p)(d9:∀ l o,O l=some (some o)->s.O l=some (some o)){o:Oper}(hg:o.guard=none){e:Ef I}{nb:Nat}
 (hx:oq tb aj n G O nb o.type o.op some=some e) (hf:gI (bC s.O e.upd) nb e.new=true) {ops:Array Oper} {Q:Exit->Act->World->Prop} {rest:List Oper}
 (hk:∀ v τ c',Cx.le c c'->Rel X c' τ (gD s nb e) n F->RV X c' τ e.p v->Stp X.M σ τ->wpList P ops Q rest (fr n (bD F o.dst v)) τ.w):wpList P ops Q (o::rest) (fr n F) σ.w:=by
 have hG:mU X c σ G F:=λi p hp=>h.frame i p (hG0 i p hp);have hO:∀ l o,O l=some (some o)->dJ X c σ l o:=λl o ho=>h.aL l o (d9 l o ho);have hval:∀ v p,e=⟨p,[],[]⟩->RV X c σ p v->wpList P ops Q rest (fr n (bD F o.dst v)) σ.w:=λv p he hv=>by subst he;exact hk v σ c (Cx.le_refl c) h hv (Stp.refl _ _)
 have hx0:=hx;obtain ⟨d,op,ty,pos,aX,g⟩:=o;simp only at hg hx hk hval hx0;subst hg;have E1:∀ {x p},bH n G x=some p->aU n x=true/\RV X c σ p (ev F x):=λhp=>wh hG hp;have E2:∀ {x p T},lJ tb n G T x=some p->aU n x=true/\RV X c σ p (ev F x):=λhp=>yu hG hp;have pF:∀ ls:List Nat,(∀ τ,τ.w=σ.w->Stp X.M σ τ->Rel X c τ (aG s O ls) n F->eX X c τ O ls->Rows X c τ O ls->mU X c τ G F->(∀ l,l ∉ ls->(aG s O ls).O l=s.O l)->wpList P ops Q (⟨d,op,ty,pos,aX,none⟩::rest) (fr n F) τ.w)->wpList P ops Q (⟨d,op,ty,pos,aX,none⟩::rest) (fr n F) σ.w:=λls k=>by obtain ⟨τ,h1,h2,h3,h4,h5,h6⟩:=h.pubs d9 ls;rw [<- h1];exact k τ h1 h2 h3 h4 h5 (hG.step h2) h6
 have hnw:(∃ T x,op=.load T x)->e.new=[]\/wpList P ops Q (⟨d,op,ty,pos,aX,none⟩::rest) (fr n F) σ.w:=λ⟨T,x,e1⟩=>by
  subst e1;by_cases hne:e.new=[]
  ·exact .inl hne
  ·exact .inr (Ri ht h hG d9 hx0 hne hf hk)
 by_cases hld:∃ T x,op=.load T x
 ·rcases hnw hld with hn | hn
  ·obtain ⟨T,x,rfl⟩:=hld;exact F4 (o:=⟨d,_,ty,pos,aX,none⟩) ht h hX hG hO rfl (by trivial) hx0 (λ_=>hn) hval
  ·exact hn
 unfold oq at hx;split at hx
 iterate 14 (exact F4 (o:=⟨d,_,ty,pos,aX,none⟩) ht h hX hG hO rfl (by trivial) hx0 (λh=>absurd h hld) hval)
 ·exact F4 (o:=⟨d,_,ty,pos,aX,none⟩) ht h hX hG hO rfl (by trivial) hx0 (λh=>absurd h hld) hval
 ·rename_i T x lo hi mx;replace hx:=bind_some hx;obtain ⟨p0,hp,hx⟩:=hx;split at hx
  ·rename_i s hv;have hps:p0=.str s:=by
    unfold BO at hv;split at hv
    ·cases hv; rfl
    ·cases hv
   subst hps;replace hx:=aK hx;obtain ⟨hT,hx⟩:=hx;have hT:=ht.isStr _ hT;obtain ⟨h1,h2⟩:=E1 hp;simp only [RV] at h2;split at hx
   ·rename_i h;replace hx:=bind_some hx;obtain ⟨q,hq,hx⟩:=hx;replace hx:=bind_some hx;obtain ⟨j,hj,hx⟩:=hx;replace hx:=bind_some hx;obtain ⟨t,hc,hx⟩:=hx;cases hx;obtain ⟨k1,k2⟩:=E1 hq;have k2':=Ce hj k2;exact nS _ _ none (some (.int .i64 j)) none h2 h1 rfl (by rw [<- k2']; rfl) rfl (by simp [k1]) (GU none (some j) hT hc) (hval _ _ rfl (by simp only [RV]))
   ·rename_i l;replace hx:=bind_some hx;obtain ⟨q,hq,hx⟩:=hx;replace hx:=bind_some hx;obtain ⟨j,hj,hx⟩:=hx;replace hx:=bind_some hx;obtain ⟨t,hc,hx⟩:=hx;cases hx;obtain ⟨k1,k2⟩:=E1 hq;have k2':=Ce hj k2;exact nS _ _ (some (.int .i64 j)) none none h2 h1 (by rw [<- k2']; rfl) rfl rfl (by simp [k1]) (GU (some j) none hT hc) (hval _ _ rfl (by simp only [RV]))
   ·rename_i l h;replace hx:=bind_some hx;obtain ⟨q,hq,hx⟩:=hx;replace hx:=bind_some hx;obtain ⟨q',hq',hx⟩:=hx;replace hx:=bind_some hx;obtain ⟨j,hj,hx⟩:=hx;replace hx:=bind_some hx;obtain ⟨j',hj',hx⟩:=hx;replace hx:=bind_some hx;obtain ⟨t,hc,hx⟩:=hx;cases hx;obtain ⟨k1,k2⟩:=E1 hq;obtain ⟨k3,k4⟩:=E1 hq';have k2':=Ce hj k2;have k4':=Ce hj' k4;exact nS _ _ (some (.int .i64 j)) (some (.int .i64 j')) none h2 h1 (by rw [<- k2']; rfl) (by rw [<- k4']; rfl) rfl (by simp [k1,k3]) (GU (some j) (some j') hT hc) (hval _ _ rfl (by simp only [RV]))
   ·cases hx
  split at hx
  ·rename_i v hv;obtain ⟨l,o,E,m,k,rfl,rfl,rfl,rfl,rfl,ha⟩:=Zq hv;obtain ⟨h1,h2⟩:=E1 hp;simp only [RV] at h2;obtain ⟨b,w,k1,e1⟩:=h2;cases hx;refine nS _ _ none none none e1 h1 rfl rfl rfl (by simp) (WA (ht.arr _ _ _ _ ha).1 (ht.arr _ _ _ _ ha).2) (hval _ _ rfl ?_)
   simp only [RV];exact ⟨b,0,0,w,k1,rfl⟩
  replace hx:=bind_some hx;obtain ⟨E,hE,hx⟩:=hx;obtain ⟨h1,h2⟩:=E1 hp;obtain ⟨t1,t2⟩:=ht.el _ _ hE;split at hx
  ·rename_i w hw;obtain ⟨l,xs,y⟩:=w;obtain ⟨rfl,rfl,rfl,rfl,ho⟩:=Sr hw;replace hx:=bind_some hx;obtain ⟨q,hq,hx⟩:=hx;replace hx:=bind_some hx;obtain ⟨j,hj,hx⟩:=hx;replace hx:=bind_some hx;obtain ⟨ys,hys,hx⟩:=hx;cases hx;obtain ⟨h3,h4⟩:=E1 hq;have jY:ev F y=.int .i64 j:=by
    unfold fD at hj;split at hj
    ·cases hj; simpa only [RV] using h4
    ·cases hj
   obtain ⟨A,k,ow,k1,k2⟩:=hO _ _ ho;simp only [RV] at h2;obtain ⟨pl,k3,e1⟩:=h2;rw [k1] at k3;cases k3;obtain ⟨_,j0,j1,rfl⟩:=AB hys;have hle:=k2.le;have j1:j<=(xs.length:Int):=j1;have hlen:((xs.take j.toNat).drop (0:Int).toNat).length=j.toNat:=by simp; omega
   have hol:=d9 _ _ ho;have zl:=h.kill (l:=l) ⟨_,hol⟩;have hnew:cu ow false E σ ((xs.take j.toNat).drop (0:Int).toNat) A k:=by
    show cu ow false E σ (xs.take j.toNat) A k;cases ow with
    | none =>
      rcases k2 with ⟨e,e'⟩ | ⟨e,_⟩
      ·subst e; exact .inl ⟨by simp,e'⟩
      ·cases e
    | some g =>
      obtain ⟨au,cs,e,hh,a1,a2,a3,a4,a5,a6⟩:=k2;rw [<- iW' j.toNat xs] at a4;obtain ⟨c1,c2,rfl,b1,b2⟩:=a4.split;have hl1:=b1.len;have hle1:(xs.take j.toNat).length<=xs.length:=by rw [iI']; omega
      refine ⟨au,c1,e,hh,iz' hle1 a1,a2,a3,b1,?_,a6⟩;have:au.toList.take ((xs.take j.toNat).length*Rp.sz (I E))=(au.toList.take (xs.length*Rp.sz (I E))).take ((xs.take j.toNat).length*Rp.sz (I E)):=by rw [List.take_take,jO' (iR' _ hle1)]
      rw [this,a5,<- hl1,jh']
   have hnb:(aP s l none).O nb=none:=oU hf;obtain ⟨n1,n2⟩:=zl.newRow (nb:=nb) hnb hnew λg hg=>⟨h.mine l _ g ⟨_,hol⟩ k1 hg,(h.owned ⟨_,hol⟩ k1 hg).set,λl' p' ⟨o,ho'⟩ hc hw=>by
    rcases bG ho' with ⟨_,e⟩ | ⟨e,h'⟩
    ·cases e
    ·exact e (h.inj l' l _ _ g ⟨o,h'⟩ ⟨_,hol⟩ hc k1 hw hg)⟩
   refine nS _ _ none (some (.int .i64 j)) none e1 h1 rfl (by rw [<- jY]; rfl) rfl (by simp [h3]) (Wu (len:=xs.length) (k:=k) (A:=A) (sz:=Rp.sz (I E)) (w:=σ.w) j0 (by omega) t1 t2) ?_
   refine hk _ σ _ n1 n2 ?_ (Stp.refl _ _);simp only [RV];exact ⟨_,dU _ _ _,by rw [hlen]⟩
  split at hx
  ·rename_i w hw;obtain ⟨l,xs,y⟩:=w;obtain ⟨rfl,rfl,rfl,rfl,ho⟩:=VJ hw;replace hx:=bind_some hx;obtain ⟨q,hq,hx⟩:=hx;replace hx:=bind_some hx;obtain ⟨j,hj,hx⟩:=hx;replace hx:=bind_some hx;obtain ⟨x0,hx0',hx⟩:=hx;obtain ⟨h3,h4⟩:=E1 hq;have jY:ev F y=.int .i64 j:=by
    unfold fD at hj;split at hj
    ·cases hj; simpa only [RV] using h4
    ·cases hj
   obtain ⟨A,k,ow,k1,k2⟩:=hO _ _ ho;simp only [RV] at h2;obtain ⟨pl,k3,e1⟩:=h2;rw [k1] at k3;cases k3;obtain ⟨h0,hxj⟩:=vF hx0';have hlt:j.toNat<xs.length:=(ij'.1 hxj).1;cases ow with
   | none =>
     rcases k2 with ⟨e,_⟩ | ⟨e,_⟩
     ·subst e; simp at hxj
     ·cases e
   | some g =>
     obtain ⟨au,cs,e,_,hle,_⟩:=k2;subst e;cases hx;refine nS _ _ (some (.int .i64 j)) none none e1 h1 (by rw [<- jY]; rfl) rfl rfl (by simp [h3]) (cU' (len:=xs.length) (k:=k) (g:=g) (sz:=Rp.sz (I E)) (w:=σ.w) h0 (by omega) hle t1 t2) (hval _ _ rfl ?_)
     simp only [RV];exact ⟨g,k,xs.length,_,k1,rfl⟩
  replace hx:=bind_some hx;obtain ⟨xs,hxs,hx⟩:=hx;refine pF xs.2 λτ hw hst hrel hS hR rO hold=>?_;obtain ⟨A,k,e1,hs⟩:=EX hS (ls:=xs.2) hxs (λl hl=>hl) (RV.step hst _ _ h2);have fP:∀ (q:PV I) v,e=⟨q,aT O xs.2,[]⟩->RV X c τ q v->wpList P ops Q rest (fr n (bD F d v)) τ.w:=λq v he hv=>by subst he;exact hk v τ c (Cx.le_refl c) hrel hv hst
  have wS:∀ {x p},bH n G x=some p->aU n x=true/\RV X c τ p (ev F x):=λhp=>wh rO hp;have qy:∀ {q:PV I} {j:Int} {v:Value},fD q=some j->RV X c τ q v->v=.int .i64 j:=by
   intro q j v hj hv;unfold fD at hj;split at hj
   ·cases hj; simpa only [RV] using hv
   ·cases hj
  split at hx
  ·cases hx;exact nS _ _ none (some (.int .i64 0)) (some (.int .i64 0)) e1 h1 rfl rfl rfl rfl (Rq t1 t2) (fP _ _ rfl (by simp only [RV]; exact ⟨A,rfl⟩))
  ·replace hx:=bind_some hx;obtain ⟨q,hq,hx⟩:=hx;replace hx:=bind_some hx;obtain ⟨q',hq',hx⟩:=hx;replace hx:=bind_some hx;obtain ⟨h',hh',hx⟩:=hx;replace hx:=bind_some hx;obtain ⟨m',hm',hx⟩:=hx;replace hx:=aK hx;obtain ⟨hb,hx⟩:=hx;simp only [ik',beq_iff_eq] at hb;obtain ⟨rfl,rfl⟩:=hb;obtain ⟨h3,h4⟩:=wS hq;obtain ⟨h5,h6⟩:=wS hq';have h4':=qy hh' h4;have h6':=qy hm' h6;cases hx;exact nS _ _ none (some (.int .i64 _)) (some (.int .i64 _)) e1 h1 rfl (by rw [<- h4']; rfl) (by rw [<- h6']; rfl) (by simp [h3,h5]) (Uh hs t1 t2) (fP _ _ rfl (by simp only [RV]; exact ⟨A,xs.1.length,rfl,hs.clip,λ_=>rfl⟩))
  ·replace hx:=bind_some hx;obtain ⟨q,hq,hx⟩:=hx;replace hx:=bind_some hx;obtain ⟨h',hh',hx⟩:=hx;replace hx:=bind_some hx;obtain ⟨ys,hy,hx⟩:=hx;obtain ⟨h3,h4⟩:=wS hq;have h4':=qy hh' h4;obtain ⟨A',m',hr,hs'⟩:=SS hs hy t1 t2;cases hx;exact nS _ _ none (some (.int .i64 _)) none e1 h1 rfl (by rw [<- h4']; rfl) rfl (by simp [h3]) hr (fP _ _ rfl (by simp only [RV]; exact ⟨A',m',rfl,hs',λe=>by cases e⟩))
  ·replace hx:=bind_some hx;obtain ⟨q,hq,hx⟩:=hx;replace hx:=bind_some hx;obtain ⟨h',hh',hx⟩:=hx;replace hx:=bind_some hx;obtain ⟨ys,hy,hx⟩:=hx;obtain ⟨h3,h4⟩:=wS hq;have h4':=qy hh' h4;obtain ⟨A',m',hr,hs'⟩:=Rm hs hy t1 t2;cases hx;exact nS _ _ (some (.int .i64 _)) none none e1 h1 (by rw [<- h4']; rfl) rfl rfl (by simp [h3]) hr (fP _ _ rfl (by simp only [RV]; exact ⟨A',m',rfl,hs',λe=>by cases e⟩))
  ·replace hx:=bind_some hx;obtain ⟨q,hq,hx⟩:=hx;replace hx:=bind_some hx;obtain ⟨q',hq',hx⟩:=hx;replace hx:=bind_some hx;obtain ⟨l',hl',hx⟩:=hx;replace hx:=bind_some hx;obtain ⟨h',hh',hx⟩:=hx;replace hx:=bind_some hx;obtain ⟨ys,hy,hx⟩:=hx;obtain ⟨h3,h4⟩:=wS hq;obtain ⟨h5,h6⟩:=wS hq';have h4':=qy hl' h4;have h6':=qy hh' h6;obtain ⟨A',m',hr,hs'⟩:=Xb hs hy t1 t2;cases hx;exact nS _ _ (some (.int .i64 _)) (some (.int .i64 _)) none e1 h1 (by rw [<- h4']; rfl) (by rw [<- h6']; rfl) rfl (by simp [h3,h5]) hr (fP _ _ rfl (by simp only [RV]; exact ⟨A',m',rfl,hs',λe=>by cases e⟩))
  ·cases hx
 ·replace hx:=bind_some hx;obtain ⟨ls,hz,hx⟩:=hx;cases hx;have hnb:s.O nb=none:=oU hf;obtain ⟨z,sz,fE,cs,hT,hc,hl⟩:=ht.zero _ _ hz;refine Ns (B:=σ.N) 0 (ip' _) z cs hT hc λτ b hE hB=>?_;obtain ⟨k1,k2⟩:=h.newVar hnb hE hB (hl X c τ);exact hk _ τ _ k1 k2 (by simp only [RV]; exact ⟨b,_,dU _ _ _,rfl⟩) (Stp.ext hE).no
 ·replace hx:=bind_some hx;obtain ⟨q,hq,hx⟩:=hx;replace hx:=bind_some hx;obtain ⟨ls,hls,hx⟩:=hx;cases hx;have hnb:s.O nb=none:=oU hf;obtain ⟨h1,h2⟩:=E2 hq;have hl:=qN hls h2;refine NN (B:=σ.N) 0 (ip' _) _ _ rfl h1 rfl λτ b hE hB=>?_;obtain ⟨k1,k2⟩:=h.newVar hnb hE hB (RG.step (Stp.ext hE).no _ _ hl);exact hk _ τ _ k1 k2 (by simp only [RV]; exact ⟨b,_,dU _ _ _,rfl⟩) (Stp.ext hE).no
 ·rename_i T x y;replace hx:=bind_some hx;obtain ⟨p,hp,hx⟩:=hx;replace hx:=bind_some hx;obtain ⟨q,hq,hx⟩:=hx;replace hx:=bind_some hx;obtain ⟨vs,hvs,hx⟩:=hx;replace hx:=bind_some hx;obtain ⟨m,hm,hx⟩:=hx;replace hx:=aK hx;obtain ⟨hb,hx⟩:=hx;simp only [ik'] at hb;have b1:=ii' hb.1;have b2:=hb.2;subst b1;obtain ⟨h1,h2⟩:=E1 hp;obtain ⟨h3,h4⟩:=E2 hq;split at hx
  ·rename_i l o;split at hx
   ·rename_i T' ls ho;replace hx:=bind_some hx;obtain ⟨ls',uo,hx⟩:=hx;cases hx;have hl:=qN hvs h4;generalize hvv:(ev F y).cells.toList=fT at hl;obtain ⟨b,cs,k1,k2,k3,k4,_⟩:=hO _ _ ho;simp only [RV] at h2;obtain ⟨b',w',k6,h2⟩:=h2;rw [k1] at k6;cases k6;have g1:=RG.len _ _ hl;obtain ⟨g2,g3⟩:=BI ht uo k2 hl;have hB:ic 0 b (mK σ) b T' cs:=⟨iP' _,k3,by show ((σ.L b).1,b)=_; rw [k4 rfl]⟩
    show wpList P ops Q _ (fr n F) (mK σ).w;refine Co hB o _ fT _ h2 rfl h1 h3 hvv (by rw [g1]; exact ht.size _ _ hm) (Bf _ _ b2 hl) (jC' g2) rfl λτ hMod hB'=>?_
    have hst:=BP hMod;have hM:X.M b:=h.mine l _ b ⟨_,d9 _ _ ho⟩ k1 rfl;have qx:Stp X.M σ τ:=hst.mono λ_ _ e=>by rw [e]; exact hM
    have hrel:=h.upd (o':=some (.var T' ls' true)) ⟨_,d9 _ _ ho⟩ k1 rfl hst λo'' e=>by cases e;exact ⟨b,cs.take o++fT++cs.drop (o+fT.length),k1,RG.step qx _ _ g3,hB'.2.1,λ_=>by rw [hB'.2.2],λe=>by cases e⟩
    exact hk _ τ c (Cx.le_refl c) hrel (by simp only [RV]) qx
   ·cases hx
  ·rename_i l sz j o;split at hx
   ·rename_i E xs ho;replace hx:=aK hx;obtain ⟨b3,hx⟩:=hx;have b3':=ii' b3;subst b3';replace hx:=bind_some hx;obtain ⟨t,ht',hx⟩:=hx;replace hx:=bind_some hx;obtain ⟨x0,hxj,hx⟩:=hx;replace hx:=aK hx;obtain ⟨b5,hx⟩:=hx;replace hx:=bind_some hx;obtain ⟨ls',uo,hx⟩:=hx;replace hx:=bind_some hx;obtain ⟨x1,hx1,hx⟩:=hx;cases hx;have PL:l ∉ t.2:=by simpa using b5
    refine pF t.2 λτ hw hst hrel hS hR rO hold=>?_;have hl:=qN hvs (RV.step hst _ _ h4);generalize hvv:(ev F y).cells.toList=fT at hl;have hlt:=Aj hS (ls:=t.2) ht' (λl hl=>hl) hl;obtain ⟨A,k,ow,k1,k2⟩:=hR l E xs false ho PL;simp only [RV] at h2;obtain ⟨b,q,k',m',w',k6,h2⟩:=h2;rw [k1] at k6;cases k6;have pG:aQ (aG s O t.2) l:=⟨_,(hold l PL).trans (d9 _ _ ho)⟩;cases ow with
    | none =>
      rcases k2 with ⟨e,_⟩ | ⟨e,_⟩
      ·subst e; simp at hxj
      ·cases e
    | some g =>
      obtain ⟨au,cs,e,hh,a1,a2,a3,a4,a5,a6⟩:=k2;cases e;rw [iO'] at h2;obtain ⟨c1,cj,c2,e1,e2,e3,e4⟩:=A7 a4 hxj;have g1:=RG.len _ _ hl;obtain ⟨g4,g5⟩:=BI ht uo (RG.one (X:=X) (c:=c) e3) hlt;have H7:=a4.len;have hcur:au.toList=c1++cj++c2++au.toList.drop (xs.length*Rp.sz (I E)):=by rw [<- e1,<- a5]; exact (iW' _ _).symm
      have hsz:cj.length=Rp.sz (I E):=Rp.len e3;have hB:ic 0 b (mK τ) b E au.toList:=⟨iP' _,by show τ.w.heap[b]?=_; simpa using hh,by show ((τ.L b).1,b)=_; rw [show (τ.L b).1=0 from a6]⟩
      have hle:j*Rp.sz (I E)+o+fT.length<=au.toList.length:=by rw [hcur];simp only [iq',e2];omega
      have hnew:au.toList.take (j*Rp.sz (I E)+o)++fT++au.toList.drop (j*Rp.sz (I E)+o+fT.length)=c1++(cj.take o++fT++cj.drop (o+fT.length))++c2++au.toList.drop (xs.length*Rp.sz (I E)):=by
       have f1:au.toList.take (j*Rp.sz (I E)+o)=c1++cj.take o:=by
        rw [hcur,iA',iA',<- e2,jY',iY',jM' (by omega),jY',show o-cj.length=0 from by omega]
        simp
       have f2:au.toList.drop (j*Rp.sz (I E)+o+fT.length)=cj.drop (o+fT.length)++c2++au.toList.drop (xs.length*Rp.sz (I E)):=by
        conv=>lhs; rw [hcur]
        rw [iA',iA',<- e2,jf',List.drop_append,List.drop_of_length_le (by omega),iY',List.drop_append,show o+fT.length-cj.length=0 from by omega]
        simp
       rw [f1,f2];simp only [iA']
      show wpList P ops Q _ (fr n F) (mK τ).w;refine Co hB (j*Rp.sz (I E)+o) _ fT _ h2 rfl h1 h3 hvv (by rw [g1]; exact ht.size _ _ hm) (Bf _ _ b2 (qN hvs (RV.step hst _ _ h4) |> λhq=>by rw [hvv] at hq; exact hq)) (jC' hle) hnew λυ hMod hB'=>?_
      have jw:=BP hMod;have hM:X.M b:=hrel.mine l _ b pG k1 rfl;have qx:Stp X.M τ υ:=jw.mono λ_ _ e=>by rw [e]; exact hM
      have qz:=hrel.upd (o':=some (.row E (xs.set j x1) false)) pG k1 rfl jw λo'' e=>by
       cases e;refine ⟨some ⟨b,0,none⟩,k,some b,by simpa using k1,(c1++(cj.take o++fT++cj.drop (o+fT.length))++c2++au.toList.drop (xs.length*Rp.sz (I E))).toArray,c1++(cj.take o++fT++cj.drop (o+fT.length))++c2,rfl,hB'.2.1,by simpa using a1,a2,?_,?_,?_,by rw [hB'.2.2]; rfl⟩
       ·rw [<- hnew];simp only [jH',iq',iI',jd'];rw [<- a3,<- iM'];omega
       ·exact e4 υ x1 _ qx.bS (AX ht hx1 (RG.step qx _ _ g5))
       ·rw [List.length_set];have hl1:(c1++(cj.take o++fT++cj.drop (o+fT.length))++c2).length=xs.length*Rp.sz (I E):=by rw [<- H7,e1];simp only [iq',iI',jd'];omega
        rw [<- hl1];exact jh'
      have hend:gD s nb ⟨.undef,aT O t.2++[(l,some (.row E (xs.set j x1) false))],[]⟩=aP (aG s O t.2) l (some (.row E (xs.set j x1) false)):=by simp only [gD,bV,jT,bC,aP,aG]
      exact hk _ υ c (Cx.le_refl c) (by rw [hend]; exact qz) (by simp only [RV]) (hst.trans qx)
   ·rename_i E E' u xs q0 ho;replace hx:=aK hx;obtain ⟨b3,hx⟩:=hx;have b3':=ii' b3;subst b3';replace hx:=bind_some hx;obtain ⟨x0,hxj,hx⟩:=hx;split at hx
    ·rename_i l2;have hos:=d9 _ _ ho;obtain ⟨A,k,ow,k1,k2⟩:=h.aL l _ hos;simp only [RV] at h2;obtain ⟨b,q,k',m',w',k6,h2⟩:=h2;rw [k1] at k6;cases k6;have hjl:j<xs.length:=(ij'.1 hxj).1;have hq0:q=0/\ow=some b:=by
      cases ow with
      | none =>
        rcases k2 with ⟨e,_⟩ | ⟨e,_⟩
        ·subst e; simp at hxj
        ·cases e
      | some g =>obtain ⟨au,cs,e,_⟩:=k2;cases e;exact ⟨rfl,rfl⟩
     obtain ⟨rfl,rfl⟩:=hq0;rw [iO'] at h2;have hcl:=qN hvs h4;have hone:=Bf _ _ b2 hcl;simp only [RG] at hcl;obtain ⟨a,r,hyv,hcl,rfl⟩:=hcl;rw [jo'] at hyv;rcases hcl with hcl | ⟨_,v2,rfl,hv2⟩
     ·exact hcl.elim
     simp only [RV] at hv2;obtain ⟨p2,hc2,rP⟩:=hv2;have hsz1:(P.info? T).map (·.size)=some 1:=ht.size _ _ hm
     have PN:v2.oneCell'=true:=by rw [hyv] at hone; simpa using hone
     have pG:aQ s l:=⟨_,hos⟩;split at hx
     ·rename_i E2 ys ho2;replace hx:=aK hx;obtain ⟨b5,hx⟩:=hx;simp only [ik',ju'] at b5;obtain ⟨⟨⟨b5,b7⟩,b8⟩,b6⟩:=b5;have e1:=ii' b5;have e2:=ii' b6;have e3:=ii' b7;subst e1;subst e2;subst e3;have hne:l2≠l:=λe=>by subst e; simp at b8
      replace hx:=bind_some hx;obtain ⟨ls',uo,hx⟩:=hx;replace hx:=bind_some hx;obtain ⟨x1,hx1,hx⟩:=hx;cases hx;have rQ:=d9 _ _ ho2;obtain ⟨A2,wT,ow2,k3,k4⟩:=h.aL l2 _ rQ;rw [k3] at hc2;cases hc2;have rP:v2=.slice A2 ys.length wT:=rP;have hsl:RV X c σ (.sl E2 ys false) v2:=by simp only [RV]; exact ⟨A2,wT,rP,k4.sl,λe=>by cases e⟩
      refine Nn (E':=E2) (u:=o) (q:=j+2) ht h hos k1 hxj uo hx1 h2 h1 h3 hyv hsl hsz1 PN λυ hst H9 hsame hnew _=>?_;have hM:X.M b:=h.mine l _ b pG k1 rfl;have hkl:=h.kill (l:=l2) ⟨_,rQ⟩;have hol:(aP s l2 none).O l=some (some (.aA E E2 o xs (j+2))):=by show aZ s.O l2 none l=_;rw [bW hne.symm]; exact hos
      have hlv:∀ {l'},aQ (aP s l2 none) l'->l'≠l2/\aQ s l':=λ{l'} ⟨o',ho'⟩=>by
       rcases bG ho' with ⟨_,e'⟩ | ⟨e1,e'⟩
       ·cases e'
       ·exact ⟨e1,o',e'⟩
      obtain ⟨r1,r2⟩:=k4.de';rw [<- rP] at r1 r2;have hN:dZ X c υ (aZ (aP s l2 none).O l (some (.aA E E2 o (xs.set j x1) 0))):=by
       refine hkl.aA.turn (j:=j) hol k1 hst (λl' o' p' ho' hc' hw'=>hkl.inj l' l p' _ b ⟨o',ho'⟩ ⟨_,hol⟩ hc' k1 hw' rfl) (λl' E1 E3 u1 mX q1 g' kk m w e hc' hx'=>(hkl.aL l' _ e).zh hc' hx') (by simp) (λi hi hij hq=>⟨by omega,hsame _ λe=>hij ?_⟩) λ_ _=>.inr ⟨v2,hnew,⟨ys,A2,wT,rP,r1.step hst λg hg e=>?_⟩,λb2 hb2=>⟨?_,?_,?_⟩⟩
       ·have hp:=Rp.pos (α:=I E);exact Nat.eq_of_mul_eq_mul_right hp (by omega)
       ·subst e;exact hne (h.inj l2 l _ _ g ⟨_,rQ⟩ pG k3 k1 (r2 g hg) rfl)
       ·exact h.mine l2 _ b2 ⟨_,rQ⟩ k3 (r2 b2 hb2)
       ·exact (h.owned ⟨_,rQ⟩ k3 (r2 b2 hb2)).set
       ·intro l' o' p' ho' hc' hw';obtain ⟨m1,m2⟩:=hlv ⟨o',ho'⟩;exact m1 (h.inj l' l2 p' _ b2 m2 ⟨_,rQ⟩ hc' k3 hw' (r2 b2 hb2))
      have qz:=hkl.CB (l:=l) ⟨_,hol⟩ k1 rfl hst (λo' e=>by cases e; exact H9) hN
      exact hk _ υ c (Cx.le_refl c) qz (by simp only [RV]) (hst.mono λb' _ e=>by rw [e]; exact hM)
     ·rename_i E2 ys ho2;replace hx:=aK hx;obtain ⟨b5,hx⟩:=hx;simp only [ik',Bool.or_eq_true,ju'] at b5;obtain ⟨⟨b5,b6⟩,b8⟩:=b5;have hne:l2≠l:=λe=>by subst e; simp at b8
      have huo:u≠o:=by
       rcases b5 with b5 | b5
       ·have:=iA b5; omega
       ·have:=iE' b5; omega
      have hus:=iA b6;replace hx:=bind_some hx;obtain ⟨ls',uo,hx⟩:=hx;replace hx:=bind_some hx;obtain ⟨x1,hx1,hx⟩:=hx;cases hx;have rQ:=d9 _ _ ho2;obtain ⟨τ,t1,t2,t3⟩:=h.settle rQ;have hol:(aP s l2 (some (.row E2 ys true))).O l=some (some (.aA E E' u xs q0)):=by show aZ s.O l2 _ l=_;rw [bW hne.symm]; exact hos
      have dv':(aP s l2 (some (.row E2 ys true))).O l2=some (some (.row E2 ys true)):=dS _ _ _;obtain ⟨A2,wT,ow2,k3,k4⟩:=t3.aL l2 _ dv';rw [k3] at hc2;cases hc2;have rP:v2=.slice A2 ys.length wT:=rP;have hsl:RV X c τ (.sl E2 ys false) v2:=by simp only [RV]; exact ⟨A2,wT,rP,k4.sl,λe=>by cases e⟩
      rw [<- t1];refine Nn (E':=E') (u:=u) (q:=q0) ht t3 hol k1 hxj uo hx1 h2 h1 h3 hyv hsl hsz1 PN λυ hst H9 hsame hnew hH'=>?_;have hM:X.M b:=h.mine l _ b pG k1 rfl;have hcells:∀ i,i<xs.length->υ.w.cell? ⟨b,i*Rp.sz (I E)+u,none⟩=τ.w.cell? ⟨b,i*Rp.sz (I E)+u,none⟩:=λi _=>hsame _ λe=>by
       by_cases hij:i=j
       ·subst hij; omega
       ·rcases Nat.lt_or_gt_of_ne hij with hlt | hlt
        ·have:(i+1)*Rp.sz (I E)<=j*Rp.sz (I E):=iR' _ hlt;rw [jb',jW'] at this;omega
        ·have:(j+1)*Rp.sz (I E)<=i*Rp.sz (I E):=iR' _ hlt;rw [jb',jW'] at this;omega
      have hN:dZ X c υ (aZ (aP s l2 (some (.row E2 ys true))).O l (some (.aA E E' u (xs.set j x1) q0))):=by refine t3.aA.turn (j:=j) hol k1 hst (λl' o' p' ho' hc' hw'=>t3.inj l' l p' _ b ⟨o',ho'⟩ ⟨_,hol⟩ hc' k1 hw' rfl) (λl' E1 E3 u1 mX q1 g' kk m w e hc' hx'=>(t3.aL l' _ e).zh hc' hx') (by simp) (λi hi _ hq=>⟨hq,hcells i hi⟩) λhi hq=>.inl ⟨hq,hcells j hi⟩
      have qz:=t3.CB (l:=l) ⟨_,hol⟩ k1 rfl hst (λo' e=>by cases e; exact H9) hN
      exact hk _ υ c (Cx.le_refl c) qz (by simp only [RV]) (t2.trans (hst.mono λb' _ e=>by rw [e]; exact hM))
     ·cases hx
    ·cases hx
   ·cases hx
  ·rename_i E e0 o;split at hx
   ·rename_i i a;replace hx:=bind_some hx;obtain ⟨z,hz,hx⟩:=hx;split at hx
    ·rename_i i' b;split at hx
     ·rename_i hi;subst hi;replace hx:=aK hx;obtain ⟨hab,hx⟩:=hx;obtain rfl:a=b:=by simpa using hab
      cases hx;have hl:=qN hvs h4;generalize hvv:(ev F y).cells.toList=fT at hl;simp only [RV] at h2;obtain ⟨b',p0,cs,h2,c1,c2⟩:=h2;have hl1:=RG.len _ _ hl;have hl1:fT.length=1:=by rw [hl1]; rfl
      have eu:∃ v,fT=[v]/\v=.int i a:=by
       obtain ⟨v,e⟩:∃ v,fT=[v]:=by
        match fT,hl1 with
        | [v],_=>exact ⟨v,rfl⟩
       subst e;refine ⟨v,rfl,?_⟩;have hl2:nP σ (PV.int (I:=I) i a) [v]\/kV (PV.int (I:=I) i a)=false/\v=.int i a:=by simpa [RG,RV] using hl
       rcases hl2 with hl2 | hl2
       ·exact absurd hl2 (by simp [nP])
       ·exact hl2.2
      obtain ⟨v,rfl,rfl⟩:=eu;rcases Bl (X:=X) (c:=c) ht hz (RG.one c1) with ⟨kk,_,_,hv⟩ | ⟨_,v,hv,eu⟩
      ·simp only [RV] at hv;cases hv
      ·simp only [RV] at eu;subst eu;have hol:=(ij'.1 hv).1;exact Tm h2 h1 h3 hvv (ht.size _ _ hm) rfl (c2.2 o _ hv) (c2.1.2 o hol) (hk _ σ c (Cx.le_refl c) h (by simp only [RV]) (Stp.refl _ _))
     ·cases hx
    ·cases hx
   ·cases hx
  ·cases hx
 ·rename_i T len ps;replace hx:=bind_some hx;obtain ⟨E,hE,hx⟩:=hx;replace hx:=bind_some hx;obtain ⟨fE,hby,hx⟩:=hx;obtain ⟨z,hT⟩:=ht.slice _ _ _ hE hby;split at hx
  ·rename_i he;obtain rfl:ps=je' []:=by cases ps; simp_all
   cases hx;exact Uc hT λτ A PO=>hk _ τ c (Cx.le_refl c) (h.step (Stp.ext PO)) (by simp only [RV]; exact ⟨A,rfl⟩) (Stp.ext PO).no
  ·replace hx:=bind_some hx;obtain ⟨xs,hxs,hx⟩:=hx;replace hx:=aK hx;obtain ⟨hb,hx⟩:=hx;simp only [ik'] at hb;obtain ⟨⟨b1,b2⟩,b3⟩:=hb;cases hx;refine pF xs.2 λτ hw hst hrel hS hR rO hold=>?_;obtain ⟨vs,g1,g2,g3,g4,g5⟩:=JO ht rO hS (ls:=xs.2) hxs (λl hl=>hl);have e:ps=ps.toList.toArray:=by simp
   rw [e];have hnb:(aG s O xs.2).O nb=none:=oU hf;refine ZA hT xs.1 vs g1 g2 (ii' b1) g3 (iA b2) b3 g4 ?_
   let cs:=vs.flatMap (·.cells.toList)
   let υ:S:=⟨τ.w.alloc (.cells cs.toArray E),λb=>if b=τ.N then (0,b) else τ.L b⟩
   have Ia:∀ b,b<τ.N->υ.w.heap[b]?=τ.w.heap[b]?:=λb hb=>heap_alloc_old τ.w _ hb;have hL:∀ b,b<τ.N->υ.L b=τ.L b:=λb hb=>by simp [υ,Nat.ne_of_lt hb]
   have jw:Stp l5 τ υ:=⟨⟨by simp [S.N,υ],λb hb=>by rw [hL b hb]; exact ip' _,λb o v _ hv=>(o7 (Ia b (mO hv)) o).trans hv,ip' _,λb o hb hf=>(tO (Ia b hb) o).trans hf⟩,rfl,rfl,rfl,λb hb _=>⟨Ia b hb,by rw [hL b hb]⟩⟩
   have hcs:cs.length=xs.1.length*Rp.sz (I E):=g5.len;have hmax:xs.1.length<=maxLen:=by have h1:xs.1.length<=xs.1.length*Rp.sz (I E):=jJ' _ (Rp.pos (α:=I E));have h2:=iE' b3;rw [ii' b1] at h2;simp only [maxLen]; omega
   have hown:cu (some τ.N) false E υ xs.1 (some ⟨τ.N,0,none⟩) xs.1.length :=
    ⟨cs.toArray,cs,rfl,heap_alloc_new _ _,ip' _,hmax,by simpa using hcs,g5.mono jw.bS,by rw [<- hcs]; exact List.take_length,by simp [υ]⟩
   obtain ⟨k1,k2⟩:=(hrel.step jw).newRow hnb hown λg hg=>by cases hg;refine ⟨.inl hrel.base.1,hrel.zk jw (ip' _),λl' p' ⟨o,ho⟩ hc hw=>?_⟩;have:=(hrel.aL l' o ho).lt hc hw;omega
   exact hk _ υ _ k1 k2 (by simp only [RV]; exact ⟨_,dU _ _ _,rfl⟩) (hst.trans jw.no)
 ·rename_i T x y;replace hx:=bind_some hx;obtain ⟨p,hp,hx⟩:=hx;replace hx:=bind_some hx;obtain ⟨q,hq,hx⟩:=hx;replace hx:=bind_some hx;obtain ⟨len,hlen,hx⟩:=hx;replace hx:=bind_some hx;obtain ⟨cap,hcap,hx⟩:=hx;replace hx:=bind_some hx;obtain ⟨E,hE,hx⟩:=hx;replace hx:=bind_some hx;obtain ⟨fE,hby,hx⟩:=hx;replace hx:=bind_some hx;obtain ⟨zs,hzs,hx⟩:=hx;replace hx:=bind_some hx;obtain ⟨z0,hz0,hx⟩:=hx;replace hx:=bind_some hx;obtain ⟨m,hm,hx⟩:=hx;cases hx;have hnb:s.O nb=none:=oU hf;obtain ⟨h1,h2⟩:=E1 hp;obtain ⟨h3,h4⟩:=E1 hq;have qy:∀ {q:PV I} {j:Int} {v:Value},fD q=some j->RV X c σ q v->v=.int .i64 j:=by
   intro q j v hj hv;unfold fD at hj;split at hj
   ·cases hj; simpa only [RV] using hv
   ·cases hj
  have h2':=qy hlen h2;have h4':=qy hcap h4;obtain ⟨z,hT⟩:=ht.slice _ _ _ hE hby;obtain ⟨z1,sz1,by1,cs1,hT1,hc1,hl1⟩:=ht.zero _ _ hzs;have hz:z1=z:=by obtain ⟨i,a1,a2,_⟩:=hT1;obtain ⟨_,⟨i',b1,b2,_⟩,_⟩:=hT;rw [a1] at b1;cases b1;rw [a2] at b2;cases b2;rfl
  subst hz;have hcell:Rp.cells σ z0 z1.cells.toList:=by rw [hc1]; exact ht.of X c σ E zs z0 cs1 hz0 (hl1 X c σ)
  obtain ⟨τ,k,hrun,hst,hown,hcells⟩:=Yd (P:=P) (σ:=σ) hT hcell hm;refine dH rfl (.slice (some ⟨σ.N,0,none⟩) (iC' m z0).length k) τ.w ?_ ?_
  ·show Sem.run P (do pure (Next.value (<- Instr.makeSlice T ((fr n F).eval x) ((fr n F).eval y)))) σ.w=_
   rw [bq h1,bq h3,h2',h4',Sem.run_bind,hrun];rfl
  ·rcases cB' (tb:=tb) (zs:=zs) (xs:=iC' m z0) (E:=E) with e | ⟨E',u,r,e,q1,q2⟩
   ·obtain ⟨k1,k2⟩:=(h.step hst).newRow hnb hown λg hg=>by
     cases hg;refine ⟨.inl h.base.1,h.zk hst (ip' _),λl' p' ⟨o,ho⟩ hc hw=>?_⟩;have:=(h.aL l' o ho).lt hc hw;omega
    rw [e] at hk;exact hk _ τ _ k1 k2 (by simp only [RV]; exact ⟨_,dU _ _ _,rfl⟩) hst.no
   ·obtain ⟨d1,d2,ed,hd1,_,hd2⟩:=pW (X:=X) (c:=c) (σ:=σ) ht (a:=r.1) (b:=r.2) q1 (hl1 X c σ);obtain ⟨v,hv,eu⟩:=DX ht q2 hd2;simp only [RV] at eu;obtain ⟨A0,rfl⟩:=eu;have hzu:z1.cells.toList[u]?=some (.slice A0 0 0):=by
     rw [hc1,ed,iv' (by omega),hd1,Nat.sub_self]
     exact hv
    obtain ⟨k1,k2⟩:=h.dp' (E':=E') (u:=u) hst hnb hown λi hi=>⟨A0,hcells i u _ (by simpa using hi) hzu⟩
    rw [e] at hk;exact hk _ τ _ k1 k2 (by simp only [RV]; exact ⟨_,dU _ _ _,rfl⟩) hst.no
 ·rename_i args ats;split at hx
  ·rename_i x T ea et;obtain rfl:args=#[x]:=by cases args; simp_all
   obtain rfl:ats=#[T]:=by cases ats; simp_all
   replace hx:=bind_some hx;obtain ⟨p,hp,hx⟩:=hx;obtain ⟨h1,h2⟩:=E1 hp;split at hx
   ·replace hx:=bind_some hx;obtain ⟨E,hE,hx⟩:=hx;cases hx;simp only [RV] at h2;obtain ⟨A,k,e1,_⟩:=h2;exact p9 A _ k e1 h1 (ht.el _ _ hE).1 (hval _ _ rfl (by simp only [RV]))
   ·replace hx:=bind_some hx;obtain ⟨E,hE,hx⟩:=hx;cases hx;simp only [RV] at h2;obtain ⟨A,e1⟩:=h2;exact p9 A 0 0 e1 h1 (ht.el _ _ hE).1 (hval _ _ rfl (by simp only [RV]; rfl))
   ·rename_i l;split at hx
    ·rename_i E' xs fl ho;replace hx:=bind_some hx;obtain ⟨E,hE,hx⟩:=hx;cases hx;obtain ⟨A,k,ow,k1,_⟩:=hO _ _ ho;simp only [RV] at h2;obtain ⟨pl,k2,e1⟩:=h2;rw [k1] at k2;cases k2;exact p9 A _ k e1 h1 (ht.el _ _ hE).1 (hval _ _ rfl (by simp only [RV]))
    ·rename_i E' xs ho;replace hx:=bind_some hx;obtain ⟨E,hE,hx⟩:=hx;cases hx;obtain ⟨A,k,k1,_⟩:=hO _ _ ho;simp only [RV] at h2;obtain ⟨pl,k2,e1⟩:=h2;rw [k1] at k2;cases k2;exact p9 A _ k e1 h1 (ht.el _ _ hE).1 (hval _ _ rfl (by simp only [RV]))
    ·rename_i E' xs ho;replace hx:=bind_some hx;obtain ⟨E,hE,hx⟩:=hx;cases hx;obtain ⟨A,k,k1,_⟩:=hO _ _ ho;simp only [RV] at h2;obtain ⟨pl,k2,e1⟩:=h2;rw [k1] at k2;cases k2;exact p9 A _ k e1 h1 (ht.el _ _ hE).1 (hval _ _ rfl (by simp only [RV]))
    ·rename_i E' E1 u1 xs q1 ho;replace hx:=bind_some hx;obtain ⟨E,hE,hx⟩:=hx;cases hx;obtain ⟨A,k,ow,k1,_⟩:=hO _ _ ho;simp only [RV] at h2;obtain ⟨pl,k2,e1⟩:=h2;rw [k1] at k2;cases k2;exact p9 A _ k e1 h1 (ht.el _ _ hE).1 (hval _ _ rfl (by simp only [RV]))
    ·cases hx
   ·rename_i l sz0 lo;split at hx
    ·rename_i E' xs fl ho;replace hx:=bind_some hx;obtain ⟨E,hE,hx⟩:=hx;cases hx;obtain ⟨A,k,ow,k1,_⟩:=hO _ _ ho;simp only [RV] at h2;obtain ⟨b,k',m,w,k2,e1⟩:=h2;rw [k1] at k2;cases k2;exact p9 _ _ _ e1 h1 (ht.el _ _ hE).1 (hval _ _ rfl (by simp only [RV,jd']))
    ·cases hx
   ·replace hx:=aK hx;obtain ⟨hb,hx⟩:=hx;cases hx;simp only [RV] at h2;exact Jm _ h2 h1 (ht.isStr _ hb) (hval _ _ rfl (by simp only [RV]))
   ·cases hx
  ·cases hx
 ·rename_i args ats;split at hx
  ·rename_i x T ea et;obtain rfl:args=#[x]:=by cases args; simp_all
   obtain rfl:ats=#[T]:=by cases ats; simp_all
   replace hx:=bind_some hx;obtain ⟨p,hp,hx⟩:=hx;replace hx:=bind_some hx;obtain ⟨E,hE,hx⟩:=hx;replace hx:=bind_some hx;obtain ⟨fE,hby,hx⟩:=hx;replace hx:=bind_some hx;obtain ⟨zs,hzs,hx⟩:=hx;replace hx:=bind_some hx;obtain ⟨z0,hz0,hx⟩:=hx;obtain ⟨h1,h2⟩:=E1 hp;split at hx
   ·rename_i l sz lo;split at hx
    ·rename_i E' xs ho;replace hx:=aK hx;obtain ⟨hb,hx⟩:=hx;simp only [ik'] at hb;have e2:=ii' hb.1;have hlt:=iA hb.2;subst e2;replace hx:=bind_some hx;obtain ⟨ys,hys,hx⟩:=hx;obtain ⟨e,e'⟩:=iM hys;subst e;subst e';cases hx;obtain ⟨z,hT⟩:=ht.slice _ _ _ hE hby;obtain ⟨z1,sz1,by1,cs1,hT1,hc1,hl1⟩:=ht.zero _ _ hzs;have hz:z1=z:=by obtain ⟨i,a1,a2,_⟩:=hT1;obtain ⟨_,⟨i',b1,b2,_⟩,_⟩:=hT;rw [a1] at b1;cases b1;rw [a2] at b2;cases b2;rfl
     subst hz;have hcell:Rp.cells σ z0 z1.cells.toList:=by rw [hc1]; exact ht.of X c σ _ zs z0 cs1 hz0 (hl1 X c σ)
     obtain ⟨A,k,ow,k1,k2⟩:=hO _ _ ho;simp only [RV] at h2;obtain ⟨b,k',m,w,k3,e1⟩:=h2;rw [k1] at k3;cases k3;cases ow with
     | none =>
       rcases k2 with ⟨e,_⟩ | ⟨e,_⟩
       ·subst e; simp at hlt
       ·cases e
     | some g =>
       have hg:g=b:=by obtain ⟨au,cs,e,_⟩:=k2;cases e;rfl
       subst hg;obtain ⟨τ,hrun,hst,hown⟩:=Yj (ty:=ty) hT hcell k2 hlt;have hM:X.M g:=h.mine l _ g ⟨_,d9 _ _ ho⟩ k1 rfl;have hrel:=h.upd (o':=some (.row _ (ys.take lo++iC' (ys.length-lo) z0) false)) ⟨_,d9 _ _ ho⟩ k1 rfl hst λo'' e=>by cases e;refine ⟨_,k,some g,?_,hown⟩;rw [k1];congr 2;simp;omega
       refine dH rfl (.tuple #[]) τ.w ?_ (hk _ τ c (Cx.le_refl c) hrel (by simp only [RV]; exact ⟨[],rfl,by simp only [ah]⟩) (hst.mono λ_ _ e=>by rw [e]; exact hM))
       simp [execOp,resolve,invoke,builtin,bq h1,e1,hrun]
    ·cases hx
   ·cases hx
  ·cases hx
 ·rename_i args ats;split at hx
  ·rename_i x y T T' ea et;obtain rfl:args=#[x,y]:=by cases args; simp_all
   obtain rfl:ats=#[T,T']:=by cases ats; simp_all
   replace hx:=bind_some hx;obtain ⟨p,hp,hx⟩:=hx;replace hx:=bind_some hx;obtain ⟨q,hq,hx⟩:=hx;obtain ⟨h1,h2⟩:=E1 hp;obtain ⟨h3,h4⟩:=E1 hq;split at hx
   ·replace hx:=jm hx;obtain ⟨e,hx⟩:=hx;subst e;cases hx;simp only [RV] at h2 h4;exact Rh _ _ _ h2 h4 h1 h3 (hval _ _ rfl (by simp only [RV]))
   ·cases hx
  ·cases hx
 ·rename_i args ats;split at hx
  ·rename_i x y T T' ea et;obtain rfl:args=#[x,y]:=by cases args; simp_all
   obtain rfl:ats=#[T,T']:=by cases ats; simp_all
   replace hx:=bind_some hx;obtain ⟨p,hp,hx⟩:=hx;replace hx:=bind_some hx;obtain ⟨q,hq,hx⟩:=hx;obtain ⟨h1,h2⟩:=E1 hp;obtain ⟨h3,h4⟩:=E1 hq;split at hx
   ·replace hx:=jm hx;obtain ⟨e,hx⟩:=hx;subst e;cases hx;simp only [RV] at h2 h4;exact ae' _ _ _ h2 h4 h1 h3 (hval _ _ rfl (by simp only [RV]))
   ·cases hx
  ·cases hx
 ·rename_i args ats;split at hx
  ·rename_i x y T T' ea et;obtain rfl:args=#[x,y]:=by cases args; simp_all
   obtain rfl:ats=#[T,T']:=by cases ats; simp_all
   replace hx:=bind_some hx;obtain ⟨p,hp,hx⟩:=hx;replace hx:=bind_some hx;obtain ⟨q,hq,hx⟩:=hx;replace hx:=bind_some hx;obtain ⟨E,hE,hx⟩:=hx;replace hx:=bind_some hx;obtain ⟨fE,hby,hx⟩:=hx;replace hx:=bind_some hx;obtain ⟨ys,hys,hx⟩:=hx;obtain ⟨h1,h2⟩:=E2 hp;obtain ⟨h3,h4⟩:=E2 hq;refine pF ys.2 λτ hw hst hrel hS hR rO hold=>?_;have hs2:yE P ty T T' E fE τ (ev F y) ys.1:=Xx (ls:=ys.2) ht hE hby hrel hS hys (λl hl=>hl) (λl T vs w ho hl=>(hold l hl).trans (d9 _ _ ho)) (RV.step hst _ _ h4);have main:∀ (xs:List (I E)) (A:Option Addr) (k:Nat) (ow:Option Nat) (fl:Bool) (s1:St I),ev F x=.slice A xs.length k->cu ow fl E τ xs A k->(xs.length+ys.1.length)*fE<=140737488355328->Rel X c τ s1 n F->s1.O nb=none ->
    (∀ g,ow=some g->X.M g/\bQ c τ s1 g/\∀ l' p',aQ s1 l'->c l'=some p'->p'.w≠some g)->gD s nb e=aP s1 nb (some (.row E (xs++ys.1) fl))->e.p=.vw nb ->
    wpList P ops Q (⟨d,.call ⟨.builtin .append,#[x,y],#[T,T']⟩,ty,pos,aX,none⟩::rest) (fr n F) τ.w:=by
    intro xs A k ow fl s1 hv hown hroom hr1 hnb hfree hend hep;obtain ⟨υ,A',c',Hz,hrun,jw,hown',hg⟩:=Um (ty:=ty) hown hs2 hroom;refine dH rfl (.slice A' (xs++ys.1).length c') υ.w ?_ ?_
    ·simp [execOp,resolve,invoke,builtin,bq h1,bq h3,hv,hrun]
    ·have hM:∀ b,ow=some b->X.M b:=λb hb=>(hfree b hb).1;have hn1:∀ l p g,aQ s1 l->c l=some p->p.w=some g->¬ ow=some g:=λl p g hl hc hw hg=>(hfree g hg).2.2 l p hl hc hw;have hi1:∀ g,ow=some g->bQ c τ s1 g:=λg hg=>(hfree g hg).2.1;have hr2:=hr1.stepG jw hM hn1 hi1;obtain ⟨k1,k2⟩:=hr2.newRow hnb hown' λg hg'=>by
      rcases hg g hg' with h5 | h5
      ·exact ⟨(hfree g h5).1,(hfree g h5).2.1.step hr1 jw hn1 hi1,(hfree g h5).2.2⟩
      ·refine ⟨.inl (iz' hr1.base.1 h5),(hr1.fresh h5).step hr1 jw hn1 hi1,λl' p' ⟨o,ho⟩ hc hw=>?_⟩;have:=(hr1.aL l' o ho).lt hc hw;omega
     exact hk _ υ _ k1 (by rw [hend]; exact k2) (by rw [hep]; simp only [RV]; exact ⟨_,dU _ _ _,rfl⟩) (hst.trans (jw.mono λb _ hb=>hM b hb))
   split at hx
   ·replace hx:=bind_some hx;obtain ⟨_,hroom,hx⟩:=hx;cases hx;simp only [RV] at h2;obtain ⟨A,e1⟩:=h2;exact main [] A 0 none false (aG s O ys.2) e1 (.inl ⟨rfl,rfl⟩) (Eb hroom) hrel (oU hf) (λg hg=>by cases hg) rfl rfl
   ·rename_i E' xs;replace hx:=bind_some hx;obtain ⟨xs',hxs,hx⟩:=hx;replace hx:=bind_some hx;obtain ⟨_,hroom,hx⟩:=hx;obtain ⟨e,e'⟩:=iM hxs;subst e;subst e';cases hx;have h2':=RV.step hst _ _ h2;simp only [RV] at h2';obtain ⟨A,k,e1,hs,hfull⟩:=h2';have hk':=hfull (by simp)
    subst hk';exact main xs' A _ none true (aG s O ys.2) e1 (.inr ⟨rfl,rfl,hs⟩) (Eb hroom) hrel (oU hf) (λg hg=>by cases hg) rfl rfl
   ·rename_i l;split at hx
    ·rename_i E' xs fl ho;replace hx:=bind_some hx;obtain ⟨xs',hxs,hx⟩:=hx;replace hx:=bind_some hx;obtain ⟨_,hroom,hx⟩:=hx;obtain ⟨e,e'⟩:=iM hxs;subst e;subst e';cases hel:ys.2.elem l with
     | true=>rw [hel] at hx; cases hx
     | false =>
       rw [hel] at hx;cases hx;have hnl:l ∉ ys.2:=by simpa using hel
       have hol:(aG s O ys.2).O l=some (some (.row E' xs' fl)):=(hold l hnl).trans (d9 _ _ ho);obtain ⟨A,k,ow,k1,k2⟩:=hrel.aL l _ hol;simp only [RV] at h2;obtain ⟨pl,k3,e1⟩:=h2;rw [k1] at k3;cases k3;have zl:=hrel.kill (l:=l) ⟨_,hol⟩;have hO1:(aP (aG s O ys.2) l none).O=bC s.O (aT O ys.2++[(l,none)]):=by simp only [jT,bC,aP,aG]
       refine main xs' A k ow fl (aP (aG s O ys.2) l none) e1 k2 (Eb hroom) zl (by rw [hO1]; exact oU hf) (λg hg=>⟨hrel.mine l _ g ⟨_,hol⟩ k1 hg,(hrel.owned ⟨_,hol⟩ k1 hg).set,λl' p' ⟨o,ho'⟩ hc hw=>?_⟩) ?_ rfl
       ·rcases bG ho' with ⟨_,e⟩ | ⟨e,h'⟩
        ·cases e
        ·exact e (hrel.inj l' l _ _ g ⟨o,h'⟩ ⟨_,hol⟩ hc k1 hw hg)
       ·simp only [gD,bV,jT,bC,aP,aG]
    ·cases hx
   ·cases hx
  ·cases hx
 ·rename_i f args ats;replace hx:=bind_some hx;obtain ⟨ps,hps,hx⟩:=hx;obtain ⟨h1,h2⟩:=tu hG hps;have hc:=hd.ok _ _ _ _ _ hx X c σ s n F _ hX d9 h h2 hf;have e:args=args.toList.toArray:=by simp
  rw [e];refine vB rfl hc (D8 h1 σ.w) λv τ hst ⟨c',k1,k2,k3⟩=>hk v τ c' k1 k2 k3 hst
 ·rename_i t args ats;replace hx:=bind_some hx;obtain ⟨p,hp,hx⟩:=hx;obtain ⟨h0,h0'⟩:=E1 hp;have e:args=args.toList.toArray:=by simp
  split at hx
  ·rename_i f ls;replace hx:=bind_some hx;obtain ⟨ps,hps,hx⟩:=hx;obtain ⟨h1,h2⟩:=tu hG hps;simp only [RV] at h0';obtain ⟨cs,e1,h3⟩:=h0';have hc:=hd.ok _ _ _ _ _ hx X c σ s n F _ hX d9 h (ah.app _ _ _ _ h2 h3) hf;rw [e];exact vB rfl hc (by have:=FT (P:=P) (d:=d) (ats:=ats) (ty:=ty) (pos:=pos) (aX:=aX) (ie':=[]) h1 h0 e1 σ.w; simpa using this) λv τ hst ⟨c',k1,k2,k3⟩=>hk v τ c' k1 k2 k3 hst
  ·rename_i f ls;replace hx:=bind_some hx;obtain ⟨ps,hps,hx⟩:=hx;obtain ⟨h1,h2⟩:=tu hG hps;simp only [RV] at h0';obtain ⟨cs,e1,h3⟩:=h0';have hc:=hd.ok _ _ _ _ _ hx X c σ s n F _ hX d9 h (ah.app _ _ _ _ h3 h2) hf;rw [e];exact vB rfl hc (by have:=FT (P:=P) (d:=d) (ats:=ats) (ty:=ty) (pos:=pos) (aX:=aX) (cs:=[]) h1 h0 e1 σ.w; simpa using this) λv τ hst ⟨c',k1,k2,k3⟩=>hk v τ c' k1 k2 k3 hst
  ·rename_i ks rs g;replace hx:=bind_some hx;obtain ⟨ps,hps,hx⟩:=hx;replace hx:=bind_some hx;obtain ⟨q,hq,hx⟩:=hx;replace hx:=bind_some hx;obtain ⟨r,hr,hx⟩:=hx;cases hx;obtain ⟨h1,h2⟩:=tu hG hps;refine pF q.2 λτ hw hst hrel hS hR rO hold=>?_;have zm:=uT ht hS (ls:=q.2) hq (λl hl=>hl) (ah.step hst _ _ h2);have PS:=RV.step hst _ _ h0';simp only [RV] at PS;obtain ⟨f,ie',cs,e1,hfn⟩:=PS;have hc:=hfn.2.2 τ (Stp.refl _ _) q.1 _ r zm hr;rw [hX] at hc;rw [e];refine vB rfl hc (FT h1 h0 e1 τ.w) λv υ jw ⟨ws,e2,hws⟩=>?_;subst e2;exact hk _ υ c (Cx.le_refl c) (hrel.step jw) (vP (uU ht hws (λi pl h=>by simp at h)).1) (hst.trans jw.no)
  ·cases hx
 ·replace hx:=bind_some hx;obtain ⟨kd,hkd,hx⟩:=hx;cases hx;have hnb:s.O nb=none:=oU hf;refine U4 λτ hE hh=>?_;obtain ⟨k1,k2⟩:=h.do' (m:=([]:List (ByteArray×Ty I kd))) hnb hE ⟨#[],0,hh,by simp [lq]⟩
  exact hk _ τ _ k1 k2 (by simp only [RV]; exact ⟨σ.N,_,dU _ _ _,rfl⟩) (Stp.ext hE).no
 ·rename_i T x y ok;replace hx:=bind_some hx;obtain ⟨p,hp,hx⟩:=hx;replace hx:=bind_some hx;obtain ⟨q,hq,hx⟩:=hx;obtain ⟨h1,h2⟩:=E1 hp;obtain ⟨h3,h4⟩:=E1 hq;split at hx
  ·rename_i l t;split at hx
   ·rename_i T' kd m ho;replace hx:=aK hx;obtain ⟨hT,hx⟩:=hx;have eT:=ii' hT;subst eT;replace hx:=bind_some hx;obtain ⟨kd',hkd,hx⟩:=hx;replace hx:=aK hx;obtain ⟨hdk,hx⟩:=hx;have ek:=of_decide_eq_true hdk;subst ek;replace hx:=bind_some hx;obtain ⟨z,hz,hx⟩:=hx;cases hx;obtain ⟨b,k1,k2⟩:=hO _ _ ho;simp only [RV] at h2 h4;obtain ⟨b',w,k3,e1⟩:=h2;rw [k1] at k3;cases k3;obtain ⟨v,r1,r2⟩:=Ls (ok:=ok) (s:=t) (ht.mp _ _ hkd) hz k2;refine MF _ _ _ e1 h4 h1 h3 r1 (hval _ _ rfl ?_);have hr:=sJ (X:=X) (c:=c) ht r2;cases ok with
    | false=>exact hr
    | true =>simp only [cond_true,RV];exact ⟨[v,.bool (fH m t).isSome],rfl,by simp only [ah]; exact ⟨v,_,rfl,hr,_,_,rfl,by simp only [RV],rfl⟩⟩
   ·rename_i T' kd m ho;replace hx:=aK hx;obtain ⟨hT,hx⟩:=hx;have eT:=ii' hT;subst eT;replace hx:=bind_some hx;obtain ⟨kd',hkd,hx⟩:=hx;replace hx:=aK hx;obtain ⟨hdk,hx⟩:=hx;have ek:=of_decide_eq_true hdk;subst ek;replace hx:=bind_some hx;obtain ⟨z,hz,hx⟩:=hx;cases hx;obtain ⟨b,k1,k2,_⟩:=hO _ _ ho;simp only [RV] at h2 h4;obtain ⟨b',w,k3,e1⟩:=h2;rw [k1] at k3;cases k3;obtain ⟨v,r1,r2⟩:=Ls (ok:=ok) (s:=t) (ht.mp _ _ hkd) hz k2;refine MF _ _ _ e1 h4 h1 h3 r1 (hval _ _ rfl ?_);have hr:=sJ (X:=X) (c:=c) ht r2;cases ok with
    | false=>exact hr
    | true =>simp only [cond_true,RV];exact ⟨[v,.bool (fH m t).isSome],rfl,by simp only [ah]; exact ⟨v,_,rfl,hr,_,_,rfl,by simp only [RV],rfl⟩⟩
   ·cases hx
  ·cases hx
 ·rename_i T x y z;replace hx:=bind_some hx;obtain ⟨p,hp,hx⟩:=hx;replace hx:=bind_some hx;obtain ⟨q,hq,hx⟩:=hx;replace hx:=bind_some hx;obtain ⟨r,hr,hx⟩:=hx;obtain ⟨h1,h2⟩:=E1 hp;obtain ⟨h3,h4⟩:=E1 hq;obtain ⟨h5,h6⟩:=E1 hr;split at hx
  ·rename_i l t;split at hx
   ·rename_i T' kd m ho;replace hx:=aK hx;obtain ⟨hT,hx⟩:=hx;have eT:=ii' hT;subst eT;replace hx:=bind_some hx;obtain ⟨kd',hkd,hx⟩:=hx;replace hx:=aK hx;obtain ⟨hdk,hx⟩:=hx;have ek:=of_decide_eq_true hdk;subst ek;replace hx:=bind_some hx;obtain ⟨a,ha,hx⟩:=hx;cases hx;refine pF a.2 λτ hw hst hrel hS hR rO hold=>?_;have zm:=qb ht hS (ls:=a.2) ha (λl hl=>hl) (RV.step hst _ _ h6);obtain ⟨b,k1,k2⟩:=hS.2.2.1 l _ _ _ ho;simp only [RV] at h2 h4;obtain ⟨b',w,k3,e1⟩:=h2;rw [k1] at k3;cases k3;obtain ⟨υ,u1,u2,u3⟩:=OM (s:=t) (ht.mp _ _ hkd) k2 zm;have hol:(aG s O a.2).O l=some (some (.map T kd' m)):=by
     show bC s.O (aT O a.2) l=_;rw [vK (λE xs e'=>by rw [ho] at e'; cases e')]
     exact d9 _ _ ho
    have hM:=hrel.mine l _ b ⟨_,hol⟩ k1 rfl;have qz:=hrel.upd (o':=some (.map T kd' (iX m t a.1))) ⟨_,hol⟩ k1 rfl u2 λo e=>by cases e;exact ⟨b,k1,u3⟩
    have he:gD s nb ⟨.undef,aT O a.2++[(l,some (.map T kd' (iX m t a.1)))],[]⟩=aP (aG s O a.2) l (some (.map T kd' (iX m t a.1))):=by simp only [gD,bV,jT,bC,aP,aG]
    refine UX _ _ _ e1 h4 rfl h1 h3 h5 u1 (hk _ υ c (Cx.le_refl c) (by rw [he]; exact qz) (by simp only [RV]) (hst.trans (u2.mono λb' _ e=>by rw [e]; exact hM)))
   ·cases hx
  ·cases hx
 ·rename_i T x y z;replace hx:=bind_some hx;obtain ⟨p,hp,hx⟩:=hx;replace hx:=bind_some hx;obtain ⟨q,hq,hx⟩:=hx;replace hx:=bind_some hx;obtain ⟨r,hr,hx⟩:=hx;obtain ⟨h1,h2⟩:=E1 hp;obtain ⟨h3,h4⟩:=E1 hq;obtain ⟨h5,h6⟩:=E1 hr;split at hx
  ·rename_i l t;split at hx
   ·rename_i T' kd m ho;replace hx:=aK hx;obtain ⟨hT,hx⟩:=hx;have eT:=ii' hT;subst eT;replace hx:=bind_some hx;obtain ⟨kd',hkd,hx⟩:=hx;replace hx:=aK hx;obtain ⟨hdk,hx⟩:=hx;have ek:=of_decide_eq_true hdk;subst ek;replace hx:=bind_some hx;obtain ⟨a,ha,hx⟩:=hx;cases hx;refine pF a.2 λτ hw hst hrel hS hR rO hold=>?_;have zm:=qb ht hS (ls:=a.2) ha (λl hl=>hl) (RV.step hst _ _ h6);obtain ⟨b,k1,k2⟩:=hS.2.2.1 l _ _ _ ho;simp only [RV] at h2 h4;obtain ⟨b',w,k3,e1⟩:=h2;rw [k1] at k3;cases k3;obtain ⟨υ,u1,u2,u3⟩:=OM (s:=t) (ht.mp _ _ hkd) k2 zm;have hol:(aG s O a.2).O l=some (some (.map T kd' m)):=by
     show bC s.O (aT O a.2) l=_;rw [vK (λE xs e'=>by rw [ho] at e'; cases e')]
     exact d9 _ _ ho
    have hM:=hrel.mine l _ b ⟨_,hol⟩ k1 rfl;have qz:=hrel.upd (o':=some (.map T kd' (iX m t a.1))) ⟨_,hol⟩ k1 rfl u2 λo e=>by cases e;exact ⟨b,k1,u3⟩
    have he:gD s nb ⟨.undef,aT O a.2++[(l,some (.map T kd' (iX m t a.1)))],[]⟩=aP (aG s O a.2) l (some (.map T kd' (iX m t a.1))):=by simp only [gD,bV,jT,bC,aP,aG]
    refine ZV _ _ _ e1 h4 rfl h1 h3 h5 u1 (hk _ υ c (Cx.le_refl c) (by rw [he]; exact qz) (by simp only [RV]) (hst.trans (u2.mono λb' _ e=>by rw [e]; exact hM)))
   ·cases hx
  ·cases hx
 ·cases hx
end
end Go.Qx
end
section
open Bool renaming and_eq_true->ik',not_eq_true'->ju',or_eq_false_iff->ko'
open List renaming all_eq_true->iu',getElem?_take_of_lt->iB',mem_append->iw',mem_cons->ir',mem_map->iT',mem_of_getElem?->jF',pairwise_append->jU',pairwise_cons->kg',take_append_drop->iW'
open Nat renaming beq->il',ble->iX',blt->iG',eq_of_beq_eq_true->ii'
open Option renaming bind_some->io',isSome_iff_exists->jE'
namespace Go.Qx
open Go Go.RowKit Go.Sx
def lQ (bn:List (List Nat))(i:Nat):List Nat:=(bn[i]?).getD []
def qa (ops:List Oper)(i:Nat):Option Nat:=(ops[i]?).bind (·.dst)
def bg (x:Nat):List Nat->Bool
 | []=>false
 | y::r=>bif il' x y then true else bg x r
theorem gM {x:Nat}:∀ {l:List Nat},bg x l=true↔x∈l
 | []=>by simp [bg]
 | y::r=>by
   simp only [bg,ir'];cases h:il' x y with
   | true=>simp [ii' h]
   | false =>
     simp only [cond_false,gM];constructor
     ·exact .inr
     ·rintro (rfl | h')
      ·simp at h
      ·exact h'
theorem jN {x:Nat}{l:List Nat}:bg x l=false↔x ∉ l:=by rw [<- Bool.not_eq_true,gM]
def jb (op:Op):List Nat:=op.operands.toList.filterMap λx=>match x with
 | .tmp t=>some t
 | _=>none
structure Inf where
 T:Option (List Nat)
 W:List Nat
def Cr (a b:List Nat):Bool:=a.all λx=>!(bg x b)
def sw (a:List Nat):Option (List Nat)->Bool
 | some t=>Cr a t
 | none=>a.isEmpty
def lN (a b:Inf):Bool:=Cr a.W b.W&&sw a.W b.T&&sw b.W a.T
theorem yO {a b:List Nat}:Cr a b=true↔∀ x∈a,x ∉ b:=by simp only [Cr,iu',ju',jN]
theorem Oe {a b:Inf}(h:lN a b=true):lN b a=true:=by simp only [lN,ik'] at h ⊢;refine ⟨⟨?_,h.2⟩,h.1.2⟩;rw [yO] at *;exact λx hx hy=>h.1.1 x hy hx
def dL (nb:Nat):Nat->List Nat
 | 0=>[]
 | m+1=>nb::dL (nb+1) m
def sK (all:List Oper)(o:Oper):List Nat:=jb o.op++match o.guard with
 | some (j,_)=>(qa all j).toList
 | none=>[]
def Cc (d:Option Nat)(l:List Nat):Bool:=match d with
 | some d=>bg d l
 | none=>false
def vI (all:List Oper)(x y:Oper):Bool:=!(Cc x.dst (sK all y))&&!(Cc y.dst (sK all x))&&!(Cc x.dst y.dst.toList)
section
variable {I:TypeId->Type} [∀ E,Rp (I E)]
mutual
def yG:PV I->List Nat
 | .ptr l _=>[l]
 | .vw l=>[l]
 | .vp l _ _ _=>[l]
 | .vs l _ _=>[l]
 | .av l _ _=>[l]
 | .mp l=>[l]
 | .lD _ ls=>vG ls
 | .o8 _ ls=>vG ls
 | .agg ls=>vG ls
 | .lF ls=>vG ls
 | _=>[]
def vG:List (PV I)->List Nat
 | []=>[]
 | p::r=>yG p++vG r
end
def ji (F:Nat->Option (PV I)):List Nat->List Nat
 | []=>[]
 | t::r=>(match F t with | some p=>yG p | none=>[])++ji F r
def nest (O:ay I):List Nat->List Nat
 | []=>[]
 | l::r=>(match O l with | some (some (.var _ ls _))=>vG ls | _=>[])++nest O r
def Ao (F:Nat->Option (PV I))(O:ay I)(ts:List Nat):List Nat :=
 let a:=ji F ts
 let b:=a++nest O a
 b++nest O b
def La:Op->Bool
 | .move _=>true
 | .assign _=>true
 | .fieldAddr _ _ _=>true
 | .nilCheck _=>true
 | .extract _ _=>true
 | _=>false
def Lu:Op->Bool
 | .load _ _=>true
 | _=>false
def kr (F:Nat->Option (PV I))(O:ay I)(op:Op):List Nat:=bif La op then [] else bif Lu op then ji F (jb op) else Ao F O (jb op)
def uY (F:Nat->Option (PV I))(ts:List Nat):Nat->Option (PV I):=λi=>bif bg i ts then F i else none
def wL (O:ay I)(ls:List Nat):ay I:=λi=>bif bg i ls then O i else none
def eF (u:List (Nat×Option (Ob I))):List Nat:=u.map (·.1)
def gq (s:St I)(i:Nat):Nat:=s.nx+8*i
def fQ (tb:aD I)(aj:dn I)(s:St I)(i:Nat)(o:Oper){ρ:Type}(k:Ef I->Option ρ):Option ρ :=
 bif (jb o.op).all (λt=>(s.F t).isSome) then
 oq tb aj s.n (uY s.F (jb o.op)) (wL s.O (kr s.F s.O o.op)) (gq s i) o.type o.op k else none
def qX (s:St I)(i:Nat)(e:Ef I):Bool:=iX' e.new.length 8&&gI (bC s.O e.upd) (gq s i) e.new
def nH (s:St I)(i:Nat)(o:Oper)(e:Ef I):Inf:=⟨some (kr s.F s.O o.op),eF e.upd++dL (gq s i) e.new.length⟩
def lG (s:St I)(i:Nat)(o:Oper)(e:Ef I):St I:=put (gD s (gq s i) e) o.dst e.p
def iR {α:Type}:List α->Bool
 | []=>true
 | _=>false
abbrev iO:=List (Nat×Inf)
def jy (bn:List (List Nat))(bL:Bool)(acc:iO)(i:Nat)(f:Inf):Bool:=bif bL then acc.all (λa=>bg a.1 (lQ bn i)||lN a.2 f) else true
section
variable {ρ:Type}
def step (tb:aD I)(aj:dn I)(bn:List (List Nat))(bL pure:Bool)(acc:iO)(s:St I)(i:Nat)(o:Oper)(k:St I->iO->Option ρ):Option ρ :=
 fQ tb aj s i o λe=>bif qX s i e&&(bif pure then iR e.upd&&iR e.new else true)&&jy bn bL acc i (nH s i o e) then k (lG s i o e) (bif bL then (i,nH s i o e)::acc else acc) else none
end
def Rz (d:Nat)(o:Oper):Bool:=match o.op with
 | .pick (.tmp c) _ _=>il' c d
 | _=>false
def Mv (d:Nat):List (Nat×Oper)->Nat->Option Nat
 | [],_=>none
 | o::r,n=>bif Rz d o.2 then some n else Mv d r (n+1)
def fO (l:List (Nat×Oper))(i:Nat):Bool:=l.any λo=>match o.2.dst with
 | some d=>il' d i
 | none=>false
def Em (l:List (Nat×Oper))(m:Nat):Option Nat:=(l[m]?).bind (·.2.dst)
def xE:Option (PV I)->Option Bool
 | some (.bool b)=>some b
 | _=>none
def AY (s:St I)(g:List (Nat×Oper))(d:Nat)(q:Bool):St I:=⟨s.n,aZ (λi=>bif fO g i then none else s.F i) d (.bool q),s.O,s.nx⟩
def wB (s:St I)(d:Nat)(b:Bool):St I:=⟨s.n,aZ s.F d (.bool b),s.O,s.nx⟩
def kG (tb:aD I)(aj:dn I)(all:List Oper)(bn:List (List Nat))(bL:Bool)(spl:List Nat):Nat->(ρ:Type)->Bool->List Nat->List (Nat×Oper)->iO->St I->(St I->iO->Option ρ)->Option ρ
 | 0,_,_,_,_,_,_,_=>none
 | _+1,_,_,_,[],acc,s,k=>k s acc
 | m+1,ρ,pure,kn,o::r,acc,s,k=>match o.2.guard with
   | none=>step tb aj bn bL pure acc s o.1 o.2 λs acc=>kG tb aj all bn bL spl m ρ pure kn r acc s k
   | some (j,want)=>(qa all j).bind λdj=>bif iG' dj s.n then (match s.F dj with
     | some .undef=>kG tb aj all bn bL spl m ρ pure kn r acc (put s o.2.dst .undef) k
     | some (.bool c)=>bif bg dj kn
       then (bif c==want then step tb aj bn bL pure acc s o.1 o.2 λs acc=>kG tb aj all bn bL spl m ρ pure kn r acc s k else kG tb aj all bn bL spl m ρ pure kn r acc (put s o.2.dst .undef) k)
       else bif bg dj spl
       then (bif c then kG tb aj all bn bL spl m ρ pure (dj::kn) (o::r) acc (wB s dj true) k else kG tb aj all bn bL spl m ρ pure (dj::kn) (o::r) acc (wB s dj false) k)
       else (Mv dj (o::r) 0).bind λmm=>(Em (o::r) mm).bind λd =>
        (bif c
         then kG tb aj all bn bL spl m Bool true (dj::kn) ((o::r).take (mm+1)) acc (wB s dj true) λs' _=>xE (s'.F d)
         else kG tb aj all bn bL spl m Bool true (dj::kn) ((o::r).take (mm+1)) acc (wB s dj false) λs' _=>xE (s'.F d)).bind λq =>
        kG tb aj all bn bL spl m ρ pure kn ((o::r).drop (mm+1)) (bif bL then ((o::r).take (mm+1)).map (λx=>(x.1,⟨none,[]⟩))++acc else acc) (AY s ((o::r).take (mm+1)) d q) k
     | _=>none) else none
def gP (tb:aD I)(aj:dn I)(all:List Oper)(s:St I)(i:Nat)(o:Oper):Option (Option (Ef I)) :=
 match o.guard with
 | none=>(fQ tb aj s i o some).map some
 | some (j,want)=>(qa all j).bind λdj=>bif iG' dj s.n then (match s.F dj with
   | some .undef=>some none
   | some (.bool c)=>bif c==want then (fQ tb aj s i o some).map some else some none
   | _=>none) else none
def bK (s:St I)(i:Nat)(o:Oper):Option (Ef I)->St I
 | some e=>lG s i o e
 | none=>put s o.dst .undef
def oP (s:St I)(i:Nat):Option (Ef I)->Bool
 | some e=>qX s i e
 | none=>true
def iN (s:St I)(i:Nat)(o:Oper):Option (Ef I)->Inf
 | some e=>nH s i o e
 | none=>⟨some [],[]⟩
inductive jJ (tb:aD I) (aj:dn I) (all:List Oper):St I->List (Nat×Oper)->St I->iO->Prop
 | nil (s:St I):jJ tb aj all s [] s []
 | cons (s:St I) (i:Nat) (o:Oper) (r:Option (Ef I)) (rest:List (Nat×Oper)) (s':St I) (es:iO) (h1:gP tb aj all s i o=some r) (h2:oP s i r=true)
    (h3:jJ tb aj all (bK s i o r) rest s' es):jJ tb aj all s ((i,o)::rest) s' ((i,iN s i o r)::es)
variable {P:Program}{tb:aD I}{aj:dn I}{all:List Oper}{bn:List (List Nat)}{bL:Bool}{spl:List Nat}{X:aY}{c c':Cx}{σ τ:S}
theorem jJ.app {s s' s'':St I}{l1 l2:List (Nat×Oper)}{e1 e2:iO}(h:jJ tb aj all s l1 s' e1)(k:jJ tb aj all s' l2 s'' e2):jJ tb aj all s (l1++l2) s'' (e1++e2):=by
 induction h with
 | nil s=>exact k
 | cons s i o r rest s' es h1 h2 h3 ih=>exact .cons s i o r _ _ _ h1 h2 (ih k)
theorem jJ.mem {s s':St I}{l:List (Nat×Oper)}{es:iO}(h:jJ tb aj all s l s' es):∀ x∈es,∃ y∈l,y.1=x.1:=by
 induction h with
 | nil s=>intro x hx; cases hx
 | cons s i o r rest s' es h1 h2 h3 ih =>
   intro x hx;rcases ir'.1 hx with rfl | hx
   ·exact ⟨(i,o),by simp,rfl⟩
   ·obtain ⟨y,h1,h2⟩:=ih x hx;exact ⟨y,by simp [h1],h2⟩
def R (bn:List (List Nat))(a b:Nat×Inf):Prop:=bg a.1 (lQ bn b.1)=true\/lN a.2 b.2=true
def Wk (f' f:Inf):Prop:=f'.W=f.W/\(f'.T=none\/f'.T=f.T)
def u6 (acc es:iO):Prop:=∀ x∈es,x.2=⟨some [],[]⟩\/∃ f',(x.1,f')∈acc/\Wk f' x.2
theorem Yg {w:List Nat}{f' f:Inf}(h:Wk f' f)(k:sw w f'.T=true):sw w f.T=true:=by
 rcases h.2 with e | e
 ·rw [e] at k;simp only [sw,List.isEmpty_iff] at k;subst k;cases f.T<;>rfl
 ·rw [e] at k; exact k
theorem Tp {f' f g:Inf}(h:Wk f' f)(k:lN f' g=true):lN f g=true:=by simp only [lN,ik'] at k ⊢;rw [h.1] at k;exact ⟨⟨k.1.1,k.1.2⟩,Yg h k.2⟩
theorem O5 (g:Inf):lN ⟨some [],[]⟩ g=true:=by
 simp only [lN,ik'];refine ⟨⟨rfl,?_⟩,?_⟩
 ·cases g.T<;>rfl
 ·exact yO.2 λx _=>by simp
theorem NF {acc es:iO}(hc:u6 acc es){i:Nat}{f:Inf}(h:jy bn true acc i f=true):∀ a∈es,R bn a (i,f):=by
 intro a ha;simp only [jy,cond_true,iu',Bool.or_eq_true] at h;rcases hc a ha with e | ⟨f',h1,h2⟩
 ·right;rw [e];exact O5 f
 ·rcases h _ h1 with k | k
  ·exact .inl k
  ·exact .inr (Tp h2 k)
structure Ref (s1 s2:St I):Prop where
 n:s1.n=s2.n
 O:s1.O=s2.O
 nx:s1.nx=s2.nx
 F:∀ i p,s2.F i=some p->s1.F i=some p
theorem UM (hd:iT P aj){s:St I}{i:Nat}{o:Oper}{ρ:Type}(k:Ef I->Option ρ):fQ tb aj s i o k=(fQ tb aj s i o some).bind k:=by
 unfold fQ;cases (jb o.op).all (λt=>(s.F t).isSome)
 ·rfl
 ·exact Sm hd k
omit [∀ E,Rp (I E)] in
theorem Eo {F G:Nat->Option (PV I)}:∀ {ts:List Nat},(∀ t∈ts,F t=G t)->ji F ts=ji G ts
 | [],_=>rfl
 | t::r,h=>by simp only [ji]; rw [h t (by simp),Eo λu hu=>h u (by simp [hu])]
omit [∀ E,Rp (I E)] in
theorem Lj {F G:Nat->Option (PV I)}{ts:List Nat}(h:∀ t∈ts,F t=G t):uY F ts=uY G ts:=by
 funext i;simp only [uY];cases hm:bg i ts
 ·rfl
 ·exact h i (gM.1 hm)
theorem X9 {s1 s2:St I}(hr:Ref s1 s2){i:Nat}{o:Oper}{e:Ef I}(h:fQ tb aj s2 i o some=some e):fQ tb aj s1 i o some=some e/\nH s1 i o e=nH s2 i o e/\qX s1 i e=qX s2 i e:=by
 unfold fQ at h ⊢;obtain ⟨h1,h2⟩:=aK h;have hF:∀ t∈jb o.op,s1.F t=s2.F t:=λt ht=>by have:=(iu'.1 h1) t ht;obtain ⟨p,hp⟩:=jE'.1 this;rw [hp,hr.F t p hp]
 have e1:(jb o.op).all (λt=>(s1.F t).isSome)=true:=by rw [iu'] at h1 ⊢;exact λt ht=>by rw [hF t ht]; exact h1 t ht
 have e2:kr s1.F s1.O o.op=kr s2.F s2.O o.op:=by simp only [kr,Ao,Eo hF,hr.O]
 have e3:gq s1 i=gq s2 i:=by simp only [gq,hr.nx]
 refine ⟨?_,?_,?_⟩
 ·rw [e1,Lj hF,e2,e3,hr.O,hr.n]; exact h2
 ·simp only [nH,e2,e3]
 ·simp only [qX,e3,hr.O]
omit [∀ E,Rp (I E)] in
theorem Ref.put {s1 s2:St I}(h:Ref s1 s2)(d:Option Nat)(p:PV I):Ref (Qx.put s1 d p) (Qx.put s2 d p):=by
 cases d with
 | none=>exact h
 | some d =>
   refine ⟨h.n,h.O,h.nx,λi q hq=>?_⟩;rcases bG hq with ⟨rfl,rfl⟩ | ⟨e,hq⟩
   ·exact dS _ _ _
   ·have:(Qx.put s1 (some d) p).F i=s1.F i:=bW e;rw [this];exact h.F i q hq
omit [∀ E,Rp (I E)] in
theorem Ref.lG {s1 s2:St I}(h:Ref s1 s2)(i:Nat)(o:Oper)(e:Ef I):Ref (Qx.lG s1 i o e) (Qx.lG s2 i o e):=by
 have hE:Ref (gD s1 (gq s1 i) e) (gD s2 (gq s2 i) e):=⟨h.n,by show bV (bC s1.O e.upd) (gq s1 i) e.new=bV (bC s2.O e.upd) (gq s2 i) e.new;simp only [gq,h.nx,h.O],h.nx,h.F⟩
 exact hE.put o.dst e.p
omit [∀ E,Rp (I E)] in
theorem AR {s:St I}{d:Option Nat}{p:PV I}{i:Nat}(h:d≠some i):(put s d p).F i=s.F i:=by
 cases d with
 | none=>rfl
 | some d=>exact bW (λe=>h (by rw [e]))
theorem GD {l1 l2:List (Nat×Oper)}{i:Nat}(h:fO (l1++l2) i=false):fO l1 i=false/\fO l2 i=false:=by simpa [fO] using h
theorem tV {o:Nat×Oper}{l:List (Nat×Oper)}{i:Nat}(h:fO (o::l) i=false):o.2.dst≠some i/\fO l i=false:=by simp only [fO,List.any_cons,ko'] at h;refine ⟨λe=>?_,h.2⟩;have:=h.1;rw [e] at this;simp at this
theorem Ve {l:List (Nat×Oper)}{mm d:Nat}(h:Em l mm=some d):fO (l.take (mm+1)) d=true:=by
 simp only [Em] at h;cases ho:l[mm]? with
 | none=>rw [ho] at h; cases h
 | some o =>
   rw [ho] at h;simp only [io'] at h;simp only [fO,List.any_eq_true];refine ⟨o,?_,by rw [h]; simp⟩
   exact jF' (i:=mm) (by rw [iB' (by omega)]; exact ho)
omit [∀ E,Rp (I E)] in
theorem Zw {o:Option (PV I)}{b:Bool}(h:xE o=some b):o=some (.bool b):=by
 unfold xE at h;split at h
 ·cases h; rfl
 ·cases h
theorem mI {α:Type}{l:List α}(h:iR l=true):l=[]:=by
 cases l
 ·rfl
 ·cases h
structure Way (tb:aD I)(aj:dn I)(all:List Oper)(bn:List (List Nat))(bL pure:Bool)(l:List (Nat×Oper))(s1 s2:St I)(es0:iO)(s1' s2':St I)(acc' es:iO):Prop where
 flat:jJ tb aj all s1 l s1' es
 ref:Ref s1' s2'
 CJ:∀ i,fO l i=false->s1'.F i=s1.F i
 PU:∀ i,fO l i=false->s2'.F i=s2.F i
 pu:pure=true->s1'.O=s1.O/\s2'.O=s2.O/\s1'.nx=s1.nx/\s1'.n=s1.n/\∀ x∈es,x.2.W=[]
 new:bL=true->∀ b∈es,∀ a∈es0,R bn a b
 pair:bL=true->es.Pairwise (R bn)
 PW:bL=true->u6 acc' (es0++es)
theorem Way.cons {pure:Bool}{i:Nat}{o:Oper}{r:List (Nat×Oper)}{s1 s2 t1 t2 s1' s2':St I}{es0 acc' es:iO}{f:Inf}(_:Way tb aj all bn bL pure [(i,o)] s1 s2 es0 t1 t2 [] [(i,f)]\/True)
 (CK:∀ u v,jJ tb aj all t1 r u v->jJ tb aj all s1 ((i,o)::r) u ((i,f)::v)) (hk1:∀ j,o.dst≠some j->t1.F j=s1.F j) (hk2:∀ j,o.dst≠some j->t2.F j=s2.F j)
 (hpu:pure=true->t1.O=s1.O/\t2.O=s2.O/\t1.nx=s1.nx/\t1.n=s1.n/\f.W=[]) (hnew:bL=true->∀ a∈es0,R bn a (i,f))
 (h:Way tb aj all bn bL pure r t1 t2 (es0++[(i,f)]) s1' s2' acc' es):Way tb aj all bn bL pure ((i,o)::r) s1 s2 es0 s1' s2' acc' ((i,f)::es):=by
 refine ⟨CK _ _ h.flat,h.ref,λj hj=>?_,λj hj=>?_,λhp=>?_,λhd b hb a ha=>?_,λhd=>?_,λhd=>?_⟩
 ·obtain ⟨a,b⟩:=tV hj;exact (h.CJ j b).trans (hk1 j a)
 ·obtain ⟨a,b⟩:=tV hj;exact (h.PU j b).trans (hk2 j a)
 ·obtain ⟨a1,a2,a3,a4,a5⟩:=h.pu hp;obtain ⟨b1,b2,b3,b4,b5⟩:=hpu hp;refine ⟨a1.trans b1,a2.trans b2,a3.trans b3,a4.trans b4,λx hx=>?_⟩;rcases ir'.1 hx with rfl | hx
  ·exact b5
  ·exact a5 x hx
 ·rcases ir'.1 hb with rfl | hb
  ·exact hnew hd a ha
  ·exact h.new hd b hb a (by simp [ha])
 ·exact kg'.2 ⟨λb hb=>h.new hd b hb _ (by simp),h.pair hd⟩
 ·have:=h.PW hd;simpa using this
theorem uN (hd:iT P aj):∀ (m:Nat) (ρ:Type) (pure:Bool) (kn:List Nat) (l:List (Nat×Oper)) (acc:iO) (s2:St I) (k:St I->iO->Option ρ) (r:ρ) (s1:St I) (es0:iO),
 kG tb aj all bn bL spl m ρ pure kn l acc s2 k=some r->Ref s1 s2->(bL=true->u6 acc es0)->∃ s1' s2' acc' es,k s2' acc'=some r/\Way tb aj all bn bL pure l s1 s2 es0 s1' s2' acc' es
 | 0,_,_,_,_,_,_,_,_,_,_,h,_,_=>by cases h
 | m+1,ρ,pure,kn,[],acc,s2,k,r,s1,es0,h,hr,hc=>⟨s1,s2,acc,[],h,.nil _,hr,λ_ _=>rfl,λ_ _=>rfl,(λ_=>⟨rfl,rfl,rfl,rfl,λx hx=>by cases hx⟩),(λ_ b hb=>by cases hb),(λ_=>List.Pairwise.nil),λhd=>by simpa using hc hd⟩
 | m+1,ρ,pure,kn,(i,o)::l,acc,s2,k,r,s1,es0,h,hr,hc=>by
   have hstep:(∀ e,fQ tb aj s1 i o some=some e->gP tb aj all s1 i o=some (some e))->(step tb aj bn bL pure acc s2 i o λs acc=>kG tb aj all bn bL spl m ρ pure kn l acc s k)=some r ->
    ∃ s1' s2' acc' es,k s2' acc'=some r/\Way tb aj all bn bL pure ((i,o)::l) s1 s2 es0 s1' s2' acc' es:=by
    intro he1 h;unfold step at h;rw [UM hd] at h;obtain ⟨e,he,h⟩:=bind_some h;obtain ⟨hb,h⟩:=aK h;simp only [ik'] at hb;obtain ⟨⟨b1,b2⟩,b3⟩:=hb;obtain ⟨k1,k2,k3⟩:=X9 hr he;have zn:bL=true->u6 (bif bL then (i,nH s2 i o e)::acc else acc) (es0++[(i,nH s1 i o e)]):=λhd x hx=>by
     rw [hd];rcases iw'.1 hx with hx | hx
     ·rcases hc hd x hx with e | ⟨f',a1,a2⟩
      ·exact .inl e
      ·exact .inr ⟨f',by simp [a1],a2⟩
     ·rw [List.mem_singleton] at hx;subst hx;exact .inr ⟨nH s2 i o e,by simp,by rw [k2]; exact ⟨rfl,.inr rfl⟩⟩
    obtain ⟨s1',s2',acc',es,a1,a2⟩:=uN hd m ρ pure kn l _ _ k r (lG s1 i o e) _ h (hr.lG i o e) zn;refine ⟨s1',s2',acc',_,a1,Way.cons (t1:=lG s1 i o e) (t2:=lG s2 i o e) (.inr trivial) (λu v hf=>.cons s1 i o (some e) l u v (he1 e k1) (by simp only [oP,k3,b1]) hf) (λj hj=>AR hj) (λj hj=>AR hj) (λhp=>?_) (λhd a ha=>?_) a2⟩
    ·rw [hp] at b2;simp only [cond_true,ik'] at b2;have e1:=mI b2.1;have e2:=mI b2.2;obtain ⟨p,u,w⟩:=e;simp only at e1 e2;subst e1;subst e2;refine ⟨?_,?_,?_,?_,rfl⟩
     all_goals
      unfold lG put;cases o.dst<;>rfl
    ·rw [hd] at b3;have:=NF (hc hd) b3 a ha;rw [<- k2] at this;exact this
   have PX:gP tb aj all s1 i o=some none->kG tb aj all bn bL spl m ρ pure kn l acc (put s2 o.dst .undef) k=some r ->
    ∃ s1' s2' acc' es,k s2' acc'=some r/\Way tb aj all bn bL pure ((i,o)::l) s1 s2 es0 s1' s2' acc' es:=by
    intro he1 h;have zn:bL=true->u6 acc (es0++[(i,⟨some [],[]⟩)]):=λhd x hx=>by
     rcases iw'.1 hx with hx | hx
     ·exact hc hd x hx
     ·rw [List.mem_singleton] at hx;subst hx;exact .inl rfl
    obtain ⟨s1',s2',acc',es,a1,a2⟩:=uN hd m ρ pure kn l _ _ k r (put s1 o.dst .undef) _ h (hr.put o.dst .undef) zn;refine ⟨s1',s2',acc',_,a1,Way.cons (t1:=put s1 o.dst .undef) (t2:=put s2 o.dst .undef) (.inr trivial) (λu v hf=>.cons s1 i o none l u v he1 rfl hf) (λj hj=>AR hj) (λj hj=>AR hj) (λhp=>?_) (λhd a ha=>.inr (Oe (O5 _))) a2⟩;refine ⟨?_,?_,?_,?_,rfl⟩
    all_goals
     unfold put;cases o.dst<;>rfl
   simp only [kG] at h;cases hg:o.guard with
   | none =>rw [hg] at h;exact hstep (λe he=>by simp only [gP,hg,he]; rfl) h
   | some g =>
     obtain ⟨j,want⟩:=g;rw [hg] at h;obtain ⟨dj,hdj,h⟩:=bind_some h;obtain ⟨hlt,h⟩:=aK h;split at h
     ·rename_i hl;exact PX (by simp only [gP,hg,hdj,io']; rw [hr.n,hlt,hr.F _ _ hl]; rfl) h
     ·rename_i b hl;have hl1:=hr.F _ _ hl;have he1:(b==want)=true->∀ e,fQ tb aj s1 i o some=some e->gP tb aj all s1 i o=some (some e):=λhb e he=>by simp only [gP,hg,hdj,io']; rw [hr.n,hlt,hl1]; simp only [cond_true,hb,he]; rfl
      have he0:(b==want)=false->gP tb aj all s1 i o=some none:=λhb=>by simp only [gP,hg,hdj,io']; rw [hr.n,hlt,hl1]; simp only [cond_true,hb]; rfl
      cases hkn:bg dj kn with
      | true =>
        rw [hkn] at h;simp only [cond_true] at h;cases hbw:(b==want) with
        | true =>rw [hbw] at h;exact hstep (he1 hbw) h
        | false =>rw [hbw] at h;exact PX (he0 hbw) h
      | false =>
        rw [hkn] at h;simp only [cond_false] at h;have hsame:wB s2 dj b=s2:=by
         have:aZ s2.F dj (.bool b)=s2.F:=by
          funext i;by_cases e:i=dj
          ·subst e; rw [dS,hl]
          ·rw [bW e]
         simp only [wB,this]
        cases PY:bg dj spl with
        | true =>
          rw [PY] at h;simp only [cond_true] at h;refine uN hd m ρ pure (dj::kn) _ acc s2 k r s1 es0 ?_ hr hc;cases b
          ·rw [hsame] at h; exact h
          ·rw [hsame] at h; exact h
        | false =>
        rw [PY] at h;simp only [cond_false] at h;obtain ⟨mm,hmm,h⟩:=bind_some h;obtain ⟨d,hdd,h⟩:=bind_some h;obtain ⟨q,hq,h⟩:=bind_some h;have hq':kG tb aj all bn bL spl m Bool true (dj::kn) (((i,o)::l).take (mm+1)) acc s2 (λs' _=>xE (s'.F d))=some q:=by
         cases b
         ·rw [hsame] at hq; exact hq
         ·rw [hsame] at hq; exact hq
        obtain ⟨u1,u2,hX',eg,g1,g2⟩:=uN hd m Bool true (dj::kn) _ acc s2 _ q s1 es0 hq' hr hc;have hd2:=Zw g1;obtain ⟨p1,p2,p3,p4,p5⟩:=g2.pu rfl;have hrn:Ref u1 (AY s2 (((i,o)::l).take (mm+1)) d q):=by
         refine ⟨p4.trans hr.n,p1.trans hr.O,p3.trans hr.nx,λx p hx=>?_⟩;have hx':aZ (λi'=>bif fO (((i,o)::l).take (mm+1)) i' then none else s2.F i') d (.bool q) x=some p:=hx
         clear hx;rcases bG hx' with ⟨rfl,rfl⟩ | ⟨e,hx⟩
         ·exact g2.ref.F _ _ hd2
         ·cases hdst:fO (((i,o)::l).take (mm+1)) x with
          | true=>rw [hdst] at hx; cases hx
          | false =>rw [hdst] at hx;rw [g2.CJ x hdst];exact hr.F x p hx
        have zn:bL=true->u6 (bif bL then (((i,o)::l).take (mm+1)).map (λx=>(x.1,⟨none,[]⟩))++acc else acc) (es0++eg):=λhd x hx=>by
         rw [hd];rcases iw'.1 hx with hx | hx
         ·rcases hc hd x hx with e | ⟨f',a1,a2⟩
          ·exact .inl e
          ·exact .inr ⟨f',by simp only [cond_true,iw']; exact .inr a1,a2⟩
         ·refine .inr ⟨⟨none,[]⟩,?_,?_⟩
          ·obtain ⟨y,h1,h2⟩:=g2.flat.mem x hx;simp only [cond_true,iw',iT'];exact .inl ⟨y,h1,by rw [h2]⟩
          ·exact ⟨(p5 x hx).symm,.inl rfl⟩
        obtain ⟨s1',s2',acc',es,a1,a2⟩:=uN hd m ρ pure kn _ _ _ k r u1 (es0++eg) h hrn zn;have hsplit:(i,o)::l=((i,o)::l).take (mm+1)++((i,o)::l).drop (mm+1):=(iW' _ _).symm;refine ⟨s1',s2',acc',eg++es,a1,?_⟩;rw [hsplit];refine ⟨g2.flat.app a2.flat,a2.ref,λx hx=>?_,λx hx=>?_,λhp=>?_,λhd b hb a ha=>?_,λhd=>?_,λhd=>?_⟩
        ·obtain ⟨x1,x2⟩:=GD hx;exact (a2.CJ x x2).trans (g2.CJ x x1)
        ·obtain ⟨x1,x2⟩:=GD hx;rw [a2.PU x x2];have hxd:x≠d:=by rintro rfl; rw [Ve hdd] at x1; cases x1
         have:(AY s2 (((i,o)::l).take (mm+1)) d q).F x=bif fO (((i,o)::l).take (mm+1)) x then none else s2.F x:=by simp only [AY];rw [bW hxd]
         rw [this,x1];rfl
        ·obtain ⟨b1,b2,b3,b4,b5⟩:=a2.pu hp;refine ⟨b1.trans p1,b2,b3.trans p3,b4.trans p4,λx hx=>?_⟩;rcases iw'.1 hx with hx | hx
         ·exact p5 x hx
         ·exact b5 x hx
        ·rcases iw'.1 hb with hb | hb
         ·exact g2.new hd b hb a ha
         ·exact a2.new hd b hb a (by simp [ha])
        ·rw [jU'];exact ⟨g2.pair hd,a2.pair hd,λa ha b hb=>a2.new hd b hb a (by simp [ha])⟩
        ·have:=a2.PW hd;simpa using this
     ·cases h
end
end Go.Qx
end
section
open Bool renaming and_eq_true->ik',not_eq_true'->ju'
open List renaming all_eq_true->iu',length_cons->iF',map_cons->iH',mem_append->iw',mem_cons->ir'
open Nat renaming beq->il',ble_eq_true_of_le->jC',blt->iG',le_of_ble_eq_true->iE'
open Option renaming bind_some->io'
namespace Go.Qx
open Go Go.RowKit Go.Sx
section
variable {I:TypeId->Type} [∀ E,Rp (I E)] {P:Program}{tb:aD I}{aj:dn I}{all:List Oper}{bn:List (List Nat)}{X:aY}{c c':Cx}{σ τ:S}{n:Nat}
def bK' (K:Act->World->Prop):Exit->Act->World->Prop
 | .normal,a,w=>K a w
 | _,_,_=>False
theorem aU' {o:Oper}(hg:o.guard=none){a:Act}{w:World}{K:Act->World->Prop}{Q:Exit->Act->World->Prop}(h:wpList P #[] (bK' K) [o] a w):o.wp P a w K Q:=by
 have hw:Region.wanted o (yielded #[] a.tmps)=true:=by simp [Region.wanted,hg]
 simp only [wpList,hw,if_true] at h;rcases h with h | ⟨_,a',w',hf⟩
 ·unfold Oper.wp at h ⊢;generalize (execOp a.eval o).run P w=r at *;cases r with
  | ok nx w' =>
    cases nx<;>simp only [Oper.upon] at h ⊢ <;>
     first
      | exact h
      | exact Calls.mono h (λe w'' he=>by
         cases e with
         | returned v=>exact he
         | panicked ch=>exact he.elim
         | outgrown=>obtain ⟨_,_,hf⟩:=he; exact hf.elim)
      | exact Rows.mono h (λ_ _ he=>he)
  | halt x w'=>cases x<;>simp only [Oper.upon] at h ⊢<;>first | exact h | exact h.elim
 ·exact hf.elim
theorem Vo {ops:List Oper}{F:Fr}{j d:Nat}{b:Bool}(hd:qa ops j=some d)(hlt:iG' d n=true)(hF:F d=.bool b):yielded ops.toArray (fr n F).tmps j=some b:=by
 have h:(ops.toArray[j]?).bind (·.dst)=some d:=by simpa [qa] using hd
 have h2:(fr n F).tmps[d]?=some (.bool b):=by simp [fr,iA hlt,hF]
 unfold yielded;rw [h];show (match (fr n F).tmps[d]? with | some (.bool b)=>some b | _=>none)=some b
 rw [h2]
theorem Lb {F:Fr}{o:Oper}{j d:Nat}{want b:Bool}(hg:o.guard=some (j,want))(hd:qa all j=some d)(hlt:iG' d n=true)(hF:F d=.bool b) :
 Region.wanted o (yielded all.toArray (fr n F).tmps)=(b==want):=by
 have hy:=Vo (F:=F) hd hlt hF;simp only [Region.wanted,hg,hy];cases b<;>cases want<;>rfl
theorem Sj {F:Fr}{o:Oper}{j d:Nat}{want:Bool}(hg:o.guard=some (j,want))(hd:qa all j=some d)(hlt:iG' d n=true)(hF:F d=undef) :
 Region.wanted o (yielded all.toArray (fr n F).tmps)=false:=by
 have hyn:yielded all.toArray (fr n F).tmps j=none:=by
  have h:(all.toArray[j]?).bind (·.dst)=some d:=by simpa [qa] using hd
  have h2:(fr n F).tmps[d]?=some undef:=by simp [fr,iA hlt,hF]
  unfold yielded;rw [h];show (match (fr n F).tmps[d]? with | some (.bool b)=>some b | _=>none)=none
  rw [h2];rfl
 simp [Region.wanted,hg,hyn]
omit [∀ E,Rp (I E)] in
theorem Tg {F:Nat->Option (PV I)}{ts:List Nat}{i:Nat}{p:PV I}(h:uY F ts i=some p):F i=some p:=by
 unfold uY at h;cases hm:bg i ts with
 | true=>rw [hm] at h; exact h
 | false=>rw [hm] at h; cases h
omit [∀ E,Rp (I E)] in
theorem R8 {O:ay I}{ls:List Nat}{i:Nat}{o:Option (Ob I)}(h:wL O ls i=some o):O i=some o:=by
 unfold wL at h;cases hm:bg i ls with
 | true=>rw [hm] at h; exact h
 | false=>rw [hm] at h; cases h
theorem FP {F:Fr}{d:Option Nat}{v:Value}{j:Nat}(h:d≠some j):bD F d v j=F j:=by
 cases d with
 | none=>rfl
 | some d =>
   have:il' j d=false:=Sx.beq_false (λe=>h (by rw [e]))
   simp [bD,upd,this]
theorem MS (ht:aV P tb)(hd:iT P aj)(hX:X.P=P){s:St I}{F:Fr}(h:Rel X c σ s n F){i:Nat}{o:Oper}{e:Ef I}(hx:fQ tb aj s i o some=some e)(hok:qX s i e=true)
 {ops:Array Oper} {Q:Exit->Act->World->Prop} {rest:List Oper}
 (hk:∀ c' τ F',Cx.le c c'->Rel X c' τ (lG s i o e) n F'->Stp X.M σ τ->(∀ j,o.dst≠some j->F' j=F j)->wpList P ops Q rest (fr n F') τ.w):wpList P ops Q ({ o with guard:=none }::rest) (fr n F) σ.w:=by
 unfold fQ at hx;obtain ⟨_,hx⟩:=aK hx;simp only [qX,ik'] at hok;rw [h.len] at hx;exact Yp (o:={ o with guard:=none }) ht hd h hX (λ_ _ hp=>Tg hp) (λ_ _ ho=>R8 ho) rfl hx hok.2 λv τ c' k1 k2 k3 k4=>hk c' τ _ k1 (k2.put o.dst e.p v k3) k4 λj hj=>FP hj
theorem JI (_:aV P tb)(_:iT P aj)(_:X.P=P){s:St I}{F:Fr}(h:Rel X c σ s n F){i:Nat}{o:Oper}{r:Option (Ef I)}(hx:gP tb aj all s i o=some r)(hok:oP s i r=true) :
 (∃ e,r=some e/\fQ tb aj s i o some=some e/\Region.wanted o (yielded all.toArray (fr n F).tmps)=true)\/(r=none/\Region.wanted o (yielded all.toArray (fr n F).tmps)=false):=by
 have hmap:(fQ tb aj s i o some).map some=some r->∃ e,r=some e/\fQ tb aj s i o some=some e:=λh=>by
  cases he:fQ tb aj s i o some with
  | none=>rw [he] at h; cases h
  | some e=>rw [he] at h; cases h; exact ⟨e,rfl,rfl⟩
 unfold gP at hx;split at hx
 ·rename_i hg;obtain ⟨e,h1,h2⟩:=hmap hx;exact .inl ⟨e,h1,h2,by simp [Region.wanted,hg]⟩
 ·rename_i j want hg;replace hx:=bind_some hx;obtain ⟨dj,hdj,hx⟩:=hx;replace hx:=aK hx;obtain ⟨hlt,hx⟩:=hx;rw [h.len] at hlt;split at hx
  ·rename_i hl;have hF:=h.frame _ _ hl;simp only [RV] at hF;cases hx;exact .inr ⟨rfl,Sj hg hdj hlt hF⟩
  ·rename_i b hl;have hF:=h.frame _ _ hl;simp only [RV] at hF;have hw:=Lb (o:=o) hg hdj hlt hF;cases hbw:(b==want) with
   | true =>rw [hbw] at hx hw;obtain ⟨e,h1,h2⟩:=hmap hx;exact .inl ⟨e,h1,h2,hw⟩
   | false =>rw [hbw] at hx hw;cases hx;exact .inr ⟨rfl,hw⟩
  ·cases hx
theorem cF' {ops:Array Oper}{Q:Exit->Act->World->Prop}{o:Oper}{rest:List Oper}{a:Act}{w:World}(hw:Region.wanted o (yielded ops a.tmps)=true)(h:wpList P ops Q ({ o with guard:=none }::rest) a w):wpList P ops Q (o::rest) a w:=by
 have hw':Region.wanted { o with guard:=none } (yielded ops a.tmps)=true:=by simp [Region.wanted]
 simp only [wpList,hw',if_true] at h;simp only [wpList,hw,if_true];obtain ⟨d,op,ty,pos,aX,g⟩:=o;rcases h with h | h
 ·refine .inl ?_;unfold Oper.wp at h ⊢;exact h
 ·exact .inr h
theorem V7 {ops:Array Oper}{Q:Exit->Act->World->Prop}{o:Oper}{rest:List Oper}{a:Act}{w:World}(hw:Region.wanted o (yielded ops a.tmps)=false)(h:wpList P ops Q rest (a.put o.dst undef) w):wpList P ops Q (o::rest) a w:=by simp only [wpList,hw];exact h
theorem YW (ht:aV P tb)(hd:iT P aj)(hX:X.P=P){Q:Exit->Act->World->Prop}{post:List Oper}{s s':St I}{l:List (Nat×Oper)}{es:iO}(h:jJ tb aj all s l s' es) :
 ∀ (c:Cx) (σ:S) (F:Fr),Rel X c σ s n F->(∀ c' τ F',Cx.le c c'->Rel X c' τ s' n F'->Stp X.M σ τ->(∀ j,fO l j=false->F' j=F j)->wpList P all.toArray Q post (fr n F') τ.w)->wpList P all.toArray Q (l.map (·.2)++post) (fr n F) σ.w:=by
 induction h with
 | nil s=>exact λc σ F hr hk=>hk c σ F (Cx.le_refl c) hr (Stp.refl _ _) λ_ _=>rfl
 | cons s i o r rest s' es h1 h2 h3 ih =>
   intro c σ F hr hk;rcases JI ht hd hX hr h1 h2 with ⟨e,rfl,he,hw⟩ | ⟨rfl,hw⟩
   ·exact cF' hw (MS ht hd hX hr he h2 λc' τ F' k1 k2 k3 k4=>ih c' τ F' k2 λc2 υ F2 m1 m2 m3 m4=>hk c2 υ F2 (Cx.le_trans k1 m1) m2 (k3.trans m3) λj hj=>(m4 j (tV hj).2).trans (k4 j (tV hj).1))
   ·refine V7 hw ?_;rw [yP];exact ih c σ _ (hr.put o.dst .undef undef (by simp only [RV])) λc2 υ F2 m1 m2 m3 m4=>hk c2 υ F2 m1 m2 m3 λj hj=>(m4 j (tV hj).2).trans (FP (tV hj).1)
theorem iQ:∀ {m nb l:Nat},l∈dL nb m↔nb<=l/\l<nb+m
 | 0,nb,l=>by simp [dL]
 | m+1,nb,l=>by simp only [dL,ir',iQ];omega
def tr (nb:Nat)(e:Ef I)(O:ay I):ay I:=bV (bC O e.upd) nb e.new
def oC (nb:Nat)(e:Ef I):List Nat:=eF e.upd++dL nb e.new.length
omit [∀ E,Rp (I E)] in
theorem kH:∀ {u:List (Nat×Option (Ob I))} {O:ay I} {l:Nat},l ∉ eF u->bC O u l=O l
 | [],_,_,_=>rfl
 | x::r,O,l,h=>by simp only [eF,iH',ir',not_or] at h;simp only [bC];rw [kH (u:=r) h.2,bW h.1]
omit [∀ E,Rp (I E)] in
theorem tQ:∀ {u:List (Nat×Option (Ob I))} {O O':ay I} {l:Nat},l∈eF u->bC O u l=bC O' u l/\bC O u l≠none
 | [],_,_,_,h=>by simp [eF] at h
 | x::r,O,O',l,h=>by
   simp only [bC];by_cases hr:l∈eF r
   ·exact tQ hr
   ·simp only [eF,iH',ir'] at h;have e:l=x.1:=h.resolve_right hr;rw [kH hr,kH hr,e,dS,dS];exact ⟨rfl,by simp⟩
omit [∀ E,Rp (I E)] in
theorem ig:∀ {os:List (Ob I)} {O:ay I} {nb l:Nat},l ∉ dL nb os.length->bV O nb os l=O l
 | [],_,_,_,_=>rfl
 | o::os,O,nb,l,h=>by simp only [iF',dL,ir',not_or] at h;simp only [bV];rw [ig h.2,bW h.1]
omit [∀ E,Rp (I E)] in
theorem EW:∀ {os:List (Ob I)} {O O':ay I} {nb l:Nat},l∈dL nb os.length->bV O nb os l=bV O' nb os l/\bV O nb os l≠none
 | [],_,_,_,_,h=>by simp [dL] at h
 | o::os,O,O',nb,l,h=>by
   simp only [bV];by_cases hr:l∈dL (nb+1) os.length
   ·exact EW hr
   ·simp only [iF',dL,ir'] at h;have e:l=nb:=h.resolve_right hr;rw [ig hr,ig hr,e,dS,dS];exact ⟨rfl,by simp⟩
omit [∀ E,Rp (I E)] in
theorem vD {nb:Nat}{e:Ef I}{O:ay I}{l:Nat}(h:l ∉ oC nb e):tr nb e O l=O l:=by simp only [oC,iw',not_or] at h;simp only [tr];rw [ig h.2,kH h.1]
omit [∀ E,Rp (I E)] in
theorem DK {nb:Nat}{e:Ef I}{O O':ay I}{l:Nat}(h:l∈oC nb e):tr nb e O l=tr nb e O' l/\tr nb e O l≠none:=by
 simp only [tr];by_cases hr:l∈dL nb e.new.length
 ·exact EW hr
 ·rw [ig hr,ig hr];simp only [oC,iw'] at h;exact tQ (h.resolve_right hr)
omit [∀ E,Rp (I E)] in
theorem TQ {na nb:Nat}{a b:Ef I}(h:∀ x∈oC na a,x ∉ oC nb b)(O:ay I):tr na a (tr nb b O)=tr nb b (tr na a O):=by
 funext l;by_cases ha:l∈oC na a
 ·rw [vD (h l ha)];exact (DK ha).1
 ·rw [vD ha];by_cases hb:l∈oC nb b
  ·exact (DK hb).1
  ·rw [vD hb,vD hb,vD ha]
omit [∀ E,Rp (I E)] in
theorem kK:∀ {os:List (Ob I)} {O:ay I} {nb:Nat},gI O nb os=true↔∀ l∈dL nb os.length,O l=none
 | [],_,_=>by simp [gI,dL]
 | _::os,O,nb=>by
   simp only [gI,ik',kK,iF',dL,ir',Option.isNone_iff_eq_none];constructor
   ·rintro ⟨h1,h2⟩ l (rfl | h)
    ·exact h1
    ·exact h2 l h
   ·exact λh=>⟨h _ (.inl rfl),λl hl=>h l (.inr hl)⟩
theorem Ni {s s':St I}{i:Nat}{o:Oper}(hn:s'.n=s.n)(hx:s'.nx=s.nx)(hF:∀ t∈sK all o,s'.F t=s.F t)(hO:∀ l∈kr s.F s.O o.op,s'.O l=s.O l) :
 gP tb aj all s' i o=gP tb aj all s i o/\kr s'.F s'.O o.op=kr s.F s.O o.op:=by
 have uq:∀ t∈jb o.op,s'.F t=s.F t:=λt ht=>hF t (by simp [sK,ht])
 have e1:ji s'.F (jb o.op)=ji s.F (jb o.op):=Eo uq;have PZ:∀ {l:List Nat},(∀ x∈l,s'.O x=s.O x)->nest s'.O l=nest s.O l:=by
  intro l
  induction l with
  | nil=>exact λ_=>rfl
  | cons x r ih=>exact λh=>by simp only [nest]; rw [h x (by simp),ih λy hy=>h y (by simp [hy])]
 have e4:kr s'.F s'.O o.op=kr s.F s.O o.op:=by
  unfold kr at hO ⊢;cases hno:La o.op with
  | true=>rfl
  | false =>
    rw [hno] at hO;simp only [cond_false] at hO ⊢;cases hld:Lu o.op with
    | true=>exact e1
    | false =>
    rw [hld] at hO;simp only [cond_false] at hO ⊢;have um:=hO;simp only [Ao,iw'] at um;have e2:nest s'.O (ji s.F (jb o.op))=nest s.O (ji s.F (jb o.op)):=PZ λx hx=>um x (.inl (.inl hx));have e3:nest s'.O (ji s.F (jb o.op)++nest s.O (ji s.F (jb o.op)))=nest s.O (ji s.F (jb o.op)++nest s.O (ji s.F (jb o.op))):=PZ λx hx=>um x (.inl (iw'.1 hx));simp only [Ao,e1,e2,e3]
 have e5:wL s'.O (kr s.F s.O o.op)=wL s.O (kr s.F s.O o.op):=by
  funext l;simp only [wL];cases hm:bg l (kr s.F s.O o.op)
  ·rfl
  ·exact hO l (gM.1 hm)
 have e6:(jb o.op).all (λt=>(s'.F t).isSome)=(jb o.op).all (λt=>(s.F t).isSome):=by rw [Bool.eq_iff_iff,iu',iu'];exact ⟨λh t ht=>by rw [<- uq t ht]; exact h t ht,λh t ht=>by rw [uq t ht]; exact h t ht⟩
 have e7:fQ tb aj s' i o (some:Ef I->Option (Ef I))=fQ tb aj s i o some:=by simp only [fQ,e4,e5,e6,Lj uq,gq,hn,hx]
 refine ⟨?_,e4⟩;simp only [gP,e7,hn];split
 ·rfl
 ·rename_i j want hg;cases hd:qa all j with
  | none=>rfl
  | some dj =>simp only [io'];rw [hF dj (by simp [sK,hg,hd])]
omit [∀ E,Rp (I E)] in
theorem WR {α:Type}{F:Nat->Option α}{a b:Nat}{p q:α}(h:a≠b):aZ (aZ F a p) b q=aZ (aZ F b q) a p:=by
 funext i;by_cases e1:i=a
 ·subst e1;rw [bW h,dS,dS]
 ·by_cases e2:i=b
  ·subst e2;rw [dS,bW e1,dS]
  ·rw [bW e2,bW e1,bW e1,bW e2]
def Q6:Option (Ef I)->PV I
 | some e=>e.p
 | none=>.undef
def Fq (nb:Nat):Option (Ef I)->ay I->ay I
 | some e,O=>tr nb e O
 | none,O=>O
def wO (nb:Nat):Option (Ef I)->List Nat
 | some e=>oC nb e
 | none=>[]
omit [∀ E,Rp (I E)] in
theorem yL (s:St I)(i:Nat)(o:Oper)(r:Option (Ef I)):(bK s i o r).F=(match o.dst with | some d=>aZ s.F d (Q6 r) | none=>s.F):=by cases r<;>simp only [bK,lG,put]<;>cases o.dst<;>rfl
omit [∀ E,Rp (I E)] in
theorem qP (s:St I)(i:Nat)(o:Oper)(r:Option (Ef I)):(bK s i o r).O=Fq (gq s i) r s.O:=by cases r<;>simp only [bK,lG,put]<;>cases o.dst<;>rfl
omit [∀ E,Rp (I E)] in
theorem uS (s:St I)(i:Nat)(o:Oper)(r:Option (Ef I)):(bK s i o r).n=s.n/\(bK s i o r).nx=s.nx:=by cases r<;>simp only [bK,lG,put]<;>cases o.dst<;>exact ⟨rfl,rfl⟩
omit [∀ E,Rp (I E)] in
theorem Bz {nb:Nat}{r:Option (Ef I)}{O:ay I}{l:Nat}(h:l ∉ wO nb r):Fq nb r O l=O l:=by
 cases r
 ·rfl
 ·exact vD h
omit [∀ E,Rp (I E)] in
theorem cG' {nb:Nat}{r:Option (Ef I)}{O:ay I}{l:Nat}(h:l∈wO nb r):Fq nb r O l≠none:=by
 cases r
 ·simp [wO] at h
 ·exact (DK (O':=O) h).2
omit [∀ E,Rp (I E)] in
theorem Td (s:St I)(i:Nat)(o:Oper)(r:Option (Ef I)):(iN s i o r).W=wO (gq s i) r:=by cases r<;>rfl
omit [∀ E,Rp (I E)] in
theorem KC (s:St I)(i:Nat)(o:Oper)(e:Ef I):(iN s i o (some e)).T=some (kr s.F s.O o.op):=rfl
omit [∀ E,Rp (I E)] in
theorem BB (s:St I)(i:Nat)(r:Option (Ef I)):oP s i r=true↔∀ e,r=some e->e.new.length<=8/\∀ l∈dL (gq s i) e.new.length,bC s.O e.upd l=none:=by
 cases r with
 | none=>simp [oP]
 | some e =>
   simp only [oP,qX,ik',kK];constructor
   ·rintro ⟨h1,h2⟩ e' he;cases he;exact ⟨iE' h1,h2⟩
   ·exact λh=>⟨jC' (h e rfl).1,(h e rfl).2⟩
theorem Fe {d:Option Nat}{l:List Nat}(h:Cc d l=false):∀ x,d=some x->x ∉ l:=λx e=>by
 subst e;exact jN.1 h
omit [∀ E,Rp (I E)] in
theorem BF {s:St I}{i:Nat}{o:Oper}{r:Option (Ef I)}{t:Nat}(h:∀ x,o.dst=some x->x≠t):(bK s i o r).F t=s.F t:=by
 rw [yL];cases hd:o.dst with
 | none=>rfl
 | some d=>exact bW (Ne.symm (h d hd))
theorem cY' {s:St I}{a i:Nat}{oa oi:Oper}{ra ri:Option (Ef I)}(ha:gP tb aj all s a oa=some ra)(hka:oP s a ra=true)(hi:gP tb aj all (bK s a oa ra) i oi=some ri)(hki:oP (bK s a oa ra) i ri=true)
 (hc:lN (iN s a oa ra) (iN (bK s a oa ra) i oi ri)=true) (hs:vI all oa oi=true) :
 gP tb aj all s i oi=some ri/\oP s i ri=true/\iN s i oi ri=iN (bK s a oa ra) i oi ri/\gP tb aj all (bK s i oi ri) a oa=some ra/\oP (bK s i oi ri) a ra=true /\
  iN (bK s i oi ri) a oa ra=iN s a oa ra/\bK (bK s i oi ri) a oa ra=bK (bK s a oa ra) i oi ri:=by
 obtain ⟨n1,x1⟩:=uS s a oa ra;obtain ⟨n2,x2⟩:=uS s i oi ri;have CO:gq (bK s a oa ra) i=gq s i:=by simp only [gq,x1]
 have Ib:gq (bK s i oi ri) a=gq s a:=by simp only [gq,x2]
 simp only [lN,ik',Td,CO] at hc;obtain ⟨⟨Ic,CP⟩,CQ⟩:=hc;rw [yO] at Ic;simp only [vI,ik',ju'] at hs;obtain ⟨⟨hs1,hs2⟩,hs3⟩:=hs;have d1:=Fe hs1;have d2:=Fe hs2;have d3:=Fe hs3;have P5:gP tb aj all s i oi=some ri/\iN s i oi ri=iN (bK s a oa ra) i oi ri:=by
  cases ri with
  | none =>
    refine ⟨?_,rfl⟩;unfold gP at hi ⊢;split at hi
    ·rename_i hg;cases he:fQ tb aj (bK s a oa ra) i oi (some:Ef I->Option (Ef I)) with
     | none=>rw [he] at hi; cases hi
     | some e=>rw [he] at hi; cases hi
    ·rename_i j want hg;replace hi:=bind_some hi;obtain ⟨dj,hdj,hi⟩:=hi;rw [n1,BF (t:=dj) (λx hx e=>by subst e; exact d1 x hx (by simp [sK,hg,hdj]))] at hi
     simp only [hdj,io'];obtain ⟨hlt,hi⟩:=aK hi;rw [hlt];simp only [cond_true];split at hi
     ·rfl
     ·rename_i b hb;cases hbw:(b==want) with
      | true =>
        rw [hbw] at hi;simp only [cond_true] at hi;cases he:fQ tb aj (bK s a oa ra) i oi (some:Ef I->Option (Ef I)) with
        | none=>rw [he] at hi; cases hi
        | some e=>rw [he] at hi; cases hi
      | false=>rfl
     ·cases hi
  | some e =>
    rw [KC] at CP;simp only [sw] at CP;rw [yO] at CP;obtain ⟨h1,h2⟩:=Ni (tb:=tb) (aj:=aj) (all:=all) (s:=bK s a oa ra) (s':=s) (i:=i) (o:=oi) n1.symm x1.symm
     (λt ht=>(BF λx hx e=>by subst e; exact d1 x hx ht).symm) (λl hl=>by rw [qP]; exact (Bz λhm=>CP l hm hl).symm)
    refine ⟨h1.trans hi,?_⟩;simp only [iN,nH,h2,CO]
 have P6:gP tb aj all (bK s i oi ri) a oa=some ra/\iN (bK s i oi ri) a oa ra=iN s a oa ra:=by
  cases ra with
  | none =>
    refine ⟨?_,rfl⟩;unfold gP at ha ⊢;split at ha
    ·rename_i hg;cases he:fQ tb aj s a oa (some:Ef I->Option (Ef I)) with
     | none=>rw [he] at ha; cases ha
     | some e=>rw [he] at ha; cases ha
    ·rename_i j want hg;replace ha:=bind_some ha;obtain ⟨dj,hdj,ha⟩:=ha;simp only [hdj,io'];rw [n2,BF (t:=dj) (λx hx e=>by subst e; exact d2 x hx (by simp [sK,hg,hdj]))]
     obtain ⟨hlt,ha⟩:=aK ha;rw [hlt];simp only [cond_true];split at ha
     ·rfl
     ·rename_i b hb;cases hbw:(b==want) with
      | true =>
        rw [hbw] at ha;simp only [cond_true] at ha;cases he:fQ tb aj s a oa (some:Ef I->Option (Ef I)) with
        | none=>rw [he] at ha; cases ha
        | some e=>rw [he] at ha; cases ha
      | false=>rfl
     ·cases ha
  | some e =>
    rw [KC] at CQ;simp only [sw] at CQ;rw [yO] at CQ;obtain ⟨h1,h2⟩:=Ni (tb:=tb) (aj:=aj) (all:=all) (s:=s) (s':=bK s i oi ri) (i:=a) (o:=oa) n2 x2
     (λt ht=>BF λx hx e=>by subst e; exact d2 x hx ht) (λl hl=>by rw [qP]; exact Bz λhm=>CQ l hm hl)
    refine ⟨h1.trans ha,?_⟩;simp only [iN,nH,h2,Ib]
 refine ⟨P5.1,(BB _ _ _).2 λe he=>?_,P5.2,P6.1,(BB _ _ _).2 λe he=>?_,P6.2,?_⟩
 ·obtain ⟨h1,h2⟩:=(BB _ _ _).1 hki e he;refine ⟨h1,λl hl=>?_⟩;have h3:=h2 l (by rw [CO]; exact hl)
  by_cases hm:l∈eF e.upd
  ·exact absurd h3 (tQ (O':=s.O) hm).2
  ·rw [kH hm] at h3 ⊢;rw [qP] at h3;by_cases hw:l∈wO (gq s a) ra
   ·exact absurd h3 (cG' hw)
   ·rw [Bz hw] at h3; exact h3
 ·subst he;obtain ⟨h1,h2⟩:=(BB _ _ _).1 hka e rfl;refine ⟨h1,λl hl=>?_⟩;rw [Ib] at hl;have h3:=h2 l hl;by_cases hm:l∈eF e.upd
  ·exact absurd h3 (tQ (O':=s.O) hm).2
  ·rw [kH hm] at h3 ⊢;rw [qP,Bz]
   ·exact h3
   ·exact Ic l (by simp [wO,oC,hl])
 ·have hF:(bK (bK s i oi ri) a oa ra).F=(bK (bK s a oa ra) i oi ri).F:=by
   rw [yL,yL,yL,yL];cases hda:oa.dst with
   | none=>cases oi.dst<;>rfl
   | some da =>
     cases hdi:oi.dst with
     | none=>rfl
     | some di =>
       have:da≠di:=by have:=d3 da hda;rw [hdi] at this;simpa using this
       exact (WR this).symm
  have hO:(bK (bK s i oi ri) a oa ra).O=(bK (bK s a oa ra) i oi ri).O:=by
   rw [qP,qP,qP,qP,CO,Ib];cases ra with
   | none=>rfl
   | some ea =>
     cases ri with
     | none=>rfl
     | some ei=>exact TQ Ic s.O
  have hn:(bK (bK s i oi ri) a oa ra).n=(bK (bK s a oa ra) i oi ri).n:=by rw [(uS _ _ _ _).1,n2,(uS _ _ _ _).1,n1]
  have hx:(bK (bK s i oi ri) a oa ra).nx=(bK (bK s a oa ra) i oi ri).nx:=by rw [(uS _ _ _ _).2,x2,(uS _ _ _ _).2,x1]
  generalize bK (bK s i oi ri) a oa ra=u at *;generalize bK (bK s a oa ra) i oi ri=v at *;obtain ⟨u1,u2,u3,u4⟩:=u;obtain ⟨v1,v2,v3,v4⟩:=v;simp only at hF hO hn hx;subst hF;subst hO;subst hn;subst hx;rfl
end
end Go.Qx
end
section
open Array renaming replicate->jQ'
open Bool renaming and_eq_true->ik',not_eq_true'->ju',or_eq_false_iff->ko'
open List renaming all_eq_true->iu',append_nil->jo',eq_nil_of_length_eq_zero->iJ',getElem?_eq_getElem->in',getElem?_eq_some_iff->ij',getElem?_toArray->jp',length_append->iq',length_cons->iF',map_cons->iH',mem_append->iw',mem_cons->ir',mem_map->iT',nodup_append->iV',nodup_cons->jP',pairwise_append->jU',pairwise_cons->kg',size_toArray->jH'
open Nat renaming beq->il',blt->iG',eq_of_beq_eq_true->ii',le_refl->ip'
open Option renaming getD_some->jr',map_some->jc'
namespace Go.Qx
open Go Go.RowKit Go.Sx
section
variable {I:TypeId->Type} [∀ E,Rp (I E)] {P:Program}{tb:aD I}{aj:dn I}{all:List Oper}{bn:List (List Nat)}{X:aY}{c c':Cx}{σ τ:S}{n:Nat}
theorem J3:∀ {pre:List (Nat×Oper)} {s s':St I} {i:Nat} {o:Oper} {post:List (Nat×Oper)} {es:iO},jJ tb aj all s (pre++(i,o)::post) s' es->es.Pairwise (R bn) ->
 (∀ x∈pre,bg x.1 (lQ bn i)=false)->(∀ x∈pre,vI all x.2 o=true) ->
 ∃ e1 e e2,es=e1++e::e2/\e1.length=pre.length/\e.1=i/\(∀ x∈e1,R bn e x)/\jJ tb aj all s ((i,o)::(pre++post)) s' (e::(e1++e2))
 | [],s,s',i,o,post,_,.cons _ _ _ r _ _ es h1 h2 h3,_,_,_=>⟨[],_,es,rfl,rfl,rfl,(λx hx=>by cases hx),jJ.cons _ _ _ r _ _ es h1 h2 h3⟩
 | (a,oa)::pre,s,s',i,o,post,_,.cons _ _ _ ra _ _ es h1 h2 h3,hp,ht,hs=>by
   obtain ⟨p1,p2⟩:=kg'.1 hp;obtain ⟨e1,e,e2,k1,k2,k3,k4,k5⟩:=J3 h3 p2 (λx hx=>ht x (by simp [hx])) (λx hx=>hs x (by simp [hx]))
   subst k1;cases k5 with
   | cons _ _ _ ri _ _ _ g1 g2 g3 =>
     have hR:=p1 (i,iN (bK s a oa ra) i o ri) (by simp)
     have hc:lN (iN s a oa ra) (iN (bK s a oa ra) i o ri)=true:=by
      rcases hR with h | h
      ·have:=ht (a,oa) (by simp)
       rw [this] at h; cases h
      ·exact h
     obtain ⟨m1,m2,m3,m4,m5,m6,m7⟩:=cY' h1 h2 g1 g2 hc (hs (a,oa) (by simp))
     refine ⟨(a,iN s a oa ra)::e1,(i,iN (bK s a oa ra) i o ri),e2,rfl,by simp [k2],rfl,λx hx=>?_,?_⟩
     ·rcases ir'.1 hx with rfl | hx
      ·exact .inr (Oe hc)
      ·exact k4 x hx
     ·rw [<- m3];refine .cons s i o ri _ _ _ m1 m2 ?_;rw [<- m6];refine .cons _ a oa ra _ _ _ m4 m5 ?_;rw [m7];exact g3
def Ew (ops:List Oper)(bn:List (List Nat)):Bool :=
 (ops.zipIdx).all λp=>p.1.after.toList.all (λe=>!Region.binds .any e||iG' e.on p.2) &&
   (lQ bn p.2).all λj=>iG' j p.2&&p.1.after.toList.any λe=>Region.binds .any e&&(il' e.on j||bg j (lQ bn e.on))
def zb (all:List Oper)(bn:List (List Nat)):List (Nat×Oper)->Bool
 | []=>true
 | x::r=>r.all (λy=>bg x.1 (lQ bn y.1)||vI all x.2 y.2)&&zb all bn r
theorem JY {α:Type}{l:List α}{i:Nat}{x:α}(h:l[i]?=some x):(x,i)∈l.zipIdx:=by rw [List.mem_iff_getElem?];exact ⟨i,by simp [List.getElem?_zipIdx,h]⟩
theorem RA {listed:Array Bool}{i:Nat}(hi:i<listed.size)(k:Nat):(listed.setIfInBounds i true).getD k false=(il' k i||listed.getD k false):=by
 simp only [Array.getD_eq_getD_getElem?,Array.getElem?_setIfInBounds];by_cases h:i=k
 ·subst h; simp [hi]
 ·have:il' k i=false:=beq_false (λe=>h e.symm);simp [h,this]
abbrev SC (all:List Oper)(bn:List (List Nat))(x y:Nat×Oper):Prop:=bg x.1 (lQ bn y.1)=true\/vI all x.2 y.2=true
theorem Ko:∀ {l:List (Nat×Oper)},zb all bn l=true->l.Pairwise (SC all bn)
 | [],_=>List.Pairwise.nil
 | x::r,h=>by simp only [zb,ik',iu',Bool.or_eq_true] at h;exact kg'.2 ⟨h.1,Ko h.2⟩
structure P7 (all:List Oper)(bn:List (List Nat))(listed:Array Bool)(rem:List (Nat×Oper)):Prop where
 size:listed.size=all.length
 mem:∀ x∈rem,all[x.1]?=some x.2/\listed.getD x.1 false=false
 Ie:∀ i o,all[i]?=some o->listed.getD i false=false->(i,o)∈rem
 nodup:(rem.map (·.1)).Nodup
 P8:∀ i,listed.getD i false=true->∀ j∈lQ bn i,listed.getD j false=true
 sc:rem.Pairwise (SC all bn)
theorem U2 (ht:aV P tb)(hd:iT P aj)(hX:X.P=P)(hck:Ew all bn=true){Q:Exit->Act->World->Prop}{s':St I}:∀ (fuel:Nat) (listed:Array Bool) (rem:List (Nat×Oper)) (s:St I) (es:iO) (c:Cx) (σ:S) (F:Fr),
 rem.length=fuel->P7 all bn listed rem->jJ tb aj all s rem s' es->es.Pairwise (R bn)->Rel X c σ s n F->(∀ c' τ F',Cx.le c c'->Rel X c' τ s' n F'->Stp X.M σ τ->(∀ j,fO rem j=false->F' j=F j)->Q .normal (fr n F') τ.w) ->
 wpAny P .any all.toArray Q fuel listed (fr n F) σ.w:=by
 have P9:∀ i o,all[i]?=some o->(∀ e∈o.after.toList,Region.binds .any e=true->e.on<i) /\
  (∀ j,j∈lQ bn i->∃ e∈o.after.toList,Region.binds .any e=true/\(e.on=j\/j∈lQ bn e.on)):=by
  intro i o ho;have h1:=(iu'.1 hck) _ (JY ho);simp only [ik'] at h1;refine ⟨λe he hb=>?_,λj hj=>?_⟩
  ·have:=(iu'.1 h1.1) e he;rw [hb] at this;simpa using iA (by simpa using this)
  ·have:=(iu'.1 h1.2) j hj;simp only [ik'] at this;obtain ⟨e,he,hh⟩:=List.any_eq_true.1 this.2;simp only [ik',Bool.or_eq_true] at hh;refine ⟨e,he,hh.1,?_⟩;rcases hh.2 with h | h
   ·exact .inl (ii' h)
   ·exact .inr (gM.1 h)
 intro fuel
 induction fuel with
 | zero =>
   intro listed rem s es c σ F hlen hI hf hp hr hk;have:rem=[]:=iJ' hlen;subst this;cases hf;have hall:∀ k,k<all.length->listed.getD k false=true:=by
    intro k hk;cases hq:listed.getD k false with
    | true=>rfl
    | false =>have:=hI.Ie k _ (in' hk) hq;cases this
   refine ⟨?_,hk c σ F (Cx.le_refl c) hr (Stp.refl _ _) λ_ _=>rfl⟩;apply List.filter_eq_nil_iff.2;intro k hk;have hk':k<all.length:=by simpa using hk
   have hk2:k<listed.size:=by rw [hI.size]; exact hk'
   have e1:listed.getD k true=listed.getD k false:=by simp [Array.getD,hk2]
   intro hh;rw [e1,hall k hk'] at hh;simp at hh
 | succ fuel ih =>
   intro listed rem s es c σ F hlen hI hf hp hr hk;have Qa:∀ i,i∈Region.ready .any all.toArray listed↔∃ o,all[i]?=some o/\listed.getD i true=false/\∀ e∈o.after.toList,Region.binds .any e=true->listed.getD e.on false=true:=by
    intro i;simp only [Region.ready,List.mem_filter,List.mem_range,jH',ik',ju'];constructor
    ·rintro ⟨h1,h2,h3⟩;have ho:all[i]?=some all[i]:=in' h1;refine ⟨_,ho,h2,?_⟩;simp only [jp',ho,jc',jr'] at h3;intro e he hb;rw [Array.all_eq_true_iff_forall_mem] at h3;have:=h3 e (by simpa using he)
     rw [hb] at this;simpa using this
    ·rintro ⟨o,ho,h2,h3⟩;refine ⟨(ij'.1 ho).1,h2,?_⟩;simp only [jp',ho,jc',jr'];rw [Array.all_eq_true_iff_forall_mem];intro e he;cases hb:Region.binds .any e with
     | false=>rfl
     | true=>simpa using h3 e (by simpa using he) hb
   have Qb:∀ i,i<all.length->listed.getD i true=listed.getD i false:=by
    intro i hi;have:i<listed.size:=by rw [hI.size]; exact hi
    simp [Array.getD,this]
   refine ⟨λhnil=>?_,λi hi=>?_⟩
   ·
    exfalso;have hall:∀ k,k<all.length->listed.getD k false=true:=by
     intro k
     induction k using Nat.strongRecOn with
     | _ k ihk =>
       intro hk;cases hq:listed.getD k false with
       | true=>rfl
       | false =>
         have ho:all[k]?=some all[k]:=in' hk;have:k∈Region.ready .any all.toArray listed:=(Qa k).2 ⟨_,ho,by rw [Qb k hk]; exact hq,λe he hb=>by have:=(P9 k _ ho).1 e he hb;exact ihk e.on this (by omega)⟩
         rw [hnil] at this;cases this
    cases rem with
    | nil=>cases hlen
    | cons x r =>
      obtain ⟨h1,h2⟩:=hI.mem x (by simp)
      rw [hall x.1 (ij'.1 h1).1] at h2;cases h2
   ·obtain ⟨o,ho,hl,hdp⟩:=(Qa i).1 hi;have hil:i<all.length:=(ij'.1 ho).1;have hnot:listed.getD i false=false:=by rw [<- Qb i hil]; exact hl
    have Qc:∀ j∈lQ bn i,listed.getD j false=true:=by
     intro j hj;obtain ⟨e,he,hb,h⟩:=(P9 i o ho).2 j hj;have h1:=hdp e he hb;rcases h with rfl | h
     ·exact h1
     ·exact hI.P8 _ h1 j h
    obtain ⟨pre,post,hsplit⟩:=List.append_of_mem (hI.Ie i o ho hnot);subst hsplit;have htd:∀ x∈pre,bg x.1 (lQ bn i)=false:=λx hx=>by
     rw [jN];intro hm;have:=(hI.mem x (by simp [hx])).2
     rw [Qc x.1 hm] at this;cases this
    have hsc:=jU'.1 hI.sc;have hs:∀ x∈pre,vI all x.2 o=true:=λx hx=>by
     rcases hsc.2.2 x hx (i,o) (by simp) with h | h
     ·rw [htd x hx] at h; cases h
     ·exact h
    obtain ⟨e1,e,e2,k1,k2,k3,k4,k5⟩:=J3 hf hp htd hs;subst k1;have hpw:=jU'.1 hp;have hp':(e1++e2).Pairwise (R bn):=jU'.2 ⟨hpw.1,(kg'.1 hpw.2.1).2,λa ha b hb=>hpw.2.2 a ha b (by simp [hb])⟩
    have hii:i<listed.size:=by rw [hI.size]; exact hil
    have hg:=RA hii;have hnd:=hI.nodup;have hI':P7 all bn (listed.setIfInBounds i true) (pre++post):=by
     refine ⟨by simp [hI.size],λx hx=>?_,λj oj hj hjl=>?_,?_,λj hjl q hq=>?_,?_⟩
     ·have hx':x∈pre++(i,o)::post:=by
       rcases iw'.1 hx with h | h
       ·simp [h]
       ·simp [h]
      obtain ⟨h1,h2⟩:=hI.mem x hx';refine ⟨h1,?_⟩;rw [hg,h2,Bool.or_false];apply Sx.beq_false;intro e;rw [List.map_append,iH',iV'] at hnd;obtain ⟨n1,n2,n3⟩:=hnd;rcases iw'.1 hx with h | h
      ·exact n3 x.1 (List.mem_map_of_mem h) i (by simp) e
      ·exact (jP'.1 n2).1 (iT'.2 ⟨x,h,e⟩)
     ·rw [hg,ko'] at hjl;have:=hI.Ie j oj hj hjl.2;rcases iw'.1 this with h | h
      ·simp [h]
      ·rcases ir'.1 h with h | h
       ·cases h;simp at hjl
       ·simp [h]
     ·rw [List.map_append] at hnd ⊢;exact hnd.sublist (List.Sublist.append (List.Sublist.refl _) (by simp))
     ·rw [hg] at hjl ⊢;rcases Bool.or_eq_true_iff.1 hjl with h | h
      ·have:=ii' h;subst this;simp [Qc q hq]
      ·simp [hI.P8 j h q hq]
     ·exact jU'.2 ⟨hsc.1,(kg'.1 hsc.2.1).2,λa ha b hb=>hsc.2.2 a ha b (by simp [hb])⟩
    cases k5 with
    | cons _ _ _ r _ _ _ g1 g2 g3 =>
      have hlen':(pre++post).length=fuel:=by simp only [iq',iF'] at hlen ⊢;omega
      have hdst:∀ {j},fO (pre++(i,o)::post) j=false->fO (pre++post) j=false/\o.dst≠some j:=λhj=>by obtain ⟨j1,j2⟩:=GD hj;obtain ⟨j3,j4⟩:=tV j2;refine ⟨?_,j3⟩;simp only [fO,List.any_append,ko'] at j1 j4 ⊢;exact ⟨j1,j4⟩
      have cont:∀ c' τ F',Cx.le c c'->Rel X c' τ (bK s i o r) n F'->Stp X.M σ τ->(∀ j,o.dst≠some j->F' j=F j)->wpAny P .any all.toArray Q fuel (listed.setIfInBounds i true) (fr n F') τ.w:=λc' τ F' m1 m2 m3 m4 =>
       ih _ _ _ _ c' τ F' hlen' hI' g3 hp' m2 λc2 υ F2 q1 q2 q3 q4=>hk c2 υ F2 (Cx.le_trans m1 q1) q2 (m3.trans q3) λj hj=>(q4 j (hdst hj).1).trans (m4 j (hdst hj).2)
      unfold wpOp;simp only [jp',ho];rcases JI ht hd hX hr g1 g2 with ⟨e',rfl,he,hw⟩ | ⟨rfl,hw⟩
      ·rw [if_pos hw];refine .inl ?_;have h1:Oper.wp P { o with guard:=none } (fr n F) σ.w (wpAny P .any all.toArray Q fuel (listed.setIfInBounds i true)) Q:=aU' rfl (MS ht hd hX hr he g2 λc' τ F' m1 m2 m3 m4=>wpList_nil (cont c' τ F' m1 m2 m3 m4))
       unfold Oper.wp at h1 ⊢;exact h1
      ·rw [if_neg (by rw [hw]; simp),yP]
       exact cont c σ _ (Cx.le_refl c) (hr.put o.dst .undef undef (by simp only [RV])) (Stp.refl _ _) λj hj=>FP hj
def kz (l:List Oper):List (Nat×Oper):=l.zipIdx.map λx=>(x.2,x.1)
theorem EC {l:List Oper}{i:Nat}{o:Oper}:(i,o)∈kz l↔l[i]?=some o:=by
 simp only [kz,iT',Prod.mk.injEq];constructor
 ·rintro ⟨⟨o',i'⟩,h,rfl,rfl⟩;have:=List.mem_zipIdx_iff_getElem?.1 h;simpa using this
 ·intro h;exact ⟨(o,i),JY h,rfl,rfl⟩
theorem WH (l:List Oper):(kz l).map (·.2)=l:=by simp [kz,List.map_map,Function.comp_def]
theorem am' (l:List Oper):(kz l).map (·.1)=List.range l.length:=by simp [kz,List.map_map,Function.comp_def,List.zipIdx_map_snd,List.range_eq_range']
def bE' (s s':St I)(m:Nat):St I:=⟨s'.n,s'.F,s'.O,s.nx+8*m⟩
def region (tb:aD I)(aj:dn I)(bn:List (List Nat))(bL:Bool)(spl:List Nat)(ops:List Oper)(s:St I){ρ:Type}(k:St I->Option ρ):Option ρ :=
 kG tb aj ops bn bL spl (2*ops.length+2) ρ false [] (kz ops) [] s λs' _=>k (bE' s s' ops.length)
theorem bq' (ht:aV P tb)(hd:iT P aj)(hX:X.P=P){bL:Bool}{spl:List Nat}(hm:P.follows .mixedOrders=true){ops:List Oper}(hck:bL=true->Ew ops bn=true/\zb ops bn (kz ops)=true){s:St I}{ρ:Type}{k:St I->Option ρ}{r:ρ}(h:region tb aj bn bL spl ops s k=some r)
 {F:Fr} (hr:Rel X c σ s n F) {id:Nat} {Q:Exit->Act->World->Prop}
 (hk:∀ s' c' τ F',k s'=some r->Cx.le c c'->Rel X c' τ s' n F'->Stp X.M σ τ->(∀ i,fO (kz ops) i=false->F' i=F i)->Q .normal (fr n F') τ.w):(Code.region id ops.toArray bL).wp P Q (fr n F) σ.w:=by
 obtain ⟨s1',s2',acc',es,h1,h2⟩:=uN hd _ _ _ _ _ _ _ _ _ s [] h ⟨rfl,rfl,rfl,λ_ _ h=>h⟩ (λ_ x hx=>by cases hx)
 have fP:∀ c' τ F',Cx.le c c'->Rel X c' τ s1' n F'->Stp X.M σ τ->(∀ i,fO (kz ops) i=false->F' i=F i)->Q .normal (fr n F') τ.w:=λc' τ F' k1 k2 k3 k4=>by
  refine hk _ c' τ F' h1 k1 ⟨h2.ref.n.symm.trans k2.len,λi p hp=>k2.frame i p (h2.ref.F i p hp),?_,?_,?_,?_,k2.base,?_⟩ k3 k4
  ·intro l o ho;exact k2.aL l o (by rw [h2.ref.O]; exact ho)
  ·intro l l' p p' b ⟨o,a1⟩ ⟨o',a2⟩;exact k2.inj l l' p p' b ⟨o,by rw [h2.ref.O]; exact a1⟩ ⟨o',by rw [h2.ref.O]; exact a2⟩
  ·intro l p b ⟨o,a1⟩;exact k2.mine l p b ⟨o,by rw [h2.ref.O]; exact a1⟩
  ·intro l hl;exact k2.fq l (by rw [h2.ref.O]; exact hl)
  ·show dZ X c' τ s2'.O;rw [<- h2.ref.O];exact k2.aA
 cases bL with
 | false =>have hs:=YW (Q:=Q) (post:=[]) ht hd hX h2.flat c σ F hr λc' τ F' k1 k2 k3 k4=>wpList_nil (fP c' τ F' k1 k2 k3 k4);rw [WH,jo'] at hs;exact wp_region_lit hs
 | true =>
   obtain ⟨hc1,hc2⟩:=hck rfl;refine wp_region_any hm ?_;have hsz:ops.toArray.size=(kz ops).length:=by simp [kz]
   have zo:Stp l5 σ ⟨{ σ.w with drawn:=σ.w.drawn+1 },σ.L⟩:=⟨⟨ip' _,λ_ _=>ip' _,λ_ _ _ _ h=>h,Nat.le_succ _,λ_ _ _ h=>h⟩,rfl,rfl,rfl,λ_ _ _=>⟨rfl,rfl⟩⟩
   have hfalse:∀ i,(jQ' ops.toArray.size false).getD i false=false:=λi=>by by_cases h:i<ops.toArray.size<;>simp [Array.getD]
   refine U2 ht hd hX hc1 _ _ (kz ops) s es c ⟨{ σ.w with drawn:=σ.w.drawn+1 },σ.L⟩ F hsz.symm ⟨by simp,λx hx=>⟨EC.1 hx,hfalse _⟩,λi o ho _=>EC.2 ho,by rw [am']; exact List.nodup_range,(λi hi=>by rw [hfalse] at hi; cases hi),Ko hc2⟩
    h2.flat (h2.pair rfl) (hr.step zo) λc' τ F' k1 k2 k3 k4=>fP c' τ F' k1 k2 (zo.no.trans k3) k4
end
end Go.Qx
end
section
open Bool renaming and_eq_true->ik'
open List renaming all_eq_true->iu',filterMap_cons->iQ',map_cons->iH',mem_append->iw',mem_append_left->jt',mem_append_right->jR',mem_cons->ir',mem_filterMap->kh',nodup_cons->jP'
open Nat renaming beq->il',ble->iX',eq_of_beq_eq_true->ii',testBit->jD'
namespace Go.Qx
open Go Go.RowKit Go.Sx
section
variable {I:TypeId->Type} [∀ E,Rp (I E)]
abbrev eZ (S W:List (Nat×V)):List V:=S.map (·.2)++W.map (·.2)
abbrev iY (I:TypeId->Type)(S W:List (Nat×V)):Type:=dz I (eZ S W)
def DT (O:ay I)(l:Nat):Option Nat:=match O l with
 | some (some _)=>some l
 | _=>none
omit [∀ E,Rp (I E)] in
theorem Tf {O:ay I}{l l':Nat}(h:DT O l=some l'):∃ o,O l'=some (some o):=by
 unfold DT at h;split at h
 ·rename_i o e; cases h; exact ⟨_,e⟩
 ·cases h
def Ma (s:St I)(t:Nat):Option Nat:=bif iX' 2000000 t then DT s.O (t-2000000) else match s.F t with
 | some (.ptr l 0)=>some l
 | _=>none
def wJ (s:St I):List (Nat×V)->Option (List Nat)
 | []=>some []
 | x::r=>(Ma s x.1).bind λl=>(wJ s r).bind λr'=>some (l::r')
def Xm:V->TypeId
 | .k (.d (.dat E))=>E
 | _=>0
def kF:V->Bool
 | .k (.d (.dat _))=>true
 | .bI _=>true
 | _=>false
def uW (v:V)(ls:List (PV I)):Option (PV I):=bif kF v then some (tC (Xm v) ls) else match ls with
 | [p]=>bif kV p then none else some p
 | _=>none
def lU (v:V)(p:PV I):List (PV I):=bif kF v then (match p with
 | .agg ls=>ls
 | p=>[p]) else [p]
def Bt (s:St I):List (Nat×V)->Option (List (PV I))
 | []=>some []
 | x::r=>(s.F x.1).bind λp=>(Bt s r).bind λps=>some (p::ps)
def vY (O0:ay I)(s:St I):List (Nat×V)->List Nat->Option (List (PV I))
 | [],[]=>some []
 | x::r,l::ls=>match s.O l,O0 l with
   | some (some (.var T vs true)),some (some (.var T0 _ _))=>bif il' T T0 then (uW x.2 vs).bind λp=>(vY O0 s r ls).bind λps=>some (p::ps) else none
   | _,_=>none
 | _,_=>none
def oW (pubs:List Nat):List (Option Nat)->Bool
 | []=>true
 | none::r=>oW pubs r
 | some l::r=>!(bg l pubs)&&r.all (λx=>match x with | some l'=>!(il' l' l) | none=>true)&&oW pubs r
def mH (tb:aD I)(O0:ay I)(S W:List (Nat×V))(wl:List Nat)(s:St I):Option (iY I S W) :=
 (Bt s S).bind λa=>(vY O0 s W wl).bind λb=>(fM tb s.O (eZ S W) (a++b)).bind λx=>bif oW (x.2.1++wl) x.2.2 then some x.1 else none
def bF (ls:List Nat)(O:ay I):ay I:=λl=>bif bg l ls then (match O l with | some _=>some none | none=>none) else O l
def eB (O0:ay I):List (Nat×V)->List Nat->List (PV I)->ay I->ay I
 | x::r,l::ls,p::ps,O=>match O0 l with
   | some (some (.var T _ w))=>eB O0 r ls ps (aZ O l (some (.var T (lU x.2 p) w)))
   | _=>eB O0 r ls ps O
 | _,_,_,O=>O
def rR:List (Nat×V)->List (PV I)->(Nat->Option (PV I))->Nat->Option (PV I)
 | x::r,p::ps,F=>rR r ps (aZ F x.1 p)
 | _,_,F=>F
def nI (m:Nat)(F:Nat->Option (PV I)):Nat->Option (PV I):=λi=>bif jD' m i then none else F i
def jP (tb:aD I)(sb:St I)(m:Nat)(dead:List Nat)(S W:List (Nat×V))(wl:List Nat)(x:iY I S W):St I :=
 let ps:=bR tb sb.nx (eZ S W) x
 ⟨sb.n,rR S (ps.take S.length) (nI m sb.F),eB sb.O W wl (ps.drop S.length) (bV (bF (wl++dead) sb.O) sb.nx (cO (eZ S W) x)),sb.nx+vH (eZ S W)⟩
def xw (O:ay I)(nb:Nat):Nat->Bool
 | 0=>true
 | m+1=>(O nb).isNone&&xw O (nb+1) m
def isRow (O:ay I)(l:Nat):Bool:=match O l with
 | some (some (.row _ _ _))=>true
 | some (some (.map _ _ _))=>true
 | some (some (.var _ _ true))=>true
 | _=>false
def wN (s:St I)(ts wl:List Nat):List Nat:=(ji s.F ts++nest s.O wl).filter (isRow s.O)
def eP (own:List Nat)(O:ay I):ay I:=λl=>bif bg l own then O l else match O l with
 | some (some (.var T ls _))=>some (some (.var T ls false))
 | some (some (.row E xs true))=>some (some (.ro E xs))
 | some (some (.row _ _ false))=>some none
 | some (some (.aA _ _ _ _ _))=>some none
 | some (some (.map T kd m))=>some (some (.dO T kd m))
 | o=>o
def jk (own:List Nat)(s:St I):St I:=⟨s.n,s.F,eP own s.O,s.nx⟩
variable {P:Program}{tb:aD I}{X X':aY}{c c':Cx}{σ τ:S}{s:St I}{n:Nat}{F F':Fr}{O:ay I}
theorem Rel.Qd (h:Rel X c σ s n F){G:Nat->Option (PV I)}(hG:∀ i p,G i=some p->s.F i=some p/\F' i=F i):Rel X c σ ⟨s.n,G,s.O,s.nx⟩ n F' :=
 ⟨h.len,λi p hp=>by obtain ⟨h1,h2⟩:=hG i p hp; rw [h2]; exact h.frame i p h1,h.aL,h.inj,h.mine,h.fq,h.base,h.aA⟩
theorem Rel.less (h:Rel X c σ s n F){O':ay I}(hO:∀ l o,O' l=some (some o)->s.O l=some (some o))(hn:∀ l,O' l=none->s.O l=none):Rel X c σ ⟨s.n,s.F,O',s.nx⟩ n F :=
 ⟨h.len,h.frame,λl o ho=>h.aL l o (hO l o ho),λl l' p p' b ⟨o,a1⟩ ⟨o',a2⟩=>h.inj l l' p p' b ⟨o,hO l o a1⟩ ⟨o',hO l' o' a2⟩,λl p b ⟨o,a1⟩=>h.mine l p b ⟨o,hO l o a1⟩,λl hl=>h.fq l (hn l hl),h.base,h.aA.sub (λl _ _ _ _ _ e=>hO l _ e) λl' o _ _ ho' _ _=>.inl ⟨o,hO l' o ho'⟩⟩
theorem Rel.Ig (h:Rel X c σ s n F){l:Nat}{o:Ob I}(ho:dJ X c σ l o)(hw:∀ p g,c l=some p->p.w=some g->X.M g/\∀ l' p',l'≠l->aQ s l'->c l'=some p'->p'.w≠some g)(hN:dZ X c σ (aZ s.O l (some o))):Rel X c σ (aP s l (some o)) n F:=by
 have hlive:∀ {l'},l'≠l->aQ (aP s l (some o)) l'->aQ s l':=λe ⟨o',h'⟩=>by
  rcases bG h' with ⟨e',_⟩ | ⟨_,h⟩
  ·exact absurd e' e
  ·exact ⟨o',h⟩
 refine ⟨h.len,h.frame,λl' o'' hl'=>?_,λl1 l2 p1 p2 b a1 a2 a3 a4 a5 a6=>?_,λl1 p1 b a1 a2 a3=>?_,λl' hl'=>?_,h.base,hN⟩
 ·rcases bG hl' with ⟨rfl,e⟩ | ⟨e,hl'⟩
  ·cases e; exact ho
  ·exact h.aL l' o'' hl'
 ·by_cases e1:l1=l
  ·by_cases e2:l2=l
   ·rw [e1,e2]
   ·subst e1;exact absurd a6 ((hw p1 b a3 a5).2 l2 p2 e2 (hlive e2 a2) a4)
  ·by_cases e2:l2=l
   ·subst e2;exact absurd a5 ((hw p2 b a4 a6).2 l1 p1 e1 (hlive e1 a1) a3)
   ·exact h.inj l1 l2 p1 p2 b (hlive e1 a1) (hlive e2 a2) a3 a4 a5 a6
 ·by_cases e1:l1=l
  ·subst e1; exact (hw p1 b a2 a3).1
  ·exact h.mine l1 p1 b (hlive e1 a1) a2 a3
 ·refine h.fq l' ?_;by_cases e:l'=l
  ·subst e;have:(aP s l' (some o)).O l'=some (some o):=dS _ _ _;rw [this] at hl'; cases hl'
  ·have:(aP s l (some o)).O l'=s.O l':=bW e;rw [this] at hl'; exact hl'
theorem Rel.wU (h:Rel X c σ s n F){l:Nat}{o:Ob I}(ho:dJ X c σ l o)(hw:∀ p g,c l=some p->p.w=some g->X.M g/\bQ c σ s g/\∀ l' p',l'≠l->aQ s l'->c l'=some p'->p'.w≠some g)(hn:lT (some o)=true:=by rfl):Rel X c σ (aP s l (some o)) n F :=
 h.Ig ho (λp g a b=>⟨(hw p g a b).1,(hw p g a b).2.2⟩) (h.aA.sub (λl' E E' u xs q e=>by
  rcases bG e with ⟨_,e'⟩ | ⟨_,h2⟩
  ·exact absurd e'.symm (tT hn)
  ·exact h2) λl' o' p' b ho' hc' hw'=>by
  rcases bG ho' with ⟨rfl,_⟩ | ⟨_,h2⟩
  ·exact .inr (hw p' b hc' hw').2.1
  ·exact .inl ⟨o',h2⟩)
theorem Rel.dB' (h:Rel X c σ s n F){l:Nat}{E E':TypeId}{u:Nat}{ys:List (I E)}{pl:Pl}(zq:¬ aQ s l)(hc:c l=some pl)(ho:dJ X c σ l (.aA E E' u ys 0))
 (hw:∀ g,pl.w=some g->X.M g/\bQ c σ s g/\∀ l' p',aQ s l'->c l'=some p'->p'.w≠some g) (Cz:∀ i,i<ys.length->∃ g v,pl.A=some ⟨g,0,none⟩/\σ.w.cell? ⟨g,i*Rp.sz (I E)+u,none⟩=some v/\rA I E' σ v)
 (hin:∀ i g v b,i<ys.length->pl.A=some ⟨g,0,none⟩->σ.w.cell? ⟨g,i*Rp.sz (I E)+u,none⟩=some v->kJ v=some b->X.M b/\bQ c σ s b/\(∀ l' p',aQ s l'->c l'=some p'->p'.w≠some b)/\pl.w≠some b)
 (hdist:∀ i i' g v v' b,i<ys.length->i'<ys.length->pl.A=some ⟨g,0,none⟩->σ.w.cell? ⟨g,i*Rp.sz (I E)+u,none⟩=some v->σ.w.cell? ⟨g,i'*Rp.sz (I E)+u,none⟩=some v'->kJ v=some b->kJ v'=some b->i'=i) :
 Rel X c σ (aP s l (some (.aA E E' u ys 0))) n F:=by
 refine h.Ig ho (λp g a b=>?_) ?_
 ·rw [hc] at a;cases a;exact ⟨(hw g b).1,λl' p' _=>(hw g b).2.2 l' p'⟩
 have hne:∀ {l' o},s.O l'=some (some o)->l'≠l:=λe e'=>zq (by rw [<- e']; exact ⟨_,e⟩)
 have hI:∀ {l' i E1 v},eD c σ (aZ s.O l (some (.aA E E' u ys 0))) l' i E1 v->eD c σ s.O l' i E1 v\/(l'=l/\∃ g,i<ys.length/\pl.A=some ⟨g,0,none⟩/\σ.w.cell? ⟨g,i*Rp.sz (I E)+u,none⟩=some v):=λ{l' i E1 v} ⟨E2,u2,o9,q2,g,kk,m,w,h1,h2,h3,h4,h5⟩=>by
  rcases bG h1 with ⟨e,e2⟩ | ⟨_,e2⟩
  ·cases e2;subst e;rw [hc] at h2;cases h2;exact .inr ⟨rfl,g,h3,rfl,h5⟩
  ·exact .inl ⟨E2,u2,o9,q2,g,kk,m,w,e2,h2,h3,h4,h5⟩
 have hB:∀ {l' i b},bX c σ (aZ s.O l (some (.aA E E' u ys 0))) l' i b->bX c σ s.O l' i b\/(l'=l/\∃ g v,i<ys.length/\pl.A=some ⟨g,0,none⟩/\σ.w.cell? ⟨g,i*Rp.sz (I E)+u,none⟩=some v/\kJ v=some b):=λ⟨E1,v,h1,h2⟩=>by
  rcases hI h1 with k | ⟨k1,g,k2,k3,k4⟩
  ·exact .inl ⟨E1,v,k,h2⟩
  ·exact .inr ⟨k1,g,v,k2,k3,k4,h2⟩
 refine ⟨λl' E1 E2 u1 mX q1 e i hi hq=>?_,λl' i b hb=>?_,λl' i b hb l2 o p' ho' hc' hw'=>?_,λl' i b l2 i2 h1 h2=>?_⟩
 ·rcases bG e with ⟨e1,e2⟩ | ⟨e1,e2⟩
  ·cases e2;subst e1;obtain ⟨g,v,a1,a2,a3⟩:=Cz i hi;obtain ⟨A,k,m,w⟩:=pl;cases a1;exact ⟨v,⟨_,_,_,_,g,k,m,w,dS _ _ _,hc,hi,hq,a2⟩,a3⟩
  ·obtain ⟨v,⟨E3,u3,pq,q3,g,kk,m,w,h1,h2,h3⟩,k2⟩:=h.aA.opn l' _ _ _ _ _ e2 i hi hq;exact ⟨v,⟨E3,u3,pq,q3,g,kk,m,w,by rw [bW e1]; exact h1,h2,h3⟩,k2⟩
 ·rcases hB hb with k | ⟨_,g,v,k1,k2,k3,k4⟩
  ·exact h.aA.mine l' i b k
  ·exact (hin i g v b k1 k2 k3 k4).1
 ·rcases hB hb with k | ⟨_,g,v,k1,k2,k3,k4⟩
  ·rcases bG ho' with ⟨e1,_⟩ | ⟨_,e2⟩
   ·subst e1;rw [hc] at hc';cases hc';exact (hw b hw').2.1 l' i k
   ·exact h.aA.free l' i b k l2 o p' e2 hc' hw'
  ·rcases bG ho' with ⟨e1,_⟩ | ⟨_,e2⟩
   ·subst e1;rw [hc] at hc';cases hc';exact (hin i g v b k1 k2 k3 k4).2.2.2 hw'
   ·exact (hin i g v b k1 k2 k3 k4).2.2.1 l2 p' ⟨o,e2⟩ hc' hw'
 ·rcases hB h1 with k | ⟨k0,g,v,k1,k2,k3,k4⟩
  ·rcases hB h2 with m | ⟨m0,g',v',m1,m2,m3,m4⟩
   ·exact h.aA.inj l' i b l2 i2 k m
   ·exact absurd k ((hin i2 g' v' b m1 m2 m3 m4).2.1 _ _)
  ·rcases hB h2 with m | ⟨m0,g',v',m1,m2,m3,m4⟩
   ·exact absurd m ((hin i g v b k1 k2 k3 k4).2.1 _ _)
   ·rw [k2] at m2;cases m2;exact ⟨m0.trans k0.symm,hdist i i2 g v v' b k1 m1 k2 k3 m3 k4 m4⟩
theorem Rel.retag (h:Rel X c σ s n F){l:Nat}{o o':Ob I}(hl:s.O l=some (some o))(ho:dJ X c σ l o')(hN:dZ X c σ (aZ s.O l (some o'))):Rel X c σ (aP s l (some o')) n F :=
 h.Ig ho (λp g a b=>⟨h.mine l p g ⟨_,hl⟩ a b,λl' p' hne hlv hc' hw'=>hne (h.inj l' l p' p g hlv ⟨_,hl⟩ hc' a hw' b)⟩) hN
theorem Rel.plain (h:Rel X c σ s n F){l:Nat}{E E':TypeId}{u q:Nat}{xs:List (I E)}(hl:s.O l=some (some (.aA E E' u xs q))):Rel X c σ (aP s l (some (.row E xs false))) n F :=
 h.retag hl (by have:=h.aL l _ hl; exact this) (h.aA.sub (λl' E E' u xs q e=>by
  rcases bG e with ⟨_,e'⟩ | ⟨_,h2⟩
  ·cases e'
  ·exact h2) λl' o' p' b ho' hc' hw'=>by
  rcases bG ho' with ⟨rfl,_⟩ | ⟨_,h2⟩
  ·exact .inl ⟨_,hl⟩
  ·exact .inl ⟨o',h2⟩)
theorem Rel.armed (h:Rel X c σ s n F){l:Nat}{E E':TypeId}{u:Nat}{xs:List (I E)}(hl:s.O l=some (some (.aA E E' u xs 0))):Rel X c σ (aP s l (some (.aA E E' u xs 1))) n F:=by
 refine h.retag hl (by have:=h.aL l _ hl; exact this) ?_
 have hI:∀ {l' i E1 v},eD c σ (aZ s.O l (some (.aA E E' u xs 1))) l' i E1 v->eD c σ s.O l' i E1 v:=λ{l' i E1 v} ⟨E2,u2,o9,q2,g,kk,m,w,h1,h2,h3,h4,h5⟩=>by
  rcases bG h1 with ⟨e,e2⟩ | ⟨_,e2⟩
  ·cases e2;subst e;exact ⟨_,_,_,0,g,kk,m,w,hl,h2,h3,by omega,h5⟩
  ·exact ⟨E2,u2,o9,q2,g,kk,m,w,e2,h2,h3,h4,h5⟩
 have hB:∀ {l' i b},bX c σ (aZ s.O l (some (.aA E E' u xs 1))) l' i b->bX c σ s.O l' i b:=λ⟨E1,v,h1,h2⟩=>⟨E1,v,hI h1,h2⟩;refine ⟨λl' E1 E2 u1 mX q1 e i hi hq=>?_,λl' i b hb=>h.aA.mine l' i b (hB hb),λl' i b hb l2 o p' ho' hc'=>?_,λl' i b l2 i2 h1 h2=>h.aA.inj l' i b l2 i2 (hB h1) (hB h2)⟩
 ·rcases bG e with ⟨e1,e2⟩ | ⟨e1,e2⟩
  ·cases e2;subst e1;obtain ⟨v,⟨E3,u3,pq,q3,g,kk,m,w,h1,h2,h3,h4,h5⟩,k2⟩:=h.aA.opn l' _ _ _ _ 0 hl i hi (by omega)
   rw [hl] at h1;cases h1;exact ⟨v,⟨_,_,_,_,g,kk,m,w,dS _ _ _,h2,hi,hq,h5⟩,k2⟩
  ·obtain ⟨v,⟨E3,u3,pq,q3,g,kk,m,w,h1,h2,h3⟩,k2⟩:=h.aA.opn l' _ _ _ _ _ e2 i hi hq;exact ⟨v,⟨E3,u3,pq,q3,g,kk,m,w,by rw [bW e1]; exact h1,h2,h3⟩,k2⟩
 ·rcases bG ho' with ⟨e1,_⟩ | ⟨_,e2⟩
  ·subst e1; exact h.aA.free l' i b (hB hb) l2 _ p' hl hc'
  ·exact h.aA.free l' i b (hB hb) l2 o p' e2 hc'
theorem Rel.rR:∀ {S:List (Nat×V)} {ps:List (PV I)} {s:St I},Rel X c σ s n F->ah X c σ ps (S.map λx=>F x.1)->Rel X c σ ⟨s.n,Qx.rR S ps s.F,s.O,s.nx⟩ n F
 | [],_,s,h,_=>h
 | x::S,[],s,h,hv=>by simp only [iH',ah] at hv; cases hv
 | x::S,p::ps,s,h,hv=>by
   simp only [iH',ah] at hv;obtain ⟨v,r,e,h1,h2⟩:=hv;cases e;have hp:Rel X c σ ⟨s.n,aZ s.F x.1 p,s.O,s.nx⟩ n F:=by
    refine ⟨h.len,λi q hq=>?_,h.aL,h.inj,h.mine,h.fq,h.base,h.aA⟩;rcases bG hq with ⟨rfl,rfl⟩ | ⟨_,hq⟩
    ·exact h1
    ·exact h.frame i q hq
   have:=Rel.rR hp h2;exact this
def oD:Ob I->Bool
 | .row _ _ _=>true
 | .map _ _ _=>true
 | .var _ _ true=>true
 | _=>false
omit [∀ E,Rp (I E)] in
theorem AU {k:K}{p:PV I}{x:iq I k}{ls:List Nat}{rows:List (Option Nat)}(h:kN tb O k p=some (x,ls,rows)):∀ l,some l∈rows->∃ o:Ob I,O l=some (some o)/\oD o=true:=by
 unfold kN at h;split at h
 ·obtain ⟨y,hy,h⟩:=bind_some h;cases h;exact λl hl=>by simp at hl
 ·rename_i E fl l0;split at h
  ·rename_i E' xs gV ho;obtain ⟨ys,hys,h⟩:=bind_some h;split at h
   ·cases h; exact λl hl=>by simp at hl; subst hl; exact ⟨_,ho,rfl⟩
   ·cases h; exact λl hl=>by simp at hl; subst hl; exact ⟨_,ho,rfl⟩
   ·cases h
  ·cases h
 ·cases h;exact λl hl=>by simp at hl
 ·obtain ⟨ys,hys,h2⟩:=bind_some h;clear h;cases h2;exact λl hl=>by simp at hl
 ·rename_i T kd l0;split at h
  ·rename_i T' kd' m ho;obtain ⟨ys,hys,h⟩:=bind_some h;cases h;exact λl hl=>by simp at hl; subst hl; exact ⟨_,ho,rfl⟩
  ·cases h
 ·split at h
  ·rename_i T' ls' ho;obtain ⟨_,h⟩:=aK h;obtain ⟨y,hy,h⟩:=bind_some h;cases h;exact λl hl=>by simp at hl; subst hl; exact ⟨_,ho,rfl⟩
  ·cases h
 ·cases h
omit [∀ E,Rp (I E)] in
theorem XI {k:K}{p:PV I}{x:iq I k}{ls:List Nat}{rows:List (Option Nat)}(hk:∃ E fl,k=.row E fl)(h:kN tb O k p=some (x,ls,rows)):∀ l,some l∈rows->∃ E,∃ xs:List (I E),∃ fl,O l=some (some (.row E xs fl)):=by
 unfold kN at h;split at h
 ·obtain ⟨_,_,e⟩:=hk; cases e
 ·rename_i E fl l0;split at h
  ·rename_i E' xs gV ho;obtain ⟨ys,hys,h⟩:=bind_some h;split at h
   ·cases h; exact λl hl=>by simp at hl; subst hl; exact ⟨_,_,_,ho⟩
   ·cases h; exact λl hl=>by simp at hl; subst hl; exact ⟨_,_,_,ho⟩
   ·cases h
  ·cases h
 ·cases h;exact λl hl=>by simp at hl
 ·obtain ⟨ys,hys,h2⟩:=bind_some h;clear h;cases h2;exact λl hl=>by simp at hl
 ·obtain ⟨_,_,e⟩:=hk; cases e
 ·obtain ⟨_,_,e⟩:=hk; cases e
 ·cases h
omit [∀ E,Rp (I E)] in
theorem N8 {E0:TypeId}{Qe:Bool}{p:PV I}{x:iq I (.row E0 Qe)}{ls:List Nat}{rows:List (Option Nat)}(h:kN tb O (.row E0 Qe) p=some (x,ls,rows)):∀ l,some l∈rows->∃ E,∃ xs:List (I E),∃ fl,O l=some (some (.row E xs fl)) :=
 XI ⟨_,_,rfl⟩ h
omit [∀ E,Rp (I E)] in
theorem GZ:∀ {ks:List K} {ps:List (PV I)} {x:fV I ks} {ls:List Nat} {rows:List (Option Nat)},lX tb O ks ps=some (x,ls,rows)->∀ l,some l∈rows->∃ o:Ob I,O l=some (some o)/\oD o=true
 | [],[],_,_,_,h=>by cases h; exact λl hl=>by simp at hl
 | [_],[_],_,_,_,h=>AU h
 | k::k'::ks,p::ps,_,_,_,h=>by
   obtain ⟨y,hy,h⟩:=bind_some h;obtain ⟨z,hz,h⟩:=bind_some h;cases h;intro l hl;rcases iw'.1 hl with hl | hl
   ·exact AU (ls:=y.2.1) (rows:=y.2.2) hy l hl
   ·exact GZ (ls:=z.2.1) (rows:=z.2.2) hz l hl
 | [],_::_,_,_,_,h=>by simp [lX] at h
 | [_],[],_,_,_,h=>by simp [lX] at h
 | [_],_::_::_,_,_,_,h=>by simp [lX] at h
 | _::_::_,[],_,_,_,h=>by simp [lX] at h
omit [∀ E,Rp (I E)] in
theorem Bj {k:V}{p:PV I}{x:jg I k}{ls:List Nat}{rows:List (Option Nat)}(h:qU tb O k p=some (x,ls,rows)):∀ l,some l∈rows->∃ o:Ob I,O l=some (some o)/\oD o=true:=by
 unfold qU at h;split at h
 ·exact AU h
 ·obtain ⟨_,h1⟩:=aK h;obtain ⟨ls',_,h2⟩:=bind_some h1;exact GZ h2
 ·obtain ⟨_,h1⟩:=aK h;obtain ⟨ls',_,h2⟩:=bind_some h1;exact GZ h2
 ·cases h
omit [∀ E,Rp (I E)] in
theorem Bo:∀ {ks:List V} {ps:List (PV I)} {x:dz I ks} {ls:List Nat} {rows:List (Option Nat)},fM tb O ks ps=some (x,ls,rows)->∀ l,some l∈rows->∃ o:Ob I,O l=some (some o)/\oD o=true
 | [],[],_,_,_,h=>by cases h; exact λl hl=>by simp at hl
 | [_],[_],_,_,_,h=>Bj h
 | k::k'::ks,p::ps,_,_,_,h=>by
   obtain ⟨y,hy,h⟩:=bind_some h;obtain ⟨z,hz,h⟩:=bind_some h;cases h;intro l hl;rcases iw'.1 hl with hl | hl
   ·exact Bj (ls:=y.2.1) (rows:=y.2.2) hy l hl
   ·exact Bo (ls:=z.2.1) (rows:=z.2.2) hz l hl
 | [],_::_,_,_,_,h=>by simp [fM] at h
 | [_],[],_,_,_,h=>by simp [fM] at h
 | [_],_::_::_,_,_,_,h=>by simp [fM] at h
 | _::_::_,[],_,_,_,h=>by simp [fM] at h
def gY (τ:S)(cb:Cx)(O0:ay I):List (Nat×V)->List Nat->List Value->Prop
 | [],[],us=>us=[]
 | x::r,l::ls,us=>∃ u je b T vs w cs,us=u::je/\O0 l=some (some (.var T vs w))/\cb l=some ⟨some ⟨b,0,none⟩,0,0,some b⟩/\τ.w.heap[b]?=some (.cells cs.toArray T (0,0))/\(τ.L b).1=0 /\
    (bif kF x.2 then u=.agg cs.toArray else cs=[u])/\gY τ cb O0 r ls je
 | _,_,_=>False
structure Facts (M:Nat->Prop)(τ:S)(cb:Cx)(O0:ay I)(F:Fr)(S W:List (Nat×V))(wl:List Nat)(x:iY I S W)(af:List Pl)(us:List Value):Prop where
 tt:TT τ (eZ S W) x (S.map (λy=>F y.1)++us) af
 cont:gY τ cb O0 W wl us
 nodup:(ows af).Nodup
 own:∀ g∈ows af,M g/\∀ l∈wl,∀ p,cb l=some p->p.w≠some g
 CR:∀ l∈wl,∀ p g,cb l=some p->p.w=some g->M g
theorem tN {pubs:List Nat}:∀ {rows:List (Option Nat)},oW pubs rows=true->(rows.filterMap id).Nodup/\∀ l,some l∈rows->l ∉ pubs
 | [],_=>⟨by simp,λl h=>by simp at h⟩
 | none::r,h=>by obtain ⟨h1,h2⟩:=tN (rows:=r) h;exact ⟨by simpa using h1,λl hl=>h2 l (by simpa using hl)⟩
 | some l::r,h=>by
   simp only [oW,ik'] at h;obtain ⟨⟨a1,a3⟩,a4⟩:=h;obtain ⟨h1,h2⟩:=tN (rows:=r) a4;refine ⟨?_,λl' hl'=>?_⟩
   ·simp only [iQ',id];refine jP'.2 ⟨λhm=>?_,h1⟩;have hm':some l∈r:=by simpa [kh'] using hm
    have:=(iu'.1 a3) _ hm';simp at this
   ·rcases ir'.1 hl' with e | hl'
    ·cases e;exact jN.1 (by simpa using a1)
    ·exact h2 l' hl'
theorem EY (h:Rel X c σ s n F):∀ {S:List (Nat×V)} {ps:List (PV I)},Bt s S=some ps->ah X c σ ps (S.map λx=>F x.1)
 | [],_,e=>by cases e; simp [ah]
 | x::r,_,e=>by obtain ⟨p,hp,e⟩:=bind_some e;obtain ⟨ps,hps,e⟩:=bind_some e;cases e;simp only [iH',ah];exact ⟨_,_,rfl,h.frame _ _ hp,EY h hps⟩
theorem Jp {cb:Cx}{O0:ay I}(h:Rel X c σ s n F):∀ {W:List (Nat×V)} {wl:List Nat} {ps:List (PV I)},vY O0 s W wl=some ps->(∀ l∈wl,c l=cb l) ->
 ∃ us,ah X c σ ps us/\gY σ cb O0 W wl us/\∀ l∈wl,aQ s l/\(∃ T vs w,s.O l=some (some (.var T vs w)))/\O0 l≠none
 | [],[],_,e,_=>by cases e; exact ⟨[],by simp [ah],rfl,λl hl=>by cases hl⟩
 | x::r,l::ls,_,e,hle=>by
   unfold vY at e;split at e
   ·rename_i T vs T0 Qf w0 ho ho0;obtain ⟨hb,e2⟩:=aK e;clear e;have eT:=ii' hb;subst eT;obtain ⟨p,hp,e3⟩:=bind_some e2;clear e2;obtain ⟨ps,hps,e4⟩:=bind_some e3;clear e3;cases e4;obtain ⟨us,h1,h2,h3⟩:=Jp h hps (λl' hl'=>hle l' (by simp [hl']))
    obtain ⟨b,cs,k1,k2,k3,k4,_⟩:=h.aL l _ ho;have hcb:cb l=some ⟨some ⟨b,0,none⟩,0,0,some b⟩:=(hle l (by simp)).symm.trans k1
    have hcont:∃ u,RV X c σ p u/\(bif kF x.2 then u=.agg cs.toArray else cs=[u]):=by
     unfold uW at hp;cases ha:kF x.2 with
     | true =>rw [ha] at hp;cases hp;exact ⟨.agg cs.toArray,sj k2,rfl⟩
     | false =>
       rw [ha] at hp;simp only [cond_false] at hp;split at hp
       ·rename_i p0;cases hd0:kV p0 with
        | true=>rw [hd0] at hp; cases hp
        | false =>
          rw [hd0] at hp;cases hp;simp only [RG] at k2;obtain ⟨a,r',rfl,hv,rfl⟩:=k2;rcases hv with hv | ⟨_,v,rfl,hv⟩
          ·exact (by cases p<;>first | exact hv.elim | cases hd0)
          ·exact ⟨v,hv,rfl⟩
       ·cases hp
    obtain ⟨u,hu,hu2⟩:=hcont;refine ⟨u::us,by simp only [ah]; exact ⟨u,us,rfl,hu,h1⟩,⟨u,us,b,_,_,_,cs,rfl,ho0,hcb,k3,k4 rfl,hu2,h2⟩,λl' hl'=>?_⟩
    rcases ir'.1 hl' with rfl | hl'
    ·exact ⟨⟨_,ho⟩,⟨_,_,_,ho⟩,by rw [ho0]; simp⟩
    ·exact h3 l' hl'
   ·cases e
 | [],_::_,_,e,_=>by simp [vY] at e
 | _::_,[],_,e,_=>by simp [vY] at e
theorem At.mem:∀ {rows:List (Option Nat)} {af:List Pl},At c rows af->∀ g∈ows af,∃ l p,some l∈rows/\c l=some p/\p.w=some g
 | [],_,h,g,hg=>by cases h; simp [ows] at hg
 | r::rs,_,⟨p,ps,e,h1,h2⟩,g,hg=>by
   subst e;simp only [ows,iQ'] at hg;cases hw:p.w with
   | none =>rw [hw] at hg;obtain ⟨l,q,a,b⟩:=At.mem h2 g hg;exact ⟨l,q,by simp [a],b⟩
   | some g' =>
     rw [hw] at hg;rcases ir'.1 hg with rfl | hg
     ·cases r with
      | none=>simp only at h1; rw [h1] at hw; cases hw
      | some l=>exact ⟨l,p,by simp,h1,hw⟩
     ·obtain ⟨l,q,a,b⟩:=At.mem h2 g hg;exact ⟨l,q,by simp [a],b⟩
theorem At.nodup (h:Rel X c σ s n F):∀ {rows:List (Option Nat)} {af:List Pl},At c rows af->(rows.filterMap id).Nodup->(∀ l,some l∈rows->aQ s l)->(ows af).Nodup
 | [],_,e,_,_=>by cases e; simp [ows]
 | r::rs,_,⟨p,ps,e,h1,h2⟩,hn,hl=>by
   subst e;have hn':(rs.filterMap id).Nodup:=by
    cases r with
    | none=>simpa using hn
    | some l=>simp only [iQ',id] at hn; exact (jP'.1 hn).2
   have ih:=At.nodup h h2 hn' (λl hm=>hl l (by simp [hm]))
   simp only [ows,iQ'];cases hw:p.w with
   | none=>exact ih
   | some g =>
     refine jP'.2 ⟨λhg=>?_,ih⟩;obtain ⟨l',q,a1,a2,a3⟩:=At.mem h2 g hg;cases r with
     | none=>simp only at h1; rw [h1] at hw; cases hw
     | some l =>
       have e:=h.inj l l' p q g (hl l (by simp)) (hl l' (by simp [a1])) h1 a2 hw a3
       subst e;simp only [iQ',id] at hn;exact (jP'.1 hn).1 (by simpa [kh'] using a1)
theorem Kv (ht:aV P tb)(h:Rel X c σ s n F){cb:Cx}{O0:ay I}{S W:List (Nat×V)}{wl:List Nat}(hle:∀ l∈wl,c l=cb l){x:iY I S W}(hg:mH tb O0 S W wl s=some x) :
 ∃ τ af us,(τ.w=σ.w/\Stp X.M σ τ/\Facts X.M τ cb O0 F S W wl x af us)/\∃ ls,Rel X c τ (aG s s.O ls) n F/\(∀ g∈ows af,∃ l p,(∃ o:Ob I,(aG s s.O ls).O l=some (some o)/\oD o=true)/\c l=some p/\p.w=some g)/\(∀ l∈wl,∃ T vs w,s.O l=some (some (.var T vs w)))/\∀ l o,s.O l=some (some o)->(∀ E (xs:List (I E)),o≠.row E xs false)->(aG s s.O ls).O l=some (some o):=by
 obtain ⟨a,ha,hg⟩:=bind_some hg;obtain ⟨b,hb,hg⟩:=bind_some hg;obtain ⟨y,hy,hg⟩:=bind_some hg;obtain ⟨hr,hg⟩:=aK hg;cases hg;obtain ⟨τ,h1,h2,h3,h4,h5,h6⟩:=h.pubs (O:=s.O) (λ_ _ h=>h) y.2.1;obtain ⟨r1,zu⟩:=tN hr;have r2:∀ l,some l∈y.2.2->l ∉ y.2.1:=λl hl hm=>zu l hl (jt' _ hm);obtain ⟨us,u1,u2,u3⟩:=Jp h hb hle;have zw:=ah.step h2 _ _ (ah.app _ _ _ _ (EY h ha) u1);obtain ⟨af,t1,t2⟩:=wF ht h4 h5 (ls:=y.2.1) (rows:=y.2.2) hy (λl hl=>hl) (λl hl=>r2 l hl) zw;have hlive:=Bo (ls:=y.2.1) (rows:=y.2.2) hy;have hl3:∀ l,some l∈y.2.2->aQ (aG s s.O y.2.1) l:=λl hl=>by obtain ⟨o,ho,_⟩:=hlive l hl;exact ⟨_,(h6 l (r2 l hl)).trans ho⟩
 have hcont:gY τ cb O0 W wl us:=by
  have key:∀ {W:List (Nat×V)} {gJ:List Nat} {us:List Value},(∀ l∈gJ,l∈wl/\aQ s l/\(∃ T vs w,s.O l=some (some (.var T vs w)))/\O0 l≠none)->gY σ cb O0 W gJ us->gY τ cb O0 W gJ us:=by
   intro W
   induction W with
   | nil =>
     intro gJ us _ hc;cases gJ with
     | nil=>exact hc
     | cons=>exact hc.elim
   | cons w r ih =>
     intro gJ us hw hc;cases gJ with
     | nil=>exact hc.elim
     | cons l ls =>
       obtain ⟨u,je,b,T,vs,w',cs,e1,e2,e3,e4,e5,e6,e7⟩:=hc;have hl0:=(hw l (by simp)).1
       have hvar:∃ T vs w,(aG s s.O y.2.1).O l=some (some (.var T vs w)):=by
        obtain ⟨_,_,⟨T1,vs1,w1,ho⟩,_⟩:=hw l (by simp)
        refine ⟨T1,vs1,w1,?_⟩;show bC s.O (aT s.O y.2.1) l=_;rw [kH,ho];intro hm;have hp:∀ {ls:List Nat},l∈eF (aT s.O ls)->∃ E,∃ xs:List (I E),s.O l=some (some (.row E xs false)):=by
         intro ls
         induction ls with
         | nil=>intro h; simp [aT,eF] at h
         | cons a r ih =>
           intro h;simp only [aT] at h;split at h
           ·rename_i E xs e;simp only [eF,iH',ir'] at h;rcases h with rfl | h
            ·exact ⟨E,xs,e⟩
            ·exact ih h
           ·exact ih h
        obtain ⟨E,xs,e⟩:=hp hm;rw [ho] at e; cases e
       obtain ⟨T2,vs2,w2,ho2⟩:=hvar;obtain ⟨b2,cs2,k1,k2,k3,k4,k5⟩:=h3.aL l _ ho2;have hcl:=(hle l hl0).trans e3;rw [k1] at hcl;have hb2:b2=b/\w2=true:=by
        injection hcl with q
        injection q with q1 q2 q3 q4
        injection q1 with q5
        injection q5 with q6
        refine ⟨q6,?_⟩;cases w2
        ·cases q4
        ·rfl
       obtain ⟨rfl,rfl⟩:=hb2;exact ⟨u,je,b2,T,vs,w',cs,e1,e2,e3,by rw [h1]; exact e4,k4 rfl,e6,ih (λl' hl'=>hw l' (by simp [hl'])) e7⟩
  exact key (λl hl=>⟨hl,u3 l hl⟩) u2
 refine ⟨τ,af,us,⟨h1,h2,t1,hcont,At.nodup h3 t2 r1 hl3,λg hg=>?_,λl hl p g hc hw=>?_⟩,y.2.1,h3,λg hg=>?_,λl hl=>(u3 l hl).2.1,λl o e hne=>?_⟩
 ·obtain ⟨l,p,a1,a2,a3⟩:=t2.mem g hg;refine ⟨h3.mine l p g (hl3 l a1) a2 a3,λl' hl' p' hc' hw'=>?_⟩;have e:=h.inj l l' p p' g (by obtain ⟨o,ho,_⟩:=hlive l a1; exact ⟨_,ho⟩) (u3 l' hl').1 a2 ((hle l' hl').trans hc') a3 hw'
  subst e;obtain ⟨o,ho,hrm⟩:=hlive l a1;obtain ⟨_,⟨T,vs,w,ho'⟩,_⟩:=u3 l hl';exact zu l a1 (jR' _ hl')
 ·exact h.mine l p g (u3 l hl).1 ((hle l hl).trans hc) hw
 ·obtain ⟨l,p,a1,a2,a3⟩:=t2.mem g hg;obtain ⟨o,ho,hrm⟩:=hlive l a1;exact ⟨l,p,⟨o,(h6 l (r2 l a1)).trans ho,hrm⟩,a2,a3⟩
 ·show bC s.O (aT s.O y.2.1) l=_;rw [kH,e];intro hm;have hp:∀ {ls:List Nat},l∈eF (aT s.O ls)->∃ E,∃ xs:List (I E),s.O l=some (some (.row E xs false)):=by
   intro ls
   induction ls with
   | nil=>intro h; simp [aT,eF] at h
   | cons a r ih =>
     intro h;simp only [aT] at h;split at h
     ·rename_i E xs e;simp only [eF,iH',ir'] at h;rcases h with rfl | h
      ·exact ⟨E,xs,e⟩
      ·exact ih h
     ·exact ih h
  obtain ⟨E1,mX,e1⟩:=hp hm;rw [e] at e1;cases e1;exact hne _ _ rfl
theorem Gr (ht:aV P tb)(h:Rel X c σ s n F){cb:Cx}{O0:ay I}{S W:List (Nat×V)}{wl:List Nat}(hle:∀ l∈wl,c l=cb l){x:iY I S W}(hg:mH tb O0 S W wl s=some x) :
 ∃ τ af us,τ.w=σ.w/\Stp X.M σ τ/\Facts X.M τ cb O0 F S W wl x af us:=by
 obtain ⟨τ,af,us,h1,_⟩:=Kv ht h hle hg;exact ⟨τ,af,us,h1⟩
end
end Go.Qx
end
section
open List renaming getElem?_append_right->iv',getElem?_drop->jj',getElem?_eq_getElem->in',getElem?_map->jv',getElem_mem->iL',length_cons->iF',length_map->kf',mem_append->iw',mem_cons->ir'
open Nat renaming add_sub_cancel_left->iY',le_refl->ip',le_trans->iz',testBit->jD'
open Option renaming map_eq_some_iff->ja'
namespace Go.Qx
open Go Go.RowKit Go.Sx
section
variable {I:TypeId->Type} [∀ E,Rp (I E)] {P:Program}{tb:aD I}{X X':aY}{c c' cb:Cx}{σ σ0 τ:S}{s sb:St I}{n:Nat}{F F0 F':Fr}{O:ay I}
omit [∀ E,Rp (I E)] in
theorem eY {ls:List Nat}{l:Nat}{o:Ob I}(h:bF ls O l=some (some o)):l ∉ ls/\O l=some (some o):=by
 unfold bF at h;cases hm:bg l ls with
 | true =>rw [hm] at h;simp only [cond_true] at h;split at h<;>cases h
 | false=>rw [hm] at h; exact ⟨jN.1 hm,h⟩
omit [∀ E,Rp (I E)] in
theorem ou {ls:List Nat}{l:Nat}:bF ls O l=none↔O l=none:=by
 unfold bF;cases bg l ls with
 | true =>simp only [cond_true];cases O l<;>simp
 | false=>exact Iff.rfl
omit [∀ E,Rp (I E)] in
theorem Cs {O0:ay I}{l:Nat}{E E':TypeId}{u q:Nat}{zs:List (I E)}:∀ {W:List (Nat×V)} {wl:List Nat} {ps:List (PV I)} {O:ay I},eB O0 W wl ps O l=some (some (.aA E E' u zs q))->O l=some (some (.aA E E' u zs q))
 | [],_,_,_,h=>by unfold eB at h; exact h
 | _::_,[],_,_,h=>by unfold eB at h; exact h
 | _::_,_::_,[],_,h=>by unfold eB at h; exact h
 | x::r,l0::ls,p::ps,O,h=>by
   have key:∀ y:Option (Option (Ob I)),(match y with
    | some (some (.var T _ w))=>eB O0 r ls ps (aZ O l0 (some (.var T (lU x.2 p) w)))
    | _=>eB O0 r ls ps O) l=some (some (.aA E E' u zs q))->O l=some (some (.aA E E' u zs q)):=by
    intro y h;split at h
    ·have h1:=Cs h;rcases bG h1 with ⟨_,e⟩ | ⟨_,h2⟩
     ·cases e
     ·exact h2
    ·exact Cs h
   exact key (O0 l0) h
omit [∀ E,Rp (I E)] in
theorem xZ {O0:ay I}{l:Nat}:∀ {W:List (Nat×V)} {wl:List Nat} {ps:List (PV I)} {O:ay I},l ∉ wl->eB O0 W wl ps O l=O l
 | [],_,_,_,_=>by unfold eB; rfl
 | _::_,[],_,_,_=>by unfold eB; rfl
 | _::_,_::_,[],_,_=>by unfold eB; rfl
 | x::r,l0::ls,p::ps,O,h=>by
   have hne:l≠l0:=λe=>h (by simp [e])
   have hls:l ∉ ls:=λe=>h (by simp [e])
   have key:∀ y:Option (Option (Ob I)),(match y with
    | some (some (.var T _ w))=>eB O0 r ls ps (aZ O l0 (some (.var T (lU x.2 p) w)))
    | _=>eB O0 r ls ps O) l=O l:=by
    intro y;split
    ·rw [xZ hls,bW hne]
    ·exact xZ hls
   exact key (O0 l0)
theorem Rel.eB (ht:aV P tb){c4:Cx}{af:List Pl}(hb:Rel X cb σ0 sb n F0):∀ {W:List (Nat×V)} {wl:List Nat} {us:List Value} {ps:List (PV I)} {s:St I},Rel X c4 τ s n F->gY τ cb sb.O W wl us->ah X c4 τ ps us ->
 (∀ (i:Nat) (x:Nat×V) (p:PV I),W[i]?=some x->ps[i]?=some p->kF x.2=true->(∃ ls:List (PV I),p=PV.agg ls)\/∃ E y,p=PV.dat E y)->(∀ (i:Nat) (x:Nat×V) (p:PV I),W[i]?=some x->ps[i]?=some p->kF x.2=false->kV p=false)->(∀ l∈wl,c4 l=cb l)->(∀ l∈wl,∀ p g,cb l=some p->p.w=some g->X.M g)->(∀ l',aQ s l'->(aQ sb l'/\c4 l'=cb l')\/∃ pl∈af,c4 l'=some pl) ->
 (∀ l∈wl,∀ p,cb l=some p->∀ g,p.w=some g->g ∉ ows af)->(∀ l∈wl,∀ p,cb l=some p->∀ g,p.w=some g->bQ c4 τ s g)->Rel X c4 τ ⟨s.n,s.F,Qx.eB sb.O W wl ps s.O,s.nx⟩ n F
 | [],[],_,ps,s,h,_,_,_,_,_,_,_,_,_=>by cases ps<;>exact h
 | [],_::_,_,_,_,_,hc,_,_,_,_,_,_,_,_=>hc.elim
 | _::_,[],_,_,_,_,hc,_,_,_,_,_,_,_,_=>hc.elim
 | x::r,l::ls,us,ps,s,h,hc,hv,hp,hp2,hcc,hM,hl,hn,hni=>by
   obtain ⟨u,je,b,T,vs,w,cs,e1,e2,e3,e4,e5,e6,e7⟩:=hc;subst e1;cases ps with
   | nil=>simp only [ah] at hv; cases hv
   | cons p ps =>
     simp only [ah] at hv;obtain ⟨v,r',e,hv1,hv2⟩:=hv;cases e;have hw:w=true:=by
      obtain ⟨b',cs',k1,_⟩:=hb.aL l _ e2;rw [k1] at e3;injection e3 with q
      injection q with q1 q2 q3 q4
      cases w
      ·cases q4
      ·rfl
     subst hw;have hcl:c4 l=some ⟨some ⟨b,0,none⟩,0,0,some b⟩:=(hcc l (by simp)).trans e3
     have hnd:kF x.2=false->kV p=false:=λha=>hp2 0 x p rfl rfl ha;have hcont:RG X c4 τ (lU x.2 p) cs:=by
      unfold lU;cases ha:kF x.2 with
      | true =>
        rw [ha] at e6;simp only [cond_true] at e6 ⊢;subst e6;rcases hp 0 x p rfl rfl ha with ⟨ls',rfl⟩ | ⟨E',y',rfl⟩
        ·simp only [RV] at hv1;obtain ⟨cs',q1,q2⟩:=hv1;have:cs=cs':=by
          injection q1 with q1
          have:=congrArg Array.toList q1;simpa using this
         rw [this]; exact q2
        ·simp only [RV] at hv1;obtain ⟨cs',q1,q2⟩:=hv1;have:cs=cs':=by
          injection q1 with q1
          have:=congrArg Array.toList q1;simpa using this
         rw [this]; exact RG.one q2
      | false =>rw [ha] at e6;simp only [cond_false] at e6 ⊢;subst e6;exact RG.single (hnd ha) hv1
     have hrev:Rel X c4 τ (aP s l (some (.var T (lU x.2 p) true))) n F:=by
      refine h.wU ⟨b,cs,hcl,hcont,e4,(λ_=>e5),λe=>by cases e⟩ λq g hq hg=>?_
      rw [hcl] at hq;cases hq;cases hg;refine ⟨hM l (by simp) _ b e3 rfl,hni l (by simp) _ e3 b rfl,λl' p' hne hlv hc' hw'=>?_⟩
      rcases hl l' hlv with ⟨k1,k2⟩ | ⟨pl,k1,k2⟩
      ·rw [k2] at hc';exact hne (hb.inj l' l p' _ b k1 ⟨_,e2⟩ hc' e3 hw' rfl)
      ·rw [k2] at hc';cases hc';exact hn l (by simp) _ e3 b rfl (wM.2 ⟨_,k1,hw'⟩)
     have:=Rel.eB ht (af:=af) hb (W:=r) (wl:=ls) (ps:=ps) hrev e7 hv2 (λi y q h1 h2=>hp (i+1) y q (by simpa using h1) (by simpa using h2)) (λi y q h1 h2=>hp2 (i+1) y q (by simpa using h1) (by simpa using h2)) (λl' hl'=>hcc l' (by simp [hl'])) (λl' hl'=>hM l' (by simp [hl'])) (λl' hlv=>by
      obtain ⟨o,ho⟩:=hlv;rcases bG ho with ⟨e,_⟩ | ⟨_,h'⟩
      ·subst e;exact .inl ⟨⟨_,e2⟩,hcl.trans e3.symm⟩
      ·exact hl l' ⟨o,h'⟩) (λl' hl'=>hn l' (by simp [hl'])) (λl' hl' p' hp' g' hg'=>(hni l' (by simp [hl']) p' hp' g' hg').set)
     simp only [Qx.eB,e2];exact this
omit [∀ E,Rp (I E)] in
theorem Cf {nb:Nat}{v:V}{x:jg I v}(h:kF v=true):(∃ ls,jF tb nb v x=.agg ls)\/∃ E y,jF tb nb v x=.dat E y:=by
 cases v with
 | k k =>
   cases k with
   | d k =>
     cases k with
     | dat E=>exact .inr ⟨E,x,rfl⟩
     | _=>cases h
   | row E fl=>cases h
   | map T kd=>cases h
   | pv T=>cases h
 | bI ks=>exact .inl ⟨_,rfl⟩
omit [∀ E,Rp (I E)] in
theorem AA {nb:Nat}{v:V}{x:jg I v}(h:kF v=false):kV (jF tb nb v x)=false:=by
 cases v with
 | k k =>
   cases k with
   | d k =>
     cases k with
     | dat E=>cases h
     | _=>rfl
   | row E fl=>rfl
   | map T kd=>rfl
   | pv T=>rfl
 | bI ks=>cases h
omit [∀ E,Rp (I E)] in
theorem Bv:∀ {vs:List V} {nb:Nat} {x:dz I vs} {i:Nat} {v:V} {p:PV I},vs[i]?=some v->(bR tb nb vs x)[i]?=some p->∃ nb' y,p=jF tb nb' v y
 | [],_,_,_,_,_,h,_=>by simp at h
 | [_],nb,x,0,_,_,h1,h2=>by simp [bR] at h1 h2;subst h1; subst h2;exact ⟨_,_,rfl⟩
 | [_],_,_,_+1,_,_,h1,_=>by simp at h1
 | v::v'::vs,nb,x,0,_,_,h1,h2=>by simp [bR] at h1 h2;subst h1; subst h2;exact ⟨_,_,rfl⟩
 | v::v'::vs,nb,x,i+1,_,_,h1,h2=>Bv (vs:=v'::vs) (x:=x.2) (by simpa using h1) (by simpa [bR] using h2)
theorem Lf (ht:aV P tb)(hb:Rel X cb σ0 sb n F0){G:Nat->Prop}(st:Stp G σ0 τ)(hG:∀ b,G b->X.M b){m:Nat}(hF:∀ i,jD' m i=false->F i=F0 i){dead wl:List Nat}{S W:List (Nat×V)}{x:iY I S W}{af:List Pl}{us:List Value}
 (hkeep:∀ l p g,aQ sb l->l ∉ wl->l ∉ dead->cb l=some p->p.w=some g->¬ G g) (zx:∀ l i g,l ∉ wl->l ∉ dead->bX cb σ0 sb.O l i g->¬ G g) (hf:Facts G τ cb sb.O F S W wl x af us) (hfree:gI sb.O sb.nx (cO (eZ S W) x)=true) :
 Cx.le cb (cZ cb sb.nx af)/\Rel X (cZ cb sb.nx af) τ (jP tb sb m dead S W wl x) n F/\(∀ g,G g->bQ (cZ cb sb.nx af) τ (jP tb sb m dead S W wl x) g) /\
  (∀ l,aQ (jP tb sb m dead S W wl x) l->l∈wl\/(sb.O l=none/\∃ pl∈af,cZ cb sb.nx af l=some pl)\/(aQ sb l/\l ∉ wl/\l ∉ dead))/\∀ l,sb.O l≠none->cZ cb sb.nx af l=cb l:=by
 have h1:Rel X cb σ0 ⟨sb.n,nI m sb.F,bF (wl++dead) sb.O,sb.nx⟩ n F :=
  (hb.less (O':=bF (wl++dead) sb.O) (λl o h=>(eY h).2) (λl h=>ou.1 h)).Qd λi p hp=>by
    unfold nI at hp;cases hm:jD' m i with
    | true=>rw [hm] at hp; cases hp
    | false=>rw [hm] at hp; exact ⟨hp,hF i hm⟩
 have hn1:∀ l p g,aQ (⟨sb.n,nI m sb.F,bF (wl++dead) sb.O,sb.nx⟩:St I) l->cb l=some p->p.w=some g->¬ G g:=λl p g ⟨o,ho⟩ hc hw=>by obtain ⟨k1,k2⟩:=eY ho;rw [iw',not_or] at k1;exact hkeep l p g ⟨o,k2⟩ k1.1 k1.2 hc hw
 have hi1:∀ g,G g->bQ cb σ0 (⟨sb.n,nI m sb.F,bF (wl++dead) sb.O,sb.nx⟩:St I) g:=λg hg l i ⟨E',v,⟨E,u,xs,q,g',kk,m',w,k1,k2⟩,k3⟩=>by obtain ⟨z1,z2⟩:=eY k1;rw [iw',not_or] at z1;exact zx l i g z1.1 z1.2 ⟨E',v,⟨E,u,xs,q,g',kk,m',w,z2,k2⟩,k3⟩ hg
 have h2:Rel X cb τ ⟨sb.n,nI m sb.F,bF (wl++dead) sb.O,sb.nx⟩ n F:=h1.stepG st hG hn1 hi1;have hfree':gI (bF (wl++dead) sb.O) sb.nx (cO (eZ S W) x)=true:=by rw [kK] at hfree ⊢;exact λl hl=>ou.2 (hfree l hl)
 obtain ⟨h3,h4⟩:=Rel.addN h2 hfree' (ql hf.tt) hf.nodup λg hg=>⟨hG g (hf.own g hg).1,(hi1 g (hf.own g hg).1).step h1 st hn1 hi1,λl p ⟨o,ho⟩ hc hw=>by obtain ⟨k1,k2⟩:=eY ho;rw [iw',not_or] at k1;exact hkeep l p g ⟨o,k2⟩ k1.1 k1.2 hc hw (hf.own g hg).1⟩
 refine ⟨h3,?_⟩;have dC':∀ l E E' u zs q,(jP tb sb m dead S W wl x).O l=some (some (.aA E E' u zs q))->bF (wl++dead) sb.O l=some (some (.aA E E' u zs q)):=λl E E' u zs q e=>o6 (ql hf.tt).not _ _ _ _ _ _ (Cs e);obtain ⟨hps,hlen⟩:=uU (X:=X) (c:=cZ cb sb.nx af) (nb:=sb.nx) ht hf.tt ko;have Qg:(S.map λy=>F y.1).length=S.length:=by simp
 have htk:=ah.take S.length _ _ hps;have hdr:=ah.drop S.length _ _ hps;rw [List.take_left' Qg] at htk;rw [List.drop_left' Qg] at hdr;have hold:∀ l,sb.O l≠none->cZ cb sb.nx af l=cb l:=λl hl=>by
  have dD:=ql hf.tt;have key:∀ {ps:List Pl} {c:Cx} {nb:Nat},(l<nb\/nb+ps.length<=l)->cZ c nb ps l=c l:=by
   intro ps
   induction ps with
   | nil=>intro c nb _; rfl
   | cons p ps ih =>
     intro c nb h;simp only [cZ];rw [ih (by simp only [iF'] at h; omega)]
     have:l≠nb:=by simp only [iF'] at h; omega
     simp [dw,this]
  apply key;apply Classical.byContradiction;intro hn;rw [not_or] at hn;rw [kK] at hfree;exact hl (hfree l (iQ.2 ⟨by omega,by rw [dD.1]; omega⟩))
 have dD':∀ {W:List (Nat×V)} {wl:List Nat} {us:List Value},gY τ cb sb.O W wl us->∀ l∈wl,aQ sb l:=by
  intro W
  induction W with
  | nil =>
    intro wl us hc l hl;cases wl with
    | nil=>cases hl
    | cons=>exact hc.elim
  | cons w r ih =>
    intro wl us hc l hl;cases wl with
    | nil=>exact hc.elim
    | cons a ie' =>
      obtain ⟨u,je,b,T,vs,w',cs,e1,e2,e3,e4,e5,e6,e7⟩:=hc;rcases ir'.1 hl with rfl | hl
      ·exact ⟨_,e2⟩
      ·exact ih e7 l hl
 have CS:∀ {W:List (Nat×V)} {wl:List Nat} {us:List Value},gY τ cb sb.O W wl us->∀ l∈wl,sb.O l≠none:=by
  intro W
  induction W with
  | nil =>
    intro wl us hc l hl;cases wl with
    | nil=>cases hl
    | cons=>exact hc.elim
  | cons w r ih =>
    intro wl us hc l hl;cases wl with
    | nil=>exact hc.elim
    | cons a ie' =>
      obtain ⟨u,je,b,T,vs,w',cs,e1,e2,e3,e4,e5,e6,e7⟩:=hc;rcases ir'.1 hl with rfl | hl
      ·rw [e2]; simp
      ·exact ih e7 l hl
 have hat:∀ (i:Nat) (y:Nat×V) (p:PV I),W[i]?=some y->((bR tb sb.nx (eZ S W) x).drop S.length)[i]?=some p->∃ nb' z,p=jF tb nb' y.2 z:=λi y p hi hp=>by
  refine Bv (tb:=tb) (vs:=eZ S W) (nb:=sb.nx) (x:=x) (i:=S.length+i) (v:=y.2) ?_ ?_
  ·rw [iv' (by simp),kf',iY',jv',hi]; rfl
  ·rw [jj'] at hp; exact hp
 have h5:=Rel.eB (af:=af) ht hb h4 hf.cont hdr (λi y p hi hp ha=>by
  obtain ⟨nb',z,e⟩:=hat i y p hi hp;rw [e]; exact Cf ha) (λi y p hi hp ha=>by
  obtain ⟨nb',z,e⟩:=hat i y p hi hp;rw [e]; exact AA ha)
  (λl hl=>hold l (CS hf.cont l hl)) (λl hl p g hp hg=>hG g (hf.CR l hl p g hp hg)) (λl ⟨o,ho⟩=>by
    by_cases hr:l∈dL sb.nx (cO (eZ S W) x).length
    ·right;obtain ⟨a1,a2⟩:=iQ.1 hr;have hlt:l-sb.nx<af.length:=by rw [<- (ql hf.tt).1]; omega
     refine ⟨af[l-sb.nx],iL' _,?_⟩;have:=ko (c:=cb) (nb:=sb.nx) (l-sb.nx) af[l-sb.nx] (in' hlt);rw [show sb.nx+(l-sb.nx)=l from by omega] at this
     exact this
    ·left;have ho':bV (bF (wl++dead) sb.O) sb.nx (cO (eZ S W) x) l=some (some o):=ho;rw [ig hr] at ho';obtain ⟨_,k2⟩:=eY ho';exact ⟨⟨o,k2⟩,hold l (by rw [k2]; simp)⟩)
  (λl hl p hp g hg hm=>(hf.own g hm).2 l hl p hp hg)
  (λl hl p hp g hg=>(((hb.owned (dD' hf.cont l hl) hp hg).sub (λl' E E' u xs q e=>(eY e).2)).step h1 st hn1 hi1).grow h2 h3 (o6 (ql hf.tt).not))
 have h6:=Rel.rR h5 htk;refine ⟨⟨h6.len,h6.frame,h6.aL,h6.inj,h6.mine,h6.fq,h6.base,h6.aA⟩,λg hg=>((hi1 g hg).step h1 st hn1 hi1).grow h2 h3 dC',λl ⟨o,ho⟩=>?_,hold⟩;by_cases pJ:l∈wl
 ·exact .inl pJ
 ·have ho':eB sb.O W wl ((bR tb sb.nx (eZ S W) x).drop S.length) (bV (bF (wl++dead) sb.O) sb.nx (cO (eZ S W) x)) l=some (some o):=ho;rw [xZ pJ] at ho';by_cases hr:l∈dL sb.nx (cO (eZ S W) x).length
  ·right; left;obtain ⟨a1,a2⟩:=iQ.1 hr;have hlt:l-sb.nx<af.length:=by rw [<- (ql hf.tt).1]; omega
   refine ⟨(kK.1 hfree) l hr,af[l-sb.nx],iL' _,?_⟩;have:=ko (c:=cb) (nb:=sb.nx) (l-sb.nx) af[l-sb.nx] (in' hlt);rw [show sb.nx+(l-sb.nx)=l from by omega] at this
   exact this
  ·rw [ig hr] at ho';obtain ⟨k1,k2⟩:=eY ho';rw [iw',not_or] at k1;exact .inr (.inr ⟨⟨o,k2⟩,k1.1,k1.2⟩)
theorem build (ht:aV P tb)(hb:Rel X cb σ0 sb n F0){G:Nat->Prop}(st:Stp G σ0 τ)(hG:∀ b,G b->X.M b){m:Nat}(hF:∀ i,jD' m i=false->F i=F0 i){dead wl:List Nat}{S W:List (Nat×V)}{x:iY I S W}{af:List Pl}{us:List Value}
 (hkeep:∀ l p g,aQ sb l->l ∉ wl->l ∉ dead->cb l=some p->p.w=some g->¬ G g) (zx:∀ l i g,l ∉ wl->l ∉ dead->bX cb σ0 sb.O l i g->¬ G g) (hf:Facts G τ cb sb.O F S W wl x af us) (hfree:gI sb.O sb.nx (cO (eZ S W) x)=true) :
 Cx.le cb (cZ cb sb.nx af)/\Rel X (cZ cb sb.nx af) τ (jP tb sb m dead S W wl x) n F:=by
 obtain ⟨h1,h2,_⟩:=Lf (m:=m) ht hb st hG hF hkeep zx hf hfree;exact ⟨h1,h2⟩
def bA (own:List Nat)(c:Cx):Cx:=λl=>bif bg l own then c l else (c l).map λp=>⟨p.A,p.k,p.m,none⟩
def bU (X:aY)(c:Cx)(σ:S)(s:St I)(own:List Nat):aY:=⟨X.P,σ.N,λb=>∃ l∈own,aQ s l/\((∃ p,c l=some p/\p.w=some b)\/∃ i,bX c σ s.O l i b)⟩
mutual
theorem RV.conv (hP:X'.P=X.P)(hM:∀ b,X'.M b->X.M b)(hc:∀ l p,c l=some p->∃ w,c' l=some ⟨p.A,p.k,p.m,w⟩):∀ (p:PV I) (v:Value),RV X c σ p v->RV X' c' σ p v
 | .int _ _,_,h=>by simp only [RV] at h ⊢; exact h
 | .bool _,_,h=>by simp only [RV] at h ⊢; exact h
 | .str _,_,h=>by simp only [RV] at h ⊢; exact h
 | .sl _ _ _,_,h=>by simp only [RV] at h ⊢; exact h
 | .nl _,_,h=>by simp only [RV] at h ⊢; exact h
 | .ptr l _,_,h=>by simp only [RV] at h ⊢;obtain ⟨b,w,h1,h2⟩:=h;obtain ⟨w',h3⟩:=hc _ _ h1;exact ⟨b,w',h3,h2⟩
 | .vw l,_,h=>by simp only [RV] at h ⊢;obtain ⟨p,h1,h2⟩:=h;obtain ⟨w',h3⟩:=hc _ _ h1;exact ⟨_,h3,h2⟩
 | .vp l _ _ _,_,h=>by simp only [RV] at h ⊢;obtain ⟨b,q,k,m,w,h1,h2⟩:=h;obtain ⟨w',h3⟩:=hc _ _ h1;exact ⟨b,q,k,m,w',h3,h2⟩
 | .vs l _ _,_,h=>by simp only [RV] at h ⊢;obtain ⟨b,k,m,w,h1,h2⟩:=h;obtain ⟨w',h3⟩:=hc _ _ h1;exact ⟨b,k,m,w',h3,h2⟩
 | .av l _ _,_,h=>by simp only [RV] at h ⊢;obtain ⟨b,k,m,w,h1,h2⟩:=h;obtain ⟨w',h3⟩:=hc _ _ h1;exact ⟨b,k,m,w',h3,h2⟩
 | .mp l,_,h=>by simp only [RV] at h ⊢;obtain ⟨b,w,h1,h2⟩:=h;obtain ⟨w',h3⟩:=hc _ _ h1;exact ⟨b,w',h3,h2⟩
 | .ep _ _ _,_,h=>by simp only [RV] at h ⊢; exact h
 | .dat _ _,_,h=>by simp only [RV] at h ⊢; exact h
 | .lD _ ls,_,h=>by simp only [RV] at h ⊢;obtain ⟨cs,e,hl⟩:=h;exact ⟨cs,e,ah.conv hP hM hc ls cs hl⟩
 | .o8 _ ls,_,h=>by simp only [RV] at h ⊢;obtain ⟨cs,e,hl⟩:=h;exact ⟨cs,e,ah.conv hP hM hc ls cs hl⟩
 | .fn _ _ _,_,h=>by simp only [RV] at h ⊢;obtain ⟨f,ie',cs,e,hf⟩:=h;exact ⟨f,ie',cs,e,by rw [hP]; exact hf.1,hf.2.1,λτ hτ=>by rw [hP]; exact hf.2.2 τ (hτ.mono λb _ hb=>hM b hb)⟩
 | .agg ls,_,h=>by simp only [RV] at h ⊢;obtain ⟨cs,e,hl⟩:=h;exact ⟨cs,e,RG.conv hP hM hc ls cs hl⟩
 | .lF ls,_,h=>by simp only [RV] at h ⊢;obtain ⟨cs,e,hl⟩:=h;exact ⟨cs,e,ah.conv hP hM hc ls cs hl⟩
 | .undef,_,h=>by simp only [RV] at h ⊢; exact h
 | .any,_,_=>by simp only [RV]
theorem ah.conv (hP:X'.P=X.P)(hM:∀ b,X'.M b->X.M b)(hc:∀ l p,c l=some p->∃ w,c' l=some ⟨p.A,p.k,p.m,w⟩):∀ (ps:List (PV I)) (cs:List Value),ah X c σ ps cs->ah X' c' σ ps cs
 | [],_,h=>by simp only [ah] at h ⊢; exact h
 | p::ps,_,h=>by simp only [ah] at h ⊢;obtain ⟨v,r,e,h1,h2⟩:=h;exact ⟨v,r,e,RV.conv hP hM hc p v h1,ah.conv hP hM hc ps r h2⟩
theorem RG.conv (hP:X'.P=X.P)(hM:∀ b,X'.M b->X.M b)(hc:∀ l p,c l=some p->∃ w,c' l=some ⟨p.A,p.k,p.m,w⟩):∀ (ps:List (PV I)) (cs:List Value),RG X c σ ps cs->RG X' c' σ ps cs
 | [],_,h=>by simp only [RG] at h ⊢; exact h
 | p::ps,_,h=>by
   simp only [RG] at h ⊢;obtain ⟨a,r,e,h1,h2⟩:=h;refine ⟨a,r,e,?_,RG.conv hP hM hc ps r h2⟩
   rcases h1 with h1 | ⟨h0,v,e1,h1⟩
   ·exact .inl h1
   ·exact .inr ⟨h0,v,e1,RV.conv hP hM hc p v h1⟩
end
theorem nQ (h:Rel X c σ s n F)(own:List Nat):∀ b,(bU X c σ s own).M b->X.M b:=λb hb=>by
 rcases hb with hb | ⟨l,_,hl,⟨p,hc,hw⟩ | ⟨i,hb⟩⟩
 ·exact .inl (iz' h.base.1 hb)
 ·exact h.mine l p b hl hc hw
 ·exact h.aA.mine l i b hb
theorem qd (h:Rel X c σ s n F){own:List Nat}{l:Nat}{p:Pl}{g:Nat}(hl:aQ s l)(hn:l ∉ own)(hc:c l=some p)(hw:p.w=some g):¬ (bU X c σ s own).M g:=λhb=>by
 obtain ⟨o,ho⟩:=hl;have hlt:=(h.aL l o ho).lt hc hw;rcases hb with hb | ⟨l',hl',hlv,⟨p',hc',hw'⟩ | ⟨i,hb⟩⟩
 ·have:σ.N<=g:=hb;omega
 ·exact hn (by rw [h.inj l l' p p' g ⟨o,ho⟩ hlv hc hc' hw hw']; exact hl')
 ·exact h.aA.free l' i g hb l o p ho hc hw
theorem BD (h:Rel X c σ s n F){own:List Nat}{l i g:Nat}(hn:l ∉ own)(hb:bX c σ s.O l i g):¬ (bU X c σ s own).M g:=λhb'=>by
 have hlt:=h.aA.lt hb;rcases hb' with hb' | ⟨l',hl',hlv,⟨p',hc',hw'⟩ | ⟨i',hb'⟩⟩
 ·have:σ.N<=g:=hb';omega
 ·obtain ⟨o,ho⟩:=hlv;exact h.aA.free l i g hb l' o p' ho hc' hw'
 ·exact hn (by rw [(h.aA.inj l' i' g l i hb' hb).1]; exact hl')
omit [∀ E,Rp (I E)] in
theorem OI {own:List Nat}{l:Nat}{E E':TypeId}{u q:Nat}{xs:List (I E)}(e:eP own O l=some (some (.aA E E' u xs q))):l∈own/\O l=some (some (.aA E E' u xs q)):=by
 unfold eP at e;cases hm:bg l own with
 | true=>rw [hm] at e; exact ⟨gM.1 hm,e⟩
 | false =>rw [hm] at e;simp only [cond_false] at e;split at e<;>first | cases e | (rename_i e1 e2 e3 e4 e5; exact absurd e (e4 E E' u xs q))
theorem EM {own:List Nat}{l i g:Nat}{c:Cx}(h:bX c σ (jk own s).O l i g):l∈own:=by obtain ⟨E',v,⟨E,u,xs,q,g',kk,m,w,k1,_⟩,_⟩:=h;exact (OI k1).1
theorem enter (h:Rel X c σ s n F)(own:List Nat):Rel (bU X c σ s own) (bA own c) σ (jk own s) n F:=by
 have hcv:∀ l p,c l=some p->∃ w,bA own c l=some ⟨p.A,p.k,p.m,w⟩:=λl p hp=>by
  unfold bA;cases bg l own with
  | true=>exact ⟨p.w,by simp only [cond_true,hp]⟩
  | false=>exact ⟨none,by simp only [cond_false,hp]; rfl⟩
 have hM:=nQ h own;have hcw:∀ {l p g},bA own c l=some p->p.w=some g->l∈own/\c l=some p:=λ{l p g} hc hw=>by
  unfold bA at hc;cases hm:bg l own with
  | true=>rw [hm] at hc; exact ⟨gM.1 hm,hc⟩
  | false =>rw [hm] at hc;simp only [cond_false,ja'] at hc;obtain ⟨q,_,e⟩:=hc;rw [<- e] at hw;cases hw
 have hlv:∀ {l},l∈own->aQ (jk own s) l->aQ s l:=λ{l} hm ⟨o,ho⟩=>by refine ⟨o,?_⟩;have ho':eP own s.O l=some (some o):=ho;unfold eP at ho';rw [gM.2 hm] at ho';exact ho'
 refine ⟨h.len,λi p hp=>RV.conv (X:=X) (X':=bU X c σ s own) (c:=c) rfl hM hcv p _ (h.frame i p hp),λl o ho=>?_,λl l' p p' b a1 a2 a3 a4 a5 a6=>?_,λl p b a1 a2 a3=>?_,λl hl=>?_,⟨ip' _,λE=>iz' (h.base.2 E) h.base.1⟩,?_⟩
 ·have ho':eP own s.O l=some (some o):=ho;unfold eP at ho';cases hm:bg l own with
  | true =>
    rw [hm] at ho';simp only [cond_true] at ho';have hcl:bA own c l=c l:=by unfold bA; rw [hm]; rfl
    have:=h.aL l o ho';cases o with
    | var T ls w =>obtain ⟨b,cs,k1,k2,k3,k4,k5⟩:=this;exact ⟨b,cs,hcl.trans k1,RG.conv (X:=X) (X':=bU X c σ s own) (c:=c) rfl hM hcv _ _ k2,k3,k4,λe hb=>k5 e (hM b hb)⟩
    | row E xs fl =>obtain ⟨A,k,ow,k1,k2⟩:=this;exact ⟨A,k,ow,hcl.trans k1,k2⟩
    | aA E E' u xs q =>obtain ⟨A,k,ow,k1,k2⟩:=this;exact ⟨A,k,ow,hcl.trans k1,k2⟩
    | map T kd m =>obtain ⟨b,k1,k2⟩:=this;exact ⟨b,hcl.trans k1,k2⟩
    | dO T kd m =>obtain ⟨b,k1,k2,k3⟩:=this;exact ⟨b,hcl.trans k1,k2,λhb=>k3 (hM b hb)⟩
    | ro E xs =>obtain ⟨A,k,k1,k2⟩:=this;exact ⟨A,k,hcl.trans k1,k2⟩
    | bo E xs =>obtain ⟨A,k,k1,k2⟩:=this;exact ⟨A,k,hcl.trans k1,k2.sub λb _=>hM b⟩
  | false =>
    have hnm:=jN.1 hm;rw [hm] at ho';simp only [cond_false] at ho';have hcl:∀ {p},c l=some p->bA own c l=some ⟨p.A,p.k,p.m,none⟩:=λhp=>by unfold bA; rw [hm,hp]; rfl
    split at ho'
    ·rename_i T ls w e;cases ho';obtain ⟨b,cs,k1,k2,k3,k4,k5⟩:=h.aL l _ e;refine ⟨b,cs,hcl k1,RG.conv (X:=X) (X':=bU X c σ s own) (c:=c) rfl hM hcv _ _ k2,k3,(λe=>by cases e),λ_=>?_⟩
     cases w with
     | true=>exact qd h ⟨_,e⟩ hnm k1 rfl
     | false=>exact λhb=>k5 rfl (hM b hb)
    ·rename_i E xs e;cases ho';obtain ⟨A,k,ow,k1,k2⟩:=h.aL l _ e;exact ⟨A,k,hcl k1,k2.sl⟩
    ·cases ho'
    ·cases ho'
    ·rename_i T kd m e;cases ho';obtain ⟨b,k1,k2⟩:=h.aL l _ e;exact ⟨b,hcl k1,k2,qd h ⟨_,e⟩ hnm k1 rfl⟩
    ·rename_i e1 e2 e3 e4 e5;cases o with
     | var T ls w=>exact absurd ho' (e1 T ls w)
     | row E xs fl =>
       cases fl with
       | true=>exact absurd ho' (e2 E xs)
       | false=>exact absurd ho' (e3 E xs)
     | aA E E' u xs q=>exact absurd ho' (e4 E E' u xs q)
     | map T kd m=>exact absurd ho' (e5 T kd m)
     | dO T kd m =>obtain ⟨b,k1,k2,k3⟩:=h.aL l _ ho';exact ⟨b,hcl k1,k2,λhb=>k3 (hM b hb)⟩
     | ro E xs =>obtain ⟨A,k,k1,k2⟩:=h.aL l _ ho';exact ⟨A,k,hcl k1,k2⟩
     | bo E xs =>obtain ⟨A,k,k1,k2⟩:=h.aL l _ ho';exact ⟨A,k,hcl k1,k2.sub λb _=>hM b⟩
 ·obtain ⟨m1,n1⟩:=hcw a3 a5;obtain ⟨m2,n2⟩:=hcw a4 a6;exact h.inj l l' p p' b (hlv m1 a1) (hlv m2 a2) n1 n2 a5 a6
 ·obtain ⟨m1,n1⟩:=hcw a2 a3;exact .inr ⟨l,m1,hlv m1 a1,.inl ⟨p,n1,a3⟩⟩
 ·have hl':eP own s.O l=none:=hl;have:s.O l=none:=by
   unfold eP at hl';cases hm:bg l own with
   | true=>rw [hm] at hl'; exact hl'
   | false =>rw [hm] at hl';simp only [cond_false] at hl';split at hl'<;>first | cases hl' | exact hl'
  unfold bA;rw [h.fq l this];cases bg l own<;>rfl
 ·have hnt:∀ {l E E' u xs q},eP own s.O l=some (some (.aA E E' u xs q))->l∈own/\s.O l=some (some (.aA E E' u xs q)):=λe=>OI e;have hcl:∀ {l},l∈own->bA own c l=c l:=λhm=>by unfold bA; rw [gM.2 hm]; rfl
  have hI:∀ {l i E' v},eD (bA own c) σ (eP own s.O) l i E' v->l∈own/\eD c σ s.O l i E' v:=λ⟨E,u,xs,q,g,kk,m,w,h1,h2,h3⟩=>⟨(hnt h1).1,E,u,xs,q,g,kk,m,w,(hnt h1).2,by rw [<- hcl (hnt h1).1]; exact h2,h3⟩
  have hB:∀ {l i b},bX (bA own c) σ (eP own s.O) l i b->l∈own/\bX c σ s.O l i b:=λ⟨E',v,h1,h2⟩=>⟨(hI h1).1,E',v,(hI h1).2,h2⟩;refine ⟨λl E E' u xs q hl i hi hq=>?_,λl i b hb=>?_,λl i b hb l' o p' ho' hc' hw'=>?_,λl i b l' i' h1 h2=>h.aA.inj l i b l' i' (hB h1).2 (hB h2).2⟩
  ·obtain ⟨v,⟨E1,u1,mX,q1,g,kk,m,w,h1,h2,h3⟩,k2⟩:=h.aA.opn l E E' u xs q (hnt hl).2 i hi hq;rw [(hnt hl).2] at h1;cases h1;exact ⟨v,⟨E,u,xs,q,g,kk,m,w,hl,by rw [hcl (hnt hl).1]; exact h2,h3⟩,k2⟩
  ·have hb':=hB hb;obtain ⟨E',v,⟨E,u,xs,q,g,kk,m,w,h1,_⟩,_⟩:=hb'.2;exact .inr ⟨l,hb'.1,⟨_,h1⟩,.inr ⟨i,hb'.2⟩⟩
  ·obtain ⟨m1,n1⟩:=hcw hc' hw';obtain ⟨o',ho2⟩:=hlv m1 ⟨o,ho'⟩;exact h.aA.free l i b (hB hb).2 l' o' p' ho2 n1 hw'
end
end Go.Qx
end
section
open Bool renaming and_eq_true->ik',not_eq_true'->ju'
open List renaming all_eq_true->iu',length_append->iq',mem_append->iw',mem_cons->ir',mem_of_getElem?->jF'
open Nat renaming beq->il',ble->iX',blt->iG',eq_of_beq_eq_true->ii',testBit->jD'
open Option renaming map_eq_some_iff->ja'
namespace Go.Qx
open Go Go.RowKit Go.Sx
inductive Ex where
 | normal
 | exit (i:Nat)
 | ret
def gy:Ex->Exit
 | .normal=>.normal
 | .exit i=>.exit i
 | .ret=>.ret
def oN:Ex->Ex->Bool
 | .normal,.normal=>true
 | .exit i,.exit j=>il' i j
 | .ret,.ret=>true
 | _,_=>false
theorem wE {a b:Ex}(h:oN a b=true):a=b:=by cases a<;>cases b<;>first | rfl | cases h | (have:=ii' h; subst this; rfl)
structure JH where
 m:Nat
 pub:List Nat
 W:List (Nat×V)
 outs:List (Ex×List (Nat×V))
structure LH (I:TypeId->Type) where
 m:Nat
 pub:List Nat
 W:List (Nat×V)
 head:List (Nat×V)
 outs:List (Ex×List (Nat×V))
 bound:St I->Option Nat
inductive KO where
 | row (E:TypeId)
 | map (T:TypeId) (kd:Kd)
abbrev rZ (I:TypeId->Type):KO->Type
 | .row E=>List (I E)
 | .map _ kd=>List (ByteArray×Ty I kd)
structure KH (I:TypeId->Type) where
 m:Nat
 t:Nat
 E:KO
 S:List (Nat×V)
 outs:List (Ex×List (Nat×V))
 bound:St I->Option Nat
 i:Nat:=0
structure NH (I:TypeId->Type) where
 L:LH I
 t:Nat
 E:TypeId
structure Hints (I:TypeId->Type) where
 spl:Nat->List Nat
 pre:Nat->List Nat
 join:Nat->Option JH
 loop:Nat->Option (LH I)
 keep:Nat->Option (KH I)
 aA:Nat->Option (NH I):=λ_=>none
 Qh:Nat->Nat:=λ_=>0
inductive HE (I:TypeId->Type) where
 | s (i:Nat) (l:List Nat)
 | p (i:Nat) (l:List Nat)
 | j (i:Nat) (h:JH)
 | l (i:Nat) (h:LH I)
 | k (i:Nat) (h:KH I)
 | n (i:Nat) (h:NH I)
 | u (i m:Nat)
def rF {α β:Type}(f:α->Option β):List α->Option β
 | []=>none
 | x::r=>match f x with
   | some y=>some y
   | none=>rF f r
def aI {I:TypeId->Type}(l:List (HE I)):Hints I where
 spl i:=(rF (λ| .s j x=>bif il' j i then some x else none | _=>none) l).getD []
 pre i:=(rF (λ| .p j x=>bif il' j i then some x else none | _=>none) l).getD []
 join i:=rF (λ| .j j x=>bif il' j i then some x else none | _=>none) l
 loop i:=rF (λ| .l j x=>bif il' j i then some x else none | _=>none) l
 keep i:=rF (λ| .k j x=>bif il' j i then some x else none | _=>none) l
 aA i:=rF (λ| .n j x=>bif il' j i then some x else none | _=>none) l
 Qh i:=(rF (λ| .u j x=>bif il' j i then some x else none | _=>none) l).getD 0
def Nt (x:Nat)(l:List Nat):List Nat:=bif bg x l then l else x::l
def Dw (T:List (List Nat)):List Edge->List Nat
 | []=>[]
 | e::r=>bif Region.binds .any e then Nt e.on ((lQ T e.on).foldr Nt (Dw T r)) else Dw T r
def Gb (ops:List Oper):List (List Nat):=ops.foldl (λT o=>T++[Dw T o.after.toList]) []
def mJ (S:List (Nat×V)):List (Nat×V):=S.filter λx=>iG' x.1 1000000
def mP (W S:List (Nat×V)):List (Nat×V):=W.map λx=>match S.find? (λy=>il' y.1 (x.1+1000000)) with
 | some y=>(x.1,y.2)
 | none=>x
abbrev qW (I:TypeId->Type)(W:List (Nat×V)):List (Ex×List (Nat×V))->Type
 | []=>Empty
 | [o]=>iY I (mJ o.2) (mP W o.2)
 | o::o'::r=>Sum (iY I (mJ o.2) (mP W o.2)) (qW I W (o'::r))
def jR (outs:List (Ex×List (Nat×V))):List Nat:=outs.flatMap λo=>o.2.map (·.1)
section
variable {I:TypeId->Type} [∀ E,Rp (I E)]
def inj (tb:aD I)(O0:ay I)(W:List (Nat×V))(wl:List Nat):(outs:List (Ex×List (Nat×V)))->Ex->St I->Option (qW I W outs)
 | [],_,_=>none
 | [o],e,s=>bif oN o.1 e then mH tb O0 (mJ o.2) (mP W o.2) wl s else none
 | o::o'::r,e,s=>bif oN o.1 e then (mH tb O0 (mJ o.2) (mP W o.2) wl s).bind λx=>some (.inl x) else (inj tb O0 W wl (o'::r) e s).bind λy=>some (.inr y)
def lY (sb:St I)(S W:List (Nat×V)):Bool:=xw sb.O sb.nx (vH (eZ S W))
def out (tb:aD I)(sb:St I)(m:Nat)(dead:List Nat)(W:List (Nat×V))(wl:List Nat){ρ:Type}(k:Ex->St I->Option ρ):(outs:List (Ex×List (Nat×V)))->qW I W outs->Option ρ
 | [],_=>none
 | [o],x=>bif lY sb (mJ o.2) (mP W o.2) then k o.1 (jP tb sb m dead (mJ o.2) (mP W o.2) wl x) else none
 | o::o'::r,b=>bB (λx=>bif lY sb (mJ o.2) (mP W o.2) then k o.1 (jP tb sb m dead (mJ o.2) (mP W o.2) wl x) else none) (λy=>out tb sb m dead W wl k (o'::r) y) b
abbrev jH (I:TypeId->Type):=(ρ:Type)->St I->(Ex->St I->Option ρ)->Option ρ
def kC (s:St I)(ts:List Nat):List Nat:=ji s.F ts++nest s.O (ji s.F ts)
def sF (tb:aD I)(H:Hints I)(p:Nat)(core:jH I):jH I:=λρ s k=>match H.join p with
 | none=>core ρ s k
 | some j =>
   let s0:=aG s s.O (kC s j.pub)
   (wJ s0 j.W).bind λwl =>
   let dead:=wN s0 (jR j.outs) wl
   (core (qW I j.W j.outs) (jk (wl++dead) s0) λe s'=>inj tb s0.O j.W wl j.outs e s').bind λb=>out tb s0 j.m dead j.W wl k j.outs b
def Vm (tb:aD I)(L:LH I)(O0:ay I)(wl:List Nat):Ex->St I->Option (Fl (iY I L.head L.W) (qW I L.W L.outs))
 | .normal,s'=>(mH tb O0 L.head L.W wl s').bind λx'=>some (.next x')
 | e,s'=>(inj tb O0 L.W wl L.outs e s').bind λb=>some (.done b)
def G5 (tb:aD I)(L:LH I)(body:jH I):jH I:=λ_ s k =>
 let s0:=aG s s.O (kC s L.pub)
 (wJ s0 L.W).bind λwl =>
 let dead:=wN s0 (L.head.map (·.1)++jR L.outs) wl
 let sr:=jk (wl++dead) s0
 bif lY sr L.head L.W then
 (mH tb s0.O L.head L.W wl sr).bind λx0 =>
 (L.bound s).bind λbd =>
 (aB (λx=>body (Fl (iY I L.head L.W) (qW I L.W L.outs)) (jP tb sr L.m dead L.head L.W wl x) (Vm tb L s0.O wl)) bd x0).bind λb=>out tb s0 L.m dead L.W wl k L.outs b else none
abbrev oV (I:TypeId->Type)(S:List (Nat×V))(E:KO):Type:=dz I (S.map (·.2))×rZ I E
abbrev sP (I:TypeId->Type)(E:KO):List (Ex×List (Nat×V))->Type
 | []=>Empty
 | [o]=>oV I o.2 E
 | o::o'::r=>Sum (oV I o.2 E) (sP I E (o'::r))
def oO:(o:KO)->rZ I o->Ob I
 | .row E,x=>.row E x false
 | .map T kd,x=>.map T kd x
def FQ (O:ay I)(l:Nat):(o:KO)->Option (rZ I o)
 | .row E=>match O l with
   | some (some (.row E' xs false))=>gG E E' xs
   | _=>none
 | .map T kd=>match O l with
   | some (some (.map T' _ m))=>ku (T:=T) (T':=T') (kd:=kd) m
   | _=>none
def sI (tb:aD I)(E:KO)(l:Nat)(S:List (Nat×V))(s:St I):Option (oV I S E) :=
 (Bt s S).bind λps=>(fM tb (λ_=>none) (S.map (·.2)) ps).bind λx=>bif iR x.2.1&&iR x.2.2 then (FQ s.O l E).bind λys=>some (x.1,ys) else none
def sS (tb:aD I)(s0:St I)(m l:Nat)(E:KO)(S:List (Nat×V))(x:oV I S E):St I:=⟨s0.n,rR S (bR tb s0.nx (S.map (·.2)) x.1) (nI m s0.F),aZ s0.O l (some (oO E x.2)),s0.nx⟩
def vJ (tb:aD I)(E:KO)(l:Nat):(outs:List (Ex×List (Nat×V)))->Ex->St I->Option (sP I E outs)
 | [],_,_=>none
 | [o],e,s=>bif oN o.1 e then sI tb E l o.2 s else none
 | o::o'::r,e,s=>bif oN o.1 e then (sI tb E l o.2 s).bind λx=>some (.inl x) else (vJ tb E l (o'::r) e s).bind λy=>some (.inr y)
def Fz (tb:aD I)(sb:St I)(m l:Nat)(E:KO){ρ:Type}(k:Ex->St I->Option ρ):(outs:List (Ex×List (Nat×V)))->sP I E outs->Option ρ
 | [],_=>none
 | [o],x=>k o.1 (sS tb sb m l E o.2 x)
 | o::o'::r,b=>bB (λx=>k o.1 (sS tb sb m l E o.2 x)) (λy=>Fz tb sb m l E k (o'::r) y) b
def Kh (s:St I)(t i:Nat)(E:KO):Option (Nat×rZ I E):=match s.F t with
 | some p=>((yG p)[i]?).bind λl=>(FQ s.O l E).bind λxs=>some (l,xs)
 | _=>none
def Zo (tb:aD I)(K:KH I)(l:Nat):Ex->St I->Option (Fl (oV I K.S K.E) (sP I K.E K.outs))
 | .normal,s'=>(sI tb K.E l K.S s').bind λx'=>some (.next x')
 | e,s'=>(vJ tb K.E l K.outs e s').bind λb=>some (.done b)
def Gu (tb:aD I)(K:KH I)(body:jH I):jH I:=λ_ s k =>
 (Kh s K.t K.i K.E).bind λr =>
 (sI tb K.E r.1 K.S (jk [r.1] s)).bind λx0 =>
 (K.bound s).bind λbd =>
 (aB (λx=>body (Fl (oV I K.S K.E) (sP I K.E K.outs)) (sS tb (jk [r.1] s) K.m r.1 K.E K.S x) (Zo tb K r.1)) bd x0).bind λb=>Fz tb s K.m r.1 K.E k K.outs b
abbrev oJ (I:TypeId->Type)(S W:List (Nat×V))(E:TypeId):Type:=iY I S W×List (I E)
abbrev tZ (I:TypeId->Type)(W:List (Nat×V))(E:TypeId):List (Ex×List (Nat×V))->Type
 | []=>Empty
 | [o]=>oJ I o.2 W E
 | o::o'::r=>Sum (oJ I o.2 W E) (tZ I W E (o'::r))
def Bn (O:ay I)(l:Nat)(E:TypeId):Option (TypeId×Nat×List (I E)):=match O l with
 | some (some (.aA E1 E' u xs 0))=>(gG E E1 xs).bind λys=>some (E',u,ys)
 | _=>none
def Mh (s:St I)(t:Nat)(E:TypeId):Option (Nat×TypeId×Nat×List (I E)):=match s.F t with
 | some (.vw l)=>(Bn s.O l E).bind λq=>some (l,q)
 | _=>none
def ug (tb:aD I)(O0:ay I)(S W:List (Nat×V))(wl:List Nat)(l:Nat)(E E':TypeId)(u:Nat)(s:St I):Option (oJ I S W E) :=
 (mH tb O0 S W wl s).bind λx=>(Bn s.O l E).bind λq=>bif il' q.1 E'&&il' q.2.1 u then some (x,q.2.2) else none
def qY (tb:aD I)(sb:St I)(m:Nat)(dead:List Nat)(S W:List (Nat×V))(wl:List Nat)(l:Nat)(E E':TypeId)(u:Nat)(x:oJ I S W E):St I:=aP (jP tb sb m (l::dead) S W wl x.1) l (some (.aA E E' u x.2 0))
def vN (tb:aD I)(O0:ay I)(W:List (Nat×V))(wl:List Nat)(l:Nat)(E E':TypeId)(u:Nat):(outs:List (Ex×List (Nat×V)))->Ex->St I->Option (tZ I W E outs)
 | [],_,_=>none
 | [o],e,s=>bif oN o.1 e then ug tb O0 o.2 W wl l E E' u s else none
 | o::o'::r,e,s=>bif oN o.1 e then (ug tb O0 o.2 W wl l E E' u s).bind λx=>some (.inl x) else (vN tb O0 W wl l E E' u (o'::r) e s).bind λy=>some (.inr y)
def Gc (tb:aD I)(sb:St I)(m:Nat)(dead:List Nat)(W:List (Nat×V))(wl:List Nat)(l:Nat)(E E':TypeId)(u:Nat){ρ:Type}(k:Ex->St I->Option ρ):(outs:List (Ex×List (Nat×V)))->tZ I W E outs->Option ρ
 | [],_=>none
 | [o],x=>bif lY sb o.2 W then k o.1 (qY tb sb m dead o.2 W wl l E E' u x) else none
 | o::o'::r,b=>bB (λx=>bif lY sb o.2 W then k o.1 (qY tb sb m dead o.2 W wl l E E' u x) else none) (λy=>Gc tb sb m dead W wl l E E' u k (o'::r) y) b
def Rx (tb:aD I)(N:NH I)(O0:ay I)(wl:List Nat)(l:Nat)(E':TypeId)(u:Nat):Ex->St I->Option (Fl (oJ I N.L.head N.L.W N.E) (tZ I N.L.W N.E N.L.outs))
 | .normal,s'=>(ug tb O0 N.L.head N.L.W wl l N.E E' u s').bind λx'=>some (.next x')
 | e,s'=>(vN tb O0 N.L.W wl l N.E E' u N.L.outs e s').bind λb=>some (.done b)
def Du (tb:aD I)(N:NH I)(body:jH I):jH I:=λ_ s k =>
 let s0:=aG s s.O (kC s N.L.pub)
 (wJ s0 N.L.W).bind λwl =>
 (Mh s0 N.t N.E).bind λq =>
 let dead:=wN s0 (N.L.head.map (·.1)++jR N.L.outs) wl
 let sr:=jk (wl++q.1::dead) s0
 bif lY sr N.L.head N.L.W&&!(bg q.1 wl) then
 (ug tb s0.O N.L.head N.L.W wl q.1 N.E q.2.1 q.2.2.1 sr).bind λx0 =>
 (N.L.bound s).bind λbd =>
 (aB (λx=>body (Fl (oJ I N.L.head N.L.W N.E) (tZ I N.L.W N.E N.L.outs)) (qY tb sr N.L.m dead N.L.head N.L.W wl q.1 N.E q.2.1 q.2.2.1 x) (Rx tb N s0.O wl q.1 q.2.1 q.2.2.1)) bd x0).bind λb =>
 Gc tb s0 N.L.m dead N.L.W wl q.1 N.E q.2.1 q.2.2.1 k N.L.outs b else none
def BG (body:jH I):Nat->jH I
 | 0=>λ_ _ _=>none
 | m+1=>λρ s k=>body ρ s λe s'=>match e with
   | .normal=>BG body m ρ s' k
   | e=>k e s'
def uw (s:St I):List Nat->St I
 | []=>s
 | l::r=>uw (match s.O l with
   | some (some (.aA E _ _ xs _))=>aP s l (some (.row E xs false))
   | _=>s) r
def wV (s:St I):List Nat->St I
 | []=>s
 | l::r=>wV (match s.O l with
   | some (some (.aA E E' u xs 0))=>aP s l (some (.aA E E' u xs 1))
   | _=>s) r
def Am (ts:List Nat):List Nat:=ts.filter λt=>iG' t 1000000
def U7 (ts:List Nat):List Nat:=(ts.filter λt=>iX' 1000000 t).map λt=>t-1000000
def CU (s:St I)(ts:List Nat):St I :=
 let a:=kC s (Am ts)
 let s1:=uw s a
 wV (aG s1 s1.O a) (ji s.F (U7 ts))
def jG (tb:aD I)(aj:dn I)(H:Hints I):Code->Nat->jH I
 | .region id ops bL,p=>sF tb H p λ_ s k=>region tb aj (Gb ops.toList) bL (H.spl id) ops.toList (CU s (H.pre id)) (k .normal)
 | .seq a b,p=>sF tb H p λρ s k=>jG tb aj H a (2*p) ρ s λe s=>match e with
   | .normal=>jG tb aj H b (2*p+1) ρ s k
   | e=>k e s
 | .cond t a b,p=>sF tb H p λρ s k=>(bH s.n s.F t).bind λq=>match q with
   | .bool c=>bif c then jG tb aj H a (2*p) ρ s k else jG tb aj H b (2*p+1) ρ s k
   | _=>none
 | .block id a,p=>sF tb H p λρ s k=>jG tb aj H a (2*p) ρ s λe s=>match e with
   | .exit j=>bif il' j id then k .normal s else k (.exit j) s
   | e=>k e s
 | .loop a,p=>sF tb H p λρ s k=>match H.loop p with
   | some L=>G5 tb L (jG tb aj H a (2*p)) ρ s k
   | none=>match H.keep p with
     | some K=>Gu tb K (jG tb aj H a (2*p)) ρ s k
     | none=>match H.aA p with
       | some N=>Du tb N (jG tb aj H a (2*p)) ρ s k
       | none=>BG (jG tb aj H a (2*p)) (H.Qh p) ρ s k
 | .exit i,_=>λ_ s k=>k (.exit i) s
 | .ret,_=>λ_ s k=>k .ret s
 | .skip,_=>λ_ s k=>k .normal s
 | _,_=>λ_ _ _=>none
def Eh (ops:List Oper)(i:Nat):Bool:=fO (kz ops) i
def dQ:Code->Nat->Bool
 | .region _ ops _,i=>Eh ops.toList i
 | .seq a b,i=>dQ a i||dQ b i
 | .cond _ a b,i=>dQ a i||dQ b i
 | .block _ a,i=>dQ a i
 | .loop a,i=>dQ a i
 | _,_=>false
def gZ (m:Nat):Code->Bool
 | .region _ ops _=>ops.toList.all λo=>match o.dst with
   | some d=>jD' m d
   | none=>true
 | .seq a b=>gZ m a&&gZ m b
 | .cond _ a b=>gZ m a&&gZ m b
 | .block _ a=>gZ m a
 | .loop a=>gZ m a
 | _=>true
def oK (H:Hints I)(c:Code)(p:Nat):Bool:=(match H.join p with
 | some j=>gZ j.m c
 | none=>true)&&(match H.loop p with
 | some L=>gZ L.m c
 | none=>true)&&(match H.keep p with
 | some K=>gZ K.m c
 | none=>true)&&(match H.aA p with
 | some N=>gZ N.L.m c
 | none=>true)
def iy (H:Hints I):Code->Nat->Bool
 | .region id ops bL,p=>oK H (.region id ops bL) p&&(bif bL then Ew ops.toList (Gb ops.toList)&&zb ops.toList (Gb ops.toList) (kz ops.toList) else true)
 | .seq a b,p=>oK H (.seq a b) p&&iy H a (2*p)&&iy H b (2*p+1)
 | .cond t a b,p=>oK H (.cond t a b) p&&iy H a (2*p)&&iy H b (2*p+1)
 | .block id a,p=>oK H (.block id a) p&&iy H a (2*p)
 | .loop a,p=>oK H (.loop a) p&&iy H a (2*p)
 | _,_=>true
theorem mR {m:Nat}:∀ {c:Code},gZ m c=true->∀ {i},jD' m i=false->dQ c i=false
 | .region _ ops _,h,i,hi=>by
   simp only [gZ,iu'] at h;simp only [dQ,Eh,fO,List.any_eq_false];intro x hx hd;obtain ⟨j,o⟩:=x;have ho:=jF' (EC.1 hx);have h1:=h o ho;cases hdst:o.dst with
   | none=>rw [hdst] at hd; cases hd
   | some d =>rw [hdst] at hd h1;have e:=ii' hd;subst e;simp only at h1;rw [hi] at h1; cases h1
 | .seq a b,h,i,hi=>by simp only [gZ,ik'] at h;simp only [dQ,mR h.1 hi,mR h.2 hi,Bool.or_self]
 | .cond _ a b,h,i,hi=>by simp only [gZ,ik'] at h;simp only [dQ,mR h.1 hi,mR h.2 hi,Bool.or_self]
 | .block _ a,h,i,hi=>mR (c:=a) h hi
 | .loop a,h,i,hi=>mR (c:=a) h hi
 | .skip,_,_,_=>rfl
 | .rangeFunc _ _ _ _,_,_,_=>rfl
 | .exit _,_,_,_=>rfl
 | .scope _,_,_,_=>rfl
 | .label _,_,_,_=>rfl
 | .goto _,_,_,_=>rfl
 | .ret,_,_,_=>rfl
 | .refuse _,_,_,_=>rfl
omit [∀ E,Rp (I E)] in
theorem Yy:∀ {vs:List V} {x:dz I vs},(cO vs x).length=vH vs:=by
 have hK:∀ {k:K} {x:iq I k},(kX k x).length=mQ k:=by intro k x; cases k<;>rfl
 have hKs:∀ {ks:List K} {x:fV I ks},(wC ks x).length=jE ks:=by
  intro ks
  induction ks with
  | nil=>intro x; rfl
  | cons k r ih =>
    cases r with
    | nil=>intro x; exact hK
    | cons k' r=>intro x; simp only [wC,jE,iq',hK,ih]
 have hV:∀ {v:V} {x:jg I v},(iL v x).length=gU v:=by
  intro v x;cases v with
  | k k=>exact hK
  | bI ks=>exact hKs
 intro vs
 induction vs with
 | nil=>intro x; rfl
 | cons v r ih =>
   cases r with
   | nil=>intro x; exact hV
   | cons v' r=>intro x; simp only [cO,vH,iq',hV,ih]
omit [∀ E,Rp (I E)] in
theorem Ou {O:ay I}:∀ {m nb:Nat},xw O nb m=true↔∀ l∈dL nb m,O l=none
 | 0,_=>by simp [xw,dL]
 | m+1,nb=>by
   simp only [xw,ik',Ou,dL,ir',Option.isNone_iff_eq_none];constructor
   ·rintro ⟨h1,h2⟩ l (rfl | h)
    ·exact h1
    ·exact h2 l h
   ·exact λh=>⟨h _ (.inl rfl),λl hl=>h l (.inr hl)⟩
variable {P:Program}{tb:aD I}{aj:dn I}{H:Hints I}{n:Nat}
omit [∀ E,Rp (I E)] in
theorem F7 {sb:St I}{S W:List (Nat×V)}(h:lY sb S W=true)(x:iY I S W):gI sb.O sb.nx (cO (eZ S W) x)=true:=by rw [kK,Yy];exact Ou.1 h
omit [∀ E,Rp (I E)] in
theorem Ec {O0:ay I}{W:List (Nat×V)}{wl:List Nat}{sb:St I}{m:Nat}{dead:List Nat}{ρ:Type}{k:Ex->St I->Option ρ}{r:ρ}{e:Ex}{s':St I}:∀ {outs:List (Ex×List (Nat×V))} {b:qW I W outs},inj tb O0 W wl outs e s'=some b->out tb sb m dead W wl k outs b=some r ->
 ∃ S W',∃ x:iY I S W',mH tb O0 S W' wl s'=some x/\lY sb S W'=true/\k e (jP tb sb m dead S W' wl x)=some r
 | [],_,h,_=>by cases h
 | [o],x,h,h2=>by obtain ⟨he,h3⟩:=aK h;obtain ⟨hn,h4⟩:=aK h2;have:=wE he;subst this;exact ⟨mJ o.2,mP W o.2,x,h3,hn,h4⟩
 | o::o'::rs,b,h,h2=>by
   simp only [inj] at h;cases he:oN o.1 e with
   | true =>
     rw [he] at h;obtain ⟨x,hx,h⟩:=bind_some h;cases h;have h2':(bif lY sb (mJ o.2) (mP W o.2) then k o.1 (jP tb sb m dead (mJ o.2) (mP W o.2) wl x) else none)=some r:=h2
     obtain ⟨hn,h2'⟩:=aK h2';have:=wE he;subst this;exact ⟨mJ o.2,mP W o.2,x,hx,hn,h2'⟩
   | false =>rw [he] at h;obtain ⟨y,hy,h⟩:=bind_some h;cases h;exact Ec (outs:=o'::rs) (b:=y) hy h2
omit [∀ E,Rp (I E)] in
theorem OC {s:St I}:∀ {W:List (Nat×V)} {wl:List Nat},wJ s W=some wl->∀ l∈wl,(∃ t,s.F t=some (.ptr l 0))\/∃ o,s.O l=some (some o)
 | [],_,h=>by cases h; exact λl hl=>by cases hl
 | x::r,_,h=>by
   obtain ⟨l0,h0,h⟩:=bind_some h;obtain ⟨r',h1,h⟩:=bind_some h;cases h;intro l hl;rcases ir'.1 hl with rfl | hl
   ·unfold Ma at h0;cases hb:iX' 2000000 x.1 with
    | true =>rw [hb,cond_true] at h0;exact .inr (Tf h0)
    | false =>
      rw [hb,cond_false] at h0;split at h0
      ·rename_i l1 e; cases h0; exact .inl ⟨_,e⟩
      ·cases h0
   ·exact OC h1 l hl
def nK (P:Program)(n:Nat)(core:jH I)(cd:Code):Prop :=
 ∀ (ρ:Type) (s:St I) (k:Ex->St I->Option ρ) (r:ρ) (X:aY) (c:Cx) (σ:S) (F:Fr) (Q:Exit->Act->World->Prop),X.P=P->core ρ s k=some r->Rel X c σ s n F ->
  (∀ (e:Ex) (s':St I) (c':Cx) (τ:S) (F':Fr),k e s'=some r->Cx.le c c'->Rel X c' τ s' n F'->Stp X.M σ τ->(∀ i,dQ cd i=false->F' i=F i)->Q (gy e) (fr n F') τ.w)->cd.wp P Q (fr n F) σ.w
theorem JG (ht:aV P tb){X X':aY}{c c' c'':Cx}{σ τ:S}{s0 s':St I}{F F':Fr}{own wl dead:List Nat}{W S:List (Nat×V)}{m:Nat}{x:iY I S W}(h0:Rel X c σ s0 n F)(hX:X'=bU X c σ s0 own)(hc':c'=bA own c)(how:own=wl++dead)
 (hwl:∀ l∈wl,∃ p,c l=some p) (hg:mH tb s0.O S W wl s'=some x) (hok:lY s0 S W=true) (hle:Cx.le c' c'') (hr:Rel X' c'' τ s' n F') (st:Stp X'.M σ τ) (hF:∀ i,jD' m i=false->F' i=F i) :
 ∃ c4 τ',τ'.w=τ.w/\Cx.le c c4/\Rel X c4 τ' (jP tb s0 m dead S W wl x) n F'/\Stp X.M σ τ':=by
 subst hX;subst hc';have hcl:∀ l∈wl,c'' l=c l:=λl hl=>by
  obtain ⟨p,hp⟩:=hwl l hl;have:bA own c l=some p:=by
   unfold bA;rw [gM.2 (by rw [how]; simp [hl])]
   exact hp
  rw [hle l p this,hp]
 obtain ⟨τ',af,us,h1,h2,h3⟩:=Gr ht hr hcl hg;have st':=st.trans h2;obtain ⟨k1,k2⟩:=build (m:=m) (dead:=dead) ht h0 st' (nQ h0 own) hF (λl p g hl hnw hnd hc hw=>qd h0 hl (by rw [how,iw',not_or]; exact ⟨hnw,hnd⟩) hc hw) (λl i g hnw hnd hb=>BD h0 (by rw [how,iw',not_or]; exact ⟨hnw,hnd⟩) hb) h3 (F7 hok x)
 exact ⟨_,τ',h1,k1,k2,st'.mono λb _ hb=>nQ h0 own b hb⟩
theorem EI {X:aY}{c:Cx}{σ:S}{s:St I}{F:Fr}(h:Rel X c σ s n F){W:List (Nat×V)}{wl:List Nat}(hw:wJ s W=some wl):∀ l∈wl,∃ p,c l=some p:=λl hl=>by
 rcases OC hw l hl with ⟨t,ht⟩ | ⟨o,ho⟩
 case inr=>exact (h.aL l o ho).place
 have:=h.frame t _ ht;simp only [RV] at this;obtain ⟨b,w,h1,_⟩:=this;exact ⟨_,h1⟩
theorem xQ (ht:aV P tb){core:jH I}{cd:Code}{p:Nat}(hs:nK P n core cd)(hj:oK H cd p=true):nK P n (sF tb H p core) cd:=by
 intro ρ s k r X c σ F Q hX hx h hk;unfold sF at hx;split at hx
 ·exact hs ρ s k r X c σ F Q hX hx h hk
 ·rename_i j hj';have hm:gZ j.m cd=true:=by simp only [oK,hj',ik'] at hj;exact hj.1.1.1
  obtain ⟨wl,hwl,hx⟩:=bind_some hx;obtain ⟨b,hb,hx⟩:=bind_some hx;obtain ⟨σ1,h1,h2,h3,_⟩:=h.pubs (O:=s.O) (λ_ _ h=>h) (kC s j.pub);rw [<- h1];refine hs _ _ _ b (bU X c σ1 (aG s s.O (kC s j.pub)) (wl++wN (aG s s.O (kC s j.pub)) (jR j.outs) wl)) _ σ1 F Q hX hb (enter h3 _) λe s' c' τ F' hi hle hr st hF=>?_;obtain ⟨S,W',x,g1,g2,g3⟩:=Ec hi hx;obtain ⟨c4,τ',k1,k2,k3,k4⟩:=JG (m:=j.m) ht h3 rfl rfl rfl (EI h3 hwl) g1 g2 hle hr st (λi hi=>hF i (mR hm hi));rw [<- k1];exact hk e _ c4 τ' F' g3 k2 k3 (h2.trans k4) hF
theorem Ui {body:jH I}{cd:Code}(hs:nK P n body cd)(m:Nat):nK P n (BG body m) (.loop cd):=by
 intro ρ s k r X c σ F Q hX hx h hk;refine wp_loop_rounds m ?_;have key:∀ (m:Nat) (s:St I) (c:Cx) (σ:S) (F:Fr),BG body m ρ s k=some r->Rel X c σ s n F ->
  (∀ (e:Ex) (s':St I) (c':Cx) (τ:S) (F':Fr),k e s'=some r->Cx.le c c'->Rel X c' τ s' n F'->Stp X.M σ τ->(∀ i,dQ cd i=false->F' i=F i)->Q (gy e) (fr n F') τ.w)->Code.rounds P cd Q m (fr n F) σ.w:=by
  intro m
  induction m with
  | zero=>intro s c σ F hx; cases hx
  | succ m ih =>
    intro s c σ F hx h hk;show cd.wp P (Exit.then (Code.rounds P cd Q m) Q) (fr n F) σ.w
    refine hs ρ s _ r X c σ F _ hX hx h λe s' c' τ F' g1 g2 g3 g4 g5=>?_;cases e with
    | normal=>exact ih s' c' τ F' g1 g3 λe s2 c2 υ F2 m1 m2 m3 m4 m5=>hk e s2 c2 υ F2 m1 (Cx.le_trans g2 m2) m3 (g4.trans m4) λi hi=>(m5 i hi).trans (g5 i hi)
    | exit i=>exact hk (.exit i) s' c' τ F' g1 g2 g3 g4 g5
    | ret=>exact hk .ret s' c' τ F' g1 g2 g3 g4 g5
 exact key m s c σ F hx h hk
theorem Yh (ht:aV P tb){L:LH I}{body:jH I}{cd:Code}(hs:nK P n body cd)(hm:gZ L.m cd=true):nK P n (G5 tb L body) (.loop cd):=by
 intro ρ s k r X c σ F Q hX hx h hk;unfold G5 at hx;obtain ⟨wl,hwl,hx⟩:=bind_some hx;obtain ⟨hok,hx⟩:=aK hx;obtain ⟨x0,hx0,hx⟩:=bind_some hx;obtain ⟨bd,hbd,hx⟩:=bind_some hx;obtain ⟨b,hb,hx⟩:=bind_some hx;obtain ⟨σ1,h1,h2,h3,_⟩:=h.pubs (O:=s.O) (λ_ _ h=>h) (kC s L.pub);rw [<- h1];have hwc:=EI h3 hwl;revert hok hx0 hb hx;generalize hs0:aG s s.O (kC s L.pub)=s0 at *;change Rel X c σ1 s0 n F at h3;generalize zq:wN s0 (L.head.map (·.1)++jR L.outs) wl=dead
 intro hok hx0 hb hx;have hE:=enter h3 (wl++dead);have hcl:∀ {c1:Cx},Cx.le (bA (wl++dead) c) c1->∀ l∈wl,c1 l=bA (wl++dead) c l:=λhle l hl=>by
  obtain ⟨p,hp⟩:=hwc l hl;have:bA (wl++dead) c l=some p:=by
   unfold bA;rw [gM.2 (by simp [hl])]
   exact hp
  rw [hle l p this,this]
 have Ih:∀ {τ:S} {W:List (Nat×V)} {gJ:List Nat} {us:List Value},(∀ l∈gJ,l∈wl)->gY τ (bA (wl++dead) c) s0.O W gJ us->gY τ (bA (wl++dead) c) (eP (wl++dead) s0.O) W gJ us:=by
  intro τ W
  induction W with
  | nil =>intro gJ us _ hc;cases gJ<;>exact hc
  | cons w r ih =>
    intro gJ us hw hc;cases gJ with
    | nil=>exact hc
    | cons l ls =>
      obtain ⟨u,je,b,T,vs,w',cs,e1,e2,e3,e4,e5,e6,e7⟩:=hc;refine ⟨u,je,b,T,vs,w',cs,e1,?_,e3,e4,e5,e6,ih (λl' hl'=>hw l' (by simp [hl'])) e7⟩
      unfold eP;rw [gM.2 (by simp [hw l (by simp)])]
      exact e2
 have rT:∀ (c1:Cx) (τ:S) (s':St I) (F1:Fr) (x:iY I L.head L.W),Cx.le (bA (wl++dead) c) c1->Rel (bU X c σ1 s0 (wl++dead)) c1 τ s' n F1->Stp (bU X c σ1 s0 (wl++dead)).M σ1 τ->(∀ i,dQ cd i=false->F1 i=F i)->mH tb s0.O L.head L.W wl s'=some x ->
  ∃ c4 τ',τ'.w=τ.w/\Cx.le (bA (wl++dead) c) c4/\Rel (bU X c σ1 s0 (wl++dead)) c4 τ' (jP tb (jk (wl++dead) s0) L.m dead L.head L.W wl x) n F1/\Stp (bU X c σ1 s0 (wl++dead)).M σ1 τ':=by
  intro c1 τ s' F1 x hle hr st hF hg;obtain ⟨τ',af,us,a1,a2,a3⟩:=Gr ht hr (hcl hle) hg;have a3':Facts (bU X c σ1 s0 (wl++dead)).M τ' (bA (wl++dead) c) (jk (wl++dead) s0).O F1 L.head L.W wl x af us:=⟨a3.tt,Ih (λ_ h=>h) a3.cont,a3.nodup,a3.own,a3.CR⟩;obtain ⟨b1,b2⟩:=build (m:=L.m) (dead:=dead) ht hE (st.trans a2) (λ_ h=>h) (λi hi=>hF i (mR hm hi)) (λl p g hl hnw hnd hc hw=>by
   exfalso;unfold bA at hc;rw [jN.2 (by rw [iw',not_or]; exact ⟨hnw,hnd⟩)] at hc
   simp only [cond_false,ja'] at hc;obtain ⟨q,_,e⟩:=hc;rw [<- e] at hw;cases hw) (λl i g hnw hnd hb=>absurd (EM hb) (by rw [iw',not_or]; exact ⟨hnw,hnd⟩)) a3' (F7 hok x)
  exact ⟨_,τ',a1,b1,b2,st.trans a2⟩
 let Inv:iY I L.head L.W->Act->World->Prop:=λx a w=>∃ c1 τ F1,a=fr n F1/\w=τ.w/\Cx.le (bA (wl++dead) c) c1/\Rel (bU X c σ1 s0 (wl++dead)) c1 τ (jP tb (jk (wl++dead) s0) L.m dead L.head L.W wl x) n F1 /\
  Stp (bU X c σ1 s0 (wl++dead)).M σ1 τ/\∀ i,dQ cd i=false->F1 i=F i
 let Post:qW I L.W L.outs->Exit->Act->World->Prop:=λb e a w=>∃ e' s' c1 τ F1,e=gy e'/\gy e'≠.normal/\a=fr n F1/\w=τ.w/\inj tb s0.O L.W wl L.outs e' s'=some b/\Cx.le (bA (wl++dead) c) c1 /\
  Rel (bU X c σ1 s0 (wl++dead)) c1 τ s' n F1/\Stp (bU X c σ1 s0 (wl++dead)).M σ1 τ/\∀ i,dQ cd i=false->F1 i=F i
 obtain ⟨c4,σ2,i1,i2,i3,i4⟩:=rT _ σ1 _ F x0 (Cx.le_refl _) hE (Stp.refl _ _) (λ_ _=>rfl) hx0;have hinv:Inv x0 (fr n F) σ1.w:=⟨c4,σ2,F,rfl,i1.symm,i2,i3,i4,λ_ _=>rfl⟩;refine wp_mono (xK (P:=P) Inv Post (λb a w ⟨e',s',c1,τ,F1,e1,e2,_⟩=>e2 e1.symm) (λx fl a w hst hI=>?_) bd x0 b (fr n F) σ1.w hb hinv) λe a w hp=>?_
 ·obtain ⟨c1,τ,F1,rfl,rfl,j1,j2,j3,j4⟩:=hI;refine hs _ _ _ fl (bU X c σ1 s0 (wl++dead)) c1 τ F1 _ hX hst j2 λe s' c2 υ F2 hkk hle hr st hF=>?_;have hle2:=Cx.le_trans j1 hle;have st2:=j3.trans st;have hF2:∀ i,dQ cd i=false->F2 i=F i:=λi hi=>(hF i hi).trans (j4 i hi);have hdone:∀ e',e'=e->gy e'≠.normal->(inj tb s0.O L.W wl L.outs e' s').bind (λb=>some (Fl.done b))=some fl->∃ b',fl=.done b'/\Post b' (gy e') (fr n F2) υ.w:=λe' he hne hi=>by obtain ⟨b',hb',hi⟩:=bind_some hi;cases hi;exact ⟨b',rfl,e',s',c2,υ,F2,rfl,hne,rfl,rfl,hb',hle2,hr,st2,hF2⟩
  cases e with
  | normal =>obtain ⟨x',hx',hkk⟩:=bind_some hkk;cases hkk;obtain ⟨c5,υ',m1,m2,m3,m4⟩:=rT c2 υ s' F2 x' hle2 hr st2 hF2 hx';exact ⟨rfl,c5,υ',F2,rfl,m1.symm,m2,m3,m4,hF2⟩
  | exit i=>obtain ⟨b',rfl,hp⟩:=hdone (.exit i) rfl (by simp [gy]) hkk; exact hp
  | ret=>obtain ⟨b',rfl,hp⟩:=hdone .ret rfl (by simp [gy]) hkk; exact hp
 ·obtain ⟨e',s',c1,τ,F1,rfl,hne,rfl,rfl,hi,hle,hr,st,hF⟩:=hp;obtain ⟨S,W',x,g1,g2,g3⟩:=Ec hi hx;obtain ⟨c5,τ',k1,k2,k3,k4⟩:=JG (m:=L.m) ht h3 rfl rfl rfl hwc g1 g2 hle hr st (λi hi=>hF i (mR hm hi));rw [<- k1];exact hk e' _ c5 τ' F1 g3 k2 k3 (h2.trans k4) hF
theorem eX.none_ {X:aY}{c:Cx}{σ:S}:eX X c σ (λ_=>none:ay I) []:=⟨(λ_ _ _ _ h=>by cases h),(λ_ _ _ h=>by cases h),(λ_ _ _ _ h=>by cases h),λ_ _ _ _ h=>by cases h⟩
theorem Rows.none_ {X:aY}{c:Cx}{σ:S}:Rows X c σ (λ_=>none:ay I) []:=λ_ _ _ _ h=>by cases h
omit [∀ E,Rp (I E)] in
theorem LJ {O:ay I}{l:Nat}:∀ {E:KO} {ys:rZ I E},FQ O l E=some ys->O l=some (some (oO E ys))
 | .row E,ys,h=>by
   have h:(match O l with
    | some (some (.row E' xs false))=>gG E E' xs
    | _=>none)=some ys:=h
   split at h
   ·rename_i E' xs e;obtain ⟨e1,e2⟩:=iM h;subst e1;subst e2;exact e
   ·cases h
 | .map T kd,ys,h=>by
   have h:(match O l with
    | some (some (.map T' kd' m))=>ku (T:=T) (T':=T') (kd:=kd) m
    | _=>none)=some ys:=h
   split at h
   ·rename_i T' kd' xs e;obtain ⟨e1,e2,e3⟩:=oI h;subst e1;subst e2;subst e3;exact e
   ·cases h
theorem ZB {X X':aY}{c c':Cx}{σ:S}{l:Nat}(hcl:c' l=c l):∀ {E:KO} {ys:rZ I E},dJ X' c' σ l (oO E ys)->dJ X c σ l (oO E ys)
 | .row E,ys,h=>by obtain ⟨A,k,ow,k1,k2⟩:=h;rw [hcl] at k1;exact ⟨A,k,ow,k1,k2⟩
 | .map T kd,ys,h=>by obtain ⟨b,k1,k2⟩:=h;rw [hcl] at k1;exact ⟨b,k1,k2⟩
omit [∀ E,Rp (I E)] in
theorem Zb:∀ (E:KO) (ys:rZ I E),lT (some (oO E ys))=true
 | .row _,_=>rfl
 | .map _ _,_=>rfl
theorem KJ (ht:aV P tb){X X':aY}{c c':Cx}{σ τ:S}{s0 s':St I}{F F':Fr}{l m:Nat}{E:KO}{S:List (Nat×V)}{x:oV I S E}{pl:Pl}(h0:Rel X c σ s0 n F)(hlv:aQ s0 l)(hpl:c l=some pl)(hr:Rel X' c' τ s' n F')
 (hcl:c' l=c l) (st:Stp X'.M σ τ) (hM:∀ b,X'.M b->X.M b) (hnot:∀ l' p g,aQ s0 l'->l'≠l->c l'=some p->p.w=some g->¬ X'.M g) (dE':∀ l' i g,l'≠l->bX c σ s0.O l' i g->¬ X'.M g) (hg:sI tb E l S s'=some x) (hF:∀ i,jD' m i=false->F' i=F i) :
 Rel X c τ (sS tb s0 m l E S x) n F':=by
 obtain ⟨ps,hps,hg⟩:=bind_some hg;obtain ⟨y,hy,hg⟩:=bind_some hg;obtain ⟨hb,hg⟩:=aK hg;obtain ⟨ys,hys,hg⟩:=bind_some hg;cases hg;simp only [ik'] at hb;have hn1:=mI hb.1;have hn2:=mI hb.2;have ho:=LJ hys;have dD:=ZB (X:=X) (c:=c) hcl (hr.aL l _ ho);have h1:Rel X c σ ⟨s0.n,s0.F,bF [l] s0.O,s0.nx⟩ n F:=h0.less (λl o ho=>(eY ho).2) (λl ho=>ou.1 ho);have hm1:∀ l' p g,aQ (⟨s0.n,s0.F,bF [l] s0.O,s0.nx⟩:St I) l'->c l'=some p->p.w=some g->¬ X'.M g:=λl' p g ⟨o,ho'⟩ hc hw=>by obtain ⟨m1,m2⟩:=eY ho';exact hnot l' p g ⟨o,m2⟩ (by simpa using m1) hc hw
 have hi1:∀ g,X'.M g->bQ c σ (⟨s0.n,s0.F,bF [l] s0.O,s0.nx⟩:St I) g:=λg hg l' i ⟨E',v,⟨E,u,xs,q,g',kk,m',w,k1,k2⟩,k3⟩=>by obtain ⟨z1,z2⟩:=eY k1;exact dE' l' i g (by simpa using z1) ⟨E',v,⟨E,u,xs,q,g',kk,m',w,z2,k2⟩,k3⟩ hg
 have h2:Rel X c τ ⟨s0.n,s0.F,bF [l] s0.O,s0.nx⟩ n F:=h1.stepG st hM hm1 hi1;have h3:=h2.wU (l:=l) (o:=oO E ys) (hn:=Zb E ys) dD λp g hp hg=>⟨h0.mine l p g hlv hp hg,((h0.owned hlv hp hg).sub (λl' E E' u xs q e=>(eY e).2)).step h1 st hm1 hi1,λl' p' hne ⟨o,ho'⟩ hc' hw'=>by obtain ⟨m1,m2⟩:=eY ho';exact hne (h0.inj l' l p' p g ⟨o,m2⟩ hlv hc' hp hw' hg)⟩
 have hO:(aP (⟨s0.n,s0.F,bF [l] s0.O,s0.nx⟩:St I) l (some (oO E ys))).O=aZ s0.O l (some (oO E ys)):=by
  funext i;show aZ (bF [l] s0.O) l _ i=_;by_cases e:i=l
  ·subst e; rw [dS,dS]
  ·rw [bW e,bW e];unfold bF;rw [jN.2 (by simpa using e)]
   rfl
 have h4:Rel X c τ ⟨s0.n,nI m s0.F,aZ s0.O l (some (oO E ys)),s0.nx⟩ n F':=by
  rw [<- hO];exact h3.Qd λi p hi=>by
   unfold nI at hi;cases hb:jD' m i with
   | true=>rw [hb] at hi; cases hi
   | false=>rw [hb] at hi; exact ⟨hi,hF i hb⟩
 obtain ⟨af,t1,t2⟩:=wF ht eX.none_ Rows.none_ (ls:=y.2.1) (rows:=y.2.2) hy (λl hl=>by rw [hn1] at hl; cases hl) (λl hl=>by rw [hn2] at hl; cases hl) (EY hr hps)
 rw [hn2] at t2;have:af=[]:=t2;subst this;exact Rel.rR h4 (uU (X:=X) (c:=c) (nb:=s0.nx) ht t1 (λi p hp=>by simp at hp)).1
omit [∀ E,Rp (I E)] in
theorem NU [∀ E,Rp (I E)] {sb:St I}{m l:Nat}{E:KO}{ρ:Type}{k:Ex->St I->Option ρ}{r:ρ}{e:Ex}{s':St I}:∀ {outs:List (Ex×List (Nat×V))} {b:sP I E outs},vJ tb E l outs e s'=some b->Fz tb sb m l E k outs b=some r ->
 ∃ S,∃ x:oV I S E,sI tb E l S s'=some x/\k e (sS tb sb m l E S x)=some r
 | [],_,h,_=>by cases h
 | [o],x,h,h2=>by obtain ⟨he,h3⟩:=aK h;have:=wE he;subst this;exact ⟨o.2,x,h3,h2⟩
 | o::o'::rs,b,h,h2=>by
   simp only [vJ] at h;cases he:oN o.1 e with
   | true =>rw [he] at h;obtain ⟨x,hx,h⟩:=bind_some h;cases h;have:=wE he;subst this;exact ⟨o.2,x,hx,h2⟩
   | false =>rw [he] at h;obtain ⟨y,hy,h⟩:=bind_some h;cases h;exact NU (outs:=o'::rs) (b:=y) hy h2
theorem Sk (ht:aV P tb){K:KH I}{body:jH I}{cd:Code}(hs:nK P n body cd)(hm:gZ K.m cd=true):nK P n (Gu tb K body) (.loop cd):=by
 intro ρ s k r X c σ F Q hX hx h hk;unfold Gu at hx;obtain ⟨rw_,hrw,hx⟩:=bind_some hx;obtain ⟨x0,hx0,hx⟩:=bind_some hx;obtain ⟨bd,hbd,hx⟩:=bind_some hx;obtain ⟨b,hb,hx⟩:=bind_some hx;obtain ⟨l,xs⟩:=rw_;have hrow:s.O l=some (some (oO K.E xs)):=by
  unfold Kh at hrw;split at hrw
  ·obtain ⟨l',_,hrw⟩:=bind_some hrw;obtain ⟨ys,hys,hrw⟩:=bind_some hrw;cases hrw;exact LJ hys
  ·cases hrw
 have hlv:aQ s l:=⟨_,hrow⟩;obtain ⟨pl,hpl⟩:=(h.aL l _ hrow).place;have hE:=enter h [l];have hcr:bA [l] c l=c l:=by unfold bA; rw [gM.2 (by simp)]; rfl
 have hlr:aQ (jk [l] s) l:=⟨_,by show eP [l] s.O l=_; unfold eP; rw [gM.2 (by simp)]; exact hrow⟩
 have hkeep:∀ {c1:Cx},Cx.le (bA [l] c) c1->c1 l=bA [l] c l:=λhle=>by have:bA [l] c l=some pl:=hcr.trans hpl;rw [hle l _ this,this]
 have hdst:∀ {F1:Fr},(∀ i,dQ cd i=false->F1 i=F i)->∀ i,jD' K.m i=false->F1 i=F i:=λhF i hi=>hF i (mR hm hi);have rT:∀ (c1:Cx) (τ:S) (s':St I) (F1:Fr) (x:oV I K.S K.E),Cx.le (bA [l] c) c1->Rel (bU X c σ s [l]) c1 τ s' n F1->Stp (bU X c σ s [l]).M σ τ->(∀ i,dQ cd i=false->F1 i=F i)->sI tb K.E l K.S s'=some x ->
  Rel (bU X c σ s [l]) (bA [l] c) τ (sS tb (jk [l] s) K.m l K.E K.S x) n F1:=λc1 τ s' F1 x hle hr st hF hg =>
  KJ ht hE hlr (hcr.trans hpl) hr (hkeep hle) st (λ_ h=>h) (λl' p g _ hne hc hw=>by
   exfalso;unfold bA at hc;rw [jN.2 (by simpa using hne)] at hc
   simp only [cond_false,ja'] at hc;obtain ⟨q,_,e⟩:=hc;rw [<- e] at hw;cases hw) (λl' i g hne hb=>absurd (EM hb) (by simpa using hne)) hg (hdst hF)
 let Inv:oV I K.S K.E->Act->World->Prop:=λx a w=>∃ τ F1,a=fr n F1/\w=τ.w/\Rel (bU X c σ s [l]) (bA [l] c) τ (sS tb (jk [l] s) K.m l K.E K.S x) n F1/\Stp (bU X c σ s [l]).M σ τ/\∀ i,dQ cd i=false->F1 i=F i
 let Post:sP I K.E K.outs->Exit->Act->World->Prop:=λb e a w=>∃ e' s' c1 τ F1,e=gy e'/\gy e'≠.normal/\a=fr n F1/\w=τ.w/\vJ tb K.E l K.outs e' s'=some b/\Cx.le (bA [l] c) c1 /\
  Rel (bU X c σ s [l]) c1 τ s' n F1/\Stp (bU X c σ s [l]).M σ τ/\∀ i,dQ cd i=false->F1 i=F i
 have hinv:Inv x0 (fr n F) σ.w:=⟨σ,F,rfl,rfl,rT _ σ _ F x0 (Cx.le_refl _) hE (Stp.refl _ _) (λ_ _=>rfl) hx0,Stp.refl _ _,λ_ _=>rfl⟩;refine wp_mono (xK (P:=P) Inv Post (λb a w ⟨e',s',c1,τ,F1,e1,e2,_⟩=>e2 e1.symm) (λx fl a w hst hI=>?_) bd x0 b (fr n F) σ.w hb hinv) λe a w hp=>?_
 ·obtain ⟨τ,F1,rfl,rfl,j2,j3,j4⟩:=hI;refine hs _ _ _ fl (bU X c σ s [l]) (bA [l] c) τ F1 _ hX hst j2 λe s' c2 υ F2 hkk hle hr st hF=>?_;have st2:=j3.trans st;have hF2:∀ i,dQ cd i=false->F2 i=F i:=λi hi=>(hF i hi).trans (j4 i hi);have hdone:∀ e',e'=e->gy e'≠.normal->(vJ tb K.E l K.outs e' s').bind (λb=>some (Fl.done b))=some fl->∃ b',fl=.done b'/\Post b' (gy e') (fr n F2) υ.w:=λe' he hne hi=>by obtain ⟨b',hb',hi⟩:=bind_some hi;cases hi;exact ⟨b',rfl,e',s',c2,υ,F2,rfl,hne,rfl,rfl,hb',hle,hr,st2,hF2⟩
  cases e with
  | normal =>obtain ⟨x',hx',hkk⟩:=bind_some hkk;cases hkk;exact ⟨rfl,υ,F2,rfl,rfl,rT c2 υ s' F2 x' hle hr st2 hF2 hx',st2,hF2⟩
  | exit i=>obtain ⟨b',rfl,hp⟩:=hdone (.exit i) rfl (by simp [gy]) hkk; exact hp
  | ret=>obtain ⟨b',rfl,hp⟩:=hdone .ret rfl (by simp [gy]) hkk; exact hp
 ·obtain ⟨e',s',c1,τ,F1,rfl,hne,rfl,rfl,hi,hle,hr,st,hF⟩:=hp;obtain ⟨S,x,g1,g3⟩:=NU hi hx;refine hk e' _ c τ F1 g3 (Cx.le_refl c) (KJ ht h hlv hpl hr ((hkeep hle).trans hcr) st (nQ h [l]) (λl' p g hl' hne' hc hw=>qd h hl' (by simpa using hne') hc hw) (λl' i g hne' hb=>BD h (by simpa using hne') hb) g1 (hdst hF)) (st.mono λb _ hb=>nQ h [l] b hb) hF
theorem Rel.uw {X:aY}{c:Cx}{σ:S}{F:Fr}:∀ (ls:List Nat) {s:St I},Rel X c σ s n F->Rel X c σ (Qx.uw s ls) n F
 | [],_,h=>h
 | l::r,s,h=>by
   refine Rel.uw r ?_;split
   ·rename_i e; exact h.plain e
   ·exact h
theorem Rel.wV {X:aY}{c:Cx}{σ:S}{F:Fr}:∀ (ls:List Nat) {s:St I},Rel X c σ s n F->Rel X c σ (Qx.wV s ls) n F
 | [],_,h=>h
 | l::r,s,h=>by
   refine Rel.wV r ?_;split
   ·rename_i e; exact h.armed e
   ·exact h
theorem Rel.CU {X:aY}{c:Cx}{σ:S}{s:St I}{F:Fr}(h:Rel X c σ s n F)(ts:List Nat):∃ τ,τ.w=σ.w/\Stp X.M σ τ/\Rel X c τ (Qx.CU s ts) n F:=by have h1:=Rel.uw (kC s (Am ts)) h;obtain ⟨τ,k1,k2,k3,_⟩:=h1.pubs (O:=(Qx.uw s (kC s (Am ts))).O) (λ_ _ h=>h) (kC s (Am ts));exact ⟨τ,k1,k2,Rel.wV _ k3⟩
omit [∀ E,Rp (I E)] in
theorem Pd {O:ay I}{l:Nat}{E E':TypeId}{u:Nat}{ys:List (I E)}(h:Bn O l E=some (E',u,ys)):O l=some (some (.aA E E' u ys 0)):=by
 unfold Bn at h;split at h
 ·rename_i e;obtain ⟨zs,hz,h⟩:=bind_some h;cases h;obtain ⟨e1,e2⟩:=iM hz;subst e1;subst e2;exact e
 ·cases h
theorem N7 (ht:aV P tb){X X':aY}{cb c'':Cx}{σ τ:S}{sb s':St I}{F0 F':Fr}{O0:ay I}{l m u:Nat}{E E':TypeId}{dead wl:List Nat}{W S:List (Nat×V)}{x:oJ I S W E}(hb:Rel X cb σ sb n F0)(hr:Rel X' c'' τ s' n F')(hM:∀ b,X'.M b->X.M b)
 (hcl:∀ l∈wl,c'' l=cb l) (hcl0:c'' l=cb l) (hlv:aQ sb l) (pJ:l ∉ wl) (st:Stp X'.M σ τ) (hF:∀ i,jD' m i=false->F' i=F0 i)
 (hkeep:∀ l' p g,aQ sb l'->l' ∉ wl->l' ∉ l::dead->cb l'=some p->p.w=some g->¬ X'.M g) (zx:∀ l' i g,l' ∉ wl->l' ∉ l::dead->bX cb σ sb.O l' i g->¬ X'.M g)
 (hcont:∀ τ us,gY τ cb O0 W wl us->gY τ cb sb.O W wl us) (hg:ug tb O0 S W wl l E E' u s'=some x) (hok:lY sb S W=true) :
 ∃ c4 τ',τ'.w=τ.w/\Cx.le cb c4/\Rel X c4 τ' (qY tb sb m dead S W wl l E E' u x) n F'/\Stp X'.M σ τ':=by
 obtain ⟨x1,hx1,hgA⟩:=bind_some hg;obtain ⟨⟨q1,q2,ys⟩,hq,hgB⟩:=bind_some hgA;obtain ⟨hqq,hgC⟩:=aK hgB;clear hg hgA hgB;simp only [ik'] at hqq;have e1:=ii' hqq.1;have e2:=ii' hqq.2;subst e1;subst e2;cases hgC;have uy:=Pd hq;obtain ⟨τ',af,us,⟨a1,a2,a3⟩,ls,a4,a5,a6,a7⟩:=Kv ht hr (cb:=cb) hcl hx1;have a3':Facts X'.M τ' cb sb.O F' S W wl x1 af us:=⟨a3.tt,hcont _ _ a3.cont,a3.nodup,a3.own,a3.CR⟩;obtain ⟨b1,b2,b3,b4,b5⟩:=Lf (m:=m) (dead:=l::dead) ht hb (st.trans a2) hM hF hkeep zx a3' (F7 hok x1);have hol:=a7 _ _ uy (λ_ _ e=>by cases e)
 have pG:aQ (aG s' s'.O ls) l:=⟨_,hol⟩;obtain ⟨A,k,ow,k1,k2⟩:=a4.aL l _ hol;have hN:=a4.aA;have hc4:cZ cb sb.nx af l=some ⟨A,k,ys.length,ow⟩:=by obtain ⟨o,ho⟩:=hlv;rw [b5 l (by rw [ho]; simp),<- hcl0,k1]
 have hwho:∀ g,X'.M g->(∀ l',l'∈wl->∀ p,c'' l'=some p->p.w≠some g)->(∀ l2 p,aQ (aG s' s'.O ls) l2->l2≠l->c'' l2=some p->p.w≠some g)->∀ l' p',aQ (jP tb sb m (l::dead) S W wl x1) l'->cZ cb sb.nx af l'=some p'->p'.w≠some g:=λg hg h1 h2 l' p' hl' hc' hw'=>by
  rcases b4 l' hl' with hw | ⟨_,pl,hp,hpl⟩ | ⟨m1,m2,m3⟩
  ·have hcb:c'' l'=some p':=by
    have hl0:∃ p0,c'' l'=some p0:=by obtain ⟨T,vs,w,ho⟩:=a6 l' hw;exact (hr.aL l' _ ho).place
    obtain ⟨p0,e0⟩:=hl0;have:=b1 l' p0 (by rw [<- hcl l' hw]; exact e0)
    rw [hc'] at this;cases this; exact e0
   exact h1 l' hw p' hcb hw'
  ·rw [hpl] at hc';cases hc';obtain ⟨l2,p2,⟨o2,ho2,hrm⟩,c2,w2⟩:=a5 g (wM.2 ⟨_,hp,hw'⟩);exact h2 l2 p2 ⟨_,ho2⟩ (λe=>by subst e; rw [hol] at ho2; cases ho2; cases hrm) c2 w2
  ·have hcb:cb l'=some p':=by
    obtain ⟨o,ho⟩:=m1;rw [<- b5 l' (by rw [ho]; simp)]; exact hc'
   exact hkeep l' p' g m1 m2 m3 hcb hw' hg
 have CS:∀ l',l'∈wl->aQ (aG s' s'.O ls) l':=λl' hw=>by obtain ⟨T,vs,w,ho⟩:=a6 l' hw;exact ⟨_,a7 _ _ ho (λ_ _ e=>by cases e)⟩
 refine ⟨_,τ',a1,b1,?_,st.trans a2⟩;refine b2.dB' (pl:=⟨A,k,ys.length,ow⟩) ?_ hc4 ⟨A,k,ow,hc4,k2⟩ (λg hg=>?_) (λi hi=>?_) (λi g v b hi hA hv hb'=>?_) (λi i' g v v' b hi hi' hA hv hv' hb1 hb2=>?_)
 ·intro hl;rcases b4 l hl with hw | ⟨hn0,_⟩ | ⟨m1,m2,m3⟩
  ·exact pJ hw
  ·obtain ⟨o,ho⟩:=hlv;rw [hn0] at ho; cases ho
  ·exact m3 (by simp)
 ·have hg:ow=some g:=hg;have fJ:X'.M g:=a4.mine l _ g pG k1 hg;refine ⟨hM _ fJ,b3 g fJ,hwho g fJ (λl' hw p hp hw'=>?_) λl2 p hl2 hne hp hw'=>?_⟩
  ·exact pJ (by rw [<- a4.inj l' l p _ g (CS l' hw) pG hp k1 hw' hg]; exact hw)
  ·exact hne (a4.inj l2 l p _ g hl2 pG hp k1 hw' hg)
 ·obtain ⟨v,⟨E1,u1,mX,q3,g,kk,mm,w,z1,z2,z3,z4,z5⟩,z6⟩:=hN.opn l _ _ _ _ 0 hol i hi (by omega)
  rw [hol] at z1;cases z1;rw [k1] at z2;cases z2;exact ⟨g,v,rfl,z5,z6⟩
 ·have hA:A=some ⟨g,0,none⟩:=hA;subst hA;have hin:bX c'' τ' (aG s' s'.O ls).O l i b:=⟨_,v,⟨_,_,_,0,g,_,_,_,hol,k1,hi,by omega,hv⟩,hb'⟩
  have rU:=hN.mine l i b hin;refine ⟨hM _ rU,b3 b rU,hwho b rU (λl' hw p hp=>?_) (λl2 p ⟨o,ho⟩ _ hp=>hN.free l i b hin l2 o p ho hp),hN.free l i b hin l _ _ hol k1⟩;obtain ⟨o,ho⟩:=CS l' hw;exact hN.free l i b hin l' o p ho hp
 ·have hA:A=some ⟨g,0,none⟩:=hA;subst hA;exact (hN.inj l i b l i' ⟨_,v,⟨_,_,_,0,g,_,_,_,hol,k1,hi,by omega,hv⟩,hb1⟩ ⟨_,v',⟨_,_,_,0,g,_,_,_,hol,k1,hi',by omega,hv'⟩,hb2⟩).2
omit [∀ E,Rp (I E)] in
theorem Kr [∀ E,Rp (I E)] {O0:ay I}{W:List (Nat×V)}{wl:List Nat}{sb:St I}{m l u:Nat}{E E':TypeId}{dead:List Nat}{ρ:Type}{k:Ex->St I->Option ρ}{r:ρ}{e:Ex}{s':St I}:∀ {outs:List (Ex×List (Nat×V))} {b:tZ I W E outs},vN tb O0 W wl l E E' u outs e s'=some b->Gc tb sb m dead W wl l E E' u k outs b=some r ->
 ∃ S,∃ x:oJ I S W E,ug tb O0 S W wl l E E' u s'=some x/\lY sb S W=true/\k e (qY tb sb m dead S W wl l E E' u x)=some r
 | [],_,h,_=>by cases h
 | [o],x,h,h2=>by obtain ⟨he,h3⟩:=aK h;obtain ⟨hn,h4⟩:=aK h2;have:=wE he;subst this;exact ⟨o.2,x,h3,hn,h4⟩
 | o::o'::rs,b,h,h2=>by
   simp only [vN] at h;cases he:oN o.1 e with
   | true =>
     rw [he] at h;obtain ⟨x,hx,h⟩:=bind_some h;cases h;have h2':(bif lY sb o.2 W then k o.1 (qY tb sb m dead o.2 W wl l E E' u x) else none)=some r:=h2
     obtain ⟨hn,h2'⟩:=aK h2';have:=wE he;subst this;exact ⟨o.2,x,hx,hn,h2'⟩
   | false =>rw [he] at h;obtain ⟨y,hy,h⟩:=bind_some h;cases h;exact Kr (outs:=o'::rs) (b:=y) hy h2
theorem aE' (ht:aV P tb){N:NH I}{body:jH I}{cd:Code}(hs:nK P n body cd)(hm:gZ N.L.m cd=true):nK P n (Du tb N body) (.loop cd):=by
 intro ρ s k r X c σ F Q hX hx h hk;unfold Du at hx;obtain ⟨wl,hwl,hx⟩:=bind_some hx;obtain ⟨q,hq,hx⟩:=bind_some hx;obtain ⟨hok,hx⟩:=aK hx;obtain ⟨x0,hx0,hx⟩:=bind_some hx;obtain ⟨bd,hbd,hx⟩:=bind_some hx;obtain ⟨b,hb,hx⟩:=bind_some hx;obtain ⟨σ1,h1,h2,h3,_⟩:=h.pubs (O:=s.O) (λ_ _ h=>h) (kC s N.L.pub);rw [<- h1];have hwc:=EI h3 hwl;obtain ⟨l,E',u,xs⟩:=q;have uy:(aG s s.O (kC s N.L.pub)).O l=some (some (.aA N.E E' u xs 0)):=by
  unfold Mh at hq;split at hq
  ·obtain ⟨q',hq',hq⟩:=bind_some hq;cases hq;exact Pd hq'
  ·cases hq
 simp only [ik',ju'] at hok;obtain ⟨hok,pJ⟩:=hok;have pJ:=jN.1 pJ;revert hok hx0 hb hx uy;generalize hs0:aG s s.O (kC s N.L.pub)=s0 at *;change Rel X c σ1 s0 n F at h3;generalize zq:wN s0 (N.L.head.map (·.1)++jR N.L.outs) wl=dead
 intro hx0 hb hx uy hok;generalize hown:wl++l::dead=own at *;have hin:∀ l'∈wl,l'∈own:=λl' hl'=>by rw [<- hown]; simp [hl']
 have hinl:l∈own:=by rw [<- hown]; simp
 have hnot:∀ l',l' ∉ wl->l' ∉ l::dead->l' ∉ own:=λl' a b=>by rw [<- hown,iw',not_or]; exact ⟨a,b⟩
 have hE:=enter h3 own;have hro:∀ {l'},l'∈own->bA own c l'=c l':=λhl=>by unfold bA; rw [gM.2 hl]; rfl
 have CV:∀ {c1:Cx},Cx.le (bA own c) c1->∀ l'∈own,(∃ p,c l'=some p)->c1 l'=bA own c l':=λhle l' hl ⟨p,hp⟩=>by have:bA own c l'=some p:=(hro hl).trans hp;rw [hle l' p this,this]
 have hpl:∃ p,c l=some p:=(h3.aL l _ uy).place;have hlv:aQ s0 l:=⟨_,uy⟩;have hlr:aQ (jk own s0) l:=⟨_,by show eP own s0.O l=_; unfold eP; rw [gM.2 hinl]; exact uy⟩
 have Ih:∀ {τ:S} {W:List (Nat×V)} {gJ:List Nat} {us:List Value},(∀ l∈gJ,l∈wl)->gY τ (bA own c) s0.O W gJ us->gY τ (bA own c) (eP own s0.O) W gJ us:=by
  intro τ W
  induction W with
  | nil =>intro gJ us _ hc;cases gJ<;>exact hc
  | cons w r ih =>
    intro gJ us hw hc;cases gJ with
    | nil=>exact hc
    | cons l ls =>
      obtain ⟨u,je,b,T,vs,w',cs,e1,e2,e3,e4,e5,e6,e7⟩:=hc;refine ⟨u,je,b,T,vs,w',cs,e1,?_,e3,e4,e5,e6,ih (λl' hl'=>hw l' (by simp [hl'])) e7⟩
      unfold eP;rw [gM.2 (hin l (hw l (by simp)))]
      exact e2
 have rT:∀ (c1:Cx) (τ:S) (s':St I) (F1:Fr) (x:oJ I N.L.head N.L.W N.E),Cx.le (bA own c) c1->Rel (bU X c σ1 s0 own) c1 τ s' n F1->Stp (bU X c σ1 s0 own).M σ1 τ->(∀ i,dQ cd i=false->F1 i=F i)->ug tb s0.O N.L.head N.L.W wl l N.E E' u s'=some x ->
  ∃ c4 τ',τ'.w=τ.w/\Cx.le (bA own c) c4/\Rel (bU X c σ1 s0 own) c4 τ' (qY tb (jk own s0) N.L.m dead N.L.head N.L.W wl l N.E E' u x) n F1/\Stp (bU X c σ1 s0 own).M σ1 τ':=by
  intro c1 τ s' F1 x hle hr st hF hg;refine N7 ht hE hr (λ_ h=>h) (λl' hl'=>CV hle l' (hin l' hl') (hwc l' hl')) (CV hle l hinl hpl) hlr pJ st (λi hi=>hF i (mR hm hi)) (λl' p g _ hnw hnd hc hw=>?_) (λl' i g hnw hnd hb=>absurd (EM hb) (hnot l' hnw hnd)) (λτ us hc=>Ih (λ_ h=>h) hc) hg hok;exfalso;unfold bA at hc;rw [jN.2 (hnot l' hnw hnd)] at hc;simp only [cond_false,ja'] at hc;obtain ⟨q,_,e⟩:=hc;rw [<- e] at hw;cases hw
 let Inv:oJ I N.L.head N.L.W N.E->Act->World->Prop:=λx a w=>∃ c1 τ F1,a=fr n F1/\w=τ.w/\Cx.le (bA own c) c1/\Rel (bU X c σ1 s0 own) c1 τ (qY tb (jk own s0) N.L.m dead N.L.head N.L.W wl l N.E E' u x) n F1 /\
  Stp (bU X c σ1 s0 own).M σ1 τ/\∀ i,dQ cd i=false->F1 i=F i
 let Post:tZ I N.L.W N.E N.L.outs->Exit->Act->World->Prop:=λb e a w=>∃ e' s' c1 τ F1,e=gy e'/\gy e'≠.normal/\a=fr n F1/\w=τ.w/\vN tb s0.O N.L.W wl l N.E E' u N.L.outs e' s'=some b/\Cx.le (bA own c) c1 /\
  Rel (bU X c σ1 s0 own) c1 τ s' n F1/\Stp (bU X c σ1 s0 own).M σ1 τ/\∀ i,dQ cd i=false->F1 i=F i
 obtain ⟨c4,σ2,i1,i2,i3,i4⟩:=rT _ σ1 _ F x0 (Cx.le_refl _) hE (Stp.refl _ _) (λ_ _=>rfl) hx0;have hinv:Inv x0 (fr n F) σ1.w:=⟨c4,σ2,F,rfl,i1.symm,i2,i3,i4,λ_ _=>rfl⟩;refine wp_mono (xK (P:=P) Inv Post (λb a w ⟨e',s',c1,τ,F1,e1,e2,_⟩=>e2 e1.symm) (λx fl a w hst hI=>?_) bd x0 b (fr n F) σ1.w hb hinv) λe a w hp=>?_
 ·obtain ⟨c1,τ,F1,rfl,rfl,j1,j2,j3,j4⟩:=hI;refine hs _ _ _ fl (bU X c σ1 s0 own) c1 τ F1 _ hX hst j2 λe s' c2 υ F2 hkk hle hr st hF=>?_;have hle2:=Cx.le_trans j1 hle;have st2:=j3.trans st;have hF2:∀ i,dQ cd i=false->F2 i=F i:=λi hi=>(hF i hi).trans (j4 i hi);have hdone:∀ e',e'=e->gy e'≠.normal->(vN tb s0.O N.L.W wl l N.E E' u N.L.outs e' s').bind (λb=>some (Fl.done b))=some fl->∃ b',fl=.done b'/\Post b' (gy e') (fr n F2) υ.w:=λe' he hne hi=>by obtain ⟨b',hb',hi⟩:=bind_some hi;cases hi;exact ⟨b',rfl,e',s',c2,υ,F2,rfl,hne,rfl,rfl,hb',hle2,hr,st2,hF2⟩
  cases e with
  | normal =>obtain ⟨x',hx',hkk⟩:=bind_some hkk;cases hkk;obtain ⟨c5,υ',m1,m2,m3,m4⟩:=rT c2 υ s' F2 x' hle2 hr st2 hF2 hx';exact ⟨rfl,c5,υ',F2,rfl,m1.symm,m2,m3,m4,hF2⟩
  | exit i=>obtain ⟨b',rfl,hp⟩:=hdone (.exit i) rfl (by simp [gy]) hkk; exact hp
  | ret=>obtain ⟨b',rfl,hp⟩:=hdone .ret rfl (by simp [gy]) hkk; exact hp
 ·obtain ⟨e',s',c1,τ,F1,rfl,hne,rfl,rfl,hi,hle,hr,st,hF⟩:=hp;obtain ⟨S,x,g1,g2,g3⟩:=Kr hi hx;obtain ⟨c5,τ',k1,k2,k3,k4⟩:=N7 (dead:=dead) (m:=N.L.m) ht h3 hr (nQ h3 own) (λl' hl'=>(CV hle l' (hin l' hl') (hwc l' hl')).trans (hro (hin l' hl'))) ((CV hle l hinl hpl).trans (hro hinl)) hlv pJ st (λi hi=>hF i (mR hm hi))
   (λl' p g hl' hnw hnd hc hw=>qd h3 hl' (hnot l' hnw hnd) hc hw) (λl' i g hnw hnd hb=>BD h3 (hnot l' hnw hnd) hb) (λ_ _ hc=>hc) g1 g2
  rw [<- k1];exact hk e' _ c5 τ' F1 g3 k2 k3 (h2.trans (k4.mono λb _ hb=>nQ h3 own b hb)) hF
theorem jS (ht:aV P tb)(hd:iT P aj)(hmx:P.follows .mixedOrders=true):∀ (cd:Code) (p:Nat),iy H cd p=true->nK P n (jG tb aj H cd p) cd
 | .region id ops bL,p,hc=>by
   simp only [iy,ik'] at hc;refine xQ ht (λρ s k r X c σ F Q hX hx h hk=>?_) hc.1;have e:ops=ops.toList.toArray:=by simp
   rw [e];obtain ⟨σ1,h1,h2,h3⟩:=h.CU (H.pre id);rw [<- h1];refine bq' ht hd hX hmx (λdH'=>?_) hx h3 λs' c' τ F' g1 g2 g3 g4 g5=>hk .normal s' c' τ F' g1 g2 g3 (h2.trans g4) λi hi=>g5 i (by simpa [dQ,Eh] using hi)
   have:=hc.2;rw [dH'] at this;simpa using this
 | .seq a b,p,hc=>by
   simp only [iy,ik'] at hc;refine xQ ht (λρ s k r X c σ F Q hX hx h hk=>?_) hc.1.1;have hdst:∀ {i},dQ (.seq a b) i=false->dQ a i=false/\dQ b i=false:=λhi=>by simpa [dQ] using hi
   refine wp_seq (jS ht hd hmx a (2*p) hc.1.2 ρ s _ r X c σ F _ hX hx h λe s' c' τ F' g1 g2 g3 g4 g5=>?_);cases e with
   | normal=>exact jS ht hd hmx b (2*p+1) hc.2 ρ s' k r X c' τ F' Q hX g1 g3 λe s2 c2 υ F2 m1 m2 m3 m4 m5=>hk e s2 c2 υ F2 m1 (Cx.le_trans g2 m2) m3 (g4.trans m4) λi hi=>(m5 i (hdst hi).2).trans (g5 i (hdst hi).1)
   | exit i=>exact hk (.exit i) s' c' τ F' g1 g2 g3 g4 λi hi=>g5 i (hdst hi).1
   | ret=>exact hk .ret s' c' τ F' g1 g2 g3 g4 λi hi=>g5 i (hdst hi).1
 | .cond t a b,p,hc=>by
   simp only [iy,ik'] at hc;refine xQ ht (λρ s k r X c σ F Q hX hx h hk=>?_) hc.1.1;have hdst:∀ {i},dQ (.cond t a b) i=false->dQ a i=false/\dQ b i=false:=λhi=>by simpa [dQ] using hi
   obtain ⟨q,hq,hx⟩:=bind_some hx;rw [h.len] at hq;obtain ⟨h1,h2⟩:=wh h.frame hq;split at hx
   ·rename_i bb;simp only [RV] at h2;cases bb with
    | true=>exact wp_cond_true ((bq h1).trans h2) (jS ht hd hmx a (2*p) hc.1.2 ρ s k r X c σ F Q hX hx h λe s' c' τ F' g1 g2 g3 g4 g5=>hk e s' c' τ F' g1 g2 g3 g4 λi hi=>g5 i (hdst hi).1)
    | false=>exact wp_cond_false ((bq h1).trans h2) (jS ht hd hmx b (2*p+1) hc.2 ρ s k r X c σ F Q hX hx h λe s' c' τ F' g1 g2 g3 g4 g5=>hk e s' c' τ F' g1 g2 g3 g4 λi hi=>g5 i (hdst hi).2)
   ·cases hx
 | .block id a,p,hc=>by
   simp only [iy,ik'] at hc;refine xQ ht (λρ s k r X c σ F Q hX hx h hk=>?_) hc.1;refine wp_block (jS ht hd hmx a (2*p) hc.2 ρ s _ r X c σ F _ hX hx h λe s' c' τ F' g1 g2 g3 g4 g5=>?_);cases e with
   | normal=>exact hk .normal s' c' τ F' g1 g2 g3 g4 g5
   | exit j =>
     show (if j=id then Q .normal (fr n F') τ.w else Q (.exit j) (fr n F') τ.w)
     cases hb:il' j id with
     | true =>
       have g1':(bif il' j id then k .normal s' else k (.exit j) s')=some r:=g1
       rw [hb] at g1';rw [if_pos (ii' hb)];exact hk .normal s' c' τ F' g1' g2 g3 g4 g5
     | false =>
       have g1':(bif il' j id then k .normal s' else k (.exit j) s')=some r:=g1
       rw [hb] at g1';rw [if_neg (λe=>by subst e; simp at hb)]
       exact hk (.exit j) s' c' τ F' g1' g2 g3 g4 g5
   | ret=>exact hk .ret s' c' τ F' g1 g2 g3 g4 g5
 | .loop a,p,hc=>by
   simp only [iy,ik'] at hc;refine xQ ht (λρ s k r X c σ F Q hX hx h hk=>?_) hc.1;split at hx
   ·rename_i L hL;have hm:gZ L.m a=true:=by have:=hc.1;simp only [oK,hL,ik'] at this;exact this.1.1.2
    exact Yh ht (jS ht hd hmx a (2*p) hc.2) hm ρ s k r X c σ F Q hX hx h hk
   ·split at hx
    ·rename_i K hK;have hm:gZ K.m a=true:=by have:=hc.1;simp only [oK,hK,ik'] at this;exact this.1.2
     exact Sk ht (jS ht hd hmx a (2*p) hc.2) hm ρ s k r X c σ F Q hX hx h hk
    ·split at hx
     ·rename_i N hN;have hm:gZ N.L.m a=true:=by have:=hc.1;simp only [oK,hN,ik'] at this;exact this.2
      exact aE' ht (jS ht hd hmx a (2*p) hc.2) hm ρ s k r X c σ F Q hX hx h hk
     ·exact Ui (jS ht hd hmx a (2*p) hc.2) _ ρ s k r X c σ F Q hX hx h hk
 | .exit i,_,_=>λρ s k r X c σ F Q hX hx h hk=>wp_exit (hk (.exit i) s c σ F hx (Cx.le_refl c) h (Stp.refl _ _) λ_ _=>rfl)
 | .ret,_,_=>λρ s k r X c σ F Q hX hx h hk=>wp_ret (hk .ret s c σ F hx (Cx.le_refl c) h (Stp.refl _ _) λ_ _=>rfl)
 | .skip,_,_=>λρ s k r X c σ F Q hX hx h hk=>wp_skip (hk .normal s c σ F hx (Cx.le_refl c) h (Stp.refl _ _) λ_ _=>rfl)
 | .rangeFunc _ _ _ _,_,_=>λ_ _ _ _ _ _ _ _ _ _ hx=>by cases hx
 | .scope _,_,_=>λ_ _ _ _ _ _ _ _ _ _ hx=>by cases hx
 | .label _,_,_=>λ_ _ _ _ _ _ _ _ _ _ hx=>by cases hx
 | .goto _,_,_=>λ_ _ _ _ _ _ _ _ _ _ hx=>by cases hx
 | .refuse _,_,_=>λ_ _ _ _ _ _ _ _ _ _ hx=>by cases hx
end
end Go.Qx
end
section
open List renaming append_assoc->iA',getElem?_eq_getElem->in',getElem_mem->iL',mem_append->iw',nil_append->jx',nodup_append->iV',toArray->je'
open Nat renaming beq->il',blt->iG',le_refl->ip'
namespace Go.Qx
open Go Go.RowKit Go.Sx
inductive Pk where
 | d (k:Kd)
 | var (T:TypeId) (v:V) (w:Bool)
 | row (E:TypeId) (fl:Bool)
 | fn (ks:List Kd) (rs:List V)
 | gW (E:TypeId)
 | val (v:V)
 | iC (ks:List K)
section
variable (I:TypeId->Type)
abbrev GJ:Pk->Type
 | .d k=>Ty I k
 | .var _ v _=>jg I v
 | .row E _=>List (I E)
 | .fn ks rs=>nT I ks (dz I rs)
 | .gW E=>List (I E)
 | .val v=>jg I v
 | .iC ks=>fV I ks
abbrev eU:List Pk->Type
 | []=>Unit
 | p::r=>GJ I p×eU r
abbrev yF:List Pk->Type->Type
 | [],R=>Option R
 | p::r,R=>GJ I p->yF r R
end
def aR:List Pk->List V
 | []=>[]
 | .var _ v true::r=>v::aR r
 | _::r=>aR r
section
variable {I:TypeId->Type}
def nU {R:Type}:(ps:List Pk)->yF I ps R->eU I ps->Option R
 | [],g,_=>g
 | _::r,g,q=>nU r (g q.1) q.2
def qf {R:Type}:(ps:List Pk)->(eU I ps->Option R)->yF I ps R
 | [],g=>g ()
 | _::r,g=>λx=>qf r λq=>g (x,q)
theorem Bu {R:Type}:∀ (ps:List Pk) (g:eU I ps->Option R) (q:eU I ps),nU ps (qf ps g) q=g q
 | [],_,_=>rfl
 | _::r,g,q=>Bu r (λq'=>g (q.1,q')) q.2
structure Row (I:TypeId->Type) where
 f:FuncId
 ps:List Pk
 rs:List V
 run:yF I ps (dz I (rs++aR ps))
variable [∀ E,Rp (I E)]
def vT (v:V)(cs:List Value)(u:Value):Prop:=bif kF v then u=.agg cs.toArray else cs=[u]
def Z9 (P:Program)(M:Nat->Prop)(σ:S):(p:Pk)->GJ I p->Value->List Pl->Prop
 | .d k,x,v,af=>DV σ k x v/\af=[]
 | .var T vk w,x,v,af=>∃ b cs u p2,v=.pointer (some ⟨b,0,none⟩)/\σ.w.heap[b]?=some (.cells cs.toArray T (0,0))/\vT vk cs u/\TV σ vk x u p2/\(w=true->(σ.L b).1=0)/\(w=false->¬ M b) /\
    af=⟨some ⟨b,0,none⟩,0,0,bif w then some b else none⟩::p2
 | .row E fl,xs,v,af=>∃ A k ow,v=.slice A (xs:List (I E)).length k/\cu ow fl E σ (xs:List (I E)) A k/\af=[⟨A,k,(xs:List (I E)).length,ow⟩]
 | .fn ks rs,g,v,af=>∃ f ie' cs,v=.func (.func f) (je' ie') (je' cs)/\DI P M σ f ie' cs ks rs g/\af=[]
 | .gW E,xs,v,af=>∃ A k,v=.slice A (xs:List (I E)).length k/\gu M σ (xs:List (I E)) A/\af=[⟨A,k,(xs:List (I E)).length,none⟩]
 | .val vk,x,v,af=>TV σ vk x v af
 | .iC ks,x,v,af=>qM ks=true/\∃ cs,v=.agg cs.toArray/\qh M σ ks x cs af
def lK (P:Program)(M:Nat->Prop)(σ:S):(ps:List Pk)->eU I ps->List Value->List Pl->Prop
 | [],_,vs,af=>vs=[]/\af=[]
 | p::r,q,vs,af=>∃ v vs' p1 p2,vs=v::vs'/\af=p1++p2/\Z9 P M σ p q.1 v p1/\lK P M σ r q.2 vs' p2
def xW (τ:S):List Pk->List Value->List Value->Prop
 | [],[],us=>us=[]
 | .var T v true::r,u0::vs,us=>∃ b cs u je,u0=.pointer (some ⟨b,0,none⟩)/\us=u::je/\τ.w.heap[b]?=some (.cells cs.toArray T (0,0))/\(τ.L b).1=0/\vT v cs u/\xW τ r vs je
 | _::r,_::vs,us=>xW τ r vs us
 | _,_,_=>False
def dK:List Pk->List Value->List Nat
 | .var _ _ true::r,.pointer (some ⟨b,_,_⟩)::vs=>b::dK r vs
 | _::r,_::vs=>dK r vs
 | _,_=>[]
structure Post (σ τ:S)(ps:List Pk)(rs:List V)(vs:List Value)(res:dz I (rs++aR ps))(gr:List Nat)(v:Value)(ws us:List Value)(af:List Pl):Prop where
 ret:v=gB ws
 len:ws.length=rs.length
 tt:TT τ (rs++aR ps) res (ws++us) af
 out:xW τ ps vs us
 nodup:(ows af).Nodup
 own:∀ g∈ows af,(σ.N<=g\/g∈gr)/\g ∉ dK ps vs
def lC (P:Program)(r:Row I):Prop:=∀ (σ:S) (a:eU I r.ps) (vs:List Value) (af:List Pl) (res:dz I (r.rs++aR r.ps)),
 lK P (λb=>σ.N<=b\/b∈ows af) σ r.ps a vs af->(ows af).Nodup->nU r.ps r.run a=some res ->
  iB P r.f vs σ (Stp (λb=>b∈ows af) σ) λv τ=>∃ ws us dR,Post σ τ r.ps r.rs vs res (ows af) v ws us dR
def qO (P:Program)(r:Row I)(C:World->List Value->Prop):Prop:=∀ (σ:S) (a:eU I r.ps) (vs:List Value) (af:List Pl) (res:dz I (r.rs++aR r.ps)),
 lK P (λb=>σ.N<=b\/b∈ows af) σ r.ps a vs af->C σ.w vs->(ows af).Nodup->nU r.ps r.run a=some res ->
  iB P r.f vs σ (Stp (λb=>b∈ows af) σ) λv τ=>∃ ws us dR,Post σ τ r.ps r.rs vs res (ows af) v ws us dR
def dI (tb:aD I):Nat->(ps:List Pk)->eU I ps->List (PV I)
 | _,[],_=>[]
 | nb,.d k::r,q=>jV tb k q.1::dI tb nb r q.2
 | nb,.var _ v _::r,q=>.ptr nb 0::dI tb (nb+1+gU v) r q.2
 | nb,.row _ _::r,q=>.vw nb::dI tb (nb+1) r q.2
 | nb,.fn ks rs::r,q=>.fn ks rs q.1::dI tb nb r q.2
 | nb,.gW _::r,q=>.vw nb::dI tb (nb+1) r q.2
 | nb,.val v::r,q=>jF tb nb v q.1::dI tb (nb+gU v) r q.2
 | nb,.iC ks::r,q=>.agg (kY tb nb ks q.1)::dI tb (nb+jE ks) r q.2
def oF (tb:aD I):Nat->(ps:List Pk)->eU I ps->ay I->ay I
 | _,[],_,O=>O
 | nb,.d _::r,q,O=>oF tb nb r q.2 O
 | nb,.var T v w::r,q,O=>oF tb (nb+1+gU v) r q.2 (aZ (bV O (nb+1) (iL v q.1)) nb (some (.var T (lU v (jF tb (nb+1) v q.1)) w)))
 | nb,.row E fl::r,q,O=>oF tb (nb+1) r q.2 (aZ O nb (some (.row E q.1 fl)))
 | nb,.fn _ _::r,q,O=>oF tb nb r q.2 O
 | nb,.gW E::r,q,O=>oF tb (nb+1) r q.2 (aZ O nb (some (.bo E q.1)))
 | nb,.val v::r,q,O=>oF tb (nb+gU v) r q.2 (bV O nb (iL v q.1))
 | nb,.iC ks::r,q,O=>oF tb (nb+jE ks) r q.2 (bV O nb (rq ks q.1))
def ru:List Pk->Nat
 | []=>0
 | .d _::r=>ru r
 | .var _ v _::r=>1+gU v+ru r
 | .row _ _::r=>1+ru r
 | .fn _ _::r=>ru r
 | .gW _::r=>1+ru r
 | .val v::r=>gU v+ru r
 | .iC ks::r=>jE ks+ru r
def kE (tb:aD I)(s:St I):List ResultVar->Option (List (PV I))
 | []=>some []
 | .tmp t::r=>bif iG' t s.n then (s.F t).bind λp=>(kE tb s r).bind λps=>some (p::ps) else none
 | .cell t T::r=>bif iG' t s.n then (match s.F t with
   | some (.ptr l 0)=>match s.O l with
     | some (some (.var _ ls _))=>(kZ tb T ls 0).bind λp=>(kE tb s r).bind λps=>some (p::ps)
     | _=>none
   | _=>none) else none
def gH (s:St I):Nat->List Pk->Option (List (PV I))
 | _,[]=>some []
 | nb,.var T v true::r=>match s.O nb with
   | some (some (.var T' ls true))=>bif il' T T' then (uW v ls).bind λp=>(gH s (nb+1+gU v) r).bind λps=>some (p::ps) else none
   | _=>none
 | nb,.var _ v false::r=>gH s (nb+1+gU v) r
 | nb,.row _ _::r=>gH s (nb+1) r
 | nb,.d _::r=>gH s nb r
 | nb,.fn _ _::r=>gH s nb r
 | nb,.gW _::r=>gH s (nb+1) r
 | nb,.val v::r=>gH s (nb+gU v) r
 | nb,.iC ks::r=>gH s (nb+jE ks) r
def lM:Nat->List Pk->List Nat
 | _,[]=>[]
 | nb,.var _ v true::r=>nb::lM (nb+1+gU v) r
 | nb,.var _ v false::r=>lM (nb+1+gU v) r
 | nb,.row _ _::r=>lM (nb+1) r
 | nb,.d _::r=>lM nb r
 | nb,.fn _ _::r=>lM nb r
 | nb,.gW _::r=>lM (nb+1) r
 | nb,.val v::r=>lM (nb+gU v) r
 | nb,.iC ks::r=>lM (nb+jE ks) r
def fP (tb:aD I)(ps:List Pk)(rs:List V)(results:List ResultVar):Ex->St I->Option (dz I (rs++aR ps)):=λe s=>match e with
 | .exit _=>none
 | _=>(kE tb s results).bind λa=>(gH s 0 ps).bind λb=>(fM tb s.O (rs++aR ps) (a++b)).bind λx=>bif oW (x.2.1++lM 0 ps) x.2.2&&il' a.length rs.length then some x.1 else none
def l7 (tb:aD I)(nt:Nat)(ps:List Pk)(a:eU I ps):St I:=⟨nt,λi=>(dI tb 0 ps a)[i]?,oF tb 0 ps a (λ_=>none),ru ps⟩
def Nw (tb:aD I)(aj:dn I)(H:Hints I)(cd:Code)(nt:Nat)(ps:List Pk)(rs:List V)(results:List ResultVar)(a:eU I ps):Option (dz I (rs++aR ps)) :=
 jG tb aj H cd 1 (dz I (rs++aR ps)) (l7 tb nt ps a) (fP tb ps rs results)
variable {P:Program}{tb:aD I}{X:aY}{c c':Cx}{σ τ:S}{n:Nat}{F:Fr}
theorem VS (ht:aV P tb){v:V}{x:jg I v}{cs:List Value}{u:Value}{af:List Pl}{nb:Nat}(hc:vT v cs u)(h:TV σ v x u af)(hn:jC c nb af):RG X c σ (lU v (jF tb nb v x)) cs:=by
 have hv:=(wm (X:=X) (nb:=nb) ht h hn).1;unfold lU;unfold vT at hc;cases ha:kF v with
 | true =>
   rw [ha] at hc;simp only [cond_true] at hc ⊢;rcases Cf (tb:=tb) (nb:=nb) (x:=x) ha with ⟨ls,e⟩ | ⟨E',y',e⟩
   ·rw [e] at hv ⊢;simp only [RV] at hv;obtain ⟨cs',q1,q2⟩:=hv;rw [hc] at q1;have:cs=cs':=by
     injection q1 with q1
     have:=congrArg Array.toList q1;simpa using this
    rw [this]; exact q2
   ·rw [e] at hv ⊢;simp only [RV] at hv;obtain ⟨cs',q1,q2⟩:=hv;rw [hc] at q1;have:cs=cs':=by
     injection q1 with q1
     have:=congrArg Array.toList q1;simpa using this
    rw [this]; exact RG.one q2
 | false =>rw [ha] at hc;simp only [cond_false] at hc ⊢;subst hc;exact RG.single (AA ha) hv
theorem JZ {v:V}{ls:List (PV I)}{p:PV I}{cs:List Value}(h:uW v ls=some p)(hl:RG X c σ ls cs):∃ u,RV X c σ p u/\vT v cs u:=by
 unfold uW at h;unfold vT;cases ha:kF v with
 | true =>rw [ha] at h;cases h;exact ⟨.agg cs.toArray,sj hl,rfl⟩
 | false =>
   rw [ha] at h;simp only [cond_false] at h;split at h
   ·rename_i p0;cases hd0:kV p0 with
    | true=>rw [hd0] at h; cases h
    | false =>
      rw [hd0] at h;cases h;simp only [RG] at hl;obtain ⟨a,r',rfl,hv,rfl⟩:=hl;rcases hv with hv | ⟨_,v,rfl,hv⟩
      ·exact (by cases p<;>first | exact hv.elim | cases hd0)
      ·exact ⟨v,hv,rfl⟩
   ·cases h
def ja (O:ay I):Prop:=∀ l E E' u xs q,O l≠some (some (.aA E E' u xs q))
omit [∀ E,Rp (I E)] in
theorem ja.set {O:ay I}{l:Nat}{o:Option (Ob I)}(h:ja O)(hn:lT o=true:=by rfl):ja (aZ O l o):=λl' E E' u xs q e=>by
 rcases bG e with ⟨_,e'⟩ | ⟨_,h2⟩
 ·exact absurd e'.symm (tT hn)
 ·exact h _ _ _ _ _ _ h2
theorem ja.bQ {s:St I}{c:Cx}{g:Nat}(h:ja s.O):bQ c σ s g:=λ_ _ ⟨_,_,⟨_,_,_,_,_,_,_,_,k1,_⟩,_⟩=>h _ _ _ _ _ _ k1
theorem ja.uz {O:ay I}{c:Cx}(h:ja O):dZ X c σ O :=
 have hb:∀ {l i b},¬ bX c σ O l i b:=λ⟨_,_,⟨_,_,_,_,_,_,_,_,k1,_⟩,_⟩=>h _ _ _ _ _ _ k1
 ⟨λ_ _ _ _ _ _ e=>absurd e (h _ _ _ _ _ _),λ_ _ _ k=>absurd k hb,λ_ _ _ k=>absurd k hb,λ_ _ _ _ _ k=>absurd k hb⟩
theorem qi (ht:aV P tb){M:Nat->Prop}(hM:∀ b,X.M b->M b)(hX:X.P=P):∀ {ps:List Pk} {a:eU I ps} {vs:List Value} {af:List Pl} {nb:Nat} {c:Cx} {s:St I} {done:List Nat},lK P M σ ps a vs af->Rel X c σ s n F->(∀ l,nb<=l->s.O l=none) ->
 (∀ l p g,aQ s l->c l=some p->p.w=some g->g∈done)->(done++ows af).Nodup->(∀ g∈ows af,X.M g)->ja s.O ->
 ∃ c',Cx.le c c'/\Rel X c' σ ⟨s.n,s.F,oF tb nb ps a s.O,s.nx⟩ n F/\ah X c' σ (dI tb nb ps a) vs
 | [],_,vs,af,nb,c,s,done,⟨h1,h2⟩,hr,_,_,_,_,_=>⟨c,Cx.le_refl c,hr,by subst h1; simp only [dI,ah]⟩
 | .d k::r,q,vs,af,nb,c,s,done,⟨v,vs',p1,p2,e1,e2,⟨h1,e3⟩,h2⟩,hr,hfr,hdn,hnd,fJ,hq=>by subst e3;rw [jx'] at e2;subst e2;obtain ⟨c',k1,k2,k3⟩:=qi ht hM hX h2 hr hfr hdn hnd fJ hq;refine ⟨c',k1,k2,?_⟩;simp only [dI,ah];exact ⟨v,vs',e1,sJ ht h1,k3⟩
 | .fn ks rs::r,q,vs,af,nb,c,s,done,⟨v,vs',p1,p2,e1,e2,⟨f,ie',cs,e4,h1,e3⟩,h2⟩,hr,hfr,hdn,hnd,fJ,hq=>by subst e3;rw [jx'] at e2;subst e2;obtain ⟨c',k1,k2,k3⟩:=qi ht hM hX h2 hr hfr hdn hnd fJ hq;refine ⟨c',k1,k2,?_⟩;simp only [dI,ah,RV];exact ⟨v,vs',e1,⟨f,ie',cs,e4,by rw [hX]; exact h1.1,h1.2.1,λτ hτ=>by rw [hX]; exact h1.2.2 τ (hτ.mono λb _ hb=>hM b hb)⟩,k3⟩
 | .gW E::r,q,vs,af,nb,c,s,done,⟨v,vs',p1,p2,e1,e2,⟨A,k,e4,h1,e3⟩,h2⟩,hr,hfr,hdn,hnd,fJ,hq=>by
   subst e3;subst e2;have hnb:=hfr nb (ip' _);have hcn:c nb=none:=hr.fq nb hnb;obtain ⟨a1,a2⟩:=hr.add (l:=nb) (o:=.bo E q.1) (p:=⟨A,k,List.length q.1,none⟩) hnb (λg hg=>by cases hg) ⟨A,k,dU _ _ _,h1.sub λb _=>hM b⟩
   obtain ⟨c',k1,k2,k3⟩:=qi (nb:=nb+1) (s:=aP s nb (some (.bo E q.1))) (done:=done) ht hM hX h2 a2 (λl hl=>by
    have:(aP s nb (some (Ob.bo E q.1))).O l=s.O l:=bW (by omega)
    rw [this]; exact hfr l (by omega)) (λl p g ⟨o,ho⟩ hc hw=>by
    rcases bG ho with ⟨e,_⟩ | ⟨e,ho'⟩
    ·subst e;rw [dU] at hc;cases hc;cases hw
    ·simp only [dw,if_neg e] at hc;exact hdn l p g ⟨o,ho'⟩ hc hw) (by rw [fZ] at hnd; exact hnd) (λg hg=>fJ g (by rw [fZ]; simp [hg])) hq.set
   refine ⟨c',Cx.le_trans a1 k1,k2,?_⟩;simp only [dI,ah,RV];exact ⟨v,vs',e1,⟨_,k1 _ _ (dU _ _ _),e4⟩,k3⟩
 | .row E fl::r,q,vs,af,nb,c,s,done,⟨v,vs',p1,p2,e1,e2,⟨A,k,ow,e4,h1,e3⟩,h2⟩,hr,hfr,hdn,hnd,fJ,hq=>by
   subst e3;subst e2;have hnb:=hfr nb (ip' _);obtain ⟨a1,a2⟩:=hr.newRow (nb:=nb) (E:=E) (xs:=q.1) (fl:=fl) hnb h1 λg hg=>⟨fJ g (by simp [ows,hg]),hq.bQ,λl' p' hl hc hw=>by have hd:=hdn l' p' g hl hc hw;rw [iV'] at hnd;exact hnd.2.2 g hd g (by simp [ows,hg]) rfl⟩
   have hnd':((done++ows [⟨A,k,List.length q.1,ow⟩])++ows p2).Nodup:=by rw [iA',<- fZ]; exact hnd
   obtain ⟨c',k1,k2,k3⟩:=qi (nb:=nb+1) (s:=aP s nb (some (.row E q.1 fl))) (done:=done++ows [⟨A,k,List.length q.1,ow⟩]) ht hM hX h2 a2 (λl hl=>by
    have:(aP s nb (some (Ob.row E q.1 fl))).O l=s.O l:=bW (by omega)
    rw [this]; exact hfr l (by omega)) (λl p g ⟨o,ho⟩ hc hw=>by
    rcases bG ho with ⟨e,_⟩ | ⟨e,ho'⟩
    ·subst e;rw [dU] at hc;cases hc;simp only at hw;subst hw;simp [ows]
    ·simp only [dw,if_neg e] at hc;simp [hdn l p g ⟨o,ho'⟩ hc hw]) hnd' (λg hg=>fJ g (by rw [fZ]; simp [hg])) hq.set
   refine ⟨c',Cx.le_trans a1 k1,k2,?_⟩;simp only [dI,ah,RV];exact ⟨v,vs',e1,⟨_,k1 _ _ (dU _ _ _),e4⟩,k3⟩
 | .val vk::r,q,vs,af,nb,c,s,done,⟨v,vs',p1,p2,e1,e2,nX,h2⟩,hr,hfr,hdn,hnd,fJ,hq=>by
   subst e2;have nX:TV σ vk q.1 v p1:=nX;have dD:=BL nX;have hlen:(iL vk q.1).length=gU vk:=by have:=(wm (X:=X) (c:=cZ c nb p1) (tb:=tb) (nb:=nb) ht nX ko).2;rw [dD.1,this]
   have jK:=hnd;rw [fZ,iV'] at jK;have zy:=jK.2.1;rw [iV'] at zy;have hdr:∀ g∈ows p1,g ∉ done:=λg hg hd=>jK.2.2 g hd g (by simp [hg]) rfl
   obtain ⟨a1,a2⟩:=Rel.addN (nb:=nb) hr (kK.2 λl hl=>hfr l (iQ.1 hl).1) dD zy.1 λg hg=>⟨fJ g (by rw [fZ]; simp [hg]),hq.bQ,λl' p' hl hc hw=>hdr g hg (hdn l' p' g hl hc hw)⟩
   have rV:jC (cZ c nb p1) nb p1:=ko;obtain ⟨w1,w2⟩:=wm (X:=X) (tb:=tb) (nb:=nb) ht nX rV;obtain ⟨c',k1,k2,k3⟩:=qi (nb:=nb+gU vk) (s:=addN s nb (iL vk q.1)) (done:=done++ows p1) ht hM hX h2 a2 (λl hl=>by
    show bV s.O nb (iL vk q.1) l=none;rw [ig (λhm=>by have:=(iQ.1 hm).2; omega)]
    exact hfr l (by omega)) (λl p g ⟨o,ho⟩ hc hw=>by
    by_cases hm:l∈dL nb (iL vk q.1).length
    ·obtain ⟨m1,m2⟩:=iQ.1 hm;have hlt:l-nb<p1.length:=by rw [<- dD.1]; omega
     have:=rV (l-nb) p1[l-nb] (in' hlt);rw [show nb+(l-nb)=l from by omega,hc] at this
     cases this;exact iw'.2 (.inr (wM.2 ⟨_,iL' _,hw⟩))
    ·have ho':bV s.O nb (iL vk q.1) l=some (some o):=ho;rw [ig hm] at ho';obtain ⟨p0,hp0⟩:=(hr.aL l o ho').place;have:=a1 l p0 hp0;rw [hc] at this;cases this;exact iw'.2 (.inl (hdn l p g ⟨o,ho'⟩ hp0 hw))) (by rw [iA',<- fZ]; exact hnd) (λg hg=>fJ g (by rw [fZ]; simp [hg])) (λl E E' u xs q e=>hq _ _ _ _ _ _ (o6 dD.not _ _ _ _ _ _ e))
   refine ⟨c',Cx.le_trans a1 k1,k2,?_⟩;simp only [dI,ah];exact ⟨v,vs',e1,w1.grow k1 _ _,k3⟩
 | .iC ks::r,q,vs,af,nb,c,s,done,⟨v,vs',p1,p2,e1,e2,nX,h2⟩,hr,hfr,hdn,hnd,fJ,hq=>by
   subst e2;obtain ⟨h0,cs,ev,hlk⟩:=nX;have dD:=KR (X:=X) hM hlk;have hlen:(rq ks q.1).length=jE ks:=by have:=(EO (X:=X) (c:=cZ c nb p1) (tb:=tb) (nb:=nb) ht hlk ko).2;rw [dD.1,this]
   have jK:=hnd;rw [fZ,iV'] at jK;have zy:=jK.2.1;rw [iV'] at zy;have hdr:∀ g∈ows p1,g ∉ done:=λg hg hd=>jK.2.2 g hd g (by simp [hg]) rfl
   obtain ⟨a1,a2⟩:=Rel.Hy (nb:=nb) hr (kK.2 λl hl=>hfr l (iQ.1 hl).1) dD zy.1 λg hg=>⟨fJ g (by rw [fZ]; simp [hg]),hq.bQ,λl' p' hl hc hw=>hdr g hg (hdn l' p' g hl hc hw)⟩
   have rV:jC (cZ c nb p1) nb p1:=ko;have w1:RV X (cZ c nb p1) σ (.agg (kY tb nb ks q.1)) v:=by simp only [RV];exact ⟨cs,ev,ah.g (EO (X:=X) (tb:=tb) (nb:=nb) ht hlk rV).1 (FC _ _ h0)⟩
   obtain ⟨c',k1,k2,k3⟩:=qi (nb:=nb+jE ks) (s:=addN s nb (rq ks q.1)) (done:=done++ows p1) ht hM hX h2 a2 (λl hl=>by
    show bV s.O nb (rq ks q.1) l=none;rw [ig (λhm=>by have:=(iQ.1 hm).2; omega)]
    exact hfr l (by omega)) (λl p g ⟨o,ho⟩ hc hw=>by
    by_cases hm:l∈dL nb (rq ks q.1).length
    ·obtain ⟨m1,m2⟩:=iQ.1 hm;have hlt:l-nb<p1.length:=by rw [<- dD.1]; omega
     have:=rV (l-nb) p1[l-nb] (in' hlt);rw [show nb+(l-nb)=l from by omega,hc] at this
     cases this;exact iw'.2 (.inr (wM.2 ⟨_,iL' _,hw⟩))
    ·have ho':bV s.O nb (rq ks q.1) l=some (some o):=ho;rw [ig hm] at ho';obtain ⟨p0,hp0⟩:=(hr.aL l o ho').place;have:=a1 l p0 hp0;rw [hc] at this;cases this;exact iw'.2 (.inl (hdn l p g ⟨o,ho'⟩ hp0 hw))) (by rw [iA',<- fZ]; exact hnd) (λg hg=>fJ g (by rw [fZ]; simp [hg])) (λl E E' u xs q e=>hq _ _ _ _ _ _ (o6 dD.not _ _ _ _ _ _ e))
   refine ⟨c',Cx.le_trans a1 k1,k2,?_⟩;simp only [dI,ah];exact ⟨v,vs',e1,w1.grow k1 _ _,k3⟩
 | .var T vk w::r,q,vs,af,nb,c,s,done,⟨v,vs',p1,p2,e1,e2,⟨b,cs,u,pr,e4,hh,hcv,nX,hL,hnM,e3⟩,h2⟩,hr,hfr,hdn,hnd,fJ,hq=>by
   subst e3;subst e2;have dD:=BL nX;have hlen:(iL vk q.1).length=gU vk:=by have:=(wm (X:=X) (c:=cZ c (nb+1) pr) (tb:=tb) (nb:=nb+1) ht nX ko).2;rw [dD.1,this]
   have hpw:ows (⟨some ⟨b,0,none⟩,0,0,bif w then some b else none⟩::pr)=(bif w then [b] else [])++ows pr:=by cases w<;>simp [ows]
   have jK:=hnd;rw [fZ,hpw] at jK;have dJ':(ows pr).Nodup:=by rw [iV'] at jK;have:=jK.2.1;rw [iV'] at this;have:=this.1;rw [iV'] at this;exact this.2.1
   have hdr:∀ g∈ows pr,g ∉ done:=λg hg hd=>by rw [iV'] at jK;exact jK.2.2 g hd g (by simp [hg]) rfl
   obtain ⟨a1,a2⟩:=Rel.addN (nb:=nb+1) hr (kK.2 λl hl=>hfr l (by have:=(iQ.1 hl).1; omega)) dD dJ' λg hg=>⟨fJ g (by rw [fZ,hpw]; simp [hg]),hq.bQ,λl' p' hl hc hw=>hdr g hg (hdn l' p' g hl hc hw)⟩
   have hnb:(addN s (nb+1) (iL vk q.1)).O nb=none:=by
    show bV s.O (nb+1) (iL vk q.1) nb=none;rw [ig (λhm=>by have:=(iQ.1 hm).1; omega)]
    exact hfr nb (ip' _)
   have rV:jC (cZ c (nb+1) pr) (nb+1) pr:=ko;have hcn:cZ c (nb+1) pr nb=none:=a2.fq nb hnb;have hle3:Cx.le (cZ c (nb+1) pr) (dw (cZ c (nb+1) pr) nb ⟨some ⟨b,0,none⟩,0,0,bif w then some b else none⟩):=wI hcn
   have Qi:∀ l p g,aQ (addN s (nb+1) (iL vk q.1)) l->cZ c (nb+1) pr l=some p->p.w=some g->g∈done\/g∈ows pr:=λl p g ⟨o,ho⟩ hc hw=>by
    by_cases hm:l∈dL (nb+1) (iL vk q.1).length
    ·obtain ⟨m1,m2⟩:=iQ.1 hm;have hlt:l-(nb+1)<pr.length:=by rw [<- dD.1]; omega
     have:=rV (l-(nb+1)) pr[l-(nb+1)] (in' hlt);rw [show nb+1+(l-(nb+1))=l from by omega,hc] at this
     cases this;exact .inr (wM.2 ⟨_,iL' _,hw⟩)
    ·have ho':bV s.O (nb+1) (iL vk q.1) l=some (some o):=ho;rw [ig hm] at ho';have hcl:∃ p0,c l=some p0:=by
      have:=hr.aL l o ho';cases o with
      | var T ls w=>obtain ⟨b,cs,k1,_⟩:=this; exact ⟨_,k1⟩
      | row E xs fl=>obtain ⟨A,k,ow,k1,_⟩:=this; exact ⟨_,k1⟩
      | ro E xs=>obtain ⟨A,k,k1,_⟩:=this; exact ⟨_,k1⟩
      | bo E xs=>obtain ⟨A,k,k1,_⟩:=this; exact ⟨_,k1⟩
      | aA E E' u xs q=>obtain ⟨A,k,ow,k1,_⟩:=this; exact ⟨_,k1⟩
      | map T kd m=>obtain ⟨b,k1,_⟩:=this; exact ⟨_,k1⟩
      | dO T kd m=>obtain ⟨b,k1,_⟩:=this; exact ⟨_,k1⟩
     obtain ⟨p0,hp0⟩:=hcl;have:=a1 l p0 hp0;rw [hc] at this;cases this;exact .inl (hdn l p g ⟨o,ho'⟩ hp0 hw)
   obtain ⟨b1,b2⟩:=a2.add (l:=nb) (o:=.var T (lU vk (jF tb (nb+1) vk q.1)) w) (p:=⟨some ⟨b,0,none⟩,0,0,bif w then some b else none⟩) hnb (λg hg=>by
    cases w with
    | false=>cases hg
    | true =>
      cases hg;refine ⟨fJ b (by rw [fZ,hpw]; simp),ja.bQ λl E E' u xs q e=>hq _ _ _ _ _ _ (o6 dD.not _ _ _ _ _ _ e),λl' p' hl hc hw=>?_⟩
      rw [iV'] at jK;rcases Qi l' p' b hl hc hw with hd | hd
      ·exact jK.2.2 b hd b (by simp) rfl
      ·have:=jK.2.1;rw [iV'] at this;have:=this.1;rw [iV'] at this;exact this.2.2 b (by simp) b hd rfl)
    ⟨b,cs,dU _ _ _,RG.grow hle3 _ _ (VS ht hcv nX rV),hh,hL,λe hb=>hnM e (hM b hb)⟩
   have hnd':((done++((bif w then [b] else [])++ows pr))++ows p2).Nodup:=by rw [iA']; exact jK
   obtain ⟨c',k1,k2,k3⟩:=qi (nb:=nb+1+gU vk) (s:=aP (addN s (nb+1) (iL vk q.1)) nb (some (.var T (lU vk (jF tb (nb+1) vk q.1)) w))) (done:=done++((bif w then [b] else [])++ows pr)) ht hM hX h2 b2 (λl hl=>by
    have:(aP (addN s (nb+1) (iL vk q.1)) nb (some (Ob.var T (lU vk (jF tb (nb+1) vk q.1)) w))).O l=bV s.O (nb+1) (iL vk q.1) l:=bW (by omega)
    rw [this,ig (λhm=>by have:=(iQ.1 hm).2; omega)]
    exact hfr l (by omega)) (λl p g ⟨o,ho⟩ hc hw=>by
    rcases bG ho with ⟨e,_⟩ | ⟨e,ho'⟩
    ·subst e;rw [dU] at hc;cases hc;cases w with
     | false=>cases hw
     | true=>cases hw; simp
    ·simp only [dw,if_neg e] at hc;rcases Qi l p g ⟨o,ho'⟩ hc hw with hd | hd
     ·simp [hd]
     ·simp [hd]) hnd' (λg hg=>fJ g (by rw [fZ]; simp [hg])) (ja.set λl E E' u xs q e=>hq _ _ _ _ _ _ (o6 dD.not _ _ _ _ _ _ e))
   refine ⟨c',Cx.le_trans a1 (Cx.le_trans b1 k1),k2,?_⟩;simp only [dI,ah,RV];exact ⟨v,vs',e1,⟨b,_,k1 _ _ (dU _ _ _),e4⟩,k3⟩
end
end Go.Qx
end
section
open Array renaming getElem_append->jG',getElem_ofFn->jq',replicate->jQ'
open Bool renaming and_eq_true->ik'
open List renaming getD->jk',getElem?_eq_getElem->in',getElem?_eq_none->iK',map_cons->iH',mem_append_left->jt',mem_append_right->jR',mem_cons->ir'
open Nat renaming beq->il',ble->iX',eq_of_beq_eq_true->ii',le_of_ble_eq_true->iE',le_refl->ip',le_trans->iz',zero_add->iO',zero_le->iP'
open Option renaming bind_some->io'
namespace Go.Qx
open Go Go.RowKit Go.Sx
section
variable {I:TypeId->Type} [∀ E,Rp (I E)] {P:Program}{tb:aD I}{X:aY}{c c':Cx}{σ τ:S}{n:Nat}{F:Fr}
omit [∀ E,Rp (I E)] in
theorem NR {s:St I}{ls:List Nat}{l:Nat}{T:TypeId}{vs:List (PV I)}{w:Bool}(ho:s.O l=some (some (.var T vs w))):(aG s s.O ls).O l=some (some (.var T vs w)):=by
 show bC s.O (aT s.O ls) l=_;rw [kH,ho];intro hm;have hp:∀ {ls:List Nat},l∈eF (aT s.O ls)->∃ E,∃ xs:List (I E),s.O l=some (some (.row E xs false)):=by
  intro ls
  induction ls with
  | nil=>intro h; simp [aT,eF] at h
  | cons a r ih =>
    intro h;simp only [aT] at h;split at h
    ·rename_i E xs e;simp only [eF,iH',ir'] at h;rcases h with rfl | h
     ·exact ⟨E,xs,e⟩
     ·exact ih h
    ·exact ih h
 obtain ⟨E,xs,e⟩:=hp hm;rw [ho] at e; cases e
theorem lK.len {M:Nat->Prop}:∀ {ps:List Pk} {a:eU I ps} {vs:List Value} {af:List Pl},lK P M σ ps a vs af->vs.length=ps.length
 | [],_,_,_,⟨h,_⟩=>by rw [h]; rfl
 | _::r,q,_,_,⟨v,vs',p1,p2,e1,e2,h1,h2⟩=>by rw [e1]; simp [lK.len h2]
theorem sG (ht:aV P tb){s:St I}(h:Rel X c σ s n F):∀ {rl:List ResultVar} {ps:List (PV I)},kE tb s rl=some ps->∃ ws,ah X c σ ps ws/\(rl.mapM (qm (fr n F).tmps)).run P σ.w=.ok ws σ.w
 | [],_,e=>by cases e; exact ⟨[],by simp only [ah],rfl⟩
 | .tmp t::r,_,e=>by
   simp only [kE] at e;obtain ⟨hb,e⟩:=aK e;obtain ⟨p,hp,e⟩:=bind_some e;obtain ⟨ps,hps,e⟩:=bind_some e;cases e;obtain ⟨ws,h1,h2⟩:=sG ht h hps;rw [h.len] at hb;refine ⟨F t::ws,by simp only [ah]; exact ⟨_,_,rfl,h.frame t p hp,h1⟩,?_⟩
   have e1:(qm (fr n F).tmps (.tmp t)).run P σ.w=.ok (F t) σ.w:=xY (P:=P) (n:=n) (F:=F) (r:=.tmp t) ⟨hb,rfl⟩;simp only [List.mapM_cons,Sem.run_bind,e1,h2,Result.andThen_ok,Sem.run_pure]
 | .cell t T::r,_,e=>by
   simp only [kE] at e;obtain ⟨hb,e⟩:=aK e;rw [h.len] at hb;split at e
   ·rename_i l hl;split at e
    ·rename_i T' ls w' ho;replace e:=bind_some e;obtain ⟨p,hp,e⟩:=e;replace e:=bind_some e;obtain ⟨ps,hps,e⟩:=e;cases e;obtain ⟨ws,h1,h2⟩:=sG ht h hps;obtain ⟨b,cs,k1,k2,k3,_⟩:=h.aL l _ ho;have hF:=h.frame t _ hl;simp only [RV] at hF;obtain ⟨b',w,h3,h4⟩:=hF;rw [k1] at h3;cases h3;obtain ⟨v,hv,hrun⟩:=vO (w:=σ.w) ht hp k2 (Lp k3);rw [iO'] at hrun;refine ⟨v::ws,by simp only [ah]; exact ⟨_,_,rfl,hv,h1⟩,?_⟩
     have e1:(qm (fr n F).tmps (.cell t T)).run P σ.w=.ok v σ.w:=xY (P:=P) (n:=n) (F:=F) (r:=.cell t T) ⟨hb,b,h4,hrun⟩;simp only [List.mapM_cons,Sem.run_bind,e1,h2,Result.andThen_ok,Sem.run_pure]
    ·cases e
   ·cases e
theorem yM {fn:Func}{tmps:Array Value}{ws:List Value}{w:World}(h:(fn.results.toList.mapM (qm tmps)).run P w=.ok ws w):(results fn tmps).run P w=.ok (gB ws) w:=by
 rw [Bd];have e:fn.results.mapM (qm tmps)=(do let l <- fn.results.toList.mapM (qm tmps); pure l.toArray):=by rw [Array.mapM_eq_mapM_toList];simp
 rw [e];simp only [Sem.run_bind,h,Result.andThen_ok,Sem.run_pure];congr 1;cases ws with
 | nil=>rfl
 | cons v r =>
   cases r with
   | nil=>simp [gB]
   | cons v' r=>simp [gB]
theorem oH (ht:aV P tb){s:St I}(h:Rel X c σ s n F):∀ {ps:List Pk} {a:eU I ps} {nb:Nat} {vs:List Value} {qs:List (PV I)},gH s nb ps=some qs->ah X c σ (dI tb nb ps a) vs ->
 ∃ us,ah X c σ qs us/\xW σ ps vs us/\∀ b∈dK ps vs,∃ l p T ls w,s.O l=some (some (.var T ls w))/\c l=some p/\p.w=some b/\l∈lM nb ps
 | [],_,_,vs,_,e,hv=>by cases e;simp only [dI,ah] at hv;subst hv;exact ⟨[],by simp only [ah],rfl,λb hb=>by cases hb⟩
 | .d k::r,q,nb,vs,qs,e,hv=>by simp only [dI,ah] at hv;obtain ⟨v,vs',rfl,_,hv⟩:=hv;obtain ⟨us,h1,h2,h3⟩:=oH ht h (ps:=r) (a:=q.2) e hv;refine ⟨us,h1,h2,?_⟩;intro b hb;exact h3 b (by cases v<;>exact hb)
 | .fn _ _::r,q,nb,vs,qs,e,hv=>by simp only [dI,ah] at hv;obtain ⟨v,vs',rfl,_,hv⟩:=hv;obtain ⟨us,h1,h2,h3⟩:=oH ht h (ps:=r) (a:=q.2) e hv;refine ⟨us,h1,h2,?_⟩;intro b hb;exact h3 b (by cases v<;>exact hb)
 | .row _ _::r,q,nb,vs,qs,e,hv=>by simp only [dI,ah] at hv;obtain ⟨v,vs',rfl,_,hv⟩:=hv;obtain ⟨us,h1,h2,h3⟩:=oH ht h (ps:=r) (a:=q.2) e hv;refine ⟨us,h1,h2,?_⟩;intro b hb;exact h3 b (by cases v<;>exact hb)
 | .gW _::r,q,nb,vs,qs,e,hv=>by simp only [dI,ah] at hv;obtain ⟨v,vs',rfl,_,hv⟩:=hv;obtain ⟨us,h1,h2,h3⟩:=oH ht h (ps:=r) (a:=q.2) e hv;refine ⟨us,h1,h2,?_⟩;intro b hb;exact h3 b (by cases v<;>exact hb)
 | .val _::r,q,nb,vs,qs,e,hv=>by simp only [dI,ah] at hv;obtain ⟨v,vs',rfl,_,hv⟩:=hv;obtain ⟨us,h1,h2,h3⟩:=oH ht h (ps:=r) (a:=q.2) e hv;refine ⟨us,h1,h2,?_⟩;intro b hb;exact h3 b (by cases v<;>exact hb)
 | .iC _::r,q,nb,vs,qs,e,hv=>by simp only [dI,ah] at hv;obtain ⟨v,vs',rfl,_,hv⟩:=hv;obtain ⟨us,h1,h2,h3⟩:=oH ht h (ps:=r) (a:=q.2) e hv;refine ⟨us,h1,h2,?_⟩;intro b hb;exact h3 b (by cases v<;>exact hb)
 | .var T vk false::r,q,nb,vs,qs,e,hv=>by simp only [dI,ah] at hv;obtain ⟨v,vs',rfl,_,hv⟩:=hv;obtain ⟨us,h1,h2,h3⟩:=oH ht h (ps:=r) (a:=q.2) e hv;refine ⟨us,h1,h2,?_⟩;intro b hb;exact h3 b (by cases v<;>exact hb)
 | .var T vk true::r,q,nb,vs,qs,e,hv=>by
   simp only [dI,ah] at hv;obtain ⟨v,vs',rfl,hv1,hv⟩:=hv;simp only [gH] at e;split at e
   ·rename_i T' ls ho;replace e:=aK e;obtain ⟨hT,e⟩:=e;have eT:=ii' hT;subst eT;replace e:=bind_some e;obtain ⟨p,hp,e⟩:=e;replace e:=bind_some e;obtain ⟨ps',hps,e⟩:=e;cases e;obtain ⟨us,h1,h2,h3⟩:=oH ht h (ps:=r) (a:=q.2) hps hv;obtain ⟨b,cs,k1,k2,k3,k4,_⟩:=h.aL nb _ ho;simp only [RV] at hv1;obtain ⟨b',w,h4,rfl⟩:=hv1;rw [k1] at h4;cases h4;obtain ⟨u,hu,hc⟩:=JZ hp k2;refine ⟨u::us,by simp only [ah]; exact ⟨u,us,rfl,hu,h1⟩,⟨b,cs,u,us,rfl,rfl,k3,k4 rfl,hc,h2⟩,λb0 hb=>?_⟩
    have hb':b0∈b::dK r vs':=hb;rcases ir'.1 hb' with rfl | hb'
    ·exact ⟨nb,_,_,_,_,ho,k1,rfl,List.mem_cons_self⟩
    ·obtain ⟨l,p,T,ls,w,g1,g2,g3,g4⟩:=h3 b0 hb';exact ⟨l,p,T,ls,w,g1,g2,g3,List.mem_cons_of_mem _ g4⟩
   ·cases e
theorem Ki (ht : aV P tb) {r : Row I} {C : World -> List Value -> Prop} {s0 : eU I r.ps -> St I} {fn : Func} {cd : Code} (nt : Nat) {rl : List ResultVar} (h0 : ∀ (X : aY) (c : Cx) (σ : S) (a : eU I r.ps) (vs : List Value) (F : Fr), Rel X c σ (l7 tb nt r.ps a) nt F -> ah X c σ (dI tb 0 r.ps a) vs -> (∀ i v, vs[i]? = some v -> F i = v) -> C σ.w vs -> Rel X c σ (s0 a) nt F) (hf : P.funcs[r.f]? = some fn) (hb : fn.body = some cd) (hname : (fn.name == "runtime.NumGoroutine") = false)
 (hn:fn.ntmps=nt) (hres:fn.results.toList=rl) (hle:iX' r.ps.length nt=true)
 (hspec:∀ (X:aY) (c:Cx) (σ:S) (F:Fr) (Q:Exit->Act->World->Prop) (a:eU I r.ps) (res:dz I (r.rs++aR r.ps)),X.P=P->(∃ vs,C σ.w vs)->Rel X c σ (s0 a) nt F->nU r.ps r.run a=some res ->
   (∀ (e:Ex) (s':St I) (c':Cx) (τ:S) (F':Fr),fP tb r.ps r.rs rl e s'=some res->Cx.le c c'->Rel X c' τ s' nt F'->Stp X.M σ τ->Q (gy e) (fr nt F') τ.w)->cd.wp P Q (fr nt F) σ.w) (hlo:tb.lo=0\/∀ w vs,C w vs->tb.lo<=w.heap.size:=by exact .inl rfl):qO P r C:=by
 intro σ a vs af res hA hC hnd happ
 let X:aY:=⟨P,σ.N,λb=>b∈ows af⟩
 have hlen:=hA.len;have qA:Rel X (λ_=>none) σ (⟨nt,λ_=>none,λ_=>none,0⟩:St I) nt (dP vs) :=
  ⟨rfl,(λ_ _ h=>by cases h),(λ_ _ h=>by cases h),(λ_ _ _ _ _ ⟨_,h⟩=>by cases h),(λ_ _ _ ⟨_,h⟩=>by cases h),λ_ _=>rfl,⟨ip' _,λE=>iz' (ht.low E) (hlo.elim (λh=>by rw [h]; exact iP' _) λh=>h _ _ hC)⟩,ja.uz λ_ _ _ _ _ _ h=>by cases h⟩
 obtain ⟨c1,_,i2,i3⟩:=qi (tb:=tb) (X:=X) (nb:=0) (done:=[]) ht (λb hb=>hb) rfl hA qA (λ_ _=>rfl) (λ_ _ _ ⟨_,h⟩=>by cases h) (by simpa using hnd) (λg hg=>.inr hg) (λ_ _ _ _ _ _ h=>by cases h)
 have hrel:Rel X c1 σ (l7 tb nt r.ps a) nt (dP vs):=by
  refine ⟨rfl,λi p hp=>?_,i2.aL,i2.inj,i2.mine,i2.fq,i2.base,i2.aA⟩;obtain ⟨v,hv,hr⟩:=ah.at_ _ _ i3 i p hp;have:dP vs i=v:=by simp [dP,jk',hv]
  rw [this]; exact hr
 have hrel:=h0 X c1 σ a vs (dP vs) hrel i3 (λi v hv=>by simp [dP,jk',hv]) hC
 refine .inl ⟨⟨fn,cd,hf,hb,hname⟩,calls_of_wp hf hb ?_⟩;have hle':=iE' hle;have e:(⟨vs.toArray++jQ' (fn.ntmps-vs.toArray.size) undef,[]⟩:Act)=fr nt (dP vs):=by
  rw [hn];simp only [fr];congr 1;apply Array.ext
  ·simp; omega
  ·intro i h1 h2;simp only [jq',dP,jG'];split
   ·rename_i hi; simp at hi; simp [jk',in' hi]
   ·rename_i hi; simp at hi; simp [jk',iK' hi]
 rw [e];refine hspec X c1 σ (dP vs) _ a res rfl ⟨vs,hC⟩ hrel happ λex s' c2 τ F' hfin hle2 hr st=>?_;have key:((kE tb s' rl).bind λa=>(gH s' 0 r.ps).bind λb=>(fM tb s'.O (r.rs++aR r.ps) (a++b)).bind λx=>bif oW (x.2.1++lM 0 r.ps) x.2.2&&il' a.length r.rs.length then some x.1 else none)=some res ->
  ∃ v,(results fn (fr nt F').tmps).run P τ.w=.ok v τ.w/\∃ v' τ',Ending.returned v=.returned v'/\τ'.w=τ.w/\Stp (λb=>b∈ows af) σ τ'/\∃ ws us dR,Post σ τ' r.ps r.rs vs res (ows af) v' ws us dR:=by
  intro hfin;obtain ⟨ra,hra,hfin⟩:=bind_some hfin;obtain ⟨rb,hrb,hfin⟩:=bind_some hfin;obtain ⟨y,hy,hfin⟩:=bind_some hfin;obtain ⟨hrows,hfin⟩:=aK hfin;cases hfin;simp only [ik'] at hrows;obtain ⟨r1,zu⟩:=tN hrows.1;have r2:∀ l,some l∈y.2.2->l ∉ y.2.1:=λl hl hm=>zu l hl (jt' _ hm);have hal:=ii' hrows.2;obtain ⟨τ',p1,p2,p3,p4,p5,p6⟩:=hr.pubs (O:=s'.O) (λ_ _ h=>h) y.2.1;obtain ⟨ws,w1,w2⟩:=sG ht hr hra;have Ii:gH (aG s' s'.O y.2.1) 0 r.ps=some rb:=by
   have:∀ {ps:List Pk} {nb:Nat} {qs:List (PV I)},gH s' nb ps=some qs->gH (aG s' s'.O y.2.1) nb ps=some qs:=by
    intro ps
    induction ps with
    | nil=>intro nb qs h; exact h
    | cons p r ih =>
      intro nb qs h;cases p with
      | d k=>exact ih h
      | fn ks rs=>exact ih h
      | row E fl=>exact ih h
      | gW E=>exact ih h
      | val v=>exact ih h
      | iC ks=>exact ih h
      | var T v w =>
        cases w with
        | false=>exact ih h
        | true =>
          simp only [gH] at h ⊢;split at h
          ·rename_i T' ls ho;rw [NR ho];replace h:=aK h;obtain ⟨hT,h⟩:=h;simp only [hT,cond_true];replace h:=bind_some h;obtain ⟨p,hp,h⟩:=h;replace h:=bind_some h;obtain ⟨ps',hps,h⟩:=h;rw [hp,io',ih hps];exact h
          ·cases h
   exact this hrb
  have hvs:ah X c2 τ' (dI tb 0 r.ps a) vs:=ah.step (st.trans p2) _ _ (ah.grow hle2 _ _ i3);obtain ⟨us,u1,u2,u3⟩:=oH ht p3 (a:=a) Ii hvs;have zw:=ah.app _ _ _ _ (ah.step p2 _ _ w1) u1;obtain ⟨dR,t1,t2⟩:=wF ht p4 p5 (ls:=y.2.1) (rows:=y.2.2) hy (λl hl=>hl) (λl hl=>r2 l hl) zw;have hlive:=Bo (ls:=y.2.1) (rows:=y.2.2) hy;have hl3:∀ l,some l∈y.2.2->aQ (aG s' s'.O y.2.1) l:=λl hl=>by obtain ⟨o,ho,_⟩:=hlive l hl;exact ⟨_,(p6 l (r2 l hl)).trans ho⟩
  refine ⟨gB ws,yM (by rw [hres]; exact w2),gB ws,τ',rfl,p1,(st.trans p2).mono λb hb hM=>?_,ws,us,dR,rfl,?_,t1,u2,At.nodup p3 t2 r1 hl3,λg hg=>?_⟩
  ·rcases hM with h | h
   ·have:σ.N<=b:=h;omega
   ·exact h
  ·rw [ah.len _ _ w1,hal]
  ·obtain ⟨l,p,a1,a2,a3⟩:=t2.mem g hg;refine ⟨p3.mine l p g (hl3 l a1) a2 a3,λhm=>?_⟩;obtain ⟨l',p',T,ls,w,ho',hc',hw',hn'⟩:=u3 g hm;have e:=p3.inj l l' p p' g (hl3 l a1) ⟨_,ho'⟩ a2 hc' a3 hw';subst e;exact zu l a1 (jR' _ hn')
 cases ex with
 | exit i=>cases hfin
 | normal =>obtain ⟨v,h1,v',τ',h2,h3⟩:=key hfin;exact ⟨rfl,v,h1,v',τ',h2,h3⟩
 | ret =>obtain ⟨v,h1,v',τ',h2,h3⟩:=key hfin;exact ⟨rfl,v,h1,v',τ',h2,h3⟩
theorem Ee (ht : aV P tb) {r : Row I} {fn : Func} {cd : Code} (nt : Nat) {rl : List ResultVar} (hf : P.funcs[r.f]? = some fn) (hb : fn.body = some cd) (hname : (fn.name == "runtime.NumGoroutine") = false)
 (hn:fn.ntmps=nt) (hres:fn.results.toList=rl) (hle:iX' r.ps.length nt=true)
 (hspec:∀ (X:aY) (c:Cx) (σ:S) (F:Fr) (Q:Exit->Act->World->Prop) (a:eU I r.ps) (res:dz I (r.rs++aR r.ps)),X.P=P->Rel X c σ (l7 tb nt r.ps a) nt F->nU r.ps r.run a=some res ->
   (∀ (e:Ex) (s':St I) (c':Cx) (τ:S) (F':Fr),fP tb r.ps r.rs rl e s'=some res->Cx.le c c'->Rel X c' τ s' nt F'->Stp X.M σ τ->Q (gy e) (fr nt F') τ.w)->cd.wp P Q (fr nt F) σ.w) (hlo:tb.lo=0:=by rfl):lC P r:=λσ a vs af res hA hnd happ =>
 Ki (C:=λ_ _=>True) (s0:=l7 tb nt r.ps) ht nt (λ_ _ _ _ _ _ h _ _ _=>h) hf hb hname hn hres hle (λX c σ F Q a res hX _=>hspec X c σ F Q a res hX) (.inl hlo) σ a vs af res hA trivial hnd happ
theorem QX {r:Row I}{C:World->List Value->Prop}(h:lC P r):qO P r C:=λσ a vs af res hA _=>h σ a vs af res hA
theorem V4 (ht:aV P tb){aj:dn I}(hd:iT P aj)(hmx:P.follows .mixedOrders=true){r:Row I}{C:World->List Value->Prop}{s0:eU I r.ps->St I}{fn:Func}{cd:Code}(nt:Nat){H:Hints I}{rl:List ResultVar}
 (h0 : ∀ (X : aY) (c : Cx) (σ : S) (a : eU I r.ps) (vs : List Value) (F : Fr), Rel X c σ (l7 tb nt r.ps a) nt F -> ah X c σ (dI tb 0 r.ps a) vs -> (∀ i v, vs[i]? = some v -> F i = v) -> C σ.w vs -> Rel X c σ (s0 a) nt F) (hf : P.funcs[r.f]? = some fn) (hb : fn.body = some cd) (hname : (fn.name == "runtime.NumGoroutine") = false)
 (hn:fn.ntmps=nt) (hres:fn.results.toList=rl) (hle:iX' r.ps.length nt=true) (hcode:iy H cd 1=true)
 (hrun:r.run=qf r.ps λa=>jG tb aj H cd 1 (dz I (r.rs++aR r.ps)) (s0 a) (fP tb r.ps r.rs rl)) (hlo:tb.lo=0\/∀ w vs,C w vs->tb.lo<=w.heap.size:=by exact .inl rfl):qO P r C :=
 Ki ht nt h0 hf hb hname hn hres hle (hlo:=hlo) λX c σ F Q a res hX _ hrel happ hk=>by rw [hrun,Bu] at happ;exact jS ht hd hmx cd 1 hcode _ _ _ res X c σ F Q hX happ hrel λe s' c' τ F' g1 g2 g3 g4 _=>hk e s' c' τ F' g1 g2 g3 g4
theorem YP (ht : aV P tb) {aj : dn I} (hd : iT P aj) (hmx : P.follows .mixedOrders = true) {r : Row I} {fn : Func} {cd : Code} (nt : Nat) {H : Hints I} {rl : List ResultVar} (hf : P.funcs[r.f]? = some fn) (hb : fn.body = some cd) (hname : (fn.name == "runtime.NumGoroutine") = false)
 (hn:fn.ntmps=nt) (hres:fn.results.toList=rl) (hle:iX' r.ps.length nt=true) (hcode:iy H cd 1=true) (hrun:r.run=qf r.ps (Nw tb aj H cd nt r.ps r.rs rl)) (hlo:tb.lo=0:=by rfl):lC P r :=
 Ee ht nt hf hb hname hn hres hle (hlo:=hlo) λX c σ F Q a res hX hrel happ hk=>by rw [hrun,Bu] at happ;exact jS ht hd hmx cd 1 hcode _ _ _ res X c σ F Q hX happ hrel λe s' c' τ F' g1 g2 g3 g4 _=>hk e s' c' τ F' g1 g2 g3 g4
end
end Go.Qx
end

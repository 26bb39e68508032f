/- Part 1. -/
import Derived.Test.YtjbmbpabpaeklaaGreatDoorK0
open Array renaming getElem?_toList->Lz',getElem_append->Nn',getElem_ofFn->MX',length_toList->LV',replicate->Nz'
open Bool renaming and_eq_true->Lc',and_true->Ma',eq_iff_iff->LZ',not_eq_true'->MN',or_eq_false_iff->NC',or_eq_true->LU',or_false->MP'
open List renaming Pairwise->NV',all_eq_true->Le',any_append->NM',any_cons->MA',any_eq_false->MQ',any_eq_true->LL',append_assoc->Lt',append_nil->MK',eq_nil_of_length_eq_zero->LB',filterMap_cons->Me',getD->Ms',getElem?_append_left->LD',getElem?_append_right->Ls',getElem?_drop->Mh',getElem?_eq_getElem->Lb',getElem?_eq_none->LR',getElem?_eq_some_iff->La',getElem?_map->Na',getElem?_take_of_lt->Lw',getElem?_toArray->MU',getElem_mem->Lu',length_append->Lf',length_cons->Ld',length_drop->LK',length_map->LH',length_nil->Lh',length_take->LC',map_cons->LJ',mem_append->Lo',mem_append_left->LN',mem_append_right->LT',mem_cons->Lq',mem_filter->MM',mem_filterMap->NN',mem_map->Lx',mem_of_getElem?->Lj',mem_singleton->Lp',nil_append->Mj',nodup_append->Ml',nodup_cons->Nl',pairwise_append->ML',pairwise_cons->Mr',range->LY',replicate->Ll',size_toArray->Nq',take_append->NI',take_append_drop->Mm',take_left->MJ',take_length->NT',take_of_length_le->NQ',toArray->MF'
open Nat renaming add_assoc->MC',add_mul->LP',add_sub_cancel_left->Mt',beq->Lm',ble->Mq',ble_eq_true_of_le->MV',blt->LF',eq_of_beq_eq_true->Li',le_mul_of_pos_right->Nr',le_of_ble_eq_true->LG',le_refl->Lg',le_trans->Lr',lt_or_ge->NR',min_eq_left->Nw',mul_le_mul_right->LA',one_mul->NF',testBit->Nj',zero_add->LM',zero_le->Mb'
open Option renaming bind_some->KY',getD_none->NU',getD_some->Mo',isSome_iff_exists->Nk',map_eq_some_iff->Mx',map_some->Mv'
namespace Go.Qx
open Go Go.RowKit Go.Sx
section
variable {I:TypeId->Type} [∀ E,Rp (I E)] {P:Program}{tb:aX I}{X:bZ}{c c':Cx}{σ τ:S}{s:St I}{n:Nat}{F:Fr}{O:aN I}
theorem Rel.newVar (h:Rel X c σ s n F){nb:Nat}{T:TypeId}{ls:List (PV I)}{cs:List Value}{b:Nat}(hnb:s.O nb=none)(hE:pE σ τ)(hb:kW σ.N 0 τ b T cs)(hl:RG X c τ ls cs) :
 Cx.le c (fP c nb ⟨some ⟨b,0,none⟩,0,0,some b⟩)/\Rel X (fP c nb ⟨some ⟨b,0,none⟩,0,0,some b⟩) τ (bG s nb (some (.var T ls true))) n F:=by
 have h':=h.step (Stp.ext hE);have hle:Cx.le c (fP c nb ⟨some ⟨b,0,none⟩,0,0,some b⟩):=F5 (h.jh nb hnb);refine h'.add hnb (λg hg=>?_) ⟨b,cs,iw _ _ _,RG.grow hle _ _ hl,hb.2.1,λ_=>by rw [hb.2.2],λe=>by cases e⟩
 cases hg;refine ⟨.inl (Lr' h.base.1 hb.1),h.Mr (Stp.ext hE) hb.1,λl' p' ⟨o,ho⟩ hc hw=>?_⟩;have:=(h.bB l' o ho).lt hc hw;have:=hb.1;omega
theorem Rel.newRow (h:Rel X c σ s n F){nb:Nat}{E:TypeId}{xs:List (I E)}{fl:Bool}{A:Option Addr}{k:Nat}{ow:Option Nat}(hnb:s.O nb=none)(ho:fD ow fl E σ xs A k)
 (hw:∀ g,ow=some g->X.M g/\eD c σ s g/\∀ l' p',bH s l'->c l'=some p'->p'.w≠some g) :
 Cx.le c (fP c nb ⟨A,k,xs.length,ow⟩)/\Rel X (fP c nb ⟨A,k,xs.length,ow⟩) σ (bG s nb (some (.row E xs fl))) n F :=
 h.add hnb hw ⟨A,k,ow,iw _ _ _,ho⟩
omit [∀ E,Rp (I E)] in
theorem xu {O:aN I}{nb:Nat}{o:Ob I}(h:jH O nb [o]=true):O nb=none:=by simp only [jH,Ma'] at h;simpa using h
theorem Rel.Er' (h:Rel X c σ s n F){nb:Nat}{T:TypeId}{kd:Kd}{m:List (ByteArray×Ty I kd)}(hnb:s.O nb=none)(hE:pE σ τ)(hm:qA τ kd m σ.N) :
 Cx.le c (fP c nb ⟨some ⟨σ.N,0,none⟩,0,0,some σ.N⟩)/\Rel X (fP c nb ⟨some ⟨σ.N,0,none⟩,0,0,some σ.N⟩) τ (bG s nb (some (.map T kd m))) n F:=by
 have h':=h.step (Stp.ext hE);refine h'.add hnb (λg hg=>?_) ⟨σ.N,iw _ _ _,hm⟩;cases hg;refine ⟨.inl h.base.1,h.Mr (Stp.ext hE) (Lg' _),λl' p' ⟨o,ho⟩ hc hw=>?_⟩;have:=(h.bB l' o ho).lt hc hw;omega
omit [∀ E,Rp (I E)] in
theorem nD' {E:TypeId}{p:PV I}{lo hi mx:Option Operand}{l:Nat}{xs:List (I E)}{y:Operand}(h:Vn O E p lo hi mx=some (l,xs,y)):p=.vw l/\lo=none/\hi=some y/\mx=none/\O l=some (some (.row E xs false)):=by
 unfold Vn at h;split at h
 ·split at h
  ·rename_i l0 x0 E' Y2 ho;replace h:=bind_some h;obtain ⟨ys,hys,h⟩:=h;obtain ⟨e,e'⟩:=lM hys;subst e;subst e';cases h;exact ⟨rfl,rfl,rfl,rfl,ho⟩
  ·cases h
 ·cases h
theorem tr' {T E:TypeId}{A:Option Addr}{len k sz:Nat}{h:Int}{w:World}(h0:0<=h)(hle:h<=(k:Int))(hT:P.underlying T=some (.slice E))(hE:(P.info? E).map (·.size)=some sz) :
 bg P w (Instr.sliceAt T (.slice A len k) none (some (.int .i64 h)) none) (.slice A h.toNat k):=by
 have hsz:=Sx.run_sizeOf hE w;simp only [bg,Instr.sliceAt,Instr.slice,Instr.sliceBounds,Instr.sliceBound,asIntOf,Sem.run_bind,run_underlying hT,Result.andThen_ok,Sem.run_pure,if_pos (And.intro h0 hle),hsz];have e:Option.map (λx:Addr=>x.add (0*sz)) A=A:=by cases A<;>simp [Addr.add]
 rw [e,Nat.sub_zero,Nat.sub_zero];by_cases hk:k=0<;>simp [hk]
omit [∀ E,Rp (I E)] in
theorem xZ' {E:TypeId}{p:PV I}{lo hi mx:Option Operand}{l:Nat}{xs:List (I E)}{y:Operand}(h:WI O E p lo hi mx=some (l,xs,y)):p=.vw l/\lo=some y/\hi=none/\mx=none/\O l=some (some (.row E xs false)):=by
 unfold WI at h;split at h
 ·split at h
  ·rename_i l0 x0 E' Y2 ho;replace h:=bind_some h;obtain ⟨ys,hys,h⟩:=h;obtain ⟨e,e'⟩:=lM hys;subst e;subst e';cases h;exact ⟨rfl,rfl,rfl,rfl,ho⟩
  ·cases h
 ·cases h
theorem Qu {q:PV I}{j:Int}{v:Value}(hj:jk q=some j)(hv:RV X c σ q v):v=.int .i64 j:=by
 unfold jk at hj;split at hj
 ·cases hj; simpa only [RV] using hv
 ·cases hj
theorem WJ {T:TypeId}{s t:ByteArray}{w:World}(l h:Option Int)(hT:P.underlying T=some .string)(hc:IX s (l.getD 0) (h.getD (s.size:Int))=some t) :
 bg P w (Instr.sliceAt T (.string s) (l.map λj=>.int .i64 j) (h.map λj=>.int .i64 j) none) (.string t):=by
 unfold IX at hc;split at hc
 ·rename_i hb;cases hc;obtain ⟨h0,h1,h2⟩:=hb;cases l with
  | none =>
    cases h with
    | none =>simp only [bg,Instr.sliceAt,Instr.slice,Instr.sliceBounds,Sem.run_bind,run_underlying hT,Result.andThen_ok,Option.map_none,NU'];simp
    | some j =>simp only [Mo',NU'] at h0 h1 h2;simp only [bg,Instr.sliceAt,Instr.slice,Instr.sliceBounds,Instr.sliceBound,asIntOf,Sem.run_bind,run_underlying hT,Result.andThen_ok,Option.map_none,Mv',Mo',NU'];simp;intro a;exact absurd (a h1) (by omega)
  | some i =>
    cases h with
    | none =>simp only [Mo',NU'] at h0 h1 h2;simp only [bg,Instr.sliceAt,Instr.slice,Instr.sliceBounds,Instr.sliceBound,asIntOf,Sem.run_bind,run_underlying hT,Result.andThen_ok,Option.map_none,Mv',Mo',NU'];simp;intro a;exact absurd (a h0) (by omega)
    | some j =>
      simp only [Mo'] at h0 h1 h2;have h3:i<=((j.toNat:Nat):Int):=by omega
      simp only [bg,Instr.sliceAt,Instr.slice,Instr.sliceBounds,Instr.sliceBound,asIntOf,Sem.run_bind,run_underlying hT,Result.andThen_ok,Mv',Mo'];simp;rw [if_pos (And.intro (Int.le_trans h0 h1) h2),if_pos (And.intro h0 (by omega))]
 ·cases hc
omit [∀ E,Rp (I E)] in
theorem zl' {T:TypeId}{p v:PV I}{lo hi mx:Option Operand}(h:Ve tb T p lo hi mx=some v):∃ l o E m k,p=.ptr l o/\lo=none/\hi=none/\mx=none/\v=.av l o m/\tb.arr T=some (E,m,k):=by
 unfold Ve at h;split at h
 ·replace h:=bind_some h;obtain ⟨⟨E,m,k⟩,ha,h⟩:=h;cases h;exact ⟨_,_,E,m,k,rfl,rfl,rfl,rfl,rfl,ha⟩
 ·cases h
theorem DP' {T E:TypeId}{b o m k:Nat}{w:World}(hT:P.underlying T=some (.array m E))(hE:(P.info? E).map (·.size)=some k) :
 bg P w (Instr.sliceAt T (.pointer (some ⟨b,o,none⟩)) none none none) (.slice (some ⟨b,o,none⟩) m m):=by
 have hsz:=Sx.run_sizeOf hE w;simp only [bg,Instr.sliceAt,Instr.sureAddr,Instr.sliceBounds,Sem.run_bind,run_underlying hT,Result.andThen_ok,Sem.run_pure,hsz];simp [Addr.add_mid]
theorem jK' (ht:bT P tb){O:aN I}{LS:List Nat}(hS:iU X c σ O LS){E:TypeId}:∀ {m:Nat} {ls:List (PV I)} {xs:List (I E)} {ps:List Nat} {cs:List Value},XQ tb O E m ls=some (xs,ps)->(∀ l∈ps,l∈LS)->RG X c σ ls cs->xs.length=m/\∃ d e,cs=d++e/\dJ σ xs d
 | 0,_,_,_,cs,h,_,_=>by cases h; exact ⟨rfl,[],cs,rfl,rfl⟩
 | m+1,ls,xs,ps,cs,h,hl,hg=>by
   replace h:=bind_some h;obtain ⟨r,hr,h⟩:=h;replace h:=bind_some h;obtain ⟨x,hx,h⟩:=h;replace h:=bind_some h;obtain ⟨t,xH,h⟩:=h;cases h;obtain ⟨c1,c2,rfl,k1,k2,k3⟩:=xU ht (a:=r.1) (b:=r.2) hr hg;have hd:=yI ht hS (ls:=x.2) hx (λl hm=>hl l (by simp [hm])) (Cm k2)
   obtain ⟨q1,d,e,rfl,q2⟩:=jK' ht hS (ps:=t.2) xH (λl hm=>hl l (by simp [hm])) k3
   obtain ⟨cx,e1,e2⟩:=hd;have:c1=cx:=by
    injection e1 with e1
    have:=congrArg Array.toList e1;simpa using this
   subst this;exact ⟨by simp [q1],c1++d,e,by rw [Lt'],c1,d,rfl,e2,q2⟩
theorem zM' (ht:bT P tb){O:aN I}{s1:St I}(h:Rel X c σ s1 n F){LS:List Nat}(hS:iU X c σ O LS){E:TypeId}{p:PV I}{x:List (I E)}{ls:List Nat}(hx:VZ tb O E p=some (x,ls))(hl:∀ l∈ls,l∈LS)
 (hO:∀ l T vs w,O l=some (some (.var T vs w))->l ∉ ls->s1.O l=some (some (.var T vs w))) {v:Value} (hv:RV X c σ p v):∃ A k,v=.slice A x.length k/\jP rf σ x A:=by
 unfold VZ at hx;split at hx
 ·rename_i l o m;split at hx
  ·rename_i T vs w ho;replace hx:=bind_some hx;obtain ⟨q,hq,hx⟩:=hx;replace hx:=bind_some hx;obtain ⟨t,xH,hx⟩:=hx;cases hel:t.2.elem l with
   | true=>rw [hel] at hx; cases hx
   | false =>
     rw [hel] at hx;cases hx;have hnl:l ∉ ls:=by simpa using hel
     obtain ⟨b,cs,k1,k2,k3,_⟩:=h.bB l _ (hO l T vs w ho hnl);obtain ⟨c1,c2,rfl,m1,m2,m3⟩:=xU ht (a:=q.1) (b:=q.2) hq k2;obtain ⟨q1,d,e,rfl,q2⟩:=jK' ht hS xH hl m3;simp only [RV] at hv;obtain ⟨b',k,m',w',k4,rfl⟩:=hv;rw [k1] at k4;injection k4 with k4
     injection k4 with k5
     injection k5 with k5
     injection k5 with k5
     subst k5;refine ⟨some ⟨b,o,none⟩,m,by rw [q1],d,q2,λ_=>⟨b,o,rfl,λi v hi=>?_,.inr λh=>h⟩⟩
     have hil:=(La'.1 hi).1;simp only [World.cell?,k3];rw [<- m1,<- Lz'];simp only [Ls' (Nat.le_add_right _ _),Mt',LD' hil];exact hi
  ·cases hx
 ·obtain ⟨A,k,e,hs⟩:=Vs hS hx hl hv;exact ⟨A,k,e,jP.SQ hs⟩
theorem CC' {ty:TypeId}(ht:bT P tb){O:aN I}{s1:St I}{T T' E:TypeId}{jo:Nat}(hE:tb.el T=some E)(hby:tb.bytes E=some jo)(h:Rel X c σ s1 n F){LS:List Nat}(hS:iU X c σ O LS){p:PV I}{x:List (I E)}{ls:List Nat}(hx:WV tb O E T T' p=some (x,ls))(hl:∀ l∈ls,l∈LS)
 (hO:∀ l T vs w,O l=some (some (.var T vs w))->l ∉ ls->s1.O l=some (some (.var T vs w))) {v:Value} (hv:RV X c σ p v):J3 P ty T T' E jo σ v x:=by
 obtain ⟨z,hT⟩:=ht.slice _ _ _ hE hby;unfold WV at hx;cases Y3:Lm' T' T with
 | true =>rw [Y3] at hx;have e:=Li' Y3;subst e;obtain ⟨A,k,e,hb⟩:=zM' ht h hS hx hl hO hv;rw [e];exact Bq' hb hT
 | false =>
   rw [Y3] at hx;replace hx:=bA hx;obtain ⟨hstr,hx⟩:=hx;replace hx:=bind_some hx;obtain ⟨t,xH,hx⟩:=hx;replace hx:=bind_some hx;obtain ⟨g,hg,hx⟩:=hx;cases hx;unfold Sc at xH;split at xH
   ·cases xH;simp only [RV] at hv;rw [hv];exact om' (ht.vL _ _ hg) hT (ht.isStr _ hstr)
   ·cases xH
theorem xT' {T E:TypeId}{g len k sz:Nat}{j:Int}{w:World}(h0:0<=j)(hlt:j<(len:Int))(hle:len<=k)(hT:P.underlying T=some (.slice E))(hE:(P.info? E).map (·.size)=some sz) :
 bg P w (Instr.sliceAt T (.slice (some ⟨g,0,none⟩) len k) (some (.int .i64 j)) none none) (.slice (some ⟨g,j.toNat*sz,none⟩) (len-j.toNat) (k-j.toNat)):=by
 have hne:k≠j.toNat:=by omega
 have hjl:j<=(len:Int):=by omega
 simp only [bg,Instr.sliceAt,Instr.slice,Instr.sliceBounds,Instr.sliceBound,asIntOf,Sem.run_bind,run_underlying hT,Result.andThen_ok,Sem.run_pure,if_pos (And.intro h0 hjl),Sx.run_sizeOf hE,if_neg hne,Mv',Addr.add_mid,LM']
omit [∀ E,Rp (I E)] in
theorem zc' [∀ E,Rp (I E)] {E:TypeId}{zs:List (PV I)}{xs:List (I E)}:Qk tb E zs xs=.row E xs false\/∃ E' u r,Qk tb E zs xs=.aP E E' u xs 0/\tV tb 300 u zs=some r/\E8 tb 300 r.2=some (.nl E'):=by
 unfold Qk;split
 ·rename_i q hq;split
  ·rename_i r hr;split
   ·rename_i E' hh;cases hb:Lm' E' q.1 with
    | true =>have e:=Li' hb;subst e;exact .inr ⟨_,q.2,r,rfl,hr,hh⟩
    | false=>exact .inl rfl
   ·exact .inl rfl
  ·exact .inl rfl
 ·exact .inl rfl
theorem Rel.Es' (h:Rel X c σ s n F){nb k u:Nat}{E E':TypeId}{xs:List (I E)}(hst:Stp rf σ τ)(hnb:s.O nb=none)(hown:fD (some σ.N) false E τ xs (some ⟨σ.N,0,none⟩) k)
 (hcell:∀ i,i<xs.length->∃ A,τ.w.cell? ⟨σ.N,i*Rp.sz (I E)+u,none⟩=some (.slice A 0 0)) :
 Cx.le c (fP c nb ⟨some ⟨σ.N,0,none⟩,k,xs.length,some σ.N⟩)/\Rel X (fP c nb ⟨some ⟨σ.N,0,none⟩,k,xs.length,some σ.N⟩) τ (bG s nb (some (.aP E E' u xs 0))) n F:=by
 have h':=h.step hst;have hle:Cx.le c (fP c nb ⟨some ⟨σ.N,0,none⟩,k,xs.length,some σ.N⟩):=F5 (h.jh nb hnb);have hne:∀ {l},l≠nb->fP c nb ⟨some ⟨σ.N,0,none⟩,k,xs.length,some σ.N⟩ l=c l:=λe=>by simp [fP,e]
 refine h'.kJ' hnb (λg hg=>?_) ⟨_,_,_,iw _ _ _,hown⟩ ?_
 ·cases hg;refine ⟨.inl h.base.1,λl' p' ⟨o,ho⟩ hc hw=>?_⟩;have:=(h.bB l' o ho).lt hc hw;omega
 ·have hI:∀ {l i E1 v},iI (fP c nb ⟨some ⟨σ.N,0,none⟩,k,xs.length,some σ.N⟩) τ (cB s.O nb (some (.aP E E' u xs 0))) l i E1 v->(∃ A,v=.slice A 0 0)\/(l≠nb/\iI c τ s.O l i E1 v):=λ{l i E1 v} ⟨E2,u2,xE,q2,g,kk,m,w,h1,h2,h3,h4,h5⟩=>by
   rcases dM h1 with ⟨e,e2⟩ | ⟨e,e2⟩
   ·cases e2;subst e;rw [iw] at h2;cases h2;obtain ⟨A,hA⟩:=hcell i h3;rw [hA] at h5;cases h5;exact .inl ⟨A,rfl⟩
   ·rw [hne e] at h2;exact .inr ⟨e,E2,u2,xE,q2,g,kk,m,w,e2,h2,h3,h4,h5⟩
  have hB:∀ {l i b},fw (fP c nb ⟨some ⟨σ.N,0,none⟩,k,xs.length,some σ.N⟩) τ (cB s.O nb (some (.aP E E' u xs 0))) l i b->l≠nb/\fw c τ s.O l i b:=λ⟨E1,v,h1,h2⟩=>by
   rcases hI h1 with ⟨A,rfl⟩ | ⟨a1,a2⟩
   ·cases A<;>cases h2
   ·exact ⟨a1,E1,v,a2,h2⟩
  refine ⟨λl E1 E2 u1 uo q e i hi hq=>?_,λl i b hb=>h'.aP.mine l i b (hB hb).2,λl i b hb l' o p' ho' hc' hw'=>?_,λl i b l' i' h1 h2=>h'.aP.inj l i b l' i' (hB h1).2 (hB h2).2⟩
  ·rcases dM e with ⟨e1,e2⟩ | ⟨e1,e2⟩
   ·cases e2;subst e1;obtain ⟨A,hA⟩:=hcell i hi;refine ⟨_,⟨_,_,_,_,σ.N,k,xs.length,some σ.N,iq _ _ _,iw _ _ _,hi,hq,hA⟩,[],A,0,rfl,?_⟩;have:pR (.slice A 0 0)=none:=by cases A<;>rfl
    rw [this];exact .inl ⟨rfl,rfl⟩
   ·obtain ⟨v,⟨E3,u3,xG,q3,g,kk,m,w,h1,h2,h3⟩,k2⟩:=h'.aP.opn l _ _ _ _ _ e2 i hi hq;exact ⟨v,⟨E3,u3,xG,q3,g,kk,m,w,by rw [fq e1]; exact h1,by rw [hne e1]; exact h2,h3⟩,k2⟩
  ·rcases dM ho' with ⟨e1,_⟩ | ⟨e1,e2⟩
   ·subst e1;rw [iw] at hc';cases hc';cases hw';exact h.Mr hst (Lg' _) l i (hB hb).2
   ·rw [hne e1] at hc';exact h'.aP.free l i b (hB hb).2 l' o p' e2 hc' hw'
theorem cF' (ht:bT P tb)(h:Rel X c σ s n F){l j o k b u q:Nat}{E E' E2 T:TypeId}{xs:List (I E)}{ys:List (I E2)}{x0 x1:I E}{ls':List (PV I)}{x y:Operand}{d:Option Tmp}{ty:TypeId}{pos:String}{bV:Array Edge}
 {ops:Array Oper} {Q:Exit->Act->World->Prop} {rest:List Oper} (ho:s.O l=some (some (.aP E E' u xs q))) (hc:c l=some ⟨some ⟨b,0,none⟩,k,xs.length,some b⟩) (hxj:xs[j]?=some x0) (hls:BM tb o [.sl E2 ys false] [.dat E x0]=some ls') (hx1:Ay tb E ls'=some x1)
 (hxv:ev F x=.pointer (some ⟨b,j*Rp.sz (I E)+o,none⟩)) (h1:bR n x=true) (h3:bR n y=true) {v2:Value} (hyv:(ev F y).cells.toList=[v2]) (hsl:RV X c σ (.sl E2 ys false) v2) (hsz:(P.info? T).map (·.size)=some 1) (hone:v2.oneCell'=true)
 (hk:∀ υ,Stp (λb'=>b'=b) σ υ->gI X c υ l (.aP E E' u (xs.set j x1) q)->(∀ i,i≠j*Rp.sz (I E)+o->υ.w.cell? ⟨b,i,none⟩=σ.w.cell? ⟨b,i,none⟩)->υ.w.cell? ⟨b,j*Rp.sz (I E)+o,none⟩=some v2->o<Rp.sz (I E) ->
   wpList P ops Q rest (fr n (dF F d undef)) υ.w):wpList P ops Q (⟨d,.store T x y,ty,pos,bV,none⟩::rest) (fr n F) σ.w:=by
 obtain ⟨A,kk,ow,k1,k2⟩:=h.bB l _ ho;rw [hc] at k1;cases k1;obtain ⟨aM,cs,e,hh,a1,a2,a3,a4,a5,a6⟩:=k2;obtain ⟨c1,cj,c2,e1,e2,e3,e4⟩:=Px a4 hxj;have hlt:RG X c σ [(.sl E2 ys false:PV I)] [v2]:=RG.single rfl hsl;obtain ⟨g4,g5⟩:=O9 ht hls (RG.one (X:=X) (c:=c) e3) hlt;have g4:o+1<=cj.length:=g4;have Y4:=a4.len;have hcur:aM.toList=c1++cj++c2++aM.toList.drop (xs.length*Rp.sz (I E)):=by rw [<- e1,<- a5]; exact (Mm' _ _).symm
 have Kz':cj.length=Rp.sz (I E):=Rp.len e3;have hB:kW 0 b (sW σ) b E aM.toList:=⟨Mb' _,by show σ.w.heap[b]?=_; simpa using hh,by show ((σ.L b).1,b)=_; rw [show (σ.L b).1=0 from a6]⟩
 have hle:j*Rp.sz (I E)+o+[v2].length<=aM.toList.length:=by rw [hcur];simp only [Lf',e2,Ld',Lh'];omega
 have hnew:aM.toList.take (j*Rp.sz (I E)+o)++[v2]++aM.toList.drop (j*Rp.sz (I E)+o+[v2].length)=c1++(cj.take o++[v2]++cj.drop (o+[v2].length))++c2++aM.toList.drop (xs.length*Rp.sz (I E)):=by
  have f1:aM.toList.take (j*Rp.sz (I E)+o)=c1++cj.take o:=by
   rw [hcur,Lt',Lt',<- e2,NI',Mt',NQ' (by omega),NI',show o-cj.length=0 from by omega]
   simp
  have f2:aM.toList.drop (j*Rp.sz (I E)+o+[v2].length)=cj.drop (o+[v2].length)++c2++aM.toList.drop (xs.length*Rp.sz (I E)):=by
   conv=>lhs; rw [hcur]
   rw [Lt',Lt',<- e2,MC',List.drop_append,List.drop_of_length_le (by omega),Mt',List.drop_append,show o+[v2].length-cj.length=0 from by simp only [Ld',Lh']; omega]
   simp
  rw [f1,f2];simp only [Lt']
 show wpList P ops Q _ (fr n F) (sW σ).w;refine Pf hB (j*Rp.sz (I E)+o) _ [v2] _ hxv rfl h1 h3 hyv hsz (by simpa using hone) (MV' hle) hnew λυ hMod hB'=>?_
 have ni:=P9 hMod;have hM:X.M b:=h.mine l _ b ⟨_,ho⟩ hc rfl;have y9:Stp X.M σ υ:=ni.mono λ_ _ e=>by rw [e]; exact hM
 have hheap:=hB'.2.1;have hat:∀ i,υ.w.cell? ⟨b,i,none⟩=(aM.toList.take (j*Rp.sz (I E)+o)++[v2]++aM.toList.drop (j*Rp.sz (I E)+o+[v2].length))[i]?:=λi=>by unfold World.cell?;rw [hheap,hnew];simp
 have Et':∀ i,σ.w.cell? ⟨b,i,none⟩=aM.toList[i]?:=λi=>by unfold World.cell?;rw [hh];simp
 have hl0:(aM.toList.take (j*Rp.sz (I E)+o)).length=j*Rp.sz (I E)+o:=by rw [LC'];simp only [Ld',Lh'] at hle;omega
 refine hk υ ni ⟨some ⟨b,0,none⟩,k,some b,by simpa using hc,(c1++(cj.take o++[v2]++cj.drop (o+[v2].length))++c2++aM.toList.drop (xs.length*Rp.sz (I E))).toArray,c1++(cj.take o++[v2]++cj.drop (o+[v2].length))++c2,rfl,hB'.2.1,by simpa using a1,a2,?_,?_,?_,by rw [hB'.2.2]; rfl⟩ (λi hi=>?_) ?_ (by omega)
 ·rw [<- hnew];simp only [Nq',Lf',LC',LK'];rw [<- a3,<- LV'];omega
 ·exact e4 υ x1 _ y9.eP (Oq ht hx1 (RG.step y9 _ _ g5))
 ·rw [List.length_set];have hl1:(c1++(cj.take o++[v2]++cj.drop (o+[v2].length))++c2).length=xs.length*Rp.sz (I E):=by rw [<- Y4,e1];simp only [Lf',LC',LK',Ld',Lh'];omega
  rw [<- hl1];exact MJ'
 ·rw [hat,Et'];rcases NR' i (j*Rp.sz (I E)+o) with hlt' | hge
  ·rw [Lt',LD' (by rw [hl0]; exact hlt'),Lw' hlt']
  ·rw [Ls' (by simp only [Lf',Ld',Lh']; rw [hl0]; omega),Mh']
   congr 1;simp only [Lf',Ld',Lh'];rw [hl0];omega
 ·rw [hat,Lt',Ls' (by rw [hl0]; exact Lg' _),hl0,Nat.sub_self]
  rfl
theorem sT' (ht:bT P tb){aH:fQ I}(h:Rel X c σ s n F){G:Nat->Option (PV I)}(hG:tu X c σ G F)(iF:∀ l o,O l=some (some o)->s.O l=some (some o)){e:Ef I}{nb:Nat}{T:TypeId}{x:Operand}{d:Option Tmp}{ty:TypeId}{pos:String}{bV:Array Edge}
 (hx:xg tb aH n G O nb ty (.load T x) some=some e) (hne:e.new≠[]) (hf:jH (dD s.O e.upd) nb e.new=true) {ops:Array Oper} {Q:Exit->Act->World->Prop} {rest:List Oper}
 (hk:∀ v τ c',Cx.le c c'->Rel X c' τ (jQ s nb e) n F->RV X c' τ e.p v->Stp X.M σ τ->wpList P ops Q rest (fr n (dF F d v)) τ.w):wpList P ops Q (⟨d,.load T x,ty,pos,bV,none⟩::rest) (fr n F) σ.w:=by
 unfold xg at hx;replace hx:=bind_some hx;obtain ⟨p,hp,hx⟩:=hx;obtain ⟨h1,h2⟩:=EK hG hp;split at hx
 ·split at hx
  ·replace hx:=bind_some hx;obtain ⟨z,hz,hx⟩:=hx;cases hx;exact absurd rfl hne
  ·cases hx
 ·replace hx:=bind_some hx;obtain ⟨z,hz,hx⟩:=hx;cases hx;exact absurd rfl hne
 ·rename_i l sz j o;split at hx
  ·replace hx:=bA hx;obtain ⟨_,hx⟩:=hx;replace hx:=bind_some hx;obtain ⟨_,_,hx⟩:=hx;replace hx:=bind_some hx;obtain ⟨z,hz,hx⟩:=hx;cases hx;exact absurd rfl hne
  ·replace hx:=bA hx;obtain ⟨_,hx⟩:=hx;replace hx:=bind_some hx;obtain ⟨_,_,hx⟩:=hx;replace hx:=bind_some hx;obtain ⟨z,hz,hx⟩:=hx;cases hx;exact absurd rfl hne
  ·rename_i E E' u xs q0 ho;replace hx:=bA hx;obtain ⟨hsz,hx⟩:=hx;have hsz':=Li' hsz;subst hsz';replace hx:=bind_some hx;obtain ⟨x0,hxj,hx⟩:=hx;replace hx:=bind_some hx;obtain ⟨z,hz,hx⟩:=hx;cases hb:(Lm' q0 1&&Lm' o u) with
   | false =>rw [hb] at hx;cases hx;exact absurd rfl hne
   | true =>
     rw [hb] at hx;simp only [cond_true] at hx;simp only [Lc'] at hb;have hq1:=Li' hb.1;have hou:=Li' hb.2;subst hq1;subst hou;split at hx
     ·rename_i E1 ys full;replace hx:=bind_some hx;obtain ⟨zs,hzs,hx⟩:=hx;obtain ⟨e1,e2⟩:=lM hzs;subst e1;subst e2;cases hx;have hos:=iF _ _ ho;obtain ⟨A,k,ow,k1,k2⟩:=h.bB l _ hos;simp only [RV] at h2;obtain ⟨b,q,k',m,w,h3,h4⟩:=h2;rw [k1] at h3;cases h3;have hjl:j<xs.length:=(La'.1 hxj).1;obtain ⟨cj,c1,c2⟩:=k2.el hxj;have hq0:q=0/\ow=some b:=by
       cases ow with
       | none =>
         rcases k2 with ⟨e,_⟩ | ⟨e,_⟩
         ·subst e; simp at hxj
         ·cases e
       | some g =>obtain ⟨aM,cs,e,_⟩:=k2;cases e;exact ⟨rfl,rfl⟩
      obtain ⟨rfl,rfl⟩:=hq0;rcases RN (X:=X) (c:=c) ht hz (RG.one c1) with ⟨kk,_,_,hv⟩ | ⟨hone,v,hv,iG⟩
      ·simp only [RV] at hv;obtain ⟨A',k',e,_⟩:=hv;cases e
      have hcell:σ.w.cell? ⟨b,j*Rp.sz (I E)+o,none⟩=some v:=by have:=c2 o v hv;rwa [LM'] at this
      have kM':=iG;simp only [RV] at kM';obtain ⟨A1,k3,Y5,hsl,_⟩:=kM';have hN:=h.aP;have hat:iI c σ s.O l j E1 v:=⟨E,o,xs,1,b,_,_,_,hos,k1,hjl,by omega,hcell⟩
      obtain ⟨ys0,A0,k0,Uz,hown0⟩:=hN.kI' hat;rw [Y5] at Uz;have he0:A1=A0/\zs.length=ys0.length/\k3=k0:=by
       injection Uz with a1 a2 a3
       exact ⟨a1,a2,a3⟩
      obtain ⟨rfl,hyl,rfl⟩:=he0;have hown:=hown0.other hsl hyl;obtain ⟨hT1,hT2⟩:=hN.take (j:=j) hos (by omega)
      have h1':Rel X c σ (bG s l (some (.aP E E1 o xs (j+2)))) n F:=h.SS (g:=b) ⟨_,hos⟩ k1 rfl (Stp.refl _ _) (λo' e=>by cases e; exact ⟨_,_,_,k1,k2⟩) hT1
      have hnb:(bG s l (some (.aP E E1 o xs (j+2)))).O nb=none:=xu hf;obtain ⟨n1,n2⟩:=h1'.newRow (nb:=nb) hnb hown λg hg=>by
       have hin:fw c σ s.O l j g:=⟨E1,v,hat,by rw [Y5] at hg ⊢; exact hg⟩
       refine ⟨hN.mine _ _ _ hin,λl' i hb'=>?_,λl' p' ⟨o',ho'⟩ hc'=>?_⟩
       ·obtain ⟨b1,b2⟩:=hT2 _ _ _ hb';exact b2 (hN.inj _ _ _ _ _ hin b1)
       ·rcases dM ho' with ⟨e',_⟩ | ⟨_,e'⟩
        ·subst e'; exact hN.free _ _ _ hin _ _ _ hos hc'
        ·exact hN.free _ _ _ hin _ _ _ e' hc'
      refine om b (0+(j*Rp.sz (I E)+o)) v h4 h1 (vo hone (by rw [LM']; exact hcell)) ?_
      refine hk v σ _ n1 n2 ?_ (Stp.refl _ _);simp only [RV];exact ⟨_,iw _ _ _,Y5⟩
     ·cases hx
  ·cases hx
 ·cases hx
theorem snd (ht:bT P tb){aH:fQ I}(hd:lY P aH)(h:Rel X c σ s n F)(hX:X.P=P){G:Nat->Option (PV I)}(hG0:∀ i p,G i=some p->s.F i=some p)(iF:∀ l o,O l=some (some o)->s.O l=some (some o)){o:Oper}(hg:o.guard=none){e:Ef I}{nb:Nat}
 (hx:xg tb aH n G O nb o.type o.op some=some e) (hf:jH (dD s.O e.upd) nb e.new=true) {ops:Array Oper} {Q:Exit->Act->World->Prop} {rest:List Oper}
 (hk:∀ v τ c',Cx.le c c'->Rel X c' τ (jQ s nb e) n F->RV X c' τ e.p v->Stp X.M σ τ->wpList P ops Q rest (fr n (dF F o.dst v)) τ.w):wpList P ops Q (o::rest) (fr n F) σ.w:=by
 have hG:tu X c σ G F:=λi p hp=>h.frame i p (hG0 i p hp);have hO:∀ l o,O l=some (some o)->gI X c σ l o:=λl o ho=>h.bB l o (iF l o ho);have hval:∀ v p,e=⟨p,[],[]⟩->RV X c σ p v->wpList P ops Q rest (fr n (dF F o.dst v)) σ.w:=λv p he hv=>by subst he;exact hk v σ c (Cx.le_refl c) h hv (Stp.refl _ _)
 have hx0:=hx;obtain ⟨d,op,ty,pos,bV,g⟩:=o;simp only at hg hx hk hval hx0;subst hg;have E1:∀ {x p},dN n G x=some p->bR n x=true/\RV X c σ p (ev F x):=λhp=>EK hG hp;have E2:∀ {x p T},rY tb n G T x=some p->bR n x=true/\RV X c σ p (ev F x):=λhp=>Jv hG hp;have xI:∀ ls:List Nat,(∀ τ,τ.w=σ.w->Stp X.M σ τ->Rel X c τ (aZ s O ls) n F->iU X c τ O ls->Rows X c τ O ls->tu X c τ G F->(∀ l,l ∉ ls->(aZ s O ls).O l=s.O l)->wpList P ops Q (⟨d,op,ty,pos,bV,none⟩::rest) (fr n F) τ.w)->wpList P ops Q (⟨d,op,ty,pos,bV,none⟩::rest) (fr n F) σ.w:=λls k=>by obtain ⟨τ,h1,h2,h3,h4,h5,h6⟩:=h.pubs iF ls;rw [<- h1];exact k τ h1 h2 h3 h4 h5 (hG.step h2) h6
 have hnw:(∃ T x,op=.load T x)->e.new=[]\/wpList P ops Q (⟨d,op,ty,pos,bV,none⟩::rest) (fr n F) σ.w:=λ⟨T,x,e1⟩=>by
  subst e1;by_cases hne:e.new=[]
  ·exact .inl hne
  ·exact .inr (sT' ht h hG iF hx0 hne hf hk)
 by_cases hld:∃ T x,op=.load T x
 ·rcases hnw hld with hn | hn
  ·obtain ⟨T,x,rfl⟩:=hld;exact Uv (o:=⟨d,_,ty,pos,bV,none⟩) ht h hX hG hO rfl (by trivial) hx0 (λ_=>hn) hval
  ·exact hn
 unfold xg at hx;split at hx
 iterate 14 (exact Uv (o:=⟨d,_,ty,pos,bV,none⟩) ht h hX hG hO rfl (by trivial) hx0 (λh=>absurd h hld) hval)
 ·exact Uv (o:=⟨d,_,ty,pos,bV,none⟩) ht h hX hG hO rfl (by trivial) hx0 (λh=>absurd h hld) hval
 ·rename_i T x lo hi mx;replace hx:=bind_some hx;obtain ⟨p0,hp,hx⟩:=hx;split at hx
  ·rename_i s hv;have hps:p0=.str s:=by
    unfold Sc at hv;split at hv
    ·cases hv; rfl
    ·cases hv
   subst hps;replace hx:=bA hx;obtain ⟨hT,hx⟩:=hx;have hT:=ht.isStr _ hT;obtain ⟨h1,h2⟩:=E1 hp;simp only [RV] at h2;split at hx
   ·rename_i h;replace hx:=bind_some hx;obtain ⟨q,hq,hx⟩:=hx;replace hx:=bind_some hx;obtain ⟨j,hj,hx⟩:=hx;replace hx:=bind_some hx;obtain ⟨t,hc,hx⟩:=hx;cases hx;obtain ⟨k1,k2⟩:=E1 hq;have k2':=Qu hj k2;exact uV _ _ none (some (.int .i64 j)) none h2 h1 rfl (by rw [<- k2']; rfl) rfl (by simp [k1]) (WJ none (some j) hT hc) (hval _ _ rfl (by simp only [RV]))
   ·rename_i l;replace hx:=bind_some hx;obtain ⟨q,hq,hx⟩:=hx;replace hx:=bind_some hx;obtain ⟨j,hj,hx⟩:=hx;replace hx:=bind_some hx;obtain ⟨t,hc,hx⟩:=hx;cases hx;obtain ⟨k1,k2⟩:=E1 hq;have k2':=Qu hj k2;exact uV _ _ (some (.int .i64 j)) none none h2 h1 (by rw [<- k2']; rfl) rfl rfl (by simp [k1]) (WJ (some j) none hT hc) (hval _ _ rfl (by simp only [RV]))
   ·rename_i l h;replace hx:=bind_some hx;obtain ⟨q,hq,hx⟩:=hx;replace hx:=bind_some hx;obtain ⟨q',hq',hx⟩:=hx;replace hx:=bind_some hx;obtain ⟨j,hj,hx⟩:=hx;replace hx:=bind_some hx;obtain ⟨j',hj',hx⟩:=hx;replace hx:=bind_some hx;obtain ⟨t,hc,hx⟩:=hx;cases hx;obtain ⟨k1,k2⟩:=E1 hq;obtain ⟨k3,k4⟩:=E1 hq';have k2':=Qu hj k2;have k4':=Qu hj' k4;exact uV _ _ (some (.int .i64 j)) (some (.int .i64 j')) none h2 h1 (by rw [<- k2']; rfl) (by rw [<- k4']; rfl) rfl (by simp [k1,k3]) (WJ (some j) (some j') hT hc) (hval _ _ rfl (by simp only [RV]))
   ·cases hx
  split at hx
  ·rename_i v hv;obtain ⟨l,o,E,m,k,rfl,rfl,rfl,rfl,rfl,ha⟩:=zl' hv;obtain ⟨h1,h2⟩:=E1 hp;simp only [RV] at h2;obtain ⟨b,w,k1,e1⟩:=h2;cases hx;refine uV _ _ none none none e1 h1 rfl rfl rfl (by simp) (DP' (ht.arr _ _ _ _ ha).1 (ht.arr _ _ _ _ ha).2) (hval _ _ rfl ?_)
   simp only [RV];exact ⟨b,0,0,w,k1,rfl⟩
  replace hx:=bind_some hx;obtain ⟨E,hE,hx⟩:=hx;obtain ⟨h1,h2⟩:=E1 hp;obtain ⟨t1,t2⟩:=ht.el _ _ hE;split at hx
  ·rename_i w hw;obtain ⟨l,xs,y⟩:=w;obtain ⟨rfl,rfl,rfl,rfl,ho⟩:=nD' hw;replace hx:=bind_some hx;obtain ⟨q,hq,hx⟩:=hx;replace hx:=bind_some hx;obtain ⟨j,hj,hx⟩:=hx;replace hx:=bind_some hx;obtain ⟨ys,hys,hx⟩:=hx;cases hx;obtain ⟨h3,h4⟩:=E1 hq;have oM:ev F y=.int .i64 j:=by
    unfold jk at hj;split at hj
    ·cases hj; simpa only [RV] using h4
    ·cases hj
   obtain ⟨A,k,ow,k1,k2⟩:=hO _ _ ho;simp only [RV] at h2;obtain ⟨pl,k3,e1⟩:=h2;rw [k1] at k3;cases k3;obtain ⟨_,j0,j1,rfl⟩:=Ol hys;have hle:=k2.le;have j1:j<=(xs.length:Int):=j1;have hlen:((xs.take j.toNat).drop (0:Int).toNat).length=j.toNat:=by simp; omega
   have hol:=iF _ _ ho;have Ms:=h.kill (l:=l) ⟨_,hol⟩;have hnew:fD ow false E σ ((xs.take j.toNat).drop (0:Int).toNat) A k:=by
    show fD ow false E σ (xs.take j.toNat) A k;cases ow with
    | none =>
      rcases k2 with ⟨e,e'⟩ | ⟨e,_⟩
      ·subst e; exact .inl ⟨by simp,e'⟩
      ·cases e
    | some g =>
      obtain ⟨aM,cs,e,hh,a1,a2,a3,a4,a5,a6⟩:=k2;rw [<- Mm' j.toNat xs] at a4;obtain ⟨c1,c2,rfl,b1,b2⟩:=a4.split;have hl1:=b1.len;have hle1:(xs.take j.toNat).length<=xs.length:=by rw [LC']; omega
      refine ⟨aM,c1,e,hh,Lr' hle1 a1,a2,a3,b1,?_,a6⟩;have:aM.toList.take ((xs.take j.toNat).length*Rp.sz (I E))=(aM.toList.take (xs.length*Rp.sz (I E))).take ((xs.take j.toNat).length*Rp.sz (I E)):=by rw [List.take_take,Nw' (LA' _ hle1)]
      rw [this,a5,<- hl1,MJ']
   have hnb:(bG s l none).O nb=none:=xu hf;obtain ⟨n1,n2⟩:=Ms.newRow (nb:=nb) hnb hnew λg hg=>⟨h.mine l _ g ⟨_,hol⟩ k1 hg,(h.owned ⟨_,hol⟩ k1 hg).set,λl' p' ⟨o,ho'⟩ hc hw=>by
    rcases dM ho' with ⟨_,e⟩ | ⟨e,h'⟩
    ·cases e
    ·exact e (h.inj l' l _ _ g ⟨o,h'⟩ ⟨_,hol⟩ hc k1 hw hg)⟩
   refine uV _ _ none (some (.int .i64 j)) none e1 h1 rfl (by rw [<- oM]; rfl) rfl (by simp [h3]) (tr' (len:=xs.length) (k:=k) (A:=A) (sz:=Rp.sz (I E)) (w:=σ.w) j0 (by omega) t1 t2) ?_
   refine hk _ σ _ n1 n2 ?_ (Stp.refl _ _);simp only [RV];exact ⟨_,iw _ _ _,by rw [hlen]⟩
  split at hx
  ·rename_i w hw;obtain ⟨l,xs,y⟩:=w;obtain ⟨rfl,rfl,rfl,rfl,ho⟩:=xZ' hw;replace hx:=bind_some hx;obtain ⟨q,hq,hx⟩:=hx;replace hx:=bind_some hx;obtain ⟨j,hj,hx⟩:=hx;replace hx:=bind_some hx;obtain ⟨x0,hx0',hx⟩:=hx;obtain ⟨h3,h4⟩:=E1 hq;have oM:ev F y=.int .i64 j:=by
    unfold jk at hj;split at hj
    ·cases hj; simpa only [RV] using h4
    ·cases hj
   obtain ⟨A,k,ow,k1,k2⟩:=hO _ _ ho;simp only [RV] at h2;obtain ⟨pl,k3,e1⟩:=h2;rw [k1] at k3;cases k3;obtain ⟨h0,hxj⟩:=Gp hx0';have hlt:j.toNat<xs.length:=(La'.1 hxj).1;cases ow with
   | none =>
     rcases k2 with ⟨e,_⟩ | ⟨e,_⟩
     ·subst e; simp at hxj
     ·cases e
   | some g =>
     obtain ⟨aM,cs,e,_,hle,_⟩:=k2;subst e;cases hx;refine uV _ _ (some (.int .i64 j)) none none e1 h1 (by rw [<- oM]; rfl) rfl rfl (by simp [h3]) (xT' (len:=xs.length) (k:=k) (g:=g) (sz:=Rp.sz (I E)) (w:=σ.w) h0 (by omega) hle t1 t2) (hval _ _ rfl ?_)
     simp only [RV];exact ⟨g,k,xs.length,_,k1,rfl⟩
  replace hx:=bind_some hx;obtain ⟨xs,hxs,hx⟩:=hx;refine xI xs.2 λτ hw hst hrel hS hR AY hold=>?_;obtain ⟨A,k,e1,hs⟩:=Vs hS (ls:=xs.2) hxs (λl hl=>hl) (RV.step hst _ _ h2);have gJ:∀ (q:PV I) v,e=⟨q,bQ O xs.2,[]⟩->RV X c τ q v->wpList P ops Q rest (fr n (dF F d v)) τ.w:=λq v he hv=>by subst he;exact hk v τ c (Cx.le_refl c) hrel hv hst
  have Ik:∀ {x p},dN n G x=some p->bR n x=true/\RV X c τ p (ev F x):=λhp=>EK AY hp;have za:∀ {q:PV I} {j:Int} {v:Value},jk q=some j->RV X c τ q v->v=.int .i64 j:=by
   intro q j v hj hv;unfold jk at hj;split at hj
   ·cases hj; simpa only [RV] using hv
   ·cases hj
  split at hx
  ·cases hx;exact uV _ _ none (some (.int .i64 0)) (some (.int .i64 0)) e1 h1 rfl rfl rfl rfl (AK' t1 t2) (gJ _ _ rfl (by simp only [RV]; exact ⟨A,rfl⟩))
  ·replace hx:=bind_some hx;obtain ⟨q,hq,hx⟩:=hx;replace hx:=bind_some hx;obtain ⟨q',hq',hx⟩:=hx;replace hx:=bind_some hx;obtain ⟨h',hh',hx⟩:=hx;replace hx:=bind_some hx;obtain ⟨m',hm',hx⟩:=hx;replace hx:=bA hx;obtain ⟨hb,hx⟩:=hx;simp only [Lc',beq_iff_eq] at hb;obtain ⟨rfl,rfl⟩:=hb;obtain ⟨h3,h4⟩:=Ik hq;obtain ⟨h5,h6⟩:=Ik hq';have h4':=za hh' h4;have h6':=za hm' h6;cases hx;exact uV _ _ none (some (.int .i64 _)) (some (.int .i64 _)) e1 h1 rfl (by rw [<- h4']; rfl) (by rw [<- h6']; rfl) (by simp [h3,h5]) (uf' hs t1 t2) (gJ _ _ rfl (by simp only [RV]; exact ⟨A,xs.1.length,rfl,hs.clip,λ_=>rfl⟩))
  ·replace hx:=bind_some hx;obtain ⟨q,hq,hx⟩:=hx;replace hx:=bind_some hx;obtain ⟨h',hh',hx⟩:=hx;replace hx:=bind_some hx;obtain ⟨ys,hy,hx⟩:=hx;obtain ⟨h3,h4⟩:=Ik hq;have h4':=za hh' h4;obtain ⟨A',m',hr,hs'⟩:=Ef' hs hy t1 t2;cases hx;exact uV _ _ none (some (.int .i64 _)) none e1 h1 rfl (by rw [<- h4']; rfl) rfl (by simp [h3]) hr (gJ _ _ rfl (by simp only [RV]; exact ⟨A',m',rfl,hs',λe=>by cases e⟩))
  ·replace hx:=bind_some hx;obtain ⟨q,hq,hx⟩:=hx;replace hx:=bind_some hx;obtain ⟨h',hh',hx⟩:=hx;replace hx:=bind_some hx;obtain ⟨ys,hy,hx⟩:=hx;obtain ⟨h3,h4⟩:=Ik hq;have h4':=za hh' h4;obtain ⟨A',m',hr,hs'⟩:=tg' hs hy t1 t2;cases hx;exact uV _ _ (some (.int .i64 _)) none none e1 h1 (by rw [<- h4']; rfl) rfl rfl (by simp [h3]) hr (gJ _ _ rfl (by simp only [RV]; exact ⟨A',m',rfl,hs',λe=>by cases e⟩))
  ·replace hx:=bind_some hx;obtain ⟨q,hq,hx⟩:=hx;replace hx:=bind_some hx;obtain ⟨q',hq',hx⟩:=hx;replace hx:=bind_some hx;obtain ⟨l',hl',hx⟩:=hx;replace hx:=bind_some hx;obtain ⟨h',hh',hx⟩:=hx;replace hx:=bind_some hx;obtain ⟨ys,hy,hx⟩:=hx;obtain ⟨h3,h4⟩:=Ik hq;obtain ⟨h5,h6⟩:=Ik hq';have h4':=za hl' h4;have h6':=za hh' h6;obtain ⟨A',m',hr,hs'⟩:=AD' hs hy t1 t2;cases hx;exact uV _ _ (some (.int .i64 _)) (some (.int .i64 _)) none e1 h1 (by rw [<- h4']; rfl) (by rw [<- h6']; rfl) rfl (by simp [h3,h5]) hr (gJ _ _ rfl (by simp only [RV]; exact ⟨A',m',rfl,hs',λe=>by cases e⟩))
  ·cases hx
 ·replace hx:=bind_some hx;obtain ⟨ls,hz,hx⟩:=hx;cases hx;have hnb:s.O nb=none:=xu hf;obtain ⟨z,sz,jo,cs,hT,hc,hl⟩:=ht.zero _ _ hz;refine jX' (B:=σ.N) 0 (Lg' _) z cs hT hc λτ b hE hB=>?_;obtain ⟨k1,k2⟩:=h.newVar hnb hE hB (hl X c τ);exact hk _ τ _ k1 k2 (by simp only [RV]; exact ⟨b,_,iw _ _ _,rfl⟩) (Stp.ext hE).no
 ·replace hx:=bind_some hx;obtain ⟨q,hq,hx⟩:=hx;replace hx:=bind_some hx;obtain ⟨ls,hls,hx⟩:=hx;cases hx;have hnb:s.O nb=none:=xu hf;obtain ⟨h1,h2⟩:=E2 hq;have hl:=zJ hls h2;refine gh' (B:=σ.N) 0 (Lg' _) _ _ rfl h1 rfl λτ b hE hB=>?_;obtain ⟨k1,k2⟩:=h.newVar hnb hE hB (RG.step (Stp.ext hE).no _ _ hl);exact hk _ τ _ k1 k2 (by simp only [RV]; exact ⟨b,_,iw _ _ _,rfl⟩) (Stp.ext hE).no
 ·rename_i T x y;replace hx:=bind_some hx;obtain ⟨p,hp,hx⟩:=hx;replace hx:=bind_some hx;obtain ⟨q,hq,hx⟩:=hx;replace hx:=bind_some hx;obtain ⟨vs,hvs,hx⟩:=hx;replace hx:=bind_some hx;obtain ⟨m,hm,hx⟩:=hx;replace hx:=bA hx;obtain ⟨hb,hx⟩:=hx;simp only [Lc'] at hb;have b1:=Li' hb.1;have b2:=hb.2;subst b1;obtain ⟨h1,h2⟩:=E1 hp;obtain ⟨h3,h4⟩:=E2 hq;split at hx
  ·rename_i l o;split at hx
   ·rename_i T' ls ho;replace hx:=bind_some hx;obtain ⟨ls',DC,hx⟩:=hx;cases hx;have hl:=zJ hvs h4;generalize hvv:(ev F y).cells.toList=jD at hl;obtain ⟨b,cs,k1,k2,k3,k4,_⟩:=hO _ _ ho;simp only [RV] at h2;obtain ⟨b',w',k6,h2⟩:=h2;rw [k1] at k6;cases k6;have g1:=RG.len _ _ hl;obtain ⟨g2,g3⟩:=O9 ht DC k2 hl;have hB:kW 0 b (sW σ) b T' cs:=⟨Mb' _,k3,by show ((σ.L b).1,b)=_; rw [k4 rfl]⟩
    show wpList P ops Q _ (fr n F) (sW σ).w;refine Pf hB o _ jD _ h2 rfl h1 h3 hvv (by rw [g1]; exact ht.size _ _ hm) (SN _ _ b2 hl) (MV' g2) rfl λτ hMod hB'=>?_
    have hst:=P9 hMod;have hM:X.M b:=h.mine l _ b ⟨_,iF _ _ ho⟩ k1 rfl;have y9:Stp X.M σ τ:=hst.mono λ_ _ e=>by rw [e]; exact hM
    have hrel:=h.upd (o':=some (.var T' ls' true)) ⟨_,iF _ _ ho⟩ k1 rfl hst λo'' e=>by cases e;exact ⟨b,cs.take o++jD++cs.drop (o+jD.length),k1,RG.step y9 _ _ g3,hB'.2.1,λ_=>by rw [hB'.2.2],λe=>by cases e⟩
    exact hk _ τ c (Cx.le_refl c) hrel (by simp only [RV]) y9
   ·cases hx
  ·rename_i l sz j o;split at hx
   ·rename_i E xs ho;replace hx:=bA hx;obtain ⟨b3,hx⟩:=hx;have b3':=Li' b3;subst b3';replace hx:=bind_some hx;obtain ⟨t,ht',hx⟩:=hx;replace hx:=bind_some hx;obtain ⟨x0,hxj,hx⟩:=hx;replace hx:=bA hx;obtain ⟨b5,hx⟩:=hx;replace hx:=bind_some hx;obtain ⟨ls',DC,hx⟩:=hx;replace hx:=bind_some hx;obtain ⟨x1,hx1,hx⟩:=hx;cases hx;have b5':l ∉ t.2:=by simpa using b5
    refine xI t.2 λτ hw hst hrel hS hR AY hold=>?_;have hl:=zJ hvs (RV.step hst _ _ h4);generalize hvv:(ev F y).cells.toList=jD at hl;have hlt:=Sq hS (ls:=t.2) ht' (λl hl=>hl) hl;obtain ⟨A,k,ow,k1,k2⟩:=hR l E xs false ho b5';simp only [RV] at h2;obtain ⟨b,q,k',m',w',k6,h2⟩:=h2;rw [k1] at k6;cases k6;have xJ:bH (aZ s O t.2) l:=⟨_,(hold l b5').trans (iF _ _ ho)⟩;cases ow with
    | none =>
      rcases k2 with ⟨e,_⟩ | ⟨e,_⟩
      ·subst e; simp at hxj
      ·cases e
    | some g =>
      obtain ⟨aM,cs,e,hh,a1,a2,a3,a4,a5,a6⟩:=k2;cases e;rw [LM'] at h2;obtain ⟨c1,cj,c2,e1,e2,e3,e4⟩:=Px a4 hxj;have g1:=RG.len _ _ hl;obtain ⟨g4,g5⟩:=O9 ht DC (RG.one (X:=X) (c:=c) e3) hlt;have Y4:=a4.len;have hcur:aM.toList=c1++cj++c2++aM.toList.drop (xs.length*Rp.sz (I E)):=by rw [<- e1,<- a5]; exact (Mm' _ _).symm
      have hsz:cj.length=Rp.sz (I E):=Rp.len e3;have hB:kW 0 b (sW τ) b E aM.toList:=⟨Mb' _,by show τ.w.heap[b]?=_; simpa using hh,by show ((τ.L b).1,b)=_; rw [show (τ.L b).1=0 from a6]⟩
      have hle:j*Rp.sz (I E)+o+jD.length<=aM.toList.length:=by rw [hcur];simp only [Lf',e2];omega
      have hnew:aM.toList.take (j*Rp.sz (I E)+o)++jD++aM.toList.drop (j*Rp.sz (I E)+o+jD.length)=c1++(cj.take o++jD++cj.drop (o+jD.length))++c2++aM.toList.drop (xs.length*Rp.sz (I E)):=by
       have f1:aM.toList.take (j*Rp.sz (I E)+o)=c1++cj.take o:=by
        rw [hcur,Lt',Lt',<- e2,NI',Mt',NQ' (by omega),NI',show o-cj.length=0 from by omega]
        simp
       have f2:aM.toList.drop (j*Rp.sz (I E)+o+jD.length)=cj.drop (o+jD.length)++c2++aM.toList.drop (xs.length*Rp.sz (I E)):=by
        conv=>lhs; rw [hcur]
        rw [Lt',Lt',<- e2,MC',List.drop_append,List.drop_of_length_le (by omega),Mt',List.drop_append,show o+jD.length-cj.length=0 from by omega]
        simp
       rw [f1,f2];simp only [Lt']
      show wpList P ops Q _ (fr n F) (sW τ).w;refine Pf hB (j*Rp.sz (I E)+o) _ jD _ h2 rfl h1 h3 hvv (by rw [g1]; exact ht.size _ _ hm) (SN _ _ b2 (zJ hvs (RV.step hst _ _ h4) |> λhq=>by rw [hvv] at hq; exact hq)) (MV' hle) hnew λυ hMod hB'=>?_
      have ni:=P9 hMod;have hM:X.M b:=hrel.mine l _ b xJ k1 rfl;have y9:Stp X.M τ υ:=ni.mono λ_ _ e=>by rw [e]; exact hM
      have zb:=hrel.upd (o':=some (.row E (xs.set j x1) false)) xJ k1 rfl ni λo'' e=>by
       cases e;refine ⟨some ⟨b,0,none⟩,k,some b,by simpa using k1,(c1++(cj.take o++jD++cj.drop (o+jD.length))++c2++aM.toList.drop (xs.length*Rp.sz (I E))).toArray,c1++(cj.take o++jD++cj.drop (o+jD.length))++c2,rfl,hB'.2.1,by simpa using a1,a2,?_,?_,?_,by rw [hB'.2.2]; rfl⟩
       ·rw [<- hnew];simp only [Nq',Lf',LC',LK'];rw [<- a3,<- LV'];omega
       ·exact e4 υ x1 _ y9.eP (Oq ht hx1 (RG.step y9 _ _ g5))
       ·rw [List.length_set];have hl1:(c1++(cj.take o++jD++cj.drop (o+jD.length))++c2).length=xs.length*Rp.sz (I E):=by rw [<- Y4,e1];simp only [Lf',LC',LK'];omega
        rw [<- hl1];exact MJ'
      have hend:jQ s nb ⟨.undef,bQ O t.2++[(l,some (.row E (xs.set j x1) false))],[]⟩=bG (aZ s O t.2) l (some (.row E (xs.set j x1) false)):=by simp only [jQ,fo,oD,dD,bG,aZ]
      exact hk _ υ c (Cx.le_refl c) (by rw [hend]; exact zb) (by simp only [RV]) (hst.trans y9)
   ·rename_i E E' u xs q0 ho;replace hx:=bA hx;obtain ⟨b3,hx⟩:=hx;have b3':=Li' b3;subst b3';replace hx:=bind_some hx;obtain ⟨x0,hxj,hx⟩:=hx;split at hx
    ·rename_i l2;have hos:=iF _ _ ho;obtain ⟨A,k,ow,k1,k2⟩:=h.bB l _ hos;simp only [RV] at h2;obtain ⟨b,q,k',m',w',k6,h2⟩:=h2;rw [k1] at k6;cases k6;have hjl:j<xs.length:=(La'.1 hxj).1;have hq0:q=0/\ow=some b:=by
      cases ow with
      | none =>
        rcases k2 with ⟨e,_⟩ | ⟨e,_⟩
        ·subst e; simp at hxj
        ·cases e
      | some g =>obtain ⟨aM,cs,e,_⟩:=k2;cases e;exact ⟨rfl,rfl⟩
     obtain ⟨rfl,rfl⟩:=hq0;rw [LM'] at h2;have hcl:=zJ hvs h4;have hone:=SN _ _ b2 hcl;simp only [RG] at hcl;obtain ⟨a,r,hyv,hcl,rfl⟩:=hcl;rw [MK'] at hyv;rcases hcl with hcl | ⟨_,v2,rfl,hv2⟩
     ·exact hcl.elim
     simp only [RV] at hv2;obtain ⟨p2,hc2,A7⟩:=hv2;have hsz1:(P.info? T).map (·.size)=some 1:=ht.size _ _ hm
     have kP':v2.oneCell'=true:=by rw [hyv] at hone; simpa using hone
     have xJ:bH s l:=⟨_,hos⟩;split at hx
     ·rename_i E2 ys ho2;replace hx:=bA hx;obtain ⟨b5,hx⟩:=hx;simp only [Lc',MN'] at b5;obtain ⟨⟨⟨b5,b7⟩,b8⟩,b6⟩:=b5;have e1:=Li' b5;have e2:=Li' b6;have e3:=Li' b7;subst e1;subst e2;subst e3;have hne:l2≠l:=λe=>by subst e; simp at b8
      replace hx:=bind_some hx;obtain ⟨ls',DC,hx⟩:=hx;replace hx:=bind_some hx;obtain ⟨x1,hx1,hx⟩:=hx;cases hx;have A8:=iF _ _ ho2;obtain ⟨A2,Il,ow2,k3,k4⟩:=h.bB l2 _ A8;rw [k3] at hc2;cases hc2;have A7:v2=.slice A2 ys.length Il:=A7;have hsl:RV X c σ (.sl E2 ys false) v2:=by simp only [RV]; exact ⟨A2,Il,A7,k4.sl,λe=>by cases e⟩
      refine cF' (E':=E2) (u:=o) (q:=j+2) ht h hos k1 hxj DC hx1 h2 h1 h3 hyv hsl hsz1 kP' λυ hst Y6 hsame hnew _=>?_;have hM:X.M b:=h.mine l _ b xJ k1 rfl;have hkl:=h.kill (l:=l2) ⟨_,A8⟩;have hol:(bG s l2 none).O l=some (some (.aP E E2 o xs (j+2))):=by show cB s.O l2 none l=_;rw [fq hne.symm]; exact hos
      have hlv:∀ {l'},bH (bG s l2 none) l'->l'≠l2/\bH s l':=λ{l'} ⟨o',ho'⟩=>by
       rcases dM ho' with ⟨_,e'⟩ | ⟨e1,e'⟩
       ·cases e'
       ·exact ⟨e1,o',e'⟩
      obtain ⟨r1,r2⟩:=k4.Ei';rw [<- A7] at r1 r2;have hN:iE X c υ (cB (bG s l2 none).O l (some (.aP E E2 o (xs.set j x1) 0))):=by
       refine hkl.aP.turn (j:=j) hol k1 hst (λl' o' p' ho' hc' hw'=>hkl.inj l' l p' _ b ⟨o',ho'⟩ ⟨_,hol⟩ hc' k1 hw' rfl) (λl' E1 E3 u1 uo q1 g' kk m w e hc' hx'=>(hkl.bB l' _ e).Ml hc' hx') (by simp) (λi hi hij hq=>⟨by omega,hsame _ λe=>hij ?_⟩) λ_ _=>.inr ⟨v2,hnew,⟨ys,A2,Il,A7,r1.step hst λg hg e=>?_⟩,λb2 hb2=>⟨?_,?_,?_⟩⟩
       ·have hp:=Rp.pos (α:=I E);exact Nat.eq_of_mul_eq_mul_right hp (by omega)
       ·subst e;exact hne (h.inj l2 l _ _ g ⟨_,A8⟩ xJ k3 k1 (r2 g hg) rfl)
       ·exact h.mine l2 _ b2 ⟨_,A8⟩ k3 (r2 b2 hb2)
       ·exact (h.owned ⟨_,A8⟩ k3 (r2 b2 hb2)).set
       ·intro l' o' p' ho' hc' hw';obtain ⟨m1,m2⟩:=hlv ⟨o',ho'⟩;exact m1 (h.inj l' l2 p' _ b2 m2 ⟨_,A8⟩ hc' k3 hw' (r2 b2 hb2))
      have zb:=hkl.SS (l:=l) ⟨_,hol⟩ k1 rfl hst (λo' e=>by cases e; exact Y6) hN
      exact hk _ υ c (Cx.le_refl c) zb (by simp only [RV]) (hst.mono λb' _ e=>by rw [e]; exact hM)
     ·rename_i E2 ys ho2;replace hx:=bA hx;obtain ⟨b5,hx⟩:=hx;simp only [Lc',LU',MN'] at b5;obtain ⟨⟨b5,b6⟩,b8⟩:=b5;have hne:l2≠l:=λe=>by subst e; simp at b8
      have huo:u≠o:=by
       rcases b5 with b5 | b5
       ·have:=kN b5; omega
       ·have:=LG' b5; omega
      have hus:=kN b6;replace hx:=bind_some hx;obtain ⟨ls',DC,hx⟩:=hx;replace hx:=bind_some hx;obtain ⟨x1,hx1,hx⟩:=hx;cases hx;have A8:=iF _ _ ho2;obtain ⟨τ,t1,t2,t3⟩:=h.settle A8;have hol:(bG s l2 (some (.row E2 ys true))).O l=some (some (.aP E E' u xs q0)):=by show cB s.O l2 _ l=_;rw [fq hne.symm]; exact hos
      have Ex':(bG s l2 (some (.row E2 ys true))).O l2=some (some (.row E2 ys true)):=iq _ _ _;obtain ⟨A2,Il,ow2,k3,k4⟩:=t3.bB l2 _ Ex';rw [k3] at hc2;cases hc2;have A7:v2=.slice A2 ys.length Il:=A7;have hsl:RV X c τ (.sl E2 ys false) v2:=by simp only [RV]; exact ⟨A2,Il,A7,k4.sl,λe=>by cases e⟩
      rw [<- t1];refine cF' (E':=E') (u:=u) (q:=q0) ht t3 hol k1 hxj DC hx1 h2 h1 h3 hyv hsl hsz1 kP' λυ hst Y6 hsame hnew KC'=>?_;have hM:X.M b:=h.mine l _ b xJ k1 rfl;have hcells:∀ i,i<xs.length->υ.w.cell? ⟨b,i*Rp.sz (I E)+u,none⟩=τ.w.cell? ⟨b,i*Rp.sz (I E)+u,none⟩:=λi _=>hsame _ λe=>by
       by_cases hij:i=j
       ·subst hij; omega
       ·rcases Nat.lt_or_gt_of_ne hij with hlt | hlt
        ·have:(i+1)*Rp.sz (I E)<=j*Rp.sz (I E):=LA' _ hlt;rw [LP',NF'] at this;omega
        ·have:(j+1)*Rp.sz (I E)<=i*Rp.sz (I E):=LA' _ hlt;rw [LP',NF'] at this;omega
      have hN:iE X c υ (cB (bG s l2 (some (.row E2 ys true))).O l (some (.aP E E' u (xs.set j x1) q0))):=by refine t3.aP.turn (j:=j) hol k1 hst (λl' o' p' ho' hc' hw'=>t3.inj l' l p' _ b ⟨o',ho'⟩ ⟨_,hol⟩ hc' k1 hw' rfl) (λl' E1 E3 u1 uo q1 g' kk m w e hc' hx'=>(t3.bB l' _ e).Ml hc' hx') (by simp) (λi hi _ hq=>⟨hq,hcells i hi⟩) λhi hq=>.inl ⟨hq,hcells j hi⟩
      have zb:=t3.SS (l:=l) ⟨_,hol⟩ k1 rfl hst (λo' e=>by cases e; exact Y6) hN
      exact hk _ υ c (Cx.le_refl c) zb (by simp only [RV]) (t2.trans (hst.mono λb' _ e=>by rw [e]; exact hM))
     ·cases hx
    ·cases hx
   ·cases hx
  ·rename_i E e0 o;split at hx
   ·rename_i i a;replace hx:=bind_some hx;obtain ⟨z,hz,hx⟩:=hx;split at hx
    ·rename_i i' b;split at hx
     ·rename_i hi;subst hi;replace hx:=bA hx;obtain ⟨hab,hx⟩:=hx;obtain rfl:a=b:=by simpa using hab
      cases hx;have hl:=zJ hvs h4;generalize hvv:(ev F y).cells.toList=jD at hl;simp only [RV] at h2;obtain ⟨b',p0,cs,h2,c1,c2⟩:=h2;have hl1:=RG.len _ _ hl;have hl1:jD.length=1:=by rw [hl1]; rfl
      have iG:∃ v,jD=[v]/\v=.int i a:=by
       obtain ⟨v,e⟩:∃ v,jD=[v]:=by
        match jD,hl1 with
        | [v],_=>exact ⟨v,rfl⟩
       subst e;refine ⟨v,rfl,?_⟩;have hl2:vK σ (PV.int (I:=I) i a) [v]\/qD (PV.int (I:=I) i a)=false/\v=.int i a:=by simpa [RG,RV] using hl
       rcases hl2 with hl2 | hl2
       ·exact absurd hl2 (by simp [vK])
       ·exact hl2.2
      obtain ⟨v,rfl,rfl⟩:=iG;rcases RN (X:=X) (c:=c) ht hz (RG.one c1) with ⟨kk,_,_,hv⟩ | ⟨_,v,hv,iG⟩
      ·simp only [RV] at hv;cases hv
      ·simp only [RV] at iG;subst iG;have hol:=(La'.1 hv).1;exact pT' h2 h1 h3 hvv (ht.size _ _ hm) rfl (c2.2 o _ hv) (c2.1.2 o hol) (hk _ σ c (Cx.le_refl c) h (by simp only [RV]) (Stp.refl _ _))
     ·cases hx
    ·cases hx
   ·cases hx
  ·cases hx
 ·rename_i T len ps;replace hx:=bind_some hx;obtain ⟨E,hE,hx⟩:=hx;replace hx:=bind_some hx;obtain ⟨jo,hby,hx⟩:=hx;obtain ⟨z,hT⟩:=ht.slice _ _ _ hE hby;split at hx
  ·rename_i he;obtain rfl:ps=MF' []:=by cases ps; simp_all
   cases hx;exact vy' hT λτ A kQ'=>hk _ τ c (Cx.le_refl c) (h.step (Stp.ext kQ')) (by simp only [RV]; exact ⟨A,rfl⟩) (Stp.ext kQ').no
  ·replace hx:=bind_some hx;obtain ⟨xs,hxs,hx⟩:=hx;replace hx:=bA hx;obtain ⟨hb,hx⟩:=hx;simp only [Lc'] at hb;obtain ⟨⟨b1,b2⟩,b3⟩:=hb;cases hx;refine xI xs.2 λτ hw hst hrel hS hR AY hold=>?_;obtain ⟨vs,g1,g2,g3,g4,g5⟩:=dz' ht AY hS (ls:=xs.2) hxs (λl hl=>hl);have e:ps=ps.toList.toArray:=by simp
   rw [e];have hnb:(aZ s O xs.2).O nb=none:=xu hf;refine ti' hT xs.1 vs g1 g2 (Li' b1) g3 (kN b2) b3 g4 ?_
   let cs:=vs.flatMap (·.cells.toList)
   let υ:S:=⟨τ.w.alloc (.cells cs.toArray E),λb=>if b=τ.N then (0,b) else τ.L b⟩
   have Y7:∀ b,b<τ.N->υ.w.heap[b]?=τ.w.heap[b]?:=λb hb=>heap_alloc_old τ.w _ hb;have hL:∀ b,b<τ.N->υ.L b=τ.L b:=λb hb=>by simp [υ,Nat.ne_of_lt hb]
   have ni:Stp rf τ υ:=⟨⟨by simp [S.N,υ],λb hb=>by rw [hL b hb]; exact Lg' _,λb o v _ hv=>(wJ (Y7 b (um hv)) o).trans hv,Lg' _,λb o hb hf=>(Ck (Y7 b hb) o).trans hf⟩,rfl,rfl,rfl,λb hb _=>⟨Y7 b hb,by rw [hL b hb]⟩⟩
   have hcs:cs.length=xs.1.length*Rp.sz (I E):=g5.len;have hmax:xs.1.length<=maxLen:=by have h1:xs.1.length<=xs.1.length*Rp.sz (I E):=Nr' _ (Rp.pos (α:=I E));have h2:=LG' b3;rw [Li' b1] at h2;simp only [maxLen]; omega
   have hown:fD (some τ.N) false E υ xs.1 (some ⟨τ.N,0,none⟩) xs.1.length :=
    ⟨cs.toArray,cs,rfl,heap_alloc_new _ _,Lg' _,hmax,by simpa using hcs,g5.mono ni.eP,by rw [<- hcs]; exact NT',by simp [υ]⟩
   obtain ⟨k1,k2⟩:=(hrel.step ni).newRow hnb hown λg hg=>by cases hg;refine ⟨.inl hrel.base.1,hrel.Mr ni (Lg' _),λl' p' ⟨o,ho⟩ hc hw=>?_⟩;have:=(hrel.bB l' o ho).lt hc hw;omega
   exact hk _ υ _ k1 k2 (by simp only [RV]; exact ⟨_,iw _ _ _,rfl⟩) (hst.trans ni.no)
 ·rename_i T x y;replace hx:=bind_some hx;obtain ⟨p,hp,hx⟩:=hx;replace hx:=bind_some hx;obtain ⟨q,hq,hx⟩:=hx;replace hx:=bind_some hx;obtain ⟨len,hlen,hx⟩:=hx;replace hx:=bind_some hx;obtain ⟨cap,hcap,hx⟩:=hx;replace hx:=bind_some hx;obtain ⟨E,hE,hx⟩:=hx;replace hx:=bind_some hx;obtain ⟨jo,hby,hx⟩:=hx;replace hx:=bind_some hx;obtain ⟨zs,hzs,hx⟩:=hx;replace hx:=bind_some hx;obtain ⟨z0,hz0,hx⟩:=hx;replace hx:=bind_some hx;obtain ⟨m,hm,hx⟩:=hx;cases hx;have hnb:s.O nb=none:=xu hf;obtain ⟨h1,h2⟩:=E1 hp;obtain ⟨h3,h4⟩:=E1 hq;have za:∀ {q:PV I} {j:Int} {v:Value},jk q=some j->RV X c σ q v->v=.int .i64 j:=by
   intro q j v hj hv;unfold jk at hj;split at hj
   ·cases hj; simpa only [RV] using hv
   ·cases hj
  have h2':=za hlen h2;have h4':=za hcap h4;obtain ⟨z,hT⟩:=ht.slice _ _ _ hE hby;obtain ⟨z1,sz1,by1,cs1,hT1,hc1,hl1⟩:=ht.zero _ _ hzs;have hz:z1=z:=by obtain ⟨i,a1,a2,_⟩:=hT1;obtain ⟨_,⟨i',b1,b2,_⟩,_⟩:=hT;rw [a1] at b1;cases b1;rw [a2] at b2;cases b2;rfl
  subst hz;have hcell:Rp.cells σ z0 z1.cells.toList:=by rw [hc1]; exact ht.of X c σ E zs z0 cs1 hz0 (hl1 X c σ)
  obtain ⟨τ,k,hrun,hst,hown,hcells⟩:=CY' (P:=P) (σ:=σ) hT hcell hm;refine gH rfl (.slice (some ⟨σ.N,0,none⟩) (Ll' m z0).length k) τ.w ?_ ?_
  ·show Sem.run P (do pure (Next.value (<- Instr.makeSlice T ((fr n F).eval x) ((fr n F).eval y)))) σ.w=_
   rw [dx h1,dx h3,h2',h4',Sem.run_bind,hrun];rfl
  ·rcases zc' (tb:=tb) (zs:=zs) (xs:=Ll' m z0) (E:=E) with e | ⟨E',u,r,e,q1,q2⟩
   ·obtain ⟨k1,k2⟩:=(h.step hst).newRow hnb hown λg hg=>by
     cases hg;refine ⟨.inl h.base.1,h.Mr hst (Lg' _),λl' p' ⟨o,ho⟩ hc hw=>?_⟩;have:=(h.bB l' o ho).lt hc hw;omega
    rw [e] at hk;exact hk _ τ _ k1 k2 (by simp only [RV]; exact ⟨_,iw _ _ _,rfl⟩) hst.no
   ·obtain ⟨d1,d2,ed,hd1,_,hd2⟩:=xU (X:=X) (c:=c) (σ:=σ) ht (a:=r.1) (b:=r.2) q1 (hl1 X c σ);obtain ⟨v,hv,iG⟩:=Xu ht q2 hd2;simp only [RV] at iG;obtain ⟨A0,rfl⟩:=iG;have hzu:z1.cells.toList[u]?=some (.slice A0 0 0):=by
     rw [hc1,ed,Ls' (by omega),hd1,Nat.sub_self]
     exact hv
    obtain ⟨k1,k2⟩:=h.Es' (E':=E') (u:=u) hst hnb hown λi hi=>⟨A0,hcells i u _ (by simpa using hi) hzu⟩
    rw [e] at hk;exact hk _ τ _ k1 k2 (by simp only [RV]; exact ⟨_,iw _ _ _,rfl⟩) hst.no
 ·rename_i args ats;split at hx
  ·rename_i x T ea et;obtain rfl:args=#[x]:=by cases args; simp_all
   obtain rfl:ats=#[T]:=by cases ats; simp_all
   replace hx:=bind_some hx;obtain ⟨p,hp,hx⟩:=hx;obtain ⟨h1,h2⟩:=E1 hp;split at hx
   ·replace hx:=bind_some hx;obtain ⟨E,hE,hx⟩:=hx;cases hx;simp only [RV] at h2;obtain ⟨A,k,e1,_⟩:=h2;exact yA A _ k e1 h1 (ht.el _ _ hE).1 (hval _ _ rfl (by simp only [RV]))
   ·replace hx:=bind_some hx;obtain ⟨E,hE,hx⟩:=hx;cases hx;simp only [RV] at h2;obtain ⟨A,e1⟩:=h2;exact yA A 0 0 e1 h1 (ht.el _ _ hE).1 (hval _ _ rfl (by simp only [RV]; rfl))
   ·rename_i l;split at hx
    ·rename_i E' xs fl ho;replace hx:=bind_some hx;obtain ⟨E,hE,hx⟩:=hx;cases hx;obtain ⟨A,k,ow,k1,_⟩:=hO _ _ ho;simp only [RV] at h2;obtain ⟨pl,k2,e1⟩:=h2;rw [k1] at k2;cases k2;exact yA A _ k e1 h1 (ht.el _ _ hE).1 (hval _ _ rfl (by simp only [RV]))
    ·rename_i E' xs ho;replace hx:=bind_some hx;obtain ⟨E,hE,hx⟩:=hx;cases hx;obtain ⟨A,k,k1,_⟩:=hO _ _ ho;simp only [RV] at h2;obtain ⟨pl,k2,e1⟩:=h2;rw [k1] at k2;cases k2;exact yA A _ k e1 h1 (ht.el _ _ hE).1 (hval _ _ rfl (by simp only [RV]))
    ·rename_i E' xs ho;replace hx:=bind_some hx;obtain ⟨E,hE,hx⟩:=hx;cases hx;obtain ⟨A,k,k1,_⟩:=hO _ _ ho;simp only [RV] at h2;obtain ⟨pl,k2,e1⟩:=h2;rw [k1] at k2;cases k2;exact yA A _ k e1 h1 (ht.el _ _ hE).1 (hval _ _ rfl (by simp only [RV]))
    ·rename_i E' E1 u1 xs q1 ho;replace hx:=bind_some hx;obtain ⟨E,hE,hx⟩:=hx;cases hx;obtain ⟨A,k,ow,k1,_⟩:=hO _ _ ho;simp only [RV] at h2;obtain ⟨pl,k2,e1⟩:=h2;rw [k1] at k2;cases k2;exact yA A _ k e1 h1 (ht.el _ _ hE).1 (hval _ _ rfl (by simp only [RV]))
    ·cases hx
   ·rename_i l sz0 lo;split at hx
    ·rename_i E' xs fl ho;replace hx:=bind_some hx;obtain ⟨E,hE,hx⟩:=hx;cases hx;obtain ⟨A,k,ow,k1,_⟩:=hO _ _ ho;simp only [RV] at h2;obtain ⟨b,k',m,w,k2,e1⟩:=h2;rw [k1] at k2;cases k2;exact yA _ _ _ e1 h1 (ht.el _ _ hE).1 (hval _ _ rfl (by simp only [RV,LK']))
    ·cases hx
   ·replace hx:=bA hx;obtain ⟨hb,hx⟩:=hx;cases hx;simp only [RV] at h2;exact fH' _ h2 h1 (ht.isStr _ hb) (hval _ _ rfl (by simp only [RV]))
   ·cases hx
  ·cases hx
 ·rename_i args ats;split at hx
  ·rename_i x T ea et;obtain rfl:args=#[x]:=by cases args; simp_all
   obtain rfl:ats=#[T]:=by cases ats; simp_all
   replace hx:=bind_some hx;obtain ⟨p,hp,hx⟩:=hx;replace hx:=bind_some hx;obtain ⟨E,hE,hx⟩:=hx;replace hx:=bind_some hx;obtain ⟨jo,hby,hx⟩:=hx;replace hx:=bind_some hx;obtain ⟨zs,hzs,hx⟩:=hx;replace hx:=bind_some hx;obtain ⟨z0,hz0,hx⟩:=hx;obtain ⟨h1,h2⟩:=E1 hp;split at hx
   ·rename_i l sz lo;split at hx
    ·rename_i E' xs ho;replace hx:=bA hx;obtain ⟨hb,hx⟩:=hx;simp only [Lc'] at hb;have e2:=Li' hb.1;have hlt:=kN hb.2;subst e2;replace hx:=bind_some hx;obtain ⟨ys,hys,hx⟩:=hx;obtain ⟨e,e'⟩:=lM hys;subst e;subst e';cases hx;obtain ⟨z,hT⟩:=ht.slice _ _ _ hE hby;obtain ⟨z1,sz1,by1,cs1,hT1,hc1,hl1⟩:=ht.zero _ _ hzs;have hz:z1=z:=by obtain ⟨i,a1,a2,_⟩:=hT1;obtain ⟨_,⟨i',b1,b2,_⟩,_⟩:=hT;rw [a1] at b1;cases b1;rw [a2] at b2;cases b2;rfl
     subst hz;have hcell:Rp.cells σ z0 z1.cells.toList:=by rw [hc1]; exact ht.of X c σ _ zs z0 cs1 hz0 (hl1 X c σ)
     obtain ⟨A,k,ow,k1,k2⟩:=hO _ _ ho;simp only [RV] at h2;obtain ⟨b,k',m,w,k3,e1⟩:=h2;rw [k1] at k3;cases k3;cases ow with
     | none =>
       rcases k2 with ⟨e,_⟩ | ⟨e,_⟩
       ·subst e; simp at hlt
       ·cases e
     | some g =>
       have hg:g=b:=by obtain ⟨aM,cs,e,_⟩:=k2;cases e;rfl
       subst hg;obtain ⟨τ,hrun,hst,hown⟩:=pg' (ty:=ty) hT hcell k2 hlt;have hM:X.M g:=h.mine l _ g ⟨_,iF _ _ ho⟩ k1 rfl;have hrel:=h.upd (o':=some (.row _ (ys.take lo++Ll' (ys.length-lo) z0) false)) ⟨_,iF _ _ ho⟩ k1 rfl hst λo'' e=>by cases e;refine ⟨_,k,some g,?_,hown⟩;rw [k1];congr 2;simp;omega
       refine gH rfl (.tuple #[]) τ.w ?_ (hk _ τ c (Cx.le_refl c) hrel (by simp only [RV]; exact ⟨[],rfl,by simp only [aB]⟩) (hst.mono λ_ _ e=>by rw [e]; exact hM))
       simp [execOp,resolve,invoke,builtin,dx h1,e1,hrun]
    ·cases hx
   ·cases hx
  ·cases hx
 ·rename_i args ats;split at hx
  ·rename_i x y T T' ea et;obtain rfl:args=#[x,y]:=by cases args; simp_all
   obtain rfl:ats=#[T,T']:=by cases ats; simp_all
   replace hx:=bind_some hx;obtain ⟨p,hp,hx⟩:=hx;replace hx:=bind_some hx;obtain ⟨q,hq,hx⟩:=hx;obtain ⟨h1,h2⟩:=E1 hp;obtain ⟨h3,h4⟩:=E1 hq;split at hx
   ·replace hx:=mX hx;obtain ⟨e,hx⟩:=hx;subst e;cases hx;simp only [RV] at h2 h4;exact qX' _ _ _ h2 h4 h1 h3 (hval _ _ rfl (by simp only [RV]))
   ·cases hx
  ·cases hx
 ·rename_i args ats;split at hx
  ·rename_i x y T T' ea et;obtain rfl:args=#[x,y]:=by cases args; simp_all
   obtain rfl:ats=#[T,T']:=by cases ats; simp_all
   replace hx:=bind_some hx;obtain ⟨p,hp,hx⟩:=hx;replace hx:=bind_some hx;obtain ⟨q,hq,hx⟩:=hx;obtain ⟨h1,h2⟩:=E1 hp;obtain ⟨h3,h4⟩:=E1 hq;split at hx
   ·replace hx:=mX hx;obtain ⟨e,hx⟩:=hx;subst e;cases hx;simp only [RV] at h2 h4;exact qQ' _ _ _ h2 h4 h1 h3 (hval _ _ rfl (by simp only [RV]))
   ·cases hx
  ·cases hx
 ·rename_i args ats;split at hx
  ·rename_i x y T T' ea et;obtain rfl:args=#[x,y]:=by cases args; simp_all
   obtain rfl:ats=#[T,T']:=by cases ats; simp_all
   replace hx:=bind_some hx;obtain ⟨p,hp,hx⟩:=hx;replace hx:=bind_some hx;obtain ⟨q,hq,hx⟩:=hx;replace hx:=bind_some hx;obtain ⟨E,hE,hx⟩:=hx;replace hx:=bind_some hx;obtain ⟨jo,hby,hx⟩:=hx;replace hx:=bind_some hx;obtain ⟨ys,hys,hx⟩:=hx;obtain ⟨h1,h2⟩:=E2 hp;obtain ⟨h3,h4⟩:=E2 hq;refine xI ys.2 λτ hw hst hrel hS hR AY hold=>?_;have hs2:J3 P ty T T' E jo τ (ev F y) ys.1:=CC' (ls:=ys.2) ht hE hby hrel hS hys (λl hl=>hl) (λl T vs w ho hl=>(hold l hl).trans (iF _ _ ho)) (RV.step hst _ _ h4);have main:∀ (xs:List (I E)) (A:Option Addr) (k:Nat) (ow:Option Nat) (fl:Bool) (s1:St I),ev F x=.slice A xs.length k->fD ow fl E τ xs A k->(xs.length+ys.1.length)*jo<=140737488355328->Rel X c τ s1 n F->s1.O nb=none ->
    (∀ g,ow=some g->X.M g/\eD c τ s1 g/\∀ l' p',bH s1 l'->c l'=some p'->p'.w≠some g)->jQ s nb e=bG s1 nb (some (.row E (xs++ys.1) fl))->e.p=.vw nb ->
    wpList P ops Q (⟨d,.call ⟨.builtin .append,#[x,y],#[T,T']⟩,ty,pos,bV,none⟩::rest) (fr n F) τ.w:=by
    intro xs A k ow fl s1 hv hown hroom hr1 hnb hfree hend hep;obtain ⟨υ,A',c',YZ,hrun,ni,hown',hg⟩:=um' (ty:=ty) hown hs2 hroom;refine gH rfl (.slice A' (xs++ys.1).length c') υ.w ?_ ?_
    ·simp [execOp,resolve,invoke,builtin,dx h1,dx h3,hv,hrun]
    ·have hM:∀ b,ow=some b->X.M b:=λb hb=>(hfree b hb).1;have hn1:∀ l p g,bH s1 l->c l=some p->p.w=some g->¬ ow=some g:=λl p g hl hc hw hg=>(hfree g hg).2.2 l p hl hc hw;have hi1:∀ g,ow=some g->eD c τ s1 g:=λg hg=>(hfree g hg).2.1;have hr2:=hr1.stepG ni hM hn1 hi1;obtain ⟨k1,k2⟩:=hr2.newRow hnb hown' λg hg'=>by
      rcases hg g hg' with h5 | h5
      ·exact ⟨(hfree g h5).1,(hfree g h5).2.1.step hr1 ni hn1 hi1,(hfree g h5).2.2⟩
      ·refine ⟨.inl (Lr' hr1.base.1 h5),(hr1.fresh h5).step hr1 ni hn1 hi1,λl' p' ⟨o,ho⟩ hc hw=>?_⟩;have:=(hr1.bB l' o ho).lt hc hw;omega
     exact hk _ υ _ k1 (by rw [hend]; exact k2) (by rw [hep]; simp only [RV]; exact ⟨_,iw _ _ _,rfl⟩) (hst.trans (ni.mono λb _ hb=>hM b hb))
   split at hx
   ·replace hx:=bind_some hx;obtain ⟨_,hroom,hx⟩:=hx;cases hx;simp only [RV] at h2;obtain ⟨A,e1⟩:=h2;exact main [] A 0 none false (aZ s O ys.2) e1 (.inl ⟨rfl,rfl⟩) (XE hroom) hrel (xu hf) (λg hg=>by cases hg) rfl rfl
   ·rename_i E' xs;replace hx:=bind_some hx;obtain ⟨xs',hxs,hx⟩:=hx;replace hx:=bind_some hx;obtain ⟨_,hroom,hx⟩:=hx;obtain ⟨e,e'⟩:=lM hxs;subst e;subst e';cases hx;have h2':=RV.step hst _ _ h2;simp only [RV] at h2';obtain ⟨A,k,e1,hs,hfull⟩:=h2';have hk':=hfull (by simp)
    subst hk';exact main xs' A _ none true (aZ s O ys.2) e1 (.inr ⟨rfl,rfl,hs⟩) (XE hroom) hrel (xu hf) (λg hg=>by cases hg) rfl rfl
   ·rename_i l;split at hx
    ·rename_i E' xs fl ho;replace hx:=bind_some hx;obtain ⟨xs',hxs,hx⟩:=hx;replace hx:=bind_some hx;obtain ⟨_,hroom,hx⟩:=hx;obtain ⟨e,e'⟩:=lM hxs;subst e;subst e';cases hel:ys.2.elem l with
     | true=>rw [hel] at hx; cases hx
     | false =>
       rw [hel] at hx;cases hx;have hnl:l ∉ ys.2:=by simpa using hel
       have hol:(aZ s O ys.2).O l=some (some (.row E' xs' fl)):=(hold l hnl).trans (iF _ _ ho);obtain ⟨A,k,ow,k1,k2⟩:=hrel.bB l _ hol;simp only [RV] at h2;obtain ⟨pl,k3,e1⟩:=h2;rw [k1] at k3;cases k3;have Ms:=hrel.kill (l:=l) ⟨_,hol⟩;have hO1:(bG (aZ s O ys.2) l none).O=dD s.O (bQ O ys.2++[(l,none)]):=by simp only [oD,dD,bG,aZ]
       refine main xs' A k ow fl (bG (aZ s O ys.2) l none) e1 k2 (XE hroom) Ms (by rw [hO1]; exact xu hf) (λg hg=>⟨hrel.mine l _ g ⟨_,hol⟩ k1 hg,(hrel.owned ⟨_,hol⟩ k1 hg).set,λl' p' ⟨o,ho'⟩ hc hw=>?_⟩) ?_ rfl
       ·rcases dM ho' with ⟨_,e⟩ | ⟨e,h'⟩
        ·cases e
        ·exact e (hrel.inj l' l _ _ g ⟨o,h'⟩ ⟨_,hol⟩ hc k1 hw hg)
       ·simp only [jQ,fo,oD,dD,bG,aZ]
    ·cases hx
   ·cases hx
  ·cases hx
 ·rename_i f args ats;replace hx:=bind_some hx;obtain ⟨ps,hps,hx⟩:=hx;obtain ⟨h1,h2⟩:=BA hG hps;have hc:=hd.ok _ _ _ _ _ hx X c σ s n F _ hX iF h h2 hf;have e:args=args.toList.toArray:=by simp
  rw [e];refine Gj rfl hc (X8 h1 σ.w) λv τ hst ⟨c',k1,k2,k3⟩=>hk v τ c' k1 k2 k3 hst
 ·rename_i t args ats;replace hx:=bind_some hx;obtain ⟨p,hp,hx⟩:=hx;obtain ⟨h0,h0'⟩:=E1 hp;have e:args=args.toList.toArray:=by simp
  split at hx
  ·rename_i f ls;replace hx:=bind_some hx;obtain ⟨ps,hps,hx⟩:=hx;obtain ⟨h1,h2⟩:=BA hG hps;simp only [RV] at h0';obtain ⟨cs,e1,h3⟩:=h0';have hc:=hd.ok _ _ _ _ _ hx X c σ s n F _ hX iF h (aB.app _ _ _ _ h2 h3) hf;rw [e];exact Gj rfl hc (by have:=Yg (P:=P) (d:=d) (ats:=ats) (ty:=ty) (pos:=pos) (bV:=bV) (KX':=[]) h1 h0 e1 σ.w; simpa using this) λv τ hst ⟨c',k1,k2,k3⟩=>hk v τ c' k1 k2 k3 hst
  ·rename_i f ls;replace hx:=bind_some hx;obtain ⟨ps,hps,hx⟩:=hx;obtain ⟨h1,h2⟩:=BA hG hps;simp only [RV] at h0';obtain ⟨cs,e1,h3⟩:=h0';have hc:=hd.ok _ _ _ _ _ hx X c σ s n F _ hX iF h (aB.app _ _ _ _ h3 h2) hf;rw [e];exact Gj rfl hc (by have:=Yg (P:=P) (d:=d) (ats:=ats) (ty:=ty) (pos:=pos) (bV:=bV) (cs:=[]) h1 h0 e1 σ.w; simpa using this) λv τ hst ⟨c',k1,k2,k3⟩=>hk v τ c' k1 k2 k3 hst
  ·rename_i ks rs g;replace hx:=bind_some hx;obtain ⟨ps,hps,hx⟩:=hx;replace hx:=bind_some hx;obtain ⟨q,hq,hx⟩:=hx;replace hx:=bind_some hx;obtain ⟨r,hr,hx⟩:=hx;cases hx;obtain ⟨h1,h2⟩:=BA hG hps;refine xI q.2 λτ hw hst hrel hS hR AY hold=>?_;have Mt:=FY ht hS (ls:=q.2) hq (λl hl=>hl) (aB.step hst _ _ h2);have h0t:=RV.step hst _ _ h0';simp only [RV] at h0t;obtain ⟨f,KX',cs,e1,hfn⟩:=h0t;have hc:=hfn.2.2 τ (Stp.refl _ _) q.1 _ r Mt hr;rw [hX] at hc;rw [e];refine Gj rfl hc (Yg h1 h0 e1 τ.w) λv υ ni ⟨ws,e2,hws⟩=>?_;subst e2;exact hk _ υ c (Cx.le_refl c) (hrel.step ni) (FC (GI ht hws (λi pl h=>by simp at h)).1) (hst.trans ni.no)
  ·cases hx
 ·replace hx:=bind_some hx;obtain ⟨kd,hkd,hx⟩:=hx;cases hx;have hnb:s.O nb=none:=xu hf;refine oM' λτ hE hh=>?_;obtain ⟨k1,k2⟩:=h.Er' (m:=([]:List (ByteArray×Ty I kd))) hnb hE ⟨#[],0,hh,by simp [qm]⟩
  exact hk _ τ _ k1 k2 (by simp only [RV]; exact ⟨σ.N,_,iw _ _ _,rfl⟩) (Stp.ext hE).no
 ·rename_i T x y ok;replace hx:=bind_some hx;obtain ⟨p,hp,hx⟩:=hx;replace hx:=bind_some hx;obtain ⟨q,hq,hx⟩:=hx;obtain ⟨h1,h2⟩:=E1 hp;obtain ⟨h3,h4⟩:=E1 hq;split at hx
  ·rename_i l t;split at hx
   ·rename_i T' kd m ho;replace hx:=bA hx;obtain ⟨hT,hx⟩:=hx;have eT:=Li' hT;subst eT;replace hx:=bind_some hx;obtain ⟨kd',hkd,hx⟩:=hx;replace hx:=bA hx;obtain ⟨hdk,hx⟩:=hx;have ek:=of_decide_eq_true hdk;subst ek;replace hx:=bind_some hx;obtain ⟨z,hz,hx⟩:=hx;cases hx;obtain ⟨b,k1,k2⟩:=hO _ _ ho;simp only [RV] at h2 h4;obtain ⟨b',w,k3,e1⟩:=h2;rw [k1] at k3;cases k3;obtain ⟨v,r1,r2⟩:=kG' (ok:=ok) (s:=t) (ht.mp _ _ hkd) hz k2;refine fS' _ _ _ e1 h4 h1 h3 r1 (hval _ _ rfl ?_);have hr:=CZ (X:=X) (c:=c) ht r2;cases ok with
    | false=>exact hr
    | true =>simp only [cond_true,RV];exact ⟨[v,.bool (gQ m t).isSome],rfl,by simp only [aB]; exact ⟨v,_,rfl,hr,_,_,rfl,by simp only [RV],rfl⟩⟩
   ·rename_i T' kd m ho;replace hx:=bA hx;obtain ⟨hT,hx⟩:=hx;have eT:=Li' hT;subst eT;replace hx:=bind_some hx;obtain ⟨kd',hkd,hx⟩:=hx;replace hx:=bA hx;obtain ⟨hdk,hx⟩:=hx;have ek:=of_decide_eq_true hdk;subst ek;replace hx:=bind_some hx;obtain ⟨z,hz,hx⟩:=hx;cases hx;obtain ⟨b,k1,k2,_⟩:=hO _ _ ho;simp only [RV] at h2 h4;obtain ⟨b',w,k3,e1⟩:=h2;rw [k1] at k3;cases k3;obtain ⟨v,r1,r2⟩:=kG' (ok:=ok) (s:=t) (ht.mp _ _ hkd) hz k2;refine fS' _ _ _ e1 h4 h1 h3 r1 (hval _ _ rfl ?_);have hr:=CZ (X:=X) (c:=c) ht r2;cases ok with
    | false=>exact hr
    | true =>simp only [cond_true,RV];exact ⟨[v,.bool (gQ m t).isSome],rfl,by simp only [aB]; exact ⟨v,_,rfl,hr,_,_,rfl,by simp only [RV],rfl⟩⟩
   ·cases hx
  ·cases hx
 ·rename_i T x y z;replace hx:=bind_some hx;obtain ⟨p,hp,hx⟩:=hx;replace hx:=bind_some hx;obtain ⟨q,hq,hx⟩:=hx;replace hx:=bind_some hx;obtain ⟨r,hr,hx⟩:=hx;obtain ⟨h1,h2⟩:=E1 hp;obtain ⟨h3,h4⟩:=E1 hq;obtain ⟨h5,h6⟩:=E1 hr;split at hx
  ·rename_i l t;split at hx
   ·rename_i T' kd m ho;replace hx:=bA hx;obtain ⟨hT,hx⟩:=hx;have eT:=Li' hT;subst eT;replace hx:=bind_some hx;obtain ⟨kd',hkd,hx⟩:=hx;replace hx:=bA hx;obtain ⟨hdk,hx⟩:=hx;have ek:=of_decide_eq_true hdk;subst ek;replace hx:=bind_some hx;obtain ⟨a,ha,hx⟩:=hx;cases hx;refine xI a.2 λτ hw hst hrel hS hR AY hold=>?_;have Mt:=yI ht hS (ls:=a.2) ha (λl hl=>hl) (RV.step hst _ _ h6);obtain ⟨b,k1,k2⟩:=hS.2.2.1 l _ _ _ ho;simp only [RV] at h2 h4;obtain ⟨b',w,k3,e1⟩:=h2;rw [k1] at k3;cases k3;obtain ⟨υ,u1,u2,u3⟩:=bA' (s:=t) (ht.mp _ _ hkd) k2 Mt;have hol:(aZ s O a.2).O l=some (some (.map T kd' m)):=by
     show dD s.O (bQ O a.2) l=_;rw [Fp (λE xs e'=>by rw [ho] at e'; cases e')]
     exact iF _ _ ho
    have hM:=hrel.mine l _ b ⟨_,hol⟩ k1 rfl;have zb:=hrel.upd (o':=some (.map T kd' (jG m t a.1))) ⟨_,hol⟩ k1 rfl u2 λo e=>by cases e;exact ⟨b,k1,u3⟩
    have he:jQ s nb ⟨.undef,bQ O a.2++[(l,some (.map T kd' (jG m t a.1)))],[]⟩=bG (aZ s O a.2) l (some (.map T kd' (jG m t a.1))):=by simp only [jQ,fo,oD,dD,bG,aZ]
    refine mT' _ _ _ e1 h4 rfl h1 h3 h5 u1 (hk _ υ c (Cx.le_refl c) (by rw [he]; exact zb) (by simp only [RV]) (hst.trans (u2.mono λb' _ e=>by rw [e]; exact hM)))
   ·cases hx
  ·cases hx
 ·rename_i T x y z;replace hx:=bind_some hx;obtain ⟨p,hp,hx⟩:=hx;replace hx:=bind_some hx;obtain ⟨q,hq,hx⟩:=hx;replace hx:=bind_some hx;obtain ⟨r,hr,hx⟩:=hx;obtain ⟨h1,h2⟩:=E1 hp;obtain ⟨h3,h4⟩:=E1 hq;obtain ⟨h5,h6⟩:=E1 hr;split at hx
  ·rename_i l t;split at hx
   ·rename_i T' kd m ho;replace hx:=bA hx;obtain ⟨hT,hx⟩:=hx;have eT:=Li' hT;subst eT;replace hx:=bind_some hx;obtain ⟨kd',hkd,hx⟩:=hx;replace hx:=bA hx;obtain ⟨hdk,hx⟩:=hx;have ek:=of_decide_eq_true hdk;subst ek;replace hx:=bind_some hx;obtain ⟨a,ha,hx⟩:=hx;cases hx;refine xI a.2 λτ hw hst hrel hS hR AY hold=>?_;have Mt:=yI ht hS (ls:=a.2) ha (λl hl=>hl) (RV.step hst _ _ h6);obtain ⟨b,k1,k2⟩:=hS.2.2.1 l _ _ _ ho;simp only [RV] at h2 h4;obtain ⟨b',w,k3,e1⟩:=h2;rw [k1] at k3;cases k3;obtain ⟨υ,u1,u2,u3⟩:=bA' (s:=t) (ht.mp _ _ hkd) k2 Mt;have hol:(aZ s O a.2).O l=some (some (.map T kd' m)):=by
     show dD s.O (bQ O a.2) l=_;rw [Fp (λE xs e'=>by rw [ho] at e'; cases e')]
     exact iF _ _ ho
    have hM:=hrel.mine l _ b ⟨_,hol⟩ k1 rfl;have zb:=hrel.upd (o':=some (.map T kd' (jG m t a.1))) ⟨_,hol⟩ k1 rfl u2 λo e=>by cases e;exact ⟨b,k1,u3⟩
    have he:jQ s nb ⟨.undef,bQ O a.2++[(l,some (.map T kd' (jG m t a.1)))],[]⟩=bG (aZ s O a.2) l (some (.map T kd' (jG m t a.1))):=by simp only [jQ,fo,oD,dD,bG,aZ]
    refine zO' _ _ _ e1 h4 rfl h1 h3 h5 u1 (hk _ υ c (Cx.le_refl c) (by rw [he]; exact zb) (by simp only [RV]) (hst.trans (u2.mono λb' _ e=>by rw [e]; exact hM)))
   ·cases hx
  ·cases hx
 ·cases hx
end
def rQ (cZ:List (List Nat))(i:Nat):List Nat:=(cZ[i]?).getD []
def yx (ops:List Oper)(i:Nat):Option Nat:=(ops[i]?).bind (·.dst)
def cO (x:Nat):List Nat->Bool
 | []=>false
 | y::r=>bif Lm' x y then true else cO x r
theorem kE {x:Nat}:∀ {l:List Nat},cO x l=true↔x∈l
 | []=>by simp [cO]
 | y::r=>by
   simp only [cO,Lq'];cases h:Lm' x y with
   | true=>simp [Li' h]
   | false =>
     simp only [cond_false,kE];constructor
     ·exact .inr
     ·rintro (rfl | h')
      ·simp at h
      ·exact h'
theorem oo {x:Nat}{l:List Nat}:cO x l=false↔x ∉ l:=by rw [<- Bool.not_eq_true,kE]
def l8 (op:Op):List Nat:=op.operands.toList.filterMap λx=>match x with
 | .tmp t=>some t
 | _=>none
structure Inf where
 T:Option (List Nat)
 W:List Nat
def Rs (a b:List Nat):Bool:=a.all λx=>!(cO x b)
def CB (a:List Nat):Option (List Nat)->Bool
 | some t=>Rs a t
 | none=>a.isEmpty
def rJ (a b:Inf):Bool:=Rs a.W b.W&&CB a.W b.T&&CB b.W a.T
theorem KL {a b:List Nat}:Rs a b=true↔∀ x∈a,x ∉ b:=by simp only [Rs,Le',MN',oo]
theorem cw' {a b:Inf}(h:rJ a b=true):rJ b a=true:=by simp only [rJ,Lc'] at h ⊢;refine ⟨⟨?_,h.2⟩,h.1.2⟩;rw [KL] at *;exact λx hx hy=>h.1.1 x hy hx
def gu (nb:Nat):Nat->List Nat
 | 0=>[]
 | m+1=>nb::gu (nb+1) m
def BO (all:List Oper)(o:Oper):List Nat:=l8 o.op++match o.guard with
 | some (j,_)=>(yx all j).toList
 | none=>[]
def Qe (d:Option Nat)(l:List Nat):Bool:=match d with
 | some d=>cO d l
 | none=>false
def GD (all:List Oper)(x y:Oper):Bool:=!(Qe x.dst (BO all y))&&!(Qe y.dst (BO all x))&&!(Qe x.dst y.dst.toList)
section
variable {I:TypeId->Type} [∀ E,Rp (I E)]
mutual
def Jb:PV I->List Nat
 | .ptr l _=>[l]
 | .vw l=>[l]
 | .vp l _ _ _=>[l]
 | .vs l _ _=>[l]
 | .av l _ _=>[l]
 | .mp l=>[l]
 | .qM _ ls=>Fv ls
 | .xD _ ls=>Fv ls
 | .agg ls=>Fv ls
 | .nV ls=>Fv ls
 | _=>[]
def Fv:List (PV I)->List Nat
 | []=>[]
 | p::r=>Jb p++Fv r
end
def mK (F:Nat->Option (PV I)):List Nat->List Nat
 | []=>[]
 | t::r=>(match F t with | some p=>Jb p | none=>[])++mK F r
def nest (O:aN I):List Nat->List Nat
 | []=>[]
 | l::r=>(match O l with | some (some (.var _ ls _))=>Fv ls | _=>[])++nest O r
def ql (F:Nat->Option (PV I))(O:aN I)(ts:List Nat):List Nat :=
 let a:=mK F ts
 let b:=a++nest O a
 b++nest O b
def aK':Op->Bool
 | .move _=>true
 | .assign _=>true
 | .fieldAddr _ _ _=>true
 | .nilCheck _=>true
 | .extract _ _=>true
 | _=>false
def bM':Op->Bool
 | .load _ _=>true
 | _=>false
def p9 (F:Nat->Option (PV I))(O:aN I)(op:Op):List Nat:=bif aK' op then [] else bif bM' op then mK F (l8 op) else ql F O (l8 op)
def GA (F:Nat->Option (PV I))(ts:List Nat):Nat->Option (PV I):=λi=>bif cO i ts then F i else none
def Gn (O:aN I)(ls:List Nat):aN I:=λi=>bif cO i ls then O i else none
def iK (u:List (Nat×Option (Ob I))):List Nat:=u.map (·.1)
def jT (s:St I)(i:Nat):Nat:=s.nx+8*i
def jB (tb:aX I)(aH:fQ I)(s:St I)(i:Nat)(o:Oper){ρ:Type}(k:Ef I->Option ρ):Option ρ :=
 bif (l8 o.op).all (λt=>(s.F t).isSome) then
 xg tb aH s.n (GA s.F (l8 o.op)) (Gn s.O (p9 s.F s.O o.op)) (jT s i) o.type o.op k else none
def zP (s:St I)(i:Nat)(e:Ef I):Bool:=Mq' e.new.length 8&&jH (dD s.O e.upd) (jT s i) e.new
def uN (s:St I)(i:Nat)(o:Oper)(e:Ef I):Inf:=⟨some (p9 s.F s.O o.op),iK e.upd++gu (jT s i) e.new.length⟩
def qN (s:St I)(i:Nat)(o:Oper)(e:Ef I):St I:=put (jQ s (jT s i) e) o.dst e.p
def lS {α:Type}:List α->Bool
 | []=>true
 | _=>false
abbrev lJ:=List (Nat×Inf)
def lm (cZ:List (List Nat))(dS:Bool)(acc:lJ)(i:Nat)(f:Inf):Bool:=bif dS then acc.all (λa=>cO a.1 (rQ cZ i)||rJ a.2 f) else true
section
variable {ρ:Type}
def step (tb:aX I)(aH:fQ I)(cZ:List (List Nat))(dS pure:Bool)(acc:lJ)(s:St I)(i:Nat)(o:Oper)(k:St I->lJ->Option ρ):Option ρ :=
 jB tb aH s i o λe=>bif zP s i e&&(bif pure then lS e.upd&&lS e.new else true)&&lm cZ dS acc i (uN s i o e) then k (qN s i o e) (bif dS then (i,uN s i o e)::acc else acc) else none
end
def yX' (d:Nat)(o:Oper):Bool:=match o.op with
 | .pick (.tmp c) _ _=>Lm' c d
 | _=>false
def aQ' (d:Nat):List (Nat×Oper)->Nat->Option Nat
 | [],_=>none
 | o::r,n=>bif yX' d o.2 then some n else aQ' d r (n+1)
def jA (l:List (Nat×Oper))(i:Nat):Bool:=l.any λo=>match o.2.dst with
 | some d=>Lm' d i
 | none=>false
def VS (l:List (Nat×Oper))(m:Nat):Option Nat:=(l[m]?).bind (·.2.dst)
def JL:Option (PV I)->Option Bool
 | some (.bool b)=>some b
 | _=>none
def Ry (s:St I)(g:List (Nat×Oper))(d:Nat)(q:Bool):St I:=⟨s.n,cB (λi=>bif jA g i then none else s.F i) d (.bool q),s.O,s.nx⟩
def EU (s:St I)(d:Nat)(b:Bool):St I:=⟨s.n,cB s.F d (.bool b),s.O,s.nx⟩
def pX (tb:aX I)(aH:fQ I)(all:List Oper)(cZ:List (List Nat))(dS:Bool)(spl:List Nat):Nat->(ρ:Type)->Bool->List Nat->List (Nat×Oper)->lJ->St I->(St I->lJ->Option ρ)->Option ρ
 | 0,_,_,_,_,_,_,_=>none
 | _+1,_,_,_,[],acc,s,k=>k s acc
 | m+1,ρ,pure,kn,o::r,acc,s,k=>match o.2.guard with
   | none=>step tb aH cZ dS pure acc s o.1 o.2 λs acc=>pX tb aH all cZ dS spl m ρ pure kn r acc s k
   | some (j,want)=>(yx all j).bind λdj=>bif LF' dj s.n then (match s.F dj with
     | some .undef=>pX tb aH all cZ dS spl m ρ pure kn r acc (put s o.2.dst .undef) k
     | some (.bool c)=>bif cO dj kn
       then (bif c==want then step tb aH cZ dS pure acc s o.1 o.2 λs acc=>pX tb aH all cZ dS spl m ρ pure kn r acc s k else pX tb aH all cZ dS spl m ρ pure kn r acc (put s o.2.dst .undef) k)
       else bif cO dj spl
       then (bif c then pX tb aH all cZ dS spl m ρ pure (dj::kn) (o::r) acc (EU s dj true) k else pX tb aH all cZ dS spl m ρ pure (dj::kn) (o::r) acc (EU s dj false) k)
       else (aQ' dj (o::r) 0).bind λmm=>(VS (o::r) mm).bind λd =>
        (bif c
         then pX tb aH all cZ dS spl m Bool true (dj::kn) ((o::r).take (mm+1)) acc (EU s dj true) λs' _=>JL (s'.F d)
         else pX tb aH all cZ dS spl m Bool true (dj::kn) ((o::r).take (mm+1)) acc (EU s dj false) λs' _=>JL (s'.F d)).bind λq =>
        pX tb aH all cZ dS spl m ρ pure kn ((o::r).drop (mm+1)) (bif dS then ((o::r).take (mm+1)).map (λx=>(x.1,⟨none,[]⟩))++acc else acc) (Ry s ((o::r).take (mm+1)) d q) k
     | _=>none) else none
def kr (tb:aX I)(aH:fQ I)(all:List Oper)(s:St I)(i:Nat)(o:Oper):Option (Option (Ef I)) :=
 match o.guard with
 | none=>(jB tb aH s i o some).map some
 | some (j,want)=>(yx all j).bind λdj=>bif LF' dj s.n then (match s.F dj with
   | some .undef=>some none
   | some (.bool c)=>bif c==want then (jB tb aH s i o some).map some else some none
   | _=>none) else none
def dR (s:St I)(i:Nat)(o:Oper):Option (Ef I)->St I
 | some e=>qN s i o e
 | none=>put s o.dst .undef
def xB (s:St I)(i:Nat):Option (Ef I)->Bool
 | some e=>zP s i e
 | none=>true
def lI (s:St I)(i:Nat)(o:Oper):Option (Ef I)->Inf
 | some e=>uN s i o e
 | none=>⟨some [],[]⟩
inductive nW (tb:aX I) (aH:fQ I) (all:List Oper):St I->List (Nat×Oper)->St I->lJ->Prop
 | nil (s:St I):nW tb aH all s [] s []
 | cons (s:St I) (i:Nat) (o:Oper) (r:Option (Ef I)) (rest:List (Nat×Oper)) (s':St I) (es:lJ) (h1:kr tb aH all s i o=some r) (h2:xB s i r=true)
    (h3:nW tb aH all (dR s i o r) rest s' es):nW tb aH all s ((i,o)::rest) s' ((i,lI s i o r)::es)
variable {P:Program}{tb:aX I}{aH:fQ I}{all:List Oper}{cZ:List (List Nat)}{dS:Bool}{spl:List Nat}{X:bZ}{c c':Cx}{σ τ:S}
theorem nW.app {s s' s'':St I}{l1 l2:List (Nat×Oper)}{e1 e2:lJ}(h:nW tb aH all s l1 s' e1)(k:nW tb aH all s' l2 s'' e2):nW tb aH all s (l1++l2) s'' (e1++e2):=by
 induction h with
 | nil s=>exact k
 | cons s i o r rest s' es h1 h2 h3 ih=>exact .cons s i o r _ _ _ h1 h2 (ih k)
theorem nW.mem {s s':St I}{l:List (Nat×Oper)}{es:lJ}(h:nW tb aH all s l s' es):∀ x∈es,∃ y∈l,y.1=x.1:=by
 induction h with
 | nil s=>intro x hx; cases hx
 | cons s i o r rest s' es h1 h2 h3 ih =>
   intro x hx;rcases Lq'.1 hx with rfl | hx
   ·exact ⟨(i,o),by simp,rfl⟩
   ·obtain ⟨y,h1,h2⟩:=ih x hx;exact ⟨y,by simp [h1],h2⟩
def R (cZ:List (List Nat))(a b:Nat×Inf):Prop:=cO a.1 (rQ cZ b.1)=true\/rJ a.2 b.2=true
def Wk (f' f:Inf):Prop:=f'.W=f.W/\(f'.T=none\/f'.T=f.T)
def G5 (acc es:lJ):Prop:=∀ x∈es,x.2=⟨some [],[]⟩\/∃ f',(x.1,f')∈acc/\Wk f' x.2
theorem ui' {w:List Nat}{f' f:Inf}(h:Wk f' f)(k:CB w f'.T=true):CB w f.T=true:=by
 rcases h.2 with e | e
 ·rw [e] at k;simp only [CB,List.isEmpty_iff] at k;subst k;cases f.T<;>rfl
 ·rw [e] at k; exact k
theorem Az' {f' f g:Inf}(h:Wk f' f)(k:rJ f' g=true):rJ f g=true:=by simp only [rJ,Lc'] at k ⊢;rw [h.1] at k;exact ⟨⟨k.1.1,k.1.2⟩,ui' h k.2⟩
theorem dF' (g:Inf):rJ ⟨some [],[]⟩ g=true:=by
 simp only [rJ,Lc'];refine ⟨⟨rfl,?_⟩,?_⟩
 ·cases g.T<;>rfl
 ·exact KL.2 λx _=>by simp
theorem K6 {acc es:lJ}(hc:G5 acc es){i:Nat}{f:Inf}(h:lm cZ true acc i f=true):∀ a∈es,R cZ a (i,f):=by
 intro a ha;simp only [lm,cond_true,Le',LU'] at h;rcases hc a ha with e | ⟨f',h1,h2⟩
 ·right;rw [e];exact dF' f
 ·rcases h _ h1 with k | k
  ·exact .inl k
  ·exact .inr (Az' h2 k)
structure Ref (s1 s2:St I):Prop where
 n:s1.n=s2.n
 O:s1.O=s2.O
 nx:s1.nx=s2.nx
 F:∀ i p,s2.F i=some p->s1.F i=some p
theorem qP' (hd:lY P aH){s:St I}{i:Nat}{o:Oper}{ρ:Type}(k:Ef I->Option ρ):jB tb aH s i o k=(jB tb aH s i o some).bind k:=by
 unfold jB;cases (l8 o.op).all (λt=>(s.F t).isSome)
 ·rfl
 ·exact qC' hd k
omit [∀ E,Rp (I E)] in
theorem Ym {F G:Nat->Option (PV I)}:∀ {ts:List Nat},(∀ t∈ts,F t=G t)->mK F ts=mK G ts
 | [],_=>rfl
 | t::r,h=>by simp only [mK]; rw [h t (by simp),Ym λu hu=>h u (by simp [hu])]
omit [∀ E,Rp (I E)] in
theorem jS' {F G:Nat->Option (PV I)}{ts:List Nat}(h:∀ t∈ts,F t=G t):GA F ts=GA G ts:=by
 funext i;simp only [GA];cases hm:cO i ts
 ·rfl
 ·exact h i (kE.1 hm)
theorem BC' {s1 s2:St I}(hr:Ref s1 s2){i:Nat}{o:Oper}{e:Ef I}(h:jB tb aH s2 i o some=some e):jB tb aH s1 i o some=some e/\uN s1 i o e=uN s2 i o e/\zP s1 i e=zP s2 i e:=by
 unfold jB at h ⊢;obtain ⟨h1,h2⟩:=bA h;have hF:∀ t∈l8 o.op,s1.F t=s2.F t:=λt ht=>by have:=(Le'.1 h1) t ht;obtain ⟨p,hp⟩:=Nk'.1 this;rw [hp,hr.F t p hp]
 have e1:(l8 o.op).all (λt=>(s1.F t).isSome)=true:=by rw [Le'] at h1 ⊢;exact λt ht=>by rw [hF t ht]; exact h1 t ht
 have e2:p9 s1.F s1.O o.op=p9 s2.F s2.O o.op:=by simp only [p9,ql,Ym hF,hr.O]
 have e3:jT s1 i=jT s2 i:=by simp only [jT,hr.nx]
 refine ⟨?_,?_,?_⟩
 ·rw [e1,jS' hF,e2,e3,hr.O,hr.n]; exact h2
 ·simp only [uN,e2,e3]
 ·simp only [zP,e3,hr.O]
omit [∀ E,Rp (I E)] in
theorem Ref.put {s1 s2:St I}(h:Ref s1 s2)(d:Option Nat)(p:PV I):Ref (Qx.put s1 d p) (Qx.put s2 d p):=by
 cases d with
 | none=>exact h
 | some d =>
   refine ⟨h.n,h.O,h.nx,λi q hq=>?_⟩;rcases dM hq with ⟨rfl,rfl⟩ | ⟨e,hq⟩
   ·exact iq _ _ _
   ·have:(Qx.put s1 (some d) p).F i=s1.F i:=fq e;rw [this];exact h.F i q hq
omit [∀ E,Rp (I E)] in
theorem Ref.qN {s1 s2:St I}(h:Ref s1 s2)(i:Nat)(o:Oper)(e:Ef I):Ref (Qx.qN s1 i o e) (Qx.qN s2 i o e):=by
 have hE:Ref (jQ s1 (jT s1 i) e) (jQ s2 (jT s2 i) e):=⟨h.n,by show fo (dD s1.O e.upd) (jT s1 i) e.new=fo (dD s2.O e.upd) (jT s2 i) e.new;simp only [jT,h.nx,h.O],h.nx,h.F⟩
 exact hE.put o.dst e.p
omit [∀ E,Rp (I E)] in
theorem Oi {s:St I}{d:Option Nat}{p:PV I}{i:Nat}(h:d≠some i):(put s d p).F i=s.F i:=by
 cases d with
 | none=>rfl
 | some d=>exact fq (λe=>h (by rw [e]))
theorem VA {l1 l2:List (Nat×Oper)}{i:Nat}(h:jA (l1++l2) i=false):jA l1 i=false/\jA l2 i=false:=by simpa [jA] using h
theorem Ci {o:Nat×Oper}{l:List (Nat×Oper)}{i:Nat}(h:jA (o::l) i=false):o.2.dst≠some i/\jA l i=false:=by simp only [jA,MA',NC'] at h;refine ⟨λe=>?_,h.2⟩;have:=h.1;rw [e] at this;simp at this
theorem CB' {l:List (Nat×Oper)}{mm d:Nat}(h:VS l mm=some d):jA (l.take (mm+1)) d=true:=by
 simp only [VS] at h;cases ho:l[mm]? with
 | none=>rw [ho] at h; cases h
 | some o =>
   rw [ho] at h;simp only [KY'] at h;simp only [jA,LL'];refine ⟨o,?_,by rw [h]; simp⟩
   exact Lj' (i:=mm) (by rw [Lw' (by omega)]; exact ho)
omit [∀ E,Rp (I E)] in
theorem Cg' {o:Option (PV I)}{b:Bool}(h:JL o=some b):o=some (.bool b):=by
 unfold JL at h;split at h
 ·cases h; rfl
 ·cases h
theorem tH {α:Type}{l:List α}(h:lS l=true):l=[]:=by
 cases l
 ·rfl
 ·cases h
structure Way (tb:aX I)(aH:fQ I)(all:List Oper)(cZ:List (List Nat))(dS pure:Bool)(l:List (Nat×Oper))(s1 s2:St I)(es0:lJ)(s1' s2':St I)(acc' es:lJ):Prop where
 flat:nW tb aH all s1 l s1' es
 ref:Ref s1' s2'
 S9:∀ i,jA l i=false->s1'.F i=s1.F i
 kS':∀ i,jA l i=false->s2'.F i=s2.F i
 pu:pure=true->s1'.O=s1.O/\s2'.O=s2.O/\s1'.nx=s1.nx/\s1'.n=s1.n/\∀ x∈es,x.2.W=[]
 new:dS=true->∀ b∈es,∀ a∈es0,R cZ a b
 pair:dS=true->es.Pairwise (R cZ)
 cov:dS=true->G5 acc' (es0++es)
theorem Way.cons {pure:Bool}{i:Nat}{o:Oper}{r:List (Nat×Oper)}{s1 s2 t1 t2 s1' s2':St I}{es0 acc' es:lJ}{f:Inf}(_:Way tb aH all cZ dS pure [(i,o)] s1 s2 es0 t1 t2 [] [(i,f)]\/True)
 (Ta:∀ u v,nW tb aH all t1 r u v->nW tb aH all s1 ((i,o)::r) u ((i,f)::v)) (hk1:∀ j,o.dst≠some j->t1.F j=s1.F j) (hk2:∀ j,o.dst≠some j->t2.F j=s2.F j)
 (hpu:pure=true->t1.O=s1.O/\t2.O=s2.O/\t1.nx=s1.nx/\t1.n=s1.n/\f.W=[]) (hnew:dS=true->∀ a∈es0,R cZ a (i,f))
 (h:Way tb aH all cZ dS pure r t1 t2 (es0++[(i,f)]) s1' s2' acc' es):Way tb aH all cZ dS pure ((i,o)::r) s1 s2 es0 s1' s2' acc' ((i,f)::es):=by
 refine ⟨Ta _ _ h.flat,h.ref,λj hj=>?_,λj hj=>?_,λhp=>?_,λhd b hb a ha=>?_,λhd=>?_,λhd=>?_⟩
 ·obtain ⟨a,b⟩:=Ci hj;exact (h.S9 j b).trans (hk1 j a)
 ·obtain ⟨a,b⟩:=Ci hj;exact (h.kS' j b).trans (hk2 j a)
 ·obtain ⟨a1,a2,a3,a4,a5⟩:=h.pu hp;obtain ⟨b1,b2,b3,b4,b5⟩:=hpu hp;refine ⟨a1.trans b1,a2.trans b2,a3.trans b3,a4.trans b4,λx hx=>?_⟩;rcases Lq'.1 hx with rfl | hx
  ·exact b5
  ·exact a5 x hx
 ·rcases Lq'.1 hb with rfl | hb
  ·exact hnew hd a ha
  ·exact h.new hd b hb a (by simp [ha])
 ·exact Mr'.2 ⟨λb hb=>h.new hd b hb _ (by simp),h.pair hd⟩
 ·have:=h.cov hd;simpa using this
theorem Es (hd:lY P aH):∀ (m:Nat) (ρ:Type) (pure:Bool) (kn:List Nat) (l:List (Nat×Oper)) (acc:lJ) (s2:St I) (k:St I->lJ->Option ρ) (r:ρ) (s1:St I) (es0:lJ),
 pX tb aH all cZ dS spl m ρ pure kn l acc s2 k=some r->Ref s1 s2->(dS=true->G5 acc es0)->∃ s1' s2' acc' es,k s2' acc'=some r/\Way tb aH all cZ dS pure l s1 s2 es0 s1' s2' acc' es
 | 0,_,_,_,_,_,_,_,_,_,_,h,_,_=>by cases h
 | m+1,ρ,pure,kn,[],acc,s2,k,r,s1,es0,h,hr,hc=>⟨s1,s2,acc,[],h,.nil _,hr,λ_ _=>rfl,λ_ _=>rfl,(λ_=>⟨rfl,rfl,rfl,rfl,λx hx=>by cases hx⟩),(λ_ b hb=>by cases hb),(λ_=>NV'.nil),λhd=>by simpa using hc hd⟩
 | m+1,ρ,pure,kn,(i,o)::l,acc,s2,k,r,s1,es0,h,hr,hc=>by
   have hstep:(∀ e,jB tb aH s1 i o some=some e->kr tb aH all s1 i o=some (some e))->(step tb aH cZ dS pure acc s2 i o λs acc=>pX tb aH all cZ dS spl m ρ pure kn l acc s k)=some r ->
    ∃ s1' s2' acc' es,k s2' acc'=some r/\Way tb aH all cZ dS pure ((i,o)::l) s1 s2 es0 s1' s2' acc' es:=by
    intro he1 h;unfold step at h;rw [qP' hd] at h;obtain ⟨e,he,h⟩:=bind_some h;obtain ⟨hb,h⟩:=bA h;simp only [Lc'] at hb;obtain ⟨⟨b1,b2⟩,b3⟩:=hb;obtain ⟨k1,k2,k3⟩:=BC' hr he;have Im:dS=true->G5 (bif dS then (i,uN s2 i o e)::acc else acc) (es0++[(i,uN s1 i o e)]):=λhd x hx=>by
     rw [hd];rcases Lo'.1 hx with hx | hx
     ·rcases hc hd x hx with e | ⟨f',a1,a2⟩
      ·exact .inl e
      ·exact .inr ⟨f',by simp [a1],a2⟩
     ·rw [Lp'] at hx;subst hx;exact .inr ⟨uN s2 i o e,by simp,by rw [k2]; exact ⟨rfl,.inr rfl⟩⟩
    obtain ⟨s1',s2',acc',es,a1,a2⟩:=Es hd m ρ pure kn l _ _ k r (qN s1 i o e) _ h (hr.qN i o e) Im;refine ⟨s1',s2',acc',_,a1,Way.cons (t1:=qN s1 i o e) (t2:=qN s2 i o e) (.inr trivial) (λu v hf=>.cons s1 i o (some e) l u v (he1 e k1) (by simp only [xB,k3,b1]) hf) (λj hj=>Oi hj) (λj hj=>Oi hj) (λhp=>?_) (λhd a ha=>?_) a2⟩
    ·rw [hp] at b2;simp only [cond_true,Lc'] at b2;have e1:=tH b2.1;have e2:=tH b2.2;obtain ⟨p,u,w⟩:=e;simp only at e1 e2;subst e1;subst e2;refine ⟨?_,?_,?_,?_,rfl⟩
     all_goals
      unfold qN put;cases o.dst<;>rfl
    ·rw [hd] at b3;have:=K6 (hc hd) b3 a ha;rw [<- k2] at this;exact this
   have kU':kr tb aH all s1 i o=some none->pX tb aH all cZ dS spl m ρ pure kn l acc (put s2 o.dst .undef) k=some r ->
    ∃ s1' s2' acc' es,k s2' acc'=some r/\Way tb aH all cZ dS pure ((i,o)::l) s1 s2 es0 s1' s2' acc' es:=by
    intro he1 h;have Im:dS=true->G5 acc (es0++[(i,⟨some [],[]⟩)]):=λhd x hx=>by
     rcases Lo'.1 hx with hx | hx
     ·exact hc hd x hx
     ·rw [Lp'] at hx;subst hx;exact .inl rfl
    obtain ⟨s1',s2',acc',es,a1,a2⟩:=Es hd m ρ pure kn l _ _ k r (put s1 o.dst .undef) _ h (hr.put o.dst .undef) Im;refine ⟨s1',s2',acc',_,a1,Way.cons (t1:=put s1 o.dst .undef) (t2:=put s2 o.dst .undef) (.inr trivial) (λu v hf=>.cons s1 i o none l u v he1 rfl hf) (λj hj=>Oi hj) (λj hj=>Oi hj) (λhp=>?_) (λhd a ha=>.inr (cw' (dF' _))) a2⟩;refine ⟨?_,?_,?_,?_,rfl⟩
    all_goals
     unfold put;cases o.dst<;>rfl
   simp only [pX] at h;cases hg:o.guard with
   | none =>rw [hg] at h;exact hstep (λe he=>by simp only [kr,hg,he]; rfl) h
   | some g =>
     obtain ⟨j,want⟩:=g;rw [hg] at h;obtain ⟨dj,hdj,h⟩:=bind_some h;obtain ⟨hlt,h⟩:=bA h;split at h
     ·rename_i hl;exact kU' (by simp only [kr,hg,hdj,KY']; rw [hr.n,hlt,hr.F _ _ hl]; rfl) h
     ·rename_i b hl;have hl1:=hr.F _ _ hl;have he1:(b==want)=true->∀ e,jB tb aH s1 i o some=some e->kr tb aH all s1 i o=some (some e):=λhb e he=>by simp only [kr,hg,hdj,KY']; rw [hr.n,hlt,hl1]; simp only [cond_true,hb,he]; rfl
      have he0:(b==want)=false->kr tb aH all s1 i o=some none:=λhb=>by simp only [kr,hg,hdj,KY']; rw [hr.n,hlt,hl1]; simp only [cond_true,hb]; rfl
      cases hkn:cO dj kn with
      | true =>
        rw [hkn] at h;simp only [cond_true] at h;cases hbw:(b==want) with
        | true =>rw [hbw] at h;exact hstep (he1 hbw) h
        | false =>rw [hbw] at h;exact kU' (he0 hbw) h
      | false =>
        rw [hkn] at h;simp only [cond_false] at h;have hsame:EU s2 dj b=s2:=by
         have:cB s2.F dj (.bool b)=s2.F:=by
          funext i;by_cases e:i=dj
          ·subst e; rw [iq,hl]
          ·rw [fq e]
         simp only [EU,this]
        cases kV':cO dj spl with
        | true =>
          rw [kV'] at h;simp only [cond_true] at h;refine Es hd m ρ pure (dj::kn) _ acc s2 k r s1 es0 ?_ hr hc;cases b
          ·rw [hsame] at h; exact h
          ·rw [hsame] at h; exact h
        | false =>
        rw [kV'] at h;simp only [cond_false] at h;obtain ⟨mm,hmm,h⟩:=bind_some h;obtain ⟨d,hdd,h⟩:=bind_some h;obtain ⟨q,hq,h⟩:=bind_some h;have hq':pX tb aH all cZ dS spl m Bool true (dj::kn) (((i,o)::l).take (mm+1)) acc s2 (λs' _=>JL (s'.F d))=some q:=by
         cases b
         ·rw [hsame] at hq; exact hq
         ·rw [hsame] at hq; exact hq
        obtain ⟨u1,u2,KE',eg,g1,g2⟩:=Es hd m Bool true (dj::kn) _ acc s2 _ q s1 es0 hq' hr hc;have hd2:=Cg' g1;obtain ⟨p1,p2,p3,p4,p5⟩:=g2.pu rfl;have hrn:Ref u1 (Ry s2 (((i,o)::l).take (mm+1)) d q):=by
         refine ⟨p4.trans hr.n,p1.trans hr.O,p3.trans hr.nx,λx p hx=>?_⟩;have hx':cB (λi'=>bif jA (((i,o)::l).take (mm+1)) i' then none else s2.F i') d (.bool q) x=some p:=hx
         clear hx;rcases dM hx' with ⟨rfl,rfl⟩ | ⟨e,hx⟩
         ·exact g2.ref.F _ _ hd2
         ·cases hdst:jA (((i,o)::l).take (mm+1)) x with
          | true=>rw [hdst] at hx; cases hx
          | false =>rw [hdst] at hx;rw [g2.S9 x hdst];exact hr.F x p hx
        have Im:dS=true->G5 (bif dS then (((i,o)::l).take (mm+1)).map (λx=>(x.1,⟨none,[]⟩))++acc else acc) (es0++eg):=λhd x hx=>by
         rw [hd];rcases Lo'.1 hx with hx | hx
         ·rcases hc hd x hx with e | ⟨f',a1,a2⟩
          ·exact .inl e
          ·exact .inr ⟨f',by simp only [cond_true,Lo']; exact .inr a1,a2⟩
         ·refine .inr ⟨⟨none,[]⟩,?_,?_⟩
          ·obtain ⟨y,h1,h2⟩:=g2.flat.mem x hx;simp only [cond_true,Lo',Lx'];exact .inl ⟨y,h1,by rw [h2]⟩
          ·exact ⟨(p5 x hx).symm,.inl rfl⟩
        obtain ⟨s1',s2',acc',es,a1,a2⟩:=Es hd m ρ pure kn _ _ _ k r u1 (es0++eg) h hrn Im;have hsplit:(i,o)::l=((i,o)::l).take (mm+1)++((i,o)::l).drop (mm+1):=(Mm' _ _).symm;refine ⟨s1',s2',acc',eg++es,a1,?_⟩;rw [hsplit];refine ⟨g2.flat.app a2.flat,a2.ref,λx hx=>?_,λx hx=>?_,λhp=>?_,λhd b hb a ha=>?_,λhd=>?_,λhd=>?_⟩
        ·obtain ⟨x1,x2⟩:=VA hx;exact (a2.S9 x x2).trans (g2.S9 x x1)
        ·obtain ⟨x1,x2⟩:=VA hx;rw [a2.kS' x x2];have hxd:x≠d:=by rintro rfl; rw [CB' hdd] at x1; cases x1
         have:(Ry s2 (((i,o)::l).take (mm+1)) d q).F x=bif jA (((i,o)::l).take (mm+1)) x then none else s2.F x:=by simp only [Ry];rw [fq hxd]
         rw [this,x1];rfl
        ·obtain ⟨b1,b2,b3,b4,b5⟩:=a2.pu hp;refine ⟨b1.trans p1,b2,b3.trans p3,b4.trans p4,λx hx=>?_⟩;rcases Lo'.1 hx with hx | hx
         ·exact p5 x hx
         ·exact b5 x hx
        ·rcases Lo'.1 hb with hb | hb
         ·exact g2.new hd b hb a ha
         ·exact a2.new hd b hb a (by simp [ha])
        ·rw [ML'];exact ⟨g2.pair hd,a2.pair hd,λa ha b hb=>a2.new hd b hb a (by simp [ha])⟩
        ·have:=a2.cov hd;simpa using this
     ·cases h
end
section
variable {I:TypeId->Type} [∀ E,Rp (I E)] {P:Program}{tb:aX I}{aH:fQ I}{all:List Oper}{cZ:List (List Nat)}{X:bZ}{c c':Cx}{σ τ:S}{n:Nat}
def ol' (K:Act->World->Prop):Exit->Act->World->Prop
 | .normal,a,w=>K a w
 | _,_,_=>False
theorem nn' {o:Oper}(hg:o.guard=none){a:Act}{w:World}{K:Act->World->Prop}{Q:Exit->Act->World->Prop}(h:wpList P #[] (ol' K) [o] a w):o.wp P a w K Q:=by
 have hw:Region.wanted o (yielded #[] a.tmps)=true:=by simp [Region.wanted,hg]
 simp only [wpList,hw,if_true] at h;rcases h with h | ⟨_,a',w',hf⟩
 ·unfold Oper.wp at h ⊢;generalize (execOp a.eval o).run P w=r at *;cases r with
  | ok nx w' =>
    cases nx<;>simp only [Oper.upon] at h ⊢ <;>
     first
      | exact h
      | exact Calls.mono h (λe w'' he=>by
         cases e with
         | returned v=>exact he
         | panicked ch=>exact he.elim
         | outgrown=>obtain ⟨_,_,hf⟩:=he; exact hf.elim)
      | exact Rows.mono h (λ_ _ he=>he)
  | halt x w'=>cases x<;>simp only [Oper.upon] at h ⊢<;>first | exact h | exact h.elim
 ·exact hf.elim
theorem ym' {ops:List Oper}{F:Fr}{j d:Nat}{b:Bool}(hd:yx ops j=some d)(hlt:LF' d n=true)(hF:F d=.bool b):yielded ops.toArray (fr n F).tmps j=some b:=by
 have h:(ops.toArray[j]?).bind (·.dst)=some d:=by simpa [yx] using hd
 have h2:(fr n F).tmps[d]?=some (.bool b):=by simp [fr,kN hlt,hF]
 unfold yielded;rw [h];show (match (fr n F).tmps[d]? with | some (.bool b)=>some b | _=>none)=some b
 rw [h2]
theorem bO' {F:Fr}{o:Oper}{j d:Nat}{want b:Bool}(hg:o.guard=some (j,want))(hd:yx all j=some d)(hlt:LF' d n=true)(hF:F d=.bool b) :
 Region.wanted o (yielded all.toArray (fr n F).tmps)=(b==want):=by
 have hy:=ym' (F:=F) hd hlt hF;simp only [Region.wanted,hg,hy];cases b<;>cases want<;>rfl
theorem ut' {F:Fr}{o:Oper}{j d:Nat}{want:Bool}(hg:o.guard=some (j,want))(hd:yx all j=some d)(hlt:LF' d n=true)(hF:F d=undef) :
 Region.wanted o (yielded all.toArray (fr n F).tmps)=false:=by
 have hyn:yielded all.toArray (fr n F).tmps j=none:=by
  have h:(all.toArray[j]?).bind (·.dst)=some d:=by simpa [yx] using hd
  have h2:(fr n F).tmps[d]?=some undef:=by simp [fr,kN hlt,hF]
  unfold yielded;rw [h];show (match (fr n F).tmps[d]? with | some (.bool b)=>some b | _=>none)=none
  rw [h2];rfl
 simp [Region.wanted,hg,hyn]
omit [∀ E,Rp (I E)] in
theorem sV' {F:Nat->Option (PV I)}{ts:List Nat}{i:Nat}{p:PV I}(h:GA F ts i=some p):F i=some p:=by
 unfold GA at h;cases hm:cO i ts with
 | true=>rw [hm] at h; exact h
 | false=>rw [hm] at h; cases h
omit [∀ E,Rp (I E)] in
theorem Bc' {O:aN I}{ls:List Nat}{i:Nat}{o:Option (Ob I)}(h:Gn O ls i=some o):O i=some o:=by
 unfold Gn at h;cases hm:cO i ls with
 | true=>rw [hm] at h; exact h
 | false=>rw [hm] at h; cases h
theorem XO {F:Fr}{d:Option Nat}{v:Value}{j:Nat}(h:d≠some j):dF F d v j=F j:=by
 cases d with
 | none=>rfl
 | some d =>
   have:Lm' j d=false:=Sx.beq_false (λe=>h (by rw [e]))
   simp [dF,upd,this]
theorem av' (ht:bT P tb)(hd:lY P aH)(hX:X.P=P){s:St I}{F:Fr}(h:Rel X c σ s n F){i:Nat}{o:Oper}{e:Ef I}(hx:jB tb aH s i o some=some e)(hok:zP s i e=true)
 {ops:Array Oper} {Q:Exit->Act->World->Prop} {rest:List Oper}
 (hk:∀ c' τ F',Cx.le c c'->Rel X c' τ (qN s i o e) n F'->Stp X.M σ τ->(∀ j,o.dst≠some j->F' j=F j)->wpList P ops Q rest (fr n F') τ.w):wpList P ops Q ({ o with guard:=none }::rest) (fr n F) σ.w:=by
 unfold jB at hx;obtain ⟨_,hx⟩:=bA hx;simp only [zP,Lc'] at hok;rw [h.len] at hx;exact snd (o:={ o with guard:=none }) ht hd h hX (λ_ _ hp=>sV' hp) (λ_ _ ho=>Bc' ho) rfl hx hok.2 λv τ c' k1 k2 k3 k4=>hk c' τ _ k1 (k2.put o.dst e.p v k3) k4 λj hj=>XO hj
theorem gW' (_:bT P tb)(_:lY P aH)(_:X.P=P){s:St I}{F:Fr}(h:Rel X c σ s n F){i:Nat}{o:Oper}{r:Option (Ef I)}(hx:kr tb aH all s i o=some r)(hok:xB s i r=true) :
 (∃ e,r=some e/\jB tb aH s i o some=some e/\Region.wanted o (yielded all.toArray (fr n F).tmps)=true)\/(r=none/\Region.wanted o (yielded all.toArray (fr n F).tmps)=false):=by
 have hmap:(jB tb aH s i o some).map some=some r->∃ e,r=some e/\jB tb aH s i o some=some e:=λh=>by
  cases he:jB tb aH s i o some with
  | none=>rw [he] at h; cases h
  | some e=>rw [he] at h; cases h; exact ⟨e,rfl,rfl⟩
 unfold kr at hx;split at hx
 ·rename_i hg;obtain ⟨e,h1,h2⟩:=hmap hx;exact .inl ⟨e,h1,h2,by simp [Region.wanted,hg]⟩
 ·rename_i j want hg;replace hx:=bind_some hx;obtain ⟨dj,hdj,hx⟩:=hx;replace hx:=bA hx;obtain ⟨hlt,hx⟩:=hx;rw [h.len] at hlt;split at hx
  ·rename_i hl;have hF:=h.frame _ _ hl;simp only [RV] at hF;cases hx;exact .inr ⟨rfl,ut' hg hdj hlt hF⟩
  ·rename_i b hl;have hF:=h.frame _ _ hl;simp only [RV] at hF;have hw:=bO' (o:=o) hg hdj hlt hF;cases hbw:(b==want) with
   | true =>rw [hbw] at hx hw;obtain ⟨e,h1,h2⟩:=hmap hx;exact .inl ⟨e,h1,h2,hw⟩
   | false =>rw [hbw] at hx hw;cases hx;exact .inr ⟨rfl,hw⟩
  ·cases hx
theorem Ae' {ops:Array Oper}{Q:Exit->Act->World->Prop}{o:Oper}{rest:List Oper}{a:Act}{w:World}(hw:Region.wanted o (yielded ops a.tmps)=true)(h:wpList P ops Q ({ o with guard:=none }::rest) a w):wpList P ops Q (o::rest) a w:=by
 have hw':Region.wanted { o with guard:=none } (yielded ops a.tmps)=true:=by simp [Region.wanted]
 simp only [wpList,hw',if_true] at h;simp only [wpList,hw,if_true];obtain ⟨d,op,ty,pos,bV,g⟩:=o;rcases h with h | h
 ·refine .inl ?_;unfold Oper.wp at h ⊢;exact h
 ·exact .inr h
theorem mL' {ops:Array Oper}{Q:Exit->Act->World->Prop}{o:Oper}{rest:List Oper}{a:Act}{w:World}(hw:Region.wanted o (yielded ops a.tmps)=false)(h:wpList P ops Q rest (a.put o.dst undef) w):wpList P ops Q (o::rest) a w:=by simp only [wpList,hw];exact h
theorem uD' (ht:bT P tb)(hd:lY P aH)(hX:X.P=P){Q:Exit->Act->World->Prop}{post:List Oper}{s s':St I}{l:List (Nat×Oper)}{es:lJ}(h:nW tb aH all s l s' es) :
 ∀ (c:Cx) (σ:S) (F:Fr),Rel X c σ s n F->(∀ c' τ F',Cx.le c c'->Rel X c' τ s' n F'->Stp X.M σ τ->(∀ j,jA l j=false->F' j=F j)->wpList P all.toArray Q post (fr n F') τ.w)->wpList P all.toArray Q (l.map (·.2)++post) (fr n F) σ.w:=by
 induction h with
 | nil s=>exact λc σ F hr hk=>hk c σ F (Cx.le_refl c) hr (Stp.refl _ _) λ_ _=>rfl
 | cons s i o r rest s' es h1 h2 h3 ih =>
   intro c σ F hr hk;rcases gW' ht hd hX hr h1 h2 with ⟨e,rfl,he,hw⟩ | ⟨rfl,hw⟩
   ·exact Ae' hw (av' ht hd hX hr he h2 λc' τ F' k1 k2 k3 k4=>ih c' τ F' k2 λc2 υ F2 m1 m2 m3 m4=>hk c2 υ F2 (Cx.le_trans k1 m1) m2 (k3.trans m3) λj hj=>(m4 j (Ci hj).2).trans (k4 j (Ci hj).1))
   ·refine mL' hw ?_;rw [J8];exact ih c σ _ (hr.put o.dst .undef undef (by simp only [RV])) λc2 υ F2 m1 m2 m3 m4=>hk c2 υ F2 m1 m2 m3 λj hj=>(m4 j (Ci hj).2).trans (XO (Ci hj).1)
theorem lH:∀ {m nb l:Nat},l∈gu nb m↔nb<=l/\l<nb+m
 | 0,nb,l=>by simp [gu]
 | m+1,nb,l=>by simp only [gu,Lq',lH];omega
def tr (nb:Nat)(e:Ef I)(O:aN I):aN I:=fo (dD O e.upd) nb e.new
def wR (nb:Nat)(e:Ef I):List Nat:=iK e.upd++gu nb e.new.length
omit [∀ E,Rp (I E)] in
theorem pU:∀ {u:List (Nat×Option (Ob I))} {O:aN I} {l:Nat},l ∉ iK u->dD O u l=O l
 | [],_,_,_=>rfl
 | x::r,O,l,h=>by simp only [iK,LJ',Lq',not_or] at h;simp only [dD];rw [pU (u:=r) h.2,fq h.1]
omit [∀ E,Rp (I E)] in
theorem BG:∀ {u:List (Nat×Option (Ob I))} {O O':aN I} {l:Nat},l∈iK u->dD O u l=dD O' u l/\dD O u l≠none
 | [],_,_,_,h=>by simp [iK] at h
 | x::r,O,O',l,h=>by
   simp only [dD];by_cases hr:l∈iK r
   ·exact BG hr
   ·simp only [iK,LJ',Lq'] at h;have e:l=x.1:=h.resolve_right hr;rw [pU hr,pU hr,e,iq,iq];exact ⟨rfl,by simp⟩
omit [∀ E,Rp (I E)] in
theorem kY:∀ {os:List (Ob I)} {O:aN I} {nb l:Nat},l ∉ gu nb os.length->fo O nb os l=O l
 | [],_,_,_,_=>rfl
 | o::os,O,nb,l,h=>by simp only [Ld',gu,Lq',not_or] at h;simp only [fo];rw [kY h.2,fq h.1]
omit [∀ E,Rp (I E)] in
theorem YL:∀ {os:List (Ob I)} {O O':aN I} {nb l:Nat},l∈gu nb os.length->fo O nb os l=fo O' nb os l/\fo O nb os l≠none
 | [],_,_,_,_,h=>by simp [gu] at h
 | o::os,O,O',nb,l,h=>by
   simp only [fo];by_cases hr:l∈gu (nb+1) os.length
   ·exact YL hr
   ·simp only [Ld',gu,Lq'] at h;have e:l=nb:=h.resolve_right hr;rw [kY hr,kY hr,e,iq,iq];exact ⟨rfl,by simp⟩
omit [∀ E,Rp (I E)] in
theorem EL {nb:Nat}{e:Ef I}{O:aN I}{l:Nat}(h:l ∉ wR nb e):tr nb e O l=O l:=by simp only [wR,Lo',not_or] at h;simp only [tr];rw [kY h.2,pU h.1]
omit [∀ E,Rp (I E)] in
theorem VD {nb:Nat}{e:Ef I}{O O':aN I}{l:Nat}(h:l∈wR nb e):tr nb e O l=tr nb e O' l/\tr nb e O l≠none:=by
 simp only [tr];by_cases hr:l∈gu nb e.new.length
 ·exact YL hr
 ·rw [kY hr,kY hr];simp only [wR,Lo'] at h;exact BG (h.resolve_right hr)
omit [∀ E,Rp (I E)] in
theorem tG' {na nb:Nat}{a b:Ef I}(h:∀ x∈wR na a,x ∉ wR nb b)(O:aN I):tr na a (tr nb b O)=tr nb b (tr na a O):=by
 funext l;by_cases ha:l∈wR na a
 ·rw [EL (h l ha)];exact (VD ha).1
 ·rw [EL ha];by_cases hb:l∈wR nb b
  ·exact (VD hb).1
  ·rw [EL hb,EL hb,EL ha]
omit [∀ E,Rp (I E)] in
theorem o8:∀ {os:List (Ob I)} {O:aN I} {nb:Nat},jH O nb os=true↔∀ l∈gu nb os.length,O l=none
 | [],_,_=>by simp [jH,gu]
 | _::os,O,nb=>by
   simp only [jH,Lc',o8,Ld',gu,Lq',Option.isNone_iff_eq_none];constructor
   ·rintro ⟨h1,h2⟩ l (rfl | h)
    ·exact h1
    ·exact h2 l h
   ·exact λh=>⟨h _ (.inl rfl),λl hl=>h l (.inr hl)⟩
theorem dN' {s s':St I}{i:Nat}{o:Oper}(hn:s'.n=s.n)(hx:s'.nx=s.nx)(hF:∀ t∈BO all o,s'.F t=s.F t)(hO:∀ l∈p9 s.F s.O o.op,s'.O l=s.O l) :
 kr tb aH all s' i o=kr tb aH all s i o/\p9 s'.F s'.O o.op=p9 s.F s.O o.op:=by
 have DJ:∀ t∈l8 o.op,s'.F t=s.F t:=λt ht=>hF t (by simp [BO,ht])
 have e1:mK s'.F (l8 o.op)=mK s.F (l8 o.op):=Ym DJ;have kW':∀ {l:List Nat},(∀ x∈l,s'.O x=s.O x)->nest s'.O l=nest s.O l:=by
  intro l
  induction l with
  | nil=>exact λ_=>rfl
  | cons x r ih=>exact λh=>by simp only [nest]; rw [h x (by simp),ih λy hy=>h y (by simp [hy])]
 have e4:p9 s'.F s'.O o.op=p9 s.F s.O o.op:=by
  unfold p9 at hO ⊢;cases hno:aK' o.op with
  | true=>rfl
  | false =>
    rw [hno] at hO;simp only [cond_false] at hO ⊢;cases hld:bM' o.op with
    | true=>exact e1
    | false =>
    rw [hld] at hO;simp only [cond_false] at hO ⊢;have Dz:=hO;simp only [ql,Lo'] at Dz;have e2:nest s'.O (mK s.F (l8 o.op))=nest s.O (mK s.F (l8 o.op)):=kW' λx hx=>Dz x (.inl (.inl hx));have e3:nest s'.O (mK s.F (l8 o.op)++nest s.O (mK s.F (l8 o.op)))=nest s.O (mK s.F (l8 o.op)++nest s.O (mK s.F (l8 o.op))):=kW' λx hx=>Dz x (.inl (Lo'.1 hx));simp only [ql,e1,e2,e3]
 have e5:Gn s'.O (p9 s.F s.O o.op)=Gn s.O (p9 s.F s.O o.op):=by
  funext l;simp only [Gn];cases hm:cO l (p9 s.F s.O o.op)
  ·rfl
  ·exact hO l (kE.1 hm)
 have e6:(l8 o.op).all (λt=>(s'.F t).isSome)=(l8 o.op).all (λt=>(s.F t).isSome):=by rw [LZ',Le',Le'];exact ⟨λh t ht=>by rw [<- DJ t ht]; exact h t ht,λh t ht=>by rw [DJ t ht]; exact h t ht⟩
 have e7:jB tb aH s' i o (some:Ef I->Option (Ef I))=jB tb aH s i o some:=by simp only [jB,e4,e5,e6,jS' DJ,jT,hn,hx]
 refine ⟨?_,e4⟩;simp only [kr,e7,hn];split
 ·rfl
 ·rename_i j want hg;cases hd:yx all j with
  | none=>rfl
  | some dj =>simp only [KY'];rw [hF dj (by simp [BO,hg,hd])]
omit [∀ E,Rp (I E)] in
theorem tC' {α:Type}{F:Nat->Option α}{a b:Nat}{p q:α}(h:a≠b):cB (cB F a p) b q=cB (cB F b q) a p:=by
 funext i;by_cases e1:i=a
 ·subst e1;rw [fq h,iq,iq]
 ·by_cases e2:i=b
  ·subst e2;rw [iq,fq e1,iq]
  ·rw [fq e2,fq e1,fq e1,fq e2]
def pOf:Option (Ef I)->PV I
 | some e=>e.p
 | none=>.undef
def Yc (nb:Nat):Option (Ef I)->aN I->aN I
 | some e,O=>tr nb e O
 | none,O=>O
def wO (nb:Nat):Option (Ef I)->List Nat
 | some e=>wR nb e
 | none=>[]
omit [∀ E,Rp (I E)] in
theorem IV (s:St I)(i:Nat)(o:Oper)(r:Option (Ef I)):(dR s i o r).F=(match o.dst with | some d=>cB s.F d (pOf r) | none=>s.F):=by cases r<;>simp only [dR,qN,put]<;>cases o.dst<;>rfl
omit [∀ E,Rp (I E)] in
theorem zK (s:St I)(i:Nat)(o:Oper)(r:Option (Ef I)):(dR s i o r).O=Yc (jT s i) r s.O:=by cases r<;>simp only [dR,qN,put]<;>cases o.dst<;>rfl
omit [∀ E,Rp (I E)] in
theorem Fx (s:St I)(i:Nat)(o:Oper)(r:Option (Ef I)):(dR s i o r).n=s.n/\(dR s i o r).nx=s.nx:=by cases r<;>simp only [dR,qN,put]<;>cases o.dst<;>exact ⟨rfl,rfl⟩
omit [∀ E,Rp (I E)] in
theorem RU {nb:Nat}{r:Option (Ef I)}{O:aN I}{l:Nat}(h:l ∉ wO nb r):Yc nb r O l=O l:=by
 cases r
 ·rfl
 ·exact EL h
omit [∀ E,Rp (I E)] in
theorem wZ' {nb:Nat}{r:Option (Ef I)}{O:aN I}{l:Nat}(h:l∈wO nb r):Yc nb r O l≠none:=by
 cases r
 ·simp [wO] at h
 ·exact (VD (O':=O) h).2
omit [∀ E,Rp (I E)] in
theorem Ch' (s:St I)(i:Nat)(o:Oper)(r:Option (Ef I)):(lI s i o r).W=wO (jT s i) r:=by cases r<;>rfl
omit [∀ E,Rp (I E)] in
theorem gd' (s:St I)(i:Nat)(o:Oper)(e:Ef I):(lI s i o (some e)).T=some (p9 s.F s.O o.op):=rfl
omit [∀ E,Rp (I E)] in
theorem Q8 (s:St I)(i:Nat)(r:Option (Ef I)):xB s i r=true↔∀ e,r=some e->e.new.length<=8/\∀ l∈gu (jT s i) e.new.length,dD s.O e.upd l=none:=by
 cases r with
 | none=>simp [xB]
 | some e =>
   simp only [xB,zP,Lc',o8];constructor
   ·rintro ⟨h1,h2⟩ e' he;cases he;exact ⟨LG' h1,h2⟩
   ·exact λh=>⟨MV' (h e rfl).1,(h e rfl).2⟩
theorem Vb {d:Option Nat}{l:List Nat}(h:Qe d l=false):∀ x,d=some x->x ∉ l:=λx e=>by
 subst e;exact oo.1 h
omit [∀ E,Rp (I E)] in
theorem OX {s:St I}{i:Nat}{o:Oper}{r:Option (Ef I)}{t:Nat}(h:∀ x,o.dst=some x->x≠t):(dR s i o r).F t=s.F t:=by
 rw [IV];cases hd:o.dst with
 | none=>rfl
 | some d=>exact fq (Ne.symm (h d hd))
theorem xO' {s:St I}{a i:Nat}{oa oi:Oper}{ra ri:Option (Ef I)}(ha:kr tb aH all s a oa=some ra)(hka:xB s a ra=true)(hi:kr tb aH all (dR s a oa ra) i oi=some ri)(hki:xB (dR s a oa ra) i ri=true)
 (hc:rJ (lI s a oa ra) (lI (dR s a oa ra) i oi ri)=true) (hs:GD all oa oi=true) :
 kr tb aH all s i oi=some ri/\xB s i ri=true/\lI s i oi ri=lI (dR s a oa ra) i oi ri/\kr tb aH all (dR s i oi ri) a oa=some ra/\xB (dR s i oi ri) a ra=true /\
  lI (dR s i oi ri) a oa ra=lI s a oa ra/\dR (dR s i oi ri) a oa ra=dR (dR s a oa ra) i oi ri:=by
 obtain ⟨n1,x1⟩:=Fx s a oa ra;obtain ⟨n2,x2⟩:=Fx s i oi ri;have Tc:jT (dR s a oa ra) i=jT s i:=by simp only [jT,x1]
 have Y8:jT (dR s i oi ri) a=jT s a:=by simp only [jT,x2]
 simp only [rJ,Lc',Ch',Tc] at hc;obtain ⟨⟨Y9,Td⟩,Te⟩:=hc;rw [KL] at Y9;simp only [GD,Lc',MN'] at hs;obtain ⟨⟨hs1,hs2⟩,hs3⟩:=hs;have d1:=Vb hs1;have d2:=Vb hs2;have d3:=Vb hs3;have kX':kr tb aH all s i oi=some ri/\lI s i oi ri=lI (dR s a oa ra) i oi ri:=by
  cases ri with
  | none =>
    refine ⟨?_,rfl⟩;unfold kr at hi ⊢;split at hi
    ·rename_i hg;cases he:jB tb aH (dR s a oa ra) i oi (some:Ef I->Option (Ef I)) with
     | none=>rw [he] at hi; cases hi
     | some e=>rw [he] at hi; cases hi
    ·rename_i j want hg;replace hi:=bind_some hi;obtain ⟨dj,hdj,hi⟩:=hi;rw [n1,OX (t:=dj) (λx hx e=>by subst e; exact d1 x hx (by simp [BO,hg,hdj]))] at hi
     simp only [hdj,KY'];obtain ⟨hlt,hi⟩:=bA hi;rw [hlt];simp only [cond_true];split at hi
     ·rfl
     ·rename_i b hb;cases hbw:(b==want) with
      | true =>
        rw [hbw] at hi;simp only [cond_true] at hi;cases he:jB tb aH (dR s a oa ra) i oi (some:Ef I->Option (Ef I)) with
        | none=>rw [he] at hi; cases hi
        | some e=>rw [he] at hi; cases hi
      | false=>rfl
     ·cases hi
  | some e =>
    rw [gd'] at Td;simp only [CB] at Td;rw [KL] at Td;obtain ⟨h1,h2⟩:=dN' (tb:=tb) (aH:=aH) (all:=all) (s:=dR s a oa ra) (s':=s) (i:=i) (o:=oi) n1.symm x1.symm
     (λt ht=>(OX λx hx e=>by subst e; exact d1 x hx ht).symm) (λl hl=>by rw [zK]; exact (RU λhm=>Td l hm hl).symm)
    refine ⟨h1.trans hi,?_⟩;simp only [lI,uN,h2,Tc]
 have kY':kr tb aH all (dR s i oi ri) a oa=some ra/\lI (dR s i oi ri) a oa ra=lI s a oa ra:=by
  cases ra with
  | none =>
    refine ⟨?_,rfl⟩;unfold kr at ha ⊢;split at ha
    ·rename_i hg;cases he:jB tb aH s a oa (some:Ef I->Option (Ef I)) with
     | none=>rw [he] at ha; cases ha
     | some e=>rw [he] at ha; cases ha
    ·rename_i j want hg;replace ha:=bind_some ha;obtain ⟨dj,hdj,ha⟩:=ha;simp only [hdj,KY'];rw [n2,OX (t:=dj) (λx hx e=>by subst e; exact d2 x hx (by simp [BO,hg,hdj]))]
     obtain ⟨hlt,ha⟩:=bA ha;rw [hlt];simp only [cond_true];split at ha
     ·rfl
     ·rename_i b hb;cases hbw:(b==want) with
      | true =>
        rw [hbw] at ha;simp only [cond_true] at ha;cases he:jB tb aH s a oa (some:Ef I->Option (Ef I)) with
        | none=>rw [he] at ha; cases ha
        | some e=>rw [he] at ha; cases ha
      | false=>rfl
     ·cases ha
  | some e =>
    rw [gd'] at Te;simp only [CB] at Te;rw [KL] at Te;obtain ⟨h1,h2⟩:=dN' (tb:=tb) (aH:=aH) (all:=all) (s:=s) (s':=dR s i oi ri) (i:=a) (o:=oa) n2 x2
     (λt ht=>OX λx hx e=>by subst e; exact d2 x hx ht) (λl hl=>by rw [zK]; exact RU λhm=>Te l hm hl)
    refine ⟨h1.trans ha,?_⟩;simp only [lI,uN,h2,Y8]
 refine ⟨kX'.1,(Q8 _ _ _).2 λe he=>?_,kX'.2,kY'.1,(Q8 _ _ _).2 λe he=>?_,kY'.2,?_⟩
 ·obtain ⟨h1,h2⟩:=(Q8 _ _ _).1 hki e he;refine ⟨h1,λl hl=>?_⟩;have h3:=h2 l (by rw [Tc]; exact hl)
  by_cases hm:l∈iK e.upd
  ·exact absurd h3 (BG (O':=s.O) hm).2
  ·rw [pU hm] at h3 ⊢;rw [zK] at h3;by_cases hw:l∈wO (jT s a) ra
   ·exact absurd h3 (wZ' hw)
   ·rw [RU hw] at h3; exact h3
 ·subst he;obtain ⟨h1,h2⟩:=(Q8 _ _ _).1 hka e rfl;refine ⟨h1,λl hl=>?_⟩;rw [Y8] at hl;have h3:=h2 l hl;by_cases hm:l∈iK e.upd
  ·exact absurd h3 (BG (O':=s.O) hm).2
  ·rw [pU hm] at h3 ⊢;rw [zK,RU]
   ·exact h3
   ·exact Y9 l (by simp [wO,wR,hl])
 ·have hF:(dR (dR s i oi ri) a oa ra).F=(dR (dR s a oa ra) i oi ri).F:=by
   rw [IV,IV,IV,IV];cases hda:oa.dst with
   | none=>cases oi.dst<;>rfl
   | some da =>
     cases hdi:oi.dst with
     | none=>rfl
     | some di =>
       have:da≠di:=by have:=d3 da hda;rw [hdi] at this;simpa using this
       exact (tC' this).symm
  have hO:(dR (dR s i oi ri) a oa ra).O=(dR (dR s a oa ra) i oi ri).O:=by
   rw [zK,zK,zK,zK,Tc,Y8];cases ra with
   | none=>rfl
   | some ea =>
     cases ri with
     | none=>rfl
     | some ei=>exact tG' Y9 s.O
  have hn:(dR (dR s i oi ri) a oa ra).n=(dR (dR s a oa ra) i oi ri).n:=by rw [(Fx _ _ _ _).1,n2,(Fx _ _ _ _).1,n1]
  have hx:(dR (dR s i oi ri) a oa ra).nx=(dR (dR s a oa ra) i oi ri).nx:=by rw [(Fx _ _ _ _).2,x2,(Fx _ _ _ _).2,x1]
  generalize dR (dR s i oi ri) a oa ra=u at *;generalize dR (dR s a oa ra) i oi ri=v at *;obtain ⟨u1,u2,u3,u4⟩:=u;obtain ⟨v1,v2,v3,v4⟩:=v;simp only at hF hO hn hx;subst hF;subst hO;subst hn;subst hx;rfl
end
section
variable {I:TypeId->Type} [∀ E,Rp (I E)] {P:Program}{tb:aX I}{aH:fQ I}{all:List Oper}{cZ:List (List Nat)}{X:bZ}{c c':Cx}{σ τ:S}{n:Nat}
theorem gz':∀ {pre:List (Nat×Oper)} {s s':St I} {i:Nat} {o:Oper} {post:List (Nat×Oper)} {es:lJ},nW tb aH all s (pre++(i,o)::post) s' es->es.Pairwise (R cZ) ->
 (∀ x∈pre,cO x.1 (rQ cZ i)=false)->(∀ x∈pre,GD all x.2 o=true) ->
 ∃ e1 e e2,es=e1++e::e2/\e1.length=pre.length/\e.1=i/\(∀ x∈e1,R cZ e x)/\nW tb aH all s ((i,o)::(pre++post)) s' (e::(e1++e2))
 | [],s,s',i,o,post,_,.cons _ _ _ r _ _ es h1 h2 h3,_,_,_=>⟨[],_,es,rfl,rfl,rfl,(λx hx=>by cases hx),nW.cons _ _ _ r _ _ es h1 h2 h3⟩
 | (a,oa)::pre,s,s',i,o,post,_,.cons _ _ _ ra _ _ es h1 h2 h3,hp,ht,hs=>by
   obtain ⟨p1,p2⟩:=Mr'.1 hp;obtain ⟨e1,e,e2,k1,k2,k3,k4,k5⟩:=gz' h3 p2 (λx hx=>ht x (by simp [hx])) (λx hx=>hs x (by simp [hx]))
   subst k1;cases k5 with
   | cons _ _ _ ri _ _ _ g1 g2 g3 =>
     have hR:=p1 (i,lI (dR s a oa ra) i o ri) (by simp)
     have hc:rJ (lI s a oa ra) (lI (dR s a oa ra) i o ri)=true:=by
      rcases hR with h | h
      ·have:=ht (a,oa) (by simp)
       rw [this] at h; cases h
      ·exact h
     obtain ⟨m1,m2,m3,m4,m5,m6,m7⟩:=xO' h1 h2 g1 g2 hc (hs (a,oa) (by simp))
     refine ⟨(a,lI s a oa ra)::e1,(i,lI (dR s a oa ra) i o ri),e2,rfl,by simp [k2],rfl,λx hx=>?_,?_⟩
     ·rcases Lq'.1 hx with rfl | hx
      ·exact .inr (cw' hc)
      ·exact k4 x hx
     ·rw [<- m3];refine .cons s i o ri _ _ _ m1 m2 ?_;rw [<- m6];refine .cons _ a oa ra _ _ _ m4 m5 ?_;rw [m7];exact g3
def Xl (ops:List Oper)(cZ:List (List Nat)):Bool :=
 (ops.zipIdx).all λp=>p.1.after.toList.all (λe=>!Region.binds .any e||LF' e.on p.2) &&
   (rQ cZ p.2).all λj=>LF' j p.2&&p.1.after.toList.any λe=>Region.binds .any e&&(Lm' e.on j||cO j (rQ cZ e.on))
def K8 (all:List Oper)(cZ:List (List Nat)):List (Nat×Oper)->Bool
 | []=>true
 | x::r=>r.all (λy=>cO x.1 (rQ cZ y.1)||GD all x.2 y.2)&&K8 all cZ r
theorem ct' {α:Type}{l:List α}{i:Nat}{x:α}(h:l[i]?=some x):(x,i)∈l.zipIdx:=by rw [List.mem_iff_getElem?];exact ⟨i,by simp [List.getElem?_zipIdx,h]⟩
theorem yA' {listed:Array Bool}{i:Nat}(hi:i<listed.size)(k:Nat):(listed.setIfInBounds i true).getD k false=(Lm' k i||listed.getD k false):=by
 simp only [Array.getD_eq_getD_getElem?,Array.getElem?_setIfInBounds];by_cases h:i=k
 ·subst h; simp [hi]
 ·have:Lm' k i=false:=beq_false (λe=>h e.symm);simp [h,this]
abbrev SC (all:List Oper)(cZ:List (List Nat))(x y:Nat×Oper):Prop:=cO x.1 (rQ cZ y.1)=true\/GD all x.2 y.2=true
theorem bu':∀ {l:List (Nat×Oper)},K8 all cZ l=true->l.Pairwise (SC all cZ)
 | [],_=>NV'.nil
 | x::r,h=>by simp only [K8,Lc',Le',LU'] at h;exact Mr'.2 ⟨h.1,bu' h.2⟩
structure kZ' (all:List Oper)(cZ:List (List Nat))(listed:Array Bool)(rem:List (Nat×Oper)):Prop where
 size:listed.size=all.length
 mem:∀ x∈rem,all[x.1]?=some x.2/\listed.getD x.1 false=false
 Za:∀ i o,all[i]?=some o->listed.getD i false=false->(i,o)∈rem
 nodup:(rem.map (·.1)).Nodup
 lc':∀ i,listed.getD i false=true->∀ j∈rQ cZ i,listed.getD j false=true
 sc:rem.Pairwise (SC all cZ)
theorem wD' (ht:bT P tb)(hd:lY P aH)(hX:X.P=P)(hck:Xl all cZ=true){Q:Exit->Act->World->Prop}{s':St I}:∀ (fuel:Nat) (listed:Array Bool) (rem:List (Nat×Oper)) (s:St I) (es:lJ) (c:Cx) (σ:S) (F:Fr),
 rem.length=fuel->kZ' all cZ listed rem->nW tb aH all s rem s' es->es.Pairwise (R cZ)->Rel X c σ s n F->(∀ c' τ F',Cx.le c c'->Rel X c' τ s' n F'->Stp X.M σ τ->(∀ j,jA rem j=false->F' j=F j)->Q .normal (fr n F') τ.w) ->
 wpAny P .any all.toArray Q fuel listed (fr n F) σ.w:=by
 have lf':∀ i o,all[i]?=some o->(∀ e∈o.after.toList,Region.binds .any e=true->e.on<i) /\
  (∀ j,j∈rQ cZ i->∃ e∈o.after.toList,Region.binds .any e=true/\(e.on=j\/j∈rQ cZ e.on)):=by
  intro i o ho;have h1:=(Le'.1 hck) _ (ct' ho);simp only [Lc'] at h1;refine ⟨λe he hb=>?_,λj hj=>?_⟩
  ·have:=(Le'.1 h1.1) e he;rw [hb] at this;simpa using kN (by simpa using this)
  ·have:=(Le'.1 h1.2) j hj;simp only [Lc'] at this;obtain ⟨e,he,hh⟩:=LL'.1 this.2;simp only [Lc',LU'] at hh;refine ⟨e,he,hh.1,?_⟩;rcases hh.2 with h | h
   ·exact .inl (Li' h)
   ·exact .inr (kE.1 h)
 intro fuel
 induction fuel with
 | zero =>
   intro listed rem s es c σ F hlen hI hf hp hr hk;have:rem=[]:=LB' hlen;subst this;cases hf;have hall:∀ k,k<all.length->listed.getD k false=true:=by
    intro k hk;cases hq:listed.getD k false with
    | true=>rfl
    | false =>have:=hI.Za k _ (Lb' hk) hq;cases this
   refine ⟨?_,hk c σ F (Cx.le_refl c) hr (Stp.refl _ _) λ_ _=>rfl⟩;apply List.filter_eq_nil_iff.2;intro k hk;have hk':k<all.length:=by simpa using hk
   have hk2:k<listed.size:=by rw [hI.size]; exact hk'
   have e1:listed.getD k true=listed.getD k false:=by simp [Array.getD,hk2]
   intro hh;rw [e1,hall k hk'] at hh;simp at hh
 | succ fuel ih =>
   intro listed rem s es c σ F hlen hI hf hp hr hk;have lg':∀ i,i∈Region.ready .any all.toArray listed↔∃ o,all[i]?=some o/\listed.getD i true=false/\∀ e∈o.after.toList,Region.binds .any e=true->listed.getD e.on false=true:=by
    intro i;simp only [Region.ready,MM',List.mem_range,Nq',Lc',MN'];constructor
    ·rintro ⟨h1,h2,h3⟩;have ho:all[i]?=some all[i]:=Lb' h1;refine ⟨_,ho,h2,?_⟩;simp only [MU',ho,Mv',Mo'] at h3;intro e he hb;rw [Array.all_eq_true_iff_forall_mem] at h3;have:=h3 e (by simpa using he)
     rw [hb] at this;simpa using this
    ·rintro ⟨o,ho,h2,h3⟩;refine ⟨(La'.1 ho).1,h2,?_⟩;simp only [MU',ho,Mv',Mo'];rw [Array.all_eq_true_iff_forall_mem];intro e he;cases hb:Region.binds .any e with
     | false=>rfl
     | true=>simpa using h3 e (by simpa using he) hb
   have lh':∀ i,i<all.length->listed.getD i true=listed.getD i false:=by
    intro i hi;have:i<listed.size:=by rw [hI.size]; exact hi
    simp [Array.getD,this]
   refine ⟨λhnil=>?_,λi hi=>?_⟩
   ·
    exfalso;have hall:∀ k,k<all.length->listed.getD k false=true:=by
     intro k
     induction k using Nat.strongRecOn with
     | _ k ihk =>
       intro hk;cases hq:listed.getD k false with
       | true=>rfl
       | false =>
         have ho:all[k]?=some all[k]:=Lb' hk;have:k∈Region.ready .any all.toArray listed:=(lg' k).2 ⟨_,ho,by rw [lh' k hk]; exact hq,λe he hb=>by have:=(lf' k _ ho).1 e he hb;exact ihk e.on this (by omega)⟩
         rw [hnil] at this;cases this
    cases rem with
    | nil=>cases hlen
    | cons x r =>
      obtain ⟨h1,h2⟩:=hI.mem x (by simp)
      rw [hall x.1 (La'.1 h1).1] at h2;cases h2
   ·obtain ⟨o,ho,hl,hdp⟩:=(lg' i).1 hi;have hil:i<all.length:=(La'.1 ho).1;have hnot:listed.getD i false=false:=by rw [<- lh' i hil]; exact hl
    have li':∀ j∈rQ cZ i,listed.getD j false=true:=by
     intro j hj;obtain ⟨e,he,hb,h⟩:=(lf' i o ho).2 j hj;have h1:=hdp e he hb;rcases h with rfl | h
     ·exact h1
     ·exact hI.lc' _ h1 j h
    obtain ⟨pre,post,hsplit⟩:=List.append_of_mem (hI.Za i o ho hnot);subst hsplit;have htd:∀ x∈pre,cO x.1 (rQ cZ i)=false:=λx hx=>by
     rw [oo];intro hm;have:=(hI.mem x (by simp [hx])).2
     rw [li' x.1 hm] at this;cases this
    have hsc:=ML'.1 hI.sc;have hs:∀ x∈pre,GD all x.2 o=true:=λx hx=>by
     rcases hsc.2.2 x hx (i,o) (by simp) with h | h
     ·rw [htd x hx] at h; cases h
     ·exact h
    obtain ⟨e1,e,e2,k1,k2,k3,k4,k5⟩:=gz' hf hp htd hs;subst k1;have hpw:=ML'.1 hp;have hp':(e1++e2).Pairwise (R cZ):=ML'.2 ⟨hpw.1,(Mr'.1 hpw.2.1).2,λa ha b hb=>hpw.2.2 a ha b (by simp [hb])⟩
    have hii:i<listed.size:=by rw [hI.size]; exact hil
    have hg:=yA' hii;have hnd:=hI.nodup;have hI':kZ' all cZ (listed.setIfInBounds i true) (pre++post):=by
     refine ⟨by simp [hI.size],λx hx=>?_,λj oj hj hjl=>?_,?_,λj hjl q hq=>?_,?_⟩
     ·have hx':x∈pre++(i,o)::post:=by
       rcases Lo'.1 hx with h | h
       ·simp [h]
       ·simp [h]
      obtain ⟨h1,h2⟩:=hI.mem x hx';refine ⟨h1,?_⟩;rw [hg,h2,MP'];apply Sx.beq_false;intro e;rw [List.map_append,LJ',Ml'] at hnd;obtain ⟨n1,n2,n3⟩:=hnd;rcases Lo'.1 hx with h | h
      ·exact n3 x.1 (List.mem_map_of_mem h) i (by simp) e
      ·exact (Nl'.1 n2).1 (Lx'.2 ⟨x,h,e⟩)
     ·rw [hg,NC'] at hjl;have:=hI.Za j oj hj hjl.2;rcases Lo'.1 this with h | h
      ·simp [h]
      ·rcases Lq'.1 h with h | h
       ·cases h;simp at hjl
       ·simp [h]
     ·rw [List.map_append] at hnd ⊢;exact hnd.sublist (List.Sublist.append (List.Sublist.refl _) (by simp))
     ·rw [hg] at hjl ⊢;rcases Bool.or_eq_true_iff.1 hjl with h | h
      ·have:=Li' h;subst this;simp [li' q hq]
      ·simp [hI.lc' j h q hq]
     ·exact ML'.2 ⟨hsc.1,(Mr'.1 hsc.2.1).2,λa ha b hb=>hsc.2.2 a ha b (by simp [hb])⟩
    cases k5 with
    | cons _ _ _ r _ _ _ g1 g2 g3 =>
      have hlen':(pre++post).length=fuel:=by simp only [Lf',Ld'] at hlen ⊢;omega
      have hdst:∀ {j},jA (pre++(i,o)::post) j=false->jA (pre++post) j=false/\o.dst≠some j:=λhj=>by obtain ⟨j1,j2⟩:=VA hj;obtain ⟨j3,j4⟩:=Ci j2;refine ⟨?_,j3⟩;simp only [jA,NM',NC'] at j1 j4 ⊢;exact ⟨j1,j4⟩
      have cont:∀ c' τ F',Cx.le c c'->Rel X c' τ (dR s i o r) n F'->Stp X.M σ τ->(∀ j,o.dst≠some j->F' j=F j)->wpAny P .any all.toArray Q fuel (listed.setIfInBounds i true) (fr n F') τ.w:=λc' τ F' m1 m2 m3 m4 =>
       ih _ _ _ _ c' τ F' hlen' hI' g3 hp' m2 λc2 υ F2 q1 q2 q3 q4=>hk c2 υ F2 (Cx.le_trans m1 q1) q2 (m3.trans q3) λj hj=>(q4 j (hdst hj).1).trans (m4 j (hdst hj).2)
      unfold wpOp;simp only [MU',ho];rcases gW' ht hd hX hr g1 g2 with ⟨e',rfl,he,hw⟩ | ⟨rfl,hw⟩
      ·rw [if_pos hw];refine .inl ?_;have h1:Oper.wp P { o with guard:=none } (fr n F) σ.w (wpAny P .any all.toArray Q fuel (listed.setIfInBounds i true)) Q:=nn' rfl (av' ht hd hX hr he g2 λc' τ F' m1 m2 m3 m4=>wpList_nil (cont c' τ F' m1 m2 m3 m4))
       unfold Oper.wp at h1 ⊢;exact h1
      ·rw [if_neg (by rw [hw]; simp),J8]
       exact cont c σ _ (Cx.le_refl c) (hr.put o.dst .undef undef (by simp only [RV])) (Stp.refl _ _) λj hj=>XO hj
def o7 (l:List Oper):List (Nat×Oper):=l.zipIdx.map λx=>(x.2,x.1)
theorem X4 {l:List Oper}{i:Nat}{o:Oper}:(i,o)∈o7 l↔l[i]?=some o:=by
 simp only [o7,Lx',Prod.mk.injEq];constructor
 ·rintro ⟨⟨o',i'⟩,h,rfl,rfl⟩;have:=List.mem_zipIdx_iff_getElem?.1 h;simpa using this
 ·intro h;exact ⟨(o,i),ct' h,rfl,rfl⟩
theorem Be' (l:List Oper):(o7 l).map (·.2)=l:=by simp [o7,List.map_map,Function.comp_def]
theorem yo' (l:List Oper):(o7 l).map (·.1)=LY' l.length:=by simp [o7,List.map_map,Function.comp_def,List.zipIdx_map_snd,List.range_eq_range']
def px' (s s':St I)(m:Nat):St I:=⟨s'.n,s'.F,s'.O,s.nx+8*m⟩
def region (tb:aX I)(aH:fQ I)(cZ:List (List Nat))(dS:Bool)(spl:List Nat)(ops:List Oper)(s:St I){ρ:Type}(k:St I->Option ρ):Option ρ :=
 pX tb aH ops cZ dS spl (2*ops.length+2) ρ false [] (o7 ops) [] s λs' _=>k (px' s s' ops.length)
theorem tF' (ht:bT P tb)(hd:lY P aH)(hX:X.P=P){dS:Bool}{spl:List Nat}(hm:P.follows .mixedOrders=true){ops:List Oper}(hck:dS=true->Xl ops cZ=true/\K8 ops cZ (o7 ops)=true){s:St I}{ρ:Type}{k:St I->Option ρ}{r:ρ}(h:region tb aH cZ dS spl ops s k=some r)
 {F:Fr} (hr:Rel X c σ s n F) {id:Nat} {Q:Exit->Act->World->Prop}
 (hk:∀ s' c' τ F',k s'=some r->Cx.le c c'->Rel X c' τ s' n F'->Stp X.M σ τ->(∀ i,jA (o7 ops) i=false->F' i=F i)->Q .normal (fr n F') τ.w):(Code.region id ops.toArray dS).wp P Q (fr n F) σ.w:=by
 obtain ⟨s1',s2',acc',es,h1,h2⟩:=Es hd _ _ _ _ _ _ _ _ _ s [] h ⟨rfl,rfl,rfl,λ_ _ h=>h⟩ (λ_ x hx=>by cases hx)
 have gJ:∀ c' τ F',Cx.le c c'->Rel X c' τ s1' n F'->Stp X.M σ τ->(∀ i,jA (o7 ops) i=false->F' i=F i)->Q .normal (fr n F') τ.w:=λc' τ F' k1 k2 k3 k4=>by
  refine hk _ c' τ F' h1 k1 ⟨h2.ref.n.symm.trans k2.len,λi p hp=>k2.frame i p (h2.ref.F i p hp),?_,?_,?_,?_,k2.base,?_⟩ k3 k4
  ·intro l o ho;exact k2.bB l o (by rw [h2.ref.O]; exact ho)
  ·intro l l' p p' b ⟨o,a1⟩ ⟨o',a2⟩;exact k2.inj l l' p p' b ⟨o,by rw [h2.ref.O]; exact a1⟩ ⟨o',by rw [h2.ref.O]; exact a2⟩
  ·intro l p b ⟨o,a1⟩;exact k2.mine l p b ⟨o,by rw [h2.ref.O]; exact a1⟩
  ·intro l hl;exact k2.jh l (by rw [h2.ref.O]; exact hl)
  ·show iE X c' τ s2'.O;rw [<- h2.ref.O];exact k2.aP
 cases dS with
 | false =>have hs:=uD' (Q:=Q) (post:=[]) ht hd hX h2.flat c σ F hr λc' τ F' k1 k2 k3 k4=>wpList_nil (gJ c' τ F' k1 k2 k3 k4);rw [Be',MK'] at hs;exact wp_region_lit hs
 | true =>
   obtain ⟨hc1,hc2⟩:=hck rfl;refine wp_region_any hm ?_;have hsz:ops.toArray.size=(o7 ops).length:=by simp [o7]
   have Mv:Stp rf σ ⟨{ σ.w with drawn:=σ.w.drawn+1 },σ.L⟩:=⟨⟨Lg' _,λ_ _=>Lg' _,λ_ _ _ _ h=>h,Nat.le_succ _,λ_ _ _ h=>h⟩,rfl,rfl,rfl,λ_ _ _=>⟨rfl,rfl⟩⟩
   have hfalse:∀ i,(Nz' ops.toArray.size false).getD i false=false:=λi=>by by_cases h:i<ops.toArray.size<;>simp [Array.getD]
   refine wD' ht hd hX hc1 _ _ (o7 ops) s es c ⟨{ σ.w with drawn:=σ.w.drawn+1 },σ.L⟩ F hsz.symm ⟨by simp,λx hx=>⟨X4.1 hx,hfalse _⟩,λi o ho _=>X4.2 ho,by rw [yo']; exact List.nodup_range,(λi hi=>by rw [hfalse] at hi; cases hi),bu' hc2⟩
    h2.flat (h2.pair rfl) (hr.step Mv) λc' τ F' k1 k2 k3 k4=>gJ c' τ F' k1 k2 (Mv.no.trans k3) k4
end
section
variable {I:TypeId->Type} [∀ E,Rp (I E)]
abbrev ja (S W:List (Nat×V)):List V:=S.map (·.2)++W.map (·.2)
abbrev mg (I:TypeId->Type)(S W:List (Nat×V)):Type:=fO I (ja S W)
def UB (O:aN I)(l:Nat):Option Nat:=match O l with
 | some (some _)=>some l
 | _=>none
omit [∀ E,Rp (I E)] in
theorem tB' {O:aN I}{l l':Nat}(h:UB O l=some l'):∃ o,O l'=some (some o):=by
 unfold UB at h;split at h
 ·rename_i o e; cases h; exact ⟨_,e⟩
 ·cases h
def dC' (s:St I)(t:Nat):Option Nat:=bif Mq' 2000000 t then UB s.O (t-2000000) else match s.F t with
 | some (.ptr l 0)=>some l
 | _=>none
def Gc (s:St I):List (Nat×V)->Option (List Nat)
 | []=>some []
 | x::r=>(dC' s x.1).bind λl=>(Gc s r).bind λr'=>some (l::r')
def qp':V->TypeId
 | .k (.d (.dat E))=>E
 | _=>0
def pQ:V->Bool
 | .k (.d (.dat _))=>true
 | .bW _=>true
 | _=>false
def EN (v:V)(ls:List (PV I)):Option (PV I):=bif pQ v then some (Da (qp' v) ls) else match ls with
 | [p]=>bif qD p then none else some p
 | _=>none
def rU (v:V)(p:PV I):List (PV I):=bif pQ v then (match p with
 | .agg ls=>ls
 | p=>[p]) else [p]
def Oy (s:St I):List (Nat×V)->Option (List (PV I))
 | []=>some []
 | x::r=>(s.F x.1).bind λp=>(Oy s r).bind λps=>some (p::ps)
def Ic (O0:aN I)(s:St I):List (Nat×V)->List Nat->Option (List (PV I))
 | [],[]=>some []
 | x::r,l::ls=>match s.O l,O0 l with
   | some (some (.var T vs true)),some (some (.var T0 _ _))=>bif Lm' T T0 then (EN x.2 vs).bind λp=>(Ic O0 s r ls).bind λps=>some (p::ps) else none
   | _,_=>none
 | _,_=>none
def wh (pubs:List Nat):List (Option Nat)->Bool
 | []=>true
 | none::r=>wh pubs r
 | some l::r=>!(cO l pubs)&&r.all (λx=>match x with | some l'=>!(Lm' l' l) | none=>true)&&wh pubs r
def tZ (tb:aX I)(O0:aN I)(S W:List (Nat×V))(wl:List Nat)(s:St I):Option (mg I S W) :=
 (Oy s S).bind λa=>(Ic O0 s W wl).bind λb=>(jC tb s.O (ja S W) (a++b)).bind λx=>bif wh (x.2.1++wl) x.2.2 then some x.1 else none
def dL (ls:List Nat)(O:aN I):aN I:=λl=>bif cO l ls then (match O l with | some _=>some none | none=>none) else O l
def iH (O0:aN I):List (Nat×V)->List Nat->List (PV I)->aN I->aN I
 | x::r,l::ls,p::ps,O=>match O0 l with
   | some (some (.var T _ w))=>iH O0 r ls ps (cB O l (some (.var T (rU x.2 p) w)))
   | _=>iH O0 r ls ps O
 | _,_,_,O=>O
def A9:List (Nat×V)->List (PV I)->(Nat->Option (PV I))->Nat->Option (PV I)
 | x::r,p::ps,F=>A9 r ps (cB F x.1 p)
 | _,_,F=>F
def uL (m:Nat)(F:Nat->Option (PV I)):Nat->Option (PV I):=λi=>bif Nj' m i then none else F i
def oF (tb:aX I)(sb:St I)(m:Nat)(dead:List Nat)(S W:List (Nat×V))(wl:List Nat)(x:mg I S W):St I :=
 let ps:=eF tb sb.nx (ja S W) x
 ⟨sb.n,A9 S (ps.take S.length) (uL m sb.F),iH sb.O W wl (ps.drop S.length) (fo (dL (wl++dead) sb.O) sb.nx (fB (ja S W) x)),sb.nx+Ew (ja S W)⟩
def J2 (O:aN I)(nb:Nat):Nat->Bool
 | 0=>true
 | m+1=>(O nb).isNone&&J2 O (nb+1) m
def isRow (O:aN I)(l:Nat):Bool:=match O l with
 | some (some (.row _ _ _))=>true
 | some (some (.map _ _ _))=>true
 | some (some (.var _ _ true))=>true
 | _=>false
def EJ (s:St I)(ts wl:List Nat):List Nat:=(mK s.F ts++nest s.O wl).filter (isRow s.O)
def iO (own:List Nat)(O:aN I):aN I:=λl=>bif cO l own then O l else match O l with
 | some (some (.var T ls _))=>some (some (.var T ls false))
 | some (some (.row E xs true))=>some (some (.ro E xs))
 | some (some (.row _ _ false))=>some none
 | some (some (.aP _ _ _ _ _))=>some none
 | some (some (.map T kd m))=>some (some (.gU T kd m))
 | o=>o
def mW (own:List Nat)(s:St I):St I:=⟨s.n,s.F,iO own s.O,s.nx⟩
variable {P:Program}{tb:aX I}{X X':bZ}{c c':Cx}{σ τ:S}{s:St I}{n:Nat}{F F':Fr}{O:aN I}
theorem Rel.lj' (h:Rel X c σ s n F){G:Nat->Option (PV I)}(hG:∀ i p,G i=some p->s.F i=some p/\F' i=F i):Rel X c σ ⟨s.n,G,s.O,s.nx⟩ n F' :=
 ⟨h.len,λi p hp=>by obtain ⟨h1,h2⟩:=hG i p hp; rw [h2]; exact h.frame i p h1,h.bB,h.inj,h.mine,h.jh,h.base,h.aP⟩
theorem Rel.less (h:Rel X c σ s n F){O':aN I}(hO:∀ l o,O' l=some (some o)->s.O l=some (some o))(hn:∀ l,O' l=none->s.O l=none):Rel X c σ ⟨s.n,s.F,O',s.nx⟩ n F :=
 ⟨h.len,h.frame,λl o ho=>h.bB l o (hO l o ho),λl l' p p' b ⟨o,a1⟩ ⟨o',a2⟩=>h.inj l l' p p' b ⟨o,hO l o a1⟩ ⟨o',hO l' o' a2⟩,λl p b ⟨o,a1⟩=>h.mine l p b ⟨o,hO l o a1⟩,λl hl=>h.jh l (hn l hl),h.base,h.aP.sub (λl _ _ _ _ _ e=>hO l _ e) λl' o _ _ ho' _ _=>.inl ⟨o,hO l' o ho'⟩⟩
theorem Rel.Zb (h:Rel X c σ s n F){l:Nat}{o:Ob I}(ho:gI X c σ l o)(hw:∀ p g,c l=some p->p.w=some g->X.M g/\∀ l' p',l'≠l->bH s l'->c l'=some p'->p'.w≠some g)(hN:iE X c σ (cB s.O l (some o))):Rel X c σ (bG s l (some o)) n F:=by
 have hlive:∀ {l'},l'≠l->bH (bG s l (some o)) l'->bH s l':=λe ⟨o',h'⟩=>by
  rcases dM h' with ⟨e',_⟩ | ⟨_,h⟩
  ·exact absurd e' e
  ·exact ⟨o',h⟩
 refine ⟨h.len,h.frame,λl' o'' hl'=>?_,λl1 l2 p1 p2 b a1 a2 a3 a4 a5 a6=>?_,λl1 p1 b a1 a2 a3=>?_,λl' hl'=>?_,h.base,hN⟩
 ·rcases dM hl' with ⟨rfl,e⟩ | ⟨e,hl'⟩
  ·cases e; exact ho
  ·exact h.bB l' o'' hl'
 ·by_cases e1:l1=l
  ·by_cases e2:l2=l
   ·rw [e1,e2]
   ·subst e1;exact absurd a6 ((hw p1 b a3 a5).2 l2 p2 e2 (hlive e2 a2) a4)
  ·by_cases e2:l2=l
   ·subst e2;exact absurd a5 ((hw p2 b a4 a6).2 l1 p1 e1 (hlive e1 a1) a3)
   ·exact h.inj l1 l2 p1 p2 b (hlive e1 a1) (hlive e2 a2) a3 a4 a5 a6
 ·by_cases e1:l1=l
  ·subst e1; exact (hw p1 b a2 a3).1
  ·exact h.mine l1 p1 b (hlive e1 a1) a2 a3
 ·refine h.jh l' ?_;by_cases e:l'=l
  ·subst e;have:(bG s l' (some o)).O l'=some (some o):=iq _ _ _;rw [this] at hl'; cases hl'
  ·have:(bG s l (some o)).O l'=s.O l':=fq e;rw [this] at hl'; exact hl'
theorem Rel.Io (h:Rel X c σ s n F){l:Nat}{o:Ob I}(ho:gI X c σ l o)(hw:∀ p g,c l=some p->p.w=some g->X.M g/\eD c σ s g/\∀ l' p',l'≠l->bH s l'->c l'=some p'->p'.w≠some g)(hn:rC (some o)=true:=by rfl):Rel X c σ (bG s l (some o)) n F :=
 h.Zb ho (λp g a b=>⟨(hw p g a b).1,(hw p g a b).2.2⟩) (h.aP.sub (λl' E E' u xs q e=>by
  rcases dM e with ⟨_,e'⟩ | ⟨_,h2⟩
  ·exact absurd e'.symm (Dw hn)
  ·exact h2) λl' o' p' b ho' hc' hw'=>by
  rcases dM ho' with ⟨rfl,_⟩ | ⟨_,h2⟩
  ·exact .inr (hw p' b hc' hw').2.1
  ·exact .inl ⟨o',h2⟩)
theorem Rel.ED' (h:Rel X c σ s n F){l:Nat}{E E':TypeId}{u:Nat}{ys:List (I E)}{pl:Pl}(Mw:¬ bH s l)(hc:c l=some pl)(ho:gI X c σ l (.aP E E' u ys 0))
 (hw:∀ g,pl.w=some g->X.M g/\eD c σ s g/\∀ l' p',bH s l'->c l'=some p'->p'.w≠some g) (Ii:∀ i,i<ys.length->∃ g v,pl.A=some ⟨g,0,none⟩/\σ.w.cell? ⟨g,i*Rp.sz (I E)+u,none⟩=some v/\Ak I E' σ v)
 (hin:∀ i g v b,i<ys.length->pl.A=some ⟨g,0,none⟩->σ.w.cell? ⟨g,i*Rp.sz (I E)+u,none⟩=some v->pR v=some b->X.M b/\eD c σ s b/\(∀ l' p',bH s l'->c l'=some p'->p'.w≠some b)/\pl.w≠some b)
 (hdist:∀ i i' g v v' b,i<ys.length->i'<ys.length->pl.A=some ⟨g,0,none⟩->σ.w.cell? ⟨g,i*Rp.sz (I E)+u,none⟩=some v->σ.w.cell? ⟨g,i'*Rp.sz (I E)+u,none⟩=some v'->pR v=some b->pR v'=some b->i'=i) :
 Rel X c σ (bG s l (some (.aP E E' u ys 0))) n F:=by
 refine h.Zb ho (λp g a b=>?_) ?_
 ·rw [hc] at a;cases a;exact ⟨(hw g b).1,λl' p' _=>(hw g b).2.2 l' p'⟩
 have hne:∀ {l' o},s.O l'=some (some o)->l'≠l:=λe e'=>Mw (by rw [<- e']; exact ⟨_,e⟩)
 have hI:∀ {l' i E1 v},iI c σ (cB s.O l (some (.aP E E' u ys 0))) l' i E1 v->iI c σ s.O l' i E1 v\/(l'=l/\∃ g,i<ys.length/\pl.A=some ⟨g,0,none⟩/\σ.w.cell? ⟨g,i*Rp.sz (I E)+u,none⟩=some v):=λ{l' i E1 v} ⟨E2,u2,xE,q2,g,kk,m,w,h1,h2,h3,h4,h5⟩=>by
  rcases dM h1 with ⟨e,e2⟩ | ⟨_,e2⟩
  ·cases e2;subst e;rw [hc] at h2;cases h2;exact .inr ⟨rfl,g,h3,rfl,h5⟩
  ·exact .inl ⟨E2,u2,xE,q2,g,kk,m,w,e2,h2,h3,h4,h5⟩
 have hB:∀ {l' i b},fw c σ (cB s.O l (some (.aP E E' u ys 0))) l' i b->fw c σ s.O l' i b\/(l'=l/\∃ g v,i<ys.length/\pl.A=some ⟨g,0,none⟩/\σ.w.cell? ⟨g,i*Rp.sz (I E)+u,none⟩=some v/\pR v=some b):=λ⟨E1,v,h1,h2⟩=>by
  rcases hI h1 with k | ⟨k1,g,k2,k3,k4⟩
  ·exact .inl ⟨E1,v,k,h2⟩
  ·exact .inr ⟨k1,g,v,k2,k3,k4,h2⟩
 refine ⟨λl' E1 E2 u1 uo q1 e i hi hq=>?_,λl' i b hb=>?_,λl' i b hb l2 o p' ho' hc' hw'=>?_,λl' i b l2 i2 h1 h2=>?_⟩
 ·rcases dM e with ⟨e1,e2⟩ | ⟨e1,e2⟩
  ·cases e2;subst e1;obtain ⟨g,v,a1,a2,a3⟩:=Ii i hi;obtain ⟨A,k,m,w⟩:=pl;cases a1;exact ⟨v,⟨_,_,_,_,g,k,m,w,iq _ _ _,hc,hi,hq,a2⟩,a3⟩
  ·obtain ⟨v,⟨E3,u3,xG,q3,g,kk,m,w,h1,h2,h3⟩,k2⟩:=h.aP.opn l' _ _ _ _ _ e2 i hi hq;exact ⟨v,⟨E3,u3,xG,q3,g,kk,m,w,by rw [fq e1]; exact h1,h2,h3⟩,k2⟩
 ·rcases hB hb with k | ⟨_,g,v,k1,k2,k3,k4⟩
  ·exact h.aP.mine l' i b k
  ·exact (hin i g v b k1 k2 k3 k4).1
 ·rcases hB hb with k | ⟨_,g,v,k1,k2,k3,k4⟩
  ·rcases dM ho' with ⟨e1,_⟩ | ⟨_,e2⟩
   ·subst e1;rw [hc] at hc';cases hc';exact (hw b hw').2.1 l' i k
   ·exact h.aP.free l' i b k l2 o p' e2 hc' hw'
  ·rcases dM ho' with ⟨e1,_⟩ | ⟨_,e2⟩
   ·subst e1;rw [hc] at hc';cases hc';exact (hin i g v b k1 k2 k3 k4).2.2.2 hw'
   ·exact (hin i g v b k1 k2 k3 k4).2.2.1 l2 p' ⟨o,e2⟩ hc' hw'
 ·rcases hB h1 with k | ⟨k0,g,v,k1,k2,k3,k4⟩
  ·rcases hB h2 with m | ⟨m0,g',v',m1,m2,m3,m4⟩
   ·exact h.aP.inj l' i b l2 i2 k m
   ·exact absurd k ((hin i2 g' v' b m1 m2 m3 m4).2.1 _ _)
  ·rcases hB h2 with m | ⟨m0,g',v',m1,m2,m3,m4⟩
   ·exact absurd m ((hin i g v b k1 k2 k3 k4).2.1 _ _)
   ·rw [k2] at m2;cases m2;exact ⟨m0.trans k0.symm,hdist i i2 g v v' b k1 m1 k2 k3 m3 k4 m4⟩
theorem Rel.retag (h:Rel X c σ s n F){l:Nat}{o o':Ob I}(hl:s.O l=some (some o))(ho:gI X c σ l o')(hN:iE X c σ (cB s.O l (some o'))):Rel X c σ (bG s l (some o')) n F :=
 h.Zb ho (λp g a b=>⟨h.mine l p g ⟨_,hl⟩ a b,λl' p' hne hlv hc' hw'=>hne (h.inj l' l p' p g hlv ⟨_,hl⟩ hc' a hw' b)⟩) hN
theorem Rel.plain (h:Rel X c σ s n F){l:Nat}{E E':TypeId}{u q:Nat}{xs:List (I E)}(hl:s.O l=some (some (.aP E E' u xs q))):Rel X c σ (bG s l (some (.row E xs false))) n F :=
 h.retag hl (by have:=h.bB l _ hl; exact this) (h.aP.sub (λl' E E' u xs q e=>by
  rcases dM e with ⟨_,e'⟩ | ⟨_,h2⟩
  ·cases e'
  ·exact h2) λl' o' p' b ho' hc' hw'=>by
  rcases dM ho' with ⟨rfl,_⟩ | ⟨_,h2⟩
  ·exact .inl ⟨_,hl⟩
  ·exact .inl ⟨o',h2⟩)
theorem Rel.armed (h:Rel X c σ s n F){l:Nat}{E E':TypeId}{u:Nat}{xs:List (I E)}(hl:s.O l=some (some (.aP E E' u xs 0))):Rel X c σ (bG s l (some (.aP E E' u xs 1))) n F:=by
 refine h.retag hl (by have:=h.bB l _ hl; exact this) ?_
 have hI:∀ {l' i E1 v},iI c σ (cB s.O l (some (.aP E E' u xs 1))) l' i E1 v->iI c σ s.O l' i E1 v:=λ{l' i E1 v} ⟨E2,u2,xE,q2,g,kk,m,w,h1,h2,h3,h4,h5⟩=>by
  rcases dM h1 with ⟨e,e2⟩ | ⟨_,e2⟩
  ·cases e2;subst e;exact ⟨_,_,_,0,g,kk,m,w,hl,h2,h3,by omega,h5⟩
  ·exact ⟨E2,u2,xE,q2,g,kk,m,w,e2,h2,h3,h4,h5⟩
 have hB:∀ {l' i b},fw c σ (cB s.O l (some (.aP E E' u xs 1))) l' i b->fw c σ s.O l' i b:=λ⟨E1,v,h1,h2⟩=>⟨E1,v,hI h1,h2⟩;refine ⟨λl' E1 E2 u1 uo q1 e i hi hq=>?_,λl' i b hb=>h.aP.mine l' i b (hB hb),λl' i b hb l2 o p' ho' hc'=>?_,λl' i b l2 i2 h1 h2=>h.aP.inj l' i b l2 i2 (hB h1) (hB h2)⟩
 ·rcases dM e with ⟨e1,e2⟩ | ⟨e1,e2⟩
  ·cases e2;subst e1;obtain ⟨v,⟨E3,u3,xG,q3,g,kk,m,w,h1,h2,h3,h4,h5⟩,k2⟩:=h.aP.opn l' _ _ _ _ 0 hl i hi (by omega)
   rw [hl] at h1;cases h1;exact ⟨v,⟨_,_,_,_,g,kk,m,w,iq _ _ _,h2,hi,hq,h5⟩,k2⟩
  ·obtain ⟨v,⟨E3,u3,xG,q3,g,kk,m,w,h1,h2,h3⟩,k2⟩:=h.aP.opn l' _ _ _ _ _ e2 i hi hq;exact ⟨v,⟨E3,u3,xG,q3,g,kk,m,w,by rw [fq e1]; exact h1,h2,h3⟩,k2⟩
 ·rcases dM ho' with ⟨e1,_⟩ | ⟨_,e2⟩
  ·subst e1; exact h.aP.free l' i b (hB hb) l2 _ p' hl hc'
  ·exact h.aP.free l' i b (hB hb) l2 o p' e2 hc'
theorem Rel.A9:∀ {S:List (Nat×V)} {ps:List (PV I)} {s:St I},Rel X c σ s n F->aB X c σ ps (S.map λx=>F x.1)->Rel X c σ ⟨s.n,Qx.A9 S ps s.F,s.O,s.nx⟩ n F
 | [],_,s,h,_=>h
 | x::S,[],s,h,hv=>by simp only [LJ',aB] at hv; cases hv
 | x::S,p::ps,s,h,hv=>by
   simp only [LJ',aB] at hv;obtain ⟨v,r,e,h1,h2⟩:=hv;cases e;have hp:Rel X c σ ⟨s.n,cB s.F x.1 p,s.O,s.nx⟩ n F:=by
    refine ⟨h.len,λi q hq=>?_,h.bB,h.inj,h.mine,h.jh,h.base,h.aP⟩;rcases dM hq with ⟨rfl,rfl⟩ | ⟨_,hq⟩
    ·exact h1
    ·exact h.frame i q hq
   have:=Rel.A9 hp h2;exact this
def wY:Ob I->Bool
 | .row _ _ _=>true
 | .map _ _ _=>true
 | .var _ _ true=>true
 | _=>false
omit [∀ E,Rp (I E)] in
theorem R3 {k:K}{p:PV I}{x:lg I k}{ls:List Nat}{rows:List (Option Nat)}(h:pV tb O k p=some (x,ls,rows)):∀ l,some l∈rows->∃ o:Ob I,O l=some (some o)/\wY o=true:=by
 unfold pV at h;split at h
 ·obtain ⟨y,hy,h⟩:=bind_some h;cases h;exact λl hl=>by simp at hl
 ·rename_i E fl l0;split at h
  ·rename_i E' xs kF ho;obtain ⟨ys,hys,h⟩:=bind_some h;split at h
   ·cases h; exact λl hl=>by simp at hl; subst hl; exact ⟨_,ho,rfl⟩
   ·cases h; exact λl hl=>by simp at hl; subst hl; exact ⟨_,ho,rfl⟩
   ·cases h
  ·cases h
 ·cases h;exact λl hl=>by simp at hl
 ·obtain ⟨ys,hys,h2⟩:=bind_some h;clear h;cases h2;exact λl hl=>by simp at hl
 ·rename_i T kd l0;split at h
  ·rename_i T' kd' m ho;obtain ⟨ys,hys,h⟩:=bind_some h;cases h;exact λl hl=>by simp at hl; subst hl; exact ⟨_,ho,rfl⟩
  ·cases h
 ·split at h
  ·rename_i T' ls' ho;obtain ⟨_,h⟩:=bA h;obtain ⟨y,hy,h⟩:=bind_some h;cases h;exact λl hl=>by simp at hl; subst hl; exact ⟨_,ho,rfl⟩
  ·cases h
 ·cases h
omit [∀ E,Rp (I E)] in
theorem yn' {k:K}{p:PV I}{x:lg I k}{ls:List Nat}{rows:List (Option Nat)}(hk:∃ E fl,k=.row E fl)(h:pV tb O k p=some (x,ls,rows)):∀ l,some l∈rows->∃ E,∃ xs:List (I E),∃ fl,O l=some (some (.row E xs fl)):=by
 unfold pV at h;split at h
 ·obtain ⟨_,_,e⟩:=hk; cases e
 ·rename_i E fl l0;split at h
  ·rename_i E' xs kF ho;obtain ⟨ys,hys,h⟩:=bind_some h;split at h
   ·cases h; exact λl hl=>by simp at hl; subst hl; exact ⟨_,_,_,ho⟩
   ·cases h; exact λl hl=>by simp at hl; subst hl; exact ⟨_,_,_,ho⟩
   ·cases h
  ·cases h
 ·cases h;exact λl hl=>by simp at hl
 ·obtain ⟨ys,hys,h2⟩:=bind_some h;clear h;cases h2;exact λl hl=>by simp at hl
 ·obtain ⟨_,_,e⟩:=hk; cases e
 ·obtain ⟨_,_,e⟩:=hk; cases e
 ·cases h
omit [∀ E,Rp (I E)] in
theorem dy' {E0:TypeId}{fl0:Bool}{p:PV I}{x:lg I (.row E0 fl0)}{ls:List Nat}{rows:List (Option Nat)}(h:pV tb O (.row E0 fl0) p=some (x,ls,rows)):∀ l,some l∈rows->∃ E,∃ xs:List (I E),∃ fl,O l=some (some (.row E xs fl)) :=
 yn' ⟨_,_,rfl⟩ h
omit [∀ E,Rp (I E)] in
theorem Vr:∀ {ks:List K} {ps:List (PV I)} {x:jR I ks} {ls:List Nat} {rows:List (Option Nat)},si tb O ks ps=some (x,ls,rows)->∀ l,some l∈rows->∃ o:Ob I,O l=some (some o)/\wY o=true
 | [],[],_,_,_,h=>by cases h; exact λl hl=>by simp at hl
 | [_],[_],_,_,_,h=>R3 h
 | k::k'::ks,p::ps,_,_,_,h=>by
   obtain ⟨y,hy,h⟩:=bind_some h;obtain ⟨z,hz,h⟩:=bind_some h;cases h;intro l hl;rcases Lo'.1 hl with hl | hl
   ·exact R3 (ls:=y.2.1) (rows:=y.2.2) hy l hl
   ·exact Vr (ls:=z.2.1) (rows:=z.2.2) hz l hl
 | [],_::_,_,_,_,h=>by simp [si] at h
 | [_],[],_,_,_,h=>by simp [si] at h
 | [_],_::_::_,_,_,_,h=>by simp [si] at h
 | _::_::_,[],_,_,_,h=>by simp [si] at h
omit [∀ E,Rp (I E)] in
theorem PO {k:V}{p:PV I}{x:mY I k}{ls:List Nat}{rows:List (Option Nat)}(h:zR tb O k p=some (x,ls,rows)):∀ l,some l∈rows->∃ o:Ob I,O l=some (some o)/\wY o=true:=by
 unfold zR at h;split at h
 ·exact R3 h
 ·obtain ⟨_,h1⟩:=bA h;obtain ⟨ls',_,h2⟩:=bind_some h1;exact Vr h2
 ·obtain ⟨_,h1⟩:=bA h;obtain ⟨ls',_,h2⟩:=bind_some h1;exact Vr h2
 ·cases h
omit [∀ E,Rp (I E)] in
theorem Sv:∀ {ks:List V} {ps:List (PV I)} {x:fO I ks} {ls:List Nat} {rows:List (Option Nat)},jC tb O ks ps=some (x,ls,rows)->∀ l,some l∈rows->∃ o:Ob I,O l=some (some o)/\wY o=true
 | [],[],_,_,_,h=>by cases h; exact λl hl=>by simp at hl
 | [_],[_],_,_,_,h=>PO h
 | k::k'::ks,p::ps,_,_,_,h=>by
   obtain ⟨y,hy,h⟩:=bind_some h;obtain ⟨z,hz,h⟩:=bind_some h;cases h;intro l hl;rcases Lo'.1 hl with hl | hl
   ·exact PO (ls:=y.2.1) (rows:=y.2.2) hy l hl
   ·exact Sv (ls:=z.2.1) (rows:=z.2.2) hz l hl
 | [],_::_,_,_,_,h=>by simp [jC] at h
 | [_],[],_,_,_,h=>by simp [jC] at h
 | [_],_::_::_,_,_,_,h=>by simp [jC] at h
 | _::_::_,[],_,_,_,h=>by simp [jC] at h
def kK (τ:S)(cb:Cx)(O0:aN I):List (Nat×V)->List Nat->List Value->Prop
 | [],[],us=>us=[]
 | x::r,l::ls,us=>∃ u mE b T vs w cs,us=u::mE/\O0 l=some (some (.var T vs w))/\cb l=some ⟨some ⟨b,0,none⟩,0,0,some b⟩/\τ.w.heap[b]?=some (.cells cs.toArray T (0,0))/\(τ.L b).1=0 /\
    (bif pQ x.2 then u=.agg cs.toArray else cs=[u])/\kK τ cb O0 r ls mE
 | _,_,_=>False
structure Facts (M:Nat->Prop)(τ:S)(cb:Cx)(O0:aN I)(F:Fr)(S W:List (Nat×V))(wl:List Nat)(x:mg I S W)(au:List Pl)(us:List Value):Prop where
 tt:TT τ (ja S W) x (S.map (λy=>F y.1)++us) au
 cont:kK τ cb O0 W wl us
 nodup:(ows au).Nodup
 own:∀ g∈ows au,M g/\∀ l∈wl,∀ p,cb l=some p->p.w≠some g
 Tf:∀ l∈wl,∀ p g,cb l=some p->p.w=some g->M g
theorem Di {pubs:List Nat}:∀ {rows:List (Option Nat)},wh pubs rows=true->(rows.filterMap id).Nodup/\∀ l,some l∈rows->l ∉ pubs
 | [],_=>⟨by simp,λl h=>by simp at h⟩
 | none::r,h=>by obtain ⟨h1,h2⟩:=Di (rows:=r) h;exact ⟨by simpa using h1,λl hl=>h2 l (by simpa using hl)⟩
 | some l::r,h=>by
   simp only [wh,Lc'] at h;obtain ⟨⟨a1,a3⟩,a4⟩:=h;obtain ⟨h1,h2⟩:=Di (rows:=r) a4;refine ⟨?_,λl' hl'=>?_⟩
   ·simp only [Me',id];refine Nl'.2 ⟨λhm=>?_,h1⟩;have hm':some l∈r:=by simpa [NN'] using hm
    have:=(Le'.1 a3) _ hm';simp at this
   ·rcases Lq'.1 hl' with e | hl'
    ·cases e;exact oo.1 (by simpa using a1)
    ·exact h2 l' hl'
theorem XK (h:Rel X c σ s n F):∀ {S:List (Nat×V)} {ps:List (PV I)},Oy s S=some ps->aB X c σ ps (S.map λx=>F x.1)
 | [],_,e=>by cases e; simp [aB]
 | x::r,_,e=>by obtain ⟨p,hp,e⟩:=bind_some e;obtain ⟨ps,hps,e⟩:=bind_some e;cases e;simp only [LJ',aB];exact ⟨_,_,rfl,h.frame _ _ hp,XK h hps⟩
theorem cy' {cb:Cx}{O0:aN I}(h:Rel X c σ s n F):∀ {W:List (Nat×V)} {wl:List Nat} {ps:List (PV I)},Ic O0 s W wl=some ps->(∀ l∈wl,c l=cb l) ->
 ∃ us,aB X c σ ps us/\kK σ cb O0 W wl us/\∀ l∈wl,bH s l/\(∃ T vs w,s.O l=some (some (.var T vs w)))/\O0 l≠none
 | [],[],_,e,_=>by cases e; exact ⟨[],by simp [aB],rfl,λl hl=>by cases hl⟩
 | x::r,l::ls,_,e,hle=>by
   unfold Ic at e;split at e
   ·rename_i T vs T0 vs0 w0 ho ho0;obtain ⟨hb,e2⟩:=bA e;clear e;have eT:=Li' hb;subst eT;obtain ⟨p,hp,e3⟩:=bind_some e2;clear e2;obtain ⟨ps,hps,e4⟩:=bind_some e3;clear e3;cases e4;obtain ⟨us,h1,h2,h3⟩:=cy' h hps (λl' hl'=>hle l' (by simp [hl']))
    obtain ⟨b,cs,k1,k2,k3,k4,_⟩:=h.bB l _ ho;have hcb:cb l=some ⟨some ⟨b,0,none⟩,0,0,some b⟩:=(hle l (by simp)).symm.trans k1
    have hcont:∃ u,RV X c σ p u/\(bif pQ x.2 then u=.agg cs.toArray else cs=[u]):=by
     unfold EN at hp;cases ha:pQ x.2 with
     | true =>rw [ha] at hp;cases hp;exact ⟨.agg cs.toArray,Cm k2,rfl⟩
     | false =>
       rw [ha] at hp;simp only [cond_false] at hp;split at hp
       ·rename_i p0;cases hd0:qD p0 with
        | true=>rw [hd0] at hp; cases hp
        | false =>
          rw [hd0] at hp;cases hp;simp only [RG] at k2;obtain ⟨a,r',rfl,hv,rfl⟩:=k2;rcases hv with hv | ⟨_,v,rfl,hv⟩
          ·exact (by cases p<;>first | exact hv.elim | cases hd0)
          ·exact ⟨v,hv,rfl⟩
       ·cases hp
    obtain ⟨u,hu,hu2⟩:=hcont;refine ⟨u::us,by simp only [aB]; exact ⟨u,us,rfl,hu,h1⟩,⟨u,us,b,_,_,_,cs,rfl,ho0,hcb,k3,k4 rfl,hu2,h2⟩,λl' hl'=>?_⟩
    rcases Lq'.1 hl' with rfl | hl'
    ·exact ⟨⟨_,ho⟩,⟨_,_,_,ho⟩,by rw [ho0]; simp⟩
    ·exact h3 l' hl'
   ·cases e
 | [],_::_,_,e,_=>by simp [Ic] at e
 | _::_,[],_,e,_=>by simp [Ic] at e
theorem At.mem:∀ {rows:List (Option Nat)} {au:List Pl},At c rows au->∀ g∈ows au,∃ l p,some l∈rows/\c l=some p/\p.w=some g
 | [],_,h,g,hg=>by cases h; simp [ows] at hg
 | r::rs,_,⟨p,ps,e,h1,h2⟩,g,hg=>by
   subst e;simp only [ows,Me'] at hg;cases hw:p.w with
   | none =>rw [hw] at hg;obtain ⟨l,q,a,b⟩:=At.mem h2 g hg;exact ⟨l,q,by simp [a],b⟩
   | some g' =>
     rw [hw] at hg;rcases Lq'.1 hg with rfl | hg
     ·cases r with
      | none=>simp only at h1; rw [h1] at hw; cases hw
      | some l=>exact ⟨l,p,by simp,h1,hw⟩
     ·obtain ⟨l,q,a,b⟩:=At.mem h2 g hg;exact ⟨l,q,by simp [a],b⟩
theorem At.nodup (h:Rel X c σ s n F):∀ {rows:List (Option Nat)} {au:List Pl},At c rows au->(rows.filterMap id).Nodup->(∀ l,some l∈rows->bH s l)->(ows au).Nodup
 | [],_,e,_,_=>by cases e; simp [ows]
 | r::rs,_,⟨p,ps,e,h1,h2⟩,hn,hl=>by
   subst e;have hn':(rs.filterMap id).Nodup:=by
    cases r with
    | none=>simpa using hn
    | some l=>simp only [Me',id] at hn; exact (Nl'.1 hn).2
   have ih:=At.nodup h h2 hn' (λl hm=>hl l (by simp [hm]))
   simp only [ows,Me'];cases hw:p.w with
   | none=>exact ih
   | some g =>
     refine Nl'.2 ⟨λhg=>?_,ih⟩;obtain ⟨l',q,a1,a2,a3⟩:=At.mem h2 g hg;cases r with
     | none=>simp only at h1; rw [h1] at hw; cases hw
     | some l =>
       have e:=h.inj l l' p q g (hl l (by simp)) (hl l' (by simp [a1])) h1 a2 hw a3
       subst e;simp only [Me',id] at hn;exact (Nl'.1 hn).1 (by simpa [NN'] using a1)
theorem aT' (ht:bT P tb)(h:Rel X c σ s n F){cb:Cx}{O0:aN I}{S W:List (Nat×V)}{wl:List Nat}(hle:∀ l∈wl,c l=cb l){x:mg I S W}(hg:tZ tb O0 S W wl s=some x) :
 ∃ τ au us,(τ.w=σ.w/\Stp X.M σ τ/\Facts X.M τ cb O0 F S W wl x au us)/\∃ ls,Rel X c τ (aZ s s.O ls) n F/\(∀ g∈ows au,∃ l p,(∃ o:Ob I,(aZ s s.O ls).O l=some (some o)/\wY o=true)/\c l=some p/\p.w=some g)/\(∀ l∈wl,∃ T vs w,s.O l=some (some (.var T vs w)))/\∀ l o,s.O l=some (some o)->(∀ E (xs:List (I E)),o≠.row E xs false)->(aZ s s.O ls).O l=some (some o):=by
 obtain ⟨a,ha,hg⟩:=bind_some hg;obtain ⟨b,hb,hg⟩:=bind_some hg;obtain ⟨y,hy,hg⟩:=bind_some hg;obtain ⟨hr,hg⟩:=bA hg;cases hg;obtain ⟨τ,h1,h2,h3,h4,h5,h6⟩:=h.pubs (O:=s.O) (λ_ _ h=>h) y.2.1;obtain ⟨r1,Mx⟩:=Di hr;have r2:∀ l,some l∈y.2.2->l ∉ y.2.1:=λl hl hm=>Mx l hl (LN' _ hm);obtain ⟨us,u1,u2,u3⟩:=cy' h hb hle;have MB:=aB.step h2 _ _ (aB.app _ _ _ _ (XK h ha) u1);obtain ⟨au,t1,t2⟩:=F4 ht h4 h5 (ls:=y.2.1) (rows:=y.2.2) hy (λl hl=>hl) (λl hl=>r2 l hl) MB;have hlive:=Sv (ls:=y.2.1) (rows:=y.2.2) hy;have hl3:∀ l,some l∈y.2.2->bH (aZ s s.O y.2.1) l:=λl hl=>by obtain ⟨o,ho,_⟩:=hlive l hl;exact ⟨_,(h6 l (r2 l hl)).trans ho⟩
 have hcont:kK τ cb O0 W wl us:=by
  have key:∀ {W:List (Nat×V)} {jV:List Nat} {us:List Value},(∀ l∈jV,l∈wl/\bH s l/\(∃ T vs w,s.O l=some (some (.var T vs w)))/\O0 l≠none)->kK σ cb O0 W jV us->kK τ cb O0 W jV us:=by
   intro W
   induction W with
   | nil =>
     intro jV us _ hc;cases jV with
     | nil=>exact hc
     | cons=>exact hc.elim
   | cons w r ih =>
     intro jV us hw hc;cases jV with
     | nil=>exact hc.elim
     | cons l ls =>
       obtain ⟨u,mE,b,T,vs,w',cs,e1,e2,e3,e4,e5,e6,e7⟩:=hc;have hl0:=(hw l (by simp)).1
       have hvar:∃ T vs w,(aZ s s.O y.2.1).O l=some (some (.var T vs w)):=by
        obtain ⟨_,_,⟨T1,vs1,w1,ho⟩,_⟩:=hw l (by simp)
        refine ⟨T1,vs1,w1,?_⟩;show dD s.O (bQ s.O y.2.1) l=_;rw [pU,ho];intro hm;have hp:∀ {ls:List Nat},l∈iK (bQ s.O ls)->∃ E,∃ xs:List (I E),s.O l=some (some (.row E xs false)):=by
         intro ls
         induction ls with
         | nil=>intro h; simp [bQ,iK] at h
         | cons a r ih =>
           intro h;simp only [bQ] at h;split at h
           ·rename_i E xs e;simp only [iK,LJ',Lq'] at h;rcases h with rfl | h
            ·exact ⟨E,xs,e⟩
            ·exact ih h
           ·exact ih h
        obtain ⟨E,xs,e⟩:=hp hm;rw [ho] at e; cases e
       obtain ⟨T2,vs2,w2,ho2⟩:=hvar;obtain ⟨b2,cs2,k1,k2,k3,k4,k5⟩:=h3.bB l _ ho2;have hcl:=(hle l hl0).trans e3;rw [k1] at hcl;have hb2:b2=b/\w2=true:=by
        injection hcl with q
        injection q with q1 q2 q3 q4
        injection q1 with q5
        injection q5 with q6
        refine ⟨q6,?_⟩;cases w2
        ·cases q4
        ·rfl
       obtain ⟨rfl,rfl⟩:=hb2;exact ⟨u,mE,b2,T,vs,w',cs,e1,e2,e3,by rw [h1]; exact e4,k4 rfl,e6,ih (λl' hl'=>hw l' (by simp [hl'])) e7⟩
  exact key (λl hl=>⟨hl,u3 l hl⟩) u2
 refine ⟨τ,au,us,⟨h1,h2,t1,hcont,At.nodup h3 t2 r1 hl3,λg hg=>?_,λl hl p g hc hw=>?_⟩,y.2.1,h3,λg hg=>?_,λl hl=>(u3 l hl).2.1,λl o e hne=>?_⟩
 ·obtain ⟨l,p,a1,a2,a3⟩:=t2.mem g hg;refine ⟨h3.mine l p g (hl3 l a1) a2 a3,λl' hl' p' hc' hw'=>?_⟩;have e:=h.inj l l' p p' g (by obtain ⟨o,ho,_⟩:=hlive l a1; exact ⟨_,ho⟩) (u3 l' hl').1 a2 ((hle l' hl').trans hc') a3 hw'
  subst e;obtain ⟨o,ho,hrm⟩:=hlive l a1;obtain ⟨_,⟨T,vs,w,ho'⟩,_⟩:=u3 l hl';exact Mx l a1 (LT' _ hl')
 ·exact h.mine l p g (u3 l hl).1 ((hle l hl).trans hc) hw
 ·obtain ⟨l,p,a1,a2,a3⟩:=t2.mem g hg;obtain ⟨o,ho,hrm⟩:=hlive l a1;exact ⟨l,p,⟨o,(h6 l (r2 l a1)).trans ho,hrm⟩,a2,a3⟩
 ·show dD s.O (bQ s.O y.2.1) l=_;rw [pU,e];intro hm;have hp:∀ {ls:List Nat},l∈iK (bQ s.O ls)->∃ E,∃ xs:List (I E),s.O l=some (some (.row E xs false)):=by
   intro ls
   induction ls with
   | nil=>intro h; simp [bQ,iK] at h
   | cons a r ih =>
     intro h;simp only [bQ] at h;split at h
     ·rename_i E xs e;simp only [iK,LJ',Lq'] at h;rcases h with rfl | h
      ·exact ⟨E,xs,e⟩
      ·exact ih h
     ·exact ih h
  obtain ⟨E1,uo,e1⟩:=hp hm;rw [e] at e1;cases e1;exact hne _ _ rfl
theorem X5 (ht:bT P tb)(h:Rel X c σ s n F){cb:Cx}{O0:aN I}{S W:List (Nat×V)}{wl:List Nat}(hle:∀ l∈wl,c l=cb l){x:mg I S W}(hg:tZ tb O0 S W wl s=some x) :
 ∃ τ au us,τ.w=σ.w/\Stp X.M σ τ/\Facts X.M τ cb O0 F S W wl x au us:=by
 obtain ⟨τ,au,us,h1,_⟩:=aT' ht h hle hg;exact ⟨τ,au,us,h1⟩
end
section
variable {I:TypeId->Type} [∀ E,Rp (I E)] {P:Program}{tb:aX I}{X X':bZ}{c c' cb:Cx}{σ σ0 τ:S}{s sb:St I}{n:Nat}{F F0 F':Fr}{O:aN I}
omit [∀ E,Rp (I E)] in
theorem iW {ls:List Nat}{l:Nat}{o:Ob I}(h:dL ls O l=some (some o)):l ∉ ls/\O l=some (some o):=by
 unfold dL at h;cases hm:cO l ls with
 | true =>rw [hm] at h;simp only [cond_true] at h;split at h<;>cases h
 | false=>rw [hm] at h; exact ⟨oo.1 hm,h⟩
omit [∀ E,Rp (I E)] in
theorem wo {ls:List Nat}{l:Nat}:dL ls O l=none↔O l=none:=by
 unfold dL;cases cO l ls with
 | true =>simp only [cond_true];cases O l<;>simp
 | false=>exact Iff.rfl
omit [∀ E,Rp (I E)] in
theorem PN {O0:aN I}{l:Nat}{E E':TypeId}{u q:Nat}{zs:List (I E)}:∀ {W:List (Nat×V)} {wl:List Nat} {ps:List (PV I)} {O:aN I},iH O0 W wl ps O l=some (some (.aP E E' u zs q))->O l=some (some (.aP E E' u zs q))
 | [],_,_,_,h=>by unfold iH at h; exact h
 | _::_,[],_,_,h=>by unfold iH at h; exact h
 | _::_,_::_,[],_,h=>by unfold iH at h; exact h
 | x::r,l0::ls,p::ps,O,h=>by
   have key:∀ y:Option (Option (Ob I)),(match y with
    | some (some (.var T _ w))=>iH O0 r ls ps (cB O l0 (some (.var T (rU x.2 p) w)))
    | _=>iH O0 r ls ps O) l=some (some (.aP E E' u zs q))->O l=some (some (.aP E E' u zs q)):=by
    intro y h;split at h
    ·have h1:=PN h;rcases dM h1 with ⟨_,e⟩ | ⟨_,h2⟩
     ·cases e
     ·exact h2
    ·exact PN h
   exact key (O0 l0) h
omit [∀ E,Rp (I E)] in
theorem KZ {O0:aN I}{l:Nat}:∀ {W:List (Nat×V)} {wl:List Nat} {ps:List (PV I)} {O:aN I},l ∉ wl->iH O0 W wl ps O l=O l
 | [],_,_,_,_=>by unfold iH; rfl
 | _::_,[],_,_,_=>by unfold iH; rfl
 | _::_,_::_,[],_,_=>by unfold iH; rfl
 | x::r,l0::ls,p::ps,O,h=>by
   have hne:l≠l0:=λe=>h (by simp [e])
   have hls:l ∉ ls:=λe=>h (by simp [e])
   have key:∀ y:Option (Option (Ob I)),(match y with
    | some (some (.var T _ w))=>iH O0 r ls ps (cB O l0 (some (.var T (rU x.2 p) w)))
    | _=>iH O0 r ls ps O) l=O l:=by
    intro y;split
    ·rw [KZ hls,fq hne]
    ·exact KZ hls
   exact key (O0 l0)
theorem Rel.iH (ht:bT P tb){c4:Cx}{au:List Pl}(hb:Rel X cb σ0 sb n F0):∀ {W:List (Nat×V)} {wl:List Nat} {us:List Value} {ps:List (PV I)} {s:St I},Rel X c4 τ s n F->kK τ cb sb.O W wl us->aB X c4 τ ps us ->
 (∀ (i:Nat) (x:Nat×V) (p:PV I),W[i]?=some x->ps[i]?=some p->pQ x.2=true->(∃ ls:List (PV I),p=PV.agg ls)\/∃ E y,p=PV.dat E y)->(∀ (i:Nat) (x:Nat×V) (p:PV I),W[i]?=some x->ps[i]?=some p->pQ x.2=false->qD p=false)->(∀ l∈wl,c4 l=cb l)->(∀ l∈wl,∀ p g,cb l=some p->p.w=some g->X.M g)->(∀ l',bH s l'->(bH sb l'/\c4 l'=cb l')\/∃ pl∈au,c4 l'=some pl) ->
 (∀ l∈wl,∀ p,cb l=some p->∀ g,p.w=some g->g ∉ ows au)->(∀ l∈wl,∀ p,cb l=some p->∀ g,p.w=some g->eD c4 τ s g)->Rel X c4 τ ⟨s.n,s.F,Qx.iH sb.O W wl ps s.O,s.nx⟩ n F
 | [],[],_,ps,s,h,_,_,_,_,_,_,_,_,_=>by cases ps<;>exact h
 | [],_::_,_,_,_,_,hc,_,_,_,_,_,_,_,_=>hc.elim
 | _::_,[],_,_,_,_,hc,_,_,_,_,_,_,_,_=>hc.elim
 | x::r,l::ls,us,ps,s,h,hc,hv,hp,hp2,hcc,hM,hl,hn,hni=>by
   obtain ⟨u,mE,b,T,vs,w,cs,e1,e2,e3,e4,e5,e6,e7⟩:=hc;subst e1;cases ps with
   | nil=>simp only [aB] at hv; cases hv
   | cons p ps =>
     simp only [aB] at hv;obtain ⟨v,r',e,hv1,hv2⟩:=hv;cases e;have hw:w=true:=by
      obtain ⟨b',cs',k1,_⟩:=hb.bB l _ e2;rw [k1] at e3;injection e3 with q
      injection q with q1 q2 q3 q4
      cases w
      ·cases q4
      ·rfl
     subst hw;have hcl:c4 l=some ⟨some ⟨b,0,none⟩,0,0,some b⟩:=(hcc l (by simp)).trans e3
     have hnd:pQ x.2=false->qD p=false:=λha=>hp2 0 x p rfl rfl ha;have hcont:RG X c4 τ (rU x.2 p) cs:=by
      unfold rU;cases ha:pQ x.2 with
      | true =>
        rw [ha] at e6;simp only [cond_true] at e6 ⊢;subst e6;rcases hp 0 x p rfl rfl ha with ⟨ls',rfl⟩ | ⟨E',y',rfl⟩
        ·simp only [RV] at hv1;obtain ⟨cs',q1,q2⟩:=hv1;have:cs=cs':=by
          injection q1 with q1
          have:=congrArg Array.toList q1;simpa using this
         rw [this]; exact q2
        ·simp only [RV] at hv1;obtain ⟨cs',q1,q2⟩:=hv1;have:cs=cs':=by
          injection q1 with q1
          have:=congrArg Array.toList q1;simpa using this
         rw [this]; exact RG.one q2
      | false =>rw [ha] at e6;simp only [cond_false] at e6 ⊢;subst e6;exact RG.single (hnd ha) hv1
     have hrev:Rel X c4 τ (bG s l (some (.var T (rU x.2 p) true))) n F:=by
      refine h.Io ⟨b,cs,hcl,hcont,e4,(λ_=>e5),λe=>by cases e⟩ λq g hq hg=>?_
      rw [hcl] at hq;cases hq;cases hg;refine ⟨hM l (by simp) _ b e3 rfl,hni l (by simp) _ e3 b rfl,λl' p' hne hlv hc' hw'=>?_⟩
      rcases hl l' hlv with ⟨k1,k2⟩ | ⟨pl,k1,k2⟩
      ·rw [k2] at hc';exact hne (hb.inj l' l p' _ b k1 ⟨_,e2⟩ hc' e3 hw' rfl)
      ·rw [k2] at hc';cases hc';exact hn l (by simp) _ e3 b rfl (FM.2 ⟨_,k1,hw'⟩)
     have:=Rel.iH ht (au:=au) hb (W:=r) (wl:=ls) (ps:=ps) hrev e7 hv2 (λi y q h1 h2=>hp (i+1) y q (by simpa using h1) (by simpa using h2)) (λi y q h1 h2=>hp2 (i+1) y q (by simpa using h1) (by simpa using h2)) (λl' hl'=>hcc l' (by simp [hl'])) (λl' hl'=>hM l' (by simp [hl'])) (λl' hlv=>by
      obtain ⟨o,ho⟩:=hlv;rcases dM ho with ⟨e,_⟩ | ⟨_,h'⟩
      ·subst e;exact .inl ⟨⟨_,e2⟩,hcl.trans e3.symm⟩
      ·exact hl l' ⟨o,h'⟩) (λl' hl'=>hn l' (by simp [hl'])) (λl' hl' p' hp' g' hg'=>(hni l' (by simp [hl']) p' hp' g' hg').set)
     simp only [Qx.iH,e2];exact this
omit [∀ E,Rp (I E)] in
theorem SH {nb:Nat}{v:V}{x:mY I v}(h:pQ v=true):(∃ ls,nM tb nb v x=.agg ls)\/∃ E y,nM tb nb v x=.dat E y:=by
 cases v with
 | k k =>
   cases k with
   | d k =>
     cases k with
     | dat E=>exact .inr ⟨E,x,rfl⟩
     | _=>cases h
   | row E fl=>cases h
   | map T kd=>cases h
   | pv T=>cases h
 | bW ks=>exact .inl ⟨_,rfl⟩
omit [∀ E,Rp (I E)] in
theorem Rl {nb:Nat}{v:V}{x:mY I v}(h:pQ v=false):qD (nM tb nb v x)=false:=by
 cases v with
 | k k =>
   cases k with
   | d k =>
     cases k with
     | dat E=>cases h
     | _=>rfl
   | row E fl=>rfl
   | map T kd=>rfl
   | pv T=>rfl
 | bW ks=>cases h
omit [∀ E,Rp (I E)] in
theorem SA:∀ {vs:List V} {nb:Nat} {x:fO I vs} {i:Nat} {v:V} {p:PV I},vs[i]?=some v->(eF tb nb vs x)[i]?=some p->∃ nb' y,p=nM tb nb' v y
 | [],_,_,_,_,_,h,_=>by simp at h
 | [_],nb,x,0,_,_,h1,h2=>by simp [eF] at h1 h2;subst h1; subst h2;exact ⟨_,_,rfl⟩
 | [_],_,_,_+1,_,_,h1,_=>by simp at h1
 | v::v'::vs,nb,x,0,_,_,h1,h2=>by simp [eF] at h1 h2;subst h1; subst h2;exact ⟨_,_,rfl⟩
 | v::v'::vs,nb,x,i+1,_,_,h1,h2=>SA (vs:=v'::vs) (x:=x.2) (by simpa using h1) (by simpa [eF] using h2)
theorem dG' (ht:bT P tb)(hb:Rel X cb σ0 sb n F0){G:Nat->Prop}(st:Stp G σ0 τ)(hG:∀ b,G b->X.M b){m:Nat}(hF:∀ i,Nj' m i=false->F i=F0 i){dead wl:List Nat}{S W:List (Nat×V)}{x:mg I S W}{au:List Pl}{us:List Value}
 (hkeep:∀ l p g,bH sb l->l ∉ wl->l ∉ dead->cb l=some p->p.w=some g->¬ G g) (MC:∀ l i g,l ∉ wl->l ∉ dead->fw cb σ0 sb.O l i g->¬ G g) (hf:Facts G τ cb sb.O F S W wl x au us) (hfree:jH sb.O sb.nx (fB (ja S W) x)=true) :
 Cx.le cb (fI cb sb.nx au)/\Rel X (fI cb sb.nx au) τ (oF tb sb m dead S W wl x) n F/\(∀ g,G g->eD (fI cb sb.nx au) τ (oF tb sb m dead S W wl x) g) /\
  (∀ l,bH (oF tb sb m dead S W wl x) l->l∈wl\/(sb.O l=none/\∃ pl∈au,fI cb sb.nx au l=some pl)\/(bH sb l/\l ∉ wl/\l ∉ dead))/\∀ l,sb.O l≠none->fI cb sb.nx au l=cb l:=by
 have h1:Rel X cb σ0 ⟨sb.n,uL m sb.F,dL (wl++dead) sb.O,sb.nx⟩ n F :=
  (hb.less (O':=dL (wl++dead) sb.O) (λl o h=>(iW h).2) (λl h=>wo.1 h)).lj' λi p hp=>by
    unfold uL at hp;cases hm:Nj' m i with
    | true=>rw [hm] at hp; cases hp
    | false=>rw [hm] at hp; exact ⟨hp,hF i hm⟩
 have hn1:∀ l p g,bH (⟨sb.n,uL m sb.F,dL (wl++dead) sb.O,sb.nx⟩:St I) l->cb l=some p->p.w=some g->¬ G g:=λl p g ⟨o,ho⟩ hc hw=>by obtain ⟨k1,k2⟩:=iW ho;rw [Lo',not_or] at k1;exact hkeep l p g ⟨o,k2⟩ k1.1 k1.2 hc hw
 have hi1:∀ g,G g->eD cb σ0 (⟨sb.n,uL m sb.F,dL (wl++dead) sb.O,sb.nx⟩:St I) g:=λg hg l i ⟨E',v,⟨E,u,xs,q,g',kk,m',w,k1,k2⟩,k3⟩=>by obtain ⟨z1,z2⟩:=iW k1;rw [Lo',not_or] at z1;exact MC l i g z1.1 z1.2 ⟨E',v,⟨E,u,xs,q,g',kk,m',w,z2,k2⟩,k3⟩ hg
 have h2:Rel X cb τ ⟨sb.n,uL m sb.F,dL (wl++dead) sb.O,sb.nx⟩ n F:=h1.stepG st hG hn1 hi1;have hfree':jH (dL (wl++dead) sb.O) sb.nx (fB (ja S W) x)=true:=by rw [o8] at hfree ⊢;exact λl hl=>wo.2 (hfree l hl)
 obtain ⟨h3,h4⟩:=Rel.addN h2 hfree' (yh hf.tt) hf.nodup λg hg=>⟨hG g (hf.own g hg).1,(hi1 g (hf.own g hg).1).step h1 st hn1 hi1,λl p ⟨o,ho⟩ hc hw=>by obtain ⟨k1,k2⟩:=iW ho;rw [Lo',not_or] at k1;exact hkeep l p g ⟨o,k2⟩ k1.1 k1.2 hc hw (hf.own g hg).1⟩
 refine ⟨h3,?_⟩;have EE':∀ l E E' u zs q,(oF tb sb m dead S W wl x).O l=some (some (.aP E E' u zs q))->dL (wl++dead) sb.O l=some (some (.aP E E' u zs q)):=λl E E' u zs q e=>vY (yh hf.tt).not _ _ _ _ _ _ (PN e);obtain ⟨hps,hlen⟩:=GI (X:=X) (c:=fI cb sb.nx au) (nb:=sb.nx) ht hf.tt pq;have ln':(S.map λy=>F y.1).length=S.length:=by simp
 have htk:=aB.take S.length _ _ hps;have hdr:=aB.drop S.length _ _ hps;rw [List.take_left' ln'] at htk;rw [List.drop_left' ln'] at hdr;have hold:∀ l,sb.O l≠none->fI cb sb.nx au l=cb l:=λl hl=>by
  have gq:=yh hf.tt;have key:∀ {ps:List Pl} {c:Cx} {nb:Nat},(l<nb\/nb+ps.length<=l)->fI c nb ps l=c l:=by
   intro ps
   induction ps with
   | nil=>intro c nb _; rfl
   | cons p ps ih =>
     intro c nb h;simp only [fI];rw [ih (by simp only [Ld'] at h; omega)]
     have:l≠nb:=by simp only [Ld'] at h; omega
     simp [fP,this]
  apply key;apply Classical.byContradiction;intro hn;rw [not_or] at hn;rw [o8] at hfree;exact hl (hfree l (lH.2 ⟨by omega,by rw [gq.1]; omega⟩))
 have EF':∀ {W:List (Nat×V)} {wl:List Nat} {us:List Value},kK τ cb sb.O W wl us->∀ l∈wl,bH sb l:=by
  intro W
  induction W with
  | nil =>
    intro wl us hc l hl;cases wl with
    | nil=>cases hl
    | cons=>exact hc.elim
  | cons w r ih =>
    intro wl us hc l hl;cases wl with
    | nil=>exact hc.elim
    | cons a KX' =>
      obtain ⟨u,mE,b,T,vs,w',cs,e1,e2,e3,e4,e5,e6,e7⟩:=hc;rcases Lq'.1 hl with rfl | hl
      ·exact ⟨_,e2⟩
      ·exact ih e7 l hl
 have Tg:∀ {W:List (Nat×V)} {wl:List Nat} {us:List Value},kK τ cb sb.O W wl us->∀ l∈wl,sb.O l≠none:=by
  intro W
  induction W with
  | nil =>
    intro wl us hc l hl;cases wl with
    | nil=>cases hl
    | cons=>exact hc.elim
  | cons w r ih =>
    intro wl us hc l hl;cases wl with
    | nil=>exact hc.elim
    | cons a KX' =>
      obtain ⟨u,mE,b,T,vs,w',cs,e1,e2,e3,e4,e5,e6,e7⟩:=hc;rcases Lq'.1 hl with rfl | hl
      ·rw [e2]; simp
      ·exact ih e7 l hl
 have hat:∀ (i:Nat) (y:Nat×V) (p:PV I),W[i]?=some y->((eF tb sb.nx (ja S W) x).drop S.length)[i]?=some p->∃ nb' z,p=nM tb nb' y.2 z:=λi y p hi hp=>by
  refine SA (tb:=tb) (vs:=ja S W) (nb:=sb.nx) (x:=x) (i:=S.length+i) (v:=y.2) ?_ ?_
  ·rw [Ls' (by simp),LH',Mt',Na',hi]; rfl
  ·rw [Mh'] at hp; exact hp
 have h5:=Rel.iH (au:=au) ht hb h4 hf.cont hdr (λi y p hi hp ha=>by
  obtain ⟨nb',z,e⟩:=hat i y p hi hp;rw [e]; exact SH ha) (λi y p hi hp ha=>by
  obtain ⟨nb',z,e⟩:=hat i y p hi hp;rw [e]; exact Rl ha)
  (λl hl=>hold l (Tg hf.cont l hl)) (λl hl p g hp hg=>hG g (hf.Tf l hl p g hp hg)) (λl ⟨o,ho⟩=>by
    by_cases hr:l∈gu sb.nx (fB (ja S W) x).length
    ·right;obtain ⟨a1,a2⟩:=lH.1 hr;have hlt:l-sb.nx<au.length:=by rw [<- (yh hf.tt).1]; omega
     refine ⟨au[l-sb.nx],Lu' _,?_⟩;have:=pq (c:=cb) (nb:=sb.nx) (l-sb.nx) au[l-sb.nx] (Lb' hlt);rw [show sb.nx+(l-sb.nx)=l from by omega] at this
     exact this
    ·left;have ho':fo (dL (wl++dead) sb.O) sb.nx (fB (ja S W) x) l=some (some o):=ho;rw [kY hr] at ho';obtain ⟨_,k2⟩:=iW ho';exact ⟨⟨o,k2⟩,hold l (by rw [k2]; simp)⟩)
  (λl hl p hp g hg hm=>(hf.own g hm).2 l hl p hp hg)
  (λl hl p hp g hg=>(((hb.owned (EF' hf.cont l hl) hp hg).sub (λl' E E' u xs q e=>(iW e).2)).step h1 st hn1 hi1).grow h2 h3 (vY (yh hf.tt).not))
 have h6:=Rel.A9 h5 htk;refine ⟨⟨h6.len,h6.frame,h6.bB,h6.inj,h6.mine,h6.jh,h6.base,h6.aP⟩,λg hg=>((hi1 g hg).step h1 st hn1 hi1).grow h2 h3 EE',λl ⟨o,ho⟩=>?_,hold⟩;by_cases xK:l∈wl
 ·exact .inl xK
 ·have ho':iH sb.O W wl ((eF tb sb.nx (ja S W) x).drop S.length) (fo (dL (wl++dead) sb.O) sb.nx (fB (ja S W) x)) l=some (some o):=ho;rw [KZ xK] at ho';by_cases hr:l∈gu sb.nx (fB (ja S W) x).length
  ·right; left;obtain ⟨a1,a2⟩:=lH.1 hr;have hlt:l-sb.nx<au.length:=by rw [<- (yh hf.tt).1]; omega
   refine ⟨(o8.1 hfree) l hr,au[l-sb.nx],Lu' _,?_⟩;have:=pq (c:=cb) (nb:=sb.nx) (l-sb.nx) au[l-sb.nx] (Lb' hlt);rw [show sb.nx+(l-sb.nx)=l from by omega] at this
   exact this
  ·rw [kY hr] at ho';obtain ⟨k1,k2⟩:=iW ho';rw [Lo',not_or] at k1;exact .inr (.inr ⟨⟨o,k2⟩,k1.1,k1.2⟩)
theorem build (ht:bT P tb)(hb:Rel X cb σ0 sb n F0){G:Nat->Prop}(st:Stp G σ0 τ)(hG:∀ b,G b->X.M b){m:Nat}(hF:∀ i,Nj' m i=false->F i=F0 i){dead wl:List Nat}{S W:List (Nat×V)}{x:mg I S W}{au:List Pl}{us:List Value}
 (hkeep:∀ l p g,bH sb l->l ∉ wl->l ∉ dead->cb l=some p->p.w=some g->¬ G g) (MC:∀ l i g,l ∉ wl->l ∉ dead->fw cb σ0 sb.O l i g->¬ G g) (hf:Facts G τ cb sb.O F S W wl x au us) (hfree:jH sb.O sb.nx (fB (ja S W) x)=true) :
 Cx.le cb (fI cb sb.nx au)/\Rel X (fI cb sb.nx au) τ (oF tb sb m dead S W wl x) n F:=by
 obtain ⟨h1,h2,_⟩:=dG' (m:=m) ht hb st hG hF hkeep MC hf hfree;exact ⟨h1,h2⟩
def dA (own:List Nat)(c:Cx):Cx:=λl=>bif cO l own then c l else (c l).map λp=>⟨p.A,p.k,p.m,none⟩
def eX (X:bZ)(c:Cx)(σ:S)(s:St I)(own:List Nat):bZ:=⟨X.P,σ.N,λb=>∃ l∈own,bH s l/\((∃ p,c l=some p/\p.w=some b)\/∃ i,fw c σ s.O l i b)⟩
mutual
theorem RV.conv (hP:X'.P=X.P)(hM:∀ b,X'.M b->X.M b)(hc:∀ l p,c l=some p->∃ w,c' l=some ⟨p.A,p.k,p.m,w⟩):∀ (p:PV I) (v:Value),RV X c σ p v->RV X' c' σ p v
 | .int _ _,_,h=>by simp only [RV] at h ⊢; exact h
 | .bool _,_,h=>by simp only [RV] at h ⊢; exact h
 | .str _,_,h=>by simp only [RV] at h ⊢; exact h
 | .sl _ _ _,_,h=>by simp only [RV] at h ⊢; exact h
 | .nl _,_,h=>by simp only [RV] at h ⊢; exact h
 | .ptr l _,_,h=>by simp only [RV] at h ⊢;obtain ⟨b,w,h1,h2⟩:=h;obtain ⟨w',h3⟩:=hc _ _ h1;exact ⟨b,w',h3,h2⟩
 | .vw l,_,h=>by simp only [RV] at h ⊢;obtain ⟨p,h1,h2⟩:=h;obtain ⟨w',h3⟩:=hc _ _ h1;exact ⟨_,h3,h2⟩
 | .vp l _ _ _,_,h=>by simp only [RV] at h ⊢;obtain ⟨b,q,k,m,w,h1,h2⟩:=h;obtain ⟨w',h3⟩:=hc _ _ h1;exact ⟨b,q,k,m,w',h3,h2⟩
 | .vs l _ _,_,h=>by simp only [RV] at h ⊢;obtain ⟨b,k,m,w,h1,h2⟩:=h;obtain ⟨w',h3⟩:=hc _ _ h1;exact ⟨b,k,m,w',h3,h2⟩
 | .av l _ _,_,h=>by simp only [RV] at h ⊢;obtain ⟨b,k,m,w,h1,h2⟩:=h;obtain ⟨w',h3⟩:=hc _ _ h1;exact ⟨b,k,m,w',h3,h2⟩
 | .mp l,_,h=>by simp only [RV] at h ⊢;obtain ⟨b,w,h1,h2⟩:=h;obtain ⟨w',h3⟩:=hc _ _ h1;exact ⟨b,w',h3,h2⟩
 | .ep _ _ _,_,h=>by simp only [RV] at h ⊢; exact h
 | .dat _ _,_,h=>by simp only [RV] at h ⊢; exact h
 | .qM _ ls,_,h=>by simp only [RV] at h ⊢;obtain ⟨cs,e,hl⟩:=h;exact ⟨cs,e,aB.conv hP hM hc ls cs hl⟩
 | .xD _ ls,_,h=>by simp only [RV] at h ⊢;obtain ⟨cs,e,hl⟩:=h;exact ⟨cs,e,aB.conv hP hM hc ls cs hl⟩
 | .fn _ _ _,_,h=>by simp only [RV] at h ⊢;obtain ⟨f,KX',cs,e,hf⟩:=h;exact ⟨f,KX',cs,e,by rw [hP]; exact hf.1,hf.2.1,λτ hτ=>by rw [hP]; exact hf.2.2 τ (hτ.mono λb _ hb=>hM b hb)⟩
 | .agg ls,_,h=>by simp only [RV] at h ⊢;obtain ⟨cs,e,hl⟩:=h;exact ⟨cs,e,RG.conv hP hM hc ls cs hl⟩
 | .nV ls,_,h=>by simp only [RV] at h ⊢;obtain ⟨cs,e,hl⟩:=h;exact ⟨cs,e,aB.conv hP hM hc ls cs hl⟩
 | .undef,_,h=>by simp only [RV] at h ⊢; exact h
 | .any,_,_=>by simp only [RV]
theorem aB.conv (hP:X'.P=X.P)(hM:∀ b,X'.M b->X.M b)(hc:∀ l p,c l=some p->∃ w,c' l=some ⟨p.A,p.k,p.m,w⟩):∀ (ps:List (PV I)) (cs:List Value),aB X c σ ps cs->aB X' c' σ ps cs
 | [],_,h=>by simp only [aB] at h ⊢; exact h
 | p::ps,_,h=>by simp only [aB] at h ⊢;obtain ⟨v,r,e,h1,h2⟩:=h;exact ⟨v,r,e,RV.conv hP hM hc p v h1,aB.conv hP hM hc ps r h2⟩
theorem RG.conv (hP:X'.P=X.P)(hM:∀ b,X'.M b->X.M b)(hc:∀ l p,c l=some p->∃ w,c' l=some ⟨p.A,p.k,p.m,w⟩):∀ (ps:List (PV I)) (cs:List Value),RG X c σ ps cs->RG X' c' σ ps cs
 | [],_,h=>by simp only [RG] at h ⊢; exact h
 | p::ps,_,h=>by
   simp only [RG] at h ⊢;obtain ⟨a,r,e,h1,h2⟩:=h;refine ⟨a,r,e,?_,RG.conv hP hM hc ps r h2⟩
   rcases h1 with h1 | ⟨h0,v,e1,h1⟩
   ·exact .inl h1
   ·exact .inr ⟨h0,v,e1,RV.conv hP hM hc p v h1⟩
end
theorem uO (h:Rel X c σ s n F)(own:List Nat):∀ b,(eX X c σ s own).M b->X.M b:=λb hb=>by
 rcases hb with hb | ⟨l,_,hl,⟨p,hc,hw⟩ | ⟨i,hb⟩⟩
 ·exact .inl (Lr' h.base.1 hb)
 ·exact h.mine l p b hl hc hw
 ·exact h.aP.mine l i b hb
theorem yX (h:Rel X c σ s n F){own:List Nat}{l:Nat}{p:Pl}{g:Nat}(hl:bH s l)(hn:l ∉ own)(hc:c l=some p)(hw:p.w=some g):¬ (eX X c σ s own).M g:=λhb=>by
 obtain ⟨o,ho⟩:=hl;have hlt:=(h.bB l o ho).lt hc hw;rcases hb with hb | ⟨l',hl',hlv,⟨p',hc',hw'⟩ | ⟨i,hb⟩⟩
 ·have:σ.N<=g:=hb;omega
 ·exact hn (by rw [h.inj l l' p p' g ⟨o,ho⟩ hlv hc hc' hw hw']; exact hl')
 ·exact h.aP.free l' i g hb l o p ho hc hw
theorem RF (h:Rel X c σ s n F){own:List Nat}{l i g:Nat}(hn:l ∉ own)(hb:fw c σ s.O l i g):¬ (eX X c σ s own).M g:=λhb'=>by
 have hlt:=h.aP.lt hb;rcases hb' with hb' | ⟨l',hl',hlv,⟨p',hc',hw'⟩ | ⟨i',hb'⟩⟩
 ·have:σ.N<=g:=hb';omega
 ·obtain ⟨o,ho⟩:=hlv;exact h.aP.free l i g hb l' o p' ho hc' hw'
 ·exact hn (by rw [(h.aP.inj l' i' g l i hb' hb).1]; exact hl')
omit [∀ E,Rp (I E)] in
theorem bT' {own:List Nat}{l:Nat}{E E':TypeId}{u q:Nat}{xs:List (I E)}(e:iO own O l=some (some (.aP E E' u xs q))):l∈own/\O l=some (some (.aP E E' u xs q)):=by
 unfold iO at e;cases hm:cO l own with
 | true=>rw [hm] at e; exact ⟨kE.1 hm,e⟩
 | false =>rw [hm] at e;simp only [cond_false] at e;split at e<;>first | cases e | (rename_i e1 e2 e3 e4 e5; exact absurd e (e4 E E' u xs q))
theorem X9 {own:List Nat}{l i g:Nat}{c:Cx}(h:fw c σ (mW own s).O l i g):l∈own:=by obtain ⟨E',v,⟨E,u,xs,q,g',kk,m,w,k1,_⟩,_⟩:=h;exact (bT' k1).1
theorem enter (h:Rel X c σ s n F)(own:List Nat):Rel (eX X c σ s own) (dA own c) σ (mW own s) n F:=by
 have hcv:∀ l p,c l=some p->∃ w,dA own c l=some ⟨p.A,p.k,p.m,w⟩:=λl p hp=>by
  unfold dA;cases cO l own with
  | true=>exact ⟨p.w,by simp only [cond_true,hp]⟩
  | false=>exact ⟨none,by simp only [cond_false,hp]; rfl⟩
 have hM:=uO h own;have hcw:∀ {l p g},dA own c l=some p->p.w=some g->l∈own/\c l=some p:=λ{l p g} hc hw=>by
  unfold dA at hc;cases hm:cO l own with
  | true=>rw [hm] at hc; exact ⟨kE.1 hm,hc⟩
  | false =>rw [hm] at hc;simp only [cond_false,Mx'] at hc;obtain ⟨q,_,e⟩:=hc;rw [<- e] at hw;cases hw
 have hlv:∀ {l},l∈own->bH (mW own s) l->bH s l:=λ{l} hm ⟨o,ho⟩=>by refine ⟨o,?_⟩;have ho':iO own s.O l=some (some o):=ho;unfold iO at ho';rw [kE.2 hm] at ho';exact ho'
 refine ⟨h.len,λi p hp=>RV.conv (X:=X) (X':=eX X c σ s own) (c:=c) rfl hM hcv p _ (h.frame i p hp),λl o ho=>?_,λl l' p p' b a1 a2 a3 a4 a5 a6=>?_,λl p b a1 a2 a3=>?_,λl hl=>?_,⟨Lg' _,λE=>Lr' (h.base.2 E) h.base.1⟩,?_⟩
 ·have ho':iO own s.O l=some (some o):=ho;unfold iO at ho';cases hm:cO l own with
  | true =>
    rw [hm] at ho';simp only [cond_true] at ho';have hcl:dA own c l=c l:=by unfold dA; rw [hm]; rfl
    have:=h.bB l o ho';cases o with
    | var T ls w =>obtain ⟨b,cs,k1,k2,k3,k4,k5⟩:=this;exact ⟨b,cs,hcl.trans k1,RG.conv (X:=X) (X':=eX X c σ s own) (c:=c) rfl hM hcv _ _ k2,k3,k4,λe hb=>k5 e (hM b hb)⟩
    | row E xs fl =>obtain ⟨A,k,ow,k1,k2⟩:=this;exact ⟨A,k,ow,hcl.trans k1,k2⟩
    | aP E E' u xs q =>obtain ⟨A,k,ow,k1,k2⟩:=this;exact ⟨A,k,ow,hcl.trans k1,k2⟩
    | map T kd m =>obtain ⟨b,k1,k2⟩:=this;exact ⟨b,hcl.trans k1,k2⟩
    | gU T kd m =>obtain ⟨b,k1,k2,k3⟩:=this;exact ⟨b,hcl.trans k1,k2,λhb=>k3 (hM b hb)⟩
    | ro E xs =>obtain ⟨A,k,k1,k2⟩:=this;exact ⟨A,k,hcl.trans k1,k2⟩
    | bo E xs =>obtain ⟨A,k,k1,k2⟩:=this;exact ⟨A,k,hcl.trans k1,k2.sub λb _=>hM b⟩
  | false =>
    have hnm:=oo.1 hm;rw [hm] at ho';simp only [cond_false] at ho';have hcl:∀ {p},c l=some p->dA own c l=some ⟨p.A,p.k,p.m,none⟩:=λhp=>by unfold dA; rw [hm,hp]; rfl
    split at ho'
    ·rename_i T ls w e;cases ho';obtain ⟨b,cs,k1,k2,k3,k4,k5⟩:=h.bB l _ e;refine ⟨b,cs,hcl k1,RG.conv (X:=X) (X':=eX X c σ s own) (c:=c) rfl hM hcv _ _ k2,k3,(λe=>by cases e),λ_=>?_⟩
     cases w with
     | true=>exact yX h ⟨_,e⟩ hnm k1 rfl
     | false=>exact λhb=>k5 rfl (hM b hb)
    ·rename_i E xs e;cases ho';obtain ⟨A,k,ow,k1,k2⟩:=h.bB l _ e;exact ⟨A,k,hcl k1,k2.sl⟩
    ·cases ho'
    ·cases ho'
    ·rename_i T kd m e;cases ho';obtain ⟨b,k1,k2⟩:=h.bB l _ e;exact ⟨b,hcl k1,k2,yX h ⟨_,e⟩ hnm k1 rfl⟩
    ·rename_i e1 e2 e3 e4 e5;cases o with
     | var T ls w=>exact absurd ho' (e1 T ls w)
     | row E xs fl =>
       cases fl with
       | true=>exact absurd ho' (e2 E xs)
       | false=>exact absurd ho' (e3 E xs)
     | aP E E' u xs q=>exact absurd ho' (e4 E E' u xs q)
     | map T kd m=>exact absurd ho' (e5 T kd m)
     | gU T kd m =>obtain ⟨b,k1,k2,k3⟩:=h.bB l _ ho';exact ⟨b,hcl k1,k2,λhb=>k3 (hM b hb)⟩
     | ro E xs =>obtain ⟨A,k,k1,k2⟩:=h.bB l _ ho';exact ⟨A,k,hcl k1,k2⟩
     | bo E xs =>obtain ⟨A,k,k1,k2⟩:=h.bB l _ ho';exact ⟨A,k,hcl k1,k2.sub λb _=>hM b⟩
 ·obtain ⟨m1,n1⟩:=hcw a3 a5;obtain ⟨m2,n2⟩:=hcw a4 a6;exact h.inj l l' p p' b (hlv m1 a1) (hlv m2 a2) n1 n2 a5 a6
 ·obtain ⟨m1,n1⟩:=hcw a2 a3;exact .inr ⟨l,m1,hlv m1 a1,.inl ⟨p,n1,a3⟩⟩
 ·have hl':iO own s.O l=none:=hl;have:s.O l=none:=by
   unfold iO at hl';cases hm:cO l own with
   | true=>rw [hm] at hl'; exact hl'
   | false =>rw [hm] at hl';simp only [cond_false] at hl';split at hl'<;>first | cases hl' | exact hl'
  unfold dA;rw [h.jh l this];cases cO l own<;>rfl
 ·have hnt:∀ {l E E' u xs q},iO own s.O l=some (some (.aP E E' u xs q))->l∈own/\s.O l=some (some (.aP E E' u xs q)):=λe=>bT' e;have hcl:∀ {l},l∈own->dA own c l=c l:=λhm=>by unfold dA; rw [kE.2 hm]; rfl
  have hI:∀ {l i E' v},iI (dA own c) σ (iO own s.O) l i E' v->l∈own/\iI c σ s.O l i E' v:=λ⟨E,u,xs,q,g,kk,m,w,h1,h2,h3⟩=>⟨(hnt h1).1,E,u,xs,q,g,kk,m,w,(hnt h1).2,by rw [<- hcl (hnt h1).1]; exact h2,h3⟩
  have hB:∀ {l i b},fw (dA own c) σ (iO own s.O) l i b->l∈own/\fw c σ s.O l i b:=λ⟨E',v,h1,h2⟩=>⟨(hI h1).1,E',v,(hI h1).2,h2⟩;refine ⟨λl E E' u xs q hl i hi hq=>?_,λl i b hb=>?_,λl i b hb l' o p' ho' hc' hw'=>?_,λl i b l' i' h1 h2=>h.aP.inj l i b l' i' (hB h1).2 (hB h2).2⟩
  ·obtain ⟨v,⟨E1,u1,uo,q1,g,kk,m,w,h1,h2,h3⟩,k2⟩:=h.aP.opn l E E' u xs q (hnt hl).2 i hi hq;rw [(hnt hl).2] at h1;cases h1;exact ⟨v,⟨E,u,xs,q,g,kk,m,w,hl,by rw [hcl (hnt hl).1]; exact h2,h3⟩,k2⟩
  ·have hb':=hB hb;obtain ⟨E',v,⟨E,u,xs,q,g,kk,m,w,h1,_⟩,_⟩:=hb'.2;exact .inr ⟨l,hb'.1,⟨_,h1⟩,.inr ⟨i,hb'.2⟩⟩
  ·obtain ⟨m1,n1⟩:=hcw hc' hw';obtain ⟨o',ho2⟩:=hlv m1 ⟨o,ho'⟩;exact h.aP.free l i b (hB hb).2 l' o' p' ho2 n1 hw'
end
inductive Ex where
 | normal
 | exit (i:Nat)
 | ret
def jM:Ex->Exit
 | .normal=>.normal
 | .exit i=>.exit i
 | .ret=>.ret
def vZ:Ex->Ex->Bool
 | .normal,.normal=>true
 | .exit i,.exit j=>Lm' i j
 | .ret,.ret=>true
 | _,_=>false
theorem EM {a b:Ex}(h:vZ a b=true):a=b:=by cases a<;>cases b<;>first | rfl | cases h | (have:=Li' h; subst this; rfl)
structure JH where
 m:Nat
 pub:List Nat
 W:List (Nat×V)
 outs:List (Ex×List (Nat×V))
structure LH (I:TypeId->Type) where
 m:Nat
 pub:List Nat
 W:List (Nat×V)
 head:List (Nat×V)
 outs:List (Ex×List (Nat×V))
 bound:St I->Option Nat
inductive KO where
 | row (E:TypeId)
 | map (T:TypeId) (kd:Kd)
abbrev Dn (I:TypeId->Type):KO->Type
 | .row E=>List (I E)
 | .map _ kd=>List (ByteArray×Ty I kd)
structure KH (I:TypeId->Type) where
 m:Nat
 t:Nat
 E:KO
 S:List (Nat×V)
 outs:List (Ex×List (Nat×V))
 bound:St I->Option Nat
 i:Nat:=0
structure NH (I:TypeId->Type) where
 L:LH I
 t:Nat
 E:TypeId
structure Hints (I:TypeId->Type) where
 spl:Nat->List Nat
 pre:Nat->List Nat
 join:Nat->Option JH
 loop:Nat->Option (LH I)
 keep:Nat->Option (KH I)
 aP:Nat->Option (NH I):=λ_=>none
 unr:Nat->Nat:=λ_=>0
inductive HE (I:TypeId->Type) where
 | s (i:Nat) (l:List Nat)
 | p (i:Nat) (l:List Nat)
 | j (i:Nat) (h:JH)
 | l (i:Nat) (h:LH I)
 | k (i:Nat) (h:KH I)
 | n (i:Nat) (h:NH I)
 | u (i m:Nat)
def Aw {α β:Type}(f:α->Option β):List α->Option β
 | []=>none
 | x::r=>match f x with
   | some y=>some y
   | none=>Aw f r
def aO {I:TypeId->Type}(l:List (HE I)):Hints I where
 spl i:=(Aw (λ| .s j x=>bif Lm' j i then some x else none | _=>none) l).getD []
 pre i:=(Aw (λ| .p j x=>bif Lm' j i then some x else none | _=>none) l).getD []
 join i:=Aw (λ| .j j x=>bif Lm' j i then some x else none | _=>none) l
 loop i:=Aw (λ| .l j x=>bif Lm' j i then some x else none | _=>none) l
 keep i:=Aw (λ| .k j x=>bif Lm' j i then some x else none | _=>none) l
 aP i:=Aw (λ| .n j x=>bif Lm' j i then some x else none | _=>none) l
 unr i:=(Aw (λ| .u j x=>bif Lm' j i then some x else none | _=>none) l).getD 0
def gn' (x:Nat)(l:List Nat):List Nat:=bif cO x l then l else x::l
def Xh (T:List (List Nat)):List Edge->List Nat
 | []=>[]
 | e::r=>bif Region.binds .any e then gn' e.on ((rQ T e.on).foldr gn' (Xh T r)) else Xh T r
def WH (ops:List Oper):List (List Nat):=ops.foldl (λT o=>T++[Xh T o.after.toList]) []
def tY (S:List (Nat×V)):List (Nat×V):=S.filter λx=>LF' x.1 1000000
def uh (W S:List (Nat×V)):List (Nat×V):=W.map λx=>match S.find? (λy=>Lm' y.1 (x.1+1000000)) with
 | some y=>(x.1,y.2)
 | none=>x
abbrev AR (I:TypeId->Type)(W:List (Nat×V)):List (Ex×List (Nat×V))->Type
 | []=>Empty
 | [o]=>mg I (tY o.2) (uh W o.2)
 | o::o'::r=>Sum (mg I (tY o.2) (uh W o.2)) (AR I W (o'::r))
def rR (outs:List (Ex×List (Nat×V))):List Nat:=outs.flatMap λo=>o.2.map (·.1)
section
variable {I:TypeId->Type} [∀ E,Rp (I E)]
def inj (tb:aX I)(O0:aN I)(W:List (Nat×V))(wl:List Nat):(outs:List (Ex×List (Nat×V)))->Ex->St I->Option (AR I W outs)
 | [],_,_=>none
 | [o],e,s=>bif vZ o.1 e then tZ tb O0 (tY o.2) (uh W o.2) wl s else none
 | o::o'::r,e,s=>bif vZ o.1 e then (tZ tb O0 (tY o.2) (uh W o.2) wl s).bind λx=>some (.inl x) else (inj tb O0 W wl (o'::r) e s).bind λy=>some (.inr y)
def rD (sb:St I)(S W:List (Nat×V)):Bool:=J2 sb.O sb.nx (Ew (ja S W))
def out (tb:aX I)(sb:St I)(m:Nat)(dead:List Nat)(W:List (Nat×V))(wl:List Nat){ρ:Type}(k:Ex->St I->Option ρ):(outs:List (Ex×List (Nat×V)))->AR I W outs->Option ρ
 | [],_=>none
 | [o],x=>bif rD sb (tY o.2) (uh W o.2) then k o.1 (oF tb sb m dead (tY o.2) (uh W o.2) wl x) else none
 | o::o'::r,b=>aL (λx=>bif rD sb (tY o.2) (uh W o.2) then k o.1 (oF tb sb m dead (tY o.2) (uh W o.2) wl x) else none) (λy=>out tb sb m dead W wl k (o'::r) y) b
abbrev nL (I:TypeId->Type):=(ρ:Type)->St I->(Ex->St I->Option ρ)->Option ρ
def pJ (s:St I)(ts:List Nat):List Nat:=mK s.F ts++nest s.O (mK s.F ts)
def BV (tb:aX I)(H:Hints I)(p:Nat)(core:nL I):nL I:=λρ s k=>match H.join p with
 | none=>core ρ s k
 | some j =>
   let s0:=aZ s s.O (pJ s j.pub)
   (Gc s0 j.W).bind λwl =>
   let dead:=EJ s0 (rR j.outs) wl
   (core (AR I j.W j.outs) (mW (wl++dead) s0) λe s'=>inj tb s0.O j.W wl j.outs e s').bind λb=>out tb s0 j.m dead j.W wl k j.outs b
def rS' (tb:aX I)(L:LH I)(O0:aN I)(wl:List Nat):Ex->St I->Option (Fl (mg I L.head L.W) (AR I L.W L.outs))
 | .normal,s'=>(tZ tb O0 L.head L.W wl s').bind λx'=>some (.next x')
 | e,s'=>(inj tb O0 L.W wl L.outs e s').bind λb=>some (.done b)
def XG (tb:aX I)(L:LH I)(body:nL I):nL I:=λ_ s k =>
 let s0:=aZ s s.O (pJ s L.pub)
 (Gc s0 L.W).bind λwl =>
 let dead:=EJ s0 (L.head.map (·.1)++rR L.outs) wl
 let sr:=mW (wl++dead) s0
 bif rD sr L.head L.W then
 (tZ tb s0.O L.head L.W wl sr).bind λx0 =>
 (L.bound s).bind λbd =>
 (iter (λx=>body (Fl (mg I L.head L.W) (AR I L.W L.outs)) (oF tb sr L.m dead L.head L.W wl x) (rS' tb L s0.O wl)) bd x0).bind λb=>out tb s0 L.m dead L.W wl k L.outs b else none
abbrev wK (I:TypeId->Type)(S:List (Nat×V))(E:KO):Type:=fO I (S.map (·.2))×Dn I E
abbrev Bz (I:TypeId->Type)(E:KO):List (Ex×List (Nat×V))->Type
 | []=>Empty
 | [o]=>wK I o.2 E
 | o::o'::r=>Sum (wK I o.2 E) (Bz I E (o'::r))
def xA:(o:KO)->Dn I o->Ob I
 | .row E,x=>.row E x false
 | .map T kd,x=>.map T kd x
def Uf (O:aN I)(l:Nat):(o:KO)->Option (Dn I o)
 | .row E=>match O l with
   | some (some (.row E' xs false))=>jS E E' xs
   | _=>none
 | .map T kd=>match O l with
   | some (some (.map T' _ m))=>pW (T:=T) (T':=T') (kd:=kd) m
   | _=>none
def CJ (tb:aX I)(E:KO)(l:Nat)(S:List (Nat×V))(s:St I):Option (wK I S E) :=
 (Oy s S).bind λps=>(jC tb (λ_=>none) (S.map (·.2)) ps).bind λx=>bif lS x.2.1&&lS x.2.2 then (Uf s.O l E).bind λys=>some (x.1,ys) else none
def Dc (tb:aX I)(s0:St I)(m l:Nat)(E:KO)(S:List (Nat×V))(x:wK I S E):St I:=⟨s0.n,A9 S (eF tb s0.nx (S.map (·.2)) x.1) (uL m s0.F),cB s0.O l (some (xA E x.2)),s0.nx⟩
def Fs (tb:aX I)(E:KO)(l:Nat):(outs:List (Ex×List (Nat×V)))->Ex->St I->Option (Bz I E outs)
 | [],_,_=>none
 | [o],e,s=>bif vZ o.1 e then CJ tb E l o.2 s else none
 | o::o'::r,e,s=>bif vZ o.1 e then (CJ tb E l o.2 s).bind λx=>some (.inl x) else (Fs tb E l (o'::r) e s).bind λy=>some (.inr y)
def U4 (tb:aX I)(sb:St I)(m l:Nat)(E:KO){ρ:Type}(k:Ex->St I->Option ρ):(outs:List (Ex×List (Nat×V)))->Bz I E outs->Option ρ
 | [],_=>none
 | [o],x=>k o.1 (Dc tb sb m l E o.2 x)
 | o::o'::r,b=>aL (λx=>k o.1 (Dc tb sb m l E o.2 x)) (λy=>U4 tb sb m l E k (o'::r) y) b
def jQ' (s:St I)(t i:Nat)(E:KO):Option (Nat×Dn I E):=match s.F t with
 | some p=>((Jb p)[i]?).bind λl=>(Uf s.O l E).bind λxs=>some (l,xs)
 | _=>none
def Dy' (tb:aX I)(K:KH I)(l:Nat):Ex->St I->Option (Fl (wK I K.S K.E) (Bz I K.E K.outs))
 | .normal,s'=>(CJ tb K.E l K.S s').bind λx'=>some (.next x')
 | e,s'=>(Fs tb K.E l K.outs e s').bind λb=>some (.done b)
def UI (tb:aX I)(K:KH I)(body:nL I):nL I:=λ_ s k =>
 (jQ' s K.t K.i K.E).bind λr =>
 (CJ tb K.E r.1 K.S (mW [r.1] s)).bind λx0 =>
 (K.bound s).bind λbd =>
 (iter (λx=>body (Fl (wK I K.S K.E) (Bz I K.E K.outs)) (Dc tb (mW [r.1] s) K.m r.1 K.E K.S x) (Dy' tb K r.1)) bd x0).bind λb=>U4 tb s K.m r.1 K.E k K.outs b
abbrev wz (I:TypeId->Type)(S W:List (Nat×V))(E:TypeId):Type:=mg I S W×List (I E)
abbrev Cj (I:TypeId->Type)(W:List (Nat×V))(E:TypeId):List (Ex×List (Nat×V))->Type
 | []=>Empty
 | [o]=>wz I o.2 W E
 | o::o'::r=>Sum (wz I o.2 W E) (Cj I W E (o'::r))
def Od (O:aN I)(l:Nat)(E:TypeId):Option (TypeId×Nat×List (I E)):=match O l with
 | some (some (.aP E1 E' u xs 0))=>(jS E E1 xs).bind λys=>some (E',u,ys)
 | _=>none
def jk' (s:St I)(t:Nat)(E:TypeId):Option (Nat×TypeId×Nat×List (I E)):=match s.F t with
 | some (.vw l)=>(Od s.O l E).bind λq=>some (l,q)
 | _=>none
def Bt (tb:aX I)(O0:aN I)(S W:List (Nat×V))(wl:List Nat)(l:Nat)(E E':TypeId)(u:Nat)(s:St I):Option (wz I S W E) :=
 (tZ tb O0 S W wl s).bind λx=>(Od s.O l E).bind λq=>bif Lm' q.1 E'&&Lm' q.2.1 u then some (x,q.2.2) else none
def zH (tb:aX I)(sb:St I)(m:Nat)(dead:List Nat)(S W:List (Nat×V))(wl:List Nat)(l:Nat)(E E':TypeId)(u:Nat)(x:wz I S W E):St I:=bG (oF tb sb m (l::dead) S W wl x.1) l (some (.aP E E' u x.2 0))
def Ff (tb:aX I)(O0:aN I)(W:List (Nat×V))(wl:List Nat)(l:Nat)(E E':TypeId)(u:Nat):(outs:List (Ex×List (Nat×V)))->Ex->St I->Option (Cj I W E outs)
 | [],_,_=>none
 | [o],e,s=>bif vZ o.1 e then Bt tb O0 o.2 W wl l E E' u s else none
 | o::o'::r,e,s=>bif vZ o.1 e then (Bt tb O0 o.2 W wl l E E' u s).bind λx=>some (.inl x) else (Ff tb O0 W wl l E E' u (o'::r) e s).bind λy=>some (.inr y)
def U0 (tb:aX I)(sb:St I)(m:Nat)(dead:List Nat)(W:List (Nat×V))(wl:List Nat)(l:Nat)(E E':TypeId)(u:Nat){ρ:Type}(k:Ex->St I->Option ρ):(outs:List (Ex×List (Nat×V)))->Cj I W E outs->Option ρ
 | [],_=>none
 | [o],x=>bif rD sb o.2 W then k o.1 (zH tb sb m dead o.2 W wl l E E' u x) else none
 | o::o'::r,b=>aL (λx=>bif rD sb o.2 W then k o.1 (zH tb sb m dead o.2 W wl l E E' u x) else none) (λy=>U0 tb sb m dead W wl l E E' u k (o'::r) y) b
def Ap' (tb:aX I)(N:NH I)(O0:aN I)(wl:List Nat)(l:Nat)(E':TypeId)(u:Nat):Ex->St I->Option (Fl (wz I N.L.head N.L.W N.E) (Cj I N.L.W N.E N.L.outs))
 | .normal,s'=>(Bt tb O0 N.L.head N.L.W wl l N.E E' u s').bind λx'=>some (.next x')
 | e,s'=>(Ff tb O0 N.L.W wl l N.E E' u N.L.outs e s').bind λb=>some (.done b)
def Ye (tb:aX I)(N:NH I)(body:nL I):nL I:=λ_ s k =>
 let s0:=aZ s s.O (pJ s N.L.pub)
 (Gc s0 N.L.W).bind λwl =>
 (jk' s0 N.t N.E).bind λq =>
 let dead:=EJ s0 (N.L.head.map (·.1)++rR N.L.outs) wl
 let sr:=mW (wl++q.1::dead) s0
 bif rD sr N.L.head N.L.W&&!(cO q.1 wl) then
 (Bt tb s0.O N.L.head N.L.W wl q.1 N.E q.2.1 q.2.2.1 sr).bind λx0 =>
 (N.L.bound s).bind λbd =>
 (iter (λx=>body (Fl (wz I N.L.head N.L.W N.E) (Cj I N.L.W N.E N.L.outs)) (zH tb sr N.L.m dead N.L.head N.L.W wl q.1 N.E q.2.1 q.2.2.1 x) (Ap' tb N s0.O wl q.1 q.2.1 q.2.2.1)) bd x0).bind λb =>
 U0 tb s0 N.L.m dead N.L.W wl q.1 N.E q.2.1 q.2.2.1 k N.L.outs b else none
def Py (body:nL I):Nat->nL I
 | 0=>λ_ _ _=>none
 | m+1=>λρ s k=>body ρ s λe s'=>match e with
   | .normal=>Py body m ρ s' k
   | e=>k e s'
def DK (s:St I):List Nat->St I
 | []=>s
 | l::r=>DK (match s.O l with
   | some (some (.aP E _ _ xs _))=>bG s l (some (.row E xs false))
   | _=>s) r
def Ip (s:St I):List Nat->St I
 | []=>s
 | l::r=>Ip (match s.O l with
   | some (some (.aP E E' u xs 0))=>bG s l (some (.aP E E' u xs 1))
   | _=>s) r
def Qa (ts:List Nat):List Nat:=ts.filter λt=>LF' t 1000000
def nB' (ts:List Nat):List Nat:=(ts.filter λt=>Mq' 1000000 t).map λt=>t-1000000
def Ti (s:St I)(ts:List Nat):St I :=
 let a:=pJ s (Qa ts)
 let s1:=DK s a
 Ip (aZ s1 s1.O a) (mK s.F (nB' ts))
def nN (tb:aX I)(aH:fQ I)(H:Hints I):Code->Nat->nL I
 | .region id ops dS,p=>BV tb H p λ_ s k=>region tb aH (WH ops.toList) dS (H.spl id) ops.toList (Ti s (H.pre id)) (k .normal)
 | .seq a b,p=>BV tb H p λρ s k=>nN tb aH H a (2*p) ρ s λe s=>match e with
   | .normal=>nN tb aH H b (2*p+1) ρ s k
   | e=>k e s
 | .cond t a b,p=>BV tb H p λρ s k=>(dN s.n s.F t).bind λq=>match q with
   | .bool c=>bif c then nN tb aH H a (2*p) ρ s k else nN tb aH H b (2*p+1) ρ s k
   | _=>none
 | .block id a,p=>BV tb H p λρ s k=>nN tb aH H a (2*p) ρ s λe s=>match e with
   | .exit j=>bif Lm' j id then k .normal s else k (.exit j) s
   | e=>k e s
 | .loop a,p=>BV tb H p λρ s k=>match H.loop p with
   | some L=>XG tb L (nN tb aH H a (2*p)) ρ s k
   | none=>match H.keep p with
     | some K=>UI tb K (nN tb aH H a (2*p)) ρ s k
     | none=>match H.aP p with
       | some N=>Ye tb N (nN tb aH H a (2*p)) ρ s k
       | none=>Py (nN tb aH H a (2*p)) (H.unr p) ρ s k
 | .exit i,_=>λ_ s k=>k (.exit i) s
 | .ret,_=>λ_ s k=>k .ret s
 | .skip,_=>λ_ s k=>k .normal s
 | _,_=>λ_ _ _=>none
def Vk (ops:List Oper)(i:Nat):Bool:=jA (o7 ops) i
def gX:Code->Nat->Bool
 | .region _ ops _,i=>Vk ops.toList i
 | .seq a b,i=>gX a i||gX b i
 | .cond _ a b,i=>gX a i||gX b i
 | .block _ a,i=>gX a i
 | .loop a,i=>gX a i
 | _,_=>false
def kV (m:Nat):Code->Bool
 | .region _ ops _=>ops.toList.all λo=>match o.dst with
   | some d=>Nj' m d
   | none=>true
 | .seq a b=>kV m a&&kV m b
 | .cond _ a b=>kV m a&&kV m b
 | .block _ a=>kV m a
 | .loop a=>kV m a
 | _=>true
def wW (H:Hints I)(c:Code)(p:Nat):Bool:=(match H.join p with
 | some j=>kV j.m c
 | none=>true)&&(match H.loop p with
 | some L=>kV L.m c
 | none=>true)&&(match H.keep p with
 | some K=>kV K.m c
 | none=>true)&&(match H.aP p with
 | some N=>kV N.L.m c
 | none=>true)
def kJ (H:Hints I):Code->Nat->Bool
 | .region id ops dS,p=>wW H (.region id ops dS) p&&(bif dS then Xl ops.toList (WH ops.toList)&&K8 ops.toList (WH ops.toList) (o7 ops.toList) else true)
 | .seq a b,p=>wW H (.seq a b) p&&kJ H a (2*p)&&kJ H b (2*p+1)
 | .cond t a b,p=>wW H (.cond t a b) p&&kJ H a (2*p)&&kJ H b (2*p+1)
 | .block id a,p=>wW H (.block id a) p&&kJ H a (2*p)
 | .loop a,p=>wW H (.loop a) p&&kJ H a (2*p)
 | _,_=>true
theorem sV {m:Nat}:∀ {c:Code},kV m c=true->∀ {i},Nj' m i=false->gX c i=false
 | .region _ ops _,h,i,hi=>by
   simp only [kV,Le'] at h;simp only [gX,Vk,jA,MQ'];intro x hx hd;obtain ⟨j,o⟩:=x;have ho:=Lj' (X4.1 hx);have h1:=h o ho;cases hdst:o.dst with
   | none=>rw [hdst] at hd; cases hd
   | some d =>rw [hdst] at hd h1;have e:=Li' hd;subst e;simp only at h1;rw [hi] at h1; cases h1
 | .seq a b,h,i,hi=>by simp only [kV,Lc'] at h;simp only [gX,sV h.1 hi,sV h.2 hi,Bool.or_self]
 | .cond _ a b,h,i,hi=>by simp only [kV,Lc'] at h;simp only [gX,sV h.1 hi,sV h.2 hi,Bool.or_self]
 | .block _ a,h,i,hi=>sV (c:=a) h hi
 | .loop a,h,i,hi=>sV (c:=a) h hi
 | .skip,_,_,_=>rfl
 | .rangeFunc _ _ _ _,_,_,_=>rfl
 | .exit _,_,_,_=>rfl
 | .scope _,_,_,_=>rfl
 | .label _,_,_,_=>rfl
 | .goto _,_,_,_=>rfl
 | .ret,_,_,_=>rfl
 | .refuse _,_,_,_=>rfl
omit [∀ E,Rp (I E)] in
theorem CS':∀ {vs:List V} {x:fO I vs},(fB vs x).length=Ew vs:=by
 have hK:∀ {k:K} {x:lg I k},(qx k x).length=tq k:=by intro k x; cases k<;>rfl
 have hKs:∀ {ks:List K} {x:jR I ks},(Et ks x).length=nP ks:=by
  intro ks
  induction ks with
  | nil=>intro x; rfl
  | cons k r ih =>
    cases r with
    | nil=>intro x; exact hK
    | cons k' r=>intro x; simp only [Et,nP,Lf',hK,ih]
 have hV:∀ {v:V} {x:mY I v},(lX v x).length=kC v:=by
  intro v x;cases v with
  | k k=>exact hK
  | bW ks=>exact hKs
 intro vs
 induction vs with
 | nil=>intro x; rfl
 | cons v r ih =>
   cases r with
   | nil=>intro x; exact hV
   | cons v' r=>intro x; simp only [fB,Ew,Lf',hV,ih]
omit [∀ E,Rp (I E)] in
theorem fI' {O:aN I}:∀ {m nb:Nat},J2 O nb m=true↔∀ l∈gu nb m,O l=none
 | 0,_=>by simp [J2,gu]
 | m+1,nb=>by
   simp only [J2,Lc',fI',gu,Lq',Option.isNone_iff_eq_none];constructor
   ·rintro ⟨h1,h2⟩ l (rfl | h)
    ·exact h1
    ·exact h2 l h
   ·exact λh=>⟨h _ (.inl rfl),λl hl=>h l (.inr hl)⟩
variable {P:Program}{tb:aX I}{aH:fQ I}{H:Hints I}{n:Nat}
omit [∀ E,Rp (I E)] in
theorem UA {sb:St I}{S W:List (Nat×V)}(h:rD sb S W=true)(x:mg I S W):jH sb.O sb.nx (fB (ja S W) x)=true:=by rw [o8,CS'];exact fI'.1 h
omit [∀ E,Rp (I E)] in
theorem UG {O0:aN I}{W:List (Nat×V)}{wl:List Nat}{sb:St I}{m:Nat}{dead:List Nat}{ρ:Type}{k:Ex->St I->Option ρ}{r:ρ}{e:Ex}{s':St I}:∀ {outs:List (Ex×List (Nat×V))} {b:AR I W outs},inj tb O0 W wl outs e s'=some b->out tb sb m dead W wl k outs b=some r ->
 ∃ S W',∃ x:mg I S W',tZ tb O0 S W' wl s'=some x/\rD sb S W'=true/\k e (oF tb sb m dead S W' wl x)=some r
 | [],_,h,_=>by cases h
 | [o],x,h,h2=>by obtain ⟨he,h3⟩:=bA h;obtain ⟨hn,h4⟩:=bA h2;have:=EM he;subst this;exact ⟨tY o.2,uh W o.2,x,h3,hn,h4⟩
 | o::o'::rs,b,h,h2=>by
   simp only [inj] at h;cases he:vZ o.1 e with
   | true =>
     rw [he] at h;obtain ⟨x,hx,h⟩:=bind_some h;cases h;have h2':(bif rD sb (tY o.2) (uh W o.2) then k o.1 (oF tb sb m dead (tY o.2) (uh W o.2) wl x) else none)=some r:=h2
     obtain ⟨hn,h2'⟩:=bA h2';have:=EM he;subst this;exact ⟨tY o.2,uh W o.2,x,hx,hn,h2'⟩
   | false =>rw [he] at h;obtain ⟨y,hy,h⟩:=bind_some h;cases h;exact UG (outs:=o'::rs) (b:=y) hy h2
omit [∀ E,Rp (I E)] in
theorem fM' {s:St I}:∀ {W:List (Nat×V)} {wl:List Nat},Gc s W=some wl->∀ l∈wl,(∃ t,s.F t=some (.ptr l 0))\/∃ o,s.O l=some (some o)
 | [],_,h=>by cases h; exact λl hl=>by cases hl
 | x::r,_,h=>by
   obtain ⟨l0,h0,h⟩:=bind_some h;obtain ⟨r',h1,h⟩:=bind_some h;cases h;intro l hl;rcases Lq'.1 hl with rfl | hl
   ·unfold dC' at h0;cases hb:Mq' 2000000 x.1 with
    | true =>rw [hb,cond_true] at h0;exact .inr (tB' h0)
    | false =>
      rw [hb,cond_false] at h0;split at h0
      ·rename_i l1 e; cases h0; exact .inl ⟨_,e⟩
      ·cases h0
   ·exact fM' h1 l hl
def vB (P:Program)(n:Nat)(core:nL I)(cd:Code):Prop :=
 ∀ (ρ:Type) (s:St I) (k:Ex->St I->Option ρ) (r:ρ) (X:bZ) (c:Cx) (σ:S) (F:Fr) (Q:Exit->Act->World->Prop),X.P=P->core ρ s k=some r->Rel X c σ s n F ->
  (∀ (e:Ex) (s':St I) (c':Cx) (τ:S) (F':Fr),k e s'=some r->Cx.le c c'->Rel X c' τ s' n F'->Stp X.M σ τ->(∀ i,gX cd i=false->F' i=F i)->Q (jM e) (fr n F') τ.w)->cd.wp P Q (fr n F) σ.w
theorem fh' (ht:bT P tb){X X':bZ}{c c' c'':Cx}{σ τ:S}{s0 s':St I}{F F':Fr}{own wl dead:List Nat}{W S:List (Nat×V)}{m:Nat}{x:mg I S W}(h0:Rel X c σ s0 n F)(hX:X'=eX X c σ s0 own)(hc':c'=dA own c)(how:own=wl++dead)
 (hwl:∀ l∈wl,∃ p,c l=some p) (hg:tZ tb s0.O S W wl s'=some x) (hok:rD s0 S W=true) (hle:Cx.le c' c'') (hr:Rel X' c'' τ s' n F') (st:Stp X'.M σ τ) (hF:∀ i,Nj' m i=false->F' i=F i) :
 ∃ c4 τ',τ'.w=τ.w/\Cx.le c c4/\Rel X c4 τ' (oF tb s0 m dead S W wl x) n F'/\Stp X.M σ τ':=by
 subst hX;subst hc';have hcl:∀ l∈wl,c'' l=c l:=λl hl=>by
  obtain ⟨p,hp⟩:=hwl l hl;have:dA own c l=some p:=by
   unfold dA;rw [kE.2 (by rw [how]; simp [hl])]
   exact hp
  rw [hle l p this,hp]
 obtain ⟨τ',au,us,h1,h2,h3⟩:=X5 ht hr hcl hg;have st':=st.trans h2;obtain ⟨k1,k2⟩:=build (m:=m) (dead:=dead) ht h0 st' (uO h0 own) hF (λl p g hl hnw hnd hc hw=>yX h0 hl (by rw [how,Lo',not_or]; exact ⟨hnw,hnd⟩) hc hw) (λl i g hnw hnd hb=>RF h0 (by rw [how,Lo',not_or]; exact ⟨hnw,hnd⟩) hb) h3 (UA hok x)
 exact ⟨_,τ',h1,k1,k2,st'.mono λb _ hb=>uO h0 own b hb⟩
theorem Wl {X:bZ}{c:Cx}{σ:S}{s:St I}{F:Fr}(h:Rel X c σ s n F){W:List (Nat×V)}{wl:List Nat}(hw:Gc s W=some wl):∀ l∈wl,∃ p,c l=some p:=λl hl=>by
 rcases fM' hw l hl with ⟨t,ht⟩ | ⟨o,ho⟩
 case inr=>exact (h.bB l o ho).place
 have:=h.frame t _ ht;simp only [RV] at this;obtain ⟨b,w,h1,_⟩:=this;exact ⟨_,h1⟩
theorem KV (ht:bT P tb){core:nL I}{cd:Code}{p:Nat}(hs:vB P n core cd)(hj:wW H cd p=true):vB P n (BV tb H p core) cd:=by
 intro ρ s k r X c σ F Q hX hx h hk;unfold BV at hx;split at hx
 ·exact hs ρ s k r X c σ F Q hX hx h hk
 ·rename_i j hj';have hm:kV j.m cd=true:=by simp only [wW,hj',Lc'] at hj;exact hj.1.1.1
  obtain ⟨wl,hwl,hx⟩:=bind_some hx;obtain ⟨b,hb,hx⟩:=bind_some hx;obtain ⟨σ1,h1,h2,h3,_⟩:=h.pubs (O:=s.O) (λ_ _ h=>h) (pJ s j.pub);rw [<- h1];refine hs _ _ _ b (eX X c σ1 (aZ s s.O (pJ s j.pub)) (wl++EJ (aZ s s.O (pJ s j.pub)) (rR j.outs) wl)) _ σ1 F Q hX hb (enter h3 _) λe s' c' τ F' hi hle hr st hF=>?_;obtain ⟨S,W',x,g1,g2,g3⟩:=UG hi hx;obtain ⟨c4,τ',k1,k2,k3,k4⟩:=fh' (m:=j.m) ht h3 rfl rfl rfl (Wl h3 hwl) g1 g2 hle hr st (λi hi=>hF i (sV hm hi));rw [<- k1];exact hk e _ c4 τ' F' g3 k2 k3 (h2.trans k4) hF
theorem BI' {body:nL I}{cd:Code}(hs:vB P n body cd)(m:Nat):vB P n (Py body m) (.loop cd):=by
 intro ρ s k r X c σ F Q hX hx h hk;refine wp_loop_rounds m ?_;have key:∀ (m:Nat) (s:St I) (c:Cx) (σ:S) (F:Fr),Py body m ρ s k=some r->Rel X c σ s n F ->
  (∀ (e:Ex) (s':St I) (c':Cx) (τ:S) (F':Fr),k e s'=some r->Cx.le c c'->Rel X c' τ s' n F'->Stp X.M σ τ->(∀ i,gX cd i=false->F' i=F i)->Q (jM e) (fr n F') τ.w)->Code.rounds P cd Q m (fr n F) σ.w:=by
  intro m
  induction m with
  | zero=>intro s c σ F hx; cases hx
  | succ m ih =>
    intro s c σ F hx h hk;show cd.wp P (Exit.then (Code.rounds P cd Q m) Q) (fr n F) σ.w
    refine hs ρ s _ r X c σ F _ hX hx h λe s' c' τ F' g1 g2 g3 g4 g5=>?_;cases e with
    | normal=>exact ih s' c' τ F' g1 g3 λe s2 c2 υ F2 m1 m2 m3 m4 m5=>hk e s2 c2 υ F2 m1 (Cx.le_trans g2 m2) m3 (g4.trans m4) λi hi=>(m5 i hi).trans (g5 i hi)
    | exit i=>exact hk (.exit i) s' c' τ F' g1 g2 g3 g4 g5
    | ret=>exact hk .ret s' c' τ F' g1 g2 g3 g4 g5
 exact key m s c σ F hx h hk
theorem DA' (ht:bT P tb){L:LH I}{body:nL I}{cd:Code}(hs:vB P n body cd)(hm:kV L.m cd=true):vB P n (XG tb L body) (.loop cd):=by
 intro ρ s k r X c σ F Q hX hx h hk;unfold XG at hx;obtain ⟨wl,hwl,hx⟩:=bind_some hx;obtain ⟨hok,hx⟩:=bA hx;obtain ⟨x0,hx0,hx⟩:=bind_some hx;obtain ⟨bd,hbd,hx⟩:=bind_some hx;obtain ⟨b,hb,hx⟩:=bind_some hx;obtain ⟨σ1,h1,h2,h3,_⟩:=h.pubs (O:=s.O) (λ_ _ h=>h) (pJ s L.pub);rw [<- h1];have hwc:=Wl h3 hwl;revert hok hx0 hb hx;generalize hs0:aZ s s.O (pJ s L.pub)=s0 at *;change Rel X c σ1 s0 n F at h3;generalize Mw:EJ s0 (L.head.map (·.1)++rR L.outs) wl=dead
 intro hok hx0 hb hx;have hE:=enter h3 (wl++dead);have hcl:∀ {c1:Cx},Cx.le (dA (wl++dead) c) c1->∀ l∈wl,c1 l=dA (wl++dead) c l:=λhle l hl=>by
  obtain ⟨p,hp⟩:=hwc l hl;have:dA (wl++dead) c l=some p:=by
   unfold dA;rw [kE.2 (by simp [hl])]
   exact hp
  rw [hle l p this,this]
 have Zc:∀ {τ:S} {W:List (Nat×V)} {jV:List Nat} {us:List Value},(∀ l∈jV,l∈wl)->kK τ (dA (wl++dead) c) s0.O W jV us->kK τ (dA (wl++dead) c) (iO (wl++dead) s0.O) W jV us:=by
  intro τ W
  induction W with
  | nil =>intro jV us _ hc;cases jV<;>exact hc
  | cons w r ih =>
    intro jV us hw hc;cases jV with
    | nil=>exact hc
    | cons l ls =>
      obtain ⟨u,mE,b,T,vs,w',cs,e1,e2,e3,e4,e5,e6,e7⟩:=hc;refine ⟨u,mE,b,T,vs,w',cs,e1,?_,e3,e4,e5,e6,ih (λl' hl'=>hw l' (by simp [hl'])) e7⟩
      unfold iO;rw [kE.2 (by simp [hw l (by simp)])]
      exact e2
 have Ba:∀ (c1:Cx) (τ:S) (s':St I) (F1:Fr) (x:mg I L.head L.W),Cx.le (dA (wl++dead) c) c1->Rel (eX X c σ1 s0 (wl++dead)) c1 τ s' n F1->Stp (eX X c σ1 s0 (wl++dead)).M σ1 τ->(∀ i,gX cd i=false->F1 i=F i)->tZ tb s0.O L.head L.W wl s'=some x ->
  ∃ c4 τ',τ'.w=τ.w/\Cx.le (dA (wl++dead) c) c4/\Rel (eX X c σ1 s0 (wl++dead)) c4 τ' (oF tb (mW (wl++dead) s0) L.m dead L.head L.W wl x) n F1/\Stp (eX X c σ1 s0 (wl++dead)).M σ1 τ':=by
  intro c1 τ s' F1 x hle hr st hF hg;obtain ⟨τ',au,us,a1,a2,a3⟩:=X5 ht hr (hcl hle) hg;have a3':Facts (eX X c σ1 s0 (wl++dead)).M τ' (dA (wl++dead) c) (mW (wl++dead) s0).O F1 L.head L.W wl x au us:=⟨a3.tt,Zc (λ_ h=>h) a3.cont,a3.nodup,a3.own,a3.Tf⟩;obtain ⟨b1,b2⟩:=build (m:=L.m) (dead:=dead) ht hE (st.trans a2) (λ_ h=>h) (λi hi=>hF i (sV hm hi)) (λl p g hl hnw hnd hc hw=>by
   exfalso;unfold dA at hc;rw [oo.2 (by rw [Lo',not_or]; exact ⟨hnw,hnd⟩)] at hc
   simp only [cond_false,Mx'] at hc;obtain ⟨q,_,e⟩:=hc;rw [<- e] at hw;cases hw) (λl i g hnw hnd hb=>absurd (X9 hb) (by rw [Lo',not_or]; exact ⟨hnw,hnd⟩)) a3' (UA hok x)
  exact ⟨_,τ',a1,b1,b2,st.trans a2⟩
 let Inv:mg I L.head L.W->Act->World->Prop:=λx a w=>∃ c1 τ F1,a=fr n F1/\w=τ.w/\Cx.le (dA (wl++dead) c) c1/\Rel (eX X c σ1 s0 (wl++dead)) c1 τ (oF tb (mW (wl++dead) s0) L.m dead L.head L.W wl x) n F1 /\
  Stp (eX X c σ1 s0 (wl++dead)).M σ1 τ/\∀ i,gX cd i=false->F1 i=F i
 let Post:AR I L.W L.outs->Exit->Act->World->Prop:=λb e a w=>∃ e' s' c1 τ F1,e=jM e'/\jM e'≠.normal/\a=fr n F1/\w=τ.w/\inj tb s0.O L.W wl L.outs e' s'=some b/\Cx.le (dA (wl++dead) c) c1 /\
  Rel (eX X c σ1 s0 (wl++dead)) c1 τ s' n F1/\Stp (eX X c σ1 s0 (wl++dead)).M σ1 τ/\∀ i,gX cd i=false->F1 i=F i
 obtain ⟨c4,σ2,i1,i2,i3,i4⟩:=Ba _ σ1 _ F x0 (Cx.le_refl _) hE (Stp.refl _ _) (λ_ _=>rfl) hx0;have hinv:Inv x0 (fr n F) σ1.w:=⟨c4,σ2,F,rfl,i1.symm,i2,i3,i4,λ_ _=>rfl⟩;refine wp_mono (J4 (P:=P) Inv Post (λb a w ⟨e',s',c1,τ,F1,e1,e2,_⟩=>e2 e1.symm) (λx fl a w hst hI=>?_) bd x0 b (fr n F) σ1.w hb hinv) λe a w hp=>?_
 ·obtain ⟨c1,τ,F1,rfl,rfl,j1,j2,j3,j4⟩:=hI;refine hs _ _ _ fl (eX X c σ1 s0 (wl++dead)) c1 τ F1 _ hX hst j2 λe s' c2 υ F2 hkk hle hr st hF=>?_;have hle2:=Cx.le_trans j1 hle;have st2:=j3.trans st;have hF2:∀ i,gX cd i=false->F2 i=F i:=λi hi=>(hF i hi).trans (j4 i hi);have hdone:∀ e',e'=e->jM e'≠.normal->(inj tb s0.O L.W wl L.outs e' s').bind (λb=>some (Fl.done b))=some fl->∃ b',fl=.done b'/\Post b' (jM e') (fr n F2) υ.w:=λe' he hne hi=>by obtain ⟨b',hb',hi⟩:=bind_some hi;cases hi;exact ⟨b',rfl,e',s',c2,υ,F2,rfl,hne,rfl,rfl,hb',hle2,hr,st2,hF2⟩
  cases e with
  | normal =>obtain ⟨x',hx',hkk⟩:=bind_some hkk;cases hkk;obtain ⟨c5,υ',m1,m2,m3,m4⟩:=Ba c2 υ s' F2 x' hle2 hr st2 hF2 hx';exact ⟨rfl,c5,υ',F2,rfl,m1.symm,m2,m3,m4,hF2⟩
  | exit i=>obtain ⟨b',rfl,hp⟩:=hdone (.exit i) rfl (by simp [jM]) hkk; exact hp
  | ret=>obtain ⟨b',rfl,hp⟩:=hdone .ret rfl (by simp [jM]) hkk; exact hp
 ·obtain ⟨e',s',c1,τ,F1,rfl,hne,rfl,rfl,hi,hle,hr,st,hF⟩:=hp;obtain ⟨S,W',x,g1,g2,g3⟩:=UG hi hx;obtain ⟨c5,τ',k1,k2,k3,k4⟩:=fh' (m:=L.m) ht h3 rfl rfl rfl hwc g1 g2 hle hr st (λi hi=>hF i (sV hm hi));rw [<- k1];exact hk e' _ c5 τ' F1 g3 k2 k3 (h2.trans k4) hF
theorem iU.none_ {X:bZ}{c:Cx}{σ:S}:iU X c σ (λ_=>none:aN I) []:=⟨(λ_ _ _ _ h=>by cases h),(λ_ _ _ h=>by cases h),(λ_ _ _ _ h=>by cases h),λ_ _ _ _ h=>by cases h⟩
theorem Rows.none_ {X:bZ}{c:Cx}{σ:S}:Rows X c σ (λ_=>none:aN I) []:=λ_ _ _ _ h=>by cases h
omit [∀ E,Rp (I E)] in
theorem du' {O:aN I}{l:Nat}:∀ {E:KO} {ys:Dn I E},Uf O l E=some ys->O l=some (some (xA E ys))
 | .row E,ys,h=>by
   have h:(match O l with
    | some (some (.row E' xs false))=>jS E E' xs
    | _=>none)=some ys:=h
   split at h
   ·rename_i E' xs e;obtain ⟨e1,e2⟩:=lM h;subst e1;subst e2;exact e
   ·cases h
 | .map T kd,ys,h=>by
   have h:(match O l with
    | some (some (.map T' kd' m))=>pW (T:=T) (T':=T') (kd:=kd) m
    | _=>none)=some ys:=h
   split at h
   ·rename_i T' kd' xs e;obtain ⟨e1,e2,e3⟩:=wP h;subst e1;subst e2;subst e3;exact e
   ·cases h
theorem wu' {X X':bZ}{c c':Cx}{σ:S}{l:Nat}(hcl:c' l=c l):∀ {E:KO} {ys:Dn I E},gI X' c' σ l (xA E ys)->gI X c σ l (xA E ys)
 | .row E,ys,h=>by obtain ⟨A,k,ow,k1,k2⟩:=h;rw [hcl] at k1;exact ⟨A,k,ow,k1,k2⟩
 | .map T kd,ys,h=>by obtain ⟨b,k1,k2⟩:=h;rw [hcl] at k1;exact ⟨b,k1,k2⟩
omit [∀ E,Rp (I E)] in
theorem wP':∀ (E:KO) (ys:Dn I E),rC (some (xA E ys))=true
 | .row _,_=>rfl
 | .map _ _,_=>rfl
theorem gu' (ht:bT P tb){X X':bZ}{c c':Cx}{σ τ:S}{s0 s':St I}{F F':Fr}{l m:Nat}{E:KO}{S:List (Nat×V)}{x:wK I S E}{pl:Pl}(h0:Rel X c σ s0 n F)(hlv:bH s0 l)(hpl:c l=some pl)(hr:Rel X' c' τ s' n F')
 (hcl:c' l=c l) (st:Stp X'.M σ τ) (hM:∀ b,X'.M b->X.M b) (hnot:∀ l' p g,bH s0 l'->l'≠l->c l'=some p->p.w=some g->¬ X'.M g) (EG':∀ l' i g,l'≠l->fw c σ s0.O l' i g->¬ X'.M g) (hg:CJ tb E l S s'=some x) (hF:∀ i,Nj' m i=false->F' i=F i) :
 Rel X c τ (Dc tb s0 m l E S x) n F':=by
 obtain ⟨ps,hps,hg⟩:=bind_some hg;obtain ⟨y,hy,hg⟩:=bind_some hg;obtain ⟨hb,hg⟩:=bA hg;obtain ⟨ys,hys,hg⟩:=bind_some hg;cases hg;simp only [Lc'] at hb;have hn1:=tH hb.1;have hn2:=tH hb.2;have ho:=du' hys;have gq:=wu' (X:=X) (c:=c) hcl (hr.bB l _ ho);have h1:Rel X c σ ⟨s0.n,s0.F,dL [l] s0.O,s0.nx⟩ n F:=h0.less (λl o ho=>(iW ho).2) (λl ho=>wo.1 ho);have hm1:∀ l' p g,bH (⟨s0.n,s0.F,dL [l] s0.O,s0.nx⟩:St I) l'->c l'=some p->p.w=some g->¬ X'.M g:=λl' p g ⟨o,ho'⟩ hc hw=>by obtain ⟨m1,m2⟩:=iW ho';exact hnot l' p g ⟨o,m2⟩ (by simpa using m1) hc hw
 have hi1:∀ g,X'.M g->eD c σ (⟨s0.n,s0.F,dL [l] s0.O,s0.nx⟩:St I) g:=λg hg l' i ⟨E',v,⟨E,u,xs,q,g',kk,m',w,k1,k2⟩,k3⟩=>by obtain ⟨z1,z2⟩:=iW k1;exact EG' l' i g (by simpa using z1) ⟨E',v,⟨E,u,xs,q,g',kk,m',w,z2,k2⟩,k3⟩ hg
 have h2:Rel X c τ ⟨s0.n,s0.F,dL [l] s0.O,s0.nx⟩ n F:=h1.stepG st hM hm1 hi1;have h3:=h2.Io (l:=l) (o:=xA E ys) (hn:=wP' E ys) gq λp g hp hg=>⟨h0.mine l p g hlv hp hg,((h0.owned hlv hp hg).sub (λl' E E' u xs q e=>(iW e).2)).step h1 st hm1 hi1,λl' p' hne ⟨o,ho'⟩ hc' hw'=>by obtain ⟨m1,m2⟩:=iW ho';exact hne (h0.inj l' l p' p g ⟨o,m2⟩ hlv hc' hp hw' hg)⟩
 have hO:(bG (⟨s0.n,s0.F,dL [l] s0.O,s0.nx⟩:St I) l (some (xA E ys))).O=cB s0.O l (some (xA E ys)):=by
  funext i;show cB (dL [l] s0.O) l _ i=_;by_cases e:i=l
  ·subst e; rw [iq,iq]
  ·rw [fq e,fq e];unfold dL;rw [oo.2 (by simpa using e)]
   rfl
 have h4:Rel X c τ ⟨s0.n,uL m s0.F,cB s0.O l (some (xA E ys)),s0.nx⟩ n F':=by
  rw [<- hO];exact h3.lj' λi p hi=>by
   unfold uL at hi;cases hb:Nj' m i with
   | true=>rw [hb] at hi; cases hi
   | false=>rw [hb] at hi; exact ⟨hi,hF i hb⟩
 obtain ⟨au,t1,t2⟩:=F4 ht iU.none_ Rows.none_ (ls:=y.2.1) (rows:=y.2.2) hy (λl hl=>by rw [hn1] at hl; cases hl) (λl hl=>by rw [hn2] at hl; cases hl) (XK hr hps)
 rw [hn2] at t2;have:au=[]:=t2;subst this;exact Rel.A9 h4 (GI (X:=X) (c:=c) (nb:=s0.nx) ht t1 (λi p hp=>by simp at hp)).1
omit [∀ E,Rp (I E)] in
theorem jY' [∀ E,Rp (I E)] {sb:St I}{m l:Nat}{E:KO}{ρ:Type}{k:Ex->St I->Option ρ}{r:ρ}{e:Ex}{s':St I}:∀ {outs:List (Ex×List (Nat×V))} {b:Bz I E outs},Fs tb E l outs e s'=some b->U4 tb sb m l E k outs b=some r ->
 ∃ S,∃ x:wK I S E,CJ tb E l S s'=some x/\k e (Dc tb sb m l E S x)=some r
 | [],_,h,_=>by cases h
 | [o],x,h,h2=>by obtain ⟨he,h3⟩:=bA h;have:=EM he;subst this;exact ⟨o.2,x,h3,h2⟩
 | o::o'::rs,b,h,h2=>by
   simp only [Fs] at h;cases he:vZ o.1 e with
   | true =>rw [he] at h;obtain ⟨x,hx,h⟩:=bind_some h;cases h;have:=EM he;subst this;exact ⟨o.2,x,hx,h2⟩
   | false =>rw [he] at h;obtain ⟨y,hy,h⟩:=bind_some h;cases h;exact jY' (outs:=o'::rs) (b:=y) hy h2
theorem zN' (ht:bT P tb){K:KH I}{body:nL I}{cd:Code}(hs:vB P n body cd)(hm:kV K.m cd=true):vB P n (UI tb K body) (.loop cd):=by
 intro ρ s k r X c σ F Q hX hx h hk;unfold UI at hx;obtain ⟨rw_,hrw,hx⟩:=bind_some hx;obtain ⟨x0,hx0,hx⟩:=bind_some hx;obtain ⟨bd,hbd,hx⟩:=bind_some hx;obtain ⟨b,hb,hx⟩:=bind_some hx;obtain ⟨l,xs⟩:=rw_;have hrow:s.O l=some (some (xA K.E xs)):=by
  unfold jQ' at hrw;split at hrw
  ·obtain ⟨l',_,hrw⟩:=bind_some hrw;obtain ⟨ys,hys,hrw⟩:=bind_some hrw;cases hrw;exact du' hys
  ·cases hrw
 have hlv:bH s l:=⟨_,hrow⟩;obtain ⟨pl,hpl⟩:=(h.bB l _ hrow).place;have hE:=enter h [l];have hcr:dA [l] c l=c l:=by unfold dA; rw [kE.2 (by simp)]; rfl
 have hlr:bH (mW [l] s) l:=⟨_,by show iO [l] s.O l=_; unfold iO; rw [kE.2 (by simp)]; exact hrow⟩
 have hkeep:∀ {c1:Cx},Cx.le (dA [l] c) c1->c1 l=dA [l] c l:=λhle=>by have:dA [l] c l=some pl:=hcr.trans hpl;rw [hle l _ this,this]
 have hdst:∀ {F1:Fr},(∀ i,gX cd i=false->F1 i=F i)->∀ i,Nj' K.m i=false->F1 i=F i:=λhF i hi=>hF i (sV hm hi);have Ba:∀ (c1:Cx) (τ:S) (s':St I) (F1:Fr) (x:wK I K.S K.E),Cx.le (dA [l] c) c1->Rel (eX X c σ s [l]) c1 τ s' n F1->Stp (eX X c σ s [l]).M σ τ->(∀ i,gX cd i=false->F1 i=F i)->CJ tb K.E l K.S s'=some x ->
  Rel (eX X c σ s [l]) (dA [l] c) τ (Dc tb (mW [l] s) K.m l K.E K.S x) n F1:=λc1 τ s' F1 x hle hr st hF hg =>
  gu' ht hE hlr (hcr.trans hpl) hr (hkeep hle) st (λ_ h=>h) (λl' p g _ hne hc hw=>by
   exfalso;unfold dA at hc;rw [oo.2 (by simpa using hne)] at hc
   simp only [cond_false,Mx'] at hc;obtain ⟨q,_,e⟩:=hc;rw [<- e] at hw;cases hw) (λl' i g hne hb=>absurd (X9 hb) (by simpa using hne)) hg (hdst hF)
 let Inv:wK I K.S K.E->Act->World->Prop:=λx a w=>∃ τ F1,a=fr n F1/\w=τ.w/\Rel (eX X c σ s [l]) (dA [l] c) τ (Dc tb (mW [l] s) K.m l K.E K.S x) n F1/\Stp (eX X c σ s [l]).M σ τ/\∀ i,gX cd i=false->F1 i=F i
 let Post:Bz I K.E K.outs->Exit->Act->World->Prop:=λb e a w=>∃ e' s' c1 τ F1,e=jM e'/\jM e'≠.normal/\a=fr n F1/\w=τ.w/\Fs tb K.E l K.outs e' s'=some b/\Cx.le (dA [l] c) c1 /\
  Rel (eX X c σ s [l]) c1 τ s' n F1/\Stp (eX X c σ s [l]).M σ τ/\∀ i,gX cd i=false->F1 i=F i
 have hinv:Inv x0 (fr n F) σ.w:=⟨σ,F,rfl,rfl,Ba _ σ _ F x0 (Cx.le_refl _) hE (Stp.refl _ _) (λ_ _=>rfl) hx0,Stp.refl _ _,λ_ _=>rfl⟩;refine wp_mono (J4 (P:=P) Inv Post (λb a w ⟨e',s',c1,τ,F1,e1,e2,_⟩=>e2 e1.symm) (λx fl a w hst hI=>?_) bd x0 b (fr n F) σ.w hb hinv) λe a w hp=>?_
 ·obtain ⟨τ,F1,rfl,rfl,j2,j3,j4⟩:=hI;refine hs _ _ _ fl (eX X c σ s [l]) (dA [l] c) τ F1 _ hX hst j2 λe s' c2 υ F2 hkk hle hr st hF=>?_;have st2:=j3.trans st;have hF2:∀ i,gX cd i=false->F2 i=F i:=λi hi=>(hF i hi).trans (j4 i hi);have hdone:∀ e',e'=e->jM e'≠.normal->(Fs tb K.E l K.outs e' s').bind (λb=>some (Fl.done b))=some fl->∃ b',fl=.done b'/\Post b' (jM e') (fr n F2) υ.w:=λe' he hne hi=>by obtain ⟨b',hb',hi⟩:=bind_some hi;cases hi;exact ⟨b',rfl,e',s',c2,υ,F2,rfl,hne,rfl,rfl,hb',hle,hr,st2,hF2⟩
  cases e with
  | normal =>obtain ⟨x',hx',hkk⟩:=bind_some hkk;cases hkk;exact ⟨rfl,υ,F2,rfl,rfl,Ba c2 υ s' F2 x' hle hr st2 hF2 hx',st2,hF2⟩
  | exit i=>obtain ⟨b',rfl,hp⟩:=hdone (.exit i) rfl (by simp [jM]) hkk; exact hp
  | ret=>obtain ⟨b',rfl,hp⟩:=hdone .ret rfl (by simp [jM]) hkk; exact hp
 ·obtain ⟨e',s',c1,τ,F1,rfl,hne,rfl,rfl,hi,hle,hr,st,hF⟩:=hp;obtain ⟨S,x,g1,g3⟩:=jY' hi hx;refine hk e' _ c τ F1 g3 (Cx.le_refl c) (gu' ht h hlv hpl hr ((hkeep hle).trans hcr) st (uO h [l]) (λl' p g hl' hne' hc hw=>yX h hl' (by simpa using hne') hc hw) (λl' i g hne' hb=>RF h (by simpa using hne') hb) g1 (hdst hF)) (st.mono λb _ hb=>uO h [l] b hb) hF
theorem Rel.DK {X:bZ}{c:Cx}{σ:S}{F:Fr}:∀ (ls:List Nat) {s:St I},Rel X c σ s n F->Rel X c σ (Qx.DK s ls) n F
 | [],_,h=>h
 | l::r,s,h=>by
   refine Rel.DK r ?_;split
   ·rename_i e; exact h.plain e
   ·exact h
theorem Rel.Ip {X:bZ}{c:Cx}{σ:S}{F:Fr}:∀ (ls:List Nat) {s:St I},Rel X c σ s n F->Rel X c σ (Qx.Ip s ls) n F
 | [],_,h=>h
 | l::r,s,h=>by
   refine Rel.Ip r ?_;split
   ·rename_i e; exact h.armed e
   ·exact h
theorem Rel.Ti {X:bZ}{c:Cx}{σ:S}{s:St I}{F:Fr}(h:Rel X c σ s n F)(ts:List Nat):∃ τ,τ.w=σ.w/\Stp X.M σ τ/\Rel X c τ (Qx.Ti s ts) n F:=by have h1:=Rel.DK (pJ s (Qa ts)) h;obtain ⟨τ,k1,k2,k3,_⟩:=h1.pubs (O:=(Qx.DK s (pJ s (Qa ts))).O) (λ_ _ h=>h) (pJ s (Qa ts));exact ⟨τ,k1,k2,Rel.Ip _ k3⟩
omit [∀ E,Rp (I E)] in
theorem gT' {O:aN I}{l:Nat}{E E':TypeId}{u:Nat}{ys:List (I E)}(h:Od O l E=some (E',u,ys)):O l=some (some (.aP E E' u ys 0)):=by
 unfold Od at h;split at h
 ·rename_i e;obtain ⟨zs,hz,h⟩:=bind_some h;cases h;obtain ⟨e1,e2⟩:=lM hz;subst e1;subst e2;exact e
 ·cases h
theorem aF' (ht:bT P tb){X X':bZ}{cb c'':Cx}{σ τ:S}{sb s':St I}{F0 F':Fr}{O0:aN I}{l m u:Nat}{E E':TypeId}{dead wl:List Nat}{W S:List (Nat×V)}{x:wz I S W E}(hb:Rel X cb σ sb n F0)(hr:Rel X' c'' τ s' n F')(hM:∀ b,X'.M b->X.M b)
 (hcl:∀ l∈wl,c'' l=cb l) (hcl0:c'' l=cb l) (hlv:bH sb l) (xK:l ∉ wl) (st:Stp X'.M σ τ) (hF:∀ i,Nj' m i=false->F' i=F0 i)
 (hkeep:∀ l' p g,bH sb l'->l' ∉ wl->l' ∉ l::dead->cb l'=some p->p.w=some g->¬ X'.M g) (MC:∀ l' i g,l' ∉ wl->l' ∉ l::dead->fw cb σ sb.O l' i g->¬ X'.M g)
 (hcont:∀ τ us,kK τ cb O0 W wl us->kK τ cb sb.O W wl us) (hg:Bt tb O0 S W wl l E E' u s'=some x) (hok:rD sb S W=true) :
 ∃ c4 τ',τ'.w=τ.w/\Cx.le cb c4/\Rel X c4 τ' (zH tb sb m dead S W wl l E E' u x) n F'/\Stp X'.M σ τ':=by
 obtain ⟨x1,hx1,hgA⟩:=bind_some hg;obtain ⟨⟨q1,q2,ys⟩,hq,hgB⟩:=bind_some hgA;obtain ⟨hqq,hgC⟩:=bA hgB;clear hg hgA hgB;simp only [Lc'] at hqq;have e1:=Li' hqq.1;have e2:=Li' hqq.2;subst e1;subst e2;cases hgC;have DN:=gT' hq;obtain ⟨τ',au,us,⟨a1,a2,a3⟩,ls,a4,a5,a6,a7⟩:=aT' ht hr (cb:=cb) hcl hx1;have a3':Facts X'.M τ' cb sb.O F' S W wl x1 au us:=⟨a3.tt,hcont _ _ a3.cont,a3.nodup,a3.own,a3.Tf⟩;obtain ⟨b1,b2,b3,b4,b5⟩:=dG' (m:=m) (dead:=l::dead) ht hb (st.trans a2) hM hF hkeep MC a3' (UA hok x1);have hol:=a7 _ _ DN (λ_ _ e=>by cases e)
 have xJ:bH (aZ s' s'.O ls) l:=⟨_,hol⟩;obtain ⟨A,k,ow,k1,k2⟩:=a4.bB l _ hol;have hN:=a4.aP;have hc4:fI cb sb.nx au l=some ⟨A,k,ys.length,ow⟩:=by obtain ⟨o,ho⟩:=hlv;rw [b5 l (by rw [ho]; simp),<- hcl0,k1]
 have hwho:∀ g,X'.M g->(∀ l',l'∈wl->∀ p,c'' l'=some p->p.w≠some g)->(∀ l2 p,bH (aZ s' s'.O ls) l2->l2≠l->c'' l2=some p->p.w≠some g)->∀ l' p',bH (oF tb sb m (l::dead) S W wl x1) l'->fI cb sb.nx au l'=some p'->p'.w≠some g:=λg hg h1 h2 l' p' hl' hc' hw'=>by
  rcases b4 l' hl' with hw | ⟨_,pl,hp,hpl⟩ | ⟨m1,m2,m3⟩
  ·have hcb:c'' l'=some p':=by
    have hl0:∃ p0,c'' l'=some p0:=by obtain ⟨T,vs,w,ho⟩:=a6 l' hw;exact (hr.bB l' _ ho).place
    obtain ⟨p0,e0⟩:=hl0;have:=b1 l' p0 (by rw [<- hcl l' hw]; exact e0)
    rw [hc'] at this;cases this; exact e0
   exact h1 l' hw p' hcb hw'
  ·rw [hpl] at hc';cases hc';obtain ⟨l2,p2,⟨o2,ho2,hrm⟩,c2,w2⟩:=a5 g (FM.2 ⟨_,hp,hw'⟩);exact h2 l2 p2 ⟨_,ho2⟩ (λe=>by subst e; rw [hol] at ho2; cases ho2; cases hrm) c2 w2
  ·have hcb:cb l'=some p':=by
    obtain ⟨o,ho⟩:=m1;rw [<- b5 l' (by rw [ho]; simp)]; exact hc'
   exact hkeep l' p' g m1 m2 m3 hcb hw' hg
 have Tg:∀ l',l'∈wl->bH (aZ s' s'.O ls) l':=λl' hw=>by obtain ⟨T,vs,w,ho⟩:=a6 l' hw;exact ⟨_,a7 _ _ ho (λ_ _ e=>by cases e)⟩
 refine ⟨_,τ',a1,b1,?_,st.trans a2⟩;refine b2.ED' (pl:=⟨A,k,ys.length,ow⟩) ?_ hc4 ⟨A,k,ow,hc4,k2⟩ (λg hg=>?_) (λi hi=>?_) (λi g v b hi hA hv hb'=>?_) (λi i' g v v' b hi hi' hA hv hv' hb1 hb2=>?_)
 ·intro hl;rcases b4 l hl with hw | ⟨hn0,_⟩ | ⟨m1,m2,m3⟩
  ·exact xK hw
  ·obtain ⟨o,ho⟩:=hlv;rw [hn0] at ho; cases ho
  ·exact m3 (by simp)
 ·have hg:ow=some g:=hg;have jw:X'.M g:=a4.mine l _ g xJ k1 hg;refine ⟨hM _ jw,b3 g jw,hwho g jw (λl' hw p hp hw'=>?_) λl2 p hl2 hne hp hw'=>?_⟩
  ·exact xK (by rw [<- a4.inj l' l p _ g (Tg l' hw) xJ hp k1 hw' hg]; exact hw)
  ·exact hne (a4.inj l2 l p _ g hl2 xJ hp k1 hw' hg)
 ·obtain ⟨v,⟨E1,u1,uo,q3,g,kk,mm,w,z1,z2,z3,z4,z5⟩,z6⟩:=hN.opn l _ _ _ _ 0 hol i hi (by omega)
  rw [hol] at z1;cases z1;rw [k1] at z2;cases z2;exact ⟨g,v,rfl,z5,z6⟩
 ·have hA:A=some ⟨g,0,none⟩:=hA;subst hA;have hin:fw c'' τ' (aZ s' s'.O ls).O l i b:=⟨_,v,⟨_,_,_,0,g,_,_,_,hol,k1,hi,by omega,hv⟩,hb'⟩
  have Bb:=hN.mine l i b hin;refine ⟨hM _ Bb,b3 b Bb,hwho b Bb (λl' hw p hp=>?_) (λl2 p ⟨o,ho⟩ _ hp=>hN.free l i b hin l2 o p ho hp),hN.free l i b hin l _ _ hol k1⟩;obtain ⟨o,ho⟩:=Tg l' hw;exact hN.free l i b hin l' o p ho hp
 ·have hA:A=some ⟨g,0,none⟩:=hA;subst hA;exact (hN.inj l i b l i' ⟨_,v,⟨_,_,_,0,g,_,_,_,hol,k1,hi,by omega,hv⟩,hb1⟩ ⟨_,v',⟨_,_,_,0,g,_,_,_,hol,k1,hi',by omega,hv'⟩,hb2⟩).2
omit [∀ E,Rp (I E)] in
theorem iS' [∀ E,Rp (I E)] {O0:aN I}{W:List (Nat×V)}{wl:List Nat}{sb:St I}{m l u:Nat}{E E':TypeId}{dead:List Nat}{ρ:Type}{k:Ex->St I->Option ρ}{r:ρ}{e:Ex}{s':St I}:∀ {outs:List (Ex×List (Nat×V))} {b:Cj I W E outs},Ff tb O0 W wl l E E' u outs e s'=some b->U0 tb sb m dead W wl l E E' u k outs b=some r ->
 ∃ S,∃ x:wz I S W E,Bt tb O0 S W wl l E E' u s'=some x/\rD sb S W=true/\k e (zH tb sb m dead S W wl l E E' u x)=some r
 | [],_,h,_=>by cases h
 | [o],x,h,h2=>by obtain ⟨he,h3⟩:=bA h;obtain ⟨hn,h4⟩:=bA h2;have:=EM he;subst this;exact ⟨o.2,x,h3,hn,h4⟩
 | o::o'::rs,b,h,h2=>by
   simp only [Ff] at h;cases he:vZ o.1 e with
   | true =>
     rw [he] at h;obtain ⟨x,hx,h⟩:=bind_some h;cases h;have h2':(bif rD sb o.2 W then k o.1 (zH tb sb m dead o.2 W wl l E E' u x) else none)=some r:=h2
     obtain ⟨hn,h2'⟩:=bA h2';have:=EM he;subst this;exact ⟨o.2,x,hx,hn,h2'⟩
   | false =>rw [he] at h;obtain ⟨y,hy,h⟩:=bind_some h;cases h;exact iS' (outs:=o'::rs) (b:=y) hy h2
theorem BK' (ht:bT P tb){N:NH I}{body:nL I}{cd:Code}(hs:vB P n body cd)(hm:kV N.L.m cd=true):vB P n (Ye tb N body) (.loop cd):=by
 intro ρ s k r X c σ F Q hX hx h hk;unfold Ye at hx;obtain ⟨wl,hwl,hx⟩:=bind_some hx;obtain ⟨q,hq,hx⟩:=bind_some hx;obtain ⟨hok,hx⟩:=bA hx;obtain ⟨x0,hx0,hx⟩:=bind_some hx;obtain ⟨bd,hbd,hx⟩:=bind_some hx;obtain ⟨b,hb,hx⟩:=bind_some hx;obtain ⟨σ1,h1,h2,h3,_⟩:=h.pubs (O:=s.O) (λ_ _ h=>h) (pJ s N.L.pub);rw [<- h1];have hwc:=Wl h3 hwl;obtain ⟨l,E',u,xs⟩:=q;have DN:(aZ s s.O (pJ s N.L.pub)).O l=some (some (.aP N.E E' u xs 0)):=by
  unfold jk' at hq;split at hq
  ·obtain ⟨q',hq',hq⟩:=bind_some hq;cases hq;exact gT' hq'
  ·cases hq
 simp only [Lc',MN'] at hok;obtain ⟨hok,xK⟩:=hok;have xK:=oo.1 xK;revert hok hx0 hb hx DN;generalize hs0:aZ s s.O (pJ s N.L.pub)=s0 at *;change Rel X c σ1 s0 n F at h3;generalize Mw:EJ s0 (N.L.head.map (·.1)++rR N.L.outs) wl=dead
 intro hx0 hb hx DN hok;generalize hown:wl++l::dead=own at *;have hin:∀ l'∈wl,l'∈own:=λl' hl'=>by rw [<- hown]; simp [hl']
 have hinl:l∈own:=by rw [<- hown]; simp
 have hnot:∀ l',l' ∉ wl->l' ∉ l::dead->l' ∉ own:=λl' a b=>by rw [<- hown,Lo',not_or]; exact ⟨a,b⟩
 have hE:=enter h3 own;have hro:∀ {l'},l'∈own->dA own c l'=c l':=λhl=>by unfold dA; rw [kE.2 hl]; rfl
 have Tj:∀ {c1:Cx},Cx.le (dA own c) c1->∀ l'∈own,(∃ p,c l'=some p)->c1 l'=dA own c l':=λhle l' hl ⟨p,hp⟩=>by have:dA own c l'=some p:=(hro hl).trans hp;rw [hle l' p this,this]
 have hpl:∃ p,c l=some p:=(h3.bB l _ DN).place;have hlv:bH s0 l:=⟨_,DN⟩;have hlr:bH (mW own s0) l:=⟨_,by show iO own s0.O l=_; unfold iO; rw [kE.2 hinl]; exact DN⟩
 have Zc:∀ {τ:S} {W:List (Nat×V)} {jV:List Nat} {us:List Value},(∀ l∈jV,l∈wl)->kK τ (dA own c) s0.O W jV us->kK τ (dA own c) (iO own s0.O) W jV us:=by
  intro τ W
  induction W with
  | nil =>intro jV us _ hc;cases jV<;>exact hc
  | cons w r ih =>
    intro jV us hw hc;cases jV with
    | nil=>exact hc
    | cons l ls =>
      obtain ⟨u,mE,b,T,vs,w',cs,e1,e2,e3,e4,e5,e6,e7⟩:=hc;refine ⟨u,mE,b,T,vs,w',cs,e1,?_,e3,e4,e5,e6,ih (λl' hl'=>hw l' (by simp [hl'])) e7⟩
      unfold iO;rw [kE.2 (hin l (hw l (by simp)))]
      exact e2
 have Ba:∀ (c1:Cx) (τ:S) (s':St I) (F1:Fr) (x:wz I N.L.head N.L.W N.E),Cx.le (dA own c) c1->Rel (eX X c σ1 s0 own) c1 τ s' n F1->Stp (eX X c σ1 s0 own).M σ1 τ->(∀ i,gX cd i=false->F1 i=F i)->Bt tb s0.O N.L.head N.L.W wl l N.E E' u s'=some x ->
  ∃ c4 τ',τ'.w=τ.w/\Cx.le (dA own c) c4/\Rel (eX X c σ1 s0 own) c4 τ' (zH tb (mW own s0) N.L.m dead N.L.head N.L.W wl l N.E E' u x) n F1/\Stp (eX X c σ1 s0 own).M σ1 τ':=by
  intro c1 τ s' F1 x hle hr st hF hg;refine aF' ht hE hr (λ_ h=>h) (λl' hl'=>Tj hle l' (hin l' hl') (hwc l' hl')) (Tj hle l hinl hpl) hlr xK st (λi hi=>hF i (sV hm hi)) (λl' p g _ hnw hnd hc hw=>?_) (λl' i g hnw hnd hb=>absurd (X9 hb) (hnot l' hnw hnd)) (λτ us hc=>Zc (λ_ h=>h) hc) hg hok;exfalso;unfold dA at hc;rw [oo.2 (hnot l' hnw hnd)] at hc;simp only [cond_false,Mx'] at hc;obtain ⟨q,_,e⟩:=hc;rw [<- e] at hw;cases hw
 let Inv:wz I N.L.head N.L.W N.E->Act->World->Prop:=λx a w=>∃ c1 τ F1,a=fr n F1/\w=τ.w/\Cx.le (dA own c) c1/\Rel (eX X c σ1 s0 own) c1 τ (zH tb (mW own s0) N.L.m dead N.L.head N.L.W wl l N.E E' u x) n F1 /\
  Stp (eX X c σ1 s0 own).M σ1 τ/\∀ i,gX cd i=false->F1 i=F i
 let Post:Cj I N.L.W N.E N.L.outs->Exit->Act->World->Prop:=λb e a w=>∃ e' s' c1 τ F1,e=jM e'/\jM e'≠.normal/\a=fr n F1/\w=τ.w/\Ff tb s0.O N.L.W wl l N.E E' u N.L.outs e' s'=some b/\Cx.le (dA own c) c1 /\
  Rel (eX X c σ1 s0 own) c1 τ s' n F1/\Stp (eX X c σ1 s0 own).M σ1 τ/\∀ i,gX cd i=false->F1 i=F i
 obtain ⟨c4,σ2,i1,i2,i3,i4⟩:=Ba _ σ1 _ F x0 (Cx.le_refl _) hE (Stp.refl _ _) (λ_ _=>rfl) hx0;have hinv:Inv x0 (fr n F) σ1.w:=⟨c4,σ2,F,rfl,i1.symm,i2,i3,i4,λ_ _=>rfl⟩;refine wp_mono (J4 (P:=P) Inv Post (λb a w ⟨e',s',c1,τ,F1,e1,e2,_⟩=>e2 e1.symm) (λx fl a w hst hI=>?_) bd x0 b (fr n F) σ1.w hb hinv) λe a w hp=>?_
 ·obtain ⟨c1,τ,F1,rfl,rfl,j1,j2,j3,j4⟩:=hI;refine hs _ _ _ fl (eX X c σ1 s0 own) c1 τ F1 _ hX hst j2 λe s' c2 υ F2 hkk hle hr st hF=>?_;have hle2:=Cx.le_trans j1 hle;have st2:=j3.trans st;have hF2:∀ i,gX cd i=false->F2 i=F i:=λi hi=>(hF i hi).trans (j4 i hi);have hdone:∀ e',e'=e->jM e'≠.normal->(Ff tb s0.O N.L.W wl l N.E E' u N.L.outs e' s').bind (λb=>some (Fl.done b))=some fl->∃ b',fl=.done b'/\Post b' (jM e') (fr n F2) υ.w:=λe' he hne hi=>by obtain ⟨b',hb',hi⟩:=bind_some hi;cases hi;exact ⟨b',rfl,e',s',c2,υ,F2,rfl,hne,rfl,rfl,hb',hle2,hr,st2,hF2⟩
  cases e with
  | normal =>obtain ⟨x',hx',hkk⟩:=bind_some hkk;cases hkk;obtain ⟨c5,υ',m1,m2,m3,m4⟩:=Ba c2 υ s' F2 x' hle2 hr st2 hF2 hx';exact ⟨rfl,c5,υ',F2,rfl,m1.symm,m2,m3,m4,hF2⟩
  | exit i=>obtain ⟨b',rfl,hp⟩:=hdone (.exit i) rfl (by simp [jM]) hkk; exact hp
  | ret=>obtain ⟨b',rfl,hp⟩:=hdone .ret rfl (by simp [jM]) hkk; exact hp
 ·obtain ⟨e',s',c1,τ,F1,rfl,hne,rfl,rfl,hi,hle,hr,st,hF⟩:=hp;obtain ⟨S,x,g1,g2,g3⟩:=iS' hi hx;obtain ⟨c5,τ',k1,k2,k3,k4⟩:=aF' (dead:=dead) (m:=N.L.m) ht h3 hr (uO h3 own) (λl' hl'=>(Tj hle l' (hin l' hl') (hwc l' hl')).trans (hro (hin l' hl'))) ((Tj hle l hinl hpl).trans (hro hinl)) hlv xK st (λi hi=>hF i (sV hm hi))
   (λl' p g hl' hnw hnd hc hw=>yX h3 hl' (hnot l' hnw hnd) hc hw) (λl' i g hnw hnd hb=>RF h3 (hnot l' hnw hnd) hb) (λ_ _ hc=>hc) g1 g2
  rw [<- k1];exact hk e' _ c5 τ' F1 g3 k2 k3 (h2.trans (k4.mono λb _ hb=>uO h3 own b hb)) hF
theorem oG (ht:bT P tb)(hd:lY P aH)(hmx:P.follows .mixedOrders=true):∀ (cd:Code) (p:Nat),kJ H cd p=true->vB P n (nN tb aH H cd p) cd
 | .region id ops dS,p,hc=>by
   simp only [kJ,Lc'] at hc;refine KV ht (λρ s k r X c σ F Q hX hx h hk=>?_) hc.1;have e:ops=ops.toList.toArray:=by simp
   rw [e];obtain ⟨σ1,h1,h2,h3⟩:=h.Ti (H.pre id);rw [<- h1];refine tF' ht hd hX hmx (λEJ'=>?_) hx h3 λs' c' τ F' g1 g2 g3 g4 g5=>hk .normal s' c' τ F' g1 g2 g3 (h2.trans g4) λi hi=>g5 i (by simpa [gX,Vk] using hi)
   have:=hc.2;rw [EJ'] at this;simpa using this
 | .seq a b,p,hc=>by
   simp only [kJ,Lc'] at hc;refine KV ht (λρ s k r X c σ F Q hX hx h hk=>?_) hc.1.1;have hdst:∀ {i},gX (.seq a b) i=false->gX a i=false/\gX b i=false:=λhi=>by simpa [gX] using hi
   refine wp_seq (oG ht hd hmx a (2*p) hc.1.2 ρ s _ r X c σ F _ hX hx h λe s' c' τ F' g1 g2 g3 g4 g5=>?_);cases e with
   | normal=>exact oG ht hd hmx b (2*p+1) hc.2 ρ s' k r X c' τ F' Q hX g1 g3 λe s2 c2 υ F2 m1 m2 m3 m4 m5=>hk e s2 c2 υ F2 m1 (Cx.le_trans g2 m2) m3 (g4.trans m4) λi hi=>(m5 i (hdst hi).2).trans (g5 i (hdst hi).1)
   | exit i=>exact hk (.exit i) s' c' τ F' g1 g2 g3 g4 λi hi=>g5 i (hdst hi).1
   | ret=>exact hk .ret s' c' τ F' g1 g2 g3 g4 λi hi=>g5 i (hdst hi).1
 | .cond t a b,p,hc=>by
   simp only [kJ,Lc'] at hc;refine KV ht (λρ s k r X c σ F Q hX hx h hk=>?_) hc.1.1;have hdst:∀ {i},gX (.cond t a b) i=false->gX a i=false/\gX b i=false:=λhi=>by simpa [gX] using hi
   obtain ⟨q,hq,hx⟩:=bind_some hx;rw [h.len] at hq;obtain ⟨h1,h2⟩:=EK h.frame hq;split at hx
   ·rename_i bb;simp only [RV] at h2;cases bb with
    | true=>exact wp_cond_true ((dx h1).trans h2) (oG ht hd hmx a (2*p) hc.1.2 ρ s k r X c σ F Q hX hx h λe s' c' τ F' g1 g2 g3 g4 g5=>hk e s' c' τ F' g1 g2 g3 g4 λi hi=>g5 i (hdst hi).1)
    | false=>exact wp_cond_false ((dx h1).trans h2) (oG ht hd hmx b (2*p+1) hc.2 ρ s k r X c σ F Q hX hx h λe s' c' τ F' g1 g2 g3 g4 g5=>hk e s' c' τ F' g1 g2 g3 g4 λi hi=>g5 i (hdst hi).2)
   ·cases hx
 | .block id a,p,hc=>by
   simp only [kJ,Lc'] at hc;refine KV ht (λρ s k r X c σ F Q hX hx h hk=>?_) hc.1;refine wp_block (oG ht hd hmx a (2*p) hc.2 ρ s _ r X c σ F _ hX hx h λe s' c' τ F' g1 g2 g3 g4 g5=>?_);cases e with
   | normal=>exact hk .normal s' c' τ F' g1 g2 g3 g4 g5
   | exit j =>
     show (if j=id then Q .normal (fr n F') τ.w else Q (.exit j) (fr n F') τ.w)
     cases hb:Lm' j id with
     | true =>
       have g1':(bif Lm' j id then k .normal s' else k (.exit j) s')=some r:=g1
       rw [hb] at g1';rw [if_pos (Li' hb)];exact hk .normal s' c' τ F' g1' g2 g3 g4 g5
     | false =>
       have g1':(bif Lm' j id then k .normal s' else k (.exit j) s')=some r:=g1
       rw [hb] at g1';rw [if_neg (λe=>by subst e; simp at hb)]
       exact hk (.exit j) s' c' τ F' g1' g2 g3 g4 g5
   | ret=>exact hk .ret s' c' τ F' g1 g2 g3 g4 g5
 | .loop a,p,hc=>by
   simp only [kJ,Lc'] at hc;refine KV ht (λρ s k r X c σ F Q hX hx h hk=>?_) hc.1;split at hx
   ·rename_i L hL;have hm:kV L.m a=true:=by have:=hc.1;simp only [wW,hL,Lc'] at this;exact this.1.1.2
    exact DA' ht (oG ht hd hmx a (2*p) hc.2) hm ρ s k r X c σ F Q hX hx h hk
   ·split at hx
    ·rename_i K hK;have hm:kV K.m a=true:=by have:=hc.1;simp only [wW,hK,Lc'] at this;exact this.1.2
     exact zN' ht (oG ht hd hmx a (2*p) hc.2) hm ρ s k r X c σ F Q hX hx h hk
    ·split at hx
     ·rename_i N hN;have hm:kV N.L.m a=true:=by have:=hc.1;simp only [wW,hN,Lc'] at this;exact this.2
      exact BK' ht (oG ht hd hmx a (2*p) hc.2) hm ρ s k r X c σ F Q hX hx h hk
     ·exact BI' (oG ht hd hmx a (2*p) hc.2) _ ρ s k r X c σ F Q hX hx h hk
 | .exit i,_,_=>λρ s k r X c σ F Q hX hx h hk=>wp_exit (hk (.exit i) s c σ F hx (Cx.le_refl c) h (Stp.refl _ _) λ_ _=>rfl)
 | .ret,_,_=>λρ s k r X c σ F Q hX hx h hk=>wp_ret (hk .ret s c σ F hx (Cx.le_refl c) h (Stp.refl _ _) λ_ _=>rfl)
 | .skip,_,_=>λρ s k r X c σ F Q hX hx h hk=>wp_skip (hk .normal s c σ F hx (Cx.le_refl c) h (Stp.refl _ _) λ_ _=>rfl)
 | .rangeFunc _ _ _ _,_,_=>λ_ _ _ _ _ _ _ _ _ _ hx=>by cases hx
 | .scope _,_,_=>λ_ _ _ _ _ _ _ _ _ _ hx=>by cases hx
 | .label _,_,_=>λ_ _ _ _ _ _ _ _ _ _ hx=>by cases hx
 | .goto _,_,_=>λ_ _ _ _ _ _ _ _ _ _ hx=>by cases hx
 | .refuse _,_,_=>λ_ _ _ _ _ _ _ _ _ _ hx=>by cases hx
end
inductive Pk where
 | d (k:Kd)
 | var (T:TypeId) (v:V) (w:Bool)
 | row (E:TypeId) (fl:Bool)
 | fn (ks:List Kd) (rs:List V)
 | ji (E:TypeId)
 | val (v:V)
 | lq (ks:List K)
section
variable (I:TypeId->Type)
abbrev Xv:Pk->Type
 | .d k=>Ty I k
 | .var _ v _=>mY I v
 | .row E _=>List (I E)
 | .fn ks rs=>vG I ks (fO I rs)
 | .ji E=>List (I E)
 | .val v=>mY I v
 | .lq ks=>jR I ks
abbrev iZ:List Pk->Type
 | []=>Unit
 | p::r=>Xv I p×iZ r
abbrev LW:List Pk->Type->Type
 | [],R=>Option R
 | p::r,R=>Xv I p->LW r R
end
def bK:List Pk->List V
 | []=>[]
 | .var _ v true::r=>v::bK r
 | _::r=>bK r
section
variable {I:TypeId->Type}
def vD {R:Type}:(ps:List Pk)->LW I ps R->iZ I ps->Option R
 | [],g,_=>g
 | _::r,g,q=>vD r (g q.1) q.2
def yT {R:Type}:(ps:List Pk)->(iZ I ps->Option R)->LW I ps R
 | [],g=>g ()
 | _::r,g=>λx=>yT r λq=>g (x,q)
theorem Rj {R:Type}:∀ (ps:List Pk) (g:iZ I ps->Option R) (q:iZ I ps),vD ps (yT ps g) q=g q
 | [],_,_=>rfl
 | _::r,g,q=>Rj r (λq'=>g (q.1,q')) q.2
structure Row (I:TypeId->Type) where
 f:FuncId
 ps:List Pk
 rs:List V
 run:LW I ps (fO I (rs++bK ps))
variable [∀ E,Rp (I E)]
def EI (v:V)(cs:List Value)(u:Value):Prop:=bif pQ v then u=.agg cs.toArray else cs=[u]
def yp' (P:Program)(M:Nat->Prop)(σ:S):(p:Pk)->Xv I p->Value->List Pl->Prop
 | .d k,x,v,au=>DV σ k x v/\au=[]
 | .var T vk w,x,v,au=>∃ b cs u p2,v=.pointer (some ⟨b,0,none⟩)/\σ.w.heap[b]?=some (.cells cs.toArray T (0,0))/\EI vk cs u/\TV σ vk x u p2/\(w=true->(σ.L b).1=0)/\(w=false->¬ M b) /\
    au=⟨some ⟨b,0,none⟩,0,0,bif w then some b else none⟩::p2
 | .row E fl,xs,v,au=>∃ A k ow,v=.slice A (xs:List (I E)).length k/\fD ow fl E σ (xs:List (I E)) A k/\au=[⟨A,k,(xs:List (I E)).length,ow⟩]
 | .fn ks rs,g,v,au=>∃ f KX' cs,v=.func (.func f) (MF' KX') (MF' cs)/\U6 P M σ f KX' cs ks rs g/\au=[]
 | .ji E,xs,v,au=>∃ A k,v=.slice A (xs:List (I E)).length k/\jP M σ (xs:List (I E)) A/\au=[⟨A,k,(xs:List (I E)).length,none⟩]
 | .val vk,x,v,au=>TV σ vk x v au
 | .lq ks,x,v,au=>Ao ks=true/\∃ cs,v=.agg cs.toArray/\xV M σ ks x cs au
def rX (P:Program)(M:Nat->Prop)(σ:S):(ps:List Pk)->iZ I ps->List Value->List Pl->Prop
 | [],_,vs,au=>vs=[]/\au=[]
 | p::r,q,vs,au=>∃ v vs' p1 p2,vs=v::vs'/\au=p1++p2/\yp' P M σ p q.1 v p1/\rX P M σ r q.2 vs' p2
def JG (τ:S):List Pk->List Value->List Value->Prop
 | [],[],us=>us=[]
 | .var T v true::r,u0::vs,us=>∃ b cs u mE,u0=.pointer (some ⟨b,0,none⟩)/\us=u::mE/\τ.w.heap[b]?=some (.cells cs.toArray T (0,0))/\(τ.L b).1=0/\EI v cs u/\JG τ r vs mE
 | _::r,_::vs,us=>JG τ r vs us
 | _,_,_=>False
def gG:List Pk->List Value->List Nat
 | .var _ _ true::r,.pointer (some ⟨b,_,_⟩)::vs=>b::gG r vs
 | _::r,_::vs=>gG r vs
 | _,_=>[]
structure Post (σ τ:S)(ps:List Pk)(rs:List V)(vs:List Value)(res:fO I (rs++bK ps))(gr:List Nat)(v:Value)(ws us:List Value)(au:List Pl):Prop where
 ret:v=jU ws
 len:ws.length=rs.length
 tt:TT τ (rs++bK ps) res (ws++us) au
 out:JG τ ps vs us
 nodup:(ows au).Nodup
 own:∀ g∈ows au,(σ.N<=g\/g∈gr)/\g ∉ gG ps vs
def bJ (P:Program)(r:Row I):Prop:=∀ (σ:S) (a:iZ I r.ps) (vs:List Value) (au:List Pl) (res:fO I (r.rs++bK r.ps)),
 rX P (λb=>σ.N<=b\/b∈ows au) σ r.ps a vs au->(ows au).Nodup->vD r.ps r.run a=some res ->
  kX P r.f vs σ (Stp (λb=>b∈ows au) σ) λv τ=>∃ ws us ic,Post σ τ r.ps r.rs vs res (ows au) v ws us ic
def zY (P:Program)(r:Row I)(C:World->List Value->Prop):Prop:=∀ (σ:S) (a:iZ I r.ps) (vs:List Value) (au:List Pl) (res:fO I (r.rs++bK r.ps)),
 rX P (λb=>σ.N<=b\/b∈ows au) σ r.ps a vs au->C σ.w vs->(ows au).Nodup->vD r.ps r.run a=some res ->
  kX P r.f vs σ (Stp (λb=>b∈ows au) σ) λv τ=>∃ ws us ic,Post σ τ r.ps r.rs vs res (ows au) v ws us ic
def gK (tb:aX I):Nat->(ps:List Pk)->iZ I ps->List (PV I)
 | _,[],_=>[]
 | nb,.d k::r,q=>oC tb k q.1::gK tb nb r q.2
 | nb,.var _ v _::r,q=>.ptr nb 0::gK tb (nb+1+kC v) r q.2
 | nb,.row _ _::r,q=>.vw nb::gK tb (nb+1) r q.2
 | nb,.fn ks rs::r,q=>.fn ks rs q.1::gK tb nb r q.2
 | nb,.ji _::r,q=>.vw nb::gK tb (nb+1) r q.2
 | nb,.val v::r,q=>nM tb nb v q.1::gK tb (nb+kC v) r q.2
 | nb,.lq ks::r,q=>.agg (qo tb nb ks q.1)::gK tb (nb+nP ks) r q.2
def wS (tb:aX I):Nat->(ps:List Pk)->iZ I ps->aN I->aN I
 | _,[],_,O=>O
 | nb,.d _::r,q,O=>wS tb nb r q.2 O
 | nb,.var T v w::r,q,O=>wS tb (nb+1+kC v) r q.2 (cB (fo O (nb+1) (lX v q.1)) nb (some (.var T (rU v (nM tb (nb+1) v q.1)) w)))
 | nb,.row E fl::r,q,O=>wS tb (nb+1) r q.2 (cB O nb (some (.row E q.1 fl)))
 | nb,.fn _ _::r,q,O=>wS tb nb r q.2 O
 | nb,.ji E::r,q,O=>wS tb (nb+1) r q.2 (cB O nb (some (.bo E q.1)))
 | nb,.val v::r,q,O=>wS tb (nb+kC v) r q.2 (fo O nb (lX v q.1))
 | nb,.lq ks::r,q,O=>wS tb (nb+nP ks) r q.2 (fo O nb (Al ks q.1))
def Ae:List Pk->Nat
 | []=>0
 | .d _::r=>Ae r
 | .var _ v _::r=>1+kC v+Ae r
 | .row _ _::r=>1+Ae r
 | .fn _ _::r=>Ae r
 | .ji _::r=>1+Ae r
 | .val v::r=>kC v+Ae r
 | .lq ks::r=>nP ks+Ae r
def pG (tb:aX I)(s:St I):List ResultVar->Option (List (PV I))
 | []=>some []
 | .tmp t::r=>bif LF' t s.n then (s.F t).bind λp=>(pG tb s r).bind λps=>some (p::ps) else none
 | .cell t T::r=>bif LF' t s.n then (match s.F t with
   | some (.ptr l 0)=>match s.O l with
     | some (some (.var _ ls _))=>(qE tb T ls 0).bind λp=>(pG tb s r).bind λps=>some (p::ps)
     | _=>none
   | _=>none) else none
def jF (s:St I):Nat->List Pk->Option (List (PV I))
 | _,[]=>some []
 | nb,.var T v true::r=>match s.O nb with
   | some (some (.var T' ls true))=>bif Lm' T T' then (EN v ls).bind λp=>(jF s (nb+1+kC v) r).bind λps=>some (p::ps) else none
   | _=>none
 | nb,.var _ v false::r=>jF s (nb+1+kC v) r
 | nb,.row _ _::r=>jF s (nb+1) r
 | nb,.d _::r=>jF s nb r
 | nb,.fn _ _::r=>jF s nb r
 | nb,.ji _::r=>jF s (nb+1) r
 | nb,.val v::r=>jF s (nb+kC v) r
 | nb,.lq ks::r=>jF s (nb+nP ks) r
def rG:Nat->List Pk->List Nat
 | _,[]=>[]
 | nb,.var _ v true::r=>nb::rG (nb+1+kC v) r
 | nb,.var _ v false::r=>rG (nb+1+kC v) r
 | nb,.row _ _::r=>rG (nb+1) r
 | nb,.d _::r=>rG nb r
 | nb,.fn _ _::r=>rG nb r
 | nb,.ji _::r=>rG (nb+1) r
 | nb,.val v::r=>rG (nb+kC v) r
 | nb,.lq ks::r=>rG (nb+nP ks) r
def gJ (tb:aX I)(ps:List Pk)(rs:List V)(results:List ResultVar):Ex->St I->Option (fO I (rs++bK ps)):=λe s=>match e with
 | .exit _=>none
 | _=>(pG tb s results).bind λa=>(jF s 0 ps).bind λb=>(jC tb s.O (rs++bK ps) (a++b)).bind λx=>bif wh (x.2.1++rG 0 ps) x.2.2&&Lm' a.length rs.length then some x.1 else none
def rz (tb:aX I)(nt:Nat)(ps:List Pk)(a:iZ I ps):St I:=⟨nt,λi=>(gK tb 0 ps a)[i]?,wS tb 0 ps a (λ_=>none),Ae ps⟩
def bJ' (tb:aX I)(aH:fQ I)(H:Hints I)(cd:Code)(nt:Nat)(ps:List Pk)(rs:List V)(results:List ResultVar)(a:iZ I ps):Option (fO I (rs++bK ps)) :=
 nN tb aH H cd 1 (fO I (rs++bK ps)) (rz tb nt ps a) (gJ tb ps rs results)
variable {P:Program}{tb:aX I}{X:bZ}{c c':Cx}{σ τ:S}{n:Nat}{F:Fr}
theorem uo' (ht:bT P tb){v:V}{x:mY I v}{cs:List Value}{u:Value}{au:List Pl}{nb:Nat}(hc:EI v cs u)(h:TV σ v x u au)(hn:nO c nb au):RG X c σ (rU v (nM tb nb v x)) cs:=by
 have hv:=(G6 (X:=X) (nb:=nb) ht h hn).1;unfold rU;unfold EI at hc;cases ha:pQ v with
 | true =>
   rw [ha] at hc;simp only [cond_true] at hc ⊢;rcases SH (tb:=tb) (nb:=nb) (x:=x) ha with ⟨ls,e⟩ | ⟨E',y',e⟩
   ·rw [e] at hv ⊢;simp only [RV] at hv;obtain ⟨cs',q1,q2⟩:=hv;rw [hc] at q1;have:cs=cs':=by
     injection q1 with q1
     have:=congrArg Array.toList q1;simpa using this
    rw [this]; exact q2
   ·rw [e] at hv ⊢;simp only [RV] at hv;obtain ⟨cs',q1,q2⟩:=hv;rw [hc] at q1;have:cs=cs':=by
     injection q1 with q1
     have:=congrArg Array.toList q1;simpa using this
    rw [this]; exact RG.one q2
 | false =>rw [ha] at hc;simp only [cond_false] at hc ⊢;subst hc;exact RG.single (Rl ha) hv
theorem fa' {v:V}{ls:List (PV I)}{p:PV I}{cs:List Value}(h:EN v ls=some p)(hl:RG X c σ ls cs):∃ u,RV X c σ p u/\EI v cs u:=by
 unfold EN at h;unfold EI;cases ha:pQ v with
 | true =>rw [ha] at h;cases h;exact ⟨.agg cs.toArray,Cm hl,rfl⟩
 | false =>
   rw [ha] at h;simp only [cond_false] at h;split at h
   ·rename_i p0;cases hd0:qD p0 with
    | true=>rw [hd0] at h; cases h
    | false =>
      rw [hd0] at h;cases h;simp only [RG] at hl;obtain ⟨a,r',rfl,hv,rfl⟩:=hl;rcases hv with hv | ⟨_,v,rfl,hv⟩
      ·exact (by cases p<;>first | exact hv.elim | cases hd0)
      ·exact ⟨v,hv,rfl⟩
   ·cases h
def mo (O:aN I):Prop:=∀ l E E' u xs q,O l≠some (some (.aP E E' u xs q))
omit [∀ E,Rp (I E)] in
theorem mo.set {O:aN I}{l:Nat}{o:Option (Ob I)}(h:mo O)(hn:rC o=true:=by rfl):mo (cB O l o):=λl' E E' u xs q e=>by
 rcases dM e with ⟨_,e'⟩ | ⟨_,h2⟩
 ·exact absurd e'.symm (Dw hn)
 ·exact h _ _ _ _ _ _ h2
theorem mo.eD {s:St I}{c:Cx}{g:Nat}(h:mo s.O):eD c σ s g:=λ_ _ ⟨_,_,⟨_,_,_,_,_,_,_,_,k1,_⟩,_⟩=>h _ _ _ _ _ _ k1
theorem mo.DR {O:aN I}{c:Cx}(h:mo O):iE X c σ O :=
 have hb:∀ {l i b},¬ fw c σ O l i b:=λ⟨_,_,⟨_,_,_,_,_,_,_,_,k1,_⟩,_⟩=>h _ _ _ _ _ _ k1
 ⟨λ_ _ _ _ _ _ e=>absurd e (h _ _ _ _ _ _),λ_ _ _ k=>absurd k hb,λ_ _ _ k=>absurd k hb,λ_ _ _ _ _ k=>absurd k hb⟩
theorem yc (ht:bT P tb){M:Nat->Prop}(hM:∀ b,X.M b->M b)(hX:X.P=P):∀ {ps:List Pk} {a:iZ I ps} {vs:List Value} {au:List Pl} {nb:Nat} {c:Cx} {s:St I} {done:List Nat},rX P M σ ps a vs au->Rel X c σ s n F->(∀ l,nb<=l->s.O l=none) ->
 (∀ l p g,bH s l->c l=some p->p.w=some g->g∈done)->(done++ows au).Nodup->(∀ g∈ows au,X.M g)->mo s.O ->
 ∃ c',Cx.le c c'/\Rel X c' σ ⟨s.n,s.F,wS tb nb ps a s.O,s.nx⟩ n F/\aB X c' σ (gK tb nb ps a) vs
 | [],_,vs,au,nb,c,s,done,⟨h1,h2⟩,hr,_,_,_,_,_=>⟨c,Cx.le_refl c,hr,by subst h1; simp only [gK,aB]⟩
 | .d k::r,q,vs,au,nb,c,s,done,⟨v,vs',p1,p2,e1,e2,⟨h1,e3⟩,h2⟩,hr,hfr,hdn,hnd,jw,hq=>by subst e3;rw [Mj'] at e2;subst e2;obtain ⟨c',k1,k2,k3⟩:=yc ht hM hX h2 hr hfr hdn hnd jw hq;refine ⟨c',k1,k2,?_⟩;simp only [gK,aB];exact ⟨v,vs',e1,CZ ht h1,k3⟩
 | .fn ks rs::r,q,vs,au,nb,c,s,done,⟨v,vs',p1,p2,e1,e2,⟨f,KX',cs,e4,h1,e3⟩,h2⟩,hr,hfr,hdn,hnd,jw,hq=>by subst e3;rw [Mj'] at e2;subst e2;obtain ⟨c',k1,k2,k3⟩:=yc ht hM hX h2 hr hfr hdn hnd jw hq;refine ⟨c',k1,k2,?_⟩;simp only [gK,aB,RV];exact ⟨v,vs',e1,⟨f,KX',cs,e4,by rw [hX]; exact h1.1,h1.2.1,λτ hτ=>by rw [hX]; exact h1.2.2 τ (hτ.mono λb _ hb=>hM b hb)⟩,k3⟩
 | .ji E::r,q,vs,au,nb,c,s,done,⟨v,vs',p1,p2,e1,e2,⟨A,k,e4,h1,e3⟩,h2⟩,hr,hfr,hdn,hnd,jw,hq=>by
   subst e3;subst e2;have hnb:=hfr nb (Lg' _);have hcn:c nb=none:=hr.jh nb hnb;obtain ⟨a1,a2⟩:=hr.add (l:=nb) (o:=.bo E q.1) (p:=⟨A,k,List.length q.1,none⟩) hnb (λg hg=>by cases hg) ⟨A,k,iw _ _ _,h1.sub λb _=>hM b⟩
   obtain ⟨c',k1,k2,k3⟩:=yc (nb:=nb+1) (s:=bG s nb (some (.bo E q.1))) (done:=done) ht hM hX h2 a2 (λl hl=>by
    have:(bG s nb (some (Ob.bo E q.1))).O l=s.O l:=fq (by omega)
    rw [this]; exact hfr l (by omega)) (λl p g ⟨o,ho⟩ hc hw=>by
    rcases dM ho with ⟨e,_⟩ | ⟨e,ho'⟩
    ·subst e;rw [iw] at hc;cases hc;cases hw
    ·simp only [fP,if_neg e] at hc;exact hdn l p g ⟨o,ho'⟩ hc hw) (by rw [jL] at hnd; exact hnd) (λg hg=>jw g (by rw [jL]; simp [hg])) hq.set
   refine ⟨c',Cx.le_trans a1 k1,k2,?_⟩;simp only [gK,aB,RV];exact ⟨v,vs',e1,⟨_,k1 _ _ (iw _ _ _),e4⟩,k3⟩
 | .row E fl::r,q,vs,au,nb,c,s,done,⟨v,vs',p1,p2,e1,e2,⟨A,k,ow,e4,h1,e3⟩,h2⟩,hr,hfr,hdn,hnd,jw,hq=>by
   subst e3;subst e2;have hnb:=hfr nb (Lg' _);obtain ⟨a1,a2⟩:=hr.newRow (nb:=nb) (E:=E) (xs:=q.1) (fl:=fl) hnb h1 λg hg=>⟨jw g (by simp [ows,hg]),hq.eD,λl' p' hl hc hw=>by have hd:=hdn l' p' g hl hc hw;rw [Ml'] at hnd;exact hnd.2.2 g hd g (by simp [ows,hg]) rfl⟩
   have hnd':((done++ows [⟨A,k,List.length q.1,ow⟩])++ows p2).Nodup:=by rw [Lt',<- jL]; exact hnd
   obtain ⟨c',k1,k2,k3⟩:=yc (nb:=nb+1) (s:=bG s nb (some (.row E q.1 fl))) (done:=done++ows [⟨A,k,List.length q.1,ow⟩]) ht hM hX h2 a2 (λl hl=>by
    have:(bG s nb (some (Ob.row E q.1 fl))).O l=s.O l:=fq (by omega)
    rw [this]; exact hfr l (by omega)) (λl p g ⟨o,ho⟩ hc hw=>by
    rcases dM ho with ⟨e,_⟩ | ⟨e,ho'⟩
    ·subst e;rw [iw] at hc;cases hc;simp only at hw;subst hw;simp [ows]
    ·simp only [fP,if_neg e] at hc;simp [hdn l p g ⟨o,ho'⟩ hc hw]) hnd' (λg hg=>jw g (by rw [jL]; simp [hg])) hq.set
   refine ⟨c',Cx.le_trans a1 k1,k2,?_⟩;simp only [gK,aB,RV];exact ⟨v,vs',e1,⟨_,k1 _ _ (iw _ _ _),e4⟩,k3⟩
 | .val vk::r,q,vs,au,nb,c,s,done,⟨v,vs',p1,p2,e1,e2,vM,h2⟩,hr,hfr,hdn,hnd,jw,hq=>by
   subst e2;have vM:TV σ vk q.1 v p1:=vM;have gq:=Q5 vM;have hlen:(lX vk q.1).length=kC vk:=by have:=(G6 (X:=X) (c:=fI c nb p1) (tb:=tb) (nb:=nb) ht vM pq).2;rw [gq.1,this]
   have nX:=hnd;rw [jL,Ml'] at nX;have ME:=nX.2.1;rw [Ml'] at ME;have hdr:∀ g∈ows p1,g ∉ done:=λg hg hd=>nX.2.2 g hd g (by simp [hg]) rfl
   obtain ⟨a1,a2⟩:=Rel.addN (nb:=nb) hr (o8.2 λl hl=>hfr l (lH.1 hl).1) gq ME.1 λg hg=>⟨jw g (by rw [jL]; simp [hg]),hq.eD,λl' p' hl hc hw=>hdr g hg (hdn l' p' g hl hc hw)⟩
   have Bc:nO (fI c nb p1) nb p1:=pq;obtain ⟨w1,w2⟩:=G6 (X:=X) (tb:=tb) (nb:=nb) ht vM Bc;obtain ⟨c',k1,k2,k3⟩:=yc (nb:=nb+kC vk) (s:=addN s nb (lX vk q.1)) (done:=done++ows p1) ht hM hX h2 a2 (λl hl=>by
    show fo s.O nb (lX vk q.1) l=none;rw [kY (λhm=>by have:=(lH.1 hm).2; omega)]
    exact hfr l (by omega)) (λl p g ⟨o,ho⟩ hc hw=>by
    by_cases hm:l∈gu nb (lX vk q.1).length
    ·obtain ⟨m1,m2⟩:=lH.1 hm;have hlt:l-nb<p1.length:=by rw [<- gq.1]; omega
     have:=Bc (l-nb) p1[l-nb] (Lb' hlt);rw [show nb+(l-nb)=l from by omega,hc] at this
     cases this;exact Lo'.2 (.inr (FM.2 ⟨_,Lu' _,hw⟩))
    ·have ho':fo s.O nb (lX vk q.1) l=some (some o):=ho;rw [kY hm] at ho';obtain ⟨p0,hp0⟩:=(hr.bB l o ho').place;have:=a1 l p0 hp0;rw [hc] at this;cases this;exact Lo'.2 (.inl (hdn l p g ⟨o,ho'⟩ hp0 hw))) (by rw [Lt',<- jL]; exact hnd) (λg hg=>jw g (by rw [jL]; simp [hg])) (λl E E' u xs q e=>hq _ _ _ _ _ _ (vY gq.not _ _ _ _ _ _ e))
   refine ⟨c',Cx.le_trans a1 k1,k2,?_⟩;simp only [gK,aB];exact ⟨v,vs',e1,w1.grow k1 _ _,k3⟩
 | .lq ks::r,q,vs,au,nb,c,s,done,⟨v,vs',p1,p2,e1,e2,vM,h2⟩,hr,hfr,hdn,hnd,jw,hq=>by
   subst e2;obtain ⟨h0,cs,ev,hlk⟩:=vM;have gq:=cB' (X:=X) hM hlk;have hlen:(Al ks q.1).length=nP ks:=by have:=(Um (X:=X) (c:=fI c nb p1) (tb:=tb) (nb:=nb) ht hlk pq).2;rw [gq.1,this]
   have nX:=hnd;rw [jL,Ml'] at nX;have ME:=nX.2.1;rw [Ml'] at ME;have hdr:∀ g∈ows p1,g ∉ done:=λg hg hd=>nX.2.2 g hd g (by simp [hg]) rfl
   obtain ⟨a1,a2⟩:=Rel.YX (nb:=nb) hr (o8.2 λl hl=>hfr l (lH.1 hl).1) gq ME.1 λg hg=>⟨jw g (by rw [jL]; simp [hg]),hq.eD,λl' p' hl hc hw=>hdr g hg (hdn l' p' g hl hc hw)⟩
   have Bc:nO (fI c nb p1) nb p1:=pq;have w1:RV X (fI c nb p1) σ (.agg (qo tb nb ks q.1)) v:=by simp only [RV];exact ⟨cs,ev,aB.g (Um (X:=X) (tb:=tb) (nb:=nb) ht hlk Bc).1 (UE _ _ h0)⟩
   obtain ⟨c',k1,k2,k3⟩:=yc (nb:=nb+nP ks) (s:=addN s nb (Al ks q.1)) (done:=done++ows p1) ht hM hX h2 a2 (λl hl=>by
    show fo s.O nb (Al ks q.1) l=none;rw [kY (λhm=>by have:=(lH.1 hm).2; omega)]
    exact hfr l (by omega)) (λl p g ⟨o,ho⟩ hc hw=>by
    by_cases hm:l∈gu nb (Al ks q.1).length
    ·obtain ⟨m1,m2⟩:=lH.1 hm;have hlt:l-nb<p1.length:=by rw [<- gq.1]; omega
     have:=Bc (l-nb) p1[l-nb] (Lb' hlt);rw [show nb+(l-nb)=l from by omega,hc] at this
     cases this;exact Lo'.2 (.inr (FM.2 ⟨_,Lu' _,hw⟩))
    ·have ho':fo s.O nb (Al ks q.1) l=some (some o):=ho;rw [kY hm] at ho';obtain ⟨p0,hp0⟩:=(hr.bB l o ho').place;have:=a1 l p0 hp0;rw [hc] at this;cases this;exact Lo'.2 (.inl (hdn l p g ⟨o,ho'⟩ hp0 hw))) (by rw [Lt',<- jL]; exact hnd) (λg hg=>jw g (by rw [jL]; simp [hg])) (λl E E' u xs q e=>hq _ _ _ _ _ _ (vY gq.not _ _ _ _ _ _ e))
   refine ⟨c',Cx.le_trans a1 k1,k2,?_⟩;simp only [gK,aB];exact ⟨v,vs',e1,w1.grow k1 _ _,k3⟩
 | .var T vk w::r,q,vs,au,nb,c,s,done,⟨v,vs',p1,p2,e1,e2,⟨b,cs,u,pr,e4,hh,hcv,vM,hL,hnM,e3⟩,h2⟩,hr,hfr,hdn,hnd,jw,hq=>by
   subst e3;subst e2;have gq:=Q5 vM;have hlen:(lX vk q.1).length=kC vk:=by have:=(G6 (X:=X) (c:=fI c (nb+1) pr) (tb:=tb) (nb:=nb+1) ht vM pq).2;rw [gq.1,this]
   have hpw:ows (⟨some ⟨b,0,none⟩,0,0,bif w then some b else none⟩::pr)=(bif w then [b] else [])++ows pr:=by cases w<;>simp [ows]
   have nX:=hnd;rw [jL,hpw] at nX;have EL':(ows pr).Nodup:=by rw [Ml'] at nX;have:=nX.2.1;rw [Ml'] at this;have:=this.1;rw [Ml'] at this;exact this.2.1
   have hdr:∀ g∈ows pr,g ∉ done:=λg hg hd=>by rw [Ml'] at nX;exact nX.2.2 g hd g (by simp [hg]) rfl
   obtain ⟨a1,a2⟩:=Rel.addN (nb:=nb+1) hr (o8.2 λl hl=>hfr l (by have:=(lH.1 hl).1; omega)) gq EL' λg hg=>⟨jw g (by rw [jL,hpw]; simp [hg]),hq.eD,λl' p' hl hc hw=>hdr g hg (hdn l' p' g hl hc hw)⟩
   have hnb:(addN s (nb+1) (lX vk q.1)).O nb=none:=by
    show fo s.O (nb+1) (lX vk q.1) nb=none;rw [kY (λhm=>by have:=(lH.1 hm).1; omega)]
    exact hfr nb (Lg' _)
   have Bc:nO (fI c (nb+1) pr) (nb+1) pr:=pq;have hcn:fI c (nb+1) pr nb=none:=a2.jh nb hnb;have hle3:Cx.le (fI c (nb+1) pr) (fP (fI c (nb+1) pr) nb ⟨some ⟨b,0,none⟩,0,0,bif w then some b else none⟩):=F5 hcn
   have lq':∀ l p g,bH (addN s (nb+1) (lX vk q.1)) l->fI c (nb+1) pr l=some p->p.w=some g->g∈done\/g∈ows pr:=λl p g ⟨o,ho⟩ hc hw=>by
    by_cases hm:l∈gu (nb+1) (lX vk q.1).length
    ·obtain ⟨m1,m2⟩:=lH.1 hm;have hlt:l-(nb+1)<pr.length:=by rw [<- gq.1]; omega
     have:=Bc (l-(nb+1)) pr[l-(nb+1)] (Lb' hlt);rw [show nb+1+(l-(nb+1))=l from by omega,hc] at this
     cases this;exact .inr (FM.2 ⟨_,Lu' _,hw⟩)
    ·have ho':fo s.O (nb+1) (lX vk q.1) l=some (some o):=ho;rw [kY hm] at ho';have hcl:∃ p0,c l=some p0:=by
      have:=hr.bB l o ho';cases o with
      | var T ls w=>obtain ⟨b,cs,k1,_⟩:=this; exact ⟨_,k1⟩
      | row E xs fl=>obtain ⟨A,k,ow,k1,_⟩:=this; exact ⟨_,k1⟩
      | ro E xs=>obtain ⟨A,k,k1,_⟩:=this; exact ⟨_,k1⟩
      | bo E xs=>obtain ⟨A,k,k1,_⟩:=this; exact ⟨_,k1⟩
      | aP E E' u xs q=>obtain ⟨A,k,ow,k1,_⟩:=this; exact ⟨_,k1⟩
      | map T kd m=>obtain ⟨b,k1,_⟩:=this; exact ⟨_,k1⟩
      | gU T kd m=>obtain ⟨b,k1,_⟩:=this; exact ⟨_,k1⟩
     obtain ⟨p0,hp0⟩:=hcl;have:=a1 l p0 hp0;rw [hc] at this;cases this;exact .inl (hdn l p g ⟨o,ho'⟩ hp0 hw)
   obtain ⟨b1,b2⟩:=a2.add (l:=nb) (o:=.var T (rU vk (nM tb (nb+1) vk q.1)) w) (p:=⟨some ⟨b,0,none⟩,0,0,bif w then some b else none⟩) hnb (λg hg=>by
    cases w with
    | false=>cases hg
    | true =>
      cases hg;refine ⟨jw b (by rw [jL,hpw]; simp),mo.eD λl E E' u xs q e=>hq _ _ _ _ _ _ (vY gq.not _ _ _ _ _ _ e),λl' p' hl hc hw=>?_⟩
      rw [Ml'] at nX;rcases lq' l' p' b hl hc hw with hd | hd
      ·exact nX.2.2 b hd b (by simp) rfl
      ·have:=nX.2.1;rw [Ml'] at this;have:=this.1;rw [Ml'] at this;exact this.2.2 b (by simp) b hd rfl)
    ⟨b,cs,iw _ _ _,RG.grow hle3 _ _ (uo' ht hcv vM Bc),hh,hL,λe hb=>hnM e (hM b hb)⟩
   have hnd':((done++((bif w then [b] else [])++ows pr))++ows p2).Nodup:=by rw [Lt']; exact nX
   obtain ⟨c',k1,k2,k3⟩:=yc (nb:=nb+1+kC vk) (s:=bG (addN s (nb+1) (lX vk q.1)) nb (some (.var T (rU vk (nM tb (nb+1) vk q.1)) w))) (done:=done++((bif w then [b] else [])++ows pr)) ht hM hX h2 b2 (λl hl=>by
    have:(bG (addN s (nb+1) (lX vk q.1)) nb (some (Ob.var T (rU vk (nM tb (nb+1) vk q.1)) w))).O l=fo s.O (nb+1) (lX vk q.1) l:=fq (by omega)
    rw [this,kY (λhm=>by have:=(lH.1 hm).2; omega)]
    exact hfr l (by omega)) (λl p g ⟨o,ho⟩ hc hw=>by
    rcases dM ho with ⟨e,_⟩ | ⟨e,ho'⟩
    ·subst e;rw [iw] at hc;cases hc;cases w with
     | false=>cases hw
     | true=>cases hw; simp
    ·simp only [fP,if_neg e] at hc;rcases lq' l p g ⟨o,ho'⟩ hc hw with hd | hd
     ·simp [hd]
     ·simp [hd]) hnd' (λg hg=>jw g (by rw [jL]; simp [hg])) (mo.set λl E E' u xs q e=>hq _ _ _ _ _ _ (vY gq.not _ _ _ _ _ _ e))
   refine ⟨c',Cx.le_trans a1 (Cx.le_trans b1 k1),k2,?_⟩;simp only [gK,aB,RV];exact ⟨v,vs',e1,⟨b,_,k1 _ _ (iw _ _ _),e4⟩,k3⟩
end
section
variable {I:TypeId->Type} [∀ E,Rp (I E)] {P:Program}{tb:aX I}{X:bZ}{c c':Cx}{σ τ:S}{n:Nat}{F:Fr}
omit [∀ E,Rp (I E)] in
theorem ij' {s:St I}{ls:List Nat}{l:Nat}{T:TypeId}{vs:List (PV I)}{w:Bool}(ho:s.O l=some (some (.var T vs w))):(aZ s s.O ls).O l=some (some (.var T vs w)):=by
 show dD s.O (bQ s.O ls) l=_;rw [pU,ho];intro hm;have hp:∀ {ls:List Nat},l∈iK (bQ s.O ls)->∃ E,∃ xs:List (I E),s.O l=some (some (.row E xs false)):=by
  intro ls
  induction ls with
  | nil=>intro h; simp [bQ,iK] at h
  | cons a r ih =>
    intro h;simp only [bQ] at h;split at h
    ·rename_i E xs e;simp only [iK,LJ',Lq'] at h;rcases h with rfl | h
     ·exact ⟨E,xs,e⟩
     ·exact ih h
    ·exact ih h
 obtain ⟨E,xs,e⟩:=hp hm;rw [ho] at e; cases e
theorem rX.len {M:Nat->Prop}:∀ {ps:List Pk} {a:iZ I ps} {vs:List Value} {au:List Pl},rX P M σ ps a vs au->vs.length=ps.length
 | [],_,_,_,⟨h,_⟩=>by rw [h]; rfl
 | _::r,q,_,_,⟨v,vs',p1,p2,e1,e2,h1,h2⟩=>by rw [e1]; simp [rX.len h2]
theorem C8 (ht:bT P tb){s:St I}(h:Rel X c σ s n F):∀ {rl:List ResultVar} {ps:List (PV I)},pG tb s rl=some ps->∃ ws,aB X c σ ps ws/\(rl.mapM (yj (fr n F).tmps)).run P σ.w=.ok ws σ.w
 | [],_,e=>by cases e; exact ⟨[],by simp only [aB],rfl⟩
 | .tmp t::r,_,e=>by
   simp only [pG] at e;obtain ⟨hb,e⟩:=bA e;obtain ⟨p,hp,e⟩:=bind_some e;obtain ⟨ps,hps,e⟩:=bind_some e;cases e;obtain ⟨ws,h1,h2⟩:=C8 ht h hps;rw [h.len] at hb;refine ⟨F t::ws,by simp only [aB]; exact ⟨_,_,rfl,h.frame t p hp,h1⟩,?_⟩
   have e1:(yj (fr n F).tmps (.tmp t)).run P σ.w=.ok (F t) σ.w:=LU (P:=P) (n:=n) (F:=F) (r:=.tmp t) ⟨hb,rfl⟩;simp only [List.mapM_cons,Sem.run_bind,e1,h2,Result.andThen_ok,Sem.run_pure]
 | .cell t T::r,_,e=>by
   simp only [pG] at e;obtain ⟨hb,e⟩:=bA e;rw [h.len] at hb;split at e
   ·rename_i l hl;split at e
    ·rename_i T' ls w' ho;replace e:=bind_some e;obtain ⟨p,hp,e⟩:=e;replace e:=bind_some e;obtain ⟨ps,hps,e⟩:=e;cases e;obtain ⟨ws,h1,h2⟩:=C8 ht h hps;obtain ⟨b,cs,k1,k2,k3,_⟩:=h.bB l _ ho;have hF:=h.frame t _ hl;simp only [RV] at hF;obtain ⟨b',w,h3,h4⟩:=hF;rw [k1] at h3;cases h3;obtain ⟨v,hv,hrun⟩:=Fu (w:=σ.w) ht hp k2 (jE' k3);rw [LM'] at hrun;refine ⟨v::ws,by simp only [aB]; exact ⟨_,_,rfl,hv,h1⟩,?_⟩
     have e1:(yj (fr n F).tmps (.cell t T)).run P σ.w=.ok v σ.w:=LU (P:=P) (n:=n) (F:=F) (r:=.cell t T) ⟨hb,b,h4,hrun⟩;simp only [List.mapM_cons,Sem.run_bind,e1,h2,Result.andThen_ok,Sem.run_pure]
    ·cases e
   ·cases e
theorem KR {fn:Func}{tmps:Array Value}{ws:List Value}{w:World}(h:(fn.results.toList.mapM (yj tmps)).run P w=.ok ws w):(results fn tmps).run P w=.ok (jU ws) w:=by
 rw [Ql];have e:fn.results.mapM (yj tmps)=(do let l <- fn.results.toList.mapM (yj tmps); pure l.toArray):=by rw [Array.mapM_eq_mapM_toList];simp
 rw [e];simp only [Sem.run_bind,h,Result.andThen_ok,Sem.run_pure];congr 1;cases ws with
 | nil=>rfl
 | cons v r =>
   cases r with
   | nil=>simp [jU]
   | cons v' r=>simp [jU]
theorem wH (ht:bT P tb){s:St I}(h:Rel X c σ s n F):∀ {ps:List Pk} {a:iZ I ps} {nb:Nat} {vs:List Value} {qs:List (PV I)},jF s nb ps=some qs->aB X c σ (gK tb nb ps a) vs ->
 ∃ us,aB X c σ qs us/\JG σ ps vs us/\∀ b∈gG ps vs,∃ l p T ls w,s.O l=some (some (.var T ls w))/\c l=some p/\p.w=some b/\l∈rG nb ps
 | [],_,_,vs,_,e,hv=>by cases e;simp only [gK,aB] at hv;subst hv;exact ⟨[],by simp only [aB],rfl,λb hb=>by cases hb⟩
 | .d k::r,q,nb,vs,qs,e,hv=>by simp only [gK,aB] at hv;obtain ⟨v,vs',rfl,_,hv⟩:=hv;obtain ⟨us,h1,h2,h3⟩:=wH ht h (ps:=r) (a:=q.2) e hv;refine ⟨us,h1,h2,?_⟩;intro b hb;exact h3 b (by cases v<;>exact hb)
 | .fn _ _::r,q,nb,vs,qs,e,hv=>by simp only [gK,aB] at hv;obtain ⟨v,vs',rfl,_,hv⟩:=hv;obtain ⟨us,h1,h2,h3⟩:=wH ht h (ps:=r) (a:=q.2) e hv;refine ⟨us,h1,h2,?_⟩;intro b hb;exact h3 b (by cases v<;>exact hb)
 | .row _ _::r,q,nb,vs,qs,e,hv=>by simp only [gK,aB] at hv;obtain ⟨v,vs',rfl,_,hv⟩:=hv;obtain ⟨us,h1,h2,h3⟩:=wH ht h (ps:=r) (a:=q.2) e hv;refine ⟨us,h1,h2,?_⟩;intro b hb;exact h3 b (by cases v<;>exact hb)
 | .ji _::r,q,nb,vs,qs,e,hv=>by simp only [gK,aB] at hv;obtain ⟨v,vs',rfl,_,hv⟩:=hv;obtain ⟨us,h1,h2,h3⟩:=wH ht h (ps:=r) (a:=q.2) e hv;refine ⟨us,h1,h2,?_⟩;intro b hb;exact h3 b (by cases v<;>exact hb)
 | .val _::r,q,nb,vs,qs,e,hv=>by simp only [gK,aB] at hv;obtain ⟨v,vs',rfl,_,hv⟩:=hv;obtain ⟨us,h1,h2,h3⟩:=wH ht h (ps:=r) (a:=q.2) e hv;refine ⟨us,h1,h2,?_⟩;intro b hb;exact h3 b (by cases v<;>exact hb)
 | .lq _::r,q,nb,vs,qs,e,hv=>by simp only [gK,aB] at hv;obtain ⟨v,vs',rfl,_,hv⟩:=hv;obtain ⟨us,h1,h2,h3⟩:=wH ht h (ps:=r) (a:=q.2) e hv;refine ⟨us,h1,h2,?_⟩;intro b hb;exact h3 b (by cases v<;>exact hb)
 | .var T vk false::r,q,nb,vs,qs,e,hv=>by simp only [gK,aB] at hv;obtain ⟨v,vs',rfl,_,hv⟩:=hv;obtain ⟨us,h1,h2,h3⟩:=wH ht h (ps:=r) (a:=q.2) e hv;refine ⟨us,h1,h2,?_⟩;intro b hb;exact h3 b (by cases v<;>exact hb)
 | .var T vk true::r,q,nb,vs,qs,e,hv=>by
   simp only [gK,aB] at hv;obtain ⟨v,vs',rfl,hv1,hv⟩:=hv;simp only [jF] at e;split at e
   ·rename_i T' ls ho;replace e:=bA e;obtain ⟨hT,e⟩:=e;have eT:=Li' hT;subst eT;replace e:=bind_some e;obtain ⟨p,hp,e⟩:=e;replace e:=bind_some e;obtain ⟨ps',hps,e⟩:=e;cases e;obtain ⟨us,h1,h2,h3⟩:=wH ht h (ps:=r) (a:=q.2) hps hv;obtain ⟨b,cs,k1,k2,k3,k4,_⟩:=h.bB nb _ ho;simp only [RV] at hv1;obtain ⟨b',w,h4,rfl⟩:=hv1;rw [k1] at h4;cases h4;obtain ⟨u,hu,hc⟩:=fa' hp k2;refine ⟨u::us,by simp only [aB]; exact ⟨u,us,rfl,hu,h1⟩,⟨b,cs,u,us,rfl,rfl,k3,k4 rfl,hc,h2⟩,λb0 hb=>?_⟩
    have hb':b0∈b::gG r vs':=hb;rcases Lq'.1 hb' with rfl | hb'
    ·exact ⟨nb,_,_,_,_,ho,k1,rfl,List.mem_cons_self⟩
    ·obtain ⟨l,p,T,ls,w,g1,g2,g3,g4⟩:=h3 b0 hb';exact ⟨l,p,T,ls,w,g1,g2,g3,List.mem_cons_of_mem _ g4⟩
   ·cases e
theorem bz' (ht : bT P tb) {r : Row I} {C : World -> List Value -> Prop} {s0 : iZ I r.ps -> St I} {fn : Func} {cd : Code} (nt : Nat) {rl : List ResultVar} (h0 : ∀ (X : bZ) (c : Cx) (σ : S) (a : iZ I r.ps) (vs : List Value) (F : Fr), Rel X c σ (rz tb nt r.ps a) nt F -> aB X c σ (gK tb 0 r.ps a) vs -> (∀ i v, vs[i]? = some v -> F i = v) -> C σ.w vs -> Rel X c σ (s0 a) nt F) (hf : P.funcs[r.f]? = some fn) (hb : fn.body = some cd) (hname : (fn.name == "runtime.NumGoroutine") = false)
 (hn:fn.ntmps=nt) (hres:fn.results.toList=rl) (hle:Mq' r.ps.length nt=true)
 (hspec:∀ (X:bZ) (c:Cx) (σ:S) (F:Fr) (Q:Exit->Act->World->Prop) (a:iZ I r.ps) (res:fO I (r.rs++bK r.ps)),X.P=P->(∃ vs,C σ.w vs)->Rel X c σ (s0 a) nt F->vD r.ps r.run a=some res ->
   (∀ (e:Ex) (s':St I) (c':Cx) (τ:S) (F':Fr),gJ tb r.ps r.rs rl e s'=some res->Cx.le c c'->Rel X c' τ s' nt F'->Stp X.M σ τ->Q (jM e) (fr nt F') τ.w)->cd.wp P Q (fr nt F) σ.w) (hlo:tb.lo=0\/∀ w vs,C w vs->tb.lo<=w.heap.size:=by exact .inl rfl):zY P r C:=by
 intro σ a vs au res hA hC hnd happ
 let X:bZ:=⟨P,σ.N,λb=>b∈ows au⟩
 have hlen:=hA.len;have ze:Rel X (λ_=>none) σ (⟨nt,λ_=>none,λ_=>none,0⟩:St I) nt (gZ vs) :=
  ⟨rfl,(λ_ _ h=>by cases h),(λ_ _ h=>by cases h),(λ_ _ _ _ _ ⟨_,h⟩=>by cases h),(λ_ _ _ ⟨_,h⟩=>by cases h),λ_ _=>rfl,⟨Lg' _,λE=>Lr' (ht.low E) (hlo.elim (λh=>by rw [h]; exact Mb' _) λh=>h _ _ hC)⟩,mo.DR λ_ _ _ _ _ _ h=>by cases h⟩
 obtain ⟨c1,_,i2,i3⟩:=yc (tb:=tb) (X:=X) (nb:=0) (done:=[]) ht (λb hb=>hb) rfl hA ze (λ_ _=>rfl) (λ_ _ _ ⟨_,h⟩=>by cases h) (by simpa using hnd) (λg hg=>.inr hg) (λ_ _ _ _ _ _ h=>by cases h)
 have hrel:Rel X c1 σ (rz tb nt r.ps a) nt (gZ vs):=by
  refine ⟨rfl,λi p hp=>?_,i2.bB,i2.inj,i2.mine,i2.jh,i2.base,i2.aP⟩;obtain ⟨v,hv,hr⟩:=aB.at_ _ _ i3 i p hp;have:gZ vs i=v:=by simp [gZ,Ms',hv]
  rw [this]; exact hr
 have hrel:=h0 X c1 σ a vs (gZ vs) hrel i3 (λi v hv=>by simp [gZ,Ms',hv]) hC
 refine .inl ⟨⟨fn,cd,hf,hb,hname⟩,calls_of_wp hf hb ?_⟩;have hle':=LG' hle;have e:(⟨vs.toArray++Nz' (fn.ntmps-vs.toArray.size) undef,[]⟩:Act)=fr nt (gZ vs):=by
  rw [hn];simp only [fr];congr 1;apply Array.ext
  ·simp; omega
  ·intro i h1 h2;simp only [MX',gZ,Nn'];split
   ·rename_i hi; simp at hi; simp [Ms',Lb' hi]
   ·rename_i hi; simp at hi; simp [Ms',LR' hi]
 rw [e];refine hspec X c1 σ (gZ vs) _ a res rfl ⟨vs,hC⟩ hrel happ λex s' c2 τ F' hfin hle2 hr st=>?_;have key:((pG tb s' rl).bind λa=>(jF s' 0 r.ps).bind λb=>(jC tb s'.O (r.rs++bK r.ps) (a++b)).bind λx=>bif wh (x.2.1++rG 0 r.ps) x.2.2&&Lm' a.length r.rs.length then some x.1 else none)=some res ->
  ∃ v,(results fn (fr nt F').tmps).run P τ.w=.ok v τ.w/\∃ v' τ',Ending.returned v=.returned v'/\τ'.w=τ.w/\Stp (λb=>b∈ows au) σ τ'/\∃ ws us ic,Post σ τ' r.ps r.rs vs res (ows au) v' ws us ic:=by
  intro hfin;obtain ⟨ra,hra,hfin⟩:=bind_some hfin;obtain ⟨rb,hrb,hfin⟩:=bind_some hfin;obtain ⟨y,hy,hfin⟩:=bind_some hfin;obtain ⟨hrows,hfin⟩:=bA hfin;cases hfin;simp only [Lc'] at hrows;obtain ⟨r1,Mx⟩:=Di hrows.1;have r2:∀ l,some l∈y.2.2->l ∉ y.2.1:=λl hl hm=>Mx l hl (LN' _ hm);have hal:=Li' hrows.2;obtain ⟨τ',p1,p2,p3,p4,p5,p6⟩:=hr.pubs (O:=s'.O) (λ_ _ h=>h) y.2.1;obtain ⟨ws,w1,w2⟩:=C8 ht hr hra;have Zd:jF (aZ s' s'.O y.2.1) 0 r.ps=some rb:=by
   have:∀ {ps:List Pk} {nb:Nat} {qs:List (PV I)},jF s' nb ps=some qs->jF (aZ s' s'.O y.2.1) nb ps=some qs:=by
    intro ps
    induction ps with
    | nil=>intro nb qs h; exact h
    | cons p r ih =>
      intro nb qs h;cases p with
      | d k=>exact ih h
      | fn ks rs=>exact ih h
      | row E fl=>exact ih h
      | ji E=>exact ih h
      | val v=>exact ih h
      | lq ks=>exact ih h
      | var T v w =>
        cases w with
        | false=>exact ih h
        | true =>
          simp only [jF] at h ⊢;split at h
          ·rename_i T' ls ho;rw [ij' ho];replace h:=bA h;obtain ⟨hT,h⟩:=h;simp only [hT,cond_true];replace h:=bind_some h;obtain ⟨p,hp,h⟩:=h;replace h:=bind_some h;obtain ⟨ps',hps,h⟩:=h;rw [hp,KY',ih hps];exact h
          ·cases h
   exact this hrb
  have hvs:aB X c2 τ' (gK tb 0 r.ps a) vs:=aB.step (st.trans p2) _ _ (aB.grow hle2 _ _ i3);obtain ⟨us,u1,u2,u3⟩:=wH ht p3 (a:=a) Zd hvs;have MB:=aB.app _ _ _ _ (aB.step p2 _ _ w1) u1;obtain ⟨ic,t1,t2⟩:=F4 ht p4 p5 (ls:=y.2.1) (rows:=y.2.2) hy (λl hl=>hl) (λl hl=>r2 l hl) MB;have hlive:=Sv (ls:=y.2.1) (rows:=y.2.2) hy;have hl3:∀ l,some l∈y.2.2->bH (aZ s' s'.O y.2.1) l:=λl hl=>by obtain ⟨o,ho,_⟩:=hlive l hl;exact ⟨_,(p6 l (r2 l hl)).trans ho⟩
  refine ⟨jU ws,KR (by rw [hres]; exact w2),jU ws,τ',rfl,p1,(st.trans p2).mono λb hb hM=>?_,ws,us,ic,rfl,?_,t1,u2,At.nodup p3 t2 r1 hl3,λg hg=>?_⟩
  ·rcases hM with h | h
   ·have:σ.N<=b:=h;omega
   ·exact h
  ·rw [aB.len _ _ w1,hal]
  ·obtain ⟨l,p,a1,a2,a3⟩:=t2.mem g hg;refine ⟨p3.mine l p g (hl3 l a1) a2 a3,λhm=>?_⟩;obtain ⟨l',p',T,ls,w,ho',hc',hw',hn'⟩:=u3 g hm;have e:=p3.inj l l' p p' g (hl3 l a1) ⟨_,ho'⟩ a2 hc' a3 hw';subst e;exact Mx l a1 (LT' _ hn')
 cases ex with
 | exit i=>cases hfin
 | normal =>obtain ⟨v,h1,v',τ',h2,h3⟩:=key hfin;exact ⟨rfl,v,h1,v',τ',h2,h3⟩
 | ret =>obtain ⟨v,h1,v',τ',h2,h3⟩:=key hfin;exact ⟨rfl,v,h1,v',τ',h2,h3⟩
theorem UZ (ht : bT P tb) {r : Row I} {fn : Func} {cd : Code} (nt : Nat) {rl : List ResultVar} (hf : P.funcs[r.f]? = some fn) (hb : fn.body = some cd) (hname : (fn.name == "runtime.NumGoroutine") = false)
 (hn:fn.ntmps=nt) (hres:fn.results.toList=rl) (hle:Mq' r.ps.length nt=true)
 (hspec:∀ (X:bZ) (c:Cx) (σ:S) (F:Fr) (Q:Exit->Act->World->Prop) (a:iZ I r.ps) (res:fO I (r.rs++bK r.ps)),X.P=P->Rel X c σ (rz tb nt r.ps a) nt F->vD r.ps r.run a=some res ->
   (∀ (e:Ex) (s':St I) (c':Cx) (τ:S) (F':Fr),gJ tb r.ps r.rs rl e s'=some res->Cx.le c c'->Rel X c' τ s' nt F'->Stp X.M σ τ->Q (jM e) (fr nt F') τ.w)->cd.wp P Q (fr nt F) σ.w) (hlo:tb.lo=0:=by rfl):bJ P r:=λσ a vs au res hA hnd happ =>
 bz' (C:=λ_ _=>True) (s0:=rz tb nt r.ps) ht nt (λ_ _ _ _ _ _ h _ _ _=>h) hf hb hname hn hres hle (λX c σ F Q a res hX _=>hspec X c σ F Q a res hX) (.inl hlo) σ a vs au res hA trivial hnd happ
theorem qT' {r:Row I}{C:World->List Value->Prop}(h:bJ P r):zY P r C:=λσ a vs au res hA _=>h σ a vs au res hA
theorem Cr' (ht:bT P tb){aH:fQ I}(hd:lY P aH)(hmx:P.follows .mixedOrders=true){r:Row I}{C:World->List Value->Prop}{s0:iZ I r.ps->St I}{fn:Func}{cd:Code}(nt:Nat){H:Hints I}{rl:List ResultVar}
 (h0 : ∀ (X : bZ) (c : Cx) (σ : S) (a : iZ I r.ps) (vs : List Value) (F : Fr), Rel X c σ (rz tb nt r.ps a) nt F -> aB X c σ (gK tb 0 r.ps a) vs -> (∀ i v, vs[i]? = some v -> F i = v) -> C σ.w vs -> Rel X c σ (s0 a) nt F) (hf : P.funcs[r.f]? = some fn) (hb : fn.body = some cd) (hname : (fn.name == "runtime.NumGoroutine") = false)
 (hn:fn.ntmps=nt) (hres:fn.results.toList=rl) (hle:Mq' r.ps.length nt=true) (hcode:kJ H cd 1=true)
 (hrun:r.run=yT r.ps λa=>nN tb aH H cd 1 (fO I (r.rs++bK r.ps)) (s0 a) (gJ tb r.ps r.rs rl)) (hlo:tb.lo=0\/∀ w vs,C w vs->tb.lo<=w.heap.size:=by exact .inl rfl):zY P r C :=
 bz' ht nt h0 hf hb hname hn hres hle (hlo:=hlo) λX c σ F Q a res hX _ hrel happ hk=>by rw [hrun,Rj] at happ;exact oG ht hd hmx cd 1 hcode _ _ _ res X c σ F Q hX happ hrel λe s' c' τ F' g1 g2 g3 g4 _=>hk e s' c' τ F' g1 g2 g3 g4
theorem rD' (ht : bT P tb) {aH : fQ I} (hd : lY P aH) (hmx : P.follows .mixedOrders = true) {r : Row I} {fn : Func} {cd : Code} (nt : Nat) {H : Hints I} {rl : List ResultVar} (hf : P.funcs[r.f]? = some fn) (hb : fn.body = some cd) (hname : (fn.name == "runtime.NumGoroutine") = false)
 (hn:fn.ntmps=nt) (hres:fn.results.toList=rl) (hle:Mq' r.ps.length nt=true) (hcode:kJ H cd 1=true) (hrun:r.run=yT r.ps (bJ' tb aH H cd nt r.ps r.rs rl)) (hlo:tb.lo=0:=by rfl):bJ P r :=
 UZ ht nt hf hb hname hn hres hle (hlo:=hlo) λX c σ F Q a res hX hrel happ hk=>by rw [hrun,Rj] at happ;exact oG ht hd hmx cd 1 hcode _ _ _ res X c σ F Q hX happ hrel λe s' c' τ F' g1 g2 g3 g4 _=>hk e s' c' τ F' g1 g2 g3 g4
end
end Go.Qx

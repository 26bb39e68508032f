/- Part 1. -/
import Derived.Test.YtmjdpaeioidmeaaGreatDoorK0
section
open Array renaming getElem?_toList->d8F
open Bool renaming and_eq_true->d8p
open Int renaming toNat_natCast->d8M
open List renaming all_append->d9U,all_cons->d9v,all_eq_true->d8q,append_assoc->d8E,drop_eq_getElem_cons->d8S,eq_nil_of_length_eq_zero->d8P,flatMap_cons->d9W,getElem?_append_left->d8H,getElem?_append_right->d8z,getElem?_eq_some_iff->d8o,getElem?_map->d9i,getElem?_take_of_lt->d8K,length_cons->d8v,length_drop->d83,length_map->d8L,length_take->d8G,map_congr_left->d9z,mem_cons->d8A,range->d9L,set_eq_take_append_cons_drop->d9Z,take_append_drop->d88,toArray->d84
open Nat renaming add_assoc->d9j,add_mul->d8W,add_sub_cancel_left->d9a,add_zero->d9h,beq->d8u,eq_of_beq_eq_true->d8s,le_trans->d8C,zero_add->d8Q
namespace Go.Qx
open Go Go.RowKit Go.Sx
section
variable {I:TypeId->Type} [∀ E,Rp (I E)] {P:Program}{tb:Tab I}{X:Cxt}{c c':Cx}{σ τ:S}{s:St I}{n:Nat}{F:Fr}{O:Obs I}
theorem Rel.stepG {G:Nat->Prop}(h:Rel X c σ s n F)(st:Stp G σ τ)(hG:∀ b,G b->X.M b)(hn:∀ l p g,Y7 s l->c l=some p->p.w=some g->¬ G g)(hi:∀ g,G g->notIn c σ s g):Rel X c τ s n F:=by
 have stM:Stp X.M σ τ:=st.mono fun b _ hb=>hG b hb
 exact ⟨h.len,fun i p hp=>RV.step stM p _ (h.frame i p hp),fun l o ho=>(h.objs l o ho).step stM fun p g h1 h2=>st.block g ((h.objs l o ho).lt h1 h2) (hn l p g ⟨o,ho⟩ h1 h2),h.inj,h.mine,h.nom,⟨d8C h.base.1 st.wext.size,h.base.2⟩,h.nst.step st (fun l E E' u xs q g k m w e hc hx hg=>hn l _ g ⟨_,e⟩ hc ((h.objs l _ e).nstW hc hx) hg) fun l i b hb hg=>hi b hg l i hb⟩
theorem notIn.step {G:Nat->Prop}{g:Nat}(k:notIn c σ s g)(h:Rel X c σ s n F)(st:Stp G σ τ)(hn:∀ l p g,Y7 s l->c l=some p->p.w=some g->¬ G g)(hi:∀ g,G g->notIn c σ s g):notIn c τ s g :=
 fun l i hb=>k l i ((h.nst.both st (fun l E E' u xs q g k m w e hc hx hg=>hn l _ g ⟨_,e⟩ hc ((h.objs l _ e).nstW hc hx) hg) fun l i b hb hg=>hi b hg l i hb).2 l i g hb)
theorem Rel.freshN {g:Nat}(h:Rel X c σ s n F)(st:Stp NoB σ τ)(hg:σ.N<=g):notIn c τ s g:=(h.fresh hg).step h st (fun _ _ _ _ _ _ h=>h) fun _ h=>h.elim
omit [∀ E,Rp (I E)] in
theorem d1V {l:Nat}{o:Option (Ob I)}(h:s.O l=some o):Y5 s l o=s:=by
 have:upF s.O l o=s.O:=by
  funext i
  by_cases e:i=l
  ·subst e; rw [J3,h]
  ·rw [J2 e]
 simp only [Y5,this]
theorem Rel.settle (h:Rel X c σ s n F){l:Nat}{E:TypeId}{xs:List (I E)}{fl:Bool}(hl:s.O l=some (some (.row E xs fl))):∃ τ,τ.w=σ.w/\Stp X.M σ τ/\Rel X c τ (Y5 s l (some (.row E xs true))) n F:=by
 cases fl with
 | true=>rw [d1V hl]; exact ⟨σ,rfl,Stp.refl _ _,h⟩
 | false =>
   have:=h.pub l
   simpa only [Qx.pub,hl] using this
def Z8 (s:St I)(O:Obs I)(ls:List Nat):St I:=⟨s.n,s.F,apU s.O (Q3 O ls),s.nx⟩
omit [∀ E,Rp (I E)] in
theorem c6A {l:Nat}{ls:List Nat}{E:TypeId}{xs:List (I E)}(h:O l=some (some (.row E xs false))):Q3 O (l::ls)=(l,some (.row E xs true))::Q3 O ls:=by simp only [Q3,h]
omit [∀ E,Rp (I E)] in
theorem c6x {l:Nat}{ls:List Nat}(h:∀ E (xs:List (I E)),O l≠some (some (.row E xs false))):Q3 O (l::ls)=Q3 O ls:=by
 show (match O l with | some (some (Ob.row E xs false))=>(l,some (Ob.row E xs true))::Q3 O ls | _=>Q3 O ls)=_
 split
 ·exact absurd ‹_› (h _ _)
 ·rfl
omit [∀ E,Rp (I E)] in
theorem a7u {l:Nat}(h:∀ E (xs:List (I E)),O l≠some (some (.row E xs false))):∀ (ls:List Nat) (Q:Obs I),apU Q (Q3 O ls) l=Q l
 | [],_=>rfl
 | x::ls,Q=>by
   by_cases hx:∃ E,∃ xs:List (I E),O x=some (some (.row E xs false))
   ·obtain ⟨E,xs,e⟩:=hx
    rw [c6A e]
    have hne:l≠x:=fun e'=>h E xs (by rw [e',e])
    exact (a7u h ls (upF Q x _)).trans (J2 hne)
   ·rw [c6x fun E xs e=>hx ⟨E,xs,e⟩]
    exact a7u h ls Q
theorem Rel.pubs_:∀ (ls:List Nat) {σ:S} {s:St I},Rel X c σ s n F->(∀ l E (xs:List (I E)) fl,O l=some (some (.row E xs fl))->s.O l=some (some (.row E xs fl))\/s.O l=some (some (.row E xs true))) ->
 ∃ τ,τ.w=σ.w/\Stp X.M σ τ/\Rel X c τ (Z8 s O ls) n F/\(∀ l,l ∉ ls->(Z8 s O ls).O l=s.O l)/\(∀ l E (xs:List (I E)) fl,O l=some (some (.row E xs fl))->l∈ls->(Z8 s O ls).O l=some (some (.row E xs true)))
 | [],σ,s,h,_=>⟨σ,rfl,Stp.refl _ _,h,fun _ _=>rfl,fun _ _ _ _ _ h=>by cases h⟩
 | l::ls,σ,s,h,hO=>by
   by_cases hx:∃ E,∃ xs:List (I E),O l=some (some (.row E xs false))
   ·obtain ⟨E,xs,e⟩:=hx
    have hsl:∃ fl,s.O l=some (some (.row E xs fl)):=(hO l E xs false e).elim (fun h=>⟨_,h⟩) (fun h=>⟨_,h⟩)
    obtain ⟨fl,hsl⟩:=hsl
    obtain ⟨τ,h1,h2,h3⟩:=h.settle hsl
    have hO':∀ l' E' (xs':List (I E')) fl',O l'=some (some (.row E' xs' fl'))->(Y5 s l (some (.row E xs true))).O l'=some (some (.row E' xs' fl'))\/(Y5 s l (some (.row E xs true))).O l'=some (some (.row E' xs' true)):=by
     intro l' E' xs' fl' e'
     by_cases el:l'=l
     ·subst el
      rw [e] at e'
      cases e'
      exact .inr (J3 _ _ _)
     ·have:(Y5 s l (some (Ob.row E xs true))).O l'=s.O l':=J2 el
      rw [this]
      exact hO l' E' xs' fl' e'
    obtain ⟨υ,k1,k2,k3,k4,k5⟩:=Rel.pubs_ ls h3 hO'
    have epub:Z8 s O (l::ls)=Z8 (Y5 s l (some (.row E xs true))) O ls:=by simp only [Z8,c6A e]; rfl
    rw [epub]
    refine ⟨υ,k1.trans h1,h2.trans k2,k3,fun l' hl'=>?_,fun l' E' xs' fl' e' hl'=>?_⟩
    ·rw [d8A,not_or] at hl'
     rw [k4 l' hl'.2]
     exact J2 hl'.1
    ·by_cases hm:l'∈ls
     ·exact k5 l' E' xs' fl' e' hm
     ·rw [k4 l' hm]
      rcases d8A.1 hl' with rfl | hl'
      ·rw [e] at e'; cases e'; exact J3 _ _ _
      ·exact absurd hl' hm
   ·have hx':∀ E (xs:List (I E)),O l≠some (some (.row E xs false)):=fun E xs e=>hx ⟨E,xs,e⟩
    obtain ⟨υ,k1,k2,k3,k4,k5⟩:=Rel.pubs_ ls h hO
    have epub:Z8 s O (l::ls)=Z8 s O ls:=by simp only [Z8,c6x hx']
    rw [epub]
    refine ⟨υ,k1,k2,k3,fun l' hl'=>k4 l' fun hm=>hl' (by simp [hm]),fun l' E' xs' fl' e' hl'=>?_⟩
    by_cases hm:l'∈ls
    ·exact k5 l' E' xs' fl' e' hm
    ·rw [k4 l' hm]
     rcases d8A.1 hl' with rfl | hl'
     ·cases fl' with
      | false=>exact absurd e' (hx' _ _)
      | true=>exact (hO _ _ _ _ e').elim id id
     ·exact absurd hl' hm
theorem Rel.pubs (h:Rel X c σ s n F)(hO:∀ l o,O l=some (some o)->s.O l=some (some o))(ls:List Nat) :
 ∃ τ,τ.w=σ.w/\Stp X.M σ τ/\Rel X c τ (Z8 s O ls) n F/\a2w X c τ O ls/\Rows X c τ O ls/\(∀ l,l ∉ ls->(Z8 s O ls).O l=s.O l):=by
 obtain ⟨τ,h1,h2,h3,h4,h5⟩:=Rel.pubs_ (O:=O) ls h (fun l E xs fl e=>.inl (hO l _ e))
 refine ⟨τ,h1,h2,h3,⟨fun l E xs fl e hl=>h3.objs l _ ?_,fun l E xs e=>?_,fun l T kd m e=>h3.objs l _ ?_,fun l T vs w e=>h3.objs l _ ?_⟩,fun l E xs fl e hl=>h3.objs l _ ?_,h4⟩
 ·by_cases hm:l∈ls
  ·exact h5 l E xs fl e hm
  ·rcases hl with rfl | hl
   ·rw [h4 l hm]; exact hO l _ e
   ·exact absurd hl hm
 ·obtain ⟨A,k,k1,k2⟩:=h.objs l _ (hO l _ e)
  exact ⟨A,k,k1,k2.mono h2.wext⟩
 ·show apU s.O (Q3 O ls) l=_
  rw [a7u (fun E xs e'=>by rw [e] at e'; cases e')]
  exact hO l _ e
 ·show apU s.O (Q3 O ls) l=_
  rw [a7u (fun E xs e'=>by rw [e] at e'; cases e')]
  exact hO l _ e
 ·rw [h4 l hl]; exact hO l _ e
omit [∀ E,Rp (I E)] in
theorem a2O (O:Obs I):∀ (a b:List (Nat×Option (Ob I))),apU O (a++b)=apU (apU O a) b
 | [],_=>rfl
 | x::r,b=>a2O (upF O x.1 x.2) r b
theorem b4K:∀ (ls:List (PV I)) (cs:List Value),ls.all c9a=true->RG X c σ ls cs->cs.all (·.oneCell')=true
 | [],_,_,h=>by simp only [RG] at h; subst h; rfl
 | p::ps,_,ho,h=>by
   simp only [RG] at h
   obtain ⟨a,r,rfl,h1,h2⟩:=h
   simp only [d9v,d8p] at ho
   rw [d9U,d8p]
   refine ⟨?_,b4K ps r ho.2 h2⟩
   rcases h1 with h1 | ⟨h0,v,rfl,h1⟩
   ·cases p<;>first | exact h1.elim | (rw [d8q]; exact fun u hu=>Rp.one h1 u hu)
   ·simp only [d9v,List.all_nil,Bool.and_true]
    cases p<;>simp [c9a] at ho<;>simp only [RV] at h1 <;>
     first
      | (subst h1; rfl)
      | (obtain ⟨A,k,rfl,_⟩:=h1; rfl)
      | (obtain ⟨A,rfl⟩:=h1; rfl)
      | (obtain ⟨b,w,_,rfl⟩:=h1; rfl)
      | (obtain ⟨p,_,rfl⟩:=h1; rfl)
      | (obtain ⟨cs,rfl,_⟩:=h1; rfl)
      | (obtain ⟨f,d8k,cs,rfl,_⟩:=h1; rfl)
      | (cases h0)
theorem d5f (ht:TabOk P tb){LS:List Nat}(hS:a2w X c σ O LS){E:TypeId}{p:PV I}{a:I E}{ls:List Nat}(h:d7c tb O E p=some (a,ls))(hl:∀ l∈ls,l∈LS){v:Value}(hv:RV X c σ p v):Rp.cells σ a v.cells.toList:=by
 obtain ⟨qs,hq,h⟩:=bind_some h
 obtain ⟨t,ht',h⟩:=bind_some h
 obtain ⟨b,hb,h⟩:=bind_some h
 cases h
 exact c4k ht hb (c4M hS (ls:=t.2) ht' hl (a5A hq hv))
theorem b0J (ht:TabOk P tb){LS:List Nat}(hS:a2w X c σ O LS):∀ {ks:List Kd} {ps:List (PV I)} {x:Tys I ks} {ls:List Nat},a7T tb O ks ps=some (x,ls)->(∀ l∈ls,l∈LS)->∀ {vs:List Value},RVs X c σ ps vs->DVs σ ks x vs
 | [],[],_,_,h,_,vs,hv=>by cases h; simpa only [RVs,DVs] using hv
 | k::ks,p::ps,_,_,h,hl,vs,hv=>by
   obtain ⟨x,hx,h⟩:=bind_some h
   obtain ⟨y,hy,h⟩:=bind_some h
   cases h
   simp only [RVs] at hv
   obtain ⟨v,r,rfl,h1,h2⟩:=hv
   exact ⟨v,r,rfl,a5Q ht hS (ls:=x.2) hx (fun l hm=>hl l (by simp [hm])) h1,b0J ht hS (ls:=y.2) hy (fun l hm=>hl l (by simp [hm])) h2⟩
 | [],_::_,_,_,h,_,_,_=>by simp [a7T] at h
 | _::_,[],_,_,h,_,_,_=>by simp [a7T] at h
theorem c9p (ht:TabOk P tb){G:Nat->Option (PV I)}(hG:b1j X c σ G F){LS:List Nat}(hS:a2w X c σ O LS){E:TypeId}:∀ {i:Nat} {ps:List (Nat×Operand)} {xs:List (I E)} {ls:List Nat},d1o tb O n G E i ps=some (xs,ls)->(∀ l∈ls,l∈LS) ->
 ∃ vs:List Value,ps.map (fun p=>(p.1,ev F p.2))=(vs.zipIdx i).map (fun p=>(p.2,p.1))/\ps.all (fun p=>Q2 n p.2)=true/\vs.length=xs.length/\(∀ v∈vs,v.cells.size=Rp.sz (I E))/\J6 σ xs (vs.flatMap (·.cells.toList))
 | i,[],xs,_,h,_=>by
   cases h
   exact ⟨[],rfl,rfl,rfl,fun v hv=>by simp at hv,rfl⟩
 | i,(j,x)::r,xs,_,he,hl=>by
   obtain ⟨hb,he⟩:=j8 he
   have e:=d8s hb
   subst e
   obtain ⟨p,hp,he⟩:=bind_some he
   obtain ⟨a,ha,he⟩:=bind_some he
   obtain ⟨d8k,has,he⟩:=bind_some he
   cases he
   obtain ⟨h1,h2⟩:=c0I hG hp
   have h3:=d5f ht hS (ls:=a.2) ha (fun l hm=>hl l (by simp [hm])) h2
   obtain ⟨vs,g1,g2,g3,g4,g5⟩:=c9p ht hG hS (ls:=d8k.2) has (fun l hm=>hl l (by simp [hm]))
   refine ⟨ev F x::vs,by simp [g1],by simp [h1,g2],by simp [g3],fun v hv=>?_,?_⟩
   ·rcases d8A.1 hv with rfl | hv
    ·have:=Rp.len h3
     simpa using this
    ·exact g4 v hv
   ·simp only [d9W]
    exact ⟨_,_,rfl,h3,g5⟩
theorem b1j.step {G:Nat->Option (PV I)}(h:b1j X c σ G F)(st:Stp X.M σ τ):b1j X c τ G F:=fun t p hp=>RV.step st p _ (h t p hp)
theorem a8z {ops:Array Oper}{Q:Exit->Act->World->Prop}{rest:List Oper}{f:FuncId}{vs:List Value}{E:S->Prop}{R:Value->S->Prop}{o:Oper}(hg:o.guard=none)(hc:a0Z P f vs σ E R)
 (hrun:(execOp (fr n F).eval o).run P σ.w=(callFunc f vs.toArray).run P σ.w) (h:∀ v τ,E τ->R v τ->wpList P ops Q rest (fr n (J9 F o.dst v)) τ.w):wpList P ops Q (o::rest) (fr n F) σ.w:=by
 rcases hc with ⟨⟨fn,cd,h1,h2,h3⟩,hcalls⟩ | ⟨v,τ,h1,h2,h3⟩
 ·refine wpList_plain hg fun K hK=>?_
  unfold Oper.wp
  have h3' : fn.name ≠ "runtime.NumGoroutine" := by simpa using h3
  have:(callFunc f vs.toArray).run P σ.w=.ok (.enter f vs.toArray) σ.w:=by
   simp [callFunc,h1,h2,h3']
  rw [hrun,this,Oper.upon_enter]
  refine hcalls.mono fun e w' ⟨v,τ,he,hw,hx,hr⟩=>?_
  subst he
  subst hw
  exact hK _ _ (by rw [b9p]; exact h v τ hx hr)
 ·exact J7 hg v τ.w (by rw [hrun,h1]) (h v τ h2 h3)
theorem c2S {xs:List Operand}{ats:Array TypeId}{d:Option Nat}{ty:TypeId}{pos:String}{aft:Array Edge}{f:FuncId}(hk:xs.all (Q2 n)=true)(w:World) :
 (execOp (fr n F).eval ⟨d,.call ⟨.value (.func f),xs.toArray,ats⟩,ty,pos,aft,none⟩).run P w=(callFunc f (xs.map (ev F)).toArray).run P w:=by
 have he:xs.toArray.map (fr n F).eval=(xs.map (ev F)).toArray:=by
  simp only [List.map_toArray]
  congr 1
  exact d9z fun x hx=>w8 ((d8q.1 hk) x hx)
 simp [execOp,resolve,Act.eval,Deferred.ofValue,invoke,he]
theorem c0G {xs:List Operand}{ats:Array TypeId}{d:Option Nat}{ty:TypeId}{pos:String}{aft:Array Edge}{t:Tmp}{f:FuncId}{d8k cs:List Value}(hk:xs.all (Q2 n)=true)(hkt:Q2 n (.tmp t)=true)(ht:F t=.func (.func f) d8k.toArray cs.toArray)(w:World) :
 (execOp (fr n F).eval ⟨d,.call ⟨.value (.tmp t),xs.toArray,ats⟩,ty,pos,aft,none⟩).run P w=(callFunc f (d8k++xs.map (ev F)++cs).toArray).run P w:=by
 have he:xs.toArray.map (fr n F).eval=(xs.map (ev F)).toArray:=by
  simp only [List.map_toArray]
  congr 1
  exact d9z fun x hx=>w8 ((d8q.1 hk) x hx)
 have ht':(fr n F).eval (.tmp t)=.func (.func f) d8k.toArray cs.toArray:=by rw [w8 (x:=.tmp t) hkt]; exact ht
 simp [execOp,resolve,ht',Deferred.ofValue,invoke,he]
theorem c3F {w:World}{b:Nat}{cs:List Value}{T:TypeId}(h:w.heap[b]?=some (.cells cs.toArray T (0,0))):w.rangeAt b 0 cs:=fun j v hv=>by
 simp [World.cell?,h,hv]
theorem b6h:∀ {ps:List (PV I)} {vs:List Value},RVs X c σ ps vs->RV X c σ (a8o ps) (a4Y vs)
 | [],vs,h=>by
   simp only [RVs] at h
   subst h
   simp only [a8o,a4Y,RV]
   exact ⟨[],rfl,by simp only [RVs]⟩
 | [p],vs,h=>by
   simp only [RVs] at h
   obtain ⟨v,r,rfl,h1,rfl⟩:=h
   exact h1
 | p::q::ps,vs,h=>by
   have h':=h
   simp only [RVs] at h
   obtain ⟨v,r,rfl,h1,u,r',rfl,h2⟩:=h
   simp only [a8o,a4Y,RV]
   exact ⟨_,rfl,h'⟩
theorem c06 {α:Type} [Rp α] {xs:List α}{cs:List Value}(h:J6 σ xs cs){j:Nat}{x:α}(hx:xs[j]?=some x) :
 ∃ c1 cj c2,cs=c1++cj++c2/\c1.length=j*Rp.sz α/\Rp.cells σ x cj/\∀ (υ:S) (x':α) (cj':List Value),Wext σ υ->Rp.cells υ x' cj'->J6 υ (xs.set j x') (c1++cj'++c2):=by
 have hi:j<xs.length:=(d8o.1 hx).1
 have hsplit:xs=xs.take j++(x::xs.drop (j+1)):=by
  have:=d88 j xs
  rw [d8S hi] at this
  rw [<- (d8o.1 hx).2]
  exact this.symm
 rw [hsplit] at h
 obtain ⟨c1,d,rfl,f1,f2⟩:=h.split
 obtain ⟨cx,r,rfl,hc,f3⟩:=f2
 refine ⟨c1,cx,r,by simp,by rw [f1.len,d8G]; congr 1; omega,hc,fun υ x' cj' hw hx'=>?_⟩
 rw [d9Z,if_pos hi,d8E]
 exact (f1.mono hw).app ⟨cj',r,rfl,hx',f3.mono hw⟩
theorem b9m {ops:Array Oper}{Q:Exit->Act->World->Prop}{rest:List Oper}{d:Option Nat}{ty:TypeId}{pos:String}{aft:Array Edge}{T E:TypeId}{x y:Operand}{g len k sz:Nat}{j:Int}{w:World}
 (h0:0<=j) (hlt:j<(len:Int)) (hx:ev F x=.slice (some ⟨g,0,none⟩) len k) (hy:ev F y=.int .i64 j) (hkx:Q2 n x=true) (hky:Q2 n y=true)
 (hT:P.underlying T=some (.slice E)) (hE:(P.info? E).map (·.size)=some sz)
 (h:wpList P ops Q rest (fr n (J9 F d (.pointer (some ⟨g,j.toNat*sz,none⟩)))) w) :
 wpList P ops Q (⟨d,.indexAddr T x y,ty,pos,aft,none⟩::rest) (fr n F) w:=by
 refine J7 rfl (.pointer (some ⟨g,j.toNat*sz,none⟩)) w ?_ h
 show Sem.run P (do pure (Next.value (<- Instr.indexAt T ((fr n F).eval x) ((fr n F).eval y)))) w=_
 rw [w8 hkx,w8 hky,hx,hy]
 simp only [Instr.indexAt,asIntOf,Sem.run_bind,Sem.run_pure,Result.andThen_ok,run_underlying hT,if_pos (And.intro h0 hlt),Sx.run_sizeOf hE,Addr.add_mid,d8Q]
theorem a9p {ops:Array Oper}{Q:Exit->Act->World->Prop}{rest:List Oper}{d:Option Nat}{ty:TypeId}{pos:String}{aft:Array Edge}{T E:TypeId}{x y:Operand}{g o len k sz:Nat}{j:Int}{w:World}
 (h0:0<=j) (hlt:j<(len:Int)) (hx:ev F x=.slice (some ⟨g,o,none⟩) len k) (hy:ev F y=.int .i64 j) (hkx:Q2 n x=true) (hky:Q2 n y=true)
 (hT:P.underlying T=some (.slice E)) (hE:(P.info? E).map (·.size)=some sz)
 (h:wpList P ops Q rest (fr n (J9 F d (.pointer (some ⟨g,o+j.toNat*sz,none⟩)))) w) :
 wpList P ops Q (⟨d,.indexAddr T x y,ty,pos,aft,none⟩::rest) (fr n F) w:=by
 refine J7 rfl (.pointer (some ⟨g,o+j.toNat*sz,none⟩)) w ?_ h
 show Sem.run P (do pure (Next.value (<- Instr.indexAt T ((fr n F).eval x) ((fr n F).eval y)))) w=_
 rw [w8 hkx,w8 hky,hx,hy]
 simp only [Instr.indexAt,asIntOf,Sem.run_bind,Sem.run_pure,Result.andThen_ok,run_underlying hT,if_pos (And.intro h0 hlt),Sx.run_sizeOf hE,Addr.add_mid]
theorem b7M {ops:Array Oper}{Q:Exit->Act->World->Prop}{rest:List Oper}{d:Option Nat}{ty:TypeId}{pos:String}{aft:Array Edge}{T E:TypeId}{x y:Operand}{w:World}{m k i b o:Nat}{n:Nat}{F:Fr}{P:Program}
 (hx:ev F x=.pointer (some ⟨b,o,none⟩)) (hy:ev F y=.int .i64 (Int.ofNat i)) (hkx:Q2 n x=true) (hky:Q2 n y=true) (hT:P.underlying T=some (.array m E)) (hE:(P.info? E).map (·.size)=some k) (hi:i<m)
 (h:wpList P ops Q rest (fr n (J9 F d (.pointer (some ⟨b,o+i*k,none⟩)))) w) :
 wpList P ops Q (⟨d,.indexAddr T x y,ty,pos,aft,none⟩::rest) (fr n F) w:=by
 refine J7 rfl (.pointer (some ⟨b,o+i*k,none⟩)) w ?_ h
 show Sem.run P (do pure (Next.value (<- Instr.indexAt T ((fr n F).eval x) ((fr n F).eval y)))) w=_
 rw [w8 hkx,w8 hky,hx,hy]
 have h0:(0:Int)<=(i:Int)/\(i:Int)<(m:Int):=⟨Int.natCast_nonneg i,by simpa using hi⟩
 simp only [Instr.indexAt,Instr.sureAddr,asIntOf,Sem.run_bind,Sem.run_pure,Result.andThen_ok,run_underlying hT,Addr.add_mid,Int.ofNat_eq_natCast,d8M,if_pos h0,Sx.run_sizeOf hE]
theorem d2T (pl:List (Nat×Nat))(g:Nat->Option (Nat×Nat))(hg:∀ i x,pl[i]?=some x->g i=some x):∀ (parts:List (Nat×Value)) (cells out:List Value),b1W pl cells (parts.map fun p=>(p.1,p.2.cells.toList))=some out ->
 Instr.fill g cells.toArray parts=some out.toArray:=fun parts cells out h=>by
 have h1:=c5H pl parts cells out h
 have key:∀ (parts:List (Nat×Value)) (cs:Array Value) (o:Array Value),Instr.fill (pl.toArray[·]?) cs parts=some o->Instr.fill g cs parts=some o:=by
  intro parts
  induction parts with
  | nil=>intro cs o h; exact h
  | cons p r ih =>
    intro cs o h
    simp only [Instr.fill] at h ⊢
    cases hp:pl.toArray[p.1]? with
    | none=>rw [hp] at h; cases h
    | some x =>
      rw [hp] at h
      rw [hg p.1 x (by simpa using hp)]
      simp only at h ⊢
      split at h
      ·cases h
      ·rename_i hne
       rw [if_neg hne]
       exact ih _ _ h
 exact key parts _ _ h1
theorem d3A {ops:Array Oper}{Q:Exit->Act->World->Prop}{rest:List Oper}{d:Option Nat}{ty:TypeId}{pos:String}{aft:Array Edge}{n:Nat}{F:Fr}{P:Program}{T:TypeId}{ps:List (Nat×Operand)}{w:World}{pl:List (Nat×Nat)}{zs:List Value}
 (hT:d4n P T pl zs) (vs:List (Nat×Value)) (cs:List Value)
 (hps:ps.map (fun p=>(p.1,ev F p.2))=vs) (hk:ps.all (fun p=>Q2 n p.2)=true) (hf:b1W pl zs (vs.map fun p=>(p.1,p.2.cells.toList))=some cs)
 (h:wpList P ops Q rest (fr n (J9 F d (.agg cs.toArray))) w) :
 wpList P ops Q (⟨d,.build T ps.toArray,ty,pos,aft,none⟩::rest) (fr n F) w:=by
 refine J7 rfl (.agg cs.toArray) w ?_ h
 obtain ⟨m,e,ie,i,z,h1,h0,h2,h3,h4,h5⟩:=hT
 have he:(ps.toArray.map fun (i,x)=>(i,(fr n F).eval x)).toList=vs:=by
  rw [<- hps]
  simp only [Array.toList_map]
  apply d9z
  intro p hp
  rw [w8 ((d8q.1 hk) p hp)]
 have hb:P.built T vs=some cs.toArray:=by
  simp only [Program.built,h2,h1,h3,h0,h4]
  refine d2T pl _ (fun i x hx=>?_) vs zs cs hf
  rw [h5,d9i] at hx
  cases hr:(d9L m)[i]? with
  | none=>rw [hr] at hx; cases hx
  | some y =>
    rw [hr] at hx
    have hlt:i<m:=by have:=(d8o.1 hr).1; simpa using this
    have:=(List.getElem?_range hlt).symm.trans hr
    cases this
    simpa using hx
 have hr:=run_build (P:=P) w T (ps.toArray.map fun (i,x)=>(i,(fr n F).eval x)) cs.toArray (by rw [he,hb])
 show Sem.run P (do pure (Next.value (<- Instr.build T (ps.toArray.map fun (i,x)=>(i,(fr n F).eval x))))) w=_
 rw [Sem.run_bind,hr]
 rfl
theorem d6O {T E:TypeId}{cs:List Value}{v:Value}{w:World}{m k i:Nat}{P:Program}(hT:P.underlying T=some (.array m E))(hE:(P.info? E).map (·.size)=some k)(hi:i<m)(hp:(part E cs.toArray (i*k)).run P w=.ok v w) :
 Z7 P w (Instr.index T (.agg cs.toArray) (.int .i64 (Int.ofNat i))) v:=by
 have h0:(0:Int)<=(i:Int)/\(i:Int)<(m:Int):=⟨Int.natCast_nonneg i,by simpa using hi⟩
 show Sem.run P _ w=_
 simp only [Instr.index,asIntOf,Sem.run_bind,Sem.run_pure,Result.andThen_ok,run_underlying hT,Int.ofNat_eq_natCast,d8M,if_pos h0,Sx.run_sizeOf hE,hp]
theorem a0a.el {α:Type} [Rp α] {ow:Option Nat}{fl:Bool}{E:TypeId}{σ:S}{xs:List α}{b q k:Nat}(k2:a0a ow fl E σ xs (some ⟨b,q,none⟩) k){j:Nat}{x:α}(hxj:xs[j]?=some x):∃ cj,Rp.cells σ x cj/\σ.w.rangeAt b (q+j*Rp.sz α) cj:=by
 cases ow with
 | none =>
   rcases k2 with ⟨e,_⟩ | ⟨_,_,hs⟩
   ·subst e; simp at hxj
   ·obtain ⟨b',o',cj,e,e1,e2⟩:=hs.at_ hxj
    cases e
    exact ⟨cj,e1,e2.2⟩
 | some g =>
   obtain ⟨cur,cs,e,hh,a1,a2,a3,a4,a5,_⟩:=k2
   cases e
   obtain ⟨c1,cj,c2,e1,e2,e3,_⟩:=c06 a4 hxj
   refine ⟨cj,e3,fun i v hv=>?_⟩
   have hil:=(d8o.1 hv).1
   have e4:cs[j*Rp.sz α+i]?=some v:=by
    rw [e1,d8E,d8z (by omega),e2,d9a,d8H hil,hv]
   have hlt:j*Rp.sz α+i<xs.length*Rp.sz α:=by
    have:=(d8o.1 e4).1
    rw [<- a5,d8G] at this; omega
   rw [<- a5,d8K hlt,d8F] at e4
   rw [d8Q]
   simp [World.cell?,hh,e4]
theorem d3U {O:Obs I}(hO:∀ l o,O l=some (some o)->X6 X c σ l o){E:TypeId}{p:PV I}{xs:List (I E)}{v:Value}(h:d1A O E p=some xs)(hv:RV X c σ p v) :
 ∃ A q cs,v=.slice A xs.length q/\J6 σ xs cs/\(xs≠[]->∃ b o,A=some ⟨b,o,none⟩/\σ.w.rangeAt b o cs):=by
 have fromR:∀ {A:Option Addr} {k:Nat} {ow:Option Nat} {fl:Bool} {xs:List (I E)},a0a ow fl E σ xs A k->∃ cs,J6 σ xs cs/\(xs≠[]->∃ b o,A=some ⟨b,o,none⟩/\σ.w.rangeAt b o cs):=fun {A k ow fl xs} hw=>by
  cases ow with
  | none =>
    rcases hw with ⟨rfl,_⟩ | ⟨_,_,hs⟩
    ·exact ⟨[],rfl,fun hn=>absurd rfl hn⟩
    ·obtain ⟨_,_,cs,f1,f2⟩:=hs
     refine ⟨cs,f1,fun hn=>?_⟩
     obtain ⟨b,o,e,f3⟩:=f2 hn
     exact ⟨b,o,e,f3.2⟩
  | some g =>
    obtain ⟨cur,cs,e,hh,a1,a2,a3,a4,a5,_⟩:=hw
    refine ⟨cs,a4,fun _=>⟨g,0,e,fun j v hv=>?_⟩⟩
    have hj:=(d8o.1 hv).1
    have hlt:j<xs.length*Rp.sz (I E):=by rw [<- a5,d8G] at hj; omega
    rw [<- a5,d8K hlt,d8F] at hv
    rw [d8Q]
    simp [World.cell?,hh,hv]
 unfold d1A at h
 split at h
 ·obtain ⟨_,h⟩:=j8 h
  cases h
  simp only [RV] at hv
  obtain ⟨A,rfl⟩:=hv
  exact ⟨A,0,[],rfl,rfl,fun hn=>absurd rfl hn⟩
 ·obtain ⟨e,rfl⟩:=a0l h
  subst e
  simp only [RV] at hv
  obtain ⟨A,k,rfl,⟨_,_,cs,f1,f2⟩,_⟩:=hv
  refine ⟨A,k,cs,rfl,f1,fun hn=>?_⟩
  obtain ⟨b,o,e,f3⟩:=f2 hn
  exact ⟨b,o,e,f3.2⟩
 ·rename_i l
  simp only [RV] at hv
  obtain ⟨p,hp,rfl⟩:=hv
  split at h
  ·rename_i E' ys fl ho
   obtain ⟨e,rfl⟩:=a0l h
   subst e
   obtain ⟨A,k,ow,k1,k2⟩:=hO _ _ ho
   rw [hp] at k1
   cases k1
   obtain ⟨cs,f1,f2⟩:=fromR k2
   exact ⟨A,k,cs,rfl,f1,f2⟩
  ·rename_i E' ys ho
   obtain ⟨e,rfl⟩:=a0l h
   subst e
   obtain ⟨A,k,k1,⟨_,_,cs,f1,f2⟩⟩:=hO _ _ ho
   rw [hp] at k1
   cases k1
   refine ⟨A,k,cs,rfl,f1,fun hn=>?_⟩
   obtain ⟨b,o,e,f3⟩:=f2 hn
   exact ⟨b,o,e,f3.2⟩
  ·rename_i E' ys ho
   obtain ⟨e,rfl⟩:=a0l h
   subst e
   obtain ⟨A,k,k1,cs,f1,f2⟩:=hO _ _ ho
   rw [hp] at k1
   cases k1
   refine ⟨A,k,cs,rfl,f1,fun hn=>?_⟩
   obtain ⟨b,o,e,f3,_⟩:=f2 hn
   exact ⟨b,o,e,f3⟩
  ·cases h
 ·cases h
def Bts:List Value->List UInt8->Prop
 | [],bs=>bs=[]
 | v::r,bs=>∃ n b t,v=.int .u8 n/\bs=b::t/\b=UInt8.ofNat n.toNat/\Bts r t
theorem c2M (ht:TabOk P tb){E:TypeId}(h8:tb.u8 E=true):∀ {xs:List (I E)} {cs:List Value},J6 σ xs cs->Bts cs (xs.map fun x=>c9r (tb.lf E x))
 | [],_,h=>by cases h; rfl
 | x::xs,cs,h=>by
   obtain ⟨a,r,rfl,hc,hr⟩:=h
   obtain ⟨_,hn⟩:=ht.u8 _ h8
   obtain ⟨n,hn⟩:=hn x
   have h1:=ht.lf ⟨P,0,fun _=>False⟩ (fun _=>none) σ E x a hc
   rw [hn] at h1
   simp only [RG] at h1
   obtain ⟨a1,r1,e,h1,rfl⟩:=h1
   rcases h1 with h1 | ⟨_,v,rfl,hv⟩
   ·exact h1.elim
   ·simp only [RV] at hv
    subst hv
    subst e
    exact ⟨n,_,_,rfl,rfl,by show c9r (tb.lf E x)=_; rw [hn]; rfl,c2M ht h8 hr⟩
theorem c77 {w:World}(d:ByteArray->Value->Sem (ForInStep ByteArray)):∀ {cs:List Value} {bs:List UInt8} (s:ByteArray),Bts cs bs ->
 (forIn cs s fun c s=>(match c with
   | .int .u8 n=>pure (ForInStep.yield (s.push (UInt8.ofNat n.toNat)))
   | x=>d s x:Sem (ForInStep ByteArray))).run P w=.ok ⟨s.data++bs.toArray⟩ w
 | [],bs,s,h=>by
   have h:bs=[]:=h
   subst h
   simp
 | v::r,bs,s,h=>by
   obtain ⟨n,b,t,rfl,rfl,rfl,h⟩:=h
   have ih:=c77 (w:=w) d (s.push (UInt8.ofNat n.toNat)) h
   simp only [List.forIn_cons,Sem.run_bind,Sem.run_pure,Result.andThen_ok]
   rw [ih]
   congr 1
   show ByteArray.mk (s.data.push (UInt8.ofNat n.toNat)++t.toArray)=_
   congr 1
   apply Array.ext'
   simp
theorem Bts.len:∀ {cs:List Value} {bs:List UInt8},Bts cs bs->cs.length=bs.length
 | [],_,h=>by
   have h:_=[]:=h
   rw [h]
   rfl
 | _::_,_,⟨_,_,_,_,e,_,h⟩=>by rw [e,d8v,d8v,Bts.len h]
theorem d6W {src dst E:TypeId}{w:World}{A:Option Addr}{len q:Nat}{cs:List Value}{bs:List UInt8}(h1:P.underlying src=some (.slice E))(h2:P.underlying E=some (.int .u8))(h3:P.underlying dst=some .string)
 (hb:Bts cs bs) (hc:cs.length=len) (hr:len≠0->∃ b o,A=some ⟨b,o,none⟩/\w.rangeAt b o cs):Z7 P w (convert src dst (.slice A len q)) (.string ⟨bs.toArray⟩):=by
 unfold Z7 convert
 simp only [Sem.run_bind,run_underlying h1,run_underlying h3,run_underlying h2,Result.andThen_ok]
 unfold Conv.bytesToString
 cases A with
 | none =>
   have:len=0:=by
    by_cases h0:len=0
    ·exact h0
    ·obtain ⟨b,o,e,_⟩:=hr h0
     cases e
   subst this
   have:cs=[]:=d8P hc
   subst this
   have hb:bs=[]:=hb
   subst hb
   rfl
 | some a =>
   have hl:(loadCells a len).run P w=.ok cs.toArray w:=by
    by_cases h0:len=0
    ·subst h0
     have:cs=[]:=d8P hc
     subst this
     rfl
    ·obtain ⟨b,o,e,hr'⟩:=hr h0
     cases e
     rw [<- hc]
     exact run_loadCells_list _ _ cs fun j v hv=>by
      have hv:=hr' j v hv
      by_cases h0:j=0
      ·subst h0; simpa [Addr.add] using hv
      ·simpa [Addr.add,h0] using hv
   simp only [Sem.run_bind,hl,Result.andThen_ok]
   simp
   have hl2 := c77 (P := P) (w := w) (fun s _ => (fun (_ : PUnit) => ForInStep.yield s) <$> stuck "bytesToString: byte expected") ByteArray.empty hb
   refine (congrArg (fun z=>Result.andThen z fun a w'=>Result.ok (Value.string a) w') hl2).trans ?_
   simp
section
variable {ops:Array Oper}{Q:Exit->Act->World->Prop}{rest:List Oper}{nb:Nat}
theorem c5Q (ht:TabOk P tb)(h:Rel X c σ s n F)(hX:X.P=P){G:Nat->Option (PV I)}(hG:b1j X c σ G F)(hO:∀ l o,O l=some (some o)->X6 X c σ l o){o:Oper}(hg:o.guard=none){e:Ef I}{disp:a0f I}
 (hno:match o.op with | .binOp .. | .unOp .. | .pick .. | .fieldAddr .. | .field .. | .load .. | .indexAddr .. | .index .. | .extract .. | .nilCheck .. | .convert .. | .build .. | .makeFunc .. | .move .. | .assign ..=>True | _=>False)
 (hx:eff tb disp n G O nb o.type o.op some=some e) (hnw:(∃ T x,o.op=.load T x)->e.new=[])
 (hk:∀ v p,e=⟨p,[],[]⟩->RV X c σ p v->wpList P ops Q rest (fr n (J9 F o.dst v)) σ.w):wpList P ops Q (o::rest) (fr n F) σ.w:=by
 obtain ⟨d,op,ty,pos,aft,g⟩:=o
 simp only at hg hx hk hno hnw
 subst hg
 have E1:∀ {x p},evP n G x=some p->Q2 n x=true/\RV X c σ p (ev F x):=fun hp=>b2Z hG hp
 have E2:∀ {x p T},evT tb n G T x=some p->Q2 n x=true/\RV X c σ p (ev F x):=fun hp=>c0I hG hp
 unfold eff at hx
 split at hx<;>(try (exact hno.elim))
 ·replace hx:=bind_some hx
  obtain ⟨p,hp,hx⟩:=hx
  obtain ⟨h1,h2⟩:=E2 hp
  cases hx
  exact a0p _ rfl h1 (hk _ p rfl h2)
 ·replace hx:=bind_some hx
  obtain ⟨p,hp,hx⟩:=hx
  obtain ⟨h1,h2⟩:=E2 hp
  cases hx
  exact a19 _ rfl h1 (hk _ p rfl h2)
 ·replace hx:=bind_some hx
  obtain ⟨p,hp,hx⟩:=hx
  replace hx:=bind_some hx
  obtain ⟨q,hq,hx⟩:=hx
  rw [c97] at hx
  replace hx:=bind_some hx
  obtain ⟨z,hz,hx⟩:=hx
  obtain ⟨h1,h2⟩:=E1 hp
  obtain ⟨h3,h4⟩:=E1 hq
  obtain ⟨u,hu,hr⟩:=d52 ht hz h2 h4
  cases hx
  exact a7t _ _ u rfl rfl h1 h3 hr (hk u z rfl hu)
 ·replace hx:=bind_some hx
  obtain ⟨p,hp,hx⟩:=hx
  obtain ⟨h1,h2⟩:=E1 hp
  split at hx
  ·simp only [RV] at h2
   cases hx
   exact d3Q _ _ h2 h1 d7B (hk _ _ rfl (by simp only [RV]))
  ·simp only [RV] at h2
   cases hx
   exact d3Q _ _ h2 h1 d7W (hk _ _ rfl (by simp only [RV,wr]))
  ·simp only [RV] at h2
   cases hx
   exact d3Q _ _ h2 h1 d7U (hk _ _ rfl (by simp only [RV]))
  ·cases hx
 ·replace hx:=bind_some hx
  obtain ⟨p,hp,hx⟩:=hx
  replace hx:=bind_some hx
  obtain ⟨q,hq,hx⟩:=hx
  replace hx:=bind_some hx
  obtain ⟨q',hq',hx⟩:=hx
  obtain ⟨h1,h2⟩:=E1 hp
  obtain ⟨h3,h4⟩:=E1 hq
  obtain ⟨h5,h6⟩:=E1 hq'
  split at hx
  ·rename_i g
   simp only [RV] at h2
   cases g with
   | true=>cases hx; exact d13 true _ h2 rfl h1 h3 h5 (hk _ _ rfl h4)
   | false=>cases hx; exact d13 false _ h2 rfl h1 h3 h5 (hk _ _ rfl h6)
  ·cases hx
 ·replace hx:=bind_some hx
  obtain ⟨p,hp,hx⟩:=hx
  replace hx:=bind_some hx
  obtain ⟨dd,hd,hx⟩:=hx
  obtain ⟨h1,h2⟩:=E1 hp
  split at hx
  ·rename_i l o
   simp only [RV] at h2
   obtain ⟨b,w,h3,h4⟩:=h2
   cases hx
   exact a0m b o dd (o+dd) h4 h1 (ht.off _ _ _ hd) rfl (hk _ _ rfl (by simp only [RV]; exact ⟨b,w,h3,rfl⟩))
  ·rename_i E' x' o
   simp only [RV] at h2
   obtain ⟨b,q,cs,h3,h4,h5⟩:=h2
   cases hx
   exact a0m b (q+o) dd (q+(o+dd)) h3 h1 (ht.off _ _ _ hd) (by omega) (hk _ _ rfl (by simp only [RV]; exact ⟨b,q,cs,rfl,h4,h5⟩))
  ·rename_i l sz j o
   simp only [RV] at h2
   obtain ⟨b,q,k,m,w,h3,h4⟩:=h2
   cases hx
   exact a0m b (q+(j*sz+o)) dd (q+(j*sz+(o+dd))) h4 h1 (ht.off _ _ _ hd) (by omega) (hk _ _ rfl (by simp only [RV]; exact ⟨b,q,k,m,w,h3,rfl⟩))
  ·cases hx
 ·rename_i T x f
  replace hx:=bind_some hx
  obtain ⟨p,hp,hx⟩:=hx
  replace hx:=bind_some hx
  obtain ⟨dd,hd,hx⟩:=hx
  replace hx:=bind_some hx
  obtain ⟨T',hT',hx⟩:=hx
  obtain ⟨h1,h2⟩:=E1 hp
  replace hx:=bind_some hx
  obtain ⟨ls,hls,hx⟩:=hx
  ·replace hx:=bind_some hx
   obtain ⟨z,hz,hx⟩:=hx
   obtain ⟨cs,h3,h4⟩:=b2l hls h2
   cases hx
   obtain ⟨fs,fl,a1,a2,a3,_⟩:=ht.off _ _ _ hd
   obtain ⟨fs',fl',b1,b2,b3⟩:=ht.fty _ _ _ hT'
   rw [a1] at b1
   cases b1
   rw [a2] at b2
   cases b2
   obtain ⟨r,hr,hrun⟩:=c4z (w:=σ.w) ht hz h4
   refine d5N _ r h3 h1 ?_ (hk _ _ rfl hr)
   show (Instr.field T (.agg cs.toArray) f).run P σ.w=_
   simp only [Instr.field,Sem.run_bind,run_underlying a1,Result.andThen_ok,a2,asAgg,Sem.run_pure,a3,b3,hrun]
 ·replace hx:=bind_some hx
  obtain ⟨p,hp,hx⟩:=hx
  obtain ⟨h1,h2⟩:=E1 hp
  split at hx
  ·rename_i l o
   split at hx
   ·rename_i T' ls w' ho
    replace hx:=bind_some hx
    obtain ⟨z,hz,hx⟩:=hx
    obtain ⟨b,cs,k1,k2,k3,_⟩:=hO _ _ ho
    simp only [RV] at h2
    obtain ⟨b',w,h3,h4⟩:=h2
    rw [k1] at h3
    cases h3
    obtain ⟨r,hr,hrun⟩:=b0d ht hz k2 (c3F k3)
    cases hx
    rw [d8Q] at hrun
    exact a2X b o r h4 h1 hrun (hk _ _ rfl hr)
   ·cases hx
  ·rename_i E' x' o
   replace hx:=bind_some hx
   obtain ⟨z,hz,hx⟩:=hx
   simp only [RV] at h2
   obtain ⟨b,q,cs,h3,h4,h5⟩:=h2
   obtain ⟨r,hr,hrun⟩:=b0d ht hz (RG.one h4) h5.2
   cases hx
   exact a2X b (q+o) r h3 h1 hrun (hk _ _ rfl hr)
  ·rename_i l sz j o
   split at hx
   ·rename_i E xs fl ho
    replace hx:=j8 hx
    obtain ⟨hsz,hx⟩:=hx
    have hsz':=d8s hsz
    replace hx:=bind_some hx
    obtain ⟨x,hxj,hx⟩:=hx
    replace hx:=bind_some hx
    obtain ⟨z,hz,hx⟩:=hx
    obtain ⟨A,k,ow,k1,k2⟩:=hO _ _ ho
    simp only [RV] at h2
    obtain ⟨b,q,k',m,w,h3,h4⟩:=h2
    rw [k1] at h3
    cases h3
    cases hx
    have hcj:∃ cj,Rp.cells σ x cj/\σ.w.rangeAt b (q+j*sz) cj:=by
     subst hsz'
     exact k2.el hxj
    obtain ⟨cj,e1,e2⟩:=hcj
    obtain ⟨r,hr,hrun⟩:=b0d (X:=X) (c:=c) ht hz (RG.one e1) e2
    rw [d9j] at hrun
    exact a2X b (q+(j*sz+o)) r h4 h1 hrun (hk _ _ rfl hr)
   ·rename_i E xs ho
    replace hx:=j8 hx
    obtain ⟨hsz,hx⟩:=hx
    have hsz':=d8s hsz
    replace hx:=bind_some hx
    obtain ⟨x,hxj,hx⟩:=hx
    replace hx:=bind_some hx
    obtain ⟨z,hz,hx⟩:=hx
    obtain ⟨A,k,k1,k2⟩:=hO _ _ ho
    simp only [RV] at h2
    obtain ⟨b,q,k',m,w,h3,h4⟩:=h2
    rw [k1] at h3
    cases h3
    cases hx
    obtain ⟨b',o',cj,e,e1,e2⟩:=k2.at_ hxj
    cases e
    rw [<- hsz'] at e2
    obtain ⟨r,hr,hrun⟩:=b0d (X:=X) (c:=c) ht hz (RG.one e1) e2
    rw [d9j] at hrun
    exact a2X b (q+(j*sz+o)) r h4 h1 hrun (hk _ _ rfl hr)
   ·rename_i E E' u xs q0 ho
    replace hx:=j8 hx
    obtain ⟨hsz,hx⟩:=hx
    have hsz':=d8s hsz
    replace hx:=bind_some hx
    obtain ⟨x,hxj,hx⟩:=hx
    replace hx:=bind_some hx
    obtain ⟨z,hz,hx⟩:=hx
    obtain ⟨A,k,ow,k1,k2⟩:=hO _ _ ho
    simp only [RV] at h2
    obtain ⟨b,q,k',m,w,h3,h4⟩:=h2
    rw [k1] at h3
    cases h3
    subst hsz'
    obtain ⟨cj,e1,e2⟩:=k2.el hxj
    obtain ⟨r,hr,hrun⟩:=b0d (X:=X) (c:=c) ht hz (RG.one e1) e2
    rw [d9j] at hrun
    cases hb:(d8u q0 1&&d8u o u) with
    | true =>
      rw [hb] at hx
      simp only [cond_true] at hx
      split at hx
      ·replace hx:=bind_some hx
       obtain ⟨zs,_,hx⟩:=hx
       cases hx
       exact absurd (hnw ⟨_,_,rfl⟩) (by simp)
      ·cases hx
    | false =>
      rw [hb] at hx
      cases hx
      exact a2X b (q+(j*Rp.sz (I E)+o)) r h4 h1 hrun (hk _ _ rfl hr)
   ·cases hx
  ·cases hx
 ·rename_i T x y
  replace hx:=bind_some hx
  obtain ⟨p,hp,hx⟩:=hx
  replace hx:=bind_some hx
  obtain ⟨q,hq,hx⟩:=hx
  replace hx:=bind_some hx
  obtain ⟨j,hj,hx⟩:=hx
  obtain ⟨h1,h2⟩:=E1 hp
  obtain ⟨h3,h4⟩:=E1 hq
  have hjv:RV X c σ (.int .i64 j:PV I) (ev F y):=by
   unfold asI at hj
   split at hj
   ·cases hj; exact h4
   ·cases hj
  simp only [RV] at hjv
  have main:∀ (E':TypeId),tb.el T=some E'->∀ (E:TypeId) (xs:List (I E)),(∃ A k,ev F x=.slice A xs.length k/\Sl σ xs A k)->(bif d8u E E' then (idx xs j).bind fun e=>val some (PV.ep E e 0) else none)=some e->wpList P ops Q (⟨d,.indexAddr T x y,ty,pos,aft,none⟩::rest) (fr n F) σ.w:=by
   intro E' hE E xs hs hy
   obtain ⟨A,k,h5,h6⟩:=hs
   replace hy:=j8 hy
   obtain ⟨hb,hy⟩:=hy
   have e1:=d8s hb
   subst e1
   replace hy:=bind_some hy
   obtain ⟨x,hxx,hy⟩:=hy
   cases hy
   obtain ⟨hT,hsz⟩:=ht.el _ _ hE
   exact b4O h6 hxx h5 hjv h1 h3 hT hsz fun b o cs hc hse=>hk _ _ rfl (by
    simp only [RV]
    exact ⟨b,o,cs,rfl,hc,hse⟩)
  split at hx
  ·replace hx:=bind_some hx
   obtain ⟨⟨E,m,k⟩,ha,hx⟩:=hx
   replace hx:=b0F hx
   obtain ⟨i,_,hi,rfl,hx⟩:=hx
   obtain ⟨hT,hE⟩:=ht.arr _ _ _ _ ha
   simp only [RV] at h2
   obtain ⟨b,w,hc,h5⟩:=h2
   cases hx
   exact b7M h5 hjv h1 h3 hT hE (by simpa using hi) (hk _ _ rfl (by simp only [RV]; exact ⟨b,w,hc,rfl⟩))
  ·replace hx:=bind_some hx
   obtain ⟨⟨E,m,k⟩,ha,hx⟩:=hx
   replace hx:=b0F hx
   obtain ⟨i,_,hi,rfl,hx⟩:=hx
   obtain ⟨hT,hE⟩:=ht.arr _ _ _ _ ha
   simp only [RV] at h2
   obtain ⟨b,p,cs,h5,hc,hs⟩:=h2
   cases hx
   exact b7M h5 hjv h1 h3 hT hE (by simpa using hi) (hk _ _ rfl (by simp only [RV]; exact ⟨b,p,cs,by simp only [d9j],hc,hs⟩))
  ·replace hx:=bind_some hx
   obtain ⟨⟨E,m,k⟩,ha,hx⟩:=hx
   replace hx:=b0F hx
   obtain ⟨i,_,hi,rfl,hx⟩:=hx
   obtain ⟨hT,hE⟩:=ht.arr _ _ _ _ ha
   simp only [RV] at h2
   obtain ⟨b,q',k',m',w,hc,h5⟩:=h2
   cases hx
   exact b7M h5 hjv h1 h3 hT hE (by simpa using hi) (hk _ _ rfl (by simp only [RV]; exact ⟨b,q',k',m',w,hc,by simp only [d9j]⟩))
  ·replace hx:=bind_some hx
   obtain ⟨E',hE,hx⟩:=hx
   simp only [RV] at h2
   obtain ⟨A,k,h5,h6,_⟩:=h2
   exact main _ hE _ _ ⟨A,k,h5,h6⟩ hx
  ·rename_i l
   replace hx:=bind_some hx
   obtain ⟨E',hE,hx⟩:=hx
   simp only [RV] at h2
   obtain ⟨pl,hc,h5⟩:=h2
   split at hx
   ·rename_i E xs ho
    obtain ⟨A,k,ow,k1,k2⟩:=hO _ _ ho
    rw [k1] at hc
    cases hc
    exact main _ hE E xs ⟨A,k,h5,k2.sl⟩ hx
   ·rename_i E xs ho
    obtain ⟨A,k,k1,k2⟩:=hO _ _ ho
    rw [k1] at hc
    cases hc
    exact main _ hE E xs ⟨A,k,h5,k2⟩ hx
   ·rename_i E xs ho
    obtain ⟨A,k,ow,k1,k2⟩:=hO _ _ ho
    rw [k1] at hc
    cases hc
    replace hx:=j8 hx
    obtain ⟨hb,hx⟩:=hx
    have e1:=d8s hb
    subst e1
    replace hx:=bind_some hx
    obtain ⟨x,hxx,hx⟩:=hx
    cases hx
    obtain ⟨hT,hsz⟩:=ht.el _ _ hE
    obtain ⟨h0,hxj⟩:=a92 hxx
    have hlt:j<(xs.length:Int):=by have:=(d8o.1 hxj).1; omega
    cases ow with
    | none =>
      rcases k2 with ⟨e,_⟩ | ⟨e,_⟩
      ·subst e; simp at hxj
      ·cases e
    | some g =>
      obtain ⟨cur,cs,e,_⟩:=k2
      subst e
      exact b9m h0 hlt h5 hjv h1 h3 hT hsz (hk _ _ rfl (by
       simp only [RV]
       exact ⟨g,0,k,xs.length,some g,k1,by simp only [d8Q,d9h]⟩))
   ·rename_i E xs ho
    obtain ⟨A,k,k1,k2⟩:=hO _ _ ho
    rw [k1] at hc
    cases hc
    replace hx:=j8 hx
    obtain ⟨hb,hx⟩:=hx
    have e1:=d8s hb
    subst e1
    replace hx:=bind_some hx
    obtain ⟨x,hxx,hx⟩:=hx
    cases hx
    obtain ⟨hT,hsz⟩:=ht.el _ _ hE
    obtain ⟨h0,hxj⟩:=a92 hxx
    have hlt:j<(xs.length:Int):=by have:=(d8o.1 hxj).1; omega
    obtain ⟨b',o',cj,e,_,_⟩:=k2.at_ hxj
    subst e
    exact a9p h0 hlt h5 hjv h1 h3 hT hsz (hk _ _ rfl (by
     simp only [RV]
     exact ⟨b',o',k,xs.length,none,k1,by simp only [d9h]⟩))
   ·rename_i E E1 u xs q0 ho
    obtain ⟨A,k,ow,k1,k2⟩:=hO _ _ ho
    rw [k1] at hc
    cases hc
    replace hx:=j8 hx
    obtain ⟨hb,hx⟩:=hx
    have e1:=d8s hb
    subst e1
    replace hx:=bind_some hx
    obtain ⟨x,hxx,hx⟩:=hx
    cases hx
    obtain ⟨hT,hsz⟩:=ht.el _ _ hE
    obtain ⟨h0,hxj⟩:=a92 hxx
    have hlt:j<(xs.length:Int):=by have:=(d8o.1 hxj).1; omega
    cases ow with
    | none =>
      rcases k2 with ⟨e,_⟩ | ⟨e,_⟩
      ·subst e; simp at hxj
      ·cases e
    | some g =>
      obtain ⟨cur,cs,e,_⟩:=k2
      subst e
      exact b9m h0 hlt h5 hjv h1 h3 hT hsz (hk _ _ rfl (by
       simp only [RV]
       exact ⟨g,0,k,xs.length,some g,k1,by simp only [d8Q,d9h]⟩))
   ·cases hx
  ·rename_i l sz lo
   replace hx:=bind_some hx
   obtain ⟨E',hE,hx⟩:=hx
   simp only [RV] at h2
   obtain ⟨b,k',m,w,hc,h5⟩:=h2
   split at hx
   ·rename_i E xs ho
    obtain ⟨A,k,ow,k1,k2⟩:=hO _ _ ho
    rw [k1] at hc
    cases hc
    replace hx:=j8 hx
    obtain ⟨hb,hx⟩:=hx
    simp only [d8p] at hb
    have e1:=d8s hb.1
    have e2:=d8s hb.2
    subst e1
    subst e2
    replace hx:=bind_some hx
    obtain ⟨x,hxx,hx⟩:=hx
    cases hx
    obtain ⟨hT,hsz⟩:=ht.el _ _ hE
    obtain ⟨h0,hxj⟩:=a92 hxx
    have hlt:j<((xs.length-lo:Nat):Int):=by have:=(d8o.1 hxj).1; rw [d83] at this; omega
    exact a9p h0 hlt h5 hjv h1 h3 hT hsz (hk _ _ rfl (by
     simp only [RV]
     exact ⟨b,0,_,xs.length,_,k1,by simp only [d8W,d9h,d8Q]⟩))
   ·cases hx
  ·cases hx
 ·rename_i T x y
  replace hx:=bind_some hx
  obtain ⟨p,hp,hx⟩:=hx
  replace hx:=bind_some hx
  obtain ⟨q,hq,hx⟩:=hx
  obtain ⟨h1,h2⟩:=E1 hp
  obtain ⟨h3,h4⟩:=E1 hq
  split at hx
  ·rename_i t k j
   replace hx:=j8 hx
   obtain ⟨hb,hx⟩:=hx
   replace hx:=bind_some hx
   obtain ⟨e1,he,hx⟩:=hx
   simp only [RV] at h2 h4
   cases hx
   exact c98 _ _ _ h2 h4 h1 h3 (d6T (ht.isStr _ hb) he) (hk _ _ rfl (by simp only [RV]))
  ·replace hx:=bind_some hx
   obtain ⟨j,hj,hx⟩:=hx
   replace hx:=bind_some hx
   obtain ⟨⟨E,m,k⟩,ha,hx⟩:=hx
   replace hx:=bind_some hx
   obtain ⟨ls,hls,hx⟩:=hx
   replace hx:=b0F hx
   obtain ⟨i,_,hi,rfl,hx⟩:=hx
   replace hx:=bind_some hx
   obtain ⟨z,hz,hx⟩:=hx
   have hjv:RV X c σ (.int .i64 (Int.ofNat i):PV I) (ev F y):=by
    unfold asI at hj
    split at hj
    ·cases hj; exact h4
    ·cases hj
   simp only [RV] at hjv
   obtain ⟨hT,hE⟩:=ht.arr _ _ _ _ ha
   obtain ⟨cs,e,hl⟩:=b2l hls h2
   obtain ⟨r,hr,hp⟩:=c4z (w:=σ.w) ht hz hl
   cases hx
   exact c98 _ _ _ e hjv h1 h3 (d6O hT hE (by simpa using hi) hp) (hk _ _ rfl hr)
 ·replace hx:=bind_some hx
  obtain ⟨p,hp,hx⟩:=hx
  obtain ⟨h1,h2⟩:=E1 hp
  split at hx
  ·replace hx:=bind_some hx
   obtain ⟨z,hz,hx⟩:=hx
   simp only [RV] at h2
   obtain ⟨cs,h3,h4⟩:=h2
   obtain ⟨v,hv,hr⟩:=RVs.at_ _ _ h4 _ _ hz
   cases hx
   exact d2h cs v h3 h1 hv (hk _ _ rfl hr)
  ·cases hx
 ·replace hx:=bind_some hx
  obtain ⟨p,hp,hx⟩:=hx
  obtain ⟨h1,h2⟩:=E1 hp
  split at hx
  ·have h2':=h2
   simp only [RV] at h2
   obtain ⟨b,w,h3,h4⟩:=h2
   cases hx
   rw [h4] at h2'
   exact a2P _ h4 h1 (hk _ _ rfl h2')
  ·have h2':=h2
   simp only [RV] at h2
   obtain ⟨b,q,cs,h3,_⟩:=h2
   cases hx
   rw [h3] at h2'
   exact a2P _ h3 h1 (hk _ _ rfl h2')
  ·have h2':=h2
   simp only [RV] at h2
   obtain ⟨b,q,k,m,w,_,h4⟩:=h2
   cases hx
   rw [h4] at h2'
   exact a2P _ h4 h1 (hk _ _ rfl h2')
  ·cases hx
 ·replace hx:=bind_some hx
  obtain ⟨p,hp,hx⟩:=hx
  obtain ⟨h1,h2⟩:=E1 hp
  split at hx
  ·replace hx:=bind_some hx
   obtain ⟨ka,hka,hx⟩:=hx
   replace hx:=bind_some hx
   obtain ⟨kb,hkb,hx⟩:=hx
   simp only [RV] at h2
   cases hx
   exact b93 _ _ h2 h1 (d7d (by rw [ht.ik _ _ hka]; rfl) (ht.ik _ _ hkb)) (hk _ _ rfl (by simp only [RV,wr]))
  ·replace hx:=j8 hx
   obtain ⟨hb,hx⟩:=hx
   replace hx:=bind_some hx
   obtain ⟨E,hE,hx⟩:=hx
   replace hx:=j8 hx
   obtain ⟨h8,hx⟩:=hx
   replace hx:=bind_some hx
   obtain ⟨xs,hxs,hx⟩:=hx
   cases hx
   obtain ⟨A,q,cs,e1,f1,f2⟩:=d3U hO hxs h2
   obtain ⟨u1,u2⟩:=ht.u8 _ h8
   exact b93 _ _ e1 h1 (d6W ((ht.el _ _ hE).1) u1 (ht.isStr _ hb) (c2M ht h8 f1) (by rw [(c2M ht h8 f1).len,d8L]) fun hn=>f2 fun e=>hn (by rw [e]; rfl)) (hk _ _ rfl (by simp only [RV]; rfl))
 ·rename_i T ps
  replace hx:=bind_some hx
  obtain ⟨pl,hpl,hx⟩:=hx
  replace hx:=bind_some hx
  obtain ⟨zs,hzs,hx⟩:=hx
  replace hx:=bind_some hx
  obtain ⟨qs,hqs,hx⟩:=hx
  replace hx:=bind_some hx
  obtain ⟨ls,hls,hx⟩:=hx
  obtain ⟨cz,hT,hz⟩:=ht.flds _ _ _ hpl hzs
  obtain ⟨k1,k2⟩:=d2R hG hqs
  obtain ⟨co,k3,k4⟩:=c7G ht pl qs _ _ _ _ hls (hz X c σ) k2
  cases hx
  have e:ps=ps.toList.toArray:=by simp
  rw [e]
  rcases hT with hT | hT
  ·exact d5z hT _ co rfl k1 k3 (hk _ _ rfl (a8i k4))
  ·exact d3A hT _ co rfl k1 k3 (hk _ _ rfl (a8i k4))
 ·rename_i f xs ys
  split at hx
  ·rename_i e
   replace hx:=bind_some hx
   obtain ⟨ps,hps,hx⟩:=hx
   obtain ⟨k1,k2⟩:=b2C hG hps
   cases hx
   have e1:xs=d84 []:=by rw [<- e]
   have e2:ys=ys.toList.toArray:=by simp
   rw [e1,e2]
   exact c3P [] _ rfl rfl (by simp [k1]) (hk _ _ rfl (by simp only [RV]; exact ⟨_,rfl,k2⟩))
  ·rename_i x0 xs0 e
   split at hx
   ·rename_i ey
    replace hx:=bind_some hx
    obtain ⟨ps,hps,hx⟩:=hx
    obtain ⟨k1,k2⟩:=b2C hG hps
    cases hx
    have e1:xs=d84 (x0::xs0):=by rw [<- e]
    have e2:ys=d84 []:=by rw [<- ey]
    rw [e1,e2]
    exact c3P _ [] rfl rfl (by rw [k1]; rfl) (hk _ _ rfl (by simp only [RV]; exact ⟨_,rfl,k2⟩))
   ·cases hx
 ·cases hx
end
end
end Go.Qx
end
section
open Array renaming getElem?_toList->d8F,length_toList->d8R
open Bool renaming and_eq_true->d8p,not_eq_true'->d9N
open List renaming append_assoc->d8E,append_nil->d82,getElem?_append_left->d8H,getElem?_append_right->d8z,getElem?_drop->d9e,getElem?_eq_some_iff->d8o,getElem?_take_of_lt->d8K,length_append->d8t,length_cons->d8v,length_drop->d83,length_nil->d8I,length_take->d8G,replicate->d8D,size_toArray->d9P,take_append->d91,take_append_drop->d88,take_left->d9l,take_of_length_le->d97,toArray->d84
open Nat renaming add_assoc->d9j,add_mul->d8W,add_sub_cancel_left->d9a,beq->d8u,ble_eq_true_of_le->d9F,eq_of_beq_eq_true->d8s,le_mul_of_pos_right->d9Q,le_of_ble_eq_true->d8N,le_refl->d8r,le_trans->d8C,min_eq_left->d9x,mul_le_mul_right->d8J,one_mul->d90,zero_add->d8Q,zero_le->d8w
open Option renaming getD_none->e0b,getD_some->d9u,map_some->d85
namespace Go.Qx
open Go Go.RowKit Go.Sx
section
variable {I:TypeId->Type} [∀ E,Rp (I E)] {P:Program}{tb:Tab I}{X:Cxt}{c c':Cx}{σ τ:S}{s:St I}{n:Nat}{F:Fr}{O:Obs I}
theorem Rel.newVar (h:Rel X c σ s n F){nb:Nat}{T:TypeId}{ls:List (PV I)}{cs:List Value}{b:Nat}(hnb:s.O nb=none)(hE:Ext σ τ)(hb:Blk σ.N 0 τ b T cs)(hl:RG X c τ ls cs) :
 Cx.le c (a0D c nb ⟨some ⟨b,0,none⟩,0,0,some b⟩)/\Rel X (a0D c nb ⟨some ⟨b,0,none⟩,0,0,some b⟩) τ (Y5 s nb (some (.var T ls true))) n F:=by
 have h':=h.step (Stp.ext hE)
 have hle:Cx.le c (a0D c nb ⟨some ⟨b,0,none⟩,0,0,some b⟩):=b2h (h.nom nb hnb)
 refine h'.add hnb (fun g hg=>?_) ⟨b,cs,Q5 _ _ _,RG.grow hle _ _ hl,hb.2.1,fun _=>by rw [hb.2.2],fun e=>by cases e⟩
 cases hg
 refine ⟨.inl (d8C h.base.1 hb.1),h.freshN (Stp.ext hE) hb.1,fun l' p' ⟨o,ho⟩ hc hw=>?_⟩
 have:=(h.objs l' o ho).lt hc hw
 have:=hb.1
 omega
theorem Rel.newRow (h:Rel X c σ s n F){nb:Nat}{E:TypeId}{xs:List (I E)}{fl:Bool}{A:Option Addr}{k:Nat}{ow:Option Nat}(hnb:s.O nb=none)(ho:a0a ow fl E σ xs A k)
 (hw:∀ g,ow=some g->X.M g/\notIn c σ s g/\∀ l' p',Y7 s l'->c l'=some p'->p'.w≠some g) :
 Cx.le c (a0D c nb ⟨A,k,xs.length,ow⟩)/\Rel X (a0D c nb ⟨A,k,xs.length,ow⟩) σ (Y5 s nb (some (.row E xs fl))) n F :=
 h.add hnb hw ⟨A,k,ow,Q5 _ _ _,ho⟩
omit [∀ E,Rp (I E)] in
theorem a3V {O:Obs I}{nb:Nat}{o:Ob I}(h:a2A O nb [o]=true):O nb=none:=by
 simp only [a2A,Bool.and_true] at h
 simpa using h
theorem Rel.newMap (h:Rel X c σ s n F){nb:Nat}{T:TypeId}{kd:Kd}{m:List (ByteArray×Ty I kd)}(hnb:s.O nb=none)(hE:Ext σ τ)(hm:a8I τ kd m σ.N) :
 Cx.le c (a0D c nb ⟨some ⟨σ.N,0,none⟩,0,0,some σ.N⟩)/\Rel X (a0D c nb ⟨some ⟨σ.N,0,none⟩,0,0,some σ.N⟩) τ (Y5 s nb (some (.map T kd m))) n F:=by
 have h':=h.step (Stp.ext hE)
 refine h'.add hnb (fun g hg=>?_) ⟨σ.N,Q5 _ _ _,hm⟩
 cases hg
 refine ⟨.inl h.base.1,h.freshN (Stp.ext hE) (d8r _),fun l' p' ⟨o,ho⟩ hc hw=>?_⟩
 have:=(h.objs l' o ho).lt hc hw
 omega
omit [∀ E,Rp (I E)] in
theorem d1x {E:TypeId}{p:PV I}{lo hi mx:Option Operand}{l:Nat}{xs:List (I E)}{y:Operand}(h:d1n O E p lo hi mx=some (l,xs,y)):p=.vw l/\lo=none/\hi=some y/\mx=none/\O l=some (some (.row E xs false)):=by
 unfold d1n at h
 split at h
 ·split at h
  ·rename_i l0 x0 E' xs0 ho
   replace h:=bind_some h
   obtain ⟨ys,hys,h⟩:=h
   obtain ⟨e,e'⟩:=a0l hys
   subst e
   subst e'
   cases h
   exact ⟨rfl,rfl,rfl,rfl,ho⟩
  ·cases h
 ·cases h
theorem d5v {T E:TypeId}{A:Option Addr}{len k sz:Nat}{h:Int}{w:World}(h0:0<=h)(hle:h<=(k:Int))(hT:P.underlying T=some (.slice E))(hE:(P.info? E).map (·.size)=some sz) :
 Z7 P w (Instr.sliceAt T (.slice A len k) none (some (.int .i64 h)) none) (.slice A h.toNat k):=by
 have hsz:=Sx.run_sizeOf hE w
 simp only [Z7,Instr.sliceAt,Instr.slice,Instr.sliceBounds,Instr.sliceBound,asIntOf,Sem.run_bind,run_underlying hT,Result.andThen_ok,Sem.run_pure,if_pos (And.intro h0 hle),hsz]
 have e:Option.map (fun x:Addr=>x.add (0*sz)) A=A:=by cases A<;>simp [Addr.add]
 rw [e,Nat.sub_zero,Nat.sub_zero]
 by_cases hk:k=0<;>simp [hk]
omit [∀ E,Rp (I E)] in
theorem c9V {E:TypeId}{p:PV I}{lo hi mx:Option Operand}{l:Nat}{xs:List (I E)}{y:Operand}(h:c9b O E p lo hi mx=some (l,xs,y)):p=.vw l/\lo=some y/\hi=none/\mx=none/\O l=some (some (.row E xs false)):=by
 unfold c9b at h
 split at h
 ·split at h
  ·rename_i l0 x0 E' xs0 ho
   replace h:=bind_some h
   obtain ⟨ys,hys,h⟩:=h
   obtain ⟨e,e'⟩:=a0l hys
   subst e
   subst e'
   cases h
   exact ⟨rfl,rfl,rfl,rfl,ho⟩
  ·cases h
 ·cases h
theorem d0H {q:PV I}{j:Int}{v:Value}(hj:asI q=some j)(hv:RV X c σ q v):v=.int .i64 j:=by
 unfold asI at hj
 split at hj
 ·cases hj; simpa only [RV] using hv
 ·cases hj
theorem c7J {T:TypeId}{s t:ByteArray}{w:World}(l h:Option Int)(hT:P.underlying T=some .string)(hc:c8w s (l.getD 0) (h.getD (s.size:Int))=some t) :
 Z7 P w (Instr.sliceAt T (.string s) (l.map fun j=>.int .i64 j) (h.map fun j=>.int .i64 j) none) (.string t):=by
 unfold c8w at hc
 split at hc
 ·rename_i hb
  cases hc
  obtain ⟨h0,h1,h2⟩:=hb
  cases l with
  | none =>
    cases h with
    | none =>
      simp only [Z7,Instr.sliceAt,Instr.slice,Instr.sliceBounds,Instr.sliceBound,asIntOf,Sem.run_bind,run_underlying hT,Result.andThen_ok,Sem.run_pure,Option.map_none,e0b]
      simp
    | some j =>
      simp only [d9u,e0b] at h0 h1 h2
      simp only [Z7,Instr.sliceAt,Instr.slice,Instr.sliceBounds,Instr.sliceBound,asIntOf,Sem.run_bind,run_underlying hT,Result.andThen_ok,Sem.run_pure,Option.map_none,d85,if_pos (And.intro h1 h2),d9u,e0b]
      simp
      intro a
      exact absurd (a h1) (by omega)
  | some i =>
    cases h with
    | none =>
      simp only [d9u,e0b] at h0 h1 h2
      simp only [Z7,Instr.sliceAt,Instr.slice,Instr.sliceBounds,Instr.sliceBound,asIntOf,Sem.run_bind,run_underlying hT,Result.andThen_ok,Sem.run_pure,Option.map_none,d85,if_pos (And.intro h0 h1),d9u,e0b]
      simp
      intro a
      exact absurd (a h0) (by omega)
    | some j =>
      simp only [d9u] at h0 h1 h2
      have h3:i<=((j.toNat:Nat):Int):=by omega
      simp only [Z7,Instr.sliceAt,Instr.slice,Instr.sliceBounds,Instr.sliceBound,asIntOf,Sem.run_bind,run_underlying hT,Result.andThen_ok,Sem.run_pure,d85,if_pos (And.intro (Int.le_trans h0 h1) h2),if_pos (And.intro h0 h3),d9u]
      simp
      rw [if_pos (And.intro (Int.le_trans h0 h1) h2),if_pos (And.intro h0 (by omega))]
 ·cases hc
omit [∀ E,Rp (I E)] in
theorem d2I {T:TypeId}{p v:PV I}{lo hi mx:Option Operand}(h:d3D tb T p lo hi mx=some v):∃ l o E m k,p=.ptr l o/\lo=none/\hi=none/\mx=none/\v=.av l o m/\tb.arr T=some (E,m,k):=by
 unfold d3D at h
 split at h
 ·replace h:=bind_some h
  obtain ⟨⟨E,m,k⟩,ha,h⟩:=h
  cases h
  exact ⟨_,_,E,m,k,rfl,rfl,rfl,rfl,rfl,ha⟩
 ·cases h
theorem d2Z {T E:TypeId}{b o m k:Nat}{w:World}(hT:P.underlying T=some (.array m E))(hE:(P.info? E).map (·.size)=some k) :
 Z7 P w (Instr.sliceAt T (.pointer (some ⟨b,o,none⟩)) none none none) (.slice (some ⟨b,o,none⟩) m m):=by
 have hsz:=Sx.run_sizeOf hE w
 simp only [Z7,Instr.sliceAt,Instr.sureAddr,Instr.sliceBounds,Instr.sliceBound,asIntOf,Sem.run_bind,run_underlying hT,Result.andThen_ok,Sem.run_pure,hsz]
 simp [Addr.add_mid]
theorem c6d (ht:TabOk P tb){O:Obs I}{LS:List Nat}(hS:a2w X c σ O LS){E:TypeId}:∀ {m:Nat} {ls:List (PV I)} {xs:List (I E)} {ps:List Nat} {cs:List Value},c8P tb O E m ls=some (xs,ps)->(∀ l∈ps,l∈LS)->RG X c σ ls cs->xs.length=m/\∃ d e,cs=d++e/\J6 σ xs d
 | 0,_,_,_,cs,h,_,_=>by cases h; exact ⟨rfl,[],cs,rfl,rfl⟩
 | m+1,ls,xs,ps,cs,h,hl,hg=>by
   replace h:=bind_some h
   obtain ⟨r,hr,h⟩:=h
   replace h:=bind_some h
   obtain ⟨x,hx,h⟩:=h
   replace h:=bind_some h
   obtain ⟨t,htt,h⟩:=h
   cases h
   obtain ⟨c1,c2,rfl,k1,k2,k3⟩:=a4N ht (a:=r.1) (b:=r.2) hr hg
   have hd:=a5Q ht hS (ls:=x.2) hx (fun l hm=>hl l (by simp [hm])) (a8i k2)
   obtain ⟨q1,d,e,rfl,q2⟩:=c6d ht hS (ps:=t.2) htt (fun l hm=>hl l (by simp [hm])) k3
   obtain ⟨cx,e1,e2⟩:=hd
   have:c1=cx:=by
    injection e1 with e1
    have:=congrArg Array.toList e1
    simpa using this
   subst this
   exact ⟨by simp [q1],c1++d,e,by rw [d8E],c1,d,rfl,e2,q2⟩
theorem d5g (ht:TabOk P tb){O:Obs I}{s1:St I}(h:Rel X c σ s1 n F){LS:List Nat}(hS:a2w X c σ O LS){E:TypeId}{p:PV I}{x:List (I E)}{ls:List Nat}(hx:d3s tb O E p=some (x,ls))(hl:∀ l∈ls,l∈LS)
 (hO:∀ l T vs w,O l=some (some (.var T vs w))->l ∉ ls->s1.O l=some (some (.var T vs w))) {v:Value} (hv:RV X c σ p v):∃ A k,v=.slice A x.length k/\Bor NoB σ x A:=by
 unfold d3s at hx
 split at hx
 ·rename_i l o m
  split at hx
  ·rename_i T vs w ho
   replace hx:=bind_some hx
   obtain ⟨q,hq,hx⟩:=hx
   replace hx:=bind_some hx
   obtain ⟨t,htt,hx⟩:=hx
   cases hel:t.2.elem l with
   | true=>rw [hel] at hx; cases hx
   | false =>
     rw [hel] at hx
     cases hx
     have hnl:l ∉ ls:=by simpa using hel
     obtain ⟨b,cs,k1,k2,k3,_⟩:=h.objs l _ (hO l T vs w ho hnl)
     obtain ⟨c1,c2,rfl,m1,m2,m3⟩:=a4N ht (a:=q.1) (b:=q.2) hq k2
     obtain ⟨q1,d,e,rfl,q2⟩:=c6d ht hS htt hl m3
     simp only [RV] at hv
     obtain ⟨b',k,m',w',k4,rfl⟩:=hv
     rw [k1] at k4
     injection k4 with k4
     injection k4 with k5
     injection k5 with k5
     injection k5 with k5
     subst k5
     refine ⟨some ⟨b,o,none⟩,m,by rw [q1],d,q2,fun _=>⟨b,o,rfl,fun i v hi=>?_,.inr fun h=>h⟩⟩
     have hil:=(d8o.1 hi).1
     simp only [World.cell?,k3]
     rw [<- m1,<- d8F]
     simp only [d8z (Nat.le_add_right _ _),d9a,d8H hil]
     exact hi
  ·cases hx
 ·obtain ⟨A,k,e,hs⟩:=c3h hS hx hl hv
  exact ⟨A,k,e,Bor.of_sl hs⟩
theorem d42 {ty:TypeId}(ht:TabOk P tb){O:Obs I}{s1:St I}{T T' E:TypeId}{by_:Nat}(hE:tb.el T=some E)(hby:tb.bytes E=some by_)(h:Rel X c σ s1 n F){LS:List Nat}(hS:a2w X c σ O LS){p:PV I}{x:List (I E)}{ls:List Nat}(hx:d3h tb O E T T' p=some (x,ls))(hl:∀ l∈ls,l∈LS)
 (hO:∀ l T vs w,O l=some (some (.var T vs w))->l ∉ ls->s1.O l=some (some (.var T vs w))) {v:Value} (hv:RV X c σ p v):ApS P ty T T' E by_ σ v x:=by
 obtain ⟨z,hT⟩:=ht.slice _ _ _ hE hby
 unfold d3h at hx
 cases hTT:d8u T' T with
 | true =>
   rw [hTT] at hx
   have e:=d8s hTT
   subst e
   obtain ⟨A,k,e,hb⟩:=d5g ht h hS hx hl hO hv
   rw [e]
   exact d5S hb hT
 | false =>
   rw [hTT] at hx
   replace hx:=j8 hx
   obtain ⟨hstr,hx⟩:=hx
   replace hx:=bind_some hx
   obtain ⟨t,htt,hx⟩:=hx
   replace hx:=bind_some hx
   obtain ⟨g,hg,hx⟩:=hx
   cases hx
   unfold d1c at htt
   split at htt
   ·cases htt
    simp only [RV] at hv
    rw [hv]
    exact d5h (ht.u8g _ _ hg) hT (ht.isStr _ hstr)
   ·cases htt
theorem d5W {T E:TypeId}{g len k sz:Nat}{j:Int}{w:World}(h0:0<=j)(hlt:j<(len:Int))(hle:len<=k)(hT:P.underlying T=some (.slice E))(hE:(P.info? E).map (·.size)=some sz) :
 Z7 P w (Instr.sliceAt T (.slice (some ⟨g,0,none⟩) len k) (some (.int .i64 j)) none none) (.slice (some ⟨g,j.toNat*sz,none⟩) (len-j.toNat) (k-j.toNat)):=by
 have hne:k≠j.toNat:=by omega
 have hjl:j<=(len:Int):=by omega
 simp only [Z7,Instr.sliceAt,Instr.slice,Instr.sliceBounds,Instr.sliceBound,asIntOf,Sem.run_bind,run_underlying hT,Result.andThen_ok,Sem.run_pure,if_pos (And.intro h0 hjl),Sx.run_sizeOf hE,if_neg hne,d85,Addr.add_mid,d8Q]
omit [∀ E,Rp (I E)] in
theorem d5G [∀ E,Rp (I E)] {E:TypeId}{zs:List (PV I)}{xs:List (I E)}:d1b tb E zs xs=.row E xs false\/∃ E' u r,d1b tb E zs xs=.nst E E' u xs 0/\a6i tb 300 u zs=some r/\c01 tb 300 r.2=some (.nl E'):=by
 unfold d1b
 split
 ·rename_i q hq
  split
  ·rename_i r hr
   split
   ·rename_i E' hh
    cases hb:d8u E' q.1 with
    | true =>
      have e:=d8s hb
      subst e
      exact .inr ⟨_,q.2,r,rfl,hr,hh⟩
    | false=>exact .inl rfl
   ·exact .inl rfl
  ·exact .inl rfl
 ·exact .inl rfl
theorem Rel.newNest (h:Rel X c σ s n F){nb k u:Nat}{E E':TypeId}{xs:List (I E)}(hst:Stp NoB σ τ)(hnb:s.O nb=none)(hown:a0a (some σ.N) false E τ xs (some ⟨σ.N,0,none⟩) k)
 (hcell:∀ i,i<xs.length->∃ A,τ.w.cell? ⟨σ.N,i*Rp.sz (I E)+u,none⟩=some (.slice A 0 0)) :
 Cx.le c (a0D c nb ⟨some ⟨σ.N,0,none⟩,k,xs.length,some σ.N⟩)/\Rel X (a0D c nb ⟨some ⟨σ.N,0,none⟩,k,xs.length,some σ.N⟩) τ (Y5 s nb (some (.nst E E' u xs 0))) n F:=by
 have h':=h.step hst
 have hle:Cx.le c (a0D c nb ⟨some ⟨σ.N,0,none⟩,k,xs.length,some σ.N⟩):=b2h (h.nom nb hnb)
 have hne:∀ {l},l≠nb->a0D c nb ⟨some ⟨σ.N,0,none⟩,k,xs.length,some σ.N⟩ l=c l:=fun e=>by simp [a0D,e]
 refine h'.addG hnb (fun g hg=>?_) ⟨_,_,_,Q5 _ _ _,hown⟩ ?_
 ·cases hg
  refine ⟨.inl h.base.1,fun l' p' ⟨o,ho⟩ hc hw=>?_⟩
  have:=(h.objs l' o ho).lt hc hw
  omega
 ·have hI:∀ {l i E1 v},a0M (a0D c nb ⟨some ⟨σ.N,0,none⟩,k,xs.length,some σ.N⟩) τ (upF s.O nb (some (.nst E E' u xs 0))) l i E1 v->(∃ A,v=.slice A 0 0)\/(l≠nb/\a0M c τ s.O l i E1 v):=fun {l i E1 v} ⟨E2,u2,xs2,q2,g,kk,m,w,h1,h2,h3,h4,h5⟩=>by
   rcases Z2 h1 with ⟨e,e2⟩ | ⟨e,e2⟩
   ·cases e2
    subst e
    rw [Q5] at h2
    cases h2
    obtain ⟨A,hA⟩:=hcell i h3
    rw [hA] at h5
    cases h5
    exact .inl ⟨A,rfl⟩
   ·rw [hne e] at h2
    exact .inr ⟨e,E2,u2,xs2,q2,g,kk,m,w,e2,h2,h3,h4,h5⟩
  have hB:∀ {l i b},InB (a0D c nb ⟨some ⟨σ.N,0,none⟩,k,xs.length,some σ.N⟩) τ (upF s.O nb (some (.nst E E' u xs 0))) l i b->l≠nb/\InB c τ s.O l i b:=fun ⟨E1,v,h1,h2⟩=>by
   rcases hI h1 with ⟨A,rfl⟩ | ⟨a1,a2⟩
   ·cases A<;>cases h2
   ·exact ⟨a1,E1,v,a2,h2⟩
  refine ⟨fun l E1 E2 u1 xs1 q e i hi hq=>?_,fun l i b hb=>h'.nst.mine l i b (hB hb).2,fun l i b hb l' o p' ho' hc' hw'=>?_,fun l i b l' i' h1 h2=>h'.nst.inj l i b l' i' (hB h1).2 (hB h2).2⟩
  ·rcases Z2 e with ⟨e1,e2⟩ | ⟨e1,e2⟩
   ·cases e2
    subst e1
    obtain ⟨A,hA⟩:=hcell i hi
    refine ⟨_,⟨_,_,_,_,σ.N,k,xs.length,some σ.N,J3 _ _ _,Q5 _ _ _,hi,hq,hA⟩,[],A,0,rfl,?_⟩
    have:a5R (.slice A 0 0)=none:=by cases A<;>rfl
    rw [this]
    exact .inl ⟨rfl,rfl⟩
   ·obtain ⟨v,⟨E3,u3,xs3,q3,g,kk,m,w,h1,h2,h3⟩,k2⟩:=h'.nst.opn l _ _ _ _ _ e2 i hi hq
    exact ⟨v,⟨E3,u3,xs3,q3,g,kk,m,w,by rw [J2 e1]; exact h1,by rw [hne e1]; exact h2,h3⟩,k2⟩
  ·rcases Z2 ho' with ⟨e1,_⟩ | ⟨e1,e2⟩
   ·subst e1
    rw [Q5] at hc'
    cases hc'
    cases hw'
    exact h.freshN hst (d8r _) l i (hB hb).2
   ·rw [hne e1] at hc'
    exact h'.nst.free l i b (hB hb).2 l' o p' e2 hc' hw'
theorem c2e (ht:TabOk P tb)(h:Rel X c σ s n F){l j o k b u q:Nat}{E E' E2 T:TypeId}{xs:List (I E)}{ys:List (I E2)}{x0 x1:I E}{ls':List (PV I)}{x y:Operand}{d:Option Tmp}{ty:TypeId}{pos:String}{aft:Array Edge}
 {ops:Array Oper} {Q:Exit->Act->World->Prop} {rest:List Oper} (ho:s.O l=some (some (.nst E E' u xs q))) (hc:c l=some ⟨some ⟨b,0,none⟩,k,xs.length,some b⟩) (hxj:xs[j]?=some x0) (hls:b7u tb o [.sl E2 ys false] [.dat E x0]=some ls') (hx1:ofG tb E ls'=some x1)
 (hxv:ev F x=.pointer (some ⟨b,j*Rp.sz (I E)+o,none⟩)) (h1:Q2 n x=true) (h3:Q2 n y=true) {v2:Value} (hyv:(ev F y).cells.toList=[v2]) (hsl:RV X c σ (.sl E2 ys false) v2) (hsz:(P.info? T).map (·.size)=some 1) (hone:v2.oneCell'=true)
 (hk:∀ υ,Stp (fun b'=>b'=b) σ υ->X6 X c υ l (.nst E E' u (xs.set j x1) q)->(∀ i,i≠j*Rp.sz (I E)+o->υ.w.cell? ⟨b,i,none⟩=σ.w.cell? ⟨b,i,none⟩)->υ.w.cell? ⟨b,j*Rp.sz (I E)+o,none⟩=some v2->o<Rp.sz (I E) ->
   wpList P ops Q rest (fr n (J9 F d undef)) υ.w):wpList P ops Q (⟨d,.store T x y,ty,pos,aft,none⟩::rest) (fr n F) σ.w:=by
 obtain ⟨A,kk,ow,k1,k2⟩:=h.objs l _ ho
 rw [hc] at k1
 cases k1
 obtain ⟨cur,cs,e,hh,a1,a2,a3,a4,a5,a6⟩:=k2
 obtain ⟨c1,cj,c2,e1,e2,e3,e4⟩:=c06 a4 hxj
 have hlt:RG X c σ [(.sl E2 ys false:PV I)] [v2]:=RG.single rfl hsl
 obtain ⟨g4,g5⟩:=b7U ht hls (RG.one (X:=X) (c:=c) e3) hlt
 have g4:o+1<=cj.length:=g4
 have hcsl:=a4.len
 have hcur:cur.toList=c1++cj++c2++cur.toList.drop (xs.length*Rp.sz (I E)):=by
  rw [<- e1,<- a5]; exact (d88 _ _).symm
 have hszj:cj.length=Rp.sz (I E):=Rp.len e3
 have hB:Blk 0 b (can σ) b E cur.toList:=⟨d8w _,by show σ.w.heap[b]?=_; simpa using hh,by show ((σ.L b).1,b)=_; rw [show (σ.L b).1=0 from a6]⟩
 have hle:j*Rp.sz (I E)+o+[v2].length<=cur.toList.length:=by
  rw [hcur]
  simp only [d8t,e2,d8v,d8I]
  omega
 have hnew:cur.toList.take (j*Rp.sz (I E)+o)++[v2]++cur.toList.drop (j*Rp.sz (I E)+o+[v2].length)=c1++(cj.take o++[v2]++cj.drop (o+[v2].length))++c2++cur.toList.drop (xs.length*Rp.sz (I E)):=by
  have f1:cur.toList.take (j*Rp.sz (I E)+o)=c1++cj.take o:=by
   rw [hcur,d8E,d8E,<- e2,d91,d9a,d97 (by omega),d91,show o-cj.length=0 from by omega]
   simp
  have f2:cur.toList.drop (j*Rp.sz (I E)+o+[v2].length)=cj.drop (o+[v2].length)++c2++cur.toList.drop (xs.length*Rp.sz (I E)):=by
   conv=>lhs; rw [hcur]
   rw [d8E,d8E,<- e2,d9j,List.drop_append,List.drop_of_length_le (by omega),d9a,List.drop_append,show o+[v2].length-cj.length=0 from by simp only [d8v,d8I]; omega]
   simp
  rw [f1,f2]
  simp only [d8E]
 show wpList P ops Q _ (fr n F) (can σ).w
 refine c1d hB (j*Rp.sz (I E)+o) _ [v2] _ hxv rfl h1 h3 hyv hsz (by simpa using hone) (d9F hle) hnew fun υ hMod hB'=>?_
 have hst2:=c1b hMod
 have hM:X.M b:=h.mine l _ b ⟨_,ho⟩ hc rfl
 have hstM:Stp X.M σ υ:=hst2.mono fun _ _ e=>by rw [e]; exact hM
 have hheap:=hB'.2.1
 have hat:∀ i,υ.w.cell? ⟨b,i,none⟩=(cur.toList.take (j*Rp.sz (I E)+o)++[v2]++cur.toList.drop (j*Rp.sz (I E)+o+[v2].length))[i]?:=fun i=>by
  unfold World.cell?
  rw [hheap,hnew]
  simp
 have hat0:∀ i,σ.w.cell? ⟨b,i,none⟩=cur.toList[i]?:=fun i=>by
  unfold World.cell?
  rw [hh]
  simp
 have hl0:(cur.toList.take (j*Rp.sz (I E)+o)).length=j*Rp.sz (I E)+o:=by
  rw [d8G]
  simp only [d8v,d8I] at hle
  omega
 refine hk υ hst2 ⟨some ⟨b,0,none⟩,k,some b,by simpa using hc,(c1++(cj.take o++[v2]++cj.drop (o+[v2].length))++c2++cur.toList.drop (xs.length*Rp.sz (I E))).toArray,c1++(cj.take o++[v2]++cj.drop (o+[v2].length))++c2,rfl,hB'.2.1,by simpa using a1,a2,?_,?_,?_,by rw [hB'.2.2]; rfl⟩ (fun i hi=>?_) ?_ (by omega)
 ·rw [<- hnew]
  simp only [d9P,d8t,d8G,d83]
  rw [<- a3,<- d8R]
  omega
 ·exact e4 υ x1 _ hstM.wext (c4k ht hx1 (RG.step hstM _ _ g5))
 ·rw [List.length_set]
  have hl1:(c1++(cj.take o++[v2]++cj.drop (o+[v2].length))++c2).length=xs.length*Rp.sz (I E):=by
   rw [<- hcsl,e1]
   simp only [d8t,d8G,d83,d8v,d8I]
   omega
  rw [<- hl1]
  exact d9l
 ·rw [hat,hat0]
  rcases Nat.lt_or_ge i (j*Rp.sz (I E)+o) with hlt' | hge
  ·rw [d8E,d8H (by rw [hl0]; exact hlt'),d8K hlt']
  ·rw [d8z (by simp only [d8t,d8v,d8I]; rw [hl0]; omega),d9e]
   congr 1
   simp only [d8t,d8v,d8I]
   rw [hl0]
   omega
 ·rw [hat,d8E,d8z (by rw [hl0]; exact d8r _),hl0,Nat.sub_self]
  rfl
theorem d3V (ht:TabOk P tb){disp:a0f I}(h:Rel X c σ s n F){G:Nat->Option (PV I)}(hG:b1j X c σ G F)(hO0:∀ l o,O l=some (some o)->s.O l=some (some o)){e:Ef I}{nb:Nat}{T:TypeId}{x:Operand}{d:Option Tmp}{ty:TypeId}{pos:String}{aft:Array Edge}
 (hx:eff tb disp n G O nb ty (.load T x) some=some e) (hne:e.new≠[]) (hf:a2A (apU s.O e.upd) nb e.new=true) {ops:Array Oper} {Q:Exit->Act->World->Prop} {rest:List Oper}
 (hk:∀ v τ c',Cx.le c c'->Rel X c' τ (apE s nb e) n F->RV X c' τ e.p v->Stp X.M σ τ->wpList P ops Q rest (fr n (J9 F d v)) τ.w):wpList P ops Q (⟨d,.load T x,ty,pos,aft,none⟩::rest) (fr n F) σ.w:=by
 unfold eff at hx
 replace hx:=bind_some hx
 obtain ⟨p,hp,hx⟩:=hx
 obtain ⟨h1,h2⟩:=b2Z hG hp
 split at hx
 ·split at hx
  ·replace hx:=bind_some hx
   obtain ⟨z,hz,hx⟩:=hx
   cases hx
   exact absurd rfl hne
  ·cases hx
 ·replace hx:=bind_some hx
  obtain ⟨z,hz,hx⟩:=hx
  cases hx
  exact absurd rfl hne
 ·rename_i l sz j o
  split at hx
  ·replace hx:=j8 hx
   obtain ⟨_,hx⟩:=hx
   replace hx:=bind_some hx
   obtain ⟨_,_,hx⟩:=hx
   replace hx:=bind_some hx
   obtain ⟨z,hz,hx⟩:=hx
   cases hx
   exact absurd rfl hne
  ·replace hx:=j8 hx
   obtain ⟨_,hx⟩:=hx
   replace hx:=bind_some hx
   obtain ⟨_,_,hx⟩:=hx
   replace hx:=bind_some hx
   obtain ⟨z,hz,hx⟩:=hx
   cases hx
   exact absurd rfl hne
  ·rename_i E E' u xs q0 ho
   replace hx:=j8 hx
   obtain ⟨hsz,hx⟩:=hx
   have hsz':=d8s hsz
   subst hsz'
   replace hx:=bind_some hx
   obtain ⟨x0,hxj,hx⟩:=hx
   replace hx:=bind_some hx
   obtain ⟨z,hz,hx⟩:=hx
   cases hb:(d8u q0 1&&d8u o u) with
   | false =>
     rw [hb] at hx
     cases hx
     exact absurd rfl hne
   | true =>
     rw [hb] at hx
     simp only [cond_true] at hx
     simp only [d8p] at hb
     have hq1:=d8s hb.1
     have hou:=d8s hb.2
     subst hq1
     subst hou
     split at hx
     ·rename_i E1 ys full
      replace hx:=bind_some hx
      obtain ⟨zs,hzs,hx⟩:=hx
      obtain ⟨e1,e2⟩:=a0l hzs
      subst e1
      subst e2
      cases hx
      have hos:=hO0 _ _ ho
      obtain ⟨A,k,ow,k1,k2⟩:=h.objs l _ hos
      simp only [RV] at h2
      obtain ⟨b,q,k',m,w,h3,h4⟩:=h2
      rw [k1] at h3
      cases h3
      have hjl:j<xs.length:=(d8o.1 hxj).1
      obtain ⟨cj,c1,c2⟩:=k2.el hxj
      have hq0:q=0/\ow=some b:=by
       cases ow with
       | none =>
         rcases k2 with ⟨e,_⟩ | ⟨e,_⟩
         ·subst e; simp at hxj
         ·cases e
       | some g =>
         obtain ⟨cur,cs,e,_⟩:=k2
         cases e
         exact ⟨rfl,rfl⟩
      obtain ⟨rfl,rfl⟩:=hq0
      rcases b0n (X:=X) (c:=c) ht hz (RG.one c1) with ⟨kk,_,_,hv⟩ | ⟨hone,v,hv,hrv⟩
      ·simp only [RV] at hv
       obtain ⟨A',k',e,_⟩:=hv
       cases e
      have hcell:σ.w.cell? ⟨b,j*Rp.sz (I E)+o,none⟩=some v:=by
       have:=c2 o v hv
       rwa [d8Q] at this
      have hrv':=hrv
      simp only [RV] at hrv'
      obtain ⟨A1,k3,ev1,hsl,_⟩:=hrv'
      have hN:=h.nst
      have hat:a0M c σ s.O l j E1 v:=⟨E,o,xs,1,b,_,_,_,hos,k1,hjl,by omega,hcell⟩
      obtain ⟨ys0,A0,k0,ev0,hown0⟩:=hN.opnAt hat
      rw [ev1] at ev0
      have he0:A1=A0/\zs.length=ys0.length/\k3=k0:=by
       injection ev0 with a1 a2 a3
       exact ⟨a1,a2,a3⟩
      obtain ⟨rfl,hyl,rfl⟩:=he0
      have hown:=hown0.other hsl hyl
      obtain ⟨hT1,hT2⟩:=hN.take (j:=j) hos (by omega)
      have h1':Rel X c σ (Y5 s l (some (.nst E E1 o xs (j+2)))) n F:=h.updG (g:=b) ⟨_,hos⟩ k1 rfl (Stp.refl _ _) (fun o' e=>by cases e; exact ⟨_,_,_,k1,k2⟩) hT1
      have hnb:(Y5 s l (some (.nst E E1 o xs (j+2)))).O nb=none:=a3V hf
      obtain ⟨n1,n2⟩:=h1'.newRow (nb:=nb) hnb hown fun g hg=>by
       have hin:InB c σ s.O l j g:=⟨E1,v,hat,by rw [ev1] at hg ⊢; exact hg⟩
       refine ⟨hN.mine _ _ _ hin,fun l' i hb'=>?_,fun l' p' ⟨o',ho'⟩ hc'=>?_⟩
       ·obtain ⟨b1,b2⟩:=hT2 _ _ _ hb'
        exact b2 (hN.inj _ _ _ _ _ hin b1)
       ·rcases Z2 ho' with ⟨e',_⟩ | ⟨_,e'⟩
        ·subst e'; exact hN.free _ _ _ hin _ _ _ hos hc'
        ·exact hN.free _ _ _ hin _ _ _ e' hc'
      refine a2X b (0+(j*Rp.sz (I E)+o)) v h4 h1 (a2u hone (by rw [d8Q]; exact hcell)) ?_
      refine hk v σ _ n1 n2 ?_ (Stp.refl _ _)
      simp only [RV]
      exact ⟨_,Q5 _ _ _,ev1⟩
     ·cases hx
  ·cases hx
 ·cases hx
theorem snd (ht:TabOk P tb){disp:a0f I}(hd:DispOk P disp)(h:Rel X c σ s n F)(hX:X.P=P){G:Nat->Option (PV I)}(hG0:∀ i p,G i=some p->s.F i=some p)(hO0:∀ l o,O l=some (some o)->s.O l=some (some o)){o:Oper}(hg:o.guard=none){e:Ef I}{nb:Nat}
 (hx:eff tb disp n G O nb o.type o.op some=some e) (hf:a2A (apU s.O e.upd) nb e.new=true) {ops:Array Oper} {Q:Exit->Act->World->Prop} {rest:List Oper}
 (hk:∀ v τ c',Cx.le c c'->Rel X c' τ (apE s nb e) n F->RV X c' τ e.p v->Stp X.M σ τ->wpList P ops Q rest (fr n (J9 F o.dst v)) τ.w):wpList P ops Q (o::rest) (fr n F) σ.w:=by
 have hG:b1j X c σ G F:=fun i p hp=>h.frame i p (hG0 i p hp)
 have hO:∀ l o,O l=some (some o)->X6 X c σ l o:=fun l o ho=>h.objs l o (hO0 l o ho)
 have hval:∀ v p,e=⟨p,[],[]⟩->RV X c σ p v->wpList P ops Q rest (fr n (J9 F o.dst v)) σ.w:=fun v p he hv=>by
  subst he
  exact hk v σ c (Cx.le_refl c) h hv (Stp.refl _ _)
 have hx0:=hx
 obtain ⟨d,op,ty,pos,aft,g⟩:=o
 simp only at hg hx hk hval hx0
 subst hg
 have E1:∀ {x p},evP n G x=some p->Q2 n x=true/\RV X c σ p (ev F x):=fun hp=>b2Z hG hp
 have E2:∀ {x p T},evT tb n G T x=some p->Q2 n x=true/\RV X c σ p (ev F x):=fun hp=>c0I hG hp
 have hpub:∀ ls:List Nat,(∀ τ,τ.w=σ.w->Stp X.M σ τ->Rel X c τ (Z8 s O ls) n F->a2w X c τ O ls->Rows X c τ O ls->b1j X c τ G F->(∀ l,l ∉ ls->(Z8 s O ls).O l=s.O l)->wpList P ops Q (⟨d,op,ty,pos,aft,none⟩::rest) (fr n F) τ.w)->wpList P ops Q (⟨d,op,ty,pos,aft,none⟩::rest) (fr n F) σ.w:=fun ls k=>by
  obtain ⟨τ,h1,h2,h3,h4,h5,h6⟩:=h.pubs hO0 ls
  rw [<- h1]
  exact k τ h1 h2 h3 h4 h5 (hG.step h2) h6
 have hnw:(∃ T x,op=.load T x)->e.new=[]\/wpList P ops Q (⟨d,op,ty,pos,aft,none⟩::rest) (fr n F) σ.w:=fun ⟨T,x,e1⟩=>by
  subst e1
  by_cases hne:e.new=[]
  ·exact .inl hne
  ·exact .inr (d3V ht h hG hO0 hx0 hne hf hk)
 by_cases hld:∃ T x,op=.load T x
 ·rcases hnw hld with hn | hn
  ·obtain ⟨T,x,rfl⟩:=hld
   exact c5Q (o:=⟨d,_,ty,pos,aft,none⟩) ht h hX hG hO rfl (by trivial) hx0 (fun _=>hn) hval
  ·exact hn
 unfold eff at hx
 split at hx
 iterate 14 (exact c5Q (o:=⟨d,_,ty,pos,aft,none⟩) ht h hX hG hO rfl (by trivial) hx0 (fun h=>absurd h hld) hval)
 ·exact c5Q (o:=⟨d,_,ty,pos,aft,none⟩) ht h hX hG hO rfl (by trivial) hx0 (fun h=>absurd h hld) hval
 ·rename_i T x lo hi mx
  replace hx:=bind_some hx
  obtain ⟨p0,hp,hx⟩:=hx
  split at hx
  ·rename_i s hv
   have hps:p0=.str s:=by
    unfold d1c at hv
    split at hv
    ·cases hv; rfl
    ·cases hv
   subst hps
   replace hx:=j8 hx
   obtain ⟨hT,hx⟩:=hx
   have hT:=ht.isStr _ hT
   obtain ⟨h1,h2⟩:=E1 hp
   simp only [RV] at h2
   split at hx
   ·rename_i h
    replace hx:=bind_some hx
    obtain ⟨q,hq,hx⟩:=hx
    replace hx:=bind_some hx
    obtain ⟨j,hj,hx⟩:=hx
    replace hx:=bind_some hx
    obtain ⟨t,hc,hx⟩:=hx
    cases hx
    obtain ⟨k1,k2⟩:=E1 hq
    have k2':=d0H hj k2
    exact a5z _ _ none (some (.int .i64 j)) none h2 h1 rfl (by rw [<- k2']; rfl) rfl (by simp [k1]) (c7J none (some j) hT hc) (hval _ _ rfl (by simp only [RV]))
   ·rename_i l
    replace hx:=bind_some hx
    obtain ⟨q,hq,hx⟩:=hx
    replace hx:=bind_some hx
    obtain ⟨j,hj,hx⟩:=hx
    replace hx:=bind_some hx
    obtain ⟨t,hc,hx⟩:=hx
    cases hx
    obtain ⟨k1,k2⟩:=E1 hq
    have k2':=d0H hj k2
    exact a5z _ _ (some (.int .i64 j)) none none h2 h1 (by rw [<- k2']; rfl) rfl rfl (by simp [k1]) (c7J (some j) none hT hc) (hval _ _ rfl (by simp only [RV]))
   ·rename_i l h
    replace hx:=bind_some hx
    obtain ⟨q,hq,hx⟩:=hx
    replace hx:=bind_some hx
    obtain ⟨q',hq',hx⟩:=hx
    replace hx:=bind_some hx
    obtain ⟨j,hj,hx⟩:=hx
    replace hx:=bind_some hx
    obtain ⟨j',hj',hx⟩:=hx
    replace hx:=bind_some hx
    obtain ⟨t,hc,hx⟩:=hx
    cases hx
    obtain ⟨k1,k2⟩:=E1 hq
    obtain ⟨k3,k4⟩:=E1 hq'
    have k2':=d0H hj k2
    have k4':=d0H hj' k4
    exact a5z _ _ (some (.int .i64 j)) (some (.int .i64 j')) none h2 h1 (by rw [<- k2']; rfl) (by rw [<- k4']; rfl) rfl (by simp [k1,k3]) (c7J (some j) (some j') hT hc) (hval _ _ rfl (by simp only [RV]))
   ·cases hx
  split at hx
  ·rename_i v hv
   obtain ⟨l,o,E,m,k,rfl,rfl,rfl,rfl,rfl,ha⟩:=d2I hv
   obtain ⟨h1,h2⟩:=E1 hp
   simp only [RV] at h2
   obtain ⟨b,w,k1,e1⟩:=h2
   cases hx
   refine a5z _ _ none none none e1 h1 rfl rfl rfl (by simp) (d2Z (ht.arr _ _ _ _ ha).1 (ht.arr _ _ _ _ ha).2) (hval _ _ rfl ?_)
   simp only [RV]
   exact ⟨b,0,0,w,k1,rfl⟩
  replace hx:=bind_some hx
  obtain ⟨E,hE,hx⟩:=hx
  obtain ⟨h1,h2⟩:=E1 hp
  obtain ⟨t1,t2⟩:=ht.el _ _ hE
  split at hx
  ·rename_i w hw
   obtain ⟨l,xs,y⟩:=w
   obtain ⟨rfl,rfl,rfl,rfl,ho⟩:=d1x hw
   replace hx:=bind_some hx
   obtain ⟨q,hq,hx⟩:=hx
   replace hx:=bind_some hx
   obtain ⟨j,hj,hx⟩:=hx
   replace hx:=bind_some hx
   obtain ⟨ys,hys,hx⟩:=hx
   cases hx
   obtain ⟨h3,h4⟩:=E1 hq
   have hjv:ev F y=.int .i64 j:=by
    unfold asI at hj
    split at hj
    ·cases hj; simpa only [RV] using h4
    ·cases hj
   obtain ⟨A,k,ow,k1,k2⟩:=hO _ _ ho
   simp only [RV] at h2
   obtain ⟨pl,k3,e1⟩:=h2
   rw [k1] at k3
   cases k3
   obtain ⟨_,j0,j1,rfl⟩:=b7I hys
   have hle:=k2.le
   have j1:j<=(xs.length:Int):=j1
   have hlen:((xs.take j.toNat).drop (0:Int).toNat).length=j.toNat:=by simp; omega
   have hol:=hO0 _ _ ho
   have hkill:=h.kill (l:=l) ⟨_,hol⟩
   have hnew:a0a ow false E σ ((xs.take j.toNat).drop (0:Int).toNat) A k:=by
    show a0a ow false E σ (xs.take j.toNat) A k
    cases ow with
    | none =>
      rcases k2 with ⟨e,e'⟩ | ⟨e,_⟩
      ·subst e; exact .inl ⟨by simp,e'⟩
      ·cases e
    | some g =>
      obtain ⟨cur,cs,e,hh,a1,a2,a3,a4,a5,a6⟩:=k2
      rw [<- d88 j.toNat xs] at a4
      obtain ⟨c1,c2,rfl,b1,b2⟩:=a4.split
      have hl1:=b1.len
      have hle1:(xs.take j.toNat).length<=xs.length:=by rw [d8G]; omega
      refine ⟨cur,c1,e,hh,d8C hle1 a1,a2,a3,b1,?_,a6⟩
      have:cur.toList.take ((xs.take j.toNat).length*Rp.sz (I E))=(cur.toList.take (xs.length*Rp.sz (I E))).take ((xs.take j.toNat).length*Rp.sz (I E)):=by
       rw [List.take_take,d9x (d8J _ hle1)]
      rw [this,a5,<- hl1,d9l]
   have hnb:(Y5 s l none).O nb=none:=a3V hf
   obtain ⟨n1,n2⟩:=hkill.newRow (nb:=nb) hnb hnew fun g hg=>⟨h.mine l _ g ⟨_,hol⟩ k1 hg,(h.owned ⟨_,hol⟩ k1 hg).set,fun l' p' ⟨o,ho'⟩ hc hw=>by
    rcases Z2 ho' with ⟨_,e⟩ | ⟨e,h'⟩
    ·cases e
    ·exact e (h.inj l' l _ _ g ⟨o,h'⟩ ⟨_,hol⟩ hc k1 hw hg)⟩
   refine a5z _ _ none (some (.int .i64 j)) none e1 h1 rfl (by rw [<- hjv]; rfl) rfl (by simp [h3]) (d5v (len:=xs.length) (k:=k) (A:=A) (sz:=Rp.sz (I E)) (w:=σ.w) j0 (by omega) t1 t2) ?_
   refine hk _ σ _ n1 n2 ?_ (Stp.refl _ _)
   simp only [RV]
   exact ⟨_,Q5 _ _ _,by rw [hlen]⟩
  split at hx
  ·rename_i w hw
   obtain ⟨l,xs,y⟩:=w
   obtain ⟨rfl,rfl,rfl,rfl,ho⟩:=c9V hw
   replace hx:=bind_some hx
   obtain ⟨q,hq,hx⟩:=hx
   replace hx:=bind_some hx
   obtain ⟨j,hj,hx⟩:=hx
   replace hx:=bind_some hx
   obtain ⟨x0,hx0',hx⟩:=hx
   obtain ⟨h3,h4⟩:=E1 hq
   have hjv:ev F y=.int .i64 j:=by
    unfold asI at hj
    split at hj
    ·cases hj; simpa only [RV] using h4
    ·cases hj
   obtain ⟨A,k,ow,k1,k2⟩:=hO _ _ ho
   simp only [RV] at h2
   obtain ⟨pl,k3,e1⟩:=h2
   rw [k1] at k3
   cases k3
   obtain ⟨h0,hxj⟩:=a92 hx0'
   have hlt:j.toNat<xs.length:=(d8o.1 hxj).1
   cases ow with
   | none =>
     rcases k2 with ⟨e,_⟩ | ⟨e,_⟩
     ·subst e; simp at hxj
     ·cases e
   | some g =>
     obtain ⟨cur,cs,e,_,hle,_⟩:=k2
     subst e
     cases hx
     refine a5z _ _ (some (.int .i64 j)) none none e1 h1 (by rw [<- hjv]; rfl) rfl rfl (by simp [h3]) (d5W (len:=xs.length) (k:=k) (g:=g) (sz:=Rp.sz (I E)) (w:=σ.w) h0 (by omega) hle t1 t2) (hval _ _ rfl ?_)
     simp only [RV]
     exact ⟨g,k,xs.length,_,k1,rfl⟩
  replace hx:=bind_some hx
  obtain ⟨xs,hxs,hx⟩:=hx
  refine hpub xs.2 fun τ hw hst hrel hS hR hGt hold=>?_
  obtain ⟨A,k,e1,hs⟩:=c3h hS (ls:=xs.2) hxs (fun l hl=>hl) (RV.step hst _ _ h2)
  have fin:∀ (q:PV I) v,e=⟨q,Q3 O xs.2,[]⟩->RV X c τ q v->wpList P ops Q rest (fr n (J9 F d v)) τ.w:=fun q v he hv=>by
   subst he
   exact hk v τ c (Cx.le_refl c) hrel hv hst
  have E1t:∀ {x p},evP n G x=some p->Q2 n x=true/\RV X c τ p (ev F x):=fun hp=>b2Z hGt hp
  have asI_ok:∀ {q:PV I} {j:Int} {v:Value},asI q=some j->RV X c τ q v->v=.int .i64 j:=by
   intro q j v hj hv
   unfold asI at hj
   split at hj
   ·cases hj; simpa only [RV] using hv
   ·cases hj
  split at hx
  ·cases hx
   exact a5z _ _ none (some (.int .i64 0)) (some (.int .i64 0)) e1 h1 rfl rfl rfl rfl (d54 t1 t2) (fin _ _ rfl (by simp only [RV]; exact ⟨A,rfl⟩))
  ·replace hx:=bind_some hx
   obtain ⟨q,hq,hx⟩:=hx
   replace hx:=bind_some hx
   obtain ⟨q',hq',hx⟩:=hx
   replace hx:=bind_some hx
   obtain ⟨h',hh',hx⟩:=hx
   replace hx:=bind_some hx
   obtain ⟨m',hm',hx⟩:=hx
   replace hx:=j8 hx
   obtain ⟨hb,hx⟩:=hx
   simp only [d8p,beq_iff_eq] at hb
   obtain ⟨rfl,rfl⟩:=hb
   obtain ⟨h3,h4⟩:=E1t hq
   obtain ⟨h5,h6⟩:=E1t hq'
   have h4':=asI_ok hh' h4
   have h6':=asI_ok hm' h6
   cases hx
   exact a5z _ _ none (some (.int .i64 _)) (some (.int .i64 _)) e1 h1 rfl (by rw [<- h4']; rfl) (by rw [<- h6']; rfl) (by simp [h3,h5]) (d5R hs t1 t2) (fin _ _ rfl (by simp only [RV]; exact ⟨A,xs.1.length,rfl,hs.clip,fun _=>rfl⟩))
  ·replace hx:=bind_some hx
   obtain ⟨q,hq,hx⟩:=hx
   replace hx:=bind_some hx
   obtain ⟨h',hh',hx⟩:=hx
   replace hx:=bind_some hx
   obtain ⟨ys,hy,hx⟩:=hx
   obtain ⟨h3,h4⟩:=E1t hq
   have h4':=asI_ok hh' h4
   obtain ⟨A',m',hr,hs'⟩:=d3j hs hy t1 t2
   cases hx
   exact a5z _ _ none (some (.int .i64 _)) none e1 h1 rfl (by rw [<- h4']; rfl) rfl (by simp [h3]) hr (fin _ _ rfl (by simp only [RV]; exact ⟨A',m',rfl,hs',fun e=>by cases e⟩))
  ·replace hx:=bind_some hx
   obtain ⟨q,hq,hx⟩:=hx
   replace hx:=bind_some hx
   obtain ⟨h',hh',hx⟩:=hx
   replace hx:=bind_some hx
   obtain ⟨ys,hy,hx⟩:=hx
   obtain ⟨h3,h4⟩:=E1t hq
   have h4':=asI_ok hh' h4
   obtain ⟨A',m',hr,hs'⟩:=d3K hs hy t1 t2
   cases hx
   exact a5z _ _ (some (.int .i64 _)) none none e1 h1 (by rw [<- h4']; rfl) rfl rfl (by simp [h3]) hr (fin _ _ rfl (by simp only [RV]; exact ⟨A',m',rfl,hs',fun e=>by cases e⟩))
  ·replace hx:=bind_some hx
   obtain ⟨q,hq,hx⟩:=hx
   replace hx:=bind_some hx
   obtain ⟨q',hq',hx⟩:=hx
   replace hx:=bind_some hx
   obtain ⟨l',hl',hx⟩:=hx
   replace hx:=bind_some hx
   obtain ⟨h',hh',hx⟩:=hx
   replace hx:=bind_some hx
   obtain ⟨ys,hy,hx⟩:=hx
   obtain ⟨h3,h4⟩:=E1t hq
   obtain ⟨h5,h6⟩:=E1t hq'
   have h4':=asI_ok hl' h4
   have h6':=asI_ok hh' h6
   obtain ⟨A',m',hr,hs'⟩:=d02 hs hy t1 t2
   cases hx
   exact a5z _ _ (some (.int .i64 _)) (some (.int .i64 _)) none e1 h1 (by rw [<- h4']; rfl) (by rw [<- h6']; rfl) rfl (by simp [h3,h5]) hr (fin _ _ rfl (by simp only [RV]; exact ⟨A',m',rfl,hs',fun e=>by cases e⟩))
  ·cases hx
 ·replace hx:=bind_some hx
  obtain ⟨ls,hz,hx⟩:=hx
  cases hx
  have hnb:s.O nb=none:=a3V hf
  obtain ⟨z,sz,by_,cs,hT,hc,hl⟩:=ht.zero _ _ hz
  refine c9Y (B:=σ.N) 0 (d8r _) z cs hT hc fun τ b hE hB=>?_
  obtain ⟨k1,k2⟩:=h.newVar hnb hE hB (hl X c τ)
  exact hk _ τ _ k1 k2 (by simp only [RV]; exact ⟨b,_,Q5 _ _ _,rfl⟩) (Stp.ext hE).no
 ·replace hx:=bind_some hx
  obtain ⟨q,hq,hx⟩:=hx
  replace hx:=bind_some hx
  obtain ⟨ls,hls,hx⟩:=hx
  cases hx
  have hnb:s.O nb=none:=a3V hf
  obtain ⟨h1,h2⟩:=E2 hq
  have hl:=a5A hls h2
  refine d4F (B:=σ.N) 0 (d8r _) _ _ rfl h1 rfl fun τ b hE hB=>?_
  obtain ⟨k1,k2⟩:=h.newVar hnb hE hB (RG.step (Stp.ext hE).no _ _ hl)
  exact hk _ τ _ k1 k2 (by simp only [RV]; exact ⟨b,_,Q5 _ _ _,rfl⟩) (Stp.ext hE).no
 ·rename_i T x y
  replace hx:=bind_some hx
  obtain ⟨p,hp,hx⟩:=hx
  replace hx:=bind_some hx
  obtain ⟨q,hq,hx⟩:=hx
  replace hx:=bind_some hx
  obtain ⟨vs,hvs,hx⟩:=hx
  replace hx:=bind_some hx
  obtain ⟨m,hm,hx⟩:=hx
  replace hx:=j8 hx
  obtain ⟨hb,hx⟩:=hx
  simp only [d8p] at hb
  have b1:=d8s hb.1
  have b2:=hb.2
  subst b1
  obtain ⟨h1,h2⟩:=E1 hp
  obtain ⟨h3,h4⟩:=E2 hq
  split at hx
  ·rename_i l o
   split at hx
   ·rename_i T' ls ho
    replace hx:=bind_some hx
    obtain ⟨ls',hls',hx⟩:=hx
    cases hx
    have hl:=a5A hvs h4
    generalize hvv:(ev F y).cells.toList=cvs at hl
    obtain ⟨b,cs,k1,k2,k3,k4,_⟩:=hO _ _ ho
    simp only [RV] at h2
    obtain ⟨b',w',k6,h2⟩:=h2
    rw [k1] at k6
    cases k6
    have g1:=RG.len _ _ hl
    obtain ⟨g2,g3⟩:=b7U ht hls' k2 hl
    have hB:Blk 0 b (can σ) b T' cs:=⟨d8w _,k3,by show ((σ.L b).1,b)=_; rw [k4 rfl]⟩
    show wpList P ops Q _ (fr n F) (can σ).w
    refine c1d hB o _ cvs _ h2 rfl h1 h3 hvv (by rw [g1]; exact ht.size _ _ hm) (b4K _ _ b2 hl) (d9F g2) rfl fun τ hMod hB'=>?_
    have hst:=c1b hMod
    have hM:X.M b:=h.mine l _ b ⟨_,hO0 _ _ ho⟩ k1 rfl
    have hstM:Stp X.M σ τ:=hst.mono fun _ _ e=>by rw [e]; exact hM
    have hrel:=h.upd (o':=some (.var T' ls' true)) ⟨_,hO0 _ _ ho⟩ k1 rfl hst fun o'' e=>by
     cases e
     exact ⟨b,cs.take o++cvs++cs.drop (o+cvs.length),k1,RG.step hstM _ _ g3,hB'.2.1,fun _=>by rw [hB'.2.2],fun e=>by cases e⟩
    exact hk _ τ c (Cx.le_refl c) hrel (by simp only [RV]) hstM
   ·cases hx
  ·rename_i l sz j o
   split at hx
   ·rename_i E xs ho
    replace hx:=j8 hx
    obtain ⟨b3,hx⟩:=hx
    have b3':=d8s b3
    subst b3'
    replace hx:=bind_some hx
    obtain ⟨t,ht',hx⟩:=hx
    replace hx:=bind_some hx
    obtain ⟨x0,hxj,hx⟩:=hx
    replace hx:=j8 hx
    obtain ⟨b5,hx⟩:=hx
    replace hx:=bind_some hx
    obtain ⟨ls',hls',hx⟩:=hx
    replace hx:=bind_some hx
    obtain ⟨x1,hx1,hx⟩:=hx
    cases hx
    have b5':l ∉ t.2:=by simpa using b5
    refine hpub t.2 fun τ hw hst hrel hS hR hGt hold=>?_
    have hl:=a5A hvs (RV.step hst _ _ h4)
    generalize hvv:(ev F y).cells.toList=cvs at hl
    have hlt:=c4M hS (ls:=t.2) ht' (fun l hl=>hl) hl
    obtain ⟨A,k,ow,k1,k2⟩:=hR l E xs false ho b5'
    simp only [RV] at h2
    obtain ⟨b,q,k',m',w',k6,h2⟩:=h2
    rw [k1] at k6
    cases k6
    have hliv:Y7 (Z8 s O t.2) l:=⟨_,(hold l b5').trans (hO0 _ _ ho)⟩
    cases ow with
    | none =>
      rcases k2 with ⟨e,_⟩ | ⟨e,_⟩
      ·subst e; simp at hxj
      ·cases e
    | some g =>
      obtain ⟨cur,cs,e,hh,a1,a2,a3,a4,a5,a6⟩:=k2
      cases e
      rw [d8Q] at h2
      obtain ⟨c1,cj,c2,e1,e2,e3,e4⟩:=c06 a4 hxj
      have g1:=RG.len _ _ hl
      obtain ⟨g4,g5⟩:=b7U ht hls' (RG.one (X:=X) (c:=c) e3) hlt
      have hcsl:=a4.len
      have hcur:cur.toList=c1++cj++c2++cur.toList.drop (xs.length*Rp.sz (I E)):=by
       rw [<- e1,<- a5]; exact (d88 _ _).symm
      have hsz:cj.length=Rp.sz (I E):=Rp.len e3
      have hB:Blk 0 b (can τ) b E cur.toList:=⟨d8w _,by show τ.w.heap[b]?=_; simpa using hh,by show ((τ.L b).1,b)=_; rw [show (τ.L b).1=0 from a6]⟩
      have hle:j*Rp.sz (I E)+o+cvs.length<=cur.toList.length:=by
       rw [hcur]
       simp only [d8t,e2]
       omega
      have hnew:cur.toList.take (j*Rp.sz (I E)+o)++cvs++cur.toList.drop (j*Rp.sz (I E)+o+cvs.length)=c1++(cj.take o++cvs++cj.drop (o+cvs.length))++c2++cur.toList.drop (xs.length*Rp.sz (I E)):=by
       have f1:cur.toList.take (j*Rp.sz (I E)+o)=c1++cj.take o:=by
        rw [hcur,d8E,d8E,<- e2,d91,d9a,d97 (by omega),d91,show o-cj.length=0 from by omega]
        simp
       have f2:cur.toList.drop (j*Rp.sz (I E)+o+cvs.length)=cj.drop (o+cvs.length)++c2++cur.toList.drop (xs.length*Rp.sz (I E)):=by
        conv=>lhs; rw [hcur]
        rw [d8E,d8E,<- e2,d9j,List.drop_append,List.drop_of_length_le (by omega),d9a,List.drop_append,show o+cvs.length-cj.length=0 from by omega]
        simp
       rw [f1,f2]
       simp only [d8E]
      show wpList P ops Q _ (fr n F) (can τ).w
      refine c1d hB (j*Rp.sz (I E)+o) _ cvs _ h2 rfl h1 h3 hvv (by rw [g1]; exact ht.size _ _ hm) (b4K _ _ b2 (a5A hvs (RV.step hst _ _ h4) |> fun hq=>by rw [hvv] at hq; exact hq)) (d9F hle) hnew fun υ hMod hB'=>?_
      have hst2:=c1b hMod
      have hM:X.M b:=hrel.mine l _ b hliv k1 rfl
      have hstM:Stp X.M τ υ:=hst2.mono fun _ _ e=>by rw [e]; exact hM
      have hrel2:=hrel.upd (o':=some (.row E (xs.set j x1) false)) hliv k1 rfl hst2 fun o'' e=>by
       cases e
       refine ⟨some ⟨b,0,none⟩,k,some b,by simpa using k1,(c1++(cj.take o++cvs++cj.drop (o+cvs.length))++c2++cur.toList.drop (xs.length*Rp.sz (I E))).toArray,c1++(cj.take o++cvs++cj.drop (o+cvs.length))++c2,rfl,hB'.2.1,by simpa using a1,a2,?_,?_,?_,by rw [hB'.2.2]; rfl⟩
       ·rw [<- hnew]
        simp only [d9P,d8t,d8G,d83]
        rw [<- a3,<- d8R]
        omega
       ·exact e4 υ x1 _ hstM.wext (c4k ht hx1 (RG.step hstM _ _ g5))
       ·rw [List.length_set]
        have hl1:(c1++(cj.take o++cvs++cj.drop (o+cvs.length))++c2).length=xs.length*Rp.sz (I E):=by
         rw [<- hcsl,e1]
         simp only [d8t,d8G,d83]
         omega
        rw [<- hl1]
        exact d9l
      have hend:apE s nb ⟨.undef,Q3 O t.2++[(l,some (.row E (xs.set j x1) false))],[]⟩=Y5 (Z8 s O t.2) l (some (.row E (xs.set j x1) false)):=by
       simp only [apE,a0d,a2O,apU,Y5,Z8]
      exact hk _ υ c (Cx.le_refl c) (by rw [hend]; exact hrel2) (by simp only [RV]) (hst.trans hstM)
   ·rename_i E E' u xs q0 ho
    replace hx:=j8 hx
    obtain ⟨b3,hx⟩:=hx
    have b3':=d8s b3
    subst b3'
    replace hx:=bind_some hx
    obtain ⟨x0,hxj,hx⟩:=hx
    split at hx
    ·rename_i l2
     have hos:=hO0 _ _ ho
     obtain ⟨A,k,ow,k1,k2⟩:=h.objs l _ hos
     simp only [RV] at h2
     obtain ⟨b,q,k',m',w',k6,h2⟩:=h2
     rw [k1] at k6
     cases k6
     have hjl:j<xs.length:=(d8o.1 hxj).1
     have hq0:q=0/\ow=some b:=by
      cases ow with
      | none =>
        rcases k2 with ⟨e,_⟩ | ⟨e,_⟩
        ·subst e; simp at hxj
        ·cases e
      | some g =>
        obtain ⟨cur,cs,e,_⟩:=k2
        cases e
        exact ⟨rfl,rfl⟩
     obtain ⟨rfl,rfl⟩:=hq0
     rw [d8Q] at h2
     have hcl:=a5A hvs h4
     have hone:=b4K _ _ b2 hcl
     simp only [RG] at hcl
     obtain ⟨a,r,hyv,hcl,rfl⟩:=hcl
     rw [d82] at hyv
     rcases hcl with hcl | ⟨_,v2,rfl,hv2⟩
     ·exact hcl.elim
     simp only [RV] at hv2
     obtain ⟨p2,hc2,ev2⟩:=hv2
     have hsz1:(P.info? T).map (·.size)=some 1:=ht.size _ _ hm
     have hone2:v2.oneCell'=true:=by rw [hyv] at hone; simpa using hone
     have hliv:Y7 s l:=⟨_,hos⟩
     split at hx
     ·rename_i E2 ys ho2
      replace hx:=j8 hx
      obtain ⟨b5,hx⟩:=hx
      simp only [d8p,d9N] at b5
      obtain ⟨⟨⟨b5,b7⟩,b8⟩,b6⟩:=b5
      have e1:=d8s b5
      have e2:=d8s b6
      have e3:=d8s b7
      subst e1
      subst e2
      subst e3
      have hne:l2≠l:=fun e=>by subst e; simp at b8
      replace hx:=bind_some hx
      obtain ⟨ls',hls',hx⟩:=hx
      replace hx:=bind_some hx
      obtain ⟨x1,hx1,hx⟩:=hx
      cases hx
      have hos2:=hO0 _ _ ho2
      obtain ⟨A2,kk2,ow2,k3,k4⟩:=h.objs l2 _ hos2
      rw [k3] at hc2
      cases hc2
      have ev2:v2=.slice A2 ys.length kk2:=ev2
      have hsl:RV X c σ (.sl E2 ys false) v2:=by simp only [RV]; exact ⟨A2,kk2,ev2,k4.sl,fun e=>by cases e⟩
      refine c2e (E':=E2) (u:=o) (q:=j+2) ht h hos k1 hxj hls' hx1 h2 h1 h3 hyv hsl hsz1 hone2 fun υ hst hobj hsame hnew _=>?_
      have hM:X.M b:=h.mine l _ b hliv k1 rfl
      have hkl:=h.kill (l:=l2) ⟨_,hos2⟩
      have hol:(Y5 s l2 none).O l=some (some (.nst E E2 o xs (j+2))):=by
       show upF s.O l2 none l=_
       rw [J2 hne.symm]; exact hos
      have hlv:∀ {l'},Y7 (Y5 s l2 none) l'->l'≠l2/\Y7 s l':=fun {l'} ⟨o',ho'⟩=>by
       rcases Z2 ho' with ⟨_,e'⟩ | ⟨e1,e'⟩
       ·cases e'
       ·exact ⟨e1,o',e'⟩
      obtain ⟨r1,r2⟩:=k4.byRoom
      rw [<- ev2] at r1 r2
      have hN:Nests X c υ (upF (Y5 s l2 none).O l (some (.nst E E2 o (xs.set j x1) 0))):=by
       refine hkl.nst.turn (j:=j) hol k1 hst (fun l' o' p' ho' hc' hw'=>hkl.inj l' l p' _ b ⟨o',ho'⟩ ⟨_,hol⟩ hc' k1 hw' rfl) (fun l' E1 E3 u1 xs1 q1 g' kk m w e hc' hx'=>(hkl.objs l' _ e).nstW hc' hx') (by simp) (fun i hi hij hq=>⟨by omega,hsame _ fun e=>hij ?_⟩) fun _ _=>.inr ⟨v2,hnew,⟨ys,A2,kk2,ev2,r1.step hst fun g hg e=>?_⟩,fun b2 hb2=>⟨?_,?_,?_⟩⟩
       ·have hp:=Rp.pos (α:=I E)
        exact Nat.eq_of_mul_eq_mul_right hp (by omega)
       ·subst e
        exact hne (h.inj l2 l _ _ g ⟨_,hos2⟩ hliv k3 k1 (r2 g hg) rfl)
       ·exact h.mine l2 _ b2 ⟨_,hos2⟩ k3 (r2 b2 hb2)
       ·exact (h.owned ⟨_,hos2⟩ k3 (r2 b2 hb2)).set
       ·intro l' o' p' ho' hc' hw'
        obtain ⟨m1,m2⟩:=hlv ⟨o',ho'⟩
        exact m1 (h.inj l' l2 p' _ b2 m2 ⟨_,hos2⟩ hc' k3 hw' (r2 b2 hb2))
      have hrel2:=hkl.updG (l:=l) ⟨_,hol⟩ k1 rfl hst (fun o' e=>by cases e; exact hobj) hN
      exact hk _ υ c (Cx.le_refl c) hrel2 (by simp only [RV]) (hst.mono fun b' _ e=>by rw [e]; exact hM)
     ·rename_i E2 ys ho2
      replace hx:=j8 hx
      obtain ⟨b5,hx⟩:=hx
      simp only [d8p,Bool.or_eq_true,d9N] at b5
      obtain ⟨⟨b5,b6⟩,b8⟩:=b5
      have hne:l2≠l:=fun e=>by subst e; simp at b8
      have huo:u≠o:=by
       rcases b5 with b5 | b5
       ·have:=a64 b5; omega
       ·have:=d8N b5; omega
      have hus:=a64 b6
      replace hx:=bind_some hx
      obtain ⟨ls',hls',hx⟩:=hx
      replace hx:=bind_some hx
      obtain ⟨x1,hx1,hx⟩:=hx
      cases hx
      have hos2:=hO0 _ _ ho2
      obtain ⟨τ,t1,t2,t3⟩:=h.settle hos2
      have hol:(Y5 s l2 (some (.row E2 ys true))).O l=some (some (.nst E E' u xs q0)):=by
       show upF s.O l2 _ l=_
       rw [J2 hne.symm]; exact hos
      have hol2:(Y5 s l2 (some (.row E2 ys true))).O l2=some (some (.row E2 ys true)):=J3 _ _ _
      obtain ⟨A2,kk2,ow2,k3,k4⟩:=t3.objs l2 _ hol2
      rw [k3] at hc2
      cases hc2
      have ev2:v2=.slice A2 ys.length kk2:=ev2
      have hsl:RV X c τ (.sl E2 ys false) v2:=by simp only [RV]; exact ⟨A2,kk2,ev2,k4.sl,fun e=>by cases e⟩
      rw [<- t1]
      refine c2e (E':=E') (u:=u) (q:=q0) ht t3 hol k1 hxj hls' hx1 h2 h1 h3 hyv hsl hsz1 hone2 fun υ hst hobj hsame hnew hos'=>?_
      have hM:X.M b:=h.mine l _ b hliv k1 rfl
      have hcells:∀ i,i<xs.length->υ.w.cell? ⟨b,i*Rp.sz (I E)+u,none⟩=τ.w.cell? ⟨b,i*Rp.sz (I E)+u,none⟩:=fun i _=>hsame _ fun e=>by
       by_cases hij:i=j
       ·subst hij; omega
       ·rcases Nat.lt_or_gt_of_ne hij with hlt | hlt
        ·have:(i+1)*Rp.sz (I E)<=j*Rp.sz (I E):=d8J _ hlt
         rw [d8W,d90] at this
         omega
        ·have:(j+1)*Rp.sz (I E)<=i*Rp.sz (I E):=d8J _ hlt
         rw [d8W,d90] at this
         omega
      have hN:Nests X c υ (upF (Y5 s l2 (some (.row E2 ys true))).O l (some (.nst E E' u (xs.set j x1) q0))):=by
       refine t3.nst.turn (j:=j) hol k1 hst (fun l' o' p' ho' hc' hw'=>t3.inj l' l p' _ b ⟨o',ho'⟩ ⟨_,hol⟩ hc' k1 hw' rfl) (fun l' E1 E3 u1 xs1 q1 g' kk m w e hc' hx'=>(t3.objs l' _ e).nstW hc' hx') (by simp) (fun i hi _ hq=>⟨hq,hcells i hi⟩) fun hi hq=>.inl ⟨hq,hcells j hi⟩
      have hrel2:=t3.updG (l:=l) ⟨_,hol⟩ k1 rfl hst (fun o' e=>by cases e; exact hobj) hN
      exact hk _ υ c (Cx.le_refl c) hrel2 (by simp only [RV]) (t2.trans (hst.mono fun b' _ e=>by rw [e]; exact hM))
     ·cases hx
    ·cases hx
   ·cases hx
  ·rename_i E e0 o
   split at hx
   ·rename_i i a
    replace hx:=bind_some hx
    obtain ⟨z,hz,hx⟩:=hx
    split at hx
    ·rename_i i' b
     split at hx
     ·rename_i hi
      subst hi
      replace hx:=j8 hx
      obtain ⟨hab,hx⟩:=hx
      obtain rfl:a=b:=by simpa using hab
      cases hx
      have hl:=a5A hvs h4
      generalize hvv:(ev F y).cells.toList=cvs at hl
      simp only [RV] at h2
      obtain ⟨b',p0,cs,h2,c1,c2⟩:=h2
      have hl1:=RG.len _ _ hl
      have hl1:cvs.length=1:=by rw [hl1]; rfl
      have hrv:∃ v,cvs=[v]/\v=.int i a:=by
       obtain ⟨v,e⟩:∃ v,cvs=[v]:=by
        match cvs,hl1 with
        | [v],_=>exact ⟨v,rfl⟩
       subst e
       refine ⟨v,rfl,?_⟩
       have hl2:b3p σ (PV.int (I:=I) i a) [v]\/a6H (PV.int (I:=I) i a)=false/\v=.int i a:=by simpa [RG,RV] using hl
       rcases hl2 with hl2 | hl2
       ·exact absurd hl2 (by simp [b3p])
       ·exact hl2.2
      obtain ⟨v,rfl,rfl⟩:=hrv
      rcases b0n (X:=X) (c:=c) ht hz (RG.one c1) with ⟨kk,_,_,hv⟩ | ⟨_,v,hv,hrv⟩
      ·simp only [RV] at hv
       cases hv
      ·simp only [RV] at hrv
       subst hrv
       have hol:=(d8o.1 hv).1
       exact c9D h2 h1 h3 hvv (ht.size _ _ hm) rfl (c2.2 o _ hv) (c2.1.2 o hol) (hk _ σ c (Cx.le_refl c) h (by simp only [RV]) (Stp.refl _ _))
     ·cases hx
    ·cases hx
   ·cases hx
  ·cases hx
 ·rename_i T len ps
  replace hx:=bind_some hx
  obtain ⟨E,hE,hx⟩:=hx
  replace hx:=bind_some hx
  obtain ⟨by_,hby,hx⟩:=hx
  obtain ⟨z,hT⟩:=ht.slice _ _ _ hE hby
  split at hx
  ·rename_i he
   obtain rfl:ps=d84 []:=by cases ps; simp_all
   cases hx
   exact c6M hT fun τ A hExt=>hk _ τ c (Cx.le_refl c) (h.step (Stp.ext hExt)) (by simp only [RV]; exact ⟨A,rfl⟩) (Stp.ext hExt).no
  ·replace hx:=bind_some hx
   obtain ⟨xs,hxs,hx⟩:=hx
   replace hx:=j8 hx
   obtain ⟨hb,hx⟩:=hx
   simp only [d8p] at hb
   obtain ⟨⟨b1,b2⟩,b3⟩:=hb
   cases hx
   refine hpub xs.2 fun τ hw hst hrel hS hR hGt hold=>?_
   obtain ⟨vs,g1,g2,g3,g4,g5⟩:=c9p ht hGt hS (ls:=xs.2) hxs (fun l hl=>hl)
   have e:ps=ps.toList.toArray:=by simp
   rw [e]
   have hnb:(Z8 s O xs.2).O nb=none:=a3V hf
   refine c69 hT xs.1 vs g1 g2 (d8s b1) g3 (a64 b2) b3 g4 ?_
   let cs:=vs.flatMap (·.cells.toList)
   let υ:S:=⟨τ.w.alloc (.cells cs.toArray E),fun b=>if b=τ.N then (0,b) else τ.L b⟩
   have hold2:∀ b,b<τ.N->υ.w.heap[b]?=τ.w.heap[b]?:=fun b hb=>heap_alloc_old τ.w _ hb
   have hL:∀ b,b<τ.N->υ.L b=τ.L b:=fun b hb=>by simp [υ,Nat.ne_of_lt hb]
   have hst2:Stp NoB τ υ:=⟨⟨by simp [S.N,υ],fun b hb=>by rw [hL b hb]; exact d8r _,fun b o v _ hv=>(a1n (hold2 b (a3Z hv)) o).trans hv,d8r _,fun b o hb hf=>(a2l (hold2 b hb) o).trans hf⟩,rfl,rfl,rfl,fun b hb _=>⟨hold2 b hb,by rw [hL b hb]⟩⟩
   have hcs:cs.length=xs.1.length*Rp.sz (I E):=g5.len
   have hmax:xs.1.length<=maxLen:=by
    have h1:xs.1.length<=xs.1.length*Rp.sz (I E):=d9Q _ (Rp.pos (α:=I E))
    have h2:=d8N b3
    rw [d8s b1] at h2
    simp only [maxLen]; omega
   have hown:a0a (some τ.N) false E υ xs.1 (some ⟨τ.N,0,none⟩) xs.1.length :=
    ⟨cs.toArray,cs,rfl,heap_alloc_new _ _,d8r _,hmax,by simpa using hcs,g5.mono hst2.wext,by rw [<- hcs]; exact List.take_length,by simp [υ]⟩
   obtain ⟨k1,k2⟩:=(hrel.step hst2).newRow hnb hown fun g hg=>by
    cases hg
    refine ⟨.inl hrel.base.1,hrel.freshN hst2 (d8r _),fun l' p' ⟨o,ho⟩ hc hw=>?_⟩
    have:=(hrel.objs l' o ho).lt hc hw
    omega
   exact hk _ υ _ k1 k2 (by simp only [RV]; exact ⟨_,Q5 _ _ _,rfl⟩) (hst.trans hst2.no)
 ·rename_i T x y
  replace hx:=bind_some hx
  obtain ⟨p,hp,hx⟩:=hx
  replace hx:=bind_some hx
  obtain ⟨q,hq,hx⟩:=hx
  replace hx:=bind_some hx
  obtain ⟨len,hlen,hx⟩:=hx
  replace hx:=bind_some hx
  obtain ⟨cap,hcap,hx⟩:=hx
  replace hx:=bind_some hx
  obtain ⟨E,hE,hx⟩:=hx
  replace hx:=bind_some hx
  obtain ⟨by_,hby,hx⟩:=hx
  replace hx:=bind_some hx
  obtain ⟨zs,hzs,hx⟩:=hx
  replace hx:=bind_some hx
  obtain ⟨z0,hz0,hx⟩:=hx
  replace hx:=bind_some hx
  obtain ⟨m,hm,hx⟩:=hx
  cases hx
  have hnb:s.O nb=none:=a3V hf
  obtain ⟨h1,h2⟩:=E1 hp
  obtain ⟨h3,h4⟩:=E1 hq
  have asI_ok:∀ {q:PV I} {j:Int} {v:Value},asI q=some j->RV X c σ q v->v=.int .i64 j:=by
   intro q j v hj hv
   unfold asI at hj
   split at hj
   ·cases hj; simpa only [RV] using hv
   ·cases hj
  have h2':=asI_ok hlen h2
  have h4':=asI_ok hcap h4
  obtain ⟨z,hT⟩:=ht.slice _ _ _ hE hby
  obtain ⟨z1,sz1,by1,cs1,hT1,hc1,hl1⟩:=ht.zero _ _ hzs
  have hz:z1=z:=by
   obtain ⟨i,a1,a2,_⟩:=hT1
   obtain ⟨_,⟨i',b1,b2,_⟩,_⟩:=hT
   rw [a1] at b1
   cases b1
   rw [a2] at b2
   cases b2
   rfl
  subst hz
  have hcell:Rp.cells σ z0 z1.cells.toList:=by rw [hc1]; exact ht.of X c σ E zs z0 cs1 hz0 (hl1 X c σ)
  obtain ⟨τ,k,hrun,hst,hown,hcells⟩:=d2g (P:=P) (σ:=σ) hT hcell hm
  refine J7 rfl (.slice (some ⟨σ.N,0,none⟩) (d8D m z0).length k) τ.w ?_ ?_
  ·show Sem.run P (do pure (Next.value (<- Instr.makeSlice T ((fr n F).eval x) ((fr n F).eval y)))) σ.w=_
   rw [w8 h1,w8 h3,h2',h4',Sem.run_bind,hrun]
   rfl
  ·rcases d5G (tb:=tb) (zs:=zs) (xs:=d8D m z0) (E:=E) with e | ⟨E',u,r,e,q1,q2⟩
   ·obtain ⟨k1,k2⟩:=(h.step hst).newRow hnb hown fun g hg=>by
     cases hg
     refine ⟨.inl h.base.1,h.freshN hst (d8r _),fun l' p' ⟨o,ho⟩ hc hw=>?_⟩
     have:=(h.objs l' o ho).lt hc hw
     omega
    rw [e] at hk
    exact hk _ τ _ k1 k2 (by simp only [RV]; exact ⟨_,Q5 _ _ _,rfl⟩) hst.no
   ·obtain ⟨d1,d2,ed,hd1,_,hd2⟩:=a4N (X:=X) (c:=c) (σ:=σ) ht (a:=r.1) (b:=r.2) q1 (hl1 X c σ)
    obtain ⟨v,hv,hrv⟩:=c2G ht q2 hd2
    simp only [RV] at hrv
    obtain ⟨A0,rfl⟩:=hrv
    have hzu:z1.cells.toList[u]?=some (.slice A0 0 0):=by
     rw [hc1,ed,d8z (by omega),hd1,Nat.sub_self]
     exact hv
    obtain ⟨k1,k2⟩:=h.newNest (E':=E') (u:=u) hst hnb hown fun i hi=>⟨A0,hcells i u _ (by simpa using hi) hzu⟩
    rw [e] at hk
    exact hk _ τ _ k1 k2 (by simp only [RV]; exact ⟨_,Q5 _ _ _,rfl⟩) hst.no
 ·rename_i args ats
  split at hx
  ·rename_i x T ea et
   obtain rfl:args=#[x]:=by cases args; simp_all
   obtain rfl:ats=#[T]:=by cases ats; simp_all
   replace hx:=bind_some hx
   obtain ⟨p,hp,hx⟩:=hx
   obtain ⟨h1,h2⟩:=E1 hp
   split at hx
   ·replace hx:=bind_some hx
    obtain ⟨E,hE,hx⟩:=hx
    cases hx
    simp only [RV] at h2
    obtain ⟨A,k,e1,_⟩:=h2
    exact b0q A _ k e1 h1 (ht.el _ _ hE).1 (hval _ _ rfl (by simp only [RV]))
   ·replace hx:=bind_some hx
    obtain ⟨E,hE,hx⟩:=hx
    cases hx
    simp only [RV] at h2
    obtain ⟨A,e1⟩:=h2
    exact b0q A 0 0 e1 h1 (ht.el _ _ hE).1 (hval _ _ rfl (by simp only [RV]; rfl))
   ·rename_i l
    split at hx
    ·rename_i E' xs fl ho
     replace hx:=bind_some hx
     obtain ⟨E,hE,hx⟩:=hx
     cases hx
     obtain ⟨A,k,ow,k1,_⟩:=hO _ _ ho
     simp only [RV] at h2
     obtain ⟨pl,k2,e1⟩:=h2
     rw [k1] at k2
     cases k2
     exact b0q A _ k e1 h1 (ht.el _ _ hE).1 (hval _ _ rfl (by simp only [RV]))
    ·rename_i E' xs ho
     replace hx:=bind_some hx
     obtain ⟨E,hE,hx⟩:=hx
     cases hx
     obtain ⟨A,k,k1,_⟩:=hO _ _ ho
     simp only [RV] at h2
     obtain ⟨pl,k2,e1⟩:=h2
     rw [k1] at k2
     cases k2
     exact b0q A _ k e1 h1 (ht.el _ _ hE).1 (hval _ _ rfl (by simp only [RV]))
    ·rename_i E' xs ho
     replace hx:=bind_some hx
     obtain ⟨E,hE,hx⟩:=hx
     cases hx
     obtain ⟨A,k,k1,_⟩:=hO _ _ ho
     simp only [RV] at h2
     obtain ⟨pl,k2,e1⟩:=h2
     rw [k1] at k2
     cases k2
     exact b0q A _ k e1 h1 (ht.el _ _ hE).1 (hval _ _ rfl (by simp only [RV]))
    ·rename_i E' E1 u1 xs q1 ho
     replace hx:=bind_some hx
     obtain ⟨E,hE,hx⟩:=hx
     cases hx
     obtain ⟨A,k,ow,k1,_⟩:=hO _ _ ho
     simp only [RV] at h2
     obtain ⟨pl,k2,e1⟩:=h2
     rw [k1] at k2
     cases k2
     exact b0q A _ k e1 h1 (ht.el _ _ hE).1 (hval _ _ rfl (by simp only [RV]))
    ·cases hx
   ·rename_i l sz0 lo
    split at hx
    ·rename_i E' xs fl ho
     replace hx:=bind_some hx
     obtain ⟨E,hE,hx⟩:=hx
     cases hx
     obtain ⟨A,k,ow,k1,_⟩:=hO _ _ ho
     simp only [RV] at h2
     obtain ⟨b,k',m,w,k2,e1⟩:=h2
     rw [k1] at k2
     cases k2
     exact b0q _ _ _ e1 h1 (ht.el _ _ hE).1 (hval _ _ rfl (by simp only [RV,d83]))
    ·cases hx
   ·replace hx:=j8 hx
    obtain ⟨hb,hx⟩:=hx
    cases hx
    simp only [RV] at h2
    exact c8y _ h2 h1 (ht.isStr _ hb) (hval _ _ rfl (by simp only [RV]))
   ·cases hx
  ·cases hx
 ·rename_i args ats
  split at hx
  ·rename_i x T ea et
   obtain rfl:args=#[x]:=by cases args; simp_all
   obtain rfl:ats=#[T]:=by cases ats; simp_all
   replace hx:=bind_some hx
   obtain ⟨p,hp,hx⟩:=hx
   replace hx:=bind_some hx
   obtain ⟨E,hE,hx⟩:=hx
   replace hx:=bind_some hx
   obtain ⟨by_,hby,hx⟩:=hx
   replace hx:=bind_some hx
   obtain ⟨zs,hzs,hx⟩:=hx
   replace hx:=bind_some hx
   obtain ⟨z0,hz0,hx⟩:=hx
   obtain ⟨h1,h2⟩:=E1 hp
   split at hx
   ·rename_i l sz lo
    split at hx
    ·rename_i E' xs ho
     replace hx:=j8 hx
     obtain ⟨hb,hx⟩:=hx
     simp only [d8p] at hb
     have e2:=d8s hb.1
     have hlt:=a64 hb.2
     subst e2
     replace hx:=bind_some hx
     obtain ⟨ys,hys,hx⟩:=hx
     obtain ⟨e,e'⟩:=a0l hys
     subst e
     subst e'
     cases hx
     obtain ⟨z,hT⟩:=ht.slice _ _ _ hE hby
     obtain ⟨z1,sz1,by1,cs1,hT1,hc1,hl1⟩:=ht.zero _ _ hzs
     have hz:z1=z:=by
      obtain ⟨i,a1,a2,_⟩:=hT1
      obtain ⟨_,⟨i',b1,b2,_⟩,_⟩:=hT
      rw [a1] at b1
      cases b1
      rw [a2] at b2
      cases b2
      rfl
     subst hz
     have hcell:Rp.cells σ z0 z1.cells.toList:=by rw [hc1]; exact ht.of X c σ _ zs z0 cs1 hz0 (hl1 X c σ)
     obtain ⟨A,k,ow,k1,k2⟩:=hO _ _ ho
     simp only [RV] at h2
     obtain ⟨b,k',m,w,k3,e1⟩:=h2
     rw [k1] at k3
     cases k3
     cases ow with
     | none =>
       rcases k2 with ⟨e,_⟩ | ⟨e,_⟩
       ·subst e; simp at hlt
       ·cases e
     | some g =>
       have hg:g=b:=by
        obtain ⟨cur,cs,e,_⟩:=k2
        cases e
        rfl
       subst hg
       obtain ⟨τ,hrun,hst,hown⟩:=d2d (ty:=ty) hT hcell k2 hlt
       have hM:X.M g:=h.mine l _ g ⟨_,hO0 _ _ ho⟩ k1 rfl
       have hrel:=h.upd (o':=some (.row _ (ys.take lo++d8D (ys.length-lo) z0) false)) ⟨_,hO0 _ _ ho⟩ k1 rfl hst fun o'' e=>by
        cases e
        refine ⟨_,k,some g,?_,hown⟩
        rw [k1]
        congr 2
        simp
        omega
       refine J7 rfl (.tuple #[]) τ.w ?_ (hk _ τ c (Cx.le_refl c) hrel (by simp only [RV]; exact ⟨[],rfl,by simp only [RVs]⟩) (hst.mono fun _ _ e=>by rw [e]; exact hM))
       simp [execOp,resolve,invoke,builtin,w8 h1,e1,hrun]
    ·cases hx
   ·cases hx
  ·cases hx
 ·rename_i args ats
  split at hx
  ·rename_i x y T T' ea et
   obtain rfl:args=#[x,y]:=by cases args; simp_all
   obtain rfl:ats=#[T,T']:=by cases ats; simp_all
   replace hx:=bind_some hx
   obtain ⟨p,hp,hx⟩:=hx
   replace hx:=bind_some hx
   obtain ⟨q,hq,hx⟩:=hx
   obtain ⟨h1,h2⟩:=E1 hp
   obtain ⟨h3,h4⟩:=E1 hq
   split at hx
   ·replace hx:=a0V hx
    obtain ⟨e,hx⟩:=hx
    subst e
    cases hx
    simp only [RV] at h2 h4
    exact d7w _ _ _ h2 h4 h1 h3 (hval _ _ rfl (by simp only [RV]))
   ·cases hx
  ·cases hx
 ·rename_i args ats
  split at hx
  ·rename_i x y T T' ea et
   obtain rfl:args=#[x,y]:=by cases args; simp_all
   obtain rfl:ats=#[T,T']:=by cases ats; simp_all
   replace hx:=bind_some hx
   obtain ⟨p,hp,hx⟩:=hx
   replace hx:=bind_some hx
   obtain ⟨q,hq,hx⟩:=hx
   obtain ⟨h1,h2⟩:=E1 hp
   obtain ⟨h3,h4⟩:=E1 hq
   split at hx
   ·replace hx:=a0V hx
    obtain ⟨e,hx⟩:=hx
    subst e
    cases hx
    simp only [RV] at h2 h4
    exact d7F _ _ _ h2 h4 h1 h3 (hval _ _ rfl (by simp only [RV]))
   ·cases hx
  ·cases hx
 ·rename_i args ats
  split at hx
  ·rename_i x y T T' ea et
   obtain rfl:args=#[x,y]:=by cases args; simp_all
   obtain rfl:ats=#[T,T']:=by cases ats; simp_all
   replace hx:=bind_some hx
   obtain ⟨p,hp,hx⟩:=hx
   replace hx:=bind_some hx
   obtain ⟨q,hq,hx⟩:=hx
   replace hx:=bind_some hx
   obtain ⟨E,hE,hx⟩:=hx
   replace hx:=bind_some hx
   obtain ⟨by_,hby,hx⟩:=hx
   replace hx:=bind_some hx
   obtain ⟨ys,hys,hx⟩:=hx
   obtain ⟨h1,h2⟩:=E2 hp
   obtain ⟨h3,h4⟩:=E2 hq
   refine hpub ys.2 fun τ hw hst hrel hS hR hGt hold=>?_
   have hs2:ApS P ty T T' E by_ τ (ev F y) ys.1:=d42 (ls:=ys.2) ht hE hby hrel hS hys (fun l hl=>hl) (fun l T vs w ho hl=>(hold l hl).trans (hO0 _ _ ho)) (RV.step hst _ _ h4)
   have main:∀ (xs:List (I E)) (A:Option Addr) (k:Nat) (ow:Option Nat) (fl:Bool) (s1:St I),ev F x=.slice A xs.length k->a0a ow fl E τ xs A k->(xs.length+ys.1.length)*by_<=140737488355328->Rel X c τ s1 n F->s1.O nb=none ->
    (∀ g,ow=some g->X.M g/\notIn c τ s1 g/\∀ l' p',Y7 s1 l'->c l'=some p'->p'.w≠some g)->apE s nb e=Y5 s1 nb (some (.row E (xs++ys.1) fl))->e.p=.vw nb ->
    wpList P ops Q (⟨d,.call ⟨.builtin .append,#[x,y],#[T,T']⟩,ty,pos,aft,none⟩::rest) (fr n F) τ.w:=by
    intro xs A k ow fl s1 hv hown hroom hr1 hnb hfree hend hep
    obtain ⟨υ,A',c',ow',hrun,hst2,hown',hg⟩:=d08 (ty:=ty) hown hs2 hroom
    refine J7 rfl (.slice A' (xs++ys.1).length c') υ.w ?_ ?_
    ·simp [execOp,resolve,invoke,builtin,w8 h1,w8 h3,hv,hrun]
    ·have hM:∀ b,ow=some b->X.M b:=fun b hb=>(hfree b hb).1
     have hn1:∀ l p g,Y7 s1 l->c l=some p->p.w=some g->¬ ow=some g:=fun l p g hl hc hw hg=>(hfree g hg).2.2 l p hl hc hw
     have hi1:∀ g,ow=some g->notIn c τ s1 g:=fun g hg=>(hfree g hg).2.1
     have hr2:=hr1.stepG hst2 hM hn1 hi1
     obtain ⟨k1,k2⟩:=hr2.newRow hnb hown' fun g hg'=>by
      rcases hg g hg' with h5 | h5
      ·exact ⟨(hfree g h5).1,(hfree g h5).2.1.step hr1 hst2 hn1 hi1,(hfree g h5).2.2⟩
      ·refine ⟨.inl (d8C hr1.base.1 h5),(hr1.fresh h5).step hr1 hst2 hn1 hi1,fun l' p' ⟨o,ho⟩ hc hw=>?_⟩
       have:=(hr1.objs l' o ho).lt hc hw
       omega
     exact hk _ υ _ k1 (by rw [hend]; exact k2) (by rw [hep]; simp only [RV]; exact ⟨_,Q5 _ _ _,rfl⟩) (hst.trans (hst2.mono fun b _ hb=>hM b hb))
   split at hx
   ·replace hx:=bind_some hx
    obtain ⟨_,hroom,hx⟩:=hx
    cases hx
    simp only [RV] at h2
    obtain ⟨A,e1⟩:=h2
    exact main [] A 0 none false (Z8 s O ys.2) e1 (.inl ⟨rfl,rfl⟩) (b9X hroom) hrel (a3V hf) (fun g hg=>by cases hg) rfl rfl
   ·rename_i E' xs
    replace hx:=bind_some hx
    obtain ⟨xs',hxs,hx⟩:=hx
    replace hx:=bind_some hx
    obtain ⟨_,hroom,hx⟩:=hx
    obtain ⟨e,e'⟩:=a0l hxs
    subst e
    subst e'
    cases hx
    have h2':=RV.step hst _ _ h2
    simp only [RV] at h2'
    obtain ⟨A,k,e1,hs,hfull⟩:=h2'
    have hk':=hfull (by simp)
    subst hk'
    exact main xs' A _ none true (Z8 s O ys.2) e1 (.inr ⟨rfl,rfl,hs⟩) (b9X hroom) hrel (a3V hf) (fun g hg=>by cases hg) rfl rfl
   ·rename_i l
    split at hx
    ·rename_i E' xs fl ho
     replace hx:=bind_some hx
     obtain ⟨xs',hxs,hx⟩:=hx
     replace hx:=bind_some hx
     obtain ⟨_,hroom,hx⟩:=hx
     obtain ⟨e,e'⟩:=a0l hxs
     subst e
     subst e'
     cases hel:ys.2.elem l with
     | true=>rw [hel] at hx; cases hx
     | false =>
       rw [hel] at hx
       cases hx
       have hnl:l ∉ ys.2:=by simpa using hel
       have hol:(Z8 s O ys.2).O l=some (some (.row E' xs' fl)):=(hold l hnl).trans (hO0 _ _ ho)
       obtain ⟨A,k,ow,k1,k2⟩:=hrel.objs l _ hol
       simp only [RV] at h2
       obtain ⟨pl,k3,e1⟩:=h2
       rw [k1] at k3
       cases k3
       have hkill:=hrel.kill (l:=l) ⟨_,hol⟩
       have hO1:(Y5 (Z8 s O ys.2) l none).O=apU s.O (Q3 O ys.2++[(l,none)]):=by
        simp only [a2O,apU,Y5,Z8]
       refine main xs' A k ow fl (Y5 (Z8 s O ys.2) l none) e1 k2 (b9X hroom) hkill (by rw [hO1]; exact a3V hf) (fun g hg=>⟨hrel.mine l _ g ⟨_,hol⟩ k1 hg,(hrel.owned ⟨_,hol⟩ k1 hg).set,fun l' p' ⟨o,ho'⟩ hc hw=>?_⟩) ?_ rfl
       ·rcases Z2 ho' with ⟨_,e⟩ | ⟨e,h'⟩
        ·cases e
        ·exact e (hrel.inj l' l _ _ g ⟨o,h'⟩ ⟨_,hol⟩ hc k1 hw hg)
       ·simp only [apE,a0d,a2O,apU,Y5,Z8]
    ·cases hx
   ·cases hx
  ·cases hx
 ·rename_i f args ats
  replace hx:=bind_some hx
  obtain ⟨ps,hps,hx⟩:=hx
  obtain ⟨h1,h2⟩:=b2C hG hps
  have hc:=hd.ok _ _ _ _ _ hx X c σ s n F _ hX hO0 h h2 hf
  have e:args=args.toList.toArray:=by simp
  rw [e]
  refine a8z rfl hc (c2S h1 σ.w) fun v τ hst ⟨c',k1,k2,k3⟩=>hk v τ c' k1 k2 k3 hst
 ·rename_i t args ats
  replace hx:=bind_some hx
  obtain ⟨p,hp,hx⟩:=hx
  obtain ⟨h0,h0'⟩:=E1 hp
  have e:args=args.toList.toArray:=by simp
  split at hx
  ·rename_i f ls
   replace hx:=bind_some hx
   obtain ⟨ps,hps,hx⟩:=hx
   obtain ⟨h1,h2⟩:=b2C hG hps
   simp only [RV] at h0'
   obtain ⟨cs,e1,h3⟩:=h0'
   have hc:=hd.ok _ _ _ _ _ hx X c σ s n F _ hX hO0 h (RVs.app _ _ _ _ h2 h3) hf
   rw [e]
   exact a8z rfl hc (by have:=c0G (P:=P) (d:=d) (ats:=ats) (ty:=ty) (pos:=pos) (aft:=aft) (d8k:=[]) h1 h0 e1 σ.w; simpa using this) fun v τ hst ⟨c',k1,k2,k3⟩=>hk v τ c' k1 k2 k3 hst
  ·rename_i f ls
   replace hx:=bind_some hx
   obtain ⟨ps,hps,hx⟩:=hx
   obtain ⟨h1,h2⟩:=b2C hG hps
   simp only [RV] at h0'
   obtain ⟨cs,e1,h3⟩:=h0'
   have hc:=hd.ok _ _ _ _ _ hx X c σ s n F _ hX hO0 h (RVs.app _ _ _ _ h3 h2) hf
   rw [e]
   exact a8z rfl hc (by have:=c0G (P:=P) (d:=d) (ats:=ats) (ty:=ty) (pos:=pos) (aft:=aft) (cs:=[]) h1 h0 e1 σ.w; simpa using this) fun v τ hst ⟨c',k1,k2,k3⟩=>hk v τ c' k1 k2 k3 hst
  ·rename_i ks rs g
   replace hx:=bind_some hx
   obtain ⟨ps,hps,hx⟩:=hx
   replace hx:=bind_some hx
   obtain ⟨q,hq,hx⟩:=hx
   replace hx:=bind_some hx
   obtain ⟨r,hr,hx⟩:=hx
   cases hx
   obtain ⟨h1,h2⟩:=b2C hG hps
   refine hpub q.2 fun τ hw hst hrel hS hR hGt hold=>?_
   have hDV:=b0J ht hS (ls:=q.2) hq (fun l hl=>hl) (RVs.step hst _ _ h2)
   have h0t:=RV.step hst _ _ h0'
   simp only [RV] at h0t
   obtain ⟨f,d8k,cs,e1,hfn⟩:=h0t
   have hc:=hfn.2.2 τ (Stp.refl _ _) q.1 _ r hDV hr
   rw [hX] at hc
   rw [e]
   refine a8z rfl hc (c0G h1 h0 e1 τ.w) fun v υ hst2 ⟨ws,e2,hws⟩=>?_
   subst e2
   exact hk _ υ c (Cx.le_refl c) (hrel.step hst2) (b6h (b6l ht hws (fun i pl h=>by simp at h)).1) (hst.trans hst2.no)
  ·cases hx
 ·replace hx:=bind_some hx
  obtain ⟨kd,hkd,hx⟩:=hx
  cases hx
  have hnb:s.O nb=none:=a3V hf
  refine d2l fun τ hE hh=>?_
  obtain ⟨k1,k2⟩:=h.newMap (m:=([]:List (ByteArray×Ty I kd))) hnb hE ⟨#[],0,hh,by simp [a9g]⟩
  exact hk _ τ _ k1 k2 (by simp only [RV]; exact ⟨σ.N,_,Q5 _ _ _,rfl⟩) (Stp.ext hE).no
 ·rename_i T x y ok
  replace hx:=bind_some hx
  obtain ⟨p,hp,hx⟩:=hx
  replace hx:=bind_some hx
  obtain ⟨q,hq,hx⟩:=hx
  obtain ⟨h1,h2⟩:=E1 hp
  obtain ⟨h3,h4⟩:=E1 hq
  split at hx
  ·rename_i l t
   split at hx
   ·rename_i T' kd m ho
    replace hx:=j8 hx
    obtain ⟨hT,hx⟩:=hx
    have eT:=d8s hT
    subst eT
    replace hx:=bind_some hx
    obtain ⟨kd',hkd,hx⟩:=hx
    replace hx:=j8 hx
    obtain ⟨hdk,hx⟩:=hx
    have ek:=of_decide_eq_true hdk
    subst ek
    replace hx:=bind_some hx
    obtain ⟨z,hz,hx⟩:=hx
    cases hx
    obtain ⟨b,k1,k2⟩:=hO _ _ ho
    simp only [RV] at h2 h4
    obtain ⟨b',w,k3,e1⟩:=h2
    rw [k1] at k3
    cases k3
    obtain ⟨v,r1,r2⟩:=c3Q (ok:=ok) (s:=t) (ht.mp _ _ hkd) hz k2
    refine c8o _ _ _ e1 h4 h1 h3 r1 (hval _ _ rfl ?_)
    have hr:=a97 (X:=X) (c:=c) ht r2
    cases ok with
    | false=>exact hr
    | true =>
      simp only [cond_true,RV]
      exact ⟨[v,.bool (a29 m t).isSome],rfl,by simp only [RVs]; exact ⟨v,_,rfl,hr,_,_,rfl,by simp only [RV],rfl⟩⟩
   ·rename_i T' kd m ho
    replace hx:=j8 hx
    obtain ⟨hT,hx⟩:=hx
    have eT:=d8s hT
    subst eT
    replace hx:=bind_some hx
    obtain ⟨kd',hkd,hx⟩:=hx
    replace hx:=j8 hx
    obtain ⟨hdk,hx⟩:=hx
    have ek:=of_decide_eq_true hdk
    subst ek
    replace hx:=bind_some hx
    obtain ⟨z,hz,hx⟩:=hx
    cases hx
    obtain ⟨b,k1,k2,_⟩:=hO _ _ ho
    simp only [RV] at h2 h4
    obtain ⟨b',w,k3,e1⟩:=h2
    rw [k1] at k3
    cases k3
    obtain ⟨v,r1,r2⟩:=c3Q (ok:=ok) (s:=t) (ht.mp _ _ hkd) hz k2
    refine c8o _ _ _ e1 h4 h1 h3 r1 (hval _ _ rfl ?_)
    have hr:=a97 (X:=X) (c:=c) ht r2
    cases ok with
    | false=>exact hr
    | true =>
      simp only [cond_true,RV]
      exact ⟨[v,.bool (a29 m t).isSome],rfl,by simp only [RVs]; exact ⟨v,_,rfl,hr,_,_,rfl,by simp only [RV],rfl⟩⟩
   ·cases hx
  ·cases hx
 ·rename_i T x y z
  replace hx:=bind_some hx
  obtain ⟨p,hp,hx⟩:=hx
  replace hx:=bind_some hx
  obtain ⟨q,hq,hx⟩:=hx
  replace hx:=bind_some hx
  obtain ⟨r,hr,hx⟩:=hx
  obtain ⟨h1,h2⟩:=E1 hp
  obtain ⟨h3,h4⟩:=E1 hq
  obtain ⟨h5,h6⟩:=E1 hr
  split at hx
  ·rename_i l t
   split at hx
   ·rename_i T' kd m ho
    replace hx:=j8 hx
    obtain ⟨hT,hx⟩:=hx
    have eT:=d8s hT
    subst eT
    replace hx:=bind_some hx
    obtain ⟨kd',hkd,hx⟩:=hx
    replace hx:=j8 hx
    obtain ⟨hdk,hx⟩:=hx
    have ek:=of_decide_eq_true hdk
    subst ek
    replace hx:=bind_some hx
    obtain ⟨a,ha,hx⟩:=hx
    cases hx
    refine hpub a.2 fun τ hw hst hrel hS hR hGt hold=>?_
    have hDV:=a5Q ht hS (ls:=a.2) ha (fun l hl=>hl) (RV.step hst _ _ h6)
    obtain ⟨b,k1,k2⟩:=hS.2.2.1 l _ _ _ ho
    simp only [RV] at h2 h4
    obtain ⟨b',w,k3,e1⟩:=h2
    rw [k1] at k3
    cases k3
    obtain ⟨υ,u1,u2,u3⟩:=c30 (s:=t) (ht.mp _ _ hkd) k2 hDV
    have hol:(Z8 s O a.2).O l=some (some (.map T kd' m)):=by
     show apU s.O (Q3 O a.2) l=_
     rw [a7u (fun E xs e'=>by rw [ho] at e'; cases e')]
     exact hO0 _ _ ho
    have hM:=hrel.mine l _ b ⟨_,hol⟩ k1 rfl
    have hrel2:=hrel.upd (o':=some (.map T kd' (a5j m t a.1))) ⟨_,hol⟩ k1 rfl u2 fun o e=>by
     cases e
     exact ⟨b,k1,u3⟩
    have he:apE s nb ⟨.undef,Q3 O a.2++[(l,some (.map T kd' (a5j m t a.1)))],[]⟩=Y5 (Z8 s O a.2) l (some (.map T kd' (a5j m t a.1))):=by simp only [apE,a0d,a2O,apU,Y5,Z8]
    refine c9K _ _ _ e1 h4 rfl h1 h3 h5 u1 (hk _ υ c (Cx.le_refl c) (by rw [he]; exact hrel2) (by simp only [RV]) (hst.trans (u2.mono fun b' _ e=>by rw [e]; exact hM)))
   ·cases hx
  ·cases hx
 ·rename_i T x y z
  replace hx:=bind_some hx
  obtain ⟨p,hp,hx⟩:=hx
  replace hx:=bind_some hx
  obtain ⟨q,hq,hx⟩:=hx
  replace hx:=bind_some hx
  obtain ⟨r,hr,hx⟩:=hx
  obtain ⟨h1,h2⟩:=E1 hp
  obtain ⟨h3,h4⟩:=E1 hq
  obtain ⟨h5,h6⟩:=E1 hr
  split at hx
  ·rename_i l t
   split at hx
   ·rename_i T' kd m ho
    replace hx:=j8 hx
    obtain ⟨hT,hx⟩:=hx
    have eT:=d8s hT
    subst eT
    replace hx:=bind_some hx
    obtain ⟨kd',hkd,hx⟩:=hx
    replace hx:=j8 hx
    obtain ⟨hdk,hx⟩:=hx
    have ek:=of_decide_eq_true hdk
    subst ek
    replace hx:=bind_some hx
    obtain ⟨a,ha,hx⟩:=hx
    cases hx
    refine hpub a.2 fun τ hw hst hrel hS hR hGt hold=>?_
    have hDV:=a5Q ht hS (ls:=a.2) ha (fun l hl=>hl) (RV.step hst _ _ h6)
    obtain ⟨b,k1,k2⟩:=hS.2.2.1 l _ _ _ ho
    simp only [RV] at h2 h4
    obtain ⟨b',w,k3,e1⟩:=h2
    rw [k1] at k3
    cases k3
    obtain ⟨υ,u1,u2,u3⟩:=c30 (s:=t) (ht.mp _ _ hkd) k2 hDV
    have hol:(Z8 s O a.2).O l=some (some (.map T kd' m)):=by
     show apU s.O (Q3 O a.2) l=_
     rw [a7u (fun E xs e'=>by rw [ho] at e'; cases e')]
     exact hO0 _ _ ho
    have hM:=hrel.mine l _ b ⟨_,hol⟩ k1 rfl
    have hrel2:=hrel.upd (o':=some (.map T kd' (a5j m t a.1))) ⟨_,hol⟩ k1 rfl u2 fun o e=>by
     cases e
     exact ⟨b,k1,u3⟩
    have he:apE s nb ⟨.undef,Q3 O a.2++[(l,some (.map T kd' (a5j m t a.1)))],[]⟩=Y5 (Z8 s O a.2) l (some (.map T kd' (a5j m t a.1))):=by simp only [apE,a0d,a2O,apU,Y5,Z8]
    refine d3g _ _ _ e1 h4 rfl h1 h3 h5 u1 (hk _ υ c (Cx.le_refl c) (by rw [he]; exact hrel2) (by simp only [RV]) (hst.trans (u2.mono fun b' _ e=>by rw [e]; exact hM)))
   ·cases hx
  ·cases hx
 ·cases hx
end
end Go.Qx
end
section
open Bool renaming and_eq_true->d8p,not_eq_true'->d9N
open List renaming all_eq_true->d8q,any_eq_true->e0c,getElem?_take_of_lt->d8K,mem_append->d8y,mem_cons->d8A,mem_map->d8T,mem_of_getElem?->d8x,mem_singleton->d9o,pairwise_append->d9X,pairwise_cons->d93,take_append_drop->d88
open Nat renaming beq->d8u,ble->d89,blt->d8V,eq_of_beq_eq_true->d8s
open Option renaming bind_some->d8l,isSome_iff_exists->d9K
namespace Go.Qx
open Go Go.RowKit Go.Sx
def b08 (tds:List (List Nat))(i:Nat):List Nat:=(tds[i]?).getD []
def b1T (ops:List Oper)(i:Nat):Option Nat:=(ops[i]?).bind (·.dst)
def W5 (x:Nat):List Nat->Bool
 | []=>false
 | y::r=>bif d8u x y then true else W5 x r
theorem a0C {x:Nat}:∀ {l:List Nat},W5 x l=true↔x∈l
 | []=>by simp [W5]
 | y::r=>by
   simp only [W5,d8A]
   cases h:d8u x y with
   | true=>simp [d8s h]
   | false =>
     simp only [cond_false,a0C]
     constructor
     ·exact .inr
     ·rintro (rfl | h')
      ·simp at h
      ·exact h'
theorem a1v {x:Nat}{l:List Nat}:W5 x l=false↔x ∉ l:=by
 rw [<- Bool.not_eq_true,a0C]
def a1t (op:Op):List Nat:=op.operands.toList.filterMap fun x=>match x with
 | .tmp t=>some t
 | _=>none
structure Inf where
 T:Option (List Nat)
 W:List Nat
def d0Y (a b:List Nat):Bool:=a.all fun x=>!(W5 x b)
def b7B (a:List Nat):Option (List Nat)->Bool
 | some t=>d0Y a t
 | none=>a.isEmpty
def b0h (a b:Inf):Bool:=d0Y a.W b.W&&b7B a.W b.T&&b7B b.W a.T
theorem b3r {a b:List Nat}:d0Y a b=true↔∀ x∈a,x ∉ b:=by
 simp only [d0Y,d8q,d9N,a1v]
theorem c6i {a b:Inf}(h:b0h a b=true):b0h b a=true:=by
 simp only [b0h,d8p] at h ⊢
 refine ⟨⟨?_,h.2⟩,h.1.2⟩
 rw [b3r] at *
 exact fun x hx hy=>h.1.1 x hy hx
def rng (nb:Nat):Nat->List Nat
 | 0=>[]
 | m+1=>nb::rng (nb+1) m
def c3m (all:List Oper)(o:Oper):List Nat:=a1t o.op++match o.guard with
 | some (j,_)=>(b1T all j).toList
 | none=>[]
def c7g (d:Option Nat)(l:List Nat):Bool:=match d with
 | some d=>W5 d l
 | none=>false
def a9R (all:List Oper)(x y:Oper):Bool:=!(c7g x.dst (c3m all y))&&!(c7g y.dst (c3m all x))&&!(c7g x.dst y.dst.toList)
section
variable {I:TypeId->Type} [∀ E,Rp (I E)]
mutual
def c3C:PV I->List Nat
 | .ptr l _=>[l]
 | .vw l=>[l]
 | .vp l _ _ _=>[l]
 | .vs l _ _=>[l]
 | .av l _ _=>[l]
 | .mp l=>[l]
 | .clo _ ls=>b6v ls
 | .mth _ ls=>b6v ls
 | .agg ls=>b6v ls
 | .tup ls=>b6v ls
 | _=>[]
def b6v:List (PV I)->List Nat
 | []=>[]
 | p::r=>c3C p++b6v r
end
def a4i (F:Nat->Option (PV I)):List Nat->List Nat
 | []=>[]
 | t::r=>(match F t with | some p=>c3C p | none=>[])++a4i F r
def nest (O:Obs I):List Nat->List Nat
 | []=>[]
 | l::r=>(match O l with | some (some (.var _ ls _))=>b6v ls | _=>[])++nest O r
def c7l (F:Nat->Option (PV I))(O:Obs I)(ts:List Nat):List Nat :=
 let a:=a4i F ts
 let b:=a++nest O a
 b++nest O b
def d4V:Op->Bool
 | .move _=>true
 | .assign _=>true
 | .fieldAddr _ _ _=>true
 | .nilCheck _=>true
 | .extract _ _=>true
 | _=>false
def d2G:Op->Bool
 | .load _ _=>true
 | _=>false
def a35 (F:Nat->Option (PV I))(O:Obs I)(op:Op):List Nat:=bif d4V op then [] else bif d2G op then a4i F (a1t op) else c7l F O (a1t op)
def c5j (F:Nat->Option (PV I))(ts:List Nat):Nat->Option (PV I):=fun i=>bif W5 i ts then F i else none
def c5e (O:Obs I)(ls:List Nat):Obs I:=fun i=>bif W5 i ls then O i else none
def a0S (u:List (Nat×Option (Ob I))):List Nat:=u.map (·.1)
def a4c (s:St I)(i:Nat):Nat:=s.nx+8*i
def a3L (tb:Tab I)(disp:a0f I)(s:St I)(i:Nat)(o:Oper){ρ:Type}(k:Ef I->Option ρ):Option ρ :=
 bif (a1t o.op).all (fun t=>(s.F t).isSome) then
 eff tb disp s.n (c5j s.F (a1t o.op)) (c5e s.O (a35 s.F s.O o.op)) (a4c s i) o.type o.op k else none
def okE (s:St I)(i:Nat)(e:Ef I):Bool:=d89 e.new.length 8&&a2A (apU s.O e.upd) (a4c s i) e.new
def b2I (s:St I)(i:Nat)(o:Oper)(e:Ef I):Inf:=⟨some (a35 s.F s.O o.op),a0S e.upd++rng (a4c s i) e.new.length⟩
def apS (s:St I)(i:Nat)(o:Oper)(e:Ef I):St I:=put (apE s (a4c s i) e) o.dst e.p
def a4j {α:Type}:List α->Bool
 | []=>true
 | _=>false
abbrev Acc:=List (Nat×Inf)
def chk (tds:List (List Nat))(drw:Bool)(acc:Acc)(i:Nat)(f:Inf):Bool:=bif drw then acc.all (fun a=>W5 a.1 (b08 tds i)||b0h a.2 f) else true
section
variable {ρ:Type}
def step (tb:Tab I)(disp:a0f I)(tds:List (List Nat))(drw pure:Bool)(acc:Acc)(s:St I)(i:Nat)(o:Oper)(k:St I->Acc->Option ρ):Option ρ :=
 a3L tb disp s i o fun e=>bif okE s i e&&(bif pure then a4j e.upd&&a4j e.new else true)&&chk tds drw acc i (b2I s i o e) then k (apS s i o e) (bif drw then (i,b2I s i o e)::acc else acc) else none
end
def d6D (d:Nat)(o:Oper):Bool:=match o.op with
 | .pick (.tmp c) _ _=>d8u c d
 | _=>false
def c8f (d:Nat):List (Nat×Oper)->Nat->Option Nat
 | [],_=>none
 | o::r,n=>bif d6D d o.2 then some n else c8f d r (n+1)
def a15 (l:List (Nat×Oper))(i:Nat):Bool:=l.any fun o=>match o.2.dst with
 | some d=>d8u d i
 | none=>false
def d0F (l:List (Nat×Oper))(m:Nat):Option Nat:=(l[m]?).bind (·.2.dst)
def asB:Option (PV I)->Option Bool
 | some (.bool b)=>some b
 | _=>none
def c7q (s:St I)(g:List (Nat×Oper))(d:Nat)(q:Bool):St I:=⟨s.n,upF (fun i=>bif a15 g i then none else s.F i) d (.bool q),s.O,s.nx⟩
def setB (s:St I)(d:Nat)(b:Bool):St I:=⟨s.n,upF s.F d (.bool b),s.O,s.nx⟩
def a4d (tb:Tab I)(disp:a0f I)(all:List Oper)(tds:List (List Nat))(drw:Bool)(spl:List Nat):Nat->(ρ:Type)->Bool->List Nat->List (Nat×Oper)->Acc->St I->(St I->Acc->Option ρ)->Option ρ
 | 0,_,_,_,_,_,_,_=>none
 | _+1,_,_,_,[],acc,s,k=>k s acc
 | m+1,ρ,pure,kn,o::r,acc,s,k=>match o.2.guard with
   | none=>step tb disp tds drw pure acc s o.1 o.2 fun s acc=>a4d tb disp all tds drw spl m ρ pure kn r acc s k
   | some (j,want)=>(b1T all j).bind fun dj=>bif d8V dj s.n then (match s.F dj with
     | some .undef=>a4d tb disp all tds drw spl m ρ pure kn r acc (put s o.2.dst .undef) k
     | some (.bool c)=>bif W5 dj kn
       then (bif c==want then step tb disp tds drw pure acc s o.1 o.2 fun s acc=>a4d tb disp all tds drw spl m ρ pure kn r acc s k else a4d tb disp all tds drw spl m ρ pure kn r acc (put s o.2.dst .undef) k)
       else bif W5 dj spl
       then (bif c then a4d tb disp all tds drw spl m ρ pure (dj::kn) (o::r) acc (setB s dj true) k else a4d tb disp all tds drw spl m ρ pure (dj::kn) (o::r) acc (setB s dj false) k)
       else (c8f dj (o::r) 0).bind fun mm=>(d0F (o::r) mm).bind fun d =>
        (bif c
         then a4d tb disp all tds drw spl m Bool true (dj::kn) ((o::r).take (mm+1)) acc (setB s dj true) fun s' _=>asB (s'.F d)
         else a4d tb disp all tds drw spl m Bool true (dj::kn) ((o::r).take (mm+1)) acc (setB s dj false) fun s' _=>asB (s'.F d)).bind fun q =>
        a4d tb disp all tds drw spl m ρ pure kn ((o::r).drop (mm+1)) (bif drw then ((o::r).take (mm+1)).map (fun x=>(x.1,⟨none,[]⟩))++acc else acc) (c7q s ((o::r).take (mm+1)) d q) k
     | _=>none) else none
def a4x (tb:Tab I)(disp:a0f I)(all:List Oper)(s:St I)(i:Nat)(o:Oper):Option (Option (Ef I)) :=
 match o.guard with
 | none=>(a3L tb disp s i o some).map some
 | some (j,want)=>(b1T all j).bind fun dj=>bif d8V dj s.n then (match s.F dj with
   | some .undef=>some none
   | some (.bool c)=>bif c==want then (a3L tb disp s i o some).map some else some none
   | _=>none) else none
def ap1 (s:St I)(i:Nat)(o:Oper):Option (Ef I)->St I
 | some e=>apS s i o e
 | none=>put s o.dst .undef
def ok1 (s:St I)(i:Nat):Option (Ef I)->Bool
 | some e=>okE s i e
 | none=>true
def a5p (s:St I)(i:Nat)(o:Oper):Option (Ef I)->Inf
 | some e=>b2I s i o e
 | none=>⟨some [],[]⟩
inductive Flat1 (tb:Tab I) (disp:a0f I) (all:List Oper):St I->List (Nat×Oper)->St I->Acc->Prop
 | nil (s:St I):Flat1 tb disp all s [] s []
 | cons (s:St I) (i:Nat) (o:Oper) (r:Option (Ef I)) (rest:List (Nat×Oper)) (s':St I) (es:Acc) (h1:a4x tb disp all s i o=some r) (h2:ok1 s i r=true)
    (h3:Flat1 tb disp all (ap1 s i o r) rest s' es):Flat1 tb disp all s ((i,o)::rest) s' ((i,a5p s i o r)::es)
variable {P:Program}{tb:Tab I}{disp:a0f I}{all:List Oper}{tds:List (List Nat)}{drw:Bool}{spl:List Nat}{X:Cxt}{c c':Cx}{σ τ:S}
theorem Flat1.app {s s' s'':St I}{l1 l2:List (Nat×Oper)}{e1 e2:Acc}(h:Flat1 tb disp all s l1 s' e1)(k:Flat1 tb disp all s' l2 s'' e2):Flat1 tb disp all s (l1++l2) s'' (e1++e2):=by
 induction h with
 | nil s=>exact k
 | cons s i o r rest s' es h1 h2 h3 ih=>exact .cons s i o r _ _ _ h1 h2 (ih k)
theorem Flat1.mem {s s':St I}{l:List (Nat×Oper)}{es:Acc}(h:Flat1 tb disp all s l s' es):∀ x∈es,∃ y∈l,y.1=x.1:=by
 induction h with
 | nil s=>intro x hx; cases hx
 | cons s i o r rest s' es h1 h2 h3 ih =>
   intro x hx
   rcases d8A.1 hx with rfl | hx
   ·exact ⟨(i,o),by simp,rfl⟩
   ·obtain ⟨y,h1,h2⟩:=ih x hx
    exact ⟨y,by simp [h1],h2⟩
def R (tds:List (List Nat))(a b:Nat×Inf):Prop:=W5 a.1 (b08 tds b.1)=true\/b0h a.2 b.2=true
def Wk (f' f:Inf):Prop:=f'.W=f.W/\(f'.T=none\/f'.T=f.T)
def Cov (acc es:Acc):Prop:=∀ x∈es,x.2=⟨some [],[]⟩\/∃ f',(x.1,f')∈acc/\Wk f' x.2
theorem d31 {w:List Nat}{f' f:Inf}(h:Wk f' f)(k:b7B w f'.T=true):b7B w f.T=true:=by
 rcases h.2 with e | e
 ·rw [e] at k
  simp only [b7B,List.isEmpty_iff] at k
  subst k
  cases f.T<;>rfl
 ·rw [e] at k; exact k
theorem d53 {f' f g:Inf}(h:Wk f' f)(k:b0h f' g=true):b0h f g=true:=by
 simp only [b0h,d8p] at k ⊢
 rw [h.1] at k
 exact ⟨⟨k.1.1,k.1.2⟩,d31 h k.2⟩
theorem c7K (g:Inf):b0h ⟨some [],[]⟩ g=true:=by
 simp only [b0h,d8p]
 refine ⟨⟨rfl,?_⟩,?_⟩
 ·cases g.T<;>rfl
 ·exact b3r.2 fun x _=>by simp
theorem b9I {acc es:Acc}(hc:Cov acc es){i:Nat}{f:Inf}(h:chk tds true acc i f=true):∀ a∈es,R tds a (i,f):=by
 intro a ha
 simp only [chk,cond_true,d8q,Bool.or_eq_true] at h
 rcases hc a ha with e | ⟨f',h1,h2⟩
 ·right
  rw [e]
  exact c7K f
 ·rcases h _ h1 with k | k
  ·exact .inl k
  ·exact .inr (d53 h2 k)
structure Ref (s1 s2:St I):Prop where
 n:s1.n=s2.n
 O:s1.O=s2.O
 nx:s1.nx=s2.nx
 F:∀ i p,s2.F i=some p->s1.F i=some p
theorem d2N (hd:DispOk P disp){s:St I}{i:Nat}{o:Oper}{ρ:Type}(k:Ef I->Option ρ):a3L tb disp s i o k=(a3L tb disp s i o some).bind k:=by
 unfold a3L
 cases (a1t o.op).all (fun t=>(s.F t).isSome)
 ·rfl
 ·exact d36 hd k
omit [∀ E,Rp (I E)] in
theorem c3j {F G:Nat->Option (PV I)}:∀ {ts:List Nat},(∀ t∈ts,F t=G t)->a4i F ts=a4i G ts
 | [],_=>rfl
 | t::r,h=>by simp only [a4i]; rw [h t (by simp),c3j fun u hu=>h u (by simp [hu])]
omit [∀ E,Rp (I E)] in
theorem d0o {F G:Nat->Option (PV I)}{ts:List Nat}(h:∀ t∈ts,F t=G t):c5j F ts=c5j G ts:=by
 funext i
 simp only [c5j]
 cases hm:W5 i ts
 ·rfl
 ·exact h i (a0C.1 hm)
theorem d3o {s1 s2:St I}(hr:Ref s1 s2){i:Nat}{o:Oper}{e:Ef I}(h:a3L tb disp s2 i o some=some e):a3L tb disp s1 i o some=some e/\b2I s1 i o e=b2I s2 i o e/\okE s1 i e=okE s2 i e:=by
 unfold a3L at h ⊢
 obtain ⟨h1,h2⟩:=j8 h
 have hF:∀ t∈a1t o.op,s1.F t=s2.F t:=fun t ht=>by
  have:=(d8q.1 h1) t ht
  obtain ⟨p,hp⟩:=d9K.1 this
  rw [hp,hr.F t p hp]
 have e1:(a1t o.op).all (fun t=>(s1.F t).isSome)=true:=by
  rw [d8q] at h1 ⊢
  exact fun t ht=>by rw [hF t ht]; exact h1 t ht
 have e2:a35 s1.F s1.O o.op=a35 s2.F s2.O o.op:=by
  simp only [a35,c7l,c3j hF,hr.O]
 have e3:a4c s1 i=a4c s2 i:=by simp only [a4c,hr.nx]
 refine ⟨?_,?_,?_⟩
 ·rw [e1,d0o hF,e2,e3,hr.O,hr.n]; exact h2
 ·simp only [b2I,e2,e3]
 ·simp only [okE,e3,hr.O]
omit [∀ E,Rp (I E)] in
theorem Ref.put {s1 s2:St I}(h:Ref s1 s2)(d:Option Nat)(p:PV I):Ref (Qx.put s1 d p) (Qx.put s2 d p):=by
 cases d with
 | none=>exact h
 | some d =>
   refine ⟨h.n,h.O,h.nx,fun i q hq=>?_⟩
   rcases Z2 hq with ⟨rfl,rfl⟩ | ⟨e,hq⟩
   ·exact J3 _ _ _
   ·have:(Qx.put s1 (some d) p).F i=s1.F i:=J2 e
    rw [this]
    exact h.F i q hq
omit [∀ E,Rp (I E)] in
theorem Ref.apS {s1 s2:St I}(h:Ref s1 s2)(i:Nat)(o:Oper)(e:Ef I):Ref (Qx.apS s1 i o e) (Qx.apS s2 i o e):=by
 have hE:Ref (apE s1 (a4c s1 i) e) (apE s2 (a4c s2 i) e):=⟨h.n,by
  show a0d (apU s1.O e.upd) (a4c s1 i) e.new=a0d (apU s2.O e.upd) (a4c s2 i) e.new
  simp only [a4c,h.nx,h.O],h.nx,h.F⟩
 exact hE.put o.dst e.p
omit [∀ E,Rp (I E)] in
theorem b7f {s:St I}{d:Option Nat}{p:PV I}{i:Nat}(h:d≠some i):(put s d p).F i=s.F i:=by
 cases d with
 | none=>rfl
 | some d=>exact J2 (fun e=>h (by rw [e]))
theorem c0B {l1 l2:List (Nat×Oper)}{i:Nat}(h:a15 (l1++l2) i=false):a15 l1 i=false/\a15 l2 i=false:=by
 simpa [a15] using h
theorem a5U {o:Nat×Oper}{l:List (Nat×Oper)}{i:Nat}(h:a15 (o::l) i=false):o.2.dst≠some i/\a15 l i=false:=by
 simp only [a15,List.any_cons,Bool.or_eq_false_iff] at h
 refine ⟨fun e=>?_,h.2⟩
 have:=h.1
 rw [e] at this
 simp at this
theorem d6u {l:List (Nat×Oper)}{mm d:Nat}(h:d0F l mm=some d):a15 (l.take (mm+1)) d=true:=by
 simp only [d0F] at h
 cases ho:l[mm]? with
 | none=>rw [ho] at h; cases h
 | some o =>
   rw [ho] at h
   simp only [d8l] at h
   simp only [a15,e0c]
   refine ⟨o,?_,by rw [h]; simp⟩
   exact d8x (i:=mm) (by rw [d8K (by omega)]; exact ho)
omit [∀ E,Rp (I E)] in
theorem d28 {o:Option (PV I)}{b:Bool}(h:asB o=some b):o=some (.bool b):=by
 unfold asB at h
 split at h
 ·cases h; rfl
 ·cases h
theorem a4e {α:Type}{l:List α}(h:a4j l=true):l=[]:=by
 cases l
 ·rfl
 ·cases h
structure Way (tb:Tab I)(disp:a0f I)(all:List Oper)(tds:List (List Nat))(drw pure:Bool)(l:List (Nat×Oper))(s1 s2:St I)(es0:Acc)(s1' s2':St I)(acc' es:Acc):Prop where
 flat:Flat1 tb disp all s1 l s1' es
 ref:Ref s1' s2'
 keep1:∀ i,a15 l i=false->s1'.F i=s1.F i
 keep2:∀ i,a15 l i=false->s2'.F i=s2.F i
 pu:pure=true->s1'.O=s1.O/\s2'.O=s2.O/\s1'.nx=s1.nx/\s1'.n=s1.n/\∀ x∈es,x.2.W=[]
 new:drw=true->∀ b∈es,∀ a∈es0,R tds a b
 pair:drw=true->es.Pairwise (R tds)
 cov:drw=true->Cov acc' (es0++es)
theorem Way.cons {pure:Bool}{i:Nat}{o:Oper}{r:List (Nat×Oper)}{s1 s2 t1 t2 s1' s2':St I}{es0 acc' es:Acc}{f:Inf}(h0:Way tb disp all tds drw pure [(i,o)] s1 s2 es0 t1 t2 [] [(i,f)]\/True)
 (hflat:∀ u v,Flat1 tb disp all t1 r u v->Flat1 tb disp all s1 ((i,o)::r) u ((i,f)::v)) (hk1:∀ j,o.dst≠some j->t1.F j=s1.F j) (hk2:∀ j,o.dst≠some j->t2.F j=s2.F j)
 (hpu:pure=true->t1.O=s1.O/\t2.O=s2.O/\t1.nx=s1.nx/\t1.n=s1.n/\f.W=[]) (hnew:drw=true->∀ a∈es0,R tds a (i,f))
 (h:Way tb disp all tds drw pure r t1 t2 (es0++[(i,f)]) s1' s2' acc' es):Way tb disp all tds drw pure ((i,o)::r) s1 s2 es0 s1' s2' acc' ((i,f)::es):=by
 refine ⟨hflat _ _ h.flat,h.ref,fun j hj=>?_,fun j hj=>?_,fun hp=>?_,fun hd b hb a ha=>?_,fun hd=>?_,fun hd=>?_⟩
 ·obtain ⟨a,b⟩:=a5U hj
  exact (h.keep1 j b).trans (hk1 j a)
 ·obtain ⟨a,b⟩:=a5U hj
  exact (h.keep2 j b).trans (hk2 j a)
 ·obtain ⟨a1,a2,a3,a4,a5⟩:=h.pu hp
  obtain ⟨b1,b2,b3,b4,b5⟩:=hpu hp
  refine ⟨a1.trans b1,a2.trans b2,a3.trans b3,a4.trans b4,fun x hx=>?_⟩
  rcases d8A.1 hx with rfl | hx
  ·exact b5
  ·exact a5 x hx
 ·rcases d8A.1 hb with rfl | hb
  ·exact hnew hd a ha
  ·exact h.new hd b hb a (by simp [ha])
 ·exact d93.2 ⟨fun b hb=>h.new hd b hb _ (by simp),h.pair hd⟩
 ·have:=h.cov hd
  simpa using this
theorem b0e (hd:DispOk P disp):∀ (m:Nat) (ρ:Type) (pure:Bool) (kn:List Nat) (l:List (Nat×Oper)) (acc:Acc) (s2:St I) (k:St I->Acc->Option ρ) (r:ρ) (s1:St I) (es0:Acc),
 a4d tb disp all tds drw spl m ρ pure kn l acc s2 k=some r->Ref s1 s2->(drw=true->Cov acc es0)->∃ s1' s2' acc' es,k s2' acc'=some r/\Way tb disp all tds drw pure l s1 s2 es0 s1' s2' acc' es
 | 0,_,_,_,_,_,_,_,_,_,_,h,_,_=>by cases h
 | m+1,ρ,pure,kn,[],acc,s2,k,r,s1,es0,h,hr,hc=>⟨s1,s2,acc,[],h,.nil _,hr,fun _ _=>rfl,fun _ _=>rfl,(fun _=>⟨rfl,rfl,rfl,rfl,fun x hx=>by cases hx⟩),(fun _ b hb=>by cases hb),(fun _=>List.Pairwise.nil),fun hd=>by simpa using hc hd⟩
 | m+1,ρ,pure,kn,(i,o)::l,acc,s2,k,r,s1,es0,h,hr,hc=>by
   have hstep:(∀ e,a3L tb disp s1 i o some=some e->a4x tb disp all s1 i o=some (some e))->(step tb disp tds drw pure acc s2 i o fun s acc=>a4d tb disp all tds drw spl m ρ pure kn l acc s k)=some r ->
    ∃ s1' s2' acc' es,k s2' acc'=some r/\Way tb disp all tds drw pure ((i,o)::l) s1 s2 es0 s1' s2' acc' es:=by
    intro he1 h
    unfold step at h
    rw [d2N hd] at h
    obtain ⟨e,he,h⟩:=bind_some h
    obtain ⟨hb,h⟩:=j8 h
    simp only [d8p] at hb
    obtain ⟨⟨b1,b2⟩,b3⟩:=hb
    obtain ⟨k1,k2,k3⟩:=d3o hr he
    have hcov:drw=true->Cov (bif drw then (i,b2I s2 i o e)::acc else acc) (es0++[(i,b2I s1 i o e)]):=fun hd x hx=>by
     rw [hd]
     rcases d8y.1 hx with hx | hx
     ·rcases hc hd x hx with e | ⟨f',a1,a2⟩
      ·exact .inl e
      ·exact .inr ⟨f',by simp [a1],a2⟩
     ·rw [d9o] at hx
      subst hx
      exact .inr ⟨b2I s2 i o e,by simp,by rw [k2]; exact ⟨rfl,.inr rfl⟩⟩
    obtain ⟨s1',s2',acc',es,a1,a2⟩:=b0e hd m ρ pure kn l _ _ k r (apS s1 i o e) _ h (hr.apS i o e) hcov
    refine ⟨s1',s2',acc',_,a1,Way.cons (t1:=apS s1 i o e) (t2:=apS s2 i o e) (.inr trivial) (fun u v hf=>.cons s1 i o (some e) l u v (he1 e k1) (by simp only [ok1,k3,b1]) hf) (fun j hj=>b7f hj) (fun j hj=>b7f hj) (fun hp=>?_) (fun hd a ha=>?_) a2⟩
    ·rw [hp] at b2
     simp only [cond_true,d8p] at b2
     have e1:=a4e b2.1
     have e2:=a4e b2.2
     obtain ⟨p,u,w⟩:=e
     simp only at e1 e2
     subst e1
     subst e2
     refine ⟨?_,?_,?_,?_,rfl⟩
     all_goals
      unfold apS put
      cases o.dst<;>rfl
    ·rw [hd] at b3
     have:=b9I (hc hd) b3 a ha
     rw [<- k2] at this
     exact this
   have hskip:a4x tb disp all s1 i o=some none->a4d tb disp all tds drw spl m ρ pure kn l acc (put s2 o.dst .undef) k=some r ->
    ∃ s1' s2' acc' es,k s2' acc'=some r/\Way tb disp all tds drw pure ((i,o)::l) s1 s2 es0 s1' s2' acc' es:=by
    intro he1 h
    have hcov:drw=true->Cov acc (es0++[(i,⟨some [],[]⟩)]):=fun hd x hx=>by
     rcases d8y.1 hx with hx | hx
     ·exact hc hd x hx
     ·rw [d9o] at hx
      subst hx
      exact .inl rfl
    obtain ⟨s1',s2',acc',es,a1,a2⟩:=b0e hd m ρ pure kn l _ _ k r (put s1 o.dst .undef) _ h (hr.put o.dst .undef) hcov
    refine ⟨s1',s2',acc',_,a1,Way.cons (t1:=put s1 o.dst .undef) (t2:=put s2 o.dst .undef) (.inr trivial) (fun u v hf=>.cons s1 i o none l u v he1 rfl hf) (fun j hj=>b7f hj) (fun j hj=>b7f hj) (fun hp=>?_) (fun hd a ha=>.inr (c6i (c7K _))) a2⟩
    refine ⟨?_,?_,?_,?_,rfl⟩
    all_goals
     unfold put
     cases o.dst<;>rfl
   simp only [a4d] at h
   cases hg:o.guard with
   | none =>
     rw [hg] at h
     exact hstep (fun e he=>by simp only [a4x,hg,he]; rfl) h
   | some g =>
     obtain ⟨j,want⟩:=g
     rw [hg] at h
     obtain ⟨dj,hdj,h⟩:=bind_some h
     obtain ⟨hlt,h⟩:=j8 h
     split at h
     ·rename_i hl
      exact hskip (by simp only [a4x,hg,hdj,d8l]; rw [hr.n,hlt,hr.F _ _ hl]; rfl) h
     ·rename_i b hl
      have hl1:=hr.F _ _ hl
      have he1:(b==want)=true->∀ e,a3L tb disp s1 i o some=some e->a4x tb disp all s1 i o=some (some e):=fun hb e he=>by
       simp only [a4x,hg,hdj,d8l]; rw [hr.n,hlt,hl1]; simp only [cond_true,hb,he]; rfl
      have he0:(b==want)=false->a4x tb disp all s1 i o=some none:=fun hb=>by
       simp only [a4x,hg,hdj,d8l]; rw [hr.n,hlt,hl1]; simp only [cond_true,hb]; rfl
      cases hkn:W5 dj kn with
      | true =>
        rw [hkn] at h
        simp only [cond_true] at h
        cases hbw:(b==want) with
        | true =>
          rw [hbw] at h
          exact hstep (he1 hbw) h
        | false =>
          rw [hbw] at h
          exact hskip (he0 hbw) h
      | false =>
        rw [hkn] at h
        simp only [cond_false] at h
        have hsame:setB s2 dj b=s2:=by
         have:upF s2.F dj (.bool b)=s2.F:=by
          funext i
          by_cases e:i=dj
          ·subst e; rw [J3,hl]
          ·rw [J2 e]
         simp only [setB,this]
        cases hspl:W5 dj spl with
        | true =>
          rw [hspl] at h
          simp only [cond_true] at h
          refine b0e hd m ρ pure (dj::kn) _ acc s2 k r s1 es0 ?_ hr hc
          cases b
          ·rw [hsame] at h; exact h
          ·rw [hsame] at h; exact h
        | false =>
        rw [hspl] at h
        simp only [cond_false] at h
        obtain ⟨mm,hmm,h⟩:=bind_some h
        obtain ⟨d,hdd,h⟩:=bind_some h
        obtain ⟨q,hq,h⟩:=bind_some h
        have hq':a4d tb disp all tds drw spl m Bool true (dj::kn) (((i,o)::l).take (mm+1)) acc s2 (fun s' _=>asB (s'.F d))=some q:=by
         cases b
         ·rw [hsame] at hq; exact hq
         ·rw [hsame] at hq; exact hq
        obtain ⟨u1,u2,accg,eg,g1,g2⟩:=b0e hd m Bool true (dj::kn) _ acc s2 _ q s1 es0 hq' hr hc
        have hd2:=d28 g1
        obtain ⟨p1,p2,p3,p4,p5⟩:=g2.pu rfl
        have hrn:Ref u1 (c7q s2 (((i,o)::l).take (mm+1)) d q):=by
         refine ⟨p4.trans hr.n,p1.trans hr.O,p3.trans hr.nx,fun x p hx=>?_⟩
         have hx':upF (fun i'=>bif a15 (((i,o)::l).take (mm+1)) i' then none else s2.F i') d (.bool q) x=some p:=hx
         clear hx
         rcases Z2 hx' with ⟨rfl,rfl⟩ | ⟨e,hx⟩
         ·exact g2.ref.F _ _ hd2
         ·cases hdst:a15 (((i,o)::l).take (mm+1)) x with
          | true=>rw [hdst] at hx; cases hx
          | false =>
            rw [hdst] at hx
            rw [g2.keep1 x hdst]
            exact hr.F x p hx
        have hcov:drw=true->Cov (bif drw then (((i,o)::l).take (mm+1)).map (fun x=>(x.1,⟨none,[]⟩))++acc else acc) (es0++eg):=fun hd x hx=>by
         rw [hd]
         rcases d8y.1 hx with hx | hx
         ·rcases hc hd x hx with e | ⟨f',a1,a2⟩
          ·exact .inl e
          ·exact .inr ⟨f',by simp only [cond_true,d8y]; exact .inr a1,a2⟩
         ·refine .inr ⟨⟨none,[]⟩,?_,?_⟩
          ·obtain ⟨y,h1,h2⟩:=g2.flat.mem x hx
           simp only [cond_true,d8y,d8T]
           exact .inl ⟨y,h1,by rw [h2]⟩
          ·exact ⟨(p5 x hx).symm,.inl rfl⟩
        obtain ⟨s1',s2',acc',es,a1,a2⟩:=b0e hd m ρ pure kn _ _ _ k r u1 (es0++eg) h hrn hcov
        have hsplit:(i,o)::l=((i,o)::l).take (mm+1)++((i,o)::l).drop (mm+1):=(d88 _ _).symm
        refine ⟨s1',s2',acc',eg++es,a1,?_⟩
        rw [hsplit]
        refine ⟨g2.flat.app a2.flat,a2.ref,fun x hx=>?_,fun x hx=>?_,fun hp=>?_,fun hd b hb a ha=>?_,fun hd=>?_,fun hd=>?_⟩
        ·obtain ⟨x1,x2⟩:=c0B hx
         exact (a2.keep1 x x2).trans (g2.keep1 x x1)
        ·obtain ⟨x1,x2⟩:=c0B hx
         rw [a2.keep2 x x2]
         have hxd:x≠d:=by rintro rfl; rw [d6u hdd] at x1; cases x1
         have:(c7q s2 (((i,o)::l).take (mm+1)) d q).F x=bif a15 (((i,o)::l).take (mm+1)) x then none else s2.F x:=by
          simp only [c7q]
          rw [J2 hxd]
         rw [this,x1]
         rfl
        ·obtain ⟨b1,b2,b3,b4,b5⟩:=a2.pu hp
         refine ⟨b1.trans p1,b2,b3.trans p3,b4.trans p4,fun x hx=>?_⟩
         rcases d8y.1 hx with hx | hx
         ·exact p5 x hx
         ·exact b5 x hx
        ·rcases d8y.1 hb with hb | hb
         ·exact g2.new hd b hb a ha
         ·exact a2.new hd b hb a (by simp [ha])
        ·rw [d9X]
         exact ⟨g2.pair hd,a2.pair hd,fun a ha b hb=>a2.new hd b hb a (by simp [ha])⟩
        ·have:=a2.cov hd
         simpa using this
     ·cases h
end
end Go.Qx
end
section
open Bool renaming and_eq_true->d8p,eq_iff_iff->d9g,not_eq_true'->d9N
open List renaming all_eq_true->d8q,length_cons->d8v,map_cons->d8O,mem_append->d8y,mem_cons->d8A
open Nat renaming beq->d8u,ble_eq_true_of_le->d9F,blt->d8V,le_of_ble_eq_true->d8N
open Option renaming bind_some->d8l,isNone_iff_eq_none->e0g
namespace Go.Qx
open Go Go.RowKit Go.Sx
section
variable {I:TypeId->Type} [∀ E,Rp (I E)] {P:Program}{tb:Tab I}{disp:a0f I}{all:List Oper}{tds:List (List Nat)}{X:Cxt}{c c':Cx}{σ τ:S}{n:Nat}
def d7X (K:Act->World->Prop):Exit->Act->World->Prop
 | .normal,a,w=>K a w
 | _,_,_=>False
theorem d1y {o:Oper}(hg:o.guard=none){a:Act}{w:World}{K:Act->World->Prop}{Q:Exit->Act->World->Prop}(h:wpList P #[] (d7X K) [o] a w):o.wp P a w K Q:=by
 have hw:Region.wanted o (yielded #[] a.tmps)=true:=by simp [Region.wanted,hg]
 simp only [wpList,hw,if_true] at h
 rcases h with h | ⟨_,a',w',hf⟩
 ·unfold Oper.wp at h ⊢
  generalize (execOp a.eval o).run P w=r at *
  cases r with
  | ok nx w' =>
    cases nx<;>simp only [Oper.upon] at h ⊢ <;>
     first
      | exact h
      | exact Calls.mono h (fun e w'' he=>by
         cases e with
         | returned v=>exact he
         | panicked ch=>exact he.elim
         | outgrown=>obtain ⟨_,_,hf⟩:=he; exact hf.elim)
      | exact Rows.mono h (fun _ _ he=>he)
  | halt x w'=>cases x<;>simp only [Oper.upon] at h ⊢<;>first | exact h | exact h.elim
 ·exact hf.elim
theorem d1S {ops:List Oper}{F:Fr}{j d:Nat}{b:Bool}(hd:b1T ops j=some d)(hlt:d8V d n=true)(hF:F d=.bool b):yielded ops.toArray (fr n F).tmps j=some b:=by
 have h:(ops.toArray[j]?).bind (·.dst)=some d:=by simpa [b1T] using hd
 have h2:(fr n F).tmps[d]?=some (.bool b):=by simp [fr,a64 hlt,hF]
 unfold yielded
 rw [h]
 show (match (fr n F).tmps[d]? with | some (.bool b)=>some b | _=>none)=some b
 rw [h2]
theorem c6q {F:Fr}{o:Oper}{j d:Nat}{want b:Bool}(hg:o.guard=some (j,want))(hd:b1T all j=some d)(hlt:d8V d n=true)(hF:F d=.bool b) :
 Region.wanted o (yielded all.toArray (fr n F).tmps)=(b==want):=by
 have hy:=d1S (F:=F) hd hlt hF
 simp only [Region.wanted,hg,hy]
 cases b<;>cases want<;>rfl
theorem c7N {F:Fr}{o:Oper}{j d:Nat}{want:Bool}(hg:o.guard=some (j,want))(hd:b1T all j=some d)(hlt:d8V d n=true)(hF:F d=undef) :
 Region.wanted o (yielded all.toArray (fr n F).tmps)=false:=by
 have hyn:yielded all.toArray (fr n F).tmps j=none:=by
  have h:(all.toArray[j]?).bind (·.dst)=some d:=by simpa [b1T] using hd
  have h2:(fr n F).tmps[d]?=some undef:=by simp [fr,a64 hlt,hF]
  unfold yielded
  rw [h]
  show (match (fr n F).tmps[d]? with | some (.bool b)=>some b | _=>none)=none
  rw [h2]
  rfl
 simp [Region.wanted,hg,hyn]
omit [∀ E,Rp (I E)] in
theorem d2M {F:Nat->Option (PV I)}{ts:List Nat}{i:Nat}{p:PV I}(h:c5j F ts i=some p):F i=some p:=by
 unfold c5j at h
 cases hm:W5 i ts with
 | true=>rw [hm] at h; exact h
 | false=>rw [hm] at h; cases h
omit [∀ E,Rp (I E)] in
theorem d2x {O:Obs I}{ls:List Nat}{i:Nat}{o:Option (Ob I)}(h:c5e O ls i=some o):O i=some o:=by
 unfold c5e at h
 cases hm:W5 i ls with
 | true=>rw [hm] at h; exact h
 | false=>rw [hm] at h; cases h
theorem b98 {F:Fr}{d:Option Nat}{v:Value}{j:Nat}(h:d≠some j):J9 F d v j=F j:=by
 cases d with
 | none=>rfl
 | some d =>
   have:d8u j d=false:=Sx.beq_false (fun e=>h (by rw [e]))
   simp [J9,upd,this]
theorem d4U (ht:TabOk P tb)(hd:DispOk P disp)(hX:X.P=P){s:St I}{F:Fr}(h:Rel X c σ s n F){i:Nat}{o:Oper}{e:Ef I}(hx:a3L tb disp s i o some=some e)(hok:okE s i e=true)
 {ops:Array Oper} {Q:Exit->Act->World->Prop} {rest:List Oper}
 (hk:∀ c' τ F',Cx.le c c'->Rel X c' τ (apS s i o e) n F'->Stp X.M σ τ->(∀ j,o.dst≠some j->F' j=F j)->wpList P ops Q rest (fr n F') τ.w):wpList P ops Q ({ o with guard:=none }::rest) (fr n F) σ.w:=by
 unfold a3L at hx
 obtain ⟨_,hx⟩:=j8 hx
 simp only [okE,d8p] at hok
 rw [h.len] at hx
 exact snd (o:={ o with guard:=none }) ht hd h hX (fun _ _ hp=>d2M hp) (fun _ _ ho=>d2x ho) rfl hx hok.2 fun v τ c' k1 k2 k3 k4=>hk c' τ _ k1 (k2.put o.dst e.p v k3) k4 fun j hj=>b98 hj
theorem d4t (ht:TabOk P tb)(hd:DispOk P disp)(hX:X.P=P){s:St I}{F:Fr}(h:Rel X c σ s n F){i:Nat}{o:Oper}{r:Option (Ef I)}(hx:a4x tb disp all s i o=some r)(hok:ok1 s i r=true) :
 (∃ e,r=some e/\a3L tb disp s i o some=some e/\Region.wanted o (yielded all.toArray (fr n F).tmps)=true)\/(r=none/\Region.wanted o (yielded all.toArray (fr n F).tmps)=false):=by
 have hmap:(a3L tb disp s i o some).map some=some r->∃ e,r=some e/\a3L tb disp s i o some=some e:=fun h=>by
  cases he:a3L tb disp s i o some with
  | none=>rw [he] at h; cases h
  | some e=>rw [he] at h; cases h; exact ⟨e,rfl,rfl⟩
 unfold a4x at hx
 split at hx
 ·rename_i hg
  obtain ⟨e,h1,h2⟩:=hmap hx
  exact .inl ⟨e,h1,h2,by simp [Region.wanted,hg]⟩
 ·rename_i j want hg
  replace hx:=bind_some hx
  obtain ⟨dj,hdj,hx⟩:=hx
  replace hx:=j8 hx
  obtain ⟨hlt,hx⟩:=hx
  rw [h.len] at hlt
  split at hx
  ·rename_i hl
   have hF:=h.frame _ _ hl
   simp only [RV] at hF
   cases hx
   exact .inr ⟨rfl,c7N hg hdj hlt hF⟩
  ·rename_i b hl
   have hF:=h.frame _ _ hl
   simp only [RV] at hF
   have hw:=c6q (o:=o) hg hdj hlt hF
   cases hbw:(b==want) with
   | true =>
     rw [hbw] at hx hw
     obtain ⟨e,h1,h2⟩:=hmap hx
     exact .inl ⟨e,h1,h2,hw⟩
   | false =>
     rw [hbw] at hx hw
     cases hx
     exact .inr ⟨rfl,hw⟩
  ·cases hx
theorem d15 {ops:Array Oper}{Q:Exit->Act->World->Prop}{o:Oper}{rest:List Oper}{a:Act}{w:World}(hw:Region.wanted o (yielded ops a.tmps)=true)(h:wpList P ops Q ({ o with guard:=none }::rest) a w):wpList P ops Q (o::rest) a w:=by
 have hw':Region.wanted { o with guard:=none } (yielded ops a.tmps)=true:=by simp [Region.wanted]
 simp only [wpList,hw',if_true] at h
 simp only [wpList,hw,if_true]
 obtain ⟨d,op,ty,pos,aft,g⟩:=o
 rcases h with h | h
 ·refine .inl ?_
  unfold Oper.wp at h ⊢
  exact h
 ·exact .inr h
theorem d0I {ops:Array Oper}{Q:Exit->Act->World->Prop}{o:Oper}{rest:List Oper}{a:Act}{w:World}(hw:Region.wanted o (yielded ops a.tmps)=false)(h:wpList P ops Q rest (a.put o.dst undef) w):wpList P ops Q (o::rest) a w:=by
 simp only [wpList,hw]
 exact h
theorem d32 (ht:TabOk P tb)(hd:DispOk P disp)(hX:X.P=P){Q:Exit->Act->World->Prop}{post:List Oper}{s s':St I}{l:List (Nat×Oper)}{es:Acc}(h:Flat1 tb disp all s l s' es) :
 ∀ (c:Cx) (σ:S) (F:Fr),Rel X c σ s n F->(∀ c' τ F',Cx.le c c'->Rel X c' τ s' n F'->Stp X.M σ τ->(∀ j,a15 l j=false->F' j=F j)->wpList P all.toArray Q post (fr n F') τ.w)->wpList P all.toArray Q (l.map (·.2)++post) (fr n F) σ.w:=by
 induction h with
 | nil s=>exact fun c σ F hr hk=>hk c σ F (Cx.le_refl c) hr (Stp.refl _ _) fun _ _=>rfl
 | cons s i o r rest s' es h1 h2 h3 ih =>
   intro c σ F hr hk
   rcases d4t ht hd hX hr h1 h2 with ⟨e,rfl,he,hw⟩ | ⟨rfl,hw⟩
   ·exact d15 hw (d4U ht hd hX hr he h2 fun c' τ F' k1 k2 k3 k4=>ih c' τ F' k2 fun c2 υ F2 m1 m2 m3 m4=>hk c2 υ F2 (Cx.le_trans k1 m1) m2 (k3.trans m3) fun j hj=>(m4 j (a5U hj).2).trans (k4 j (a5U hj).1))
   ·refine d0I hw ?_
    rw [b9p]
    exact ih c σ _ (hr.put o.dst .undef undef (by simp only [RV])) fun c2 υ F2 m1 m2 m3 m4=>hk c2 υ F2 m1 m2 m3 fun j hj=>(m4 j (a5U hj).2).trans (b98 (a5U hj).1)
theorem a1o:∀ {m nb l:Nat},l∈rng nb m↔nb<=l/\l<nb+m
 | 0,nb,l=>by simp [rng]
 | m+1,nb,l=>by
   simp only [rng,d8A,a1o]
   omega
def tr (nb:Nat)(e:Ef I)(O:Obs I):Obs I:=a0d (apU O e.upd) nb e.new
def wOf (nb:Nat)(e:Ef I):List Nat:=a0S e.upd++rng nb e.new.length
omit [∀ E,Rp (I E)] in
theorem a3d:∀ {u:List (Nat×Option (Ob I))} {O:Obs I} {l:Nat},l ∉ a0S u->apU O u l=O l
 | [],_,_,_=>rfl
 | x::r,O,l,h=>by
   simp only [a0S,d8O,d8A,not_or] at h
   simp only [apU]
   rw [a3d (u:=r) h.2,J2 h.1]
omit [∀ E,Rp (I E)] in
theorem b5V:∀ {u:List (Nat×Option (Ob I))} {O O':Obs I} {l:Nat},l∈a0S u->apU O u l=apU O' u l/\apU O u l≠none
 | [],_,_,_,h=>by simp [a0S] at h
 | x::r,O,O',l,h=>by
   simp only [apU]
   by_cases hr:l∈a0S r
   ·exact b5V hr
   ·simp only [a0S,d8O,d8A] at h
    have e:l=x.1:=h.resolve_right hr
    rw [a3d hr,a3d hr,e,J3,J3]
    exact ⟨rfl,by simp⟩
omit [∀ E,Rp (I E)] in
theorem a0k:∀ {os:List (Ob I)} {O:Obs I} {nb l:Nat},l ∉ rng nb os.length->a0d O nb os l=O l
 | [],_,_,_,_=>rfl
 | o::os,O,nb,l,h=>by
   simp only [d8v,rng,d8A,not_or] at h
   simp only [a0d]
   rw [a0k h.2,J2 h.1]
omit [∀ E,Rp (I E)] in
theorem c5Z:∀ {os:List (Ob I)} {O O':Obs I} {nb l:Nat},l∈rng nb os.length->a0d O nb os l=a0d O' nb os l/\a0d O nb os l≠none
 | [],_,_,_,_,h=>by simp [rng] at h
 | o::os,O,O',nb,l,h=>by
   simp only [a0d]
   by_cases hr:l∈rng (nb+1) os.length
   ·exact c5Z hr
   ·simp only [d8v,rng,d8A] at h
    have e:l=nb:=h.resolve_right hr
    rw [a0k hr,a0k hr,e,J3,J3]
    exact ⟨rfl,by simp⟩
omit [∀ E,Rp (I E)] in
theorem b6B {nb:Nat}{e:Ef I}{O:Obs I}{l:Nat}(h:l ∉ wOf nb e):tr nb e O l=O l:=by
 simp only [wOf,d8y,not_or] at h
 simp only [tr]
 rw [a0k h.2,a3d h.1]
omit [∀ E,Rp (I E)] in
theorem d1r {nb:Nat}{e:Ef I}{O O':Obs I}{l:Nat}(h:l∈wOf nb e):tr nb e O l=tr nb e O' l/\tr nb e O l≠none:=by
 simp only [tr]
 by_cases hr:l∈rng nb e.new.length
 ·exact c5Z hr
 ·rw [a0k hr,a0k hr]
  simp only [wOf,d8y] at h
  exact b5V (h.resolve_right hr)
omit [∀ E,Rp (I E)] in
theorem d5T {na nb:Nat}{a b:Ef I}(h:∀ x∈wOf na a,x ∉ wOf nb b)(O:Obs I):tr na a (tr nb b O)=tr nb b (tr na a O):=by
 funext l
 by_cases ha:l∈wOf na a
 ·rw [b6B (h l ha)]
  exact (d1r ha).1
 ·rw [b6B ha]
  by_cases hb:l∈wOf nb b
  ·exact (d1r hb).1
  ·rw [b6B hb,b6B hb,b6B ha]
omit [∀ E,Rp (I E)] in
theorem a1D:∀ {os:List (Ob I)} {O:Obs I} {nb:Nat},a2A O nb os=true↔∀ l∈rng nb os.length,O l=none
 | [],_,_=>by simp [a2A,rng]
 | _::os,O,nb=>by
   simp only [a2A,d8p,a1D,d8v,rng,d8A,e0g]
   constructor
   ·rintro ⟨h1,h2⟩ l (rfl | h)
    ·exact h1
    ·exact h2 l h
   ·exact fun h=>⟨h _ (.inl rfl),fun l hl=>h l (.inr hl)⟩
theorem c6g {s s':St I}{i:Nat}{o:Oper}(hn:s'.n=s.n)(hx:s'.nx=s.nx)(hF:∀ t∈c3m all o,s'.F t=s.F t)(hO:∀ l∈a35 s.F s.O o.op,s'.O l=s.O l) :
 a4x tb disp all s' i o=a4x tb disp all s i o/\a35 s'.F s'.O o.op=a35 s.F s.O o.op:=by
 have hFs:∀ t∈a1t o.op,s'.F t=s.F t:=fun t ht=>hF t (by simp [c3m,ht])
 have e1:a4i s'.F (a1t o.op)=a4i s.F (a1t o.op):=c3j hFs
 have hnest:∀ {l:List Nat},(∀ x∈l,s'.O x=s.O x)->nest s'.O l=nest s.O l:=by
  intro l
  induction l with
  | nil=>exact fun _=>rfl
  | cons x r ih=>exact fun h=>by simp only [nest]; rw [h x (by simp),ih fun y hy=>h y (by simp [hy])]
 have e4:a35 s'.F s'.O o.op=a35 s.F s.O o.op:=by
  unfold a35 at hO ⊢
  cases hno:d4V o.op with
  | true=>rfl
  | false =>
    rw [hno] at hO
    simp only [cond_false] at hO ⊢
    cases hld:d2G o.op with
    | true=>exact e1
    | false =>
    rw [hld] at hO
    simp only [cond_false] at hO ⊢
    have hO':=hO
    simp only [c7l,d8y] at hO'
    have e2:nest s'.O (a4i s.F (a1t o.op))=nest s.O (a4i s.F (a1t o.op)):=hnest fun x hx=>hO' x (.inl (.inl hx))
    have e3:nest s'.O (a4i s.F (a1t o.op)++nest s.O (a4i s.F (a1t o.op)))=nest s.O (a4i s.F (a1t o.op)++nest s.O (a4i s.F (a1t o.op))):=hnest fun x hx=>hO' x (.inl (d8y.1 hx))
    simp only [c7l,e1,e2,e3]
 have e5:c5e s'.O (a35 s.F s.O o.op)=c5e s.O (a35 s.F s.O o.op):=by
  funext l
  simp only [c5e]
  cases hm:W5 l (a35 s.F s.O o.op)
  ·rfl
  ·exact hO l (a0C.1 hm)
 have e6:(a1t o.op).all (fun t=>(s'.F t).isSome)=(a1t o.op).all (fun t=>(s.F t).isSome):=by
  rw [d9g,d8q,d8q]
  exact ⟨fun h t ht=>by rw [<- hFs t ht]; exact h t ht,fun h t ht=>by rw [hFs t ht]; exact h t ht⟩
 have e7:a3L tb disp s' i o (some:Ef I->Option (Ef I))=a3L tb disp s i o some:=by
  simp only [a3L,e4,e5,e6,d0o hFs,a4c,hn,hx]
 refine ⟨?_,e4⟩
 simp only [a4x,e7,hn]
 split
 ·rfl
 ·rename_i j want hg
  cases hd:b1T all j with
  | none=>rfl
  | some dj =>
    simp only [d8l]
    rw [hF dj (by simp [c3m,hg,hd])]
omit [∀ E,Rp (I E)] in
theorem d3v {α:Type}{F:Nat->Option α}{a b:Nat}{p q:α}(h:a≠b):upF (upF F a p) b q=upF (upF F b q) a p:=by
 funext i
 by_cases e1:i=a
 ·subst e1
  rw [J2 h,J3,J3]
 ·by_cases e2:i=b
  ·subst e2
   rw [J3,J2 e1,J3]
  ·rw [J2 e2,J2 e1,J2 e1,J2 e2]
def pOf:Option (Ef I)->PV I
 | some e=>e.p
 | none=>.undef
def trO (nb:Nat):Option (Ef I)->Obs I->Obs I
 | some e,O=>tr nb e O
 | none,O=>O
def wO (nb:Nat):Option (Ef I)->List Nat
 | some e=>wOf nb e
 | none=>[]
omit [∀ E,Rp (I E)] in
theorem c4r (s:St I)(i:Nat)(o:Oper)(r:Option (Ef I)):(ap1 s i o r).F=(match o.dst with | some d=>upF s.F d (pOf r) | none=>s.F):=by
 cases r<;>simp only [ap1,apS,put]<;>cases o.dst<;>rfl
omit [∀ E,Rp (I E)] in
theorem b4G (s:St I)(i:Nat)(o:Oper)(r:Option (Ef I)):(ap1 s i o r).O=trO (a4c s i) r s.O:=by
 cases r<;>simp only [ap1,apS,put]<;>cases o.dst<;>rfl
omit [∀ E,Rp (I E)] in
theorem c0Z (s:St I)(i:Nat)(o:Oper)(r:Option (Ef I)):(ap1 s i o r).n=s.n/\(ap1 s i o r).nx=s.nx:=by
 cases r<;>simp only [ap1,apS,put]<;>cases o.dst<;>exact ⟨rfl,rfl⟩
omit [∀ E,Rp (I E)] in
theorem c1h {nb:Nat}{r:Option (Ef I)}{O:Obs I}{l:Nat}(h:l ∉ wO nb r):trO nb r O l=O l:=by
 cases r
 ·rfl
 ·exact b6B h
omit [∀ E,Rp (I E)] in
theorem d6c {nb:Nat}{r:Option (Ef I)}{O:Obs I}{l:Nat}(h:l∈wO nb r):trO nb r O l≠none:=by
 cases r
 ·simp [wO] at h
 ·exact (d1r (O':=O) h).2
omit [∀ E,Rp (I E)] in
theorem d7v (s:St I)(i:Nat)(o:Oper)(r:Option (Ef I)):(a5p s i o r).W=wO (a4c s i) r:=by
 cases r<;>rfl
omit [∀ E,Rp (I E)] in
theorem d1H (s:St I)(i:Nat)(o:Oper)(e:Ef I):(a5p s i o (some e)).T=some (a35 s.F s.O o.op):=rfl
omit [∀ E,Rp (I E)] in
theorem c0P (s:St I)(i:Nat)(r:Option (Ef I)):ok1 s i r=true↔∀ e,r=some e->e.new.length<=8/\∀ l∈rng (a4c s i) e.new.length,apU s.O e.upd l=none:=by
 cases r with
 | none=>simp [ok1]
 | some e =>
   simp only [ok1,okE,d8p,a1D]
   constructor
   ·rintro ⟨h1,h2⟩ e' he
    cases he
    exact ⟨d8N h1,h2⟩
   ·exact fun h=>⟨d9F (h e rfl).1,(h e rfl).2⟩
theorem b5D {d:Option Nat}{l:List Nat}(h:c7g d l=false):∀ x,d=some x->x ∉ l:=fun x e=>by
 subst e
 exact a1v.1 h
omit [∀ E,Rp (I E)] in
theorem c4h {s:St I}{i:Nat}{o:Oper}{r:Option (Ef I)}{t:Nat}(h:∀ x,o.dst=some x->x≠t):(ap1 s i o r).F t=s.F t:=by
 rw [c4r]
 cases hd:o.dst with
 | none=>rfl
 | some d=>exact J2 (Ne.symm (h d hd))
theorem d2H {s:St I}{a i:Nat}{oa oi:Oper}{ra ri:Option (Ef I)}(ha:a4x tb disp all s a oa=some ra)(hka:ok1 s a ra=true)(hi:a4x tb disp all (ap1 s a oa ra) i oi=some ri)(hki:ok1 (ap1 s a oa ra) i ri=true)
 (hc:b0h (a5p s a oa ra) (a5p (ap1 s a oa ra) i oi ri)=true) (hs:a9R all oa oi=true) :
 a4x tb disp all s i oi=some ri/\ok1 s i ri=true/\a5p s i oi ri=a5p (ap1 s a oa ra) i oi ri/\a4x tb disp all (ap1 s i oi ri) a oa=some ra/\ok1 (ap1 s i oi ri) a ra=true /\
  a5p (ap1 s i oi ri) a oa ra=a5p s a oa ra/\ap1 (ap1 s i oi ri) a oa ra=ap1 (ap1 s a oa ra) i oi ri:=by
 obtain ⟨n1,x1⟩:=c0Z s a oa ra
 obtain ⟨n2,x2⟩:=c0Z s i oi ri
 have nb1:a4c (ap1 s a oa ra) i=a4c s i:=by simp only [a4c,x1]
 have nb2:a4c (ap1 s i oi ri) a=a4c s a:=by simp only [a4c,x2]
 simp only [b0h,d8p,d7v,nb1] at hc
 obtain ⟨⟨hWW,hWT⟩,hWT2⟩:=hc
 rw [b3r] at hWW
 simp only [a9R,d8p,d9N] at hs
 obtain ⟨⟨hs1,hs2⟩,hs3⟩:=hs
 have d1:=b5D hs1
 have d2:=b5D hs2
 have d3:=b5D hs3
 have same1:a4x tb disp all s i oi=some ri/\a5p s i oi ri=a5p (ap1 s a oa ra) i oi ri:=by
  cases ri with
  | none =>
    refine ⟨?_,rfl⟩
    unfold a4x at hi ⊢
    split at hi
    ·rename_i hg
     cases he:a3L tb disp (ap1 s a oa ra) i oi (some:Ef I->Option (Ef I)) with
     | none=>rw [he] at hi; cases hi
     | some e=>rw [he] at hi; cases hi
    ·rename_i j want hg
     replace hi:=bind_some hi
     obtain ⟨dj,hdj,hi⟩:=hi
     rw [n1,c4h (t:=dj) (fun x hx e=>by subst e; exact d1 x hx (by simp [c3m,hg,hdj]))] at hi
     simp only [hdj,d8l]
     obtain ⟨hlt,hi⟩:=j8 hi
     rw [hlt]
     simp only [cond_true]
     split at hi
     ·rfl
     ·rename_i b hb
      cases hbw:(b==want) with
      | true =>
        rw [hbw] at hi
        simp only [cond_true] at hi
        cases he:a3L tb disp (ap1 s a oa ra) i oi (some:Ef I->Option (Ef I)) with
        | none=>rw [he] at hi; cases hi
        | some e=>rw [he] at hi; cases hi
      | false=>rfl
     ·cases hi
  | some e =>
    rw [d1H] at hWT
    simp only [b7B] at hWT
    rw [b3r] at hWT
    obtain ⟨h1,h2⟩:=c6g (tb:=tb) (disp:=disp) (all:=all) (s:=ap1 s a oa ra) (s':=s) (i:=i) (o:=oi) n1.symm x1.symm
     (fun t ht=>(c4h fun x hx e=>by subst e; exact d1 x hx ht).symm) (fun l hl=>by rw [b4G]; exact (c1h fun hm=>hWT l hm hl).symm)
    refine ⟨h1.trans hi,?_⟩
    simp only [a5p,b2I,h2,nb1]
 have same2:a4x tb disp all (ap1 s i oi ri) a oa=some ra/\a5p (ap1 s i oi ri) a oa ra=a5p s a oa ra:=by
  cases ra with
  | none =>
    refine ⟨?_,rfl⟩
    unfold a4x at ha ⊢
    split at ha
    ·rename_i hg
     cases he:a3L tb disp s a oa (some:Ef I->Option (Ef I)) with
     | none=>rw [he] at ha; cases ha
     | some e=>rw [he] at ha; cases ha
    ·rename_i j want hg
     replace ha:=bind_some ha
     obtain ⟨dj,hdj,ha⟩:=ha
     simp only [hdj,d8l]
     rw [n2,c4h (t:=dj) (fun x hx e=>by subst e; exact d2 x hx (by simp [c3m,hg,hdj]))]
     obtain ⟨hlt,ha⟩:=j8 ha
     rw [hlt]
     simp only [cond_true]
     split at ha
     ·rfl
     ·rename_i b hb
      cases hbw:(b==want) with
      | true =>
        rw [hbw] at ha
        simp only [cond_true] at ha
        cases he:a3L tb disp s a oa (some:Ef I->Option (Ef I)) with
        | none=>rw [he] at ha; cases ha
        | some e=>rw [he] at ha; cases ha
      | false=>rfl
     ·cases ha
  | some e =>
    rw [d1H] at hWT2
    simp only [b7B] at hWT2
    rw [b3r] at hWT2
    obtain ⟨h1,h2⟩:=c6g (tb:=tb) (disp:=disp) (all:=all) (s:=s) (s':=ap1 s i oi ri) (i:=a) (o:=oa) n2 x2
     (fun t ht=>c4h fun x hx e=>by subst e; exact d2 x hx ht) (fun l hl=>by rw [b4G]; exact c1h fun hm=>hWT2 l hm hl)
    refine ⟨h1.trans ha,?_⟩
    simp only [a5p,b2I,h2,nb2]
 refine ⟨same1.1,(c0P _ _ _).2 fun e he=>?_,same1.2,same2.1,(c0P _ _ _).2 fun e he=>?_,same2.2,?_⟩
 ·obtain ⟨h1,h2⟩:=(c0P _ _ _).1 hki e he
  refine ⟨h1,fun l hl=>?_⟩
  have h3:=h2 l (by rw [nb1]; exact hl)
  by_cases hm:l∈a0S e.upd
  ·exact absurd h3 (b5V (O':=s.O) hm).2
  ·rw [a3d hm] at h3 ⊢
   rw [b4G] at h3
   by_cases hw:l∈wO (a4c s a) ra
   ·exact absurd h3 (d6c hw)
   ·rw [c1h hw] at h3; exact h3
 ·subst he
  obtain ⟨h1,h2⟩:=(c0P _ _ _).1 hka e rfl
  refine ⟨h1,fun l hl=>?_⟩
  rw [nb2] at hl
  have h3:=h2 l hl
  by_cases hm:l∈a0S e.upd
  ·exact absurd h3 (b5V (O':=s.O) hm).2
  ·rw [a3d hm] at h3 ⊢
   rw [b4G,c1h]
   ·exact h3
   ·exact hWW l (by simp [wO,wOf,hl])
 ·have hF:(ap1 (ap1 s i oi ri) a oa ra).F=(ap1 (ap1 s a oa ra) i oi ri).F:=by
   rw [c4r,c4r,c4r,c4r]
   cases hda:oa.dst with
   | none=>cases oi.dst<;>rfl
   | some da =>
     cases hdi:oi.dst with
     | none=>rfl
     | some di =>
       have:da≠di:=by
        have:=d3 da hda
        rw [hdi] at this
        simpa using this
       exact (d3v this).symm
  have hO:(ap1 (ap1 s i oi ri) a oa ra).O=(ap1 (ap1 s a oa ra) i oi ri).O:=by
   rw [b4G,b4G,b4G,b4G,nb1,nb2]
   cases ra with
   | none=>rfl
   | some ea =>
     cases ri with
     | none=>rfl
     | some ei=>exact d5T hWW s.O
  have hn:(ap1 (ap1 s i oi ri) a oa ra).n=(ap1 (ap1 s a oa ra) i oi ri).n:=by rw [(c0Z _ _ _ _).1,n2,(c0Z _ _ _ _).1,n1]
  have hx:(ap1 (ap1 s i oi ri) a oa ra).nx=(ap1 (ap1 s a oa ra) i oi ri).nx:=by rw [(c0Z _ _ _ _).2,x2,(c0Z _ _ _ _).2,x1]
  generalize ap1 (ap1 s i oi ri) a oa ra=u at *
  generalize ap1 (ap1 s a oa ra) i oi ri=v at *
  obtain ⟨u1,u2,u3,u4⟩:=u
  obtain ⟨v1,v2,v3,v4⟩:=v
  simp only at hF hO hn hx
  subst hF
  subst hO
  subst hn
  subst hx
  rfl
end
end Go.Qx
end
section
open Array renaming replicate->d94
open Bool renaming and_eq_true->d8p,not_eq_true'->d9N
open List renaming all_eq_true->d8q,any_eq_true->e0c,append_nil->d82,eq_nil_of_length_eq_zero->d8P,getElem?_eq_getElem->d8n,getElem?_eq_some_iff->d8o,getElem?_toArray->d9s,length_append->d8t,length_cons->d8v,map_append->d9S,map_cons->d8O,mem_append->d8y,mem_cons->d8A,mem_map->d8T,nodup_append->d87,nodup_cons->d9T,pairwise_append->d9X,pairwise_cons->d93,range->d9L,size_toArray->d9P
open Nat renaming beq->d8u,blt->d8V,eq_of_beq_eq_true->d8s,le_refl->d8r
open Option renaming getD_some->d9u,map_some->d85
namespace Go.Qx
open Go Go.RowKit Go.Sx
section
variable {I:TypeId->Type} [∀ E,Rp (I E)] {P:Program}{tb:Tab I}{disp:a0f I}{all:List Oper}{tds:List (List Nat)}{X:Cxt}{c c':Cx}{σ τ:S}{n:Nat}
theorem c4X:∀ {pre:List (Nat×Oper)} {s s':St I} {i:Nat} {o:Oper} {post:List (Nat×Oper)} {es:Acc},Flat1 tb disp all s (pre++(i,o)::post) s' es->es.Pairwise (R tds) ->
 (∀ x∈pre,W5 x.1 (b08 tds i)=false)->(∀ x∈pre,a9R all x.2 o=true) ->
 ∃ e1 e e2,es=e1++e::e2/\e1.length=pre.length/\e.1=i/\(∀ x∈e1,R tds e x)/\Flat1 tb disp all s ((i,o)::(pre++post)) s' (e::(e1++e2))
 | [],s,s',i,o,post,_,.cons _ _ _ r _ _ es h1 h2 h3,_,_,_=>⟨[],_,es,rfl,rfl,rfl,(fun x hx=>by cases hx),Flat1.cons _ _ _ r _ _ es h1 h2 h3⟩
 | (a,oa)::pre,s,s',i,o,post,_,.cons _ _ _ ra _ _ es h1 h2 h3,hp,ht,hs=>by
   obtain ⟨p1,p2⟩:=d93.1 hp
   obtain ⟨e1,e,e2,k1,k2,k3,k4,k5⟩:=c4X h3 p2 (fun x hx=>ht x (by simp [hx])) (fun x hx=>hs x (by simp [hx]))
   subst k1
   cases k5 with
   | cons _ _ _ ri _ _ _ g1 g2 g3 =>
     have hR:=p1 (i,a5p (ap1 s a oa ra) i o ri) (by simp)
     have hc:b0h (a5p s a oa ra) (a5p (ap1 s a oa ra) i o ri)=true:=by
      rcases hR with h | h
      ·have:=ht (a,oa) (by simp)
       rw [this] at h; cases h
      ·exact h
     obtain ⟨m1,m2,m3,m4,m5,m6,m7⟩:=d2H h1 h2 g1 g2 hc (hs (a,oa) (by simp))
     refine ⟨(a,a5p s a oa ra)::e1,(i,a5p (ap1 s a oa ra) i o ri),e2,rfl,by simp [k2],rfl,fun x hx=>?_,?_⟩
     ·rcases d8A.1 hx with rfl | hx
      ·exact .inr (c6i hc)
      ·exact k4 x hx
     ·rw [<- m3]
      refine .cons s i o ri _ _ _ m1 m2 ?_
      rw [<- m6]
      refine .cons _ a oa ra _ _ _ m4 m5 ?_
      rw [m7]
      exact g3
def c2C (ops:List Oper)(tds:List (List Nat)):Bool :=
 (ops.zipIdx).all fun p=>p.1.after.toList.all (fun e=>!Region.binds .any e||d8V e.on p.2) &&
   (b08 tds p.2).all fun j=>d8V j p.2&&p.1.after.toList.any fun e=>Region.binds .any e&&(d8u e.on j||W5 j (b08 tds e.on))
def b0U (all:List Oper)(tds:List (List Nat)):List (Nat×Oper)->Bool
 | []=>true
 | x::r=>r.all (fun y=>W5 x.1 (b08 tds y.1)||a9R all x.2 y.2)&&b0U all tds r
theorem c4j {α:Type}{l:List α}{i:Nat}{x:α}(h:l[i]?=some x):(x,i)∈l.zipIdx:=by
 rw [List.mem_iff_getElem?]
 exact ⟨i,by simp [List.getElem?_zipIdx,h]⟩
theorem d23 {listed:Array Bool}{i:Nat}(hi:i<listed.size)(k:Nat):(listed.setIfInBounds i true).getD k false=(d8u k i||listed.getD k false):=by
 simp only [Array.getD_eq_getD_getElem?,Array.getElem?_setIfInBounds]
 by_cases h:i=k
 ·subst h; simp [hi]
 ·have:d8u k i=false:=beq_false (fun e=>h e.symm)
  simp [h,this]
abbrev SC (all:List Oper)(tds:List (List Nat))(x y:Nat×Oper):Prop:=W5 x.1 (b08 tds y.1)=true\/a9R all x.2 y.2=true
theorem b9F:∀ {l:List (Nat×Oper)},b0U all tds l=true->l.Pairwise (SC all tds)
 | [],_=>List.Pairwise.nil
 | x::r,h=>by
   simp only [b0U,d8p,d8q,Bool.or_eq_true] at h
   exact d93.2 ⟨h.1,b9F h.2⟩
structure AInv (all:List Oper)(tds:List (List Nat))(listed:Array Bool)(rem:List (Nat×Oper)):Prop where
 size:listed.size=all.length
 mem:∀ x∈rem,all[x.1]?=some x.2/\listed.getD x.1 false=false
 unl:∀ i o,all[i]?=some o->listed.getD i false=false->(i,o)∈rem
 nodup:(rem.map (·.1)).Nodup
 clos:∀ i,listed.getD i false=true->∀ j∈b08 tds i,listed.getD j false=true
 sc:rem.Pairwise (SC all tds)
theorem d2W (ht:TabOk P tb)(hd:DispOk P disp)(hX:X.P=P)(hck:c2C all tds=true){Q:Exit->Act->World->Prop}{s':St I}:∀ (fuel:Nat) (listed:Array Bool) (rem:List (Nat×Oper)) (s:St I) (es:Acc) (c:Cx) (σ:S) (F:Fr),
 rem.length=fuel->AInv all tds listed rem->Flat1 tb disp all s rem s' es->es.Pairwise (R tds)->Rel X c σ s n F->(∀ c' τ F',Cx.le c c'->Rel X c' τ s' n F'->Stp X.M σ τ->(∀ j,a15 rem j=false->F' j=F j)->Q .normal (fr n F') τ.w) ->
 wpAny P .any all.toArray Q fuel listed (fr n F) σ.w:=by
 have hdir:∀ i o,all[i]?=some o->(∀ e∈o.after.toList,Region.binds .any e=true->e.on<i) /\
  (∀ j,j∈b08 tds i->∃ e∈o.after.toList,Region.binds .any e=true/\(e.on=j\/j∈b08 tds e.on)):=by
  intro i o ho
  have h1:=(d8q.1 hck) _ (c4j ho)
  simp only [d8p] at h1
  refine ⟨fun e he hb=>?_,fun j hj=>?_⟩
  ·have:=(d8q.1 h1.1) e he
   rw [hb] at this
   simpa using a64 (by simpa using this)
  ·have:=(d8q.1 h1.2) j hj
   simp only [d8p] at this
   obtain ⟨e,he,hh⟩:=e0c.1 this.2
   simp only [d8p,Bool.or_eq_true] at hh
   refine ⟨e,he,hh.1,?_⟩
   rcases hh.2 with h | h
   ·exact .inl (d8s h)
   ·exact .inr (a0C.1 h)
 intro fuel
 induction fuel with
 | zero =>
   intro listed rem s es c σ F hlen hI hf hp hr hk
   have:rem=[]:=d8P hlen
   subst this
   cases hf
   have hall:∀ k,k<all.length->listed.getD k false=true:=by
    intro k hk
    cases hq:listed.getD k false with
    | true=>rfl
    | false =>
      have:=hI.unl k _ (d8n hk) hq
      cases this
   refine ⟨?_,hk c σ F (Cx.le_refl c) hr (Stp.refl _ _) fun _ _=>rfl⟩
   apply List.filter_eq_nil_iff.2
   intro k hk
   have hk':k<all.length:=by simpa using hk
   have hk2:k<listed.size:=by rw [hI.size]; exact hk'
   have e1:listed.getD k true=listed.getD k false:=by simp [Array.getD,hk2]
   intro hh
   rw [e1,hall k hk'] at hh
   simp at hh
 | succ fuel ih =>
   intro listed rem s es c σ F hlen hI hf hp hr hk
   have hready:∀ i,i∈Region.ready .any all.toArray listed↔∃ o,all[i]?=some o/\listed.getD i true=false/\∀ e∈o.after.toList,Region.binds .any e=true->listed.getD e.on false=true:=by
    intro i
    simp only [Region.ready,List.mem_filter,List.mem_range,d9P,d8p,d9N]
    constructor
    ·rintro ⟨h1,h2,h3⟩
     have ho:all[i]?=some all[i]:=d8n h1
     refine ⟨_,ho,h2,?_⟩
     simp only [d9s,ho,d85,d9u] at h3
     intro e he hb
     rw [Array.all_eq_true_iff_forall_mem] at h3
     have:=h3 e (by simpa using he)
     rw [hb] at this
     simpa using this
    ·rintro ⟨o,ho,h2,h3⟩
     refine ⟨(d8o.1 ho).1,h2,?_⟩
     simp only [d9s,ho,d85,d9u]
     rw [Array.all_eq_true_iff_forall_mem]
     intro e he
     cases hb:Region.binds .any e with
     | false=>rfl
     | true=>simpa using h3 e (by simpa using he) hb
   have hgetD:∀ i,i<all.length->listed.getD i true=listed.getD i false:=by
    intro i hi
    have:i<listed.size:=by rw [hI.size]; exact hi
    simp [Array.getD,this]
   refine ⟨fun hnil=>?_,fun i hi=>?_⟩
   ·
    exfalso
    have hall:∀ k,k<all.length->listed.getD k false=true:=by
     intro k
     induction k using Nat.strongRecOn with
     | _ k ihk =>
       intro hk
       cases hq:listed.getD k false with
       | true=>rfl
       | false =>
         have ho:all[k]?=some all[k]:=d8n hk
         have:k∈Region.ready .any all.toArray listed:=(hready k).2 ⟨_,ho,by rw [hgetD k hk]; exact hq,fun e he hb=>by
          have:=(hdir k _ ho).1 e he hb
          exact ihk e.on this (by omega)⟩
         rw [hnil] at this
         cases this
    cases rem with
    | nil=>cases hlen
    | cons x r =>
      obtain ⟨h1,h2⟩:=hI.mem x (by simp)
      rw [hall x.1 (d8o.1 h1).1] at h2
      cases h2
   ·obtain ⟨o,ho,hl,hdp⟩:=(hready i).1 hi
    have hil:i<all.length:=(d8o.1 ho).1
    have hnot:listed.getD i false=false:=by rw [<- hgetD i hil]; exact hl
    have hdeps:∀ j∈b08 tds i,listed.getD j false=true:=by
     intro j hj
     obtain ⟨e,he,hb,h⟩:=(hdir i o ho).2 j hj
     have h1:=hdp e he hb
     rcases h with rfl | h
     ·exact h1
     ·exact hI.clos _ h1 j h
    obtain ⟨pre,post,hsplit⟩:=List.append_of_mem (hI.unl i o ho hnot)
    subst hsplit
    have htd:∀ x∈pre,W5 x.1 (b08 tds i)=false:=fun x hx=>by
     rw [a1v]
     intro hm
     have:=(hI.mem x (by simp [hx])).2
     rw [hdeps x.1 hm] at this
     cases this
    have hsc:=d9X.1 hI.sc
    have hs:∀ x∈pre,a9R all x.2 o=true:=fun x hx=>by
     rcases hsc.2.2 x hx (i,o) (by simp) with h | h
     ·rw [htd x hx] at h; cases h
     ·exact h
    obtain ⟨e1,e,e2,k1,k2,k3,k4,k5⟩:=c4X hf hp htd hs
    subst k1
    have hpw:=d9X.1 hp
    have hp':(e1++e2).Pairwise (R tds):=d9X.2 ⟨hpw.1,(d93.1 hpw.2.1).2,fun a ha b hb=>hpw.2.2 a ha b (by simp [hb])⟩
    have hii:i<listed.size:=by rw [hI.size]; exact hil
    have hg:=d23 hii
    have hnd:=hI.nodup
    have hI':AInv all tds (listed.setIfInBounds i true) (pre++post):=by
     refine ⟨by simp [hI.size],fun x hx=>?_,fun j oj hj hjl=>?_,?_,fun j hjl q hq=>?_,?_⟩
     ·have hx':x∈pre++(i,o)::post:=by
       rcases d8y.1 hx with h | h
       ·simp [h]
       ·simp [h]
      obtain ⟨h1,h2⟩:=hI.mem x hx'
      refine ⟨h1,?_⟩
      rw [hg,h2,Bool.or_false]
      apply Sx.beq_false
      intro e
      rw [d9S,d8O,d87] at hnd
      obtain ⟨n1,n2,n3⟩:=hnd
      rcases d8y.1 hx with h | h
      ·exact n3 x.1 (List.mem_map_of_mem h) i (by simp) e
      ·exact (d9T.1 n2).1 (d8T.2 ⟨x,h,e⟩)
     ·rw [hg,Bool.or_eq_false_iff] at hjl
      have:=hI.unl j oj hj hjl.2
      rcases d8y.1 this with h | h
      ·simp [h]
      ·rcases d8A.1 h with h | h
       ·cases h
        simp at hjl
       ·simp [h]
     ·rw [d9S] at hnd ⊢
      exact hnd.sublist (List.Sublist.append (List.Sublist.refl _) (by simp))
     ·rw [hg] at hjl ⊢
      rcases Bool.or_eq_true_iff.1 hjl with h | h
      ·have:=d8s h
       subst this
       simp [hdeps q hq]
      ·simp [hI.clos j h q hq]
     ·exact d9X.2 ⟨hsc.1,(d93.1 hsc.2.1).2,fun a ha b hb=>hsc.2.2 a ha b (by simp [hb])⟩
    cases k5 with
    | cons _ _ _ r _ _ _ g1 g2 g3 =>
      have hlen':(pre++post).length=fuel:=by
       simp only [d8t,d8v] at hlen ⊢
       omega
      have hdst:∀ {j},a15 (pre++(i,o)::post) j=false->a15 (pre++post) j=false/\o.dst≠some j:=fun hj=>by
       obtain ⟨j1,j2⟩:=c0B hj
       obtain ⟨j3,j4⟩:=a5U j2
       refine ⟨?_,j3⟩
       simp only [a15,List.any_append,Bool.or_eq_false_iff] at j1 j4 ⊢
       exact ⟨j1,j4⟩
      have cont:∀ c' τ F',Cx.le c c'->Rel X c' τ (ap1 s i o r) n F'->Stp X.M σ τ->(∀ j,o.dst≠some j->F' j=F j)->wpAny P .any all.toArray Q fuel (listed.setIfInBounds i true) (fr n F') τ.w:=fun c' τ F' m1 m2 m3 m4 =>
       ih _ _ _ _ c' τ F' hlen' hI' g3 hp' m2 fun c2 υ F2 q1 q2 q3 q4=>hk c2 υ F2 (Cx.le_trans m1 q1) q2 (m3.trans q3) fun j hj=>(q4 j (hdst hj).1).trans (m4 j (hdst hj).2)
      unfold wpOp
      simp only [d9s,ho]
      rcases d4t ht hd hX hr g1 g2 with ⟨e',rfl,he,hw⟩ | ⟨rfl,hw⟩
      ·rw [if_pos hw]
       refine .inl ?_
       have h1:Oper.wp P { o with guard:=none } (fr n F) σ.w (wpAny P .any all.toArray Q fuel (listed.setIfInBounds i true)) Q:=d1y rfl (d4U ht hd hX hr he g2 fun c' τ F' m1 m2 m3 m4=>wpList_nil (cont c' τ F' m1 m2 m3 m4))
       unfold Oper.wp at h1 ⊢
       exact h1
      ·rw [if_neg (by rw [hw]; simp),b9p]
       exact cont c σ _ (Cx.le_refl c) (hr.put o.dst .undef undef (by simp only [RV])) (Stp.refl _ _) fun j hj=>b98 hj
def a8q (l:List Oper):List (Nat×Oper):=l.zipIdx.map fun x=>(x.2,x.1)
theorem c2R {l:List Oper}{i:Nat}{o:Oper}:(i,o)∈a8q l↔l[i]?=some o:=by
 simp only [a8q,d8T,Prod.mk.injEq]
 constructor
 ·rintro ⟨⟨o',i'⟩,h,rfl,rfl⟩
  have:=List.mem_zipIdx_iff_getElem?.1 h
  simpa using this
 ·intro h
  exact ⟨(o,i),c4j h,rfl,rfl⟩
theorem d3w (l:List Oper):(a8q l).map (·.2)=l:=by
 simp [a8q,List.map_map,Function.comp_def]
theorem d3J (l:List Oper):(a8q l).map (·.1)=d9L l.length:=by
 simp [a8q,List.map_map,Function.comp_def,List.zipIdx_map_snd,List.range_eq_range']
def d8i (s s':St I)(m:Nat):St I:=⟨s'.n,s'.F,s'.O,s.nx+8*m⟩
def region (tb:Tab I)(disp:a0f I)(tds:List (List Nat))(drw:Bool)(spl:List Nat)(ops:List Oper)(s:St I){ρ:Type}(k:St I->Option ρ):Option ρ :=
 a4d tb disp ops tds drw spl (2*ops.length+2) ρ false [] (a8q ops) [] s fun s' _=>k (d8i s s' ops.length)
theorem d1Z (ht:TabOk P tb)(hd:DispOk P disp)(hX:X.P=P){drw:Bool}{spl:List Nat}(hm:P.follows .mixedOrders=true){ops:List Oper}(hck:drw=true->c2C ops tds=true/\b0U ops tds (a8q ops)=true){s:St I}{ρ:Type}{k:St I->Option ρ}{r:ρ}(h:region tb disp tds drw spl ops s k=some r)
 {F:Fr} (hr:Rel X c σ s n F) {id:Nat} {Q:Exit->Act->World->Prop}
 (hk:∀ s' c' τ F',k s'=some r->Cx.le c c'->Rel X c' τ s' n F'->Stp X.M σ τ->(∀ i,a15 (a8q ops) i=false->F' i=F i)->Q .normal (fr n F') τ.w):(Code.region id ops.toArray drw).wp P Q (fr n F) σ.w:=by
 obtain ⟨s1',s2',acc',es,h1,h2⟩:=b0e hd _ _ _ _ _ _ _ _ _ s [] h ⟨rfl,rfl,rfl,fun _ _ h=>h⟩ (fun _ x hx=>by cases hx)
 have fin:∀ c' τ F',Cx.le c c'->Rel X c' τ s1' n F'->Stp X.M σ τ->(∀ i,a15 (a8q ops) i=false->F' i=F i)->Q .normal (fr n F') τ.w:=fun c' τ F' k1 k2 k3 k4=>by
  refine hk _ c' τ F' h1 k1 ⟨h2.ref.n.symm.trans k2.len,fun i p hp=>k2.frame i p (h2.ref.F i p hp),?_,?_,?_,?_,k2.base,?_⟩ k3 k4
  ·intro l o ho
   exact k2.objs l o (by rw [h2.ref.O]; exact ho)
  ·intro l l' p p' b ⟨o,a1⟩ ⟨o',a2⟩
   exact k2.inj l l' p p' b ⟨o,by rw [h2.ref.O]; exact a1⟩ ⟨o',by rw [h2.ref.O]; exact a2⟩
  ·intro l p b ⟨o,a1⟩
   exact k2.mine l p b ⟨o,by rw [h2.ref.O]; exact a1⟩
  ·intro l hl
   exact k2.nom l (by rw [h2.ref.O]; exact hl)
  ·show Nests X c' τ s2'.O
   rw [<- h2.ref.O]
   exact k2.nst
 cases drw with
 | false =>
   have hs:=d32 (Q:=Q) (post:=[]) ht hd hX h2.flat c σ F hr fun c' τ F' k1 k2 k3 k4=>wpList_nil (fin c' τ F' k1 k2 k3 k4)
   rw [d3w,d82] at hs
   exact wp_region_lit hs
 | true =>
   obtain ⟨hc1,hc2⟩:=hck rfl
   refine wp_region_any hm ?_
   have hsz:ops.toArray.size=(a8q ops).length:=by simp [a8q]
   have hdrew:Stp NoB σ ⟨{ σ.w with drawn:=σ.w.drawn+1 },σ.L⟩:=⟨⟨d8r _,fun _ _=>d8r _,fun _ _ _ _ h=>h,Nat.le_succ _,fun _ _ _ h=>h⟩,rfl,rfl,rfl,fun _ _ _=>⟨rfl,rfl⟩⟩
   have hfalse:∀ i,(d94 ops.toArray.size false).getD i false=false:=fun i=>by
    by_cases h:i<ops.toArray.size<;>simp [Array.getD,h]
   refine d2W ht hd hX hc1 _ _ (a8q ops) s es c ⟨{ σ.w with drawn:=σ.w.drawn+1 },σ.L⟩ F hsz.symm ⟨by simp,fun x hx=>⟨c2R.1 hx,hfalse _⟩,fun i o ho _=>c2R.2 ho,by rw [d3J]; exact List.nodup_range,(fun i hi=>by rw [hfalse] at hi; cases hi),b9F hc2⟩
    h2.flat (h2.pair rfl) (hr.step hdrew) fun c' τ F' k1 k2 k3 k4=>fin c' τ F' k1 k2 (hdrew.no.trans k3) k4
end
end Go.Qx
end
section
open Bool renaming and_eq_true->d8p
open List renaming all_eq_true->d8q,filterMap_cons->d8X,map_cons->d8O,mem_append->d8y,mem_append_left->d9M,mem_append_right->d9G,mem_cons->d8A,mem_filterMap->d95,nodup_cons->d9T
open Nat renaming beq->d8u,eq_of_beq_eq_true->d8s,testBit->d9J
namespace Go.Qx
open Go Go.RowKit Go.Sx
section
variable {I:TypeId->Type} [∀ E,Rp (I E)]
abbrev tyN (S W:List (Nat×V)):List V:=S.map (·.2)++W.map (·.2)
abbrev TyN (I:TypeId->Type)(S W:List (Nat×V)):Type:=TyT I (tyN S W)
def d4f (s:St I)(t:Nat):Option Nat:=match s.F t with
 | some (.ptr l 0)=>some l
 | _=>none
def c5I (s:St I):List (Nat×V)->Option (List Nat)
 | []=>some []
 | x::r=>(d4f s x.1).bind fun l=>(c5I s r).bind fun r'=>some (l::r')
def d79:V->TypeId
 | .k (.d (.dat E))=>E
 | _=>0
def a8p:V->Bool
 | .k (.d (.dat _))=>true
 | .lvs _=>true
 | _=>false
def c0U (v:V)(ls:List (PV I)):Option (PV I):=bif a8p v then some (b7g (d79 v) ls) else match ls with
 | [p]=>bif a6H p then none else some p
 | _=>none
def a7j (v:V)(p:PV I):List (PV I):=bif a8p v then (match p with
 | .agg ls=>ls
 | p=>[p]) else [p]
def c4A (s:St I):List (Nat×V)->Option (List (PV I))
 | []=>some []
 | x::r=>(s.F x.1).bind fun p=>(c4A s r).bind fun ps=>some (p::ps)
def c1a (O0:Obs I)(s:St I):List (Nat×V)->List Nat->Option (List (PV I))
 | [],[]=>some []
 | x::r,l::ls=>match s.O l,O0 l with
   | some (some (.var T vs true)),some (some (.var T0 _ _))=>bif d8u T T0 then (c0U x.2 vs).bind fun p=>(c1a O0 s r ls).bind fun ps=>some (p::ps) else none
   | _,_=>none
 | _,_=>none
def a72 (pubs:List Nat):List (Option Nat)->Bool
 | []=>true
 | none::r=>a72 pubs r
 | some l::r=>!(W5 l pubs)&&r.all (fun x=>match x with | some l'=>!(d8u l' l) | none=>true)&&a72 pubs r
def b4X (tb:Tab I)(O0:Obs I)(S W:List (Nat×V))(wl:List Nat)(s:St I):Option (TyN I S W) :=
 (c4A s S).bind fun a=>(c1a O0 s W wl).bind fun b=>(a3D tb s.O (tyN S W) (a++b)).bind fun x=>bif a72 (x.2.1++wl) x.2.2 then some x.1 else none
def J0 (ls:List Nat)(O:Obs I):Obs I:=fun l=>bif W5 l ls then (match O l with | some _=>some none | none=>none) else O l
def asgW (O0:Obs I):List (Nat×V)->List Nat->List (PV I)->Obs I->Obs I
 | x::r,l::ls,p::ps,O=>match O0 l with
   | some (some (.var T _ w))=>asgW O0 r ls ps (upF O l (some (.var T (a7j x.2 p) w)))
   | _=>asgW O0 r ls ps O
 | _,_,_,O=>O
def asgS:List (Nat×V)->List (PV I)->(Nat->Option (PV I))->Nat->Option (PV I)
 | x::r,p::ps,F=>asgS r ps (upF F x.1 p)
 | _,_,F=>F
def b7E (m:Nat)(F:Nat->Option (PV I)):Nat->Option (PV I):=fun i=>bif d9J m i then none else F i
def nfS (tb:Tab I)(sb:St I)(m:Nat)(dead:List Nat)(S W:List (Nat×V))(wl:List Nat)(x:TyN I S W):St I :=
 let ps:=pvT tb sb.nx (tyN S W) x
 ⟨sb.n,asgS S (ps.take S.length) (b7E m sb.F),asgW sb.O W wl (ps.drop S.length) (a0d (J0 (wl++dead) sb.O) sb.nx (obT (tyN S W) x)),sb.nx+cnT (tyN S W)⟩
def b2M (O:Obs I)(nb:Nat):Nat->Bool
 | 0=>true
 | m+1=>(O nb).isNone&&b2M O (nb+1) m
def isRow (O:Obs I)(l:Nat):Bool:=match O l with
 | some (some (.row _ _ _))=>true
 | some (some (.map _ _ _))=>true
 | some (some (.var _ _ true))=>true
 | _=>false
def b6H (s:St I)(ts wl:List Nat):List Nat:=(a4i s.F ts++nest s.O wl).filter (isRow s.O)
def roO (own:List Nat)(O:Obs I):Obs I:=fun l=>bif W5 l own then O l else match O l with
 | some (some (.var T ls _))=>some (some (.var T ls false))
 | some (some (.row E xs true))=>some (some (.ro E xs))
 | some (some (.row _ _ false))=>some none
 | some (some (.nst _ _ _ _ _))=>some none
 | some (some (.map T kd m))=>some (some (.rom T kd m))
 | o=>o
def roS (own:List Nat)(s:St I):St I:=⟨s.n,s.F,roO own s.O,s.nx⟩
variable {P:Program}{tb:Tab I}{X X':Cxt}{c c':Cx}{σ τ:S}{s:St I}{n:Nat}{F F':Fr}{O:Obs I}
theorem Rel.frameEq (h:Rel X c σ s n F){G:Nat->Option (PV I)}(hG:∀ i p,G i=some p->s.F i=some p/\F' i=F i):Rel X c σ ⟨s.n,G,s.O,s.nx⟩ n F' :=
 ⟨h.len,fun i p hp=>by obtain ⟨h1,h2⟩:=hG i p hp; rw [h2]; exact h.frame i p h1,h.objs,h.inj,h.mine,h.nom,h.base,h.nst⟩
theorem Rel.less (h:Rel X c σ s n F){O':Obs I}(hO:∀ l o,O' l=some (some o)->s.O l=some (some o))(hn:∀ l,O' l=none->s.O l=none):Rel X c σ ⟨s.n,s.F,O',s.nx⟩ n F :=
 ⟨h.len,h.frame,fun l o ho=>h.objs l o (hO l o ho),fun l l' p p' b ⟨o,a1⟩ ⟨o',a2⟩=>h.inj l l' p p' b ⟨o,hO l o a1⟩ ⟨o',hO l' o' a2⟩,fun l p b ⟨o,a1⟩=>h.mine l p b ⟨o,hO l o a1⟩,fun l hl=>h.nom l (hn l hl),h.base,h.nst.sub (fun l E E' u xs q e=>hO l _ e) fun l' o p' b ho' _ _=>.inl ⟨o,hO l' o ho'⟩⟩
theorem Rel.reviveG (h:Rel X c σ s n F){l:Nat}{o:Ob I}(ho:X6 X c σ l o)(hw:∀ p g,c l=some p->p.w=some g->X.M g/\∀ l' p',l'≠l->Y7 s l'->c l'=some p'->p'.w≠some g)(hN:Nests X c σ (upF s.O l (some o))):Rel X c σ (Y5 s l (some o)) n F:=by
 have hlive:∀ {l'},l'≠l->Y7 (Y5 s l (some o)) l'->Y7 s l':=fun e ⟨o',h'⟩=>by
  rcases Z2 h' with ⟨e',_⟩ | ⟨_,h⟩
  ·exact absurd e' e
  ·exact ⟨o',h⟩
 refine ⟨h.len,h.frame,fun l' o'' hl'=>?_,fun l1 l2 p1 p2 b a1 a2 a3 a4 a5 a6=>?_,fun l1 p1 b a1 a2 a3=>?_,fun l' hl'=>?_,h.base,hN⟩
 ·rcases Z2 hl' with ⟨rfl,e⟩ | ⟨e,hl'⟩
  ·cases e; exact ho
  ·exact h.objs l' o'' hl'
 ·by_cases e1:l1=l
  ·by_cases e2:l2=l
   ·rw [e1,e2]
   ·subst e1
    exact absurd a6 ((hw p1 b a3 a5).2 l2 p2 e2 (hlive e2 a2) a4)
  ·by_cases e2:l2=l
   ·subst e2
    exact absurd a5 ((hw p2 b a4 a6).2 l1 p1 e1 (hlive e1 a1) a3)
   ·exact h.inj l1 l2 p1 p2 b (hlive e1 a1) (hlive e2 a2) a3 a4 a5 a6
 ·by_cases e1:l1=l
  ·subst e1; exact (hw p1 b a2 a3).1
  ·exact h.mine l1 p1 b (hlive e1 a1) a2 a3
 ·refine h.nom l' ?_
  by_cases e:l'=l
  ·subst e
   have:(Y5 s l' (some o)).O l'=some (some o):=J3 _ _ _
   rw [this] at hl'; cases hl'
  ·have:(Y5 s l (some o)).O l'=s.O l':=J2 e
   rw [this] at hl'; exact hl'
theorem Rel.revive (h:Rel X c σ s n F){l:Nat}{o:Ob I}(ho:X6 X c σ l o)(hw:∀ p g,c l=some p->p.w=some g->X.M g/\notIn c σ s g/\∀ l' p',l'≠l->Y7 s l'->c l'=some p'->p'.w≠some g)(hn:a9U (some o)=true:=by rfl):Rel X c σ (Y5 s l (some o)) n F :=
 h.reviveG ho (fun p g a b=>⟨(hw p g a b).1,(hw p g a b).2.2⟩) (h.nst.sub (fun l' E E' u xs q e=>by
  rcases Z2 e with ⟨_,e'⟩ | ⟨_,h2⟩
  ·exact absurd e'.symm (a96 hn)
  ·exact h2) fun l' o' p' b ho' hc' hw'=>by
  rcases Z2 ho' with ⟨rfl,_⟩ | ⟨_,h2⟩
  ·exact .inr (hw p' b hc' hw').2.1
  ·exact .inl ⟨o',h2⟩)
theorem Rel.reviveN (h:Rel X c σ s n F){l:Nat}{E E':TypeId}{u:Nat}{ys:List (I E)}{pl:Pl}(hdead:¬ Y7 s l)(hc:c l=some pl)(ho:X6 X c σ l (.nst E E' u ys 0))
 (hw:∀ g,pl.w=some g->X.M g/\notIn c σ s g/\∀ l' p',Y7 s l'->c l'=some p'->p'.w≠some g) (hopn:∀ i,i<ys.length->∃ g v,pl.A=some ⟨g,0,none⟩/\σ.w.cell? ⟨g,i*Rp.sz (I E)+u,none⟩=some v/\Opn I E' σ v)
 (hin:∀ i g v b,i<ys.length->pl.A=some ⟨g,0,none⟩->σ.w.cell? ⟨g,i*Rp.sz (I E)+u,none⟩=some v->a5R v=some b->X.M b/\notIn c σ s b/\(∀ l' p',Y7 s l'->c l'=some p'->p'.w≠some b)/\pl.w≠some b)
 (hdist:∀ i i' g v v' b,i<ys.length->i'<ys.length->pl.A=some ⟨g,0,none⟩->σ.w.cell? ⟨g,i*Rp.sz (I E)+u,none⟩=some v->σ.w.cell? ⟨g,i'*Rp.sz (I E)+u,none⟩=some v'->a5R v=some b->a5R v'=some b->i'=i) :
 Rel X c σ (Y5 s l (some (.nst E E' u ys 0))) n F:=by
 refine h.reviveG ho (fun p g a b=>?_) ?_
 ·rw [hc] at a
  cases a
  exact ⟨(hw g b).1,fun l' p' _=>(hw g b).2.2 l' p'⟩
 have hne:∀ {l' o},s.O l'=some (some o)->l'≠l:=fun e e'=>hdead (by rw [<- e']; exact ⟨_,e⟩)
 have hI:∀ {l' i E1 v},a0M c σ (upF s.O l (some (.nst E E' u ys 0))) l' i E1 v->a0M c σ s.O l' i E1 v\/(l'=l/\∃ g,i<ys.length/\pl.A=some ⟨g,0,none⟩/\σ.w.cell? ⟨g,i*Rp.sz (I E)+u,none⟩=some v):=fun {l' i E1 v} ⟨E2,u2,xs2,q2,g,kk,m,w,h1,h2,h3,h4,h5⟩=>by
  rcases Z2 h1 with ⟨e,e2⟩ | ⟨_,e2⟩
  ·cases e2
   subst e
   rw [hc] at h2
   cases h2
   exact .inr ⟨rfl,g,h3,rfl,h5⟩
  ·exact .inl ⟨E2,u2,xs2,q2,g,kk,m,w,e2,h2,h3,h4,h5⟩
 have hB:∀ {l' i b},InB c σ (upF s.O l (some (.nst E E' u ys 0))) l' i b->InB c σ s.O l' i b\/(l'=l/\∃ g v,i<ys.length/\pl.A=some ⟨g,0,none⟩/\σ.w.cell? ⟨g,i*Rp.sz (I E)+u,none⟩=some v/\a5R v=some b):=fun ⟨E1,v,h1,h2⟩=>by
  rcases hI h1 with k | ⟨k1,g,k2,k3,k4⟩
  ·exact .inl ⟨E1,v,k,h2⟩
  ·exact .inr ⟨k1,g,v,k2,k3,k4,h2⟩
 refine ⟨fun l' E1 E2 u1 xs1 q1 e i hi hq=>?_,fun l' i b hb=>?_,fun l' i b hb l2 o p' ho' hc' hw'=>?_,fun l' i b l2 i2 h1 h2=>?_⟩
 ·rcases Z2 e with ⟨e1,e2⟩ | ⟨e1,e2⟩
  ·cases e2
   subst e1
   obtain ⟨g,v,a1,a2,a3⟩:=hopn i hi
   obtain ⟨A,k,m,w⟩:=pl
   cases a1
   exact ⟨v,⟨_,_,_,_,g,k,m,w,J3 _ _ _,hc,hi,hq,a2⟩,a3⟩
  ·obtain ⟨v,⟨E3,u3,xs3,q3,g,kk,m,w,h1,h2,h3⟩,k2⟩:=h.nst.opn l' _ _ _ _ _ e2 i hi hq
   exact ⟨v,⟨E3,u3,xs3,q3,g,kk,m,w,by rw [J2 e1]; exact h1,h2,h3⟩,k2⟩
 ·rcases hB hb with k | ⟨_,g,v,k1,k2,k3,k4⟩
  ·exact h.nst.mine l' i b k
  ·exact (hin i g v b k1 k2 k3 k4).1
 ·rcases hB hb with k | ⟨_,g,v,k1,k2,k3,k4⟩
  ·rcases Z2 ho' with ⟨e1,_⟩ | ⟨_,e2⟩
   ·subst e1
    rw [hc] at hc'
    cases hc'
    exact (hw b hw').2.1 l' i k
   ·exact h.nst.free l' i b k l2 o p' e2 hc' hw'
  ·rcases Z2 ho' with ⟨e1,_⟩ | ⟨_,e2⟩
   ·subst e1
    rw [hc] at hc'
    cases hc'
    exact (hin i g v b k1 k2 k3 k4).2.2.2 hw'
   ·exact (hin i g v b k1 k2 k3 k4).2.2.1 l2 p' ⟨o,e2⟩ hc' hw'
 ·rcases hB h1 with k | ⟨k0,g,v,k1,k2,k3,k4⟩
  ·rcases hB h2 with m | ⟨m0,g',v',m1,m2,m3,m4⟩
   ·exact h.nst.inj l' i b l2 i2 k m
   ·exact absurd k ((hin i2 g' v' b m1 m2 m3 m4).2.1 _ _)
  ·rcases hB h2 with m | ⟨m0,g',v',m1,m2,m3,m4⟩
   ·exact absurd m ((hin i g v b k1 k2 k3 k4).2.1 _ _)
   ·rw [k2] at m2
    cases m2
    exact ⟨m0.trans k0.symm,hdist i i2 g v v' b k1 m1 k2 k3 m3 k4 m4⟩
theorem Rel.retag (h:Rel X c σ s n F){l:Nat}{o o':Ob I}(hl:s.O l=some (some o))(ho:X6 X c σ l o')(hN:Nests X c σ (upF s.O l (some o'))):Rel X c σ (Y5 s l (some o')) n F :=
 h.reviveG ho (fun p g a b=>⟨h.mine l p g ⟨_,hl⟩ a b,fun l' p' hne hlv hc' hw'=>hne (h.inj l' l p' p g hlv ⟨_,hl⟩ hc' a hw' b)⟩) hN
theorem Rel.plain (h:Rel X c σ s n F){l:Nat}{E E':TypeId}{u q:Nat}{xs:List (I E)}(hl:s.O l=some (some (.nst E E' u xs q))):Rel X c σ (Y5 s l (some (.row E xs false))) n F :=
 h.retag hl (by have:=h.objs l _ hl; exact this) (h.nst.sub (fun l' E E' u xs q e=>by
  rcases Z2 e with ⟨_,e'⟩ | ⟨_,h2⟩
  ·cases e'
  ·exact h2) fun l' o' p' b ho' hc' hw'=>by
  rcases Z2 ho' with ⟨rfl,_⟩ | ⟨_,h2⟩
  ·exact .inl ⟨_,hl⟩
  ·exact .inl ⟨o',h2⟩)
theorem Rel.armed (h:Rel X c σ s n F){l:Nat}{E E':TypeId}{u:Nat}{xs:List (I E)}(hl:s.O l=some (some (.nst E E' u xs 0))):Rel X c σ (Y5 s l (some (.nst E E' u xs 1))) n F:=by
 refine h.retag hl (by have:=h.objs l _ hl; exact this) ?_
 have hI:∀ {l' i E1 v},a0M c σ (upF s.O l (some (.nst E E' u xs 1))) l' i E1 v->a0M c σ s.O l' i E1 v:=fun {l' i E1 v} ⟨E2,u2,xs2,q2,g,kk,m,w,h1,h2,h3,h4,h5⟩=>by
  rcases Z2 h1 with ⟨e,e2⟩ | ⟨_,e2⟩
  ·cases e2
   subst e
   exact ⟨_,_,_,0,g,kk,m,w,hl,h2,h3,by omega,h5⟩
  ·exact ⟨E2,u2,xs2,q2,g,kk,m,w,e2,h2,h3,h4,h5⟩
 have hB:∀ {l' i b},InB c σ (upF s.O l (some (.nst E E' u xs 1))) l' i b->InB c σ s.O l' i b:=fun ⟨E1,v,h1,h2⟩=>⟨E1,v,hI h1,h2⟩
 refine ⟨fun l' E1 E2 u1 xs1 q1 e i hi hq=>?_,fun l' i b hb=>h.nst.mine l' i b (hB hb),fun l' i b hb l2 o p' ho' hc'=>?_,fun l' i b l2 i2 h1 h2=>h.nst.inj l' i b l2 i2 (hB h1) (hB h2)⟩
 ·rcases Z2 e with ⟨e1,e2⟩ | ⟨e1,e2⟩
  ·cases e2
   subst e1
   obtain ⟨v,⟨E3,u3,xs3,q3,g,kk,m,w,h1,h2,h3,h4,h5⟩,k2⟩:=h.nst.opn l' _ _ _ _ 0 hl i hi (by omega)
   rw [hl] at h1
   cases h1
   exact ⟨v,⟨_,_,_,_,g,kk,m,w,J3 _ _ _,h2,hi,hq,h5⟩,k2⟩
  ·obtain ⟨v,⟨E3,u3,xs3,q3,g,kk,m,w,h1,h2,h3⟩,k2⟩:=h.nst.opn l' _ _ _ _ _ e2 i hi hq
   exact ⟨v,⟨E3,u3,xs3,q3,g,kk,m,w,by rw [J2 e1]; exact h1,h2,h3⟩,k2⟩
 ·rcases Z2 ho' with ⟨e1,_⟩ | ⟨_,e2⟩
  ·subst e1; exact h.nst.free l' i b (hB hb) l2 _ p' hl hc'
  ·exact h.nst.free l' i b (hB hb) l2 o p' e2 hc'
theorem Rel.asgS:∀ {S:List (Nat×V)} {ps:List (PV I)} {s:St I},Rel X c σ s n F->RVs X c σ ps (S.map fun x=>F x.1)->Rel X c σ ⟨s.n,Qx.asgS S ps s.F,s.O,s.nx⟩ n F
 | [],_,s,h,_=>h
 | x::S,[],s,h,hv=>by simp only [d8O,RVs] at hv; cases hv
 | x::S,p::ps,s,h,hv=>by
   simp only [d8O,RVs] at hv
   obtain ⟨v,r,e,h1,h2⟩:=hv
   cases e
   have hp:Rel X c σ ⟨s.n,upF s.F x.1 p,s.O,s.nx⟩ n F:=by
    refine ⟨h.len,fun i q hq=>?_,h.objs,h.inj,h.mine,h.nom,h.base,h.nst⟩
    rcases Z2 hq with ⟨rfl,rfl⟩ | ⟨_,hq⟩
    ·exact h1
    ·exact h.frame i q hq
   have:=Rel.asgS hp h2
   exact this
def b46:Ob I->Bool
 | .row _ _ _=>true
 | .map _ _ _=>true
 | .var _ _ true=>true
 | _=>false
omit [∀ E,Rp (I E)] in
theorem b4C {k:K}{p:PV I}{x:TyK I k}{ls:List Nat}{rows:List (Option Nat)}(h:a8m tb O k p=some (x,ls,rows)):∀ l,some l∈rows->∃ o:Ob I,O l=some (some o)/\b46 o=true:=by
 unfold a8m at h
 split at h
 ·obtain ⟨y,hy,h⟩:=bind_some h
  cases h
  exact fun l hl=>by simp at hl
 ·rename_i E fl l0
  split at h
  ·rename_i E' xs fl' ho
   obtain ⟨ys,hys,h⟩:=bind_some h
   split at h
   ·cases h; exact fun l hl=>by simp at hl; subst hl; exact ⟨_,ho,rfl⟩
   ·cases h; exact fun l hl=>by simp at hl; subst hl; exact ⟨_,ho,rfl⟩
   ·cases h
  ·cases h
 ·cases h
  exact fun l hl=>by simp at hl
 ·obtain ⟨ys,hys,h2⟩:=bind_some h
  clear h
  cases h2
  exact fun l hl=>by simp at hl
 ·rename_i T kd l0
  split at h
  ·rename_i T' kd' m ho
   obtain ⟨ys,hys,h⟩:=bind_some h
   cases h
   exact fun l hl=>by simp at hl; subst hl; exact ⟨_,ho,rfl⟩
  ·cases h
 ·split at h
  ·rename_i T' ls' ho
   obtain ⟨_,h⟩:=j8 h
   obtain ⟨y,hy,h⟩:=bind_some h
   cases h
   exact fun l hl=>by simp at hl; subst hl; exact ⟨_,ho,rfl⟩
  ·cases h
 ·cases h
omit [∀ E,Rp (I E)] in
theorem c9S {k:K}{p:PV I}{x:TyK I k}{ls:List Nat}{rows:List (Option Nat)}(hk:∃ E fl,k=.row E fl)(h:a8m tb O k p=some (x,ls,rows)):∀ l,some l∈rows->∃ E,∃ xs:List (I E),∃ fl,O l=some (some (.row E xs fl)):=by
 unfold a8m at h
 split at h
 ·obtain ⟨_,_,e⟩:=hk; cases e
 ·rename_i E fl l0
  split at h
  ·rename_i E' xs fl' ho
   obtain ⟨ys,hys,h⟩:=bind_some h
   split at h
   ·cases h; exact fun l hl=>by simp at hl; subst hl; exact ⟨_,_,_,ho⟩
   ·cases h; exact fun l hl=>by simp at hl; subst hl; exact ⟨_,_,_,ho⟩
   ·cases h
  ·cases h
 ·cases h
  exact fun l hl=>by simp at hl
 ·obtain ⟨ys,hys,h2⟩:=bind_some h
  clear h
  cases h2
  exact fun l hl=>by simp at hl
 ·obtain ⟨_,_,e⟩:=hk; cases e
 ·obtain ⟨_,_,e⟩:=hk; cases e
 ·cases h
omit [∀ E,Rp (I E)] in
theorem c4S {E0:TypeId}{fl0:Bool}{p:PV I}{x:TyK I (.row E0 fl0)}{ls:List Nat}{rows:List (Option Nat)}(h:a8m tb O (.row E0 fl0) p=some (x,ls,rows)):∀ l,some l∈rows->∃ E,∃ xs:List (I E),∃ fl,O l=some (some (.row E xs fl)) :=
 c9S ⟨_,_,rfl⟩ h
omit [∀ E,Rp (I E)] in
theorem b7N:∀ {ks:List K} {ps:List (PV I)} {x:a36 I ks} {ls:List Nat} {rows:List (Option Nat)},a7q tb O ks ps=some (x,ls,rows)->∀ l,some l∈rows->∃ o:Ob I,O l=some (some o)/\b46 o=true
 | [],[],_,_,_,h=>by cases h; exact fun l hl=>by simp at hl
 | [_],[_],_,_,_,h=>b4C h
 | k::k'::ks,p::ps,_,_,_,h=>by
   obtain ⟨y,hy,h⟩:=bind_some h
   obtain ⟨z,hz,h⟩:=bind_some h
   cases h
   intro l hl
   rcases d8y.1 hl with hl | hl
   ·exact b4C (ls:=y.2.1) (rows:=y.2.2) hy l hl
   ·exact b7N (ls:=z.2.1) (rows:=z.2.2) hz l hl
 | [],_::_,_,_,_,h=>by simp [a7q] at h
 | [_],[],_,_,_,h=>by simp [a7q] at h
 | [_],_::_::_,_,_,_,h=>by simp [a7q] at h
 | _::_::_,[],_,_,_,h=>by simp [a7q] at h
omit [∀ E,Rp (I E)] in
theorem b4t {k:V}{p:PV I}{x:TyV I k}{ls:List Nat}{rows:List (Option Nat)}(h:c0F tb O k p=some (x,ls,rows)):∀ l,some l∈rows->∃ o:Ob I,O l=some (some o)/\b46 o=true:=by
 unfold c0F at h
 split at h
 ·exact b4C h
 ·obtain ⟨_,h1⟩:=j8 h
  obtain ⟨ls',_,h2⟩:=bind_some h1
  exact b7N h2
 ·obtain ⟨_,h1⟩:=j8 h
  obtain ⟨ls',_,h2⟩:=bind_some h1
  exact b7N h2
 ·cases h
omit [∀ E,Rp (I E)] in
theorem b4F:∀ {ks:List V} {ps:List (PV I)} {x:TyT I ks} {ls:List Nat} {rows:List (Option Nat)},a3D tb O ks ps=some (x,ls,rows)->∀ l,some l∈rows->∃ o:Ob I,O l=some (some o)/\b46 o=true
 | [],[],_,_,_,h=>by cases h; exact fun l hl=>by simp at hl
 | [_],[_],_,_,_,h=>b4t h
 | k::k'::ks,p::ps,_,_,_,h=>by
   obtain ⟨y,hy,h⟩:=bind_some h
   obtain ⟨z,hz,h⟩:=bind_some h
   cases h
   intro l hl
   rcases d8y.1 hl with hl | hl
   ·exact b4t (ls:=y.2.1) (rows:=y.2.2) hy l hl
   ·exact b4F (ls:=z.2.1) (rows:=z.2.2) hz l hl
 | [],_::_,_,_,_,h=>by simp [a3D] at h
 | [_],[],_,_,_,h=>by simp [a3D] at h
 | [_],_::_::_,_,_,_,h=>by simp [a3D] at h
 | _::_::_,[],_,_,_,h=>by simp [a3D] at h
def a7D (τ:S)(cb:Cx)(O0:Obs I):List (Nat×V)->List Nat->List Value->Prop
 | [],[],us=>us=[]
 | x::r,l::ls,us=>∃ u us' b T vs w cs,us=u::us'/\O0 l=some (some (.var T vs w))/\cb l=some ⟨some ⟨b,0,none⟩,0,0,some b⟩/\τ.w.heap[b]?=some (.cells cs.toArray T (0,0))/\(τ.L b).1=0 /\
    (bif a8p x.2 then u=.agg cs.toArray else cs=[u])/\a7D τ cb O0 r ls us'
 | _,_,_=>False
structure Facts (M:Nat->Prop)(τ:S)(cb:Cx)(O0:Obs I)(F:Fr)(S W:List (Nat×V))(wl:List Nat)(x:TyN I S W)(pls:List Pl)(us:List Value):Prop where
 tt:TT τ (tyN S W) x (S.map (fun y=>F y.1)++us) pls
 cont:a7D τ cb O0 W wl us
 nodup:(ows pls).Nodup
 own:∀ g∈ows pls,M g/\∀ l∈wl,∀ p,cb l=some p->p.w≠some g
 wown:∀ l∈wl,∀ p g,cb l=some p->p.w=some g->M g
theorem a6R {pubs:List Nat}:∀ {rows:List (Option Nat)},a72 pubs rows=true->(rows.filterMap id).Nodup/\∀ l,some l∈rows->l ∉ pubs
 | [],_=>⟨by simp,fun l h=>by simp at h⟩
 | none::r,h=>by
   obtain ⟨h1,h2⟩:=a6R (rows:=r) h
   exact ⟨by simpa using h1,fun l hl=>h2 l (by simpa using hl)⟩
 | some l::r,h=>by
   simp only [a72,d8p] at h
   obtain ⟨⟨a1,a3⟩,a4⟩:=h
   obtain ⟨h1,h2⟩:=a6R (rows:=r) a4
   refine ⟨?_,fun l' hl'=>?_⟩
   ·simp only [d8X,id]
    refine d9T.2 ⟨fun hm=>?_,h1⟩
    have hm':some l∈r:=by simpa [d95] using hm
    have:=(d8q.1 a3) _ hm'
    simp at this
   ·rcases d8A.1 hl' with e | hl'
    ·cases e
     exact a1v.1 (by simpa using a1)
    ·exact h2 l' hl'
theorem b9U (h:Rel X c σ s n F):∀ {S:List (Nat×V)} {ps:List (PV I)},c4A s S=some ps->RVs X c σ ps (S.map fun x=>F x.1)
 | [],_,e=>by cases e; simp [RVs]
 | x::r,_,e=>by
   obtain ⟨p,hp,e⟩:=bind_some e
   obtain ⟨ps,hps,e⟩:=bind_some e
   cases e
   simp only [d8O,RVs]
   exact ⟨_,_,rfl,h.frame _ _ hp,b9U h hps⟩
theorem c71 {cb:Cx}{O0:Obs I}(h:Rel X c σ s n F):∀ {W:List (Nat×V)} {wl:List Nat} {ps:List (PV I)},c1a O0 s W wl=some ps->(∀ l∈wl,c l=cb l) ->
 ∃ us,RVs X c σ ps us/\a7D σ cb O0 W wl us/\∀ l∈wl,Y7 s l/\(∃ T vs w,s.O l=some (some (.var T vs w)))/\O0 l≠none
 | [],[],_,e,_=>by cases e; exact ⟨[],by simp [RVs],rfl,fun l hl=>by cases hl⟩
 | x::r,l::ls,_,e,hle=>by
   unfold c1a at e
   split at e
   ·rename_i T vs T0 vs0 w0 ho ho0
    obtain ⟨hb,e2⟩:=j8 e
    clear e
    have eT:=d8s hb
    subst eT
    obtain ⟨p,hp,e3⟩:=bind_some e2
    clear e2
    obtain ⟨ps,hps,e4⟩:=bind_some e3
    clear e3
    cases e4
    obtain ⟨us,h1,h2,h3⟩:=c71 h hps (fun l' hl'=>hle l' (by simp [hl']))
    obtain ⟨b,cs,k1,k2,k3,k4,_⟩:=h.objs l _ ho
    have hcb:cb l=some ⟨some ⟨b,0,none⟩,0,0,some b⟩:=(hle l (by simp)).symm.trans k1
    have hcont:∃ u,RV X c σ p u/\(bif a8p x.2 then u=.agg cs.toArray else cs=[u]):=by
     unfold c0U at hp
     cases ha:a8p x.2 with
     | true =>
       rw [ha] at hp
       cases hp
       exact ⟨.agg cs.toArray,a8i k2,rfl⟩
     | false =>
       rw [ha] at hp
       simp only [cond_false] at hp
       split at hp
       ·rename_i p0
        cases hd0:a6H p0 with
        | true=>rw [hd0] at hp; cases hp
        | false =>
          rw [hd0] at hp
          cases hp
          simp only [RG] at k2
          obtain ⟨a,r',rfl,hv,rfl⟩:=k2
          rcases hv with hv | ⟨_,v,rfl,hv⟩
          ·exact (by cases p<;>first | exact hv.elim | cases hd0)
          ·exact ⟨v,hv,rfl⟩
       ·cases hp
    obtain ⟨u,hu,hu2⟩:=hcont
    refine ⟨u::us,by simp only [RVs]; exact ⟨u,us,rfl,hu,h1⟩,⟨u,us,b,_,_,_,cs,rfl,ho0,hcb,k3,k4 rfl,hu2,h2⟩,fun l' hl'=>?_⟩
    rcases d8A.1 hl' with rfl | hl'
    ·exact ⟨⟨_,ho⟩,⟨_,_,_,ho⟩,by rw [ho0]; simp⟩
    ·exact h3 l' hl'
   ·cases e
 | [],_::_,_,e,_=>by simp [c1a] at e
 | _::_,[],_,e,_=>by simp [c1a] at e
theorem At.mem:∀ {rows:List (Option Nat)} {pls:List Pl},At c rows pls->∀ g∈ows pls,∃ l p,some l∈rows/\c l=some p/\p.w=some g
 | [],_,h,g,hg=>by cases h; simp [ows] at hg
 | r::rs,_,⟨p,ps,e,h1,h2⟩,g,hg=>by
   subst e
   simp only [ows,d8X] at hg
   cases hw:p.w with
   | none =>
     rw [hw] at hg
     obtain ⟨l,q,a,b⟩:=At.mem h2 g hg
     exact ⟨l,q,by simp [a],b⟩
   | some g' =>
     rw [hw] at hg
     rcases d8A.1 hg with rfl | hg
     ·cases r with
      | none=>simp only at h1; rw [h1] at hw; cases hw
      | some l=>exact ⟨l,p,by simp,h1,hw⟩
     ·obtain ⟨l,q,a,b⟩:=At.mem h2 g hg
      exact ⟨l,q,by simp [a],b⟩
theorem At.nodup (h:Rel X c σ s n F):∀ {rows:List (Option Nat)} {pls:List Pl},At c rows pls->(rows.filterMap id).Nodup->(∀ l,some l∈rows->Y7 s l)->(ows pls).Nodup
 | [],_,e,_,_=>by cases e; simp [ows]
 | r::rs,_,⟨p,ps,e,h1,h2⟩,hn,hl=>by
   subst e
   have hn':(rs.filterMap id).Nodup:=by
    cases r with
    | none=>simpa using hn
    | some l=>simp only [d8X,id] at hn; exact (d9T.1 hn).2
   have ih:=At.nodup h h2 hn' (fun l hm=>hl l (by simp [hm]))
   simp only [ows,d8X]
   cases hw:p.w with
   | none=>exact ih
   | some g =>
     refine d9T.2 ⟨fun hg=>?_,ih⟩
     obtain ⟨l',q,a1,a2,a3⟩:=At.mem h2 g hg
     cases r with
     | none=>simp only at h1; rw [h1] at hw; cases hw
     | some l =>
       have e:=h.inj l l' p q g (hl l (by simp)) (hl l' (by simp [a1])) h1 a2 hw a3
       subst e
       simp only [d8X,id] at hn
       exact (d9T.1 hn).1 (by simpa [d95] using a1)
theorem c58 (ht:TabOk P tb)(h:Rel X c σ s n F){cb:Cx}{O0:Obs I}{S W:List (Nat×V)}{wl:List Nat}(hle:∀ l∈wl,c l=cb l){x:TyN I S W}(hg:b4X tb O0 S W wl s=some x) :
 ∃ τ pls us,(τ.w=σ.w/\Stp X.M σ τ/\Facts X.M τ cb O0 F S W wl x pls us)/\∃ ls,Rel X c τ (Z8 s s.O ls) n F/\(∀ g∈ows pls,∃ l p,(∃ o:Ob I,(Z8 s s.O ls).O l=some (some o)/\b46 o=true)/\c l=some p/\p.w=some g)/\(∀ l∈wl,∃ T vs w,s.O l=some (some (.var T vs w)))/\∀ l o,s.O l=some (some o)->(∀ E (xs:List (I E)),o≠.row E xs false)->(Z8 s s.O ls).O l=some (some o):=by
 obtain ⟨a,ha,hg⟩:=bind_some hg
 obtain ⟨b,hb,hg⟩:=bind_some hg
 obtain ⟨y,hy,hg⟩:=bind_some hg
 obtain ⟨hr,hg⟩:=j8 hg
 cases hg
 obtain ⟨τ,h1,h2,h3,h4,h5,h6⟩:=h.pubs (O:=s.O) (fun _ _ h=>h) y.2.1
 obtain ⟨r1,r2w⟩:=a6R hr
 have r2:∀ l,some l∈y.2.2->l ∉ y.2.1:=fun l hl hm=>r2w l hl (d9M _ hm)
 obtain ⟨us,u1,u2,u3⟩:=c71 h hb hle
 have hRV:=RVs.step h2 _ _ (RVs.app _ _ _ _ (b9U h ha) u1)
 obtain ⟨pls,t1,t2⟩:=b2k ht h4 h5 (ls:=y.2.1) (rows:=y.2.2) hy (fun l hl=>hl) (fun l hl=>r2 l hl) hRV
 have hlive:=b4F (ls:=y.2.1) (rows:=y.2.2) hy
 have hl3:∀ l,some l∈y.2.2->Y7 (Z8 s s.O y.2.1) l:=fun l hl=>by
  obtain ⟨o,ho,_⟩:=hlive l hl
  exact ⟨_,(h6 l (r2 l hl)).trans ho⟩
 have hcont:a7D τ cb O0 W wl us:=by
  have key:∀ {W:List (Nat×V)} {wl':List Nat} {us:List Value},(∀ l∈wl',l∈wl/\Y7 s l/\(∃ T vs w,s.O l=some (some (.var T vs w)))/\O0 l≠none)->a7D σ cb O0 W wl' us->a7D τ cb O0 W wl' us:=by
   intro W
   induction W with
   | nil =>
     intro wl' us _ hc
     cases wl' with
     | nil=>exact hc
     | cons=>exact hc.elim
   | cons w r ih =>
     intro wl' us hw hc
     cases wl' with
     | nil=>exact hc.elim
     | cons l ls =>
       obtain ⟨u,us',b,T,vs,w',cs,e1,e2,e3,e4,e5,e6,e7⟩:=hc
       have hl0:=(hw l (by simp)).1
       have hvar:∃ T vs w,(Z8 s s.O y.2.1).O l=some (some (.var T vs w)):=by
        obtain ⟨_,_,⟨T1,vs1,w1,ho⟩,_⟩:=hw l (by simp)
        refine ⟨T1,vs1,w1,?_⟩
        show apU s.O (Q3 s.O y.2.1) l=_
        rw [a3d,ho]
        intro hm
        have hp:∀ {ls:List Nat},l∈a0S (Q3 s.O ls)->∃ E,∃ xs:List (I E),s.O l=some (some (.row E xs false)):=by
         intro ls
         induction ls with
         | nil=>intro h; simp [Q3,a0S] at h
         | cons a r ih =>
           intro h
           simp only [Q3] at h
           split at h
           ·rename_i E xs e
            simp only [a0S,d8O,d8A] at h
            rcases h with rfl | h
            ·exact ⟨E,xs,e⟩
            ·exact ih h
           ·exact ih h
        obtain ⟨E,xs,e⟩:=hp hm
        rw [ho] at e; cases e
       obtain ⟨T2,vs2,w2,ho2⟩:=hvar
       obtain ⟨b2,cs2,k1,k2,k3,k4,k5⟩:=h3.objs l _ ho2
       have hcl:=(hle l hl0).trans e3
       rw [k1] at hcl
       have hb2:b2=b/\w2=true:=by
        injection hcl with q
        injection q with q1 q2 q3 q4
        injection q1 with q5
        injection q5 with q6
        refine ⟨q6,?_⟩
        cases w2
        ·cases q4
        ·rfl
       obtain ⟨rfl,rfl⟩:=hb2
       exact ⟨u,us',b2,T,vs,w',cs,e1,e2,e3,by rw [h1]; exact e4,k4 rfl,e6,ih (fun l' hl'=>hw l' (by simp [hl'])) e7⟩
  exact key (fun l hl=>⟨hl,u3 l hl⟩) u2
 refine ⟨τ,pls,us,⟨h1,h2,t1,hcont,At.nodup h3 t2 r1 hl3,fun g hg=>?_,fun l hl p g hc hw=>?_⟩,y.2.1,h3,fun g hg=>?_,fun l hl=>(u3 l hl).2.1,fun l o e hne=>?_⟩
 ·obtain ⟨l,p,a1,a2,a3⟩:=t2.mem g hg
  refine ⟨h3.mine l p g (hl3 l a1) a2 a3,fun l' hl' p' hc' hw'=>?_⟩
  have e:=h.inj l l' p p' g (by obtain ⟨o,ho,_⟩:=hlive l a1; exact ⟨_,ho⟩) (u3 l' hl').1 a2 ((hle l' hl').trans hc') a3 hw'
  subst e
  obtain ⟨o,ho,hrm⟩:=hlive l a1
  obtain ⟨_,⟨T,vs,w,ho'⟩,_⟩:=u3 l hl'
  exact r2w l a1 (d9G _ hl')
 ·exact h.mine l p g (u3 l hl).1 ((hle l hl).trans hc) hw
 ·obtain ⟨l,p,a1,a2,a3⟩:=t2.mem g hg
  obtain ⟨o,ho,hrm⟩:=hlive l a1
  exact ⟨l,p,⟨o,(h6 l (r2 l a1)).trans ho,hrm⟩,a2,a3⟩
 ·show apU s.O (Q3 s.O y.2.1) l=_
  rw [a3d,e]
  intro hm
  have hp:∀ {ls:List Nat},l∈a0S (Q3 s.O ls)->∃ E,∃ xs:List (I E),s.O l=some (some (.row E xs false)):=by
   intro ls
   induction ls with
   | nil=>intro h; simp [Q3,a0S] at h
   | cons a r ih =>
     intro h
     simp only [Q3] at h
     split at h
     ·rename_i E xs e
      simp only [a0S,d8O,d8A] at h
      rcases h with rfl | h
      ·exact ⟨E,xs,e⟩
      ·exact ih h
     ·exact ih h
  obtain ⟨E1,xs1,e1⟩:=hp hm
  rw [e] at e1
  cases e1
  exact hne _ _ rfl
theorem c9i (ht:TabOk P tb)(h:Rel X c σ s n F){cb:Cx}{O0:Obs I}{S W:List (Nat×V)}{wl:List Nat}(hle:∀ l∈wl,c l=cb l){x:TyN I S W}(hg:b4X tb O0 S W wl s=some x) :
 ∃ τ pls us,τ.w=σ.w/\Stp X.M σ τ/\Facts X.M τ cb O0 F S W wl x pls us:=by
 obtain ⟨τ,pls,us,h1,_⟩:=c58 ht h hle hg
 exact ⟨τ,pls,us,h1⟩
end
end Go.Qx
end
section
open List renaming getElem?_append_right->d8z,getElem?_drop->d9e,getElem?_eq_getElem->d8n,getElem?_map->d9i,getElem_mem->d8B,length_cons->d8v,length_map->d8L,mem_append->d8y,mem_cons->d8A
open Nat renaming add_sub_cancel_left->d9a,le_refl->d8r,le_trans->d8C,testBit->d9J
open Option renaming map_eq_some_iff->d9f
namespace Go.Qx
open Go Go.RowKit Go.Sx
section
variable {I:TypeId->Type} [∀ E,Rp (I E)] {P:Program}{tb:Tab I}{X X':Cxt}{c c' cb:Cx}{σ σ0 τ:S}{s sb:St I}{n:Nat}{F F0 F':Fr}{O:Obs I}
omit [∀ E,Rp (I E)] in
theorem Q6 {ls:List Nat}{l:Nat}{o:Ob I}(h:J0 ls O l=some (some o)):l ∉ ls/\O l=some (some o):=by
 unfold J0 at h
 cases hm:W5 l ls with
 | true =>
   rw [hm] at h
   simp only [cond_true] at h
   split at h<;>cases h
 | false=>rw [hm] at h; exact ⟨a1v.1 hm,h⟩
omit [∀ E,Rp (I E)] in
theorem a2W {ls:List Nat}{l:Nat}:J0 ls O l=none↔O l=none:=by
 unfold J0
 cases W5 l ls with
 | true =>
   simp only [cond_true]
   cases O l<;>simp
 | false=>exact Iff.rfl
omit [∀ E,Rp (I E)] in
theorem b7p {O0:Obs I}{l:Nat}{E E':TypeId}{u q:Nat}{zs:List (I E)}:∀ {W:List (Nat×V)} {wl:List Nat} {ps:List (PV I)} {O:Obs I},asgW O0 W wl ps O l=some (some (.nst E E' u zs q))->O l=some (some (.nst E E' u zs q))
 | [],_,_,_,h=>by unfold asgW at h; exact h
 | _::_,[],_,_,h=>by unfold asgW at h; exact h
 | _::_,_::_,[],_,h=>by unfold asgW at h; exact h
 | x::r,l0::ls,p::ps,O,h=>by
   have key:∀ y:Option (Option (Ob I)),(match y with
    | some (some (.var T _ w))=>asgW O0 r ls ps (upF O l0 (some (.var T (a7j x.2 p) w)))
    | _=>asgW O0 r ls ps O) l=some (some (.nst E E' u zs q))->O l=some (some (.nst E E' u zs q)):=by
    intro y h
    split at h
    ·have h1:=b7p h
     rcases Z2 h1 with ⟨_,e⟩ | ⟨_,h2⟩
     ·cases e
     ·exact h2
    ·exact b7p h
   exact key (O0 l0) h
omit [∀ E,Rp (I E)] in
theorem b3F {O0:Obs I}{l:Nat}:∀ {W:List (Nat×V)} {wl:List Nat} {ps:List (PV I)} {O:Obs I},l ∉ wl->asgW O0 W wl ps O l=O l
 | [],_,_,_,_=>by unfold asgW; rfl
 | _::_,[],_,_,_=>by unfold asgW; rfl
 | _::_,_::_,[],_,_=>by unfold asgW; rfl
 | x::r,l0::ls,p::ps,O,h=>by
   have hne:l≠l0:=fun e=>h (by simp [e])
   have hls:l ∉ ls:=fun e=>h (by simp [e])
   have key:∀ y:Option (Option (Ob I)),(match y with
    | some (some (.var T _ w))=>asgW O0 r ls ps (upF O l0 (some (.var T (a7j x.2 p) w)))
    | _=>asgW O0 r ls ps O) l=O l:=by
    intro y
    split
    ·rw [b3F hls,J2 hne]
    ·exact b3F hls
   exact key (O0 l0)
theorem Rel.asgW (ht:TabOk P tb){c4:Cx}{pls:List Pl}(hb:Rel X cb σ0 sb n F0):∀ {W:List (Nat×V)} {wl:List Nat} {us:List Value} {ps:List (PV I)} {s:St I},Rel X c4 τ s n F->a7D τ cb sb.O W wl us->RVs X c4 τ ps us ->
 (∀ (i:Nat) (x:Nat×V) (p:PV I),W[i]?=some x->ps[i]?=some p->a8p x.2=true->(∃ ls:List (PV I),p=PV.agg ls)\/∃ E y,p=PV.dat E y)->(∀ (i:Nat) (x:Nat×V) (p:PV I),W[i]?=some x->ps[i]?=some p->a8p x.2=false->a6H p=false)->(∀ l∈wl,c4 l=cb l)->(∀ l∈wl,∀ p g,cb l=some p->p.w=some g->X.M g)->(∀ l',Y7 s l'->(Y7 sb l'/\c4 l'=cb l')\/∃ pl∈pls,c4 l'=some pl) ->
 (∀ l∈wl,∀ p,cb l=some p->∀ g,p.w=some g->g ∉ ows pls)->(∀ l∈wl,∀ p,cb l=some p->∀ g,p.w=some g->notIn c4 τ s g)->Rel X c4 τ ⟨s.n,s.F,Qx.asgW sb.O W wl ps s.O,s.nx⟩ n F
 | [],[],_,ps,s,h,_,_,_,_,_,_,_,_,_=>by cases ps<;>exact h
 | [],_::_,_,_,_,_,hc,_,_,_,_,_,_,_,_=>hc.elim
 | _::_,[],_,_,_,_,hc,_,_,_,_,_,_,_,_=>hc.elim
 | x::r,l::ls,us,ps,s,h,hc,hv,hp,hp2,hcc,hM,hl,hn,hni=>by
   obtain ⟨u,us',b,T,vs,w,cs,e1,e2,e3,e4,e5,e6,e7⟩:=hc
   subst e1
   cases ps with
   | nil=>simp only [RVs] at hv; cases hv
   | cons p ps =>
     simp only [RVs] at hv
     obtain ⟨v,r',e,hv1,hv2⟩:=hv
     cases e
     have hw:w=true:=by
      obtain ⟨b',cs',k1,_⟩:=hb.objs l _ e2
      rw [k1] at e3
      injection e3 with q
      injection q with q1 q2 q3 q4
      cases w
      ·cases q4
      ·rfl
     subst hw
     have hcl:c4 l=some ⟨some ⟨b,0,none⟩,0,0,some b⟩:=(hcc l (by simp)).trans e3
     have hnd:a8p x.2=false->a6H p=false:=fun ha=>hp2 0 x p rfl rfl ha
     have hcont:RG X c4 τ (a7j x.2 p) cs:=by
      unfold a7j
      cases ha:a8p x.2 with
      | true =>
        rw [ha] at e6
        simp only [cond_true] at e6 ⊢
        subst e6
        rcases hp 0 x p rfl rfl ha with ⟨ls',rfl⟩ | ⟨E',y',rfl⟩
        ·simp only [RV] at hv1
         obtain ⟨cs',q1,q2⟩:=hv1
         have:cs=cs':=by
          injection q1 with q1
          have:=congrArg Array.toList q1
          simpa using this
         rw [this]; exact q2
        ·simp only [RV] at hv1
         obtain ⟨cs',q1,q2⟩:=hv1
         have:cs=cs':=by
          injection q1 with q1
          have:=congrArg Array.toList q1
          simpa using this
         rw [this]; exact RG.one q2
      | false =>
        rw [ha] at e6
        simp only [cond_false] at e6 ⊢
        subst e6
        exact RG.single (hnd ha) hv1
     have hrev:Rel X c4 τ (Y5 s l (some (.var T (a7j x.2 p) true))) n F:=by
      refine h.revive ⟨b,cs,hcl,hcont,e4,(fun _=>e5),fun e=>by cases e⟩ fun q g hq hg=>?_
      rw [hcl] at hq
      cases hq
      cases hg
      refine ⟨hM l (by simp) _ b e3 rfl,hni l (by simp) _ e3 b rfl,fun l' p' hne hlv hc' hw'=>?_⟩
      rcases hl l' hlv with ⟨k1,k2⟩ | ⟨pl,k1,k2⟩
      ·rw [k2] at hc'
       exact hne (hb.inj l' l p' _ b k1 ⟨_,e2⟩ hc' e3 hw' rfl)
      ·rw [k2] at hc'
       cases hc'
       exact hn l (by simp) _ e3 b rfl (b2p.2 ⟨_,k1,hw'⟩)
     have:=Rel.asgW ht (pls:=pls) hb (W:=r) (wl:=ls) (ps:=ps) hrev e7 hv2 (fun i y q h1 h2=>hp (i+1) y q (by simpa using h1) (by simpa using h2)) (fun i y q h1 h2=>hp2 (i+1) y q (by simpa using h1) (by simpa using h2)) (fun l' hl'=>hcc l' (by simp [hl'])) (fun l' hl'=>hM l' (by simp [hl'])) (fun l' hlv=>by
      obtain ⟨o,ho⟩:=hlv
      rcases Z2 ho with ⟨e,_⟩ | ⟨_,h'⟩
      ·subst e
       exact .inl ⟨⟨_,e2⟩,hcl.trans e3.symm⟩
      ·exact hl l' ⟨o,h'⟩) (fun l' hl'=>hn l' (by simp [hl'])) (fun l' hl' p' hp' g' hg'=>(hni l' (by simp [hl']) p' hp' g' hg').set)
     simp only [Qx.asgW,e2]
     exact this
omit [∀ E,Rp (I E)] in
theorem c0V {nb:Nat}{v:V}{x:TyV I v}(h:a8p v=true):(∃ ls,pvV tb nb v x=.agg ls)\/∃ E y,pvV tb nb v x=.dat E y:=by
 cases v with
 | k k =>
   cases k with
   | d k =>
     cases k with
     | dat E=>exact .inr ⟨E,x,rfl⟩
     | _=>cases h
   | row E fl=>cases h
   | map T kd=>cases h
   | pv T=>cases h
 | lvs ks=>exact .inl ⟨_,rfl⟩
omit [∀ E,Rp (I E)] in
theorem c09 {nb:Nat}{v:V}{x:TyV I v}(h:a8p v=false):a6H (pvV tb nb v x)=false:=by
 cases v with
 | k k =>
   cases k with
   | d k =>
     cases k with
     | dat E=>cases h
     | _=>rfl
   | row E fl=>rfl
   | map T kd=>rfl
   | pv T=>rfl
 | lvs ks=>cases h
omit [∀ E,Rp (I E)] in
theorem c3x:∀ {vs:List V} {nb:Nat} {x:TyT I vs} {i:Nat} {v:V} {p:PV I},vs[i]?=some v->(pvT tb nb vs x)[i]?=some p->∃ nb' y,p=pvV tb nb' v y
 | [],_,_,_,_,_,h,_=>by simp at h
 | [_],nb,x,0,_,_,h1,h2=>by
   simp [pvT] at h1 h2
   subst h1; subst h2
   exact ⟨_,_,rfl⟩
 | [_],_,_,_+1,_,_,h1,_=>by simp at h1
 | v::v'::vs,nb,x,0,_,_,h1,h2=>by
   simp [pvT] at h1 h2
   subst h1; subst h2
   exact ⟨_,_,rfl⟩
 | v::v'::vs,nb,x,i+1,_,_,h1,h2=>c3x (vs:=v'::vs) (x:=x.2) (by simpa using h1) (by simpa [pvT] using h2)
theorem d2A (ht:TabOk P tb)(hb:Rel X cb σ0 sb n F0){G:Nat->Prop}(st:Stp G σ0 τ)(hG:∀ b,G b->X.M b){m:Nat}(hF:∀ i,d9J m i=false->F i=F0 i){dead wl:List Nat}{S W:List (Nat×V)}{x:TyN I S W}{pls:List Pl}{us:List Value}
 (hkeep:∀ l p g,Y7 sb l->l ∉ wl->l ∉ dead->cb l=some p->p.w=some g->¬ G g) (hkeepN:∀ l i g,l ∉ wl->l ∉ dead->InB cb σ0 sb.O l i g->¬ G g) (hf:Facts G τ cb sb.O F S W wl x pls us) (hfree:a2A sb.O sb.nx (obT (tyN S W) x)=true) :
 Cx.le cb (V6 cb sb.nx pls)/\Rel X (V6 cb sb.nx pls) τ (nfS tb sb m dead S W wl x) n F/\(∀ g,G g->notIn (V6 cb sb.nx pls) τ (nfS tb sb m dead S W wl x) g) /\
  (∀ l,Y7 (nfS tb sb m dead S W wl x) l->l∈wl\/(sb.O l=none/\∃ pl∈pls,V6 cb sb.nx pls l=some pl)\/(Y7 sb l/\l ∉ wl/\l ∉ dead))/\∀ l,sb.O l≠none->V6 cb sb.nx pls l=cb l:=by
 have h1:Rel X cb σ0 ⟨sb.n,b7E m sb.F,J0 (wl++dead) sb.O,sb.nx⟩ n F :=
  (hb.less (O':=J0 (wl++dead) sb.O) (fun l o h=>(Q6 h).2) (fun l h=>a2W.1 h)).frameEq fun i p hp=>by
    unfold b7E at hp
    cases hm:d9J m i with
    | true=>rw [hm] at hp; cases hp
    | false=>rw [hm] at hp; exact ⟨hp,hF i hm⟩
 have hn1:∀ l p g,Y7 (⟨sb.n,b7E m sb.F,J0 (wl++dead) sb.O,sb.nx⟩:St I) l->cb l=some p->p.w=some g->¬ G g:=fun l p g ⟨o,ho⟩ hc hw=>by
  obtain ⟨k1,k2⟩:=Q6 ho
  rw [d8y,not_or] at k1
  exact hkeep l p g ⟨o,k2⟩ k1.1 k1.2 hc hw
 have hi1:∀ g,G g->notIn cb σ0 (⟨sb.n,b7E m sb.F,J0 (wl++dead) sb.O,sb.nx⟩:St I) g:=fun g hg l i ⟨E',v,⟨E,u,xs,q,g',kk,m',w,k1,k2⟩,k3⟩=>by
  obtain ⟨z1,z2⟩:=Q6 k1
  rw [d8y,not_or] at z1
  exact hkeepN l i g z1.1 z1.2 ⟨E',v,⟨E,u,xs,q,g',kk,m',w,z2,k2⟩,k3⟩ hg
 have h2:Rel X cb τ ⟨sb.n,b7E m sb.F,J0 (wl++dead) sb.O,sb.nx⟩ n F:=h1.stepG st hG hn1 hi1
 have hfree':a2A (J0 (wl++dead) sb.O) sb.nx (obT (tyN S W) x)=true:=by
  rw [a1D] at hfree ⊢
  exact fun l hl=>a2W.2 (hfree l hl)
 obtain ⟨h3,h4⟩:=Rel.addN h2 hfree' (a84 hf.tt) hf.nodup fun g hg=>⟨hG g (hf.own g hg).1,(hi1 g (hf.own g hg).1).step h1 st hn1 hi1,fun l p ⟨o,ho⟩ hc hw=>by
  obtain ⟨k1,k2⟩:=Q6 ho
  rw [d8y,not_or] at k1
  exact hkeep l p g ⟨o,k2⟩ k1.1 k1.2 hc hw (hf.own g hg).1⟩
 refine ⟨h3,?_⟩
 have hnoN:∀ l E E' u zs q,(nfS tb sb m dead S W wl x).O l=some (some (.nst E E' u zs q))->J0 (wl++dead) sb.O l=some (some (.nst E E' u zs q)):=fun l E E' u zs q e=>a40 (a84 hf.tt).not _ _ _ _ _ _ (b7p e)
 obtain ⟨hps,hlen⟩:=b6l (X:=X) (c:=V6 cb sb.nx pls) (nb:=sb.nx) ht hf.tt a1c
 have hSlen:(S.map fun y=>F y.1).length=S.length:=by simp
 have htk:=RVs.take S.length _ _ hps
 have hdr:=RVs.drop S.length _ _ hps
 rw [List.take_left' hSlen] at htk
 rw [List.drop_left' hSlen] at hdr
 have hold:∀ l,sb.O l≠none->V6 cb sb.nx pls l=cb l:=fun l hl=>by
  have hob:=a84 hf.tt
  have key:∀ {ps:List Pl} {c:Cx} {nb:Nat},(l<nb\/nb+ps.length<=l)->V6 c nb ps l=c l:=by
   intro ps
   induction ps with
   | nil=>intro c nb _; rfl
   | cons p ps ih =>
     intro c nb h
     simp only [V6]
     rw [ih (by simp only [d8v] at h; omega)]
     have:l≠nb:=by simp only [d8v] at h; omega
     simp [a0D,this]
  apply key
  apply Classical.byContradiction
  intro hn
  rw [not_or] at hn
  rw [a1D] at hfree
  exact hl (hfree l (a1o.2 ⟨by omega,by rw [hob.1]; omega⟩))
 have hwown:∀ {W:List (Nat×V)} {wl:List Nat} {us:List Value},a7D τ cb sb.O W wl us->∀ l∈wl,Y7 sb l:=by
  intro W
  induction W with
  | nil =>
    intro wl us hc l hl
    cases wl with
    | nil=>cases hl
    | cons=>exact hc.elim
  | cons w r ih =>
    intro wl us hc l hl
    cases wl with
    | nil=>exact hc.elim
    | cons a d8k =>
      obtain ⟨u,us',b,T,vs,w',cs,e1,e2,e3,e4,e5,e6,e7⟩:=hc
      rcases d8A.1 hl with rfl | hl
      ·exact ⟨_,e2⟩
      ·exact ih e7 l hl
 have hwlive:∀ {W:List (Nat×V)} {wl:List Nat} {us:List Value},a7D τ cb sb.O W wl us->∀ l∈wl,sb.O l≠none:=by
  intro W
  induction W with
  | nil =>
    intro wl us hc l hl
    cases wl with
    | nil=>cases hl
    | cons=>exact hc.elim
  | cons w r ih =>
    intro wl us hc l hl
    cases wl with
    | nil=>exact hc.elim
    | cons a d8k =>
      obtain ⟨u,us',b,T,vs,w',cs,e1,e2,e3,e4,e5,e6,e7⟩:=hc
      rcases d8A.1 hl with rfl | hl
      ·rw [e2]; simp
      ·exact ih e7 l hl
 have hat:∀ (i:Nat) (y:Nat×V) (p:PV I),W[i]?=some y->((pvT tb sb.nx (tyN S W) x).drop S.length)[i]?=some p->∃ nb' z,p=pvV tb nb' y.2 z:=fun i y p hi hp=>by
  refine c3x (tb:=tb) (vs:=tyN S W) (nb:=sb.nx) (x:=x) (i:=S.length+i) (v:=y.2) ?_ ?_
  ·rw [d8z (by simp),d8L,d9a,d9i,hi]; rfl
  ·rw [d9e] at hp; exact hp
 have h5:=Rel.asgW (pls:=pls) ht hb h4 hf.cont hdr (fun i y p hi hp ha=>by
  obtain ⟨nb',z,e⟩:=hat i y p hi hp
  rw [e]; exact c0V ha) (fun i y p hi hp ha=>by
  obtain ⟨nb',z,e⟩:=hat i y p hi hp
  rw [e]; exact c09 ha)
  (fun l hl=>hold l (hwlive hf.cont l hl)) (fun l hl p g hp hg=>hG g (hf.wown l hl p g hp hg)) (fun l ⟨o,ho⟩=>by
    by_cases hr:l∈rng sb.nx (obT (tyN S W) x).length
    ·right
     obtain ⟨a1,a2⟩:=a1o.1 hr
     have hlt:l-sb.nx<pls.length:=by rw [<- (a84 hf.tt).1]; omega
     refine ⟨pls[l-sb.nx],d8B _,?_⟩
     have:=a1c (c:=cb) (nb:=sb.nx) (l-sb.nx) pls[l-sb.nx] (d8n hlt)
     rw [show sb.nx+(l-sb.nx)=l from by omega] at this
     exact this
    ·left
     have ho':a0d (J0 (wl++dead) sb.O) sb.nx (obT (tyN S W) x) l=some (some o):=ho
     rw [a0k hr] at ho'
     obtain ⟨_,k2⟩:=Q6 ho'
     exact ⟨⟨o,k2⟩,hold l (by rw [k2]; simp)⟩)
  (fun l hl p hp g hg hm=>(hf.own g hm).2 l hl p hp hg)
  (fun l hl p hp g hg=>(((hb.owned (hwown hf.cont l hl) hp hg).sub (fun l' E E' u xs q e=>(Q6 e).2)).step h1 st hn1 hi1).grow h2 h3 (a40 (a84 hf.tt).not))
 have h6:=Rel.asgS h5 htk
 refine ⟨⟨h6.len,h6.frame,h6.objs,h6.inj,h6.mine,h6.nom,h6.base,h6.nst⟩,fun g hg=>((hi1 g hg).step h1 st hn1 hi1).grow h2 h3 hnoN,fun l ⟨o,ho⟩=>?_,hold⟩
 by_cases hlw:l∈wl
 ·exact .inl hlw
 ·have ho':asgW sb.O W wl ((pvT tb sb.nx (tyN S W) x).drop S.length) (a0d (J0 (wl++dead) sb.O) sb.nx (obT (tyN S W) x)) l=some (some o):=ho
  rw [b3F hlw] at ho'
  by_cases hr:l∈rng sb.nx (obT (tyN S W) x).length
  ·right; left
   obtain ⟨a1,a2⟩:=a1o.1 hr
   have hlt:l-sb.nx<pls.length:=by rw [<- (a84 hf.tt).1]; omega
   refine ⟨(a1D.1 hfree) l hr,pls[l-sb.nx],d8B _,?_⟩
   have:=a1c (c:=cb) (nb:=sb.nx) (l-sb.nx) pls[l-sb.nx] (d8n hlt)
   rw [show sb.nx+(l-sb.nx)=l from by omega] at this
   exact this
  ·rw [a0k hr] at ho'
   obtain ⟨k1,k2⟩:=Q6 ho'
   rw [d8y,not_or] at k1
   exact .inr (.inr ⟨⟨o,k2⟩,k1.1,k1.2⟩)
theorem build (ht:TabOk P tb)(hb:Rel X cb σ0 sb n F0){G:Nat->Prop}(st:Stp G σ0 τ)(hG:∀ b,G b->X.M b){m:Nat}(hF:∀ i,d9J m i=false->F i=F0 i){dead wl:List Nat}{S W:List (Nat×V)}{x:TyN I S W}{pls:List Pl}{us:List Value}
 (hkeep:∀ l p g,Y7 sb l->l ∉ wl->l ∉ dead->cb l=some p->p.w=some g->¬ G g) (hkeepN:∀ l i g,l ∉ wl->l ∉ dead->InB cb σ0 sb.O l i g->¬ G g) (hf:Facts G τ cb sb.O F S W wl x pls us) (hfree:a2A sb.O sb.nx (obT (tyN S W) x)=true) :
 Cx.le cb (V6 cb sb.nx pls)/\Rel X (V6 cb sb.nx pls) τ (nfS tb sb m dead S W wl x) n F:=by
 obtain ⟨h1,h2,_⟩:=d2A (m:=m) ht hb st hG hF hkeep hkeepN hf hfree
 exact ⟨h1,h2⟩
def roC (own:List Nat)(c:Cx):Cx:=fun l=>bif W5 l own then c l else (c l).map fun p=>⟨p.A,p.k,p.m,none⟩
def K5 (X:Cxt)(c:Cx)(σ:S)(s:St I)(own:List Nat):Cxt:=⟨X.P,σ.N,fun b=>∃ l∈own,Y7 s l/\((∃ p,c l=some p/\p.w=some b)\/∃ i,InB c σ s.O l i b)⟩
mutual
theorem RV.conv (hP:X'.P=X.P)(hM:∀ b,X'.M b->X.M b)(hc:∀ l p,c l=some p->∃ w,c' l=some ⟨p.A,p.k,p.m,w⟩):∀ (p:PV I) (v:Value),RV X c σ p v->RV X' c' σ p v
 | .int _ _,_,h=>by simp only [RV] at h ⊢; exact h
 | .bool _,_,h=>by simp only [RV] at h ⊢; exact h
 | .str _,_,h=>by simp only [RV] at h ⊢; exact h
 | .sl _ _ _,_,h=>by simp only [RV] at h ⊢; exact h
 | .nl _,_,h=>by simp only [RV] at h ⊢; exact h
 | .ptr l _,_,h=>by
   simp only [RV] at h ⊢
   obtain ⟨b,w,h1,h2⟩:=h
   obtain ⟨w',h3⟩:=hc _ _ h1
   exact ⟨b,w',h3,h2⟩
 | .vw l,_,h=>by
   simp only [RV] at h ⊢
   obtain ⟨p,h1,h2⟩:=h
   obtain ⟨w',h3⟩:=hc _ _ h1
   exact ⟨_,h3,h2⟩
 | .vp l _ _ _,_,h=>by
   simp only [RV] at h ⊢
   obtain ⟨b,q,k,m,w,h1,h2⟩:=h
   obtain ⟨w',h3⟩:=hc _ _ h1
   exact ⟨b,q,k,m,w',h3,h2⟩
 | .vs l _ _,_,h=>by
   simp only [RV] at h ⊢
   obtain ⟨b,k,m,w,h1,h2⟩:=h
   obtain ⟨w',h3⟩:=hc _ _ h1
   exact ⟨b,k,m,w',h3,h2⟩
 | .av l _ _,_,h=>by
   simp only [RV] at h ⊢
   obtain ⟨b,k,m,w,h1,h2⟩:=h
   obtain ⟨w',h3⟩:=hc _ _ h1
   exact ⟨b,k,m,w',h3,h2⟩
 | .mp l,_,h=>by
   simp only [RV] at h ⊢
   obtain ⟨b,w,h1,h2⟩:=h
   obtain ⟨w',h3⟩:=hc _ _ h1
   exact ⟨b,w',h3,h2⟩
 | .ep _ _ _,_,h=>by simp only [RV] at h ⊢; exact h
 | .dat _ _,_,h=>by simp only [RV] at h ⊢; exact h
 | .clo _ ls,_,h=>by
   simp only [RV] at h ⊢
   obtain ⟨cs,e,hl⟩:=h
   exact ⟨cs,e,RVs.conv hP hM hc ls cs hl⟩
 | .mth _ ls,_,h=>by
   simp only [RV] at h ⊢
   obtain ⟨cs,e,hl⟩:=h
   exact ⟨cs,e,RVs.conv hP hM hc ls cs hl⟩
 | .fn _ _ _,_,h=>by
   simp only [RV] at h ⊢
   obtain ⟨f,d8k,cs,e,hf⟩:=h
   exact ⟨f,d8k,cs,e,by rw [hP]; exact hf.1,hf.2.1,fun τ hτ=>by rw [hP]; exact hf.2.2 τ (hτ.mono fun b _ hb=>hM b hb)⟩
 | .agg ls,_,h=>by
   simp only [RV] at h ⊢
   obtain ⟨cs,e,hl⟩:=h
   exact ⟨cs,e,RG.conv hP hM hc ls cs hl⟩
 | .tup ls,_,h=>by
   simp only [RV] at h ⊢
   obtain ⟨cs,e,hl⟩:=h
   exact ⟨cs,e,RVs.conv hP hM hc ls cs hl⟩
 | .undef,_,h=>by simp only [RV] at h ⊢; exact h
 | .any,_,_=>by simp only [RV]
theorem RVs.conv (hP:X'.P=X.P)(hM:∀ b,X'.M b->X.M b)(hc:∀ l p,c l=some p->∃ w,c' l=some ⟨p.A,p.k,p.m,w⟩):∀ (ps:List (PV I)) (cs:List Value),RVs X c σ ps cs->RVs X' c' σ ps cs
 | [],_,h=>by simp only [RVs] at h ⊢; exact h
 | p::ps,_,h=>by
   simp only [RVs] at h ⊢
   obtain ⟨v,r,e,h1,h2⟩:=h
   exact ⟨v,r,e,RV.conv hP hM hc p v h1,RVs.conv hP hM hc ps r h2⟩
theorem RG.conv (hP:X'.P=X.P)(hM:∀ b,X'.M b->X.M b)(hc:∀ l p,c l=some p->∃ w,c' l=some ⟨p.A,p.k,p.m,w⟩):∀ (ps:List (PV I)) (cs:List Value),RG X c σ ps cs->RG X' c' σ ps cs
 | [],_,h=>by simp only [RG] at h ⊢; exact h
 | p::ps,_,h=>by
   simp only [RG] at h ⊢
   obtain ⟨a,r,e,h1,h2⟩:=h
   refine ⟨a,r,e,?_,RG.conv hP hM hc ps r h2⟩
   rcases h1 with h1 | ⟨h0,v,e1,h1⟩
   ·exact .inl h1
   ·exact .inr ⟨h0,v,e1,RV.conv hP hM hc p v h1⟩
end
theorem a6Y (h:Rel X c σ s n F)(own:List Nat):∀ b,(K5 X c σ s own).M b->X.M b:=fun b hb=>by
 rcases hb with hb | ⟨l,_,hl,⟨p,hc,hw⟩ | ⟨i,hb⟩⟩
 ·exact .inl (d8C h.base.1 hb)
 ·exact h.mine l p b hl hc hw
 ·exact h.nst.mine l i b hb
theorem a9q (h:Rel X c σ s n F){own:List Nat}{l:Nat}{p:Pl}{g:Nat}(hl:Y7 s l)(hn:l ∉ own)(hc:c l=some p)(hw:p.w=some g):¬ (K5 X c σ s own).M g:=fun hb=>by
 obtain ⟨o,ho⟩:=hl
 have hlt:=(h.objs l o ho).lt hc hw
 rcases hb with hb | ⟨l',hl',hlv,⟨p',hc',hw'⟩ | ⟨i,hb⟩⟩
 ·have:σ.N<=g:=hb
  omega
 ·exact hn (by rw [h.inj l l' p p' g ⟨o,ho⟩ hlv hc hc' hw hw']; exact hl')
 ·exact h.nst.free l' i g hb l o p ho hc hw
theorem b5Q (h:Rel X c σ s n F){own:List Nat}{l i g:Nat}(hn:l ∉ own)(hb:InB c σ s.O l i g):¬ (K5 X c σ s own).M g:=fun hb'=>by
 have hlt:=h.nst.lt hb
 rcases hb' with hb' | ⟨l',hl',hlv,⟨p',hc',hw'⟩ | ⟨i',hb'⟩⟩
 ·have:σ.N<=g:=hb'
  omega
 ·obtain ⟨o,ho⟩:=hlv
  exact h.nst.free l i g hb l' o p' ho hc' hw'
 ·exact hn (by rw [(h.nst.inj l' i' g l i hb' hb).1]; exact hl')
omit [∀ E,Rp (I E)] in
theorem c99 {own:List Nat}{l:Nat}{E E':TypeId}{u q:Nat}{xs:List (I E)}(e:roO own O l=some (some (.nst E E' u xs q))):l∈own/\O l=some (some (.nst E E' u xs q)):=by
 unfold roO at e
 cases hm:W5 l own with
 | true=>rw [hm] at e; exact ⟨a0C.1 hm,e⟩
 | false =>
   rw [hm] at e
   simp only [cond_false] at e
   split at e<;>first | cases e | (rename_i e1 e2 e3 e4 e5; exact absurd e (e4 E E' u xs q))
theorem b9n {own:List Nat}{l i g:Nat}{c:Cx}(h:InB c σ (roS own s).O l i g):l∈own:=by
 obtain ⟨E',v,⟨E,u,xs,q,g',kk,m,w,k1,_⟩,_⟩:=h
 exact (c99 k1).1
theorem enter (h:Rel X c σ s n F)(own:List Nat):Rel (K5 X c σ s own) (roC own c) σ (roS own s) n F:=by
 have hcv:∀ l p,c l=some p->∃ w,roC own c l=some ⟨p.A,p.k,p.m,w⟩:=fun l p hp=>by
  unfold roC
  cases W5 l own with
  | true=>exact ⟨p.w,by simp only [cond_true,hp]⟩
  | false=>exact ⟨none,by simp only [cond_false,hp]; rfl⟩
 have hM:=a6Y h own
 have hcw:∀ {l p g},roC own c l=some p->p.w=some g->l∈own/\c l=some p:=fun {l p g} hc hw=>by
  unfold roC at hc
  cases hm:W5 l own with
  | true=>rw [hm] at hc; exact ⟨a0C.1 hm,hc⟩
  | false =>
    rw [hm] at hc
    simp only [cond_false,d9f] at hc
    obtain ⟨q,_,e⟩:=hc
    rw [<- e] at hw
    cases hw
 have hlv:∀ {l},l∈own->Y7 (roS own s) l->Y7 s l:=fun {l} hm ⟨o,ho⟩=>by
  refine ⟨o,?_⟩
  have ho':roO own s.O l=some (some o):=ho
  unfold roO at ho'
  rw [a0C.2 hm] at ho'
  exact ho'
 refine ⟨h.len,fun i p hp=>RV.conv (X:=X) (X':=K5 X c σ s own) (c:=c) rfl hM hcv p _ (h.frame i p hp),fun l o ho=>?_,fun l l' p p' b a1 a2 a3 a4 a5 a6=>?_,fun l p b a1 a2 a3=>?_,fun l hl=>?_,⟨d8r _,fun E=>d8C (h.base.2 E) h.base.1⟩,?_⟩
 ·have ho':roO own s.O l=some (some o):=ho
  unfold roO at ho'
  cases hm:W5 l own with
  | true =>
    rw [hm] at ho'
    simp only [cond_true] at ho'
    have hcl:roC own c l=c l:=by unfold roC; rw [hm]; rfl
    have:=h.objs l o ho'
    cases o with
    | var T ls w =>
      obtain ⟨b,cs,k1,k2,k3,k4,k5⟩:=this
      exact ⟨b,cs,hcl.trans k1,RG.conv (X:=X) (X':=K5 X c σ s own) (c:=c) rfl hM hcv _ _ k2,k3,k4,fun e hb=>k5 e (hM b hb)⟩
    | row E xs fl =>
      obtain ⟨A,k,ow,k1,k2⟩:=this
      exact ⟨A,k,ow,hcl.trans k1,k2⟩
    | nst E E' u xs q =>
      obtain ⟨A,k,ow,k1,k2⟩:=this
      exact ⟨A,k,ow,hcl.trans k1,k2⟩
    | map T kd m =>
      obtain ⟨b,k1,k2⟩:=this
      exact ⟨b,hcl.trans k1,k2⟩
    | rom T kd m =>
      obtain ⟨b,k1,k2,k3⟩:=this
      exact ⟨b,hcl.trans k1,k2,fun hb=>k3 (hM b hb)⟩
    | ro E xs =>
      obtain ⟨A,k,k1,k2⟩:=this
      exact ⟨A,k,hcl.trans k1,k2⟩
    | bo E xs =>
      obtain ⟨A,k,k1,k2⟩:=this
      exact ⟨A,k,hcl.trans k1,k2.sub fun b _=>hM b⟩
  | false =>
    have hnm:=a1v.1 hm
    rw [hm] at ho'
    simp only [cond_false] at ho'
    have hcl:∀ {p},c l=some p->roC own c l=some ⟨p.A,p.k,p.m,none⟩:=fun hp=>by unfold roC; rw [hm,hp]; rfl
    split at ho'
    ·rename_i T ls w e
     cases ho'
     obtain ⟨b,cs,k1,k2,k3,k4,k5⟩:=h.objs l _ e
     refine ⟨b,cs,hcl k1,RG.conv (X:=X) (X':=K5 X c σ s own) (c:=c) rfl hM hcv _ _ k2,k3,(fun e=>by cases e),fun _=>?_⟩
     cases w with
     | true=>exact a9q h ⟨_,e⟩ hnm k1 rfl
     | false=>exact fun hb=>k5 rfl (hM b hb)
    ·rename_i E xs e
     cases ho'
     obtain ⟨A,k,ow,k1,k2⟩:=h.objs l _ e
     exact ⟨A,k,hcl k1,k2.sl⟩
    ·cases ho'
    ·cases ho'
    ·rename_i T kd m e
     cases ho'
     obtain ⟨b,k1,k2⟩:=h.objs l _ e
     exact ⟨b,hcl k1,k2,a9q h ⟨_,e⟩ hnm k1 rfl⟩
    ·rename_i e1 e2 e3 e4 e5
     cases o with
     | var T ls w=>exact absurd ho' (e1 T ls w)
     | row E xs fl =>
       cases fl with
       | true=>exact absurd ho' (e2 E xs)
       | false=>exact absurd ho' (e3 E xs)
     | nst E E' u xs q=>exact absurd ho' (e4 E E' u xs q)
     | map T kd m=>exact absurd ho' (e5 T kd m)
     | rom T kd m =>
       obtain ⟨b,k1,k2,k3⟩:=h.objs l _ ho'
       exact ⟨b,hcl k1,k2,fun hb=>k3 (hM b hb)⟩
     | ro E xs =>
       obtain ⟨A,k,k1,k2⟩:=h.objs l _ ho'
       exact ⟨A,k,hcl k1,k2⟩
     | bo E xs =>
       obtain ⟨A,k,k1,k2⟩:=h.objs l _ ho'
       exact ⟨A,k,hcl k1,k2.sub fun b _=>hM b⟩
 ·obtain ⟨m1,n1⟩:=hcw a3 a5
  obtain ⟨m2,n2⟩:=hcw a4 a6
  exact h.inj l l' p p' b (hlv m1 a1) (hlv m2 a2) n1 n2 a5 a6
 ·obtain ⟨m1,n1⟩:=hcw a2 a3
  exact .inr ⟨l,m1,hlv m1 a1,.inl ⟨p,n1,a3⟩⟩
 ·have hl':roO own s.O l=none:=hl
  have:s.O l=none:=by
   unfold roO at hl'
   cases hm:W5 l own with
   | true=>rw [hm] at hl'; exact hl'
   | false =>
     rw [hm] at hl'
     simp only [cond_false] at hl'
     split at hl'<;>first | cases hl' | exact hl'
  unfold roC
  rw [h.nom l this]
  cases W5 l own<;>rfl
 ·have hnt:∀ {l E E' u xs q},roO own s.O l=some (some (.nst E E' u xs q))->l∈own/\s.O l=some (some (.nst E E' u xs q)):=fun e=>c99 e
  have hcl:∀ {l},l∈own->roC own c l=c l:=fun hm=>by unfold roC; rw [a0C.2 hm]; rfl
  have hI:∀ {l i E' v},a0M (roC own c) σ (roO own s.O) l i E' v->l∈own/\a0M c σ s.O l i E' v:=fun ⟨E,u,xs,q,g,kk,m,w,h1,h2,h3⟩=>⟨(hnt h1).1,E,u,xs,q,g,kk,m,w,(hnt h1).2,by rw [<- hcl (hnt h1).1]; exact h2,h3⟩
  have hB:∀ {l i b},InB (roC own c) σ (roO own s.O) l i b->l∈own/\InB c σ s.O l i b:=fun ⟨E',v,h1,h2⟩=>⟨(hI h1).1,E',v,(hI h1).2,h2⟩
  refine ⟨fun l E E' u xs q hl i hi hq=>?_,fun l i b hb=>?_,fun l i b hb l' o p' ho' hc' hw'=>?_,fun l i b l' i' h1 h2=>h.nst.inj l i b l' i' (hB h1).2 (hB h2).2⟩
  ·obtain ⟨v,⟨E1,u1,xs1,q1,g,kk,m,w,h1,h2,h3⟩,k2⟩:=h.nst.opn l E E' u xs q (hnt hl).2 i hi hq
   rw [(hnt hl).2] at h1
   cases h1
   exact ⟨v,⟨E,u,xs,q,g,kk,m,w,hl,by rw [hcl (hnt hl).1]; exact h2,h3⟩,k2⟩
  ·have hb':=hB hb
   obtain ⟨E',v,⟨E,u,xs,q,g,kk,m,w,h1,_⟩,_⟩:=hb'.2
   exact .inr ⟨l,hb'.1,⟨_,h1⟩,.inr ⟨i,hb'.2⟩⟩
  ·obtain ⟨m1,n1⟩:=hcw hc' hw'
   obtain ⟨o',ho2⟩:=hlv m1 ⟨o,ho'⟩
   exact h.nst.free l i b (hB hb).2 l' o' p' ho2 n1 hw'
end
end Go.Qx
end
section
open Bool renaming and_eq_true->d8p,not_eq_true'->d9N
open List renaming all_eq_true->d8q,length_append->d8t,mem_append->d8y,mem_cons->d8A,mem_of_getElem?->d8x
open Nat renaming beq->d8u,ble->d89,blt->d8V,eq_of_beq_eq_true->d8s,testBit->d9J
open Option renaming isNone_iff_eq_none->e0g,map_eq_some_iff->d9f
namespace Go.Qx
open Go Go.RowKit Go.Sx
inductive Ex where
 | normal
 | exit (i:Nat)
 | ret
def a3A:Ex->Exit
 | .normal=>.normal
 | .exit i=>.exit i
 | .ret=>.ret
def b4T:Ex->Ex->Bool
 | .normal,.normal=>true
 | .exit i,.exit j=>d8u i j
 | .ret,.ret=>true
 | _,_=>false
theorem b2n {a b:Ex}(h:b4T a b=true):a=b:=by
 cases a<;>cases b<;>first | rfl | cases h | (have:=d8s h; subst this; rfl)
structure JH where
 m:Nat
 pub:List Nat
 W:List (Nat×V)
 outs:List (Ex×List (Nat×V))
structure LH (I:TypeId->Type) where
 m:Nat
 pub:List Nat
 W:List (Nat×V)
 head:List (Nat×V)
 outs:List (Ex×List (Nat×V))
 bound:St I->Option Nat
inductive KO where
 | row (E:TypeId)
 | map (T:TypeId) (kd:Kd)
abbrev c3c (I:TypeId->Type):KO->Type
 | .row E=>List (I E)
 | .map _ kd=>List (ByteArray×Ty I kd)
structure KH (I:TypeId->Type) where
 m:Nat
 t:Nat
 E:KO
 S:List (Nat×V)
 outs:List (Ex×List (Nat×V))
 bound:St I->Option Nat
 i:Nat:=0
structure NH (I:TypeId->Type) where
 L:LH I
 t:Nat
 E:TypeId
structure Hints (I:TypeId->Type) where
 tds:Nat->List (List Nat)
 spl:Nat->List Nat
 pre:Nat->List Nat
 join:Nat->Option JH
 loop:Nat->Option (LH I)
 keep:Nat->Option (KH I)
 nst:Nat->Option (NH I):=fun _=>none
 unr:Nat->Nat:=fun _=>0
def sKs (S:List (Nat×V)):List (Nat×V):=S.filter fun x=>d8V x.1 1000000
def wKs (W S:List (Nat×V)):List (Nat×V):=W.map fun x=>match S.find? (fun y=>d8u y.1 (x.1+1000000)) with
 | some y=>(x.1,y.2)
 | none=>x
abbrev b9B (I:TypeId->Type)(W:List (Nat×V)):List (Ex×List (Nat×V))->Type
 | []=>Empty
 | [o]=>TyN I (sKs o.2) (wKs W o.2)
 | o::o'::r=>Sum (TyN I (sKs o.2) (wKs W o.2)) (b9B I W (o'::r))
def a9Z (outs:List (Ex×List (Nat×V))):List Nat:=outs.flatMap fun o=>o.2.map (·.1)
section
variable {I:TypeId->Type} [∀ E,Rp (I E)]
def inj (tb:Tab I)(O0:Obs I)(W:List (Nat×V))(wl:List Nat):(outs:List (Ex×List (Nat×V)))->Ex->St I->Option (b9B I W outs)
 | [],_,_=>none
 | [o],e,s=>bif b4T o.1 e then b4X tb O0 (sKs o.2) (wKs W o.2) wl s else none
 | o::o'::r,e,s=>bif b4T o.1 e then (b4X tb O0 (sKs o.2) (wKs W o.2) wl s).bind fun x=>some (.inl x) else (inj tb O0 W wl (o'::r) e s).bind fun y=>some (.inr y)
def okN (sb:St I)(S W:List (Nat×V)):Bool:=b2M sb.O sb.nx (cnT (tyN S W))
def out (tb:Tab I)(sb:St I)(m:Nat)(dead:List Nat)(W:List (Nat×V))(wl:List Nat){ρ:Type}(k:Ex->St I->Option ρ):(outs:List (Ex×List (Nat×V)))->b9B I W outs->Option ρ
 | [],_=>none
 | [o],x=>bif okN sb (sKs o.2) (wKs W o.2) then k o.1 (nfS tb sb m dead (sKs o.2) (wKs W o.2) wl x) else none
 | o::o'::r,b=>w9 (fun x=>bif okN sb (sKs o.2) (wKs W o.2) then k o.1 (nfS tb sb m dead (sKs o.2) (wKs W o.2) wl x) else none) (fun y=>out tb sb m dead W wl k (o'::r) y) b
abbrev a7g (I:TypeId->Type):=(ρ:Type)->St I->(Ex->St I->Option ρ)->Option ρ
def a8n (s:St I)(ts:List Nat):List Nat:=a4i s.F ts++nest s.O (a4i s.F ts)
def b2a (tb:Tab I)(H:Hints I)(p:Nat)(core:a7g I):a7g I:=fun ρ s k=>match H.join p with
 | none=>core ρ s k
 | some j =>
   let s0:=Z8 s s.O (a8n s j.pub)
   (c5I s0 j.W).bind fun wl =>
   let dead:=b6H s0 (a9Z j.outs) wl
   (core (b9B I j.W j.outs) (roS (wl++dead) s0) fun e s'=>inj tb s0.O j.W wl j.outs e s').bind fun b=>out tb s0 j.m dead j.W wl k j.outs b
def d7Y (tb:Tab I)(L:LH I)(O0:Obs I)(wl:List Nat):Ex->St I->Option (Fl (TyN I L.head L.W) (b9B I L.W L.outs))
 | .normal,s'=>(b4X tb O0 L.head L.W wl s').bind fun x'=>some (.next x')
 | e,s'=>(inj tb O0 L.W wl L.outs e s').bind fun b=>some (.done b)
def d1h (tb:Tab I)(L:LH I)(body:a7g I):a7g I:=fun _ s k =>
 let s0:=Z8 s s.O (a8n s L.pub)
 (c5I s0 L.W).bind fun wl =>
 let dead:=b6H s0 (L.head.map (·.1)++a9Z L.outs) wl
 let sr:=roS (wl++dead) s0
 bif okN sr L.head L.W then
 (b4X tb s0.O L.head L.W wl sr).bind fun x0 =>
 (L.bound s).bind fun bd =>
 (j7 (fun x=>body (Fl (TyN I L.head L.W) (b9B I L.W L.outs)) (nfS tb sr L.m dead L.head L.W wl x) (d7Y tb L s0.O wl)) bd x0).bind fun b=>out tb s0 L.m dead L.W wl k L.outs b else none
abbrev TyX (I:TypeId->Type)(S:List (Nat×V))(E:KO):Type:=TyT I (S.map (·.2))×c3c I E
abbrev c3p (I:TypeId->Type)(E:KO):List (Ex×List (Nat×V))->Type
 | []=>Empty
 | [o]=>TyX I o.2 E
 | o::o'::r=>Sum (TyX I o.2 E) (c3p I E (o'::r))
def b5j:(o:KO)->c3c I o->Ob I
 | .row E,x=>.row E x false
 | .map T kd,x=>.map T kd x
def d07 (O:Obs I)(l:Nat):(o:KO)->Option (c3c I o)
 | .row E=>match O l with
   | some (some (.row E' xs false))=>a13 E E' xs
   | _=>none
 | .map T kd=>match O l with
   | some (some (.map T' kd' m))=>a5T (T:=T) (T':=T') (kd:=kd) m
   | _=>none
def c2P (tb:Tab I)(E:KO)(l:Nat)(S:List (Nat×V))(s:St I):Option (TyX I S E) :=
 (c4A s S).bind fun ps=>(a3D tb (fun _=>none) (S.map (·.2)) ps).bind fun x=>bif a4j x.2.1&&a4j x.2.2 then (d07 s.O l E).bind fun ys=>some (x.1,ys) else none
def kst (tb:Tab I)(s0:St I)(m l:Nat)(E:KO)(S:List (Nat×V))(x:TyX I S E):St I:=⟨s0.n,asgS S (pvT tb s0.nx (S.map (·.2)) x.1) (b7E m s0.F),upF s0.O l (some (b5j E x.2)),s0.nx⟩
def c42 (tb:Tab I)(E:KO)(l:Nat):(outs:List (Ex×List (Nat×V)))->Ex->St I->Option (c3p I E outs)
 | [],_,_=>none
 | [o],e,s=>bif b4T o.1 e then c2P tb E l o.2 s else none
 | o::o'::r,e,s=>bif b4T o.1 e then (c2P tb E l o.2 s).bind fun x=>some (.inl x) else (c42 tb E l (o'::r) e s).bind fun y=>some (.inr y)
def d20 (tb:Tab I)(sb:St I)(m l:Nat)(E:KO){ρ:Type}(k:Ex->St I->Option ρ):(outs:List (Ex×List (Nat×V)))->c3p I E outs->Option ρ
 | [],_=>none
 | [o],x=>k o.1 (kst tb sb m l E o.2 x)
 | o::o'::r,b=>w9 (fun x=>k o.1 (kst tb sb m l E o.2 x)) (fun y=>d20 tb sb m l E k (o'::r) y) b
def d4v (s:St I)(t i:Nat)(E:KO):Option (Nat×c3c I E):=match s.F t with
 | some p=>((c3C p)[i]?).bind fun l=>(d07 s.O l E).bind fun xs=>some (l,xs)
 | _=>none
def d7L (tb:Tab I)(K:KH I)(l:Nat):Ex->St I->Option (Fl (TyX I K.S K.E) (c3p I K.E K.outs))
 | .normal,s'=>(c2P tb K.E l K.S s').bind fun x'=>some (.next x')
 | e,s'=>(c42 tb K.E l K.outs e s').bind fun b=>some (.done b)
def d0T (tb:Tab I)(K:KH I)(body:a7g I):a7g I:=fun _ s k =>
 (d4v s K.t K.i K.E).bind fun r =>
 (c2P tb K.E r.1 K.S (roS [r.1] s)).bind fun x0 =>
 (K.bound s).bind fun bd =>
 (j7 (fun x=>body (Fl (TyX I K.S K.E) (c3p I K.E K.outs)) (kst tb (roS [r.1] s) K.m r.1 K.E K.S x) (d7L tb K r.1)) bd x0).bind fun b=>d20 tb s K.m r.1 K.E k K.outs b
abbrev TyM (I:TypeId->Type)(S W:List (Nat×V))(E:TypeId):Type:=TyN I S W×List (I E)
abbrev c2T (I:TypeId->Type)(W:List (Nat×V))(E:TypeId):List (Ex×List (Nat×V))->Type
 | []=>Empty
 | [o]=>TyM I o.2 W E
 | o::o'::r=>Sum (TyM I o.2 W E) (c2T I W E (o'::r))
def c7j (O:Obs I)(l:Nat)(E:TypeId):Option (TypeId×Nat×List (I E)):=match O l with
 | some (some (.nst E1 E' u xs 0))=>(a13 E E1 xs).bind fun ys=>some (E',u,ys)
 | _=>none
def d2z (s:St I)(t:Nat)(E:TypeId):Option (Nat×TypeId×Nat×List (I E)):=match s.F t with
 | some (.vw l)=>(c7j s.O l E).bind fun q=>some (l,q)
 | _=>none
def c3o (tb:Tab I)(O0:Obs I)(S W:List (Nat×V))(wl:List Nat)(l:Nat)(E E':TypeId)(u:Nat)(s:St I):Option (TyM I S W E) :=
 (b4X tb O0 S W wl s).bind fun x=>(c7j s.O l E).bind fun q=>bif d8u q.1 E'&&d8u q.2.1 u then some (x,q.2.2) else none
def nfM (tb:Tab I)(sb:St I)(m:Nat)(dead:List Nat)(S W:List (Nat×V))(wl:List Nat)(l:Nat)(E E':TypeId)(u:Nat)(x:TyM I S W E):St I:=Y5 (nfS tb sb m (l::dead) S W wl x.1) l (some (.nst E E' u x.2 0))
def c5w (tb:Tab I)(O0:Obs I)(W:List (Nat×V))(wl:List Nat)(l:Nat)(E E':TypeId)(u:Nat):(outs:List (Ex×List (Nat×V)))->Ex->St I->Option (c2T I W E outs)
 | [],_,_=>none
 | [o],e,s=>bif b4T o.1 e then c3o tb O0 o.2 W wl l E E' u s else none
 | o::o'::r,e,s=>bif b4T o.1 e then (c3o tb O0 o.2 W wl l E E' u s).bind fun x=>some (.inl x) else (c5w tb O0 W wl l E E' u (o'::r) e s).bind fun y=>some (.inr y)
def d24 (tb:Tab I)(sb:St I)(m:Nat)(dead:List Nat)(W:List (Nat×V))(wl:List Nat)(l:Nat)(E E':TypeId)(u:Nat){ρ:Type}(k:Ex->St I->Option ρ):(outs:List (Ex×List (Nat×V)))->c2T I W E outs->Option ρ
 | [],_=>none
 | [o],x=>bif okN sb o.2 W then k o.1 (nfM tb sb m dead o.2 W wl l E E' u x) else none
 | o::o'::r,b=>w9 (fun x=>bif okN sb o.2 W then k o.1 (nfM tb sb m dead o.2 W wl l E E' u x) else none) (fun y=>d24 tb sb m dead W wl l E E' u k (o'::r) y) b
def d6C (tb:Tab I)(N:NH I)(O0:Obs I)(wl:List Nat)(l:Nat)(E':TypeId)(u:Nat):Ex->St I->Option (Fl (TyM I N.L.head N.L.W N.E) (c2T I N.L.W N.E N.L.outs))
 | .normal,s'=>(c3o tb O0 N.L.head N.L.W wl l N.E E' u s').bind fun x'=>some (.next x')
 | e,s'=>(c5w tb O0 N.L.W wl l N.E E' u N.L.outs e s').bind fun b=>some (.done b)
def d1z (tb:Tab I)(N:NH I)(body:a7g I):a7g I:=fun _ s k =>
 let s0:=Z8 s s.O (a8n s N.L.pub)
 (c5I s0 N.L.W).bind fun wl =>
 (d2z s0 N.t N.E).bind fun q =>
 let dead:=b6H s0 (N.L.head.map (·.1)++a9Z N.L.outs) wl
 let sr:=roS (wl++q.1::dead) s0
 bif okN sr N.L.head N.L.W&&!(W5 q.1 wl) then
 (c3o tb s0.O N.L.head N.L.W wl q.1 N.E q.2.1 q.2.2.1 sr).bind fun x0 =>
 (N.L.bound s).bind fun bd =>
 (j7 (fun x=>body (Fl (TyM I N.L.head N.L.W N.E) (c2T I N.L.W N.E N.L.outs)) (nfM tb sr N.L.m dead N.L.head N.L.W wl q.1 N.E q.2.1 q.2.2.1 x) (d6C tb N s0.O wl q.1 q.2.1 q.2.2.1)) bd x0).bind fun b =>
 d24 tb s0 N.L.m dead N.L.W wl q.1 N.E q.2.1 q.2.2.1 k N.L.outs b else none
def c7n (body:a7g I):Nat->a7g I
 | 0=>fun _ _ _=>none
 | m+1=>fun ρ s k=>body ρ s fun e s'=>match e with
   | .normal=>c7n body m ρ s' k
   | e=>k e s'
def unnS (s:St I):List Nat->St I
 | []=>s
 | l::r=>unnS (match s.O l with
   | some (some (.nst E _ _ xs _))=>Y5 s l (some (.row E xs false))
   | _=>s) r
def armS (s:St I):List Nat->St I
 | []=>s
 | l::r=>armS (match s.O l with
   | some (some (.nst E E' u xs 0))=>Y5 s l (some (.nst E E' u xs 1))
   | _=>s) r
def d0P (ts:List Nat):List Nat:=ts.filter fun t=>d8V t 1000000
def d8e (ts:List Nat):List Nat:=(ts.filter fun t=>d89 1000000 t).map fun t=>t-1000000
def preS (s:St I)(ts:List Nat):St I :=
 let a:=a8n s (d0P ts)
 let s1:=unnS s a
 armS (Z8 s1 s1.O a) (a4i s.F (d8e ts))
def a21 (tb:Tab I)(disp:a0f I)(H:Hints I):Code->Nat->a7g I
 | .region id ops drw,p=>b2a tb H p fun _ s k=>region tb disp (H.tds id) drw (H.spl id) ops.toList (preS s (H.pre id)) (k .normal)
 | .seq a b,p=>b2a tb H p fun ρ s k=>a21 tb disp H a (2*p) ρ s fun e s=>match e with
   | .normal=>a21 tb disp H b (2*p+1) ρ s k
   | e=>k e s
 | .cond t a b,p=>b2a tb H p fun ρ s k=>(evP s.n s.F t).bind fun q=>match q with
   | .bool c=>bif c then a21 tb disp H a (2*p) ρ s k else a21 tb disp H b (2*p+1) ρ s k
   | _=>none
 | .block id a,p=>b2a tb H p fun ρ s k=>a21 tb disp H a (2*p) ρ s fun e s=>match e with
   | .exit j=>bif d8u j id then k .normal s else k (.exit j) s
   | e=>k e s
 | .loop a,p=>b2a tb H p fun ρ s k=>match H.loop p with
   | some L=>d1h tb L (a21 tb disp H a (2*p)) ρ s k
   | none=>match H.keep p with
     | some K=>d0T tb K (a21 tb disp H a (2*p)) ρ s k
     | none=>match H.nst p with
       | some N=>d1z tb N (a21 tb disp H a (2*p)) ρ s k
       | none=>c7n (a21 tb disp H a (2*p)) (H.unr p) ρ s k
 | .exit i,_=>fun _ s k=>k (.exit i) s
 | .ret,_=>fun _ s k=>k .ret s
 | .skip,_=>fun _ s k=>k .normal s
 | _,_=>fun _ _ _=>none
def c8D (ops:List Oper)(i:Nat):Bool:=a15 (a8q ops) i
def a1u:Code->Nat->Bool
 | .region _ ops _,i=>c8D ops.toList i
 | .seq a b,i=>a1u a i||a1u b i
 | .cond _ a b,i=>a1u a i||a1u b i
 | .block _ a,i=>a1u a i
 | .loop a,i=>a1u a i
 | _,_=>false
def a1L (m:Nat):Code->Bool
 | .region _ ops _=>ops.toList.all fun o=>match o.dst with
   | some d=>d9J m d
   | none=>true
 | .seq a b=>a1L m a&&a1L m b
 | .cond _ a b=>a1L m a&&a1L m b
 | .block _ a=>a1L m a
 | .loop a=>a1L m a
 | _=>true
def a7J (H:Hints I)(c:Code)(p:Nat):Bool:=(match H.join p with
 | some j=>a1L j.m c
 | none=>true)&&(match H.loop p with
 | some L=>a1L L.m c
 | none=>true)&&(match H.keep p with
 | some K=>a1L K.m c
 | none=>true)&&(match H.nst p with
 | some N=>a1L N.L.m c
 | none=>true)
def a1m (H:Hints I):Code->Nat->Bool
 | .region id ops drw,p=>a7J H (.region id ops drw) p&&(bif drw then c2C ops.toList (H.tds id)&&b0U ops.toList (H.tds id) (a8q ops.toList) else true)
 | .seq a b,p=>a7J H (.seq a b) p&&a1m H a (2*p)&&a1m H b (2*p+1)
 | .cond t a b,p=>a7J H (.cond t a b) p&&a1m H a (2*p)&&a1m H b (2*p+1)
 | .block id a,p=>a7J H (.block id a) p&&a1m H a (2*p)
 | .loop a,p=>a7J H (.loop a) p&&a1m H a (2*p)
 | _,_=>true
theorem a2t {m:Nat}:∀ {c:Code},a1L m c=true->∀ {i},d9J m i=false->a1u c i=false
 | .region _ ops _,h,i,hi=>by
   simp only [a1L,d8q] at h
   simp only [a1u,c8D,a15,List.any_eq_false]
   intro x hx hd
   obtain ⟨j,o⟩:=x
   have ho:=d8x (c2R.1 hx)
   have h1:=h o ho
   cases hdst:o.dst with
   | none=>rw [hdst] at hd; cases hd
   | some d =>
     rw [hdst] at hd h1
     have e:=d8s hd
     subst e
     simp only at h1
     rw [hi] at h1; cases h1
 | .seq a b,h,i,hi=>by
   simp only [a1L,d8p] at h
   simp only [a1u,a2t h.1 hi,a2t h.2 hi,Bool.or_self]
 | .cond _ a b,h,i,hi=>by
   simp only [a1L,d8p] at h
   simp only [a1u,a2t h.1 hi,a2t h.2 hi,Bool.or_self]
 | .block _ a,h,i,hi=>a2t (c:=a) h hi
 | .loop a,h,i,hi=>a2t (c:=a) h hi
 | .skip,_,_,_=>rfl
 | .rangeFunc _ _ _ _,_,_,_=>rfl
 | .exit _,_,_,_=>rfl
 | .scope _,_,_,_=>rfl
 | .label _,_,_,_=>rfl
 | .goto _,_,_,_=>rfl
 | .ret,_,_,_=>rfl
 | .refuse _,_,_,_=>rfl
omit [∀ E,Rp (I E)] in
theorem d5H:∀ {vs:List V} {x:TyT I vs},(obT vs x).length=cnT vs:=by
 have hK:∀ {k:K} {x:TyK I k},(obK k x).length=cnK k:=by intro k x; cases k<;>rfl
 have hKs:∀ {ks:List K} {x:a36 I ks},(c5z ks x).length=a6X ks:=by
  intro ks
  induction ks with
  | nil=>intro x; rfl
  | cons k r ih =>
    cases r with
    | nil=>intro x; exact hK
    | cons k' r=>intro x; simp only [c5z,a6X,d8t,hK,ih]
 have hV:∀ {v:V} {x:TyV I v},(obV v x).length=cnV v:=by
  intro v x
  cases v with
  | k k=>exact hK
  | lvs ks=>exact hKs
 intro vs
 induction vs with
 | nil=>intro x; rfl
 | cons v r ih =>
   cases r with
   | nil=>intro x; exact hV
   | cons v' r=>intro x; simp only [obT,cnT,d8t,hV,ih]
omit [∀ E,Rp (I E)] in
theorem b9O {O:Obs I}:∀ {m nb:Nat},b2M O nb m=true↔∀ l∈rng nb m,O l=none
 | 0,_=>by simp [b2M,rng]
 | m+1,nb=>by
   simp only [b2M,d8p,b9O,rng,d8A,e0g]
   constructor
   ·rintro ⟨h1,h2⟩ l (rfl | h)
    ·exact h1
    ·exact h2 l h
   ·exact fun h=>⟨h _ (.inl rfl),fun l hl=>h l (.inr hl)⟩
variable {P:Program}{tb:Tab I}{disp:a0f I}{H:Hints I}{n:Nat}
omit [∀ E,Rp (I E)] in
theorem c7T {sb:St I}{S W:List (Nat×V)}(h:okN sb S W=true)(x:TyN I S W):a2A sb.O sb.nx (obT (tyN S W) x)=true:=by
 rw [a1D,d5H]
 exact b9O.1 h
omit [∀ E,Rp (I E)] in
theorem c5u {O0:Obs I}{W:List (Nat×V)}{wl:List Nat}{sb:St I}{m:Nat}{dead:List Nat}{ρ:Type}{k:Ex->St I->Option ρ}{r:ρ}{e:Ex}{s':St I}:∀ {outs:List (Ex×List (Nat×V))} {b:b9B I W outs},inj tb O0 W wl outs e s'=some b->out tb sb m dead W wl k outs b=some r ->
 ∃ S W',∃ x:TyN I S W',b4X tb O0 S W' wl s'=some x/\okN sb S W'=true/\k e (nfS tb sb m dead S W' wl x)=some r
 | [],_,h,_=>by cases h
 | [o],x,h,h2=>by
   obtain ⟨he,h3⟩:=j8 h
   obtain ⟨hn,h4⟩:=j8 h2
   have:=b2n he
   subst this
   exact ⟨sKs o.2,wKs W o.2,x,h3,hn,h4⟩
 | o::o'::rs,b,h,h2=>by
   simp only [inj] at h
   cases he:b4T o.1 e with
   | true =>
     rw [he] at h
     obtain ⟨x,hx,h⟩:=bind_some h
     cases h
     have h2':(bif okN sb (sKs o.2) (wKs W o.2) then k o.1 (nfS tb sb m dead (sKs o.2) (wKs W o.2) wl x) else none)=some r:=h2
     obtain ⟨hn,h2'⟩:=j8 h2'
     have:=b2n he
     subst this
     exact ⟨sKs o.2,wKs W o.2,x,hx,hn,h2'⟩
   | false =>
     rw [he] at h
     obtain ⟨y,hy,h⟩:=bind_some h
     cases h
     exact c5u (outs:=o'::rs) (b:=y) hy h2
omit [∀ E,Rp (I E)] in
theorem c86 {s:St I}:∀ {W:List (Nat×V)} {wl:List Nat},c5I s W=some wl->∀ l∈wl,∃ t,s.F t=some (.ptr l 0)
 | [],_,h=>by cases h; exact fun l hl=>by cases hl
 | x::r,_,h=>by
   obtain ⟨l0,h0,h⟩:=bind_some h
   obtain ⟨r',h1,h⟩:=bind_some h
   cases h
   intro l hl
   rcases d8A.1 hl with rfl | hl
   ·unfold d4f at h0
    split at h0
    ·rename_i l1 e; cases h0; exact ⟨_,e⟩
    ·cases h0
   ·exact c86 h1 l hl
def b3q (P:Program)(n:Nat)(core:a7g I)(cd:Code):Prop :=
 ∀ (ρ:Type) (s:St I) (k:Ex->St I->Option ρ) (r:ρ) (X:Cxt) (c:Cx) (σ:S) (F:Fr) (Q:Exit->Act->World->Prop),X.P=P->core ρ s k=some r->Rel X c σ s n F ->
  (∀ (e:Ex) (s':St I) (c':Cx) (τ:S) (F':Fr),k e s'=some r->Cx.le c c'->Rel X c' τ s' n F'->Stp X.M σ τ->(∀ i,a1u cd i=false->F' i=F i)->Q (a3A e) (fr n F') τ.w)->cd.wp P Q (fr n F) σ.w
theorem d4J (ht:TabOk P tb){X X':Cxt}{c c' c'':Cx}{σ τ:S}{s0 s':St I}{F F':Fr}{own wl dead:List Nat}{W S:List (Nat×V)}{m:Nat}{x:TyN I S W}(h0:Rel X c σ s0 n F)(hX:X'=K5 X c σ s0 own)(hc':c'=roC own c)(how:own=wl++dead)
 (hwl:∀ l∈wl,∃ p,c l=some p) (hg:b4X tb s0.O S W wl s'=some x) (hok:okN s0 S W=true) (hle:Cx.le c' c'') (hr:Rel X' c'' τ s' n F') (st:Stp X'.M σ τ) (hF:∀ i,d9J m i=false->F' i=F i) :
 ∃ c4 τ',τ'.w=τ.w/\Cx.le c c4/\Rel X c4 τ' (nfS tb s0 m dead S W wl x) n F'/\Stp X.M σ τ':=by
 subst hX
 subst hc'
 have hcl:∀ l∈wl,c'' l=c l:=fun l hl=>by
  obtain ⟨p,hp⟩:=hwl l hl
  have:roC own c l=some p:=by
   unfold roC
   rw [a0C.2 (by rw [how]; simp [hl])]
   exact hp
  rw [hle l p this,hp]
 obtain ⟨τ',pls,us,h1,h2,h3⟩:=c9i ht hr hcl hg
 have st':=st.trans h2
 obtain ⟨k1,k2⟩:=build (m:=m) (dead:=dead) ht h0 st' (a6Y h0 own) hF (fun l p g hl hnw hnd hc hw=>a9q h0 hl (by rw [how,d8y,not_or]; exact ⟨hnw,hnd⟩) hc hw) (fun l i g hnw hnd hb=>b5Q h0 (by rw [how,d8y,not_or]; exact ⟨hnw,hnd⟩) hb) h3 (c7T hok x)
 exact ⟨_,τ',h1,k1,k2,st'.mono fun b _ hb=>a6Y h0 own b hb⟩
theorem c5S {X:Cxt}{c:Cx}{σ:S}{s:St I}{F:Fr}(h:Rel X c σ s n F){W:List (Nat×V)}{wl:List Nat}(hw:c5I s W=some wl):∀ l∈wl,∃ p,c l=some p:=fun l hl=>by
 obtain ⟨t,ht⟩:=c86 hw l hl
 have:=h.frame t _ ht
 simp only [RV] at this
 obtain ⟨b,w,h1,_⟩:=this
 exact ⟨_,h1⟩
theorem b2B (ht:TabOk P tb){core:a7g I}{cd:Code}{p:Nat}(hs:b3q P n core cd)(hj:a7J H cd p=true):b3q P n (b2a tb H p core) cd:=by
 intro ρ s k r X c σ F Q hX hx h hk
 unfold b2a at hx
 split at hx
 ·exact hs ρ s k r X c σ F Q hX hx h hk
 ·rename_i j hj'
  have hm:a1L j.m cd=true:=by
   simp only [a7J,hj',d8p] at hj
   exact hj.1.1.1
  obtain ⟨wl,hwl,hx⟩:=bind_some hx
  obtain ⟨b,hb,hx⟩:=bind_some hx
  obtain ⟨σ1,h1,h2,h3,_⟩:=h.pubs (O:=s.O) (fun _ _ h=>h) (a8n s j.pub)
  rw [<- h1]
  refine hs _ _ _ b (K5 X c σ1 (Z8 s s.O (a8n s j.pub)) (wl++b6H (Z8 s s.O (a8n s j.pub)) (a9Z j.outs) wl)) _ σ1 F Q hX hb (enter h3 _) fun e s' c' τ F' hi hle hr st hF=>?_
  obtain ⟨S,W',x,g1,g2,g3⟩:=c5u hi hx
  obtain ⟨c4,τ',k1,k2,k3,k4⟩:=d4J (m:=j.m) ht h3 rfl rfl rfl (c5S h3 hwl) g1 g2 hle hr st (fun i hi=>hF i (a2t hm hi))
  rw [<- k1]
  exact hk e _ c4 τ' F' g3 k2 k3 (h2.trans k4) hF
theorem d33 {body:a7g I}{cd:Code}(hs:b3q P n body cd)(m:Nat):b3q P n (c7n body m) (.loop cd):=by
 intro ρ s k r X c σ F Q hX hx h hk
 refine wp_loop_rounds m ?_
 have key:∀ (m:Nat) (s:St I) (c:Cx) (σ:S) (F:Fr),c7n body m ρ s k=some r->Rel X c σ s n F ->
  (∀ (e:Ex) (s':St I) (c':Cx) (τ:S) (F':Fr),k e s'=some r->Cx.le c c'->Rel X c' τ s' n F'->Stp X.M σ τ->(∀ i,a1u cd i=false->F' i=F i)->Q (a3A e) (fr n F') τ.w)->Code.rounds P cd Q m (fr n F) σ.w:=by
  intro m
  induction m with
  | zero=>intro s c σ F hx; cases hx
  | succ m ih =>
    intro s c σ F hx h hk
    show cd.wp P (Exit.then (Code.rounds P cd Q m) Q) (fr n F) σ.w
    refine hs ρ s _ r X c σ F _ hX hx h fun e s' c' τ F' g1 g2 g3 g4 g5=>?_
    cases e with
    | normal=>exact ih s' c' τ F' g1 g3 fun e s2 c2 υ F2 m1 m2 m3 m4 m5=>hk e s2 c2 υ F2 m1 (Cx.le_trans g2 m2) m3 (g4.trans m4) fun i hi=>(m5 i hi).trans (g5 i hi)
    | exit i=>exact hk (.exit i) s' c' τ F' g1 g2 g3 g4 g5
    | ret=>exact hk .ret s' c' τ F' g1 g2 g3 g4 g5
 exact key m s c σ F hx h hk
theorem d30 (ht:TabOk P tb){L:LH I}{body:a7g I}{cd:Code}(hs:b3q P n body cd)(hm:a1L L.m cd=true):b3q P n (d1h tb L body) (.loop cd):=by
 intro ρ s k r X c σ F Q hX hx h hk
 unfold d1h at hx
 obtain ⟨wl,hwl,hx⟩:=bind_some hx
 obtain ⟨hok,hx⟩:=j8 hx
 obtain ⟨x0,hx0,hx⟩:=bind_some hx
 obtain ⟨bd,hbd,hx⟩:=bind_some hx
 obtain ⟨b,hb,hx⟩:=bind_some hx
 obtain ⟨σ1,h1,h2,h3,_⟩:=h.pubs (O:=s.O) (fun _ _ h=>h) (a8n s L.pub)
 rw [<- h1]
 have hwc:=c5S h3 hwl
 revert hok hx0 hb hx
 generalize hs0:Z8 s s.O (a8n s L.pub)=s0 at *
 change Rel X c σ1 s0 n F at h3
 generalize hdead:b6H s0 (L.head.map (·.1)++a9Z L.outs) wl=dead
 intro hok hx0 hb hx
 have hE:=enter h3 (wl++dead)
 have hcl:∀ {c1:Cx},Cx.le (roC (wl++dead) c) c1->∀ l∈wl,c1 l=roC (wl++dead) c l:=fun hle l hl=>by
  obtain ⟨p,hp⟩:=hwc l hl
  have:roC (wl++dead) c l=some p:=by
   unfold roC
   rw [a0C.2 (by simp [hl])]
   exact hp
  rw [hle l p this,this]
 have hcontO:∀ {τ:S} {W:List (Nat×V)} {wl':List Nat} {us:List Value},(∀ l∈wl',l∈wl)->a7D τ (roC (wl++dead) c) s0.O W wl' us->a7D τ (roC (wl++dead) c) (roO (wl++dead) s0.O) W wl' us:=by
  intro τ W
  induction W with
  | nil =>
    intro wl' us _ hc
    cases wl'<;>exact hc
  | cons w r ih =>
    intro wl' us hw hc
    cases wl' with
    | nil=>exact hc
    | cons l ls =>
      obtain ⟨u,us',b,T,vs,w',cs,e1,e2,e3,e4,e5,e6,e7⟩:=hc
      refine ⟨u,us',b,T,vs,w',cs,e1,?_,e3,e4,e5,e6,ih (fun l' hl'=>hw l' (by simp [hl'])) e7⟩
      unfold roO
      rw [a0C.2 (by simp [hw l (by simp)])]
      exact e2
 have renorm:∀ (c1:Cx) (τ:S) (s':St I) (F1:Fr) (x:TyN I L.head L.W),Cx.le (roC (wl++dead) c) c1->Rel (K5 X c σ1 s0 (wl++dead)) c1 τ s' n F1->Stp (K5 X c σ1 s0 (wl++dead)).M σ1 τ->(∀ i,a1u cd i=false->F1 i=F i)->b4X tb s0.O L.head L.W wl s'=some x ->
  ∃ c4 τ',τ'.w=τ.w/\Cx.le (roC (wl++dead) c) c4/\Rel (K5 X c σ1 s0 (wl++dead)) c4 τ' (nfS tb (roS (wl++dead) s0) L.m dead L.head L.W wl x) n F1/\Stp (K5 X c σ1 s0 (wl++dead)).M σ1 τ':=by
  intro c1 τ s' F1 x hle hr st hF hg
  obtain ⟨τ',pls,us,a1,a2,a3⟩:=c9i ht hr (hcl hle) hg
  have a3':Facts (K5 X c σ1 s0 (wl++dead)).M τ' (roC (wl++dead) c) (roS (wl++dead) s0).O F1 L.head L.W wl x pls us:=⟨a3.tt,hcontO (fun _ h=>h) a3.cont,a3.nodup,a3.own,a3.wown⟩
  obtain ⟨b1,b2⟩:=build (m:=L.m) (dead:=dead) ht hE (st.trans a2) (fun _ h=>h) (fun i hi=>hF i (a2t hm hi)) (fun l p g hl hnw hnd hc hw=>by
   exfalso
   unfold roC at hc
   rw [a1v.2 (by rw [d8y,not_or]; exact ⟨hnw,hnd⟩)] at hc
   simp only [cond_false,d9f] at hc
   obtain ⟨q,_,e⟩:=hc
   rw [<- e] at hw
   cases hw) (fun l i g hnw hnd hb=>absurd (b9n hb) (by rw [d8y,not_or]; exact ⟨hnw,hnd⟩)) a3' (c7T hok x)
  exact ⟨_,τ',a1,b1,b2,st.trans a2⟩
 let Inv:TyN I L.head L.W->Act->World->Prop:=fun x a w=>∃ c1 τ F1,a=fr n F1/\w=τ.w/\Cx.le (roC (wl++dead) c) c1/\Rel (K5 X c σ1 s0 (wl++dead)) c1 τ (nfS tb (roS (wl++dead) s0) L.m dead L.head L.W wl x) n F1 /\
  Stp (K5 X c σ1 s0 (wl++dead)).M σ1 τ/\∀ i,a1u cd i=false->F1 i=F i
 let Post:b9B I L.W L.outs->Exit->Act->World->Prop:=fun b e a w=>∃ e' s' c1 τ F1,e=a3A e'/\a3A e'≠.normal/\a=fr n F1/\w=τ.w/\inj tb s0.O L.W wl L.outs e' s'=some b/\Cx.le (roC (wl++dead) c) c1 /\
  Rel (K5 X c σ1 s0 (wl++dead)) c1 τ s' n F1/\Stp (K5 X c σ1 s0 (wl++dead)).M σ1 τ/\∀ i,a1u cd i=false->F1 i=F i
 obtain ⟨c4,σ2,i1,i2,i3,i4⟩:=renorm _ σ1 _ F x0 (Cx.le_refl _) hE (Stp.refl _ _) (fun _ _=>rfl) hx0
 have hinv:Inv x0 (fr n F) σ1.w:=⟨c4,σ2,F,rfl,i1.symm,i2,i3,i4,fun _ _=>rfl⟩
 refine wp_mono (b2m (P:=P) Inv Post (fun b a w ⟨e',s',c1,τ,F1,e1,e2,_⟩=>e2 e1.symm) (fun x fl a w hst hI=>?_) bd x0 b (fr n F) σ1.w hb hinv) fun e a w hp=>?_
 ·obtain ⟨c1,τ,F1,rfl,rfl,j1,j2,j3,j4⟩:=hI
  refine hs _ _ _ fl (K5 X c σ1 s0 (wl++dead)) c1 τ F1 _ hX hst j2 fun e s' c2 υ F2 hkk hle hr st hF=>?_
  have hle2:=Cx.le_trans j1 hle
  have st2:=j3.trans st
  have hF2:∀ i,a1u cd i=false->F2 i=F i:=fun i hi=>(hF i hi).trans (j4 i hi)
  have hdone:∀ e',e'=e->a3A e'≠.normal->(inj tb s0.O L.W wl L.outs e' s').bind (fun b=>some (Fl.done b))=some fl->∃ b',fl=.done b'/\Post b' (a3A e') (fr n F2) υ.w:=fun e' he hne hi=>by
   obtain ⟨b',hb',hi⟩:=bind_some hi
   cases hi
   exact ⟨b',rfl,e',s',c2,υ,F2,rfl,hne,rfl,rfl,hb',hle2,hr,st2,hF2⟩
  cases e with
  | normal =>
    obtain ⟨x',hx',hkk⟩:=bind_some hkk
    cases hkk
    obtain ⟨c5,υ',m1,m2,m3,m4⟩:=renorm c2 υ s' F2 x' hle2 hr st2 hF2 hx'
    exact ⟨rfl,c5,υ',F2,rfl,m1.symm,m2,m3,m4,hF2⟩
  | exit i=>obtain ⟨b',rfl,hp⟩:=hdone (.exit i) rfl (by simp [a3A]) hkk; exact hp
  | ret=>obtain ⟨b',rfl,hp⟩:=hdone .ret rfl (by simp [a3A]) hkk; exact hp
 ·obtain ⟨e',s',c1,τ,F1,rfl,hne,rfl,rfl,hi,hle,hr,st,hF⟩:=hp
  obtain ⟨S,W',x,g1,g2,g3⟩:=c5u hi hx
  obtain ⟨c5,τ',k1,k2,k3,k4⟩:=d4J (m:=L.m) ht h3 rfl rfl rfl hwc g1 g2 hle hr st (fun i hi=>hF i (a2t hm hi))
  rw [<- k1]
  exact hk e' _ c5 τ' F1 g3 k2 k3 (h2.trans k4) hF
theorem a2w.none_ {X:Cxt}{c:Cx}{σ:S}:a2w X c σ (fun _=>none:Obs I) []:=⟨(fun _ _ _ _ h=>by cases h),(fun _ _ _ h=>by cases h),(fun _ _ _ _ h=>by cases h),fun _ _ _ _ h=>by cases h⟩
theorem Rows.none_ {X:Cxt}{c:Cx}{σ:S}:Rows X c σ (fun _=>none:Obs I) []:=fun _ _ _ _ h=>by cases h
omit [∀ E,Rp (I E)] in
theorem c4s {O:Obs I}{l:Nat}:∀ {E:KO} {ys:c3c I E},d07 O l E=some ys->O l=some (some (b5j E ys))
 | .row E,ys,h=>by
   have h:(match O l with
    | some (some (.row E' xs false))=>a13 E E' xs
    | _=>none)=some ys:=h
   split at h
   ·rename_i E' xs e
    obtain ⟨e1,e2⟩:=a0l h
    subst e1
    subst e2
    exact e
   ·cases h
 | .map T kd,ys,h=>by
   have h:(match O l with
    | some (some (.map T' kd' m))=>a5T (T:=T) (T':=T') (kd:=kd) m
    | _=>none)=some ys:=h
   split at h
   ·rename_i T' kd' xs e
    obtain ⟨e1,e2,e3⟩:=a4W h
    subst e1
    subst e2
    subst e3
    exact e
   ·cases h
theorem d5o {X X':Cxt}{c c':Cx}{σ:S}{l:Nat}(hcl:c' l=c l):∀ {E:KO} {ys:c3c I E},X6 X' c' σ l (b5j E ys)->X6 X c σ l (b5j E ys)
 | .row E,ys,h=>by
   obtain ⟨A,k,ow,k1,k2⟩:=h
   rw [hcl] at k1
   exact ⟨A,k,ow,k1,k2⟩
 | .map T kd,ys,h=>by
   obtain ⟨b,k1,k2⟩:=h
   rw [hcl] at k1
   exact ⟨b,k1,k2⟩
omit [∀ E,Rp (I E)] in
theorem d3z:∀ (E:KO) (ys:c3c I E),a9U (some (b5j E ys))=true
 | .row _,_=>rfl
 | .map _ _,_=>rfl
theorem c8q (ht:TabOk P tb){X X':Cxt}{c c':Cx}{σ τ:S}{s0 s':St I}{F F':Fr}{l m:Nat}{E:KO}{S:List (Nat×V)}{x:TyX I S E}{pl:Pl}(h0:Rel X c σ s0 n F)(hlv:Y7 s0 l)(hpl:c l=some pl)(hr:Rel X' c' τ s' n F')
 (hcl:c' l=c l) (st:Stp X'.M σ τ) (hM:∀ b,X'.M b->X.M b) (hnot:∀ l' p g,Y7 s0 l'->l'≠l->c l'=some p->p.w=some g->¬ X'.M g) (hnotN:∀ l' i g,l'≠l->InB c σ s0.O l' i g->¬ X'.M g) (hg:c2P tb E l S s'=some x) (hF:∀ i,d9J m i=false->F' i=F i) :
 Rel X c τ (kst tb s0 m l E S x) n F':=by
 obtain ⟨ps,hps,hg⟩:=bind_some hg
 obtain ⟨y,hy,hg⟩:=bind_some hg
 obtain ⟨hb,hg⟩:=j8 hg
 obtain ⟨ys,hys,hg⟩:=bind_some hg
 cases hg
 simp only [d8p] at hb
 have hn1:=a4e hb.1
 have hn2:=a4e hb.2
 have ho:=c4s hys
 have hob:=d5o (X:=X) (c:=c) hcl (hr.objs l _ ho)
 have h1:Rel X c σ ⟨s0.n,s0.F,J0 [l] s0.O,s0.nx⟩ n F:=h0.less (fun l o ho=>(Q6 ho).2) (fun l ho=>a2W.1 ho)
 have hm1:∀ l' p g,Y7 (⟨s0.n,s0.F,J0 [l] s0.O,s0.nx⟩:St I) l'->c l'=some p->p.w=some g->¬ X'.M g:=fun l' p g ⟨o,ho'⟩ hc hw=>by
  obtain ⟨m1,m2⟩:=Q6 ho'
  exact hnot l' p g ⟨o,m2⟩ (by simpa using m1) hc hw
 have hi1:∀ g,X'.M g->notIn c σ (⟨s0.n,s0.F,J0 [l] s0.O,s0.nx⟩:St I) g:=fun g hg l' i ⟨E',v,⟨E,u,xs,q,g',kk,m',w,k1,k2⟩,k3⟩=>by
  obtain ⟨z1,z2⟩:=Q6 k1
  exact hnotN l' i g (by simpa using z1) ⟨E',v,⟨E,u,xs,q,g',kk,m',w,z2,k2⟩,k3⟩ hg
 have h2:Rel X c τ ⟨s0.n,s0.F,J0 [l] s0.O,s0.nx⟩ n F:=h1.stepG st hM hm1 hi1
 have h3:=h2.revive (l:=l) (o:=b5j E ys) (hn:=d3z E ys) hob fun p g hp hg=>⟨h0.mine l p g hlv hp hg,((h0.owned hlv hp hg).sub (fun l' E E' u xs q e=>(Q6 e).2)).step h1 st hm1 hi1,fun l' p' hne ⟨o,ho'⟩ hc' hw'=>by
  obtain ⟨m1,m2⟩:=Q6 ho'
  exact hne (h0.inj l' l p' p g ⟨o,m2⟩ hlv hc' hp hw' hg)⟩
 have hO:(Y5 (⟨s0.n,s0.F,J0 [l] s0.O,s0.nx⟩:St I) l (some (b5j E ys))).O=upF s0.O l (some (b5j E ys)):=by
  funext i
  show upF (J0 [l] s0.O) l _ i=_
  by_cases e:i=l
  ·subst e; rw [J3,J3]
  ·rw [J2 e,J2 e]
   unfold J0
   rw [a1v.2 (by simpa using e)]
   rfl
 have h4:Rel X c τ ⟨s0.n,b7E m s0.F,upF s0.O l (some (b5j E ys)),s0.nx⟩ n F':=by
  rw [<- hO]
  exact h3.frameEq fun i p hi=>by
   unfold b7E at hi
   cases hb:d9J m i with
   | true=>rw [hb] at hi; cases hi
   | false=>rw [hb] at hi; exact ⟨hi,hF i hb⟩
 obtain ⟨pls,t1,t2⟩:=b2k ht a2w.none_ Rows.none_ (ls:=y.2.1) (rows:=y.2.2) hy (fun l hl=>by rw [hn1] at hl; cases hl) (fun l hl=>by rw [hn2] at hl; cases hl) (b9U hr hps)
 rw [hn2] at t2
 have:pls=[]:=t2
 subst this
 exact Rel.asgS h4 (b6l (X:=X) (c:=c) (nb:=s0.nx) ht t1 (fun i p hp=>by simp at hp)).1
omit [∀ E,Rp (I E)] in
theorem c76 [∀ E,Rp (I E)] {sb:St I}{m l:Nat}{E:KO}{ρ:Type}{k:Ex->St I->Option ρ}{r:ρ}{e:Ex}{s':St I}:∀ {outs:List (Ex×List (Nat×V))} {b:c3p I E outs},c42 tb E l outs e s'=some b->d20 tb sb m l E k outs b=some r ->
 ∃ S,∃ x:TyX I S E,c2P tb E l S s'=some x/\k e (kst tb sb m l E S x)=some r
 | [],_,h,_=>by cases h
 | [o],x,h,h2=>by
   obtain ⟨he,h3⟩:=j8 h
   have:=b2n he
   subst this
   exact ⟨o.2,x,h3,h2⟩
 | o::o'::rs,b,h,h2=>by
   simp only [c42] at h
   cases he:b4T o.1 e with
   | true =>
     rw [he] at h
     obtain ⟨x,hx,h⟩:=bind_some h
     cases h
     have:=b2n he
     subst this
     exact ⟨o.2,x,hx,h2⟩
   | false =>
     rw [he] at h
     obtain ⟨y,hy,h⟩:=bind_some h
     cases h
     exact c76 (outs:=o'::rs) (b:=y) hy h2
theorem d3e (ht:TabOk P tb){K:KH I}{body:a7g I}{cd:Code}(hs:b3q P n body cd)(hm:a1L K.m cd=true):b3q P n (d0T tb K body) (.loop cd):=by
 intro ρ s k r X c σ F Q hX hx h hk
 unfold d0T at hx
 obtain ⟨rw_,hrw,hx⟩:=bind_some hx
 obtain ⟨x0,hx0,hx⟩:=bind_some hx
 obtain ⟨bd,hbd,hx⟩:=bind_some hx
 obtain ⟨b,hb,hx⟩:=bind_some hx
 obtain ⟨l,xs⟩:=rw_
 have hrow:s.O l=some (some (b5j K.E xs)):=by
  unfold d4v at hrw
  split at hrw
  ·obtain ⟨l',_,hrw⟩:=bind_some hrw
   obtain ⟨ys,hys,hrw⟩:=bind_some hrw
   cases hrw
   exact c4s hys
  ·cases hrw
 have hlv:Y7 s l:=⟨_,hrow⟩
 obtain ⟨pl,hpl⟩:=(h.objs l _ hrow).place
 have hE:=enter h [l]
 have hcr:roC [l] c l=c l:=by unfold roC; rw [a0C.2 (by simp)]; rfl
 have hlr:Y7 (roS [l] s) l:=⟨_,by show roO [l] s.O l=_; unfold roO; rw [a0C.2 (by simp)]; exact hrow⟩
 have hkeep:∀ {c1:Cx},Cx.le (roC [l] c) c1->c1 l=roC [l] c l:=fun hle=>by
  have:roC [l] c l=some pl:=hcr.trans hpl
  rw [hle l _ this,this]
 have hdst:∀ {F1:Fr},(∀ i,a1u cd i=false->F1 i=F i)->∀ i,d9J K.m i=false->F1 i=F i:=fun hF i hi=>hF i (a2t hm hi)
 have renorm:∀ (c1:Cx) (τ:S) (s':St I) (F1:Fr) (x:TyX I K.S K.E),Cx.le (roC [l] c) c1->Rel (K5 X c σ s [l]) c1 τ s' n F1->Stp (K5 X c σ s [l]).M σ τ->(∀ i,a1u cd i=false->F1 i=F i)->c2P tb K.E l K.S s'=some x ->
  Rel (K5 X c σ s [l]) (roC [l] c) τ (kst tb (roS [l] s) K.m l K.E K.S x) n F1:=fun c1 τ s' F1 x hle hr st hF hg =>
  c8q ht hE hlr (hcr.trans hpl) hr (hkeep hle) st (fun _ h=>h) (fun l' p g _ hne hc hw=>by
   exfalso
   unfold roC at hc
   rw [a1v.2 (by simpa using hne)] at hc
   simp only [cond_false,d9f] at hc
   obtain ⟨q,_,e⟩:=hc
   rw [<- e] at hw
   cases hw) (fun l' i g hne hb=>absurd (b9n hb) (by simpa using hne)) hg (hdst hF)
 let Inv:TyX I K.S K.E->Act->World->Prop:=fun x a w=>∃ τ F1,a=fr n F1/\w=τ.w/\Rel (K5 X c σ s [l]) (roC [l] c) τ (kst tb (roS [l] s) K.m l K.E K.S x) n F1/\Stp (K5 X c σ s [l]).M σ τ/\∀ i,a1u cd i=false->F1 i=F i
 let Post:c3p I K.E K.outs->Exit->Act->World->Prop:=fun b e a w=>∃ e' s' c1 τ F1,e=a3A e'/\a3A e'≠.normal/\a=fr n F1/\w=τ.w/\c42 tb K.E l K.outs e' s'=some b/\Cx.le (roC [l] c) c1 /\
  Rel (K5 X c σ s [l]) c1 τ s' n F1/\Stp (K5 X c σ s [l]).M σ τ/\∀ i,a1u cd i=false->F1 i=F i
 have hinv:Inv x0 (fr n F) σ.w:=⟨σ,F,rfl,rfl,renorm _ σ _ F x0 (Cx.le_refl _) hE (Stp.refl _ _) (fun _ _=>rfl) hx0,Stp.refl _ _,fun _ _=>rfl⟩
 refine wp_mono (b2m (P:=P) Inv Post (fun b a w ⟨e',s',c1,τ,F1,e1,e2,_⟩=>e2 e1.symm) (fun x fl a w hst hI=>?_) bd x0 b (fr n F) σ.w hb hinv) fun e a w hp=>?_
 ·obtain ⟨τ,F1,rfl,rfl,j2,j3,j4⟩:=hI
  refine hs _ _ _ fl (K5 X c σ s [l]) (roC [l] c) τ F1 _ hX hst j2 fun e s' c2 υ F2 hkk hle hr st hF=>?_
  have st2:=j3.trans st
  have hF2:∀ i,a1u cd i=false->F2 i=F i:=fun i hi=>(hF i hi).trans (j4 i hi)
  have hdone:∀ e',e'=e->a3A e'≠.normal->(c42 tb K.E l K.outs e' s').bind (fun b=>some (Fl.done b))=some fl->∃ b',fl=.done b'/\Post b' (a3A e') (fr n F2) υ.w:=fun e' he hne hi=>by
   obtain ⟨b',hb',hi⟩:=bind_some hi
   cases hi
   exact ⟨b',rfl,e',s',c2,υ,F2,rfl,hne,rfl,rfl,hb',hle,hr,st2,hF2⟩
  cases e with
  | normal =>
    obtain ⟨x',hx',hkk⟩:=bind_some hkk
    cases hkk
    exact ⟨rfl,υ,F2,rfl,rfl,renorm c2 υ s' F2 x' hle hr st2 hF2 hx',st2,hF2⟩
  | exit i=>obtain ⟨b',rfl,hp⟩:=hdone (.exit i) rfl (by simp [a3A]) hkk; exact hp
  | ret=>obtain ⟨b',rfl,hp⟩:=hdone .ret rfl (by simp [a3A]) hkk; exact hp
 ·obtain ⟨e',s',c1,τ,F1,rfl,hne,rfl,rfl,hi,hle,hr,st,hF⟩:=hp
  obtain ⟨S,x,g1,g3⟩:=c76 hi hx
  refine hk e' _ c τ F1 g3 (Cx.le_refl c) (c8q ht h hlv hpl hr ((hkeep hle).trans hcr) st (a6Y h [l]) (fun l' p g hl' hne' hc hw=>a9q h hl' (by simpa using hne') hc hw) (fun l' i g hne' hb=>b5Q h (by simpa using hne') hb) g1 (hdst hF)) (st.mono fun b _ hb=>a6Y h [l] b hb) hF
theorem Rel.unnS {X:Cxt}{c:Cx}{σ:S}{F:Fr}:∀ (ls:List Nat) {s:St I},Rel X c σ s n F->Rel X c σ (Qx.unnS s ls) n F
 | [],_,h=>h
 | l::r,s,h=>by
   refine Rel.unnS r ?_
   split
   ·rename_i e; exact h.plain e
   ·exact h
theorem Rel.armS {X:Cxt}{c:Cx}{σ:S}{F:Fr}:∀ (ls:List Nat) {s:St I},Rel X c σ s n F->Rel X c σ (Qx.armS s ls) n F
 | [],_,h=>h
 | l::r,s,h=>by
   refine Rel.armS r ?_
   split
   ·rename_i e; exact h.armed e
   ·exact h
theorem Rel.preS {X:Cxt}{c:Cx}{σ:S}{s:St I}{F:Fr}(h:Rel X c σ s n F)(ts:List Nat):∃ τ,τ.w=σ.w/\Stp X.M σ τ/\Rel X c τ (Qx.preS s ts) n F:=by
 have h1:=Rel.unnS (a8n s (d0P ts)) h
 obtain ⟨τ,k1,k2,k3,_⟩:=h1.pubs (O:=(Qx.unnS s (a8n s (d0P ts))).O) (fun _ _ h=>h) (a8n s (d0P ts))
 exact ⟨τ,k1,k2,Rel.armS _ k3⟩
omit [∀ E,Rp (I E)] in
theorem c3J {O:Obs I}{l:Nat}{E E':TypeId}{u:Nat}{ys:List (I E)}(h:c7j O l E=some (E',u,ys)):O l=some (some (.nst E E' u ys 0)):=by
 unfold c7j at h
 split at h
 ·rename_i e
  obtain ⟨zs,hz,h⟩:=bind_some h
  cases h
  obtain ⟨e1,e2⟩:=a0l hz
  subst e1
  subst e2
  exact e
 ·cases h
theorem d4k (ht:TabOk P tb){X X':Cxt}{cb c'':Cx}{σ τ:S}{sb s':St I}{F0 F':Fr}{O0:Obs I}{l m u:Nat}{E E':TypeId}{dead wl:List Nat}{W S:List (Nat×V)}{x:TyM I S W E}(hb:Rel X cb σ sb n F0)(hr:Rel X' c'' τ s' n F')(hM:∀ b,X'.M b->X.M b)
 (hcl:∀ l∈wl,c'' l=cb l) (hcl0:c'' l=cb l) (hlv:Y7 sb l) (hlw:l ∉ wl) (st:Stp X'.M σ τ) (hF:∀ i,d9J m i=false->F' i=F0 i)
 (hkeep:∀ l' p g,Y7 sb l'->l' ∉ wl->l' ∉ l::dead->cb l'=some p->p.w=some g->¬ X'.M g) (hkeepN:∀ l' i g,l' ∉ wl->l' ∉ l::dead->InB cb σ sb.O l' i g->¬ X'.M g)
 (hcont:∀ τ us,a7D τ cb O0 W wl us->a7D τ cb sb.O W wl us) (hg:c3o tb O0 S W wl l E E' u s'=some x) (hok:okN sb S W=true) :
 ∃ c4 τ',τ'.w=τ.w/\Cx.le cb c4/\Rel X c4 τ' (nfM tb sb m dead S W wl l E E' u x) n F'/\Stp X'.M σ τ':=by
 obtain ⟨x1,hx1,hgA⟩:=bind_some hg
 obtain ⟨⟨q1,q2,ys⟩,hq,hgB⟩:=bind_some hgA
 obtain ⟨hqq,hgC⟩:=j8 hgB
 clear hg hgA hgB
 simp only [d8p] at hqq
 have e1:=d8s hqq.1
 have e2:=d8s hqq.2
 subst e1
 subst e2
 cases hgC
 have hnst:=c3J hq
 obtain ⟨τ',pls,us,⟨a1,a2,a3⟩,ls,a4,a5,a6,a7⟩:=c58 ht hr (cb:=cb) hcl hx1
 have a3':Facts X'.M τ' cb sb.O F' S W wl x1 pls us:=⟨a3.tt,hcont _ _ a3.cont,a3.nodup,a3.own,a3.wown⟩
 obtain ⟨b1,b2,b3,b4,b5⟩:=d2A (m:=m) (dead:=l::dead) ht hb (st.trans a2) hM hF hkeep hkeepN a3' (c7T hok x1)
 have hol:=a7 _ _ hnst (fun _ _ e=>by cases e)
 have hliv:Y7 (Z8 s' s'.O ls) l:=⟨_,hol⟩
 obtain ⟨A,k,ow,k1,k2⟩:=a4.objs l _ hol
 have hN:=a4.nst
 have hc4:V6 cb sb.nx pls l=some ⟨A,k,ys.length,ow⟩:=by
  obtain ⟨o,ho⟩:=hlv
  rw [b5 l (by rw [ho]; simp),<- hcl0,k1]
 have hwho:∀ g,X'.M g->(∀ l',l'∈wl->∀ p,c'' l'=some p->p.w≠some g)->(∀ l2 p,Y7 (Z8 s' s'.O ls) l2->l2≠l->c'' l2=some p->p.w≠some g)->∀ l' p',Y7 (nfS tb sb m (l::dead) S W wl x1) l'->V6 cb sb.nx pls l'=some p'->p'.w≠some g:=fun g hg h1 h2 l' p' hl' hc' hw'=>by
  rcases b4 l' hl' with hw | ⟨_,pl,hp,hpl⟩ | ⟨m1,m2,m3⟩
  ·have hcb:c'' l'=some p':=by
    have hl0:∃ p0,c'' l'=some p0:=by
     obtain ⟨T,vs,w,ho⟩:=a6 l' hw
     exact (hr.objs l' _ ho).place
    obtain ⟨p0,e0⟩:=hl0
    have:=b1 l' p0 (by rw [<- hcl l' hw]; exact e0)
    rw [hc'] at this
    cases this; exact e0
   exact h1 l' hw p' hcb hw'
  ·rw [hpl] at hc'
   cases hc'
   obtain ⟨l2,p2,⟨o2,ho2,hrm⟩,c2,w2⟩:=a5 g (b2p.2 ⟨_,hp,hw'⟩)
   exact h2 l2 p2 ⟨_,ho2⟩ (fun e=>by subst e; rw [hol] at ho2; cases ho2; cases hrm) c2 w2
  ·have hcb:cb l'=some p':=by
    obtain ⟨o,ho⟩:=m1
    rw [<- b5 l' (by rw [ho]; simp)]; exact hc'
   exact hkeep l' p' g m1 m2 m3 hcb hw' hg
 have hwlive:∀ l',l'∈wl->Y7 (Z8 s' s'.O ls) l':=fun l' hw=>by
  obtain ⟨T,vs,w,ho⟩:=a6 l' hw
  exact ⟨_,a7 _ _ ho (fun _ _ e=>by cases e)⟩
 refine ⟨_,τ',a1,b1,?_,st.trans a2⟩
 refine b2.reviveN (pl:=⟨A,k,ys.length,ow⟩) ?_ hc4 ⟨A,k,ow,hc4,k2⟩ (fun g hg=>?_) (fun i hi=>?_) (fun i g v b hi hA hv hb'=>?_) (fun i i' g v v' b hi hi' hA hv hv' hb1 hb2=>?_)
 ·intro hl
  rcases b4 l hl with hw | ⟨hn0,_⟩ | ⟨m1,m2,m3⟩
  ·exact hlw hw
  ·obtain ⟨o,ho⟩:=hlv
   rw [hn0] at ho; cases ho
  ·exact m3 (by simp)
 ·have hg:ow=some g:=hg
  have hMg:X'.M g:=a4.mine l _ g hliv k1 hg
  refine ⟨hM _ hMg,b3 g hMg,hwho g hMg (fun l' hw p hp hw'=>?_) fun l2 p hl2 hne hp hw'=>?_⟩
  ·exact hlw (by rw [<- a4.inj l' l p _ g (hwlive l' hw) hliv hp k1 hw' hg]; exact hw)
  ·exact hne (a4.inj l2 l p _ g hl2 hliv hp k1 hw' hg)
 ·obtain ⟨v,⟨E1,u1,xs1,q3,g,kk,mm,w,z1,z2,z3,z4,z5⟩,z6⟩:=hN.opn l _ _ _ _ 0 hol i hi (by omega)
  rw [hol] at z1
  cases z1
  rw [k1] at z2
  cases z2
  exact ⟨g,v,rfl,z5,z6⟩
 ·have hA:A=some ⟨g,0,none⟩:=hA
  subst hA
  have hin:InB c'' τ' (Z8 s' s'.O ls).O l i b:=⟨_,v,⟨_,_,_,0,g,_,_,_,hol,k1,hi,by omega,hv⟩,hb'⟩
  have hMb:=hN.mine l i b hin
  refine ⟨hM _ hMb,b3 b hMb,hwho b hMb (fun l' hw p hp=>?_) (fun l2 p ⟨o,ho⟩ _ hp=>hN.free l i b hin l2 o p ho hp),hN.free l i b hin l _ _ hol k1⟩
  obtain ⟨o,ho⟩:=hwlive l' hw
  exact hN.free l i b hin l' o p ho hp
 ·have hA:A=some ⟨g,0,none⟩:=hA
  subst hA
  exact (hN.inj l i b l i' ⟨_,v,⟨_,_,_,0,g,_,_,_,hol,k1,hi,by omega,hv⟩,hb1⟩ ⟨_,v',⟨_,_,_,0,g,_,_,_,hol,k1,hi',by omega,hv'⟩,hb2⟩).2
omit [∀ E,Rp (I E)] in
theorem c8T [∀ E,Rp (I E)] {O0:Obs I}{W:List (Nat×V)}{wl:List Nat}{sb:St I}{m l u:Nat}{E E':TypeId}{dead:List Nat}{ρ:Type}{k:Ex->St I->Option ρ}{r:ρ}{e:Ex}{s':St I}:∀ {outs:List (Ex×List (Nat×V))} {b:c2T I W E outs},c5w tb O0 W wl l E E' u outs e s'=some b->d24 tb sb m dead W wl l E E' u k outs b=some r ->
 ∃ S,∃ x:TyM I S W E,c3o tb O0 S W wl l E E' u s'=some x/\okN sb S W=true/\k e (nfM tb sb m dead S W wl l E E' u x)=some r
 | [],_,h,_=>by cases h
 | [o],x,h,h2=>by
   obtain ⟨he,h3⟩:=j8 h
   obtain ⟨hn,h4⟩:=j8 h2
   have:=b2n he
   subst this
   exact ⟨o.2,x,h3,hn,h4⟩
 | o::o'::rs,b,h,h2=>by
   simp only [c5w] at h
   cases he:b4T o.1 e with
   | true =>
     rw [he] at h
     obtain ⟨x,hx,h⟩:=bind_some h
     cases h
     have h2':(bif okN sb o.2 W then k o.1 (nfM tb sb m dead o.2 W wl l E E' u x) else none)=some r:=h2
     obtain ⟨hn,h2'⟩:=j8 h2'
     have:=b2n he
     subst this
     exact ⟨o.2,x,hx,hn,h2'⟩
   | false =>
     rw [he] at h
     obtain ⟨y,hy,h⟩:=bind_some h
     cases h
     exact c8T (outs:=o'::rs) (b:=y) hy h2
theorem d3S (ht:TabOk P tb){N:NH I}{body:a7g I}{cd:Code}(hs:b3q P n body cd)(hm:a1L N.L.m cd=true):b3q P n (d1z tb N body) (.loop cd):=by
 intro ρ s k r X c σ F Q hX hx h hk
 unfold d1z at hx
 obtain ⟨wl,hwl,hx⟩:=bind_some hx
 obtain ⟨q,hq,hx⟩:=bind_some hx
 obtain ⟨hok,hx⟩:=j8 hx
 obtain ⟨x0,hx0,hx⟩:=bind_some hx
 obtain ⟨bd,hbd,hx⟩:=bind_some hx
 obtain ⟨b,hb,hx⟩:=bind_some hx
 obtain ⟨σ1,h1,h2,h3,_⟩:=h.pubs (O:=s.O) (fun _ _ h=>h) (a8n s N.L.pub)
 rw [<- h1]
 have hwc:=c5S h3 hwl
 obtain ⟨l,E',u,xs⟩:=q
 have hnst:(Z8 s s.O (a8n s N.L.pub)).O l=some (some (.nst N.E E' u xs 0)):=by
  unfold d2z at hq
  split at hq
  ·obtain ⟨q',hq',hq⟩:=bind_some hq
   cases hq
   exact c3J hq'
  ·cases hq
 simp only [d8p,d9N] at hok
 obtain ⟨hok,hlw⟩:=hok
 have hlw:=a1v.1 hlw
 revert hok hx0 hb hx hnst
 generalize hs0:Z8 s s.O (a8n s N.L.pub)=s0 at *
 change Rel X c σ1 s0 n F at h3
 generalize hdead:b6H s0 (N.L.head.map (·.1)++a9Z N.L.outs) wl=dead
 intro hx0 hb hx hnst hok
 generalize hown:wl++l::dead=own at *
 have hin:∀ l'∈wl,l'∈own:=fun l' hl'=>by rw [<- hown]; simp [hl']
 have hinl:l∈own:=by rw [<- hown]; simp
 have hnot:∀ l',l' ∉ wl->l' ∉ l::dead->l' ∉ own:=fun l' a b=>by rw [<- hown,d8y,not_or]; exact ⟨a,b⟩
 have hE:=enter h3 own
 have hro:∀ {l'},l'∈own->roC own c l'=c l':=fun hl=>by unfold roC; rw [a0C.2 hl]; rfl
 have hclg:∀ {c1:Cx},Cx.le (roC own c) c1->∀ l'∈own,(∃ p,c l'=some p)->c1 l'=roC own c l':=fun hle l' hl ⟨p,hp⟩=>by
  have:roC own c l'=some p:=(hro hl).trans hp
  rw [hle l' p this,this]
 have hpl:∃ p,c l=some p:=(h3.objs l _ hnst).place
 have hlv:Y7 s0 l:=⟨_,hnst⟩
 have hlr:Y7 (roS own s0) l:=⟨_,by show roO own s0.O l=_; unfold roO; rw [a0C.2 hinl]; exact hnst⟩
 have hcontO:∀ {τ:S} {W:List (Nat×V)} {wl':List Nat} {us:List Value},(∀ l∈wl',l∈wl)->a7D τ (roC own c) s0.O W wl' us->a7D τ (roC own c) (roO own s0.O) W wl' us:=by
  intro τ W
  induction W with
  | nil =>
    intro wl' us _ hc
    cases wl'<;>exact hc
  | cons w r ih =>
    intro wl' us hw hc
    cases wl' with
    | nil=>exact hc
    | cons l ls =>
      obtain ⟨u,us',b,T,vs,w',cs,e1,e2,e3,e4,e5,e6,e7⟩:=hc
      refine ⟨u,us',b,T,vs,w',cs,e1,?_,e3,e4,e5,e6,ih (fun l' hl'=>hw l' (by simp [hl'])) e7⟩
      unfold roO
      rw [a0C.2 (hin l (hw l (by simp)))]
      exact e2
 have renorm:∀ (c1:Cx) (τ:S) (s':St I) (F1:Fr) (x:TyM I N.L.head N.L.W N.E),Cx.le (roC own c) c1->Rel (K5 X c σ1 s0 own) c1 τ s' n F1->Stp (K5 X c σ1 s0 own).M σ1 τ->(∀ i,a1u cd i=false->F1 i=F i)->c3o tb s0.O N.L.head N.L.W wl l N.E E' u s'=some x ->
  ∃ c4 τ',τ'.w=τ.w/\Cx.le (roC own c) c4/\Rel (K5 X c σ1 s0 own) c4 τ' (nfM tb (roS own s0) N.L.m dead N.L.head N.L.W wl l N.E E' u x) n F1/\Stp (K5 X c σ1 s0 own).M σ1 τ':=by
  intro c1 τ s' F1 x hle hr st hF hg
  refine d4k ht hE hr (fun _ h=>h) (fun l' hl'=>hclg hle l' (hin l' hl') (hwc l' hl')) (hclg hle l hinl hpl) hlr hlw st (fun i hi=>hF i (a2t hm hi)) (fun l' p g _ hnw hnd hc hw=>?_) (fun l' i g hnw hnd hb=>absurd (b9n hb) (hnot l' hnw hnd)) (fun τ us hc=>hcontO (fun _ h=>h) hc) hg hok
  exfalso
  unfold roC at hc
  rw [a1v.2 (hnot l' hnw hnd)] at hc
  simp only [cond_false,d9f] at hc
  obtain ⟨q,_,e⟩:=hc
  rw [<- e] at hw
  cases hw
 let Inv:TyM I N.L.head N.L.W N.E->Act->World->Prop:=fun x a w=>∃ c1 τ F1,a=fr n F1/\w=τ.w/\Cx.le (roC own c) c1/\Rel (K5 X c σ1 s0 own) c1 τ (nfM tb (roS own s0) N.L.m dead N.L.head N.L.W wl l N.E E' u x) n F1 /\
  Stp (K5 X c σ1 s0 own).M σ1 τ/\∀ i,a1u cd i=false->F1 i=F i
 let Post:c2T I N.L.W N.E N.L.outs->Exit->Act->World->Prop:=fun b e a w=>∃ e' s' c1 τ F1,e=a3A e'/\a3A e'≠.normal/\a=fr n F1/\w=τ.w/\c5w tb s0.O N.L.W wl l N.E E' u N.L.outs e' s'=some b/\Cx.le (roC own c) c1 /\
  Rel (K5 X c σ1 s0 own) c1 τ s' n F1/\Stp (K5 X c σ1 s0 own).M σ1 τ/\∀ i,a1u cd i=false->F1 i=F i
 obtain ⟨c4,σ2,i1,i2,i3,i4⟩:=renorm _ σ1 _ F x0 (Cx.le_refl _) hE (Stp.refl _ _) (fun _ _=>rfl) hx0
 have hinv:Inv x0 (fr n F) σ1.w:=⟨c4,σ2,F,rfl,i1.symm,i2,i3,i4,fun _ _=>rfl⟩
 refine wp_mono (b2m (P:=P) Inv Post (fun b a w ⟨e',s',c1,τ,F1,e1,e2,_⟩=>e2 e1.symm) (fun x fl a w hst hI=>?_) bd x0 b (fr n F) σ1.w hb hinv) fun e a w hp=>?_
 ·obtain ⟨c1,τ,F1,rfl,rfl,j1,j2,j3,j4⟩:=hI
  refine hs _ _ _ fl (K5 X c σ1 s0 own) c1 τ F1 _ hX hst j2 fun e s' c2 υ F2 hkk hle hr st hF=>?_
  have hle2:=Cx.le_trans j1 hle
  have st2:=j3.trans st
  have hF2:∀ i,a1u cd i=false->F2 i=F i:=fun i hi=>(hF i hi).trans (j4 i hi)
  have hdone:∀ e',e'=e->a3A e'≠.normal->(c5w tb s0.O N.L.W wl l N.E E' u N.L.outs e' s').bind (fun b=>some (Fl.done b))=some fl->∃ b',fl=.done b'/\Post b' (a3A e') (fr n F2) υ.w:=fun e' he hne hi=>by
   obtain ⟨b',hb',hi⟩:=bind_some hi
   cases hi
   exact ⟨b',rfl,e',s',c2,υ,F2,rfl,hne,rfl,rfl,hb',hle2,hr,st2,hF2⟩
  cases e with
  | normal =>
    obtain ⟨x',hx',hkk⟩:=bind_some hkk
    cases hkk
    obtain ⟨c5,υ',m1,m2,m3,m4⟩:=renorm c2 υ s' F2 x' hle2 hr st2 hF2 hx'
    exact ⟨rfl,c5,υ',F2,rfl,m1.symm,m2,m3,m4,hF2⟩
  | exit i=>obtain ⟨b',rfl,hp⟩:=hdone (.exit i) rfl (by simp [a3A]) hkk; exact hp
  | ret=>obtain ⟨b',rfl,hp⟩:=hdone .ret rfl (by simp [a3A]) hkk; exact hp
 ·obtain ⟨e',s',c1,τ,F1,rfl,hne,rfl,rfl,hi,hle,hr,st,hF⟩:=hp
  obtain ⟨S,x,g1,g2,g3⟩:=c8T hi hx
  obtain ⟨c5,τ',k1,k2,k3,k4⟩:=d4k (dead:=dead) (m:=N.L.m) ht h3 hr (a6Y h3 own) (fun l' hl'=>(hclg hle l' (hin l' hl') (hwc l' hl')).trans (hro (hin l' hl'))) ((hclg hle l hinl hpl).trans (hro hinl)) hlv hlw st (fun i hi=>hF i (a2t hm hi))
   (fun l' p g hl' hnw hnd hc hw=>a9q h3 hl' (hnot l' hnw hnd) hc hw) (fun l' i g hnw hnd hb=>b5Q h3 (hnot l' hnw hnd) hb) (fun _ _ hc=>hc) g1 g2
  rw [<- k1]
  exact hk e' _ c5 τ' F1 g3 k2 k3 (h2.trans (k4.mono fun b _ hb=>a6Y h3 own b hb)) hF
theorem a1r (ht:TabOk P tb)(hd:DispOk P disp)(hmx:P.follows .mixedOrders=true):∀ (cd:Code) (p:Nat),a1m H cd p=true->b3q P n (a21 tb disp H cd p) cd
 | .region id ops drw,p,hc=>by
   simp only [a1m,d8p] at hc
   refine b2B ht (fun ρ s k r X c σ F Q hX hx h hk=>?_) hc.1
   have e:ops=ops.toList.toArray:=by simp
   rw [e]
   obtain ⟨σ1,h1,h2,h3⟩:=h.preS (H.pre id)
   rw [<- h1]
   refine d1Z ht hd hX hmx (fun hdrw=>?_) hx h3 fun s' c' τ F' g1 g2 g3 g4 g5=>hk .normal s' c' τ F' g1 g2 g3 (h2.trans g4) fun i hi=>g5 i (by simpa [a1u,c8D] using hi)
   have:=hc.2
   rw [hdrw] at this
   simpa using this
 | .seq a b,p,hc=>by
   simp only [a1m,d8p] at hc
   refine b2B ht (fun ρ s k r X c σ F Q hX hx h hk=>?_) hc.1.1
   have hdst:∀ {i},a1u (.seq a b) i=false->a1u a i=false/\a1u b i=false:=fun hi=>by simpa [a1u] using hi
   refine wp_seq (a1r ht hd hmx a (2*p) hc.1.2 ρ s _ r X c σ F _ hX hx h fun e s' c' τ F' g1 g2 g3 g4 g5=>?_)
   cases e with
   | normal=>exact a1r ht hd hmx b (2*p+1) hc.2 ρ s' k r X c' τ F' Q hX g1 g3 fun e s2 c2 υ F2 m1 m2 m3 m4 m5=>hk e s2 c2 υ F2 m1 (Cx.le_trans g2 m2) m3 (g4.trans m4) fun i hi=>(m5 i (hdst hi).2).trans (g5 i (hdst hi).1)
   | exit i=>exact hk (.exit i) s' c' τ F' g1 g2 g3 g4 fun i hi=>g5 i (hdst hi).1
   | ret=>exact hk .ret s' c' τ F' g1 g2 g3 g4 fun i hi=>g5 i (hdst hi).1
 | .cond t a b,p,hc=>by
   simp only [a1m,d8p] at hc
   refine b2B ht (fun ρ s k r X c σ F Q hX hx h hk=>?_) hc.1.1
   have hdst:∀ {i},a1u (.cond t a b) i=false->a1u a i=false/\a1u b i=false:=fun hi=>by simpa [a1u] using hi
   obtain ⟨q,hq,hx⟩:=bind_some hx
   rw [h.len] at hq
   obtain ⟨h1,h2⟩:=b2Z h.frame hq
   split at hx
   ·rename_i bb
    simp only [RV] at h2
    cases bb with
    | true=>exact wp_cond_true ((w8 h1).trans h2) (a1r ht hd hmx a (2*p) hc.1.2 ρ s k r X c σ F Q hX hx h fun e s' c' τ F' g1 g2 g3 g4 g5=>hk e s' c' τ F' g1 g2 g3 g4 fun i hi=>g5 i (hdst hi).1)
    | false=>exact wp_cond_false ((w8 h1).trans h2) (a1r ht hd hmx b (2*p+1) hc.2 ρ s k r X c σ F Q hX hx h fun e s' c' τ F' g1 g2 g3 g4 g5=>hk e s' c' τ F' g1 g2 g3 g4 fun i hi=>g5 i (hdst hi).2)
   ·cases hx
 | .block id a,p,hc=>by
   simp only [a1m,d8p] at hc
   refine b2B ht (fun ρ s k r X c σ F Q hX hx h hk=>?_) hc.1
   refine wp_block (a1r ht hd hmx a (2*p) hc.2 ρ s _ r X c σ F _ hX hx h fun e s' c' τ F' g1 g2 g3 g4 g5=>?_)
   cases e with
   | normal=>exact hk .normal s' c' τ F' g1 g2 g3 g4 g5
   | exit j =>
     show (if j=id then Q .normal (fr n F') τ.w else Q (.exit j) (fr n F') τ.w)
     cases hb:d8u j id with
     | true =>
       have g1':(bif d8u j id then k .normal s' else k (.exit j) s')=some r:=g1
       rw [hb] at g1'
       rw [if_pos (d8s hb)]
       exact hk .normal s' c' τ F' g1' g2 g3 g4 g5
     | false =>
       have g1':(bif d8u j id then k .normal s' else k (.exit j) s')=some r:=g1
       rw [hb] at g1'
       rw [if_neg (fun e=>by subst e; simp at hb)]
       exact hk (.exit j) s' c' τ F' g1' g2 g3 g4 g5
   | ret=>exact hk .ret s' c' τ F' g1 g2 g3 g4 g5
 | .loop a,p,hc=>by
   simp only [a1m,d8p] at hc
   refine b2B ht (fun ρ s k r X c σ F Q hX hx h hk=>?_) hc.1
   split at hx
   ·rename_i L hL
    have hm:a1L L.m a=true:=by
     have:=hc.1
     simp only [a7J,hL,d8p] at this
     exact this.1.1.2
    exact d30 ht (a1r ht hd hmx a (2*p) hc.2) hm ρ s k r X c σ F Q hX hx h hk
   ·split at hx
    ·rename_i K hK
     have hm:a1L K.m a=true:=by
      have:=hc.1
      simp only [a7J,hK,d8p] at this
      exact this.1.2
     exact d3e ht (a1r ht hd hmx a (2*p) hc.2) hm ρ s k r X c σ F Q hX hx h hk
    ·split at hx
     ·rename_i N hN
      have hm:a1L N.L.m a=true:=by
       have:=hc.1
       simp only [a7J,hN,d8p] at this
       exact this.2
      exact d3S ht (a1r ht hd hmx a (2*p) hc.2) hm ρ s k r X c σ F Q hX hx h hk
     ·exact d33 (a1r ht hd hmx a (2*p) hc.2) _ ρ s k r X c σ F Q hX hx h hk
 | .exit i,_,_=>fun ρ s k r X c σ F Q hX hx h hk=>wp_exit (hk (.exit i) s c σ F hx (Cx.le_refl c) h (Stp.refl _ _) fun _ _=>rfl)
 | .ret,_,_=>fun ρ s k r X c σ F Q hX hx h hk=>wp_ret (hk .ret s c σ F hx (Cx.le_refl c) h (Stp.refl _ _) fun _ _=>rfl)
 | .skip,_,_=>fun ρ s k r X c σ F Q hX hx h hk=>wp_skip (hk .normal s c σ F hx (Cx.le_refl c) h (Stp.refl _ _) fun _ _=>rfl)
 | .rangeFunc _ _ _ _,_,_=>fun _ _ _ _ _ _ _ _ _ _ hx=>by cases hx
 | .scope _,_,_=>fun _ _ _ _ _ _ _ _ _ _ hx=>by cases hx
 | .label _,_,_=>fun _ _ _ _ _ _ _ _ _ _ hx=>by cases hx
 | .goto _,_,_=>fun _ _ _ _ _ _ _ _ _ _ hx=>by cases hx
 | .refuse _,_,_=>fun _ _ _ _ _ _ _ _ _ _ hx=>by cases hx
end
end Go.Qx
end

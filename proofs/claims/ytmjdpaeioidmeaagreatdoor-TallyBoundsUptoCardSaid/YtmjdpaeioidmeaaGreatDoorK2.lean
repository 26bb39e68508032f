/- Part 2. -/
import Derived.Test.YtmjdpaeioidmeaaGreatDoorK0
import Derived.Test.YtmjdpaeioidmeaaGreatDoorK1
import Derived.ChangeKeysEq
import Derived.Shelf.SlSortCmp.NoneTotal
import Derived.Shelf.Slices.In.SortNone
import Derived.Shelf.Sort.Plain
import Derived.Shelf.Strconv.Itoa3
import Derived.Shelf.Strings.Builder1
section
open List renaming append_assoc->d8E,getElem?_eq_getElem->d8n,getElem_mem->d8B,length->d98,mem_append->d8y,nil_append->d9y,nodup_append->d87,toArray->d84
open Nat renaming beq->d8u,blt->d8V,le_refl->d8r
namespace Go.Qx
open Go Go.RowKit Go.Sx
inductive Pk where
 | d (k:Kd)
 | var (T:TypeId) (v:V) (w:Bool)
 | row (E:TypeId) (fl:Bool)
 | fn (ks:List Kd) (rs:List V)
 | bor (E:TypeId)
 | val (v:V)
 | lnt (ks:List K)
section
variable (I:TypeId->Type)
abbrev TyP:Pk->Type
 | .d k=>Ty I k
 | .var _ v _=>TyV I v
 | .row E _=>List (I E)
 | .fn ks rs=>Fun I ks (TyT I rs)
 | .bor E=>List (I E)
 | .val v=>TyV I v
 | .lnt ks=>a36 I ks
abbrev a2f:List Pk->Type
 | []=>Unit
 | p::r=>TyP I p×a2f r
abbrev c2K:List Pk->Type->Type
 | [],R=>Option R
 | p::r,R=>TyP I p->c2K r R
end
def Q0:List Pk->List V
 | []=>[]
 | .var _ v true::r=>v::Q0 r
 | _::r=>Q0 r
section
variable {I:TypeId->Type}
def b3e {R:Type}:(ps:List Pk)->c2K I ps R->a2f I ps->Option R
 | [],g,_=>g
 | _::r,g,q=>b3e r (g q.1) q.2
def b7j {R:Type}:(ps:List Pk)->(a2f I ps->Option R)->c2K I ps R
 | [],g=>g ()
 | _::r,g=>fun x=>b7j r fun q=>g (x,q)
theorem b7z {R:Type}:∀ (ps:List Pk) (g:a2f I ps->Option R) (q:a2f I ps),b3e ps (b7j ps g) q=g q
 | [],_,_=>rfl
 | _::r,g,q=>b7z r (fun q'=>g (q.1,q')) q.2
structure Row (I:TypeId->Type) where
 f:FuncId
 ps:List Pk
 rs:List V
 run:c2K I ps (TyT I (rs++Q0 ps))
variable [∀ E,Rp (I E)]
def c08 (v:V)(cs:List Value)(u:Value):Prop:=bif a8p v then u=.agg cs.toArray else cs=[u]
def d8h (P:Program)(M:Nat->Prop)(σ:S):(p:Pk)->TyP I p->Value->List Pl->Prop
 | .d k,x,v,pls=>DV σ k x v/\pls=[]
 | .var T vk w,x,v,pls=>∃ b cs u p2,v=.pointer (some ⟨b,0,none⟩)/\σ.w.heap[b]?=some (.cells cs.toArray T (0,0))/\c08 vk cs u/\TV σ vk x u p2/\(w=true->(σ.L b).1=0)/\(w=false->¬ M b) /\
    pls=⟨some ⟨b,0,none⟩,0,0,bif w then some b else none⟩::p2
 | .row E fl,xs,v,pls=>∃ A k ow,v=.slice A (xs:List (I E)).length k/\a0a ow fl E σ (xs:List (I E)) A k/\pls=[⟨A,k,(xs:List (I E)).length,ow⟩]
 | .fn ks rs,g,v,pls=>∃ f d8k cs,v=.func (.func f) (d84 d8k) (d84 cs)/\d3p P M σ f d8k cs ks rs g/\pls=[]
 | .bor E,xs,v,pls=>∃ A k,v=.slice A (xs:List (I E)).length k/\Bor M σ (xs:List (I E)) A/\pls=[⟨A,k,(xs:List (I E)).length,none⟩]
 | .val vk,x,v,pls=>TV σ vk x v pls
 | .lnt ks,x,v,pls=>b4l ks=true/\∃ cs,v=.agg cs.toArray/\LKs M σ ks x cs pls
def a7o (P:Program)(M:Nat->Prop)(σ:S):(ps:List Pk)->a2f I ps->List Value->List Pl->Prop
 | [],_,vs,pls=>vs=[]/\pls=[]
 | p::r,q,vs,pls=>∃ v vs' p1 p2,vs=v::vs'/\pls=p1++p2/\d8h P M σ p q.1 v p1/\a7o P M σ r q.2 vs' p2
def c70 (τ:S):List Pk->List Value->List Value->Prop
 | [],[],us=>us=[]
 | .var T v true::r,u0::vs,us=>∃ b cs u us',u0=.pointer (some ⟨b,0,none⟩)/\us=u::us'/\τ.w.heap[b]?=some (.cells cs.toArray T (0,0))/\(τ.L b).1=0/\c08 v cs u/\c70 τ r vs us'
 | _::r,_::vs,us=>c70 τ r vs us
 | _,_,_=>False
def a0Y:List Pk->List Value->List Nat
 | .var _ _ true::r,.pointer (some ⟨b,_,_⟩)::vs=>b::a0Y r vs
 | _::r,_::vs=>a0Y r vs
 | _,_=>[]
structure Post (σ τ:S)(ps:List Pk)(rs:List V)(vs:List Value)(res:TyT I (rs++Q0 ps))(gr:List Nat)(v:Value)(ws us:List Value)(pls:List Pl):Prop where
 ret:v=a4Y ws
 len:ws.length=rs.length
 tt:TT τ (rs++Q0 ps) res (ws++us) pls
 out:c70 τ ps vs us
 nodup:(ows pls).Nodup
 own:∀ g∈ows pls,(σ.N<=g\/g∈gr)/\g ∉ a0Y ps vs
def Z3 (P:Program)(r:Row I):Prop:=∀ (σ:S) (a:a2f I r.ps) (vs:List Value) (pls:List Pl) (res:TyT I (r.rs++Q0 r.ps)),
 a7o P (fun b=>σ.N<=b\/b∈ows pls) σ r.ps a vs pls->(ows pls).Nodup->b3e r.ps r.run a=some res ->
  a0Z P r.f vs σ (Stp (fun b=>b∈ows pls) σ) fun v τ=>∃ ws us pls',Post σ τ r.ps r.rs vs res (ows pls) v ws us pls'
def a26 (P:Program)(r:Row I)(C:World->List Value->Prop):Prop:=∀ (σ:S) (a:a2f I r.ps) (vs:List Value) (pls:List Pl) (res:TyT I (r.rs++Q0 r.ps)),
 a7o P (fun b=>σ.N<=b\/b∈ows pls) σ r.ps a vs pls->C σ.w vs->(ows pls).Nodup->b3e r.ps r.run a=some res ->
  a0Z P r.f vs σ (Stp (fun b=>b∈ows pls) σ) fun v τ=>∃ ws us pls',Post σ τ r.ps r.rs vs res (ows pls) v ws us pls'
def a0W (tb:Tab I):Nat->(ps:List Pk)->a2f I ps->List (PV I)
 | _,[],_=>[]
 | nb,.d k::r,q=>a7B tb k q.1::a0W tb nb r q.2
 | nb,.var _ v _::r,q=>.ptr nb 0::a0W tb (nb+1+cnV v) r q.2
 | nb,.row _ _::r,q=>.vw nb::a0W tb (nb+1) r q.2
 | nb,.fn ks rs::r,q=>.fn ks rs q.1::a0W tb nb r q.2
 | nb,.bor _::r,q=>.vw nb::a0W tb (nb+1) r q.2
 | nb,.val v::r,q=>pvV tb nb v q.1::a0W tb (nb+cnV v) r q.2
 | nb,.lnt ks::r,q=>.agg (a83 tb nb ks q.1)::a0W tb (nb+a6X ks) r q.2
def b5s (tb:Tab I):Nat->(ps:List Pk)->a2f I ps->Obs I->Obs I
 | _,[],_,O=>O
 | nb,.d _::r,q,O=>b5s tb nb r q.2 O
 | nb,.var T v w::r,q,O=>b5s tb (nb+1+cnV v) r q.2 (upF (a0d O (nb+1) (obV v q.1)) nb (some (.var T (a7j v (pvV tb (nb+1) v q.1)) w)))
 | nb,.row E fl::r,q,O=>b5s tb (nb+1) r q.2 (upF O nb (some (.row E q.1 fl)))
 | nb,.fn _ _::r,q,O=>b5s tb nb r q.2 O
 | nb,.bor E::r,q,O=>b5s tb (nb+1) r q.2 (upF O nb (some (.bo E q.1)))
 | nb,.val v::r,q,O=>b5s tb (nb+cnV v) r q.2 (a0d O nb (obV v q.1))
 | nb,.lnt ks::r,q,O=>b5s tb (nb+a6X ks) r q.2 (a0d O nb (b9v ks q.1))
def b9L:List Pk->Nat
 | []=>0
 | .d _::r=>b9L r
 | .var _ v _::r=>1+cnV v+b9L r
 | .row _ _::r=>1+b9L r
 | .fn _ _::r=>b9L r
 | .bor _::r=>1+b9L r
 | .val v::r=>cnV v+b9L r
 | .lnt ks::r=>a6X ks+b9L r
def a9N (tb:Tab I)(s:St I):List ResultVar->Option (List (PV I))
 | []=>some []
 | .tmp t::r=>bif d8V t s.n then (s.F t).bind fun p=>(a9N tb s r).bind fun ps=>some (p::ps) else none
 | .cell t T::r=>bif d8V t s.n then (match s.F t with
   | some (.ptr l 0)=>match s.O l with
     | some (some (.var _ ls _))=>(a6E tb T ls 0).bind fun p=>(a9N tb s r).bind fun ps=>some (p::ps)
     | _=>none
   | _=>none) else none
def a4b (s:St I):Nat->List Pk->Option (List (PV I))
 | _,[]=>some []
 | nb,.var T v true::r=>match s.O nb with
   | some (some (.var T' ls true))=>bif d8u T T' then (c0U v ls).bind fun p=>(a4b s (nb+1+cnV v) r).bind fun ps=>some (p::ps) else none
   | _=>none
 | nb,.var _ v false::r=>a4b s (nb+1+cnV v) r
 | nb,.row _ _::r=>a4b s (nb+1) r
 | nb,.d _::r=>a4b s nb r
 | nb,.fn _ _::r=>a4b s nb r
 | nb,.bor _::r=>a4b s (nb+1) r
 | nb,.val v::r=>a4b s (nb+cnV v) r
 | nb,.lnt ks::r=>a4b s (nb+a6X ks) r
def a7s:Nat->List Pk->List Nat
 | _,[]=>[]
 | nb,.var _ v true::r=>nb::a7s (nb+1+cnV v) r
 | nb,.var _ v false::r=>a7s (nb+1+cnV v) r
 | nb,.row _ _::r=>a7s (nb+1) r
 | nb,.d _::r=>a7s nb r
 | nb,.fn _ _::r=>a7s nb r
 | nb,.bor _::r=>a7s (nb+1) r
 | nb,.val v::r=>a7s (nb+cnV v) r
 | nb,.lnt ks::r=>a7s (nb+a6X ks) r
def fin (tb:Tab I)(ps:List Pk)(rs:List V)(results:List ResultVar):Ex->St I->Option (TyT I (rs++Q0 ps)):=fun e s=>match e with
 | .exit _=>none
 | _=>(a9N tb s results).bind fun a=>(a4b s 0 ps).bind fun b=>(a3D tb s.O (rs++Q0 ps) (a++b)).bind fun x=>bif a72 (x.2.1++a7s 0 ps) x.2.2&&d8u a.length rs.length then some x.1 else none
def a6A (tb:Tab I)(nt:Nat)(ps:List Pk)(a:a2f I ps):St I:=⟨nt,fun i=>(a0W tb 0 ps a)[i]?,b5s tb 0 ps a (fun _=>none),b9L ps⟩
def d4B (tb:Tab I)(disp:a0f I)(H:Hints I)(cd:Code)(nt:Nat)(ps:List Pk)(rs:List V)(results:List ResultVar)(a:a2f I ps):Option (TyT I (rs++Q0 ps)) :=
 a21 tb disp H cd 1 (TyT I (rs++Q0 ps)) (a6A tb nt ps a) (fin tb ps rs results)
variable {P:Program}{tb:Tab I}{X:Cxt}{c c':Cx}{σ τ:S}{n:Nat}{F:Fr}
theorem d3d (ht:TabOk P tb){v:V}{x:TyV I v}{cs:List Value}{u:Value}{pls:List Pl}{nb:Nat}(hc:c08 v cs u)(h:TV σ v x u pls)(hn:Num c nb pls):RG X c σ (a7j v (pvV tb nb v x)) cs:=by
 have hv:=(b5U (X:=X) (nb:=nb) ht h hn).1
 unfold a7j
 unfold c08 at hc
 cases ha:a8p v with
 | true =>
   rw [ha] at hc
   simp only [cond_true] at hc ⊢
   rcases c0V (tb:=tb) (nb:=nb) (x:=x) ha with ⟨ls,e⟩ | ⟨E',y',e⟩
   ·rw [e] at hv ⊢
    simp only [RV] at hv
    obtain ⟨cs',q1,q2⟩:=hv
    rw [hc] at q1
    have:cs=cs':=by
     injection q1 with q1
     have:=congrArg Array.toList q1
     simpa using this
    rw [this]; exact q2
   ·rw [e] at hv ⊢
    simp only [RV] at hv
    obtain ⟨cs',q1,q2⟩:=hv
    rw [hc] at q1
    have:cs=cs':=by
     injection q1 with q1
     have:=congrArg Array.toList q1
     simpa using this
    rw [this]; exact RG.one q2
 | false =>
   rw [ha] at hc
   simp only [cond_false] at hc ⊢
   subst hc
   exact RG.single (c09 ha) hv
theorem c82 {v:V}{ls:List (PV I)}{p:PV I}{cs:List Value}(h:c0U v ls=some p)(hl:RG X c σ ls cs):∃ u,RV X c σ p u/\c08 v cs u:=by
 unfold c0U at h
 unfold c08
 cases ha:a8p v with
 | true =>
   rw [ha] at h
   cases h
   exact ⟨.agg cs.toArray,a8i hl,rfl⟩
 | false =>
   rw [ha] at h
   simp only [cond_false] at h
   split at h
   ·rename_i p0
    cases hd0:a6H p0 with
    | true=>rw [hd0] at h; cases h
    | false =>
      rw [hd0] at h
      cases h
      simp only [RG] at hl
      obtain ⟨a,r',rfl,hv,rfl⟩:=hl
      rcases hv with hv | ⟨_,v,rfl,hv⟩
      ·exact (by cases p<;>first | exact hv.elim | cases hd0)
      ·exact ⟨v,hv,rfl⟩
   ·cases h
def noN (O:Obs I):Prop:=∀ l E E' u xs q,O l≠some (some (.nst E E' u xs q))
omit [∀ E,Rp (I E)] in
theorem noN.set {O:Obs I}{l:Nat}{o:Option (Ob I)}(h:noN O)(hn:a9U o=true:=by rfl):noN (upF O l o):=fun l' E E' u xs q e=>by
 rcases Z2 e with ⟨_,e'⟩ | ⟨_,h2⟩
 ·exact absurd e'.symm (a96 hn)
 ·exact h _ _ _ _ _ _ h2
theorem noN.notIn {s:St I}{c:Cx}{g:Nat}(h:noN s.O):notIn c σ s g:=fun l i ⟨_,_,⟨E,u,xs,q,g',kk,m,w,k1,_⟩,_⟩=>h _ _ _ _ _ _ k1
theorem noN.nests {O:Obs I}{c:Cx}(h:noN O):Nests X c σ O :=
 have hb:∀ {l i b},¬ InB c σ O l i b:=fun ⟨_,_,⟨E,u,xs,q,g',kk,m,w,k1,_⟩,_⟩=>h _ _ _ _ _ _ k1
 ⟨fun l E E' u xs q e=>absurd e (h _ _ _ _ _ _),fun _ _ _ k=>absurd k hb,fun _ _ _ k=>absurd k hb,fun _ _ _ _ _ k=>absurd k hb⟩
theorem a8S (ht:TabOk P tb){M:Nat->Prop}(hM:∀ b,X.M b->M b)(hX:X.P=P):∀ {ps:List Pk} {a:a2f I ps} {vs:List Value} {pls:List Pl} {nb:Nat} {c:Cx} {s:St I} {done:List Nat},a7o P M σ ps a vs pls->Rel X c σ s n F->(∀ l,nb<=l->s.O l=none) ->
 (∀ l p g,Y7 s l->c l=some p->p.w=some g->g∈done)->(done++ows pls).Nodup->(∀ g∈ows pls,X.M g)->noN s.O ->
 ∃ c',Cx.le c c'/\Rel X c' σ ⟨s.n,s.F,b5s tb nb ps a s.O,s.nx⟩ n F/\RVs X c' σ (a0W tb nb ps a) vs
 | [],_,vs,pls,nb,c,s,done,⟨h1,h2⟩,hr,_,_,_,_,_=>⟨c,Cx.le_refl c,hr,by subst h1; simp only [a0W,RVs]⟩
 | .d k::r,q,vs,pls,nb,c,s,done,⟨v,vs',p1,p2,e1,e2,⟨h1,e3⟩,h2⟩,hr,hfr,hdn,hnd,hMg,hq=>by
   subst e3
   rw [d9y] at e2
   subst e2
   obtain ⟨c',k1,k2,k3⟩:=a8S ht hM hX h2 hr hfr hdn hnd hMg hq
   refine ⟨c',k1,k2,?_⟩
   simp only [a0W,RVs]
   exact ⟨v,vs',e1,a97 ht h1,k3⟩
 | .fn ks rs::r,q,vs,pls,nb,c,s,done,⟨v,vs',p1,p2,e1,e2,⟨f,d8k,cs,e4,h1,e3⟩,h2⟩,hr,hfr,hdn,hnd,hMg,hq=>by
   subst e3
   rw [d9y] at e2
   subst e2
   obtain ⟨c',k1,k2,k3⟩:=a8S ht hM hX h2 hr hfr hdn hnd hMg hq
   refine ⟨c',k1,k2,?_⟩
   simp only [a0W,RVs,RV]
   exact ⟨v,vs',e1,⟨f,d8k,cs,e4,by rw [hX]; exact h1.1,h1.2.1,fun τ hτ=>by rw [hX]; exact h1.2.2 τ (hτ.mono fun b _ hb=>hM b hb)⟩,k3⟩
 | .bor E::r,q,vs,pls,nb,c,s,done,⟨v,vs',p1,p2,e1,e2,⟨A,k,e4,h1,e3⟩,h2⟩,hr,hfr,hdn,hnd,hMg,hq=>by
   subst e3
   subst e2
   have hnb:=hfr nb (d8r _)
   have hcn:c nb=none:=hr.nom nb hnb
   obtain ⟨a1,a2⟩:=hr.add (l:=nb) (o:=.bo E q.1) (p:=⟨A,k,d98 q.1,none⟩) hnb (fun g hg=>by cases hg) ⟨A,k,Q5 _ _ _,h1.sub fun b _=>hM b⟩
   obtain ⟨c',k1,k2,k3⟩:=a8S (nb:=nb+1) (s:=Y5 s nb (some (.bo E q.1))) (done:=done) ht hM hX h2 a2 (fun l hl=>by
    have:(Y5 s nb (some (Ob.bo E q.1))).O l=s.O l:=J2 (by omega)
    rw [this]; exact hfr l (by omega)) (fun l p g ⟨o,ho⟩ hc hw=>by
    rcases Z2 ho with ⟨e,_⟩ | ⟨e,ho'⟩
    ·subst e
     rw [Q5] at hc
     cases hc
     cases hw
    ·simp only [a0D,if_neg e] at hc
     exact hdn l p g ⟨o,ho'⟩ hc hw) (by rw [a0w] at hnd; exact hnd) (fun g hg=>hMg g (by rw [a0w]; simp [hg])) hq.set
   refine ⟨c',Cx.le_trans a1 k1,k2,?_⟩
   simp only [a0W,RVs,RV]
   exact ⟨v,vs',e1,⟨_,k1 _ _ (Q5 _ _ _),e4⟩,k3⟩
 | .row E fl::r,q,vs,pls,nb,c,s,done,⟨v,vs',p1,p2,e1,e2,⟨A,k,ow,e4,h1,e3⟩,h2⟩,hr,hfr,hdn,hnd,hMg,hq=>by
   subst e3
   subst e2
   have hnb:=hfr nb (d8r _)
   obtain ⟨a1,a2⟩:=hr.newRow (nb:=nb) (E:=E) (xs:=q.1) (fl:=fl) hnb h1 fun g hg=>⟨hMg g (by simp [ows,hg]),hq.notIn,fun l' p' hl hc hw=>by
    have hd:=hdn l' p' g hl hc hw
    rw [d87] at hnd
    exact hnd.2.2 g hd g (by simp [ows,hg]) rfl⟩
   have hnd':((done++ows [⟨A,k,d98 q.1,ow⟩])++ows p2).Nodup:=by rw [d8E,<- a0w]; exact hnd
   obtain ⟨c',k1,k2,k3⟩:=a8S (nb:=nb+1) (s:=Y5 s nb (some (.row E q.1 fl))) (done:=done++ows [⟨A,k,d98 q.1,ow⟩]) ht hM hX h2 a2 (fun l hl=>by
    have:(Y5 s nb (some (Ob.row E q.1 fl))).O l=s.O l:=J2 (by omega)
    rw [this]; exact hfr l (by omega)) (fun l p g ⟨o,ho⟩ hc hw=>by
    rcases Z2 ho with ⟨e,_⟩ | ⟨e,ho'⟩
    ·subst e
     rw [Q5] at hc
     cases hc
     simp only at hw
     subst hw
     simp [ows]
    ·simp only [a0D,if_neg e] at hc
     simp [hdn l p g ⟨o,ho'⟩ hc hw]) hnd' (fun g hg=>hMg g (by rw [a0w]; simp [hg])) hq.set
   refine ⟨c',Cx.le_trans a1 k1,k2,?_⟩
   simp only [a0W,RVs,RV]
   exact ⟨v,vs',e1,⟨_,k1 _ _ (Q5 _ _ _),e4⟩,k3⟩
 | .val vk::r,q,vs,pls,nb,c,s,done,⟨v,vs',p1,p2,e1,e2,htv,h2⟩,hr,hfr,hdn,hnd,hMg,hq=>by
   subst e2
   have htv:TV σ vk q.1 v p1:=htv
   have hob:=c4b htv
   have hlen:(obV vk q.1).length=cnV vk:=by
    have:=(b5U (X:=X) (c:=V6 c nb p1) (tb:=tb) (nb:=nb) ht htv a1c).2
    rw [hob.1,this]
   have hnd2:=hnd
   rw [a0w,d87] at hnd2
   have hnd3:=hnd2.2.1
   rw [d87] at hnd3
   have hdr:∀ g∈ows p1,g ∉ done:=fun g hg hd=>hnd2.2.2 g hd g (by simp [hg]) rfl
   obtain ⟨a1,a2⟩:=Rel.addN (nb:=nb) hr (a1D.2 fun l hl=>hfr l (a1o.1 hl).1) hob hnd3.1 fun g hg=>⟨hMg g (by rw [a0w]; simp [hg]),hq.notIn,fun l' p' hl hc hw=>hdr g hg (hdn l' p' g hl hc hw)⟩
   have hnum:Num (V6 c nb p1) nb p1:=a1c
   obtain ⟨w1,w2⟩:=b5U (X:=X) (tb:=tb) (nb:=nb) ht htv hnum
   obtain ⟨c',k1,k2,k3⟩:=a8S (nb:=nb+cnV vk) (s:=addN s nb (obV vk q.1)) (done:=done++ows p1) ht hM hX h2 a2 (fun l hl=>by
    show a0d s.O nb (obV vk q.1) l=none
    rw [a0k (fun hm=>by have:=(a1o.1 hm).2; omega)]
    exact hfr l (by omega)) (fun l p g ⟨o,ho⟩ hc hw=>by
    by_cases hm:l∈rng nb (obV vk q.1).length
    ·obtain ⟨m1,m2⟩:=a1o.1 hm
     have hlt:l-nb<p1.length:=by rw [<- hob.1]; omega
     have:=hnum (l-nb) p1[l-nb] (d8n hlt)
     rw [show nb+(l-nb)=l from by omega,hc] at this
     cases this
     exact d8y.2 (.inr (b2p.2 ⟨_,d8B _,hw⟩))
    ·have ho':a0d s.O nb (obV vk q.1) l=some (some o):=ho
     rw [a0k hm] at ho'
     obtain ⟨p0,hp0⟩:=(hr.objs l o ho').place
     have:=a1 l p0 hp0
     rw [hc] at this
     cases this
     exact d8y.2 (.inl (hdn l p g ⟨o,ho'⟩ hp0 hw))) (by rw [d8E,<- a0w]; exact hnd) (fun g hg=>hMg g (by rw [a0w]; simp [hg])) (fun l E E' u xs q e=>hq _ _ _ _ _ _ (a40 hob.not _ _ _ _ _ _ e))
   refine ⟨c',Cx.le_trans a1 k1,k2,?_⟩
   simp only [a0W,RVs]
   exact ⟨v,vs',e1,w1.grow k1 _ _,k3⟩
 | .lnt ks::r,q,vs,pls,nb,c,s,done,⟨v,vs',p1,p2,e1,e2,htv,h2⟩,hr,hfr,hdn,hnd,hMg,hq=>by
   subst e2
   obtain ⟨h0,cs,ev,hlk⟩:=htv
   have hob:=c7L (X:=X) hM hlk
   have hlen:(b9v ks q.1).length=a6X ks:=by
    have:=(c2q (X:=X) (c:=V6 c nb p1) (tb:=tb) (nb:=nb) ht hlk a1c).2
    rw [hob.1,this]
   have hnd2:=hnd
   rw [a0w,d87] at hnd2
   have hnd3:=hnd2.2.1
   rw [d87] at hnd3
   have hdr:∀ g∈ows p1,g ∉ done:=fun g hg hd=>hnd2.2.2 g hd g (by simp [hg]) rfl
   obtain ⟨a1,a2⟩:=Rel.addNX (nb:=nb) hr (a1D.2 fun l hl=>hfr l (a1o.1 hl).1) hob hnd3.1 fun g hg=>⟨hMg g (by rw [a0w]; simp [hg]),hq.notIn,fun l' p' hl hc hw=>hdr g hg (hdn l' p' g hl hc hw)⟩
   have hnum:Num (V6 c nb p1) nb p1:=a1c
   have w1:RV X (V6 c nb p1) σ (.agg (a83 tb nb ks q.1)) v:=by
    simp only [RV]
    exact ⟨cs,ev,RVs.g (c2q (X:=X) (tb:=tb) (nb:=nb) ht hlk hnum).1 (c2z _ _ h0)⟩
   obtain ⟨c',k1,k2,k3⟩:=a8S (nb:=nb+a6X ks) (s:=addN s nb (b9v ks q.1)) (done:=done++ows p1) ht hM hX h2 a2 (fun l hl=>by
    show a0d s.O nb (b9v ks q.1) l=none
    rw [a0k (fun hm=>by have:=(a1o.1 hm).2; omega)]
    exact hfr l (by omega)) (fun l p g ⟨o,ho⟩ hc hw=>by
    by_cases hm:l∈rng nb (b9v ks q.1).length
    ·obtain ⟨m1,m2⟩:=a1o.1 hm
     have hlt:l-nb<p1.length:=by rw [<- hob.1]; omega
     have:=hnum (l-nb) p1[l-nb] (d8n hlt)
     rw [show nb+(l-nb)=l from by omega,hc] at this
     cases this
     exact d8y.2 (.inr (b2p.2 ⟨_,d8B _,hw⟩))
    ·have ho':a0d s.O nb (b9v ks q.1) l=some (some o):=ho
     rw [a0k hm] at ho'
     obtain ⟨p0,hp0⟩:=(hr.objs l o ho').place
     have:=a1 l p0 hp0
     rw [hc] at this
     cases this
     exact d8y.2 (.inl (hdn l p g ⟨o,ho'⟩ hp0 hw))) (by rw [d8E,<- a0w]; exact hnd) (fun g hg=>hMg g (by rw [a0w]; simp [hg])) (fun l E E' u xs q e=>hq _ _ _ _ _ _ (a40 hob.not _ _ _ _ _ _ e))
   refine ⟨c',Cx.le_trans a1 k1,k2,?_⟩
   simp only [a0W,RVs]
   exact ⟨v,vs',e1,w1.grow k1 _ _,k3⟩
 | .var T vk w::r,q,vs,pls,nb,c,s,done,⟨v,vs',p1,p2,e1,e2,⟨b,cs,u,pr,e4,hh,hcv,htv,hL,hnM,e3⟩,h2⟩,hr,hfr,hdn,hnd,hMg,hq=>by
   subst e3
   subst e2
   have hob:=c4b htv
   have hlen:(obV vk q.1).length=cnV vk:=by
    have:=(b5U (X:=X) (c:=V6 c (nb+1) pr) (tb:=tb) (nb:=nb+1) ht htv a1c).2
    rw [hob.1,this]
   have hpw:ows (⟨some ⟨b,0,none⟩,0,0,bif w then some b else none⟩::pr)=(bif w then [b] else [])++ows pr:=by
    cases w<;>simp [ows]
   have hnd2:=hnd
   rw [a0w,hpw] at hnd2
   have hndr:(ows pr).Nodup:=by
    rw [d87] at hnd2
    have:=hnd2.2.1
    rw [d87] at this
    have:=this.1
    rw [d87] at this
    exact this.2.1
   have hdr:∀ g∈ows pr,g ∉ done:=fun g hg hd=>by
    rw [d87] at hnd2
    exact hnd2.2.2 g hd g (by simp [hg]) rfl
   obtain ⟨a1,a2⟩:=Rel.addN (nb:=nb+1) hr (a1D.2 fun l hl=>hfr l (by have:=(a1o.1 hl).1; omega)) hob hndr fun g hg=>⟨hMg g (by rw [a0w,hpw]; simp [hg]),hq.notIn,fun l' p' hl hc hw=>hdr g hg (hdn l' p' g hl hc hw)⟩
   have hnb:(addN s (nb+1) (obV vk q.1)).O nb=none:=by
    show a0d s.O (nb+1) (obV vk q.1) nb=none
    rw [a0k (fun hm=>by have:=(a1o.1 hm).1; omega)]
    exact hfr nb (d8r _)
   have hnum:Num (V6 c (nb+1) pr) (nb+1) pr:=a1c
   have hcn:V6 c (nb+1) pr nb=none:=a2.nom nb hnb
   have hle3:Cx.le (V6 c (nb+1) pr) (a0D (V6 c (nb+1) pr) nb ⟨some ⟨b,0,none⟩,0,0,bif w then some b else none⟩):=b2h hcn
   have hlive2:∀ l p g,Y7 (addN s (nb+1) (obV vk q.1)) l->V6 c (nb+1) pr l=some p->p.w=some g->g∈done\/g∈ows pr:=fun l p g ⟨o,ho⟩ hc hw=>by
    by_cases hm:l∈rng (nb+1) (obV vk q.1).length
    ·obtain ⟨m1,m2⟩:=a1o.1 hm
     have hlt:l-(nb+1)<pr.length:=by rw [<- hob.1]; omega
     have:=hnum (l-(nb+1)) pr[l-(nb+1)] (d8n hlt)
     rw [show nb+1+(l-(nb+1))=l from by omega,hc] at this
     cases this
     exact .inr (b2p.2 ⟨_,d8B _,hw⟩)
    ·have ho':a0d s.O (nb+1) (obV vk q.1) l=some (some o):=ho
     rw [a0k hm] at ho'
     have hcl:∃ p0,c l=some p0:=by
      have:=hr.objs l o ho'
      cases o with
      | var T ls w=>obtain ⟨b,cs,k1,_⟩:=this; exact ⟨_,k1⟩
      | row E xs fl=>obtain ⟨A,k,ow,k1,_⟩:=this; exact ⟨_,k1⟩
      | ro E xs=>obtain ⟨A,k,k1,_⟩:=this; exact ⟨_,k1⟩
      | bo E xs=>obtain ⟨A,k,k1,_⟩:=this; exact ⟨_,k1⟩
      | nst E E' u xs q=>obtain ⟨A,k,ow,k1,_⟩:=this; exact ⟨_,k1⟩
      | map T kd m=>obtain ⟨b,k1,_⟩:=this; exact ⟨_,k1⟩
      | rom T kd m=>obtain ⟨b,k1,_⟩:=this; exact ⟨_,k1⟩
     obtain ⟨p0,hp0⟩:=hcl
     have:=a1 l p0 hp0
     rw [hc] at this
     cases this
     exact .inl (hdn l p g ⟨o,ho'⟩ hp0 hw)
   obtain ⟨b1,b2⟩:=a2.add (l:=nb) (o:=.var T (a7j vk (pvV tb (nb+1) vk q.1)) w) (p:=⟨some ⟨b,0,none⟩,0,0,bif w then some b else none⟩) hnb (fun g hg=>by
    cases w with
    | false=>cases hg
    | true =>
      cases hg
      refine ⟨hMg b (by rw [a0w,hpw]; simp),noN.notIn fun l E E' u xs q e=>hq _ _ _ _ _ _ (a40 hob.not _ _ _ _ _ _ e),fun l' p' hl hc hw=>?_⟩
      rw [d87] at hnd2
      rcases hlive2 l' p' b hl hc hw with hd | hd
      ·exact hnd2.2.2 b hd b (by simp) rfl
      ·have:=hnd2.2.1
       rw [d87] at this
       have:=this.1
       rw [d87] at this
       exact this.2.2 b (by simp) b hd rfl)
    ⟨b,cs,Q5 _ _ _,RG.grow hle3 _ _ (d3d ht hcv htv hnum),hh,hL,fun e hb=>hnM e (hM b hb)⟩
   have hnd':((done++((bif w then [b] else [])++ows pr))++ows p2).Nodup:=by rw [d8E]; exact hnd2
   obtain ⟨c',k1,k2,k3⟩:=a8S (nb:=nb+1+cnV vk) (s:=Y5 (addN s (nb+1) (obV vk q.1)) nb (some (.var T (a7j vk (pvV tb (nb+1) vk q.1)) w))) (done:=done++((bif w then [b] else [])++ows pr)) ht hM hX h2 b2 (fun l hl=>by
    have:(Y5 (addN s (nb+1) (obV vk q.1)) nb (some (Ob.var T (a7j vk (pvV tb (nb+1) vk q.1)) w))).O l=a0d s.O (nb+1) (obV vk q.1) l:=J2 (by omega)
    rw [this,a0k (fun hm=>by have:=(a1o.1 hm).2; omega)]
    exact hfr l (by omega)) (fun l p g ⟨o,ho⟩ hc hw=>by
    rcases Z2 ho with ⟨e,_⟩ | ⟨e,ho'⟩
    ·subst e
     rw [Q5] at hc
     cases hc
     cases w with
     | false=>cases hw
     | true=>cases hw; simp
    ·simp only [a0D,if_neg e] at hc
     rcases hlive2 l p g ⟨o,ho'⟩ hc hw with hd | hd
     ·simp [hd]
     ·simp [hd]) hnd' (fun g hg=>hMg g (by rw [a0w]; simp [hg])) (noN.set fun l E E' u xs q e=>hq _ _ _ _ _ _ (a40 hob.not _ _ _ _ _ _ e))
   refine ⟨c',Cx.le_trans a1 (Cx.le_trans b1 k1),k2,?_⟩
   simp only [a0W,RVs,RV]
   exact ⟨v,vs',e1,⟨b,_,k1 _ _ (Q5 _ _ _),e4⟩,k3⟩
end
end Go.Qx
end
section
open Array renaming getElem_append->d9Y,getElem_ofFn->d9D,replicate->d94
open Bool renaming and_eq_true->d8p
open List renaming getD->d9r,getElem?_eq_getElem->d8n,getElem?_eq_none->d8U,map_cons->d8O,mem_append_left->d9M,mem_append_right->d9G,mem_cons->d8A
open Nat renaming beq->d8u,ble->d89,eq_of_beq_eq_true->d8s,le_of_ble_eq_true->d8N,le_refl->d8r,le_trans->d8C,zero_add->d8Q,zero_le->d8w
open Option renaming bind_some->d8l
namespace Go.Qx
open Go Go.RowKit Go.Sx
section
variable {I:TypeId->Type} [∀ E,Rp (I E)] {P:Program}{tb:Tab I}{X:Cxt}{c c':Cx}{σ τ:S}{n:Nat}{F:Fr}
omit [∀ E,Rp (I E)] in
theorem c72 {s:St I}{ls:List Nat}{l:Nat}{T:TypeId}{vs:List (PV I)}{w:Bool}(ho:s.O l=some (some (.var T vs w))):(Z8 s s.O ls).O l=some (some (.var T vs w)):=by
 show apU s.O (Q3 s.O ls) l=_
 rw [a3d,ho]
 intro hm
 have hp:∀ {ls:List Nat},l∈a0S (Q3 s.O ls)->∃ E,∃ xs:List (I E),s.O l=some (some (.row E xs false)):=by
  intro ls
  induction ls with
  | nil=>intro h; simp [Q3,a0S] at h
  | cons a r ih =>
    intro h
    simp only [Q3] at h
    split at h
    ·rename_i E xs e
     simp only [a0S,d8O,d8A] at h
     rcases h with rfl | h
     ·exact ⟨E,xs,e⟩
     ·exact ih h
    ·exact ih h
 obtain ⟨E,xs,e⟩:=hp hm
 rw [ho] at e; cases e
theorem a7o.len {M:Nat->Prop}:∀ {ps:List Pk} {a:a2f I ps} {vs:List Value} {pls:List Pl},a7o P M σ ps a vs pls->vs.length=ps.length
 | [],_,_,_,⟨h,_⟩=>by rw [h]; rfl
 | _::r,q,_,_,⟨v,vs',p1,p2,e1,e2,h1,h2⟩=>by rw [e1]; simp [a7o.len h2]
theorem b2r (ht:TabOk P tb){s:St I}(h:Rel X c σ s n F):∀ {rl:List ResultVar} {ps:List (PV I)},a9N tb s rl=some ps->∃ ws,RVs X c σ ps ws/\(rl.mapM (b1P (fr n F).tmps)).run P σ.w=.ok ws σ.w
 | [],_,e=>by cases e; exact ⟨[],by simp only [RVs],rfl⟩
 | .tmp t::r,_,e=>by
   simp only [a9N] at e
   obtain ⟨hb,e⟩:=j8 e
   obtain ⟨p,hp,e⟩:=bind_some e
   obtain ⟨ps,hps,e⟩:=bind_some e
   cases e
   obtain ⟨ws,h1,h2⟩:=b2r ht h hps
   rw [h.len] at hb
   refine ⟨F t::ws,by simp only [RVs]; exact ⟨_,_,rfl,h.frame t p hp,h1⟩,?_⟩
   have e1:(b1P (fr n F).tmps (.tmp t)).run P σ.w=.ok (F t) σ.w:=b2P (P:=P) (n:=n) (F:=F) (r:=.tmp t) ⟨hb,rfl⟩
   simp only [List.mapM_cons,Sem.run_bind,e1,h2,Result.andThen_ok,Sem.run_pure]
 | .cell t T::r,_,e=>by
   simp only [a9N] at e
   obtain ⟨hb,e⟩:=j8 e
   rw [h.len] at hb
   split at e
   ·rename_i l hl
    split at e
    ·rename_i T' ls w' ho
     replace e:=bind_some e
     obtain ⟨p,hp,e⟩:=e
     replace e:=bind_some e
     obtain ⟨ps,hps,e⟩:=e
     cases e
     obtain ⟨ws,h1,h2⟩:=b2r ht h hps
     obtain ⟨b,cs,k1,k2,k3,_⟩:=h.objs l _ ho
     have hF:=h.frame t _ hl
     simp only [RV] at hF
     obtain ⟨b',w,h3,h4⟩:=hF
     rw [k1] at h3
     cases h3
     obtain ⟨v,hv,hrun⟩:=b0d (w:=σ.w) ht hp k2 (c3F k3)
     rw [d8Q] at hrun
     refine ⟨v::ws,by simp only [RVs]; exact ⟨_,_,rfl,hv,h1⟩,?_⟩
     have e1:(b1P (fr n F).tmps (.cell t T)).run P σ.w=.ok v σ.w:=b2P (P:=P) (n:=n) (F:=F) (r:=.cell t T) ⟨hb,b,h4,hrun⟩
     simp only [List.mapM_cons,Sem.run_bind,e1,h2,Result.andThen_ok,Sem.run_pure]
    ·cases e
   ·cases e
theorem b0o {fn:Func}{tmps:Array Value}{ws:List Value}{w:World}(h:(fn.results.toList.mapM (b1P tmps)).run P w=.ok ws w):(results fn tmps).run P w=.ok (a4Y ws) w:=by
 rw [b2e]
 have e:fn.results.mapM (b1P tmps)=(do let l <- fn.results.toList.mapM (b1P tmps); pure l.toArray):=by
  rw [Array.mapM_eq_mapM_toList]
  simp
 rw [e]
 simp only [Sem.run_bind,h,Result.andThen_ok,Sem.run_pure]
 congr 1
 cases ws with
 | nil=>rfl
 | cons v r =>
   cases r with
   | nil=>simp [a4Y]
   | cons v' r=>simp [a4Y]
theorem a6p (ht:TabOk P tb){s:St I}(h:Rel X c σ s n F):∀ {ps:List Pk} {a:a2f I ps} {nb:Nat} {vs:List Value} {qs:List (PV I)},a4b s nb ps=some qs->RVs X c σ (a0W tb nb ps a) vs ->
 ∃ us,RVs X c σ qs us/\c70 σ ps vs us/\∀ b∈a0Y ps vs,∃ l p T ls w,s.O l=some (some (.var T ls w))/\c l=some p/\p.w=some b/\l∈a7s nb ps
 | [],_,_,vs,_,e,hv=>by
   cases e
   simp only [a0W,RVs] at hv
   subst hv
   exact ⟨[],by simp only [RVs],rfl,fun b hb=>by cases hb⟩
 | .d k::r,q,nb,vs,qs,e,hv=>by
   simp only [a0W,RVs] at hv
   obtain ⟨v,vs',rfl,_,hv⟩:=hv
   obtain ⟨us,h1,h2,h3⟩:=a6p ht h (ps:=r) (a:=q.2) e hv
   refine ⟨us,h1,h2,?_⟩
   intro b hb
   exact h3 b (by cases v<;>exact hb)
 | .fn _ _::r,q,nb,vs,qs,e,hv=>by
   simp only [a0W,RVs] at hv
   obtain ⟨v,vs',rfl,_,hv⟩:=hv
   obtain ⟨us,h1,h2,h3⟩:=a6p ht h (ps:=r) (a:=q.2) e hv
   refine ⟨us,h1,h2,?_⟩
   intro b hb
   exact h3 b (by cases v<;>exact hb)
 | .row _ _::r,q,nb,vs,qs,e,hv=>by
   simp only [a0W,RVs] at hv
   obtain ⟨v,vs',rfl,_,hv⟩:=hv
   obtain ⟨us,h1,h2,h3⟩:=a6p ht h (ps:=r) (a:=q.2) e hv
   refine ⟨us,h1,h2,?_⟩
   intro b hb
   exact h3 b (by cases v<;>exact hb)
 | .bor _::r,q,nb,vs,qs,e,hv=>by
   simp only [a0W,RVs] at hv
   obtain ⟨v,vs',rfl,_,hv⟩:=hv
   obtain ⟨us,h1,h2,h3⟩:=a6p ht h (ps:=r) (a:=q.2) e hv
   refine ⟨us,h1,h2,?_⟩
   intro b hb
   exact h3 b (by cases v<;>exact hb)
 | .val _::r,q,nb,vs,qs,e,hv=>by
   simp only [a0W,RVs] at hv
   obtain ⟨v,vs',rfl,_,hv⟩:=hv
   obtain ⟨us,h1,h2,h3⟩:=a6p ht h (ps:=r) (a:=q.2) e hv
   refine ⟨us,h1,h2,?_⟩
   intro b hb
   exact h3 b (by cases v<;>exact hb)
 | .lnt _::r,q,nb,vs,qs,e,hv=>by
   simp only [a0W,RVs] at hv
   obtain ⟨v,vs',rfl,_,hv⟩:=hv
   obtain ⟨us,h1,h2,h3⟩:=a6p ht h (ps:=r) (a:=q.2) e hv
   refine ⟨us,h1,h2,?_⟩
   intro b hb
   exact h3 b (by cases v<;>exact hb)
 | .var T vk false::r,q,nb,vs,qs,e,hv=>by
   simp only [a0W,RVs] at hv
   obtain ⟨v,vs',rfl,_,hv⟩:=hv
   obtain ⟨us,h1,h2,h3⟩:=a6p ht h (ps:=r) (a:=q.2) e hv
   refine ⟨us,h1,h2,?_⟩
   intro b hb
   exact h3 b (by cases v<;>exact hb)
 | .var T vk true::r,q,nb,vs,qs,e,hv=>by
   simp only [a0W,RVs] at hv
   obtain ⟨v,vs',rfl,hv1,hv⟩:=hv
   simp only [a4b] at e
   split at e
   ·rename_i T' ls ho
    replace e:=j8 e
    obtain ⟨hT,e⟩:=e
    have eT:=d8s hT
    subst eT
    replace e:=bind_some e
    obtain ⟨p,hp,e⟩:=e
    replace e:=bind_some e
    obtain ⟨ps',hps,e⟩:=e
    cases e
    obtain ⟨us,h1,h2,h3⟩:=a6p ht h (ps:=r) (a:=q.2) hps hv
    obtain ⟨b,cs,k1,k2,k3,k4,_⟩:=h.objs nb _ ho
    simp only [RV] at hv1
    obtain ⟨b',w,h4,rfl⟩:=hv1
    rw [k1] at h4
    cases h4
    obtain ⟨u,hu,hc⟩:=c82 hp k2
    refine ⟨u::us,by simp only [RVs]; exact ⟨u,us,rfl,hu,h1⟩,⟨b,cs,u,us,rfl,rfl,k3,k4 rfl,hc,h2⟩,fun b0 hb=>?_⟩
    have hb':b0∈b::a0Y r vs':=hb
    rcases d8A.1 hb' with rfl | hb'
    ·exact ⟨nb,_,_,_,_,ho,k1,rfl,List.mem_cons_self⟩
    ·obtain ⟨l,p,T,ls,w,g1,g2,g3,g4⟩:=h3 b0 hb'
     exact ⟨l,p,T,ls,w,g1,g2,g3,List.mem_cons_of_mem _ g4⟩
   ·cases e
theorem c51 (ht : TabOk P tb) {r : Row I} {C : World -> List Value -> Prop} {s0 : a2f I r.ps -> St I} {fn : Func} {cd : Code} (nt : Nat) {rl : List ResultVar} (h0 : ∀ (X : Cxt) (c : Cx) (σ : S) (a : a2f I r.ps) (vs : List Value) (F : Fr), Rel X c σ (a6A tb nt r.ps a) nt F -> RVs X c σ (a0W tb 0 r.ps a) vs -> (∀ i v, vs[i]? = some v -> F i = v) -> C σ.w vs -> Rel X c σ (s0 a) nt F) (hf : P.funcs[r.f]? = some fn) (hb : fn.body = some cd) (hname : (fn.name == "runtime.NumGoroutine") = false)
 (hn:fn.ntmps=nt) (hres:fn.results.toList=rl) (hle:d89 r.ps.length nt=true)
 (hspec:∀ (X:Cxt) (c:Cx) (σ:S) (F:Fr) (Q:Exit->Act->World->Prop) (a:a2f I r.ps) (res:TyT I (r.rs++Q0 r.ps)),X.P=P->(∃ vs,C σ.w vs)->Rel X c σ (s0 a) nt F->b3e r.ps r.run a=some res ->
   (∀ (e:Ex) (s':St I) (c':Cx) (τ:S) (F':Fr),fin tb r.ps r.rs rl e s'=some res->Cx.le c c'->Rel X c' τ s' nt F'->Stp X.M σ τ->Q (a3A e) (fr nt F') τ.w)->cd.wp P Q (fr nt F) σ.w) (hlo:tb.lo=0\/∀ w vs,C w vs->tb.lo<=w.heap.size:=by exact .inl rfl):a26 P r C:=by
 intro σ a vs pls res hA hC hnd happ
 let X:Cxt:=⟨P,σ.N,fun b=>b∈ows pls⟩
 have hlen:=hA.len
 have hini:Rel X (fun _=>none) σ (⟨nt,fun _=>none,fun _=>none,0⟩:St I) nt (a04 vs) :=
  ⟨rfl,(fun _ _ h=>by cases h),(fun _ _ h=>by cases h),(fun _ _ _ _ _ ⟨_,h⟩=>by cases h),(fun _ _ _ ⟨_,h⟩=>by cases h),fun _ _=>rfl,⟨d8r _,fun E=>d8C (ht.low E) (hlo.elim (fun h=>by rw [h]; exact d8w _) fun h=>h _ _ hC)⟩,noN.nests fun _ _ _ _ _ _ h=>by cases h⟩
 obtain ⟨c1,_,i2,i3⟩:=a8S (tb:=tb) (X:=X) (nb:=0) (done:=[]) ht (fun b hb=>hb) rfl hA hini (fun _ _=>rfl) (fun _ _ _ ⟨_,h⟩=>by cases h) (by simpa using hnd) (fun g hg=>.inr hg) (fun _ _ _ _ _ _ h=>by cases h)
 have hrel:Rel X c1 σ (a6A tb nt r.ps a) nt (a04 vs):=by
  refine ⟨rfl,fun i p hp=>?_,i2.objs,i2.inj,i2.mine,i2.nom,i2.base,i2.nst⟩
  obtain ⟨v,hv,hr⟩:=RVs.at_ _ _ i3 i p hp
  have:a04 vs i=v:=by simp [a04,d9r,hv]
  rw [this]; exact hr
 have hrel:=h0 X c1 σ a vs (a04 vs) hrel i3 (fun i v hv=>by simp [a04,d9r,hv]) hC
 refine .inl ⟨⟨fn,cd,hf,hb,hname⟩,calls_of_wp hf hb ?_⟩
 have hle':=d8N hle
 have e:(⟨vs.toArray++d94 (fn.ntmps-vs.toArray.size) undef,[]⟩:Act)=fr nt (a04 vs):=by
  rw [hn]
  simp only [fr]
  congr 1
  apply Array.ext
  ·simp; omega
  ·intro i h1 h2
   simp only [d9D,a04,d9Y]
   split
   ·rename_i hi; simp at hi; simp [d9r,d8n hi]
   ·rename_i hi; simp at hi; simp [d9r,d8U hi]
 rw [e]
 refine hspec X c1 σ (a04 vs) _ a res rfl ⟨vs,hC⟩ hrel happ fun ex s' c2 τ F' hfin hle2 hr st=>?_
 have key:((a9N tb s' rl).bind fun a=>(a4b s' 0 r.ps).bind fun b=>(a3D tb s'.O (r.rs++Q0 r.ps) (a++b)).bind fun x=>bif a72 (x.2.1++a7s 0 r.ps) x.2.2&&d8u a.length r.rs.length then some x.1 else none)=some res ->
  ∃ v,(results fn (fr nt F').tmps).run P τ.w=.ok v τ.w/\∃ v' τ',Ending.returned v=.returned v'/\τ'.w=τ.w/\Stp (fun b=>b∈ows pls) σ τ'/\∃ ws us pls',Post σ τ' r.ps r.rs vs res (ows pls) v' ws us pls':=by
  intro hfin
  obtain ⟨ra,hra,hfin⟩:=bind_some hfin
  obtain ⟨rb,hrb,hfin⟩:=bind_some hfin
  obtain ⟨y,hy,hfin⟩:=bind_some hfin
  obtain ⟨hrows,hfin⟩:=j8 hfin
  cases hfin
  simp only [d8p] at hrows
  obtain ⟨r1,r2w⟩:=a6R hrows.1
  have r2:∀ l,some l∈y.2.2->l ∉ y.2.1:=fun l hl hm=>r2w l hl (d9M _ hm)
  have hal:=d8s hrows.2
  obtain ⟨τ',p1,p2,p3,p4,p5,p6⟩:=hr.pubs (O:=s'.O) (fun _ _ h=>h) y.2.1
  obtain ⟨ws,w1,w2⟩:=b2r ht hr hra
  have hrb':a4b (Z8 s' s'.O y.2.1) 0 r.ps=some rb:=by
   have:∀ {ps:List Pk} {nb:Nat} {qs:List (PV I)},a4b s' nb ps=some qs->a4b (Z8 s' s'.O y.2.1) nb ps=some qs:=by
    intro ps
    induction ps with
    | nil=>intro nb qs h; exact h
    | cons p r ih =>
      intro nb qs h
      cases p with
      | d k=>exact ih h
      | fn ks rs=>exact ih h
      | row E fl=>exact ih h
      | bor E=>exact ih h
      | val v=>exact ih h
      | lnt ks=>exact ih h
      | var T v w =>
        cases w with
        | false=>exact ih h
        | true =>
          simp only [a4b] at h ⊢
          split at h
          ·rename_i T' ls ho
           rw [c72 ho]
           replace h:=j8 h
           obtain ⟨hT,h⟩:=h
           simp only [hT,cond_true]
           replace h:=bind_some h
           obtain ⟨p,hp,h⟩:=h
           replace h:=bind_some h
           obtain ⟨ps',hps,h⟩:=h
           rw [hp,d8l,ih hps]
           exact h
          ·cases h
   exact this hrb
  have hvs:RVs X c2 τ' (a0W tb 0 r.ps a) vs:=RVs.step (st.trans p2) _ _ (RVs.grow hle2 _ _ i3)
  obtain ⟨us,u1,u2,u3⟩:=a6p ht p3 (a:=a) hrb' hvs
  have hRV:=RVs.app _ _ _ _ (RVs.step p2 _ _ w1) u1
  obtain ⟨pls',t1,t2⟩:=b2k ht p4 p5 (ls:=y.2.1) (rows:=y.2.2) hy (fun l hl=>hl) (fun l hl=>r2 l hl) hRV
  have hlive:=b4F (ls:=y.2.1) (rows:=y.2.2) hy
  have hl3:∀ l,some l∈y.2.2->Y7 (Z8 s' s'.O y.2.1) l:=fun l hl=>by
   obtain ⟨o,ho,_⟩:=hlive l hl
   exact ⟨_,(p6 l (r2 l hl)).trans ho⟩
  refine ⟨a4Y ws,b0o (by rw [hres]; exact w2),a4Y ws,τ',rfl,p1,(st.trans p2).mono fun b hb hM=>?_,ws,us,pls',rfl,?_,t1,u2,At.nodup p3 t2 r1 hl3,fun g hg=>?_⟩
  ·rcases hM with h | h
   ·have:σ.N<=b:=h
    omega
   ·exact h
  ·rw [RVs.len _ _ w1,hal]
  ·obtain ⟨l,p,a1,a2,a3⟩:=t2.mem g hg
   refine ⟨p3.mine l p g (hl3 l a1) a2 a3,fun hm=>?_⟩
   obtain ⟨l',p',T,ls,w,ho',hc',hw',hn'⟩:=u3 g hm
   have e:=p3.inj l l' p p' g (hl3 l a1) ⟨_,ho'⟩ a2 hc' a3 hw'
   subst e
   exact r2w l a1 (d9G _ hn')
 cases ex with
 | exit i=>cases hfin
 | normal =>
   obtain ⟨v,h1,v',τ',h2,h3⟩:=key hfin
   exact ⟨rfl,v,h1,v',τ',h2,h3⟩
 | ret =>
   obtain ⟨v,h1,v',τ',h2,h3⟩:=key hfin
   exact ⟨rfl,v,h1,v',τ',h2,h3⟩
theorem c7O (ht : TabOk P tb) {r : Row I} {fn : Func} {cd : Code} (nt : Nat) {rl : List ResultVar} (hf : P.funcs[r.f]? = some fn) (hb : fn.body = some cd) (hname : (fn.name == "runtime.NumGoroutine") = false)
 (hn:fn.ntmps=nt) (hres:fn.results.toList=rl) (hle:d89 r.ps.length nt=true)
 (hspec:∀ (X:Cxt) (c:Cx) (σ:S) (F:Fr) (Q:Exit->Act->World->Prop) (a:a2f I r.ps) (res:TyT I (r.rs++Q0 r.ps)),X.P=P->Rel X c σ (a6A tb nt r.ps a) nt F->b3e r.ps r.run a=some res ->
   (∀ (e:Ex) (s':St I) (c':Cx) (τ:S) (F':Fr),fin tb r.ps r.rs rl e s'=some res->Cx.le c c'->Rel X c' τ s' nt F'->Stp X.M σ τ->Q (a3A e) (fr nt F') τ.w)->cd.wp P Q (fr nt F) σ.w) (hlo:tb.lo=0:=by rfl):Z3 P r:=fun σ a vs pls res hA hnd happ =>
 c51 (C:=fun _ _=>True) (s0:=a6A tb nt r.ps) ht nt (fun _ _ _ _ _ _ h _ _ _=>h) hf hb hname hn hres hle (fun X c σ F Q a res hX _=>hspec X c σ F Q a res hX) (.inl hlo) σ a vs pls res hA trivial hnd happ
theorem c6m {r:Row I}{C:World->List Value->Prop}(h:Z3 P r):a26 P r C:=fun σ a vs pls res hA _=>h σ a vs pls res hA
theorem c5L (ht:TabOk P tb){disp:a0f I}(hd:DispOk P disp)(hmx:P.follows .mixedOrders=true){r:Row I}{C:World->List Value->Prop}{s0:a2f I r.ps->St I}{fn:Func}{cd:Code}(nt:Nat){H:Hints I}{rl:List ResultVar}
 (h0 : ∀ (X : Cxt) (c : Cx) (σ : S) (a : a2f I r.ps) (vs : List Value) (F : Fr), Rel X c σ (a6A tb nt r.ps a) nt F -> RVs X c σ (a0W tb 0 r.ps a) vs -> (∀ i v, vs[i]? = some v -> F i = v) -> C σ.w vs -> Rel X c σ (s0 a) nt F) (hf : P.funcs[r.f]? = some fn) (hb : fn.body = some cd) (hname : (fn.name == "runtime.NumGoroutine") = false)
 (hn:fn.ntmps=nt) (hres:fn.results.toList=rl) (hle:d89 r.ps.length nt=true) (hcode:a1m H cd 1=true)
 (hrun:r.run=b7j r.ps fun a=>a21 tb disp H cd 1 (TyT I (r.rs++Q0 r.ps)) (s0 a) (fin tb r.ps r.rs rl)) (hlo:tb.lo=0\/∀ w vs,C w vs->tb.lo<=w.heap.size:=by exact .inl rfl):a26 P r C :=
 c51 ht nt h0 hf hb hname hn hres hle (hlo:=hlo) fun X c σ F Q a res hX _ hrel happ hk=>by
  rw [hrun,b7z] at happ
  exact a1r ht hd hmx cd 1 hcode _ _ _ res X c σ F Q hX happ hrel fun e s' c' τ F' g1 g2 g3 g4 _=>hk e s' c' τ F' g1 g2 g3 g4
theorem d7f (ht : TabOk P tb) {disp : a0f I} (hd : DispOk P disp) (hmx : P.follows .mixedOrders = true) {r : Row I} {fn : Func} {cd : Code} (nt : Nat) {H : Hints I} {rl : List ResultVar} (hf : P.funcs[r.f]? = some fn) (hb : fn.body = some cd) (hname : (fn.name == "runtime.NumGoroutine") = false)
 (hn:fn.ntmps=nt) (hres:fn.results.toList=rl) (hle:d89 r.ps.length nt=true) (hcode:a1m H cd 1=true) (hrun:r.run=b7j r.ps (d4B tb disp H cd nt r.ps r.rs rl)) (hlo:tb.lo=0:=by rfl):Z3 P r :=
 c7O ht nt hf hb hname hn hres hle (hlo:=hlo) fun X c σ F Q a res hX hrel happ hk=>by
  rw [hrun,b7z] at happ
  exact a1r ht hd hmx cd 1 hcode _ _ _ res X c σ F Q hX happ hrel fun e s' c' τ F' g1 g2 g3 g4 _=>hk e s' c' τ F' g1 g2 g3 g4
end
end Go.Qx
end
section
open Bool renaming and_eq_true->d8p
open List renaming all_cons->d9v,all_eq_true->d8q,cons_append->d80,filterMap_cons->d8X,getElem?_append_right->d8z,getElem?_drop->d9e,getElem?_eq_getElem->d8n,getElem?_map->d9i,getElem_mem->d8B,length->d98,length_cons->d8v,map_cons->d8O,mem_append->d8y,mem_cons->d8A,mem_filterMap->d95,mem_map->d8T,nil_append->d9y,replicate->d8D,toArray->d84
open Nat renaming add_sub_cancel_left->d9a,beq->d8u,blt->d8V,eq_of_beq_eq_true->d8s,le_trans->d8C
open Option renaming bind_assoc->d86,some->d8Y
namespace Go.Qx
open Go Go.RowKit Go.Sx
section
variable {I:TypeId->Type} [∀ E,Rp (I E)]
def d1f (rs:List V)(p:PV I):Option (List (PV I)):=match rs with
 | [_]=>some [p]
 | _=>match p with
   | .tup ls=>some ls
   | _=>none
def a9P (tb:Tab I):(ks:List Kd)->Tys I ks->List (PV I)
 | [],_=>[]
 | k::ks,q=>a7B tb k q.1::a9P tb ks q.2
def d6G (tb:Tab I)(rs:List V)(e:Ef I):Option (TyT I rs) :=
 bif a4j e.upd&&a4j e.new then (d1f rs e.p).bind fun ps=>(a3D tb (fun _=>none) rs ps).bind fun x=>bif a4j x.2.1&&a4j x.2.2 then some x.1 else none else none
def c7F (tb:Tab I)(disp:a0f I)(O:Obs I)(nb:Nat)(f:FuncId)(ls:List (PV I))(ks:List Kd)(rs:List V):Fun I ks (TyT I rs):=cur ks fun q=>disp (TyT I rs) f O nb (a9P tb ks q++ls) (d6G tb rs)
structure AccT where
 pub:List Nat
 all:List (Option Nat)
 gv:List (Nat×TypeId×V)
 rv:List Nat
def c8N (ks:List Kd)(rs:List V)(ks':List Kd)(rs':List V)(g:Fun I ks' (TyT I rs')):Option (Fun I ks (TyT I rs)):=if h:ks'=ks/\rs'=rs then some (h.1▸h.2▸g) else none
def d1Y (tb:Tab I)(O:Obs I)(T:TypeId)(v:V)(w:Bool)(p:PV I):Option (TyV I v×AccT):=match p with
 | .ptr l 0=>match O l with
   | some (some (.var T' ls w'))=>bif d8u T T'&&(w'||!w) then (c0U v ls).bind fun p=>(c0F tb O v p).bind fun x =>
      bif w then some (x.1,⟨x.2.1,some l::x.2.2,[(l,T,v)],[]⟩) else bif a4j x.2.2 then some (x.1,⟨x.2.1,[none],[],[l]⟩) else none else none
   | _=>none
 | _=>none
def c8X (O:Obs I)(E:TypeId)(p:PV I):Option (List (I E)×List Nat):=match p with
 | .vw l=>match O l with
   | some (some (.row E' xs _))=>(a13 E E' xs).bind fun ys=>some (ys,[l])
   | some (some (.ro E' xs))=>(a13 E E' xs).bind fun ys=>some (ys,[])
   | some (some (.bo E' xs))=>(a13 E E' xs).bind fun ys=>some (ys,[])
   | _=>none
 | .sl E' xs _=>(a13 E E' xs).bind fun ys=>some (ys,[])
 | .nl _=>some ([],[])
 | _=>none
def c7v (tb:Tab I)(O:Obs I):(k:K)->PV I->Option (TyK I k×List Nat×List Nat)
 | .d kd,p=>(a9c tb O kd p).bind fun x=>some (x.1,x.2,[])
 | .map T kd,.mp l=>match O l with
   | some (some (.map T' kd' m))=>(a5T (T:=T) (T':=T') (kd:=kd) m).bind fun ys=>some (ys,[],[l])
   | some (some (.rom T' kd' m))=>(a5T (T:=T) (T':=T') (kd:=kd) m).bind fun ys=>some (ys,[],[])
   | _=>none
 | _,_=>none
def b2W (tb:Tab I)(O:Obs I):(ks:List K)->List (PV I)->Option (a36 I ks×List Nat×List Nat)
 | [],[]=>some ((),[],[])
 | [k],[p]=>c7v tb O k p
 | k::k'::ks,p::ps=>(c7v tb O k p).bind fun x=>(b2W tb O (k'::ks) ps).bind fun y=>some ((x.1,y.1),x.2.1++y.2.1,x.2.2++y.2.2)
 | _,_=>none
def c8x (tb:Tab I)(O:Obs I)(ks:List K)(p:PV I):Option (a36 I ks×List Nat×List Nat):=match p with
 | .agg ls=>bif b4l ks then (b7o tb 300 ls).bind fun ls'=>b2W tb O ks ls' else none
 | _=>none
def a74 (tb:Tab I)(disp:a0f I)(O Oc:Obs I)(nb:Nat):(ps:List Pk)->List (PV I)->Option (a2f I ps×AccT)
 | [],[]=>some ((),⟨[],[],[],[]⟩)
 | .d k::r,p::ps=>(a9c tb O k p).bind fun x=>(a74 tb disp O Oc nb r ps).bind fun y=>some ((x.1,y.1),⟨x.2++y.2.pub,y.2.all,y.2.gv,y.2.rv⟩)
 | .var T v w::r,p::ps=>(d1Y tb O T v w p).bind fun x=>(a74 tb disp O Oc nb r ps).bind fun y=>some ((x.1,y.1),⟨x.2.pub++y.2.pub,x.2.all++y.2.all,x.2.gv++y.2.gv,x.2.rv++y.2.rv⟩)
 | .row E fl::r,p::ps=>(a8m tb O (.row E fl) p).bind fun x=>(a74 tb disp O Oc nb r ps).bind fun y=>some ((x.1,y.1),⟨x.2.1++y.2.pub,x.2.2++y.2.all,y.2.gv,y.2.rv⟩)
 | .fn ks rs::r,p::ps=>(a74 tb disp O Oc nb r ps).bind fun y=>match p with
   | .fn ks' rs' g=>(c8N ks rs ks' rs' g).bind fun g'=>some ((g',y.1),y.2)
   | .clo f ls=>bif tb.fb f then some ((c7F tb disp Oc nb f ls ks rs,y.1),y.2) else none
   | _=>none
 | .val v::r,p::ps=>(c0F tb O v p).bind fun x=>(a74 tb disp O Oc nb r ps).bind fun y=>some ((x.1,y.1),⟨x.2.1++y.2.pub,x.2.2++y.2.all,y.2.gv,y.2.rv⟩)
 | .lnt ks::r,p::ps=>(c8x tb O ks p).bind fun x=>(a74 tb disp O Oc nb r ps).bind fun y=>some ((x.1,y.1),⟨x.2.1++y.2.pub,d8D (a6X ks) none++y.2.all,y.2.gv,x.2.2++y.2.rv⟩)
 | .bor E::r,p::ps=>(c8X O E p).bind fun x=>(a74 tb disp O Oc nb r ps).bind fun y=>some ((x.1,y.1),⟨y.2.pub,none::y.2.all,y.2.gv,x.2++y.2.rv⟩)
 | _,_=>none
def grN (O:Obs I):List Pk->List (PV I)->List Nat
 | .var _ _ true::r,.ptr l _::ps=>(l::nest O [l])++grN O r ps
 | .row _ _::r,p::ps=>c3C p++grN O r ps
 | .val _::r,p::ps=>c3C p++grN O r ps
 | _::r,_::ps=>grN O r ps
 | _,_=>[]
def a3c:List (Option Nat)->List (Nat×Option (Ob I))
 | []=>[]
 | some l::r=>(l,none)::a3c r
 | none::r=>a3c r
def a7e:List (Nat×TypeId×V)->List (PV I)->List (Nat×Option (Ob I))
 | x::r,p::ps=>(x.1,some (.var x.2.1 (a7j x.2.2 p) true))::a7e r ps
 | _,_=>[]
def c5R (gr:List Nat)(a:AccT):Bool:=a72 a.pub a.all&&a.all.all (fun x=>match x with | some l=>W5 l gr | none=>true)&&a.rv.all (fun l=>!(W5 l gr))
def c7r (tb:Tab I)(r:Row I)(disp:a0f I)(ρ:Type)(O:Obs I)(nb:Nat)(ps:List (PV I))(k:Ef I->Option ρ):Option ρ :=
 (a74 tb disp O (roO [] (J0 (grN O r.ps ps) O)) nb r.ps ps).bind fun a =>
 bif c5R (grN O r.ps ps) a.2 then (b3e r.ps r.run a.1).bind fun res =>
  k ⟨a8o ((pvT tb nb (r.rs++Q0 r.ps) res).take r.rs.length),Q3 O a.2.pub++a3c a.2.all++a7e a.2.gv ((pvT tb nb (r.rs++Q0 r.ps) res).drop r.rs.length),obT (r.rs++Q0 r.ps) res⟩ else none
structure Ans (I:TypeId->Type) where
 f:FuncId
 go:a0f I->(ρ:Type)->Obs I->Nat->List (PV I)->(Ef I->Option ρ)->Option ρ
structure EntOk (P:Program)(e:Ans I):Prop where
 par:∀ (disp:a0f I) (ρ:Type) (O:Obs I) (nb:Nat) (ps:List (PV I)) (k:Ef I->Option ρ),e.go disp ρ O nb ps k=(e.go disp (Ef I) O nb ps some).bind k
 ok:∀ (disp:a0f I),DispOk P disp->∀ (O:Obs I) (nb:Nat) (ps:List (PV I)) (ef:Ef I),e.go disp (Ef I) O nb ps some=some ef->d2Q P e.f O nb ps ef
def c3T (f:FuncId):List (Ans I)->Option (Ans I)
 | []=>none
 | e::r=>bif d8u e.f f then some e else c3T f r
def c07 (es:List (Ans I)):Nat->a0f I
 | 0=>fun _ _ _ _ _ _=>none
 | d+1=>fun ρ f O nb ps k=>match c3T f es with
   | some e=>e.go (c07 es d) ρ O nb ps k
   | none=>none
def c54 (tb:Tab I)(r:Row I):Ans I:=⟨r.f,c7r tb r⟩
def b6E (tb:Tab I)(r:Row I)(chk:Obs I->List (PV I)->Bool)(disp:a0f I)(ρ:Type)(O:Obs I)(nb:Nat)(ps:List (PV I))(k:Ef I->Option ρ):Option ρ:=bif chk O ps then c7r tb r disp ρ O nb ps k else none
def c4T (tb:Tab I)(r:Row I)(chk:Obs I->List (PV I)->Bool):Ans I:=⟨r.f,b6E tb r chk⟩
def c5V (P:Program):List (Ans I)->Prop
 | []=>True
 | e::r=>EntOk P e/\c5V P r
variable {P:Program}{tb:Tab I}{X:Cxt}{c c':Cx}{σ τ:S}{s:St I}{n:Nat}{F:Fr}{O:Obs I}
theorem c2I {f:FuncId}:∀ {es:List (Ans I)} {e:Ans I},c5V P es->c3T f es=some e->EntOk P e/\e.f=f
 | [],_,_,h=>by cases h
 | x::r,e,ha,h=>by
   simp only [c3T] at h
   cases hb:d8u x.f f with
   | true=>rw [hb] at h; cases h; exact ⟨ha.1,d8s hb⟩
   | false=>rw [hb] at h; exact c2I ha.2 h
theorem a5L {es:List (Ans I)}(h:c5V P es):∀ d,DispOk P (c07 es d)
 | 0=>⟨fun _ _ _ _ _ _=>rfl,fun _ _ _ _ _ h=>by cases h⟩
 | d+1=>by
   refine ⟨fun ρ f O nb ps k=>?_,fun f O nb ps e he=>?_⟩
   ·simp only [c07]
    cases hf:c3T f es with
    | none=>rfl
    | some e=>exact (c2I h hf).1.par _ _ _ _ _ _
   ·simp only [c07] at he
    split at he
    ·rename_i x hx
     obtain ⟨h1,h2⟩:=c2I h hx
     rw [<- h2]
     exact h1.ok _ (a5L h d) O nb ps e he
    ·cases he
theorem b65 (ht:TabOk P tb):∀ {ks:List Kd} {q:Tys I ks} {vs:List Value},DVs σ ks q vs->RVs X c σ (a9P tb ks q) vs
 | [],_,_,h=>by simpa only [a9P,RVs,DVs] using h
 | k::ks,q,_,⟨v,r,e,h1,h2⟩=>by
   simp only [a9P,RVs]
   exact ⟨v,r,e,a97 ht h1,b65 ht h2⟩
omit [∀ E,Rp (I E)] in
theorem c8l:∀ {vs:List V} {ps:List (PV I)} {x},a3D tb O vs ps=some x->ps.length=vs.length
 | [],[],_,_=>rfl
 | [_],[_],_,_=>rfl
 | _::v'::vs,p::ps,_,h=>by
   obtain ⟨y,hy,h⟩:=bind_some h
   obtain ⟨z,hz,h⟩:=bind_some h
   have:=c8l (vs:=v'::vs) hz
   simp [this]
 | [],_::_,_,h=>by simp [a3D] at h
 | [_],[],_,h=>by simp [a3D] at h
 | [_],_::_::_,_,h=>by simp [a3D] at h
 | _::_::_,[],_,h=>by simp [a3D] at h
theorem d6H (ht:TabOk P tb){disp:a0f I}(hd:DispOk P disp)(hX:X.P=P)(h:Rel X c σ s n F){gr:List Nat}{Oc:Obs I}(hOc:∀ l o,Oc l=some (some o)->roO [] (J0 gr s.O) l=some (some o)){M:Nat->Prop}
 (hM:∀ b,M b->σ.N<=b\/∃ l∈gr,Y7 s l/\∃ p,c l=some p/\p.w=some b) {nb:Nat} {f:FuncId} {ls:List (PV I)} {cs:List Value} (hl:RVs X c σ ls cs) {ks:List Kd} {rs:List V} (hbody:a1F P f):d3p P M σ f [] cs ks rs (c7F tb disp Oc nb f ls ks rs):=by
 refine ⟨hbody,rfl,fun τ hτ q vs r hq hr=>?_⟩
 unfold c7F at hr
 rw [d0p,hd.par] at hr
 obtain ⟨e,he,hr⟩:=bind_some hr
 have hMX:∀ b,M b->X.M b:=fun b hb=>by
  rcases hM b hb with hb | ⟨l,_,hlv,p,hc,hw⟩
  ·exact .inl (d8C h.base.1 hb)
  ·exact h.mine l p b hlv hc hw
 have h1:Rel X c σ ⟨s.n,s.F,J0 gr s.O,s.nx⟩ n F:=h.less (fun l o ho=>(Q6 ho).2) (fun l ho=>a2W.1 ho)
 have hi1:∀ g,M g->notIn c σ (⟨s.n,s.F,J0 gr s.O,s.nx⟩:St I) g:=fun g hg=>by
  rcases hM g hg with hb | ⟨l',hl',hlv,p',hc',hw'⟩
  ·exact (h.fresh hb).sub fun l E E' u xs q e=>(Q6 e).2
  ·exact (h.owned hlv hc' hw').sub fun l E E' u xs q e=>(Q6 e).2
 have h2:Rel X c τ ⟨s.n,s.F,J0 gr s.O,s.nx⟩ n F:=h1.stepG hτ hMX (hi:=hi1) fun l p g ⟨o,ho⟩ hc hw hm=>by
  obtain ⟨k1,k2⟩:=Q6 ho
  have hlt:=(h.objs l o k2).lt hc hw
  rcases hM g hm with hb | ⟨l',hl',hlv,p',hc',hw'⟩
  ·have:σ.N<=g:=hb
   omega
  ·exact k1 (by rw [h.inj l l' p p' g ⟨o,k2⟩ hlv hc hc' hw hw']; exact hl')
 have h3:=enter h2 []
 have hlτ:RVs X c τ ls cs:=RVs.step (hτ.mono fun b _ hb=>hMX b hb) _ _ hl
 have hconv:RVs (K5 X c τ ⟨s.n,s.F,J0 gr s.O,s.nx⟩ []) (roC [] c) τ ls cs:=RVs.conv (X:=X) (X':=K5 X c τ ⟨s.n,s.F,J0 gr s.O,s.nx⟩ []) (c:=c) rfl (a6Y h2 []) (fun l p hp=>⟨none,by simp [roC,W5,hp]⟩) _ _ hlτ
 have hnil:e.upd=[]/\e.new=[]/\∃ ps,d1f rs e.p=some ps/\∃ x,a3D tb (fun _=>none) rs ps=some x/\x.2.1=[]/\x.2.2=[]/\x.1=r:=by
  unfold d6G at hr
  obtain ⟨hb,hr⟩:=j8 hr
  simp only [d8p] at hb
  obtain ⟨ps,hps,hr⟩:=bind_some hr
  obtain ⟨x,hx,hr⟩:=bind_some hr
  obtain ⟨hb2,hr⟩:=j8 hr
  simp only [d8p] at hb2
  cases hr
  exact ⟨a4e hb.1,a4e hb.2,ps,hps,x,hx,a4e hb2.1,a4e hb2.2,rfl⟩
 obtain ⟨n1,n2,ps,hps,x,hx,x1,x2,hxr⟩:=hnil
 have hc:=hd.ok _ _ _ _ _ he (K5 X c τ ⟨s.n,s.F,J0 gr s.O,s.nx⟩ []) (roC [] c) τ (roS [] ⟨s.n,s.F,J0 gr s.O,s.nx⟩) n F (vs++cs) hX hOc h3 (RVs.app _ _ _ _ (b65 ht hq) hconv) (by rw [n2]; rfl)
 rw [<- d9y vs] at hc
 refine a0Z.mono hc rfl fun v υ hst ⟨c',_,hrel,hv⟩=>⟨υ,rfl,hst.mono fun b hb hm=>?_,?_⟩
 ·rcases hm with hm | ⟨_,hm,_⟩
  ·have:τ.N<=b:=hm
   omega
  ·cases hm
 ·have hlen:=c8l hx
  have hws:∃ ws,v=a4Y ws/\RVs (K5 X c τ ⟨s.n,s.F,J0 gr s.O,s.nx⟩ []) c' υ ps ws:=by
   unfold d1f at hps
   split at hps
   ·cases hps
    exact ⟨[v],rfl,by simp only [RVs]; exact ⟨v,[],rfl,hv,rfl⟩⟩
   ·rename_i hne
    split at hps
    ·rename_i ls' e'
     cases hps
     rw [e'] at hv
     simp only [RV] at hv
     obtain ⟨ws,rfl,hws⟩:=hv
     refine ⟨ws,?_,hws⟩
     have hl2:=RVs.len _ _ hws
     cases ws with
     | nil=>rfl
     | cons a r =>
       cases r with
       | nil =>
         exfalso
         cases rs with
         | nil=>simp at hl2; rw [<- hl2] at hlen; simp at hlen
         | cons a' r' =>
           cases r' with
           | nil=>exact hne a' rfl
           | cons=>simp at hl2 hlen; omega
       | cons=>rfl
    ·cases hps
  obtain ⟨ws,hw1,hw2⟩:=hws
  obtain ⟨x0,xl,xr⟩:=x
  simp only at x1 x2 hxr
  subst x1
  subst x2
  subst hxr
  obtain ⟨pls,t1,t2⟩:=b2k ht a2w.none_ Rows.none_ hx (fun _ h=>h) (fun _ h=>by cases h) hw2
  have:pls=[]:=t2
  subst this
  exact ⟨ws,hw1,t1⟩
omit [∀ E,Rp (I E)] in
theorem d2P {ks ks':List Kd}{rs rs':List V}{g:Fun I ks' (TyT I rs')}{g':Fun I ks (TyT I rs)}(h:c8N ks rs ks' rs' g=some g'):∃ (e1:ks'=ks) (e2:rs'=rs),g'=e1▸e2▸g:=by
 unfold c8N at h
 split at h
 ·rename_i e; cases h; exact ⟨e.1,e.2,rfl⟩
 ·cases h
def a7r:List Pk->List (TypeId×V)
 | []=>[]
 | .var T v true::r=>(T,v)::a7r r
 | _::r=>a7r r
theorem a3U:∀ (pks:List Pk),(a7r pks).map (·.2)=Q0 pks
 | []=>rfl
 | .var T v true::r=>by simp [a7r,Q0,a3U r]
 | .var T v false::r=>a3U r
 | .d _::r=>a3U r
 | .row _ _::r=>a3U r
 | .fn _ _::r=>a3U r
 | .bor _::r=>a3U r
 | .val _::r=>a3U r
 | .lnt _::r=>a3U r
omit [∀ E,Rp (I E)] in
theorem b7v {O:Obs I}{l:Nat}{E:TypeId}{xs:List (I E)}:∀ {ls:List Nat} {O1:Obs I},(∃ fl,O l=some (some (.row E xs fl)))->(∃ fl,O1 l=some (some (.row E xs fl)))->∃ fl,apU O1 (Q3 O ls) l=some (some (.row E xs fl))
 | [],_,_,h=>h
 | a::r,O1,h0,h=>by
   simp only [Q3]
   split
   ·rename_i E' xs' e
    simp only [apU]
    refine b7v h0 ?_
    by_cases el:l=a
    ·subst el
     obtain ⟨fl,h0⟩:=h0
     rw [h0] at e
     cases e
     exact ⟨true,J3 _ _ _⟩
    ·rw [J2 el]; exact h
   ·exact b7v h0 h
theorem d2v (h:Rel X c σ s n F)(hRw:∀ l E (xs:List (I E)) fl,O l=some (some (.row E xs fl))->∃ fl',s.O l=some (some (.row E xs fl')))(hBo:∀ l E (xs:List (I E)),O l=some (some (.bo E xs))->s.O l=some (some (.bo E xs)))
 {LS:List Nat} (hS:a2w X c σ O LS) {gr:List Nat} {M:Nat->Prop} (hM:∀ b,M b->σ.N<=b\/∃ l∈gr,Y7 s l/\∃ p,c l=some p/\p.w=some b) {E:TypeId} {p:PV I} {x:List (I E)} {rv:List Nat} (hx:c8X O E p=some (x,rv)) (hrv:∀ l∈rv,l ∉ gr) {v:Value} (hv:RV X c σ p v) :
 ∃ A k,v=.slice A x.length k/\Bor M σ x A:=by
 have hMX:∀ b,M b->X.M b:=fun b hb=>by
  rcases hM b hb with hb | ⟨l,_,hlv,p,hc,hw⟩
  ·exact .inl (d8C h.base.1 hb)
  ·exact h.mine l p b hlv hc hw
 unfold c8X at hx
 split at hx
 ·rename_i l
  simp only [RV] at hv
  obtain ⟨p,hp,rfl⟩:=hv
  split at hx
  ·rename_i E' xs fl ho
   obtain ⟨ys,hys,hx⟩:=bind_some hx
   cases hx
   obtain ⟨e,rfl⟩:=a0l hys
   subst e
   obtain ⟨fl',hs⟩:=hRw l _ _ _ ho
   obtain ⟨A,k,ow,k1,k2⟩:=h.objs l _ hs
   rw [k1] at hp
   cases hp
   refine ⟨A,k,rfl,Bor.of_own k2 fun g hg hm=>?_⟩
   have hlt:=(h.objs l _ hs).lt k1 (g:=g) hg
   rcases hM g hm with hb | ⟨l',hl',hlv,p',hc',hw'⟩
   ·have hb':σ.w.heap.size<=g:=hb
    have:g<σ.w.heap.size:=hlt
    omega
   ·have e:=h.inj l l' _ p' g ⟨_,hs⟩ hlv k1 hc' hg hw'
    exact hrv l (by simp) (by rw [e]; exact hl')
  ·rename_i E' xs ho
   obtain ⟨ys,hys,hx⟩:=bind_some hx
   cases hx
   obtain ⟨e,rfl⟩:=a0l hys
   subst e
   obtain ⟨A,k,k1,k2⟩:=hS.2.1 l _ _ ho
   rw [k1] at hp
   cases hp
   exact ⟨A,k,rfl,Bor.of_sl k2⟩
  ·rename_i E' xs ho
   obtain ⟨ys,hys,hx⟩:=bind_some hx
   cases hx
   obtain ⟨e,rfl⟩:=a0l hys
   subst e
   obtain ⟨A,k,k1,k2⟩:=h.objs l _ (hBo l _ _ ho)
   rw [k1] at hp
   cases hp
   exact ⟨A,k,rfl,k2.sub fun b _=>hMX b⟩
  ·cases hx
 ·obtain ⟨ys,hys,hx⟩:=bind_some hx
  cases hx
  obtain ⟨e,rfl⟩:=a0l hys
  subst e
  simp only [RV] at hv
  obtain ⟨A,k,e1,e2,_⟩:=hv
  exact ⟨A,k,e1,Bor.of_sl e2⟩
 ·cases hx
  simp only [RV] at hv
  obtain ⟨A,rfl⟩:=hv
  exact ⟨A,0,rfl,[],rfl,fun hn=>absurd rfl hn⟩
 ·cases hx
theorem c74 (ht:TabOk P tb)(h:Rel X c σ s n F)(hMp:∀ l T kd m,(O l=some (some (.map T kd m))->s.O l=some (some (.map T kd m)))/\(O l=some (some (.rom T kd m))->s.O l=some (some (.rom T kd m))))
 {LS:List Nat} (hS:a2w X c σ O LS) {gr:List Nat} {M:Nat->Prop} (hM:∀ b,M b->σ.N<=b\/∃ l∈gr,Y7 s l/\∃ p,c l=some p/\p.w=some b) {k:K} {p:PV I} {x:TyK I k} {ls rv:List Nat} (hx:c7v tb O k p=some (x,ls,rv)) (hl:∀ l∈ls,l∈LS) (hrv:∀ l∈rv,l ∉ gr) {v:Value} (hv:RV X c σ p v) :
 ∃ pls,LK M σ k x v pls/\At c (d8D (cnK k) none) pls:=by
 have hMX:∀ b,M b->X.M b:=fun b hb=>by
  rcases hM b hb with hb | ⟨l,_,hlv,p,hc,hw⟩
  ·exact .inl (d8C h.base.1 hb)
  ·exact h.mine l p b hlv hc hw
 unfold c7v at hx
 split at hx
 ·obtain ⟨y,hy,hx⟩:=bind_some hx
  cases hx
  exact ⟨[],⟨a5Q ht hS hy hl hv,rfl⟩,rfl⟩
 ·rename_i T kd l
  simp only [RV] at hv
  obtain ⟨b,w,hc,rfl⟩:=hv
  split at hx
  ·rename_i T' kd' m ho
   obtain ⟨ys,hys,hx⟩:=bind_some hx
   cases hx
   obtain ⟨e,_,rfl⟩:=a4W hys
   subst e
   have hs:=(hMp l _ _ _).1 ho
   obtain ⟨b',k1,k2⟩:=h.objs l _ hs
   rw [k1] at hc
   cases hc
   refine ⟨[⟨some ⟨b,0,none⟩,0,0,none⟩],⟨b,rfl,rfl,k2,fun hm=>?_⟩,⟨_,[],rfl,rfl,rfl⟩⟩
   rcases hM b hm with hb | ⟨l',hl',hlv,p',hc',hw'⟩
   ·have hb':σ.w.heap.size<=b:=hb
    have:=k2.lt
    have:b<σ.w.heap.size:=this
    omega
   ·have e:=h.inj l l' _ p' b ⟨_,hs⟩ hlv k1 hc' rfl hw'
    exact hrv l (by simp) (by rw [e]; exact hl')
  ·rename_i T' kd' m ho
   obtain ⟨ys,hys,hx⟩:=bind_some hx
   cases hx
   obtain ⟨e,_,rfl⟩:=a4W hys
   subst e
   obtain ⟨b',k1,k2,k3⟩:=h.objs l _ ((hMp l _ _ _).2 ho)
   rw [k1] at hc
   cases hc
   exact ⟨[⟨some ⟨b,0,none⟩,0,0,none⟩],⟨b,rfl,rfl,k2,fun hm=>k3 (hMX b hm)⟩,⟨_,[],rfl,rfl,rfl⟩⟩
  ·cases hx
 ·cases hx
theorem c6c (ht:TabOk P tb)(h:Rel X c σ s n F)(hMp:∀ l T kd m,(O l=some (some (.map T kd m))->s.O l=some (some (.map T kd m)))/\(O l=some (some (.rom T kd m))->s.O l=some (some (.rom T kd m))))
 {LS:List Nat} (hS:a2w X c σ O LS) {gr:List Nat} {M:Nat->Prop} (hM:∀ b,M b->σ.N<=b\/∃ l∈gr,Y7 s l/\∃ p,c l=some p/\p.w=some b):∀ {ks:List K} {ps:List (PV I)} {x:a36 I ks} {ls rv:List Nat},b2W tb O ks ps=some (x,ls,rv)->(∀ l∈ls,l∈LS)->(∀ l∈rv,l ∉ gr)->∀ {vs:List Value},RVs X c σ ps vs ->
 ∃ pls,LKs M σ ks x vs pls/\At c (d8D (a6X ks) none) pls
 | [],[],_,_,_,hx,_,_,vs,hv=>by
   cases hx
   simp only [RVs] at hv
   exact ⟨[],⟨hv,rfl⟩,rfl⟩
 | [k],[p],x,ls,rv,hx,hl,hr,vs,hv=>by
   simp only [RVs] at hv
   obtain ⟨v,r,rfl,h1,rfl⟩:=hv
   obtain ⟨pls,h2,h3⟩:=c74 ht h hMp hS hM hx hl hr h1
   exact ⟨pls,⟨v,rfl,h2⟩,h3⟩
 | k::k'::ks,p::ps,x,ls,rv,hx,hl,hr,vs,hv=>by
   obtain ⟨y,hy,hx⟩:=bind_some hx
   obtain ⟨z,hz,hx⟩:=bind_some hx
   cases hx
   simp only [RVs] at hv
   obtain ⟨v,r,rfl,h1,h2⟩:=hv
   obtain ⟨p1,a1,a2⟩:=c74 ht h hMp hS hM (ls:=y.2.1) (rv:=y.2.2) hy (fun l hm=>hl l (by simp [hm])) (fun l hm=>hr l (by simp [hm])) h1
   obtain ⟨p2,b1,b2⟩:=c6c ht h hMp hS hM (ls:=z.2.1) (rv:=z.2.2) hz (fun l hm=>hl l (by simp [hm])) (fun l hm=>hr l (by simp [hm])) h2
   refine ⟨p1++p2,⟨v,r,p1,p2,rfl,rfl,a1,b1⟩,?_⟩
   show At c (d8D (cnK k+a6X (k'::ks)) none) (p1++p2)
   rw [<- List.replicate_append_replicate]
   exact a2.app b2
 | [],_::_,_,_,_,hx,_,_,_,_=>by simp [b2W] at hx
 | [_],[],_,_,_,hx,_,_,_,_=>by simp [b2W] at hx
 | [_],_::_::_,_,_,_,hx,_,_,_,_=>by simp [b2W] at hx
 | _::_::_,[],_,_,_,hx,_,_,_,_=>by simp [b2W] at hx
theorem d2k (ht:TabOk P tb)(h:Rel X c σ s n F)(hMp:∀ l T kd m,(O l=some (some (.map T kd m))->s.O l=some (some (.map T kd m)))/\(O l=some (some (.rom T kd m))->s.O l=some (some (.rom T kd m))))
 {LS:List Nat} (hS:a2w X c σ O LS) {gr:List Nat} {M:Nat->Prop} (hM:∀ b,M b->σ.N<=b\/∃ l∈gr,Y7 s l/\∃ p,c l=some p/\p.w=some b) {ks:List K} {p:PV I} {x:a36 I ks} {ls rv:List Nat} (hx:c8x tb O ks p=some (x,ls,rv)) (hl:∀ l∈ls,l∈LS) (hr:∀ l∈rv,l ∉ gr) {v:Value} (hv:RV X c σ p v) :
 ∃ pls,b4l ks=true/\∃ cs,v=.agg cs.toArray/\LKs M σ ks x cs pls/\At c (d8D (a6X ks) none) pls:=by
 unfold c8x at hx
 split at hx
 ·obtain ⟨hnd,hx⟩:=j8 hx
  obtain ⟨ls',hls,hx⟩:=bind_some hx
  simp only [RV] at hv
  obtain ⟨cs,rfl,hcs⟩:=hv
  obtain ⟨pls,h1,h2⟩:=c6c ht h hMp hS hM hx hl hr (b2t ht hls hcs)
  exact ⟨pls,hnd,cs,rfl,h1,h2⟩
 ·cases hx
def a6Z (c:Cx)(O:Obs I):List (Nat×TypeId×V)->List Nat->Prop
 | [],bs=>bs=[]
 | x::r,bs=>∃ b bs' ls,bs=b::bs'/\O x.1=some (some (.var x.2.1 ls true))/\c x.1=some ⟨some ⟨b,0,none⟩,0,0,some b⟩/\a6Z c O r bs'
theorem a4Z (ht:TabOk P tb){disp:a0f I}(hd:DispOk P disp)(hX:X.P=P)(h:Rel X c σ s n F)(hRw:∀ l E (xs:List (I E)) fl,O l=some (some (.row E xs fl))->∃ fl',s.O l=some (some (.row E xs fl')))(hBo:∀ l E (xs:List (I E)),O l=some (some (.bo E xs))->s.O l=some (some (.bo E xs)))(hMp:∀ l T kd m,(O l=some (some (.map T kd m))->s.O l=some (some (.map T kd m)))/\(O l=some (some (.rom T kd m))->s.O l=some (some (.rom T kd m))))(hO:∀ l T ls w,O l=some (some (.var T ls w))->s.O l=some (some (.var T ls w))){LS:List Nat}(hS:a2w X c σ O LS)(hR:Rows X c σ O LS){gr:List Nat}{Oc:Obs I}
 (hOc:∀ l o,Oc l=some (some o)->roO [] (J0 gr s.O) l=some (some o)) {M:Nat->Prop} (hM:∀ b,M b->σ.N<=b\/∃ l∈gr,Y7 s l/\∃ p,c l=some p/\p.w=some b) {nb:Nat} :
 ∀ {pks:List Pk} {ps:List (PV I)} {a:a2f I pks} {acc:AccT} {vs:List Value},a74 tb disp O Oc nb pks ps=some (a,acc)->RVs X c σ ps vs->(∀ l∈acc.pub,l∈LS)->(∀ l,some l∈acc.all->l ∉ LS)->(∀ l∈acc.rv,l ∉ gr) ->
  ∃ pls,a7o P M σ pks a vs pls/\At c acc.all pls/\a6Z c O acc.gv (a0Y pks vs)/\(∀ l,some l∈acc.all->(∃ o:Ob I,O l=some (some o)/\b46 o=true)\/∃ T v,(l,T,v)∈acc.gv)/\(∀ x∈acc.gv,some x.1∈acc.all)/\acc.gv.map (fun x=>x.2)=a7r pks
 | [],[],a,acc,vs,e,hv,_,_,_=>by
   cases e
   simp only [RVs] at hv
   subst hv
   exact ⟨[],⟨rfl,rfl⟩,rfl,rfl,(fun l hl=>by cases hl),(fun l hl=>by cases hl),rfl⟩
 | .d k::r,p::ps,_,_,vs,e,hv,h1,h2,h3=>by
   obtain ⟨x,hx,e⟩:=bind_some e
   obtain ⟨y,hy,e⟩:=bind_some e
   cases e
   simp only [RVs] at hv
   obtain ⟨v,vs',rfl,hv1,hv2⟩:=hv
   obtain ⟨pls,k1,k2,k3,k4,k5,k6⟩:=a4Z ht hd hX h hRw hBo hMp hO hS hR hOc hM (a:=y.1) (acc:=y.2) hy hv2 (fun l hl=>h1 l (by simp [hl])) h2 h3
   have hd1:=a5Q ht hS (ls:=x.2) hx (fun l hl=>h1 l (by simp [hl])) hv1
   refine ⟨pls,⟨v,vs',[],pls,rfl,rfl,⟨hd1,rfl⟩,k1⟩,k2,?_,k4,k5,k6⟩
   have:a0Y (.d k::r) (v::vs')=a0Y r vs':=by cases v<;>rfl
   rw [this]; exact k3
 | .row E fl::r,p::ps,_,_,vs,e,hv,h1,h2,h3=>by
   obtain ⟨x,hx,e⟩:=bind_some e
   obtain ⟨y,hy,e⟩:=bind_some e
   cases e
   simp only [RVs] at hv
   obtain ⟨v,vs',rfl,hv1,hv2⟩:=hv
   obtain ⟨pls,k1,k2,k3,k4,k5,k6⟩:=a4Z ht hd hX h hRw hBo hMp hO hS hR hOc hM (a:=y.1) (acc:=y.2) hy hv2 (fun l hl=>h1 l (by simp [hl])) (fun l hl=>h2 l (by simp [hl])) h3
   obtain ⟨p1,t1,t2⟩:=b5S ht hS hR (ls:=x.2.1) (rows:=x.2.2) hx (fun l hl=>h1 l (by simp [hl])) (fun l hl=>h2 l (by simp [hl])) hv1
   have hl1:=b4C (ls:=x.2.1) (rows:=x.2.2) hx
   obtain ⟨A,k,ow,e1,e2,e3⟩:=t1
   refine ⟨p1++pls,⟨v,vs',p1,pls,rfl,rfl,⟨A,k,ow,e1,e3,e2⟩,k1⟩,t2.app k2,?_,fun l hl=>?_,fun z hz=>by simp [k5 z hz],k6⟩
   ·have:a0Y (.row E fl::r) (v::vs')=a0Y r vs':=by cases v<;>rfl
    rw [this]; exact k3
   ·rcases d8y.1 hl with hl | hl
    ·exact .inl (hl1 l hl)
    ·exact k4 l hl
 | .val vk::r,p::ps,_,_,vs,e,hv,h1,h2,h3=>by
   obtain ⟨x,hx,e⟩:=bind_some e
   obtain ⟨y,hy,e⟩:=bind_some e
   cases e
   simp only [RVs] at hv
   obtain ⟨v,vs',rfl,hv1,hv2⟩:=hv
   obtain ⟨pls,k1,k2,k3,k4,k5,k6⟩:=a4Z ht hd hX h hRw hBo hMp hO hS hR hOc hM (a:=y.1) (acc:=y.2) hy hv2 (fun l hl=>h1 l (by simp [hl])) (fun l hl=>h2 l (by simp [hl])) h3
   obtain ⟨p1,t1,t2⟩:=b6q ht hS hR (ls:=x.2.1) (rows:=x.2.2) hx (fun l hl=>h1 l (by simp [hl])) (fun l hl=>h2 l (by simp [hl])) hv1
   have hl1:=b4t (ls:=x.2.1) (rows:=x.2.2) hx
   refine ⟨p1++pls,⟨v,vs',p1,pls,rfl,rfl,t1,k1⟩,t2.app k2,?_,fun l hl=>?_,fun z hz=>by simp [k5 z hz],k6⟩
   ·have:a0Y (.val vk::r) (v::vs')=a0Y r vs':=by cases v<;>rfl
    rw [this]; exact k3
   ·rcases d8y.1 hl with hl | hl
    ·exact .inl (hl1 l hl)
    ·exact k4 l hl
 | .bor E::r,p::ps,_,_,vs,e,hv,h1,h2,h3=>by
   obtain ⟨x,hx,e⟩:=bind_some e
   obtain ⟨y,hy,e⟩:=bind_some e
   cases e
   simp only [RVs] at hv
   obtain ⟨v,vs',rfl,hv1,hv2⟩:=hv
   obtain ⟨pls,k1,k2,k3,k4,k5,k6⟩:=a4Z ht hd hX h hRw hBo hMp hO hS hR hOc hM (a:=y.1) (acc:=y.2) hy hv2 h1 (fun l hl=>h2 l (by simp [hl])) (fun l hl=>h3 l (by simp [hl]))
   obtain ⟨A,k,e1,e2⟩:=d2v h hRw hBo hS hM (x:=x.1) (rv:=x.2) hx (fun l hl=>h3 l (by simp [hl])) hv1
   refine ⟨⟨A,k,d98 x.1,none⟩::pls,⟨v,vs',[_],pls,rfl,rfl,⟨A,k,e1,e2,rfl⟩,k1⟩,⟨_,_,rfl,rfl,k2⟩,?_,fun l hl=>?_,fun z hz=>by simp [k5 z hz],k6⟩
   ·have:a0Y (.bor E::r) (v::vs')=a0Y r vs':=by cases v<;>rfl
    rw [this]; exact k3
   ·rcases d8A.1 hl with hl | hl
    ·cases hl
    ·exact k4 l hl
 | .lnt ks::r,p::ps,_,_,vs,e,hv,h1,h2,h3=>by
   obtain ⟨x,hx,e⟩:=bind_some e
   obtain ⟨y,hy,e⟩:=bind_some e
   cases e
   simp only [RVs] at hv
   obtain ⟨v,vs',rfl,hv1,hv2⟩:=hv
   obtain ⟨pls,k1,k2,k3,k4,k5,k6⟩:=a4Z ht hd hX h hRw hBo hMp hO hS hR hOc hM (a:=y.1) (acc:=y.2) hy hv2 (fun l hl=>h1 l (by simp [hl])) (fun l hl=>h2 l (by simp [hl])) (fun l hl=>h3 l (by simp [hl]))
   obtain ⟨p1,e0,cs,e1,e2,e3⟩:=d2k ht h hMp hS hM (x:=x.1) (ls:=x.2.1) (rv:=x.2.2) hx (fun l hl=>h1 l (by simp [hl])) (fun l hl=>h3 l (by simp [hl])) hv1
   refine ⟨p1++pls,⟨v,vs',p1,pls,rfl,rfl,⟨e0,cs,e1,e2⟩,k1⟩,e3.app k2,?_,fun l hl=>?_,fun z hz=>by simp [k5 z hz],k6⟩
   ·have:a0Y (.lnt ks::r) (v::vs')=a0Y r vs':=by cases v<;>rfl
    rw [this]; exact k3
   ·rcases d8y.1 hl with hl | hl
    ·have:=List.eq_of_mem_replicate hl
     cases this
    ·exact k4 l hl
 | .fn ks rs::r,p::ps,_,_,vs,e,hv,h1,h2,h3=>by
   obtain ⟨y,hy,e⟩:=bind_some e
   simp only [RVs] at hv
   obtain ⟨v,vs',rfl,hv1,hv2⟩:=hv
   have hb:a0Y (.fn ks rs::r) (v::vs')=a0Y r vs':=by cases v<;>rfl
   split at e
   ·rename_i ks' rs' g
    obtain ⟨g',hg',e⟩:=bind_some e
    cases e
    obtain ⟨e1,e2,e3⟩:=d2P hg'
    subst e1
    subst e2
    subst e3
    obtain ⟨pls,k1,k2,k3,k4,k5,k6⟩:=a4Z ht hd hX h hRw hBo hMp hO hS hR hOc hM (a:=y.1) (acc:=y.2) hy hv2 h1 h2 h3
    simp only [RV] at hv1
    obtain ⟨f,as',cs,e4,hf⟩:=hv1
    refine ⟨pls,⟨v,vs',[],pls,rfl,rfl,⟨f,as',cs,e4,⟨by rw [<- hX]; exact hf.1,hf.2.1,fun τ hτ=>?_⟩,rfl⟩,k1⟩,k2,by rw [hb]; exact k3,k4,k5,k6⟩
    rw [hX] at hf
    exact hf.2.2 τ (hτ.mono fun b _ hb=>by
     rcases hM b hb with hb | ⟨l,_,hlv,p,hc,hw⟩
     ·exact .inl (d8C h.base.1 hb)
     ·exact h.mine l p b hlv hc hw)
   ·rename_i f0 ls0 hh0
    replace e:=j8 e
    obtain ⟨hfb,e⟩:=e
    cases e
    obtain ⟨pls,k1,k2,k3,k4,k5,k6⟩:=a4Z ht hd hX h hRw hBo hMp hO hS hR hOc hM (a:=y.1) (acc:=y.2) hy hv2 h1 h2 h3
    simp only [RV] at hv1
    obtain ⟨cs,e4,hls⟩:=hv1
    exact ⟨pls,⟨v,vs',[],pls,rfl,rfl,⟨_,[],cs,e4,d6H ht hd hX h hOc hM hls (ht.fb _ hfb),rfl⟩,k1⟩,k2,by rw [hb]; exact k3,k4,k5,k6⟩
   ·cases e
 | .var T vk w::r,p::ps,_,_,vs,e,hv,h1,h2,h3=>by
   obtain ⟨x,hx,e⟩:=bind_some e
   obtain ⟨y,hy,e⟩:=bind_some e
   cases e
   simp only [RVs] at hv
   obtain ⟨v,vs',rfl,hv1,hv2⟩:=hv
   obtain ⟨pls,k1,k2,k3,k4,k5,k6⟩:=a4Z ht hd hX h hRw hBo hMp hO hS hR hOc hM (a:=y.1) (acc:=y.2) hy hv2 (fun l hl=>h1 l (by simp [hl])) (fun l hl=>h2 l (by simp [hl])) (fun l hl=>h3 l (by simp [hl]))
   unfold d1Y at hx
   split at hx
   ·rename_i l
    split at hx
    ·rename_i T' ls w' ho
     replace hx:=j8 hx
     obtain ⟨hT,hx⟩:=hx
     simp only [d8p] at hT
     have eT:=d8s hT.1
     subst eT
     have hww:=hT.2
     replace hx:=bind_some hx
     obtain ⟨q,hq,hx⟩:=hx
     replace hx:=bind_some hx
     obtain ⟨z,hz,hx⟩:=hx
     have hs:=hO _ _ _ _ ho
     obtain ⟨b,cs,o1,o2,o3,o4,o5⟩:=h.objs l _ hs
     simp only [RV] at hv1
     obtain ⟨b',w2,c1,rfl⟩:=hv1
     rw [o1] at c1
     cases c1
     obtain ⟨u,hu,hcu⟩:=c82 hq o2
     cases w with
     | true =>
       have hw':w'=true:=by cases w'<;>simp at hww ⊢
       subst hw'
       cases hx
       obtain ⟨pr,t1,t2⟩:=b6q ht hS hR (ls:=z.2.1) (rows:=z.2.2) hz (fun l hl=>h1 l (by simp [hl])) (fun l hl=>h2 l (by simp [hl])) hu
       have hl1:=b4t (ls:=z.2.1) (rows:=z.2.2) hz
       refine ⟨(⟨some ⟨b,0,none⟩,0,0,some b⟩::pr)++pls,⟨_,vs',_,pls,rfl,rfl,⟨b,cs,u,pr,rfl,o3,hcu,t1,(fun _=>o4 rfl),(fun e=>by cases e),rfl⟩,k1⟩,?_,?_,fun l' hl=>?_,fun g hg=>?_,?_⟩
       ·refine At.app (r1:=some l::z.2.2) ?_ k2
        exact ⟨_,pr,rfl,o1,t2⟩
       ·exact ⟨b,_,ls,rfl,ho,o1,k3⟩
       ·simp only [d8y,d8A,d8Y.injEq] at hl
        rcases hl with (hl | hl) | hl
        ·subst hl
         exact .inr ⟨T,vk,by simp⟩
        ·exact .inl (hl1 l' hl)
        ·rcases k4 l' hl with hl | ⟨T2,v2,hl⟩
         ·exact .inl hl
         ·exact .inr ⟨T2,v2,by simp [hl]⟩
       ·simp only [d80,d9y,d8A] at hg
        rcases hg with hg | hg
        ·subst hg; simp
        ·simp [k5 g hg]
       ·simp only [d80,d9y,d8O,a7r,k6]
     | false =>
       simp only [cond_false] at hx
       replace hx:=j8 hx
       obtain ⟨hn,hx⟩:=hx
       have hn:=a4e hn
       cases hx
       obtain ⟨pr,t1,t2⟩:=b6q ht hS hR (ls:=z.2.1) (rows:=z.2.2) hz (fun l hl=>h1 l (by simp [hl])) (fun l hl=>by rw [hn] at hl; cases hl) hu
       rw [hn] at t2
       have:pr=[]:=t2
       subst this
       have hlgr:l ∉ gr:=h3 l (by simp)
       refine ⟨(⟨some ⟨b,0,none⟩,0,0,none⟩::[])++pls,⟨_,vs',_,pls,rfl,rfl,⟨b,cs,u,[],rfl,o3,hcu,t1,(fun e=>by cases e),(fun _ hMb=>?_),rfl⟩,k1⟩,?_,?_,fun l' hl=>?_,fun g hg=>?_,?_⟩
       ·have hlt:=a0E o3
        rcases hM b hMb with hb | ⟨l',hl',hlv,p',hc',hw2'⟩
        ·have hb':σ.w.heap.size<=b:=hb
         omega
        ·cases w' with
         | true=>exact hlgr (by rw [h.inj l l' _ p' b ⟨_,hs⟩ hlv o1 hc' rfl hw2']; exact hl')
         | false=>exact o5 rfl (h.mine l' p' b hlv hc' hw2')
       ·refine At.app (r1:=[none]) ?_ k2
        exact ⟨_,[],rfl,rfl,rfl⟩
       ·exact k3
       ·simp only [d80,d9y,d8A] at hl
        rcases hl with hl | hl
        ·cases hl
        ·exact k4 l' hl
       ·simp [k5 g hg]
       ·exact k6
    ·cases hx
   ·cases hx
 | [],_::_,_,_,_,e,_,_,_,_=>by simp [a74] at e
 | _::_,[],_,_,_,e,_,_,_,_=>by simp [a74] at e
omit [∀ E,Rp (I E)] in
theorem b8l:∀ {all:List (Option Nat)} {O:Obs I} {l:Nat},(∀ l,some l∈all->O l≠none)->apU O (a3c all) l=J0 (all.filterMap id) O l
 | [],O,l,_=>by simp [a3c,apU,J0,W5]
 | none::r,O,l,h=>by
   have:=b8l (all:=r) (O:=O) (l:=l) (fun l hl=>h l (by simp [hl]))
   simpa [a3c] using this
 | some a::r,O,l,h=>by
   simp only [a3c,apU]
   rw [b8l (all:=r) (fun l' hl'=>by
    by_cases e:l'=a
    ·subst e; rw [J3]; simp
    ·rw [J2 e]; exact h l' (by simp [hl']))]
   simp only [J0,d8X,id,W5]
   by_cases e:l=a
   ·subst e
    rw [J3]
    have ha:=h l (by simp)
    cases ho:O l with
    | none=>exact absurd ho ha
    | some o=>cases W5 l (List.filterMap id r)<;>simp
   ·rw [J2 e,Sx.beq_false e]
    rfl
omit [∀ E,Rp (I E)] in
theorem c88 {O:Obs I}{l:Nat}{o:Option (Ob I)}{os:List (Ob I)}{nb:Nat}(h:l ∉ rng nb os.length):a0d (upF O l o) nb os=upF (a0d O nb os) l o:=by
 funext i
 by_cases hi:i∈rng nb os.length
 ·rw [(c5Z (O':=O) hi).1,J2 (fun e=>h (by rw [<- e]; exact hi))]
 ·rw [a0k hi]
  by_cases e:i=l
  ·subst e; rw [J3,J3]
  ·rw [J2 e,J2 e,a0k hi]
omit [∀ E,Rp (I E)] in
theorem c21 {O0:Obs I}{os:List (Ob I)}{nb:Nat}:∀ {gv:List (Nat×TypeId×V)} {ps:List (PV I)} {O:Obs I},(∀ x∈gv,(∃ ls,O0 x.1=some (some (.var x.2.1 ls true)))/\x.1 ∉ rng nb os.length) ->
 a0d (apU O (a7e gv ps)) nb os=asgW O0 (gv.map fun x=>(x.1,x.2.2)) (gv.map (·.1)) ps (a0d O nb os)
 | [],ps,O,_=>by cases ps<;>rfl
 | x::r,[],O,_=>rfl
 | x::r,p::ps,O,h=>by
   obtain ⟨⟨ls,h1⟩,h2⟩:=h x (by simp)
   simp only [a7e,apU,d8O,asgW,h1]
   rw [c21 (gv:=r) (fun y hy=>h y (by simp [hy])),c88 h2]
omit [∀ E,Rp (I E)] in
theorem a6s {O0 O:Obs I}:∀ {pks:List Pk} {vs us:List Value} {gv:List (Nat×TypeId×V)},c70 τ pks vs us->a6Z c O gv (a0Y pks vs)->gv.map (fun x=>x.2)=a7r pks->(∀ x∈gv,∃ ls,O0 x.1=some (some (.var x.2.1 ls true))) ->
 a7D τ c O0 (gv.map fun x=>(x.1,x.2.2)) (gv.map (·.1)) us
 | [],vs,us,gv,h,_,h3,_=>by
   have hg:gv=[]:=by simpa [a7r] using h3
   subst hg
   cases vs with
   | nil=>exact h
   | cons=>exact h.elim
 | .d k::r,[],us,gv,h,_,_,_=>h.elim
 | .row _ _::r,[],us,gv,h,_,_,_=>h.elim
 | .fn _ _::r,[],us,gv,h,_,_,_=>h.elim
 | .bor _::r,[],us,gv,h,_,_,_=>h.elim
 | .val _::r,[],us,gv,h,_,_,_=>h.elim
 | .lnt _::r,[],us,gv,h,_,_,_=>h.elim
 | .var _ _ false::r,[],us,gv,h,_,_,_=>h.elim
 | .var _ _ true::r,[],us,gv,h,_,_,_=>h.elim
 | .d k::r,v::vs,us,gv,h,h2,h3,h4=>a6s (pks:=r) (vs:=vs) h (by have e:a0Y (.d k::r) (v::vs)=a0Y r vs:=by cases v<;>rfl
                                                               rw [e] at h2; exact h2) h3 h4
 | .row E f::r,v::vs,us,gv,h,h2,h3,h4=>a6s (pks:=r) (vs:=vs) h (by have e:a0Y (.row E f::r) (v::vs)=a0Y r vs:=by cases v<;>rfl
                                                                   rw [e] at h2; exact h2) h3 h4
 | .val vk::r,v::vs,us,gv,h,h2,h3,h4=>a6s (pks:=r) (vs:=vs) h (by
    have e:a0Y (.val vk::r) (v::vs)=a0Y r vs:=by cases v<;>rfl
    rw [e] at h2; exact h2) h3 h4
 | .lnt ks::r,v::vs,us,gv,h,h2,h3,h4=>a6s (pks:=r) (vs:=vs) h (by have e:a0Y (.lnt ks::r) (v::vs)=a0Y r vs:=by cases v<;>rfl
                                                                  rw [e] at h2; exact h2) h3 h4
 | .bor E::r,v::vs,us,gv,h,h2,h3,h4=>a6s (pks:=r) (vs:=vs) h (by have e:a0Y (.bor E::r) (v::vs)=a0Y r vs:=by cases v<;>rfl
                                                                 rw [e] at h2; exact h2) h3 h4
 | .fn ks rs::r,v::vs,us,gv,h,h2,h3,h4=>a6s (pks:=r) (vs:=vs) h (by have e:a0Y (.fn ks rs::r) (v::vs)=a0Y r vs:=by cases v<;>rfl
                                                                    rw [e] at h2; exact h2) h3 h4
 | .var T w false::r,v::vs,us,gv,h,h2,h3,h4=>a6s (pks:=r) (vs:=vs) h (by have e:a0Y (.var T w false::r) (v::vs)=a0Y r vs:=by cases v<;>rfl
                                                                         rw [e] at h2; exact h2) h3 h4
 | .var T w true::r,v::vs,us,gv,h,h2,h3,h4=>by
   obtain ⟨b,cs,u,us',e1,e2,e3,e4,e5,e6⟩:=h
   subst e1
   subst e2
   cases gv with
   | nil=>simp [a7r] at h3
   | cons x gv =>
     simp only [d8O,a7r,List.cons.injEq] at h3
     obtain ⟨b',bs',ls,q1,q2,q3,q4⟩:=h2
     have hb:a0Y (.var T w true::r) (Value.pointer (some ⟨b,0,none⟩)::vs)=b::a0Y r vs:=rfl
     rw [hb] at q1
     cases q1
     obtain ⟨ls0,o1⟩:=h4 x (by simp)
     have ih:=a6s (pks:=r) (vs:=vs) (us:=us') (gv:=gv) (O0:=O0) e6 q4 h3.2 (fun y hy=>h4 y (by simp [hy]))
     have hT:x.2.1=T:=by rw [h3.1]
     have hV:x.2.2=w:=by rw [h3.1]
     refine ⟨u,us',b,x.2.1,ls0,true,cs,rfl,o1,q3,by rw [hT]; exact e3,e4,?_,ih⟩
     show bif a8p x.2.2 then _ else _
     rw [hV]; exact e5
theorem c2r (ht:TabOk P tb){r:Row I}{C:World->List Value->Prop}{chk:Obs I->List (PV I)->Bool}(hr:a26 P r C)
 (hC:∀ (X:Cxt) (c:Cx) (σ:S) (s:St I) (n:Nat) (F:Fr) (O:Obs I) (ps:List (PV I)) (vs:List Value),(∀ l o,O l=some (some o)->s.O l=some (some o))->Rel X c σ s n F->chk O ps=true->RVs X c σ ps vs->C σ.w vs):EntOk P (c4T tb r chk):=by
 refine ⟨fun disp ρ O nb ps k=>?_,fun disp hd O nb ps ef he=>?_⟩
 ·show b6E tb r chk disp ρ O nb ps k=(b6E tb r chk disp (Ef I) O nb ps some).bind k
  unfold b6E
  cases chk O ps
  ·rfl
  simp only [cond_true]
  unfold c7r
  simp only [d86]
  refine d1v fun a=>?_
  cases c5R (grN O r.ps ps) a.2
  ·rfl
  ·simp only [cond_true,d86]
   rfl
 ·intro X c σ s n F vs hX hO h hvs hfree
  have he':b6E tb r chk disp (Ef I) O nb ps some=some ef:=he
  unfold b6E at he'
  obtain ⟨hck,he'⟩:=j8 he'
  have hCw:=hC X c σ s n F O ps vs hO h hck hvs
  unfold c7r at he'
  obtain ⟨a,ha,he'⟩:=bind_some he'
  obtain ⟨hchk,he'⟩:=j8 he'
  obtain ⟨res,hres,he'⟩:=bind_some he'
  cases he'
  obtain ⟨a,acc⟩:=a
  simp only [c5R,d8p] at hchk
  obtain ⟨⟨q1,q2⟩,q3⟩:=hchk
  obtain ⟨r1,r2⟩:=a6R q1
  have hgr:∀ l,some l∈acc.all->l∈grN O r.ps ps:=fun l hl=>by
   have:=(d8q.1 q2) _ hl
   exact a0C.1 this
  have hrv:∀ l∈acc.rv,l ∉ grN O r.ps ps:=fun l hl=>by
   have:=(d8q.1 q3) _ hl
   exact a1v.1 (by simpa using this)
  obtain ⟨τ1,p1,p2,p3,p4,p5,p6⟩:=h.pubs hO acc.pub
  have hvs1:=RVs.step p2 _ _ hvs
  have hpubO:∀ {l:Nat},(∀ E (xs:List (I E)),O l≠some (some (.row E xs false)))->(Z8 s O acc.pub).O l=s.O l:=fun {l} hn=>by
   show apU s.O (Q3 O acc.pub) l=s.O l
   apply a3d
   intro hm
   have hp:∀ {ls:List Nat},l∈a0S (Q3 O ls)->∃ E,∃ xs:List (I E),O l=some (some (.row E xs false)):=by
    intro ls
    induction ls with
    | nil=>intro h; simp [Q3,a0S] at h
    | cons a r ih =>
      intro h
      simp only [Q3] at h
      split at h
      ·rename_i E xs e
       simp only [a0S,d8O,d8A] at h
       rcases h with rfl | h
       ·exact ⟨E,xs,e⟩
       ·exact ih h
      ·exact ih h
   obtain ⟨E,xs,e⟩:=hp hm
   exact hn E xs e
  have hOv:∀ l T ls w,O l=some (some (.var T ls w))->(Z8 s O acc.pub).O l=some (some (.var T ls w)):=fun l T ls w ho=>by
   rw [hpubO (fun E xs e=>by rw [ho] at e; cases e)]; exact hO l _ ho
  have hOc:∀ l o,roO [] (J0 (grN O r.ps ps) O) l=some (some o)->roO [] (J0 (grN O r.ps ps) (Z8 s O acc.pub).O) l=some (some o):=by
   intro l o hl
   unfold roO J0 at hl ⊢
   cases hm:W5 l (grN O r.ps ps) with
   | true =>
     rw [hm] at hl
     cases hol:O l with
     | none=>rw [hol] at hl; simp [W5] at hl
     | some x=>rw [hol] at hl; simp [W5] at hl
   | false =>
     rw [hm] at hl
     simp only [cond_false,W5] at hl ⊢
     have hne:∀ E (xs:List (I E)),O l≠some (some (.row E xs false)):=fun E xs e=>by rw [e] at hl; simp at hl
     rw [hpubO hne]
     cases hol:O l with
     | none=>rw [hol] at hl; simp at hl
     | some x =>
       cases x with
       | none=>rw [hol] at hl; simp at hl
       | some o'=>rw [hO l o' hol]; rw [hol] at hl; exact hl
  have hlv:∀ l,some l∈acc.all->(∃ o:Ob I,O l=some (some o)/\b46 o=true)\/(∃ T ls,O l=some (some (.var T ls true)))->Y7 (Z8 s O acc.pub) l:=fun l hl hx=>by
   rcases hx with ⟨o,ho,_⟩ | ⟨T,ls,ho⟩
   ·exact ⟨_,(p6 l (r2 l hl)).trans (hO l _ ho)⟩
   ·exact ⟨_,hOv l _ _ _ ho⟩
  have core:∀ M:Nat->Prop,(∀ b,M b->τ1.N<=b\/∃ l∈grN O r.ps ps,Y7 (Z8 s O acc.pub) l/\∃ p,c l=some p/\p.w=some b)->_:=fun M hM =>
   a4Z ht hd hX p3 (fun l E xs fl e=>b7v ⟨fl,e⟩ ⟨fl,hO l _ e⟩) (fun l E xs e=>(hpubO (fun E' xs' e'=>by rw [e] at e'; cases e')).trans (hO l _ e)) (fun l T kd m=>⟨fun e=>(hpubO (fun E' xs' e'=>by rw [e] at e'; cases e')).trans (hO l _ e),fun e=>(hpubO (fun E' xs' e'=>by rw [e] at e'; cases e')).trans (hO l _ e)⟩) hOv p4 p5 hOc hM (nb:=nb) ha hvs1 (fun _ h=>h) r2 hrv
  have fin:∀ (pls:List Pl),a7o P (fun b=>τ1.N<=b\/b∈ows pls) τ1 r.ps a vs pls->At c acc.all pls->a6Z c O acc.gv (a0Y r.ps vs)->(∀ l,some l∈acc.all->(∃ o:Ob I,O l=some (some o)/\b46 o=true)\/∃ T v,(l,T,v)∈acc.gv) ->
   (∀ x∈acc.gv,some x.1∈acc.all)->acc.gv.map (fun x=>x.2)=a7r r.ps->a0Z P r.f vs σ (Stp X.M σ) fun v τ=>∃ c',Cx.le c c'/\Rel X c' τ (apE s nb ⟨a8o ((pvT tb nb (r.rs++Q0 r.ps) res).take r.rs.length),Q3 O acc.pub++a3c acc.all++a7e acc.gv ((pvT tb nb (r.rs++Q0 r.ps) res).drop r.rs.length),obT (r.rs++Q0 r.ps) res⟩) n F /\
     RV X c' τ (a8o ((pvT tb nb (r.rs++Q0 r.ps) res).take r.rs.length)) v:=by
   intro pls k1 k2 k3 k4 k5 k6
   have hgv:∀ x∈acc.gv,∃ ls,O x.1=some (some (.var x.2.1 ls true)):=by
    have:∀ {gv:List (Nat×TypeId×V)} {bs:List Nat},a6Z c O gv bs->∀ x∈gv,∃ ls,O x.1=some (some (.var x.2.1 ls true)):=by
     intro gv
     induction gv with
     | nil=>intro bs _ x hx; cases hx
     | cons y r ih =>
       intro bs ⟨b,bs',ls,_,e2,_,e4⟩ x hx
       rcases d8A.1 hx with rfl | hx
       ·exact ⟨ls,e2⟩
       ·exact ih e4 x hx
    exact this k3
   have hlive:∀ l,some l∈acc.all->Y7 (Z8 s O acc.pub) l:=fun l hl=>hlv l hl ((k4 l hl).imp id fun ⟨T,v,hm⟩=>by
    obtain ⟨ls,e⟩:=hgv _ hm
    exact ⟨T,ls,e⟩)
   have hnd:(ows pls).Nodup:=At.nodup p3 k2 r1 hlive
   have hown:∀ g∈ows pls,∃ l p,some l∈acc.all/\c l=some p/\p.w=some g:=k2.mem
   have hownM:∀ g∈ows pls,X.M g:=fun g hg=>by
    obtain ⟨l,p,a1,a2,a3⟩:=hown g hg
    exact p3.mine l p g (hlive l a1) a2 a3
   refine a0Z.mono (hr τ1 a vs pls res k1 (by rw [p1]; exact hCw) hnd hres) p1.symm fun v τ hst ⟨ws,us,pls',hpost⟩=>⟨τ,rfl,p2.trans (hst.mono fun b _ hb=>hownM b hb),?_⟩
   let kl:=acc.all.filterMap id
   have hkl:∀ l,l∈kl↔some l∈acc.all:=fun l=>by simp [kl,d95]
   let s2:St I:=⟨s.n,s.F,J0 kl (Z8 s O acc.pub).O,s.nx⟩
   have h2:Rel X c τ1 s2 n F:=p3.less (fun l o ho=>(Q6 ho).2) (fun l ho=>a2W.1 ho)
   have hn2:∀ l p g,Y7 s2 l->c l=some p->p.w=some g->¬ g∈ows pls:=fun l p g ⟨o,ho⟩ hc hw hg=>by
    obtain ⟨m1,m2⟩:=Q6 ho
    obtain ⟨l',p',a1,a2,a3⟩:=hown g hg
    exact m1 ((hkl l).2 (by rw [p3.inj l l' p p' g ⟨o,m2⟩ (hlive l' a1) hc a2 hw a3]; exact a1))
   have hi2:∀ g,g∈ows pls->notIn c τ1 s2 g:=fun g hg=>by
    obtain ⟨l',p',a1,a2,a3⟩:=hown g hg
    exact (p3.owned (hlive l' a1) a2 a3).sub fun l E E' u xs q e=>(Q6 e).2
   have h3:Rel X c τ s2 n F:=h2.stepG hst hownM hn2 hi2
   have hOpub:apU s.O (Q3 O acc.pub++a3c acc.all)=J0 kl (Z8 s O acc.pub).O:=by
    rw [a2O]
    funext l
    exact b8l fun l hl=>by obtain ⟨o,ho⟩:=hlive l hl; intro e; have:=ho; rw [show (Z8 s O acc.pub).O l=apU s.O (Q3 O acc.pub) l from rfl,e] at this; cases this
   have hgvO:∀ x∈acc.gv,∃ ls,(Z8 s O acc.pub).O x.1=some (some (.var x.2.1 ls true)):=fun x hx=>by
    obtain ⟨ls,e⟩:=hgv x hx
    exact ⟨ls,hOv _ _ _ _ e⟩
   have hfree2:∀ l∈rng nb (obT (r.rs++Q0 r.ps) res).length,J0 kl (Z8 s O acc.pub).O l=none/\l ∉ acc.gv.map (·.1):=by
    rw [a1D] at hfree
    intro l hl
    have h0:=hfree l hl
    rw [a2O,hOpub] at h0
    by_cases hk:l∈a0S (a7e acc.gv ((pvT tb nb (r.rs++Q0 r.ps) res).drop r.rs.length))
    ·exact absurd h0 (b5V (O':=s.O) hk).2
    ·rw [a3d hk] at h0
     refine ⟨h0,fun hm=>?_⟩
     simp only [d8T] at hm
     obtain ⟨x,hx,e⟩:=hm
     have:=(hkl x.1).2 (k5 x hx)
     rw [e] at this
     have hl2:=hlive l ((hkl l).1 this)
     obtain ⟨o,ho⟩:=hl2
     have:=a2W.1 h0
     rw [ho] at this; cases this
   have hob:=a84 hpost.tt
   obtain ⟨h4,h5⟩:=Rel.addN (nb:=nb) h3 (a1D.2 fun l hl=>(hfree2 l hl).1) hob hpost.nodup fun g hg=>by
    have ho:=hpost.own g hg
    refine ⟨ho.1.elim (fun h=>.inl (d8C p3.base.1 h)) (hownM g),(ho.1.elim (fun h=>h2.fresh h) (hi2 g)).step h2 hst hn2 hi2,fun l p ⟨o,ho'⟩ hc hw=>?_⟩
    obtain ⟨m1,m2⟩:=Q6 ho'
    rcases ho.1 with hge | hin
    ·have:=(p3.objs l o m2).lt hc hw
     have:τ1.w.heap.size<=g:=hge
     omega
    ·obtain ⟨l',p',a1,a2,a3⟩:=hown g hin
     exact m1 ((hkl l).2 (by rw [p3.inj l l' p p' g ⟨o,m2⟩ (hlive l' a1) hc a2 hw a3]; exact a1))
   obtain ⟨hps,hlen⟩:=b6l (X:=X) (c:=V6 c nb pls') (nb:=nb) ht hpost.tt a1c
   have htk:=RVs.take r.rs.length _ _ hps
   have hdr:=RVs.drop r.rs.length _ _ hps
   rw [List.take_left' hpost.len] at htk
   rw [List.drop_left' hpost.len] at hdr
   have hold:∀ l,(Z8 s O acc.pub).O l≠none->V6 c nb pls' l=c l:=fun l hl=>by
    have key:∀ {ps:List Pl} {c:Cx} {nb:Nat},(l<nb\/nb+ps.length<=l)->V6 c nb ps l=c l:=by
     intro ps
     induction ps with
     | nil=>intro c nb _; rfl
     | cons p ps ih =>
       intro c nb h
       simp only [V6]
       rw [ih (by simp only [d8v] at h; omega)]
       have:l≠nb:=by simp only [d8v] at h; omega
       simp [a0D,this]
    apply key
    apply Classical.byContradiction
    intro hn
    rw [not_or] at hn
    exact hl (a2W.1 (hfree2 l (a1o.2 ⟨by omega,by rw [hob.1]; omega⟩)).1)
   have hvarb:∀ {gv:List (Nat×TypeId×V)} {bs:List Nat},a6Z c O gv bs->∀ x∈gv,∀ p g,c x.1=some p->p.w=some g->g∈bs:=by
    intro gv
    induction gv with
    | nil=>intro bs _ x hx; cases hx
    | cons y r ih =>
      intro bs ⟨b,bs',ls,e1,e2,e3,e4⟩ x hx p g hc hw
      subst e1
      rcases d8A.1 hx with rfl | hx
      ·rw [e3] at hc; cases hc; cases hw; simp
      ·simp [ih e4 x hx p g hc hw]
   have hat:∀ (i:Nat) (y:Nat×V) (p:PV I),(acc.gv.map fun x=>(x.1,x.2.2))[i]?=some y->((pvT tb nb (r.rs++Q0 r.ps) res).drop r.rs.length)[i]?=some p->∃ nb' z,p=pvV tb nb' y.2 z:=fun i y p hi hp=>by
    refine c3x (tb:=tb) (vs:=r.rs++Q0 r.ps) (nb:=nb) (x:=res) (i:=r.rs.length+i) (v:=y.2) ?_ (by rw [d9e] at hp; exact hp)
    rw [d8z (by simp),d9a,<- a3U,<- k6]
    rw [d9i] at hi
    simp only [List.map_map,d9i]
    cases hgi:acc.gv[i]? with
    | none=>rw [hgi] at hi; cases hi
    | some z=>rw [hgi] at hi; cases hi; rfl
   have h6:=Rel.asgW (pls:=pls') ht p3 h5 (a6s hpost.out k3 k6 hgvO) hdr (fun i y p hi hp hag=>by
    obtain ⟨nb',z,e⟩:=hat i y p hi hp
    rw [e]; exact c0V hag)
    (fun i y p hi hp hag=>by
      obtain ⟨nb',z,e⟩:=hat i y p hi hp
      rw [e]; exact c09 hag)
    (fun l hl=>hold l (by
      simp only [d8T] at hl
      obtain ⟨x,hx,rfl⟩:=hl
      obtain ⟨ls,e⟩:=hgvO x hx
      rw [e]; simp))
    (fun l hl p g hc hw=>by
      simp only [d8T] at hl
      obtain ⟨x,hx,rfl⟩:=hl
      exact p3.mine x.1 p g (hlive _ (k5 x hx)) hc hw)
    (fun l ⟨o,ho⟩=>by
      by_cases hm:l∈rng nb (obT (r.rs++Q0 r.ps) res).length
      ·right
       obtain ⟨a1,a2⟩:=a1o.1 hm
       have hlt:l-nb<pls'.length:=by rw [<- hob.1]; omega
       refine ⟨pls'[l-nb],d8B _,?_⟩
       have:=a1c (c:=c) (nb:=nb) (l-nb) pls'[l-nb] (d8n hlt)
       rw [show nb+(l-nb)=l from by omega] at this
       exact this
      ·left
       have ho':a0d (J0 kl (Z8 s O acc.pub).O) nb (obT (r.rs++Q0 r.ps) res) l=some (some o):=ho
       rw [a0k hm] at ho'
       obtain ⟨_,m2⟩:=Q6 ho'
       exact ⟨⟨o,m2⟩,hold l (by rw [m2]; simp)⟩)
    (fun l hl p hc g hw hm=>by
      simp only [d8T] at hl
      obtain ⟨x,hx,rfl⟩:=hl
      exact (hpost.own g hm).2 (hvarb k3 x hx p g hc hw))
    (fun l hl p hc g hw=>by
      simp only [d8T] at hl
      obtain ⟨x,hx,rfl⟩:=hl
      obtain ⟨ls,e⟩:=hgvO x hx
      exact (((p3.owned ⟨_,e⟩ hc hw).sub (s':=s2) fun l E E' u xs q e=>(Q6 e).2).step h2 hst hn2 hi2).grow h3 h4 (a40 hob.not))
   refine ⟨_,h4,?_,by rw [hpost.ret]; exact b6h htk⟩
   have hO2:a0d (apU s.O (Q3 O acc.pub++a3c acc.all++a7e acc.gv ((pvT tb nb (r.rs++Q0 r.ps) res).drop r.rs.length))) nb (obT (r.rs++Q0 r.ps) res) =
    asgW (Z8 s O acc.pub).O (acc.gv.map fun x=>(x.1,x.2.2)) (acc.gv.map (·.1)) ((pvT tb nb (r.rs++Q0 r.ps) res).drop r.rs.length) (a0d (J0 kl (Z8 s O acc.pub).O) nb (obT (r.rs++Q0 r.ps) res)):=by
    rw [a2O,hOpub]
    exact c21 fun x hx=>⟨hgvO x hx,fun hm=>(hfree2 x.1 hm).2 (d8T.2 ⟨x,hx,rfl⟩)⟩
   have e:apE s nb ⟨a8o ((pvT tb nb (r.rs++Q0 r.ps) res).take r.rs.length),Q3 O acc.pub++a3c acc.all++a7e acc.gv ((pvT tb nb (r.rs++Q0 r.ps) res).drop r.rs.length),obT (r.rs++Q0 r.ps) res⟩ =
    ⟨s.n,s.F,asgW (Z8 s O acc.pub).O (acc.gv.map fun x=>(x.1,x.2.2)) (acc.gv.map (·.1)) ((pvT tb nb (r.rs++Q0 r.ps) res).drop r.rs.length) (a0d (J0 kl (Z8 s O acc.pub).O) nb (obT (r.rs++Q0 r.ps) res)),s.nx⟩:=by
    simp only [apE,hO2]
   rw [e]
   exact h6
  obtain ⟨pls0,k1,k2,k3,k4,k5,k6⟩:=core (fun _=>False) (fun _ h=>h.elim)
  obtain ⟨pls,k1',k2',_⟩:=core (fun b=>τ1.N<=b\/b∈ows pls0) (fun b hb=>hb.imp id fun hb=>by
   obtain ⟨l,p,a1,a2,a3⟩:=k2.mem b hb
   refine ⟨l,hgr l a1,hlv l a1 ((k4 l a1).imp id fun ⟨T,v,hm⟩=>?_),p,a2,a3⟩
   have:∀ {gv:List (Nat×TypeId×V)} {bs:List Nat},a6Z c O gv bs->∀ x∈gv,∃ ls,O x.1=some (some (.var x.2.1 ls true)):=by
    intro gv
    induction gv with
    | nil=>intro bs _ x hx; cases hx
    | cons y r ih =>
      intro bs ⟨b,bs',ls,_,e2,_,e4⟩ x hx
      rcases d8A.1 hx with rfl | hx
      ·exact ⟨ls,e2⟩
      ·exact ih e4 x hx
   obtain ⟨ls,e⟩:=this k3 _ hm
   exact ⟨T,ls,e⟩)
  have hsame:ows pls=ows pls0:=by
   have:∀ {rows:List (Option Nat)} {p q:List Pl},At c rows p->At c rows q->ows p=ows q:=by
    intro rows
    induction rows with
    | nil=>intro p q h1 h2; cases h1; cases h2; rfl
    | cons x r ih =>
      intro p q ⟨a,d8k,e1,g1,h1⟩ ⟨b,bs,e2,g2,h2⟩
      subst e1
      subst e2
      have hr:=ih h1 h2
      simp only [ows,d8X] at hr ⊢
      have:a.w=b.w:=by
       cases x with
       | none=>simp only at g1 g2; rw [g1,g2]
       | some l=>simp only at g1 g2; rw [g1] at g2; cases g2; rfl
      rw [this,hr]
   exact this k2' k2
  rw [<- hsame] at k1'
  exact fin pls k1' k2' k3 k4 k5 k6
theorem b6O (ht:TabOk P tb){r:Row I}(hr:Z3 P r):EntOk P (c54 tb r) :=
 c2r (C:=fun _ _=>True) (chk:=fun _ _=>true) ht (fun σ a vs pls res h _=>hr σ a vs pls res h) (fun _ _ _ _ _ _ _ _ _ _ _ _ _=>trivial)
def c00:List (PV I)->List (Option (PV I))->Bool
 | [],[]=>true
 | .ptr a 0::r,some (.ptr b 0)::r'=>d8u a b&&c00 r r'
 | _,_=>false
def c5r (T:TypeId)(f:FuncId)(j:Nat)(is:List Nat)(O:Obs I)(ps:List (PV I)):Bool:=match ps[j]? with
 | some (.ptr l 0)=>match O l with
   | some (some (.var T' [.clo f' ls] _))=>d8u T T'&&(d8u f f'&&c00 ls (is.map (ps[·]?)))
   | _=>false
 | _=>false
def b2d (T:TypeId)(f:FuncId)(j:Nat)(is:List Nat)(w:World)(vs:List Value):Prop :=
 ∃ b d8k,vs[j]?=some (.pointer (some ⟨b,0,none⟩))/\w.heap[b]?=some (.cells #[.func (.func f) #[] (d84 d8k)] T (0,0))/\is.map (vs[·]?)=d8k.map some
theorem c8K:∀ {ls:List (PV I)} {is:List Nat} {ps:List (PV I)} {vs d8k:List Value},c00 ls (is.map (ps[·]?))=true->RVs X c σ ps vs->RVs X c σ ls d8k->is.map (vs[·]?)=d8k.map some
 | [],[],_,_,d8k,_,_,ha=>by
   simp only [RVs] at ha
   subst ha; rfl
 | [],_::_,_,_,_,h,_,_=>by simp [c00] at h
 | p::r,[],_,_,_,h,_,_=>by cases p<;>simp [c00] at h
 | p::r,i::is,ps,vs,d8k,h,hv,ha=>by
   simp only [RVs] at ha
   obtain ⟨a,as',rfl,h1,h2⟩:=ha
   simp only [d8O] at h ⊢
   unfold c00 at h
   split at h
   ·rename_i e1 _
    cases e1
   ·rename_i l0 r0 l1 r1 e1 e2
    obtain ⟨e3,e4⟩:=List.cons.inj e1
    obtain ⟨hps,hr1⟩:=List.cons.inj e2
    subst e3
    subst e4
    subst hr1
    simp only [d8p] at h
    have e:=d8s h.1
    subst e
    obtain ⟨v,hvi,hrv⟩:=RVs.at_ _ _ hv i _ hps
    rw [hvi,c8K h.2 hv h2]
    simp only [RV] at hrv h1
    obtain ⟨b,w,k1,rfl⟩:=hrv
    obtain ⟨b',w',k2,rfl⟩:=h1
    rw [k1] at k2
    cases k2
    rfl
   ·cases h
theorem d03 {T:TypeId}{f:FuncId}{j:Nat}{is:List Nat}{ps:List (PV I)}{vs:List Value}(hO:∀ l o,O l=some (some o)->s.O l=some (some o))(h:Rel X c σ s n F)(hc:c5r T f j is O ps=true)(hv:RVs X c σ ps vs):b2d T f j is σ.w vs:=by
 unfold c5r at hc
 split at hc
 ·rename_i l hj
  split at hc
  ·rename_i T' f' ls w' ho
   simp only [d8p] at hc
   have eT:=d8s hc.1
   have ef:=d8s hc.2.1
   subst eT
   subst ef
   obtain ⟨v,hvj,hrv⟩:=RVs.at_ _ _ hv j _ hj
   simp only [RV] at hrv
   obtain ⟨b,w,k1,rfl⟩:=hrv
   obtain ⟨b',cs,k2,k3,k4,_⟩:=h.objs l _ (hO _ _ ho)
   rw [k1] at k2
   cases k2
   simp only [RG] at k3
   obtain ⟨a,r,rfl,hcl,rfl⟩:=k3
   rcases hcl with hcl | ⟨_,u,rfl,hu⟩
   ·exact hcl.elim
   simp only [RV] at hu
   obtain ⟨d8k,rfl,has⟩:=hu
   exact ⟨b,d8k,hvj,by simpa using k4,c8K hc.2.2 hv has⟩
  ·cases hc
 ·cases hc
def d0J (T:TypeId)(f:FuncId)(l:Nat)(j:Nat)(is:List Nat)(s:St I):St I:=Y5 s l (some (.var T [.clo f (is.filterMap s.F)] false))
theorem c93:∀ {is:List Nat} {ps:List (PV I)} {vs d8k:List Value},is.all (fun i=>d8V i ps.length)=true->RVs X c σ ps vs->is.map (vs[·]?)=d8k.map some->RVs X c σ (is.filterMap (ps[·]?)) d8k
 | [],_,_,d8k,_,_,e=>by
   cases d8k with
   | nil=>simp only [List.filterMap_nil,RVs]
   | cons=>cases e
 | i::is,ps,vs,d8k,hl,hv,e=>by
   cases d8k with
   | nil=>cases e
   | cons a d8k =>
     simp only [d8O,List.cons.injEq] at e
     simp only [d9v,d8p] at hl
     have hi:i<ps.length:=by
      have:=hl.1
      rw [Nat.blt_eq] at this
      exact this
     have hp:=d8n hi
     obtain ⟨v,hvi,hrv⟩:=RVs.at_ _ _ hv i _ hp
     rw [e.1] at hvi
     cases hvi
     rw [d8X,hp]
     simp only [RVs]
     exact ⟨a,d8k,rfl,hrv,c93 hl.2 hv e.2⟩
theorem c8z {T:TypeId}{f:FuncId}{l j:Nat}{is:List Nat}{nt:Nat}{ps:List Pk}{a:a2f I ps}{vs:List Value}(hl:(a6A tb nt ps a).O l=some (some (.var T [.any] false)))(hj:(a0W tb 0 ps a)[j]?=some (.ptr l 0))(his:is.all (fun i=>d8V i (a0W tb 0 ps a).length)=true)
 (h:Rel X c σ (a6A tb nt ps a) nt F) (hv:RVs X c σ (a0W tb 0 ps a) vs) (hC:b2d T f j is σ.w vs):Rel X c σ (d0J T f l j is (a6A tb nt ps a)) nt F:=by
 obtain ⟨b,d8k,h1,h2,h3⟩:=hC
 obtain ⟨v,hvj,hrv⟩:=RVs.at_ _ _ hv j _ hj
 rw [h1] at hvj
 cases hvj
 simp only [RV] at hrv
 obtain ⟨b',w,k1,e⟩:=hrv
 cases e
 obtain ⟨b',cs,k2,k3,k4,k5,k6⟩:=h.objs l _ hl
 rw [k1] at k2
 cases k2
 refine h.revive ⟨b,[.func (.func f) #[] (d84 d8k)],k1,?_,by simpa using h2,k5,k6⟩ fun p g hp hg=>?_
 ·simp only [RG]
  refine ⟨_,[],rfl,.inr ⟨rfl,_,rfl,?_⟩,rfl⟩
  simp only [RV]
  exact ⟨d8k,rfl,c93 his hv h3⟩
 ·exact ⟨h.mine l p g ⟨_,hl⟩ hp hg,h.owned ⟨_,hl⟩ hp hg,fun l' p' hne hlv hp' hg'=>hne (h.inj l' l p' p g hlv ⟨_,hl⟩ hp' hp hg' hg)⟩
end
end Go.Qx
end
section
open Array renaming getElem_append->d9Y,getElem_ofFn->d9D,replicate->d94
open Bool renaming and_eq_true->d8p
open List renaming all_eq_true->d8q,filterMap_cons->d8X,getD->d9r,getElem?_append_right->d8z,getElem?_drop->d9e,getElem?_eq_getElem->d8n,getElem?_eq_none->d8U,getElem?_map->d9i,getElem_mem->d8B,length->d98,length_cons->d8v,map_cons->d8O,mem_append_left->d9M,mem_append_right->d9G,mem_cons->d8A,mem_filterMap->d95,mem_map->d8T,nodup_append->d87
open Nat renaming add_sub_cancel_left->d9a,beq->d8u,ble->d89,eq_of_beq_eq_true->d8s,le_of_ble_eq_true->d8N,le_refl->d8r,le_trans->d8C,zero_le->d8w
open Option renaming bind_assoc->d86,bind_some->d8l,some->d8Y
namespace Go.Qx
open Go Go.RowKit Go.Sx
section
variable {I:TypeId->Type} [∀ E,Rp (I E)] {P:Program}{tb:Tab I}{X:Cxt}{c c':Cx}{σ τ:S}{s:St I}{n:Nat}{F:Fr}{O:Obs I}
structure Rio (I:TypeId->Type) where
 f:FuncId
 E:TypeId
 ps:List Pk
 rs:List V
 run:List (I E)->c2K I ps (TyT I (rs++Q0 ps)×List (I E))
def a75 (P:Program)(r:Rio I):Prop:=∀ (σ:S) (xs:List (I r.E)) (a:a2f I r.ps) (vs:List Value) (pls:List Pl) (res:TyT I (r.rs++Q0 r.ps)) (ys:List (I r.E)),
 a7o P (fun b=>σ.N<=b\/b∈ows pls) σ (.row r.E false::r.ps) (xs,a) vs pls->(ows pls).Nodup->b3e r.ps (r.run xs) a=some (res,ys) ->
  a0Z P r.f vs σ (Stp (fun b=>b∈ows pls) σ) fun v τ=>∃ ws us pls',Post σ τ (.row r.E false::r.ps) r.rs vs res (ows pls) v ws us pls' /\
   ∃ A k ow,pls.head?=some ⟨A,k,xs.length,ow⟩/\ys.length=xs.length/\a0a ow false r.E τ ys A k/\∀ g,ow=some g->g ∉ ows pls'
def d7e (tb:Tab I)(E:TypeId)(ps:List Pk)(rs:List V)(results:List ResultVar):Ex->St I->Option (TyT I (rs++Q0 ps)×List (I E)):=fun e s=>match e with
 | .exit _=>none
 | _=>(a9N tb s results).bind fun a=>(a4b s 1 ps).bind fun b=>(a3D tb s.O (rs++Q0 ps) (a++b)).bind fun x=>(a8m tb s.O (.row E false) (.vw 0)).bind fun y =>
    bif a72 (x.2.1++a7s 1 ps) (y.2.2++x.2.2)&&a4j y.2.1&&d8u a.length rs.length then some (x.1,y.1) else none
def d4T (tb:Tab I)(disp:a0f I)(H:Hints I)(cd:Code)(nt:Nat)(E:TypeId)(ps:List Pk)(rs:List V)(results:List ResultVar)(xs:List (I E))(a:a2f I ps):Option (TyT I (rs++Q0 ps)×List (I E)) :=
 a21 tb disp H cd 1 (TyT I (rs++Q0 ps)×List (I E)) (a6A tb nt (.row E false::ps) (xs,a)) (d7e tb E ps rs results)
def F0v (vs:List Value):Value:=vs.headD undef
omit [∀ E,Rp (I E)] in
theorem c5Y {E:TypeId}{fl:Bool}{l:Nat}{y:List (I E)×List Nat×List (Option Nat)}(h:a8m tb O (.row E fl) (.vw l)=some y):y.2.2=[some l]:=by
 simp only [a8m] at h
 split at h
 ·replace h:=bind_some h
  obtain ⟨ys,hys,h⟩:=h
  cases fl<;>rename_i fl' _<;>cases fl'<;>first | (cases h; rfl) | cases h
 ·cases h
theorem d5i (ht:TabOk P tb){M:Nat->Prop}(hM:∀ b,X.M b->M b)(hX:X.P=P){E:TypeId}{ps:List Pk}{xs:List (I E)}{a:a2f I ps}{vs:List Value}{pls:List Pl}{nt:Nat}(hA:a7o P M σ (.row E false::ps) (xs,a) vs pls)
 (hr:Rel X (fun _=>none) σ (⟨nt,fun _=>none,fun _=>none,0⟩:St I) nt F) (hnd:(ows pls).Nodup) (hMg:∀ g∈ows pls,X.M g) :
 ∃ c',Rel X c' σ ⟨nt,fun _=>none,b5s tb 0 (.row E false::ps) (xs,a) (fun _=>none),0⟩ nt F/\RVs X c' σ (a0W tb 0 (.row E false::ps) (xs,a)) vs/\∃ A k ow,pls.head?=some ⟨A,k,xs.length,ow⟩/\c' 0=some ⟨A,k,xs.length,ow⟩:=by
 obtain ⟨v,vs',p1,p2,e1,e2,⟨A,k,ow,e4,h1,e3⟩,h2⟩:=hA
 have h1:a0a ow false E σ xs A k:=h1
 have e4:v=.slice A xs.length k:=e4
 have e3:p1=[⟨A,k,xs.length,ow⟩]:=e3
 have h2:a7o P M σ ps a vs' p2:=h2
 subst e3
 subst e2
 obtain ⟨a1,a2⟩:=hr.newRow (nb:=0) (E:=E) (xs:=xs) (fl:=false) rfl h1 fun g hg=>⟨hMg g (by simp [ows,hg]),noN.notIn (fun _ _ _ _ _ _ h=>by cases h),fun l' p' ⟨_,hl⟩=>by cases hl⟩
 obtain ⟨c',k1,k2,k3⟩:=a8S (nb:=1) (s:=Y5 (⟨nt,fun _=>none,fun _=>none,0⟩:St I) 0 (some (.row E xs false))) (done:=ows [⟨A,k,xs.length,ow⟩]) ht hM hX h2 a2 (fun l hl=>by
  show upF _ 0 _ l=none
  rw [J2 (by omega)]) (fun l p g ⟨o,ho⟩ hc hw=>by
  rcases Z2 ho with ⟨e,_⟩ | ⟨e,ho'⟩
  ·subst e
   rw [Q5] at hc
   cases hc
   simp only at hw
   subst hw
   simp [ows]
  ·cases ho') (by rw [<- a0w]; exact hnd) (fun g hg=>hMg g (by rw [a0w]; simp [hg])) (noN.set fun _ _ _ _ _ _ h=>by cases h)
 have hc0:=k1 _ _ (Q5 _ _ _)
 refine ⟨c',k2,?_,A,k,ow,rfl,hc0⟩
 simp only [a0W,RVs,RV]
 exact ⟨v,vs',e1,⟨_,hc0,e4⟩,k3⟩
theorem d6a (ht : TabOk P tb) {r : Rio I} {fn : Func} {cd : Code} (nt : Nat) {rl : List ResultVar} (hf : P.funcs[r.f]? = some fn) (hb : fn.body = some cd) (hname : (fn.name == "runtime.NumGoroutine") = false)
 (hn:fn.ntmps=nt) (hres:fn.results.toList=rl) (hle:d89 (r.ps.length+1) nt=true)
 (hspec:∀ (X:Cxt) (c:Cx) (σ:S) (F:Fr) (Q:Exit->Act->World->Prop) (xs:List (I r.E)) (a:a2f I r.ps) (res:TyT I (r.rs++Q0 r.ps)×List (I r.E)),X.P=P->Rel X c σ (a6A tb nt (.row r.E false::r.ps) (xs,a)) nt F->b3e r.ps (r.run xs) a=some res ->
   (∀ (e:Ex) (s':St I) (c':Cx) (τ:S) (F':Fr),d7e tb r.E r.ps r.rs rl e s'=some res->Cx.le c c'->Rel X c' τ s' nt F'->Stp X.M σ τ->Q (a3A e) (fr nt F') τ.w)->cd.wp P Q (fr nt F) σ.w) (hlo:tb.lo=0:=by rfl):a75 P r:=by
 intro σ xs a vs pls res ys hA hnd happ
 let X:Cxt:=⟨P,σ.N,fun b=>b∈ows pls⟩
 have hlen:vs.length=r.ps.length+1:=hA.len
 have hini:Rel X (fun _=>none) σ (⟨nt,fun _=>none,fun _=>none,0⟩:St I) nt (a04 vs) :=
  ⟨rfl,(fun _ _ h=>by cases h),(fun _ _ h=>by cases h),(fun _ _ _ _ _ ⟨_,h⟩=>by cases h),(fun _ _ _ ⟨_,h⟩=>by cases h),fun _ _=>rfl,⟨d8r _,fun E=>d8C (ht.low E) (by rw [hlo]; exact d8w _)⟩,noN.nests fun _ _ _ _ _ _ h=>by cases h⟩
 obtain ⟨c1,i2,i3,A0,k0,ow0,hpl0,hc01⟩:=d5i (tb:=tb) (X:=X) ht (fun b hb=>hb) rfl hA hini hnd (fun g hg=>.inr hg)
 have hrel:Rel X c1 σ (a6A tb nt (.row r.E false::r.ps) (xs,a)) nt (a04 vs):=by
  refine ⟨rfl,fun i p hp=>?_,i2.objs,i2.inj,i2.mine,i2.nom,i2.base,i2.nst⟩
  obtain ⟨v,hv,hr⟩:=RVs.at_ _ _ i3 i p hp
  have:a04 vs i=v:=by simp [a04,d9r,hv]
  rw [this]; exact hr
 refine .inl ⟨⟨fn,cd,hf,hb,hname⟩,calls_of_wp hf hb ?_⟩
 have hle':=d8N hle
 have e:(⟨vs.toArray++d94 (fn.ntmps-vs.toArray.size) undef,[]⟩:Act)=fr nt (a04 vs):=by
  rw [hn]
  simp only [fr]
  congr 1
  apply Array.ext
  ·simp; omega
  ·intro i h1 h2
   simp only [d9D,a04,d9Y]
   split
   ·rename_i hi; simp at hi; simp [d9r,d8n hi]
   ·rename_i hi; simp at hi; simp [d9r,d8U hi]
 rw [e]
 refine hspec X c1 σ (a04 vs) _ xs a (res,ys) rfl hrel happ fun ex s' c2 τ F' hfin hle2 hr st=>?_
 have key:((a9N tb s' rl).bind fun a=>(a4b s' 1 r.ps).bind fun b=>(a3D tb s'.O (r.rs++Q0 r.ps) (a++b)).bind fun x=>(a8m tb s'.O (.row r.E false) (.vw 0)).bind fun y =>
  bif a72 (x.2.1++a7s 1 r.ps) (y.2.2++x.2.2)&&a4j y.2.1&&d8u a.length r.rs.length then some (x.1,y.1) else none)=some (res,ys) ->
  ∃ v,(results fn (fr nt F').tmps).run P τ.w=.ok v τ.w/\∃ v' τ',Ending.returned v=.returned v'/\τ'.w=τ.w/\Stp (fun b=>b∈ows pls) σ τ'/\∃ ws us pls',Post σ τ' (.row r.E false::r.ps) r.rs vs res (ows pls) v' ws us pls' /\
   ∃ A k ow,pls.head?=some ⟨A,k,xs.length,ow⟩/\ys.length=xs.length/\a0a ow false r.E τ' ys A k/\∀ g,ow=some g->g ∉ ows pls':=by
  intro hfin
  obtain ⟨ra,hra,hfin⟩:=bind_some hfin
  obtain ⟨rb,hrb,hfin⟩:=bind_some hfin
  obtain ⟨y,hy,hfin⟩:=bind_some hfin
  obtain ⟨yy,hyy,hfin⟩:=bind_some hfin
  obtain ⟨hrows,hfin⟩:=j8 hfin
  cases hfin
  simp only [d8p] at hrows
  obtain ⟨q1,q2w⟩:=a6R hrows.1.1
  have q2:∀ l,some l∈yy.2.2++y.2.2->l ∉ y.2.1:=fun l hl hm=>q2w l hl (d9M _ hm)
  have hnil:=a4e hrows.1.2
  rw [List.filterMap_append,d87] at q1
  have r1:=q1.2.1
  have r2:∀ l,some l∈y.2.2->l ∉ y.2.1:=fun l hl=>q2 l (by simp [hl])
  have hal:=d8s hrows.2
  obtain ⟨τ',p1,p2,p3,p4,p5,p6⟩:=hr.pubs (O:=s'.O) (fun _ _ h=>h) y.2.1
  obtain ⟨ws,w1,w2⟩:=b2r ht hr hra
  have hrb':a4b (Z8 s' s'.O y.2.1) 0 (.row r.E false::r.ps)=some rb:=by
   show a4b (Z8 s' s'.O y.2.1) 1 r.ps=some rb
   have:∀ {ps:List Pk} {nb:Nat} {qs:List (PV I)},a4b s' nb ps=some qs->a4b (Z8 s' s'.O y.2.1) nb ps=some qs:=by
    intro ps
    induction ps with
    | nil=>intro nb qs h; exact h
    | cons p r ih =>
      intro nb qs h
      cases p with
      | d k=>exact ih h
      | fn ks rs=>exact ih h
      | row E fl=>exact ih h
      | bor E=>exact ih h
      | val v=>exact ih h
      | lnt ks=>exact ih h
      | var T v w =>
        cases w with
        | false=>exact ih h
        | true =>
          simp only [a4b] at h ⊢
          split at h
          ·rename_i T' ls ho
           rw [c72 ho]
           replace h:=j8 h
           obtain ⟨hT,h⟩:=h
           simp only [hT,cond_true]
           replace h:=bind_some h
           obtain ⟨p,hp,h⟩:=h
           replace h:=bind_some h
           obtain ⟨ps',hps,h⟩:=h
           rw [hp,d8l,ih hps]
           exact h
          ·cases h
   exact this hrb
  have hvs:RVs X c2 τ' (a0W tb 0 (.row r.E false::r.ps) (xs,a)) vs:=RVs.step (st.trans p2) _ _ (RVs.grow hle2 _ _ i3)
  obtain ⟨us,u1,u2,u3⟩:=a6p ht p3 (ps:=.row r.E false::r.ps) (a:=(xs,a)) hrb' hvs
  have hRV:=RVs.app _ _ _ _ (RVs.step p2 _ _ w1) u1
  obtain ⟨pls',t1,t2⟩:=b2k ht p4 p5 (ls:=y.2.1) (rows:=y.2.2) hy (fun l hl=>hl) (fun l hl=>r2 l hl) hRV
  have hlive:=b4F (ls:=y.2.1) (rows:=y.2.2) hy
  have hl3:∀ l,some l∈y.2.2->Y7 (Z8 s' s'.O y.2.1) l:=fun l hl=>by
   obtain ⟨o,ho,_⟩:=hlive l hl
   exact ⟨_,(p6 l (r2 l hl)).trans ho⟩
  have h00:RV X c2 τ' (.vw 0:PV I) (F0v vs):=by
   simp only [a0W,RVs] at hvs
   obtain ⟨v0,vs0,e0,h0,_⟩:=hvs
   rw [e0]; exact h0
  obtain ⟨pls0,z1,z2⟩:=b5S ht p4 p5 (ls:=yy.2.1) (rows:=yy.2.2) hyy (fun l hl=>by rw [hnil] at hl; cases hl) (fun l hl=>q2 l (by simp [hl])) h00
  have hc0:=hle2 _ _ hc01
  have hy0:yy.2.2=[some 0]:=c5Y hyy
  rw [hy0] at z2
  obtain ⟨pz,pzs,e5,e6,e7⟩:=z2
  cases e7
  obtain ⟨A1,k1,ow1,e8,e9,e10⟩:=z1
  rw [e5] at e9
  cases e9
  have e6':c2 0=some ⟨A1,k1,d98 yy.1,ow1⟩:=e6
  rw [hc0,d8Y.injEq,Pl.mk.injEq] at e6'
  obtain ⟨rfl,rfl,hlen2,rfl⟩:=e6'
  refine ⟨a4Y ws,b0o (by rw [hres]; exact w2),a4Y ws,τ',rfl,p1,(st.trans p2).mono fun b hb hM=>?_,ws,us,pls',⟨rfl,?_,t1,u2,At.nodup p3 t2 r1 hl3,fun g hg=>?_⟩,_,_,_,hpl0,hlen2.symm,e10,fun g hg hm=>?_⟩
  ·rcases hM with h | h
   ·have:σ.N<=b:=h
    omega
   ·exact h
  ·rw [RVs.len _ _ w1,hal]
  ·obtain ⟨l,p,a1,a2,a3⟩:=t2.mem g hg
   refine ⟨p3.mine l p g (hl3 l a1) a2 a3,fun hm=>?_⟩
   obtain ⟨l',p',T,ls,w,ho',hc',hw',hn'⟩:=u3 g hm
   have e:=p3.inj l l' p p' g (hl3 l a1) ⟨_,ho'⟩ a2 hc' a3 hw'
   subst e
   exact q2w l (d9G _ a1) (d9G _ hn')
  ·obtain ⟨l,p,a1,a2,a3⟩:=t2.mem g hm
   have hl0:Y7 (Z8 s' s'.O y.2.1) 0:=by
    obtain ⟨E,xs,fl,ho⟩:=c4S (ls:=yy.2.1) (rows:=yy.2.2) hyy 0 (by rw [hy0]; simp)
    exact ⟨_,(p6 0 (q2 0 (by rw [hy0]; simp))).trans ho⟩
   have e:=p3.inj 0 l _ p g hl0 (hl3 l a1) hc0 a2 hg a3
   subst e
   rw [hy0] at q1
   exact q1.2.2 0 (by simp) 0 (d95.2 ⟨_,a1,rfl⟩) rfl
 cases ex with
 | exit i=>cases hfin
 | normal =>
   obtain ⟨v,h1,v',τ',h2,h3⟩:=key hfin
   exact ⟨rfl,v,h1,v',τ',h2,h3⟩
 | ret =>
   obtain ⟨v,h1,v',τ',h2,h3⟩:=key hfin
   exact ⟨rfl,v,h1,v',τ',h2,h3⟩
theorem d6y (ht : TabOk P tb) {disp : a0f I} (hd : DispOk P disp) (hmx : P.follows .mixedOrders = true) {r : Rio I} {fn : Func} {cd : Code} (nt : Nat) {H : Hints I} {rl : List ResultVar} (hf : P.funcs[r.f]? = some fn) (hb : fn.body = some cd) (hname : (fn.name == "runtime.NumGoroutine") = false)
 (hn:fn.ntmps=nt) (hres:fn.results.toList=rl) (hle:d89 (r.ps.length+1) nt=true) (hcode:a1m H cd 1=true) (hrun:r.run=fun xs=>b7j r.ps (d4T tb disp H cd nt r.E r.ps r.rs rl xs)) (hlo:tb.lo=0:=by rfl):a75 P r :=
 d6a ht nt hf hb hname hn hres hle (hlo:=hlo) fun X c σ F Q xs a res hX hrel happ hk=>by
  rw [hrun,b7z] at happ
  exact a1r ht hd hmx cd 1 hcode _ _ _ res X c σ F Q hX happ hrel fun e s' c' τ F' g1 g2 g3 g4 _=>hk e s' c' τ F' g1 g2 g3 g4
def c1f (tb:Tab I)(r:Rio I)(disp:a0f I)(ρ:Type)(O:Obs I)(nb:Nat)(ps:List (PV I))(k:Ef I->Option ρ):Option ρ:=match ps with
 | .vw l::ps'=>(a74 tb disp O (roO [] (J0 (grN O (.row r.E false::r.ps) (.vw l::ps')) O)) nb (.row r.E false::r.ps) (.vw l::ps')).bind fun a =>
   bif c5R (grN O (.row r.E false::r.ps) (.vw l::ps')) a.2 then (b3e r.ps (r.run a.1.1) a.1.2).bind fun res =>
    k ⟨a8o ((pvT tb nb (r.rs++Q0 r.ps) res.1).take r.rs.length),(Q3 O a.2.pub++a3c a.2.all++a7e a.2.gv ((pvT tb nb (r.rs++Q0 r.ps) res.1).drop r.rs.length))++[(l,some (.row r.E res.2 false))],obT (r.rs++Q0 r.ps) res.1⟩ else none
 | _=>none
def d3k (tb:Tab I)(r:Rio I):Ans I:=⟨r.f,c1f tb r⟩
theorem d0h (ht:TabOk P tb){r:Rio I}(hr:a75 P r):EntOk P (d3k tb r):=by
 refine ⟨fun disp ρ O nb ps k=>?_,fun disp hd O nb ps ef he=>?_⟩
 ·show c1f tb r disp ρ O nb ps k=(c1f tb r disp (Ef I) O nb ps some).bind k
  unfold c1f
  split
  ·rename_i l0 ps'
   simp only [d86]
   refine d1v fun a=>?_
   cases c5R (grN O (.row r.E false::r.ps) (.vw l0::ps')) a.2
   ·rfl
   ·simp only [cond_true,d86]
    rfl
  ·rfl
 ·intro X c σ s n F vs hX hO h hvs hfree
  have he':c1f tb r disp (Ef I) O nb ps some=some ef:=he
  unfold c1f at he'
  split at he'
  rotate_left
  ·cases he'
  rename_i l0 ps'
  replace he':=bind_some he'
  obtain ⟨a,ha,he'⟩:=he'
  replace he':=j8 he'
  obtain ⟨hchk,he'⟩:=he'
  replace he':=bind_some he'
  obtain ⟨res,hres,he'⟩:=he'
  cases he'
  obtain ⟨a,acc⟩:=a
  obtain ⟨res,ys⟩:=res
  have hrow0:∃ rest,acc.all=some l0::rest:=by
   obtain ⟨x,hx,e⟩:=bind_some ha
   obtain ⟨y,hy,e⟩:=bind_some e
   cases e
   exact ⟨y.2.all,by show x.2.2++y.2.all=_; rw [c5Y hx]; rfl⟩
  have hO0:∃ E,∃ xs:List (I E),∃ fl,O l0=some (some (.row E xs fl)):=by
   obtain ⟨x,hx,e⟩:=bind_some ha
   exact c4S (ls:=x.2.1) (rows:=x.2.2) hx l0 (by rw [c5Y hx]; simp)
  have hfree:a2A (apU s.O (Q3 O acc.pub++a3c acc.all++a7e acc.gv ((pvT tb nb (r.rs++Q0 r.ps) res).drop r.rs.length))) nb (obT (r.rs++Q0 r.ps) res)=true/\l0 ∉ rng nb (obT (r.rs++Q0 r.ps) res).length:=by
   have hf:a2A (apU s.O ((Q3 O acc.pub++a3c acc.all++a7e acc.gv ((pvT tb nb (r.rs++Q0 r.ps) res).drop r.rs.length))++[(l0,some (Ob.row r.E ys false))])) nb (obT (r.rs++Q0 r.ps) res)=true:=hfree
   rw [a2O] at hf
   rw [a1D] at hf ⊢
   have hne:l0 ∉ rng nb (obT (r.rs++Q0 r.ps) res).length:=fun hm=>by
    have:=hf l0 hm
    simp [apU,J3] at this
   refine ⟨fun l hl=>?_,hne⟩
   have h1:=hf l hl
   have e:l≠l0:=fun e=>hne (by rw [<- e]; exact hl)
   simpa [apU,J2 e] using h1
  obtain ⟨hfree,hl0n⟩:=hfree
  simp only [c5R,d8p] at hchk
  obtain ⟨⟨q1,q2⟩,q3⟩:=hchk
  obtain ⟨r1,r2⟩:=a6R q1
  have hgr:∀ l,some l∈acc.all->l∈grN O (.row r.E false::r.ps) (.vw l0::ps'):=fun l hl=>by
   have:=(d8q.1 q2) _ hl
   exact a0C.1 this
  have hrv:∀ l∈acc.rv,l ∉ grN O (.row r.E false::r.ps) (.vw l0::ps'):=fun l hl=>by
   have:=(d8q.1 q3) _ hl
   exact a1v.1 (by simpa using this)
  obtain ⟨τ1,p1,p2,p3,p4,p5,p6⟩:=h.pubs hO acc.pub
  have hvs1:=RVs.step p2 _ _ hvs
  have hpubO:∀ {l:Nat},(∀ E (xs:List (I E)),O l≠some (some (.row E xs false)))->(Z8 s O acc.pub).O l=s.O l:=fun {l} hn=>by
   show apU s.O (Q3 O acc.pub) l=s.O l
   apply a3d
   intro hm
   have hp:∀ {ls:List Nat},l∈a0S (Q3 O ls)->∃ E,∃ xs:List (I E),O l=some (some (.row E xs false)):=by
    intro ls
    induction ls with
    | nil=>intro h; simp [Q3,a0S] at h
    | cons a r ih =>
      intro h
      simp only [Q3] at h
      split at h
      ·rename_i E xs e
       simp only [a0S,d8O,d8A] at h
       rcases h with rfl | h
       ·exact ⟨E,xs,e⟩
       ·exact ih h
      ·exact ih h
   obtain ⟨E,xs,e⟩:=hp hm
   exact hn E xs e
  have hOv:∀ l T ls w,O l=some (some (.var T ls w))->(Z8 s O acc.pub).O l=some (some (.var T ls w)):=fun l T ls w ho=>by
   rw [hpubO (fun E xs e=>by rw [ho] at e; cases e)]; exact hO l _ ho
  have hOc:∀ l o,roO [] (J0 (grN O (.row r.E false::r.ps) (.vw l0::ps')) O) l=some (some o)->roO [] (J0 (grN O (.row r.E false::r.ps) (.vw l0::ps')) (Z8 s O acc.pub).O) l=some (some o):=by
   intro l o hl
   unfold roO J0 at hl ⊢
   cases hm:W5 l (grN O (.row r.E false::r.ps) (.vw l0::ps')) with
   | true =>
     rw [hm] at hl
     cases hol:O l with
     | none=>rw [hol] at hl; simp [W5] at hl
     | some x=>rw [hol] at hl; simp [W5] at hl
   | false =>
     rw [hm] at hl
     simp only [cond_false,W5] at hl ⊢
     have hne:∀ E (xs:List (I E)),O l≠some (some (.row E xs false)):=fun E xs e=>by rw [e] at hl; simp at hl
     rw [hpubO hne]
     cases hol:O l with
     | none=>rw [hol] at hl; simp at hl
     | some x =>
       cases x with
       | none=>rw [hol] at hl; simp at hl
       | some o'=>rw [hO l o' hol]; rw [hol] at hl; exact hl
  have hlv:∀ l,some l∈acc.all->(∃ o:Ob I,O l=some (some o)/\b46 o=true)\/(∃ T ls,O l=some (some (.var T ls true)))->Y7 (Z8 s O acc.pub) l:=fun l hl hx=>by
   rcases hx with ⟨o,ho,_⟩ | ⟨T,ls,ho⟩
   ·exact ⟨_,(p6 l (r2 l hl)).trans (hO l _ ho)⟩
   ·exact ⟨_,hOv l _ _ _ ho⟩
  have core:∀ M:Nat->Prop,(∀ b,M b->τ1.N<=b\/∃ l∈grN O (.row r.E false::r.ps) (.vw l0::ps'),Y7 (Z8 s O acc.pub) l/\∃ p,c l=some p/\p.w=some b)->_:=fun M hM =>
   a4Z ht hd hX p3 (fun l E xs fl e=>b7v ⟨fl,e⟩ ⟨fl,hO l _ e⟩) (fun l E xs e=>(hpubO (fun E' xs' e'=>by rw [e] at e'; cases e')).trans (hO l _ e)) (fun l T kd m=>⟨fun e=>(hpubO (fun E' xs' e'=>by rw [e] at e'; cases e')).trans (hO l _ e),fun e=>(hpubO (fun E' xs' e'=>by rw [e] at e'; cases e')).trans (hO l _ e)⟩) hOv p4 p5 hOc hM (nb:=nb) ha hvs1 (fun _ h=>h) r2 hrv
  have fin:∀ (pls:List Pl),a7o P (fun b=>τ1.N<=b\/b∈ows pls) τ1 (.row r.E false::r.ps) a vs pls->At c acc.all pls->a6Z c O acc.gv (a0Y (.row r.E false::r.ps) vs)->(∀ l,some l∈acc.all->(∃ o:Ob I,O l=some (some o)/\b46 o=true)\/∃ T v,(l,T,v)∈acc.gv) ->
   (∀ x∈acc.gv,some x.1∈acc.all)->acc.gv.map (fun x=>x.2)=a7r (.row r.E false::r.ps)->a0Z P r.f vs σ (Stp X.M σ) fun v τ=>∃ c',Cx.le c c'/\Rel X c' τ (apE s nb ⟨a8o ((pvT tb nb (r.rs++Q0 r.ps) res).take r.rs.length),Q3 O acc.pub++a3c acc.all++a7e acc.gv ((pvT tb nb (r.rs++Q0 r.ps) res).drop r.rs.length)++[(l0,some (.row r.E ys false))],obT (r.rs++Q0 r.ps) res⟩) n F /\
     RV X c' τ (a8o ((pvT tb nb (r.rs++Q0 r.ps) res).take r.rs.length)) v:=by
   intro pls k1 k2 k3 k4 k5 k6
   have hgv:∀ x∈acc.gv,∃ ls,O x.1=some (some (.var x.2.1 ls true)):=by
    have:∀ {gv:List (Nat×TypeId×V)} {bs:List Nat},a6Z c O gv bs->∀ x∈gv,∃ ls,O x.1=some (some (.var x.2.1 ls true)):=by
     intro gv
     induction gv with
     | nil=>intro bs _ x hx; cases hx
     | cons y r ih =>
       intro bs ⟨b,bs',ls,_,e2,_,e4⟩ x hx
       rcases d8A.1 hx with rfl | hx
       ·exact ⟨ls,e2⟩
       ·exact ih e4 x hx
    exact this k3
   have hlive:∀ l,some l∈acc.all->Y7 (Z8 s O acc.pub) l:=fun l hl=>hlv l hl ((k4 l hl).imp id fun ⟨T,v,hm⟩=>by
    obtain ⟨ls,e⟩:=hgv _ hm
    exact ⟨T,ls,e⟩)
   have hnd:(ows pls).Nodup:=At.nodup p3 k2 r1 hlive
   have hown:∀ g∈ows pls,∃ l p,some l∈acc.all/\c l=some p/\p.w=some g:=k2.mem
   have hownM:∀ g∈ows pls,X.M g:=fun g hg=>by
    obtain ⟨l,p,a1,a2,a3⟩:=hown g hg
    exact p3.mine l p g (hlive l a1) a2 a3
   refine a0Z.mono (hr τ1 a.1 a.2 vs pls res ys k1 hnd hres) p1.symm fun v τ hst ⟨ws,us,pls',hpost,A0,kk0,ow0,z1,z2,z3,z4⟩=>⟨τ,rfl,p2.trans (hst.mono fun b _ hb=>hownM b hb),?_⟩
   let kl:=acc.all.filterMap id
   have hkl:∀ l,l∈kl↔some l∈acc.all:=fun l=>by simp [kl,d95]
   let s2:St I:=⟨s.n,s.F,J0 kl (Z8 s O acc.pub).O,s.nx⟩
   have h2:Rel X c τ1 s2 n F:=p3.less (fun l o ho=>(Q6 ho).2) (fun l ho=>a2W.1 ho)
   have hn2:∀ l p g,Y7 s2 l->c l=some p->p.w=some g->¬ g∈ows pls:=fun l p g ⟨o,ho⟩ hc hw hg=>by
    obtain ⟨m1,m2⟩:=Q6 ho
    obtain ⟨l',p',a1,a2,a3⟩:=hown g hg
    exact m1 ((hkl l).2 (by rw [p3.inj l l' p p' g ⟨o,m2⟩ (hlive l' a1) hc a2 hw a3]; exact a1))
   have hi2:∀ g,g∈ows pls->notIn c τ1 s2 g:=fun g hg=>by
    obtain ⟨l',p',a1,a2,a3⟩:=hown g hg
    exact (p3.owned (hlive l' a1) a2 a3).sub fun l E E' u xs q e=>(Q6 e).2
   have h3:Rel X c τ s2 n F:=h2.stepG hst hownM hn2 hi2
   have hOpub:apU s.O (Q3 O acc.pub++a3c acc.all)=J0 kl (Z8 s O acc.pub).O:=by
    rw [a2O]
    funext l
    exact b8l fun l hl=>by obtain ⟨o,ho⟩:=hlive l hl; intro e; have:=ho; rw [show (Z8 s O acc.pub).O l=apU s.O (Q3 O acc.pub) l from rfl,e] at this; cases this
   have hgvO:∀ x∈acc.gv,∃ ls,(Z8 s O acc.pub).O x.1=some (some (.var x.2.1 ls true)):=fun x hx=>by
    obtain ⟨ls,e⟩:=hgv x hx
    exact ⟨ls,hOv _ _ _ _ e⟩
   have hfree2:∀ l∈rng nb (obT (r.rs++Q0 r.ps) res).length,J0 kl (Z8 s O acc.pub).O l=none/\l ∉ acc.gv.map (·.1):=by
    rw [a1D] at hfree
    intro l hl
    have h0:=hfree l hl
    rw [a2O,hOpub] at h0
    by_cases hk:l∈a0S (a7e acc.gv ((pvT tb nb (r.rs++Q0 r.ps) res).drop r.rs.length))
    ·exact absurd h0 (b5V (O':=s.O) hk).2
    ·rw [a3d hk] at h0
     refine ⟨h0,fun hm=>?_⟩
     simp only [d8T] at hm
     obtain ⟨x,hx,e⟩:=hm
     have:=(hkl x.1).2 (k5 x hx)
     rw [e] at this
     have hl2:=hlive l ((hkl l).1 this)
     obtain ⟨o,ho⟩:=hl2
     have:=a2W.1 h0
     rw [ho] at this; cases this
   have htt:TT τ (r.rs++Q0 r.ps) res (ws++us) pls':=hpost.tt
   have hob:=a84 htt
   obtain ⟨h4,h5⟩:=Rel.addN (nb:=nb) h3 (a1D.2 fun l hl=>(hfree2 l hl).1) hob hpost.nodup fun g hg=>by
    have ho:=hpost.own g hg
    refine ⟨ho.1.elim (fun h=>.inl (d8C p3.base.1 h)) (hownM g),(ho.1.elim (fun h=>h2.fresh h) (hi2 g)).step h2 hst hn2 hi2,fun l p ⟨o,ho'⟩ hc hw=>?_⟩
    obtain ⟨m1,m2⟩:=Q6 ho'
    rcases ho.1 with hge | hin
    ·have:=(p3.objs l o m2).lt hc hw
     have:τ1.w.heap.size<=g:=hge
     omega
    ·obtain ⟨l',p',a1,a2,a3⟩:=hown g hin
     exact m1 ((hkl l).2 (by rw [p3.inj l l' p p' g ⟨o,m2⟩ (hlive l' a1) hc a2 hw a3]; exact a1))
   obtain ⟨hps,hlen⟩:=b6l (X:=X) (c:=V6 c nb pls') (nb:=nb) ht hpost.tt a1c
   have htk:=RVs.take r.rs.length _ _ hps
   have hdr:=RVs.drop r.rs.length _ _ hps
   rw [List.take_left' hpost.len] at htk
   rw [List.drop_left' hpost.len] at hdr
   have hold:∀ l,(Z8 s O acc.pub).O l≠none->V6 c nb pls' l=c l:=fun l hl=>by
    have key:∀ {ps:List Pl} {c:Cx} {nb:Nat},(l<nb\/nb+ps.length<=l)->V6 c nb ps l=c l:=by
     intro ps
     induction ps with
     | nil=>intro c nb _; rfl
     | cons p ps ih =>
       intro c nb h
       simp only [V6]
       rw [ih (by simp only [d8v] at h; omega)]
       have:l≠nb:=by simp only [d8v] at h; omega
       simp [a0D,this]
    apply key
    apply Classical.byContradiction
    intro hn
    rw [not_or] at hn
    exact hl (a2W.1 (hfree2 l (a1o.2 ⟨by omega,by rw [hob.1]; omega⟩)).1)
   have hvarb:∀ {gv:List (Nat×TypeId×V)} {bs:List Nat},a6Z c O gv bs->∀ x∈gv,∀ p g,c x.1=some p->p.w=some g->g∈bs:=by
    intro gv
    induction gv with
    | nil=>intro bs _ x hx; cases hx
    | cons y r ih =>
      intro bs ⟨b,bs',ls,e1,e2,e3,e4⟩ x hx p g hc hw
      subst e1
      rcases d8A.1 hx with rfl | hx
      ·rw [e3] at hc; cases hc; cases hw; simp
      ·simp [ih e4 x hx p g hc hw]
   have k6':acc.gv.map (fun x=>x.2)=a7r r.ps:=k6
   have hat:∀ (i:Nat) (y:Nat×V) (p:PV I),(acc.gv.map fun x=>(x.1,x.2.2))[i]?=some y->((pvT tb nb (r.rs++Q0 r.ps) res).drop r.rs.length)[i]?=some p->∃ nb' z,p=pvV tb nb' y.2 z:=fun i y p hi hp=>by
    refine c3x (tb:=tb) (vs:=r.rs++Q0 r.ps) (nb:=nb) (x:=res) (i:=r.rs.length+i) (v:=y.2) ?_ (by rw [d9e] at hp; exact hp)
    rw [d8z (by simp),d9a,<- a3U,<- k6']
    rw [d9i] at hi
    simp only [List.map_map,d9i]
    cases hgi:acc.gv[i]? with
    | none=>rw [hgi] at hi; cases hi
    | some z=>rw [hgi] at hi; cases hi; rfl
   have h6:=Rel.asgW (pls:=pls') ht p3 h5 (a6s hpost.out k3 k6 hgvO) hdr (fun i y p hi hp hag=>by
    obtain ⟨nb',z,e⟩:=hat i y p hi hp
    rw [e]; exact c0V hag)
    (fun i y p hi hp hag=>by
      obtain ⟨nb',z,e⟩:=hat i y p hi hp
      rw [e]; exact c09 hag)
    (fun l hl=>hold l (by
      simp only [d8T] at hl
      obtain ⟨x,hx,rfl⟩:=hl
      obtain ⟨ls,e⟩:=hgvO x hx
      rw [e]; simp))
    (fun l hl p g hc hw=>by
      simp only [d8T] at hl
      obtain ⟨x,hx,rfl⟩:=hl
      exact p3.mine x.1 p g (hlive _ (k5 x hx)) hc hw)
    (fun l ⟨o,ho⟩=>by
      by_cases hm:l∈rng nb (obT (r.rs++Q0 r.ps) res).length
      ·right
       obtain ⟨a1,a2⟩:=a1o.1 hm
       have hlt:l-nb<pls'.length:=by rw [<- hob.1]; omega
       refine ⟨pls'[l-nb],d8B _,?_⟩
       have:=a1c (c:=c) (nb:=nb) (l-nb) pls'[l-nb] (d8n hlt)
       rw [show nb+(l-nb)=l from by omega] at this
       exact this
      ·left
       have ho':a0d (J0 kl (Z8 s O acc.pub).O) nb (obT (r.rs++Q0 r.ps) res) l=some (some o):=ho
       rw [a0k hm] at ho'
       obtain ⟨_,m2⟩:=Q6 ho'
       exact ⟨⟨o,m2⟩,hold l (by rw [m2]; simp)⟩)
    (fun l hl p hc g hw hm=>by
      simp only [d8T] at hl
      obtain ⟨x,hx,rfl⟩:=hl
      exact (hpost.own g hm).2 (hvarb k3 x hx p g hc hw))
    (fun l hl p hc g hw=>by
      simp only [d8T] at hl
      obtain ⟨x,hx,rfl⟩:=hl
      obtain ⟨ls,e⟩:=hgvO x hx
      exact (((p3.owned ⟨_,e⟩ hc hw).sub (s':=s2) fun l E E' u xs q e=>(Q6 e).2).step h2 hst hn2 hi2).grow h3 h4 (a40 hob.not))
   refine ⟨_,h4,?_,by rw [hpost.ret]; exact b6h htk⟩
   have hO2:a0d (apU s.O (Q3 O acc.pub++a3c acc.all++a7e acc.gv ((pvT tb nb (r.rs++Q0 r.ps) res).drop r.rs.length))) nb (obT (r.rs++Q0 r.ps) res) =
    asgW (Z8 s O acc.pub).O (acc.gv.map fun x=>(x.1,x.2.2)) (acc.gv.map (·.1)) ((pvT tb nb (r.rs++Q0 r.ps) res).drop r.rs.length) (a0d (J0 kl (Z8 s O acc.pub).O) nb (obT (r.rs++Q0 r.ps) res)):=by
    rw [a2O,hOpub]
    exact c21 fun x hx=>⟨hgvO x hx,fun hm=>(hfree2 x.1 hm).2 (d8T.2 ⟨x,hx,rfl⟩)⟩
   have e:apE s nb ⟨a8o ((pvT tb nb (r.rs++Q0 r.ps) res).take r.rs.length),Q3 O acc.pub++a3c acc.all++a7e acc.gv ((pvT tb nb (r.rs++Q0 r.ps) res).drop r.rs.length)++[(l0,some (.row r.E ys false))],obT (r.rs++Q0 r.ps) res⟩ =
    Y5 ⟨s.n,s.F,asgW (Z8 s O acc.pub).O (acc.gv.map fun x=>(x.1,x.2.2)) (acc.gv.map (·.1)) ((pvT tb nb (r.rs++Q0 r.ps) res).drop r.rs.length) (a0d (J0 kl (Z8 s O acc.pub).O) nb (obT (r.rs++Q0 r.ps) res)),s.nx⟩ l0 (some (.row r.E ys false)):=by
    have e1:apU s.O (Q3 O acc.pub++a3c acc.all++a7e acc.gv ((pvT tb nb (r.rs++Q0 r.ps) res).drop r.rs.length)++[(l0,some (.row r.E ys false))])=upF (apU s.O (Q3 O acc.pub++a3c acc.all++a7e acc.gv ((pvT tb nb (r.rs++Q0 r.ps) res).drop r.rs.length))) l0 (some (.row r.E ys false)):=by rw [a2O]; rfl
    simp only [apE,e1,c88 hl0n,hO2,Y5]
   rw [e]
   obtain ⟨a58,hall⟩:=hrow0
   have hm0:some l0∈acc.all:=by rw [hall]; simp
   obtain ⟨pl0,pls0,e0,hc0,_⟩:=(by rw [hall] at k2; exact k2:At c (some l0::a58) pls)
   have hc0:c l0=some pl0:=hc0
   rw [e0] at z1
   cases z1
   have hl0v:l0 ∉ acc.gv.map (·.1):=fun hm=>by
    simp only [d8T] at hm
    obtain ⟨x,hx,e⟩:=hm
    obtain ⟨ls,e2⟩:=hgv x hx
    obtain ⟨E,xs,fl,e3⟩:=hO0
    rw [<- e,e2] at e3; cases e3
   obtain ⟨o0,hlive0⟩:=hlive l0 hm0
   have hdead:asgW (Z8 s O acc.pub).O (acc.gv.map fun x=>(x.1,x.2.2)) (acc.gv.map (·.1)) ((pvT tb nb (r.rs++Q0 r.ps) res).drop r.rs.length) (a0d (J0 kl (Z8 s O acc.pub).O) nb (obT (r.rs++Q0 r.ps) res)) l0=some none:=by
    rw [b3F hl0v,a0k hl0n]
    unfold J0
    rw [a0C.2 ((hkl l0).2 hm0),hlive0]
    rfl
   have hc0':=(hold l0 (by rw [hlive0]; simp)).trans hc0
   refine h6.revive ⟨A0,kk0,ow0,by rw [z2]; exact hc0',z3⟩ fun p2 g hp2 hg=>?_
   rw [hc0'] at hp2
   cases hp2
   refine ⟨hownM g (by rw [e0]; simp only at hg; subst hg; simp [ows]),?_,fun l' p' _ ⟨o',ho'⟩ hc' hw'=>?_⟩
   ·have hn:=(((hi2 g (by rw [e0]; simp only at hg; subst hg; simp [ows])).step h2 hst hn2 hi2).grow h3 h4 (a40 hob.not):notIn (V6 c nb pls') τ (addN s2 nb (obT (r.rs++Q0 r.ps) res)) g)
    exact hn.sub fun l E E' u xs q e=>b7p (by simpa using e)
   have ho':asgW (Z8 s O acc.pub).O (acc.gv.map fun x=>(x.1,x.2.2)) (acc.gv.map (·.1)) ((pvT tb nb (r.rs++Q0 r.ps) res).drop r.rs.length) (a0d (J0 kl (Z8 s O acc.pub).O) nb (obT (r.rs++Q0 r.ps) res)) l'=some (some o'):=ho'
   by_cases hm:l'∈rng nb (obT (r.rs++Q0 r.ps) res).length
   ·obtain ⟨a1,a2⟩:=a1o.1 hm
    have hlt:l'-nb<pls'.length:=by rw [<- hob.1]; omega
    have hn:=a1c (c:=c) (nb:=nb) (l'-nb) pls'[l'-nb] (d8n hlt)
    rw [show nb+(l'-nb)=l' from by omega,hc'] at hn
    cases hn
    exact z4 g hg (b2p.2 ⟨_,d8B _,hw'⟩)
   ·have hlv':Y7 (Z8 s O acc.pub) l':=by
     by_cases hv:l'∈acc.gv.map (·.1)
     ·simp only [d8T] at hv
      obtain ⟨x,hx,e⟩:=hv
      rw [<- e]
      exact hlive _ (k5 x hx)
     ·rw [b3F hv,a0k hm] at ho'
      exact ⟨_,(Q6 ho').2⟩
    have hcc:c l'=some p':=by
     obtain ⟨o2,ho2⟩:=hlv'
     rw [<- hold l' (by rw [ho2]; simp)]; exact hc'
    have el:=p3.inj l' l0 p' _ g hlv' ⟨_,hlive0⟩ hcc hc0 hw' hg
    rw [el,hdead] at ho'
    cases ho'
  obtain ⟨pls0,k1,k2,k3,k4,k5,k6⟩:=core (fun _=>False) (fun _ h=>h.elim)
  obtain ⟨pls,k1',k2',_⟩:=core (fun b=>τ1.N<=b\/b∈ows pls0) (fun b hb=>hb.imp id fun hb=>by
   obtain ⟨l,p,a1,a2,a3⟩:=k2.mem b hb
   refine ⟨l,hgr l a1,hlv l a1 ((k4 l a1).imp id fun ⟨T,v,hm⟩=>?_),p,a2,a3⟩
   have:∀ {gv:List (Nat×TypeId×V)} {bs:List Nat},a6Z c O gv bs->∀ x∈gv,∃ ls,O x.1=some (some (.var x.2.1 ls true)):=by
    intro gv
    induction gv with
    | nil=>intro bs _ x hx; cases hx
    | cons y r ih =>
      intro bs ⟨b,bs',ls,_,e2,_,e4⟩ x hx
      rcases d8A.1 hx with rfl | hx
      ·exact ⟨ls,e2⟩
      ·exact ih e4 x hx
   obtain ⟨ls,e⟩:=this k3 _ hm
   exact ⟨T,ls,e⟩)
  have hsame:ows pls=ows pls0:=by
   have:∀ {rows:List (Option Nat)} {p q:List Pl},At c rows p->At c rows q->ows p=ows q:=by
    intro rows
    induction rows with
    | nil=>intro p q h1 h2; cases h1; cases h2; rfl
    | cons x r ih =>
      intro p q ⟨a,d8k,e1,g1,h1⟩ ⟨b,bs,e2,g2,h2⟩
      subst e1
      subst e2
      have hr:=ih h1 h2
      simp only [ows,d8X] at hr ⊢
      have:a.w=b.w:=by
       cases x with
       | none=>simp only at g1 g2; rw [g1,g2]
       | some l=>simp only at g1 g2; rw [g1] at g2; cases g2; rfl
      rw [this,hr]
   exact this k2' k2
  rw [<- hsame] at k1'
  exact fin pls k1' k2' k3 k4 k5 k6
end
end Go.Qx
end
section
open Bool renaming and_eq_true->d8p
open List renaming all_cons->d9v,append_assoc->d8E,append_nil->d82,length_append->d8t,mem_append->d8y,mem_cons->d8A,range->d9L
open Nat renaming add_assoc->d9j,beq->d8u,ble->d89,eq_of_beq_eq_true->d8s,le_of_ble_eq_true->d8N,lt_of_lt_of_le->d9n,zero_add->d8Q,zero_le->d8w
open Option renaming isSome_iff_exists->d9K,map_some->d85,some->d8Y
namespace Go.Qx
open Go Go.RowKit Go.Sx
@[reducible] def d6h:Rp Unit where
 sz:=1
 pos:=by decide
 agg:=false
 cells:=fun _ _ _=>False
 len:=fun h=>h.elim
 one:=fun h=>h.elim
 mono:=fun _ h=>h
@[reducible] def rpK (k:IntKind):Rp Int:=rpIK k
@[reducible] def Y2 {α β:Type} (a:Rp α) (b:Rp β):Rp (α×β) where
 sz:=a.sz+b.sz
 pos:=d9n a.pos (Nat.le_add_right _ _)
 agg:=true
 cells:=fun σ x cs=>∃ c1 c2,cs=c1++c2/\a.cells σ x.1 c1/\b.cells σ x.2 c2
 len:=fun ⟨_,_,e,h1,h2⟩=>by rw [e,d8t,a.len h1,b.len h2]
 one:=fun ⟨_,_,e,h1,h2⟩ v hv=>by
  rw [e,d8y] at hv
  exact hv.elim (a.one h1 v) (b.one h2 v)
 mono:=fun k ⟨c1,c2,e,h1,h2⟩=>⟨c1,c2,e,a.mono k h1,b.mono k h2⟩
@[reducible] def a2a {γ α:Type} (to:γ->α) (a:Rp α):Rp γ where
 sz:=a.sz
 pos:=a.pos
 agg:=true
 cells:=fun σ x cs=>a.cells σ (to x) cs
 len:=fun h=>a.len h
 one:=fun h=>a.one h
 mono:=fun k h=>a.mono k h
structure TE where
 E:TypeId
 α:Type
 rp:Rp α
def a82:List TE->TypeId->TE
 | [],_=>⟨0,Unit,d6h⟩
 | e::r,E=>bif d8u e.E E then e else a82 r E
theorem lookT_lo {n:Nat}:∀ {l:List TE},(l.all fun e=>d89 e.rp.lo n)=true->∀ E,(a82 l E).rp.lo<=n
 | [],_,_=>d8w _
 | e::r,h,E=>by
   rw [d9v,d8p] at h
   have k:∀ t:TE,t=e\/t=a82 r E->t.rp.lo<=n:=fun t ht=>by
    rcases ht with rfl | rfl
    ·exact d8N h.1
    ·exact lookT_lo h.2 E
   refine k _ ?_
   simp only [a82]
   cases d8u e.E E with
   | true=>exact .inl rfl
   | false=>exact .inr rfl
section
variable {I:TypeId->Type} [∀ E,Rp (I E)]
structure Fd (I:TypeId->Type) [∀ E,Rp (I E)] (α:Type)(rp:Rp α) where
 lf:α->List (PV I)
 pa:(ρ:Type)->List (PV I)->(α->List (PV I)->Option ρ)->Option ρ
 lf_ok:∀ (X:Cxt) (c:Cx) (σ:S) (x:α) (cs:List Value),rp.cells σ x cs->RG X c σ (lf x) cs
 pa_ok:∀ (ρ:Type) (ls:List (PV I)) (f:α->List (PV I)->Option ρ) (r:ρ),pa ρ ls f=some r->∃ x rest,f x rest=some r /\
  ∀ (X:Cxt) (c:Cx) (σ:S) (cs:List Value),RG X c σ ls cs->∃ c1 c2,cs=c1++c2/\rp.cells σ x c1/\RG X c σ rest c2
theorem RG.cons1 {X:Cxt}{c:Cx}{σ:S}{p:PV I}{r:List (PV I)}{cs:List Value}(h:RG X c σ (p::r) cs)(hp:a6H p=false):∃ v c2,cs=[v]++c2/\RV X c σ p v/\RG X c σ r c2:=by
 simp only [RG] at h
 obtain ⟨a,c2,e,h1 | ⟨_,v,e1,h1⟩,h2⟩:=h
 ·exact (by cases p<;>first | exact h1.elim | cases hp)
 ·exact ⟨v,c2,by rw [e,e1],h1,h2⟩
theorem RG.cns {X:Cxt}{c:Cx}{σ:S}{p:PV I}{ps:List (PV I)}{v:Value}{cs:List Value}(h0:a6H p=false)(h:RV X c σ p v)(k:RG X c σ ps cs):RG X c σ (p::ps) (v::cs):=by
 simp only [RG]
 exact ⟨[v],cs,rfl,.inr ⟨h0,v,rfl,h⟩,k⟩
theorem RG.nl {X:Cxt}{c:Cx}{σ:S}:RG X c σ ([]:List (PV I)) []:=by simp only [RG]
theorem Y8 {X:Cxt}{c:Cx}{σ:S}{k:IntKind}{n:Int}:RV X c σ (.int k n:PV I) (.int k n):=by simp only [RV]
theorem a0H {X:Cxt}{c:Cx}{σ:S}{b:Bool}:RV X c σ (.bool b:PV I) (.bool b):=by simp only [RV]
theorem a4n {X:Cxt}{c:Cx}{σ:S}{b:ByteArray}:RV X c σ (.str b:PV I) (.string b):=by simp only [RV]
theorem k8 {X:Cxt}{c:Cx}{σ:S}{E:TypeId}:RV X c σ (.nl E:PV I) (.slice none 0 0):=by simp only [RV]; exact ⟨none,rfl⟩
theorem b4m {X:Cxt}{c:Cx}{σ:S}{v:Value}:RV X c σ (.any:PV I) v:=by simp only [RV]
def K7 (k:IntKind):Fd I Int (rpK k) where
 lf:=fun n=>[.int k n]
 pa:=fun _ ls f=>match ls with
  | .int k' n::r=>if k'=k then f n r else none
  | _=>none
 lf_ok:=fun X c σ x cs h=>by
  have e:cs=[.int k x]:=h
  rw [e]
  exact RG.single rfl (by simp only [RV])
 pa_ok:=fun ρ ls f r h=>by
  split at h
  ·rename_i k' n rest
   obtain ⟨e,h2⟩:=a0V h
   clear h
   subst e
   refine ⟨n,rest,h2,fun X c σ cs hl=>?_⟩
   obtain ⟨v,c2,e,h1,h2⟩:=hl.cons1 rfl
   simp only [RV] at h1
   subst h1
   exact ⟨_,c2,e,rfl,h2⟩
  ·cases h
def a3q:Fd I Bool rpBool where
 lf:=fun n=>[.bool n]
 pa:=fun _ ls f=>match ls with
  | .bool n::r=>f n r
  | _=>none
 lf_ok:=fun X c σ x cs h=>by
  have e:cs=[.bool x]:=h
  rw [e]
  exact RG.single rfl (by simp only [RV])
 pa_ok:=fun ρ ls f r h=>by
  split at h
  ·rename_i n rest
   refine ⟨n,rest,h,fun X c σ cs hl=>?_⟩
   obtain ⟨v,c2,e,h1,h2⟩:=hl.cons1 rfl
   simp only [RV] at h1
   subst h1
   exact ⟨_,c2,e,rfl,h2⟩
  ·cases h
def b0r:Fd I ByteArray rpStr where
 lf:=fun n=>[.str n]
 pa:=fun _ ls f=>match ls with
  | .str n::r=>f n r
  | _=>none
 lf_ok:=fun X c σ x cs h=>by
  have e:cs=[.string x]:=h
  rw [e]
  exact RG.single rfl (by simp only [RV])
 pa_ok:=fun ρ ls f r h=>by
  split at h
  ·rename_i n rest
   refine ⟨n,rest,h,fun X c σ cs hl=>?_⟩
   obtain ⟨v,c2,e,h1,h2⟩:=hl.cons1 rfl
   simp only [RV] at h1
   subst h1
   exact ⟨_,c2,e,rfl,h2⟩
  ·cases h
def Y6 (E:TypeId):Fd I (List (I E)) rpList where
 lf:=fun xs=>[.sl E xs false]
 pa:=fun _ ls f=>match ls with
  | .sl E' xs _::r=>(a13 E E' xs).bind fun ys=>f ys r
  | .nl E'::r=>bif d8u E' E then f [] r else none
  | _=>none
 lf_ok:=fun X c σ xs cs h=>by
  obtain ⟨A,k,e,hs⟩:∃ A k,cs=[.slice A (xs:List (I E)).length k]/\Sl σ xs A k:=h
  rw [e]
  refine RG.single rfl ?_
  simp only [RV]
  exact ⟨A,k,rfl,hs,fun e=>by cases e⟩
 pa_ok:=fun ρ ls f r h=>by
  split at h
  ·rename_i E' xs fl rest
   obtain ⟨ys,hy,h⟩:=bind_some h
   obtain ⟨e,rfl⟩:=a0l hy
   subst e
   refine ⟨xs,rest,h,fun X c σ cs hl=>?_⟩
   obtain ⟨v,c2,e,h1,h2⟩:=hl.cons1 rfl
   simp only [RV] at h1
   obtain ⟨A,k,e1,hs,_⟩:=h1
   exact ⟨[v],c2,e,⟨A,k,by rw [e1],hs⟩,h2⟩
  ·rename_i E' rest
   obtain ⟨_,h⟩:=j8 h
   refine ⟨[],rest,h,fun X c σ cs hl=>?_⟩
   obtain ⟨v,c2,e,h1,h2⟩:=hl.cons1 rfl
   simp only [RV] at h1
   obtain ⟨A,e1⟩:=h1
   exact ⟨[v],c2,e,⟨A,0,by rw [e1]; rfl,Sl.nil_ _ _ _ (d8w _)⟩,h2⟩
  ·cases h
def a0T (E:TypeId)(fd:Fd I (I E) inferInstance):Fd I (I E) inferInstance where
 lf:=fun x=>[.dat E x]
 pa:=fun ρ ls f=>match ls with
  | .dat E' x::r=>(a9a E E' x).bind fun y=>f y r
  | ls=>fd.pa ρ ls f
 lf_ok:=fun X c σ x cs h=>RG.one h
 pa_ok:=fun ρ ls f r h=>by
  split at h
  ·rename_i E' x rest
   obtain ⟨y,hy,h⟩:=bind_some h
   obtain ⟨e,rfl⟩:=b2w hy
   subst e
   refine ⟨x,rest,h,fun X c σ cs hl=>?_⟩
   simp only [RG] at hl
   obtain ⟨a,c2,e,h1 | ⟨h1,_⟩,h2⟩:=hl
   ·exact ⟨a,c2,e,h1,h2⟩
   ·cases h1
  ·exact fd.pa_ok ρ _ f r h
def k7 {α β:Type}{ra:Rp α}{rb:Rp β}(a:Fd I α ra)(b:Fd I β rb):Fd I (α×β) (Y2 ra rb) where
 lf:=fun x=>a.lf x.1++b.lf x.2
 pa:=fun ρ ls f=>a.pa ρ ls fun x r=>b.pa ρ r fun y r=>f (x,y) r
 lf_ok:=fun X c σ x cs ⟨c1,c2,e,h1,h2⟩=>by
  rw [e]
  exact RG.app _ _ _ _ (a.lf_ok X c σ _ _ h1) (b.lf_ok X c σ _ _ h2)
 pa_ok:=fun ρ ls f r h=>by
  obtain ⟨x,r1,h,k1⟩:=a.pa_ok ρ _ _ r h
  obtain ⟨y,r2,h,k2⟩:=b.pa_ok ρ _ _ r h
  refine ⟨(x,y),r2,h,fun X c σ cs hl=>?_⟩
  obtain ⟨c1,c2,e,h1,h2⟩:=k1 X c σ cs hl
  obtain ⟨c3,c4,e2,h3,h4⟩:=k2 X c σ c2 h2
  exact ⟨c1++c3,c4,by rw [e,e2,d8E],⟨c1,c3,rfl,h1,h3⟩,h4⟩
def V1 {γ α:Type}{rg:Rp γ}{ra:Rp α}(a:Fd I α ra)(to:γ->α)(of:α->γ)(h:∀ x,to (of x)=x)(hc:∀ σ x cs,rg.cells σ x cs↔ra.cells σ (to x) cs):Fd I γ rg where
 lf:=fun x=>a.lf (to x)
 pa:=fun ρ ls f=>a.pa ρ ls fun x r=>f (of x) r
 lf_ok:=fun X c σ x cs hx=>a.lf_ok X c σ _ _ ((hc σ x cs).1 hx)
 pa_ok:=fun ρ ls f r hr=>by
  obtain ⟨x,r1,hr,k1⟩:=a.pa_ok ρ _ _ r hr
  refine ⟨of x,r1,hr,fun X c σ cs hl=>?_⟩
  obtain ⟨c1,c2,e,h1,h2⟩:=k1 X c σ cs hl
  exact ⟨c1,c2,e,(hc σ _ _).2 (by rw [h]; exact h1),h2⟩
structure FE (I:TypeId->Type) [∀ E,Rp (I E)] where
 E:TypeId
 fd:Fd I (I E) inferInstance
def d0B:List (FE I)->TypeId->Option (FE I)
 | [],_=>none
 | e::r,E=>bif d8u e.E E then some e else d0B r E
def lfT (l:List (FE I))(E:TypeId)(x:I E):List (PV I):=match d0B l E with
 | some e=>if h:E=e.E then e.fd.lf (h▸x) else [.dat E x]
 | none=>[.dat E x]
def ofT (l:List (FE I))(E:TypeId)(ls:List (PV I)):Option (I E):=match d0B l E with
 | some e=>if h:e.E=E then e.fd.pa (I E) ls fun x r=>match r with
   | []=>some (h▸x)
   | _=>none else none
 | none=>none
def a5b {α:Type}(p:α->Prop):List α->Prop
 | []=>True
 | x::r=>p x/\a5b p r
omit [∀ E,Rp (I E)] in
theorem a5b.mem {α:Type}{p:α->Prop}:∀ {l:List α},a5b p l->∀ x∈l,p x
 | [],_,_,h=>by cases h
 | _::_,h,x,hx=>by
   rcases d8A.1 hx with rfl | hx
   ·exact h.1
   ·exact a5b.mem h.2 x hx
def asc {α:Type}:List (Nat×α)->Nat->Option α
 | [],_=>none
 | x::r,k=>bif d8u x.1 k then some x.2 else asc r k
omit [∀ E,Rp (I E)] in
theorem a09 {α:Type}:∀ {l:List (Nat×α)} {k:Nat} {a:α},asc l k=some a->(k,a)∈l
 | [],_,_,h=>by cases h
 | x::r,k,a,h=>by
   simp only [asc] at h
   cases hk:d8u x.1 k with
   | true =>
     rw [hk] at h
     cases h
     have:=d8s hk
     subst this
     simp
   | false =>
     rw [hk] at h
     exact List.mem_cons_of_mem _ (a09 h)
structure U8 (I:TypeId->Type) where
 E:TypeId
 g:Int->I E
def u8T:List (U8 I)->(E:TypeId)->Option (Int->I E)
 | [],_=>none
 | e::r,E=>if h:e.E=E then some fun k=>h▸e.g k else u8T r E
structure TabL (I:TypeId->Type) [∀ E,Rp (I E)] where
 sz:List (TypeId×Nat)
 one:List (TypeId×Unit)
 fld:List (TypeId×List (Nat×TypeId))
 el:List (TypeId×TypeId)
 str:List (TypeId×Unit)
 bool:List (TypeId×Unit)
 ik:List (TypeId×IntKind)
 fe:List (FE I)
 inf:List (TypeId×Nat×Nat×List (PV I))
 st:List (TypeId×List (Nat×Nat))
 eq:List (TypeId×(List (PV I)->List (PV I)->Option Bool))
 arr:List (TypeId×(TypeId×Nat×Nat))
 fb:List (FuncId×Unit)
 nest:List (TypeId×(TypeId×Nat)):=[]
 mp:List (TypeId×Kd):=[]
 u8:List (TypeId×Unit):=[]
 u8g:List (U8 I):=[]
 lo:Nat:=0
def d1t (L:TabL I):Tab I where
 sz:=asc L.sz
 one:=fun T=>(asc L.one T).isSome
 off:=fun T f=>(asc L.fld T).bind fun l=>Option.bind l[f]? fun x=>some x.1
 fty:=fun T f=>(asc L.fld T).bind fun l=>Option.bind l[f]? fun x=>some x.2
 el:=asc L.el
 isStr:=fun T=>(asc L.str T).isSome
 isBool:=fun T=>(asc L.bool T).isSome
 ik:=asc L.ik
 lf:=lfT L.fe
 of:=ofT L.fe
 size:=fun T=>(asc L.inf T).bind fun x=>some x.1
 bytes:=fun T=>(asc L.inf T).bind fun x=>some x.2.1
 zero:=fun T=>(asc L.inf T).bind fun x=>some x.2.2
 flds:=asc L.st
 eqF:=fun T a b=>(asc L.eq T).bind fun f=>f a b
 arr:=asc L.arr
 mp:=asc L.mp
 fb:=fun f=>(asc L.fb f).isSome
 nest:=asc L.nest
 u8:=fun T=>(asc L.u8 T).isSome
 u8g:=u8T L.u8g
 lo:=L.lo
def b3j (P:Program)(T:TypeId):Nat->List (Nat×TypeId)->Prop
 | _,[]=>True
 | i,x::r=>a6r P T i x.1/\(∃ fs fl,P.underlying T=some (.struct fs)/\fs[i]?=some fl/\fl.type=x.2)/\b3j P T (i+1) r
omit [∀ E,Rp (I E)] in
theorem b3j.at {P:Program}{T:TypeId}:∀ {l:List (Nat×TypeId)} {i j:Nat} {x:Nat×TypeId},b3j P T i l->l[j]?=some x->a6r P T (i+j) x.1/\(∃ fs fl,P.underlying T=some (.struct fs)/\fs[i+j]?=some fl/\fl.type=x.2)
 | [],_,_,_,_,h=>by simp at h
 | y::r,i,0,x,hf,h=>by simp at h; subst h; exact ⟨hf.1,hf.2.1⟩
 | y::r,i,j+1,x,hf,h=>by
   have:=b3j.at (i:=i+1) hf.2.2 (show r[j]?=some x by simpa using h)
   rwa [show i+1+j=i+(j+1) by omega] at this
def d7M (P:Program)(T:TypeId)(sz by_:Nat)(ls:List (PV I)):Prop:=∃ z,Y9 P T z sz by_/\∀ X c σ,RG X c σ ls z.cells.toList
structure TabLOk (P:Program)(L:TabL I):Prop where
 sz:a5b (fun x=>c0S P x.1 x.2) L.sz
 one:a5b (fun x=>X8 P x.1) L.one
 fld:a5b (fun x=>b3j P x.1 0 x.2) L.fld
 el:a5b (fun x=>P.underlying x.1=some (.slice x.2)/\∃ z b,Y9 P x.2 z (Rp.sz (I x.2)) b/\z.cells.size=Rp.sz (I x.2)/\0<b) L.el
 str:a5b (fun x=>P.underlying x.1=some .string) L.str
 bool:a5b (fun x=>P.underlying x.1=some .bool) L.bool
 ik:a5b (fun x=>P.underlying x.1=some (.int x.2)) L.ik
 inf:a5b (fun x=>d7M P x.1 x.2.1 x.2.2.1 x.2.2.2) L.inf
 st:a5b (fun x=>(∃ fs,P.underlying x.1=some (.struct fs)/\fs.toList.mapM (fun f=>(P.info? f.type).map fun i=>(f.offset,i.size))=some x.2) \/
  ∃ m e ie,P.underlying x.1=some (.array m e)/\P.info? e=some ie/\x.2=(d9L m).map fun j=>(j*ie.size,ie.size)) L.st
 eq:a5b (fun x=>∀ (X:Cxt) (c:Cx) (σ:S) (ls ms:List (PV I)) (r:Bool) (cs ds:List Value),x.2 ls ms=some r->RG X c σ ls cs->RG X c σ ms ds ->
  P.eqGuardType P.depth x.1=false/\∃ j,d89 j 10000=true/\Sx.EqAt P j x.1 (.agg cs.toArray) (.agg ds.toArray) r) L.eq
 arr:a5b (fun x=>P.underlying x.1=some (.array x.2.2.1 x.2.1)/\(P.info? x.2.1).map (·.size)=some x.2.2.2) L.arr
 mp:a5b (fun x=>c7h I P x.1 x.2) L.mp:=by exact trivial
 u8:a5b (fun x=>P.underlying x.1=some (.int .u8)/\∀ y:I x.1,∃ n,lfT L.fe x.1 y=[.int .u8 n]) L.u8:=by exact trivial
 u8g:a5b (fun x=>∀ (σ:S) (k:Int),Rp.cells σ (x.g k) [.int .u8 k]) L.u8g:=by exact trivial
 fb:a5b (fun x=>a1F P x.1) L.fb
 low:∀ E,Rp.lo (I E)<=L.lo:=by exact fun E=>Go.Qx.lookT_lo rfl E
omit [∀ E,Rp (I E)] in
theorem d11 {P:Program}{T e:TypeId}{m k b:Nat}{z:Value}{pl:List (Nat×Nat)}(hu:P.underlying T=some (.array m e))(hi:Y9 P e z k b)(hp:pl=(d9L m).map fun j=>(j*k,k)) :
 ∃ m e ie,P.underlying T=some (.array m e)/\P.info? e=some ie/\pl=(d9L m).map fun j=>(j*ie.size,ie.size):=by
 obtain ⟨i,h1,h2,h3,h4⟩:=hi
 exact ⟨m,e,i,hu,h1,by rw [hp,h3]⟩
theorem d1B:∀ {l:List (U8 I)} {E:TypeId} {g:Int->I E},a5b (fun x=>∀ (σ:S) (k:Int),Rp.cells σ (x.g k) [.int .u8 k]) l->u8T l E=some g->∀ (σ:S) (k:Int),Rp.cells σ (g k) [.int .u8 k]
 | [],_,_,_,h=>by cases h
 | e::r,E,g,hl,h=>by
   unfold u8T at h
   split at h
   ·rename_i e1
    subst e1
    cases h
    exact hl.1
   ·exact d1B hl.2 h
omit [∀ E,Rp (I E)] in
theorem b0V {α:Type}{o:Option α}(h:o.isSome=true):∃ a,o=some a:=d9K.1 h
omit [∀ E,Rp (I E)] in
theorem Y9.inj {P:Program}{T:TypeId}{z z':Value}{a a' b b':Nat}(h:Y9 P T z a b)(k:Y9 P T z' a' b'):z=z'/\a=a'/\b=b':=by
 obtain ⟨i,h1,h2,h3,h4⟩:=h
 obtain ⟨j,k1,k2,k3,k4⟩:=k
 rw [h1] at k1
 cases k1
 rw [h2] at k2
 cases k2
 exact ⟨rfl,h3.symm.trans k3,h4.symm.trans k4⟩
theorem c0f {fe:List (FE I)}{X:Cxt}{c:Cx}{σ:S}{E:TypeId}{ls:List (PV I)}{x:I E}{cs:List Value}(hx:ofT fe E ls=some x)(hl:RG X c σ ls cs):Rp.cells σ x cs:=by
 unfold ofT at hx
 split at hx
 ·rename_i e he
  split at hx
  ·rename_i e1
   subst e1
   obtain ⟨y,rest,h1,h2⟩:=e.fd.pa_ok _ _ _ _ hx
   obtain ⟨c1,c2,e2,h3,h4⟩:=h2 X c σ cs hl
   split at h1
   ·cases h1
    simp only [RG] at h4
    rw [e2,h4,d82]
    exact h3
   ·cases h1
  ·cases hx
 ·cases hx
theorem c7U {P:Program}{L:TabL I}(h:TabLOk P L):TabOk P (d1t L) where
 low:=h.low
 sz:=fun T k hk=>h.sz.mem _ (a09 hk)
 one:=fun T hk=>by obtain ⟨a,ha⟩:=b0V hk; exact h.one.mem _ (a09 ha)
 off:=fun T f o hk=>by
  obtain ⟨l,hl,hk⟩:=bind_some hk
  obtain ⟨x,hx,hk⟩:=bind_some hk
  cases hk
  have:=(b3j.at (h.fld.mem _ (a09 hl)) hx).1
  rw [d8Q] at this
  exact this
 fty:=fun T f o hk=>by
  obtain ⟨l,hl,hk⟩:=bind_some hk
  obtain ⟨x,hx,hk⟩:=bind_some hk
  cases hk
  have:=(b3j.at (h.fld.mem _ (a09 hl)) hx).2
  rw [d8Q] at this
  exact this
 el:=fun T E hk=>by
  obtain ⟨h1,z,b,⟨i,e1,e2,e3,e4⟩,_⟩:=h.el.mem _ (a09 hk)
  exact ⟨h1,by rw [e1]; simp only [d85]; rw [e3]⟩
 isStr:=fun T hk=>by obtain ⟨a,ha⟩:=b0V hk; exact h.str.mem _ (a09 ha)
 isBool:=fun T hk=>by obtain ⟨a,ha⟩:=b0V hk; exact h.bool.mem _ (a09 ha)
 ik:=fun T k hk=>h.ik.mem _ (a09 hk)
 lf:=fun X c σ E x cs hx=>by
  show RG X c σ (lfT L.fe E x) cs
  unfold lfT
  split
  ·rename_i e he
   split
   ·rename_i e1
    subst e1
    exact e.fd.lf_ok X c σ x cs hx
   ·exact RG.one hx
  ·exact RG.one hx
 of:=fun _ _ _ _ _ _ _ hx hl=>c0f hx hl
 size:=fun T k hk=>by
  obtain ⟨x,hx,hk⟩:=bind_some hk
  cases hk
  obtain ⟨z,⟨i,e1,e2,e3,e4⟩,_⟩:=h.inf.mem _ (a09 hx)
  rw [e1,d85,e3]
 slice:=fun T E b hT hb=>by
  obtain ⟨x,hx,hk⟩:=bind_some hb
  cases hk
  obtain ⟨z,h1,_⟩:=h.inf.mem _ (a09 hx)
  obtain ⟨h2,z',b',h3,h4,h5⟩:=h.el.mem _ (a09 hT)
  obtain ⟨rfl,e1,e2⟩:=Y9.inj h1 h3
  simp only at e1 e2 h1
  refine ⟨z,h2,?_,h4,Rp.pos,?_⟩
  ·rw [<- e1]; exact h1
  ·rw [e2]; exact h5
 zero:=fun T ls hk=>by
  obtain ⟨x,hx,hk⟩:=bind_some hk
  cases hk
  obtain ⟨z,h1,h2⟩:=h.inf.mem _ (a09 hx)
  exact ⟨z,_,_,_,h1,rfl,h2⟩
 flds:=fun T pl ls hp hz=>by
  obtain ⟨x,hx,hk⟩:=bind_some hz
  cases hk
  obtain ⟨z,⟨i,e1,e2,e3,e4⟩,h2⟩:=h.inf.mem _ (a09 hx)
  rcases h.st.mem _ (a09 hp) with ⟨fs,h3,h4⟩ | ⟨m,e,ie,h3,h4,h5⟩
  ·exact ⟨z.cells.toList,.inl ⟨fs,i,z,h3,e1,e2,by simp,h4⟩,h2⟩
  ·exact ⟨z.cells.toList,.inr ⟨m,e,ie,i,z,h3,h4,e1,e2,by simp,h5⟩,h2⟩
 eqF:=fun X c σ T ls ms r cs ds hk h1 h2=>by
  obtain ⟨f,hf,hk⟩:=bind_some hk
  exact h.eq.mem _ (a09 hf) X c σ ls ms r cs ds hk h1 h2
 arr:=fun T E m k hk=>h.arr.mem _ (a09 hk)
 mp:=fun T kd hk=>h.mp.mem _ (a09 hk)
 fb:=fun f hk=>by obtain ⟨a,ha⟩:=b0V hk; exact h.fb.mem _ (a09 ha)
 u8:=fun T hk=>by obtain ⟨a,ha⟩:=b0V hk; exact h.u8.mem _ (a09 ha)
 u8g:=fun E g hk=>d1B h.u8g hk
def d0G (P:Program)(k:Nat)(e:TypeId)(c:Nat)(xs ys:Array Value)(l:List Nat)(r:Bool):Prop:=∀ d w,(Op.eqItems (d+k) e c xs ys l).run P w=.ok r w
omit [∀ E,Rp (I E)] in
theorem c9n {P:Program}{k:Nat}{e:TypeId}{c:Nat}{xs ys:Array Value}:d0G P k e c xs ys [] true:=fun d w=>by simp [Op.eqItems]
omit [∀ E,Rp (I E)] in
theorem b4B {P:Program}{k:Nat}{e:TypeId}{c i:Nat}{xs ys:Array Value}{is:List Nat}{a b:Value}{r1 r2:Bool}(ha:∀ w,(part e xs (i*c)).run P w=.ok a w)(hb:∀ w,(part e ys (i*c)).run P w=.ok b w)
 (h1:Sx.EqAt P k e a b r1) (h2:d0G P k e c xs ys is r2):d0G P k e c xs ys (i::is) (r1&&r2):=fun d w=>by
 simp only [Op.eqItems,Sem.run_bind,ha,hb,Result.andThen_ok,h1 d w]
 cases r1
 ·simp
 ·simpa using h2 d w
omit [∀ E,Rp (I E)] in
theorem c8Q {P:Program}{k m b K:Nat}{T e:TypeId}{z:Value}{xs ys:Array Value}{r:Bool}(hu:P.underlying T=some (.array m e))(hi:Y9 P e z k b)(h:d0G P K e k xs ys (d9L m) r):Sx.EqAt P (K+1) T (.agg xs) (.agg ys) r:=fun d w=>by
 obtain ⟨i,h1,h2,h3,h4⟩:=hi
 have:=run_equalIn_array (P:=P) (w:=w) (d+K) xs ys hu h1
 rw [<- d9j,this]
 have hc:P.cellsOf e=k:=by simp [Program.cellsOf,h1,h3]
 rw [hc]
 exact h d w
def c0c (fe:List (FE I))(T:TypeId)(g:I T->I T->Bool):List (PV I)->List (PV I)->Option Bool:=fun ls ms =>
 match ls,ms with
 | [.dat E x],[.dat E' y]=>(a9a T E x).bind fun x=>(a9a T E' y).bind fun y=>some (g x y)
 | [.dat E x],ms=>(a9a T E x).bind fun x=>(ofT fe T ms).bind fun y=>some (g x y)
 | ls,[.dat E' y]=>(ofT fe T ls).bind fun x=>(a9a T E' y).bind fun y=>some (g x y)
 | ls,ms=>(ofT fe T ls).bind fun x=>(ofT fe T ms).bind fun y=>some (g x y)
theorem c3U {X:Cxt}{c:Cx}{σ:S}{T E:TypeId}{x:I E}{y:I T}{cs:List Value}(h:a9a T E x=some y)(hl:RG X c σ [.dat E x] cs):Rp.cells σ y cs:=by
 obtain ⟨e,rfl⟩:=b2w h
 subst e
 simp only [RG] at hl
 obtain ⟨a,r,e,h1 | ⟨h0,_⟩,h2⟩:=hl
 ·subst h2
  rw [e,d82]
  exact h1
 ·cases h0
theorem d0c {fe:List (FE I)}{T:TypeId}{g:I T->I T->Bool}{X:Cxt}{c:Cx}{σ:S}{ls ms:List (PV I)}{r:Bool}{cs ds:List Value}(h:c0c fe T g ls ms=some r)(hl:RG X c σ ls cs)(hm:RG X c σ ms ds) :
 ∃ x y,Rp.cells σ x cs/\Rp.cells σ y ds/\g x y=r:=by
 unfold c0c at h
 split at h
 ·obtain ⟨x,hx,h⟩:=bind_some h
  obtain ⟨y,hy,h⟩:=bind_some h
  exact ⟨x,y,c3U hx hl,c3U hy hm,d8Y.inj h⟩
 ·obtain ⟨x,hx,h⟩:=bind_some h
  obtain ⟨y,hy,h⟩:=bind_some h
  exact ⟨x,y,c3U hx hl,c0f hy hm,d8Y.inj h⟩
 ·obtain ⟨x,hx,h⟩:=bind_some h
  obtain ⟨y,hy,h⟩:=bind_some h
  exact ⟨x,y,c0f hx hl,c3U hy hm,d8Y.inj h⟩
 ·obtain ⟨x,hx,h⟩:=bind_some h
  obtain ⟨y,hy,h⟩:=bind_some h
  exact ⟨x,y,c0f hx hl,c0f hy hm,d8Y.inj h⟩
omit [∀ E,Rp (I E)] in
theorem a0h [∀ E,Rp (I E)] {P:Program}{r:Row I}(h:r.run=b7j r.ps fun _=>none):Z3 P r:=by
 intro σ a vs pls res hA hnd happ
 rw [h] at happ
 have:∀ (ps:List Pk) (R:Type) (a:a2f I ps),b3e ps (b7j ps fun _=>(none:Option R)) a=none:=by
  intro ps R a
  induction ps with
  | nil=>rfl
  | cons p r ih=>exact ih a.2
 rw [this] at happ
 cases happ
def b1d (f:Func):Code:=match f.body with
 | some c=>c
 | none=>.skip
inductive BE where
 | slot (t:Nat)
 | fld (T:TypeId) (f:Nat) (e:BE)
 | ld (T:TypeId) (e:BE)
 | len (e:BE)
 | cst (n:Int)
def bev (tb:Tab I)(s:St I):BE->Option (PV I)
 | .slot t=>s.F t
 | .fld T f e=>(bev tb s e).bind fun p=>(tb.off T f).bind fun d=>match p with
   | .ptr l o=>some (.ptr l (o+d))
   | .ep E x o=>some (.ep E x (o+d))
   | _=>none
 | .ld T e=>(bev tb s e).bind fun p=>match p with
   | .ptr l o=>match s.O l with
     | some (some (.var _ ls _))=>a6E tb T ls o
     | _=>none
   | .ep E x o=>a6E tb T [.dat E x] o
   | _=>none
 | .len e=>(bev tb s e).bind fun p=>match p with
   | .sl _ xs _=>some (.int .i64 (xs.length:Int))
   | .nl _=>some (.int .i64 0)
   | .str t=>some (.int .i64 (t.size:Int))
   | .vw l=>match s.O l with
     | some (some (.row _ xs _))=>some (.int .i64 (xs.length:Int))
     | some (some (.ro _ xs))=>some (.int .i64 (xs.length:Int))
     | some (some (.bo _ xs))=>some (.int .i64 (xs.length:Int))
     | _=>none
   | .vs l _ lo=>match s.O l with
     | some (some (.row _ xs _))=>some (.int .i64 ((xs.drop lo).length:Int))
     | _=>none
   | _=>none
 | .cst n=>some (.int .i64 n)
def bnd (tb:Tab I)(e:BE)(k:Nat)(s:St I):Option Nat:=match bev tb s e with
 | some (.int _ n)=>some (n.toNat+k)
 | _=>none
end
end Go.Qx
end
section
open List renaming length_pos_iff->e0d,mem_cons->d8A
namespace Go.Sx
open Go Go.RowKit
structure Key where
 Kind:Int
 Text:ByteArray
mutual
inductive Val where
 | mk (Kind:Int) (Int_:Int) (Text:ByteArray) (Kids:List Val) (Keys:List Key) (Entries:List Ent) (Labels:List ByteArray)
inductive Ent where
 | mk (Args:List Val) (Fails:Bool) (Result:Val)
end
namespace Val
def Kind:Val->Int | mk a _ _ _ _ _ _=>a
def Int_:Val->Int | mk _ a _ _ _ _ _=>a
def Text:Val->ByteArray | mk _ _ a _ _ _ _=>a
def Kids:Val->List Val | mk _ _ _ a _ _ _=>a
def Keys:Val->List Key | mk _ _ _ _ a _ _=>a
def Entries:Val->List Ent | mk _ _ _ _ _ a _=>a
def Labels:Val->List ByteArray | mk _ _ _ _ _ _ a=>a
end Val
namespace Ent
def Args:Ent->List Val | mk a _ _=>a
def Fails:Ent->Bool | mk _ a _=>a
def Result:Ent->Val | mk _ _ a=>a
end Ent
instance rpKey:Rp Key where
 sz:=2
 pos:=by decide
 agg:=true
 cells:=fun _ k cs=>cs=[.int .i64 k.Kind,.string k.Text]
 len:=fun h=>by rw [h]; rfl
 one:=fun h v hv=>by rw [h] at hv; simp at hv; rcases hv with rfl | rfl<;>rfl
 mono:=fun _ h=>h
def SlC (σ:S)(len:Nat)(A:Option Addr)(c:Nat)(cs:List Value):Prop:=len<=c/\c<=maxLen/\(0<len->∃ b o,A=some ⟨b,o,none⟩/\a3y σ b o cs)
mutual
def RV (σ:S):Val->List Value->Prop
 | .mk k n t kids keys ents labs,cs=>∃ A1 c1 A2 c2 A3 c3 A4 c4 f1 f3,
    cs=[.int .i64 k,.int .i64 n,.string t,.slice A1 kids.length c1,.slice A2 keys.length c2,.slice A3 ents.length c3,.slice A4 labs.length c4] /\
    SlC σ kids.length A1 c1 f1/\RVs σ kids f1/\Sl σ keys A2 c2/\SlC σ ents.length A3 c3 f3/\REs σ ents f3/\Sl σ labs A4 c4
def RVs (σ:S):List Val->List Value->Prop
 | [],cs=>cs=[]
 | x::xs,cs=>∃ c r,cs=c++r/\RV σ x c/\RVs σ xs r
def RE (σ:S):Ent->List Value->Prop
 | .mk args fails res,cs=>∃ A c f r,cs=.slice A args.length c::.bool fails::r/\SlC σ args.length A c f/\RVs σ args f/\RV σ res r
def REs (σ:S):List Ent->List Value->Prop
 | [],cs=>cs=[]
 | x::xs,cs=>∃ c r,cs=c++r/\RE σ x c/\REs σ xs r
end
theorem RV.len {σ:S}:∀ {v:Val} {cs:List Value},RV σ v cs->cs.length=7
 | .mk ..,cs,h=>by simp only [RV] at h; obtain ⟨_,_,_,_,_,_,_,_,_,_,rfl,_⟩:=h; rfl
theorem RV.one {σ:S}:∀ {v:Val} {cs:List Value},RV σ v cs->∀ u∈cs,u.oneCell'=true
 | .mk ..,cs,h=>by
   simp only [RV] at h
   obtain ⟨_,_,_,_,_,_,_,_,_,_,rfl,_⟩:=h
   intro u hu
   simp at hu
   rcases hu with rfl | rfl | rfl | rfl | rfl | rfl | rfl<;>rfl
theorem RE.len {σ:S}:∀ {v:Ent} {cs:List Value},RE σ v cs->cs.length=9
 | .mk ..,cs,h=>by simp only [RE] at h; obtain ⟨_,_,_,r,rfl,_,_,h4⟩:=h; simp [h4.len]
theorem RE.one {σ:S}:∀ {v:Ent} {cs:List Value},RE σ v cs->∀ u∈cs,u.oneCell'=true
 | .mk ..,cs,h=>by
   simp only [RE] at h
   obtain ⟨_,_,_,r,rfl,_,_,h4⟩:=h
   intro u hu
   simp only [d8A] at hu
   rcases hu with rfl | rfl | hu
   ·rfl
   ·rfl
   ·exact h4.one u hu
theorem SlC.mono {σ τ:S}{len:Nat}{A:Option Addr}{c:Nat}{cs:List Value}(h:SlC σ len A c cs)(k:Wext σ τ)(hn:0<len->cs≠[]):SlC τ len A c cs :=
 ⟨h.1,h.2.1,fun hl=>by obtain ⟨b,o,e,hs⟩:=h.2.2 hl; exact ⟨b,o,e,hs.mono (hn hl) k⟩⟩
theorem RVs.ne {σ:S}:∀ {xs:List Val} {cs:List Value},RVs σ xs cs->0<xs.length->cs≠[]
 | [],_,_,h=>by simp at h
 | x::xs,cs,h,_=>by
   simp only [RVs] at h
   obtain ⟨c,r,rfl,h1,_⟩:=h
   intro e
   have:=h1.len
   rw [List.append_eq_nil_iff] at e
   rw [e.1] at this
   simp at this
theorem REs.ne {σ:S}:∀ {xs:List Ent} {cs:List Value},REs σ xs cs->0<xs.length->cs≠[]
 | [],_,_,h=>by simp at h
 | x::xs,cs,h,_=>by
   simp only [REs] at h
   obtain ⟨c,r,rfl,h1,_⟩:=h
   intro e
   have:=h1.len
   rw [List.append_eq_nil_iff] at e
   rw [e.1] at this
   simp at this
mutual
theorem RV.mono {σ τ:S}(k:Wext σ τ):∀ {v:Val} {cs:List Value},RV σ v cs->RV τ v cs
 | .mk ..,cs,h=>by
   simp only [RV] at h ⊢
   obtain ⟨A1,c1,A2,c2,A3,c3,A4,c4,f1,f3,e,h1,h2,h3,h4,h5,h6⟩:=h
   exact ⟨A1,c1,A2,c2,A3,c3,A4,c4,f1,f3,e,h1.mono k h2.ne,RVs.mono k h2,h3.mono k,h4.mono k h5.ne,REs.mono k h5,h6.mono k⟩
theorem RVs.mono {σ τ:S}(k:Wext σ τ):∀ {v:List Val} {cs:List Value},RVs σ v cs->RVs τ v cs
 | [],cs,h=>by simp only [RVs] at h ⊢; exact h
 | x::xs,cs,h=>by
   simp only [RVs] at h ⊢
   obtain ⟨c,r,e,h1,h2⟩:=h
   exact ⟨c,r,e,RV.mono k h1,RVs.mono k h2⟩
theorem RE.mono {σ τ:S}(k:Wext σ τ):∀ {v:Ent} {cs:List Value},RE σ v cs->RE τ v cs
 | .mk ..,cs,h=>by
   simp only [RE] at h ⊢
   obtain ⟨A,c,f,r,e,h1,h2,h3⟩:=h
   exact ⟨A,c,f,r,e,h1.mono k h2.ne,RVs.mono k h2,RV.mono k h3⟩
theorem REs.mono {σ τ:S}(k:Wext σ τ):∀ {v:List Ent} {cs:List Value},REs σ v cs->REs τ v cs
 | [],cs,h=>by simp only [REs] at h ⊢; exact h
 | x::xs,cs,h=>by
   simp only [REs] at h ⊢
   obtain ⟨c,r,e,h1,h2⟩:=h
   exact ⟨c,r,e,RE.mono k h1,REs.mono k h2⟩
end
instance rpVal:Rp Val where
 sz:=7
 pos:=by decide
 agg:=true
 cells:=fun σ v cs=>RV σ v cs
 len:=RV.len
 one:=RV.one
 mono:=fun k h=>RV.mono k h
instance rpEnt:Rp Ent where
 sz:=9
 pos:=by decide
 agg:=true
 cells:=fun σ v cs=>RE σ v cs
 len:=RE.len
 one:=RE.one
 mono:=fun k h=>RE.mono k h
theorem RVs.flat {σ:S}:∀ {xs:List Val} {cs:List Value},RVs σ xs cs↔J6 σ xs cs
 | [],cs=>by simp only [RVs,J6]
 | x::xs,cs=>by
   simp only [RVs,J6]
   constructor
   ·rintro ⟨c,r,e,h1,h2⟩; exact ⟨c,r,e,h1,RVs.flat.1 h2⟩
   ·rintro ⟨c,r,e,h1,h2⟩; exact ⟨c,r,e,h1,RVs.flat.2 h2⟩
theorem REs.flat {σ:S}:∀ {xs:List Ent} {cs:List Value},REs σ xs cs↔J6 σ xs cs
 | [],cs=>by simp only [REs,J6]
 | x::xs,cs=>by
   simp only [REs,J6]
   constructor
   ·rintro ⟨c,r,e,h1,h2⟩; exact ⟨c,r,e,h1,REs.flat.1 h2⟩
   ·rintro ⟨c,r,e,h1,h2⟩; exact ⟨c,r,e,h1,REs.flat.2 h2⟩
theorem SlC.sl {α:Type} [Rp α] {σ:S}{xs:List α}{A:Option Addr}{c:Nat}{cs:List Value}(h:SlC σ xs.length A c cs)(hf:J6 σ xs cs):Sl σ xs A c :=
 ⟨h.1,h.2.1,cs,hf,fun hn=>h.2.2 (e0d.2 hn)⟩
theorem SlC.of {α:Type} [Rp α] {σ:S}{xs:List α}{A:Option Addr}{c:Nat}(h:Sl σ xs A c):∃ cs,SlC σ xs.length A c cs/\J6 σ xs cs:=by
 obtain ⟨h1,h2,cs,h3,h4⟩:=h
 exact ⟨cs,⟨h1,h2,fun hl=>h4 (e0d.1 hl)⟩,h3⟩
theorem Val.cells_iff {σ:S}{v:Val}{cs:List Value}:Rp.cells σ v cs↔∃ A1 c1 A2 c2 A3 c3 A4 c4,
 cs=[.int .i64 v.Kind,.int .i64 v.Int_,.string v.Text,.slice A1 v.Kids.length c1,.slice A2 v.Keys.length c2,.slice A3 v.Entries.length c3,.slice A4 v.Labels.length c4] /\
 Sl σ v.Kids A1 c1/\Sl σ v.Keys A2 c2/\Sl σ v.Entries A3 c3/\Sl σ v.Labels A4 c4:=by
 cases v with
 | mk k n t kids keys ents labs =>
   show RV σ _ cs↔_
   simp only [RV,Val.Kind,Val.Int_,Val.Text,Val.Kids,Val.Keys,Val.Entries,Val.Labels]
   constructor
   ·rintro ⟨A1,c1,A2,c2,A3,c3,A4,c4,f1,f3,e,h1,h2,h3,h4,h5,h6⟩
    exact ⟨A1,c1,A2,c2,A3,c3,A4,c4,e,h1.sl (RVs.flat.1 h2),h3,h4.sl (REs.flat.1 h5),h6⟩
   ·rintro ⟨A1,c1,A2,c2,A3,c3,A4,c4,e,h1,h3,h4,h6⟩
    obtain ⟨f1,k1,k2⟩:=SlC.of h1
    obtain ⟨f3,k4,k5⟩:=SlC.of h4
    exact ⟨A1,c1,A2,c2,A3,c3,A4,c4,f1,f3,e,k1,RVs.flat.2 k2,h3,k4,REs.flat.2 k5,h6⟩
theorem Ent.cells_iff {σ:S}{v:Ent}{cs:List Value}:Rp.cells σ v cs↔∃ A c A1 c1 A2 c2 A3 c3 A4 c4,
 cs=[.slice A v.Args.length c,.bool v.Fails,.int .i64 v.Result.Kind,.int .i64 v.Result.Int_,.string v.Result.Text,.slice A1 v.Result.Kids.length c1,.slice A2 v.Result.Keys.length c2,.slice A3 v.Result.Entries.length c3,.slice A4 v.Result.Labels.length c4] /\
 Sl σ v.Args A c/\Sl σ v.Result.Kids A1 c1/\Sl σ v.Result.Keys A2 c2/\Sl σ v.Result.Entries A3 c3/\Sl σ v.Result.Labels A4 c4:=by
 cases v with
 | mk args fails res =>
   show RE σ _ cs↔_
   simp only [RE,Ent.Args,Ent.Fails,Ent.Result]
   constructor
   ·rintro ⟨A,c,f,r,rfl,h1,h2,h3⟩
    obtain ⟨A1,c1,A2,c2,A3,c3,A4,c4,rfl,k1,k2,k3,k4⟩:=Val.cells_iff.1 h3
    exact ⟨A,c,A1,c1,A2,c2,A3,c3,A4,c4,rfl,h1.sl (RVs.flat.1 h2),k1,k2,k3,k4⟩
   ·rintro ⟨A,c,A1,c1,A2,c2,A3,c3,A4,c4,rfl,h1,k1,k2,k3,k4⟩
    obtain ⟨f,j1,j2⟩:=SlC.of h1
    exact ⟨A,c,f,_,rfl,j1,RVs.flat.2 j2,Val.cells_iff.2 ⟨A1,c1,A2,c2,A3,c3,A4,c4,rfl,k1,k2,k3,k4⟩⟩
theorem Key.cells_iff {σ:S}{v:Key}{cs:List Value}:Rp.cells σ v cs↔cs=[.int .i64 v.Kind,.string v.Text]:=Iff.rfl
end Go.Sx
end
section
namespace Go.Qx
open Go Go.RowKit Go.Sx
end Go.Qx
namespace Go.Sx
open Go Go.RowKit Go.Qx
abbrev Key.to (v:Key):Int×ByteArray:=(v.Kind,v.Text)
abbrev Key.of (x:Int×ByteArray):Key:=⟨x.1,x.2⟩
theorem Key.cells_to (σ:S)(v:Key)(cs:List Value):rpKey.cells σ v cs↔(Y2 (rpK .i64) rpStr).cells σ v.to cs:=by
 constructor
 ·intro h
  have h:cs=[.int .i64 v.Kind,.string v.Text]:=h
  exact ⟨[_],[_],h,rfl,rfl⟩
 ·rintro ⟨c1,c2,e,rfl,rfl⟩
  exact e
abbrev Val.to (v:Val):Int×(Int×(ByteArray×(List Val×(List Key×(List Ent×List ByteArray))))):=(v.Kind,v.Int_,v.Text,v.Kids,v.Keys,v.Entries,v.Labels)
abbrev Val.of (x:Int×(Int×(ByteArray×(List Val×(List Key×(List Ent×List ByteArray)))))):Val:=.mk x.1 x.2.1 x.2.2.1 x.2.2.2.1 x.2.2.2.2.1 x.2.2.2.2.2.1 x.2.2.2.2.2.2
theorem Val.cells_to (σ:S)(v:Val)(cs:List Value):rpVal.cells σ v cs ↔
 (Y2 (rpK .i64) (Y2 (rpK .i64) (Y2 rpStr (Y2 (@rpList _ rpVal) (Y2 (@rpList _ rpKey) (Y2 (@rpList _ rpEnt) (@rpList _ rpStr))))))).cells σ v.to cs:=by
 refine Val.cells_iff.trans ?_
 constructor
 ·rintro ⟨A1,c1,A2,c2,A3,c3,A4,c4,e,h1,h2,h3,h4⟩
  exact ⟨[_],_,e,rfl,[_],_,rfl,rfl,[_],_,rfl,rfl,[_],_,rfl,⟨A1,c1,rfl,h1⟩,[_],_,rfl,⟨A2,c2,rfl,h2⟩,[_],_,rfl,⟨A3,c3,rfl,h3⟩,A4,c4,rfl,h4⟩
 ·rintro ⟨_,_,rfl,rfl,_,_,rfl,rfl,_,_,rfl,rfl,_,_,rfl,⟨A1,c1,rfl,h1⟩,_,_,rfl,⟨A2,c2,rfl,h2⟩,_,_,rfl,⟨A3,c3,rfl,h3⟩,A4,c4,rfl,h4⟩
  exact ⟨A1,c1,A2,c2,A3,c3,A4,c4,rfl,h1,h2,h3,h4⟩
abbrev Ent.to (v:Ent):List Val×(Bool×Val):=(v.Args,v.Fails,v.Result)
abbrev Ent.of (x:List Val×(Bool×Val)):Ent:=.mk x.1 x.2.1 x.2.2
theorem Ent.cells_to (σ:S)(v:Ent)(cs:List Value):rpEnt.cells σ v cs↔(Y2 (@rpList _ rpVal) (Y2 rpBool rpVal)).cells σ v.to cs:=by
 cases v with
 | mk args fails res =>
   constructor
   ·intro h
    have h:RE σ (.mk args fails res) cs:=h
    simp only [RE] at h
    obtain ⟨A,c,f,r,rfl,h1,h2,h3⟩:=h
    exact ⟨[_],_,rfl,⟨A,c,rfl,h1.sl (RVs.flat.1 h2)⟩,[_],_,rfl,rfl,h3⟩
   ·rintro ⟨_,_,rfl,⟨A,c,rfl,h1⟩,_,r,rfl,rfl,h2⟩
    show RE σ (.mk args fails res) _
    simp only [RE]
    obtain ⟨f,j1,j2⟩:=SlC.of h1
    exact ⟨A,c,f,r,rfl,j1,RVs.flat.2 j2,h2⟩
end Go.Sx
end
section
open Nat renaming beq->d8u,eq_of_beq_eq_true->d8s
open Option renaming some->d8Y
namespace Go.Qx
open Go Go.RowKit Go.Sx
section
variable {I:TypeId->Type} [∀ E,Rp (I E)] {P:Program}
def c9o (a b:ByteArray):Option Int:=some (c0q a b)
theorem d6B {f : FuncId} {fn : Func} (hf : P.funcs[f]? = some fn) (hname : (fn.name == "runtime.NumGoroutine") = false) (hb : fn.body.isNone = true) (hn : Extern.findNext fn = none) (he : Extern.find fn = some Extern.BytealgCompare.compare) :
 Z3 P (⟨f,[.d .str,.d .str],[.k (.d (.int .i64))],c9o⟩:Row I):=by
 intro σ a vs pls res hA _ happ
 obtain ⟨v,_,p1,_,rfl,rfl,⟨h1,rfl⟩,v2,_,p2,_,rfl,rfl,⟨h2,rfl⟩,rfl,rfl⟩:=hA
 have h1:v=.string a.1:=h1
 have h2:v2=.string a.2.1:=h2
 have hr:c9o a.1 a.2.1=some res:=happ
 subst h1
 subst h2
 cases hr
 refine .inr ⟨_,σ,d72 hf hname hb hn he a.1 a.2.1 σ.w,Stp.refl _ σ,[.int .i64 (c0q a.1 a.2.1)],[],[],⟨rfl,rfl,⟨_,rfl,rfl,rfl⟩,rfl,by simp [ows],fun g hg=>by simp [ows] at hg⟩⟩
def V7 {α:Type}(b:Nat)(xs:List α):Option (List α):=(k9 (0+xs.length) b).bind fun _=>some xs
def noH:Hints I:=⟨fun _=>[],fun _=>[],fun _=>[],fun _=>none,fun _=>none,fun _=>none,fun _=>none,fun _=>0⟩
def noD:a0f I:=fun _ _ _ _ _ _=>none
theorem d6F:DispOk P (noD:a0f I):=⟨fun _ _ _ _ _ _=>rfl,fun _ _ _ _ _ h=>by cases h⟩
def c8i (E:TypeId)(xs:List (I E)):St I:=⟨8,fun i=>bif d8u i 0 then some (.sl E xs false) else none,fun _=>none,0⟩
theorem b3J {tb:Tab I}(ht:TabOk P tb)(hmx:P.follows .mixedOrders=true){f:FuncId}{fn:Func}{T E:TypeId}{b:Nat}{i0 i1 i2:Nat}{p0 p1 p2 p3:String}{a2:Array Edge}{t0 t1 t2 t3 t4:TypeId}{cd3:Code}
 (hf : P.funcs[f]? = some fn) (hname : (fn.name == "runtime.NumGoroutine") = false) (hn : fn.ntmps = 8) (hres : fn.results.toList = [.tmp 2]) (hT : P.underlying T = some (.slice E))
 (hb:fn.body=some (.seq (.region i0 #[⟨some 2,.assign (.const (.slice none 0 0)),t0,p0,#[],none⟩] false) (.seq (.seq (.region i1 #[⟨some 3,.move (.tmp 0),t1,p1,#[],none⟩,⟨some 4,.binOp .eql T (.tmp 3) (.const (.slice none 0 0)) t2,t3,p2,a2,none⟩] false)
   (.cond (.tmp 4) (.seq (.region i2 #[⟨some 2,.assign (.const (.slice none 0 0)),t4,p3,#[],none⟩] false) .ret) .skip)) cd3)))
 (hcode:a1m (noH:Hints I) cd3 1=true) (hex:∀ xs:List (I E),a21 tb noD noH cd3 1 (List (I E)) (c8i E xs) (fin tb [.d (.sl E)] [.k (.row E false)] [.tmp 2])=V7 b xs) (hlo:tb.lo=0:=by rfl) :
 Z3 P (⟨f,[.d (.sl E)],[.k (.row E false)],V7 b⟩:Row I):=by
 refine c7O ht 8 hf hb hname hn hres rfl (hlo:=hlo) fun X c σ F Q a res hX hrel happ hk=>?_
 subst hX
 have happ:V7 b a.1=some res:=happ
 have h0:=hrel.frame 0 (.sl E a.1 false) rfl
 simp only [RV] at h0
 obtain ⟨A,k,e0,hs,_⟩:=h0
 refine wp_seq (wp_region_lit ?_)
 refine a19 (.slice none 0 0) rfl rfl ?_
 refine wpList_nil (K8 (wp_seq (wp_seq (wp_region_lit ?_))))
 refine a0p (.slice A (a.1:List (I E)).length k) e0 rfl ?_
 refine a7t (.slice A (a.1:List (I E)).length k) (.slice none 0 0) (.bool A.isNone) rfl rfl rfl rfl (d7A hT) ?_
 refine wpList_nil (K8 ?_)
 have hgen:∀ (G:Fr),G 0=F 0->Rel X c σ (c8i E a.1) 8 G:=fun G hG =>
  ⟨rfl,(fun i p hp=>by
   have:(bif d8u i 0 then some (PV.sl E a.1 false) else none)=some p:=hp
   obtain ⟨hi,hp⟩:=j8 this
   cases hp
   have:=d8s hi
   subst this
   rw [hG]
   exact hrel.frame 0 _ rfl),(fun l o ho=>by cases ho),(fun _ _ _ _ _ ⟨_,h⟩=>by cases h),(fun _ _ _ ⟨_,h⟩=>by cases h),fun l _=>hrel.nom l rfl,hrel.base,noN.nests fun _ _ _ _ _ _ h=>by cases h⟩
 refine (Bool.eq_false_or_eq_true A.isNone).elim (fun hn4=>?_) (fun hn4=>?_)
 ·have e:a.1=[]:=hs.nil_of hn4
  have hr:res=[]:=by
   rw [e] at happ
   simp [V7,k9] at happ
   exact (d8Y.inj happ).symm
  refine b6r rfl hn4 rfl ?_
  refine wp_seq (wp_region_lit ?_)
  refine a19 (.slice none 0 0) rfl rfl ?_
  refine wpList_nil (K8 (wp_ret (d46 ?_)))
  subst hr
  refine hk .ret (Qx.put (c8i E a.1) (some 2) (.nl E)) c σ _ ?_ (Cx.le_refl c) ((hgen (J9 (J9 (J9 F (some 2) (.slice none 0 0)) (some 3) (.slice A (a.1:List (I E)).length k)) (some 4) (.bool A.isNone)) rfl).put (some 2) _ (.slice none 0 0) (by simp only [RV]; exact ⟨none,rfl⟩)) (Stp.refl _ σ)
  rfl
 ·refine a9K rfl hn4 rfl ?_
  refine wp_skip (K8 ?_)
  exact a1r ht d6F hmx cd3 1 hcode _ _ _ res X c σ _ Q rfl ((hex a.1).trans happ) (hgen _ rfl) fun e s' c' τ F' g1 g2 g3 g4 _=>hk e s' c' τ F' g1 g2 g3 g4
end
end Go.Qx
end
section
open Array renaming ext_getElem?->d92,getElem?_append_left->d9V,getElem?_eq_getElem->d9c,getElem?_eq_none->d9A,getElem?_modify->d9E,getElem?_toList->d8F,length_toList->d8R,ofFn->d9w
open Bool renaming and_eq_true->d8p
open List renaming all_eq_true->d8q,append_assoc->d8E,append_nil->d82,eq_nil_of_length_eq_zero->d8P,ext_getElem?->d9O,flatMap_cons->d9W,getElem?_append_left->d8H,getElem?_append_right->d8z,getElem?_cons_succ->d9p,getElem?_drop->d9e,getElem?_eq_getElem->d8n,getElem?_eq_none->d8U,getElem?_map->d9i,getElem?_take_of_lt->d8K,getElem?_toArray->d9s,getElem_mem->d8B,length_map->d8L,take_left->d9l,toArray->d84
open Nat renaming add_mul->d8W,le_of_not_lt->d9R,le_refl->d8r,mul_le_mul_right->d8J,mul_one->d9I,zero_add->d8Q,zero_le->d8w
open Option renaming bind_some->d8l,isSome_iff_exists->d9K,map_some->d85,some->d8Y
namespace Go.Qx
open Go Go.RowKit Go.Sx
section
variable {α:Type}
def ltB (g:α->α->Option Int)(x y:α):Bool:=match g x y with
 | some r=>decide (r<0)
 | none=>false
structure Swk (lt:α->α->Bool)(xs:List α):Prop where
 irr:∀ x∈xs,lt x x=false
 trans:∀ x∈xs,∀ y∈xs,∀ z∈xs,lt x y=true->lt y z=true->lt x z=true
 ntrans:∀ x∈xs,∀ y∈xs,∀ z∈xs,lt x y=false->lt y z=false->lt x z=false
structure OkCmp (xs:List α)(g:α->α->Option Int):Prop where
 len:xs.length<4611686018427387904
 dfd:∀ x∈xs,∀ y∈xs,∃ r,g x y=some r
 wk:Swk (ltB g) xs
def b1J (lt:α->α->Bool)(xs:List α):List α :=
 if h:0<xs.length then
  haveI:Inhabited (Fin xs.length):=⟨⟨0,h⟩⟩
  (Sort.pdq (fun i j:Fin xs.length=>lt xs[i] xs[j]) (d9w (n:=xs.length) id) 0 xs.length (Lib.bitLen xs.length) true true).toList.map fun i=>xs[i]
 else []
def d1P (xs:List α)(g:α->α->Option Int):Bool:=decide (xs.length<4611686018427387904)&&(xs.all (fun x=>xs.all fun y=>(g x y).isSome)&&(xs.all (fun x=>!ltB g x x) &&
 (xs.all (fun x=>xs.all fun y=>xs.all fun z=>!(ltB g x y&&ltB g y z)||ltB g x z)&&xs.all fun x=>xs.all fun y=>xs.all fun z=>(ltB g x y||ltB g y z)||!ltB g x z)))
theorem d1d {xs:List α}{g:α->α->Option Int}:d1P xs g=true↔OkCmp xs g:=by
 unfold d1P
 simp only [d8p,d8q,decide_eq_true_eq]
 constructor
 ·rintro ⟨h1,h2,h3,h4,h5⟩
  refine ⟨h1,fun x hx y hy=>d9K.1 (h2 x hx y hy),fun x hx=>by simpa using h3 x hx,fun x hx y hy z hz a b=>?_,fun x hx y hy z hz a b=>?_⟩
  ·have:=h4 x hx y hy z hz
   rw [a,b] at this
   simpa using this
  ·have:=h5 x hx y hy z hz
   rw [a,b] at this
   simpa using this
 ·rintro ⟨h1,h2,h3,h4,h5⟩
  refine ⟨h1,fun x hx y hy=>d9K.2 (h2 x hx y hy),fun x hx=>by rw [h3 x hx]; rfl,fun x hx y hy z hz=>?_,fun x hx y hy z hz=>?_⟩
  ·cases a:ltB g x y with
   | false=>rfl
   | true =>
     cases b:ltB g y z with
     | false=>rfl
     | true=>rw [h4 x hx y hy z hz a b]; rfl
  ·cases a:ltB g x y with
   | true=>rfl
   | false =>
     cases b:ltB g y z with
     | true=>rfl
     | false=>rw [h5 x hx y hy z hz a b]; rfl
instance (xs:List α) (g:α->α->Option Int):Decidable (OkCmp xs g):=decidable_of_iff _ d1d
noncomputable def d0A (xs:List α)(g:α->α->Option Int):Option (List α):=if OkCmp xs g then some (b1J (ltB g) xs) else none
variable {lt:α->α->Bool}{xs:List α}
structure Tot (lt:α->α->Bool)(xs:List α):Prop where
 irr:∀ x∈xs,lt x x=false
 trans:∀ x∈xs,∀ y∈xs,∀ z∈xs,lt x y=true->lt y z=true->lt x z=true
 tot:∀ x∈xs,∀ y∈xs,lt x y=false->lt y x=false->x=y
theorem Tot.sub {ys:List α}(h:Tot lt xs)(hs:∀ x∈ys,x∈xs):Tot lt ys :=
 ⟨fun x hx=>h.irr x (hs x hx),fun x hx y hy z hz=>h.trans x (hs x hx) y (hs y hy) z (hs z hz),fun x hx y hy=>h.tot x (hs x hx) y (hs y hy)⟩
theorem Tot.ntrans (h:Tot lt xs){x y z:α}(hx:x∈xs)(hy:y∈xs)(hz:z∈xs)(h1:lt x y=false)(h2:lt y z=false):lt x z=false:=by
 cases h3:lt x z with
 | false=>rfl
 | true =>
   exfalso
   cases h4:lt y x with
   | true=>rw [h.trans y hy x hx z hz h4 h3] at h2; cases h2
   | false =>
     have:=h.tot x hx y hy h1 h4
     subst this
     rw [h3] at h2; cases h2
abbrev Srt (lt:α->α->Bool)(l:List α):Prop:=l.Pairwise fun a b=>lt b a=false
theorem Tot.wk (h:Tot lt xs):Swk lt xs:=⟨h.irr,h.trans,fun _ hx _ hy _ hz h1 h2=>h.ntrans hx hy hz h1 h2⟩
theorem c9X {β:Type}(d:Array β){m:Nat}(h:d.size=m):d.extract 0 m=d:=by subst h; simp
theorem c9P (h:Swk lt xs):(b1J lt xs).Perm xs/\Srt lt (b1J lt xs):=by
 unfold b1J
 split
 ·rename_i hn
  letI:Inhabited (Fin xs.length):=⟨⟨0,hn⟩⟩
  have hswo:Sort.SWO (fun i j:Fin xs.length=>lt xs[i] xs[j]):=⟨fun i=>h.irr _ (d8B _),fun i j k=>h.trans _ (d8B _) _ (d8B _) _ (d8B _),fun i j k=>h.ntrans _ (d8B _) _ (d8B _) _ (d8B _)⟩
  have hh:=Sort.pdq_sorts (fun i j:Fin xs.length=>lt xs[i] xs[j]) hswo (d9w (n:=xs.length) id) 0 xs.length (Lib.bitLen xs.length) true true (d8w _) (by simp) (Or.inl rfl)
  generalize Sort.pdq (fun i j:Fin xs.length=>lt xs[i] xs[j]) (d9w (n:=xs.length) id) 0 xs.length (Lib.bitLen xs.length) true true=d' at hh ⊢
  obtain ⟨⟨h1,_,h2⟩,hs⟩:=hh
  have hsz:d'.size=xs.length:=by rw [h1]; simp
  have hp':d'.toList.Perm (List.ofFn (n:=xs.length) id):=by
   rw [c9X d' hsz,c9X (d9w (n:=xs.length) (id:Fin xs.length->Fin xs.length)) (by simp)] at h2
   simpa using h2
  have hxs:(List.ofFn (n:=xs.length) id).map (fun i:Fin xs.length=>xs[i])=xs:=by
   apply List.ext_getElem
   ·simp
   ·intro i h1 h2
    simp
  refine ⟨?_,?_⟩
  ·have:=hp'.map (fun i:Fin xs.length=>xs[i])
   rwa [hxs] at this
  ·rw [Srt,List.pairwise_iff_getElem]
   intro i j hi hj hij
   simp only [d8L,d8R] at hi hj
   have:=hs i j (d8w _) hij (by omega)
   rw [getElem!_pos d' j hj,getElem!_pos d' i hi] at this
   simp only [List.getElem_map,Array.getElem_toList]
   exact this
 ·rename_i hn
  have:xs=[]:=d8P (by omega)
  subst this
  exact ⟨List.Perm.refl _,List.Pairwise.nil⟩
theorem d2o (h:Swk lt xs):(b1J lt xs).length=xs.length:=(c9P h).1.length_eq
theorem d1j {g:α->α->Option Int}{ys:List α}(h:d0A xs g=some ys):OkCmp xs g/\ys=b1J (ltB g) xs:=by
 unfold d0A at h
 split at h
 ·rename_i hk; cases h; exact ⟨hk,rfl⟩
 ·cases h
end
section
variable {α:Type} [Rp α] {σ τ:S}
def c7Z (cs:List Value)(sz n:Nat)(i:Fin n):List Value:=(cs.drop (i.val*sz)).take sz
theorem b9R {xs:List α}{cs:List Value}(h:J6 σ xs cs)(i:Fin xs.length):Rp.cells σ xs[i] (c7Z cs (Rp.sz α) xs.length i):=by
 obtain ⟨c1,cj,c2,e1,e2,e3,_⟩:=c06 h (d8n i.isLt)
 have:c7Z cs (Rp.sz α) xs.length i=cj:=by
  unfold c7Z
  rw [e1,d8E,<- e2,List.drop_left,<- Rp.len e3,d9l]
 rw [this]; exact e3
theorem d0y {n:Nat}{enc:Fin n->List Value}{xs:Fin n->α}(h:∀ i,Rp.cells σ (xs i) (enc i)):∀ l:List (Fin n),J6 σ (l.map xs) (l.flatMap enc)
 | []=>rfl
 | i::l=>⟨_,_,rfl,h i,d0y h l⟩
theorem b45 {n k:Nat}{enc:Fin n->List Value}(hk:∀ i,(enc i).length=k)(hp:0<k):∀ (l:List (Fin n)) (t:Nat),t<l.length*k->(l.flatMap enc)[t]?=(l[t / k]?.bind fun i=>(enc i)[t%k]?)
 | [],t,h=>by simp at h
 | i::l,t,h=>by
   rw [d9W]
   by_cases hlt:t<k
   ·rw [d8H (by rw [hk]; exact hlt),Nat.div_eq_of_lt hlt,Nat.mod_eq_of_lt hlt]
    rfl
   ·have hle:=d9R hlt
    rw [d8z (by rw [hk]; exact hle),hk,b45 hk hp l (t-k) (by simp [d8W] at h; omega)]
    have e1:t / k=(t-k) / k+1:=Nat.div_eq_sub_div hp hle
    have e2:t%k=(t-k)%k:=Nat.mod_eq_sub_mod hle
    rw [e1,e2,d9p]
theorem c3y {n k:Nat} [Inhabited (Fin n)] {enc:Fin n->List Value}(hk:∀ i,(enc i).length=k)(hp:0<k)(d:Array (Fin n)):(Sort.flatK enc k d).toList=d.toList.flatMap enc:=by
 apply d9O
 intro t
 by_cases ht:t<d.size*k
 ·rw [b45 hk hp d.toList t (by simpa using ht)]
  have hq:t / k<d.size:=by rw [Nat.div_lt_iff_lt_mul hp]; exact ht
  have hm:t%k<k:=Nat.mod_lt _ hp
  have e1:(Sort.flatK enc k d)[t]! = (enc d[t / k]!)[t%k]! := Sort.get_flatK enc k d t ht
  rw [getElem!_pos (Sort.flatK enc k d) t (by simpa using ht)] at e1
  rw [d8F,d9c (by simpa using ht),e1,d8F,d9c hq,getElem!_pos d (t / k) hq]
  simp only [d8l]
  rw [d8n (by rw [hk]; exact hm),getElem!_pos _ _ (by rw [hk]; exact hm)]
 ·rw [d8U (by simp; omega),d8U (by
   have:(d.toList.flatMap enc).length=d.size*k:=by
    have:∀ l:List (Fin n),(l.flatMap enc).length=l.length*k:=by
     intro l
     induction l with
     | nil=>simp
     | cons i l ih=>simp [ih,hk,d8W,Nat.add_comm]
    simpa using this d.toList
   omega)]
def a4w (w:World)(g m:Nat)(F:Array Value)(os:Array Obj):World:=Sort.grow (Sort.putRow id (Sort.ahead w m) g 0 F) os
theorem c2s {w:World}{g m:Nat}{F:Array Value}{os:Array Obj}{b:Nat}(hb:b<w.heap.size)(hne:b≠g):(a4w w g m F os).heap[b]?=w.heap[b]?:=by
 simp only [a4w,Sort.grow,Sort.putRow,Sort.mapBlock,Sort.ahead]
 rw [d9V (by simpa using hb),d9E,if_neg (fun e=>hne e.symm)]
theorem d3f {w:World}{g m:Nat}{F:Array Value}{os:Array Obj}{cur:Array Value}{E:TypeId}(h:w.heap[g]?=some (.cells cur E (0,0)))(hF:F.size<=cur.size) :
 (a4w w g m F os).heap[g]?=some (.cells (F.toList++cur.toList.drop F.size).toArray E (0,0)):=by
 have hb:g<w.heap.size:=a0E h
 simp only [a4w,Sort.grow,Sort.putRow,Sort.mapBlock,Sort.ahead]
 rw [d9V (by simpa using hb),d9E,if_pos rfl,h]
 simp only [d85,Sort.onCells,d8Y.injEq,Obj.cells.injEq,and_self,and_true]
 apply d92
 intro i
 simp only [Sort.putCells,Array.getElem?_mapIdx,d9s,id]
 by_cases hi:i<F.size
 ·rw [d8H (by simpa using hi),d8F,d9c hi,d9c (by omega:i<cur.size)]
  simp only [d85,d8w,d8Q,hi,and_self,if_true,Nat.sub_zero]
  rw [getElem!_pos F i hi]
 ·rw [d8z (by simpa using d9R hi),d9e]
  rw [d8R,Nat.add_sub_cancel' (d9R hi),d8F]
  cases hc:cur[i]? with
  | none=>rfl
  | some v=>simp [hi]
def c0w (σ:S)(W:World):S:=⟨W,fun b=>if b<σ.N then σ.L b else (0,b)⟩
theorem d2K (w:World)(g m:Nat)(F:Array Value)(os:Array Obj):(a4w w g m F os).heap.size=w.heap.size+os.size:=by
 simp [a4w,Sort.grow,Sort.putRow,Sort.mapBlock,Sort.ahead]
theorem b2O {g m k:Nat}{E:TypeId}{xs:List α}{A:Option Addr}{F:Array Value}{os:Array Obj}(hown:a0a (some g) false E σ xs A k):Stp (fun b=>b=g) σ (c0w σ (a4w σ.w g m F os)):=by
 obtain ⟨cur,cs,rfl,hh,h1,h2,h3,h4,h5,h6⟩:=hown
 have hL:∀ b,b<σ.N->(c0w σ (a4w σ.w g m F os)).L b=σ.L b:=fun b hb=>by simp [c0w,hb]
 refine ⟨⟨?_,fun b hb=>by rw [hL b hb]; exact d8r _,fun b o v ho hc=>?_,?_,fun b o hb hf=>?_⟩,rfl,rfl,rfl,fun b hb hn=>⟨c2s hb hn,by rw [hL b hb]⟩⟩
 ·show σ.w.heap.size<=(a4w σ.w g m F os).heap.size
  rw [d2K]; omega
 ·have hlt:=a3Z hc
  by_cases e:b=g
  ·subst e
   rw [show (σ.L b).1=0 from h6] at ho
   omega
  ·exact (a1n (c2s hlt e) o).trans hc
 ·show σ.w.drawn<=(a4w σ.w g m F os).drawn
  simp [a4w,Sort.grow,Sort.putRow,Sort.mapBlock,Sort.ahead]
 ·by_cases e:b=g
  ·subst e
   have hb':∃ c',(a4w σ.w b m F os).heap[b]?=some (.cells c' E (0,0)):=⟨_,by
    simp only [a4w,Sort.grow,Sort.putRow,Sort.mapBlock,Sort.ahead]
    rw [d9V (by simpa using a0E hh),d9E,if_pos rfl,hh]
    rfl⟩
   obtain ⟨c',hb'⟩:=hb'
   exact a8J hb' o
  ·exact (a2l (c2s hb e) o).trans hf
theorem c2Z {g m k:Nat}{E:TypeId}{xs ys:List α}{A:Option Addr}{F:Array Value}{os:Array Obj}(hown:a0a (some g) false E σ xs A k)(hF:J6 σ ys F.toList)(hl:ys.length=xs.length) :
 a0a (some g) false E (c0w σ (a4w σ.w g m F os)) ys A k:=by
 have hst:=b2O (m:=m) (F:=F) (os:=os) hown
 obtain ⟨cur,cs,rfl,hh,h1,h2,h3,h4,h5,h6⟩:=hown
 have hFs:F.size=xs.length*Rp.sz α:=by rw [<- d8R,hF.len,hl]
 have hle:F.size<=cur.size:=by rw [hFs,h3]; exact d8J _ h1
 refine ⟨(F.toList++cur.toList.drop F.size).toArray,F.toList,rfl,d3f hh hle,by rw [hl]; exact h1,h2,?_,hF.mono hst.wext,?_,?_⟩
 ·simp; omega
 ·rw [hl,<- hFs,<- d8R]
  exact d9l
 ·show (if g<σ.N then σ.L g else (0,g)).1=_
  rw [if_pos (a0E hh)]
  exact h6
theorem d2V {τ υ:S}(h:Stp NoB τ υ):∃ q os,υ.w=Sort.grow (τ.w.drewN q) os:=by
 refine ⟨υ.w.drawn-τ.w.drawn,υ.w.heap.extract τ.w.heap.size υ.w.heap.size,?_⟩
 have hd:=h.wext.drawn
 have hs:τ.w.heap.size<=υ.w.heap.size:=h.wext.size
 have e1:=h.os
 have e2:=h.tape
 have e3:=h.output
 have hheap:υ.w.heap=τ.w.heap++υ.w.heap.extract τ.w.heap.size υ.w.heap.size:=by
  apply d92
  intro i
  by_cases hi:i<τ.w.heap.size
  ·rw [d9V hi]
   exact (h.block i hi (fun h=>h)).1
  ·rw [Array.getElem?_append_right (d9R hi),Array.getElem?_extract]
   have:τ.w.heap.size+(i-τ.w.heap.size)=i:=by omega
   rw [this]
   split
   ·rfl
   ·rw [d9A (by omega)]
 cases hu:υ.w with
 | mk heap tape drawn os output =>
   rw [hu] at hd hs e1 e2 e3 hheap
   simp only [Sort.grow,World.drewN]
   simp only at hd hheap e1 e2 e3
   rw [<- hheap,e1,e2,e3]
   congr 1
   omega
theorem c4e {β:Type} [Inhabited β] (enc:β->Value)(w:World)(g:Nat)(dk:Array β):Sort.putRow enc w g 0 dk=Sort.putRow id w g 0 (dk.map enc):=by
 unfold Sort.putRow
 congr 1
 funext c
 unfold Sort.putCells
 apply d92
 intro i
 simp only [Array.getElem?_mapIdx,Array.size_map]
 cases hc:c[i]? with
 | none=>rfl
 | some v =>
   simp only [d85,d8Y.injEq]
   split
   ·rename_i hi
    have hi':i-0<dk.size:=by omega
    rw [getElem!_pos dk (i-0) hi',id,getElem!_pos (dk.map enc) (i-0) (by simpa using hi'),Array.getElem_map]
   ·rfl
theorem d4S {P:Program}{g:FuncId}(h:a1F P g)(args:Array Value)(w:World):(callFunc g args).run P w=.ok (.enter g args) w:=by
 obtain ⟨fn,c,h1,h2,h3⟩:=h
 have h3' : fn.name ≠ "runtime.NumGoroutine" := by simpa using h3
 simp [callFunc,h1,h2,h3']
theorem d09 {P:Program}{g:FuncId}{vs:List Value}{τ:S}{E:S->Prop}{R:Value->S->Prop}(hb:a1F P g)(h:a0Z P g vs τ E R):Calls P g vs.toArray τ.w fun e w'=>∃ v υ,e=.returned v/\υ.w=w'/\E υ/\R v υ:=by
 rcases h with ⟨_,h⟩ | ⟨v,υ,h,_⟩
 ·exact h
 ·rw [d4S hb] at h; cases h
omit [Rp α] in
theorem d0q {n:Nat}{xs:Fin n->α}{l:List α}{gf:α->α->Option Int}(hl:∀ i,xs i∈l)(ht:Swk (ltB gf) l)(cf:Fin n->Fin n->Int)(hcf:∀ i j,gf (xs i) (xs j)=some (cf i j)):Sort.SWO (Go.Proofs.ltOf cf):=by
 have e:∀ i j,Go.Proofs.ltOf cf i j=ltB gf (xs i) (xs j):=fun i j=>by simp [Go.Proofs.ltOf,ltB,hcf i j]
 refine ⟨fun i=>?_,fun i j k h1 h2=>?_,fun i j k h1 h2=>?_⟩
 ·rw [e]; exact ht.irr _ (hl i)
 ·rw [e] at *; exact ht.trans _ (hl i) _ (hl j) _ (hl k) h1 h2
 ·rw [e] at *; exact ht.ntrans _ (hl i) _ (hl j) _ (hl k) h1 h2
omit [Rp α] in
theorem c6N {xs:List α}(hn:0<xs.length) [inst:Inhabited (Fin xs.length)] {gf:α->α->Option Int}{cf:Fin xs.length->Fin xs.length->Int}(hcf:∀ i j:Fin xs.length,gf xs[i.val] xs[j.val]=some (cf i j))(hi:inst=⟨⟨0,hn⟩⟩) :
 (Sort.pdq (Go.Proofs.ltOf cf) (d9w (n:=xs.length) id) 0 xs.length (Lib.bitLen xs.length) true true).toList.map (fun i:Fin xs.length=>xs[i])=b1J (ltB gf) xs:=by
 have e:Go.Proofs.ltOf cf=fun i j:Fin xs.length=>ltB gf xs[i] xs[j]:=by
  funext i j
  have:=hcf i j
  have e2:gf xs[i] xs[j]=some (cf i j):=this
  simp only [Go.Proofs.ltOf,ltB,e2]
 rw [e]
 unfold b1J
 rw [dif_pos hn]
 subst hi
 rfl
open Go.Proofs in
theorem d1u {P:Program}{ρ:Go.Shelf.Ren}(L:Go.Proofs.SlLaysF0.n6 P ρ){fs:Array Field}{E:TypeId}(hu:P.underlying (ρ.t 24)=some (.struct fs))(hz:(P.info? (ρ.t 24)).map (·.size)=some (Rp.sz α)){xs:List α}{A:Option Addr}{k:Nat}{ow:Option Nat}(hown:a0a ow false E σ xs A k)
 {g:FuncId} {cb:List Value} {gf:α->α->Option Int} (hok:OkCmp xs gf) (hbody:a1F P g)
 (hcmp:∀ τ,Stp (fun b=>σ.N<=b\/ow=some b) σ τ->∀ x y cx cy r,Rp.cells τ x cx->Rp.cells τ y cy->gf x y=some r->a0Z P g ([.agg cx.toArray,.agg cy.toArray]++cb) τ (Stp NoB τ) fun v _=>v=.int .i64 r) :
 a0Z P (ρ.f 6) [.slice A xs.length k,.func (.func g) #[] cb.toArray] σ (Stp (fun b=>ow=some b) σ) fun v τ=>v=.tuple #[]/\a0a ow false E τ (b1J (ltB gf) xs) A k:=by
 have hb6:a1F P (ρ.f 6):=by
  obtain ⟨nm,hn,hf⟩:=L.f6
  exact ⟨_,_,hf,rfl,hn⟩
 refine .inl ⟨hb6,?_⟩
 cases hx:xs with
 | nil =>
   subst hx
   refine (AnyF.slices_SortFunc_none L A k (.func (.func g) #[] cb.toArray) σ.w).mono fun e w' ⟨he,hw⟩=>?_
   exact ⟨_,σ,he,hw.symm,Stp.refl _ _,rfl,hown⟩
 | cons x0 r0 =>
   rw [<- hx]
   cases ow with
   | none =>
     rcases hown with ⟨e,_⟩ | ⟨e,_⟩
     ·rw [hx] at e; cases e
     ·cases e
   | some gb =>
     have hown0:=hown
     obtain ⟨cur,cs,rfl,hh,h1,h2,h3,h4,h5,h6⟩:=hown
     have hn:0<xs.length:=by rw [hx]; simp
     let n:=xs.length
     letI:Inhabited (Fin xs.length):=⟨⟨0,hn⟩⟩
     let enc:Fin xs.length->List Value:=c7Z cs (Rp.sz α) xs.length
     have hpos:=Rp.pos (α:=α)
     have hek:∀ i,(enc i).length=Rp.sz α:=fun i=>Rp.len (b9R h4 i)
     have he1:∀ i,∀ v∈enc i,v.oneCell'=true:=fun i v hv=>Rp.one (b9R h4 i) v hv
     let cf:Fin xs.length->Fin xs.length->Int:=fun i j=>(gf xs[i] xs[j]).getD 0
     have hcf:∀ i j:Fin xs.length,gf xs[i.val] xs[j.val]=some (cf i j):=fun i j=>by
      obtain ⟨r,hr⟩:=hok.dfd xs[i] (d8B _) xs[j] (d8B _)
      have hr':gf xs[i.val] xs[j.val]=some r:=hr
      show _=some ((gf xs[i.val] xs[j.val]).getD 0)
      rw [hr']; rfl
     have hflat:∀ {υ:S} (_:Wext σ υ) (dk:Array (Fin xs.length)),J6 υ (dk.toList.map fun i=>xs[i]) (Sort.flatK enc (Rp.sz α) dk).toList:=fun hw dk=>by
      rw [c3y hek hpos]
      exact (d0y (fun i=>b9R h4 i) dk.toList).mono hw
     have hcur:∀ j,j<xs.length*Rp.sz α->cur[j]?=cs[j]?:=fun j hj=>by
      rw [<- h5,d8K hj,d8F]
     have hd0:(Sort.flatK enc (Rp.sz α) (d9w (n:=xs.length) id)).toList=cs:=by
      have hA:=hflat (Wext.refl σ) (d9w (n:=xs.length) id)
      apply d9O
      intro t
      by_cases ht:t<xs.length*Rp.sz α
      ·rw [c3y hek hpos,b45 hek hpos _ t (by simpa using ht)]
       have hq:t / Rp.sz α<xs.length:=by rw [Nat.div_lt_iff_lt_mul hpos]; exact ht
       simp only [Array.toList_ofFn,List.getElem?_ofFn,hq,dite_true,d8l,id]
       simp only [enc,c7Z]
       rw [d8K (Nat.mod_lt _ hpos),d9e]
       congr 1
       exact Nat.div_add_mod' t (Rp.sz α)
      ·rw [d8U (by simp; omega),d8U (by rw [h4.len]; omega)]
     have hholds:Sort.HoldsK enc (Rp.sz α) σ.w gb 0 (d9w (n:=xs.length) id):=by
      intro j hj
      have hj':j<xs.length*Rp.sz α:=by simpa using hj
      have hjc:j<cs.length:=by rw [h4.len]; exact hj'
      refine ⟨?_,by simp [World.frozen?,hh]⟩
      have e1:σ.w.cell? ⟨gb,0+j,none⟩=cur[j]?:=by simp [World.cell?,hh]
      rw [e1,hcur j hj',getElem!_pos _ j (by simpa using hj'),d8n hjc]
      congr 1
      have:=congrArg (fun l:List Value=>l[j]?) hd0
      simp only [d8F] at this
      rw [d9c (by simpa using hj'),d8n hjc] at this
      exact (d8Y.inj this).symm
     have hlt:gb<σ.w.heap.size:=a0E hh
     have hcl:CmpLays P g cb.toArray enc (Rp.sz α) cf gb 0 (d9w (n:=xs.length) (id:Fin xs.length->Fin xs.length)).size σ.w:=by
      intro m os dk hdk i j
      have hst:=b2O (m:=m) (F:=Sort.flatK enc (Rp.sz α) dk) (os:=os) hown0
      have hc:=hcmp (c0w σ (a4w σ.w gb m (Sort.flatK enc (Rp.sz α) dk) os)) (hst.mono fun b _ e=>.inr (by rw [e])) xs[i] xs[j] (enc i) (enc j) (cf i j) (Rp.mono hst.wext (b9R h4 i)) (Rp.mono hst.wext (b9R h4 j)) (hcf i j)
      have hc':=d09 hbody hc
      have e:(#[Value.agg (enc i).toArray,Value.agg (enc j).toArray]++cb.toArray)=([Value.agg (enc i).toArray,Value.agg (enc j).toArray]++cb).toArray:=by simp
      rw [e]
      refine Calls.mono hc' fun e w' ⟨v,υ,h1,h2,h3,h4⟩=>?_
      obtain ⟨q,os',ho⟩:=d2V h3
      exact ⟨by rw [h1,h4],q,os',by rw [<- h2]; exact ho⟩
     have aE:∀ w,(isAgg (ρ.t 24)).run P w=.ok true w:=fun w=>by
      simp [isAgg,run_underlying hu]
     have main:=AnyQ.slices_SortFunc_eq L (Rp.sz α) aE (fun w=>Sx.run_sizeOf hz w) enc hek he1 cf (d0q (xs:=fun i:Fin xs.length=>xs[i]) (l:=xs) (fun i=>d8B _) hok.wk cf hcf) g cb.toArray gb 0 k (d9w (n:=xs.length) id) σ.w (d4S hbody) hcl hholds hlt (by simp only [Array.size_ofFn]; exact hok.len)
     have hs:(d9w (n:=xs.length) (id:Fin xs.length->Fin xs.length)).size=xs.length:=by simp
     rw [hs] at main
     have hsorted:=c6N hn hcf rfl
     have hswo:=d0q (xs:=fun i:Fin xs.length=>xs[i]) (l:=xs) (fun i=>d8B _) hok.wk cf hcf
     have hp:=(Sort.pdq_sorts (ltOf cf) hswo (d9w (n:=xs.length) id) 0 xs.length (Lib.bitLen xs.length) true true (d8w _) (by simp) (Or.inl rfl)).1
     generalize Sort.pdq (ltOf cf) (d9w (n:=xs.length) id) 0 xs.length (Lib.bitLen xs.length) true true=d' at main hsorted hp
     refine Calls.mono main fun e w' ⟨he,m,os,hw⟩=>?_
     have hst:=b2O (m:=m) (F:=Sort.flatK enc (Rp.sz α) d') (os:=os) hown0
     refine ⟨_,c0w σ (a4w σ.w gb m (Sort.flatK enc (Rp.sz α) d') os),he,hw.symm,hst.mono fun b _ e=>by rw [e],rfl,?_⟩
     rw [<- hsorted]
     exact c2Z hown0 (hflat (Wext.refl σ) d') (by simp; rw [hp.1]; simp)
end
section
variable {I:TypeId->Type} [∀ E,Rp (I E)] {P:Program}
noncomputable def b76 {α:Type}(xs:List α)(g:α->α->Option Int):Option (Unit×List α):=(d0A xs g).bind fun ys=>some ((),ys)
theorem d2n {σ τ:S}{E:TypeId}{ks:List Kd}{rs:List V}{v1 v2:Value}{gr:List Nat}{res:Unit}:Post (I:=I) σ τ [.row E false,.fn ks rs] [] [v1,v2] res gr (.tuple #[]) [] [] [] :=
 ⟨rfl,rfl,⟨rfl,rfl⟩,rfl,by simp [ows],fun g hg=>by simp [ows] at hg⟩
theorem c6t {ρ:Go.Shelf.Ren}(L:Go.Proofs.SlLaysF0.n6 P ρ){fs:Array Field}(f:FuncId)(hf:ρ.f 6=f){E:TypeId}(hE:ρ.t 24=E)(hu:P.underlying E=some (.struct fs))(hz:(P.info? E).map (·.size)=some (Rp.sz (I E))) :
 a75 P (⟨f,E,[.fn [.dat E,.dat E] [.k (.d (.int .i64))]],[],fun xs g=>b76 xs g⟩:Rio I):=by
 subst hf
 subst hE
 intro σ xs a vs pls res ys hA hnd happ
 obtain ⟨v1,vs1,p1,q1,e1,e2,⟨A,k,ow,e3,hown,e4⟩,v2,vs2,p2,q2,e5,e6,⟨g,av,cb,e7,⟨hbody,has,hfn⟩,e8⟩,e9,e10⟩:=hA
 obtain ⟨gf,u⟩:=a
 have happ:b76 xs gf=some (res,ys):=happ
 unfold b76 at happ
 obtain ⟨ys',hs,happ⟩:=bind_some happ
 cases happ
 obtain ⟨hok,hys⟩:=d1j hs
 have e9:vs2=[]:=e9
 have e10:q2=[]:=e10
 have e3:v1=.slice A xs.length k:=e3
 have e4:p1=[⟨A,k,xs.length,ow⟩]:=e4
 have e7:v2=.func (.func g) (d84 av) (d84 cb):=e7
 have e8:p2=[]:=e8
 subst e9; subst e10; subst has; subst e8; subst e6; subst e4; subst e5; subst e7; subst e3; subst e1
 rw [d82] at e2
 subst e2
 have hc:=d1u (σ:=σ) L hu hz hown hok hbody (cb:=cb) (fun τ hst x y cx cy r hx hy hr=>by
  have h1:=hfn τ (hst.mono fun b _ hb=>hb.imp id fun h=>by rw [h]; simp [ows]) (x,y,()) [.agg cx.toArray,.agg cy.toArray] r ⟨_,_,rfl,⟨cx,rfl,hx⟩,_,_,rfl,⟨cy,rfl,hy⟩,rfl⟩ hr
  exact a0Z.mono h1 rfl fun v υ hE ⟨ws,hv,ht⟩=>⟨υ,rfl,hE,by
   obtain ⟨w,hw,ht,_⟩:=ht
   rw [hv,hw]
   exact ht⟩)
 refine a0Z.mono hc rfl fun v τ hE ⟨hv,hO⟩=>⟨τ,rfl,hE.mono fun b _ hb=>by rw [hb]; simp [ows],[],[],[],by rw [hv]; exact d2n,A,k,ow,rfl,by rw [hys]; exact d2o hok.wk,by rw [hys]; exact hO,fun g _=>by simp [ows]⟩
def b7k {α:Type}(toS:α->ByteArray)(xs:List α):Option (Unit×List α):=bif decide (xs.length<4611686018427387904) then some ((),xs.mergeSort fun x y=>decide ((toS x).data.toList<=(toS y).data.toList)) else none
def c5G (xs:List ByteArray):Option (Unit×List ByteArray):=b7k (fun x=>x) xs
open Go.Proofs in
theorem d1K {ρ:Go.Shelf.Ren}(L:Go.Proofs.Lays.n190 P ρ)(f:FuncId)(hf:ρ.f 190=f){E:TypeId}(toS:I E->ByteArray)(hI:∀ {σ:S} {x:I E} {cs:List Value},Rp.cells σ x cs↔cs=[.string (toS x)])(hb:a1F P f) :
 a75 P (⟨f,E,[],[],fun xs=>b7k toS xs⟩:Rio I):=by
 subst hf
 intro σ xs a vs pls res ys hA hnd happ
 obtain ⟨v1,vs1,p1,q1,e1,e2,⟨A,k,ow,e3,hown,e4⟩,e9,e10⟩:=hA
 have happ:b7k toS xs=some (res,ys):=happ
 unfold b7k at happ
 obtain ⟨hlen,happ⟩:=j8 happ
 have hlen:xs.length<4611686018427387904:=by simpa using hlen
 have e9:vs1=[]:=e9
 have e10:q1=[]:=e10
 have e3:v1=.slice A xs.length k:=e3
 have e4:p1=[⟨A,k,xs.length,ow⟩]:=e4
 subst e9; subst e10; subst e4; subst e3; subst e1
 rw [d82] at e2
 subst e2
 cases happ
 have hpost:∀ {τ:S},Post (I:=I) σ τ [.row E false] [] [.slice A xs.length k] () (ows [(⟨A,k,xs.length,ow⟩:Pl)]) (.tuple #[]) [] [] []:=⟨rfl,rfl,⟨rfl,rfl⟩,rfl,by simp [ows],fun g hg=>by simp [ows] at hg⟩
 refine .inl ⟨hb,?_⟩
 have hown:a0a ow false E σ xs A k:=hown
 cases hx:xs with
 | nil =>
   subst hx
   refine (Any.slices_Sort_string_none L A k σ.w).mono fun e w' ⟨he,hw⟩=>?_
   exact ⟨_,σ,he,hw.symm,Stp.refl _ _,[],[],[],hpost,A,k,ow,rfl,by simp,by simpa using hown,fun g _=>by simp [ows]⟩
 | cons x0 r0 =>
   rw [<- hx]
   cases ow with
   | none =>
     rcases hown with ⟨e,_⟩ | ⟨e,_⟩
     ·rw [hx] at e; cases e
     ·cases e
   | some gb =>
     have hown0:=hown
     obtain ⟨cur,cs,rfl,hh,h1,h2,h3,h4,h5,h6⟩:=hown
     have hsz1:Rp.sz (I E)=1:=by
      have:=Rp.len (hI (σ:=σ) (x:=x0).2 rfl)
      simpa using this.symm
     have hcsU:∀ {l:List (I E)} {ds:List Value},J6 σ l ds->ds=l.map fun x=>Value.string (toS x):=by
      intro l
      induction l with
      | nil=>intro ds h; exact h
      | cons x l ih =>
        intro ds ⟨c,r,e,hc,hr⟩
        rw [e,hI.1 hc,ih hr]; rfl
     have hflat1:∀ {υ:S} (l:List (I E)),J6 υ l (l.map fun x=>Value.string (toS x)):=by
      intro υ l
      induction l with
      | nil=>rfl
      | cons x l ih=>exact ⟨[_],_,rfl,hI.2 rfl,ih⟩
     let toL:I E->List UInt8:=fun x=>(toS x).data.toList
     have henc:∀ x:I E,Go.Proofs.encStr (toL x)=Value.string (toS x):=fun x=>rfl
     have hholds:Sort.Holds Go.Proofs.encStr σ.w gb 0 (xs.map toL).toArray:=by
      intro j hj
      have hj':j<xs.length:=by simpa using hj
      refine ⟨?_,by simp [World.frozen?,hh]⟩
      have e1:σ.w.cell? ⟨gb,0+j,none⟩=cur[j]?:=by simp [World.cell?,hh]
      have e2:cur[j]?=cs[j]?:=by rw [<- h5,hsz1,d9I,d8K hj',d8F]
      rw [e1,e2,hcsU h4,d9i,d8n hj',getElem!_pos _ j (by simpa using hj')]
      simp [toL]
     have main:=Any.slices_Sort_string L gb 0 k (xs.map toL) σ.w hholds (a0E hh) (by simpa using hlen)
     rw [d8L] at main
     refine Calls.mono main fun e w' ⟨he,m,os,hw⟩=>?_
     have hmap:((xs.mergeSort fun x y=>decide (toL x<=toL y)).map toL)=(xs.map toL).mergeSort fun x y=>decide (x<=y):=List.map_mergeSort fun a _ b _=>rfl
     let ys:=xs.mergeSort fun x y=>decide (toL x<=toL y)
     have hput:∀ (w:World),Sort.putRow Go.Proofs.encStr w gb 0 ((xs.map toL).mergeSort fun x y=>decide (x<=y)).toArray=Sort.putRow id w gb 0 (ys.map fun x=>Value.string (toS x)).toArray:=fun w=>by
      rw [c4e,<- hmap]
      congr 1
      simp [ys,toL]
     have hst:=b2O (m:=m) (F:=(ys.map fun x=>Value.string (toS x)).toArray) (os:=os) hown0
     refine ⟨_,c0w σ (a4w σ.w gb m (ys.map fun x=>Value.string (toS x)).toArray os),he,?_,hst.mono fun b _ e=>by rw [e]; simp [ows],[],[],[],hpost,_,k,some gb,rfl,by simp,?_,fun g _=>by simp [ows]⟩
     ·rw [hw]
      show a4w σ.w gb m (ys.map fun x=>Value.string (toS x)).toArray os=_
      unfold a4w
      rw [hput]
     ·exact c2Z hown0 (hflat1 ys) (by simp [ys])
def b8i {α:Type}(toI:α->Int)(xs:List α):Option (Unit×List α):=bif decide (xs.length<4611686018427387904) then some ((),xs.mergeSort fun x y=>decide (toI x<=toI y)) else none
def d0t (xs:List Int):Option (Unit×List Int):=b8i (fun x=>x) xs
open Go.Proofs in
theorem d2u {ρ:Go.Shelf.Ren}(L:Go.Proofs.Lays.n189 P ρ)(f:FuncId)(hf:ρ.f 189=f){E:TypeId}(toI:I E->Int)(hI:∀ {σ:S} {x:I E} {cs:List Value},Rp.cells σ x cs↔cs=[.int .i64 (toI x)])(hb:a1F P f) :
 a75 P (⟨f,E,[],[],fun xs=>b8i toI xs⟩:Rio I):=by
 subst hf
 intro σ xs a vs pls res ys hA hnd happ
 obtain ⟨v1,vs1,p1,q1,e1,e2,⟨A,k,ow,e3,hown,e4⟩,e9,e10⟩:=hA
 have happ:b8i toI xs=some (res,ys):=happ
 unfold b8i at happ
 obtain ⟨hlen,happ⟩:=j8 happ
 have hlen:xs.length<4611686018427387904:=by simpa using hlen
 have e9:vs1=[]:=e9
 have e10:q1=[]:=e10
 have e3:v1=.slice A xs.length k:=e3
 have e4:p1=[⟨A,k,xs.length,ow⟩]:=e4
 subst e9; subst e10; subst e4; subst e3; subst e1
 rw [d82] at e2
 subst e2
 cases happ
 have hpost:∀ {τ:S},Post (I:=I) σ τ [.row E false] [] [.slice A xs.length k] () (ows [(⟨A,k,xs.length,ow⟩:Pl)]) (.tuple #[]) [] [] []:=⟨rfl,rfl,⟨rfl,rfl⟩,rfl,by simp [ows],fun g hg=>by simp [ows] at hg⟩
 refine .inl ⟨hb,?_⟩
 have hown:a0a ow false E σ xs A k:=hown
 cases hx:xs with
 | nil =>
   subst hx
   refine (Any.slices_Sort_int_none L A k σ.w).mono fun e w' ⟨he,hw⟩=>?_
   exact ⟨_,σ,he,hw.symm,Stp.refl _ _,[],[],[],hpost,A,k,ow,rfl,by simp,by simpa using hown,fun g _=>by simp [ows]⟩
 | cons x0 r0 =>
   rw [<- hx]
   cases ow with
   | none =>
     rcases hown with ⟨e,_⟩ | ⟨e,_⟩
     ·rw [hx] at e; cases e
     ·cases e
   | some gb =>
     have hown0:=hown
     obtain ⟨cur,cs,rfl,hh,h1,h2,h3,h4,h5,h6⟩:=hown
     have hsz1:Rp.sz (I E)=1:=by
      have:=Rp.len (hI (σ:=σ) (x:=x0).2 rfl)
      simpa using this.symm
     have hcsU:∀ {l:List (I E)} {ds:List Value},J6 σ l ds->ds=l.map fun x=>Value.int .i64 (toI x):=by
      intro l
      induction l with
      | nil=>intro ds h; exact h
      | cons x l ih =>
        intro ds ⟨c,r,e,hc,hr⟩
        rw [e,hI.1 hc,ih hr]; rfl
     have hflat1:∀ {υ:S} (l:List (I E)),J6 υ l (l.map fun x=>Value.int .i64 (toI x)):=by
      intro υ l
      induction l with
      | nil=>rfl
      | cons x l ih=>exact ⟨[_],_,rfl,hI.2 rfl,ih⟩
     let toL:I E->Int:=toI
     have hholds:Sort.Holds (Value.int .i64) σ.w gb 0 (xs.map toL).toArray:=by
      intro j hj
      have hj':j<xs.length:=by simpa using hj
      refine ⟨?_,by simp [World.frozen?,hh]⟩
      have e1:σ.w.cell? ⟨gb,0+j,none⟩=cur[j]?:=by simp [World.cell?,hh]
      have e2:cur[j]?=cs[j]?:=by rw [<- h5,hsz1,d9I,d8K hj',d8F]
      rw [e1,e2,hcsU h4,d9i,d8n hj',getElem!_pos _ j (by simpa using hj')]
      simp [toL]
     have main:=Any.slices_Sort_int L gb 0 k (xs.map toL) σ.w hholds (a0E hh) (by simpa using hlen)
     rw [d8L] at main
     refine Calls.mono main fun e w' ⟨he,m,os,hw⟩=>?_
     have hmap:((xs.mergeSort fun x y=>decide (toL x<=toL y)).map toL)=(xs.map toL).mergeSort fun x y=>decide (x<=y):=List.map_mergeSort fun a _ b _=>rfl
     let ys:=xs.mergeSort fun x y=>decide (toL x<=toL y)
     have hput:∀ (w:World),Sort.putRow (Value.int .i64) w gb 0 ((xs.map toL).mergeSort fun x y=>decide (x<=y)).toArray=Sort.putRow id w gb 0 (ys.map fun x=>Value.int .i64 (toI x)).toArray:=fun w=>by
      rw [c4e,<- hmap]
      congr 1
      simp [ys,toL]
     have hst:=b2O (m:=m) (F:=(ys.map fun x=>Value.int .i64 (toI x)).toArray) (os:=os) hown0
     refine ⟨_,c0w σ (a4w σ.w gb m (ys.map fun x=>Value.int .i64 (toI x)).toArray os),he,?_,hst.mono fun b _ e=>by rw [e]; simp [ows],[],[],[],hpost,_,k,some gb,rfl,by simp,?_,fun g _=>by simp [ows]⟩
     ·rw [hw]
      show a4w σ.w gb m (ys.map fun x=>Value.int .i64 (toI x)).toArray os=_
      unfold a4w
      rw [hput]
     ·exact c2Z hown0 (hflat1 ys) (by simp [ys])
end
end Go.Qx
end
section
open Nat renaming ble->d89,blt->d8V
namespace Go.Qx
open Go Go.RowKit Go.Sx
def a3o (n:Nat):List UInt8:=bif d8V n 10 then [UInt8.ofNat (48+n)] else [UInt8.ofNat (48+n / 10),UInt8.ofNat (48+n%10)]
def b2o (c:UInt8)(b:List UInt8)(n:Int):Option (List UInt8) :=
 bif decide (0<=n)&&decide (n<100)&&d89 b.length 1000000 then some (b++c::a3o n.toNat) else none
def b3z (c:UInt8):List Int->List UInt8->Option (List UInt8)
 | [],b=>some b
 | n::r,b=>(b2o c b n).bind (b3z c r)
theorem d1L {n:Nat}(h:n<100):a3o n=Lib.decDigits n:=by
 unfold a3o
 rw [Lib.decDigits]
 by_cases h0:n<10
 ·have:d8V n 10=true:=by simpa [Nat.blt_eq] using h0
  rw [this,dif_pos h0]; rfl
 ·rw [dif_neg h0,Lib.decDigits,dif_pos (by omega)]
  have:d8V n 10=false:=by
   rcases hb:d8V n 10 with _ | _
   ·rfl
   ·exact absurd (by simpa [Nat.blt_eq] using hb) h0
  rw [this]
  rfl
end Go.Qx
end

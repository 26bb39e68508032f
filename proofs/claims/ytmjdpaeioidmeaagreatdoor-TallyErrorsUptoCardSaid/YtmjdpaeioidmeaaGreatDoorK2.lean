/- Part 2. -/
import Derived.Test.YtmjdpaeioidmeaaGreatDoorK0
import Derived.Test.YtmjdpaeioidmeaaGreatDoorK1
import Derived.ChangeKeysEq
import Derived.Shelf.SlSortCmp.NoneTotal
import Derived.Shelf.Slices.In.SortNone
import Derived.Shelf.Sort.Plain
import Derived.Shelf.Strconv.Itoa3
import Derived.Shelf.Strings.Builder1
section
namespace Go.Qx
open Go Go.RowKit Go.Sx
inductive Pk where
 | d (k:Kd)
 | var (T:TypeId) (v:V) (w:Bool)
 | row (E:TypeId) (fl:Bool)
 | fn (ks:List Kd) (rs:List V)
 | bor (E:TypeId)
 | val (v:V)
 | lnt (ks:List K)
section
variable (I:TypeId->Type)
abbrev TyP:Pk->Type
 | .d k=>Ty I k
 | .var _ v _=>TyV I v
 | .row E _=>List (I E)
 | .fn ks rs=>Fun I ks (TyT I rs)
 | .bor E=>List (I E)
 | .val v=>TyV I v
 | .lnt ks=>a1o I ks
abbrev a0h:List Pk->Type
 | []=>Unit
 | p::r=>TyP I p×a0h r
abbrev b5v:List Pk->Type->Type
 | [],R=>Option R
 | p::r,R=>TyP I p->b5v r R
end
def Z0:List Pk->List V
 | []=>[]
 | .var _ v true::r=>v::Z0 r
 | _::r=>Z0 r
section
variable {I:TypeId->Type}
def a63 {R:Type}:(ps:List Pk)->b5v I ps R->a0h I ps->Option R
 | [],g,_=>g
 | _::r,g,q=>a63 r (g q.1) q.2
def b0Q {R:Type}:(ps:List Pk)->(a0h I ps->Option R)->b5v I ps R
 | [],g=>g ()
 | _::r,g=>fun x=>b0Q r fun q=>g (x,q)
theorem b1f {R:Type}:∀ (ps:List Pk) (g:a0h I ps->Option R) (q:a0h I ps),a63 ps (b0Q ps g) q=g q
 | [],_,_=>rfl
 | _::r,g,q=>b1f r (fun q'=>g (q.1,q')) q.2
structure Row (I:TypeId->Type) where
 f:FuncId
 ps:List Pk
 rs:List V
 run:b5v I ps (TyT I (rs++Z0 ps))
variable [∀ E,Rp (I E)]
def b3G (v:V)(cs:List Value)(u:Value):Prop:=bif a34 v then u=.agg cs.toArray else cs=[u]
def c8D (P:Program)(M:Nat->Prop)(σ:S):(p:Pk)->TyP I p->Value->List Pl->Prop
 | .d k,x,v,pls=>DV σ k x v/\pls=[]
 | .var T vk w,x,v,pls=>∃ b cs u p2,v=.pointer (some ⟨b,0,none⟩)/\σ.w.heap[b]?=some (.cells cs.toArray T (0,0))/\b3G vk cs u/\TV σ vk x u p2/\(w=true->(σ.L b).1=0)/\(w=false->¬ M b) /\
    pls=⟨some ⟨b,0,none⟩,0,0,bif w then some b else none⟩::p2
 | .row E fl,xs,v,pls=>∃ A k ow,v=.slice A (xs:List (I E)).length k/\Q6 ow fl E σ (xs:List (I E)) A k/\pls=[⟨A,k,(xs:List (I E)).length,ow⟩]
 | .fn ks rs,g,v,pls=>∃ f c8N cs,v=.func (.func f) (List.toArray c8N) (List.toArray cs)/\c4K P M σ f c8N cs ks rs g/\pls=[]
 | .bor E,xs,v,pls=>∃ A k,v=.slice A (xs:List (I E)).length k/\Bor M σ (xs:List (I E)) A/\pls=[⟨A,k,(xs:List (I E)).length,none⟩]
 | .val vk,x,v,pls=>TV σ vk x v pls
 | .lnt ks,x,v,pls=>a8A ks=true/\∃ cs,v=.agg cs.toArray/\LKs M σ ks x cs pls
def a3q (P:Program)(M:Nat->Prop)(σ:S):(ps:List Pk)->a0h I ps->List Value->List Pl->Prop
 | [],_,vs,pls=>vs=[]/\pls=[]
 | p::r,q,vs,pls=>∃ v vs' p1 p2,vs=v::vs'/\pls=p1++p2/\c8D P M σ p q.1 v p1/\a3q P M σ r q.2 vs' p2
def c0G (τ:S):List Pk->List Value->List Value->Prop
 | [],[],us=>us=[]
 | .var T v true::r,u0::vs,us=>∃ b cs u us',u0=.pointer (some ⟨b,0,none⟩)/\us=u::us'/\τ.w.heap[b]?=some (.cells cs.toArray T (0,0))/\(τ.L b).1=0/\b3G v cs u/\c0G τ r vs us'
 | _::r,_::vs,us=>c0G τ r vs us
 | _,_,_=>False
def V2:List Pk->List Value->List Nat
 | .var _ _ true::r,.pointer (some ⟨b,_,_⟩)::vs=>b::V2 r vs
 | _::r,_::vs=>V2 r vs
 | _,_=>[]
structure Post (σ τ:S)(ps:List Pk)(rs:List V)(vs:List Value)(res:TyT I (rs++Z0 ps))(gr:List Nat)(v:Value)(ws us:List Value)(pls:List Pl):Prop where
 ret:v=a1Q ws
 len:ws.length=rs.length
 tt:TT τ (rs++Z0 ps) res (ws++us) pls
 out:c0G τ ps vs us
 nodup:(ows pls).Nodup
 own:∀ g∈ows pls,(σ.N<=g\/g∈gr)/\g ∉ V2 ps vs
def a0r (P:Program)(r:Row I):Prop:=∀ (σ:S) (a:a0h I r.ps) (vs:List Value) (pls:List Pl) (res:TyT I (r.rs++Z0 r.ps)),
 a3q P (fun b=>σ.N<=b\/b∈ows pls) σ r.ps a vs pls->(ows pls).Nodup->a63 r.ps r.run a=some res ->
  V8 P r.f vs σ (Stp (fun b=>b∈ows pls) σ) fun v τ=>∃ ws us pls',Post σ τ r.ps r.rs vs res (ows pls) v ws us pls'
def a0F (P:Program)(r:Row I)(C:World->List Value->Prop):Prop:=∀ (σ:S) (a:a0h I r.ps) (vs:List Value) (pls:List Pl) (res:TyT I (r.rs++Z0 r.ps)),
 a3q P (fun b=>σ.N<=b\/b∈ows pls) σ r.ps a vs pls->C σ.w vs->(ows pls).Nodup->a63 r.ps r.run a=some res ->
  V8 P r.f vs σ (Stp (fun b=>b∈ows pls) σ) fun v τ=>∃ ws us pls',Post σ τ r.ps r.rs vs res (ows pls) v ws us pls'
def V4 (tb:Tab I):Nat->(ps:List Pk)->a0h I ps->List (PV I)
 | _,[],_=>[]
 | nb,.d k::r,q=>a3v tb k q.1::V4 tb nb r q.2
 | nb,.var _ v _::r,q=>.ptr nb 0::V4 tb (nb+1+cnV v) r q.2
 | nb,.row _ _::r,q=>.vw nb::V4 tb (nb+1) r q.2
 | nb,.fn ks rs::r,q=>.fn ks rs q.1::V4 tb nb r q.2
 | nb,.bor _::r,q=>.vw nb::V4 tb (nb+1) r q.2
 | nb,.val v::r,q=>pvV tb nb v q.1::V4 tb (nb+cnV v) r q.2
 | nb,.lnt ks::r,q=>.agg (a4F tb nb ks q.1)::V4 tb (nb+a3i ks) r q.2
def a8V (tb:Tab I):Nat->(ps:List Pk)->a0h I ps->Obs I->Obs I
 | _,[],_,O=>O
 | nb,.d _::r,q,O=>a8V tb nb r q.2 O
 | nb,.var T v w::r,q,O=>a8V tb (nb+1+cnV v) r q.2 (upF (Q8 O (nb+1) (obV v q.1)) nb (some (.var T (a3m v (pvV tb (nb+1) v q.1)) w)))
 | nb,.row E fl::r,q,O=>a8V tb (nb+1) r q.2 (upF O nb (some (.row E q.1 fl)))
 | nb,.fn _ _::r,q,O=>a8V tb nb r q.2 O
 | nb,.bor E::r,q,O=>a8V tb (nb+1) r q.2 (upF O nb (some (.bo E q.1)))
 | nb,.val v::r,q,O=>a8V tb (nb+cnV v) r q.2 (Q8 O nb (obV v q.1))
 | nb,.lnt ks::r,q,O=>a8V tb (nb+a3i ks) r q.2 (Q8 O nb (b2q ks q.1))
def b2J:List Pk->Nat
 | []=>0
 | .d _::r=>b2J r
 | .var _ v _::r=>1+cnV v+b2J r
 | .row _ _::r=>1+b2J r
 | .fn _ _::r=>b2J r
 | .bor _::r=>1+b2J r
 | .val v::r=>cnV v+b2J r
 | .lnt ks::r=>a3i ks+b2J r
def a5l (tb:Tab I)(s:St I):List ResultVar->Option (List (PV I))
 | []=>some []
 | .tmp t::r=>bif Nat.blt t s.n then Option.bind (s.F t) fun p=>Option.bind (a5l tb s r) fun ps=>some (p::ps) else none
 | .cell t T::r=>bif Nat.blt t s.n then (match s.F t with
   | some (.ptr l 0)=>match s.O l with
     | some (some (.var _ ls _))=>Option.bind (a2P tb T ls 0) fun p=>Option.bind (a5l tb s r) fun ps=>some (p::ps)
     | _=>none
   | _=>none) else none
def a1p (s:St I):Nat->List Pk->Option (List (PV I))
 | _,[]=>some []
 | nb,.var T v true::r=>match s.O nb with
   | some (some (.var T' ls true))=>bif Nat.beq T T' then Option.bind (b3R v ls) fun p=>Option.bind (a1p s (nb+1+cnV v) r) fun ps=>some (p::ps) else none
   | _=>none
 | nb,.var _ v false::r=>a1p s (nb+1+cnV v) r
 | nb,.row _ _::r=>a1p s (nb+1) r
 | nb,.d _::r=>a1p s nb r
 | nb,.fn _ _::r=>a1p s nb r
 | nb,.bor _::r=>a1p s (nb+1) r
 | nb,.val v::r=>a1p s (nb+cnV v) r
 | nb,.lnt ks::r=>a1p s (nb+a3i ks) r
def a3o:Nat->List Pk->List Nat
 | _,[]=>[]
 | nb,.var _ v true::r=>nb::a3o (nb+1+cnV v) r
 | nb,.var _ v false::r=>a3o (nb+1+cnV v) r
 | nb,.row _ _::r=>a3o (nb+1) r
 | nb,.d _::r=>a3o nb r
 | nb,.fn _ _::r=>a3o nb r
 | nb,.bor _::r=>a3o (nb+1) r
 | nb,.val v::r=>a3o (nb+cnV v) r
 | nb,.lnt ks::r=>a3o (nb+a3i ks) r
def fin (tb:Tab I)(ps:List Pk)(rs:List V)(results:List ResultVar):Ex->St I->Option (TyT I (rs++Z0 ps)):=fun e s=>match e with
 | .exit _=>none
 | _=>Option.bind (a5l tb s results) fun a=>Option.bind (a1p s 0 ps) fun b=>Option.bind (a0X tb s.O (rs++Z0 ps) (a++b)) fun x=>bif a3F (x.2.1++a3o 0 ps) x.2.2&&Nat.beq a.length rs.length then some x.1 else none
def a2F (tb:Tab I)(nt:Nat)(ps:List Pk)(a:a0h I ps):St I:=⟨nt,fun i=>(V4 tb 0 ps a)[i]?,a8V tb 0 ps a (fun _=>none),b2J ps⟩
def c5k (tb:Tab I)(disp:Q9 I)(H:Hints I)(cd:Code)(nt:Nat)(ps:List Pk)(rs:List V)(results:List ResultVar)(a:a0h I ps):Option (TyT I (rs++Z0 ps)) :=
 a0C tb disp H cd 1 (TyT I (rs++Z0 ps)) (a2F tb nt ps a) (fin tb ps rs results)
variable {P:Program}{tb:Tab I}{X:Cxt}{c c':Cx}{σ τ:S}{n:Nat}{F:Fr}
theorem c4X (ht:TabOk P tb){v:V}{x:TyV I v}{cs:List Value}{u:Value}{pls:List Pl}{nb:Nat}(hc:b3G v cs u)(h:TV σ v x u pls)(hn:Num c nb pls):RG X c σ (a3m v (pvV tb nb v x)) cs:=by
 have hv:=(a9Q (X:=X) (nb:=nb) ht h hn).1
 unfold a3m
 unfold b3G at hc
 cases ha:a34 v with
 | true =>
   rw [ha] at hc
   simp only [cond_true] at hc ⊢
   rcases b3Y (tb:=tb) (nb:=nb) (x:=x) ha with ⟨ls,e⟩ | ⟨E',y',e⟩
   ·rw [e] at hv ⊢
    simp only [RV] at hv
    obtain ⟨cs',q1,q2⟩:=hv
    rw [hc] at q1
    have:cs=cs':=by
     injection q1 with q1
     have:=congrArg Array.toList q1
     simpa using this
    rw [this]; exact q2
   ·rw [e] at hv ⊢
    simp only [RV] at hv
    obtain ⟨cs',q1,q2⟩:=hv
    rw [hc] at q1
    have:cs=cs':=by
     injection q1 with q1
     have:=congrArg Array.toList q1
     simpa using this
    rw [this]; exact RG.one q2
 | false =>
   rw [ha] at hc
   simp only [cond_false] at hc ⊢
   subst hc
   exact RG.single (b3Z ha) hv
theorem c0E {v:V}{ls:List (PV I)}{p:PV I}{cs:List Value}(h:b3R v ls=some p)(hl:RG X c σ ls cs):∃ u,RV X c σ p u/\b3G v cs u:=by
 unfold b3R at h
 unfold b3G
 cases ha:a34 v with
 | true =>
   rw [ha] at h
   cases h
   exact ⟨.agg cs.toArray,a4c hl,rfl⟩
 | false =>
   rw [ha] at h
   simp only [cond_false] at h
   split at h
   ·rename_i p0
    cases hd0:a2O p0 with
    | true=>rw [hd0] at h; cases h
    | false =>
      rw [hd0] at h
      cases h
      simp only [RG] at hl
      obtain ⟨a,r',rfl,hv,rfl⟩:=hl
      rcases hv with hv | ⟨_,v,rfl,hv⟩
      ·exact (by cases p<;>first | exact hv.elim | cases hd0)
      ·exact ⟨v,hv,rfl⟩
   ·cases h
def noN (O:Obs I):Prop:=∀ l E E' u xs q,O l≠some (some (.nst E E' u xs q))
omit [∀ E,Rp (I E)] in
theorem noN.set {O:Obs I}{l:Nat}{o:Option (Ob I)}(h:noN O)(hn:a5b o=true:=by rfl):noN (upF O l o):=fun l' E E' u xs q e=>by
 rcases j9 e with ⟨_,e'⟩ | ⟨_,h2⟩
 ·exact absurd e'.symm (a5j hn)
 ·exact h _ _ _ _ _ _ h2
theorem noN.notIn {s:St I}{c:Cx}{g:Nat}(h:noN s.O):notIn c σ s g:=fun l i ⟨_,_,⟨E,u,xs,q,g',kk,m,w,k1,_⟩,_⟩=>h _ _ _ _ _ _ k1
theorem noN.nests {O:Obs I}{c:Cx}(h:noN O):Nests X c σ O :=
 have hb:∀ {l i b},¬ InB c σ O l i b:=fun ⟨_,_,⟨E,u,xs,q,g',kk,m,w,k1,_⟩,_⟩=>h _ _ _ _ _ _ k1
 ⟨fun l E E' u xs q e=>absurd e (h _ _ _ _ _ _),fun _ _ _ k=>absurd k hb,fun _ _ _ k=>absurd k hb,fun _ _ _ _ _ k=>absurd k hb⟩
theorem a4B (ht:TabOk P tb){M:Nat->Prop}(hM:∀ b,X.M b->M b)(hX:X.P=P):∀ {ps:List Pk} {a:a0h I ps} {vs:List Value} {pls:List Pl} {nb:Nat} {c:Cx} {s:St I} {done:List Nat},a3q P M σ ps a vs pls->Rel X c σ s n F->(∀ l,nb<=l->s.O l=none) ->
 (∀ l p g,w8 s l->c l=some p->p.w=some g->g∈done)->(done++ows pls).Nodup->(∀ g∈ows pls,X.M g)->noN s.O ->
 ∃ c',Cx.le c c'/\Rel X c' σ ⟨s.n,s.F,a8V tb nb ps a s.O,s.nx⟩ n F/\RVs X c' σ (V4 tb nb ps a) vs
 | [],_,vs,pls,nb,c,s,done,⟨h1,h2⟩,hr,_,_,_,_,_=>⟨c,Cx.le_refl c,hr,by subst h1; simp only [V4,RVs]⟩
 | .d k::r,q,vs,pls,nb,c,s,done,⟨v,vs',p1,p2,e1,e2,⟨h1,e3⟩,h2⟩,hr,hfr,hdn,hnd,hMg,hq=>by
   subst e3
   rw [List.nil_append] at e2
   subst e2
   obtain ⟨c',k1,k2,k3⟩:=a4B ht hM hX h2 hr hfr hdn hnd hMg hq
   refine ⟨c',k1,k2,?_⟩
   simp only [V4,RVs]
   exact ⟨v,vs',e1,a49 ht h1,k3⟩
 | .fn ks rs::r,q,vs,pls,nb,c,s,done,⟨v,vs',p1,p2,e1,e2,⟨f,c8N,cs,e4,h1,e3⟩,h2⟩,hr,hfr,hdn,hnd,hMg,hq=>by
   subst e3
   rw [List.nil_append] at e2
   subst e2
   obtain ⟨c',k1,k2,k3⟩:=a4B ht hM hX h2 hr hfr hdn hnd hMg hq
   refine ⟨c',k1,k2,?_⟩
   simp only [V4,RVs,RV]
   exact ⟨v,vs',e1,⟨f,c8N,cs,e4,by rw [hX]; exact h1.1,h1.2.1,fun τ hτ=>by rw [hX]; exact h1.2.2 τ (hτ.mono fun b _ hb=>hM b hb)⟩,k3⟩
 | .bor E::r,q,vs,pls,nb,c,s,done,⟨v,vs',p1,p2,e1,e2,⟨A,k,e4,h1,e3⟩,h2⟩,hr,hfr,hdn,hnd,hMg,hq=>by
   subst e3
   subst e2
   have hnb:=hfr nb (Nat.le_refl _)
   have hcn:c nb=none:=hr.nom nb hnb
   obtain ⟨a1,a2⟩:=hr.add (l:=nb) (o:=.bo E q.1) (p:=⟨A,k,List.length q.1,none⟩) hnb (fun g hg=>by cases hg) ⟨A,k,Z5 _ _ _,h1.sub fun b _=>hM b⟩
   obtain ⟨c',k1,k2,k3⟩:=a4B (nb:=nb+1) (s:=v8 s nb (some (.bo E q.1))) (done:=done) ht hM hX h2 a2 (fun l hl=>by
    have:(v8 s nb (some (Ob.bo E q.1))).O l=s.O l:=Z8 (by omega)
    rw [this]; exact hfr l (by omega)) (fun l p g ⟨o,ho⟩ hc hw=>by
    rcases j9 ho with ⟨e,_⟩ | ⟨e,ho'⟩
    ·subst e
     rw [Z5] at hc
     cases hc
     cases hw
    ·simp only [K3,if_neg e] at hc
     exact hdn l p g ⟨o,ho'⟩ hc hw) (by rw [K0] at hnd; exact hnd) (fun g hg=>hMg g (by rw [K0]; simp [hg])) hq.set
   refine ⟨c',Cx.le_trans a1 k1,k2,?_⟩
   simp only [V4,RVs,RV]
   exact ⟨v,vs',e1,⟨_,k1 _ _ (Z5 _ _ _),e4⟩,k3⟩
 | .row E fl::r,q,vs,pls,nb,c,s,done,⟨v,vs',p1,p2,e1,e2,⟨A,k,ow,e4,h1,e3⟩,h2⟩,hr,hfr,hdn,hnd,hMg,hq=>by
   subst e3
   subst e2
   have hnb:=hfr nb (Nat.le_refl _)
   obtain ⟨a1,a2⟩:=hr.newRow (nb:=nb) (E:=E) (xs:=q.1) (fl:=fl) hnb h1 fun g hg=>⟨hMg g (by simp [ows,hg]),hq.notIn,fun l' p' hl hc hw=>by
    have hd:=hdn l' p' g hl hc hw
    rw [List.nodup_append] at hnd
    exact hnd.2.2 g hd g (by simp [ows,hg]) rfl⟩
   have hnd':((done++ows [⟨A,k,List.length q.1,ow⟩])++ows p2).Nodup:=by rw [List.append_assoc,<- K0]; exact hnd
   obtain ⟨c',k1,k2,k3⟩:=a4B (nb:=nb+1) (s:=v8 s nb (some (.row E q.1 fl))) (done:=done++ows [⟨A,k,List.length q.1,ow⟩]) ht hM hX h2 a2 (fun l hl=>by
    have:(v8 s nb (some (Ob.row E q.1 fl))).O l=s.O l:=Z8 (by omega)
    rw [this]; exact hfr l (by omega)) (fun l p g ⟨o,ho⟩ hc hw=>by
    rcases j9 ho with ⟨e,_⟩ | ⟨e,ho'⟩
    ·subst e
     rw [Z5] at hc
     cases hc
     simp only at hw
     subst hw
     simp [ows]
    ·simp only [K3,if_neg e] at hc
     simp [hdn l p g ⟨o,ho'⟩ hc hw]) hnd' (fun g hg=>hMg g (by rw [K0]; simp [hg])) hq.set
   refine ⟨c',Cx.le_trans a1 k1,k2,?_⟩
   simp only [V4,RVs,RV]
   exact ⟨v,vs',e1,⟨_,k1 _ _ (Z5 _ _ _),e4⟩,k3⟩
 | .val vk::r,q,vs,pls,nb,c,s,done,⟨v,vs',p1,p2,e1,e2,htv,h2⟩,hr,hfr,hdn,hnd,hMg,hq=>by
   subst e2
   have htv:TV σ vk q.1 v p1:=htv
   have hob:=b6f htv
   have hlen:(obV vk q.1).length=cnV vk:=by
    have:=(a9Q (X:=X) (c:=Q1 c nb p1) (tb:=tb) (nb:=nb) ht htv W4).2
    rw [hob.1,this]
   have hnd2:=hnd
   rw [K0,List.nodup_append] at hnd2
   have hnd3:=hnd2.2.1
   rw [List.nodup_append] at hnd3
   have hdr:∀ g∈ows p1,g ∉ done:=fun g hg hd=>hnd2.2.2 g hd g (by simp [hg]) rfl
   obtain ⟨a1,a2⟩:=Rel.addN (nb:=nb) hr (X5.2 fun l hl=>hfr l (W8.1 hl).1) hob hnd3.1 fun g hg=>⟨hMg g (by rw [K0]; simp [hg]),hq.notIn,fun l' p' hl hc hw=>hdr g hg (hdn l' p' g hl hc hw)⟩
   have hnum:Num (Q1 c nb p1) nb p1:=W4
   obtain ⟨w1,w2⟩:=a9Q (X:=X) (tb:=tb) (nb:=nb) ht htv hnum
   obtain ⟨c',k1,k2,k3⟩:=a4B (nb:=nb+cnV vk) (s:=addN s nb (obV vk q.1)) (done:=done++ows p1) ht hM hX h2 a2 (fun l hl=>by
    show Q8 s.O nb (obV vk q.1) l=none
    rw [J4 (fun hm=>by have:=(W8.1 hm).2; omega)]
    exact hfr l (by omega)) (fun l p g ⟨o,ho⟩ hc hw=>by
    by_cases hm:l∈rng nb (obV vk q.1).length
    ·obtain ⟨m1,m2⟩:=W8.1 hm
     have hlt:l-nb<p1.length:=by rw [<- hob.1]; omega
     have:=hnum (l-nb) p1[l-nb] (List.getElem?_eq_getElem hlt)
     rw [show nb+(l-nb)=l from by omega,hc] at this
     cases this
     exact List.mem_append.2 (.inr (a6O.2 ⟨_,List.getElem_mem _,hw⟩))
    ·have ho':Q8 s.O nb (obV vk q.1) l=some (some o):=ho
     rw [J4 hm] at ho'
     obtain ⟨p0,hp0⟩:=(hr.objs l o ho').place
     have:=a1 l p0 hp0
     rw [hc] at this
     cases this
     exact List.mem_append.2 (.inl (hdn l p g ⟨o,ho'⟩ hp0 hw))) (by rw [List.append_assoc,<- K0]; exact hnd) (fun g hg=>hMg g (by rw [K0]; simp [hg])) (fun l E E' u xs q e=>hq _ _ _ _ _ _ (a1O hob.not _ _ _ _ _ _ e))
   refine ⟨c',Cx.le_trans a1 k1,k2,?_⟩
   simp only [V4,RVs]
   exact ⟨v,vs',e1,w1.grow k1 _ _,k3⟩
 | .lnt ks::r,q,vs,pls,nb,c,s,done,⟨v,vs',p1,p2,e1,e2,htv,h2⟩,hr,hfr,hdn,hnd,hMg,hq=>by
   subst e2
   obtain ⟨h0,cs,ev,hlk⟩:=htv
   have hob:=c0r (X:=X) hM hlk
   have hlen:(b2q ks q.1).length=a3i ks:=by
    have:=(b5U (X:=X) (c:=Q1 c nb p1) (tb:=tb) (nb:=nb) ht hlk W4).2
    rw [hob.1,this]
   have hnd2:=hnd
   rw [K0,List.nodup_append] at hnd2
   have hnd3:=hnd2.2.1
   rw [List.nodup_append] at hnd3
   have hdr:∀ g∈ows p1,g ∉ done:=fun g hg hd=>hnd2.2.2 g hd g (by simp [hg]) rfl
   obtain ⟨a1,a2⟩:=Rel.addNX (nb:=nb) hr (X5.2 fun l hl=>hfr l (W8.1 hl).1) hob hnd3.1 fun g hg=>⟨hMg g (by rw [K0]; simp [hg]),hq.notIn,fun l' p' hl hc hw=>hdr g hg (hdn l' p' g hl hc hw)⟩
   have hnum:Num (Q1 c nb p1) nb p1:=W4
   have w1:RV X (Q1 c nb p1) σ (.agg (a4F tb nb ks q.1)) v:=by
    simp only [RV]
    exact ⟨cs,ev,RVs.g (b5U (X:=X) (tb:=tb) (nb:=nb) ht hlk hnum).1 (b5N _ _ h0)⟩
   obtain ⟨c',k1,k2,k3⟩:=a4B (nb:=nb+a3i ks) (s:=addN s nb (b2q ks q.1)) (done:=done++ows p1) ht hM hX h2 a2 (fun l hl=>by
    show Q8 s.O nb (b2q ks q.1) l=none
    rw [J4 (fun hm=>by have:=(W8.1 hm).2; omega)]
    exact hfr l (by omega)) (fun l p g ⟨o,ho⟩ hc hw=>by
    by_cases hm:l∈rng nb (b2q ks q.1).length
    ·obtain ⟨m1,m2⟩:=W8.1 hm
     have hlt:l-nb<p1.length:=by rw [<- hob.1]; omega
     have:=hnum (l-nb) p1[l-nb] (List.getElem?_eq_getElem hlt)
     rw [show nb+(l-nb)=l from by omega,hc] at this
     cases this
     exact List.mem_append.2 (.inr (a6O.2 ⟨_,List.getElem_mem _,hw⟩))
    ·have ho':Q8 s.O nb (b2q ks q.1) l=some (some o):=ho
     rw [J4 hm] at ho'
     obtain ⟨p0,hp0⟩:=(hr.objs l o ho').place
     have:=a1 l p0 hp0
     rw [hc] at this
     cases this
     exact List.mem_append.2 (.inl (hdn l p g ⟨o,ho'⟩ hp0 hw))) (by rw [List.append_assoc,<- K0]; exact hnd) (fun g hg=>hMg g (by rw [K0]; simp [hg])) (fun l E E' u xs q e=>hq _ _ _ _ _ _ (a1O hob.not _ _ _ _ _ _ e))
   refine ⟨c',Cx.le_trans a1 k1,k2,?_⟩
   simp only [V4,RVs]
   exact ⟨v,vs',e1,w1.grow k1 _ _,k3⟩
 | .var T vk w::r,q,vs,pls,nb,c,s,done,⟨v,vs',p1,p2,e1,e2,⟨b,cs,u,pr,e4,hh,hcv,htv,hL,hnM,e3⟩,h2⟩,hr,hfr,hdn,hnd,hMg,hq=>by
   subst e3
   subst e2
   have hob:=b6f htv
   have hlen:(obV vk q.1).length=cnV vk:=by
    have:=(a9Q (X:=X) (c:=Q1 c (nb+1) pr) (tb:=tb) (nb:=nb+1) ht htv W4).2
    rw [hob.1,this]
   have hpw:ows (⟨some ⟨b,0,none⟩,0,0,bif w then some b else none⟩::pr)=(bif w then [b] else [])++ows pr:=by
    cases w<;>simp [ows]
   have hnd2:=hnd
   rw [K0,hpw] at hnd2
   have hndr:(ows pr).Nodup:=by
    rw [List.nodup_append] at hnd2
    have:=hnd2.2.1
    rw [List.nodup_append] at this
    have:=this.1
    rw [List.nodup_append] at this
    exact this.2.1
   have hdr:∀ g∈ows pr,g ∉ done:=fun g hg hd=>by
    rw [List.nodup_append] at hnd2
    exact hnd2.2.2 g hd g (by simp [hg]) rfl
   obtain ⟨a1,a2⟩:=Rel.addN (nb:=nb+1) hr (X5.2 fun l hl=>hfr l (by have:=(W8.1 hl).1; omega)) hob hndr fun g hg=>⟨hMg g (by rw [K0,hpw]; simp [hg]),hq.notIn,fun l' p' hl hc hw=>hdr g hg (hdn l' p' g hl hc hw)⟩
   have hnb:(addN s (nb+1) (obV vk q.1)).O nb=none:=by
    show Q8 s.O (nb+1) (obV vk q.1) nb=none
    rw [J4 (fun hm=>by have:=(W8.1 hm).1; omega)]
    exact hfr nb (Nat.le_refl _)
   have hnum:Num (Q1 c (nb+1) pr) (nb+1) pr:=W4
   have hcn:Q1 c (nb+1) pr nb=none:=a2.nom nb hnb
   have hle3:Cx.le (Q1 c (nb+1) pr) (K3 (Q1 c (nb+1) pr) nb ⟨some ⟨b,0,none⟩,0,0,bif w then some b else none⟩):=a6M hcn
   have hlive2:∀ l p g,w8 (addN s (nb+1) (obV vk q.1)) l->Q1 c (nb+1) pr l=some p->p.w=some g->g∈done\/g∈ows pr:=fun l p g ⟨o,ho⟩ hc hw=>by
    by_cases hm:l∈rng (nb+1) (obV vk q.1).length
    ·obtain ⟨m1,m2⟩:=W8.1 hm
     have hlt:l-(nb+1)<pr.length:=by rw [<- hob.1]; omega
     have:=hnum (l-(nb+1)) pr[l-(nb+1)] (List.getElem?_eq_getElem hlt)
     rw [show nb+1+(l-(nb+1))=l from by omega,hc] at this
     cases this
     exact .inr (a6O.2 ⟨_,List.getElem_mem _,hw⟩)
    ·have ho':Q8 s.O (nb+1) (obV vk q.1) l=some (some o):=ho
     rw [J4 hm] at ho'
     have hcl:∃ p0,c l=some p0:=by
      have:=hr.objs l o ho'
      cases o with
      | var T ls w=>obtain ⟨b,cs,k1,_⟩:=this; exact ⟨_,k1⟩
      | row E xs fl=>obtain ⟨A,k,ow,k1,_⟩:=this; exact ⟨_,k1⟩
      | ro E xs=>obtain ⟨A,k,k1,_⟩:=this; exact ⟨_,k1⟩
      | bo E xs=>obtain ⟨A,k,k1,_⟩:=this; exact ⟨_,k1⟩
      | nst E E' u xs q=>obtain ⟨A,k,ow,k1,_⟩:=this; exact ⟨_,k1⟩
      | map T kd m=>obtain ⟨b,k1,_⟩:=this; exact ⟨_,k1⟩
      | rom T kd m=>obtain ⟨b,k1,_⟩:=this; exact ⟨_,k1⟩
     obtain ⟨p0,hp0⟩:=hcl
     have:=a1 l p0 hp0
     rw [hc] at this
     cases this
     exact .inl (hdn l p g ⟨o,ho'⟩ hp0 hw)
   obtain ⟨b1,b2⟩:=a2.add (l:=nb) (o:=.var T (a3m vk (pvV tb (nb+1) vk q.1)) w) (p:=⟨some ⟨b,0,none⟩,0,0,bif w then some b else none⟩) hnb (fun g hg=>by
    cases w with
    | false=>cases hg
    | true =>
      cases hg
      refine ⟨hMg b (by rw [K0,hpw]; simp),noN.notIn fun l E E' u xs q e=>hq _ _ _ _ _ _ (a1O hob.not _ _ _ _ _ _ e),fun l' p' hl hc hw=>?_⟩
      rw [List.nodup_append] at hnd2
      rcases hlive2 l' p' b hl hc hw with hd | hd
      ·exact hnd2.2.2 b hd b (by simp) rfl
      ·have:=hnd2.2.1
       rw [List.nodup_append] at this
       have:=this.1
       rw [List.nodup_append] at this
       exact this.2.2 b (by simp) b hd rfl)
    ⟨b,cs,Z5 _ _ _,RG.grow hle3 _ _ (c4X ht hcv htv hnum),hh,hL,fun e hb=>hnM e (hM b hb)⟩
   have hnd':((done++((bif w then [b] else [])++ows pr))++ows p2).Nodup:=by rw [List.append_assoc]; exact hnd2
   obtain ⟨c',k1,k2,k3⟩:=a4B (nb:=nb+1+cnV vk) (s:=v8 (addN s (nb+1) (obV vk q.1)) nb (some (.var T (a3m vk (pvV tb (nb+1) vk q.1)) w))) (done:=done++((bif w then [b] else [])++ows pr)) ht hM hX h2 b2 (fun l hl=>by
    have:(v8 (addN s (nb+1) (obV vk q.1)) nb (some (Ob.var T (a3m vk (pvV tb (nb+1) vk q.1)) w))).O l=Q8 s.O (nb+1) (obV vk q.1) l:=Z8 (by omega)
    rw [this,J4 (fun hm=>by have:=(W8.1 hm).2; omega)]
    exact hfr l (by omega)) (fun l p g ⟨o,ho⟩ hc hw=>by
    rcases j9 ho with ⟨e,_⟩ | ⟨e,ho'⟩
    ·subst e
     rw [Z5] at hc
     cases hc
     cases w with
     | false=>cases hw
     | true=>cases hw; simp
    ·simp only [K3,if_neg e] at hc
     rcases hlive2 l p g ⟨o,ho'⟩ hc hw with hd | hd
     ·simp [hd]
     ·simp [hd]) hnd' (fun g hg=>hMg g (by rw [K0]; simp [hg])) (noN.set fun l E E' u xs q e=>hq _ _ _ _ _ _ (a1O hob.not _ _ _ _ _ _ e))
   refine ⟨c',Cx.le_trans a1 (Cx.le_trans b1 k1),k2,?_⟩
   simp only [V4,RVs,RV]
   exact ⟨v,vs',e1,⟨b,_,k1 _ _ (Z5 _ _ _),e4⟩,k3⟩
end
end Go.Qx
end
section
namespace Go.Qx
open Go Go.RowKit Go.Sx
section
variable {I:TypeId->Type} [∀ E,Rp (I E)] {P:Program}{tb:Tab I}{X:Cxt}{c c':Cx}{σ τ:S}{n:Nat}{F:Fr}
omit [∀ E,Rp (I E)] in
theorem c0i {s:St I}{ls:List Nat}{l:Nat}{T:TypeId}{vs:List (PV I)}{w:Bool}(ho:s.O l=some (some (.var T vs w))):(k8 s s.O ls).O l=some (some (.var T vs w)):=by
 show apU s.O (Z3 s.O ls) l=_
 rw [a0M,ho]
 intro hm
 have hp:∀ {ls:List Nat},l∈V0 (Z3 s.O ls)->∃ E,∃ xs:List (I E),s.O l=some (some (.row E xs false)):=by
  intro ls
  induction ls with
  | nil=>intro h; simp [Z3,V0] at h
  | cons a r ih =>
    intro h
    simp only [Z3] at h
    split at h
    ·rename_i E xs e
     simp only [V0,List.map_cons,List.mem_cons] at h
     rcases h with rfl | h
     ·exact ⟨E,xs,e⟩
     ·exact ih h
    ·exact ih h
 obtain ⟨E,xs,e⟩:=hp hm
 rw [ho] at e; cases e
theorem a3q.len {M:Nat->Prop}:∀ {ps:List Pk} {a:a0h I ps} {vs:List Value} {pls:List Pl},a3q P M σ ps a vs pls->vs.length=ps.length
 | [],_,_,_,⟨h,_⟩=>by rw [h]; rfl
 | _::r,q,_,_,⟨v,vs',p1,p2,e1,e2,h1,h2⟩=>by rw [e1]; simp [a3q.len h2]
theorem a6T (ht:TabOk P tb){s:St I}(h:Rel X c σ s n F):∀ {rl:List ResultVar} {ps:List (PV I)},a5l tb s rl=some ps->∃ ws,RVs X c σ ps ws/\(rl.mapM (a6F (fr n F).tmps)).run P σ.w=.ok ws σ.w
 | [],_,e=>by cases e; exact ⟨[],by simp only [RVs],rfl⟩
 | .tmp t::r,_,e=>by
   simp only [a5l] at e
   obtain ⟨hb,e⟩:=y0 e
   obtain ⟨p,hp,e⟩:=bind_some e
   obtain ⟨ps,hps,e⟩:=bind_some e
   cases e
   obtain ⟨ws,h1,h2⟩:=a6T ht h hps
   rw [h.len] at hb
   refine ⟨F t::ws,by simp only [RVs]; exact ⟨_,_,rfl,h.frame t p hp,h1⟩,?_⟩
   have e1:(a6F (fr n F).tmps (.tmp t)).run P σ.w=.ok (F t) σ.w:=a7r (P:=P) (n:=n) (F:=F) (r:=.tmp t) ⟨hb,rfl⟩
   simp only [List.mapM_cons,Sem.run_bind,e1,h2,Result.andThen_ok,Sem.run_pure]
 | .cell t T::r,_,e=>by
   simp only [a5l] at e
   obtain ⟨hb,e⟩:=y0 e
   rw [h.len] at hb
   split at e
   ·rename_i l hl
    split at e
    ·rename_i T' ls w' ho
     replace e:=bind_some e
     obtain ⟨p,hp,e⟩:=e
     replace e:=bind_some e
     obtain ⟨ps,hps,e⟩:=e
     cases e
     obtain ⟨ws,h1,h2⟩:=a6T ht h hps
     obtain ⟨b,cs,k1,k2,k3,_⟩:=h.objs l _ ho
     have hF:=h.frame t _ hl
     simp only [RV] at hF
     obtain ⟨b',w,h3,h4⟩:=hF
     rw [k1] at h3
     cases h3
     obtain ⟨v,hv,hrun⟩:=a5w (w:=σ.w) ht hp k2 (b6h k3)
     rw [Nat.zero_add] at hrun
     refine ⟨v::ws,by simp only [RVs]; exact ⟨_,_,rfl,hv,h1⟩,?_⟩
     have e1:(a6F (fr n F).tmps (.cell t T)).run P σ.w=.ok v σ.w:=a7r (P:=P) (n:=n) (F:=F) (r:=.cell t T) ⟨hb,b,h4,hrun⟩
     simp only [List.mapM_cons,Sem.run_bind,e1,h2,Result.andThen_ok,Sem.run_pure]
    ·cases e
   ·cases e
theorem a5C {fn:Func}{tmps:Array Value}{ws:List Value}{w:World}(h:(fn.results.toList.mapM (a6F tmps)).run P w=.ok ws w):(results fn tmps).run P w=.ok (a1Q ws) w:=by
 rw [a6B]
 have e:fn.results.mapM (a6F tmps)=(do let l <- fn.results.toList.mapM (a6F tmps); pure l.toArray):=by
  rw [Array.mapM_eq_mapM_toList]
  simp
 rw [e]
 simp only [Sem.run_bind,h,Result.andThen_ok,Sem.run_pure]
 congr 1
 cases ws with
 | nil=>rfl
 | cons v r =>
   cases r with
   | nil=>simp [a1Q]
   | cons v' r=>simp [a1Q]
theorem a2C (ht:TabOk P tb){s:St I}(h:Rel X c σ s n F):∀ {ps:List Pk} {a:a0h I ps} {nb:Nat} {vs:List Value} {qs:List (PV I)},a1p s nb ps=some qs->RVs X c σ (V4 tb nb ps a) vs ->
 ∃ us,RVs X c σ qs us/\c0G σ ps vs us/\∀ b∈V2 ps vs,∃ l p T ls w,s.O l=some (some (.var T ls w))/\c l=some p/\p.w=some b/\l∈a3o nb ps
 | [],_,_,vs,_,e,hv=>by
   cases e
   simp only [V4,RVs] at hv
   subst hv
   exact ⟨[],by simp only [RVs],rfl,fun b hb=>by cases hb⟩
 | .d k::r,q,nb,vs,qs,e,hv=>by
   simp only [V4,RVs] at hv
   obtain ⟨v,vs',rfl,_,hv⟩:=hv
   obtain ⟨us,h1,h2,h3⟩:=a2C ht h (ps:=r) (a:=q.2) e hv
   refine ⟨us,h1,h2,?_⟩
   intro b hb
   exact h3 b (by cases v<;>exact hb)
 | .fn _ _::r,q,nb,vs,qs,e,hv=>by
   simp only [V4,RVs] at hv
   obtain ⟨v,vs',rfl,_,hv⟩:=hv
   obtain ⟨us,h1,h2,h3⟩:=a2C ht h (ps:=r) (a:=q.2) e hv
   refine ⟨us,h1,h2,?_⟩
   intro b hb
   exact h3 b (by cases v<;>exact hb)
 | .row _ _::r,q,nb,vs,qs,e,hv=>by
   simp only [V4,RVs] at hv
   obtain ⟨v,vs',rfl,_,hv⟩:=hv
   obtain ⟨us,h1,h2,h3⟩:=a2C ht h (ps:=r) (a:=q.2) e hv
   refine ⟨us,h1,h2,?_⟩
   intro b hb
   exact h3 b (by cases v<;>exact hb)
 | .bor _::r,q,nb,vs,qs,e,hv=>by
   simp only [V4,RVs] at hv
   obtain ⟨v,vs',rfl,_,hv⟩:=hv
   obtain ⟨us,h1,h2,h3⟩:=a2C ht h (ps:=r) (a:=q.2) e hv
   refine ⟨us,h1,h2,?_⟩
   intro b hb
   exact h3 b (by cases v<;>exact hb)
 | .val _::r,q,nb,vs,qs,e,hv=>by
   simp only [V4,RVs] at hv
   obtain ⟨v,vs',rfl,_,hv⟩:=hv
   obtain ⟨us,h1,h2,h3⟩:=a2C ht h (ps:=r) (a:=q.2) e hv
   refine ⟨us,h1,h2,?_⟩
   intro b hb
   exact h3 b (by cases v<;>exact hb)
 | .lnt _::r,q,nb,vs,qs,e,hv=>by
   simp only [V4,RVs] at hv
   obtain ⟨v,vs',rfl,_,hv⟩:=hv
   obtain ⟨us,h1,h2,h3⟩:=a2C ht h (ps:=r) (a:=q.2) e hv
   refine ⟨us,h1,h2,?_⟩
   intro b hb
   exact h3 b (by cases v<;>exact hb)
 | .var T vk false::r,q,nb,vs,qs,e,hv=>by
   simp only [V4,RVs] at hv
   obtain ⟨v,vs',rfl,_,hv⟩:=hv
   obtain ⟨us,h1,h2,h3⟩:=a2C ht h (ps:=r) (a:=q.2) e hv
   refine ⟨us,h1,h2,?_⟩
   intro b hb
   exact h3 b (by cases v<;>exact hb)
 | .var T vk true::r,q,nb,vs,qs,e,hv=>by
   simp only [V4,RVs] at hv
   obtain ⟨v,vs',rfl,hv1,hv⟩:=hv
   simp only [a1p] at e
   split at e
   ·rename_i T' ls ho
    replace e:=y0 e
    obtain ⟨hT,e⟩:=e
    have eT:=Nat.eq_of_beq_eq_true hT
    subst eT
    replace e:=bind_some e
    obtain ⟨p,hp,e⟩:=e
    replace e:=bind_some e
    obtain ⟨ps',hps,e⟩:=e
    cases e
    obtain ⟨us,h1,h2,h3⟩:=a2C ht h (ps:=r) (a:=q.2) hps hv
    obtain ⟨b,cs,k1,k2,k3,k4,_⟩:=h.objs nb _ ho
    simp only [RV] at hv1
    obtain ⟨b',w,h4,rfl⟩:=hv1
    rw [k1] at h4
    cases h4
    obtain ⟨u,hu,hc⟩:=c0E hp k2
    refine ⟨u::us,by simp only [RVs]; exact ⟨u,us,rfl,hu,h1⟩,⟨b,cs,u,us,rfl,rfl,k3,k4 rfl,hc,h2⟩,fun b0 hb=>?_⟩
    have hb':b0∈b::V2 r vs':=hb
    rcases List.mem_cons.1 hb' with rfl | hb'
    ·exact ⟨nb,_,_,_,_,ho,k1,rfl,List.mem_cons_self⟩
    ·obtain ⟨l,p,T,ls,w,g1,g2,g3,g4⟩:=h3 b0 hb'
     exact ⟨l,p,T,ls,w,g1,g2,g3,List.mem_cons_of_mem _ g4⟩
   ·cases e
theorem b7I (ht : TabOk P tb) {r : Row I} {C : World -> List Value -> Prop} {s0 : a0h I r.ps -> St I} {fn : Func} {cd : Code} (nt : Nat) {rl : List ResultVar} (h0 : ∀ (X : Cxt) (c : Cx) (σ : S) (a : a0h I r.ps) (vs : List Value) (F : Fr), Rel X c σ (a2F tb nt r.ps a) nt F -> RVs X c σ (V4 tb 0 r.ps a) vs -> (∀ i v, vs[i]? = some v -> F i = v) -> C σ.w vs -> Rel X c σ (s0 a) nt F) (hf : P.funcs[r.f]? = some fn) (hb : fn.body = some cd) (hname : (fn.name == "runtime.NumGoroutine") = false)
 (hn:fn.ntmps=nt) (hres:fn.results.toList=rl) (hle:Nat.ble r.ps.length nt=true)
 (hspec:∀ (X:Cxt) (c:Cx) (σ:S) (F:Fr) (Q:Exit->Act->World->Prop) (a:a0h I r.ps) (res:TyT I (r.rs++Z0 r.ps)),X.P=P->(∃ vs,C σ.w vs)->Rel X c σ (s0 a) nt F->a63 r.ps r.run a=some res ->
   (∀ (e:Ex) (s':St I) (c':Cx) (τ:S) (F':Fr),fin tb r.ps r.rs rl e s'=some res->Cx.le c c'->Rel X c' τ s' nt F'->Stp X.M σ τ->Q (a02 e) (fr nt F') τ.w)->cd.wp P Q (fr nt F) σ.w) (hlo:tb.lo=0\/∀ w vs,C w vs->tb.lo<=w.heap.size:=by exact .inl rfl):a0F P r C:=by
 intro σ a vs pls res hA hC hnd happ
 let X:Cxt:=⟨P,σ.N,fun b=>b∈ows pls⟩
 have hlen:=hA.len
 have hini:Rel X (fun _=>none) σ (⟨nt,fun _=>none,fun _=>none,0⟩:St I) nt (V7 vs) :=
  ⟨rfl,(fun _ _ h=>by cases h),(fun _ _ h=>by cases h),(fun _ _ _ _ _ ⟨_,h⟩=>by cases h),(fun _ _ _ ⟨_,h⟩=>by cases h),fun _ _=>rfl,⟨Nat.le_refl _,fun E=>Nat.le_trans (ht.low E) (hlo.elim (fun h=>by rw [h]; exact Nat.zero_le _) fun h=>h _ _ hC)⟩,noN.nests fun _ _ _ _ _ _ h=>by cases h⟩
 obtain ⟨c1,_,i2,i3⟩:=a4B (tb:=tb) (X:=X) (nb:=0) (done:=[]) ht (fun b hb=>hb) rfl hA hini (fun _ _=>rfl) (fun _ _ _ ⟨_,h⟩=>by cases h) (by simpa using hnd) (fun g hg=>.inr hg) (fun _ _ _ _ _ _ h=>by cases h)
 have hrel:Rel X c1 σ (a2F tb nt r.ps a) nt (V7 vs):=by
  refine ⟨rfl,fun i p hp=>?_,i2.objs,i2.inj,i2.mine,i2.nom,i2.base,i2.nst⟩
  obtain ⟨v,hv,hr⟩:=RVs.at_ _ _ i3 i p hp
  have:V7 vs i=v:=by simp [V7,List.getD,hv]
  rw [this]; exact hr
 have hrel:=h0 X c1 σ a vs (V7 vs) hrel i3 (fun i v hv=>by simp [V7,List.getD,hv]) hC
 refine .inl ⟨⟨fn,cd,hf,hb,hname⟩,calls_of_wp hf hb ?_⟩
 have hle':=Nat.le_of_ble_eq_true hle
 have e:(⟨vs.toArray++Array.replicate (fn.ntmps-vs.toArray.size) undef,[]⟩:Act)=fr nt (V7 vs):=by
  rw [hn]
  simp only [fr]
  congr 1
  apply Array.ext
  ·simp; omega
  ·intro i h1 h2
   simp only [Array.getElem_ofFn,V7,Array.getElem_append]
   split
   ·rename_i hi; simp at hi; simp [List.getD,List.getElem?_eq_getElem hi]
   ·rename_i hi; simp at hi; simp [List.getD,List.getElem?_eq_none hi]
 rw [e]
 refine hspec X c1 σ (V7 vs) _ a res rfl ⟨vs,hC⟩ hrel happ fun ex s' c2 τ F' hfin hle2 hr st=>?_
 have key:(Option.bind (a5l tb s' rl) fun a=>Option.bind (a1p s' 0 r.ps) fun b=>Option.bind (a0X tb s'.O (r.rs++Z0 r.ps) (a++b)) fun x=>bif a3F (x.2.1++a3o 0 r.ps) x.2.2&&Nat.beq a.length r.rs.length then some x.1 else none)=some res ->
  ∃ v,(results fn (fr nt F').tmps).run P τ.w=.ok v τ.w/\∃ v' τ',Ending.returned v=.returned v'/\τ'.w=τ.w/\Stp (fun b=>b∈ows pls) σ τ'/\∃ ws us pls',Post σ τ' r.ps r.rs vs res (ows pls) v' ws us pls':=by
  intro hfin
  obtain ⟨ra,hra,hfin⟩:=bind_some hfin
  obtain ⟨rb,hrb,hfin⟩:=bind_some hfin
  obtain ⟨y,hy,hfin⟩:=bind_some hfin
  obtain ⟨hrows,hfin⟩:=y0 hfin
  cases hfin
  simp only [Bool.and_eq_true] at hrows
  obtain ⟨r1,r2w⟩:=a2Y hrows.1
  have r2:∀ l,some l∈y.2.2->l ∉ y.2.1:=fun l hl hm=>r2w l hl (List.mem_append_left _ hm)
  have hal:=Nat.eq_of_beq_eq_true hrows.2
  obtain ⟨τ',p1,p2,p3,p4,p5,p6⟩:=hr.pubs (O:=s'.O) (fun _ _ h=>h) y.2.1
  obtain ⟨ws,w1,w2⟩:=a6T ht hr hra
  have hrb':a1p (k8 s' s'.O y.2.1) 0 r.ps=some rb:=by
   have:∀ {ps:List Pk} {nb:Nat} {qs:List (PV I)},a1p s' nb ps=some qs->a1p (k8 s' s'.O y.2.1) nb ps=some qs:=by
    intro ps
    induction ps with
    | nil=>intro nb qs h; exact h
    | cons p r ih =>
      intro nb qs h
      cases p with
      | d k=>exact ih h
      | fn ks rs=>exact ih h
      | row E fl=>exact ih h
      | bor E=>exact ih h
      | val v=>exact ih h
      | lnt ks=>exact ih h
      | var T v w =>
        cases w with
        | false=>exact ih h
        | true =>
          simp only [a1p] at h ⊢
          split at h
          ·rename_i T' ls ho
           rw [c0i ho]
           replace h:=y0 h
           obtain ⟨hT,h⟩:=h
           simp only [hT,cond_true]
           replace h:=bind_some h
           obtain ⟨p,hp,h⟩:=h
           replace h:=bind_some h
           obtain ⟨ps',hps,h⟩:=h
           rw [hp,Option.bind_some,ih hps]
           exact h
          ·cases h
   exact this hrb
  have hvs:RVs X c2 τ' (V4 tb 0 r.ps a) vs:=RVs.step (st.trans p2) _ _ (RVs.grow hle2 _ _ i3)
  obtain ⟨us,u1,u2,u3⟩:=a2C ht p3 (a:=a) hrb' hvs
  have hRV:=RVs.app _ _ _ _ (RVs.step p2 _ _ w1) u1
  obtain ⟨pls',t1,t2⟩:=a6P ht p4 p5 (ls:=y.2.1) (rows:=y.2.2) hy (fun l hl=>hl) (fun l hl=>r2 l hl) hRV
  have hlive:=a8y (ls:=y.2.1) (rows:=y.2.2) hy
  have hl3:∀ l,some l∈y.2.2->w8 (k8 s' s'.O y.2.1) l:=fun l hl=>by
   obtain ⟨o,ho,_⟩:=hlive l hl
   exact ⟨_,(p6 l (r2 l hl)).trans ho⟩
  refine ⟨a1Q ws,a5C (by rw [hres]; exact w2),a1Q ws,τ',rfl,p1,(st.trans p2).mono fun b hb hM=>?_,ws,us,pls',rfl,?_,t1,u2,At.nodup p3 t2 r1 hl3,fun g hg=>?_⟩
  ·rcases hM with h | h
   ·have:σ.N<=b:=h
    omega
   ·exact h
  ·rw [RVs.len _ _ w1,hal]
  ·obtain ⟨l,p,a1,a2,a3⟩:=t2.mem g hg
   refine ⟨p3.mine l p g (hl3 l a1) a2 a3,fun hm=>?_⟩
   obtain ⟨l',p',T,ls,w,ho',hc',hw',hn'⟩:=u3 g hm
   have e:=p3.inj l l' p p' g (hl3 l a1) ⟨_,ho'⟩ a2 hc' a3 hw'
   subst e
   exact r2w l a1 (List.mem_append_right _ hn')
 cases ex with
 | exit i=>cases hfin
 | normal =>
   obtain ⟨v,h1,v',τ',h2,h3⟩:=key hfin
   exact ⟨rfl,v,h1,v',τ',h2,h3⟩
 | ret =>
   obtain ⟨v,h1,v',τ',h2,h3⟩:=key hfin
   exact ⟨rfl,v,h1,v',τ',h2,h3⟩
theorem c0T (ht : TabOk P tb) {r : Row I} {fn : Func} {cd : Code} (nt : Nat) {rl : List ResultVar} (hf : P.funcs[r.f]? = some fn) (hb : fn.body = some cd) (hname : (fn.name == "runtime.NumGoroutine") = false)
 (hn:fn.ntmps=nt) (hres:fn.results.toList=rl) (hle:Nat.ble r.ps.length nt=true)
 (hspec:∀ (X:Cxt) (c:Cx) (σ:S) (F:Fr) (Q:Exit->Act->World->Prop) (a:a0h I r.ps) (res:TyT I (r.rs++Z0 r.ps)),X.P=P->Rel X c σ (a2F tb nt r.ps a) nt F->a63 r.ps r.run a=some res ->
   (∀ (e:Ex) (s':St I) (c':Cx) (τ:S) (F':Fr),fin tb r.ps r.rs rl e s'=some res->Cx.le c c'->Rel X c' τ s' nt F'->Stp X.M σ τ->Q (a02 e) (fr nt F') τ.w)->cd.wp P Q (fr nt F) σ.w) (hlo:tb.lo=0:=by rfl):a0r P r:=fun σ a vs pls res hA hnd happ =>
 b7I (C:=fun _ _=>True) (s0:=a2F tb nt r.ps) ht nt (fun _ _ _ _ _ _ h _ _ _=>h) hf hb hname hn hres hle (fun X c σ F Q a res hX _=>hspec X c σ F Q a res hX) (.inl hlo) σ a vs pls res hA trivial hnd happ
theorem b8J {r:Row I}{C:World->List Value->Prop}(h:a0r P r):a0F P r C:=fun σ a vs pls res hA _=>h σ a vs pls res hA
theorem b7U (ht:TabOk P tb){disp:Q9 I}(hd:DispOk P disp)(hmx:P.follows .mixedOrders=true){r:Row I}{C:World->List Value->Prop}{s0:a0h I r.ps->St I}{fn:Func}{cd:Code}(nt:Nat){H:Hints I}{rl:List ResultVar}
 (h0 : ∀ (X : Cxt) (c : Cx) (σ : S) (a : a0h I r.ps) (vs : List Value) (F : Fr), Rel X c σ (a2F tb nt r.ps a) nt F -> RVs X c σ (V4 tb 0 r.ps a) vs -> (∀ i v, vs[i]? = some v -> F i = v) -> C σ.w vs -> Rel X c σ (s0 a) nt F) (hf : P.funcs[r.f]? = some fn) (hb : fn.body = some cd) (hname : (fn.name == "runtime.NumGoroutine") = false)
 (hn:fn.ntmps=nt) (hres:fn.results.toList=rl) (hle:Nat.ble r.ps.length nt=true) (hcode:W5 H cd 1=true)
 (hrun:r.run=b0Q r.ps fun a=>a0C tb disp H cd 1 (TyT I (r.rs++Z0 r.ps)) (s0 a) (fin tb r.ps r.rs rl)) (hlo:tb.lo=0\/∀ w vs,C w vs->tb.lo<=w.heap.size:=by exact .inl rfl):a0F P r C :=
 b7I ht nt h0 hf hb hname hn hres hle (hlo:=hlo) fun X c σ F Q a res hX _ hrel happ hk=>by
  rw [hrun,b1f] at happ
  exact W9 ht hd hmx cd 1 hcode _ _ _ res X c σ F Q hX happ hrel fun e s' c' τ F' g1 g2 g3 g4 _=>hk e s' c' τ F' g1 g2 g3 g4
theorem c7P (ht : TabOk P tb) {disp : Q9 I} (hd : DispOk P disp) (hmx : P.follows .mixedOrders = true) {r : Row I} {fn : Func} {cd : Code} (nt : Nat) {H : Hints I} {rl : List ResultVar} (hf : P.funcs[r.f]? = some fn) (hb : fn.body = some cd) (hname : (fn.name == "runtime.NumGoroutine") = false)
 (hn:fn.ntmps=nt) (hres:fn.results.toList=rl) (hle:Nat.ble r.ps.length nt=true) (hcode:W5 H cd 1=true) (hrun:r.run=b0Q r.ps (c5k tb disp H cd nt r.ps r.rs rl)) (hlo:tb.lo=0:=by rfl):a0r P r :=
 c0T ht nt hf hb hname hn hres hle (hlo:=hlo) fun X c σ F Q a res hX hrel happ hk=>by
  rw [hrun,b1f] at happ
  exact W9 ht hd hmx cd 1 hcode _ _ _ res X c σ F Q hX happ hrel fun e s' c' τ F' g1 g2 g3 g4 _=>hk e s' c' τ F' g1 g2 g3 g4
end
end Go.Qx
end
section
namespace Go.Qx
open Go Go.RowKit Go.Sx
section
variable {I:TypeId->Type} [∀ E,Rp (I E)]
def c2y (rs:List V)(p:PV I):Option (List (PV I)):=match rs with
 | [_]=>some [p]
 | _=>match p with
   | .tup ls=>some ls
   | _=>none
def a5n (tb:Tab I):(ks:List Kd)->Tys I ks->List (PV I)
 | [],_=>[]
 | k::ks,q=>a3v tb k q.1::a5n tb ks q.2
def c7S (tb:Tab I)(rs:List V)(e:Ef I):Option (TyT I rs) :=
 bif a1w e.upd&&a1w e.new then Option.bind (c2y rs e.p) fun ps=>Option.bind (a0X tb (fun _=>none) rs ps) fun x=>bif a1w x.2.1&&a1w x.2.2 then some x.1 else none else none
def c1l (tb:Tab I)(disp:Q9 I)(O:Obs I)(nb:Nat)(f:FuncId)(ls:List (PV I))(ks:List Kd)(rs:List V):Fun I ks (TyT I rs):=cur ks fun q=>disp (TyT I rs) f O nb (a5n tb ks q++ls) (c7S tb rs)
structure AccT where
 pub:List Nat
 all:List (Option Nat)
 gv:List (Nat×TypeId×V)
 rv:List Nat
def c0y (ks:List Kd)(rs:List V)(ks':List Kd)(rs':List V)(g:Fun I ks' (TyT I rs')):Option (Fun I ks (TyT I rs)):=if h:ks'=ks/\rs'=rs then some (h.1▸h.2▸g) else none
def c3S (tb:Tab I)(O:Obs I)(T:TypeId)(v:V)(w:Bool)(p:PV I):Option (TyV I v×AccT):=match p with
 | .ptr l 0=>match O l with
   | some (some (.var T' ls w'))=>bif Nat.beq T T'&&(w'||!w) then Option.bind (b3R v ls) fun p=>Option.bind (b3y tb O v p) fun x =>
      bif w then some (x.1,⟨x.2.1,some l::x.2.2,[(l,T,v)],[]⟩) else bif a1w x.2.2 then some (x.1,⟨x.2.1,[none],[],[l]⟩) else none else none
   | _=>none
 | _=>none
def c0O (O:Obs I)(E:TypeId)(p:PV I):Option (List (I E)×List Nat):=match p with
 | .vw l=>match O l with
   | some (some (.row E' xs _))=>Option.bind (a0e E E' xs) fun ys=>some (ys,[l])
   | some (some (.ro E' xs))=>Option.bind (a0e E E' xs) fun ys=>some (ys,[])
   | some (some (.bo E' xs))=>Option.bind (a0e E E' xs) fun ys=>some (ys,[])
   | _=>none
 | .sl E' xs _=>Option.bind (a0e E E' xs) fun ys=>some (ys,[])
 | .nl _=>some ([],[])
 | _=>none
def b9S (tb:Tab I)(O:Obs I):(k:K)->PV I->Option (TyK I k×List Nat×List Nat)
 | .d kd,p=>Option.bind (a4M tb O kd p) fun x=>some (x.1,x.2,[])
 | .map T kd,.mp l=>match O l with
   | some (some (.map T' kd' m))=>Option.bind (a2m (T:=T) (T':=T') (kd:=kd) m) fun ys=>some (ys,[],[l])
   | some (some (.rom T' kd' m))=>Option.bind (a2m (T:=T) (T':=T') (kd:=kd) m) fun ys=>some (ys,[],[])
   | _=>none
 | _,_=>none
def a7i (tb:Tab I)(O:Obs I):(ks:List K)->List (PV I)->Option (a1o I ks×List Nat×List Nat)
 | [],[]=>some ((),[],[])
 | [k],[p]=>b9S tb O k p
 | k::k'::ks,p::ps=>Option.bind (b9S tb O k p) fun x=>Option.bind (a7i tb O (k'::ks) ps) fun y=>some ((x.1,y.1),x.2.1++y.2.1,x.2.2++y.2.2)
 | _,_=>none
def b91 (tb:Tab I)(O:Obs I)(ks:List K)(p:PV I):Option (a1o I ks×List Nat×List Nat):=match p with
 | .agg ls=>bif a8A ks then Option.bind (b1s tb 300 ls) fun ls'=>a7i tb O ks ls' else none
 | _=>none
def a3U (tb:Tab I)(disp:Q9 I)(O Oc:Obs I)(nb:Nat):(ps:List Pk)->List (PV I)->Option (a0h I ps×AccT)
 | [],[]=>some ((),⟨[],[],[],[]⟩)
 | .d k::r,p::ps=>Option.bind (a4M tb O k p) fun x=>Option.bind (a3U tb disp O Oc nb r ps) fun y=>some ((x.1,y.1),⟨x.2++y.2.pub,y.2.all,y.2.gv,y.2.rv⟩)
 | .var T v w::r,p::ps=>Option.bind (c3S tb O T v w p) fun x=>Option.bind (a3U tb disp O Oc nb r ps) fun y=>some ((x.1,y.1),⟨x.2.pub++y.2.pub,x.2.all++y.2.all,x.2.gv++y.2.gv,x.2.rv++y.2.rv⟩)
 | .row E fl::r,p::ps=>Option.bind (a3W tb O (.row E fl) p) fun x=>Option.bind (a3U tb disp O Oc nb r ps) fun y=>some ((x.1,y.1),⟨x.2.1++y.2.pub,x.2.2++y.2.all,y.2.gv,y.2.rv⟩)
 | .fn ks rs::r,p::ps=>Option.bind (a3U tb disp O Oc nb r ps) fun y=>match p with
   | .fn ks' rs' g=>Option.bind (c0y ks rs ks' rs' g) fun g'=>some ((g',y.1),y.2)
   | .clo f ls=>bif tb.fb f then some ((c1l tb disp Oc nb f ls ks rs,y.1),y.2) else none
   | _=>none
 | .val v::r,p::ps=>Option.bind (b3y tb O v p) fun x=>Option.bind (a3U tb disp O Oc nb r ps) fun y=>some ((x.1,y.1),⟨x.2.1++y.2.pub,x.2.2++y.2.all,y.2.gv,y.2.rv⟩)
 | .lnt ks::r,p::ps=>Option.bind (b91 tb O ks p) fun x=>Option.bind (a3U tb disp O Oc nb r ps) fun y=>some ((x.1,y.1),⟨x.2.1++y.2.pub,List.replicate (a3i ks) none++y.2.all,y.2.gv,x.2.2++y.2.rv⟩)
 | .bor E::r,p::ps=>Option.bind (c0O O E p) fun x=>Option.bind (a3U tb disp O Oc nb r ps) fun y=>some ((x.1,y.1),⟨y.2.pub,none::y.2.all,y.2.gv,x.2++y.2.rv⟩)
 | _,_=>none
def grN (O:Obs I):List Pk->List (PV I)->List Nat
 | .var _ _ true::r,.ptr l _::ps=>(l::nest O [l])++grN O r ps
 | .row _ _::r,p::ps=>b69 p++grN O r ps
 | .val _::r,p::ps=>b69 p++grN O r ps
 | _::r,_::ps=>grN O r ps
 | _,_=>[]
def a0J:List (Option Nat)->List (Nat×Option (Ob I))
 | []=>[]
 | some l::r=>(l,none)::a0J r
 | none::r=>a0J r
def a2Z:List (Nat×TypeId×V)->List (PV I)->List (Nat×Option (Ob I))
 | x::r,p::ps=>(x.1,some (.var x.2.1 (a3m x.2.2 p) true))::a2Z r ps
 | _,_=>[]
def b8e (gr:List Nat)(a:AccT):Bool:=a3F a.pub a.all&&a.all.all (fun x=>match x with | some l=>Q2 l gr | none=>true)&&a.rv.all (fun l=>!(Q2 l gr))
def b9C (tb:Tab I)(r:Row I)(disp:Q9 I)(ρ:Type)(O:Obs I)(nb:Nat)(ps:List (PV I))(k:Ef I->Option ρ):Option ρ :=
 Option.bind (a3U tb disp O (roO [] (Z7 (grN O r.ps ps) O)) nb r.ps ps) fun a =>
 bif b8e (grN O r.ps ps) a.2 then Option.bind (a63 r.ps r.run a.1) fun res =>
  k ⟨a4d ((pvT tb nb (r.rs++Z0 r.ps) res).take r.rs.length),Z3 O a.2.pub++a0J a.2.all++a2Z a.2.gv ((pvT tb nb (r.rs++Z0 r.ps) res).drop r.rs.length),obT (r.rs++Z0 r.ps) res⟩ else none
structure Ans (I:TypeId->Type) where
 f:FuncId
 go:Q9 I->(ρ:Type)->Obs I->Nat->List (PV I)->(Ef I->Option ρ)->Option ρ
structure EntOk (P:Program)(e:Ans I):Prop where
 par:∀ (disp:Q9 I) (ρ:Type) (O:Obs I) (nb:Nat) (ps:List (PV I)) (k:Ef I->Option ρ),e.go disp ρ O nb ps k=(e.go disp (Ef I) O nb ps some).bind k
 ok:∀ (disp:Q9 I),DispOk P disp->∀ (O:Obs I) (nb:Nat) (ps:List (PV I)) (ef:Ef I),e.go disp (Ef I) O nb ps some=some ef->c4a P e.f O nb ps ef
def b6R (f:FuncId):List (Ans I)->Option (Ans I)
 | []=>none
 | e::r=>bif Nat.beq e.f f then some e else b6R f r
def b32 (es:List (Ans I)):Nat->Q9 I
 | 0=>fun _ _ _ _ _ _=>none
 | d+1=>fun ρ f O nb ps k=>match b6R f es with
   | some e=>e.go (b32 es d) ρ O nb ps k
   | none=>none
def b7P (tb:Tab I)(r:Row I):Ans I:=⟨r.f,b9C tb r⟩
def a9G (tb:Tab I)(r:Row I)(chk:Obs I->List (PV I)->Bool)(disp:Q9 I)(ρ:Type)(O:Obs I)(nb:Nat)(ps:List (PV I))(k:Ef I->Option ρ):Option ρ:=bif chk O ps then b9C tb r disp ρ O nb ps k else none
def b6K (tb:Tab I)(r:Row I)(chk:Obs I->List (PV I)->Bool):Ans I:=⟨r.f,a9G tb r chk⟩
def b8q (P:Program):List (Ans I)->Prop
 | []=>True
 | e::r=>EntOk P e/\b8q P r
variable {P:Program}{tb:Tab I}{X:Cxt}{c c':Cx}{σ τ:S}{s:St I}{n:Nat}{F:Fr}{O:Obs I}
theorem b53 {f:FuncId}:∀ {es:List (Ans I)} {e:Ans I},b8q P es->b6R f es=some e->EntOk P e/\e.f=f
 | [],_,_,h=>by cases h
 | x::r,e,ha,h=>by
   simp only [b6R] at h
   cases hb:Nat.beq x.f f with
   | true=>rw [hb] at h; cases h; exact ⟨ha.1,Nat.eq_of_beq_eq_true hb⟩
   | false=>rw [hb] at h; exact b53 ha.2 h
theorem a2h {es:List (Ans I)}(h:b8q P es):∀ d,DispOk P (b32 es d)
 | 0=>⟨fun _ _ _ _ _ _=>rfl,fun _ _ _ _ _ h=>by cases h⟩
 | d+1=>by
   refine ⟨fun ρ f O nb ps k=>?_,fun f O nb ps e he=>?_⟩
   ·simp only [b32]
    cases hf:b6R f es with
    | none=>rfl
    | some e=>exact (b53 h hf).1.par _ _ _ _ _ _
   ·simp only [b32] at he
    split at he
    ·rename_i x hx
     obtain ⟨h1,h2⟩:=b53 h hx
     rw [<- h2]
     exact h1.ok _ (a2h h d) O nb ps e he
    ·cases he
theorem a9Y (ht:TabOk P tb):∀ {ks:List Kd} {q:Tys I ks} {vs:List Value},DVs σ ks q vs->RVs X c σ (a5n tb ks q) vs
 | [],_,_,h=>by simpa only [a5n,RVs,DVs] using h
 | k::ks,q,_,⟨v,r,e,h1,h2⟩=>by
   simp only [a5n,RVs]
   exact ⟨v,r,e,a49 ht h1,a9Y ht h2⟩
omit [∀ E,Rp (I E)] in
theorem c0Y:∀ {vs:List V} {ps:List (PV I)} {x},a0X tb O vs ps=some x->ps.length=vs.length
 | [],[],_,_=>rfl
 | [_],[_],_,_=>rfl
 | _::v'::vs,p::ps,_,h=>by
   obtain ⟨y,hy,h⟩:=bind_some h
   obtain ⟨z,hz,h⟩:=bind_some h
   have:=c0Y (vs:=v'::vs) hz
   simp [this]
 | [],_::_,_,h=>by simp [a0X] at h
 | [_],[],_,h=>by simp [a0X] at h
 | [_],_::_::_,_,h=>by simp [a0X] at h
 | _::_::_,[],_,h=>by simp [a0X] at h
theorem c7d (ht:TabOk P tb){disp:Q9 I}(hd:DispOk P disp)(hX:X.P=P)(h:Rel X c σ s n F){gr:List Nat}{Oc:Obs I}(hOc:∀ l o,Oc l=some (some o)->roO [] (Z7 gr s.O) l=some (some o)){M:Nat->Prop}
 (hM:∀ b,M b->σ.N<=b\/∃ l∈gr,w8 s l/\∃ p,c l=some p/\p.w=some b) {nb:Nat} {f:FuncId} {ls:List (PV I)} {cs:List Value} (hl:RVs X c σ ls cs) {ks:List Kd} {rs:List V} (hbody:X6 P f):c4K P M σ f [] cs ks rs (c1l tb disp Oc nb f ls ks rs):=by
 refine ⟨hbody,rfl,fun τ hτ q vs r hq hr=>?_⟩
 unfold c1l at hr
 rw [c1K,hd.par] at hr
 obtain ⟨e,he,hr⟩:=bind_some hr
 have hMX:∀ b,M b->X.M b:=fun b hb=>by
  rcases hM b hb with hb | ⟨l,_,hlv,p,hc,hw⟩
  ·exact .inl (Nat.le_trans h.base.1 hb)
  ·exact h.mine l p b hlv hc hw
 have h1:Rel X c σ ⟨s.n,s.F,Z7 gr s.O,s.nx⟩ n F:=h.less (fun l o ho=>(Z6 ho).2) (fun l ho=>a0A.1 ho)
 have hi1:∀ g,M g->notIn c σ (⟨s.n,s.F,Z7 gr s.O,s.nx⟩:St I) g:=fun g hg=>by
  rcases hM g hg with hb | ⟨l',hl',hlv,p',hc',hw'⟩
  ·exact (h.fresh hb).sub fun l E E' u xs q e=>(Z6 e).2
  ·exact (h.owned hlv hc' hw').sub fun l E E' u xs q e=>(Z6 e).2
 have h2:Rel X c τ ⟨s.n,s.F,Z7 gr s.O,s.nx⟩ n F:=h1.stepG hτ hMX (hi:=hi1) fun l p g ⟨o,ho⟩ hc hw hm=>by
  obtain ⟨k1,k2⟩:=Z6 ho
  have hlt:=(h.objs l o k2).lt hc hw
  rcases hM g hm with hb | ⟨l',hl',hlv,p',hc',hw'⟩
  ·have:σ.N<=g:=hb
   omega
  ·exact k1 (by rw [h.inj l l' p p' g ⟨o,k2⟩ hlv hc hc' hw hw']; exact hl')
 have h3:=enter h2 []
 have hlτ:RVs X c τ ls cs:=RVs.step (hτ.mono fun b _ hb=>hMX b hb) _ _ hl
 have hconv:RVs (Y6 X c τ ⟨s.n,s.F,Z7 gr s.O,s.nx⟩ []) (roC [] c) τ ls cs:=RVs.conv (X:=X) (X':=Y6 X c τ ⟨s.n,s.F,Z7 gr s.O,s.nx⟩ []) (c:=c) rfl (a26 h2 []) (fun l p hp=>⟨none,by simp [roC,Q2,hp]⟩) _ _ hlτ
 have hnil:e.upd=[]/\e.new=[]/\∃ ps,c2y rs e.p=some ps/\∃ x,a0X tb (fun _=>none) rs ps=some x/\x.2.1=[]/\x.2.2=[]/\x.1=r:=by
  unfold c7S at hr
  obtain ⟨hb,hr⟩:=y0 hr
  simp only [Bool.and_eq_true] at hb
  obtain ⟨ps,hps,hr⟩:=bind_some hr
  obtain ⟨x,hx,hr⟩:=bind_some hr
  obtain ⟨hb2,hr⟩:=y0 hr
  simp only [Bool.and_eq_true] at hb2
  cases hr
  exact ⟨a1s hb.1,a1s hb.2,ps,hps,x,hx,a1s hb2.1,a1s hb2.2,rfl⟩
 obtain ⟨n1,n2,ps,hps,x,hx,x1,x2,hxr⟩:=hnil
 have hc:=hd.ok _ _ _ _ _ he (Y6 X c τ ⟨s.n,s.F,Z7 gr s.O,s.nx⟩ []) (roC [] c) τ (roS [] ⟨s.n,s.F,Z7 gr s.O,s.nx⟩) n F (vs++cs) hX hOc h3 (RVs.app _ _ _ _ (a9Y ht hq) hconv) (by rw [n2]; rfl)
 rw [<- List.nil_append vs] at hc
 refine V8.mono hc rfl fun v υ hst ⟨c',_,hrel,hv⟩=>⟨υ,rfl,hst.mono fun b hb hm=>?_,?_⟩
 ·rcases hm with hm | ⟨_,hm,_⟩
  ·have:τ.N<=b:=hm
   omega
  ·cases hm
 ·have hlen:=c0Y hx
  have hws:∃ ws,v=a1Q ws/\RVs (Y6 X c τ ⟨s.n,s.F,Z7 gr s.O,s.nx⟩ []) c' υ ps ws:=by
   unfold c2y at hps
   split at hps
   ·cases hps
    exact ⟨[v],rfl,by simp only [RVs]; exact ⟨v,[],rfl,hv,rfl⟩⟩
   ·rename_i hne
    split at hps
    ·rename_i ls' e'
     cases hps
     rw [e'] at hv
     simp only [RV] at hv
     obtain ⟨ws,rfl,hws⟩:=hv
     refine ⟨ws,?_,hws⟩
     have hl2:=RVs.len _ _ hws
     cases ws with
     | nil=>rfl
     | cons a r =>
       cases r with
       | nil =>
         exfalso
         cases rs with
         | nil=>simp at hl2; rw [<- hl2] at hlen; simp at hlen
         | cons a' r' =>
           cases r' with
           | nil=>exact hne a' rfl
           | cons=>simp at hl2 hlen; omega
       | cons=>rfl
    ·cases hps
  obtain ⟨ws,hw1,hw2⟩:=hws
  obtain ⟨x0,xl,xr⟩:=x
  simp only at x1 x2 hxr
  subst x1
  subst x2
  subst hxr
  obtain ⟨pls,t1,t2⟩:=a6P ht a0o.none_ Rows.none_ hx (fun _ h=>h) (fun _ h=>by cases h) hw2
  have:pls=[]:=t2
  subst this
  exact ⟨ws,hw1,t1⟩
omit [∀ E,Rp (I E)] in
theorem c39 {ks ks':List Kd}{rs rs':List V}{g:Fun I ks' (TyT I rs')}{g':Fun I ks (TyT I rs)}(h:c0y ks rs ks' rs' g=some g'):∃ (e1:ks'=ks) (e2:rs'=rs),g'=e1▸e2▸g:=by
 unfold c0y at h
 split at h
 ·rename_i e; cases h; exact ⟨e.1,e.2,rfl⟩
 ·cases h
def a3n:List Pk->List (TypeId×V)
 | []=>[]
 | .var T v true::r=>(T,v)::a3n r
 | _::r=>a3n r
theorem a07:∀ (pks:List Pk),(a3n pks).map (·.2)=Z0 pks
 | []=>rfl
 | .var T v true::r=>by simp [a3n,Z0,a07 r]
 | .var T v false::r=>a07 r
 | .d _::r=>a07 r
 | .row _ _::r=>a07 r
 | .fn _ _::r=>a07 r
 | .bor _::r=>a07 r
 | .val _::r=>a07 r
 | .lnt _::r=>a07 r
omit [∀ E,Rp (I E)] in
theorem b1j {O:Obs I}{l:Nat}{E:TypeId}{xs:List (I E)}:∀ {ls:List Nat} {O1:Obs I},(∃ fl,O l=some (some (.row E xs fl)))->(∃ fl,O1 l=some (some (.row E xs fl)))->∃ fl,apU O1 (Z3 O ls) l=some (some (.row E xs fl))
 | [],_,_,h=>h
 | a::r,O1,h0,h=>by
   simp only [Z3]
   split
   ·rename_i E' xs' e
    simp only [apU]
    refine b1j h0 ?_
    by_cases el:l=a
    ·subst el
     obtain ⟨fl,h0⟩:=h0
     rw [h0] at e
     cases e
     exact ⟨true,Z9 _ _ _⟩
    ·rw [Z8 el]; exact h
   ·exact b1j h0 h
theorem c32 (h:Rel X c σ s n F)(hRw:∀ l E (xs:List (I E)) fl,O l=some (some (.row E xs fl))->∃ fl',s.O l=some (some (.row E xs fl')))(hBo:∀ l E (xs:List (I E)),O l=some (some (.bo E xs))->s.O l=some (some (.bo E xs)))
 {LS:List Nat} (hS:a0o X c σ O LS) {gr:List Nat} {M:Nat->Prop} (hM:∀ b,M b->σ.N<=b\/∃ l∈gr,w8 s l/\∃ p,c l=some p/\p.w=some b) {E:TypeId} {p:PV I} {x:List (I E)} {rv:List Nat} (hx:c0O O E p=some (x,rv)) (hrv:∀ l∈rv,l ∉ gr) {v:Value} (hv:RV X c σ p v) :
 ∃ A k,v=.slice A x.length k/\Bor M σ x A:=by
 have hMX:∀ b,M b->X.M b:=fun b hb=>by
  rcases hM b hb with hb | ⟨l,_,hlv,p,hc,hw⟩
  ·exact .inl (Nat.le_trans h.base.1 hb)
  ·exact h.mine l p b hlv hc hw
 unfold c0O at hx
 split at hx
 ·rename_i l
  simp only [RV] at hv
  obtain ⟨p,hp,rfl⟩:=hv
  split at hx
  ·rename_i E' xs fl ho
   obtain ⟨ys,hys,hx⟩:=bind_some hx
   cases hx
   obtain ⟨e,rfl⟩:=J2 hys
   subst e
   obtain ⟨fl',hs⟩:=hRw l _ _ _ ho
   obtain ⟨A,k,ow,k1,k2⟩:=h.objs l _ hs
   rw [k1] at hp
   cases hp
   refine ⟨A,k,rfl,Bor.of_own k2 fun g hg hm=>?_⟩
   have hlt:=(h.objs l _ hs).lt k1 (g:=g) hg
   rcases hM g hm with hb | ⟨l',hl',hlv,p',hc',hw'⟩
   ·have hb':σ.w.heap.size<=g:=hb
    have:g<σ.w.heap.size:=hlt
    omega
   ·have e:=h.inj l l' _ p' g ⟨_,hs⟩ hlv k1 hc' hg hw'
    exact hrv l (by simp) (by rw [e]; exact hl')
  ·rename_i E' xs ho
   obtain ⟨ys,hys,hx⟩:=bind_some hx
   cases hx
   obtain ⟨e,rfl⟩:=J2 hys
   subst e
   obtain ⟨A,k,k1,k2⟩:=hS.2.1 l _ _ ho
   rw [k1] at hp
   cases hp
   exact ⟨A,k,rfl,Bor.of_sl k2⟩
  ·rename_i E' xs ho
   obtain ⟨ys,hys,hx⟩:=bind_some hx
   cases hx
   obtain ⟨e,rfl⟩:=J2 hys
   subst e
   obtain ⟨A,k,k1,k2⟩:=h.objs l _ (hBo l _ _ ho)
   rw [k1] at hp
   cases hp
   exact ⟨A,k,rfl,k2.sub fun b _=>hMX b⟩
  ·cases hx
 ·obtain ⟨ys,hys,hx⟩:=bind_some hx
  cases hx
  obtain ⟨e,rfl⟩:=J2 hys
  subst e
  simp only [RV] at hv
  obtain ⟨A,k,e1,e2,_⟩:=hv
  exact ⟨A,k,e1,Bor.of_sl e2⟩
 ·cases hx
  simp only [RV] at hv
  obtain ⟨A,rfl⟩:=hv
  exact ⟨A,0,rfl,[],rfl,fun hn=>absurd rfl hn⟩
 ·cases hx
theorem b95 (ht:TabOk P tb)(h:Rel X c σ s n F)(hMp:∀ l T kd m,(O l=some (some (.map T kd m))->s.O l=some (some (.map T kd m)))/\(O l=some (some (.rom T kd m))->s.O l=some (some (.rom T kd m))))
 {LS:List Nat} (hS:a0o X c σ O LS) {gr:List Nat} {M:Nat->Prop} (hM:∀ b,M b->σ.N<=b\/∃ l∈gr,w8 s l/\∃ p,c l=some p/\p.w=some b) {k:K} {p:PV I} {x:TyK I k} {ls rv:List Nat} (hx:b9S tb O k p=some (x,ls,rv)) (hl:∀ l∈ls,l∈LS) (hrv:∀ l∈rv,l ∉ gr) {v:Value} (hv:RV X c σ p v) :
 ∃ pls,LK M σ k x v pls/\At c (List.replicate (cnK k) none) pls:=by
 have hMX:∀ b,M b->X.M b:=fun b hb=>by
  rcases hM b hb with hb | ⟨l,_,hlv,p,hc,hw⟩
  ·exact .inl (Nat.le_trans h.base.1 hb)
  ·exact h.mine l p b hlv hc hw
 unfold b9S at hx
 split at hx
 ·obtain ⟨y,hy,hx⟩:=bind_some hx
  cases hx
  exact ⟨[],⟨a2o ht hS hy hl hv,rfl⟩,rfl⟩
 ·rename_i T kd l
  simp only [RV] at hv
  obtain ⟨b,w,hc,rfl⟩:=hv
  split at hx
  ·rename_i T' kd' m ho
   obtain ⟨ys,hys,hx⟩:=bind_some hx
   cases hx
   obtain ⟨e,_,rfl⟩:=a1P hys
   subst e
   have hs:=(hMp l _ _ _).1 ho
   obtain ⟨b',k1,k2⟩:=h.objs l _ hs
   rw [k1] at hc
   cases hc
   refine ⟨[⟨some ⟨b,0,none⟩,0,0,none⟩],⟨b,rfl,rfl,k2,fun hm=>?_⟩,⟨_,[],rfl,rfl,rfl⟩⟩
   rcases hM b hm with hb | ⟨l',hl',hlv,p',hc',hw'⟩
   ·have hb':σ.w.heap.size<=b:=hb
    have:=k2.lt
    have:b<σ.w.heap.size:=this
    omega
   ·have e:=h.inj l l' _ p' b ⟨_,hs⟩ hlv k1 hc' rfl hw'
    exact hrv l (by simp) (by rw [e]; exact hl')
  ·rename_i T' kd' m ho
   obtain ⟨ys,hys,hx⟩:=bind_some hx
   cases hx
   obtain ⟨e,_,rfl⟩:=a1P hys
   subst e
   obtain ⟨b',k1,k2,k3⟩:=h.objs l _ ((hMp l _ _ _).2 ho)
   rw [k1] at hc
   cases hc
   exact ⟨[⟨some ⟨b,0,none⟩,0,0,none⟩],⟨b,rfl,rfl,k2,fun hm=>k3 (hMX b hm)⟩,⟨_,[],rfl,rfl,rfl⟩⟩
  ·cases hx
 ·cases hx
theorem b8B (ht:TabOk P tb)(h:Rel X c σ s n F)(hMp:∀ l T kd m,(O l=some (some (.map T kd m))->s.O l=some (some (.map T kd m)))/\(O l=some (some (.rom T kd m))->s.O l=some (some (.rom T kd m))))
 {LS:List Nat} (hS:a0o X c σ O LS) {gr:List Nat} {M:Nat->Prop} (hM:∀ b,M b->σ.N<=b\/∃ l∈gr,w8 s l/\∃ p,c l=some p/\p.w=some b):∀ {ks:List K} {ps:List (PV I)} {x:a1o I ks} {ls rv:List Nat},a7i tb O ks ps=some (x,ls,rv)->(∀ l∈ls,l∈LS)->(∀ l∈rv,l ∉ gr)->∀ {vs:List Value},RVs X c σ ps vs ->
 ∃ pls,LKs M σ ks x vs pls/\At c (List.replicate (a3i ks) none) pls
 | [],[],_,_,_,hx,_,_,vs,hv=>by
   cases hx
   simp only [RVs] at hv
   exact ⟨[],⟨hv,rfl⟩,rfl⟩
 | [k],[p],x,ls,rv,hx,hl,hr,vs,hv=>by
   simp only [RVs] at hv
   obtain ⟨v,r,rfl,h1,rfl⟩:=hv
   obtain ⟨pls,h2,h3⟩:=b95 ht h hMp hS hM hx hl hr h1
   exact ⟨pls,⟨v,rfl,h2⟩,h3⟩
 | k::k'::ks,p::ps,x,ls,rv,hx,hl,hr,vs,hv=>by
   obtain ⟨y,hy,hx⟩:=bind_some hx
   obtain ⟨z,hz,hx⟩:=bind_some hx
   cases hx
   simp only [RVs] at hv
   obtain ⟨v,r,rfl,h1,h2⟩:=hv
   obtain ⟨p1,a1,a2⟩:=b95 ht h hMp hS hM (ls:=y.2.1) (rv:=y.2.2) hy (fun l hm=>hl l (by simp [hm])) (fun l hm=>hr l (by simp [hm])) h1
   obtain ⟨p2,b1,b2⟩:=b8B ht h hMp hS hM (ls:=z.2.1) (rv:=z.2.2) hz (fun l hm=>hl l (by simp [hm])) (fun l hm=>hr l (by simp [hm])) h2
   refine ⟨p1++p2,⟨v,r,p1,p2,rfl,rfl,a1,b1⟩,?_⟩
   show At c (List.replicate (cnK k+a3i (k'::ks)) none) (p1++p2)
   rw [<- List.replicate_append_replicate]
   exact a2.app b2
 | [],_::_,_,_,_,hx,_,_,_,_=>by simp [a7i] at hx
 | [_],[],_,_,_,hx,_,_,_,_=>by simp [a7i] at hx
 | [_],_::_::_,_,_,_,hx,_,_,_,_=>by simp [a7i] at hx
 | _::_::_,[],_,_,_,hx,_,_,_,_=>by simp [a7i] at hx
theorem c3D (ht:TabOk P tb)(h:Rel X c σ s n F)(hMp:∀ l T kd m,(O l=some (some (.map T kd m))->s.O l=some (some (.map T kd m)))/\(O l=some (some (.rom T kd m))->s.O l=some (some (.rom T kd m))))
 {LS:List Nat} (hS:a0o X c σ O LS) {gr:List Nat} {M:Nat->Prop} (hM:∀ b,M b->σ.N<=b\/∃ l∈gr,w8 s l/\∃ p,c l=some p/\p.w=some b) {ks:List K} {p:PV I} {x:a1o I ks} {ls rv:List Nat} (hx:b91 tb O ks p=some (x,ls,rv)) (hl:∀ l∈ls,l∈LS) (hr:∀ l∈rv,l ∉ gr) {v:Value} (hv:RV X c σ p v) :
 ∃ pls,a8A ks=true/\∃ cs,v=.agg cs.toArray/\LKs M σ ks x cs pls/\At c (List.replicate (a3i ks) none) pls:=by
 unfold b91 at hx
 split at hx
 ·obtain ⟨hnd,hx⟩:=y0 hx
  obtain ⟨ls',hls,hx⟩:=bind_some hx
  simp only [RV] at hv
  obtain ⟨cs,rfl,hcs⟩:=hv
  obtain ⟨pls,h1,h2⟩:=b8B ht h hMp hS hM hx hl hr (a7D ht hls hcs)
  exact ⟨pls,hnd,cs,rfl,h1,h2⟩
 ·cases hx
def a2W (c:Cx)(O:Obs I):List (Nat×TypeId×V)->List Nat->Prop
 | [],bs=>bs=[]
 | x::r,bs=>∃ b bs' ls,bs=b::bs'/\O x.1=some (some (.var x.2.1 ls true))/\c x.1=some ⟨some ⟨b,0,none⟩,0,0,some b⟩/\a2W c O r bs'
theorem a1L (ht:TabOk P tb){disp:Q9 I}(hd:DispOk P disp)(hX:X.P=P)(h:Rel X c σ s n F)(hRw:∀ l E (xs:List (I E)) fl,O l=some (some (.row E xs fl))->∃ fl',s.O l=some (some (.row E xs fl')))(hBo:∀ l E (xs:List (I E)),O l=some (some (.bo E xs))->s.O l=some (some (.bo E xs)))(hMp:∀ l T kd m,(O l=some (some (.map T kd m))->s.O l=some (some (.map T kd m)))/\(O l=some (some (.rom T kd m))->s.O l=some (some (.rom T kd m))))(hO:∀ l T ls w,O l=some (some (.var T ls w))->s.O l=some (some (.var T ls w))){LS:List Nat}(hS:a0o X c σ O LS)(hR:Rows X c σ O LS){gr:List Nat}{Oc:Obs I}
 (hOc:∀ l o,Oc l=some (some o)->roO [] (Z7 gr s.O) l=some (some o)) {M:Nat->Prop} (hM:∀ b,M b->σ.N<=b\/∃ l∈gr,w8 s l/\∃ p,c l=some p/\p.w=some b) {nb:Nat} :
 ∀ {pks:List Pk} {ps:List (PV I)} {a:a0h I pks} {acc:AccT} {vs:List Value},a3U tb disp O Oc nb pks ps=some (a,acc)->RVs X c σ ps vs->(∀ l∈acc.pub,l∈LS)->(∀ l,some l∈acc.all->l ∉ LS)->(∀ l∈acc.rv,l ∉ gr) ->
  ∃ pls,a3q P M σ pks a vs pls/\At c acc.all pls/\a2W c O acc.gv (V2 pks vs)/\(∀ l,some l∈acc.all->(∃ o:Ob I,O l=some (some o)/\a8I o=true)\/∃ T v,(l,T,v)∈acc.gv)/\(∀ x∈acc.gv,some x.1∈acc.all)/\acc.gv.map (fun x=>x.2)=a3n pks
 | [],[],a,acc,vs,e,hv,_,_,_=>by
   cases e
   simp only [RVs] at hv
   subst hv
   exact ⟨[],⟨rfl,rfl⟩,rfl,rfl,(fun l hl=>by cases hl),(fun l hl=>by cases hl),rfl⟩
 | .d k::r,p::ps,_,_,vs,e,hv,h1,h2,h3=>by
   obtain ⟨x,hx,e⟩:=bind_some e
   obtain ⟨y,hy,e⟩:=bind_some e
   cases e
   simp only [RVs] at hv
   obtain ⟨v,vs',rfl,hv1,hv2⟩:=hv
   obtain ⟨pls,k1,k2,k3,k4,k5,k6⟩:=a1L ht hd hX h hRw hBo hMp hO hS hR hOc hM (a:=y.1) (acc:=y.2) hy hv2 (fun l hl=>h1 l (by simp [hl])) h2 h3
   have hd1:=a2o ht hS (ls:=x.2) hx (fun l hl=>h1 l (by simp [hl])) hv1
   refine ⟨pls,⟨v,vs',[],pls,rfl,rfl,⟨hd1,rfl⟩,k1⟩,k2,?_,k4,k5,k6⟩
   have:V2 (.d k::r) (v::vs')=V2 r vs':=by cases v<;>rfl
   rw [this]; exact k3
 | .row E fl::r,p::ps,_,_,vs,e,hv,h1,h2,h3=>by
   obtain ⟨x,hx,e⟩:=bind_some e
   obtain ⟨y,hy,e⟩:=bind_some e
   cases e
   simp only [RVs] at hv
   obtain ⟨v,vs',rfl,hv1,hv2⟩:=hv
   obtain ⟨pls,k1,k2,k3,k4,k5,k6⟩:=a1L ht hd hX h hRw hBo hMp hO hS hR hOc hM (a:=y.1) (acc:=y.2) hy hv2 (fun l hl=>h1 l (by simp [hl])) (fun l hl=>h2 l (by simp [hl])) h3
   obtain ⟨p1,t1,t2⟩:=a9v ht hS hR (ls:=x.2.1) (rows:=x.2.2) hx (fun l hl=>h1 l (by simp [hl])) (fun l hl=>h2 l (by simp [hl])) hv1
   have hl1:=a8n (ls:=x.2.1) (rows:=x.2.2) hx
   obtain ⟨A,k,ow,e1,e2,e3⟩:=t1
   refine ⟨p1++pls,⟨v,vs',p1,pls,rfl,rfl,⟨A,k,ow,e1,e3,e2⟩,k1⟩,t2.app k2,?_,fun l hl=>?_,fun z hz=>by simp [k5 z hz],k6⟩
   ·have:V2 (.row E fl::r) (v::vs')=V2 r vs':=by cases v<;>rfl
    rw [this]; exact k3
   ·rcases List.mem_append.1 hl with hl | hl
    ·exact .inl (hl1 l hl)
    ·exact k4 l hl
 | .val vk::r,p::ps,_,_,vs,e,hv,h1,h2,h3=>by
   obtain ⟨x,hx,e⟩:=bind_some e
   obtain ⟨y,hy,e⟩:=bind_some e
   cases e
   simp only [RVs] at hv
   obtain ⟨v,vs',rfl,hv1,hv2⟩:=hv
   obtain ⟨pls,k1,k2,k3,k4,k5,k6⟩:=a1L ht hd hX h hRw hBo hMp hO hS hR hOc hM (a:=y.1) (acc:=y.2) hy hv2 (fun l hl=>h1 l (by simp [hl])) (fun l hl=>h2 l (by simp [hl])) h3
   obtain ⟨p1,t1,t2⟩:=b0b ht hS hR (ls:=x.2.1) (rows:=x.2.2) hx (fun l hl=>h1 l (by simp [hl])) (fun l hl=>h2 l (by simp [hl])) hv1
   have hl1:=a8u (ls:=x.2.1) (rows:=x.2.2) hx
   refine ⟨p1++pls,⟨v,vs',p1,pls,rfl,rfl,t1,k1⟩,t2.app k2,?_,fun l hl=>?_,fun z hz=>by simp [k5 z hz],k6⟩
   ·have:V2 (.val vk::r) (v::vs')=V2 r vs':=by cases v<;>rfl
    rw [this]; exact k3
   ·rcases List.mem_append.1 hl with hl | hl
    ·exact .inl (hl1 l hl)
    ·exact k4 l hl
 | .bor E::r,p::ps,_,_,vs,e,hv,h1,h2,h3=>by
   obtain ⟨x,hx,e⟩:=bind_some e
   obtain ⟨y,hy,e⟩:=bind_some e
   cases e
   simp only [RVs] at hv
   obtain ⟨v,vs',rfl,hv1,hv2⟩:=hv
   obtain ⟨pls,k1,k2,k3,k4,k5,k6⟩:=a1L ht hd hX h hRw hBo hMp hO hS hR hOc hM (a:=y.1) (acc:=y.2) hy hv2 h1 (fun l hl=>h2 l (by simp [hl])) (fun l hl=>h3 l (by simp [hl]))
   obtain ⟨A,k,e1,e2⟩:=c32 h hRw hBo hS hM (x:=x.1) (rv:=x.2) hx (fun l hl=>h3 l (by simp [hl])) hv1
   refine ⟨⟨A,k,List.length x.1,none⟩::pls,⟨v,vs',[_],pls,rfl,rfl,⟨A,k,e1,e2,rfl⟩,k1⟩,⟨_,_,rfl,rfl,k2⟩,?_,fun l hl=>?_,fun z hz=>by simp [k5 z hz],k6⟩
   ·have:V2 (.bor E::r) (v::vs')=V2 r vs':=by cases v<;>rfl
    rw [this]; exact k3
   ·rcases List.mem_cons.1 hl with hl | hl
    ·cases hl
    ·exact k4 l hl
 | .lnt ks::r,p::ps,_,_,vs,e,hv,h1,h2,h3=>by
   obtain ⟨x,hx,e⟩:=bind_some e
   obtain ⟨y,hy,e⟩:=bind_some e
   cases e
   simp only [RVs] at hv
   obtain ⟨v,vs',rfl,hv1,hv2⟩:=hv
   obtain ⟨pls,k1,k2,k3,k4,k5,k6⟩:=a1L ht hd hX h hRw hBo hMp hO hS hR hOc hM (a:=y.1) (acc:=y.2) hy hv2 (fun l hl=>h1 l (by simp [hl])) (fun l hl=>h2 l (by simp [hl])) (fun l hl=>h3 l (by simp [hl]))
   obtain ⟨p1,e0,cs,e1,e2,e3⟩:=c3D ht h hMp hS hM (x:=x.1) (ls:=x.2.1) (rv:=x.2.2) hx (fun l hl=>h1 l (by simp [hl])) (fun l hl=>h3 l (by simp [hl])) hv1
   refine ⟨p1++pls,⟨v,vs',p1,pls,rfl,rfl,⟨e0,cs,e1,e2⟩,k1⟩,e3.app k2,?_,fun l hl=>?_,fun z hz=>by simp [k5 z hz],k6⟩
   ·have:V2 (.lnt ks::r) (v::vs')=V2 r vs':=by cases v<;>rfl
    rw [this]; exact k3
   ·rcases List.mem_append.1 hl with hl | hl
    ·have:=List.eq_of_mem_replicate hl
     cases this
    ·exact k4 l hl
 | .fn ks rs::r,p::ps,_,_,vs,e,hv,h1,h2,h3=>by
   obtain ⟨y,hy,e⟩:=bind_some e
   simp only [RVs] at hv
   obtain ⟨v,vs',rfl,hv1,hv2⟩:=hv
   have hb:V2 (.fn ks rs::r) (v::vs')=V2 r vs':=by cases v<;>rfl
   split at e
   ·rename_i ks' rs' g
    obtain ⟨g',hg',e⟩:=bind_some e
    cases e
    obtain ⟨e1,e2,e3⟩:=c39 hg'
    subst e1
    subst e2
    subst e3
    obtain ⟨pls,k1,k2,k3,k4,k5,k6⟩:=a1L ht hd hX h hRw hBo hMp hO hS hR hOc hM (a:=y.1) (acc:=y.2) hy hv2 h1 h2 h3
    simp only [RV] at hv1
    obtain ⟨f,as',cs,e4,hf⟩:=hv1
    refine ⟨pls,⟨v,vs',[],pls,rfl,rfl,⟨f,as',cs,e4,⟨by rw [<- hX]; exact hf.1,hf.2.1,fun τ hτ=>?_⟩,rfl⟩,k1⟩,k2,by rw [hb]; exact k3,k4,k5,k6⟩
    rw [hX] at hf
    exact hf.2.2 τ (hτ.mono fun b _ hb=>by
     rcases hM b hb with hb | ⟨l,_,hlv,p,hc,hw⟩
     ·exact .inl (Nat.le_trans h.base.1 hb)
     ·exact h.mine l p b hlv hc hw)
   ·rename_i f0 ls0 hh0
    replace e:=y0 e
    obtain ⟨hfb,e⟩:=e
    cases e
    obtain ⟨pls,k1,k2,k3,k4,k5,k6⟩:=a1L ht hd hX h hRw hBo hMp hO hS hR hOc hM (a:=y.1) (acc:=y.2) hy hv2 h1 h2 h3
    simp only [RV] at hv1
    obtain ⟨cs,e4,hls⟩:=hv1
    exact ⟨pls,⟨v,vs',[],pls,rfl,rfl,⟨_,[],cs,e4,c7d ht hd hX h hOc hM hls (ht.fb _ hfb),rfl⟩,k1⟩,k2,by rw [hb]; exact k3,k4,k5,k6⟩
   ·cases e
 | .var T vk w::r,p::ps,_,_,vs,e,hv,h1,h2,h3=>by
   obtain ⟨x,hx,e⟩:=bind_some e
   obtain ⟨y,hy,e⟩:=bind_some e
   cases e
   simp only [RVs] at hv
   obtain ⟨v,vs',rfl,hv1,hv2⟩:=hv
   obtain ⟨pls,k1,k2,k3,k4,k5,k6⟩:=a1L ht hd hX h hRw hBo hMp hO hS hR hOc hM (a:=y.1) (acc:=y.2) hy hv2 (fun l hl=>h1 l (by simp [hl])) (fun l hl=>h2 l (by simp [hl])) (fun l hl=>h3 l (by simp [hl]))
   unfold c3S at hx
   split at hx
   ·rename_i l
    split at hx
    ·rename_i T' ls w' ho
     replace hx:=y0 hx
     obtain ⟨hT,hx⟩:=hx
     simp only [Bool.and_eq_true] at hT
     have eT:=Nat.eq_of_beq_eq_true hT.1
     subst eT
     have hww:=hT.2
     replace hx:=bind_some hx
     obtain ⟨q,hq,hx⟩:=hx
     replace hx:=bind_some hx
     obtain ⟨z,hz,hx⟩:=hx
     have hs:=hO _ _ _ _ ho
     obtain ⟨b,cs,o1,o2,o3,o4,o5⟩:=h.objs l _ hs
     simp only [RV] at hv1
     obtain ⟨b',w2,c1,rfl⟩:=hv1
     rw [o1] at c1
     cases c1
     obtain ⟨u,hu,hcu⟩:=c0E hq o2
     cases w with
     | true =>
       have hw':w'=true:=by cases w'<;>simp at hww ⊢
       subst hw'
       cases hx
       obtain ⟨pr,t1,t2⟩:=b0b ht hS hR (ls:=z.2.1) (rows:=z.2.2) hz (fun l hl=>h1 l (by simp [hl])) (fun l hl=>h2 l (by simp [hl])) hu
       have hl1:=a8u (ls:=z.2.1) (rows:=z.2.2) hz
       refine ⟨(⟨some ⟨b,0,none⟩,0,0,some b⟩::pr)++pls,⟨_,vs',_,pls,rfl,rfl,⟨b,cs,u,pr,rfl,o3,hcu,t1,(fun _=>o4 rfl),(fun e=>by cases e),rfl⟩,k1⟩,?_,?_,fun l' hl=>?_,fun g hg=>?_,?_⟩
       ·refine At.app (r1:=some l::z.2.2) ?_ k2
        exact ⟨_,pr,rfl,o1,t2⟩
       ·exact ⟨b,_,ls,rfl,ho,o1,k3⟩
       ·simp only [List.mem_append,List.mem_cons,Option.some.injEq] at hl
        rcases hl with (hl | hl) | hl
        ·subst hl
         exact .inr ⟨T,vk,by simp⟩
        ·exact .inl (hl1 l' hl)
        ·rcases k4 l' hl with hl | ⟨T2,v2,hl⟩
         ·exact .inl hl
         ·exact .inr ⟨T2,v2,by simp [hl]⟩
       ·simp only [List.cons_append,List.nil_append,List.mem_cons] at hg
        rcases hg with hg | hg
        ·subst hg; simp
        ·simp [k5 g hg]
       ·simp only [List.cons_append,List.nil_append,List.map_cons,a3n,k6]
     | false =>
       simp only [cond_false] at hx
       replace hx:=y0 hx
       obtain ⟨hn,hx⟩:=hx
       have hn:=a1s hn
       cases hx
       obtain ⟨pr,t1,t2⟩:=b0b ht hS hR (ls:=z.2.1) (rows:=z.2.2) hz (fun l hl=>h1 l (by simp [hl])) (fun l hl=>by rw [hn] at hl; cases hl) hu
       rw [hn] at t2
       have:pr=[]:=t2
       subst this
       have hlgr:l ∉ gr:=h3 l (by simp)
       refine ⟨(⟨some ⟨b,0,none⟩,0,0,none⟩::[])++pls,⟨_,vs',_,pls,rfl,rfl,⟨b,cs,u,[],rfl,o3,hcu,t1,(fun e=>by cases e),(fun _ hMb=>?_),rfl⟩,k1⟩,?_,?_,fun l' hl=>?_,fun g hg=>?_,?_⟩
       ·have hlt:=J8 o3
        rcases hM b hMb with hb | ⟨l',hl',hlv,p',hc',hw2'⟩
        ·have hb':σ.w.heap.size<=b:=hb
         omega
        ·cases w' with
         | true=>exact hlgr (by rw [h.inj l l' _ p' b ⟨_,hs⟩ hlv o1 hc' rfl hw2']; exact hl')
         | false=>exact o5 rfl (h.mine l' p' b hlv hc' hw2')
       ·refine At.app (r1:=[none]) ?_ k2
        exact ⟨_,[],rfl,rfl,rfl⟩
       ·exact k3
       ·simp only [List.cons_append,List.nil_append,List.mem_cons] at hl
        rcases hl with hl | hl
        ·cases hl
        ·exact k4 l' hl
       ·simp [k5 g hg]
       ·exact k6
    ·cases hx
   ·cases hx
 | [],_::_,_,_,_,e,_,_,_,_=>by simp [a3U] at e
 | _::_,[],_,_,_,e,_,_,_,_=>by simp [a3U] at e
omit [∀ E,Rp (I E)] in
theorem b1i:∀ {all:List (Option Nat)} {O:Obs I} {l:Nat},(∀ l,some l∈all->O l≠none)->apU O (a0J all) l=Z7 (all.filterMap id) O l
 | [],O,l,_=>by simp [a0J,apU,Z7,Q2]
 | none::r,O,l,h=>by
   have:=b1i (all:=r) (O:=O) (l:=l) (fun l hl=>h l (by simp [hl]))
   simpa [a0J] using this
 | some a::r,O,l,h=>by
   simp only [a0J,apU]
   rw [b1i (all:=r) (fun l' hl'=>by
    by_cases e:l'=a
    ·subst e; rw [Z9]; simp
    ·rw [Z8 e]; exact h l' (by simp [hl']))]
   simp only [Z7,List.filterMap_cons,id,Q2]
   by_cases e:l=a
   ·subst e
    rw [Z9]
    have ha:=h l (by simp)
    cases ho:O l with
    | none=>exact absurd ho ha
    | some o=>cases Q2 l (List.filterMap id r)<;>simp
   ·rw [Z8 e,Sx.beq_false e]
    rfl
omit [∀ E,Rp (I E)] in
theorem c1d {O:Obs I}{l:Nat}{o:Option (Ob I)}{os:List (Ob I)}{nb:Nat}(h:l ∉ rng nb os.length):Q8 (upF O l o) nb os=upF (Q8 O nb os) l o:=by
 funext i
 by_cases hi:i∈rng nb os.length
 ·rw [(b8t (O':=O) hi).1,Z8 (fun e=>h (by rw [<- e]; exact hi))]
 ·rw [J4 hi]
  by_cases e:i=l
  ·subst e; rw [Z9,Z9]
  ·rw [Z8 e,Z8 e,J4 hi]
omit [∀ E,Rp (I E)] in
theorem b5Q {O0:Obs I}{os:List (Ob I)}{nb:Nat}:∀ {gv:List (Nat×TypeId×V)} {ps:List (PV I)} {O:Obs I},(∀ x∈gv,(∃ ls,O0 x.1=some (some (.var x.2.1 ls true)))/\x.1 ∉ rng nb os.length) ->
 Q8 (apU O (a2Z gv ps)) nb os=asgW O0 (gv.map fun x=>(x.1,x.2.2)) (gv.map (·.1)) ps (Q8 O nb os)
 | [],ps,O,_=>by cases ps<;>rfl
 | x::r,[],O,_=>rfl
 | x::r,p::ps,O,h=>by
   obtain ⟨⟨ls,h1⟩,h2⟩:=h x (by simp)
   simp only [a2Z,apU,List.map_cons,asgW,h1]
   rw [b5Q (gv:=r) (fun y hy=>h y (by simp [hy])),c1d h2]
omit [∀ E,Rp (I E)] in
theorem a2y {O0 O:Obs I}:∀ {pks:List Pk} {vs us:List Value} {gv:List (Nat×TypeId×V)},c0G τ pks vs us->a2W c O gv (V2 pks vs)->gv.map (fun x=>x.2)=a3n pks->(∀ x∈gv,∃ ls,O0 x.1=some (some (.var x.2.1 ls true))) ->
 a3A τ c O0 (gv.map fun x=>(x.1,x.2.2)) (gv.map (·.1)) us
 | [],vs,us,gv,h,_,h3,_=>by
   have hg:gv=[]:=by simpa [a3n] using h3
   subst hg
   cases vs with
   | nil=>exact h
   | cons=>exact h.elim
 | .d k::r,[],us,gv,h,_,_,_=>h.elim
 | .row _ _::r,[],us,gv,h,_,_,_=>h.elim
 | .fn _ _::r,[],us,gv,h,_,_,_=>h.elim
 | .bor _::r,[],us,gv,h,_,_,_=>h.elim
 | .val _::r,[],us,gv,h,_,_,_=>h.elim
 | .lnt _::r,[],us,gv,h,_,_,_=>h.elim
 | .var _ _ false::r,[],us,gv,h,_,_,_=>h.elim
 | .var _ _ true::r,[],us,gv,h,_,_,_=>h.elim
 | .d k::r,v::vs,us,gv,h,h2,h3,h4=>a2y (pks:=r) (vs:=vs) h (by have e:V2 (.d k::r) (v::vs)=V2 r vs:=by cases v<;>rfl
                                                               rw [e] at h2; exact h2) h3 h4
 | .row E f::r,v::vs,us,gv,h,h2,h3,h4=>a2y (pks:=r) (vs:=vs) h (by have e:V2 (.row E f::r) (v::vs)=V2 r vs:=by cases v<;>rfl
                                                                   rw [e] at h2; exact h2) h3 h4
 | .val vk::r,v::vs,us,gv,h,h2,h3,h4=>a2y (pks:=r) (vs:=vs) h (by
    have e:V2 (.val vk::r) (v::vs)=V2 r vs:=by cases v<;>rfl
    rw [e] at h2; exact h2) h3 h4
 | .lnt ks::r,v::vs,us,gv,h,h2,h3,h4=>a2y (pks:=r) (vs:=vs) h (by have e:V2 (.lnt ks::r) (v::vs)=V2 r vs:=by cases v<;>rfl
                                                                  rw [e] at h2; exact h2) h3 h4
 | .bor E::r,v::vs,us,gv,h,h2,h3,h4=>a2y (pks:=r) (vs:=vs) h (by have e:V2 (.bor E::r) (v::vs)=V2 r vs:=by cases v<;>rfl
                                                                 rw [e] at h2; exact h2) h3 h4
 | .fn ks rs::r,v::vs,us,gv,h,h2,h3,h4=>a2y (pks:=r) (vs:=vs) h (by have e:V2 (.fn ks rs::r) (v::vs)=V2 r vs:=by cases v<;>rfl
                                                                    rw [e] at h2; exact h2) h3 h4
 | .var T w false::r,v::vs,us,gv,h,h2,h3,h4=>a2y (pks:=r) (vs:=vs) h (by have e:V2 (.var T w false::r) (v::vs)=V2 r vs:=by cases v<;>rfl
                                                                         rw [e] at h2; exact h2) h3 h4
 | .var T w true::r,v::vs,us,gv,h,h2,h3,h4=>by
   obtain ⟨b,cs,u,us',e1,e2,e3,e4,e5,e6⟩:=h
   subst e1
   subst e2
   cases gv with
   | nil=>simp [a3n] at h3
   | cons x gv =>
     simp only [List.map_cons,a3n,List.cons.injEq] at h3
     obtain ⟨b',bs',ls,q1,q2,q3,q4⟩:=h2
     have hb:V2 (.var T w true::r) (Value.pointer (some ⟨b,0,none⟩)::vs)=b::V2 r vs:=rfl
     rw [hb] at q1
     cases q1
     obtain ⟨ls0,o1⟩:=h4 x (by simp)
     have ih:=a2y (pks:=r) (vs:=vs) (us:=us') (gv:=gv) (O0:=O0) e6 q4 h3.2 (fun y hy=>h4 y (by simp [hy]))
     have hT:x.2.1=T:=by rw [h3.1]
     have hV:x.2.2=w:=by rw [h3.1]
     refine ⟨u,us',b,x.2.1,ls0,true,cs,rfl,o1,q3,by rw [hT]; exact e3,e4,?_,ih⟩
     show bif a34 x.2.2 then _ else _
     rw [hV]; exact e5
theorem b6d (ht:TabOk P tb){r:Row I}{C:World->List Value->Prop}{chk:Obs I->List (PV I)->Bool}(hr:a0F P r C)
 (hC:∀ (X:Cxt) (c:Cx) (σ:S) (s:St I) (n:Nat) (F:Fr) (O:Obs I) (ps:List (PV I)) (vs:List Value),(∀ l o,O l=some (some o)->s.O l=some (some o))->Rel X c σ s n F->chk O ps=true->RVs X c σ ps vs->C σ.w vs):EntOk P (b6K tb r chk):=by
 refine ⟨fun disp ρ O nb ps k=>?_,fun disp hd O nb ps ef he=>?_⟩
 ·show a9G tb r chk disp ρ O nb ps k=(a9G tb r chk disp (Ef I) O nb ps some).bind k
  unfold a9G
  cases chk O ps
  ·rfl
  simp only [cond_true]
  unfold b9C
  simp only [Option.bind_assoc]
  refine c2i fun a=>?_
  cases b8e (grN O r.ps ps) a.2
  ·rfl
  ·simp only [cond_true,Option.bind_assoc]
   rfl
 ·intro X c σ s n F vs hX hO h hvs hfree
  have he':a9G tb r chk disp (Ef I) O nb ps some=some ef:=he
  unfold a9G at he'
  obtain ⟨hck,he'⟩:=y0 he'
  have hCw:=hC X c σ s n F O ps vs hO h hck hvs
  unfold b9C at he'
  obtain ⟨a,ha,he'⟩:=bind_some he'
  obtain ⟨hchk,he'⟩:=y0 he'
  obtain ⟨res,hres,he'⟩:=bind_some he'
  cases he'
  obtain ⟨a,acc⟩:=a
  simp only [b8e,Bool.and_eq_true] at hchk
  obtain ⟨⟨q1,q2⟩,q3⟩:=hchk
  obtain ⟨r1,r2⟩:=a2Y q1
  have hgr:∀ l,some l∈acc.all->l∈grN O r.ps ps:=fun l hl=>by
   have:=(List.all_eq_true.1 q2) _ hl
   exact K2.1 this
  have hrv:∀ l∈acc.rv,l ∉ grN O r.ps ps:=fun l hl=>by
   have:=(List.all_eq_true.1 q3) _ hl
   exact X3.1 (by simpa using this)
  obtain ⟨τ1,p1,p2,p3,p4,p5,p6⟩:=h.pubs hO acc.pub
  have hvs1:=RVs.step p2 _ _ hvs
  have hpubO:∀ {l:Nat},(∀ E (xs:List (I E)),O l≠some (some (.row E xs false)))->(k8 s O acc.pub).O l=s.O l:=fun {l} hn=>by
   show apU s.O (Z3 O acc.pub) l=s.O l
   apply a0M
   intro hm
   have hp:∀ {ls:List Nat},l∈V0 (Z3 O ls)->∃ E,∃ xs:List (I E),O l=some (some (.row E xs false)):=by
    intro ls
    induction ls with
    | nil=>intro h; simp [Z3,V0] at h
    | cons a r ih =>
      intro h
      simp only [Z3] at h
      split at h
      ·rename_i E xs e
       simp only [V0,List.map_cons,List.mem_cons] at h
       rcases h with rfl | h
       ·exact ⟨E,xs,e⟩
       ·exact ih h
      ·exact ih h
   obtain ⟨E,xs,e⟩:=hp hm
   exact hn E xs e
  have hOv:∀ l T ls w,O l=some (some (.var T ls w))->(k8 s O acc.pub).O l=some (some (.var T ls w)):=fun l T ls w ho=>by
   rw [hpubO (fun E xs e=>by rw [ho] at e; cases e)]; exact hO l _ ho
  have hOc:∀ l o,roO [] (Z7 (grN O r.ps ps) O) l=some (some o)->roO [] (Z7 (grN O r.ps ps) (k8 s O acc.pub).O) l=some (some o):=by
   intro l o hl
   unfold roO Z7 at hl ⊢
   cases hm:Q2 l (grN O r.ps ps) with
   | true =>
     rw [hm] at hl
     cases hol:O l with
     | none=>rw [hol] at hl; simp [Q2] at hl
     | some x=>rw [hol] at hl; simp [Q2] at hl
   | false =>
     rw [hm] at hl
     simp only [cond_false,Q2] at hl ⊢
     have hne:∀ E (xs:List (I E)),O l≠some (some (.row E xs false)):=fun E xs e=>by rw [e] at hl; simp at hl
     rw [hpubO hne]
     cases hol:O l with
     | none=>rw [hol] at hl; simp at hl
     | some x =>
       cases x with
       | none=>rw [hol] at hl; simp at hl
       | some o'=>rw [hO l o' hol]; rw [hol] at hl; exact hl
  have hlv:∀ l,some l∈acc.all->(∃ o:Ob I,O l=some (some o)/\a8I o=true)\/(∃ T ls,O l=some (some (.var T ls true)))->w8 (k8 s O acc.pub) l:=fun l hl hx=>by
   rcases hx with ⟨o,ho,_⟩ | ⟨T,ls,ho⟩
   ·exact ⟨_,(p6 l (r2 l hl)).trans (hO l _ ho)⟩
   ·exact ⟨_,hOv l _ _ _ ho⟩
  have core:∀ M:Nat->Prop,(∀ b,M b->τ1.N<=b\/∃ l∈grN O r.ps ps,w8 (k8 s O acc.pub) l/\∃ p,c l=some p/\p.w=some b)->_:=fun M hM =>
   a1L ht hd hX p3 (fun l E xs fl e=>b1j ⟨fl,e⟩ ⟨fl,hO l _ e⟩) (fun l E xs e=>(hpubO (fun E' xs' e'=>by rw [e] at e'; cases e')).trans (hO l _ e)) (fun l T kd m=>⟨fun e=>(hpubO (fun E' xs' e'=>by rw [e] at e'; cases e')).trans (hO l _ e),fun e=>(hpubO (fun E' xs' e'=>by rw [e] at e'; cases e')).trans (hO l _ e)⟩) hOv p4 p5 hOc hM (nb:=nb) ha hvs1 (fun _ h=>h) r2 hrv
  have fin:∀ (pls:List Pl),a3q P (fun b=>τ1.N<=b\/b∈ows pls) τ1 r.ps a vs pls->At c acc.all pls->a2W c O acc.gv (V2 r.ps vs)->(∀ l,some l∈acc.all->(∃ o:Ob I,O l=some (some o)/\a8I o=true)\/∃ T v,(l,T,v)∈acc.gv) ->
   (∀ x∈acc.gv,some x.1∈acc.all)->acc.gv.map (fun x=>x.2)=a3n r.ps->V8 P r.f vs σ (Stp X.M σ) fun v τ=>∃ c',Cx.le c c'/\Rel X c' τ (apE s nb ⟨a4d ((pvT tb nb (r.rs++Z0 r.ps) res).take r.rs.length),Z3 O acc.pub++a0J acc.all++a2Z acc.gv ((pvT tb nb (r.rs++Z0 r.ps) res).drop r.rs.length),obT (r.rs++Z0 r.ps) res⟩) n F /\
     RV X c' τ (a4d ((pvT tb nb (r.rs++Z0 r.ps) res).take r.rs.length)) v:=by
   intro pls k1 k2 k3 k4 k5 k6
   have hgv:∀ x∈acc.gv,∃ ls,O x.1=some (some (.var x.2.1 ls true)):=by
    have:∀ {gv:List (Nat×TypeId×V)} {bs:List Nat},a2W c O gv bs->∀ x∈gv,∃ ls,O x.1=some (some (.var x.2.1 ls true)):=by
     intro gv
     induction gv with
     | nil=>intro bs _ x hx; cases hx
     | cons y r ih =>
       intro bs ⟨b,bs',ls,_,e2,_,e4⟩ x hx
       rcases List.mem_cons.1 hx with rfl | hx
       ·exact ⟨ls,e2⟩
       ·exact ih e4 x hx
    exact this k3
   have hlive:∀ l,some l∈acc.all->w8 (k8 s O acc.pub) l:=fun l hl=>hlv l hl ((k4 l hl).imp id fun ⟨T,v,hm⟩=>by
    obtain ⟨ls,e⟩:=hgv _ hm
    exact ⟨T,ls,e⟩)
   have hnd:(ows pls).Nodup:=At.nodup p3 k2 r1 hlive
   have hown:∀ g∈ows pls,∃ l p,some l∈acc.all/\c l=some p/\p.w=some g:=k2.mem
   have hownM:∀ g∈ows pls,X.M g:=fun g hg=>by
    obtain ⟨l,p,a1,a2,a3⟩:=hown g hg
    exact p3.mine l p g (hlive l a1) a2 a3
   refine V8.mono (hr τ1 a vs pls res k1 (by rw [p1]; exact hCw) hnd hres) p1.symm fun v τ hst ⟨ws,us,pls',hpost⟩=>⟨τ,rfl,p2.trans (hst.mono fun b _ hb=>hownM b hb),?_⟩
   let kl:=acc.all.filterMap id
   have hkl:∀ l,l∈kl↔some l∈acc.all:=fun l=>by simp [kl,List.mem_filterMap]
   let s2:St I:=⟨s.n,s.F,Z7 kl (k8 s O acc.pub).O,s.nx⟩
   have h2:Rel X c τ1 s2 n F:=p3.less (fun l o ho=>(Z6 ho).2) (fun l ho=>a0A.1 ho)
   have hn2:∀ l p g,w8 s2 l->c l=some p->p.w=some g->¬ g∈ows pls:=fun l p g ⟨o,ho⟩ hc hw hg=>by
    obtain ⟨m1,m2⟩:=Z6 ho
    obtain ⟨l',p',a1,a2,a3⟩:=hown g hg
    exact m1 ((hkl l).2 (by rw [p3.inj l l' p p' g ⟨o,m2⟩ (hlive l' a1) hc a2 hw a3]; exact a1))
   have hi2:∀ g,g∈ows pls->notIn c τ1 s2 g:=fun g hg=>by
    obtain ⟨l',p',a1,a2,a3⟩:=hown g hg
    exact (p3.owned (hlive l' a1) a2 a3).sub fun l E E' u xs q e=>(Z6 e).2
   have h3:Rel X c τ s2 n F:=h2.stepG hst hownM hn2 hi2
   have hOpub:apU s.O (Z3 O acc.pub++a0J acc.all)=Z7 kl (k8 s O acc.pub).O:=by
    rw [a0w]
    funext l
    exact b1i fun l hl=>by obtain ⟨o,ho⟩:=hlive l hl; intro e; have:=ho; rw [show (k8 s O acc.pub).O l=apU s.O (Z3 O acc.pub) l from rfl,e] at this; cases this
   have hgvO:∀ x∈acc.gv,∃ ls,(k8 s O acc.pub).O x.1=some (some (.var x.2.1 ls true)):=fun x hx=>by
    obtain ⟨ls,e⟩:=hgv x hx
    exact ⟨ls,hOv _ _ _ _ e⟩
   have hfree2:∀ l∈rng nb (obT (r.rs++Z0 r.ps) res).length,Z7 kl (k8 s O acc.pub).O l=none/\l ∉ acc.gv.map (·.1):=by
    rw [X5] at hfree
    intro l hl
    have h0:=hfree l hl
    rw [a0w,hOpub] at h0
    by_cases hk:l∈V0 (a2Z acc.gv ((pvT tb nb (r.rs++Z0 r.ps) res).drop r.rs.length))
    ·exact absurd h0 (a99 (O':=s.O) hk).2
    ·rw [a0M hk] at h0
     refine ⟨h0,fun hm=>?_⟩
     simp only [List.mem_map] at hm
     obtain ⟨x,hx,e⟩:=hm
     have:=(hkl x.1).2 (k5 x hx)
     rw [e] at this
     have hl2:=hlive l ((hkl l).1 this)
     obtain ⟨o,ho⟩:=hl2
     have:=a0A.1 h0
     rw [ho] at this; cases this
   have hob:=a4r hpost.tt
   obtain ⟨h4,h5⟩:=Rel.addN (nb:=nb) h3 (X5.2 fun l hl=>(hfree2 l hl).1) hob hpost.nodup fun g hg=>by
    have ho:=hpost.own g hg
    refine ⟨ho.1.elim (fun h=>.inl (Nat.le_trans p3.base.1 h)) (hownM g),(ho.1.elim (fun h=>h2.fresh h) (hi2 g)).step h2 hst hn2 hi2,fun l p ⟨o,ho'⟩ hc hw=>?_⟩
    obtain ⟨m1,m2⟩:=Z6 ho'
    rcases ho.1 with hge | hin
    ·have:=(p3.objs l o m2).lt hc hw
     have:τ1.w.heap.size<=g:=hge
     omega
    ·obtain ⟨l',p',a1,a2,a3⟩:=hown g hin
     exact m1 ((hkl l).2 (by rw [p3.inj l l' p p' g ⟨o,m2⟩ (hlive l' a1) hc a2 hw a3]; exact a1))
   obtain ⟨hps,hlen⟩:=b0l (X:=X) (c:=Q1 c nb pls') (nb:=nb) ht hpost.tt W4
   have htk:=RVs.take r.rs.length _ _ hps
   have hdr:=RVs.drop r.rs.length _ _ hps
   rw [List.take_left' hpost.len] at htk
   rw [List.drop_left' hpost.len] at hdr
   have hold:∀ l,(k8 s O acc.pub).O l≠none->Q1 c nb pls' l=c l:=fun l hl=>by
    have key:∀ {ps:List Pl} {c:Cx} {nb:Nat},(l<nb\/nb+ps.length<=l)->Q1 c nb ps l=c l:=by
     intro ps
     induction ps with
     | nil=>intro c nb _; rfl
     | cons p ps ih =>
       intro c nb h
       simp only [Q1]
       rw [ih (by simp only [List.length_cons] at h; omega)]
       have:l≠nb:=by simp only [List.length_cons] at h; omega
       simp [K3,this]
    apply key
    apply Classical.byContradiction
    intro hn
    rw [not_or] at hn
    exact hl (a0A.1 (hfree2 l (W8.2 ⟨by omega,by rw [hob.1]; omega⟩)).1)
   have hvarb:∀ {gv:List (Nat×TypeId×V)} {bs:List Nat},a2W c O gv bs->∀ x∈gv,∀ p g,c x.1=some p->p.w=some g->g∈bs:=by
    intro gv
    induction gv with
    | nil=>intro bs _ x hx; cases hx
    | cons y r ih =>
      intro bs ⟨b,bs',ls,e1,e2,e3,e4⟩ x hx p g hc hw
      subst e1
      rcases List.mem_cons.1 hx with rfl | hx
      ·rw [e3] at hc; cases hc; cases hw; simp
      ·simp [ih e4 x hx p g hc hw]
   have hat:∀ (i:Nat) (y:Nat×V) (p:PV I),(acc.gv.map fun x=>(x.1,x.2.2))[i]?=some y->((pvT tb nb (r.rs++Z0 r.ps) res).drop r.rs.length)[i]?=some p->∃ nb' z,p=pvV tb nb' y.2 z:=fun i y p hi hp=>by
    refine b6g (tb:=tb) (vs:=r.rs++Z0 r.ps) (nb:=nb) (x:=res) (i:=r.rs.length+i) (v:=y.2) ?_ (by rw [List.getElem?_drop] at hp; exact hp)
    rw [List.getElem?_append_right (by simp),Nat.add_sub_cancel_left,<- a07,<- k6]
    rw [List.getElem?_map] at hi
    simp only [List.map_map,List.getElem?_map]
    cases hgi:acc.gv[i]? with
    | none=>rw [hgi] at hi; cases hi
    | some z=>rw [hgi] at hi; cases hi; rfl
   have h6:=Rel.asgW (pls:=pls') ht p3 h5 (a2y hpost.out k3 k6 hgvO) hdr (fun i y p hi hp hag=>by
    obtain ⟨nb',z,e⟩:=hat i y p hi hp
    rw [e]; exact b3Y hag)
    (fun i y p hi hp hag=>by
      obtain ⟨nb',z,e⟩:=hat i y p hi hp
      rw [e]; exact b3Z hag)
    (fun l hl=>hold l (by
      simp only [List.mem_map] at hl
      obtain ⟨x,hx,rfl⟩:=hl
      obtain ⟨ls,e⟩:=hgvO x hx
      rw [e]; simp))
    (fun l hl p g hc hw=>by
      simp only [List.mem_map] at hl
      obtain ⟨x,hx,rfl⟩:=hl
      exact p3.mine x.1 p g (hlive _ (k5 x hx)) hc hw)
    (fun l ⟨o,ho⟩=>by
      by_cases hm:l∈rng nb (obT (r.rs++Z0 r.ps) res).length
      ·right
       obtain ⟨a1,a2⟩:=W8.1 hm
       have hlt:l-nb<pls'.length:=by rw [<- hob.1]; omega
       refine ⟨pls'[l-nb],List.getElem_mem _,?_⟩
       have:=W4 (c:=c) (nb:=nb) (l-nb) pls'[l-nb] (List.getElem?_eq_getElem hlt)
       rw [show nb+(l-nb)=l from by omega] at this
       exact this
      ·left
       have ho':Q8 (Z7 kl (k8 s O acc.pub).O) nb (obT (r.rs++Z0 r.ps) res) l=some (some o):=ho
       rw [J4 hm] at ho'
       obtain ⟨_,m2⟩:=Z6 ho'
       exact ⟨⟨o,m2⟩,hold l (by rw [m2]; simp)⟩)
    (fun l hl p hc g hw hm=>by
      simp only [List.mem_map] at hl
      obtain ⟨x,hx,rfl⟩:=hl
      exact (hpost.own g hm).2 (hvarb k3 x hx p g hc hw))
    (fun l hl p hc g hw=>by
      simp only [List.mem_map] at hl
      obtain ⟨x,hx,rfl⟩:=hl
      obtain ⟨ls,e⟩:=hgvO x hx
      exact (((p3.owned ⟨_,e⟩ hc hw).sub (s':=s2) fun l E E' u xs q e=>(Z6 e).2).step h2 hst hn2 hi2).grow h3 h4 (a1O hob.not))
   refine ⟨_,h4,?_,by rw [hpost.ret]; exact a9J htk⟩
   have hO2:Q8 (apU s.O (Z3 O acc.pub++a0J acc.all++a2Z acc.gv ((pvT tb nb (r.rs++Z0 r.ps) res).drop r.rs.length))) nb (obT (r.rs++Z0 r.ps) res) =
    asgW (k8 s O acc.pub).O (acc.gv.map fun x=>(x.1,x.2.2)) (acc.gv.map (·.1)) ((pvT tb nb (r.rs++Z0 r.ps) res).drop r.rs.length) (Q8 (Z7 kl (k8 s O acc.pub).O) nb (obT (r.rs++Z0 r.ps) res)):=by
    rw [a0w,hOpub]
    exact b5Q fun x hx=>⟨hgvO x hx,fun hm=>(hfree2 x.1 hm).2 (List.mem_map.2 ⟨x,hx,rfl⟩)⟩
   have e:apE s nb ⟨a4d ((pvT tb nb (r.rs++Z0 r.ps) res).take r.rs.length),Z3 O acc.pub++a0J acc.all++a2Z acc.gv ((pvT tb nb (r.rs++Z0 r.ps) res).drop r.rs.length),obT (r.rs++Z0 r.ps) res⟩ =
    ⟨s.n,s.F,asgW (k8 s O acc.pub).O (acc.gv.map fun x=>(x.1,x.2.2)) (acc.gv.map (·.1)) ((pvT tb nb (r.rs++Z0 r.ps) res).drop r.rs.length) (Q8 (Z7 kl (k8 s O acc.pub).O) nb (obT (r.rs++Z0 r.ps) res)),s.nx⟩:=by
    simp only [apE,hO2]
   rw [e]
   exact h6
  obtain ⟨pls0,k1,k2,k3,k4,k5,k6⟩:=core (fun _=>False) (fun _ h=>h.elim)
  obtain ⟨pls,k1',k2',_⟩:=core (fun b=>τ1.N<=b\/b∈ows pls0) (fun b hb=>hb.imp id fun hb=>by
   obtain ⟨l,p,a1,a2,a3⟩:=k2.mem b hb
   refine ⟨l,hgr l a1,hlv l a1 ((k4 l a1).imp id fun ⟨T,v,hm⟩=>?_),p,a2,a3⟩
   have:∀ {gv:List (Nat×TypeId×V)} {bs:List Nat},a2W c O gv bs->∀ x∈gv,∃ ls,O x.1=some (some (.var x.2.1 ls true)):=by
    intro gv
    induction gv with
    | nil=>intro bs _ x hx; cases hx
    | cons y r ih =>
      intro bs ⟨b,bs',ls,_,e2,_,e4⟩ x hx
      rcases List.mem_cons.1 hx with rfl | hx
      ·exact ⟨ls,e2⟩
      ·exact ih e4 x hx
   obtain ⟨ls,e⟩:=this k3 _ hm
   exact ⟨T,ls,e⟩)
  have hsame:ows pls=ows pls0:=by
   have:∀ {rows:List (Option Nat)} {p q:List Pl},At c rows p->At c rows q->ows p=ows q:=by
    intro rows
    induction rows with
    | nil=>intro p q h1 h2; cases h1; cases h2; rfl
    | cons x r ih =>
      intro p q ⟨a,c8N,e1,g1,h1⟩ ⟨b,bs,e2,g2,h2⟩
      subst e1
      subst e2
      have hr:=ih h1 h2
      simp only [ows,List.filterMap_cons] at hr ⊢
      have:a.w=b.w:=by
       cases x with
       | none=>simp only at g1 g2; rw [g1,g2]
       | some l=>simp only at g1 g2; rw [g1] at g2; cases g2; rfl
      rw [this,hr]
   exact this k2' k2
  rw [<- hsame] at k1'
  exact fin pls k1' k2' k3 k4 k5 k6
theorem a92 (ht:TabOk P tb){r:Row I}(hr:a0r P r):EntOk P (b7P tb r) :=
 b6d (C:=fun _ _=>True) (chk:=fun _ _=>true) ht (fun σ a vs pls res h _=>hr σ a vs pls res h) (fun _ _ _ _ _ _ _ _ _ _ _ _ _=>trivial)
def b3V:List (PV I)->List (Option (PV I))->Bool
 | [],[]=>true
 | .ptr a 0::r,some (.ptr b 0)::r'=>Nat.beq a b&&b3V r r'
 | _,_=>false
def b7R (T:TypeId)(f:FuncId)(j:Nat)(is:List Nat)(O:Obs I)(ps:List (PV I)):Bool:=match ps[j]? with
 | some (.ptr l 0)=>match O l with
   | some (some (.var T' [.clo f' ls] _))=>Nat.beq T T'&&(Nat.beq f f'&&b3V ls (is.map (ps[·]?)))
   | _=>false
 | _=>false
def a6D (T:TypeId)(f:FuncId)(j:Nat)(is:List Nat)(w:World)(vs:List Value):Prop :=
 ∃ b c8N,vs[j]?=some (.pointer (some ⟨b,0,none⟩))/\w.heap[b]?=some (.cells #[.func (.func f) #[] (List.toArray c8N)] T (0,0))/\is.map (vs[·]?)=c8N.map some
theorem b93:∀ {ls:List (PV I)} {is:List Nat} {ps:List (PV I)} {vs c8N:List Value},b3V ls (is.map (ps[·]?))=true->RVs X c σ ps vs->RVs X c σ ls c8N->is.map (vs[·]?)=c8N.map some
 | [],[],_,_,c8N,_,_,ha=>by
   simp only [RVs] at ha
   subst ha; rfl
 | [],_::_,_,_,_,h,_,_=>by simp [b3V] at h
 | p::r,[],_,_,_,h,_,_=>by cases p<;>simp [b3V] at h
 | p::r,i::is,ps,vs,c8N,h,hv,ha=>by
   simp only [RVs] at ha
   obtain ⟨a,as',rfl,h1,h2⟩:=ha
   simp only [List.map_cons] at h ⊢
   unfold b3V at h
   split at h
   ·rename_i e1 _
    cases e1
   ·rename_i l0 r0 l1 r1 e1 e2
    obtain ⟨e3,e4⟩:=List.cons.inj e1
    obtain ⟨hps,hr1⟩:=List.cons.inj e2
    subst e3
    subst e4
    subst hr1
    simp only [Bool.and_eq_true] at h
    have e:=Nat.eq_of_beq_eq_true h.1
    subst e
    obtain ⟨v,hvi,hrv⟩:=RVs.at_ _ _ hv i _ hps
    rw [hvi,b93 h.2 hv h2]
    simp only [RV] at hrv h1
    obtain ⟨b,w,k1,rfl⟩:=hrv
    obtain ⟨b',w',k2,rfl⟩:=h1
    rw [k1] at k2
    cases k2
    rfl
   ·cases h
theorem c2b {T:TypeId}{f:FuncId}{j:Nat}{is:List Nat}{ps:List (PV I)}{vs:List Value}(hO:∀ l o,O l=some (some o)->s.O l=some (some o))(h:Rel X c σ s n F)(hc:b7R T f j is O ps=true)(hv:RVs X c σ ps vs):a6D T f j is σ.w vs:=by
 unfold b7R at hc
 split at hc
 ·rename_i l hj
  split at hc
  ·rename_i T' f' ls w' ho
   simp only [Bool.and_eq_true] at hc
   have eT:=Nat.eq_of_beq_eq_true hc.1
   have ef:=Nat.eq_of_beq_eq_true hc.2.1
   subst eT
   subst ef
   obtain ⟨v,hvj,hrv⟩:=RVs.at_ _ _ hv j _ hj
   simp only [RV] at hrv
   obtain ⟨b,w,k1,rfl⟩:=hrv
   obtain ⟨b',cs,k2,k3,k4,_⟩:=h.objs l _ (hO _ _ ho)
   rw [k1] at k2
   cases k2
   simp only [RG] at k3
   obtain ⟨a,r,rfl,hcl,rfl⟩:=k3
   rcases hcl with hcl | ⟨_,u,rfl,hu⟩
   ·exact hcl.elim
   simp only [RV] at hu
   obtain ⟨c8N,rfl,has⟩:=hu
   exact ⟨b,c8N,hvj,by simpa using k4,b93 hc.2.2 hv has⟩
  ·cases hc
 ·cases hc
def c2n (T:TypeId)(f:FuncId)(l:Nat)(j:Nat)(is:List Nat)(s:St I):St I:=v8 s l (some (.var T [.clo f (is.filterMap s.F)] false))
theorem c1R:∀ {is:List Nat} {ps:List (PV I)} {vs c8N:List Value},is.all (fun i=>Nat.blt i ps.length)=true->RVs X c σ ps vs->is.map (vs[·]?)=c8N.map some->RVs X c σ (is.filterMap (ps[·]?)) c8N
 | [],_,_,c8N,_,_,e=>by
   cases c8N with
   | nil=>simp only [List.filterMap_nil,RVs]
   | cons=>cases e
 | i::is,ps,vs,c8N,hl,hv,e=>by
   cases c8N with
   | nil=>cases e
   | cons a c8N =>
     simp only [List.map_cons,List.cons.injEq] at e
     simp only [List.all_cons,Bool.and_eq_true] at hl
     have hi:i<ps.length:=by
      have:=hl.1
      rw [Nat.blt_eq] at this
      exact this
     have hp:=List.getElem?_eq_getElem hi
     obtain ⟨v,hvi,hrv⟩:=RVs.at_ _ _ hv i _ hp
     rw [e.1] at hvi
     cases hvi
     rw [List.filterMap_cons,hp]
     simp only [RVs]
     exact ⟨a,c8N,rfl,hrv,c1R hl.2 hv e.2⟩
theorem c0J {T:TypeId}{f:FuncId}{l j:Nat}{is:List Nat}{nt:Nat}{ps:List Pk}{a:a0h I ps}{vs:List Value}(hl:(a2F tb nt ps a).O l=some (some (.var T [.any] false)))(hj:(V4 tb 0 ps a)[j]?=some (.ptr l 0))(his:is.all (fun i=>Nat.blt i (V4 tb 0 ps a).length)=true)
 (h:Rel X c σ (a2F tb nt ps a) nt F) (hv:RVs X c σ (V4 tb 0 ps a) vs) (hC:a6D T f j is σ.w vs):Rel X c σ (c2n T f l j is (a2F tb nt ps a)) nt F:=by
 obtain ⟨b,c8N,h1,h2,h3⟩:=hC
 obtain ⟨v,hvj,hrv⟩:=RVs.at_ _ _ hv j _ hj
 rw [h1] at hvj
 cases hvj
 simp only [RV] at hrv
 obtain ⟨b',w,k1,e⟩:=hrv
 cases e
 obtain ⟨b',cs,k2,k3,k4,k5,k6⟩:=h.objs l _ hl
 rw [k1] at k2
 cases k2
 refine h.revive ⟨b,[.func (.func f) #[] (List.toArray c8N)],k1,?_,by simpa using h2,k5,k6⟩ fun p g hp hg=>?_
 ·simp only [RG]
  refine ⟨_,[],rfl,.inr ⟨rfl,_,rfl,?_⟩,rfl⟩
  simp only [RV]
  exact ⟨c8N,rfl,c1R his hv h3⟩
 ·exact ⟨h.mine l p g ⟨_,hl⟩ hp hg,h.owned ⟨_,hl⟩ hp hg,fun l' p' hne hlv hp' hg'=>hne (h.inj l' l p' p g hlv ⟨_,hl⟩ hp' hp hg' hg)⟩
end
end Go.Qx
end
section
namespace Go.Qx
open Go Go.RowKit Go.Sx
section
variable {I:TypeId->Type} [∀ E,Rp (I E)] {P:Program}{tb:Tab I}{X:Cxt}{c c':Cx}{σ τ:S}{s:St I}{n:Nat}{F:Fr}{O:Obs I}
structure Rio (I:TypeId->Type) where
 f:FuncId
 E:TypeId
 ps:List Pk
 rs:List V
 run:List (I E)->b5v I ps (TyT I (rs++Z0 ps)×List (I E))
def a3V (P:Program)(r:Rio I):Prop:=∀ (σ:S) (xs:List (I r.E)) (a:a0h I r.ps) (vs:List Value) (pls:List Pl) (res:TyT I (r.rs++Z0 r.ps)) (ys:List (I r.E)),
 a3q P (fun b=>σ.N<=b\/b∈ows pls) σ (.row r.E false::r.ps) (xs,a) vs pls->(ows pls).Nodup->a63 r.ps (r.run xs) a=some (res,ys) ->
  V8 P r.f vs σ (Stp (fun b=>b∈ows pls) σ) fun v τ=>∃ ws us pls',Post σ τ (.row r.E false::r.ps) r.rs vs res (ows pls) v ws us pls' /\
   ∃ A k ow,pls.head?=some ⟨A,k,xs.length,ow⟩/\ys.length=xs.length/\Q6 ow false r.E τ ys A k/\∀ g,ow=some g->g ∉ ows pls'
def c62 (tb:Tab I)(E:TypeId)(ps:List Pk)(rs:List V)(results:List ResultVar):Ex->St I->Option (TyT I (rs++Z0 ps)×List (I E)):=fun e s=>match e with
 | .exit _=>none
 | _=>Option.bind (a5l tb s results) fun a=>Option.bind (a1p s 1 ps) fun b=>Option.bind (a0X tb s.O (rs++Z0 ps) (a++b)) fun x=>Option.bind (a3W tb s.O (.row E false) (.vw 0)) fun y =>
    bif a3F (x.2.1++a3o 1 ps) (y.2.2++x.2.2)&&a1w y.2.1&&Nat.beq a.length rs.length then some (x.1,y.1) else none
def c5t (tb:Tab I)(disp:Q9 I)(H:Hints I)(cd:Code)(nt:Nat)(E:TypeId)(ps:List Pk)(rs:List V)(results:List ResultVar)(xs:List (I E))(a:a0h I ps):Option (TyT I (rs++Z0 ps)×List (I E)) :=
 a0C tb disp H cd 1 (TyT I (rs++Z0 ps)×List (I E)) (a2F tb nt (.row E false::ps) (xs,a)) (c62 tb E ps rs results)
def F0v (vs:List Value):Value:=vs.headD undef
omit [∀ E,Rp (I E)] in
theorem b77 {E:TypeId}{fl:Bool}{l:Nat}{y:List (I E)×List Nat×List (Option Nat)}(h:a3W tb O (.row E fl) (.vw l)=some y):y.2.2=[some l]:=by
 simp only [a3W] at h
 split at h
 ·replace h:=bind_some h
  obtain ⟨ys,hys,h⟩:=h
  cases fl<;>rename_i fl' _<;>cases fl'<;>first | (cases h; rfl) | cases h
 ·cases h
theorem c59 (ht:TabOk P tb){M:Nat->Prop}(hM:∀ b,X.M b->M b)(hX:X.P=P){E:TypeId}{ps:List Pk}{xs:List (I E)}{a:a0h I ps}{vs:List Value}{pls:List Pl}{nt:Nat}(hA:a3q P M σ (.row E false::ps) (xs,a) vs pls)
 (hr:Rel X (fun _=>none) σ (⟨nt,fun _=>none,fun _=>none,0⟩:St I) nt F) (hnd:(ows pls).Nodup) (hMg:∀ g∈ows pls,X.M g) :
 ∃ c',Rel X c' σ ⟨nt,fun _=>none,a8V tb 0 (.row E false::ps) (xs,a) (fun _=>none),0⟩ nt F/\RVs X c' σ (V4 tb 0 (.row E false::ps) (xs,a)) vs/\∃ A k ow,pls.head?=some ⟨A,k,xs.length,ow⟩/\c' 0=some ⟨A,k,xs.length,ow⟩:=by
 obtain ⟨v,vs',p1,p2,e1,e2,⟨A,k,ow,e4,h1,e3⟩,h2⟩:=hA
 have h1:Q6 ow false E σ xs A k:=h1
 have e4:v=.slice A xs.length k:=e4
 have e3:p1=[⟨A,k,xs.length,ow⟩]:=e3
 have h2:a3q P M σ ps a vs' p2:=h2
 subst e3
 subst e2
 obtain ⟨a1,a2⟩:=hr.newRow (nb:=0) (E:=E) (xs:=xs) (fl:=false) rfl h1 fun g hg=>⟨hMg g (by simp [ows,hg]),noN.notIn (fun _ _ _ _ _ _ h=>by cases h),fun l' p' ⟨_,hl⟩=>by cases hl⟩
 obtain ⟨c',k1,k2,k3⟩:=a4B (nb:=1) (s:=v8 (⟨nt,fun _=>none,fun _=>none,0⟩:St I) 0 (some (.row E xs false))) (done:=ows [⟨A,k,xs.length,ow⟩]) ht hM hX h2 a2 (fun l hl=>by
  show upF _ 0 _ l=none
  rw [Z8 (by omega)]) (fun l p g ⟨o,ho⟩ hc hw=>by
  rcases j9 ho with ⟨e,_⟩ | ⟨e,ho'⟩
  ·subst e
   rw [Z5] at hc
   cases hc
   simp only at hw
   subst hw
   simp [ows]
  ·cases ho') (by rw [<- K0]; exact hnd) (fun g hg=>hMg g (by rw [K0]; simp [hg])) (noN.set fun _ _ _ _ _ _ h=>by cases h)
 have hc0:=k1 _ _ (Z5 _ _ _)
 refine ⟨c',k2,?_,A,k,ow,rfl,hc0⟩
 simp only [V4,RVs,RV]
 exact ⟨v,vs',e1,⟨_,hc0,e4⟩,k3⟩
theorem c7N (ht : TabOk P tb) {r : Rio I} {fn : Func} {cd : Code} (nt : Nat) {rl : List ResultVar} (hf : P.funcs[r.f]? = some fn) (hb : fn.body = some cd) (hname : (fn.name == "runtime.NumGoroutine") = false)
 (hn:fn.ntmps=nt) (hres:fn.results.toList=rl) (hle:Nat.ble (r.ps.length+1) nt=true)
 (hspec:∀ (X:Cxt) (c:Cx) (σ:S) (F:Fr) (Q:Exit->Act->World->Prop) (xs:List (I r.E)) (a:a0h I r.ps) (res:TyT I (r.rs++Z0 r.ps)×List (I r.E)),X.P=P->Rel X c σ (a2F tb nt (.row r.E false::r.ps) (xs,a)) nt F->a63 r.ps (r.run xs) a=some res ->
   (∀ (e:Ex) (s':St I) (c':Cx) (τ:S) (F':Fr),c62 tb r.E r.ps r.rs rl e s'=some res->Cx.le c c'->Rel X c' τ s' nt F'->Stp X.M σ τ->Q (a02 e) (fr nt F') τ.w)->cd.wp P Q (fr nt F) σ.w) (hlo:tb.lo=0:=by rfl):a3V P r:=by
 intro σ xs a vs pls res ys hA hnd happ
 let X:Cxt:=⟨P,σ.N,fun b=>b∈ows pls⟩
 have hlen:vs.length=r.ps.length+1:=hA.len
 have hini:Rel X (fun _=>none) σ (⟨nt,fun _=>none,fun _=>none,0⟩:St I) nt (V7 vs) :=
  ⟨rfl,(fun _ _ h=>by cases h),(fun _ _ h=>by cases h),(fun _ _ _ _ _ ⟨_,h⟩=>by cases h),(fun _ _ _ ⟨_,h⟩=>by cases h),fun _ _=>rfl,⟨Nat.le_refl _,fun E=>Nat.le_trans (ht.low E) (by rw [hlo]; exact Nat.zero_le _)⟩,noN.nests fun _ _ _ _ _ _ h=>by cases h⟩
 obtain ⟨c1,i2,i3,A0,k0,ow0,hpl0,hc01⟩:=c59 (tb:=tb) (X:=X) ht (fun b hb=>hb) rfl hA hini hnd (fun g hg=>.inr hg)
 have hrel:Rel X c1 σ (a2F tb nt (.row r.E false::r.ps) (xs,a)) nt (V7 vs):=by
  refine ⟨rfl,fun i p hp=>?_,i2.objs,i2.inj,i2.mine,i2.nom,i2.base,i2.nst⟩
  obtain ⟨v,hv,hr⟩:=RVs.at_ _ _ i3 i p hp
  have:V7 vs i=v:=by simp [V7,List.getD,hv]
  rw [this]; exact hr
 refine .inl ⟨⟨fn,cd,hf,hb,hname⟩,calls_of_wp hf hb ?_⟩
 have hle':=Nat.le_of_ble_eq_true hle
 have e:(⟨vs.toArray++Array.replicate (fn.ntmps-vs.toArray.size) undef,[]⟩:Act)=fr nt (V7 vs):=by
  rw [hn]
  simp only [fr]
  congr 1
  apply Array.ext
  ·simp; omega
  ·intro i h1 h2
   simp only [Array.getElem_ofFn,V7,Array.getElem_append]
   split
   ·rename_i hi; simp at hi; simp [List.getD,List.getElem?_eq_getElem hi]
   ·rename_i hi; simp at hi; simp [List.getD,List.getElem?_eq_none hi]
 rw [e]
 refine hspec X c1 σ (V7 vs) _ xs a (res,ys) rfl hrel happ fun ex s' c2 τ F' hfin hle2 hr st=>?_
 have key:(Option.bind (a5l tb s' rl) fun a=>Option.bind (a1p s' 1 r.ps) fun b=>Option.bind (a0X tb s'.O (r.rs++Z0 r.ps) (a++b)) fun x=>Option.bind (a3W tb s'.O (.row r.E false) (.vw 0)) fun y =>
  bif a3F (x.2.1++a3o 1 r.ps) (y.2.2++x.2.2)&&a1w y.2.1&&Nat.beq a.length r.rs.length then some (x.1,y.1) else none)=some (res,ys) ->
  ∃ v,(results fn (fr nt F').tmps).run P τ.w=.ok v τ.w/\∃ v' τ',Ending.returned v=.returned v'/\τ'.w=τ.w/\Stp (fun b=>b∈ows pls) σ τ'/\∃ ws us pls',Post σ τ' (.row r.E false::r.ps) r.rs vs res (ows pls) v' ws us pls' /\
   ∃ A k ow,pls.head?=some ⟨A,k,xs.length,ow⟩/\ys.length=xs.length/\Q6 ow false r.E τ' ys A k/\∀ g,ow=some g->g ∉ ows pls':=by
  intro hfin
  obtain ⟨ra,hra,hfin⟩:=bind_some hfin
  obtain ⟨rb,hrb,hfin⟩:=bind_some hfin
  obtain ⟨y,hy,hfin⟩:=bind_some hfin
  obtain ⟨yy,hyy,hfin⟩:=bind_some hfin
  obtain ⟨hrows,hfin⟩:=y0 hfin
  cases hfin
  simp only [Bool.and_eq_true] at hrows
  obtain ⟨q1,q2w⟩:=a2Y hrows.1.1
  have q2:∀ l,some l∈yy.2.2++y.2.2->l ∉ y.2.1:=fun l hl hm=>q2w l hl (List.mem_append_left _ hm)
  have hnil:=a1s hrows.1.2
  rw [List.filterMap_append,List.nodup_append] at q1
  have r1:=q1.2.1
  have r2:∀ l,some l∈y.2.2->l ∉ y.2.1:=fun l hl=>q2 l (by simp [hl])
  have hal:=Nat.eq_of_beq_eq_true hrows.2
  obtain ⟨τ',p1,p2,p3,p4,p5,p6⟩:=hr.pubs (O:=s'.O) (fun _ _ h=>h) y.2.1
  obtain ⟨ws,w1,w2⟩:=a6T ht hr hra
  have hrb':a1p (k8 s' s'.O y.2.1) 0 (.row r.E false::r.ps)=some rb:=by
   show a1p (k8 s' s'.O y.2.1) 1 r.ps=some rb
   have:∀ {ps:List Pk} {nb:Nat} {qs:List (PV I)},a1p s' nb ps=some qs->a1p (k8 s' s'.O y.2.1) nb ps=some qs:=by
    intro ps
    induction ps with
    | nil=>intro nb qs h; exact h
    | cons p r ih =>
      intro nb qs h
      cases p with
      | d k=>exact ih h
      | fn ks rs=>exact ih h
      | row E fl=>exact ih h
      | bor E=>exact ih h
      | val v=>exact ih h
      | lnt ks=>exact ih h
      | var T v w =>
        cases w with
        | false=>exact ih h
        | true =>
          simp only [a1p] at h ⊢
          split at h
          ·rename_i T' ls ho
           rw [c0i ho]
           replace h:=y0 h
           obtain ⟨hT,h⟩:=h
           simp only [hT,cond_true]
           replace h:=bind_some h
           obtain ⟨p,hp,h⟩:=h
           replace h:=bind_some h
           obtain ⟨ps',hps,h⟩:=h
           rw [hp,Option.bind_some,ih hps]
           exact h
          ·cases h
   exact this hrb
  have hvs:RVs X c2 τ' (V4 tb 0 (.row r.E false::r.ps) (xs,a)) vs:=RVs.step (st.trans p2) _ _ (RVs.grow hle2 _ _ i3)
  obtain ⟨us,u1,u2,u3⟩:=a2C ht p3 (ps:=.row r.E false::r.ps) (a:=(xs,a)) hrb' hvs
  have hRV:=RVs.app _ _ _ _ (RVs.step p2 _ _ w1) u1
  obtain ⟨pls',t1,t2⟩:=a6P ht p4 p5 (ls:=y.2.1) (rows:=y.2.2) hy (fun l hl=>hl) (fun l hl=>r2 l hl) hRV
  have hlive:=a8y (ls:=y.2.1) (rows:=y.2.2) hy
  have hl3:∀ l,some l∈y.2.2->w8 (k8 s' s'.O y.2.1) l:=fun l hl=>by
   obtain ⟨o,ho,_⟩:=hlive l hl
   exact ⟨_,(p6 l (r2 l hl)).trans ho⟩
  have h00:RV X c2 τ' (.vw 0:PV I) (F0v vs):=by
   simp only [V4,RVs] at hvs
   obtain ⟨v0,vs0,e0,h0,_⟩:=hvs
   rw [e0]; exact h0
  obtain ⟨pls0,z1,z2⟩:=a9v ht p4 p5 (ls:=yy.2.1) (rows:=yy.2.2) hyy (fun l hl=>by rw [hnil] at hl; cases hl) (fun l hl=>q2 l (by simp [hl])) h00
  have hc0:=hle2 _ _ hc01
  have hy0:yy.2.2=[some 0]:=b77 hyy
  rw [hy0] at z2
  obtain ⟨pz,pzs,e5,e6,e7⟩:=z2
  cases e7
  obtain ⟨A1,k1,ow1,e8,e9,e10⟩:=z1
  rw [e5] at e9
  cases e9
  have e6':c2 0=some ⟨A1,k1,List.length yy.1,ow1⟩:=e6
  rw [hc0,Option.some.injEq,Pl.mk.injEq] at e6'
  obtain ⟨rfl,rfl,hlen2,rfl⟩:=e6'
  refine ⟨a1Q ws,a5C (by rw [hres]; exact w2),a1Q ws,τ',rfl,p1,(st.trans p2).mono fun b hb hM=>?_,ws,us,pls',⟨rfl,?_,t1,u2,At.nodup p3 t2 r1 hl3,fun g hg=>?_⟩,_,_,_,hpl0,hlen2.symm,e10,fun g hg hm=>?_⟩
  ·rcases hM with h | h
   ·have:σ.N<=b:=h
    omega
   ·exact h
  ·rw [RVs.len _ _ w1,hal]
  ·obtain ⟨l,p,a1,a2,a3⟩:=t2.mem g hg
   refine ⟨p3.mine l p g (hl3 l a1) a2 a3,fun hm=>?_⟩
   obtain ⟨l',p',T,ls,w,ho',hc',hw',hn'⟩:=u3 g hm
   have e:=p3.inj l l' p p' g (hl3 l a1) ⟨_,ho'⟩ a2 hc' a3 hw'
   subst e
   exact q2w l (List.mem_append_right _ a1) (List.mem_append_right _ hn')
  ·obtain ⟨l,p,a1,a2,a3⟩:=t2.mem g hm
   have hl0:w8 (k8 s' s'.O y.2.1) 0:=by
    obtain ⟨E,xs,fl,ho⟩:=b7h (ls:=yy.2.1) (rows:=yy.2.2) hyy 0 (by rw [hy0]; simp)
    exact ⟨_,(p6 0 (q2 0 (by rw [hy0]; simp))).trans ho⟩
   have e:=p3.inj 0 l _ p g hl0 (hl3 l a1) hc0 a2 hg a3
   subst e
   rw [hy0] at q1
   exact q1.2.2 0 (by simp) 0 (List.mem_filterMap.2 ⟨_,a1,rfl⟩) rfl
 cases ex with
 | exit i=>cases hfin
 | normal =>
   obtain ⟨v,h1,v',τ',h2,h3⟩:=key hfin
   exact ⟨rfl,v,h1,v',τ',h2,h3⟩
 | ret =>
   obtain ⟨v,h1,v',τ',h2,h3⟩:=key hfin
   exact ⟨rfl,v,h1,v',τ',h2,h3⟩
theorem c7B (ht : TabOk P tb) {disp : Q9 I} (hd : DispOk P disp) (hmx : P.follows .mixedOrders = true) {r : Rio I} {fn : Func} {cd : Code} (nt : Nat) {H : Hints I} {rl : List ResultVar} (hf : P.funcs[r.f]? = some fn) (hb : fn.body = some cd) (hname : (fn.name == "runtime.NumGoroutine") = false)
 (hn:fn.ntmps=nt) (hres:fn.results.toList=rl) (hle:Nat.ble (r.ps.length+1) nt=true) (hcode:W5 H cd 1=true) (hrun:r.run=fun xs=>b0Q r.ps (c5t tb disp H cd nt r.E r.ps r.rs rl xs)) (hlo:tb.lo=0:=by rfl):a3V P r :=
 c7N ht nt hf hb hname hn hres hle (hlo:=hlo) fun X c σ F Q xs a res hX hrel happ hk=>by
  rw [hrun,b1f] at happ
  exact W9 ht hd hmx cd 1 hcode _ _ _ res X c σ F Q hX happ hrel fun e s' c' τ F' g1 g2 g3 g4 _=>hk e s' c' τ F' g1 g2 g3 g4
def b3U (tb:Tab I)(r:Rio I)(disp:Q9 I)(ρ:Type)(O:Obs I)(nb:Nat)(ps:List (PV I))(k:Ef I->Option ρ):Option ρ:=match ps with
 | .vw l::ps'=>Option.bind (a3U tb disp O (roO [] (Z7 (grN O (.row r.E false::r.ps) (.vw l::ps')) O)) nb (.row r.E false::r.ps) (.vw l::ps')) fun a =>
   bif b8e (grN O (.row r.E false::r.ps) (.vw l::ps')) a.2 then Option.bind (a63 r.ps (r.run a.1.1) a.1.2) fun res =>
    k ⟨a4d ((pvT tb nb (r.rs++Z0 r.ps) res.1).take r.rs.length),(Z3 O a.2.pub++a0J a.2.all++a2Z a.2.gv ((pvT tb nb (r.rs++Z0 r.ps) res.1).drop r.rs.length))++[(l,some (.row r.E res.2 false))],obT (r.rs++Z0 r.ps) res.1⟩ else none
 | _=>none
def c46 (tb:Tab I)(r:Rio I):Ans I:=⟨r.f,b3U tb r⟩
theorem c1S (ht:TabOk P tb){r:Rio I}(hr:a3V P r):EntOk P (c46 tb r):=by
 refine ⟨fun disp ρ O nb ps k=>?_,fun disp hd O nb ps ef he=>?_⟩
 ·show b3U tb r disp ρ O nb ps k=(b3U tb r disp (Ef I) O nb ps some).bind k
  unfold b3U
  split
  ·rename_i l0 ps'
   simp only [Option.bind_assoc]
   refine c2i fun a=>?_
   cases b8e (grN O (.row r.E false::r.ps) (.vw l0::ps')) a.2
   ·rfl
   ·simp only [cond_true,Option.bind_assoc]
    rfl
  ·rfl
 ·intro X c σ s n F vs hX hO h hvs hfree
  have he':b3U tb r disp (Ef I) O nb ps some=some ef:=he
  unfold b3U at he'
  split at he'
  rotate_left
  ·cases he'
  rename_i l0 ps'
  replace he':=bind_some he'
  obtain ⟨a,ha,he'⟩:=he'
  replace he':=y0 he'
  obtain ⟨hchk,he'⟩:=he'
  replace he':=bind_some he'
  obtain ⟨res,hres,he'⟩:=he'
  cases he'
  obtain ⟨a,acc⟩:=a
  obtain ⟨res,ys⟩:=res
  have hrow0:∃ rest,acc.all=some l0::rest:=by
   obtain ⟨x,hx,e⟩:=bind_some ha
   obtain ⟨y,hy,e⟩:=bind_some e
   cases e
   exact ⟨y.2.all,by show x.2.2++y.2.all=_; rw [b77 hx]; rfl⟩
  have hO0:∃ E,∃ xs:List (I E),∃ fl,O l0=some (some (.row E xs fl)):=by
   obtain ⟨x,hx,e⟩:=bind_some ha
   exact b7h (ls:=x.2.1) (rows:=x.2.2) hx l0 (by rw [b77 hx]; simp)
  have hfree:a0p (apU s.O (Z3 O acc.pub++a0J acc.all++a2Z acc.gv ((pvT tb nb (r.rs++Z0 r.ps) res).drop r.rs.length))) nb (obT (r.rs++Z0 r.ps) res)=true/\l0 ∉ rng nb (obT (r.rs++Z0 r.ps) res).length:=by
   have hf:a0p (apU s.O ((Z3 O acc.pub++a0J acc.all++a2Z acc.gv ((pvT tb nb (r.rs++Z0 r.ps) res).drop r.rs.length))++[(l0,some (Ob.row r.E ys false))])) nb (obT (r.rs++Z0 r.ps) res)=true:=hfree
   rw [a0w] at hf
   rw [X5] at hf ⊢
   have hne:l0 ∉ rng nb (obT (r.rs++Z0 r.ps) res).length:=fun hm=>by
    have:=hf l0 hm
    simp [apU,Z9] at this
   refine ⟨fun l hl=>?_,hne⟩
   have h1:=hf l hl
   have e:l≠l0:=fun e=>hne (by rw [<- e]; exact hl)
   simpa [apU,Z8 e] using h1
  obtain ⟨hfree,hl0n⟩:=hfree
  simp only [b8e,Bool.and_eq_true] at hchk
  obtain ⟨⟨q1,q2⟩,q3⟩:=hchk
  obtain ⟨r1,r2⟩:=a2Y q1
  have hgr:∀ l,some l∈acc.all->l∈grN O (.row r.E false::r.ps) (.vw l0::ps'):=fun l hl=>by
   have:=(List.all_eq_true.1 q2) _ hl
   exact K2.1 this
  have hrv:∀ l∈acc.rv,l ∉ grN O (.row r.E false::r.ps) (.vw l0::ps'):=fun l hl=>by
   have:=(List.all_eq_true.1 q3) _ hl
   exact X3.1 (by simpa using this)
  obtain ⟨τ1,p1,p2,p3,p4,p5,p6⟩:=h.pubs hO acc.pub
  have hvs1:=RVs.step p2 _ _ hvs
  have hpubO:∀ {l:Nat},(∀ E (xs:List (I E)),O l≠some (some (.row E xs false)))->(k8 s O acc.pub).O l=s.O l:=fun {l} hn=>by
   show apU s.O (Z3 O acc.pub) l=s.O l
   apply a0M
   intro hm
   have hp:∀ {ls:List Nat},l∈V0 (Z3 O ls)->∃ E,∃ xs:List (I E),O l=some (some (.row E xs false)):=by
    intro ls
    induction ls with
    | nil=>intro h; simp [Z3,V0] at h
    | cons a r ih =>
      intro h
      simp only [Z3] at h
      split at h
      ·rename_i E xs e
       simp only [V0,List.map_cons,List.mem_cons] at h
       rcases h with rfl | h
       ·exact ⟨E,xs,e⟩
       ·exact ih h
      ·exact ih h
   obtain ⟨E,xs,e⟩:=hp hm
   exact hn E xs e
  have hOv:∀ l T ls w,O l=some (some (.var T ls w))->(k8 s O acc.pub).O l=some (some (.var T ls w)):=fun l T ls w ho=>by
   rw [hpubO (fun E xs e=>by rw [ho] at e; cases e)]; exact hO l _ ho
  have hOc:∀ l o,roO [] (Z7 (grN O (.row r.E false::r.ps) (.vw l0::ps')) O) l=some (some o)->roO [] (Z7 (grN O (.row r.E false::r.ps) (.vw l0::ps')) (k8 s O acc.pub).O) l=some (some o):=by
   intro l o hl
   unfold roO Z7 at hl ⊢
   cases hm:Q2 l (grN O (.row r.E false::r.ps) (.vw l0::ps')) with
   | true =>
     rw [hm] at hl
     cases hol:O l with
     | none=>rw [hol] at hl; simp [Q2] at hl
     | some x=>rw [hol] at hl; simp [Q2] at hl
   | false =>
     rw [hm] at hl
     simp only [cond_false,Q2] at hl ⊢
     have hne:∀ E (xs:List (I E)),O l≠some (some (.row E xs false)):=fun E xs e=>by rw [e] at hl; simp at hl
     rw [hpubO hne]
     cases hol:O l with
     | none=>rw [hol] at hl; simp at hl
     | some x =>
       cases x with
       | none=>rw [hol] at hl; simp at hl
       | some o'=>rw [hO l o' hol]; rw [hol] at hl; exact hl
  have hlv:∀ l,some l∈acc.all->(∃ o:Ob I,O l=some (some o)/\a8I o=true)\/(∃ T ls,O l=some (some (.var T ls true)))->w8 (k8 s O acc.pub) l:=fun l hl hx=>by
   rcases hx with ⟨o,ho,_⟩ | ⟨T,ls,ho⟩
   ·exact ⟨_,(p6 l (r2 l hl)).trans (hO l _ ho)⟩
   ·exact ⟨_,hOv l _ _ _ ho⟩
  have core:∀ M:Nat->Prop,(∀ b,M b->τ1.N<=b\/∃ l∈grN O (.row r.E false::r.ps) (.vw l0::ps'),w8 (k8 s O acc.pub) l/\∃ p,c l=some p/\p.w=some b)->_:=fun M hM =>
   a1L ht hd hX p3 (fun l E xs fl e=>b1j ⟨fl,e⟩ ⟨fl,hO l _ e⟩) (fun l E xs e=>(hpubO (fun E' xs' e'=>by rw [e] at e'; cases e')).trans (hO l _ e)) (fun l T kd m=>⟨fun e=>(hpubO (fun E' xs' e'=>by rw [e] at e'; cases e')).trans (hO l _ e),fun e=>(hpubO (fun E' xs' e'=>by rw [e] at e'; cases e')).trans (hO l _ e)⟩) hOv p4 p5 hOc hM (nb:=nb) ha hvs1 (fun _ h=>h) r2 hrv
  have fin:∀ (pls:List Pl),a3q P (fun b=>τ1.N<=b\/b∈ows pls) τ1 (.row r.E false::r.ps) a vs pls->At c acc.all pls->a2W c O acc.gv (V2 (.row r.E false::r.ps) vs)->(∀ l,some l∈acc.all->(∃ o:Ob I,O l=some (some o)/\a8I o=true)\/∃ T v,(l,T,v)∈acc.gv) ->
   (∀ x∈acc.gv,some x.1∈acc.all)->acc.gv.map (fun x=>x.2)=a3n (.row r.E false::r.ps)->V8 P r.f vs σ (Stp X.M σ) fun v τ=>∃ c',Cx.le c c'/\Rel X c' τ (apE s nb ⟨a4d ((pvT tb nb (r.rs++Z0 r.ps) res).take r.rs.length),Z3 O acc.pub++a0J acc.all++a2Z acc.gv ((pvT tb nb (r.rs++Z0 r.ps) res).drop r.rs.length)++[(l0,some (.row r.E ys false))],obT (r.rs++Z0 r.ps) res⟩) n F /\
     RV X c' τ (a4d ((pvT tb nb (r.rs++Z0 r.ps) res).take r.rs.length)) v:=by
   intro pls k1 k2 k3 k4 k5 k6
   have hgv:∀ x∈acc.gv,∃ ls,O x.1=some (some (.var x.2.1 ls true)):=by
    have:∀ {gv:List (Nat×TypeId×V)} {bs:List Nat},a2W c O gv bs->∀ x∈gv,∃ ls,O x.1=some (some (.var x.2.1 ls true)):=by
     intro gv
     induction gv with
     | nil=>intro bs _ x hx; cases hx
     | cons y r ih =>
       intro bs ⟨b,bs',ls,_,e2,_,e4⟩ x hx
       rcases List.mem_cons.1 hx with rfl | hx
       ·exact ⟨ls,e2⟩
       ·exact ih e4 x hx
    exact this k3
   have hlive:∀ l,some l∈acc.all->w8 (k8 s O acc.pub) l:=fun l hl=>hlv l hl ((k4 l hl).imp id fun ⟨T,v,hm⟩=>by
    obtain ⟨ls,e⟩:=hgv _ hm
    exact ⟨T,ls,e⟩)
   have hnd:(ows pls).Nodup:=At.nodup p3 k2 r1 hlive
   have hown:∀ g∈ows pls,∃ l p,some l∈acc.all/\c l=some p/\p.w=some g:=k2.mem
   have hownM:∀ g∈ows pls,X.M g:=fun g hg=>by
    obtain ⟨l,p,a1,a2,a3⟩:=hown g hg
    exact p3.mine l p g (hlive l a1) a2 a3
   refine V8.mono (hr τ1 a.1 a.2 vs pls res ys k1 hnd hres) p1.symm fun v τ hst ⟨ws,us,pls',hpost,A0,kk0,ow0,z1,z2,z3,z4⟩=>⟨τ,rfl,p2.trans (hst.mono fun b _ hb=>hownM b hb),?_⟩
   let kl:=acc.all.filterMap id
   have hkl:∀ l,l∈kl↔some l∈acc.all:=fun l=>by simp [kl,List.mem_filterMap]
   let s2:St I:=⟨s.n,s.F,Z7 kl (k8 s O acc.pub).O,s.nx⟩
   have h2:Rel X c τ1 s2 n F:=p3.less (fun l o ho=>(Z6 ho).2) (fun l ho=>a0A.1 ho)
   have hn2:∀ l p g,w8 s2 l->c l=some p->p.w=some g->¬ g∈ows pls:=fun l p g ⟨o,ho⟩ hc hw hg=>by
    obtain ⟨m1,m2⟩:=Z6 ho
    obtain ⟨l',p',a1,a2,a3⟩:=hown g hg
    exact m1 ((hkl l).2 (by rw [p3.inj l l' p p' g ⟨o,m2⟩ (hlive l' a1) hc a2 hw a3]; exact a1))
   have hi2:∀ g,g∈ows pls->notIn c τ1 s2 g:=fun g hg=>by
    obtain ⟨l',p',a1,a2,a3⟩:=hown g hg
    exact (p3.owned (hlive l' a1) a2 a3).sub fun l E E' u xs q e=>(Z6 e).2
   have h3:Rel X c τ s2 n F:=h2.stepG hst hownM hn2 hi2
   have hOpub:apU s.O (Z3 O acc.pub++a0J acc.all)=Z7 kl (k8 s O acc.pub).O:=by
    rw [a0w]
    funext l
    exact b1i fun l hl=>by obtain ⟨o,ho⟩:=hlive l hl; intro e; have:=ho; rw [show (k8 s O acc.pub).O l=apU s.O (Z3 O acc.pub) l from rfl,e] at this; cases this
   have hgvO:∀ x∈acc.gv,∃ ls,(k8 s O acc.pub).O x.1=some (some (.var x.2.1 ls true)):=fun x hx=>by
    obtain ⟨ls,e⟩:=hgv x hx
    exact ⟨ls,hOv _ _ _ _ e⟩
   have hfree2:∀ l∈rng nb (obT (r.rs++Z0 r.ps) res).length,Z7 kl (k8 s O acc.pub).O l=none/\l ∉ acc.gv.map (·.1):=by
    rw [X5] at hfree
    intro l hl
    have h0:=hfree l hl
    rw [a0w,hOpub] at h0
    by_cases hk:l∈V0 (a2Z acc.gv ((pvT tb nb (r.rs++Z0 r.ps) res).drop r.rs.length))
    ·exact absurd h0 (a99 (O':=s.O) hk).2
    ·rw [a0M hk] at h0
     refine ⟨h0,fun hm=>?_⟩
     simp only [List.mem_map] at hm
     obtain ⟨x,hx,e⟩:=hm
     have:=(hkl x.1).2 (k5 x hx)
     rw [e] at this
     have hl2:=hlive l ((hkl l).1 this)
     obtain ⟨o,ho⟩:=hl2
     have:=a0A.1 h0
     rw [ho] at this; cases this
   have htt:TT τ (r.rs++Z0 r.ps) res (ws++us) pls':=hpost.tt
   have hob:=a4r htt
   obtain ⟨h4,h5⟩:=Rel.addN (nb:=nb) h3 (X5.2 fun l hl=>(hfree2 l hl).1) hob hpost.nodup fun g hg=>by
    have ho:=hpost.own g hg
    refine ⟨ho.1.elim (fun h=>.inl (Nat.le_trans p3.base.1 h)) (hownM g),(ho.1.elim (fun h=>h2.fresh h) (hi2 g)).step h2 hst hn2 hi2,fun l p ⟨o,ho'⟩ hc hw=>?_⟩
    obtain ⟨m1,m2⟩:=Z6 ho'
    rcases ho.1 with hge | hin
    ·have:=(p3.objs l o m2).lt hc hw
     have:τ1.w.heap.size<=g:=hge
     omega
    ·obtain ⟨l',p',a1,a2,a3⟩:=hown g hin
     exact m1 ((hkl l).2 (by rw [p3.inj l l' p p' g ⟨o,m2⟩ (hlive l' a1) hc a2 hw a3]; exact a1))
   obtain ⟨hps,hlen⟩:=b0l (X:=X) (c:=Q1 c nb pls') (nb:=nb) ht hpost.tt W4
   have htk:=RVs.take r.rs.length _ _ hps
   have hdr:=RVs.drop r.rs.length _ _ hps
   rw [List.take_left' hpost.len] at htk
   rw [List.drop_left' hpost.len] at hdr
   have hold:∀ l,(k8 s O acc.pub).O l≠none->Q1 c nb pls' l=c l:=fun l hl=>by
    have key:∀ {ps:List Pl} {c:Cx} {nb:Nat},(l<nb\/nb+ps.length<=l)->Q1 c nb ps l=c l:=by
     intro ps
     induction ps with
     | nil=>intro c nb _; rfl
     | cons p ps ih =>
       intro c nb h
       simp only [Q1]
       rw [ih (by simp only [List.length_cons] at h; omega)]
       have:l≠nb:=by simp only [List.length_cons] at h; omega
       simp [K3,this]
    apply key
    apply Classical.byContradiction
    intro hn
    rw [not_or] at hn
    exact hl (a0A.1 (hfree2 l (W8.2 ⟨by omega,by rw [hob.1]; omega⟩)).1)
   have hvarb:∀ {gv:List (Nat×TypeId×V)} {bs:List Nat},a2W c O gv bs->∀ x∈gv,∀ p g,c x.1=some p->p.w=some g->g∈bs:=by
    intro gv
    induction gv with
    | nil=>intro bs _ x hx; cases hx
    | cons y r ih =>
      intro bs ⟨b,bs',ls,e1,e2,e3,e4⟩ x hx p g hc hw
      subst e1
      rcases List.mem_cons.1 hx with rfl | hx
      ·rw [e3] at hc; cases hc; cases hw; simp
      ·simp [ih e4 x hx p g hc hw]
   have k6':acc.gv.map (fun x=>x.2)=a3n r.ps:=k6
   have hat:∀ (i:Nat) (y:Nat×V) (p:PV I),(acc.gv.map fun x=>(x.1,x.2.2))[i]?=some y->((pvT tb nb (r.rs++Z0 r.ps) res).drop r.rs.length)[i]?=some p->∃ nb' z,p=pvV tb nb' y.2 z:=fun i y p hi hp=>by
    refine b6g (tb:=tb) (vs:=r.rs++Z0 r.ps) (nb:=nb) (x:=res) (i:=r.rs.length+i) (v:=y.2) ?_ (by rw [List.getElem?_drop] at hp; exact hp)
    rw [List.getElem?_append_right (by simp),Nat.add_sub_cancel_left,<- a07,<- k6']
    rw [List.getElem?_map] at hi
    simp only [List.map_map,List.getElem?_map]
    cases hgi:acc.gv[i]? with
    | none=>rw [hgi] at hi; cases hi
    | some z=>rw [hgi] at hi; cases hi; rfl
   have h6:=Rel.asgW (pls:=pls') ht p3 h5 (a2y hpost.out k3 k6 hgvO) hdr (fun i y p hi hp hag=>by
    obtain ⟨nb',z,e⟩:=hat i y p hi hp
    rw [e]; exact b3Y hag)
    (fun i y p hi hp hag=>by
      obtain ⟨nb',z,e⟩:=hat i y p hi hp
      rw [e]; exact b3Z hag)
    (fun l hl=>hold l (by
      simp only [List.mem_map] at hl
      obtain ⟨x,hx,rfl⟩:=hl
      obtain ⟨ls,e⟩:=hgvO x hx
      rw [e]; simp))
    (fun l hl p g hc hw=>by
      simp only [List.mem_map] at hl
      obtain ⟨x,hx,rfl⟩:=hl
      exact p3.mine x.1 p g (hlive _ (k5 x hx)) hc hw)
    (fun l ⟨o,ho⟩=>by
      by_cases hm:l∈rng nb (obT (r.rs++Z0 r.ps) res).length
      ·right
       obtain ⟨a1,a2⟩:=W8.1 hm
       have hlt:l-nb<pls'.length:=by rw [<- hob.1]; omega
       refine ⟨pls'[l-nb],List.getElem_mem _,?_⟩
       have:=W4 (c:=c) (nb:=nb) (l-nb) pls'[l-nb] (List.getElem?_eq_getElem hlt)
       rw [show nb+(l-nb)=l from by omega] at this
       exact this
      ·left
       have ho':Q8 (Z7 kl (k8 s O acc.pub).O) nb (obT (r.rs++Z0 r.ps) res) l=some (some o):=ho
       rw [J4 hm] at ho'
       obtain ⟨_,m2⟩:=Z6 ho'
       exact ⟨⟨o,m2⟩,hold l (by rw [m2]; simp)⟩)
    (fun l hl p hc g hw hm=>by
      simp only [List.mem_map] at hl
      obtain ⟨x,hx,rfl⟩:=hl
      exact (hpost.own g hm).2 (hvarb k3 x hx p g hc hw))
    (fun l hl p hc g hw=>by
      simp only [List.mem_map] at hl
      obtain ⟨x,hx,rfl⟩:=hl
      obtain ⟨ls,e⟩:=hgvO x hx
      exact (((p3.owned ⟨_,e⟩ hc hw).sub (s':=s2) fun l E E' u xs q e=>(Z6 e).2).step h2 hst hn2 hi2).grow h3 h4 (a1O hob.not))
   refine ⟨_,h4,?_,by rw [hpost.ret]; exact a9J htk⟩
   have hO2:Q8 (apU s.O (Z3 O acc.pub++a0J acc.all++a2Z acc.gv ((pvT tb nb (r.rs++Z0 r.ps) res).drop r.rs.length))) nb (obT (r.rs++Z0 r.ps) res) =
    asgW (k8 s O acc.pub).O (acc.gv.map fun x=>(x.1,x.2.2)) (acc.gv.map (·.1)) ((pvT tb nb (r.rs++Z0 r.ps) res).drop r.rs.length) (Q8 (Z7 kl (k8 s O acc.pub).O) nb (obT (r.rs++Z0 r.ps) res)):=by
    rw [a0w,hOpub]
    exact b5Q fun x hx=>⟨hgvO x hx,fun hm=>(hfree2 x.1 hm).2 (List.mem_map.2 ⟨x,hx,rfl⟩)⟩
   have e:apE s nb ⟨a4d ((pvT tb nb (r.rs++Z0 r.ps) res).take r.rs.length),Z3 O acc.pub++a0J acc.all++a2Z acc.gv ((pvT tb nb (r.rs++Z0 r.ps) res).drop r.rs.length)++[(l0,some (.row r.E ys false))],obT (r.rs++Z0 r.ps) res⟩ =
    v8 ⟨s.n,s.F,asgW (k8 s O acc.pub).O (acc.gv.map fun x=>(x.1,x.2.2)) (acc.gv.map (·.1)) ((pvT tb nb (r.rs++Z0 r.ps) res).drop r.rs.length) (Q8 (Z7 kl (k8 s O acc.pub).O) nb (obT (r.rs++Z0 r.ps) res)),s.nx⟩ l0 (some (.row r.E ys false)):=by
    have e1:apU s.O (Z3 O acc.pub++a0J acc.all++a2Z acc.gv ((pvT tb nb (r.rs++Z0 r.ps) res).drop r.rs.length)++[(l0,some (.row r.E ys false))])=upF (apU s.O (Z3 O acc.pub++a0J acc.all++a2Z acc.gv ((pvT tb nb (r.rs++Z0 r.ps) res).drop r.rs.length))) l0 (some (.row r.E ys false)):=by rw [a0w]; rfl
    simp only [apE,e1,c1d hl0n,hO2,v8]
   rw [e]
   obtain ⟨c2Q,hall⟩:=hrow0
   have hm0:some l0∈acc.all:=by rw [hall]; simp
   obtain ⟨pl0,pls0,e0,hc0,_⟩:=(by rw [hall] at k2; exact k2:At c (some l0::c2Q) pls)
   have hc0:c l0=some pl0:=hc0
   rw [e0] at z1
   cases z1
   have hl0v:l0 ∉ acc.gv.map (·.1):=fun hm=>by
    simp only [List.mem_map] at hm
    obtain ⟨x,hx,e⟩:=hm
    obtain ⟨ls,e2⟩:=hgv x hx
    obtain ⟨E,xs,fl,e3⟩:=hO0
    rw [<- e,e2] at e3; cases e3
   obtain ⟨o0,hlive0⟩:=hlive l0 hm0
   have hdead:asgW (k8 s O acc.pub).O (acc.gv.map fun x=>(x.1,x.2.2)) (acc.gv.map (·.1)) ((pvT tb nb (r.rs++Z0 r.ps) res).drop r.rs.length) (Q8 (Z7 kl (k8 s O acc.pub).O) nb (obT (r.rs++Z0 r.ps) res)) l0=some none:=by
    rw [a6Y hl0v,J4 hl0n]
    unfold Z7
    rw [K2.2 ((hkl l0).2 hm0),hlive0]
    rfl
   have hc0':=(hold l0 (by rw [hlive0]; simp)).trans hc0
   refine h6.revive ⟨A0,kk0,ow0,by rw [z2]; exact hc0',z3⟩ fun p2 g hp2 hg=>?_
   rw [hc0'] at hp2
   cases hp2
   refine ⟨hownM g (by rw [e0]; simp only at hg; subst hg; simp [ows]),?_,fun l' p' _ ⟨o',ho'⟩ hc' hw'=>?_⟩
   ·have hn:=(((hi2 g (by rw [e0]; simp only at hg; subst hg; simp [ows])).step h2 hst hn2 hi2).grow h3 h4 (a1O hob.not):notIn (Q1 c nb pls') τ (addN s2 nb (obT (r.rs++Z0 r.ps) res)) g)
    exact hn.sub fun l E E' u xs q e=>b0A (by simpa using e)
   have ho':asgW (k8 s O acc.pub).O (acc.gv.map fun x=>(x.1,x.2.2)) (acc.gv.map (·.1)) ((pvT tb nb (r.rs++Z0 r.ps) res).drop r.rs.length) (Q8 (Z7 kl (k8 s O acc.pub).O) nb (obT (r.rs++Z0 r.ps) res)) l'=some (some o'):=ho'
   by_cases hm:l'∈rng nb (obT (r.rs++Z0 r.ps) res).length
   ·obtain ⟨a1,a2⟩:=W8.1 hm
    have hlt:l'-nb<pls'.length:=by rw [<- hob.1]; omega
    have hn:=W4 (c:=c) (nb:=nb) (l'-nb) pls'[l'-nb] (List.getElem?_eq_getElem hlt)
    rw [show nb+(l'-nb)=l' from by omega,hc'] at hn
    cases hn
    exact z4 g hg (a6O.2 ⟨_,List.getElem_mem _,hw'⟩)
   ·have hlv':w8 (k8 s O acc.pub) l':=by
     by_cases hv:l'∈acc.gv.map (·.1)
     ·simp only [List.mem_map] at hv
      obtain ⟨x,hx,e⟩:=hv
      rw [<- e]
      exact hlive _ (k5 x hx)
     ·rw [a6Y hv,J4 hm] at ho'
      exact ⟨_,(Z6 ho').2⟩
    have hcc:c l'=some p':=by
     obtain ⟨o2,ho2⟩:=hlv'
     rw [<- hold l' (by rw [ho2]; simp)]; exact hc'
    have el:=p3.inj l' l0 p' _ g hlv' ⟨_,hlive0⟩ hcc hc0 hw' hg
    rw [el,hdead] at ho'
    cases ho'
  obtain ⟨pls0,k1,k2,k3,k4,k5,k6⟩:=core (fun _=>False) (fun _ h=>h.elim)
  obtain ⟨pls,k1',k2',_⟩:=core (fun b=>τ1.N<=b\/b∈ows pls0) (fun b hb=>hb.imp id fun hb=>by
   obtain ⟨l,p,a1,a2,a3⟩:=k2.mem b hb
   refine ⟨l,hgr l a1,hlv l a1 ((k4 l a1).imp id fun ⟨T,v,hm⟩=>?_),p,a2,a3⟩
   have:∀ {gv:List (Nat×TypeId×V)} {bs:List Nat},a2W c O gv bs->∀ x∈gv,∃ ls,O x.1=some (some (.var x.2.1 ls true)):=by
    intro gv
    induction gv with
    | nil=>intro bs _ x hx; cases hx
    | cons y r ih =>
      intro bs ⟨b,bs',ls,_,e2,_,e4⟩ x hx
      rcases List.mem_cons.1 hx with rfl | hx
      ·exact ⟨ls,e2⟩
      ·exact ih e4 x hx
   obtain ⟨ls,e⟩:=this k3 _ hm
   exact ⟨T,ls,e⟩)
  have hsame:ows pls=ows pls0:=by
   have:∀ {rows:List (Option Nat)} {p q:List Pl},At c rows p->At c rows q->ows p=ows q:=by
    intro rows
    induction rows with
    | nil=>intro p q h1 h2; cases h1; cases h2; rfl
    | cons x r ih =>
      intro p q ⟨a,c8N,e1,g1,h1⟩ ⟨b,bs,e2,g2,h2⟩
      subst e1
      subst e2
      have hr:=ih h1 h2
      simp only [ows,List.filterMap_cons] at hr ⊢
      have:a.w=b.w:=by
       cases x with
       | none=>simp only at g1 g2; rw [g1,g2]
       | some l=>simp only at g1 g2; rw [g1] at g2; cases g2; rfl
      rw [this,hr]
   exact this k2' k2
  rw [<- hsame] at k1'
  exact fin pls k1' k2' k3 k4 k5 k6
end
end Go.Qx
end
section
namespace Go.Qx
open Go Go.RowKit Go.Sx
@[reducible] def c6R:Rp Unit where
 sz:=1
 pos:=by decide
 agg:=false
 cells:=fun _ _ _=>False
 len:=fun h=>h.elim
 one:=fun h=>h.elim
 mono:=fun _ h=>h
@[reducible] def rpK (k:IntKind):Rp Int:=rpIK k
@[reducible] def k9 {α β:Type} (a:Rp α) (b:Rp β):Rp (α×β) where
 sz:=a.sz+b.sz
 pos:=Nat.lt_of_lt_of_le a.pos (Nat.le_add_right _ _)
 agg:=true
 cells:=fun σ x cs=>∃ c1 c2,cs=c1++c2/\a.cells σ x.1 c1/\b.cells σ x.2 c2
 len:=fun ⟨_,_,e,h1,h2⟩=>by rw [e,List.length_append,a.len h1,b.len h2]
 one:=fun ⟨_,_,e,h1,h2⟩ v hv=>by
  rw [e,List.mem_append] at hv
  exact hv.elim (a.one h1 v) (b.one h2 v)
 mono:=fun k ⟨c1,c2,e,h1,h2⟩=>⟨c1,c2,e,a.mono k h1,b.mono k h2⟩
@[reducible] def a0q {γ α:Type} (to:γ->α) (a:Rp α):Rp γ where
 sz:=a.sz
 pos:=a.pos
 agg:=true
 cells:=fun σ x cs=>a.cells σ (to x) cs
 len:=fun h=>a.len h
 one:=fun h=>a.one h
 mono:=fun k h=>a.mono k h
structure TE where
 E:TypeId
 α:Type
 rp:Rp α
def a4o:List TE->TypeId->TE
 | [],_=>⟨0,Unit,c6R⟩
 | e::r,E=>bif Nat.beq e.E E then e else a4o r E
theorem lookT_lo {n:Nat}:∀ {l:List TE},(l.all fun e=>Nat.ble e.rp.lo n)=true->∀ E,(a4o l E).rp.lo<=n
 | [],_,_=>Nat.zero_le _
 | e::r,h,E=>by
   rw [List.all_cons,Bool.and_eq_true] at h
   have k:∀ t:TE,t=e\/t=a4o r E->t.rp.lo<=n:=fun t ht=>by
    rcases ht with rfl | rfl
    ·exact Nat.le_of_ble_eq_true h.1
    ·exact lookT_lo h.2 E
   refine k _ ?_
   simp only [a4o]
   cases Nat.beq e.E E with
   | true=>exact .inl rfl
   | false=>exact .inr rfl
section
variable {I:TypeId->Type} [∀ E,Rp (I E)]
structure Fd (I:TypeId->Type) [∀ E,Rp (I E)] (α:Type)(rp:Rp α) where
 lf:α->List (PV I)
 pa:(ρ:Type)->List (PV I)->(α->List (PV I)->Option ρ)->Option ρ
 lf_ok:∀ (X:Cxt) (c:Cx) (σ:S) (x:α) (cs:List Value),rp.cells σ x cs->RG X c σ (lf x) cs
 pa_ok:∀ (ρ:Type) (ls:List (PV I)) (f:α->List (PV I)->Option ρ) (r:ρ),pa ρ ls f=some r->∃ x rest,f x rest=some r /\
  ∀ (X:Cxt) (c:Cx) (σ:S) (cs:List Value),RG X c σ ls cs->∃ c1 c2,cs=c1++c2/\rp.cells σ x c1/\RG X c σ rest c2
theorem RG.cons1 {X:Cxt}{c:Cx}{σ:S}{p:PV I}{r:List (PV I)}{cs:List Value}(h:RG X c σ (p::r) cs)(hp:a2O p=false):∃ v c2,cs=[v]++c2/\RV X c σ p v/\RG X c σ r c2:=by
 simp only [RG] at h
 obtain ⟨a,c2,e,h1 | ⟨_,v,e1,h1⟩,h2⟩:=h
 ·exact (by cases p<;>first | exact h1.elim | cases hp)
 ·exact ⟨v,c2,by rw [e,e1],h1,h2⟩
theorem RG.cns {X:Cxt}{c:Cx}{σ:S}{p:PV I}{ps:List (PV I)}{v:Value}{cs:List Value}(h0:a2O p=false)(h:RV X c σ p v)(k:RG X c σ ps cs):RG X c σ (p::ps) (v::cs):=by
 simp only [RG]
 exact ⟨[v],cs,rfl,.inr ⟨h0,v,rfl,h⟩,k⟩
theorem RG.nl {X:Cxt}{c:Cx}{σ:S}:RG X c σ ([]:List (PV I)) []:=by simp only [RG]
theorem Z2 {X:Cxt}{c:Cx}{σ:S}{k:IntKind}{n:Int}:RV X c σ (.int k n:PV I) (.int k n):=by simp only [RV]
theorem V5 {X:Cxt}{c:Cx}{σ:S}{b:Bool}:RV X c σ (.bool b:PV I) (.bool b):=by simp only [RV]
theorem a1U {X:Cxt}{c:Cx}{σ:S}{b:ByteArray}:RV X c σ (.str b:PV I) (.string b):=by simp only [RV]
theorem j7 {X:Cxt}{c:Cx}{σ:S}{E:TypeId}:RV X c σ (.nl E:PV I) (.slice none 0 0):=by simp only [RV]; exact ⟨none,rfl⟩
theorem a8f {X:Cxt}{c:Cx}{σ:S}{v:Value}:RV X c σ (.any:PV I) v:=by simp only [RV]
def Y8 (k:IntKind):Fd I Int (rpK k) where
 lf:=fun n=>[.int k n]
 pa:=fun _ ls f=>match ls with
  | .int k' n::r=>if k'=k then f n r else none
  | _=>none
 lf_ok:=fun X c σ x cs h=>by
  have e:cs=[.int k x]:=h
  rw [e]
  exact RG.single rfl (by simp only [RV])
 pa_ok:=fun ρ ls f r h=>by
  split at h
  ·rename_i k' n rest
   obtain ⟨e,h2⟩:=V1 h
   clear h
   subst e
   refine ⟨n,rest,h2,fun X c σ cs hl=>?_⟩
   obtain ⟨v,c2,e,h1,h2⟩:=hl.cons1 rfl
   simp only [RV] at h1
   subst h1
   exact ⟨_,c2,e,rfl,h2⟩
  ·cases h
def a0V:Fd I Bool rpBool where
 lf:=fun n=>[.bool n]
 pa:=fun _ ls f=>match ls with
  | .bool n::r=>f n r
  | _=>none
 lf_ok:=fun X c σ x cs h=>by
  have e:cs=[.bool x]:=h
  rw [e]
  exact RG.single rfl (by simp only [RV])
 pa_ok:=fun ρ ls f r h=>by
  split at h
  ·rename_i n rest
   refine ⟨n,rest,h,fun X c σ cs hl=>?_⟩
   obtain ⟨v,c2,e,h1,h2⟩:=hl.cons1 rfl
   simp only [RV] at h1
   subst h1
   exact ⟨_,c2,e,rfl,h2⟩
  ·cases h
def a5B:Fd I ByteArray rpStr where
 lf:=fun n=>[.str n]
 pa:=fun _ ls f=>match ls with
  | .str n::r=>f n r
  | _=>none
 lf_ok:=fun X c σ x cs h=>by
  have e:cs=[.string x]:=h
  rw [e]
  exact RG.single rfl (by simp only [RV])
 pa_ok:=fun ρ ls f r h=>by
  split at h
  ·rename_i n rest
   refine ⟨n,rest,h,fun X c σ cs hl=>?_⟩
   obtain ⟨v,c2,e,h1,h2⟩:=hl.cons1 rfl
   simp only [RV] at h1
   subst h1
   exact ⟨_,c2,e,rfl,h2⟩
  ·cases h
def w9 (E:TypeId):Fd I (List (I E)) rpList where
 lf:=fun xs=>[.sl E xs false]
 pa:=fun _ ls f=>match ls with
  | .sl E' xs _::r=>Option.bind (a0e E E' xs) fun ys=>f ys r
  | .nl E'::r=>bif Nat.beq E' E then f [] r else none
  | _=>none
 lf_ok:=fun X c σ xs cs h=>by
  obtain ⟨A,k,e,hs⟩:∃ A k,cs=[.slice A (xs:List (I E)).length k]/\Sl σ xs A k:=h
  rw [e]
  refine RG.single rfl ?_
  simp only [RV]
  exact ⟨A,k,rfl,hs,fun e=>by cases e⟩
 pa_ok:=fun ρ ls f r h=>by
  split at h
  ·rename_i E' xs fl rest
   obtain ⟨ys,hy,h⟩:=bind_some h
   obtain ⟨e,rfl⟩:=J2 hy
   subst e
   refine ⟨xs,rest,h,fun X c σ cs hl=>?_⟩
   obtain ⟨v,c2,e,h1,h2⟩:=hl.cons1 rfl
   simp only [RV] at h1
   obtain ⟨A,k,e1,hs,_⟩:=h1
   exact ⟨[v],c2,e,⟨A,k,by rw [e1],hs⟩,h2⟩
  ·rename_i E' rest
   obtain ⟨_,h⟩:=y0 h
   refine ⟨[],rest,h,fun X c σ cs hl=>?_⟩
   obtain ⟨v,c2,e,h1,h2⟩:=hl.cons1 rfl
   simp only [RV] at h1
   obtain ⟨A,e1⟩:=h1
   exact ⟨[v],c2,e,⟨A,0,by rw [e1]; rfl,Sl.nil_ _ _ _ (Nat.zero_le _)⟩,h2⟩
  ·cases h
def K9 (E:TypeId)(fd:Fd I (I E) inferInstance):Fd I (I E) inferInstance where
 lf:=fun x=>[.dat E x]
 pa:=fun ρ ls f=>match ls with
  | .dat E' x::r=>Option.bind (a4C E E' x) fun y=>f y r
  | ls=>fd.pa ρ ls f
 lf_ok:=fun X c σ x cs h=>RG.one h
 pa_ok:=fun ρ ls f r h=>by
  split at h
  ·rename_i E' x rest
   obtain ⟨y,hy,h⟩:=bind_some h
   obtain ⟨e,rfl⟩:=a65 hy
   subst e
   refine ⟨x,rest,h,fun X c σ cs hl=>?_⟩
   simp only [RG] at hl
   obtain ⟨a,c2,e,h1 | ⟨h1,_⟩,h2⟩:=hl
   ·exact ⟨a,c2,e,h1,h2⟩
   ·cases h1
  ·exact fd.pa_ok ρ _ f r h
def j5 {α β:Type}{ra:Rp α}{rb:Rp β}(a:Fd I α ra)(b:Fd I β rb):Fd I (α×β) (k9 ra rb) where
 lf:=fun x=>a.lf x.1++b.lf x.2
 pa:=fun ρ ls f=>a.pa ρ ls fun x r=>b.pa ρ r fun y r=>f (x,y) r
 lf_ok:=fun X c σ x cs ⟨c1,c2,e,h1,h2⟩=>by
  rw [e]
  exact RG.app _ _ _ _ (a.lf_ok X c σ _ _ h1) (b.lf_ok X c σ _ _ h2)
 pa_ok:=fun ρ ls f r h=>by
  obtain ⟨x,r1,h,k1⟩:=a.pa_ok ρ _ _ r h
  obtain ⟨y,r2,h,k2⟩:=b.pa_ok ρ _ _ r h
  refine ⟨(x,y),r2,h,fun X c σ cs hl=>?_⟩
  obtain ⟨c1,c2,e,h1,h2⟩:=k1 X c σ cs hl
  obtain ⟨c3,c4,e2,h3,h4⟩:=k2 X c σ c2 h2
  exact ⟨c1++c3,c4,by rw [e,e2,List.append_assoc],⟨c1,c3,rfl,h1,h3⟩,h4⟩
def Y9 {γ α:Type}{rg:Rp γ}{ra:Rp α}(a:Fd I α ra)(to:γ->α)(of:α->γ)(h:∀ x,to (of x)=x)(hc:∀ σ x cs,rg.cells σ x cs↔ra.cells σ (to x) cs):Fd I γ rg where
 lf:=fun x=>a.lf (to x)
 pa:=fun ρ ls f=>a.pa ρ ls fun x r=>f (of x) r
 lf_ok:=fun X c σ x cs hx=>a.lf_ok X c σ _ _ ((hc σ x cs).1 hx)
 pa_ok:=fun ρ ls f r hr=>by
  obtain ⟨x,r1,hr,k1⟩:=a.pa_ok ρ _ _ r hr
  refine ⟨of x,r1,hr,fun X c σ cs hl=>?_⟩
  obtain ⟨c1,c2,e,h1,h2⟩:=k1 X c σ cs hl
  exact ⟨c1,c2,e,(hc σ _ _).2 (by rw [h]; exact h1),h2⟩
structure FE (I:TypeId->Type) [∀ E,Rp (I E)] where
 E:TypeId
 fd:Fd I (I E) inferInstance
def c2s:List (FE I)->TypeId->Option (FE I)
 | [],_=>none
 | e::r,E=>bif Nat.beq e.E E then some e else c2s r E
def lfT (l:List (FE I))(E:TypeId)(x:I E):List (PV I):=match c2s l E with
 | some e=>if h:E=e.E then e.fd.lf (h▸x) else [.dat E x]
 | none=>[.dat E x]
def ofT (l:List (FE I))(E:TypeId)(ls:List (PV I)):Option (I E):=match c2s l E with
 | some e=>if h:e.E=E then e.fd.pa (I E) ls fun x r=>match r with
   | []=>some (h▸x)
   | _=>none else none
 | none=>none
def a2a {α:Type}(p:α->Prop):List α->Prop
 | []=>True
 | x::r=>p x/\a2a p r
omit [∀ E,Rp (I E)] in
theorem a2a.mem {α:Type}{p:α->Prop}:∀ {l:List α},a2a p l->∀ x∈l,p x
 | [],_,_,h=>by cases h
 | _::_,h,x,hx=>by
   rcases List.mem_cons.1 hx with rfl | hx
   ·exact h.1
   ·exact a2a.mem h.2 x hx
def asc {α:Type}:List (Nat×α)->Nat->Option α
 | [],_=>none
 | x::r,k=>bif Nat.beq x.1 k then some x.2 else asc r k
omit [∀ E,Rp (I E)] in
theorem W0 {α:Type}:∀ {l:List (Nat×α)} {k:Nat} {a:α},asc l k=some a->(k,a)∈l
 | [],_,_,h=>by cases h
 | x::r,k,a,h=>by
   simp only [asc] at h
   cases hk:Nat.beq x.1 k with
   | true =>
     rw [hk] at h
     cases h
     have:=Nat.eq_of_beq_eq_true hk
     subst this
     simp
   | false =>
     rw [hk] at h
     exact List.mem_cons_of_mem _ (W0 h)
structure U8 (I:TypeId->Type) where
 E:TypeId
 g:Int->I E
def u8T:List (U8 I)->(E:TypeId)->Option (Int->I E)
 | [],_=>none
 | e::r,E=>if h:e.E=E then some fun k=>h▸e.g k else u8T r E
structure TabL (I:TypeId->Type) [∀ E,Rp (I E)] where
 sz:List (TypeId×Nat)
 one:List (TypeId×Unit)
 fld:List (TypeId×List (Nat×TypeId))
 el:List (TypeId×TypeId)
 str:List (TypeId×Unit)
 bool:List (TypeId×Unit)
 ik:List (TypeId×IntKind)
 fe:List (FE I)
 inf:List (TypeId×Nat×Nat×List (PV I))
 st:List (TypeId×List (Nat×Nat))
 eq:List (TypeId×(List (PV I)->List (PV I)->Option Bool))
 arr:List (TypeId×(TypeId×Nat×Nat))
 fb:List (FuncId×Unit)
 nest:List (TypeId×(TypeId×Nat)):=[]
 mp:List (TypeId×Kd):=[]
 u8:List (TypeId×Unit):=[]
 u8g:List (U8 I):=[]
 lo:Nat:=0
def c2Z (L:TabL I):Tab I where
 sz:=asc L.sz
 one:=fun T=>(asc L.one T).isSome
 off:=fun T f=>Option.bind (asc L.fld T) fun l=>Option.bind l[f]? fun x=>some x.1
 fty:=fun T f=>Option.bind (asc L.fld T) fun l=>Option.bind l[f]? fun x=>some x.2
 el:=asc L.el
 isStr:=fun T=>(asc L.str T).isSome
 isBool:=fun T=>(asc L.bool T).isSome
 ik:=asc L.ik
 lf:=lfT L.fe
 of:=ofT L.fe
 size:=fun T=>Option.bind (asc L.inf T) fun x=>some x.1
 bytes:=fun T=>Option.bind (asc L.inf T) fun x=>some x.2.1
 zero:=fun T=>Option.bind (asc L.inf T) fun x=>some x.2.2
 flds:=asc L.st
 eqF:=fun T a b=>Option.bind (asc L.eq T) fun f=>f a b
 arr:=asc L.arr
 mp:=asc L.mp
 fb:=fun f=>(asc L.fb f).isSome
 nest:=asc L.nest
 u8:=fun T=>(asc L.u8 T).isSome
 u8g:=u8T L.u8g
 lo:=L.lo
def a7w (P:Program)(T:TypeId):Nat->List (Nat×TypeId)->Prop
 | _,[]=>True
 | i,x::r=>a2B P T i x.1/\(∃ fs fl,P.underlying T=some (.struct fs)/\fs[i]?=some fl/\fl.type=x.2)/\a7w P T (i+1) r
omit [∀ E,Rp (I E)] in
theorem a7w.at {P:Program}{T:TypeId}:∀ {l:List (Nat×TypeId)} {i j:Nat} {x:Nat×TypeId},a7w P T i l->l[j]?=some x->a2B P T (i+j) x.1/\(∃ fs fl,P.underlying T=some (.struct fs)/\fs[i+j]?=some fl/\fl.type=x.2)
 | [],_,_,_,_,h=>by simp at h
 | y::r,i,0,x,hf,h=>by simp at h; subst h; exact ⟨hf.1,hf.2.1⟩
 | y::r,i,j+1,x,hf,h=>by
   have:=a7w.at (i:=i+1) hf.2.2 (show r[j]?=some x by simpa using h)
   rwa [show i+1+j=i+(j+1) by omega] at this
def c8o (P:Program)(T:TypeId)(sz by_:Nat)(ls:List (PV I)):Prop:=∃ z,Z1 P T z sz by_/\∀ X c σ,RG X c σ ls z.cells.toList
structure TabLOk (P:Program)(L:TabL I):Prop where
 sz:a2a (fun x=>b3W P x.1 x.2) L.sz
 one:a2a (fun x=>J5 P x.1) L.one
 fld:a2a (fun x=>a7w P x.1 0 x.2) L.fld
 el:a2a (fun x=>P.underlying x.1=some (.slice x.2)/\∃ z b,Z1 P x.2 z (Rp.sz (I x.2)) b/\z.cells.size=Rp.sz (I x.2)/\0<b) L.el
 str:a2a (fun x=>P.underlying x.1=some .string) L.str
 bool:a2a (fun x=>P.underlying x.1=some .bool) L.bool
 ik:a2a (fun x=>P.underlying x.1=some (.int x.2)) L.ik
 inf:a2a (fun x=>c8o P x.1 x.2.1 x.2.2.1 x.2.2.2) L.inf
 st:a2a (fun x=>(∃ fs,P.underlying x.1=some (.struct fs)/\fs.toList.mapM (fun f=>(P.info? f.type).map fun i=>(f.offset,i.size))=some x.2) \/
  ∃ m e ie,P.underlying x.1=some (.array m e)/\P.info? e=some ie/\x.2=(List.range m).map fun j=>(j*ie.size,ie.size)) L.st
 eq:a2a (fun x=>∀ (X:Cxt) (c:Cx) (σ:S) (ls ms:List (PV I)) (r:Bool) (cs ds:List Value),x.2 ls ms=some r->RG X c σ ls cs->RG X c σ ms ds ->
  P.eqGuardType P.depth x.1=false/\∃ j,Nat.ble j 10000=true/\Sx.EqAt P j x.1 (.agg cs.toArray) (.agg ds.toArray) r) L.eq
 arr:a2a (fun x=>P.underlying x.1=some (.array x.2.2.1 x.2.1)/\(P.info? x.2.1).map (·.size)=some x.2.2.2) L.arr
 mp:a2a (fun x=>b9v I P x.1 x.2) L.mp:=by exact trivial
 u8:a2a (fun x=>P.underlying x.1=some (.int .u8)/\∀ y:I x.1,∃ n,lfT L.fe x.1 y=[.int .u8 n]) L.u8:=by exact trivial
 u8g:a2a (fun x=>∀ (σ:S) (k:Int),Rp.cells σ (x.g k) [.int .u8 k]) L.u8g:=by exact trivial
 fb:a2a (fun x=>X6 P x.1) L.fb
 low:∀ E,Rp.lo (I E)<=L.lo:=by exact fun E=>Go.Qx.lookT_lo rfl E
omit [∀ E,Rp (I E)] in
theorem c3n {P:Program}{T e:TypeId}{m k b:Nat}{z:Value}{pl:List (Nat×Nat)}(hu:P.underlying T=some (.array m e))(hi:Z1 P e z k b)(hp:pl=(List.range m).map fun j=>(j*k,k)) :
 ∃ m e ie,P.underlying T=some (.array m e)/\P.info? e=some ie/\pl=(List.range m).map fun j=>(j*ie.size,ie.size):=by
 obtain ⟨i,h1,h2,h3,h4⟩:=hi
 exact ⟨m,e,i,hu,h1,by rw [hp,h3]⟩
theorem c3x:∀ {l:List (U8 I)} {E:TypeId} {g:Int->I E},a2a (fun x=>∀ (σ:S) (k:Int),Rp.cells σ (x.g k) [.int .u8 k]) l->u8T l E=some g->∀ (σ:S) (k:Int),Rp.cells σ (g k) [.int .u8 k]
 | [],_,_,_,h=>by cases h
 | e::r,E,g,hl,h=>by
   unfold u8T at h
   split at h
   ·rename_i e1
    subst e1
    cases h
    exact hl.1
   ·exact c3x hl.2 h
omit [∀ E,Rp (I E)] in
theorem a5R {α:Type}{o:Option α}(h:o.isSome=true):∃ a,o=some a:=Option.isSome_iff_exists.1 h
omit [∀ E,Rp (I E)] in
theorem Z1.inj {P:Program}{T:TypeId}{z z':Value}{a a' b b':Nat}(h:Z1 P T z a b)(k:Z1 P T z' a' b'):z=z'/\a=a'/\b=b':=by
 obtain ⟨i,h1,h2,h3,h4⟩:=h
 obtain ⟨j,k1,k2,k3,k4⟩:=k
 rw [h1] at k1
 cases k1
 rw [h2] at k2
 cases k2
 exact ⟨rfl,h3.symm.trans k3,h4.symm.trans k4⟩
theorem b2L {fe:List (FE I)}{X:Cxt}{c:Cx}{σ:S}{E:TypeId}{ls:List (PV I)}{x:I E}{cs:List Value}(hx:ofT fe E ls=some x)(hl:RG X c σ ls cs):Rp.cells σ x cs:=by
 unfold ofT at hx
 split at hx
 ·rename_i e he
  split at hx
  ·rename_i e1
   subst e1
   obtain ⟨y,rest,h1,h2⟩:=e.fd.pa_ok _ _ _ _ hx
   obtain ⟨c1,c2,e2,h3,h4⟩:=h2 X c σ cs hl
   split at h1
   ·cases h1
    simp only [RG] at h4
    rw [e2,h4,List.append_nil]
    exact h3
   ·cases h1
  ·cases hx
 ·cases hx
theorem c1h {P:Program}{L:TabL I}(h:TabLOk P L):TabOk P (c2Z L) where
 low:=h.low
 sz:=fun T k hk=>h.sz.mem _ (W0 hk)
 one:=fun T hk=>by obtain ⟨a,ha⟩:=a5R hk; exact h.one.mem _ (W0 ha)
 off:=fun T f o hk=>by
  obtain ⟨l,hl,hk⟩:=bind_some hk
  obtain ⟨x,hx,hk⟩:=bind_some hk
  cases hk
  have:=(a7w.at (h.fld.mem _ (W0 hl)) hx).1
  rw [Nat.zero_add] at this
  exact this
 fty:=fun T f o hk=>by
  obtain ⟨l,hl,hk⟩:=bind_some hk
  obtain ⟨x,hx,hk⟩:=bind_some hk
  cases hk
  have:=(a7w.at (h.fld.mem _ (W0 hl)) hx).2
  rw [Nat.zero_add] at this
  exact this
 el:=fun T E hk=>by
  obtain ⟨h1,z,b,⟨i,e1,e2,e3,e4⟩,_⟩:=h.el.mem _ (W0 hk)
  exact ⟨h1,by rw [e1]; simp only [Option.map_some]; rw [e3]⟩
 isStr:=fun T hk=>by obtain ⟨a,ha⟩:=a5R hk; exact h.str.mem _ (W0 ha)
 isBool:=fun T hk=>by obtain ⟨a,ha⟩:=a5R hk; exact h.bool.mem _ (W0 ha)
 ik:=fun T k hk=>h.ik.mem _ (W0 hk)
 lf:=fun X c σ E x cs hx=>by
  show RG X c σ (lfT L.fe E x) cs
  unfold lfT
  split
  ·rename_i e he
   split
   ·rename_i e1
    subst e1
    exact e.fd.lf_ok X c σ x cs hx
   ·exact RG.one hx
  ·exact RG.one hx
 of:=fun _ _ _ _ _ _ _ hx hl=>b2L hx hl
 size:=fun T k hk=>by
  obtain ⟨x,hx,hk⟩:=bind_some hk
  cases hk
  obtain ⟨z,⟨i,e1,e2,e3,e4⟩,_⟩:=h.inf.mem _ (W0 hx)
  rw [e1,Option.map_some,e3]
 slice:=fun T E b hT hb=>by
  obtain ⟨x,hx,hk⟩:=bind_some hb
  cases hk
  obtain ⟨z,h1,_⟩:=h.inf.mem _ (W0 hx)
  obtain ⟨h2,z',b',h3,h4,h5⟩:=h.el.mem _ (W0 hT)
  obtain ⟨rfl,e1,e2⟩:=Z1.inj h1 h3
  simp only at e1 e2 h1
  refine ⟨z,h2,?_,h4,Rp.pos,?_⟩
  ·rw [<- e1]; exact h1
  ·rw [e2]; exact h5
 zero:=fun T ls hk=>by
  obtain ⟨x,hx,hk⟩:=bind_some hk
  cases hk
  obtain ⟨z,h1,h2⟩:=h.inf.mem _ (W0 hx)
  exact ⟨z,_,_,_,h1,rfl,h2⟩
 flds:=fun T pl ls hp hz=>by
  obtain ⟨x,hx,hk⟩:=bind_some hz
  cases hk
  obtain ⟨z,⟨i,e1,e2,e3,e4⟩,h2⟩:=h.inf.mem _ (W0 hx)
  rcases h.st.mem _ (W0 hp) with ⟨fs,h3,h4⟩ | ⟨m,e,ie,h3,h4,h5⟩
  ·exact ⟨z.cells.toList,.inl ⟨fs,i,z,h3,e1,e2,by simp,h4⟩,h2⟩
  ·exact ⟨z.cells.toList,.inr ⟨m,e,ie,i,z,h3,h4,e1,e2,by simp,h5⟩,h2⟩
 eqF:=fun X c σ T ls ms r cs ds hk h1 h2=>by
  obtain ⟨f,hf,hk⟩:=bind_some hk
  exact h.eq.mem _ (W0 hf) X c σ ls ms r cs ds hk h1 h2
 arr:=fun T E m k hk=>h.arr.mem _ (W0 hk)
 mp:=fun T kd hk=>h.mp.mem _ (W0 hk)
 fb:=fun f hk=>by obtain ⟨a,ha⟩:=a5R hk; exact h.fb.mem _ (W0 ha)
 u8:=fun T hk=>by obtain ⟨a,ha⟩:=a5R hk; exact h.u8.mem _ (W0 ha)
 u8g:=fun E g hk=>c3x h.u8g hk
def c2P (P:Program)(k:Nat)(e:TypeId)(c:Nat)(xs ys:Array Value)(l:List Nat)(r:Bool):Prop:=∀ d w,(Op.eqItems (d+k) e c xs ys l).run P w=.ok r w
omit [∀ E,Rp (I E)] in
theorem b96 {P:Program}{k:Nat}{e:TypeId}{c:Nat}{xs ys:Array Value}:c2P P k e c xs ys [] true:=fun d w=>by simp [Op.eqItems]
omit [∀ E,Rp (I E)] in
theorem a8B {P:Program}{k:Nat}{e:TypeId}{c i:Nat}{xs ys:Array Value}{is:List Nat}{a b:Value}{r1 r2:Bool}(ha:∀ w,(part e xs (i*c)).run P w=.ok a w)(hb:∀ w,(part e ys (i*c)).run P w=.ok b w)
 (h1:Sx.EqAt P k e a b r1) (h2:c2P P k e c xs ys is r2):c2P P k e c xs ys (i::is) (r1&&r2):=fun d w=>by
 simp only [Op.eqItems,Sem.run_bind,ha,hb,Result.andThen_ok,h1 d w]
 cases r1
 ·simp
 ·simpa using h2 d w
omit [∀ E,Rp (I E)] in
theorem c0N {P:Program}{k m b K:Nat}{T e:TypeId}{z:Value}{xs ys:Array Value}{r:Bool}(hu:P.underlying T=some (.array m e))(hi:Z1 P e z k b)(h:c2P P K e k xs ys (List.range m) r):Sx.EqAt P (K+1) T (.agg xs) (.agg ys) r:=fun d w=>by
 obtain ⟨i,h1,h2,h3,h4⟩:=hi
 have:=run_equalIn_array (P:=P) (w:=w) (d+K) xs ys hu h1
 rw [<- Nat.add_assoc,this]
 have hc:P.cellsOf e=k:=by simp [Program.cellsOf,h1,h3]
 rw [hc]
 exact h d w
def b2S (fe:List (FE I))(T:TypeId)(g:I T->I T->Bool):List (PV I)->List (PV I)->Option Bool:=fun ls ms =>
 match ls,ms with
 | [.dat E x],[.dat E' y]=>Option.bind (a4C T E x) fun x=>Option.bind (a4C T E' y) fun y=>some (g x y)
 | [.dat E x],ms=>Option.bind (a4C T E x) fun x=>Option.bind (ofT fe T ms) fun y=>some (g x y)
 | ls,[.dat E' y]=>Option.bind (ofT fe T ls) fun x=>Option.bind (a4C T E' y) fun y=>some (g x y)
 | ls,ms=>Option.bind (ofT fe T ls) fun x=>Option.bind (ofT fe T ms) fun y=>some (g x y)
theorem b6z {X:Cxt}{c:Cx}{σ:S}{T E:TypeId}{x:I E}{y:I T}{cs:List Value}(h:a4C T E x=some y)(hl:RG X c σ [.dat E x] cs):Rp.cells σ y cs:=by
 obtain ⟨e,rfl⟩:=a65 h
 subst e
 simp only [RG] at hl
 obtain ⟨a,r,e,h1 | ⟨h0,_⟩,h2⟩:=hl
 ·subst h2
  rw [e,List.append_nil]
  exact h1
 ·cases h0
theorem c1T {fe:List (FE I)}{T:TypeId}{g:I T->I T->Bool}{X:Cxt}{c:Cx}{σ:S}{ls ms:List (PV I)}{r:Bool}{cs ds:List Value}(h:b2S fe T g ls ms=some r)(hl:RG X c σ ls cs)(hm:RG X c σ ms ds) :
 ∃ x y,Rp.cells σ x cs/\Rp.cells σ y ds/\g x y=r:=by
 unfold b2S at h
 split at h
 ·obtain ⟨x,hx,h⟩:=bind_some h
  obtain ⟨y,hy,h⟩:=bind_some h
  exact ⟨x,y,b6z hx hl,b6z hy hm,Option.some.inj h⟩
 ·obtain ⟨x,hx,h⟩:=bind_some h
  obtain ⟨y,hy,h⟩:=bind_some h
  exact ⟨x,y,b6z hx hl,b2L hy hm,Option.some.inj h⟩
 ·obtain ⟨x,hx,h⟩:=bind_some h
  obtain ⟨y,hy,h⟩:=bind_some h
  exact ⟨x,y,b2L hx hl,b6z hy hm,Option.some.inj h⟩
 ·obtain ⟨x,hx,h⟩:=bind_some h
  obtain ⟨y,hy,h⟩:=bind_some h
  exact ⟨x,y,b2L hx hl,b2L hy hm,Option.some.inj h⟩
omit [∀ E,Rp (I E)] in
theorem b7f [∀ E,Rp (I E)] {P:Program}{r:Row I}(h:r.run=b0Q r.ps fun _=>none):a0r P r:=by
 intro σ a vs pls res hA hnd happ
 rw [h] at happ
 have:∀ (ps:List Pk) (R:Type) (a:a0h I ps),a63 ps (b0Q ps fun _=>(none:Option R)) a=none:=by
  intro ps R a
  induction ps with
  | nil=>rfl
  | cons p r ih=>exact ih a.2
 rw [this] at happ
 cases happ
def a56 (f:Func):Code:=match f.body with
 | some c=>c
 | none=>.skip
inductive BE where
 | slot (t:Nat)
 | fld (T:TypeId) (f:Nat) (e:BE)
 | ld (T:TypeId) (e:BE)
 | len (e:BE)
 | cst (n:Int)
def bev (tb:Tab I)(s:St I):BE->Option (PV I)
 | .slot t=>s.F t
 | .fld T f e=>Option.bind (bev tb s e) fun p=>Option.bind (tb.off T f) fun d=>match p with
   | .ptr l o=>some (.ptr l (o+d))
   | .ep E x o=>some (.ep E x (o+d))
   | _=>none
 | .ld T e=>Option.bind (bev tb s e) fun p=>match p with
   | .ptr l o=>match s.O l with
     | some (some (.var _ ls _))=>a2P tb T ls o
     | _=>none
   | .ep E x o=>a2P tb T [.dat E x] o
   | _=>none
 | .len e=>Option.bind (bev tb s e) fun p=>match p with
   | .sl _ xs _=>some (.int .i64 (xs.length:Int))
   | .nl _=>some (.int .i64 0)
   | .str t=>some (.int .i64 (t.size:Int))
   | .vw l=>match s.O l with
     | some (some (.row _ xs _))=>some (.int .i64 (xs.length:Int))
     | some (some (.ro _ xs))=>some (.int .i64 (xs.length:Int))
     | some (some (.bo _ xs))=>some (.int .i64 (xs.length:Int))
     | _=>none
   | .vs l _ lo=>match s.O l with
     | some (some (.row _ xs _))=>some (.int .i64 ((xs.drop lo).length:Int))
     | _=>none
   | _=>none
 | .cst n=>some (.int .i64 n)
def bnd (tb:Tab I)(e:BE)(k:Nat)(s:St I):Option Nat:=match bev tb s e with
 | some (.int _ n)=>some (n.toNat+k)
 | _=>none
end
end Go.Qx
end
section
namespace Go.Sx
open Go Go.RowKit
structure Key where
 Kind:Int
 Text:ByteArray
mutual
inductive Val where
 | mk (Kind:Int) (Int_:Int) (Text:ByteArray) (Kids:List Val) (Keys:List Key) (Entries:List Ent) (Labels:List ByteArray)
inductive Ent where
 | mk (Args:List Val) (Fails:Bool) (Result:Val)
end
namespace Val
def Kind:Val->Int | mk a _ _ _ _ _ _=>a
def Int_:Val->Int | mk _ a _ _ _ _ _=>a
def Text:Val->ByteArray | mk _ _ a _ _ _ _=>a
def Kids:Val->List Val | mk _ _ _ a _ _ _=>a
def Keys:Val->List Key | mk _ _ _ _ a _ _=>a
def Entries:Val->List Ent | mk _ _ _ _ _ a _=>a
def Labels:Val->List ByteArray | mk _ _ _ _ _ _ a=>a
end Val
namespace Ent
def Args:Ent->List Val | mk a _ _=>a
def Fails:Ent->Bool | mk _ a _=>a
def Result:Ent->Val | mk _ _ a=>a
end Ent
instance rpKey:Rp Key where
 sz:=2
 pos:=by decide
 agg:=true
 cells:=fun _ k cs=>cs=[.int .i64 k.Kind,.string k.Text]
 len:=fun h=>by rw [h]; rfl
 one:=fun h v hv=>by rw [h] at hv; simp at hv; rcases hv with rfl | rfl<;>rfl
 mono:=fun _ h=>h
def SlC (σ:S)(len:Nat)(A:Option Addr)(c:Nat)(cs:List Value):Prop:=len<=c/\c<=maxLen/\(0<len->∃ b o,A=some ⟨b,o,none⟩/\a0S σ b o cs)
mutual
def RV (σ:S):Val->List Value->Prop
 | .mk k n t kids keys ents labs,cs=>∃ A1 c1 A2 c2 A3 c3 A4 c4 f1 f3,
    cs=[.int .i64 k,.int .i64 n,.string t,.slice A1 kids.length c1,.slice A2 keys.length c2,.slice A3 ents.length c3,.slice A4 labs.length c4] /\
    SlC σ kids.length A1 c1 f1/\RVs σ kids f1/\Sl σ keys A2 c2/\SlC σ ents.length A3 c3 f3/\REs σ ents f3/\Sl σ labs A4 c4
def RVs (σ:S):List Val->List Value->Prop
 | [],cs=>cs=[]
 | x::xs,cs=>∃ c r,cs=c++r/\RV σ x c/\RVs σ xs r
def RE (σ:S):Ent->List Value->Prop
 | .mk args fails res,cs=>∃ A c f r,cs=.slice A args.length c::.bool fails::r/\SlC σ args.length A c f/\RVs σ args f/\RV σ res r
def REs (σ:S):List Ent->List Value->Prop
 | [],cs=>cs=[]
 | x::xs,cs=>∃ c r,cs=c++r/\RE σ x c/\REs σ xs r
end
theorem RV.len {σ:S}:∀ {v:Val} {cs:List Value},RV σ v cs->cs.length=7
 | .mk ..,cs,h=>by simp only [RV] at h; obtain ⟨_,_,_,_,_,_,_,_,_,_,rfl,_⟩:=h; rfl
theorem RV.one {σ:S}:∀ {v:Val} {cs:List Value},RV σ v cs->∀ u∈cs,u.oneCell'=true
 | .mk ..,cs,h=>by
   simp only [RV] at h
   obtain ⟨_,_,_,_,_,_,_,_,_,_,rfl,_⟩:=h
   intro u hu
   simp at hu
   rcases hu with rfl | rfl | rfl | rfl | rfl | rfl | rfl<;>rfl
theorem RE.len {σ:S}:∀ {v:Ent} {cs:List Value},RE σ v cs->cs.length=9
 | .mk ..,cs,h=>by simp only [RE] at h; obtain ⟨_,_,_,r,rfl,_,_,h4⟩:=h; simp [h4.len]
theorem RE.one {σ:S}:∀ {v:Ent} {cs:List Value},RE σ v cs->∀ u∈cs,u.oneCell'=true
 | .mk ..,cs,h=>by
   simp only [RE] at h
   obtain ⟨_,_,_,r,rfl,_,_,h4⟩:=h
   intro u hu
   simp only [List.mem_cons] at hu
   rcases hu with rfl | rfl | hu
   ·rfl
   ·rfl
   ·exact h4.one u hu
theorem SlC.mono {σ τ:S}{len:Nat}{A:Option Addr}{c:Nat}{cs:List Value}(h:SlC σ len A c cs)(k:Wext σ τ)(hn:0<len->cs≠[]):SlC τ len A c cs :=
 ⟨h.1,h.2.1,fun hl=>by obtain ⟨b,o,e,hs⟩:=h.2.2 hl; exact ⟨b,o,e,hs.mono (hn hl) k⟩⟩
theorem RVs.ne {σ:S}:∀ {xs:List Val} {cs:List Value},RVs σ xs cs->0<xs.length->cs≠[]
 | [],_,_,h=>by simp at h
 | x::xs,cs,h,_=>by
   simp only [RVs] at h
   obtain ⟨c,r,rfl,h1,_⟩:=h
   intro e
   have:=h1.len
   rw [List.append_eq_nil_iff] at e
   rw [e.1] at this
   simp at this
theorem REs.ne {σ:S}:∀ {xs:List Ent} {cs:List Value},REs σ xs cs->0<xs.length->cs≠[]
 | [],_,_,h=>by simp at h
 | x::xs,cs,h,_=>by
   simp only [REs] at h
   obtain ⟨c,r,rfl,h1,_⟩:=h
   intro e
   have:=h1.len
   rw [List.append_eq_nil_iff] at e
   rw [e.1] at this
   simp at this
mutual
theorem RV.mono {σ τ:S}(k:Wext σ τ):∀ {v:Val} {cs:List Value},RV σ v cs->RV τ v cs
 | .mk ..,cs,h=>by
   simp only [RV] at h ⊢
   obtain ⟨A1,c1,A2,c2,A3,c3,A4,c4,f1,f3,e,h1,h2,h3,h4,h5,h6⟩:=h
   exact ⟨A1,c1,A2,c2,A3,c3,A4,c4,f1,f3,e,h1.mono k h2.ne,RVs.mono k h2,h3.mono k,h4.mono k h5.ne,REs.mono k h5,h6.mono k⟩
theorem RVs.mono {σ τ:S}(k:Wext σ τ):∀ {v:List Val} {cs:List Value},RVs σ v cs->RVs τ v cs
 | [],cs,h=>by simp only [RVs] at h ⊢; exact h
 | x::xs,cs,h=>by
   simp only [RVs] at h ⊢
   obtain ⟨c,r,e,h1,h2⟩:=h
   exact ⟨c,r,e,RV.mono k h1,RVs.mono k h2⟩
theorem RE.mono {σ τ:S}(k:Wext σ τ):∀ {v:Ent} {cs:List Value},RE σ v cs->RE τ v cs
 | .mk ..,cs,h=>by
   simp only [RE] at h ⊢
   obtain ⟨A,c,f,r,e,h1,h2,h3⟩:=h
   exact ⟨A,c,f,r,e,h1.mono k h2.ne,RVs.mono k h2,RV.mono k h3⟩
theorem REs.mono {σ τ:S}(k:Wext σ τ):∀ {v:List Ent} {cs:List Value},REs σ v cs->REs τ v cs
 | [],cs,h=>by simp only [REs] at h ⊢; exact h
 | x::xs,cs,h=>by
   simp only [REs] at h ⊢
   obtain ⟨c,r,e,h1,h2⟩:=h
   exact ⟨c,r,e,RE.mono k h1,REs.mono k h2⟩
end
instance rpVal:Rp Val where
 sz:=7
 pos:=by decide
 agg:=true
 cells:=fun σ v cs=>RV σ v cs
 len:=RV.len
 one:=RV.one
 mono:=fun k h=>RV.mono k h
instance rpEnt:Rp Ent where
 sz:=9
 pos:=by decide
 agg:=true
 cells:=fun σ v cs=>RE σ v cs
 len:=RE.len
 one:=RE.one
 mono:=fun k h=>RE.mono k h
theorem RVs.flat {σ:S}:∀ {xs:List Val} {cs:List Value},RVs σ xs cs↔Y0 σ xs cs
 | [],cs=>by simp only [RVs,Y0]
 | x::xs,cs=>by
   simp only [RVs,Y0]
   constructor
   ·rintro ⟨c,r,e,h1,h2⟩; exact ⟨c,r,e,h1,RVs.flat.1 h2⟩
   ·rintro ⟨c,r,e,h1,h2⟩; exact ⟨c,r,e,h1,RVs.flat.2 h2⟩
theorem REs.flat {σ:S}:∀ {xs:List Ent} {cs:List Value},REs σ xs cs↔Y0 σ xs cs
 | [],cs=>by simp only [REs,Y0]
 | x::xs,cs=>by
   simp only [REs,Y0]
   constructor
   ·rintro ⟨c,r,e,h1,h2⟩; exact ⟨c,r,e,h1,REs.flat.1 h2⟩
   ·rintro ⟨c,r,e,h1,h2⟩; exact ⟨c,r,e,h1,REs.flat.2 h2⟩
theorem SlC.sl {α:Type} [Rp α] {σ:S}{xs:List α}{A:Option Addr}{c:Nat}{cs:List Value}(h:SlC σ xs.length A c cs)(hf:Y0 σ xs cs):Sl σ xs A c :=
 ⟨h.1,h.2.1,cs,hf,fun hn=>h.2.2 (List.length_pos_iff.2 hn)⟩
theorem SlC.of {α:Type} [Rp α] {σ:S}{xs:List α}{A:Option Addr}{c:Nat}(h:Sl σ xs A c):∃ cs,SlC σ xs.length A c cs/\Y0 σ xs cs:=by
 obtain ⟨h1,h2,cs,h3,h4⟩:=h
 exact ⟨cs,⟨h1,h2,fun hl=>h4 (List.length_pos_iff.1 hl)⟩,h3⟩
theorem Val.cells_iff {σ:S}{v:Val}{cs:List Value}:Rp.cells σ v cs↔∃ A1 c1 A2 c2 A3 c3 A4 c4,
 cs=[.int .i64 v.Kind,.int .i64 v.Int_,.string v.Text,.slice A1 v.Kids.length c1,.slice A2 v.Keys.length c2,.slice A3 v.Entries.length c3,.slice A4 v.Labels.length c4] /\
 Sl σ v.Kids A1 c1/\Sl σ v.Keys A2 c2/\Sl σ v.Entries A3 c3/\Sl σ v.Labels A4 c4:=by
 cases v with
 | mk k n t kids keys ents labs =>
   show RV σ _ cs↔_
   simp only [RV,Val.Kind,Val.Int_,Val.Text,Val.Kids,Val.Keys,Val.Entries,Val.Labels]
   constructor
   ·rintro ⟨A1,c1,A2,c2,A3,c3,A4,c4,f1,f3,e,h1,h2,h3,h4,h5,h6⟩
    exact ⟨A1,c1,A2,c2,A3,c3,A4,c4,e,h1.sl (RVs.flat.1 h2),h3,h4.sl (REs.flat.1 h5),h6⟩
   ·rintro ⟨A1,c1,A2,c2,A3,c3,A4,c4,e,h1,h3,h4,h6⟩
    obtain ⟨f1,k1,k2⟩:=SlC.of h1
    obtain ⟨f3,k4,k5⟩:=SlC.of h4
    exact ⟨A1,c1,A2,c2,A3,c3,A4,c4,f1,f3,e,k1,RVs.flat.2 k2,h3,k4,REs.flat.2 k5,h6⟩
theorem Ent.cells_iff {σ:S}{v:Ent}{cs:List Value}:Rp.cells σ v cs↔∃ A c A1 c1 A2 c2 A3 c3 A4 c4,
 cs=[.slice A v.Args.length c,.bool v.Fails,.int .i64 v.Result.Kind,.int .i64 v.Result.Int_,.string v.Result.Text,.slice A1 v.Result.Kids.length c1,.slice A2 v.Result.Keys.length c2,.slice A3 v.Result.Entries.length c3,.slice A4 v.Result.Labels.length c4] /\
 Sl σ v.Args A c/\Sl σ v.Result.Kids A1 c1/\Sl σ v.Result.Keys A2 c2/\Sl σ v.Result.Entries A3 c3/\Sl σ v.Result.Labels A4 c4:=by
 cases v with
 | mk args fails res =>
   show RE σ _ cs↔_
   simp only [RE,Ent.Args,Ent.Fails,Ent.Result]
   constructor
   ·rintro ⟨A,c,f,r,rfl,h1,h2,h3⟩
    obtain ⟨A1,c1,A2,c2,A3,c3,A4,c4,rfl,k1,k2,k3,k4⟩:=Val.cells_iff.1 h3
    exact ⟨A,c,A1,c1,A2,c2,A3,c3,A4,c4,rfl,h1.sl (RVs.flat.1 h2),k1,k2,k3,k4⟩
   ·rintro ⟨A,c,A1,c1,A2,c2,A3,c3,A4,c4,rfl,h1,k1,k2,k3,k4⟩
    obtain ⟨f,j1,j2⟩:=SlC.of h1
    exact ⟨A,c,f,_,rfl,j1,RVs.flat.2 j2,Val.cells_iff.2 ⟨A1,c1,A2,c2,A3,c3,A4,c4,rfl,k1,k2,k3,k4⟩⟩
theorem Key.cells_iff {σ:S}{v:Key}{cs:List Value}:Rp.cells σ v cs↔cs=[.int .i64 v.Kind,.string v.Text]:=Iff.rfl
end Go.Sx
end
section
namespace Go.Qx
open Go Go.RowKit Go.Sx
end Go.Qx
namespace Go.Sx
open Go Go.RowKit Go.Qx
abbrev Key.to (v:Key):Int×ByteArray:=(v.Kind,v.Text)
abbrev Key.of (x:Int×ByteArray):Key:=⟨x.1,x.2⟩
theorem Key.cells_to (σ:S)(v:Key)(cs:List Value):rpKey.cells σ v cs↔(k9 (rpK .i64) rpStr).cells σ v.to cs:=by
 constructor
 ·intro h
  have h:cs=[.int .i64 v.Kind,.string v.Text]:=h
  exact ⟨[_],[_],h,rfl,rfl⟩
 ·rintro ⟨c1,c2,e,rfl,rfl⟩
  exact e
abbrev Val.to (v:Val):Int×(Int×(ByteArray×(List Val×(List Key×(List Ent×List ByteArray))))):=(v.Kind,v.Int_,v.Text,v.Kids,v.Keys,v.Entries,v.Labels)
abbrev Val.of (x:Int×(Int×(ByteArray×(List Val×(List Key×(List Ent×List ByteArray)))))):Val:=.mk x.1 x.2.1 x.2.2.1 x.2.2.2.1 x.2.2.2.2.1 x.2.2.2.2.2.1 x.2.2.2.2.2.2
theorem Val.cells_to (σ:S)(v:Val)(cs:List Value):rpVal.cells σ v cs ↔
 (k9 (rpK .i64) (k9 (rpK .i64) (k9 rpStr (k9 (@rpList _ rpVal) (k9 (@rpList _ rpKey) (k9 (@rpList _ rpEnt) (@rpList _ rpStr))))))).cells σ v.to cs:=by
 refine Val.cells_iff.trans ?_
 constructor
 ·rintro ⟨A1,c1,A2,c2,A3,c3,A4,c4,e,h1,h2,h3,h4⟩
  exact ⟨[_],_,e,rfl,[_],_,rfl,rfl,[_],_,rfl,rfl,[_],_,rfl,⟨A1,c1,rfl,h1⟩,[_],_,rfl,⟨A2,c2,rfl,h2⟩,[_],_,rfl,⟨A3,c3,rfl,h3⟩,A4,c4,rfl,h4⟩
 ·rintro ⟨_,_,rfl,rfl,_,_,rfl,rfl,_,_,rfl,rfl,_,_,rfl,⟨A1,c1,rfl,h1⟩,_,_,rfl,⟨A2,c2,rfl,h2⟩,_,_,rfl,⟨A3,c3,rfl,h3⟩,A4,c4,rfl,h4⟩
  exact ⟨A1,c1,A2,c2,A3,c3,A4,c4,rfl,h1,h2,h3,h4⟩
abbrev Ent.to (v:Ent):List Val×(Bool×Val):=(v.Args,v.Fails,v.Result)
abbrev Ent.of (x:List Val×(Bool×Val)):Ent:=.mk x.1 x.2.1 x.2.2
theorem Ent.cells_to (σ:S)(v:Ent)(cs:List Value):rpEnt.cells σ v cs↔(k9 (@rpList _ rpVal) (k9 rpBool rpVal)).cells σ v.to cs:=by
 cases v with
 | mk args fails res =>
   constructor
   ·intro h
    have h:RE σ (.mk args fails res) cs:=h
    simp only [RE] at h
    obtain ⟨A,c,f,r,rfl,h1,h2,h3⟩:=h
    exact ⟨[_],_,rfl,⟨A,c,rfl,h1.sl (RVs.flat.1 h2)⟩,[_],_,rfl,rfl,h3⟩
   ·rintro ⟨_,_,rfl,⟨A,c,rfl,h1⟩,_,r,rfl,rfl,h2⟩
    show RE σ (.mk args fails res) _
    simp only [RE]
    obtain ⟨f,j1,j2⟩:=SlC.of h1
    exact ⟨A,c,f,r,rfl,j1,RVs.flat.2 j2,h2⟩
end Go.Sx
end
section
namespace Go.Qx
open Go Go.RowKit Go.Sx
section
variable {I:TypeId->Type} [∀ E,Rp (I E)] {P:Program}
def c2I (a b:ByteArray):Option Int:=some (b6F a b)
theorem c7A {f : FuncId} {fn : Func} (hf : P.funcs[f]? = some fn) (hname : (fn.name == "runtime.NumGoroutine") = false) (hb : fn.body.isNone = true) (hn : Extern.findNext fn = none) (he : Extern.find fn = some Extern.BytealgCompare.compare) :
 a0r P (⟨f,[.d .str,.d .str],[.k (.d (.int .i64))],c2I⟩:Row I):=by
 intro σ a vs pls res hA _ happ
 obtain ⟨v,_,p1,_,rfl,rfl,⟨h1,rfl⟩,v2,_,p2,_,rfl,rfl,⟨h2,rfl⟩,rfl,rfl⟩:=hA
 have h1:v=.string a.1:=h1
 have h2:v2=.string a.2.1:=h2
 have hr:c2I a.1 a.2.1=some res:=happ
 subst h1
 subst h2
 cases hr
 refine .inr ⟨_,σ,c8m hf hname hb hn he a.1 a.2.1 σ.w,Stp.refl _ σ,[.int .i64 (b6F a.1 a.2.1)],[],[],⟨rfl,rfl,⟨_,rfl,rfl,rfl⟩,rfl,by simp [ows],fun g hg=>by simp [ows] at hg⟩⟩
def Q4 {α:Type}(b:Nat)(xs:List α):Option (List α):=Option.bind (v7 (0+xs.length) b) fun _=>some xs
def noH:Hints I:=⟨fun _=>[],fun _=>[],fun _=>[],fun _=>none,fun _=>none,fun _=>none,fun _=>none,fun _=>0⟩
def noD:Q9 I:=fun _ _ _ _ _ _=>none
theorem c7W:DispOk P (noD:Q9 I):=⟨fun _ _ _ _ _ _=>rfl,fun _ _ _ _ _ h=>by cases h⟩
def c07 (E:TypeId)(xs:List (I E)):St I:=⟨8,fun i=>bif Nat.beq i 0 then some (.sl E xs false) else none,fun _=>none,0⟩
theorem a61 {tb:Tab I}(ht:TabOk P tb)(hmx:P.follows .mixedOrders=true){f:FuncId}{fn:Func}{T E:TypeId}{b:Nat}{i0 i1 i2:Nat}{p0 p1 p2 p3:String}{a2:Array Edge}{t0 t1 t2 t3 t4:TypeId}{cd3:Code}
 (hf : P.funcs[f]? = some fn) (hname : (fn.name == "runtime.NumGoroutine") = false) (hn : fn.ntmps = 8) (hres : fn.results.toList = [.tmp 2]) (hT : P.underlying T = some (.slice E))
 (hb:fn.body=some (.seq (.region i0 #[⟨some 2,.assign (.const (.slice none 0 0)),t0,p0,#[],none⟩] false) (.seq (.seq (.region i1 #[⟨some 3,.move (.tmp 0),t1,p1,#[],none⟩,⟨some 4,.binOp .eql T (.tmp 3) (.const (.slice none 0 0)) t2,t3,p2,a2,none⟩] false)
   (.cond (.tmp 4) (.seq (.region i2 #[⟨some 2,.assign (.const (.slice none 0 0)),t4,p3,#[],none⟩] false) .ret) .skip)) cd3)))
 (hcode:W5 (noH:Hints I) cd3 1=true) (hex:∀ xs:List (I E),a0C tb noD noH cd3 1 (List (I E)) (c07 E xs) (fin tb [.d (.sl E)] [.k (.row E false)] [.tmp 2])=Q4 b xs) (hlo:tb.lo=0:=by rfl) :
 a0r P (⟨f,[.d (.sl E)],[.k (.row E false)],Q4 b⟩:Row I):=by
 refine c0T ht 8 hf hb hname hn hres rfl (hlo:=hlo) fun X c σ F Q a res hX hrel happ hk=>?_
 subst hX
 have happ:Q4 b a.1=some res:=happ
 have h0:=hrel.frame 0 (.sl E a.1 false) rfl
 simp only [RV] at h0
 obtain ⟨A,k,e0,hs,_⟩:=h0
 refine wp_seq (wp_region_lit ?_)
 refine a0j (.slice none 0 0) rfl rfl ?_
 refine wpList_nil (Y7 (wp_seq (wp_seq (wp_region_lit ?_))))
 refine J7 (.slice A (a.1:List (I E)).length k) e0 rfl ?_
 refine a3p (.slice A (a.1:List (I E)).length k) (.slice none 0 0) (.bool A.isNone) rfl rfl rfl rfl (c8k hT) ?_
 refine wpList_nil (Y7 ?_)
 have hgen:∀ (G:Fr),G 0=F 0->Rel X c σ (c07 E a.1) 8 G:=fun G hG =>
  ⟨rfl,(fun i p hp=>by
   have:(bif Nat.beq i 0 then some (PV.sl E a.1 false) else none)=some p:=hp
   obtain ⟨hi,hp⟩:=y0 this
   cases hp
   have:=Nat.eq_of_beq_eq_true hi
   subst this
   rw [hG]
   exact hrel.frame 0 _ rfl),(fun l o ho=>by cases ho),(fun _ _ _ _ _ ⟨_,h⟩=>by cases h),(fun _ _ _ ⟨_,h⟩=>by cases h),fun l _=>hrel.nom l rfl,hrel.base,noN.nests fun _ _ _ _ _ _ h=>by cases h⟩
 refine (Bool.eq_false_or_eq_true A.isNone).elim (fun hn4=>?_) (fun hn4=>?_)
 ·have e:a.1=[]:=hs.nil_of hn4
  have hr:res=[]:=by
   rw [e] at happ
   simp [Q4,v7] at happ
   exact (Option.some.inj happ).symm
  refine b0e rfl hn4 rfl ?_
  refine wp_seq (wp_region_lit ?_)
  refine a0j (.slice none 0 0) rfl rfl ?_
  refine wpList_nil (Y7 (wp_ret (c5W ?_)))
  subst hr
  refine hk .ret (Qx.put (c07 E a.1) (some 2) (.nl E)) c σ _ ?_ (Cx.le_refl c) ((hgen (Y3 (Y3 (Y3 F (some 2) (.slice none 0 0)) (some 3) (.slice A (a.1:List (I E)).length k)) (some 4) (.bool A.isNone)) rfl).put (some 2) _ (.slice none 0 0) (by simp only [RV]; exact ⟨none,rfl⟩)) (Stp.refl _ σ)
  rfl
 ·refine a5a rfl hn4 rfl ?_
  refine wp_skip (Y7 ?_)
  exact W9 ht c7W hmx cd3 1 hcode _ _ _ res X c σ _ Q rfl ((hex a.1).trans happ) (hgen _ rfl) fun e s' c' τ F' g1 g2 g3 g4 _=>hk e s' c' τ F' g1 g2 g3 g4
end
end Go.Qx
end
section
namespace Go.Qx
open Go Go.RowKit Go.Sx
section
variable {α:Type}
def ltB (g:α->α->Option Int)(x y:α):Bool:=match g x y with
 | some r=>decide (r<0)
 | none=>false
structure Swk (lt:α->α->Bool)(xs:List α):Prop where
 irr:∀ x∈xs,lt x x=false
 trans:∀ x∈xs,∀ y∈xs,∀ z∈xs,lt x y=true->lt y z=true->lt x z=true
 ntrans:∀ x∈xs,∀ y∈xs,∀ z∈xs,lt x y=false->lt y z=false->lt x z=false
structure OkCmp (xs:List α)(g:α->α->Option Int):Prop where
 len:xs.length<4611686018427387904
 dfd:∀ x∈xs,∀ y∈xs,∃ r,g x y=some r
 wk:Swk (ltB g) xs
def a6y (lt:α->α->Bool)(xs:List α):List α :=
 if h:0<xs.length then
  haveI:Inhabited (Fin xs.length):=⟨⟨0,h⟩⟩
  (Sort.pdq (fun i j:Fin xs.length=>lt xs[i] xs[j]) (Array.ofFn (n:=xs.length) id) 0 xs.length (Lib.bitLen xs.length) true true).toList.map fun i=>xs[i]
 else []
def c3r (xs:List α)(g:α->α->Option Int):Bool:=decide (xs.length<4611686018427387904)&&(xs.all (fun x=>xs.all fun y=>(g x y).isSome)&&(xs.all (fun x=>!ltB g x x) &&
 (xs.all (fun x=>xs.all fun y=>xs.all fun z=>!(ltB g x y&&ltB g y z)||ltB g x z)&&xs.all fun x=>xs.all fun y=>xs.all fun z=>(ltB g x y||ltB g y z)||!ltB g x z)))
theorem c2G {xs:List α}{g:α->α->Option Int}:c3r xs g=true↔OkCmp xs g:=by
 unfold c3r
 simp only [Bool.and_eq_true,List.all_eq_true,decide_eq_true_eq]
 constructor
 ·rintro ⟨h1,h2,h3,h4,h5⟩
  refine ⟨h1,fun x hx y hy=>Option.isSome_iff_exists.1 (h2 x hx y hy),fun x hx=>by simpa using h3 x hx,fun x hx y hy z hz a b=>?_,fun x hx y hy z hz a b=>?_⟩
  ·have:=h4 x hx y hy z hz
   rw [a,b] at this
   simpa using this
  ·have:=h5 x hx y hy z hz
   rw [a,b] at this
   simpa using this
 ·rintro ⟨h1,h2,h3,h4,h5⟩
  refine ⟨h1,fun x hx y hy=>Option.isSome_iff_exists.2 (h2 x hx y hy),fun x hx=>by rw [h3 x hx]; rfl,fun x hx y hy z hz=>?_,fun x hx y hy z hz=>?_⟩
  ·cases a:ltB g x y with
   | false=>rfl
   | true =>
     cases b:ltB g y z with
     | false=>rfl
     | true=>rw [h4 x hx y hy z hz a b]; rfl
  ·cases a:ltB g x y with
   | true=>rfl
   | false =>
     cases b:ltB g y z with
     | true=>rfl
     | false=>rw [h5 x hx y hy z hz a b]; rfl
instance (xs:List α) (g:α->α->Option Int):Decidable (OkCmp xs g):=decidable_of_iff _ c2G
noncomputable def c27 (xs:List α)(g:α->α->Option Int):Option (List α):=if OkCmp xs g then some (a6y (ltB g) xs) else none
variable {lt:α->α->Bool}{xs:List α}
structure Tot (lt:α->α->Bool)(xs:List α):Prop where
 irr:∀ x∈xs,lt x x=false
 trans:∀ x∈xs,∀ y∈xs,∀ z∈xs,lt x y=true->lt y z=true->lt x z=true
 tot:∀ x∈xs,∀ y∈xs,lt x y=false->lt y x=false->x=y
theorem Tot.sub {ys:List α}(h:Tot lt xs)(hs:∀ x∈ys,x∈xs):Tot lt ys :=
 ⟨fun x hx=>h.irr x (hs x hx),fun x hx y hy z hz=>h.trans x (hs x hx) y (hs y hy) z (hs z hz),fun x hx y hy=>h.tot x (hs x hx) y (hs y hy)⟩
theorem Tot.ntrans (h:Tot lt xs){x y z:α}(hx:x∈xs)(hy:y∈xs)(hz:z∈xs)(h1:lt x y=false)(h2:lt y z=false):lt x z=false:=by
 cases h3:lt x z with
 | false=>rfl
 | true =>
   exfalso
   cases h4:lt y x with
   | true=>rw [h.trans y hy x hx z hz h4 h3] at h2; cases h2
   | false =>
     have:=h.tot x hx y hy h1 h4
     subst this
     rw [h3] at h2; cases h2
abbrev Srt (lt:α->α->Bool)(l:List α):Prop:=l.Pairwise fun a b=>lt b a=false
theorem Tot.wk (h:Tot lt xs):Swk lt xs:=⟨h.irr,h.trans,fun _ hx _ hy _ hz h1 h2=>h.ntrans hx hy hz h1 h2⟩
theorem c1G {β:Type}(d:Array β){m:Nat}(h:d.size=m):d.extract 0 m=d:=by subst h; simp
theorem c1q (h:Swk lt xs):(a6y lt xs).Perm xs/\Srt lt (a6y lt xs):=by
 unfold a6y
 split
 ·rename_i hn
  letI:Inhabited (Fin xs.length):=⟨⟨0,hn⟩⟩
  have hswo:Sort.SWO (fun i j:Fin xs.length=>lt xs[i] xs[j]):=⟨fun i=>h.irr _ (List.getElem_mem _),fun i j k=>h.trans _ (List.getElem_mem _) _ (List.getElem_mem _) _ (List.getElem_mem _),fun i j k=>h.ntrans _ (List.getElem_mem _) _ (List.getElem_mem _) _ (List.getElem_mem _)⟩
  have hh:=Sort.pdq_sorts (fun i j:Fin xs.length=>lt xs[i] xs[j]) hswo (Array.ofFn (n:=xs.length) id) 0 xs.length (Lib.bitLen xs.length) true true (Nat.zero_le _) (by simp) (Or.inl rfl)
  generalize Sort.pdq (fun i j:Fin xs.length=>lt xs[i] xs[j]) (Array.ofFn (n:=xs.length) id) 0 xs.length (Lib.bitLen xs.length) true true=d' at hh ⊢
  obtain ⟨⟨h1,_,h2⟩,hs⟩:=hh
  have hsz:d'.size=xs.length:=by rw [h1]; simp
  have hp':d'.toList.Perm (List.ofFn (n:=xs.length) id):=by
   rw [c1G d' hsz,c1G (Array.ofFn (n:=xs.length) (id:Fin xs.length->Fin xs.length)) (by simp)] at h2
   simpa using h2
  have hxs:(List.ofFn (n:=xs.length) id).map (fun i:Fin xs.length=>xs[i])=xs:=by
   apply List.ext_getElem
   ·simp
   ·intro i h1 h2
    simp
  refine ⟨?_,?_⟩
  ·have:=hp'.map (fun i:Fin xs.length=>xs[i])
   rwa [hxs] at this
  ·rw [Srt,List.pairwise_iff_getElem]
   intro i j hi hj hij
   simp only [List.length_map,Array.length_toList] at hi hj
   have:=hs i j (Nat.zero_le _) hij (by omega)
   rw [getElem!_pos d' j hj,getElem!_pos d' i hi] at this
   simp only [List.getElem_map,Array.getElem_toList]
   exact this
 ·rename_i hn
  have:xs=[]:=List.eq_nil_of_length_eq_zero (by omega)
  subst this
  exact ⟨List.Perm.refl _,List.Pairwise.nil⟩
theorem c30 (h:Swk lt xs):(a6y lt xs).length=xs.length:=(c1q h).1.length_eq
theorem c2p {g:α->α->Option Int}{ys:List α}(h:c27 xs g=some ys):OkCmp xs g/\ys=a6y (ltB g) xs:=by
 unfold c27 at h
 split at h
 ·rename_i hk; cases h; exact ⟨hk,rfl⟩
 ·cases h
end
section
variable {α:Type} [Rp α] {σ τ:S}
def c0e (cs:List Value)(sz n:Nat)(i:Fin n):List Value:=(cs.drop (i.val*sz)).take sz
theorem b2u {xs:List α}{cs:List Value}(h:Y0 σ xs cs)(i:Fin xs.length):Rp.cells σ xs[i] (c0e cs (Rp.sz α) xs.length i):=by
 obtain ⟨c1,cj,c2,e1,e2,e3,_⟩:=b3J h (List.getElem?_eq_getElem i.isLt)
 have:c0e cs (Rp.sz α) xs.length i=cj:=by
  unfold c0e
  rw [e1,List.append_assoc,<- e2,List.drop_left,<- Rp.len e3,List.take_left]
 rw [this]; exact e3
theorem c14 {n:Nat}{enc:Fin n->List Value}{xs:Fin n->α}(h:∀ i,Rp.cells σ (xs i) (enc i)):∀ l:List (Fin n),Y0 σ (l.map xs) (l.flatMap enc)
 | []=>rfl
 | i::l=>⟨_,_,rfl,h i,c14 h l⟩
theorem a81 {n k:Nat}{enc:Fin n->List Value}(hk:∀ i,(enc i).length=k)(hp:0<k):∀ (l:List (Fin n)) (t:Nat),t<l.length*k->(l.flatMap enc)[t]?=(l[t / k]?.bind fun i=>(enc i)[t%k]?)
 | [],t,h=>by simp at h
 | i::l,t,h=>by
   rw [List.flatMap_cons]
   by_cases hlt:t<k
   ·rw [List.getElem?_append_left (by rw [hk]; exact hlt),Nat.div_eq_of_lt hlt,Nat.mod_eq_of_lt hlt]
    rfl
   ·have hle:=Nat.le_of_not_lt hlt
    rw [List.getElem?_append_right (by rw [hk]; exact hle),hk,a81 hk hp l (t-k) (by simp [Nat.add_mul] at h; omega)]
    have e1:t / k=(t-k) / k+1:=Nat.div_eq_sub_div hp hle
    have e2:t%k=(t-k)%k:=Nat.mod_eq_sub_mod hle
    rw [e1,e2,List.getElem?_cons_succ]
theorem b6Z {n k:Nat} [Inhabited (Fin n)] {enc:Fin n->List Value}(hk:∀ i,(enc i).length=k)(hp:0<k)(d:Array (Fin n)):(Sort.flatK enc k d).toList=d.toList.flatMap enc:=by
 apply List.ext_getElem?
 intro t
 by_cases ht:t<d.size*k
 ·rw [a81 hk hp d.toList t (by simpa using ht)]
  have hq:t / k<d.size:=by rw [Nat.div_lt_iff_lt_mul hp]; exact ht
  have hm:t%k<k:=Nat.mod_lt _ hp
  have e1:(Sort.flatK enc k d)[t]! = (enc d[t / k]!)[t%k]! := Sort.get_flatK enc k d t ht
  rw [getElem!_pos (Sort.flatK enc k d) t (by simpa using ht)] at e1
  rw [Array.getElem?_toList,Array.getElem?_eq_getElem (by simpa using ht),e1,Array.getElem?_toList,Array.getElem?_eq_getElem hq,getElem!_pos d (t / k) hq]
  simp only [Option.bind_some]
  rw [List.getElem?_eq_getElem (by rw [hk]; exact hm),getElem!_pos _ _ (by rw [hk]; exact hm)]
 ·rw [List.getElem?_eq_none (by simp; omega),List.getElem?_eq_none (by
   have:(d.toList.flatMap enc).length=d.size*k:=by
    have:∀ l:List (Fin n),(l.flatMap enc).length=l.length*k:=by
     intro l
     induction l with
     | nil=>simp
     | cons i l ih=>simp [ih,hk,Nat.add_mul,Nat.add_comm]
    simpa using this d.toList
   omega)]
def a1y (w:World)(g m:Nat)(F:Array Value)(os:Array Obj):World:=Sort.grow (Sort.putRow id (Sort.ahead w m) g 0 F) os
theorem b5I {w:World}{g m:Nat}{F:Array Value}{os:Array Obj}{b:Nat}(hb:b<w.heap.size)(hne:b≠g):(a1y w g m F os).heap[b]?=w.heap[b]?:=by
 simp only [a1y,Sort.grow,Sort.putRow,Sort.mapBlock,Sort.ahead]
 rw [Array.getElem?_append_left (by simpa using hb),Array.getElem?_modify,if_neg (fun e=>hne e.symm)]
theorem c4f {w:World}{g m:Nat}{F:Array Value}{os:Array Obj}{cur:Array Value}{E:TypeId}(h:w.heap[g]?=some (.cells cur E (0,0)))(hF:F.size<=cur.size) :
 (a1y w g m F os).heap[g]?=some (.cells (F.toList++cur.toList.drop F.size).toArray E (0,0)):=by
 have hb:g<w.heap.size:=J8 h
 simp only [a1y,Sort.grow,Sort.putRow,Sort.mapBlock,Sort.ahead]
 rw [Array.getElem?_append_left (by simpa using hb),Array.getElem?_modify,if_pos rfl,h]
 simp only [Option.map_some,Sort.onCells,Option.some.injEq,Obj.cells.injEq,and_self,and_true]
 apply Array.ext_getElem?
 intro i
 simp only [Sort.putCells,Array.getElem?_mapIdx,List.getElem?_toArray,id]
 by_cases hi:i<F.size
 ·rw [List.getElem?_append_left (by simpa using hi),Array.getElem?_toList,Array.getElem?_eq_getElem hi,Array.getElem?_eq_getElem (by omega:i<cur.size)]
  simp only [Option.map_some,Nat.zero_le,Nat.zero_add,hi,and_self,if_true,Nat.sub_zero]
  rw [getElem!_pos F i hi]
 ·rw [List.getElem?_append_right (by simpa using Nat.le_of_not_lt hi),List.getElem?_drop]
  rw [Array.length_toList,Nat.add_sub_cancel' (Nat.le_of_not_lt hi),Array.getElem?_toList]
  cases hc:cur[i]? with
  | none=>rfl
  | some v=>simp [hi]
def b3v (σ:S)(W:World):S:=⟨W,fun b=>if b<σ.N then σ.L b else (0,b)⟩
theorem c3i (w:World)(g m:Nat)(F:Array Value)(os:Array Obj):(a1y w g m F os).heap.size=w.heap.size+os.size:=by
 simp [a1y,Sort.grow,Sort.putRow,Sort.mapBlock,Sort.ahead]
theorem a7n {g m k:Nat}{E:TypeId}{xs:List α}{A:Option Addr}{F:Array Value}{os:Array Obj}(hown:Q6 (some g) false E σ xs A k):Stp (fun b=>b=g) σ (b3v σ (a1y σ.w g m F os)):=by
 obtain ⟨cur,cs,rfl,hh,h1,h2,h3,h4,h5,h6⟩:=hown
 have hL:∀ b,b<σ.N->(b3v σ (a1y σ.w g m F os)).L b=σ.L b:=fun b hb=>by simp [b3v,hb]
 refine ⟨⟨?_,fun b hb=>by rw [hL b hb]; exact Nat.le_refl _,fun b o v ho hc=>?_,?_,fun b o hb hf=>?_⟩,rfl,rfl,rfl,fun b hb hn=>⟨b5I hb hn,by rw [hL b hb]⟩⟩
 ·show σ.w.heap.size<=(a1y σ.w g m F os).heap.size
  rw [c3i]; omega
 ·have hlt:=a1i hc
  by_cases e:b=g
  ·subst e
   rw [show (σ.L b).1=0 from h6] at ho
   omega
  ·exact (W7 (b5I hlt e) o).trans hc
 ·show σ.w.drawn<=(a1y σ.w g m F os).drawn
  simp [a1y,Sort.grow,Sort.putRow,Sort.mapBlock,Sort.ahead]
 ·by_cases e:b=g
  ·subst e
   have hb':∃ c',(a1y σ.w b m F os).heap[b]?=some (.cells c' E (0,0)):=⟨_,by
    simp only [a1y,Sort.grow,Sort.putRow,Sort.mapBlock,Sort.ahead]
    rw [Array.getElem?_append_left (by simpa using J8 hh),Array.getElem?_modify,if_pos rfl,hh]
    rfl⟩
   obtain ⟨c',hb'⟩:=hb'
   exact a4u hb' o
  ·exact (a0i (b5I hb e) o).trans hf
theorem b52 {g m k:Nat}{E:TypeId}{xs ys:List α}{A:Option Addr}{F:Array Value}{os:Array Obj}(hown:Q6 (some g) false E σ xs A k)(hF:Y0 σ ys F.toList)(hl:ys.length=xs.length) :
 Q6 (some g) false E (b3v σ (a1y σ.w g m F os)) ys A k:=by
 have hst:=a7n (m:=m) (F:=F) (os:=os) hown
 obtain ⟨cur,cs,rfl,hh,h1,h2,h3,h4,h5,h6⟩:=hown
 have hFs:F.size=xs.length*Rp.sz α:=by rw [<- Array.length_toList,hF.len,hl]
 have hle:F.size<=cur.size:=by rw [hFs,h3]; exact Nat.mul_le_mul_right _ h1
 refine ⟨(F.toList++cur.toList.drop F.size).toArray,F.toList,rfl,c4f hh hle,by rw [hl]; exact h1,h2,?_,hF.mono hst.wext,?_,?_⟩
 ·simp; omega
 ·rw [hl,<- hFs,<- Array.length_toList]
  exact List.take_left
 ·show (if g<σ.N then σ.L g else (0,g)).1=_
  rw [if_pos (J8 hh)]
  exact h6
theorem c4p {τ υ:S}(h:Stp NoB τ υ):∃ q os,υ.w=Sort.grow (τ.w.drewN q) os:=by
 refine ⟨υ.w.drawn-τ.w.drawn,υ.w.heap.extract τ.w.heap.size υ.w.heap.size,?_⟩
 have hd:=h.wext.drawn
 have hs:τ.w.heap.size<=υ.w.heap.size:=h.wext.size
 have e1:=h.os
 have e2:=h.tape
 have e3:=h.output
 have hheap:υ.w.heap=τ.w.heap++υ.w.heap.extract τ.w.heap.size υ.w.heap.size:=by
  apply Array.ext_getElem?
  intro i
  by_cases hi:i<τ.w.heap.size
  ·rw [Array.getElem?_append_left hi]
   exact (h.block i hi (fun h=>h)).1
  ·rw [Array.getElem?_append_right (Nat.le_of_not_lt hi),Array.getElem?_extract]
   have:τ.w.heap.size+(i-τ.w.heap.size)=i:=by omega
   rw [this]
   split
   ·rfl
   ·rw [Array.getElem?_eq_none (by omega)]
 cases hu:υ.w with
 | mk heap tape drawn os output =>
   rw [hu] at hd hs e1 e2 e3 hheap
   simp only [Sort.grow,World.drewN]
   simp only at hd hheap e1 e2 e3
   rw [<- hheap,e1,e2,e3]
   congr 1
   omega
theorem b61 {β:Type} [Inhabited β] (enc:β->Value)(w:World)(g:Nat)(dk:Array β):Sort.putRow enc w g 0 dk=Sort.putRow id w g 0 (dk.map enc):=by
 unfold Sort.putRow
 congr 1
 funext c
 unfold Sort.putCells
 apply Array.ext_getElem?
 intro i
 simp only [Array.getElem?_mapIdx,Array.size_map]
 cases hc:c[i]? with
 | none=>rfl
 | some v =>
   simp only [Option.map_some,Option.some.injEq]
   split
   ·rename_i hi
    have hi':i-0<dk.size:=by omega
    rw [getElem!_pos dk (i-0) hi',id,getElem!_pos (dk.map enc) (i-0) (by simpa using hi'),Array.getElem_map]
   ·rfl
theorem c5L {P:Program}{g:FuncId}(h:X6 P g)(args:Array Value)(w:World):(callFunc g args).run P w=.ok (.enter g args) w:=by
 obtain ⟨fn,c,h1,h2,h3⟩:=h
 have h3' : fn.name ≠ "runtime.NumGoroutine" := by simpa using h3
 simp [callFunc,h1,h2,h3']
theorem c2V {P:Program}{g:FuncId}{vs:List Value}{τ:S}{E:S->Prop}{R:Value->S->Prop}(hb:X6 P g)(h:V8 P g vs τ E R):Calls P g vs.toArray τ.w fun e w'=>∃ v υ,e=.returned v/\υ.w=w'/\E υ/\R v υ:=by
 rcases h with ⟨_,h⟩ | ⟨v,υ,h,_⟩
 ·exact h
 ·rw [c5L hb] at h; cases h
omit [Rp α] in
theorem c1H {n:Nat}{xs:Fin n->α}{l:List α}{gf:α->α->Option Int}(hl:∀ i,xs i∈l)(ht:Swk (ltB gf) l)(cf:Fin n->Fin n->Int)(hcf:∀ i j,gf (xs i) (xs j)=some (cf i j)):Sort.SWO (Go.Proofs.ltOf cf):=by
 have e:∀ i j,Go.Proofs.ltOf cf i j=ltB gf (xs i) (xs j):=fun i j=>by simp [Go.Proofs.ltOf,ltB,hcf i j]
 refine ⟨fun i=>?_,fun i j k h1 h2=>?_,fun i j k h1 h2=>?_⟩
 ·rw [e]; exact ht.irr _ (hl i)
 ·rw [e] at *; exact ht.trans _ (hl i) _ (hl j) _ (hl k) h1 h2
 ·rw [e] at *; exact ht.ntrans _ (hl i) _ (hl j) _ (hl k) h1 h2
omit [Rp α] in
theorem b88 {xs:List α}(hn:0<xs.length) [inst:Inhabited (Fin xs.length)] {gf:α->α->Option Int}{cf:Fin xs.length->Fin xs.length->Int}(hcf:∀ i j:Fin xs.length,gf xs[i.val] xs[j.val]=some (cf i j))(hi:inst=⟨⟨0,hn⟩⟩) :
 (Sort.pdq (Go.Proofs.ltOf cf) (Array.ofFn (n:=xs.length) id) 0 xs.length (Lib.bitLen xs.length) true true).toList.map (fun i:Fin xs.length=>xs[i])=a6y (ltB gf) xs:=by
 have e:Go.Proofs.ltOf cf=fun i j:Fin xs.length=>ltB gf xs[i] xs[j]:=by
  funext i j
  have:=hcf i j
  have e2:gf xs[i] xs[j]=some (cf i j):=this
  simp only [Go.Proofs.ltOf,ltB,e2]
 rw [e]
 unfold a6y
 rw [dif_pos hn]
 subst hi
 rfl
open Go.Proofs in
theorem c2L {P:Program}{ρ:Go.Shelf.Ren}(L:Go.Proofs.SlLaysF0.n6 P ρ){fs:Array Field}{E:TypeId}(hu:P.underlying (ρ.t 24)=some (.struct fs))(hz:(P.info? (ρ.t 24)).map (·.size)=some (Rp.sz α)){xs:List α}{A:Option Addr}{k:Nat}{ow:Option Nat}(hown:Q6 ow false E σ xs A k)
 {g:FuncId} {cb:List Value} {gf:α->α->Option Int} (hok:OkCmp xs gf) (hbody:X6 P g)
 (hcmp:∀ τ,Stp (fun b=>σ.N<=b\/ow=some b) σ τ->∀ x y cx cy r,Rp.cells τ x cx->Rp.cells τ y cy->gf x y=some r->V8 P g ([.agg cx.toArray,.agg cy.toArray]++cb) τ (Stp NoB τ) fun v _=>v=.int .i64 r) :
 V8 P (ρ.f 6) [.slice A xs.length k,.func (.func g) #[] cb.toArray] σ (Stp (fun b=>ow=some b) σ) fun v τ=>v=.tuple #[]/\Q6 ow false E τ (a6y (ltB gf) xs) A k:=by
 have hb6:X6 P (ρ.f 6):=by
  obtain ⟨nm,hn,hf⟩:=L.f6
  exact ⟨_,_,hf,rfl,hn⟩
 refine .inl ⟨hb6,?_⟩
 cases hx:xs with
 | nil =>
   subst hx
   refine (AnyF.slices_SortFunc_none L A k (.func (.func g) #[] cb.toArray) σ.w).mono fun e w' ⟨he,hw⟩=>?_
   exact ⟨_,σ,he,hw.symm,Stp.refl _ _,rfl,hown⟩
 | cons x0 r0 =>
   rw [<- hx]
   cases ow with
   | none =>
     rcases hown with ⟨e,_⟩ | ⟨e,_⟩
     ·rw [hx] at e; cases e
     ·cases e
   | some gb =>
     have hown0:=hown
     obtain ⟨cur,cs,rfl,hh,h1,h2,h3,h4,h5,h6⟩:=hown
     have hn:0<xs.length:=by rw [hx]; simp
     let n:=xs.length
     letI:Inhabited (Fin xs.length):=⟨⟨0,hn⟩⟩
     let enc:Fin xs.length->List Value:=c0e cs (Rp.sz α) xs.length
     have hpos:=Rp.pos (α:=α)
     have hek:∀ i,(enc i).length=Rp.sz α:=fun i=>Rp.len (b2u h4 i)
     have he1:∀ i,∀ v∈enc i,v.oneCell'=true:=fun i v hv=>Rp.one (b2u h4 i) v hv
     let cf:Fin xs.length->Fin xs.length->Int:=fun i j=>(gf xs[i] xs[j]).getD 0
     have hcf:∀ i j:Fin xs.length,gf xs[i.val] xs[j.val]=some (cf i j):=fun i j=>by
      obtain ⟨r,hr⟩:=hok.dfd xs[i] (List.getElem_mem _) xs[j] (List.getElem_mem _)
      have hr':gf xs[i.val] xs[j.val]=some r:=hr
      show _=some ((gf xs[i.val] xs[j.val]).getD 0)
      rw [hr']; rfl
     have hflat:∀ {υ:S} (_:Wext σ υ) (dk:Array (Fin xs.length)),Y0 υ (dk.toList.map fun i=>xs[i]) (Sort.flatK enc (Rp.sz α) dk).toList:=fun hw dk=>by
      rw [b6Z hek hpos]
      exact (c14 (fun i=>b2u h4 i) dk.toList).mono hw
     have hcur:∀ j,j<xs.length*Rp.sz α->cur[j]?=cs[j]?:=fun j hj=>by
      rw [<- h5,List.getElem?_take_of_lt hj,Array.getElem?_toList]
     have hd0:(Sort.flatK enc (Rp.sz α) (Array.ofFn (n:=xs.length) id)).toList=cs:=by
      have hA:=hflat (Wext.refl σ) (Array.ofFn (n:=xs.length) id)
      apply List.ext_getElem?
      intro t
      by_cases ht:t<xs.length*Rp.sz α
      ·rw [b6Z hek hpos,a81 hek hpos _ t (by simpa using ht)]
       have hq:t / Rp.sz α<xs.length:=by rw [Nat.div_lt_iff_lt_mul hpos]; exact ht
       simp only [Array.toList_ofFn,List.getElem?_ofFn,hq,dite_true,Option.bind_some,id]
       simp only [enc,c0e]
       rw [List.getElem?_take_of_lt (Nat.mod_lt _ hpos),List.getElem?_drop]
       congr 1
       exact Nat.div_add_mod' t (Rp.sz α)
      ·rw [List.getElem?_eq_none (by simp; omega),List.getElem?_eq_none (by rw [h4.len]; omega)]
     have hholds:Sort.HoldsK enc (Rp.sz α) σ.w gb 0 (Array.ofFn (n:=xs.length) id):=by
      intro j hj
      have hj':j<xs.length*Rp.sz α:=by simpa using hj
      have hjc:j<cs.length:=by rw [h4.len]; exact hj'
      refine ⟨?_,by simp [World.frozen?,hh]⟩
      have e1:σ.w.cell? ⟨gb,0+j,none⟩=cur[j]?:=by simp [World.cell?,hh]
      rw [e1,hcur j hj',getElem!_pos _ j (by simpa using hj'),List.getElem?_eq_getElem hjc]
      congr 1
      have:=congrArg (fun l:List Value=>l[j]?) hd0
      simp only [Array.getElem?_toList] at this
      rw [Array.getElem?_eq_getElem (by simpa using hj'),List.getElem?_eq_getElem hjc] at this
      exact (Option.some.inj this).symm
     have hlt:gb<σ.w.heap.size:=J8 hh
     have hcl:CmpLays P g cb.toArray enc (Rp.sz α) cf gb 0 (Array.ofFn (n:=xs.length) (id:Fin xs.length->Fin xs.length)).size σ.w:=by
      intro m os dk hdk i j
      have hst:=a7n (m:=m) (F:=Sort.flatK enc (Rp.sz α) dk) (os:=os) hown0
      have hc:=hcmp (b3v σ (a1y σ.w gb m (Sort.flatK enc (Rp.sz α) dk) os)) (hst.mono fun b _ e=>.inr (by rw [e])) xs[i] xs[j] (enc i) (enc j) (cf i j) (Rp.mono hst.wext (b2u h4 i)) (Rp.mono hst.wext (b2u h4 j)) (hcf i j)
      have hc':=c2V hbody hc
      have e:(#[Value.agg (enc i).toArray,Value.agg (enc j).toArray]++cb.toArray)=([Value.agg (enc i).toArray,Value.agg (enc j).toArray]++cb).toArray:=by simp
      rw [e]
      refine Calls.mono hc' fun e w' ⟨v,υ,h1,h2,h3,h4⟩=>?_
      obtain ⟨q,os',ho⟩:=c4p h3
      exact ⟨by rw [h1,h4],q,os',by rw [<- h2]; exact ho⟩
     have aE:∀ w,(isAgg (ρ.t 24)).run P w=.ok true w:=fun w=>by
      simp [isAgg,run_underlying hu]
     have main:=AnyQ.slices_SortFunc_eq L (Rp.sz α) aE (fun w=>Sx.run_sizeOf hz w) enc hek he1 cf (c1H (xs:=fun i:Fin xs.length=>xs[i]) (l:=xs) (fun i=>List.getElem_mem _) hok.wk cf hcf) g cb.toArray gb 0 k (Array.ofFn (n:=xs.length) id) σ.w (c5L hbody) hcl hholds hlt (by simp only [Array.size_ofFn]; exact hok.len)
     have hs:(Array.ofFn (n:=xs.length) (id:Fin xs.length->Fin xs.length)).size=xs.length:=by simp
     rw [hs] at main
     have hsorted:=b88 hn hcf rfl
     have hswo:=c1H (xs:=fun i:Fin xs.length=>xs[i]) (l:=xs) (fun i=>List.getElem_mem _) hok.wk cf hcf
     have hp:=(Sort.pdq_sorts (ltOf cf) hswo (Array.ofFn (n:=xs.length) id) 0 xs.length (Lib.bitLen xs.length) true true (Nat.zero_le _) (by simp) (Or.inl rfl)).1
     generalize Sort.pdq (ltOf cf) (Array.ofFn (n:=xs.length) id) 0 xs.length (Lib.bitLen xs.length) true true=d' at main hsorted hp
     refine Calls.mono main fun e w' ⟨he,m,os,hw⟩=>?_
     have hst:=a7n (m:=m) (F:=Sort.flatK enc (Rp.sz α) d') (os:=os) hown0
     refine ⟨_,b3v σ (a1y σ.w gb m (Sort.flatK enc (Rp.sz α) d') os),he,hw.symm,hst.mono fun b _ e=>by rw [e],rfl,?_⟩
     rw [<- hsorted]
     exact b52 hown0 (hflat (Wext.refl σ) d') (by simp; rw [hp.1]; simp)
end
section
variable {I:TypeId->Type} [∀ E,Rp (I E)] {P:Program}
noncomputable def b00 {α:Type}(xs:List α)(g:α->α->Option Int):Option (Unit×List α):=Option.bind (c27 xs g) fun ys=>some ((),ys)
theorem c3J {σ τ:S}{E:TypeId}{ks:List Kd}{rs:List V}{v1 v2:Value}{gr:List Nat}{res:Unit}:Post (I:=I) σ τ [.row E false,.fn ks rs] [] [v1,v2] res gr (.tuple #[]) [] [] [] :=
 ⟨rfl,rfl,⟨rfl,rfl⟩,rfl,by simp [ows],fun g hg=>by simp [ows] at hg⟩
theorem b8C {ρ:Go.Shelf.Ren}(L:Go.Proofs.SlLaysF0.n6 P ρ){fs:Array Field}(f:FuncId)(hf:ρ.f 6=f){E:TypeId}(hE:ρ.t 24=E)(hu:P.underlying E=some (.struct fs))(hz:(P.info? E).map (·.size)=some (Rp.sz (I E))) :
 a3V P (⟨f,E,[.fn [.dat E,.dat E] [.k (.d (.int .i64))]],[],fun xs g=>b00 xs g⟩:Rio I):=by
 subst hf
 subst hE
 intro σ xs a vs pls res ys hA hnd happ
 obtain ⟨v1,vs1,p1,q1,e1,e2,⟨A,k,ow,e3,hown,e4⟩,v2,vs2,p2,q2,e5,e6,⟨g,av,cb,e7,⟨hbody,has,hfn⟩,e8⟩,e9,e10⟩:=hA
 obtain ⟨gf,u⟩:=a
 have happ:b00 xs gf=some (res,ys):=happ
 unfold b00 at happ
 obtain ⟨ys',hs,happ⟩:=bind_some happ
 cases happ
 obtain ⟨hok,hys⟩:=c2p hs
 have e9:vs2=[]:=e9
 have e10:q2=[]:=e10
 have e3:v1=.slice A xs.length k:=e3
 have e4:p1=[⟨A,k,xs.length,ow⟩]:=e4
 have e7:v2=.func (.func g) (List.toArray av) (List.toArray cb):=e7
 have e8:p2=[]:=e8
 subst e9; subst e10; subst has; subst e8; subst e6; subst e4; subst e5; subst e7; subst e3; subst e1
 rw [List.append_nil] at e2
 subst e2
 have hc:=c2L (σ:=σ) L hu hz hown hok hbody (cb:=cb) (fun τ hst x y cx cy r hx hy hr=>by
  have h1:=hfn τ (hst.mono fun b _ hb=>hb.imp id fun h=>by rw [h]; simp [ows]) (x,y,()) [.agg cx.toArray,.agg cy.toArray] r ⟨_,_,rfl,⟨cx,rfl,hx⟩,_,_,rfl,⟨cy,rfl,hy⟩,rfl⟩ hr
  exact V8.mono h1 rfl fun v υ hE ⟨ws,hv,ht⟩=>⟨υ,rfl,hE,by
   obtain ⟨w,hw,ht,_⟩:=ht
   rw [hv,hw]
   exact ht⟩)
 refine V8.mono hc rfl fun v τ hE ⟨hv,hO⟩=>⟨τ,rfl,hE.mono fun b _ hb=>by rw [hb]; simp [ows],[],[],[],by rw [hv]; exact c3J,A,k,ow,rfl,by rw [hys]; exact c30 hok.wk,by rw [hys]; exact hO,fun g _=>by simp [ows]⟩
def b0C {α:Type}(toS:α->ByteArray)(xs:List α):Option (Unit×List α):=bif decide (xs.length<4611686018427387904) then some ((),xs.mergeSort fun x y=>decide ((toS x).data.toList<=(toS y).data.toList)) else none
def b7Q (xs:List ByteArray):Option (Unit×List ByteArray):=b0C (fun x=>x) xs
open Go.Proofs in
theorem c3O {ρ:Go.Shelf.Ren}(L:Go.Proofs.Lays.n190 P ρ)(f:FuncId)(hf:ρ.f 190=f){E:TypeId}(toS:I E->ByteArray)(hI:∀ {σ:S} {x:I E} {cs:List Value},Rp.cells σ x cs↔cs=[.string (toS x)])(hb:X6 P f) :
 a3V P (⟨f,E,[],[],fun xs=>b0C toS xs⟩:Rio I):=by
 subst hf
 intro σ xs a vs pls res ys hA hnd happ
 obtain ⟨v1,vs1,p1,q1,e1,e2,⟨A,k,ow,e3,hown,e4⟩,e9,e10⟩:=hA
 have happ:b0C toS xs=some (res,ys):=happ
 unfold b0C at happ
 obtain ⟨hlen,happ⟩:=y0 happ
 have hlen:xs.length<4611686018427387904:=by simpa using hlen
 have e9:vs1=[]:=e9
 have e10:q1=[]:=e10
 have e3:v1=.slice A xs.length k:=e3
 have e4:p1=[⟨A,k,xs.length,ow⟩]:=e4
 subst e9; subst e10; subst e4; subst e3; subst e1
 rw [List.append_nil] at e2
 subst e2
 cases happ
 have hpost:∀ {τ:S},Post (I:=I) σ τ [.row E false] [] [.slice A xs.length k] () (ows [(⟨A,k,xs.length,ow⟩:Pl)]) (.tuple #[]) [] [] []:=⟨rfl,rfl,⟨rfl,rfl⟩,rfl,by simp [ows],fun g hg=>by simp [ows] at hg⟩
 refine .inl ⟨hb,?_⟩
 have hown:Q6 ow false E σ xs A k:=hown
 cases hx:xs with
 | nil =>
   subst hx
   refine (Any.slices_Sort_string_none L A k σ.w).mono fun e w' ⟨he,hw⟩=>?_
   exact ⟨_,σ,he,hw.symm,Stp.refl _ _,[],[],[],hpost,A,k,ow,rfl,by simp,by simpa using hown,fun g _=>by simp [ows]⟩
 | cons x0 r0 =>
   rw [<- hx]
   cases ow with
   | none =>
     rcases hown with ⟨e,_⟩ | ⟨e,_⟩
     ·rw [hx] at e; cases e
     ·cases e
   | some gb =>
     have hown0:=hown
     obtain ⟨cur,cs,rfl,hh,h1,h2,h3,h4,h5,h6⟩:=hown
     have hsz1:Rp.sz (I E)=1:=by
      have:=Rp.len (hI (σ:=σ) (x:=x0).2 rfl)
      simpa using this.symm
     have hcsU:∀ {l:List (I E)} {ds:List Value},Y0 σ l ds->ds=l.map fun x=>Value.string (toS x):=by
      intro l
      induction l with
      | nil=>intro ds h; exact h
      | cons x l ih =>
        intro ds ⟨c,r,e,hc,hr⟩
        rw [e,hI.1 hc,ih hr]; rfl
     have hflat1:∀ {υ:S} (l:List (I E)),Y0 υ l (l.map fun x=>Value.string (toS x)):=by
      intro υ l
      induction l with
      | nil=>rfl
      | cons x l ih=>exact ⟨[_],_,rfl,hI.2 rfl,ih⟩
     let toL:I E->List UInt8:=fun x=>(toS x).data.toList
     have henc:∀ x:I E,Go.Proofs.encStr (toL x)=Value.string (toS x):=fun x=>rfl
     have hholds:Sort.Holds Go.Proofs.encStr σ.w gb 0 (xs.map toL).toArray:=by
      intro j hj
      have hj':j<xs.length:=by simpa using hj
      refine ⟨?_,by simp [World.frozen?,hh]⟩
      have e1:σ.w.cell? ⟨gb,0+j,none⟩=cur[j]?:=by simp [World.cell?,hh]
      have e2:cur[j]?=cs[j]?:=by rw [<- h5,hsz1,Nat.mul_one,List.getElem?_take_of_lt hj',Array.getElem?_toList]
      rw [e1,e2,hcsU h4,List.getElem?_map,List.getElem?_eq_getElem hj',getElem!_pos _ j (by simpa using hj')]
      simp [toL]
     have main:=Any.slices_Sort_string L gb 0 k (xs.map toL) σ.w hholds (J8 hh) (by simpa using hlen)
     rw [List.length_map] at main
     refine Calls.mono main fun e w' ⟨he,m,os,hw⟩=>?_
     have hmap:((xs.mergeSort fun x y=>decide (toL x<=toL y)).map toL)=(xs.map toL).mergeSort fun x y=>decide (x<=y):=List.map_mergeSort fun a _ b _=>rfl
     let ys:=xs.mergeSort fun x y=>decide (toL x<=toL y)
     have hput:∀ (w:World),Sort.putRow Go.Proofs.encStr w gb 0 ((xs.map toL).mergeSort fun x y=>decide (x<=y)).toArray=Sort.putRow id w gb 0 (ys.map fun x=>Value.string (toS x)).toArray:=fun w=>by
      rw [b61,<- hmap]
      congr 1
      simp [ys,toL]
     have hst:=a7n (m:=m) (F:=(ys.map fun x=>Value.string (toS x)).toArray) (os:=os) hown0
     refine ⟨_,b3v σ (a1y σ.w gb m (ys.map fun x=>Value.string (toS x)).toArray os),he,?_,hst.mono fun b _ e=>by rw [e]; simp [ows],[],[],[],hpost,_,k,some gb,rfl,by simp,?_,fun g _=>by simp [ows]⟩
     ·rw [hw]
      show a1y σ.w gb m (ys.map fun x=>Value.string (toS x)).toArray os=_
      unfold a1y
      rw [hput]
     ·exact b52 hown0 (hflat1 ys) (by simp [ys])
def b0O {α:Type}(toI:α->Int)(xs:List α):Option (Unit×List α):=bif decide (xs.length<4611686018427387904) then some ((),xs.mergeSort fun x y=>decide (toI x<=toI y)) else none
def c1M (xs:List Int):Option (Unit×List Int):=b0O (fun x=>x) xs
open Go.Proofs in
theorem c3t {ρ:Go.Shelf.Ren}(L:Go.Proofs.Lays.n189 P ρ)(f:FuncId)(hf:ρ.f 189=f){E:TypeId}(toI:I E->Int)(hI:∀ {σ:S} {x:I E} {cs:List Value},Rp.cells σ x cs↔cs=[.int .i64 (toI x)])(hb:X6 P f) :
 a3V P (⟨f,E,[],[],fun xs=>b0O toI xs⟩:Rio I):=by
 subst hf
 intro σ xs a vs pls res ys hA hnd happ
 obtain ⟨v1,vs1,p1,q1,e1,e2,⟨A,k,ow,e3,hown,e4⟩,e9,e10⟩:=hA
 have happ:b0O toI xs=some (res,ys):=happ
 unfold b0O at happ
 obtain ⟨hlen,happ⟩:=y0 happ
 have hlen:xs.length<4611686018427387904:=by simpa using hlen
 have e9:vs1=[]:=e9
 have e10:q1=[]:=e10
 have e3:v1=.slice A xs.length k:=e3
 have e4:p1=[⟨A,k,xs.length,ow⟩]:=e4
 subst e9; subst e10; subst e4; subst e3; subst e1
 rw [List.append_nil] at e2
 subst e2
 cases happ
 have hpost:∀ {τ:S},Post (I:=I) σ τ [.row E false] [] [.slice A xs.length k] () (ows [(⟨A,k,xs.length,ow⟩:Pl)]) (.tuple #[]) [] [] []:=⟨rfl,rfl,⟨rfl,rfl⟩,rfl,by simp [ows],fun g hg=>by simp [ows] at hg⟩
 refine .inl ⟨hb,?_⟩
 have hown:Q6 ow false E σ xs A k:=hown
 cases hx:xs with
 | nil =>
   subst hx
   refine (Any.slices_Sort_int_none L A k σ.w).mono fun e w' ⟨he,hw⟩=>?_
   exact ⟨_,σ,he,hw.symm,Stp.refl _ _,[],[],[],hpost,A,k,ow,rfl,by simp,by simpa using hown,fun g _=>by simp [ows]⟩
 | cons x0 r0 =>
   rw [<- hx]
   cases ow with
   | none =>
     rcases hown with ⟨e,_⟩ | ⟨e,_⟩
     ·rw [hx] at e; cases e
     ·cases e
   | some gb =>
     have hown0:=hown
     obtain ⟨cur,cs,rfl,hh,h1,h2,h3,h4,h5,h6⟩:=hown
     have hsz1:Rp.sz (I E)=1:=by
      have:=Rp.len (hI (σ:=σ) (x:=x0).2 rfl)
      simpa using this.symm
     have hcsU:∀ {l:List (I E)} {ds:List Value},Y0 σ l ds->ds=l.map fun x=>Value.int .i64 (toI x):=by
      intro l
      induction l with
      | nil=>intro ds h; exact h
      | cons x l ih =>
        intro ds ⟨c,r,e,hc,hr⟩
        rw [e,hI.1 hc,ih hr]; rfl
     have hflat1:∀ {υ:S} (l:List (I E)),Y0 υ l (l.map fun x=>Value.int .i64 (toI x)):=by
      intro υ l
      induction l with
      | nil=>rfl
      | cons x l ih=>exact ⟨[_],_,rfl,hI.2 rfl,ih⟩
     let toL:I E->Int:=toI
     have hholds:Sort.Holds (Value.int .i64) σ.w gb 0 (xs.map toL).toArray:=by
      intro j hj
      have hj':j<xs.length:=by simpa using hj
      refine ⟨?_,by simp [World.frozen?,hh]⟩
      have e1:σ.w.cell? ⟨gb,0+j,none⟩=cur[j]?:=by simp [World.cell?,hh]
      have e2:cur[j]?=cs[j]?:=by rw [<- h5,hsz1,Nat.mul_one,List.getElem?_take_of_lt hj',Array.getElem?_toList]
      rw [e1,e2,hcsU h4,List.getElem?_map,List.getElem?_eq_getElem hj',getElem!_pos _ j (by simpa using hj')]
      simp [toL]
     have main:=Any.slices_Sort_int L gb 0 k (xs.map toL) σ.w hholds (J8 hh) (by simpa using hlen)
     rw [List.length_map] at main
     refine Calls.mono main fun e w' ⟨he,m,os,hw⟩=>?_
     have hmap:((xs.mergeSort fun x y=>decide (toL x<=toL y)).map toL)=(xs.map toL).mergeSort fun x y=>decide (x<=y):=List.map_mergeSort fun a _ b _=>rfl
     let ys:=xs.mergeSort fun x y=>decide (toL x<=toL y)
     have hput:∀ (w:World),Sort.putRow (Value.int .i64) w gb 0 ((xs.map toL).mergeSort fun x y=>decide (x<=y)).toArray=Sort.putRow id w gb 0 (ys.map fun x=>Value.int .i64 (toI x)).toArray:=fun w=>by
      rw [b61,<- hmap]
      congr 1
      simp [ys,toL]
     have hst:=a7n (m:=m) (F:=(ys.map fun x=>Value.int .i64 (toI x)).toArray) (os:=os) hown0
     refine ⟨_,b3v σ (a1y σ.w gb m (ys.map fun x=>Value.int .i64 (toI x)).toArray os),he,?_,hst.mono fun b _ e=>by rw [e]; simp [ows],[],[],[],hpost,_,k,some gb,rfl,by simp,?_,fun g _=>by simp [ows]⟩
     ·rw [hw]
      show a1y σ.w gb m (ys.map fun x=>Value.int .i64 (toI x)).toArray os=_
      unfold a1y
      rw [hput]
     ·exact b52 hown0 (hflat1 ys) (by simp [ys])
end
end Go.Qx
end
section
namespace Go.Qx
open Go Go.RowKit Go.Sx
def a0U (n:Nat):List UInt8:=bif Nat.blt n 10 then [UInt8.ofNat (48+n)] else [UInt8.ofNat (48+n / 10),UInt8.ofNat (48+n%10)]
def a6N (c:UInt8)(b:List UInt8)(n:Int):Option (List UInt8) :=
 bif decide (0<=n)&&decide (n<100)&&Nat.ble b.length 1000000 then some (b++c::a0U n.toNat) else none
def a7F (c:UInt8):List Int->List UInt8->Option (List UInt8)
 | [],b=>some b
 | n::r,b=>Option.bind (a6N c b n) (a7F c r)
theorem c3Q {n:Nat}(h:n<100):a0U n=Lib.decDigits n:=by
 unfold a0U
 rw [Lib.decDigits]
 by_cases h0:n<10
 ·have:Nat.blt n 10=true:=by simpa [Nat.blt_eq] using h0
  rw [this,dif_pos h0]; rfl
 ·rw [dif_neg h0,Lib.decDigits,dif_pos (by omega)]
  have:Nat.blt n 10=false:=by
   rcases hb:Nat.blt n 10 with _ | _
   ·rfl
   ·exact absurd (by simpa [Nat.blt_eq] using hb) h0
  rw [this]
  rfl
end Go.Qx
end

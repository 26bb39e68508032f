/- Part 2. -/
import Derived.Test.YtpkjmilfikjpkaaGreatDoorK0
import Derived.Test.YtpkjmilfikjpkaaGreatDoorK1
import Derived.ChangeArms
import Derived.ChangeKeysEq
import Derived.KernelRfl
import Derived.OpenShut
import Derived.Shelf.Strconv.Itoa3
import Derived.Shelf.Strings.Builder1
import Derived.Test.YtpkjmilfikjpkaaGreatDoorProg
import Derived.Test.YtpkjmilfikjpkaaGreatDoorRows
section
namespace Go.Qx
open Go Go.RowKit Go.Sx
section
variable {I:TypeId->Type} [∀ E,Rp (I E)]
def a8E (rs:List V)(p:PV I):Option (List (PV I)):=match rs with
 | [_]=>some [p]
 | _=>match p with
   | .tup ls=>some ls
   | _=>none
def a8h (tb:Tab I):(ks:List Kd)->Tys I ks->List (PV I)
 | [],_=>[]
 | k::ks,q=>a1G tb k q.1::a8h tb ks q.2
def b1V (tb:Tab I)(rs:List V)(e:Ef I):Option (TyT I rs) :=
 bif a1m e.upd&&a1m e.new then Option.bind (a8E rs e.p) fun ps=>Option.bind (K8 tb (fun _=>none) rs ps) fun x=>bif a1m x.2.1&&a1m x.2.2 then some x.1 else none else none
def a7J (tb:Tab I)(disp:Y2 I)(O:Obs I)(nb:Nat)(f:FuncId)(ls:List (PV I))(ks:List Kd)(rs:List V):Fun I ks (TyT I rs):=cur ks fun q=>disp (TyT I rs) f O nb (a8h tb ks q++ls) (b1V tb rs)
structure AccT where
 pub:List Nat
 all:List (Option Nat)
 gv:List (Nat×TypeId×V)
 rv:List Nat
def a7o (ks:List Kd)(rs:List V)(ks':List Kd)(rs':List V)(g:Fun I ks' (TyT I rs')):Option (Fun I ks (TyT I rs)):=if h:ks'=ks/\rs'=rs then some (h.1▸h.2▸g) else none
def a9A (tb:Tab I)(O:Obs I)(T:TypeId)(v:V)(w:Bool)(p:PV I):Option (TyV I v×AccT):=match p with
 | .ptr l 0=>match O l with
   | some (some (.var T' ls w'))=>bif Nat.beq T T'&&(w'||!w) then Option.bind (a4G v ls) fun p=>Option.bind (a3X tb O v p) fun x =>
      bif w then some (x.1,⟨x.2.1,some l::x.2.2,[(l,T,v)],[]⟩) else bif a1m x.2.2 then some (x.1,⟨x.2.1,[none],[],[l]⟩) else none else none
   | _=>none
 | _=>none
def a7A (O:Obs I)(E:TypeId)(p:PV I):Option (List (I E)×List Nat):=match p with
 | .vw l=>match O l with
   | some (some (.row E' xs _))=>Option.bind (Y9 E E' xs) fun ys=>some (ys,[l])
   | some (some (.ro E' xs))=>Option.bind (Y9 E E' xs) fun ys=>some (ys,[])
   | some (some (.bo E' xs))=>Option.bind (Y9 E E' xs) fun ys=>some (ys,[])
   | _=>none
 | .sl E' xs _=>Option.bind (Y9 E E' xs) fun ys=>some (ys,[])
 | .nl _=>some ([],[])
 | _=>none
def a1l (tb:Tab I)(disp:Y2 I)(O Oc:Obs I)(nb:Nat):(ps:List Pk)->List (PV I)->Option (V5 I ps×AccT)
 | [],[]=>some ((),⟨[],[],[],[]⟩)
 | .d k::r,p::ps=>Option.bind (a2D tb O k p) fun x=>Option.bind (a1l tb disp O Oc nb r ps) fun y=>some ((x.1,y.1),⟨x.2++y.2.pub,y.2.all,y.2.gv,y.2.rv⟩)
 | .var T v w::r,p::ps=>Option.bind (a9A tb O T v w p) fun x=>Option.bind (a1l tb disp O Oc nb r ps) fun y=>some ((x.1,y.1),⟨x.2.pub++y.2.pub,x.2.all++y.2.all,x.2.gv++y.2.gv,x.2.rv++y.2.rv⟩)
 | .row E fl::r,p::ps=>Option.bind (a39 tb O (.row E fl) p) fun x=>Option.bind (a1l tb disp O Oc nb r ps) fun y=>some ((x.1,y.1),⟨x.2.1++y.2.pub,x.2.2++y.2.all,y.2.gv,y.2.rv⟩)
 | .fn ks rs::r,p::ps=>Option.bind (a1l tb disp O Oc nb r ps) fun y=>match p with
   | .fn ks' rs' g=>Option.bind (a7o ks rs ks' rs' g) fun g'=>some ((g',y.1),y.2)
   | .clo f ls=>bif tb.fb f then some ((a7J tb disp Oc nb f ls ks rs,y.1),y.2) else none
   | _=>none
 | .val v::r,p::ps=>Option.bind (a3X tb O v p) fun x=>Option.bind (a1l tb disp O Oc nb r ps) fun y=>some ((x.1,y.1),⟨x.2.1++y.2.pub,x.2.2++y.2.all,y.2.gv,y.2.rv⟩)
 | .bor E::r,p::ps=>Option.bind (a7A O E p) fun x=>Option.bind (a1l tb disp O Oc nb r ps) fun y=>some ((x.1,y.1),⟨y.2.pub,none::y.2.all,y.2.gv,x.2++y.2.rv⟩)
 | _,_=>none
def grN (O:Obs I):List Pk->List (PV I)->List Nat
 | .var _ _ true::r,.ptr l _::ps=>(l::nest O [l])++grN O r ps
 | .row _ _::r,p::ps=>a7f p++grN O r ps
 | .val _::r,p::ps=>a7f p++grN O r ps
 | _::r,_::ps=>grN O r ps
 | _,_=>[]
def a0R:List (Option Nat)->List (Nat×Option (Ob I))
 | []=>[]
 | some l::r=>(l,none)::a0R r
 | none::r=>a0R r
def a38:List (Nat×TypeId×V)->List (PV I)->List (Nat×Option (Ob I))
 | x::r,p::ps=>(x.1,some (.var x.2.1 (a0m x.2.2 p) true))::a38 r ps
 | _,_=>[]
def a94 (gr:List Nat)(a:AccT):Bool:=a1o a.pub a.all&&a.all.all (fun x=>match x with | some l=>k7 l gr | none=>true)&&a.rv.all (fun l=>!(k7 l gr))
def a7g (tb:Tab I)(r:Row I)(disp:Y2 I)(ρ:Type)(O:Obs I)(nb:Nat)(ps:List (PV I))(k:Ef I->Option ρ):Option ρ :=
 Option.bind (a1l tb disp O (roO [] (j8 (grN O r.ps ps) O)) nb r.ps ps) fun a =>
 bif a94 (grN O r.ps ps) a.2 then Option.bind (a5B r.ps r.run a.1) fun res =>
  k ⟨a36 ((pvT tb nb (r.rs++w6 r.ps) res).take r.rs.length),j7 O a.2.pub++a0R a.2.all++a38 a.2.gv ((pvT tb nb (r.rs++w6 r.ps) res).drop r.rs.length),obT (r.rs++w6 r.ps) res⟩ else none
structure Ans (I:TypeId->Type) where
 f:FuncId
 go:Y2 I->(ρ:Type)->Obs I->Nat->List (PV I)->(Ef I->Option ρ)->Option ρ
structure EntOk (P:Program)(e:Ans I):Prop where
 par:∀ (disp:Y2 I) (ρ:Type) (O:Obs I) (nb:Nat) (ps:List (PV I)) (k:Ef I->Option ρ),e.go disp ρ O nb ps k=(e.go disp (Ef I) O nb ps some).bind k
 ok:∀ (disp:Y2 I),DispOk P disp->∀ (O:Obs I) (nb:Nat) (ps:List (PV I)) (ef:Ef I),e.go disp (Ef I) O nb ps some=some ef->a9R P e.f O nb ps ef
def a5N (f:FuncId):List (Ans I)->Option (Ans I)
 | []=>none
 | e::r=>bif Nat.beq e.f f then some e else a5N f r
def a59 (es:List (Ans I)):Nat->Y2 I
 | 0=>fun _ _ _ _ _ _=>none
 | d+1=>fun ρ f O nb ps k=>match a5N f es with
   | some e=>e.go (a59 es d) ρ O nb ps k
   | none=>none
def b1T (tb:Tab I)(r:Row I):Ans I:=⟨r.f,a7g tb r⟩
def a3f (tb:Tab I)(r:Row I)(chk:Obs I->List (PV I)->Bool)(disp:Y2 I)(ρ:Type)(O:Obs I)(nb:Nat)(ps:List (PV I))(k:Ef I->Option ρ):Option ρ:=bif chk O ps then a7g tb r disp ρ O nb ps k else none
def b2o (tb:Tab I)(r:Row I)(chk:Obs I->List (PV I)->Bool):Ans I:=⟨r.f,a3f tb r chk⟩
def a8P (P:Program):List (Ans I)->Prop
 | []=>True
 | e::r=>EntOk P e/\a8P P r
variable {P:Program}{tb:Tab I}{X:Cxt}{c c':Cx}{σ τ:S}{s:St I}{n:Nat}{F:Fr}{O:Obs I}
theorem a5A {f:FuncId}:∀ {es:List (Ans I)} {e:Ans I},a8P P es->a5N f es=some e->EntOk P e/\e.f=f
 | [],_,_,h=>by cases h
 | x::r,e,ha,h=>by
   simp only [a5N] at h
   cases hb:Nat.beq x.f f with
   | true=>rw [hb] at h; cases h; exact ⟨ha.1,Nat.eq_of_beq_eq_true hb⟩
   | false=>rw [hb] at h; exact a5A ha.2 h
theorem a7K {es:List (Ans I)}(h:a8P P es):∀ d,DispOk P (a59 es d)
 | 0=>⟨fun _ _ _ _ _ _=>rfl,fun _ _ _ _ _ h=>by cases h⟩
 | d+1=>by
   refine ⟨fun ρ f O nb ps k=>?_,fun f O nb ps e he=>?_⟩
   ·simp only [a59]
    cases hf:a5N f es with
    | none=>rfl
    | some e=>exact (a5A h hf).1.par _ _ _ _ _ _
   ·simp only [a59] at he
    split at he
    ·rename_i x hx
     obtain ⟨h1,h2⟩:=a5A h hx
     rw [<- h2]
     exact h1.ok _ (a7K h d) O nb ps e he
    ·cases he
theorem a8A (ht:TabOk P tb):∀ {ks:List Kd} {q:Tys I ks} {vs:List Value},DVs σ ks q vs->RVs X c σ (a8h tb ks q) vs
 | [],_,_,h=>by simpa only [a8h,RVs,DVs] using h
 | k::ks,q,_,⟨v,r,e,h1,h2⟩=>by
   simp only [a8h,RVs]
   exact ⟨v,r,e,a4z ht h1,a8A ht h2⟩
omit [∀ E,Rp (I E)] in
theorem a7H:∀ {vs:List V} {ps:List (PV I)} {x},K8 tb O vs ps=some x->ps.length=vs.length
 | [],[],_,_=>rfl
 | [_],[_],_,_=>rfl
 | _::v'::vs,p::ps,_,h=>by
   obtain ⟨y,hy,h⟩:=bind_some h
   obtain ⟨z,hz,h⟩:=bind_some h
   have:=a7H (vs:=v'::vs) hz
   simp [this]
 | [],_::_,_,h=>by simp [K8] at h
 | [_],[],_,h=>by simp [K8] at h
 | [_],_::_::_,_,h=>by simp [K8] at h
 | _::_::_,[],_,h=>by simp [K8] at h
theorem b13 (ht:TabOk P tb){disp:Y2 I}(hd:DispOk P disp)(hX:X.P=P)(h:Rel X c σ s n F){gr:List Nat}{Oc:Obs I}(hOc:∀ l o,Oc l=some (some o)->roO [] (j8 gr s.O) l=some (some o)){M:Nat->Prop}
 (hM:∀ b,M b->σ.N<=b\/∃ l∈gr,y2 s l/\∃ p,c l=some p/\p.w=some b) {nb:Nat} {f:FuncId} {ls:List (PV I)} {cs:List Value} (hl:RVs X c σ ls cs) {ks:List Kd} {rs:List V} (hbody:a0k P f):a9Y P M σ f [] cs ks rs (a7J tb disp Oc nb f ls ks rs):=by
 refine ⟨hbody,rfl,fun τ hτ q vs r hq hr=>?_⟩
 unfold a7J at hr
 rw [a8B,hd.par] at hr
 obtain ⟨e,he,hr⟩:=bind_some hr
 have hMX:∀ b,M b->X.M b:=fun b hb=>by
  rcases hM b hb with hb | ⟨l,_,hlv,p,hc,hw⟩
  ·exact .inl (Nat.le_trans h.base hb)
  ·exact h.mine l p b hlv hc hw
 have h1:Rel X c σ ⟨s.n,s.F,j8 gr s.O,s.nx⟩ n F:=h.less (fun l o ho=>(j6 ho).2) (fun l ho=>X3.1 ho)
 have hi1:∀ g,M g->notIn c σ (⟨s.n,s.F,j8 gr s.O,s.nx⟩:St I) g:=fun g hg=>by
  rcases hM g hg with hb | ⟨l',hl',hlv,p',hc',hw'⟩
  ·exact (h.fresh hb).sub fun l E E' u xs q e=>(j6 e).2
  ·exact (h.owned hlv hc' hw').sub fun l E E' u xs q e=>(j6 e).2
 have h2:Rel X c τ ⟨s.n,s.F,j8 gr s.O,s.nx⟩ n F:=h1.stepG hτ hMX (hi:=hi1) fun l p g ⟨o,ho⟩ hc hw hm=>by
  obtain ⟨k1,k2⟩:=j6 ho
  have hlt:=(h.objs l o k2).lt hc hw
  rcases hM g hm with hb | ⟨l',hl',hlv,p',hc',hw'⟩
  ·have:σ.N<=g:=hb
   omega
  ·exact k1 (by rw [h.inj l l' p p' g ⟨o,k2⟩ hlv hc hc' hw hw']; exact hl')
 have h3:=enter h2 []
 have hlτ:RVs X c τ ls cs:=RVs.step (hτ.mono fun b _ hb=>hMX b hb) _ _ hl
 have hconv:RVs (q9 X c τ ⟨s.n,s.F,j8 gr s.O,s.nx⟩ []) (roC [] c) τ ls cs:=RVs.conv (X:=X) (X':=q9 X c τ ⟨s.n,s.F,j8 gr s.O,s.nx⟩ []) (c:=c) rfl (a0i h2 []) (fun l p hp=>⟨none,by simp [roC,k7,hp]⟩) _ _ hlτ
 have hnil:e.upd=[]/\e.new=[]/\∃ ps,a8E rs e.p=some ps/\∃ x,K8 tb (fun _=>none) rs ps=some x/\x.2.1=[]/\x.2.2=[]/\x.1=r:=by
  unfold b1V at hr
  obtain ⟨hb,hr⟩:=z7 hr
  simp only [Bool.and_eq_true] at hb
  obtain ⟨ps,hps,hr⟩:=bind_some hr
  obtain ⟨x,hx,hr⟩:=bind_some hr
  obtain ⟨hb2,hr⟩:=z7 hr
  simp only [Bool.and_eq_true] at hb2
  cases hr
  exact ⟨X0 hb.1,X0 hb.2,ps,hps,x,hx,X0 hb2.1,X0 hb2.2,rfl⟩
 obtain ⟨n1,n2,ps,hps,x,hx,x1,x2,hxr⟩:=hnil
 have hc:=hd.ok _ _ _ _ _ he (q9 X c τ ⟨s.n,s.F,j8 gr s.O,s.nx⟩ []) (roC [] c) τ (roS [] ⟨s.n,s.F,j8 gr s.O,s.nx⟩) n F (vs++cs) hX hOc h3 (RVs.app _ _ _ _ (a8A ht hq) hconv) (by rw [n2]; rfl)
 rw [<- List.nil_append vs] at hc
 refine a0X.mono hc rfl fun v υ hst ⟨c',_,hrel,hv⟩=>⟨υ,rfl,hst.mono fun b hb hm=>?_,?_⟩
 ·rcases hm with hm | ⟨_,hm,_⟩
  ·have:τ.N<=b:=hm
   omega
  ·cases hm
 ·have hlen:=a7H hx
  have hws:∃ ws,v=a2g ws/\RVs (q9 X c τ ⟨s.n,s.F,j8 gr s.O,s.nx⟩ []) c' υ ps ws:=by
   unfold a8E at hps
   split at hps
   ·cases hps
    exact ⟨[v],rfl,by simp only [RVs]; exact ⟨v,[],rfl,hv,rfl⟩⟩
   ·rename_i hne
    split at hps
    ·rename_i ls' e'
     cases hps
     rw [e'] at hv
     simp only [RV] at hv
     obtain ⟨ws,rfl,hws⟩:=hv
     refine ⟨ws,?_,hws⟩
     have hl2:=RVs.len _ _ hws
     cases ws with
     | nil=>rfl
     | cons a r =>
       cases r with
       | nil =>
         exfalso
         cases rs with
         | nil=>simp at hl2; rw [<- hl2] at hlen; simp at hlen
         | cons a' r' =>
           cases r' with
           | nil=>exact hne a' rfl
           | cons=>simp at hl2 hlen; omega
       | cons=>rfl
    ·cases hps
  obtain ⟨ws,hw1,hw2⟩:=hws
  obtain ⟨x0,xl,xr⟩:=x
  simp only at x1 x2 hxr
  subst x1
  subst x2
  subst hxr
  obtain ⟨pls,t1,t2⟩:=a3b ht J0.none_ Rows.none_ hx (fun _ h=>h) (fun _ h=>by cases h) hw2
  have:pls=[]:=t2
  subst this
  exact ⟨ws,hw1,t1⟩
omit [∀ E,Rp (I E)] in
theorem a9z {ks ks':List Kd}{rs rs':List V}{g:Fun I ks' (TyT I rs')}{g':Fun I ks (TyT I rs)}(h:a7o ks rs ks' rs' g=some g'):∃ (e1:ks'=ks) (e2:rs'=rs),g'=e1▸e2▸g:=by
 unfold a7o at h
 split at h
 ·rename_i e; cases h; exact ⟨e.1,e.2,rfl⟩
 ·cases h
def a0O:List Pk->List (TypeId×V)
 | []=>[]
 | .var T v true::r=>(T,v)::a0O r
 | _::r=>a0O r
theorem W9:∀ (pks:List Pk),(a0O pks).map (·.2)=w6 pks
 | []=>rfl
 | .var T v true::r=>by simp [a0O,w6,W9 r]
 | .var T v false::r=>W9 r
 | .d _::r=>W9 r
 | .row _ _::r=>W9 r
 | .fn _ _::r=>W9 r
 | .bor _::r=>W9 r
 | .val _::r=>W9 r
omit [∀ E,Rp (I E)] in
theorem a5g {O:Obs I}{l:Nat}{E:TypeId}{xs:List (I E)}:∀ {ls:List Nat} {O1:Obs I},(∃ fl,O l=some (some (.row E xs fl)))->(∃ fl,O1 l=some (some (.row E xs fl)))->∃ fl,apU O1 (j7 O ls) l=some (some (.row E xs fl))
 | [],_,_,h=>h
 | a::r,O1,h0,h=>by
   simp only [j7]
   split
   ·rename_i E' xs' e
    simp only [apU]
    refine a5g h0 ?_
    by_cases el:l=a
    ·subst el
     obtain ⟨fl,h0⟩:=h0
     rw [h0] at e
     cases e
     exact ⟨true,y8 _ _ _⟩
    ·rw [y7 el]; exact h
   ·exact a5g h0 h
theorem a9t (h:Rel X c σ s n F)(hRw:∀ l E (xs:List (I E)) fl,O l=some (some (.row E xs fl))->∃ fl',s.O l=some (some (.row E xs fl')))(hBo:∀ l E (xs:List (I E)),O l=some (some (.bo E xs))->s.O l=some (some (.bo E xs)))
 {LS:List Nat} (hS:J0 X c σ O LS) {gr:List Nat} {M:Nat->Prop} (hM:∀ b,M b->σ.N<=b\/∃ l∈gr,y2 s l/\∃ p,c l=some p/\p.w=some b) {E:TypeId} {p:PV I} {x:List (I E)} {rv:List Nat} (hx:a7A O E p=some (x,rv)) (hrv:∀ l∈rv,l ∉ gr) {v:Value} (hv:RV X c σ p v) :
 ∃ A k,v=.slice A x.length k/\Bor M σ x A:=by
 have hMX:∀ b,M b->X.M b:=fun b hb=>by
  rcases hM b hb with hb | ⟨l,_,hlv,p,hc,hw⟩
  ·exact .inl (Nat.le_trans h.base hb)
  ·exact h.mine l p b hlv hc hw
 unfold a7A at hx
 split at hx
 ·rename_i l
  simp only [RV] at hv
  obtain ⟨p,hp,rfl⟩:=hv
  split at hx
  ·rename_i E' xs fl ho
   obtain ⟨ys,hys,hx⟩:=bind_some hx
   cases hx
   obtain ⟨e,rfl⟩:=v8 hys
   subst e
   obtain ⟨fl',hs⟩:=hRw l _ _ _ ho
   obtain ⟨A,k,ow,k1,k2⟩:=h.objs l _ hs
   rw [k1] at hp
   cases hp
   refine ⟨A,k,rfl,Bor.of_own k2 fun g hg hm=>?_⟩
   have hlt:=(h.objs l _ hs).lt k1 (g:=g) hg
   rcases hM g hm with hb | ⟨l',hl',hlv,p',hc',hw'⟩
   ·have hb':σ.w.heap.size<=g:=hb
    have:g<σ.w.heap.size:=hlt
    omega
   ·have e:=h.inj l l' _ p' g ⟨_,hs⟩ hlv k1 hc' hg hw'
    exact hrv l (by simp) (by rw [e]; exact hl')
  ·rename_i E' xs ho
   obtain ⟨ys,hys,hx⟩:=bind_some hx
   cases hx
   obtain ⟨e,rfl⟩:=v8 hys
   subst e
   obtain ⟨A,k,k1,k2⟩:=hS.2.1 l _ _ ho
   rw [k1] at hp
   cases hp
   exact ⟨A,k,rfl,Bor.of_sl k2⟩
  ·rename_i E' xs ho
   obtain ⟨ys,hys,hx⟩:=bind_some hx
   cases hx
   obtain ⟨e,rfl⟩:=v8 hys
   subst e
   obtain ⟨A,k,k1,k2⟩:=h.objs l _ (hBo l _ _ ho)
   rw [k1] at hp
   cases hp
   exact ⟨A,k,rfl,k2.sub fun b _=>hMX b⟩
  ·cases hx
 ·obtain ⟨ys,hys,hx⟩:=bind_some hx
  cases hx
  obtain ⟨e,rfl⟩:=v8 hys
  subst e
  simp only [RV] at hv
  obtain ⟨A,k,e1,e2,_⟩:=hv
  exact ⟨A,k,e1,Bor.of_sl e2⟩
 ·cases hx
  simp only [RV] at hv
  obtain ⟨A,rfl⟩:=hv
  exact ⟨A,0,rfl,[],rfl,fun hn=>absurd rfl hn⟩
 ·cases hx
def a19 (c:Cx)(O:Obs I):List (Nat×TypeId×V)->List Nat->Prop
 | [],bs=>bs=[]
 | x::r,bs=>∃ b bs' ls,bs=b::bs'/\O x.1=some (some (.var x.2.1 ls true))/\c x.1=some ⟨some ⟨b,0,none⟩,0,0,some b⟩/\a19 c O r bs'
theorem a0d (ht:TabOk P tb){disp:Y2 I}(hd:DispOk P disp)(hX:X.P=P)(h:Rel X c σ s n F)(hRw:∀ l E (xs:List (I E)) fl,O l=some (some (.row E xs fl))->∃ fl',s.O l=some (some (.row E xs fl')))(hBo:∀ l E (xs:List (I E)),O l=some (some (.bo E xs))->s.O l=some (some (.bo E xs)))(hO:∀ l T ls w,O l=some (some (.var T ls w))->s.O l=some (some (.var T ls w))){LS:List Nat}(hS:J0 X c σ O LS)(hR:Rows X c σ O LS){gr:List Nat}{Oc:Obs I}
 (hOc:∀ l o,Oc l=some (some o)->roO [] (j8 gr s.O) l=some (some o)) {M:Nat->Prop} (hM:∀ b,M b->σ.N<=b\/∃ l∈gr,y2 s l/\∃ p,c l=some p/\p.w=some b) {nb:Nat} :
 ∀ {pks:List Pk} {ps:List (PV I)} {a:V5 I pks} {acc:AccT} {vs:List Value},a1l tb disp O Oc nb pks ps=some (a,acc)->RVs X c σ ps vs->(∀ l∈acc.pub,l∈LS)->(∀ l,some l∈acc.all->l ∉ LS)->(∀ l∈acc.rv,l ∉ gr) ->
  ∃ pls,a1U P M σ pks a vs pls/\At c acc.all pls/\a19 c O acc.gv (Z8 pks vs)/\(∀ l,some l∈acc.all->(∃ o:Ob I,O l=some (some o)/\a3R o=true)\/∃ T v,(l,T,v)∈acc.gv)/\(∀ x∈acc.gv,some x.1∈acc.all)/\acc.gv.map (fun x=>x.2)=a0O pks
 | [],[],a,acc,vs,e,hv,_,_,_=>by
   cases e
   simp only [RVs] at hv
   subst hv
   exact ⟨[],⟨rfl,rfl⟩,rfl,rfl,(fun l hl=>by cases hl),(fun l hl=>by cases hl),rfl⟩
 | .d k::r,p::ps,_,_,vs,e,hv,h1,h2,h3=>by
   obtain ⟨x,hx,e⟩:=bind_some e
   obtain ⟨y,hy,e⟩:=bind_some e
   cases e
   simp only [RVs] at hv
   obtain ⟨v,vs',rfl,hv1,hv2⟩:=hv
   obtain ⟨pls,k1,k2,k3,k4,k5,k6⟩:=a0d ht hd hX h hRw hBo hO hS hR hOc hM (a:=y.1) (acc:=y.2) hy hv2 (fun l hl=>h1 l (by simp [hl])) h2 h3
   have hd1:=a08 ht hS (ls:=x.2) hx (fun l hl=>h1 l (by simp [hl])) hv1
   refine ⟨pls,⟨v,vs',[],pls,rfl,rfl,⟨hd1,rfl⟩,k1⟩,k2,?_,k4,k5,k6⟩
   have:Z8 (.d k::r) (v::vs')=Z8 r vs':=by cases v<;>rfl
   rw [this]; exact k3
 | .row E fl::r,p::ps,_,_,vs,e,hv,h1,h2,h3=>by
   obtain ⟨x,hx,e⟩:=bind_some e
   obtain ⟨y,hy,e⟩:=bind_some e
   cases e
   simp only [RVs] at hv
   obtain ⟨v,vs',rfl,hv1,hv2⟩:=hv
   obtain ⟨pls,k1,k2,k3,k4,k5,k6⟩:=a0d ht hd hX h hRw hBo hO hS hR hOc hM (a:=y.1) (acc:=y.2) hy hv2 (fun l hl=>h1 l (by simp [hl])) (fun l hl=>h2 l (by simp [hl])) h3
   obtain ⟨p1,t1,t2⟩:=a4w ht hS hR (ls:=x.2.1) (rows:=x.2.2) hx (fun l hl=>h1 l (by simp [hl])) (fun l hl=>h2 l (by simp [hl])) hv1
   have hl1:=a2G (ls:=x.2.1) (rows:=x.2.2) hx
   obtain ⟨A,k,ow,e1,e2,e3⟩:=t1
   refine ⟨p1++pls,⟨v,vs',p1,pls,rfl,rfl,⟨A,k,ow,e1,e3,e2⟩,k1⟩,t2.app k2,?_,fun l hl=>?_,fun z hz=>by simp [k5 z hz],k6⟩
   ·have:Z8 (.row E fl::r) (v::vs')=Z8 r vs':=by cases v<;>rfl
    rw [this]; exact k3
   ·rcases List.mem_append.1 hl with hl | hl
    ·exact .inl (hl1 l hl)
    ·exact k4 l hl
 | .val vk::r,p::ps,_,_,vs,e,hv,h1,h2,h3=>by
   obtain ⟨x,hx,e⟩:=bind_some e
   obtain ⟨y,hy,e⟩:=bind_some e
   cases e
   simp only [RVs] at hv
   obtain ⟨v,vs',rfl,hv1,hv2⟩:=hv
   obtain ⟨pls,k1,k2,k3,k4,k5,k6⟩:=a0d ht hd hX h hRw hBo hO hS hR hOc hM (a:=y.1) (acc:=y.2) hy hv2 (fun l hl=>h1 l (by simp [hl])) (fun l hl=>h2 l (by simp [hl])) h3
   obtain ⟨p1,t1,t2⟩:=a3a ht hS hR (ls:=x.2.1) (rows:=x.2.2) hx (fun l hl=>h1 l (by simp [hl])) (fun l hl=>h2 l (by simp [hl])) hv1
   have hl1:=a2z (ls:=x.2.1) (rows:=x.2.2) hx
   refine ⟨p1++pls,⟨v,vs',p1,pls,rfl,rfl,t1,k1⟩,t2.app k2,?_,fun l hl=>?_,fun z hz=>by simp [k5 z hz],k6⟩
   ·have:Z8 (.val vk::r) (v::vs')=Z8 r vs':=by cases v<;>rfl
    rw [this]; exact k3
   ·rcases List.mem_append.1 hl with hl | hl
    ·exact .inl (hl1 l hl)
    ·exact k4 l hl
 | .bor E::r,p::ps,_,_,vs,e,hv,h1,h2,h3=>by
   obtain ⟨x,hx,e⟩:=bind_some e
   obtain ⟨y,hy,e⟩:=bind_some e
   cases e
   simp only [RVs] at hv
   obtain ⟨v,vs',rfl,hv1,hv2⟩:=hv
   obtain ⟨pls,k1,k2,k3,k4,k5,k6⟩:=a0d ht hd hX h hRw hBo hO hS hR hOc hM (a:=y.1) (acc:=y.2) hy hv2 h1 (fun l hl=>h2 l (by simp [hl])) (fun l hl=>h3 l (by simp [hl]))
   obtain ⟨A,k,e1,e2⟩:=a9t h hRw hBo hS hM (x:=x.1) (rv:=x.2) hx (fun l hl=>h3 l (by simp [hl])) hv1
   refine ⟨⟨A,k,List.length x.1,none⟩::pls,⟨v,vs',[_],pls,rfl,rfl,⟨A,k,e1,e2,rfl⟩,k1⟩,⟨_,_,rfl,rfl,k2⟩,?_,fun l hl=>?_,fun z hz=>by simp [k5 z hz],k6⟩
   ·have:Z8 (.bor E::r) (v::vs')=Z8 r vs':=by cases v<;>rfl
    rw [this]; exact k3
   ·rcases List.mem_cons.1 hl with hl | hl
    ·cases hl
    ·exact k4 l hl
 | .fn ks rs::r,p::ps,_,_,vs,e,hv,h1,h2,h3=>by
   obtain ⟨y,hy,e⟩:=bind_some e
   simp only [RVs] at hv
   obtain ⟨v,vs',rfl,hv1,hv2⟩:=hv
   have hb:Z8 (.fn ks rs::r) (v::vs')=Z8 r vs':=by cases v<;>rfl
   split at e
   ·rename_i ks' rs' g
    obtain ⟨g',hg',e⟩:=bind_some e
    cases e
    obtain ⟨e1,e2,e3⟩:=a9z hg'
    subst e1
    subst e2
    subst e3
    obtain ⟨pls,k1,k2,k3,k4,k5,k6⟩:=a0d ht hd hX h hRw hBo hO hS hR hOc hM (a:=y.1) (acc:=y.2) hy hv2 h1 h2 h3
    simp only [RV] at hv1
    obtain ⟨f,as',cs,e4,hf⟩:=hv1
    refine ⟨pls,⟨v,vs',[],pls,rfl,rfl,⟨f,as',cs,e4,⟨by rw [<- hX]; exact hf.1,hf.2.1,fun τ hτ=>?_⟩,rfl⟩,k1⟩,k2,by rw [hb]; exact k3,k4,k5,k6⟩
    rw [hX] at hf
    exact hf.2.2 τ (hτ.mono fun b _ hb=>by
     rcases hM b hb with hb | ⟨l,_,hlv,p,hc,hw⟩
     ·exact .inl (Nat.le_trans h.base hb)
     ·exact h.mine l p b hlv hc hw)
   ·rename_i f0 ls0 hh0
    replace e:=z7 e
    obtain ⟨hfb,e⟩:=e
    cases e
    obtain ⟨pls,k1,k2,k3,k4,k5,k6⟩:=a0d ht hd hX h hRw hBo hO hS hR hOc hM (a:=y.1) (acc:=y.2) hy hv2 h1 h2 h3
    simp only [RV] at hv1
    obtain ⟨cs,e4,hls⟩:=hv1
    exact ⟨pls,⟨v,vs',[],pls,rfl,rfl,⟨_,[],cs,e4,b13 ht hd hX h hOc hM hls (ht.fb _ hfb),rfl⟩,k1⟩,k2,by rw [hb]; exact k3,k4,k5,k6⟩
   ·cases e
 | .var T vk w::r,p::ps,_,_,vs,e,hv,h1,h2,h3=>by
   obtain ⟨x,hx,e⟩:=bind_some e
   obtain ⟨y,hy,e⟩:=bind_some e
   cases e
   simp only [RVs] at hv
   obtain ⟨v,vs',rfl,hv1,hv2⟩:=hv
   obtain ⟨pls,k1,k2,k3,k4,k5,k6⟩:=a0d ht hd hX h hRw hBo hO hS hR hOc hM (a:=y.1) (acc:=y.2) hy hv2 (fun l hl=>h1 l (by simp [hl])) (fun l hl=>h2 l (by simp [hl])) (fun l hl=>h3 l (by simp [hl]))
   unfold a9A at hx
   split at hx
   ·rename_i l
    split at hx
    ·rename_i T' ls w' ho
     replace hx:=z7 hx
     obtain ⟨hT,hx⟩:=hx
     simp only [Bool.and_eq_true] at hT
     have eT:=Nat.eq_of_beq_eq_true hT.1
     subst eT
     have hww:=hT.2
     replace hx:=bind_some hx
     obtain ⟨q,hq,hx⟩:=hx
     replace hx:=bind_some hx
     obtain ⟨z,hz,hx⟩:=hx
     have hs:=hO _ _ _ _ ho
     obtain ⟨b,cs,o1,o2,o3,o4,o5⟩:=h.objs l _ hs
     simp only [RV] at hv1
     obtain ⟨b',w2,c1,rfl⟩:=hv1
     rw [o1] at c1
     cases c1
     obtain ⟨u,hu,hcu⟩:=a8d hq o2
     cases w with
     | true =>
       have hw':w'=true:=by cases w'<;>simp at hww ⊢
       subst hw'
       cases hx
       obtain ⟨pr,t1,t2⟩:=a3a ht hS hR (ls:=z.2.1) (rows:=z.2.2) hz (fun l hl=>h1 l (by simp [hl])) (fun l hl=>h2 l (by simp [hl])) hu
       have hl1:=a2z (ls:=z.2.1) (rows:=z.2.2) hz
       refine ⟨(⟨some ⟨b,0,none⟩,0,0,some b⟩::pr)++pls,⟨_,vs',_,pls,rfl,rfl,⟨b,cs,u,pr,rfl,o3,hcu,t1,(fun _=>o4 rfl),(fun e=>by cases e),rfl⟩,k1⟩,?_,?_,fun l' hl=>?_,fun g hg=>?_,?_⟩
       ·refine At.app (r1:=some l::z.2.2) ?_ k2
        exact ⟨_,pr,rfl,o1,t2⟩
       ·exact ⟨b,_,ls,rfl,ho,o1,k3⟩
       ·simp only [List.mem_append,List.mem_cons,Option.some.injEq] at hl
        rcases hl with (hl | hl) | hl
        ·subst hl
         exact .inr ⟨T,vk,by simp⟩
        ·exact .inl (hl1 l' hl)
        ·rcases k4 l' hl with hl | ⟨T2,v2,hl⟩
         ·exact .inl hl
         ·exact .inr ⟨T2,v2,by simp [hl]⟩
       ·simp only [List.cons_append,List.nil_append,List.mem_cons] at hg
        rcases hg with hg | hg
        ·subst hg; simp
        ·simp [k5 g hg]
       ·simp only [List.cons_append,List.nil_append,List.map_cons,a0O,k6]
     | false =>
       simp only [cond_false] at hx
       replace hx:=z7 hx
       obtain ⟨hn,hx⟩:=hx
       have hn:=X0 hn
       cases hx
       obtain ⟨pr,t1,t2⟩:=a3a ht hS hR (ls:=z.2.1) (rows:=z.2.2) hz (fun l hl=>h1 l (by simp [hl])) (fun l hl=>by rw [hn] at hl; cases hl) hu
       rw [hn] at t2
       have:pr=[]:=t2
       subst this
       have hlgr:l ∉ gr:=h3 l (by simp)
       refine ⟨(⟨some ⟨b,0,none⟩,0,0,none⟩::[])++pls,⟨_,vs',_,pls,rfl,rfl,⟨b,cs,u,[],rfl,o3,hcu,t1,(fun e=>by cases e),(fun _ hMb=>?_),rfl⟩,k1⟩,?_,?_,fun l' hl=>?_,fun g hg=>?_,?_⟩
       ·have hlt:=Q1 o3
        rcases hM b hMb with hb | ⟨l',hl',hlv,p',hc',hw2'⟩
        ·have hb':σ.w.heap.size<=b:=hb
         omega
        ·cases w' with
         | true=>exact hlgr (by rw [h.inj l l' _ p' b ⟨_,hs⟩ hlv o1 hc' rfl hw2']; exact hl')
         | false=>exact o5 rfl (h.mine l' p' b hlv hc' hw2')
       ·refine At.app (r1:=[none]) ?_ k2
        exact ⟨_,[],rfl,rfl,rfl⟩
       ·exact k3
       ·simp only [List.cons_append,List.nil_append,List.mem_cons] at hl
        rcases hl with hl | hl
        ·cases hl
        ·exact k4 l' hl
       ·simp [k5 g hg]
       ·exact k6
    ·cases hx
   ·cases hx
 | [],_::_,_,_,_,e,_,_,_,_=>by simp [a1l] at e
 | _::_,[],_,_,_,e,_,_,_,_=>by simp [a1l] at e
omit [∀ E,Rp (I E)] in
theorem a5E:∀ {all:List (Option Nat)} {O:Obs I} {l:Nat},(∀ l,some l∈all->O l≠none)->apU O (a0R all) l=j8 (all.filterMap id) O l
 | [],O,l,_=>by simp [a0R,apU,j8,k7]
 | none::r,O,l,h=>by
   have:=a5E (all:=r) (O:=O) (l:=l) (fun l hl=>h l (by simp [hl]))
   simpa [a0R] using this
 | some a::r,O,l,h=>by
   simp only [a0R,apU]
   rw [a5E (all:=r) (fun l' hl'=>by
    by_cases e:l'=a
    ·subst e; rw [y8]; simp
    ·rw [y7 e]; exact h l' (by simp [hl']))]
   simp only [j8,List.filterMap_cons,id,k7]
   by_cases e:l=a
   ·subst e
    rw [y8]
    have ha:=h l (by simp)
    cases ho:O l with
    | none=>exact absurd ho ha
    | some o=>cases k7 l (List.filterMap id r)<;>simp
   ·rw [y7 e,Sx.beq_false e]
    rfl
omit [∀ E,Rp (I E)] in
theorem b0I {O:Obs I}{l:Nat}{o:Option (Ob I)}{os:List (Ob I)}{nb:Nat}(h:l ∉ rng nb os.length):Z0 (upF O l o) nb os=upF (Z0 O nb os) l o:=by
 funext i
 by_cases hi:i∈rng nb os.length
 ·rw [(a6j (O':=O) hi).1,y7 (fun e=>h (by rw [<- e]; exact hi))]
 ·rw [Z6 hi]
  by_cases e:i=l
  ·subst e; rw [y8,y8]
  ·rw [y7 e,y7 e,Z6 hi]
omit [∀ E,Rp (I E)] in
theorem a7Z {O0:Obs I}{os:List (Ob I)}{nb:Nat}:∀ {gv:List (Nat×TypeId×V)} {ps:List (PV I)} {O:Obs I},(∀ x∈gv,(∃ ls,O0 x.1=some (some (.var x.2.1 ls true)))/\x.1 ∉ rng nb os.length) ->
 Z0 (apU O (a38 gv ps)) nb os=asgW O0 (gv.map fun x=>(x.1,x.2.2)) (gv.map (·.1)) ps (Z0 O nb os)
 | [],ps,O,_=>by cases ps<;>rfl
 | x::r,[],O,_=>rfl
 | x::r,p::ps,O,h=>by
   obtain ⟨⟨ls,h1⟩,h2⟩:=h x (by simp)
   simp only [a38,apU,List.map_cons,asgW,h1]
   rw [a7Z (gv:=r) (fun y hy=>h y (by simp [hy])),b0I h2]
omit [∀ E,Rp (I E)] in
theorem a0K {O0 O:Obs I}:∀ {pks:List Pk} {vs us:List Value} {gv:List (Nat×TypeId×V)},a75 τ pks vs us->a19 c O gv (Z8 pks vs)->gv.map (fun x=>x.2)=a0O pks->(∀ x∈gv,∃ ls,O0 x.1=some (some (.var x.2.1 ls true))) ->
 a0r τ c O0 (gv.map fun x=>(x.1,x.2.2)) (gv.map (·.1)) us
 | [],vs,us,gv,h,_,h3,_=>by
   have hg:gv=[]:=by simpa [a0O] using h3
   subst hg
   cases vs with
   | nil=>exact h
   | cons=>exact h.elim
 | .d k::r,[],us,gv,h,_,_,_=>h.elim
 | .row _ _::r,[],us,gv,h,_,_,_=>h.elim
 | .fn _ _::r,[],us,gv,h,_,_,_=>h.elim
 | .bor _::r,[],us,gv,h,_,_,_=>h.elim
 | .val _::r,[],us,gv,h,_,_,_=>h.elim
 | .var _ _ false::r,[],us,gv,h,_,_,_=>h.elim
 | .var _ _ true::r,[],us,gv,h,_,_,_=>h.elim
 | .d k::r,v::vs,us,gv,h,h2,h3,h4=>a0K (pks:=r) (vs:=vs) h (by have e:Z8 (.d k::r) (v::vs)=Z8 r vs:=by cases v<;>rfl
                                                               rw [e] at h2; exact h2) h3 h4
 | .row E f::r,v::vs,us,gv,h,h2,h3,h4=>a0K (pks:=r) (vs:=vs) h (by have e:Z8 (.row E f::r) (v::vs)=Z8 r vs:=by cases v<;>rfl
                                                                   rw [e] at h2; exact h2) h3 h4
 | .val vk::r,v::vs,us,gv,h,h2,h3,h4=>a0K (pks:=r) (vs:=vs) h (by
    have e:Z8 (.val vk::r) (v::vs)=Z8 r vs:=by cases v<;>rfl
    rw [e] at h2; exact h2) h3 h4
 | .bor E::r,v::vs,us,gv,h,h2,h3,h4=>a0K (pks:=r) (vs:=vs) h (by have e:Z8 (.bor E::r) (v::vs)=Z8 r vs:=by cases v<;>rfl
                                                                 rw [e] at h2; exact h2) h3 h4
 | .fn ks rs::r,v::vs,us,gv,h,h2,h3,h4=>a0K (pks:=r) (vs:=vs) h (by have e:Z8 (.fn ks rs::r) (v::vs)=Z8 r vs:=by cases v<;>rfl
                                                                    rw [e] at h2; exact h2) h3 h4
 | .var T w false::r,v::vs,us,gv,h,h2,h3,h4=>a0K (pks:=r) (vs:=vs) h (by have e:Z8 (.var T w false::r) (v::vs)=Z8 r vs:=by cases v<;>rfl
                                                                         rw [e] at h2; exact h2) h3 h4
 | .var T w true::r,v::vs,us,gv,h,h2,h3,h4=>by
   obtain ⟨b,cs,u,us',e1,e2,e3,e4,e5,e6⟩:=h
   subst e1
   subst e2
   cases gv with
   | nil=>simp [a0O] at h3
   | cons x gv =>
     simp only [List.map_cons,a0O,List.cons.injEq] at h3
     obtain ⟨b',bs',ls,q1,q2,q3,q4⟩:=h2
     have hb:Z8 (.var T w true::r) (Value.pointer (some ⟨b,0,none⟩)::vs)=b::Z8 r vs:=rfl
     rw [hb] at q1
     cases q1
     obtain ⟨ls0,o1⟩:=h4 x (by simp)
     have ih:=a0K (pks:=r) (vs:=vs) (us:=us') (gv:=gv) (O0:=O0) e6 q4 h3.2 (fun y hy=>h4 y (by simp [hy]))
     have hT:x.2.1=T:=by rw [h3.1]
     have hV:x.2.2=w:=by rw [h3.1]
     refine ⟨u,us',b,x.2.1,ls0,true,cs,rfl,o1,q3,by rw [hT]; exact e3,e4,?_,ih⟩
     show bif a0C x.2.2 then _ else _
     rw [hV]; exact e5
theorem b0G (ht:TabOk P tb){r:Row I}{C:World->List Value->Prop}{chk:Obs I->List (PV I)->Bool}(hr:a9G P r C)
 (hC:∀ (X:Cxt) (c:Cx) (σ:S) (s:St I) (n:Nat) (F:Fr) (O:Obs I) (ps:List (PV I)) (vs:List Value),(∀ l o,O l=some (some o)->s.O l=some (some o))->Rel X c σ s n F->chk O ps=true->RVs X c σ ps vs->C σ.w vs):EntOk P (b2o tb r chk):=by
 refine ⟨fun disp ρ O nb ps k=>?_,fun disp hd O nb ps ef he=>?_⟩
 ·show a3f tb r chk disp ρ O nb ps k=(a3f tb r chk disp (Ef I) O nb ps some).bind k
  unfold a3f
  cases chk O ps
  ·rfl
  simp only [cond_true]
  unfold a7g
  simp only [Option.bind_assoc]
  refine b0U fun a=>?_
  cases a94 (grN O r.ps ps) a.2
  ·rfl
  ·simp only [cond_true,Option.bind_assoc]
   rfl
 ·intro X c σ s n F vs hX hO h hvs hfree
  have he':a3f tb r chk disp (Ef I) O nb ps some=some ef:=he
  unfold a3f at he'
  obtain ⟨hck,he'⟩:=z7 he'
  have hCw:=hC X c σ s n F O ps vs hO h hck hvs
  unfold a7g at he'
  obtain ⟨a,ha,he'⟩:=bind_some he'
  obtain ⟨hchk,he'⟩:=z7 he'
  obtain ⟨res,hres,he'⟩:=bind_some he'
  cases he'
  obtain ⟨a,acc⟩:=a
  simp only [a94,Bool.and_eq_true] at hchk
  obtain ⟨⟨q1,q2⟩,q3⟩:=hchk
  obtain ⟨r1,r2⟩:=a1p q1
  have hgr:∀ l,some l∈acc.all->l∈grN O r.ps ps:=fun l hl=>by
   have:=(List.all_eq_true.1 q2) _ hl
   exact x7.1 this
  have hrv:∀ l∈acc.rv,l ∉ grN O r.ps ps:=fun l hl=>by
   have:=(List.all_eq_true.1 q3) _ hl
   exact Y0.1 (by simpa using this)
  obtain ⟨τ1,p1,p2,p3,p4,p5,p6⟩:=h.pubs hO acc.pub
  have hvs1:=RVs.step p2 _ _ hvs
  have hpubO:∀ {l:Nat},(∀ E (xs:List (I E)),O l≠some (some (.row E xs false)))->(y6 s O acc.pub).O l=s.O l:=fun {l} hn=>by
   show apU s.O (j7 O acc.pub) l=s.O l
   apply W2
   intro hm
   have hp:∀ {ls:List Nat},l∈Y4 (j7 O ls)->∃ E,∃ xs:List (I E),O l=some (some (.row E xs false)):=by
    intro ls
    induction ls with
    | nil=>intro h; simp [j7,Y4] at h
    | cons a r ih =>
      intro h
      simp only [j7] at h
      split at h
      ·rename_i E xs e
       simp only [Y4,List.map_cons,List.mem_cons] at h
       rcases h with rfl | h
       ·exact ⟨E,xs,e⟩
       ·exact ih h
      ·exact ih h
   obtain ⟨E,xs,e⟩:=hp hm
   exact hn E xs e
  have hOv:∀ l T ls w,O l=some (some (.var T ls w))->(y6 s O acc.pub).O l=some (some (.var T ls w)):=fun l T ls w ho=>by
   rw [hpubO (fun E xs e=>by rw [ho] at e; cases e)]; exact hO l _ ho
  have hOc:∀ l o,roO [] (j8 (grN O r.ps ps) O) l=some (some o)->roO [] (j8 (grN O r.ps ps) (y6 s O acc.pub).O) l=some (some o):=by
   intro l o hl
   unfold roO j8 at hl ⊢
   cases hm:k7 l (grN O r.ps ps) with
   | true =>
     rw [hm] at hl
     cases hol:O l with
     | none=>rw [hol] at hl; simp [k7] at hl
     | some x=>rw [hol] at hl; simp [k7] at hl
   | false =>
     rw [hm] at hl
     simp only [cond_false,k7] at hl ⊢
     have hne:∀ E (xs:List (I E)),O l≠some (some (.row E xs false)):=fun E xs e=>by rw [e] at hl; simp at hl
     rw [hpubO hne]
     cases hol:O l with
     | none=>rw [hol] at hl; simp at hl
     | some x =>
       cases x with
       | none=>rw [hol] at hl; simp at hl
       | some o'=>rw [hO l o' hol]; rw [hol] at hl; exact hl
  have hlv:∀ l,some l∈acc.all->(∃ o:Ob I,O l=some (some o)/\a3R o=true)\/(∃ T ls,O l=some (some (.var T ls true)))->y2 (y6 s O acc.pub) l:=fun l hl hx=>by
   rcases hx with ⟨o,ho,_⟩ | ⟨T,ls,ho⟩
   ·exact ⟨_,(p6 l (r2 l hl)).trans (hO l _ ho)⟩
   ·exact ⟨_,hOv l _ _ _ ho⟩
  have core:∀ M:Nat->Prop,(∀ b,M b->τ1.N<=b\/∃ l∈grN O r.ps ps,y2 (y6 s O acc.pub) l/\∃ p,c l=some p/\p.w=some b)->_:=fun M hM =>
   a0d ht hd hX p3 (fun l E xs fl e=>a5g ⟨fl,e⟩ ⟨fl,hO l _ e⟩) (fun l E xs e=>(hpubO (fun E' xs' e'=>by rw [e] at e'; cases e')).trans (hO l _ e)) hOv p4 p5 hOc hM (nb:=nb) ha hvs1 (fun _ h=>h) r2 hrv
  have fin:∀ (pls:List Pl),a1U P (fun b=>τ1.N<=b\/b∈ows pls) τ1 r.ps a vs pls->At c acc.all pls->a19 c O acc.gv (Z8 r.ps vs)->(∀ l,some l∈acc.all->(∃ o:Ob I,O l=some (some o)/\a3R o=true)\/∃ T v,(l,T,v)∈acc.gv) ->
   (∀ x∈acc.gv,some x.1∈acc.all)->acc.gv.map (fun x=>x.2)=a0O r.ps->a0X P r.f vs σ (Stp X.M σ) fun v τ=>∃ c',Cx.le c c'/\Rel X c' τ (apE s nb ⟨a36 ((pvT tb nb (r.rs++w6 r.ps) res).take r.rs.length),j7 O acc.pub++a0R acc.all++a38 acc.gv ((pvT tb nb (r.rs++w6 r.ps) res).drop r.rs.length),obT (r.rs++w6 r.ps) res⟩) n F /\
     RV X c' τ (a36 ((pvT tb nb (r.rs++w6 r.ps) res).take r.rs.length)) v:=by
   intro pls k1 k2 k3 k4 k5 k6
   have hgv:∀ x∈acc.gv,∃ ls,O x.1=some (some (.var x.2.1 ls true)):=by
    have:∀ {gv:List (Nat×TypeId×V)} {bs:List Nat},a19 c O gv bs->∀ x∈gv,∃ ls,O x.1=some (some (.var x.2.1 ls true)):=by
     intro gv
     induction gv with
     | nil=>intro bs _ x hx; cases hx
     | cons y r ih =>
       intro bs ⟨b,bs',ls,_,e2,_,e4⟩ x hx
       rcases List.mem_cons.1 hx with rfl | hx
       ·exact ⟨ls,e2⟩
       ·exact ih e4 x hx
    exact this k3
   have hlive:∀ l,some l∈acc.all->y2 (y6 s O acc.pub) l:=fun l hl=>hlv l hl ((k4 l hl).imp id fun ⟨T,v,hm⟩=>by
    obtain ⟨ls,e⟩:=hgv _ hm
    exact ⟨T,ls,e⟩)
   have hnd:(ows pls).Nodup:=At.nodup p3 k2 r1 hlive
   have hown:∀ g∈ows pls,∃ l p,some l∈acc.all/\c l=some p/\p.w=some g:=k2.mem
   have hownM:∀ g∈ows pls,X.M g:=fun g hg=>by
    obtain ⟨l,p,a1,a2,a3⟩:=hown g hg
    exact p3.mine l p g (hlive l a1) a2 a3
   refine a0X.mono (hr τ1 a vs pls res k1 (by rw [p1]; exact hCw) hnd hres) p1.symm fun v τ hst ⟨ws,us,pls',hpost⟩=>⟨τ,rfl,p2.trans (hst.mono fun b _ hb=>hownM b hb),?_⟩
   let kl:=acc.all.filterMap id
   have hkl:∀ l,l∈kl↔some l∈acc.all:=fun l=>by simp [kl,List.mem_filterMap]
   let s2:St I:=⟨s.n,s.F,j8 kl (y6 s O acc.pub).O,s.nx⟩
   have h2:Rel X c τ1 s2 n F:=p3.less (fun l o ho=>(j6 ho).2) (fun l ho=>X3.1 ho)
   have hn2:∀ l p g,y2 s2 l->c l=some p->p.w=some g->¬ g∈ows pls:=fun l p g ⟨o,ho⟩ hc hw hg=>by
    obtain ⟨m1,m2⟩:=j6 ho
    obtain ⟨l',p',a1,a2,a3⟩:=hown g hg
    exact m1 ((hkl l).2 (by rw [p3.inj l l' p p' g ⟨o,m2⟩ (hlive l' a1) hc a2 hw a3]; exact a1))
   have hi2:∀ g,g∈ows pls->notIn c τ1 s2 g:=fun g hg=>by
    obtain ⟨l',p',a1,a2,a3⟩:=hown g hg
    exact (p3.owned (hlive l' a1) a2 a3).sub fun l E E' u xs q e=>(j6 e).2
   have h3:Rel X c τ s2 n F:=h2.stepG hst hownM hn2 hi2
   have hOpub:apU s.O (j7 O acc.pub++a0R acc.all)=j8 kl (y6 s O acc.pub).O:=by
    rw [a0n]
    funext l
    exact a5E fun l hl=>by obtain ⟨o,ho⟩:=hlive l hl; intro e; have:=ho; rw [show (y6 s O acc.pub).O l=apU s.O (j7 O acc.pub) l from rfl,e] at this; cases this
   have hgvO:∀ x∈acc.gv,∃ ls,(y6 s O acc.pub).O x.1=some (some (.var x.2.1 ls true)):=fun x hx=>by
    obtain ⟨ls,e⟩:=hgv x hx
    exact ⟨ls,hOv _ _ _ _ e⟩
   have hfree2:∀ l∈rng nb (obT (r.rs++w6 r.ps) res).length,j8 kl (y6 s O acc.pub).O l=none/\l ∉ acc.gv.map (·.1):=by
    rw [J4] at hfree
    intro l hl
    have h0:=hfree l hl
    rw [a0n,hOpub] at h0
    by_cases hk:l∈Y4 (a38 acc.gv ((pvT tb nb (r.rs++w6 r.ps) res).drop r.rs.length))
    ·exact absurd h0 (a4j (O':=s.O) hk).2
    ·rw [W2 hk] at h0
     refine ⟨h0,fun hm=>?_⟩
     simp only [List.mem_map] at hm
     obtain ⟨x,hx,e⟩:=hm
     have:=(hkl x.1).2 (k5 x hx)
     rw [e] at this
     have hl2:=hlive l ((hkl l).1 this)
     obtain ⟨o,ho⟩:=hl2
     have:=X3.1 h0
     rw [ho] at this; cases this
   have hob:=a1r hpost.tt
   obtain ⟨h4,h5⟩:=Rel.addN (nb:=nb) h3 (J4.2 fun l hl=>(hfree2 l hl).1) hob hpost.nodup fun g hg=>by
    have ho:=hpost.own g hg
    refine ⟨ho.1.elim (fun h=>.inl (Nat.le_trans p3.base h)) (hownM g),(ho.1.elim (fun h=>h2.fresh h) (hi2 g)).step h2 hst hn2 hi2,fun l p ⟨o,ho'⟩ hc hw=>?_⟩
    obtain ⟨m1,m2⟩:=j6 ho'
    rcases ho.1 with hge | hin
    ·have:=(p3.objs l o m2).lt hc hw
     have:τ1.w.heap.size<=g:=hge
     omega
    ·obtain ⟨l',p',a1,a2,a3⟩:=hown g hin
     exact m1 ((hkl l).2 (by rw [p3.inj l l' p p' g ⟨o,m2⟩ (hlive l' a1) hc a2 hw a3]; exact a1))
   obtain ⟨hps,hlen⟩:=a33 (X:=X) (c:=v7 c nb pls') (nb:=nb) ht hpost.tt J6
   have htk:=RVs.take r.rs.length _ _ hps
   have hdr:=RVs.drop r.rs.length _ _ hps
   rw [List.take_left' hpost.len] at htk
   rw [List.drop_left' hpost.len] at hdr
   have hold:∀ l,(y6 s O acc.pub).O l≠none->v7 c nb pls' l=c l:=fun l hl=>by
    have key:∀ {ps:List Pl} {c:Cx} {nb:Nat},(l<nb\/nb+ps.length<=l)->v7 c nb ps l=c l:=by
     intro ps
     induction ps with
     | nil=>intro c nb _; rfl
     | cons p ps ih =>
       intro c nb h
       simp only [v7]
       rw [ih (by simp only [List.length_cons] at h; omega)]
       have:l≠nb:=by simp only [List.length_cons] at h; omega
       simp [w4,this]
    apply key
    apply Classical.byContradiction
    intro hn
    rw [not_or] at hn
    exact hl (X3.1 (hfree2 l (J9.2 ⟨by omega,by rw [hob.1]; omega⟩)).1)
   have hvarb:∀ {gv:List (Nat×TypeId×V)} {bs:List Nat},a19 c O gv bs->∀ x∈gv,∀ p g,c x.1=some p->p.w=some g->g∈bs:=by
    intro gv
    induction gv with
    | nil=>intro bs _ x hx; cases hx
    | cons y r ih =>
      intro bs ⟨b,bs',ls,e1,e2,e3,e4⟩ x hx p g hc hw
      subst e1
      rcases List.mem_cons.1 hx with rfl | hx
      ·rw [e3] at hc; cases hc; cases hw; simp
      ·simp [ih e4 x hx p g hc hw]
   have hat:∀ (i:Nat) (y:Nat×V) (p:PV I),(acc.gv.map fun x=>(x.1,x.2.2))[i]?=some y->((pvT tb nb (r.rs++w6 r.ps) res).drop r.rs.length)[i]?=some p->∃ nb' z,p=pvV tb nb' y.2 z:=fun i y p hi hp=>by
    refine a8g (tb:=tb) (vs:=r.rs++w6 r.ps) (nb:=nb) (x:=res) (i:=r.rs.length+i) (v:=y.2) ?_ (by rw [List.getElem?_drop] at hp; exact hp)
    rw [List.getElem?_append_right (by simp),Nat.add_sub_cancel_left,<- W9,<- k6]
    rw [List.getElem?_map] at hi
    simp only [List.map_map,List.getElem?_map]
    cases hgi:acc.gv[i]? with
    | none=>rw [hgi] at hi; cases hi
    | some z=>rw [hgi] at hi; cases hi; rfl
   have h6:=Rel.asgW (pls:=pls') ht p3 h5 (a0K hpost.out k3 k6 hgvO) hdr (fun i y p hi hp hag=>by
    obtain ⟨nb',z,e⟩:=hat i y p hi hp
    rw [e]; exact a6A hag)
    (fun i y p hi hp hag=>by
      obtain ⟨nb',z,e⟩:=hat i y p hi hp
      rw [e]; exact a6m hag)
    (fun l hl=>hold l (by
      simp only [List.mem_map] at hl
      obtain ⟨x,hx,rfl⟩:=hl
      obtain ⟨ls,e⟩:=hgvO x hx
      rw [e]; simp))
    (fun l hl p g hc hw=>by
      simp only [List.mem_map] at hl
      obtain ⟨x,hx,rfl⟩:=hl
      exact p3.mine x.1 p g (hlive _ (k5 x hx)) hc hw)
    (fun l ⟨o,ho⟩=>by
      by_cases hm:l∈rng nb (obT (r.rs++w6 r.ps) res).length
      ·right
       obtain ⟨a1,a2⟩:=J9.1 hm
       have hlt:l-nb<pls'.length:=by rw [<- hob.1]; omega
       refine ⟨pls'[l-nb],List.getElem_mem _,?_⟩
       have:=J6 (c:=c) (nb:=nb) (l-nb) pls'[l-nb] (List.getElem?_eq_getElem hlt)
       rw [show nb+(l-nb)=l from by omega] at this
       exact this
      ·left
       have ho':Z0 (j8 kl (y6 s O acc.pub).O) nb (obT (r.rs++w6 r.ps) res) l=some (some o):=ho
       rw [Z6 hm] at ho'
       obtain ⟨_,m2⟩:=j6 ho'
       exact ⟨⟨o,m2⟩,hold l (by rw [m2]; simp)⟩)
    (fun l hl p hc g hw hm=>by
      simp only [List.mem_map] at hl
      obtain ⟨x,hx,rfl⟩:=hl
      exact (hpost.own g hm).2 (hvarb k3 x hx p g hc hw))
    (fun l hl p hc g hw=>by
      simp only [List.mem_map] at hl
      obtain ⟨x,hx,rfl⟩:=hl
      obtain ⟨ls,e⟩:=hgvO x hx
      exact (((p3.owned ⟨_,e⟩ hc hw).sub (s':=s2) fun l E E' u xs q e=>(j6 e).2).step h2 hst hn2 hi2).grow h3 h4 (a0D hob.not))
   refine ⟨_,h4,?_,by rw [hpost.ret]; exact a8y htk⟩
   have hO2:Z0 (apU s.O (j7 O acc.pub++a0R acc.all++a38 acc.gv ((pvT tb nb (r.rs++w6 r.ps) res).drop r.rs.length))) nb (obT (r.rs++w6 r.ps) res) =
    asgW (y6 s O acc.pub).O (acc.gv.map fun x=>(x.1,x.2.2)) (acc.gv.map (·.1)) ((pvT tb nb (r.rs++w6 r.ps) res).drop r.rs.length) (Z0 (j8 kl (y6 s O acc.pub).O) nb (obT (r.rs++w6 r.ps) res)):=by
    rw [a0n,hOpub]
    exact a7Z fun x hx=>⟨hgvO x hx,fun hm=>(hfree2 x.1 hm).2 (List.mem_map.2 ⟨x,hx,rfl⟩)⟩
   have e:apE s nb ⟨a36 ((pvT tb nb (r.rs++w6 r.ps) res).take r.rs.length),j7 O acc.pub++a0R acc.all++a38 acc.gv ((pvT tb nb (r.rs++w6 r.ps) res).drop r.rs.length),obT (r.rs++w6 r.ps) res⟩ =
    ⟨s.n,s.F,asgW (y6 s O acc.pub).O (acc.gv.map fun x=>(x.1,x.2.2)) (acc.gv.map (·.1)) ((pvT tb nb (r.rs++w6 r.ps) res).drop r.rs.length) (Z0 (j8 kl (y6 s O acc.pub).O) nb (obT (r.rs++w6 r.ps) res)),s.nx⟩:=by
    simp only [apE,hO2]
   rw [e]
   exact h6
  obtain ⟨pls0,k1,k2,k3,k4,k5,k6⟩:=core (fun _=>False) (fun _ h=>h.elim)
  obtain ⟨pls,k1',k2',_⟩:=core (fun b=>τ1.N<=b\/b∈ows pls0) (fun b hb=>hb.imp id fun hb=>by
   obtain ⟨l,p,a1,a2,a3⟩:=k2.mem b hb
   refine ⟨l,hgr l a1,hlv l a1 ((k4 l a1).imp id fun ⟨T,v,hm⟩=>?_),p,a2,a3⟩
   have:∀ {gv:List (Nat×TypeId×V)} {bs:List Nat},a19 c O gv bs->∀ x∈gv,∃ ls,O x.1=some (some (.var x.2.1 ls true)):=by
    intro gv
    induction gv with
    | nil=>intro bs _ x hx; cases hx
    | cons y r ih =>
      intro bs ⟨b,bs',ls,_,e2,_,e4⟩ x hx
      rcases List.mem_cons.1 hx with rfl | hx
      ·exact ⟨ls,e2⟩
      ·exact ih e4 x hx
   obtain ⟨ls,e⟩:=this k3 _ hm
   exact ⟨T,ls,e⟩)
  have hsame:ows pls=ows pls0:=by
   have:∀ {rows:List (Option Nat)} {p q:List Pl},At c rows p->At c rows q->ows p=ows q:=by
    intro rows
    induction rows with
    | nil=>intro p q h1 h2; cases h1; cases h2; rfl
    | cons x r ih =>
      intro p q ⟨a,b21,e1,g1,h1⟩ ⟨b,bs,e2,g2,h2⟩
      subst e1
      subst e2
      have hr:=ih h1 h2
      simp only [ows,List.filterMap_cons] at hr ⊢
      have:a.w=b.w:=by
       cases x with
       | none=>simp only at g1 g2; rw [g1,g2]
       | some l=>simp only at g1 g2; rw [g1] at g2; cases g2; rfl
      rw [this,hr]
   exact this k2' k2
  rw [<- hsame] at k1'
  exact fin pls k1' k2' k3 k4 k5 k6
theorem b1r (ht:TabOk P tb){r:Row I}(hr:a4K P r):EntOk P (b1T tb r) :=
 b0G (C:=fun _ _=>True) (chk:=fun _ _=>true) ht (fun σ a vs pls res h _=>hr σ a vs pls res h) (fun _ _ _ _ _ _ _ _ _ _ _ _ _=>trivial)
end
end Go.Qx
end
section
namespace Go.Qx
open Go Go.RowKit Go.Sx
section
variable {I:TypeId->Type} [∀ E,Rp (I E)] {P:Program}{tb:Tab I}{X:Cxt}{c c':Cx}{σ τ:S}{s:St I}{n:Nat}{F:Fr}{O:Obs I}
end
end Go.Qx
end
section
namespace Go.Qx
open Go Go.RowKit Go.Sx
@[reducible] def b1R:Rp Unit where
 sz:=1
 pos:=by decide
 agg:=false
 cells:=fun _ _ _=>False
 len:=fun h=>h.elim
 one:=fun h=>h.elim
 mono:=fun _ h=>h
@[reducible] def rpK (k:IntKind):Rp Int:=rpIK k
@[reducible] def k8 {α β:Type} (a:Rp α) (b:Rp β):Rp (α×β) where
 sz:=a.sz+b.sz
 pos:=Nat.lt_of_lt_of_le a.pos (Nat.le_add_right _ _)
 agg:=true
 cells:=fun σ x cs=>∃ c1 c2,cs=c1++c2/\a.cells σ x.1 c1/\b.cells σ x.2 c2
 len:=fun ⟨_,_,e,h1,h2⟩=>by rw [e,List.length_append,a.len h1,b.len h2]
 one:=fun ⟨_,_,e,h1,h2⟩ v hv=>by
  rw [e,List.mem_append] at hv
  exact hv.elim (a.one h1 v) (b.one h2 v)
 mono:=fun k ⟨c1,c2,e,h1,h2⟩=>⟨c1,c2,e,a.mono k h1,b.mono k h2⟩
@[reducible] def a2E {γ α:Type} (to:γ->α) (a:Rp α):Rp γ where
 sz:=a.sz
 pos:=a.pos
 agg:=true
 cells:=fun σ x cs=>a.cells σ (to x) cs
 len:=fun h=>a.len h
 one:=fun h=>a.one h
 mono:=fun k h=>a.mono k h
structure TE where
 E:TypeId
 α:Type
 rp:Rp α
def a8W:List TE->TypeId->TE
 | [],_=>⟨0,Unit,b1R⟩
 | e::r,E=>bif Nat.beq e.E E then e else a8W r E
section
variable {I:TypeId->Type} [∀ E,Rp (I E)]
structure Fd (I:TypeId->Type) [∀ E,Rp (I E)] (α:Type)(rp:Rp α) where
 lf:α->List (PV I)
 pa:(ρ:Type)->List (PV I)->(α->List (PV I)->Option ρ)->Option ρ
 lf_ok:∀ (X:Cxt) (c:Cx) (σ:S) (x:α) (cs:List Value),rp.cells σ x cs->RG X c σ (lf x) cs
 pa_ok:∀ (ρ:Type) (ls:List (PV I)) (f:α->List (PV I)->Option ρ) (r:ρ),pa ρ ls f=some r->∃ x rest,f x rest=some r /\
  ∀ (X:Cxt) (c:Cx) (σ:S) (cs:List Value),RG X c σ ls cs->∃ c1 c2,cs=c1++c2/\rp.cells σ x c1/\RG X c σ rest c2
theorem RG.cons1 {X:Cxt}{c:Cx}{σ:S}{p:PV I}{r:List (PV I)}{cs:List Value}(h:RG X c σ (p::r) cs)(hp:a0l p=false):∃ v c2,cs=[v]++c2/\RV X c σ p v/\RG X c σ r c2:=by
 simp only [RG] at h
 obtain ⟨a,c2,e,h1 | ⟨_,v,e1,h1⟩,h2⟩:=h
 ·exact (by cases p<;>first | exact h1.elim | cases hp)
 ·exact ⟨v,c2,by rw [e,e1],h1,h2⟩
theorem RG.cns {X:Cxt}{c:Cx}{σ:S}{p:PV I}{ps:List (PV I)}{v:Value}{cs:List Value}(h0:a0l p=false)(h:RV X c σ p v)(k:RG X c σ ps cs):RG X c σ (p::ps) (v::cs):=by
 simp only [RG]
 exact ⟨[v],cs,rfl,.inr ⟨h0,v,rfl,h⟩,k⟩
theorem RG.nl {X:Cxt}{c:Cx}{σ:S}:RG X c σ ([]:List (PV I)) []:=by simp only [RG]
theorem a3m {X:Cxt}{c:Cx}{σ:S}{k:IntKind}{n:Int}:RV X c σ (.int k n:PV I) (.int k n):=by simp only [RV]
theorem a9x {X:Cxt}{c:Cx}{σ:S}{b:Bool}:RV X c σ (.bool b:PV I) (.bool b):=by simp only [RV]
theorem a84 {X:Cxt}{c:Cx}{σ:S}{b:ByteArray}:RV X c σ (.str b:PV I) (.string b):=by simp only [RV]
theorem a8G {X:Cxt}{c:Cx}{σ:S}{E:TypeId}:RV X c σ (.nl E:PV I) (.slice none 0 0):=by simp only [RV]; exact ⟨none,rfl⟩
def X4 (k:IntKind):Fd I Int (rpK k) where
 lf:=fun n=>[.int k n]
 pa:=fun _ ls f=>match ls with
  | .int k' n::r=>if k'=k then f n r else none
  | _=>none
 lf_ok:=fun X c σ x cs h=>by
  have e:cs=[.int k x]:=h
  rw [e]
  exact RG.single rfl (by simp only [RV])
 pa_ok:=fun ρ ls f r h=>by
  split at h
  ·rename_i k' n rest
   obtain ⟨e,h2⟩:=w9 h
   clear h
   subst e
   refine ⟨n,rest,h2,fun X c σ cs hl=>?_⟩
   obtain ⟨v,c2,e,h1,h2⟩:=hl.cons1 rfl
   simp only [RV] at h1
   subst h1
   exact ⟨_,c2,e,rfl,h2⟩
  ·cases h
def a7R:Fd I Bool rpBool where
 lf:=fun n=>[.bool n]
 pa:=fun _ ls f=>match ls with
  | .bool n::r=>f n r
  | _=>none
 lf_ok:=fun X c σ x cs h=>by
  have e:cs=[.bool x]:=h
  rw [e]
  exact RG.single rfl (by simp only [RV])
 pa_ok:=fun ρ ls f r h=>by
  split at h
  ·rename_i n rest
   refine ⟨n,rest,h,fun X c σ cs hl=>?_⟩
   obtain ⟨v,c2,e,h1,h2⟩:=hl.cons1 rfl
   simp only [RV] at h1
   subst h1
   exact ⟨_,c2,e,rfl,h2⟩
  ·cases h
def a4E:Fd I ByteArray rpStr where
 lf:=fun n=>[.str n]
 pa:=fun _ ls f=>match ls with
  | .str n::r=>f n r
  | _=>none
 lf_ok:=fun X c σ x cs h=>by
  have e:cs=[.string x]:=h
  rw [e]
  exact RG.single rfl (by simp only [RV])
 pa_ok:=fun ρ ls f r h=>by
  split at h
  ·rename_i n rest
   refine ⟨n,rest,h,fun X c σ cs hl=>?_⟩
   obtain ⟨v,c2,e,h1,h2⟩:=hl.cons1 rfl
   simp only [RV] at h1
   subst h1
   exact ⟨_,c2,e,rfl,h2⟩
  ·cases h
def a2Y (E:TypeId):Fd I (List (I E)) rpList where
 lf:=fun xs=>[.sl E xs false]
 pa:=fun _ ls f=>match ls with
  | .sl E' xs _::r=>Option.bind (Y9 E E' xs) fun ys=>f ys r
  | .nl E'::r=>bif Nat.beq E' E then f [] r else none
  | _=>none
 lf_ok:=fun X c σ xs cs h=>by
  obtain ⟨A,k,e,hs⟩:∃ A k,cs=[.slice A (xs:List (I E)).length k]/\Sl σ xs A k:=h
  rw [e]
  refine RG.single rfl ?_
  simp only [RV]
  exact ⟨A,k,rfl,hs,fun e=>by cases e⟩
 pa_ok:=fun ρ ls f r h=>by
  split at h
  ·rename_i E' xs fl rest
   obtain ⟨ys,hy,h⟩:=bind_some h
   obtain ⟨e,rfl⟩:=v8 hy
   subst e
   refine ⟨xs,rest,h,fun X c σ cs hl=>?_⟩
   obtain ⟨v,c2,e,h1,h2⟩:=hl.cons1 rfl
   simp only [RV] at h1
   obtain ⟨A,k,e1,hs,_⟩:=h1
   exact ⟨[v],c2,e,⟨A,k,by rw [e1],hs⟩,h2⟩
  ·rename_i E' rest
   obtain ⟨_,h⟩:=z7 h
   refine ⟨[],rest,h,fun X c σ cs hl=>?_⟩
   obtain ⟨v,c2,e,h1,h2⟩:=hl.cons1 rfl
   simp only [RV] at h1
   obtain ⟨A,e1⟩:=h1
   exact ⟨[v],c2,e,⟨A,0,by rw [e1]; rfl,Sl.nil_ _ _ _ (Nat.zero_le _)⟩,h2⟩
  ·cases h
def a7l (E:TypeId)(fd:Fd I (I E) inferInstance):Fd I (I E) inferInstance where
 lf:=fun x=>[.dat E x]
 pa:=fun ρ ls f=>match ls with
  | .dat E' x::r=>Option.bind (a4T E E' x) fun y=>f y r
  | ls=>fd.pa ρ ls f
 lf_ok:=fun X c σ x cs h=>RG.one h
 pa_ok:=fun ρ ls f r h=>by
  split at h
  ·rename_i E' x rest
   obtain ⟨y,hy,h⟩:=bind_some h
   obtain ⟨e,rfl⟩:=a3C hy
   subst e
   refine ⟨x,rest,h,fun X c σ cs hl=>?_⟩
   simp only [RG] at hl
   obtain ⟨a,c2,e,h1 | ⟨h1,_⟩,h2⟩:=hl
   ·exact ⟨a,c2,e,h1,h2⟩
   ·cases h1
  ·exact fd.pa_ok ρ _ f r h
def Q8 {α β:Type}{ra:Rp α}{rb:Rp β}(a:Fd I α ra)(b:Fd I β rb):Fd I (α×β) (k8 ra rb) where
 lf:=fun x=>a.lf x.1++b.lf x.2
 pa:=fun ρ ls f=>a.pa ρ ls fun x r=>b.pa ρ r fun y r=>f (x,y) r
 lf_ok:=fun X c σ x cs ⟨c1,c2,e,h1,h2⟩=>by
  rw [e]
  exact RG.app _ _ _ _ (a.lf_ok X c σ _ _ h1) (b.lf_ok X c σ _ _ h2)
 pa_ok:=fun ρ ls f r h=>by
  obtain ⟨x,r1,h,k1⟩:=a.pa_ok ρ _ _ r h
  obtain ⟨y,r2,h,k2⟩:=b.pa_ok ρ _ _ r h
  refine ⟨(x,y),r2,h,fun X c σ cs hl=>?_⟩
  obtain ⟨c1,c2,e,h1,h2⟩:=k1 X c σ cs hl
  obtain ⟨c3,c4,e2,h3,h4⟩:=k2 X c σ c2 h2
  exact ⟨c1++c3,c4,by rw [e,e2,List.append_assoc],⟨c1,c3,rfl,h1,h3⟩,h4⟩
def a1N {γ α:Type}{rg:Rp γ}{ra:Rp α}(a:Fd I α ra)(to:γ->α)(of:α->γ)(h:∀ x,to (of x)=x)(hc:∀ σ x cs,rg.cells σ x cs↔ra.cells σ (to x) cs):Fd I γ rg where
 lf:=fun x=>a.lf (to x)
 pa:=fun ρ ls f=>a.pa ρ ls fun x r=>f (of x) r
 lf_ok:=fun X c σ x cs hx=>a.lf_ok X c σ _ _ ((hc σ x cs).1 hx)
 pa_ok:=fun ρ ls f r hr=>by
  obtain ⟨x,r1,hr,k1⟩:=a.pa_ok ρ _ _ r hr
  refine ⟨of x,r1,hr,fun X c σ cs hl=>?_⟩
  obtain ⟨c1,c2,e,h1,h2⟩:=k1 X c σ cs hl
  exact ⟨c1,c2,e,(hc σ _ _).2 (by rw [h]; exact h1),h2⟩
structure FE (I:TypeId->Type) [∀ E,Rp (I E)] where
 E:TypeId
 fd:Fd I (I E) inferInstance
def a81:List (FE I)->TypeId->Option (FE I)
 | [],_=>none
 | e::r,E=>bif Nat.beq e.E E then some e else a81 r E
def lfT (l:List (FE I))(E:TypeId)(x:I E):List (PV I):=match a81 l E with
 | some e=>if h:E=e.E then e.fd.lf (h▸x) else [.dat E x]
 | none=>[.dat E x]
def ofT (l:List (FE I))(E:TypeId)(ls:List (PV I)):Option (I E):=match a81 l E with
 | some e=>if h:e.E=E then e.fd.pa (I E) ls fun x r=>match r with
   | []=>some (h▸x)
   | _=>none else none
 | none=>none
def W7 {α:Type}(p:α->Prop):List α->Prop
 | []=>True
 | x::r=>p x/\W7 p r
omit [∀ E,Rp (I E)] in
theorem W7.mem {α:Type}{p:α->Prop}:∀ {l:List α},W7 p l->∀ x∈l,p x
 | [],_,_,h=>by cases h
 | _::_,h,x,hx=>by
   rcases List.mem_cons.1 hx with rfl | hx
   ·exact h.1
   ·exact W7.mem h.2 x hx
def asc {α:Type}:List (Nat×α)->Nat->Option α
 | [],_=>none
 | x::r,k=>bif Nat.beq x.1 k then some x.2 else asc r k
omit [∀ E,Rp (I E)] in
theorem x9 {α:Type}:∀ {l:List (Nat×α)} {k:Nat} {a:α},asc l k=some a->(k,a)∈l
 | [],_,_,h=>by cases h
 | x::r,k,a,h=>by
   simp only [asc] at h
   cases hk:Nat.beq x.1 k with
   | true =>
     rw [hk] at h
     cases h
     have:=Nat.eq_of_beq_eq_true hk
     subst this
     simp
   | false =>
     rw [hk] at h
     exact List.mem_cons_of_mem _ (x9 h)
structure U8 (I:TypeId->Type) where
 E:TypeId
 g:Int->I E
def u8T:List (U8 I)->(E:TypeId)->Option (Int->I E)
 | [],_=>none
 | e::r,E=>if h:e.E=E then some fun k=>h▸e.g k else u8T r E
structure TabL (I:TypeId->Type) [∀ E,Rp (I E)] where
 sz:List (TypeId×Nat)
 one:List (TypeId×Unit)
 fld:List (TypeId×List (Nat×TypeId))
 el:List (TypeId×TypeId)
 str:List (TypeId×Unit)
 bool:List (TypeId×Unit)
 ik:List (TypeId×IntKind)
 fe:List (FE I)
 inf:List (TypeId×Nat×Nat×List (PV I))
 st:List (TypeId×List (Nat×Nat))
 eq:List (TypeId×(List (PV I)->List (PV I)->Option Bool))
 arr:List (TypeId×(TypeId×Nat×Nat))
 fb:List (FuncId×Unit)
 nest:List (TypeId×(TypeId×Nat)):=[]
 mp:List (TypeId×Kd):=[]
 u8:List (TypeId×Unit):=[]
 u8g:List (U8 I):=[]
def b0P (L:TabL I):Tab I where
 sz:=asc L.sz
 one:=fun T=>(asc L.one T).isSome
 off:=fun T f=>Option.bind (asc L.fld T) fun l=>Option.bind l[f]? fun x=>some x.1
 fty:=fun T f=>Option.bind (asc L.fld T) fun l=>Option.bind l[f]? fun x=>some x.2
 el:=asc L.el
 isStr:=fun T=>(asc L.str T).isSome
 isBool:=fun T=>(asc L.bool T).isSome
 ik:=asc L.ik
 lf:=lfT L.fe
 of:=ofT L.fe
 size:=fun T=>Option.bind (asc L.inf T) fun x=>some x.1
 bytes:=fun T=>Option.bind (asc L.inf T) fun x=>some x.2.1
 zero:=fun T=>Option.bind (asc L.inf T) fun x=>some x.2.2
 flds:=asc L.st
 eqF:=fun T a b=>Option.bind (asc L.eq T) fun f=>f a b
 arr:=asc L.arr
 mp:=asc L.mp
 fb:=fun f=>(asc L.fb f).isSome
 nest:=asc L.nest
 u8:=fun T=>(asc L.u8 T).isSome
 u8g:=u8T L.u8g
def a2j (P:Program)(T:TypeId):Nat->List (Nat×TypeId)->Prop
 | _,[]=>True
 | i,x::r=>a4R P T i x.1/\(∃ fs fl,P.underlying T=some (.struct fs)/\fs[i]?=some fl/\fl.type=x.2)/\a2j P T (i+1) r
omit [∀ E,Rp (I E)] in
theorem a2j.at {P:Program}{T:TypeId}:∀ {l:List (Nat×TypeId)} {i j:Nat} {x:Nat×TypeId},a2j P T i l->l[j]?=some x->a4R P T (i+j) x.1/\(∃ fs fl,P.underlying T=some (.struct fs)/\fs[i+j]?=some fl/\fl.type=x.2)
 | [],_,_,_,_,h=>by simp at h
 | y::r,i,0,x,hf,h=>by simp at h; subst h; exact ⟨hf.1,hf.2.1⟩
 | y::r,i,j+1,x,hf,h=>by
   have:=a2j.at (i:=i+1) hf.2.2 (show r[j]?=some x by simpa using h)
   rwa [show i+1+j=i+(j+1) by omega] at this
def b2j (P:Program)(T:TypeId)(sz by_:Nat)(ls:List (PV I)):Prop:=∃ z,Z5 P T z sz by_/\∀ X c σ,RG X c σ ls z.cells.toList
structure TabLOk (P:Program)(L:TabL I):Prop where
 sz:W7 (fun x=>a4y P x.1 x.2) L.sz
 one:W7 (fun x=>a0B P x.1) L.one
 fld:W7 (fun x=>a2j P x.1 0 x.2) L.fld
 el:W7 (fun x=>P.underlying x.1=some (.slice x.2)/\∃ z b,Z5 P x.2 z (Rp.sz (I x.2)) b/\z.cells.size=Rp.sz (I x.2)/\0<b) L.el
 str:W7 (fun x=>P.underlying x.1=some .string) L.str
 bool:W7 (fun x=>P.underlying x.1=some .bool) L.bool
 ik:W7 (fun x=>P.underlying x.1=some (.int x.2)) L.ik
 inf:W7 (fun x=>b2j P x.1 x.2.1 x.2.2.1 x.2.2.2) L.inf
 st:W7 (fun x=>(∃ fs,P.underlying x.1=some (.struct fs)/\fs.toList.mapM (fun f=>(P.info? f.type).map fun i=>(f.offset,i.size))=some x.2) \/
  ∃ m e ie,P.underlying x.1=some (.array m e)/\P.info? e=some ie/\x.2=(List.range m).map fun j=>(j*ie.size,ie.size)) L.st
 eq:W7 (fun x=>∀ (X:Cxt) (c:Cx) (σ:S) (ls ms:List (PV I)) (r:Bool) (cs ds:List Value),x.2 ls ms=some r->RG X c σ ls cs->RG X c σ ms ds ->
  P.eqGuardType P.depth x.1=false/\∃ j,Nat.ble j 10000=true/\Sx.EqAt P j x.1 (.agg cs.toArray) (.agg ds.toArray) r) L.eq
 arr:W7 (fun x=>P.underlying x.1=some (.array x.2.2.1 x.2.1)/\(P.info? x.2.1).map (·.size)=some x.2.2.2) L.arr
 mp:W7 (fun x=>a7m I P x.1 x.2) L.mp:=by exact trivial
 u8:W7 (fun x=>P.underlying x.1=some (.int .u8)/\∀ y:I x.1,∃ n,lfT L.fe x.1 y=[.int .u8 n]) L.u8:=by exact trivial
 u8g:W7 (fun x=>∀ (σ:S) (k:Int),Rp.cells σ (x.g k) [.int .u8 k]) L.u8g:=by exact trivial
 fb:W7 (fun x=>a0k P x.1) L.fb
theorem a9I:∀ {l:List (U8 I)} {E:TypeId} {g:Int->I E},W7 (fun x=>∀ (σ:S) (k:Int),Rp.cells σ (x.g k) [.int .u8 k]) l->u8T l E=some g->∀ (σ:S) (k:Int),Rp.cells σ (g k) [.int .u8 k]
 | [],_,_,_,h=>by cases h
 | e::r,E,g,hl,h=>by
   unfold u8T at h
   split at h
   ·rename_i e1
    subst e1
    cases h
    exact hl.1
   ·exact a9I hl.2 h
omit [∀ E,Rp (I E)] in
theorem a1u {α:Type}{o:Option α}(h:o.isSome=true):∃ a,o=some a:=Option.isSome_iff_exists.1 h
omit [∀ E,Rp (I E)] in
theorem Z5.inj {P:Program}{T:TypeId}{z z':Value}{a a' b b':Nat}(h:Z5 P T z a b)(k:Z5 P T z' a' b'):z=z'/\a=a'/\b=b':=by
 obtain ⟨i,h1,h2,h3,h4⟩:=h
 obtain ⟨j,k1,k2,k3,k4⟩:=k
 rw [h1] at k1
 cases k1
 rw [h2] at k2
 cases k2
 exact ⟨rfl,h3.symm.trans k3,h4.symm.trans k4⟩
theorem b1G {fe:List (FE I)}{X:Cxt}{c:Cx}{σ:S}{E:TypeId}{ls:List (PV I)}{x:I E}{cs:List Value}(hx:ofT fe E ls=some x)(hl:RG X c σ ls cs):Rp.cells σ x cs:=by
 unfold ofT at hx
 split at hx
 ·rename_i e he
  split at hx
  ·rename_i e1
   subst e1
   obtain ⟨y,rest,h1,h2⟩:=e.fd.pa_ok _ _ _ _ hx
   obtain ⟨c1,c2,e2,h3,h4⟩:=h2 X c σ cs hl
   split at h1
   ·cases h1
    simp only [RG] at h4
    rw [e2,h4,List.append_nil]
    exact h3
   ·cases h1
  ·cases hx
 ·cases hx
theorem b0J {P:Program}{L:TabL I}(h:TabLOk P L):TabOk P (b0P L) where
 sz:=fun T k hk=>h.sz.mem _ (x9 hk)
 one:=fun T hk=>by obtain ⟨a,ha⟩:=a1u hk; exact h.one.mem _ (x9 ha)
 off:=fun T f o hk=>by
  obtain ⟨l,hl,hk⟩:=bind_some hk
  obtain ⟨x,hx,hk⟩:=bind_some hk
  cases hk
  have:=(a2j.at (h.fld.mem _ (x9 hl)) hx).1
  rw [Nat.zero_add] at this
  exact this
 fty:=fun T f o hk=>by
  obtain ⟨l,hl,hk⟩:=bind_some hk
  obtain ⟨x,hx,hk⟩:=bind_some hk
  cases hk
  have:=(a2j.at (h.fld.mem _ (x9 hl)) hx).2
  rw [Nat.zero_add] at this
  exact this
 el:=fun T E hk=>by
  obtain ⟨h1,z,b,⟨i,e1,e2,e3,e4⟩,_⟩:=h.el.mem _ (x9 hk)
  exact ⟨h1,by rw [e1]; simp only [Option.map_some]; rw [e3]⟩
 isStr:=fun T hk=>by obtain ⟨a,ha⟩:=a1u hk; exact h.str.mem _ (x9 ha)
 isBool:=fun T hk=>by obtain ⟨a,ha⟩:=a1u hk; exact h.bool.mem _ (x9 ha)
 ik:=fun T k hk=>h.ik.mem _ (x9 hk)
 lf:=fun X c σ E x cs hx=>by
  show RG X c σ (lfT L.fe E x) cs
  unfold lfT
  split
  ·rename_i e he
   split
   ·rename_i e1
    subst e1
    exact e.fd.lf_ok X c σ x cs hx
   ·exact RG.one hx
  ·exact RG.one hx
 of:=fun _ _ _ _ _ _ _ hx hl=>b1G hx hl
 size:=fun T k hk=>by
  obtain ⟨x,hx,hk⟩:=bind_some hk
  cases hk
  obtain ⟨z,⟨i,e1,e2,e3,e4⟩,_⟩:=h.inf.mem _ (x9 hx)
  rw [e1,Option.map_some,e3]
 slice:=fun T E b hT hb=>by
  obtain ⟨x,hx,hk⟩:=bind_some hb
  cases hk
  obtain ⟨z,h1,_⟩:=h.inf.mem _ (x9 hx)
  obtain ⟨h2,z',b',h3,h4,h5⟩:=h.el.mem _ (x9 hT)
  obtain ⟨rfl,e1,e2⟩:=Z5.inj h1 h3
  simp only at e1 e2 h1
  refine ⟨z,h2,?_,h4,Rp.pos,?_⟩
  ·rw [<- e1]; exact h1
  ·rw [e2]; exact h5
 zero:=fun T ls hk=>by
  obtain ⟨x,hx,hk⟩:=bind_some hk
  cases hk
  obtain ⟨z,h1,h2⟩:=h.inf.mem _ (x9 hx)
  exact ⟨z,_,_,_,h1,rfl,h2⟩
 flds:=fun T pl ls hp hz=>by
  obtain ⟨x,hx,hk⟩:=bind_some hz
  cases hk
  obtain ⟨z,⟨i,e1,e2,e3,e4⟩,h2⟩:=h.inf.mem _ (x9 hx)
  rcases h.st.mem _ (x9 hp) with ⟨fs,h3,h4⟩ | ⟨m,e,ie,h3,h4,h5⟩
  ·exact ⟨z.cells.toList,.inl ⟨fs,i,z,h3,e1,e2,by simp,h4⟩,h2⟩
  ·exact ⟨z.cells.toList,.inr ⟨m,e,ie,i,z,h3,h4,e1,e2,by simp,h5⟩,h2⟩
 eqF:=fun X c σ T ls ms r cs ds hk h1 h2=>by
  obtain ⟨f,hf,hk⟩:=bind_some hk
  exact h.eq.mem _ (x9 hf) X c σ ls ms r cs ds hk h1 h2
 arr:=fun T E m k hk=>h.arr.mem _ (x9 hk)
 mp:=fun T kd hk=>h.mp.mem _ (x9 hk)
 fb:=fun f hk=>by obtain ⟨a,ha⟩:=a1u hk; exact h.fb.mem _ (x9 ha)
 u8:=fun T hk=>by obtain ⟨a,ha⟩:=a1u hk; exact h.u8.mem _ (x9 ha)
 u8g:=fun E g hk=>a9I h.u8g hk
def b0v (f:Func):Code:=match f.body with
 | some c=>c
 | none=>.skip
inductive BE where
 | slot (t:Nat)
 | fld (T:TypeId) (f:Nat) (e:BE)
 | ld (T:TypeId) (e:BE)
 | len (e:BE)
 | cst (n:Int)
def bev (tb:Tab I)(s:St I):BE->Option (PV I)
 | .slot t=>s.F t
 | .fld T f e=>Option.bind (bev tb s e) fun p=>Option.bind (tb.off T f) fun d=>match p with
   | .ptr l o=>some (.ptr l (o+d))
   | .ep E x o=>some (.ep E x (o+d))
   | _=>none
 | .ld T e=>Option.bind (bev tb s e) fun p=>match p with
   | .ptr l o=>match s.O l with
     | some (some (.var _ ls _))=>a0j tb T ls o
     | _=>none
   | .ep E x o=>a0j tb T [.dat E x] o
   | _=>none
 | .len e=>Option.bind (bev tb s e) fun p=>match p with
   | .sl _ xs _=>some (.int .i64 (xs.length:Int))
   | .nl _=>some (.int .i64 0)
   | .str t=>some (.int .i64 (t.size:Int))
   | .vw l=>match s.O l with
     | some (some (.row _ xs _))=>some (.int .i64 (xs.length:Int))
     | some (some (.ro _ xs))=>some (.int .i64 (xs.length:Int))
     | some (some (.bo _ xs))=>some (.int .i64 (xs.length:Int))
     | _=>none
   | .vs l _ lo=>match s.O l with
     | some (some (.row _ xs _))=>some (.int .i64 ((xs.drop lo).length:Int))
     | _=>none
   | _=>none
 | .cst n=>some (.int .i64 n)
def bnd (tb:Tab I)(e:BE)(k:Nat)(s:St I):Option Nat:=match bev tb s e with
 | some (.int _ n)=>some (n.toNat+k)
 | _=>none
end
end Go.Qx
end
section
namespace Go.Sx
open Go Go.RowKit
structure Key where
 Kind:Int
 Text:ByteArray
mutual
inductive Val where
 | mk (Kind:Int) (Int_:Int) (Text:ByteArray) (Kids:List Val) (Keys:List Key) (Entries:List Ent) (Labels:List ByteArray)
inductive Ent where
 | mk (Args:List Val) (Fails:Bool) (Result:Val)
end
namespace Val
def Kind:Val->Int | mk a _ _ _ _ _ _=>a
def Int_:Val->Int | mk _ a _ _ _ _ _=>a
def Text:Val->ByteArray | mk _ _ a _ _ _ _=>a
def Kids:Val->List Val | mk _ _ _ a _ _ _=>a
def Keys:Val->List Key | mk _ _ _ _ a _ _=>a
def Entries:Val->List Ent | mk _ _ _ _ _ a _=>a
def Labels:Val->List ByteArray | mk _ _ _ _ _ _ a=>a
end Val
namespace Ent
def Args:Ent->List Val | mk a _ _=>a
def Fails:Ent->Bool | mk _ a _=>a
def Result:Ent->Val | mk _ _ a=>a
end Ent
instance rpKey:Rp Key where
 sz:=2
 pos:=by decide
 agg:=true
 cells:=fun _ k cs=>cs=[.int .i64 k.Kind,.string k.Text]
 len:=fun h=>by rw [h]; rfl
 one:=fun h v hv=>by rw [h] at hv; simp at hv; rcases hv with rfl | rfl<;>rfl
 mono:=fun _ h=>h
def SlC (σ:S)(len:Nat)(A:Option Addr)(c:Nat)(cs:List Value):Prop:=len<=c/\c<=maxLen/\(0<len->∃ b o,A=some ⟨b,o,none⟩/\K4 σ b o cs)
mutual
def RV (σ:S):Val->List Value->Prop
 | .mk k n t kids keys ents labs,cs=>∃ A1 c1 A2 c2 A3 c3 A4 c4 f1 f3,
    cs=[.int .i64 k,.int .i64 n,.string t,.slice A1 kids.length c1,.slice A2 keys.length c2,.slice A3 ents.length c3,.slice A4 labs.length c4] /\
    SlC σ kids.length A1 c1 f1/\RVs σ kids f1/\Sl σ keys A2 c2/\SlC σ ents.length A3 c3 f3/\REs σ ents f3/\Sl σ labs A4 c4
def RVs (σ:S):List Val->List Value->Prop
 | [],cs=>cs=[]
 | x::xs,cs=>∃ c r,cs=c++r/\RV σ x c/\RVs σ xs r
def RE (σ:S):Ent->List Value->Prop
 | .mk args fails res,cs=>∃ A c f r,cs=.slice A args.length c::.bool fails::r/\SlC σ args.length A c f/\RVs σ args f/\RV σ res r
def REs (σ:S):List Ent->List Value->Prop
 | [],cs=>cs=[]
 | x::xs,cs=>∃ c r,cs=c++r/\RE σ x c/\REs σ xs r
end
theorem RV.len {σ:S}:∀ {v:Val} {cs:List Value},RV σ v cs->cs.length=7
 | .mk ..,cs,h=>by simp only [RV] at h; obtain ⟨_,_,_,_,_,_,_,_,_,_,rfl,_⟩:=h; rfl
theorem RV.one {σ:S}:∀ {v:Val} {cs:List Value},RV σ v cs->∀ u∈cs,u.oneCell'=true
 | .mk ..,cs,h=>by
   simp only [RV] at h
   obtain ⟨_,_,_,_,_,_,_,_,_,_,rfl,_⟩:=h
   intro u hu
   simp at hu
   rcases hu with rfl | rfl | rfl | rfl | rfl | rfl | rfl<;>rfl
theorem RE.len {σ:S}:∀ {v:Ent} {cs:List Value},RE σ v cs->cs.length=9
 | .mk ..,cs,h=>by simp only [RE] at h; obtain ⟨_,_,_,r,rfl,_,_,h4⟩:=h; simp [h4.len]
theorem RE.one {σ:S}:∀ {v:Ent} {cs:List Value},RE σ v cs->∀ u∈cs,u.oneCell'=true
 | .mk ..,cs,h=>by
   simp only [RE] at h
   obtain ⟨_,_,_,r,rfl,_,_,h4⟩:=h
   intro u hu
   simp only [List.mem_cons] at hu
   rcases hu with rfl | rfl | hu
   ·rfl
   ·rfl
   ·exact h4.one u hu
theorem SlC.mono {σ τ:S}{len:Nat}{A:Option Addr}{c:Nat}{cs:List Value}(h:SlC σ len A c cs)(k:Wext σ τ)(hn:0<len->cs≠[]):SlC τ len A c cs :=
 ⟨h.1,h.2.1,fun hl=>by obtain ⟨b,o,e,hs⟩:=h.2.2 hl; exact ⟨b,o,e,hs.mono (hn hl) k⟩⟩
theorem RVs.ne {σ:S}:∀ {xs:List Val} {cs:List Value},RVs σ xs cs->0<xs.length->cs≠[]
 | [],_,_,h=>by simp at h
 | x::xs,cs,h,_=>by
   simp only [RVs] at h
   obtain ⟨c,r,rfl,h1,_⟩:=h
   intro e
   have:=h1.len
   rw [List.append_eq_nil_iff] at e
   rw [e.1] at this
   simp at this
theorem REs.ne {σ:S}:∀ {xs:List Ent} {cs:List Value},REs σ xs cs->0<xs.length->cs≠[]
 | [],_,_,h=>by simp at h
 | x::xs,cs,h,_=>by
   simp only [REs] at h
   obtain ⟨c,r,rfl,h1,_⟩:=h
   intro e
   have:=h1.len
   rw [List.append_eq_nil_iff] at e
   rw [e.1] at this
   simp at this
mutual
theorem RV.mono {σ τ:S}(k:Wext σ τ):∀ {v:Val} {cs:List Value},RV σ v cs->RV τ v cs
 | .mk ..,cs,h=>by
   simp only [RV] at h ⊢
   obtain ⟨A1,c1,A2,c2,A3,c3,A4,c4,f1,f3,e,h1,h2,h3,h4,h5,h6⟩:=h
   exact ⟨A1,c1,A2,c2,A3,c3,A4,c4,f1,f3,e,h1.mono k h2.ne,RVs.mono k h2,h3.mono k,h4.mono k h5.ne,REs.mono k h5,h6.mono k⟩
theorem RVs.mono {σ τ:S}(k:Wext σ τ):∀ {v:List Val} {cs:List Value},RVs σ v cs->RVs τ v cs
 | [],cs,h=>by simp only [RVs] at h ⊢; exact h
 | x::xs,cs,h=>by
   simp only [RVs] at h ⊢
   obtain ⟨c,r,e,h1,h2⟩:=h
   exact ⟨c,r,e,RV.mono k h1,RVs.mono k h2⟩
theorem RE.mono {σ τ:S}(k:Wext σ τ):∀ {v:Ent} {cs:List Value},RE σ v cs->RE τ v cs
 | .mk ..,cs,h=>by
   simp only [RE] at h ⊢
   obtain ⟨A,c,f,r,e,h1,h2,h3⟩:=h
   exact ⟨A,c,f,r,e,h1.mono k h2.ne,RVs.mono k h2,RV.mono k h3⟩
theorem REs.mono {σ τ:S}(k:Wext σ τ):∀ {v:List Ent} {cs:List Value},REs σ v cs->REs τ v cs
 | [],cs,h=>by simp only [REs] at h ⊢; exact h
 | x::xs,cs,h=>by
   simp only [REs] at h ⊢
   obtain ⟨c,r,e,h1,h2⟩:=h
   exact ⟨c,r,e,RE.mono k h1,REs.mono k h2⟩
end
instance rpVal:Rp Val where
 sz:=7
 pos:=by decide
 agg:=true
 cells:=fun σ v cs=>RV σ v cs
 len:=RV.len
 one:=RV.one
 mono:=fun k h=>RV.mono k h
instance rpEnt:Rp Ent where
 sz:=9
 pos:=by decide
 agg:=true
 cells:=fun σ v cs=>RE σ v cs
 len:=RE.len
 one:=RE.one
 mono:=fun k h=>RE.mono k h
theorem RVs.flat {σ:S}:∀ {xs:List Val} {cs:List Value},RVs σ xs cs↔j9 σ xs cs
 | [],cs=>by simp only [RVs,j9]
 | x::xs,cs=>by
   simp only [RVs,j9]
   constructor
   ·rintro ⟨c,r,e,h1,h2⟩; exact ⟨c,r,e,h1,RVs.flat.1 h2⟩
   ·rintro ⟨c,r,e,h1,h2⟩; exact ⟨c,r,e,h1,RVs.flat.2 h2⟩
theorem REs.flat {σ:S}:∀ {xs:List Ent} {cs:List Value},REs σ xs cs↔j9 σ xs cs
 | [],cs=>by simp only [REs,j9]
 | x::xs,cs=>by
   simp only [REs,j9]
   constructor
   ·rintro ⟨c,r,e,h1,h2⟩; exact ⟨c,r,e,h1,REs.flat.1 h2⟩
   ·rintro ⟨c,r,e,h1,h2⟩; exact ⟨c,r,e,h1,REs.flat.2 h2⟩
theorem SlC.sl {α:Type} [Rp α] {σ:S}{xs:List α}{A:Option Addr}{c:Nat}{cs:List Value}(h:SlC σ xs.length A c cs)(hf:j9 σ xs cs):Sl σ xs A c :=
 ⟨h.1,h.2.1,cs,hf,fun hn=>h.2.2 (List.length_pos_iff.2 hn)⟩
theorem SlC.of {α:Type} [Rp α] {σ:S}{xs:List α}{A:Option Addr}{c:Nat}(h:Sl σ xs A c):∃ cs,SlC σ xs.length A c cs/\j9 σ xs cs:=by
 obtain ⟨h1,h2,cs,h3,h4⟩:=h
 exact ⟨cs,⟨h1,h2,fun hl=>h4 (List.length_pos_iff.1 hl)⟩,h3⟩
theorem Val.cells_iff {σ:S}{v:Val}{cs:List Value}:Rp.cells σ v cs↔∃ A1 c1 A2 c2 A3 c3 A4 c4,
 cs=[.int .i64 v.Kind,.int .i64 v.Int_,.string v.Text,.slice A1 v.Kids.length c1,.slice A2 v.Keys.length c2,.slice A3 v.Entries.length c3,.slice A4 v.Labels.length c4] /\
 Sl σ v.Kids A1 c1/\Sl σ v.Keys A2 c2/\Sl σ v.Entries A3 c3/\Sl σ v.Labels A4 c4:=by
 cases v with
 | mk k n t kids keys ents labs =>
   show RV σ _ cs↔_
   simp only [RV,Val.Kind,Val.Int_,Val.Text,Val.Kids,Val.Keys,Val.Entries,Val.Labels]
   constructor
   ·rintro ⟨A1,c1,A2,c2,A3,c3,A4,c4,f1,f3,e,h1,h2,h3,h4,h5,h6⟩
    exact ⟨A1,c1,A2,c2,A3,c3,A4,c4,e,h1.sl (RVs.flat.1 h2),h3,h4.sl (REs.flat.1 h5),h6⟩
   ·rintro ⟨A1,c1,A2,c2,A3,c3,A4,c4,e,h1,h3,h4,h6⟩
    obtain ⟨f1,k1,k2⟩:=SlC.of h1
    obtain ⟨f3,k4,k5⟩:=SlC.of h4
    exact ⟨A1,c1,A2,c2,A3,c3,A4,c4,f1,f3,e,k1,RVs.flat.2 k2,h3,k4,REs.flat.2 k5,h6⟩
theorem Ent.cells_iff {σ:S}{v:Ent}{cs:List Value}:Rp.cells σ v cs↔∃ A c A1 c1 A2 c2 A3 c3 A4 c4,
 cs=[.slice A v.Args.length c,.bool v.Fails,.int .i64 v.Result.Kind,.int .i64 v.Result.Int_,.string v.Result.Text,.slice A1 v.Result.Kids.length c1,.slice A2 v.Result.Keys.length c2,.slice A3 v.Result.Entries.length c3,.slice A4 v.Result.Labels.length c4] /\
 Sl σ v.Args A c/\Sl σ v.Result.Kids A1 c1/\Sl σ v.Result.Keys A2 c2/\Sl σ v.Result.Entries A3 c3/\Sl σ v.Result.Labels A4 c4:=by
 cases v with
 | mk args fails res =>
   show RE σ _ cs↔_
   simp only [RE,Ent.Args,Ent.Fails,Ent.Result]
   constructor
   ·rintro ⟨A,c,f,r,rfl,h1,h2,h3⟩
    obtain ⟨A1,c1,A2,c2,A3,c3,A4,c4,rfl,k1,k2,k3,k4⟩:=Val.cells_iff.1 h3
    exact ⟨A,c,A1,c1,A2,c2,A3,c3,A4,c4,rfl,h1.sl (RVs.flat.1 h2),k1,k2,k3,k4⟩
   ·rintro ⟨A,c,A1,c1,A2,c2,A3,c3,A4,c4,rfl,h1,k1,k2,k3,k4⟩
    obtain ⟨f,j1,j2⟩:=SlC.of h1
    exact ⟨A,c,f,_,rfl,j1,RVs.flat.2 j2,Val.cells_iff.2 ⟨A1,c1,A2,c2,A3,c3,A4,c4,rfl,k1,k2,k3,k4⟩⟩
theorem Key.cells_iff {σ:S}{v:Key}{cs:List Value}:Rp.cells σ v cs↔cs=[.int .i64 v.Kind,.string v.Text]:=Iff.rfl
end Go.Sx
end
section
namespace Go.Qx
open Go Go.RowKit Go.Sx
end Go.Qx
namespace Go.Sx
open Go Go.RowKit Go.Qx
abbrev Key.to (v:Key):Int×ByteArray:=(v.Kind,v.Text)
abbrev Key.of (x:Int×ByteArray):Key:=⟨x.1,x.2⟩
theorem Key.cells_to (σ:S)(v:Key)(cs:List Value):rpKey.cells σ v cs↔(k8 (rpK .i64) rpStr).cells σ v.to cs:=by
 constructor
 ·intro h
  have h:cs=[.int .i64 v.Kind,.string v.Text]:=h
  exact ⟨[_],[_],h,rfl,rfl⟩
 ·rintro ⟨c1,c2,e,rfl,rfl⟩
  exact e
abbrev Val.to (v:Val):Int×(Int×(ByteArray×(List Val×(List Key×(List Ent×List ByteArray))))):=(v.Kind,v.Int_,v.Text,v.Kids,v.Keys,v.Entries,v.Labels)
abbrev Val.of (x:Int×(Int×(ByteArray×(List Val×(List Key×(List Ent×List ByteArray)))))):Val:=.mk x.1 x.2.1 x.2.2.1 x.2.2.2.1 x.2.2.2.2.1 x.2.2.2.2.2.1 x.2.2.2.2.2.2
theorem Val.cells_to (σ:S)(v:Val)(cs:List Value):rpVal.cells σ v cs ↔
 (k8 (rpK .i64) (k8 (rpK .i64) (k8 rpStr (k8 (@rpList _ rpVal) (k8 (@rpList _ rpKey) (k8 (@rpList _ rpEnt) (@rpList _ rpStr))))))).cells σ v.to cs:=by
 refine Val.cells_iff.trans ?_
 constructor
 ·rintro ⟨A1,c1,A2,c2,A3,c3,A4,c4,e,h1,h2,h3,h4⟩
  exact ⟨[_],_,e,rfl,[_],_,rfl,rfl,[_],_,rfl,rfl,[_],_,rfl,⟨A1,c1,rfl,h1⟩,[_],_,rfl,⟨A2,c2,rfl,h2⟩,[_],_,rfl,⟨A3,c3,rfl,h3⟩,A4,c4,rfl,h4⟩
 ·rintro ⟨_,_,rfl,rfl,_,_,rfl,rfl,_,_,rfl,rfl,_,_,rfl,⟨A1,c1,rfl,h1⟩,_,_,rfl,⟨A2,c2,rfl,h2⟩,_,_,rfl,⟨A3,c3,rfl,h3⟩,A4,c4,rfl,h4⟩
  exact ⟨A1,c1,A2,c2,A3,c3,A4,c4,rfl,h1,h2,h3,h4⟩
abbrev Ent.to (v:Ent):List Val×(Bool×Val):=(v.Args,v.Fails,v.Result)
abbrev Ent.of (x:List Val×(Bool×Val)):Ent:=.mk x.1 x.2.1 x.2.2
theorem Ent.cells_to (σ:S)(v:Ent)(cs:List Value):rpEnt.cells σ v cs↔(k8 (@rpList _ rpVal) (k8 rpBool rpVal)).cells σ v.to cs:=by
 cases v with
 | mk args fails res =>
   constructor
   ·intro h
    have h:RE σ (.mk args fails res) cs:=h
    simp only [RE] at h
    obtain ⟨A,c,f,r,rfl,h1,h2,h3⟩:=h
    exact ⟨[_],_,rfl,⟨A,c,rfl,h1.sl (RVs.flat.1 h2)⟩,[_],_,rfl,rfl,h3⟩
   ·rintro ⟨_,_,rfl,⟨A,c,rfl,h1⟩,_,r,rfl,rfl,h2⟩
    show RE σ (.mk args fails res) _
    simp only [RE]
    obtain ⟨f,j1,j2⟩:=SlC.of h1
    exact ⟨A,c,f,r,rfl,j1,RVs.flat.2 j2,h2⟩
end Go.Sx
end
section
namespace Go.Qx
open Go Go.RowKit Go.Sx
section
variable {I:TypeId->Type} [∀ E,Rp (I E)] {P:Program}
end
end Go.Qx
end
section
namespace Go.Qx
open Go Go.RowKit Go.Sx
def cst (c:BitVec 32):BitVec 32:=(c >>> 1) ^^^ (if c.getLsbD 0=true then 0x82f63b78#32 else 0#32)
def a0q:Nat->BitVec 32->BitVec 32
 | 0,c=>c
 | n+1,c=>a0q n (cst c)
theorem b1d (a b:BitVec 32):cst (a ^^^ b)=cst a ^^^ cst b:=by
 unfold cst
 rw [BitVec.ushiftRight_xor_distrib,BitVec.getLsbD_xor]
 generalize a >>> 1=x
 generalize b >>> 1=y
 generalize (0x82f63b78#32)=z
 cases a.getLsbD 0<;>cases b.getLsbD 0
 ·simp
 ·simp [BitVec.xor_assoc]
 ·simp only [Bool.bne_false,Bool.xor_false,if_true,Bool.false_eq_true,if_false,BitVec.xor_zero]
  rw [BitVec.xor_assoc,BitVec.xor_comm y z,<- BitVec.xor_assoc]
 ·simp only [Bool.xor_self,Bool.false_eq_true,if_false,if_true,BitVec.xor_zero]
  rw [BitVec.xor_assoc,<- BitVec.xor_assoc z y z,BitVec.xor_comm z y,BitVec.xor_assoc y z z,BitVec.xor_self,BitVec.xor_zero]
theorem a7B:∀ (n:Nat) (a b:BitVec 32),a0q n (a ^^^ b)=a0q n a ^^^ a0q n b
 | 0,_,_=>rfl
 | n+1,a,b=>by simp only [a0q,b1d,a7B n]
theorem a49 {c:BitVec 32}(h:c.getLsbD 0=false):cst c=c >>> 1:=by
 unfold cst
 rw [h]
 simp
theorem a5I:∀ (n:Nat) (c:BitVec 32),(∀ i,i<n->c.getLsbD i=false)->a0q n c=c >>> n
 | 0,c,_=>by simp [a0q]
 | n+1,c,h=>by
   simp only [a0q]
   rw [a49 (h 0 (by omega)),a5I n (c >>> 1) fun i hi=>by
    rw [BitVec.getLsbD_ushiftRight]
    exact h (1+i) (by omega)]
   rw [<- BitVec.shiftRight_add,Nat.add_comm]
theorem b0z (c:BitVec 32):c=((c >>> 8) <<< 8) ^^^ (c &&& 0xff#32):=by
 apply BitVec.eq_of_getLsbD_eq
 intro i hi
 have h255:(0xff#32).getLsbD i=decide (i<8):=by
  have:∀ j,j<32->(0xff#32).getLsbD j=decide (j<8):=by decide
  exact this i hi
 rw [BitVec.getLsbD_xor,BitVec.getLsbD_and,h255,BitVec.getLsbD_shiftLeft,BitVec.getLsbD_ushiftRight]
 by_cases h8:i<8
 ·simp [hi,h8]
 ·have e:8+(i-8)=i:=by omega
  simp [hi,h8,e]
theorem b2U (c:BitVec 32):a0q 8 c=(c >>> 8) ^^^ a0q 8 (c &&& 0xff#32):=by
 conv=>lhs; rw [b0z c]
 rw [a7B]
 congr 1
 rw [a5I 8 _ fun i hi=>by
  rw [BitVec.getLsbD_shiftLeft]
  simp [hi]]
 apply BitVec.eq_of_getLsbD_eq
 intro i hi
 rw [BitVec.getLsbD_ushiftRight,BitVec.getLsbD_shiftLeft,BitVec.getLsbD_ushiftRight,BitVec.getLsbD_ushiftRight]
 by_cases h:8+i<32
 ·have e:8+(8+i-8)=8+i:=by omega
  simp [h,e]
 ·have e:c.getLsbD (8+i)=false:=BitVec.getLsbD_of_ge _ _ (by omega)
  simp [e,h]
theorem a9y (r:BitVec 32)(b:BitVec 32)(hb:b &&& 0xff#32=b):a0q 8 (r ^^^ b)=(r >>> 8) ^^^ a0q 8 ((r &&& 0xff#32) ^^^ b):=by
 rw [b2U (r ^^^ b)]
 have h1:(r ^^^ b) >>> 8=r >>> 8:=by
  rw [BitVec.ushiftRight_xor_distrib]
  have:b >>> 8=0#32:=by
   rw [<- hb]
   apply BitVec.eq_of_getLsbD_eq
   intro i hi
   have h255:∀ j,(0xff#32).getLsbD (8+j)=false:=fun j=>by
    by_cases hj:8+j<32
    ·have:∀ j,j<32->(0xff#32).getLsbD j=decide (j<8):=by decide
     rw [this _ hj]
     simp
    ·exact BitVec.getLsbD_of_ge _ _ (by omega)
   rw [BitVec.getLsbD_ushiftRight,BitVec.getLsbD_and,h255]
   simp
  rw [this,BitVec.xor_zero]
 have h2:(r ^^^ b) &&& 0xff#32=(r &&& 0xff#32) ^^^ b:=by
  conv=>rhs; rw [<- hb]
  apply BitVec.eq_of_getLsbD_eq
  intro i hi
  simp only [BitVec.getLsbD_and,BitVec.getLsbD_xor]
  cases r.getLsbD i<;>cases b.getLsbD i<;>cases (0xff#32).getLsbD i<;>rfl
 rw [h1,h2]
def nB (v:BitVec 32):Int:=(v.toNat:Int)
theorem a7E (v:BitVec 32):IntKind.wrap .u32 (v.toNat:Int)=nB v:=by
 show ((v.toNat:Int))%4294967296=nB v
 have:=v.isLt
 unfold nB
 omega
theorem a5W (v:BitVec 32):BitVec.ofInt 32 (nB v)=v:=by
 apply BitVec.eq_of_toNat_eq
 unfold nB
 rw [BitVec.toNat_ofInt]
 have:=v.isLt
 omega
theorem a7d (a b:BitVec 32):a0V .u32 (nB a) (nB b)=nB (a ^^^ b):=by
 show IntKind.wrap .u32 (((BitVec.ofInt 32 (nB a) ^^^ BitVec.ofInt 32 (nB b)).toNat:Nat):Int)=_
 rw [a5W,a5W,a7E]
theorem b0M (a b:BitVec 32):a3S .u32 (nB a) (nB b)=nB (a &&& b):=by
 show IntKind.wrap .u32 (((BitVec.ofInt 32 (nB a) &&& BitVec.ofInt 32 (nB b)).toNat:Nat):Int)=_
 rw [a5W,a5W,a7E]
theorem a3A (a:BitVec 32)(k:Nat)(hk:k<=32):W0 .u32 (nB a) (k:Int)=some (nB (a >>> k)):=by
 unfold W0 nB
 rw [if_neg (by omega)]
 congr 1
 rw [BitVec.toNat_ushiftRight,Nat.shiftRight_eq_div_pow]
 have:min ((k:Int)).toNat (IntKind.bits .u32)=k:=by
  show min ((k:Int)).toNat 32=k
  omega
 rw [this]
 have hp:((2:Int)^k)=((2^k:Nat):Int):=by simp
 rw [hp,Int.natCast_ediv]
 exact Int.fdiv_eq_ediv_of_nonneg _ (Int.natCast_nonneg _)
theorem b0Q (a:BitVec 32):cpl .u32 (nB a)=nB (~~~a):=by
 show IntKind.wrap .u32 (((BitVec.ofInt 32 (4294967295:Int) ^^^ BitVec.ofInt 32 (nB a)).toNat:Nat):Int)=_
 rw [a5W]
 have:BitVec.ofInt 32 (4294967295:Int)=BitVec.allOnes 32:=by decide
 rw [this,BitVec.allOnes_xor,a7E]
theorem a8t (a:BitVec 32):(nB (a &&& 1#32)==1)=a.getLsbD 0:=by
 have h:(a &&& 1#32).toNat=a.toNat%2:=by
  rw [BitVec.toNat_and]
  exact Nat.and_one_is_mod _
 unfold nB
 rw [h,BitVec.getLsbD,Nat.testBit_zero]
 have:=Nat.mod_two_eq_zero_or_one a.toNat
 rcases this with h | h<;>simp [h]
def b32 (b:UInt8):BitVec 32:=BitVec.ofNat 32 b.toNat
def a3l (r:BitVec 32)(b:UInt8):BitVec 32:=a0q 8 (r ^^^ b32 b)
def a2f:List UInt8->BitVec 32->BitVec 32
 | [],r=>r
 | b::l,r=>a2f l (a3l r b)
def a2X (s:ByteArray):Int:=nB (~~~ (a2f s.data.toList (BitVec.allOnes 32)))
def a3F (s:ByteArray):Option Int:=bif Nat.ble s.size 1000000 then some (a2X s) else none
def tb8 (j:Nat):BitVec 32:=a0q 8 (BitVec.ofNat 32 j)
theorem b1a (b:UInt8):b32 b &&& 0xff#32=b32 b:=by
 apply BitVec.eq_of_toNat_eq
 have hb:b.toNat<256:=b.toNat_lt
 unfold b32
 rw [BitVec.toNat_and,BitVec.toNat_ofNat,BitVec.toNat_ofNat,Nat.mod_eq_of_lt (show b.toNat<2^32 by omega)]
 show b.toNat &&& 255=b.toNat
 have:=Nat.and_two_pow_sub_one_eq_mod b.toNat 8
 rw [show (2:Nat)^8-1=255 from rfl] at this
 rw [this]
 omega
def ix8 (r:BitVec 32)(b:UInt8):Nat:=(r.toNat%256) ^^^ b.toNat
theorem a4u (r:BitVec 32)(b:UInt8):ix8 r b<256:=by
 have hb:b.toNat<256:=b.toNat_lt
 exact Nat.xor_lt_two_pow (n:=8) (by omega) hb
theorem b1F (r:BitVec 32)(b:UInt8):BitVec.ofNat 32 (ix8 r b)=(r &&& 0xff#32) ^^^ b32 b:=by
 apply BitVec.eq_of_toNat_eq
 have hl:=a4u r b
 have hb:b.toNat<256:=b.toNat_lt
 unfold b32
 have e2:(BitVec.ofNat 32 b.toNat).toNat=b.toNat:=by rw [BitVec.toNat_ofNat]; omega
 rw [BitVec.toNat_ofNat,Nat.mod_eq_of_lt (show ix8 r b<2^32 by omega),BitVec.toNat_xor,BitVec.toNat_and,e2]
 have:=Nat.and_two_pow_sub_one_eq_mod r.toNat 8
 rw [show (2:Nat)^8-1=255 from rfl] at this
 show _=(r.toNat &&& 255) ^^^ b.toNat
 rw [this]
 rfl
theorem b0F (r:BitVec 32)(b:UInt8):a3l r b=(r >>> 8) ^^^ tb8 (ix8 r b):=by
 unfold a3l tb8
 rw [a9y r _ (b1a b),b1F]
theorem b2R (r:BitVec 32)(b:UInt8):a0V .u8 (wr .u8 (nB r)) (b.toNat:Int)=Int.ofNat (ix8 r b):=by
 have hb:b.toNat<256:=b.toNat_lt
 have h1:BitVec.ofInt 8 (wr .u8 (nB r))=BitVec.ofNat 8 (r.toNat%256):=by
  apply BitVec.eq_of_toNat_eq
  have e:wr .u8 (nB r)=((r.toNat%256:Nat):Int):=by
   show nB r%256=_
   unfold nB
   omega
  rw [e,BitVec.toNat_ofInt,BitVec.toNat_ofNat]
  omega
 have h2:BitVec.ofInt 8 (b.toNat:Int)=BitVec.ofNat 8 b.toNat:=by
  apply BitVec.eq_of_toNat_eq
  rw [BitVec.toNat_ofInt,BitVec.toNat_ofNat]
  omega
 show IntKind.wrap .u8 (((BitVec.ofInt 8 (wr .u8 (nB r)) ^^^ BitVec.ofInt 8 (b.toNat:Int)).toNat:Nat):Int)=_
 rw [h1,h2,BitVec.toNat_xor,BitVec.toNat_ofNat,BitVec.toNat_ofNat,Nat.mod_eq_of_lt (show r.toNat%256<2^8 by omega),Nat.mod_eq_of_lt (show b.toNat<2^8 by omega)]
 have hl:=a4u r b
 show ((ix8 r b:Nat):Int)%256=_
 rw [Int.ofNat_eq_natCast]
 omega
end Go.Qx
end
section
namespace Go.Qx
open Go Go.RowKit Go.Sx
set_option maxRecDepth 100000
structure Api_Ref where
 Name:ByteArray
 Arity:Int
structure Api_Field where
 Key_:Key
 Node:Int
 Optional:Bool
structure Api_TypeNode where
 Kind:Int
 Lo:Int
 Hi:Int
 Text:ByteArray
 Kids:List Int
 Fields:List Api_Field
 Rest:Int×Int
structure Api_Type where
 Nodes:List Api_TypeNode
 Root:Int
structure Api_Signature where
 Ref:Api_Ref
 Type_:Api_Type
structure Api_Interface where
 Module:ByteArray
 Checked:Bool
 Signatures:List Api_Signature
structure Summary_writer where
 b:List Int
structure Summary_reader where
 s:ByteArray
 at_:Int
 code:Int
def Q5 (s:ByteArray):Option ByteArray :=
 Option.bind (a3F s) fun r1 =>
 Option.bind (W0 .u32 r1 8) fun d2 =>
 Option.bind (W0 .u32 r1 16) fun d3 =>
 Option.bind (W0 .u32 r1 24) fun d4 =>
 Option.bind (a0v s (a6q ([wr .u8 r1,wr .u8 d2,wr .u8 d3,wr .u8 d4]:List Int))) fun t5 =>
 some t5
def Q6 (s:ByteArray):Option (ByteArray×Int) :=
 bif decide ((s.size:Int)<4)
 then (some ((⟨#[]⟩:ByteArray),26))
 else (Option.bind (a1j s 0 (wr .i64 ((s.size:Int)-4))) fun t1 =>
 Option.bind (Q5 t1) fun r2 =>
 bif !(Y3 r2 s)
 then (some ((⟨#[]⟩:ByteArray),25))
 else (some (t1,0)))
def K6 (x3:Int×Int):Option (Fl (Int×Int) Int) :=
 bif decide (x3.2<8)
 then (Option.bind (Option.bind (W0 .u32 x3.1 1) fun d4 =>
 bif (a3S .u32 x3.1 1)==1
 then (some (a0V .u32 d4 2197175160))
 else (some d4)) fun b5 =>
 some (.next (b5,wr .i64 (x3.2+1))))
 else (some (.done x3.1))
def Q0 (s:ByteArray)(x1:Int×Int):Option (Fl (Int×Int) Int) :=
 bif decide (x1.2<(s.size:Int))
 then (Option.bind (a2k s x1.2) fun e2 =>
 Option.bind (Q4 K6 ((8:Int).toNat+1) (a0V .u32 x1.1 (wr .u32 (e2.toNat:Int)),0)) fun b6 =>
 some (.next (b6,wr .i64 (x1.2+1))))
 else (some (.done x1.1))
def K2 (s:ByteArray):Option Int :=
 Option.bind (Q4 (Q0 s) ((s.size:Int).toNat+1) (4294967295,0)) fun b7 =>
 some (cpl .u32 b7)
def J1 (s:ByteArray):Option ByteArray :=
 Option.bind (K2 s) fun r1 =>
 Option.bind (W0 .u32 r1 8) fun d2 =>
 Option.bind (W0 .u32 r1 16) fun d3 =>
 Option.bind (W0 .u32 r1 24) fun d4 =>
 Option.bind (a0v s (a6q ([wr .u8 r1,wr .u8 d2,wr .u8 d3,wr .u8 d4]:List Int))) fun t5 =>
 some t5
def V8 (s:ByteArray):Option (ByteArray×Int) :=
 bif decide ((wr .i64 ((s.size:Int)-4))<0)
 then (some ((⟨#[]⟩:ByteArray),26))
 else (Option.bind (a1j s 0 (wr .i64 ((s.size:Int)-4))) fun t1 =>
 Option.bind (J1 t1) fun r2 =>
 bif !(Y3 r2 s)
 then (some ((⟨#[]⟩:ByteArray),25))
 else (Option.bind (a1j s 0 (wr .i64 ((s.size:Int)-4))) fun t3 =>
 some (t3,0)))
def a5X (s:ByteArray)(other:Int->Option Bool)(x5:Int):Option (Fl Int (Sum Unit Bool)) :=
 bif decide (x5<(s.size:Int))
 then (Option.bind (a2k s x5) fun e6 =>
 Option.bind (other (e6.toNat:Int)) fun r7 =>
 bif !r7
 then (some (.done (.inr false)))
 else (some (.next (wr .i64 (x5+1)))))
 else (some (.done (.inl ())))
def a4l (s:ByteArray)(first:Int->Option Bool)(other:Int->Option Bool):Option Bool :=
 Option.bind (bif decide ((s.size:Int)<1)
 then (some true)
 else (some (decide (16<(s.size:Int))))) fun q1 =>
 Option.bind (bif q1
 then (some true)
 else (Option.bind (a2k s 0) fun e2 =>
 Option.bind (first (e2.toNat:Int)) fun r3 =>
 some (!r3))) fun q4 =>
 bif q4
 then (some false)
 else (Option.bind (Q4 (a5X s other) ((s.size:Int).toNat+1) 1) fun b8 =>
 a4J (fun _ =>
 some true) (fun y10 =>
 some y10) b8)
def a1E (c:Int):Option Bool :=
 Option.bind (bif decide (97<=c)
 then (some (decide (c<=122)))
 else (some false)) fun q1 =>
 some q1
def a3K (c:Int):Option Bool :=
 Option.bind (bif decide (48<=c)
 then (some (decide (c<=57)))
 else (some false)) fun q1 =>
 some q1
def a29 (c:Int):Option Bool :=
 Option.bind (a1E c) fun r1 =>
 Option.bind (bif r1
 then (some true)
 else (Option.bind (a3K c) fun r2 =>
 some r2)) fun q3 =>
 Option.bind (bif q3
 then (some true)
 else (some (c==95))) fun q4 =>
 some q4
def a4g (s:ByteArray):Option Bool :=
 Option.bind (a4l s (fun z1 =>
 Option.bind (a1E z1) fun r2 =>
 some r2) (fun z3 =>
 Option.bind (a29 z3) fun r4 =>
 some r4)) fun r5 =>
 some r5
def a3c (s:ByteArray):Option Bool :=
 some ((a1i (k9 (k9 (k9 (k9 (k9 (k9 (k9 (k9 (k9 (k9 (k9 (k9 (k9 (k9 (k9 (k9 (k9 (k9 (k9 (k9 (k9 (k9 (k9 (k9 (k9 (k9 (k9 (k9 ([]:List (ByteArray×Bool)) (⟨#[109,111,100,117,108,101]⟩:ByteArray) true) (⟨#[105,109,112,111,114,116]⟩:ByteArray) true) (⟨#[101,120,112,111,114,116]⟩:ByteArray) true) (⟨#[115,105,103]⟩:ByteArray) true) (⟨#[119,104,101,110]⟩:ByteArray) true) (⟨#[99,97,115,101]⟩:ByteArray) true) (⟨#[111,102]⟩:ByteArray) true) (⟨#[101,110,100]⟩:ByteArray) true) (⟨#[116,114,121]⟩:ByteArray) true) (⟨#[99,97,116,99,104]⟩:ByteArray) true) (⟨#[114,97,105,115,101]⟩:ByteArray) true) (⟨#[97,115,115,101,114,116]⟩:ByteArray) true) (⟨#[115,112,97,119,110]⟩:ByteArray) true) (⟨#[115,101,108,102]⟩:ByteArray) true) (⟨#[115,101,110,100]⟩:ByteArray) true) (⟨#[114,101,99,101,105,118,101]⟩:ByteArray) true) (⟨#[97,102,116,101,114]⟩:ByteArray) true) (⟨#[108,101,116]⟩:ByteArray) true) (⟨#[105,110]⟩:ByteArray) true) (⟨#[102,117,110]⟩:ByteArray) true) (⟨#[97,112,112,108,121]⟩:ByteArray) true) (⟨#[112,117,116]⟩:ByteArray) true) (⟨#[103,101,116]⟩:ByteArray) true) (⟨#[97,110,100]⟩:ByteArray) true) (⟨#[111,114]⟩:ByteArray) true) (⟨#[110,111,116]⟩:ByteArray) true) (⟨#[100,105,118]⟩:ByteArray) true) (⟨#[114,101,109]⟩:ByteArray) true) s).getD false)
def a3y (s:ByteArray):Option Bool :=
 Option.bind (a4g s) fun r1 =>
 Option.bind (bif r1
 then (Option.bind (a3c s) fun r2 =>
 some (!r2))
 else (some false)) fun q3 =>
 some q3
def a0G (x:ByteArray):Option Bool :=
 some (!(Y3 x x))
def a1v (x:ByteArray)(y:ByteArray):Option Int :=
 Option.bind (a0G x) fun r1 =>
 Option.bind (a0G y) fun r2 =>
 bif r1
 then (bif r2
 then (some 0)
 else (some (-1)))
 else (bif r2
 then (some 1)
 else (bif a0a x y
 then (some (-1))
 else (bif !(a0a x y||Y3 x y)
 then (some 1)
 else (some 0))))
def a1y (x:Int):Option Bool :=
 some (x != x)
def a2B (x:Int)(y:Int):Option Int :=
 Option.bind (a1y x) fun r1 =>
 Option.bind (a1y y) fun r2 =>
 bif r1
 then (bif r2
 then (some 0)
 else (some (-1)))
 else (bif r2
 then (some 1)
 else (bif decide (x<y)
 then (some (-1))
 else (bif decide (y<x)
 then (some 1)
 else (some 0))))
def a65 (vals:List Int)(x1:Int):Option (Fl Int (Sum Unit Int)) :=
 bif decide (x1<(vals.length:Int))
 then (Option.bind (idx vals x1) fun e2 =>
 bif e2 != 0
 then (some (.done (.inr e2)))
 else (some (.next (wr .i64 (x1+1)))))
 else (some (.done (.inl ())))
def a5J (vals:List Int):Option Int :=
 Option.bind (Q4 (a65 vals) ((vals.length:Int).toNat+1) 0) fun b3 =>
 a4J (fun _ =>
 some 0) (fun y5 =>
 some y5) b3
def a4c (a:Api_Signature)(b:Api_Signature):Option Int :=
 Option.bind (a1v a.Ref.Name b.Ref.Name) fun r1 =>
 Option.bind (a2B a.Ref.Arity b.Ref.Arity) fun r2 =>
 Option.bind (a5J ([r1,r2]:List Int)) fun r3 =>
 some r3
def a60 (d:Api_Interface)(x3:Int):Option (Fl Int (Sum Unit Bool)) :=
 bif decide (x3<(d.Signatures.length:Int))
 then (Option.bind (idx d.Signatures x3) fun e4 =>
 Option.bind (a3y e4.Ref.Name) fun r5 =>
 Option.bind (bif !r5
 then (some true)
 else (some (decide (e4.Ref.Arity<0)))) fun q6 =>
 Option.bind (bif q6
 then (some true)
 else (some (decide (4<e4.Ref.Arity)))) fun q7 =>
 Option.bind (bif q7
 then (some true)
 else (none)) fun q8 =>
 bif q8
 then (some (.done (.inr false)))
 else (Option.bind (bif decide (0<x3)
 then (Option.bind (idx d.Signatures (wr .i64 (x3-1))) fun e9 =>
 Option.bind (a4c e9 e4) fun r10 =>
 some (decide (0<=r10)))
 else (some false)) fun q11 =>
 Option.bind (bif q11
 then (some true)
 else (Option.bind (bif !d.Checked
 then (none)
 else (some false)) fun q12 =>
 some q12)) fun q13 =>
 bif q13
 then (some (.done (.inr false)))
 else (some (.next (wr .i64 (x3+1))))))
 else (some (.done (.inl ())))
def a3x (d:Api_Interface):Option Bool :=
 Option.bind (a3y d.Module) fun r1 =>
 Option.bind (bif !r1
 then (some true)
 else (some (decide (10<(d.Signatures.length:Int))))) fun q2 =>
 bif q2
 then (some false)
 else (Option.bind (Q4 (a60 d) ((d.Signatures.length:Int).toNat+1) 0) fun b14 =>
 a4J (fun _ =>
 some true) (fun y16 =>
 some y16) b14)
def a1S (x3:Int×(List Int)):Option (Fl (Int×(List Int)) (Int×(List Int))) :=
 bif decide (128<=x3.1)
 then (Option.bind (a2L (x3.2.length+([bOr .u8 (wr .u8 x3.1) 128]:List Int).length) 1) fun _ =>
 Option.bind (W0 .u64 x3.1 7) fun d5 =>
 some (.next (d5,x3.2++([bOr .u8 (wr .u8 x3.1) 128]:List Int))))
 else (some (.done (x3.1,x3.2)))
def V4 (w:List Int)(n_1:Int):Option (List Int) :=
 Option.bind (a6n .u64 (wr .u64 n_1) 1) fun d1 =>
 Option.bind (W0 .i64 n_1 63) fun d2 =>
 Option.bind (Q4 a1S ((a0V .u64 d1 (wr .u64 d2)).toNat+2) (a0V .u64 d1 (wr .u64 d2),w)) fun b6 =>
 Option.bind (a2L (b6.2.length+([wr .u8 b6.1]:List Int).length) 1) fun _ =>
 some (b6.2++([wr .u8 b6.1]:List Int))
def a05 (w:List Int)(s:ByteArray):Option (List Int) :=
 Option.bind (V4 w (s.size:Int)) fun r1 =>
 Option.bind (a2L (r1.length+(b19 s).length) 1) fun _ =>
 some (r1++(b19 s))
def a0U (w:List Int)(ok:Bool):Option (List Int) :=
 bif ok
 then (Option.bind (a2L (w.length+([1]:List Int).length) 1) fun _ =>
 some (w++([1]:List Int)))
 else (Option.bind (a2L (w.length+([0]:List Int).length) 1) fun _ =>
 some (w++([0]:List Int)))
def a00 (l:List Api_Signature)(x2:Int):Option (Fl Int Unit) :=
 bif decide (x2<(l.length:Int))
 then (Option.bind (idx l x2) fun _ =>
 none)
 else (some (.done ()))
def X7 (w:List Int)(l:List Api_Signature)(_:Unit):Option (List Int) :=
 Option.bind (V4 w (l.length:Int)) fun r1 =>
 Option.bind (Q4 (a00 l) ((l.length:Int).toNat+1) 0) fun _ =>
 some r1
def a03 (w:List Int)(i:Api_Interface):Option (List Int) :=
 Option.bind (a05 w i.Module) fun r1 =>
 Option.bind (a0U r1 i.Checked) fun r2 =>
 Option.bind (X7 r2 i.Signatures ()) fun r3 =>
 some r3
def a26 (i:Api_Interface):Option (ByteArray×Int) :=
 Option.bind (a3x i) fun r1 =>
 bif !r1
 then (some ((⟨#[]⟩:ByteArray),1))
 else (Option.bind (a03 ([]) i) fun r2 =>
 Option.bind (Q5 (a6q r2)) fun r3 =>
 some (r3,0))
def w8 (r:Summary_reader)(code:Int):Option Summary_reader :=
 bif r.code==0
 then (some (Summary_reader.mk r.s r.at_ code))
 else (some r)
def X9 (r:Summary_reader):Option (Int×Summary_reader) :=
 Option.bind (bif r.code != 0
 then (some true)
 else (some (decide ((r.s.size:Int)<=r.at_)))) fun q1 =>
 bif q1
 then (Option.bind (w8 r 26) fun r2 =>
 some (0,r2))
 else (Option.bind (a2k r.s (wr .i64 ((wr .i64 (r.at_+1))-1))) fun e3 =>
 some ((e3.toNat:Int),Summary_reader.mk r.s (wr .i64 (r.at_+1)) r.code))
def a1K (x1:Int×Int×Summary_reader):Option (Fl (Int×Int×Summary_reader) (Int×Summary_reader)) :=
 Option.bind (X9 x1.2.2) fun r2 =>
 Option.bind (bif x1.2.1==63
 then (some (decide (1<r2.1)))
 else (some false)) fun q3 =>
 Option.bind (bif q3
 then (some true)
 else (Option.bind (bif decide (0<x1.2.1)
 then (some (r2.1==0))
 else (some false)) fun q4 =>
 some q4)) fun q5 =>
 Option.bind (bif q5
 then (Option.bind (w8 r2.2 5) fun r6 =>
 some r6)
 else (some r2.2)) fun b7 =>
 bif b7.code != 0
 then (some (.done (0,b7)))
 else (Option.bind (a6n .u64 (wr .u64 (a3S .u8 r2.1 127)) x1.2.1) fun d8 =>
 bif decide (r2.1<128)
 then (Option.bind (W0 .u64 (bOr .u64 x1.1 d8) 1) fun d9 =>
 some (.done (a0V .i64 (wr .i64 d9) (wr .i64 (0-(wr .i64 (a3S .u64 (bOr .u64 x1.1 d8) 1)))),b7)))
 else (some (.next (bOr .u64 x1.1 d8,wr .i64 (x1.2.1+7),b7))))
def a0A (n:Nat)(r:Summary_reader):Option (Int×Summary_reader) :=
 Option.bind (Q4 a1K n (0,0,r)) fun b10 =>
 some (b10.1,b10.2)
def a0M (n:Nat)(r:Summary_reader):Option (Int×Summary_reader) :=
 Option.bind (a0A n r) fun r1 =>
 some (r1.1,r1.2)
def W1 (n:Nat)(r:Summary_reader):Option (Int×Summary_reader) :=
 Option.bind (a0M n r) fun r1 =>
 Option.bind (bif decide (r1.1<0)
 then (Option.bind (w8 r1.2 5) fun r2 =>
 some r2)
 else (some r1.2)) fun b3 =>
 bif b3.code != 0
 then (some (0,b3))
 else (some (r1.1,b3))
def a06 (n:Nat)(r:Summary_reader):Option (ByteArray×Summary_reader) :=
 Option.bind (W1 n r) fun r1 =>
 bif decide ((wr .i64 ((r1.2.s.size:Int)-r1.2.at_))<r1.1)
 then (Option.bind (w8 r1.2 26) fun r2 =>
 some ((⟨#[]⟩:ByteArray),r2))
 else (Option.bind (a1j r1.2.s (wr .i64 ((wr .i64 (r1.2.at_+r1.1))-r1.1)) (wr .i64 (r1.2.at_+r1.1))) fun t3 =>
 some (t3,Summary_reader.mk r1.2.s (wr .i64 (r1.2.at_+r1.1)) r1.2.code))
def a0T (r:Summary_reader):Option (Bool×Summary_reader) :=
 Option.bind (X9 r) fun r1 =>
 Option.bind (bif decide (1<r1.1)
 then (Option.bind (w8 r1.2 5) fun r2 =>
 some r2)
 else (some r1.2)) fun b3 =>
 some (r1.1==1,b3)
def a0w (r1:Int×Summary_reader)(x2:(List Api_Signature)×Int):Option (Fl ((List Api_Signature)×Int) (List Api_Signature)) :=
 Option.bind (bif decide (0<x2.2)
 then (some (r1.2.code==0))
 else (some false)) fun q3 =>
 bif q3
 then (none)
 else (some (.done x2.1))
def V3 (n:Nat)(r:Summary_reader)(_:Unit):Option ((List Api_Signature)×Summary_reader) :=
 Option.bind (W1 n r) fun r1 =>
 Option.bind (Q4 (a0w r1) (r1.1.toNat+2) ([],r1.1)) fun b4 =>
 some (b4,r1.2)
def a04 (n:Nat)(r:Summary_reader):Option (Api_Interface×Summary_reader) :=
 Option.bind (a06 n r) fun r1 =>
 Option.bind (a0T r1.2) fun r2 =>
 Option.bind (V3 n r2.2 ()) fun r3 =>
 some (Api_Interface.mk r1.1 r2.1 r3.1,r3.2)
def a02 (r:Summary_reader):Option (Int×Summary_reader) :=
 Option.bind (bif decide (r.at_<(r.s.size:Int))
 then (Option.bind (w8 r 5) fun r1 =>
 some r1)
 else (some r)) fun b2 =>
 some (b2.code,b2)
def a25 (n:Nat)(s:ByteArray):Option (Api_Interface×Int) :=
 Option.bind (Q6 s) fun r1 =>
 bif r1.2 != 0
 then (some (Api_Interface.mk (⟨#[]⟩:ByteArray) false ([]:List Api_Signature),r1.2))
 else (Option.bind (a04 n (Summary_reader.mk r1.1 0 0)) fun r2 =>
 Option.bind (a02 r2.2) fun r3 =>
 bif r3.1 != 0
 then (some (Api_Interface.mk (⟨#[]⟩:ByteArray) false ([]:List Api_Signature),r3.1))
 else (Option.bind (a3x r2.1) fun r4 =>
 bif !r4
 then (some (Api_Interface.mk (⟨#[]⟩:ByteArray) false ([]:List Api_Signature),1))
 else (some (r2.1,0))))
def a0c (n:Nat):Option Bool :=
 Option.bind (a26 (Api_Interface.mk (⟨#[109]⟩:ByteArray) true ([]:List Api_Signature))) fun r1 =>
 Option.bind (a25 n r1.1) fun r2 =>
 Option.bind (a3F (⟨#[49,50,51,52,53,54,55,56,57]⟩:ByteArray)) fun r3 =>
 Option.bind (bif r3==3808858755
 then (some (r1.2==0))
 else (some false)) fun q4 =>
 Option.bind (bif q4
 then (some ((r1.1.size:Int)==8))
 else (some false)) fun q5 =>
 Option.bind (bif q5
 then (some (r2.2==0))
 else (some false)) fun q6 =>
 Option.bind (bif q6
 then (some (Y3 r2.1.Module (⟨#[109]⟩:ByteArray)))
 else (some false)) fun q7 =>
 Option.bind (bif q7
 then (some r2.1.Checked)
 else (some false)) fun q8 =>
 some q8
def Y8 (n:Nat)(d:ByteArray)(t:ByteArray)(_:Int)(_:Int):Option Bool :=
 Option.bind (a1j d 0 (min (d.size:Int) 200)) fun t1 =>
 Option.bind (a1j t 0 (min (t.size:Int) 200)) fun t2 =>
 Option.bind (Q5 t1) fun r3 =>
 Option.bind (Q6 r3) fun r4 =>
 Option.bind (Q6 t2) fun r5 =>
 Option.bind (V8 t2) fun r6 =>
 Option.bind (a3F t1) fun r7 =>
 Option.bind (K2 t1) fun r8 =>
 Option.bind (bif r7==r8
 then (Option.bind (Q5 t1) fun r9 =>
 Option.bind (J1 t1) fun r10 =>
 some (Y3 r9 r10))
 else (some false)) fun q11 =>
 Option.bind (bif q11
 then (some (r4.2==0))
 else (some false)) fun q12 =>
 Option.bind (bif q12
 then (some (Y3 r4.1 t1))
 else (some false)) fun q13 =>
 Option.bind (bif q13
 then (some (Y3 r5.1 r6.1))
 else (some false)) fun q14 =>
 Option.bind (bif q14
 then (some (r5.2==r6.2))
 else (some false)) fun q15 =>
 Option.bind (bif q15
 then (Option.bind (a0c n) fun r16 =>
 some r16)
 else (some false)) fun q17 =>
 some q17
end Go.Qx
end
section
namespace Go.Pl
open Go Go.RowKit Go.Sx Go.Qx
theorem b1S (x:Int):wr .i64 x=w64 x:=rfl
theorem b1m (s:ByteArray):((s.size:Int)).toNat=s.size:=by omega
theorem a9l {x:Int}(h1 : -9223372036854775808<=x)(h2:x<=9223372036854775807):w64 x=x:=by
 unfold w64
 rw [IntKind.wrap_i64]
 omega
def a4N (s:ByteArray):Nat:=s.size+1
end Go.Pl
namespace Go.Pl
open Go Go.RowKit Go.Sx Go.Qx
end Go.Pl
end
section
namespace Go.Pl
open Go Go.RowKit Go.Sx Go.Qx
theorem b0S {i:Nat}(h:i<=2000000):wr .i64 ((i:Int)+1)=((i+1:Nat):Int):=by
 rw [b1S,a9l (by omega) (by omega)]
 omega
theorem b1U (c:BitVec 32){k:Nat}(hk:k<8):K6 (nB c,(k:Int))=some (.next (nB (cst c),((k+1:Nat):Int))):=by
 unfold K6
 have h1:decide ((k:Int)<8)=true:=decide_eq_true (by omega)
 have h2:W0 .u32 (nB c) 1=some (nB (c >>> 1)):=a3A c 1 (by omega)
 have h3:a3S .u32 (nB c) 1=nB (c &&& 1#32):=b0M c 1#32
 simp only [h1,h2,h3,cond_true,Option.bind_some,a8t,b0S (show k<=2000000 by omega)]
 cases hb:c.getLsbD 0 with
 | true =>
   have h4:a0V .u32 (nB (c >>> 1)) 2197175160=nB ((c >>> 1) ^^^ 0x82f63b78#32):=a7d _ 0x82f63b78#32
   simp only [cond_true,Option.bind_some,h4]
   unfold cst
   rw [hb]
   rfl
 | false =>
   simp only [cond_false,Option.bind_some]
   rw [a49 hb]
theorem a9j:∀ (m k:Nat) (c:BitVec 32),k+m=8->Q4 K6 (m+1) (nB c,(k:Int))=some (nB (a0q m c))
 | 0,k,c,h=>by
   have e:k=8:=by omega
   subst e
   rfl
 | m+1,k,c,h=>by
   rw [Q4,b1U c (show k<8 by omega)]
   exact a9j m (k+1) (cst c) (by omega)
theorem b1Z {s:ByteArray}(hs:s.size<=1000000)(r:BitVec 32){i:Nat}{b:UInt8}(hb:s.data.toList[i]?=some b):Q0 s (nB r,(i:Int))=some (.next (nB (a3l r b),((i+1:Nat):Int))):=by
 have hl:s.data.toList.length=s.size:=Array.length_toList
 have hlt:i<s.size:=by have:=(List.getElem?_eq_some_iff.1 hb).1; omega
 have h1:decide ((i:Int)<(s.size:Int))=true:=decide_eq_true (by omega)
 have h2:a2k s (i:Int)=some b:=by
  unfold a2k
  rw [if_pos (Int.natCast_nonneg i),Int.toNat_natCast,<- hb,Array.getElem?_toList]
  rfl
 have h3:wr .u32 (b.toNat:Int)=nB (b32 b):=by
  have:=b.toNat_lt
  show (b.toNat:Int)%4294967296=((b32 b).toNat:Int)
  unfold b32
  rw [BitVec.toNat_ofNat]
  omega
 unfold Q0
 simp only [h1,h2,h3,cond_true,Option.bind_some,a7d]
 have:=a9j 8 0 (r ^^^ b32 b) rfl
 rw [show ((8:Int).toNat+1)=8+1 from rfl]
 rw [show ((0:Nat):Int)=0 from rfl] at this
 rw [this]
 simp only [Option.bind_some,b0S (show i<=2000000 by omega)]
 rfl
theorem a8u {s:ByteArray}(hs:s.size<=1000000):∀ (m i:Nat) (r:BitVec 32),s.data.toList.length-i=m->i<=s.data.toList.length->Q4 (Q0 s) (m+1) (nB r,(i:Int))=some (nB (a2f (s.data.toList.drop i) r))
 | 0,i,r,hm,hi=>by
   have hl:s.data.toList.length=s.size:=Array.length_toList
   have e:i=s.data.toList.length:=by omega
   subst e
   rw [List.drop_length,Q4]
   unfold Q0
   have h1:decide ((s.data.toList.length:Int)<(s.size:Int))=false:=decide_eq_false (by omega)
   simp only [h1,cond_false,Option.bind_some,a2f]
 | m+1,i,r,hm,hi=>by
   have hlt:i<s.data.toList.length:=by omega
   rw [List.drop_eq_getElem_cons hlt,Q4,b1Z hs r (List.getElem?_eq_getElem hlt)]
   exact a8u hs m (i+1) (a3l r s.data.toList[i]) (by omega) (by omega)
theorem a9h {s:ByteArray}(hs:s.size<=1000000):a3F s=some (a2X s):=by
 unfold a3F
 rw [Nat.ble_eq_true_of_le hs]
 rfl
theorem a9n {s:ByteArray}(hs:s.size<=1000000):K2 s=some (a2X s):=by
 have hl:s.data.toList.length=s.size:=Array.length_toList
 have h:=a8u hs s.size 0 (BitVec.allOnes 32) (by omega) (Nat.zero_le _)
 unfold K2
 rw [b1m,show (4294967295:Int)=nB (BitVec.allOnes 32) by decide]
 rw [show ((0:Nat):Int)=0 from rfl] at h
 rw [h]
 simp only [Option.bind_some,b0Q]
 rfl
theorem a8q {s:ByteArray}(hs:s.size<=1000000):∃ x:ByteArray,x.size=4/\Q5 s=some (s++x)/\J1 s=some (s++x):=by
 generalize hv:(~~~ (a2f s.data.toList (BitVec.allOnes 32)))=v
 have e:a2X s=nB v:=by unfold a2X; rw [hv]
 have h8:W0 .u32 (nB v) 8=some (nB (v >>> 8)):=a3A v 8 (by omega)
 have h16:W0 .u32 (nB v) 16=some (nB (v >>> 16)):=a3A v 16 (by omega)
 have h24:W0 .u32 (nB v) 24=some (nB (v >>> 24)):=a3A v 24 (by omega)
 let x:=a6q ([wr .u8 (nB v),wr .u8 (nB (v >>> 8)),wr .u8 (nB (v >>> 16)),wr .u8 (nB (v >>> 24))]:List Int)
 have hx:x.size=4:=rfl
 have ha:a0v s x=some (s++x):=by
  unfold a0v
  rw [if_pos (by omega)]
 refine ⟨x,hx,?_,?_⟩
 ·unfold Q5
  rw [a9h hs,e]
  simp only [Option.bind_some,h8,h16,h24]
  rw [show a0v s (a6q ([wr .u8 (nB v),wr .u8 (nB (v >>> 8)),wr .u8 (nB (v >>> 16)),wr .u8 (nB (v >>> 24))]:List Int))=some (s++x) from ha]
  rfl
 ·unfold J1
  rw [a9n hs,e]
  simp only [Option.bind_some,h8,h16,h24]
  rw [show a0v s (a6q ([wr .u8 (nB v),wr .u8 (nB (v >>> 8)),wr .u8 (nB (v >>> 16)),wr .u8 (nB (v >>> 24))]:List Int))=some (s++x) from ha]
  rfl
theorem a58 {s:ByteArray}{k:Nat}(hk:k<=s.size):a1j s 0 (k:Int)=some (s.extract 0 k):=by
 unfold a1j
 rw [if_pos ⟨by omega,by omega,by omega⟩]
 rfl
theorem a5x {s:ByteArray}{k:Nat}(hk:k<=s.size):(s.extract 0 k).size=k:=by
 rw [ByteArray.size_extract]
 omega
theorem b1t (s x:ByteArray):(s++x).extract 0 s.size=s:=by
 apply ByteArray.ext
 rw [ByteArray.data_extract,ByteArray.data_append]
 show ((s.data++x.data).extract 0 s.data.size)=s.data
 simp
theorem b01 {s:ByteArray}(h:s.size<=1000000):wr .i64 ((s.size:Int)-4)=(s.size:Int)-4:=by
 rw [b1S,a9l (by omega) (by omega)]
theorem a7v (s:ByteArray):Y3 s s=true:=by simp [Y3]
theorem a9o {s x:ByteArray}(hs:s.size<=900000)(hx:x.size=4)(h1:Q5 s=some (s++x)):Q6 (s++x)=some (s,0):=by
 have hl:(s++x).size=s.size+4:=by rw [ByteArray.size_append,hx]
 unfold Q6
 rw [b01 (by omega),hl]
 have h0:decide (((s.size+4:Nat):Int)<4)=false:=decide_eq_false (by omega)
 have h2:((s.size+4:Nat):Int)-4=(s.size:Int):=by omega
 rw [h0,h2,a58 (by omega),b1t]
 simp only [cond_false,Option.bind_some,h1,a7v,Bool.not_true]
theorem a9H {s:ByteArray}(hs:s.size<=900000):∃ r,Q6 s=some r/\V8 s=some r:=by
 unfold Q6 V8
 rw [b01 (by omega)]
 by_cases h:s.size<4
 ·rw [show decide ((s.size:Int)<4)=true from decide_eq_true (by omega),show decide ((s.size:Int)-4<0)=true from decide_eq_true (by omega)]
  exact ⟨_,rfl,rfl⟩
 ·rw [show decide ((s.size:Int)<4)=false from decide_eq_false (by omega),show decide ((s.size:Int)-4<0)=false from decide_eq_false (by omega)]
  have e:(s.size:Int)-4=((s.size-4:Nat):Int):=by omega
  rw [e,a58 (by omega)]
  have hz:=a5x (s:=s) (k:=s.size-4) (by omega)
  obtain ⟨x,_,h1,h2⟩:=a8q (s:=s.extract 0 (s.size-4)) (by omega)
  simp only [cond_false,Option.bind_some,h1,h2]
  cases Y3 (s.extract 0 (s.size-4)++x) s
  ·exact ⟨_,rfl,rfl⟩
  ·exact ⟨_,rfl,rfl⟩
theorem b1s:a0c 200000000=some true:=by decide +kernel
theorem a6F (d t:ByteArray)(a b:Int):∃ n,Y8 n d t a b=some true:=by
 refine ⟨200000000,?_⟩
 have m1:min (d.size:Int) 200=((min d.size 200:Nat):Int):=by omega
 have m2:min (t.size:Int) 200=((min t.size 200:Nat):Int):=by omega
 unfold Y8
 rw [m1,m2,a58 (Nat.min_le_left _ _),a58 (Nat.min_le_left _ _)]
 have z1:=a5x (s:=d) (k:=min d.size 200) (Nat.min_le_left _ _)
 have z2:=a5x (s:=t) (k:=min t.size 200) (Nat.min_le_left _ _)
 generalize d.extract 0 (min d.size 200)=u at *
 generalize t.extract 0 (min t.size 200)=v at *
 obtain ⟨x,hx,h1,h2⟩:=a8q (s:=u) (by omega)
 obtain ⟨r,h3,h4⟩:=a9H (s:=v) (by omega)
 simp only [Option.bind_some,h1,h2,h3,h4,a9o (by omega) hx h1,a9h (s:=u) (by omega),a9n (s:=u) (by omega),beq_self_eq_true,cond_true,a7v,b1s]
end Go.Pl
end
section
namespace Go.Qx
open Go Go.RowKit Go.Sx
set_option maxRecDepth 100000
abbrev a5L (v:Api_Ref):ByteArray×Int:=(v.Name,v.Arity)
abbrev a8R (x:ByteArray×Int):Api_Ref:=⟨x.1,x.2⟩
@[reducible] def a0N:Rp Api_Ref:=a2E a5L (k8 (rpStr) (rpK .i64))
abbrev a3Q (v:Api_Field):Key×Int×Bool:=(v.Key_,v.Node,v.Optional)
abbrev a7S (x:Key×Int×Bool):Api_Field:=⟨x.1,x.2.1,x.2.2⟩
@[reducible] def W3:Rp Api_Field:=a2E a3Q (k8 (rpKey) (k8 (rpK .i64) (rpBool)))
abbrev a2w (v:Api_TypeNode):Int×Int×Int×ByteArray×(List Int)×(List Api_Field)×(Int×Int):=(v.Kind,v.Lo,v.Hi,v.Text,v.Kids,v.Fields,v.Rest)
abbrev a5S (x:Int×Int×Int×ByteArray×(List Int)×(List Api_Field)×(Int×Int)):Api_TypeNode:=⟨x.1,x.2.1,x.2.2.1,x.2.2.2.1,x.2.2.2.2.1,x.2.2.2.2.2.1,x.2.2.2.2.2.2⟩
@[reducible] def Q9:Rp Api_TypeNode:=a2E a2w (k8 (rpK .i64) (k8 (rpK .i64) (k8 (rpK .i64) (k8 (rpStr) (k8 (@rpList _ (rpK .i64)) (k8 (@rpList _ (W3)) (k8 (rpK .i64) (rpK .i64))))))))
abbrev a46 (v:Api_Type):(List Api_TypeNode)×Int:=(v.Nodes,v.Root)
abbrev a8k (x:(List Api_TypeNode)×Int):Api_Type:=⟨x.1,x.2⟩
@[reducible] def a0x:Rp Api_Type:=a2E a46 (k8 (@rpList _ (Q9)) (rpK .i64))
abbrev a2e (v:Api_Signature):Api_Ref×Api_Type:=(v.Ref,v.Type_)
abbrev a5w (x:Api_Ref×Api_Type):Api_Signature:=⟨x.1,x.2⟩
@[reducible] def Q3:Rp Api_Signature:=a2E a2e (k8 (a0N) (a0x))
abbrev a2a (v:Api_Interface):ByteArray×Bool×(List Api_Signature):=(v.Module,v.Checked,v.Signatures)
abbrev a5j (x:ByteArray×Bool×(List Api_Signature)):Api_Interface:=⟨x.1,x.2.1,x.2.2⟩
@[reducible] def a0E:Rp Api_Interface:=a2E a2a (k8 (rpStr) (k8 (rpBool) (@rpList _ (Q3))))
abbrev a1I (v:Summary_writer):(List Int):=v.b
abbrev a40 (x:(List Int)):Summary_writer:=⟨x⟩
@[reducible] def a0s:Rp Summary_writer:=a2E a1I (@rpList _ (rpK .u8))
abbrev a1H (v:Summary_reader):ByteArray×Int×Int:=(v.s,v.at_,v.code)
abbrev a4Y (x:ByteArray×Int×Int):Summary_reader:=⟨x.1,x.2.1,x.2.2⟩
@[reducible] def a0p:Rp Summary_reader:=a2E a1H (k8 (rpStr) (k8 (rpK .i64) (rpK .i64)))
def tyL:List TE:=[⟨2,Int,rpK .i64⟩,
 ⟨3,Int,rpK .i64⟩,
 ⟨4,Bool,rpBool⟩,
 ⟨5,Int,rpK .u8⟩,
 ⟨9,ByteArray,rpStr⟩,
 ⟨22,Int,rpK .i64⟩,
 ⟨31,List Int,@rpList _ (rpK .u8)⟩,
 ⟨34,List Api_Signature,@rpList _ (Q3)⟩,
 ⟨36,Api_Interface,a0E⟩,
 ⟨43,Summary_writer,a0s⟩,
 ⟨47,Summary_reader,a0p⟩,
 ⟨52,Api_Ref,a0N⟩,
 ⟨53,List Api_TypeNode,@rpList _ (Q9)⟩,
 ⟨55,Api_Type,a0x⟩,
 ⟨57,Api_Signature,Q3⟩,
 ⟨69,List Int,@rpList _ (rpK .i64)⟩,
 ⟨70,List Api_Field,@rpList _ (W3)⟩,
 ⟨71,Int×Int,k8 (rpK .i64) (rpK .i64)⟩,
 ⟨73,Api_TypeNode,Q9⟩,
 ⟨99,Key,rpKey⟩,
 ⟨101,Api_Field,W3⟩]
abbrev I (E:TypeId):Type:=(a8W tyL E).α
instance rI (E:TypeId):Rp (I E):=(a8W tyL E).rp
def a5c:Fd I (I 36) inferInstance:=(a1N (rg:=a0E) (Q8 (a4E:Fd I ByteArray (rpStr)) (Q8 (a7R:Fd I Bool (rpBool)) ((a2Y 57:Fd I (List Api_Signature) (@rpList _ (Q3)))))) a2a a5j (fun _=>rfl) (fun _ _ _=>Iff.rfl):Fd I Api_Interface a0E)
def a4U:Fd I (I 43) inferInstance:=(a1N (rg:=a0s) ((a2Y 5:Fd I (List Int) (@rpList _ (rpK .u8)))) a1I a40 (fun _=>rfl) (fun _ _ _=>Iff.rfl):Fd I Summary_writer a0s)
def a44:Fd I (I 47) inferInstance:=(a1N (rg:=a0p) (Q8 (a4E:Fd I ByteArray (rpStr)) (Q8 (X4 .i64:Fd I Int (rpK .i64)) ((X4 .i64:Fd I Int (rpK .i64))))) a1H a4Y (fun _=>rfl) (fun _ _ _=>Iff.rfl):Fd I Summary_reader a0p)
def a6c:Fd I (I 52) inferInstance:=(a1N (rg:=a0N) (Q8 (a4E:Fd I ByteArray (rpStr)) ((X4 .i64:Fd I Int (rpK .i64)))) a5L a8R (fun _=>rfl) (fun _ _ _=>Iff.rfl):Fd I Api_Ref a0N)
def a45:Fd I (I 55) inferInstance:=(a1N (rg:=a0x) (Q8 (a2Y 73:Fd I (List Api_TypeNode) (@rpList _ (Q9))) ((X4 .i64:Fd I Int (rpK .i64)))) a46 a8k (fun _=>rfl) (fun _ _ _=>Iff.rfl):Fd I Api_Type a0x)
def a5d:Fd I (I 57) inferInstance:=(a1N (rg:=Q3) (Q8 (a7l 52 a6c:Fd I Api_Ref (a0N)) ((a7l 55 a45:Fd I Api_Type (a0x)))) a2e a5w (fun _=>rfl) (fun _ _ _=>Iff.rfl):Fd I Api_Signature Q3)
def a9K:Fd I (I 71) inferInstance:=(Q8 (X4 .i64:Fd I Int (rpK .i64)) ((X4 .i64:Fd I Int (rpK .i64))):Fd I (Int×Int) (k8 (rpK .i64) (rpK .i64)))
def a5O:Fd I (I 73) inferInstance:=(a1N (rg:=Q9) (Q8 (X4 .i64:Fd I Int (rpK .i64)) (Q8 (X4 .i64:Fd I Int (rpK .i64)) (Q8 (X4 .i64:Fd I Int (rpK .i64)) (Q8 (a4E:Fd I ByteArray (rpStr)) (Q8 (a2Y 3:Fd I (List Int) (@rpList _ (rpK .i64))) (Q8 (a2Y 101:Fd I (List Api_Field) (@rpList _ (W3))) ((a7l 71 a9K:Fd I (Int×Int) (k8 (rpK .i64) (rpK .i64)))))))))) a2w a5S (fun _=>rfl) (fun _ _ _=>Iff.rfl):Fd I Api_TypeNode Q9)
def a9s:Fd I (I 99) inferInstance:=(a1N (rg:=rpKey) (Q8 (X4 .i64:Fd I Int (rpK .i64)) ((a4E:Fd I ByteArray (rpStr)))) Key.to Key.of (fun _=>rfl) Key.cells_to:Fd I Key rpKey)
def a7L:Fd I (I 101) inferInstance:=(a1N (rg:=W3) (Q8 (a7l 99 a9s:Fd I Key (rpKey)) (Q8 (X4 .i64:Fd I Int (rpK .i64)) ((a7R:Fd I Bool (rpBool))))) a3Q a7S (fun _=>rfl) (fun _ _ _=>Iff.rfl):Fd I Api_Field W3)
def feL:List (FE I):=[⟨2,X4 .i64⟩,
 ⟨3,X4 .i64⟩,
 ⟨4,a7R⟩,
 ⟨5,X4 .u8⟩,
 ⟨9,a4E⟩,
 ⟨22,X4 .i64⟩,
 ⟨31,a2Y 5⟩,
 ⟨34,a2Y 57⟩,
 ⟨36,a5c⟩,
 ⟨43,a4U⟩,
 ⟨47,a44⟩,
 ⟨52,a6c⟩,
 ⟨53,a2Y 73⟩,
 ⟨55,a45⟩,
 ⟨57,a5d⟩,
 ⟨69,a2Y 3⟩,
 ⟨70,a2Y 101⟩,
 ⟨71,a9K⟩,
 ⟨73,a5O⟩,
 ⟨99,a9s⟩,
 ⟨101,a7L⟩]
def b11:TabL I where
 sz:=[(36,3),(55,2),(57,4)]
 one:=[(3,()),(4,()),(9,()),(22,()),(31,()),(34,())]
 fld:=[(36,[(0,9),(1,4),(2,34)]),(43,[(0,31)]),(47,[(0,9),(1,3),(2,22)]),(52,[(0,9),(1,3)]),(57,[(0,52),(2,55)])]
 el:=[(31,5),(34,57),(69,3)]
 str:=[(9,())]
 bool:=[]
 ik:=[(2,.i64),(5,.u8),(26,.u32),(111,.u64)]
 fe:=feL
 inf:=[(3,1,8,[.int .i64 0]),(4,1,1,[.bool false]),(5,1,1,[.int .u8 0]),(22,1,8,[.int .i64 0]),(31,1,24,[.nl 5]),(36,3,48,[.str ⟨#[]⟩,.bool false,.nl 57]),(43,1,24,[.nl 5]),(47,3,32,[.str ⟨#[]⟩,.int .i64 0,.int .i64 0]),(57,4,56,[.str ⟨#[]⟩,.int .i64 0,.nl 73,.int .i64 0])]
 st:=[(36,[(0,1),(1,1),(2,1)]),(43,[(0,1)]),(47,[(0,1),(1,1),(2,1)])]
 eq:=[]
 nest:=[(69,3,0),(143,3,1)]
 arr:=[]
 u8:=[(5,())]
 u8g:=[⟨5,fun y=>y⟩]
 mp:=[(95,.bool)]
 fb:=[(53,()),(54,())]
abbrev tb:Tab I:=b0P b11
theorem ti3:Z5 Go.Proofs.Tryz.prog 3 (.int .i64 0) 1 8:=J7 (by kernel_rfl)
theorem ti4:Z5 Go.Proofs.Tryz.prog 4 (.bool false) 1 1:=J7 (by kernel_rfl)
theorem ti5:Z5 Go.Proofs.Tryz.prog 5 (.int .u8 0) 1 1:=J7 (by kernel_rfl)
theorem b2O:Z5 Go.Proofs.Tryz.prog 22 (.int .i64 0) 1 8:=J7 (by kernel_rfl)
theorem b2F:Z5 Go.Proofs.Tryz.prog 31 (.slice none 0 0) 1 24:=J7 (by kernel_rfl)
theorem b2N:Z5 Go.Proofs.Tryz.prog 36 (.agg #[.string ⟨#[]⟩,.bool false,.slice none 0 0]) 3 48:=J7 (by kernel_rfl)
theorem b2Q:Z5 Go.Proofs.Tryz.prog 43 (.agg #[.slice none 0 0]) 1 24:=J7 (by kernel_rfl)
theorem b2H:Z5 Go.Proofs.Tryz.prog 47 (.agg #[.string ⟨#[]⟩,.int .i64 0,.int .i64 0]) 3 32:=J7 (by kernel_rfl)
theorem b1Q:Z5 Go.Proofs.Tryz.prog 57 (.agg #[.string ⟨#[]⟩,.int .i64 0,.slice none 0 0,.int .i64 0]) 4 56:=J7 (by kernel_rfl)
theorem to3:a0B Go.Proofs.Tryz.prog 3:=⟨_,Go.Proofs.Tryz.underlying3,rfl,by kernel_rfl⟩
theorem to4:a0B Go.Proofs.Tryz.prog 4:=⟨_,Go.Proofs.Tryz.underlying4,rfl,by kernel_rfl⟩
theorem to9:a0B Go.Proofs.Tryz.prog 9:=⟨_,Go.Proofs.Tryz.underlying9,rfl,by kernel_rfl⟩
theorem b2V:a0B Go.Proofs.Tryz.prog 22:=⟨_,Go.Proofs.Tryz.underlying22,rfl,by kernel_rfl⟩
theorem b2W:a0B Go.Proofs.Tryz.prog 31:=⟨_,Go.Proofs.Tryz.underlying31,rfl,by kernel_rfl⟩
theorem b2Z:a0B Go.Proofs.Tryz.prog 34:=⟨_,Go.Proofs.Tryz.underlying34,rfl,by kernel_rfl⟩
theorem b1I:TabLOk Go.Proofs.Tryz.prog b11 where
 sz:=⟨⟨_,Go.Proofs.Tryz.underlying36,rfl,by kernel_rfl⟩,⟨⟨_,Go.Proofs.Tryz.underlying55,rfl,by kernel_rfl⟩,⟨⟨_,Go.Proofs.Tryz.underlying57,rfl,by kernel_rfl⟩,trivial⟩⟩⟩
 one:=⟨to3,⟨to4,⟨to9,⟨b2V,⟨b2W,⟨b2Z,trivial⟩⟩⟩⟩⟩⟩
 fld:=⟨⟨⟨_,_,Go.Proofs.Tryz.underlying36,rfl,rfl,by kernel_rfl⟩,⟨⟨_,_,Go.Proofs.Tryz.underlying36,rfl,rfl⟩,⟨⟨_,_,Go.Proofs.Tryz.underlying36,rfl,rfl,by kernel_rfl⟩,⟨⟨_,_,Go.Proofs.Tryz.underlying36,rfl,rfl⟩,⟨⟨_,_,Go.Proofs.Tryz.underlying36,rfl,rfl,by kernel_rfl⟩,⟨⟨_,_,Go.Proofs.Tryz.underlying36,rfl,rfl⟩,trivial⟩⟩⟩⟩⟩⟩,⟨⟨⟨_,_,Go.Proofs.Tryz.underlying43,rfl,rfl,by kernel_rfl⟩,⟨⟨_,_,Go.Proofs.Tryz.underlying43,rfl,rfl⟩,trivial⟩⟩,⟨⟨⟨_,_,Go.Proofs.Tryz.underlying47,rfl,rfl,by kernel_rfl⟩,⟨⟨_,_,Go.Proofs.Tryz.underlying47,rfl,rfl⟩,⟨⟨_,_,Go.Proofs.Tryz.underlying47,rfl,rfl,by kernel_rfl⟩,⟨⟨_,_,Go.Proofs.Tryz.underlying47,rfl,rfl⟩,⟨⟨_,_,Go.Proofs.Tryz.underlying47,rfl,rfl,by kernel_rfl⟩,⟨⟨_,_,Go.Proofs.Tryz.underlying47,rfl,rfl⟩,trivial⟩⟩⟩⟩⟩⟩,⟨⟨⟨_,_,Go.Proofs.Tryz.underlying52,rfl,rfl,by kernel_rfl⟩,⟨⟨_,_,Go.Proofs.Tryz.underlying52,rfl,rfl⟩,⟨⟨_,_,Go.Proofs.Tryz.underlying52,rfl,rfl,by kernel_rfl⟩,⟨⟨_,_,Go.Proofs.Tryz.underlying52,rfl,rfl⟩,trivial⟩⟩⟩⟩,⟨⟨⟨_,_,Go.Proofs.Tryz.underlying57,rfl,rfl,by kernel_rfl⟩,⟨⟨_,_,Go.Proofs.Tryz.underlying57,rfl,rfl⟩,⟨⟨_,_,Go.Proofs.Tryz.underlying57,rfl,rfl,by kernel_rfl⟩,⟨⟨_,_,Go.Proofs.Tryz.underlying57,rfl,rfl⟩,trivial⟩⟩⟩⟩,trivial⟩⟩⟩⟩⟩
 el:=⟨⟨Go.Proofs.Tryz.underlying31,_,_,ti5,rfl,by decide⟩,⟨⟨Go.Proofs.Tryz.underlying34,_,_,b1Q,rfl,by decide⟩,⟨⟨Go.Proofs.Tryz.underlying69,_,_,ti3,rfl,by decide⟩,trivial⟩⟩⟩
 str:=⟨Go.Proofs.Tryz.underlying9,trivial⟩
 bool:=trivial
 ik:=⟨Go.Proofs.Tryz.underlying2,⟨Go.Proofs.Tryz.underlying5,⟨Go.Proofs.Tryz.underlying26,⟨Go.Proofs.Tryz.underlying111,trivial⟩⟩⟩⟩
 inf:=⟨⟨_,ti3,fun X c σ=>RG.cns rfl a3m (RG.nl)⟩,⟨⟨_,ti4,fun X c σ=>RG.cns rfl a9x (RG.nl)⟩,⟨⟨_,ti5,fun X c σ=>RG.cns rfl a3m (RG.nl)⟩,⟨⟨_,b2O,fun X c σ=>RG.cns rfl a3m (RG.nl)⟩,⟨⟨_,b2F,fun X c σ=>RG.cns rfl a8G (RG.nl)⟩,⟨⟨_,b2N,fun X c σ=>RG.cns rfl a84 (RG.cns rfl a9x (RG.cns rfl a8G (RG.nl)))⟩,⟨⟨_,b2Q,fun X c σ=>RG.cns rfl a8G (RG.nl)⟩,⟨⟨_,b2H,fun X c σ=>RG.cns rfl a84 (RG.cns rfl a3m (RG.cns rfl a3m (RG.nl)))⟩,⟨⟨_,b1Q,fun X c σ=>RG.cns rfl a84 (RG.cns rfl a3m (RG.cns rfl a8G (RG.cns rfl a3m (RG.nl))))⟩,trivial⟩⟩⟩⟩⟩⟩⟩⟩⟩
 st:=⟨.inl ⟨_,Go.Proofs.Tryz.underlying36,by kernel_rfl⟩,⟨.inl ⟨_,Go.Proofs.Tryz.underlying43,by kernel_rfl⟩,⟨.inl ⟨_,Go.Proofs.Tryz.underlying47,by kernel_rfl⟩,trivial⟩⟩⟩
 eq:=trivial
 arr:=trivial
 u8:=⟨⟨Go.Proofs.Tryz.underlying5,fun y=>⟨y,rfl⟩⟩,trivial⟩
 u8g:=⟨fun σ k=>rfl,trivial⟩
 mp:=⟨⟨_,_,_,_,_,Go.Proofs.Tryz.underlying95,Go.Proofs.Tryz.underlying9,ti4,fun x h σ=>by cases h; exact rfl⟩,trivial⟩
 fb:=⟨⟨_,_,Go.Proofs.Tryz.func53,rfl,by kernel_rfl⟩,⟨⟨_,_,Go.Proofs.Tryz.func54,rfl,by kernel_rfl⟩,trivial⟩⟩
theorem b0O:TabOk Go.Proofs.Tryz.prog tb:=b0J b1I
theorem b2x:(Go.Proofs.Tryz.prog).follows .mixedOrders=true:=by kernel_rfl
end Go.Qx
end
section
namespace Go.Qx
open Go Go.RowKit Go.Sx
end Go.Qx
end
section
namespace Go.Qx
open Go Go.RowKit Go.Sx
structure Bw (B:Nat)(w w':World):Prop where
 below:Below B w w'
 drawn:w.drawn<=w'.drawn
theorem Bw.refl (B:Nat)(w:World):Bw B w w:=⟨Below.refl B w,Nat.le_refl _⟩
theorem Bw.trans {B:Nat}{a b c:World}(h:Bw B a b)(k:Bw B b c):Bw B a c:=⟨h.below.trans k.below,Nat.le_trans h.drawn k.drawn⟩
theorem Bw.setCells {B b:Nat}(hb:B<=b)(o:Nat)(vs:List Value)(w:World):Bw B w (w.setCells b o vs):=by
 obtain ⟨r1,r2,r3⟩:=a1B b vs o w
 exact ⟨⟨r1,r2,r3,Nat.le_of_eq (a1F b vs o w).symm,fun k hk=>W6 b vs o w k (by omega)⟩,Nat.le_of_eq (a1h b vs o w).symm⟩
section
variable {P:Program}{ops:Array Oper}{Q:Exit->Act->World->Prop}{n:Nat}{F:Fr}{rest:List Oper}{d:Option Nat}{ty:TypeId}{pos:String}{aft:Array Edge}{w:World}
theorem b0n {T T':TypeId}{x y:Operand}{b:Nat}{cs:List Value}(hb:w.heap[b]?=some (.cells cs.toArray T' (0,0)))(o:Nat)(v:Value)(hx:ev F x=.pointer (some ⟨b,o,none⟩))(hy:ev F y=v)
 (hkx:y1 n x=true) (hky:y1 n y=true) (hv:v.cells.toList=[v]) (hT:(P.info? T).map (·.size)=some 1) (h1:v.oneCell'=true) (hl:o<cs.length)
 (h:wpList P ops Q rest (fr n (j5 F d undef)) (w.setCells b o [v])) :
 wpList P ops Q (⟨d,.store T x y,ty,pos,aft,none⟩::rest) (fr n F) w:=by
 have hsz:v.cells.size=1:=by rw [<- Array.length_toList,hv]; rfl
 refine a4s rfl (w.setCells b o [v]) ?_ h
 show Sem.run P (do Instr.storeAt T ((fr n F).eval x) ((fr n F).eval y); pure Next.skip) w=_
 rw [z8 hkx,z8 hky,hx,hy]
 have hst:=run_storeCells_cells (P:=P) b o [v] 0 w (fun j hj=>by
  have hj0:j=0:=by simp at hj; omega
  subst hj0
  simp only [World.cell?,hb,Nat.add_zero]
  simp [List.getElem?_eq_getElem hl]) (fun j hj=>by simp [World.frozen?,hb]) (fun u hu=>by simp at hu; subst hu; exact h1)
 simp only [Nat.add_zero] at hst
 simp only [Instr.storeAt,Instr.sureAddr,storeVar,Sem.run_bind,Sem.run_pure,Result.andThen_ok,Go.Sx.run_sizeOf hT,hsz,ne_eq,not_true_eq_false,if_false,hv,hst]
theorem a7U {f:FuncId}{fn:Func}{c:Code}{vs:List Value}{R:Ending->World->Prop}(nt:Nat)(hf:P.funcs[f]?=some fn)(hb:fn.body=some c)(hn:fn.ntmps=nt)(hle:Nat.ble vs.length nt=true)
 (h:c.wp P (bodyPost P fn R) (fr nt (a0Y vs)) w):Calls P f vs.toArray w R:=by
 refine calls_of_wp hf hb ?_
 have hle':=Nat.le_of_ble_eq_true hle
 have e:(⟨vs.toArray++Array.replicate (fn.ntmps-vs.toArray.size) undef,[]⟩:Act)=fr nt (a0Y vs):=by
  rw [hn]
  simp only [fr]
  congr 1
  apply Array.ext
  ·simp; omega
  ·intro i h1 h2
   simp only [Array.getElem_ofFn,a0Y,Array.getElem_append]
   split
   ·rename_i hi; simp at hi; simp [List.getD,List.getElem?_eq_getElem hi]
   ·rename_i hi; simp at hi; simp [List.getD,List.getElem?_eq_none hi]
 rw [e]
 exact h
theorem b2n {fn:Func}{R:Ending->World->Prop}{t:Nat}(v:Value)(hr:fn.results=#[.tmp t])(ht:Nat.blt t n=true)(hv:F t=v)(h:R (.returned v) w):bodyPost P fn R .ret (fr n F) w :=
 ⟨rfl,v,by
  have e1:=a3D (P:=P) (w:=w) (r:=.tmp t) (v:=v) ⟨ht,hv⟩
  rw [a3v,hr]
  simp only [List.mapM_toArray,List.mapM_cons,List.mapM_nil,Sem.run_bind,Sem.run_map,e1,Result.andThen_ok,Sem.run_pure]
  rfl,h⟩
theorem b1c {f:FuncId}{xs:List Operand}{ats:Array TypeId}(vs:List Value){R:Ending->World->Prop}(hvs:xs.map (ev F)=vs)(hk:xs.all (y1 n)=true)(hb:a0k P f)(hc:Calls P f vs.toArray w R)
 (hR:∀ e w',R e w'->∃ v,e=.returned v/\wpList P ops Q rest (fr n (j5 F d v)) w') :
 wpList P ops Q (⟨d,.call ⟨.value (.func f),xs.toArray,ats⟩,ty,pos,aft,none⟩::rest) (fr n F) w:=by
 subst hvs
 refine a2C (σ:=⟨w,fun _=>(0,0)⟩) (E:=fun _=>True) (R:=fun v τ=>wpList P ops Q rest (fr n (j5 F d v)) τ.w) rfl (.inl ⟨hb,hc.mono fun e w' h=>?_⟩) (a7C hk w) (fun v τ _ h=>h)
 obtain ⟨v,e1,h2⟩:=hR e w' h
 exact ⟨v,⟨w',fun _=>(0,0)⟩,e1,rfl,trivial,h2⟩
end
end Go.Qx
end
section
namespace Go.Qx
open Go Go.RowKit Go.Sx
set_option maxHeartbeats 1600000
set_option maxRecDepth 100000
section
variable {P:Program}{ops:Array Oper}{Q:Exit->Act->World->Prop}{n:Nat}{F:Fr}{rest:List Oper}{d:Option Nat}{ty:TypeId}{pos:String}{aft:Array Edge}{w:World}
theorem a5h {T:TypeId}{z:Value}{cs:List Value}{sz by_:Nat}(hT:Z5 P T z sz by_)(hc:z.cells.toList=cs)
 (h:wpList P ops Q rest (fr n (j5 F d (.pointer (some ⟨w.heap.size,0,none⟩)))) (w.alloc (.cells cs.toArray T))) :
 wpList P ops Q (⟨d,.alloc T,ty,pos,aft,none⟩::rest) (fr n F) w:=by
 refine y9 rfl (.pointer (some ⟨w.heap.size,0,none⟩)) (w.alloc (.cells cs.toArray T)) ?_ h
 obtain ⟨i,h1,h2,_,_⟩:=hT
 have hcc:z.cells=cs.toArray:=by rw [<- hc]
 simp [execOp,Instr.alloc,zeroValue,typeInfo,h1,h2,newVar,newRow,hcc]
theorem a7T {T T':TypeId}{x y:Operand}{b:Nat}{cs:List Value}(hb:w.heap[b]?=some (.cells cs.toArray T' (0,0)))(v:Value)(vs:List Value)(hx:ev F x=.pointer (some ⟨b,0,none⟩))(hy:ev F y=v)
 (hkx:y1 n x=true) (hky:y1 n y=true) (hv:v.cells.toList=vs) (hT:(P.info? T).map (·.size)=some vs.length) (h1:∀ u∈vs,u.oneCell'=true) (hl:vs.length=cs.length)
 (h:∀ w',w'.heap[b]?=some (.cells vs.toArray T' (0,0))->(∀ B,B<=b->Bw B w w')->wpList P ops Q rest (fr n (j5 F d undef)) w') :
 wpList P ops Q (⟨d,.store T x y,ty,pos,aft,none⟩::rest) (fr n F) w:=by
 have hsz:v.cells.size=vs.length:=by rw [<- hv]; simp
 have hh:=X6 b T' vs 0 w cs hb (by omega)
 have e:cs.take 0++vs++cs.drop (0+vs.length)=vs:=by
  rw [Nat.zero_add,hl,List.drop_length]; simp
 rw [e] at hh
 refine a4s rfl (w.setCells b 0 vs) ?_ (h _ hh fun B hB=>Bw.setCells hB 0 vs w)
 show Sem.run P (do Instr.storeAt T ((fr n F).eval x) ((fr n F).eval y); pure Next.skip) w=_
 rw [z8 hkx,z8 hky,hx,hy]
 have hst:=run_storeCells_cells (P:=P) b 0 vs 0 w (fun j hj=>by
  simp only [World.cell?,hb,Nat.add_zero,Nat.zero_add]
  simp [List.getElem?_eq_getElem (show j<cs.length by omega)]) (fun j hj=>by simp [World.frozen?,hb]) h1
 simp only [Nat.add_zero] at hst
 simp only [Instr.storeAt,Instr.sureAddr,storeVar,Sem.run_bind,Sem.run_pure,Result.andThen_ok,Go.Sx.run_sizeOf hT,hsz,ne_eq,not_true_eq_false,if_false,hv,hst]
theorem a8w {T E:TypeId}{x y:Operand}{m i b:Nat}{kd:IntKind}
 (hx:ev F x=.pointer (some ⟨b,0,none⟩)) (hy:ev F y=.int kd (Int.ofNat i)) (hkx:y1 n x=true) (hky:y1 n y=true) (hT:P.underlying T=some (.array m E)) (hE:(P.info? E).map (·.size)=some 1) (hi:i<m)
 (h:wpList P ops Q rest (fr n (j5 F d (.pointer (some ⟨b,i,none⟩)))) w) :
 wpList P ops Q (⟨d,.indexAddr T x y,ty,pos,aft,none⟩::rest) (fr n F) w:=by
 refine y9 rfl (.pointer (some ⟨b,i,none⟩)) w ?_ h
 show Sem.run P (do pure (Next.value (<- Instr.indexAt T ((fr n F).eval x) ((fr n F).eval y)))) w=_
 rw [z8 hkx,z8 hky,hx,hy]
 have h0:(0:Int)<=(i:Int)/\(i:Int)<(m:Int):=⟨Int.natCast_nonneg i,by simpa using hi⟩
 simp only [Instr.indexAt,Instr.sureAddr,asIntOf,Sem.run_bind,Sem.run_pure,Result.andThen_ok,run_underlying hT,Addr.add_mid,Int.ofNat_eq_natCast,Int.toNat_natCast,if_pos h0,Sx.run_sizeOf hE,Nat.mul_one,Nat.zero_add]
theorem b2z {fn:Func}{R:Ending->World->Prop}{t b:Nat}{T:TypeId}(v:Value)(hr:fn.results=#[.cell t T])(ht:Nat.blt t n=true)(hv:F t=.pointer (some ⟨b,0,none⟩))(hl:y0 P w (loadVar T ⟨b,0,none⟩) v)(h:R (.returned v) w):bodyPost P fn R .ret (fr n F) w :=
 ⟨rfl,v,by
  have e1:=a3D (P:=P) (w:=w) (r:=.cell t T) (v:=v) ⟨ht,b,hv,hl⟩
  rw [a3v,hr]
  simp only [List.mapM_toArray,List.mapM_cons,List.mapM_nil,Sem.run_bind,Sem.run_map,e1,Result.andThen_ok,Sem.run_pure]
  rfl,h⟩
end
def Z1 (i:Nat):List Value:=(List.range 256).map fun j=>if j<i then Value.int .u32 (nB (tb8 j)) else Value.int .u32 0
theorem Q2 (i:Nat):(Z1 i).length=256:=by simp [Z1]
theorem a4B {i j:Nat}(hj:j<256):(Z1 i)[j]?=some (if j<i then Value.int .u32 (nB (tb8 j)) else Value.int .u32 0):=by
 simp [Z1,hj]
theorem a7O (i:Nat):∀ u∈Z1 i,u.oneCell'=true:=by
 intro u hu
 obtain ⟨j,_,rfl⟩:=List.mem_map.1 hu
 split<;>rfl
theorem b0b {i:Nat}(hi:i<256):(Z1 i).take i++[Value.int .u32 (nB (tb8 i))]++(Z1 i).drop (i+[Value.int .u32 (nB (tb8 i))].length)=Z1 (i+1):=by
 apply List.ext_getElem?
 intro j
 have hl:((Z1 i).take i).length=i:=by rw [List.length_take,Q2]; omega
 by_cases hj:j<256
 ·rw [a4B hj]
  rcases Nat.lt_trichotomy j i with h | h | h
  ·rw [List.append_assoc,List.getElem?_append_left (by omega),List.getElem?_take_of_lt h,a4B hj,if_pos h,if_pos (by omega)]
  ·subst h
   rw [List.append_assoc,List.getElem?_append_right (by omega),hl,Nat.sub_self,if_pos (by omega)]
   rfl
  ·rw [List.append_assoc,List.getElem?_append_right (by omega),hl,List.getElem?_append_right (by simp; omega),List.getElem?_drop]
   simp only [List.length_cons,List.length_nil,Nat.zero_add]
   rw [show i+1+(j-i-1)=j by omega,a4B hj,if_neg (by omega),if_neg (by omega)]
 ·have e:(Z1 (i+1))[j]?=none:=List.getElem?_eq_none (by rw [Q2]; omega)
  rw [e,List.getElem?_eq_none]
  simp only [List.length_append,List.length_take,List.length_drop,Q2,List.length_cons,List.length_nil]
  omega
theorem a3Y {w:World}{b:Nat}{cs:List Value}{T:TypeId}(h:w.heap[b]?=some (.cells cs.toArray T (0,0))):w.rangeAt b 0 cs:=fun j v hj=>by
 simp [World.cell?,h,hj]
theorem tz:Z5 Go.Proofs.Tryz.prog 32 (.agg (Z1 0).toArray) 256 1024:=J7 (by kernel_rfl)
theorem b2b:a4y Go.Proofs.Tryz.prog 32 256:=⟨_,Go.Proofs.Tryz.underlying32,rfl,by kernel_rfl⟩
theorem b2L:a0B Go.Proofs.Tryz.prog 26:=⟨_,Go.Proofs.Tryz.underlying26,rfl,by kernel_rfl⟩
def a8I (i:Nat):Option (Fl Nat Unit):=some (if i<256 then .next (i+1) else .done ())
def a86 (q:Nat×BitVec 32):Option (Fl (Nat×BitVec 32) (BitVec 32)):=some (if q.1<8 then .next (q.1+1,cst q.2) else .done q.2)
attribute [irreducible] Z1
theorem b2S:(4294967295:Int)=nB (BitVec.allOnes 32):=by decide
theorem a8F:Q4 a8I 257 0=some ():=by kernel_rfl
theorem a8Q (r:BitVec 32):Q4 a86 9 (0,r)=some (a0q 8 r):=rfl
theorem b1j:(2197175160:Int)=nB 0x82f63b78#32:=rfl
theorem a53 {i:Nat}(h:i<=2000000):wr .i64 ((i:Int)+1)=((i+1:Nat):Int):=by
 show IntKind.i64.wrap ((i:Int)+1)=_
 rw [IntKind.wrap_i64]
 omega
theorem a6S (r:BitVec 32):((nB (r &&& 1#32)==1)=true->nB (cst r)=a0V .u32 (nB (r >>> 1)) 2197175160)/\((nB (r &&& 1#32)==1)=false->nB (cst r)=nB (r >>> 1)):=by
 rw [a8t]
 constructor
 ·intro h
  unfold cst
  rw [h,b1j,a7d]
  rfl
 ·intro h
  rw [a49 h]
theorem b2P {w:World}{i:Nat}(hi:i<256):y0 Go.Proofs.Tryz.prog w (convert 3 26 (.int .i64 (i:Int))) (.int .u32 (nB (BitVec.ofNat 32 i))):=by
 have h:IntKind.u32.wrap (i:Int)=nB (BitVec.ofNat 32 i):=by
  show (i:Int)%4294967296=((BitVec.ofNat 32 i).toNat:Int)
  rw [BitVec.toNat_ofNat]
  omega
 rw [<- h]
 exact a7n (by rw [Go.Proofs.Tryz.underlying3]; rfl) Go.Proofs.Tryz.underlying26
def a7b (σ:S):Nat->Nat×Nat:=fun b=>if b<σ.N then σ.L b else (0,0)
theorem a8J {σ:S}{w:World}(h:Bw σ.N σ.w w):Wext σ ⟨w,a7b σ⟩ :=
 ⟨h.below.size,fun b hb=>by simp [a7b,hb],fun b o v ho hc=>(Y6 (h.below.block b (W5 hc)) o).trans hc,h.drawn⟩
abbrev a6o (b0 b1:Nat)(w0:World)(i:Nat)(F:Fr)(w:World):Prop:=F 0=.pointer (some ⟨b0,0,none⟩)/\F 1=.pointer (some ⟨b1,0,none⟩)/\w.heap[b0]?=some (.cells (Z1 0).toArray 32 (0,0))/\w.heap[b1]?=some (.cells (Z1 i).toArray 32 (0,0))/\Bw b0 w0 w
theorem b0u (w0:World):Calls Go.Proofs.Tryz.prog 11 ([]:List Value).toArray w0 fun e w'=>e=.returned (.agg (Z1 256).toArray)/\Bw w0.heap.size w0 w':=by
 refine a7U 25 Go.Proofs.Tryz.func11 rfl rfl rfl ?_
 refine wp_seq (wp_region_lit ?_)
 refine a5h tz rfl ?_
 refine wpList_nil (x8 (wp_seq (wp_region_lit ?_)))
 refine a5h tz rfl ?_
 have hz:((Value.agg (Z1 0).toArray).cells.toList).toArray=(Z1 0).toArray:=rfl
 rw [hz]
 generalize hw1:w0.alloc (.cells (Z1 0).toArray 32)=w1
 have n1:w1.heap.size=w0.heap.size+1:=by rw [<- hw1]; exact Array.size_push _
 have g1:w1.heap[w0.heap.size]?=some (.cells (Z1 0).toArray 32 (0,0)):=by rw [<- hw1]; exact heap_alloc_new w0 _
 have k1:Bw w0.heap.size w0 w1:=by rw [<- hw1]; exact ⟨(Below.refl _ _).alloc (Nat.le_refl _) _,Nat.le_refl _⟩
 generalize hw2:w1.alloc (.cells (Z1 0).toArray 32)=w2
 have g2:w2.heap[w0.heap.size]?=some (.cells (Z1 0).toArray 32 (0,0)):=by rw [<- hw2,heap_alloc_old _ _ (by omega)]; exact g1
 have g3:w2.heap[w1.heap.size]?=some (.cells (Z1 0).toArray 32 (0,0)):=by rw [<- hw2]; exact heap_alloc_new w1 _
 have k2:Bw w0.heap.size w0 w2:=k1.trans (by rw [<- hw2]; exact ⟨(Below.refl _ _).alloc (by omega) _,Nat.le_refl _⟩)
 have hne:w0.heap.size≠w1.heap.size:=by omega
 have hle:w0.heap.size<=w1.heap.size:=by omega
 clear hw2 n1 g1 k1 hw1
 generalize w1.heap.size=b1 at *
 generalize w0.heap.size=b0 at *
 refine wpList_nil (x8 (a5n (fun a w=>∃ F,a=fr 25 F/\a6o b0 b1 w0 256 F w) ?_ ?_))
 ·refine wp_seq (wp_region_lit ?_)
  refine Z4 (.int .i64 0) rfl rfl ?_
  refine wpList_nil (x8 (wp_block ?_))
  refine wp_mono (a1X (step:=a8I) (fun i a w=>∃ F,a=fr 25 F/\a6o b0 b1 w0 i F w/\F 4=.int .i64 ((i:Nat):Int)/\i<=256) (fun _ e a w=>e=.exit 0/\∃ F,a=fr 25 F/\a6o b0 b1 w0 256 F w) (by rintro _ _ _ ⟨h,_⟩; cases h) ?_ _ 0 () _ _ a8F ⟨_,rfl,⟨rfl,rfl,g2,g3,k2⟩,rfl,Nat.zero_le _⟩) ?_
  ·rintro i fl a w hst ⟨F,rfl,⟨f0,f1,h0,h1,hB⟩,f4,hi⟩
   simp only [a8I,Option.some.injEq] at hst
   refine wp_seq (wp_region_lit ?_)
   refine V7 (.int .i64 (i:Int)) (.int .i64 256) (.bool (decide ((i:Int)<256))) f4 rfl rfl rfl a69 ?_
   refine wpList_nil (x8 (wp_seq ?_))
   by_cases hlt:i<256
   ·rw [if_pos hlt] at hst
    subst hst
    refine a6f rfl (decide_eq_true (by omega)) rfl (wp_skip (x8 (wp_seq (wp_block (wp_seq (wp_region_lit ?_))))))
    refine Z4 (.int .i64 (i:Int)) f4 rfl ?_
    refine V6 (.int .i64 (i:Int)) rfl rfl ?_
    refine wpList_nil (x8 (wp_seq (wp_region_lit ?_)))
    refine Z4 (.int .i64 (i:Int)) rfl rfl ?_
    refine a2A (.int .i64 (i:Int)) (.int .u32 (nB (BitVec.ofNat 32 i))) rfl rfl (b2P hlt) ?_
    refine V6 (.int .u32 (nB (BitVec.ofNat 32 i))) rfl rfl ?_
    refine wpList_nil (x8 (a5n (fun a w'=>∃ F,a=fr 25 F/\a6o b0 b1 w0 i F w'/\F 2=.int .i64 (i:Int)/\F 4=.int .i64 (i:Int)/\F 3=.int .u32 (nB (tb8 i))) ?_ ?_))
    ·refine wp_seq (wp_region_lit ?_)
     refine Z4 (.int .i64 0) rfl rfl ?_
     refine wpList_nil (x8 (wp_block ?_))
     refine wp_mono (a1X (step:=a86) (fun q a w'=>∃ F,a=fr 25 F/\a6o b0 b1 w0 i F w'/\F 2=.int .i64 (i:Int)/\F 4=.int .i64 (i:Int)/\F 3=.int .u32 (nB q.2)/\F 9=.int .i64 ((q.1:Nat):Int)/\q.1<=8) (fun r e a w'=>e=.exit 2/\∃ F,a=fr 25 F/\a6o b0 b1 w0 i F w'/\F 2=.int .i64 (i:Int)/\F 4=.int .i64 (i:Int)/\F 3=.int .u32 (nB r)) (by rintro _ _ _ ⟨h,_⟩; cases h) ?_ _ (0,BitVec.ofNat 32 i) (tb8 i) _ _ (a8Q _) ⟨_,rfl,⟨f0,f1,h0,h1,hB⟩,rfl,f4,rfl,rfl,Nat.zero_le _⟩) ?_
     ·rintro ⟨k,r⟩ fl a w' hst ⟨F2,rfl,⟨e0,e1,j0,j1,jB⟩,e2,e4,e3,e9,hk⟩
      simp only [a86,Option.some.injEq] at hst
      refine wp_seq (wp_region_lit ?_)
      refine V7 (.int .i64 (k:Int)) (.int .i64 8) (.bool (decide ((k:Int)<8))) e9 rfl rfl rfl a69 ?_
      refine wpList_nil (x8 (wp_seq ?_))
      by_cases hlt2:k<8
      ·rw [if_pos hlt2] at hst
       subst hst
       refine a6f rfl (decide_eq_true (by omega)) rfl (wp_skip (x8 (wp_seq (wp_block (wp_seq (wp_region_lit ?_))))))
       refine Z4 (.int .u32 (nB r)) e3 rfl ?_
       refine V7 (.int .u32 (nB r)) (.int .u32 1) (.int .u32 (nB (r &&& 1#32))) rfl rfl rfl rfl (by rw [<- b0M]; exact b03) ?_
       refine V7 (.int .u32 (nB (r &&& 1#32))) (.int .u32 1) (.bool (nB (r &&& 1#32)==1)) rfl rfl rfl rfl b0W ?_
       refine wpList_nil (x8 ?_)
       rcases hbit:(nB (r &&& 1#32)==1) with _ | _
       ·refine a4A (c:=false) rfl rfl rfl (wp_region_lit ?_)
        refine Z4 (.int .u32 (nB r)) e3 rfl ?_
        refine V7 (.int .u32 (nB r)) (.int .u64 1) (.int .u32 (nB (cst r))) rfl rfl rfl rfl (by rw [(a6S r).2 hbit]; exact a7e (a3A r 1 (by omega))) ?_
        refine V6 (.int .u32 (nB (cst r))) rfl rfl ?_
        refine wpList_nil (a8S (x8 (wp_region_lit ?_)))
        refine V7 (.int .i64 (k:Int)) (.int .i64 1) (.int .i64 (wr .i64 ((k:Int)+1))) e9 rfl rfl rfl a5U ?_
        refine Z4 (.int .i64 (wr .i64 ((k:Int)+1))) rfl rfl ?_
        exact wpList_nil ⟨rfl,_,rfl,⟨e0,e1,j0,j1,jB⟩,e2,e4,rfl,congrArg _ (a53 (by omega)),hlt2⟩
       ·refine a6f (c:=true) rfl rfl rfl (wp_region_lit ?_)
        refine Z4 (.int .u32 (nB r)) e3 rfl ?_
        refine V7 (.int .u32 (nB r)) (.int .u64 1) (.int .u32 (nB (r >>> 1))) rfl rfl rfl rfl (a7e (a3A r 1 (by omega))) ?_
        refine V7 (.int .u32 (nB (r >>> 1))) (.int .u32 2197175160) (.int .u32 (nB (cst r))) rfl rfl rfl rfl (by rw [(a6S r).1 hbit]; exact a7k) ?_
        refine V6 (.int .u32 (nB (cst r))) rfl rfl ?_
        refine wpList_nil (a8S (x8 (wp_region_lit ?_)))
        refine V7 (.int .i64 (k:Int)) (.int .i64 1) (.int .i64 (wr .i64 ((k:Int)+1))) e9 rfl rfl rfl a5U ?_
        refine Z4 (.int .i64 (wr .i64 ((k:Int)+1))) rfl rfl ?_
        exact wpList_nil ⟨rfl,_,rfl,⟨e0,e1,j0,j1,jB⟩,e2,e4,rfl,congrArg _ (a53 (by omega)),hlt2⟩
      ·rw [if_neg hlt2] at hst
       subst hst
       refine a4A rfl (decide_eq_false (by omega)) rfl (wp_exit ?_)
       exact a6K ⟨rfl,_,rfl,⟨e0,e1,j0,j1,jB⟩,e2,e4,e3⟩
     ·rintro e a w' ⟨rfl,F2,rfl,hI,e2,e4,e3⟩
      exact b0q ⟨rfl,F2,rfl,hI,e2,e4,e3⟩
    ·rintro a w' ⟨F3,rfl,⟨e0,e1,j0,j1,jB⟩,e2,e4,e3⟩
     refine wp_region_lit ?_
     refine Z4 (.int .i64 (i:Int)) e2 rfl ?_
     refine Z4 (.int .u32 (nB (tb8 i))) e3 rfl ?_
     refine a8w (i:=i) e1 rfl rfl rfl Go.Proofs.Tryz.underlying32 (by kernel_rfl) hlt ?_
     refine b0n (cs:=Z1 i) j1 i (.int .u32 (nB (tb8 i))) rfl rfl rfl rfl rfl (by kernel_rfl) rfl (by rw [Q2]; exact hlt) ?_
     refine wpList_nil (a8S (x8 (wp_region_lit ?_)))
     refine V7 (.int .i64 (i:Int)) (.int .i64 1) (.int .i64 (wr .i64 ((i:Int)+1))) e4 rfl rfl rfl a5U ?_
     refine Z4 (.int .i64 (wr .i64 ((i:Int)+1))) rfl rfl ?_
     refine wpList_nil ⟨rfl,_,rfl,⟨e0,e1,?_,?_,?_⟩,congrArg _ (a53 (by omega)),hlt⟩
     ·rw [W6 _ _ _ _ _ hne]; exact j0
     ·have:=X6 b1 32 [.int .u32 (nB (tb8 i))] i w' (Z1 i) j1 (by rw [Q2]; simp; omega)
      rw [b0b hlt] at this
      exact this
     ·exact jB.trans (Bw.setCells hle _ _ _)
   ·rw [if_neg hlt] at hst
    subst hst
    have e:i=256:=by omega
    subst e
    refine a4A rfl (decide_eq_false (by omega)) rfl (wp_exit ?_)
    exact a6K ⟨rfl,_,rfl,f0,f1,h0,h1,hB⟩
  ·rintro e a w ⟨rfl,F,rfl,hI⟩
   exact b0q ⟨rfl,F,rfl,hI⟩
 ·rintro a w ⟨F,rfl,f0,f1,h0,h1,hB⟩
  refine wp_seq (wp_region_lit ?_)
  refine a1q b1 0 (.agg (Z1 256).toArray) f1 rfl (a4h (by rw [Q2]; exact b2b) (a3Y h1)) ?_
  refine a7T h0 (.agg (Z1 256).toArray) (Z1 256) f0 rfl rfl rfl rfl (by rw [Q2]; kernel_rfl) (a7O 256) (by rw [Q2,Q2]) fun w' h2 hB2=>?_
  exact wpList_nil (x8 (wp_ret (b2z (b:=b0) (.agg (Z1 256).toArray) rfl rfl f0 (a4h (by rw [Q2]; exact b2b) (a3Y h2)) ⟨rfl,hB.trans (hB2 _ (Nat.le_refl _))⟩)))
def a4C (s:ByteArray)(q:Nat×BitVec 32):Option (Fl (Nat×BitVec 32) (BitVec 32)):=some (match s.data.toList[q.1]? with | some b=>.next (q.1+1,a3l q.2 b) | none=>.done q.2)
theorem a5T (s:ByteArray):∀ (m i:Nat) (r:BitVec 32),s.data.toList.length-i=m->i<=s.data.toList.length->Q4 (a4C s) (m+1) (i,r)=some (a2f (s.data.toList.drop i) r)
 | 0,i,r,hm,hi=>by
   have e:i=s.data.toList.length:=by omega
   subst e
   rw [List.drop_length]
   simp only [Q4,a4C,List.getElem?_eq_none (Nat.le_refl _),a2f,Option.bind]
 | m+1,i,r,hm,hi=>by
   have hlt:i<s.data.toList.length:=by omega
   rw [List.drop_eq_getElem_cons hlt]
   have:=a5T s m (i+1) (a3l r s.data.toList[i]) (by omega) (by omega)
   rw [Q4]
   simp only [a4C,List.getElem?_eq_getElem hlt,a2f,Option.bind]
   exact this
theorem hbT:a0k Go.Proofs.Tryz.prog 11:=⟨_,_,Go.Proofs.Tryz.func11,rfl,by kernel_rfl⟩
theorem hbS:a0k Go.Proofs.Tryz.prog 7:=⟨_,_,Go.Proofs.Tryz.func7,rfl,by kernel_rfl⟩
theorem a9u (s:ByteArray)(hs:s.size<=1000000)(w0:World):Calls Go.Proofs.Tryz.prog 7 [Value.string s].toArray w0 fun e w'=>e=.returned (.int .u32 (a2X s))/\Bw w0.heap.size w0 w':=by
 refine a7U 26 Go.Proofs.Tryz.func7 rfl rfl rfl ?_
 refine wp_seq (wp_region_lit ?_)
 refine V6 (.int .u32 0) rfl rfl ?_
 refine wpList_nil (x8 (wp_seq (wp_region_lit ?_)))
 refine b1c [] rfl rfl hbT (b0u w0) ?_
 rintro e w1 ⟨rfl,hB1⟩
 refine ⟨_,rfl,?_⟩
 refine a5h tz rfl ?_
 have hz:((Value.agg (Z1 0).toArray).cells.toList).toArray=(Z1 0).toArray:=rfl
 rw [hz]
 generalize hw2:w1.alloc (.cells (Z1 0).toArray 32)=w2
 have g2:w2.heap[w1.heap.size]?=some (.cells (Z1 0).toArray 32 (0,0)):=by rw [<- hw2]; exact heap_alloc_new w1 _
 have hle:w0.heap.size<=w1.heap.size:=hB1.below.size
 have k2:Bw w0.heap.size w0 w2:=hB1.trans (by rw [<- hw2]; exact ⟨(Below.refl _ _).alloc hle _,Nat.le_refl _⟩)
 clear hw2
 generalize w1.heap.size=b at *
 refine a7T g2 (.agg (Z1 256).toArray) (Z1 256) rfl rfl rfl rfl rfl (by rw [Q2]; kernel_rfl) (a7O _) (by rw [Q2,Q2]) fun w3 h3 hB3=>?_
 refine wpList_nil (x8 (wp_seq (wp_region_lit ?_)))
 refine V6 (.int .u32 4294967295) rfl rfl ?_
 refine wpList_nil (x8 (a5n (fun a w=>∃ F,a=fr 26 F/\F 4=.int .u32 (nB (a2f s.data.toList (BitVec.allOnes 32)))/\w=w3) ?_ ?_))
 ·refine wp_seq (wp_region_lit ?_)
  refine Z4 (.string s) rfl rfl ?_
  refine a8e s rfl rfl Go.Proofs.Tryz.underlying9 ?_
  refine Z4 (.int .i64 0) rfl rfl ?_
  refine wpList_nil (x8 (wp_block ?_))
  refine wp_mono (a1X (step:=a4C s) (fun q a w=>∃ F,a=fr 26 F/\F 0=.string s/\F 3=.pointer (some ⟨b,0,none⟩)/\F 4=.int .u32 (nB q.2)/\F 8=.int .i64 (s.size:Int)/\F 9=.int .i64 ((q.1:Nat):Int)/\q.1<=s.size/\w=w3) (fun r e a w=>e=.exit 0/\∃ F,a=fr 26 F/\F 4=.int .u32 (nB r)/\w=w3) (by rintro _ _ _ ⟨h,_⟩; cases h) ?_ _ (0,BitVec.allOnes 32) _ _ _ (a5T s _ 0 _ rfl (Nat.zero_le _)) ⟨_,rfl,rfl,rfl,congrArg _ b2S,rfl,rfl,Nat.zero_le _,rfl⟩) ?_
  ·rintro ⟨i,r⟩ fl a w hst ⟨F,rfl,f0,f3,f4,f8,f9,hi,rfl⟩
   have hsz:s.data.toList.length=s.size:=Array.length_toList
   refine wp_seq (wp_region_lit ?_)
   refine V7 (.int .i64 (i:Int)) (.int .i64 (s.size:Int)) (.bool (decide ((i:Int)<(s.size:Int)))) f9 f8 rfl rfl a69 ?_
   refine wpList_nil (x8 (wp_seq ?_))
   rcases hx:s.data.toList[i]? with _ | c
   ·simp only [a4C,hx,Option.some.injEq] at hst
    subst hst
    have hge:s.data.toList.length<=i:=List.getElem?_eq_none_iff.1 hx
    refine a4A rfl (decide_eq_false (by omega)) rfl (wp_exit ?_)
    exact a6K ⟨rfl,_,rfl,f4,rfl⟩
   ·simp only [a4C,hx,Option.some.injEq] at hst
    subst hst
    have hlt:i<s.data.toList.length:=(List.getElem?_eq_some_iff.1 hx).1
    have hsi:a2k s (i:Int)=some c:=by
     unfold a2k
     rw [if_pos (Int.natCast_nonneg i),Int.toNat_natCast,<- hx,Array.getElem?_toList]
     rfl
    refine a6f rfl (decide_eq_true (by omega)) rfl (wp_skip (x8 (wp_seq (wp_block (wp_seq (wp_region_lit ?_))))))
    refine Z4 (.int .i64 (i:Int)) f9 rfl ?_
    refine V6 (.int .i64 (i:Int)) rfl rfl ?_
    refine wpList_nil (x8 (wp_region_lit ?_))
    refine Z4 (.int .u32 (nB r)) f4 rfl ?_
    refine V7 (.int .u32 (nB r)) (.int .u64 8) (.int .u32 (nB (r >>> 8))) rfl rfl rfl rfl (a7e (a3A r 8 (by omega))) ?_
    refine Z4 (.int .u32 (nB r)) f4 rfl ?_
    refine a2A (.int .u32 (nB r)) (.int .u8 (wr .u8 (nB r))) rfl rfl (a7n (by rw [Go.Proofs.Tryz.underlying26]; rfl) Go.Proofs.Tryz.underlying5) ?_
    refine Z4 (.string s) f0 rfl ?_
    refine Z4 (.int .i64 (i:Int)) rfl rfl ?_
    refine a6p (.string s) (.int .i64 (i:Int)) (.int .u8 (c.toNat:Int)) rfl rfl rfl rfl (a9w Go.Proofs.Tryz.underlying9 hsi) ?_
    refine V7 (.int .u8 (wr .u8 (nB r))) (.int .u8 (c.toNat:Int)) (.int .u8 (Int.ofNat (ix8 r c))) rfl rfl rfl rfl (by rw [<- b2R]; exact a7k) ?_
    refine a8w (i:=ix8 r c) f3 rfl rfl rfl Go.Proofs.Tryz.underlying32 (by kernel_rfl) (a4u r c) ?_
    refine a1q b (ix8 r c) (.int .u32 (nB (tb8 (ix8 r c)))) rfl rfl (a3V b2L ?_) ?_
    ·have:=a3Y h3 (ix8 r c) _ (a4B (a4u r c))
     rw [if_pos (a4u r c),Nat.zero_add] at this
     exact this
    refine V7 (.int .u32 (nB (r >>> 8))) (.int .u32 (nB (tb8 (ix8 r c)))) (.int .u32 (nB (a3l r c))) rfl rfl rfl rfl (by rw [b0F,<- a7d]; exact a7k) ?_
    refine V6 (.int .u32 (nB (a3l r c))) rfl rfl ?_
    refine wpList_nil (a8S (x8 (wp_region_lit ?_)))
    refine V7 (.int .i64 (i:Int)) (.int .i64 1) (.int .i64 (wr .i64 ((i:Int)+1))) f9 rfl rfl rfl a5U ?_
    refine Z4 (.int .i64 (wr .i64 ((i:Int)+1))) rfl rfl ?_
    exact wpList_nil ⟨rfl,_,rfl,f0,f3,rfl,f8,congrArg _ (a53 (by omega)),by omega,rfl⟩
  ·rintro e a w ⟨rfl,F,rfl,f4,rfl⟩
   exact b0q ⟨rfl,F,rfl,f4,rfl⟩
 ·rintro a w ⟨F,rfl,f4,rfl⟩
  refine wp_seq (wp_region_lit ?_)
  refine Z4 (.int .u32 (nB (a2f s.data.toList (BitVec.allOnes 32)))) f4 rfl ?_
  refine a89 (.int .u32 (nB (a2f s.data.toList (BitVec.allOnes 32)))) (.int .u32 (a2X s)) rfl rfl (by unfold a2X; rw [<- b0Q]; exact b0L) ?_
  refine V6 (.int .u32 (a2X s)) rfl rfl ?_
  exact wpList_nil (x8 (wp_ret (b2n (.int .u32 (a2X s)) rfl rfl rfl ⟨rfl,k2.trans (hB3 _ hle)⟩)))
theorem b1Y:a4K Go.Proofs.Tryz.prog (⟨7,[.d .str],[.k (.d (.int .u32))],a3F⟩:Row I):=by
 intro σ a vs pls res hA hnd happ
 obtain ⟨v1,vs1,p1,q1,e1,e2,⟨e3,e4⟩,e5,e6⟩:=hA
 obtain ⟨s,u⟩:=a
 subst e1 e2 e4 e5 e6
 have e3:v1=.string s:=e3
 subst e3
 have happ:a3F s=some res:=happ
 unfold a3F at happ
 obtain ⟨hle,happ⟩:=z7 happ
 cases happ
 refine .inl ⟨hbS,(a9u s (Nat.le_of_ble_eq_true hle) σ.w).mono fun e w' ⟨e1,hB⟩=>⟨_,⟨w',a7b σ⟩,e1,rfl,?_,?_⟩⟩
 ·exact ⟨a8J hB,hB.below.os,hB.below.tape,hB.below.output,fun k hk _=>⟨hB.below.block k hk,by simp [a7b,hk]⟩⟩
 ·exact ⟨[_],[],[],rfl,rfl,⟨_,rfl,⟨rfl,rfl⟩⟩,rfl,List.nodup_nil,fun g hg=>by cases hg⟩
end Go.Qx
end
section
namespace Go.Qx
open Go Go.RowKit Go.Sx
set_option maxHeartbeats 1600000
set_option maxRecDepth 100000
abbrev RK (r:Row I):Prop:=a4K Go.Proofs.Tryz.prog r
def mkH (a:List (Nat×List (List Nat)))(b c:List (Nat×List Nat))(j:List (Nat×JH))(l:List (Nat×LH I))(k:List (Nat×KH I))(ns:List (Nat×NH I))(u:List (Nat×Nat)):Hints I :=
 ⟨fun i=>(asc a i).getD [],fun i=>(asc b i).getD [],fun i=>(asc c i).getD [],asc j,asc l,asc k,asc ns,fun i=>(asc u i).getD 0⟩
def K1:Hints I:=mkH [] [] [] [] [] [] [] []
structure En where
 ans:Ans I
 ok:EntOk Go.Proofs.Tryz.prog ans
def enL:List En->List (Ans I)
 | []=>[]
 | e::r=>e.ans::enL r
theorem a9k:∀ l:List En,a8P Go.Proofs.Tryz.prog (enL l)
 | []=>trivial
 | e::r=>⟨e.ok,a9k r⟩
def eR {r:Row I}(h:RK r):En:=⟨b1T tb r,b1r b0O h⟩
theorem okR {r:Row I}(l:List En){fn:Func}(nt:Nat)(H:Hints I)(rl:List ResultVar)(hf:(Go.Proofs.Tryz.prog).funcs[r.f]?=some fn)
 (h : (fn.body, fn.name == "runtime.NumGoroutine", fn.ntmps, fn.results.toList, Nat.ble r.ps.length nt, V0 H (b0v fn) 1, r.run) = (some (b0v fn), false, nt, rl, true, true, a8K r.ps (b0Z tb (a59 (enL l) 3) H (b0v fn) nt r.ps r.rs rl))) : RK r := by
 simp only [Prod.mk.injEq] at h
 obtain ⟨h1,h2,h3,h4,h5,h6,h7⟩:=h
 exact b2g b0O (a7K (a9k l) 3) b2x nt hf h1 h2 h3 h4 h5 h6 h7
def b2h:Row I:=⟨7,[.d (.str)],[.k (.d (.int .u32))],a3F⟩
theorem b0K:a4K Go.Proofs.Tryz.prog b2h:=b1Y
def a48:Row I:=⟨5,[.d (.str)],[.k (.d (.str))],Q5⟩
theorem a0S:RK (a48) :=
 okR [eR b0K] 21 K1 [.tmp 2] Go.Proofs.Tryz.func5 (by kernel_rfl)
def a5l:Row I:=⟨4,[.d (.str)],[.k (.d (.str)),.k (.d (.int .i64))],Q6⟩
theorem a2H:RK (a5l) :=
 okR [eR a0S] 18 K1 [.tmp 2,.tmp 3] Go.Proofs.Tryz.func4 (by kernel_rfl)
def a4n:Hints I:=mkH [] [] [] [(59698,⟨2139095112,[],[],[(.normal,[(3,.k (.d (.int .u32)))])]⟩)] [(58,⟨2147483640,[],[],[(3,.k (.d (.int .u32))),(4,.k (.d (.int .i64)))],[((.exit 0),[(3,.k (.d (.int .u32)))])],bnd tb (.len (.slot 0)) 1⟩),
 (7462,⟨2146959464,[],[],[(3,.k (.d (.int .u32))),(5,.k (.d (.int .i64)))],[((.exit 2),[(3,.k (.d (.int .u32)))])],bnd tb (.cst 8) 1⟩)] [] [] []
def a3G:Row I:=⟨8,[.d (.str)],[.k (.d (.int .u32))],K2⟩
theorem a07:RK (a3G) :=
 okR [] 33 a4n [.tmp 2] Go.Proofs.Tryz.func8 (by kernel_rfl)
def a22:Row I:=⟨9,[.d (.str)],[.k (.d (.str))],J1⟩
theorem a0Z:RK (a22) :=
 okR [eR a07] 21 K1 [.tmp 2] Go.Proofs.Tryz.func9 (by kernel_rfl)
def a28:Row I:=⟨6,[.d (.str)],[.k (.d (.str)),.k (.d (.int .i64))],V8⟩
theorem a3o:RK (a28) :=
 okR [eR a0Z] 19 K1 [.tmp 2,.tmp 3] Go.Proofs.Tryz.func6 (by kernel_rfl)
def a6B:Hints I:=mkH [] [] [] [] [(58,⟨34351349952,[],[],[(7,.k (.d (.int .i64)))],[((.exit 0),[]),(.ret,[(6,.k (.d (.bool)))])],bnd tb (.len (.slot 0)) 1⟩)] [] [] []
def a5f:Row I:=⟨52,[.d (.str),.fn [.int .u8] [.k (.d (.bool))],.fn [.int .u8] [.k (.d (.bool))]],[.k (.d (.bool))],a4l⟩
theorem a6h:RK (a5f) :=
 okR [] 35 a6B [.tmp 6] Go.Proofs.Tryz.func52 (by kernel_rfl)
def a4Z:Row I:=⟨53,[.d (.int .u8)],[.k (.d (.bool))],a1E⟩
theorem a2l:RK (a4Z) :=
 okR [] 9 K1 [.tmp 2] Go.Proofs.Tryz.func53 (by kernel_rfl)
def a41:Row I:=⟨55,[.d (.int .u8)],[.k (.d (.bool))],a3K⟩
theorem a5o:RK (a41) :=
 okR [] 9 K1 [.tmp 2] Go.Proofs.Tryz.func55 (by kernel_rfl)
def a3P:Row I:=⟨54,[.d (.int .u8)],[.k (.d (.bool))],a29⟩
theorem a42:RK (a3P) :=
 okR [eR a2l,eR a5o] 13 K1 [.tmp 2] Go.Proofs.Tryz.func54 (by kernel_rfl)
def a5k:Row I:=⟨31,[.d (.str)],[.k (.d (.bool))],a4g⟩
theorem a5M:RK (a5k) :=
 okR [eR a6h,eR a2l,eR a42] 5 K1 [.tmp 2] Go.Proofs.Tryz.func31 (by kernel_rfl)
def a3N:Row I:=⟨32,[.d (.str)],[.k (.d (.bool))],a3c⟩
theorem a4V:RK (a3N) :=
 okR [] 9 K1 [.tmp 2] Go.Proofs.Tryz.func32 (by kernel_rfl)
def a6H:Row I:=⟨18,[.d (.str)],[.k (.d (.bool))],a3y⟩
theorem a61:RK (a6H) :=
 okR [eR a5M,eR a4V] 10 K1 [.tmp 2] Go.Proofs.Tryz.func18 (by kernel_rfl)
def a3H:Row I:=⟨61,[.d (.str)],[.k (.d (.bool))],a0G⟩
theorem a3M:RK (a3H) :=
 okR [] 6 K1 [.tmp 2] Go.Proofs.Tryz.func61 (by kernel_rfl)
def a2K:Row I:=⟨38,[.d (.str),.d (.str)],[.k (.d (.int .i64))],a1v⟩
theorem a3d:RK (a2K) :=
 okR [eR a3M] 20 K1 [.tmp 4] Go.Proofs.Tryz.func38 (by kernel_rfl)
def a4X:Row I:=⟨62,[.d (.int .i64)],[.k (.d (.bool))],a1y⟩
theorem a5a:RK (a4X) :=
 okR [] 6 K1 [.tmp 2] Go.Proofs.Tryz.func62 (by kernel_rfl)
def a3L:Row I:=⟨39,[.d (.int .i64),.d (.int .i64)],[.k (.d (.int .i64))],a2B⟩
theorem a4p:RK (a3L) :=
 okR [eR a5a] 20 K1 [.tmp 4] Go.Proofs.Tryz.func39 (by kernel_rfl)
def a7Y:Hints I:=mkH [] [] [] [] [(58,⟨130852,[],[],[(8,.k (.d (.int .i64)))],[((.exit 0),[]),(.ret,[(2,.k (.d (.int .i64)))])],bnd tb (.slot 7) 1⟩)] [] [] []
def a6i:Row I:=⟨37,[.d (.sl 3)],[.k (.d (.int .i64))],a5J⟩
theorem a63:RK (a6i) :=
 okR [] 18 a7Y [.tmp 2] Go.Proofs.Tryz.func37 (by kernel_rfl)
def a6w:Hints I:=mkH [(1,[[],[0],[0,1],[],[3],[3,4],[0,1,2,3,4,5],[],[7],[7,8],[],[10],[10,11],[0,1,2,3,4,5,6,7,8,9,10,11,12],[0,1,2,3,4,5,6,7,8,9,10,11,12,13],[0,1,2,3,4,5,6,7,8,9,10,11,12,13,14],[0,1,2,3,4,5,6,7,8,9,10,11,12,13,14,15]])] [] [] [] [] [] [] []
def a5e:Row I:=⟨20,[.d (.dat 57),.d (.dat 57)],[.k (.d (.int .i64))],a4c⟩
theorem a6g:RK (a5e) :=
 okR [eR a3d,eR a4p,eR a63] 21 a6w [.tmp 4] Go.Proofs.Tryz.func20 (by kernel_rfl)
def a7q:Hints I:=mkH [(8,[[],[0],[0,1],[0,1,2],[0,1,2,3],[0,1,2],[0,1,2,5],[0,1,2,3,4,5,6],[0,1,2,3,4,5,6,7],[0,1,2],[0,1,2,3,4,5,6,7,8,9],[0,1,2,3,4,5,6,7,8,9,10],[0,1,2,3,4,5,6,7,8,9,10,11],[0,1,2,3,4,5,6,7,8,9,10,11,12],[0,1,2,3,4,5,6,7,8,9,10,11,12,13],[0,1,2,3,4,5,6,7,8,9,10,11,12,13,14],[0,1,2,3,4,5,6,7,8,9,10,11,12,13,14,15],[0,1,2,3,4,5,6,7,8,9,10,11,12,13,14,15,16],[0,1,2,3,4,5,6,7,8,9,10,11,12,13,14,15,16,17],[0,1,2,3,4,5,6,7,8,9,10,11,12,13,14,15,16,17,18],[0,1,2,3,4,5,6,7,8,9,10,11,12,13,14,15,16,17],[0,1,2,3,4,5,6,7,8,9,10,11,12,13,14,15,16,17,20],[0,1,2,3,4,5,6,7,8,9,10,11,12,13,14,15,16,17,20,21],[0,1,2,3,4,5,6,7,8,9,10,11,12,13,14,15,16,17,18,19,20,21,22],[0,1,2,3,4,5,6,7,8,9,10,11,12,13,14,15,16,17,18,19,20,21,22,23],[0,1,2,3,4,5,6,7,8,9,10,11,12,13,14,15,16,17,18,19,20,21,22,23,24],[0,1,2,3,4,5,6,7,8,9,10,11,12,13,14,15,16,17,18,19,20,21,22,23,24,25]])] [] [] [] [(58,⟨18889465931478580592668,[],[],[(18,.k (.d (.int .i64)))],[((.exit 0),[]),(.ret,[(2,.k (.d (.bool)))])],bnd tb (.slot 17) 1⟩)] [] [] []
def a6u:Row I:=⟨14,[.d (.dat 36)],[.k (.d (.bool))],a3x⟩
theorem a3J:RK (a6u) :=
 okR [eR a61,eR a6g] 74 a7q [.tmp 2] Go.Proofs.Tryz.func14 (by kernel_rfl)
def a2b:Hints I:=mkH [] [] [] [] [(12,⟨268431376,[],[(0,.lvs [.row 5 false])],[(4,.k (.d (.int .u64)))],[((.exit 0),[(4,.k (.d (.int .u64)))])],bnd tb (.slot 4) 2⟩)] [] [] []
def a1A:Row I:=⟨45,[.var 43 (.lvs [.row 5 false]) true,.d (.int .i64)],[],V4⟩
theorem a0b:RK (a1A) :=
 okR [] 39 a2b [] Go.Proofs.Tryz.func45 (by kernel_rfl)
def a2v:Row I:=⟨22,[.var 43 (.lvs [.row 5 false]) true,.d (.str)],[],a05⟩
theorem a2M:RK (a2v) :=
 okR [eR a0b] 17 K1 [] Go.Proofs.Tryz.func22 (by kernel_rfl)
def a11:Row I:=⟨23,[.var 43 (.lvs [.row 5 false]) true,.d (.bool)],[],a0U⟩
theorem a2m:RK (a11) :=
 okR [] 23 K1 [] Go.Proofs.Tryz.func23 (by kernel_rfl)
def a1k:Hints I:=mkH [] [] [] [] [(14,⟨4178048,[],[],[(14,.k (.d (.int .i64)))],[((.exit 0),[])],bnd tb (.slot 13) 1⟩)] [] [] []
def a0Q:Row I:=⟨24,[.var 43 (.lvs [.row 5 false]) true,.d (.sl 57),.d (.any)],[],X7⟩
theorem a01:RK (a0Q) :=
 okR [eR a0b] 22 a1k [] Go.Proofs.Tryz.func24 (by kernel_rfl)
def a2o:Row I:=⟨15,[.var 43 (.lvs [.row 5 false]) true,.d (.dat 36)],[],a03⟩
theorem a2Z:RK (a2o) :=
 okR [eR a2M,eR a2m,eR a01] 18 K1 [] Go.Proofs.Tryz.func15 (by kernel_rfl)
def a4k:Row I:=⟨12,[.d (.dat 36)],[.k (.d (.str)),.k (.d (.int .i64))],a26⟩
theorem a43:RK (a4k) :=
 okR [eR a3J,eR a2Z,eR a0S] 19 K1 [.tmp 2,.tmp 3] Go.Proofs.Tryz.func12 (by kernel_rfl)
def a2q:Row I:=⟨30,[.var 47 (.k (.d (.dat 47))) true,.d (.int .i64)],[],w8⟩
theorem w7:RK (a2q) :=
 okR [] 13 K1 [] Go.Proofs.Tryz.func30 (by kernel_rfl)
def a3g:Hints I:=mkH [(1,[[],[0],[0,1],[0,1,2],[0,1,2,3],[0,1,2,3,4],[0,1,2,3,4,5],[0,1,2,3,4,5,6],[0,1,2,3,4,5,6,7],[0,1,2,3,4,5,6,7,8],[0,1,2,3,4,5],[0,1,2,3,4,5,10],[0,1,2,3,4,5,10,11],[0,1,2,3,4,5,10,11,12],[0,1,2,3,4,5,10,11,12,13],[0,1,2,3,4,5,6,7,8,9,10,11,12,13,14],[0,1,2,3,4,5,6,7,8,9,10,11,12,13,14,15]]),(5,[[],[0],[0,1],[0,1,2],[],[4],[4,5],[4,5,6],[4,5,6,7],[0,1,2,3,4,5,6,7,8],[0,1,2,3,4,5,6,7,8,9]])] [] [] [] [] [] [] []
def a2t:Row I:=⟨49,[.var 47 (.k (.d (.dat 47))) true],[.k (.d (.int .u8))],X9⟩
theorem a0y:RK (a2t) :=
 okR [eR w7] 39 a3g [.tmp 2] Go.Proofs.Tryz.func49 (by kernel_rfl)
def a14 (n:Nat):Hints I:=mkH [] [] [] [(1925,⟨50331648,[],[(0,.k (.d (.dat 47)))],[(.normal,[])]⟩)] [(30,⟨281474976710652,[],[(0,.k (.d (.dat 47)))],[(3,.k (.d (.int .u64))),(4,.k (.d (.int .i64)))],[(.ret,[(2,.k (.d (.int .i64)))])],fun _=>some n⟩)] [] [] []
def a1z (n:Nat):Row I:=⟨73,[.var 47 (.k (.d (.dat 47))) true],[.k (.d (.int .i64))],a0A n⟩
theorem a1J (n:Nat):RK (a1z n) :=
 okR [eR a0y,eR w7] 48 (a14 n) [.tmp 2] Go.Proofs.Tryz.func73 (by kernel_rfl)
def a1M (n:Nat):Row I:=⟨50,[.var 47 (.k (.d (.dat 47))) true],[.k (.d (.int .i64))],a0M n⟩
theorem a16 (n:Nat):RK (a1M n) :=
 okR [eR (a1J n)] 5 K1 [.tmp 2] Go.Proofs.Tryz.func50 (by kernel_rfl)
def a2n (_:Nat):Hints I:=mkH [] [] [] [(29,⟨768,[],[(0,.k (.d (.dat 47)))],[(.normal,[])]⟩)] [] [] [] []
def a1R (n:Nat):Row I:=⟨48,[.var 47 (.k (.d (.dat 47))) true],[.k (.d (.int .i64))],W1 n⟩
theorem a0e (n:Nat):RK (a1R n) :=
 okR [eR (a16 n),eR w7] 16 (a2n n) [.tmp 2] Go.Proofs.Tryz.func48 (by kernel_rfl)
def a3j (_:Nat):Hints I:=mkH [(2,[[],[],[1],[1,2],[1,2,3],[1,2,3,4],[],[6],[6,7],[6,7,8],[1,2,3,4,5,6,7,8,9],[0,1,2,3,4,5,6,7,8,9,10]]),(6,[[],[0],[0,1],[0,1,2],[],[4],[4,5],[4,5,6],[],[4,5,6,7,8],[],[10],[10,11],[10,11,12],[0,1,2,3,4,5,6,7,8,9,10,11,12,13],[0,1,2,3,4,5,6,7,8,9,10,11,12,13,14]])] [] [] [] [] [] [] []
def a2p (n:Nat):Row I:=⟨26,[.var 47 (.k (.d (.dat 47))) true],[.k (.d (.str))],a06 n⟩
theorem a2O (n:Nat):RK (a2p n) :=
 okR [eR (a0e n),eR w7] 43 (a3j n) [.tmp 2] Go.Proofs.Tryz.func26 (by kernel_rfl)
def a20:Hints I:=mkH [] [] [] [(29,⟨768,[],[(0,.k (.d (.dat 47)))],[(.normal,[])]⟩)] [] [] [] []
def a1Z:Row I:=⟨27,[.var 47 (.k (.d (.dat 47))) true],[.k (.d (.bool))],a0T⟩
theorem a2r:RK (a1Z) :=
 okR [eR a0y,eR w7] 12 a20 [.tmp 2] Go.Proofs.Tryz.func27 (by kernel_rfl)
def a0F (_:Nat):Hints I:=mkH [] [] [] [] [(58,⟨33554016,[],[],[(5,.k (.row 57 false)),(6,.k (.d (.int .i64)))],[((.exit 0),[(5,.k (.row 57 false))])],bnd tb (.slot 6) 2⟩)] [] [] []
def a0t (n:Nat):Row I:=⟨28,[.var 47 (.k (.d (.dat 47))) true,.d (.any)],[.k (.row 57 false)],V3 n⟩
theorem a0z (n:Nat):RK (a0t n) :=
 okR [eR (a0e n)] 26 (a0F n) [.tmp 4] Go.Proofs.Tryz.func28 (by kernel_rfl)
def a2s (n:Nat):Row I:=⟨16,[.var 47 (.k (.d (.dat 47))) true],[.k (.d (.dat 36))],a04 n⟩
theorem a2Q (n:Nat):RK (a2s n) :=
 okR [eR (a2O n),eR a2r,eR (a0z n)] 12 K1 [.cell 2 36] Go.Proofs.Tryz.func16 (by kernel_rfl)
def a21:Hints I:=mkH [(1,[[],[0],[0,1],[0,1,2],[],[4],[4,5],[4,5,6],[4,5,6,7],[0,1,2,3,4,5,6,7,8]])] [] [] [(13,⟨24576,[],[(0,.k (.d (.dat 47)))],[(.normal,[])]⟩)] [] [] [] []
def a2u:Row I:=⟨17,[.var 47 (.k (.d (.dat 47))) true],[.k (.d (.int .i64))],a02⟩
theorem a2U:RK (a2u) :=
 okR [eR w7] 19 a21 [.tmp 2] Go.Proofs.Tryz.func17 (by kernel_rfl)
def a3U (n:Nat):Row I:=⟨13,[.d (.str)],[.k (.d (.dat 36)),.k (.d (.int .i64))],a25 n⟩
theorem a4W (n:Nat):RK (a3U n) :=
 okR [eR a2H,eR (a2Q n),eR a2U,eR a3J] 34 K1 [.cell 2 36,.tmp 3] Go.Proofs.Tryz.func13 (by kernel_rfl)
def a2R (n:Nat):Row I:=⟨10,[],[.k (.d (.bool))],a0c n⟩
theorem a3e (n:Nat):RK (a2R n) :=
 okR [eR a43,eR (a4W n),eR b0K] 41 K1 [.tmp 0] Go.Proofs.Tryz.func10 (by kernel_rfl)
def a1Q (_:Nat):Hints I:=mkH [(1,[[],[],[1],[1,2],[0,1,2,3],[],[],[6],[6,7],[5,6,7,8],[0,1,2,3,4],[0,1,2,3,4,5,6,7,8,9,10]])] [] [] [] [] [] [] []
def a1s (n:Nat):Row I:=⟨3,[.d (.str),.d (.str),.d (.int .i64),.d (.int .u8)],[.k (.d (.bool))],Y8 n⟩
theorem a1D (n:Nat):RK (a1s n) :=
 okR [eR a0S,eR a2H,eR a3o,eR b0K,eR a07,eR a0Z,eR (a3e n)] 75 (a1Q n) [.tmp 8] Go.Proofs.Tryz.func3 (by kernel_rfl)
end Go.Qx
end
section
namespace Go.Pl
open Go Go.RowKit Go.Sx Go.Qx Go.Proofs.YtpkjmilfikjpkaaGreatDoor
def a3q (w:World):S:=⟨w,fun b=>match w.heap[b]? with | some (.cells c _ _)=>(c.size,0) | _=>(0,0)⟩
section
variable {H:Type}{enc:TypeId×Value->H}{P:Program}{w:World}{base:Nat}{spare:Nat->Bool}{held:Bool}
end
theorem b1p (s:ByteArray):s.data.toList.length=s.size:=Array.length_toList
end Go.Pl
end
section
namespace Go.Pl
open Go Go.RowKit Go.Sx Go.Qx
end Go.Pl
end
section
namespace Go.Pl
open Go Go.RowKit Go.Sx Go.Qx Go.Proofs.YtpkjmilfikjpkaaGreatDoor
theorem c3:Go.Proofs.Tryz.prog.cellsOf 3=1:=by kernel_rfl
theorem c5:Go.Proofs.Tryz.prog.cellsOf 5=1:=by kernel_rfl
section
variable {H:Type}{enc:TypeId×Value->H}{w:World}{base:Nat}{spare:Nat->Bool}{held:Bool}
theorem b2e {n:Nat}{cs:List Value}{x:DataW H×List MemPlace}(h:DataW.trod enc Go.Proofs.Tryz.prog w base spare held n 9 cs=some x):∃ d:ByteArray,(rpStr).cells (a3q w) d cs/\a4N d<=Rows.uptoBulk x.1:=by
 obtain ⟨s,rfl,rfl,_⟩:=DataW.trod_string Go.Proofs.Tryz.underlying9 h
 refine ⟨s,rfl,?_⟩
 simp only [Rows.uptoBulk,a4N]
 have:s.data.toList.length=s.size:=b1p s
 omega
end
end Go.Pl
end

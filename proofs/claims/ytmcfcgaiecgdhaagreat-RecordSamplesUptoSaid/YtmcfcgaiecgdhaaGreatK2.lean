/- Part 2. -/
import Derived.Test.YtmcfcgaiecgdhaaGreatK0
import Derived.Test.YtmcfcgaiecgdhaaGreatK1
import Derived.ChangeKeysEq
import Derived.Shelf.SlSortCmp.NoneTotal
import Derived.Shelf.Slices.In.SortNone
import Derived.Shelf.Sort.Plain
section
namespace Go.Qx
open Go Go.RowKit Go.Sx
section
variable {I:TypeId->Type} [∀ E,Rp (I E)]
def c7g (rs:List V)(p:PV I):Option (List (PV I)):=match rs with
 | [_]=>some [p]
 | _=>match p with
   | .tup ls=>some ls
   | _=>none
def c5s (tb:Tab I):(ks:List Kd)->Tys I ks->List (PV I)
 | [],_=>[]
 | k::ks,q=>b1g tb k q.1::c5s tb ks q.2
def d2z (tb:Tab I)(rs:List V)(e:Ef I):Option (TyT I rs) :=
 bif b0o e.upd&&b0o e.new then Option.bind (c7g rs e.p) fun ps=>Option.bind (a5a tb (fun _=>none) rs ps) fun x=>bif b0o x.2.1&&b0o x.2.2 then some x.1 else none else none
def c4F (tb:Tab I)(disp:a1B I)(O:Obs I)(nb:Nat)(f:FuncId)(ls:List (PV I))(ks:List Kd)(rs:List V):Fun I ks (TyT I rs):=cur ks fun q=>disp (TyT I rs) f O nb (c5s tb ks q++ls) (d2z tb rs)
structure AccT where
 pub:List Nat
 all:List (Option Nat)
 gv:List (Nat×TypeId×V)
 rv:List Nat
def c5a (ks:List Kd)(rs:List V)(ks':List Kd)(rs':List V)(g:Fun I ks' (TyT I rs')):Option (Fun I ks (TyT I rs)):=if h:ks'=ks/\rs'=rs then some (h.1▸h.2▸g) else none
def c8f (tb:Tab I)(O:Obs I)(T:TypeId)(v:V)(w:Bool)(p:PV I):Option (TyV I v×AccT):=match p with
 | .ptr l 0=>match O l with
   | some (some (.var T' ls w'))=>bif Nat.beq T T'&&(w'||!w) then Option.bind (b9a v ls) fun p=>Option.bind (b82 tb O v p) fun x =>
      bif w then some (x.1,⟨x.2.1,some l::x.2.2,[(l,T,v)],[]⟩) else bif b0o x.2.2 then some (x.1,⟨x.2.1,[none],[],[l]⟩) else none else none
   | _=>none
 | _=>none
def c5f (O:Obs I)(E:TypeId)(p:PV I):Option (List (I E)×List Nat):=match p with
 | .vw l=>match O l with
   | some (some (.row E' xs _))=>Option.bind (a21 E E' xs) fun ys=>some (ys,[l])
   | some (some (.ro E' xs))=>Option.bind (a21 E E' xs) fun ys=>some (ys,[])
   | some (some (.bo E' xs))=>Option.bind (a21 E E' xs) fun ys=>some (ys,[])
   | _=>none
 | .sl E' xs _=>Option.bind (a21 E E' xs) fun ys=>some (ys,[])
 | .nl _=>some ([],[])
 | _=>none
def a9c (tb:Tab I)(disp:a1B I)(O Oc:Obs I)(nb:Nat):(ps:List Pk)->List (PV I)->Option (a3A I ps×AccT)
 | [],[]=>some ((),⟨[],[],[],[]⟩)
 | .d k::r,p::ps=>Option.bind (b6I tb O k p) fun x=>Option.bind (a9c tb disp O Oc nb r ps) fun y=>some ((x.1,y.1),⟨x.2++y.2.pub,y.2.all,y.2.gv,y.2.rv⟩)
 | .var T v w::r,p::ps=>Option.bind (c8f tb O T v w p) fun x=>Option.bind (a9c tb disp O Oc nb r ps) fun y=>some ((x.1,y.1),⟨x.2.pub++y.2.pub,x.2.all++y.2.all,x.2.gv++y.2.gv,x.2.rv++y.2.rv⟩)
 | .row E fl::r,p::ps=>Option.bind (a96 tb O (.row E fl) p) fun x=>Option.bind (a9c tb disp O Oc nb r ps) fun y=>some ((x.1,y.1),⟨x.2.1++y.2.pub,x.2.2++y.2.all,y.2.gv,y.2.rv⟩)
 | .fn ks rs::r,p::ps=>Option.bind (a9c tb disp O Oc nb r ps) fun y=>match p with
   | .fn ks' rs' g=>Option.bind (c5a ks rs ks' rs' g) fun g'=>some ((g',y.1),y.2)
   | .clo f ls=>bif tb.fb f then some ((c4F tb disp Oc nb f ls ks rs,y.1),y.2) else none
   | _=>none
 | .val v::r,p::ps=>Option.bind (b82 tb O v p) fun x=>Option.bind (a9c tb disp O Oc nb r ps) fun y=>some ((x.1,y.1),⟨x.2.1++y.2.pub,x.2.2++y.2.all,y.2.gv,y.2.rv⟩)
 | .bor E::r,p::ps=>Option.bind (c5f O E p) fun x=>Option.bind (a9c tb disp O Oc nb r ps) fun y=>some ((x.1,y.1),⟨y.2.pub,none::y.2.all,y.2.gv,x.2++y.2.rv⟩)
 | _,_=>none
def grN (O:Obs I):List Pk->List (PV I)->List Nat
 | .var _ _ true::r,.ptr l _::ps=>(l::nest O [l])++grN O r ps
 | .row _ _::r,p::ps=>c4e p++grN O r ps
 | .val _::r,p::ps=>c4e p++grN O r ps
 | _::r,_::ps=>grN O r ps
 | _,_=>[]
def a3O:List (Option Nat)->List (Nat×Option (Ob I))
 | []=>[]
 | some l::r=>(l,none)::a3O r
 | none::r=>a3O r
def a7q:List (Nat×TypeId×V)->List (PV I)->List (Nat×Option (Ob I))
 | x::r,p::ps=>(x.1,some (.var x.2.1 (a7L x.2.2 p) true))::a7q r ps
 | _,_=>[]
def c2x (gr:List Nat)(a:AccT):Bool:=b0D a.pub a.all&&a.all.all (fun x=>match x with | some l=>W4 l gr | none=>true)&&a.rv.all (fun l=>!(W4 l gr))
def c39 (tb:Tab I)(r:Row I)(disp:a1B I)(ρ:Type)(O:Obs I)(nb:Nat)(ps:List (PV I))(k:Ef I->Option ρ):Option ρ :=
 Option.bind (a9c tb disp O (roO [] (Q3 (grN O r.ps ps) O)) nb r.ps ps) fun a =>
 bif c2x (grN O r.ps ps) a.2 then Option.bind (b4m r.ps r.run a.1) fun res =>
  k ⟨b09 ((pvT tb nb (r.rs++Y5 r.ps) res).take r.rs.length),Q9 O a.2.pub++a3O a.2.all++a7q a.2.gv ((pvT tb nb (r.rs++Y5 r.ps) res).drop r.rs.length),obT (r.rs++Y5 r.ps) res⟩ else none
structure Ans (I:TypeId->Type) where
 f:FuncId
 go:a1B I->(ρ:Type)->Obs I->Nat->List (PV I)->(Ef I->Option ρ)->Option ρ
structure EntOk (P:Program)(e:Ans I):Prop where
 par:∀ (disp:a1B I) (ρ:Type) (O:Obs I) (nb:Nat) (ps:List (PV I)) (k:Ef I->Option ρ),e.go disp ρ O nb ps k=(e.go disp (Ef I) O nb ps some).bind k
 ok:∀ (disp:a1B I),DispOk P disp->∀ (O:Obs I) (nb:Nat) (ps:List (PV I)) (ef:Ef I),e.go disp (Ef I) O nb ps some=some ef->c8A P e.f O nb ps ef
def c1s (f:FuncId):List (Ans I)->Option (Ans I)
 | []=>none
 | e::r=>bif Nat.beq e.f f then some e else c1s f r
def c2s (es:List (Ans I)):Nat->a1B I
 | 0=>fun _ _ _ _ _ _=>none
 | d+1=>fun ρ f O nb ps k=>match c1s f es with
   | some e=>e.go (c2s es d) ρ O nb ps k
   | none=>none
def d3g (tb:Tab I)(r:Row I):Ans I:=⟨r.f,c39 tb r⟩
def b5m (tb:Tab I)(r:Row I)(chk:Obs I->List (PV I)->Bool)(disp:a1B I)(ρ:Type)(O:Obs I)(nb:Nat)(ps:List (PV I))(k:Ef I->Option ρ):Option ρ:=bif chk O ps then c39 tb r disp ρ O nb ps k else none
def d00 (tb:Tab I)(r:Row I)(chk:Obs I->List (PV I)->Bool):Ans I:=⟨r.f,b5m tb r chk⟩
def c7t (P:Program):List (Ans I)->Prop
 | []=>True
 | e::r=>EntOk P e/\c7t P r
variable {P:Program}{tb:Tab I}{X:Cxt}{c c':Cx}{σ τ:S}{s:St I}{n:Nat}{F:Fr}{O:Obs I}
theorem c0J {f:FuncId}:∀ {es:List (Ans I)} {e:Ans I},c7t P es->c1s f es=some e->EntOk P e/\e.f=f
 | [],_,_,h=>by cases h
 | x::r,e,ha,h=>by
   simp only [c1s] at h
   cases hb:Nat.beq x.f f with
   | true=>rw [hb] at h; cases h; exact ⟨ha.1,Nat.eq_of_beq_eq_true hb⟩
   | false=>rw [hb] at h; exact c0J ha.2 h
theorem b6L {es:List (Ans I)}(h:c7t P es):∀ d,DispOk P (c2s es d)
 | 0=>⟨fun _ _ _ _ _ _=>rfl,fun _ _ _ _ _ h=>by cases h⟩
 | d+1=>by
   refine ⟨fun ρ f O nb ps k=>?_,fun f O nb ps e he=>?_⟩
   ·simp only [c2s]
    cases hf:c1s f es with
    | none=>rfl
    | some e=>exact (c0J h hf).1.par _ _ _ _ _ _
   ·simp only [c2s] at he
    split at he
    ·rename_i x hx
     obtain ⟨h1,h2⟩:=c0J h hx
     rw [<- h2]
     exact h1.ok _ (b6L h d) O nb ps e he
    ·cases he
theorem c6q (ht:TabOk P tb):∀ {ks:List Kd} {q:Tys I ks} {vs:List Value},DVs σ ks q vs->RVs X c σ (c5s tb ks q) vs
 | [],_,_,h=>by simpa only [c5s,RVs,DVs] using h
 | k::ks,q,_,⟨v,r,e,h1,h2⟩=>by
   simp only [c5s,RVs]
   exact ⟨v,r,e,b9v ht h1,c6q ht h2⟩
omit [∀ E,Rp (I E)] in
theorem c4Z:∀ {vs:List V} {ps:List (PV I)} {x},a5a tb O vs ps=some x->ps.length=vs.length
 | [],[],_,_=>rfl
 | [_],[_],_,_=>rfl
 | _::v'::vs,p::ps,_,h=>by
   obtain ⟨y,hy,h⟩:=bind_some h
   obtain ⟨z,hz,h⟩:=bind_some h
   have:=c4Z (vs:=v'::vs) hz
   simp [this]
 | [],_::_,_,h=>by simp [a5a] at h
 | [_],[],_,h=>by simp [a5a] at h
 | [_],_::_::_,_,h=>by simp [a5a] at h
 | _::_::_,[],_,h=>by simp [a5a] at h
theorem d3l (ht:TabOk P tb){disp:a1B I}(hd:DispOk P disp)(hX:X.P=P)(h:Rel X c σ s n F){gr:List Nat}{Oc:Obs I}(hOc:∀ l o,Oc l=some (some o)->roO [] (Q3 gr s.O) l=some (some o)){M:Nat->Prop}
 (hM:∀ b,M b->σ.N<=b\/∃ l∈gr,Y3 s l/\∃ p,c l=some p/\p.w=some b) {nb:Nat} {f:FuncId} {ls:List (PV I)} {cs:List Value} (hl:RVs X c σ ls cs) {ks:List Kd} {rs:List V} (hbody:a4z P f):c9P P M σ f [] cs ks rs (c4F tb disp Oc nb f ls ks rs):=by
 refine ⟨hbody,rfl,fun τ hτ q vs r hq hr=>?_⟩
 unfold c4F at hr
 rw [c6S,hd.par] at hr
 obtain ⟨e,he,hr⟩:=bind_some hr
 have hMX:∀ b,M b->X.M b:=fun b hb=>by
  rcases hM b hb with hb | ⟨l,_,hlv,p,hc,hw⟩
  ·exact .inl (Nat.le_trans h.base hb)
  ·exact h.mine l p b hlv hc hw
 have h1:Rel X c σ ⟨s.n,s.F,Q3 gr s.O,s.nx⟩ n F:=h.less (fun l o ho=>(Y8 ho).2) (fun l ho=>a3j.1 ho)
 have hi1:∀ g,M g->notIn c σ (⟨s.n,s.F,Q3 gr s.O,s.nx⟩:St I) g:=fun g hg=>by
  rcases hM g hg with hb | ⟨l',hl',hlv,p',hc',hw'⟩
  ·exact (h.fresh hb).sub fun l E E' u xs q e=>(Y8 e).2
  ·exact (h.owned hlv hc' hw').sub fun l E E' u xs q e=>(Y8 e).2
 have h2:Rel X c τ ⟨s.n,s.F,Q3 gr s.O,s.nx⟩ n F:=h1.stepG hτ hMX (hi:=hi1) fun l p g ⟨o,ho⟩ hc hw hm=>by
  obtain ⟨k1,k2⟩:=Y8 ho
  have hlt:=(h.objs l o k2).lt hc hw
  rcases hM g hm with hb | ⟨l',hl',hlv,p',hc',hw'⟩
  ·have:σ.N<=g:=hb
   omega
  ·exact k1 (by rw [h.inj l l' p p' g ⟨o,k2⟩ hlv hc hc' hw hw']; exact hl')
 have h3:=enter h2 []
 have hlτ:RVs X c τ ls cs:=RVs.step (hτ.mono fun b _ hb=>hMX b hb) _ _ hl
 have hconv:RVs (J8 X c τ ⟨s.n,s.F,Q3 gr s.O,s.nx⟩ []) (roC [] c) τ ls cs:=RVs.conv (X:=X) (X':=J8 X c τ ⟨s.n,s.F,Q3 gr s.O,s.nx⟩ []) (c:=c) rfl (a7t h2 []) (fun l p hp=>⟨none,by simp [roC,W4,hp]⟩) _ _ hlτ
 have hnil:e.upd=[]/\e.new=[]/\∃ ps,c7g rs e.p=some ps/\∃ x,a5a tb (fun _=>none) rs ps=some x/\x.2.1=[]/\x.2.2=[]/\x.1=r:=by
  unfold d2z at hr
  obtain ⟨hb,hr⟩:=k7 hr
  simp only [Bool.and_eq_true] at hb
  obtain ⟨ps,hps,hr⟩:=bind_some hr
  obtain ⟨x,hx,hr⟩:=bind_some hr
  obtain ⟨hb2,hr⟩:=k7 hr
  simp only [Bool.and_eq_true] at hb2
  cases hr
  exact ⟨a6h hb.1,a6h hb.2,ps,hps,x,hx,a6h hb2.1,a6h hb2.2,rfl⟩
 obtain ⟨n1,n2,ps,hps,x,hx,x1,x2,hxr⟩:=hnil
 have hc:=hd.ok _ _ _ _ _ he (J8 X c τ ⟨s.n,s.F,Q3 gr s.O,s.nx⟩ []) (roC [] c) τ (roS [] ⟨s.n,s.F,Q3 gr s.O,s.nx⟩) n F (vs++cs) hX hOc h3 (RVs.app _ _ _ _ (c6q ht hq) hconv) (by rw [n2]; rfl)
 rw [<- List.nil_append vs] at hc
 refine a2K.mono hc rfl fun v υ hst ⟨c',_,hrel,hv⟩=>⟨υ,rfl,hst.mono fun b hb hm=>?_,?_⟩
 ·rcases hm with hm | ⟨_,hm,_⟩
  ·have:τ.N<=b:=hm
   omega
  ·cases hm
 ·have hlen:=c4Z hx
  have hws:∃ ws,v=b2K ws/\RVs (J8 X c τ ⟨s.n,s.F,Q3 gr s.O,s.nx⟩ []) c' υ ps ws:=by
   unfold c7g at hps
   split at hps
   ·cases hps
    exact ⟨[v],rfl,by simp only [RVs]; exact ⟨v,[],rfl,hv,rfl⟩⟩
   ·rename_i hne
    split at hps
    ·rename_i ls' e'
     cases hps
     rw [e'] at hv
     simp only [RV] at hv
     obtain ⟨ws,rfl,hws⟩:=hv
     refine ⟨ws,?_,hws⟩
     have hl2:=RVs.len _ _ hws
     cases ws with
     | nil=>rfl
     | cons a r =>
       cases r with
       | nil =>
         exfalso
         cases rs with
         | nil=>simp at hl2; rw [<- hl2] at hlen; simp at hlen
         | cons a' r' =>
           cases r' with
           | nil=>exact hne a' rfl
           | cons=>simp at hl2 hlen; omega
       | cons=>rfl
    ·cases hps
  obtain ⟨ws,hw1,hw2⟩:=hws
  obtain ⟨x0,xl,xr⟩:=x
  simp only at x1 x2 hxr
  subst x1
  subst x2
  subst hxr
  obtain ⟨pls,t1,t2⟩:=b5P ht a4g.none_ Rows.none_ hx (fun _ h=>h) (fun _ h=>by cases h) hw2
  have:pls=[]:=t2
  subst this
  exact ⟨ws,hw1,t1⟩
omit [∀ E,Rp (I E)] in
theorem c9d {ks ks':List Kd}{rs rs':List V}{g:Fun I ks' (TyT I rs')}{g':Fun I ks (TyT I rs)}(h:c5a ks rs ks' rs' g=some g'):∃ (e1:ks'=ks) (e2:rs'=rs),g'=e1▸e2▸g:=by
 unfold c5a at h
 split at h
 ·rename_i e; cases h; exact ⟨e.1,e.2,rfl⟩
 ·cases h
def a7y:List Pk->List (TypeId×V)
 | []=>[]
 | .var T v true::r=>(T,v)::a7y r
 | _::r=>a7y r
theorem a5A:∀ (pks:List Pk),(a7y pks).map (·.2)=Y5 pks
 | []=>rfl
 | .var T v true::r=>by simp [a7y,Y5,a5A r]
 | .var T v false::r=>a5A r
 | .d _::r=>a5A r
 | .row _ _::r=>a5A r
 | .fn _ _::r=>a5A r
 | .bor _::r=>a5A r
 | .val _::r=>a5A r
omit [∀ E,Rp (I E)] in
theorem b6i {O:Obs I}{l:Nat}{E:TypeId}{xs:List (I E)}:∀ {ls:List Nat} {O1:Obs I},(∃ fl,O l=some (some (.row E xs fl)))->(∃ fl,O1 l=some (some (.row E xs fl)))->∃ fl,apU O1 (Q9 O ls) l=some (some (.row E xs fl))
 | [],_,_,h=>h
 | a::r,O1,h0,h=>by
   simp only [Q9]
   split
   ·rename_i E' xs' e
    simp only [apU]
    refine b6i h0 ?_
    by_cases el:l=a
    ·subst el
     obtain ⟨fl,h0⟩:=h0
     rw [h0] at e
     cases e
     exact ⟨true,Q8 _ _ _⟩
    ·rw [J0 el]; exact h
   ·exact b6i h0 h
theorem c82 (h:Rel X c σ s n F)(hRw:∀ l E (xs:List (I E)) fl,O l=some (some (.row E xs fl))->∃ fl',s.O l=some (some (.row E xs fl')))(hBo:∀ l E (xs:List (I E)),O l=some (some (.bo E xs))->s.O l=some (some (.bo E xs)))
 {LS:List Nat} (hS:a4g X c σ O LS) {gr:List Nat} {M:Nat->Prop} (hM:∀ b,M b->σ.N<=b\/∃ l∈gr,Y3 s l/\∃ p,c l=some p/\p.w=some b) {E:TypeId} {p:PV I} {x:List (I E)} {rv:List Nat} (hx:c5f O E p=some (x,rv)) (hrv:∀ l∈rv,l ∉ gr) {v:Value} (hv:RV X c σ p v) :
 ∃ A k,v=.slice A x.length k/\Bor M σ x A:=by
 have hMX:∀ b,M b->X.M b:=fun b hb=>by
  rcases hM b hb with hb | ⟨l,_,hlv,p,hc,hw⟩
  ·exact .inl (Nat.le_trans h.base hb)
  ·exact h.mine l p b hlv hc hw
 unfold c5f at hx
 split at hx
 ·rename_i l
  simp only [RV] at hv
  obtain ⟨p,hp,rfl⟩:=hv
  split at hx
  ·rename_i E' xs fl ho
   obtain ⟨ys,hys,hx⟩:=bind_some hx
   cases hx
   obtain ⟨e,rfl⟩:=a0D hys
   subst e
   obtain ⟨fl',hs⟩:=hRw l _ _ _ ho
   obtain ⟨A,k,ow,k1,k2⟩:=h.objs l _ hs
   rw [k1] at hp
   cases hp
   refine ⟨A,k,rfl,Bor.of_own k2 fun g hg hm=>?_⟩
   have hlt:=(h.objs l _ hs).lt k1 (g:=g) hg
   rcases hM g hm with hb | ⟨l',hl',hlv,p',hc',hw'⟩
   ·have hb':σ.w.heap.size<=g:=hb
    have:g<σ.w.heap.size:=hlt
    omega
   ·have e:=h.inj l l' _ p' g ⟨_,hs⟩ hlv k1 hc' hg hw'
    exact hrv l (by simp) (by rw [e]; exact hl')
  ·rename_i E' xs ho
   obtain ⟨ys,hys,hx⟩:=bind_some hx
   cases hx
   obtain ⟨e,rfl⟩:=a0D hys
   subst e
   obtain ⟨A,k,k1,k2⟩:=hS.2.1 l _ _ ho
   rw [k1] at hp
   cases hp
   exact ⟨A,k,rfl,Bor.of_sl k2⟩
  ·rename_i E' xs ho
   obtain ⟨ys,hys,hx⟩:=bind_some hx
   cases hx
   obtain ⟨e,rfl⟩:=a0D hys
   subst e
   obtain ⟨A,k,k1,k2⟩:=h.objs l _ (hBo l _ _ ho)
   rw [k1] at hp
   cases hp
   exact ⟨A,k,rfl,k2.sub fun b _=>hMX b⟩
  ·cases hx
 ·obtain ⟨ys,hys,hx⟩:=bind_some hx
  cases hx
  obtain ⟨e,rfl⟩:=a0D hys
  subst e
  simp only [RV] at hv
  obtain ⟨A,k,e1,e2,_⟩:=hv
  exact ⟨A,k,e1,Bor.of_sl e2⟩
 ·cases hx
  simp only [RV] at hv
  obtain ⟨A,rfl⟩:=hv
  exact ⟨A,0,rfl,[],rfl,fun hn=>absurd rfl hn⟩
 ·cases hx
def a7v (c:Cx)(O:Obs I):List (Nat×TypeId×V)->List Nat->Prop
 | [],bs=>bs=[]
 | x::r,bs=>∃ b bs' ls,bs=b::bs'/\O x.1=some (some (.var x.2.1 ls true))/\c x.1=some ⟨some ⟨b,0,none⟩,0,0,some b⟩/\a7v c O r bs'
theorem a6o (ht:TabOk P tb){disp:a1B I}(hd:DispOk P disp)(hX:X.P=P)(h:Rel X c σ s n F)(hRw:∀ l E (xs:List (I E)) fl,O l=some (some (.row E xs fl))->∃ fl',s.O l=some (some (.row E xs fl')))(hBo:∀ l E (xs:List (I E)),O l=some (some (.bo E xs))->s.O l=some (some (.bo E xs)))(hO:∀ l T ls w,O l=some (some (.var T ls w))->s.O l=some (some (.var T ls w))){LS:List Nat}(hS:a4g X c σ O LS)(hR:Rows X c σ O LS){gr:List Nat}{Oc:Obs I}
 (hOc:∀ l o,Oc l=some (some o)->roO [] (Q3 gr s.O) l=some (some o)) {M:Nat->Prop} (hM:∀ b,M b->σ.N<=b\/∃ l∈gr,Y3 s l/\∃ p,c l=some p/\p.w=some b) {nb:Nat} :
 ∀ {pks:List Pk} {ps:List (PV I)} {a:a3A I pks} {acc:AccT} {vs:List Value},a9c tb disp O Oc nb pks ps=some (a,acc)->RVs X c σ ps vs->(∀ l∈acc.pub,l∈LS)->(∀ l,some l∈acc.all->l ∉ LS)->(∀ l∈acc.rv,l ∉ gr) ->
  ∃ pls,a9b P M σ pks a vs pls/\At c acc.all pls/\a7v c O acc.gv (a1L pks vs)/\(∀ l,some l∈acc.all->(∃ o:Ob I,O l=some (some o)/\b4c o=true)\/∃ T v,(l,T,v)∈acc.gv)/\(∀ x∈acc.gv,some x.1∈acc.all)/\acc.gv.map (fun x=>x.2)=a7y pks
 | [],[],a,acc,vs,e,hv,_,_,_=>by
   cases e
   simp only [RVs] at hv
   subst hv
   exact ⟨[],⟨rfl,rfl⟩,rfl,rfl,(fun l hl=>by cases hl),(fun l hl=>by cases hl),rfl⟩
 | .d k::r,p::ps,_,_,vs,e,hv,h1,h2,h3=>by
   obtain ⟨x,hx,e⟩:=bind_some e
   obtain ⟨y,hy,e⟩:=bind_some e
   cases e
   simp only [RVs] at hv
   obtain ⟨v,vs',rfl,hv1,hv2⟩:=hv
   obtain ⟨pls,k1,k2,k3,k4,k5,k6⟩:=a6o ht hd hX h hRw hBo hO hS hR hOc hM (a:=y.1) (acc:=y.2) hy hv2 (fun l hl=>h1 l (by simp [hl])) h2 h3
   have hd1:=b2W ht hS (ls:=x.2) hx (fun l hl=>h1 l (by simp [hl])) hv1
   refine ⟨pls,⟨v,vs',[],pls,rfl,rfl,⟨hd1,rfl⟩,k1⟩,k2,?_,k4,k5,k6⟩
   have:a1L (.d k::r) (v::vs')=a1L r vs':=by cases v<;>rfl
   rw [this]; exact k3
 | .row E fl::r,p::ps,_,_,vs,e,hv,h1,h2,h3=>by
   obtain ⟨x,hx,e⟩:=bind_some e
   obtain ⟨y,hy,e⟩:=bind_some e
   cases e
   simp only [RVs] at hv
   obtain ⟨v,vs',rfl,hv1,hv2⟩:=hv
   obtain ⟨pls,k1,k2,k3,k4,k5,k6⟩:=a6o ht hd hX h hRw hBo hO hS hR hOc hM (a:=y.1) (acc:=y.2) hy hv2 (fun l hl=>h1 l (by simp [hl])) (fun l hl=>h2 l (by simp [hl])) h3
   obtain ⟨p1,t1,t2⟩:=b89 ht hS hR (ls:=x.2.1) (rows:=x.2.2) hx (fun l hl=>h1 l (by simp [hl])) (fun l hl=>h2 l (by simp [hl])) hv1
   have hl1:=b3C (ls:=x.2.1) (rows:=x.2.2) hx
   obtain ⟨A,k,ow,e1,e2,e3⟩:=t1
   refine ⟨p1++pls,⟨v,vs',p1,pls,rfl,rfl,⟨A,k,ow,e1,e3,e2⟩,k1⟩,t2.app k2,?_,fun l hl=>?_,fun z hz=>by simp [k5 z hz],k6⟩
   ·have:a1L (.row E fl::r) (v::vs')=a1L r vs':=by cases v<;>rfl
    rw [this]; exact k3
   ·rcases List.mem_append.1 hl with hl | hl
    ·exact .inl (hl1 l hl)
    ·exact k4 l hl
 | .val vk::r,p::ps,_,_,vs,e,hv,h1,h2,h3=>by
   obtain ⟨x,hx,e⟩:=bind_some e
   obtain ⟨y,hy,e⟩:=bind_some e
   cases e
   simp only [RVs] at hv
   obtain ⟨v,vs',rfl,hv1,hv2⟩:=hv
   obtain ⟨pls,k1,k2,k3,k4,k5,k6⟩:=a6o ht hd hX h hRw hBo hO hS hR hOc hM (a:=y.1) (acc:=y.2) hy hv2 (fun l hl=>h1 l (by simp [hl])) (fun l hl=>h2 l (by simp [hl])) h3
   obtain ⟨p1,t1,t2⟩:=b5W ht hS hR (ls:=x.2.1) (rows:=x.2.2) hx (fun l hl=>h1 l (by simp [hl])) (fun l hl=>h2 l (by simp [hl])) hv1
   have hl1:=b3P (ls:=x.2.1) (rows:=x.2.2) hx
   refine ⟨p1++pls,⟨v,vs',p1,pls,rfl,rfl,t1,k1⟩,t2.app k2,?_,fun l hl=>?_,fun z hz=>by simp [k5 z hz],k6⟩
   ·have:a1L (.val vk::r) (v::vs')=a1L r vs':=by cases v<;>rfl
    rw [this]; exact k3
   ·rcases List.mem_append.1 hl with hl | hl
    ·exact .inl (hl1 l hl)
    ·exact k4 l hl
 | .bor E::r,p::ps,_,_,vs,e,hv,h1,h2,h3=>by
   obtain ⟨x,hx,e⟩:=bind_some e
   obtain ⟨y,hy,e⟩:=bind_some e
   cases e
   simp only [RVs] at hv
   obtain ⟨v,vs',rfl,hv1,hv2⟩:=hv
   obtain ⟨pls,k1,k2,k3,k4,k5,k6⟩:=a6o ht hd hX h hRw hBo hO hS hR hOc hM (a:=y.1) (acc:=y.2) hy hv2 h1 (fun l hl=>h2 l (by simp [hl])) (fun l hl=>h3 l (by simp [hl]))
   obtain ⟨A,k,e1,e2⟩:=c82 h hRw hBo hS hM (x:=x.1) (rv:=x.2) hx (fun l hl=>h3 l (by simp [hl])) hv1
   refine ⟨⟨A,k,List.length x.1,none⟩::pls,⟨v,vs',[_],pls,rfl,rfl,⟨A,k,e1,e2,rfl⟩,k1⟩,⟨_,_,rfl,rfl,k2⟩,?_,fun l hl=>?_,fun z hz=>by simp [k5 z hz],k6⟩
   ·have:a1L (.bor E::r) (v::vs')=a1L r vs':=by cases v<;>rfl
    rw [this]; exact k3
   ·rcases List.mem_cons.1 hl with hl | hl
    ·cases hl
    ·exact k4 l hl
 | .fn ks rs::r,p::ps,_,_,vs,e,hv,h1,h2,h3=>by
   obtain ⟨y,hy,e⟩:=bind_some e
   simp only [RVs] at hv
   obtain ⟨v,vs',rfl,hv1,hv2⟩:=hv
   have hb:a1L (.fn ks rs::r) (v::vs')=a1L r vs':=by cases v<;>rfl
   split at e
   ·rename_i ks' rs' g
    obtain ⟨g',hg',e⟩:=bind_some e
    cases e
    obtain ⟨e1,e2,e3⟩:=c9d hg'
    subst e1
    subst e2
    subst e3
    obtain ⟨pls,k1,k2,k3,k4,k5,k6⟩:=a6o ht hd hX h hRw hBo hO hS hR hOc hM (a:=y.1) (acc:=y.2) hy hv2 h1 h2 h3
    simp only [RV] at hv1
    obtain ⟨f,as',cs,e4,hf⟩:=hv1
    refine ⟨pls,⟨v,vs',[],pls,rfl,rfl,⟨f,as',cs,e4,⟨by rw [<- hX]; exact hf.1,hf.2.1,fun τ hτ=>?_⟩,rfl⟩,k1⟩,k2,by rw [hb]; exact k3,k4,k5,k6⟩
    rw [hX] at hf
    exact hf.2.2 τ (hτ.mono fun b _ hb=>by
     rcases hM b hb with hb | ⟨l,_,hlv,p,hc,hw⟩
     ·exact .inl (Nat.le_trans h.base hb)
     ·exact h.mine l p b hlv hc hw)
   ·rename_i f0 ls0 hh0
    replace e:=k7 e
    obtain ⟨hfb,e⟩:=e
    cases e
    obtain ⟨pls,k1,k2,k3,k4,k5,k6⟩:=a6o ht hd hX h hRw hBo hO hS hR hOc hM (a:=y.1) (acc:=y.2) hy hv2 h1 h2 h3
    simp only [RV] at hv1
    obtain ⟨cs,e4,hls⟩:=hv1
    exact ⟨pls,⟨v,vs',[],pls,rfl,rfl,⟨_,[],cs,e4,d3l ht hd hX h hOc hM hls (ht.fb _ hfb),rfl⟩,k1⟩,k2,by rw [hb]; exact k3,k4,k5,k6⟩
   ·cases e
 | .var T vk w::r,p::ps,_,_,vs,e,hv,h1,h2,h3=>by
   obtain ⟨x,hx,e⟩:=bind_some e
   obtain ⟨y,hy,e⟩:=bind_some e
   cases e
   simp only [RVs] at hv
   obtain ⟨v,vs',rfl,hv1,hv2⟩:=hv
   obtain ⟨pls,k1,k2,k3,k4,k5,k6⟩:=a6o ht hd hX h hRw hBo hO hS hR hOc hM (a:=y.1) (acc:=y.2) hy hv2 (fun l hl=>h1 l (by simp [hl])) (fun l hl=>h2 l (by simp [hl])) (fun l hl=>h3 l (by simp [hl]))
   unfold c8f at hx
   split at hx
   ·rename_i l
    split at hx
    ·rename_i T' ls w' ho
     replace hx:=k7 hx
     obtain ⟨hT,hx⟩:=hx
     simp only [Bool.and_eq_true] at hT
     have eT:=Nat.eq_of_beq_eq_true hT.1
     subst eT
     have hww:=hT.2
     replace hx:=bind_some hx
     obtain ⟨q,hq,hx⟩:=hx
     replace hx:=bind_some hx
     obtain ⟨z,hz,hx⟩:=hx
     have hs:=hO _ _ _ _ ho
     obtain ⟨b,cs,o1,o2,o3,o4,o5⟩:=h.objs l _ hs
     simp only [RV] at hv1
     obtain ⟨b',w2,c1,rfl⟩:=hv1
     rw [o1] at c1
     cases c1
     obtain ⟨u,hu,hcu⟩:=c4o hq o2
     cases w with
     | true =>
       have hw':w'=true:=by cases w'<;>simp at hww ⊢
       subst hw'
       cases hx
       obtain ⟨pr,t1,t2⟩:=b5W ht hS hR (ls:=z.2.1) (rows:=z.2.2) hz (fun l hl=>h1 l (by simp [hl])) (fun l hl=>h2 l (by simp [hl])) hu
       have hl1:=b3P (ls:=z.2.1) (rows:=z.2.2) hz
       refine ⟨(⟨some ⟨b,0,none⟩,0,0,some b⟩::pr)++pls,⟨_,vs',_,pls,rfl,rfl,⟨b,cs,u,pr,rfl,o3,hcu,t1,(fun _=>o4 rfl),(fun e=>by cases e),rfl⟩,k1⟩,?_,?_,fun l' hl=>?_,fun g hg=>?_,?_⟩
       ·refine At.app (r1:=some l::z.2.2) ?_ k2
        exact ⟨_,pr,rfl,o1,t2⟩
       ·exact ⟨b,_,ls,rfl,ho,o1,k3⟩
       ·simp only [List.mem_append,List.mem_cons,Option.some.injEq] at hl
        rcases hl with (hl | hl) | hl
        ·subst hl
         exact .inr ⟨T,vk,by simp⟩
        ·exact .inl (hl1 l' hl)
        ·rcases k4 l' hl with hl | ⟨T2,v2,hl⟩
         ·exact .inl hl
         ·exact .inr ⟨T2,v2,by simp [hl]⟩
       ·simp only [List.cons_append,List.nil_append,List.mem_cons] at hg
        rcases hg with hg | hg
        ·subst hg; simp
        ·simp [k5 g hg]
       ·simp only [List.cons_append,List.nil_append,List.map_cons,a7y,k6]
     | false =>
       simp only [cond_false] at hx
       replace hx:=k7 hx
       obtain ⟨hn,hx⟩:=hx
       have hn:=a6h hn
       cases hx
       obtain ⟨pr,t1,t2⟩:=b5W ht hS hR (ls:=z.2.1) (rows:=z.2.2) hz (fun l hl=>h1 l (by simp [hl])) (fun l hl=>by rw [hn] at hl; cases hl) hu
       rw [hn] at t2
       have:pr=[]:=t2
       subst this
       have hlgr:l ∉ gr:=h3 l (by simp)
       refine ⟨(⟨some ⟨b,0,none⟩,0,0,none⟩::[])++pls,⟨_,vs',_,pls,rfl,rfl,⟨b,cs,u,[],rfl,o3,hcu,t1,(fun e=>by cases e),(fun _ hMb=>?_),rfl⟩,k1⟩,?_,?_,fun l' hl=>?_,fun g hg=>?_,?_⟩
       ·have hlt:=a1C o3
        rcases hM b hMb with hb | ⟨l',hl',hlv,p',hc',hw2'⟩
        ·have hb':σ.w.heap.size<=b:=hb
         omega
        ·cases w' with
         | true=>exact hlgr (by rw [h.inj l l' _ p' b ⟨_,hs⟩ hlv o1 hc' rfl hw2']; exact hl')
         | false=>exact o5 rfl (h.mine l' p' b hlv hc' hw2')
       ·refine At.app (r1:=[none]) ?_ k2
        exact ⟨_,[],rfl,rfl,rfl⟩
       ·exact k3
       ·simp only [List.cons_append,List.nil_append,List.mem_cons] at hl
        rcases hl with hl | hl
        ·cases hl
        ·exact k4 l' hl
       ·simp [k5 g hg]
       ·exact k6
    ·cases hx
   ·cases hx
 | [],_::_,_,_,_,e,_,_,_,_=>by simp [a9c] at e
 | _::_,[],_,_,_,e,_,_,_,_=>by simp [a9c] at e
omit [∀ E,Rp (I E)] in
theorem b54:∀ {all:List (Option Nat)} {O:Obs I} {l:Nat},(∀ l,some l∈all->O l≠none)->apU O (a3O all) l=Q3 (all.filterMap id) O l
 | [],O,l,_=>by simp [a3O,apU,Q3,W4]
 | none::r,O,l,h=>by
   have:=b54 (all:=r) (O:=O) (l:=l) (fun l hl=>h l (by simp [hl]))
   simpa [a3O] using this
 | some a::r,O,l,h=>by
   simp only [a3O,apU]
   rw [b54 (all:=r) (fun l' hl'=>by
    by_cases e:l'=a
    ·subst e; rw [Q8]; simp
    ·rw [J0 e]; exact h l' (by simp [hl']))]
   simp only [Q3,List.filterMap_cons,id,W4]
   by_cases e:l=a
   ·subst e
    rw [Q8]
    have ha:=h l (by simp)
    cases ho:O l with
    | none=>exact absurd ho ha
    | some o=>cases W4 l (List.filterMap id r)<;>simp
   ·rw [J0 e,Sx.beq_false e]
    rfl
omit [∀ E,Rp (I E)] in
theorem c5O {O:Obs I}{l:Nat}{o:Option (Ob I)}{os:List (Ob I)}{nb:Nat}(h:l ∉ rng nb os.length):a0I (upF O l o) nb os=upF (a0I O nb os) l o:=by
 funext i
 by_cases hi:i∈rng nb os.length
 ·rw [(c28 (O':=O) hi).1,J0 (fun e=>h (by rw [<- e]; exact hi))]
 ·rw [a0T hi]
  by_cases e:i=l
  ·subst e; rw [Q8,Q8]
  ·rw [J0 e,J0 e,a0T hi]
omit [∀ E,Rp (I E)] in
theorem c0R {O0:Obs I}{os:List (Ob I)}{nb:Nat}:∀ {gv:List (Nat×TypeId×V)} {ps:List (PV I)} {O:Obs I},(∀ x∈gv,(∃ ls,O0 x.1=some (some (.var x.2.1 ls true)))/\x.1 ∉ rng nb os.length) ->
 a0I (apU O (a7q gv ps)) nb os=asgW O0 (gv.map fun x=>(x.1,x.2.2)) (gv.map (·.1)) ps (a0I O nb os)
 | [],ps,O,_=>by cases ps<;>rfl
 | x::r,[],O,_=>rfl
 | x::r,p::ps,O,h=>by
   obtain ⟨⟨ls,h1⟩,h2⟩:=h x (by simp)
   simp only [a7q,apU,List.map_cons,asgW,h1]
   rw [c0R (gv:=r) (fun y hy=>h y (by simp [hy])),c5O h2]
omit [∀ E,Rp (I E)] in
theorem a7B {O0 O:Obs I}:∀ {pks:List Pk} {vs us:List Value} {gv:List (Nat×TypeId×V)},c4z τ pks vs us->a7v c O gv (a1L pks vs)->gv.map (fun x=>x.2)=a7y pks->(∀ x∈gv,∃ ls,O0 x.1=some (some (.var x.2.1 ls true))) ->
 a7Q τ c O0 (gv.map fun x=>(x.1,x.2.2)) (gv.map (·.1)) us
 | [],vs,us,gv,h,_,h3,_=>by
   have hg:gv=[]:=by simpa [a7y] using h3
   subst hg
   cases vs with
   | nil=>exact h
   | cons=>exact h.elim
 | .d k::r,[],us,gv,h,_,_,_=>h.elim
 | .row _ _::r,[],us,gv,h,_,_,_=>h.elim
 | .fn _ _::r,[],us,gv,h,_,_,_=>h.elim
 | .bor _::r,[],us,gv,h,_,_,_=>h.elim
 | .val _::r,[],us,gv,h,_,_,_=>h.elim
 | .var _ _ false::r,[],us,gv,h,_,_,_=>h.elim
 | .var _ _ true::r,[],us,gv,h,_,_,_=>h.elim
 | .d k::r,v::vs,us,gv,h,h2,h3,h4=>a7B (pks:=r) (vs:=vs) h (by have e:a1L (.d k::r) (v::vs)=a1L r vs:=by cases v<;>rfl
                                                               rw [e] at h2; exact h2) h3 h4
 | .row E f::r,v::vs,us,gv,h,h2,h3,h4=>a7B (pks:=r) (vs:=vs) h (by have e:a1L (.row E f::r) (v::vs)=a1L r vs:=by cases v<;>rfl
                                                                   rw [e] at h2; exact h2) h3 h4
 | .val vk::r,v::vs,us,gv,h,h2,h3,h4=>a7B (pks:=r) (vs:=vs) h (by
    have e:a1L (.val vk::r) (v::vs)=a1L r vs:=by cases v<;>rfl
    rw [e] at h2; exact h2) h3 h4
 | .bor E::r,v::vs,us,gv,h,h2,h3,h4=>a7B (pks:=r) (vs:=vs) h (by have e:a1L (.bor E::r) (v::vs)=a1L r vs:=by cases v<;>rfl
                                                                 rw [e] at h2; exact h2) h3 h4
 | .fn ks rs::r,v::vs,us,gv,h,h2,h3,h4=>a7B (pks:=r) (vs:=vs) h (by have e:a1L (.fn ks rs::r) (v::vs)=a1L r vs:=by cases v<;>rfl
                                                                    rw [e] at h2; exact h2) h3 h4
 | .var T w false::r,v::vs,us,gv,h,h2,h3,h4=>a7B (pks:=r) (vs:=vs) h (by have e:a1L (.var T w false::r) (v::vs)=a1L r vs:=by cases v<;>rfl
                                                                         rw [e] at h2; exact h2) h3 h4
 | .var T w true::r,v::vs,us,gv,h,h2,h3,h4=>by
   obtain ⟨b,cs,u,us',e1,e2,e3,e4,e5,e6⟩:=h
   subst e1
   subst e2
   cases gv with
   | nil=>simp [a7y] at h3
   | cons x gv =>
     simp only [List.map_cons,a7y,List.cons.injEq] at h3
     obtain ⟨b',bs',ls,q1,q2,q3,q4⟩:=h2
     have hb:a1L (.var T w true::r) (Value.pointer (some ⟨b,0,none⟩)::vs)=b::a1L r vs:=rfl
     rw [hb] at q1
     cases q1
     obtain ⟨ls0,o1⟩:=h4 x (by simp)
     have ih:=a7B (pks:=r) (vs:=vs) (us:=us') (gv:=gv) (O0:=O0) e6 q4 h3.2 (fun y hy=>h4 y (by simp [hy]))
     have hT:x.2.1=T:=by rw [h3.1]
     have hV:x.2.2=w:=by rw [h3.1]
     refine ⟨u,us',b,x.2.1,ls0,true,cs,rfl,o1,q3,by rw [hT]; exact e3,e4,?_,ih⟩
     show bif a8l x.2.2 then _ else _
     rw [hV]; exact e5
theorem c4t (ht:TabOk P tb){r:Row I}{C:World->List Value->Prop}{chk:Obs I->List (PV I)->Bool}(hr:a7g P r C)
 (hC:∀ (X:Cxt) (c:Cx) (σ:S) (s:St I) (n:Nat) (F:Fr) (O:Obs I) (ps:List (PV I)) (vs:List Value),(∀ l o,O l=some (some o)->s.O l=some (some o))->Rel X c σ s n F->chk O ps=true->RVs X c σ ps vs->C σ.w vs):EntOk P (d00 tb r chk):=by
 refine ⟨fun disp ρ O nb ps k=>?_,fun disp hd O nb ps ef he=>?_⟩
 ·show b5m tb r chk disp ρ O nb ps k=(b5m tb r chk disp (Ef I) O nb ps some).bind k
  unfold b5m
  cases chk O ps
  ·rfl
  simp only [cond_true]
  unfold c39
  simp only [Option.bind_assoc]
  refine c7q fun a=>?_
  cases c2x (grN O r.ps ps) a.2
  ·rfl
  ·simp only [cond_true,Option.bind_assoc]
   rfl
 ·intro X c σ s n F vs hX hO h hvs hfree
  have he':b5m tb r chk disp (Ef I) O nb ps some=some ef:=he
  unfold b5m at he'
  obtain ⟨hck,he'⟩:=k7 he'
  have hCw:=hC X c σ s n F O ps vs hO h hck hvs
  unfold c39 at he'
  obtain ⟨a,ha,he'⟩:=bind_some he'
  obtain ⟨hchk,he'⟩:=k7 he'
  obtain ⟨res,hres,he'⟩:=bind_some he'
  cases he'
  obtain ⟨a,acc⟩:=a
  simp only [c2x,Bool.and_eq_true] at hchk
  obtain ⟨⟨q1,q2⟩,q3⟩:=hchk
  obtain ⟨r1,r2⟩:=a8D q1
  have hgr:∀ l,some l∈acc.all->l∈grN O r.ps ps:=fun l hl=>by
   have:=(List.all_eq_true.1 q2) _ hl
   exact a0w.1 this
  have hrv:∀ l∈acc.rv,l ∉ grN O r.ps ps:=fun l hl=>by
   have:=(List.all_eq_true.1 q3) _ hl
   exact a1x.1 (by simpa using this)
  obtain ⟨τ1,p1,p2,p3,p4,p5,p6⟩:=h.pubs hO acc.pub
  have hvs1:=RVs.step p2 _ _ hvs
  have hpubO:∀ {l:Nat},(∀ E (xs:List (I E)),O l≠some (some (.row E xs false)))->(Z6 s O acc.pub).O l=s.O l:=fun {l} hn=>by
   show apU s.O (Q9 O acc.pub) l=s.O l
   apply a4y
   intro hm
   have hp:∀ {ls:List Nat},l∈a1w (Q9 O ls)->∃ E,∃ xs:List (I E),O l=some (some (.row E xs false)):=by
    intro ls
    induction ls with
    | nil=>intro h; simp [Q9,a1w] at h
    | cons a r ih =>
      intro h
      simp only [Q9] at h
      split at h
      ·rename_i E xs e
       simp only [a1w,List.map_cons,List.mem_cons] at h
       rcases h with rfl | h
       ·exact ⟨E,xs,e⟩
       ·exact ih h
      ·exact ih h
   obtain ⟨E,xs,e⟩:=hp hm
   exact hn E xs e
  have hOv:∀ l T ls w,O l=some (some (.var T ls w))->(Z6 s O acc.pub).O l=some (some (.var T ls w)):=fun l T ls w ho=>by
   rw [hpubO (fun E xs e=>by rw [ho] at e; cases e)]; exact hO l _ ho
  have hOc:∀ l o,roO [] (Q3 (grN O r.ps ps) O) l=some (some o)->roO [] (Q3 (grN O r.ps ps) (Z6 s O acc.pub).O) l=some (some o):=by
   intro l o hl
   unfold roO Q3 at hl ⊢
   cases hm:W4 l (grN O r.ps ps) with
   | true =>
     rw [hm] at hl
     cases hol:O l with
     | none=>rw [hol] at hl; simp [W4] at hl
     | some x=>rw [hol] at hl; simp [W4] at hl
   | false =>
     rw [hm] at hl
     simp only [cond_false,W4] at hl ⊢
     have hne:∀ E (xs:List (I E)),O l≠some (some (.row E xs false)):=fun E xs e=>by rw [e] at hl; simp at hl
     rw [hpubO hne]
     cases hol:O l with
     | none=>rw [hol] at hl; simp at hl
     | some x =>
       cases x with
       | none=>rw [hol] at hl; simp at hl
       | some o'=>rw [hO l o' hol]; rw [hol] at hl; exact hl
  have hlv:∀ l,some l∈acc.all->(∃ o:Ob I,O l=some (some o)/\b4c o=true)\/(∃ T ls,O l=some (some (.var T ls true)))->Y3 (Z6 s O acc.pub) l:=fun l hl hx=>by
   rcases hx with ⟨o,ho,_⟩ | ⟨T,ls,ho⟩
   ·exact ⟨_,(p6 l (r2 l hl)).trans (hO l _ ho)⟩
   ·exact ⟨_,hOv l _ _ _ ho⟩
  have core:∀ M:Nat->Prop,(∀ b,M b->τ1.N<=b\/∃ l∈grN O r.ps ps,Y3 (Z6 s O acc.pub) l/\∃ p,c l=some p/\p.w=some b)->_:=fun M hM =>
   a6o ht hd hX p3 (fun l E xs fl e=>b6i ⟨fl,e⟩ ⟨fl,hO l _ e⟩) (fun l E xs e=>(hpubO (fun E' xs' e'=>by rw [e] at e'; cases e')).trans (hO l _ e)) hOv p4 p5 hOc hM (nb:=nb) ha hvs1 (fun _ h=>h) r2 hrv
  have fin:∀ (pls:List Pl),a9b P (fun b=>τ1.N<=b\/b∈ows pls) τ1 r.ps a vs pls->At c acc.all pls->a7v c O acc.gv (a1L r.ps vs)->(∀ l,some l∈acc.all->(∃ o:Ob I,O l=some (some o)/\b4c o=true)\/∃ T v,(l,T,v)∈acc.gv) ->
   (∀ x∈acc.gv,some x.1∈acc.all)->acc.gv.map (fun x=>x.2)=a7y r.ps->a2K P r.f vs σ (Stp X.M σ) fun v τ=>∃ c',Cx.le c c'/\Rel X c' τ (apE s nb ⟨b09 ((pvT tb nb (r.rs++Y5 r.ps) res).take r.rs.length),Q9 O acc.pub++a3O acc.all++a7q acc.gv ((pvT tb nb (r.rs++Y5 r.ps) res).drop r.rs.length),obT (r.rs++Y5 r.ps) res⟩) n F /\
     RV X c' τ (b09 ((pvT tb nb (r.rs++Y5 r.ps) res).take r.rs.length)) v:=by
   intro pls k1 k2 k3 k4 k5 k6
   have hgv:∀ x∈acc.gv,∃ ls,O x.1=some (some (.var x.2.1 ls true)):=by
    have:∀ {gv:List (Nat×TypeId×V)} {bs:List Nat},a7v c O gv bs->∀ x∈gv,∃ ls,O x.1=some (some (.var x.2.1 ls true)):=by
     intro gv
     induction gv with
     | nil=>intro bs _ x hx; cases hx
     | cons y r ih =>
       intro bs ⟨b,bs',ls,_,e2,_,e4⟩ x hx
       rcases List.mem_cons.1 hx with rfl | hx
       ·exact ⟨ls,e2⟩
       ·exact ih e4 x hx
    exact this k3
   have hlive:∀ l,some l∈acc.all->Y3 (Z6 s O acc.pub) l:=fun l hl=>hlv l hl ((k4 l hl).imp id fun ⟨T,v,hm⟩=>by
    obtain ⟨ls,e⟩:=hgv _ hm
    exact ⟨T,ls,e⟩)
   have hnd:(ows pls).Nodup:=At.nodup p3 k2 r1 hlive
   have hown:∀ g∈ows pls,∃ l p,some l∈acc.all/\c l=some p/\p.w=some g:=k2.mem
   have hownM:∀ g∈ows pls,X.M g:=fun g hg=>by
    obtain ⟨l,p,a1,a2,a3⟩:=hown g hg
    exact p3.mine l p g (hlive l a1) a2 a3
   refine a2K.mono (hr τ1 a vs pls res k1 (by rw [p1]; exact hCw) hnd hres) p1.symm fun v τ hst ⟨ws,us,pls',hpost⟩=>⟨τ,rfl,p2.trans (hst.mono fun b _ hb=>hownM b hb),?_⟩
   let kl:=acc.all.filterMap id
   have hkl:∀ l,l∈kl↔some l∈acc.all:=fun l=>by simp [kl,List.mem_filterMap]
   let s2:St I:=⟨s.n,s.F,Q3 kl (Z6 s O acc.pub).O,s.nx⟩
   have h2:Rel X c τ1 s2 n F:=p3.less (fun l o ho=>(Y8 ho).2) (fun l ho=>a3j.1 ho)
   have hn2:∀ l p g,Y3 s2 l->c l=some p->p.w=some g->¬ g∈ows pls:=fun l p g ⟨o,ho⟩ hc hw hg=>by
    obtain ⟨m1,m2⟩:=Y8 ho
    obtain ⟨l',p',a1,a2,a3⟩:=hown g hg
    exact m1 ((hkl l).2 (by rw [p3.inj l l' p p' g ⟨o,m2⟩ (hlive l' a1) hc a2 hw a3]; exact a1))
   have hi2:∀ g,g∈ows pls->notIn c τ1 s2 g:=fun g hg=>by
    obtain ⟨l',p',a1,a2,a3⟩:=hown g hg
    exact (p3.owned (hlive l' a1) a2 a3).sub fun l E E' u xs q e=>(Y8 e).2
   have h3:Rel X c τ s2 n F:=h2.stepG hst hownM hn2 hi2
   have hOpub:apU s.O (Q9 O acc.pub++a3O acc.all)=Q3 kl (Z6 s O acc.pub).O:=by
    rw [a4v]
    funext l
    exact b54 fun l hl=>by obtain ⟨o,ho⟩:=hlive l hl; intro e; have:=ho; rw [show (Z6 s O acc.pub).O l=apU s.O (Q9 O acc.pub) l from rfl,e] at this; cases this
   have hgvO:∀ x∈acc.gv,∃ ls,(Z6 s O acc.pub).O x.1=some (some (.var x.2.1 ls true)):=fun x hx=>by
    obtain ⟨ls,e⟩:=hgv x hx
    exact ⟨ls,hOv _ _ _ _ e⟩
   have hfree2:∀ l∈rng nb (obT (r.rs++Y5 r.ps) res).length,Q3 kl (Z6 s O acc.pub).O l=none/\l ∉ acc.gv.map (·.1):=by
    rw [a2k] at hfree
    intro l hl
    have h0:=hfree l hl
    rw [a4v,hOpub] at h0
    by_cases hk:l∈a1w (a7q acc.gv ((pvT tb nb (r.rs++Y5 r.ps) res).drop r.rs.length))
    ·exact absurd h0 (b5F (O':=s.O) hk).2
    ·rw [a4y hk] at h0
     refine ⟨h0,fun hm=>?_⟩
     simp only [List.mem_map] at hm
     obtain ⟨x,hx,e⟩:=hm
     have:=(hkl x.1).2 (k5 x hx)
     rw [e] at this
     have hl2:=hlive l ((hkl l).1 this)
     obtain ⟨o,ho⟩:=hl2
     have:=a3j.1 h0
     rw [ho] at this; cases this
   have hob:=a80 hpost.tt
   obtain ⟨h4,h5⟩:=Rel.addN (nb:=nb) h3 (a2k.2 fun l hl=>(hfree2 l hl).1) hob hpost.nodup fun g hg=>by
    have ho:=hpost.own g hg
    refine ⟨ho.1.elim (fun h=>.inl (Nat.le_trans p3.base h)) (hownM g),(ho.1.elim (fun h=>h2.fresh h) (hi2 g)).step h2 hst hn2 hi2,fun l p ⟨o,ho'⟩ hc hw=>?_⟩
    obtain ⟨m1,m2⟩:=Y8 ho'
    rcases ho.1 with hge | hin
    ·have:=(p3.objs l o m2).lt hc hw
     have:τ1.w.heap.size<=g:=hge
     omega
    ·obtain ⟨l',p',a1,a2,a3⟩:=hown g hin
     exact m1 ((hkl l).2 (by rw [p3.inj l l' p p' g ⟨o,m2⟩ (hlive l' a1) hc a2 hw a3]; exact a1))
   obtain ⟨hps,hlen⟩:=b4Z (X:=X) (c:=X8 c nb pls') (nb:=nb) ht hpost.tt a2j
   have htk:=RVs.take r.rs.length _ _ hps
   have hdr:=RVs.drop r.rs.length _ _ hps
   rw [List.take_left' hpost.len] at htk
   rw [List.drop_left' hpost.len] at hdr
   have hold:∀ l,(Z6 s O acc.pub).O l≠none->X8 c nb pls' l=c l:=fun l hl=>by
    have key:∀ {ps:List Pl} {c:Cx} {nb:Nat},(l<nb\/nb+ps.length<=l)->X8 c nb ps l=c l:=by
     intro ps
     induction ps with
     | nil=>intro c nb _; rfl
     | cons p ps ih =>
       intro c nb h
       simp only [X8]
       rw [ih (by simp only [List.length_cons] at h; omega)]
       have:l≠nb:=by simp only [List.length_cons] at h; omega
       simp [a0E,this]
    apply key
    apply Classical.byContradiction
    intro hn
    rw [not_or] at hn
    exact hl (a3j.1 (hfree2 l (a2N.2 ⟨by omega,by rw [hob.1]; omega⟩)).1)
   have hvarb:∀ {gv:List (Nat×TypeId×V)} {bs:List Nat},a7v c O gv bs->∀ x∈gv,∀ p g,c x.1=some p->p.w=some g->g∈bs:=by
    intro gv
    induction gv with
    | nil=>intro bs _ x hx; cases hx
    | cons y r ih =>
      intro bs ⟨b,bs',ls,e1,e2,e3,e4⟩ x hx p g hc hw
      subst e1
      rcases List.mem_cons.1 hx with rfl | hx
      ·rw [e3] at hc; cases hc; cases hw; simp
      ·simp [ih e4 x hx p g hc hw]
   have hat:∀ (i:Nat) (y:Nat×V) (p:PV I),(acc.gv.map fun x=>(x.1,x.2.2))[i]?=some y->((pvT tb nb (r.rs++Y5 r.ps) res).drop r.rs.length)[i]?=some p->∃ nb' z,p=pvV tb nb' y.2 z:=fun i y p hi hp=>by
    refine c1P (tb:=tb) (vs:=r.rs++Y5 r.ps) (nb:=nb) (x:=res) (i:=r.rs.length+i) (v:=y.2) ?_ (by rw [List.getElem?_drop] at hp; exact hp)
    rw [List.getElem?_append_right (by simp),Nat.add_sub_cancel_left,<- a5A,<- k6]
    rw [List.getElem?_map] at hi
    simp only [List.map_map,List.getElem?_map]
    cases hgi:acc.gv[i]? with
    | none=>rw [hgi] at hi; cases hi
    | some z=>rw [hgi] at hi; cases hi; rfl
   have h6:=Rel.asgW (pls:=pls') ht p3 h5 (a7B hpost.out k3 k6 hgvO) hdr (fun i y p hi hp hag=>by
    obtain ⟨nb',z,e⟩:=hat i y p hi hp
    rw [e]; exact b9s hag)
    (fun i y p hi hp hag=>by
      obtain ⟨nb',z,e⟩:=hat i y p hi hp
      rw [e]; exact b9r hag)
    (fun l hl=>hold l (by
      simp only [List.mem_map] at hl
      obtain ⟨x,hx,rfl⟩:=hl
      obtain ⟨ls,e⟩:=hgvO x hx
      rw [e]; simp))
    (fun l hl p g hc hw=>by
      simp only [List.mem_map] at hl
      obtain ⟨x,hx,rfl⟩:=hl
      exact p3.mine x.1 p g (hlive _ (k5 x hx)) hc hw)
    (fun l ⟨o,ho⟩=>by
      by_cases hm:l∈rng nb (obT (r.rs++Y5 r.ps) res).length
      ·right
       obtain ⟨a1,a2⟩:=a2N.1 hm
       have hlt:l-nb<pls'.length:=by rw [<- hob.1]; omega
       refine ⟨pls'[l-nb],List.getElem_mem _,?_⟩
       have:=a2j (c:=c) (nb:=nb) (l-nb) pls'[l-nb] (List.getElem?_eq_getElem hlt)
       rw [show nb+(l-nb)=l from by omega] at this
       exact this
      ·left
       have ho':a0I (Q3 kl (Z6 s O acc.pub).O) nb (obT (r.rs++Y5 r.ps) res) l=some (some o):=ho
       rw [a0T hm] at ho'
       obtain ⟨_,m2⟩:=Y8 ho'
       exact ⟨⟨o,m2⟩,hold l (by rw [m2]; simp)⟩)
    (fun l hl p hc g hw hm=>by
      simp only [List.mem_map] at hl
      obtain ⟨x,hx,rfl⟩:=hl
      exact (hpost.own g hm).2 (hvarb k3 x hx p g hc hw))
    (fun l hl p hc g hw=>by
      simp only [List.mem_map] at hl
      obtain ⟨x,hx,rfl⟩:=hl
      obtain ⟨ls,e⟩:=hgvO x hx
      exact (((p3.owned ⟨_,e⟩ hc hw).sub (s':=s2) fun l E E' u xs q e=>(Y8 e).2).step h2 hst hn2 hi2).grow h3 h4 (a6j hob.not))
   refine ⟨_,h4,?_,by rw [hpost.ret]; exact c20 htk⟩
   have hO2:a0I (apU s.O (Q9 O acc.pub++a3O acc.all++a7q acc.gv ((pvT tb nb (r.rs++Y5 r.ps) res).drop r.rs.length))) nb (obT (r.rs++Y5 r.ps) res) =
    asgW (Z6 s O acc.pub).O (acc.gv.map fun x=>(x.1,x.2.2)) (acc.gv.map (·.1)) ((pvT tb nb (r.rs++Y5 r.ps) res).drop r.rs.length) (a0I (Q3 kl (Z6 s O acc.pub).O) nb (obT (r.rs++Y5 r.ps) res)):=by
    rw [a4v,hOpub]
    exact c0R fun x hx=>⟨hgvO x hx,fun hm=>(hfree2 x.1 hm).2 (List.mem_map.2 ⟨x,hx,rfl⟩)⟩
   have e:apE s nb ⟨b09 ((pvT tb nb (r.rs++Y5 r.ps) res).take r.rs.length),Q9 O acc.pub++a3O acc.all++a7q acc.gv ((pvT tb nb (r.rs++Y5 r.ps) res).drop r.rs.length),obT (r.rs++Y5 r.ps) res⟩ =
    ⟨s.n,s.F,asgW (Z6 s O acc.pub).O (acc.gv.map fun x=>(x.1,x.2.2)) (acc.gv.map (·.1)) ((pvT tb nb (r.rs++Y5 r.ps) res).drop r.rs.length) (a0I (Q3 kl (Z6 s O acc.pub).O) nb (obT (r.rs++Y5 r.ps) res)),s.nx⟩:=by
    simp only [apE,hO2]
   rw [e]
   exact h6
  obtain ⟨pls0,k1,k2,k3,k4,k5,k6⟩:=core (fun _=>False) (fun _ h=>h.elim)
  obtain ⟨pls,k1',k2',_⟩:=core (fun b=>τ1.N<=b\/b∈ows pls0) (fun b hb=>hb.imp id fun hb=>by
   obtain ⟨l,p,a1,a2,a3⟩:=k2.mem b hb
   refine ⟨l,hgr l a1,hlv l a1 ((k4 l a1).imp id fun ⟨T,v,hm⟩=>?_),p,a2,a3⟩
   have:∀ {gv:List (Nat×TypeId×V)} {bs:List Nat},a7v c O gv bs->∀ x∈gv,∃ ls,O x.1=some (some (.var x.2.1 ls true)):=by
    intro gv
    induction gv with
    | nil=>intro bs _ x hx; cases hx
    | cons y r ih =>
      intro bs ⟨b,bs',ls,_,e2,_,e4⟩ x hx
      rcases List.mem_cons.1 hx with rfl | hx
      ·exact ⟨ls,e2⟩
      ·exact ih e4 x hx
   obtain ⟨ls,e⟩:=this k3 _ hm
   exact ⟨T,ls,e⟩)
  have hsame:ows pls=ows pls0:=by
   have:∀ {rows:List (Option Nat)} {p q:List Pl},At c rows p->At c rows q->ows p=ows q:=by
    intro rows
    induction rows with
    | nil=>intro p q h1 h2; cases h1; cases h2; rfl
    | cons x r ih =>
      intro p q ⟨a,d5l,e1,g1,h1⟩ ⟨b,bs,e2,g2,h2⟩
      subst e1
      subst e2
      have hr:=ih h1 h2
      simp only [ows,List.filterMap_cons] at hr ⊢
      have:a.w=b.w:=by
       cases x with
       | none=>simp only at g1 g2; rw [g1,g2]
       | some l=>simp only at g1 g2; rw [g1] at g2; cases g2; rfl
      rw [this,hr]
   exact this k2' k2
  rw [<- hsame] at k1'
  exact fin pls k1' k2' k3 k4 k5 k6
theorem d2h (ht:TabOk P tb){r:Row I}(hr:j6 P r):EntOk P (d3g tb r) :=
 c4t (C:=fun _ _=>True) (chk:=fun _ _=>true) ht (fun σ a vs pls res h _=>hr σ a vs pls res h) (fun _ _ _ _ _ _ _ _ _ _ _ _ _=>trivial)
def b9d:List (PV I)->List (Option (PV I))->Bool
 | [],[]=>true
 | .ptr a 0::r,some (.ptr b 0)::r'=>Nat.beq a b&&b9d r r'
 | _,_=>false
def c2D (T:TypeId)(f:FuncId)(j:Nat)(is:List Nat)(O:Obs I)(ps:List (PV I)):Bool:=match ps[j]? with
 | some (.ptr l 0)=>match O l with
   | some (some (.var T' [.clo f' ls] _))=>Nat.beq T T'&&(Nat.beq f f'&&b9d ls (is.map (ps[·]?)))
   | _=>false
 | _=>false
def b1p (T:TypeId)(f:FuncId)(j:Nat)(is:List Nat)(w:World)(vs:List Value):Prop :=
 ∃ b d5l,vs[j]?=some (.pointer (some ⟨b,0,none⟩))/\w.heap[b]?=some (.cells #[.func (.func f) #[] (List.toArray d5l)] T (0,0))/\is.map (vs[·]?)=d5l.map some
theorem c5J:∀ {ls:List (PV I)} {is:List Nat} {ps:List (PV I)} {vs d5l:List Value},b9d ls (is.map (ps[·]?))=true->RVs X c σ ps vs->RVs X c σ ls d5l->is.map (vs[·]?)=d5l.map some
 | [],[],_,_,d5l,_,_,ha=>by
   simp only [RVs] at ha
   subst ha; rfl
 | [],_::_,_,_,_,h,_,_=>by simp [b9d] at h
 | p::r,[],_,_,_,h,_,_=>by cases p<;>simp [b9d] at h
 | p::r,i::is,ps,vs,d5l,h,hv,ha=>by
   simp only [RVs] at ha
   obtain ⟨a,as',rfl,h1,h2⟩:=ha
   simp only [List.map_cons] at h ⊢
   unfold b9d at h
   split at h
   ·rename_i e1 _
    cases e1
   ·rename_i l0 r0 l1 r1 e1 e2
    obtain ⟨e3,e4⟩:=List.cons.inj e1
    obtain ⟨hps,hr1⟩:=List.cons.inj e2
    subst e3
    subst e4
    subst hr1
    simp only [Bool.and_eq_true] at h
    have e:=Nat.eq_of_beq_eq_true h.1
    subst e
    obtain ⟨v,hvi,hrv⟩:=RVs.at_ _ _ hv i _ hps
    rw [hvi,c5J h.2 hv h2]
    simp only [RV] at hrv h1
    obtain ⟨b,w,k1,rfl⟩:=hrv
    obtain ⟨b',w',k2,rfl⟩:=h1
    rw [k1] at k2
    cases k2
    rfl
   ·cases h
theorem c7V {T:TypeId}{f:FuncId}{j:Nat}{is:List Nat}{ps:List (PV I)}{vs:List Value}(hO:∀ l o,O l=some (some o)->s.O l=some (some o))(h:Rel X c σ s n F)(hc:c2D T f j is O ps=true)(hv:RVs X c σ ps vs):b1p T f j is σ.w vs:=by
 unfold c2D at hc
 split at hc
 ·rename_i l hj
  split at hc
  ·rename_i T' f' ls w' ho
   simp only [Bool.and_eq_true] at hc
   have eT:=Nat.eq_of_beq_eq_true hc.1
   have ef:=Nat.eq_of_beq_eq_true hc.2.1
   subst eT
   subst ef
   obtain ⟨v,hvj,hrv⟩:=RVs.at_ _ _ hv j _ hj
   simp only [RV] at hrv
   obtain ⟨b,w,k1,rfl⟩:=hrv
   obtain ⟨b',cs,k2,k3,k4,_⟩:=h.objs l _ (hO _ _ ho)
   rw [k1] at k2
   cases k2
   simp only [RG] at k3
   obtain ⟨a,r,rfl,hcl,rfl⟩:=k3
   rcases hcl with hcl | ⟨_,u,rfl,hu⟩
   ·exact hcl.elim
   simp only [RV] at hu
   obtain ⟨d5l,rfl,has⟩:=hu
   exact ⟨b,d5l,hvj,by simpa using k4,c5J hc.2.2 hv has⟩
  ·cases hc
 ·cases hc
def c7m (T:TypeId)(f:FuncId)(l:Nat)(j:Nat)(is:List Nat)(s:St I):St I:=Q2 s l (some (.var T [.clo f (is.filterMap s.F)] false))
theorem c6N:∀ {is:List Nat} {ps:List (PV I)} {vs d5l:List Value},is.all (fun i=>Nat.blt i ps.length)=true->RVs X c σ ps vs->is.map (vs[·]?)=d5l.map some->RVs X c σ (is.filterMap (ps[·]?)) d5l
 | [],_,_,d5l,_,_,e=>by
   cases d5l with
   | nil=>simp only [List.filterMap_nil,RVs]
   | cons=>cases e
 | i::is,ps,vs,d5l,hl,hv,e=>by
   cases d5l with
   | nil=>cases e
   | cons a d5l =>
     simp only [List.map_cons,List.cons.injEq] at e
     simp only [List.all_cons,Bool.and_eq_true] at hl
     have hi:i<ps.length:=by
      have:=hl.1
      rw [Nat.blt_eq] at this
      exact this
     have hp:=List.getElem?_eq_getElem hi
     obtain ⟨v,hvi,hrv⟩:=RVs.at_ _ _ hv i _ hp
     rw [e.1] at hvi
     cases hvi
     rw [List.filterMap_cons,hp]
     simp only [RVs]
     exact ⟨a,d5l,rfl,hrv,c6N hl.2 hv e.2⟩
theorem c48 {T:TypeId}{f:FuncId}{l j:Nat}{is:List Nat}{nt:Nat}{ps:List Pk}{a:a3A I ps}{vs:List Value}(hl:(b3a tb nt ps a).O l=some (some (.var T [.any] false)))(hj:(a2w tb 0 ps a)[j]?=some (.ptr l 0))(his:is.all (fun i=>Nat.blt i (a2w tb 0 ps a).length)=true)
 (h:Rel X c σ (b3a tb nt ps a) nt F) (hv:RVs X c σ (a2w tb 0 ps a) vs) (hC:b1p T f j is σ.w vs):Rel X c σ (c7m T f l j is (b3a tb nt ps a)) nt F:=by
 obtain ⟨b,d5l,h1,h2,h3⟩:=hC
 obtain ⟨v,hvj,hrv⟩:=RVs.at_ _ _ hv j _ hj
 rw [h1] at hvj
 cases hvj
 simp only [RV] at hrv
 obtain ⟨b',w,k1,e⟩:=hrv
 cases e
 obtain ⟨b',cs,k2,k3,k4,k5,k6⟩:=h.objs l _ hl
 rw [k1] at k2
 cases k2
 refine h.revive ⟨b,[.func (.func f) #[] (List.toArray d5l)],k1,?_,by simpa using h2,k5,k6⟩ fun p g hp hg=>?_
 ·simp only [RG]
  refine ⟨_,[],rfl,.inr ⟨rfl,_,rfl,?_⟩,rfl⟩
  simp only [RV]
  exact ⟨d5l,rfl,c6N his hv h3⟩
 ·exact ⟨h.mine l p g ⟨_,hl⟩ hp hg,h.owned ⟨_,hl⟩ hp hg,fun l' p' hne hlv hp' hg'=>hne (h.inj l' l p' p g hlv ⟨_,hl⟩ hp' hp hg' hg)⟩
end
end Go.Qx
end
section
namespace Go.Qx
open Go Go.RowKit Go.Sx
section
variable {I:TypeId->Type} [∀ E,Rp (I E)] {P:Program}{tb:Tab I}{X:Cxt}{c c':Cx}{σ τ:S}{s:St I}{n:Nat}{F:Fr}{O:Obs I}
structure Rio (I:TypeId->Type) where
 f:FuncId
 E:TypeId
 ps:List Pk
 rs:List V
 run:List (I E)->c4w I ps (TyT I (rs++Y5 ps)×List (I E))
def b3E (P:Program)(r:Rio I):Prop:=∀ (σ:S) (xs:List (I r.E)) (a:a3A I r.ps) (vs:List Value) (pls:List Pl) (res:TyT I (r.rs++Y5 r.ps)) (ys:List (I r.E)),
 a9b P (fun b=>σ.N<=b\/b∈ows pls) σ (.row r.E false::r.ps) (xs,a) vs pls->(ows pls).Nodup->b4m r.ps (r.run xs) a=some (res,ys) ->
  a2K P r.f vs σ (Stp (fun b=>b∈ows pls) σ) fun v τ=>∃ ws us pls',Post σ τ (.row r.E false::r.ps) r.rs vs res (ows pls) v ws us pls' /\
   ∃ A k ow,pls.head?=some ⟨A,k,xs.length,ow⟩/\ys.length=xs.length/\a0j ow false r.E τ ys A k/\∀ g,ow=some g->g ∉ ows pls'
omit [∀ E,Rp (I E)] in
theorem c6F {E:TypeId}{fl:Bool}{l:Nat}{y:List (I E)×List Nat×List (Option Nat)}(h:a96 tb O (.row E fl) (.vw l)=some y):y.2.2=[some l]:=by
 simp only [a96] at h
 split at h
 ·replace h:=bind_some h
  obtain ⟨ys,hys,h⟩:=h
  cases fl<;>rename_i fl' _<;>cases fl'<;>first | (cases h; rfl) | cases h
 ·cases h
def b9i (tb:Tab I)(r:Rio I)(disp:a1B I)(ρ:Type)(O:Obs I)(nb:Nat)(ps:List (PV I))(k:Ef I->Option ρ):Option ρ:=match ps with
 | .vw l::ps'=>Option.bind (a9c tb disp O (roO [] (Q3 (grN O (.row r.E false::r.ps) (.vw l::ps')) O)) nb (.row r.E false::r.ps) (.vw l::ps')) fun a =>
   bif c2x (grN O (.row r.E false::r.ps) (.vw l::ps')) a.2 then Option.bind (b4m r.ps (r.run a.1.1) a.1.2) fun res =>
    k ⟨b09 ((pvT tb nb (r.rs++Y5 r.ps) res.1).take r.rs.length),(Q9 O a.2.pub++a3O a.2.all++a7q a.2.gv ((pvT tb nb (r.rs++Y5 r.ps) res.1).drop r.rs.length))++[(l,some (.row r.E res.2 false))],obT (r.rs++Y5 r.ps) res.1⟩ else none
 | _=>none
def d3k (tb:Tab I)(r:Rio I):Ans I:=⟨r.f,b9i tb r⟩
theorem d1Y (ht:TabOk P tb){r:Rio I}(hr:b3E P r):EntOk P (d3k tb r):=by
 refine ⟨fun disp ρ O nb ps k=>?_,fun disp hd O nb ps ef he=>?_⟩
 ·show b9i tb r disp ρ O nb ps k=(b9i tb r disp (Ef I) O nb ps some).bind k
  unfold b9i
  split
  ·rename_i l0 ps'
   simp only [Option.bind_assoc]
   refine c7q fun a=>?_
   cases c2x (grN O (.row r.E false::r.ps) (.vw l0::ps')) a.2
   ·rfl
   ·simp only [cond_true,Option.bind_assoc]
    rfl
  ·rfl
 ·intro X c σ s n F vs hX hO h hvs hfree
  have he':b9i tb r disp (Ef I) O nb ps some=some ef:=he
  unfold b9i at he'
  split at he'
  rotate_left
  ·cases he'
  rename_i l0 ps'
  replace he':=bind_some he'
  obtain ⟨a,ha,he'⟩:=he'
  replace he':=k7 he'
  obtain ⟨hchk,he'⟩:=he'
  replace he':=bind_some he'
  obtain ⟨res,hres,he'⟩:=he'
  cases he'
  obtain ⟨a,acc⟩:=a
  obtain ⟨res,ys⟩:=res
  have hrow0:∃ rest,acc.all=some l0::rest:=by
   obtain ⟨x,hx,e⟩:=bind_some ha
   obtain ⟨y,hy,e⟩:=bind_some e
   cases e
   exact ⟨y.2.all,by show x.2.2++y.2.all=_; rw [c6F hx]; rfl⟩
  have hO0:∃ E,∃ xs:List (I E),∃ fl,O l0=some (some (.row E xs fl)):=by
   obtain ⟨x,hx,e⟩:=bind_some ha
   exact c7Y (ls:=x.2.1) (rows:=x.2.2) hx l0 (by rw [c6F hx]; simp)
  have hfree:a3s (apU s.O (Q9 O acc.pub++a3O acc.all++a7q acc.gv ((pvT tb nb (r.rs++Y5 r.ps) res).drop r.rs.length))) nb (obT (r.rs++Y5 r.ps) res)=true/\l0 ∉ rng nb (obT (r.rs++Y5 r.ps) res).length:=by
   have hf:a3s (apU s.O ((Q9 O acc.pub++a3O acc.all++a7q acc.gv ((pvT tb nb (r.rs++Y5 r.ps) res).drop r.rs.length))++[(l0,some (Ob.row r.E ys false))])) nb (obT (r.rs++Y5 r.ps) res)=true:=hfree
   rw [a4v] at hf
   rw [a2k] at hf ⊢
   have hne:l0 ∉ rng nb (obT (r.rs++Y5 r.ps) res).length:=fun hm=>by
    have:=hf l0 hm
    simp [apU,Q8] at this
   refine ⟨fun l hl=>?_,hne⟩
   have h1:=hf l hl
   have e:l≠l0:=fun e=>hne (by rw [<- e]; exact hl)
   simpa [apU,J0 e] using h1
  obtain ⟨hfree,hl0n⟩:=hfree
  simp only [c2x,Bool.and_eq_true] at hchk
  obtain ⟨⟨q1,q2⟩,q3⟩:=hchk
  obtain ⟨r1,r2⟩:=a8D q1
  have hgr:∀ l,some l∈acc.all->l∈grN O (.row r.E false::r.ps) (.vw l0::ps'):=fun l hl=>by
   have:=(List.all_eq_true.1 q2) _ hl
   exact a0w.1 this
  have hrv:∀ l∈acc.rv,l ∉ grN O (.row r.E false::r.ps) (.vw l0::ps'):=fun l hl=>by
   have:=(List.all_eq_true.1 q3) _ hl
   exact a1x.1 (by simpa using this)
  obtain ⟨τ1,p1,p2,p3,p4,p5,p6⟩:=h.pubs hO acc.pub
  have hvs1:=RVs.step p2 _ _ hvs
  have hpubO:∀ {l:Nat},(∀ E (xs:List (I E)),O l≠some (some (.row E xs false)))->(Z6 s O acc.pub).O l=s.O l:=fun {l} hn=>by
   show apU s.O (Q9 O acc.pub) l=s.O l
   apply a4y
   intro hm
   have hp:∀ {ls:List Nat},l∈a1w (Q9 O ls)->∃ E,∃ xs:List (I E),O l=some (some (.row E xs false)):=by
    intro ls
    induction ls with
    | nil=>intro h; simp [Q9,a1w] at h
    | cons a r ih =>
      intro h
      simp only [Q9] at h
      split at h
      ·rename_i E xs e
       simp only [a1w,List.map_cons,List.mem_cons] at h
       rcases h with rfl | h
       ·exact ⟨E,xs,e⟩
       ·exact ih h
      ·exact ih h
   obtain ⟨E,xs,e⟩:=hp hm
   exact hn E xs e
  have hOv:∀ l T ls w,O l=some (some (.var T ls w))->(Z6 s O acc.pub).O l=some (some (.var T ls w)):=fun l T ls w ho=>by
   rw [hpubO (fun E xs e=>by rw [ho] at e; cases e)]; exact hO l _ ho
  have hOc:∀ l o,roO [] (Q3 (grN O (.row r.E false::r.ps) (.vw l0::ps')) O) l=some (some o)->roO [] (Q3 (grN O (.row r.E false::r.ps) (.vw l0::ps')) (Z6 s O acc.pub).O) l=some (some o):=by
   intro l o hl
   unfold roO Q3 at hl ⊢
   cases hm:W4 l (grN O (.row r.E false::r.ps) (.vw l0::ps')) with
   | true =>
     rw [hm] at hl
     cases hol:O l with
     | none=>rw [hol] at hl; simp [W4] at hl
     | some x=>rw [hol] at hl; simp [W4] at hl
   | false =>
     rw [hm] at hl
     simp only [cond_false,W4] at hl ⊢
     have hne:∀ E (xs:List (I E)),O l≠some (some (.row E xs false)):=fun E xs e=>by rw [e] at hl; simp at hl
     rw [hpubO hne]
     cases hol:O l with
     | none=>rw [hol] at hl; simp at hl
     | some x =>
       cases x with
       | none=>rw [hol] at hl; simp at hl
       | some o'=>rw [hO l o' hol]; rw [hol] at hl; exact hl
  have hlv:∀ l,some l∈acc.all->(∃ o:Ob I,O l=some (some o)/\b4c o=true)\/(∃ T ls,O l=some (some (.var T ls true)))->Y3 (Z6 s O acc.pub) l:=fun l hl hx=>by
   rcases hx with ⟨o,ho,_⟩ | ⟨T,ls,ho⟩
   ·exact ⟨_,(p6 l (r2 l hl)).trans (hO l _ ho)⟩
   ·exact ⟨_,hOv l _ _ _ ho⟩
  have core:∀ M:Nat->Prop,(∀ b,M b->τ1.N<=b\/∃ l∈grN O (.row r.E false::r.ps) (.vw l0::ps'),Y3 (Z6 s O acc.pub) l/\∃ p,c l=some p/\p.w=some b)->_:=fun M hM =>
   a6o ht hd hX p3 (fun l E xs fl e=>b6i ⟨fl,e⟩ ⟨fl,hO l _ e⟩) (fun l E xs e=>(hpubO (fun E' xs' e'=>by rw [e] at e'; cases e')).trans (hO l _ e)) hOv p4 p5 hOc hM (nb:=nb) ha hvs1 (fun _ h=>h) r2 hrv
  have fin:∀ (pls:List Pl),a9b P (fun b=>τ1.N<=b\/b∈ows pls) τ1 (.row r.E false::r.ps) a vs pls->At c acc.all pls->a7v c O acc.gv (a1L (.row r.E false::r.ps) vs)->(∀ l,some l∈acc.all->(∃ o:Ob I,O l=some (some o)/\b4c o=true)\/∃ T v,(l,T,v)∈acc.gv) ->
   (∀ x∈acc.gv,some x.1∈acc.all)->acc.gv.map (fun x=>x.2)=a7y (.row r.E false::r.ps)->a2K P r.f vs σ (Stp X.M σ) fun v τ=>∃ c',Cx.le c c'/\Rel X c' τ (apE s nb ⟨b09 ((pvT tb nb (r.rs++Y5 r.ps) res).take r.rs.length),Q9 O acc.pub++a3O acc.all++a7q acc.gv ((pvT tb nb (r.rs++Y5 r.ps) res).drop r.rs.length)++[(l0,some (.row r.E ys false))],obT (r.rs++Y5 r.ps) res⟩) n F /\
     RV X c' τ (b09 ((pvT tb nb (r.rs++Y5 r.ps) res).take r.rs.length)) v:=by
   intro pls k1 k2 k3 k4 k5 k6
   have hgv:∀ x∈acc.gv,∃ ls,O x.1=some (some (.var x.2.1 ls true)):=by
    have:∀ {gv:List (Nat×TypeId×V)} {bs:List Nat},a7v c O gv bs->∀ x∈gv,∃ ls,O x.1=some (some (.var x.2.1 ls true)):=by
     intro gv
     induction gv with
     | nil=>intro bs _ x hx; cases hx
     | cons y r ih =>
       intro bs ⟨b,bs',ls,_,e2,_,e4⟩ x hx
       rcases List.mem_cons.1 hx with rfl | hx
       ·exact ⟨ls,e2⟩
       ·exact ih e4 x hx
    exact this k3
   have hlive:∀ l,some l∈acc.all->Y3 (Z6 s O acc.pub) l:=fun l hl=>hlv l hl ((k4 l hl).imp id fun ⟨T,v,hm⟩=>by
    obtain ⟨ls,e⟩:=hgv _ hm
    exact ⟨T,ls,e⟩)
   have hnd:(ows pls).Nodup:=At.nodup p3 k2 r1 hlive
   have hown:∀ g∈ows pls,∃ l p,some l∈acc.all/\c l=some p/\p.w=some g:=k2.mem
   have hownM:∀ g∈ows pls,X.M g:=fun g hg=>by
    obtain ⟨l,p,a1,a2,a3⟩:=hown g hg
    exact p3.mine l p g (hlive l a1) a2 a3
   refine a2K.mono (hr τ1 a.1 a.2 vs pls res ys k1 hnd hres) p1.symm fun v τ hst ⟨ws,us,pls',hpost,A0,kk0,ow0,z1,z2,z3,z4⟩=>⟨τ,rfl,p2.trans (hst.mono fun b _ hb=>hownM b hb),?_⟩
   let kl:=acc.all.filterMap id
   have hkl:∀ l,l∈kl↔some l∈acc.all:=fun l=>by simp [kl,List.mem_filterMap]
   let s2:St I:=⟨s.n,s.F,Q3 kl (Z6 s O acc.pub).O,s.nx⟩
   have h2:Rel X c τ1 s2 n F:=p3.less (fun l o ho=>(Y8 ho).2) (fun l ho=>a3j.1 ho)
   have hn2:∀ l p g,Y3 s2 l->c l=some p->p.w=some g->¬ g∈ows pls:=fun l p g ⟨o,ho⟩ hc hw hg=>by
    obtain ⟨m1,m2⟩:=Y8 ho
    obtain ⟨l',p',a1,a2,a3⟩:=hown g hg
    exact m1 ((hkl l).2 (by rw [p3.inj l l' p p' g ⟨o,m2⟩ (hlive l' a1) hc a2 hw a3]; exact a1))
   have hi2:∀ g,g∈ows pls->notIn c τ1 s2 g:=fun g hg=>by
    obtain ⟨l',p',a1,a2,a3⟩:=hown g hg
    exact (p3.owned (hlive l' a1) a2 a3).sub fun l E E' u xs q e=>(Y8 e).2
   have h3:Rel X c τ s2 n F:=h2.stepG hst hownM hn2 hi2
   have hOpub:apU s.O (Q9 O acc.pub++a3O acc.all)=Q3 kl (Z6 s O acc.pub).O:=by
    rw [a4v]
    funext l
    exact b54 fun l hl=>by obtain ⟨o,ho⟩:=hlive l hl; intro e; have:=ho; rw [show (Z6 s O acc.pub).O l=apU s.O (Q9 O acc.pub) l from rfl,e] at this; cases this
   have hgvO:∀ x∈acc.gv,∃ ls,(Z6 s O acc.pub).O x.1=some (some (.var x.2.1 ls true)):=fun x hx=>by
    obtain ⟨ls,e⟩:=hgv x hx
    exact ⟨ls,hOv _ _ _ _ e⟩
   have hfree2:∀ l∈rng nb (obT (r.rs++Y5 r.ps) res).length,Q3 kl (Z6 s O acc.pub).O l=none/\l ∉ acc.gv.map (·.1):=by
    rw [a2k] at hfree
    intro l hl
    have h0:=hfree l hl
    rw [a4v,hOpub] at h0
    by_cases hk:l∈a1w (a7q acc.gv ((pvT tb nb (r.rs++Y5 r.ps) res).drop r.rs.length))
    ·exact absurd h0 (b5F (O':=s.O) hk).2
    ·rw [a4y hk] at h0
     refine ⟨h0,fun hm=>?_⟩
     simp only [List.mem_map] at hm
     obtain ⟨x,hx,e⟩:=hm
     have:=(hkl x.1).2 (k5 x hx)
     rw [e] at this
     have hl2:=hlive l ((hkl l).1 this)
     obtain ⟨o,ho⟩:=hl2
     have:=a3j.1 h0
     rw [ho] at this; cases this
   have htt:TT τ (r.rs++Y5 r.ps) res (ws++us) pls':=hpost.tt
   have hob:=a80 htt
   obtain ⟨h4,h5⟩:=Rel.addN (nb:=nb) h3 (a2k.2 fun l hl=>(hfree2 l hl).1) hob hpost.nodup fun g hg=>by
    have ho:=hpost.own g hg
    refine ⟨ho.1.elim (fun h=>.inl (Nat.le_trans p3.base h)) (hownM g),(ho.1.elim (fun h=>h2.fresh h) (hi2 g)).step h2 hst hn2 hi2,fun l p ⟨o,ho'⟩ hc hw=>?_⟩
    obtain ⟨m1,m2⟩:=Y8 ho'
    rcases ho.1 with hge | hin
    ·have:=(p3.objs l o m2).lt hc hw
     have:τ1.w.heap.size<=g:=hge
     omega
    ·obtain ⟨l',p',a1,a2,a3⟩:=hown g hin
     exact m1 ((hkl l).2 (by rw [p3.inj l l' p p' g ⟨o,m2⟩ (hlive l' a1) hc a2 hw a3]; exact a1))
   obtain ⟨hps,hlen⟩:=b4Z (X:=X) (c:=X8 c nb pls') (nb:=nb) ht hpost.tt a2j
   have htk:=RVs.take r.rs.length _ _ hps
   have hdr:=RVs.drop r.rs.length _ _ hps
   rw [List.take_left' hpost.len] at htk
   rw [List.drop_left' hpost.len] at hdr
   have hold:∀ l,(Z6 s O acc.pub).O l≠none->X8 c nb pls' l=c l:=fun l hl=>by
    have key:∀ {ps:List Pl} {c:Cx} {nb:Nat},(l<nb\/nb+ps.length<=l)->X8 c nb ps l=c l:=by
     intro ps
     induction ps with
     | nil=>intro c nb _; rfl
     | cons p ps ih =>
       intro c nb h
       simp only [X8]
       rw [ih (by simp only [List.length_cons] at h; omega)]
       have:l≠nb:=by simp only [List.length_cons] at h; omega
       simp [a0E,this]
    apply key
    apply Classical.byContradiction
    intro hn
    rw [not_or] at hn
    exact hl (a3j.1 (hfree2 l (a2N.2 ⟨by omega,by rw [hob.1]; omega⟩)).1)
   have hvarb:∀ {gv:List (Nat×TypeId×V)} {bs:List Nat},a7v c O gv bs->∀ x∈gv,∀ p g,c x.1=some p->p.w=some g->g∈bs:=by
    intro gv
    induction gv with
    | nil=>intro bs _ x hx; cases hx
    | cons y r ih =>
      intro bs ⟨b,bs',ls,e1,e2,e3,e4⟩ x hx p g hc hw
      subst e1
      rcases List.mem_cons.1 hx with rfl | hx
      ·rw [e3] at hc; cases hc; cases hw; simp
      ·simp [ih e4 x hx p g hc hw]
   have k6':acc.gv.map (fun x=>x.2)=a7y r.ps:=k6
   have hat:∀ (i:Nat) (y:Nat×V) (p:PV I),(acc.gv.map fun x=>(x.1,x.2.2))[i]?=some y->((pvT tb nb (r.rs++Y5 r.ps) res).drop r.rs.length)[i]?=some p->∃ nb' z,p=pvV tb nb' y.2 z:=fun i y p hi hp=>by
    refine c1P (tb:=tb) (vs:=r.rs++Y5 r.ps) (nb:=nb) (x:=res) (i:=r.rs.length+i) (v:=y.2) ?_ (by rw [List.getElem?_drop] at hp; exact hp)
    rw [List.getElem?_append_right (by simp),Nat.add_sub_cancel_left,<- a5A,<- k6']
    rw [List.getElem?_map] at hi
    simp only [List.map_map,List.getElem?_map]
    cases hgi:acc.gv[i]? with
    | none=>rw [hgi] at hi; cases hi
    | some z=>rw [hgi] at hi; cases hi; rfl
   have h6:=Rel.asgW (pls:=pls') ht p3 h5 (a7B hpost.out k3 k6 hgvO) hdr (fun i y p hi hp hag=>by
    obtain ⟨nb',z,e⟩:=hat i y p hi hp
    rw [e]; exact b9s hag)
    (fun i y p hi hp hag=>by
      obtain ⟨nb',z,e⟩:=hat i y p hi hp
      rw [e]; exact b9r hag)
    (fun l hl=>hold l (by
      simp only [List.mem_map] at hl
      obtain ⟨x,hx,rfl⟩:=hl
      obtain ⟨ls,e⟩:=hgvO x hx
      rw [e]; simp))
    (fun l hl p g hc hw=>by
      simp only [List.mem_map] at hl
      obtain ⟨x,hx,rfl⟩:=hl
      exact p3.mine x.1 p g (hlive _ (k5 x hx)) hc hw)
    (fun l ⟨o,ho⟩=>by
      by_cases hm:l∈rng nb (obT (r.rs++Y5 r.ps) res).length
      ·right
       obtain ⟨a1,a2⟩:=a2N.1 hm
       have hlt:l-nb<pls'.length:=by rw [<- hob.1]; omega
       refine ⟨pls'[l-nb],List.getElem_mem _,?_⟩
       have:=a2j (c:=c) (nb:=nb) (l-nb) pls'[l-nb] (List.getElem?_eq_getElem hlt)
       rw [show nb+(l-nb)=l from by omega] at this
       exact this
      ·left
       have ho':a0I (Q3 kl (Z6 s O acc.pub).O) nb (obT (r.rs++Y5 r.ps) res) l=some (some o):=ho
       rw [a0T hm] at ho'
       obtain ⟨_,m2⟩:=Y8 ho'
       exact ⟨⟨o,m2⟩,hold l (by rw [m2]; simp)⟩)
    (fun l hl p hc g hw hm=>by
      simp only [List.mem_map] at hl
      obtain ⟨x,hx,rfl⟩:=hl
      exact (hpost.own g hm).2 (hvarb k3 x hx p g hc hw))
    (fun l hl p hc g hw=>by
      simp only [List.mem_map] at hl
      obtain ⟨x,hx,rfl⟩:=hl
      obtain ⟨ls,e⟩:=hgvO x hx
      exact (((p3.owned ⟨_,e⟩ hc hw).sub (s':=s2) fun l E E' u xs q e=>(Y8 e).2).step h2 hst hn2 hi2).grow h3 h4 (a6j hob.not))
   refine ⟨_,h4,?_,by rw [hpost.ret]; exact c20 htk⟩
   have hO2:a0I (apU s.O (Q9 O acc.pub++a3O acc.all++a7q acc.gv ((pvT tb nb (r.rs++Y5 r.ps) res).drop r.rs.length))) nb (obT (r.rs++Y5 r.ps) res) =
    asgW (Z6 s O acc.pub).O (acc.gv.map fun x=>(x.1,x.2.2)) (acc.gv.map (·.1)) ((pvT tb nb (r.rs++Y5 r.ps) res).drop r.rs.length) (a0I (Q3 kl (Z6 s O acc.pub).O) nb (obT (r.rs++Y5 r.ps) res)):=by
    rw [a4v,hOpub]
    exact c0R fun x hx=>⟨hgvO x hx,fun hm=>(hfree2 x.1 hm).2 (List.mem_map.2 ⟨x,hx,rfl⟩)⟩
   have e:apE s nb ⟨b09 ((pvT tb nb (r.rs++Y5 r.ps) res).take r.rs.length),Q9 O acc.pub++a3O acc.all++a7q acc.gv ((pvT tb nb (r.rs++Y5 r.ps) res).drop r.rs.length)++[(l0,some (.row r.E ys false))],obT (r.rs++Y5 r.ps) res⟩ =
    Q2 ⟨s.n,s.F,asgW (Z6 s O acc.pub).O (acc.gv.map fun x=>(x.1,x.2.2)) (acc.gv.map (·.1)) ((pvT tb nb (r.rs++Y5 r.ps) res).drop r.rs.length) (a0I (Q3 kl (Z6 s O acc.pub).O) nb (obT (r.rs++Y5 r.ps) res)),s.nx⟩ l0 (some (.row r.E ys false)):=by
    have e1:apU s.O (Q9 O acc.pub++a3O acc.all++a7q acc.gv ((pvT tb nb (r.rs++Y5 r.ps) res).drop r.rs.length)++[(l0,some (.row r.E ys false))])=upF (apU s.O (Q9 O acc.pub++a3O acc.all++a7q acc.gv ((pvT tb nb (r.rs++Y5 r.ps) res).drop r.rs.length))) l0 (some (.row r.E ys false)):=by rw [a4v]; rfl
    simp only [apE,e1,c5O hl0n,hO2,Q2]
   rw [e]
   obtain ⟨a6X,hall⟩:=hrow0
   have hm0:some l0∈acc.all:=by rw [hall]; simp
   obtain ⟨pl0,pls0,e0,hc0,_⟩:=(by rw [hall] at k2; exact k2:At c (some l0::a6X) pls)
   have hc0:c l0=some pl0:=hc0
   rw [e0] at z1
   cases z1
   have hl0v:l0 ∉ acc.gv.map (·.1):=fun hm=>by
    simp only [List.mem_map] at hm
    obtain ⟨x,hx,e⟩:=hm
    obtain ⟨ls,e2⟩:=hgv x hx
    obtain ⟨E,xs,fl,e3⟩:=hO0
    rw [<- e,e2] at e3; cases e3
   obtain ⟨o0,hlive0⟩:=hlive l0 hm0
   have hdead:asgW (Z6 s O acc.pub).O (acc.gv.map fun x=>(x.1,x.2.2)) (acc.gv.map (·.1)) ((pvT tb nb (r.rs++Y5 r.ps) res).drop r.rs.length) (a0I (Q3 kl (Z6 s O acc.pub).O) nb (obT (r.rs++Y5 r.ps) res)) l0=some none:=by
    rw [b2E hl0v,a0T hl0n]
    unfold Q3
    rw [a0w.2 ((hkl l0).2 hm0),hlive0]
    rfl
   have hc0':=(hold l0 (by rw [hlive0]; simp)).trans hc0
   refine h6.revive ⟨A0,kk0,ow0,by rw [z2]; exact hc0',z3⟩ fun p2 g hp2 hg=>?_
   rw [hc0'] at hp2
   cases hp2
   refine ⟨hownM g (by rw [e0]; simp only at hg; subst hg; simp [ows]),?_,fun l' p' _ ⟨o',ho'⟩ hc' hw'=>?_⟩
   ·have hn:=(((hi2 g (by rw [e0]; simp only at hg; subst hg; simp [ows])).step h2 hst hn2 hi2).grow h3 h4 (a6j hob.not):notIn (X8 c nb pls') τ (addN s2 nb (obT (r.rs++Y5 r.ps) res)) g)
    exact hn.sub fun l E E' u xs q e=>b64 (by simpa using e)
   have ho':asgW (Z6 s O acc.pub).O (acc.gv.map fun x=>(x.1,x.2.2)) (acc.gv.map (·.1)) ((pvT tb nb (r.rs++Y5 r.ps) res).drop r.rs.length) (a0I (Q3 kl (Z6 s O acc.pub).O) nb (obT (r.rs++Y5 r.ps) res)) l'=some (some o'):=ho'
   by_cases hm:l'∈rng nb (obT (r.rs++Y5 r.ps) res).length
   ·obtain ⟨a1,a2⟩:=a2N.1 hm
    have hlt:l'-nb<pls'.length:=by rw [<- hob.1]; omega
    have hn:=a2j (c:=c) (nb:=nb) (l'-nb) pls'[l'-nb] (List.getElem?_eq_getElem hlt)
    rw [show nb+(l'-nb)=l' from by omega,hc'] at hn
    cases hn
    exact z4 g hg (b5L.2 ⟨_,List.getElem_mem _,hw'⟩)
   ·have hlv':Y3 (Z6 s O acc.pub) l':=by
     by_cases hv:l'∈acc.gv.map (·.1)
     ·simp only [List.mem_map] at hv
      obtain ⟨x,hx,e⟩:=hv
      rw [<- e]
      exact hlive _ (k5 x hx)
     ·rw [b2E hv,a0T hm] at ho'
      exact ⟨_,(Y8 ho').2⟩
    have hcc:c l'=some p':=by
     obtain ⟨o2,ho2⟩:=hlv'
     rw [<- hold l' (by rw [ho2]; simp)]; exact hc'
    have el:=p3.inj l' l0 p' _ g hlv' ⟨_,hlive0⟩ hcc hc0 hw' hg
    rw [el,hdead] at ho'
    cases ho'
  obtain ⟨pls0,k1,k2,k3,k4,k5,k6⟩:=core (fun _=>False) (fun _ h=>h.elim)
  obtain ⟨pls,k1',k2',_⟩:=core (fun b=>τ1.N<=b\/b∈ows pls0) (fun b hb=>hb.imp id fun hb=>by
   obtain ⟨l,p,a1,a2,a3⟩:=k2.mem b hb
   refine ⟨l,hgr l a1,hlv l a1 ((k4 l a1).imp id fun ⟨T,v,hm⟩=>?_),p,a2,a3⟩
   have:∀ {gv:List (Nat×TypeId×V)} {bs:List Nat},a7v c O gv bs->∀ x∈gv,∃ ls,O x.1=some (some (.var x.2.1 ls true)):=by
    intro gv
    induction gv with
    | nil=>intro bs _ x hx; cases hx
    | cons y r ih =>
      intro bs ⟨b,bs',ls,_,e2,_,e4⟩ x hx
      rcases List.mem_cons.1 hx with rfl | hx
      ·exact ⟨ls,e2⟩
      ·exact ih e4 x hx
   obtain ⟨ls,e⟩:=this k3 _ hm
   exact ⟨T,ls,e⟩)
  have hsame:ows pls=ows pls0:=by
   have:∀ {rows:List (Option Nat)} {p q:List Pl},At c rows p->At c rows q->ows p=ows q:=by
    intro rows
    induction rows with
    | nil=>intro p q h1 h2; cases h1; cases h2; rfl
    | cons x r ih =>
      intro p q ⟨a,d5l,e1,g1,h1⟩ ⟨b,bs,e2,g2,h2⟩
      subst e1
      subst e2
      have hr:=ih h1 h2
      simp only [ows,List.filterMap_cons] at hr ⊢
      have:a.w=b.w:=by
       cases x with
       | none=>simp only at g1 g2; rw [g1,g2]
       | some l=>simp only at g1 g2; rw [g1] at g2; cases g2; rfl
      rw [this,hr]
   exact this k2' k2
  rw [<- hsame] at k1'
  exact fin pls k1' k2' k3 k4 k5 k6
end
end Go.Qx
end
section
namespace Go.Qx
open Go Go.RowKit Go.Sx
@[reducible] def d26:Rp Unit where
 sz:=1
 pos:=by decide
 agg:=false
 cells:=fun _ _ _=>False
 len:=fun h=>h.elim
 one:=fun h=>h.elim
 mono:=fun _ h=>h
@[reducible] def rpK (k:IntKind):Rp Int:=rpIK k
@[reducible] def Y7 {α β:Type} (a:Rp α) (b:Rp β):Rp (α×β) where
 sz:=a.sz+b.sz
 pos:=Nat.lt_of_lt_of_le a.pos (Nat.le_add_right _ _)
 agg:=true
 cells:=fun σ x cs=>∃ c1 c2,cs=c1++c2/\a.cells σ x.1 c1/\b.cells σ x.2 c2
 len:=fun ⟨_,_,e,h1,h2⟩=>by rw [e,List.length_append,a.len h1,b.len h2]
 one:=fun ⟨_,_,e,h1,h2⟩ v hv=>by
  rw [e,List.mem_append] at hv
  exact hv.elim (a.one h1 v) (b.one h2 v)
 mono:=fun k ⟨c1,c2,e,h1,h2⟩=>⟨c1,c2,e,a.mono k h1,b.mono k h2⟩
@[reducible] def a8f {γ α:Type} (to:γ->α) (a:Rp α):Rp γ where
 sz:=a.sz
 pos:=a.pos
 agg:=true
 cells:=fun σ x cs=>a.cells σ (to x) cs
 len:=fun h=>a.len h
 one:=fun h=>a.one h
 mono:=fun k h=>a.mono k h
structure TE where
 E:TypeId
 α:Type
 rp:Rp α
def c75:List TE->TypeId->TE
 | [],_=>⟨0,Unit,d26⟩
 | e::r,E=>bif Nat.beq e.E E then e else c75 r E
section
variable {I:TypeId->Type} [∀ E,Rp (I E)]
structure Fd (I:TypeId->Type) [∀ E,Rp (I E)] (α:Type)(rp:Rp α) where
 lf:α->List (PV I)
 pa:(ρ:Type)->List (PV I)->(α->List (PV I)->Option ρ)->Option ρ
 lf_ok:∀ (X:Cxt) (c:Cx) (σ:S) (x:α) (cs:List Value),rp.cells σ x cs->RG X c σ (lf x) cs
 pa_ok:∀ (ρ:Type) (ls:List (PV I)) (f:α->List (PV I)->Option ρ) (r:ρ),pa ρ ls f=some r->∃ x rest,f x rest=some r /\
  ∀ (X:Cxt) (c:Cx) (σ:S) (cs:List Value),RG X c σ ls cs->∃ c1 c2,cs=c1++c2/\rp.cells σ x c1/\RG X c σ rest c2
theorem RG.cons1 {X:Cxt}{c:Cx}{σ:S}{p:PV I}{r:List (PV I)}{cs:List Value}(h:RG X c σ (p::r) cs)(hp:a7z p=false):∃ v c2,cs=[v]++c2/\RV X c σ p v/\RG X c σ r c2:=by
 simp only [RG] at h
 obtain ⟨a,c2,e,h1 | ⟨_,v,e1,h1⟩,h2⟩:=h
 ·exact (by cases p<;>first | exact h1.elim | cases hp)
 ·exact ⟨v,c2,by rw [e,e1],h1,h2⟩
theorem RG.cns {X:Cxt}{c:Cx}{σ:S}{p:PV I}{ps:List (PV I)}{v:Value}{cs:List Value}(h0:a7z p=false)(h:RV X c σ p v)(k:RG X c σ ps cs):RG X c σ (p::ps) (v::cs):=by
 simp only [RG]
 exact ⟨[v],cs,rfl,.inr ⟨h0,v,rfl,h⟩,k⟩
theorem RG.nl {X:Cxt}{c:Cx}{σ:S}:RG X c σ ([]:List (PV I)) []:=by simp only [RG]
theorem a2t {X:Cxt}{c:Cx}{σ:S}{k:IntKind}{n:Int}:RV X c σ (.int k n:PV I) (.int k n):=by simp only [RV]
theorem a5u {X:Cxt}{c:Cx}{σ:S}{b:Bool}:RV X c σ (.bool b:PV I) (.bool b):=by simp only [RV]
theorem b9B {X:Cxt}{c:Cx}{σ:S}{b:ByteArray}:RV X c σ (.str b:PV I) (.string b):=by simp only [RV]
theorem a0q {X:Cxt}{c:Cx}{σ:S}{E:TypeId}:RV X c σ (.nl E:PV I) (.slice none 0 0):=by simp only [RV]; exact ⟨none,rfl⟩
theorem d0W {X:Cxt}{c:Cx}{σ:S}{v:Value}:RV X c σ (.any:PV I) v:=by simp only [RV]
def a3n (k:IntKind):Fd I Int (rpK k) where
 lf:=fun n=>[.int k n]
 pa:=fun _ ls f=>match ls with
  | .int k' n::r=>if k'=k then f n r else none
  | _=>none
 lf_ok:=fun X c σ x cs h=>by
  have e:cs=[.int k x]:=h
  rw [e]
  exact RG.single rfl (by simp only [RV])
 pa_ok:=fun ρ ls f r h=>by
  split at h
  ·rename_i k' n rest
   obtain ⟨e,h2⟩:=a04 h
   clear h
   subst e
   refine ⟨n,rest,h2,fun X c σ cs hl=>?_⟩
   obtain ⟨v,c2,e,h1,h2⟩:=hl.cons1 rfl
   simp only [RV] at h1
   subst h1
   exact ⟨_,c2,e,rfl,h2⟩
  ·cases h
def a7m:Fd I Bool rpBool where
 lf:=fun n=>[.bool n]
 pa:=fun _ ls f=>match ls with
  | .bool n::r=>f n r
  | _=>none
 lf_ok:=fun X c σ x cs h=>by
  have e:cs=[.bool x]:=h
  rw [e]
  exact RG.single rfl (by simp only [RV])
 pa_ok:=fun ρ ls f r h=>by
  split at h
  ·rename_i n rest
   refine ⟨n,rest,h,fun X c σ cs hl=>?_⟩
   obtain ⟨v,c2,e,h1,h2⟩:=hl.cons1 rfl
   simp only [RV] at h1
   subst h1
   exact ⟨_,c2,e,rfl,h2⟩
  ·cases h
def c4d:Fd I ByteArray rpStr where
 lf:=fun n=>[.str n]
 pa:=fun _ ls f=>match ls with
  | .str n::r=>f n r
  | _=>none
 lf_ok:=fun X c σ x cs h=>by
  have e:cs=[.string x]:=h
  rw [e]
  exact RG.single rfl (by simp only [RV])
 pa_ok:=fun ρ ls f r h=>by
  split at h
  ·rename_i n rest
   refine ⟨n,rest,h,fun X c σ cs hl=>?_⟩
   obtain ⟨v,c2,e,h1,h2⟩:=hl.cons1 rfl
   simp only [RV] at h1
   subst h1
   exact ⟨_,c2,e,rfl,h2⟩
  ·cases h
def a2d (E:TypeId):Fd I (List (I E)) rpList where
 lf:=fun xs=>[.sl E xs false]
 pa:=fun _ ls f=>match ls with
  | .sl E' xs _::r=>Option.bind (a21 E E' xs) fun ys=>f ys r
  | .nl E'::r=>bif Nat.beq E' E then f [] r else none
  | _=>none
 lf_ok:=fun X c σ xs cs h=>by
  obtain ⟨A,k,e,hs⟩:∃ A k,cs=[.slice A (xs:List (I E)).length k]/\Sl σ xs A k:=h
  rw [e]
  refine RG.single rfl ?_
  simp only [RV]
  exact ⟨A,k,rfl,hs,fun e=>by cases e⟩
 pa_ok:=fun ρ ls f r h=>by
  split at h
  ·rename_i E' xs fl rest
   obtain ⟨ys,hy,h⟩:=bind_some h
   obtain ⟨e,rfl⟩:=a0D hy
   subst e
   refine ⟨xs,rest,h,fun X c σ cs hl=>?_⟩
   obtain ⟨v,c2,e,h1,h2⟩:=hl.cons1 rfl
   simp only [RV] at h1
   obtain ⟨A,k,e1,hs,_⟩:=h1
   exact ⟨[v],c2,e,⟨A,k,by rw [e1],hs⟩,h2⟩
  ·rename_i E' rest
   obtain ⟨_,h⟩:=k7 h
   refine ⟨[],rest,h,fun X c σ cs hl=>?_⟩
   obtain ⟨v,c2,e,h1,h2⟩:=hl.cons1 rfl
   simp only [RV] at h1
   obtain ⟨A,e1⟩:=h1
   exact ⟨[v],c2,e,⟨A,0,by rw [e1]; rfl,Sl.nil_ _ _ _ (Nat.zero_le _)⟩,h2⟩
  ·cases h
def b3L (E:TypeId)(fd:Fd I (I E) inferInstance):Fd I (I E) inferInstance where
 lf:=fun x=>[.dat E x]
 pa:=fun ρ ls f=>match ls with
  | .dat E' x::r=>Option.bind (a86 E E' x) fun y=>f y r
  | ls=>fd.pa ρ ls f
 lf_ok:=fun X c σ x cs h=>RG.one h
 pa_ok:=fun ρ ls f r h=>by
  split at h
  ·rename_i E' x rest
   obtain ⟨y,hy,h⟩:=bind_some h
   obtain ⟨e,rfl⟩:=b2f hy
   subst e
   refine ⟨x,rest,h,fun X c σ cs hl=>?_⟩
   simp only [RG] at hl
   obtain ⟨a,c2,e,h1 | ⟨h1,_⟩,h2⟩:=hl
   ·exact ⟨a,c2,e,h1,h2⟩
   ·cases h1
  ·exact fd.pa_ok ρ _ f r h
def J2 {α β:Type}{ra:Rp α}{rb:Rp β}(a:Fd I α ra)(b:Fd I β rb):Fd I (α×β) (Y7 ra rb) where
 lf:=fun x=>a.lf x.1++b.lf x.2
 pa:=fun ρ ls f=>a.pa ρ ls fun x r=>b.pa ρ r fun y r=>f (x,y) r
 lf_ok:=fun X c σ x cs ⟨c1,c2,e,h1,h2⟩=>by
  rw [e]
  exact RG.app _ _ _ _ (a.lf_ok X c σ _ _ h1) (b.lf_ok X c σ _ _ h2)
 pa_ok:=fun ρ ls f r h=>by
  obtain ⟨x,r1,h,k1⟩:=a.pa_ok ρ _ _ r h
  obtain ⟨y,r2,h,k2⟩:=b.pa_ok ρ _ _ r h
  refine ⟨(x,y),r2,h,fun X c σ cs hl=>?_⟩
  obtain ⟨c1,c2,e,h1,h2⟩:=k1 X c σ cs hl
  obtain ⟨c3,c4,e2,h3,h4⟩:=k2 X c σ c2 h2
  exact ⟨c1++c3,c4,by rw [e,e2,List.append_assoc],⟨c1,c3,rfl,h1,h3⟩,h4⟩
def a6z {γ α:Type}{rg:Rp γ}{ra:Rp α}(a:Fd I α ra)(to:γ->α)(of:α->γ)(h:∀ x,to (of x)=x)(hc:∀ σ x cs,rg.cells σ x cs↔ra.cells σ (to x) cs):Fd I γ rg where
 lf:=fun x=>a.lf (to x)
 pa:=fun ρ ls f=>a.pa ρ ls fun x r=>f (of x) r
 lf_ok:=fun X c σ x cs hx=>a.lf_ok X c σ _ _ ((hc σ x cs).1 hx)
 pa_ok:=fun ρ ls f r hr=>by
  obtain ⟨x,r1,hr,k1⟩:=a.pa_ok ρ _ _ r hr
  refine ⟨of x,r1,hr,fun X c σ cs hl=>?_⟩
  obtain ⟨c1,c2,e,h1,h2⟩:=k1 X c σ cs hl
  exact ⟨c1,c2,e,(hc σ _ _).2 (by rw [h]; exact h1),h2⟩
structure FE (I:TypeId->Type) [∀ E,Rp (I E)] where
 E:TypeId
 fd:Fd I (I E) inferInstance
def c7T:List (FE I)->TypeId->Option (FE I)
 | [],_=>none
 | e::r,E=>bif Nat.beq e.E E then some e else c7T r E
def lfT (l:List (FE I))(E:TypeId)(x:I E):List (PV I):=match c7T l E with
 | some e=>if h:E=e.E then e.fd.lf (h▸x) else [.dat E x]
 | none=>[.dat E x]
def ofT (l:List (FE I))(E:TypeId)(ls:List (PV I)):Option (I E):=match c7T l E with
 | some e=>if h:e.E=E then e.fd.pa (I E) ls fun x r=>match r with
   | []=>some (h▸x)
   | _=>none else none
 | none=>none
def a6Q {α:Type}(p:α->Prop):List α->Prop
 | []=>True
 | x::r=>p x/\a6Q p r
omit [∀ E,Rp (I E)] in
theorem a6Q.mem {α:Type}{p:α->Prop}:∀ {l:List α},a6Q p l->∀ x∈l,p x
 | [],_,_,h=>by cases h
 | _::_,h,x,hx=>by
   rcases List.mem_cons.1 hx with rfl | hx
   ·exact h.1
   ·exact a6Q.mem h.2 x hx
def asc {α:Type}:List (Nat×α)->Nat->Option α
 | [],_=>none
 | x::r,k=>bif Nat.beq x.1 k then some x.2 else asc r k
omit [∀ E,Rp (I E)] in
theorem a1i {α:Type}:∀ {l:List (Nat×α)} {k:Nat} {a:α},asc l k=some a->(k,a)∈l
 | [],_,_,h=>by cases h
 | x::r,k,a,h=>by
   simp only [asc] at h
   cases hk:Nat.beq x.1 k with
   | true =>
     rw [hk] at h
     cases h
     have:=Nat.eq_of_beq_eq_true hk
     subst this
     simp
   | false =>
     rw [hk] at h
     exact List.mem_cons_of_mem _ (a1i h)
structure TabL (I:TypeId->Type) [∀ E,Rp (I E)] where
 sz:List (TypeId×Nat)
 one:List (TypeId×Unit)
 fld:List (TypeId×List (Nat×TypeId))
 el:List (TypeId×TypeId)
 str:List (TypeId×Unit)
 bool:List (TypeId×Unit)
 ik:List (TypeId×IntKind)
 fe:List (FE I)
 inf:List (TypeId×Nat×Nat×List (PV I))
 st:List (TypeId×List (Nat×Nat))
 eq:List (TypeId×(List (PV I)->List (PV I)->Option Bool))
 arr:List (TypeId×(TypeId×Nat×Nat))
 fb:List (FuncId×Unit)
 nest:List (TypeId×(TypeId×Nat)):=[]
 mp:List (TypeId×Kd):=[]
 u8:List (TypeId×Unit):=[]
def d1b (L:TabL I):Tab I where
 sz:=asc L.sz
 one:=fun T=>(asc L.one T).isSome
 off:=fun T f=>Option.bind (asc L.fld T) fun l=>Option.bind l[f]? fun x=>some x.1
 fty:=fun T f=>Option.bind (asc L.fld T) fun l=>Option.bind l[f]? fun x=>some x.2
 el:=asc L.el
 isStr:=fun T=>(asc L.str T).isSome
 isBool:=fun T=>(asc L.bool T).isSome
 ik:=asc L.ik
 lf:=lfT L.fe
 of:=ofT L.fe
 size:=fun T=>Option.bind (asc L.inf T) fun x=>some x.1
 bytes:=fun T=>Option.bind (asc L.inf T) fun x=>some x.2.1
 zero:=fun T=>Option.bind (asc L.inf T) fun x=>some x.2.2
 flds:=asc L.st
 eqF:=fun T a b=>Option.bind (asc L.eq T) fun f=>f a b
 arr:=asc L.arr
 mp:=asc L.mp
 fb:=fun f=>(asc L.fb f).isSome
 nest:=asc L.nest
 u8:=fun T=>(asc L.u8 T).isSome
def b2d (P:Program)(T:TypeId):Nat->List (Nat×TypeId)->Prop
 | _,[]=>True
 | i,x::r=>b9C P T i x.1/\(∃ fs fl,P.underlying T=some (.struct fs)/\fs[i]?=some fl/\fl.type=x.2)/\b2d P T (i+1) r
omit [∀ E,Rp (I E)] in
theorem b2d.at {P:Program}{T:TypeId}:∀ {l:List (Nat×TypeId)} {i j:Nat} {x:Nat×TypeId},b2d P T i l->l[j]?=some x->b9C P T (i+j) x.1/\(∃ fs fl,P.underlying T=some (.struct fs)/\fs[i+j]?=some fl/\fl.type=x.2)
 | [],_,_,_,_,h=>by simp at h
 | y::r,i,0,x,hf,h=>by simp at h; subst h; exact ⟨hf.1,hf.2.1⟩
 | y::r,i,j+1,x,hf,h=>by
   have:=b2d.at (i:=i+1) hf.2.2 (show r[j]?=some x by simpa using h)
   rwa [show i+1+j=i+(j+1) by omega] at this
def d4s (P:Program)(T:TypeId)(sz by_:Nat)(ls:List (PV I)):Prop:=∃ z,Q6 P T z sz by_/\∀ X c σ,RG X c σ ls z.cells.toList
structure TabLOk (P:Program)(L:TabL I):Prop where
 sz:a6Q (fun x=>c2t P x.1 x.2) L.sz
 one:a6Q (fun x=>a2C P x.1) L.one
 fld:a6Q (fun x=>b2d P x.1 0 x.2) L.fld
 el:a6Q (fun x=>P.underlying x.1=some (.slice x.2)/\∃ z b,Q6 P x.2 z (Rp.sz (I x.2)) b/\z.cells.size=Rp.sz (I x.2)/\0<b) L.el
 str:a6Q (fun x=>P.underlying x.1=some .string) L.str
 bool:a6Q (fun x=>P.underlying x.1=some .bool) L.bool
 ik:a6Q (fun x=>P.underlying x.1=some (.int x.2)) L.ik
 inf:a6Q (fun x=>d4s P x.1 x.2.1 x.2.2.1 x.2.2.2) L.inf
 st:a6Q (fun x=>(∃ fs,P.underlying x.1=some (.struct fs)/\fs.toList.mapM (fun f=>(P.info? f.type).map fun i=>(f.offset,i.size))=some x.2) \/
  ∃ m e ie,P.underlying x.1=some (.array m e)/\P.info? e=some ie/\x.2=(List.range m).map fun j=>(j*ie.size,ie.size)) L.st
 eq:a6Q (fun x=>∀ (X:Cxt) (c:Cx) (σ:S) (ls ms:List (PV I)) (r:Bool) (cs ds:List Value),x.2 ls ms=some r->RG X c σ ls cs->RG X c σ ms ds ->
  P.eqGuardType P.depth x.1=false/\∃ j,Nat.ble j 10000=true/\Sx.EqAt P j x.1 (.agg cs.toArray) (.agg ds.toArray) r) L.eq
 arr:a6Q (fun x=>P.underlying x.1=some (.array x.2.2.1 x.2.1)/\(P.info? x.2.1).map (·.size)=some x.2.2.2) L.arr
 mp:a6Q (fun x=>c4m I P x.1 x.2) L.mp:=by exact trivial
 u8:a6Q (fun x=>P.underlying x.1=some (.int .u8)/\∀ y:I x.1,∃ n,lfT L.fe x.1 y=[.int .u8 n]) L.u8:=by exact trivial
 fb:a6Q (fun x=>a4z P x.1) L.fb
omit [∀ E,Rp (I E)] in
theorem d3G {P:Program}{T e:TypeId}{m k b:Nat}{z:Value}{pl:List (Nat×Nat)}(hu:P.underlying T=some (.array m e))(hi:Q6 P e z k b)(hp:pl=(List.range m).map fun j=>(j*k,k)) :
 ∃ m e ie,P.underlying T=some (.array m e)/\P.info? e=some ie/\pl=(List.range m).map fun j=>(j*ie.size,ie.size):=by
 obtain ⟨i,h1,h2,h3,h4⟩:=hi
 exact ⟨m,e,i,hu,h1,by rw [hp,h3]⟩
omit [∀ E,Rp (I E)] in
theorem b0u {α:Type}{o:Option α}(h:o.isSome=true):∃ a,o=some a:=Option.isSome_iff_exists.1 h
omit [∀ E,Rp (I E)] in
theorem Q6.inj {P:Program}{T:TypeId}{z z':Value}{a a' b b':Nat}(h:Q6 P T z a b)(k:Q6 P T z' a' b'):z=z'/\a=a'/\b=b':=by
 obtain ⟨i,h1,h2,h3,h4⟩:=h
 obtain ⟨j,k1,k2,k3,k4⟩:=k
 rw [h1] at k1
 cases k1
 rw [h2] at k2
 cases k2
 exact ⟨rfl,h3.symm.trans k3,h4.symm.trans k4⟩
theorem b81 {fe:List (FE I)}{X:Cxt}{c:Cx}{σ:S}{E:TypeId}{ls:List (PV I)}{x:I E}{cs:List Value}(hx:ofT fe E ls=some x)(hl:RG X c σ ls cs):Rp.cells σ x cs:=by
 unfold ofT at hx
 split at hx
 ·rename_i e he
  split at hx
  ·rename_i e1
   subst e1
   obtain ⟨y,rest,h1,h2⟩:=e.fd.pa_ok _ _ _ _ hx
   obtain ⟨c1,c2,e2,h3,h4⟩:=h2 X c σ cs hl
   split at h1
   ·cases h1
    simp only [RG] at h4
    rw [e2,h4,List.append_nil]
    exact h3
   ·cases h1
  ·cases hx
 ·cases hx
theorem d0p {P:Program}{L:TabL I}(h:TabLOk P L):TabOk P (d1b L) where
 sz:=fun T k hk=>h.sz.mem _ (a1i hk)
 one:=fun T hk=>by obtain ⟨a,ha⟩:=b0u hk; exact h.one.mem _ (a1i ha)
 off:=fun T f o hk=>by
  obtain ⟨l,hl,hk⟩:=bind_some hk
  obtain ⟨x,hx,hk⟩:=bind_some hk
  cases hk
  have:=(b2d.at (h.fld.mem _ (a1i hl)) hx).1
  rw [Nat.zero_add] at this
  exact this
 fty:=fun T f o hk=>by
  obtain ⟨l,hl,hk⟩:=bind_some hk
  obtain ⟨x,hx,hk⟩:=bind_some hk
  cases hk
  have:=(b2d.at (h.fld.mem _ (a1i hl)) hx).2
  rw [Nat.zero_add] at this
  exact this
 el:=fun T E hk=>by
  obtain ⟨h1,z,b,⟨i,e1,e2,e3,e4⟩,_⟩:=h.el.mem _ (a1i hk)
  exact ⟨h1,by rw [e1]; simp only [Option.map_some]; rw [e3]⟩
 isStr:=fun T hk=>by obtain ⟨a,ha⟩:=b0u hk; exact h.str.mem _ (a1i ha)
 isBool:=fun T hk=>by obtain ⟨a,ha⟩:=b0u hk; exact h.bool.mem _ (a1i ha)
 ik:=fun T k hk=>h.ik.mem _ (a1i hk)
 lf:=fun X c σ E x cs hx=>by
  show RG X c σ (lfT L.fe E x) cs
  unfold lfT
  split
  ·rename_i e he
   split
   ·rename_i e1
    subst e1
    exact e.fd.lf_ok X c σ x cs hx
   ·exact RG.one hx
  ·exact RG.one hx
 of:=fun _ _ _ _ _ _ _ hx hl=>b81 hx hl
 size:=fun T k hk=>by
  obtain ⟨x,hx,hk⟩:=bind_some hk
  cases hk
  obtain ⟨z,⟨i,e1,e2,e3,e4⟩,_⟩:=h.inf.mem _ (a1i hx)
  rw [e1,Option.map_some,e3]
 slice:=fun T E b hT hb=>by
  obtain ⟨x,hx,hk⟩:=bind_some hb
  cases hk
  obtain ⟨z,h1,_⟩:=h.inf.mem _ (a1i hx)
  obtain ⟨h2,z',b',h3,h4,h5⟩:=h.el.mem _ (a1i hT)
  obtain ⟨rfl,e1,e2⟩:=Q6.inj h1 h3
  simp only at e1 e2 h1
  refine ⟨z,h2,?_,h4,Rp.pos,?_⟩
  ·rw [<- e1]; exact h1
  ·rw [e2]; exact h5
 zero:=fun T ls hk=>by
  obtain ⟨x,hx,hk⟩:=bind_some hk
  cases hk
  obtain ⟨z,h1,h2⟩:=h.inf.mem _ (a1i hx)
  exact ⟨z,_,_,_,h1,rfl,h2⟩
 flds:=fun T pl ls hp hz=>by
  obtain ⟨x,hx,hk⟩:=bind_some hz
  cases hk
  obtain ⟨z,⟨i,e1,e2,e3,e4⟩,h2⟩:=h.inf.mem _ (a1i hx)
  rcases h.st.mem _ (a1i hp) with ⟨fs,h3,h4⟩ | ⟨m,e,ie,h3,h4,h5⟩
  ·exact ⟨z.cells.toList,.inl ⟨fs,i,z,h3,e1,e2,by simp,h4⟩,h2⟩
  ·exact ⟨z.cells.toList,.inr ⟨m,e,ie,i,z,h3,h4,e1,e2,by simp,h5⟩,h2⟩
 eqF:=fun X c σ T ls ms r cs ds hk h1 h2=>by
  obtain ⟨f,hf,hk⟩:=bind_some hk
  exact h.eq.mem _ (a1i hf) X c σ ls ms r cs ds hk h1 h2
 arr:=fun T E m k hk=>h.arr.mem _ (a1i hk)
 mp:=fun T kd hk=>h.mp.mem _ (a1i hk)
 fb:=fun f hk=>by obtain ⟨a,ha⟩:=b0u hk; exact h.fb.mem _ (a1i ha)
 u8:=fun T hk=>by obtain ⟨a,ha⟩:=b0u hk; exact h.u8.mem _ (a1i ha)
def c7W (P:Program)(k:Nat)(e:TypeId)(c:Nat)(xs ys:Array Value)(l:List Nat)(r:Bool):Prop:=∀ d w,(Op.eqItems (d+k) e c xs ys l).run P w=.ok r w
omit [∀ E,Rp (I E)] in
theorem c9I {P:Program}{k:Nat}{e:TypeId}{c:Nat}{xs ys:Array Value}:c7W P k e c xs ys [] true:=fun d w=>by simp [Op.eqItems]
omit [∀ E,Rp (I E)] in
theorem c3F {P:Program}{k:Nat}{e:TypeId}{c i:Nat}{xs ys:Array Value}{is:List Nat}{a b:Value}{r1 r2:Bool}(ha:∀ w,(part e xs (i*c)).run P w=.ok a w)(hb:∀ w,(part e ys (i*c)).run P w=.ok b w)
 (h1:Sx.EqAt P k e a b r1) (h2:c7W P k e c xs ys is r2):c7W P k e c xs ys (i::is) (r1&&r2):=fun d w=>by
 simp only [Op.eqItems,Sem.run_bind,ha,hb,Result.andThen_ok,h1 d w]
 cases r1
 ·simp
 ·simpa using h2 d w
omit [∀ E,Rp (I E)] in
theorem d0J {P:Program}{k m b K:Nat}{T e:TypeId}{z:Value}{xs ys:Array Value}{r:Bool}(hu:P.underlying T=some (.array m e))(hi:Q6 P e z k b)(h:c7W P K e k xs ys (List.range m) r):Sx.EqAt P (K+1) T (.agg xs) (.agg ys) r:=fun d w=>by
 obtain ⟨i,h1,h2,h3,h4⟩:=hi
 have:=run_equalIn_array (P:=P) (w:=w) (d+K) xs ys hu h1
 rw [<- Nat.add_assoc,this]
 have hc:P.cellsOf e=k:=by simp [Program.cellsOf,h1,h3]
 rw [hc]
 exact h d w
def c5x (fe:List (FE I))(T:TypeId)(g:I T->I T->Bool):List (PV I)->List (PV I)->Option Bool:=fun ls ms =>
 match ls,ms with
 | [.dat E x],[.dat E' y]=>Option.bind (a86 T E x) fun x=>Option.bind (a86 T E' y) fun y=>some (g x y)
 | [.dat E x],ms=>Option.bind (a86 T E x) fun x=>Option.bind (ofT fe T ms) fun y=>some (g x y)
 | ls,[.dat E' y]=>Option.bind (ofT fe T ls) fun x=>Option.bind (a86 T E' y) fun y=>some (g x y)
 | ls,ms=>Option.bind (ofT fe T ls) fun x=>Option.bind (ofT fe T ms) fun y=>some (g x y)
theorem c1v {X:Cxt}{c:Cx}{σ:S}{T E:TypeId}{x:I E}{y:I T}{cs:List Value}(h:a86 T E x=some y)(hl:RG X c σ [.dat E x] cs):Rp.cells σ y cs:=by
 obtain ⟨e,rfl⟩:=b2f h
 subst e
 simp only [RG] at hl
 obtain ⟨a,r,e,h1 | ⟨h0,_⟩,h2⟩:=hl
 ·subst h2
  rw [e,List.append_nil]
  exact h1
 ·cases h0
theorem d2d {fe:List (FE I)}{T:TypeId}{g:I T->I T->Bool}{X:Cxt}{c:Cx}{σ:S}{ls ms:List (PV I)}{r:Bool}{cs ds:List Value}(h:c5x fe T g ls ms=some r)(hl:RG X c σ ls cs)(hm:RG X c σ ms ds) :
 ∃ x y,Rp.cells σ x cs/\Rp.cells σ y ds/\g x y=r:=by
 unfold c5x at h
 split at h
 ·obtain ⟨x,hx,h⟩:=bind_some h
  obtain ⟨y,hy,h⟩:=bind_some h
  exact ⟨x,y,c1v hx hl,c1v hy hm,Option.some.inj h⟩
 ·obtain ⟨x,hx,h⟩:=bind_some h
  obtain ⟨y,hy,h⟩:=bind_some h
  exact ⟨x,y,c1v hx hl,b81 hy hm,Option.some.inj h⟩
 ·obtain ⟨x,hx,h⟩:=bind_some h
  obtain ⟨y,hy,h⟩:=bind_some h
  exact ⟨x,y,b81 hx hl,c1v hy hm,Option.some.inj h⟩
 ·obtain ⟨x,hx,h⟩:=bind_some h
  obtain ⟨y,hy,h⟩:=bind_some h
  exact ⟨x,y,b81 hx hl,b81 hy hm,Option.some.inj h⟩
omit [∀ E,Rp (I E)] in
theorem Y2 [∀ E,Rp (I E)] {P:Program}{r:Row I}(h:r.run=c0U r.ps fun _=>none):j6 P r:=by
 intro σ a vs pls res hA hnd happ
 rw [h] at happ
 have:∀ (ps:List Pk) (R:Type) (a:a3A I ps),b4m ps (c0U ps fun _=>(none:Option R)) a=none:=by
  intro ps R a
  induction ps with
  | nil=>rfl
  | cons p r ih=>exact ih a.2
 rw [this] at happ
 cases happ
def c5g (f:Func):Code:=match f.body with
 | some c=>c
 | none=>.skip
inductive BE where
 | slot (t:Nat)
 | fld (T:TypeId) (f:Nat) (e:BE)
 | ld (T:TypeId) (e:BE)
 | len (e:BE)
 | cst (n:Int)
def bev (tb:Tab I)(s:St I):BE->Option (PV I)
 | .slot t=>s.F t
 | .fld T f e=>Option.bind (bev tb s e) fun p=>Option.bind (tb.off T f) fun d=>match p with
   | .ptr l o=>some (.ptr l (o+d))
   | .ep E x o=>some (.ep E x (o+d))
   | _=>none
 | .ld T e=>Option.bind (bev tb s e) fun p=>match p with
   | .ptr l o=>match s.O l with
     | some (some (.var _ ls _))=>a7C tb T ls o
     | _=>none
   | .ep E x o=>a7C tb T [.dat E x] o
   | _=>none
 | .len e=>Option.bind (bev tb s e) fun p=>match p with
   | .sl _ xs _=>some (.int .i64 (xs.length:Int))
   | .nl _=>some (.int .i64 0)
   | .str t=>some (.int .i64 (t.size:Int))
   | .vw l=>match s.O l with
     | some (some (.row _ xs _))=>some (.int .i64 (xs.length:Int))
     | some (some (.ro _ xs))=>some (.int .i64 (xs.length:Int))
     | some (some (.bo _ xs))=>some (.int .i64 (xs.length:Int))
     | _=>none
   | .vs l _ lo=>match s.O l with
     | some (some (.row _ xs _))=>some (.int .i64 ((xs.drop lo).length:Int))
     | _=>none
   | _=>none
 | .cst n=>some (.int .i64 n)
def bnd (tb:Tab I)(e:BE)(k:Nat)(s:St I):Option Nat:=match bev tb s e with
 | some (.int _ n)=>some (n.toNat+k)
 | _=>none
end
end Go.Qx
end
section
namespace Go.Sx
open Go Go.RowKit
structure Key where
 Kind:Int
 Text:ByteArray
mutual
inductive Val where
 | mk (Kind:Int) (Int_:Int) (Text:ByteArray) (Kids:List Val) (Keys:List Key) (Entries:List Ent) (Labels:List ByteArray)
inductive Ent where
 | mk (Args:List Val) (Fails:Bool) (Result:Val)
end
namespace Val
def Kind:Val->Int | mk a _ _ _ _ _ _=>a
def Int_:Val->Int | mk _ a _ _ _ _ _=>a
def Text:Val->ByteArray | mk _ _ a _ _ _ _=>a
def Kids:Val->List Val | mk _ _ _ a _ _ _=>a
def Keys:Val->List Key | mk _ _ _ _ a _ _=>a
def Entries:Val->List Ent | mk _ _ _ _ _ a _=>a
def Labels:Val->List ByteArray | mk _ _ _ _ _ _ a=>a
end Val
namespace Ent
def Args:Ent->List Val | mk a _ _=>a
def Fails:Ent->Bool | mk _ a _=>a
def Result:Ent->Val | mk _ _ a=>a
end Ent
instance rpKey:Rp Key where
 sz:=2
 pos:=by decide
 agg:=true
 cells:=fun _ k cs=>cs=[.int .i64 k.Kind,.string k.Text]
 len:=fun h=>by rw [h]; rfl
 one:=fun h v hv=>by rw [h] at hv; simp at hv; rcases hv with rfl | rfl<;>rfl
 mono:=fun _ h=>h
def SlC (σ:S)(len:Nat)(A:Option Addr)(c:Nat)(cs:List Value):Prop:=len<=c/\c<=maxLen/\(0<len->∃ b o,A=some ⟨b,o,none⟩/\a36 σ b o cs)
mutual
def RV (σ:S):Val->List Value->Prop
 | .mk k n t kids keys ents labs,cs=>∃ A1 c1 A2 c2 A3 c3 A4 c4 f1 f3,
    cs=[.int .i64 k,.int .i64 n,.string t,.slice A1 kids.length c1,.slice A2 keys.length c2,.slice A3 ents.length c3,.slice A4 labs.length c4] /\
    SlC σ kids.length A1 c1 f1/\RVs σ kids f1/\Sl σ keys A2 c2/\SlC σ ents.length A3 c3 f3/\REs σ ents f3/\Sl σ labs A4 c4
def RVs (σ:S):List Val->List Value->Prop
 | [],cs=>cs=[]
 | x::xs,cs=>∃ c r,cs=c++r/\RV σ x c/\RVs σ xs r
def RE (σ:S):Ent->List Value->Prop
 | .mk args fails res,cs=>∃ A c f r,cs=.slice A args.length c::.bool fails::r/\SlC σ args.length A c f/\RVs σ args f/\RV σ res r
def REs (σ:S):List Ent->List Value->Prop
 | [],cs=>cs=[]
 | x::xs,cs=>∃ c r,cs=c++r/\RE σ x c/\REs σ xs r
end
theorem RV.len {σ:S}:∀ {v:Val} {cs:List Value},RV σ v cs->cs.length=7
 | .mk ..,cs,h=>by simp only [RV] at h; obtain ⟨_,_,_,_,_,_,_,_,_,_,rfl,_⟩:=h; rfl
theorem RV.one {σ:S}:∀ {v:Val} {cs:List Value},RV σ v cs->∀ u∈cs,u.oneCell'=true
 | .mk ..,cs,h=>by
   simp only [RV] at h
   obtain ⟨_,_,_,_,_,_,_,_,_,_,rfl,_⟩:=h
   intro u hu
   simp at hu
   rcases hu with rfl | rfl | rfl | rfl | rfl | rfl | rfl<;>rfl
theorem RE.len {σ:S}:∀ {v:Ent} {cs:List Value},RE σ v cs->cs.length=9
 | .mk ..,cs,h=>by simp only [RE] at h; obtain ⟨_,_,_,r,rfl,_,_,h4⟩:=h; simp [h4.len]
theorem RE.one {σ:S}:∀ {v:Ent} {cs:List Value},RE σ v cs->∀ u∈cs,u.oneCell'=true
 | .mk ..,cs,h=>by
   simp only [RE] at h
   obtain ⟨_,_,_,r,rfl,_,_,h4⟩:=h
   intro u hu
   simp only [List.mem_cons] at hu
   rcases hu with rfl | rfl | hu
   ·rfl
   ·rfl
   ·exact h4.one u hu
theorem SlC.mono {σ τ:S}{len:Nat}{A:Option Addr}{c:Nat}{cs:List Value}(h:SlC σ len A c cs)(k:Wext σ τ)(hn:0<len->cs≠[]):SlC τ len A c cs :=
 ⟨h.1,h.2.1,fun hl=>by obtain ⟨b,o,e,hs⟩:=h.2.2 hl; exact ⟨b,o,e,hs.mono (hn hl) k⟩⟩
theorem RVs.ne {σ:S}:∀ {xs:List Val} {cs:List Value},RVs σ xs cs->0<xs.length->cs≠[]
 | [],_,_,h=>by simp at h
 | x::xs,cs,h,_=>by
   simp only [RVs] at h
   obtain ⟨c,r,rfl,h1,_⟩:=h
   intro e
   have:=h1.len
   rw [List.append_eq_nil_iff] at e
   rw [e.1] at this
   simp at this
theorem REs.ne {σ:S}:∀ {xs:List Ent} {cs:List Value},REs σ xs cs->0<xs.length->cs≠[]
 | [],_,_,h=>by simp at h
 | x::xs,cs,h,_=>by
   simp only [REs] at h
   obtain ⟨c,r,rfl,h1,_⟩:=h
   intro e
   have:=h1.len
   rw [List.append_eq_nil_iff] at e
   rw [e.1] at this
   simp at this
mutual
theorem RV.mono {σ τ:S}(k:Wext σ τ):∀ {v:Val} {cs:List Value},RV σ v cs->RV τ v cs
 | .mk ..,cs,h=>by
   simp only [RV] at h ⊢
   obtain ⟨A1,c1,A2,c2,A3,c3,A4,c4,f1,f3,e,h1,h2,h3,h4,h5,h6⟩:=h
   exact ⟨A1,c1,A2,c2,A3,c3,A4,c4,f1,f3,e,h1.mono k h2.ne,RVs.mono k h2,h3.mono k,h4.mono k h5.ne,REs.mono k h5,h6.mono k⟩
theorem RVs.mono {σ τ:S}(k:Wext σ τ):∀ {v:List Val} {cs:List Value},RVs σ v cs->RVs τ v cs
 | [],cs,h=>by simp only [RVs] at h ⊢; exact h
 | x::xs,cs,h=>by
   simp only [RVs] at h ⊢
   obtain ⟨c,r,e,h1,h2⟩:=h
   exact ⟨c,r,e,RV.mono k h1,RVs.mono k h2⟩
theorem RE.mono {σ τ:S}(k:Wext σ τ):∀ {v:Ent} {cs:List Value},RE σ v cs->RE τ v cs
 | .mk ..,cs,h=>by
   simp only [RE] at h ⊢
   obtain ⟨A,c,f,r,e,h1,h2,h3⟩:=h
   exact ⟨A,c,f,r,e,h1.mono k h2.ne,RVs.mono k h2,RV.mono k h3⟩
theorem REs.mono {σ τ:S}(k:Wext σ τ):∀ {v:List Ent} {cs:List Value},REs σ v cs->REs τ v cs
 | [],cs,h=>by simp only [REs] at h ⊢; exact h
 | x::xs,cs,h=>by
   simp only [REs] at h ⊢
   obtain ⟨c,r,e,h1,h2⟩:=h
   exact ⟨c,r,e,RE.mono k h1,REs.mono k h2⟩
end
instance rpVal:Rp Val where
 sz:=7
 pos:=by decide
 agg:=true
 cells:=fun σ v cs=>RV σ v cs
 len:=RV.len
 one:=RV.one
 mono:=fun k h=>RV.mono k h
instance rpEnt:Rp Ent where
 sz:=9
 pos:=by decide
 agg:=true
 cells:=fun σ v cs=>RE σ v cs
 len:=RE.len
 one:=RE.one
 mono:=fun k h=>RE.mono k h
theorem RVs.flat {σ:S}:∀ {xs:List Val} {cs:List Value},RVs σ xs cs↔K2 σ xs cs
 | [],cs=>by simp only [RVs,K2]
 | x::xs,cs=>by
   simp only [RVs,K2]
   constructor
   ·rintro ⟨c,r,e,h1,h2⟩; exact ⟨c,r,e,h1,RVs.flat.1 h2⟩
   ·rintro ⟨c,r,e,h1,h2⟩; exact ⟨c,r,e,h1,RVs.flat.2 h2⟩
theorem REs.flat {σ:S}:∀ {xs:List Ent} {cs:List Value},REs σ xs cs↔K2 σ xs cs
 | [],cs=>by simp only [REs,K2]
 | x::xs,cs=>by
   simp only [REs,K2]
   constructor
   ·rintro ⟨c,r,e,h1,h2⟩; exact ⟨c,r,e,h1,REs.flat.1 h2⟩
   ·rintro ⟨c,r,e,h1,h2⟩; exact ⟨c,r,e,h1,REs.flat.2 h2⟩
theorem SlC.sl {α:Type} [Rp α] {σ:S}{xs:List α}{A:Option Addr}{c:Nat}{cs:List Value}(h:SlC σ xs.length A c cs)(hf:K2 σ xs cs):Sl σ xs A c :=
 ⟨h.1,h.2.1,cs,hf,fun hn=>h.2.2 (List.length_pos_iff.2 hn)⟩
theorem SlC.of {α:Type} [Rp α] {σ:S}{xs:List α}{A:Option Addr}{c:Nat}(h:Sl σ xs A c):∃ cs,SlC σ xs.length A c cs/\K2 σ xs cs:=by
 obtain ⟨h1,h2,cs,h3,h4⟩:=h
 exact ⟨cs,⟨h1,h2,fun hl=>h4 (List.length_pos_iff.1 hl)⟩,h3⟩
theorem Val.cells_iff {σ:S}{v:Val}{cs:List Value}:Rp.cells σ v cs↔∃ A1 c1 A2 c2 A3 c3 A4 c4,
 cs=[.int .i64 v.Kind,.int .i64 v.Int_,.string v.Text,.slice A1 v.Kids.length c1,.slice A2 v.Keys.length c2,.slice A3 v.Entries.length c3,.slice A4 v.Labels.length c4] /\
 Sl σ v.Kids A1 c1/\Sl σ v.Keys A2 c2/\Sl σ v.Entries A3 c3/\Sl σ v.Labels A4 c4:=by
 cases v with
 | mk k n t kids keys ents labs =>
   show RV σ _ cs↔_
   simp only [RV,Val.Kind,Val.Int_,Val.Text,Val.Kids,Val.Keys,Val.Entries,Val.Labels]
   constructor
   ·rintro ⟨A1,c1,A2,c2,A3,c3,A4,c4,f1,f3,e,h1,h2,h3,h4,h5,h6⟩
    exact ⟨A1,c1,A2,c2,A3,c3,A4,c4,e,h1.sl (RVs.flat.1 h2),h3,h4.sl (REs.flat.1 h5),h6⟩
   ·rintro ⟨A1,c1,A2,c2,A3,c3,A4,c4,e,h1,h3,h4,h6⟩
    obtain ⟨f1,k1,k2⟩:=SlC.of h1
    obtain ⟨f3,k4,k5⟩:=SlC.of h4
    exact ⟨A1,c1,A2,c2,A3,c3,A4,c4,f1,f3,e,k1,RVs.flat.2 k2,h3,k4,REs.flat.2 k5,h6⟩
theorem Ent.cells_iff {σ:S}{v:Ent}{cs:List Value}:Rp.cells σ v cs↔∃ A c A1 c1 A2 c2 A3 c3 A4 c4,
 cs=[.slice A v.Args.length c,.bool v.Fails,.int .i64 v.Result.Kind,.int .i64 v.Result.Int_,.string v.Result.Text,.slice A1 v.Result.Kids.length c1,.slice A2 v.Result.Keys.length c2,.slice A3 v.Result.Entries.length c3,.slice A4 v.Result.Labels.length c4] /\
 Sl σ v.Args A c/\Sl σ v.Result.Kids A1 c1/\Sl σ v.Result.Keys A2 c2/\Sl σ v.Result.Entries A3 c3/\Sl σ v.Result.Labels A4 c4:=by
 cases v with
 | mk args fails res =>
   show RE σ _ cs↔_
   simp only [RE,Ent.Args,Ent.Fails,Ent.Result]
   constructor
   ·rintro ⟨A,c,f,r,rfl,h1,h2,h3⟩
    obtain ⟨A1,c1,A2,c2,A3,c3,A4,c4,rfl,k1,k2,k3,k4⟩:=Val.cells_iff.1 h3
    exact ⟨A,c,A1,c1,A2,c2,A3,c3,A4,c4,rfl,h1.sl (RVs.flat.1 h2),k1,k2,k3,k4⟩
   ·rintro ⟨A,c,A1,c1,A2,c2,A3,c3,A4,c4,rfl,h1,k1,k2,k3,k4⟩
    obtain ⟨f,j1,j2⟩:=SlC.of h1
    exact ⟨A,c,f,_,rfl,j1,RVs.flat.2 j2,Val.cells_iff.2 ⟨A1,c1,A2,c2,A3,c3,A4,c4,rfl,k1,k2,k3,k4⟩⟩
theorem Key.cells_iff {σ:S}{v:Key}{cs:List Value}:Rp.cells σ v cs↔cs=[.int .i64 v.Kind,.string v.Text]:=Iff.rfl
end Go.Sx
end
section
namespace Go.Qx
open Go Go.RowKit Go.Sx
end Go.Qx
namespace Go.Sx
open Go Go.RowKit Go.Qx
abbrev Key.to (v:Key):Int×ByteArray:=(v.Kind,v.Text)
abbrev Key.of (x:Int×ByteArray):Key:=⟨x.1,x.2⟩
theorem Key.cells_to (σ:S)(v:Key)(cs:List Value):rpKey.cells σ v cs↔(Y7 (rpK .i64) rpStr).cells σ v.to cs:=by
 constructor
 ·intro h
  have h:cs=[.int .i64 v.Kind,.string v.Text]:=h
  exact ⟨[_],[_],h,rfl,rfl⟩
 ·rintro ⟨c1,c2,e,rfl,rfl⟩
  exact e
abbrev Val.to (v:Val):Int×(Int×(ByteArray×(List Val×(List Key×(List Ent×List ByteArray))))):=(v.Kind,v.Int_,v.Text,v.Kids,v.Keys,v.Entries,v.Labels)
abbrev Val.of (x:Int×(Int×(ByteArray×(List Val×(List Key×(List Ent×List ByteArray)))))):Val:=.mk x.1 x.2.1 x.2.2.1 x.2.2.2.1 x.2.2.2.2.1 x.2.2.2.2.2.1 x.2.2.2.2.2.2
theorem Val.cells_to (σ:S)(v:Val)(cs:List Value):rpVal.cells σ v cs ↔
 (Y7 (rpK .i64) (Y7 (rpK .i64) (Y7 rpStr (Y7 (@rpList _ rpVal) (Y7 (@rpList _ rpKey) (Y7 (@rpList _ rpEnt) (@rpList _ rpStr))))))).cells σ v.to cs:=by
 refine Val.cells_iff.trans ?_
 constructor
 ·rintro ⟨A1,c1,A2,c2,A3,c3,A4,c4,e,h1,h2,h3,h4⟩
  exact ⟨[_],_,e,rfl,[_],_,rfl,rfl,[_],_,rfl,rfl,[_],_,rfl,⟨A1,c1,rfl,h1⟩,[_],_,rfl,⟨A2,c2,rfl,h2⟩,[_],_,rfl,⟨A3,c3,rfl,h3⟩,A4,c4,rfl,h4⟩
 ·rintro ⟨_,_,rfl,rfl,_,_,rfl,rfl,_,_,rfl,rfl,_,_,rfl,⟨A1,c1,rfl,h1⟩,_,_,rfl,⟨A2,c2,rfl,h2⟩,_,_,rfl,⟨A3,c3,rfl,h3⟩,A4,c4,rfl,h4⟩
  exact ⟨A1,c1,A2,c2,A3,c3,A4,c4,rfl,h1,h2,h3,h4⟩
abbrev Ent.to (v:Ent):List Val×(Bool×Val):=(v.Args,v.Fails,v.Result)
abbrev Ent.of (x:List Val×(Bool×Val)):Ent:=.mk x.1 x.2.1 x.2.2
theorem Ent.cells_to (σ:S)(v:Ent)(cs:List Value):rpEnt.cells σ v cs↔(Y7 (@rpList _ rpVal) (Y7 rpBool rpVal)).cells σ v.to cs:=by
 cases v with
 | mk args fails res =>
   constructor
   ·intro h
    have h:RE σ (.mk args fails res) cs:=h
    simp only [RE] at h
    obtain ⟨A,c,f,r,rfl,h1,h2,h3⟩:=h
    exact ⟨[_],_,rfl,⟨A,c,rfl,h1.sl (RVs.flat.1 h2)⟩,[_],_,rfl,rfl,h3⟩
   ·rintro ⟨_,_,rfl,⟨A,c,rfl,h1⟩,_,r,rfl,rfl,h2⟩
    show RE σ (.mk args fails res) _
    simp only [RE]
    obtain ⟨f,j1,j2⟩:=SlC.of h1
    exact ⟨A,c,f,r,rfl,j1,RVs.flat.2 j2,h2⟩
end Go.Sx
end
section
namespace Go.Qx
open Go Go.RowKit Go.Sx
section
variable {I:TypeId->Type} [∀ E,Rp (I E)] {P:Program}
def c5B (a b:ByteArray):Option Int:=some (b85 a b)
theorem d3M {f : FuncId} {fn : Func} (hf : P.funcs[f]? = some fn) (hname : (fn.name == "runtime.NumGoroutine") = false) (hb : fn.body.isNone = true) (hn : Extern.findNext fn = none) (he : Extern.find fn = some Extern.BytealgCompare.compare) :
 j6 P (⟨f,[.d .str,.d .str],[.k (.d (.int .i64))],c5B⟩:Row I):=by
 intro σ a vs pls res hA _ happ
 obtain ⟨v,_,p1,_,rfl,rfl,⟨h1,rfl⟩,v2,_,p2,_,rfl,rfl,⟨h2,rfl⟩,rfl,rfl⟩:=hA
 have h1:v=.string a.1:=h1
 have h2:v2=.string a.2.1:=h2
 have hr:c5B a.1 a.2.1=some res:=happ
 subst h1
 subst h2
 cases hr
 refine .inr ⟨_,σ,d4w hf hname hb hn he a.1 a.2.1 σ.w,Stp.refl _ σ,[.int .i64 (b85 a.1 a.2.1)],[],[],⟨rfl,rfl,⟨_,rfl,rfl,rfl⟩,rfl,by simp [ows],fun g hg=>by simp [ows] at hg⟩⟩
def a0o {α:Type}(b:Nat)(xs:List α):Option (List α):=Option.bind (w5 (0+xs.length) b) fun _=>some xs
def noH:Hints I:=⟨fun _=>[],fun _=>[],fun _=>[],fun _=>none,fun _=>none,fun _=>none,fun _=>none,fun _=>0⟩
def noD:a1B I:=fun _ _ _ _ _ _=>none
theorem d2R:DispOk P (noD:a1B I):=⟨fun _ _ _ _ _ _=>rfl,fun _ _ _ _ _ h=>by cases h⟩
def c5M (E:TypeId)(xs:List (I E)):St I:=⟨8,fun i=>bif Nat.beq i 0 then some (.sl E xs false) else none,fun _=>none,0⟩
theorem a7c {tb:Tab I}(ht:TabOk P tb)(hmx:P.follows .mixedOrders=true){f:FuncId}{fn:Func}{T E:TypeId}{b:Nat}{i0 i1 i2:Nat}{p0 p1 p2 p3:String}{a2:Array Edge}{t0 t1 t2 t3 t4:TypeId}{cd3:Code}
 (hf : P.funcs[f]? = some fn) (hname : (fn.name == "runtime.NumGoroutine") = false) (hn : fn.ntmps = 8) (hres : fn.results.toList = [.tmp 2]) (hT : P.underlying T = some (.slice E))
 (hb:fn.body=some (.seq (.region i0 #[⟨some 2,.assign (.const (.slice none 0 0)),t0,p0,#[],none⟩] false) (.seq (.seq (.region i1 #[⟨some 3,.move (.tmp 0),t1,p1,#[],none⟩,⟨some 4,.binOp .eql T (.tmp 3) (.const (.slice none 0 0)) t2,t3,p2,a2,none⟩] false)
   (.cond (.tmp 4) (.seq (.region i2 #[⟨some 2,.assign (.const (.slice none 0 0)),t4,p3,#[],none⟩] false) .ret) .skip)) cd3)))
 (hcode:a4a (noH:Hints I) cd3 1=true) (hex:∀ xs:List (I E),b0g tb noD noH cd3 1 (List (I E)) (c5M E xs) (fin tb [.d (.sl E)] [.k (.row E false)] [.tmp 2])=a0o b xs) :
 j6 P (⟨f,[.d (.sl E)],[.k (.row E false)],a0o b⟩:Row I):=by
 refine c9a ht 8 hf hb hname hn hres rfl fun X c σ F Q a res hX hrel happ hk=>?_
 subst hX
 have happ:a0o b a.1=some res:=happ
 have h0:=hrel.frame 0 (.sl E a.1 false) rfl
 simp only [RV] at h0
 obtain ⟨A,k,e0,hs,_⟩:=h0
 refine wp_seq (wp_region_lit ?_)
 refine c0q (.slice none 0 0) rfl rfl ?_
 refine wpList_nil (c1n (wp_seq (wp_seq (wp_region_lit ?_))))
 refine c8s (.slice A (a.1:List (I E)).length k) e0 rfl ?_
 refine d1d (.slice A (a.1:List (I E)).length k) (.slice none 0 0) (.bool A.isNone) rfl rfl rfl rfl (d4t hT) ?_
 refine wpList_nil (c1n ?_)
 have hgen:∀ (G:Fr),G 0=F 0->Rel X c σ (c5M E a.1) 8 G:=fun G hG =>
  ⟨rfl,(fun i p hp=>by
   have:(bif Nat.beq i 0 then some (PV.sl E a.1 false) else none)=some p:=hp
   obtain ⟨hi,hp⟩:=k7 this
   cases hp
   have:=Nat.eq_of_beq_eq_true hi
   subst this
   rw [hG]
   exact hrel.frame 0 _ rfl),(fun l o ho=>by cases ho),(fun _ _ _ _ _ ⟨_,h⟩=>by cases h),(fun _ _ _ ⟨_,h⟩=>by cases h),fun l _=>hrel.nom l rfl,hrel.base,noN.nests fun _ _ _ _ _ _ h=>by cases h⟩
 refine (Bool.eq_false_or_eq_true A.isNone).elim (fun hn4=>?_) (fun hn4=>?_)
 ·have e:a.1=[]:=hs.nil_of hn4
  have hr:res=[]:=by
   rw [e] at happ
   simp [a0o,w5] at happ
   exact (Option.some.inj happ).symm
  refine d2K rfl hn4 rfl ?_
  refine wp_seq (wp_region_lit ?_)
  refine c0q (.slice none 0 0) rfl rfl ?_
  refine wpList_nil (c1n (wp_ret (d2q ?_)))
  subst hr
  refine hk .ret (Qx.put (c5M E a.1) (some 2) (.nl E)) c σ _ ?_ (Cx.le_refl c) ((hgen (V7 (V7 (V7 F (some 2) (.slice none 0 0)) (some 3) (.slice A (a.1:List (I E)).length k)) (some 4) (.bool A.isNone)) rfl).put (some 2) _ (.slice none 0 0) (by simp only [RV]; exact ⟨none,rfl⟩)) (Stp.refl _ σ)
  rfl
 ·refine d1Z rfl hn4 rfl ?_
  refine wp_skip (c1n ?_)
  exact a5k ht d2R hmx cd3 1 hcode _ _ _ res X c σ _ Q rfl ((hex a.1).trans happ) (hgen _ rfl) fun e s' c' τ F' g1 g2 g3 g4 _=>hk e s' c' τ F' g1 g2 g3 g4
end
end Go.Qx
end
section
namespace Go.Qx
open Go Go.RowKit Go.Sx
section
variable {α:Type}
def ltB (g:α->α->Option Int)(x y:α):Bool:=match g x y with
 | some r=>decide (r<0)
 | none=>false
structure Swk (lt:α->α->Bool)(xs:List α):Prop where
 irr:∀ x∈xs,lt x x=false
 trans:∀ x∈xs,∀ y∈xs,∀ z∈xs,lt x y=true->lt y z=true->lt x z=true
 ntrans:∀ x∈xs,∀ y∈xs,∀ z∈xs,lt x y=false->lt y z=false->lt x z=false
structure OkCmp (xs:List α)(g:α->α->Option Int):Prop where
 len:xs.length<4611686018427387904
 dfd:∀ x∈xs,∀ y∈xs,∃ r,g x y=some r
 wk:Swk (ltB g) xs
def a7A (lt:α->α->Bool)(xs:List α):List α :=
 if h:0<xs.length then
  haveI:Inhabited (Fin xs.length):=⟨⟨0,h⟩⟩
  (Sort.pdq (fun i j:Fin xs.length=>lt xs[i] xs[j]) (Array.ofFn (n:=xs.length) id) 0 xs.length (Lib.bitLen xs.length) true true).toList.map fun i=>xs[i]
 else []
open Classical in
noncomputable def c1S (xs:List α)(g:α->α->Option Int):Option (List α):=if OkCmp xs g then some (a7A (ltB g) xs) else none
variable {lt:α->α->Bool}{xs:List α}
structure Tot (lt:α->α->Bool)(xs:List α):Prop where
 irr:∀ x∈xs,lt x x=false
 trans:∀ x∈xs,∀ y∈xs,∀ z∈xs,lt x y=true->lt y z=true->lt x z=true
 tot:∀ x∈xs,∀ y∈xs,lt x y=false->lt y x=false->x=y
theorem Tot.sub {ys:List α}(h:Tot lt xs)(hs:∀ x∈ys,x∈xs):Tot lt ys :=
 ⟨fun x hx=>h.irr x (hs x hx),fun x hx y hy z hz=>h.trans x (hs x hx) y (hs y hy) z (hs z hz),fun x hx y hy=>h.tot x (hs x hx) y (hs y hy)⟩
theorem Tot.ntrans (h:Tot lt xs){x y z:α}(hx:x∈xs)(hy:y∈xs)(hz:z∈xs)(h1:lt x y=false)(h2:lt y z=false):lt x z=false:=by
 cases h3:lt x z with
 | false=>rfl
 | true =>
   exfalso
   cases h4:lt y x with
   | true=>rw [h.trans y hy x hx z hz h4 h3] at h2; cases h2
   | false =>
     have:=h.tot x hx y hy h1 h4
     subst this
     rw [h3] at h2; cases h2
abbrev Srt (lt:α->α->Bool)(l:List α):Prop:=l.Pairwise fun a b=>lt b a=false
theorem Tot.wk (h:Tot lt xs):Swk lt xs:=⟨h.irr,h.trans,fun _ hx _ hy _ hz h1 h2=>h.ntrans hx hy hz h1 h2⟩
theorem c6C {β:Type}(d:Array β){m:Nat}(h:d.size=m):d.extract 0 m=d:=by subst h; simp
theorem b4n (h:Swk lt xs):(a7A lt xs).Perm xs/\Srt lt (a7A lt xs):=by
 unfold a7A
 split
 ·rename_i hn
  letI:Inhabited (Fin xs.length):=⟨⟨0,hn⟩⟩
  have hswo:Sort.SWO (fun i j:Fin xs.length=>lt xs[i] xs[j]):=⟨fun i=>h.irr _ (List.getElem_mem _),fun i j k=>h.trans _ (List.getElem_mem _) _ (List.getElem_mem _) _ (List.getElem_mem _),fun i j k=>h.ntrans _ (List.getElem_mem _) _ (List.getElem_mem _) _ (List.getElem_mem _)⟩
  have hh:=Sort.pdq_sorts (fun i j:Fin xs.length=>lt xs[i] xs[j]) hswo (Array.ofFn (n:=xs.length) id) 0 xs.length (Lib.bitLen xs.length) true true (Nat.zero_le _) (by simp) (Or.inl rfl)
  generalize Sort.pdq (fun i j:Fin xs.length=>lt xs[i] xs[j]) (Array.ofFn (n:=xs.length) id) 0 xs.length (Lib.bitLen xs.length) true true=d' at hh ⊢
  obtain ⟨⟨h1,_,h2⟩,hs⟩:=hh
  have hsz:d'.size=xs.length:=by rw [h1]; simp
  have hp':d'.toList.Perm (List.ofFn (n:=xs.length) id):=by
   rw [c6C d' hsz,c6C (Array.ofFn (n:=xs.length) (id:Fin xs.length->Fin xs.length)) (by simp)] at h2
   simpa using h2
  have hxs:(List.ofFn (n:=xs.length) id).map (fun i:Fin xs.length=>xs[i])=xs:=by
   apply List.ext_getElem
   ·simp
   ·intro i h1 h2
    simp
  refine ⟨?_,?_⟩
  ·have:=hp'.map (fun i:Fin xs.length=>xs[i])
   rwa [hxs] at this
  ·rw [Srt,List.pairwise_iff_getElem]
   intro i j hi hj hij
   simp only [List.length_map,Array.length_toList] at hi hj
   have:=hs i j (Nat.zero_le _) hij (by omega)
   rw [getElem!_pos d' j hj,getElem!_pos d' i hi] at this
   simp only [List.getElem_map,Array.getElem_toList]
   exact this
 ·rename_i hn
  have:xs=[]:=List.eq_nil_of_length_eq_zero (by omega)
  subst this
  exact ⟨List.Perm.refl _,List.Pairwise.nil⟩
theorem c3P (h:Swk lt xs):(a7A lt xs).length=xs.length:=(b4n h).1.length_eq
theorem c11 {g:α->α->Option Int}{ys:List α}(h:c1S xs g=some ys):OkCmp xs g/\ys=a7A (ltB g) xs:=by
 unfold c1S at h
 split at h
 ·rename_i hk; cases h; exact ⟨hk,rfl⟩
 ·cases h
end
section
variable {α:Type} [Rp α] {σ τ:S}
def c5C (cs:List Value)(sz n:Nat)(i:Fin n):List Value:=(cs.drop (i.val*sz)).take sz
theorem b8U {xs:List α}{cs:List Value}(h:K2 σ xs cs)(i:Fin xs.length):Rp.cells σ xs[i] (c5C cs (Rp.sz α) xs.length i):=by
 obtain ⟨c1,cj,c2,e1,e2,e3,_⟩:=b9y h (List.getElem?_eq_getElem i.isLt)
 have:c5C cs (Rp.sz α) xs.length i=cj:=by
  unfold c5C
  rw [e1,List.append_assoc,<- e2,List.drop_left,<- Rp.len e3,List.take_left]
 rw [this]; exact e3
theorem c6Z {n:Nat}{enc:Fin n->List Value}{xs:Fin n->α}(h:∀ i,Rp.cells σ (xs i) (enc i)):∀ l:List (Fin n),K2 σ (l.map xs) (l.flatMap enc)
 | []=>rfl
 | i::l=>⟨_,_,rfl,h i,c6Z h l⟩
theorem b4x {n k:Nat}{enc:Fin n->List Value}(hk:∀ i,(enc i).length=k)(hp:0<k):∀ (l:List (Fin n)) (t:Nat),t<l.length*k->(l.flatMap enc)[t]?=(l[t / k]?.bind fun i=>(enc i)[t%k]?)
 | [],t,h=>by simp at h
 | i::l,t,h=>by
   rw [List.flatMap_cons]
   by_cases hlt:t<k
   ·rw [List.getElem?_append_left (by rw [hk]; exact hlt),Nat.div_eq_of_lt hlt,Nat.mod_eq_of_lt hlt]
    rfl
   ·have hle:=Nat.le_of_not_lt hlt
    rw [List.getElem?_append_right (by rw [hk]; exact hle),hk,b4x hk hp l (t-k) (by simp [Nat.add_mul] at h; omega)]
    have e1:t / k=(t-k) / k+1:=Nat.div_eq_sub_div hp hle
    have e2:t%k=(t-k)%k:=Nat.mod_eq_sub_mod hle
    rw [e1,e2,List.getElem?_cons_succ]
theorem c2a {n k:Nat} [Inhabited (Fin n)] {enc:Fin n->List Value}(hk:∀ i,(enc i).length=k)(hp:0<k)(d:Array (Fin n)):(Sort.flatK enc k d).toList=d.toList.flatMap enc:=by
 apply List.ext_getElem?
 intro t
 by_cases ht:t<d.size*k
 ·rw [b4x hk hp d.toList t (by simpa using ht)]
  have hq:t / k<d.size:=by rw [Nat.div_lt_iff_lt_mul hp]; exact ht
  have hm:t%k<k:=Nat.mod_lt _ hp
  have e1:(Sort.flatK enc k d)[t]! = (enc d[t / k]!)[t%k]! := Sort.get_flatK enc k d t ht
  rw [getElem!_pos (Sort.flatK enc k d) t (by simpa using ht)] at e1
  rw [Array.getElem?_toList,Array.getElem?_eq_getElem (by simpa using ht),e1,Array.getElem?_toList,Array.getElem?_eq_getElem hq,getElem!_pos d (t / k) hq]
  simp only [Option.bind_some]
  rw [List.getElem?_eq_getElem (by rw [hk]; exact hm),getElem!_pos _ _ (by rw [hk]; exact hm)]
 ·rw [List.getElem?_eq_none (by simp; omega),List.getElem?_eq_none (by
   have:(d.toList.flatMap enc).length=d.size*k:=by
    have:∀ l:List (Fin n),(l.flatMap enc).length=l.length*k:=by
     intro l
     induction l with
     | nil=>simp
     | cons i l ih=>simp [ih,hk,Nat.add_mul,Nat.add_comm]
    simpa using this d.toList
   omega)]
def a4O (w:World)(g m:Nat)(F:Array Value)(os:Array Obj):World:=Sort.grow (Sort.putRow id (Sort.ahead w m) g 0 F) os
theorem c5Y {w:World}{g m:Nat}{F:Array Value}{os:Array Obj}{b:Nat}(hb:b<w.heap.size)(hne:b≠g):(a4O w g m F os).heap[b]?=w.heap[b]?:=by
 simp only [a4O,Sort.grow,Sort.putRow,Sort.mapBlock,Sort.ahead]
 rw [Array.getElem?_append_left (by simpa using hb),Array.getElem?_modify,if_neg (fun e=>hne e.symm)]
theorem c9E {w:World}{g m:Nat}{F:Array Value}{os:Array Obj}{cur:Array Value}{E:TypeId}(h:w.heap[g]?=some (.cells cur E (0,0)))(hF:F.size<=cur.size) :
 (a4O w g m F os).heap[g]?=some (.cells (F.toList++cur.toList.drop F.size).toArray E (0,0)):=by
 have hb:g<w.heap.size:=a1C h
 simp only [a4O,Sort.grow,Sort.putRow,Sort.mapBlock,Sort.ahead]
 rw [Array.getElem?_append_left (by simpa using hb),Array.getElem?_modify,if_pos rfl,h]
 simp only [Option.map_some,Sort.onCells,Option.some.injEq,Obj.cells.injEq,and_self,and_true]
 apply Array.ext_getElem?
 intro i
 simp only [Sort.putCells,Array.getElem?_mapIdx,List.getElem?_toArray,id]
 by_cases hi:i<F.size
 ·rw [List.getElem?_append_left (by simpa using hi),Array.getElem?_toList,Array.getElem?_eq_getElem hi,Array.getElem?_eq_getElem (by omega:i<cur.size)]
  simp only [Option.map_some,Nat.zero_le,Nat.zero_add,hi,and_self,if_true,Nat.sub_zero]
  rw [getElem!_pos F i hi]
 ·rw [List.getElem?_append_right (by simpa using Nat.le_of_not_lt hi),List.getElem?_drop]
  rw [Array.length_toList,Nat.add_sub_cancel' (Nat.le_of_not_lt hi),Array.getElem?_toList]
  cases hc:cur[i]? with
  | none=>rfl
  | some v=>simp [hi]
def b6p (σ:S)(W:World):S:=⟨W,fun b=>if b<σ.N then σ.L b else (0,b)⟩
theorem c9x (w:World)(g m:Nat)(F:Array Value)(os:Array Obj):(a4O w g m F os).heap.size=w.heap.size+os.size:=by
 simp [a4O,Sort.grow,Sort.putRow,Sort.mapBlock,Sort.ahead]
theorem a95 {g m k:Nat}{E:TypeId}{xs:List α}{A:Option Addr}{F:Array Value}{os:Array Obj}(hown:a0j (some g) false E σ xs A k):Stp (fun b=>b=g) σ (b6p σ (a4O σ.w g m F os)):=by
 obtain ⟨cur,cs,rfl,hh,h1,h2,h3,h4,h5,h6⟩:=hown
 have hL:∀ b,b<σ.N->(b6p σ (a4O σ.w g m F os)).L b=σ.L b:=fun b hb=>by simp [b6p,hb]
 refine ⟨⟨?_,fun b hb=>by rw [hL b hb]; exact Nat.le_refl _,fun b o v ho hc=>?_,?_⟩,rfl,rfl,rfl,fun b hb hn=>⟨c5Y hb hn,by rw [hL b hb]⟩⟩
 ·show σ.w.heap.size<=(a4O σ.w g m F os).heap.size
  rw [c9x]; omega
 ·have hlt:=a5Q hc
  by_cases e:b=g
  ·subst e
   rw [show (σ.L b).1=0 from h6] at ho
   omega
  ·exact (a3X (c5Y hlt e) o).trans hc
 ·show σ.w.drawn<=(a4O σ.w g m F os).drawn
  simp [a4O,Sort.grow,Sort.putRow,Sort.mapBlock,Sort.ahead]
theorem c1d {g m k:Nat}{E:TypeId}{xs ys:List α}{A:Option Addr}{F:Array Value}{os:Array Obj}(hown:a0j (some g) false E σ xs A k)(hF:K2 σ ys F.toList)(hl:ys.length=xs.length) :
 a0j (some g) false E (b6p σ (a4O σ.w g m F os)) ys A k:=by
 have hst:=a95 (m:=m) (F:=F) (os:=os) hown
 obtain ⟨cur,cs,rfl,hh,h1,h2,h3,h4,h5,h6⟩:=hown
 have hFs:F.size=xs.length*Rp.sz α:=by rw [<- Array.length_toList,hF.len,hl]
 have hle:F.size<=cur.size:=by rw [hFs,h3]; exact Nat.mul_le_mul_right _ h1
 refine ⟨(F.toList++cur.toList.drop F.size).toArray,F.toList,rfl,c9E hh hle,by rw [hl]; exact h1,h2,?_,hF.mono hst.wext,?_,?_⟩
 ·simp; omega
 ·rw [hl,<- hFs,<- Array.length_toList]
  exact List.take_left
 ·show (if g<σ.N then σ.L g else (0,g)).1=_
  rw [if_pos (a1C hh)]
  exact h6
theorem c4q {τ υ:S}(h:Stp NoB τ υ):∃ q os,υ.w=Sort.grow (τ.w.drewN q) os:=by
 refine ⟨υ.w.drawn-τ.w.drawn,υ.w.heap.extract τ.w.heap.size υ.w.heap.size,?_⟩
 have hd:=h.wext.drawn
 have hs:τ.w.heap.size<=υ.w.heap.size:=h.wext.size
 have e1:=h.os
 have e2:=h.tape
 have e3:=h.output
 have hheap:υ.w.heap=τ.w.heap++υ.w.heap.extract τ.w.heap.size υ.w.heap.size:=by
  apply Array.ext_getElem?
  intro i
  by_cases hi:i<τ.w.heap.size
  ·rw [Array.getElem?_append_left hi]
   exact (h.block i hi (fun h=>h)).1
  ·rw [Array.getElem?_append_right (Nat.le_of_not_lt hi),Array.getElem?_extract]
   have:τ.w.heap.size+(i-τ.w.heap.size)=i:=by omega
   rw [this]
   split
   ·rfl
   ·rw [Array.getElem?_eq_none (by omega)]
 cases hu:υ.w with
 | mk heap tape drawn os output =>
   rw [hu] at hd hs e1 e2 e3 hheap
   simp only [Sort.grow,World.drewN]
   simp only at hd hheap e1 e2 e3
   rw [<- hheap,e1,e2,e3]
   congr 1
   omega
theorem c1k {β:Type} [Inhabited β] (enc:β->Value)(w:World)(g:Nat)(dk:Array β):Sort.putRow enc w g 0 dk=Sort.putRow id w g 0 (dk.map enc):=by
 unfold Sort.putRow
 congr 1
 funext c
 unfold Sort.putCells
 apply Array.ext_getElem?
 intro i
 simp only [Array.getElem?_mapIdx,Array.size_map]
 cases hc:c[i]? with
 | none=>rfl
 | some v =>
   simp only [Option.map_some,Option.some.injEq]
   split
   ·rename_i hi
    have hi':i-0<dk.size:=by omega
    rw [getElem!_pos dk (i-0) hi',id,getElem!_pos (dk.map enc) (i-0) (by simpa using hi'),Array.getElem_map]
   ·rfl
theorem c7w {P:Program}{g:FuncId}(h:a4z P g)(args:Array Value)(w:World):(callFunc g args).run P w=.ok (.enter g args) w:=by
 obtain ⟨fn,c,h1,h2,h3⟩:=h
 have h3' : fn.name ≠ "runtime.NumGoroutine" := by simpa using h3
 simp [callFunc,h1,h2,h3']
theorem c1U {P:Program}{g:FuncId}{vs:List Value}{τ:S}{E:S->Prop}{R:Value->S->Prop}(hb:a4z P g)(h:a2K P g vs τ E R):Calls P g vs.toArray τ.w fun e w'=>∃ v υ,e=.returned v/\υ.w=w'/\E υ/\R v υ:=by
 rcases h with ⟨_,h⟩ | ⟨v,υ,h,_⟩
 ·exact h
 ·rw [c7w hb] at h; cases h
omit [Rp α] in
theorem b9b {n:Nat}{xs:Fin n->α}{l:List α}{gf:α->α->Option Int}(hl:∀ i,xs i∈l)(ht:Swk (ltB gf) l)(cf:Fin n->Fin n->Int)(hcf:∀ i j,gf (xs i) (xs j)=some (cf i j)):Sort.SWO (Go.Proofs.ltOf cf):=by
 have e:∀ i j,Go.Proofs.ltOf cf i j=ltB gf (xs i) (xs j):=fun i j=>by simp [Go.Proofs.ltOf,ltB,hcf i j]
 refine ⟨fun i=>?_,fun i j k h1 h2=>?_,fun i j k h1 h2=>?_⟩
 ·rw [e]; exact ht.irr _ (hl i)
 ·rw [e] at *; exact ht.trans _ (hl i) _ (hl j) _ (hl k) h1 h2
 ·rw [e] at *; exact ht.ntrans _ (hl i) _ (hl j) _ (hl k) h1 h2
omit [Rp α] in
theorem b7h {xs:List α}(hn:0<xs.length) [inst:Inhabited (Fin xs.length)] {gf:α->α->Option Int}{cf:Fin xs.length->Fin xs.length->Int}(hcf:∀ i j:Fin xs.length,gf xs[i.val] xs[j.val]=some (cf i j))(hi:inst=⟨⟨0,hn⟩⟩) :
 (Sort.pdq (Go.Proofs.ltOf cf) (Array.ofFn (n:=xs.length) id) 0 xs.length (Lib.bitLen xs.length) true true).toList.map (fun i:Fin xs.length=>xs[i])=a7A (ltB gf) xs:=by
 have e:Go.Proofs.ltOf cf=fun i j:Fin xs.length=>ltB gf xs[i] xs[j]:=by
  funext i j
  have:=hcf i j
  have e2:gf xs[i] xs[j]=some (cf i j):=this
  simp only [Go.Proofs.ltOf,ltB,e2]
 rw [e]
 unfold a7A
 rw [dif_pos hn]
 subst hi
 rfl
open Go.Proofs in
theorem c7x {P:Program}{ρ:Go.Shelf.Ren}(L:Go.Proofs.SlLaysF0.n6 P ρ){fs:Array Field}{E:TypeId}(hu:P.underlying (ρ.t 24)=some (.struct fs))(hz:(P.info? (ρ.t 24)).map (·.size)=some (Rp.sz α)){xs:List α}{A:Option Addr}{k:Nat}{ow:Option Nat}(hown:a0j ow false E σ xs A k)
 {g:FuncId} {cb:List Value} {gf:α->α->Option Int} (hok:OkCmp xs gf) (hbody:a4z P g)
 (hcmp:∀ τ,Stp (fun b=>σ.N<=b\/ow=some b) σ τ->∀ x y cx cy r,Rp.cells τ x cx->Rp.cells τ y cy->gf x y=some r->a2K P g ([.agg cx.toArray,.agg cy.toArray]++cb) τ (Stp NoB τ) fun v _=>v=.int .i64 r) :
 a2K P (ρ.f 6) [.slice A xs.length k,.func (.func g) #[] cb.toArray] σ (Stp (fun b=>ow=some b) σ) fun v τ=>v=.tuple #[]/\a0j ow false E τ (a7A (ltB gf) xs) A k:=by
 have hb6:a4z P (ρ.f 6):=by
  obtain ⟨nm,hn,hf⟩:=L.f6
  exact ⟨_,_,hf,rfl,hn⟩
 refine .inl ⟨hb6,?_⟩
 cases hx:xs with
 | nil =>
   subst hx
   refine (AnyF.slices_SortFunc_none L A k (.func (.func g) #[] cb.toArray) σ.w).mono fun e w' ⟨he,hw⟩=>?_
   exact ⟨_,σ,he,hw.symm,Stp.refl _ _,rfl,hown⟩
 | cons x0 r0 =>
   rw [<- hx]
   cases ow with
   | none =>
     rcases hown with ⟨e,_⟩ | ⟨e,_⟩
     ·rw [hx] at e; cases e
     ·cases e
   | some gb =>
     have hown0:=hown
     obtain ⟨cur,cs,rfl,hh,h1,h2,h3,h4,h5,h6⟩:=hown
     have hn:0<xs.length:=by rw [hx]; simp
     let n:=xs.length
     letI:Inhabited (Fin xs.length):=⟨⟨0,hn⟩⟩
     let enc:Fin xs.length->List Value:=c5C cs (Rp.sz α) xs.length
     have hpos:=Rp.pos (α:=α)
     have hek:∀ i,(enc i).length=Rp.sz α:=fun i=>Rp.len (b8U h4 i)
     have he1:∀ i,∀ v∈enc i,v.oneCell'=true:=fun i v hv=>Rp.one (b8U h4 i) v hv
     let cf:Fin xs.length->Fin xs.length->Int:=fun i j=>(gf xs[i] xs[j]).getD 0
     have hcf:∀ i j:Fin xs.length,gf xs[i.val] xs[j.val]=some (cf i j):=fun i j=>by
      obtain ⟨r,hr⟩:=hok.dfd xs[i] (List.getElem_mem _) xs[j] (List.getElem_mem _)
      have hr':gf xs[i.val] xs[j.val]=some r:=hr
      show _=some ((gf xs[i.val] xs[j.val]).getD 0)
      rw [hr']; rfl
     have hflat:∀ {υ:S} (_:Wext σ υ) (dk:Array (Fin xs.length)),K2 υ (dk.toList.map fun i=>xs[i]) (Sort.flatK enc (Rp.sz α) dk).toList:=fun hw dk=>by
      rw [c2a hek hpos]
      exact (c6Z (fun i=>b8U h4 i) dk.toList).mono hw
     have hcur:∀ j,j<xs.length*Rp.sz α->cur[j]?=cs[j]?:=fun j hj=>by
      rw [<- h5,List.getElem?_take_of_lt hj,Array.getElem?_toList]
     have hd0:(Sort.flatK enc (Rp.sz α) (Array.ofFn (n:=xs.length) id)).toList=cs:=by
      have hA:=hflat (Wext.refl σ) (Array.ofFn (n:=xs.length) id)
      apply List.ext_getElem?
      intro t
      by_cases ht:t<xs.length*Rp.sz α
      ·rw [c2a hek hpos,b4x hek hpos _ t (by simpa using ht)]
       have hq:t / Rp.sz α<xs.length:=by rw [Nat.div_lt_iff_lt_mul hpos]; exact ht
       simp only [Array.toList_ofFn,List.getElem?_ofFn,hq,dite_true,Option.bind_some,id]
       simp only [enc,c5C]
       rw [List.getElem?_take_of_lt (Nat.mod_lt _ hpos),List.getElem?_drop]
       congr 1
       exact Nat.div_add_mod' t (Rp.sz α)
      ·rw [List.getElem?_eq_none (by simp; omega),List.getElem?_eq_none (by rw [h4.len]; omega)]
     have hholds:Sort.HoldsK enc (Rp.sz α) σ.w gb 0 (Array.ofFn (n:=xs.length) id):=by
      intro j hj
      have hj':j<xs.length*Rp.sz α:=by simpa using hj
      have hjc:j<cs.length:=by rw [h4.len]; exact hj'
      refine ⟨?_,by simp [World.frozen?,hh]⟩
      have e1:σ.w.cell? ⟨gb,0+j,none⟩=cur[j]?:=by simp [World.cell?,hh]
      rw [e1,hcur j hj',getElem!_pos _ j (by simpa using hj'),List.getElem?_eq_getElem hjc]
      congr 1
      have:=congrArg (fun l:List Value=>l[j]?) hd0
      simp only [Array.getElem?_toList] at this
      rw [Array.getElem?_eq_getElem (by simpa using hj'),List.getElem?_eq_getElem hjc] at this
      exact (Option.some.inj this).symm
     have hlt:gb<σ.w.heap.size:=a1C hh
     have hcl:CmpLays P g cb.toArray enc (Rp.sz α) cf gb 0 (Array.ofFn (n:=xs.length) (id:Fin xs.length->Fin xs.length)).size σ.w:=by
      intro m os dk hdk i j
      have hst:=a95 (m:=m) (F:=Sort.flatK enc (Rp.sz α) dk) (os:=os) hown0
      have hc:=hcmp (b6p σ (a4O σ.w gb m (Sort.flatK enc (Rp.sz α) dk) os)) (hst.mono fun b _ e=>.inr (by rw [e])) xs[i] xs[j] (enc i) (enc j) (cf i j) (Rp.mono hst.wext (b8U h4 i)) (Rp.mono hst.wext (b8U h4 j)) (hcf i j)
      have hc':=c1U hbody hc
      have e:(#[Value.agg (enc i).toArray,Value.agg (enc j).toArray]++cb.toArray)=([Value.agg (enc i).toArray,Value.agg (enc j).toArray]++cb).toArray:=by simp
      rw [e]
      refine Calls.mono hc' fun e w' ⟨v,υ,h1,h2,h3,h4⟩=>?_
      obtain ⟨q,os',ho⟩:=c4q h3
      exact ⟨by rw [h1,h4],q,os',by rw [<- h2]; exact ho⟩
     have aE:∀ w,(isAgg (ρ.t 24)).run P w=.ok true w:=fun w=>by
      simp [isAgg,run_underlying hu]
     have main:=AnyQ.slices_SortFunc_eq L (Rp.sz α) aE (fun w=>Sx.run_sizeOf hz w) enc hek he1 cf (b9b (xs:=fun i:Fin xs.length=>xs[i]) (l:=xs) (fun i=>List.getElem_mem _) hok.wk cf hcf) g cb.toArray gb 0 k (Array.ofFn (n:=xs.length) id) σ.w (c7w hbody) hcl hholds hlt (by simp only [Array.size_ofFn]; exact hok.len)
     have hs:(Array.ofFn (n:=xs.length) (id:Fin xs.length->Fin xs.length)).size=xs.length:=by simp
     rw [hs] at main
     have hsorted:=b7h hn hcf rfl
     have hswo:=b9b (xs:=fun i:Fin xs.length=>xs[i]) (l:=xs) (fun i=>List.getElem_mem _) hok.wk cf hcf
     have hp:=(Sort.pdq_sorts (ltOf cf) hswo (Array.ofFn (n:=xs.length) id) 0 xs.length (Lib.bitLen xs.length) true true (Nat.zero_le _) (by simp) (Or.inl rfl)).1
     generalize Sort.pdq (ltOf cf) (Array.ofFn (n:=xs.length) id) 0 xs.length (Lib.bitLen xs.length) true true=d' at main hsorted hp
     refine Calls.mono main fun e w' ⟨he,m,os,hw⟩=>?_
     have hst:=a95 (m:=m) (F:=Sort.flatK enc (Rp.sz α) d') (os:=os) hown0
     refine ⟨_,b6p σ (a4O σ.w gb m (Sort.flatK enc (Rp.sz α) d') os),he,hw.symm,hst.mono fun b _ e=>by rw [e],rfl,?_⟩
     rw [<- hsorted]
     exact c1d hown0 (hflat (Wext.refl σ) d') (by simp; rw [hp.1]; simp)
open Go.Proofs in
theorem c7l {P:Program}{ρ:Go.Shelf.Ren}(L:Go.Proofs.SlLaysF.n6 P ρ){E:TypeId}{kd:IntKind}{toI:α->Int}(hI:∀ {σ:S} {x:α} {cs:List Value},Rp.cells σ x cs↔cs=[.int kd (toI x)]){xs:List α}{A:Option Addr}{k:Nat}{ow:Option Nat}(hown:a0j ow false E σ xs A k)
 {g:FuncId} {cb:List Value} {gf:α->α->Option Int} (hok:OkCmp xs gf) (hbody:a4z P g)
 (hcmp:∀ τ,Stp (fun b=>σ.N<=b\/ow=some b) σ τ->∀ x y r,gf x y=some r->a2K P g ([.int kd (toI x),.int kd (toI y)]++cb) τ (Stp NoB τ) fun v _=>v=.int .i64 r) :
 a2K P (ρ.f 6) [.slice A xs.length k,.func (.func g) #[] cb.toArray] σ (Stp (fun b=>ow=some b) σ) fun v τ=>v=.tuple #[]/\a0j ow false E τ (a7A (ltB gf) xs) A k:=by
 have hb6:a4z P (ρ.f 6):=by
  obtain ⟨nm,hn,hf⟩:=L.f6
  exact ⟨_,_,hf,rfl,hn⟩
 refine .inl ⟨hb6,?_⟩
 cases hx:xs with
 | nil =>
   subst hx
   refine (AnyF.slices_SortFunc_none { L with } A k (.func (.func g) #[] cb.toArray) σ.w).mono fun e w' ⟨he,hw⟩=>?_
   exact ⟨_,σ,he,hw.symm,Stp.refl _ _,rfl,hown⟩
 | cons x0 r0 =>
   rw [<- hx]
   cases ow with
   | none =>
     rcases hown with ⟨e,_⟩ | ⟨e,_⟩
     ·rw [hx] at e; cases e
     ·cases e
   | some gb =>
     have hown0:=hown
     obtain ⟨cur,cs,rfl,hh,h1,h2,h3,h4,h5,h6⟩:=hown
     have hn:0<xs.length:=by rw [hx]; simp
     letI:Inhabited (Fin xs.length):=⟨⟨0,hn⟩⟩
     have hsz1:Rp.sz α=1:=by
      have:=Rp.len (hI (σ:=σ) (x:=xs[0]).2 rfl)
      simpa using this.symm
     let enc:Fin xs.length->Value:=fun i=>.int kd (toI xs[i])
     have hflat1:∀ {υ:S} (l:List α),K2 υ l (l.map fun x=>Value.int kd (toI x)):=by
      intro υ l
      induction l with
      | nil=>rfl
      | cons x l ih=>exact ⟨[_],_,rfl,hI.2 rfl,ih⟩
     have hcsU:∀ {l:List α} {ds:List Value},K2 σ l ds->ds=l.map fun x=>Value.int kd (toI x):=by
      intro l
      induction l with
      | nil=>intro ds h; exact h
      | cons x l ih =>
        intro ds ⟨c,r,e,hc,hr⟩
        rw [e,hI.1 hc,ih hr]; rfl
     have hcs:=hcsU h4
     let cf:Fin xs.length->Fin xs.length->Int:=fun i j=>(gf xs[i] xs[j]).getD 0
     have hcf:∀ i j:Fin xs.length,gf xs[i.val] xs[j.val]=some (cf i j):=fun i j=>by
      obtain ⟨r,hr⟩:=hok.dfd xs[i] (List.getElem_mem _) xs[j] (List.getElem_mem _)
      have hr':gf xs[i.val] xs[j.val]=some r:=hr
      show _=some ((gf xs[i.val] xs[j.val]).getD 0)
      rw [hr']; rfl
     have hput:∀ (w:World) (dk:Array (Fin xs.length)),Sort.putRow enc w gb 0 dk=Sort.putRow id w gb 0 (dk.map enc):=fun w dk=>c1k enc w gb dk
     have hFl:∀ {υ:S} (dk:Array (Fin xs.length)),K2 υ (dk.toList.map fun i=>xs[i]) (dk.map enc).toList:=fun dk=>by
      have:=hflat1 (υ:=‹S›) (dk.toList.map fun i=>xs[i])
      rw [List.map_map] at this
      rw [Array.toList_map]
      exact this
     have hholds:Sort.Holds enc σ.w gb 0 (Array.ofFn (n:=xs.length) id):=by
      intro j hj
      have hj':j<xs.length:=by simpa using hj
      refine ⟨?_,by simp [World.frozen?,hh]⟩
      have e1:σ.w.cell? ⟨gb,0+j,none⟩=cur[j]?:=by simp [World.cell?,hh]
      have e2:cur[j]?=cs[j]?:=by rw [<- h5,hsz1,Nat.mul_one,List.getElem?_take_of_lt hj',Array.getElem?_toList]
      rw [e1,e2,hcs,List.getElem?_map,List.getElem?_eq_getElem hj',getElem!_pos _ j (by simpa using hj')]
      simp [enc]
     have hlt:gb<σ.w.heap.size:=a1C hh
     have hcl:CmpLays1 P g cb.toArray enc cf gb 0 (Array.ofFn (n:=xs.length) (id:Fin xs.length->Fin xs.length)).size σ.w:=by
      intro m os dk hdk i j
      have hst:=a95 (m:=m) (F:=dk.map enc) (os:=os) hown0
      have hc:=hcmp (b6p σ (a4O σ.w gb m (dk.map enc) os)) (hst.mono fun b _ e=>.inr (by rw [e])) xs[i] xs[j] (cf i j) (hcf i j)
      have hc':=c1U hbody hc
      have e:(#[enc i,enc j]++cb.toArray)=([Value.int kd (toI xs[i]),Value.int kd (toI xs[j])]++cb).toArray:=by simp [enc]
      have ew:sortWorld enc σ.w gb 0 m dk os=a4O σ.w gb m (dk.map enc) os:=by
       unfold sortWorld a4O
       rw [hput]
      rw [e,ew]
      refine Calls.mono hc' fun e w' ⟨v,υ,h1,h2,h3,h4⟩=>?_
      obtain ⟨q,os',ho⟩:=c4q h3
      exact ⟨by rw [h1,h4],q,os',by rw [<- h2]; exact ho⟩
     have main:=Any.slices_SortFunc_eq L enc (fun i=>rfl) cf (b9b (xs:=fun i:Fin xs.length=>xs[i]) (l:=xs) (fun i=>List.getElem_mem _) hok.wk cf hcf) g cb.toArray gb 0 k (Array.ofFn (n:=xs.length) id) σ.w (c7w hbody) hcl hholds hlt (by simp only [Array.size_ofFn]; exact hok.len)
     have hs:(Array.ofFn (n:=xs.length) (id:Fin xs.length->Fin xs.length)).size=xs.length:=by simp
     rw [hs] at main
     have hsorted:=b7h hn hcf rfl
     have hswo:=b9b (xs:=fun i:Fin xs.length=>xs[i]) (l:=xs) (fun i=>List.getElem_mem _) hok.wk cf hcf
     have hp:=(Sort.pdq_sorts (ltOf cf) hswo (Array.ofFn (n:=xs.length) id) 0 xs.length (Lib.bitLen xs.length) true true (Nat.zero_le _) (by simp) (Or.inl rfl)).1
     generalize Sort.pdq (ltOf cf) (Array.ofFn (n:=xs.length) id) 0 xs.length (Lib.bitLen xs.length) true true=d' at main hsorted hp
     refine Calls.mono main fun e w' ⟨he,m,os,hw⟩=>?_
     have hst:=a95 (m:=m) (F:=d'.map enc) (os:=os) hown0
     refine ⟨_,b6p σ (a4O σ.w gb m (d'.map enc) os),he,?_,hst.mono fun b _ e=>by rw [e],rfl,?_⟩
     ·rw [hw]
      show a4O σ.w gb m (d'.map enc) os=_
      unfold sortWorld a4O
      rw [hput]
     ·rw [<- hsorted]
      exact c1d hown0 (hFl d') (by simp; rw [hp.1]; simp)
end
section
variable {I:TypeId->Type} [∀ E,Rp (I E)] {P:Program}
noncomputable def a6Y {α:Type}(xs:List α)(g:α->α->Option Int):Option (Unit×List α):=Option.bind (c1S xs g) fun ys=>some ((),ys)
theorem c3E {σ τ:S}{E:TypeId}{ks:List Kd}{rs:List V}{v1 v2:Value}{gr:List Nat}{res:Unit}:Post (I:=I) σ τ [.row E false,.fn ks rs] [] [v1,v2] res gr (.tuple #[]) [] [] [] :=
 ⟨rfl,rfl,⟨rfl,rfl⟩,rfl,by simp [ows],fun g hg=>by simp [ows] at hg⟩
theorem c8Y {ρ:Go.Shelf.Ren}(L:Go.Proofs.SlLaysF0.n6 P ρ){fs:Array Field}(f:FuncId)(hf:ρ.f 6=f){E:TypeId}(hE:ρ.t 24=E)(hu:P.underlying E=some (.struct fs))(hz:(P.info? E).map (·.size)=some (Rp.sz (I E))) :
 b3E P (⟨f,E,[.fn [.dat E,.dat E] [.k (.d (.int .i64))]],[],fun xs g=>a6Y xs g⟩:Rio I):=by
 subst hf
 subst hE
 intro σ xs a vs pls res ys hA hnd happ
 obtain ⟨v1,vs1,p1,q1,e1,e2,⟨A,k,ow,e3,hown,e4⟩,v2,vs2,p2,q2,e5,e6,⟨g,av,cb,e7,⟨hbody,has,hfn⟩,e8⟩,e9,e10⟩:=hA
 obtain ⟨gf,u⟩:=a
 have happ:a6Y xs gf=some (res,ys):=happ
 unfold a6Y at happ
 obtain ⟨ys',hs,happ⟩:=bind_some happ
 cases happ
 obtain ⟨hok,hys⟩:=c11 hs
 have e9:vs2=[]:=e9
 have e10:q2=[]:=e10
 have e3:v1=.slice A xs.length k:=e3
 have e4:p1=[⟨A,k,xs.length,ow⟩]:=e4
 have e7:v2=.func (.func g) (List.toArray av) (List.toArray cb):=e7
 have e8:p2=[]:=e8
 subst e9; subst e10; subst has; subst e8; subst e6; subst e4; subst e5; subst e7; subst e3; subst e1
 rw [List.append_nil] at e2
 subst e2
 have hc:=c7x (σ:=σ) L hu hz hown hok hbody (cb:=cb) (fun τ hst x y cx cy r hx hy hr=>by
  have h1:=hfn τ (hst.mono fun b _ hb=>hb.imp id fun h=>by rw [h]; simp [ows]) (x,y,()) [.agg cx.toArray,.agg cy.toArray] r ⟨_,_,rfl,⟨cx,rfl,hx⟩,_,_,rfl,⟨cy,rfl,hy⟩,rfl⟩ hr
  exact a2K.mono h1 rfl fun v υ hE ⟨ws,hv,ht⟩=>⟨υ,rfl,hE,by
   obtain ⟨w,hw,ht,_⟩:=ht
   rw [hv,hw]
   exact ht⟩)
 refine a2K.mono hc rfl fun v τ hE ⟨hv,hO⟩=>⟨τ,rfl,hE.mono fun b _ hb=>by rw [hb]; simp [ows],[],[],[],by rw [hv]; exact c3E,A,k,ow,rfl,by rw [hys]; exact c3P hok.wk,by rw [hys]; exact hO,fun g _=>by simp [ows]⟩
theorem c8H {ρ:Go.Shelf.Ren}(L:Go.Proofs.SlLaysF.n6 P ρ)(f:FuncId)(hf:ρ.f 6=f){E:TypeId}{kd:IntKind}(toI:I E->Int)(hI:∀ {σ:S} {x:I E} {cs:List Value},Rp.cells σ x cs↔cs=[.int kd (toI x)]) :
 b3E P (⟨f,E,[.fn [.int kd,.int kd] [.k (.d (.int .i64))]],[],fun xs (g:Int->Int->Option Int)=>a6Y xs fun x y=>g (toI x) (toI y)⟩:Rio I):=by
 subst hf
 intro σ xs a vs pls res ys hA hnd happ
 obtain ⟨v1,vs1,p1,q1,e1,e2,⟨A,k,ow,e3,hown,e4⟩,v2,vs2,p2,q2,e5,e6,⟨g,av,cb,e7,⟨hbody,has,hfn⟩,e8⟩,e9,e10⟩:=hA
 obtain ⟨gf,u⟩:=a
 have happ:a6Y xs (fun x y=>gf (toI x) (toI y))=some (res,ys):=happ
 unfold a6Y at happ
 obtain ⟨ys',hs,happ⟩:=bind_some happ
 cases happ
 obtain ⟨hok,hys⟩:=c11 hs
 have e9:vs2=[]:=e9
 have e10:q2=[]:=e10
 have e3:v1=.slice A xs.length k:=e3
 have e4:p1=[⟨A,k,xs.length,ow⟩]:=e4
 have e7:v2=.func (.func g) (List.toArray av) (List.toArray cb):=e7
 have e8:p2=[]:=e8
 subst e9; subst e10; subst has; subst e8; subst e6; subst e4; subst e5; subst e7; subst e3; subst e1
 rw [List.append_nil] at e2
 subst e2
 have hc:=c7l (σ:=σ) L hI hown hok hbody (cb:=cb) (fun τ hst x y r hr=>by
  have h1:=hfn τ (hst.mono fun b _ hb=>hb.imp id fun h=>by rw [h]; simp [ows]) (toI x,toI y,()) [.int kd (toI x),.int kd (toI y)] r ⟨_,_,rfl,rfl,_,_,rfl,rfl,rfl⟩ hr
  exact a2K.mono h1 rfl fun v υ hE ⟨ws,hv,ht⟩=>⟨υ,rfl,hE,by
   obtain ⟨w,hw,ht,_⟩:=ht
   rw [hv,hw]
   exact ht⟩)
 refine a2K.mono hc rfl fun v τ hE ⟨hv,hO⟩=>⟨τ,rfl,hE.mono fun b _ hb=>by rw [hb]; simp [ows],[],[],[],by rw [hv]; exact c3E,A,k,ow,rfl,by rw [hys]; exact c3P hok.wk,by rw [hys]; exact hO,fun g _=>by simp [ows]⟩
def b2j {α:Type}(toI:α->Int)(xs:List α):Option (Unit×List α):=bif decide (xs.length<4611686018427387904) then some ((),xs.mergeSort fun x y=>decide (toI x<=toI y)) else none
def c3c (xs:List Int):Option (Unit×List Int):=b2j (fun x=>x) xs
open Go.Proofs in
theorem c8a {ρ:Go.Shelf.Ren}(L:Go.Proofs.Lays.n189 P ρ)(f:FuncId)(hf:ρ.f 189=f){E:TypeId}(toI:I E->Int)(hI:∀ {σ:S} {x:I E} {cs:List Value},Rp.cells σ x cs↔cs=[.int .i64 (toI x)])(hb:a4z P f) :
 b3E P (⟨f,E,[],[],fun xs=>b2j toI xs⟩:Rio I):=by
 subst hf
 intro σ xs a vs pls res ys hA hnd happ
 obtain ⟨v1,vs1,p1,q1,e1,e2,⟨A,k,ow,e3,hown,e4⟩,e9,e10⟩:=hA
 have happ:b2j toI xs=some (res,ys):=happ
 unfold b2j at happ
 obtain ⟨hlen,happ⟩:=k7 happ
 have hlen:xs.length<4611686018427387904:=by simpa using hlen
 have e9:vs1=[]:=e9
 have e10:q1=[]:=e10
 have e3:v1=.slice A xs.length k:=e3
 have e4:p1=[⟨A,k,xs.length,ow⟩]:=e4
 subst e9; subst e10; subst e4; subst e3; subst e1
 rw [List.append_nil] at e2
 subst e2
 cases happ
 have hpost:∀ {τ:S},Post (I:=I) σ τ [.row E false] [] [.slice A xs.length k] () (ows [(⟨A,k,xs.length,ow⟩:Pl)]) (.tuple #[]) [] [] []:=⟨rfl,rfl,⟨rfl,rfl⟩,rfl,by simp [ows],fun g hg=>by simp [ows] at hg⟩
 refine .inl ⟨hb,?_⟩
 have hown:a0j ow false E σ xs A k:=hown
 cases hx:xs with
 | nil =>
   subst hx
   refine (Any.slices_Sort_int_none L A k σ.w).mono fun e w' ⟨he,hw⟩=>?_
   exact ⟨_,σ,he,hw.symm,Stp.refl _ _,[],[],[],hpost,A,k,ow,rfl,by simp,by simpa using hown,fun g _=>by simp [ows]⟩
 | cons x0 r0 =>
   rw [<- hx]
   cases ow with
   | none =>
     rcases hown with ⟨e,_⟩ | ⟨e,_⟩
     ·rw [hx] at e; cases e
     ·cases e
   | some gb =>
     have hown0:=hown
     obtain ⟨cur,cs,rfl,hh,h1,h2,h3,h4,h5,h6⟩:=hown
     have hsz1:Rp.sz (I E)=1:=by
      have:=Rp.len (hI (σ:=σ) (x:=x0).2 rfl)
      simpa using this.symm
     have hcsU:∀ {l:List (I E)} {ds:List Value},K2 σ l ds->ds=l.map fun x=>Value.int .i64 (toI x):=by
      intro l
      induction l with
      | nil=>intro ds h; exact h
      | cons x l ih =>
        intro ds ⟨c,r,e,hc,hr⟩
        rw [e,hI.1 hc,ih hr]; rfl
     have hflat1:∀ {υ:S} (l:List (I E)),K2 υ l (l.map fun x=>Value.int .i64 (toI x)):=by
      intro υ l
      induction l with
      | nil=>rfl
      | cons x l ih=>exact ⟨[_],_,rfl,hI.2 rfl,ih⟩
     let toL:I E->Int:=toI
     have hholds:Sort.Holds (Value.int .i64) σ.w gb 0 (xs.map toL).toArray:=by
      intro j hj
      have hj':j<xs.length:=by simpa using hj
      refine ⟨?_,by simp [World.frozen?,hh]⟩
      have e1:σ.w.cell? ⟨gb,0+j,none⟩=cur[j]?:=by simp [World.cell?,hh]
      have e2:cur[j]?=cs[j]?:=by rw [<- h5,hsz1,Nat.mul_one,List.getElem?_take_of_lt hj',Array.getElem?_toList]
      rw [e1,e2,hcsU h4,List.getElem?_map,List.getElem?_eq_getElem hj',getElem!_pos _ j (by simpa using hj')]
      simp [toL]
     have main:=Any.slices_Sort_int L gb 0 k (xs.map toL) σ.w hholds (a1C hh) (by simpa using hlen)
     rw [List.length_map] at main
     refine Calls.mono main fun e w' ⟨he,m,os,hw⟩=>?_
     have hmap:((xs.mergeSort fun x y=>decide (toL x<=toL y)).map toL)=(xs.map toL).mergeSort fun x y=>decide (x<=y):=List.map_mergeSort fun a _ b _=>rfl
     let ys:=xs.mergeSort fun x y=>decide (toL x<=toL y)
     have hput:∀ (w:World),Sort.putRow (Value.int .i64) w gb 0 ((xs.map toL).mergeSort fun x y=>decide (x<=y)).toArray=Sort.putRow id w gb 0 (ys.map fun x=>Value.int .i64 (toI x)).toArray:=fun w=>by
      rw [c1k,<- hmap]
      congr 1
      simp [ys,toL]
     have hst:=a95 (m:=m) (F:=(ys.map fun x=>Value.int .i64 (toI x)).toArray) (os:=os) hown0
     refine ⟨_,b6p σ (a4O σ.w gb m (ys.map fun x=>Value.int .i64 (toI x)).toArray os),he,?_,hst.mono fun b _ e=>by rw [e]; simp [ows],[],[],[],hpost,_,k,some gb,rfl,by simp,?_,fun g _=>by simp [ows]⟩
     ·rw [hw]
      show a4O σ.w gb m (ys.map fun x=>Value.int .i64 (toI x)).toArray os=_
      unfold a4O
      rw [hput]
     ·exact c1d hown0 (hflat1 ys) (by simp [ys])
end
end Go.Qx
end

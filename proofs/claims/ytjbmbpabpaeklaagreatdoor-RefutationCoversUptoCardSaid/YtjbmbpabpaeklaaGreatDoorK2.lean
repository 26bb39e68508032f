/- Part 2. -/
import Derived.Test.YtjbmbpabpaeklaaGreatDoorK0
import Derived.Test.YtjbmbpabpaeklaaGreatDoorK1
import Derived.ChangeKeysEq
import Derived.KernelRfl
import Derived.Lib.Bytealg
import Derived.Shelf.Lays
import Derived.Shelf.SlLaysF0
import Derived.Shelf.SlSortCmp.NoneTotal
import Derived.Shelf.Slices.In.SortNone
import Derived.Shelf.Sort.Plain
import Derived.Shelf.Strconv.Itoa3
import Derived.Shelf.Strings.Builder1
import Derived.Test.YtjbmbpabpaeklaaGreatDoorProg
section
open Bool renaming and_eq_true->ik'
open List renaming all_cons->jI',all_eq_true->iu',cons_append->jK',filterMap_cons->iQ',getElem?_append_right->iv',getElem?_drop->jj',getElem?_eq_getElem->in',getElem?_map->jv',getElem_mem->iL',length_cons->iF',map_cons->iH',mem_append->iw',mem_cons->ir',mem_filterMap->kh',mem_map->iT',nil_append->jx',replicate->iC',toArray->je'
open Nat renaming add_sub_cancel_left->iY',beq->il',blt->iG',eq_of_beq_eq_true->ii',le_trans->iz'
open Option renaming bind_assoc->iS',some->iU'
namespace Go.Qx
open Go Go.RowKit Go.Sx
section
variable {I:TypeId->Type} [∀ E,Rp (I E)]
def D7 (rs:List V)(p:PV I):Option (List (PV I)):=match rs with
 | [_]=>some [p]
 | _=>match p with
   | .lF ls=>some ls
   | _=>none
def jW (tb:aD I):(ks:List Kd)->fA I ks->List (PV I)
 | [],_=>[]
 | k::ks,q=>jV tb k q.1::jW tb ks q.2
def NC (tb:aD I)(rs:List V)(e:Ef I):Option (dz I rs) :=
 bif iR e.upd&&iR e.new then (D7 rs e.p).bind λps=>(fM tb (λ_=>none) rs ps).bind λx=>bif iR x.2.1&&iR x.2.2 then some x.1 else none else none
def D6 (tb:aD I)(aj:dn I)(O:ay I)(nb:Nat)(f:FuncId)(ls:List (PV I))(ks:List Kd)(rs:List V):nT I ks (dz I rs):=au ks λq=>aj (dz I rs) f O nb (jW tb ks q++ls) (NC tb rs)
structure CW where
 pub:List Nat
 all:List (Option Nat)
 gv:List (Nat×TypeId×V)
 rv:List Nat
def FW (ks:List Kd)(rs:List V)(ks':List Kd)(rs':List V)(g:nT I ks' (dz I rs')):Option (nT I ks (dz I rs)):=if h:ks'=ks/\rs'=rs then some (h.1▸h.2▸g) else none
def LP (tb:aD I)(O:ay I)(T:TypeId)(v:V)(w:Bool)(p:PV I):Option (jg I v×CW):=match p with
 | .ptr l 0=>match O l with
   | some (some (.var T' ls w'))=>bif il' T T'&&(w'||!w) then (uW v ls).bind λp=>(qU tb O v p).bind λx =>
      bif w then some (x.1,⟨x.2.1,some l::x.2.2,[(l,T,v)],[]⟩) else bif iR x.2.2 then some (x.1,⟨x.2.1,[none],[],[l]⟩) else none else none
   | _=>none
 | _=>none
def D9 (O:ay I)(E:TypeId)(p:PV I):Option (List (I E)×List Nat):=match p with
 | .vw l=>match O l with
   | some (some (.row E' xs _))=>(gG E E' xs).bind λys=>some (ys,[l])
   | some (some (.ro E' xs))=>(gG E E' xs).bind λys=>some (ys,[])
   | some (some (.bo E' xs))=>(gG E E' xs).bind λys=>some (ys,[])
   | _=>none
 | .sl E' xs _=>(gG E E' xs).bind λys=>some (ys,[])
 | .nl _=>some ([],[])
 | _=>none
def Ak (tb:aD I)(O:ay I):(k:K)->PV I->Option (iq I k×List Nat×List Nat)
 | .d kd,p=>(nM tb O kd p).bind λx=>some (x.1,x.2,[])
 | .map T kd,.mp l=>match O l with
   | some (some (.map T' _ m))=>(ku (T:=T) (T':=T') (kd:=kd) m).bind λys=>some (ys,[],[l])
   | some (some (.dO T' _ m))=>(ku (T:=T) (T':=T') (kd:=kd) m).bind λys=>some (ys,[],[])
   | _=>none
 | _,_=>none
def sQ (tb:aD I)(O:ay I):(ks:List K)->List (PV I)->Option (fV I ks×List Nat×List Nat)
 | [],[]=>some ((),[],[])
 | [k],[p]=>Ak tb O k p
 | k::k'::ks,p::ps=>(Ak tb O k p).bind λx=>(sQ tb O (k'::ks) ps).bind λy=>some ((x.1,y.1),x.2.1++y.2.1,x.2.2++y.2.2)
 | _,_=>none
def DJ (tb:aD I)(O:ay I)(ks:List K)(p:PV I):Option (fV I ks×List Nat×List Nat):=match p with
 | .agg ls=>bif qM ks then (sM tb 300 ls).bind λls'=>sQ tb O ks ls' else none
 | _=>none
def mV (tb:aD I)(aj:dn I)(O Oc:ay I)(nb:Nat):(ps:List Pk)->List (PV I)->Option (eU I ps×CW)
 | [],[]=>some ((),⟨[],[],[],[]⟩)
 | .d k::r,p::ps=>(nM tb O k p).bind λx=>(mV tb aj O Oc nb r ps).bind λy=>some ((x.1,y.1),⟨x.2++y.2.pub,y.2.all,y.2.gv,y.2.rv⟩)
 | .var T v w::r,p::ps=>(LP tb O T v w p).bind λx=>(mV tb aj O Oc nb r ps).bind λy=>some ((x.1,y.1),⟨x.2.pub++y.2.pub,x.2.all++y.2.all,x.2.gv++y.2.gv,x.2.rv++y.2.rv⟩)
 | .row E fl::r,p::ps=>(kN tb O (.row E fl) p).bind λx=>(mV tb aj O Oc nb r ps).bind λy=>some ((x.1,y.1),⟨x.2.1++y.2.pub,x.2.2++y.2.all,y.2.gv,y.2.rv⟩)
 | .fn ks rs::r,p::ps=>(mV tb aj O Oc nb r ps).bind λy=>match p with
   | .fn ks' rs' g=>(FW ks rs ks' rs' g).bind λg'=>some ((g',y.1),y.2)
   | .lD f ls=>bif tb.fb f then some ((D6 tb aj Oc nb f ls ks rs,y.1),y.2) else none
   | _=>none
 | .val v::r,p::ps=>(qU tb O v p).bind λx=>(mV tb aj O Oc nb r ps).bind λy=>some ((x.1,y.1),⟨x.2.1++y.2.pub,x.2.2++y.2.all,y.2.gv,y.2.rv⟩)
 | .iC ks::r,p::ps=>(DJ tb O ks p).bind λx=>(mV tb aj O Oc nb r ps).bind λy=>some ((x.1,y.1),⟨x.2.1++y.2.pub,iC' (jE ks) none++y.2.all,y.2.gv,x.2.2++y.2.rv⟩)
 | .gW E::r,p::ps=>(D9 O E p).bind λx=>(mV tb aj O Oc nb r ps).bind λy=>some ((x.1,y.1),⟨y.2.pub,none::y.2.all,y.2.gv,x.2++y.2.rv⟩)
 | _,_=>none
def gL (O:ay I):List Pk->List (PV I)->List Nat
 | .var _ _ true::r,.ptr l _::ps=>(l::nest O [l])++gL O r ps
 | .row _ _::r,p::ps=>yG p++gL O r ps
 | .val _::r,p::ps=>yG p++gL O r ps
 | _::r,_::ps=>gL O r ps
 | _,_=>[]
def fG:List (Option Nat)->List (Nat×Option (Ob I))
 | []=>[]
 | some l::r=>(l,none)::fG r
 | none::r=>fG r
def gX:List (Nat×TypeId×V)->List (PV I)->List (Nat×Option (Ob I))
 | x::r,p::ps=>(x.1,some (.var x.2.1 (lU x.2.2 p) true))::gX r ps
 | _,_=>[]
def vL (gr:List Nat)(a:CW):Bool:=oW a.pub a.all&&a.all.all (λx=>match x with | some l=>bg l gr | none=>true)&&a.rv.all (λl=>!(bg l gr))
def BU (tb:aD I)(r:Row I)(aj:dn I)(ρ:Type)(O:ay I)(nb:Nat)(ps:List (PV I))(k:Ef I->Option ρ):Option ρ :=
 (mV tb aj O (eP [] (bF (gL O r.ps ps) O)) nb r.ps ps).bind λa =>
 bif vL (gL O r.ps ps) a.2 then (nU r.ps r.run a.1).bind λres =>
  k ⟨jo ((bR tb nb (r.rs++aR r.ps) res).take r.rs.length),aT O a.2.pub++fG a.2.all++gX a.2.gv ((bR tb nb (r.rs++aR r.ps) res).drop r.rs.length),cO (r.rs++aR r.ps) res⟩ else none
structure jZ (I:TypeId->Type) where
 f:FuncId
 go:dn I->(ρ:Type)->ay I->Nat->List (PV I)->(Ef I->Option ρ)->Option ρ
structure qB (P:Program)(e:jZ I):Prop where
 par:∀ (aj:dn I) (ρ:Type) (O:ay I) (nb:Nat) (ps:List (PV I)) (k:Ef I->Option ρ),e.go aj ρ O nb ps k=(e.go aj (Ef I) O nb ps some).bind k
 ok:∀ (aj:dn I),iT P aj->∀ (O:ay I) (nb:Nat) (ps:List (PV I)) (ef:Ef I),e.go aj (Ef I) O nb ps some=some ef->Ov P e.f O nb ps ef
def yT (f:FuncId):List (jZ I)->Option (jZ I)
 | []=>none
 | e::r=>bif il' e.f f then some e else yT f r
def wQ (es:List (jZ I)):Nat->dn I
 | 0=>λ_ _ _ _ _ _=>none
 | d+1=>λρ f O nb ps k=>match yT f es with
   | some e=>e.go (wQ es d) ρ O nb ps k
   | none=>none
def LQ (tb:aD I)(r:Row I):jZ I:=⟨r.f,BU tb r⟩
def vX (tb:aD I)(r:Row I)(jy:ay I->List (PV I)->Bool)(aj:dn I)(ρ:Type)(O:ay I)(nb:Nat)(ps:List (PV I))(k:Ef I->Option ρ):Option ρ:=bif jy O ps then BU tb r aj ρ O nb ps k else none
def Pf (tb:aD I)(r:Row I)(jy:ay I->List (PV I)->Bool):jZ I:=⟨r.f,vX tb r jy⟩
def BK (P:Program):List (jZ I)->Prop
 | []=>True
 | e::r=>qB P e/\BK P r
variable {P:Program}{tb:aD I}{X:aY}{c c':Cx}{σ τ:S}{s:St I}{n:Nat}{F:Fr}{O:ay I}
theorem EQ {f:FuncId}:∀ {es:List (jZ I)} {e:jZ I},BK P es->yT f es=some e->qB P e/\e.f=f
 | [],_,_,h=>by cases h
 | x::r,e,ha,h=>by
   simp only [yT] at h;cases hb:il' x.f f with
   | true=>rw [hb] at h; cases h; exact ⟨ha.1,ii' hb⟩
   | false=>rw [hb] at h; exact EQ ha.2 h
theorem vM {es:List (jZ I)}(h:BK P es):∀ d,iT P (wQ es d)
 | 0=>⟨λ_ _ _ _ _ _=>rfl,λ_ _ _ _ _ h=>by cases h⟩
 | d+1=>by
   refine ⟨λρ f O nb ps k=>?_,λf O nb ps e he=>?_⟩
   ·simp only [wQ];cases hf:yT f es with
    | none=>rfl
    | some e=>exact (EQ h hf).1.par _ _ _ _ _ _
   ·simp only [wQ] at he;split at he
    ·rename_i x hx;obtain ⟨h1,h2⟩:=EQ h hx;rw [<- h2];exact h1.ok _ (vM h d) O nb ps e he
    ·cases he
theorem ve (ht:aV P tb):∀ {ks:List Kd} {q:fA I ks} {vs:List Value},kW σ ks q vs->ah X c σ (jW tb ks q) vs
 | [],_,_,h=>by simpa only [jW,ah,kW] using h
 | k::ks,q,_,⟨v,r,e,h1,h2⟩=>by simp only [jW,ah];exact ⟨v,r,e,sJ ht h1,ve ht h2⟩
omit [∀ E,Rp (I E)] in
theorem MB:∀ {vs:List V} {ps:List (PV I)} {x},fM tb O vs ps=some x->ps.length=vs.length
 | [],[],_,_=>rfl
 | [_],[_],_,_=>rfl
 | _::v'::vs,p::ps,_,h=>by obtain ⟨y,hy,h⟩:=bind_some h;obtain ⟨z,hz,h⟩:=bind_some h;have:=MB (vs:=v'::vs) hz;simp [this]
 | [],_::_,_,h=>by simp [fM] at h
 | [_],[],_,h=>by simp [fM] at h
 | [_],_::_::_,_,h=>by simp [fM] at h
 | _::_::_,[],_,h=>by simp [fM] at h
theorem YD (ht:aV P tb){aj:dn I}(hd:iT P aj)(hX:X.P=P)(h:Rel X c σ s n F){gr:List Nat}{Oc:ay I}(kP:∀ l o,Oc l=some (some o)->eP [] (bF gr s.O) l=some (some o)){M:Nat->Prop}
 (hM:∀ b,M b->σ.N<=b\/∃ l∈gr,aQ s l/\∃ p,c l=some p/\p.w=some b) {nb:Nat} {f:FuncId} {ls:List (PV I)} {cs:List Value} (hl:ah X c σ ls cs) {ks:List Kd} {rs:List V} (hbody:jq P f):DI P M σ f [] cs ks rs (D6 tb aj Oc nb f ls ks rs):=by
 refine ⟨hbody,rfl,λτ hτ q vs r hq hr=>?_⟩;unfold D6 at hr;rw [KQ,hd.par] at hr;obtain ⟨e,he,hr⟩:=bind_some hr;have mY:∀ b,M b->X.M b:=λb hb=>by
  rcases hM b hb with hb | ⟨l,_,hlv,p,hc,hw⟩
  ·exact .inl (iz' h.base.1 hb)
  ·exact h.mine l p b hlv hc hw
 have h1:Rel X c σ ⟨s.n,s.F,bF gr s.O,s.nx⟩ n F:=h.less (λl o ho=>(eY ho).2) (λl ho=>ou.1 ho);have hi1:∀ g,M g->bQ c σ (⟨s.n,s.F,bF gr s.O,s.nx⟩:St I) g:=λg hg=>by
  rcases hM g hg with hb | ⟨l',hl',hlv,p',hc',hw'⟩
  ·exact (h.fresh hb).sub λl E E' u xs q e=>(eY e).2
  ·exact (h.owned hlv hc' hw').sub λl E E' u xs q e=>(eY e).2
 have h2:Rel X c τ ⟨s.n,s.F,bF gr s.O,s.nx⟩ n F:=h1.stepG hτ mY (hi:=hi1) λl p g ⟨o,ho⟩ hc hw hm=>by
  obtain ⟨k1,k2⟩:=eY ho;have hlt:=(h.aL l o k2).lt hc hw;rcases hM g hm with hb | ⟨l',hl',hlv,p',hc',hw'⟩
  ·have:σ.N<=g:=hb;omega
  ·exact k1 (by rw [h.inj l l' p p' g ⟨o,k2⟩ hlv hc hc' hw hw']; exact hl')
 have h3:=enter h2 [];have hlτ:ah X c τ ls cs:=ah.step (hτ.mono λb _ hb=>mY b hb) _ _ hl;have dL':ah (bU X c τ ⟨s.n,s.F,bF gr s.O,s.nx⟩ []) (bA [] c) τ ls cs:=ah.conv (X:=X) (X':=bU X c τ ⟨s.n,s.F,bF gr s.O,s.nx⟩ []) (c:=c) rfl (nQ h2 []) (λl p hp=>⟨none,by simp [bA,bg,hp]⟩) _ _ hlτ
 have hnil:e.upd=[]/\e.new=[]/\∃ ps,D7 rs e.p=some ps/\∃ x,fM tb (λ_=>none) rs ps=some x/\x.2.1=[]/\x.2.2=[]/\x.1=r:=by unfold NC at hr;obtain ⟨hb,hr⟩:=aK hr;simp only [ik'] at hb;obtain ⟨ps,hps,hr⟩:=bind_some hr;obtain ⟨x,hx,hr⟩:=bind_some hr;obtain ⟨hb2,hr⟩:=aK hr;simp only [ik'] at hb2;cases hr;exact ⟨mI hb.1,mI hb.2,ps,hps,x,hx,mI hb2.1,mI hb2.2,rfl⟩
 obtain ⟨n1,n2,ps,hps,x,hx,x1,x2,Qj⟩:=hnil;have hc:=hd.ok _ _ _ _ _ he (bU X c τ ⟨s.n,s.F,bF gr s.O,s.nx⟩ []) (bA [] c) τ (jk [] ⟨s.n,s.F,bF gr s.O,s.nx⟩) n F (vs++cs) hX kP h3 (ah.app _ _ _ _ (ve ht hq) dL') (by rw [n2]; rfl)
 rw [<- jx' vs] at hc;refine iB.mono hc rfl λv υ hst ⟨c',_,hrel,hv⟩=>⟨υ,rfl,hst.mono λb hb hm=>?_,?_⟩
 ·rcases hm with hm | ⟨_,hm,_⟩
  ·have:τ.N<=b:=hm;omega
  ·cases hm
 ·have hlen:=MB hx;have hws:∃ ws,v=gB ws/\ah (bU X c τ ⟨s.n,s.F,bF gr s.O,s.nx⟩ []) c' υ ps ws:=by
   unfold D7 at hps;split at hps
   ·cases hps;exact ⟨[v],rfl,by simp only [ah]; exact ⟨v,[],rfl,hv,rfl⟩⟩
   ·rename_i hne;split at hps
    ·rename_i ls' e';cases hps;rw [e'] at hv;simp only [RV] at hv;obtain ⟨ws,rfl,hws⟩:=hv;refine ⟨ws,?_,hws⟩;have hl2:=ah.len _ _ hws;cases ws with
     | nil=>rfl
     | cons a r =>
       cases r with
       | nil =>
         exfalso;cases rs with
         | nil=>simp at hl2; rw [<- hl2] at hlen; simp at hlen
         | cons a' r' =>
           cases r' with
           | nil=>exact hne a' rfl
           | cons=>simp at hl2 hlen; omega
       | cons=>rfl
    ·cases hps
  obtain ⟨ws,hw1,hw2⟩:=hws;obtain ⟨x0,xl,xr⟩:=x;simp only at x1 x2 Qj;subst x1;subst x2;subst Qj;obtain ⟨af,t1,t2⟩:=wF ht eX.none_ Rows.none_ hx (λ_ h=>h) (λ_ h=>by cases h) hw2
  have:af=[]:=t2;subst this;exact ⟨ws,hw1,t1⟩
omit [∀ E,Rp (I E)] in
theorem aH' {ks ks':List Kd}{rs rs':List V}{g:nT I ks' (dz I rs')}{g':nT I ks (dz I rs)}(h:FW ks rs ks' rs' g=some g'):∃ (e1:ks'=ks) (e2:rs'=rs),g'=e1▸e2▸g:=by
 unfold FW at h;split at h
 ·rename_i e; cases h; exact ⟨e.1,e.2,rfl⟩
 ·cases h
def lW:List Pk->List (TypeId×V)
 | []=>[]
 | .var T v true::r=>(T,v)::lW r
 | _::r=>lW r
theorem oz:∀ (iU:List Pk),(lW iU).map (·.2)=aR iU
 | []=>rfl
 | .var T v true::r=>by simp [lW,aR,oz r]
 | .var T v false::r=>oz r
 | .d _::r=>oz r
 | .row _ _::r=>oz r
 | .fn _ _::r=>oz r
 | .gW _::r=>oz r
 | .val _::r=>oz r
 | .iC _::r=>oz r
omit [∀ E,Rp (I E)] in
theorem BZ {O:ay I}{l:Nat}{E:TypeId}{xs:List (I E)}:∀ {ls:List Nat} {O1:ay I},(∃ fl,O l=some (some (.row E xs fl)))->(∃ fl,O1 l=some (some (.row E xs fl)))->∃ fl,bC O1 (aT O ls) l=some (some (.row E xs fl))
 | [],_,_,h=>h
 | a::r,O1,h0,h=>by
   simp only [aT];split
   ·rename_i E' xs' e;simp only [bC];refine BZ h0 ?_;by_cases el:l=a
    ·subst el;obtain ⟨fl,h0⟩:=h0;rw [h0] at e;cases e;exact ⟨true,dS _ _ _⟩
    ·rw [bW el]; exact h
   ·exact BZ h0 h
theorem Sc (h:Rel X c σ s n F)(nY:∀ l E (xs:List (I E)) fl,O l=some (some (.row E xs fl))->∃ gV,s.O l=some (some (.row E xs gV)))(nZ:∀ l E (xs:List (I E)),O l=some (some (.bo E xs))->s.O l=some (some (.bo E xs)))
 {LS:List Nat} (hS:eX X c σ O LS) {gr:List Nat} {M:Nat->Prop} (hM:∀ b,M b->σ.N<=b\/∃ l∈gr,aQ s l/\∃ p,c l=some p/\p.w=some b) {E:TypeId} {p:PV I} {x:List (I E)} {rv:List Nat} (hx:D9 O E p=some (x,rv)) (eu:∀ l∈rv,l ∉ gr) {v:Value} (hv:RV X c σ p v) :
 ∃ A k,v=.slice A x.length k/\gu M σ x A:=by
 have mY:∀ b,M b->X.M b:=λb hb=>by
  rcases hM b hb with hb | ⟨l,_,hlv,p,hc,hw⟩
  ·exact .inl (iz' h.base.1 hb)
  ·exact h.mine l p b hlv hc hw
 unfold D9 at hx;split at hx
 ·rename_i l;simp only [RV] at hv;obtain ⟨p,hp,rfl⟩:=hv;split at hx
  ·rename_i E' xs fl ho;obtain ⟨ys,hys,hx⟩:=bind_some hx;cases hx;obtain ⟨e,rfl⟩:=iM hys;subst e;obtain ⟨gV,hs⟩:=nY l _ _ _ ho;obtain ⟨A,k,ow,k1,k2⟩:=h.aL l _ hs;rw [k1] at hp;cases hp;refine ⟨A,k,rfl,gu.Py k2 λg hg hm=>?_⟩;have hlt:=(h.aL l _ hs).lt k1 (g:=g) hg;rcases hM g hm with hb | ⟨l',hl',hlv,p',hc',hw'⟩
   ·have hb':σ.w.heap.size<=g:=hb;have:g<σ.w.heap.size:=hlt;omega
   ·have e:=h.inj l l' _ p' g ⟨_,hs⟩ hlv k1 hc' hg hw';exact eu l (by simp) (by rw [e]; exact hl')
  ·rename_i E' xs ho;obtain ⟨ys,hys,hx⟩:=bind_some hx;cases hx;obtain ⟨e,rfl⟩:=iM hys;subst e;obtain ⟨A,k,k1,k2⟩:=hS.2.1 l _ _ ho;rw [k1] at hp;cases hp;exact ⟨A,k,rfl,gu.Cy k2⟩
  ·rename_i E' xs ho;obtain ⟨ys,hys,hx⟩:=bind_some hx;cases hx;obtain ⟨e,rfl⟩:=iM hys;subst e;obtain ⟨A,k,k1,k2⟩:=h.aL l _ (nZ l _ _ ho);rw [k1] at hp;cases hp;exact ⟨A,k,rfl,k2.sub λb _=>mY b⟩
  ·cases hx
 ·obtain ⟨ys,hys,hx⟩:=bind_some hx;cases hx;obtain ⟨e,rfl⟩:=iM hys;subst e;simp only [RV] at hv;obtain ⟨A,k,e1,e2,_⟩:=hv;exact ⟨A,k,e1,gu.Cy e2⟩
 ·cases hx;simp only [RV] at hv;obtain ⟨A,rfl⟩:=hv;exact ⟨A,0,rfl,[],rfl,λhn=>absurd rfl hn⟩
 ·cases hx
theorem M7 (ht:aV P tb)(h:Rel X c σ s n F)(jA:∀ l T kd m,(O l=some (some (.map T kd m))->s.O l=some (some (.map T kd m)))/\(O l=some (some (.dO T kd m))->s.O l=some (some (.dO T kd m))))
 {LS:List Nat} (hS:eX X c σ O LS) {gr:List Nat} {M:Nat->Prop} (hM:∀ b,M b->σ.N<=b\/∃ l∈gr,aQ s l/\∃ p,c l=some p/\p.w=some b) {k:K} {p:PV I} {x:iq I k} {ls rv:List Nat} (hx:Ak tb O k p=some (x,ls,rv)) (hl:∀ l∈ls,l∈LS) (eu:∀ l∈rv,l ∉ gr) {v:Value} (hv:RV X c σ p v) :
 ∃ af,LK M σ k x v af/\At c (iC' (mQ k) none) af:=by
 have mY:∀ b,M b->X.M b:=λb hb=>by
  rcases hM b hb with hb | ⟨l,_,hlv,p,hc,hw⟩
  ·exact .inl (iz' h.base.1 hb)
  ·exact h.mine l p b hlv hc hw
 unfold Ak at hx;split at hx
 ·obtain ⟨y,hy,hx⟩:=bind_some hx;cases hx;exact ⟨[],⟨qb ht hS hy hl hv,rfl⟩,rfl⟩
 ·rename_i T kd l;simp only [RV] at hv;obtain ⟨b,w,hc,rfl⟩:=hv;split at hx
  ·rename_i T' kd' m ho;obtain ⟨ys,hys,hx⟩:=bind_some hx;cases hx;obtain ⟨e,_,rfl⟩:=oI hys;subst e;have hs:=(jA l _ _ _).1 ho;obtain ⟨b',k1,k2⟩:=h.aL l _ hs;rw [k1] at hc;cases hc;refine ⟨[⟨some ⟨b,0,none⟩,0,0,none⟩],⟨b,rfl,rfl,k2,λhm=>?_⟩,⟨_,[],rfl,rfl,rfl⟩⟩;rcases hM b hm with hb | ⟨l',hl',hlv,p',hc',hw'⟩
   ·have hb':σ.w.heap.size<=b:=hb;have:=k2.lt;have:b<σ.w.heap.size:=this;omega
   ·have e:=h.inj l l' _ p' b ⟨_,hs⟩ hlv k1 hc' rfl hw';exact eu l (by simp) (by rw [e]; exact hl')
  ·rename_i T' kd' m ho;obtain ⟨ys,hys,hx⟩:=bind_some hx;cases hx;obtain ⟨e,_,rfl⟩:=oI hys;subst e;obtain ⟨b',k1,k2,k3⟩:=h.aL l _ ((jA l _ _ _).2 ho);rw [k1] at hc;cases hc;exact ⟨[⟨some ⟨b,0,none⟩,0,0,none⟩],⟨b,rfl,rfl,k2,λhm=>k3 (mY b hm)⟩,⟨_,[],rfl,rfl,rfl⟩⟩
  ·cases hx
 ·cases hx
theorem Lc (ht:aV P tb)(h:Rel X c σ s n F)(jA:∀ l T kd m,(O l=some (some (.map T kd m))->s.O l=some (some (.map T kd m)))/\(O l=some (some (.dO T kd m))->s.O l=some (some (.dO T kd m))))
 {LS:List Nat} (hS:eX X c σ O LS) {gr:List Nat} {M:Nat->Prop} (hM:∀ b,M b->σ.N<=b\/∃ l∈gr,aQ s l/\∃ p,c l=some p/\p.w=some b):∀ {ks:List K} {ps:List (PV I)} {x:fV I ks} {ls rv:List Nat},sQ tb O ks ps=some (x,ls,rv)->(∀ l∈ls,l∈LS)->(∀ l∈rv,l ∉ gr)->∀ {vs:List Value},ah X c σ ps vs ->
 ∃ af,qh M σ ks x vs af/\At c (iC' (jE ks) none) af
 | [],[],_,_,_,hx,_,_,vs,hv=>by cases hx;simp only [ah] at hv;exact ⟨[],⟨hv,rfl⟩,rfl⟩
 | [k],[p],x,ls,rv,hx,hl,hr,vs,hv=>by simp only [ah] at hv;obtain ⟨v,r,rfl,h1,rfl⟩:=hv;obtain ⟨af,h2,h3⟩:=M7 ht h jA hS hM hx hl hr h1;exact ⟨af,⟨v,rfl,h2⟩,h3⟩
 | k::k'::ks,p::ps,x,ls,rv,hx,hl,hr,vs,hv=>by
   obtain ⟨y,hy,hx⟩:=bind_some hx;obtain ⟨z,hz,hx⟩:=bind_some hx;cases hx;simp only [ah] at hv;obtain ⟨v,r,rfl,h1,h2⟩:=hv;obtain ⟨p1,a1,a2⟩:=M7 ht h jA hS hM (ls:=y.2.1) (rv:=y.2.2) hy (λl hm=>hl l (by simp [hm])) (λl hm=>hr l (by simp [hm])) h1
   obtain ⟨p2,b1,b2⟩:=Lc ht h jA hS hM (ls:=z.2.1) (rv:=z.2.2) hz (λl hm=>hl l (by simp [hm])) (λl hm=>hr l (by simp [hm])) h2
   refine ⟨p1++p2,⟨v,r,p1,p2,rfl,rfl,a1,b1⟩,?_⟩;show At c (iC' (mQ k+jE (k'::ks)) none) (p1++p2);rw [<- List.replicate_append_replicate];exact a2.app b2
 | [],_::_,_,_,_,hx,_,_,_,_=>by simp [sQ] at hx
 | [_],[],_,_,_,hx,_,_,_,_=>by simp [sQ] at hx
 | [_],_::_::_,_,_,_,hx,_,_,_,_=>by simp [sQ] at hx
 | _::_::_,[],_,_,_,hx,_,_,_,_=>by simp [sQ] at hx
theorem ZP (ht:aV P tb)(h:Rel X c σ s n F)(jA:∀ l T kd m,(O l=some (some (.map T kd m))->s.O l=some (some (.map T kd m)))/\(O l=some (some (.dO T kd m))->s.O l=some (some (.dO T kd m))))
 {LS:List Nat} (hS:eX X c σ O LS) {gr:List Nat} {M:Nat->Prop} (hM:∀ b,M b->σ.N<=b\/∃ l∈gr,aQ s l/\∃ p,c l=some p/\p.w=some b) {ks:List K} {p:PV I} {x:fV I ks} {ls rv:List Nat} (hx:DJ tb O ks p=some (x,ls,rv)) (hl:∀ l∈ls,l∈LS) (hr:∀ l∈rv,l ∉ gr) {v:Value} (hv:RV X c σ p v) :
 ∃ af,qM ks=true/\∃ cs,v=.agg cs.toArray/\qh M σ ks x cs af/\At c (iC' (jE ks) none) af:=by
 unfold DJ at hx;split at hx
 ·obtain ⟨hnd,hx⟩:=aK hx;obtain ⟨ls',hls,hx⟩:=bind_some hx;simp only [RV] at hv;obtain ⟨cs,rfl,hcs⟩:=hv;obtain ⟨af,h1,h2⟩:=Lc ht h jA hS hM hx hl hr (y9 ht hls hcs);exact ⟨af,hnd,cs,rfl,h1,h2⟩
 ·cases hx
def nV (c:Cx)(O:ay I):List (Nat×TypeId×V)->List Nat->Prop
 | [],bs=>bs=[]
 | x::r,bs=>∃ b bs' ls,bs=b::bs'/\O x.1=some (some (.var x.2.1 ls true))/\c x.1=some ⟨some ⟨b,0,none⟩,0,0,some b⟩/\nV c O r bs'
theorem oQ (ht:aV P tb){aj:dn I}(hd:iT P aj)(hX:X.P=P)(h:Rel X c σ s n F)(nY:∀ l E (xs:List (I E)) fl,O l=some (some (.row E xs fl))->∃ gV,s.O l=some (some (.row E xs gV)))(nZ:∀ l E (xs:List (I E)),O l=some (some (.bo E xs))->s.O l=some (some (.bo E xs)))(jA:∀ l T kd m,(O l=some (some (.map T kd m))->s.O l=some (some (.map T kd m)))/\(O l=some (some (.dO T kd m))->s.O l=some (some (.dO T kd m))))(hO:∀ l T ls w,O l=some (some (.var T ls w))->s.O l=some (some (.var T ls w))){LS:List Nat}(hS:eX X c σ O LS)(hR:Rows X c σ O LS){gr:List Nat}{Oc:ay I}
 (kP:∀ l o,Oc l=some (some o)->eP [] (bF gr s.O) l=some (some o)) {M:Nat->Prop} (hM:∀ b,M b->σ.N<=b\/∃ l∈gr,aQ s l/\∃ p,c l=some p/\p.w=some b) {nb:Nat} :
 ∀ {iU:List Pk} {ps:List (PV I)} {a:eU I iU} {acc:CW} {vs:List Value},mV tb aj O Oc nb iU ps=some (a,acc)->ah X c σ ps vs->(∀ l∈acc.pub,l∈LS)->(∀ l,some l∈acc.all->l ∉ LS)->(∀ l∈acc.rv,l ∉ gr) ->
  ∃ af,lK P M σ iU a vs af/\At c acc.all af/\nV c O acc.gv (dK iU vs)/\(∀ l,some l∈acc.all->(∃ o:Ob I,O l=some (some o)/\oD o=true)\/∃ T v,(l,T,v)∈acc.gv)/\(∀ x∈acc.gv,some x.1∈acc.all)/\acc.gv.map (λx=>x.2)=lW iU
 | [],[],a,acc,vs,e,hv,_,_,_=>by cases e;simp only [ah] at hv;subst hv;exact ⟨[],⟨rfl,rfl⟩,rfl,rfl,(λl hl=>by cases hl),(λl hl=>by cases hl),rfl⟩
 | .d k::r,p::ps,_,_,vs,e,hv,h1,h2,h3=>by
   obtain ⟨x,hx,e⟩:=bind_some e;obtain ⟨y,hy,e⟩:=bind_some e;cases e;simp only [ah] at hv;obtain ⟨v,vs',rfl,hv1,hv2⟩:=hv;obtain ⟨af,k1,k2,k3,k4,k5,k6⟩:=oQ ht hd hX h nY nZ jA hO hS hR kP hM (a:=y.1) (acc:=y.2) hy hv2 (λl hl=>h1 l (by simp [hl])) h2 h3
   have hd1:=qb ht hS (ls:=x.2) hx (λl hl=>h1 l (by simp [hl])) hv1
   refine ⟨af,⟨v,vs',[],af,rfl,rfl,⟨hd1,rfl⟩,k1⟩,k2,?_,k4,k5,k6⟩;have:dK (.d k::r) (v::vs')=dK r vs':=by cases v<;>rfl
   rw [this]; exact k3
 | .row E fl::r,p::ps,_,_,vs,e,hv,h1,h2,h3=>by
   obtain ⟨x,hx,e⟩:=bind_some e;obtain ⟨y,hy,e⟩:=bind_some e;cases e;simp only [ah] at hv;obtain ⟨v,vs',rfl,hv1,hv2⟩:=hv;obtain ⟨af,k1,k2,k3,k4,k5,k6⟩:=oQ ht hd hX h nY nZ jA hO hS hR kP hM (a:=y.1) (acc:=y.2) hy hv2 (λl hl=>h1 l (by simp [hl])) (λl hl=>h2 l (by simp [hl])) h3
   obtain ⟨p1,t1,t2⟩:=xC ht hS hR (ls:=x.2.1) (rows:=x.2.2) hx (λl hl=>h1 l (by simp [hl])) (λl hl=>h2 l (by simp [hl])) hv1
   have hl1:=AU (ls:=x.2.1) (rows:=x.2.2) hx;obtain ⟨A,k,ow,e1,e2,e3⟩:=t1;refine ⟨p1++af,⟨v,vs',p1,af,rfl,rfl,⟨A,k,ow,e1,e3,e2⟩,k1⟩,t2.app k2,?_,λl hl=>?_,λz hz=>by simp [k5 z hz],k6⟩
   ·have:dK (.row E fl::r) (v::vs')=dK r vs':=by cases v<;>rfl
    rw [this]; exact k3
   ·rcases iw'.1 hl with hl | hl
    ·exact .inl (hl1 l hl)
    ·exact k4 l hl
 | .val vk::r,p::ps,_,_,vs,e,hv,h1,h2,h3=>by
   obtain ⟨x,hx,e⟩:=bind_some e;obtain ⟨y,hy,e⟩:=bind_some e;cases e;simp only [ah] at hv;obtain ⟨v,vs',rfl,hv1,hv2⟩:=hv;obtain ⟨af,k1,k2,k3,k4,k5,k6⟩:=oQ ht hd hX h nY nZ jA hO hS hR kP hM (a:=y.1) (acc:=y.2) hy hv2 (λl hl=>h1 l (by simp [hl])) (λl hl=>h2 l (by simp [hl])) h3
   obtain ⟨p1,t1,t2⟩:=xU ht hS hR (ls:=x.2.1) (rows:=x.2.2) hx (λl hl=>h1 l (by simp [hl])) (λl hl=>h2 l (by simp [hl])) hv1
   have hl1:=Bj (ls:=x.2.1) (rows:=x.2.2) hx;refine ⟨p1++af,⟨v,vs',p1,af,rfl,rfl,t1,k1⟩,t2.app k2,?_,λl hl=>?_,λz hz=>by simp [k5 z hz],k6⟩
   ·have:dK (.val vk::r) (v::vs')=dK r vs':=by cases v<;>rfl
    rw [this]; exact k3
   ·rcases iw'.1 hl with hl | hl
    ·exact .inl (hl1 l hl)
    ·exact k4 l hl
 | .gW E::r,p::ps,_,_,vs,e,hv,h1,h2,h3=>by
   obtain ⟨x,hx,e⟩:=bind_some e;obtain ⟨y,hy,e⟩:=bind_some e;cases e;simp only [ah] at hv;obtain ⟨v,vs',rfl,hv1,hv2⟩:=hv;obtain ⟨af,k1,k2,k3,k4,k5,k6⟩:=oQ ht hd hX h nY nZ jA hO hS hR kP hM (a:=y.1) (acc:=y.2) hy hv2 h1 (λl hl=>h2 l (by simp [hl])) (λl hl=>h3 l (by simp [hl]))
   obtain ⟨A,k,e1,e2⟩:=Sc h nY nZ hS hM (x:=x.1) (rv:=x.2) hx (λl hl=>h3 l (by simp [hl])) hv1
   refine ⟨⟨A,k,List.length x.1,none⟩::af,⟨v,vs',[_],af,rfl,rfl,⟨A,k,e1,e2,rfl⟩,k1⟩,⟨_,_,rfl,rfl,k2⟩,?_,λl hl=>?_,λz hz=>by simp [k5 z hz],k6⟩
   ·have:dK (.gW E::r) (v::vs')=dK r vs':=by cases v<;>rfl
    rw [this]; exact k3
   ·rcases ir'.1 hl with hl | hl
    ·cases hl
    ·exact k4 l hl
 | .iC ks::r,p::ps,_,_,vs,e,hv,h1,h2,h3=>by
   obtain ⟨x,hx,e⟩:=bind_some e;obtain ⟨y,hy,e⟩:=bind_some e;cases e;simp only [ah] at hv;obtain ⟨v,vs',rfl,hv1,hv2⟩:=hv;obtain ⟨af,k1,k2,k3,k4,k5,k6⟩:=oQ ht hd hX h nY nZ jA hO hS hR kP hM (a:=y.1) (acc:=y.2) hy hv2 (λl hl=>h1 l (by simp [hl])) (λl hl=>h2 l (by simp [hl])) (λl hl=>h3 l (by simp [hl]))
   obtain ⟨p1,e0,cs,e1,e2,e3⟩:=ZP ht h jA hS hM (x:=x.1) (ls:=x.2.1) (rv:=x.2.2) hx (λl hl=>h1 l (by simp [hl])) (λl hl=>h3 l (by simp [hl])) hv1
   refine ⟨p1++af,⟨v,vs',p1,af,rfl,rfl,⟨e0,cs,e1,e2⟩,k1⟩,e3.app k2,?_,λl hl=>?_,λz hz=>by simp [k5 z hz],k6⟩
   ·have:dK (.iC ks::r) (v::vs')=dK r vs':=by cases v<;>rfl
    rw [this]; exact k3
   ·rcases iw'.1 hl with hl | hl
    ·have:=List.eq_of_mem_replicate hl;cases this
    ·exact k4 l hl
 | .fn ks rs::r,p::ps,_,_,vs,e,hv,h1,h2,h3=>by
   obtain ⟨y,hy,e⟩:=bind_some e;simp only [ah] at hv;obtain ⟨v,vs',rfl,hv1,hv2⟩:=hv;have hb:dK (.fn ks rs::r) (v::vs')=dK r vs':=by cases v<;>rfl
   split at e
   ·rename_i ks' rs' g;obtain ⟨g',hg',e⟩:=bind_some e;cases e;obtain ⟨e1,e2,e3⟩:=aH' hg';subst e1;subst e2;subst e3;obtain ⟨af,k1,k2,k3,k4,k5,k6⟩:=oQ ht hd hX h nY nZ jA hO hS hR kP hM (a:=y.1) (acc:=y.2) hy hv2 h1 h2 h3;simp only [RV] at hv1;obtain ⟨f,as',cs,e4,hf⟩:=hv1;refine ⟨af,⟨v,vs',[],af,rfl,rfl,⟨f,as',cs,e4,⟨by rw [<- hX]; exact hf.1,hf.2.1,λτ hτ=>?_⟩,rfl⟩,k1⟩,k2,by rw [hb]; exact k3,k4,k5,k6⟩
    rw [hX] at hf;exact hf.2.2 τ (hτ.mono λb _ hb=>by
     rcases hM b hb with hb | ⟨l,_,hlv,p,hc,hw⟩
     ·exact .inl (iz' h.base.1 hb)
     ·exact h.mine l p b hlv hc hw)
   ·rename_i f0 Qk hh0;replace e:=aK e;obtain ⟨hfb,e⟩:=e;cases e;obtain ⟨af,k1,k2,k3,k4,k5,k6⟩:=oQ ht hd hX h nY nZ jA hO hS hR kP hM (a:=y.1) (acc:=y.2) hy hv2 h1 h2 h3;simp only [RV] at hv1;obtain ⟨cs,e4,hls⟩:=hv1;exact ⟨af,⟨v,vs',[],af,rfl,rfl,⟨_,[],cs,e4,YD ht hd hX h kP hM hls (ht.fb _ hfb),rfl⟩,k1⟩,k2,by rw [hb]; exact k3,k4,k5,k6⟩
   ·cases e
 | .var T vk w::r,p::ps,_,_,vs,e,hv,h1,h2,h3=>by
   obtain ⟨x,hx,e⟩:=bind_some e;obtain ⟨y,hy,e⟩:=bind_some e;cases e;simp only [ah] at hv;obtain ⟨v,vs',rfl,hv1,hv2⟩:=hv;obtain ⟨af,k1,k2,k3,k4,k5,k6⟩:=oQ ht hd hX h nY nZ jA hO hS hR kP hM (a:=y.1) (acc:=y.2) hy hv2 (λl hl=>h1 l (by simp [hl])) (λl hl=>h2 l (by simp [hl])) (λl hl=>h3 l (by simp [hl]))
   unfold LP at hx;split at hx
   ·rename_i l;split at hx
    ·rename_i T' ls w' ho;replace hx:=aK hx;obtain ⟨hT,hx⟩:=hx;simp only [ik'] at hT;have eT:=ii' hT.1;subst eT;have hww:=hT.2;replace hx:=bind_some hx;obtain ⟨q,hq,hx⟩:=hx;replace hx:=bind_some hx;obtain ⟨z,hz,hx⟩:=hx;have hs:=hO _ _ _ _ ho;obtain ⟨b,cs,o1,o2,o3,o4,o5⟩:=h.aL l _ hs;simp only [RV] at hv1;obtain ⟨b',w2,c1,rfl⟩:=hv1;rw [o1] at c1;cases c1;obtain ⟨u,hu,Ql⟩:=JZ hq o2;cases w with
     | true =>
       have hw':w'=true:=by cases w'<;>simp at hww ⊢
       subst hw';cases hx;obtain ⟨pr,t1,t2⟩:=xU ht hS hR (ls:=z.2.1) (rows:=z.2.2) hz (λl hl=>h1 l (by simp [hl])) (λl hl=>h2 l (by simp [hl])) hu
       have hl1:=Bj (ls:=z.2.1) (rows:=z.2.2) hz;refine ⟨(⟨some ⟨b,0,none⟩,0,0,some b⟩::pr)++af,⟨_,vs',_,af,rfl,rfl,⟨b,cs,u,pr,rfl,o3,Ql,t1,(λ_=>o4 rfl),(λe=>by cases e),rfl⟩,k1⟩,?_,?_,λl' hl=>?_,λg hg=>?_,?_⟩
       ·refine At.app (r1:=some l::z.2.2) ?_ k2;exact ⟨_,pr,rfl,o1,t2⟩
       ·exact ⟨b,_,ls,rfl,ho,o1,k3⟩
       ·simp only [iw',ir',iU'.injEq] at hl;rcases hl with (hl | hl) | hl
        ·subst hl;exact .inr ⟨T,vk,by simp⟩
        ·exact .inl (hl1 l' hl)
        ·rcases k4 l' hl with hl | ⟨T2,v2,hl⟩
         ·exact .inl hl
         ·exact .inr ⟨T2,v2,by simp [hl]⟩
       ·simp only [jK',jx',ir'] at hg;rcases hg with hg | hg
        ·subst hg; simp
        ·simp [k5 g hg]
       ·simp only [jK',jx',iH',lW,k6]
     | false =>
       simp only [cond_false] at hx;replace hx:=aK hx;obtain ⟨hn,hx⟩:=hx;have hn:=mI hn;cases hx;obtain ⟨pr,t1,t2⟩:=xU ht hS hR (ls:=z.2.1) (rows:=z.2.2) hz (λl hl=>h1 l (by simp [hl])) (λl hl=>by rw [hn] at hl; cases hl) hu
       rw [hn] at t2;have:pr=[]:=t2;subst this;have dO':l ∉ gr:=h3 l (by simp)
       refine ⟨(⟨some ⟨b,0,none⟩,0,0,none⟩::[])++af,⟨_,vs',_,af,rfl,rfl,⟨b,cs,u,[],rfl,o3,Ql,t1,(λe=>by cases e),(λ_ rU=>?_),rfl⟩,k1⟩,?_,?_,λl' hl=>?_,λg hg=>?_,?_⟩
       ·have hlt:=gF o3;rcases hM b rU with hb | ⟨l',hl',hlv,p',hc',Qm⟩
        ·have hb':σ.w.heap.size<=b:=hb;omega
        ·cases w' with
         | true=>exact dO' (by rw [h.inj l l' _ p' b ⟨_,hs⟩ hlv o1 hc' rfl Qm]; exact hl')
         | false=>exact o5 rfl (h.mine l' p' b hlv hc' Qm)
       ·refine At.app (r1:=[none]) ?_ k2;exact ⟨_,[],rfl,rfl,rfl⟩
       ·exact k3
       ·simp only [jK',jx',ir'] at hl;rcases hl with hl | hl
        ·cases hl
        ·exact k4 l' hl
       ·simp [k5 g hg]
       ·exact k6
    ·cases hx
   ·cases hx
 | [],_::_,_,_,_,e,_,_,_,_=>by simp [mV] at e
 | _::_,[],_,_,_,e,_,_,_,_=>by simp [mV] at e
omit [∀ E,Rp (I E)] in
theorem yY:∀ {all:List (Option Nat)} {O:ay I} {l:Nat},(∀ l,some l∈all->O l≠none)->bC O (fG all) l=bF (all.filterMap id) O l
 | [],O,l,_=>by simp [fG,bC,bF,bg]
 | none::r,O,l,h=>by
   have:=yY (all:=r) (O:=O) (l:=l) (λl hl=>h l (by simp [hl]))
   simpa [fG] using this
 | some a::r,O,l,h=>by
   simp only [fG,bC];rw [yY (all:=r) (λl' hl'=>by
    by_cases e:l'=a
    ·subst e; rw [dS]; simp
    ·rw [bW e]; exact h l' (by simp [hl']))]
   simp only [bF,iQ',id,bg];by_cases e:l=a
   ·subst e;rw [dS];have ha:=h l (by simp)
    cases ho:O l with
    | none=>exact absurd ho ha
    | some o=>cases bg l (List.filterMap id r)<;>simp
   ·rw [bW e,Sx.beq_false e];rfl
omit [∀ E,Rp (I E)] in
theorem NK {O:ay I}{l:Nat}{o:Option (Ob I)}{os:List (Ob I)}{nb:Nat}(h:l ∉ dL nb os.length):bV (aZ O l o) nb os=aZ (bV O nb os) l o:=by
 funext i;by_cases hi:i∈dL nb os.length
 ·rw [(EW (O':=O) hi).1,bW (λe=>h (by rw [<- e]; exact hi))]
 ·rw [ig hi];by_cases e:i=l
  ·subst e; rw [dS,dS]
  ·rw [bW e,bW e,ig hi]
omit [∀ E,Rp (I E)] in
theorem Bg {O0:ay I}{os:List (Ob I)}{nb:Nat}:∀ {gv:List (Nat×TypeId×V)} {ps:List (PV I)} {O:ay I},(∀ x∈gv,(∃ ls,O0 x.1=some (some (.var x.2.1 ls true)))/\x.1 ∉ dL nb os.length) ->
 bV (bC O (gX gv ps)) nb os=eB O0 (gv.map λx=>(x.1,x.2.2)) (gv.map (·.1)) ps (bV O nb os)
 | [],ps,O,_=>by cases ps<;>rfl
 | x::r,[],O,_=>rfl
 | x::r,p::ps,O,h=>by
   obtain ⟨⟨ls,h1⟩,h2⟩:=h x (by simp)
   simp only [gX,bC,iH',eB,h1];rw [Bg (gv:=r) (λy hy=>h y (by simp [hy])),NK h2]
omit [∀ E,Rp (I E)] in
theorem oM {O0 O:ay I}:∀ {iU:List Pk} {vs us:List Value} {gv:List (Nat×TypeId×V)},xW τ iU vs us->nV c O gv (dK iU vs)->gv.map (λx=>x.2)=lW iU->(∀ x∈gv,∃ ls,O0 x.1=some (some (.var x.2.1 ls true))) ->
 gY τ c O0 (gv.map λx=>(x.1,x.2.2)) (gv.map (·.1)) us
 | [],vs,us,gv,h,_,h3,_=>by
   have hg:gv=[]:=by simpa [lW] using h3
   subst hg;cases vs with
   | nil=>exact h
   | cons=>exact h.elim
 | .d k::r,[],us,gv,h,_,_,_=>h.elim
 | .row _ _::r,[],us,gv,h,_,_,_=>h.elim
 | .fn _ _::r,[],us,gv,h,_,_,_=>h.elim
 | .gW _::r,[],us,gv,h,_,_,_=>h.elim
 | .val _::r,[],us,gv,h,_,_,_=>h.elim
 | .iC _::r,[],us,gv,h,_,_,_=>h.elim
 | .var _ _ false::r,[],us,gv,h,_,_,_=>h.elim
 | .var _ _ true::r,[],us,gv,h,_,_,_=>h.elim
 | .d k::r,v::vs,us,gv,h,h2,h3,h4=>oM (iU:=r) (vs:=vs) h (by have e:dK (.d k::r) (v::vs)=dK r vs:=by cases v<;>rfl
                                                             rw [e] at h2; exact h2) h3 h4
 | .row E f::r,v::vs,us,gv,h,h2,h3,h4=>oM (iU:=r) (vs:=vs) h (by have e:dK (.row E f::r) (v::vs)=dK r vs:=by cases v<;>rfl
                                                                 rw [e] at h2; exact h2) h3 h4
 | .val vk::r,v::vs,us,gv,h,h2,h3,h4=>oM (iU:=r) (vs:=vs) h (by
    have e:dK (.val vk::r) (v::vs)=dK r vs:=by cases v<;>rfl
    rw [e] at h2; exact h2) h3 h4
 | .iC ks::r,v::vs,us,gv,h,h2,h3,h4=>oM (iU:=r) (vs:=vs) h (by have e:dK (.iC ks::r) (v::vs)=dK r vs:=by cases v<;>rfl
                                                               rw [e] at h2; exact h2) h3 h4
 | .gW E::r,v::vs,us,gv,h,h2,h3,h4=>oM (iU:=r) (vs:=vs) h (by have e:dK (.gW E::r) (v::vs)=dK r vs:=by cases v<;>rfl
                                                              rw [e] at h2; exact h2) h3 h4
 | .fn ks rs::r,v::vs,us,gv,h,h2,h3,h4=>oM (iU:=r) (vs:=vs) h (by have e:dK (.fn ks rs::r) (v::vs)=dK r vs:=by cases v<;>rfl
                                                                  rw [e] at h2; exact h2) h3 h4
 | .var T w false::r,v::vs,us,gv,h,h2,h3,h4=>oM (iU:=r) (vs:=vs) h (by have e:dK (.var T w false::r) (v::vs)=dK r vs:=by cases v<;>rfl
                                                                       rw [e] at h2; exact h2) h3 h4
 | .var T w true::r,v::vs,us,gv,h,h2,h3,h4=>by
   obtain ⟨b,cs,u,je,e1,e2,e3,e4,e5,e6⟩:=h;subst e1;subst e2;cases gv with
   | nil=>simp [lW] at h3
   | cons x gv =>
     simp only [iH',lW,List.cons.injEq] at h3;obtain ⟨b',bs',ls,q1,q2,q3,q4⟩:=h2;have hb:dK (.var T w true::r) (Value.pointer (some ⟨b,0,none⟩)::vs)=b::dK r vs:=rfl;rw [hb] at q1;cases q1;obtain ⟨Qk,o1⟩:=h4 x (by simp)
     have ih:=oM (iU:=r) (vs:=vs) (us:=je) (gv:=gv) (O0:=O0) e6 q4 h3.2 (λy hy=>h4 y (by simp [hy]))
     have hT:x.2.1=T:=by rw [h3.1]
     have hV:x.2.2=w:=by rw [h3.1]
     refine ⟨u,je,b,x.2.1,Qk,true,cs,rfl,o1,q3,by rw [hT]; exact e3,e4,?_,ih⟩
     show bif kF x.2.2 then _ else _
     rw [hV]; exact e5
theorem Kw (ht:aV P tb){r:Row I}{C:World->List Value->Prop}{jy:ay I->List (PV I)->Bool}(hr:qO P r C)
 (hC:∀ (X:aY) (c:Cx) (σ:S) (s:St I) (n:Nat) (F:Fr) (O:ay I) (ps:List (PV I)) (vs:List Value),(∀ l o,O l=some (some o)->s.O l=some (some o))->Rel X c σ s n F->jy O ps=true->ah X c σ ps vs->C σ.w vs):qB P (Pf tb r jy):=by
 refine ⟨λaj ρ O nb ps k=>?_,λaj hd O nb ps ef he=>?_⟩
 ·show vX tb r jy aj ρ O nb ps k=(vX tb r jy aj (Ef I) O nb ps some).bind k;unfold vX;cases jy O ps
  ·rfl
  simp only [cond_true];unfold BU;simp only [iS'];refine D5 λa=>?_;cases vL (gL O r.ps ps) a.2
  ·rfl
  ·simp only [cond_true,iS'];rfl
 ·intro X c σ s n F vs hX hO h hvs hfree;have he':vX tb r jy aj (Ef I) O nb ps some=some ef:=he;unfold vX at he';obtain ⟨hck,he'⟩:=aK he';have hCw:=hC X c σ s n F O ps vs hO h hck hvs;unfold BU at he';obtain ⟨a,ha,he'⟩:=bind_some he';obtain ⟨zA,he'⟩:=aK he';obtain ⟨res,hres,he'⟩:=bind_some he';cases he';obtain ⟨a,acc⟩:=a;simp only [vL,ik'] at zA;obtain ⟨⟨q1,q2⟩,q3⟩:=zA;obtain ⟨r1,r2⟩:=tN q1;have hgr:∀ l,some l∈acc.all->l∈gL O r.ps ps:=λl hl=>by have:=(iu'.1 q2) _ hl;exact gM.1 this
  have eu:∀ l∈acc.rv,l ∉ gL O r.ps ps:=λl hl=>by have:=(iu'.1 q3) _ hl;exact jN.1 (by simpa using this)
  obtain ⟨τ1,p1,p2,p3,p4,p5,p6⟩:=h.pubs hO acc.pub;have qC:=ah.step p2 _ _ hvs;have og:∀ {l:Nat},(∀ E (xs:List (I E)),O l≠some (some (.row E xs false)))->(aG s O acc.pub).O l=s.O l:=λ{l} hn=>by
   show bC s.O (aT O acc.pub) l=s.O l;apply kH;intro hm;have hp:∀ {ls:List Nat},l∈eF (aT O ls)->∃ E,∃ xs:List (I E),O l=some (some (.row E xs false)):=by
    intro ls
    induction ls with
    | nil=>intro h; simp [aT,eF] at h
    | cons a r ih =>
      intro h;simp only [aT] at h;split at h
      ·rename_i E xs e;simp only [eF,iH',ir'] at h;rcases h with rfl | h
       ·exact ⟨E,xs,e⟩
       ·exact ih h
      ·exact ih h
   obtain ⟨E,xs,e⟩:=hp hm;exact hn E xs e
  have hOv:∀ l T ls w,O l=some (some (.var T ls w))->(aG s O acc.pub).O l=some (some (.var T ls w)):=λl T ls w ho=>by rw [og (λE xs e=>by rw [ho] at e; cases e)]; exact hO l _ ho
  have kP:∀ l o,eP [] (bF (gL O r.ps ps) O) l=some (some o)->eP [] (bF (gL O r.ps ps) (aG s O acc.pub).O) l=some (some o):=by
   intro l o hl;unfold eP bF at hl ⊢;cases hm:bg l (gL O r.ps ps) with
   | true =>
     rw [hm] at hl;cases hol:O l with
     | none=>rw [hol] at hl; simp [bg] at hl
     | some x=>rw [hol] at hl; simp [bg] at hl
   | false =>
     rw [hm] at hl;simp only [cond_false,bg] at hl ⊢;have hne:∀ E (xs:List (I E)),O l≠some (some (.row E xs false)):=λE xs e=>by rw [e] at hl; simp at hl
     rw [og hne];cases hol:O l with
     | none=>rw [hol] at hl; simp at hl
     | some x =>
       cases x with
       | none=>rw [hol] at hl; simp at hl
       | some o'=>rw [hO l o' hol]; rw [hol] at hl; exact hl
  have hlv:∀ l,some l∈acc.all->(∃ o:Ob I,O l=some (some o)/\oD o=true)\/(∃ T ls,O l=some (some (.var T ls true)))->aQ (aG s O acc.pub) l:=λl hl hx=>by
   rcases hx with ⟨o,ho,_⟩ | ⟨T,ls,ho⟩
   ·exact ⟨_,(p6 l (r2 l hl)).trans (hO l _ ho)⟩
   ·exact ⟨_,hOv l _ _ _ ho⟩
  have core:∀ M:Nat->Prop,(∀ b,M b->τ1.N<=b\/∃ l∈gL O r.ps ps,aQ (aG s O acc.pub) l/\∃ p,c l=some p/\p.w=some b)->_:=λM hM =>
   oQ ht hd hX p3 (λl E xs fl e=>BZ ⟨fl,e⟩ ⟨fl,hO l _ e⟩) (λl E xs e=>(og (λE' xs' e'=>by rw [e] at e'; cases e')).trans (hO l _ e)) (λl T kd m=>⟨λe=>(og (λE' xs' e'=>by rw [e] at e'; cases e')).trans (hO l _ e),λe=>(og (λE' xs' e'=>by rw [e] at e'; cases e')).trans (hO l _ e)⟩) hOv p4 p5 kP hM (nb:=nb) ha qC (λ_ h=>h) r2 eu
  have fP:∀ (af:List Pl),lK P (λb=>τ1.N<=b\/b∈ows af) τ1 r.ps a vs af->At c acc.all af->nV c O acc.gv (dK r.ps vs)->(∀ l,some l∈acc.all->(∃ o:Ob I,O l=some (some o)/\oD o=true)\/∃ T v,(l,T,v)∈acc.gv) ->
   (∀ x∈acc.gv,some x.1∈acc.all)->acc.gv.map (λx=>x.2)=lW r.ps->iB P r.f vs σ (Stp X.M σ) λv τ=>∃ c',Cx.le c c'/\Rel X c' τ (gD s nb ⟨jo ((bR tb nb (r.rs++aR r.ps) res).take r.rs.length),aT O acc.pub++fG acc.all++gX acc.gv ((bR tb nb (r.rs++aR r.ps) res).drop r.rs.length),cO (r.rs++aR r.ps) res⟩) n F /\
     RV X c' τ (jo ((bR tb nb (r.rs++aR r.ps) res).take r.rs.length)) v:=by
   intro af k1 k2 k3 k4 k5 k6;have hgv:∀ x∈acc.gv,∃ ls,O x.1=some (some (.var x.2.1 ls true)):=by
    have:∀ {gv:List (Nat×TypeId×V)} {bs:List Nat},nV c O gv bs->∀ x∈gv,∃ ls,O x.1=some (some (.var x.2.1 ls true)):=by
     intro gv
     induction gv with
     | nil=>intro bs _ x hx; cases hx
     | cons y r ih =>
       intro bs ⟨b,bs',ls,_,e2,_,e4⟩ x hx;rcases ir'.1 hx with rfl | hx
       ·exact ⟨ls,e2⟩
       ·exact ih e4 x hx
    exact this k3
   have hlive:∀ l,some l∈acc.all->aQ (aG s O acc.pub) l:=λl hl=>hlv l hl ((k4 l hl).imp id λ⟨T,v,hm⟩=>by obtain ⟨ls,e⟩:=hgv _ hm;exact ⟨T,ls,e⟩)
   have hnd:(ows af).Nodup:=At.nodup p3 k2 r1 hlive;have hown:∀ g∈ows af,∃ l p,some l∈acc.all/\c l=some p/\p.w=some g:=k2.mem;have rW:∀ g∈ows af,X.M g:=λg hg=>by obtain ⟨l,p,a1,a2,a3⟩:=hown g hg;exact p3.mine l p g (hlive l a1) a2 a3
   refine iB.mono (hr τ1 a vs af res k1 (by rw [p1]; exact hCw) hnd hres) p1.symm λv τ hst ⟨ws,us,dR,hpost⟩=>⟨τ,rfl,p2.trans (hst.mono λb _ hb=>rW b hb),?_⟩
   let kl:=acc.all.filterMap id
   have hkl:∀ l,l∈kl↔some l∈acc.all:=λl=>by simp [kl,kh']
   let s2:St I:=⟨s.n,s.F,bF kl (aG s O acc.pub).O,s.nx⟩
   have h2:Rel X c τ1 s2 n F:=p3.less (λl o ho=>(eY ho).2) (λl ho=>ou.1 ho);have hn2:∀ l p g,aQ s2 l->c l=some p->p.w=some g->¬ g∈ows af:=λl p g ⟨o,ho⟩ hc hw hg=>by obtain ⟨m1,m2⟩:=eY ho;obtain ⟨l',p',a1,a2,a3⟩:=hown g hg;exact m1 ((hkl l).2 (by rw [p3.inj l l' p p' g ⟨o,m2⟩ (hlive l' a1) hc a2 hw a3]; exact a1))
   have hi2:∀ g,g∈ows af->bQ c τ1 s2 g:=λg hg=>by obtain ⟨l',p',a1,a2,a3⟩:=hown g hg;exact (p3.owned (hlive l' a1) a2 a3).sub λl E E' u xs q e=>(eY e).2
   have h3:Rel X c τ s2 n F:=h2.stepG hst rW hn2 hi2;have zB:bC s.O (aT O acc.pub++fG acc.all)=bF kl (aG s O acc.pub).O:=by rw [jT];funext l;exact yY λl hl=>by obtain ⟨o,ho⟩:=hlive l hl; intro e; have:=ho; rw [show (aG s O acc.pub).O l=bC s.O (aT O acc.pub) l from rfl,e] at this; cases this
   have qD:∀ x∈acc.gv,∃ ls,(aG s O acc.pub).O x.1=some (some (.var x.2.1 ls true)):=λx hx=>by obtain ⟨ls,e⟩:=hgv x hx;exact ⟨ls,hOv _ _ _ _ e⟩
   have uD:∀ l∈dL nb (cO (r.rs++aR r.ps) res).length,bF kl (aG s O acc.pub).O l=none/\l ∉ acc.gv.map (·.1):=by
    rw [kK] at hfree;intro l hl;have h0:=hfree l hl;rw [jT,zB] at h0;by_cases hk:l∈eF (gX acc.gv ((bR tb nb (r.rs++aR r.ps) res).drop r.rs.length))
    ·exact absurd h0 (tQ (O':=s.O) hk).2
    ·rw [kH hk] at h0;refine ⟨h0,λhm=>?_⟩;simp only [iT'] at hm;obtain ⟨x,hx,e⟩:=hm;have:=(hkl x.1).2 (k5 x hx);rw [e] at this;have hl2:=hlive l ((hkl l).1 this);obtain ⟨o,ho⟩:=hl2;have:=ou.1 h0;rw [ho] at this; cases this
   have dD:=ql hpost.tt;obtain ⟨h4,h5⟩:=Rel.addN (nb:=nb) h3 (kK.2 λl hl=>(uD l hl).1) dD hpost.nodup λg hg=>by
    have ho:=hpost.own g hg;refine ⟨ho.1.elim (λh=>.inl (iz' p3.base.1 h)) (rW g),(ho.1.elim (λh=>h2.fresh h) (hi2 g)).step h2 hst hn2 hi2,λl p ⟨o,ho'⟩ hc hw=>?_⟩;obtain ⟨m1,m2⟩:=eY ho';rcases ho.1 with hge | hin
    ·have:=(p3.aL l o m2).lt hc hw;have:τ1.w.heap.size<=g:=hge;omega
    ·obtain ⟨l',p',a1,a2,a3⟩:=hown g hin;exact m1 ((hkl l).2 (by rw [p3.inj l l' p p' g ⟨o,m2⟩ (hlive l' a1) hc a2 hw a3]; exact a1))
   obtain ⟨hps,hlen⟩:=uU (X:=X) (c:=cZ c nb dR) (nb:=nb) ht hpost.tt ko;have htk:=ah.take r.rs.length _ _ hps;have hdr:=ah.drop r.rs.length _ _ hps;rw [List.take_left' hpost.len] at htk;rw [List.drop_left' hpost.len] at hdr;have hold:∀ l,(aG s O acc.pub).O l≠none->cZ c nb dR l=c l:=λl hl=>by
    have key:∀ {ps:List Pl} {c:Cx} {nb:Nat},(l<nb\/nb+ps.length<=l)->cZ c nb ps l=c l:=by
     intro ps
     induction ps with
     | nil=>intro c nb _; rfl
     | cons p ps ih =>
       intro c nb h;simp only [cZ];rw [ih (by simp only [iF'] at h; omega)]
       have:l≠nb:=by simp only [iF'] at h; omega
       simp [dw,this]
    apply key;apply Classical.byContradiction;intro hn;rw [not_or] at hn;exact hl (ou.1 (uD l (iQ.2 ⟨by omega,by rw [dD.1]; omega⟩)).1)
   have Ij:∀ {gv:List (Nat×TypeId×V)} {bs:List Nat},nV c O gv bs->∀ x∈gv,∀ p g,c x.1=some p->p.w=some g->g∈bs:=by
    intro gv
    induction gv with
    | nil=>intro bs _ x hx; cases hx
    | cons y r ih =>
      intro bs ⟨b,bs',ls,e1,e2,e3,e4⟩ x hx p g hc hw;subst e1;rcases ir'.1 hx with rfl | hx
      ·rw [e3] at hc; cases hc; cases hw; simp
      ·simp [ih e4 x hx p g hc hw]
   have hat:∀ (i:Nat) (y:Nat×V) (p:PV I),(acc.gv.map λx=>(x.1,x.2.2))[i]?=some y->((bR tb nb (r.rs++aR r.ps) res).drop r.rs.length)[i]?=some p->∃ nb' z,p=jF tb nb' y.2 z:=λi y p hi hp=>by
    refine Bv (tb:=tb) (vs:=r.rs++aR r.ps) (nb:=nb) (x:=res) (i:=r.rs.length+i) (v:=y.2) ?_ (by rw [jj'] at hp; exact hp)
    rw [iv' (by simp),iY',<- oz,<- k6]
    rw [jv'] at hi;simp only [List.map_map,jv'];cases hgi:acc.gv[i]? with
    | none=>rw [hgi] at hi; cases hi
    | some z=>rw [hgi] at hi; cases hi; rfl
   have h6:=Rel.eB (af:=dR) ht p3 h5 (oM hpost.out k3 k6 qD) hdr (λi y p hi hp hag=>by
    obtain ⟨nb',z,e⟩:=hat i y p hi hp;rw [e]; exact Cf hag)
    (λi y p hi hp hag=>by obtain ⟨nb',z,e⟩:=hat i y p hi hp;rw [e]; exact AA hag)
    (λl hl=>hold l (by simp only [iT'] at hl;obtain ⟨x,hx,rfl⟩:=hl;obtain ⟨ls,e⟩:=qD x hx;rw [e]; simp))
    (λl hl p g hc hw=>by simp only [iT'] at hl;obtain ⟨x,hx,rfl⟩:=hl;exact p3.mine x.1 p g (hlive _ (k5 x hx)) hc hw)
    (λl ⟨o,ho⟩=>by
      by_cases hm:l∈dL nb (cO (r.rs++aR r.ps) res).length
      ·right;obtain ⟨a1,a2⟩:=iQ.1 hm;have hlt:l-nb<dR.length:=by rw [<- dD.1]; omega
       refine ⟨dR[l-nb],iL' _,?_⟩;have:=ko (c:=c) (nb:=nb) (l-nb) dR[l-nb] (in' hlt);rw [show nb+(l-nb)=l from by omega] at this
       exact this
      ·left;have ho':bV (bF kl (aG s O acc.pub).O) nb (cO (r.rs++aR r.ps) res) l=some (some o):=ho;rw [ig hm] at ho';obtain ⟨_,m2⟩:=eY ho';exact ⟨⟨o,m2⟩,hold l (by rw [m2]; simp)⟩)
    (λl hl p hc g hw hm=>by simp only [iT'] at hl;obtain ⟨x,hx,rfl⟩:=hl;exact (hpost.own g hm).2 (Ij k3 x hx p g hc hw))
    (λl hl p hc g hw=>by simp only [iT'] at hl;obtain ⟨x,hx,rfl⟩:=hl;obtain ⟨ls,e⟩:=qD x hx;exact (((p3.owned ⟨_,e⟩ hc hw).sub (s':=s2) λl E E' u xs q e=>(eY e).2).step h2 hst hn2 hi2).grow h3 h4 (o6 dD.not))
   refine ⟨_,h4,?_,by rw [hpost.ret]; exact vP htk⟩
   have hO2:bV (bC s.O (aT O acc.pub++fG acc.all++gX acc.gv ((bR tb nb (r.rs++aR r.ps) res).drop r.rs.length))) nb (cO (r.rs++aR r.ps) res) =
    eB (aG s O acc.pub).O (acc.gv.map λx=>(x.1,x.2.2)) (acc.gv.map (·.1)) ((bR tb nb (r.rs++aR r.ps) res).drop r.rs.length) (bV (bF kl (aG s O acc.pub).O) nb (cO (r.rs++aR r.ps) res)):=by
    rw [jT,zB];exact Bg λx hx=>⟨qD x hx,λhm=>(uD x.1 hm).2 (iT'.2 ⟨x,hx,rfl⟩)⟩
   have e:gD s nb ⟨jo ((bR tb nb (r.rs++aR r.ps) res).take r.rs.length),aT O acc.pub++fG acc.all++gX acc.gv ((bR tb nb (r.rs++aR r.ps) res).drop r.rs.length),cO (r.rs++aR r.ps) res⟩ =
    ⟨s.n,s.F,eB (aG s O acc.pub).O (acc.gv.map λx=>(x.1,x.2.2)) (acc.gv.map (·.1)) ((bR tb nb (r.rs++aR r.ps) res).drop r.rs.length) (bV (bF kl (aG s O acc.pub).O) nb (cO (r.rs++aR r.ps) res)),s.nx⟩:=by
    simp only [gD,hO2]
   rw [e];exact h6
  obtain ⟨uE,k1,k2,k3,k4,k5,k6⟩:=core (λ_=>False) (λ_ h=>h.elim);obtain ⟨af,k1',k2',_⟩:=core (λb=>τ1.N<=b\/b∈ows uE) (λb hb=>hb.imp id λhb=>by
   obtain ⟨l,p,a1,a2,a3⟩:=k2.mem b hb;refine ⟨l,hgr l a1,hlv l a1 ((k4 l a1).imp id λ⟨T,v,hm⟩=>?_),p,a2,a3⟩;have:∀ {gv:List (Nat×TypeId×V)} {bs:List Nat},nV c O gv bs->∀ x∈gv,∃ ls,O x.1=some (some (.var x.2.1 ls true)):=by
    intro gv
    induction gv with
    | nil=>intro bs _ x hx; cases hx
    | cons y r ih =>
      intro bs ⟨b,bs',ls,_,e2,_,e4⟩ x hx;rcases ir'.1 hx with rfl | hx
      ·exact ⟨ls,e2⟩
      ·exact ih e4 x hx
   obtain ⟨ls,e⟩:=this k3 _ hm;exact ⟨T,ls,e⟩)
  have hsame:ows af=ows uE:=by
   have:∀ {rows:List (Option Nat)} {p q:List Pl},At c rows p->At c rows q->ows p=ows q:=by
    intro rows
    induction rows with
    | nil=>intro p q h1 h2; cases h1; cases h2; rfl
    | cons x r ih =>
      intro p q ⟨a,ie',e1,g1,h1⟩ ⟨b,bs,e2,g2,h2⟩;subst e1;subst e2;have hr:=ih h1 h2;simp only [ows,iQ'] at hr ⊢;have:a.w=b.w:=by
       cases x with
       | none=>simp only at g1 g2; rw [g1,g2]
       | some l=>simp only at g1 g2; rw [g1] at g2; cases g2; rfl
      rw [this,hr]
   exact this k2' k2
  rw [<- hsame] at k1';exact fP af k1' k2' k3 k4 k5 k6
theorem cT' (ht:aV P tb){r:Row I}(hr:lC P r):qB P (LQ tb r) :=
 Kw (C:=λ_ _=>True) (jy:=λ_ _=>true) ht (λσ a vs af res h _=>hr σ a vs af res h) (λ_ _ _ _ _ _ _ _ _ _ _ _ _=>trivial)
def vo:List (PV I)->List (Option (PV I))->Bool
 | [],[]=>true
 | .ptr a 0::r,some (.ptr b 0)::r'=>il' a b&&vo r r'
 | _,_=>false
def El (T:TypeId)(f:FuncId)(j:Nat)(is:List Nat)(O:ay I)(ps:List (PV I)):Bool:=match ps[j]? with
 | some (.ptr l 0)=>match O l with
   | some (some (.var T' [.lD f' ls] _))=>il' T T'&&(il' f f'&&vo ls (is.map (ps[·]?)))
   | _=>false
 | _=>false
def uP (T:TypeId)(f:FuncId)(j:Nat)(is:List Nat)(w:World)(vs:List Value):Prop :=
 ∃ b ie',vs[j]?=some (.pointer (some ⟨b,0,none⟩))/\w.heap[b]?=some (.cells #[.func (.func f) #[] (je' ie')] T (0,0))/\is.map (vs[·]?)=ie'.map some
theorem Nc:∀ {ls:List (PV I)} {is:List Nat} {ps:List (PV I)} {vs ie':List Value},vo ls (is.map (ps[·]?))=true->ah X c σ ps vs->ah X c σ ls ie'->is.map (vs[·]?)=ie'.map some
 | [],[],_,_,ie',_,_,ha=>by simp only [ah] at ha;subst ha; rfl
 | [],_::_,_,_,_,h,_,_=>by simp [vo] at h
 | p::r,[],_,_,_,h,_,_=>by cases p<;>simp [vo] at h
 | p::r,i::is,ps,vs,ie',h,hv,ha=>by
   simp only [ah] at ha;obtain ⟨a,as',rfl,h1,h2⟩:=ha;simp only [iH'] at h ⊢;unfold vo at h;split at h
   ·rename_i e1 _;cases e1
   ·rename_i l0 r0 l1 r1 e1 e2;obtain ⟨e3,e4⟩:=List.cons.inj e1;obtain ⟨hps,hr1⟩:=List.cons.inj e2;subst e3;subst e4;subst hr1;simp only [ik'] at h;have e:=ii' h.1;subst e;obtain ⟨v,CX,eu⟩:=ah.at_ _ _ hv i _ hps;rw [CX,Nc h.2 hv h2];simp only [RV] at eu h1;obtain ⟨b,w,k1,rfl⟩:=eu;obtain ⟨b',w',k2,rfl⟩:=h1;rw [k1] at k2;cases k2;rfl
   ·cases h
theorem Ya {T:TypeId}{f:FuncId}{j:Nat}{is:List Nat}{ps:List (PV I)}{vs:List Value}(hO:∀ l o,O l=some (some o)->s.O l=some (some o))(h:Rel X c σ s n F)(hc:El T f j is O ps=true)(hv:ah X c σ ps vs):uP T f j is σ.w vs:=by
 unfold El at hc;split at hc
 ·rename_i l hj;split at hc
  ·rename_i T' f' ls w' ho;simp only [ik'] at hc;have eT:=ii' hc.1;have ef:=ii' hc.2.1;subst eT;subst ef;obtain ⟨v,CY,eu⟩:=ah.at_ _ _ hv j _ hj;simp only [RV] at eu;obtain ⟨b,w,k1,rfl⟩:=eu;obtain ⟨b',cs,k2,k3,k4,_⟩:=h.aL l _ (hO _ _ ho);rw [k1] at k2;cases k2;simp only [RG] at k3;obtain ⟨a,r,rfl,hcl,rfl⟩:=k3;rcases hcl with hcl | ⟨_,u,rfl,hu⟩
   ·exact hcl.elim
   simp only [RV] at hu;obtain ⟨ie',rfl,has⟩:=hu;exact ⟨b,ie',CY,by simpa using k4,Nc hc.2.2 hv has⟩
  ·cases hc
 ·cases hc
def Kq (T:TypeId)(f:FuncId)(l:Nat)(_:Nat)(is:List Nat)(s:St I):St I:=aP s l (some (.var T [.lD f (is.filterMap s.F)] false))
theorem LX:∀ {is:List Nat} {ps:List (PV I)} {vs ie':List Value},is.all (λi=>iG' i ps.length)=true->ah X c σ ps vs->is.map (vs[·]?)=ie'.map some->ah X c σ (is.filterMap (ps[·]?)) ie'
 | [],_,_,ie',_,_,e=>by
   cases ie' with
   | nil=>simp only [List.filterMap_nil,ah]
   | cons=>cases e
 | i::is,ps,vs,ie',hl,hv,e=>by
   cases ie' with
   | nil=>cases e
   | cons a ie' =>
     simp only [iH',List.cons.injEq] at e;simp only [jI',ik'] at hl;have hi:i<ps.length:=by have:=hl.1;rw [Nat.blt_eq] at this;exact this
     have hp:=in' hi;obtain ⟨v,CX,eu⟩:=ah.at_ _ _ hv i _ hp;rw [e.1] at CX;cases CX;rw [iQ',hp];simp only [ah];exact ⟨a,ie',rfl,eu,LX hl.2 hv e.2⟩
theorem TM {T:TypeId}{f:FuncId}{l j:Nat}{is:List Nat}{nt:Nat}{ps:List Pk}{a:eU I ps}{vs:List Value}(hl:(l7 tb nt ps a).O l=some (some (.var T [.any] false)))(hj:(dI tb 0 ps a)[j]?=some (.ptr l 0))(his:is.all (λi=>iG' i (dI tb 0 ps a).length)=true)
 (h:Rel X c σ (l7 tb nt ps a) nt F) (hv:ah X c σ (dI tb 0 ps a) vs) (hC:uP T f j is σ.w vs):Rel X c σ (Kq T f l j is (l7 tb nt ps a)) nt F:=by
 obtain ⟨b,ie',h1,h2,h3⟩:=hC;obtain ⟨v,CY,eu⟩:=ah.at_ _ _ hv j _ hj;rw [h1] at CY;cases CY;simp only [RV] at eu;obtain ⟨b',w,k1,e⟩:=eu;cases e;obtain ⟨b',cs,k2,k3,k4,k5,k6⟩:=h.aL l _ hl;rw [k1] at k2;cases k2;refine h.wU ⟨b,[.func (.func f) #[] (je' ie')],k1,?_,by simpa using h2,k5,k6⟩ λp g hp hg=>?_
 ·simp only [RG];refine ⟨_,[],rfl,.inr ⟨rfl,_,rfl,?_⟩,rfl⟩;simp only [RV];exact ⟨ie',rfl,LX his hv h3⟩
 ·exact ⟨h.mine l p g ⟨_,hl⟩ hp hg,h.owned ⟨_,hl⟩ hp hg,λl' p' hne hlv hp' hg'=>hne (h.inj l' l p' p g hlv ⟨_,hl⟩ hp' hp hg' hg)⟩
end
end Go.Qx
end
section
open Array renaming getElem_append->jG',getElem_ofFn->jq',replicate->jQ'
open Bool renaming and_eq_true->ik'
open List renaming all_eq_true->iu',filterMap_cons->iQ',getD->jk',getElem?_append_right->iv',getElem?_drop->jj',getElem?_eq_getElem->in',getElem?_eq_none->iK',getElem?_map->jv',getElem_mem->iL',length_cons->iF',map_cons->iH',mem_append_left->jt',mem_append_right->jR',mem_cons->ir',mem_filterMap->kh',mem_map->iT',nodup_append->iV'
open Nat renaming add_sub_cancel_left->iY',beq->il',ble->iX',eq_of_beq_eq_true->ii',le_of_ble_eq_true->iE',le_refl->ip',le_trans->iz',zero_le->iP'
open Option renaming bind_assoc->iS',bind_some->io',some->iU'
namespace Go.Qx
open Go Go.RowKit Go.Sx
section
variable {I:TypeId->Type} [∀ E,Rp (I E)] {P:Program}{tb:aD I}{X:aY}{c c':Cx}{σ τ:S}{s:St I}{n:Nat}{F:Fr}{O:ay I}
structure Rio (I:TypeId->Type) where
 f:FuncId
 E:TypeId
 ps:List Pk
 rs:List V
 run:List (I E)->yF I ps (dz I (rs++aR ps)×List (I E))
def oZ (P:Program)(r:Rio I):Prop:=∀ (σ:S) (xs:List (I r.E)) (a:eU I r.ps) (vs:List Value) (af:List Pl) (res:dz I (r.rs++aR r.ps)) (ys:List (I r.E)),
 lK P (λb=>σ.N<=b\/b∈ows af) σ (.row r.E false::r.ps) (xs,a) vs af->(ows af).Nodup->nU r.ps (r.run xs) a=some (res,ys) ->
  iB P r.f vs σ (Stp (λb=>b∈ows af) σ) λv τ=>∃ ws us dR,Post σ τ (.row r.E false::r.ps) r.rs vs res (ows af) v ws us dR /\
   ∃ A k ow,af.head?=some ⟨A,k,xs.length,ow⟩/\ys.length=xs.length/\cu ow false r.E τ ys A k/\∀ g,ow=some g->g ∉ ows dR
def Oz (tb:aD I)(E:TypeId)(ps:List Pk)(rs:List V)(results:List ResultVar):Ex->St I->Option (dz I (rs++aR ps)×List (I E)):=λe s=>match e with
 | .exit _=>none
 | _=>(kE tb s results).bind λa=>(gH s 1 ps).bind λb=>(fM tb s.O (rs++aR ps) (a++b)).bind λx=>(kN tb s.O (.row E false) (.vw 0)).bind λy =>
    bif oW (x.2.1++lM 1 ps) (y.2.2++x.2.2)&&iR y.2.1&&il' a.length rs.length then some (x.1,y.1) else none
def Oo (tb:aD I)(aj:dn I)(H:Hints I)(cd:Code)(nt:Nat)(E:TypeId)(ps:List Pk)(rs:List V)(results:List ResultVar)(xs:List (I E))(a:eU I ps):Option (dz I (rs++aR ps)×List (I E)) :=
 jG tb aj H cd 1 (dz I (rs++aR ps)×List (I E)) (l7 tb nt (.row E false::ps) (xs,a)) (Oz tb E ps rs results)
def Y7 (vs:List Value):Value:=vs.headD undef
omit [∀ E,Rp (I E)] in
theorem Gp {E:TypeId}{fl:Bool}{l:Nat}{y:List (I E)×List Nat×List (Option Nat)}(h:kN tb O (.row E fl) (.vw l)=some y):y.2.2=[some l]:=by
 simp only [kN] at h;split at h
 ·replace h:=bind_some h;obtain ⟨ys,hys,h⟩:=h;cases fl<;>rename_i gV _<;>cases gV<;>first | (cases h; rfl) | cases h
 ·cases h
theorem Uo (ht:aV P tb){M:Nat->Prop}(hM:∀ b,X.M b->M b)(hX:X.P=P){E:TypeId}{ps:List Pk}{xs:List (I E)}{a:eU I ps}{vs:List Value}{af:List Pl}{nt:Nat}(hA:lK P M σ (.row E false::ps) (xs,a) vs af)
 (hr:Rel X (λ_=>none) σ (⟨nt,λ_=>none,λ_=>none,0⟩:St I) nt F) (hnd:(ows af).Nodup) (fJ:∀ g∈ows af,X.M g) :
 ∃ c',Rel X c' σ ⟨nt,λ_=>none,oF tb 0 (.row E false::ps) (xs,a) (λ_=>none),0⟩ nt F/\ah X c' σ (dI tb 0 (.row E false::ps) (xs,a)) vs/\∃ A k ow,af.head?=some ⟨A,k,xs.length,ow⟩/\c' 0=some ⟨A,k,xs.length,ow⟩:=by
 obtain ⟨v,vs',p1,p2,e1,e2,⟨A,k,ow,e4,h1,e3⟩,h2⟩:=hA;have h1:cu ow false E σ xs A k:=h1;have e4:v=.slice A xs.length k:=e4;have e3:p1=[⟨A,k,xs.length,ow⟩]:=e3;have h2:lK P M σ ps a vs' p2:=h2;subst e3;subst e2;obtain ⟨a1,a2⟩:=hr.newRow (nb:=0) (E:=E) (xs:=xs) (fl:=false) rfl h1 λg hg=>⟨fJ g (by simp [ows,hg]),ja.bQ (λ_ _ _ _ _ _ h=>by cases h),λl' p' ⟨_,hl⟩=>by cases hl⟩
 obtain ⟨c',k1,k2,k3⟩:=qi (nb:=1) (s:=aP (⟨nt,λ_=>none,λ_=>none,0⟩:St I) 0 (some (.row E xs false))) (done:=ows [⟨A,k,xs.length,ow⟩]) ht hM hX h2 a2 (λl hl=>by
  show aZ _ 0 _ l=none;rw [bW (by omega)]) (λl p g ⟨o,ho⟩ hc hw=>by
  rcases bG ho with ⟨e,_⟩ | ⟨e,ho'⟩
  ·subst e;rw [dU] at hc;cases hc;simp only at hw;subst hw;simp [ows]
  ·cases ho') (by rw [<- fZ]; exact hnd) (λg hg=>fJ g (by rw [fZ]; simp [hg])) (ja.set λ_ _ _ _ _ _ h=>by cases h)
 have hc0:=k1 _ _ (dU _ _ _);refine ⟨c',k2,?_,A,k,ow,rfl,hc0⟩;simp only [dI,ah,RV];exact ⟨v,vs',e1,⟨_,hc0,e4⟩,k3⟩
theorem XY (ht : aV P tb) {r : Rio I} {fn : Func} {cd : Code} (nt : Nat) {rl : List ResultVar} (hf : P.funcs[r.f]? = some fn) (hb : fn.body = some cd) (hname : (fn.name == "runtime.NumGoroutine") = false)
 (hn:fn.ntmps=nt) (hres:fn.results.toList=rl) (hle:iX' (r.ps.length+1) nt=true)
 (hspec:∀ (X:aY) (c:Cx) (σ:S) (F:Fr) (Q:Exit->Act->World->Prop) (xs:List (I r.E)) (a:eU I r.ps) (res:dz I (r.rs++aR r.ps)×List (I r.E)),X.P=P->Rel X c σ (l7 tb nt (.row r.E false::r.ps) (xs,a)) nt F->nU r.ps (r.run xs) a=some res ->
   (∀ (e:Ex) (s':St I) (c':Cx) (τ:S) (F':Fr),Oz tb r.E r.ps r.rs rl e s'=some res->Cx.le c c'->Rel X c' τ s' nt F'->Stp X.M σ τ->Q (gy e) (fr nt F') τ.w)->cd.wp P Q (fr nt F) σ.w) (hlo:tb.lo=0:=by rfl):oZ P r:=by
 intro σ xs a vs af res ys hA hnd happ
 let X:aY:=⟨P,σ.N,λb=>b∈ows af⟩
 have hlen:vs.length=r.ps.length+1:=hA.len;have qA:Rel X (λ_=>none) σ (⟨nt,λ_=>none,λ_=>none,0⟩:St I) nt (dP vs) :=
  ⟨rfl,(λ_ _ h=>by cases h),(λ_ _ h=>by cases h),(λ_ _ _ _ _ ⟨_,h⟩=>by cases h),(λ_ _ _ ⟨_,h⟩=>by cases h),λ_ _=>rfl,⟨ip' _,λE=>iz' (ht.low E) (by rw [hlo]; exact iP' _)⟩,ja.uz λ_ _ _ _ _ _ h=>by cases h⟩
 obtain ⟨c1,i2,i3,A0,k0,Qn,dQ',dR'⟩:=Uo (tb:=tb) (X:=X) ht (λb hb=>hb) rfl hA qA hnd (λg hg=>.inr hg);have hrel:Rel X c1 σ (l7 tb nt (.row r.E false::r.ps) (xs,a)) nt (dP vs):=by
  refine ⟨rfl,λi p hp=>?_,i2.aL,i2.inj,i2.mine,i2.fq,i2.base,i2.aA⟩;obtain ⟨v,hv,hr⟩:=ah.at_ _ _ i3 i p hp;have:dP vs i=v:=by simp [dP,jk',hv]
  rw [this]; exact hr
 refine .inl ⟨⟨fn,cd,hf,hb,hname⟩,calls_of_wp hf hb ?_⟩;have hle':=iE' hle;have e:(⟨vs.toArray++jQ' (fn.ntmps-vs.toArray.size) undef,[]⟩:Act)=fr nt (dP vs):=by
  rw [hn];simp only [fr];congr 1;apply Array.ext
  ·simp; omega
  ·intro i h1 h2;simp only [jq',dP,jG'];split
   ·rename_i hi; simp at hi; simp [jk',in' hi]
   ·rename_i hi; simp at hi; simp [jk',iK' hi]
 rw [e];refine hspec X c1 σ (dP vs) _ xs a (res,ys) rfl hrel happ λex s' c2 τ F' hfin hle2 hr st=>?_;have key:((kE tb s' rl).bind λa=>(gH s' 1 r.ps).bind λb=>(fM tb s'.O (r.rs++aR r.ps) (a++b)).bind λx=>(kN tb s'.O (.row r.E false) (.vw 0)).bind λy =>
  bif oW (x.2.1++lM 1 r.ps) (y.2.2++x.2.2)&&iR y.2.1&&il' a.length r.rs.length then some (x.1,y.1) else none)=some (res,ys) ->
  ∃ v,(results fn (fr nt F').tmps).run P τ.w=.ok v τ.w/\∃ v' τ',Ending.returned v=.returned v'/\τ'.w=τ.w/\Stp (λb=>b∈ows af) σ τ'/\∃ ws us dR,Post σ τ' (.row r.E false::r.ps) r.rs vs res (ows af) v' ws us dR /\
   ∃ A k ow,af.head?=some ⟨A,k,xs.length,ow⟩/\ys.length=xs.length/\cu ow false r.E τ' ys A k/\∀ g,ow=some g->g ∉ ows dR:=by
  intro hfin;obtain ⟨ra,hra,hfin⟩:=bind_some hfin;obtain ⟨rb,hrb,hfin⟩:=bind_some hfin;obtain ⟨y,hy,hfin⟩:=bind_some hfin;obtain ⟨yy,Ik,hfin⟩:=bind_some hfin;obtain ⟨hrows,hfin⟩:=aK hfin;cases hfin;simp only [ik'] at hrows;obtain ⟨q1,Qo⟩:=tN hrows.1.1;have q2:∀ l,some l∈yy.2.2++y.2.2->l ∉ y.2.1:=λl hl hm=>Qo l hl (jt' _ hm);have hnil:=mI hrows.1.2;rw [List.filterMap_append,iV'] at q1;have r1:=q1.2.1;have r2:∀ l,some l∈y.2.2->l ∉ y.2.1:=λl hl=>q2 l (by simp [hl])
  have hal:=ii' hrows.2;obtain ⟨τ',p1,p2,p3,p4,p5,p6⟩:=hr.pubs (O:=s'.O) (λ_ _ h=>h) y.2.1;obtain ⟨ws,w1,w2⟩:=sG ht hr hra;have Ii:gH (aG s' s'.O y.2.1) 0 (.row r.E false::r.ps)=some rb:=by
   show gH (aG s' s'.O y.2.1) 1 r.ps=some rb;have:∀ {ps:List Pk} {nb:Nat} {qs:List (PV I)},gH s' nb ps=some qs->gH (aG s' s'.O y.2.1) nb ps=some qs:=by
    intro ps
    induction ps with
    | nil=>intro nb qs h; exact h
    | cons p r ih =>
      intro nb qs h;cases p with
      | d k=>exact ih h
      | fn ks rs=>exact ih h
      | row E fl=>exact ih h
      | gW E=>exact ih h
      | val v=>exact ih h
      | iC ks=>exact ih h
      | var T v w =>
        cases w with
        | false=>exact ih h
        | true =>
          simp only [gH] at h ⊢;split at h
          ·rename_i T' ls ho;rw [NR ho];replace h:=aK h;obtain ⟨hT,h⟩:=h;simp only [hT,cond_true];replace h:=bind_some h;obtain ⟨p,hp,h⟩:=h;replace h:=bind_some h;obtain ⟨ps',hps,h⟩:=h;rw [hp,io',ih hps];exact h
          ·cases h
   exact this hrb
  have hvs:ah X c2 τ' (dI tb 0 (.row r.E false::r.ps) (xs,a)) vs:=ah.step (st.trans p2) _ _ (ah.grow hle2 _ _ i3);obtain ⟨us,u1,u2,u3⟩:=oH ht p3 (ps:=.row r.E false::r.ps) (a:=(xs,a)) Ii hvs;have zw:=ah.app _ _ _ _ (ah.step p2 _ _ w1) u1;obtain ⟨dR,t1,t2⟩:=wF ht p4 p5 (ls:=y.2.1) (rows:=y.2.2) hy (λl hl=>hl) (λl hl=>r2 l hl) zw;have hlive:=Bo (ls:=y.2.1) (rows:=y.2.2) hy;have hl3:∀ l,some l∈y.2.2->aQ (aG s' s'.O y.2.1) l:=λl hl=>by obtain ⟨o,ho,_⟩:=hlive l hl;exact ⟨_,(p6 l (r2 l hl)).trans ho⟩
  have h00:RV X c2 τ' (.vw 0:PV I) (Y7 vs):=by simp only [dI,ah] at hvs;obtain ⟨v0,Qf,e0,h0,_⟩:=hvs;rw [e0]; exact h0
  obtain ⟨uE,z1,z2⟩:=xC ht p4 p5 (ls:=yy.2.1) (rows:=yy.2.2) Ik (λl hl=>by rw [hnil] at hl; cases hl) (λl hl=>q2 l (by simp [hl])) h00
  have hc0:=hle2 _ _ dR';have hy0:yy.2.2=[some 0]:=Gp Ik;rw [hy0] at z2;obtain ⟨pz,pzs,e5,e6,e7⟩:=z2;cases e7;obtain ⟨A1,k1,ow1,e8,e9,e10⟩:=z1;rw [e5] at e9;cases e9;have Qp:c2 0=some ⟨A1,k1,List.length yy.1,ow1⟩:=e6;rw [hc0,iU'.injEq,Pl.mk.injEq] at Qp;obtain ⟨rfl,rfl,dT',rfl⟩:=Qp;refine ⟨gB ws,yM (by rw [hres]; exact w2),gB ws,τ',rfl,p1,(st.trans p2).mono λb hb hM=>?_,ws,us,dR,⟨rfl,?_,t1,u2,At.nodup p3 t2 r1 hl3,λg hg=>?_⟩,_,_,_,dQ',dT'.symm,e10,λg hg hm=>?_⟩
  ·rcases hM with h | h
   ·have:σ.N<=b:=h;omega
   ·exact h
  ·rw [ah.len _ _ w1,hal]
  ·obtain ⟨l,p,a1,a2,a3⟩:=t2.mem g hg;refine ⟨p3.mine l p g (hl3 l a1) a2 a3,λhm=>?_⟩;obtain ⟨l',p',T,ls,w,ho',hc',hw',hn'⟩:=u3 g hm;have e:=p3.inj l l' p p' g (hl3 l a1) ⟨_,ho'⟩ a2 hc' a3 hw';subst e;exact Qo l (jR' _ a1) (jR' _ hn')
  ·obtain ⟨l,p,a1,a2,a3⟩:=t2.mem g hm;have hl0:aQ (aG s' s'.O y.2.1) 0:=by
    obtain ⟨E,xs,fl,ho⟩:=N8 (ls:=yy.2.1) (rows:=yy.2.2) Ik 0 (by rw [hy0]; simp)
    exact ⟨_,(p6 0 (q2 0 (by rw [hy0]; simp))).trans ho⟩
   have e:=p3.inj 0 l _ p g hl0 (hl3 l a1) hc0 a2 hg a3;subst e;rw [hy0] at q1;exact q1.2.2 0 (by simp) 0 (kh'.2 ⟨_,a1,rfl⟩) rfl
 cases ex with
 | exit i=>cases hfin
 | normal =>obtain ⟨v,h1,v',τ',h2,h3⟩:=key hfin;exact ⟨rfl,v,h1,v',τ',h2,h3⟩
 | ret =>obtain ⟨v,h1,v',τ',h2,h3⟩:=key hfin;exact ⟨rfl,v,h1,v',τ',h2,h3⟩
theorem cL' (ht : aV P tb) {aj : dn I} (hd : iT P aj) (hmx : P.follows .mixedOrders = true) {r : Rio I} {fn : Func} {cd : Code} (nt : Nat) {H : Hints I} {rl : List ResultVar} (hf : P.funcs[r.f]? = some fn) (hb : fn.body = some cd) (hname : (fn.name == "runtime.NumGoroutine") = false)
 (hn:fn.ntmps=nt) (hres:fn.results.toList=rl) (hle:iX' (r.ps.length+1) nt=true) (hcode:iy H cd 1=true) (hrun:r.run=λxs=>qf r.ps (Oo tb aj H cd nt r.E r.ps r.rs rl xs)) (hlo:tb.lo=0:=by rfl):oZ P r :=
 XY ht nt hf hb hname hn hres hle (hlo:=hlo) λX c σ F Q xs a res hX hrel happ hk=>by rw [hrun,Bu] at happ;exact jS ht hd hmx cd 1 hcode _ _ _ res X c σ F Q hX happ hrel λe s' c' τ F' g1 g2 g3 g4 _=>hk e s' c' τ F' g1 g2 g3 g4
def vS (tb:aD I)(r:Rio I)(aj:dn I)(ρ:Type)(O:ay I)(nb:Nat)(ps:List (PV I))(k:Ef I->Option ρ):Option ρ:=match ps with
 | .vw l::ps'=>(mV tb aj O (eP [] (bF (gL O (.row r.E false::r.ps) (.vw l::ps')) O)) nb (.row r.E false::r.ps) (.vw l::ps')).bind λa =>
   bif vL (gL O (.row r.E false::r.ps) (.vw l::ps')) a.2 then (nU r.ps (r.run a.1.1) a.1.2).bind λres =>
    k ⟨jo ((bR tb nb (r.rs++aR r.ps) res.1).take r.rs.length),(aT O a.2.pub++fG a.2.all++gX a.2.gv ((bR tb nb (r.rs++aR r.ps) res.1).drop r.rs.length))++[(l,some (.row r.E res.2 false))],cO (r.rs++aR r.ps) res.1⟩ else none
 | _=>none
def JR (tb:aD I)(r:Rio I):jZ I:=⟨r.f,vS tb r⟩
theorem XR (ht:aV P tb){r:Rio I}(hr:oZ P r):qB P (JR tb r):=by
 refine ⟨λaj ρ O nb ps k=>?_,λaj hd O nb ps ef he=>?_⟩
 ·show vS tb r aj ρ O nb ps k=(vS tb r aj (Ef I) O nb ps some).bind k;unfold vS;split
  ·rename_i l0 ps';simp only [iS'];refine D5 λa=>?_;cases vL (gL O (.row r.E false::r.ps) (.vw l0::ps')) a.2
   ·rfl
   ·simp only [cond_true,iS'];rfl
  ·rfl
 ·intro X c σ s n F vs hX hO h hvs hfree;have he':vS tb r aj (Ef I) O nb ps some=some ef:=he;unfold vS at he';split at he'
  rotate_left
  ·cases he'
  rename_i l0 ps';replace he':=bind_some he';obtain ⟨a,ha,he'⟩:=he';replace he':=aK he';obtain ⟨zA,he'⟩:=he';replace he':=bind_some he';obtain ⟨res,hres,he'⟩:=he';cases he';obtain ⟨a,acc⟩:=a;obtain ⟨res,ys⟩:=res;have dU':∃ rest,acc.all=some l0::rest:=by obtain ⟨x,hx,e⟩:=bind_some ha;obtain ⟨y,hy,e⟩:=bind_some e;cases e;exact ⟨y.2.all,by show x.2.2++y.2.all=_; rw [Gp hx]; rfl⟩
  have d9:∃ E,∃ xs:List (I E),∃ fl,O l0=some (some (.row E xs fl)):=by obtain ⟨x,hx,e⟩:=bind_some ha;exact N8 (ls:=x.2.1) (rows:=x.2.2) hx l0 (by rw [Gp hx]; simp)
  have hfree:gI (bC s.O (aT O acc.pub++fG acc.all++gX acc.gv ((bR tb nb (r.rs++aR r.ps) res).drop r.rs.length))) nb (cO (r.rs++aR r.ps) res)=true/\l0 ∉ dL nb (cO (r.rs++aR r.ps) res).length:=by
   have hf:gI (bC s.O ((aT O acc.pub++fG acc.all++gX acc.gv ((bR tb nb (r.rs++aR r.ps) res).drop r.rs.length))++[(l0,some (Ob.row r.E ys false))])) nb (cO (r.rs++aR r.ps) res)=true:=hfree;rw [jT] at hf;rw [kK] at hf ⊢;have hne:l0 ∉ dL nb (cO (r.rs++aR r.ps) res).length:=λhm=>by have:=hf l0 hm;simp [bC,dS] at this
   refine ⟨λl hl=>?_,hne⟩;have h1:=hf l hl;have e:l≠l0:=λe=>hne (by rw [<- e]; exact hl)
   simpa [bC,bW e] using h1
  obtain ⟨hfree,Qq⟩:=hfree;simp only [vL,ik'] at zA;obtain ⟨⟨q1,q2⟩,q3⟩:=zA;obtain ⟨r1,r2⟩:=tN q1;have hgr:∀ l,some l∈acc.all->l∈gL O (.row r.E false::r.ps) (.vw l0::ps'):=λl hl=>by have:=(iu'.1 q2) _ hl;exact gM.1 this
  have eu:∀ l∈acc.rv,l ∉ gL O (.row r.E false::r.ps) (.vw l0::ps'):=λl hl=>by have:=(iu'.1 q3) _ hl;exact jN.1 (by simpa using this)
  obtain ⟨τ1,p1,p2,p3,p4,p5,p6⟩:=h.pubs hO acc.pub;have qC:=ah.step p2 _ _ hvs;have og:∀ {l:Nat},(∀ E (xs:List (I E)),O l≠some (some (.row E xs false)))->(aG s O acc.pub).O l=s.O l:=λ{l} hn=>by
   show bC s.O (aT O acc.pub) l=s.O l;apply kH;intro hm;have hp:∀ {ls:List Nat},l∈eF (aT O ls)->∃ E,∃ xs:List (I E),O l=some (some (.row E xs false)):=by
    intro ls
    induction ls with
    | nil=>intro h; simp [aT,eF] at h
    | cons a r ih =>
      intro h;simp only [aT] at h;split at h
      ·rename_i E xs e;simp only [eF,iH',ir'] at h;rcases h with rfl | h
       ·exact ⟨E,xs,e⟩
       ·exact ih h
      ·exact ih h
   obtain ⟨E,xs,e⟩:=hp hm;exact hn E xs e
  have hOv:∀ l T ls w,O l=some (some (.var T ls w))->(aG s O acc.pub).O l=some (some (.var T ls w)):=λl T ls w ho=>by rw [og (λE xs e=>by rw [ho] at e; cases e)]; exact hO l _ ho
  have kP:∀ l o,eP [] (bF (gL O (.row r.E false::r.ps) (.vw l0::ps')) O) l=some (some o)->eP [] (bF (gL O (.row r.E false::r.ps) (.vw l0::ps')) (aG s O acc.pub).O) l=some (some o):=by
   intro l o hl;unfold eP bF at hl ⊢;cases hm:bg l (gL O (.row r.E false::r.ps) (.vw l0::ps')) with
   | true =>
     rw [hm] at hl;cases hol:O l with
     | none=>rw [hol] at hl; simp [bg] at hl
     | some x=>rw [hol] at hl; simp [bg] at hl
   | false =>
     rw [hm] at hl;simp only [cond_false,bg] at hl ⊢;have hne:∀ E (xs:List (I E)),O l≠some (some (.row E xs false)):=λE xs e=>by rw [e] at hl; simp at hl
     rw [og hne];cases hol:O l with
     | none=>rw [hol] at hl; simp at hl
     | some x =>
       cases x with
       | none=>rw [hol] at hl; simp at hl
       | some o'=>rw [hO l o' hol]; rw [hol] at hl; exact hl
  have hlv:∀ l,some l∈acc.all->(∃ o:Ob I,O l=some (some o)/\oD o=true)\/(∃ T ls,O l=some (some (.var T ls true)))->aQ (aG s O acc.pub) l:=λl hl hx=>by
   rcases hx with ⟨o,ho,_⟩ | ⟨T,ls,ho⟩
   ·exact ⟨_,(p6 l (r2 l hl)).trans (hO l _ ho)⟩
   ·exact ⟨_,hOv l _ _ _ ho⟩
  have core:∀ M:Nat->Prop,(∀ b,M b->τ1.N<=b\/∃ l∈gL O (.row r.E false::r.ps) (.vw l0::ps'),aQ (aG s O acc.pub) l/\∃ p,c l=some p/\p.w=some b)->_:=λM hM =>
   oQ ht hd hX p3 (λl E xs fl e=>BZ ⟨fl,e⟩ ⟨fl,hO l _ e⟩) (λl E xs e=>(og (λE' xs' e'=>by rw [e] at e'; cases e')).trans (hO l _ e)) (λl T kd m=>⟨λe=>(og (λE' xs' e'=>by rw [e] at e'; cases e')).trans (hO l _ e),λe=>(og (λE' xs' e'=>by rw [e] at e'; cases e')).trans (hO l _ e)⟩) hOv p4 p5 kP hM (nb:=nb) ha qC (λ_ h=>h) r2 eu
  have fP:∀ (af:List Pl),lK P (λb=>τ1.N<=b\/b∈ows af) τ1 (.row r.E false::r.ps) a vs af->At c acc.all af->nV c O acc.gv (dK (.row r.E false::r.ps) vs)->(∀ l,some l∈acc.all->(∃ o:Ob I,O l=some (some o)/\oD o=true)\/∃ T v,(l,T,v)∈acc.gv) ->
   (∀ x∈acc.gv,some x.1∈acc.all)->acc.gv.map (λx=>x.2)=lW (.row r.E false::r.ps)->iB P r.f vs σ (Stp X.M σ) λv τ=>∃ c',Cx.le c c'/\Rel X c' τ (gD s nb ⟨jo ((bR tb nb (r.rs++aR r.ps) res).take r.rs.length),aT O acc.pub++fG acc.all++gX acc.gv ((bR tb nb (r.rs++aR r.ps) res).drop r.rs.length)++[(l0,some (.row r.E ys false))],cO (r.rs++aR r.ps) res⟩) n F /\
     RV X c' τ (jo ((bR tb nb (r.rs++aR r.ps) res).take r.rs.length)) v:=by
   intro af k1 k2 k3 k4 k5 k6;have hgv:∀ x∈acc.gv,∃ ls,O x.1=some (some (.var x.2.1 ls true)):=by
    have:∀ {gv:List (Nat×TypeId×V)} {bs:List Nat},nV c O gv bs->∀ x∈gv,∃ ls,O x.1=some (some (.var x.2.1 ls true)):=by
     intro gv
     induction gv with
     | nil=>intro bs _ x hx; cases hx
     | cons y r ih =>
       intro bs ⟨b,bs',ls,_,e2,_,e4⟩ x hx;rcases ir'.1 hx with rfl | hx
       ·exact ⟨ls,e2⟩
       ·exact ih e4 x hx
    exact this k3
   have hlive:∀ l,some l∈acc.all->aQ (aG s O acc.pub) l:=λl hl=>hlv l hl ((k4 l hl).imp id λ⟨T,v,hm⟩=>by obtain ⟨ls,e⟩:=hgv _ hm;exact ⟨T,ls,e⟩)
   have hnd:(ows af).Nodup:=At.nodup p3 k2 r1 hlive;have hown:∀ g∈ows af,∃ l p,some l∈acc.all/\c l=some p/\p.w=some g:=k2.mem;have rW:∀ g∈ows af,X.M g:=λg hg=>by obtain ⟨l,p,a1,a2,a3⟩:=hown g hg;exact p3.mine l p g (hlive l a1) a2 a3
   refine iB.mono (hr τ1 a.1 a.2 vs af res ys k1 hnd hres) p1.symm λv τ hst ⟨ws,us,dR,hpost,A0,kk0,Qn,z1,z2,z3,z4⟩=>⟨τ,rfl,p2.trans (hst.mono λb _ hb=>rW b hb),?_⟩
   let kl:=acc.all.filterMap id
   have hkl:∀ l,l∈kl↔some l∈acc.all:=λl=>by simp [kl,kh']
   let s2:St I:=⟨s.n,s.F,bF kl (aG s O acc.pub).O,s.nx⟩
   have h2:Rel X c τ1 s2 n F:=p3.less (λl o ho=>(eY ho).2) (λl ho=>ou.1 ho);have hn2:∀ l p g,aQ s2 l->c l=some p->p.w=some g->¬ g∈ows af:=λl p g ⟨o,ho⟩ hc hw hg=>by obtain ⟨m1,m2⟩:=eY ho;obtain ⟨l',p',a1,a2,a3⟩:=hown g hg;exact m1 ((hkl l).2 (by rw [p3.inj l l' p p' g ⟨o,m2⟩ (hlive l' a1) hc a2 hw a3]; exact a1))
   have hi2:∀ g,g∈ows af->bQ c τ1 s2 g:=λg hg=>by obtain ⟨l',p',a1,a2,a3⟩:=hown g hg;exact (p3.owned (hlive l' a1) a2 a3).sub λl E E' u xs q e=>(eY e).2
   have h3:Rel X c τ s2 n F:=h2.stepG hst rW hn2 hi2;have zB:bC s.O (aT O acc.pub++fG acc.all)=bF kl (aG s O acc.pub).O:=by rw [jT];funext l;exact yY λl hl=>by obtain ⟨o,ho⟩:=hlive l hl; intro e; have:=ho; rw [show (aG s O acc.pub).O l=bC s.O (aT O acc.pub) l from rfl,e] at this; cases this
   have qD:∀ x∈acc.gv,∃ ls,(aG s O acc.pub).O x.1=some (some (.var x.2.1 ls true)):=λx hx=>by obtain ⟨ls,e⟩:=hgv x hx;exact ⟨ls,hOv _ _ _ _ e⟩
   have uD:∀ l∈dL nb (cO (r.rs++aR r.ps) res).length,bF kl (aG s O acc.pub).O l=none/\l ∉ acc.gv.map (·.1):=by
    rw [kK] at hfree;intro l hl;have h0:=hfree l hl;rw [jT,zB] at h0;by_cases hk:l∈eF (gX acc.gv ((bR tb nb (r.rs++aR r.ps) res).drop r.rs.length))
    ·exact absurd h0 (tQ (O':=s.O) hk).2
    ·rw [kH hk] at h0;refine ⟨h0,λhm=>?_⟩;simp only [iT'] at hm;obtain ⟨x,hx,e⟩:=hm;have:=(hkl x.1).2 (k5 x hx);rw [e] at this;have hl2:=hlive l ((hkl l).1 this);obtain ⟨o,ho⟩:=hl2;have:=ou.1 h0;rw [ho] at this; cases this
   have pE:TT τ (r.rs++aR r.ps) res (ws++us) dR:=hpost.tt;have dD:=ql pE;obtain ⟨h4,h5⟩:=Rel.addN (nb:=nb) h3 (kK.2 λl hl=>(uD l hl).1) dD hpost.nodup λg hg=>by
    have ho:=hpost.own g hg;refine ⟨ho.1.elim (λh=>.inl (iz' p3.base.1 h)) (rW g),(ho.1.elim (λh=>h2.fresh h) (hi2 g)).step h2 hst hn2 hi2,λl p ⟨o,ho'⟩ hc hw=>?_⟩;obtain ⟨m1,m2⟩:=eY ho';rcases ho.1 with hge | hin
    ·have:=(p3.aL l o m2).lt hc hw;have:τ1.w.heap.size<=g:=hge;omega
    ·obtain ⟨l',p',a1,a2,a3⟩:=hown g hin;exact m1 ((hkl l).2 (by rw [p3.inj l l' p p' g ⟨o,m2⟩ (hlive l' a1) hc a2 hw a3]; exact a1))
   obtain ⟨hps,hlen⟩:=uU (X:=X) (c:=cZ c nb dR) (nb:=nb) ht hpost.tt ko;have htk:=ah.take r.rs.length _ _ hps;have hdr:=ah.drop r.rs.length _ _ hps;rw [List.take_left' hpost.len] at htk;rw [List.drop_left' hpost.len] at hdr;have hold:∀ l,(aG s O acc.pub).O l≠none->cZ c nb dR l=c l:=λl hl=>by
    have key:∀ {ps:List Pl} {c:Cx} {nb:Nat},(l<nb\/nb+ps.length<=l)->cZ c nb ps l=c l:=by
     intro ps
     induction ps with
     | nil=>intro c nb _; rfl
     | cons p ps ih =>
       intro c nb h;simp only [cZ];rw [ih (by simp only [iF'] at h; omega)]
       have:l≠nb:=by simp only [iF'] at h; omega
       simp [dw,this]
    apply key;apply Classical.byContradiction;intro hn;rw [not_or] at hn;exact hl (ou.1 (uD l (iQ.2 ⟨by omega,by rw [dD.1]; omega⟩)).1)
   have Ij:∀ {gv:List (Nat×TypeId×V)} {bs:List Nat},nV c O gv bs->∀ x∈gv,∀ p g,c x.1=some p->p.w=some g->g∈bs:=by
    intro gv
    induction gv with
    | nil=>intro bs _ x hx; cases hx
    | cons y r ih =>
      intro bs ⟨b,bs',ls,e1,e2,e3,e4⟩ x hx p g hc hw;subst e1;rcases ir'.1 hx with rfl | hx
      ·rw [e3] at hc; cases hc; cases hw; simp
      ·simp [ih e4 x hx p g hc hw]
   have Hw:acc.gv.map (λx=>x.2)=lW r.ps:=k6;have hat:∀ (i:Nat) (y:Nat×V) (p:PV I),(acc.gv.map λx=>(x.1,x.2.2))[i]?=some y->((bR tb nb (r.rs++aR r.ps) res).drop r.rs.length)[i]?=some p->∃ nb' z,p=jF tb nb' y.2 z:=λi y p hi hp=>by
    refine Bv (tb:=tb) (vs:=r.rs++aR r.ps) (nb:=nb) (x:=res) (i:=r.rs.length+i) (v:=y.2) ?_ (by rw [jj'] at hp; exact hp)
    rw [iv' (by simp),iY',<- oz,<- Hw]
    rw [jv'] at hi;simp only [List.map_map,jv'];cases hgi:acc.gv[i]? with
    | none=>rw [hgi] at hi; cases hi
    | some z=>rw [hgi] at hi; cases hi; rfl
   have h6:=Rel.eB (af:=dR) ht p3 h5 (oM hpost.out k3 k6 qD) hdr (λi y p hi hp hag=>by
    obtain ⟨nb',z,e⟩:=hat i y p hi hp;rw [e]; exact Cf hag)
    (λi y p hi hp hag=>by obtain ⟨nb',z,e⟩:=hat i y p hi hp;rw [e]; exact AA hag)
    (λl hl=>hold l (by simp only [iT'] at hl;obtain ⟨x,hx,rfl⟩:=hl;obtain ⟨ls,e⟩:=qD x hx;rw [e]; simp))
    (λl hl p g hc hw=>by simp only [iT'] at hl;obtain ⟨x,hx,rfl⟩:=hl;exact p3.mine x.1 p g (hlive _ (k5 x hx)) hc hw)
    (λl ⟨o,ho⟩=>by
      by_cases hm:l∈dL nb (cO (r.rs++aR r.ps) res).length
      ·right;obtain ⟨a1,a2⟩:=iQ.1 hm;have hlt:l-nb<dR.length:=by rw [<- dD.1]; omega
       refine ⟨dR[l-nb],iL' _,?_⟩;have:=ko (c:=c) (nb:=nb) (l-nb) dR[l-nb] (in' hlt);rw [show nb+(l-nb)=l from by omega] at this
       exact this
      ·left;have ho':bV (bF kl (aG s O acc.pub).O) nb (cO (r.rs++aR r.ps) res) l=some (some o):=ho;rw [ig hm] at ho';obtain ⟨_,m2⟩:=eY ho';exact ⟨⟨o,m2⟩,hold l (by rw [m2]; simp)⟩)
    (λl hl p hc g hw hm=>by simp only [iT'] at hl;obtain ⟨x,hx,rfl⟩:=hl;exact (hpost.own g hm).2 (Ij k3 x hx p g hc hw))
    (λl hl p hc g hw=>by simp only [iT'] at hl;obtain ⟨x,hx,rfl⟩:=hl;obtain ⟨ls,e⟩:=qD x hx;exact (((p3.owned ⟨_,e⟩ hc hw).sub (s':=s2) λl E E' u xs q e=>(eY e).2).step h2 hst hn2 hi2).grow h3 h4 (o6 dD.not))
   refine ⟨_,h4,?_,by rw [hpost.ret]; exact vP htk⟩
   have hO2:bV (bC s.O (aT O acc.pub++fG acc.all++gX acc.gv ((bR tb nb (r.rs++aR r.ps) res).drop r.rs.length))) nb (cO (r.rs++aR r.ps) res) =
    eB (aG s O acc.pub).O (acc.gv.map λx=>(x.1,x.2.2)) (acc.gv.map (·.1)) ((bR tb nb (r.rs++aR r.ps) res).drop r.rs.length) (bV (bF kl (aG s O acc.pub).O) nb (cO (r.rs++aR r.ps) res)):=by
    rw [jT,zB];exact Bg λx hx=>⟨qD x hx,λhm=>(uD x.1 hm).2 (iT'.2 ⟨x,hx,rfl⟩)⟩
   have e:gD s nb ⟨jo ((bR tb nb (r.rs++aR r.ps) res).take r.rs.length),aT O acc.pub++fG acc.all++gX acc.gv ((bR tb nb (r.rs++aR r.ps) res).drop r.rs.length)++[(l0,some (.row r.E ys false))],cO (r.rs++aR r.ps) res⟩ =
    aP ⟨s.n,s.F,eB (aG s O acc.pub).O (acc.gv.map λx=>(x.1,x.2.2)) (acc.gv.map (·.1)) ((bR tb nb (r.rs++aR r.ps) res).drop r.rs.length) (bV (bF kl (aG s O acc.pub).O) nb (cO (r.rs++aR r.ps) res)),s.nx⟩ l0 (some (.row r.E ys false)):=by
    have e1:bC s.O (aT O acc.pub++fG acc.all++gX acc.gv ((bR tb nb (r.rs++aR r.ps) res).drop r.rs.length)++[(l0,some (.row r.E ys false))])=aZ (bC s.O (aT O acc.pub++fG acc.all++gX acc.gv ((bR tb nb (r.rs++aR r.ps) res).drop r.rs.length))) l0 (some (.row r.E ys false)):=by rw [jT]; rfl
    simp only [gD,e1,NK Qq,hO2,aP]
   rw [e];obtain ⟨Fj,hall⟩:=dU';have hm0:some l0∈acc.all:=by rw [hall]; simp
   obtain ⟨pl0,uE,e0,hc0,_⟩:=(by rw [hall] at k2; exact k2:At c (some l0::Fj) af)
   have hc0:c l0=some pl0:=hc0;rw [e0] at z1;cases z1;have dX':l0 ∉ acc.gv.map (·.1):=λhm=>by simp only [iT'] at hm;obtain ⟨x,hx,e⟩:=hm;obtain ⟨ls,e2⟩:=hgv x hx;obtain ⟨E,xs,fl,e3⟩:=d9;rw [<- e,e2] at e3; cases e3
   obtain ⟨o0,Il⟩:=hlive l0 hm0;have zq:eB (aG s O acc.pub).O (acc.gv.map λx=>(x.1,x.2.2)) (acc.gv.map (·.1)) ((bR tb nb (r.rs++aR r.ps) res).drop r.rs.length) (bV (bF kl (aG s O acc.pub).O) nb (cO (r.rs++aR r.ps) res)) l0=some none:=by rw [xZ dX',ig Qq];unfold bF;rw [gM.2 ((hkl l0).2 hm0),Il];rfl
   have hc0':=(hold l0 (by rw [Il]; simp)).trans hc0
   refine h6.wU ⟨A0,kk0,Qn,by rw [z2]; exact hc0',z3⟩ λp2 g hp2 hg=>?_
   rw [hc0'] at hp2;cases hp2;refine ⟨rW g (by rw [e0]; simp only at hg; subst hg; simp [ows]),?_,λl' p' _ ⟨o',ho'⟩ hc' hw'=>?_⟩
   ·have hn:=(((hi2 g (by rw [e0]; simp only at hg; subst hg; simp [ows])).step h2 hst hn2 hi2).grow h3 h4 (o6 dD.not):bQ (cZ c nb dR) τ (addN s2 nb (cO (r.rs++aR r.ps) res)) g)
    exact hn.sub λl E E' u xs q e=>Cs (by simpa using e)
   have ho':eB (aG s O acc.pub).O (acc.gv.map λx=>(x.1,x.2.2)) (acc.gv.map (·.1)) ((bR tb nb (r.rs++aR r.ps) res).drop r.rs.length) (bV (bF kl (aG s O acc.pub).O) nb (cO (r.rs++aR r.ps) res)) l'=some (some o'):=ho'
   by_cases hm:l'∈dL nb (cO (r.rs++aR r.ps) res).length
   ·obtain ⟨a1,a2⟩:=iQ.1 hm;have hlt:l'-nb<dR.length:=by rw [<- dD.1]; omega
    have hn:=ko (c:=c) (nb:=nb) (l'-nb) dR[l'-nb] (in' hlt);rw [show nb+(l'-nb)=l' from by omega,hc'] at hn
    cases hn;exact z4 g hg (wM.2 ⟨_,iL' _,hw'⟩)
   ·have Qr:aQ (aG s O acc.pub) l':=by
     by_cases hv:l'∈acc.gv.map (·.1)
     ·simp only [iT'] at hv;obtain ⟨x,hx,e⟩:=hv;rw [<- e];exact hlive _ (k5 x hx)
     ·rw [xZ hv,ig hm] at ho';exact ⟨_,(eY ho').2⟩
    have hcc:c l'=some p':=by obtain ⟨o2,ho2⟩:=Qr;rw [<- hold l' (by rw [ho2]; simp)]; exact hc'
    have el:=p3.inj l' l0 p' _ g Qr ⟨_,Il⟩ hcc hc0 hw' hg;rw [el,zq] at ho';cases ho'
  obtain ⟨uE,k1,k2,k3,k4,k5,k6⟩:=core (λ_=>False) (λ_ h=>h.elim);obtain ⟨af,k1',k2',_⟩:=core (λb=>τ1.N<=b\/b∈ows uE) (λb hb=>hb.imp id λhb=>by
   obtain ⟨l,p,a1,a2,a3⟩:=k2.mem b hb;refine ⟨l,hgr l a1,hlv l a1 ((k4 l a1).imp id λ⟨T,v,hm⟩=>?_),p,a2,a3⟩;have:∀ {gv:List (Nat×TypeId×V)} {bs:List Nat},nV c O gv bs->∀ x∈gv,∃ ls,O x.1=some (some (.var x.2.1 ls true)):=by
    intro gv
    induction gv with
    | nil=>intro bs _ x hx; cases hx
    | cons y r ih =>
      intro bs ⟨b,bs',ls,_,e2,_,e4⟩ x hx;rcases ir'.1 hx with rfl | hx
      ·exact ⟨ls,e2⟩
      ·exact ih e4 x hx
   obtain ⟨ls,e⟩:=this k3 _ hm;exact ⟨T,ls,e⟩)
  have hsame:ows af=ows uE:=by
   have:∀ {rows:List (Option Nat)} {p q:List Pl},At c rows p->At c rows q->ows p=ows q:=by
    intro rows
    induction rows with
    | nil=>intro p q h1 h2; cases h1; cases h2; rfl
    | cons x r ih =>
      intro p q ⟨a,ie',e1,g1,h1⟩ ⟨b,bs,e2,g2,h2⟩;subst e1;subst e2;have hr:=ih h1 h2;simp only [ows,iQ'] at hr ⊢;have:a.w=b.w:=by
       cases x with
       | none=>simp only at g1 g2; rw [g1,g2]
       | some l=>simp only at g1 g2; rw [g1] at g2; cases g2; rfl
      rw [this,hr]
   exact this k2' k2
  rw [<- hsame] at k1';exact fP af k1' k2' k3 k4 k5 k6
end
end Go.Qx
end
section
open Bool renaming and_eq_true->ik'
open List renaming all_cons->jI',append_assoc->iA',append_nil->jo',length_append->iq',mem_append->iw',mem_cons->ir'
open Nat renaming add_assoc->jf',beq->il',ble->iX',eq_of_beq_eq_true->ii',le_of_ble_eq_true->iE',lt_of_lt_of_le->ji',zero_add->iO',zero_le->iP'
open Option renaming isSome_iff_exists->jE',map_some->jc',some->iU'
namespace Go.Qx
open Go Go.RowKit Go.Sx
@[reducible] def Z8:Rp Unit where
 sz:=1
 pos:=by decide
 agg:=false
 cells:=λ_ _ _=>False
 len:=λh=>h.elim
 one:=λh=>h.elim
 mono:=λ_ h=>h
@[reducible] def bf (k:IntKind):Rp Int:=dc' k
@[reducible] def bT {α β:Type} (a:Rp α) (b:Rp β):Rp (α×β) where
 sz:=a.sz+b.sz
 pos:=ji' a.pos (Nat.le_add_right _ _)
 agg:=true
 cells:=λσ x cs=>∃ c1 c2,cs=c1++c2/\a.cells σ x.1 c1/\b.cells σ x.2 c2
 len:=λ⟨_,_,e,h1,h2⟩=>by rw [e,iq',a.len h1,b.len h2]
 one:=λ⟨_,_,e,h1,h2⟩ v hv=>by rw [e,iw'] at hv;exact hv.elim (a.one h1 v) (b.one h2 v)
 mono:=λk ⟨c1,c2,e,h1,h2⟩=>⟨c1,c2,e,a.mono k h1,b.mono k h2⟩
@[reducible] def jM {γ α:Type} (to:γ->α) (a:Rp α):Rp γ where
 sz:=a.sz
 pos:=a.pos
 agg:=true
 cells:=λσ x cs=>a.cells σ (to x) cs
 len:=λh=>a.len h
 one:=λh=>a.one h
 mono:=λk h=>a.mono k h
structure TE where
 E:TypeId
 α:Type
 rp:Rp α
def wP:List TE->TypeId->TE
 | [],_=>⟨0,Unit,Z8⟩
 | e::r,E=>bif il' e.E E then e else wP r E
theorem Qs {n:Nat}:∀ {l:List TE},(l.all λe=>iX' e.rp.lo n)=true->∀ E,(wP l E).rp.lo<=n
 | [],_,_=>iP' _
 | e::r,h,E=>by
   rw [jI',ik'] at h;have k:∀ t:TE,t=e\/t=wP r E->t.rp.lo<=n:=λt ht=>by
    rcases ht with rfl | rfl
    ·exact iE' h.1
    ·exact Qs h.2 E
   refine k _ ?_;simp only [wP];cases il' e.E E with
   | true=>exact .inl rfl
   | false=>exact .inr rfl
section
variable {I:TypeId->Type} [∀ E,Rp (I E)]
structure Fd (I:TypeId->Type) [∀ E,Rp (I E)] (α:Type)(rp:Rp α) where
 lf:α->List (PV I)
 pa:(ρ:Type)->List (PV I)->(α->List (PV I)->Option ρ)->Option ρ
 oh:∀ (X:aY) (c:Cx) (σ:S) (x:α) (cs:List Value),rp.cells σ x cs->RG X c σ (lf x) cs
 mZ:∀ (ρ:Type) (ls:List (PV I)) (f:α->List (PV I)->Option ρ) (r:ρ),pa ρ ls f=some r->∃ x rest,f x rest=some r /\
  ∀ (X:aY) (c:Cx) (σ:S) (cs:List Value),RG X c σ ls cs->∃ c1 c2,cs=c1++c2/\rp.cells σ x c1/\RG X c σ rest c2
theorem RG.zC {X:aY}{c:Cx}{σ:S}{p:PV I}{r:List (PV I)}{cs:List Value}(h:RG X c σ (p::r) cs)(hp:kV p=false):∃ v c2,cs=[v]++c2/\RV X c σ p v/\RG X c σ r c2:=by
 simp only [RG] at h;obtain ⟨a,c2,e,h1 | ⟨_,v,e1,h1⟩,h2⟩:=h
 ·exact (by cases p<;>first | exact h1.elim | cases hp)
 ·exact ⟨v,c2,by rw [e,e1],h1,h2⟩
theorem RG.aM {X:aY}{c:Cx}{σ:S}{p:PV I}{ps:List (PV I)}{v:Value}{cs:List Value}(h0:kV p=false)(h:RV X c σ p v)(k:RG X c σ ps cs):RG X c σ (p::ps) (v::cs):=by simp only [RG];exact ⟨[v],cs,rfl,.inr ⟨h0,v,rfl,h⟩,k⟩
theorem RG.nl {X:aY}{c:Cx}{σ:S}:RG X c σ ([]:List (PV I)) []:=by simp only [RG]
theorem fC {X:aY}{c:Cx}{σ:S}{k:IntKind}{n:Int}:RV X c σ (.int k n:PV I) (.int k n):=by simp only [RV]
theorem rG {X:aY}{c:Cx}{σ:S}{b:Bool}:RV X c σ (.bool b:PV I) (.bool b):=by simp only [RV]
theorem vv {X:aY}{c:Cx}{σ:S}{b:ByteArray}:RV X c σ (.str b:PV I) (.string b):=by simp only [RV]
theorem bP {X:aY}{c:Cx}{σ:S}{E:TypeId}:RV X c σ (.nl E:PV I) (.slice none 0 0):=by simp only [RV]; exact ⟨none,rfl⟩
theorem yQ {X:aY}{c:Cx}{σ:S}{v:Value}:RV X c σ (.any:PV I) v:=by simp only [RV]
def jd (k:IntKind):Fd I Int (bf k) where
 lf:=λn=>[.int k n]
 pa:=λ_ ls f=>match ls with
  | .int k' n::r=>if k'=k then f n r else none
  | _=>none
 oh:=λX c σ x cs h=>by have e:cs=[.int k x]:=h;rw [e];exact RG.single rfl (by simp only [RV])
 mZ:=λρ ls f r h=>by
  split at h
  ·rename_i k' n rest;obtain ⟨e,h2⟩:=jm h;clear h;subst e;refine ⟨n,rest,h2,λX c σ cs hl=>?_⟩;obtain ⟨v,c2,e,h1,h2⟩:=hl.zC rfl;simp only [RV] at h1;subst h1;exact ⟨_,c2,e,rfl,h2⟩
  ·cases h
def tJ:Fd I Bool jv where
 lf:=λn=>[.bool n]
 pa:=λ_ ls f=>match ls with
  | .bool n::r=>f n r
  | _=>none
 oh:=λX c σ x cs h=>by have e:cs=[.bool x]:=h;rw [e];exact RG.single rfl (by simp only [RV])
 mZ:=λρ ls f r h=>by
  split at h
  ·rename_i n rest;refine ⟨n,rest,h,λX c σ cs hl=>?_⟩;obtain ⟨v,c2,e,h1,h2⟩:=hl.zC rfl;simp only [RV] at h1;subst h1;exact ⟨_,c2,e,rfl,h2⟩
  ·cases h
def Ci:Fd I ByteArray jI where
 lf:=λn=>[.str n]
 pa:=λ_ ls f=>match ls with
  | .str n::r=>f n r
  | _=>none
 oh:=λX c σ x cs h=>by have e:cs=[.string x]:=h;rw [e];exact RG.single rfl (by simp only [RV])
 mZ:=λρ ls f r h=>by
  split at h
  ·rename_i n rest;refine ⟨n,rest,h,λX c σ cs hl=>?_⟩;obtain ⟨v,c2,e,h1,h2⟩:=hl.zC rfl;simp only [RV] at h1;subst h1;exact ⟨_,c2,e,rfl,h2⟩
  ·cases h
def dB (E:TypeId):Fd I (List (I E)) aW where
 lf:=λxs=>[.sl E xs false]
 pa:=λ_ ls f=>match ls with
  | .sl E' xs _::r=>(gG E E' xs).bind λys=>f ys r
  | .nl E'::r=>bif il' E' E then f [] r else none
  | _=>none
 oh:=λX c σ xs cs h=>by obtain ⟨A,k,e,hs⟩:∃ A k,cs=[.slice A (xs:List (I E)).length k]/\Sl σ xs A k:=h;rw [e];refine RG.single rfl ?_;simp only [RV];exact ⟨A,k,rfl,hs,λe=>by cases e⟩
 mZ:=λρ ls f r h=>by
  split at h
  ·rename_i E' xs fl rest;obtain ⟨ys,hy,h⟩:=bind_some h;obtain ⟨e,rfl⟩:=iM hy;subst e;refine ⟨xs,rest,h,λX c σ cs hl=>?_⟩;obtain ⟨v,c2,e,h1,h2⟩:=hl.zC rfl;simp only [RV] at h1;obtain ⟨A,k,e1,hs,_⟩:=h1;exact ⟨[v],c2,e,⟨A,k,by rw [e1],hs⟩,h2⟩
  ·rename_i E' rest;obtain ⟨_,h⟩:=aK h;refine ⟨[],rest,h,λX c σ cs hl=>?_⟩;obtain ⟨v,c2,e,h1,h2⟩:=hl.zC rfl;simp only [RV] at h1;obtain ⟨A,e1⟩:=h1;exact ⟨[v],c2,e,⟨A,0,by rw [e1]; rfl,Sl.rH _ _ _ (iP' _)⟩,h2⟩
  ·cases h
def rf (E:TypeId)(fd:Fd I (I E) inferInstance):Fd I (I E) inferInstance where
 lf:=λx=>[.dat E x]
 pa:=λρ ls f=>match ls with
  | .dat E' x::r=>(nE E E' x).bind λy=>f y r
  | ls=>fd.pa ρ ls f
 oh:=λX c σ x cs h=>RG.one h
 mZ:=λρ ls f r h=>by
  split at h
  ·rename_i E' x rest;obtain ⟨y,hy,h⟩:=bind_some h;obtain ⟨e,rfl⟩:=za hy;subst e;refine ⟨x,rest,h,λX c σ cs hl=>?_⟩;simp only [RG] at hl;obtain ⟨a,c2,e,h1 | ⟨h1,_⟩,h2⟩:=hl
   ·exact ⟨a,c2,e,h1,h2⟩
   ·cases h1
  ·exact fd.mZ ρ _ f r h
def dh {α β:Type}{ra:Rp α}{rb:Rp β}(a:Fd I α ra)(b:Fd I β rb):Fd I (α×β) (bT ra rb) where
 lf:=λx=>a.lf x.1++b.lf x.2
 pa:=λρ ls f=>a.pa ρ ls λx r=>b.pa ρ r λy r=>f (x,y) r
 oh:=λX c σ x cs ⟨c1,c2,e,h1,h2⟩=>by rw [e];exact RG.app _ _ _ _ (a.oh X c σ _ _ h1) (b.oh X c σ _ _ h2)
 mZ:=λρ ls f r h=>by obtain ⟨x,r1,h,k1⟩:=a.mZ ρ _ _ r h;obtain ⟨y,r2,h,k2⟩:=b.mZ ρ _ _ r h;refine ⟨(x,y),r2,h,λX c σ cs hl=>?_⟩;obtain ⟨c1,c2,e,h1,h2⟩:=k1 X c σ cs hl;obtain ⟨c3,c4,e2,h3,h4⟩:=k2 X c σ c2 h2;exact ⟨c1++c3,c4,by rw [e,e2,iA'],⟨c1,c3,rfl,h1,h3⟩,h4⟩
def iZ {γ α:Type}{rg:Rp γ}{ra:Rp α}(a:Fd I α ra)(to:γ->α)(of:α->γ)(h:∀ x,to (of x)=x)(hc:∀ σ x cs,rg.cells σ x cs↔ra.cells σ (to x) cs):Fd I γ rg where
 lf:=λx=>a.lf (to x)
 pa:=λρ ls f=>a.pa ρ ls λx r=>f (of x) r
 oh:=λX c σ x cs hx=>a.oh X c σ _ _ ((hc σ x cs).1 hx)
 mZ:=λρ ls f r hr=>by obtain ⟨x,r1,hr,k1⟩:=a.mZ ρ _ _ r hr;refine ⟨of x,r1,hr,λX c σ cs hl=>?_⟩;obtain ⟨c1,c2,e,h1,h2⟩:=k1 X c σ cs hl;exact ⟨c1,c2,e,(hc σ _ _).2 (by rw [h]; exact h1),h2⟩
structure FE (I:TypeId->Type) [∀ E,Rp (I E)] where
 E:TypeId
 fd:Fd I (I E) inferInstance
def Ez:List (FE I)->TypeId->Option (FE I)
 | [],_=>none
 | e::r,E=>bif il' e.E E then some e else Ez r E
def BH (l:List (FE I))(E:TypeId)(x:I E):List (PV I):=match Ez l E with
 | some e=>if h:E=e.E then e.fd.lf (h▸x) else [.dat E x]
 | none=>[.dat E x]
def sN (l:List (FE I))(E:TypeId)(ls:List (PV I)):Option (I E):=match Ez l E with
 | some e=>if h:e.E=E then e.fd.pa (I E) ls λx r=>match r with
   | []=>some (h▸x)
   | _=>none else none
 | none=>none
def iP {α:Type}(p:α->Prop):List α->Prop
 | []=>True
 | x::r=>p x/\iP p r
omit [∀ E,Rp (I E)] in
theorem iP.mem {α:Type}{p:α->Prop}:∀ {l:List α},iP p l->∀ x∈l,p x
 | [],_,_,h=>by cases h
 | _::_,h,x,hx=>by
   rcases ir'.1 hx with rfl | hx
   ·exact h.1
   ·exact iP.mem h.2 x hx
def fB {α:Type}:List (Nat×α)->Nat->Option α
 | [],_=>none
 | x::r,k=>bif il' x.1 k then some x.2 else fB r k
omit [∀ E,Rp (I E)] in
theorem iI {α:Type}:∀ {l:List (Nat×α)} {k:Nat} {a:α},fB l k=some a->(k,a)∈l
 | [],_,_,h=>by cases h
 | x::r,k,a,h=>by
   simp only [fB] at h;cases hk:il' x.1 k with
   | true =>rw [hk] at h;cases h;have:=ii' hk;subst this;simp
   | false =>rw [hk] at h;exact List.mem_cons_of_mem _ (iI h)
structure U8 (I:TypeId->Type) where
 E:TypeId
 g:Int->I E
def BQ:List (U8 I)->(E:TypeId)->Option (Int->I E)
 | [],_=>none
 | e::r,E=>if h:e.E=E then some λk=>h▸e.g k else BQ r E
structure CZ (I:TypeId->Type) [∀ E,Rp (I E)] where
 sz:List (TypeId×Nat)
 one:List (TypeId×Unit)
 pK:List (TypeId×List (Nat×TypeId))
 el:List (TypeId×TypeId)
 str:List (TypeId×Unit)
 bool:List (TypeId×Unit)
 ik:List (TypeId×IntKind)
 fe:List (FE I)
 inf:List (TypeId×Nat×Nat×List (PV I))
 st:List (TypeId×List (Nat×Nat))
 eq:List (TypeId×(List (PV I)->List (PV I)->Option Bool))
 arr:List (TypeId×(TypeId×Nat×Nat))
 fb:List (FuncId×Unit)
 nest:List (TypeId×(TypeId×Nat)):=[]
 mp:List (TypeId×Kd):=[]
 u8:List (TypeId×Unit):=[]
 nW:List (U8 I):=[]
 lo:Nat:=0
def Pt (L:CZ I):aD I where
 sz:=fB L.sz
 one:=λT=>(fB L.one T).isSome
 off:=λT f=>(fB L.pK T).bind λl=>Option.bind l[f]? λx=>some x.1
 fty:=λT f=>(fB L.pK T).bind λl=>Option.bind l[f]? λx=>some x.2
 el:=fB L.el
 isStr:=λT=>(fB L.str T).isSome
 isBool:=λT=>(fB L.bool T).isSome
 ik:=fB L.ik
 lf:=BH L.fe
 of:=sN L.fe
 size:=λT=>(fB L.inf T).bind λx=>some x.1
 bytes:=λT=>(fB L.inf T).bind λx=>some x.2.1
 zero:=λT=>(fB L.inf T).bind λx=>some x.2.2
 rJ:=fB L.st
 rM:=λT a b=>(fB L.eq T).bind λf=>f a b
 arr:=fB L.arr
 mp:=fB L.mp
 fb:=λf=>(fB L.fb f).isSome
 nest:=fB L.nest
 u8:=λT=>(fB L.u8 T).isSome
 nW:=BQ L.nW
 lo:=L.lo
def tY (P:Program)(T:TypeId):Nat->List (Nat×TypeId)->Prop
 | _,[]=>True
 | i,x::r=>u7 P T i x.1/\(∃ fs fl,P.underlying T=some (.struct fs)/\fs[i]?=some fl/\fl.type=x.2)/\tY P T (i+1) r
omit [∀ E,Rp (I E)] in
theorem tY.at {P:Program}{T:TypeId}:∀ {l:List (Nat×TypeId)} {i j:Nat} {x:Nat×TypeId},tY P T i l->l[j]?=some x->u7 P T (i+j) x.1/\(∃ fs fl,P.underlying T=some (.struct fs)/\fs[i+j]?=some fl/\fl.type=x.2)
 | [],_,_,_,_,h=>by simp at h
 | y::r,i,0,x,hf,h=>by simp at h; subst h; exact ⟨hf.1,hf.2.1⟩
 | y::r,i,j+1,x,hf,h=>by
   have:=tY.at (i:=i+1) hf.2.2 (show r[j]?=some x by simpa using h)
   rwa [show i+1+j=i+(j+1) by omega] at this
def Xg (P:Program)(T:TypeId)(sz fE:Nat)(ls:List (PV I)):Prop:=∃ z,bZ P T z sz fE/\∀ X c σ,RG X c σ ls z.cells.toList
structure Qt (P:Program)(L:CZ I):Prop where
 sz:iP (λx=>uR P x.1 x.2) L.sz
 one:iP (λx=>fo P x.1) L.one
 pK:iP (λx=>tY P x.1 0 x.2) L.pK
 el:iP (λx=>P.underlying x.1=some (.slice x.2)/\∃ z b,bZ P x.2 z (Rp.sz (I x.2)) b/\z.cells.size=Rp.sz (I x.2)/\0<b) L.el
 str:iP (λx=>P.underlying x.1=some .string) L.str
 bool:iP (λx=>P.underlying x.1=some .bool) L.bool
 ik:iP (λx=>P.underlying x.1=some (.int x.2)) L.ik
 inf:iP (λx=>Xg P x.1 x.2.1 x.2.2.1 x.2.2.2) L.inf
 st:iP (λx=>(∃ fs,P.underlying x.1=some (.struct fs)/\fs.toList.mapM (λf=>(P.info? f.type).map λi=>(f.offset,i.size))=some x.2) \/
  ∃ m e ie,P.underlying x.1=some (.array m e)/\P.info? e=some ie/\x.2=(List.range m).map λj=>(j*ie.size,ie.size)) L.st
 eq:iP (λx=>∀ (X:aY) (c:Cx) (σ:S) (ls ms:List (PV I)) (r:Bool) (cs ds:List Value),x.2 ls ms=some r->RG X c σ ls cs->RG X c σ ms ds ->
  P.eqGuardType P.depth x.1=false/\∃ j,iX' j 10000=true/\Sx.EqAt P j x.1 (.agg cs.toArray) (.agg ds.toArray) r) L.eq
 arr:iP (λx=>P.underlying x.1=some (.array x.2.2.1 x.2.1)/\(P.info? x.2.1).map (·.size)=some x.2.2.2) L.arr
 mp:iP (λx=>Ap I P x.1 x.2) L.mp:=by exact trivial
 u8:iP (λx=>P.underlying x.1=some (.int .u8)/\∀ y:I x.1,∃ n,BH L.fe x.1 y=[.int .u8 n]) L.u8:=by exact trivial
 nW:iP (λx=>∀ (σ:S) (k:Int),Rp.cells σ (x.g k) [.int .u8 k]) L.nW:=by exact trivial
 fb:iP (λx=>jq P x.1) L.fb
 low:∀ E,Rp.lo (I E)<=L.lo:=by exact λE=>Go.Qx.Qs rfl E
omit [∀ E,Rp (I E)] in
theorem Rl {P:Program}{T e:TypeId}{m k b:Nat}{z:Value}{pl:List (Nat×Nat)}(hu:P.underlying T=some (.array m e))(hi:bZ P e z k b)(hp:pl=(List.range m).map λj=>(j*k,k)) :
 ∃ m e ie,P.underlying T=some (.array m e)/\P.info? e=some ie/\pl=(List.range m).map λj=>(j*ie.size,ie.size):=by
 obtain ⟨i,h1,h2,h3,h4⟩:=hi;exact ⟨m,e,i,hu,h1,by rw [hp,h3]⟩
theorem OO:∀ {l:List (U8 I)} {E:TypeId} {g:Int->I E},iP (λx=>∀ (σ:S) (k:Int),Rp.cells σ (x.g k) [.int .u8 k]) l->BQ l E=some g->∀ (σ:S) (k:Int),Rp.cells σ (g k) [.int .u8 k]
 | [],_,_,_,h=>by cases h
 | e::r,E,g,hl,h=>by
   unfold BQ at h;split at h
   ·rename_i e1;subst e1;cases h;exact hl.1
   ·exact OO hl.2 h
omit [∀ E,Rp (I E)] in
theorem yX {α:Type}{o:Option α}(h:o.isSome=true):∃ a,o=some a:=jE'.1 h
omit [∀ E,Rp (I E)] in
theorem bZ.inj {P:Program}{T:TypeId}{z z':Value}{a a' b b':Nat}(h:bZ P T z a b)(k:bZ P T z' a' b'):z=z'/\a=a'/\b=b':=by obtain ⟨i,h1,h2,h3,h4⟩:=h;obtain ⟨j,k1,k2,k3,k4⟩:=k;rw [h1] at k1;cases k1;rw [h2] at k2;cases k2;exact ⟨rfl,h3.symm.trans k3,h4.symm.trans k4⟩
theorem xq {fe:List (FE I)}{X:aY}{c:Cx}{σ:S}{E:TypeId}{ls:List (PV I)}{x:I E}{cs:List Value}(hx:sN fe E ls=some x)(hl:RG X c σ ls cs):Rp.cells σ x cs:=by
 unfold sN at hx;split at hx
 ·rename_i e he;split at hx
  ·rename_i e1;subst e1;obtain ⟨y,rest,h1,h2⟩:=e.fd.mZ _ _ _ _ hx;obtain ⟨c1,c2,e2,h3,h4⟩:=h2 X c σ cs hl;split at h1
   ·cases h1;simp only [RG] at h4;rw [e2,h4,jo'];exact h3
   ·cases h1
  ·cases hx
 ·cases hx
theorem QY {P:Program}{L:CZ I}(h:Qt P L):aV P (Pt L) where
 low:=h.low
 sz:=λT k hk=>h.sz.mem _ (iI hk)
 one:=λT hk=>by obtain ⟨a,ha⟩:=yX hk; exact h.one.mem _ (iI ha)
 off:=λT f o hk=>by obtain ⟨l,hl,hk⟩:=bind_some hk;obtain ⟨x,hx,hk⟩:=bind_some hk;cases hk;have:=(tY.at (h.pK.mem _ (iI hl)) hx).1;rw [iO'] at this;exact this
 fty:=λT f o hk=>by obtain ⟨l,hl,hk⟩:=bind_some hk;obtain ⟨x,hx,hk⟩:=bind_some hk;cases hk;have:=(tY.at (h.pK.mem _ (iI hl)) hx).2;rw [iO'] at this;exact this
 el:=λT E hk=>by obtain ⟨h1,z,b,⟨i,e1,e2,e3,e4⟩,_⟩:=h.el.mem _ (iI hk);exact ⟨h1,by rw [e1]; simp only [jc']; rw [e3]⟩
 isStr:=λT hk=>by obtain ⟨a,ha⟩:=yX hk; exact h.str.mem _ (iI ha)
 isBool:=λT hk=>by obtain ⟨a,ha⟩:=yX hk; exact h.bool.mem _ (iI ha)
 ik:=λT k hk=>h.ik.mem _ (iI hk)
 lf:=λX c σ E x cs hx=>by
  show RG X c σ (BH L.fe E x) cs;unfold BH;split
  ·rename_i e he;split
   ·rename_i e1;subst e1;exact e.fd.oh X c σ x cs hx
   ·exact RG.one hx
  ·exact RG.one hx
 of:=λ_ _ _ _ _ _ _ hx hl=>xq hx hl
 size:=λT k hk=>by obtain ⟨x,hx,hk⟩:=bind_some hk;cases hk;obtain ⟨z,⟨i,e1,e2,e3,e4⟩,_⟩:=h.inf.mem _ (iI hx);rw [e1,jc',e3]
 slice:=λT E b hT hb=>by
  obtain ⟨x,hx,hk⟩:=bind_some hb;cases hk;obtain ⟨z,h1,_⟩:=h.inf.mem _ (iI hx);obtain ⟨h2,z',b',h3,h4,h5⟩:=h.el.mem _ (iI hT);obtain ⟨rfl,e1,e2⟩:=bZ.inj h1 h3;simp only at e1 e2 h1;refine ⟨z,h2,?_,h4,Rp.pos,?_⟩
  ·rw [<- e1]; exact h1
  ·rw [e2]; exact h5
 zero:=λT ls hk=>by obtain ⟨x,hx,hk⟩:=bind_some hk;cases hk;obtain ⟨z,h1,h2⟩:=h.inf.mem _ (iI hx);exact ⟨z,_,_,_,h1,rfl,h2⟩
 rJ:=λT pl ls hp hz=>by
  obtain ⟨x,hx,hk⟩:=bind_some hz;cases hk;obtain ⟨z,⟨i,e1,e2,e3,e4⟩,h2⟩:=h.inf.mem _ (iI hx);rcases h.st.mem _ (iI hp) with ⟨fs,h3,h4⟩ | ⟨m,e,ie,h3,h4,h5⟩
  ·exact ⟨z.cells.toList,.inl ⟨fs,i,z,h3,e1,e2,by simp,h4⟩,h2⟩
  ·exact ⟨z.cells.toList,.inr ⟨m,e,ie,i,z,h3,h4,e1,e2,by simp,h5⟩,h2⟩
 rM:=λX c σ T ls ms r cs ds hk h1 h2=>by obtain ⟨f,hf,hk⟩:=bind_some hk;exact h.eq.mem _ (iI hf) X c σ ls ms r cs ds hk h1 h2
 arr:=λT E m k hk=>h.arr.mem _ (iI hk)
 mp:=λT kd hk=>h.mp.mem _ (iI hk)
 fb:=λf hk=>by obtain ⟨a,ha⟩:=yX hk; exact h.fb.mem _ (iI ha)
 u8:=λT hk=>by obtain ⟨a,ha⟩:=yX hk; exact h.u8.mem _ (iI ha)
 nW:=λE g hk=>OO h.nW hk
def BV (P:Program)(k:Nat)(e:TypeId)(c:Nat)(xs ys:Array Value)(l:List Nat)(r:Bool):Prop:=∀ d w,(Op.eqItems (d+k) e c xs ys l).run P w=.ok r w
omit [∀ E,Rp (I E)] in
theorem WC {P:Program}{k:Nat}{e:TypeId}{c:Nat}{xs ys:Array Value}:BV P k e c xs ys [] true:=λd w=>by simp [Op.eqItems]
omit [∀ E,Rp (I E)] in
theorem Lm {P:Program}{k:Nat}{e:TypeId}{c i:Nat}{xs ys:Array Value}{is:List Nat}{a b:Value}{r1 r2:Bool}(ha:∀ w,(part e xs (i*c)).run P w=.ok a w)(hb:∀ w,(part e ys (i*c)).run P w=.ok b w)
 (h1:Sx.EqAt P k e a b r1) (h2:BV P k e c xs ys is r2):BV P k e c xs ys (i::is) (r1&&r2):=λd w=>by
 simp only [Op.eqItems,Sem.run_bind,ha,hb,Result.andThen_ok,h1 d w];cases r1
 ·simp
 ·simpa using h2 d w
omit [∀ E,Rp (I E)] in
theorem WG {P:Program}{k m b K:Nat}{T e:TypeId}{z:Value}{xs ys:Array Value}{r:Bool}(hu:P.underlying T=some (.array m e))(hi:bZ P e z k b)(h:BV P K e k xs ys (List.range m) r):Sx.EqAt P (K+1) T (.agg xs) (.agg ys) r:=λd w=>by
 obtain ⟨i,h1,h2,h3,h4⟩:=hi;have:=run_equalIn_array (P:=P) (w:=w) (d+K) xs ys hu h1;rw [<- jf',this];have hc:P.cellsOf e=k:=by simp [Program.cellsOf,h1,h3]
 rw [hc];exact h d w
def A9 (fe:List (FE I))(T:TypeId)(g:I T->I T->Bool):List (PV I)->List (PV I)->Option Bool:=λls ms =>
 match ls,ms with
 | [.dat E x],[.dat E' y]=>(nE T E x).bind λx=>(nE T E' y).bind λy=>some (g x y)
 | [.dat E x],ms=>(nE T E x).bind λx=>(sN fe T ms).bind λy=>some (g x y)
 | ls,[.dat E' y]=>(sN fe T ls).bind λx=>(nE T E' y).bind λy=>some (g x y)
 | ls,ms=>(sN fe T ls).bind λx=>(sN fe T ms).bind λy=>some (g x y)
theorem Cm {X:aY}{c:Cx}{σ:S}{T E:TypeId}{x:I E}{y:I T}{cs:List Value}(h:nE T E x=some y)(hl:RG X c σ [.dat E x] cs):Rp.cells σ y cs:=by
 obtain ⟨e,rfl⟩:=za h;subst e;simp only [RG] at hl;obtain ⟨a,r,e,h1 | ⟨h0,_⟩,h2⟩:=hl
 ·subst h2;rw [e,jo'];exact h1
 ·cases h0
theorem WQ {fe:List (FE I)}{T:TypeId}{g:I T->I T->Bool}{X:aY}{c:Cx}{σ:S}{ls ms:List (PV I)}{r:Bool}{cs ds:List Value}(h:A9 fe T g ls ms=some r)(hl:RG X c σ ls cs)(hm:RG X c σ ms ds) :
 ∃ x y,Rp.cells σ x cs/\Rp.cells σ y ds/\g x y=r:=by
 unfold A9 at h;split at h
 ·obtain ⟨x,hx,h⟩:=bind_some h;obtain ⟨y,hy,h⟩:=bind_some h;exact ⟨x,y,Cm hx hl,Cm hy hm,iU'.inj h⟩
 ·obtain ⟨x,hx,h⟩:=bind_some h;obtain ⟨y,hy,h⟩:=bind_some h;exact ⟨x,y,Cm hx hl,xq hy hm,iU'.inj h⟩
 ·obtain ⟨x,hx,h⟩:=bind_some h;obtain ⟨y,hy,h⟩:=bind_some h;exact ⟨x,y,xq hx hl,Cm hy hm,iU'.inj h⟩
 ·obtain ⟨x,hx,h⟩:=bind_some h;obtain ⟨y,hy,h⟩:=bind_some h;exact ⟨x,y,xq hx hl,xq hy hm,iU'.inj h⟩
omit [∀ E,Rp (I E)] in
theorem bD' [∀ E,Rp (I E)] {P:Program}{r:Row I}(h:r.run=qf r.ps λ_=>none):lC P r:=by
 intro σ a vs af res hA hnd happ;rw [h] at happ;have:∀ (ps:List Pk) (R:Type) (a:eU I ps),nU ps (qf ps λ_=>(none:Option R)) a=none:=by
  intro ps R a
  induction ps with
  | nil=>rfl
  | cons p r ih=>exact ih a.2
 rw [this] at happ;cases happ
def dx (f:Func):Code:=match f.body with
 | some c=>c
 | none=>.skip
inductive BE where
 | slot (t:Nat)
 | pK (T:TypeId) (f:Nat) (e:BE)
 | ld (T:TypeId) (e:BE)
 | len (e:BE)
 | cst (n:Int)
def BX (tb:aD I)(s:St I):BE->Option (PV I)
 | .slot t=>s.F t
 | .pK T f e=>(BX tb s e).bind λp=>(tb.off T f).bind λd=>match p with
   | .ptr l o=>some (.ptr l (o+d))
   | .ep E x o=>some (.ep E x (o+d))
   | _=>none
 | .ld T e=>(BX tb s e).bind λp=>match p with
   | .ptr l o=>match s.O l with
     | some (some (.var _ ls _))=>kZ tb T ls o
     | _=>none
   | .ep E x o=>kZ tb T [.dat E x] o
   | _=>none
 | .len e=>(BX tb s e).bind λp=>match p with
   | .sl _ xs _=>some (.int .i64 (xs.length:Int))
   | .nl _=>some (.int .i64 0)
   | .str t=>some (.int .i64 (t.size:Int))
   | .vw l=>match s.O l with
     | some (some (.row _ xs _))=>some (.int .i64 (xs.length:Int))
     | some (some (.ro _ xs))=>some (.int .i64 (xs.length:Int))
     | some (some (.bo _ xs))=>some (.int .i64 (xs.length:Int))
     | _=>none
   | .vs l _ lo=>match s.O l with
     | some (some (.row _ xs _))=>some (.int .i64 ((xs.drop lo).length:Int))
     | _=>none
   | _=>none
 | .cst n=>some (.int .i64 n)
def aJ (tb:aD I)(e:BE)(k:Nat)(s:St I):Option Nat:=match BX tb s e with
 | some (.int _ n)=>some (n.toNat+k)
 | _=>none
end
end Go.Qx
end
section
open List renaming length_pos_iff->kq',mem_cons->ir'
namespace Go.Sx
open Go Go.RowKit
structure Key where
 Kind:Int
 Text:ByteArray
mutual
inductive Val where
 | mk (Kind:Int) (uF:Int) (Text:ByteArray) (Kids:List Val) (Keys:List Key) (Entries:List dA) (uG:List ByteArray)
inductive dA where
 | mk (ng:List Val) (Fails:Bool) (Result:Val)
end
namespace Val
def Kind:Val->Int | mk a _ _ _ _ _ _=>a
def uF:Val->Int | mk _ a _ _ _ _ _=>a
def Text:Val->ByteArray | mk _ _ a _ _ _ _=>a
def Kids:Val->List Val | mk _ _ _ a _ _ _=>a
def Keys:Val->List Key | mk _ _ _ _ a _ _=>a
def Entries:Val->List dA | mk _ _ _ _ _ a _=>a
def uG:Val->List ByteArray | mk _ _ _ _ _ _ a=>a
end Val
namespace dA
def ng:dA->List Val | mk a _ _=>a
def Fails:dA->Bool | mk _ a _=>a
def Result:dA->Val | mk _ _ a=>a
end dA
instance ol:Rp Key where
 sz:=2
 pos:=by decide
 agg:=true
 cells:=λ_ k cs=>cs=[.int .i64 k.Kind,.string k.Text]
 len:=λh=>by rw [h]; rfl
 one:=λh v hv=>by rw [h] at hv; simp at hv; rcases hv with rfl | rfl<;>rfl
 mono:=λ_ h=>h
def lg (σ:S)(len:Nat)(A:Option Addr)(c:Nat)(cs:List Value):Prop:=len<=c/\c<=maxLen/\(0<len->∃ b o,A=some ⟨b,o,none⟩/\jQ σ b o cs)
mutual
def RV (σ:S):Val->List Value->Prop
 | .mk k n t kids keys C8 Im,cs=>∃ A1 c1 A2 c2 A3 c3 A4 c4 f1 f3,
    cs=[.int .i64 k,.int .i64 n,.string t,.slice A1 kids.length c1,.slice A2 keys.length c2,.slice A3 C8.length c3,.slice A4 Im.length c4] /\
    lg σ kids.length A1 c1 f1/\ah σ kids f1/\Sl σ keys A2 c2/\lg σ C8.length A3 c3 f3/\iJ σ C8 f3/\Sl σ Im A4 c4
def ah (σ:S):List Val->List Value->Prop
 | [],cs=>cs=[]
 | x::xs,cs=>∃ c r,cs=c++r/\RV σ x c/\ah σ xs r
def RE (σ:S):dA->List Value->Prop
 | .mk args fails res,cs=>∃ A c f r,cs=.slice A args.length c::.bool fails::r/\lg σ args.length A c f/\ah σ args f/\RV σ res r
def iJ (σ:S):List dA->List Value->Prop
 | [],cs=>cs=[]
 | x::xs,cs=>∃ c r,cs=c++r/\RE σ x c/\iJ σ xs r
end
theorem RV.len {σ:S}:∀ {v:Val} {cs:List Value},RV σ v cs->cs.length=7
 | .mk ..,cs,h=>by simp only [RV] at h; obtain ⟨_,_,_,_,_,_,_,_,_,_,rfl,_⟩:=h; rfl
theorem RV.one {σ:S}:∀ {v:Val} {cs:List Value},RV σ v cs->∀ u∈cs,u.oneCell'=true
 | .mk ..,cs,h=>by simp only [RV] at h;obtain ⟨_,_,_,_,_,_,_,_,_,_,rfl,_⟩:=h;intro u hu;simp at hu;rcases hu with rfl | rfl | rfl | rfl | rfl | rfl | rfl<;>rfl
theorem RE.len {σ:S}:∀ {v:dA} {cs:List Value},RE σ v cs->cs.length=9
 | .mk ..,cs,h=>by simp only [RE] at h; obtain ⟨_,_,_,r,rfl,_,_,h4⟩:=h; simp [h4.len]
theorem RE.one {σ:S}:∀ {v:dA} {cs:List Value},RE σ v cs->∀ u∈cs,u.oneCell'=true
 | .mk ..,cs,h=>by
   simp only [RE] at h;obtain ⟨_,_,_,r,rfl,_,_,h4⟩:=h;intro u hu;simp only [ir'] at hu;rcases hu with rfl | rfl | hu
   ·rfl
   ·rfl
   ·exact h4.one u hu
theorem lg.mono {σ τ:S}{len:Nat}{A:Option Addr}{c:Nat}{cs:List Value}(h:lg σ len A c cs)(k:dN σ τ)(hn:0<len->cs≠[]):lg τ len A c cs :=
 ⟨h.1,h.2.1,λhl=>by obtain ⟨b,o,e,hs⟩:=h.2.2 hl; exact ⟨b,o,e,hs.mono (hn hl) k⟩⟩
theorem ah.ne {σ:S}:∀ {xs:List Val} {cs:List Value},ah σ xs cs->0<xs.length->cs≠[]
 | [],_,_,h=>by simp at h
 | x::xs,cs,h,_=>by simp only [ah] at h;obtain ⟨c,r,rfl,h1,_⟩:=h;intro e;have:=h1.len;rw [List.append_eq_nil_iff] at e;rw [e.1] at this;simp at this
theorem iJ.ne {σ:S}:∀ {xs:List dA} {cs:List Value},iJ σ xs cs->0<xs.length->cs≠[]
 | [],_,_,h=>by simp at h
 | x::xs,cs,h,_=>by simp only [iJ] at h;obtain ⟨c,r,rfl,h1,_⟩:=h;intro e;have:=h1.len;rw [List.append_eq_nil_iff] at e;rw [e.1] at this;simp at this
mutual
theorem RV.mono {σ τ:S}(k:dN σ τ):∀ {v:Val} {cs:List Value},RV σ v cs->RV τ v cs
 | .mk ..,cs,h=>by simp only [RV] at h ⊢;obtain ⟨A1,c1,A2,c2,A3,c3,A4,c4,f1,f3,e,h1,h2,h3,h4,h5,h6⟩:=h;exact ⟨A1,c1,A2,c2,A3,c3,A4,c4,f1,f3,e,h1.mono k h2.ne,ah.mono k h2,h3.mono k,h4.mono k h5.ne,iJ.mono k h5,h6.mono k⟩
theorem ah.mono {σ τ:S}(k:dN σ τ):∀ {v:List Val} {cs:List Value},ah σ v cs->ah τ v cs
 | [],cs,h=>by simp only [ah] at h ⊢; exact h
 | x::xs,cs,h=>by simp only [ah] at h ⊢;obtain ⟨c,r,e,h1,h2⟩:=h;exact ⟨c,r,e,RV.mono k h1,ah.mono k h2⟩
theorem RE.mono {σ τ:S}(k:dN σ τ):∀ {v:dA} {cs:List Value},RE σ v cs->RE τ v cs
 | .mk ..,cs,h=>by simp only [RE] at h ⊢;obtain ⟨A,c,f,r,e,h1,h2,h3⟩:=h;exact ⟨A,c,f,r,e,h1.mono k h2.ne,ah.mono k h2,RV.mono k h3⟩
theorem iJ.mono {σ τ:S}(k:dN σ τ):∀ {v:List dA} {cs:List Value},iJ σ v cs->iJ τ v cs
 | [],cs,h=>by simp only [iJ] at h ⊢; exact h
 | x::xs,cs,h=>by simp only [iJ] at h ⊢;obtain ⟨c,r,e,h1,h2⟩:=h;exact ⟨c,r,e,RE.mono k h1,iJ.mono k h2⟩
end
instance l9:Rp Val where
 sz:=7
 pos:=by decide
 agg:=true
 cells:=λσ v cs=>RV σ v cs
 len:=RV.len
 one:=RV.one
 mono:=λk h=>RV.mono k h
instance uH:Rp dA where
 sz:=9
 pos:=by decide
 agg:=true
 cells:=λσ v cs=>RE σ v cs
 len:=RE.len
 one:=RE.one
 mono:=λk h=>RE.mono k h
theorem ah.flat {σ:S}:∀ {xs:List Val} {cs:List Value},ah σ xs cs↔bE σ xs cs
 | [],cs=>by simp only [ah,bE]
 | x::xs,cs=>by
   simp only [ah,bE];constructor
   ·rintro ⟨c,r,e,h1,h2⟩; exact ⟨c,r,e,h1,ah.flat.1 h2⟩
   ·rintro ⟨c,r,e,h1,h2⟩; exact ⟨c,r,e,h1,ah.flat.2 h2⟩
theorem iJ.flat {σ:S}:∀ {xs:List dA} {cs:List Value},iJ σ xs cs↔bE σ xs cs
 | [],cs=>by simp only [iJ,bE]
 | x::xs,cs=>by
   simp only [iJ,bE];constructor
   ·rintro ⟨c,r,e,h1,h2⟩; exact ⟨c,r,e,h1,iJ.flat.1 h2⟩
   ·rintro ⟨c,r,e,h1,h2⟩; exact ⟨c,r,e,h1,iJ.flat.2 h2⟩
theorem lg.sl {α:Type} [Rp α] {σ:S}{xs:List α}{A:Option Addr}{c:Nat}{cs:List Value}(h:lg σ xs.length A c cs)(hf:bE σ xs cs):Sl σ xs A c :=
 ⟨h.1,h.2.1,cs,hf,λhn=>h.2.2 (kq'.2 hn)⟩
theorem lg.of {α:Type} [Rp α] {σ:S}{xs:List α}{A:Option Addr}{c:Nat}(h:Sl σ xs A c):∃ cs,lg σ xs.length A c cs/\bE σ xs cs:=by obtain ⟨h1,h2,cs,h3,h4⟩:=h;exact ⟨cs,⟨h1,h2,λhl=>h4 (kq'.1 hl)⟩,h3⟩
theorem Val.zD {σ:S}{v:Val}{cs:List Value}:Rp.cells σ v cs↔∃ A1 c1 A2 c2 A3 c3 A4 c4,
 cs=[.int .i64 v.Kind,.int .i64 v.uF,.string v.Text,.slice A1 v.Kids.length c1,.slice A2 v.Keys.length c2,.slice A3 v.Entries.length c3,.slice A4 v.uG.length c4] /\
 Sl σ v.Kids A1 c1/\Sl σ v.Keys A2 c2/\Sl σ v.Entries A3 c3/\Sl σ v.uG A4 c4:=by
 cases v with
 | mk k n t kids keys C8 Im =>
   show RV σ _ cs↔_;simp only [RV,Val.Kind,Val.uF,Val.Text,Val.Kids,Val.Keys,Val.Entries,Val.uG];constructor
   ·rintro ⟨A1,c1,A2,c2,A3,c3,A4,c4,f1,f3,e,h1,h2,h3,h4,h5,h6⟩;exact ⟨A1,c1,A2,c2,A3,c3,A4,c4,e,h1.sl (ah.flat.1 h2),h3,h4.sl (iJ.flat.1 h5),h6⟩
   ·rintro ⟨A1,c1,A2,c2,A3,c3,A4,c4,e,h1,h3,h4,h6⟩;obtain ⟨f1,k1,k2⟩:=lg.of h1;obtain ⟨f3,k4,k5⟩:=lg.of h4;exact ⟨A1,c1,A2,c2,A3,c3,A4,c4,f1,f3,e,k1,ah.flat.2 k2,h3,k4,iJ.flat.2 k5,h6⟩
theorem dA.zD {σ:S}{v:dA}{cs:List Value}:Rp.cells σ v cs↔∃ A c A1 c1 A2 c2 A3 c3 A4 c4,
 cs=[.slice A v.ng.length c,.bool v.Fails,.int .i64 v.Result.Kind,.int .i64 v.Result.uF,.string v.Result.Text,.slice A1 v.Result.Kids.length c1,.slice A2 v.Result.Keys.length c2,.slice A3 v.Result.Entries.length c3,.slice A4 v.Result.uG.length c4] /\
 Sl σ v.ng A c/\Sl σ v.Result.Kids A1 c1/\Sl σ v.Result.Keys A2 c2/\Sl σ v.Result.Entries A3 c3/\Sl σ v.Result.uG A4 c4:=by
 cases v with
 | mk args fails res =>
   show RE σ _ cs↔_;simp only [RE,dA.ng,dA.Fails,dA.Result];constructor
   ·rintro ⟨A,c,f,r,rfl,h1,h2,h3⟩;obtain ⟨A1,c1,A2,c2,A3,c3,A4,c4,rfl,k1,k2,k3,k4⟩:=Val.zD.1 h3;exact ⟨A,c,A1,c1,A2,c2,A3,c3,A4,c4,rfl,h1.sl (ah.flat.1 h2),k1,k2,k3,k4⟩
   ·rintro ⟨A,c,A1,c1,A2,c2,A3,c3,A4,c4,rfl,h1,k1,k2,k3,k4⟩;obtain ⟨f,j1,j2⟩:=lg.of h1;exact ⟨A,c,f,_,rfl,j1,ah.flat.2 j2,Val.zD.2 ⟨A1,c1,A2,c2,A3,c3,A4,c4,rfl,k1,k2,k3,k4⟩⟩
theorem Key.zD {σ:S}{v:Key}{cs:List Value}:Rp.cells σ v cs↔cs=[.int .i64 v.Kind,.string v.Text]:=Iff.rfl
end Go.Sx
end
section
namespace Go.Qx
open Go Go.RowKit Go.Sx
end Go.Qx
namespace Go.Sx
open Go Go.RowKit Go.Qx
abbrev Key.to (v:Key):Int×ByteArray:=(v.Kind,v.Text)
abbrev Key.of (x:Int×ByteArray):Key:=⟨x.1,x.2⟩
theorem Key.zF (σ:S)(v:Key)(cs:List Value):ol.cells σ v cs↔(bT (bf .i64) jI).cells σ v.to cs:=by
 constructor
 ·intro h;have h:cs=[.int .i64 v.Kind,.string v.Text]:=h;exact ⟨[_],[_],h,rfl,rfl⟩
 ·rintro ⟨c1,c2,e,rfl,rfl⟩;exact e
abbrev Val.to (v:Val):Int×(Int×(ByteArray×(List Val×(List Key×(List dA×List ByteArray))))):=(v.Kind,v.uF,v.Text,v.Kids,v.Keys,v.Entries,v.uG)
abbrev Val.of (x:Int×(Int×(ByteArray×(List Val×(List Key×(List dA×List ByteArray)))))):Val:=.mk x.1 x.2.1 x.2.2.1 x.2.2.2.1 x.2.2.2.2.1 x.2.2.2.2.2.1 x.2.2.2.2.2.2
theorem Val.zF (σ:S)(v:Val)(cs:List Value):l9.cells σ v cs ↔
 (bT (bf .i64) (bT (bf .i64) (bT jI (bT (@aW _ l9) (bT (@aW _ ol) (bT (@aW _ uH) (@aW _ jI))))))).cells σ v.to cs:=by
 refine Val.zD.trans ?_;constructor
 ·rintro ⟨A1,c1,A2,c2,A3,c3,A4,c4,e,h1,h2,h3,h4⟩;exact ⟨[_],_,e,rfl,[_],_,rfl,rfl,[_],_,rfl,rfl,[_],_,rfl,⟨A1,c1,rfl,h1⟩,[_],_,rfl,⟨A2,c2,rfl,h2⟩,[_],_,rfl,⟨A3,c3,rfl,h3⟩,A4,c4,rfl,h4⟩
 ·rintro ⟨_,_,rfl,rfl,_,_,rfl,rfl,_,_,rfl,rfl,_,_,rfl,⟨A1,c1,rfl,h1⟩,_,_,rfl,⟨A2,c2,rfl,h2⟩,_,_,rfl,⟨A3,c3,rfl,h3⟩,A4,c4,rfl,h4⟩;exact ⟨A1,c1,A2,c2,A3,c3,A4,c4,rfl,h1,h2,h3,h4⟩
abbrev dA.to (v:dA):List Val×(Bool×Val):=(v.ng,v.Fails,v.Result)
abbrev dA.of (x:List Val×(Bool×Val)):dA:=.mk x.1 x.2.1 x.2.2
theorem dA.zF (σ:S)(v:dA)(cs:List Value):uH.cells σ v cs↔(bT (@aW _ l9) (bT jv l9)).cells σ v.to cs:=by
 cases v with
 | mk args fails res =>
   constructor
   ·intro h;have h:RE σ (.mk args fails res) cs:=h;simp only [RE] at h;obtain ⟨A,c,f,r,rfl,h1,h2,h3⟩:=h;exact ⟨[_],_,rfl,⟨A,c,rfl,h1.sl (ah.flat.1 h2)⟩,[_],_,rfl,rfl,h3⟩
   ·rintro ⟨_,_,rfl,⟨A,c,rfl,h1⟩,_,r,rfl,rfl,h2⟩;show RE σ (.mk args fails res) _;simp only [RE];obtain ⟨f,j1,j2⟩:=lg.of h1;exact ⟨A,c,f,r,rfl,j1,ah.flat.2 j2,h2⟩
end Go.Sx
end
section
open Nat renaming beq->il',eq_of_beq_eq_true->ii'
open Option renaming some->iU'
namespace Go.Qx
open Go Go.RowKit Go.Sx
section
variable {I:TypeId->Type} [∀ E,Rp (I E)] {P:Program}
def AO (a b:ByteArray):Option Int:=some (BS a b)
theorem TW {f : FuncId} {fn : Func} (hf : P.funcs[f]? = some fn) (hname : (fn.name == "runtime.NumGoroutine") = false) (hb : fn.body.isNone = true) (hn : Extern.findNext fn = none) (he : Extern.find fn = some Extern.BytealgCompare.compare) :
 lC P (⟨f,[.d .str,.d .str],[.k (.d (.int .i64))],AO⟩:Row I):=by
 intro σ a vs af res hA _ happ;obtain ⟨v,_,p1,_,rfl,rfl,⟨h1,rfl⟩,v2,_,p2,_,rfl,rfl,⟨h2,rfl⟩,rfl,rfl⟩:=hA;have h1:v=.string a.1:=h1;have h2:v2=.string a.2.1:=h2;have hr:AO a.1 a.2.1=some res:=happ;subst h1;subst h2;cases hr;refine .inr ⟨_,σ,aX' hf hname hb hn he a.1 a.2.1 σ.w,Stp.refl _ σ,[.int .i64 (BS a.1 a.2.1)],[],[],⟨rfl,rfl,⟨_,rfl,rfl,rfl⟩,rfl,by simp [ows],λg hg=>by simp [ows] at hg⟩⟩
def gN {α:Type}(b:Nat)(xs:List α):Option (List α):=(bN (0+xs.length) b).bind λ_=>some xs
def JK:Hints I:=aI []
def Nf:dn I:=λ_ _ _ _ _ _=>none
theorem TG:iT P (Nf:dn I):=⟨λ_ _ _ _ _ _=>rfl,λ_ _ _ _ _ h=>by cases h⟩
def Gg (E:TypeId)(xs:List (I E)):St I:=⟨8,λi=>bif il' i 0 then some (.sl E xs false) else none,λ_=>none,0⟩
theorem Ea {tb:aD I}(ht:aV P tb)(hmx:P.follows .mixedOrders=true){f:FuncId}{fn:Func}{T E:TypeId}{b:Nat}{i0 i1 i2:Nat}{p0 p1 p2 p3:String}{a2:Array Edge}{t0 t1 t2 t3 t4:TypeId}{C9:Code}
 (hf : P.funcs[f]? = some fn) (hname : (fn.name == "runtime.NumGoroutine") = false) (hn : fn.ntmps = 8) (hres : fn.results.toList = [.tmp 2]) (hT : P.underlying T = some (.slice E))
 (hb:fn.body=some (.seq (.region i0 #[⟨some 2,.assign (.const (.slice none 0 0)),t0,p0,#[],none⟩] false) (.seq (.seq (.region i1 #[⟨some 3,.move (.tmp 0),t1,p1,#[],none⟩,⟨some 4,.binOp .eql T (.tmp 3) (.const (.slice none 0 0)) t2,t3,p2,a2,none⟩] false)
   (.cond (.tmp 4) (.seq (.region i2 #[⟨some 2,.assign (.const (.slice none 0 0)),t4,p3,#[],none⟩] false) .ret) .skip)) C9)))
 (hcode:iy (JK:Hints I) C9 1=true) (hex:∀ xs:List (I E),jG tb Nf JK C9 1 (List (I E)) (Gg E xs) (fP tb [.d (.sl E)] [.k (.row E false)] [.tmp 2])=gN b xs) (hlo:tb.lo=0:=by rfl) :
 lC P (⟨f,[.d (.sl E)],[.k (.row E false)],gN b⟩:Row I):=by
 refine Ee ht 8 hf hb hname hn hres rfl (hlo:=hlo) λX c σ F Q a res hX hrel happ hk=>?_;subst hX;have happ:gN b a.1=some res:=happ;have h0:=hrel.frame 0 (.sl E a.1 false) rfl;simp only [RV] at h0;obtain ⟨A,k,e0,hs,_⟩:=h0;refine wp_seq (wp_region_lit ?_);refine l8 (.slice none 0 0) rfl rfl ?_;refine wpList_nil (eH (wp_seq (wp_seq (wp_region_lit ?_))));refine gT (.slice A (a.1:List (I E)).length k) e0 rfl ?_;refine nN (.slice A (a.1:List (I E)).length k) (.slice none 0 0) (.bool A.isNone) rfl rfl rfl rfl (XO hT) ?_;refine wpList_nil (eH ?_);have hgen:∀ (G:Fr),G 0=F 0->Rel X c σ (Gg E a.1) 8 G:=λG hG =>
  ⟨rfl,(λi p hp=>by
   have:(bif il' i 0 then some (PV.sl E a.1 false) else none)=some p:=hp
   obtain ⟨hi,hp⟩:=aK this;cases hp;have:=ii' hi;subst this;rw [hG];exact hrel.frame 0 _ rfl),(λl o ho=>by cases ho),(λ_ _ _ _ _ ⟨_,h⟩=>by cases h),(λ_ _ _ ⟨_,h⟩=>by cases h),λl _=>hrel.fq l rfl,hrel.base,ja.uz λ_ _ _ _ _ _ h=>by cases h⟩
 refine (Bool.eq_false_or_eq_true A.isNone).elim (λDa=>?_) (λDa=>?_)
 ·have e:a.1=[]:=hs.db' Da;have hr:res=[]:=by rw [e] at happ;simp [gN,bN] at happ;exact (iU'.inj happ).symm
  refine yI rfl Da rfl ?_;refine wp_seq (wp_region_lit ?_);refine l8 (.slice none 0 0) rfl rfl ?_;refine wpList_nil (eH (wp_ret (UK ?_)));subst hr;refine hk .ret (Qx.put (Gg E a.1) (some 2) (.nl E)) c σ _ ?_ (Cx.le_refl c) ((hgen (bD (bD (bD F (some 2) (.slice none 0 0)) (some 3) (.slice A (a.1:List (I E)).length k)) (some 4) (.bool A.isNone)) rfl).put (some 2) _ (.slice none 0 0) (by simp only [RV]; exact ⟨none,rfl⟩)) (Stp.refl _ σ)
  rfl
 ·refine uX rfl Da rfl ?_;refine wp_skip (eH ?_);exact jS ht TG hmx C9 1 hcode _ _ _ res X c σ _ Q rfl ((hex a.1).trans happ) (hgen _ rfl) λe s' c' τ F' g1 g2 g3 g4 _=>hk e s' c' τ F' g1 g2 g3 g4
end
abbrev kI:V:=.k (.d (.int .i64))
abbrev kB:V:=.k (.d .bool)
abbrev kS:V:=.k (.d .str)
abbrev kL (E:TypeId):V:=.k (.d (.sl E))
abbrev kD (E:TypeId):V:=.k (.d (.dat E))
abbrev kR (E:TypeId):V:=.k (.row E false)
abbrev kT (E:TypeId):V:=.k (.row E true)
abbrev pI:Pk:=.d (.int .i64)
abbrev pB:Pk:=.d .bool
abbrev pS:Pk:=.d .str
abbrev pL (E:TypeId):Pk:=.d (.sl E)
abbrev pD (E:TypeId):Pk:=.d (.dat E)
end Go.Qx
end
section
open Array renaming ext_getElem?->kc',getElem?_append_left->jS',getElem?_eq_getElem->iZ',getElem?_eq_none->jA',getElem?_modify->jB',getElem?_toList->iy',length_toList->iM',ofFn->js'
open Bool renaming and_eq_true->ik'
open List renaming all_eq_true->iu',append_assoc->iA',append_nil->jo',eq_nil_of_length_eq_zero->iJ',ext_getElem?->jT',getElem?_append_left->iD',getElem?_append_right->iv',getElem?_cons_succ->kt',getElem?_drop->jj',getElem?_eq_getElem->in',getElem?_eq_none->iK',getElem?_map->jv',getElem?_take_of_lt->iB',getElem?_toArray->jp',getElem_mem->iL',length_map->kf',take_left->jh',toArray->je'
open Nat renaming add_mul->jb',le_of_not_lt->jL',le_refl->ip',mul_le_mul_right->iR',mul_one->jX',zero_add->iO',zero_le->iP'
open Option renaming bind_some->io',isSome_iff_exists->jE',map_some->jc',some->iU'
namespace Go.Qx
open Go Go.RowKit Go.Sx
section
variable {α:Type}
def iw (g:α->α->Option Int)(x y:α):Bool:=match g x y with
 | some r=>decide (r<0)
 | none=>false
structure zG (lt:α->α->Bool)(xs:List α):Prop where
 zH:∀ x∈xs,lt x x=false
 trans:∀ x∈xs,∀ y∈xs,∀ z∈xs,lt x y=true->lt y z=true->lt x z=true
 ntrans:∀ x∈xs,∀ y∈xs,∀ z∈xs,lt x y=false->lt y z=false->lt x z=false
structure zI (xs:List α)(g:α->α->Option Int):Prop where
 len:xs.length<4611686018427387904
 dfd:∀ x∈xs,∀ y∈xs,∃ r,g x y=some r
 wk:zG (iw g) xs
def pR (lt:α->α->Bool)(xs:List α):List α :=
 if h:0<xs.length then
  haveI:Inhabited (Fin xs.length):=⟨⟨0,h⟩⟩
  (Sort.pdq (λi j:Fin xs.length=>lt xs[i] xs[j]) (js' (n:=xs.length) id) 0 xs.length (Lib.bitLen xs.length) true true).toList.map λi=>xs[i]
 else []
def Kz (xs:List α)(g:α->α->Option Int):Bool:=decide (xs.length<4611686018427387904)&&(xs.all (λx=>xs.all λy=>(g x y).isSome)&&(xs.all (λx=>!iw g x x) &&
 (xs.all (λx=>xs.all λy=>xs.all λz=>!(iw g x y&&iw g y z)||iw g x z)&&xs.all λx=>xs.all λy=>xs.all λz=>(iw g x y||iw g y z)||!iw g x z)))
theorem RS {xs:List α}{g:α->α->Option Int}:Kz xs g=true↔zI xs g:=by
 unfold Kz;simp only [ik',iu',decide_eq_true_eq];constructor
 ·rintro ⟨h1,h2,h3,h4,h5⟩;refine ⟨h1,λx hx y hy=>jE'.1 (h2 x hx y hy),λx hx=>by simpa using h3 x hx,λx hx y hy z hz a b=>?_,λx hx y hy z hz a b=>?_⟩
  ·have:=h4 x hx y hy z hz;rw [a,b] at this;simpa using this
  ·have:=h5 x hx y hy z hz;rw [a,b] at this;simpa using this
 ·rintro ⟨h1,h2,h3,h4,h5⟩;refine ⟨h1,λx hx y hy=>jE'.2 (h2 x hx y hy),λx hx=>by rw [h3 x hx]; rfl,λx hx y hy z hz=>?_,λx hx y hy z hz=>?_⟩
  ·cases a:iw g x y with
   | false=>rfl
   | true =>
     cases b:iw g y z with
     | false=>rfl
     | true=>rw [h4 x hx y hy z hz a b]; rfl
  ·cases a:iw g x y with
   | true=>rfl
   | false =>
     cases b:iw g y z with
     | true=>rfl
     | false=>rw [h5 x hx y hy z hz a b]; rfl
instance (xs:List α) (g:α->α->Option Int):Decidable (zI xs g):=decidable_of_iff _ RS
noncomputable def Gl (xs:List α)(g:α->α->Option Int):Option (List α):=if zI xs g then some (pR (iw g) xs) else none
variable {lt:α->α->Bool}{xs:List α}
structure uI (lt:α->α->Bool)(xs:List α):Prop where
 zH:∀ x∈xs,lt x x=false
 trans:∀ x∈xs,∀ y∈xs,∀ z∈xs,lt x y=true->lt y z=true->lt x z=true
 tot:∀ x∈xs,∀ y∈xs,lt x y=false->lt y x=false->x=y
theorem uI.sub {ys:List α}(h:uI lt xs)(hs:∀ x∈ys,x∈xs):uI lt ys :=
 ⟨λx hx=>h.zH x (hs x hx),λx hx y hy z hz=>h.trans x (hs x hx) y (hs y hy) z (hs z hz),λx hx y hy=>h.tot x (hs x hx) y (hs y hy)⟩
theorem uI.ntrans (h:uI lt xs){x y z:α}(hx:x∈xs)(hy:y∈xs)(hz:z∈xs)(h1:lt x y=false)(h2:lt y z=false):lt x z=false:=by
 cases h3:lt x z with
 | false=>rfl
 | true =>
   exfalso;cases h4:lt y x with
   | true=>rw [h.trans y hy x hx z hz h4 h3] at h2; cases h2
   | false =>have:=h.tot x hx y hy h1 h4;subst this;rw [h3] at h2; cases h2
abbrev Od (lt:α->α->Bool)(l:List α):Prop:=l.Pairwise λa b=>lt b a=false
theorem uI.wk (h:uI lt xs):zG lt xs:=⟨h.zH,h.trans,λ_ hx _ hy _ hz h1 h2=>h.ntrans hx hy hz h1 h2⟩
theorem KN {β:Type}(d:Array β){m:Nat}(h:d.size=m):d.extract 0 m=d:=by subst h; simp
theorem bP' (h:zG lt xs):(pR lt xs).Perm xs/\Od lt (pR lt xs):=by
 unfold pR;split
 ·rename_i hn
  letI:Inhabited (Fin xs.length):=⟨⟨0,hn⟩⟩
  have Io:Sort.SWO (λi j:Fin xs.length=>lt xs[i] xs[j]):=⟨λi=>h.zH _ (iL' _),λi j k=>h.trans _ (iL' _) _ (iL' _) _ (iL' _),λi j k=>h.ntrans _ (iL' _) _ (iL' _) _ (iL' _)⟩;have hh:=Sort.pdq_sorts (λi j:Fin xs.length=>lt xs[i] xs[j]) Io (js' (n:=xs.length) id) 0 xs.length (Lib.bitLen xs.length) true true (iP' _) (by simp) (Or.inl rfl)
  generalize Sort.pdq (λi j:Fin xs.length=>lt xs[i] xs[j]) (js' (n:=xs.length) id) 0 xs.length (Lib.bitLen xs.length) true true=d' at hh ⊢;obtain ⟨⟨h1,_,h2⟩,hs⟩:=hh;have hsz:d'.size=xs.length:=by rw [h1]; simp
  have hp':d'.toList.Perm (List.ofFn (n:=xs.length) id):=by
   rw [KN d' hsz,KN (js' (n:=xs.length) (id:Fin xs.length->Fin xs.length)) (by simp)] at h2
   simpa using h2
  have hxs:(List.ofFn (n:=xs.length) id).map (λi:Fin xs.length=>xs[i])=xs:=by
   apply List.ext_getElem
   ·simp
   ·intro i h1 h2;simp
  refine ⟨?_,?_⟩
  ·have:=hp'.map (λi:Fin xs.length=>xs[i]);rwa [hxs] at this
  ·rw [Od,List.pairwise_iff_getElem];intro i j hi hj hij;simp only [kf',iM'] at hi hj;have:=hs i j (iP' _) hij (by omega)
   rw [getElem!_pos d' j hj,getElem!_pos d' i hi] at this;simp only [List.getElem_map,Array.getElem_toList];exact this
 ·rename_i hn;have:xs=[]:=iJ' (by omega)
  subst this;exact ⟨List.Perm.refl _,List.Pairwise.nil⟩
theorem SB (h:zG lt xs):(pR lt xs).length=xs.length:=(bP' h).1.length_eq
theorem Uq {g:α->α->Option Int}{ys:List α}(h:Gl xs g=some ys):zI xs g/\ys=pR (iw g) xs:=by
 unfold Gl at h;split at h
 ·rename_i hk; cases h; exact ⟨hk,rfl⟩
 ·cases h
end
section
variable {α:Type} [Rp α] {σ τ:S}
def yB (cs:List Value)(sz n:Nat)(i:Fin n):List Value:=(cs.drop (i.val*sz)).take sz
theorem xV {xs:List α}{cs:List Value}(h:bE σ xs cs)(i:Fin xs.length):Rp.cells σ xs[i] (yB cs (Rp.sz α) xs.length i):=by
 obtain ⟨c1,cj,c2,e1,e2,e3,_⟩:=A7 h (in' i.isLt);have:yB cs (Rp.sz α) xs.length i=cj:=by unfold yB;rw [e1,iA',<- e2,List.drop_left,<- Rp.len e3,jh']
 rw [this]; exact e3
theorem KT {n:Nat}{enc:Fin n->List Value}{xs:Fin n->α}(h:∀ i,Rp.cells σ (xs i) (enc i)):∀ l:List (Fin n),bE σ (l.map xs) (l.flatMap enc)
 | []=>rfl
 | i::l=>⟨_,_,rfl,h i,KT h l⟩
theorem DF {n k:Nat}{enc:Fin n->List Value}(hk:∀ i,(enc i).length=k)(hp:0<k):∀ (l:List (Fin n)) (t:Nat),t<l.length*k->(l.flatMap enc)[t]?=(l[t / k]?.bind λi=>(enc i)[t%k]?)
 | [],t,h=>by simp at h
 | i::l,t,h=>by
   rw [List.flatMap_cons];by_cases hlt:t<k
   ·rw [iD' (by rw [hk]; exact hlt),Nat.div_eq_of_lt hlt,Nat.mod_eq_of_lt hlt]
    rfl
   ·have hle:=jL' hlt;rw [iv' (by rw [hk]; exact hle),hk,DF hk hp l (t-k) (by simp [jb'] at h; omega)]
    have e1:t / k=(t-k) / k+1:=Nat.div_eq_sub_div hp hle;have e2:t%k=(t-k)%k:=Nat.mod_eq_sub_mod hle;rw [e1,e2,kt']
theorem LW {n k:Nat} [Inhabited (Fin n)] {enc:Fin n->List Value}(hk:∀ i,(enc i).length=k)(hp:0<k)(d:Array (Fin n)):(Sort.flatK enc k d).toList=d.toList.flatMap enc:=by
 apply jT';intro t;by_cases ht:t<d.size*k
 ·rw [DF hk hp d.toList t (by simpa using ht)]
  have hq:t / k<d.size:=by rw [Nat.div_lt_iff_lt_mul hp]; exact ht
  have hm:t%k<k:=Nat.mod_lt _ hp;have e1:(Sort.flatK enc k d)[t]! = (enc d[t / k]!)[t%k]! := Sort.get_flatK enc k d t ht;rw [getElem!_pos (Sort.flatK enc k d) t (by simpa using ht)] at e1
  rw [iy',iZ' (by simpa using ht),e1,iy',iZ' hq,getElem!_pos d (t / k) hq]
  simp only [io'];rw [in' (by rw [hk]; exact hm),getElem!_pos _ _ (by rw [hk]; exact hm)]
 ·rw [iK' (by simp; omega),iK' (by
   have:(d.toList.flatMap enc).length=d.size*k:=by
    have:∀ l:List (Fin n),(l.flatMap enc).length=l.length*k:=by
     intro l
     induction l with
     | nil=>simp
     | cons i l ih=>simp [ih,hk,jb',Nat.add_comm]
    simpa using this d.toList
   omega)]
def gQ (w:World)(g m:Nat)(F:Array Value)(os:Array Obj):World:=Sort.grow (Sort.putRow id (Sort.ahead w m) g 0 F) os
theorem Gs {w:World}{g m:Nat}{F:Array Value}{os:Array Obj}{b:Nat}(hb:b<w.heap.size)(hne:b≠g):(gQ w g m F os).heap[b]?=w.heap[b]?:=by simp only [gQ,Sort.grow,Sort.putRow,Sort.mapBlock,Sort.ahead];rw [jS' (by simpa using hb),jB',if_neg (λe=>hne e.symm)]
theorem aR' {w:World}{g m:Nat}{F:Array Value}{os:Array Obj}{au:Array Value}{E:TypeId}(h:w.heap[g]?=some (.cells au E (0,0)))(hF:F.size<=au.size) :
 (gQ w g m F os).heap[g]?=some (.cells (F.toList++au.toList.drop F.size).toArray E (0,0)):=by
 have hb:g<w.heap.size:=gF h;simp only [gQ,Sort.grow,Sort.putRow,Sort.mapBlock,Sort.ahead];rw [jS' (by simpa using hb),jB',if_pos rfl,h]
 simp only [jc',Sort.onCells,iU'.injEq,Obj.cells.injEq,and_self,and_true];apply kc';intro i;simp only [Sort.putCells,Array.getElem?_mapIdx,jp',id];by_cases hi:i<F.size
 ·rw [iD' (by simpa using hi),iy',iZ' hi,iZ' (by omega:i<au.size)]
  simp only [jc',iP',iO',hi,and_self,if_true,Nat.sub_zero];rw [getElem!_pos F i hi]
 ·rw [iv' (by simpa using jL' hi),jj']
  rw [iM',Nat.add_sub_cancel' (jL' hi),iy'];cases hc:au[i]? with
  | none=>rfl
  | some v=>simp [hi]
def qZ (σ:S)(W:World):S:=⟨W,λb=>if b<σ.N then σ.L b else (0,b)⟩
theorem Y8 (w:World)(g m:Nat)(F:Array Value)(os:Array Obj):(gQ w g m F os).heap.size=w.heap.size+os.size:=by simp [gQ,Sort.grow,Sort.putRow,Sort.mapBlock,Sort.ahead]
theorem xS {g m k:Nat}{E:TypeId}{xs:List α}{A:Option Addr}{F:Array Value}{os:Array Obj}(hown:cu (some g) false E σ xs A k):Stp (λb=>b=g) σ (qZ σ (gQ σ.w g m F os)):=by
 obtain ⟨au,cs,rfl,hh,h1,h2,h3,h4,h5,h6⟩:=hown;have hL:∀ b,b<σ.N->(qZ σ (gQ σ.w g m F os)).L b=σ.L b:=λb hb=>by simp [qZ,hb]
 refine ⟨⟨?_,λb hb=>by rw [hL b hb]; exact ip' _,λb o v ho hc=>?_,?_,λb o hb hf=>?_⟩,rfl,rfl,rfl,λb hb hn=>⟨Gs hb hn,by rw [hL b hb]⟩⟩
 ·show σ.w.heap.size<=(gQ σ.w g m F os).heap.size;rw [Y8]; omega
 ·have hlt:=mO hc;by_cases e:b=g
  ·subst e;rw [show (σ.L b).1=0 from h6] at ho
   omega
  ·exact (o7 (Gs hlt e) o).trans hc
 ·show σ.w.drawn<=(gQ σ.w g m F os).drawn;simp [gQ,Sort.grow,Sort.putRow,Sort.mapBlock,Sort.ahead]
 ·by_cases e:b=g
  ·subst e;have hb':∃ c',(gQ σ.w b m F os).heap[b]?=some (.cells c' E (0,0)):=⟨_,by
    simp only [gQ,Sort.grow,Sort.putRow,Sort.mapBlock,Sort.ahead];rw [jS' (by simpa using gF hh),jB',if_pos rfl,hh]
    rfl⟩
   obtain ⟨c',hb'⟩:=hb';exact Eg hb' o
  ·exact (tO (Gs hb e) o).trans hf
theorem DZ {g m k:Nat}{E:TypeId}{xs ys:List α}{A:Option Addr}{F:Array Value}{os:Array Obj}(hown:cu (some g) false E σ xs A k)(hF:bE σ ys F.toList)(hl:ys.length=xs.length) :
 cu (some g) false E (qZ σ (gQ σ.w g m F os)) ys A k:=by
 have hst:=xS (m:=m) (F:=F) (os:=os) hown;obtain ⟨au,cs,rfl,hh,h1,h2,h3,h4,h5,h6⟩:=hown;have uq:F.size=xs.length*Rp.sz α:=by rw [<- iM',hF.len,hl]
 have hle:F.size<=au.size:=by rw [uq,h3]; exact iR' _ h1
 refine ⟨(F.toList++au.toList.drop F.size).toArray,F.toList,rfl,aR' hh hle,by rw [hl]; exact h1,h2,?_,hF.mono hst.bS,?_,?_⟩
 ·simp; omega
 ·rw [hl,<- uq,<- iM'];exact jh'
 ·show (if g<σ.N then σ.L g else (0,g)).1=_
  rw [if_pos (gF hh)];exact h6
theorem Vl {τ υ:S}(h:Stp l5 τ υ):∃ q os,υ.w=Sort.grow (τ.w.drewN q) os:=by
 refine ⟨υ.w.drawn-τ.w.drawn,υ.w.heap.extract τ.w.heap.size υ.w.heap.size,?_⟩;have hd:=h.bS.drawn;have hs:τ.w.heap.size<=υ.w.heap.size:=h.bS.size;have e1:=h.os;have e2:=h.tape;have e3:=h.output;have hheap:υ.w.heap=τ.w.heap++υ.w.heap.extract τ.w.heap.size υ.w.heap.size:=by
  apply kc';intro i;by_cases hi:i<τ.w.heap.size
  ·rw [jS' hi];exact (h.block i hi (λh=>h)).1
  ·rw [Array.getElem?_append_right (jL' hi),Array.getElem?_extract];have:τ.w.heap.size+(i-τ.w.heap.size)=i:=by omega
   rw [this];split
   ·rfl
   ·rw [jA' (by omega)]
 cases hu:υ.w with
 | mk heap tape drawn os output =>rw [hu] at hd hs e1 e2 e3 hheap;simp only [Sort.grow,World.drewN];simp only at hd hheap e1 e2 e3;rw [<- hheap,e1,e2,e3];congr 1;omega
theorem Kb {β:Type} [Inhabited β] (enc:β->Value)(w:World)(g:Nat)(dk:Array β):Sort.putRow enc w g 0 dk=Sort.putRow id w g 0 (dk.map enc):=by
 unfold Sort.putRow;congr 1;funext c;unfold Sort.putCells;apply kc';intro i;simp only [Array.getElem?_mapIdx,Array.size_map];cases hc:c[i]? with
 | none=>rfl
 | some v =>
   simp only [jc',iU'.injEq];split
   ·rename_i hi;have hi':i-0<dk.size:=by omega
    rw [getElem!_pos dk (i-0) hi',id,getElem!_pos (dk.map enc) (i-0) (by simpa using hi'),Array.getElem_map]
   ·rfl
theorem Px {P:Program}{g:FuncId}(h:jq P g)(args:Array Value)(w:World):(callFunc g args).run P w=.ok (.enter g args) w:=by
 obtain ⟨fn,c,h1,h2,h3⟩:=h;have h3' : fn.name ≠ "runtime.NumGoroutine" := by simpa using h3
 simp [callFunc,h1,h2,h3']
theorem Q7 {P:Program}{g:FuncId}{vs:List Value}{τ:S}{E:S->Prop}{R:Value->S->Prop}(hb:jq P g)(h:iB P g vs τ E R):Calls P g vs.toArray τ.w λe w'=>∃ v υ,e=.returned v/\υ.w=w'/\E υ/\R v υ:=by
 rcases h with ⟨_,h⟩ | ⟨v,υ,h,_⟩
 ·exact h
 ·rw [Px hb] at h; cases h
omit [Rp α] in
theorem Jq {n:Nat}{xs:Fin n->α}{l:List α}{gf:α->α->Option Int}(hl:∀ i,xs i∈l)(ht:zG (iw gf) l)(cf:Fin n->Fin n->Int)(hcf:∀ i j,gf (xs i) (xs j)=some (cf i j)):Sort.SWO (Go.Proofs.ltOf cf):=by
 have e:∀ i j,Go.Proofs.ltOf cf i j=iw gf (xs i) (xs j):=λi j=>by simp [Go.Proofs.ltOf,iw,hcf i j]
 refine ⟨λi=>?_,λi j k h1 h2=>?_,λi j k h1 h2=>?_⟩
 ·rw [e]; exact ht.zH _ (hl i)
 ·rw [e] at *; exact ht.trans _ (hl i) _ (hl j) _ (hl k) h1 h2
 ·rw [e] at *; exact ht.ntrans _ (hl i) _ (hl j) _ (hl k) h1 h2
omit [Rp α] in
theorem RY {xs:List α}(hn:0<xs.length) [inst:Inhabited (Fin xs.length)] {gf:α->α->Option Int}{cf:Fin xs.length->Fin xs.length->Int}(hcf:∀ i j:Fin xs.length,gf xs[i.val] xs[j.val]=some (cf i j))(hi:inst=⟨⟨0,hn⟩⟩) :
 (Sort.pdq (Go.Proofs.ltOf cf) (js' (n:=xs.length) id) 0 xs.length (Lib.bitLen xs.length) true true).toList.map (λi:Fin xs.length=>xs[i])=pR (iw gf) xs:=by
 have e:Go.Proofs.ltOf cf=λi j:Fin xs.length=>iw gf xs[i] xs[j]:=by funext i j;have:=hcf i j;have e2:gf xs[i] xs[j]=some (cf i j):=this;simp only [Go.Proofs.ltOf,iw,e2]
 rw [e];unfold pR;rw [dif_pos hn];subst hi;rfl
open Go.Proofs in
theorem aA' {P:Program}{ρ:Go.Shelf.Ren}(L:Go.Proofs.SlLaysF0.n6 P ρ){fs:Array Field}{E:TypeId}(hu:P.underlying (ρ.t 24)=some (.struct fs))(hz:(P.info? (ρ.t 24)).map (·.size)=some (Rp.sz α)){xs:List α}{A:Option Addr}{k:Nat}{ow:Option Nat}(hown:cu ow false E σ xs A k)
 {g:FuncId} {cb:List Value} {gf:α->α->Option Int} (hok:zI xs gf) (hbody:jq P g)
 (hcmp:∀ τ,Stp (λb=>σ.N<=b\/ow=some b) σ τ->∀ x y cx cy r,Rp.cells τ x cx->Rp.cells τ y cy->gf x y=some r->iB P g ([.agg cx.toArray,.agg cy.toArray]++cb) τ (Stp l5 τ) λv _=>v=.int .i64 r) :
 iB P (ρ.f 6) [.slice A xs.length k,.func (.func g) #[] cb.toArray] σ (Stp (λb=>ow=some b) σ) λv τ=>v=.tuple #[]/\cu ow false E τ (pR (iw gf) xs) A k:=by
 have hb6:jq P (ρ.f 6):=by obtain ⟨nm,hn,hf⟩:=L.f6;exact ⟨_,_,hf,rfl,hn⟩
 refine .inl ⟨hb6,?_⟩;cases hx:xs with
 | nil =>subst hx;refine (AnyF.slices_SortFunc_none L A k (.func (.func g) #[] cb.toArray) σ.w).mono λe w' ⟨he,hw⟩=>?_;exact ⟨_,σ,he,hw.symm,Stp.refl _ _,rfl,hown⟩
 | cons x0 r0 =>
   rw [<- hx];cases ow with
   | none =>
     rcases hown with ⟨e,_⟩ | ⟨e,_⟩
     ·rw [hx] at e; cases e
     ·cases e
   | some gb =>
     have hown0:=hown;obtain ⟨au,cs,rfl,hh,h1,h2,h3,h4,h5,h6⟩:=hown;have hn:0<xs.length:=by rw [hx]; simp
     let n:=xs.length
     letI:Inhabited (Fin xs.length):=⟨⟨0,hn⟩⟩
     let enc:Fin xs.length->List Value:=yB cs (Rp.sz α) xs.length
     have hpos:=Rp.pos (α:=α);have hek:∀ i,(enc i).length=Rp.sz α:=λi=>Rp.len (xV h4 i);have he1:∀ i,∀ v∈enc i,v.oneCell'=true:=λi v hv=>Rp.one (xV h4 i) v hv
     let cf:Fin xs.length->Fin xs.length->Int:=λi j=>(gf xs[i] xs[j]).getD 0
     have hcf:∀ i j:Fin xs.length,gf xs[i.val] xs[j.val]=some (cf i j):=λi j=>by obtain ⟨r,hr⟩:=hok.dfd xs[i] (iL' _) xs[j] (iL' _);have hr':gf xs[i.val] xs[j.val]=some r:=hr;show _=some ((gf xs[i.val] xs[j.val]).getD 0);rw [hr']; rfl
     have CK:∀ {υ:S} (_:dN σ υ) (dk:Array (Fin xs.length)),bE υ (dk.toList.map λi=>xs[i]) (Sort.flatK enc (Rp.sz α) dk).toList:=λhw dk=>by rw [LW hek hpos];exact (KT (λi=>xV h4 i) dk.toList).mono hw
     have hcur:∀ j,j<xs.length*Rp.sz α->au[j]?=cs[j]?:=λj hj=>by rw [<- h5,iB' hj,iy']
     have hd0:(Sort.flatK enc (Rp.sz α) (js' (n:=xs.length) id)).toList=cs:=by
      have hA:=CK (dN.refl σ) (js' (n:=xs.length) id);apply jT';intro t;by_cases ht:t<xs.length*Rp.sz α
      ·rw [LW hek hpos,DF hek hpos _ t (by simpa using ht)]
       have hq:t / Rp.sz α<xs.length:=by rw [Nat.div_lt_iff_lt_mul hpos]; exact ht
       simp only [Array.toList_ofFn,List.getElem?_ofFn,hq,dite_true,io',id];simp only [enc,yB];rw [iB' (Nat.mod_lt _ hpos),jj'];congr 1;exact Nat.div_add_mod' t (Rp.sz α)
      ·rw [iK' (by simp; omega),iK' (by rw [h4.len]; omega)]
     have hholds:Sort.HoldsK enc (Rp.sz α) σ.w gb 0 (js' (n:=xs.length) id):=by
      intro j hj;have hj':j<xs.length*Rp.sz α:=by simpa using hj
      have hjc:j<cs.length:=by rw [h4.len]; exact hj'
      refine ⟨?_,by simp [World.frozen?,hh]⟩
      have e1:σ.w.cell? ⟨gb,0+j,none⟩=au[j]?:=by simp [World.cell?,hh]
      rw [e1,hcur j hj',getElem!_pos _ j (by simpa using hj'),in' hjc]
      congr 1;have:=congrArg (λl:List Value=>l[j]?) hd0;simp only [iy'] at this;rw [iZ' (by simpa using hj'),in' hjc] at this
      exact (iU'.inj this).symm
     have hlt:gb<σ.w.heap.size:=gF hh;have hcl:CmpLays P g cb.toArray enc (Rp.sz α) cf gb 0 (js' (n:=xs.length) (id:Fin xs.length->Fin xs.length)).size σ.w:=by
      intro m os dk hdk i j;have hst:=xS (m:=m) (F:=Sort.flatK enc (Rp.sz α) dk) (os:=os) hown0;have hc:=hcmp (qZ σ (gQ σ.w gb m (Sort.flatK enc (Rp.sz α) dk) os)) (hst.mono λb _ e=>.inr (by rw [e])) xs[i] xs[j] (enc i) (enc j) (cf i j) (Rp.mono hst.bS (xV h4 i)) (Rp.mono hst.bS (xV h4 j)) (hcf i j)
      have hc':=Q7 hbody hc;have e:(#[Value.agg (enc i).toArray,Value.agg (enc j).toArray]++cb.toArray)=([Value.agg (enc i).toArray,Value.agg (enc j).toArray]++cb).toArray:=by simp
      rw [e];refine Calls.mono hc' λe w' ⟨v,υ,h1,h2,h3,h4⟩=>?_;obtain ⟨q,os',ho⟩:=Vl h3;exact ⟨by rw [h1,h4],q,os',by rw [<- h2]; exact ho⟩
     have aE:∀ w,(isAgg (ρ.t 24)).run P w=.ok true w:=λw=>by simp [isAgg,run_underlying hu]
     have main:=AnyQ.slices_SortFunc_eq L (Rp.sz α) aE (λw=>Sx.run_sizeOf hz w) enc hek he1 cf (Jq (xs:=λi:Fin xs.length=>xs[i]) (l:=xs) (λi=>iL' _) hok.wk cf hcf) g cb.toArray gb 0 k (js' (n:=xs.length) id) σ.w (Px hbody) hcl hholds hlt (by simp only [Array.size_ofFn]; exact hok.len)
     have hs:(js' (n:=xs.length) (id:Fin xs.length->Fin xs.length)).size=xs.length:=by simp
     rw [hs] at main;have Qu:=RY hn hcf rfl;have Io:=Jq (xs:=λi:Fin xs.length=>xs[i]) (l:=xs) (λi=>iL' _) hok.wk cf hcf;have hp:=(Sort.pdq_sorts (ltOf cf) Io (js' (n:=xs.length) id) 0 xs.length (Lib.bitLen xs.length) true true (iP' _) (by simp) (Or.inl rfl)).1
     generalize Sort.pdq (ltOf cf) (js' (n:=xs.length) id) 0 xs.length (Lib.bitLen xs.length) true true=d' at main Qu hp;refine Calls.mono main λe w' ⟨he,m,os,hw⟩=>?_;have hst:=xS (m:=m) (F:=Sort.flatK enc (Rp.sz α) d') (os:=os) hown0;refine ⟨_,qZ σ (gQ σ.w gb m (Sort.flatK enc (Rp.sz α) d') os),he,hw.symm,hst.mono λb _ e=>by rw [e],rfl,?_⟩
     rw [<- Qu];exact DZ hown0 (CK (dN.refl σ) d') (by simp; rw [hp.1]; simp)
end
section
variable {I:TypeId->Type} [∀ E,Rp (I E)] {P:Program}
noncomputable def xP {α:Type}(xs:List α)(g:α->α->Option Int):Option (Unit×List α):=(Gl xs g).bind λys=>some ((),ys)
theorem ZW {σ τ:S}{E:TypeId}{ks:List Kd}{rs:List V}{v1 v2:Value}{gr:List Nat}{res:Unit}:Post (I:=I) σ τ [.row E false,.fn ks rs] [] [v1,v2] res gr (.tuple #[]) [] [] [] :=
 ⟨rfl,rfl,⟨rfl,rfl⟩,rfl,by simp [ows],λg hg=>by simp [ows] at hg⟩
theorem bR' {ρ:Go.Shelf.Ren}(L:Go.Proofs.SlLaysF0.n6 P ρ){fs:Array Field}(f:FuncId)(hf:ρ.f 6=f){E:TypeId}(hE:ρ.t 24=E)(hu:P.underlying E=some (.struct fs))(hz:(P.info? E).map (·.size)=some (Rp.sz (I E))) :
 oZ P (⟨f,E,[.fn [.dat E,.dat E] [.k (.d (.int .i64))]],[],λxs g=>xP xs g⟩:Rio I):=by
 subst hf;subst hE;intro σ xs a vs af res ys hA hnd happ;obtain ⟨v1,vs1,p1,q1,e1,e2,⟨A,k,ow,e3,hown,e4⟩,v2,vs2,p2,q2,e5,e6,⟨g,av,cb,e7,⟨hbody,has,hfn⟩,e8⟩,e9,e10⟩:=hA;obtain ⟨gf,u⟩:=a;have happ:xP xs gf=some (res,ys):=happ;unfold xP at happ;obtain ⟨ys',hs,happ⟩:=bind_some happ;cases happ;obtain ⟨hok,hys⟩:=Uq hs;have e9:vs2=[]:=e9;have e10:q2=[]:=e10;have e3:v1=.slice A xs.length k:=e3;have e4:p1=[⟨A,k,xs.length,ow⟩]:=e4;have e7:v2=.func (.func g) (je' av) (je' cb):=e7;have e8:p2=[]:=e8;subst e9; subst e10; subst has; subst e8; subst e6; subst e4; subst e5; subst e7; subst e3; subst e1;rw [jo'] at e2;subst e2;have hc:=aA' (σ:=σ) L hu hz hown hok hbody (cb:=cb) (λτ hst x y cx cy r hx hy hr=>by
  have h1:=hfn τ (hst.mono λb _ hb=>hb.imp id λh=>by rw [h]; simp [ows]) (x,y,()) [.agg cx.toArray,.agg cy.toArray] r ⟨_,_,rfl,⟨cx,rfl,hx⟩,_,_,rfl,⟨cy,rfl,hy⟩,rfl⟩ hr
  exact iB.mono h1 rfl λv υ hE ⟨ws,hv,ht⟩=>⟨υ,rfl,hE,by obtain ⟨w,hw,ht,_⟩:=ht;rw [hv,hw];exact ht⟩)
 refine iB.mono hc rfl λv τ hE ⟨hv,hO⟩=>⟨τ,rfl,hE.mono λb _ hb=>by rw [hb]; simp [ows],[],[],[],by rw [hv]; exact ZW,A,k,ow,rfl,by rw [hys]; exact SB hok.wk,by rw [hys]; exact hO,λg _=>by simp [ows]⟩
def Cb {α:Type}(toS:α->ByteArray)(xs:List α):Option (Unit×List α):=bif xs.length<4611686018427387904 then some ((),xs.mergeSort λx y=>decide ((toS x).data.toList<=(toS y).data.toList)) else none
def DU (xs:List ByteArray):Option (Unit×List ByteArray):=Cb (λx=>x) xs
open Go.Proofs in
theorem cd' {ρ:Go.Shelf.Ren}(L:Go.Proofs.Lays.n190 P ρ)(f:FuncId)(hf:ρ.f 190=f){E:TypeId}(toS:I E->ByteArray)(hI:∀ {σ:S} {x:I E} {cs:List Value},Rp.cells σ x cs↔cs=[.string (toS x)])(hb:jq P f) :
 oZ P (⟨f,E,[],[],λxs=>Cb toS xs⟩:Rio I):=by
 subst hf;intro σ xs a vs af res ys hA hnd happ;obtain ⟨v1,vs1,p1,q1,e1,e2,⟨A,k,ow,e3,hown,e4⟩,e9,e10⟩:=hA;have happ:Cb toS xs=some (res,ys):=happ;unfold Cb at happ;obtain ⟨hlen,happ⟩:=aK happ;have hlen:xs.length<4611686018427387904:=by simpa using hlen
 have e9:vs1=[]:=e9;have e10:q1=[]:=e10;have e3:v1=.slice A xs.length k:=e3;have e4:p1=[⟨A,k,xs.length,ow⟩]:=e4;subst e9; subst e10; subst e4; subst e3; subst e1;rw [jo'] at e2;subst e2;cases happ;have hpost:∀ {τ:S},Post (I:=I) σ τ [.row E false] [] [.slice A xs.length k] () (ows [(⟨A,k,xs.length,ow⟩:Pl)]) (.tuple #[]) [] [] []:=⟨rfl,rfl,⟨rfl,rfl⟩,rfl,by simp [ows],λg hg=>by simp [ows] at hg⟩
 refine .inl ⟨hb,?_⟩;have hown:cu ow false E σ xs A k:=hown;cases hx:xs with
 | nil =>subst hx;refine (Any.slices_Sort_string_none L A k σ.w).mono λe w' ⟨he,hw⟩=>?_;exact ⟨_,σ,he,hw.symm,Stp.refl _ _,[],[],[],hpost,A,k,ow,rfl,by simp,by simpa using hown,λg _=>by simp [ows]⟩
 | cons x0 r0 =>
   rw [<- hx];cases ow with
   | none =>
     rcases hown with ⟨e,_⟩ | ⟨e,_⟩
     ·rw [hx] at e; cases e
     ·cases e
   | some gb =>
     have hown0:=hown;obtain ⟨au,cs,rfl,hh,h1,h2,h3,h4,h5,h6⟩:=hown;have hsz1:Rp.sz (I E)=1:=by have:=Rp.len (hI (σ:=σ) (x:=x0).2 rfl);simpa using this.symm
     have Ip:∀ {l:List (I E)} {ds:List Value},bE σ l ds->ds=l.map λx=>Value.string (toS x):=by
      intro l
      induction l with
      | nil=>intro ds h; exact h
      | cons x l ih =>intro ds ⟨c,r,e,hc,hr⟩;rw [e,hI.1 hc,ih hr]; rfl
     have Iq:∀ {υ:S} (l:List (I E)),bE υ l (l.map λx=>Value.string (toS x)):=by
      intro υ l
      induction l with
      | nil=>rfl
      | cons x l ih=>exact ⟨[_],_,rfl,hI.2 rfl,ih⟩
     let fU:I E->List UInt8:=λx=>(toS x).data.toList
     have henc:∀ x:I E,Go.Proofs.encStr (fU x)=Value.string (toS x):=λx=>rfl;have hholds:Sort.Holds Go.Proofs.encStr σ.w gb 0 (xs.map fU).toArray:=by
      intro j hj;have hj':j<xs.length:=by simpa using hj
      refine ⟨?_,by simp [World.frozen?,hh]⟩
      have e1:σ.w.cell? ⟨gb,0+j,none⟩=au[j]?:=by simp [World.cell?,hh]
      have e2:au[j]?=cs[j]?:=by rw [<- h5,hsz1,jX',iB' hj',iy']
      rw [e1,e2,Ip h4,jv',in' hj',getElem!_pos _ j (by simpa using hj')]
      simp [fU]
     have main:=Any.slices_Sort_string L gb 0 k (xs.map fU) σ.w hholds (gF hh) (by simpa using hlen)
     rw [kf'] at main;refine Calls.mono main λe w' ⟨he,m,os,hw⟩=>?_;have hmap:((xs.mergeSort λx y=>decide (fU x<=fU y)).map fU)=(xs.map fU).mergeSort λx y=>decide (x<=y):=List.map_mergeSort λa _ b _=>rfl
     let ys:=xs.mergeSort λx y=>decide (fU x<=fU y)
     have hput:∀ (w:World),Sort.putRow Go.Proofs.encStr w gb 0 ((xs.map fU).mergeSort λx y=>decide (x<=y)).toArray=Sort.putRow id w gb 0 (ys.map λx=>Value.string (toS x)).toArray:=λw=>by rw [Kb,<- hmap];congr 1;simp [ys,fU]
     have hst:=xS (m:=m) (F:=(ys.map λx=>Value.string (toS x)).toArray) (os:=os) hown0;refine ⟨_,qZ σ (gQ σ.w gb m (ys.map λx=>Value.string (toS x)).toArray os),he,?_,hst.mono λb _ e=>by rw [e]; simp [ows],[],[],[],hpost,_,k,some gb,rfl,by simp,?_,λg _=>by simp [ows]⟩
     ·rw [hw];show gQ σ.w gb m (ys.map λx=>Value.string (toS x)).toArray os=_;unfold gQ;rw [hput]
     ·exact DZ hown0 (Iq ys) (by simp)
def Cv {α:Type}(mg:α->Int)(xs:List α):Option (Unit×List α):=bif xs.length<4611686018427387904 then some ((),xs.mergeSort λx y=>decide (mg x<=mg y)) else none
def Ow (xs:List Int):Option (Unit×List Int):=Cv (λx=>x) xs
open Go.Proofs in
theorem V6 {ρ:Go.Shelf.Ren}(L:Go.Proofs.Lays.n189 P ρ)(f:FuncId)(hf:ρ.f 189=f){E:TypeId}(mg:I E->Int)(hI:∀ {σ:S} {x:I E} {cs:List Value},Rp.cells σ x cs↔cs=[.int .i64 (mg x)])(hb:jq P f) :
 oZ P (⟨f,E,[],[],λxs=>Cv mg xs⟩:Rio I):=by
 subst hf;intro σ xs a vs af res ys hA hnd happ;obtain ⟨v1,vs1,p1,q1,e1,e2,⟨A,k,ow,e3,hown,e4⟩,e9,e10⟩:=hA;have happ:Cv mg xs=some (res,ys):=happ;unfold Cv at happ;obtain ⟨hlen,happ⟩:=aK happ;have hlen:xs.length<4611686018427387904:=by simpa using hlen
 have e9:vs1=[]:=e9;have e10:q1=[]:=e10;have e3:v1=.slice A xs.length k:=e3;have e4:p1=[⟨A,k,xs.length,ow⟩]:=e4;subst e9; subst e10; subst e4; subst e3; subst e1;rw [jo'] at e2;subst e2;cases happ;have hpost:∀ {τ:S},Post (I:=I) σ τ [.row E false] [] [.slice A xs.length k] () (ows [(⟨A,k,xs.length,ow⟩:Pl)]) (.tuple #[]) [] [] []:=⟨rfl,rfl,⟨rfl,rfl⟩,rfl,by simp [ows],λg hg=>by simp [ows] at hg⟩
 refine .inl ⟨hb,?_⟩;have hown:cu ow false E σ xs A k:=hown;cases hx:xs with
 | nil =>subst hx;refine (Any.slices_Sort_int_none L A k σ.w).mono λe w' ⟨he,hw⟩=>?_;exact ⟨_,σ,he,hw.symm,Stp.refl _ _,[],[],[],hpost,A,k,ow,rfl,by simp,by simpa using hown,λg _=>by simp [ows]⟩
 | cons x0 r0 =>
   rw [<- hx];cases ow with
   | none =>
     rcases hown with ⟨e,_⟩ | ⟨e,_⟩
     ·rw [hx] at e; cases e
     ·cases e
   | some gb =>
     have hown0:=hown;obtain ⟨au,cs,rfl,hh,h1,h2,h3,h4,h5,h6⟩:=hown;have hsz1:Rp.sz (I E)=1:=by have:=Rp.len (hI (σ:=σ) (x:=x0).2 rfl);simpa using this.symm
     have Ip:∀ {l:List (I E)} {ds:List Value},bE σ l ds->ds=l.map λx=>Value.int .i64 (mg x):=by
      intro l
      induction l with
      | nil=>intro ds h; exact h
      | cons x l ih =>intro ds ⟨c,r,e,hc,hr⟩;rw [e,hI.1 hc,ih hr]; rfl
     have Iq:∀ {υ:S} (l:List (I E)),bE υ l (l.map λx=>Value.int .i64 (mg x)):=by
      intro υ l
      induction l with
      | nil=>rfl
      | cons x l ih=>exact ⟨[_],_,rfl,hI.2 rfl,ih⟩
     let fU:I E->Int:=mg
     have hholds:Sort.Holds (Value.int .i64) σ.w gb 0 (xs.map fU).toArray:=by
      intro j hj;have hj':j<xs.length:=by simpa using hj
      refine ⟨?_,by simp [World.frozen?,hh]⟩
      have e1:σ.w.cell? ⟨gb,0+j,none⟩=au[j]?:=by simp [World.cell?,hh]
      have e2:au[j]?=cs[j]?:=by rw [<- h5,hsz1,jX',iB' hj',iy']
      rw [e1,e2,Ip h4,jv',in' hj',getElem!_pos _ j (by simpa using hj')]
      simp [fU]
     have main:=Any.slices_Sort_int L gb 0 k (xs.map fU) σ.w hholds (gF hh) (by simpa using hlen)
     rw [kf'] at main;refine Calls.mono main λe w' ⟨he,m,os,hw⟩=>?_;have hmap:((xs.mergeSort λx y=>decide (fU x<=fU y)).map fU)=(xs.map fU).mergeSort λx y=>decide (x<=y):=List.map_mergeSort λa _ b _=>rfl
     let ys:=xs.mergeSort λx y=>decide (fU x<=fU y)
     have hput:∀ (w:World),Sort.putRow (Value.int .i64) w gb 0 ((xs.map fU).mergeSort λx y=>decide (x<=y)).toArray=Sort.putRow id w gb 0 (ys.map λx=>Value.int .i64 (mg x)).toArray:=λw=>by rw [Kb,<- hmap];congr 1;simp [ys,fU]
     have hst:=xS (m:=m) (F:=(ys.map λx=>Value.int .i64 (mg x)).toArray) (os:=os) hown0;refine ⟨_,qZ σ (gQ σ.w gb m (ys.map λx=>Value.int .i64 (mg x)).toArray os),he,?_,hst.mono λb _ e=>by rw [e]; simp [ows],[],[],[],hpost,_,k,some gb,rfl,by simp,?_,λg _=>by simp [ows]⟩
     ·rw [hw];show gQ σ.w gb m (ys.map λx=>Value.int .i64 (mg x)).toArray os=_;unfold gQ;rw [hput]
     ·exact DZ hown0 (Iq ys) (by simp)
end
end Go.Qx
end
section
open Nat renaming ble->iX',blt->iG'
namespace Go.Qx
open Go Go.RowKit Go.Sx
def jO (n:Nat):List UInt8:=bif iG' n 10 then [UInt8.ofNat (48+n)] else [UInt8.ofNat (48+n / 10),UInt8.ofNat (48+n%10)]
def wH (c:UInt8)(b:List UInt8)(n:Int):Option (List UInt8) :=
 bif decide (0<=n)&&decide (n<100)&&iX' b.length 1000000 then some (b++c::jO n.toNat) else none
def yc (c:UInt8):List Int->List UInt8->Option (List UInt8)
 | [],b=>some b
 | n::r,b=>(wH c b n).bind (yc c r)
theorem ak' {n:Nat}(h:n<100):jO n=Lib.decDigits n:=by
 unfold jO;rw [Lib.decDigits];by_cases h0:n<10
 ·have:iG' n 10=true:=by simpa [Nat.blt_eq] using h0
  rw [this,dif_pos h0]; rfl
 ·rw [dif_neg h0,Lib.decDigits,dif_pos (by omega)]
  have:iG' n 10=false:=by
   rcases hb:iG' n 10 with _ | _
   ·rfl
   ·exact absurd (by simpa [Nat.blt_eq] using hb) h0
  rw [this];rfl
end Go.Qx
end
section
open List renaming replicate->iC'
open Nat renaming beq->il',blt->iG'
namespace Go.Qx
open Go Go.RowKit Go.Sx
set_option maxRecDepth 100000
structure ai where
 Pos:List Int
 Neg:List Int
 Lists:Bool
structure iD where
 uJ:Key
 Node:Int
 Optional:Bool
structure aS where
 Kind:Int
 Lo:Int
 Hi:Int
 Text:ByteArray
 Kids:List Int
 Fields:List iD
 Rest:Int×Int
structure aO where
 Nodes:List aS
 Root:Int
structure ni where
 zJ:List ai
structure fu where
 pos:List Int
 neg:List Int
 Qv:List Int
 Qw:List Int
structure dG where
 Kind:Int
 dm:Int
structure aH where
 Lo:Int
 Hi:Int
structure kQ where
 ng:List Int
 Fails:Bool
 Result:Int
structure eG where
 Leaf:Val
 Keys:List Key
 Forms:List kQ
 zK:List ai
structure iE where
 ng:List ai
 Fails:Bool
 Result:ai
structure bM where
 Alternative:eG
 Entries:List (List iE)
structure dV where
 iV:Bool
 fF:List ByteArray
structure fw where
 Kind:Int
 dm:Int
 Ints:List aH
 Names:dV
 Pos:List Int
 Neg:List Int
 Vars:List ByteArray
 dZ':List ByteArray
structure iF where
 Parts:List ai
structure j5 where
 Names:dV
def AJ (x y:Int×Int):Bool:=((x.1==y.1)&&((x.2==y.2)&&true))
def JE (d:aS):Option Bool:=(bif d.Kind==3 then some (true,false,false,false) else (bif d.Kind==4 then some (d.Kind==4) else bif d.Kind==6 then some (d.Kind==6) else some (d.Kind==19)).bind λb1=>bif b1 then some (false,true,false,false) else (bif d.Kind==10 then some (d.Kind==10) else bif d.Kind==12 then some (d.Kind==12) else bif d.Kind==14 then some (d.Kind==14) else bif d.Kind==16 then some (d.Kind==16) else bif d.Kind==17 then some (d.Kind==17) else some (d.Kind==18)).bind λb2=>bif b2 then some (false,false,true,false) else bif d.Kind==13 then some (false,false,false,true) else some (false,false,false,false)).bind λb3=>(bif b3.1 then some true else (bif d.Lo==0 then some (d.Hi==0) else some false).bind λq4=>some q4).bind λq5=>(bif q5 then (bif b3.2.1 then some true else some (iK d.Text (⟨#[]⟩:ByteArray))).bind λq6=>some q6 else some false).bind λq7=>(bif q7 then (bif b3.2.2.1 then some true else some ((d.Kids.length:Int)==0)).bind λq8=>some q8 else some false).bind λq9=>(bif q9 then (bif b3.2.2.2 then some true else (bif (d.Fields.length:Int)==0 then some (AJ d.Rest (0,0)) else some false).bind λzL=>some zL).bind λzM=>some zM else some false).bind λIr=>some Ir
def Hg (s:ByteArray)(other:Int->Option Bool)(x5:Int):Option (Fl Int (Sum Unit Bool)):=bif x5<(s.size:Int) then (qQ s x5).bind λe6=>(other (e6.toNat:Int)).bind λr7=>bif !r7 then some (.done (.inr false)) else some (.next (wr .i64 (x5+1))) else some (.done (.inl ()))
def xJ (s:ByteArray)(first:Int->Option Bool)(other:Int->Option Bool):Option Bool:=(bif (s.size:Int)<1 then some true else some (decide (16<(s.size:Int)))).bind λq1=>(bif q1 then some true else (qQ s 0).bind λe2=>(first (e2.toNat:Int)).bind λr3=>some (!r3)).bind λq4=>bif q4 then some false else (aB (Hg s other) ((s.size:Int).toNat+1) 1).bind λb8=>bB (λ_=>some true) (λIu=>some Iu) b8
def wK (c:Int):Option Bool:=(bif 97<=c then some (decide (c<=122)) else some false).bind λq1=>some q1
def yZ (c:Int):Option Bool:=(bif 48<=c then some (decide (c<=57)) else some false).bind λq1=>some q1
def FL (c:Int):Option Bool:=(wK c).bind λr1=>(bif r1 then some true else (yZ c).bind λr2=>some r2).bind λq3=>(bif q3 then some true else some (c==95)).bind λq4=>some q4
def yg (s:ByteArray):Option Bool:=(xJ s (λz1=>(wK z1).bind λr2=>some r2) (λz3=>(FL z3).bind λr4=>some r4)).bind λr5=>some r5
def E8 (c:Int):Option Bool:=(bif 65<=c then some (decide (c<=90)) else some false).bind λq1=>some q1
def MG (c:Int):Option Bool:=(wK c).bind λr1=>(bif r1 then some true else (E8 c).bind λr2=>some r2).bind λq3=>(bif q3 then some true else (yZ c).bind λr4=>some r4).bind λq5=>(bif q5 then some true else some (c==95)).bind λq6=>some q6
def Oh (s:ByteArray):Option Bool:=(xJ s (λz1=>(E8 z1).bind λr2=>some r2) (λz3=>(MG z3).bind λr4=>some r4)).bind λr5=>some r5
def BR (k:Key):Option Bool:=bif k.Kind==0 then (yg k.Text).bind λr1=>some r1 else bif k.Kind==1 then some (decide ((k.Text.size:Int)<=64)) else some false
def DN (x:Int):Option Bool:=some (x != x)
def JD (x:Int)(y:Int):Option Int:=(DN x).bind λr1=>(DN y).bind λr2=>bif r1 then bif r2 then some 0 else some (-1) else bif r2 then some 1 else bif x<y then some (-1) else bif y<x then some 1 else some 0
def Oj (a:ByteArray)(b:ByteArray):Option Int:=(AO a b).bind λr1=>some r1
def Kk (a:ByteArray)(b:ByteArray):Option Int:=(Oj a b).bind λr1=>some r1
def Ll (a:Key)(b:Key):Option Int:=(JD a.Kind b.Kind).bind λr1=>bif r1 != 0 then some r1 else (Kk a.Text b.Text).bind λr2=>some r2
def ar' (l:List iD)(x1:Int):Option (Fl Int (Sum Unit Bool)):=bif x1<(l.length:Int) then (ak l x1).bind λe2=>(BR e2.uJ).bind λr3=>(bif !r3 then some true else (bif 0<x1 then (ak l (wr .i64 (x1-1))).bind λe4=>(Ll e4.uJ e2.uJ).bind λr5=>some (decide (0<=r5)) else some false).bind λq6=>some q6).bind λq7=>bif q7 then some (.done (.inr false)) else some (.next (wr .i64 (x1+1))) else some (.done (.inl ()))
def Nq (l:List iD):Option Bool:=(aB (ar' l) ((l.length:Int).toNat+1) 0).bind λb8=>bB (λ_=>some true) (λIu=>some Iu) b8
def Li (d:aS):Option Bool:=(bif d.Kind==1 then some (d.Kind==1) else bif d.Kind==2 then some (d.Kind==2) else bif d.Kind==5 then some (d.Kind==5) else bif d.Kind==7 then some (d.Kind==7) else bif d.Kind==8 then some (d.Kind==8) else bif d.Kind==9 then some (d.Kind==9) else bif d.Kind==11 then some (d.Kind==11) else some (d.Kind==15)).bind λb1=>bif b1 then some true else bif d.Kind==3 then some (decide (d.Lo<=d.Hi)) else bif d.Kind==4 then some (decide ((d.Text.size:Int)<=64)) else bif d.Kind==6 then (yg d.Text).bind λr2=>some r2 else bif d.Kind==19 then (Oh d.Text).bind λr3=>some r3 else bif d.Kind==10 then some (decide ((d.Kids.length:Int)<=4)) else bif d.Kind==12 then some ((d.Kids.length:Int)==2) else bif d.Kind==13 then (Nq d.Fields).bind λr4=>some r4 else bif d.Kind==14 then (bif 1<=(d.Kids.length:Int) then some (decide ((d.Kids.length:Int)<=5)) else some false).bind λq5=>some q5 else (bif d.Kind==16 then some (d.Kind==16) else some (d.Kind==17)).bind λb6=>bif b6 then some (decide (1<=(d.Kids.length:Int))) else bif d.Kind==18 then some ((d.Kids.length:Int)==1) else some false
def aj' (iG:aS)(x2:(List Int)×Int):Option (Fl ((List Int)×Int) (List Int)):=bif x2.2<(iG.Fields.length:Int) then (ak iG.Fields x2.2).bind λe3=>(bN (x2.1.length+([e3.Node]:List Int).length) 8).bind λ_=>some (.next (x2.1++([e3.Node]:List Int),wr .i64 (x2.2+1))) else some (.done x2.1)
def M6 (iG:aS):Option (List Int):=(gN 8 iG.Kids).bind λr1=>(aB (aj' iG) ((iG.Fields.length:Int).toNat+1) (r1,0)).bind λb5=>bif iG.Kind==13 then (bN (b5.length+([iG.Rest.1,iG.Rest.2]:List Int).length) 8).bind λ_=>some (b5++([iG.Rest.1,iG.Rest.2]:List Int)) else some b5
def Ps (kind:Int):Option Bool:=(bif kind==16 then some true else some (kind==17)).bind λq1=>(bif q1 then some true else some (kind==18)).bind λq2=>some q2
def br' (aN:aO)(e10:aS)(Iw:Int->(List Int)->aO->Unit->Option (Bool×(List Int)))(bY:Int×(List Int)):Option (Fl (Int×(List Int)) (Sum (List Int) (Bool×(List Int)))):=bif bY.1<(e10.Kids.length:Int) then (ak e10.Kids bY.1).bind λe12=>(Iw e12 bY.2 aN ()).bind λjL=>bif !jL.1 then some (.done (.inr (false,jL.2))) else some (.next (wr .i64 (bY.1+1),jL.2)) else some (.done (.inl bY.2))
def Tx (_:Nat)(Iw:Int->(List Int)->aO->Unit->Option (Bool×(List Int)))(i:Int)(dM:List Int)(aN:aO)(_:Unit):Option (Bool×(List Int)):=(ak dM i).bind λ_=>(dM[i.toNat]?).bind λe2=>(bif e2 != 0 then some true else (ak aN.Nodes i).bind λe3=>(Ps e3.Kind).bind λr4=>some (!r4)).bind λq5=>bif q5 then (ak dM i).bind λ_=>(dM[i.toNat]?).bind λe7=>some (e7 != 1,dM) else (ak dM i).bind λ_=>(dM[i.toNat]?).bind λ_=>(ak aN.Nodes i).bind λe10=>(aB (br' aN e10 Iw) ((e10.Kids.length:Int).toNat+1) (0,dM.set i.toNat 1)).bind λ(b14:Sum (List Int) (Bool×(List Int)))=>bB (λIy=>(ak Iy i).bind λ_=>(Iy[i.toNat]?).bind λ_=>some (true,Iy.set i.toNat 2)) (λmh=>some (mh.1,mh.2)) b14
def Fa:Nat->Int->(List Int)->aO->Unit->Option (Bool×(List Int)) | 0=>λ_ _ _ _=>none | n+1=>Tx n (Fa n)
def Xv (t:aO)(n:Nat)(x2:Int×(List Int)):Option (Fl (Int×(List Int)) (Sum (List Int) (Bool×(List Int)))):=bif x2.1<(t.Nodes.length:Int) then (Fa n x2.1 x2.2 t ()).bind λr3=>bif !r3.1 then some (.done (.inr (false,r3.2))) else some (.next (wr .i64 (x2.1+1),r3.2)) else some (.done (.inl x2.2))
def KG (n:Nat)(t:aO):Option Bool:=(pV (t.Nodes.length:Int) (t.Nodes.length:Int) 8).bind λm1=>(aB (Xv t n) ((t.Nodes.length:Int).toNat+1) (0,iC' m1 (0:Int))).bind λ(b4:Sum (List Int) (Bool×(List Int)))=>bB (λ_=>some true) (λy6=>some y6.1) b4
def Wt (t:aO)(r7:List Int)(x8:Int):Option (Fl Int (Sum Unit Int)):=bif x8<(r7.length:Int) then (ak r7 x8).bind λe9=>(bif e9<0 then some true else some (decide ((t.Nodes.length:Int)<=e9))).bind λzL=>bif zL then some (.done (.inr 1)) else some (.next (wr .i64 (x8+1))) else some (.done (.inl ()))
def ZL (t:aO)(x2:Int):Option (Fl Int (Sum Unit Int)):=bif x2<(t.Nodes.length:Int) then (ak t.Nodes x2).bind λe3=>(JE e3).bind λr4=>(bif !r4 then some true else (Li e3).bind λr5=>some (!r5)).bind λq6=>bif q6 then some (.done (.inr 1)) else (M6 e3).bind λr7=>(aB (Wt t r7) ((r7.length:Int).toNat+1) 0).bind λb11=>bB (λ_=>some (.next (wr .i64 (x2+1)))) (λy13=>some (.done (.inr y13))) b11 else some (.done (.inl ()))
def wu (n:Nat)(t:aO):Option Int:=(bif t.Root<0 then some true else some (decide ((t.Nodes.length:Int)<=t.Root))).bind λq1=>bif q1 then some 1 else (aB (ZL t) ((t.Nodes.length:Int).toNat+1) 0).bind λb14=>bB (λ_=>(KG n t).bind λjB=>bif !jB then some 3 else some 0) (λmh=>some mh) b14
def VX (t:aO)(g:ai)(r1:List Int)(x3:Int):Option (Fl Int (Sum Unit Bool)):=bif x3<((r1++g.Neg).length:Int) then (ak (r1++g.Neg) x3).bind λe4=>(bif e4<0 then some true else some (decide ((t.Nodes.length:Int)<=e4))).bind λq5=>bif q5 then some (.done (.inr false)) else some (.next (wr .i64 (x3+1))) else some (.done (.inl ()))
def su (t:aO)(g:ai):Option Bool:=(gN 8 g.Pos).bind λr1=>(bN (r1.length+g.Neg.length) 8).bind λ_=>(aB (VX t g r1) (((r1++g.Neg).length:Int).toNat+1) 0).bind λb6=>bB (λ_=>some true) (λy8=>some y8) b6
def aY' (x1:(List Int)×Int)(bJ:(Int×Int)×List Int):Option (Fl ((Int×Int)×List Int) (Int×List Int)):=bif bJ.1.2<((bJ.2.drop x1.2.toNat).length:Int) then (ak (bJ.2.drop x1.2.toNat) bJ.1.2).bind λ_=>(bJ.2[(x1.2.toNat+bJ.1.2.toNat)]?).bind λe18=>(ak (bJ.2.drop x1.2.toNat) (wr .i64 (bJ.1.2-1))).bind λ_=>(bJ.2[(x1.2.toNat+(wr .i64 (bJ.1.2-1)).toNat)]?).bind λe20=>bif e18 != e20 then (ak (bJ.2.drop x1.2.toNat) bJ.1.2).bind λ_=>(bJ.2[(x1.2.toNat+bJ.1.2.toNat)]?).bind λe22=>(ak bJ.2 bJ.1.1).bind λ_=>(bJ.2[bJ.1.1.toNat]?).bind λ_=>some (.next ((wr .i64 (bJ.1.1+1),wr .i64 (bJ.1.2+1)),bJ.2.set bJ.1.1.toNat e22)) else some (.next ((bJ.1.1,wr .i64 (bJ.1.2+1)),bJ.2)) else some (.done (bJ.1.1,bJ.2))
def aJ' (x1:(List Int)×Int):Option (Fl ((List Int)×Int) (Sum (List Int) (List Int))):=bif x1.2<(x1.1.length:Int) then (ak x1.1 x1.2).bind λ_=>(x1.1[x1.2.toNat]?).bind λe3=>(ak x1.1 (wr .i64 (x1.2-1))).bind λ_=>(x1.1[(wr .i64 (x1.2-1)).toNat]?).bind λe5=>bif e3==e5 then (ak x1.1 x1.2).bind λ_=>(aB (aY' x1) (((x1.1.drop x1.2.toNat).length:Int).toNat+1) ((x1.2,1),x1.1)).bind λgK=>(ak gK.2 gK.1).bind λ_=>bif iG' gK.1.toNat gK.2.length then (cut (gK.2.take gK.1.toNat++iC' (gK.2.length-gK.1.toNat) (0:Int)) 0 gK.1).bind λy27=>some (.done (.inr y27)) else none else some (.next (x1.1,wr .i64 (x1.2+1))) else some (.done (.inl x1.1))
def KZ (s:List Int):Option (List Int):=bif (s.length:Int)<2 then some s else (aB aJ' ((s.length:Int).toNat+1) (s,1)).bind λIz=>bB (λx29=>some x29) (λIA=>some IA) Iz
def Ol (s:List Int):Option (List Int):=bif (s.length:Int)==(s.length:Int)&&(s.length:Int)==(s.length:Int) then some s else none
def yJ (l:List Int):Option (List Int):=(gN 8 l).bind λr1=>(Ow r1).bind λr2=>(KZ r2.2).bind λr3=>(Ol r3).bind λr4=>some r4
def qj (g:ai):Option ai:=(yJ g.Pos).bind λr1=>(yJ g.Neg).bind λr2=>some (ai.mk r1 r2 g.Lists)
def sU (g:ai):Option ByteArray:=(qj g).bind λg=>(yc 43 g.Pos (bif g.Lists then [108] else [])).bind λb=>(yc 45 g.Neg b).bind λb=>some ⟨b.toArray⟩
def AV (s:List ai)(f:ai->Option Bool)(x1:Int):Option (Fl Int (Sum Unit Int)):=bif x1<(s.length:Int) then (ak s x1).bind λe2=>(f e2).bind λr3=>bif r3 then some (.done (.inr x1)) else some (.next (wr .i64 (x1+1))) else some (.done (.inl ()))
def Ho (s:List ai)(f:ai->Option Bool):Option Int:=(aB (AV s f) ((s.length:Int).toNat+1) 0).bind λb4=>bB (λ_=>some (-1)) (λy6=>some y6) b4
def vC (s:List ai)(f:ai->Option Bool):Option Bool:=(Ho s f).bind λr1=>some (decide (0<=r1))
def Ch (s:List Int)(f:Int->Option Bool)(x1:Int):Option (Fl Int (Sum Unit Int)):=bif x1<(s.length:Int) then (ak s x1).bind λe2=>(f e2).bind λr3=>bif r3 then some (.done (.inr x1)) else some (.next (wr .i64 (x1+1))) else some (.done (.inl ()))
def FK (s:List Int)(f:Int->Option Bool):Option Int:=(aB (Ch s f) ((s.length:Int).toNat+1) 0).bind λb4=>bB (λ_=>some (-1)) (λy6=>some y6) b4
def tL (s:List Int)(f:Int->Option Bool):Option Bool:=(FK s f).bind λr1=>some (decide (0<=r1))
def Bc (s:List Int)(v:Int)(x1:Int):Option (Fl Int (Sum Unit Int)):=bif x1<(s.length:Int) then (ak s x1).bind λe2=>bif v==e2 then some (.done (.inr x1)) else some (.next (wr .i64 (x1+1))) else some (.done (.inl ()))
def EL (s:List Int)(v:Int):Option Int:=(aB (Bc s v) ((s.length:Int).toNat+1) 0).bind λb3=>bB (λ_=>some (-1)) (λy5=>some y5) b3
def xu (s:List Int)(v:Int):Option Bool:=(EL s v).bind λr1=>some (decide (0<=r1))
def GK (i:Int)(dM:List Int):Option Bool:=(xu dM i).bind λr1=>some (!r1)
def yj (a:List Int)(b:List Int):Option Bool:=(tL a (λz1=>(GK z1 b).bind λr2=>some r2)).bind λr3=>some (!r3)
def Hf (c:ai)(dM:ai):Option Bool:=(yj c.Pos dM.Pos).bind λr1=>(bif r1 then (yj c.Neg dM.Neg).bind λr2=>some r2 else some false).bind λq3=>(bif q3 then (bif !c.Lists then some true else some dM.Lists).bind λq4=>some q4 else some false).bind λq5=>some q5
def pY (l:List ai)(g:ai):Option Bool:=(vC l (λz1=>(Hf z1 g).bind λr2=>some r2)).bind λr3=>some r3
def Gt (p:fu):Option ((List Int)×(List Int)×(List Int)×(List Int)):=(gN 8 p.pos).bind λr1=>(gN 8 p.neg).bind λr2=>(gN 8 p.Qv).bind λr3=>(gN 8 p.Qw).bind λr4=>some (r1,r2,r3,r4)
def cz' (p:fu)(kids:List Int)(positive:Bool)(x1:(List fu)×Int):Option (Fl ((List fu)×Int) (List fu)):=bif x1.2<(kids.length:Int) then (ak kids x1.2).bind λe2=>(Gt p).bind λr3=>(bif positive then (bN (r3.1.length+([e2]:List Int).length) 8).bind λ_=>some (r3.1++([e2]:List Int),r3.2.1,r3.2.2.1,r3.2.2.2) else (bN (r3.2.1.length+([e2]:List Int).length) 8).bind λ_=>some (r3.1,r3.2.1++([e2]:List Int),r3.2.2.1,r3.2.2.2)).bind λb6=>(bN (x1.1.length+([fu.mk b6.1 b6.2.1 b6.2.2.1 b6.2.2.2]:List fu).length) 96).bind λ_=>some (.next (x1.1++([fu.mk b6.1 b6.2.1 b6.2.2.1 b6.2.2.2]:List fu),wr .i64 (x1.2+1))) else some (.done x1.1)
def EH (p:fu)(kids:List Int)(positive:Bool):Option (List fu):=(aB (cz' p kids positive) ((kids.length:Int).toNat+1) ([],0)).bind λb8=>some b8
def Kj (d:(List Int)×(List Int)×(List Int)×(List Int))(t:aO):Option (List fu):=bif 0<=(wr .i64 ((d.1.length:Int)-1)) then (ak d.1 (wr .i64 ((d.1.length:Int)-1))).bind λ_=>(d.1[(wr .i64 ((d.1.length:Int)-1)).toNat]?).bind λe2=>(ak t.Nodes e2).bind λe3=>(cut d.1 0 (wr .i64 ((d.1.length:Int)-1))).bind λy4=>(bif e3.Kind==2 then some (.inl (y4,d.2.1,d.2.2.1,d.2.2.2)) else bif e3.Kind==1 then some (.inr ([],(y4,d.2.1,d.2.2.1,d.2.2.2))) else bif e3.Kind==17 then (bN (y4.length+e3.Kids.length) 8).bind λ_=>some (.inl (y4++e3.Kids,d.2.1,d.2.2.1,d.2.2.2)) else bif e3.Kind==18 then (ak e3.Kids 0).bind λe6=>(bN (d.2.1.length+([e6]:List Int).length) 8).bind λ_=>some (.inl (y4,d.2.1++([e6]:List Int),d.2.2.1,d.2.2.2)) else bif e3.Kind==16 then (EH (fu.mk y4 d.2.1 d.2.2.1 d.2.2.2) e3.Kids true).bind λr8=>some (.inr (r8,(y4,d.2.1,d.2.2.1,d.2.2.2))) else (bN (d.2.2.1.length+([e2]:List Int).length) 8).bind λ_=>some (.inl (y4,d.2.1,d.2.2.1++([e2]:List Int),d.2.2.2))).bind λb10=>bB (λbY=>some ([fu.mk bY.1 bY.2.1 bY.2.2.1 bY.2.2.2]:List fu)) (λwW=>some wW.1) b10 else (ak d.2.1 (wr .i64 ((d.2.1.length:Int)-1))).bind λ_=>(d.2.1[(wr .i64 ((d.2.1.length:Int)-1)).toNat]?).bind λe14=>(ak t.Nodes e14).bind λe15=>(cut d.2.1 0 (wr .i64 ((d.2.1.length:Int)-1))).bind λmh=>(bif e15.Kind==1 then some (.inl (d.1,mh,d.2.2.1,d.2.2.2)) else bif e15.Kind==2 then some (.inr ([],(d.1,mh,d.2.2.1,d.2.2.2))) else bif e15.Kind==16 then (bN (mh.length+e15.Kids.length) 8).bind λ_=>some (.inl (d.1,mh++e15.Kids,d.2.2.1,d.2.2.2)) else bif e15.Kind==18 then (ak e15.Kids 0).bind λe18=>(bN (d.1.length+([e18]:List Int).length) 8).bind λ_=>some (.inl (d.1++([e18]:List Int),mh,d.2.2.1,d.2.2.2)) else bif e15.Kind==17 then (EH (fu.mk d.1 mh d.2.2.1 d.2.2.2) e15.Kids false).bind λIB=>some (.inr (IB,(d.1,mh,d.2.2.1,d.2.2.2))) else (bN (d.2.2.2.length+([e14]:List Int).length) 8).bind λ_=>some (.inl (d.1,mh,d.2.2.1,d.2.2.2++([e14]:List Int)))).bind λIC=>bB (λx23=>some ([fu.mk x23.1 x23.2.1 x23.2.2.1 x23.2.2.2]:List fu)) (λy24=>some y24.1) IC
def SQ (d:aO)(t:ai)(x3:(List fu)×(List (ByteArray×Bool))×(List ai)):Option (Fl ((List fu)×(List (ByteArray×Bool))×(List ai)) ((List (ByteArray×Bool))×(List ai))):=bif 0<(x3.1.length:Int) then (ak x3.1 (wr .i64 ((x3.1.length:Int)-1))).bind λ_=>(x3.1[(wr .i64 ((x3.1.length:Int)-1)).toNat]?).bind λe5=>(Gt e5).bind λr6=>(cut x3.1 0 (wr .i64 ((x3.1.length:Int)-1))).bind λy7=>bif 0<(wr .i64 ((r6.1.length:Int)+(r6.2.1.length:Int))) then (Kj (r6.1,r6.2.1,r6.2.2.1,r6.2.2.2) d).bind λr8=>(bN (y7.length+r8.length) 96).bind λ_=>some (.next (y7++r8,x3.2.1,x3.2.2)) else (qj (ai.mk r6.2.2.1 r6.2.2.2 t.Lists)).bind λiH=>(sU iH).bind λpM=>bif !((fH x3.2.1 pM).getD false) then (bN (x3.2.2.length+([iH]:List ai).length) 56).bind λ_=>some (.next (y7,iX x3.2.1 pM true,x3.2.2++([iH]:List ai))) else some (.next (y7,x3.2.1,x3.2.2)) else some (.done (x3.2.1,x3.2.2))
def Cu (n:Nat)(d:aO)(t:ai):Option (List ai):=(yJ t.Pos).bind λr1=>(yJ t.Neg).bind λr2=>(aB (SQ d t) n (([fu.mk r1 r2 ([]:List Int) ([]:List Int)]:List fu),([]:List (ByteArray×Bool)),[])).bind λb13=>some b13.2
def SV (x1:(List ByteArray)×Int)(bJ:(Int×Int)×List ByteArray):Option (Fl ((Int×Int)×List ByteArray) (Int×List ByteArray)):=bif bJ.1.2<((bJ.2.drop x1.2.toNat).length:Int) then (ak (bJ.2.drop x1.2.toNat) bJ.1.2).bind λ_=>(bJ.2[(x1.2.toNat+bJ.1.2.toNat)]?).bind λe18=>(ak (bJ.2.drop x1.2.toNat) (wr .i64 (bJ.1.2-1))).bind λ_=>(bJ.2[(x1.2.toNat+(wr .i64 (bJ.1.2-1)).toNat)]?).bind λe20=>bif !(iK e18 e20) then (ak (bJ.2.drop x1.2.toNat) bJ.1.2).bind λ_=>(bJ.2[(x1.2.toNat+bJ.1.2.toNat)]?).bind λe22=>(ak bJ.2 bJ.1.1).bind λ_=>(bJ.2[bJ.1.1.toNat]?).bind λ_=>some (.next ((wr .i64 (bJ.1.1+1),wr .i64 (bJ.1.2+1)),bJ.2.set bJ.1.1.toNat e22)) else some (.next ((bJ.1.1,wr .i64 (bJ.1.2+1)),bJ.2)) else some (.done (bJ.1.1,bJ.2))
def UQ (x1:(List ByteArray)×Int):Option (Fl ((List ByteArray)×Int) (Sum (List ByteArray) (List ByteArray))):=bif x1.2<(x1.1.length:Int) then (ak x1.1 x1.2).bind λ_=>(x1.1[x1.2.toNat]?).bind λe3=>(ak x1.1 (wr .i64 (x1.2-1))).bind λ_=>(x1.1[(wr .i64 (x1.2-1)).toNat]?).bind λe5=>bif iK e3 e5 then (ak x1.1 x1.2).bind λ_=>(aB (SV x1) (((x1.1.drop x1.2.toNat).length:Int).toNat+1) ((x1.2,1),x1.1)).bind λgK=>(ak gK.2 gK.1).bind λ_=>bif iG' gK.1.toNat gK.2.length then (cut (gK.2.take gK.1.toNat++iC' (gK.2.length-gK.1.toNat) ((⟨#[]⟩:ByteArray):ByteArray)) 0 gK.1).bind λy27=>some (.done (.inr y27)) else none else some (.next (x1.1,wr .i64 (x1.2+1))) else some (.done (.inl x1.1))
def F9 (s:List ByteArray):Option (List ByteArray):=bif (s.length:Int)<2 then some s else (aB UQ ((s.length:Int).toNat+1) (s,1)).bind λIz=>bB (λx29=>some x29) (λIA=>some IA) Iz
def Ej (s:List ByteArray):Option (List ByteArray):=bif (s.length:Int)==(s.length:Int)&&(s.length:Int)==(s.length:Int) then some s else none
def Xo (t:aO)(nodes:List Int)(x1:(List ByteArray)×Int):Option (Fl ((List ByteArray)×Int) (List ByteArray)):=bif x1.2<(nodes.length:Int) then (ak nodes x1.2).bind λe2=>(ak t.Nodes e2).bind λe3=>bif e3.Kind==19 then (ak t.Nodes e2).bind λe4=>(bN (x1.1.length+([e4.Text]:List ByteArray).length) 16).bind λ_=>some (.next (x1.1++([e4.Text]:List ByteArray),wr .i64 (x1.2+1))) else some (.next (x1.1,wr .i64 (x1.2+1))) else some (.done x1.1)
def si (t:aO)(nodes:List Int):Option (List ByteArray):=(aB (Xo t nodes) ((nodes.length:Int).toNat+1) ([],0)).bind λb6=>(DU b6).bind λr7=>(F9 r7.2).bind λr8=>(Ej r8).bind λr9=>some r9
def KL (x:Int)(dM:List Int):Option Bool:=(xu dM x).bind λr1=>some r1
def xg (a:List Int)(b:List Int):Option Bool:=(tL a (λz1=>(KL z1 b).bind λr2=>some r2)).bind λr3=>some r3
def Rt (s:List ByteArray)(f:ByteArray->Option Bool)(x1:Int):Option (Fl Int (Sum Unit Int)):=bif x1<(s.length:Int) then (ak s x1).bind λe2=>(f e2).bind λr3=>bif r3 then some (.done (.inr x1)) else some (.next (wr .i64 (x1+1))) else some (.done (.inl ()))
def N9 (s:List ByteArray)(f:ByteArray->Option Bool):Option Int:=(aB (Rt s f) ((s.length:Int).toNat+1) 0).bind λb4=>bB (λ_=>some (-1)) (λy6=>some y6) b4
def Ng (s:List ByteArray)(f:ByteArray->Option Bool):Option Bool:=(N9 s f).bind λr1=>some (decide (0<=r1))
def Xk (s:List ByteArray)(v:ByteArray)(x1:Int):Option (Fl Int (Sum Unit Int)):=bif x1<(s.length:Int) then (ak s x1).bind λe2=>bif iK v e2 then some (.done (.inr x1)) else some (.next (wr .i64 (x1+1))) else some (.done (.inl ()))
def Ku (s:List ByteArray)(v:ByteArray):Option Int:=(aB (Xk s v) ((s.length:Int).toNat+1) 0).bind λb3=>bB (λ_=>some (-1)) (λy5=>some y5) b3
def KA (s:List ByteArray)(v:ByteArray):Option Bool:=(Ku s v).bind λr1=>some (decide (0<=r1))
def Oq (x:ByteArray)(dM:List ByteArray):Option Bool:=(KA dM x).bind λr1=>some r1
def Br (a:List ByteArray)(b:List ByteArray):Option Bool:=(Ng a (λz1=>(Oq z1 b).bind λr2=>some r2)).bind λr3=>some r3
def cm' (x1:(List dG)×Int):Option (Fl ((List dG)×Int) (List dG)):=bif x1.2<=4 then (bN (x1.1.length+([dG.mk 6 x1.2,dG.mk 9 x1.2]:List dG).length) 16).bind λ_=>some (.next (x1.1++([dG.mk 6 x1.2,dG.mk 9 x1.2]:List dG),wr .i64 (x1.2+1))) else some (.done x1.1)
def BN:Option (List dG):=(aB cm' ((4:Int).toNat+2) (([dG.mk 1 0,dG.mk 2 0,dG.mk 3 0,dG.mk 4 0,dG.mk 5 0,dG.mk 7 0,dG.mk 8 0]:List dG),0)).bind λb3=>some b3
def ER (d:dG)(t:aS):Option Bool:=bif t.Kind==3 then some (d.Kind==1) else (bif t.Kind==4 then some (t.Kind==4) else some (t.Kind==5)).bind λb1=>bif b1 then some (d.Kind==2) else (bif t.Kind==6 then some (t.Kind==6) else some (t.Kind==7)).bind λb2=>bif b2 then some (d.Kind==3) else bif t.Kind==8 then some (d.Kind==4) else bif t.Kind==9 then some (d.Kind==5) else bif t.Kind==12 then some (d.Kind==7) else bif t.Kind==13 then some (d.Kind==8) else bif t.Kind==11 then some (d.Kind==6) else bif t.Kind==10 then (bif d.Kind==6 then some (d.dm==(t.Kids.length:Int)) else some false).bind λq3=>some q3 else bif t.Kind==15 then some (d.Kind==9) else bif t.Kind==14 then (bif d.Kind==9 then some (d.dm==(wr .i64 ((t.Kids.length:Int)-1))) else some false).bind λq4=>some q4 else some false
def NJ (i:Int)(dM:aO)(aN:dG):Option Bool:=(ak dM.Nodes i).bind λe1=>(bif e1.Kind != 19 then (ak dM.Nodes i).bind λe2=>(ER aN e2).bind λr3=>some (!r3) else some false).bind λq4=>some q4
def Bh (s:dG)(t:aO)(e:ai):Option Bool:=(bif e.Lists then some (s.Kind != 5) else some false).bind λq1=>(bif q1 then some (s.Kind != 7) else some false).bind λq2=>bif q2 then some false else (tL e.Pos (λz3=>(NJ z3 t s).bind λr4=>some r4)).bind λr5=>some (!r5)
def Pw:Option (List aH):=some ([aH.mk (-9223372036854775808) 9223372036854775807]:List aH)
def EU (x:Int):Option Bool:=some (x != x)
def Nj (x:Int)(y:Int):Option Int:=(EU x).bind λr1=>(EU y).bind λr2=>bif r1 then bif r2 then some 0 else some (-1) else bif r2 then some 1 else bif x<y then some (-1) else bif y<x then some 1 else some 0
def ML (a:aH)(b:aH):Option Int:=(Nj a.Lo b.Lo).bind λr1=>some r1
noncomputable def Xd (d:List aH)(x1:(List aH)×Int):Option (Fl ((List aH)×Int) (List aH)):=bif x1.2<(d.length:Int) then (ak d x1.2).bind λe2=>bif e2.Lo<=e2.Hi then (bN (x1.1.length+([e2]:List aH).length) 16).bind λ_=>some (.next (x1.1++([e2]:List aH),wr .i64 (x1.2+1))) else some (.next (x1.1,wr .i64 (x1.2+1))) else some (.done x1.1)
noncomputable def YV (r8:Unit×List aH)(x9:(List aH)×(List aH)×Int):Option (Fl ((List aH)×(List aH)×Int) ((List aH)×(List aH))):=bif x9.2.2<(r8.2.length:Int) then (ak x9.2.1 x9.2.2).bind λ_=>(x9.2.1[x9.2.2.toNat]?).bind λe11=>(bif 0<=(wr .i64 ((x9.1.length:Int)-1)) then (ak x9.1 (wr .i64 ((x9.1.length:Int)-1))).bind λ_=>(x9.1[(wr .i64 ((x9.1.length:Int)-1)).toNat]?).bind λe13=>(bif e13.Hi==9223372036854775807 then some true else (ak x9.1 (wr .i64 ((x9.1.length:Int)-1))).bind λ_=>(x9.1[(wr .i64 ((x9.1.length:Int)-1)).toNat]?).bind λe15=>some (decide (e11.Lo<=(wr .i64 (e15.Hi+1))))).bind λq16=>some q16 else some false).bind λq17=>bif q17 then (ak x9.1 (wr .i64 ((x9.1.length:Int)-1))).bind λ_=>(x9.1[(wr .i64 ((x9.1.length:Int)-1)).toNat]?).bind λe19=>(ak x9.1 (wr .i64 ((x9.1.length:Int)-1))).bind λ_=>(x9.1[(wr .i64 ((x9.1.length:Int)-1)).toNat]?).bind λe21=>some (.next (x9.1.set ((wr .i64 ((x9.1.length:Int)-1)).toNat) (aH.mk e21.Lo (max e19.Hi e11.Hi)),x9.2.1,wr .i64 (x9.2.2+1))) else (bN (x9.1.length+([e11]:List aH).length) 16).bind λ_=>some (.next (x9.1++([e11]:List aH),x9.2.1,wr .i64 (x9.2.2+1))) else some (.done (x9.1,x9.2.1))
noncomputable def yK (d:List aH):Option (List aH):=(aB (Xd d) ((d.length:Int).toNat+1) ([],0)).bind λb4=>(xP b4 (λz5 z6=>(ML z5 z6).bind λr7=>some r7)).bind λr8=>(aB (YV r8) ((r8.2.length:Int).toNat+1) ([],r8.2,0)).bind λb23=>some b23.1
noncomputable def WS (e3:aH)(r4:List aH)(x5:(List aH)×Int):Option (Fl ((List aH)×Int) (List aH)):=bif x5.2<(r4.length:Int) then (ak r4 x5.2).bind λe6=>(bN (x5.1.length+([aH.mk (max e3.Lo e6.Lo) (min e3.Hi e6.Hi)]:List aH).length) 16).bind λ_=>some (.next (x5.1++([aH.mk (max e3.Lo e6.Lo) (min e3.Hi e6.Hi)]:List aH),wr .i64 (x5.2+1))) else some (.done x5.1)
noncomputable def Vd (b:List aH)(r1:List aH)(x2:(List aH)×Int):Option (Fl ((List aH)×Int) (List aH)):=bif x2.2<(r1.length:Int) then (ak r1 x2.2).bind λe3=>(yK b).bind λr4=>(aB (WS e3 r4) ((r4.length:Int).toNat+1) (x2.1,0)).bind λb8=>some (.next (b8,wr .i64 (x2.2+1))) else some (.done x2.1)
noncomputable def GH (a:List aH)(b:List aH):Option (List aH):=(yK a).bind λr1=>(aB (Vd b r1) ((r1.length:Int).toNat+1) ([],0)).bind λb9=>(yK b9).bind λiH=>some iH
noncomputable def Vr (r1:List aH)(x2:(List aH)×Int×Int):Option (Fl ((List aH)×Int×Int) (Sum ((List aH)×Int) (List aH))):=bif x2.2.2<(r1.length:Int) then (ak r1 x2.2.2).bind λe3=>(bif x2.2.1<e3.Lo then (bN (x2.1.length+([aH.mk x2.2.1 (wr .i64 (e3.Lo-1))]:List aH).length) 16).bind λ_=>some (x2.1++([aH.mk x2.2.1 (wr .i64 (e3.Lo-1))]:List aH)) else some x2.1).bind λb5=>bif e3.Hi==9223372036854775807 then some (.done (.inr b5)) else some (.next (b5,wr .i64 (e3.Hi+1),wr .i64 (x2.2.2+1))) else some (.done (.inl (x2.1,x2.2.1)))
noncomputable def Nh (a:List aH):Option (List aH):=(yK a).bind λr1=>(aB (Vr r1) ((r1.length:Int).toNat+1) ([],(-9223372036854775808),0)).bind λb6=>bB (λx7=>(bN (x7.1.length+([aH.mk x7.2 9223372036854775807]:List aH).length) 16).bind λ_=>some (x7.1++([aH.mk x7.2 9223372036854775807]:List aH))) (λy8=>some y8) b6
noncomputable def cN' (t:aO)(e:ai)(x2:(List aH)×Int):Option (Fl ((List aH)×Int) (List aH)):=bif x2.2<(e.Pos.length:Int) then (ak e.Pos x2.2).bind λe3=>(ak t.Nodes e3).bind λe4=>bif e4.Kind==3 then (GH x2.1 ([aH.mk e4.Lo e4.Hi]:List aH)).bind λr5=>some (.next (r5,wr .i64 (x2.2+1))) else some (.next (x2.1,wr .i64 (x2.2+1))) else some (.done x2.1)
noncomputable def VK (t:aO)(e:ai)(x7:(List aH)×Int):Option (Fl ((List aH)×Int) (List aH)):=bif x7.2<(e.Neg.length:Int) then (ak e.Neg x7.2).bind λe8=>(ak t.Nodes e8).bind λe9=>bif e9.Kind==3 then (Nh ([aH.mk e9.Lo e9.Hi]:List aH)).bind λiH=>(GH x7.1 iH).bind λpM=>some (.next (pM,wr .i64 (x7.2+1))) else some (.next (x7.1,wr .i64 (x7.2+1))) else some (.done x7.1)
noncomputable def ME (t:aO)(e:ai):Option (List aH):=(Pw).bind λr1=>(aB (cN' t e) ((e.Pos.length:Int).toNat+1) (r1,0)).bind λb6=>(aB (VK t e) ((e.Neg.length:Int).toNat+1) (b6,0)).bind λb12=>some b12
def xB (s:dV):Option j5:=(gN 16 s.fF).bind λr1=>(DU r1).bind λr2=>(F9 r2.2).bind λr3=>(Ej r3).bind λr4=>some (j5.mk (dV.mk s.iV r4))
def Ar (l:List ByteArray):Option dV:=(xB (dV.mk true l)).bind λr1=>some r1.Names
def xH (l:List ByteArray):Option dV:=(xB (dV.mk false l)).bind λr1=>some r1.Names
def K6 (iG:j5)(other:j5):Option (List ByteArray):=(gN 16 iG.Names.fF).bind λr1=>(bN (r1.length+other.Names.fF.length) 16).bind λ_=>some (r1++other.Names.fF)
def GX (x:ByteArray):Option Bool:=some (!(iK x x))
def Ot (x:ByteArray)(y:ByteArray):Option Bool:=(GX x).bind λr1=>(bif r1 then (GX y).bind λr2=>some (!r2) else some false).bind λq3=>(bif q3 then some true else some (lS x y)).bind λq4=>some q4
def DW (x:ByteArray):Option Bool:=some (!(iK x x))
def SE (x:List ByteArray)(target:ByteArray)(x1:Int×Int):Option (Fl (Int×Int) Int):=bif x1.1<x1.2 then (xk .u64 (wr .u64 (wr .i64 (x1.1+x1.2))) 1).bind λd2=>(ak x (wr .i64 d2)).bind λe3=>(Ot e3 target).bind λr4=>bif r4 then some (.next (wr .i64 ((wr .i64 d2)+1),x1.2)) else some (.next (x1.1,wr .i64 d2)) else some (.done x1.1)
def Ms (n:Nat)(x:List ByteArray)(target:ByteArray):Option (Int×Bool):=(aB (SE x target) n (0,(x.length:Int))).bind λb5=>(bif b5<(x.length:Int) then (ak x b5).bind λe6=>(bif iK e6 target then some true else (ak x b5).bind λe7=>(DW e7).bind λr8=>(bif r8 then (DW target).bind λr9=>some r9 else some false).bind λzL=>some zL).bind λzM=>some zM else some false).bind λIr=>some (b5,Ir)
def Gf (n:Nat)(iG:j5)(name:ByteArray):Option Bool:=(Ms n iG.Names.fF name).bind λr1=>some r1.2
def Xe (iG:j5)(other:j5)(n:Nat)(x1:(List ByteArray)×Int):Option (Fl ((List ByteArray)×Int) (List ByteArray)):=bif x1.2<(iG.Names.fF.length:Int) then (ak iG.Names.fF x1.2).bind λe2=>(Gf n other e2).bind λr3=>bif !r3 then (bN (x1.1.length+([e2]:List ByteArray).length) 16).bind λ_=>some (.next (x1.1++([e2]:List ByteArray),wr .i64 (x1.2+1))) else some (.next (x1.1,wr .i64 (x1.2+1))) else some (.done x1.1)
def DR (n:Nat)(iG:j5)(other:j5):Option (List ByteArray):=(aB (Xe iG other n) ((iG.Names.fF.length:Int).toNat+1) ([],0)).bind λb5=>some b5
def Wp (r1:j5)(r2:j5)(n:Nat)(x10:(List ByteArray)×Int):Option (Fl ((List ByteArray)×Int) (List ByteArray)):=bif x10.2<(r1.Names.fF.length:Int) then (ak r1.Names.fF x10.2).bind λe11=>(Gf n r2 e11).bind λj6=>bif j6 then (bN (x10.1.length+([e11]:List ByteArray).length) 16).bind λ_=>some (.next (x10.1++([e11]:List ByteArray),wr .i64 (x10.2+1))) else some (.next (x10.1,wr .i64 (x10.2+1))) else some (.done x10.1)
def Eu (n:Nat)(a:dV)(b:dV):Option dV:=(xB a).bind λr1=>(xB b).bind λr2=>(bif r1.Names.iV then some r2.Names.iV else some false).bind λq3=>bif q3 then (K6 r1 r2).bind λr4=>(Ar r4).bind λr5=>some r5 else bif r1.Names.iV then (DR n r2 r1).bind λr6=>(xH r6).bind λr7=>some r7 else bif r2.Names.iV then (DR n r1 r2).bind λr8=>(xH r8).bind λr9=>some r9 else (aB (Wp r1 r2 n) ((r1.Names.fF.length:Int).toNat+1) ([],0)).bind λb14=>(xH b14).bind λfK=>some fK
def VL (t:aO)(e:ai)(kind:Int)(n:Nat)(x2:Int×dV):Option (Fl (Int×dV) dV):=bif x2.1<(e.Pos.length:Int) then (ak e.Pos x2.1).bind λe3=>(ak t.Nodes e3).bind λe4=>bif e4.Kind==kind then (xH ([e4.Text]:List ByteArray)).bind λr5=>(Eu n x2.2 r5).bind λr6=>some (.next (wr .i64 (x2.1+1),r6)) else some (.next (wr .i64 (x2.1+1),x2.2)) else some (.done x2.2)
def Vx (t:aO)(e:ai)(kind:Int)(n:Nat)(x8:Int×dV):Option (Fl (Int×dV) dV):=bif x8.1<(e.Neg.length:Int) then (ak e.Neg x8.1).bind λe9=>(ak t.Nodes e9).bind λe10=>bif e10.Kind==kind then (Ar ([e10.Text]:List ByteArray)).bind λpM=>(Eu n x8.2 pM).bind λj6=>some (.next (wr .i64 (x8.1+1),j6)) else some (.next (wr .i64 (x8.1+1),x8.2)) else some (.done x8.2)
def EJ (n:Nat)(t:aO)(e:ai)(kind:Int):Option dV:=(Ar ([]:List ByteArray)).bind λr1=>(aB (VL t e kind n) ((e.Pos.length:Int).toNat+1) (0,r1)).bind λb7=>(aB (Vx t e kind n) ((e.Neg.length:Int).toNat+1) (0,b7)).bind λb13=>some b13
def KM (i:Int)(dM:aO)(aN:Int):Option Bool:=(ak dM.Nodes i).bind λe1=>some (e1.Kind==aN)
def wz (t:aO)(nodes:List Int)(kind:Int):Option Bool:=(tL nodes (λz1=>(KM z1 t kind).bind λr2=>some r2)).bind λr3=>some r3
def QT (s:dG)(t:aO)(nodes:List Int)(kind:Int)(x1:(List Int)×Int):Option (Fl ((List Int)×Int) (List Int)):=bif x1.2<(nodes.length:Int) then (ak nodes x1.2).bind λe2=>(ak t.Nodes e2).bind λe3=>(bif e3.Kind==kind then (ak t.Nodes e2).bind λe4=>(ER s e4).bind λr5=>some r5 else some false).bind λq6=>bif q6 then (bN (x1.1.length+([e2]:List Int).length) 8).bind λ_=>some (.next (x1.1++([e2]:List Int),wr .i64 (x1.2+1))) else some (.next (x1.1,wr .i64 (x1.2+1))) else some (.done x1.1)
def jc (s:dG)(t:aO)(nodes:List Int)(kind:Int):Option (List Int):=(aB (QT s t nodes kind) ((nodes.length:Int).toNat+1) ([],0)).bind λb8=>some b8
noncomputable def Mr (n:Nat)(d:aO)(t:ai)(aN:dG):Option (fw×Bool):=(Bh aN d t).bind λr1=>bif !r1 then some (fw.mk aN.Kind aN.dm ([]:List aH) (dV.mk false ([]:List ByteArray)) ([]:List Int) ([]:List Int) ([]:List ByteArray) ([]:List ByteArray),false) else (bif aN.Kind==1 then (ME d t).bind λr2=>some (.inr (decide (0<(r2.length:Int)),(aN.Kind,aN.dm,r2,false,([]:List ByteArray),([]:List Int),([]:List Int),([]:List ByteArray),([]:List ByteArray)),(aN.Kind,aN.dm,r2,false,([]:List ByteArray),([]:List Int),([]:List Int),([]:List ByteArray),([]:List ByteArray)))) else bif aN.Kind==2 then (EJ n d t 4).bind λr3=>(wz d t.Neg 5).bind λr4=>bif !r4 then bif r3.iV then some (.inr (true,(aN.Kind,aN.dm,([]:List aH),r3.iV,r3.fF,([]:List Int),([]:List Int),([]:List ByteArray),([]:List ByteArray)),(aN.Kind,aN.dm,([]:List aH),r3.iV,r3.fF,([]:List Int),([]:List Int),([]:List ByteArray),([]:List ByteArray)))) else some (.inr (decide (0<(r3.fF.length:Int)),(aN.Kind,aN.dm,([]:List aH),r3.iV,r3.fF,([]:List Int),([]:List Int),([]:List ByteArray),([]:List ByteArray)),(aN.Kind,aN.dm,([]:List aH),r3.iV,r3.fF,([]:List Int),([]:List Int),([]:List ByteArray),([]:List ByteArray)))) else some (.inr (false,(aN.Kind,aN.dm,([]:List aH),r3.iV,r3.fF,([]:List Int),([]:List Int),([]:List ByteArray),([]:List ByteArray)),(aN.Kind,aN.dm,([]:List aH),r3.iV,r3.fF,([]:List Int),([]:List Int),([]:List ByteArray),([]:List ByteArray)))) else bif aN.Kind==3 then (EJ n d t 6).bind λr5=>(wz d t.Neg 7).bind λr6=>bif !r6 then bif r5.iV then some (.inr (true,(aN.Kind,aN.dm,([]:List aH),r5.iV,r5.fF,([]:List Int),([]:List Int),([]:List ByteArray),([]:List ByteArray)),(aN.Kind,aN.dm,([]:List aH),r5.iV,r5.fF,([]:List Int),([]:List Int),([]:List ByteArray),([]:List ByteArray)))) else some (.inr (decide (0<(r5.fF.length:Int)),(aN.Kind,aN.dm,([]:List aH),r5.iV,r5.fF,([]:List Int),([]:List Int),([]:List ByteArray),([]:List ByteArray)),(aN.Kind,aN.dm,([]:List aH),r5.iV,r5.fF,([]:List Int),([]:List Int),([]:List ByteArray),([]:List ByteArray)))) else some (.inr (false,(aN.Kind,aN.dm,([]:List aH),r5.iV,r5.fF,([]:List Int),([]:List Int),([]:List ByteArray),([]:List ByteArray)),(aN.Kind,aN.dm,([]:List aH),r5.iV,r5.fF,([]:List Int),([]:List Int),([]:List ByteArray),([]:List ByteArray)))) else bif aN.Kind==4 then (wz d t.Neg 8).bind λr7=>some (.inr (!r7,(aN.Kind,aN.dm,([]:List aH),false,([]:List ByteArray),([]:List Int),([]:List Int),([]:List ByteArray),([]:List ByteArray)),(aN.Kind,aN.dm,([]:List aH),false,([]:List ByteArray),([]:List Int),([]:List Int),([]:List ByteArray),([]:List ByteArray)))) else bif aN.Kind==5 then (wz d t.Neg 9).bind λr8=>some (.inr (!r8,(aN.Kind,aN.dm,([]:List aH),false,([]:List ByteArray),([]:List Int),([]:List Int),([]:List ByteArray),([]:List ByteArray)),(aN.Kind,aN.dm,([]:List aH),false,([]:List ByteArray),([]:List Int),([]:List Int),([]:List ByteArray),([]:List ByteArray)))) else bif aN.Kind==6 then some (.inl (10,11,(0,0,([]:List aH),false,([]:List ByteArray),([]:List Int),([]:List Int),([]:List ByteArray),([]:List ByteArray)),(aN.Kind,aN.dm,([]:List aH),false,([]:List ByteArray),([]:List Int),([]:List Int),([]:List ByteArray),([]:List ByteArray)))) else bif aN.Kind==7 then some (.inl (12,0,(0,0,([]:List aH),false,([]:List ByteArray),([]:List Int),([]:List Int),([]:List ByteArray),([]:List ByteArray)),(aN.Kind,aN.dm,([]:List aH),false,([]:List ByteArray),([]:List Int),([]:List Int),([]:List ByteArray),([]:List ByteArray)))) else bif aN.Kind==8 then some (.inl (13,0,(0,0,([]:List aH),false,([]:List ByteArray),([]:List Int),([]:List Int),([]:List ByteArray),([]:List ByteArray)),(aN.Kind,aN.dm,([]:List aH),false,([]:List ByteArray),([]:List Int),([]:List Int),([]:List ByteArray),([]:List ByteArray)))) else bif aN.Kind==9 then some (.inl (14,15,(0,0,([]:List aH),false,([]:List ByteArray),([]:List Int),([]:List Int),([]:List ByteArray),([]:List ByteArray)),(aN.Kind,aN.dm,([]:List aH),false,([]:List ByteArray),([]:List Int),([]:List Int),([]:List ByteArray),([]:List ByteArray)))) else some (.inl (0,0,(0,0,([]:List aH),false,([]:List ByteArray),([]:List Int),([]:List Int),([]:List ByteArray),([]:List ByteArray)),(aN.Kind,aN.dm,([]:List aH),false,([]:List ByteArray),([]:List Int),([]:List Int),([]:List ByteArray),([]:List ByteArray))))).bind λ(b9:Sum (Int×Int×(Int×Int×(List aH)×Bool×(List ByteArray)×(List Int)×(List Int)×(List ByteArray)×(List ByteArray))×(Int×Int×(List aH)×Bool×(List ByteArray)×(List Int)×(List Int)×(List ByteArray)×(List ByteArray))) (Bool×(Int×Int×(List aH)×Bool×(List ByteArray)×(List Int)×(List Int)×(List ByteArray)×(List ByteArray))×(Int×Int×(List aH)×Bool×(List ByteArray)×(List Int)×(List Int)×(List ByteArray)×(List ByteArray))))=>bB (λx10=>(jc aN d t.Pos x10.1).bind λj6=>(jc aN d t.Neg x10.1).bind λjL=>bif x10.2.1==0 then some (fw.mk x10.2.2.2.1 x10.2.2.2.2.1 x10.2.2.2.2.2.1 (dV.mk x10.2.2.2.2.2.2.1 x10.2.2.2.2.2.2.2.1) j6 jL x10.2.2.2.2.2.2.2.2.2.2.1 x10.2.2.2.2.2.2.2.2.2.2.2,true) else (wz d t.Neg x10.2.1).bind λzN=>some (fw.mk x10.2.2.2.1 x10.2.2.2.2.1 x10.2.2.2.2.2.1 (dV.mk x10.2.2.2.2.2.2.1 x10.2.2.2.2.2.2.2.1) j6 jL x10.2.2.2.2.2.2.2.2.2.2.1 x10.2.2.2.2.2.2.2.2.2.2.2,!zN)) (λnk=>some (fw.mk nk.2.1.1 nk.2.1.2.1 nk.2.1.2.2.1 (dV.mk nk.2.1.2.2.2.1 nk.2.1.2.2.2.2.1) nk.2.1.2.2.2.2.2.1 nk.2.1.2.2.2.2.2.2.1 nk.2.1.2.2.2.2.2.2.2.1 nk.2.1.2.2.2.2.2.2.2.2,nk.1)) b9
noncomputable def aM' (d:aO)(n:Nat)(e6:ai)(r7:List ByteArray)(r8:List ByteArray)(j6:List dG)(rX:(List fw)×Int):Option (Fl ((List fw)×Int) (List fw)):=bif rX.2<(j6.length:Int) then (ak j6 rX.2).bind λe14=>(Mr n d e6 e14).bind λfK=>bif fK.2 then (gN 16 r7).bind λr16=>(gN 16 r8).bind λjB=>(bN (rX.1.length+([fw.mk fK.1.Kind fK.1.dm fK.1.Ints fK.1.Names fK.1.Pos fK.1.Neg r16 jB]:List fw).length) 168).bind λ_=>some (.next (rX.1++([fw.mk fK.1.Kind fK.1.dm fK.1.Ints fK.1.Names fK.1.Pos fK.1.Neg r16 jB]:List fw),wr .i64 (rX.2+1))) else some (.next (rX.1,wr .i64 (rX.2+1))) else some (.done rX.1)
noncomputable def Wx (d:aO)(n:Nat)(r4:List ai)(x5:(List fw)×Int):Option (Fl ((List fw)×Int) (List fw)):=bif x5.2<(r4.length:Int) then (ak r4 x5.2).bind λe6=>(si d e6.Pos).bind λr7=>(si d e6.Neg).bind λr8=>(xg e6.Pos e6.Neg).bind λr9=>(bif r9 then some true else (Br r7 r8).bind λiH=>some iH).bind λzM=>bif zM then some (.next (x5.1,wr .i64 (x5.2+1))) else (BN).bind λj6=>(aB (aM' d n e6 r7 r8 j6) ((j6.length:Int).toNat+1) (x5.1,0)).bind λb19=>some (.next (b19,wr .i64 (x5.2+1))) else some (.done x5.1)
noncomputable def O3 (n:Nat)(d:aO)(t:ai):Option (List fw):=(wu n d).bind λr1=>(bif r1 != 0 then some true else (su d t).bind λr2=>some (!r2)).bind λq3=>bif q3 then some ([]) else (Cu n d t).bind λr4=>(aB (Wx d n r4) ((r4.length:Int).toNat+1) ([],0)).bind λb20=>some b20
def UH (t:aO)(nodes:List Int)(kind:Int)(width:Int)(x1:(List (List Int))×Int):Option (Fl ((List (List Int))×Int) (Sum (List (List Int)) ((List (List Int))×Bool))):=bif x1.2<(nodes.length:Int) then (ak nodes x1.2).bind λe2=>(bif e2<0 then some true else some (decide ((t.Nodes.length:Int)<=e2))).bind λq3=>(bif q3 then some true else (ak t.Nodes e2).bind λe4=>some (e4.Kind != kind)).bind λq5=>(bif q5 then some true else (ak t.Nodes e2).bind λe6=>some ((e6.Kids.length:Int) != width)).bind λq7=>bif q7 then some (.done (.inr ([],false))) else (ak t.Nodes e2).bind λe8=>(bN (x1.1.length+([e8.Kids]:List (List Int)).length) 24).bind λ_=>some (.next (x1.1++([e8.Kids]:List (List Int)),wr .i64 (x1.2+1))) else some (.done (.inl x1.1))
def Gn (t:aO)(nodes:List Int)(kind:Int)(width:Int):Option ((List (List Int))×Bool):=(aB (UH t nodes kind width) ((nodes.length:Int).toNat+1) ([],0)).bind λb10=>bB (λbY=>some (bY,true)) (λwW=>some (wW.1,wW.2)) b10
def Xl (s:List (List Int))(f:(List Int)->Option Bool)(x1:Int):Option (Fl Int (Sum Unit Int)):=bif x1<(s.length:Int) then (ak s x1).bind λe2=>(f e2).bind λr3=>bif r3 then some (.done (.inr x1)) else some (.next (wr .i64 (x1+1))) else some (.done (.inl ()))
def NA (s:List (List Int))(f:(List Int)->Option Bool):Option Int:=(aB (Xl s f) ((s.length:Int).toNat+1) 0).bind λb4=>bB (λ_=>some (-1)) (λy6=>some y6) b4
def NP (s:List (List Int))(f:(List Int)->Option Bool):Option Bool:=(NA s f).bind λr1=>some (decide (0<=r1))
def Jy (r:List Int)(dM:Int):Option Bool:=some ((r.length:Int) != dM)
def Ei (width:Int)(rows:List (List Int)):Option Bool:=(NP rows (λz1=>(Jy z1 width).bind λr2=>some r2)).bind λr3=>some (!r3)
def bi' (t:List (List Int))(x1:Int×(List ai)×(List ai))(x2:Int×((List Int)×(List Int)×Bool)):Option (Fl (Int×((List Int)×(List Int)×Bool)) ((List Int)×(List Int)×Bool)):=bif x2.1<(t.length:Int) then (ak t x2.1).bind λe3=>(ak e3 x1.1).bind λe4=>(bN (x2.2.1.length+([e4]:List Int).length) 8).bind λ_=>some (.next (wr .i64 (x2.1+1),(x2.2.1++([e4]:List Int),x2.2.2.1,x2.2.2.2))) else some (.done (x2.2.1,x2.2.2.1,x2.2.2.2))
def bY' (aN:List (List Int))(om:List (List Int))(wX:List Int)(x1:Int×(List ai)×(List ai))(x7:Int×((List Int)×(List Int)×Bool)):Option (Fl (Int×((List Int)×(List Int)×Bool)) ((List Int)×(List Int)×Bool)):=bif x7.1<(aN.length:Int) then (ak aN x7.1).bind λe8=>(ak om x7.1).bind λe9=>(ak wX x7.1).bind λ_=>(wX[x7.1.toNat]?).bind λe11=>(ak e9 e11).bind λe12=>bif e12==x1.1 then (ak e8 x1.1).bind λe13=>(bN (x7.2.2.1.length+([e13]:List Int).length) 8).bind λ_=>some (.next (wr .i64 (x7.1+1),(x7.2.1,x7.2.2.1++([e13]:List Int),x7.2.2.2))) else some (.next (wr .i64 (x7.1+1),(x7.2.1,x7.2.2.1,x7.2.2.2))) else some (.done (x7.2.1,x7.2.2.1,x7.2.2.2))
def co' (d:Int)(t:List (List Int))(aN:List (List Int))(om:List (List Int))(wX:List Int)(x1:Int×(List ai)×(List ai)):Option (Fl (Int×(List ai)×(List ai)) (Sum ((List ai)×(List ai)) (Bool×(List ai)×(List ai)))):=bif x1.1<d then (aB (bi' t x1) ((t.length:Int).toNat+1) (0,([],[],false))).bind λb6=>(aB (bY' aN om wX x1) ((aN.length:Int).toNat+1) (0,(b6.1,b6.2.1,b6.2.2))).bind λb15=>(xg b15.1 b15.2.1).bind λr16=>bif r16 then some (.done (.inr (false,x1.2.2,x1.2.2))) else (qj (ai.mk b15.1 b15.2.1 b15.2.2)).bind λjB=>(bN (x1.2.2.length+([jB]:List ai).length) 56).bind λ_=>some (.next (wr .i64 (x1.1+1),x1.2.1,x1.2.2++([jB]:List ai))) else some (.done (.inl (x1.2.1,x1.2.2)))
def Ph (d:Int)(t:List (List Int))(aN:List (List Int))(om:List (List Int))(wX:List Int):Option (iF×Bool):=(aB (co' d t aN om wX) (d.toNat+1) (0,([]:List ai),[])).bind λ(b19:Sum ((List ai)×(List ai)) (Bool×(List ai)×(List ai)))=>bB (λx20=>some (iF.mk x20.2,true)) (λy21=>some (iF.mk y21.2.1,y21.1)) b19
def VH (digits:List Int)(options:List (List Int))(bY:Int×List Int):Option (Fl (Int×List Int) (Sum (Unit×List Int) (Bool×List Int))):=bif bY.1<(digits.length:Int) then (ak bY.2 bY.1).bind λ_=>(bY.2[bY.1.toNat]?).bind λe13=>(ak bY.2 bY.1).bind λ_=>(bY.2[bY.1.toNat]?).bind λ_=>(ak (bY.2.set bY.1.toNat (wr .i64 (e13+1))) bY.1).bind λ_=>((bY.2.set bY.1.toNat (wr .i64 (e13+1)))[bY.1.toNat]?).bind λe17=>(ak options bY.1).bind λe18=>bif e17<(e18.length:Int) then some (.done (.inr (true,bY.2.set bY.1.toNat (wr .i64 (e13+1))))) else (ak (bY.2.set bY.1.toNat (wr .i64 (e13+1))) bY.1).bind λ_=>((bY.2.set bY.1.toNat (wr .i64 (e13+1)))[bY.1.toNat]?).bind λ_=>some (.next (wr .i64 (bY.1+1),(bY.2.set bY.1.toNat (wr .i64 (e13+1))).set bY.1.toNat 0)) else some (.done (.inl ((),bY.2)))
def KY (digits:List Int)(options:List (List Int)):Option (Bool×List Int):=(aB (VH digits options) ((digits.length:Int).toNat+1) (0,digits)).bind λ(IE:Sum (Unit×List Int) (Bool×List Int))=>bB (λwY=>some (false,wY.2)) (λy23=>some (y23.1,y23.2)) IE
def Wm (om:Int->Option Bool)(x7:Int×List (List Int))(e8:List Int)(x9:Int×List (List Int)):Option (Fl (Int×List (List Int)) (Unit×List (List Int))):=bif x9.1<(e8.length:Int) then (ak e8 x9.1).bind λe10=>(om e10).bind λpM=>bif pM then (ak x9.2 x7.1).bind λ_=>(x9.2[x7.1.toNat]?).bind λe13=>(bN (e13.length+([x9.1]:List Int).length) 8).bind λ_=>(ak x9.2 x7.1).bind λ_=>(x9.2[x7.1.toNat]?).bind λ_=>bif il' (x7.1.toNat+2) (x7.1.toNat+2) then some (.next (wr .i64 (x9.1+1),x9.2.set x7.1.toNat (e13++([x9.1]:List Int)))) else none else some (.next (wr .i64 (x9.1+1),x9.2)) else some (.done ((),x9.2))
def X5 (aN:List (List Int))(om:Int->Option Bool)(x7:Int×List (List Int)):Option (Fl (Int×List (List Int)) (Sum (Unit×List (List Int)) ((List iF)×List (List Int)))):=bif x7.1<(aN.length:Int) then (ak aN x7.1).bind λe8=>(aB (Wm om x7 e8) ((e8.length:Int).toNat+1) (0,x7.2)).bind λb17=>(ak b17.2 x7.1).bind λ_=>(b17.2[x7.1.toNat]?).bind λe19=>bif (e19.length:Int)==0 then some (.done (.inr ([],b17.2))) else some (.next (wr .i64 (x7.1+1),b17.2)) else some (.done (.inl ((),x7.2)))
def Wi (d:Int)(t:List (List Int))(aN:List (List Int))(x21:Unit×List (List Int))(x24:(List Int)×(List iF)):Option (Fl ((List Int)×(List iF)) ((List iF)×(List Int))):=(Ph d t aN x21.2 x24.1).bind λIG=>(bif IG.2 then (bN (x24.2.length+([IG.1]:List iF).length) 24).bind λ_=>some (x24.2++([IG.1]:List iF)) else some x24.2).bind λDb=>(KY x24.1 x21.2).bind λII=>bif !II.1 then some (.done (Db,II.2)) else some (.next (II.2,Db))
def Mg (n:Nat)(d:Int)(t:List (List Int))(aN:List (List Int))(om:Int->Option Bool):Option (List iF):=(bif d<0 then some true else some (decide (4<d))).bind λq1=>(bif q1 then some true else (Ei d t).bind λr2=>some (!r2)).bind λq3=>(bif q3 then some true else (Ei d aN).bind λr4=>some (!r4)).bind λq5=>bif q5 then some ([]) else (pV (aN.length:Int) (aN.length:Int) 24).bind λm6=>(aB (X5 aN om) ((aN.length:Int).toNat+1) (0,iC' m6 ([]:List Int))).bind λ(b20:Sum (Unit×List (List Int)) ((List iF)×List (List Int)))=>bB (λx21=>(pV (aN.length:Int) (aN.length:Int) 8).bind λm23=>(aB (Wi d t aN x21) n (iC' m23 (0:Int),[])).bind λIJ=>some IJ.1) (λy22=>some y22.1) b20
def KI (i:Int)(dM:aO):Option Bool:=(ak dM.Nodes i).bind λe1=>some (e1.Kind != 2)
def YU (iH:List iF)(bY:Int):Option (Fl Int Unit):=bif bY<(iH.length:Int) then (ak iH bY).bind λe12=>(ak e12.Parts 1).bind λ_=>none else some (.done ())
def Ml (n:Nat)(d:aO)(t:fw):Option ((List iF)×Int):=(bif t.Kind==6 then some (.inl (10,t.dm)) else bif t.Kind==7 then some (.inl (12,2)) else some (.inr ([],9))).bind λb1=>bB (λx2=>(wu n d).bind λr4=>bif r4 != 0 then some (([]:List iF),1) else (Gn d t.Pos x2.1 x2.2).bind λr5=>(Gn d t.Neg x2.1 x2.2).bind λr6=>(bif !r5.2 then some true else some (!r6.2)).bind λq7=>bif q7 then some (([]:List iF),1) else (Mg n x2.2 r5.1 r6.1 (λz8=>(KI z8 d).bind λr9=>some r9)).bind λiH=>(bif t.Kind==7 then (aB (YU iH) ((iH.length:Int).toNat+1) 0).bind λ_=>some () else some ()).bind λ_=>some (iH,0)) (λy3=>some (y3.1,y3.2)) b1
def ZO (r4:(List iF)×Int)(x5:(List eG)×Int):Option (Fl ((List eG)×Int) (List eG)):=bif x5.2<(r4.1.length:Int) then (ak r4.1 x5.2).bind λe6=>(bN (x5.1.length+([eG.mk (Val.mk 0 0 (⟨#[]⟩:ByteArray) ([]:List Val) ([]:List Key) ([]:List dA) ([]:List ByteArray)) ([]:List Key) ([]:List kQ) e6.Parts]:List eG).length) 200).bind λ_=>some (.next (x5.1++([eG.mk (Val.mk 0 0 (⟨#[]⟩:ByteArray) ([]:List Val) ([]:List Key) ([]:List dA) ([]:List ByteArray)) ([]:List Key) ([]:List kQ) e6.Parts]:List eG),wr .i64 (x5.2+1))) else some (.done x5.1)
def JQ (n:Nat)(d:aO)(t:fw):Option (List eG):=bif t.Kind==1 then none else (bif t.Kind==2 then some (t.Kind==2) else some (t.Kind==3)).bind λb1=>bif b1 then (bif t.Kind==3 then some 0 else some 1).bind λ(_:Int)=>none else (bif t.Kind==6 then some (t.Kind==6) else some (t.Kind==7)).bind λb3=>bif b3 then (Ml n d t).bind λr4=>(aB (ZO r4) ((r4.1.length:Int).toNat+1) ([],0)).bind λb8=>some b8 else bif t.Kind==8 then none else bif t.Kind==9 then none else some ([eG.mk (Val.mk 0 0 (⟨#[]⟩:ByteArray) ([]:List Val) ([]:List Key) ([]:List dA) ([]:List ByteArray)) ([]:List Key) ([]:List kQ) ([]:List ai)]:List eG)
def VN (l:fw)(r1:List eG)(x2:(List eG)×Int):Option (Fl ((List eG)×Int) (List eG)):=bif x2.2<(r1.length:Int) then (ak r1 x2.2).bind λe3=>(gN 16 l.Vars).bind λr4=>(bN (x2.1.length+([eG.mk (Val.mk l.Kind e3.Leaf.uF e3.Leaf.Text e3.Leaf.Kids e3.Leaf.Keys e3.Leaf.Entries r4) e3.Keys e3.Forms e3.zK]:List eG).length) 200).bind λ_=>some (.next (x2.1++([eG.mk (Val.mk l.Kind e3.Leaf.uF e3.Leaf.Text e3.Leaf.Kids e3.Leaf.Keys e3.Leaf.Entries r4) e3.Keys e3.Forms e3.zK]:List eG),wr .i64 (x2.2+1))) else some (.done x2.1)
def Ju (n:Nat)(t:aO)(l:fw):Option (List eG):=(JQ n t l).bind λr1=>(aB (VN l r1) ((r1.length:Int).toNat+1) ([],0)).bind λb6=>some b6
noncomputable def Ub (r4:List eG)(x5:(List bM)×Int):Option (Fl ((List bM)×Int) (List bM)):=bif x5.2<(r4.length:Int) then (ak r4 x5.2).bind λe6=>(bN (x5.1.length+([bM.mk e6 ([]:List (List iE))]:List bM).length) 224).bind λ_=>some (.next (x5.1++([bM.mk e6 ([]:List (List iE))]:List bM),wr .i64 (x5.2+1))) else some (.done x5.1)
noncomputable def YL (e3:fw)(x10:Int):Option (Fl Int Unit):=bif x10<(e3.Neg.length:Int) then (ak e3.Neg x10).bind λ_=>none else some (.done ())
noncomputable def RF (d:aO)(n:Nat)(r1:List fw)(x2:(List bM)×Int):Option (Fl ((List bM)×Int) (List bM)):=bif x2.2<(r1.length:Int) then (ak r1 x2.2).bind λe3=>bif e3.Kind != 9 then (Ju n d e3).bind λr4=>(aB (Ub r4) ((r4.length:Int).toNat+1) (x2.1,0)).bind λb8=>some (.next (b8,wr .i64 (x2.2+1))) else (gN 16 e3.Vars).bind λr9=>(aB (YL e3) ((e3.Neg.length:Int).toNat+1) 0).bind λ_=>(bN (x2.1.length+([bM.mk (eG.mk (Val.mk 9 e3.dm (⟨#[]⟩:ByteArray) ([]:List Val) ([]:List Key) ([]:List dA) r9) ([]:List Key) ([]:List kQ) ([]:List ai)) ([]:List (List iE))]:List bM).length) 224).bind λ_=>some (.next (x2.1++([bM.mk (eG.mk (Val.mk 9 e3.dm (⟨#[]⟩:ByteArray) ([]:List Val) ([]:List Key) ([]:List dA) r9) ([]:List Key) ([]:List kQ) ([]:List ai)) ([]:List (List iE))]:List bM),wr .i64 (x2.2+1))) else some (.done x2.1)
noncomputable def JP (n:Nat)(d:aO)(t:ai):Option (List bM):=(O3 n d t).bind λr1=>(aB (RF d n r1) ((r1.length:Int).toNat+1) ([],0)).bind λb14=>some b14
def Dx (f:iE):Option (List ai):=bif f.Fails then some f.ng else (gN 56 f.ng).bind λr1=>(bN (r1.length+([f.Result]:List ai).length) 56).bind λ_=>some (r1++([f.Result]:List ai))
def VF (e3:List iE)(x4:(List ai)×Int):Option (Fl ((List ai)×Int) (List ai)):=bif x4.2<(e3.length:Int) then (ak e3 x4.2).bind λe5=>(Dx e5).bind λr6=>(bN (x4.1.length+r6.length) 56).bind λ_=>some (.next (x4.1++r6,wr .i64 (x4.2+1))) else some (.done x4.1)
def UJ (w:bM)(x2:(List ai)×Int):Option (Fl ((List ai)×Int) (List ai)):=bif x2.2<(w.Entries.length:Int) then (ak w.Entries x2.2).bind λe3=>(aB (VF e3) ((e3.length:Int).toNat+1) (x2.1,0)).bind λb8=>some (.next (b8,wr .i64 (x2.2+1))) else some (.done x2.1)
def K9 (w:bM):Option (List ai):=(gN 56 w.Alternative.zK).bind λr1=>(aB (UJ w) ((w.Entries.length:Int).toNat+1) (r1,0)).bind λb9=>some b9
def SL (s:List bM)(f:bM->Option Bool)(x1:Int):Option (Fl Int (Sum Unit Int)):=bif x1<(s.length:Int) then (ak s x1).bind λe2=>(f e2).bind λr3=>bif r3 then some (.done (.inr x1)) else some (.next (wr .i64 (x1+1))) else some (.done (.inl ()))
def Mc (s:List bM)(f:bM->Option Bool):Option Int:=(aB (SL s f) ((s.length:Int).toNat+1) 0).bind λb4=>bB (λ_=>some (-1)) (λy6=>some y6) b4
def Mj (s:List bM)(f:bM->Option Bool):Option Bool:=(Mc s f).bind λr1=>some (decide (0<=r1))
def Ra (table:(List (ByteArray×(List bM)))×(List (ByteArray×Int)))(l:List ai)(x1:Int×Int):Option (Fl (Int×Int) (Sum Int (Int×Bool))):=bif x1.2<(l.length:Int) then (ak l x1.2).bind λe2=>(sU e2).bind λr3=>bif ((fH table.2 r3).getD (0:Int))==0 then some (.done (.inr (0,false))) else some (.next (max x1.1 ((fH table.2 r3).getD (0:Int)),wr .i64 (x1.2+1))) else some (.done (.inl x1.1))
def GQ (table:(List (ByteArray×(List bM)))×(List (ByteArray×Int)))(l:List ai):Option (Int×Bool):=(aB (Ra table l) ((l.length:Int).toNat+1) (0,0)).bind λ(b4:Sum Int (Int×Bool))=>bB (λx5=>some (x5,true)) (λy6=>some (y6.1,y6.2)) b4
def bM' (table:(List (ByteArray×(List bM)))×(List (ByteArray×Int)))(l:List iE)(x1:Int×Bool×Int×((List ai)×Bool×(List Int)×(List Int)×Bool)):Option (Fl (Int×Bool×Int×((List ai)×Bool×(List Int)×(List Int)×Bool)) (Int×Bool×((List ai)×Bool×(List Int)×(List Int)×Bool))):=bif x1.2.2.1<(l.length:Int) then (ak l x1.2.2.1).bind λe2=>(Dx e2).bind λr3=>(GQ (table.1,table.2) r3).bind λr4=>(bif r4.2 then (bif !x1.2.1 then some true else some (decide (r4.1<x1.1))).bind λq5=>some q5 else some false).bind λq6=>bif q6 then some (.next (r4.1,true,wr .i64 (x1.2.2.1+1),(e2.ng,e2.Fails,e2.Result.Pos,e2.Result.Neg,e2.Result.Lists))) else some (.next (x1.1,x1.2.1,wr .i64 (x1.2.2.1+1),(x1.2.2.2.1,x1.2.2.2.2.1,x1.2.2.2.2.2.1,x1.2.2.2.2.2.2.1,x1.2.2.2.2.2.2.2))) else some (.done (x1.1,x1.2.1,(x1.2.2.2.1,x1.2.2.2.2.1,x1.2.2.2.2.2.1,x1.2.2.2.2.2.2.1,x1.2.2.2.2.2.2.2)))
def KX (table:(List (ByteArray×(List bM)))×(List (ByteArray×Int)))(l:List iE):Option (iE×Int×Bool):=(aB (bM' table l) ((l.length:Int).toNat+1) (0,false,0,(([]:List ai),false,([]:List Int),([]:List Int),false))).bind λb7=>some (iE.mk b7.2.2.1 b7.2.2.2.1 (ai.mk b7.2.2.2.2.1 b7.2.2.2.2.2.1 b7.2.2.2.2.2.2),b7.1,b7.2.1)
def Vw (table:(List (ByteArray×(List bM)))×(List (ByteArray×Int)))(w:bM)(x2:Int×Int):Option (Fl (Int×Int) (Sum Int Int)):=bif x2.2<(w.Entries.length:Int) then (ak w.Entries x2.2).bind λe3=>(KX (table.1,table.2) e3).bind λr4=>bif !r4.2.2 then some (.done (.inr 0)) else some (.next (max x2.1 r4.2.1,wr .i64 (x2.2+1))) else some (.done (.inl x2.1))
def OE (table:(List (ByteArray×(List bM)))×(List (ByteArray×Int)))(w:bM):Option Int:=(GQ (table.1,table.2) w.Alternative.zK).bind λr1=>bif !r1.2 then some 0 else (aB (Vw table w) ((w.Entries.length:Int).toNat+1) (r1.1,0)).bind λb5=>bB (λx6=>some (wr .i64 (x6+1))) (λy7=>some y7) b5
def K4 (w:bM)(dM:(List (ByteArray×(List bM)))×(List (ByteArray×Int))):Option (Bool×Unit):=(OE (dM.1,dM.2) w).bind λr1=>some (decide (0<r1),())
def bL' (table:(List (ByteArray×(List bM)))×(List (ByteArray×Int)))(order:List ByteArray)(x1:(List ByteArray)×Int):Option (Fl ((List ByteArray)×Int) (List ByteArray)):=bif x1.2<(order.length:Int) then (ak order x1.2).bind λe2=>bif 0<((fH table.2 e2).getD (0:Int)) then some (.next (x1.1,wr .i64 (x1.2+1))) else (Mj ((fH table.1 e2).getD ([]:List bM)) (λz3=>(K4 z3 (table.1,table.2)).bind λr4=>some r4.1)).bind λr5=>bif r5 then (bN (x1.1.length+([e2]:List ByteArray).length) 16).bind λ_=>some (.next (x1.1++([e2]:List ByteArray),wr .i64 (x1.2+1))) else some (.next (x1.1,wr .i64 (x1.2+1))) else some (.done x1.1)
def RB (IL:Int)(b7:List ByteArray)(x10:Int×(List (ByteArray×Int))):Option (Fl (Int×(List (ByteArray×Int))) (Unit×(List (ByteArray×Int)))):=bif x10.1<(b7.length:Int) then (ak b7 x10.1).bind λe11=>some (.next (wr .i64 (x10.1+1),iX x10.2 e11 IL)) else some (.done ((),x10.2))
def Kn (table:(List (ByteArray×(List bM)))×(List (ByteArray×Int)))(order:List ByteArray)(IL:Int):Option ((Bool×Unit)×(List (ByteArray×(List bM)))×(List (ByteArray×Int))):=(aB (bL' table order) ((order.length:Int).toNat+1) ([],0)).bind λb7=>(aB (RB IL b7) ((b7.length:Int).toNat+1) (0,table.2)).bind λb12=>some ((decide (0<(b7.length:Int)),()),table.1,b12.2)
noncomputable def XE (r6:List bM)(x8:(List ai)×Int):Option (Fl ((List ai)×Int) (List ai)):=bif x8.2<(r6.length:Int) then (ak r6 x8.2).bind λe9=>(K9 e9).bind λiH=>(bN (x8.1.length+iH.length) 56).bind λ_=>some (.next (x8.1++iH,wr .i64 (x8.2+1))) else some (.done x8.1)
noncomputable def YJ (d:aO)(n:Nat)(x1:(List ai)×(List ByteArray)×((List (ByteArray×(List bM)))×(List (ByteArray×Int)))):Option (Fl ((List ai)×(List ByteArray)×((List (ByteArray×(List bM)))×(List (ByteArray×Int)))) ((List ByteArray)×((List (ByteArray×(List bM)))×(List (ByteArray×Int))))):=bif 0<(x1.1.length:Int) then (ak x1.1 (wr .i64 ((x1.1.length:Int)-1))).bind λ_=>(x1.1[(wr .i64 ((x1.1.length:Int)-1)).toNat]?).bind λe3=>(cut x1.1 0 (wr .i64 ((x1.1.length:Int)-1))).bind λy4=>(sU e3).bind λr5=>bif (fH x1.2.2.1 r5).isSome then some (.next (y4,x1.2.1,(x1.2.2.1,x1.2.2.2))) else (JP n d e3).bind λr6=>(bN (x1.2.1.length+([r5]:List ByteArray).length) 16).bind λ_=>(aB (XE r6) ((r6.length:Int).toNat+1) (y4,0)).bind λb12=>some (.next (b12,x1.2.1++([r5]:List ByteArray),(iX x1.2.2.1 r5 r6,x1.2.2.2))) else some (.done (x1.2.1,(x1.2.2.1,x1.2.2.2)))
noncomputable def QZ (b13:(List ByteArray)×((List (ByteArray×(List bM)))×(List (ByteArray×Int))))(pO:Int×((List (ByteArray×(List bM)))×(List (ByteArray×Int)))):Option (Fl (Int×((List (ByteArray×(List bM)))×(List (ByteArray×Int)))) ((List (ByteArray×(List bM)))×(List (ByteArray×Int)))):=(Kn (pO.2.1,pO.2.2) b13.1 pO.1).bind λfK=>bif fK.1.1 then some (.next (wr .i64 (pO.1+1),(fK.2.1,fK.2.2))) else some (.done (fK.2.1,fK.2.2))
noncomputable def JB (n:Nat)(d:aO)(t:ai):Option ((List (ByteArray×(List bM)))×(List (ByteArray×Int))):=(aB (YJ d n) n (([t]:List ai),[],(([]:List (ByteArray×(List bM))),([]:List (ByteArray×Int))))).bind λb13=>(aB (QZ b13) n (1,(b13.2.1,b13.2.2))).bind λb16=>some (b16.1,b16.2)
noncomputable def K7 (n:Nat)(t:aO)(g:ai):Option Int:=(wu n t).bind λr1=>(bif r1 != 0 then some true else (su t g).bind λr2=>some (!r2)).bind λq3=>bif q3 then some 0 else (JB n t g).bind λr4=>(sU g).bind λr5=>some ((fH r4.2 r5).getD (0:Int))
noncomputable def JV (n:Nat)(t:aO)(g:ai):Option Bool:=(K7 n t g).bind λr1=>some (r1 != 0)
noncomputable def Cj (n:Nat)(s:(List aS)×Int×(List ai)×(List (ByteArray×Bool)))(g:ai):Option (Bool×((List aS)×Int×(List ai)×(List (ByteArray×Bool)))):=(pY s.2.2.1 g).bind λr1=>bif r1 then some (true,(s.1,s.2.1,s.2.2.1,s.2.2.2)) else (sU g).bind λr2=>(bif !((fH s.2.2.2 r2).isSome) then (JV n (aO.mk s.1 s.2.1) g).bind λr3=>some (r3,(s.1,s.2.1,s.2.2.1,iX s.2.2.2 r2 r3)) else some ((fH s.2.2.2 r2).getD false,(s.1,s.2.1,s.2.2.1,s.2.2.2))).bind λb4=>(bif !b4.1 then (bN (b4.2.2.2.1.length+([g]:List ai).length) 56).bind λ_=>some (b4.2.1,b4.2.2.1,b4.2.2.2.1++([g]:List ai),b4.2.2.2.2) else some (b4.2.1,b4.2.2.1,b4.2.2.2.1,b4.2.2.2.2)).bind λb6=>some (!b4.1,(b6.1,b6.2.1,b6.2.2.1,b6.2.2.2))
def cJ' (j:(List aS)×Int×Unit)(nodes:List Int)(at_:Int)(x1:(List Int)×Int):Option (Fl ((List Int)×Int) (List Int)):=bif x1.2<(nodes.length:Int) then (ak nodes x1.2).bind λ_=>(nodes[x1.2.toNat]?).bind λe3=>(ak j.1 e3).bind λe4=>(ak e4.Kids at_).bind λe5=>(bN (x1.1.length+([e5]:List Int).length) 8).bind λ_=>some (.next (x1.1++([e5]:List Int),wr .i64 (x1.2+1))) else some (.done x1.1)
def p8 (j:(List aS)×Int×Unit)(nodes:List Int)(at_:Int):Option (List Int):=(aB (cJ' j nodes at_) ((nodes.length:Int).toNat+1) ([],0)).bind λb7=>some b7
def ap' (nodes:List Int)(values:List Int)(value:Int)(x1:(List Int)×Int):Option (Fl ((List Int)×Int) (List Int)):=bif x1.2<(nodes.length:Int) then (ak nodes x1.2).bind λ_=>(nodes[x1.2.toNat]?).bind λe3=>(ak values x1.2).bind λ_=>(values[x1.2.toNat]?).bind λe5=>bif e5==value then (bN (x1.1.length+([e3]:List Int).length) 8).bind λ_=>some (.next (x1.1++([e3]:List Int),wr .i64 (x1.2+1))) else some (.next (x1.1,wr .i64 (x1.2+1))) else some (.done x1.1)
def yD (nodes:List Int)(values:List Int)(value:Int):Option (List Int):=(aB (ap' nodes values value) ((nodes.length:Int).toNat+1) ([],0)).bind λb7=>some b7
noncomputable def SK (t:aO)(e11:ai)(wY:Int):Option (Fl Int (Sum Unit Int)):=bif wY<(e11.Neg.length:Int) then (ak e11.Neg wY).bind λe23=>((ak t.Nodes e23).bind λe24=>some ((e24.Kind==5,()),())).bind λgK=>bif gK.1.1 then some (.done (.inr wY)) else some (.next (wr .i64 (wY+1))) else some (.done (.inl ()))
noncomputable def XZ (t:aO)(e11:ai)(Dc:Int):Option (Fl Int (Sum Unit Int)):=bif Dc<(e11.Neg.length:Int) then (ak e11.Neg Dc).bind λe34=>((ak t.Nodes e34).bind λe35=>some ((e35.Kind==7,()),())).bind λIQ=>bif IQ.1.1 then some (.done (.inr Dc)) else some (.next (wr .i64 (Dc+1))) else some (.done (.inl ()))
noncomputable def Yw (t:aO)(e11:ai)(Df:Int):Option (Fl Int (Sum Unit Int)):=bif Df<(e11.Neg.length:Int) then (ak e11.Neg Df).bind λe45=>((ak t.Nodes e45).bind λe46=>some ((e46.Kind==8,()),())).bind λIU=>bif IU.1.1 then some (.done (.inr Df)) else some (.next (wr .i64 (Df+1))) else some (.done (.inl ()))
noncomputable def TD (t:aO)(e11:ai)(x54:Int):Option (Fl Int (Sum Unit Int)):=bif x54<(e11.Neg.length:Int) then (ak e11.Neg x54).bind λe55=>((ak t.Nodes e55).bind λe56=>some ((e56.Kind==9,()),())).bind λIV=>bif IV.1.1 then some (.done (.inr x54)) else some (.next (wr .i64 (x54+1))) else some (.done (.inl ()))
noncomputable def Sw (t:aO)(e11:ai)(Dg:Int):Option (Fl Int (Sum Unit Int)):=bif Dg<(e11.Neg.length:Int) then (ak e11.Neg Dg).bind λe65=>((ak t.Nodes e65).bind λe66=>some ((e66.Kind==11,()),())).bind λIW=>bif IW.1.1 then some (.done (.inr Dg)) else some (.next (wr .i64 (Dg+1))) else some (.done (.inl ()))
noncomputable def Xq (t:aO)(n:Nat)(e20:dG)(zO:List Int)(mo:List Int)(qE:(List Int)×((List aS)×Int×(List ai)×(List (ByteArray×Bool))))(mq:Int×((List aS)×Int×(List ai)×(List (ByteArray×Bool)))):Option (Fl (Int×((List aS)×Int×(List ai)×(List (ByteArray×Bool)))) (Sum ((List aS)×Int×(List ai)×(List (ByteArray×Bool))) (Bool×((List aS)×Int×(List ai)×(List (ByteArray×Bool)))))):=bif mq.1<e20.dm then (p8 (t.Nodes,t.Root,()) zO mq.1).bind λIX=>(yD mo qE.1 mq.1).bind λr81=>(p8 (t.Nodes,t.Root,()) r81 mq.1).bind λr82=>(qj (ai.mk IX r82 false)).bind λr83=>(Cj n (mq.2.1,mq.2.2.1,mq.2.2.2.1,mq.2.2.2.2) r83).bind λqF=>bif qF.1 then some (.done (.inr (true,(qF.2.1,qF.2.2.1,qF.2.2.2.1,qF.2.2.2.2)))) else some (.next (wr .i64 (mq.1+1),(qF.2.1,qF.2.2.1,qF.2.2.2.1,qF.2.2.2.2))) else some (.done (.inl (mq.2.1,mq.2.2.1,mq.2.2.2.1,mq.2.2.2.2)))
noncomputable def Ze (e20:dG)(mo:List Int)(x89:(List Int)×Int):Option (Fl ((List Int)×Int) ((List Int)×Int)):=(bif x89.2<(mo.length:Int) then (ak x89.1 x89.2).bind λ_=>(x89.1[x89.2.toNat]?).bind λe91=>some (e91==(wr .i64 (e20.dm-1))) else some false).bind λq92=>bif q92 then (ak x89.1 x89.2).bind λ_=>(x89.1[x89.2.toNat]?).bind λ_=>some (.next (x89.1.set x89.2.toNat 0,wr .i64 (x89.2+1))) else some (.done (x89.1,x89.2))
noncomputable def ZT (t:aO)(n:Nat)(e20:dG)(zO:List Int)(mo:List Int)(qE:(List Int)×((List aS)×Int×(List ai)×(List (ByteArray×Bool)))):Option (Fl ((List Int)×((List aS)×Int×(List ai)×(List (ByteArray×Bool)))) (Bool×(List Int)×((List aS)×Int×(List ai)×(List (ByteArray×Bool))))):=((aB (Xq t n e20 zO mo qE) (e20.dm.toNat+1) (0,(qE.2.1,qE.2.2.1,qE.2.2.2.1,qE.2.2.2.2))).bind λ(b85:Sum ((List aS)×Int×(List ai)×(List (ByteArray×Bool))) (Bool×((List aS)×Int×(List ai)×(List (ByteArray×Bool)))))=>bB (λx86=>some ((false,()),(x86.1,x86.2.1,x86.2.2.1,x86.2.2.2))) (λzP=>some ((zP.1,()),(zP.2.1,zP.2.2.1,zP.2.2.2.1,zP.2.2.2.2))) b85).bind λmr=>bif !mr.1.1 then some (.done (false,qE.1,(mr.2.1,mr.2.2.1,mr.2.2.2.1,mr.2.2.2.2))) else (aB (Ze e20 mo) ((mo.length:Int).toNat+1) (qE.1,0)).bind λnu=>bif nu.2==(mo.length:Int) then some (.done (true,nu.1,(mr.2.1,mr.2.2.1,mr.2.2.2.1,mr.2.2.2.2))) else (ak nu.1 nu.2).bind λ_=>(nu.1[nu.2.toNat]?).bind λe97=>(ak nu.1 nu.2).bind λ_=>(nu.1[nu.2.toNat]?).bind λ_=>some (.next (nu.1.set nu.2.toNat (wr .i64 (e97+1)),(mr.2.1,mr.2.2.1,mr.2.2.2.1,mr.2.2.2.2)))
noncomputable def bk' (t:aO)(n:Nat)(zQ:List Int)(mD:List Int)(qG:(List Int)×((List aS)×Int×(List ai)×(List (ByteArray×Bool))))(lH:Int×((List aS)×Int×(List ai)×(List (ByteArray×Bool)))):Option (Fl (Int×((List aS)×Int×(List ai)×(List (ByteArray×Bool)))) (Sum ((List aS)×Int×(List ai)×(List (ByteArray×Bool))) (Bool×((List aS)×Int×(List ai)×(List (ByteArray×Bool)))))):=bif lH.1<2 then (p8 (t.Nodes,t.Root,()) zQ lH.1).bind λIY=>(yD mD qG.1 lH.1).bind λel'=>(p8 (t.Nodes,t.Root,()) el' lH.1).bind λem'=>(qj (ai.mk IY em' (lH.1==1))).bind λeo'=>(Cj n (lH.2.1,lH.2.2.1,lH.2.2.2.1,lH.2.2.2.2) eo').bind λqH=>bif qH.1 then some (.done (.inr (true,(qH.2.1,qH.2.2.1,qH.2.2.2.1,qH.2.2.2.2)))) else some (.next (wr .i64 (lH.1+1),(qH.2.1,qH.2.2.1,qH.2.2.2.1,qH.2.2.2.2))) else some (.done (.inl (lH.2.1,lH.2.2.1,lH.2.2.2.1,lH.2.2.2.2)))
noncomputable def XA (mD:List Int)(lI:(List Int)×Int):Option (Fl ((List Int)×Int) ((List Int)×Int)):=(bif lI.2<(mD.length:Int) then (ak lI.1 lI.2).bind λ_=>(lI.1[lI.2.toNat]?).bind λep'=>some (ep'==(wr .i64 ((2:Int)-1))) else some false).bind λer'=>bif er' then (ak lI.1 lI.2).bind λ_=>(lI.1[lI.2.toNat]?).bind λ_=>some (.next (lI.1.set lI.2.toNat 0,wr .i64 (lI.2+1))) else some (.done (lI.1,lI.2))
noncomputable def Rj (t:aO)(n:Nat)(zQ:List Int)(mD:List Int)(qG:(List Int)×((List aS)×Int×(List ai)×(List (ByteArray×Bool)))):Option (Fl ((List Int)×((List aS)×Int×(List ai)×(List (ByteArray×Bool)))) (Bool×(List Int)×((List aS)×Int×(List ai)×(List (ByteArray×Bool))))):=((aB (bk' t n zQ mD qG) ((2:Int).toNat+1) (0,(qG.2.1,qG.2.2.1,qG.2.2.2.1,qG.2.2.2.2))).bind λ(et':Sum ((List aS)×Int×(List ai)×(List (ByteArray×Bool))) (Bool×((List aS)×Int×(List ai)×(List (ByteArray×Bool)))))=>bB (λDh=>some ((false,()),(Dh.1,Dh.2.1,Dh.2.2.1,Dh.2.2.2))) (λzR=>some ((zR.1,()),(zR.2.1,zR.2.2.1,zR.2.2.2.1,zR.2.2.2.2))) et').bind λmE=>bif !mE.1.1 then some (.done (false,qG.1,(mE.2.1,mE.2.2.1,mE.2.2.2.1,mE.2.2.2.2))) else (aB (XA mD) ((mD.length:Int).toNat+1) (qG.1,0)).bind λnA=>bif nA.2==(mD.length:Int) then some (.done (true,nA.1,(mE.2.1,mE.2.2.1,mE.2.2.2.1,mE.2.2.2.2))) else (ak nA.1 nA.2).bind λ_=>(nA.1[nA.2.toNat]?).bind λe127=>(ak nA.1 nA.2).bind λ_=>(nA.1[nA.2.toNat]?).bind λ_=>some (.next (nA.1.set nA.2.toNat (wr .i64 (e127+1)),(mE.2.1,mE.2.2.1,mE.2.2.2.1,mE.2.2.2.2)))
noncomputable def VG (t:aO)(e11:ai)(Di:Int):Option (Fl Int (Sum Unit Int)):=bif Di<(e11.Neg.length:Int) then (ak e11.Neg Di).bind λeu'=>((ak t.Nodes eu').bind λe137=>some ((e137.Kind==15,()),())).bind λIZ=>bif IZ.1.1 then some (.done (.inr Di)) else some (.next (wr .i64 (Di+1))) else some (.done (.inl ()))
noncomputable def bt' (t:aO)(n:Nat)(e11:ai)(jB:List dG)(x18:Int×((List aS)×Int×(List ai)×(List (ByteArray×Bool)))):Option (Fl (Int×((List aS)×Int×(List ai)×(List (ByteArray×Bool)))) (Sum ((List aS)×Int×(List ai)×(List (ByteArray×Bool))) (Int×((List aS)×Int×(List ai)×(List (ByteArray×Bool)))))):=bif x18.1<(jB.length:Int) then (ak jB x18.1).bind λ_=>(jB[x18.1.toNat]?).bind λe20=>((Bh e20 t e11).bind λr21=>bif r21 then (bif e20.Kind==1 then none else bif e20.Kind==2 then ((((aB (SK t e11) ((e11.Neg.length:Int).toNat+1) 0).bind λI4=>bB (λ_=>some (((-1),()),())) (λy28=>some ((y28,()),())) I4).bind λIJ=>some ((decide (0<=IJ.1.1),()),())).bind λb30=>some ((b30.1.1,()),())).bind λb31=>(bif b31.1.1 then some true else none).bind λq32=>some ((q32,()),(x18.2.1,x18.2.2.1,x18.2.2.2.1,x18.2.2.2.2)) else bif e20.Kind==3 then ((((aB (XZ t e11) ((e11.Neg.length:Int).toNat+1) 0).bind λI5=>bB (λ_=>some (((-1),()),())) (λy39=>some ((y39,()),())) I5).bind λb40=>some ((decide (0<=b40.1.1),()),())).bind λb41=>some ((b41.1.1,()),())).bind λb42=>(bif b42.1.1 then some true else none).bind λq43=>some ((q43,()),(x18.2.1,x18.2.2.1,x18.2.2.2.1,x18.2.2.2.2)) else bif e20.Kind==4 then ((((aB (Yw t e11) ((e11.Neg.length:Int).toNat+1) 0).bind λI6=>bB (λ_=>some (((-1),()),())) (λy50=>some ((y50,()),())) I6).bind λb51=>some ((decide (0<=b51.1.1),()),())).bind λb52=>some ((b52.1.1,()),())).bind λI7=>some ((I7.1.1,()),(x18.2.1,x18.2.2.1,x18.2.2.2.1,x18.2.2.2.2)) else bif e20.Kind==5 then ((((aB (TD t e11) ((e11.Neg.length:Int).toNat+1) 0).bind λI8=>bB (λ_=>some (((-1),()),())) (λy60=>some ((y60,()),())) I8).bind λb61=>some ((decide (0<=b61.1.1),()),())).bind λb62=>some ((b62.1.1,()),())).bind λI9=>some ((I9.1.1,()),(x18.2.1,x18.2.2.1,x18.2.2.2.1,x18.2.2.2.2)) else bif e20.Kind==6 then (((((aB (Sw t e11) ((e11.Neg.length:Int).toNat+1) 0).bind λJa=>bB (λ_=>some (((-1),()),())) (λy70=>some ((y70,()),())) Ja).bind λb71=>some ((decide (0<=b71.1.1),()),())).bind λb72=>some ((b72.1.1,()),())).bind λb73=>bif b73.1.1 then some (true,(x18.2.1,x18.2.2.1,x18.2.2.2.1,x18.2.2.2.2)) else (jc e20 t e11.Pos 10).bind λzO=>(jc e20 t e11.Neg 10).bind λmo=>(((bif e20.dm==0 then some (decide (0<(mo.length:Int))) else some false).bind λq76=>bif q76 then some ((true,()),(x18.2.1,x18.2.2.1,x18.2.2.2.1,x18.2.2.2.2)) else (pV (mo.length:Int) (mo.length:Int) 8).bind λm77=>(aB (ZT t n e20 zO mo) n (iC' m77 (0:Int),(x18.2.1,x18.2.2.1,x18.2.2.2.1,x18.2.2.2.2))).bind λzS=>some ((zS.1,()),(zS.2.2.1,zS.2.2.2.1,zS.2.2.2.2.1,zS.2.2.2.2.2))).bind λzT=>some ((zT.1.1,()),(zT.2.1,zT.2.2.1,zT.2.2.2.1,zT.2.2.2.2))).bind λzU=>some (zU.1.1,(zU.2.1,zU.2.2.1,zU.2.2.2.1,zU.2.2.2.2))).bind λzV=>some ((zV.1,()),(zV.2.1,zV.2.2.1,zV.2.2.2.1,zV.2.2.2.2)) else bif e20.Kind==7 then (jc e20 t e11.Pos 12).bind λzQ=>(jc e20 t e11.Neg 12).bind λmD=>(((bif (2:Int)==0 then some (decide (0<(mD.length:Int))) else some false).bind λeQ'=>bif eQ' then some ((true,()),(x18.2.1,x18.2.2.1,x18.2.2.2.1,x18.2.2.2.2)) else (pV (mD.length:Int) (mD.length:Int) 8).bind λeR'=>(aB (Rj t n zQ mD) n (iC' eR' (0:Int),(x18.2.1,x18.2.2.1,x18.2.2.2.1,x18.2.2.2.2))).bind λzW=>some ((zW.1,()),(zW.2.2.1,zW.2.2.2.1,zW.2.2.2.2.1,zW.2.2.2.2.2))).bind λzX=>some ((zX.1.1,()),(zX.2.1,zX.2.2.1,zX.2.2.2.1,zX.2.2.2.2))).bind λzY=>some ((zY.1.1,()),(zY.2.1,zY.2.2.1,zY.2.2.2.1,zY.2.2.2.2)) else bif e20.Kind==8 then (jc e20 t e11.Pos 13).bind λ_=>(jc e20 t e11.Neg 13).bind λ_=>none else ((((aB (VG t e11) ((e11.Neg.length:Int).toNat+1) 0).bind λJb=>bB (λ_=>some (((-1),()),())) (λeS'=>some ((eS',()),())) Jb).bind λeT'=>some ((decide (0<=eT'.1.1),()),())).bind λJc=>some ((Jc.1.1,()),())).bind λeU'=>bif eU'.1.1 then some ((true,()),(x18.2.1,x18.2.2.1,x18.2.2.2.1,x18.2.2.2.2)) else (jc e20 t e11.Pos 14).bind λ_=>(jc e20 t e11.Neg 14).bind λ_=>none).bind λzZ=>some ((!zZ.1.1,()),(zZ.2.1,zZ.2.2.1,zZ.2.2.2.1,zZ.2.2.2.2)) else some ((false,()),(x18.2.1,x18.2.2.1,x18.2.2.2.1,x18.2.2.2.2))).bind λqI=>bif qI.1.1 then some (.done (.inr (x18.1,(qI.2.1,qI.2.2.1,qI.2.2.2.1,qI.2.2.2.2)))) else some (.next (wr .i64 (x18.1+1),(qI.2.1,qI.2.2.1,qI.2.2.2.1,qI.2.2.2.2))) else some (.done (.inl (x18.2.1,x18.2.2.1,x18.2.2.2.1,x18.2.2.2.2)))
noncomputable def aa' (t:aO)(n:Nat)(r8:List ai)(x9:Int×((List aS)×Int×(List ai)×(List (ByteArray×Bool)))):Option (Fl (Int×((List aS)×Int×(List ai)×(List (ByteArray×Bool)))) (Sum ((List aS)×Int×(List ai)×(List (ByteArray×Bool))) (Int×((List aS)×Int×(List ai)×(List (ByteArray×Bool)))))):=bif x9.1<(r8.length:Int) then (ak r8 x9.1).bind λ_=>(r8[x9.1.toNat]?).bind λe11=>((((xg e11.Pos e11.Neg).bind λj6=>bif j6 then some true else (si t e11.Pos).bind λjL=>(si t e11.Neg).bind λzN=>(Br jL zN).bind λfK=>some fK).bind λb16=>bif b16 then some ((true,()),(x9.2.1,x9.2.2.1,x9.2.2.2.1,x9.2.2.2.2)) else (BN).bind λjB=>(((aB (bt' t n e11 jB) ((jB.length:Int).toNat+1) (0,(x9.2.1,x9.2.2.1,x9.2.2.2.1,x9.2.2.2.2))).bind λ(Jd:Sum ((List aS)×Int×(List ai)×(List (ByteArray×Bool))) (Int×((List aS)×Int×(List ai)×(List (ByteArray×Bool)))))=>bB (λx150=>some (((-1),()),(x150.1,x150.2.1,x150.2.2.1,x150.2.2.2))) (λy151=>some ((y151.1,()),(y151.2.1,y151.2.2.1,y151.2.2.2.1,y151.2.2.2.2))) Jd).bind λuK=>some ((decide (0<=uK.1.1),()),(uK.2.1,uK.2.2.1,uK.2.2.2.1,uK.2.2.2.2))).bind λuL=>some ((!uL.1.1,()),(uL.2.1,uL.2.2.1,uL.2.2.2.1,uL.2.2.2.2))).bind λAa=>some ((!Aa.1.1,()),(Aa.2.1,Aa.2.2.1,Aa.2.2.2.1,Aa.2.2.2.2))).bind λqJ=>bif qJ.1.1 then some (.done (.inr (x9.1,(qJ.2.1,qJ.2.2.1,qJ.2.2.2.1,qJ.2.2.2.2)))) else some (.next (wr .i64 (x9.1+1),(qJ.2.1,qJ.2.2.1,qJ.2.2.2.1,qJ.2.2.2.2))) else some (.done (.inl (x9.2.1,x9.2.2.1,x9.2.2.2.1,x9.2.2.2.2)))
noncomputable def Vy (t:aO)(n:Nat)(x6:Int×((List aS)×Int×(List ai)×(List (ByteArray×Bool)))):Option (Fl (Int×((List aS)×Int×(List ai)×(List (ByteArray×Bool)))) ((List aS)×Int×(List ai)×(List (ByteArray×Bool)))):=bif x6.1<(x6.2.2.2.1.length:Int) then (ak x6.2.2.2.1 x6.1).bind λe7=>((Cu n t e7).bind λr8=>(((aB (aa' t n r8) ((r8.length:Int).toNat+1) (0,(x6.2.1,x6.2.2.1,x6.2.2.2.1,x6.2.2.2.2))).bind λ(Je:Sum ((List aS)×Int×(List ai)×(List (ByteArray×Bool))) (Int×((List aS)×Int×(List ai)×(List (ByteArray×Bool)))))=>bB (λx157=>some (((-1),()),(x157.1,x157.2.1,x157.2.2.1,x157.2.2.2))) (λy158=>some ((y158.1,()),(y158.2.1,y158.2.2.1,y158.2.2.2.1,y158.2.2.2.2))) Je).bind λAb=>some ((decide (0<=Ab.1.1),()),(Ab.2.1,Ab.2.2.1,Ab.2.2.2.1,Ab.2.2.2.2))).bind λAc=>some ((!Ac.1.1,()),(Ac.2.1,Ac.2.2.1,Ac.2.2.2.1,Ac.2.2.2.2))).bind λDj=>some (.next (wr .i64 (x6.1+1),(Dj.2.1,Dj.2.2.1,Dj.2.2.2.1,Dj.2.2.2.2))) else some (.done (x6.2.1,x6.2.2.1,x6.2.2.2.1,x6.2.2.2.2))
noncomputable def G7 (n:Nat)(t:aO)(g:ai):Option (ni×Int):=(wu n t).bind λr1=>(bif r1 != 0 then some true else (su t g).bind λr2=>some (!r2)).bind λq3=>bif q3 then some (ni.mk ([]:List ai),1) else (qj g).bind λr4=>(Cj n (t.Nodes,t.Root,[],([]:List (ByteArray×Bool))) r4).bind λr5=>bif !r5.1 then some (ni.mk ([]:List ai),11) else (aB (Vy t n) n (0,(r5.2.1,r5.2.2.1,r5.2.2.2.1,r5.2.2.2.2))).bind λeV'=>some (ni.mk eV'.2.2.1,0)
def Nv (g:ai)(dM:aO):Option Bool:=(su dM g).bind λr1=>some (!r1)
def He (n:Nat)(t:aO)(l:List ai):Option Bool:=(wu n t).bind λr1=>(bif r1==0 then (vC l (λz2=>(Nv z2 t).bind λr3=>some r3)).bind λr4=>some (!r4) else some false).bind λq5=>some q5
def EK (sub:ai)(dM:List ai):Option Bool:=(pY dM sub).bind λr1=>some r1
def Vp (t:aO)(e7:ai)(x18:Int):Option (Fl Int (Sum Unit Int)):=bif x18<(e7.Neg.length:Int) then (ak e7.Neg x18).bind λe19=>((ak t.Nodes e19).bind λe20=>some ((e20.Kind==5,()),())).bind λIE=>bif IE.1.1 then some (.done (.inr x18)) else some (.next (wr .i64 (x18+1))) else some (.done (.inl ()))
def TS (t:aO)(e7:ai)(x29:Int):Option (Fl Int (Sum Unit Int)):=bif x29<(e7.Neg.length:Int) then (ak e7.Neg x29).bind λe30=>((ak t.Nodes e30).bind λe31=>some ((e31.Kind==7,()),())).bind λb32=>bif b32.1.1 then some (.done (.inr x29)) else some (.next (wr .i64 (x29+1))) else some (.done (.inl ()))
def XH (t:aO)(e7:ai)(x40:Int):Option (Fl Int (Sum Unit Int)):=bif x40<(e7.Neg.length:Int) then (ak e7.Neg x40).bind λe41=>((ak t.Nodes e41).bind λe42=>some ((e42.Kind==8,()),())).bind λb43=>bif b43.1.1 then some (.done (.inr x40)) else some (.next (wr .i64 (x40+1))) else some (.done (.inl ()))
def Uz (t:aO)(e7:ai)(Dk:Int):Option (Fl Int (Sum Unit Int)):=bif Dk<(e7.Neg.length:Int) then (ak e7.Neg Dk).bind λe51=>((ak t.Nodes e51).bind λe52=>some ((e52.Kind==9,()),())).bind λI7=>bif I7.1.1 then some (.done (.inr Dk)) else some (.next (wr .i64 (Dk+1))) else some (.done (.inl ()))
def WV (t:aO)(e7:ai)(Dl:Int):Option (Fl Int (Sum Unit Int)):=bif Dl<(e7.Neg.length:Int) then (ak e7.Neg Dl).bind λe61=>((ak t.Nodes e61).bind λe62=>some ((e62.Kind==11,()),())).bind λI9=>bif I9.1.1 then some (.done (.inr Dl)) else some (.next (wr .i64 (Dl+1))) else some (.done (.inl ()))
def ck' (t:aO)(l:List ai)(e16:dG)(Ad:List Int)(mF:List Int)(Ae:List Int)(Af:Int):Option (Fl Int (Sum Unit Bool)):=bif Af<e16.dm then (p8 (t.Nodes,t.Root,()) Ad Af).bind λr76=>(yD mF Ae Af).bind λr77=>(p8 (t.Nodes,t.Root,()) r77 Af).bind λr78=>(qj (ai.mk r76 r78 false)).bind λr79=>(EK r79 l).bind λIX=>bif IX then some (.done (.inr true)) else some (.next (wr .i64 (Af+1))) else some (.done (.inl ()))
def ZY (e16:dG)(mF:List Int)(x85:(List Int)×Int):Option (Fl ((List Int)×Int) ((List Int)×Int)):=(bif x85.2<(mF.length:Int) then (ak x85.1 x85.2).bind λ_=>(x85.1[x85.2.toNat]?).bind λe87=>some (e87==(wr .i64 (e16.dm-1))) else some false).bind λq88=>bif q88 then (ak x85.1 x85.2).bind λ_=>(x85.1[x85.2.toNat]?).bind λ_=>some (.next (x85.1.set x85.2.toNat 0,wr .i64 (x85.2+1))) else some (.done (x85.1,x85.2))
def Uy (t:aO)(l:List ai)(e16:dG)(Ad:List Int)(mF:List Int)(Ae:List Int):Option (Fl (List Int) (Bool×(List Int))):=((aB (ck' t l e16 Ad mF Ae) (e16.dm.toNat+1) 0).bind λb81=>bB (λ_=>some ((false,()),())) (λy83=>some ((y83,()),())) b81).bind λb84=>bif !b84.1.1 then some (.done (false,Ae)) else (aB (ZY e16 mF) ((mF.length:Int).toNat+1) (Ae,0)).bind λnC=>bif nC.2==(mF.length:Int) then some (.done (true,nC.1)) else (ak nC.1 nC.2).bind λ_=>(nC.1[nC.2.toNat]?).bind λe93=>(ak nC.1 nC.2).bind λ_=>(nC.1[nC.2.toNat]?).bind λ_=>some (.next (nC.1.set nC.2.toNat (wr .i64 (e93+1))))
def Uw (t:aO)(l:List ai)(Ag:List Int)(mG:List Int)(x104:List Int)(x105:Int):Option (Fl Int (Sum Unit Bool)):=bif x105<2 then (p8 (t.Nodes,t.Root,()) Ag x105).bind λfh'=>(yD mG x104 x105).bind λfi'=>(p8 (t.Nodes,t.Root,()) fi' x105).bind λfk'=>(qj (ai.mk fh' fk' (x105==1))).bind λfm'=>(EK fm' l).bind λIY=>bif IY then some (.done (.inr true)) else some (.next (wr .i64 (x105+1))) else some (.done (.inl ()))
def ct' (mG:List Int)(x115:(List Int)×Int):Option (Fl ((List Int)×Int) ((List Int)×Int)):=(bif x115.2<(mG.length:Int) then (ak x115.1 x115.2).bind λ_=>(x115.1[x115.2.toNat]?).bind λe117=>some (e117==(wr .i64 ((2:Int)-1))) else some false).bind λfo'=>bif fo' then (ak x115.1 x115.2).bind λ_=>(x115.1[x115.2.toNat]?).bind λ_=>some (.next (x115.1.set x115.2.toNat 0,wr .i64 (x115.2+1))) else some (.done (x115.1,x115.2))
def QR (t:aO)(l:List ai)(Ag:List Int)(mG:List Int)(x104:List Int):Option (Fl (List Int) (Bool×(List Int))):=((aB (Uw t l Ag mG x104) ((2:Int).toNat+1) 0).bind λfq'=>bB (λ_=>some ((false,()),())) (λy113=>some ((y113,()),())) fq').bind λft'=>bif !ft'.1.1 then some (.done (false,x104)) else (aB (ct' mG) ((mG.length:Int).toNat+1) (x104,0)).bind λnD=>bif nD.2==(mG.length:Int) then some (.done (true,nD.1)) else (ak nD.1 nD.2).bind λ_=>(nD.1[nD.2.toNat]?).bind λfu'=>(ak nD.1 nD.2).bind λ_=>(nD.1[nD.2.toNat]?).bind λ_=>some (.next (nD.1.set nD.2.toNat (wr .i64 (fu'+1))))
def Zi (t:aO)(e7:ai)(Dm:Int):Option (Fl Int (Sum Unit Int)):=bif Dm<(e7.Neg.length:Int) then (ak e7.Neg Dm).bind λfv'=>((ak t.Nodes fv').bind λfw'=>some ((fw'.Kind==15,()),())).bind λfx'=>bif fx'.1.1 then some (.done (.inr Dm)) else some (.next (wr .i64 (Dm+1))) else some (.done (.inl ()))
def Xy (t:aO)(l:List ai)(n:Nat)(e7:ai)(jL:List dG)(pO:Int):Option (Fl Int (Sum Unit Int)):=bif pO<(jL.length:Int) then (ak jL pO).bind λ_=>(jL[pO.toNat]?).bind λe16=>((Bh e16 t e7).bind λjB=>(bif jB then (bif e16.Kind==1 then none else bif e16.Kind==2 then ((((aB (Vp t e7) ((e7.Neg.length:Int).toNat+1) 0).bind λIC=>bB (λ_=>some (((-1),()),())) (λy24=>some ((y24,()),())) IC).bind λgK=>some ((decide (0<=gK.1.1),()),())).bind λI4=>some ((I4.1.1,()),())).bind λDb=>(bif Db.1.1 then some true else none).bind λq28=>some ((q28,()),()) else bif e16.Kind==3 then ((((aB (TS t e7) ((e7.Neg.length:Int).toNat+1) 0).bind λb33=>bB (λ_=>some (((-1),()),())) (λy35=>some ((y35,()),())) b33).bind λIQ=>some ((decide (0<=IQ.1.1),()),())).bind λI5=>some ((I5.1.1,()),())).bind λb38=>(bif b38.1.1 then some true else none).bind λq39=>some ((q39,()),()) else bif e16.Kind==4 then ((((aB (XH t e7) ((e7.Neg.length:Int).toNat+1) 0).bind λb44=>bB (λ_=>some (((-1),()),())) (λy46=>some ((y46,()),())) b44).bind λIU=>some ((decide (0<=IU.1.1),()),())).bind λI6=>some ((I6.1.1,()),())).bind λb49=>some ((b49.1.1,()),()) else bif e16.Kind==5 then ((((aB (Uz t e7) ((e7.Neg.length:Int).toNat+1) 0).bind λb54=>bB (λ_=>some (((-1),()),())) (λy56=>some ((y56,()),())) b54).bind λIV=>some ((decide (0<=IV.1.1),()),())).bind λI8=>some ((I8.1.1,()),())).bind λb59=>some ((b59.1.1,()),()) else bif e16.Kind==6 then (((((aB (WV t e7) ((e7.Neg.length:Int).toNat+1) 0).bind λb64=>bB (λ_=>some (((-1),()),())) (λy66=>some ((y66,()),())) b64).bind λIW=>some ((decide (0<=IW.1.1),()),())).bind λJa=>some ((Ja.1.1,()),())).bind λb69=>bif b69.1.1 then some true else (jc e16 t e7.Pos 10).bind λAd=>(jc e16 t e7.Neg 10).bind λmF=>(((bif e16.dm==0 then some (decide (0<(mF.length:Int))) else some false).bind λq72=>bif q72 then some ((true,()),()) else (pV (mF.length:Int) (mF.length:Int) 8).bind λm73=>(aB (Uy t l e16 Ad mF) n (iC' m73 (0:Int))).bind λb96=>some ((b96.1,()),())).bind λb97=>some ((b97.1.1,()),())).bind λb98=>some b98.1.1).bind λb99=>some ((b99,()),()) else bif e16.Kind==7 then (jc e16 t e7.Pos 12).bind λAg=>(jc e16 t e7.Neg 12).bind λmG=>(((bif (2:Int)==0 then some (decide (0<(mG.length:Int))) else some false).bind λfS'=>bif fS' then some ((true,()),()) else (pV (mG.length:Int) (mG.length:Int) 8).bind λfT'=>(aB (QR t l Ag mG) n (iC' fT' (0:Int))).bind λfU'=>some ((fU'.1,()),())).bind λfV'=>some ((fV'.1.1,()),())).bind λfW'=>some ((fW'.1.1,()),()) else bif e16.Kind==8 then (jc e16 t e7.Pos 13).bind λ_=>(jc e16 t e7.Neg 13).bind λ_=>none else ((((aB (Zi t e7) ((e7.Neg.length:Int).toNat+1) 0).bind λfX'=>bB (λ_=>some (((-1),()),())) (λfY'=>some ((fY',()),())) fX').bind λIZ=>some ((decide (0<=IZ.1.1),()),())).bind λJb=>some ((Jb.1.1,()),())).bind λfZ'=>bif fZ'.1.1 then some ((true,()),()) else (jc e16 t e7.Pos 14).bind λ_=>(jc e16 t e7.Neg 14).bind λ_=>none).bind λJc=>some (!Jc.1.1) else some false).bind λga'=>some ((ga',()),())).bind λgb'=>bif gb'.1.1 then some (.done (.inr pO)) else some (.next (wr .i64 (pO+1))) else some (.done (.inl ()))
def Vq (t:aO)(l:List ai)(n:Nat)(r4:List ai)(x5:Int):Option (Fl Int (Sum Unit Int)):=bif x5<(r4.length:Int) then (ak r4 x5).bind λ_=>(r4[x5.toNat]?).bind λe7=>((((xg e7.Pos e7.Neg).bind λr8=>bif r8 then some true else (si t e7.Pos).bind λr9=>(si t e7.Neg).bind λiH=>(Br r9 iH).bind λpM=>some pM).bind λb12=>bif b12 then some ((true,()),()) else (BN).bind λjL=>(((aB (Xy t l n e7 jL) ((jL.length:Int).toNat+1) 0).bind λgd'=>bB (λ_=>some (((-1),()),())) (λge'=>some ((ge',()),())) gd').bind λJd=>some ((decide (0<=Jd.1.1),()),())).bind λgf'=>some ((!gf'.1.1,()),())).bind λgg'=>some ((!gg'.1.1,()),())).bind λuK=>bif uK.1.1 then some (.done (.inr x5)) else some (.next (wr .i64 (x5+1))) else some (.done (.inl ()))
def L9 (n:Nat)(t:aO)(l:List ai)(g:ai):Option Bool:=(He n t l).bind λr1=>(bif !r1 then some true else (su t g).bind λr2=>some (!r2)).bind λq3=>bif q3 then some false else ((Cu n t g).bind λr4=>(((aB (Vq t l n r4) ((r4.length:Int).toNat+1) 0).bind λuL=>bB (λ_=>some (((-1),()),())) (λgh'=>some ((gh',()),())) uL).bind λJe=>some ((decide (0<=Je.1.1),()),())).bind λgi'=>some ((!gi'.1.1,()),())).bind λgl'=>some gl'.1.1
def Lr (n:Nat)(c:ai)(dM:aO)(aN:ni):Option Bool:=(L9 n dM aN.zJ c).bind λr1=>some (!r1)
def Ff (n:Nat)(t:aO)(g:ai)(r:ni):Option Bool:=(He n t r.zJ).bind λr1=>(bif !r1 then some true else (su t g).bind λr2=>some (!r2)).bind λq3=>(bif q3 then some true else (pY r.zJ g).bind λr4=>some (!r4)).bind λq5=>bif q5 then some false else (vC r.zJ (λz6=>(Lr n z6 t r).bind λr7=>some r7)).bind λr8=>some (!r8)
noncomputable def wG (n:Nat):Option Bool:=(G7 n (aO.mk ([aS.mk 10 0 0 (⟨#[]⟩:ByteArray) ([0]:List Int) ([]:List iD) (0,0),aS.mk 9 0 0 (⟨#[]⟩:ByteArray) ([]:List Int) ([]:List iD) (0,0)]:List aS) 0) (ai.mk ([0]:List Int) ([]:List Int) false)).bind λr1=>(G7 n (aO.mk ([aS.mk 10 0 0 (⟨#[]⟩:ByteArray) ([0]:List Int) ([]:List iD) (0,0),aS.mk 9 0 0 (⟨#[]⟩:ByteArray) ([]:List Int) ([]:List iD) (0,0)]:List aS) 0) (ai.mk ([1]:List Int) ([]:List Int) false)).bind λr2=>(bif r1.2==0 then (Ff n (aO.mk ([aS.mk 10 0 0 (⟨#[]⟩:ByteArray) ([0]:List Int) ([]:List iD) (0,0),aS.mk 9 0 0 (⟨#[]⟩:ByteArray) ([]:List Int) ([]:List iD) (0,0)]:List aS) 0) (ai.mk ([0]:List Int) ([]:List Int) false) r1.1).bind λr3=>some r3 else some false).bind λq4=>(bif q4 then (Ff n (aO.mk ([aS.mk 10 0 0 (⟨#[]⟩:ByteArray) ([0]:List Int) ([]:List iD) (0,0),aS.mk 9 0 0 (⟨#[]⟩:ByteArray) ([]:List Int) ([]:List iD) (0,0)]:List aS) 0) (ai.mk ([0]:List Int) ([]:List Int) false) (ni.mk ([]:List ai))).bind λr5=>some (!r5) else some false).bind λq6=>(bif q6 then some (r2.2==11) else some false).bind λq7=>some q7
def Ba (l:List Int)(k:Int)(x1:Int):Option (Fl Int (Sum Unit Bool)):=bif x1<(l.length:Int) then (ak l x1).bind λe2=>bif e2==k then some (.done (.inr true)) else some (.next (wr .i64 (x1+1))) else some (.done (.inl ()))
def Cw (l:List Int)(k:Int):Option Bool:=(aB (Ba l k) ((l.length:Int).toNat+1) 0).bind λb3=>bB (λ_=>some false) (λy5=>some y5) b3
def Bq (a:List Int)(b:List Int)(x1:Int):Option (Fl Int (Sum Unit Bool)):=bif x1<(a.length:Int) then (ak a x1).bind λe2=>(Cw b e2).bind λr3=>bif !r3 then some (.done (.inr false)) else some (.next (wr .i64 (x1+1))) else some (.done (.inl ()))
def yV (a:List Int)(b:List Int):Option Bool:=(aB (Bq a b) ((a.length:Int).toNat+1) 0).bind λb4=>bB (λ_=>some true) (λy6=>some y6) b4
def Au (l:List ai)(g:ai)(x1:Int):Option (Fl Int (Sum Unit Bool)):=bif x1<(l.length:Int) then (ak l x1).bind λe2=>(yV e2.Pos g.Pos).bind λr3=>(bif r3 then (ak l x1).bind λe4=>(yV e4.Neg g.Neg).bind λr5=>some r5 else some false).bind λq6=>(bif q6 then (ak l x1).bind λe7=>(bif !e7.Lists then some true else some g.Lists).bind λq8=>some q8 else some false).bind λq9=>bif q9 then some (.done (.inr true)) else some (.next (wr .i64 (x1+1))) else some (.done (.inl ()))
def AL (l:List ai)(g:ai):Option Bool:=(aB (Au l g) ((l.length:Int).toNat+1) 0).bind λb10=>bB (λ_=>some false) (λwW=>some wW) b10
noncomputable def Aw (d:List ai)(n:Nat)(x4:Int):Option (Fl Int (Sum Unit Bool)):=bif x4<(d.length:Int) then (ak d x4).bind λe5=>(bif 12<(e5.Pos.length:Int) then some true else (ak d x4).bind λe6=>some (decide (12<(e6.Neg.length:Int)))).bind λq7=>bif q7 then (wG n).bind λr8=>some (.done (.inr r8)) else some (.next (wr .i64 (x4+1))) else some (.done (.inl ()))
noncomputable def A8 (n:Nat)(d:List ai)(t:ai):Option Bool:=(bif 8<(d.length:Int) then some true else some (decide (12<(t.Pos.length:Int)))).bind λq1=>(bif q1 then some true else some (decide (12<(t.Neg.length:Int)))).bind λq2=>bif q2 then (wG n).bind λr3=>some r3 else (aB (Aw d n) ((d.length:Int).toNat+1) 0).bind λb9=>bB (λ_=>(pY d t).bind λj6=>(AL d t).bind λjL=>bif j6==jL then (pY ([t]:List ai) t).bind λzN=>(bif zN then (pY ([]:List ai) t).bind λfK=>some (!fK) else some false).bind λq16=>(bif q16 then (wG n).bind λjB=>some jB else some false).bind λq18=>some q18 else (some false).bind λq19=>(bif q19 then (wG n).bind λIB=>some IB else some false).bind λq21=>some q21) (λnk=>some nk) b9
end Go.Qx
end
section
namespace Go.Pl
open Go Go.RowKit Go.Sx Go.Qx
theorem rE (x:Int):wr .i64 x=Cq x:=rfl
theorem Al {α:Type}(b:Bool)(x y:α):(bif b then x else y)=if b=true then x else y:=by cases b<;>rfl
theorem JM {α:Type}(o:Option α):(Option.bind o λx=>some x)=o:=by cases o<;>rfl
theorem sD {α:Type}(l:List α):((l.length:Int)).toNat=l.length:=by omega
theorem R9 (s:ByteArray):((s.size:Int)).toNat=s.size:=by omega
theorem XK {x:Int}(h1 : -9223372036854775808<=x)(h2:x<=9223372036854775807):Cq x=x:=by unfold Cq;rw [IntKind.wrap_i64];omega
theorem uf {α:Type}{xs:List α}{i:Nat}{x:α}(h:xs[i]?=some x):ak xs (i:Int)=some x:=by
 unfold ak;rw [if_pos (by omega)]
 simpa using h
def Nr (s:ByteArray):Nat:=s.size+1
def Gv:List ByteArray->Nat
 | []=>0
 | s::r=>Nr s+Gv r
def T9 (k:Key):Nat:=1+Nr k.Text+1
end Go.Pl
namespace Go.Pl
open Go Go.RowKit Go.Sx Go.Qx
end Go.Pl
end
section
namespace Go.Pl
open Go Go.RowKit Go.Sx Go.Qx
def tn (x y:Int):Int:=if x=0 then y else x
def cI (x y:Int):Int:=if x<y then -1 else if y<x then 1 else 0
def Lv:List UInt8->List UInt8->Int
 | [],[]=>0
 | [],_::_ => -1
 | _::_,[]=>1
 | x::xs,y::ys=>tn (cI x.toNat y.toNat) (Lv xs ys)
def JF:List UInt8->List Int
 | []=>[0]
 | x::r=>((x.toNat:Int)+1)::JF r
def cS (a b:ByteArray):Int:=Lv a.data.toList b.data.toList
def eS (a:ByteArray):List Int:=JF a.data.toList
def cK (a b:Key):Int:=tn (cI a.Kind b.Kind) (cS a.Text b.Text)
end Go.Pl
namespace Go.Pl
open Go Go.RowKit Go.Sx Go.Qx
end Go.Pl
end
section
open Bool renaming false_eq_true->ke'
open List renaming all_eq_true->iu',getElem?_cons_succ->kt',getElem?_eq_getElem->in',getElem?_eq_some_iff->ij',getElem_mem->iL',getElem_of_mem->jZ',length_cons->iF'
open Nat renaming le_refl->ip'
open Option renaming bind_some->io'
namespace Go.Pl
open Go Go.RowKit Go.Sx Go.Qx
theorem XW {step:Int->Option (Fl Int (Sum Unit Bool))}(n:Nat)(p:Nat->Bool)
 (hst:∀ i:Nat,i<n->step (i:Int)=some (if p i=true then .next ((i+1:Nat):Int) else .done (.inr false)))
 (hend:∀ i:Nat,n<=i->step (i:Int)=some (.done (.inl ()))) (i0:Nat) (b:Bool) (hb:b=true↔∀ i,i0<=i->i<n->p i=true) :
 (aB step (n+1) (i0:Int)).bind (bB (λ_=>some true) (λr=>some r))=some b:=by
 have fP:∀ (i k:Nat),n<=i->(∀ j,i0<=j->j<i->j<n->p j=true)->(aB step (k+1) (i:Int)).bind (bB (λ_=>some true) (λr=>some r))=some b:=by
  intro i k h1 h4;simp only [aB,hend i h1,io',bB];have:b=true:=hb.2 λj a c=>h4 j a (by omega) c
  rw [this]
 have key:∀ (m i k:Nat),n<=i+m->m+1<=k->i0<=i->(∀ j,i0<=j->j<i->j<n->p j=true)->(aB step k (i:Int)).bind (bB (λ_=>some true) (λr=>some r))=some b:=by
  intro m
  induction m with
  | zero =>
    intro i k h1 h2 h3 h4;obtain ⟨k,rfl⟩:∃ m,k=m+1:=⟨k-1,by omega⟩
    exact fP i k (by omega) h4
  | succ m ih =>
    intro i k h1 h2 h3 h4;obtain ⟨k,rfl⟩:∃ m,k=m+1:=⟨k-1,by omega⟩
    by_cases hlt:i<n
    ·simp only [aB,hst i hlt];cases hp:p i
     ·simp only [ke',if_false,io',bB];have:b=false:=by
       cases b
       ·rfl
       ·have:=hb.1 rfl i h3 hlt;rw [hp] at this; cases this
      rw [this]
     ·simp only [if_true,io'];refine ih (i+1) k (by omega) (by omega) (by omega) (λj a c d=>?_)
      by_cases e:j<i
      ·exact h4 j a e d
      ·have:j=i:=by omega
       subst this; exact hp
    ·exact fP i k (by omega) h4
 exact key n i0 (n+1) (by omega) (by omega) (ip' _) (λj a c=>by omega)
theorem rD (i:Nat)(h:i<=4611686018427387904):Cq ((i:Int)+1)=((i+1:Nat):Int):=by rw [XK (by omega) (by omega)]; rfl
theorem Zk (b:Bool)(x:Int):(bif (!b) then some (Fl.done (Sum.inr false)) else some (Fl.next x))=some (if b=true then Fl.next x else (Fl.done (Sum.inr false):Fl Int (Sum Unit Bool))):=by cases b<;>rfl
def fB {α:Type}(c:α->α->Int):List α->Bool
 | x::y::r=>decide (c x y<0)&&fB c (y::r)
 | _=>true
def sO (c:UInt8):Bool:=decide (97<=(c.toNat:Int))&&decide ((c.toNat:Int)<=122)
def LB (c:UInt8):Bool:=decide (65<=(c.toNat:Int))&&decide ((c.toNat:Int)<=90)
def vW (c:UInt8):Bool:=decide (48<=(c.toNat:Int))&&decide ((c.toNat:Int)<=57)
def Bp (f g:UInt8->Bool)(s:ByteArray):Bool :=
 match s.data.toList with
 | []=>false
 | c::r=>decide (r.length<=15)&&f c&&r.all g
def Ox (s:ByteArray):Bool:=Bp LB (λc=>sO c||LB c||vW c||(c.toNat:Int)==95) s
def DL (s:ByteArray):Bool:=Bp sO (λc=>sO c||vW c||(c.toNat:Int)==95) s
theorem O7 (c:UInt8):wK (c.toNat:Int)=some (sO c):=by unfold wK sO;cases decide (97<=(c.toNat:Int))<;>simp
theorem SY (c:UInt8):yZ (c.toNat:Int)=some (vW c):=by unfold yZ vW;cases decide (48<=(c.toNat:Int))<;>simp
theorem M4 {s:ByteArray}{i:Nat}{c:UInt8}(h:s.data.toList[i]?=some c):qQ s (i:Int)=some c:=by
 unfold qQ;rw [if_pos (by omega)]
 obtain ⟨hi,e⟩:=ij'.1 h;have hs:i<s.size:=by simpa using hi
 show s[((i:Int)).toNat]?=some c;rw [Int.toNat_natCast,getElem?_pos s i hs];show some s.data[i]=some c;simpa using e
theorem U9 (s:ByteArray):s.size=s.data.toList.length:=by simp
theorem UZ {a1 a2:Int->Option Bool}{f g:UInt8->Bool}(h1:∀ c:UInt8,a1 (c.toNat:Int)=some (f c))(h2:∀ c:UInt8,a2 (c.toNat:Int)=some (g c))(s:ByteArray):xJ s a1 a2=some (Bp f g s):=by
 unfold xJ Bp;simp only [Al,R9];have hsz:=U9 s;cases hs:s.data.toList with
 | nil =>rw [hs] at hsz;rw [hsz];simp
 | cons c r =>
   rw [hs] at hsz;simp only [iF'] at hsz;have e1:decide ((s.size:Int)<1)=false:=by simp; omega
   rw [e1];simp only [ke',if_false,io'];by_cases hb:16<(s.size:Int)
   ·rw [if_pos (by simpa using hb)]
    have:decide (r.length<=15)=false:=by simp; omega
    rw [this]; rfl
   ·rw [if_neg (by simpa using hb)]
    have e2:decide (r.length<=15)=true:=by simp; omega
    have e3:qQ s 0=some c:=M4 (i:=0) (by rw [hs]; rfl)
    rw [e2,e3];simp only [io',h1,Bool.true_and];cases f c
    ·rfl
    ·simp only [Bool.not_true,ke',if_false,Bool.true_and];refine XW s.size (λi=>match s.data.toList[i]? with | some x=>g x | none=>true) ?_ ?_ 1 (r.all g) ?_
     ·intro i hi;have hi':i<s.data.toList.length:=by rw [hs]; simp; omega
      unfold Hg;rw [Al,if_pos (by simp; omega),M4 (in' hi')]
      simp only [io',h2];rw [in' hi',rE,rD i (by omega)]
      exact Zk _ _
     ·intro i hi;unfold Hg;rw [Al,if_neg (by simp; omega)]
     ·rw [hs,iu'];constructor
      ·intro h i h1 hi;obtain ⟨i,rfl⟩:∃ m,i=m+1:=⟨i-1,by omega⟩
       have hr:i<r.length:=by omega
       simp only [kt',in' hr];exact h _ (iL' hr)
      ·intro h x hx;obtain ⟨i,hi,rfl⟩:=jZ' hx;have:=h (i+1) (by omega) (by omega)
       simpa only [kt',in' hi] using this
theorem V5 (s:ByteArray):yg s=some (DL s):=by
 unfold yg;simp only [JM];rw [UZ O7 (g:=λc=>sO c||vW c||(c.toNat:Int)==95) (λc=>by unfold FL;rw [O7,SY];simp only [io'];cases sO c<;>cases vW c<;>simp)]
 rfl
def Mt (l:List ByteArray):Bool:=fB cS l&&l.all Ox
def GA (k:Key):Bool:=if k.Kind=0 then DL k.Text else if k.Kind=1 then decide ((k.Text.size:Int)<=64) else false
theorem O8 (k:Key):BR k=some (GA k):=by
 unfold BR GA;rw [V5];simp only [Al,beq_iff_eq,JM];by_cases h:k.Kind=0
 ·simp [h]
 ·by_cases h1:k.Kind=1
  ·simp [h1]
  ·simp [h,h1]
end Go.Pl
end
section
open List renaming all_cons->jI',drop_eq_getElem_cons->jm',getElem?_eq_getElem->in'
open Nat renaming le_refl->ip'
open Option renaming bind_some->io'
namespace Go.Pl
open Go Go.RowKit Go.Sx Go.Qx
theorem UB {α σ τ β:Type}{step:σ->Option (Fl σ (Sum τ β))}(xs:List α)(p:α->Bool)(pk:Nat->σ)(d:τ)(b:β)
 (hst:∀ (i:Nat) (x:α),xs[i]?=some x->step (pk i)=some (if p x=true then .next (pk (i+1)) else .done (.inr b)))
 (hend:step (pk xs.length)=some (.done (.inl d))):aB step (xs.length+1) (pk 0)=some (if xs.all p=true then .inl d else .inr b):=by
 have key:∀ (m i k:Nat),i+m=xs.length->m+1<=k->aB step k (pk i)=some (if (xs.drop i).all p=true then .inl d else .inr b):=by
  intro m
  induction m with
  | zero =>
    intro i k h1 h2;obtain ⟨k,rfl⟩:∃ m,k=m+1:=⟨k-1,by omega⟩
    have e:i=xs.length:=by omega
    subst e;simp [aB,hend]
  | succ m ih =>
    intro i k h1 h2;obtain ⟨k,rfl⟩:∃ m,k=m+1:=⟨k-1,by omega⟩
    have hlt:i<xs.length:=by omega
    have hs:=hst i xs[i] (in' hlt);rw [jm' hlt,jI'];by_cases hp:p xs[i]=true
    ·rw [if_pos hp] at hs;simp only [aB,hs,io',ih (i+1) k (by omega) (by omega),hp,Bool.true_and]
    ·rw [if_neg hp] at hs;simp [aB,hs,hp]
 have:=key xs.length 0 (xs.length+1) (by omega) (ip' _)
 simpa using this
end Go.Pl
end
section
namespace Go.Pl
open Go Go.RowKit Go.Sx Go.Qx
end Go.Pl
namespace Go.Pl
open Go Go.RowKit Go.Sx Go.Qx
end Go.Pl
end
section
open Bool renaming and_eq_true->ik'
namespace Go.Pl
open Go Go.RowKit Go.Sx Go.Qx
section
variable {L:List Int}
def jy (o:Option (List ByteArray)):Bool :=
 match o with
 | some l=>Mt l&&decide (Gv l<=4)
 | none=>false
theorem NF {o:Option (List ByteArray)}(h:jy o=true):∃ l,o=some l/\Mt l=true/\Gv l<=4:=by
 cases o with
 | none=>cases h
 | some l=>simp only [jy,ik',decide_eq_true_eq] at h; exact ⟨l,rfl,h⟩
def hb:Nat->Nat
 | 0=>32
 | h+1=>64+8*hb h
end
end Go.Pl
namespace Go.Pl
open Go Go.RowKit Go.Sx Go.Qx
end Go.Pl
end
section
namespace Go.Pl
open Go Go.RowKit Go.Sx Go.Qx
end Go.Pl
end
section
open Bool renaming and_eq_true->ik'
open List renaming all_eq_true->iu',map_cons->iH',mem_cons->ir'
namespace Go.Pl
open Go Go.RowKit Go.Sx Go.Qx
def oL (N:Nat)(k:Int):Bool:=decide (0<=k)&&decide (k<(N:Int))
def LU (N:Nat)(l:List iD):Bool:=fB cK (l.map (·.uJ))&&(l.all (λf=>GA f.uJ)&&l.all λf=>oL N f.Node)
def OG (N:Nat)(x:aS):Bool :=
 if x.Kind=3 then x.Kids.isEmpty&&decide (x.Lo<=x.Hi) else if x.Kind=4 then x.Kids.isEmpty&&decide ((x.Text.size:Int)<=64) else
 if x.Kind=6 then x.Kids.isEmpty&&DL x.Text else if x.Kind=19 then x.Kids.isEmpty&&Ox x.Text else
 if x.Kind=1\/x.Kind=2\/x.Kind=5\/x.Kind=7\/x.Kind=8\/x.Kind=9\/x.Kind=11\/x.Kind=15 then x.Kids.isEmpty else
 if x.Kind=10 then decide ((x.Kids.length:Int)<=4) else if x.Kind=12 then (x.Kids.length:Int)==2 else
 if x.Kind=14 then decide (1<=(x.Kids.length:Int))&&decide ((x.Kids.length:Int)<=5) else
 if x.Kind=16\/x.Kind=17 then decide (1<=(x.Kids.length:Int)) else if x.Kind=18 then (x.Kids.length:Int)==1 else
 if x.Kind=13 then LU N x.Fields&&(x.Kids.isEmpty&&(oL N x.Rest.1&&oL N x.Rest.2)) else false
def Fj (r:Int×Int):Bool:=r.1==0&&r.2==0
def uj (N:Nat)(x:aS):Bool :=
 x.Kids.all (oL N)&&((x.Kind==3||(x.Lo==0&&x.Hi==0))&&((x.Kind==4||x.Kind==6||x.Kind==19||iK x.Text ⟨#[]⟩)&&((x.Kind==13||(x.Fields.isEmpty&&Fj x.Rest))&&OG N x)))
theorem ES {α:Type}(l:List α):((l.length:Int)==0)=l.isEmpty:=by cases l<;>simp<;>omega
theorem tF {i n:Nat}(h:i<n):decide ((i:Int)<(n:Int))=true:=decide_eq_true (by omega)
end Go.Pl
namespace Go.Pl
open Go Go.RowKit Go.Sx Go.Qx
end Go.Pl
namespace Go.Pl
open Go Go.RowKit Go.Sx Go.Qx
def yw (x:aS):Bool:=x.Kind==16||x.Kind==17||x.Kind==18
def KD (ns:List aS):Bool:=ns.all (uj ns.length)
theorem UF {N:Nat}{x:aS}(h:uj N x=true):∀ k∈x.Kids,oL N k=true:=by unfold uj at h;simp only [ik'] at h;exact iu'.1 h.1
theorem ao' {N:Nat}{k:Int}(h:oL N k=true):∃ j:Nat,k=(j:Int)/\j<N:=by unfold oL at h;simp only [ik',decide_eq_true_eq] at h;exact ⟨k.toNat,by omega,by omega⟩
def Gd (ns:List aS)(D:Nat->Prop):Prop:=∃ r:Nat->Nat,∀ (i:Nat) (x:aS),D i->ns[i]?=some x->yw x=true->∀ k∈x.Kids,D k.toNat/\r k.toNat<r i
theorem Nb (r:Nat->Nat):∀ (l:List Int) (k:Int),k∈l->r k.toNat<=(l.map λk=>r k.toNat).sum
 | [],_,h=>by cases h
 | y::l,k,h=>by
   rw [iH',List.sum_cons];rcases ir'.1 h with rfl | h
   ·omega
   ·have:=Nb r l k h; omega
theorem Gd.add {ns:List aS}{D D':Nat->Prop}(h:Gd ns D){i:Nat}{x:aS}(hx:ns[i]?=some x)(hk:yw x=true->∀ k∈x.Kids,D k.toNat)(hD:∀ j,D' j↔D j\/j=i):Gd ns D':=by
 obtain ⟨r,hr⟩:=h;by_cases hi:D i
 ·have e:∀ j,D' j↔D j:=λj=>(hD j).trans ⟨λh=>h.elim id (λh=>by rw [h]; exact hi),.inl⟩
  exact ⟨r,λj y h1 h2 h3 k h4=>by obtain ⟨k1,k2⟩:=hr j y ((e j).1 h1) h2 h3 k h4;exact ⟨(e _).2 k1,k2⟩⟩
 ·refine ⟨λj=>if j=i then 1+(x.Kids.map λk=>r k.toNat).sum else r j,λj y h1 h2 h3 k h4=>?_⟩
  by_cases hj:j=i
  ·subst hj;rw [hx] at h2;cases h2;have Qy:=hk h3 k h4;have hne:k.toNat≠j:=λe=>hi (e▸Qy);refine ⟨(hD _).2 (.inl Qy),?_⟩;simp only [if_neg hne,if_true];have:=Nb r x.Kids k h4;omega
  ·obtain ⟨k1,k2⟩:=hr j y (((hD j).1 h1).resolve_right hj) h2 h3 k h4;have hne:k.toNat≠i:=λe=>hi (e▸k1);refine ⟨(hD _).2 (.inl k1),?_⟩;simp only [if_neg hne,if_neg hj];exact k2
end Go.Pl
namespace Go.Pl
open Go Go.RowKit Go.Sx Go.Qx
end Go.Pl
end
section
open Bool renaming and_eq_true->ik'
open List renaming all_eq_true->iu'
namespace Go.Pl
open Go Go.RowKit Go.Sx Go.Qx
structure GN (N i:Nat)(x:aS):Prop where
 ok:uj N x=true
 ord:yw x=true->∀ k∈x.Kids,(i:Int)<k
 kids:x.Kids.length<=4
 text:x.Text.size<=5
 rJ:x.Fields.length<=3
 keys:∀ f∈x.Fields,T9 f.uJ<=8
 dL : -9223372036854775808<=x.Lo/\x.Lo<=9223372036854775807 /\ -9223372036854775808<=x.Hi/\x.Hi<=9223372036854775807
theorem Cn {N M:Nat}(h:N<=M){k:Int}(hk:oL N k=true):oL M k=true:=by unfold oL at *;simp only [ik',decide_eq_true_eq] at *;omega
theorem OQ {α:Type}{p q:α->Bool}{l:List α}(h:∀ x,p x=true->q x=true)(k:l.all p=true):l.all q=true:=iu'.2 λx hx=>h x (iu'.1 k x hx)
theorem bw' {N M:Nat}(h:N<=M){x:aS}(hx:uj N x=true):uj M x=true:=by
 unfold uj at *;simp only [ik'] at *;refine ⟨OQ (λk=>Cn h) hx.1,hx.2.1,hx.2.2.1,hx.2.2.2.1,?_⟩;have hk:=hx.2.2.2.2;unfold OG at *;split<;>rename_i h3
 ·rwa [if_pos h3] at hk
 rw [if_neg h3] at hk;split<;>rename_i h4
 ·rwa [if_pos h4] at hk
 rw [if_neg h4] at hk;split<;>rename_i h6
 ·rwa [if_pos h6] at hk
 rw [if_neg h6] at hk;split<;>rename_i h19
 ·rwa [if_pos h19] at hk
 rw [if_neg h19] at hk;split<;>rename_i hs
 ·rwa [if_pos hs] at hk
 rw [if_neg hs] at hk;split<;>rename_i h10
 ·rwa [if_pos h10] at hk
 rw [if_neg h10] at hk;split<;>rename_i h12
 ·rwa [if_pos h12] at hk
 rw [if_neg h12] at hk;split<;>rename_i Qz
 ·rwa [if_pos Qz] at hk
 rw [if_neg Qz] at hk;split<;>rename_i h16
 ·rwa [if_pos h16] at hk
 rw [if_neg h16] at hk;split<;>rename_i h18
 ·rwa [if_pos h18] at hk
 rw [if_neg h18] at hk;split<;>rename_i QA
 ·rw [if_pos QA] at hk;unfold LU at *;simp only [ik'] at *;exact ⟨⟨hk.1.1,hk.1.2.1,OQ (λf=>Cn h) hk.1.2.2⟩,hk.2.1,Cn h hk.2.2.1,Cn h hk.2.2.2⟩
 ·rwa [if_neg QA] at hk
theorem GN.mono {N M i:Nat}{x:aS}(h:GN N i x)(k:N<=M):GN M i x:=⟨bw' k h.ok,h.ord,h.kids,h.text,h.rJ,h.keys,h.dL⟩
end Go.Pl
namespace Go.Pl
open Go Go.RowKit Go.Sx Go.Qx
section
variable {L:List Int}
def Km (N:Nat)(ns:List aS):Prop:=∀ (i:Nat) (x:aS),ns[i]?=some x->GN N i x
end
end Go.Pl
end
section
namespace Go.Pl
open Go Go.RowKit Go.Sx Go.Qx
end Go.Pl
end
section
namespace Go.Pl
open Go Go.RowKit Go.Sx Go.Qx
structure Jf {α:Type}(c:α->α->Int):Prop where
 anti:∀ a b,c b a = - c a b
 trans:∀ a b d,c a b<=0->c b d<=0->c a d<=0
 eq0:∀ a b,c a b=0->a=b
section
variable {α:Type}{c:α->α->Int}(hc:Jf c)
include hc
theorem Jf.self (a:α):c a a=0:=by have:=hc.anti a a; omega
theorem Jf.nodup {l:List α}(h:l.Pairwise λa b=>c a b<0):l.Nodup:=h.imp λ{a b} h e=>by
 subst e;have:=hc.self a;omega
omit hc in
def dd (r:α->α->Bool):α->List α->List α
 | _,[]=>[]
 | p,x::l=>if r x p=true then dd r x l else x::dd r x l
end
end Go.Pl
namespace Go.Pl
open Go Go.RowKit Go.Sx Go.Qx
end Go.Pl
end
section
namespace Go.Pl
open Go Go.RowKit Go.Sx Go.Qx
end Go.Pl
namespace Go.Pl
open Go Go.RowKit Go.Sx Go.Qx
structure GT (t:aO):Prop where
 len:t.Nodes.length<=10
 nodes:Km t.Nodes.length t.Nodes
end Go.Pl
namespace Go.Pl
open Go Go.RowKit Go.Sx Go.Qx
end Go.Pl
end
section
open List renaming all_eq_true->iu',getElem?_eq_getElem->in',getElem?_eq_some_iff->ij',getElem_of_mem->jZ',mem_of_getElem?->jF'
open Nat renaming le_refl->ip'
open Option renaming bind_some->io'
namespace Go.Pl
open Go Go.RowKit Go.Sx Go.Qx
theorem Gw {α β:Type}{step:Int->Option (Fl Int (Sum Unit β))}(xs:List α)(p:α->Bool)(out:Nat->α->β)
 (hst:∀ (i:Nat) (x:α),xs[i]?=some x->step (i:Int)=some (if p x=true then .done (.inr (out i x)) else .next ((i+1:Nat):Int)))
 (hend:step (xs.length:Int)=some (.done (.inl ()))) :
 (∃ i x,xs[i]?=some x/\p x=true/\(∀ j,j<i->∀ y,xs[j]?=some y->p y=false)/\aB step (xs.length+1) 0=some (.inr (out i x)))\/(xs.any p=false/\aB step (xs.length+1) 0=some (.inl ())):=by
 have key:∀ (m a k:Nat),a+m=xs.length->m+1<=k->(∀ j,j<a->∀ y,xs[j]?=some y->p y=false) ->
  (∃ i x,xs[i]?=some x/\p x=true/\(∀ j,j<i->∀ y,xs[j]?=some y->p y=false)/\aB step k (a:Int)=some (.inr (out i x)))\/(xs.any p=false/\aB step k (a:Int)=some (.inl ())):=by
  intro m
  induction m with
  | zero =>
    intro a k h1 h2 h3;obtain ⟨k,rfl⟩:∃ m,k=m+1:=⟨k-1,by omega⟩
    have e:a=xs.length:=by omega
    subst e;refine .inr ⟨?_,by simp only [aB,hend,io']⟩
    rw [List.any_eq_false];intro x hx;obtain ⟨j,hj,rfl⟩:=jZ' hx;have:=h3 j hj _ (in' hj);simp [this]
  | succ m ih =>
    intro a k h1 h2 h3;obtain ⟨k,rfl⟩:∃ m,k=m+1:=⟨k-1,by omega⟩
    have ha:a<xs.length:=by omega
    have ex:=in' ha;have hs:=hst a _ ex;cases hp:p xs[a] with
    | true =>rw [if_pos hp] at hs;exact .inl ⟨a,xs[a],ex,hp,h3,by simp only [aB,hs,io']⟩
    | false =>
      rw [if_neg (by simp [hp])] at hs
      simp only [aB,hs,io'];refine ih (a+1) k (by omega) (by omega) λj hj y hy=>?_
      by_cases hja:j=a
      ·subst hja;rw [ex] at hy;cases hy;exact hp
      ·exact h3 j (by omega) y hy
 exact key xs.length 0 (xs.length+1) (by omega) (ip' _) (λj hj=>by omega)
theorem DY {α:Type}{xs:List α}{p:α->Bool}{i:Nat}{x:α}(h:xs[i]?=some x)(hp:p x=true):xs.any p=true:=List.any_eq_true.2 ⟨x,jF' h,hp⟩
theorem Es (i:Nat):decide ((0:Int)<=(i:Int))=true:=decide_eq_true (by omega)
theorem Yr (l:List Int)(f:Int->Option Bool)(p:Int->Bool)(hl:l.length<=4194304)(hf:∀ x∈l,f x=some (p x)):tL l f=some (l.any p):=by
 unfold tL FK;rw [sD];rcases Gw (step:=Ch l f) l p (λi _=>(i:Int)) (λi x hx=>by
  have hi:i<l.length:=(ij'.1 hx).1;unfold Ch;rw [tF hi,uf hx];simp only [cond_true,io',rE];rw [rD i (by omega),hf x (jF' hx)]
  cases p x<;>rfl) (by
  unfold Ch;simp) with ⟨i,x,hx,hp,_,e⟩ | ⟨h,e⟩
 ·rw [e,DY hx hp];simp only [io',bB,Es]
 ·rw [e,h];rfl
end Go.Pl
namespace Go.Pl
open Go Go.RowKit Go.Sx Go.Qx
end Go.Pl
namespace Go.Pl
open Go Go.RowKit Go.Sx Go.Qx
structure GM (t:aO):Prop where
 len:t.Nodes.length<=20
 nodes:Km t.Nodes.length t.Nodes
theorem GT.gm {t:aO}(h:GT t):GM t:=⟨by have:=h.len; omega,h.nodes⟩
instance (t:aO):Coe (GT t) (GM t):=⟨GT.gm⟩
section
variable {t:aO}
theorem GM.ord (hT:GM t){k:Nat}{x:aS}(hx:t.Nodes[k]?=some x)(hb:yw x=true){j:Int}(hj:j∈x.Kids):∃ j':Nat,j=(j':Int)/\k<j'/\j'<t.Nodes.length:=by have hg:=hT.nodes k x hx;obtain ⟨j',e,h1⟩:=ao' (UF hg.ok j hj);have:=hg.ord hb j hj;exact ⟨j',e,by omega,h1⟩
theorem aZ' {α:Type}(p:α->Bool)(l:List α):(!(l.any λx=>!p x))=l.all p:=by rw [Bool.eq_iff_iff];simp
end
end Go.Pl
namespace Go.Pl
open Go Go.RowKit Go.Sx Go.Qx
section
variable {t:aO}
theorem GM.all (hT:GM t):KD t.Nodes=true:=iu'.2 λx hx=>by
 obtain ⟨i,hi,rfl⟩:=jZ' hx;exact (hT.nodes i _ (in' hi)).ok
theorem GT.ord (hT:GT t){k:Nat}{x:aS}(hx:t.Nodes[k]?=some x)(hb:yw x=true){j:Int}(hj:j∈x.Kids):∃ j':Nat,j=(j':Int)/\k<j'/\j'<t.Nodes.length:=hT.gm.ord hx hb hj
theorem GT.all (hT:GT t):KD t.Nodes=true:=hT.gm.all
end
end Go.Pl
end
section
namespace Go.Pl
open Go Go.RowKit Go.Sx Go.Qx
end Go.Pl
end
section
open List renaming getElem?_eq_some_iff->ij'
open Option renaming bind_some->io'
namespace Go.Pl
open Go Go.RowKit Go.Sx Go.Qx
abbrev g0 (p q:List Int):ai:=ai.mk p q false
theorem AQ {α:Type}{step:Int->Option (Fl Int (Sum Unit Bool))}(xs:List α)(p:α->Bool)(b:Bool)(hst:∀ (i:Nat) (x:α),xs[i]?=some x->step (i:Int)=some (if p x=true then Fl.next ((i+1:Nat):Int) else Fl.done (.inr b)))
 (hend:step (xs.length:Int)=some (.done (.inl ()))):aB step (xs.length+1) 0=some (if xs.all p=true then .inl () else .inr b) :=
 UB (step:=step) xs p (λi=>(i:Int)) () b hst hend
theorem XM (l:List Int)(x:Int)(hl:l.length<=4194304):xu l x=some (l.any λy=>x==y):=by
 unfold xu EL;rw [sD];rcases Gw (step:=Bc l x) l (λy=>x==y) (λi _=>(i:Int)) (λi y hy=>by
  have hi:i<l.length:=(ij'.1 hy).1;unfold Bc;rw [tF hi,uf hy];simp only [cond_true,io',rE];rw [rD i (by omega)]
  cases x==y<;>rfl) (by
  unfold Bc;simp) with ⟨i,y,hy,hp,_,e⟩ | ⟨h,e⟩
 ·rw [e,DY hy hp];simp only [io',bB,Es]
 ·rw [e,h];rfl
end Go.Pl
end
section
open List renaming getElem?_eq_some_iff->ij',mem_of_getElem?->jF'
open Option renaming bind_some->io'
namespace Go.Pl
open Go Go.RowKit Go.Sx Go.Qx
def jh (a b:List Int):Bool:=a.all λx=>b.any λy=>x==y
def uZ (l:List ai)(g:ai):Bool:=l.any λc=>jh c.Pos g.Pos&&(jh c.Neg g.Neg&&(!c.Lists||g.Lists))
theorem M8 (a b:List Int)(h1:a.length<=4194304)(h2:b.length<=4194304):yj a b=some (jh a b):=by
 unfold yj;rw [Yr a _ (λx=>!(b.any λy=>x==y)) h1 (λx _=>by unfold GK;rw [XM b x h2];rfl)]
 simp only [io',aZ'];rfl
theorem Xr (l:List ai)(f:ai->Option Bool)(p:ai->Bool)(hl:l.length<=4194304)(hf:∀ x∈l,f x=some (p x)):vC l f=some (l.any p):=by
 unfold vC Ho;rw [sD];rcases Gw (step:=AV l f) l p (λi _=>(i:Int)) (λi x hx=>by
  have hi:i<l.length:=(ij'.1 hx).1;unfold AV;rw [tF hi,uf hx];simp only [cond_true,io',rE];rw [rD i (by omega),hf x (jF' hx)]
  cases p x<;>rfl) (by
  unfold AV;simp) with ⟨i,x,hx,hp,_,e⟩ | ⟨h,e⟩
 ·rw [e,DY hx hp];simp only [io',bB,Es]
 ·rw [e,h];rfl
def uV (g:ai):Prop:=g.Pos.length<=4194304/\g.Neg.length<=4194304
theorem Hq (l:List ai)(g:ai)(hl:l.length<=4194304)(h:∀ c∈l,uV c)(hg:uV g):pY l g=some (uZ l g):=by
 unfold pY;rw [Xr l _ (λc=>jh c.Pos g.Pos&&(jh c.Neg g.Neg&&(!c.Lists||g.Lists))) hl (λc hc=>by unfold Hf;rw [M8 _ _ (h c hc).1 hg.1,M8 _ _ (h c hc).2 hg.2];cases jh c.Pos g.Pos<;>cases jh c.Neg g.Neg<;>cases c.Lists<;>rfl)]
 rfl
end Go.Pl
end
section
open Bool renaming not_eq_true'->ju',or_eq_false_iff->ko'
open List renaming all_eq_true->iu',getElem?_eq_some_iff->ij',mem_of_getElem?->jF'
open Option renaming bind_some->io'
namespace Go.Pl
open Go Go.RowKit Go.Sx Go.Qx
theorem xA:wG 200000000=some true:=by decide +kernel
theorem Yi (b:List Int)(x:Int)(h:b.length<=4194304):Cw b x=some (b.any λy=>x==y):=by
 unfold Cw;rw [sD,AQ (step:=Ba b x) b (λy=>!(x==y)) true (λi y hy=>by
  have hi:i<b.length:=(ij'.1 hy).1;unfold Ba;rw [tF hi,uf hy];simp only [cond_true,io',rE];rw [rD i (by omega)]
  by_cases e:y=x
  ·subst e; simp
  ·have h2:¬ x=y:=λq=>e q.symm;rw [beq_eq_false_iff_ne.2 e,beq_eq_false_iff_ne.2 h2];rfl) (by
  unfold Ba;simp)]
 have e:(b.any λy=>x==y)=!(b.all λy=>!(x==y)):=by simp [List.any_eq_not_all_not]
 rw [e];cases b.all λy=>!(x==y)<;>rfl
theorem LD (a b:List Int)(h1:a.length<=4194304)(h2:b.length<=4194304):yV a b=some (jh a b):=by
 unfold yV;rw [sD,AQ (step:=Bq a b) a (λx=>b.any λy=>x==y) false (λi y hy=>by
  have hi:i<a.length:=(ij'.1 hy).1;unfold Bq;rw [tF hi,uf hy];simp only [cond_true,io',rE];rw [rD i (by omega),Yi b y h2]
  cases b.any λz=>y==z<;>rfl) (by
  unfold Bq;simp)]
 show _=some (a.all λx=>b.any λy=>x==y);cases a.all λx=>b.any λy=>x==y<;>rfl
theorem V3 (l:List ai)(g:ai)(hl:l.length<=4194304)(h:∀ c∈l,uV c)(hg:uV g):AL l g=some (uZ l g):=by
 unfold AL;rw [sD,AQ (step:=Au l g) l (λc=>!(jh c.Pos g.Pos&&(jh c.Neg g.Neg&&(!c.Lists||g.Lists)))) true (λi c hc=>by
  have hi:i<l.length:=(ij'.1 hc).1;have hm:=h c (jF' hc);unfold Au;rw [tF hi,uf hc];simp only [cond_true,io',rE];rw [rD i (by omega),LD _ _ hm.1 hg.1,LD _ _ hm.2 hg.2]
  cases jh c.Pos g.Pos<;>cases jh c.Neg g.Neg<;>cases c.Lists<;>cases g.Lists<;>rfl) (by
  unfold Au;simp)]
 have e:uZ l g=!(l.all λc=>!(jh c.Pos g.Pos&&(jh c.Neg g.Neg&&(!c.Lists||g.Lists)))):=by unfold uZ;rw [List.any_eq_not_all_not]
 rw [e];cases l.all λc=>!(jh c.Pos g.Pos&&(jh c.Neg g.Neg&&(!c.Lists||g.Lists)))<;>rfl
theorem sub_self (a:List Int):jh a a=true:=by unfold jh;rw [iu'];intro x hx;rw [List.any_eq_true];exact ⟨x,hx,by simp⟩
theorem cC' (g:ai):uZ [g] g=true:=by unfold uZ;rw [List.any_cons,sub_self,sub_self];cases g.Lists<;>rfl
theorem UC (d:List ai)(t:ai):∃ n,A8 n d t=some true:=by
 refine ⟨200000000,?_⟩;unfold A8;by_cases h1:8<(d.length:Int)
 ·rw [decide_eq_true h1];simp only [cond_true,io',xA]
 by_cases h2:12<(t.Pos.length:Int)
 ·rw [decide_eq_false h1,decide_eq_true h2];simp only [cond_true,cond_false,io',xA]
 by_cases h3:12<(t.Neg.length:Int)
 ·rw [decide_eq_false h1,decide_eq_false h2,decide_eq_true h3];simp only [cond_true,cond_false,io',xA]
 rw [decide_eq_false h1,decide_eq_false h2,decide_eq_false h3];simp only [cond_false,io'];rw [sD,AQ (step:=Aw d 200000000) d (λc=>!(decide (12<(c.Pos.length:Int))||decide (12<(c.Neg.length:Int)))) true (λi c hc=>by
  have hi:i<d.length:=(ij'.1 hc).1;unfold Aw;rw [tF hi,uf hc];simp only [cond_true,io',rE,xA];rw [rD i (by omega)]
  cases decide (12<(c.Pos.length:Int))<;>cases decide (12<(c.Neg.length:Int))<;>rfl) (by
  unfold Aw;simp)]
 cases hs:d.all λc=>!(decide (12<(c.Pos.length:Int))||decide (12<(c.Neg.length:Int))) with
 | false=>rfl
 | true =>
   have hsh:∀ c∈d,uV c:=λc hc=>by have:=iu'.1 hs c hc;simp only [ju',ko',decide_eq_false_iff_not] at this;exact ⟨by omega,by omega⟩
   have ht:uV t:=⟨by omega,by omega⟩
   simp only [if_true,io',bB];rw [Hq d t (by omega) hsh ht,V3 d t (by omega) hsh ht,Hq [t] t (by simp) (by simpa using ht) ht,Hq [] t (by simp) (by simp) ht,cC']
   simp only [io',beq_self_eq_true,cond_true,xA];rfl
end Go.Pl
end
section
namespace Go.Proofs
open Go.Shelf
set_option maxRecDepth 100000
def Tryz.lay267_ren:Go.Shelf.Ren:=⟨λ| 6=>267 | 15=>182 | 14=>286 | 28=>228 | 29=>229 | 20=>307 | 21=>308 | 22=>309 | 23=>310 | 24=>311 | 25=>312 | 26=>313 | 27=>314 | 46=>331 | 47=>259 | 48=>260 | 49=>332 | 50=>333 | 57=>349 | n=>n,λ| 22=>142 | 24=>189 | 25=>293 | 3=>3 | 39=>211 | 0=>0 | 53=>251 | 55=>253 | 4=>4 | 46=>244 | 45=>243 | 50=>192 | 5=>5 | 9=>9 | 66=>284 | 70=>288 | 76=>307 | 77=>308 | n=>n,λ| n=>n⟩
theorem Tryz.lay267:Go.Proofs.SlLaysF0.n6 Tryz.prog Tryz.lay267_ren:={
 mixed:=by kernel_rfl
 f6:=⟨Tryz.f267.name,by decide,Tryz.func267.trans (congrArg some (by kernel_rfl))⟩
 f14:=⟨Tryz.f286.name,by decide,Tryz.func286.trans (congrArg some (by kernel_rfl))⟩
 f15:=Tryz.func182.trans (congrArg some (by kernel_rfl))
 f20:=⟨Tryz.f307.name,by decide,Tryz.func307.trans (congrArg some (by kernel_rfl))⟩
 f21:=⟨Tryz.f308.name,by decide,Tryz.func308.trans (congrArg some (by kernel_rfl))⟩
 f22:=⟨Tryz.f309.name,by decide,Tryz.func309.trans (congrArg some (by kernel_rfl))⟩
 f23:=⟨Tryz.f310.name,by decide,Tryz.func310.trans (congrArg some (by kernel_rfl))⟩
 f24:=⟨Tryz.f311.name,by decide,Tryz.func311.trans (congrArg some (by kernel_rfl))⟩
 f25:=⟨Tryz.f312.name,by decide,Tryz.func312.trans (congrArg some (by kernel_rfl))⟩
 f26:=⟨Tryz.f313.name,by decide,Tryz.func313.trans (congrArg some (by kernel_rfl))⟩
 f27:=⟨Tryz.f314.name,by decide,Tryz.func314.trans (congrArg some (by kernel_rfl))⟩
 f28:=Tryz.func228.trans (congrArg some (by kernel_rfl))
 f29:=Tryz.func229.trans (congrArg some (by kernel_rfl))
 f46:=⟨Tryz.f331.name,by decide,Tryz.func331.trans (congrArg some (by kernel_rfl))⟩
 f47:=Tryz.func259.trans (congrArg some (by kernel_rfl))
 f48:=Tryz.func260.trans (congrArg some (by kernel_rfl))
 f49:=⟨Tryz.f332.name,by decide,Tryz.func332.trans (congrArg some (by kernel_rfl))⟩
 f50:=⟨Tryz.f333.name,by decide,Tryz.func333.trans (congrArg some (by kernel_rfl))⟩
 f57:=⟨Tryz.f349.name,by decide,Tryz.func349.trans (congrArg some (by kernel_rfl))⟩
 t0:=Tryz.underlying0
 a0:=Tryz.isAgg0
 z0:=Tryz.sizeOf0
 v0:=Tryz.zeroValue0
 t3:=Tryz.underlying3
 a3:=Tryz.isAgg3
 z3:=Tryz.sizeOf3
 v3:=Tryz.zeroValue3
 t4:=Tryz.underlying4
 a4:=Tryz.isAgg4
 z4:=Tryz.sizeOf4
 v4:=Tryz.zeroValue4
 t5:=Tryz.underlying5
 a5:=Tryz.isAgg5
 z5:=Tryz.sizeOf5
 v5:=Tryz.zeroValue5
 t9:=Tryz.underlying9
 a9:=Tryz.isAgg9
 z9:=Tryz.sizeOf9
 v9:=Tryz.zeroValue9
 t22:=Tryz.underlying142
 a22:=Tryz.isAgg142
 z22:=Tryz.sizeOf142
 v22:=Tryz.zeroValue142
 t25:=Tryz.underlying293
 a25:=Tryz.isAgg293
 z25:=Tryz.sizeOf293
 v25:=Tryz.zeroValue293
 t39:=Tryz.underlying211
 a39:=Tryz.isAgg211
 z39:=Tryz.sizeOf211
 v39:=Tryz.zeroValue211
 t45:=Tryz.underlying243
 a45:=Tryz.isAgg243
 z45:=Tryz.sizeOf243
 v45:=Tryz.zeroValue243
 t46:=Tryz.underlying244
 a46:=Tryz.isAgg244
 z46:=Tryz.sizeOf244
 v46:=Tryz.zeroValue244
 t50:=Tryz.underlying192
 a50:=Tryz.isAgg192
 z50:=Tryz.sizeOf192
 v50:=Tryz.zeroValue192
 t53:=Tryz.underlying251
 a53:=Tryz.isAgg251
 z53:=Tryz.sizeOf251
 v53:=Tryz.zeroValue251
 t55:=Tryz.underlying253
 a55:=Tryz.isAgg253
 z55:=Tryz.sizeOf253
 v55:=Tryz.zeroValue253
 t66:=Tryz.underlying284
 a66:=Tryz.isAgg284
 z66:=Tryz.sizeOf284
 v66:=Tryz.zeroValue284
 t70:=Tryz.underlying288
 a70:=Tryz.isAgg288
 z70:=Tryz.sizeOf288
 v70:=Tryz.zeroValue288
 t76:=Tryz.underlying307
 a76:=Tryz.isAgg307
 z76:=Tryz.sizeOf307
 v76:=Tryz.zeroValue307
 t77:=Tryz.underlying308
 a77:=Tryz.isAgg308
 z77:=Tryz.sizeOf308
 v77:=Tryz.zeroValue308 }
def Tryz.lay125_ren:Go.Shelf.Ren:=⟨λ| 171=>125 | 243=>179 | 246=>215 | 283=>245 | 284=>246 | 285=>247 | 286=>248 | 129=>229 | 317=>272 | 318=>273 | 319=>274 | 320=>275 | 337=>296 | 338=>297 | n=>n,λ| 3=>3 | 9=>9 | 2=>2 | 4=>4 | 171=>262 | 0=>0 | 53=>253 | 37=>161 | 5=>5 | 173=>264 | 212=>296 | 51=>251 | 20=>20 | 213=>297 | 46=>211 | 232=>337 | 233=>338 | n=>n,λ| 17=>1 | 18=>2 | 19=>3 | n=>n⟩
theorem Tryz.lay125:Go.Proofs.Lays.n171 Tryz.prog Tryz.lay125_ren:={
 mixed:=by kernel_rfl
 f129:=Tryz.func229.trans (congrArg some (by kernel_rfl))
 f171:=Tryz.func125.trans (congrArg some (by kernel_rfl))
 f243:=Tryz.func179.trans (congrArg some (by kernel_rfl))
 f246:=Tryz.func215.trans (congrArg some (by kernel_rfl))
 f283:=Tryz.func245.trans (congrArg some (by kernel_rfl))
 f284:=Tryz.func246.trans (congrArg some (by kernel_rfl))
 f285:=Tryz.func247.trans (congrArg some (by kernel_rfl))
 f286:=Tryz.func248.trans (congrArg some (by kernel_rfl))
 f317:=Tryz.func272.trans (congrArg some (by kernel_rfl))
 f318:=Tryz.func273.trans (congrArg some (by kernel_rfl))
 f319:=Tryz.func274.trans (congrArg some (by kernel_rfl))
 f320:=Tryz.func275.trans (congrArg some (by kernel_rfl))
 f337:=Tryz.func296.trans (congrArg some (by kernel_rfl))
 f338:=Tryz.func297.trans (congrArg some (by kernel_rfl))
 t0:=Tryz.underlying0
 a0:=Tryz.isAgg0
 z0:=Tryz.sizeOf0
 v0:=Tryz.zeroValue0
 t2:=Tryz.underlying2
 a2:=Tryz.isAgg2
 z2:=Tryz.sizeOf2
 v2:=Tryz.zeroValue2
 t3:=Tryz.underlying3
 a3:=Tryz.isAgg3
 z3:=Tryz.sizeOf3
 v3:=Tryz.zeroValue3
 t4:=Tryz.underlying4
 a4:=Tryz.isAgg4
 z4:=Tryz.sizeOf4
 v4:=Tryz.zeroValue4
 t5:=Tryz.underlying5
 a5:=Tryz.isAgg5
 z5:=Tryz.sizeOf5
 v5:=Tryz.zeroValue5
 t9:=Tryz.underlying9
 a9:=Tryz.isAgg9
 z9:=Tryz.sizeOf9
 v9:=Tryz.zeroValue9
 t20:=Tryz.underlying20
 a20:=Tryz.isAgg20
 z20:=Tryz.sizeOf20
 v20:=Tryz.zeroValue20
 t37:=Tryz.underlying161
 a37:=Tryz.isAgg161
 z37:=Tryz.sizeOf161
 v37:=Tryz.zeroValue161
 t46:=Tryz.underlying211
 a46:=Tryz.isAgg211
 z46:=Tryz.sizeOf211
 v46:=Tryz.zeroValue211
 t51:=Tryz.underlying251
 a51:=Tryz.isAgg251
 z51:=Tryz.sizeOf251
 v51:=Tryz.zeroValue251
 t53:=Tryz.underlying253
 a53:=Tryz.isAgg253
 z53:=Tryz.sizeOf253
 v53:=Tryz.zeroValue253
 t171:=Tryz.underlying262
 a171:=Tryz.isAgg262
 z171:=Tryz.sizeOf262
 v171:=Tryz.zeroValue262
 t173:=Tryz.underlying264
 a173:=Tryz.isAgg264
 z173:=Tryz.sizeOf264
 v173:=Tryz.zeroValue264
 t212:=Tryz.underlying296
 a212:=Tryz.isAgg296
 z212:=Tryz.sizeOf296
 v212:=Tryz.zeroValue296
 t213:=Tryz.underlying297
 a213:=Tryz.isAgg297
 z213:=Tryz.sizeOf297
 t232:=Tryz.underlying337
 a232:=Tryz.isAgg337
 z232:=Tryz.sizeOf337
 v232:=Tryz.zeroValue337
 t233:=Tryz.underlying338
 a233:=Tryz.isAgg338
 z233:=Tryz.sizeOf338
 v233:=Tryz.zeroValue338
 g17:=by kernel_rfl
 g18:=by kernel_rfl
 g19:=by kernel_rfl }
def Tryz.lay128_ren:Go.Shelf.Ren:=⟨λ| 189=>128 | 125=>182 | 257=>181 | 128=>228 | 129=>229 | 294=>219 | 295=>220 | 296=>221 | 297=>222 | 298=>223 | 299=>224 | 216=>225 | 300=>226 | 301=>227 | 328=>258 | 329=>259 | 330=>260 | 331=>261 | 332=>262 | 215=>243 | 343=>284 | n=>n,λ| 28=>23 | 3=>3 | 46=>211 | 0=>0 | 51=>251 | 53=>253 | 4=>4 | 183=>244 | 182=>243 | 131=>192 | 5=>5 | 9=>9 | 218=>284 | 222=>288 | 228=>307 | 229=>308 | n=>n,λ| n=>n⟩
theorem Tryz.lay128:Go.Proofs.Lays.n189 Tryz.prog Tryz.lay128_ren:={
 mixed:=by kernel_rfl
 f125:=Tryz.func182.trans (congrArg some (by kernel_rfl))
 f128:=Tryz.func228.trans (congrArg some (by kernel_rfl))
 f129:=Tryz.func229.trans (congrArg some (by kernel_rfl))
 f189:=Tryz.func128.trans (congrArg some (by kernel_rfl))
 f215:=Tryz.func243.trans (congrArg some (by kernel_rfl))
 f216:=Tryz.func225.trans (congrArg some (by kernel_rfl))
 f257:=Tryz.func181.trans (congrArg some (by kernel_rfl))
 f294:=Tryz.func219.trans (congrArg some (by kernel_rfl))
 f295:=Tryz.func220.trans (congrArg some (by kernel_rfl))
 f296:=Tryz.func221.trans (congrArg some (by kernel_rfl))
 f297:=Tryz.func222.trans (congrArg some (by kernel_rfl))
 f298:=Tryz.func223.trans (congrArg some (by kernel_rfl))
 f299:=Tryz.func224.trans (congrArg some (by kernel_rfl))
 f300:=Tryz.func226.trans (congrArg some (by kernel_rfl))
 f301:=Tryz.func227.trans (congrArg some (by kernel_rfl))
 f328:=Tryz.func258.trans (congrArg some (by kernel_rfl))
 f329:=Tryz.func259.trans (congrArg some (by kernel_rfl))
 f330:=Tryz.func260.trans (congrArg some (by kernel_rfl))
 f331:=Tryz.func261.trans (congrArg some (by kernel_rfl))
 f332:=Tryz.func262.trans (congrArg some (by kernel_rfl))
 f343:=Tryz.func284.trans (congrArg some (by kernel_rfl))
 t0:=Tryz.underlying0
 a0:=Tryz.isAgg0
 z0:=Tryz.sizeOf0
 v0:=Tryz.zeroValue0
 t3:=Tryz.underlying3
 a3:=Tryz.isAgg3
 z3:=Tryz.sizeOf3
 v3:=Tryz.zeroValue3
 t4:=Tryz.underlying4
 a4:=Tryz.isAgg4
 z4:=Tryz.sizeOf4
 v4:=Tryz.zeroValue4
 t5:=Tryz.underlying5
 a5:=Tryz.isAgg5
 z5:=Tryz.sizeOf5
 v5:=Tryz.zeroValue5
 t9:=Tryz.underlying9
 a9:=Tryz.isAgg9
 z9:=Tryz.sizeOf9
 v9:=Tryz.zeroValue9
 t28:=Tryz.underlying23
 a28:=Tryz.isAgg23
 z28:=Tryz.sizeOf23
 v28:=Tryz.zeroValue23
 t46:=Tryz.underlying211
 a46:=Tryz.isAgg211
 z46:=Tryz.sizeOf211
 v46:=Tryz.zeroValue211
 t51:=Tryz.underlying251
 a51:=Tryz.isAgg251
 z51:=Tryz.sizeOf251
 v51:=Tryz.zeroValue251
 t53:=Tryz.underlying253
 a53:=Tryz.isAgg253
 z53:=Tryz.sizeOf253
 v53:=Tryz.zeroValue253
 t131:=Tryz.underlying192
 a131:=Tryz.isAgg192
 z131:=Tryz.sizeOf192
 v131:=Tryz.zeroValue192
 t182:=Tryz.underlying243
 a182:=Tryz.isAgg243
 z182:=Tryz.sizeOf243
 v182:=Tryz.zeroValue243
 t183:=Tryz.underlying244
 a183:=Tryz.isAgg244
 z183:=Tryz.sizeOf244
 v183:=Tryz.zeroValue244
 t218:=Tryz.underlying284
 a218:=Tryz.isAgg284
 z218:=Tryz.sizeOf284
 v218:=Tryz.zeroValue284
 t222:=Tryz.underlying288
 a222:=Tryz.isAgg288
 z222:=Tryz.sizeOf288
 v222:=Tryz.zeroValue288
 t228:=Tryz.underlying307
 a228:=Tryz.isAgg307
 z228:=Tryz.sizeOf307
 v228:=Tryz.zeroValue307
 t229:=Tryz.underlying308
 a229:=Tryz.isAgg308
 z229:=Tryz.sizeOf308
 v229:=Tryz.zeroValue308 }
def Tryz.lay141_ren:Go.Shelf.Ren:=⟨λ| 190=>141 | 125=>182 | 258=>189 | 128=>228 | 129=>229 | 302=>230 | 303=>231 | 304=>232 | 305=>233 | 306=>234 | 307=>235 | 308=>236 | 309=>237 | 310=>238 | 333=>263 | 329=>259 | 330=>260 | 334=>264 | 335=>265 | 336=>266 | 344=>285 | n=>n,λ| 31=>35 | 9=>9 | 3=>3 | 46=>211 | 0=>0 | 51=>251 | 53=>253 | 4=>4 | 183=>244 | 182=>243 | 131=>192 | 5=>5 | 218=>284 | 222=>288 | 228=>307 | 229=>308 | n=>n,λ| n=>n⟩
theorem Tryz.lay141:Go.Proofs.Lays.n190 Tryz.prog Tryz.lay141_ren:={
 mixed:=by kernel_rfl
 f125:=Tryz.func182.trans (congrArg some (by kernel_rfl))
 f128:=Tryz.func228.trans (congrArg some (by kernel_rfl))
 f129:=Tryz.func229.trans (congrArg some (by kernel_rfl))
 f190:=Tryz.func141.trans (congrArg some (by kernel_rfl))
 f258:=Tryz.func189.trans (congrArg some (by kernel_rfl))
 f302:=Tryz.func230.trans (congrArg some (by kernel_rfl))
 f303:=Tryz.func231.trans (congrArg some (by kernel_rfl))
 f304:=Tryz.func232.trans (congrArg some (by kernel_rfl))
 f305:=Tryz.func233.trans (congrArg some (by kernel_rfl))
 f306:=Tryz.func234.trans (congrArg some (by kernel_rfl))
 f307:=Tryz.func235.trans (congrArg some (by kernel_rfl))
 f308:=Tryz.func236.trans (congrArg some (by kernel_rfl))
 f309:=Tryz.func237.trans (congrArg some (by kernel_rfl))
 f310:=Tryz.func238.trans (congrArg some (by kernel_rfl))
 f329:=Tryz.func259.trans (congrArg some (by kernel_rfl))
 f330:=Tryz.func260.trans (congrArg some (by kernel_rfl))
 f333:=Tryz.func263.trans (congrArg some (by kernel_rfl))
 f334:=Tryz.func264.trans (congrArg some (by kernel_rfl))
 f335:=Tryz.func265.trans (congrArg some (by kernel_rfl))
 f336:=Tryz.func266.trans (congrArg some (by kernel_rfl))
 f344:=Tryz.func285.trans (congrArg some (by kernel_rfl))
 t0:=Tryz.underlying0
 a0:=Tryz.isAgg0
 z0:=Tryz.sizeOf0
 v0:=Tryz.zeroValue0
 t3:=Tryz.underlying3
 a3:=Tryz.isAgg3
 z3:=Tryz.sizeOf3
 v3:=Tryz.zeroValue3
 t4:=Tryz.underlying4
 a4:=Tryz.isAgg4
 z4:=Tryz.sizeOf4
 v4:=Tryz.zeroValue4
 t5:=Tryz.underlying5
 a5:=Tryz.isAgg5
 z5:=Tryz.sizeOf5
 v5:=Tryz.zeroValue5
 t9:=Tryz.underlying9
 a9:=Tryz.isAgg9
 z9:=Tryz.sizeOf9
 v9:=Tryz.zeroValue9
 t31:=Tryz.underlying35
 a31:=Tryz.isAgg35
 z31:=Tryz.sizeOf35
 v31:=Tryz.zeroValue35
 t46:=Tryz.underlying211
 a46:=Tryz.isAgg211
 z46:=Tryz.sizeOf211
 v46:=Tryz.zeroValue211
 t51:=Tryz.underlying251
 a51:=Tryz.isAgg251
 z51:=Tryz.sizeOf251
 v51:=Tryz.zeroValue251
 t53:=Tryz.underlying253
 a53:=Tryz.isAgg253
 z53:=Tryz.sizeOf253
 v53:=Tryz.zeroValue253
 t131:=Tryz.underlying192
 a131:=Tryz.isAgg192
 z131:=Tryz.sizeOf192
 v131:=Tryz.zeroValue192
 t182:=Tryz.underlying243
 a182:=Tryz.isAgg243
 z182:=Tryz.sizeOf243
 v182:=Tryz.zeroValue243
 t183:=Tryz.underlying244
 a183:=Tryz.isAgg244
 z183:=Tryz.sizeOf244
 v183:=Tryz.zeroValue244
 t218:=Tryz.underlying284
 a218:=Tryz.isAgg284
 z218:=Tryz.sizeOf284
 v218:=Tryz.zeroValue284
 t222:=Tryz.underlying288
 a222:=Tryz.isAgg288
 z222:=Tryz.sizeOf288
 v222:=Tryz.zeroValue288
 t228:=Tryz.underlying307
 a228:=Tryz.isAgg307
 z228:=Tryz.sizeOf307
 v228:=Tryz.zeroValue307
 t229:=Tryz.underlying308
 a229:=Tryz.isAgg308
 z229:=Tryz.sizeOf308
 v229:=Tryz.zeroValue308 }
end Go.Proofs
end

/- Part 2. -/
import Derived.Test.YtmcfcgaiecgdhaaGreatK0
import Derived.Test.YtmcfcgaiecgdhaaGreatK1
import Derived.ChangeKeysEq
import Derived.KernelRfl
import Derived.Lib.Bytealg
import Derived.Shelf.SlSortCmp.NoneTotal
import Derived.Shelf.Slices.In.SortNone
import Derived.Shelf.Sort.Plain
section
namespace Go.Qx
open Go Go.RowKit Go.Sx
section
variable {I:TypeId->Type} [∀ E,Rp (I E)]
def b8E (rs:List V)(p:PV I):Option (List (PV I)):=match rs with
 | [_]=>some [p]
 | _=>match p with
   | .tup ls=>some ls
   | _=>none
def b6U (tb:Tab I):(ks:List Kd)->Tys I ks->List (PV I)
 | [],_=>[]
 | k::ks,q=>a5O tb k q.1::b6U tb ks q.2
def c2U (tb:Tab I)(rs:List V)(e:Ef I):Option (TyT I rs) :=
 bif a5k e.upd&&a5k e.new then Option.bind (b8E rs e.p) fun ps=>Option.bind (a1N tb (fun _=>none) rs ps) fun x=>bif a5k x.2.1&&a5k x.2.2 then some x.1 else none else none
def b5O (tb:Tab I)(disp:W7 I)(O:Obs I)(nb:Nat)(f:FuncId)(ls:List (PV I))(ks:List Kd)(rs:List V):Fun I ks (TyT I rs):=cur ks fun q=>disp (TyT I rs) f O nb (b6U tb ks q++ls) (c2U tb rs)
structure AccT where
 pub:List Nat
 all:List (Option Nat)
 gv:List (Nat×TypeId×V)
 rv:List Nat
def b57 (ks:List Kd)(rs:List V)(ks':List Kd)(rs':List V)(g:Fun I ks' (TyT I rs')):Option (Fun I ks (TyT I rs)):=if h:ks'=ks/\rs'=rs then some (h.1▸h.2▸g) else none
def b8Y (tb:Tab I)(O:Obs I)(T:TypeId)(v:V)(w:Bool)(p:PV I):Option (TyV I v×AccT):=match p with
 | .ptr l 0=>match O l with
   | some (some (.var T' ls w'))=>bif Nat.beq T T'&&(w'||!w) then Option.bind (b1b v ls) fun p=>Option.bind (b0i tb O v p) fun x =>
      bif w then some (x.1,⟨x.2.1,some l::x.2.2,[(l,T,v)],[]⟩) else bif a5k x.2.2 then some (x.1,⟨x.2.1,[none],[],[l]⟩) else none else none
   | _=>none
 | _=>none
def b6n (O:Obs I)(E:TypeId)(p:PV I):Option (List (I E)×List Nat):=match p with
 | .vw l=>match O l with
   | some (some (.row E' xs _))=>Option.bind (a1F E E' xs) fun ys=>some (ys,[l])
   | some (some (.ro E' xs))=>Option.bind (a1F E E' xs) fun ys=>some (ys,[])
   | some (some (.bo E' xs))=>Option.bind (a1F E E' xs) fun ys=>some (ys,[])
   | _=>none
 | .sl E' xs _=>Option.bind (a1F E E' xs) fun ys=>some (ys,[])
 | .nl _=>some ([],[])
 | _=>none
def a4t (tb:Tab I)(disp:W7 I)(O Oc:Obs I)(nb:Nat):(ps:List Pk)->List (PV I)->Option (a0X I ps×AccT)
 | [],[]=>some ((),⟨[],[],[],[]⟩)
 | .d k::r,p::ps=>Option.bind (a85 tb O k p) fun x=>Option.bind (a4t tb disp O Oc nb r ps) fun y=>some ((x.1,y.1),⟨x.2++y.2.pub,y.2.all,y.2.gv,y.2.rv⟩)
 | .var T v w::r,p::ps=>Option.bind (b8Y tb O T v w p) fun x=>Option.bind (a4t tb disp O Oc nb r ps) fun y=>some ((x.1,y.1),⟨x.2.pub++y.2.pub,x.2.all++y.2.all,x.2.gv++y.2.gv,x.2.rv++y.2.rv⟩)
 | .row E fl::r,p::ps=>Option.bind (a49 tb O (.row E fl) p) fun x=>Option.bind (a4t tb disp O Oc nb r ps) fun y=>some ((x.1,y.1),⟨x.2.1++y.2.pub,x.2.2++y.2.all,y.2.gv,y.2.rv⟩)
 | .fn ks rs::r,p::ps=>Option.bind (a4t tb disp O Oc nb r ps) fun y=>match p with
   | .fn ks' rs' g=>Option.bind (b57 ks rs ks' rs' g) fun g'=>some ((g',y.1),y.2)
   | .clo f ls=>bif tb.fb f then some ((b5O tb disp Oc nb f ls ks rs,y.1),y.2) else none
   | _=>none
 | .val v::r,p::ps=>Option.bind (b0i tb O v p) fun x=>Option.bind (a4t tb disp O Oc nb r ps) fun y=>some ((x.1,y.1),⟨x.2.1++y.2.pub,x.2.2++y.2.all,y.2.gv,y.2.rv⟩)
 | .bor E::r,p::ps=>Option.bind (b6n O E p) fun x=>Option.bind (a4t tb disp O Oc nb r ps) fun y=>some ((x.1,y.1),⟨y.2.pub,none::y.2.all,y.2.gv,x.2++y.2.rv⟩)
 | _,_=>none
def grN (O:Obs I):List Pk->List (PV I)->List Nat
 | .var _ _ true::r,.ptr l _::ps=>(l::nest O [l])++grN O r ps
 | .row _ _::r,p::ps=>b5C p++grN O r ps
 | .val _::r,p::ps=>b5C p++grN O r ps
 | _::r,_::ps=>grN O r ps
 | _,_=>[]
def a01:List (Option Nat)->List (Nat×Option (Ob I))
 | []=>[]
 | some l::r=>(l,none)::a01 r
 | none::r=>a01 r
def a3c:List (Nat×TypeId×V)->List (PV I)->List (Nat×Option (Ob I))
 | x::r,p::ps=>(x.1,some (.var x.2.1 (a3y x.2.2 p) true))::a3c r ps
 | _,_=>[]
def b4d (gr:List Nat)(a:AccT):Bool:=a5s a.pub a.all&&a.all.all (fun x=>match x with | some l=>Q2 l gr | none=>true)&&a.rv.all (fun l=>!(Q2 l gr))
def b5D (tb:Tab I)(r:Row I)(disp:W7 I)(ρ:Type)(O:Obs I)(nb:Nat)(ps:List (PV I))(k:Ef I->Option ρ):Option ρ :=
 Option.bind (a4t tb disp O (roO [] (w7 (grN O r.ps ps) O)) nb r.ps ps) fun a =>
 bif b4d (grN O r.ps ps) a.2 then Option.bind (a7N r.ps r.run a.1) fun res =>
  k ⟨a5R ((pvT tb nb (r.rs++w3 r.ps) res).take r.rs.length),Z3 O a.2.pub++a01 a.2.all++a3c a.2.gv ((pvT tb nb (r.rs++w3 r.ps) res).drop r.rs.length),obT (r.rs++w3 r.ps) res⟩ else none
structure Ans (I:TypeId->Type) where
 f:FuncId
 go:W7 I->(ρ:Type)->Obs I->Nat->List (PV I)->(Ef I->Option ρ)->Option ρ
structure EntOk (P:Program)(e:Ans I):Prop where
 par:∀ (disp:W7 I) (ρ:Type) (O:Obs I) (nb:Nat) (ps:List (PV I)) (k:Ef I->Option ρ),e.go disp ρ O nb ps k=(e.go disp (Ef I) O nb ps some).bind k
 ok:∀ (disp:W7 I),DispOk P disp->∀ (O:Obs I) (nb:Nat) (ps:List (PV I)) (ef:Ef I),e.go disp (Ef I) O nb ps some=some ef->b9o P e.f O nb ps ef
def b2Z (f:FuncId):List (Ans I)->Option (Ans I)
 | []=>none
 | e::r=>bif Nat.beq e.f f then some e else b2Z f r
def b3E (es:List (Ans I)):Nat->W7 I
 | 0=>fun _ _ _ _ _ _=>none
 | d+1=>fun ρ f O nb ps k=>match b2Z f es with
   | some e=>e.go (b3E es d) ρ O nb ps k
   | none=>none
def c2K (tb:Tab I)(r:Row I):Ans I:=⟨r.f,b5D tb r⟩
def a8n (tb:Tab I)(r:Row I)(chk:Obs I->List (PV I)->Bool)(disp:W7 I)(ρ:Type)(O:Obs I)(nb:Nat)(ps:List (PV I))(k:Ef I->Option ρ):Option ρ:=bif chk O ps then b5D tb r disp ρ O nb ps k else none
def c08 (tb:Tab I)(r:Row I)(chk:Obs I->List (PV I)->Bool):Ans I:=⟨r.f,a8n tb r chk⟩
def b8h (P:Program):List (Ans I)->Prop
 | []=>True
 | e::r=>EntOk P e/\b8h P r
variable {P:Program}{tb:Tab I}{X:Cxt}{c c':Cx}{σ τ:S}{s:St I}{n:Nat}{F:Fr}{O:Obs I}
theorem b2B {f:FuncId}:∀ {es:List (Ans I)} {e:Ans I},b8h P es->b2Z f es=some e->EntOk P e/\e.f=f
 | [],_,_,h=>by cases h
 | x::r,e,ha,h=>by
   simp only [b2Z] at h
   cases hb:Nat.beq x.f f with
   | true=>rw [hb] at h; cases h; exact ⟨ha.1,Nat.eq_of_beq_eq_true hb⟩
   | false=>rw [hb] at h; exact b2B ha.2 h
theorem a9C {es:List (Ans I)}(h:b8h P es):∀ d,DispOk P (b3E es d)
 | 0=>⟨fun _ _ _ _ _ _=>rfl,fun _ _ _ _ _ h=>by cases h⟩
 | d+1=>by
   refine ⟨fun ρ f O nb ps k=>?_,fun f O nb ps e he=>?_⟩
   ·simp only [b3E]
    cases hf:b2Z f es with
    | none=>rfl
    | some e=>exact (b2B h hf).1.par _ _ _ _ _ _
   ·simp only [b3E] at he
    split at he
    ·rename_i x hx
     obtain ⟨h1,h2⟩:=b2B h hx
     rw [<- h2]
     exact h1.ok _ (a9C h d) O nb ps e he
    ·cases he
theorem b7C (ht:TabOk P tb):∀ {ks:List Kd} {q:Tys I ks} {vs:List Value},DVs σ ks q vs->RVs X c σ (b6U tb ks q) vs
 | [],_,_,h=>by simpa only [b6U,RVs,DVs] using h
 | k::ks,q,_,⟨v,r,e,h1,h2⟩=>by
   simp only [b6U,RVs]
   exact ⟨v,r,e,b07 ht h1,b7C ht h2⟩
omit [∀ E,Rp (I E)] in
theorem b6v:∀ {vs:List V} {ps:List (PV I)} {x},a1N tb O vs ps=some x->ps.length=vs.length
 | [],[],_,_=>rfl
 | [_],[_],_,_=>rfl
 | _::v'::vs,p::ps,_,h=>by
   obtain ⟨y,hy,h⟩:=bind_some h
   obtain ⟨z,hz,h⟩:=bind_some h
   have:=b6v (vs:=v'::vs) hz
   simp [this]
 | [],_::_,_,h=>by simp [a1N] at h
 | [_],[],_,h=>by simp [a1N] at h
 | [_],_::_::_,_,h=>by simp [a1N] at h
 | _::_::_,[],_,h=>by simp [a1N] at h
theorem c2f (ht:TabOk P tb){disp:W7 I}(hd:DispOk P disp)(hX:X.P=P)(h:Rel X c σ s n F){gr:List Nat}{Oc:Obs I}(hOc:∀ l o,Oc l=some (some o)->roO [] (w7 gr s.O) l=some (some o)){M:Nat->Prop}
 (hM:∀ b,M b->σ.N<=b\/∃ l∈gr,v7 s l/\∃ p,c l=some p/\p.w=some b) {nb:Nat} {f:FuncId} {ls:List (PV I)} {cs:List Value} (hl:RVs X c σ ls cs) {ks:List Kd} {rs:List V} (hbody:a2l P f):c0H P M σ f [] cs ks rs (b5O tb disp Oc nb f ls ks rs):=by
 refine ⟨hbody,rfl,fun τ hτ q vs r hq hr=>?_⟩
 unfold b5O at hr
 rw [b7n,hd.par] at hr
 obtain ⟨e,he,hr⟩:=bind_some hr
 have hMX:∀ b,M b->X.M b:=fun b hb=>by
  rcases hM b hb with hb | ⟨l,_,hlv,p,hc,hw⟩
  ·exact .inl (Nat.le_trans h.base hb)
  ·exact h.mine l p b hlv hc hw
 have h1:Rel X c σ ⟨s.n,s.F,w7 gr s.O,s.nx⟩ n F:=h.less (fun l o ho=>(w5 ho).2) (fun l ho=>a0P.1 ho)
 have hi1:∀ g,M g->notIn c σ (⟨s.n,s.F,w7 gr s.O,s.nx⟩:St I) g:=fun g hg=>by
  rcases hM g hg with hb | ⟨l',hl',hlv,p',hc',hw'⟩
  ·exact (h.fresh hb).sub fun l E E' u xs q e=>(w5 e).2
  ·exact (h.owned hlv hc' hw').sub fun l E E' u xs q e=>(w5 e).2
 have h2:Rel X c τ ⟨s.n,s.F,w7 gr s.O,s.nx⟩ n F:=h1.stepG hτ hMX (hi:=hi1) fun l p g ⟨o,ho⟩ hc hw hm=>by
  obtain ⟨k1,k2⟩:=w5 ho
  have hlt:=(h.objs l o k2).lt hc hw
  rcases hM g hm with hb | ⟨l',hl',hlv,p',hc',hw'⟩
  ·have:σ.N<=g:=hb
   omega
  ·exact k1 (by rw [h.inj l l' p p' g ⟨o,k2⟩ hlv hc hc' hw hw']; exact hl')
 have h3:=enter h2 []
 have hlτ:RVs X c τ ls cs:=RVs.step (hτ.mono fun b _ hb=>hMX b hb) _ _ hl
 have hconv:RVs (Y0 X c τ ⟨s.n,s.F,w7 gr s.O,s.nx⟩ []) (roC [] c) τ ls cs:=RVs.conv (X:=X) (X':=Y0 X c τ ⟨s.n,s.F,w7 gr s.O,s.nx⟩ []) (c:=c) rfl (a24 h2 []) (fun l p hp=>⟨none,by simp [roC,Q2,hp]⟩) _ _ hlτ
 have hnil:e.upd=[]/\e.new=[]/\∃ ps,b8E rs e.p=some ps/\∃ x,a1N tb (fun _=>none) rs ps=some x/\x.2.1=[]/\x.2.2=[]/\x.1=r:=by
  unfold c2U at hr
  obtain ⟨hb,hr⟩:=y2 hr
  simp only [Bool.and_eq_true] at hb
  obtain ⟨ps,hps,hr⟩:=bind_some hr
  obtain ⟨x,hx,hr⟩:=bind_some hr
  obtain ⟨hb2,hr⟩:=y2 hr
  simp only [Bool.and_eq_true] at hb2
  cases hr
  exact ⟨a2y hb.1,a2y hb.2,ps,hps,x,hx,a2y hb2.1,a2y hb2.2,rfl⟩
 obtain ⟨n1,n2,ps,hps,x,hx,x1,x2,hxr⟩:=hnil
 have hc:=hd.ok _ _ _ _ _ he (Y0 X c τ ⟨s.n,s.F,w7 gr s.O,s.nx⟩ []) (roC [] c) τ (roS [] ⟨s.n,s.F,w7 gr s.O,s.nx⟩) n F (vs++cs) hX hOc h3 (RVs.app _ _ _ _ (b7C ht hq) hconv) (by rw [n2]; rfl)
 rw [<- List.nil_append vs] at hc
 refine a1m.mono hc rfl fun v υ hst ⟨c',_,hrel,hv⟩=>⟨υ,rfl,hst.mono fun b hb hm=>?_,?_⟩
 ·rcases hm with hm | ⟨_,hm,_⟩
  ·have:τ.N<=b:=hm
   omega
  ·cases hm
 ·have hlen:=b6v hx
  have hws:∃ ws,v=a6H ws/\RVs (Y0 X c τ ⟨s.n,s.F,w7 gr s.O,s.nx⟩ []) c' υ ps ws:=by
   unfold b8E at hps
   split at hps
   ·cases hps
    exact ⟨[v],rfl,by simp only [RVs]; exact ⟨v,[],rfl,hv,rfl⟩⟩
   ·rename_i hne
    split at hps
    ·rename_i ls' e'
     cases hps
     rw [e'] at hv
     simp only [RV] at hv
     obtain ⟨ws,rfl,hws⟩:=hv
     refine ⟨ws,?_,hws⟩
     have hl2:=RVs.len _ _ hws
     cases ws with
     | nil=>rfl
     | cons a r =>
       cases r with
       | nil =>
         exfalso
         cases rs with
         | nil=>simp at hl2; rw [<- hl2] at hlen; simp at hlen
         | cons a' r' =>
           cases r' with
           | nil=>exact hne a' rfl
           | cons=>simp at hl2 hlen; omega
       | cons=>rfl
    ·cases hps
  obtain ⟨ws,hw1,hw2⟩:=hws
  obtain ⟨x0,xl,xr⟩:=x
  simp only at x1 x2 hxr
  subst x1
  subst x2
  subst hxr
  obtain ⟨pls,t1,t2⟩:=a8L ht a1j.none_ Rows.none_ hx (fun _ h=>h) (fun _ h=>by cases h) hw2
  have:pls=[]:=t2
  subst this
  exact ⟨ws,hw1,t1⟩
omit [∀ E,Rp (I E)] in
theorem b9d {ks ks':List Kd}{rs rs':List V}{g:Fun I ks' (TyT I rs')}{g':Fun I ks (TyT I rs)}(h:b57 ks rs ks' rs' g=some g'):∃ (e1:ks'=ks) (e2:rs'=rs),g'=e1▸e2▸g:=by
 unfold b57 at h
 split at h
 ·rename_i e; cases h; exact ⟨e.1,e.2,rfl⟩
 ·cases h
def a3h:List Pk->List (TypeId×V)
 | []=>[]
 | .var T v true::r=>(T,v)::a3h r
 | _::r=>a3h r
theorem a1Z:∀ (pks:List Pk),(a3h pks).map (·.2)=w3 pks
 | []=>rfl
 | .var T v true::r=>by simp [a3h,w3,a1Z r]
 | .var T v false::r=>a1Z r
 | .d _::r=>a1Z r
 | .row _ _::r=>a1Z r
 | .fn _ _::r=>a1Z r
 | .bor _::r=>a1Z r
 | .val _::r=>a1Z r
omit [∀ E,Rp (I E)] in
theorem a9D {O:Obs I}{l:Nat}{E:TypeId}{xs:List (I E)}:∀ {ls:List Nat} {O1:Obs I},(∃ fl,O l=some (some (.row E xs fl)))->(∃ fl,O1 l=some (some (.row E xs fl)))->∃ fl,apU O1 (Z3 O ls) l=some (some (.row E xs fl))
 | [],_,_,h=>h
 | a::r,O1,h0,h=>by
   simp only [Z3]
   split
   ·rename_i E' xs' e
    simp only [apU]
    refine a9D h0 ?_
    by_cases el:l=a
    ·subst el
     obtain ⟨fl,h0⟩:=h0
     rw [h0] at e
     cases e
     exact ⟨true,Z2 _ _ _⟩
    ·rw [Z5 el]; exact h
   ·exact a9D h0 h
theorem b88 (h:Rel X c σ s n F)(hRw:∀ l E (xs:List (I E)) fl,O l=some (some (.row E xs fl))->∃ fl',s.O l=some (some (.row E xs fl')))(hBo:∀ l E (xs:List (I E)),O l=some (some (.bo E xs))->s.O l=some (some (.bo E xs)))
 {LS:List Nat} (hS:a1j X c σ O LS) {gr:List Nat} {M:Nat->Prop} (hM:∀ b,M b->σ.N<=b\/∃ l∈gr,v7 s l/\∃ p,c l=some p/\p.w=some b) {E:TypeId} {p:PV I} {x:List (I E)} {rv:List Nat} (hx:b6n O E p=some (x,rv)) (hrv:∀ l∈rv,l ∉ gr) {v:Value} (hv:RV X c σ p v) :
 ∃ A k,v=.slice A x.length k/\Bor M σ x A:=by
 have hMX:∀ b,M b->X.M b:=fun b hb=>by
  rcases hM b hb with hb | ⟨l,_,hlv,p,hc,hw⟩
  ·exact .inl (Nat.le_trans h.base hb)
  ·exact h.mine l p b hlv hc hw
 unfold b6n at hx
 split at hx
 ·rename_i l
  simp only [RV] at hv
  obtain ⟨p,hp,rfl⟩:=hv
  split at hx
  ·rename_i E' xs fl ho
   obtain ⟨ys,hys,hx⟩:=bind_some hx
   cases hx
   obtain ⟨e,rfl⟩:=X6 hys
   subst e
   obtain ⟨fl',hs⟩:=hRw l _ _ _ ho
   obtain ⟨A,k,ow,k1,k2⟩:=h.objs l _ hs
   rw [k1] at hp
   cases hp
   refine ⟨A,k,rfl,Bor.of_own k2 fun g hg hm=>?_⟩
   have hlt:=(h.objs l _ hs).lt k1 (g:=g) hg
   rcases hM g hm with hb | ⟨l',hl',hlv,p',hc',hw'⟩
   ·have hb':σ.w.heap.size<=g:=hb
    have:g<σ.w.heap.size:=hlt
    omega
   ·have e:=h.inj l l' _ p' g ⟨_,hs⟩ hlv k1 hc' hg hw'
    exact hrv l (by simp) (by rw [e]; exact hl')
  ·rename_i E' xs ho
   obtain ⟨ys,hys,hx⟩:=bind_some hx
   cases hx
   obtain ⟨e,rfl⟩:=X6 hys
   subst e
   obtain ⟨A,k,k1,k2⟩:=hS.2.1 l _ _ ho
   rw [k1] at hp
   cases hp
   exact ⟨A,k,rfl,Bor.of_sl k2⟩
  ·rename_i E' xs ho
   obtain ⟨ys,hys,hx⟩:=bind_some hx
   cases hx
   obtain ⟨e,rfl⟩:=X6 hys
   subst e
   obtain ⟨A,k,k1,k2⟩:=h.objs l _ (hBo l _ _ ho)
   rw [k1] at hp
   cases hp
   exact ⟨A,k,rfl,k2.sub fun b _=>hMX b⟩
  ·cases hx
 ·obtain ⟨ys,hys,hx⟩:=bind_some hx
  cases hx
  obtain ⟨e,rfl⟩:=X6 hys
  subst e
  simp only [RV] at hv
  obtain ⟨A,k,e1,e2,_⟩:=hv
  exact ⟨A,k,e1,Bor.of_sl e2⟩
 ·cases hx
  simp only [RV] at hv
  obtain ⟨A,rfl⟩:=hv
  exact ⟨A,0,rfl,[],rfl,fun hn=>absurd rfl hn⟩
 ·cases hx
def a26 (c:Cx)(O:Obs I):List (Nat×TypeId×V)->List Nat->Prop
 | [],bs=>bs=[]
 | x::r,bs=>∃ b bs' ls,bs=b::bs'/\O x.1=some (some (.var x.2.1 ls true))/\c x.1=some ⟨some ⟨b,0,none⟩,0,0,some b⟩/\a26 c O r bs'
theorem a2w (ht:TabOk P tb){disp:W7 I}(hd:DispOk P disp)(hX:X.P=P)(h:Rel X c σ s n F)(hRw:∀ l E (xs:List (I E)) fl,O l=some (some (.row E xs fl))->∃ fl',s.O l=some (some (.row E xs fl')))(hBo:∀ l E (xs:List (I E)),O l=some (some (.bo E xs))->s.O l=some (some (.bo E xs)))(hO:∀ l T ls w,O l=some (some (.var T ls w))->s.O l=some (some (.var T ls w))){LS:List Nat}(hS:a1j X c σ O LS)(hR:Rows X c σ O LS){gr:List Nat}{Oc:Obs I}
 (hOc:∀ l o,Oc l=some (some o)->roO [] (w7 gr s.O) l=some (some o)) {M:Nat->Prop} (hM:∀ b,M b->σ.N<=b\/∃ l∈gr,v7 s l/\∃ p,c l=some p/\p.w=some b) {nb:Nat} :
 ∀ {pks:List Pk} {ps:List (PV I)} {a:a0X I pks} {acc:AccT} {vs:List Value},a4t tb disp O Oc nb pks ps=some (a,acc)->RVs X c σ ps vs->(∀ l∈acc.pub,l∈LS)->(∀ l,some l∈acc.all->l ∉ LS)->(∀ l∈acc.rv,l ∉ gr) ->
  ∃ pls,a4E P M σ pks a vs pls/\At c acc.all pls/\a26 c O acc.gv (X5 pks vs)/\(∀ l,some l∈acc.all->(∃ o:Ob I,O l=some (some o)/\a7G o=true)\/∃ T v,(l,T,v)∈acc.gv)/\(∀ x∈acc.gv,some x.1∈acc.all)/\acc.gv.map (fun x=>x.2)=a3h pks
 | [],[],a,acc,vs,e,hv,_,_,_=>by
   cases e
   simp only [RVs] at hv
   subst hv
   exact ⟨[],⟨rfl,rfl⟩,rfl,rfl,(fun l hl=>by cases hl),(fun l hl=>by cases hl),rfl⟩
 | .d k::r,p::ps,_,_,vs,e,hv,h1,h2,h3=>by
   obtain ⟨x,hx,e⟩:=bind_some e
   obtain ⟨y,hy,e⟩:=bind_some e
   cases e
   simp only [RVs] at hv
   obtain ⟨v,vs',rfl,hv1,hv2⟩:=hv
   obtain ⟨pls,k1,k2,k3,k4,k5,k6⟩:=a2w ht hd hX h hRw hBo hO hS hR hOc hM (a:=y.1) (acc:=y.2) hy hv2 (fun l hl=>h1 l (by simp [hl])) h2 h3
   have hd1:=a6W ht hS (ls:=x.2) hx (fun l hl=>h1 l (by simp [hl])) hv1
   refine ⟨pls,⟨v,vs',[],pls,rfl,rfl,⟨hd1,rfl⟩,k1⟩,k2,?_,k4,k5,k6⟩
   have:X5 (.d k::r) (v::vs')=X5 r vs':=by cases v<;>rfl
   rw [this]; exact k3
 | .row E fl::r,p::ps,_,_,vs,e,hv,h1,h2,h3=>by
   obtain ⟨x,hx,e⟩:=bind_some e
   obtain ⟨y,hy,e⟩:=bind_some e
   cases e
   simp only [RVs] at hv
   obtain ⟨v,vs',rfl,hv1,hv2⟩:=hv
   obtain ⟨pls,k1,k2,k3,k4,k5,k6⟩:=a2w ht hd hX h hRw hBo hO hS hR hOc hM (a:=y.1) (acc:=y.2) hy hv2 (fun l hl=>h1 l (by simp [hl])) (fun l hl=>h2 l (by simp [hl])) h3
   obtain ⟨p1,t1,t2⟩:=b1f ht hS hR (ls:=x.2.1) (rows:=x.2.2) hx (fun l hl=>h1 l (by simp [hl])) (fun l hl=>h2 l (by simp [hl])) hv1
   have hl1:=a7s (ls:=x.2.1) (rows:=x.2.2) hx
   obtain ⟨A,k,ow,e1,e2,e3⟩:=t1
   refine ⟨p1++pls,⟨v,vs',p1,pls,rfl,rfl,⟨A,k,ow,e1,e3,e2⟩,k1⟩,t2.app k2,?_,fun l hl=>?_,fun z hz=>by simp [k5 z hz],k6⟩
   ·have:X5 (.row E fl::r) (v::vs')=X5 r vs':=by cases v<;>rfl
    rw [this]; exact k3
   ·rcases List.mem_append.1 hl with hl | hl
    ·exact .inl (hl1 l hl)
    ·exact k4 l hl
 | .val vk::r,p::ps,_,_,vs,e,hv,h1,h2,h3=>by
   obtain ⟨x,hx,e⟩:=bind_some e
   obtain ⟨y,hy,e⟩:=bind_some e
   cases e
   simp only [RVs] at hv
   obtain ⟨v,vs',rfl,hv1,hv2⟩:=hv
   obtain ⟨pls,k1,k2,k3,k4,k5,k6⟩:=a2w ht hd hX h hRw hBo hO hS hR hOc hM (a:=y.1) (acc:=y.2) hy hv2 (fun l hl=>h1 l (by simp [hl])) (fun l hl=>h2 l (by simp [hl])) h3
   obtain ⟨p1,t1,t2⟩:=a8Z ht hS hR (ls:=x.2.1) (rows:=x.2.2) hx (fun l hl=>h1 l (by simp [hl])) (fun l hl=>h2 l (by simp [hl])) hv1
   have hl1:=a7D (ls:=x.2.1) (rows:=x.2.2) hx
   refine ⟨p1++pls,⟨v,vs',p1,pls,rfl,rfl,t1,k1⟩,t2.app k2,?_,fun l hl=>?_,fun z hz=>by simp [k5 z hz],k6⟩
   ·have:X5 (.val vk::r) (v::vs')=X5 r vs':=by cases v<;>rfl
    rw [this]; exact k3
   ·rcases List.mem_append.1 hl with hl | hl
    ·exact .inl (hl1 l hl)
    ·exact k4 l hl
 | .bor E::r,p::ps,_,_,vs,e,hv,h1,h2,h3=>by
   obtain ⟨x,hx,e⟩:=bind_some e
   obtain ⟨y,hy,e⟩:=bind_some e
   cases e
   simp only [RVs] at hv
   obtain ⟨v,vs',rfl,hv1,hv2⟩:=hv
   obtain ⟨pls,k1,k2,k3,k4,k5,k6⟩:=a2w ht hd hX h hRw hBo hO hS hR hOc hM (a:=y.1) (acc:=y.2) hy hv2 h1 (fun l hl=>h2 l (by simp [hl])) (fun l hl=>h3 l (by simp [hl]))
   obtain ⟨A,k,e1,e2⟩:=b88 h hRw hBo hS hM (x:=x.1) (rv:=x.2) hx (fun l hl=>h3 l (by simp [hl])) hv1
   refine ⟨⟨A,k,List.length x.1,none⟩::pls,⟨v,vs',[_],pls,rfl,rfl,⟨A,k,e1,e2,rfl⟩,k1⟩,⟨_,_,rfl,rfl,k2⟩,?_,fun l hl=>?_,fun z hz=>by simp [k5 z hz],k6⟩
   ·have:X5 (.bor E::r) (v::vs')=X5 r vs':=by cases v<;>rfl
    rw [this]; exact k3
   ·rcases List.mem_cons.1 hl with hl | hl
    ·cases hl
    ·exact k4 l hl
 | .fn ks rs::r,p::ps,_,_,vs,e,hv,h1,h2,h3=>by
   obtain ⟨y,hy,e⟩:=bind_some e
   simp only [RVs] at hv
   obtain ⟨v,vs',rfl,hv1,hv2⟩:=hv
   have hb:X5 (.fn ks rs::r) (v::vs')=X5 r vs':=by cases v<;>rfl
   split at e
   ·rename_i ks' rs' g
    obtain ⟨g',hg',e⟩:=bind_some e
    cases e
    obtain ⟨e1,e2,e3⟩:=b9d hg'
    subst e1
    subst e2
    subst e3
    obtain ⟨pls,k1,k2,k3,k4,k5,k6⟩:=a2w ht hd hX h hRw hBo hO hS hR hOc hM (a:=y.1) (acc:=y.2) hy hv2 h1 h2 h3
    simp only [RV] at hv1
    obtain ⟨f,as',cs,e4,hf⟩:=hv1
    refine ⟨pls,⟨v,vs',[],pls,rfl,rfl,⟨f,as',cs,e4,⟨by rw [<- hX]; exact hf.1,hf.2.1,fun τ hτ=>?_⟩,rfl⟩,k1⟩,k2,by rw [hb]; exact k3,k4,k5,k6⟩
    rw [hX] at hf
    exact hf.2.2 τ (hτ.mono fun b _ hb=>by
     rcases hM b hb with hb | ⟨l,_,hlv,p,hc,hw⟩
     ·exact .inl (Nat.le_trans h.base hb)
     ·exact h.mine l p b hlv hc hw)
   ·rename_i f0 ls0 hh0
    replace e:=y2 e
    obtain ⟨hfb,e⟩:=e
    cases e
    obtain ⟨pls,k1,k2,k3,k4,k5,k6⟩:=a2w ht hd hX h hRw hBo hO hS hR hOc hM (a:=y.1) (acc:=y.2) hy hv2 h1 h2 h3
    simp only [RV] at hv1
    obtain ⟨cs,e4,hls⟩:=hv1
    exact ⟨pls,⟨v,vs',[],pls,rfl,rfl,⟨_,[],cs,e4,c2f ht hd hX h hOc hM hls (ht.fb _ hfb),rfl⟩,k1⟩,k2,by rw [hb]; exact k3,k4,k5,k6⟩
   ·cases e
 | .var T vk w::r,p::ps,_,_,vs,e,hv,h1,h2,h3=>by
   obtain ⟨x,hx,e⟩:=bind_some e
   obtain ⟨y,hy,e⟩:=bind_some e
   cases e
   simp only [RVs] at hv
   obtain ⟨v,vs',rfl,hv1,hv2⟩:=hv
   obtain ⟨pls,k1,k2,k3,k4,k5,k6⟩:=a2w ht hd hX h hRw hBo hO hS hR hOc hM (a:=y.1) (acc:=y.2) hy hv2 (fun l hl=>h1 l (by simp [hl])) (fun l hl=>h2 l (by simp [hl])) (fun l hl=>h3 l (by simp [hl]))
   unfold b8Y at hx
   split at hx
   ·rename_i l
    split at hx
    ·rename_i T' ls w' ho
     replace hx:=y2 hx
     obtain ⟨hT,hx⟩:=hx
     simp only [Bool.and_eq_true] at hT
     have eT:=Nat.eq_of_beq_eq_true hT.1
     subst eT
     have hww:=hT.2
     replace hx:=bind_some hx
     obtain ⟨q,hq,hx⟩:=hx
     replace hx:=bind_some hx
     obtain ⟨z,hz,hx⟩:=hx
     have hs:=hO _ _ _ _ ho
     obtain ⟨b,cs,o1,o2,o3,o4,o5⟩:=h.objs l _ hs
     simp only [RV] at hv1
     obtain ⟨b',w2,c1,rfl⟩:=hv1
     rw [o1] at c1
     cases c1
     obtain ⟨u,hu,hcu⟩:=b6E hq o2
     cases w with
     | true =>
       have hw':w'=true:=by cases w'<;>simp at hww ⊢
       subst hw'
       cases hx
       obtain ⟨pr,t1,t2⟩:=a8Z ht hS hR (ls:=z.2.1) (rows:=z.2.2) hz (fun l hl=>h1 l (by simp [hl])) (fun l hl=>h2 l (by simp [hl])) hu
       have hl1:=a7D (ls:=z.2.1) (rows:=z.2.2) hz
       refine ⟨(⟨some ⟨b,0,none⟩,0,0,some b⟩::pr)++pls,⟨_,vs',_,pls,rfl,rfl,⟨b,cs,u,pr,rfl,o3,hcu,t1,(fun _=>o4 rfl),(fun e=>by cases e),rfl⟩,k1⟩,?_,?_,fun l' hl=>?_,fun g hg=>?_,?_⟩
       ·refine At.app (r1:=some l::z.2.2) ?_ k2
        exact ⟨_,pr,rfl,o1,t2⟩
       ·exact ⟨b,_,ls,rfl,ho,o1,k3⟩
       ·simp only [List.mem_append,List.mem_cons,Option.some.injEq] at hl
        rcases hl with (hl | hl) | hl
        ·subst hl
         exact .inr ⟨T,vk,by simp⟩
        ·exact .inl (hl1 l' hl)
        ·rcases k4 l' hl with hl | ⟨T2,v2,hl⟩
         ·exact .inl hl
         ·exact .inr ⟨T2,v2,by simp [hl]⟩
       ·simp only [List.cons_append,List.nil_append,List.mem_cons] at hg
        rcases hg with hg | hg
        ·subst hg; simp
        ·simp [k5 g hg]
       ·simp only [List.cons_append,List.nil_append,List.map_cons,a3h,k6]
     | false =>
       simp only [cond_false] at hx
       replace hx:=y2 hx
       obtain ⟨hn,hx⟩:=hx
       have hn:=a2y hn
       cases hx
       obtain ⟨pr,t1,t2⟩:=a8Z ht hS hR (ls:=z.2.1) (rows:=z.2.2) hz (fun l hl=>h1 l (by simp [hl])) (fun l hl=>by rw [hn] at hl; cases hl) hu
       rw [hn] at t2
       have:pr=[]:=t2
       subst this
       have hlgr:l ∉ gr:=h3 l (by simp)
       refine ⟨(⟨some ⟨b,0,none⟩,0,0,none⟩::[])++pls,⟨_,vs',_,pls,rfl,rfl,⟨b,cs,u,[],rfl,o3,hcu,t1,(fun e=>by cases e),(fun _ hMb=>?_),rfl⟩,k1⟩,?_,?_,fun l' hl=>?_,fun g hg=>?_,?_⟩
       ·have hlt:=a0a o3
        rcases hM b hMb with hb | ⟨l',hl',hlv,p',hc',hw2'⟩
        ·have hb':σ.w.heap.size<=b:=hb
         omega
        ·cases w' with
         | true=>exact hlgr (by rw [h.inj l l' _ p' b ⟨_,hs⟩ hlv o1 hc' rfl hw2']; exact hl')
         | false=>exact o5 rfl (h.mine l' p' b hlv hc' hw2')
       ·refine At.app (r1:=[none]) ?_ k2
        exact ⟨_,[],rfl,rfl,rfl⟩
       ·exact k3
       ·simp only [List.cons_append,List.nil_append,List.mem_cons] at hl
        rcases hl with hl | hl
        ·cases hl
        ·exact k4 l' hl
       ·simp [k5 g hg]
       ·exact k6
    ·cases hx
   ·cases hx
 | [],_::_,_,_,_,e,_,_,_,_=>by simp [a4t] at e
 | _::_,[],_,_,_,e,_,_,_,_=>by simp [a4t] at e
omit [∀ E,Rp (I E)] in
theorem a84:∀ {all:List (Option Nat)} {O:Obs I} {l:Nat},(∀ l,some l∈all->O l≠none)->apU O (a01 all) l=w7 (all.filterMap id) O l
 | [],O,l,_=>by simp [a01,apU,w7,Q2]
 | none::r,O,l,h=>by
   have:=a84 (all:=r) (O:=O) (l:=l) (fun l hl=>h l (by simp [hl]))
   simpa [a01] using this
 | some a::r,O,l,h=>by
   simp only [a01,apU]
   rw [a84 (all:=r) (fun l' hl'=>by
    by_cases e:l'=a
    ·subst e; rw [Z2]; simp
    ·rw [Z5 e]; exact h l' (by simp [hl']))]
   simp only [w7,List.filterMap_cons,id,Q2]
   by_cases e:l=a
   ·subst e
    rw [Z2]
    have ha:=h l (by simp)
    cases ho:O l with
    | none=>exact absurd ho ha
    | some o=>cases Q2 l (List.filterMap id r)<;>simp
   ·rw [Z5 e,Sx.beq_false e]
    rfl
omit [∀ E,Rp (I E)] in
theorem b6t {O:Obs I}{l:Nat}{o:Option (Ob I)}{os:List (Ob I)}{nb:Nat}(h:l ∉ rng nb os.length):K6 (upF O l o) nb os=upF (K6 O nb os) l o:=by
 funext i
 by_cases hi:i∈rng nb os.length
 ·rw [(b4A (O':=O) hi).1,Z5 (fun e=>h (by rw [<- e]; exact hi))]
 ·rw [K7 hi]
  by_cases e:i=l
  ·subst e; rw [Z2,Z2]
  ·rw [Z5 e,Z5 e,K7 hi]
omit [∀ E,Rp (I E)] in
theorem b2k {O0:Obs I}{os:List (Ob I)}{nb:Nat}:∀ {gv:List (Nat×TypeId×V)} {ps:List (PV I)} {O:Obs I},(∀ x∈gv,(∃ ls,O0 x.1=some (some (.var x.2.1 ls true)))/\x.1 ∉ rng nb os.length) ->
 K6 (apU O (a3c gv ps)) nb os=asgW O0 (gv.map fun x=>(x.1,x.2.2)) (gv.map (·.1)) ps (K6 O nb os)
 | [],ps,O,_=>by cases ps<;>rfl
 | x::r,[],O,_=>rfl
 | x::r,p::ps,O,h=>by
   obtain ⟨⟨ls,h1⟩,h2⟩:=h x (by simp)
   simp only [a3c,apU,List.map_cons,asgW,h1]
   rw [b2k (gv:=r) (fun y hy=>h y (by simp [hy])),b6t h2]
omit [∀ E,Rp (I E)] in
theorem a3s {O0 O:Obs I}:∀ {pks:List Pk} {vs us:List Value} {gv:List (Nat×TypeId×V)},b6y τ pks vs us->a26 c O gv (X5 pks vs)->gv.map (fun x=>x.2)=a3h pks->(∀ x∈gv,∃ ls,O0 x.1=some (some (.var x.2.1 ls true))) ->
 a3B τ c O0 (gv.map fun x=>(x.1,x.2.2)) (gv.map (·.1)) us
 | [],vs,us,gv,h,_,h3,_=>by
   have hg:gv=[]:=by simpa [a3h] using h3
   subst hg
   cases vs with
   | nil=>exact h
   | cons=>exact h.elim
 | .d k::r,[],us,gv,h,_,_,_=>h.elim
 | .row _ _::r,[],us,gv,h,_,_,_=>h.elim
 | .fn _ _::r,[],us,gv,h,_,_,_=>h.elim
 | .bor _::r,[],us,gv,h,_,_,_=>h.elim
 | .val _::r,[],us,gv,h,_,_,_=>h.elim
 | .var _ _ false::r,[],us,gv,h,_,_,_=>h.elim
 | .var _ _ true::r,[],us,gv,h,_,_,_=>h.elim
 | .d k::r,v::vs,us,gv,h,h2,h3,h4=>a3s (pks:=r) (vs:=vs) h (by have e:X5 (.d k::r) (v::vs)=X5 r vs:=by cases v<;>rfl
                                                               rw [e] at h2; exact h2) h3 h4
 | .row E f::r,v::vs,us,gv,h,h2,h3,h4=>a3s (pks:=r) (vs:=vs) h (by have e:X5 (.row E f::r) (v::vs)=X5 r vs:=by cases v<;>rfl
                                                                   rw [e] at h2; exact h2) h3 h4
 | .val vk::r,v::vs,us,gv,h,h2,h3,h4=>a3s (pks:=r) (vs:=vs) h (by
    have e:X5 (.val vk::r) (v::vs)=X5 r vs:=by cases v<;>rfl
    rw [e] at h2; exact h2) h3 h4
 | .bor E::r,v::vs,us,gv,h,h2,h3,h4=>a3s (pks:=r) (vs:=vs) h (by have e:X5 (.bor E::r) (v::vs)=X5 r vs:=by cases v<;>rfl
                                                                 rw [e] at h2; exact h2) h3 h4
 | .fn ks rs::r,v::vs,us,gv,h,h2,h3,h4=>a3s (pks:=r) (vs:=vs) h (by have e:X5 (.fn ks rs::r) (v::vs)=X5 r vs:=by cases v<;>rfl
                                                                    rw [e] at h2; exact h2) h3 h4
 | .var T w false::r,v::vs,us,gv,h,h2,h3,h4=>a3s (pks:=r) (vs:=vs) h (by have e:X5 (.var T w false::r) (v::vs)=X5 r vs:=by cases v<;>rfl
                                                                         rw [e] at h2; exact h2) h3 h4
 | .var T w true::r,v::vs,us,gv,h,h2,h3,h4=>by
   obtain ⟨b,cs,u,us',e1,e2,e3,e4,e5,e6⟩:=h
   subst e1
   subst e2
   cases gv with
   | nil=>simp [a3h] at h3
   | cons x gv =>
     simp only [List.map_cons,a3h,List.cons.injEq] at h3
     obtain ⟨b',bs',ls,q1,q2,q3,q4⟩:=h2
     have hb:X5 (.var T w true::r) (Value.pointer (some ⟨b,0,none⟩)::vs)=b::X5 r vs:=rfl
     rw [hb] at q1
     cases q1
     obtain ⟨ls0,o1⟩:=h4 x (by simp)
     have ih:=a3s (pks:=r) (vs:=vs) (us:=us') (gv:=gv) (O0:=O0) e6 q4 h3.2 (fun y hy=>h4 y (by simp [hy]))
     have hT:x.2.1=T:=by rw [h3.1]
     have hV:x.2.2=w:=by rw [h3.1]
     refine ⟨u,us',b,x.2.1,ls0,true,cs,rfl,o1,q3,by rw [hT]; exact e3,e4,?_,ih⟩
     show bif a3X x.2.2 then _ else _
     rw [hV]; exact e5
theorem b6Q (ht:TabOk P tb){r:Row I}{C:World->List Value->Prop}{chk:Obs I->List (PV I)->Bool}(hr:a29 P r C)
 (hC:∀ (X:Cxt) (c:Cx) (σ:S) (s:St I) (n:Nat) (F:Fr) (O:Obs I) (ps:List (PV I)) (vs:List Value),(∀ l o,O l=some (some o)->s.O l=some (some o))->Rel X c σ s n F->chk O ps=true->RVs X c σ ps vs->C σ.w vs):EntOk P (c08 tb r chk):=by
 refine ⟨fun disp ρ O nb ps k=>?_,fun disp hd O nb ps ef he=>?_⟩
 ·show a8n tb r chk disp ρ O nb ps k=(a8n tb r chk disp (Ef I) O nb ps some).bind k
  unfold a8n
  cases chk O ps
  ·rfl
  simp only [cond_true]
  unfold b5D
  simp only [Option.bind_assoc]
  refine b7R fun a=>?_
  cases b4d (grN O r.ps ps) a.2
  ·rfl
  ·simp only [cond_true,Option.bind_assoc]
   rfl
 ·intro X c σ s n F vs hX hO h hvs hfree
  have he':a8n tb r chk disp (Ef I) O nb ps some=some ef:=he
  unfold a8n at he'
  obtain ⟨hck,he'⟩:=y2 he'
  have hCw:=hC X c σ s n F O ps vs hO h hck hvs
  unfold b5D at he'
  obtain ⟨a,ha,he'⟩:=bind_some he'
  obtain ⟨hchk,he'⟩:=y2 he'
  obtain ⟨res,hres,he'⟩:=bind_some he'
  cases he'
  obtain ⟨a,acc⟩:=a
  simp only [b4d,Bool.and_eq_true] at hchk
  obtain ⟨⟨q1,q2⟩,q3⟩:=hchk
  obtain ⟨r1,r2⟩:=a37 q1
  have hgr:∀ l,some l∈acc.all->l∈grN O r.ps ps:=fun l hl=>by
   have:=(List.all_eq_true.1 q2) _ hl
   exact K2.1 this
  have hrv:∀ l∈acc.rv,l ∉ grN O r.ps ps:=fun l hl=>by
   have:=(List.all_eq_true.1 q3) _ hl
   exact W3.1 (by simpa using this)
  obtain ⟨τ1,p1,p2,p3,p4,p5,p6⟩:=h.pubs hO acc.pub
  have hvs1:=RVs.step p2 _ _ hvs
  have hpubO:∀ {l:Nat},(∀ E (xs:List (I E)),O l≠some (some (.row E xs false)))->(k8 s O acc.pub).O l=s.O l:=fun {l} hn=>by
   show apU s.O (Z3 O acc.pub) l=s.O l
   apply a1p
   intro hm
   have hp:∀ {ls:List Nat},l∈W1 (Z3 O ls)->∃ E,∃ xs:List (I E),O l=some (some (.row E xs false)):=by
    intro ls
    induction ls with
    | nil=>intro h; simp [Z3,W1] at h
    | cons a r ih =>
      intro h
      simp only [Z3] at h
      split at h
      ·rename_i E xs e
       simp only [W1,List.map_cons,List.mem_cons] at h
       rcases h with rfl | h
       ·exact ⟨E,xs,e⟩
       ·exact ih h
      ·exact ih h
   obtain ⟨E,xs,e⟩:=hp hm
   exact hn E xs e
  have hOv:∀ l T ls w,O l=some (some (.var T ls w))->(k8 s O acc.pub).O l=some (some (.var T ls w)):=fun l T ls w ho=>by
   rw [hpubO (fun E xs e=>by rw [ho] at e; cases e)]; exact hO l _ ho
  have hOc:∀ l o,roO [] (w7 (grN O r.ps ps) O) l=some (some o)->roO [] (w7 (grN O r.ps ps) (k8 s O acc.pub).O) l=some (some o):=by
   intro l o hl
   unfold roO w7 at hl ⊢
   cases hm:Q2 l (grN O r.ps ps) with
   | true =>
     rw [hm] at hl
     cases hol:O l with
     | none=>rw [hol] at hl; simp [Q2] at hl
     | some x=>rw [hol] at hl; simp [Q2] at hl
   | false =>
     rw [hm] at hl
     simp only [cond_false,Q2] at hl ⊢
     have hne:∀ E (xs:List (I E)),O l≠some (some (.row E xs false)):=fun E xs e=>by rw [e] at hl; simp at hl
     rw [hpubO hne]
     cases hol:O l with
     | none=>rw [hol] at hl; simp at hl
     | some x =>
       cases x with
       | none=>rw [hol] at hl; simp at hl
       | some o'=>rw [hO l o' hol]; rw [hol] at hl; exact hl
  have hlv:∀ l,some l∈acc.all->(∃ o:Ob I,O l=some (some o)/\a7G o=true)\/(∃ T ls,O l=some (some (.var T ls true)))->v7 (k8 s O acc.pub) l:=fun l hl hx=>by
   rcases hx with ⟨o,ho,_⟩ | ⟨T,ls,ho⟩
   ·exact ⟨_,(p6 l (r2 l hl)).trans (hO l _ ho)⟩
   ·exact ⟨_,hOv l _ _ _ ho⟩
  have core:∀ M:Nat->Prop,(∀ b,M b->τ1.N<=b\/∃ l∈grN O r.ps ps,v7 (k8 s O acc.pub) l/\∃ p,c l=some p/\p.w=some b)->_:=fun M hM =>
   a2w ht hd hX p3 (fun l E xs fl e=>a9D ⟨fl,e⟩ ⟨fl,hO l _ e⟩) (fun l E xs e=>(hpubO (fun E' xs' e'=>by rw [e] at e'; cases e')).trans (hO l _ e)) hOv p4 p5 hOc hM (nb:=nb) ha hvs1 (fun _ h=>h) r2 hrv
  have fin:∀ (pls:List Pl),a4E P (fun b=>τ1.N<=b\/b∈ows pls) τ1 r.ps a vs pls->At c acc.all pls->a26 c O acc.gv (X5 r.ps vs)->(∀ l,some l∈acc.all->(∃ o:Ob I,O l=some (some o)/\a7G o=true)\/∃ T v,(l,T,v)∈acc.gv) ->
   (∀ x∈acc.gv,some x.1∈acc.all)->acc.gv.map (fun x=>x.2)=a3h r.ps->a1m P r.f vs σ (Stp X.M σ) fun v τ=>∃ c',Cx.le c c'/\Rel X c' τ (apE s nb ⟨a5R ((pvT tb nb (r.rs++w3 r.ps) res).take r.rs.length),Z3 O acc.pub++a01 acc.all++a3c acc.gv ((pvT tb nb (r.rs++w3 r.ps) res).drop r.rs.length),obT (r.rs++w3 r.ps) res⟩) n F /\
     RV X c' τ (a5R ((pvT tb nb (r.rs++w3 r.ps) res).take r.rs.length)) v:=by
   intro pls k1 k2 k3 k4 k5 k6
   have hgv:∀ x∈acc.gv,∃ ls,O x.1=some (some (.var x.2.1 ls true)):=by
    have:∀ {gv:List (Nat×TypeId×V)} {bs:List Nat},a26 c O gv bs->∀ x∈gv,∃ ls,O x.1=some (some (.var x.2.1 ls true)):=by
     intro gv
     induction gv with
     | nil=>intro bs _ x hx; cases hx
     | cons y r ih =>
       intro bs ⟨b,bs',ls,_,e2,_,e4⟩ x hx
       rcases List.mem_cons.1 hx with rfl | hx
       ·exact ⟨ls,e2⟩
       ·exact ih e4 x hx
    exact this k3
   have hlive:∀ l,some l∈acc.all->v7 (k8 s O acc.pub) l:=fun l hl=>hlv l hl ((k4 l hl).imp id fun ⟨T,v,hm⟩=>by
    obtain ⟨ls,e⟩:=hgv _ hm
    exact ⟨T,ls,e⟩)
   have hnd:(ows pls).Nodup:=At.nodup p3 k2 r1 hlive
   have hown:∀ g∈ows pls,∃ l p,some l∈acc.all/\c l=some p/\p.w=some g:=k2.mem
   have hownM:∀ g∈ows pls,X.M g:=fun g hg=>by
    obtain ⟨l,p,a1,a2,a3⟩:=hown g hg
    exact p3.mine l p g (hlive l a1) a2 a3
   refine a1m.mono (hr τ1 a vs pls res k1 (by rw [p1]; exact hCw) hnd hres) p1.symm fun v τ hst ⟨ws,us,pls',hpost⟩=>⟨τ,rfl,p2.trans (hst.mono fun b _ hb=>hownM b hb),?_⟩
   let kl:=acc.all.filterMap id
   have hkl:∀ l,l∈kl↔some l∈acc.all:=fun l=>by simp [kl,List.mem_filterMap]
   let s2:St I:=⟨s.n,s.F,w7 kl (k8 s O acc.pub).O,s.nx⟩
   have h2:Rel X c τ1 s2 n F:=p3.less (fun l o ho=>(w5 ho).2) (fun l ho=>a0P.1 ho)
   have hn2:∀ l p g,v7 s2 l->c l=some p->p.w=some g->¬ g∈ows pls:=fun l p g ⟨o,ho⟩ hc hw hg=>by
    obtain ⟨m1,m2⟩:=w5 ho
    obtain ⟨l',p',a1,a2,a3⟩:=hown g hg
    exact m1 ((hkl l).2 (by rw [p3.inj l l' p p' g ⟨o,m2⟩ (hlive l' a1) hc a2 hw a3]; exact a1))
   have hi2:∀ g,g∈ows pls->notIn c τ1 s2 g:=fun g hg=>by
    obtain ⟨l',p',a1,a2,a3⟩:=hown g hg
    exact (p3.owned (hlive l' a1) a2 a3).sub fun l E E' u xs q e=>(w5 e).2
   have h3:Rel X c τ s2 n F:=h2.stepG hst hownM hn2 hi2
   have hOpub:apU s.O (Z3 O acc.pub++a01 acc.all)=w7 kl (k8 s O acc.pub).O:=by
    rw [a1q]
    funext l
    exact a84 fun l hl=>by obtain ⟨o,ho⟩:=hlive l hl; intro e; have:=ho; rw [show (k8 s O acc.pub).O l=apU s.O (Z3 O acc.pub) l from rfl,e] at this; cases this
   have hgvO:∀ x∈acc.gv,∃ ls,(k8 s O acc.pub).O x.1=some (some (.var x.2.1 ls true)):=fun x hx=>by
    obtain ⟨ls,e⟩:=hgv x hx
    exact ⟨ls,hOv _ _ _ _ e⟩
   have hfree2:∀ l∈rng nb (obT (r.rs++w3 r.ps) res).length,w7 kl (k8 s O acc.pub).O l=none/\l ∉ acc.gv.map (·.1):=by
    rw [a0k] at hfree
    intro l hl
    have h0:=hfree l hl
    rw [a1q,hOpub] at h0
    by_cases hk:l∈W1 (a3c acc.gv ((pvT tb nb (r.rs++w3 r.ps) res).drop r.rs.length))
    ·exact absurd h0 (a8s (O':=s.O) hk).2
    ·rw [a1p hk] at h0
     refine ⟨h0,fun hm=>?_⟩
     simp only [List.mem_map] at hm
     obtain ⟨x,hx,e⟩:=hm
     have:=(hkl x.1).2 (k5 x hx)
     rw [e] at this
     have hl2:=hlive l ((hkl l).1 this)
     obtain ⟨o,ho⟩:=hl2
     have:=a0P.1 h0
     rw [ho] at this; cases this
   have hob:=a4I hpost.tt
   obtain ⟨h4,h5⟩:=Rel.addN (nb:=nb) h3 (a0k.2 fun l hl=>(hfree2 l hl).1) hob hpost.nodup fun g hg=>by
    have ho:=hpost.own g hg
    refine ⟨ho.1.elim (fun h=>.inl (Nat.le_trans p3.base h)) (hownM g),(ho.1.elim (fun h=>h2.fresh h) (hi2 g)).step h2 hst hn2 hi2,fun l p ⟨o,ho'⟩ hc hw=>?_⟩
    obtain ⟨m1,m2⟩:=w5 ho'
    rcases ho.1 with hge | hin
    ·have:=(p3.objs l o m2).lt hc hw
     have:τ1.w.heap.size<=g:=hge
     omega
    ·obtain ⟨l',p',a1,a2,a3⟩:=hown g hin
     exact m1 ((hkl l).2 (by rw [p3.inj l l' p p' g ⟨o,m2⟩ (hlive l' a1) hc a2 hw a3]; exact a1))
   obtain ⟨hps,hlen⟩:=a8l (X:=X) (c:=Q9 c nb pls') (nb:=nb) ht hpost.tt a0l
   have htk:=RVs.take r.rs.length _ _ hps
   have hdr:=RVs.drop r.rs.length _ _ hps
   rw [List.take_left' hpost.len] at htk
   rw [List.drop_left' hpost.len] at hdr
   have hold:∀ l,(k8 s O acc.pub).O l≠none->Q9 c nb pls' l=c l:=fun l hl=>by
    have key:∀ {ps:List Pl} {c:Cx} {nb:Nat},(l<nb\/nb+ps.length<=l)->Q9 c nb ps l=c l:=by
     intro ps
     induction ps with
     | nil=>intro c nb _; rfl
     | cons p ps ih =>
       intro c nb h
       simp only [Q9]
       rw [ih (by simp only [List.length_cons] at h; omega)]
       have:l≠nb:=by simp only [List.length_cons] at h; omega
       simp [K1,this]
    apply key
    apply Classical.byContradiction
    intro hn
    rw [not_or] at hn
    exact hl (a0P.1 (hfree2 l (a0w.2 ⟨by omega,by rw [hob.1]; omega⟩)).1)
   have hvarb:∀ {gv:List (Nat×TypeId×V)} {bs:List Nat},a26 c O gv bs->∀ x∈gv,∀ p g,c x.1=some p->p.w=some g->g∈bs:=by
    intro gv
    induction gv with
    | nil=>intro bs _ x hx; cases hx
    | cons y r ih =>
      intro bs ⟨b,bs',ls,e1,e2,e3,e4⟩ x hx p g hc hw
      subst e1
      rcases List.mem_cons.1 hx with rfl | hx
      ·rw [e3] at hc; cases hc; cases hw; simp
      ·simp [ih e4 x hx p g hc hw]
   have hat:∀ (i:Nat) (y:Nat×V) (p:PV I),(acc.gv.map fun x=>(x.1,x.2.2))[i]?=some y->((pvT tb nb (r.rs++w3 r.ps) res).drop r.rs.length)[i]?=some p->∃ nb' z,p=pvV tb nb' y.2 z:=fun i y p hi hp=>by
    refine b3P (tb:=tb) (vs:=r.rs++w3 r.ps) (nb:=nb) (x:=res) (i:=r.rs.length+i) (v:=y.2) ?_ (by rw [List.getElem?_drop] at hp; exact hp)
    rw [List.getElem?_append_right (by simp),Nat.add_sub_cancel_left,<- a1Z,<- k6]
    rw [List.getElem?_map] at hi
    simp only [List.map_map,List.getElem?_map]
    cases hgi:acc.gv[i]? with
    | none=>rw [hgi] at hi; cases hi
    | some z=>rw [hgi] at hi; cases hi; rfl
   have h6:=Rel.asgW (pls:=pls') ht p3 h5 (a3s hpost.out k3 k6 hgvO) hdr (fun i y p hi hp hag=>by
    obtain ⟨nb',z,e⟩:=hat i y p hi hp
    rw [e]; exact b1o hag)
    (fun i y p hi hp hag=>by
      obtain ⟨nb',z,e⟩:=hat i y p hi hp
      rw [e]; exact b1g hag)
    (fun l hl=>hold l (by
      simp only [List.mem_map] at hl
      obtain ⟨x,hx,rfl⟩:=hl
      obtain ⟨ls,e⟩:=hgvO x hx
      rw [e]; simp))
    (fun l hl p g hc hw=>by
      simp only [List.mem_map] at hl
      obtain ⟨x,hx,rfl⟩:=hl
      exact p3.mine x.1 p g (hlive _ (k5 x hx)) hc hw)
    (fun l ⟨o,ho⟩=>by
      by_cases hm:l∈rng nb (obT (r.rs++w3 r.ps) res).length
      ·right
       obtain ⟨a1,a2⟩:=a0w.1 hm
       have hlt:l-nb<pls'.length:=by rw [<- hob.1]; omega
       refine ⟨pls'[l-nb],List.getElem_mem _,?_⟩
       have:=a0l (c:=c) (nb:=nb) (l-nb) pls'[l-nb] (List.getElem?_eq_getElem hlt)
       rw [show nb+(l-nb)=l from by omega] at this
       exact this
      ·left
       have ho':K6 (w7 kl (k8 s O acc.pub).O) nb (obT (r.rs++w3 r.ps) res) l=some (some o):=ho
       rw [K7 hm] at ho'
       obtain ⟨_,m2⟩:=w5 ho'
       exact ⟨⟨o,m2⟩,hold l (by rw [m2]; simp)⟩)
    (fun l hl p hc g hw hm=>by
      simp only [List.mem_map] at hl
      obtain ⟨x,hx,rfl⟩:=hl
      exact (hpost.own g hm).2 (hvarb k3 x hx p g hc hw))
    (fun l hl p hc g hw=>by
      simp only [List.mem_map] at hl
      obtain ⟨x,hx,rfl⟩:=hl
      obtain ⟨ls,e⟩:=hgvO x hx
      exact (((p3.owned ⟨_,e⟩ hc hw).sub (s':=s2) fun l E E' u xs q e=>(w5 e).2).step h2 hst hn2 hi2).grow h3 h4 (a2v hob.not))
   refine ⟨_,h4,?_,by rw [hpost.ret]; exact b4j htk⟩
   have hO2:K6 (apU s.O (Z3 O acc.pub++a01 acc.all++a3c acc.gv ((pvT tb nb (r.rs++w3 r.ps) res).drop r.rs.length))) nb (obT (r.rs++w3 r.ps) res) =
    asgW (k8 s O acc.pub).O (acc.gv.map fun x=>(x.1,x.2.2)) (acc.gv.map (·.1)) ((pvT tb nb (r.rs++w3 r.ps) res).drop r.rs.length) (K6 (w7 kl (k8 s O acc.pub).O) nb (obT (r.rs++w3 r.ps) res)):=by
    rw [a1q,hOpub]
    exact b2k fun x hx=>⟨hgvO x hx,fun hm=>(hfree2 x.1 hm).2 (List.mem_map.2 ⟨x,hx,rfl⟩)⟩
   have e:apE s nb ⟨a5R ((pvT tb nb (r.rs++w3 r.ps) res).take r.rs.length),Z3 O acc.pub++a01 acc.all++a3c acc.gv ((pvT tb nb (r.rs++w3 r.ps) res).drop r.rs.length),obT (r.rs++w3 r.ps) res⟩ =
    ⟨s.n,s.F,asgW (k8 s O acc.pub).O (acc.gv.map fun x=>(x.1,x.2.2)) (acc.gv.map (·.1)) ((pvT tb nb (r.rs++w3 r.ps) res).drop r.rs.length) (K6 (w7 kl (k8 s O acc.pub).O) nb (obT (r.rs++w3 r.ps) res)),s.nx⟩:=by
    simp only [apE,hO2]
   rw [e]
   exact h6
  obtain ⟨pls0,k1,k2,k3,k4,k5,k6⟩:=core (fun _=>False) (fun _ h=>h.elim)
  obtain ⟨pls,k1',k2',_⟩:=core (fun b=>τ1.N<=b\/b∈ows pls0) (fun b hb=>hb.imp id fun hb=>by
   obtain ⟨l,p,a1,a2,a3⟩:=k2.mem b hb
   refine ⟨l,hgr l a1,hlv l a1 ((k4 l a1).imp id fun ⟨T,v,hm⟩=>?_),p,a2,a3⟩
   have:∀ {gv:List (Nat×TypeId×V)} {bs:List Nat},a26 c O gv bs->∀ x∈gv,∃ ls,O x.1=some (some (.var x.2.1 ls true)):=by
    intro gv
    induction gv with
    | nil=>intro bs _ x hx; cases hx
    | cons y r ih =>
      intro bs ⟨b,bs',ls,_,e2,_,e4⟩ x hx
      rcases List.mem_cons.1 hx with rfl | hx
      ·exact ⟨ls,e2⟩
      ·exact ih e4 x hx
   obtain ⟨ls,e⟩:=this k3 _ hm
   exact ⟨T,ls,e⟩)
  have hsame:ows pls=ows pls0:=by
   have:∀ {rows:List (Option Nat)} {p q:List Pl},At c rows p->At c rows q->ows p=ows q:=by
    intro rows
    induction rows with
    | nil=>intro p q h1 h2; cases h1; cases h2; rfl
    | cons x r ih =>
      intro p q ⟨a,c41,e1,g1,h1⟩ ⟨b,bs,e2,g2,h2⟩
      subst e1
      subst e2
      have hr:=ih h1 h2
      simp only [ows,List.filterMap_cons] at hr ⊢
      have:a.w=b.w:=by
       cases x with
       | none=>simp only at g1 g2; rw [g1,g2]
       | some l=>simp only at g1 g2; rw [g1] at g2; cases g2; rfl
      rw [this,hr]
   exact this k2' k2
  rw [<- hsame] at k1'
  exact fin pls k1' k2' k3 k4 k5 k6
theorem c11 (ht:TabOk P tb){r:Row I}(hr:j7 P r):EntOk P (c2K tb r) :=
 b6Q (C:=fun _ _=>True) (chk:=fun _ _=>true) ht (fun σ a vs pls res h _=>hr σ a vs pls res h) (fun _ _ _ _ _ _ _ _ _ _ _ _ _=>trivial)
def b1c:List (PV I)->List (Option (PV I))->Bool
 | [],[]=>true
 | .ptr a 0::r,some (.ptr b 0)::r'=>Nat.beq a b&&b1c r r'
 | _,_=>false
def b4D (T:TypeId)(f:FuncId)(j:Nat)(is:List Nat)(O:Obs I)(ps:List (PV I)):Bool:=match ps[j]? with
 | some (.ptr l 0)=>match O l with
   | some (some (.var T' [.clo f' ls] _))=>Nat.beq T T'&&(Nat.beq f f'&&b1c ls (is.map (ps[·]?)))
   | _=>false
 | _=>false
def a6m (T:TypeId)(f:FuncId)(j:Nat)(is:List Nat)(w:World)(vs:List Value):Prop :=
 ∃ b c41,vs[j]?=some (.pointer (some ⟨b,0,none⟩))/\w.heap[b]?=some (.cells #[.func (.func f) #[] (List.toArray c41)] T (0,0))/\is.map (vs[·]?)=c41.map some
theorem b5M:∀ {ls:List (PV I)} {is:List Nat} {ps:List (PV I)} {vs c41:List Value},b1c ls (is.map (ps[·]?))=true->RVs X c σ ps vs->RVs X c σ ls c41->is.map (vs[·]?)=c41.map some
 | [],[],_,_,c41,_,_,ha=>by
   simp only [RVs] at ha
   subst ha; rfl
 | [],_::_,_,_,_,h,_,_=>by simp [b1c] at h
 | p::r,[],_,_,_,h,_,_=>by cases p<;>simp [b1c] at h
 | p::r,i::is,ps,vs,c41,h,hv,ha=>by
   simp only [RVs] at ha
   obtain ⟨a,as',rfl,h1,h2⟩:=ha
   simp only [List.map_cons] at h ⊢
   unfold b1c at h
   split at h
   ·rename_i e1 _
    cases e1
   ·rename_i l0 r0 l1 r1 e1 e2
    obtain ⟨e3,e4⟩:=List.cons.inj e1
    obtain ⟨hps,hr1⟩:=List.cons.inj e2
    subst e3
    subst e4
    subst hr1
    simp only [Bool.and_eq_true] at h
    have e:=Nat.eq_of_beq_eq_true h.1
    subst e
    obtain ⟨v,hvi,hrv⟩:=RVs.at_ _ _ hv i _ hps
    rw [hvi,b5M h.2 hv h2]
    simp only [RV] at hrv h1
    obtain ⟨b,w,k1,rfl⟩:=hrv
    obtain ⟨b',w',k2,rfl⟩:=h1
    rw [k1] at k2
    cases k2
    rfl
   ·cases h
theorem b8f {T:TypeId}{f:FuncId}{j:Nat}{is:List Nat}{ps:List (PV I)}{vs:List Value}(hO:∀ l o,O l=some (some o)->s.O l=some (some o))(h:Rel X c σ s n F)(hc:b4D T f j is O ps=true)(hv:RVs X c σ ps vs):a6m T f j is σ.w vs:=by
 unfold b4D at hc
 split at hc
 ·rename_i l hj
  split at hc
  ·rename_i T' f' ls w' ho
   simp only [Bool.and_eq_true] at hc
   have eT:=Nat.eq_of_beq_eq_true hc.1
   have ef:=Nat.eq_of_beq_eq_true hc.2.1
   subst eT
   subst ef
   obtain ⟨v,hvj,hrv⟩:=RVs.at_ _ _ hv j _ hj
   simp only [RV] at hrv
   obtain ⟨b,w,k1,rfl⟩:=hrv
   obtain ⟨b',cs,k2,k3,k4,_⟩:=h.objs l _ (hO _ _ ho)
   rw [k1] at k2
   cases k2
   simp only [RG] at k3
   obtain ⟨a,r,rfl,hcl,rfl⟩:=k3
   rcases hcl with hcl | ⟨_,u,rfl,hu⟩
   ·exact hcl.elim
   simp only [RV] at hu
   obtain ⟨c41,rfl,has⟩:=hu
   exact ⟨b,c41,hvj,by simpa using k4,b5M hc.2.2 hv has⟩
  ·cases hc
 ·cases hc
def b71 (T:TypeId)(f:FuncId)(l:Nat)(j:Nat)(is:List Nat)(s:St I):St I:=w6 s l (some (.var T [.clo f (is.filterMap s.F)] false))
theorem b7E:∀ {is:List Nat} {ps:List (PV I)} {vs c41:List Value},is.all (fun i=>Nat.blt i ps.length)=true->RVs X c σ ps vs->is.map (vs[·]?)=c41.map some->RVs X c σ (is.filterMap (ps[·]?)) c41
 | [],_,_,c41,_,_,e=>by
   cases c41 with
   | nil=>simp only [List.filterMap_nil,RVs]
   | cons=>cases e
 | i::is,ps,vs,c41,hl,hv,e=>by
   cases c41 with
   | nil=>cases e
   | cons a c41 =>
     simp only [List.map_cons,List.cons.injEq] at e
     simp only [List.all_cons,Bool.and_eq_true] at hl
     have hi:i<ps.length:=by
      have:=hl.1
      rw [Nat.blt_eq] at this
      exact this
     have hp:=List.getElem?_eq_getElem hi
     obtain ⟨v,hvi,hrv⟩:=RVs.at_ _ _ hv i _ hp
     rw [e.1] at hvi
     cases hvi
     rw [List.filterMap_cons,hp]
     simp only [RVs]
     exact ⟨a,c41,rfl,hrv,b7E hl.2 hv e.2⟩
theorem b6H {T:TypeId}{f:FuncId}{l j:Nat}{is:List Nat}{nt:Nat}{ps:List Pk}{a:a0X I ps}{vs:List Value}(hl:(a7b tb nt ps a).O l=some (some (.var T [.any] false)))(hj:(a0q tb 0 ps a)[j]?=some (.ptr l 0))(his:is.all (fun i=>Nat.blt i (a0q tb 0 ps a).length)=true)
 (h:Rel X c σ (a7b tb nt ps a) nt F) (hv:RVs X c σ (a0q tb 0 ps a) vs) (hC:a6m T f j is σ.w vs):Rel X c σ (b71 T f l j is (a7b tb nt ps a)) nt F:=by
 obtain ⟨b,c41,h1,h2,h3⟩:=hC
 obtain ⟨v,hvj,hrv⟩:=RVs.at_ _ _ hv j _ hj
 rw [h1] at hvj
 cases hvj
 simp only [RV] at hrv
 obtain ⟨b',w,k1,e⟩:=hrv
 cases e
 obtain ⟨b',cs,k2,k3,k4,k5,k6⟩:=h.objs l _ hl
 rw [k1] at k2
 cases k2
 refine h.revive ⟨b,[.func (.func f) #[] (List.toArray c41)],k1,?_,by simpa using h2,k5,k6⟩ fun p g hp hg=>?_
 ·simp only [RG]
  refine ⟨_,[],rfl,.inr ⟨rfl,_,rfl,?_⟩,rfl⟩
  simp only [RV]
  exact ⟨c41,rfl,b7E his hv h3⟩
 ·exact ⟨h.mine l p g ⟨_,hl⟩ hp hg,h.owned ⟨_,hl⟩ hp hg,fun l' p' hne hlv hp' hg'=>hne (h.inj l' l p' p g hlv ⟨_,hl⟩ hp' hp hg' hg)⟩
end
end Go.Qx
end
section
namespace Go.Qx
open Go Go.RowKit Go.Sx
section
variable {I:TypeId->Type} [∀ E,Rp (I E)] {P:Program}{tb:Tab I}{X:Cxt}{c c':Cx}{σ τ:S}{s:St I}{n:Nat}{F:Fr}{O:Obs I}
structure Rio (I:TypeId->Type) where
 f:FuncId
 E:TypeId
 ps:List Pk
 rs:List V
 run:List (I E)->b5R I ps (TyT I (rs++w3 ps)×List (I E))
def b1l (P:Program)(r:Rio I):Prop:=∀ (σ:S) (xs:List (I r.E)) (a:a0X I r.ps) (vs:List Value) (pls:List Pl) (res:TyT I (r.rs++w3 r.ps)) (ys:List (I r.E)),
 a4E P (fun b=>σ.N<=b\/b∈ows pls) σ (.row r.E false::r.ps) (xs,a) vs pls->(ows pls).Nodup->a7N r.ps (r.run xs) a=some (res,ys) ->
  a1m P r.f vs σ (Stp (fun b=>b∈ows pls) σ) fun v τ=>∃ ws us pls',Post σ τ (.row r.E false::r.ps) r.rs vs res (ows pls) v ws us pls' /\
   ∃ A k ow,pls.head?=some ⟨A,k,xs.length,ow⟩/\ys.length=xs.length/\K5 ow false r.E τ ys A k/\∀ g,ow=some g->g ∉ ows pls'
omit [∀ E,Rp (I E)] in
theorem b7N {E:TypeId}{fl:Bool}{l:Nat}{y:List (I E)×List Nat×List (Option Nat)}(h:a49 tb O (.row E fl) (.vw l)=some y):y.2.2=[some l]:=by
 simp only [a49] at h
 split at h
 ·replace h:=bind_some h
  obtain ⟨ys,hys,h⟩:=h
  cases fl<;>rename_i fl' _<;>cases fl'<;>first | (cases h; rfl) | cases h
 ·cases h
def b1n (tb:Tab I)(r:Rio I)(disp:W7 I)(ρ:Type)(O:Obs I)(nb:Nat)(ps:List (PV I))(k:Ef I->Option ρ):Option ρ:=match ps with
 | .vw l::ps'=>Option.bind (a4t tb disp O (roO [] (w7 (grN O (.row r.E false::r.ps) (.vw l::ps')) O)) nb (.row r.E false::r.ps) (.vw l::ps')) fun a =>
   bif b4d (grN O (.row r.E false::r.ps) (.vw l::ps')) a.2 then Option.bind (a7N r.ps (r.run a.1.1) a.1.2) fun res =>
    k ⟨a5R ((pvT tb nb (r.rs++w3 r.ps) res.1).take r.rs.length),(Z3 O a.2.pub++a01 a.2.all++a3c a.2.gv ((pvT tb nb (r.rs++w3 r.ps) res.1).drop r.rs.length))++[(l,some (.row r.E res.2 false))],obT (r.rs++w3 r.ps) res.1⟩ else none
 | _=>none
def c2i (tb:Tab I)(r:Rio I):Ans I:=⟨r.f,b1n tb r⟩
theorem c1F (ht:TabOk P tb){r:Rio I}(hr:b1l P r):EntOk P (c2i tb r):=by
 refine ⟨fun disp ρ O nb ps k=>?_,fun disp hd O nb ps ef he=>?_⟩
 ·show b1n tb r disp ρ O nb ps k=(b1n tb r disp (Ef I) O nb ps some).bind k
  unfold b1n
  split
  ·rename_i l0 ps'
   simp only [Option.bind_assoc]
   refine b7R fun a=>?_
   cases b4d (grN O (.row r.E false::r.ps) (.vw l0::ps')) a.2
   ·rfl
   ·simp only [cond_true,Option.bind_assoc]
    rfl
  ·rfl
 ·intro X c σ s n F vs hX hO h hvs hfree
  have he':b1n tb r disp (Ef I) O nb ps some=some ef:=he
  unfold b1n at he'
  split at he'
  rotate_left
  ·cases he'
  rename_i l0 ps'
  replace he':=bind_some he'
  obtain ⟨a,ha,he'⟩:=he'
  replace he':=y2 he'
  obtain ⟨hchk,he'⟩:=he'
  replace he':=bind_some he'
  obtain ⟨res,hres,he'⟩:=he'
  cases he'
  obtain ⟨a,acc⟩:=a
  obtain ⟨res,ys⟩:=res
  have hrow0:∃ rest,acc.all=some l0::rest:=by
   obtain ⟨x,hx,e⟩:=bind_some ha
   obtain ⟨y,hy,e⟩:=bind_some e
   cases e
   exact ⟨y.2.all,by show x.2.2++y.2.all=_; rw [b7N hx]; rfl⟩
  have hO0:∃ E,∃ xs:List (I E),∃ fl,O l0=some (some (.row E xs fl)):=by
   obtain ⟨x,hx,e⟩:=bind_some ha
   exact b8q (ls:=x.2.1) (rows:=x.2.2) hx l0 (by rw [b7N hx]; simp)
  have hfree:a0Q (apU s.O (Z3 O acc.pub++a01 acc.all++a3c acc.gv ((pvT tb nb (r.rs++w3 r.ps) res).drop r.rs.length))) nb (obT (r.rs++w3 r.ps) res)=true/\l0 ∉ rng nb (obT (r.rs++w3 r.ps) res).length:=by
   have hf:a0Q (apU s.O ((Z3 O acc.pub++a01 acc.all++a3c acc.gv ((pvT tb nb (r.rs++w3 r.ps) res).drop r.rs.length))++[(l0,some (Ob.row r.E ys false))])) nb (obT (r.rs++w3 r.ps) res)=true:=hfree
   rw [a1q] at hf
   rw [a0k] at hf ⊢
   have hne:l0 ∉ rng nb (obT (r.rs++w3 r.ps) res).length:=fun hm=>by
    have:=hf l0 hm
    simp [apU,Z2] at this
   refine ⟨fun l hl=>?_,hne⟩
   have h1:=hf l hl
   have e:l≠l0:=fun e=>hne (by rw [<- e]; exact hl)
   simpa [apU,Z5 e] using h1
  obtain ⟨hfree,hl0n⟩:=hfree
  simp only [b4d,Bool.and_eq_true] at hchk
  obtain ⟨⟨q1,q2⟩,q3⟩:=hchk
  obtain ⟨r1,r2⟩:=a37 q1
  have hgr:∀ l,some l∈acc.all->l∈grN O (.row r.E false::r.ps) (.vw l0::ps'):=fun l hl=>by
   have:=(List.all_eq_true.1 q2) _ hl
   exact K2.1 this
  have hrv:∀ l∈acc.rv,l ∉ grN O (.row r.E false::r.ps) (.vw l0::ps'):=fun l hl=>by
   have:=(List.all_eq_true.1 q3) _ hl
   exact W3.1 (by simpa using this)
  obtain ⟨τ1,p1,p2,p3,p4,p5,p6⟩:=h.pubs hO acc.pub
  have hvs1:=RVs.step p2 _ _ hvs
  have hpubO:∀ {l:Nat},(∀ E (xs:List (I E)),O l≠some (some (.row E xs false)))->(k8 s O acc.pub).O l=s.O l:=fun {l} hn=>by
   show apU s.O (Z3 O acc.pub) l=s.O l
   apply a1p
   intro hm
   have hp:∀ {ls:List Nat},l∈W1 (Z3 O ls)->∃ E,∃ xs:List (I E),O l=some (some (.row E xs false)):=by
    intro ls
    induction ls with
    | nil=>intro h; simp [Z3,W1] at h
    | cons a r ih =>
      intro h
      simp only [Z3] at h
      split at h
      ·rename_i E xs e
       simp only [W1,List.map_cons,List.mem_cons] at h
       rcases h with rfl | h
       ·exact ⟨E,xs,e⟩
       ·exact ih h
      ·exact ih h
   obtain ⟨E,xs,e⟩:=hp hm
   exact hn E xs e
  have hOv:∀ l T ls w,O l=some (some (.var T ls w))->(k8 s O acc.pub).O l=some (some (.var T ls w)):=fun l T ls w ho=>by
   rw [hpubO (fun E xs e=>by rw [ho] at e; cases e)]; exact hO l _ ho
  have hOc:∀ l o,roO [] (w7 (grN O (.row r.E false::r.ps) (.vw l0::ps')) O) l=some (some o)->roO [] (w7 (grN O (.row r.E false::r.ps) (.vw l0::ps')) (k8 s O acc.pub).O) l=some (some o):=by
   intro l o hl
   unfold roO w7 at hl ⊢
   cases hm:Q2 l (grN O (.row r.E false::r.ps) (.vw l0::ps')) with
   | true =>
     rw [hm] at hl
     cases hol:O l with
     | none=>rw [hol] at hl; simp [Q2] at hl
     | some x=>rw [hol] at hl; simp [Q2] at hl
   | false =>
     rw [hm] at hl
     simp only [cond_false,Q2] at hl ⊢
     have hne:∀ E (xs:List (I E)),O l≠some (some (.row E xs false)):=fun E xs e=>by rw [e] at hl; simp at hl
     rw [hpubO hne]
     cases hol:O l with
     | none=>rw [hol] at hl; simp at hl
     | some x =>
       cases x with
       | none=>rw [hol] at hl; simp at hl
       | some o'=>rw [hO l o' hol]; rw [hol] at hl; exact hl
  have hlv:∀ l,some l∈acc.all->(∃ o:Ob I,O l=some (some o)/\a7G o=true)\/(∃ T ls,O l=some (some (.var T ls true)))->v7 (k8 s O acc.pub) l:=fun l hl hx=>by
   rcases hx with ⟨o,ho,_⟩ | ⟨T,ls,ho⟩
   ·exact ⟨_,(p6 l (r2 l hl)).trans (hO l _ ho)⟩
   ·exact ⟨_,hOv l _ _ _ ho⟩
  have core:∀ M:Nat->Prop,(∀ b,M b->τ1.N<=b\/∃ l∈grN O (.row r.E false::r.ps) (.vw l0::ps'),v7 (k8 s O acc.pub) l/\∃ p,c l=some p/\p.w=some b)->_:=fun M hM =>
   a2w ht hd hX p3 (fun l E xs fl e=>a9D ⟨fl,e⟩ ⟨fl,hO l _ e⟩) (fun l E xs e=>(hpubO (fun E' xs' e'=>by rw [e] at e'; cases e')).trans (hO l _ e)) hOv p4 p5 hOc hM (nb:=nb) ha hvs1 (fun _ h=>h) r2 hrv
  have fin:∀ (pls:List Pl),a4E P (fun b=>τ1.N<=b\/b∈ows pls) τ1 (.row r.E false::r.ps) a vs pls->At c acc.all pls->a26 c O acc.gv (X5 (.row r.E false::r.ps) vs)->(∀ l,some l∈acc.all->(∃ o:Ob I,O l=some (some o)/\a7G o=true)\/∃ T v,(l,T,v)∈acc.gv) ->
   (∀ x∈acc.gv,some x.1∈acc.all)->acc.gv.map (fun x=>x.2)=a3h (.row r.E false::r.ps)->a1m P r.f vs σ (Stp X.M σ) fun v τ=>∃ c',Cx.le c c'/\Rel X c' τ (apE s nb ⟨a5R ((pvT tb nb (r.rs++w3 r.ps) res).take r.rs.length),Z3 O acc.pub++a01 acc.all++a3c acc.gv ((pvT tb nb (r.rs++w3 r.ps) res).drop r.rs.length)++[(l0,some (.row r.E ys false))],obT (r.rs++w3 r.ps) res⟩) n F /\
     RV X c' τ (a5R ((pvT tb nb (r.rs++w3 r.ps) res).take r.rs.length)) v:=by
   intro pls k1 k2 k3 k4 k5 k6
   have hgv:∀ x∈acc.gv,∃ ls,O x.1=some (some (.var x.2.1 ls true)):=by
    have:∀ {gv:List (Nat×TypeId×V)} {bs:List Nat},a26 c O gv bs->∀ x∈gv,∃ ls,O x.1=some (some (.var x.2.1 ls true)):=by
     intro gv
     induction gv with
     | nil=>intro bs _ x hx; cases hx
     | cons y r ih =>
       intro bs ⟨b,bs',ls,_,e2,_,e4⟩ x hx
       rcases List.mem_cons.1 hx with rfl | hx
       ·exact ⟨ls,e2⟩
       ·exact ih e4 x hx
    exact this k3
   have hlive:∀ l,some l∈acc.all->v7 (k8 s O acc.pub) l:=fun l hl=>hlv l hl ((k4 l hl).imp id fun ⟨T,v,hm⟩=>by
    obtain ⟨ls,e⟩:=hgv _ hm
    exact ⟨T,ls,e⟩)
   have hnd:(ows pls).Nodup:=At.nodup p3 k2 r1 hlive
   have hown:∀ g∈ows pls,∃ l p,some l∈acc.all/\c l=some p/\p.w=some g:=k2.mem
   have hownM:∀ g∈ows pls,X.M g:=fun g hg=>by
    obtain ⟨l,p,a1,a2,a3⟩:=hown g hg
    exact p3.mine l p g (hlive l a1) a2 a3
   refine a1m.mono (hr τ1 a.1 a.2 vs pls res ys k1 hnd hres) p1.symm fun v τ hst ⟨ws,us,pls',hpost,A0,kk0,ow0,z1,z2,z3,z4⟩=>⟨τ,rfl,p2.trans (hst.mono fun b _ hb=>hownM b hb),?_⟩
   let kl:=acc.all.filterMap id
   have hkl:∀ l,l∈kl↔some l∈acc.all:=fun l=>by simp [kl,List.mem_filterMap]
   let s2:St I:=⟨s.n,s.F,w7 kl (k8 s O acc.pub).O,s.nx⟩
   have h2:Rel X c τ1 s2 n F:=p3.less (fun l o ho=>(w5 ho).2) (fun l ho=>a0P.1 ho)
   have hn2:∀ l p g,v7 s2 l->c l=some p->p.w=some g->¬ g∈ows pls:=fun l p g ⟨o,ho⟩ hc hw hg=>by
    obtain ⟨m1,m2⟩:=w5 ho
    obtain ⟨l',p',a1,a2,a3⟩:=hown g hg
    exact m1 ((hkl l).2 (by rw [p3.inj l l' p p' g ⟨o,m2⟩ (hlive l' a1) hc a2 hw a3]; exact a1))
   have hi2:∀ g,g∈ows pls->notIn c τ1 s2 g:=fun g hg=>by
    obtain ⟨l',p',a1,a2,a3⟩:=hown g hg
    exact (p3.owned (hlive l' a1) a2 a3).sub fun l E E' u xs q e=>(w5 e).2
   have h3:Rel X c τ s2 n F:=h2.stepG hst hownM hn2 hi2
   have hOpub:apU s.O (Z3 O acc.pub++a01 acc.all)=w7 kl (k8 s O acc.pub).O:=by
    rw [a1q]
    funext l
    exact a84 fun l hl=>by obtain ⟨o,ho⟩:=hlive l hl; intro e; have:=ho; rw [show (k8 s O acc.pub).O l=apU s.O (Z3 O acc.pub) l from rfl,e] at this; cases this
   have hgvO:∀ x∈acc.gv,∃ ls,(k8 s O acc.pub).O x.1=some (some (.var x.2.1 ls true)):=fun x hx=>by
    obtain ⟨ls,e⟩:=hgv x hx
    exact ⟨ls,hOv _ _ _ _ e⟩
   have hfree2:∀ l∈rng nb (obT (r.rs++w3 r.ps) res).length,w7 kl (k8 s O acc.pub).O l=none/\l ∉ acc.gv.map (·.1):=by
    rw [a0k] at hfree
    intro l hl
    have h0:=hfree l hl
    rw [a1q,hOpub] at h0
    by_cases hk:l∈W1 (a3c acc.gv ((pvT tb nb (r.rs++w3 r.ps) res).drop r.rs.length))
    ·exact absurd h0 (a8s (O':=s.O) hk).2
    ·rw [a1p hk] at h0
     refine ⟨h0,fun hm=>?_⟩
     simp only [List.mem_map] at hm
     obtain ⟨x,hx,e⟩:=hm
     have:=(hkl x.1).2 (k5 x hx)
     rw [e] at this
     have hl2:=hlive l ((hkl l).1 this)
     obtain ⟨o,ho⟩:=hl2
     have:=a0P.1 h0
     rw [ho] at this; cases this
   have htt:TT τ (r.rs++w3 r.ps) res (ws++us) pls':=hpost.tt
   have hob:=a4I htt
   obtain ⟨h4,h5⟩:=Rel.addN (nb:=nb) h3 (a0k.2 fun l hl=>(hfree2 l hl).1) hob hpost.nodup fun g hg=>by
    have ho:=hpost.own g hg
    refine ⟨ho.1.elim (fun h=>.inl (Nat.le_trans p3.base h)) (hownM g),(ho.1.elim (fun h=>h2.fresh h) (hi2 g)).step h2 hst hn2 hi2,fun l p ⟨o,ho'⟩ hc hw=>?_⟩
    obtain ⟨m1,m2⟩:=w5 ho'
    rcases ho.1 with hge | hin
    ·have:=(p3.objs l o m2).lt hc hw
     have:τ1.w.heap.size<=g:=hge
     omega
    ·obtain ⟨l',p',a1,a2,a3⟩:=hown g hin
     exact m1 ((hkl l).2 (by rw [p3.inj l l' p p' g ⟨o,m2⟩ (hlive l' a1) hc a2 hw a3]; exact a1))
   obtain ⟨hps,hlen⟩:=a8l (X:=X) (c:=Q9 c nb pls') (nb:=nb) ht hpost.tt a0l
   have htk:=RVs.take r.rs.length _ _ hps
   have hdr:=RVs.drop r.rs.length _ _ hps
   rw [List.take_left' hpost.len] at htk
   rw [List.drop_left' hpost.len] at hdr
   have hold:∀ l,(k8 s O acc.pub).O l≠none->Q9 c nb pls' l=c l:=fun l hl=>by
    have key:∀ {ps:List Pl} {c:Cx} {nb:Nat},(l<nb\/nb+ps.length<=l)->Q9 c nb ps l=c l:=by
     intro ps
     induction ps with
     | nil=>intro c nb _; rfl
     | cons p ps ih =>
       intro c nb h
       simp only [Q9]
       rw [ih (by simp only [List.length_cons] at h; omega)]
       have:l≠nb:=by simp only [List.length_cons] at h; omega
       simp [K1,this]
    apply key
    apply Classical.byContradiction
    intro hn
    rw [not_or] at hn
    exact hl (a0P.1 (hfree2 l (a0w.2 ⟨by omega,by rw [hob.1]; omega⟩)).1)
   have hvarb:∀ {gv:List (Nat×TypeId×V)} {bs:List Nat},a26 c O gv bs->∀ x∈gv,∀ p g,c x.1=some p->p.w=some g->g∈bs:=by
    intro gv
    induction gv with
    | nil=>intro bs _ x hx; cases hx
    | cons y r ih =>
      intro bs ⟨b,bs',ls,e1,e2,e3,e4⟩ x hx p g hc hw
      subst e1
      rcases List.mem_cons.1 hx with rfl | hx
      ·rw [e3] at hc; cases hc; cases hw; simp
      ·simp [ih e4 x hx p g hc hw]
   have k6':acc.gv.map (fun x=>x.2)=a3h r.ps:=k6
   have hat:∀ (i:Nat) (y:Nat×V) (p:PV I),(acc.gv.map fun x=>(x.1,x.2.2))[i]?=some y->((pvT tb nb (r.rs++w3 r.ps) res).drop r.rs.length)[i]?=some p->∃ nb' z,p=pvV tb nb' y.2 z:=fun i y p hi hp=>by
    refine b3P (tb:=tb) (vs:=r.rs++w3 r.ps) (nb:=nb) (x:=res) (i:=r.rs.length+i) (v:=y.2) ?_ (by rw [List.getElem?_drop] at hp; exact hp)
    rw [List.getElem?_append_right (by simp),Nat.add_sub_cancel_left,<- a1Z,<- k6']
    rw [List.getElem?_map] at hi
    simp only [List.map_map,List.getElem?_map]
    cases hgi:acc.gv[i]? with
    | none=>rw [hgi] at hi; cases hi
    | some z=>rw [hgi] at hi; cases hi; rfl
   have h6:=Rel.asgW (pls:=pls') ht p3 h5 (a3s hpost.out k3 k6 hgvO) hdr (fun i y p hi hp hag=>by
    obtain ⟨nb',z,e⟩:=hat i y p hi hp
    rw [e]; exact b1o hag)
    (fun i y p hi hp hag=>by
      obtain ⟨nb',z,e⟩:=hat i y p hi hp
      rw [e]; exact b1g hag)
    (fun l hl=>hold l (by
      simp only [List.mem_map] at hl
      obtain ⟨x,hx,rfl⟩:=hl
      obtain ⟨ls,e⟩:=hgvO x hx
      rw [e]; simp))
    (fun l hl p g hc hw=>by
      simp only [List.mem_map] at hl
      obtain ⟨x,hx,rfl⟩:=hl
      exact p3.mine x.1 p g (hlive _ (k5 x hx)) hc hw)
    (fun l ⟨o,ho⟩=>by
      by_cases hm:l∈rng nb (obT (r.rs++w3 r.ps) res).length
      ·right
       obtain ⟨a1,a2⟩:=a0w.1 hm
       have hlt:l-nb<pls'.length:=by rw [<- hob.1]; omega
       refine ⟨pls'[l-nb],List.getElem_mem _,?_⟩
       have:=a0l (c:=c) (nb:=nb) (l-nb) pls'[l-nb] (List.getElem?_eq_getElem hlt)
       rw [show nb+(l-nb)=l from by omega] at this
       exact this
      ·left
       have ho':K6 (w7 kl (k8 s O acc.pub).O) nb (obT (r.rs++w3 r.ps) res) l=some (some o):=ho
       rw [K7 hm] at ho'
       obtain ⟨_,m2⟩:=w5 ho'
       exact ⟨⟨o,m2⟩,hold l (by rw [m2]; simp)⟩)
    (fun l hl p hc g hw hm=>by
      simp only [List.mem_map] at hl
      obtain ⟨x,hx,rfl⟩:=hl
      exact (hpost.own g hm).2 (hvarb k3 x hx p g hc hw))
    (fun l hl p hc g hw=>by
      simp only [List.mem_map] at hl
      obtain ⟨x,hx,rfl⟩:=hl
      obtain ⟨ls,e⟩:=hgvO x hx
      exact (((p3.owned ⟨_,e⟩ hc hw).sub (s':=s2) fun l E E' u xs q e=>(w5 e).2).step h2 hst hn2 hi2).grow h3 h4 (a2v hob.not))
   refine ⟨_,h4,?_,by rw [hpost.ret]; exact b4j htk⟩
   have hO2:K6 (apU s.O (Z3 O acc.pub++a01 acc.all++a3c acc.gv ((pvT tb nb (r.rs++w3 r.ps) res).drop r.rs.length))) nb (obT (r.rs++w3 r.ps) res) =
    asgW (k8 s O acc.pub).O (acc.gv.map fun x=>(x.1,x.2.2)) (acc.gv.map (·.1)) ((pvT tb nb (r.rs++w3 r.ps) res).drop r.rs.length) (K6 (w7 kl (k8 s O acc.pub).O) nb (obT (r.rs++w3 r.ps) res)):=by
    rw [a1q,hOpub]
    exact b2k fun x hx=>⟨hgvO x hx,fun hm=>(hfree2 x.1 hm).2 (List.mem_map.2 ⟨x,hx,rfl⟩)⟩
   have e:apE s nb ⟨a5R ((pvT tb nb (r.rs++w3 r.ps) res).take r.rs.length),Z3 O acc.pub++a01 acc.all++a3c acc.gv ((pvT tb nb (r.rs++w3 r.ps) res).drop r.rs.length)++[(l0,some (.row r.E ys false))],obT (r.rs++w3 r.ps) res⟩ =
    w6 ⟨s.n,s.F,asgW (k8 s O acc.pub).O (acc.gv.map fun x=>(x.1,x.2.2)) (acc.gv.map (·.1)) ((pvT tb nb (r.rs++w3 r.ps) res).drop r.rs.length) (K6 (w7 kl (k8 s O acc.pub).O) nb (obT (r.rs++w3 r.ps) res)),s.nx⟩ l0 (some (.row r.E ys false)):=by
    have e1:apU s.O (Z3 O acc.pub++a01 acc.all++a3c acc.gv ((pvT tb nb (r.rs++w3 r.ps) res).drop r.rs.length)++[(l0,some (.row r.E ys false))])=upF (apU s.O (Z3 O acc.pub++a01 acc.all++a3c acc.gv ((pvT tb nb (r.rs++w3 r.ps) res).drop r.rs.length))) l0 (some (.row r.E ys false)):=by rw [a1q]; rfl
    simp only [apE,e1,b6t hl0n,hO2,w6]
   rw [e]
   obtain ⟨a3n,hall⟩:=hrow0
   have hm0:some l0∈acc.all:=by rw [hall]; simp
   obtain ⟨pl0,pls0,e0,hc0,_⟩:=(by rw [hall] at k2; exact k2:At c (some l0::a3n) pls)
   have hc0:c l0=some pl0:=hc0
   rw [e0] at z1
   cases z1
   have hl0v:l0 ∉ acc.gv.map (·.1):=fun hm=>by
    simp only [List.mem_map] at hm
    obtain ⟨x,hx,e⟩:=hm
    obtain ⟨ls,e2⟩:=hgv x hx
    obtain ⟨E,xs,fl,e3⟩:=hO0
    rw [<- e,e2] at e3; cases e3
   obtain ⟨o0,hlive0⟩:=hlive l0 hm0
   have hdead:asgW (k8 s O acc.pub).O (acc.gv.map fun x=>(x.1,x.2.2)) (acc.gv.map (·.1)) ((pvT tb nb (r.rs++w3 r.ps) res).drop r.rs.length) (K6 (w7 kl (k8 s O acc.pub).O) nb (obT (r.rs++w3 r.ps) res)) l0=some none:=by
    rw [a6R hl0v,K7 hl0n]
    unfold w7
    rw [K2.2 ((hkl l0).2 hm0),hlive0]
    rfl
   have hc0':=(hold l0 (by rw [hlive0]; simp)).trans hc0
   refine h6.revive ⟨A0,kk0,ow0,by rw [z2]; exact hc0',z3⟩ fun p2 g hp2 hg=>?_
   rw [hc0'] at hp2
   cases hp2
   refine ⟨hownM g (by rw [e0]; simp only at hg; subst hg; simp [ows]),?_,fun l' p' _ ⟨o',ho'⟩ hc' hw'=>?_⟩
   ·have hn:=(((hi2 g (by rw [e0]; simp only at hg; subst hg; simp [ows])).step h2 hst hn2 hi2).grow h3 h4 (a2v hob.not):notIn (Q9 c nb pls') τ (addN s2 nb (obT (r.rs++w3 r.ps) res)) g)
    exact hn.sub fun l E E' u xs q e=>a9x (by simpa using e)
   have ho':asgW (k8 s O acc.pub).O (acc.gv.map fun x=>(x.1,x.2.2)) (acc.gv.map (·.1)) ((pvT tb nb (r.rs++w3 r.ps) res).drop r.rs.length) (K6 (w7 kl (k8 s O acc.pub).O) nb (obT (r.rs++w3 r.ps) res)) l'=some (some o'):=ho'
   by_cases hm:l'∈rng nb (obT (r.rs++w3 r.ps) res).length
   ·obtain ⟨a1,a2⟩:=a0w.1 hm
    have hlt:l'-nb<pls'.length:=by rw [<- hob.1]; omega
    have hn:=a0l (c:=c) (nb:=nb) (l'-nb) pls'[l'-nb] (List.getElem?_eq_getElem hlt)
    rw [show nb+(l'-nb)=l' from by omega,hc'] at hn
    cases hn
    exact z4 g hg (a8j.2 ⟨_,List.getElem_mem _,hw'⟩)
   ·have hlv':v7 (k8 s O acc.pub) l':=by
     by_cases hv:l'∈acc.gv.map (·.1)
     ·simp only [List.mem_map] at hv
      obtain ⟨x,hx,e⟩:=hv
      rw [<- e]
      exact hlive _ (k5 x hx)
     ·rw [a6R hv,K7 hm] at ho'
      exact ⟨_,(w5 ho').2⟩
    have hcc:c l'=some p':=by
     obtain ⟨o2,ho2⟩:=hlv'
     rw [<- hold l' (by rw [ho2]; simp)]; exact hc'
    have el:=p3.inj l' l0 p' _ g hlv' ⟨_,hlive0⟩ hcc hc0 hw' hg
    rw [el,hdead] at ho'
    cases ho'
  obtain ⟨pls0,k1,k2,k3,k4,k5,k6⟩:=core (fun _=>False) (fun _ h=>h.elim)
  obtain ⟨pls,k1',k2',_⟩:=core (fun b=>τ1.N<=b\/b∈ows pls0) (fun b hb=>hb.imp id fun hb=>by
   obtain ⟨l,p,a1,a2,a3⟩:=k2.mem b hb
   refine ⟨l,hgr l a1,hlv l a1 ((k4 l a1).imp id fun ⟨T,v,hm⟩=>?_),p,a2,a3⟩
   have:∀ {gv:List (Nat×TypeId×V)} {bs:List Nat},a26 c O gv bs->∀ x∈gv,∃ ls,O x.1=some (some (.var x.2.1 ls true)):=by
    intro gv
    induction gv with
    | nil=>intro bs _ x hx; cases hx
    | cons y r ih =>
      intro bs ⟨b,bs',ls,_,e2,_,e4⟩ x hx
      rcases List.mem_cons.1 hx with rfl | hx
      ·exact ⟨ls,e2⟩
      ·exact ih e4 x hx
   obtain ⟨ls,e⟩:=this k3 _ hm
   exact ⟨T,ls,e⟩)
  have hsame:ows pls=ows pls0:=by
   have:∀ {rows:List (Option Nat)} {p q:List Pl},At c rows p->At c rows q->ows p=ows q:=by
    intro rows
    induction rows with
    | nil=>intro p q h1 h2; cases h1; cases h2; rfl
    | cons x r ih =>
      intro p q ⟨a,c41,e1,g1,h1⟩ ⟨b,bs,e2,g2,h2⟩
      subst e1
      subst e2
      have hr:=ih h1 h2
      simp only [ows,List.filterMap_cons] at hr ⊢
      have:a.w=b.w:=by
       cases x with
       | none=>simp only at g1 g2; rw [g1,g2]
       | some l=>simp only at g1 g2; rw [g1] at g2; cases g2; rfl
      rw [this,hr]
   exact this k2' k2
  rw [<- hsame] at k1'
  exact fin pls k1' k2' k3 k4 k5 k6
end
end Go.Qx
end
section
namespace Go.Qx
open Go Go.RowKit Go.Sx
@[reducible] def c3i:Rp Unit where
 sz:=1
 pos:=by decide
 agg:=false
 cells:=fun _ _ _=>False
 len:=fun h=>h.elim
 one:=fun h=>h.elim
 mono:=fun _ h=>h
@[reducible] def rpK (k:IntKind):Rp Int:=rpIK k
@[reducible] def y4 {α β:Type} (a:Rp α) (b:Rp β):Rp (α×β) where
 sz:=a.sz+b.sz
 pos:=Nat.lt_of_lt_of_le a.pos (Nat.le_add_right _ _)
 agg:=true
 cells:=fun σ x cs=>∃ c1 c2,cs=c1++c2/\a.cells σ x.1 c1/\b.cells σ x.2 c2
 len:=fun ⟨_,_,e,h1,h2⟩=>by rw [e,List.length_append,a.len h1,b.len h2]
 one:=fun ⟨_,_,e,h1,h2⟩ v hv=>by
  rw [e,List.mem_append] at hv
  exact hv.elim (a.one h1 v) (b.one h2 v)
 mono:=fun k ⟨c1,c2,e,h1,h2⟩=>⟨c1,c2,e,a.mono k h1,b.mono k h2⟩
@[reducible] def a3O {γ α:Type} (to:γ->α) (a:Rp α):Rp γ where
 sz:=a.sz
 pos:=a.pos
 agg:=true
 cells:=fun σ x cs=>a.cells σ (to x) cs
 len:=fun h=>a.len h
 one:=fun h=>a.one h
 mono:=fun k h=>a.mono k h
structure TE where
 E:TypeId
 α:Type
 rp:Rp α
def b8a:List TE->TypeId->TE
 | [],_=>⟨0,Unit,c3i⟩
 | e::r,E=>bif Nat.beq e.E E then e else b8a r E
section
variable {I:TypeId->Type} [∀ E,Rp (I E)]
structure Fd (I:TypeId->Type) [∀ E,Rp (I E)] (α:Type)(rp:Rp α) where
 lf:α->List (PV I)
 pa:(ρ:Type)->List (PV I)->(α->List (PV I)->Option ρ)->Option ρ
 lf_ok:∀ (X:Cxt) (c:Cx) (σ:S) (x:α) (cs:List Value),rp.cells σ x cs->RG X c σ (lf x) cs
 pa_ok:∀ (ρ:Type) (ls:List (PV I)) (f:α->List (PV I)->Option ρ) (r:ρ),pa ρ ls f=some r->∃ x rest,f x rest=some r /\
  ∀ (X:Cxt) (c:Cx) (σ:S) (cs:List Value),RG X c σ ls cs->∃ c1 c2,cs=c1++c2/\rp.cells σ x c1/\RG X c σ rest c2
theorem RG.cons1 {X:Cxt}{c:Cx}{σ:S}{p:PV I}{r:List (PV I)}{cs:List Value}(h:RG X c σ (p::r) cs)(hp:a3w p=false):∃ v c2,cs=[v]++c2/\RV X c σ p v/\RG X c σ r c2:=by
 simp only [RG] at h
 obtain ⟨a,c2,e,h1 | ⟨_,v,e1,h1⟩,h2⟩:=h
 ·exact (by cases p<;>first | exact h1.elim | cases hp)
 ·exact ⟨v,c2,by rw [e,e1],h1,h2⟩
theorem RG.cns {X:Cxt}{c:Cx}{σ:S}{p:PV I}{ps:List (PV I)}{v:Value}{cs:List Value}(h0:a3w p=false)(h:RV X c σ p v)(k:RG X c σ ps cs):RG X c σ (p::ps) (v::cs):=by
 simp only [RG]
 exact ⟨[v],cs,rfl,.inr ⟨h0,v,rfl,h⟩,k⟩
theorem RG.nl {X:Cxt}{c:Cx}{σ:S}:RG X c σ ([]:List (PV I)) []:=by simp only [RG]
theorem a0v {X:Cxt}{c:Cx}{σ:S}{k:IntKind}{n:Int}:RV X c σ (.int k n:PV I) (.int k n):=by simp only [RV]
theorem a1Y {X:Cxt}{c:Cx}{σ:S}{b:Bool}:RV X c σ (.bool b:PV I) (.bool b):=by simp only [RV]
theorem b1d {X:Cxt}{c:Cx}{σ:S}{b:ByteArray}:RV X c σ (.str b:PV I) (.string b):=by simp only [RV]
theorem K0 {X:Cxt}{c:Cx}{σ:S}{E:TypeId}:RV X c σ (.nl E:PV I) (.slice none 0 0):=by simp only [RV]; exact ⟨none,rfl⟩
theorem c09 {X:Cxt}{c:Cx}{σ:S}{v:Value}:RV X c σ (.any:PV I) v:=by simp only [RV]
def a02 (k:IntKind):Fd I Int (rpK k) where
 lf:=fun n=>[.int k n]
 pa:=fun _ ls f=>match ls with
  | .int k' n::r=>if k'=k then f n r else none
  | _=>none
 lf_ok:=fun X c σ x cs h=>by
  have e:cs=[.int k x]:=h
  rw [e]
  exact RG.single rfl (by simp only [RV])
 pa_ok:=fun ρ ls f r h=>by
  split at h
  ·rename_i k' n rest
   obtain ⟨e,h2⟩:=V3 h
   clear h
   subst e
   refine ⟨n,rest,h2,fun X c σ cs hl=>?_⟩
   obtain ⟨v,c2,e,h1,h2⟩:=hl.cons1 rfl
   simp only [RV] at h1
   subst h1
   exact ⟨_,c2,e,rfl,h2⟩
  ·cases h
def a3d:Fd I Bool rpBool where
 lf:=fun n=>[.bool n]
 pa:=fun _ ls f=>match ls with
  | .bool n::r=>f n r
  | _=>none
 lf_ok:=fun X c σ x cs h=>by
  have e:cs=[.bool x]:=h
  rw [e]
  exact RG.single rfl (by simp only [RV])
 pa_ok:=fun ρ ls f r h=>by
  split at h
  ·rename_i n rest
   refine ⟨n,rest,h,fun X c σ cs hl=>?_⟩
   obtain ⟨v,c2,e,h1,h2⟩:=hl.cons1 rfl
   simp only [RV] at h1
   subst h1
   exact ⟨_,c2,e,rfl,h2⟩
  ·cases h
def b5u:Fd I ByteArray rpStr where
 lf:=fun n=>[.str n]
 pa:=fun _ ls f=>match ls with
  | .str n::r=>f n r
  | _=>none
 lf_ok:=fun X c σ x cs h=>by
  have e:cs=[.string x]:=h
  rw [e]
  exact RG.single rfl (by simp only [RV])
 pa_ok:=fun ρ ls f r h=>by
  split at h
  ·rename_i n rest
   refine ⟨n,rest,h,fun X c σ cs hl=>?_⟩
   obtain ⟨v,c2,e,h1,h2⟩:=hl.cons1 rfl
   simp only [RV] at h1
   subst h1
   exact ⟨_,c2,e,rfl,h2⟩
  ·cases h
def a0i (E:TypeId):Fd I (List (I E)) rpList where
 lf:=fun xs=>[.sl E xs false]
 pa:=fun _ ls f=>match ls with
  | .sl E' xs _::r=>Option.bind (a1F E E' xs) fun ys=>f ys r
  | .nl E'::r=>bif Nat.beq E' E then f [] r else none
  | _=>none
 lf_ok:=fun X c σ xs cs h=>by
  obtain ⟨A,k,e,hs⟩:∃ A k,cs=[.slice A (xs:List (I E)).length k]/\Sl σ xs A k:=h
  rw [e]
  refine RG.single rfl ?_
  simp only [RV]
  exact ⟨A,k,rfl,hs,fun e=>by cases e⟩
 pa_ok:=fun ρ ls f r h=>by
  split at h
  ·rename_i E' xs fl rest
   obtain ⟨ys,hy,h⟩:=bind_some h
   obtain ⟨e,rfl⟩:=X6 hy
   subst e
   refine ⟨xs,rest,h,fun X c σ cs hl=>?_⟩
   obtain ⟨v,c2,e,h1,h2⟩:=hl.cons1 rfl
   simp only [RV] at h1
   obtain ⟨A,k,e1,hs,_⟩:=h1
   exact ⟨[v],c2,e,⟨A,k,by rw [e1],hs⟩,h2⟩
  ·rename_i E' rest
   obtain ⟨_,h⟩:=y2 h
   refine ⟨[],rest,h,fun X c σ cs hl=>?_⟩
   obtain ⟨v,c2,e,h1,h2⟩:=hl.cons1 rfl
   simp only [RV] at h1
   obtain ⟨A,e1⟩:=h1
   exact ⟨[v],c2,e,⟨A,0,by rw [e1]; rfl,Sl.nil_ _ _ _ (Nat.zero_le _)⟩,h2⟩
  ·cases h
def a7u (E:TypeId)(fd:Fd I (I E) inferInstance):Fd I (I E) inferInstance where
 lf:=fun x=>[.dat E x]
 pa:=fun ρ ls f=>match ls with
  | .dat E' x::r=>Option.bind (a4D E E' x) fun y=>f y r
  | ls=>fd.pa ρ ls f
 lf_ok:=fun X c σ x cs h=>RG.one h
 pa_ok:=fun ρ ls f r h=>by
  split at h
  ·rename_i E' x rest
   obtain ⟨y,hy,h⟩:=bind_some h
   obtain ⟨e,rfl⟩:=a6U hy
   subst e
   refine ⟨x,rest,h,fun X c σ cs hl=>?_⟩
   simp only [RG] at hl
   obtain ⟨a,c2,e,h1 | ⟨h1,_⟩,h2⟩:=hl
   ·exact ⟨a,c2,e,h1,h2⟩
   ·cases h1
  ·exact fd.pa_ok ρ _ f r h
def Z6 {α β:Type}{ra:Rp α}{rb:Rp β}(a:Fd I α ra)(b:Fd I β rb):Fd I (α×β) (y4 ra rb) where
 lf:=fun x=>a.lf x.1++b.lf x.2
 pa:=fun ρ ls f=>a.pa ρ ls fun x r=>b.pa ρ r fun y r=>f (x,y) r
 lf_ok:=fun X c σ x cs ⟨c1,c2,e,h1,h2⟩=>by
  rw [e]
  exact RG.app _ _ _ _ (a.lf_ok X c σ _ _ h1) (b.lf_ok X c σ _ _ h2)
 pa_ok:=fun ρ ls f r h=>by
  obtain ⟨x,r1,h,k1⟩:=a.pa_ok ρ _ _ r h
  obtain ⟨y,r2,h,k2⟩:=b.pa_ok ρ _ _ r h
  refine ⟨(x,y),r2,h,fun X c σ cs hl=>?_⟩
  obtain ⟨c1,c2,e,h1,h2⟩:=k1 X c σ cs hl
  obtain ⟨c3,c4,e2,h3,h4⟩:=k2 X c σ c2 h2
  exact ⟨c1++c3,c4,by rw [e,e2,List.append_assoc],⟨c1,c3,rfl,h1,h3⟩,h4⟩
def a2x {γ α:Type}{rg:Rp γ}{ra:Rp α}(a:Fd I α ra)(to:γ->α)(of:α->γ)(h:∀ x,to (of x)=x)(hc:∀ σ x cs,rg.cells σ x cs↔ra.cells σ (to x) cs):Fd I γ rg where
 lf:=fun x=>a.lf (to x)
 pa:=fun ρ ls f=>a.pa ρ ls fun x r=>f (of x) r
 lf_ok:=fun X c σ x cs hx=>a.lf_ok X c σ _ _ ((hc σ x cs).1 hx)
 pa_ok:=fun ρ ls f r hr=>by
  obtain ⟨x,r1,hr,k1⟩:=a.pa_ok ρ _ _ r hr
  refine ⟨of x,r1,hr,fun X c σ cs hl=>?_⟩
  obtain ⟨c1,c2,e,h1,h2⟩:=k1 X c σ cs hl
  exact ⟨c1,c2,e,(hc σ _ _).2 (by rw [h]; exact h1),h2⟩
structure FE (I:TypeId->Type) [∀ E,Rp (I E)] where
 E:TypeId
 fd:Fd I (I E) inferInstance
def b74:List (FE I)->TypeId->Option (FE I)
 | [],_=>none
 | e::r,E=>bif Nat.beq e.E E then some e else b74 r E
def lfT (l:List (FE I))(E:TypeId)(x:I E):List (PV I):=match b74 l E with
 | some e=>if h:E=e.E then e.fd.lf (h▸x) else [.dat E x]
 | none=>[.dat E x]
def ofT (l:List (FE I))(E:TypeId)(ls:List (PV I)):Option (I E):=match b74 l E with
 | some e=>if h:e.E=E then e.fd.pa (I E) ls fun x r=>match r with
   | []=>some (h▸x)
   | _=>none else none
 | none=>none
def a3e {α:Type}(p:α->Prop):List α->Prop
 | []=>True
 | x::r=>p x/\a3e p r
omit [∀ E,Rp (I E)] in
theorem a3e.mem {α:Type}{p:α->Prop}:∀ {l:List α},a3e p l->∀ x∈l,p x
 | [],_,_,h=>by cases h
 | _::_,h,x,hx=>by
   rcases List.mem_cons.1 hx with rfl | hx
   ·exact h.1
   ·exact a3e.mem h.2 x hx
def asc {α:Type}:List (Nat×α)->Nat->Option α
 | [],_=>none
 | x::r,k=>bif Nat.beq x.1 k then some x.2 else asc r k
omit [∀ E,Rp (I E)] in
theorem W4 {α:Type}:∀ {l:List (Nat×α)} {k:Nat} {a:α},asc l k=some a->(k,a)∈l
 | [],_,_,h=>by cases h
 | x::r,k,a,h=>by
   simp only [asc] at h
   cases hk:Nat.beq x.1 k with
   | true =>
     rw [hk] at h
     cases h
     have:=Nat.eq_of_beq_eq_true hk
     subst this
     simp
   | false =>
     rw [hk] at h
     exact List.mem_cons_of_mem _ (W4 h)
structure TabL (I:TypeId->Type) [∀ E,Rp (I E)] where
 sz:List (TypeId×Nat)
 one:List (TypeId×Unit)
 fld:List (TypeId×List (Nat×TypeId))
 el:List (TypeId×TypeId)
 str:List (TypeId×Unit)
 bool:List (TypeId×Unit)
 ik:List (TypeId×IntKind)
 fe:List (FE I)
 inf:List (TypeId×Nat×Nat×List (PV I))
 st:List (TypeId×List (Nat×Nat))
 eq:List (TypeId×(List (PV I)->List (PV I)->Option Bool))
 arr:List (TypeId×(TypeId×Nat×Nat))
 fb:List (FuncId×Unit)
 nest:List (TypeId×(TypeId×Nat)):=[]
 mp:List (TypeId×Kd):=[]
def c1n (L:TabL I):Tab I where
 sz:=asc L.sz
 one:=fun T=>(asc L.one T).isSome
 off:=fun T f=>Option.bind (asc L.fld T) fun l=>Option.bind l[f]? fun x=>some x.1
 fty:=fun T f=>Option.bind (asc L.fld T) fun l=>Option.bind l[f]? fun x=>some x.2
 el:=asc L.el
 isStr:=fun T=>(asc L.str T).isSome
 isBool:=fun T=>(asc L.bool T).isSome
 ik:=asc L.ik
 lf:=lfT L.fe
 of:=ofT L.fe
 size:=fun T=>Option.bind (asc L.inf T) fun x=>some x.1
 bytes:=fun T=>Option.bind (asc L.inf T) fun x=>some x.2.1
 zero:=fun T=>Option.bind (asc L.inf T) fun x=>some x.2.2
 flds:=asc L.st
 eqF:=fun T a b=>Option.bind (asc L.eq T) fun f=>f a b
 arr:=asc L.arr
 mp:=asc L.mp
 fb:=fun f=>(asc L.fb f).isSome
 nest:=asc L.nest
def a6L (P:Program)(T:TypeId):Nat->List (Nat×TypeId)->Prop
 | _,[]=>True
 | i,x::r=>b1t P T i x.1/\(∃ fs fl,P.underlying T=some (.struct fs)/\fs[i]?=some fl/\fl.type=x.2)/\a6L P T (i+1) r
omit [∀ E,Rp (I E)] in
theorem a6L.at {P:Program}{T:TypeId}:∀ {l:List (Nat×TypeId)} {i j:Nat} {x:Nat×TypeId},a6L P T i l->l[j]?=some x->b1t P T (i+j) x.1/\(∃ fs fl,P.underlying T=some (.struct fs)/\fs[i+j]?=some fl/\fl.type=x.2)
 | [],_,_,_,_,h=>by simp at h
 | y::r,i,0,x,hf,h=>by simp at h; subst h; exact ⟨hf.1,hf.2.1⟩
 | y::r,i,j+1,x,hf,h=>by
   have:=a6L.at (i:=i+1) hf.2.2 (show r[j]?=some x by simpa using h)
   rwa [show i+1+j=i+(j+1) by omega] at this
def c3Z (P:Program)(T:TypeId)(sz by_:Nat)(ls:List (PV I)):Prop:=∃ z,Z7 P T z sz by_/\∀ X c σ,RG X c σ ls z.cells.toList
structure TabLOk (P:Program)(L:TabL I):Prop where
 sz:a3e (fun x=>b3F P x.1 x.2) L.sz
 one:a3e (fun x=>a0H P x.1) L.one
 fld:a3e (fun x=>a6L P x.1 0 x.2) L.fld
 el:a3e (fun x=>P.underlying x.1=some (.slice x.2)/\∃ z b,Z7 P x.2 z (Rp.sz (I x.2)) b/\z.cells.size=Rp.sz (I x.2)/\0<b) L.el
 str:a3e (fun x=>P.underlying x.1=some .string) L.str
 bool:a3e (fun x=>P.underlying x.1=some .bool) L.bool
 ik:a3e (fun x=>P.underlying x.1=some (.int x.2)) L.ik
 inf:a3e (fun x=>c3Z P x.1 x.2.1 x.2.2.1 x.2.2.2) L.inf
 st:a3e (fun x=>(∃ fs,P.underlying x.1=some (.struct fs)/\fs.toList.mapM (fun f=>(P.info? f.type).map fun i=>(f.offset,i.size))=some x.2) \/
  ∃ m e ie,P.underlying x.1=some (.array m e)/\P.info? e=some ie/\x.2=(List.range m).map fun j=>(j*ie.size,ie.size)) L.st
 eq:a3e (fun x=>∀ (X:Cxt) (c:Cx) (σ:S) (ls ms:List (PV I)) (r:Bool) (cs ds:List Value),x.2 ls ms=some r->RG X c σ ls cs->RG X c σ ms ds ->
  P.eqGuardType P.depth x.1=false/\∃ j,Nat.ble j 10000=true/\Sx.EqAt P j x.1 (.agg cs.toArray) (.agg ds.toArray) r) L.eq
 arr:a3e (fun x=>P.underlying x.1=some (.array x.2.2.1 x.2.1)/\(P.info? x.2.1).map (·.size)=some x.2.2.2) L.arr
 mp:a3e (fun x=>b5G I P x.1 x.2) L.mp:=by exact trivial
 fb:a3e (fun x=>a2l P x.1) L.fb
omit [∀ E,Rp (I E)] in
theorem c2E {P:Program}{T e:TypeId}{m k b:Nat}{z:Value}{pl:List (Nat×Nat)}(hu:P.underlying T=some (.array m e))(hi:Z7 P e z k b)(hp:pl=(List.range m).map fun j=>(j*k,k)) :
 ∃ m e ie,P.underlying T=some (.array m e)/\P.info? e=some ie/\pl=(List.range m).map fun j=>(j*ie.size,ie.size):=by
 obtain ⟨i,h1,h2,h3,h4⟩:=hi
 exact ⟨m,e,i,hu,h1,by rw [hp,h3]⟩
omit [∀ E,Rp (I E)] in
theorem a7A {α:Type}{o:Option α}(h:o.isSome=true):∃ a,o=some a:=Option.isSome_iff_exists.1 h
omit [∀ E,Rp (I E)] in
theorem Z7.inj {P:Program}{T:TypeId}{z z':Value}{a a' b b':Nat}(h:Z7 P T z a b)(k:Z7 P T z' a' b'):z=z'/\a=a'/\b=b':=by
 obtain ⟨i,h1,h2,h3,h4⟩:=h
 obtain ⟨j,k1,k2,k3,k4⟩:=k
 rw [h1] at k1
 cases k1
 rw [h2] at k2
 cases k2
 exact ⟨rfl,h3.symm.trans k3,h4.symm.trans k4⟩
theorem b0W {fe:List (FE I)}{X:Cxt}{c:Cx}{σ:S}{E:TypeId}{ls:List (PV I)}{x:I E}{cs:List Value}(hx:ofT fe E ls=some x)(hl:RG X c σ ls cs):Rp.cells σ x cs:=by
 unfold ofT at hx
 split at hx
 ·rename_i e he
  split at hx
  ·rename_i e1
   subst e1
   obtain ⟨y,rest,h1,h2⟩:=e.fd.pa_ok _ _ _ _ hx
   obtain ⟨c1,c2,e2,h3,h4⟩:=h2 X c σ cs hl
   split at h1
   ·cases h1
    simp only [RG] at h4
    rw [e2,h4,List.append_nil]
    exact h3
   ·cases h1
  ·cases hx
 ·cases hx
theorem c0A {P:Program}{L:TabL I}(h:TabLOk P L):TabOk P (c1n L) where
 sz:=fun T k hk=>h.sz.mem _ (W4 hk)
 one:=fun T hk=>by obtain ⟨a,ha⟩:=a7A hk; exact h.one.mem _ (W4 ha)
 off:=fun T f o hk=>by
  obtain ⟨l,hl,hk⟩:=bind_some hk
  obtain ⟨x,hx,hk⟩:=bind_some hk
  cases hk
  have:=(a6L.at (h.fld.mem _ (W4 hl)) hx).1
  rw [Nat.zero_add] at this
  exact this
 fty:=fun T f o hk=>by
  obtain ⟨l,hl,hk⟩:=bind_some hk
  obtain ⟨x,hx,hk⟩:=bind_some hk
  cases hk
  have:=(a6L.at (h.fld.mem _ (W4 hl)) hx).2
  rw [Nat.zero_add] at this
  exact this
 el:=fun T E hk=>by
  obtain ⟨h1,z,b,⟨i,e1,e2,e3,e4⟩,_⟩:=h.el.mem _ (W4 hk)
  exact ⟨h1,by rw [e1]; simp only [Option.map_some]; rw [e3]⟩
 isStr:=fun T hk=>by obtain ⟨a,ha⟩:=a7A hk; exact h.str.mem _ (W4 ha)
 isBool:=fun T hk=>by obtain ⟨a,ha⟩:=a7A hk; exact h.bool.mem _ (W4 ha)
 ik:=fun T k hk=>h.ik.mem _ (W4 hk)
 lf:=fun X c σ E x cs hx=>by
  show RG X c σ (lfT L.fe E x) cs
  unfold lfT
  split
  ·rename_i e he
   split
   ·rename_i e1
    subst e1
    exact e.fd.lf_ok X c σ x cs hx
   ·exact RG.one hx
  ·exact RG.one hx
 of:=fun _ _ _ _ _ _ _ hx hl=>b0W hx hl
 size:=fun T k hk=>by
  obtain ⟨x,hx,hk⟩:=bind_some hk
  cases hk
  obtain ⟨z,⟨i,e1,e2,e3,e4⟩,_⟩:=h.inf.mem _ (W4 hx)
  rw [e1,Option.map_some,e3]
 slice:=fun T E b hT hb=>by
  obtain ⟨x,hx,hk⟩:=bind_some hb
  cases hk
  obtain ⟨z,h1,_⟩:=h.inf.mem _ (W4 hx)
  obtain ⟨h2,z',b',h3,h4,h5⟩:=h.el.mem _ (W4 hT)
  obtain ⟨rfl,e1,e2⟩:=Z7.inj h1 h3
  simp only at e1 e2 h1
  refine ⟨z,h2,?_,h4,Rp.pos,?_⟩
  ·rw [<- e1]; exact h1
  ·rw [e2]; exact h5
 zero:=fun T ls hk=>by
  obtain ⟨x,hx,hk⟩:=bind_some hk
  cases hk
  obtain ⟨z,h1,h2⟩:=h.inf.mem _ (W4 hx)
  exact ⟨z,_,_,_,h1,rfl,h2⟩
 flds:=fun T pl ls hp hz=>by
  obtain ⟨x,hx,hk⟩:=bind_some hz
  cases hk
  obtain ⟨z,⟨i,e1,e2,e3,e4⟩,h2⟩:=h.inf.mem _ (W4 hx)
  rcases h.st.mem _ (W4 hp) with ⟨fs,h3,h4⟩ | ⟨m,e,ie,h3,h4,h5⟩
  ·exact ⟨z.cells.toList,.inl ⟨fs,i,z,h3,e1,e2,by simp,h4⟩,h2⟩
  ·exact ⟨z.cells.toList,.inr ⟨m,e,ie,i,z,h3,h4,e1,e2,by simp,h5⟩,h2⟩
 eqF:=fun X c σ T ls ms r cs ds hk h1 h2=>by
  obtain ⟨f,hf,hk⟩:=bind_some hk
  exact h.eq.mem _ (W4 hf) X c σ ls ms r cs ds hk h1 h2
 arr:=fun T E m k hk=>h.arr.mem _ (W4 hk)
 mp:=fun T kd hk=>h.mp.mem _ (W4 hk)
 fb:=fun f hk=>by obtain ⟨a,ha⟩:=a7A hk; exact h.fb.mem _ (W4 ha)
def b7Y (P:Program)(k:Nat)(e:TypeId)(c:Nat)(xs ys:Array Value)(l:List Nat)(r:Bool):Prop:=∀ d w,(Op.eqItems (d+k) e c xs ys l).run P w=.ok r w
omit [∀ E,Rp (I E)] in
theorem c03 {P:Program}{k:Nat}{e:TypeId}{c:Nat}{xs ys:Array Value}:b7Y P k e c xs ys [] true:=fun d w=>by simp [Op.eqItems]
omit [∀ E,Rp (I E)] in
theorem b4U {P:Program}{k:Nat}{e:TypeId}{c i:Nat}{xs ys:Array Value}{is:List Nat}{a b:Value}{r1 r2:Bool}(ha:∀ w,(part e xs (i*c)).run P w=.ok a w)(hb:∀ w,(part e ys (i*c)).run P w=.ok b w)
 (h1:Sx.EqAt P k e a b r1) (h2:b7Y P k e c xs ys is r2):b7Y P k e c xs ys (i::is) (r1&&r2):=fun d w=>by
 simp only [Op.eqItems,Sem.run_bind,ha,hb,Result.andThen_ok,h1 d w]
 cases r1
 ·simp
 ·simpa using h2 d w
omit [∀ E,Rp (I E)] in
theorem c0I {P:Program}{k m b K:Nat}{T e:TypeId}{z:Value}{xs ys:Array Value}{r:Bool}(hu:P.underlying T=some (.array m e))(hi:Z7 P e z k b)(h:b7Y P K e k xs ys (List.range m) r):Sx.EqAt P (K+1) T (.agg xs) (.agg ys) r:=fun d w=>by
 obtain ⟨i,h1,h2,h3,h4⟩:=hi
 have:=run_equalIn_array (P:=P) (w:=w) (d+K) xs ys hu h1
 rw [<- Nat.add_assoc,this]
 have hc:P.cellsOf e=k:=by simp [Program.cellsOf,h1,h3]
 rw [hc]
 exact h d w
def b6L (fe:List (FE I))(T:TypeId)(g:I T->I T->Bool):List (PV I)->List (PV I)->Option Bool:=fun ls ms =>
 match ls,ms with
 | [.dat E x],[.dat E' y]=>Option.bind (a4D T E x) fun x=>Option.bind (a4D T E' y) fun y=>some (g x y)
 | [.dat E x],ms=>Option.bind (a4D T E x) fun x=>Option.bind (ofT fe T ms) fun y=>some (g x y)
 | ls,[.dat E' y]=>Option.bind (ofT fe T ls) fun x=>Option.bind (a4D T E' y) fun y=>some (g x y)
 | ls,ms=>Option.bind (ofT fe T ls) fun x=>Option.bind (ofT fe T ms) fun y=>some (g x y)
theorem b3m {X:Cxt}{c:Cx}{σ:S}{T E:TypeId}{x:I E}{y:I T}{cs:List Value}(h:a4D T E x=some y)(hl:RG X c σ [.dat E x] cs):Rp.cells σ y cs:=by
 obtain ⟨e,rfl⟩:=a6U h
 subst e
 simp only [RG] at hl
 obtain ⟨a,r,e,h1 | ⟨h0,_⟩,h2⟩:=hl
 ·subst h2
  rw [e,List.append_nil]
  exact h1
 ·cases h0
theorem c1V {fe:List (FE I)}{T:TypeId}{g:I T->I T->Bool}{X:Cxt}{c:Cx}{σ:S}{ls ms:List (PV I)}{r:Bool}{cs ds:List Value}(h:b6L fe T g ls ms=some r)(hl:RG X c σ ls cs)(hm:RG X c σ ms ds) :
 ∃ x y,Rp.cells σ x cs/\Rp.cells σ y ds/\g x y=r:=by
 unfold b6L at h
 split at h
 ·obtain ⟨x,hx,h⟩:=bind_some h
  obtain ⟨y,hy,h⟩:=bind_some h
  exact ⟨x,y,b3m hx hl,b3m hy hm,Option.some.inj h⟩
 ·obtain ⟨x,hx,h⟩:=bind_some h
  obtain ⟨y,hy,h⟩:=bind_some h
  exact ⟨x,y,b3m hx hl,b0W hy hm,Option.some.inj h⟩
 ·obtain ⟨x,hx,h⟩:=bind_some h
  obtain ⟨y,hy,h⟩:=bind_some h
  exact ⟨x,y,b0W hx hl,b3m hy hm,Option.some.inj h⟩
 ·obtain ⟨x,hx,h⟩:=bind_some h
  obtain ⟨y,hy,h⟩:=bind_some h
  exact ⟨x,y,b0W hx hl,b0W hy hm,Option.some.inj h⟩
omit [∀ E,Rp (I E)] in
theorem W5 [∀ E,Rp (I E)] {P:Program}{r:Row I}(h:r.run=b2N r.ps fun _=>none):j7 P r:=by
 intro σ a vs pls res hA hnd happ
 rw [h] at happ
 have:∀ (ps:List Pk) (R:Type) (a:a0X I ps),a7N ps (b2N ps fun _=>(none:Option R)) a=none:=by
  intro ps R a
  induction ps with
  | nil=>rfl
  | cons p r ih=>exact ih a.2
 rw [this] at happ
 cases happ
def b6q (f:Func):Code:=match f.body with
 | some c=>c
 | none=>.skip
inductive BE where
 | slot (t:Nat)
 | fld (T:TypeId) (f:Nat) (e:BE)
 | ld (T:TypeId) (e:BE)
 | len (e:BE)
 | cst (n:Int)
def bev (tb:Tab I)(s:St I):BE->Option (PV I)
 | .slot t=>s.F t
 | .fld T f e=>Option.bind (bev tb s e) fun p=>Option.bind (tb.off T f) fun d=>match p with
   | .ptr l o=>some (.ptr l (o+d))
   | .ep E x o=>some (.ep E x (o+d))
   | _=>none
 | .ld T e=>Option.bind (bev tb s e) fun p=>match p with
   | .ptr l o=>match s.O l with
     | some (some (.var _ ls _))=>a3r tb T ls o
     | _=>none
   | .ep E x o=>a3r tb T [.dat E x] o
   | _=>none
 | .len e=>Option.bind (bev tb s e) fun p=>match p with
   | .sl _ xs _=>some (.int .i64 (xs.length:Int))
   | .nl _=>some (.int .i64 0)
   | .str t=>some (.int .i64 (t.size:Int))
   | .vw l=>match s.O l with
     | some (some (.row _ xs _))=>some (.int .i64 (xs.length:Int))
     | some (some (.ro _ xs))=>some (.int .i64 (xs.length:Int))
     | some (some (.bo _ xs))=>some (.int .i64 (xs.length:Int))
     | _=>none
   | .vs l _ lo=>match s.O l with
     | some (some (.row _ xs _))=>some (.int .i64 ((xs.drop lo).length:Int))
     | _=>none
   | _=>none
 | .cst n=>some (.int .i64 n)
def bnd (tb:Tab I)(e:BE)(k:Nat)(s:St I):Option Nat:=match bev tb s e with
 | some (.int _ n)=>some (n.toNat+k)
 | _=>none
end
end Go.Qx
end
section
namespace Go.Sx
open Go Go.RowKit
structure Key where
 Kind:Int
 Text:ByteArray
mutual
inductive Val where
 | mk (Kind:Int) (Int_:Int) (Text:ByteArray) (Kids:List Val) (Keys:List Key) (Entries:List Ent) (Labels:List ByteArray)
inductive Ent where
 | mk (Args:List Val) (Fails:Bool) (Result:Val)
end
namespace Val
def Kind:Val->Int | mk a _ _ _ _ _ _=>a
def Int_:Val->Int | mk _ a _ _ _ _ _=>a
def Text:Val->ByteArray | mk _ _ a _ _ _ _=>a
def Kids:Val->List Val | mk _ _ _ a _ _ _=>a
def Keys:Val->List Key | mk _ _ _ _ a _ _=>a
def Entries:Val->List Ent | mk _ _ _ _ _ a _=>a
def Labels:Val->List ByteArray | mk _ _ _ _ _ _ a=>a
end Val
namespace Ent
def Args:Ent->List Val | mk a _ _=>a
def Fails:Ent->Bool | mk _ a _=>a
def Result:Ent->Val | mk _ _ a=>a
end Ent
instance rpKey:Rp Key where
 sz:=2
 pos:=by decide
 agg:=true
 cells:=fun _ k cs=>cs=[.int .i64 k.Kind,.string k.Text]
 len:=fun h=>by rw [h]; rfl
 one:=fun h v hv=>by rw [h] at hv; simp at hv; rcases hv with rfl | rfl<;>rfl
 mono:=fun _ h=>h
def SlC (σ:S)(len:Nat)(A:Option Addr)(c:Nat)(cs:List Value):Prop:=len<=c/\c<=maxLen/\(0<len->∃ b o,A=some ⟨b,o,none⟩/\a1e σ b o cs)
mutual
def RV (σ:S):Val->List Value->Prop
 | .mk k n t kids keys ents labs,cs=>∃ A1 c1 A2 c2 A3 c3 A4 c4 f1 f3,
    cs=[.int .i64 k,.int .i64 n,.string t,.slice A1 kids.length c1,.slice A2 keys.length c2,.slice A3 ents.length c3,.slice A4 labs.length c4] /\
    SlC σ kids.length A1 c1 f1/\RVs σ kids f1/\Sl σ keys A2 c2/\SlC σ ents.length A3 c3 f3/\REs σ ents f3/\Sl σ labs A4 c4
def RVs (σ:S):List Val->List Value->Prop
 | [],cs=>cs=[]
 | x::xs,cs=>∃ c r,cs=c++r/\RV σ x c/\RVs σ xs r
def RE (σ:S):Ent->List Value->Prop
 | .mk args fails res,cs=>∃ A c f r,cs=.slice A args.length c::.bool fails::r/\SlC σ args.length A c f/\RVs σ args f/\RV σ res r
def REs (σ:S):List Ent->List Value->Prop
 | [],cs=>cs=[]
 | x::xs,cs=>∃ c r,cs=c++r/\RE σ x c/\REs σ xs r
end
theorem RV.len {σ:S}:∀ {v:Val} {cs:List Value},RV σ v cs->cs.length=7
 | .mk ..,cs,h=>by simp only [RV] at h; obtain ⟨_,_,_,_,_,_,_,_,_,_,rfl,_⟩:=h; rfl
theorem RV.one {σ:S}:∀ {v:Val} {cs:List Value},RV σ v cs->∀ u∈cs,u.oneCell'=true
 | .mk ..,cs,h=>by
   simp only [RV] at h
   obtain ⟨_,_,_,_,_,_,_,_,_,_,rfl,_⟩:=h
   intro u hu
   simp at hu
   rcases hu with rfl | rfl | rfl | rfl | rfl | rfl | rfl<;>rfl
theorem RE.len {σ:S}:∀ {v:Ent} {cs:List Value},RE σ v cs->cs.length=9
 | .mk ..,cs,h=>by simp only [RE] at h; obtain ⟨_,_,_,r,rfl,_,_,h4⟩:=h; simp [h4.len]
theorem RE.one {σ:S}:∀ {v:Ent} {cs:List Value},RE σ v cs->∀ u∈cs,u.oneCell'=true
 | .mk ..,cs,h=>by
   simp only [RE] at h
   obtain ⟨_,_,_,r,rfl,_,_,h4⟩:=h
   intro u hu
   simp only [List.mem_cons] at hu
   rcases hu with rfl | rfl | hu
   ·rfl
   ·rfl
   ·exact h4.one u hu
theorem SlC.mono {σ τ:S}{len:Nat}{A:Option Addr}{c:Nat}{cs:List Value}(h:SlC σ len A c cs)(k:Wext σ τ)(hn:0<len->cs≠[]):SlC τ len A c cs :=
 ⟨h.1,h.2.1,fun hl=>by obtain ⟨b,o,e,hs⟩:=h.2.2 hl; exact ⟨b,o,e,hs.mono (hn hl) k⟩⟩
theorem RVs.ne {σ:S}:∀ {xs:List Val} {cs:List Value},RVs σ xs cs->0<xs.length->cs≠[]
 | [],_,_,h=>by simp at h
 | x::xs,cs,h,_=>by
   simp only [RVs] at h
   obtain ⟨c,r,rfl,h1,_⟩:=h
   intro e
   have:=h1.len
   rw [List.append_eq_nil_iff] at e
   rw [e.1] at this
   simp at this
theorem REs.ne {σ:S}:∀ {xs:List Ent} {cs:List Value},REs σ xs cs->0<xs.length->cs≠[]
 | [],_,_,h=>by simp at h
 | x::xs,cs,h,_=>by
   simp only [REs] at h
   obtain ⟨c,r,rfl,h1,_⟩:=h
   intro e
   have:=h1.len
   rw [List.append_eq_nil_iff] at e
   rw [e.1] at this
   simp at this
mutual
theorem RV.mono {σ τ:S}(k:Wext σ τ):∀ {v:Val} {cs:List Value},RV σ v cs->RV τ v cs
 | .mk ..,cs,h=>by
   simp only [RV] at h ⊢
   obtain ⟨A1,c1,A2,c2,A3,c3,A4,c4,f1,f3,e,h1,h2,h3,h4,h5,h6⟩:=h
   exact ⟨A1,c1,A2,c2,A3,c3,A4,c4,f1,f3,e,h1.mono k h2.ne,RVs.mono k h2,h3.mono k,h4.mono k h5.ne,REs.mono k h5,h6.mono k⟩
theorem RVs.mono {σ τ:S}(k:Wext σ τ):∀ {v:List Val} {cs:List Value},RVs σ v cs->RVs τ v cs
 | [],cs,h=>by simp only [RVs] at h ⊢; exact h
 | x::xs,cs,h=>by
   simp only [RVs] at h ⊢
   obtain ⟨c,r,e,h1,h2⟩:=h
   exact ⟨c,r,e,RV.mono k h1,RVs.mono k h2⟩
theorem RE.mono {σ τ:S}(k:Wext σ τ):∀ {v:Ent} {cs:List Value},RE σ v cs->RE τ v cs
 | .mk ..,cs,h=>by
   simp only [RE] at h ⊢
   obtain ⟨A,c,f,r,e,h1,h2,h3⟩:=h
   exact ⟨A,c,f,r,e,h1.mono k h2.ne,RVs.mono k h2,RV.mono k h3⟩
theorem REs.mono {σ τ:S}(k:Wext σ τ):∀ {v:List Ent} {cs:List Value},REs σ v cs->REs τ v cs
 | [],cs,h=>by simp only [REs] at h ⊢; exact h
 | x::xs,cs,h=>by
   simp only [REs] at h ⊢
   obtain ⟨c,r,e,h1,h2⟩:=h
   exact ⟨c,r,e,RE.mono k h1,REs.mono k h2⟩
end
instance rpVal:Rp Val where
 sz:=7
 pos:=by decide
 agg:=true
 cells:=fun σ v cs=>RV σ v cs
 len:=RV.len
 one:=RV.one
 mono:=fun k h=>RV.mono k h
instance rpEnt:Rp Ent where
 sz:=9
 pos:=by decide
 agg:=true
 cells:=fun σ v cs=>RE σ v cs
 len:=RE.len
 one:=RE.one
 mono:=fun k h=>RE.mono k h
theorem RVs.flat {σ:S}:∀ {xs:List Val} {cs:List Value},RVs σ xs cs↔Y9 σ xs cs
 | [],cs=>by simp only [RVs,Y9]
 | x::xs,cs=>by
   simp only [RVs,Y9]
   constructor
   ·rintro ⟨c,r,e,h1,h2⟩; exact ⟨c,r,e,h1,RVs.flat.1 h2⟩
   ·rintro ⟨c,r,e,h1,h2⟩; exact ⟨c,r,e,h1,RVs.flat.2 h2⟩
theorem REs.flat {σ:S}:∀ {xs:List Ent} {cs:List Value},REs σ xs cs↔Y9 σ xs cs
 | [],cs=>by simp only [REs,Y9]
 | x::xs,cs=>by
   simp only [REs,Y9]
   constructor
   ·rintro ⟨c,r,e,h1,h2⟩; exact ⟨c,r,e,h1,REs.flat.1 h2⟩
   ·rintro ⟨c,r,e,h1,h2⟩; exact ⟨c,r,e,h1,REs.flat.2 h2⟩
theorem SlC.sl {α:Type} [Rp α] {σ:S}{xs:List α}{A:Option Addr}{c:Nat}{cs:List Value}(h:SlC σ xs.length A c cs)(hf:Y9 σ xs cs):Sl σ xs A c :=
 ⟨h.1,h.2.1,cs,hf,fun hn=>h.2.2 (List.length_pos_iff.2 hn)⟩
theorem SlC.of {α:Type} [Rp α] {σ:S}{xs:List α}{A:Option Addr}{c:Nat}(h:Sl σ xs A c):∃ cs,SlC σ xs.length A c cs/\Y9 σ xs cs:=by
 obtain ⟨h1,h2,cs,h3,h4⟩:=h
 exact ⟨cs,⟨h1,h2,fun hl=>h4 (List.length_pos_iff.1 hl)⟩,h3⟩
theorem Val.cells_iff {σ:S}{v:Val}{cs:List Value}:Rp.cells σ v cs↔∃ A1 c1 A2 c2 A3 c3 A4 c4,
 cs=[.int .i64 v.Kind,.int .i64 v.Int_,.string v.Text,.slice A1 v.Kids.length c1,.slice A2 v.Keys.length c2,.slice A3 v.Entries.length c3,.slice A4 v.Labels.length c4] /\
 Sl σ v.Kids A1 c1/\Sl σ v.Keys A2 c2/\Sl σ v.Entries A3 c3/\Sl σ v.Labels A4 c4:=by
 cases v with
 | mk k n t kids keys ents labs =>
   show RV σ _ cs↔_
   simp only [RV,Val.Kind,Val.Int_,Val.Text,Val.Kids,Val.Keys,Val.Entries,Val.Labels]
   constructor
   ·rintro ⟨A1,c1,A2,c2,A3,c3,A4,c4,f1,f3,e,h1,h2,h3,h4,h5,h6⟩
    exact ⟨A1,c1,A2,c2,A3,c3,A4,c4,e,h1.sl (RVs.flat.1 h2),h3,h4.sl (REs.flat.1 h5),h6⟩
   ·rintro ⟨A1,c1,A2,c2,A3,c3,A4,c4,e,h1,h3,h4,h6⟩
    obtain ⟨f1,k1,k2⟩:=SlC.of h1
    obtain ⟨f3,k4,k5⟩:=SlC.of h4
    exact ⟨A1,c1,A2,c2,A3,c3,A4,c4,f1,f3,e,k1,RVs.flat.2 k2,h3,k4,REs.flat.2 k5,h6⟩
theorem Ent.cells_iff {σ:S}{v:Ent}{cs:List Value}:Rp.cells σ v cs↔∃ A c A1 c1 A2 c2 A3 c3 A4 c4,
 cs=[.slice A v.Args.length c,.bool v.Fails,.int .i64 v.Result.Kind,.int .i64 v.Result.Int_,.string v.Result.Text,.slice A1 v.Result.Kids.length c1,.slice A2 v.Result.Keys.length c2,.slice A3 v.Result.Entries.length c3,.slice A4 v.Result.Labels.length c4] /\
 Sl σ v.Args A c/\Sl σ v.Result.Kids A1 c1/\Sl σ v.Result.Keys A2 c2/\Sl σ v.Result.Entries A3 c3/\Sl σ v.Result.Labels A4 c4:=by
 cases v with
 | mk args fails res =>
   show RE σ _ cs↔_
   simp only [RE,Ent.Args,Ent.Fails,Ent.Result]
   constructor
   ·rintro ⟨A,c,f,r,rfl,h1,h2,h3⟩
    obtain ⟨A1,c1,A2,c2,A3,c3,A4,c4,rfl,k1,k2,k3,k4⟩:=Val.cells_iff.1 h3
    exact ⟨A,c,A1,c1,A2,c2,A3,c3,A4,c4,rfl,h1.sl (RVs.flat.1 h2),k1,k2,k3,k4⟩
   ·rintro ⟨A,c,A1,c1,A2,c2,A3,c3,A4,c4,rfl,h1,k1,k2,k3,k4⟩
    obtain ⟨f,j1,j2⟩:=SlC.of h1
    exact ⟨A,c,f,_,rfl,j1,RVs.flat.2 j2,Val.cells_iff.2 ⟨A1,c1,A2,c2,A3,c3,A4,c4,rfl,k1,k2,k3,k4⟩⟩
theorem Key.cells_iff {σ:S}{v:Key}{cs:List Value}:Rp.cells σ v cs↔cs=[.int .i64 v.Kind,.string v.Text]:=Iff.rfl
end Go.Sx
end
section
namespace Go.Qx
open Go Go.RowKit Go.Sx
end Go.Qx
namespace Go.Sx
open Go Go.RowKit Go.Qx
abbrev Key.to (v:Key):Int×ByteArray:=(v.Kind,v.Text)
abbrev Key.of (x:Int×ByteArray):Key:=⟨x.1,x.2⟩
theorem Key.cells_to (σ:S)(v:Key)(cs:List Value):rpKey.cells σ v cs↔(y4 (rpK .i64) rpStr).cells σ v.to cs:=by
 constructor
 ·intro h
  have h:cs=[.int .i64 v.Kind,.string v.Text]:=h
  exact ⟨[_],[_],h,rfl,rfl⟩
 ·rintro ⟨c1,c2,e,rfl,rfl⟩
  exact e
abbrev Val.to (v:Val):Int×(Int×(ByteArray×(List Val×(List Key×(List Ent×List ByteArray))))):=(v.Kind,v.Int_,v.Text,v.Kids,v.Keys,v.Entries,v.Labels)
abbrev Val.of (x:Int×(Int×(ByteArray×(List Val×(List Key×(List Ent×List ByteArray)))))):Val:=.mk x.1 x.2.1 x.2.2.1 x.2.2.2.1 x.2.2.2.2.1 x.2.2.2.2.2.1 x.2.2.2.2.2.2
theorem Val.cells_to (σ:S)(v:Val)(cs:List Value):rpVal.cells σ v cs ↔
 (y4 (rpK .i64) (y4 (rpK .i64) (y4 rpStr (y4 (@rpList _ rpVal) (y4 (@rpList _ rpKey) (y4 (@rpList _ rpEnt) (@rpList _ rpStr))))))).cells σ v.to cs:=by
 refine Val.cells_iff.trans ?_
 constructor
 ·rintro ⟨A1,c1,A2,c2,A3,c3,A4,c4,e,h1,h2,h3,h4⟩
  exact ⟨[_],_,e,rfl,[_],_,rfl,rfl,[_],_,rfl,rfl,[_],_,rfl,⟨A1,c1,rfl,h1⟩,[_],_,rfl,⟨A2,c2,rfl,h2⟩,[_],_,rfl,⟨A3,c3,rfl,h3⟩,A4,c4,rfl,h4⟩
 ·rintro ⟨_,_,rfl,rfl,_,_,rfl,rfl,_,_,rfl,rfl,_,_,rfl,⟨A1,c1,rfl,h1⟩,_,_,rfl,⟨A2,c2,rfl,h2⟩,_,_,rfl,⟨A3,c3,rfl,h3⟩,A4,c4,rfl,h4⟩
  exact ⟨A1,c1,A2,c2,A3,c3,A4,c4,rfl,h1,h2,h3,h4⟩
abbrev Ent.to (v:Ent):List Val×(Bool×Val):=(v.Args,v.Fails,v.Result)
abbrev Ent.of (x:List Val×(Bool×Val)):Ent:=.mk x.1 x.2.1 x.2.2
theorem Ent.cells_to (σ:S)(v:Ent)(cs:List Value):rpEnt.cells σ v cs↔(y4 (@rpList _ rpVal) (y4 rpBool rpVal)).cells σ v.to cs:=by
 cases v with
 | mk args fails res =>
   constructor
   ·intro h
    have h:RE σ (.mk args fails res) cs:=h
    simp only [RE] at h
    obtain ⟨A,c,f,r,rfl,h1,h2,h3⟩:=h
    exact ⟨[_],_,rfl,⟨A,c,rfl,h1.sl (RVs.flat.1 h2)⟩,[_],_,rfl,rfl,h3⟩
   ·rintro ⟨_,_,rfl,⟨A,c,rfl,h1⟩,_,r,rfl,rfl,h2⟩
    show RE σ (.mk args fails res) _
    simp only [RE]
    obtain ⟨f,j1,j2⟩:=SlC.of h1
    exact ⟨A,c,f,r,rfl,j1,RVs.flat.2 j2,h2⟩
end Go.Sx
end
section
namespace Go.Qx
open Go Go.RowKit Go.Sx
section
variable {I:TypeId->Type} [∀ E,Rp (I E)] {P:Program}
def b6w (a b:ByteArray):Option Int:=some (b0k a b)
theorem c2r {f : FuncId} {fn : Func} (hf : P.funcs[f]? = some fn) (hname : (fn.name == "runtime.NumGoroutine") = false) (hb : fn.body.isNone = true) (hn : Extern.findNext fn = none) (he : Extern.find fn = some Extern.BytealgCompare.compare) :
 j7 P (⟨f,[.d .str,.d .str],[.k (.d (.int .i64))],b6w⟩:Row I):=by
 intro σ a vs pls res hA _ happ
 obtain ⟨v,_,p1,_,rfl,rfl,⟨h1,rfl⟩,v2,_,p2,_,rfl,rfl,⟨h2,rfl⟩,rfl,rfl⟩:=hA
 have h1:v=.string a.1:=h1
 have h2:v2=.string a.2.1:=h2
 have hr:b6w a.1 a.2.1=some res:=happ
 subst h1
 subst h2
 cases hr
 refine .inr ⟨_,σ,c35 hf hname hb hn he a.1 a.2.1 σ.w,Stp.refl _ σ,[.int .i64 (b0k a.1 a.2.1)],[],[],⟨rfl,rfl,⟨_,rfl,rfl,rfl⟩,rfl,by simp [ows],fun g hg=>by simp [ows] at hg⟩⟩
def X2 {α:Type}(b:Nat)(xs:List α):Option (List α):=Option.bind (Q8 (0+xs.length) b) fun _=>some xs
def noH:Hints I:=⟨fun _=>[],fun _=>[],fun _=>[],fun _=>none,fun _=>none,fun _=>none,fun _=>none,fun _=>0⟩
def noD:W7 I:=fun _ _ _ _ _ _=>none
theorem c2g:DispOk P (noD:W7 I):=⟨fun _ _ _ _ _ _=>rfl,fun _ _ _ _ _ h=>by cases h⟩
def b6X (E:TypeId)(xs:List (I E)):St I:=⟨8,fun i=>bif Nat.beq i 0 then some (.sl E xs false) else none,fun _=>none,0⟩
theorem a83 {tb:Tab I}(ht:TabOk P tb)(hmx:P.follows .mixedOrders=true){f:FuncId}{fn:Func}{T E:TypeId}{b:Nat}{i0 i1 i2:Nat}{p0 p1 p2 p3:String}{a2:Array Edge}{t0 t1 t2 t3 t4:TypeId}{cd3:Code}
 (hf : P.funcs[f]? = some fn) (hname : (fn.name == "runtime.NumGoroutine") = false) (hn : fn.ntmps = 8) (hres : fn.results.toList = [.tmp 2]) (hT : P.underlying T = some (.slice E))
 (hb:fn.body=some (.seq (.region i0 #[⟨some 2,.assign (.const (.slice none 0 0)),t0,p0,#[],none⟩] false) (.seq (.seq (.region i1 #[⟨some 3,.move (.tmp 0),t1,p1,#[],none⟩,⟨some 4,.binOp .eql T (.tmp 3) (.const (.slice none 0 0)) t2,t3,p2,a2,none⟩] false)
   (.cond (.tmp 4) (.seq (.region i2 #[⟨some 2,.assign (.const (.slice none 0 0)),t4,p3,#[],none⟩] false) .ret) .skip)) cd3)))
 (hcode:a1f (noH:Hints I) cd3 1=true) (hex:∀ xs:List (I E),a4X tb noD noH cd3 1 (List (I E)) (b6X E xs) (fin tb [.d (.sl E)] [.k (.row E false)] [.tmp 2])=X2 b xs) :
 j7 P (⟨f,[.d (.sl E)],[.k (.row E false)],X2 b⟩:Row I):=by
 refine b9p ht 8 hf hb hname hn hres rfl fun X c σ F Q a res hX hrel happ hk=>?_
 subst hX
 have happ:X2 b a.1=some res:=happ
 have h0:=hrel.frame 0 (.sl E a.1 false) rfl
 simp only [RV] at h0
 obtain ⟨A,k,e0,hs,_⟩:=h0
 refine wp_seq (wp_region_lit ?_)
 refine b2y (.slice none 0 0) rfl rfl ?_
 refine wpList_nil (b3R (wp_seq (wp_seq (wp_region_lit ?_))))
 refine b87 (.slice A (a.1:List (I E)).length k) e0 rfl ?_
 refine c06 (.slice A (a.1:List (I E)).length k) (.slice none 0 0) (.bool A.isNone) rfl rfl rfl rfl (c3z hT) ?_
 refine wpList_nil (b3R ?_)
 have hgen:∀ (G:Fr),G 0=F 0->Rel X c σ (b6X E a.1) 8 G:=fun G hG =>
  ⟨rfl,(fun i p hp=>by
   have:(bif Nat.beq i 0 then some (PV.sl E a.1 false) else none)=some p:=hp
   obtain ⟨hi,hp⟩:=y2 this
   cases hp
   have:=Nat.eq_of_beq_eq_true hi
   subst this
   rw [hG]
   exact hrel.frame 0 _ rfl),(fun l o ho=>by cases ho),(fun _ _ _ _ _ ⟨_,h⟩=>by cases h),(fun _ _ _ ⟨_,h⟩=>by cases h),fun l _=>hrel.nom l rfl,hrel.base,noN.nests fun _ _ _ _ _ _ h=>by cases h⟩
 refine (Bool.eq_false_or_eq_true A.isNone).elim (fun hn4=>?_) (fun hn4=>?_)
 ·have e:a.1=[]:=hs.nil_of hn4
  have hr:res=[]:=by
   rw [e] at happ
   simp [X2,Q8] at happ
   exact (Option.some.inj happ).symm
  refine c2H rfl hn4 rfl ?_
  refine wp_seq (wp_region_lit ?_)
  refine b2y (.slice none 0 0) rfl rfl ?_
  refine wpList_nil (b3R (wp_ret (c15 ?_)))
  subst hr
  refine hk .ret (Qx.put (b6X E a.1) (some 2) (.nl E)) c σ _ ?_ (Cx.le_refl c) ((hgen (Y8 (Y8 (Y8 F (some 2) (.slice none 0 0)) (some 3) (.slice A (a.1:List (I E)).length k)) (some 4) (.bool A.isNone)) rfl).put (some 2) _ (.slice none 0 0) (by simp only [RV]; exact ⟨none,rfl⟩)) (Stp.refl _ σ)
  rfl
 ·refine c1G rfl hn4 rfl ?_
  refine wp_skip (b3R ?_)
  exact a1Q ht c2g hmx cd3 1 hcode _ _ _ res X c σ _ Q rfl ((hex a.1).trans happ) (hgen _ rfl) fun e s' c' τ F' g1 g2 g3 g4 _=>hk e s' c' τ F' g1 g2 g3 g4
end
end Go.Qx
end
section
namespace Go.Qx
open Go Go.RowKit Go.Sx
section
variable {α:Type}
def ltB (g:α->α->Option Int)(x y:α):Bool:=match g x y with
 | some r=>decide (r<0)
 | none=>false
structure Swk (lt:α->α->Bool)(xs:List α):Prop where
 irr:∀ x∈xs,lt x x=false
 trans:∀ x∈xs,∀ y∈xs,∀ z∈xs,lt x y=true->lt y z=true->lt x z=true
 ntrans:∀ x∈xs,∀ y∈xs,∀ z∈xs,lt x y=false->lt y z=false->lt x z=false
structure OkCmp (xs:List α)(g:α->α->Option Int):Prop where
 len:xs.length<4611686018427387904
 dfd:∀ x∈xs,∀ y∈xs,∃ r,g x y=some r
 wk:Swk (ltB g) xs
def a5m (lt:α->α->Bool)(xs:List α):List α :=
 if h:0<xs.length then
  haveI:Inhabited (Fin xs.length):=⟨⟨0,h⟩⟩
  (Sort.pdq (fun i j:Fin xs.length=>lt xs[i] xs[j]) (Array.ofFn (n:=xs.length) id) 0 xs.length (Lib.bitLen xs.length) true true).toList.map fun i=>xs[i]
 else []
open Classical in
noncomputable def b5I (xs:List α)(g:α->α->Option Int):Option (List α):=if OkCmp xs g then some (a5m (ltB g) xs) else none
variable {lt:α->α->Bool}{xs:List α}
structure Tot (lt:α->α->Bool)(xs:List α):Prop where
 irr:∀ x∈xs,lt x x=false
 trans:∀ x∈xs,∀ y∈xs,∀ z∈xs,lt x y=true->lt y z=true->lt x z=true
 tot:∀ x∈xs,∀ y∈xs,lt x y=false->lt y x=false->x=y
theorem Tot.sub {ys:List α}(h:Tot lt xs)(hs:∀ x∈ys,x∈xs):Tot lt ys :=
 ⟨fun x hx=>h.irr x (hs x hx),fun x hx y hy z hz=>h.trans x (hs x hx) y (hs y hy) z (hs z hz),fun x hx y hy=>h.tot x (hs x hx) y (hs y hy)⟩
theorem Tot.ntrans (h:Tot lt xs){x y z:α}(hx:x∈xs)(hy:y∈xs)(hz:z∈xs)(h1:lt x y=false)(h2:lt y z=false):lt x z=false:=by
 cases h3:lt x z with
 | false=>rfl
 | true =>
   exfalso
   cases h4:lt y x with
   | true=>rw [h.trans y hy x hx z hz h4 h3] at h2; cases h2
   | false =>
     have:=h.tot x hx y hy h1 h4
     subst this
     rw [h3] at h2; cases h2
abbrev Srt (lt:α->α->Bool)(l:List α):Prop:=l.Pairwise fun a b=>lt b a=false
theorem Tot.wk (h:Tot lt xs):Swk lt xs:=⟨h.irr,h.trans,fun _ hx _ hy _ hz h1 h2=>h.ntrans hx hy hz h1 h2⟩
theorem b7l {β:Type}(d:Array β){m:Nat}(h:d.size=m):d.extract 0 m=d:=by subst h; simp
theorem b12 (h:Swk lt xs):(a5m lt xs).Perm xs/\Srt lt (a5m lt xs):=by
 unfold a5m
 split
 ·rename_i hn
  letI:Inhabited (Fin xs.length):=⟨⟨0,hn⟩⟩
  have hswo:Sort.SWO (fun i j:Fin xs.length=>lt xs[i] xs[j]):=⟨fun i=>h.irr _ (List.getElem_mem _),fun i j k=>h.trans _ (List.getElem_mem _) _ (List.getElem_mem _) _ (List.getElem_mem _),fun i j k=>h.ntrans _ (List.getElem_mem _) _ (List.getElem_mem _) _ (List.getElem_mem _)⟩
  have hh:=Sort.pdq_sorts (fun i j:Fin xs.length=>lt xs[i] xs[j]) hswo (Array.ofFn (n:=xs.length) id) 0 xs.length (Lib.bitLen xs.length) true true (Nat.zero_le _) (by simp) (Or.inl rfl)
  generalize Sort.pdq (fun i j:Fin xs.length=>lt xs[i] xs[j]) (Array.ofFn (n:=xs.length) id) 0 xs.length (Lib.bitLen xs.length) true true=d' at hh ⊢
  obtain ⟨⟨h1,_,h2⟩,hs⟩:=hh
  have hsz:d'.size=xs.length:=by rw [h1]; simp
  have hp':d'.toList.Perm (List.ofFn (n:=xs.length) id):=by
   rw [b7l d' hsz,b7l (Array.ofFn (n:=xs.length) (id:Fin xs.length->Fin xs.length)) (by simp)] at h2
   simpa using h2
  have hxs:(List.ofFn (n:=xs.length) id).map (fun i:Fin xs.length=>xs[i])=xs:=by
   apply List.ext_getElem
   ·simp
   ·intro i h1 h2
    simp
  refine ⟨?_,?_⟩
  ·have:=hp'.map (fun i:Fin xs.length=>xs[i])
   rwa [hxs] at this
  ·rw [Srt,List.pairwise_iff_getElem]
   intro i j hi hj hij
   simp only [List.length_map,Array.length_toList] at hi hj
   have:=hs i j (Nat.zero_le _) hij (by omega)
   rw [getElem!_pos d' j hj,getElem!_pos d' i hi] at this
   simp only [List.getElem_map,Array.getElem_toList]
   exact this
 ·rename_i hn
  have:xs=[]:=List.eq_nil_of_length_eq_zero (by omega)
  subst this
  exact ⟨List.Perm.refl _,List.Pairwise.nil⟩
theorem b9C (h:Swk lt xs):(a5m lt xs).length=xs.length:=(b12 h).1.length_eq
theorem b78 {g:α->α->Option Int}{ys:List α}(h:b5I xs g=some ys):OkCmp xs g/\ys=a5m (ltB g) xs:=by
 unfold b5I at h
 split at h
 ·rename_i hk; cases h; exact ⟨hk,rfl⟩
 ·cases h
end
section
variable {α:Type} [Rp α] {σ τ:S}
def b52 (cs:List Value)(sz n:Nat)(i:Fin n):List Value:=(cs.drop (i.val*sz)).take sz
theorem b0n {xs:List α}{cs:List Value}(h:Y9 σ xs cs)(i:Fin xs.length):Rp.cells σ xs[i] (b52 cs (Rp.sz α) xs.length i):=by
 obtain ⟨c1,cj,c2,e1,e2,e3,_⟩:=b1e h (List.getElem?_eq_getElem i.isLt)
 have:b52 cs (Rp.sz α) xs.length i=cj:=by
  unfold b52
  rw [e1,List.append_assoc,<- e2,List.drop_left,<- Rp.len e3,List.take_left]
 rw [this]; exact e3
theorem b7p {n:Nat}{enc:Fin n->List Value}{xs:Fin n->α}(h:∀ i,Rp.cells σ (xs i) (enc i)):∀ l:List (Fin n),Y9 σ (l.map xs) (l.flatMap enc)
 | []=>rfl
 | i::l=>⟨_,_,rfl,h i,b7p h l⟩
theorem a7K {n k:Nat}{enc:Fin n->List Value}(hk:∀ i,(enc i).length=k)(hp:0<k):∀ (l:List (Fin n)) (t:Nat),t<l.length*k->(l.flatMap enc)[t]?=(l[t / k]?.bind fun i=>(enc i)[t%k]?)
 | [],t,h=>by simp at h
 | i::l,t,h=>by
   rw [List.flatMap_cons]
   by_cases hlt:t<k
   ·rw [List.getElem?_append_left (by rw [hk]; exact hlt),Nat.div_eq_of_lt hlt,Nat.mod_eq_of_lt hlt]
    rfl
   ·have hle:=Nat.le_of_not_lt hlt
    rw [List.getElem?_append_right (by rw [hk]; exact hle),hk,a7K hk hp l (t-k) (by simp [Nat.add_mul] at h; omega)]
    have e1:t / k=(t-k) / k+1:=Nat.div_eq_sub_div hp hle
    have e2:t%k=(t-k)%k:=Nat.mod_eq_sub_mod hle
    rw [e1,e2,List.getElem?_cons_succ]
theorem b3a {n k:Nat} [Inhabited (Fin n)] {enc:Fin n->List Value}(hk:∀ i,(enc i).length=k)(hp:0<k)(d:Array (Fin n)):(Sort.flatK enc k d).toList=d.toList.flatMap enc:=by
 apply List.ext_getElem?
 intro t
 by_cases ht:t<d.size*k
 ·rw [a7K hk hp d.toList t (by simpa using ht)]
  have hq:t / k<d.size:=by rw [Nat.div_lt_iff_lt_mul hp]; exact ht
  have hm:t%k<k:=Nat.mod_lt _ hp
  have e1:(Sort.flatK enc k d)[t]! = (enc d[t / k]!)[t%k]! := Sort.get_flatK enc k d t ht
  rw [getElem!_pos (Sort.flatK enc k d) t (by simpa using ht)] at e1
  rw [Array.getElem?_toList,Array.getElem?_eq_getElem (by simpa using ht),e1,Array.getElem?_toList,Array.getElem?_eq_getElem hq,getElem!_pos d (t / k) hq]
  simp only [Option.bind_some]
  rw [List.getElem?_eq_getElem (by rw [hk]; exact hm),getElem!_pos _ _ (by rw [hk]; exact hm)]
 ·rw [List.getElem?_eq_none (by simp; omega),List.getElem?_eq_none (by
   have:(d.toList.flatMap enc).length=d.size*k:=by
    have:∀ l:List (Fin n),(l.flatMap enc).length=l.length*k:=by
     intro l
     induction l with
     | nil=>simp
     | cons i l ih=>simp [ih,hk,Nat.add_mul,Nat.add_comm]
    simpa using this d.toList
   omega)]
def a3b (w:World)(g m:Nat)(F:Array Value)(os:Array Obj):World:=Sort.grow (Sort.putRow id (Sort.ahead w m) g 0 F) os
theorem b6j {w:World}{g m:Nat}{F:Array Value}{os:Array Obj}{b:Nat}(hb:b<w.heap.size)(hne:b≠g):(a3b w g m F os).heap[b]?=w.heap[b]?:=by
 simp only [a3b,Sort.grow,Sort.putRow,Sort.mapBlock,Sort.ahead]
 rw [Array.getElem?_append_left (by simpa using hb),Array.getElem?_modify,if_neg (fun e=>hne e.symm)]
theorem c0t {w:World}{g m:Nat}{F:Array Value}{os:Array Obj}{cur:Array Value}{E:TypeId}(h:w.heap[g]?=some (.cells cur E (0,0)))(hF:F.size<=cur.size) :
 (a3b w g m F os).heap[g]?=some (.cells (F.toList++cur.toList.drop F.size).toArray E (0,0)):=by
 have hb:g<w.heap.size:=a0a h
 simp only [a3b,Sort.grow,Sort.putRow,Sort.mapBlock,Sort.ahead]
 rw [Array.getElem?_append_left (by simpa using hb),Array.getElem?_modify,if_pos rfl,h]
 simp only [Option.map_some,Sort.onCells,Option.some.injEq,Obj.cells.injEq,and_self,and_true]
 apply Array.ext_getElem?
 intro i
 simp only [Sort.putCells,Array.getElem?_mapIdx,List.getElem?_toArray,id]
 by_cases hi:i<F.size
 ·rw [List.getElem?_append_left (by simpa using hi),Array.getElem?_toList,Array.getElem?_eq_getElem hi,Array.getElem?_eq_getElem (by omega:i<cur.size)]
  simp only [Option.map_some,Nat.zero_le,Nat.zero_add,hi,and_self,if_true,Nat.sub_zero]
  rw [getElem!_pos F i hi]
 ·rw [List.getElem?_append_right (by simpa using Nat.le_of_not_lt hi),List.getElem?_drop]
  rw [Array.length_toList,Nat.add_sub_cancel' (Nat.le_of_not_lt hi),Array.getElem?_toList]
  cases hc:cur[i]? with
  | none=>rfl
  | some v=>simp [hi]
def b2P (σ:S)(W:World):S:=⟨W,fun b=>if b<σ.N then σ.L b else (0,b)⟩
theorem b9j (w:World)(g m:Nat)(F:Array Value)(os:Array Obj):(a3b w g m F os).heap.size=w.heap.size+os.size:=by
 simp [a3b,Sort.grow,Sort.putRow,Sort.mapBlock,Sort.ahead]
theorem a9u {g m k:Nat}{E:TypeId}{xs:List α}{A:Option Addr}{F:Array Value}{os:Array Obj}(hown:K5 (some g) false E σ xs A k):Stp (fun b=>b=g) σ (b2P σ (a3b σ.w g m F os)):=by
 obtain ⟨cur,cs,rfl,hh,h1,h2,h3,h4,h5,h6⟩:=hown
 have hL:∀ b,b<σ.N->(b2P σ (a3b σ.w g m F os)).L b=σ.L b:=fun b hb=>by simp [b2P,hb]
 refine ⟨⟨?_,fun b hb=>by rw [hL b hb]; exact Nat.le_refl _,fun b o v ho hc=>?_,?_⟩,rfl,rfl,rfl,fun b hb hn=>⟨b6j hb hn,by rw [hL b hb]⟩⟩
 ·show σ.w.heap.size<=(a3b σ.w g m F os).heap.size
  rw [b9j]; omega
 ·have hlt:=a2i hc
  by_cases e:b=g
  ·subst e
   rw [show (σ.L b).1=0 from h6] at ho
   omega
  ·exact (a07 (b6j hlt e) o).trans hc
 ·show σ.w.drawn<=(a3b σ.w g m F os).drawn
  simp [a3b,Sort.grow,Sort.putRow,Sort.mapBlock,Sort.ahead]
theorem b6D {g m k:Nat}{E:TypeId}{xs ys:List α}{A:Option Addr}{F:Array Value}{os:Array Obj}(hown:K5 (some g) false E σ xs A k)(hF:Y9 σ ys F.toList)(hl:ys.length=xs.length) :
 K5 (some g) false E (b2P σ (a3b σ.w g m F os)) ys A k:=by
 have hst:=a9u (m:=m) (F:=F) (os:=os) hown
 obtain ⟨cur,cs,rfl,hh,h1,h2,h3,h4,h5,h6⟩:=hown
 have hFs:F.size=xs.length*Rp.sz α:=by rw [<- Array.length_toList,hF.len,hl]
 have hle:F.size<=cur.size:=by rw [hFs,h3]; exact Nat.mul_le_mul_right _ h1
 refine ⟨(F.toList++cur.toList.drop F.size).toArray,F.toList,rfl,c0t hh hle,by rw [hl]; exact h1,h2,?_,hF.mono hst.wext,?_,?_⟩
 ·simp; omega
 ·rw [hl,<- hFs,<- Array.length_toList]
  exact List.take_left
 ·show (if g<σ.N then σ.L g else (0,g)).1=_
  rw [if_pos (a0a hh)]
  exact h6
theorem c0w {τ υ:S}(h:Stp NoB τ υ):∃ q os,υ.w=Sort.grow (τ.w.drewN q) os:=by
 refine ⟨υ.w.drawn-τ.w.drawn,υ.w.heap.extract τ.w.heap.size υ.w.heap.size,?_⟩
 have hd:=h.wext.drawn
 have hs:τ.w.heap.size<=υ.w.heap.size:=h.wext.size
 have e1:=h.os
 have e2:=h.tape
 have e3:=h.output
 have hheap:υ.w.heap=τ.w.heap++υ.w.heap.extract τ.w.heap.size υ.w.heap.size:=by
  apply Array.ext_getElem?
  intro i
  by_cases hi:i<τ.w.heap.size
  ·rw [Array.getElem?_append_left hi]
   exact (h.block i hi (fun h=>h)).1
  ·rw [Array.getElem?_append_right (Nat.le_of_not_lt hi),Array.getElem?_extract]
   have:τ.w.heap.size+(i-τ.w.heap.size)=i:=by omega
   rw [this]
   split
   ·rfl
   ·rw [Array.getElem?_eq_none (by omega)]
 cases hu:υ.w with
 | mk heap tape drawn os output =>
   rw [hu] at hd hs e1 e2 e3 hheap
   simp only [Sort.grow,World.drewN]
   simp only at hd hheap e1 e2 e3
   rw [<- hheap,e1,e2,e3]
   congr 1
   omega
theorem b8s {β:Type} [Inhabited β] (enc:β->Value)(w:World)(g:Nat)(dk:Array β):Sort.putRow enc w g 0 dk=Sort.putRow id w g 0 (dk.map enc):=by
 unfold Sort.putRow
 congr 1
 funext c
 unfold Sort.putCells
 apply Array.ext_getElem?
 intro i
 simp only [Array.getElem?_mapIdx,Array.size_map]
 cases hc:c[i]? with
 | none=>rfl
 | some v =>
   simp only [Option.map_some,Option.some.injEq]
   split
   ·rename_i hi
    have hi':i-0<dk.size:=by omega
    rw [getElem!_pos dk (i-0) hi',id,getElem!_pos (dk.map enc) (i-0) (by simpa using hi'),Array.getElem_map]
   ·rfl
theorem c05 {P:Program}{g:FuncId}(h:a2l P g)(args:Array Value)(w:World):(callFunc g args).run P w=.ok (.enter g args) w:=by
 obtain ⟨fn,c,h1,h2,h3⟩:=h
 have h3' : fn.name ≠ "runtime.NumGoroutine" := by simpa using h3
 simp [callFunc,h1,h2,h3']
theorem b7U {P:Program}{g:FuncId}{vs:List Value}{τ:S}{E:S->Prop}{R:Value->S->Prop}(hb:a2l P g)(h:a1m P g vs τ E R):Calls P g vs.toArray τ.w fun e w'=>∃ v υ,e=.returned v/\υ.w=w'/\E υ/\R v υ:=by
 rcases h with ⟨_,h⟩ | ⟨v,υ,h,_⟩
 ·exact h
 ·rw [c05 hb] at h; cases h
omit [Rp α] in
theorem b7z {n:Nat}{xs:Fin n->α}{l:List α}{gf:α->α->Option Int}(hl:∀ i,xs i∈l)(ht:Swk (ltB gf) l)(cf:Fin n->Fin n->Int)(hcf:∀ i j,gf (xs i) (xs j)=some (cf i j)):Sort.SWO (Go.Proofs.ltOf cf):=by
 have e:∀ i j,Go.Proofs.ltOf cf i j=ltB gf (xs i) (xs j):=fun i j=>by simp [Go.Proofs.ltOf,ltB,hcf i j]
 refine ⟨fun i=>?_,fun i j k h1 h2=>?_,fun i j k h1 h2=>?_⟩
 ·rw [e]; exact ht.irr _ (hl i)
 ·rw [e] at *; exact ht.trans _ (hl i) _ (hl j) _ (hl k) h1 h2
 ·rw [e] at *; exact ht.ntrans _ (hl i) _ (hl j) _ (hl k) h1 h2
omit [Rp α] in
theorem b5i {xs:List α}(hn:0<xs.length) [inst:Inhabited (Fin xs.length)] {gf:α->α->Option Int}{cf:Fin xs.length->Fin xs.length->Int}(hcf:∀ i j:Fin xs.length,gf xs[i.val] xs[j.val]=some (cf i j))(hi:inst=⟨⟨0,hn⟩⟩) :
 (Sort.pdq (Go.Proofs.ltOf cf) (Array.ofFn (n:=xs.length) id) 0 xs.length (Lib.bitLen xs.length) true true).toList.map (fun i:Fin xs.length=>xs[i])=a5m (ltB gf) xs:=by
 have e:Go.Proofs.ltOf cf=fun i j:Fin xs.length=>ltB gf xs[i] xs[j]:=by
  funext i j
  have:=hcf i j
  have e2:gf xs[i] xs[j]=some (cf i j):=this
  simp only [Go.Proofs.ltOf,ltB,e2]
 rw [e]
 unfold a5m
 rw [dif_pos hn]
 subst hi
 rfl
open Go.Proofs in
theorem b75 {P:Program}{ρ:Go.Shelf.Ren}(L:Go.Proofs.SlLaysF0.n6 P ρ){fs:Array Field}{E:TypeId}(hu:P.underlying (ρ.t 24)=some (.struct fs))(hz:(P.info? (ρ.t 24)).map (·.size)=some (Rp.sz α)){xs:List α}{A:Option Addr}{k:Nat}{ow:Option Nat}(hown:K5 ow false E σ xs A k)
 {g:FuncId} {cb:List Value} {gf:α->α->Option Int} (hok:OkCmp xs gf) (hbody:a2l P g)
 (hcmp:∀ τ,Stp (fun b=>σ.N<=b\/ow=some b) σ τ->∀ x y cx cy r,Rp.cells τ x cx->Rp.cells τ y cy->gf x y=some r->a1m P g ([.agg cx.toArray,.agg cy.toArray]++cb) τ (Stp NoB τ) fun v _=>v=.int .i64 r) :
 a1m P (ρ.f 6) [.slice A xs.length k,.func (.func g) #[] cb.toArray] σ (Stp (fun b=>ow=some b) σ) fun v τ=>v=.tuple #[]/\K5 ow false E τ (a5m (ltB gf) xs) A k:=by
 have hb6:a2l P (ρ.f 6):=by
  obtain ⟨nm,hn,hf⟩:=L.f6
  exact ⟨_,_,hf,rfl,hn⟩
 refine .inl ⟨hb6,?_⟩
 cases hx:xs with
 | nil =>
   subst hx
   refine (AnyF.slices_SortFunc_none L A k (.func (.func g) #[] cb.toArray) σ.w).mono fun e w' ⟨he,hw⟩=>?_
   exact ⟨_,σ,he,hw.symm,Stp.refl _ _,rfl,hown⟩
 | cons x0 r0 =>
   rw [<- hx]
   cases ow with
   | none =>
     rcases hown with ⟨e,_⟩ | ⟨e,_⟩
     ·rw [hx] at e; cases e
     ·cases e
   | some gb =>
     have hown0:=hown
     obtain ⟨cur,cs,rfl,hh,h1,h2,h3,h4,h5,h6⟩:=hown
     have hn:0<xs.length:=by rw [hx]; simp
     let n:=xs.length
     letI:Inhabited (Fin xs.length):=⟨⟨0,hn⟩⟩
     let enc:Fin xs.length->List Value:=b52 cs (Rp.sz α) xs.length
     have hpos:=Rp.pos (α:=α)
     have hek:∀ i,(enc i).length=Rp.sz α:=fun i=>Rp.len (b0n h4 i)
     have he1:∀ i,∀ v∈enc i,v.oneCell'=true:=fun i v hv=>Rp.one (b0n h4 i) v hv
     let cf:Fin xs.length->Fin xs.length->Int:=fun i j=>(gf xs[i] xs[j]).getD 0
     have hcf:∀ i j:Fin xs.length,gf xs[i.val] xs[j.val]=some (cf i j):=fun i j=>by
      obtain ⟨r,hr⟩:=hok.dfd xs[i] (List.getElem_mem _) xs[j] (List.getElem_mem _)
      have hr':gf xs[i.val] xs[j.val]=some r:=hr
      show _=some ((gf xs[i.val] xs[j.val]).getD 0)
      rw [hr']; rfl
     have hflat:∀ {υ:S} (_:Wext σ υ) (dk:Array (Fin xs.length)),Y9 υ (dk.toList.map fun i=>xs[i]) (Sort.flatK enc (Rp.sz α) dk).toList:=fun hw dk=>by
      rw [b3a hek hpos]
      exact (b7p (fun i=>b0n h4 i) dk.toList).mono hw
     have hcur:∀ j,j<xs.length*Rp.sz α->cur[j]?=cs[j]?:=fun j hj=>by
      rw [<- h5,List.getElem?_take_of_lt hj,Array.getElem?_toList]
     have hd0:(Sort.flatK enc (Rp.sz α) (Array.ofFn (n:=xs.length) id)).toList=cs:=by
      have hA:=hflat (Wext.refl σ) (Array.ofFn (n:=xs.length) id)
      apply List.ext_getElem?
      intro t
      by_cases ht:t<xs.length*Rp.sz α
      ·rw [b3a hek hpos,a7K hek hpos _ t (by simpa using ht)]
       have hq:t / Rp.sz α<xs.length:=by rw [Nat.div_lt_iff_lt_mul hpos]; exact ht
       simp only [Array.toList_ofFn,List.getElem?_ofFn,hq,dite_true,Option.bind_some,id]
       simp only [enc,b52]
       rw [List.getElem?_take_of_lt (Nat.mod_lt _ hpos),List.getElem?_drop]
       congr 1
       exact Nat.div_add_mod' t (Rp.sz α)
      ·rw [List.getElem?_eq_none (by simp; omega),List.getElem?_eq_none (by rw [h4.len]; omega)]
     have hholds:Sort.HoldsK enc (Rp.sz α) σ.w gb 0 (Array.ofFn (n:=xs.length) id):=by
      intro j hj
      have hj':j<xs.length*Rp.sz α:=by simpa using hj
      have hjc:j<cs.length:=by rw [h4.len]; exact hj'
      refine ⟨?_,by simp [World.frozen?,hh]⟩
      have e1:σ.w.cell? ⟨gb,0+j,none⟩=cur[j]?:=by simp [World.cell?,hh]
      rw [e1,hcur j hj',getElem!_pos _ j (by simpa using hj'),List.getElem?_eq_getElem hjc]
      congr 1
      have:=congrArg (fun l:List Value=>l[j]?) hd0
      simp only [Array.getElem?_toList] at this
      rw [Array.getElem?_eq_getElem (by simpa using hj'),List.getElem?_eq_getElem hjc] at this
      exact (Option.some.inj this).symm
     have hlt:gb<σ.w.heap.size:=a0a hh
     have hcl:CmpLays P g cb.toArray enc (Rp.sz α) cf gb 0 (Array.ofFn (n:=xs.length) (id:Fin xs.length->Fin xs.length)).size σ.w:=by
      intro m os dk hdk i j
      have hst:=a9u (m:=m) (F:=Sort.flatK enc (Rp.sz α) dk) (os:=os) hown0
      have hc:=hcmp (b2P σ (a3b σ.w gb m (Sort.flatK enc (Rp.sz α) dk) os)) (hst.mono fun b _ e=>.inr (by rw [e])) xs[i] xs[j] (enc i) (enc j) (cf i j) (Rp.mono hst.wext (b0n h4 i)) (Rp.mono hst.wext (b0n h4 j)) (hcf i j)
      have hc':=b7U hbody hc
      have e:(#[Value.agg (enc i).toArray,Value.agg (enc j).toArray]++cb.toArray)=([Value.agg (enc i).toArray,Value.agg (enc j).toArray]++cb).toArray:=by simp
      rw [e]
      refine Calls.mono hc' fun e w' ⟨v,υ,h1,h2,h3,h4⟩=>?_
      obtain ⟨q,os',ho⟩:=c0w h3
      exact ⟨by rw [h1,h4],q,os',by rw [<- h2]; exact ho⟩
     have aE:∀ w,(isAgg (ρ.t 24)).run P w=.ok true w:=fun w=>by
      simp [isAgg,run_underlying hu]
     have main:=AnyQ.slices_SortFunc_eq L (Rp.sz α) aE (fun w=>Sx.run_sizeOf hz w) enc hek he1 cf (b7z (xs:=fun i:Fin xs.length=>xs[i]) (l:=xs) (fun i=>List.getElem_mem _) hok.wk cf hcf) g cb.toArray gb 0 k (Array.ofFn (n:=xs.length) id) σ.w (c05 hbody) hcl hholds hlt (by simp only [Array.size_ofFn]; exact hok.len)
     have hs:(Array.ofFn (n:=xs.length) (id:Fin xs.length->Fin xs.length)).size=xs.length:=by simp
     rw [hs] at main
     have hsorted:=b5i hn hcf rfl
     have hswo:=b7z (xs:=fun i:Fin xs.length=>xs[i]) (l:=xs) (fun i=>List.getElem_mem _) hok.wk cf hcf
     have hp:=(Sort.pdq_sorts (ltOf cf) hswo (Array.ofFn (n:=xs.length) id) 0 xs.length (Lib.bitLen xs.length) true true (Nat.zero_le _) (by simp) (Or.inl rfl)).1
     generalize Sort.pdq (ltOf cf) (Array.ofFn (n:=xs.length) id) 0 xs.length (Lib.bitLen xs.length) true true=d' at main hsorted hp
     refine Calls.mono main fun e w' ⟨he,m,os,hw⟩=>?_
     have hst:=a9u (m:=m) (F:=Sort.flatK enc (Rp.sz α) d') (os:=os) hown0
     refine ⟨_,b2P σ (a3b σ.w gb m (Sort.flatK enc (Rp.sz α) d') os),he,hw.symm,hst.mono fun b _ e=>by rw [e],rfl,?_⟩
     rw [<- hsorted]
     exact b6D hown0 (hflat (Wext.refl σ) d') (by simp; rw [hp.1]; simp)
end
section
variable {I:TypeId->Type} [∀ E,Rp (I E)] {P:Program}
noncomputable def a9F {α:Type}(xs:List α)(g:α->α->Option Int):Option (Unit×List α):=Option.bind (b5I xs g) fun ys=>some ((),ys)
theorem b9s {σ τ:S}{E:TypeId}{ks:List Kd}{rs:List V}{v1 v2:Value}{gr:List Nat}{res:Unit}:Post (I:=I) σ τ [.row E false,.fn ks rs] [] [v1,v2] res gr (.tuple #[]) [] [] [] :=
 ⟨rfl,rfl,⟨rfl,rfl⟩,rfl,by simp [ows],fun g hg=>by simp [ows] at hg⟩
theorem b9T {ρ:Go.Shelf.Ren}(L:Go.Proofs.SlLaysF0.n6 P ρ){fs:Array Field}(f:FuncId)(hf:ρ.f 6=f){E:TypeId}(hE:ρ.t 24=E)(hu:P.underlying E=some (.struct fs))(hz:(P.info? E).map (·.size)=some (Rp.sz (I E))) :
 b1l P (⟨f,E,[.fn [.dat E,.dat E] [.k (.d (.int .i64))]],[],fun xs g=>a9F xs g⟩:Rio I):=by
 subst hf
 subst hE
 intro σ xs a vs pls res ys hA hnd happ
 obtain ⟨v1,vs1,p1,q1,e1,e2,⟨A,k,ow,e3,hown,e4⟩,v2,vs2,p2,q2,e5,e6,⟨g,av,cb,e7,⟨hbody,has,hfn⟩,e8⟩,e9,e10⟩:=hA
 obtain ⟨gf,u⟩:=a
 have happ:a9F xs gf=some (res,ys):=happ
 unfold a9F at happ
 obtain ⟨ys',hs,happ⟩:=bind_some happ
 cases happ
 obtain ⟨hok,hys⟩:=b78 hs
 have e9:vs2=[]:=e9
 have e10:q2=[]:=e10
 have e3:v1=.slice A xs.length k:=e3
 have e4:p1=[⟨A,k,xs.length,ow⟩]:=e4
 have e7:v2=.func (.func g) (List.toArray av) (List.toArray cb):=e7
 have e8:p2=[]:=e8
 subst e9; subst e10; subst has; subst e8; subst e6; subst e4; subst e5; subst e7; subst e3; subst e1
 rw [List.append_nil] at e2
 subst e2
 have hc:=b75 (σ:=σ) L hu hz hown hok hbody (cb:=cb) (fun τ hst x y cx cy r hx hy hr=>by
  have h1:=hfn τ (hst.mono fun b _ hb=>hb.imp id fun h=>by rw [h]; simp [ows]) (x,y,()) [.agg cx.toArray,.agg cy.toArray] r ⟨_,_,rfl,⟨cx,rfl,hx⟩,_,_,rfl,⟨cy,rfl,hy⟩,rfl⟩ hr
  exact a1m.mono h1 rfl fun v υ hE ⟨ws,hv,ht⟩=>⟨υ,rfl,hE,by
   obtain ⟨w,hw,ht,_⟩:=ht
   rw [hv,hw]
   exact ht⟩)
 refine a1m.mono hc rfl fun v τ hE ⟨hv,hO⟩=>⟨τ,rfl,hE.mono fun b _ hb=>by rw [hb]; simp [ows],[],[],[],by rw [hv]; exact b9s,A,k,ow,rfl,by rw [hys]; exact b9C hok.wk,by rw [hys]; exact hO,fun g _=>by simp [ows]⟩
def a6Z {α:Type}(toI:α->Int)(xs:List α):Option (Unit×List α):=bif decide (xs.length<4611686018427387904) then some ((),xs.mergeSort fun x y=>decide (toI x<=toI y)) else none
def b4N (xs:List Int):Option (Unit×List Int):=a6Z (fun x=>x) xs
open Go.Proofs in
theorem b8V {ρ:Go.Shelf.Ren}(L:Go.Proofs.Lays.n189 P ρ)(f:FuncId)(hf:ρ.f 189=f){E:TypeId}(toI:I E->Int)(hI:∀ {σ:S} {x:I E} {cs:List Value},Rp.cells σ x cs↔cs=[.int .i64 (toI x)])(hb:a2l P f) :
 b1l P (⟨f,E,[],[],fun xs=>a6Z toI xs⟩:Rio I):=by
 subst hf
 intro σ xs a vs pls res ys hA hnd happ
 obtain ⟨v1,vs1,p1,q1,e1,e2,⟨A,k,ow,e3,hown,e4⟩,e9,e10⟩:=hA
 have happ:a6Z toI xs=some (res,ys):=happ
 unfold a6Z at happ
 obtain ⟨hlen,happ⟩:=y2 happ
 have hlen:xs.length<4611686018427387904:=by simpa using hlen
 have e9:vs1=[]:=e9
 have e10:q1=[]:=e10
 have e3:v1=.slice A xs.length k:=e3
 have e4:p1=[⟨A,k,xs.length,ow⟩]:=e4
 subst e9; subst e10; subst e4; subst e3; subst e1
 rw [List.append_nil] at e2
 subst e2
 cases happ
 have hpost:∀ {τ:S},Post (I:=I) σ τ [.row E false] [] [.slice A xs.length k] () (ows [(⟨A,k,xs.length,ow⟩:Pl)]) (.tuple #[]) [] [] []:=⟨rfl,rfl,⟨rfl,rfl⟩,rfl,by simp [ows],fun g hg=>by simp [ows] at hg⟩
 refine .inl ⟨hb,?_⟩
 have hown:K5 ow false E σ xs A k:=hown
 cases hx:xs with
 | nil =>
   subst hx
   refine (Any.slices_Sort_int_none L A k σ.w).mono fun e w' ⟨he,hw⟩=>?_
   exact ⟨_,σ,he,hw.symm,Stp.refl _ _,[],[],[],hpost,A,k,ow,rfl,by simp,by simpa using hown,fun g _=>by simp [ows]⟩
 | cons x0 r0 =>
   rw [<- hx]
   cases ow with
   | none =>
     rcases hown with ⟨e,_⟩ | ⟨e,_⟩
     ·rw [hx] at e; cases e
     ·cases e
   | some gb =>
     have hown0:=hown
     obtain ⟨cur,cs,rfl,hh,h1,h2,h3,h4,h5,h6⟩:=hown
     have hsz1:Rp.sz (I E)=1:=by
      have:=Rp.len (hI (σ:=σ) (x:=x0).2 rfl)
      simpa using this.symm
     have hcsU:∀ {l:List (I E)} {ds:List Value},Y9 σ l ds->ds=l.map fun x=>Value.int .i64 (toI x):=by
      intro l
      induction l with
      | nil=>intro ds h; exact h
      | cons x l ih =>
        intro ds ⟨c,r,e,hc,hr⟩
        rw [e,hI.1 hc,ih hr]; rfl
     have hflat1:∀ {υ:S} (l:List (I E)),Y9 υ l (l.map fun x=>Value.int .i64 (toI x)):=by
      intro υ l
      induction l with
      | nil=>rfl
      | cons x l ih=>exact ⟨[_],_,rfl,hI.2 rfl,ih⟩
     let toL:I E->Int:=toI
     have hholds:Sort.Holds (Value.int .i64) σ.w gb 0 (xs.map toL).toArray:=by
      intro j hj
      have hj':j<xs.length:=by simpa using hj
      refine ⟨?_,by simp [World.frozen?,hh]⟩
      have e1:σ.w.cell? ⟨gb,0+j,none⟩=cur[j]?:=by simp [World.cell?,hh]
      have e2:cur[j]?=cs[j]?:=by rw [<- h5,hsz1,Nat.mul_one,List.getElem?_take_of_lt hj',Array.getElem?_toList]
      rw [e1,e2,hcsU h4,List.getElem?_map,List.getElem?_eq_getElem hj',getElem!_pos _ j (by simpa using hj')]
      simp [toL]
     have main:=Any.slices_Sort_int L gb 0 k (xs.map toL) σ.w hholds (a0a hh) (by simpa using hlen)
     rw [List.length_map] at main
     refine Calls.mono main fun e w' ⟨he,m,os,hw⟩=>?_
     have hmap:((xs.mergeSort fun x y=>decide (toL x<=toL y)).map toL)=(xs.map toL).mergeSort fun x y=>decide (x<=y):=List.map_mergeSort fun a _ b _=>rfl
     let ys:=xs.mergeSort fun x y=>decide (toL x<=toL y)
     have hput:∀ (w:World),Sort.putRow (Value.int .i64) w gb 0 ((xs.map toL).mergeSort fun x y=>decide (x<=y)).toArray=Sort.putRow id w gb 0 (ys.map fun x=>Value.int .i64 (toI x)).toArray:=fun w=>by
      rw [b8s,<- hmap]
      congr 1
      simp [ys,toL]
     have hst:=a9u (m:=m) (F:=(ys.map fun x=>Value.int .i64 (toI x)).toArray) (os:=os) hown0
     refine ⟨_,b2P σ (a3b σ.w gb m (ys.map fun x=>Value.int .i64 (toI x)).toArray os),he,?_,hst.mono fun b _ e=>by rw [e]; simp [ows],[],[],[],hpost,_,k,some gb,rfl,by simp,?_,fun g _=>by simp [ows]⟩
     ·rw [hw]
      show a3b σ.w gb m (ys.map fun x=>Value.int .i64 (toI x)).toArray os=_
      unfold a3b
      rw [hput]
     ·exact b6D hown0 (hflat1 ys) (by simp [ys])
end
end Go.Qx
end
section
namespace Go.Qx
open Go Go.RowKit Go.Sx
set_option maxRecDepth 100000
structure Api_Field where
 Key_:Key
 Node:Int
 Optional:Bool
structure Api_TypeNode where
 Kind:Int
 Lo:Int
 Hi:Int
 Text:ByteArray
 Kids:List Int
 Fields:List Api_Field
 Rest:Int×Int
structure Api_Type where
 Nodes:List Api_TypeNode
 Root:Int
structure Api_Names where
 Cofinite:Bool
 List_:List ByteArray
structure Api_Range where
 Lo:Int
 Hi:Int
structure Api_Line where
 Kind:Int
 Arity:Int
 Ints:List Api_Range
 Names:Api_Names
 Pos:List Int
 Neg:List Int
 Vars:List ByteArray
 NotVars:List ByteArray
structure Semtypebase_Source where
 L:List Int
 At:Int
structure Api_Goal where
 Pos:List Int
 Neg:List Int
 Lists:Bool
structure Api_SomeKey where
 Kind:Int
 Goal:Api_Goal
structure Api_Shape where
 Keys:List Key
 States:List Int
 Parts:List Api_Goal
 Rest:Api_Goal×Api_Goal
 Some:List Api_SomeKey
structure Record_place where
 key:Int
 absent:Bool
 kind:Int
structure Value_used where
 number:Bool
 text_:Bool
 kids:Bool
 keys:Bool
 entries:Bool
def a8W (x y:Int×Int):Bool:=((x.1==y.1)&&((x.2==y.2)&&true))
def a2K (x y:Key):Bool:=((x.Kind==y.Kind)&&((J7 x.Text y.Text)&&true))
def a0j (l:List (List Int))(x1:Int):Option (Fl Int (Sum Unit Bool)) :=
 bif decide (x1<(l.length:Int))
 then (Option.bind (idx l x1) fun e2 =>
 bif decide (80<(e2.length:Int))
 then (some (.done (.inr false)))
 else (some (.next (wr .i64 (x1+1)))))
 else (some (.done (.inl ())))
def a1T (l:List (List Int)):Option Bool :=
 Option.bind (z8 (a0j l) ((l.length:Int).toNat+1) 0) fun b3 =>
 v8 (fun _ =>
 some true) (fun y5 =>
 some y5) b3
def a11 (d:Api_TypeNode):Option Bool :=
 Option.bind (bif d.Kind==3
 then (some (true,false,false,false))
 else (Option.bind (bif d.Kind==4
 then (some (d.Kind==4))
 else (bif d.Kind==6
 then (some (d.Kind==6))
 else (some (d.Kind==19)))) fun b1 =>
 bif b1
 then (some (false,true,false,false))
 else (Option.bind (bif d.Kind==10
 then (some (d.Kind==10))
 else (bif d.Kind==12
 then (some (d.Kind==12))
 else (bif d.Kind==14
 then (some (d.Kind==14))
 else (bif d.Kind==16
 then (some (d.Kind==16))
 else (bif d.Kind==17
 then (some (d.Kind==17))
 else (some (d.Kind==18))))))) fun b2 =>
 bif b2
 then (some (false,false,true,false))
 else (bif d.Kind==13
 then (some (false,false,false,true))
 else (some (false,false,false,false)))))) fun b3 =>
 Option.bind (bif b3.1
 then (some true)
 else (Option.bind (bif d.Lo==0
 then (some (d.Hi==0))
 else (some false)) fun q4 =>
 some q4)) fun q5 =>
 Option.bind (bif q5
 then (Option.bind (bif b3.2.1
 then (some true)
 else (some (J7 d.Text (⟨#[]⟩:ByteArray)))) fun q6 =>
 some q6)
 else (some false)) fun q7 =>
 Option.bind (bif q7
 then (Option.bind (bif b3.2.2.1
 then (some true)
 else (some ((d.Kids.length:Int)==0))) fun q8 =>
 some q8)
 else (some false)) fun q9 =>
 Option.bind (bif q9
 then (Option.bind (bif b3.2.2.2
 then (some true)
 else (Option.bind (bif (d.Fields.length:Int)==0
 then (some (a8W d.Rest (0,0)))
 else (some false)) fun q10 =>
 some q10)) fun q11 =>
 some q11)
 else (some false)) fun q12 =>
 some q12
def a4q (s:ByteArray)(other:Int->Option Bool)(x5:Int):Option (Fl Int (Sum Unit Bool)) :=
 bif decide (x5<(s.size:Int))
 then (Option.bind (a54 s x5) fun e6 =>
 Option.bind (other (e6.toNat:Int)) fun r7 =>
 bif !r7
 then (some (.done (.inr false)))
 else (some (.next (wr .i64 (x5+1)))))
 else (some (.done (.inl ())))
def a3g (s:ByteArray)(first:Int->Option Bool)(other:Int->Option Bool):Option Bool :=
 Option.bind (bif decide ((s.size:Int)<1)
 then (some true)
 else (some (decide (16<(s.size:Int))))) fun q1 =>
 Option.bind (bif q1
 then (some true)
 else (Option.bind (a54 s 0) fun e2 =>
 Option.bind (first (e2.toNat:Int)) fun r3 =>
 some (!r3))) fun q4 =>
 bif q4
 then (some false)
 else (Option.bind (z8 (a4q s other) ((s.size:Int).toNat+1) 1) fun b8 =>
 v8 (fun _ =>
 some true) (fun y10 =>
 some y10) b8)
def a1O (c:Int):Option Bool :=
 Option.bind (bif decide (97<=c)
 then (some (decide (c<=122)))
 else (some false)) fun q1 =>
 some q1
def a2H (c:Int):Option Bool :=
 Option.bind (bif decide (48<=c)
 then (some (decide (c<=57)))
 else (some false)) fun q1 =>
 some q1
def a4Z (c:Int):Option Bool :=
 Option.bind (a1O c) fun r1 =>
 Option.bind (bif r1
 then (some true)
 else (Option.bind (a2H c) fun r2 =>
 some r2)) fun q3 =>
 Option.bind (bif q3
 then (some true)
 else (some (c==95))) fun q4 =>
 some q4
def a2k (s:ByteArray):Option Bool :=
 Option.bind (a3g s (fun z1 =>
 Option.bind (a1O z1) fun r2 =>
 some r2) (fun z3 =>
 Option.bind (a4Z z3) fun r4 =>
 some r4)) fun r5 =>
 some r5
def a2E (c:Int):Option Bool :=
 Option.bind (bif decide (65<=c)
 then (some (decide (c<=90)))
 else (some false)) fun q1 =>
 some q1
def a2Y (c:Int):Option Bool :=
 Option.bind (a1O c) fun r1 =>
 Option.bind (bif r1
 then (some true)
 else (Option.bind (a2E c) fun r2 =>
 some r2)) fun q3 =>
 Option.bind (bif q3
 then (some true)
 else (Option.bind (a2H c) fun r4 =>
 some r4)) fun q5 =>
 Option.bind (bif q5
 then (some true)
 else (some (c==95))) fun q6 =>
 some q6
def a0O (s:ByteArray):Option Bool :=
 Option.bind (a3g s (fun z1 =>
 Option.bind (a2E z1) fun r2 =>
 some r2) (fun z3 =>
 Option.bind (a2Y z3) fun r4 =>
 some r4)) fun r5 =>
 some r5
def a1s (k:Key):Option Bool :=
 bif k.Kind==0
 then (Option.bind (a2k k.Text) fun r1 =>
 some r1)
 else (bif k.Kind==1
 then (some (decide ((k.Text.size:Int)<=64)))
 else (some false))
def a3N (x:Int):Option Bool :=
 some (x != x)
def K4 (x:Int)(y:Int):Option Int :=
 Option.bind (a3N x) fun r1 =>
 Option.bind (a3N y) fun r2 =>
 bif r1
 then (bif r2
 then (some 0)
 else (some (-1)))
 else (bif r2
 then (some 1)
 else (bif decide (x<y)
 then (some (-1))
 else (bif decide (y<x)
 then (some 1)
 else (some 0))))
def a0s (a:ByteArray)(b:ByteArray):Option Int :=
 Option.bind (b6w a b) fun r1 =>
 some r1
def J2 (a:ByteArray)(b:ByteArray):Option Int :=
 Option.bind (a0s a b) fun r1 =>
 some r1
def Y2 (a:Key)(b:Key):Option Int :=
 Option.bind (K4 a.Kind b.Kind) fun r1 =>
 bif r1 != 0
 then (some r1)
 else (Option.bind (J2 a.Text b.Text) fun r2 =>
 some r2)
def a0F (l:List Api_Field)(x1:Int):Option (Fl Int (Sum Unit Bool)) :=
 bif decide (x1<(l.length:Int))
 then (Option.bind (idx l x1) fun e2 =>
 Option.bind (a1s e2.Key_) fun r3 =>
 Option.bind (bif !r3
 then (some true)
 else (Option.bind (bif decide (0<x1)
 then (Option.bind (idx l (wr .i64 (x1-1))) fun e4 =>
 Option.bind (Y2 e4.Key_ e2.Key_) fun r5 =>
 some (decide (0<=r5)))
 else (some false)) fun q6 =>
 some q6)) fun q7 =>
 bif q7
 then (some (.done (.inr false)))
 else (some (.next (wr .i64 (x1+1)))))
 else (some (.done (.inl ())))
def a1i (l:List Api_Field):Option Bool :=
 Option.bind (z8 (a0F l) ((l.length:Int).toNat+1) 0) fun b8 =>
 v8 (fun _ =>
 some true) (fun y10 =>
 some y10) b8
def a12 (d:Api_TypeNode):Option Bool :=
 Option.bind (bif d.Kind==1
 then (some (d.Kind==1))
 else (bif d.Kind==2
 then (some (d.Kind==2))
 else (bif d.Kind==5
 then (some (d.Kind==5))
 else (bif d.Kind==7
 then (some (d.Kind==7))
 else (bif d.Kind==8
 then (some (d.Kind==8))
 else (bif d.Kind==9
 then (some (d.Kind==9))
 else (bif d.Kind==11
 then (some (d.Kind==11))
 else (some (d.Kind==15))))))))) fun b1 =>
 bif b1
 then (some true)
 else (bif d.Kind==3
 then (some (decide (d.Lo<=d.Hi)))
 else (bif d.Kind==4
 then (some (decide ((d.Text.size:Int)<=64)))
 else (bif d.Kind==6
 then (Option.bind (a2k d.Text) fun r2 =>
 some r2)
 else (bif d.Kind==19
 then (Option.bind (a0O d.Text) fun r3 =>
 some r3)
 else (bif d.Kind==10
 then (some (decide ((d.Kids.length:Int)<=4)))
 else (bif d.Kind==12
 then (some ((d.Kids.length:Int)==2))
 else (bif d.Kind==13
 then (Option.bind (a1i d.Fields) fun r4 =>
 some r4)
 else (bif d.Kind==14
 then (Option.bind (bif decide (1<=(d.Kids.length:Int))
 then (some (decide ((d.Kids.length:Int)<=5)))
 else (some false)) fun q5 =>
 some q5)
 else (Option.bind (bif d.Kind==16
 then (some (d.Kind==16))
 else (some (d.Kind==17))) fun b6 =>
 bif b6
 then (some (decide (1<=(d.Kids.length:Int))))
 else (bif d.Kind==18
 then (some ((d.Kids.length:Int)==1))
 else (some false)))))))))))
def a0x (n_0:Api_TypeNode)(x2:(List Int)×Int):Option (Fl ((List Int)×Int) (List Int)) :=
 bif decide (x2.2<(n_0.Fields.length:Int))
 then (Option.bind (idx n_0.Fields x2.2) fun e3 =>
 Option.bind (Q8 (x2.1.length+([e3.Node]:List Int).length) 8) fun _ =>
 some (.next (x2.1++([e3.Node]:List Int),wr .i64 (x2.2+1))))
 else (some (.done x2.1))
def a3i (n_0:Api_TypeNode):Option (List Int) :=
 Option.bind (X2 8 n_0.Kids) fun r1 =>
 Option.bind (z8 (a0x n_0) ((n_0.Fields.length:Int).toNat+1) (r1,0)) fun b5 =>
 bif n_0.Kind==13
 then (Option.bind (Q8 (b5.length+([n_0.Rest.1,n_0.Rest.2]:List Int).length) 8) fun _ =>
 some (b5++([n_0.Rest.1,n_0.Rest.2]:List Int)))
 else (some b5)
def a1W (kind:Int):Option Bool :=
 Option.bind (bif kind==16
 then (some true)
 else (some (kind==17))) fun q1 =>
 Option.bind (bif q1
 then (some true)
 else (some (kind==18))) fun q2 =>
 some q2
def w4 (a2_2:Api_Type)(e10:Api_TypeNode)(rec_typeexpr_contractive_1:Int->(List Int)->Api_Type->Unit->Option (Bool×(List Int)))(x11:Int×(List Int)):Option (Fl (Int×(List Int)) (Sum (List Int) (Bool×(List Int)))) :=
 bif decide (x11.1<(e10.Kids.length:Int))
 then (Option.bind (idx e10.Kids x11.1) fun e12 =>
 Option.bind (rec_typeexpr_contractive_1 e12 x11.2 a2_2 ()) fun r13 =>
 bif !r13.1
 then (some (.done (.inr (false,r13.2))))
 else (some (.next (wr .i64 (x11.1+1),r13.2))))
 else (some (.done (.inl x11.2)))
def a1z (_:Nat)(rec_typeexpr_contractive_1:Int->(List Int)->Api_Type->Unit->Option (Bool×(List Int)))(i:Int)(a1_1:List Int)(a2_2:Api_Type)(_:Unit):Option (Bool×(List Int)) :=
 Option.bind (idx a1_1 i) fun _ =>
 Option.bind (a1_1[i.toNat]?) fun e2 =>
 Option.bind (bif e2 != 0
 then (some true)
 else (Option.bind (idx a2_2.Nodes i) fun e3 =>
 Option.bind (a1W e3.Kind) fun r4 =>
 some (!r4))) fun q5 =>
 bif q5
 then (Option.bind (idx a1_1 i) fun _ =>
 Option.bind (a1_1[i.toNat]?) fun e7 =>
 some (e7 != 1,a1_1))
 else (Option.bind (idx a1_1 i) fun _ =>
 Option.bind (a1_1[i.toNat]?) fun _ =>
 Option.bind (idx a2_2.Nodes i) fun e10 =>
 Option.bind (z8 (w4 a2_2 e10 rec_typeexpr_contractive_1) ((e10.Kids.length:Int).toNat+1) (0,a1_1.set i.toNat 1)) fun (b14:Sum (List Int) (Bool×(List Int))) =>
 v8 (fun x15 =>
 Option.bind (idx x15 i) fun _ =>
 Option.bind (x15[i.toNat]?) fun _ =>
 some (true,x15.set i.toNat 2)) (fun y16 =>
 some (y16.1,y16.2)) b14)
def w9:Nat->Int->(List Int)->Api_Type->Unit->Option (Bool×(List Int))
 | 0=>fun _ _ _ _=>none
 | n+1=>a1z n (w9 n)
def Z1 (t:Api_Type)(n:Nat)(x2:Int×(List Int)):Option (Fl (Int×(List Int)) (Sum (List Int) (Bool×(List Int)))) :=
 bif decide (x2.1<(t.Nodes.length:Int))
 then (Option.bind (w9 n x2.1 x2.2 t ()) fun r3 =>
 bif !r3.1
 then (some (.done (.inr (false,r3.2))))
 else (some (.next (wr .i64 (x2.1+1),r3.2))))
 else (some (.done (.inl x2.2)))
def a1g (n:Nat)(t:Api_Type):Option Bool :=
 Option.bind (a5p (t.Nodes.length:Int) (t.Nodes.length:Int) 8) fun m1 =>
 Option.bind (z8 (Z1 t n) ((t.Nodes.length:Int).toNat+1) (0,List.replicate m1 (0:Int))) fun (b4:Sum (List Int) (Bool×(List Int))) =>
 v8 (fun _ =>
 some true) (fun y6 =>
 some y6.1) b4
def a0T (t:Api_Type)(r7:List Int)(x8:Int):Option (Fl Int (Sum Unit Int)) :=
 bif decide (x8<(r7.length:Int))
 then (Option.bind (idx r7 x8) fun e9 =>
 Option.bind (bif decide (e9<0)
 then (some true)
 else (some (decide ((t.Nodes.length:Int)<=e9)))) fun q10 =>
 bif q10
 then (some (.done (.inr 1)))
 else (some (.next (wr .i64 (x8+1)))))
 else (some (.done (.inl ())))
def a0U (t:Api_Type)(x2:Int):Option (Fl Int (Sum Unit Int)) :=
 bif decide (x2<(t.Nodes.length:Int))
 then (Option.bind (idx t.Nodes x2) fun e3 =>
 Option.bind (a11 e3) fun r4 =>
 Option.bind (bif !r4
 then (some true)
 else (Option.bind (a12 e3) fun r5 =>
 some (!r5))) fun q6 =>
 bif q6
 then (some (.done (.inr 1)))
 else (Option.bind (a3i e3) fun r7 =>
 Option.bind (z8 (a0T t r7) ((r7.length:Int).toNat+1) 0) fun b11 =>
 v8 (fun _ =>
 some (.next (wr .i64 (x2+1)))) (fun y13 =>
 some (.done (.inr y13))) b11))
 else (some (.done (.inl ())))
def J6 (n:Nat)(t:Api_Type):Option Int :=
 Option.bind (bif decide (t.Root<0)
 then (some true)
 else (some (decide ((t.Nodes.length:Int)<=t.Root)))) fun q1 =>
 bif q1
 then (some 1)
 else (Option.bind (z8 (a0U t) ((t.Nodes.length:Int).toNat+1) 0) fun b14 =>
 v8 (fun _ =>
 Option.bind (a1g n t) fun r17 =>
 bif !r17
 then (some 3)
 else (some 0)) (fun y16 =>
 some y16) b14)
def X8 (s:List Int)(f:Int->Option Bool)(x1:Int):Option (Fl Int (Sum Unit Int)) :=
 bif decide (x1<(s.length:Int))
 then (Option.bind (idx s x1) fun e2 =>
 Option.bind (f e2) fun r3 =>
 bif r3
 then (some (.done (.inr x1)))
 else (some (.next (wr .i64 (x1+1)))))
 else (some (.done (.inl ())))
def a1x (s:List Int)(f:Int->Option Bool):Option Int :=
 Option.bind (z8 (X8 s f) ((s.length:Int).toNat+1) 0) fun b4 =>
 v8 (fun _ =>
 some (-1)) (fun y6 =>
 some y6) b4
def Z4 (s:List Int)(f:Int->Option Bool):Option Bool :=
 Option.bind (a1x s f) fun r1 =>
 some (decide (0<=r1))
def a56 (i:Int)(a1_1:Api_Type):Option Bool :=
 Option.bind (bif decide (i<0)
 then (some true)
 else (some (decide ((a1_1.Nodes.length:Int)<=i)))) fun q1 =>
 Option.bind (bif q1
 then (some true)
 else (Option.bind (idx a1_1.Nodes i) fun e2 =>
 some (e2.Kind != 13))) fun q3 =>
 some q3
def a3F (t:Api_Type)(nodes:List Int):Option Bool :=
 Option.bind (Z4 nodes (fun z1 =>
 Option.bind (a56 z1 t) fun r2 =>
 some r2)) fun r3 =>
 some (!r3)
def Y3 (x1:(List Key)×Int)(x16:(Int×Int)×List Key):Option (Fl ((Int×Int)×List Key) (Int×List Key)) :=
 bif decide (x16.1.2<((x16.2.drop x1.2.toNat).length:Int))
 then (Option.bind (idx (x16.2.drop x1.2.toNat) x16.1.2) fun _ =>
 Option.bind (x16.2[(x1.2.toNat+x16.1.2.toNat)]?) fun e18 =>
 Option.bind (idx (x16.2.drop x1.2.toNat) (wr .i64 (x16.1.2-1))) fun _ =>
 Option.bind (x16.2[(x1.2.toNat+(wr .i64 (x16.1.2-1)).toNat)]?) fun e20 =>
 bif !(a2K e18 e20)
 then (Option.bind (idx (x16.2.drop x1.2.toNat) x16.1.2) fun _ =>
 Option.bind (x16.2[(x1.2.toNat+x16.1.2.toNat)]?) fun e22 =>
 Option.bind (idx x16.2 x16.1.1) fun _ =>
 Option.bind (x16.2[x16.1.1.toNat]?) fun _ =>
 some (.next ((wr .i64 (x16.1.1+1),wr .i64 (x16.1.2+1)),x16.2.set x16.1.1.toNat e22)))
 else (some (.next ((x16.1.1,wr .i64 (x16.1.2+1)),x16.2))))
 else (some (.done (x16.1.1,x16.2)))
def Q7 (x1:(List Key)×Int):Option (Fl ((List Key)×Int) (Sum (List Key) (List Key))) :=
 bif decide (x1.2<(x1.1.length:Int))
 then (Option.bind (idx x1.1 x1.2) fun _ =>
 Option.bind (x1.1[x1.2.toNat]?) fun e3 =>
 Option.bind (idx x1.1 (wr .i64 (x1.2-1))) fun _ =>
 Option.bind (x1.1[(wr .i64 (x1.2-1)).toNat]?) fun e5 =>
 bif a2K e3 e5
 then (Option.bind (idx x1.1 x1.2) fun _ =>
 Option.bind (z8 (Y3 x1) (((x1.1.drop x1.2.toNat).length:Int).toNat+1) ((x1.2,1),x1.1)) fun b25 =>
 Option.bind (idx b25.2 b25.1) fun _ =>
 bif Nat.blt b25.1.toNat b25.2.length
 then (Option.bind (cut (b25.2.take b25.1.toNat++List.replicate (b25.2.length-b25.1.toNat) (Key.mk 0 (⟨#[]⟩:ByteArray):Key)) 0 b25.1) fun y27 =>
 some (.done (.inr y27)))
 else (none))
 else (some (.next (x1.1,wr .i64 (x1.2+1)))))
 else (some (.done (.inl x1.1)))
def V6 (s:List Key):Option (List Key) :=
 bif decide ((s.length:Int)<2)
 then (some s)
 else (Option.bind (z8 Q7 ((s.length:Int).toNat+1) (s,1)) fun b28 =>
 v8 (fun x29 =>
 some x29) (fun y30 =>
 some y30) b28)
def a0W (s:List Key):Option (List Key) :=
 bif (s.length:Int)==(s.length:Int)&&(s.length:Int)==(s.length:Int)
 then (some s)
 else (none)
noncomputable def a1B (e3:Api_TypeNode)(x4:(List Key)×Int):Option (Fl ((List Key)×Int) (List Key)) :=
 bif decide (x4.2<(e3.Fields.length:Int))
 then (Option.bind (idx e3.Fields x4.2) fun e5 =>
 Option.bind (Q8 (x4.1.length+([e5.Key_]:List Key).length) 24) fun _ =>
 some (.next (x4.1++([e5.Key_]:List Key),wr .i64 (x4.2+1))))
 else (some (.done x4.1))
noncomputable def a1w (t:Api_Type)(nodes:List Int)(x1:(List Key)×Int):Option (Fl ((List Key)×Int) (List Key)) :=
 bif decide (x1.2<(nodes.length:Int))
 then (Option.bind (idx nodes x1.2) fun e2 =>
 Option.bind (idx t.Nodes e2) fun e3 =>
 Option.bind (z8 (a1B e3) ((e3.Fields.length:Int).toNat+1) (x1.1,0)) fun b7 =>
 some (.next (b7,wr .i64 (x1.2+1))))
 else (some (.done x1.1))
noncomputable def a1P (t:Api_Type)(nodes:List Int):Option (List Key) :=
 Option.bind (z8 (a1w t nodes) ((nodes.length:Int).toNat+1) ([],0)) fun b8 =>
 Option.bind (a9F b8 (fun z9 z10 =>
 Option.bind (Y2 z9 z10) fun r11 =>
 some r11)) fun r12 =>
 Option.bind (V6 r12.2) fun r13 =>
 Option.bind (a0W r13) fun r14 =>
 some r14
def a6u (n_0:Api_TypeNode)(k:Key)(x1:Int):Option (Fl Int (Sum Unit Int)) :=
 bif decide (x1<(n_0.Fields.length:Int))
 then (Option.bind (idx n_0.Fields x1) fun e2 =>
 bif a2K e2.Key_ k
 then (some (.done (.inr e2.Node)))
 else (some (.next (wr .i64 (x1+1)))))
 else (some (.done (.inl ())))
def a34 (n_0:Api_TypeNode)(k:Key):Option Int :=
 Option.bind (z8 (a6u n_0 k) ((n_0.Fields.length:Int).toNat+1) 0) fun b3 =>
 v8 (fun _ =>
 bif k.Kind==0
 then (some n_0.Rest.1)
 else (bif k.Kind==1
 then (some n_0.Rest.2)
 else (none))) (fun y5 =>
 some y5) b3
def a2t (n_0:Api_TypeNode)(k:Key)(x1:Int):Option (Fl Int (Sum Unit Bool)) :=
 bif decide (x1<(n_0.Fields.length:Int))
 then (Option.bind (idx n_0.Fields x1) fun e2 =>
 bif a2K e2.Key_ k
 then (some (.done (.inr (!e2.Optional))))
 else (some (.next (wr .i64 (x1+1)))))
 else (some (.done (.inl ())))
def a2I (n_0:Api_TypeNode)(k:Key):Option Bool :=
 Option.bind (z8 (a2t n_0 k) ((n_0.Fields.length:Int).toNat+1) 0) fun b3 =>
 v8 (fun _ =>
 some false) (fun y5 =>
 some y5) b3
def J3 (x1:(List Int)×Int)(x16:(Int×Int)×List Int):Option (Fl ((Int×Int)×List Int) (Int×List Int)) :=
 bif decide (x16.1.2<((x16.2.drop x1.2.toNat).length:Int))
 then (Option.bind (idx (x16.2.drop x1.2.toNat) x16.1.2) fun _ =>
 Option.bind (x16.2[(x1.2.toNat+x16.1.2.toNat)]?) fun e18 =>
 Option.bind (idx (x16.2.drop x1.2.toNat) (wr .i64 (x16.1.2-1))) fun _ =>
 Option.bind (x16.2[(x1.2.toNat+(wr .i64 (x16.1.2-1)).toNat)]?) fun e20 =>
 bif e18 != e20
 then (Option.bind (idx (x16.2.drop x1.2.toNat) x16.1.2) fun _ =>
 Option.bind (x16.2[(x1.2.toNat+x16.1.2.toNat)]?) fun e22 =>
 Option.bind (idx x16.2 x16.1.1) fun _ =>
 Option.bind (x16.2[x16.1.1.toNat]?) fun _ =>
 some (.next ((wr .i64 (x16.1.1+1),wr .i64 (x16.1.2+1)),x16.2.set x16.1.1.toNat e22)))
 else (some (.next ((x16.1.1,wr .i64 (x16.1.2+1)),x16.2))))
 else (some (.done (x16.1.1,x16.2)))
def V8 (x1:(List Int)×Int):Option (Fl ((List Int)×Int) (Sum (List Int) (List Int))) :=
 bif decide (x1.2<(x1.1.length:Int))
 then (Option.bind (idx x1.1 x1.2) fun _ =>
 Option.bind (x1.1[x1.2.toNat]?) fun e3 =>
 Option.bind (idx x1.1 (wr .i64 (x1.2-1))) fun _ =>
 Option.bind (x1.1[(wr .i64 (x1.2-1)).toNat]?) fun e5 =>
 bif e3==e5
 then (Option.bind (idx x1.1 x1.2) fun _ =>
 Option.bind (z8 (J3 x1) (((x1.1.drop x1.2.toNat).length:Int).toNat+1) ((x1.2,1),x1.1)) fun b25 =>
 Option.bind (idx b25.2 b25.1) fun _ =>
 bif Nat.blt b25.1.toNat b25.2.length
 then (Option.bind (cut (b25.2.take b25.1.toNat++List.replicate (b25.2.length-b25.1.toNat) (0:Int)) 0 b25.1) fun y27 =>
 some (.done (.inr y27)))
 else (none))
 else (some (.next (x1.1,wr .i64 (x1.2+1)))))
 else (some (.done (.inl x1.1)))
def a0R (s:List Int):Option (List Int) :=
 bif decide ((s.length:Int)<2)
 then (some s)
 else (Option.bind (z8 V8 ((s.length:Int).toNat+1) (s,1)) fun b28 =>
 v8 (fun x29 =>
 some x29) (fun y30 =>
 some y30) b28)
def a2Q (s:List Int):Option (List Int) :=
 bif (s.length:Int)==(s.length:Int)&&(s.length:Int)==(s.length:Int)
 then (some s)
 else (none)
def a3I (l:List Int):Option (List Int) :=
 Option.bind (X2 8 l) fun r1 =>
 Option.bind (b4N r1) fun r2 =>
 Option.bind (a0R r2.2) fun r3 =>
 Option.bind (a2Q r3) fun r4 =>
 some r4
def a2N (g:Api_Goal):Option Api_Goal :=
 Option.bind (a3I g.Pos) fun r1 =>
 Option.bind (a3I g.Neg) fun r2 =>
 some (Api_Goal.mk r1 r2 g.Lists)
def a0E (s:List Int)(v:Int)(x1:Int):Option (Fl Int (Sum Unit Int)) :=
 bif decide (x1<(s.length:Int))
 then (Option.bind (idx s x1) fun e2 =>
 bif v==e2
 then (some (.done (.inr x1)))
 else (some (.next (wr .i64 (x1+1)))))
 else (some (.done (.inl ())))
def a2s (s:List Int)(v:Int):Option Int :=
 Option.bind (z8 (a0E s v) ((s.length:Int).toNat+1) 0) fun b3 =>
 v8 (fun _ =>
 some (-1)) (fun y5 =>
 some y5) b3
def J0 (s:List Int)(v:Int):Option Bool :=
 Option.bind (a2s s v) fun r1 =>
 some (decide (0<=r1))
def a4w (x:Int)(a1_1:List Int):Option Bool :=
 Option.bind (J0 a1_1 x) fun r1 =>
 some r1
def a3P (a:List Int)(b:List Int):Option Bool :=
 Option.bind (Z4 a (fun z1 =>
 Option.bind (a4w z1 b) fun r2 =>
 some r2)) fun r3 =>
 some r3
def a1b (d:Api_Type)(t:Api_Line)(a3_3:Key)(x1:Int×Int×((List Int)×(List Int)×Bool)):Option (Fl (Int×Int×((List Int)×(List Int)×Bool)) (Int×((List Int)×(List Int)×Bool))) :=
 bif decide (x1.2.1<(t.Pos.length:Int))
 then (Option.bind (idx t.Pos x1.2.1) fun e2 =>
 Option.bind (idx d.Nodes e2) fun e3 =>
 Option.bind (a34 e3 a3_3) fun r4 =>
 Option.bind (Q8 (x1.2.2.1.length+([r4]:List Int).length) 8) fun _ =>
 Option.bind (idx d.Nodes e2) fun e6 =>
 Option.bind (a2I e6 a3_3) fun r7 =>
 bif r7
 then (some (.next (1,wr .i64 (x1.2.1+1),(x1.2.2.1++([r4]:List Int),x1.2.2.2.1,x1.2.2.2.2))))
 else (some (.next (x1.1,wr .i64 (x1.2.1+1),(x1.2.2.1++([r4]:List Int),x1.2.2.2.1,x1.2.2.2.2)))))
 else (some (.done (x1.1,(x1.2.2.1,x1.2.2.2.1,x1.2.2.2.2))))
def a1c (d:Api_Type)(t:Api_Line)(a2_2:Int)(a3_3:Key)(a4_4:List Record_place)(x9:Int×Bool×Int×((List Int)×(List Int)×Bool)):Option (Fl (Int×Bool×Int×((List Int)×(List Int)×Bool)) (Int×Bool×((List Int)×(List Int)×Bool))) :=
 bif decide (x9.2.2.1<(a4_4.length:Int))
 then (Option.bind (idx a4_4 x9.2.2.1) fun _ =>
 Option.bind (a4_4[x9.2.2.1.toNat]?) fun e11 =>
 bif e11.key != a2_2
 then (some (.next (x9.1,x9.2.1,wr .i64 (x9.2.2.1+1),(x9.2.2.2.1,x9.2.2.2.2.1,x9.2.2.2.2.2))))
 else (bif e11.absent
 then (some (.next (x9.1,true,wr .i64 (x9.2.2.1+1),(x9.2.2.2.1,x9.2.2.2.2.1,x9.2.2.2.2.2))))
 else (Option.bind (idx t.Neg x9.2.2.1) fun e12 =>
 Option.bind (idx d.Nodes e12) fun e13 =>
 Option.bind (a34 e13 a3_3) fun r14 =>
 Option.bind (Q8 (x9.2.2.2.2.1.length+([r14]:List Int).length) 8) fun _ =>
 some (.next (1,x9.2.1,wr .i64 (x9.2.2.1+1),(x9.2.2.2.1,x9.2.2.2.2.1++([r14]:List Int),x9.2.2.2.2.2))))))
 else (some (.done (x9.1,x9.2.1,(x9.2.2.2.1,x9.2.2.2.2.1,x9.2.2.2.2.2))))
def a3v (d:Api_Type)(t:Api_Line)(a2_2:Int)(a3_3:Key)(a4_4:List Record_place):Option (Int×Api_Goal×Bool) :=
 Option.bind (z8 (a1b d t a3_3) ((t.Pos.length:Int).toNat+1) (2,0,([],[],false))) fun b8 =>
 Option.bind (z8 (a1c d t a2_2 a3_3 a4_4) ((a4_4.length:Int).toNat+1) (b8.1,false,0,(b8.2.1,b8.2.2.1,b8.2.2.2))) fun b16 =>
 bif b16.2.1
 then (some (0,Api_Goal.mk ([]:List Int) ([]:List Int) false,b16.1==2))
 else (Option.bind (a2N (Api_Goal.mk b16.2.2.1 b16.2.2.2.1 b16.2.2.2.2)) fun r17 =>
 Option.bind (a3P b16.2.2.1 b16.2.2.2.1) fun r18 =>
 some (b16.1,r17,!r18))
def a05 (d:Api_Type)(t:Api_Line)(a2_2:List Key)(a3_3:List Record_place)(x2:Int×((List Key)×(List Int)×(List Api_Goal)×(List Int)×(List Int)×Bool×(List Int)×(List Int)×Bool×(List Api_SomeKey))×((List Key)×(List Int)×(List Api_Goal)×(List Int)×(List Int)×Bool×(List Int)×(List Int)×Bool×(List Api_SomeKey))):Option (Fl (Int×((List Key)×(List Int)×(List Api_Goal)×(List Int)×(List Int)×Bool×(List Int)×(List Int)×Bool×(List Api_SomeKey))×((List Key)×(List Int)×(List Api_Goal)×(List Int)×(List Int)×Bool×(List Int)×(List Int)×Bool×(List Api_SomeKey))) (Sum (((List Key)×(List Int)×(List Api_Goal)×(List Int)×(List Int)×Bool×(List Int)×(List Int)×Bool×(List Api_SomeKey))×((List Key)×(List Int)×(List Api_Goal)×(List Int)×(List Int)×Bool×(List Int)×(List Int)×Bool×(List Api_SomeKey))) (Bool×((List Key)×(List Int)×(List Api_Goal)×(List Int)×(List Int)×Bool×(List Int)×(List Int)×Bool×(List Api_SomeKey))×((List Key)×(List Int)×(List Api_Goal)×(List Int)×(List Int)×Bool×(List Int)×(List Int)×Bool×(List Api_SomeKey))))) :=
 bif decide (x2.1<(a2_2.length:Int))
 then (Option.bind (idx a2_2 x2.1) fun e3 =>
 Option.bind (a3v d t x2.1 e3 a3_3) fun r4 =>
 bif !r4.2.2
 then (some (.done (.inr (false,(x2.2.2.1,x2.2.2.2.1,x2.2.2.2.2.1,x2.2.2.2.2.2.1,x2.2.2.2.2.2.2.1,x2.2.2.2.2.2.2.2.1,x2.2.2.2.2.2.2.2.2.1,x2.2.2.2.2.2.2.2.2.2.1,x2.2.2.2.2.2.2.2.2.2.2.1,x2.2.2.2.2.2.2.2.2.2.2.2),(x2.2.2.1,x2.2.2.2.1,x2.2.2.2.2.1,x2.2.2.2.2.2.1,x2.2.2.2.2.2.2.1,x2.2.2.2.2.2.2.2.1,x2.2.2.2.2.2.2.2.2.1,x2.2.2.2.2.2.2.2.2.2.1,x2.2.2.2.2.2.2.2.2.2.2.1,x2.2.2.2.2.2.2.2.2.2.2.2)))))
 else (Option.bind (Q8 (x2.2.2.2.1.length+([r4.1]:List Int).length) 8) fun _ =>
 Option.bind (Q8 (x2.2.2.2.2.1.length+([r4.2.1]:List Api_Goal).length) 56) fun _ =>
 some (.next (wr .i64 (x2.1+1),(x2.2.1.1,x2.2.1.2.1,x2.2.1.2.2.1,x2.2.1.2.2.2.1,x2.2.1.2.2.2.2.1,x2.2.1.2.2.2.2.2.1,x2.2.1.2.2.2.2.2.2.1,x2.2.1.2.2.2.2.2.2.2.1,x2.2.1.2.2.2.2.2.2.2.2.1,x2.2.1.2.2.2.2.2.2.2.2.2),(x2.2.2.1,x2.2.2.2.1++([r4.1]:List Int),x2.2.2.2.2.1++([r4.2.1]:List Api_Goal),x2.2.2.2.2.2.1,x2.2.2.2.2.2.2.1,x2.2.2.2.2.2.2.2.1,x2.2.2.2.2.2.2.2.2.1,x2.2.2.2.2.2.2.2.2.2.1,x2.2.2.2.2.2.2.2.2.2.2.1,x2.2.2.2.2.2.2.2.2.2.2.2)))))
 else (some (.done (.inl ((x2.2.1.1,x2.2.1.2.1,x2.2.1.2.2.1,x2.2.1.2.2.2.1,x2.2.1.2.2.2.2.1,x2.2.1.2.2.2.2.2.1,x2.2.1.2.2.2.2.2.2.1,x2.2.1.2.2.2.2.2.2.2.1,x2.2.1.2.2.2.2.2.2.2.2.1,x2.2.1.2.2.2.2.2.2.2.2.2),(x2.2.2.1,x2.2.2.2.1,x2.2.2.2.2.1,x2.2.2.2.2.2.1,x2.2.2.2.2.2.2.1,x2.2.2.2.2.2.2.2.1,x2.2.2.2.2.2.2.2.2.1,x2.2.2.2.2.2.2.2.2.2.1,x2.2.2.2.2.2.2.2.2.2.2.1,x2.2.2.2.2.2.2.2.2.2.2.2)))))
def a06 (d:Api_Type)(t:Api_Line)(x10:Int×((List Key)×(List Int)×(List Api_Goal)×(List Int)×(List Int)×Bool×(List Int)×(List Int)×Bool×(List Api_SomeKey))):Option (Fl (Int×((List Key)×(List Int)×(List Api_Goal)×(List Int)×(List Int)×Bool×(List Int)×(List Int)×Bool×(List Api_SomeKey))) ((List Key)×(List Int)×(List Api_Goal)×(List Int)×(List Int)×Bool×(List Int)×(List Int)×Bool×(List Api_SomeKey))) :=
 bif decide (x10.1<(t.Pos.length:Int))
 then (Option.bind (idx t.Pos x10.1) fun e11 =>
 Option.bind (idx d.Nodes e11) fun e12 =>
 Option.bind (Q8 (x10.2.2.2.2.1.length+([e12.Rest.1]:List Int).length) 8) fun _ =>
 Option.bind (idx d.Nodes e11) fun e14 =>
 Option.bind (Q8 (x10.2.2.2.2.2.2.2.1.length+([e14.Rest.2]:List Int).length) 8) fun _ =>
 some (.next (wr .i64 (x10.1+1),(x10.2.1,x10.2.2.1,x10.2.2.2.1,x10.2.2.2.2.1++([e12.Rest.1]:List Int),x10.2.2.2.2.2.1,x10.2.2.2.2.2.2.1,x10.2.2.2.2.2.2.2.1++([e14.Rest.2]:List Int),x10.2.2.2.2.2.2.2.2.1,x10.2.2.2.2.2.2.2.2.2.1,x10.2.2.2.2.2.2.2.2.2.2))))
 else (some (.done (x10.2.1,x10.2.2.1,x10.2.2.2.1,x10.2.2.2.2.1,x10.2.2.2.2.2.1,x10.2.2.2.2.2.2.1,x10.2.2.2.2.2.2.2.1,x10.2.2.2.2.2.2.2.2.1,x10.2.2.2.2.2.2.2.2.2.1,x10.2.2.2.2.2.2.2.2.2.2)))
def a1X (d:Api_Type)(t:Api_Line)(a3_3:List Record_place)(x19:Int×Api_Shape×((List Key)×(List Int)×(List Api_Goal)×(List Int)×(List Int)×Bool×(List Int)×(List Int)×Bool×(List Api_SomeKey))):Option (Fl (Int×Api_Shape×((List Key)×(List Int)×(List Api_Goal)×(List Int)×(List Int)×Bool×(List Int)×(List Int)×Bool×(List Api_SomeKey))) (Sum (Api_Shape×((List Key)×(List Int)×(List Api_Goal)×(List Int)×(List Int)×Bool×(List Int)×(List Int)×Bool×(List Api_SomeKey))) (Bool×Api_Shape×((List Key)×(List Int)×(List Api_Goal)×(List Int)×(List Int)×Bool×(List Int)×(List Int)×Bool×(List Api_SomeKey))))) :=
 bif decide (x19.1<(a3_3.length:Int))
 then (Option.bind (idx a3_3 x19.1) fun _ =>
 Option.bind (a3_3[x19.1.toNat]?) fun e21 =>
 bif decide (0<=e21.key)
 then (some (.next (wr .i64 (x19.1+1),x19.2.1,(x19.2.2.1,x19.2.2.2.1,x19.2.2.2.2.1,x19.2.2.2.2.2.1,x19.2.2.2.2.2.2.1,x19.2.2.2.2.2.2.2.1,x19.2.2.2.2.2.2.2.2.1,x19.2.2.2.2.2.2.2.2.2.1,x19.2.2.2.2.2.2.2.2.2.2.1,x19.2.2.2.2.2.2.2.2.2.2.2))))
 else (Option.bind (Option.bind (idx t.Neg x19.1) fun e22 =>
 Option.bind (idx d.Nodes e22) fun e23 =>
 bif e21.kind==0
 then (some e23.Rest.1)
 else (bif e21.kind==1
 then (some e23.Rest.2)
 else (none))) fun b24 =>
 Option.bind (bif e21.kind==0
 then (Option.bind (J0 x19.2.2.2.2.2.1 b24) fun r25 =>
 some r25)
 else (bif e21.kind==1
 then (Option.bind (J0 x19.2.2.2.2.2.2.2.2.1 b24) fun r26 =>
 some r26)
 else (none))) fun b27 =>
 bif b27
 then (some (.done (.inr (false,Api_Shape.mk x19.2.2.1 x19.2.2.2.1 x19.2.2.2.2.1 (Api_Goal.mk x19.2.2.2.2.2.1 x19.2.2.2.2.2.2.1 x19.2.2.2.2.2.2.2.1,Api_Goal.mk x19.2.2.2.2.2.2.2.2.1 x19.2.2.2.2.2.2.2.2.2.1 x19.2.2.2.2.2.2.2.2.2.2.1) x19.2.2.2.2.2.2.2.2.2.2.2,(x19.2.2.1,x19.2.2.2.1,x19.2.2.2.2.1,x19.2.2.2.2.2.1,x19.2.2.2.2.2.2.1,x19.2.2.2.2.2.2.2.1,x19.2.2.2.2.2.2.2.2.1,x19.2.2.2.2.2.2.2.2.2.1,x19.2.2.2.2.2.2.2.2.2.2.1,x19.2.2.2.2.2.2.2.2.2.2.2)))))
 else (Option.bind (Q8 (x19.2.2.2.2.2.2.2.2.2.2.2.length+([Api_SomeKey.mk e21.kind (Api_Goal.mk ([]:List Int) ([b24]:List Int) false)]:List Api_SomeKey).length) 64) fun _ =>
 some (.next (wr .i64 (x19.1+1),x19.2.1,(x19.2.2.1,x19.2.2.2.1,x19.2.2.2.2.1,x19.2.2.2.2.2.1,x19.2.2.2.2.2.2.1,x19.2.2.2.2.2.2.2.1,x19.2.2.2.2.2.2.2.2.1,x19.2.2.2.2.2.2.2.2.2.1,x19.2.2.2.2.2.2.2.2.2.2.1,x19.2.2.2.2.2.2.2.2.2.2.2++([Api_SomeKey.mk e21.kind (Api_Goal.mk ([]:List Int) ([b24]:List Int) false)]:List Api_SomeKey)))))))
 else (some (.done (.inl (x19.2.1,(x19.2.2.1,x19.2.2.2.1,x19.2.2.2.2.1,x19.2.2.2.2.2.1,x19.2.2.2.2.2.2.1,x19.2.2.2.2.2.2.2.1,x19.2.2.2.2.2.2.2.2.1,x19.2.2.2.2.2.2.2.2.2.1,x19.2.2.2.2.2.2.2.2.2.2.1,x19.2.2.2.2.2.2.2.2.2.2.2)))))
def a4j (d:Api_Type)(t:Api_Line)(a2_2:List Key)(a3_3:List Record_place):Option (Api_Shape×Bool) :=
 Option.bind (X2 24 a2_2) fun r1 =>
 Option.bind (z8 (a05 d t a2_2 a3_3) ((a2_2.length:Int).toNat+1) (0,(([]:List Key),([]:List Int),([]:List Api_Goal),([]:List Int),([]:List Int),false,([]:List Int),([]:List Int),false,([]:List Api_SomeKey)),(r1,[],[],[],[],false,[],[],false,[]))) fun (b7:Sum (((List Key)×(List Int)×(List Api_Goal)×(List Int)×(List Int)×Bool×(List Int)×(List Int)×Bool×(List Api_SomeKey))×((List Key)×(List Int)×(List Api_Goal)×(List Int)×(List Int)×Bool×(List Int)×(List Int)×Bool×(List Api_SomeKey))) (Bool×((List Key)×(List Int)×(List Api_Goal)×(List Int)×(List Int)×Bool×(List Int)×(List Int)×Bool×(List Api_SomeKey))×((List Key)×(List Int)×(List Api_Goal)×(List Int)×(List Int)×Bool×(List Int)×(List Int)×Bool×(List Api_SomeKey)))) =>
 v8 (fun x8 =>
 Option.bind (z8 (a06 d t) ((t.Pos.length:Int).toNat+1) (0,(x8.2.1,x8.2.2.1,x8.2.2.2.1,x8.2.2.2.2.1,x8.2.2.2.2.2.1,x8.2.2.2.2.2.2.1,x8.2.2.2.2.2.2.2.1,x8.2.2.2.2.2.2.2.2.1,x8.2.2.2.2.2.2.2.2.2.1,x8.2.2.2.2.2.2.2.2.2.2))) fun b16 =>
 Option.bind (a2N (Api_Goal.mk b16.2.2.2.1 b16.2.2.2.2.1 b16.2.2.2.2.2.1)) fun r17 =>
 Option.bind (a2N (Api_Goal.mk b16.2.2.2.2.2.2.1 b16.2.2.2.2.2.2.2.1 b16.2.2.2.2.2.2.2.2.1)) fun r18 =>
 Option.bind (z8 (a1X d t a3_3) ((a3_3.length:Int).toNat+1) (0,Api_Shape.mk x8.1.1 x8.1.2.1 x8.1.2.2.1 (Api_Goal.mk x8.1.2.2.2.1 x8.1.2.2.2.2.1 x8.1.2.2.2.2.2.1,Api_Goal.mk x8.1.2.2.2.2.2.2.1 x8.1.2.2.2.2.2.2.2.1 x8.1.2.2.2.2.2.2.2.2.1) x8.1.2.2.2.2.2.2.2.2.2,(b16.1,b16.2.1,b16.2.2.1,r17.Pos,r17.Neg,r17.Lists,r18.Pos,r18.Neg,r18.Lists,b16.2.2.2.2.2.2.2.2.2))) fun (b29:Sum (Api_Shape×((List Key)×(List Int)×(List Api_Goal)×(List Int)×(List Int)×Bool×(List Int)×(List Int)×Bool×(List Api_SomeKey))) (Bool×Api_Shape×((List Key)×(List Int)×(List Api_Goal)×(List Int)×(List Int)×Bool×(List Int)×(List Int)×Bool×(List Api_SomeKey)))) =>
 v8 (fun x30 =>
 some (Api_Shape.mk x30.2.1 x30.2.2.1 x30.2.2.2.1 (Api_Goal.mk x30.2.2.2.2.1 x30.2.2.2.2.2.1 x30.2.2.2.2.2.2.1,Api_Goal.mk x30.2.2.2.2.2.2.2.1 x30.2.2.2.2.2.2.2.2.1 x30.2.2.2.2.2.2.2.2.2.1) x30.2.2.2.2.2.2.2.2.2.2,true)) (fun y31 =>
 some (y31.2.1,y31.1)) b29) (fun y9 =>
 some (Api_Shape.mk y9.2.1.1 y9.2.1.2.1 y9.2.1.2.2.1 (Api_Goal.mk y9.2.1.2.2.2.1 y9.2.1.2.2.2.2.1 y9.2.1.2.2.2.2.2.1,Api_Goal.mk y9.2.1.2.2.2.2.2.2.1 y9.2.1.2.2.2.2.2.2.2.1 y9.2.1.2.2.2.2.2.2.2.2.1) y9.2.1.2.2.2.2.2.2.2.2.2,y9.1)) b7
def a04 (i:Int)(a1_1:Api_Type):Option Bool :=
 Option.bind (idx a1_1.Nodes i) fun e1 =>
 some (e1.Kind==2)
def a1v (t:Api_Type)(n_1:Api_TypeNode)(keys:List Key)(x1:(List Record_place)×Int):Option (Fl ((List Record_place)×Int) (List Record_place)) :=
 bif decide (x1.2<(keys.length:Int))
 then (Option.bind (idx keys x1.2) fun e2 =>
 Option.bind (a34 n_1 e2) fun r3 =>
 Option.bind (a04 r3 t) fun r4 =>
 Option.bind (bif !r4
 then (Option.bind (Q8 (x1.1.length+([Record_place.mk x1.2 false 0]:List Record_place).length) 24) fun _ =>
 some (x1.1++([Record_place.mk x1.2 false 0]:List Record_place)))
 else (some x1.1)) fun b6 =>
 Option.bind (a2I n_1 e2) fun r7 =>
 bif r7
 then (Option.bind (Q8 (b6.length+([Record_place.mk x1.2 true 0]:List Record_place).length) 24) fun _ =>
 some (.next (b6++([Record_place.mk x1.2 true 0]:List Record_place),wr .i64 (x1.2+1))))
 else (some (.next (b6,wr .i64 (x1.2+1)))))
 else (some (.done x1.1))
def a1u (t:Api_Type)(n_1:Api_TypeNode)(x10:(List Record_place)×Int):Option (Fl ((List Record_place)×Int) (List Record_place)) :=
 bif decide (x10.2<2)
 then (Option.bind (bif x10.2==0
 then (some (x10.2,n_1.Rest.1))
 else (bif x10.2==1
 then (some (x10.2,n_1.Rest.2))
 else (none))) fun b11 =>
 Option.bind (a04 b11.2 t) fun r12 =>
 bif !r12
 then (Option.bind (Q8 (x10.1.length+([Record_place.mk (-1) false b11.1]:List Record_place).length) 24) fun _ =>
 some (.next (x10.1++([Record_place.mk (-1) false b11.1]:List Record_place),wr .i64 (x10.2+1))))
 else (some (.next (x10.1,wr .i64 (x10.2+1)))))
 else (some (.done x10.1))
def a3Q (t:Api_Type)(n_1:Api_TypeNode)(keys:List Key):Option (List Record_place) :=
 Option.bind (z8 (a1v t n_1 keys) ((keys.length:Int).toNat+1) ([],0)) fun b9 =>
 Option.bind (z8 (a1u t n_1) ((2:Int).toNat+1) (b9,0)) fun b14 =>
 some b14
def a0Y (k:Int)(a1_1:Api_Line)(a2_2:Api_Type)(a3_3:List Key)(r6:List Record_place)(rec_record_Shapes_1:Int->Api_Line->Api_Type->(List Key)->(List Record_place)->(List Api_Shape)->Unit->Option ((List Record_place)×(List Api_Shape)))(x7:(List Record_place)×Int×(List Record_place)×(List Api_Shape)):Option (Fl ((List Record_place)×Int×(List Record_place)×(List Api_Shape)) ((List Record_place)×(List Record_place)×(List Api_Shape))) :=
 bif decide (x7.2.1<(r6.length:Int))
 then (Option.bind (idx x7.1 x7.2.1) fun _ =>
 Option.bind (x7.1[x7.2.1.toNat]?) fun e9 =>
 Option.bind (idx x7.2.2.1 k) fun _ =>
 Option.bind (x7.2.2.1[k.toNat]?) fun _ =>
 Option.bind (rec_record_Shapes_1 (wr .i64 (k+1)) a1_1 a2_2 a3_3 (x7.2.2.1.set k.toNat e9) x7.2.2.2 ()) fun r12 =>
 some (.next (x7.1,wr .i64 (x7.2.1+1),r12.1,r12.2)))
 else (some (.done (x7.1,x7.2.2.1,x7.2.2.2)))
def a1d (_:Nat)(rec_record_Shapes_1:Int->Api_Line->Api_Type->(List Key)->(List Record_place)->(List Api_Shape)->Unit->Option ((List Record_place)×(List Api_Shape)))(k:Int)(a1_1:Api_Line)(a2_2:Api_Type)(a3_3:List Key)(a4_4:List Record_place)(a5_5:List Api_Shape)(_:Unit):Option ((List Record_place)×(List Api_Shape)) :=
 bif k==(a1_1.Neg.length:Int)
 then (Option.bind (a4j a2_2 a1_1 a3_3 a4_4) fun r1 =>
 Option.bind (bif r1.2
 then (Option.bind (Q8 (a5_5.length+([r1.1]:List Api_Shape).length) 208) fun _ =>
 some (a5_5++([r1.1]:List Api_Shape)))
 else (some a5_5)) fun b3 =>
 some (a4_4,b3))
 else (Option.bind (idx a1_1.Neg k) fun e4 =>
 Option.bind (idx a2_2.Nodes e4) fun e5 =>
 Option.bind (a3Q a2_2 e5 a3_3) fun r6 =>
 Option.bind (z8 (a0Y k a1_1 a2_2 a3_3 r6 rec_record_Shapes_1) ((r6.length:Int).toNat+1) (r6,0,a4_4,a5_5)) fun b13 =>
 some (b13.2.1,b13.2.2))
def K3:Nat->Int->Api_Line->Api_Type->(List Key)->(List Record_place)->(List Api_Shape)->Unit->Option ((List Record_place)×(List Api_Shape))
 | 0=>fun _ _ _ _ _ _ _=>none
 | n+1=>a1d n (K3 n)
noncomputable def a1a (n:Nat)(t:Api_Type)(l:Api_Line):Option ((List Api_Shape)×Int) :=
 bif l.Kind != 8
 then (some ([],9))
 else (Option.bind (J6 n t) fun r1 =>
 Option.bind (bif r1 != 0
 then (some true)
 else (Option.bind (a3F t l.Pos) fun r2 =>
 some (!r2))) fun q3 =>
 Option.bind (bif q3
 then (some true)
 else (Option.bind (a3F t l.Neg) fun r4 =>
 some (!r4))) fun q5 =>
 bif q5
 then (some ([],1))
 else (Option.bind (X2 8 l.Pos) fun r6 =>
 Option.bind (Q8 (r6.length+l.Neg.length) 8) fun _ =>
 Option.bind (a1P t (r6++l.Neg)) fun r8 =>
 Option.bind (a5p (l.Neg.length:Int) (l.Neg.length:Int) 24) fun m9 =>
 Option.bind (K3 n 0 l t r8 (List.replicate m9 (Record_place.mk 0 false 0:Record_place)) ([]) ()) fun r10 =>
 some (r10.2,0)))
def a7z:Option Val :=
 some (Val.mk 5 0 (⟨#[]⟩:ByteArray) ([]:List Val) ([]:List Key) ([]:List Ent) ([]:List ByteArray))
def a3D (c:Int):Option Bool :=
 Option.bind (bif decide (97<=c)
 then (some (decide (c<=122)))
 else (some false)) fun q1 =>
 some q1
def a6c (c:Int):Option Bool :=
 Option.bind (bif decide (48<=c)
 then (some (decide (c<=57)))
 else (some false)) fun q1 =>
 some q1
def a8x (s:ByteArray)(x5:Int):Option (Fl Int (Sum Unit Bool)) :=
 bif decide (x5<(s.size:Int))
 then (Option.bind (a54 s x5) fun e6 =>
 Option.bind (a3D (e6.toNat:Int)) fun r7 =>
 Option.bind (bif !r7
 then (Option.bind (a54 s x5) fun e8 =>
 Option.bind (a6c (e8.toNat:Int)) fun r9 =>
 some (!r9))
 else (some false)) fun q10 =>
 Option.bind (bif q10
 then (Option.bind (a54 s x5) fun e11 =>
 some ((e11.toNat:Int) != 95))
 else (some false)) fun q12 =>
 bif q12
 then (some (.done (.inr false)))
 else (some (.next (wr .i64 (x5+1)))))
 else (some (.done (.inl ())))
def a5F (s:ByteArray):Option Bool :=
 Option.bind (bif decide ((s.size:Int)<1)
 then (some true)
 else (some (decide (16<(s.size:Int))))) fun q1 =>
 Option.bind (bif q1
 then (some true)
 else (Option.bind (a54 s 0) fun e2 =>
 Option.bind (a3D (e2.toNat:Int)) fun r3 =>
 some (!r3))) fun q4 =>
 bif q4
 then (some false)
 else (Option.bind (z8 (a8x s) ((s.size:Int).toNat+1) 1) fun b13 =>
 v8 (fun _ =>
 some true) (fun y15 =>
 some y15) b13)
def a4p (k:Key):Option Bool :=
 Option.bind (bif k.Kind==0
 then (Option.bind (a5F k.Text) fun r1 =>
 some r1)
 else (some false)) fun q2 =>
 Option.bind (bif q2
 then (some true)
 else (Option.bind (bif k.Kind==1
 then (some (decide ((k.Text.size:Int)<=64)))
 else (some false)) fun q3 =>
 some q3)) fun q4 =>
 some q4
def a5I (l:List Val):Option (List Val) :=
 Option.bind (Q8 (0+l.length) 128) fun _ =>
 some l
def a6d (a:Int)(b:Int):Option Int :=
 bif decide (a<b)
 then (some (-1))
 else (bif decide (b<a)
 then (some 1)
 else (some 0))
def a6I (a:ByteArray)(b:ByteArray):Option Int :=
 bif a1E a b
 then (some (-1))
 else (bif !(a1E a b||J7 a b)
 then (some 1)
 else (some 0))
def a3z (a:Key)(b:Key):Option Int :=
 bif a.Kind != b.Kind
 then (Option.bind (a6d a.Kind b.Kind) fun r1 =>
 some r1)
 else (Option.bind (a6I a.Text b.Text) fun r2 =>
 some r2)
def b0g (d:List Key)(x1:Int×(Int×Int×ByteArray×(List Val)×(List Key)×(List Ent)×(List ByteArray))):Option (Fl (Int×(Int×Int×ByteArray×(List Val)×(List Key)×(List Ent)×(List ByteArray))) (Sum (Int×Int×ByteArray×(List Val)×(List Key)×(List Ent)×(List ByteArray)) (Int×(Int×Int×ByteArray×(List Val)×(List Key)×(List Ent)×(List ByteArray))))) :=
 bif decide (x1.1<(d.length:Int))
 then (Option.bind (idx d x1.1) fun e2 =>
 Option.bind (a4p e2) fun r3 =>
 bif !r3
 then (some (.done (.inr (1,(0,0,(⟨#[]⟩:ByteArray),[],[],[],[])))))
 else (some (.next (wr .i64 (x1.1+1),(x1.2.1,x1.2.2.1,x1.2.2.2.1,x1.2.2.2.2.1,x1.2.2.2.2.2.1,x1.2.2.2.2.2.2.1,x1.2.2.2.2.2.2.2)))))
 else (some (.done (.inl (x1.2.1,x1.2.2.1,x1.2.2.2.1,x1.2.2.2.2.1,x1.2.2.2.2.2.1,x1.2.2.2.2.2.2.1,x1.2.2.2.2.2.2.2))))
def b0o (d:List Key)(x7:Int×(Int×Int×ByteArray×(List Val)×(List Key)×(List Ent)×(List ByteArray))×(Int×Int×ByteArray×(List Val)×(List Key)×(List Ent)×(List ByteArray)))(x8:Int):Option (Fl Int Int) :=
 Option.bind (bif decide (x8<(x7.2.2.2.2.2.2.1.length:Int))
 then (Option.bind (idx x7.2.2.2.2.2.2.1 x8) fun e9 =>
 Option.bind (idx d x7.1) fun e10 =>
 Option.bind (a3z e9 e10) fun r11 =>
 some (decide (r11<0)))
 else (some false)) fun q12 =>
 bif q12
 then (some (.next (wr .i64 (x8+1))))
 else (some (.done x8))
def b0I (d:List Key)(t:List Val)(x7:Int×(Int×Int×ByteArray×(List Val)×(List Key)×(List Ent)×(List ByteArray))×(Int×Int×ByteArray×(List Val)×(List Key)×(List Ent)×(List ByteArray))):Option (Fl (Int×(Int×Int×ByteArray×(List Val)×(List Key)×(List Ent)×(List ByteArray))×(Int×Int×ByteArray×(List Val)×(List Key)×(List Ent)×(List ByteArray))) (Sum ((Int×Int×ByteArray×(List Val)×(List Key)×(List Ent)×(List ByteArray))×(Int×Int×ByteArray×(List Val)×(List Key)×(List Ent)×(List ByteArray))) (Int×(Int×Int×ByteArray×(List Val)×(List Key)×(List Ent)×(List ByteArray))×(Int×Int×ByteArray×(List Val)×(List Key)×(List Ent)×(List ByteArray))))) :=
 bif decide (x7.1<(d.length:Int))
 then (Option.bind (z8 (b0o d x7) ((x7.2.2.2.2.2.2.1.length:Int).toNat+1) 0) fun b13 =>
 Option.bind (bif decide (b13<(x7.2.2.2.2.2.2.1.length:Int))
 then (Option.bind (idx x7.2.2.2.2.2.2.1 b13) fun e14 =>
 Option.bind (idx d x7.1) fun e15 =>
 some (a2K e14 e15))
 else (some false)) fun q16 =>
 bif q16
 then (some (.done (.inr (6,(0,0,(⟨#[]⟩:ByteArray),[],[],[],[]),(x7.2.2.1,x7.2.2.2.1,x7.2.2.2.2.1,x7.2.2.2.2.2.1,x7.2.2.2.2.2.2.1,x7.2.2.2.2.2.2.2.1,x7.2.2.2.2.2.2.2.2)))))
 else (Option.bind (cut x7.2.2.2.2.2.2.1 0 b13) fun y17 =>
 Option.bind (Q8 (0+y17.length) 24) fun _ =>
 Option.bind (cut x7.2.2.2.2.2.1 0 b13) fun y19 =>
 Option.bind (a5I y19) fun r20 =>
 Option.bind (idx d x7.1) fun e21 =>
 Option.bind (Q8 (y17.length+([e21]:List Key).length) 24) fun _ =>
 Option.bind (cut x7.2.2.2.2.2.2.1 b13 (x7.2.2.2.2.2.2.1.length:Int)) fun y23 =>
 Option.bind (Q8 ((y17++([e21]:List Key)).length+y23.length) 24) fun _ =>
 Option.bind (idx t x7.1) fun e25 =>
 Option.bind (Q8 (r20.length+([e25]:List Val).length) 128) fun _ =>
 Option.bind (cut x7.2.2.2.2.2.1 b13 (x7.2.2.2.2.2.1.length:Int)) fun y27 =>
 Option.bind (Q8 ((r20++([e25]:List Val)).length+y27.length) 128) fun _ =>
 some (.next (wr .i64 (x7.1+1),(x7.2.1.1,x7.2.1.2.1,x7.2.1.2.2.1,x7.2.1.2.2.2.1,x7.2.1.2.2.2.2.1,x7.2.1.2.2.2.2.2.1,x7.2.1.2.2.2.2.2.2),(x7.2.2.1,x7.2.2.2.1,x7.2.2.2.2.1,(r20++([e25]:List Val))++y27,(y17++([e21]:List Key))++y23,x7.2.2.2.2.2.2.2.1,x7.2.2.2.2.2.2.2.2)))))
 else (some (.done (.inl ((x7.2.1.1,x7.2.1.2.1,x7.2.1.2.2.1,x7.2.1.2.2.2.1,x7.2.1.2.2.2.2.1,x7.2.1.2.2.2.2.2.1,x7.2.1.2.2.2.2.2.2),(x7.2.2.1,x7.2.2.2.1,x7.2.2.2.2.1,x7.2.2.2.2.2.1,x7.2.2.2.2.2.2.1,x7.2.2.2.2.2.2.2.1,x7.2.2.2.2.2.2.2.2)))))
def a2R (d:List Key)(t:List Val):Option (Val×Int) :=
 bif (d.length:Int) != (t.length:Int)
 then (some (Val.mk 0 0 (⟨#[]⟩:ByteArray) ([]:List Val) ([]:List Key) ([]:List Ent) ([]:List ByteArray),1))
 else (Option.bind (z8 (b0g d) ((d.length:Int).toNat+1) (0,(0,0,(⟨#[]⟩:ByteArray),[],[],[],[]))) fun (b4:Sum (Int×Int×ByteArray×(List Val)×(List Key)×(List Ent)×(List ByteArray)) (Int×(Int×Int×ByteArray×(List Val)×(List Key)×(List Ent)×(List ByteArray)))) =>
 v8 (fun x5 =>
 Option.bind (z8 (b0I d t) ((d.length:Int).toNat+1) (0,(x5.1,x5.2.1,x5.2.2.1,x5.2.2.2.1,x5.2.2.2.2.1,x5.2.2.2.2.2.1,x5.2.2.2.2.2.2),(8,0,(⟨#[]⟩:ByteArray),([]:List Val),([]:List Key),[],[]))) fun (b29:Sum ((Int×Int×ByteArray×(List Val)×(List Key)×(List Ent)×(List ByteArray))×(Int×Int×ByteArray×(List Val)×(List Key)×(List Ent)×(List ByteArray))) (Int×(Int×Int×ByteArray×(List Val)×(List Key)×(List Ent)×(List ByteArray))×(Int×Int×ByteArray×(List Val)×(List Key)×(List Ent)×(List ByteArray)))) =>
 v8 (fun x30 =>
 some (Val.mk x30.2.1 x30.2.2.1 x30.2.2.2.1 x30.2.2.2.2.1 x30.2.2.2.2.2.1 x30.2.2.2.2.2.2.1 x30.2.2.2.2.2.2.2,0)) (fun y31 =>
 some (Val.mk y31.2.1.1 y31.2.1.2.1 y31.2.1.2.2.1 y31.2.1.2.2.2.1 y31.2.1.2.2.2.2.1 y31.2.1.2.2.2.2.2.1 y31.2.1.2.2.2.2.2.2,y31.1)) b29) (fun y6 =>
 some (Val.mk y6.2.1 y6.2.2.1 y6.2.2.2.1 y6.2.2.2.2.1 y6.2.2.2.2.2.1 y6.2.2.2.2.2.2.1 y6.2.2.2.2.2.2.2,y6.1)) b4)
def a3l (kind:Int):Option (Value_used×Bool) :=
 Option.bind (bif kind==1
 then (some (kind==1))
 else (some (kind==4))) fun b1 =>
 bif b1
 then (some (Value_used.mk true false false false false,true))
 else (Option.bind (bif kind==2
 then (some (kind==2))
 else (some (kind==3))) fun b2 =>
 bif b2
 then (some (Value_used.mk false true false false false,true))
 else (bif kind==5
 then (some (Value_used.mk false false false false false,true))
 else (Option.bind (bif kind==6
 then (some (kind==6))
 else (some (kind==7))) fun b3 =>
 bif b3
 then (some (Value_used.mk false false true false false,true))
 else (bif kind==8
 then (some (Value_used.mk false false true true false,true))
 else (bif kind==9
 then (some (Value_used.mk true false false false true,true))
 else (some (Value_used.mk false false false false false,false)))))))
def a2V (l:List ByteArray)(compare:ByteArray->ByteArray->Option Int)(x1:Int):Option (Fl Int (Sum Unit Bool)) :=
 bif decide (x1<(l.length:Int))
 then (Option.bind (idx l (wr .i64 (x1-1))) fun e2 =>
 Option.bind (idx l x1) fun e3 =>
 Option.bind (compare e2 e3) fun r4 =>
 bif decide (0<=r4)
 then (some (.done (.inr false)))
 else (some (.next (wr .i64 (x1+1)))))
 else (some (.done (.inl ())))
def a16 (l:List ByteArray)(compare:ByteArray->ByteArray->Option Int):Option Bool :=
 Option.bind (z8 (a2V l compare) ((l.length:Int).toNat+1) 1) fun b5 =>
 v8 (fun _ =>
 some true) (fun y7 =>
 some y7) b5
def a4l (l:List ByteArray)(x5:Int):Option (Fl Int (Sum Unit Bool)) :=
 bif decide (x5<(l.length:Int))
 then (Option.bind (idx l x5) fun e6 =>
 Option.bind (a0O e6) fun r7 =>
 bif !r7
 then (some (.done (.inr false)))
 else (some (.next (wr .i64 (x5+1)))))
 else (some (.done (.inl ())))
def a2a (l:List ByteArray):Option Bool :=
 Option.bind (a16 l (fun z1 z2 =>
 Option.bind (J2 z1 z2) fun r3 =>
 some r3)) fun r4 =>
 bif !r4
 then (some false)
 else (Option.bind (z8 (a4l l) ((l.length:Int).toNat+1) 0) fun b8 =>
 v8 (fun _ =>
 some true) (fun y10 =>
 some y10) b8)
def a2L (l:List Key)(compare:Key->Key->Option Int)(x1:Int):Option (Fl Int (Sum Unit Bool)) :=
 bif decide (x1<(l.length:Int))
 then (Option.bind (idx l (wr .i64 (x1-1))) fun e2 =>
 Option.bind (idx l x1) fun e3 =>
 Option.bind (compare e2 e3) fun r4 =>
 bif decide (0<=r4)
 then (some (.done (.inr false)))
 else (some (.next (wr .i64 (x1+1)))))
 else (some (.done (.inl ())))
def a1L (l:List Key)(compare:Key->Key->Option Int):Option Bool :=
 Option.bind (z8 (a2L l compare) ((l.length:Int).toNat+1) 1) fun b5 =>
 v8 (fun _ =>
 some true) (fun y7 =>
 some y7) b5
def a59 (v:Val)(x6:Int):Option (Fl Int (Sum Unit Bool)) :=
 bif decide (x6<(v.Keys.length:Int))
 then (Option.bind (idx v.Keys x6) fun e7 =>
 Option.bind (a1s e7) fun r8 =>
 bif !r8
 then (some (.done (.inr false)))
 else (some (.next (wr .i64 (x6+1)))))
 else (some (.done (.inl ())))
def a3j (v:Val):Option Bool :=
 Option.bind (bif (v.Keys.length:Int) != (v.Kids.length:Int)
 then (some true)
 else (Option.bind (a1L v.Keys (fun z1 z2 =>
 Option.bind (Y2 z1 z2) fun r3 =>
 some r3)) fun r4 =>
 some (!r4))) fun q5 =>
 bif q5
 then (some false)
 else (Option.bind (z8 (a59 v) ((v.Keys.length:Int).toNat+1) 0) fun b9 =>
 v8 (fun _ =>
 some true) (fun y11 =>
 some y11) b9)
def a2o (l:List Ent)(compare:Ent->Ent->Option Int)(x1:Int):Option (Fl Int (Sum Unit Bool)) :=
 bif decide (x1<(l.length:Int))
 then (Option.bind (idx l (wr .i64 (x1-1))) fun e2 =>
 Option.bind (idx l x1) fun e3 =>
 Option.bind (compare e2 e3) fun r4 =>
 bif decide (0<=r4)
 then (some (.done (.inr false)))
 else (some (.next (wr .i64 (x1+1)))))
 else (some (.done (.inl ())))
def a1n (l:List Ent)(compare:Ent->Ent->Option Int):Option Bool :=
 Option.bind (z8 (a2o l compare) ((l.length:Int).toNat+1) 1) fun b5 =>
 v8 (fun _ =>
 some true) (fun y7 =>
 some y7) b5
def a1I (a:List Val)(b:List Val)(compare:Val->Val->Option Int)(x2:Int):Option (Fl Int (Sum Unit Int)) :=
 bif decide (x2<(a.length:Int))
 then (Option.bind (idx a x2) fun e3 =>
 Option.bind (idx b x2) fun e4 =>
 Option.bind (compare e3 e4) fun r5 =>
 bif r5 != 0
 then (some (.done (.inr r5)))
 else (some (.next (wr .i64 (x2+1)))))
 else (some (.done (.inl ())))
def a0M (a:List Val)(b:List Val)(compare:Val->Val->Option Int):Option Int :=
 Option.bind (K4 (a.length:Int) (b.length:Int)) fun r1 =>
 bif r1 != 0
 then (some r1)
 else (Option.bind (z8 (a1I a b compare) ((a.length:Int).toNat+1) 0) fun b6 =>
 v8 (fun _ =>
 some 0) (fun y8 =>
 some y8) b6)
def a2S (x:Int):Option Bool :=
 some (x != x)
def a2c (x:Int)(y:Int):Option Int :=
 Option.bind (a2S x) fun r1 =>
 Option.bind (a2S y) fun r2 =>
 bif r1
 then (bif r2
 then (some 0)
 else (some (-1)))
 else (bif r2
 then (some 1)
 else (bif decide (x<y)
 then (some (-1))
 else (bif decide (y<x)
 then (some 1)
 else (some 0))))
def a17 (a:List Key)(b:List Key)(compare:Key->Key->Option Int)(x2:Int):Option (Fl Int (Sum Unit Int)) :=
 bif decide (x2<(a.length:Int))
 then (Option.bind (idx a x2) fun e3 =>
 Option.bind (idx b x2) fun e4 =>
 Option.bind (compare e3 e4) fun r5 =>
 bif r5 != 0
 then (some (.done (.inr r5)))
 else (some (.next (wr .i64 (x2+1)))))
 else (some (.done (.inl ())))
def a08 (a:List Key)(b:List Key)(compare:Key->Key->Option Int):Option Int :=
 Option.bind (K4 (a.length:Int) (b.length:Int)) fun r1 =>
 bif r1 != 0
 then (some r1)
 else (Option.bind (z8 (a17 a b compare) ((a.length:Int).toNat+1) 0) fun b6 =>
 v8 (fun _ =>
 some 0) (fun y8 =>
 some y8) b6)
def a1J (a:List Ent)(b:List Ent)(compare:Ent->Ent->Option Int)(x2:Int):Option (Fl Int (Sum Unit Int)) :=
 bif decide (x2<(a.length:Int))
 then (Option.bind (idx a x2) fun e3 =>
 Option.bind (idx b x2) fun e4 =>
 Option.bind (compare e3 e4) fun r5 =>
 bif r5 != 0
 then (some (.done (.inr r5)))
 else (some (.next (wr .i64 (x2+1)))))
 else (some (.done (.inl ())))
def a0L (a:List Ent)(b:List Ent)(compare:Ent->Ent->Option Int):Option Int :=
 Option.bind (K4 (a.length:Int) (b.length:Int)) fun r1 =>
 bif r1 != 0
 then (some r1)
 else (Option.bind (z8 (a1J a b compare) ((a.length:Int).toNat+1) 0) fun b6 =>
 v8 (fun _ =>
 some 0) (fun y8 =>
 some y8) b6)
def a2e (a:List ByteArray)(b:List ByteArray)(compare:ByteArray->ByteArray->Option Int)(x2:Int):Option (Fl Int (Sum Unit Int)) :=
 bif decide (x2<(a.length:Int))
 then (Option.bind (idx a x2) fun e3 =>
 Option.bind (idx b x2) fun e4 =>
 Option.bind (compare e3 e4) fun r5 =>
 bif r5 != 0
 then (some (.done (.inr r5)))
 else (some (.next (wr .i64 (x2+1)))))
 else (some (.done (.inl ())))
def a1k (a:List ByteArray)(b:List ByteArray)(compare:ByteArray->ByteArray->Option Int):Option Int :=
 Option.bind (K4 (a.length:Int) (b.length:Int)) fun r1 =>
 bif r1 != 0
 then (some r1)
 else (Option.bind (z8 (a2e a b compare) ((a.length:Int).toNat+1) 0) fun b6 =>
 v8 (fun _ =>
 some 0) (fun y8 =>
 some y8) b6)
def a4x (_:Nat)(_:Val->Val->Option Int)(rec_value_compareEntries:Ent->Ent->Option Int)(rec_value_compareValues:(List Val)->(List Val)->Option Int)(a:Val)(b:Val):Option Int :=
 Option.bind (K4 a.Kind b.Kind) fun r1 =>
 bif r1 != 0
 then (some r1)
 else (Option.bind (a2c a.Int_ b.Int_) fun r2 =>
 bif r2 != 0
 then (some r2)
 else (Option.bind (J2 a.Text b.Text) fun r3 =>
 bif r3 != 0
 then (some r3)
 else (Option.bind (a08 a.Keys b.Keys (fun z4 z5 =>
 Option.bind (Y2 z4 z5) fun r6 =>
 some r6)) fun r7 =>
 bif r7 != 0
 then (some r7)
 else (Option.bind (rec_value_compareValues a.Kids b.Kids) fun r8 =>
 bif r8 != 0
 then (some r8)
 else (Option.bind (a0L a.Entries b.Entries (fun z9 z10 =>
 Option.bind (rec_value_compareEntries z9 z10) fun r11 =>
 some r11)) fun r12 =>
 bif r12 != 0
 then (some r12)
 else (Option.bind (a1k a.Labels b.Labels (fun z13 z14 =>
 Option.bind (J2 z13 z14) fun r15 =>
 some r15)) fun r16 =>
 some r16))))))
def a13 (_:Nat)(rec_value_Compare:Val->Val->Option Int)(_:Ent->Ent->Option Int)(rec_value_compareValues:(List Val)->(List Val)->Option Int)(a:Ent)(b:Ent):Option Int :=
 Option.bind (rec_value_compareValues a.Args b.Args) fun r1 =>
 bif r1 != 0
 then (some r1)
 else (bif a.Fails != b.Fails
 then (bif a.Fails
 then (some (-1))
 else (some 1))
 else (Option.bind (rec_value_Compare a.Result b.Result) fun r2 =>
 some r2))
def a2m (_:Nat)(rec_value_Compare:Val->Val->Option Int)(_:Ent->Ent->Option Int)(_:(List Val)->(List Val)->Option Int)(a:List Val)(b:List Val):Option Int :=
 Option.bind (a0M a b (fun z1 z2 =>
 Option.bind (rec_value_Compare z1 z2) fun r3 =>
 some r3)) fun r4 =>
 some r4
def Y6:Nat->(Val->Val->Option Int)×(Ent->Ent->Option Int)×((List Val)->(List Val)->Option Int)
 | 0=>(fun _ _=>none,fun _ _=>none,fun _ _=>none)
 | n+1=>(a4x n ((Y6 n).1) ((Y6 n).2.1) ((Y6 n).2.2),a13 n ((Y6 n).1) ((Y6 n).2.1) ((Y6 n).2.2),a2m n ((Y6 n).1) ((Y6 n).2.1) ((Y6 n).2.2))
def a0A (n:Nat):Val->Val->Option Int:=(Y6 n).1
def Y7 (n:Nat):Ent->Ent->Option Int:=(Y6 n).2.1
def a0J (n:Nat):(List Val)->(List Val)->Option Int:=(Y6 n).2.2
def a74 (n:Nat)(a:Val)(b:Val):Option Bool :=
 Option.bind (a0A n a b) fun r1 =>
 some (r1==0)
def a6V (n:Nat)(v:Val):Option Bool :=
 Option.bind (a74 n v (Val.mk 0 0 (⟨#[]⟩:ByteArray) ([]:List Val) ([]:List Key) ([]:List Ent) ([]:List ByteArray))) fun r1 =>
 some r1
def a1t (n:Nat)(e:Ent)(arity:Int):Option Bool :=
 Option.bind (bif (e.Args.length:Int)==arity
 then (Option.bind (bif !e.Fails
 then (some true)
 else (Option.bind (a6V n e.Result) fun r1 =>
 some r1)) fun q2 =>
 some q2)
 else (some false)) fun q3 =>
 some q3
def a3J (v:Val)(n:Nat)(x7:Int):Option (Fl Int (Sum Unit Bool)) :=
 bif decide (x7<(v.Entries.length:Int))
 then (Option.bind (idx v.Entries x7) fun e8 =>
 Option.bind (a1t n e8 v.Int_) fun r9 =>
 bif !r9
 then (some (.done (.inr false)))
 else (some (.next (wr .i64 (x7+1)))))
 else (some (.done (.inl ())))
def a1G (n:Nat)(v:Val):Option Bool :=
 Option.bind (bif decide (v.Int_<0)
 then (some true)
 else (some (decide (4<v.Int_)))) fun q1 =>
 Option.bind (bif q1
 then (some true)
 else (Option.bind (a1n v.Entries (fun z2 z3 =>
 Option.bind (Y7 n z2 z3) fun r4 =>
 some r4)) fun r5 =>
 some (!r5))) fun q6 =>
 bif q6
 then (some false)
 else (Option.bind (z8 (a3J v n) ((v.Entries.length:Int).toNat+1) 0) fun b10 =>
 v8 (fun _ =>
 some true) (fun y12 =>
 some y12) b10)
def a2U (n:Nat)(d:Val):Option Bool :=
 Option.bind (a3l d.Kind) fun r1 =>
 Option.bind (bif !r1.2
 then (some true)
 else (Option.bind (a2a d.Labels) fun r2 =>
 some (!r2))) fun q3 =>
 bif q3
 then (some false)
 else (Option.bind (bif !r1.1.number
 then (some (d.Int_ != 0))
 else (some false)) fun q4 =>
 Option.bind (bif q4
 then (some true)
 else (Option.bind (bif !r1.1.text_
 then (some (!(J7 d.Text (⟨#[]⟩:ByteArray))))
 else (some false)) fun q5 =>
 some q5)) fun q6 =>
 Option.bind (bif q6
 then (some true)
 else (Option.bind (bif !r1.1.kids
 then (some (decide (0<(d.Kids.length:Int))))
 else (some false)) fun q7 =>
 some q7)) fun q8 =>
 Option.bind (bif q8
 then (some true)
 else (Option.bind (bif !r1.1.keys
 then (some (decide (0<(d.Keys.length:Int))))
 else (some false)) fun q9 =>
 some q9)) fun q10 =>
 Option.bind (bif q10
 then (some true)
 else (Option.bind (bif !r1.1.entries
 then (some (decide (0<(d.Entries.length:Int))))
 else (some false)) fun q11 =>
 some q11)) fun q12 =>
 bif q12
 then (some false)
 else (bif d.Kind==2
 then (some (decide ((d.Text.size:Int)<=64)))
 else (bif d.Kind==3
 then (Option.bind (a2k d.Text) fun r13 =>
 some r13)
 else (bif d.Kind==4
 then (some (decide (0<=d.Int_)))
 else (bif d.Kind==6
 then (some (decide ((d.Kids.length:Int)<=4)))
 else (bif d.Kind==7
 then (Option.bind (bif (d.Kids.length:Int)==2
 then (Option.bind (idx d.Kids 1) fun e14 =>
 Option.bind (bif e14.Kind==5
 then (some true)
 else (Option.bind (idx d.Kids 1) fun e15 =>
 some (e15.Kind==7))) fun q16 =>
 some q16)
 else (some false)) fun q17 =>
 some q17)
 else (bif d.Kind==8
 then (Option.bind (a3j d) fun r18 =>
 some r18)
 else (bif d.Kind==9
 then (Option.bind (a1G n d) fun r19 =>
 some r19)
 else (some true)))))))))
def a3k (v:Val)(x2:(List Val)×Int):Option (Fl ((List Val)×Int) (List Val)) :=
 bif decide (x2.2<(v.Entries.length:Int))
 then (Option.bind (idx v.Entries x2.2) fun e3 =>
 Option.bind (Q8 (x2.1.length+e3.Args.length) 128) fun _ =>
 bif !e3.Fails
 then (Option.bind (Q8 ((x2.1++e3.Args).length+([e3.Result]:List Val).length) 128) fun _ =>
 some (.next ((x2.1++e3.Args)++([e3.Result]:List Val),wr .i64 (x2.2+1))))
 else (some (.next (x2.1++e3.Args,wr .i64 (x2.2+1)))))
 else (some (.done x2.1))
def a5j (v:Val):Option (List Val) :=
 Option.bind (X2 128 v.Kids) fun r1 =>
 Option.bind (z8 (a3k v) ((v.Entries.length:Int).toNat+1) (r1,0)) fun b6 =>
 some b6
def a5z (r2:List Val)(rec_value_validTree:Val->Option Bool)(x3:Int):Option (Fl Int (Sum Unit Bool)) :=
 bif decide (x3<(r2.length:Int))
 then (Option.bind (idx r2 x3) fun e4 =>
 Option.bind (rec_value_validTree e4) fun r5 =>
 bif !r5
 then (some (.done (.inr false)))
 else (some (.next (wr .i64 (x3+1)))))
 else (some (.done (.inl ())))
def a3C (n:Nat)(rec_value_validTree:Val->Option Bool)(v:Val):Option Bool :=
 Option.bind (a2U n v) fun r1 =>
 bif !r1
 then (some false)
 else (Option.bind (a5j v) fun r2 =>
 Option.bind (z8 (a5z r2 rec_value_validTree) ((r2.length:Int).toNat+1) 0) fun b6 =>
 v8 (fun _ =>
 some true) (fun y8 =>
 some y8) b6)
def a0u:Nat->Val->Option Bool
 | 0=>fun _=>none
 | n+1=>a3C n (a0u n)
def a2g (n:Nat)(v:Val):Option Int :=
 Option.bind (a0u n v) fun r1 =>
 bif !r1
 then (some 1)
 else (some 0)
def a3m (s:Api_Shape):Option Bool :=
 Option.bind (bif (s.Keys.length:Int)==(s.States.length:Int)
 then (some ((s.Keys.length:Int)==(s.Parts.length:Int)))
 else (some false)) fun q1 =>
 some q1
def b3O (s:Api_Shape)(x3:(List Api_Goal)×Int):Option (Fl ((List Api_Goal)×Int) (List Api_Goal)) :=
 bif decide (x3.2<(s.Some.length:Int))
 then (Option.bind (idx s.Some x3.2) fun e4 =>
 Option.bind (Q8 (x3.1.length+([e4.Goal]:List Api_Goal).length) 56) fun _ =>
 some (.next (x3.1++([e4.Goal]:List Api_Goal),wr .i64 (x3.2+1))))
 else (some (.done x3.1))
def b0G (s:Api_Shape):Option (List Api_Goal) :=
 Option.bind (X2 56 s.Parts) fun r1 =>
 Option.bind (Q8 (r1.length+([s.Rest.1,s.Rest.2]:List Api_Goal).length) 56) fun _ =>
 Option.bind (z8 (b3O s) ((s.Some.length:Int).toNat+1) (r1++([s.Rest.1,s.Rest.2]:List Api_Goal),0)) fun b6 =>
 some b6
def b4E (t:Api_Type)(g:Api_Goal)(r1:List Int)(x3:Int):Option (Fl Int (Sum Unit Bool)) :=
 bif decide (x3<((r1++g.Neg).length:Int))
 then (Option.bind (idx (r1++g.Neg) x3) fun e4 =>
 Option.bind (bif decide (e4<0)
 then (some true)
 else (some (decide ((t.Nodes.length:Int)<=e4)))) fun q5 =>
 bif q5
 then (some (.done (.inr false)))
 else (some (.next (wr .i64 (x3+1)))))
 else (some (.done (.inl ())))
def a7I (t:Api_Type)(g:Api_Goal):Option Bool :=
 Option.bind (X2 8 g.Pos) fun r1 =>
 Option.bind (Q8 (r1.length+g.Neg.length) 8) fun _ =>
 Option.bind (z8 (b4E t g r1) (((r1++g.Neg).length:Int).toNat+1) 0) fun b6 =>
 v8 (fun _ =>
 some true) (fun y8 =>
 some y8) b6
def a4d (s:List Key)(v:Key)(x1:Int):Option (Fl Int (Sum Unit Int)) :=
 bif decide (x1<(s.length:Int))
 then (Option.bind (idx s x1) fun e2 =>
 bif a2K v e2
 then (some (.done (.inr x1)))
 else (some (.next (wr .i64 (x1+1)))))
 else (some (.done (.inl ())))
def a0N (s:List Key)(v:Key):Option Int :=
 Option.bind (z8 (a4d s v) ((s.length:Int).toNat+1) 0) fun b3 =>
 v8 (fun _ =>
 some (-1)) (fun y5 =>
 some y5) b3
def b1Z (kind:Int):Option Int :=
 bif kind==5
 then (some 2)
 else (bif kind==7
 then (some 3)
 else (bif kind==8
 then (some 4)
 else (bif kind==9
 then (some 5)
 else (bif kind==11
 then (some 6)
 else (some 9)))))
def V2 (s:List Key)(v:Key):Option Bool :=
 Option.bind (a0N s v) fun r1 =>
 some (decide (0<=r1))
def a4K (s:List ByteArray)(v:ByteArray)(x1:Int):Option (Fl Int (Sum Unit Int)) :=
 bif decide (x1<(s.length:Int))
 then (Option.bind (idx s x1) fun e2 =>
 bif J7 v e2
 then (some (.done (.inr x1)))
 else (some (.next (wr .i64 (x1+1)))))
 else (some (.done (.inl ())))
def a2G (s:List ByteArray)(v:ByteArray):Option Int :=
 Option.bind (z8 (a4K s v) ((s.length:Int).toNat+1) 0) fun b3 =>
 v8 (fun _ =>
 some (-1)) (fun y5 =>
 some y5) b3
def a18 (s:List ByteArray)(v:ByteArray):Option Bool :=
 Option.bind (a2G s v) fun r1 =>
 some (decide (0<=r1))
def b7e (l:List Val)(t:Api_Type)(nodes:List Int)(rec_core_Has:Val->Api_Type->Int->Option Bool)(x1:Int):Option (Fl Int (Sum Unit Bool)) :=
 bif decide (x1<(l.length:Int))
 then (Option.bind (idx l x1) fun e2 =>
 Option.bind (idx nodes x1) fun e3 =>
 Option.bind (rec_core_Has e2 t e3) fun r4 =>
 bif !r4
 then (some (.done (.inr false)))
 else (some (.next (wr .i64 (x1+1)))))
 else (some (.done (.inl ())))
def a92 (v:Val)(t:Api_Type)(n_2:Api_TypeNode)(rec_core_EntryAllowed:Ent->Api_Type->Api_TypeNode->Option Bool)(x1:Int):Option (Fl Int (Sum Unit Bool)) :=
 bif decide (x1<(v.Entries.length:Int))
 then (Option.bind (idx v.Entries x1) fun e2 =>
 Option.bind (rec_core_EntryAllowed e2 t n_2) fun r3 =>
 bif !r3
 then (some (.done (.inr false)))
 else (some (.next (wr .i64 (x1+1)))))
 else (some (.done (.inl ())))
def b4I (v:Val)(n_2:Api_TypeNode)(x1:Int):Option (Fl Int (Sum Unit Bool)) :=
 bif decide (x1<(n_2.Fields.length:Int))
 then (Option.bind (idx n_2.Fields x1) fun e2 =>
 Option.bind (bif !e2.Optional
 then (Option.bind (V2 v.Keys e2.Key_) fun r3 =>
 some (!r3))
 else (some false)) fun q4 =>
 bif q4
 then (some (.done (.inr false)))
 else (some (.next (wr .i64 (x1+1)))))
 else (some (.done (.inl ())))
def b4l (v:Val)(t:Api_Type)(n_2:Api_TypeNode)(rec_core_Has:Val->Api_Type->Int->Option Bool)(x8:Int):Option (Fl Int (Sum Unit Bool)) :=
 bif decide (x8<(v.Keys.length:Int))
 then (Option.bind (idx v.Keys x8) fun e9 =>
 Option.bind (idx v.Kids x8) fun e10 =>
 Option.bind (a34 n_2 e9) fun r11 =>
 Option.bind (rec_core_Has e10 t r11) fun r12 =>
 bif !r12
 then (some (.done (.inr false)))
 else (some (.next (wr .i64 (x8+1)))))
 else (some (.done (.inl ())))
def b8o (_:Nat)(_:(List Val)->Api_Type->(List Int)->Option Bool)(_:Ent->Api_Type->Api_TypeNode->Option Bool)(_:Val->Api_Type->Api_TypeNode->Option Bool)(rec_core_Has:Val->Api_Type->Int->Option Bool)(_:Int->Val->Api_Type->Option Bool)(_:Int->Val->Api_Type->Option Bool)(_:Val->Api_Type->Api_TypeNode->Option Bool)(l:List Val)(t:Api_Type)(nodes:List Int):Option Bool :=
 bif (l.length:Int) != (nodes.length:Int)
 then (some false)
 else (Option.bind (z8 (b7e l t nodes rec_core_Has) ((l.length:Int).toNat+1) 0) fun b5 =>
 v8 (fun _ =>
 some true) (fun y7 =>
 some y7) b5)
def a9Q (_:Nat)(rec_core_all:(List Val)->Api_Type->(List Int)->Option Bool)(_:Ent->Api_Type->Api_TypeNode->Option Bool)(_:Val->Api_Type->Api_TypeNode->Option Bool)(rec_core_Has:Val->Api_Type->Int->Option Bool)(_:Int->Val->Api_Type->Option Bool)(_:Int->Val->Api_Type->Option Bool)(_:Val->Api_Type->Api_TypeNode->Option Bool)(e:Ent)(t:Api_Type)(n_2:Api_TypeNode):Option Bool :=
 Option.bind (cut n_2.Kids 0 (wr .i64 ((n_2.Kids.length:Int)-1))) fun y1 =>
 Option.bind (rec_core_all e.Args t y1) fun r2 =>
 Option.bind (bif !r2
 then (some true)
 else (Option.bind (bif !e.Fails
 then (Option.bind (idx n_2.Kids (wr .i64 ((n_2.Kids.length:Int)-1))) fun e3 =>
 Option.bind (rec_core_Has e.Result t e3) fun r4 =>
 some r4)
 else (some false)) fun q5 =>
 some q5)) fun q6 =>
 some q6
def b0p (_:Nat)(_:(List Val)->Api_Type->(List Int)->Option Bool)(rec_core_EntryAllowed:Ent->Api_Type->Api_TypeNode->Option Bool)(_:Val->Api_Type->Api_TypeNode->Option Bool)(_:Val->Api_Type->Int->Option Bool)(_:Int->Val->Api_Type->Option Bool)(_:Int->Val->Api_Type->Option Bool)(_:Val->Api_Type->Api_TypeNode->Option Bool)(v:Val)(t:Api_Type)(n_2:Api_TypeNode):Option Bool :=
 bif v.Int_ != (wr .i64 ((n_2.Kids.length:Int)-1))
 then (some false)
 else (Option.bind (z8 (a92 v t n_2 rec_core_EntryAllowed) ((v.Entries.length:Int).toNat+1) 0) fun b4 =>
 v8 (fun _ =>
 some true) (fun y6 =>
 some y6) b4)
def b8F (_:Nat)(rec_core_all:(List Val)->Api_Type->(List Int)->Option Bool)(_:Ent->Api_Type->Api_TypeNode->Option Bool)(rec_core_functionHas:Val->Api_Type->Api_TypeNode->Option Bool)(rec_core_Has:Val->Api_Type->Int->Option Bool)(rec_core_Has_1:Int->Val->Api_Type->Option Bool)(rec_core_Has_2:Int->Val->Api_Type->Option Bool)(rec_core_mapHas:Val->Api_Type->Api_TypeNode->Option Bool)(d:Val)(t:Api_Type)(a2_2:Int):Option Bool :=
 Option.bind (idx t.Nodes a2_2) fun e1 =>
 bif e1.Kind==2
 then (some true)
 else (bif e1.Kind==3
 then (Option.bind (bif d.Kind==1
 then (some (decide (e1.Lo<=d.Int_)))
 else (some false)) fun q2 =>
 Option.bind (bif q2
 then (some (decide (d.Int_<=e1.Hi)))
 else (some false)) fun q3 =>
 some q3)
 else (bif e1.Kind==4
 then (Option.bind (bif d.Kind==2
 then (some (J7 d.Text e1.Text))
 else (some false)) fun q4 =>
 some q4)
 else (bif e1.Kind==6
 then (Option.bind (bif d.Kind==3
 then (some (J7 d.Text e1.Text))
 else (some false)) fun q5 =>
 some q5)
 else (Option.bind (bif e1.Kind==5
 then (some (e1.Kind==5))
 else (bif e1.Kind==7
 then (some (e1.Kind==7))
 else (bif e1.Kind==8
 then (some (e1.Kind==8))
 else (bif e1.Kind==9
 then (some (e1.Kind==9))
 else (bif e1.Kind==11
 then (some (e1.Kind==11))
 else (some (e1.Kind==15))))))) fun b6 =>
 bif b6
 then (Option.bind (b1Z e1.Kind) fun r7 =>
 some (d.Kind==r7))
 else (bif e1.Kind==10
 then (Option.bind (bif d.Kind==6
 then (Option.bind (rec_core_all d.Kids t e1.Kids) fun r8 =>
 some r8)
 else (some false)) fun q9 =>
 some q9)
 else (bif e1.Kind==12
 then (Option.bind (bif d.Kind==7
 then (Option.bind (rec_core_all d.Kids t e1.Kids) fun r10 =>
 some r10)
 else (some false)) fun q11 =>
 some q11)
 else (bif e1.Kind==13
 then (Option.bind (bif d.Kind==8
 then (Option.bind (rec_core_mapHas d t e1) fun r12 =>
 some r12)
 else (some false)) fun q13 =>
 some q13)
 else (bif e1.Kind==14
 then (Option.bind (bif d.Kind==9
 then (Option.bind (rec_core_functionHas d t e1) fun r14 =>
 some r14)
 else (some false)) fun q15 =>
 some q15)
 else (bif e1.Kind==16
 then (Option.bind (Z4 e1.Kids (fun z16 =>
 Option.bind (rec_core_Has_1 z16 d t) fun r17 =>
 some r17)) fun r18 =>
 some r18)
 else (bif e1.Kind==17
 then (Option.bind (Z4 e1.Kids (fun z19 =>
 Option.bind (rec_core_Has_2 z19 d t) fun r20 =>
 some r20)) fun r21 =>
 some (!r21))
 else (bif e1.Kind==18
 then (Option.bind (idx e1.Kids 0) fun e22 =>
 Option.bind (rec_core_Has d t e22) fun r23 =>
 some (!r23))
 else (bif e1.Kind==19
 then (Option.bind (a18 d.Labels e1.Text) fun r24 =>
 some r24)
 else (some false)))))))))))))
def b6e (_:Nat)(_:(List Val)->Api_Type->(List Int)->Option Bool)(_:Ent->Api_Type->Api_TypeNode->Option Bool)(_:Val->Api_Type->Api_TypeNode->Option Bool)(rec_core_Has:Val->Api_Type->Int->Option Bool)(_:Int->Val->Api_Type->Option Bool)(_:Int->Val->Api_Type->Option Bool)(_:Val->Api_Type->Api_TypeNode->Option Bool)(k:Int)(a1_1:Val)(a2_2:Api_Type):Option Bool :=
 Option.bind (rec_core_Has a1_1 a2_2 k) fun r1 =>
 some r1
def b6M (_:Nat)(_:(List Val)->Api_Type->(List Int)->Option Bool)(_:Ent->Api_Type->Api_TypeNode->Option Bool)(_:Val->Api_Type->Api_TypeNode->Option Bool)(rec_core_Has:Val->Api_Type->Int->Option Bool)(_:Int->Val->Api_Type->Option Bool)(_:Int->Val->Api_Type->Option Bool)(_:Val->Api_Type->Api_TypeNode->Option Bool)(k:Int)(a1_1:Val)(a2_2:Api_Type):Option Bool :=
 Option.bind (rec_core_Has a1_1 a2_2 k) fun r1 =>
 some (!r1)
def b5r (_:Nat)(_:(List Val)->Api_Type->(List Int)->Option Bool)(_:Ent->Api_Type->Api_TypeNode->Option Bool)(_:Val->Api_Type->Api_TypeNode->Option Bool)(rec_core_Has:Val->Api_Type->Int->Option Bool)(_:Int->Val->Api_Type->Option Bool)(_:Int->Val->Api_Type->Option Bool)(_:Val->Api_Type->Api_TypeNode->Option Bool)(v:Val)(t:Api_Type)(n_2:Api_TypeNode):Option Bool :=
 Option.bind (z8 (b4I v n_2) ((n_2.Fields.length:Int).toNat+1) 0) fun b5 =>
 v8 (fun _ =>
 Option.bind (z8 (b4l v t n_2 rec_core_Has) ((v.Keys.length:Int).toNat+1) 0) fun b13 =>
 v8 (fun _ =>
 some true) (fun y15 =>
 some y15) b13) (fun y7 =>
 some y7) b5
def y0:Nat->((List Val)->Api_Type->(List Int)->Option Bool)×(Ent->Api_Type->Api_TypeNode->Option Bool)×(Val->Api_Type->Api_TypeNode->Option Bool)×(Val->Api_Type->Int->Option Bool)×(Int->Val->Api_Type->Option Bool)×(Int->Val->Api_Type->Option Bool)×(Val->Api_Type->Api_TypeNode->Option Bool)
 | 0=>(fun _ _ _=>none,fun _ _ _=>none,fun _ _ _=>none,fun _ _ _=>none,fun _ _ _=>none,fun _ _ _=>none,fun _ _ _=>none)
 | n+1=>(b8o n ((y0 n).1) ((y0 n).2.1) ((y0 n).2.2.1) ((y0 n).2.2.2.1) ((y0 n).2.2.2.2.1) ((y0 n).2.2.2.2.2.1) ((y0 n).2.2.2.2.2.2),a9Q n ((y0 n).1) ((y0 n).2.1) ((y0 n).2.2.1) ((y0 n).2.2.2.1) ((y0 n).2.2.2.2.1) ((y0 n).2.2.2.2.2.1) ((y0 n).2.2.2.2.2.2),b0p n ((y0 n).1) ((y0 n).2.1) ((y0 n).2.2.1) ((y0 n).2.2.2.1) ((y0 n).2.2.2.2.1) ((y0 n).2.2.2.2.2.1) ((y0 n).2.2.2.2.2.2),b8F n ((y0 n).1) ((y0 n).2.1) ((y0 n).2.2.1) ((y0 n).2.2.2.1) ((y0 n).2.2.2.2.1) ((y0 n).2.2.2.2.2.1) ((y0 n).2.2.2.2.2.2),b6e n ((y0 n).1) ((y0 n).2.1) ((y0 n).2.2.1) ((y0 n).2.2.2.1) ((y0 n).2.2.2.2.1) ((y0 n).2.2.2.2.2.1) ((y0 n).2.2.2.2.2.2),b6M n ((y0 n).1) ((y0 n).2.1) ((y0 n).2.2.1) ((y0 n).2.2.2.1) ((y0 n).2.2.2.2.1) ((y0 n).2.2.2.2.2.1) ((y0 n).2.2.2.2.2.2),b5r n ((y0 n).1) ((y0 n).2.1) ((y0 n).2.2.1) ((y0 n).2.2.2.1) ((y0 n).2.2.2.2.1) ((y0 n).2.2.2.2.2.1) ((y0 n).2.2.2.2.2.2))
def c0u (n:Nat):(List Val)->Api_Type->(List Int)->Option Bool:=(y0 n).1
def b1W (n:Nat):Ent->Api_Type->Api_TypeNode->Option Bool:=(y0 n).2.1
def b2d (n:Nat):Val->Api_Type->Api_TypeNode->Option Bool:=(y0 n).2.2.1
def b2V (n:Nat):Val->Api_Type->Int->Option Bool:=(y0 n).2.2.2.1
def b8z (n:Nat):Int->Val->Api_Type->Option Bool:=(y0 n).2.2.2.2.1
def b8I (n:Nat):Int->Val->Api_Type->Option Bool:=(y0 n).2.2.2.2.2.1
def b7i (n:Nat):Val->Api_Type->Api_TypeNode->Option Bool:=(y0 n).2.2.2.2.2.2
def a9N (n:Nat)(i:Int)(a1_1:Val)(a2_2:Api_Type):Option Bool :=
 Option.bind (b2V n a1_1 a2_2 i) fun r1 =>
 some (!r1)
def a9K (n:Nat)(i:Int)(a1_1:Val)(a2_2:Api_Type):Option Bool :=
 Option.bind (b2V n a1_1 a2_2 i) fun r1 =>
 some r1
def b2b (n:Nat)(v:Val)(t:Api_Type)(pos:List Int)(neg:List Int):Option Bool :=
 Option.bind (Z4 pos (fun z1 =>
 Option.bind (a9N n z1 v t) fun r2 =>
 some r2)) fun r3 =>
 Option.bind (bif !r3
 then (Option.bind (Z4 neg (fun z4 =>
 Option.bind (a9K n z4 v t) fun r5 =>
 some r5)) fun r6 =>
 some (!r6))
 else (some false)) fun q7 =>
 some q7
def a2p (n:Nat)(v:Val)(t:Api_Type)(g:Api_Goal):Option Bool :=
 Option.bind (a2g n v) fun r1 =>
 Option.bind (bif r1 != 0
 then (some true)
 else (Option.bind (J6 n t) fun r2 =>
 some (r2 != 0))) fun q3 =>
 Option.bind (bif q3
 then (some true)
 else (Option.bind (a7I t g) fun r4 =>
 some (!r4))) fun q5 =>
 bif q5
 then (some false)
 else (Option.bind (bif g.Lists
 then (some (v.Kind != 5))
 else (some false)) fun q6 =>
 Option.bind (bif q6
 then (some (v.Kind != 7))
 else (some false)) fun q7 =>
 bif q7
 then (some false)
 else (Option.bind (b2b n v t g.Pos g.Neg) fun r8 =>
 some r8))
def a8Q (n:Nat)(v:Val)(t:Api_Type)(key:Key)(state:Int)(part:Api_Goal):Option Bool :=
 Option.bind (a0N v.Keys key) fun r1 =>
 bif state==0
 then (some (decide (r1<0)))
 else (bif state==1
 then (Option.bind (bif decide (0<=r1)
 then (Option.bind (idx v.Kids r1) fun e2 =>
 Option.bind (a2p n e2 t part) fun r3 =>
 some r3)
 else (some false)) fun q4 =>
 some q4)
 else (bif state==2
 then (Option.bind (bif decide (r1<0)
 then (some true)
 else (Option.bind (idx v.Kids r1) fun e5 =>
 Option.bind (a2p n e5 t part) fun r6 =>
 some r6)) fun q7 =>
 some q7)
 else (some false)))
def b1u (v:Val)(t:Api_Type)(listed:List Key)(want:Api_SomeKey)(n:Nat)(x1:Int):Option (Fl Int (Sum Unit Bool)) :=
 bif decide (x1<(v.Keys.length:Int))
 then (Option.bind (idx v.Keys x1) fun e2 =>
 Option.bind (bif e2.Kind==want.Kind
 then (Option.bind (V2 listed e2) fun r3 =>
 some (!r3))
 else (some false)) fun q4 =>
 Option.bind (bif q4
 then (Option.bind (idx v.Kids x1) fun e5 =>
 Option.bind (a2p n e5 t want.Goal) fun r6 =>
 some r6)
 else (some false)) fun q7 =>
 bif q7
 then (some (.done (.inr true)))
 else (some (.next (wr .i64 (x1+1)))))
 else (some (.done (.inl ())))
def a8y (n:Nat)(v:Val)(t:Api_Type)(listed:List Key)(want:Api_SomeKey):Option Bool :=
 Option.bind (z8 (b1u v t listed want n) ((v.Keys.length:Int).toNat+1) 0) fun b8 =>
 v8 (fun _ =>
 some false) (fun y10 =>
 some y10) b8
def b1O (t:Api_Type)(r7:List Api_Goal)(x8:Int):Option (Fl Int (Sum Unit Bool)) :=
 bif decide (x8<(r7.length:Int))
 then (Option.bind (idx r7 x8) fun e9 =>
 Option.bind (a7I t e9) fun r10 =>
 bif !r10
 then (some (.done (.inr false)))
 else (some (.next (wr .i64 (x8+1)))))
 else (some (.done (.inl ())))
def b1T (d:Val)(t:Api_Type)(a2_2:Api_Shape)(n:Nat)(x14:Int):Option (Fl Int (Sum Unit Bool)) :=
 bif decide (x14<(a2_2.Keys.length:Int))
 then (Option.bind (idx a2_2.Keys x14) fun e15 =>
 Option.bind (idx a2_2.States x14) fun e16 =>
 Option.bind (idx a2_2.Parts x14) fun e17 =>
 Option.bind (a8Q n d t e15 e16 e17) fun r18 =>
 bif !r18
 then (some (.done (.inr false)))
 else (some (.next (wr .i64 (x14+1)))))
 else (some (.done (.inl ())))
def b1S (d:Val)(t:Api_Type)(a2_2:Api_Shape)(n:Nat)(x22:Int):Option (Fl Int (Sum Unit Bool)) :=
 bif decide (x22<(d.Keys.length:Int))
 then (Option.bind (idx d.Keys x22) fun e23 =>
 Option.bind (V2 a2_2.Keys e23) fun r24 =>
 Option.bind (bif !r24
 then (Option.bind (idx d.Kids x22) fun e25 =>
 bif e23.Kind==0
 then (Option.bind (a2p n e25 t a2_2.Rest.1) fun r26 =>
 some (!r26))
 else (bif e23.Kind==1
 then (Option.bind (a2p n e25 t a2_2.Rest.2) fun r27 =>
 some (!r27))
 else (none)))
 else (some false)) fun q28 =>
 bif q28
 then (some (.done (.inr false)))
 else (some (.next (wr .i64 (x22+1)))))
 else (some (.done (.inl ())))
def b1x (d:Val)(t:Api_Type)(a2_2:Api_Shape)(n:Nat)(x32:Int):Option (Fl Int (Sum Unit Bool)) :=
 bif decide (x32<(a2_2.Some.length:Int))
 then (Option.bind (idx a2_2.Some x32) fun e33 =>
 Option.bind (a8y n d t a2_2.Keys e33) fun r34 =>
 bif !r34
 then (some (.done (.inr false)))
 else (some (.next (wr .i64 (x32+1)))))
 else (some (.done (.inl ())))
def a2q (n:Nat)(d:Val)(t:Api_Type)(a2_2:Api_Shape):Option Bool :=
 Option.bind (a2g n d) fun r1 =>
 Option.bind (bif r1 != 0
 then (some true)
 else (some (d.Kind != 8))) fun q2 =>
 Option.bind (bif q2
 then (some true)
 else (Option.bind (J6 n t) fun r3 =>
 some (r3 != 0))) fun q4 =>
 Option.bind (bif q4
 then (some true)
 else (Option.bind (a3m a2_2) fun r5 =>
 some (!r5))) fun q6 =>
 bif q6
 then (some false)
 else (Option.bind (b0G a2_2) fun r7 =>
 Option.bind (z8 (b1O t r7) ((r7.length:Int).toNat+1) 0) fun b11 =>
 v8 (fun _ =>
 Option.bind (z8 (b1T d t a2_2 n) ((a2_2.Keys.length:Int).toNat+1) 0) fun b19 =>
 v8 (fun _ =>
 Option.bind (z8 (b1S d t a2_2 n) ((d.Keys.length:Int).toNat+1) 0) fun b29 =>
 v8 (fun _ =>
 Option.bind (z8 (b1x d t a2_2 n) ((a2_2.Some.length:Int).toNat+1) 0) fun b35 =>
 v8 (fun _ =>
 some true) (fun y37 =>
 some y37) b35) (fun y31 =>
 some y31) b29) (fun y21 =>
 some y21) b19) (fun y13 =>
 some y13) b11)
noncomputable def a8U (n:Nat)(r1:(List Api_Shape)×Int)(r3:Val×Int)(x4:Bool×Int):Option (Fl (Bool×Int) Bool) :=
 bif decide (x4.2<(r1.1.length:Int))
 then (Option.bind (bif x4.1
 then (some true)
 else (Option.bind (idx r1.1 x4.2) fun e5 =>
 Option.bind (a2q n r3.1 (Api_Type.mk ([Api_TypeNode.mk 2 0 0 (⟨#[]⟩:ByteArray) ([]:List Int) ([]:List Api_Field) (0,0),Api_TypeNode.mk 13 0 0 (⟨#[]⟩:ByteArray) ([]:List Int) ([]:List Api_Field) (0,0)]:List Api_TypeNode) 0) e5) fun r6 =>
 some r6)) fun q7 =>
 some (.next (q7,wr .i64 (x4.2+1))))
 else (some (.done x4.1))
noncomputable def a0n (n:Nat):Option Bool :=
 Option.bind (a1a n (Api_Type.mk ([Api_TypeNode.mk 2 0 0 (⟨#[]⟩:ByteArray) ([]:List Int) ([]:List Api_Field) (0,0),Api_TypeNode.mk 13 0 0 (⟨#[]⟩:ByteArray) ([]:List Int) ([]:List Api_Field) (0,0)]:List Api_TypeNode) 0) (Api_Line.mk 8 0 ([]:List Api_Range) (Api_Names.mk false ([]:List ByteArray)) ([1]:List Int) ([]:List Int) ([]:List ByteArray) ([]:List ByteArray))) fun r1 =>
 Option.bind (a7z) fun r2 =>
 Option.bind (a2R ([Key.mk 0 (⟨#[97]⟩:ByteArray)]:List Key) ([r2]:List Val)) fun r3 =>
 Option.bind (z8 (a8U n r1 r3) ((r1.1.length:Int).toNat+1) (false,0)) fun b8 =>
 Option.bind (bif r1.2==0
 then (some (r3.2==0))
 else (some false)) fun q9 =>
 Option.bind (bif q9
 then (some b8)
 else (some false)) fun q10 =>
 some q10
def z7 (s:Semtypebase_Source)(n_1:Int):Option (Int×Semtypebase_Source) :=
 Option.bind (bif decide (n_1<1)
 then (some true)
 else (some (decide ((s.L.length:Int)<=s.At)))) fun q1 =>
 bif q1
 then (some (0,s))
 else (Option.bind (idx s.L s.At) fun e2 =>
 Option.bind (b2E e2 n_1) fun d3 =>
 bif decide (d3<0)
 then (some (wr .i64 (d3+n_1),Semtypebase_Source.mk s.L (wr .i64 (s.At+1))))
 else (some (d3,Semtypebase_Source.mk s.L (wr .i64 (s.At+1)))))
def X9 (s:Semtypebase_Source):Option (ByteArray×Semtypebase_Source) :=
 Option.bind (z7 s 4) fun r1 =>
 Option.bind (idx ([(⟨#[97]⟩:ByteArray),(⟨#[98]⟩:ByteArray),(⟨#[111,107]⟩:ByteArray),(⟨#[101,114,114,111,114]⟩:ByteArray)]:List ByteArray) r1.1) fun _ =>
 Option.bind (([(⟨#[97]⟩:ByteArray),(⟨#[98]⟩:ByteArray),(⟨#[111,107]⟩:ByteArray),(⟨#[101,114,114,111,114]⟩:ByteArray)]:List ByteArray)[r1.1.toNat]?) fun e3 =>
 some (e3,r1.2)
def a0G (s:Semtypebase_Source):Option (ByteArray×Semtypebase_Source) :=
 Option.bind (z7 s 4) fun r1 =>
 Option.bind (idx ([(⟨#[]⟩:ByteArray),(⟨#[115]⟩:ByteArray),(⟨#[120,32,121]⟩:ByteArray),(⟨#[97]⟩:ByteArray)]:List ByteArray) r1.1) fun _ =>
 Option.bind (([(⟨#[]⟩:ByteArray),(⟨#[115]⟩:ByteArray),(⟨#[120,32,121]⟩:ByteArray),(⟨#[97]⟩:ByteArray)]:List ByteArray)[r1.1.toNat]?) fun e3 =>
 some (e3,r1.2)
def a0r (s:Semtypebase_Source):Option (ByteArray×Semtypebase_Source) :=
 Option.bind (z7 s 3) fun r1 =>
 Option.bind (idx ([(⟨#[65]⟩:ByteArray),(⟨#[66]⟩:ByteArray),(⟨#[67]⟩:ByteArray)]:List ByteArray) r1.1) fun _ =>
 Option.bind (([(⟨#[65]⟩:ByteArray),(⟨#[66]⟩:ByteArray),(⟨#[67]⟩:ByteArray)]:List ByteArray)[r1.1.toNat]?) fun e3 =>
 some (e3,r1.2)
def W0 (from_:Int)(n_3:Int)(x1:Int×(List Int)×Semtypebase_Source):Option (Fl (Int×(List Int)×Semtypebase_Source) ((List Int)×Semtypebase_Source)) :=
 bif decide (0<x1.1)
 then (Option.bind (z7 x1.2.2 (wr .i64 (n_3-from_))) fun r2 =>
 Option.bind (Q8 (x1.2.1.length+([wr .i64 (from_+r2.1)]:List Int).length) 8) fun _ =>
 some (.next (wr .i64 (x1.1-1),x1.2.1++([wr .i64 (from_+r2.1)]:List Int),r2.2)))
 else (some (.done (x1.2.1,x1.2.2)))
def y3 (s:Semtypebase_Source)(many:Int)(from_:Int)(n_3:Int):Option ((List Int)×Semtypebase_Source) :=
 Option.bind (z8 (W0 from_ n_3) (many.toNat+2) (many,[],s)) fun b4 =>
 some (b4.1,b4.2)
def Q5 (n_1:Int)(x3:Int×Semtypebase_Source×(Int×Int×Int×ByteArray×(List Int)×(List Api_Field)×Int×Int)):Option (Fl (Int×Semtypebase_Source×(Int×Int×Int×ByteArray×(List Int)×(List Api_Field)×Int×Int)) (Semtypebase_Source×(Int×Int×Int×ByteArray×(List Int)×(List Api_Field)×Int×Int))) :=
 bif decide (x3.1<3)
 then (Option.bind (Option.bind (z7 x3.2.1 2) fun r4 =>
 bif r4.1==1
 then (Option.bind (idx ([Key.mk 0 (⟨#[97]⟩:ByteArray),Key.mk 0 (⟨#[98]⟩:ByteArray),Key.mk 1 (⟨#[115]⟩:ByteArray)]:List Key) x3.1) fun e5 =>
 Option.bind (z7 r4.2 n_1) fun r6 =>
 Option.bind (z7 r6.2 2) fun r7 =>
 Option.bind (Q8 (x3.2.2.2.2.2.2.2.1.length+([Api_Field.mk e5 r6.1 (r7.1==1)]:List Api_Field).length) 40) fun _ =>
 some (r7.2,(x3.2.2.1,x3.2.2.2.1,x3.2.2.2.2.1,x3.2.2.2.2.2.1,x3.2.2.2.2.2.2.1,x3.2.2.2.2.2.2.2.1++([Api_Field.mk e5 r6.1 (r7.1==1)]:List Api_Field),x3.2.2.2.2.2.2.2.2.1,x3.2.2.2.2.2.2.2.2.2)))
 else (some (r4.2,(x3.2.2.1,x3.2.2.2.1,x3.2.2.2.2.1,x3.2.2.2.2.2.1,x3.2.2.2.2.2.2.1,x3.2.2.2.2.2.2.2.1,x3.2.2.2.2.2.2.2.2.1,x3.2.2.2.2.2.2.2.2.2)))) fun b9 =>
 some (.next (wr .i64 (x3.1+1),b9.1,(b9.2.1,b9.2.2.1,b9.2.2.2.1,b9.2.2.2.2.1,b9.2.2.2.2.2.1,b9.2.2.2.2.2.2.1,b9.2.2.2.2.2.2.2.1,b9.2.2.2.2.2.2.2.2))))
 else (some (.done (x3.2.1,(x3.2.2.1,x3.2.2.2.1,x3.2.2.2.2.1,x3.2.2.2.2.2.1,x3.2.2.2.2.2.2.1,x3.2.2.2.2.2.2.2.1,x3.2.2.2.2.2.2.2.2.1,x3.2.2.2.2.2.2.2.2.2))))
def a0h (s:Semtypebase_Source)(n_1:Int):Option (Api_TypeNode×Semtypebase_Source) :=
 Option.bind (z7 s n_1) fun r1 =>
 Option.bind (z7 r1.2 n_1) fun r2 =>
 Option.bind (z8 (Q5 n_1) ((3:Int).toNat+1) (0,r2.2,(13,0,0,(⟨#[]⟩:ByteArray),[],[],r1.1,r2.1))) fun b10 =>
 some (Api_TypeNode.mk b10.2.1 b10.2.2.1 b10.2.2.2.1 b10.2.2.2.2.1 b10.2.2.2.2.2.1 b10.2.2.2.2.2.2.1 (b10.2.2.2.2.2.2.2.1,b10.2.2.2.2.2.2.2.2),b10.1)
def a0D (d:Semtypebase_Source)(t:Int)(a2_2:Int):Option (Api_TypeNode×Semtypebase_Source) :=
 Option.bind (bif t==(wr .i64 (a2_2-1))
 then (some 14)
 else (some 18)) fun b1 =>
 Option.bind (z7 d b1) fun r2 =>
 bif r2.1==0
 then (Option.bind (z7 r2.2 5) fun r3 =>
 Option.bind (idx ([(-9223372036854775808),0,1,2,9223372036854775807]:List Int) r3.1) fun _ =>
 Option.bind (([(-9223372036854775808),0,1,2,9223372036854775807]:List Int)[r3.1.toNat]?) fun e5 =>
 Option.bind (z7 r3.2 (wr .i64 (5-r3.1))) fun r6 =>
 Option.bind (idx ([(-9223372036854775808),0,1,2,9223372036854775807]:List Int) (wr .i64 (r3.1+r6.1))) fun _ =>
 Option.bind (([(-9223372036854775808),0,1,2,9223372036854775807]:List Int)[(wr .i64 (r3.1+r6.1)).toNat]?) fun e8 =>
 some (Api_TypeNode.mk 3 e5 e8 (⟨#[]⟩:ByteArray) ([]:List Int) ([]:List Api_Field) (0,0),r6.2))
 else (bif r2.1==1
 then (Option.bind (X9 r2.2) fun r9 =>
 some (Api_TypeNode.mk 6 0 0 r9.1 ([]:List Int) ([]:List Api_Field) (0,0),r9.2))
 else (bif r2.1==2
 then (some (Api_TypeNode.mk 7 0 0 (⟨#[]⟩:ByteArray) ([]:List Int) ([]:List Api_Field) (0,0),r2.2))
 else (bif r2.1==3
 then (Option.bind (a0G r2.2) fun r10 =>
 some (Api_TypeNode.mk 4 0 0 r10.1 ([]:List Int) ([]:List Api_Field) (0,0),r10.2))
 else (bif r2.1==4
 then (Option.bind (z7 r2.2 4) fun r11 =>
 Option.bind (idx ([5,8,11,15]:List Int) r11.1) fun _ =>
 Option.bind (([5,8,11,15]:List Int)[r11.1.toNat]?) fun e13 =>
 some (Api_TypeNode.mk e13 0 0 (⟨#[]⟩:ByteArray) ([]:List Int) ([]:List Api_Field) (0,0),r11.2))
 else (bif r2.1==5
 then (some (Api_TypeNode.mk 9 0 0 (⟨#[]⟩:ByteArray) ([]:List Int) ([]:List Api_Field) (0,0),r2.2))
 else (bif r2.1==6
 then (Option.bind (z7 r2.2 2) fun r14 =>
 Option.bind (idx ([2,1]:List Int) r14.1) fun _ =>
 Option.bind (([2,1]:List Int)[r14.1.toNat]?) fun e16 =>
 some (Api_TypeNode.mk e16 0 0 (⟨#[]⟩:ByteArray) ([]:List Int) ([]:List Api_Field) (0,0),r14.2))
 else (bif r2.1==7
 then (Option.bind (a0r r2.2) fun r17 =>
 some (Api_TypeNode.mk 19 0 0 r17.1 ([]:List Int) ([]:List Api_Field) (0,0),r17.2))
 else (Option.bind (bif r2.1==8
 then (some (r2.1==8))
 else (some (r2.1==9))) fun b18 =>
 bif b18
 then (Option.bind (z7 r2.2 3) fun r19 =>
 Option.bind (y3 r19.2 r19.1 0 a2_2) fun r20 =>
 some (Api_TypeNode.mk 10 0 0 (⟨#[]⟩:ByteArray) r20.1 ([]:List Api_Field) (0,0),r20.2))
 else (bif r2.1==10
 then (Option.bind (y3 r2.2 2 0 a2_2) fun r21 =>
 some (Api_TypeNode.mk 12 0 0 (⟨#[]⟩:ByteArray) r21.1 ([]:List Api_Field) (0,0),r21.2))
 else (bif r2.1==11
 then (Option.bind (a0h r2.2 a2_2) fun r22 =>
 some (r22.1,r22.2))
 else (Option.bind (bif r2.1==12
 then (some (r2.1==12))
 else (some (r2.1==13))) fun b23 =>
 bif b23
 then (Option.bind (z7 r2.2 3) fun r24 =>
 Option.bind (y3 r24.2 (wr .i64 (1+r24.1)) 0 a2_2) fun r25 =>
 some (Api_TypeNode.mk 14 0 0 (⟨#[]⟩:ByteArray) r25.1 ([]:List Api_Field) (0,0),r25.2))
 else (bif r2.1==14
 then (Option.bind (y3 r2.2 1 (wr .i64 (t+1)) a2_2) fun r26 =>
 some (Api_TypeNode.mk 18 0 0 (⟨#[]⟩:ByteArray) r26.1 ([]:List Api_Field) (0,0),r26.2))
 else (bif r2.1==15
 then (Option.bind (y3 r2.2 2 (wr .i64 (t+1)) a2_2) fun r27 =>
 some (Api_TypeNode.mk 17 0 0 (⟨#[]⟩:ByteArray) r27.1 ([]:List Api_Field) (0,0),r27.2))
 else (Option.bind (z7 r2.2 2) fun r28 =>
 Option.bind (y3 r28.2 (wr .i64 (2+r28.1)) (wr .i64 (t+1)) a2_2) fun r29 =>
 some (Api_TypeNode.mk 16 0 0 (⟨#[]⟩:ByteArray) r29.1 ([]:List Api_Field) (0,0),r29.2)))))))))))))))
def V1 (n_1:Int)(x1:Int×Semtypebase_Source×((List Api_TypeNode)×Int)):Option (Fl (Int×Semtypebase_Source×((List Api_TypeNode)×Int)) (Semtypebase_Source×((List Api_TypeNode)×Int))) :=
 bif decide (x1.1<(max n_1 1))
 then (Option.bind (a0D x1.2.1 x1.1 (max n_1 1)) fun r2 =>
 Option.bind (Q8 (x1.2.2.1.length+([r2.1]:List Api_TypeNode).length) 104) fun _ =>
 some (.next (wr .i64 (x1.1+1),r2.2,(x1.2.2.1++([r2.1]:List Api_TypeNode),x1.2.2.2))))
 else (some (.done (x1.2.1,(x1.2.2.1,x1.2.2.2))))
def a0C (s:Semtypebase_Source)(n_1:Int):Option (((List Api_TypeNode)×Int)×Semtypebase_Source) :=
 Option.bind (z8 (V1 n_1) ((max n_1 1).toNat+1) (0,s,([],0))) fun b4 =>
 some ((b4.2.1,b4.2.2),b4.1)
def X1 (r2:((List Api_TypeNode)×Int)×Semtypebase_Source)(x6:Int×Semtypebase_Source×(Int×Int×Int×ByteArray×(List Int)×(List Api_Field)×Int×Int)):Option (Fl (Int×Semtypebase_Source×(Int×Int×Int×ByteArray×(List Int)×(List Api_Field)×Int×Int)) (Semtypebase_Source×(Int×Int×Int×ByteArray×(List Int)×(List Api_Field)×Int×Int))) :=
 bif decide (x6.1<2)
 then (Option.bind (Option.bind (z7 x6.2.1 2) fun r7 =>
 bif r7.1==1
 then (Option.bind (idx ([(⟨#[97]⟩:ByteArray),(⟨#[98]⟩:ByteArray)]:List ByteArray) x6.1) fun _ =>
 Option.bind (([(⟨#[97]⟩:ByteArray),(⟨#[98]⟩:ByteArray)]:List ByteArray)[x6.1.toNat]?) fun e9 =>
 Option.bind (z7 r7.2 (r2.1.1.length:Int)) fun r10 =>
 Option.bind (z7 r10.2 2) fun r11 =>
 Option.bind (Q8 (x6.2.2.2.2.2.2.2.1.length+([Api_Field.mk (Key.mk 0 e9) r10.1 (r11.1==1)]:List Api_Field).length) 40) fun _ =>
 some (r11.2,(x6.2.2.1,x6.2.2.2.1,x6.2.2.2.2.1,x6.2.2.2.2.2.1,x6.2.2.2.2.2.2.1,x6.2.2.2.2.2.2.2.1++([Api_Field.mk (Key.mk 0 e9) r10.1 (r11.1==1)]:List Api_Field),x6.2.2.2.2.2.2.2.2.1,x6.2.2.2.2.2.2.2.2.2)))
 else (some (r7.2,(x6.2.2.1,x6.2.2.2.1,x6.2.2.2.2.1,x6.2.2.2.2.2.1,x6.2.2.2.2.2.2.1,x6.2.2.2.2.2.2.2.1,x6.2.2.2.2.2.2.2.2.1,x6.2.2.2.2.2.2.2.2.2)))) fun b13 =>
 some (.next (wr .i64 (x6.1+1),b13.1,(b13.2.1,b13.2.2.1,b13.2.2.2.1,b13.2.2.2.2.1,b13.2.2.2.2.2.1,b13.2.2.2.2.2.2.1,b13.2.2.2.2.2.2.2.1,b13.2.2.2.2.2.2.2.2))))
 else (some (.done (x6.2.1,(x6.2.2.1,x6.2.2.2.1,x6.2.2.2.2.1,x6.2.2.2.2.2.1,x6.2.2.2.2.2.2.1,x6.2.2.2.2.2.2.2.1,x6.2.2.2.2.2.2.2.2.1,x6.2.2.2.2.2.2.2.2.2))))
def W2 (r2:((List Api_TypeNode)×Int)×Semtypebase_Source)(x3:Int×((List Api_TypeNode)×Int)×Semtypebase_Source×(Int×Int×(List Api_Range)×Bool×(List ByteArray)×(List Int)×(List Int)×(List ByteArray)×(List ByteArray))):Option (Fl (Int×((List Api_TypeNode)×Int)×Semtypebase_Source×(Int×Int×(List Api_Range)×Bool×(List ByteArray)×(List Int)×(List Int)×(List ByteArray)×(List ByteArray))) (((List Api_TypeNode)×Int)×Semtypebase_Source×(Int×Int×(List Api_Range)×Bool×(List ByteArray)×(List Int)×(List Int)×(List ByteArray)×(List ByteArray)))) :=
 bif decide (x3.1<3)
 then (Option.bind (Option.bind (z7 x3.2.2.1 (r2.1.1.length:Int)) fun r4 =>
 Option.bind (z7 r4.2 (r2.1.1.length:Int)) fun r5 =>
 Option.bind (z8 (X1 r2) ((2:Int).toNat+1) (0,r5.2,(13,0,0,(⟨#[]⟩:ByteArray),[],[],r4.1,r5.1))) fun b14 =>
 Option.bind (Q8 (x3.2.1.1.length+([Api_TypeNode.mk b14.2.1 b14.2.2.1 b14.2.2.2.1 b14.2.2.2.2.1 b14.2.2.2.2.2.1 b14.2.2.2.2.2.2.1 (b14.2.2.2.2.2.2.2.1,b14.2.2.2.2.2.2.2.2)]:List Api_TypeNode).length) 104) fun _ =>
 Option.bind (z7 b14.1 3) fun r16 =>
 Option.bind (bif r16.1==0
 then (Option.bind (Q8 (x3.2.2.2.2.2.2.2.2.1.length+([wr .i64 ((r2.1.1.length:Int)+x3.1)]:List Int).length) 8) fun _ =>
 some (x3.2.2.2.1,x3.2.2.2.2.1,x3.2.2.2.2.2.1,x3.2.2.2.2.2.2.1,x3.2.2.2.2.2.2.2.1,x3.2.2.2.2.2.2.2.2.1++([wr .i64 ((r2.1.1.length:Int)+x3.1)]:List Int),x3.2.2.2.2.2.2.2.2.2.1,x3.2.2.2.2.2.2.2.2.2.2.1,x3.2.2.2.2.2.2.2.2.2.2.2))
 else (some (x3.2.2.2.1,x3.2.2.2.2.1,x3.2.2.2.2.2.1,x3.2.2.2.2.2.2.1,x3.2.2.2.2.2.2.2.1,x3.2.2.2.2.2.2.2.2.1,x3.2.2.2.2.2.2.2.2.2.1,x3.2.2.2.2.2.2.2.2.2.2.1,x3.2.2.2.2.2.2.2.2.2.2.2))) fun b18 =>
 bif r16.1==1
 then (Option.bind (Q8 (b18.2.2.2.2.2.2.1.length+([wr .i64 ((r2.1.1.length:Int)+x3.1)]:List Int).length) 8) fun _ =>
 some ((x3.2.1.1++([Api_TypeNode.mk b14.2.1 b14.2.2.1 b14.2.2.2.1 b14.2.2.2.2.1 b14.2.2.2.2.2.1 b14.2.2.2.2.2.2.1 (b14.2.2.2.2.2.2.2.1,b14.2.2.2.2.2.2.2.2)]:List Api_TypeNode),x3.2.1.2),r16.2,(b18.1,b18.2.1,b18.2.2.1,b18.2.2.2.1,b18.2.2.2.2.1,b18.2.2.2.2.2.1,b18.2.2.2.2.2.2.1++([wr .i64 ((r2.1.1.length:Int)+x3.1)]:List Int),b18.2.2.2.2.2.2.2.1,b18.2.2.2.2.2.2.2.2)))
 else (some ((x3.2.1.1++([Api_TypeNode.mk b14.2.1 b14.2.2.1 b14.2.2.2.1 b14.2.2.2.2.1 b14.2.2.2.2.2.1 b14.2.2.2.2.2.2.1 (b14.2.2.2.2.2.2.2.1,b14.2.2.2.2.2.2.2.2)]:List Api_TypeNode),x3.2.1.2),r16.2,(b18.1,b18.2.1,b18.2.2.1,b18.2.2.2.1,b18.2.2.2.2.1,b18.2.2.2.2.2.1,b18.2.2.2.2.2.2.1,b18.2.2.2.2.2.2.2.1,b18.2.2.2.2.2.2.2.2)))) fun b20 =>
 some (.next (wr .i64 (x3.1+1),(b20.1.1,b20.1.2),b20.2.1,(b20.2.2.1,b20.2.2.2.1,b20.2.2.2.2.1,b20.2.2.2.2.2.1,b20.2.2.2.2.2.2.1,b20.2.2.2.2.2.2.2.1,b20.2.2.2.2.2.2.2.2.1,b20.2.2.2.2.2.2.2.2.2.1,b20.2.2.2.2.2.2.2.2.2.2))))
 else (some (.done ((x3.2.1.1,x3.2.1.2),x3.2.2.1,(x3.2.2.2.1,x3.2.2.2.2.1,x3.2.2.2.2.2.1,x3.2.2.2.2.2.2.1,x3.2.2.2.2.2.2.2.1,x3.2.2.2.2.2.2.2.2.1,x3.2.2.2.2.2.2.2.2.2.1,x3.2.2.2.2.2.2.2.2.2.2.1,x3.2.2.2.2.2.2.2.2.2.2.2))))
def a19 (d:List Int)(t:List Int):Option (Api_Type×Api_Line) :=
 Option.bind (z7 (Semtypebase_Source.mk d 0) 4) fun r1 =>
 Option.bind (a0C r1.2 (wr .i64 (1+r1.1))) fun r2 =>
 Option.bind (z8 (W2 r2) ((3:Int).toNat+1) (0,(r2.1.1,r2.1.2),Semtypebase_Source.mk t 0,(8,0,[],false,[],[],[],[],[]))) fun b21 =>
 some (Api_Type.mk b21.1.1 b21.1.2,Api_Line.mk b21.2.2.1 b21.2.2.2.1 b21.2.2.2.2.1 (Api_Names.mk b21.2.2.2.2.2.1 b21.2.2.2.2.2.2.1) b21.2.2.2.2.2.2.2.1 b21.2.2.2.2.2.2.2.2.1 b21.2.2.2.2.2.2.2.2.2.1 b21.2.2.2.2.2.2.2.2.2.2)
def a2d (t:Api_Type)(k:Int):Option Bool :=
 Option.bind (bif decide (0<=k)
 then (some (decide (k<(t.Nodes.length:Int))))
 else (some false)) fun q1 =>
 some q1
def a0c (t:Api_Type)(g:Api_Goal)(x3:Int):Option (Fl Int (Sum Unit Bool)) :=
 bif decide (x3<((g.Pos++g.Neg).length:Int))
 then (Option.bind (idx (g.Pos++g.Neg) x3) fun e4 =>
 Option.bind (a2d t e4) fun r5 =>
 bif !r5
 then (some (.done (.inr false)))
 else (some (.next (wr .i64 (x3+1)))))
 else (some (.done (.inl ())))
def a1D (t:Api_Type)(g:Api_Goal):Option Bool :=
 Option.bind (Q8 (0+g.Pos.length) 8) fun _ =>
 Option.bind (Q8 (g.Pos.length+g.Neg.length) 8) fun _ =>
 Option.bind (z8 (a0c t g) (((g.Pos++g.Neg).length:Int).toNat+1) 0) fun b6 =>
 v8 (fun _ =>
 some true) (fun y8 =>
 some y8) b6
noncomputable def Y5 (a2_2:Api_Line)(r6:Api_Type×Api_Line)(x11:Bool×Int):Option (Fl (Bool×Int) Bool) :=
 Option.bind (bif x11.1
 then (some (decide (x11.2<((a2_2.Pos++a2_2.Neg).length:Int))))
 else (some false)) fun q12 =>
 bif q12
 then (Option.bind (idx (a2_2.Pos++a2_2.Neg) x11.2) fun e13 =>
 Option.bind (idx r6.1.Nodes e13) fun e14 =>
 some (.next (e14.Kind==13,wr .i64 (x11.2+1))))
 else (some (.done x11.1))
noncomputable def V7 (n:Nat)(d:List Int)(t:List Int)(a2_2:Api_Line)(a3_3:Api_Shape):Option Bool :=
 Option.bind (a1T ([d,t]:List (List Int))) fun r1 =>
 Option.bind (bif !r1
 then (some true)
 else (some (decide (6<(a2_2.Pos.length:Int))))) fun q2 =>
 Option.bind (bif q2
 then (some true)
 else (some (decide (6<(a2_2.Neg.length:Int))))) fun q3 =>
 Option.bind (bif q3
 then (some true)
 else (some (decide (6<(a3_3.Keys.length:Int))))) fun q4 =>
 bif q4
 then (Option.bind (a0n n) fun r5 =>
 some r5)
 else (Option.bind (a19 d t) fun r6 =>
 Option.bind (a1a n r6.1 a2_2) fun r7 =>
 Option.bind (Q8 (0+a2_2.Pos.length) 8) fun _ =>
 Option.bind (Q8 (a2_2.Pos.length+a2_2.Neg.length) 8) fun _ =>
 Option.bind (a1D r6.1 (Api_Goal.mk (a2_2.Pos++a2_2.Neg) ([]:List Int) false)) fun r10 =>
 Option.bind (z8 (Y5 a2_2 r6) (((a2_2.Pos++a2_2.Neg).length:Int).toNat+1) (r10,0)) fun b15 =>
 Option.bind (bif a2_2.Kind != 8
 then (some 9)
 else (bif !b15
 then (some 1)
 else (some 0))) fun b16 =>
 Option.bind (a2R ([]:List Key) ([]:List Val)) fun r17 =>
 Option.bind (bif (a3_3.States.length:Int) != (a3_3.Keys.length:Int)
 then (some true)
 else (some ((a3_3.Parts.length:Int) != (a3_3.Keys.length:Int)))) fun q18 =>
 Option.bind (bif r7.2==b16
 then (some (r17.2==0))
 else (some false)) fun q19 =>
 Option.bind (bif q19
 then (Option.bind (bif !q18
 then (some true)
 else (Option.bind (a2q n r17.1 r6.1 a3_3) fun r20 =>
 some (!r20))) fun q21 =>
 some q21)
 else (some false)) fun q22 =>
 Option.bind (bif q22
 then (Option.bind (a0n n) fun r23 =>
 some r23)
 else (some false)) fun q24 =>
 some q24)
end Go.Qx
end
section
namespace Go.Pl
open Go Go.RowKit Go.Sx Go.Qx
theorem Q4 (x:Int):wr .i64 x=w64 x:=rfl
theorem a0K {α:Type}(b:Bool)(x y:α):(bif b then x else y)=if b=true then x else y:=by cases b<;>rfl
theorem a1V {α:Type}(o:Option α):(Option.bind o fun x=>some x)=o:=by cases o<;>rfl
theorem J5 {α:Type}(l:List α):((l.length:Int)).toNat=l.length:=by omega
theorem c2b (s:ByteArray):((s.size:Int)).toNat=s.size:=by omega
theorem X4 {x:Int}(h1 : -9223372036854775808<=x)(h2:x<=9223372036854775807):w64 x=x:=by
 unfold w64
 rw [IntKind.wrap_i64]
 omega
theorem k7 {α:Type}{xs:List α}{i:Nat}{x:α}(h:xs[i]?=some x):idx xs (i:Int)=some x:=by
 unfold idx
 rw [if_pos (by omega)]
 simpa using h
theorem Z9 {n bytes:Nat}(h:n*bytes<=140737488355328):Q8 n bytes=some ():=by unfold Q8; rw [if_pos h]
theorem a7B {σ α St β:Type}{step:St->Option (Fl St β)}(xs:List α)(pack:σ->Nat->St)(F:σ->α->σ)(I:Nat->σ->Prop)(D:σ->β)
 (hstep:∀ i s x,xs[i]?=some x->I i s->step (pack s i)=some (.next (pack (F s x) (i+1)))/\I (i+1) (F s x))
 (hend:∀ s,I xs.length s->step (pack s xs.length)=some (.done (D s))) (s0:σ) (h0:I 0 s0) (k:Nat) (hk:xs.length+1<=k) :
 z8 step k (pack s0 0)=some (D (xs.foldl F s0)):=by
 have key:∀ (n i:Nat) (s:σ) (k:Nat),i+n=xs.length->n+1<=k->I i s->z8 step k (pack s i)=some (D ((xs.drop i).foldl F s)):=by
  intro n
  induction n with
  | zero =>
    intro i s k hi hk hI
    have e:i=xs.length:=by omega
    subst e
    obtain ⟨k,rfl⟩:∃ m,k=m+1:=⟨k-1,by omega⟩
    simp [z8,hend s hI]
  | succ n ih =>
    intro i s k hi hk hI
    have hlt:i<xs.length:=by omega
    obtain ⟨k,rfl⟩:∃ m,k=m+1:=⟨k-1,by omega⟩
    obtain ⟨h1,h2⟩:=hstep i s xs[i] (List.getElem?_eq_getElem hlt) hI
    rw [List.drop_eq_getElem_cons hlt,List.foldl_cons]
    simp only [z8,h1,Option.bind_some]
    exact ih (i+1) _ k (by omega) (by omega) h2
 have:=key xs.length 0 s0 k (by omega) hk h0
 simpa using this
def a1r (s:ByteArray):Nat:=s.size+1
def a21:List ByteArray->Nat
 | []=>0
 | s::r=>a1r s+a21 r
def a35 (k:Key):Nat:=1+a1r k.Text+1
def a3U:List Key->Nat
 | []=>0
 | s::r=>a35 s+a3U r
mutual
def a0p:Val->Nat
 | .mk _ _ t kids keys ents labs=>1+1+a1r t+(V5 kids+1)+(a3U keys+1)+(a0I ents+1)+(a21 labs+1)+1
def V5:List Val->Nat
 | []=>0
 | x::r=>a0p x+V5 r
def a6q:Ent->Nat
 | .mk args _ res=>(V5 args+1)+1+a0p res+1
def a0I:List Ent->Nat
 | []=>0
 | x::r=>a6q x+a0I r
end
theorem a23 (v:Val):a0p v=1+1+a1r v.Text+(V5 v.Kids+1)+(a3U v.Keys+1)+(a0I v.Entries+1)+(a21 v.Labels+1)+1:=by
 cases v; simp only [a0p,Val.Text,Val.Kids,Val.Keys,Val.Entries,Val.Labels]
theorem a40 (v:Ent):a6q v=(V5 v.Args+1)+1+a0p v.Result+1:=by
 cases v; simp only [a6q,Ent.Args,Ent.Result]
theorem a4C {x:Val}:∀ {l:List Val},x∈l->a0p x<=V5 l
 | y::r,h=>by
   simp only [V5]
   rcases List.mem_cons.1 h with rfl | h
   ·omega
   ·have:=a4C h; omega
theorem a1S {x:Ent}:∀ {l:List Ent},x∈l->a6q x<=a0I l
 | y::r,h=>by
   simp only [a0I]
   rcases List.mem_cons.1 h with rfl | h
   ·omega
   ·have:=a1S h; omega
theorem a3x:∀ (l:List Val),l.length<=V5 l
 | []=>Nat.le_refl _
 | x::r=>by have:=a3x r; have:=a23 x; simp only [V5,List.length_cons]; omega
theorem a6j:∀ (l:List Ent),l.length<=a0I l
 | []=>Nat.le_refl _
 | x::r=>by have:=a6j r; have:=a40 x; simp only [a0I,List.length_cons]; omega
theorem a6P:∀ (l:List Key),l.length<=a3U l
 | []=>Nat.le_refl _
 | x::r=>by have:=a6P r; simp only [a3U,a35,List.length_cons]; omega
theorem a6Q:∀ (l:List ByteArray),l.length<=a21 l
 | []=>Nat.le_refl _
 | x::r=>by have:=a6Q r; simp only [a21,a1r,List.length_cons]; omega
theorem a6l (l m:List Val):V5 (l++m)=V5 l+V5 m:=by
 induction l with
 | nil=>simp [V5]
 | cons x r ih=>simp only [List.cons_append,V5,ih]; omega
theorem b43 (v:Val):8<=a0p v:=by rw [a23]; unfold a1r; omega
end Go.Pl
namespace Go.Pl
open Go Go.RowKit Go.Sx Go.Qx
def a2W (e:Ent):List Val:=e.Args++(if e.Fails then [] else [e.Result])
def a4B (v:Val):List Val:=v.Kids++v.Entries.flatMap a2W
theorem b64 (e:Ent):V5 (a2W e)<a6q e:=by
 rw [a40,a2W,a6l]
 cases e.Fails<;>simp [V5]<;>omega
theorem b0T:∀ l:List Ent,V5 (l.flatMap a2W)<=a0I l
 | []=>by simp [V5]
 | e::r=>by
   have h1:=b0T r
   have h2:=b64 e
   simp only [List.flatMap_cons,a6l,a0I]
   omega
theorem b8j (v:Val):V5 (a4B v)<a0p v:=by
 have:=b0T v.Entries
 rw [a23,a4B,a6l]
 omega
theorem b41 {α β:Type}(f:β->List α):∀ (l:List β) (s:List α),l.foldl (fun s x=>s++f x) s=s++l.flatMap f
 | [],s=>by simp
 | x::r,s=>by simp only [List.foldl_cons,b41 f r,List.flatMap_cons,List.append_assoc]
theorem b95 (v:Val)(h:a0p v<=4194304):a5j v=some (a4B v):=by
 have hb:=a23 v
 have hk:=a3x v.Kids
 unfold a5j X2
 rw [Z9 (by simp; omega)]
 simp only [Option.bind_some,J5,a1V]
 have hlen:=a6j v.Entries
 have hloop:z8 (a3k v) (v.Entries.length+1) (v.Kids,0)=some (v.Entries.foldl (fun s e=>s++a2W e) v.Kids):=by
  refine a7B (σ:=List Val) v.Entries (fun s i=>(s,(i:Int))) (fun s e=>s++a2W e) (fun i s=>s=v.Kids++(v.Entries.take i).flatMap a2W) (fun s=>s)
   ?_ ?_ v.Kids (by simp) _ (Nat.le_refl _)
  ·intro i s e he hI
   have hi:i<v.Entries.length:=(List.getElem?_eq_some_iff.1 he).1
   have hmem:e∈v.Entries:=List.mem_of_getElem? he
   have h1:=a1S hmem
   have h2:=a40 e
   have h3:=a3x e.Args
   have hs:s.length+e.Args.length+1<=8388608:=by
    have:V5 s<=a0p v:=by
     rw [hI,a6l]
     have h5:=b0T (v.Entries.take i)
     have h6:a0I (v.Entries.take i)<=a0I v.Entries:=by
      have:=List.take_append_drop i v.Entries
      have h7:∀ a b:List Ent,a0I (a++b)=a0I a+a0I b:=by
       intro a b
       induction a with
       | nil=>simp [a0I]
       | cons x r ih=>simp only [List.cons_append,a0I,ih]; omega
      have h8:=h7 (v.Entries.take i) (v.Entries.drop i)
      rw [this] at h8
      omega
     omega
    have:=a3x s
    omega
   refine ⟨?_,?_⟩
   ·unfold a3k
    simp only [a0K,Q4]
    rw [if_pos (by simp; omega),k7 he]
    simp only [Option.bind_some]
    rw [Z9 (by omega)]
    simp only [Option.bind_some]
    have hw:w64 ((i:Int)+1)=((i+1:Nat):Int):=by rw [X4 (by omega) (by omega)]; rfl
    cases hf:e.Fails
    ·rw [if_pos (by simp),Z9 (by simp only [List.length_append,List.length_cons,List.length_nil]; omega)]
     simp [a2W,hf,hw]
    ·rw [if_neg (by simp)]
     simp [a2W,hf,hw]
   ·rw [hI,List.take_add_one,he]
    simp
  ·intro s _
   unfold a3k
   simp
 rw [hloop]
 simp only [b41,a4B]
theorem a7C {α:Type}{l:List α}{i:Nat}{x:α}(h:l[i]?=some x):l.take (i+1)=l.take i++[x]:=by
 rw [List.take_add_one,h]; rfl
end Go.Pl
end
section
namespace Go.Pl
open Go Go.RowKit Go.Sx Go.Qx
def tn (x y:Int):Int:=if x=0 then y else x
def cI (x y:Int):Int:=if x<y then -1 else if y<x then 1 else 0
def lx:List Int->List Int->Int
 | [],[]=>0
 | [],_::_ => -1
 | _::_,[]=>1
 | x::xs,y::ys=>tn (cI x y) (lx xs ys)
theorem b6d (x y z:Int):tn (tn x y) z=tn x (tn y z):=by unfold tn; split<;>simp_all
theorem b7y (x:Int):tn x 0=x:=by unfold tn; split<;>simp_all
theorem b4b (x:Int):tn 0 x=x:=by simp [tn]
theorem J9 (x y:Int):(x<y/\cI x y = -1)\/(y<x/\cI x y=1)\/(x=y/\cI x y=0):=by
 unfold cI
 by_cases h:x<y
 ·left; simp [h]
 ·by_cases h2:y<x
  ·right; left; simp [h,h2]
  ·right; right; simp [h,h2]; omega
theorem b4i:∀ a b:List Int,lx b a = - lx a b
 | [],[]=>by simp [lx]
 | [],_::_=>by simp [lx]
 | _::_,[]=>by simp [lx]
 | x::xs,y::ys=>by
   have:=b4i xs ys
   rcases J9 x y with ⟨h1,h⟩ | ⟨h1,h⟩ | ⟨h1,h⟩<;>rcases J9 y x with ⟨h2,k⟩ | ⟨h2,k⟩ | ⟨h2,k⟩<;>simp [lx,h,k,tn]<;>omega
theorem b6O:∀ a b c:List Int,lx a b<=0->lx b c<=0->lx a c<=0
 | [],_,[],_,_=>by simp [lx]
 | [],_,_::_,_,_=>by simp [lx]
 | _::_,[],_,h,_=>by simp [lx] at h
 | _::_,_::_,[],_,h=>by simp [lx] at h
 | x::xs,y::ys,z::zs,h1,h2=>by
   have:=b6O xs ys zs
   rcases J9 x y with ⟨p1,h⟩ | ⟨p1,h⟩ | ⟨p1,h⟩<;>rcases J9 y z with ⟨p2,k⟩ | ⟨p2,k⟩ | ⟨p2,k⟩ <;>
    rcases J9 x z with ⟨p3,l⟩ | ⟨p3,l⟩ | ⟨p3,l⟩<;>simp [lx,h,k,l,tn] at h1 h2 ⊢<;>first | omega | (exact this (by omega) (by omega))
theorem c1H:∀ a:List Int,lx a a=0:=by intro a; have:=b4i a a; omega
def cBs:List UInt8->List UInt8->Int
 | [],[]=>0
 | [],_::_ => -1
 | _::_,[]=>1
 | x::xs,y::ys=>tn (cI x.toNat y.toNat) (cBs xs ys)
def eBs:List UInt8->List Int
 | []=>[0]
 | x::r=>((x.toNat:Int)+1)::eBs r
theorem c1w (x y:Int):cI (x+1) (y+1)=cI x y:=by
 unfold cI
 by_cases h:x<y
 ·rw [if_pos (by omega),if_pos h]
 ·rw [if_neg (by omega),if_neg h]
  by_cases h2:y<x
  ·rw [if_pos (by omega),if_pos h2]
  ·rw [if_neg (by omega),if_neg h2]
theorem c2R:∀ (a b:List UInt8) (r s:List Int),lx (eBs a++r) (eBs b++s)=tn (cBs a b) (lx r s)
 | [],[],r,s=>by simp [eBs,lx,cBs,cI,b4b]
 | [],y::ys,r,s=>by
   have:cI 0 ((y.toNat:Int)+1) = -1:=by unfold cI; rw [if_pos (by omega)]
   simp [eBs,lx,cBs,this,tn]
 | x::xs,[],r,s=>by
   have:cI ((x.toNat:Int)+1) 0=1:=by unfold cI; rw [if_neg (by omega),if_pos (by omega)]
   simp [eBs,lx,cBs,this,tn]
 | x::xs,y::ys,r,s=>by
   simp only [eBs,List.cons_append,lx,cBs,c1w,c2R xs ys,b6d]
def cS (a b:ByteArray):Int:=cBs a.data.toList b.data.toList
def eS (a:ByteArray):List Int:=eBs a.data.toList
theorem pfS (a b:ByteArray)(r s:List Int):lx (eS a++r) (eS b++s)=tn (cS a b) (lx r s):=c2R _ _ r s
def cK (a b:Key):Int:=tn (cI a.Kind b.Kind) (cS a.Text b.Text)
def eK (a:Key):List Int:=a.Kind::eS a.Text
theorem pfK (a b:Key)(r s:List Int):lx (eK a++r) (eK b++s)=tn (cK a b) (lx r s):=by
 simp only [eK,List.cons_append,lx,pfS,cK,b6d]
def cL {α:Type}(c:α->α->Int):List α->List α->Int
 | [],_=>0
 | _::_,[]=>0
 | x::xs,y::ys=>tn (c x y) (cL c xs ys)
def cN {α:Type}(c:α->α->Int)(xs ys:List α):Int:=tn (cI (xs.length:Int) (ys.length:Int)) (cL c xs ys)
def bI (b:Bool):Int:=if b then 0 else 1
mutual
def cV:Val->Val->Int
 | .mk k n t kids keys ents labs,b=>tn (cI k b.Kind) (tn (cI n b.Int_) (tn (cS t b.Text) (tn (cN cK keys b.Keys) (tn (tn (cI (kids.length:Int) (b.Kids.length:Int)) (cVs kids b.Kids)) (tn (tn (cI (ents.length:Int) (b.Entries.length:Int)) (cEs ents b.Entries)) (cN cS labs b.Labels))))))
def cVs:List Val->List Val->Int
 | [],_=>0
 | _::_,[]=>0
 | x::xs,y::ys=>tn (cV x y) (cVs xs ys)
def cE:Ent->Ent->Int
 | .mk args f res,b=>tn (tn (cI (args.length:Int) (b.Args.length:Int)) (cVs args b.Args)) (tn (cI (bI f) (bI b.Fails)) (cV res b.Result))
def cEs:List Ent->List Ent->Int
 | [],_=>0
 | _::_,[]=>0
 | x::xs,y::ys=>tn (cE x y) (cEs xs ys)
end
theorem b6R:∀ xs ys:List Val,cVs xs ys=cL cV xs ys
 | [],_=>by simp [cVs,cL]
 | _::_,[]=>by simp [cVs,cL]
 | x::xs,y::ys=>by simp only [cVs,cL,b6R xs ys]
theorem b81:∀ xs ys:List Ent,cEs xs ys=cL cE xs ys
 | [],_=>by simp [cEs,cL]
 | _::_,[]=>by simp [cEs,cL]
 | x::xs,y::ys=>by simp only [cEs,cL,b81 xs ys]
theorem c33 (a b:Val):cV a b=tn (cI a.Kind b.Kind) (tn (cI a.Int_ b.Int_) (tn (cS a.Text b.Text) (tn (cN cK a.Keys b.Keys) (tn (cN cV a.Kids b.Kids) (tn (cN cE a.Entries b.Entries) (cN cS a.Labels b.Labels)))))):=by
 cases a; simp only [cV,b6R,b81,cN,Val.Kind,Val.Int_,Val.Text,Val.Keys,Val.Kids,Val.Entries,Val.Labels]
theorem c4c (a b:Ent):cE a b=tn (cN cV a.Args b.Args) (tn (cI (bI a.Fails) (bI b.Fails)) (cV a.Result b.Result)):=by
 cases a; simp only [cE,b6R,cN,Ent.Args,Ent.Fails,Ent.Result]
end Go.Pl
namespace Go.Pl
open Go Go.RowKit Go.Sx Go.Qx
theorem a9d (a b:Int):K4 a b=some (cI a b):=by
 unfold K4 a3N
 simp only [a0K,bne_self_eq_false,Option.bind_some,Bool.false_eq_true,if_false]
 rcases J9 a b with ⟨h,e⟩ | ⟨h,e⟩ | ⟨h,e⟩
 ·rw [if_pos (by simpa using h),e]
 ·rw [if_neg (by simp; omega),if_pos (by simpa using h),e]
 ·rw [if_neg (by simp; omega),if_neg (by simp; omega),e]
theorem b6u (a b:Int):a2c a b=some (cI a b):=by
 unfold a2c a2S
 simp only [a0K,bne_self_eq_false,Option.bind_some,Bool.false_eq_true,if_false]
 rcases J9 a b with ⟨h,e⟩ | ⟨h,e⟩ | ⟨h,e⟩
 ·rw [if_pos (by simpa using h),e]
 ·rw [if_neg (by simp; omega),if_pos (by simpa using h),e]
 ·rw [if_neg (by simp; omega),if_neg (by simp; omega),e]
theorem b7J:∀ a b:List UInt8,Lib.compareBytes a b=cBs a b
 | [],[]=>rfl
 | [],_::_=>rfl
 | _::_,[]=>rfl
 | x::xs,y::ys=>by
   have ih:=b7J xs ys
   simp only [Lib.compareBytes,cBs,UInt8.lt_iff_toNat_lt]
   rcases J9 (x.toNat:Int) (y.toNat:Int) with ⟨h,e⟩ | ⟨h,e⟩ | ⟨h,e⟩
   ·rw [if_pos (by omega),e]; rfl
   ·rw [if_neg (by omega),if_pos (by omega),e]; rfl
   ·rw [if_neg (by omega),if_neg (by omega),e,b4b,ih]
theorem a6v (a b:ByteArray):J2 a b=some (cS a b):=by
 unfold J2 a0s b6w b0k
 rw [b7J]; rfl
theorem b0K:∀ a b:List UInt8,(Op.bytesLess a b=true/\cBs a b = -1/\a≠b)\/(Op.bytesLess a b=false/\cBs a b=0/\a=b)\/(Op.bytesLess a b=false/\cBs a b=1/\a≠b)
 | [],[]=>by simp [Op.bytesLess,cBs]
 | [],_::_=>by simp [Op.bytesLess,cBs]
 | _::_,[]=>by simp [Op.bytesLess,cBs]
 | x::xs,y::ys=>by
   have ih:=b0K xs ys
   simp only [Op.bytesLess,cBs]
   rcases J9 (x.toNat:Int) (y.toNat:Int) with ⟨h,e⟩ | ⟨h,e⟩ | ⟨h,e⟩
   ·have h1:x<y:=UInt8.lt_iff_toNat_lt.2 (by omega)
    have h2:x≠y:=by intro h3; subst h3; omega
    simp [e,h1,h2,tn]
   ·have h1:¬ x<y:=fun h3=>by have:=UInt8.lt_iff_toNat_lt.1 h3; omega
    have h2:x≠y:=by intro h3; subst h3; omega
    simp [e,h1,h2,tn]
   ·have h2:x=y:=UInt8.toNat_inj.1 (by omega)
    subst h2
    have h1:¬ x<x:=fun h3=>by have:=UInt8.lt_iff_toNat_lt.1 h3; omega
    simpa [e,h1,tn] using ih
theorem b9F (a b:ByteArray):(a1E a b=true/\J7 a b=false/\cS a b = -1)\/(a1E a b=false/\J7 a b=true/\cS a b=0)\/(a1E a b=false/\J7 a b=false/\cS a b=1):=by
 unfold a1E J7 cS
 rw [Lib.toList_data,Lib.toList_data]
 rcases b0K a.data.toList b.data.toList with ⟨h,e,n⟩ | ⟨h,e,n⟩ | ⟨h,e,n⟩
 ·left; exact ⟨h,by simpa using n,e⟩
 ·right; left; exact ⟨h,by simpa using n,e⟩
 ·right; right; exact ⟨h,by simpa using n,e⟩
theorem a7x {x y:Int}{o:Option Int}(h:o=some y):(bif (x != 0) then some x else o)=some (tn x y):=by
 rw [a0K]
 unfold tn
 by_cases hx:x=0
 ·subst hx; simp [h]
 ·simp [hx]
theorem a5l (a b:Key):Y2 a b=some (cK a b):=by
 unfold Y2
 rw [a9d]
 simp only [Option.bind_some]
 exact a7x (by rw [a6v]; rfl)
theorem b91 {α:Type}{step:Int->Option (Fl Int (Sum Unit Int))}{rc:α->α->Option Int}{c:α->α->Int}(xs ys:List α)(hlen:xs.length=ys.length)
 (hst:∀ q,step q=bif decide (q<(xs.length:Int)) then Option.bind (idx xs q) fun x=>Option.bind (idx ys q) fun y=>Option.bind (rc x y) fun r =>
   bif r != 0 then some (.done (.inr r)) else some (.next (wr .i64 (q+1))) else some (.done (.inl ())))
 (hrc:∀ x∈xs,∀ y,rc x y=some (c x y)) (hl:xs.length<=4194304) :
 ∃ o,z8 step (xs.length+1) 0=some o/\((o=.inl ()/\cL c xs ys=0)\/(o=.inr (cL c xs ys)/\cL c xs ys≠0)):=by
 have key:∀ (n i k:Nat),i+n=xs.length->n+1<=k ->
  ∃ o,z8 step k (i:Int)=some o/\((o=.inl ()/\cL c (xs.drop i) (ys.drop i)=0)\/(o=.inr (cL c (xs.drop i) (ys.drop i))/\cL c (xs.drop i) (ys.drop i)≠0)):=by
  intro n
  induction n with
  | zero =>
    intro i k hi hk
    obtain ⟨k,rfl⟩:∃ m,k=m+1:=⟨k-1,by omega⟩
    refine ⟨.inl (),?_,.inl ⟨rfl,?_⟩⟩
    ·simp only [z8,hst,a0K]
     rw [if_neg (by simp; omega)]
     rfl
    ·rw [List.drop_eq_nil_of_le (by omega)]; simp [cL]
  | succ n ih =>
    intro i k hi hk
    obtain ⟨k,rfl⟩:∃ m,k=m+1:=⟨k-1,by omega⟩
    have hx:i<xs.length:=by omega
    have hy:i<ys.length:=by omega
    rw [List.drop_eq_getElem_cons hx,List.drop_eq_getElem_cons hy]
    have e:step (i:Int)=if (c xs[i] ys[i] != 0)=true then some (.done (.inr (c xs[i] ys[i]))) else some (.next (w64 ((i:Int)+1))):=by
     rw [hst]
     simp only [a0K,Q4]
     rw [if_pos (by simp; omega),k7 (List.getElem?_eq_getElem hx),k7 (List.getElem?_eq_getElem hy)]
     simp only [Option.bind_some]
     rw [hrc _ (List.getElem_mem hx)]
     rfl
    simp only [z8,e,cL]
    by_cases h0:c xs[i] ys[i]=0
    ·rw [h0,b4b,X4 (x:=(i:Int)+1) (by omega) (by omega)]
     obtain ⟨o,ho,hp⟩:=ih (i+1) k (by omega) (by omega)
     refine ⟨o,?_,hp⟩
     simpa using ho
    ·have ht:tn (c xs[i] ys[i]) (cL c (xs.drop (i+1)) (ys.drop (i+1)))=c xs[i] ys[i]:=by simp [tn,h0]
     rw [ht]
     refine ⟨.inr (c xs[i] ys[i]),?_,.inr ⟨rfl,h0⟩⟩
     simp [h0]
 obtain ⟨o,h1,h2⟩:=key xs.length 0 (xs.length+1) (by omega) (Nat.le_refl _)
 exact ⟨o,by simpa using h1,by simpa using h2⟩
theorem c1I {α:Type}{step:Int->Option (Fl Int (Sum Unit Int))}{rc:α->α->Option Int}{c:α->α->Int}(xs ys:List α)(hlen:xs.length=ys.length)
 (hst:∀ q,step q=bif decide (q<(xs.length:Int)) then Option.bind (idx xs q) fun x=>Option.bind (idx ys q) fun y=>Option.bind (rc x y) fun r =>
   bif r != 0 then some (.done (.inr r)) else some (.next (wr .i64 (q+1))) else some (.done (.inl ())))
 (hrc:∀ x∈xs,∀ y,rc x y=some (c x y)) (hl:xs.length<=4194304) {f:Unit->Option Int} {z:Int} (hf:∀ q,f q=some z) :
 (Option.bind (z8 step (((xs.length:Int)).toNat+1) 0) fun b=>v8 f (fun r=>some r) b)=some (tn (cL c xs ys) z):=by
 obtain ⟨o,h1,h2⟩:=b91 xs ys hlen hst hrc hl
 rw [J5,h1]
 rcases h2 with ⟨rfl,h⟩ | ⟨rfl,h⟩
 ·simp [v8,hf,h,tn]
 ·simp [v8,h,tn]
theorem a81 {α:Type}{step:Int->Option (Fl Int (Sum Unit Int))}{rc:α->α->Option Int}{c:α->α->Int}(xs ys:List α)
 (hst:∀ q,step q=bif decide (q<(xs.length:Int)) then Option.bind (idx xs q) fun x=>Option.bind (idx ys q) fun y=>Option.bind (rc x y) fun r =>
   bif r != 0 then some (.done (.inr r)) else some (.next (wr .i64 (q+1))) else some (.done (.inl ())))
 (hrc:∀ x∈xs,∀ y,rc x y=some (c x y)) (hl:xs.length<=4194304) :
 (Option.bind (K4 (xs.length:Int) (ys.length:Int)) fun r7=>bif r7 != 0 then some r7 else
   (Option.bind (z8 step (((xs.length:Int)).toNat+1) 0) fun b=>v8 (fun _=>some 0) (fun r=>some r) b))=some (cN c xs ys):=by
 rw [a9d]
 simp only [Option.bind_some,cN]
 rcases J9 (xs.length:Int) (ys.length:Int) with ⟨_,e⟩ | ⟨_,e⟩ | ⟨p,e⟩
 ·simp [e,tn]
 ·simp [e,tn]
 ·rw [c1I xs ys (by omega) hst hrc hl (z:=0) (fun _=>rfl),b7y,e]
  simp [tn]
theorem a9H:∀ (k:Nat),
 (∀ a b,2*a0p a<=k->a0p a<=4194304->a0A k a b=some (cV a b)) /\
 (∀ xs ys,2*V5 xs+1<=k->V5 xs<=4194304->a0J k xs ys=some (cN cV xs ys)) /\
 (∀ a b,2*a6q a<=k->a6q a<=4194304->Y7 k a b=some (cE a b))
 | 0=>⟨fun v _ h=>by have:=b43 v; omega,fun _ _ h=>by omega,fun v _ h=>by have:=a40 v; omega⟩
 | k+1=>by
   obtain ⟨i1,i2,i3⟩:=a9H k
   refine ⟨?_,?_,?_⟩
   ·intro a b h hb
    show a4x k (a0A k) (Y7 k) (a0J k) a b=_
    have hbe:=a23 a
    have hk:=a6P a.Keys
    have hs:=a6Q a.Labels
    have he:=a6j a.Entries
    unfold a4x
    simp only [a1V]
    rw [c33,a9d,b6u,a6v]
    simp only [Option.bind_some]
    refine a7x (a7x (a7x ?_))
    unfold a08
    rw [a81 (step:=a17 a.Keys b.Keys fun x y=>Y2 x y) a.Keys b.Keys (rc:=Y2) (c:=cK) (fun q=>rfl) (fun x _ y=>a5l x y) (by omega)]
    simp only [Option.bind_some]
    refine a7x ?_
    rw [i2 a.Kids b.Kids (by omega) (by omega)]
    simp only [Option.bind_some]
    refine a7x ?_
    unfold a0L
    rw [a81 (step:=a1J a.Entries b.Entries fun x y=>Y7 k x y) a.Entries b.Entries (rc:=Y7 k) (c:=cE) (fun q=>rfl) (fun x hx y=>i3 x y (by have:=a1S hx; omega) (by have:=a1S hx; omega)) (by omega)]
    simp only [Option.bind_some]
    refine a7x ?_
    unfold a1k
    rw [a81 (step:=a2e a.Labels b.Labels fun x y=>J2 x y) a.Labels b.Labels (rc:=J2) (c:=cS) (fun q=>rfl) (fun x _ y=>a6v x y) (by omega)]
   ·intro xs ys h hb
    show a2m k (a0A k) (Y7 k) (a0J k) xs ys=_
    have hl:=a3x xs
    unfold a2m a0M
    simp only [a1V]
    rw [a81 (step:=a1I xs ys fun x y=>a0A k x y) xs ys (rc:=a0A k) (c:=cV) (fun q=>rfl) (fun x hx y=>i1 x y (by have:=a4C hx; omega) (by have:=a4C hx; omega)) (by omega)]
   ·intro a b h hb
    show a13 k (a0A k) (Y7 k) (a0J k) a b=_
    have hbe:=a40 a
    unfold a13
    rw [c4c,i2 a.Args b.Args (by omega) (by omega),i1 a.Result b.Result (by omega) (by omega)]
    simp only [Option.bind_some]
    refine a7x ?_
    cases a.Fails<;>cases b.Fails<;>simp [bI,cI,tn]
end Go.Pl
end
section
namespace Go.Pl
open Go Go.RowKit Go.Sx Go.Qx
theorem b2u {step:Int->Option (Fl Int (Sum Unit Bool))}(n:Nat)(p:Nat->Bool)
 (hst:∀ i:Nat,i<n->step (i:Int)=some (if p i=true then .next ((i+1:Nat):Int) else .done (.inr false)))
 (hend:∀ i:Nat,n<=i->step (i:Int)=some (.done (.inl ()))) (i0:Nat) (b:Bool) (hb:b=true↔∀ i,i0<=i->i<n->p i=true) :
 Option.bind (z8 step (n+1) (i0:Int)) (v8 (fun _=>some true) (fun r=>some r))=some b:=by
 have fin:∀ (i k:Nat),n<=i->(∀ j,i0<=j->j<i->j<n->p j=true)->Option.bind (z8 step (k+1) (i:Int)) (v8 (fun _=>some true) (fun r=>some r))=some b:=by
  intro i k h1 h4
  simp only [z8,hend i h1,Option.bind_some,v8]
  have:b=true:=hb.2 fun j a c=>h4 j a (by omega) c
  rw [this]
 have key:∀ (m i k:Nat),n<=i+m->m+1<=k->i0<=i->(∀ j,i0<=j->j<i->j<n->p j=true)->Option.bind (z8 step k (i:Int)) (v8 (fun _=>some true) (fun r=>some r))=some b:=by
  intro m
  induction m with
  | zero =>
    intro i k h1 h2 h3 h4
    obtain ⟨k,rfl⟩:∃ m,k=m+1:=⟨k-1,by omega⟩
    exact fin i k (by omega) h4
  | succ m ih =>
    intro i k h1 h2 h3 h4
    obtain ⟨k,rfl⟩:∃ m,k=m+1:=⟨k-1,by omega⟩
    by_cases hlt:i<n
    ·simp only [z8,hst i hlt]
     cases hp:p i
     ·simp only [Bool.false_eq_true,if_false,Option.bind_some,v8]
      have:b=false:=by
       cases b
       ·rfl
       ·have:=hb.1 rfl i h3 hlt
        rw [hp] at this; cases this
      rw [this]
     ·simp only [if_true,Option.bind_some]
      refine ih (i+1) k (by omega) (by omega) (by omega) (fun j a c d=>?_)
      by_cases e:j<i
      ·exact h4 j a e d
      ·have:j=i:=by omega
       subst this; exact hp
    ·exact fin i k (by omega) h4
 exact key n i0 (n+1) (by omega) (by omega) (Nat.le_refl _) (fun j a c=>by omega)
theorem k9 (i:Nat)(h:i<=4611686018427387904):w64 ((i:Int)+1)=((i+1:Nat):Int):=by rw [X4 (by omega) (by omega)]; rfl
theorem b37 (b:Bool)(x:Int):(bif (!b) then some (Fl.done (Sum.inr false)) else some (Fl.next x))=some (if b=true then Fl.next x else (Fl.done (Sum.inr false):Fl Int (Sum Unit Bool))):=by cases b<;>rfl
theorem b3e {α:Type}{step:Int->Option (Fl Int (Sum Unit Bool))}{rc:α->Option Bool}{p:α->Bool}(xs:List α)
 (hst:∀ q,step q=bif decide (q<(xs.length:Int)) then Option.bind (idx xs q) fun x=>Option.bind (rc x) fun r =>
   bif !r then some (.done (.inr false)) else some (.next (wr .i64 (q+1))) else some (.done (.inl ())))
 (hrc:∀ x∈xs,rc x=some (p x)) (hl:xs.length<=4194304) :
 (Option.bind (z8 step (((xs.length:Int)).toNat+1) 0) fun b=>v8 (fun _=>some true) (fun r=>some r) b)=some (xs.all p):=by
 rw [J5]
 refine b2u xs.length (fun i=>match xs[i]? with | some x=>p x | none=>true) ?_ ?_ 0 (xs.all p) ?_
 ·intro i hi
  rw [hst,a0K,if_pos (by simp; omega),k7 (List.getElem?_eq_getElem hi)]
  simp only [Option.bind_some]
  rw [hrc _ (List.getElem_mem hi),List.getElem?_eq_getElem hi]
  simp only [Option.bind_some,Q4,k9 i (by omega)]
  exact b37 _ _
 ·intro i hi
  rw [hst,a0K,if_neg (by simp; omega)]
 ·rw [List.all_eq_true]
  constructor
  ·intro h i _ hi
   rw [List.getElem?_eq_getElem hi]
   exact h _ (List.getElem_mem hi)
  ·intro h x hx
   obtain ⟨i,hi,rfl⟩:=List.getElem_of_mem hx
   have:=h i (by omega) hi
   rwa [List.getElem?_eq_getElem hi] at this
def asc {α:Type}(c:α->α->Int):List α->Bool
 | x::y::r=>decide (c x y<0)&&asc c (y::r)
 | _=>true
theorem a8C {α:Type}(c:α->α->Int):∀ xs:List α,asc c xs=true↔∀ i,1<=i->(hi:i<xs.length)->c xs[i-1] xs[i]<0
 | []=>by simp [asc]
 | [x]=>by
   simp only [asc,true_iff]
   intro i h1 hi
   simp at hi; omega
 | x::y::r=>by
   have ih:=a8C c (y::r)
   simp only [asc,Bool.and_eq_true,decide_eq_true_eq,ih]
   constructor
   ·intro ⟨h1,h2⟩ i hi hl
    obtain ⟨i,rfl⟩:∃ m,i=m+1:=⟨i-1,by omega⟩
    cases i with
    | zero=>exact h1
    | succ i=>exact h2 (i+1) (by omega) (by simpa using hl)
   ·intro h
    refine ⟨h 1 (by omega) (by simp),fun i hi hl=>?_⟩
    obtain ⟨i,rfl⟩:∃ m,i=m+1:=⟨i-1,by omega⟩
    have:=h (i+2) (by omega) (by simpa using hl)
    simpa using this
theorem b50 {α:Type}{step:Int->Option (Fl Int (Sum Unit Bool))}{rc:α->α->Option Int}{c:α->α->Int}(xs:List α)
 (hst:∀ q,step q=bif decide (q<(xs.length:Int)) then Option.bind (idx xs (wr .i64 (q-1))) fun x=>Option.bind (idx xs q) fun y=>Option.bind (rc x y) fun r =>
   bif decide (0<=r) then some (.done (.inr false)) else some (.next (wr .i64 (q+1))) else some (.done (.inl ())))
 (hrc:∀ x∈xs,∀ y,rc x y=some (c x y)) (hl:xs.length<=4194304) :
 (Option.bind (z8 step (((xs.length:Int)).toNat+1) 1) fun b=>v8 (fun _=>some true) (fun r=>some r) b)=some (asc c xs):=by
 rw [J5]
 have hp:∀ i,1<=i->∀ hi:i<xs.length,step (i:Int)=some (if decide (c xs[i-1] xs[i]<0)=true then .next ((i+1:Nat):Int) else .done (.inr false)):=by
  intro i h1 hi
  have hw:w64 ((i:Int)-1)=((i-1:Nat):Int):=by rw [X4 (by omega) (by omega)]; omega
  rw [hst]
  simp only [a0K,Q4]
  rw [if_pos (by simp; omega),hw,k7 (List.getElem?_eq_getElem (by omega:i-1<xs.length)),k7 (List.getElem?_eq_getElem hi)]
  simp only [Option.bind_some]
  rw [hrc _ (List.getElem_mem _)]
  simp only [Option.bind_some,k9 i (by omega)]
  by_cases h:c xs[i-1] xs[i]<0
  ·rw [if_neg (by simp; omega),if_pos (by simpa using h)]
  ·rw [if_pos (by simp; omega),if_neg (by simpa using h)]
 have hend:∀ i:Nat,xs.length<=i->step (i:Int)=some (.done (.inl ())):=by
  intro i hi
  rw [hst,a0K,if_neg (by simp; omega)]
 let step':Int->Option (Fl Int (Sum Unit Bool)):=fun q=>if q=0/\0<xs.length then some (.next 1) else step q
 have e:∀ (k i:Nat),1<=i->z8 step' k (i:Int)=z8 step k (i:Int):=by
  intro k
  induction k with
  | zero=>intro i _; rfl
  | succ k ih =>
    intro i h1
    have e1:step' (i:Int)=step (i:Int):=by simp only [step']; rw [if_neg (by omega)]
    simp only [z8,e1]
    by_cases hi:i<xs.length
    ·rw [hp i h1 hi]
     by_cases h:decide (c xs[i-1] xs[i]<0)=true
     ·rw [if_pos h]; exact ih (i+1) (by omega)
     ·rw [if_neg h]; rfl
    ·rw [hend i (by omega)]; rfl
 have e':=e (xs.length+1) 1 (by omega)
 rw [show ((1:Nat):Int)=1 from rfl] at e'
 rw [<- e']
 refine b2u xs.length (fun i=>if h:1<=i/\i<xs.length then decide (c xs[i-1] (xs[i]'h.2)<0) else true) ?_ ?_ 1 (asc c xs) ?_
 ·intro i hi
  cases i with
  | zero =>
    simp only [step']
    rw [if_pos ⟨rfl,hi⟩]
    rfl
  | succ i =>
    have e1:step' ((i+1:Nat):Int)=step ((i+1:Nat):Int):=by simp only [step']; rw [if_neg (by omega)]
    rw [e1,hp (i+1) (by omega) hi,dif_pos ⟨by omega,hi⟩]
 ·intro i hi
  have e1:step' (i:Int)=step (i:Int):=by simp only [step']; rw [if_neg (by omega)]
  rw [e1,hend i hi]
 ·rw [a8C]
  constructor
  ·intro h i h1 hi
   rw [dif_pos ⟨h1,hi⟩]; simpa using h i h1 hi
  ·intro h i h1 hi
   have:=h i h1 hi
   rw [dif_pos ⟨h1,hi⟩] at this; simpa using this
def a9z (c:UInt8):Bool:=decide (97<=(c.toNat:Int))&&decide ((c.toNat:Int)<=122)
def upC (c:UInt8):Bool:=decide (65<=(c.toNat:Int))&&decide ((c.toNat:Int)<=90)
def b01 (c:UInt8):Bool:=decide (48<=(c.toNat:Int))&&decide ((c.toNat:Int)<=57)
def b3u (f g:UInt8->Bool)(s:ByteArray):Bool :=
 match s.data.toList with
 | []=>false
 | c::r=>decide (r.length<=15)&&f c&&r.all g
def a7y (s:ByteArray):Bool:=b3u upC (fun c=>a9z c||upC c||b01 c||(c.toNat:Int)==95) s
def a4H (s:ByteArray):Bool:=b3u a9z (fun c=>a9z c||b01 c||(c.toNat:Int)==95) s
theorem b6I (c:UInt8):a1O (c.toNat:Int)=some (a9z c):=by
 unfold a1O a9z
 cases decide (97<=(c.toNat:Int))<;>simp
theorem c1m (c:UInt8):a2E (c.toNat:Int)=some (upC c):=by
 unfold a2E upC
 cases decide (65<=(c.toNat:Int))<;>simp
theorem b8X (c:UInt8):a2H (c.toNat:Int)=some (b01 c):=by
 unfold a2H b01
 cases decide (48<=(c.toNat:Int))<;>simp
theorem b7u {s:ByteArray}{i:Nat}{c:UInt8}(h:s.data.toList[i]?=some c):a54 s (i:Int)=some c:=by
 unfold a54
 rw [if_pos (by omega)]
 obtain ⟨hi,e⟩:=List.getElem?_eq_some_iff.1 h
 have hs:i<s.size:=by simpa using hi
 show s[((i:Int)).toNat]?=some c
 rw [Int.toNat_natCast,getElem?_pos s i hs]
 show some s.data[i]=some c
 simpa using e
theorem b80 (s:ByteArray):s.size=s.data.toList.length:=by simp
theorem b7q {a1 a2:Int->Option Bool}{f g:UInt8->Bool}(h1:∀ c:UInt8,a1 (c.toNat:Int)=some (f c))(h2:∀ c:UInt8,a2 (c.toNat:Int)=some (g c))(s:ByteArray):a3g s a1 a2=some (b3u f g s):=by
 unfold a3g b3u
 simp only [a0K,c2b]
 have hsz:=b80 s
 cases hs:s.data.toList with
 | nil =>
   rw [hs] at hsz
   rw [hsz]
   simp
 | cons c r =>
   rw [hs] at hsz
   simp only [List.length_cons] at hsz
   have e1:decide ((s.size:Int)<1)=false:=by simp; omega
   rw [e1]
   simp only [Bool.false_eq_true,if_false,Option.bind_some]
   by_cases hb:16<(s.size:Int)
   ·rw [if_pos (by simpa using hb)]
    have:decide (r.length<=15)=false:=by simp; omega
    rw [this]; rfl
   ·rw [if_neg (by simpa using hb)]
    have e2:decide (r.length<=15)=true:=by simp; omega
    have e3:a54 s 0=some c:=b7u (i:=0) (by rw [hs]; rfl)
    rw [e2,e3]
    simp only [Option.bind_some,h1,Bool.true_and]
    cases f c
    ·rfl
    ·simp only [Bool.not_true,Bool.false_eq_true,if_false,Bool.true_and]
     refine b2u s.size (fun i=>match s.data.toList[i]? with | some x=>g x | none=>true) ?_ ?_ 1 (r.all g) ?_
     ·intro i hi
      have hi':i<s.data.toList.length:=by rw [hs]; simp; omega
      unfold a4q
      rw [a0K,if_pos (by simp; omega),b7u (List.getElem?_eq_getElem hi')]
      simp only [Option.bind_some,h2]
      rw [List.getElem?_eq_getElem hi',Q4,k9 i (by omega)]
      exact b37 _ _
     ·intro i hi
      unfold a4q
      rw [a0K,if_neg (by simp; omega)]
     ·rw [hs,List.all_eq_true]
      constructor
      ·intro h i h1 hi
       obtain ⟨i,rfl⟩:∃ m,i=m+1:=⟨i-1,by omega⟩
       have hr:i<r.length:=by omega
       simp only [List.getElem?_cons_succ,List.getElem?_eq_getElem hr]
       exact h _ (List.getElem_mem hr)
      ·intro h x hx
       obtain ⟨i,hi,rfl⟩:=List.getElem_of_mem hx
       have:=h (i+1) (by omega) (by omega)
       simpa only [List.getElem?_cons_succ,List.getElem?_eq_getElem hi] using this
theorem b9k (s:ByteArray):a0O s=some (a7y s):=by
 unfold a0O
 simp only [a1V]
 rw [b7q c1m (g:=fun c=>a9z c||upC c||b01 c||(c.toNat:Int)==95) (fun c=>by
  unfold a2Y
  rw [b6I,c1m,b8X]
  simp only [Option.bind_some]
  cases a9z c<;>cases upC c<;>cases b01 c<;>simp)]
 rfl
theorem b4f (s:ByteArray):a2k s=some (a4H s):=by
 unfold a2k
 simp only [a1V]
 rw [b7q b6I (g:=fun c=>a9z c||b01 c||(c.toNat:Int)==95) (fun c=>by
  unfold a4Z
  rw [b6I,b8X]
  simp only [Option.bind_some]
  cases a9z c<;>cases b01 c<;>simp)]
 rfl
def a5g (l:List ByteArray):Bool:=asc cS l&&l.all a7y
def a0Z (k:Key):Bool:=if k.Kind=0 then a4H k.Text else if k.Kind=1 then decide ((k.Text.size:Int)<=64) else false
def b5L (v:Val):Bool:=v.Keys.length==v.Kids.length&&(asc cK v.Keys&&v.Keys.all a0Z)
abbrev c1r:Val:=Val.mk 0 0 (⟨#[]⟩) ([]:List Val) ([]:List Key) ([]:List Ent) ([]:List ByteArray)
def b5K (n:Int)(e:Ent):Bool:=(e.Args.length:Int)==n&&(!e.Fails||cV e.Result c1r==0)
def b5A (v:Val):Bool:=decide (0<=v.Int_)&&decide (v.Int_<=4)&&(asc cE v.Entries&&v.Entries.all (b5K v.Int_))
theorem b86 (l:List ByteArray)(hl:l.length<=4194304):a2a l=some (a5g l):=by
 unfold a2a a16 a5g
 simp only [a1V]
 rw [b50 (step:=a2V l fun x y=>J2 x y) (rc:=J2) (c:=cS) l (fun q=>rfl) (fun x _ y=>a6v x y) hl]
 simp only [Option.bind_some]
 rw [b3e (step:=a4l l) (rc:=a0O) (p:=a7y) l (fun q=>rfl) (fun x _=>b9k x) hl]
 cases asc cS l<;>simp
theorem b8Q (k:Key):a1s k=some (a0Z k):=by
 unfold a1s a0Z
 rw [b4f]
 simp only [a0K,beq_iff_eq,a1V]
 by_cases h:k.Kind=0
 ·simp [h]
 ·by_cases h1:k.Kind=1
  ·simp [h1]
  ·simp [h,h1]
theorem c3b (v:Val)(hl:a0p v<=4194304):a3j v=some (b5L v):=by
 have hb:=a23 v
 have hk:=a6P v.Keys
 unfold a3j a1L b5L
 simp only [a1V]
 rw [b50 (step:=a2L v.Keys fun x y=>Y2 x y) (rc:=Y2) (c:=cK) v.Keys (fun q=>rfl) (fun x _ y=>a5l x y) (by omega)]
 simp only [Option.bind_some]
 rw [b3e (step:=a59 v) (rc:=a1s) (p:=a0Z) v.Keys (fun q=>rfl) (fun x _=>b8Q x) (by omega)]
 by_cases h:v.Keys.length=v.Kids.length
 ·rw [a0K,if_neg (by simp; omega)]
  simp only [h,beq_self_eq_true,Bool.true_and]
  cases asc cK v.Keys<;>simp
 ·rw [a0K,if_pos (by simp; omega)]
  have:(v.Keys.length==v.Kids.length)=false:=by simpa using h
  rw [this]; rfl
theorem c26 (fuel:Nat)(e:Ent)(n:Int)(hf:2*a6q e<=fuel)(hb:a6q e<=4194304):a1t fuel e n=some (b5K n e):=by
 have he:=a40 e
 unfold a1t a6V a74 b5K
 simp only [a1V]
 rw [(a9H fuel).1 e.Result c1r (by omega) (by omega)]
 simp only [Option.bind_some]
 cases (e.Args.length:Int)==n<;>cases e.Fails<;>simp
theorem c2h (fuel:Nat)(v:Val)(hf:2*a0p v<=fuel+2)(hb:a0p v<=4194304):a1G fuel v=some (b5A v):=by
 have he:=a23 v
 have hk:=a6j v.Entries
 unfold a1G a1n b5A
 simp only [a1V]
 rw [b50 (step:=a2o v.Entries fun x y=>Y7 fuel x y) (rc:=Y7 fuel) (c:=cE) v.Entries (fun q=>rfl) (fun x hx y=>(a9H fuel).2.2 x y (by have:=a1S hx; omega) (by have:=a1S hx; omega)) (by omega)]
 simp only [Option.bind_some]
 rw [b3e (step:=a3J v fuel) (rc:=fun x=>a1t fuel x v.Int_) (p:=b5K v.Int_) v.Entries (fun q=>rfl) (fun x hx=>c26 fuel x _ (by have:=a1S hx; omega) (by have:=a1S hx; omega)) (by omega)]
 by_cases h1:v.Int_<0
 ·have e1:decide (0<=v.Int_)=false:=by simp; omega
  rw [e1]; simp [h1]
 ·have e1:decide (0<=v.Int_)=true:=by simp; omega
  by_cases h2:4<v.Int_
  ·have e2:decide (v.Int_<=4)=false:=by simp; omega
   rw [e1,e2]; simp [h1,h2]
  ·have e2:decide (v.Int_<=4)=true:=by simp; omega
   rw [e1,e2]
   simp only [h1,h2,decide_false,cond_false,Option.bind_some,Bool.true_and]
   cases asc cE v.Entries<;>simp
def b55 (v:Val):Bool :=
 (v.Kind==1||v.Kind==4||v.Kind==9||v.Int_==0)&&(v.Kind==2||v.Kind==3||J7 v.Text ⟨#[]⟩) &&
 (v.Kind==6||v.Kind==7||v.Kind==8||v.Kids.isEmpty)&&(v.Kind==8||v.Keys.isEmpty)&&(v.Kind==9||v.Entries.isEmpty)
def b3f (l:List Val):Bool :=
 match l with
 | [_,t]=>t.Kind==5||t.Kind==7
 | _=>false
def b3b (v:Val):Bool :=
 if v.Kind=1 then true else if v.Kind=2 then decide ((v.Text.size:Int)<=64) else if v.Kind=3 then a4H v.Text else if v.Kind=4 then decide (0<=v.Int_) else
 if v.Kind=5 then true else if v.Kind=6 then decide (v.Kids.length<=4) else if v.Kind=7 then b3f v.Kids else if v.Kind=8 then b5L v else if v.Kind=9 then b5A v else false
def a8V (v:Val):Bool:=a5g v.Labels&&(b55 v&&b3b v)
theorem b9a {α:Type}(l:List α):decide (0<(l.length:Int))=!l.isEmpty:=by cases l<;>simp
theorem c1Z (fuel:Nat)(v:Val)(hf:2*a0p v<=fuel+2)(hb:a0p v<=4194304):a2U fuel v=some (a8V v):=by
 have he:=a23 v
 have hs:=a6Q v.Labels
 unfold a2U a8V
 simp only [a1V]
 rw [b86 v.Labels (by omega),c3b v hb,c2h fuel v hf hb,b4f]
 simp only [Option.bind_some,b9a]
 by_cases hk:v.Kind=1\/v.Kind=2\/v.Kind=3\/v.Kind=4\/v.Kind=5\/v.Kind=6\/v.Kind=7\/v.Kind=8\/v.Kind=9
 ·have ku:∀ b u,a3l v.Kind=some (u,b)->True:=fun _ _ _=>trivial
  clear ku
  unfold b55 b3b
  generalize a5g v.Labels=l
  generalize J7 v.Text ⟨#[]⟩=t
  generalize v.Keys.isEmpty=y
  generalize v.Entries.isEmpty=e
  generalize b5L v=m
  generalize b5A v=f
  generalize a4H v.Text=a
  generalize decide ((v.Text.size:Int)<=64)=z
  have hi:(v.Int_ != 0)=!(v.Int_==0):=rfl
  have h6:decide ((v.Kids.length:Int)<=4)=decide (v.Kids.length<=4):=by
   by_cases h:v.Kids.length<=4
   ·simp [h]; omega
   ·simp [h]; omega
  rw [hi,h6]
  have h7:(bif (v.Kids.length:Int)==2 then Option.bind (idx v.Kids 1) fun x227=>(bif x227.Kind==5 then some true else Option.bind (idx v.Kids 1) fun x255=>some (x255.Kind==7)) else some false)=some (b3f v.Kids):=by
   unfold b3f
   match v.Kids with
   | []=>rfl
   | [_]=>rfl
   | [x,t] =>
     have e2:((([x,t]:List Val).length:Int)==2)=true:=rfl
     rw [e2]
     have:idx [x,t] 1=some t:=rfl
     simp only [this,Option.bind_some,cond_true]
     cases t.Kind==5<;>rfl
   | _::_::_::r =>
     rw [a0K,if_neg (by simp; omega)]
  rw [h7]
  generalize b3f v.Kids=c
  generalize v.Kids.isEmpty=d
  generalize (v.Int_==0)=i
  generalize decide (0<=v.Int_)=p
  generalize decide (v.Kids.length<=4)=n
  rcases hk with h | h | h | h | h | h | h | h | h<;>rw [h]<;>cases l<;>simp [a3l]<;>cases i<;>cases t<;>cases d<;>cases y<;>cases e<;>simp
 ·have:a3l v.Kind=some (Value_used.mk false false false false false,false):=by
   unfold a3l
   simp only [not_or] at hk
   obtain ⟨h1,h2,h3,h4,h5,h6,h7,h8,h9⟩:=hk
   have ef:∀ k:Int,¬ v.Kind=k->(v.Kind==k)=false:=fun k h=>by simpa using h
   rw [ef 1 h1,ef 2 h2,ef 3 h3,ef 4 h4,ef 5 h5,ef 6 h6,ef 7 h7,ef 8 h8,ef 9 h9]
   rfl
  rw [this]
  have hkk:b3b v=false:=by
   simp only [not_or] at hk
   obtain ⟨h1,h2,h3,h4,h5,h6,h7,h8,h9⟩:=hk
   simp [b3b,h1,h2,h3,h4,h5,h6,h7,h8,h9]
  rw [hkk]
  simp
mutual
def vOK:Val->Bool
 | .mk k n t kids keys ents labs=>a8V (.mk k n t kids keys ents labs)&&(b0c kids&&b36 ents)
def b0c:List Val->Bool
 | []=>true
 | x::r=>vOK x&&b0c r
def eOK:Ent->Bool
 | .mk args fails res=>b0c args&&(fails||vOK res)
def b36:List Ent->Bool
 | []=>true
 | x::r=>eOK x&&b36 r
end
theorem c2B (v:Val):vOK v=(a8V v&&(b0c v.Kids&&b36 v.Entries)):=by cases v; simp only [vOK,Val.Kids,Val.Entries]
theorem c21 (e:Ent):eOK e=(b0c e.Args&&(e.Fails||vOK e.Result)):=by cases e; simp only [eOK,Ent.Args,Ent.Fails,Ent.Result]
theorem b2r:∀ l:List Val,b0c l=l.all vOK
 | []=>by simp [b0c]
 | x::r=>by simp only [b0c,List.all_cons,b2r r]
theorem b45:∀ l:List Ent,b36 l=(l.flatMap a2W).all vOK
 | []=>by simp [b36]
 | x::r=>by
   simp only [b36,List.flatMap_cons,List.all_append,b45 r,c21,a2W,b2r]
   cases x.Fails<;>simp
theorem b9r (v:Val):vOK v=(a8V v&&(a4B v).all vOK):=by
 rw [c2B,a4B,List.all_append,b2r,b45]
theorem b7w:∀ (k:Nat) (v:Val),2*a0p v<=k->a0p v<=4194304->a0u k v=some (vOK v)
 | 0,v,h,_=>by have:=b43 v; omega
 | k+1,v,h,hb=>by
   have hp:=b8j v
   have hl:=a3x (a4B v)
   show a3C k (a0u k) v=_
   unfold a3C
   rw [c1Z k v (by omega) hb,b95 v hb,b9r]
   simp only [Option.bind_some]
   rw [b3e (step:=a5z (a4B v) (a0u k)) (rc:=a0u k) (p:=vOK) (a4B v) (fun q=>rfl) (fun x hx=>b7w k x (by have:=a4C hx; omega) (by have:=a4C hx; omega)) (by omega)]
   cases a8V v<;>simp
theorem b60 (k:Nat)(v:Val)(h:2*a0p v<=k)(hb:a0p v<=4194304):a2g k v=some (if vOK v then 0 else 1):=by
 unfold a2g
 rw [b7w k v h hb]
 cases vOK v<;>rfl
end Go.Pl
end
section
namespace Go.Pl
open Go Go.RowKit Go.Sx Go.Qx
def a0V {α:Type}(p:α->Bool)(x:α)(out:List α):List α:=out.takeWhile p++[x]++out.dropWhile p
theorem a7c {α σ τ β:Type}{step:σ->Option (Fl σ (Sum τ β))}(xs:List α)(p:α->Bool)(pk:Nat->σ)(d:τ)(b:β)
 (hst:∀ (i:Nat) (x:α),xs[i]?=some x->step (pk i)=some (if p x=true then .next (pk (i+1)) else .done (.inr b)))
 (hend:step (pk xs.length)=some (.done (.inl d))):z8 step (xs.length+1) (pk 0)=some (if xs.all p=true then .inl d else .inr b):=by
 have key:∀ (m i k:Nat),i+m=xs.length->m+1<=k->z8 step k (pk i)=some (if (xs.drop i).all p=true then .inl d else .inr b):=by
  intro m
  induction m with
  | zero =>
    intro i k h1 h2
    obtain ⟨k,rfl⟩:∃ m,k=m+1:=⟨k-1,by omega⟩
    have e:i=xs.length:=by omega
    subst e
    simp [z8,hend]
  | succ m ih =>
    intro i k h1 h2
    obtain ⟨k,rfl⟩:∃ m,k=m+1:=⟨k-1,by omega⟩
    have hlt:i<xs.length:=by omega
    have hs:=hst i xs[i] (List.getElem?_eq_getElem hlt)
    rw [List.drop_eq_getElem_cons hlt,List.all_cons]
    by_cases hp:p xs[i]=true
    ·rw [if_pos hp] at hs
     simp only [z8,hs,Option.bind_some,ih (i+1) k (by omega) (by omega),hp,Bool.true_and]
    ·rw [if_neg hp] at hs
     simp [z8,hs,hp]
 have:=key xs.length 0 (xs.length+1) (by omega) (Nat.le_refl _)
 simpa using this
theorem b4F {α:Type}(c:α->α->Int)(hanti:∀ a b,c b a = - c a b)(x:α):∀ out:List α,asc c out=true->(∀ y,(out.dropWhile (fun y=>decide (c y x<0))).head?=some y->c y x≠0) ->
 asc c (a0V (fun y=>decide (c y x<0)) x out)=true
 | [],_,_=>by simp [a0V,asc]
 | y::r,h,hne=>by
   by_cases hp:c y x<0
   ·have ih:=b4F c hanti x r (by cases r with | nil=>simp [asc] | cons z r=>simp [asc] at h; exact h.2) (by
     intro z hz
     refine hne z ?_
     simpa [hp] using hz)
    have e:a0V (fun y=>decide (c y x<0)) x (y::r)=y::a0V (fun y=>decide (c y x<0)) x r:=by simp [a0V,hp]
    rw [e]
    cases r with
    | nil=>simp [a0V,asc,hp]
    | cons z r =>
      simp only [asc,Bool.and_eq_true,decide_eq_true_eq] at h
      by_cases hz:c z x<0
      ·have e2:a0V (fun y=>decide (c y x<0)) x (z::r)=z::a0V (fun y=>decide (c y x<0)) x r:=by simp [a0V,hz]
       rw [e2] at ih ⊢
       simp only [asc,Bool.and_eq_true,decide_eq_true_eq]
       exact ⟨h.1,ih⟩
      ·have e2:a0V (fun y=>decide (c y x<0)) x (z::r)=x::z::r:=by simp [a0V,hz]
       rw [e2] at ih ⊢
       simp only [asc,Bool.and_eq_true,decide_eq_true_eq] at ih ⊢
       exact ⟨hp,ih⟩
   ·have e:a0V (fun y=>decide (c y x<0)) x (y::r)=x::y::r:=by simp [a0V,hp]
    have hy:=hne y (by simp [hp])
    have ha:=hanti y x
    rw [e]
    simp only [asc,Bool.and_eq_true,decide_eq_true_eq]
    exact ⟨by omega,h⟩
theorem b9S {α:Type}{p:α->Bool}{x y:α}{out:List α}(h:y∈a0V p x out):y=x\/y∈out:=by
 have e:=List.takeWhile_append_dropWhile (p:=p) (l:=out)
 simp only [a0V,List.mem_append,List.mem_singleton] at h
 rcases h with (h | h) | h
 ·exact .inr (by rw [<- e]; exact List.mem_append_left _ h)
 ·exact .inl h
 ·exact .inr (by rw [<- e]; exact List.mem_append_right _ h)
theorem b5c {α:Type}(p:α->Bool)(x:α)(out:List α):(a0V p x out).length=out.length+1:=by
 have e:=congrArg List.length (List.takeWhile_append_dropWhile (p:=p) (l:=out))
 simp only [List.length_append] at e
 simp only [a0V,List.length_append,List.length_singleton]
 omega
theorem c2O {α:Type}(l:List α){k:Nat}(h:k<=l.length):cut l 0 (k:Int)=some (l.take k):=by
 unfold cut
 rw [if_pos ⟨by omega,by omega,by omega⟩]
 simp
end Go.Pl
end
section
namespace Go.Pl
open Go Go.RowKit Go.Sx Go.Qx
theorem b5B (a b:Key):cK a b=lx (eK a) (eK b):=by
 have:=pfK a b [] []
 simpa [lx,b7y] using this.symm
theorem a8w (a b:Key):cK b a = - cK a b:=by rw [b5B,b5B]; exact b4i _ _
def a03 (a b:Key):Bool:=a2K a b
theorem b83 (a b:Key):a03 a b=((a.Kind==b.Kind)&&J7 a.Text b.Text):=by unfold a03 a2K; simp
theorem b89 (a b:Key):a03 a b=true↔cK a b=0:=by
 rw [b83]
 unfold cK
 rcases J9 a.Kind b.Kind with ⟨h,e⟩ | ⟨h,e⟩ | ⟨h,e⟩
 ·have:(a.Kind==b.Kind)=false:=by simp; omega
  simp [this,e,tn]
 ·have:(a.Kind==b.Kind)=false:=by simp; omega
  simp [this,e,tn]
 ·rw [h]
  rw [h] at e
  rcases b9F a.Text b.Text with ⟨_,p,q⟩ | ⟨_,p,q⟩ | ⟨_,p,q⟩<;>simp [p,q,e,tn]
end Go.Pl
namespace Go.Pl
open Go Go.RowKit Go.Sx Go.Qx
end Go.Pl
end
section
namespace Go.Pl
open Go Go.RowKit Go.Sx Go.Qx
theorem b3H:J7 (⟨#[]⟩:ByteArray) ⟨#[]⟩=true:=by simp [J7]
theorem c3C:(⟨#[]⟩:ByteArray).size=0:=rfl
theorem c1E (k n:Int)(t:ByteArray)(kids:List Val)(keys:List Key)(es:List Ent):a0p (Val.mk k n t kids keys es [])=8+t.size+V5 kids+a3U keys+a0I es:=by
 simp only [a0p,a1r,a21]; omega
structure OS (L:List Int)(s:Semtypebase_Source):Prop where
 l:s.L=L
 lo:0<=s.At
 hi:s.At<=(L.length:Int)
section
variable {L:List Int}
theorem J4 (hL:L.length<=4194304){s:Semtypebase_Source}(h:OS L s){n:Int}(h1:1<=n)(h2:n<=1000):∃ x t,z7 s n=some (x,t)/\OS L t/\0<=x/\x<n:=by
 obtain ⟨hl,lo,hi⟩:=h
 unfold z7
 have e1:decide (n<1)=false:=by simp; omega
 rw [e1,hl]
 by_cases he:(L.length:Int)<=s.At
 ·have e2:decide ((L.length:Int)<=s.At)=true:=by simpa using he
  rw [e2]
  exact ⟨0,s,rfl,⟨hl,lo,hi⟩,by omega,by omega⟩
 ·have e2:decide ((L.length:Int)<=s.At)=false:=by simpa using he
  rw [e2]
  simp only [cond_false,Option.bind_some]
  have hlt:s.At.toNat<L.length:=by omega
  have e:idx L s.At=some L[s.At.toNat]:=by
   have:=k7 (List.getElem?_eq_getElem hlt)
   rwa [show ((s.At.toNat:Nat):Int)=s.At by omega] at this
  rw [e]
  simp only [Option.bind_some]
  have hq:b2E L[s.At.toNat] n=some (L[s.At.toNat].tmod n):=by unfold b2E; rw [if_neg (by omega)]
  rw [hq]
  simp only [Option.bind_some,Q4]
  have b1:=Int.tmod_lt_of_pos L[s.At.toNat] (show 0<n by omega)
  have b2:=Int.lt_tmod_of_pos L[s.At.toNat] (show 0<n by omega)
  have hw:w64 (s.At+1)=s.At+1:=X4 (by omega) (by omega)
  have hos:OS L (Semtypebase_Source.mk L (w64 (s.At+1))):=⟨rfl,by show 0<=w64 (s.At+1); omega,by show w64 (s.At+1)<=_; omega⟩
  by_cases hn:L[s.At.toNat].tmod n<0
  ·rw [a0K,if_pos (by simpa using hn),X4 (x:=L[s.At.toNat].tmod n+n) (by omega) (by omega)]
   exact ⟨_,_,rfl,hos,by omega,by omega⟩
  ·rw [a0K,if_neg (by simpa using hn)]
   exact ⟨_,_,rfl,hos,by omega,by omega⟩
theorem b33 {α:Type}(l:List α){x:Int}(h0:0<=x)(h1:x<(l.length:Int)):∃ t,idx l x=some t/\l[x.toNat]?=some t/\t∈l:=by
 have hlt:x.toNat<l.length:=by omega
 have:=k7 (List.getElem?_eq_getElem hlt)
 rw [show ((x.toNat:Nat):Int)=x by omega] at this
 exact ⟨_,this,List.getElem?_eq_getElem hlt,List.getElem_mem hlt⟩
abbrev b8r:List ByteArray:=[⟨#[65]⟩,⟨#[66]⟩,⟨#[67]⟩]
abbrev b5T:List ByteArray:=[⟨#[97]⟩,⟨#[98]⟩,⟨#[111,107]⟩,⟨#[101,114,114,111,114]⟩]
abbrev b6N:List ByteArray:=[⟨#[]⟩,⟨#[115]⟩,⟨#[120,32,121]⟩,⟨#[97]⟩]
theorem c0L (hL:L.length<=4194304){s:Semtypebase_Source}(h:OS L s):∃ x t,a0r s=some (x,t)/\OS L t/\x∈b8r:=by
 obtain ⟨n,t,e,ht,a,b⟩:=J4 hL h (n:=3) (by omega) (by omega)
 obtain ⟨x,ex,eg,hx⟩:=b33 b8r a (by simpa using b)
 exact ⟨x,t,by unfold a0r; rw [e]; simp only [Option.bind_some]; rw [ex,eg]; rfl,ht,hx⟩
theorem b7b (hL:L.length<=4194304){s:Semtypebase_Source}(h:OS L s):∃ x t,X9 s=some (x,t)/\OS L t/\x∈b5T:=by
 obtain ⟨n,t,e,ht,a,b⟩:=J4 hL h (n:=4) (by omega) (by omega)
 obtain ⟨x,ex,eg,hx⟩:=b33 b5T a (by simpa using b)
 exact ⟨x,t,by unfold X9; rw [e]; simp only [Option.bind_some]; rw [ex,eg]; rfl,ht,hx⟩
theorem c13 (hL:L.length<=4194304){s:Semtypebase_Source}(h:OS L s):∃ x t,a0G s=some (x,t)/\OS L t/\x∈b6N:=by
 obtain ⟨n,t,e,ht,a,b⟩:=J4 hL h (n:=4) (by omega) (by omega)
 obtain ⟨x,ex,eg,hx⟩:=b33 b6N a (by simpa using b)
 exact ⟨x,t,by unfold a0G; rw [e]; simp only [Option.bind_some]; rw [ex,eg]; rfl,ht,hx⟩
def chk (o:Option (List ByteArray)):Bool :=
 match o with
 | some l=>a5g l&&decide (a21 l<=4)
 | none=>false
theorem b9w {o:Option (List ByteArray)}(h:chk o=true):∃ l,o=some l/\a5g l=true/\a21 l<=4:=by
 cases o with
 | none=>cases h
 | some l=>simp only [chk,Bool.and_eq_true,decide_eq_true_eq] at h; exact ⟨l,rfl,h⟩
theorem b8x:b5T.all (fun x=>a4H x&&decide (x.size<=5))=true:=by kernel_rfl
theorem b8u:b6N.all (fun x=>decide (x.size<=5))=true:=by kernel_rfl
theorem c0a {γ σ τ:Type}{step:σ->Option (Fl σ τ)}(pack:γ->Int->Semtypebase_Source->σ)(out:γ->Semtypebase_Source->τ)(Inv:Nat->γ->Prop)(J:Nat)
 (hst:∀ (j n:Nat) (g:γ) (s:Semtypebase_Source),j<J->n<=J->Inv j g->OS L s->∃ g' s',step (pack g ((n+1:Nat):Int) s)=some (.next (pack g' (n:Int) s'))/\OS L s'/\Inv (j+1) g')
 (hend:∀ g s,step (pack g 0 s)=some (.done (out g s))) :
 ∀ (n j k:Nat) (g:γ) (s:Semtypebase_Source),j+n<=J->n+1<=k->Inv j g->OS L s->∃ g' s',z8 step k (pack g (n:Int) s)=some (out g' s')/\OS L s'/\Inv (j+n) g':=by
 intro n
 induction n with
 | zero =>
   intro j k g s _ hk hI hs
   obtain ⟨k,rfl⟩:∃ m,k=m+1:=⟨k-1,by omega⟩
   exact ⟨g,s,by have:=hend g s; simp [z8,this],hs,hI⟩
 | succ n ih =>
   intro j k g s hJ hk hI hs
   obtain ⟨k,rfl⟩:∃ m,k=m+1:=⟨k-1,by omega⟩
   obtain ⟨g1,s1,e,hs1,hI1⟩:=hst j n g s (by omega) (by omega) hI hs
   obtain ⟨g2,s2,e2,hs2,hI2⟩:=ih (j+1) k g1 s1 (by omega) (by omega) hI1 hs1
   refine ⟨g2,s2,?_,hs2,by rw [show j+(n+1)=j+1+n by omega]; exact hI2⟩
   simp only [z8,e,Option.bind_some]
   exact e2
def hb:Nat->Nat
 | 0=>32
 | h+1=>64+8*hb h
end
end Go.Pl
namespace Go.Pl
open Go Go.RowKit Go.Sx Go.Qx
section
variable {L:List Int}
end
end Go.Pl
end
section
namespace Go.Pl
open Go Go.RowKit Go.Sx Go.Qx
def a75 {α:Type}(c:α->α->Int)(q:α->Bool)(l:List α)(i:Nat):Bool :=
 match l[i]? with
 | some x=>q x&&(match i with
   | 0=>true
   | j+1=>match l[j]? with
     | some y=>decide (c y x<0)
     | none=>true)
 | none=>true
theorem b6J {α:Type}(c:α->α->Int)(q:α->Bool)(l:List α):(List.range l.length).all (a75 c q l)=(asc c l&&l.all q):=by
 rw [Bool.eq_iff_iff,Bool.and_eq_true,a8C,List.all_eq_true,List.all_eq_true]
 constructor
 ·intro h
  refine ⟨fun i h1 hi=>?_,fun x hx=>?_⟩
  ·obtain ⟨j,rfl⟩:∃ m,i=m+1:=⟨i-1,by omega⟩
   have:=h (j+1) (by simpa using hi)
   unfold a75 at this
   rw [List.getElem?_eq_getElem hi] at this
   simp only [Bool.and_eq_true] at this
   have h2:=this.2
   rw [List.getElem?_eq_getElem (show j<l.length by omega)] at h2
   simpa using h2
  ·obtain ⟨i,hi,rfl⟩:=List.getElem_of_mem hx
   have:=h i (by simpa using hi)
   unfold a75 at this
   rw [List.getElem?_eq_getElem hi] at this
   simp only [Bool.and_eq_true] at this
   exact this.1
 ·intro ⟨h1,h2⟩ i hi
  have hi:i<l.length:=by simpa using hi
  unfold a75
  rw [List.getElem?_eq_getElem hi]
  simp only [Bool.and_eq_true]
  refine ⟨h2 _ (List.getElem_mem hi),?_⟩
  cases i with
  | zero=>rfl
  | succ j =>
    simp only
    rw [List.getElem?_eq_getElem (show j<l.length by omega)]
    have:=h1 (j+1) (by omega) hi
    simpa using this
theorem c1M {α β:Type}{step:Int->Option (Fl Int (Sum Unit β))}(c:α->α->Int)(q:α->Bool)(l:List α)(b:β)
 (hst:∀ (i:Nat) (x:α),l[i]?=some x->step (i:Int)=some (if a75 c q l i=true then .next ((i+1:Nat):Int) else .done (.inr b)))
 (hend:step (l.length:Int)=some (.done (.inl ()))):z8 step (l.length+1) 0=some (if (asc c l&&l.all q)=true then .inl () else .inr b):=by
 have:=a7c (step:=step) (List.range l.length) (a75 c q l) (fun i=>(i:Int)) () b (fun i x hx=>by
  have hi:i<l.length:=by have:=(List.getElem?_eq_some_iff.1 hx).1; simpa using this
  have e:x=i:=by
   rw [List.getElem?_range hi] at hx
   cases hx; rfl
  subst e
  exact hst x _ (List.getElem?_eq_getElem hi)) (by rw [List.length_range]; exact hend)
 rw [List.length_range,b6J] at this
 exact this
theorem c1u {α:Type}(c:α->α->Int)(q:α->Bool)(l:List α)(i:Nat)(x:α)(hx:l[i]?=some x)(hl:l.length<=4194304){o:Option (Fl Int (Sum Unit Bool))}
 (h0:q x=false->o=some (.done (.inr false)))
 (h1:q x=true->i=0->o=some (.next (w64 ((i:Int)+1))))
 (h2:q x=true->∀ j y,i=j+1->l[j]?=some y->idx l (w64 ((i:Int)-1))=some y->o=some (if c y x<0 then .next (w64 ((i:Int)+1)) else .done (.inr false))) :
 o=some (if a75 c q l i=true then .next ((i+1:Nat):Int) else .done (.inr false)):=by
 have hi:i<l.length:=(List.getElem?_eq_some_iff.1 hx).1
 have hw:=k9 i (by omega)
 unfold a75
 rw [hx]
 cases hq:q x
 ·rw [h0 hq]; simp [hq]
 ·cases i with
  | zero=>rw [h1 hq rfl,hw]; simp [hq]
  | succ j =>
    have hy:=List.getElem?_eq_getElem (show j<l.length by omega)
    have hj:w64 (((j+1:Nat):Int)-1)=(j:Int):=by rw [X4 (by omega) (by omega)]; omega
    rw [h2 hq j _ rfl hy (by rw [hj]; exact k7 hy),hw]
    simp only [hy]
    by_cases hc:c l[j] x<0<;>simp [hq,hc]
theorem c4U (i:Nat):decide (0<(((i+1:Nat)):Int))=true:=decide_eq_true (by omega)
end Go.Pl
end

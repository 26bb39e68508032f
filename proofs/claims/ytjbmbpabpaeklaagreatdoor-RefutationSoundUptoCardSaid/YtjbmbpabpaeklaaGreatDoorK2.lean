/- Part 2. -/
import Derived.Test.YtjbmbpabpaeklaaGreatDoorK0
import Derived.Test.YtjbmbpabpaeklaaGreatDoorK1
import Derived.ChangeKeysEq
import Derived.Shelf.SlSortCmp.NoneTotal
import Derived.Shelf.Slices.In.SortNone
import Derived.Shelf.Sort.Plain
import Derived.Shelf.Strconv.Itoa3
import Derived.Shelf.Strings.Builder1
noncomputable section
open Array renaming ext_getElem?->NL',getElem?_append_left->NB',getElem?_eq_getElem->Mw',getElem?_eq_none->Nc',getElem?_modify->Nh',getElem?_toList->Lz',getElem_append->Nn',getElem_ofFn->MX',length_toList->LV',ofFn->MY',replicate->Nz'
open Bool renaming and_eq_true->Lc'
open List renaming Pairwise->NV',all_cons->LE',all_eq_true->Le',append_assoc->Lt',append_nil->MK',cons->NO',cons_append->Mg',eq_nil_of_length_eq_zero->LB',ext_getElem?->Np',filterMap_cons->Me',flatMap_cons->Mk',getD->Ms',getElem?_append_left->LD',getElem?_append_right->Ls',getElem?_cons_succ->MO',getElem?_drop->Mh',getElem?_eq_getElem->Lb',getElem?_eq_none->LR',getElem?_map->Na',getElem?_take_of_lt->Lw',getElem?_toArray->MU',getElem_mem->Lu',length_append->Lf',length_cons->Ld',length_map->LH',length_pos_iff->NY',map_cons->LJ',mem_append->Lo',mem_append_left->LN',mem_append_right->LT',mem_cons->Lq',mem_filterMap->NN',mem_map->Lx',nil_append->Mj',nodup_append->Ml',pairwise_iff_getElem->NZ',range->LY',replicate->Ll',take_left->MJ',toArray->MF'
open Nat renaming add_assoc->MC',add_mul->LP',add_sub_cancel_left->Mt',beq->Lm',ble->Mq',blt->LF',eq_of_beq_eq_true->Li',le_of_ble_eq_true->LG',le_of_not_lt->Nu',le_refl->Lg',le_trans->Lr',lt_of_lt_of_le->MB',mod_eq_of_lt->Nt',mul_le_mul_right->LA',mul_one->Ne',zero_add->LM',zero_le->Mb'
open Option renaming bind_assoc->LX',bind_some->KY',isSome_iff_exists->Nk',map_some->Mv',some->LI'
namespace Go.Qx
open Go Go.RowKit Go.Sx
section
variable {I:TypeId->Type} [∀ E,Rp (I E)]
def Ud (rs:List V)(p:PV I):Option (List (PV I)):=match rs with
 | [_]=>some [p]
 | _=>match p with
   | .nV ls=>some ls
   | _=>none
def oh (tb:aX I):(ks:List Kd)->jl I ks->List (PV I)
 | [],_=>[]
 | k::ks,q=>oC tb k q.1::oh tb ks q.2
def eZ' (tb:aX I)(rs:List V)(e:Ef I):Option (fO I rs) :=
 bif lS e.upd&&lS e.new then (Ud rs e.p).bind λps=>(jC tb (λ_=>none) rs ps).bind λx=>bif lS x.2.1&&lS x.2.2 then some x.1 else none else none
def UR (tb:aX I)(aH:fQ I)(O:aN I)(nb:Nat)(f:FuncId)(ls:List (PV I))(ks:List Kd)(rs:List V):vG I ks (fO I rs):=aM ks λq=>aH (fO I rs) f O nb (oh tb ks q++ls) (eZ' tb rs)
structure Tk where
 pub:List Nat
 all:List (Option Nat)
 gv:List (Nat×TypeId×V)
 rv:List Nat
def XL (ks:List Kd)(rs:List V)(ks':List Kd)(rs':List V)(g:vG I ks' (fO I rs')):Option (vG I ks (fO I rs)):=if h:ks'=ks/\rs'=rs then some (h.1▸h.2▸g) else none
def et' (tb:aX I)(O:aN I)(T:TypeId)(v:V)(w:Bool)(p:PV I):Option (mY I v×Tk):=match p with
 | .ptr l 0=>match O l with
   | some (some (.var T' ls w'))=>bif Lm' T T'&&(w'||!w) then (EN v ls).bind λp=>(zR tb O v p).bind λx =>
      bif w then some (x.1,⟨x.2.1,some l::x.2.2,[(l,T,v)],[]⟩) else bif lS x.2.2 then some (x.1,⟨x.2.1,[none],[],[l]⟩) else none else none
   | _=>none
 | _=>none
def VB (O:aN I)(E:TypeId)(p:PV I):Option (List (I E)×List Nat):=match p with
 | .vw l=>match O l with
   | some (some (.row E' xs _))=>(jS E E' xs).bind λys=>some (ys,[l])
   | some (some (.ro E' xs))=>(jS E E' xs).bind λys=>some (ys,[])
   | some (some (.bo E' xs))=>(jS E E' xs).bind λys=>some (ys,[])
   | _=>none
 | .sl E' xs _=>(jS E E' xs).bind λys=>some (ys,[])
 | .nl _=>some ([],[])
 | _=>none
def Og (tb:aX I)(O:aN I):(k:K)->PV I->Option (lg I k×List Nat×List Nat)
 | .d kd,p=>(uR tb O kd p).bind λx=>some (x.1,x.2,[])
 | .map T kd,.mp l=>match O l with
   | some (some (.map T' _ m))=>(pW (T:=T) (T':=T') (kd:=kd) m).bind λys=>some (ys,[],[l])
   | some (some (.gU T' _ m))=>(pW (T:=T) (T':=T') (kd:=kd) m).bind λys=>some (ys,[],[])
   | _=>none
 | _,_=>none
def BP (tb:aX I)(O:aN I):(ks:List K)->List (PV I)->Option (jR I ks×List Nat×List Nat)
 | [],[]=>some ((),[],[])
 | [k],[p]=>Og tb O k p
 | k::k'::ks,p::ps=>(Og tb O k p).bind λx=>(BP tb O (k'::ks) ps).bind λy=>some ((x.1,y.1),x.2.1++y.2.1,x.2.2++y.2.2)
 | _,_=>none
def Ur (tb:aX I)(O:aN I)(ks:List K)(p:PV I):Option (jR I ks×List Nat×List Nat):=match p with
 | .agg ls=>bif Ao ks then (BQ tb 300 ls).bind λls'=>BP tb O ks ls' else none
 | _=>none
def tX (tb:aX I)(aH:fQ I)(O Oc:aN I)(nb:Nat):(ps:List Pk)->List (PV I)->Option (iZ I ps×Tk)
 | [],[]=>some ((),⟨[],[],[],[]⟩)
 | .d k::r,p::ps=>(uR tb O k p).bind λx=>(tX tb aH O Oc nb r ps).bind λy=>some ((x.1,y.1),⟨x.2++y.2.pub,y.2.all,y.2.gv,y.2.rv⟩)
 | .var T v w::r,p::ps=>(et' tb O T v w p).bind λx=>(tX tb aH O Oc nb r ps).bind λy=>some ((x.1,y.1),⟨x.2.pub++y.2.pub,x.2.all++y.2.all,x.2.gv++y.2.gv,x.2.rv++y.2.rv⟩)
 | .row E fl::r,p::ps=>(pV tb O (.row E fl) p).bind λx=>(tX tb aH O Oc nb r ps).bind λy=>some ((x.1,y.1),⟨x.2.1++y.2.pub,x.2.2++y.2.all,y.2.gv,y.2.rv⟩)
 | .fn ks rs::r,p::ps=>(tX tb aH O Oc nb r ps).bind λy=>match p with
   | .fn ks' rs' g=>(XL ks rs ks' rs' g).bind λg'=>some ((g',y.1),y.2)
   | .qM f ls=>bif tb.fb f then some ((UR tb aH Oc nb f ls ks rs,y.1),y.2) else none
   | _=>none
 | .val v::r,p::ps=>(zR tb O v p).bind λx=>(tX tb aH O Oc nb r ps).bind λy=>some ((x.1,y.1),⟨x.2.1++y.2.pub,x.2.2++y.2.all,y.2.gv,y.2.rv⟩)
 | .lq ks::r,p::ps=>(Ur tb O ks p).bind λx=>(tX tb aH O Oc nb r ps).bind λy=>some ((x.1,y.1),⟨x.2.1++y.2.pub,Ll' (nP ks) none++y.2.all,y.2.gv,x.2.2++y.2.rv⟩)
 | .ji E::r,p::ps=>(VB O E p).bind λx=>(tX tb aH O Oc nb r ps).bind λy=>some ((x.1,y.1),⟨y.2.pub,none::y.2.all,y.2.gv,x.2++y.2.rv⟩)
 | _,_=>none
def jX (O:aN I):List Pk->List (PV I)->List Nat
 | .var _ _ true::r,.ptr l _::ps=>(l::nest O [l])++jX O r ps
 | .row _ _::r,p::ps=>Jb p++jX O r ps
 | .val _::r,p::ps=>Jb p++jX O r ps
 | _::r,_::ps=>jX O r ps
 | _,_=>[]
def jr:List (Option Nat)->List (Nat×Option (Ob I))
 | []=>[]
 | some l::r=>(l,none)::jr r
 | none::r=>jr r
def kQ:List (Nat×TypeId×V)->List (PV I)->List (Nat×Option (Ob I))
 | x::r,p::ps=>(x.1,some (.var x.2.1 (rU x.2.2 p) true))::kQ r ps
 | _,_=>[]
def Fy (gr:List Nat)(a:Tk):Bool:=wh a.pub a.all&&a.all.all (λx=>match x with | some l=>cO l gr | none=>true)&&a.rv.all (λl=>!(cO l gr))
def R8 (tb:aX I)(r:Row I)(aH:fQ I)(ρ:Type)(O:aN I)(nb:Nat)(ps:List (PV I))(k:Ef I->Option ρ):Option ρ :=
 (tX tb aH O (iO [] (dL (jX O r.ps ps) O)) nb r.ps ps).bind λa =>
 bif Fy (jX O r.ps ps) a.2 then (vD r.ps r.run a.1).bind λres =>
  k ⟨mJ ((eF tb nb (r.rs++bK r.ps) res).take r.rs.length),bQ O a.2.pub++jr a.2.all++kQ a.2.gv ((eF tb nb (r.rs++bK r.ps) res).drop r.rs.length),fB (r.rs++bK r.ps) res⟩ else none
structure oN (I:TypeId->Type) where
 f:FuncId
 go:fQ I->(ρ:Type)->aN I->Nat->List (PV I)->(Ef I->Option ρ)->Option ρ
structure zf (P:Program)(e:oN I):Prop where
 par:∀ (aH:fQ I) (ρ:Type) (O:aN I) (nb:Nat) (ps:List (PV I)) (k:Ef I->Option ρ),e.go aH ρ O nb ps k=(e.go aH (Ef I) O nb ps some).bind k
 ok:∀ (aH:fQ I),lY P aH->∀ (O:aN I) (nb:Nat) (ps:List (PV I)) (ef:Ef I),e.go aH (Ef I) O nb ps some=some ef->cA' P e.f O nb ps ef
def Kz (f:FuncId):List (oN I)->Option (oN I)
 | []=>none
 | e::r=>bif Lm' e.f f then some e else Kz f r
def EZ (es:List (oN I)):Nat->fQ I
 | 0=>λ_ _ _ _ _ _=>none
 | d+1=>λρ f O nb ps k=>match Kz f es with
   | some e=>e.go (EZ es d) ρ O nb ps k
   | none=>none
def iF' (tb:aX I)(r:Row I):oN I:=⟨r.f,R8 tb r⟩
def ET (tb:aX I)(r:Row I)(lm:aN I->List (PV I)->Bool)(aH:fQ I)(ρ:Type)(O:aN I)(nb:Nat)(ps:List (PV I))(k:Ef I->Option ρ):Option ρ:=bif lm O ps then R8 tb r aH ρ O nb ps k else none
def jo' (tb:aX I)(r:Row I)(lm:aN I->List (PV I)->Bool):oN I:=⟨r.f,ET tb r lm⟩
def PE (P:Program):List (oN I)->Prop
 | []=>True
 | e::r=>zf P e/\PE P r
variable {P:Program}{tb:aX I}{X:bZ}{c c':Cx}{σ τ:S}{s:St I}{n:Nat}{F:Fr}{O:aN I}
theorem Xp {f:FuncId}:∀ {es:List (oN I)} {e:oN I},PE P es->Kz f es=some e->zf P e/\e.f=f
 | [],_,_,h=>by cases h
 | x::r,e,ha,h=>by
   simp only [Kz] at h;cases hb:Lm' x.f f with
   | true=>rw [hb] at h; cases h; exact ⟨ha.1,Li' hb⟩
   | false=>rw [hb] at h; exact Xp ha.2 h
theorem G9 {es:List (oN I)}(h:PE P es):∀ d,lY P (EZ es d)
 | 0=>⟨λ_ _ _ _ _ _=>rfl,λ_ _ _ _ _ h=>by cases h⟩
 | d+1=>by
   refine ⟨λρ f O nb ps k=>?_,λf O nb ps e he=>?_⟩
   ·simp only [EZ];cases hf:Kz f es with
    | none=>rfl
    | some e=>exact (Xp h hf).1.par _ _ _ _ _ _
   ·simp only [EZ] at he;split at he
    ·rename_i x hx;obtain ⟨h1,h2⟩:=Xp h hx;rw [<- h2];exact h1.ok _ (G9 h d) O nb ps e he
    ·cases he
theorem Hr (ht:bT P tb):∀ {ks:List Kd} {q:jl I ks} {vs:List Value},qI σ ks q vs->aB X c σ (oh tb ks q) vs
 | [],_,_,h=>by simpa only [oh,aB,qI] using h
 | k::ks,q,_,⟨v,r,e,h1,h2⟩=>by simp only [oh,aB];exact ⟨v,r,e,CZ ht h1,Hr ht h2⟩
omit [∀ E,Rp (I E)] in
theorem cL':∀ {vs:List V} {ps:List (PV I)} {x},jC tb O vs ps=some x->ps.length=vs.length
 | [],[],_,_=>rfl
 | [_],[_],_,_=>rfl
 | _::v'::vs,p::ps,_,h=>by obtain ⟨y,hy,h⟩:=bind_some h;obtain ⟨z,hz,h⟩:=bind_some h;have:=cL' (vs:=v'::vs) hz;simp [this]
 | [],_::_,_,h=>by simp [jC] at h
 | [_],[],_,h=>by simp [jC] at h
 | [_],_::_::_,_,h=>by simp [jC] at h
 | _::_::_,[],_,h=>by simp [jC] at h
theorem uT' (ht:bT P tb){aH:fQ I}(hd:lY P aH)(hX:X.P=P)(h:Rel X c σ s n F){gr:List Nat}{Oc:aN I}(qa:∀ l o,Oc l=some (some o)->iO [] (dL gr s.O) l=some (some o)){M:Nat->Prop}
 (hM:∀ b,M b->σ.N<=b\/∃ l∈gr,bH s l/\∃ p,c l=some p/\p.w=some b) {nb:Nat} {f:FuncId} {ls:List (PV I)} {cs:List Value} (hl:aB X c σ ls cs) {ks:List Kd} {rs:List V} (hbody:mV P f):U6 P M σ f [] cs ks rs (UR tb aH Oc nb f ls ks rs):=by
 refine ⟨hbody,rfl,λτ hτ q vs r hq hr=>?_⟩;unfold UR at hr;rw [kB',hd.par] at hr;obtain ⟨e,he,hr⟩:=bind_some hr;have uw:∀ b,M b->X.M b:=λb hb=>by
  rcases hM b hb with hb | ⟨l,_,hlv,p,hc,hw⟩
  ·exact .inl (Lr' h.base.1 hb)
  ·exact h.mine l p b hlv hc hw
 have h1:Rel X c σ ⟨s.n,s.F,dL gr s.O,s.nx⟩ n F:=h.less (λl o ho=>(iW ho).2) (λl ho=>wo.1 ho);have hi1:∀ g,M g->eD c σ (⟨s.n,s.F,dL gr s.O,s.nx⟩:St I) g:=λg hg=>by
  rcases hM g hg with hb | ⟨l',hl',hlv,p',hc',hw'⟩
  ·exact (h.fresh hb).sub λl E E' u xs q e=>(iW e).2
  ·exact (h.owned hlv hc' hw').sub λl E E' u xs q e=>(iW e).2
 have h2:Rel X c τ ⟨s.n,s.F,dL gr s.O,s.nx⟩ n F:=h1.stepG hτ uw (hi:=hi1) λl p g ⟨o,ho⟩ hc hw hm=>by
  obtain ⟨k1,k2⟩:=iW ho;have hlt:=(h.bB l o k2).lt hc hw;rcases hM g hm with hb | ⟨l',hl',hlv,p',hc',hw'⟩
  ·have:σ.N<=g:=hb;omega
  ·exact k1 (by rw [h.inj l l' p p' g ⟨o,k2⟩ hlv hc hc' hw hw']; exact hl')
 have h3:=enter h2 [];have hlτ:aB X c τ ls cs:=aB.step (hτ.mono λb _ hb=>uw b hb) _ _ hl;have EN':aB (eX X c τ ⟨s.n,s.F,dL gr s.O,s.nx⟩ []) (dA [] c) τ ls cs:=aB.conv (X:=X) (X':=eX X c τ ⟨s.n,s.F,dL gr s.O,s.nx⟩ []) (c:=c) rfl (uO h2 []) (λl p hp=>⟨none,by simp [dA,cO,hp]⟩) _ _ hlτ
 have hnil:e.upd=[]/\e.new=[]/\∃ ps,Ud rs e.p=some ps/\∃ x,jC tb (λ_=>none) rs ps=some x/\x.2.1=[]/\x.2.2=[]/\x.1=r:=by unfold eZ' at hr;obtain ⟨hb,hr⟩:=bA hr;simp only [Lc'] at hb;obtain ⟨ps,hps,hr⟩:=bind_some hr;obtain ⟨x,hx,hr⟩:=bind_some hr;obtain ⟨hb2,hr⟩:=bA hr;simp only [Lc'] at hb2;cases hr;exact ⟨tH hb.1,tH hb.2,ps,hps,x,hx,tH hb2.1,tH hb2.2,rfl⟩
 obtain ⟨n1,n2,ps,hps,x,hx,x1,x2,hxr⟩:=hnil;have hc:=hd.ok _ _ _ _ _ he (eX X c τ ⟨s.n,s.F,dL gr s.O,s.nx⟩ []) (dA [] c) τ (mW [] ⟨s.n,s.F,dL gr s.O,s.nx⟩) n F (vs++cs) hX qa h3 (aB.app _ _ _ _ (Hr ht hq) EN') (by rw [n2]; rfl)
 rw [<- Mj' vs] at hc;refine kX.mono hc rfl λv υ hst ⟨c',_,hrel,hv⟩=>⟨υ,rfl,hst.mono λb hb hm=>?_,?_⟩
 ·rcases hm with hm | ⟨_,hm,_⟩
  ·have:τ.N<=b:=hm;omega
  ·cases hm
 ·have hlen:=cL' hx;have hws:∃ ws,v=jU ws/\aB (eX X c τ ⟨s.n,s.F,dL gr s.O,s.nx⟩ []) c' υ ps ws:=by
   unfold Ud at hps;split at hps
   ·cases hps;exact ⟨[v],rfl,by simp only [aB]; exact ⟨v,[],rfl,hv,rfl⟩⟩
   ·rename_i hne;split at hps
    ·rename_i ls' e';cases hps;rw [e'] at hv;simp only [RV] at hv;obtain ⟨ws,rfl,hws⟩:=hv;refine ⟨ws,?_,hws⟩;have hl2:=aB.len _ _ hws;cases ws with
     | nil=>rfl
     | cons a r =>
       cases r with
       | nil =>
         exfalso;cases rs with
         | nil=>simp at hl2; rw [<- hl2] at hlen; simp at hlen
         | cons a' r' =>
           cases r' with
           | nil=>exact hne a' rfl
           | cons=>simp at hl2 hlen; omega
       | cons=>rfl
    ·cases hps
  obtain ⟨ws,hw1,hw2⟩:=hws;obtain ⟨x0,xl,xr⟩:=x;simp only at x1 x2 hxr;subst x1;subst x2;subst hxr;obtain ⟨au,t1,t2⟩:=F4 ht iU.none_ Rows.none_ hx (λ_ h=>h) (λ_ h=>by cases h) hw2
  have:au=[]:=t2;subst this;exact ⟨ws,hw1,t1⟩
omit [∀ E,Rp (I E)] in
theorem sO' {ks ks':List Kd}{rs rs':List V}{g:vG I ks' (fO I rs')}{g':vG I ks (fO I rs)}(h:XL ks rs ks' rs' g=some g'):∃ (e1:ks'=ks) (e2:rs'=rs),g'=e1▸e2▸g:=by
 unfold XL at h;split at h
 ·rename_i e; cases h; exact ⟨e.1,e.2,rfl⟩
 ·cases h
def rq:List Pk->List (TypeId×V)
 | []=>[]
 | .var T v true::r=>(T,v)::rq r
 | _::r=>rq r
theorem xw:∀ (lZ:List Pk),(rq lZ).map (·.2)=bK lZ
 | []=>rfl
 | .var T v true::r=>by simp [rq,bK,xw r]
 | .var T v false::r=>xw r
 | .d _::r=>xw r
 | .row _ _::r=>xw r
 | .fn _ _::r=>xw r
 | .ji _::r=>xw r
 | .val _::r=>xw r
 | .lq _::r=>xw r
omit [∀ E,Rp (I E)] in
theorem SB {O:aN I}{l:Nat}{E:TypeId}{xs:List (I E)}:∀ {ls:List Nat} {O1:aN I},(∃ fl,O l=some (some (.row E xs fl)))->(∃ fl,O1 l=some (some (.row E xs fl)))->∃ fl,dD O1 (bQ O ls) l=some (some (.row E xs fl))
 | [],_,_,h=>h
 | a::r,O1,h0,h=>by
   simp only [bQ];split
   ·rename_i E' xs' e;simp only [dD];refine SB h0 ?_;by_cases el:l=a
    ·subst el;obtain ⟨fl,h0⟩:=h0;rw [h0] at e;cases e;exact ⟨true,iq _ _ _⟩
    ·rw [fq el]; exact h
   ·exact SB h0 h
theorem pN' (h:Rel X c σ s n F)(vN:∀ l E (xs:List (I E)) fl,O l=some (some (.row E xs fl))->∃ kF,s.O l=some (some (.row E xs kF)))(vO:∀ l E (xs:List (I E)),O l=some (some (.bo E xs))->s.O l=some (some (.bo E xs)))
 {LS:List Nat} (hS:iU X c σ O LS) {gr:List Nat} {M:Nat->Prop} (hM:∀ b,M b->σ.N<=b\/∃ l∈gr,bH s l/\∃ p,c l=some p/\p.w=some b) {E:TypeId} {p:PV I} {x:List (I E)} {rv:List Nat} (hx:VB O E p=some (x,rv)) (iG:∀ l∈rv,l ∉ gr) {v:Value} (hv:RV X c σ p v) :
 ∃ A k,v=.slice A x.length k/\jP M σ x A:=by
 have uw:∀ b,M b->X.M b:=λb hb=>by
  rcases hM b hb with hb | ⟨l,_,hlv,p,hc,hw⟩
  ·exact .inl (Lr' h.base.1 hb)
  ·exact h.mine l p b hlv hc hw
 unfold VB at hx;split at hx
 ·rename_i l;simp only [RV] at hv;obtain ⟨p,hp,rfl⟩:=hv;split at hx
  ·rename_i E' xs fl ho;obtain ⟨ys,hys,hx⟩:=bind_some hx;cases hx;obtain ⟨e,rfl⟩:=lM hys;subst e;obtain ⟨kF,hs⟩:=vN l _ _ _ ho;obtain ⟨A,k,ow,k1,k2⟩:=h.bB l _ hs;rw [k1] at hp;cases hp;refine ⟨A,k,rfl,jP.kH' k2 λg hg hm=>?_⟩;have hlt:=(h.bB l _ hs).lt k1 (g:=g) hg;rcases hM g hm with hb | ⟨l',hl',hlv,p',hc',hw'⟩
   ·have hb':σ.w.heap.size<=g:=hb;have:g<σ.w.heap.size:=hlt;omega
   ·have e:=h.inj l l' _ p' g ⟨_,hs⟩ hlv k1 hc' hg hw';exact iG l (by simp) (by rw [e]; exact hl')
  ·rename_i E' xs ho;obtain ⟨ys,hys,hx⟩:=bind_some hx;cases hx;obtain ⟨e,rfl⟩:=lM hys;subst e;obtain ⟨A,k,k1,k2⟩:=hS.2.1 l _ _ ho;rw [k1] at hp;cases hp;exact ⟨A,k,rfl,jP.SQ k2⟩
  ·rename_i E' xs ho;obtain ⟨ys,hys,hx⟩:=bind_some hx;cases hx;obtain ⟨e,rfl⟩:=lM hys;subst e;obtain ⟨A,k,k1,k2⟩:=h.bB l _ (vO l _ _ ho);rw [k1] at hp;cases hp;exact ⟨A,k,rfl,k2.sub λb _=>uw b⟩
  ·cases hx
 ·obtain ⟨ys,hys,hx⟩:=bind_some hx;cases hx;obtain ⟨e,rfl⟩:=lM hys;subst e;simp only [RV] at hv;obtain ⟨A,k,e1,e2,_⟩:=hv;exact ⟨A,k,e1,jP.SQ e2⟩
 ·cases hx;simp only [RV] at hv;obtain ⟨A,rfl⟩:=hv;exact ⟨A,0,rfl,[],rfl,λhn=>absurd rfl hn⟩
 ·cases hx
theorem gZ' (ht:bT P tb)(h:Rel X c σ s n F)(nk:∀ l T kd m,(O l=some (some (.map T kd m))->s.O l=some (some (.map T kd m)))/\(O l=some (some (.gU T kd m))->s.O l=some (some (.gU T kd m))))
 {LS:List Nat} (hS:iU X c σ O LS) {gr:List Nat} {M:Nat->Prop} (hM:∀ b,M b->σ.N<=b\/∃ l∈gr,bH s l/\∃ p,c l=some p/\p.w=some b) {k:K} {p:PV I} {x:lg I k} {ls rv:List Nat} (hx:Og tb O k p=some (x,ls,rv)) (hl:∀ l∈ls,l∈LS) (iG:∀ l∈rv,l ∉ gr) {v:Value} (hv:RV X c σ p v) :
 ∃ au,LK M σ k x v au/\At c (Ll' (tq k) none) au:=by
 have uw:∀ b,M b->X.M b:=λb hb=>by
  rcases hM b hb with hb | ⟨l,_,hlv,p,hc,hw⟩
  ·exact .inl (Lr' h.base.1 hb)
  ·exact h.mine l p b hlv hc hw
 unfold Og at hx;split at hx
 ·obtain ⟨y,hy,hx⟩:=bind_some hx;cases hx;exact ⟨[],⟨yI ht hS hy hl hv,rfl⟩,rfl⟩
 ·rename_i T kd l;simp only [RV] at hv;obtain ⟨b,w,hc,rfl⟩:=hv;split at hx
  ·rename_i T' kd' m ho;obtain ⟨ys,hys,hx⟩:=bind_some hx;cases hx;obtain ⟨e,_,rfl⟩:=wP hys;subst e;have hs:=(nk l _ _ _).1 ho;obtain ⟨b',k1,k2⟩:=h.bB l _ hs;rw [k1] at hc;cases hc;refine ⟨[⟨some ⟨b,0,none⟩,0,0,none⟩],⟨b,rfl,rfl,k2,λhm=>?_⟩,⟨_,[],rfl,rfl,rfl⟩⟩;rcases hM b hm with hb | ⟨l',hl',hlv,p',hc',hw'⟩
   ·have hb':σ.w.heap.size<=b:=hb;have:=k2.lt;have:b<σ.w.heap.size:=this;omega
   ·have e:=h.inj l l' _ p' b ⟨_,hs⟩ hlv k1 hc' rfl hw';exact iG l (by simp) (by rw [e]; exact hl')
  ·rename_i T' kd' m ho;obtain ⟨ys,hys,hx⟩:=bind_some hx;cases hx;obtain ⟨e,_,rfl⟩:=wP hys;subst e;obtain ⟨b',k1,k2,k3⟩:=h.bB l _ ((nk l _ _ _).2 ho);rw [k1] at hc;cases hc;exact ⟨[⟨some ⟨b,0,none⟩,0,0,none⟩],⟨b,rfl,rfl,k2,λhm=>k3 (uw b hm)⟩,⟨_,[],rfl,rfl,rfl⟩⟩
  ·cases hx
 ·cases hx
theorem fw' (ht:bT P tb)(h:Rel X c σ s n F)(nk:∀ l T kd m,(O l=some (some (.map T kd m))->s.O l=some (some (.map T kd m)))/\(O l=some (some (.gU T kd m))->s.O l=some (some (.gU T kd m))))
 {LS:List Nat} (hS:iU X c σ O LS) {gr:List Nat} {M:Nat->Prop} (hM:∀ b,M b->σ.N<=b\/∃ l∈gr,bH s l/\∃ p,c l=some p/\p.w=some b):∀ {ks:List K} {ps:List (PV I)} {x:jR I ks} {ls rv:List Nat},BP tb O ks ps=some (x,ls,rv)->(∀ l∈ls,l∈LS)->(∀ l∈rv,l ∉ gr)->∀ {vs:List Value},aB X c σ ps vs ->
 ∃ au,xV M σ ks x vs au/\At c (Ll' (nP ks) none) au
 | [],[],_,_,_,hx,_,_,vs,hv=>by cases hx;simp only [aB] at hv;exact ⟨[],⟨hv,rfl⟩,rfl⟩
 | [k],[p],x,ls,rv,hx,hl,hr,vs,hv=>by simp only [aB] at hv;obtain ⟨v,r,rfl,h1,rfl⟩:=hv;obtain ⟨au,h2,h3⟩:=gZ' ht h nk hS hM hx hl hr h1;exact ⟨au,⟨v,rfl,h2⟩,h3⟩
 | k::k'::ks,p::ps,x,ls,rv,hx,hl,hr,vs,hv=>by
   obtain ⟨y,hy,hx⟩:=bind_some hx;obtain ⟨z,hz,hx⟩:=bind_some hx;cases hx;simp only [aB] at hv;obtain ⟨v,r,rfl,h1,h2⟩:=hv;obtain ⟨p1,a1,a2⟩:=gZ' ht h nk hS hM (ls:=y.2.1) (rv:=y.2.2) hy (λl hm=>hl l (by simp [hm])) (λl hm=>hr l (by simp [hm])) h1
   obtain ⟨p2,b1,b2⟩:=fw' ht h nk hS hM (ls:=z.2.1) (rv:=z.2.2) hz (λl hm=>hl l (by simp [hm])) (λl hm=>hr l (by simp [hm])) h2
   refine ⟨p1++p2,⟨v,r,p1,p2,rfl,rfl,a1,b1⟩,?_⟩;show At c (Ll' (tq k+nP (k'::ks)) none) (p1++p2);rw [<- List.replicate_append_replicate];exact a2.app b2
 | [],_::_,_,_,_,hx,_,_,_,_=>by simp [BP] at hx
 | [_],[],_,_,_,hx,_,_,_,_=>by simp [BP] at hx
 | [_],_::_::_,_,_,_,hx,_,_,_,_=>by simp [BP] at hx
 | _::_::_,[],_,_,_,hx,_,_,_,_=>by simp [BP] at hx
theorem pU' (ht:bT P tb)(h:Rel X c σ s n F)(nk:∀ l T kd m,(O l=some (some (.map T kd m))->s.O l=some (some (.map T kd m)))/\(O l=some (some (.gU T kd m))->s.O l=some (some (.gU T kd m))))
 {LS:List Nat} (hS:iU X c σ O LS) {gr:List Nat} {M:Nat->Prop} (hM:∀ b,M b->σ.N<=b\/∃ l∈gr,bH s l/\∃ p,c l=some p/\p.w=some b) {ks:List K} {p:PV I} {x:jR I ks} {ls rv:List Nat} (hx:Ur tb O ks p=some (x,ls,rv)) (hl:∀ l∈ls,l∈LS) (hr:∀ l∈rv,l ∉ gr) {v:Value} (hv:RV X c σ p v) :
 ∃ au,Ao ks=true/\∃ cs,v=.agg cs.toArray/\xV M σ ks x cs au/\At c (Ll' (nP ks) none) au:=by
 unfold Ur at hx;split at hx
 ·obtain ⟨hnd,hx⟩:=bA hx;obtain ⟨ls',hls,hx⟩:=bind_some hx;simp only [RV] at hv;obtain ⟨cs,rfl,hcs⟩:=hv;obtain ⟨au,h1,h2⟩:=fw' ht h nk hS hM hx hl hr (IW ht hls hcs);exact ⟨au,hnd,cs,rfl,h1,h2⟩
 ·cases hx
def uY (c:Cx)(O:aN I):List (Nat×TypeId×V)->List Nat->Prop
 | [],bs=>bs=[]
 | x::r,bs=>∃ b bs' ls,bs=b::bs'/\O x.1=some (some (.var x.2.1 ls true))/\c x.1=some ⟨some ⟨b,0,none⟩,0,0,some b⟩/\uY c O r bs'
theorem xq (ht:bT P tb){aH:fQ I}(hd:lY P aH)(hX:X.P=P)(h:Rel X c σ s n F)(vN:∀ l E (xs:List (I E)) fl,O l=some (some (.row E xs fl))->∃ kF,s.O l=some (some (.row E xs kF)))(vO:∀ l E (xs:List (I E)),O l=some (some (.bo E xs))->s.O l=some (some (.bo E xs)))(nk:∀ l T kd m,(O l=some (some (.map T kd m))->s.O l=some (some (.map T kd m)))/\(O l=some (some (.gU T kd m))->s.O l=some (some (.gU T kd m))))(hO:∀ l T ls w,O l=some (some (.var T ls w))->s.O l=some (some (.var T ls w))){LS:List Nat}(hS:iU X c σ O LS)(hR:Rows X c σ O LS){gr:List Nat}{Oc:aN I}
 (qa:∀ l o,Oc l=some (some o)->iO [] (dL gr s.O) l=some (some o)) {M:Nat->Prop} (hM:∀ b,M b->σ.N<=b\/∃ l∈gr,bH s l/\∃ p,c l=some p/\p.w=some b) {nb:Nat} :
 ∀ {lZ:List Pk} {ps:List (PV I)} {a:iZ I lZ} {acc:Tk} {vs:List Value},tX tb aH O Oc nb lZ ps=some (a,acc)->aB X c σ ps vs->(∀ l∈acc.pub,l∈LS)->(∀ l,some l∈acc.all->l ∉ LS)->(∀ l∈acc.rv,l ∉ gr) ->
  ∃ au,rX P M σ lZ a vs au/\At c acc.all au/\uY c O acc.gv (gG lZ vs)/\(∀ l,some l∈acc.all->(∃ o:Ob I,O l=some (some o)/\wY o=true)\/∃ T v,(l,T,v)∈acc.gv)/\(∀ x∈acc.gv,some x.1∈acc.all)/\acc.gv.map (λx=>x.2)=rq lZ
 | [],[],a,acc,vs,e,hv,_,_,_=>by cases e;simp only [aB] at hv;subst hv;exact ⟨[],⟨rfl,rfl⟩,rfl,rfl,(λl hl=>by cases hl),(λl hl=>by cases hl),rfl⟩
 | .d k::r,p::ps,_,_,vs,e,hv,h1,h2,h3=>by
   obtain ⟨x,hx,e⟩:=bind_some e;obtain ⟨y,hy,e⟩:=bind_some e;cases e;simp only [aB] at hv;obtain ⟨v,vs',rfl,hv1,hv2⟩:=hv;obtain ⟨au,k1,k2,k3,k4,k5,k6⟩:=xq ht hd hX h vN vO nk hO hS hR qa hM (a:=y.1) (acc:=y.2) hy hv2 (λl hl=>h1 l (by simp [hl])) h2 h3
   have hd1:=yI ht hS (ls:=x.2) hx (λl hl=>h1 l (by simp [hl])) hv1
   refine ⟨au,⟨v,vs',[],au,rfl,rfl,⟨hd1,rfl⟩,k1⟩,k2,?_,k4,k5,k6⟩;have:gG (.d k::r) (v::vs')=gG r vs':=by cases v<;>rfl
   rw [this]; exact k3
 | .row E fl::r,p::ps,_,_,vs,e,hv,h1,h2,h3=>by
   obtain ⟨x,hx,e⟩:=bind_some e;obtain ⟨y,hy,e⟩:=bind_some e;cases e;simp only [aB] at hv;obtain ⟨v,vs',rfl,hv1,hv2⟩:=hv;obtain ⟨au,k1,k2,k3,k4,k5,k6⟩:=xq ht hd hX h vN vO nk hO hS hR qa hM (a:=y.1) (acc:=y.2) hy hv2 (λl hl=>h1 l (by simp [hl])) (λl hl=>h2 l (by simp [hl])) h3
   obtain ⟨p1,t1,t2⟩:=JS ht hS hR (ls:=x.2.1) (rows:=x.2.2) hx (λl hl=>h1 l (by simp [hl])) (λl hl=>h2 l (by simp [hl])) hv1
   have hl1:=R3 (ls:=x.2.1) (rows:=x.2.2) hx;obtain ⟨A,k,ow,e1,e2,e3⟩:=t1;refine ⟨p1++au,⟨v,vs',p1,au,rfl,rfl,⟨A,k,ow,e1,e3,e2⟩,k1⟩,t2.app k2,?_,λl hl=>?_,λz hz=>by simp [k5 z hz],k6⟩
   ·have:gG (.row E fl::r) (v::vs')=gG r vs':=by cases v<;>rfl
    rw [this]; exact k3
   ·rcases Lo'.1 hl with hl | hl
    ·exact .inl (hl1 l hl)
    ·exact k4 l hl
 | .val vk::r,p::ps,_,_,vs,e,hv,h1,h2,h3=>by
   obtain ⟨x,hx,e⟩:=bind_some e;obtain ⟨y,hy,e⟩:=bind_some e;cases e;simp only [aB] at hv;obtain ⟨v,vs',rfl,hv1,hv2⟩:=hv;obtain ⟨au,k1,k2,k3,k4,k5,k6⟩:=xq ht hd hX h vN vO nk hO hS hR qa hM (a:=y.1) (acc:=y.2) hy hv2 (λl hl=>h1 l (by simp [hl])) (λl hl=>h2 l (by simp [hl])) h3
   obtain ⟨p1,t1,t2⟩:=Jy ht hS hR (ls:=x.2.1) (rows:=x.2.2) hx (λl hl=>h1 l (by simp [hl])) (λl hl=>h2 l (by simp [hl])) hv1
   have hl1:=PO (ls:=x.2.1) (rows:=x.2.2) hx;refine ⟨p1++au,⟨v,vs',p1,au,rfl,rfl,t1,k1⟩,t2.app k2,?_,λl hl=>?_,λz hz=>by simp [k5 z hz],k6⟩
   ·have:gG (.val vk::r) (v::vs')=gG r vs':=by cases v<;>rfl
    rw [this]; exact k3
   ·rcases Lo'.1 hl with hl | hl
    ·exact .inl (hl1 l hl)
    ·exact k4 l hl
 | .ji E::r,p::ps,_,_,vs,e,hv,h1,h2,h3=>by
   obtain ⟨x,hx,e⟩:=bind_some e;obtain ⟨y,hy,e⟩:=bind_some e;cases e;simp only [aB] at hv;obtain ⟨v,vs',rfl,hv1,hv2⟩:=hv;obtain ⟨au,k1,k2,k3,k4,k5,k6⟩:=xq ht hd hX h vN vO nk hO hS hR qa hM (a:=y.1) (acc:=y.2) hy hv2 h1 (λl hl=>h2 l (by simp [hl])) (λl hl=>h3 l (by simp [hl]))
   obtain ⟨A,k,e1,e2⟩:=pN' h vN vO hS hM (x:=x.1) (rv:=x.2) hx (λl hl=>h3 l (by simp [hl])) hv1
   refine ⟨⟨A,k,List.length x.1,none⟩::au,⟨v,vs',[_],au,rfl,rfl,⟨A,k,e1,e2,rfl⟩,k1⟩,⟨_,_,rfl,rfl,k2⟩,?_,λl hl=>?_,λz hz=>by simp [k5 z hz],k6⟩
   ·have:gG (.ji E::r) (v::vs')=gG r vs':=by cases v<;>rfl
    rw [this]; exact k3
   ·rcases Lq'.1 hl with hl | hl
    ·cases hl
    ·exact k4 l hl
 | .lq ks::r,p::ps,_,_,vs,e,hv,h1,h2,h3=>by
   obtain ⟨x,hx,e⟩:=bind_some e;obtain ⟨y,hy,e⟩:=bind_some e;cases e;simp only [aB] at hv;obtain ⟨v,vs',rfl,hv1,hv2⟩:=hv;obtain ⟨au,k1,k2,k3,k4,k5,k6⟩:=xq ht hd hX h vN vO nk hO hS hR qa hM (a:=y.1) (acc:=y.2) hy hv2 (λl hl=>h1 l (by simp [hl])) (λl hl=>h2 l (by simp [hl])) (λl hl=>h3 l (by simp [hl]))
   obtain ⟨p1,e0,cs,e1,e2,e3⟩:=pU' ht h nk hS hM (x:=x.1) (ls:=x.2.1) (rv:=x.2.2) hx (λl hl=>h1 l (by simp [hl])) (λl hl=>h3 l (by simp [hl])) hv1
   refine ⟨p1++au,⟨v,vs',p1,au,rfl,rfl,⟨e0,cs,e1,e2⟩,k1⟩,e3.app k2,?_,λl hl=>?_,λz hz=>by simp [k5 z hz],k6⟩
   ·have:gG (.lq ks::r) (v::vs')=gG r vs':=by cases v<;>rfl
    rw [this]; exact k3
   ·rcases Lo'.1 hl with hl | hl
    ·have:=List.eq_of_mem_replicate hl;cases this
    ·exact k4 l hl
 | .fn ks rs::r,p::ps,_,_,vs,e,hv,h1,h2,h3=>by
   obtain ⟨y,hy,e⟩:=bind_some e;simp only [aB] at hv;obtain ⟨v,vs',rfl,hv1,hv2⟩:=hv;have hb:gG (.fn ks rs::r) (v::vs')=gG r vs':=by cases v<;>rfl
   split at e
   ·rename_i ks' rs' g;obtain ⟨g',hg',e⟩:=bind_some e;cases e;obtain ⟨e1,e2,e3⟩:=sO' hg';subst e1;subst e2;subst e3;obtain ⟨au,k1,k2,k3,k4,k5,k6⟩:=xq ht hd hX h vN vO nk hO hS hR qa hM (a:=y.1) (acc:=y.2) hy hv2 h1 h2 h3;simp only [RV] at hv1;obtain ⟨f,as',cs,e4,hf⟩:=hv1;refine ⟨au,⟨v,vs',[],au,rfl,rfl,⟨f,as',cs,e4,⟨by rw [<- hX]; exact hf.1,hf.2.1,λτ hτ=>?_⟩,rfl⟩,k1⟩,k2,by rw [hb]; exact k3,k4,k5,k6⟩
    rw [hX] at hf;exact hf.2.2 τ (hτ.mono λb _ hb=>by
     rcases hM b hb with hb | ⟨l,_,hlv,p,hc,hw⟩
     ·exact .inl (Lr' h.base.1 hb)
     ·exact h.mine l p b hlv hc hw)
   ·rename_i f0 ls0 hh0;replace e:=bA e;obtain ⟨Ze,e⟩:=e;cases e;obtain ⟨au,k1,k2,k3,k4,k5,k6⟩:=xq ht hd hX h vN vO nk hO hS hR qa hM (a:=y.1) (acc:=y.2) hy hv2 h1 h2 h3;simp only [RV] at hv1;obtain ⟨cs,e4,hls⟩:=hv1;exact ⟨au,⟨v,vs',[],au,rfl,rfl,⟨_,[],cs,e4,uT' ht hd hX h qa hM hls (ht.fb _ Ze),rfl⟩,k1⟩,k2,by rw [hb]; exact k3,k4,k5,k6⟩
   ·cases e
 | .var T vk w::r,p::ps,_,_,vs,e,hv,h1,h2,h3=>by
   obtain ⟨x,hx,e⟩:=bind_some e;obtain ⟨y,hy,e⟩:=bind_some e;cases e;simp only [aB] at hv;obtain ⟨v,vs',rfl,hv1,hv2⟩:=hv;obtain ⟨au,k1,k2,k3,k4,k5,k6⟩:=xq ht hd hX h vN vO nk hO hS hR qa hM (a:=y.1) (acc:=y.2) hy hv2 (λl hl=>h1 l (by simp [hl])) (λl hl=>h2 l (by simp [hl])) (λl hl=>h3 l (by simp [hl]))
   unfold et' at hx;split at hx
   ·rename_i l;split at hx
    ·rename_i T' ls w' ho;replace hx:=bA hx;obtain ⟨hT,hx⟩:=hx;simp only [Lc'] at hT;have eT:=Li' hT.1;subst eT;have hww:=hT.2;replace hx:=bind_some hx;obtain ⟨q,hq,hx⟩:=hx;replace hx:=bind_some hx;obtain ⟨z,hz,hx⟩:=hx;have hs:=hO _ _ _ _ ho;obtain ⟨b,cs,o1,o2,o3,o4,o5⟩:=h.bB l _ hs;simp only [RV] at hv1;obtain ⟨b',w2,c1,rfl⟩:=hv1;rw [o1] at c1;cases c1;obtain ⟨u,hu,hcu⟩:=fa' hq o2;cases w with
     | true =>
       have hw':w'=true:=by cases w'<;>simp at hww ⊢
       subst hw';cases hx;obtain ⟨pr,t1,t2⟩:=Jy ht hS hR (ls:=z.2.1) (rows:=z.2.2) hz (λl hl=>h1 l (by simp [hl])) (λl hl=>h2 l (by simp [hl])) hu
       have hl1:=PO (ls:=z.2.1) (rows:=z.2.2) hz;refine ⟨(⟨some ⟨b,0,none⟩,0,0,some b⟩::pr)++au,⟨_,vs',_,au,rfl,rfl,⟨b,cs,u,pr,rfl,o3,hcu,t1,(λ_=>o4 rfl),(λe=>by cases e),rfl⟩,k1⟩,?_,?_,λl' hl=>?_,λg hg=>?_,?_⟩
       ·refine At.app (r1:=some l::z.2.2) ?_ k2;exact ⟨_,pr,rfl,o1,t2⟩
       ·exact ⟨b,_,ls,rfl,ho,o1,k3⟩
       ·simp only [Lo',Lq',LI'.injEq] at hl;rcases hl with (hl | hl) | hl
        ·subst hl;exact .inr ⟨T,vk,by simp⟩
        ·exact .inl (hl1 l' hl)
        ·rcases k4 l' hl with hl | ⟨T2,v2,hl⟩
         ·exact .inl hl
         ·exact .inr ⟨T2,v2,by simp [hl]⟩
       ·simp only [Mg',Mj',Lq'] at hg;rcases hg with hg | hg
        ·subst hg; simp
        ·simp [k5 g hg]
       ·simp only [Mg',Mj',LJ',rq,k6]
     | false =>
       simp only [cond_false] at hx;replace hx:=bA hx;obtain ⟨hn,hx⟩:=hx;have hn:=tH hn;cases hx;obtain ⟨pr,t1,t2⟩:=Jy ht hS hR (ls:=z.2.1) (rows:=z.2.2) hz (λl hl=>h1 l (by simp [hl])) (λl hl=>by rw [hn] at hl; cases hl) hu
       rw [hn] at t2;have:pr=[]:=t2;subst this;have EP':l ∉ gr:=h3 l (by simp)
       refine ⟨(⟨some ⟨b,0,none⟩,0,0,none⟩::[])++au,⟨_,vs',_,au,rfl,rfl,⟨b,cs,u,[],rfl,o3,hcu,t1,(λe=>by cases e),(λ_ Bb=>?_),rfl⟩,k1⟩,?_,?_,λl' hl=>?_,λg hg=>?_,?_⟩
       ·have hlt:=jJ o3;rcases hM b Bb with hb | ⟨l',hl',hlv,p',hc',lw'⟩
        ·have hb':σ.w.heap.size<=b:=hb;omega
        ·cases w' with
         | true=>exact EP' (by rw [h.inj l l' _ p' b ⟨_,hs⟩ hlv o1 hc' rfl lw']; exact hl')
         | false=>exact o5 rfl (h.mine l' p' b hlv hc' lw')
       ·refine At.app (r1:=[none]) ?_ k2;exact ⟨_,[],rfl,rfl,rfl⟩
       ·exact k3
       ·simp only [Mg',Mj',Lq'] at hl;rcases hl with hl | hl
        ·cases hl
        ·exact k4 l' hl
       ·simp [k5 g hg]
       ·exact k6
    ·cases hx
   ·cases hx
 | [],_::_,_,_,_,e,_,_,_,_=>by simp [tX] at e
 | _::_,[],_,_,_,e,_,_,_,_=>by simp [tX] at e
omit [∀ E,Rp (I E)] in
theorem Ja:∀ {all:List (Option Nat)} {O:aN I} {l:Nat},(∀ l,some l∈all->O l≠none)->dD O (jr all) l=dL (all.filterMap id) O l
 | [],O,l,_=>by simp [jr,dD,dL,cO]
 | none::r,O,l,h=>by
   have:=Ja (all:=r) (O:=O) (l:=l) (λl hl=>h l (by simp [hl]))
   simpa [jr] using this
 | some a::r,O,l,h=>by
   simp only [jr,dD];rw [Ja (all:=r) (λl' hl'=>by
    by_cases e:l'=a
    ·subst e; rw [iq]; simp
    ·rw [fq e]; exact h l' (by simp [hl']))]
   simp only [dL,Me',id,cO];by_cases e:l=a
   ·subst e;rw [iq];have ha:=h l (by simp)
    cases ho:O l with
    | none=>exact absurd ho ha
    | some o=>cases cO l (List.filterMap id r)<;>simp
   ·rw [fq e,Sx.beq_false e];rfl
omit [∀ E,Rp (I E)] in
theorem gX' {O:aN I}{l:Nat}{o:Option (Ob I)}{os:List (Ob I)}{nb:Nat}(h:l ∉ gu nb os.length):fo (cB O l o) nb os=cB (fo O nb os) l o:=by
 funext i;by_cases hi:i∈gu nb os.length
 ·rw [(YL (O':=O) hi).1,fq (λe=>h (by rw [<- e]; exact hi))]
 ·rw [kY hi];by_cases e:i=l
  ·subst e; rw [iq,iq]
  ·rw [fq e,fq e,kY hi]
omit [∀ E,Rp (I E)] in
theorem Rn {O0:aN I}{os:List (Ob I)}{nb:Nat}:∀ {gv:List (Nat×TypeId×V)} {ps:List (PV I)} {O:aN I},(∀ x∈gv,(∃ ls,O0 x.1=some (some (.var x.2.1 ls true)))/\x.1 ∉ gu nb os.length) ->
 fo (dD O (kQ gv ps)) nb os=iH O0 (gv.map λx=>(x.1,x.2.2)) (gv.map (·.1)) ps (fo O nb os)
 | [],ps,O,_=>by cases ps<;>rfl
 | x::r,[],O,_=>rfl
 | x::r,p::ps,O,h=>by
   obtain ⟨⟨ls,h1⟩,h2⟩:=h x (by simp)
   simp only [kQ,dD,LJ',iH,h1];rw [Rn (gv:=r) (λy hy=>h y (by simp [hy])),gX' h2]
omit [∀ E,Rp (I E)] in
theorem wF {O0 O:aN I}:∀ {lZ:List Pk} {vs us:List Value} {gv:List (Nat×TypeId×V)},JG τ lZ vs us->uY c O gv (gG lZ vs)->gv.map (λx=>x.2)=rq lZ->(∀ x∈gv,∃ ls,O0 x.1=some (some (.var x.2.1 ls true))) ->
 kK τ c O0 (gv.map λx=>(x.1,x.2.2)) (gv.map (·.1)) us
 | [],vs,us,gv,h,_,h3,_=>by
   have hg:gv=[]:=by simpa [rq] using h3
   subst hg;cases vs with
   | nil=>exact h
   | cons=>exact h.elim
 | .d k::r,[],us,gv,h,_,_,_=>h.elim
 | .row _ _::r,[],us,gv,h,_,_,_=>h.elim
 | .fn _ _::r,[],us,gv,h,_,_,_=>h.elim
 | .ji _::r,[],us,gv,h,_,_,_=>h.elim
 | .val _::r,[],us,gv,h,_,_,_=>h.elim
 | .lq _::r,[],us,gv,h,_,_,_=>h.elim
 | .var _ _ false::r,[],us,gv,h,_,_,_=>h.elim
 | .var _ _ true::r,[],us,gv,h,_,_,_=>h.elim
 | .d k::r,v::vs,us,gv,h,h2,h3,h4=>wF (lZ:=r) (vs:=vs) h (by have e:gG (.d k::r) (v::vs)=gG r vs:=by cases v<;>rfl
                                                             rw [e] at h2; exact h2) h3 h4
 | .row E f::r,v::vs,us,gv,h,h2,h3,h4=>wF (lZ:=r) (vs:=vs) h (by have e:gG (.row E f::r) (v::vs)=gG r vs:=by cases v<;>rfl
                                                                 rw [e] at h2; exact h2) h3 h4
 | .val vk::r,v::vs,us,gv,h,h2,h3,h4=>wF (lZ:=r) (vs:=vs) h (by
    have e:gG (.val vk::r) (v::vs)=gG r vs:=by cases v<;>rfl
    rw [e] at h2; exact h2) h3 h4
 | .lq ks::r,v::vs,us,gv,h,h2,h3,h4=>wF (lZ:=r) (vs:=vs) h (by have e:gG (.lq ks::r) (v::vs)=gG r vs:=by cases v<;>rfl
                                                               rw [e] at h2; exact h2) h3 h4
 | .ji E::r,v::vs,us,gv,h,h2,h3,h4=>wF (lZ:=r) (vs:=vs) h (by have e:gG (.ji E::r) (v::vs)=gG r vs:=by cases v<;>rfl
                                                              rw [e] at h2; exact h2) h3 h4
 | .fn ks rs::r,v::vs,us,gv,h,h2,h3,h4=>wF (lZ:=r) (vs:=vs) h (by have e:gG (.fn ks rs::r) (v::vs)=gG r vs:=by cases v<;>rfl
                                                                  rw [e] at h2; exact h2) h3 h4
 | .var T w false::r,v::vs,us,gv,h,h2,h3,h4=>wF (lZ:=r) (vs:=vs) h (by have e:gG (.var T w false::r) (v::vs)=gG r vs:=by cases v<;>rfl
                                                                       rw [e] at h2; exact h2) h3 h4
 | .var T w true::r,v::vs,us,gv,h,h2,h3,h4=>by
   obtain ⟨b,cs,u,mE,e1,e2,e3,e4,e5,e6⟩:=h;subst e1;subst e2;cases gv with
   | nil=>simp [rq] at h3
   | cons x gv =>
     simp only [LJ',rq,NO'.injEq] at h3;obtain ⟨b',bs',ls,q1,q2,q3,q4⟩:=h2;have hb:gG (.var T w true::r) (Value.pointer (some ⟨b,0,none⟩)::vs)=b::gG r vs:=rfl;rw [hb] at q1;cases q1;obtain ⟨ls0,o1⟩:=h4 x (by simp)
     have ih:=wF (lZ:=r) (vs:=vs) (us:=mE) (gv:=gv) (O0:=O0) e6 q4 h3.2 (λy hy=>h4 y (by simp [hy]))
     have hT:x.2.1=T:=by rw [h3.1]
     have hV:x.2.2=w:=by rw [h3.1]
     refine ⟨u,mE,b,x.2.1,ls0,true,cs,rfl,o1,q3,by rw [hT]; exact e3,e4,?_,ih⟩
     show bif pQ x.2.2 then _ else _
     rw [hV]; exact e5
theorem fY' (ht:bT P tb){r:Row I}{C:World->List Value->Prop}{lm:aN I->List (PV I)->Bool}(hr:zY P r C)
 (hC:∀ (X:bZ) (c:Cx) (σ:S) (s:St I) (n:Nat) (F:Fr) (O:aN I) (ps:List (PV I)) (vs:List Value),(∀ l o,O l=some (some o)->s.O l=some (some o))->Rel X c σ s n F->lm O ps=true->aB X c σ ps vs->C σ.w vs):zf P (jo' tb r lm):=by
 refine ⟨λaH ρ O nb ps k=>?_,λaH hd O nb ps ef he=>?_⟩
 ·show ET tb r lm aH ρ O nb ps k=(ET tb r lm aH (Ef I) O nb ps some).bind k;unfold ET;cases lm O ps
  ·rfl
  simp only [cond_true];unfold R8;simp only [LX'];refine Yl λa=>?_;cases Fy (jX O r.ps ps) a.2
  ·rfl
  ·simp only [cond_true,LX'];rfl
 ·intro X c σ s n F vs hX hO h hvs hfree;have he':ET tb r lm aH (Ef I) O nb ps some=some ef:=he;unfold ET at he';obtain ⟨hck,he'⟩:=bA he';have hCw:=hC X c σ s n F O ps vs hO h hck hvs;unfold R8 at he';obtain ⟨a,ha,he'⟩:=bind_some he';obtain ⟨MF,he'⟩:=bA he';obtain ⟨res,hres,he'⟩:=bind_some he';cases he';obtain ⟨a,acc⟩:=a;simp only [Fy,Lc'] at MF;obtain ⟨⟨q1,q2⟩,q3⟩:=MF;obtain ⟨r1,r2⟩:=Di q1;have hgr:∀ l,some l∈acc.all->l∈jX O r.ps ps:=λl hl=>by have:=(Le'.1 q2) _ hl;exact kE.1 this
  have iG:∀ l∈acc.rv,l ∉ jX O r.ps ps:=λl hl=>by have:=(Le'.1 q3) _ hl;exact oo.1 (by simpa using this)
  obtain ⟨τ1,p1,p2,p3,p4,p5,p6⟩:=h.pubs hO acc.pub;have zh:=aB.step p2 _ _ hvs;have vP:∀ {l:Nat},(∀ E (xs:List (I E)),O l≠some (some (.row E xs false)))->(aZ s O acc.pub).O l=s.O l:=λ{l} hn=>by
   show dD s.O (bQ O acc.pub) l=s.O l;apply pU;intro hm;have hp:∀ {ls:List Nat},l∈iK (bQ O ls)->∃ E,∃ xs:List (I E),O l=some (some (.row E xs false)):=by
    intro ls
    induction ls with
    | nil=>intro h; simp [bQ,iK] at h
    | cons a r ih =>
      intro h;simp only [bQ] at h;split at h
      ·rename_i E xs e;simp only [iK,LJ',Lq'] at h;rcases h with rfl | h
       ·exact ⟨E,xs,e⟩
       ·exact ih h
      ·exact ih h
   obtain ⟨E,xs,e⟩:=hp hm;exact hn E xs e
  have hOv:∀ l T ls w,O l=some (some (.var T ls w))->(aZ s O acc.pub).O l=some (some (.var T ls w)):=λl T ls w ho=>by rw [vP (λE xs e=>by rw [ho] at e; cases e)]; exact hO l _ ho
  have qa:∀ l o,iO [] (dL (jX O r.ps ps) O) l=some (some o)->iO [] (dL (jX O r.ps ps) (aZ s O acc.pub).O) l=some (some o):=by
   intro l o hl;unfold iO dL at hl ⊢;cases hm:cO l (jX O r.ps ps) with
   | true =>
     rw [hm] at hl;cases hol:O l with
     | none=>rw [hol] at hl; simp [cO] at hl
     | some x=>rw [hol] at hl; simp [cO] at hl
   | false =>
     rw [hm] at hl;simp only [cond_false,cO] at hl ⊢;have hne:∀ E (xs:List (I E)),O l≠some (some (.row E xs false)):=λE xs e=>by rw [e] at hl; simp at hl
     rw [vP hne];cases hol:O l with
     | none=>rw [hol] at hl; simp at hl
     | some x =>
       cases x with
       | none=>rw [hol] at hl; simp at hl
       | some o'=>rw [hO l o' hol]; rw [hol] at hl; exact hl
  have hlv:∀ l,some l∈acc.all->(∃ o:Ob I,O l=some (some o)/\wY o=true)\/(∃ T ls,O l=some (some (.var T ls true)))->bH (aZ s O acc.pub) l:=λl hl hx=>by
   rcases hx with ⟨o,ho,_⟩ | ⟨T,ls,ho⟩
   ·exact ⟨_,(p6 l (r2 l hl)).trans (hO l _ ho)⟩
   ·exact ⟨_,hOv l _ _ _ ho⟩
  have core:∀ M:Nat->Prop,(∀ b,M b->τ1.N<=b\/∃ l∈jX O r.ps ps,bH (aZ s O acc.pub) l/\∃ p,c l=some p/\p.w=some b)->_:=λM hM =>
   xq ht hd hX p3 (λl E xs fl e=>SB ⟨fl,e⟩ ⟨fl,hO l _ e⟩) (λl E xs e=>(vP (λE' xs' e'=>by rw [e] at e'; cases e')).trans (hO l _ e)) (λl T kd m=>⟨λe=>(vP (λE' xs' e'=>by rw [e] at e'; cases e')).trans (hO l _ e),λe=>(vP (λE' xs' e'=>by rw [e] at e'; cases e')).trans (hO l _ e)⟩) hOv p4 p5 qa hM (nb:=nb) ha zh (λ_ h=>h) r2 iG
  have gJ:∀ (au:List Pl),rX P (λb=>τ1.N<=b\/b∈ows au) τ1 r.ps a vs au->At c acc.all au->uY c O acc.gv (gG r.ps vs)->(∀ l,some l∈acc.all->(∃ o:Ob I,O l=some (some o)/\wY o=true)\/∃ T v,(l,T,v)∈acc.gv) ->
   (∀ x∈acc.gv,some x.1∈acc.all)->acc.gv.map (λx=>x.2)=rq r.ps->kX P r.f vs σ (Stp X.M σ) λv τ=>∃ c',Cx.le c c'/\Rel X c' τ (jQ s nb ⟨mJ ((eF tb nb (r.rs++bK r.ps) res).take r.rs.length),bQ O acc.pub++jr acc.all++kQ acc.gv ((eF tb nb (r.rs++bK r.ps) res).drop r.rs.length),fB (r.rs++bK r.ps) res⟩) n F /\
     RV X c' τ (mJ ((eF tb nb (r.rs++bK r.ps) res).take r.rs.length)) v:=by
   intro au k1 k2 k3 k4 k5 k6;have hgv:∀ x∈acc.gv,∃ ls,O x.1=some (some (.var x.2.1 ls true)):=by
    have:∀ {gv:List (Nat×TypeId×V)} {bs:List Nat},uY c O gv bs->∀ x∈gv,∃ ls,O x.1=some (some (.var x.2.1 ls true)):=by
     intro gv
     induction gv with
     | nil=>intro bs _ x hx; cases hx
     | cons y r ih =>
       intro bs ⟨b,bs',ls,_,e2,_,e4⟩ x hx;rcases Lq'.1 hx with rfl | hx
       ·exact ⟨ls,e2⟩
       ·exact ih e4 x hx
    exact this k3
   have hlive:∀ l,some l∈acc.all->bH (aZ s O acc.pub) l:=λl hl=>hlv l hl ((k4 l hl).imp id λ⟨T,v,hm⟩=>by obtain ⟨ls,e⟩:=hgv _ hm;exact ⟨T,ls,e⟩)
   have hnd:(ows au).Nodup:=At.nodup p3 k2 r1 hlive;have hown:∀ g∈ows au,∃ l p,some l∈acc.all/\c l=some p/\p.w=some g:=k2.mem;have Bd:∀ g∈ows au,X.M g:=λg hg=>by obtain ⟨l,p,a1,a2,a3⟩:=hown g hg;exact p3.mine l p g (hlive l a1) a2 a3
   refine kX.mono (hr τ1 a vs au res k1 (by rw [p1]; exact hCw) hnd hres) p1.symm λv τ hst ⟨ws,us,ic,hpost⟩=>⟨τ,rfl,p2.trans (hst.mono λb _ hb=>Bd b hb),?_⟩
   let kl:=acc.all.filterMap id
   have hkl:∀ l,l∈kl↔some l∈acc.all:=λl=>by simp [kl,NN']
   let s2:St I:=⟨s.n,s.F,dL kl (aZ s O acc.pub).O,s.nx⟩
   have h2:Rel X c τ1 s2 n F:=p3.less (λl o ho=>(iW ho).2) (λl ho=>wo.1 ho);have hn2:∀ l p g,bH s2 l->c l=some p->p.w=some g->¬ g∈ows au:=λl p g ⟨o,ho⟩ hc hw hg=>by obtain ⟨m1,m2⟩:=iW ho;obtain ⟨l',p',a1,a2,a3⟩:=hown g hg;exact m1 ((hkl l).2 (by rw [p3.inj l l' p p' g ⟨o,m2⟩ (hlive l' a1) hc a2 hw a3]; exact a1))
   have hi2:∀ g,g∈ows au->eD c τ1 s2 g:=λg hg=>by obtain ⟨l',p',a1,a2,a3⟩:=hown g hg;exact (p3.owned (hlive l' a1) a2 a3).sub λl E E' u xs q e=>(iW e).2
   have h3:Rel X c τ s2 n F:=h2.stepG hst Bd hn2 hi2;have MG:dD s.O (bQ O acc.pub++jr acc.all)=dL kl (aZ s O acc.pub).O:=by rw [oD];funext l;exact Ja λl hl=>by obtain ⟨o,ho⟩:=hlive l hl; intro e; have:=ho; rw [show (aZ s O acc.pub).O l=dD s.O (bQ O acc.pub) l from rfl,e] at this; cases this
   have zi:∀ x∈acc.gv,∃ ls,(aZ s O acc.pub).O x.1=some (some (.var x.2.1 ls true)):=λx hx=>by obtain ⟨ls,e⟩:=hgv x hx;exact ⟨ls,hOv _ _ _ _ e⟩
   have DU:∀ l∈gu nb (fB (r.rs++bK r.ps) res).length,dL kl (aZ s O acc.pub).O l=none/\l ∉ acc.gv.map (·.1):=by
    rw [o8] at hfree;intro l hl;have h0:=hfree l hl;rw [oD,MG] at h0;by_cases hk:l∈iK (kQ acc.gv ((eF tb nb (r.rs++bK r.ps) res).drop r.rs.length))
    ·exact absurd h0 (BG (O':=s.O) hk).2
    ·rw [pU hk] at h0;refine ⟨h0,λhm=>?_⟩;simp only [Lx'] at hm;obtain ⟨x,hx,e⟩:=hm;have:=(hkl x.1).2 (k5 x hx);rw [e] at this;have hl2:=hlive l ((hkl l).1 this);obtain ⟨o,ho⟩:=hl2;have:=wo.1 h0;rw [ho] at this; cases this
   have gq:=yh hpost.tt;obtain ⟨h4,h5⟩:=Rel.addN (nb:=nb) h3 (o8.2 λl hl=>(DU l hl).1) gq hpost.nodup λg hg=>by
    have ho:=hpost.own g hg;refine ⟨ho.1.elim (λh=>.inl (Lr' p3.base.1 h)) (Bd g),(ho.1.elim (λh=>h2.fresh h) (hi2 g)).step h2 hst hn2 hi2,λl p ⟨o,ho'⟩ hc hw=>?_⟩;obtain ⟨m1,m2⟩:=iW ho';rcases ho.1 with hge | hin
    ·have:=(p3.bB l o m2).lt hc hw;have:τ1.w.heap.size<=g:=hge;omega
    ·obtain ⟨l',p',a1,a2,a3⟩:=hown g hin;exact m1 ((hkl l).2 (by rw [p3.inj l l' p p' g ⟨o,m2⟩ (hlive l' a1) hc a2 hw a3]; exact a1))
   obtain ⟨hps,hlen⟩:=GI (X:=X) (c:=fI c nb ic) (nb:=nb) ht hpost.tt pq;have htk:=aB.take r.rs.length _ _ hps;have hdr:=aB.drop r.rs.length _ _ hps;rw [List.take_left' hpost.len] at htk;rw [List.drop_left' hpost.len] at hdr;have hold:∀ l,(aZ s O acc.pub).O l≠none->fI c nb ic l=c l:=λl hl=>by
    have key:∀ {ps:List Pl} {c:Cx} {nb:Nat},(l<nb\/nb+ps.length<=l)->fI c nb ps l=c l:=by
     intro ps
     induction ps with
     | nil=>intro c nb _; rfl
     | cons p ps ih =>
       intro c nb h;simp only [fI];rw [ih (by simp only [Ld'] at h; omega)]
       have:l≠nb:=by simp only [Ld'] at h; omega
       simp [fP,this]
    apply key;apply Classical.byContradiction;intro hn;rw [not_or] at hn;exact hl (wo.1 (DU l (lH.2 ⟨by omega,by rw [gq.1]; omega⟩)).1)
   have Zf:∀ {gv:List (Nat×TypeId×V)} {bs:List Nat},uY c O gv bs->∀ x∈gv,∀ p g,c x.1=some p->p.w=some g->g∈bs:=by
    intro gv
    induction gv with
    | nil=>intro bs _ x hx; cases hx
    | cons y r ih =>
      intro bs ⟨b,bs',ls,e1,e2,e3,e4⟩ x hx p g hc hw;subst e1;rcases Lq'.1 hx with rfl | hx
      ·rw [e3] at hc; cases hc; cases hw; simp
      ·simp [ih e4 x hx p g hc hw]
   have hat:∀ (i:Nat) (y:Nat×V) (p:PV I),(acc.gv.map λx=>(x.1,x.2.2))[i]?=some y->((eF tb nb (r.rs++bK r.ps) res).drop r.rs.length)[i]?=some p->∃ nb' z,p=nM tb nb' y.2 z:=λi y p hi hp=>by
    refine SA (tb:=tb) (vs:=r.rs++bK r.ps) (nb:=nb) (x:=res) (i:=r.rs.length+i) (v:=y.2) ?_ (by rw [Mh'] at hp; exact hp)
    rw [Ls' (by simp),Mt',<- xw,<- k6]
    rw [Na'] at hi;simp only [List.map_map,Na'];cases hgi:acc.gv[i]? with
    | none=>rw [hgi] at hi; cases hi
    | some z=>rw [hgi] at hi; cases hi; rfl
   have h6:=Rel.iH (au:=ic) ht p3 h5 (wF hpost.out k3 k6 zi) hdr (λi y p hi hp hag=>by
    obtain ⟨nb',z,e⟩:=hat i y p hi hp;rw [e]; exact SH hag)
    (λi y p hi hp hag=>by obtain ⟨nb',z,e⟩:=hat i y p hi hp;rw [e]; exact Rl hag)
    (λl hl=>hold l (by simp only [Lx'] at hl;obtain ⟨x,hx,rfl⟩:=hl;obtain ⟨ls,e⟩:=zi x hx;rw [e]; simp))
    (λl hl p g hc hw=>by simp only [Lx'] at hl;obtain ⟨x,hx,rfl⟩:=hl;exact p3.mine x.1 p g (hlive _ (k5 x hx)) hc hw)
    (λl ⟨o,ho⟩=>by
      by_cases hm:l∈gu nb (fB (r.rs++bK r.ps) res).length
      ·right;obtain ⟨a1,a2⟩:=lH.1 hm;have hlt:l-nb<ic.length:=by rw [<- gq.1]; omega
       refine ⟨ic[l-nb],Lu' _,?_⟩;have:=pq (c:=c) (nb:=nb) (l-nb) ic[l-nb] (Lb' hlt);rw [show nb+(l-nb)=l from by omega] at this
       exact this
      ·left;have ho':fo (dL kl (aZ s O acc.pub).O) nb (fB (r.rs++bK r.ps) res) l=some (some o):=ho;rw [kY hm] at ho';obtain ⟨_,m2⟩:=iW ho';exact ⟨⟨o,m2⟩,hold l (by rw [m2]; simp)⟩)
    (λl hl p hc g hw hm=>by simp only [Lx'] at hl;obtain ⟨x,hx,rfl⟩:=hl;exact (hpost.own g hm).2 (Zf k3 x hx p g hc hw))
    (λl hl p hc g hw=>by simp only [Lx'] at hl;obtain ⟨x,hx,rfl⟩:=hl;obtain ⟨ls,e⟩:=zi x hx;exact (((p3.owned ⟨_,e⟩ hc hw).sub (s':=s2) λl E E' u xs q e=>(iW e).2).step h2 hst hn2 hi2).grow h3 h4 (vY gq.not))
   refine ⟨_,h4,?_,by rw [hpost.ret]; exact FC htk⟩
   have hO2:fo (dD s.O (bQ O acc.pub++jr acc.all++kQ acc.gv ((eF tb nb (r.rs++bK r.ps) res).drop r.rs.length))) nb (fB (r.rs++bK r.ps) res) =
    iH (aZ s O acc.pub).O (acc.gv.map λx=>(x.1,x.2.2)) (acc.gv.map (·.1)) ((eF tb nb (r.rs++bK r.ps) res).drop r.rs.length) (fo (dL kl (aZ s O acc.pub).O) nb (fB (r.rs++bK r.ps) res)):=by
    rw [oD,MG];exact Rn λx hx=>⟨zi x hx,λhm=>(DU x.1 hm).2 (Lx'.2 ⟨x,hx,rfl⟩)⟩
   have e:jQ s nb ⟨mJ ((eF tb nb (r.rs++bK r.ps) res).take r.rs.length),bQ O acc.pub++jr acc.all++kQ acc.gv ((eF tb nb (r.rs++bK r.ps) res).drop r.rs.length),fB (r.rs++bK r.ps) res⟩ =
    ⟨s.n,s.F,iH (aZ s O acc.pub).O (acc.gv.map λx=>(x.1,x.2.2)) (acc.gv.map (·.1)) ((eF tb nb (r.rs++bK r.ps) res).drop r.rs.length) (fo (dL kl (aZ s O acc.pub).O) nb (fB (r.rs++bK r.ps) res)),s.nx⟩:=by
    simp only [jQ,hO2]
   rw [e];exact h6
  obtain ⟨DW,k1,k2,k3,k4,k5,k6⟩:=core (λ_=>False) (λ_ h=>h.elim);obtain ⟨au,k1',k2',_⟩:=core (λb=>τ1.N<=b\/b∈ows DW) (λb hb=>hb.imp id λhb=>by
   obtain ⟨l,p,a1,a2,a3⟩:=k2.mem b hb;refine ⟨l,hgr l a1,hlv l a1 ((k4 l a1).imp id λ⟨T,v,hm⟩=>?_),p,a2,a3⟩;have:∀ {gv:List (Nat×TypeId×V)} {bs:List Nat},uY c O gv bs->∀ x∈gv,∃ ls,O x.1=some (some (.var x.2.1 ls true)):=by
    intro gv
    induction gv with
    | nil=>intro bs _ x hx; cases hx
    | cons y r ih =>
      intro bs ⟨b,bs',ls,_,e2,_,e4⟩ x hx;rcases Lq'.1 hx with rfl | hx
      ·exact ⟨ls,e2⟩
      ·exact ih e4 x hx
   obtain ⟨ls,e⟩:=this k3 _ hm;exact ⟨T,ls,e⟩)
  have hsame:ows au=ows DW:=by
   have:∀ {rows:List (Option Nat)} {p q:List Pl},At c rows p->At c rows q->ows p=ows q:=by
    intro rows
    induction rows with
    | nil=>intro p q h1 h2; cases h1; cases h2; rfl
    | cons x r ih =>
      intro p q ⟨a,KX',e1,g1,h1⟩ ⟨b,bs,e2,g2,h2⟩;subst e1;subst e2;have hr:=ih h1 h2;simp only [ows,Me'] at hr ⊢;have:a.w=b.w:=by
       cases x with
       | none=>simp only at g1 g2; rw [g1,g2]
       | some l=>simp only at g1 g2; rw [g1] at g2; cases g2; rfl
      rw [this,hr]
   exact this k2' k2
  rw [<- hsame] at k1';exact gJ au k1' k2' k3 k4 k5 k6
theorem tI' (ht:bT P tb){r:Row I}(hr:bJ P r):zf P (iF' tb r) :=
 fY' (C:=λ_ _=>True) (lm:=λ_ _=>true) ht (λσ a vs au res h _=>hr σ a vs au res h) (λ_ _ _ _ _ _ _ _ _ _ _ _ _=>trivial)
def Fb:List (PV I)->List (Option (PV I))->Bool
 | [],[]=>true
 | .ptr a 0::r,some (.ptr b 0)::r'=>Lm' a b&&Fb r r'
 | _,_=>false
def X7 (T:TypeId)(f:FuncId)(j:Nat)(is:List Nat)(O:aN I)(ps:List (PV I)):Bool:=match ps[j]? with
 | some (.ptr l 0)=>match O l with
   | some (some (.var T' [.qM f' ls] _))=>Lm' T T'&&(Lm' f f'&&Fb ls (is.map (ps[·]?)))
   | _=>false
 | _=>false
def Ep (T:TypeId)(f:FuncId)(j:Nat)(is:List Nat)(w:World)(vs:List Value):Prop :=
 ∃ b KX',vs[j]?=some (.pointer (some ⟨b,0,none⟩))/\w.heap[b]?=some (.cells #[.func (.func f) #[] (MF' KX')] T (0,0))/\is.map (vs[·]?)=KX'.map some
theorem eF':∀ {ls:List (PV I)} {is:List Nat} {ps:List (PV I)} {vs KX':List Value},Fb ls (is.map (ps[·]?))=true->aB X c σ ps vs->aB X c σ ls KX'->is.map (vs[·]?)=KX'.map some
 | [],[],_,_,KX',_,_,ha=>by simp only [aB] at ha;subst ha; rfl
 | [],_::_,_,_,_,h,_,_=>by simp [Fb] at h
 | p::r,[],_,_,_,h,_,_=>by cases p<;>simp [Fb] at h
 | p::r,i::is,ps,vs,KX',h,hv,ha=>by
   simp only [aB] at ha;obtain ⟨a,as',rfl,h1,h2⟩:=ha;simp only [LJ'] at h ⊢;unfold Fb at h;split at h
   ·rename_i e1 _;cases e1
   ·rename_i l0 r0 l1 r1 e1 e2;obtain ⟨e3,e4⟩:=NO'.inj e1;obtain ⟨hps,hr1⟩:=NO'.inj e2;subst e3;subst e4;subst hr1;simp only [Lc'] at h;have e:=Li' h.1;subst e;obtain ⟨v,Tm,iG⟩:=aB.at_ _ _ hv i _ hps;rw [Tm,eF' h.2 hv h2];simp only [RV] at iG h1;obtain ⟨b,w,k1,rfl⟩:=iG;obtain ⟨b',w',k2,rfl⟩:=h1;rw [k1] at k2;cases k2;rfl
   ·cases h
theorem CZ' {T:TypeId}{f:FuncId}{j:Nat}{is:List Nat}{ps:List (PV I)}{vs:List Value}(hO:∀ l o,O l=some (some o)->s.O l=some (some o))(h:Rel X c σ s n F)(hc:X7 T f j is O ps=true)(hv:aB X c σ ps vs):Ep T f j is σ.w vs:=by
 unfold X7 at hc;split at hc
 ·rename_i l hj;split at hc
  ·rename_i T' f' ls w' ho;simp only [Lc'] at hc;have eT:=Li' hc.1;have ef:=Li' hc.2.1;subst eT;subst ef;obtain ⟨v,Tn,iG⟩:=aB.at_ _ _ hv j _ hj;simp only [RV] at iG;obtain ⟨b,w,k1,rfl⟩:=iG;obtain ⟨b',cs,k2,k3,k4,_⟩:=h.bB l _ (hO _ _ ho);rw [k1] at k2;cases k2;simp only [RG] at k3;obtain ⟨a,r,rfl,hcl,rfl⟩:=k3;rcases hcl with hcl | ⟨_,u,rfl,hu⟩
   ·exact hcl.elim
   simp only [RV] at hu;obtain ⟨KX',rfl,has⟩:=hu;exact ⟨b,KX',Tn,by simpa using k4,eF' hc.2.2 hv has⟩
  ·cases hc
 ·cases hc
def iz' (T:TypeId)(f:FuncId)(l:Nat)(_:Nat)(is:List Nat)(s:St I):St I:=bG s l (some (.var T [.qM f (is.filterMap s.F)] false))
theorem gq':∀ {is:List Nat} {ps:List (PV I)} {vs KX':List Value},is.all (λi=>LF' i ps.length)=true->aB X c σ ps vs->is.map (vs[·]?)=KX'.map some->aB X c σ (is.filterMap (ps[·]?)) KX'
 | [],_,_,KX',_,_,e=>by
   cases KX' with
   | nil=>simp only [List.filterMap_nil,aB]
   | cons=>cases e
 | i::is,ps,vs,KX',hl,hv,e=>by
   cases KX' with
   | nil=>cases e
   | cons a KX' =>
     simp only [LJ',NO'.injEq] at e;simp only [LE',Lc'] at hl;have hi:i<ps.length:=by have:=hl.1;rw [Nat.blt_eq] at this;exact this
     have hp:=Lb' hi;obtain ⟨v,Tm,iG⟩:=aB.at_ _ _ hv i _ hp;rw [e.1] at Tm;cases Tm;rw [Me',hp];simp only [aB];exact ⟨a,KX',rfl,iG,gq' hl.2 hv e.2⟩
theorem oT' {T:TypeId}{f:FuncId}{l j:Nat}{is:List Nat}{nt:Nat}{ps:List Pk}{a:iZ I ps}{vs:List Value}(hl:(rz tb nt ps a).O l=some (some (.var T [.any] false)))(hj:(gK tb 0 ps a)[j]?=some (.ptr l 0))(his:is.all (λi=>LF' i (gK tb 0 ps a).length)=true)
 (h:Rel X c σ (rz tb nt ps a) nt F) (hv:aB X c σ (gK tb 0 ps a) vs) (hC:Ep T f j is σ.w vs):Rel X c σ (iz' T f l j is (rz tb nt ps a)) nt F:=by
 obtain ⟨b,KX',h1,h2,h3⟩:=hC;obtain ⟨v,Tn,iG⟩:=aB.at_ _ _ hv j _ hj;rw [h1] at Tn;cases Tn;simp only [RV] at iG;obtain ⟨b',w,k1,e⟩:=iG;cases e;obtain ⟨b',cs,k2,k3,k4,k5,k6⟩:=h.bB l _ hl;rw [k1] at k2;cases k2;refine h.Io ⟨b,[.func (.func f) #[] (MF' KX')],k1,?_,by simpa using h2,k5,k6⟩ λp g hp hg=>?_
 ·simp only [RG];refine ⟨_,[],rfl,.inr ⟨rfl,_,rfl,?_⟩,rfl⟩;simp only [RV];exact ⟨KX',rfl,gq' his hv h3⟩
 ·exact ⟨h.mine l p g ⟨_,hl⟩ hp hg,h.owned ⟨_,hl⟩ hp hg,λl' p' hne hlv hp' hg'=>hne (h.inj l' l p' p g hlv ⟨_,hl⟩ hp' hp hg' hg)⟩
end
section
variable {I:TypeId->Type} [∀ E,Rp (I E)] {P:Program}{tb:aX I}{X:bZ}{c c':Cx}{σ τ:S}{s:St I}{n:Nat}{F:Fr}{O:aN I}
structure Rio (I:TypeId->Type) where
 f:FuncId
 E:TypeId
 ps:List Pk
 rs:List V
 run:List (I E)->LW I ps (fO I (rs++bK ps)×List (I E))
def u6 (P:Program)(r:Rio I):Prop:=∀ (σ:S) (xs:List (I r.E)) (a:iZ I r.ps) (vs:List Value) (au:List Pl) (res:fO I (r.rs++bK r.ps)) (ys:List (I r.E)),
 rX P (λb=>σ.N<=b\/b∈ows au) σ (.row r.E false::r.ps) (xs,a) vs au->(ows au).Nodup->vD r.ps (r.run xs) a=some (res,ys) ->
  kX P r.f vs σ (Stp (λb=>b∈ows au) σ) λv τ=>∃ ws us ic,Post σ τ (.row r.E false::r.ps) r.rs vs res (ows au) v ws us ic /\
   ∃ A k ow,au.head?=some ⟨A,k,xs.length,ow⟩/\ys.length=xs.length/\fD ow false r.E τ ys A k/\∀ g,ow=some g->g ∉ ows ic
def jl' (tb:aX I)(E:TypeId)(ps:List Pk)(rs:List V)(results:List ResultVar):Ex->St I->Option (fO I (rs++bK ps)×List (I E)):=λe s=>match e with
 | .exit _=>none
 | _=>(pG tb s results).bind λa=>(jF s 1 ps).bind λb=>(jC tb s.O (rs++bK ps) (a++b)).bind λx=>(pV tb s.O (.row E false) (.vw 0)).bind λy =>
    bif wh (x.2.1++rG 1 ps) (y.2.2++x.2.2)&&lS y.2.1&&Lm' a.length rs.length then some (x.1,y.1) else none
def gx' (tb:aX I)(aH:fQ I)(H:Hints I)(cd:Code)(nt:Nat)(E:TypeId)(ps:List Pk)(rs:List V)(results:List ResultVar)(xs:List (I E))(a:iZ I ps):Option (fO I (rs++bK ps)×List (I E)) :=
 nN tb aH H cd 1 (fO I (rs++bK ps)×List (I E)) (rz tb nt (.row E false::ps) (xs,a)) (jl' tb E ps rs results)
def F0v (vs:List Value):Value:=vs.headD undef
omit [∀ E,Rp (I E)] in
theorem UM {E:TypeId}{fl:Bool}{l:Nat}{y:List (I E)×List Nat×List (Option Nat)}(h:pV tb O (.row E fl) (.vw l)=some y):y.2.2=[some l]:=by
 simp only [pV] at h;split at h
 ·replace h:=bind_some h;obtain ⟨ys,hys,h⟩:=h;cases fl<;>rename_i kF _<;>cases kF<;>first | (cases h; rfl) | cases h
 ·cases h
theorem sP' (ht:bT P tb){M:Nat->Prop}(hM:∀ b,X.M b->M b)(hX:X.P=P){E:TypeId}{ps:List Pk}{xs:List (I E)}{a:iZ I ps}{vs:List Value}{au:List Pl}{nt:Nat}(hA:rX P M σ (.row E false::ps) (xs,a) vs au)
 (hr:Rel X (λ_=>none) σ (⟨nt,λ_=>none,λ_=>none,0⟩:St I) nt F) (hnd:(ows au).Nodup) (jw:∀ g∈ows au,X.M g) :
 ∃ c',Rel X c' σ ⟨nt,λ_=>none,wS tb 0 (.row E false::ps) (xs,a) (λ_=>none),0⟩ nt F/\aB X c' σ (gK tb 0 (.row E false::ps) (xs,a)) vs/\∃ A k ow,au.head?=some ⟨A,k,xs.length,ow⟩/\c' 0=some ⟨A,k,xs.length,ow⟩:=by
 obtain ⟨v,vs',p1,p2,e1,e2,⟨A,k,ow,e4,h1,e3⟩,h2⟩:=hA;have h1:fD ow false E σ xs A k:=h1;have e4:v=.slice A xs.length k:=e4;have e3:p1=[⟨A,k,xs.length,ow⟩]:=e3;have h2:rX P M σ ps a vs' p2:=h2;subst e3;subst e2;obtain ⟨a1,a2⟩:=hr.newRow (nb:=0) (E:=E) (xs:=xs) (fl:=false) rfl h1 λg hg=>⟨jw g (by simp [ows,hg]),mo.eD (λ_ _ _ _ _ _ h=>by cases h),λl' p' ⟨_,hl⟩=>by cases hl⟩
 obtain ⟨c',k1,k2,k3⟩:=yc (nb:=1) (s:=bG (⟨nt,λ_=>none,λ_=>none,0⟩:St I) 0 (some (.row E xs false))) (done:=ows [⟨A,k,xs.length,ow⟩]) ht hM hX h2 a2 (λl hl=>by
  show cB _ 0 _ l=none;rw [fq (by omega)]) (λl p g ⟨o,ho⟩ hc hw=>by
  rcases dM ho with ⟨e,_⟩ | ⟨e,ho'⟩
  ·subst e;rw [iw] at hc;cases hc;simp only at hw;subst hw;simp [ows]
  ·cases ho') (by rw [<- jL]; exact hnd) (λg hg=>jw g (by rw [jL]; simp [hg])) (mo.set λ_ _ _ _ _ _ h=>by cases h)
 have hc0:=k1 _ _ (iw _ _ _);refine ⟨c',k2,?_,A,k,ow,rfl,hc0⟩;simp only [gK,aB,RV];exact ⟨v,vs',e1,⟨_,hc0,e4⟩,k3⟩
theorem xv' (ht : bT P tb) {r : Rio I} {fn : Func} {cd : Code} (nt : Nat) {rl : List ResultVar} (hf : P.funcs[r.f]? = some fn) (hb : fn.body = some cd) (hname : (fn.name == "runtime.NumGoroutine") = false)
 (hn:fn.ntmps=nt) (hres:fn.results.toList=rl) (hle:Mq' (r.ps.length+1) nt=true)
 (hspec:∀ (X:bZ) (c:Cx) (σ:S) (F:Fr) (Q:Exit->Act->World->Prop) (xs:List (I r.E)) (a:iZ I r.ps) (res:fO I (r.rs++bK r.ps)×List (I r.E)),X.P=P->Rel X c σ (rz tb nt (.row r.E false::r.ps) (xs,a)) nt F->vD r.ps (r.run xs) a=some res ->
   (∀ (e:Ex) (s':St I) (c':Cx) (τ:S) (F':Fr),jl' tb r.E r.ps r.rs rl e s'=some res->Cx.le c c'->Rel X c' τ s' nt F'->Stp X.M σ τ->Q (jM e) (fr nt F') τ.w)->cd.wp P Q (fr nt F) σ.w) (hlo:tb.lo=0:=by rfl):u6 P r:=by
 intro σ xs a vs au res ys hA hnd happ
 let X:bZ:=⟨P,σ.N,λb=>b∈ows au⟩
 have hlen:vs.length=r.ps.length+1:=hA.len;have ze:Rel X (λ_=>none) σ (⟨nt,λ_=>none,λ_=>none,0⟩:St I) nt (gZ vs) :=
  ⟨rfl,(λ_ _ h=>by cases h),(λ_ _ h=>by cases h),(λ_ _ _ _ _ ⟨_,h⟩=>by cases h),(λ_ _ _ ⟨_,h⟩=>by cases h),λ_ _=>rfl,⟨Lg' _,λE=>Lr' (ht.low E) (by rw [hlo]; exact Mb' _)⟩,mo.DR λ_ _ _ _ _ _ h=>by cases h⟩
 obtain ⟨c1,i2,i3,A0,k0,ow0,ER',ES'⟩:=sP' (tb:=tb) (X:=X) ht (λb hb=>hb) rfl hA ze hnd (λg hg=>.inr hg);have hrel:Rel X c1 σ (rz tb nt (.row r.E false::r.ps) (xs,a)) nt (gZ vs):=by
  refine ⟨rfl,λi p hp=>?_,i2.bB,i2.inj,i2.mine,i2.jh,i2.base,i2.aP⟩;obtain ⟨v,hv,hr⟩:=aB.at_ _ _ i3 i p hp;have:gZ vs i=v:=by simp [gZ,Ms',hv]
  rw [this]; exact hr
 refine .inl ⟨⟨fn,cd,hf,hb,hname⟩,calls_of_wp hf hb ?_⟩;have hle':=LG' hle;have e:(⟨vs.toArray++Nz' (fn.ntmps-vs.toArray.size) undef,[]⟩:Act)=fr nt (gZ vs):=by
  rw [hn];simp only [fr];congr 1;apply Array.ext
  ·simp; omega
  ·intro i h1 h2;simp only [MX',gZ,Nn'];split
   ·rename_i hi; simp at hi; simp [Ms',Lb' hi]
   ·rename_i hi; simp at hi; simp [Ms',LR' hi]
 rw [e];refine hspec X c1 σ (gZ vs) _ xs a (res,ys) rfl hrel happ λex s' c2 τ F' hfin hle2 hr st=>?_;have key:((pG tb s' rl).bind λa=>(jF s' 1 r.ps).bind λb=>(jC tb s'.O (r.rs++bK r.ps) (a++b)).bind λx=>(pV tb s'.O (.row r.E false) (.vw 0)).bind λy =>
  bif wh (x.2.1++rG 1 r.ps) (y.2.2++x.2.2)&&lS y.2.1&&Lm' a.length r.rs.length then some (x.1,y.1) else none)=some (res,ys) ->
  ∃ v,(results fn (fr nt F').tmps).run P τ.w=.ok v τ.w/\∃ v' τ',Ending.returned v=.returned v'/\τ'.w=τ.w/\Stp (λb=>b∈ows au) σ τ'/\∃ ws us ic,Post σ τ' (.row r.E false::r.ps) r.rs vs res (ows au) v' ws us ic /\
   ∃ A k ow,au.head?=some ⟨A,k,xs.length,ow⟩/\ys.length=xs.length/\fD ow false r.E τ' ys A k/\∀ g,ow=some g->g ∉ ows ic:=by
  intro hfin;obtain ⟨ra,hra,hfin⟩:=bind_some hfin;obtain ⟨rb,hrb,hfin⟩:=bind_some hfin;obtain ⟨y,hy,hfin⟩:=bind_some hfin;obtain ⟨yy,Zg,hfin⟩:=bind_some hfin;obtain ⟨hrows,hfin⟩:=bA hfin;cases hfin;simp only [Lc'] at hrows;obtain ⟨q1,q2w⟩:=Di hrows.1.1;have q2:∀ l,some l∈yy.2.2++y.2.2->l ∉ y.2.1:=λl hl hm=>q2w l hl (LN' _ hm);have hnil:=tH hrows.1.2;rw [List.filterMap_append,Ml'] at q1;have r1:=q1.2.1;have r2:∀ l,some l∈y.2.2->l ∉ y.2.1:=λl hl=>q2 l (by simp [hl])
  have hal:=Li' hrows.2;obtain ⟨τ',p1,p2,p3,p4,p5,p6⟩:=hr.pubs (O:=s'.O) (λ_ _ h=>h) y.2.1;obtain ⟨ws,w1,w2⟩:=C8 ht hr hra;have Zd:jF (aZ s' s'.O y.2.1) 0 (.row r.E false::r.ps)=some rb:=by
   show jF (aZ s' s'.O y.2.1) 1 r.ps=some rb;have:∀ {ps:List Pk} {nb:Nat} {qs:List (PV I)},jF s' nb ps=some qs->jF (aZ s' s'.O y.2.1) nb ps=some qs:=by
    intro ps
    induction ps with
    | nil=>intro nb qs h; exact h
    | cons p r ih =>
      intro nb qs h;cases p with
      | d k=>exact ih h
      | fn ks rs=>exact ih h
      | row E fl=>exact ih h
      | ji E=>exact ih h
      | val v=>exact ih h
      | lq ks=>exact ih h
      | var T v w =>
        cases w with
        | false=>exact ih h
        | true =>
          simp only [jF] at h ⊢;split at h
          ·rename_i T' ls ho;rw [ij' ho];replace h:=bA h;obtain ⟨hT,h⟩:=h;simp only [hT,cond_true];replace h:=bind_some h;obtain ⟨p,hp,h⟩:=h;replace h:=bind_some h;obtain ⟨ps',hps,h⟩:=h;rw [hp,KY',ih hps];exact h
          ·cases h
   exact this hrb
  have hvs:aB X c2 τ' (gK tb 0 (.row r.E false::r.ps) (xs,a)) vs:=aB.step (st.trans p2) _ _ (aB.grow hle2 _ _ i3);obtain ⟨us,u1,u2,u3⟩:=wH ht p3 (ps:=.row r.E false::r.ps) (a:=(xs,a)) Zd hvs;have MB:=aB.app _ _ _ _ (aB.step p2 _ _ w1) u1;obtain ⟨ic,t1,t2⟩:=F4 ht p4 p5 (ls:=y.2.1) (rows:=y.2.2) hy (λl hl=>hl) (λl hl=>r2 l hl) MB;have hlive:=Sv (ls:=y.2.1) (rows:=y.2.2) hy;have hl3:∀ l,some l∈y.2.2->bH (aZ s' s'.O y.2.1) l:=λl hl=>by obtain ⟨o,ho,_⟩:=hlive l hl;exact ⟨_,(p6 l (r2 l hl)).trans ho⟩
  have h00:RV X c2 τ' (.vw 0:PV I) (F0v vs):=by simp only [gK,aB] at hvs;obtain ⟨v0,vs0,e0,h0,_⟩:=hvs;rw [e0]; exact h0
  obtain ⟨DW,z1,z2⟩:=JS ht p4 p5 (ls:=yy.2.1) (rows:=yy.2.2) Zg (λl hl=>by rw [hnil] at hl; cases hl) (λl hl=>q2 l (by simp [hl])) h00
  have hc0:=hle2 _ _ ES';have hy0:yy.2.2=[some 0]:=UM Zg;rw [hy0] at z2;obtain ⟨pz,pzs,e5,e6,e7⟩:=z2;cases e7;obtain ⟨A1,k1,ow1,e8,e9,e10⟩:=z1;rw [e5] at e9;cases e9;have e6':c2 0=some ⟨A1,k1,List.length yy.1,ow1⟩:=e6;rw [hc0,LI'.injEq,Pl.mk.injEq] at e6';obtain ⟨rfl,rfl,EU',rfl⟩:=e6';refine ⟨jU ws,KR (by rw [hres]; exact w2),jU ws,τ',rfl,p1,(st.trans p2).mono λb hb hM=>?_,ws,us,ic,⟨rfl,?_,t1,u2,At.nodup p3 t2 r1 hl3,λg hg=>?_⟩,_,_,_,ER',EU'.symm,e10,λg hg hm=>?_⟩
  ·rcases hM with h | h
   ·have:σ.N<=b:=h;omega
   ·exact h
  ·rw [aB.len _ _ w1,hal]
  ·obtain ⟨l,p,a1,a2,a3⟩:=t2.mem g hg;refine ⟨p3.mine l p g (hl3 l a1) a2 a3,λhm=>?_⟩;obtain ⟨l',p',T,ls,w,ho',hc',hw',hn'⟩:=u3 g hm;have e:=p3.inj l l' p p' g (hl3 l a1) ⟨_,ho'⟩ a2 hc' a3 hw';subst e;exact q2w l (LT' _ a1) (LT' _ hn')
  ·obtain ⟨l,p,a1,a2,a3⟩:=t2.mem g hm;have hl0:bH (aZ s' s'.O y.2.1) 0:=by
    obtain ⟨E,xs,fl,ho⟩:=dy' (ls:=yy.2.1) (rows:=yy.2.2) Zg 0 (by rw [hy0]; simp)
    exact ⟨_,(p6 0 (q2 0 (by rw [hy0]; simp))).trans ho⟩
   have e:=p3.inj 0 l _ p g hl0 (hl3 l a1) hc0 a2 hg a3;subst e;rw [hy0] at q1;exact q1.2.2 0 (by simp) 0 (NN'.2 ⟨_,a1,rfl⟩) rfl
 cases ex with
 | exit i=>cases hfin
 | normal =>obtain ⟨v,h1,v',τ',h2,h3⟩:=key hfin;exact ⟨rfl,v,h1,v',τ',h2,h3⟩
 | ret =>obtain ⟨v,h1,v',τ',h2,h3⟩:=key hfin;exact ⟨rfl,v,h1,v',τ',h2,h3⟩
theorem Cv' (ht : bT P tb) {aH : fQ I} (hd : lY P aH) (hmx : P.follows .mixedOrders = true) {r : Rio I} {fn : Func} {cd : Code} (nt : Nat) {H : Hints I} {rl : List ResultVar} (hf : P.funcs[r.f]? = some fn) (hb : fn.body = some cd) (hname : (fn.name == "runtime.NumGoroutine") = false)
 (hn:fn.ntmps=nt) (hres:fn.results.toList=rl) (hle:Mq' (r.ps.length+1) nt=true) (hcode:kJ H cd 1=true) (hrun:r.run=λxs=>yT r.ps (gx' tb aH H cd nt r.E r.ps r.rs rl xs)) (hlo:tb.lo=0:=by rfl):u6 P r :=
 xv' ht nt hf hb hname hn hres hle (hlo:=hlo) λX c σ F Q xs a res hX hrel happ hk=>by rw [hrun,Rj] at happ;exact oG ht hd hmx cd 1 hcode _ _ _ res X c σ F Q hX happ hrel λe s' c' τ F' g1 g2 g3 g4 _=>hk e s' c' τ F' g1 g2 g3 g4
def FR (tb:aX I)(r:Rio I)(aH:fQ I)(ρ:Type)(O:aN I)(nb:Nat)(ps:List (PV I))(k:Ef I->Option ρ):Option ρ:=match ps with
 | .vw l::ps'=>(tX tb aH O (iO [] (dL (jX O (.row r.E false::r.ps) (.vw l::ps')) O)) nb (.row r.E false::r.ps) (.vw l::ps')).bind λa =>
   bif Fy (jX O (.row r.E false::r.ps) (.vw l::ps')) a.2 then (vD r.ps (r.run a.1.1) a.1.2).bind λres =>
    k ⟨mJ ((eF tb nb (r.rs++bK r.ps) res.1).take r.rs.length),(bQ O a.2.pub++jr a.2.all++kQ a.2.gv ((eF tb nb (r.rs++bK r.ps) res.1).drop r.rs.length))++[(l,some (.row r.E res.2 false))],fB (r.rs++bK r.ps) res.1⟩ else none
 | _=>none
def ai' (tb:aX I)(r:Rio I):oN I:=⟨r.f,FR tb r⟩
theorem Ba' (ht:bT P tb){r:Rio I}(hr:u6 P r):zf P (ai' tb r):=by
 refine ⟨λaH ρ O nb ps k=>?_,λaH hd O nb ps ef he=>?_⟩
 ·show FR tb r aH ρ O nb ps k=(FR tb r aH (Ef I) O nb ps some).bind k;unfold FR;split
  ·rename_i l0 ps';simp only [LX'];refine Yl λa=>?_;cases Fy (jX O (.row r.E false::r.ps) (.vw l0::ps')) a.2
   ·rfl
   ·simp only [cond_true,LX'];rfl
  ·rfl
 ·intro X c σ s n F vs hX hO h hvs hfree;have he':FR tb r aH (Ef I) O nb ps some=some ef:=he;unfold FR at he';split at he'
  rotate_left
  ·cases he'
  rename_i l0 ps';replace he':=bind_some he';obtain ⟨a,ha,he'⟩:=he';replace he':=bA he';obtain ⟨MF,he'⟩:=he';replace he':=bind_some he';obtain ⟨res,hres,he'⟩:=he';cases he';obtain ⟨a,acc⟩:=a;obtain ⟨res,ys⟩:=res;have EW':∃ rest,acc.all=some l0::rest:=by obtain ⟨x,hx,e⟩:=bind_some ha;obtain ⟨y,hy,e⟩:=bind_some e;cases e;exact ⟨y.2.all,by show x.2.2++y.2.all=_; rw [UM hx]; rfl⟩
  have iF:∃ E,∃ xs:List (I E),∃ fl,O l0=some (some (.row E xs fl)):=by obtain ⟨x,hx,e⟩:=bind_some ha;exact dy' (ls:=x.2.1) (rows:=x.2.2) hx l0 (by rw [UM hx]; simp)
  have hfree:jH (dD s.O (bQ O acc.pub++jr acc.all++kQ acc.gv ((eF tb nb (r.rs++bK r.ps) res).drop r.rs.length))) nb (fB (r.rs++bK r.ps) res)=true/\l0 ∉ gu nb (fB (r.rs++bK r.ps) res).length:=by
   have hf:jH (dD s.O ((bQ O acc.pub++jr acc.all++kQ acc.gv ((eF tb nb (r.rs++bK r.ps) res).drop r.rs.length))++[(l0,some (Ob.row r.E ys false))])) nb (fB (r.rs++bK r.ps) res)=true:=hfree;rw [oD] at hf;rw [o8] at hf ⊢;have hne:l0 ∉ gu nb (fB (r.rs++bK r.ps) res).length:=λhm=>by have:=hf l0 hm;simp [dD,iq] at this
   refine ⟨λl hl=>?_,hne⟩;have h1:=hf l hl;have e:l≠l0:=λe=>hne (by rw [<- e]; exact hl)
   simpa [dD,fq e] using h1
  obtain ⟨hfree,lA'⟩:=hfree;simp only [Fy,Lc'] at MF;obtain ⟨⟨q1,q2⟩,q3⟩:=MF;obtain ⟨r1,r2⟩:=Di q1;have hgr:∀ l,some l∈acc.all->l∈jX O (.row r.E false::r.ps) (.vw l0::ps'):=λl hl=>by have:=(Le'.1 q2) _ hl;exact kE.1 this
  have iG:∀ l∈acc.rv,l ∉ jX O (.row r.E false::r.ps) (.vw l0::ps'):=λl hl=>by have:=(Le'.1 q3) _ hl;exact oo.1 (by simpa using this)
  obtain ⟨τ1,p1,p2,p3,p4,p5,p6⟩:=h.pubs hO acc.pub;have zh:=aB.step p2 _ _ hvs;have vP:∀ {l:Nat},(∀ E (xs:List (I E)),O l≠some (some (.row E xs false)))->(aZ s O acc.pub).O l=s.O l:=λ{l} hn=>by
   show dD s.O (bQ O acc.pub) l=s.O l;apply pU;intro hm;have hp:∀ {ls:List Nat},l∈iK (bQ O ls)->∃ E,∃ xs:List (I E),O l=some (some (.row E xs false)):=by
    intro ls
    induction ls with
    | nil=>intro h; simp [bQ,iK] at h
    | cons a r ih =>
      intro h;simp only [bQ] at h;split at h
      ·rename_i E xs e;simp only [iK,LJ',Lq'] at h;rcases h with rfl | h
       ·exact ⟨E,xs,e⟩
       ·exact ih h
      ·exact ih h
   obtain ⟨E,xs,e⟩:=hp hm;exact hn E xs e
  have hOv:∀ l T ls w,O l=some (some (.var T ls w))->(aZ s O acc.pub).O l=some (some (.var T ls w)):=λl T ls w ho=>by rw [vP (λE xs e=>by rw [ho] at e; cases e)]; exact hO l _ ho
  have qa:∀ l o,iO [] (dL (jX O (.row r.E false::r.ps) (.vw l0::ps')) O) l=some (some o)->iO [] (dL (jX O (.row r.E false::r.ps) (.vw l0::ps')) (aZ s O acc.pub).O) l=some (some o):=by
   intro l o hl;unfold iO dL at hl ⊢;cases hm:cO l (jX O (.row r.E false::r.ps) (.vw l0::ps')) with
   | true =>
     rw [hm] at hl;cases hol:O l with
     | none=>rw [hol] at hl; simp [cO] at hl
     | some x=>rw [hol] at hl; simp [cO] at hl
   | false =>
     rw [hm] at hl;simp only [cond_false,cO] at hl ⊢;have hne:∀ E (xs:List (I E)),O l≠some (some (.row E xs false)):=λE xs e=>by rw [e] at hl; simp at hl
     rw [vP hne];cases hol:O l with
     | none=>rw [hol] at hl; simp at hl
     | some x =>
       cases x with
       | none=>rw [hol] at hl; simp at hl
       | some o'=>rw [hO l o' hol]; rw [hol] at hl; exact hl
  have hlv:∀ l,some l∈acc.all->(∃ o:Ob I,O l=some (some o)/\wY o=true)\/(∃ T ls,O l=some (some (.var T ls true)))->bH (aZ s O acc.pub) l:=λl hl hx=>by
   rcases hx with ⟨o,ho,_⟩ | ⟨T,ls,ho⟩
   ·exact ⟨_,(p6 l (r2 l hl)).trans (hO l _ ho)⟩
   ·exact ⟨_,hOv l _ _ _ ho⟩
  have core:∀ M:Nat->Prop,(∀ b,M b->τ1.N<=b\/∃ l∈jX O (.row r.E false::r.ps) (.vw l0::ps'),bH (aZ s O acc.pub) l/\∃ p,c l=some p/\p.w=some b)->_:=λM hM =>
   xq ht hd hX p3 (λl E xs fl e=>SB ⟨fl,e⟩ ⟨fl,hO l _ e⟩) (λl E xs e=>(vP (λE' xs' e'=>by rw [e] at e'; cases e')).trans (hO l _ e)) (λl T kd m=>⟨λe=>(vP (λE' xs' e'=>by rw [e] at e'; cases e')).trans (hO l _ e),λe=>(vP (λE' xs' e'=>by rw [e] at e'; cases e')).trans (hO l _ e)⟩) hOv p4 p5 qa hM (nb:=nb) ha zh (λ_ h=>h) r2 iG
  have gJ:∀ (au:List Pl),rX P (λb=>τ1.N<=b\/b∈ows au) τ1 (.row r.E false::r.ps) a vs au->At c acc.all au->uY c O acc.gv (gG (.row r.E false::r.ps) vs)->(∀ l,some l∈acc.all->(∃ o:Ob I,O l=some (some o)/\wY o=true)\/∃ T v,(l,T,v)∈acc.gv) ->
   (∀ x∈acc.gv,some x.1∈acc.all)->acc.gv.map (λx=>x.2)=rq (.row r.E false::r.ps)->kX P r.f vs σ (Stp X.M σ) λv τ=>∃ c',Cx.le c c'/\Rel X c' τ (jQ s nb ⟨mJ ((eF tb nb (r.rs++bK r.ps) res).take r.rs.length),bQ O acc.pub++jr acc.all++kQ acc.gv ((eF tb nb (r.rs++bK r.ps) res).drop r.rs.length)++[(l0,some (.row r.E ys false))],fB (r.rs++bK r.ps) res⟩) n F /\
     RV X c' τ (mJ ((eF tb nb (r.rs++bK r.ps) res).take r.rs.length)) v:=by
   intro au k1 k2 k3 k4 k5 k6;have hgv:∀ x∈acc.gv,∃ ls,O x.1=some (some (.var x.2.1 ls true)):=by
    have:∀ {gv:List (Nat×TypeId×V)} {bs:List Nat},uY c O gv bs->∀ x∈gv,∃ ls,O x.1=some (some (.var x.2.1 ls true)):=by
     intro gv
     induction gv with
     | nil=>intro bs _ x hx; cases hx
     | cons y r ih =>
       intro bs ⟨b,bs',ls,_,e2,_,e4⟩ x hx;rcases Lq'.1 hx with rfl | hx
       ·exact ⟨ls,e2⟩
       ·exact ih e4 x hx
    exact this k3
   have hlive:∀ l,some l∈acc.all->bH (aZ s O acc.pub) l:=λl hl=>hlv l hl ((k4 l hl).imp id λ⟨T,v,hm⟩=>by obtain ⟨ls,e⟩:=hgv _ hm;exact ⟨T,ls,e⟩)
   have hnd:(ows au).Nodup:=At.nodup p3 k2 r1 hlive;have hown:∀ g∈ows au,∃ l p,some l∈acc.all/\c l=some p/\p.w=some g:=k2.mem;have Bd:∀ g∈ows au,X.M g:=λg hg=>by obtain ⟨l,p,a1,a2,a3⟩:=hown g hg;exact p3.mine l p g (hlive l a1) a2 a3
   refine kX.mono (hr τ1 a.1 a.2 vs au res ys k1 hnd hres) p1.symm λv τ hst ⟨ws,us,ic,hpost,A0,kk0,ow0,z1,z2,z3,z4⟩=>⟨τ,rfl,p2.trans (hst.mono λb _ hb=>Bd b hb),?_⟩
   let kl:=acc.all.filterMap id
   have hkl:∀ l,l∈kl↔some l∈acc.all:=λl=>by simp [kl,NN']
   let s2:St I:=⟨s.n,s.F,dL kl (aZ s O acc.pub).O,s.nx⟩
   have h2:Rel X c τ1 s2 n F:=p3.less (λl o ho=>(iW ho).2) (λl ho=>wo.1 ho);have hn2:∀ l p g,bH s2 l->c l=some p->p.w=some g->¬ g∈ows au:=λl p g ⟨o,ho⟩ hc hw hg=>by obtain ⟨m1,m2⟩:=iW ho;obtain ⟨l',p',a1,a2,a3⟩:=hown g hg;exact m1 ((hkl l).2 (by rw [p3.inj l l' p p' g ⟨o,m2⟩ (hlive l' a1) hc a2 hw a3]; exact a1))
   have hi2:∀ g,g∈ows au->eD c τ1 s2 g:=λg hg=>by obtain ⟨l',p',a1,a2,a3⟩:=hown g hg;exact (p3.owned (hlive l' a1) a2 a3).sub λl E E' u xs q e=>(iW e).2
   have h3:Rel X c τ s2 n F:=h2.stepG hst Bd hn2 hi2;have MG:dD s.O (bQ O acc.pub++jr acc.all)=dL kl (aZ s O acc.pub).O:=by rw [oD];funext l;exact Ja λl hl=>by obtain ⟨o,ho⟩:=hlive l hl; intro e; have:=ho; rw [show (aZ s O acc.pub).O l=dD s.O (bQ O acc.pub) l from rfl,e] at this; cases this
   have zi:∀ x∈acc.gv,∃ ls,(aZ s O acc.pub).O x.1=some (some (.var x.2.1 ls true)):=λx hx=>by obtain ⟨ls,e⟩:=hgv x hx;exact ⟨ls,hOv _ _ _ _ e⟩
   have DU:∀ l∈gu nb (fB (r.rs++bK r.ps) res).length,dL kl (aZ s O acc.pub).O l=none/\l ∉ acc.gv.map (·.1):=by
    rw [o8] at hfree;intro l hl;have h0:=hfree l hl;rw [oD,MG] at h0;by_cases hk:l∈iK (kQ acc.gv ((eF tb nb (r.rs++bK r.ps) res).drop r.rs.length))
    ·exact absurd h0 (BG (O':=s.O) hk).2
    ·rw [pU hk] at h0;refine ⟨h0,λhm=>?_⟩;simp only [Lx'] at hm;obtain ⟨x,hx,e⟩:=hm;have:=(hkl x.1).2 (k5 x hx);rw [e] at this;have hl2:=hlive l ((hkl l).1 this);obtain ⟨o,ho⟩:=hl2;have:=wo.1 h0;rw [ho] at this; cases this
   have xH:TT τ (r.rs++bK r.ps) res (ws++us) ic:=hpost.tt;have gq:=yh xH;obtain ⟨h4,h5⟩:=Rel.addN (nb:=nb) h3 (o8.2 λl hl=>(DU l hl).1) gq hpost.nodup λg hg=>by
    have ho:=hpost.own g hg;refine ⟨ho.1.elim (λh=>.inl (Lr' p3.base.1 h)) (Bd g),(ho.1.elim (λh=>h2.fresh h) (hi2 g)).step h2 hst hn2 hi2,λl p ⟨o,ho'⟩ hc hw=>?_⟩;obtain ⟨m1,m2⟩:=iW ho';rcases ho.1 with hge | hin
    ·have:=(p3.bB l o m2).lt hc hw;have:τ1.w.heap.size<=g:=hge;omega
    ·obtain ⟨l',p',a1,a2,a3⟩:=hown g hin;exact m1 ((hkl l).2 (by rw [p3.inj l l' p p' g ⟨o,m2⟩ (hlive l' a1) hc a2 hw a3]; exact a1))
   obtain ⟨hps,hlen⟩:=GI (X:=X) (c:=fI c nb ic) (nb:=nb) ht hpost.tt pq;have htk:=aB.take r.rs.length _ _ hps;have hdr:=aB.drop r.rs.length _ _ hps;rw [List.take_left' hpost.len] at htk;rw [List.drop_left' hpost.len] at hdr;have hold:∀ l,(aZ s O acc.pub).O l≠none->fI c nb ic l=c l:=λl hl=>by
    have key:∀ {ps:List Pl} {c:Cx} {nb:Nat},(l<nb\/nb+ps.length<=l)->fI c nb ps l=c l:=by
     intro ps
     induction ps with
     | nil=>intro c nb _; rfl
     | cons p ps ih =>
       intro c nb h;simp only [fI];rw [ih (by simp only [Ld'] at h; omega)]
       have:l≠nb:=by simp only [Ld'] at h; omega
       simp [fP,this]
    apply key;apply Classical.byContradiction;intro hn;rw [not_or] at hn;exact hl (wo.1 (DU l (lH.2 ⟨by omega,by rw [gq.1]; omega⟩)).1)
   have Zf:∀ {gv:List (Nat×TypeId×V)} {bs:List Nat},uY c O gv bs->∀ x∈gv,∀ p g,c x.1=some p->p.w=some g->g∈bs:=by
    intro gv
    induction gv with
    | nil=>intro bs _ x hx; cases hx
    | cons y r ih =>
      intro bs ⟨b,bs',ls,e1,e2,e3,e4⟩ x hx p g hc hw;subst e1;rcases Lq'.1 hx with rfl | hx
      ·rw [e3] at hc; cases hc; cases hw; simp
      ·simp [ih e4 x hx p g hc hw]
   have YW:acc.gv.map (λx=>x.2)=rq r.ps:=k6;have hat:∀ (i:Nat) (y:Nat×V) (p:PV I),(acc.gv.map λx=>(x.1,x.2.2))[i]?=some y->((eF tb nb (r.rs++bK r.ps) res).drop r.rs.length)[i]?=some p->∃ nb' z,p=nM tb nb' y.2 z:=λi y p hi hp=>by
    refine SA (tb:=tb) (vs:=r.rs++bK r.ps) (nb:=nb) (x:=res) (i:=r.rs.length+i) (v:=y.2) ?_ (by rw [Mh'] at hp; exact hp)
    rw [Ls' (by simp),Mt',<- xw,<- YW]
    rw [Na'] at hi;simp only [List.map_map,Na'];cases hgi:acc.gv[i]? with
    | none=>rw [hgi] at hi; cases hi
    | some z=>rw [hgi] at hi; cases hi; rfl
   have h6:=Rel.iH (au:=ic) ht p3 h5 (wF hpost.out k3 k6 zi) hdr (λi y p hi hp hag=>by
    obtain ⟨nb',z,e⟩:=hat i y p hi hp;rw [e]; exact SH hag)
    (λi y p hi hp hag=>by obtain ⟨nb',z,e⟩:=hat i y p hi hp;rw [e]; exact Rl hag)
    (λl hl=>hold l (by simp only [Lx'] at hl;obtain ⟨x,hx,rfl⟩:=hl;obtain ⟨ls,e⟩:=zi x hx;rw [e]; simp))
    (λl hl p g hc hw=>by simp only [Lx'] at hl;obtain ⟨x,hx,rfl⟩:=hl;exact p3.mine x.1 p g (hlive _ (k5 x hx)) hc hw)
    (λl ⟨o,ho⟩=>by
      by_cases hm:l∈gu nb (fB (r.rs++bK r.ps) res).length
      ·right;obtain ⟨a1,a2⟩:=lH.1 hm;have hlt:l-nb<ic.length:=by rw [<- gq.1]; omega
       refine ⟨ic[l-nb],Lu' _,?_⟩;have:=pq (c:=c) (nb:=nb) (l-nb) ic[l-nb] (Lb' hlt);rw [show nb+(l-nb)=l from by omega] at this
       exact this
      ·left;have ho':fo (dL kl (aZ s O acc.pub).O) nb (fB (r.rs++bK r.ps) res) l=some (some o):=ho;rw [kY hm] at ho';obtain ⟨_,m2⟩:=iW ho';exact ⟨⟨o,m2⟩,hold l (by rw [m2]; simp)⟩)
    (λl hl p hc g hw hm=>by simp only [Lx'] at hl;obtain ⟨x,hx,rfl⟩:=hl;exact (hpost.own g hm).2 (Zf k3 x hx p g hc hw))
    (λl hl p hc g hw=>by simp only [Lx'] at hl;obtain ⟨x,hx,rfl⟩:=hl;obtain ⟨ls,e⟩:=zi x hx;exact (((p3.owned ⟨_,e⟩ hc hw).sub (s':=s2) λl E E' u xs q e=>(iW e).2).step h2 hst hn2 hi2).grow h3 h4 (vY gq.not))
   refine ⟨_,h4,?_,by rw [hpost.ret]; exact FC htk⟩
   have hO2:fo (dD s.O (bQ O acc.pub++jr acc.all++kQ acc.gv ((eF tb nb (r.rs++bK r.ps) res).drop r.rs.length))) nb (fB (r.rs++bK r.ps) res) =
    iH (aZ s O acc.pub).O (acc.gv.map λx=>(x.1,x.2.2)) (acc.gv.map (·.1)) ((eF tb nb (r.rs++bK r.ps) res).drop r.rs.length) (fo (dL kl (aZ s O acc.pub).O) nb (fB (r.rs++bK r.ps) res)):=by
    rw [oD,MG];exact Rn λx hx=>⟨zi x hx,λhm=>(DU x.1 hm).2 (Lx'.2 ⟨x,hx,rfl⟩)⟩
   have e:jQ s nb ⟨mJ ((eF tb nb (r.rs++bK r.ps) res).take r.rs.length),bQ O acc.pub++jr acc.all++kQ acc.gv ((eF tb nb (r.rs++bK r.ps) res).drop r.rs.length)++[(l0,some (.row r.E ys false))],fB (r.rs++bK r.ps) res⟩ =
    bG ⟨s.n,s.F,iH (aZ s O acc.pub).O (acc.gv.map λx=>(x.1,x.2.2)) (acc.gv.map (·.1)) ((eF tb nb (r.rs++bK r.ps) res).drop r.rs.length) (fo (dL kl (aZ s O acc.pub).O) nb (fB (r.rs++bK r.ps) res)),s.nx⟩ l0 (some (.row r.E ys false)):=by
    have e1:dD s.O (bQ O acc.pub++jr acc.all++kQ acc.gv ((eF tb nb (r.rs++bK r.ps) res).drop r.rs.length)++[(l0,some (.row r.E ys false))])=cB (dD s.O (bQ O acc.pub++jr acc.all++kQ acc.gv ((eF tb nb (r.rs++bK r.ps) res).drop r.rs.length))) l0 (some (.row r.E ys false)):=by rw [oD]; rfl
    simp only [jQ,e1,gX' lA',hO2,bG]
   rw [e];obtain ⟨qG,hall⟩:=EW';have hm0:some l0∈acc.all:=by rw [hall]; simp
   obtain ⟨pl0,DW,e0,hc0,_⟩:=(by rw [hall] at k2; exact k2:At c (some l0::qG) au)
   have hc0:c l0=some pl0:=hc0;rw [e0] at z1;cases z1;have EZ':l0 ∉ acc.gv.map (·.1):=λhm=>by simp only [Lx'] at hm;obtain ⟨x,hx,e⟩:=hm;obtain ⟨ls,e2⟩:=hgv x hx;obtain ⟨E,xs,fl,e3⟩:=iF;rw [<- e,e2] at e3; cases e3
   obtain ⟨o0,Zh⟩:=hlive l0 hm0;have Mw:iH (aZ s O acc.pub).O (acc.gv.map λx=>(x.1,x.2.2)) (acc.gv.map (·.1)) ((eF tb nb (r.rs++bK r.ps) res).drop r.rs.length) (fo (dL kl (aZ s O acc.pub).O) nb (fB (r.rs++bK r.ps) res)) l0=some none:=by rw [KZ EZ',kY lA'];unfold dL;rw [kE.2 ((hkl l0).2 hm0),Zh];rfl
   have hc0':=(hold l0 (by rw [Zh]; simp)).trans hc0
   refine h6.Io ⟨A0,kk0,ow0,by rw [z2]; exact hc0',z3⟩ λp2 g hp2 hg=>?_
   rw [hc0'] at hp2;cases hp2;refine ⟨Bd g (by rw [e0]; simp only at hg; subst hg; simp [ows]),?_,λl' p' _ ⟨o',ho'⟩ hc' hw'=>?_⟩
   ·have hn:=(((hi2 g (by rw [e0]; simp only at hg; subst hg; simp [ows])).step h2 hst hn2 hi2).grow h3 h4 (vY gq.not):eD (fI c nb ic) τ (addN s2 nb (fB (r.rs++bK r.ps) res)) g)
    exact hn.sub λl E E' u xs q e=>PN (by simpa using e)
   have ho':iH (aZ s O acc.pub).O (acc.gv.map λx=>(x.1,x.2.2)) (acc.gv.map (·.1)) ((eF tb nb (r.rs++bK r.ps) res).drop r.rs.length) (fo (dL kl (aZ s O acc.pub).O) nb (fB (r.rs++bK r.ps) res)) l'=some (some o'):=ho'
   by_cases hm:l'∈gu nb (fB (r.rs++bK r.ps) res).length
   ·obtain ⟨a1,a2⟩:=lH.1 hm;have hlt:l'-nb<ic.length:=by rw [<- gq.1]; omega
    have hn:=pq (c:=c) (nb:=nb) (l'-nb) ic[l'-nb] (Lb' hlt);rw [show nb+(l'-nb)=l' from by omega,hc'] at hn
    cases hn;exact z4 g hg (FM.2 ⟨_,Lu' _,hw'⟩)
   ·have lB':bH (aZ s O acc.pub) l':=by
     by_cases hv:l'∈acc.gv.map (·.1)
     ·simp only [Lx'] at hv;obtain ⟨x,hx,e⟩:=hv;rw [<- e];exact hlive _ (k5 x hx)
     ·rw [KZ hv,kY hm] at ho';exact ⟨_,(iW ho').2⟩
    have hcc:c l'=some p':=by obtain ⟨o2,ho2⟩:=lB';rw [<- hold l' (by rw [ho2]; simp)]; exact hc'
    have el:=p3.inj l' l0 p' _ g lB' ⟨_,Zh⟩ hcc hc0 hw' hg;rw [el,Mw] at ho';cases ho'
  obtain ⟨DW,k1,k2,k3,k4,k5,k6⟩:=core (λ_=>False) (λ_ h=>h.elim);obtain ⟨au,k1',k2',_⟩:=core (λb=>τ1.N<=b\/b∈ows DW) (λb hb=>hb.imp id λhb=>by
   obtain ⟨l,p,a1,a2,a3⟩:=k2.mem b hb;refine ⟨l,hgr l a1,hlv l a1 ((k4 l a1).imp id λ⟨T,v,hm⟩=>?_),p,a2,a3⟩;have:∀ {gv:List (Nat×TypeId×V)} {bs:List Nat},uY c O gv bs->∀ x∈gv,∃ ls,O x.1=some (some (.var x.2.1 ls true)):=by
    intro gv
    induction gv with
    | nil=>intro bs _ x hx; cases hx
    | cons y r ih =>
      intro bs ⟨b,bs',ls,_,e2,_,e4⟩ x hx;rcases Lq'.1 hx with rfl | hx
      ·exact ⟨ls,e2⟩
      ·exact ih e4 x hx
   obtain ⟨ls,e⟩:=this k3 _ hm;exact ⟨T,ls,e⟩)
  have hsame:ows au=ows DW:=by
   have:∀ {rows:List (Option Nat)} {p q:List Pl},At c rows p->At c rows q->ows p=ows q:=by
    intro rows
    induction rows with
    | nil=>intro p q h1 h2; cases h1; cases h2; rfl
    | cons x r ih =>
      intro p q ⟨a,KX',e1,g1,h1⟩ ⟨b,bs,e2,g2,h2⟩;subst e1;subst e2;have hr:=ih h1 h2;simp only [ows,Me'] at hr ⊢;have:a.w=b.w:=by
       cases x with
       | none=>simp only at g1 g2; rw [g1,g2]
       | some l=>simp only at g1 g2; rw [g1] at g2; cases g2; rfl
      rw [this,hr]
   exact this k2' k2
  rw [<- hsame] at k1';exact gJ au k1' k2' k3 k4 k5 k6
end
@[reducible] def ph':Rp Unit where
 sz:=1
 pos:=by decide
 agg:=false
 cells:=λ_ _ _=>False
 len:=λh=>h.elim
 one:=λh=>h.elim
 mono:=λ_ h=>h
@[reducible] def bS (k:IntKind):Rp Int:=Eh' k
@[reducible] def eY {α β:Type} (a:Rp α) (b:Rp β):Rp (α×β) where
 sz:=a.sz+b.sz
 pos:=MB' a.pos (Nat.le_add_right _ _)
 agg:=true
 cells:=λσ x cs=>∃ c1 c2,cs=c1++c2/\a.cells σ x.1 c1/\b.cells σ x.2 c2
 len:=λ⟨_,_,e,h1,h2⟩=>by rw [e,Lf',a.len h1,b.len h2]
 one:=λ⟨_,_,e,h1,h2⟩ v hv=>by rw [e,Lo'] at hv;exact hv.elim (a.one h1 v) (b.one h2 v)
 mono:=λk ⟨c1,c2,e,h1,h2⟩=>⟨c1,c2,e,a.mono k h1,b.mono k h2⟩
@[reducible] def nT {γ α:Type} (to:γ->α) (a:Rp α):Rp γ where
 sz:=a.sz
 pos:=a.pos
 agg:=true
 cells:=λσ x cs=>a.cells σ (to x) cs
 len:=λh=>a.len h
 one:=λh=>a.one h
 mono:=λk h=>a.mono k h
structure TE where
 E:TypeId
 α:Type
 rp:Rp α
def ER:List TE->TypeId->TE
 | [],_=>⟨0,Unit,ph'⟩
 | e::r,E=>bif Lm' e.E E then e else ER r E
theorem lC' {n:Nat}:∀ {l:List TE},(l.all λe=>Mq' e.rp.lo n)=true->∀ E,(ER l E).rp.lo<=n
 | [],_,_=>Mb' _
 | e::r,h,E=>by
   rw [LE',Lc'] at h;have k:∀ t:TE,t=e\/t=ER r E->t.rp.lo<=n:=λt ht=>by
    rcases ht with rfl | rfl
    ·exact LG' h.1
    ·exact lC' h.2 E
   refine k _ ?_;simp only [ER];cases Lm' e.E E with
   | true=>exact .inl rfl
   | false=>exact .inr rfl
section
variable {I:TypeId->Type} [∀ E,Rp (I E)]
structure Fd (I:TypeId->Type) [∀ E,Rp (I E)] (α:Type)(rp:Rp α) where
 lf:α->List (PV I)
 pa:(ρ:Type)->List (PV I)->(α->List (PV I)->Option ρ)->Option ρ
 vQ:∀ (X:bZ) (c:Cx) (σ:S) (x:α) (cs:List Value),rp.cells σ x cs->RG X c σ (lf x) cs
 uy:∀ (ρ:Type) (ls:List (PV I)) (f:α->List (PV I)->Option ρ) (r:ρ),pa ρ ls f=some r->∃ x rest,f x rest=some r /\
  ∀ (X:bZ) (c:Cx) (σ:S) (cs:List Value),RG X c σ ls cs->∃ c1 c2,cs=c1++c2/\rp.cells σ x c1/\RG X c σ rest c2
theorem RG.MH {X:bZ}{c:Cx}{σ:S}{p:PV I}{r:List (PV I)}{cs:List Value}(h:RG X c σ (p::r) cs)(hp:qD p=false):∃ v c2,cs=[v]++c2/\RV X c σ p v/\RG X c σ r c2:=by
 simp only [RG] at h;obtain ⟨a,c2,e,h1 | ⟨_,v,e1,h1⟩,h2⟩:=h
 ·exact (by cases p<;>first | exact h1.elim | cases hp)
 ·exact ⟨v,c2,by rw [e,e1],h1,h2⟩
theorem RG.aY {X:bZ}{c:Cx}{σ:S}{p:PV I}{ps:List (PV I)}{v:Value}{cs:List Value}(h0:qD p=false)(h:RV X c σ p v)(k:RG X c σ ps cs):RG X c σ (p::ps) (v::cs):=by simp only [RG];exact ⟨[v],cs,rfl,.inr ⟨h0,v,rfl,h⟩,k⟩
theorem RG.nl {X:bZ}{c:Cx}{σ:S}:RG X c σ ([]:List (PV I)) []:=by simp only [RG]
theorem iP {X:bZ}{c:Cx}{σ:S}{k:IntKind}{n:Int}:RV X c σ (.int k n:PV I) (.int k n):=by simp only [RV]
theorem yR {X:bZ}{c:Cx}{σ:S}{b:Bool}:RV X c σ (.bool b:PV I) (.bool b):=by simp only [RV]
theorem Ac {X:bZ}{c:Cx}{σ:S}{b:ByteArray}:RV X c σ (.str b:PV I) (.string b):=by simp only [RV]
theorem dI {X:bZ}{c:Cx}{σ:S}{E:TypeId}:RV X c σ (.nl E:PV I) (.slice none 0 0):=by simp only [RV]; exact ⟨none,rfl⟩
theorem Fz {X:bZ}{c:Cx}{σ:S}{v:Value}:RV X c σ (.any:PV I) v:=by simp only [RV]
def lT (k:IntKind):Fd I Int (bS k) where
 lf:=λn=>[.int k n]
 pa:=λ_ ls f=>match ls with
  | .int k' n::r=>if k'=k then f n r else none
  | _=>none
 vQ:=λX c σ x cs h=>by have e:cs=[.int k x]:=h;rw [e];exact RG.single rfl (by simp only [RV])
 uy:=λρ ls f r h=>by
  split at h
  ·rename_i k' n rest;obtain ⟨e,h2⟩:=mX h;clear h;subst e;refine ⟨n,rest,h2,λX c σ cs hl=>?_⟩;obtain ⟨v,c2,e,h1,h2⟩:=hl.MH rfl;simp only [RV] at h1;subst h1;exact ⟨_,c2,e,rfl,h2⟩
  ·cases h
def CQ:Fd I Bool qL where
 lf:=λn=>[.bool n]
 pa:=λ_ ls f=>match ls with
  | .bool n::r=>f n r
  | _=>none
 vQ:=λX c σ x cs h=>by have e:cs=[.bool x]:=h;rw [e];exact RG.single rfl (by simp only [RV])
 uy:=λρ ls f r h=>by
  split at h
  ·rename_i n rest;refine ⟨n,rest,h,λX c σ cs hl=>?_⟩;obtain ⟨v,c2,e,h1,h2⟩:=hl.MH rfl;simp only [RV] at h1;subst h1;exact ⟨_,c2,e,rfl,h2⟩
  ·cases h
def Qi:Fd I ByteArray nU where
 lf:=λn=>[.str n]
 pa:=λ_ ls f=>match ls with
  | .str n::r=>f n r
  | _=>none
 vQ:=λX c σ x cs h=>by have e:cs=[.string x]:=h;rw [e];exact RG.single rfl (by simp only [RV])
 uy:=λρ ls f r h=>by
  split at h
  ·rename_i n rest;refine ⟨n,rest,h,λX c σ cs hl=>?_⟩;obtain ⟨v,c2,e,h1,h2⟩:=hl.MH rfl;simp only [RV] at h1;subst h1;exact ⟨_,c2,e,rfl,h2⟩
  ·cases h
def fT (E:TypeId):Fd I (List (I E)) bY where
 lf:=λxs=>[.sl E xs false]
 pa:=λ_ ls f=>match ls with
  | .sl E' xs _::r=>(jS E E' xs).bind λys=>f ys r
  | .nl E'::r=>bif Lm' E' E then f [] r else none
  | _=>none
 vQ:=λX c σ xs cs h=>by obtain ⟨A,k,e,hs⟩:∃ A k,cs=[.slice A (xs:List (I E)).length k]/\Sl σ xs A k:=h;rw [e];refine RG.single rfl ?_;simp only [RV];exact ⟨A,k,rfl,hs,λe=>by cases e⟩
 uy:=λρ ls f r h=>by
  split at h
  ·rename_i E' xs fl rest;obtain ⟨ys,hy,h⟩:=bind_some h;obtain ⟨e,rfl⟩:=lM hy;subst e;refine ⟨xs,rest,h,λX c σ cs hl=>?_⟩;obtain ⟨v,c2,e,h1,h2⟩:=hl.MH rfl;simp only [RV] at h1;obtain ⟨A,k,e1,hs,_⟩:=h1;exact ⟨[v],c2,e,⟨A,k,by rw [e1],hs⟩,h2⟩
  ·rename_i E' rest;obtain ⟨_,h⟩:=bA h;refine ⟨[],rest,h,λX c σ cs hl=>?_⟩;obtain ⟨v,c2,e,h1,h2⟩:=hl.MH rfl;simp only [RV] at h1;obtain ⟨A,e1⟩:=h1;exact ⟨[v],c2,e,⟨A,0,by rw [e1]; rfl,Sl.AV _ _ _ (Mb' _)⟩,h2⟩
  ·cases h
def zQ (E:TypeId)(fd:Fd I (I E) inferInstance):Fd I (I E) inferInstance where
 lf:=λx=>[.dat E x]
 pa:=λρ ls f=>match ls with
  | .dat E' x::r=>(uI E E' x).bind λy=>f y r
  | ls=>fd.pa ρ ls f
 vQ:=λX c σ x cs h=>RG.one h
 uy:=λρ ls f r h=>by
  split at h
  ·rename_i E' x rest;obtain ⟨y,hy,h⟩:=bind_some h;obtain ⟨e,rfl⟩:=Kt hy;subst e;refine ⟨x,rest,h,λX c σ cs hl=>?_⟩;simp only [RG] at hl;obtain ⟨a,c2,e,h1 | ⟨h1,_⟩,h2⟩:=hl
   ·exact ⟨a,c2,e,h1,h2⟩
   ·cases h1
  ·exact fd.uy ρ _ f r h
def fF {α β:Type}{ra:Rp α}{rb:Rp β}(a:Fd I α ra)(b:Fd I β rb):Fd I (α×β) (eY ra rb) where
 lf:=λx=>a.lf x.1++b.lf x.2
 pa:=λρ ls f=>a.pa ρ ls λx r=>b.pa ρ r λy r=>f (x,y) r
 vQ:=λX c σ x cs ⟨c1,c2,e,h1,h2⟩=>by rw [e];exact RG.app _ _ _ _ (a.vQ X c σ _ _ h1) (b.vQ X c σ _ _ h2)
 uy:=λρ ls f r h=>by obtain ⟨x,r1,h,k1⟩:=a.uy ρ _ _ r h;obtain ⟨y,r2,h,k2⟩:=b.uy ρ _ _ r h;refine ⟨(x,y),r2,h,λX c σ cs hl=>?_⟩;obtain ⟨c1,c2,e,h1,h2⟩:=k1 X c σ cs hl;obtain ⟨c3,c4,e2,h3,h4⟩:=k2 X c σ c2 h2;exact ⟨c1++c3,c4,by rw [e,e2,Lt'],⟨c1,c3,rfl,h1,h3⟩,h4⟩
def lK {γ α:Type}{rg:Rp γ}{ra:Rp α}(a:Fd I α ra)(to:γ->α)(of:α->γ)(h:∀ x,to (of x)=x)(hc:∀ σ x cs,rg.cells σ x cs↔ra.cells σ (to x) cs):Fd I γ rg where
 lf:=λx=>a.lf (to x)
 pa:=λρ ls f=>a.pa ρ ls λx r=>f (of x) r
 vQ:=λX c σ x cs hx=>a.vQ X c σ _ _ ((hc σ x cs).1 hx)
 uy:=λρ ls f r hr=>by obtain ⟨x,r1,hr,k1⟩:=a.uy ρ _ _ r hr;refine ⟨of x,r1,hr,λX c σ cs hl=>?_⟩;obtain ⟨c1,c2,e,h1,h2⟩:=k1 X c σ cs hl;exact ⟨c1,c2,e,(hc σ _ _).2 (by rw [h]; exact h1),h2⟩
structure FE (I:TypeId->Type) [∀ E,Rp (I E)] where
 E:TypeId
 fd:Fd I (I E) inferInstance
def VO:List (FE I)->TypeId->Option (FE I)
 | [],_=>none
 | e::r,E=>bif Lm' e.E E then some e else VO r E
def QJ (l:List (FE I))(E:TypeId)(x:I E):List (PV I):=match VO l E with
 | some e=>if h:E=e.E then e.fd.lf (h▸x) else [.dat E x]
 | none=>[.dat E x]
def CG (l:List (FE I))(E:TypeId)(ls:List (PV I)):Option (I E):=match VO l E with
 | some e=>if h:e.E=E then e.fd.pa (I E) ls λx r=>match r with
   | []=>some (h▸x)
   | _=>none else none
 | none=>none
def lN {α:Type}(p:α->Prop):List α->Prop
 | []=>True
 | x::r=>p x/\lN p r
omit [∀ E,Rp (I E)] in
theorem lN.mem {α:Type}{p:α->Prop}:∀ {l:List α},lN p l->∀ x∈l,p x
 | [],_,_,h=>by cases h
 | _::_,h,x,hx=>by
   rcases Lq'.1 hx with rfl | hx
   ·exact h.1
   ·exact lN.mem h.2 x hx
def bC {α:Type}:List (Nat×α)->Nat->Option α
 | [],_=>none
 | x::r,k=>bif Lm' x.1 k then some x.2 else bC r k
omit [∀ E,Rp (I E)] in
theorem lD {α:Type}:∀ {l:List (Nat×α)} {k:Nat} {a:α},bC l k=some a->(k,a)∈l
 | [],_,_,h=>by cases h
 | x::r,k,a,h=>by
   simp only [bC] at h;cases hk:Lm' x.1 k with
   | true =>rw [hk] at h;cases h;have:=Li' hk;subst this;simp
   | false =>rw [hk] at h;exact List.mem_cons_of_mem _ (lD h)
structure U8 (I:TypeId->Type) where
 E:TypeId
 g:Int->I E
def Sj:List (U8 I)->(E:TypeId)->Option (Int->I E)
 | [],_=>none
 | e::r,E=>if h:e.E=E then some λk=>h▸e.g k else Sj r E
structure Tp (I:TypeId->Type) [∀ E,Rp (I E)] where
 sz:List (TypeId×Nat)
 one:List (TypeId×Unit)
 gF:List (TypeId×List (Nat×TypeId))
 el:List (TypeId×TypeId)
 str:List (TypeId×Unit)
 bool:List (TypeId×Unit)
 ik:List (TypeId×IntKind)
 fe:List (FE I)
 inf:List (TypeId×Nat×Nat×List (PV I))
 st:List (TypeId×List (Nat×Nat))
 eq:List (TypeId×(List (PV I)->List (PV I)->Option Bool))
 arr:List (TypeId×(TypeId×Nat×Nat))
 fb:List (FuncId×Unit)
 nest:List (TypeId×(TypeId×Nat)):=[]
 mp:List (TypeId×Kd):=[]
 u8:List (TypeId×Unit):=[]
 vL:List (U8 I):=[]
 lo:Nat:=0
def gH' (L:Tp I):aX I where
 sz:=bC L.sz
 one:=λT=>(bC L.one T).isSome
 off:=λT f=>(bC L.gF T).bind λl=>Option.bind l[f]? λx=>some x.1
 fty:=λT f=>(bC L.gF T).bind λl=>Option.bind l[f]? λx=>some x.2
 el:=bC L.el
 isStr:=λT=>(bC L.str T).isSome
 isBool:=λT=>(bC L.bool T).isSome
 ik:=bC L.ik
 lf:=QJ L.fe
 of:=CG L.fe
 size:=λT=>(bC L.inf T).bind λx=>some x.1
 bytes:=λT=>(bC L.inf T).bind λx=>some x.2.1
 zero:=λT=>(bC L.inf T).bind λx=>some x.2.2
 uq:=bC L.st
 AX:=λT a b=>(bC L.eq T).bind λf=>f a b
 arr:=bC L.arr
 mp:=bC L.mp
 fb:=λf=>(bC L.fb f).isSome
 nest:=bC L.nest
 u8:=λT=>(bC L.u8 T).isSome
 vL:=Sj L.vL
 lo:=L.lo
def Dm (P:Program)(T:TypeId):Nat->List (Nat×TypeId)->Prop
 | _,[]=>True
 | i,x::r=>FX P T i x.1/\(∃ fs fl,P.underlying T=some (.struct fs)/\fs[i]?=some fl/\fl.type=x.2)/\Dm P T (i+1) r
omit [∀ E,Rp (I E)] in
theorem Dm.at {P:Program}{T:TypeId}:∀ {l:List (Nat×TypeId)} {i j:Nat} {x:Nat×TypeId},Dm P T i l->l[j]?=some x->FX P T (i+j) x.1/\(∃ fs fl,P.underlying T=some (.struct fs)/\fs[i+j]?=some fl/\fl.type=x.2)
 | [],_,_,_,_,h=>by simp at h
 | y::r,i,0,x,hf,h=>by simp at h; subst h; exact ⟨hf.1,hf.2.1⟩
 | y::r,i,j+1,x,hf,h=>by
   have:=Dm.at (i:=i+1) hf.2.2 (show r[j]?=some x by simpa using h)
   rwa [show i+1+j=i+(j+1) by omega] at this
def uL' (P:Program)(T:TypeId)(sz jo:Nat)(ls:List (PV I)):Prop:=∃ z,dU P T z sz jo/\∀ X c σ,RG X c σ ls z.cells.toList
structure lD' (P:Program)(L:Tp I):Prop where
 sz:lN (λx=>Ga P x.1 x.2) L.sz
 one:lN (λx=>iJ P x.1) L.one
 gF:lN (λx=>Dm P x.1 0 x.2) L.gF
 el:lN (λx=>P.underlying x.1=some (.slice x.2)/\∃ z b,dU P x.2 z (Rp.sz (I x.2)) b/\z.cells.size=Rp.sz (I x.2)/\0<b) L.el
 str:lN (λx=>P.underlying x.1=some .string) L.str
 bool:lN (λx=>P.underlying x.1=some .bool) L.bool
 ik:lN (λx=>P.underlying x.1=some (.int x.2)) L.ik
 inf:lN (λx=>uL' P x.1 x.2.1 x.2.2.1 x.2.2.2) L.inf
 st:lN (λx=>(∃ fs,P.underlying x.1=some (.struct fs)/\fs.toList.mapM (λf=>(P.info? f.type).map λi=>(f.offset,i.size))=some x.2) \/
  ∃ m e ie,P.underlying x.1=some (.array m e)/\P.info? e=some ie/\x.2=(LY' m).map λj=>(j*ie.size,ie.size)) L.st
 eq:lN (λx=>∀ (X:bZ) (c:Cx) (σ:S) (ls ms:List (PV I)) (r:Bool) (cs ds:List Value),x.2 ls ms=some r->RG X c σ ls cs->RG X c σ ms ds ->
  P.eqGuardType P.depth x.1=false/\∃ j,Mq' j 10000=true/\Sx.EqAt P j x.1 (.agg cs.toArray) (.agg ds.toArray) r) L.eq
 arr:lN (λx=>P.underlying x.1=some (.array x.2.2.1 x.2.1)/\(P.info? x.2.1).map (·.size)=some x.2.2.2) L.arr
 mp:lN (λx=>OH I P x.1 x.2) L.mp:=by exact trivial
 u8:lN (λx=>P.underlying x.1=some (.int .u8)/\∀ y:I x.1,∃ n,QJ L.fe x.1 y=[.int .u8 n]) L.u8:=by exact trivial
 vL:lN (λx=>∀ (σ:S) (k:Int),Rp.cells σ (x.g k) [.int .u8 k]) L.vL:=by exact trivial
 fb:lN (λx=>mV P x.1) L.fb
 low:∀ E,Rp.lo (I E)<=L.lo:=by exact λE=>Go.Qx.lC' rfl E
omit [∀ E,Rp (I E)] in
theorem uj' {P:Program}{T e:TypeId}{m k b:Nat}{z:Value}{pl:List (Nat×Nat)}(hu:P.underlying T=some (.array m e))(hi:dU P e z k b)(hp:pl=(LY' m).map λj=>(j*k,k)) :
 ∃ m e ie,P.underlying T=some (.array m e)/\P.info? e=some ie/\pl=(LY' m).map λj=>(j*ie.size,ie.size):=by
 obtain ⟨i,h1,h2,h3,h4⟩:=hi;exact ⟨m,e,i,hu,h1,by rw [hp,h3]⟩
theorem dt':∀ {l:List (U8 I)} {E:TypeId} {g:Int->I E},lN (λx=>∀ (σ:S) (k:Int),Rp.cells σ (x.g k) [.int .u8 k]) l->Sj l E=some g->∀ (σ:S) (k:Int),Rp.cells σ (g k) [.int .u8 k]
 | [],_,_,_,h=>by cases h
 | e::r,E,g,hl,h=>by
   unfold Sj at h;split at h
   ·rename_i e1;subst e1;cases h;exact hl.1
   ·exact dt' hl.2 h
omit [∀ E,Rp (I E)] in
theorem Je {α:Type}{o:Option α}(h:o.isSome=true):∃ a,o=some a:=Nk'.1 h
omit [∀ E,Rp (I E)] in
theorem dU.inj {P:Program}{T:TypeId}{z z':Value}{a a' b b':Nat}(h:dU P T z a b)(k:dU P T z' a' b'):z=z'/\a=a'/\b=b':=by obtain ⟨i,h1,h2,h3,h4⟩:=h;obtain ⟨j,k1,k2,k3,k4⟩:=k;rw [h1] at k1;cases k1;rw [h2] at k2;cases k2;exact ⟨rfl,h3.symm.trans k3,h4.symm.trans k4⟩
theorem Js {fe:List (FE I)}{X:bZ}{c:Cx}{σ:S}{E:TypeId}{ls:List (PV I)}{x:I E}{cs:List Value}(hx:CG fe E ls=some x)(hl:RG X c σ ls cs):Rp.cells σ x cs:=by
 unfold CG at hx;split at hx
 ·rename_i e he;split at hx
  ·rename_i e1;subst e1;obtain ⟨y,rest,h1,h2⟩:=e.fd.uy _ _ _ _ hx;obtain ⟨c1,c2,e2,h3,h4⟩:=h2 X c σ cs hl;split at h1
   ·cases h1;simp only [RG] at h4;rw [e2,h4,MK'];exact h3
   ·cases h1
  ·cases hx
 ·cases hx
theorem sD' {P:Program}{L:Tp I}(h:lD' P L):bT P (gH' L) where
 low:=h.low
 sz:=λT k hk=>h.sz.mem _ (lD hk)
 one:=λT hk=>by obtain ⟨a,ha⟩:=Je hk; exact h.one.mem _ (lD ha)
 off:=λT f o hk=>by obtain ⟨l,hl,hk⟩:=bind_some hk;obtain ⟨x,hx,hk⟩:=bind_some hk;cases hk;have:=(Dm.at (h.gF.mem _ (lD hl)) hx).1;rw [LM'] at this;exact this
 fty:=λT f o hk=>by obtain ⟨l,hl,hk⟩:=bind_some hk;obtain ⟨x,hx,hk⟩:=bind_some hk;cases hk;have:=(Dm.at (h.gF.mem _ (lD hl)) hx).2;rw [LM'] at this;exact this
 el:=λT E hk=>by obtain ⟨h1,z,b,⟨i,e1,e2,e3,e4⟩,_⟩:=h.el.mem _ (lD hk);exact ⟨h1,by rw [e1]; simp only [Mv']; rw [e3]⟩
 isStr:=λT hk=>by obtain ⟨a,ha⟩:=Je hk; exact h.str.mem _ (lD ha)
 isBool:=λT hk=>by obtain ⟨a,ha⟩:=Je hk; exact h.bool.mem _ (lD ha)
 ik:=λT k hk=>h.ik.mem _ (lD hk)
 lf:=λX c σ E x cs hx=>by
  show RG X c σ (QJ L.fe E x) cs;unfold QJ;split
  ·rename_i e he;split
   ·rename_i e1;subst e1;exact e.fd.vQ X c σ x cs hx
   ·exact RG.one hx
  ·exact RG.one hx
 of:=λ_ _ _ _ _ _ _ hx hl=>Js hx hl
 size:=λT k hk=>by obtain ⟨x,hx,hk⟩:=bind_some hk;cases hk;obtain ⟨z,⟨i,e1,e2,e3,e4⟩,_⟩:=h.inf.mem _ (lD hx);rw [e1,Mv',e3]
 slice:=λT E b hT hb=>by
  obtain ⟨x,hx,hk⟩:=bind_some hb;cases hk;obtain ⟨z,h1,_⟩:=h.inf.mem _ (lD hx);obtain ⟨h2,z',b',h3,h4,h5⟩:=h.el.mem _ (lD hT);obtain ⟨rfl,e1,e2⟩:=dU.inj h1 h3;simp only at e1 e2 h1;refine ⟨z,h2,?_,h4,Rp.pos,?_⟩
  ·rw [<- e1]; exact h1
  ·rw [e2]; exact h5
 zero:=λT ls hk=>by obtain ⟨x,hx,hk⟩:=bind_some hk;cases hk;obtain ⟨z,h1,h2⟩:=h.inf.mem _ (lD hx);exact ⟨z,_,_,_,h1,rfl,h2⟩
 uq:=λT pl ls hp hz=>by
  obtain ⟨x,hx,hk⟩:=bind_some hz;cases hk;obtain ⟨z,⟨i,e1,e2,e3,e4⟩,h2⟩:=h.inf.mem _ (lD hx);rcases h.st.mem _ (lD hp) with ⟨fs,h3,h4⟩ | ⟨m,e,ie,h3,h4,h5⟩
  ·exact ⟨z.cells.toList,.inl ⟨fs,i,z,h3,e1,e2,by simp,h4⟩,h2⟩
  ·exact ⟨z.cells.toList,.inr ⟨m,e,ie,i,z,h3,h4,e1,e2,by simp,h5⟩,h2⟩
 AX:=λX c σ T ls ms r cs ds hk h1 h2=>by obtain ⟨f,hf,hk⟩:=bind_some hk;exact h.eq.mem _ (lD hf) X c σ ls ms r cs ds hk h1 h2
 arr:=λT E m k hk=>h.arr.mem _ (lD hk)
 mp:=λT kd hk=>h.mp.mem _ (lD hk)
 fb:=λf hk=>by obtain ⟨a,ha⟩:=Je hk; exact h.fb.mem _ (lD ha)
 u8:=λT hk=>by obtain ⟨a,ha⟩:=Je hk; exact h.u8.mem _ (lD ha)
 vL:=λE g hk=>dt' h.vL hk
def Ox (P:Program)(k:Nat)(e:TypeId)(c:Nat)(xs ys:Array Value)(l:List Nat)(r:Bool):Prop:=∀ d w,(Op.eqItems (d+k) e c xs ys l).run P w=.ok r w
omit [∀ E,Rp (I E)] in
theorem zo' {P:Program}{k:Nat}{e:TypeId}{c:Nat}{xs ys:Array Value}:Ox P k e c xs ys [] true:=λd w=>by simp [Op.eqItems]
omit [∀ E,Rp (I E)] in
theorem fE' {P:Program}{k:Nat}{e:TypeId}{c i:Nat}{xs ys:Array Value}{is:List Nat}{a b:Value}{r1 r2:Bool}(ha:∀ w,(part e xs (i*c)).run P w=.ok a w)(hb:∀ w,(part e ys (i*c)).run P w=.ok b w)
 (h1:Sx.EqAt P k e a b r1) (h2:Ox P k e c xs ys is r2):Ox P k e c xs ys (i::is) (r1&&r2):=λd w=>by
 simp only [Op.eqItems,Sem.run_bind,ha,hb,Result.andThen_ok,h1 d w];cases r1
 ·simp
 ·simpa using h2 d w
omit [∀ E,Rp (I E)] in
theorem Cm' {P:Program}{k m b K:Nat}{T e:TypeId}{z:Value}{xs ys:Array Value}{r:Bool}(hu:P.underlying T=some (.array m e))(hi:dU P e z k b)(h:Ox P K e k xs ys (LY' m) r):Sx.EqAt P (K+1) T (.agg xs) (.agg ys) r:=λd w=>by
 obtain ⟨i,h1,h2,h3,h4⟩:=hi;have:=run_equalIn_array (P:=P) (w:=w) (d+K) xs ys hu h1;rw [<- MC',this];have hc:P.cellsOf e=k:=by simp [Program.cellsOf,h1,h3]
 rw [hc];exact h d w
def Ku (fe:List (FE I))(T:TypeId)(g:I T->I T->Bool):List (PV I)->List (PV I)->Option Bool:=λls ms =>
 match ls,ms with
 | [.dat E x],[.dat E' y]=>(uI T E x).bind λx=>(uI T E' y).bind λy=>some (g x y)
 | [.dat E x],ms=>(uI T E x).bind λx=>(CG fe T ms).bind λy=>some (g x y)
 | ls,[.dat E' y]=>(CG fe T ls).bind λx=>(uI T E' y).bind λy=>some (g x y)
 | ls,ms=>(CG fe T ls).bind λx=>(CG fe T ms).bind λy=>some (g x y)
theorem Q6 {X:bZ}{c:Cx}{σ:S}{T E:TypeId}{x:I E}{y:I T}{cs:List Value}(h:uI T E x=some y)(hl:RG X c σ [.dat E x] cs):Rp.cells σ y cs:=by
 obtain ⟨e,rfl⟩:=Kt h;subst e;simp only [RG] at hl;obtain ⟨a,r,e,h1 | ⟨h0,_⟩,h2⟩:=hl
 ·subst h2;rw [e,MK'];exact h1
 ·cases h0
theorem xw' {fe:List (FE I)}{T:TypeId}{g:I T->I T->Bool}{X:bZ}{c:Cx}{σ:S}{ls ms:List (PV I)}{r:Bool}{cs ds:List Value}(h:Ku fe T g ls ms=some r)(hl:RG X c σ ls cs)(hm:RG X c σ ms ds) :
 ∃ x y,Rp.cells σ x cs/\Rp.cells σ y ds/\g x y=r:=by
 unfold Ku at h;split at h
 ·obtain ⟨x,hx,h⟩:=bind_some h;obtain ⟨y,hy,h⟩:=bind_some h;exact ⟨x,y,Q6 hx hl,Q6 hy hm,LI'.inj h⟩
 ·obtain ⟨x,hx,h⟩:=bind_some h;obtain ⟨y,hy,h⟩:=bind_some h;exact ⟨x,y,Q6 hx hl,Js hy hm,LI'.inj h⟩
 ·obtain ⟨x,hx,h⟩:=bind_some h;obtain ⟨y,hy,h⟩:=bind_some h;exact ⟨x,y,Js hx hl,Q6 hy hm,LI'.inj h⟩
 ·obtain ⟨x,hx,h⟩:=bind_some h;obtain ⟨y,hy,h⟩:=bind_some h;exact ⟨x,y,Js hx hl,Js hy hm,LI'.inj h⟩
omit [∀ E,Rp (I E)] in
theorem oq [∀ E,Rp (I E)] {P:Program}{r:Row I}(h:r.run=yT r.ps λ_=>none):bJ P r:=by
 intro σ a vs au res hA hnd happ;rw [h] at happ;have:∀ (ps:List Pk) (R:Type) (a:iZ I ps),vD ps (yT ps λ_=>(none:Option R)) a=none:=by
  intro ps R a
  induction ps with
  | nil=>rfl
  | cons p r ih=>exact ih a.2
 rw [this] at happ;cases happ
def dW (f:Func):Code:=match f.body with
 | some c=>c
 | none=>.skip
inductive BE where
 | slot (t:Nat)
 | gF (T:TypeId) (f:Nat) (e:BE)
 | ld (T:TypeId) (e:BE)
 | len (e:BE)
 | cst (n:Int)
def Sm (tb:aX I)(s:St I):BE->Option (PV I)
 | .slot t=>s.F t
 | .gF T f e=>(Sm tb s e).bind λp=>(tb.off T f).bind λd=>match p with
   | .ptr l o=>some (.ptr l (o+d))
   | .ep E x o=>some (.ep E x (o+d))
   | _=>none
 | .ld T e=>(Sm tb s e).bind λp=>match p with
   | .ptr l o=>match s.O l with
     | some (some (.var _ ls _))=>qE tb T ls o
     | _=>none
   | .ep E x o=>qE tb T [.dat E x] o
   | _=>none
 | .len e=>(Sm tb s e).bind λp=>match p with
   | .sl _ xs _=>some (.int .i64 (xs.length:Int))
   | .nl _=>some (.int .i64 0)
   | .str t=>some (.int .i64 (t.size:Int))
   | .vw l=>match s.O l with
     | some (some (.row _ xs _))=>some (.int .i64 (xs.length:Int))
     | some (some (.ro _ xs))=>some (.int .i64 (xs.length:Int))
     | some (some (.bo _ xs))=>some (.int .i64 (xs.length:Int))
     | _=>none
   | .vs l _ lo=>match s.O l with
     | some (some (.row _ xs _))=>some (.int .i64 ((xs.drop lo).length:Int))
     | _=>none
   | _=>none
 | .cst n=>some (.int .i64 n)
def aK (tb:aX I)(e:BE)(k:Nat)(s:St I):Option Nat:=match Sm tb s e with
 | some (.int _ n)=>some (n.toNat+k)
 | _=>none
end
end Go.Qx
namespace Go.Sx
open Go Go.RowKit
structure Key where
 af:Int
 Text:ByteArray
mutual
inductive Val where
 | mk (af:Int) (bn:Int) (Text:ByteArray) (ai:List Val) (aU:List Key) (aW:List aD) (bX:List ByteArray)
inductive aD where
 | mk (cu:List Val) (Fails:Bool) (Result:Val)
end
namespace Val
def af:Val->Int | mk a _ _ _ _ _ _=>a
def bn:Val->Int | mk _ a _ _ _ _ _=>a
def Text:Val->ByteArray | mk _ _ a _ _ _ _=>a
def ai:Val->List Val | mk _ _ _ a _ _ _=>a
def aU:Val->List Key | mk _ _ _ _ a _ _=>a
def aW:Val->List aD | mk _ _ _ _ _ a _=>a
def bX:Val->List ByteArray | mk _ _ _ _ _ _ a=>a
end Val
namespace aD
def cu:aD->List Val | mk a _ _=>a
def Fails:aD->Bool | mk _ a _=>a
def Result:aD->Val | mk _ _ a=>a
end aD
instance vR:Rp Key where
 sz:=2
 pos:=by decide
 agg:=true
 cells:=λ_ k cs=>cs=[.int .i64 k.af,.string k.Text]
 len:=λh=>by rw [h]; rfl
 one:=λh v hv=>by rw [h] at hv; simp at hv; rcases hv with rfl | rfl<;>rfl
 mono:=λ_ h=>h
def qH (σ:S)(len:Nat)(A:Option Addr)(c:Nat)(cs:List Value):Prop:=len<=c/\c<=maxLen/\(0<len->∃ b o,A=some ⟨b,o,none⟩/\oz σ b o cs)
mutual
def RV (σ:S):Val->List Value->Prop
 | .mk k n t kids keys nY nZ,cs=>∃ A1 c1 A2 c2 A3 c3 A4 c4 f1 f3,
    cs=[.int .i64 k,.int .i64 n,.string t,.slice A1 kids.length c1,.slice A2 keys.length c2,.slice A3 nY.length c3,.slice A4 nZ.length c4] /\
    qH σ kids.length A1 c1 f1/\aB σ kids f1/\Sl σ keys A2 c2/\qH σ nY.length A3 c3 f3/\lQ σ nY f3/\Sl σ nZ A4 c4
def aB (σ:S):List Val->List Value->Prop
 | [],cs=>cs=[]
 | x::xs,cs=>∃ c r,cs=c++r/\RV σ x c/\aB σ xs r
def RE (σ:S):aD->List Value->Prop
 | .mk args fails res,cs=>∃ A c f r,cs=.slice A args.length c::.bool fails::r/\qH σ args.length A c f/\aB σ args f/\RV σ res r
def lQ (σ:S):List aD->List Value->Prop
 | [],cs=>cs=[]
 | x::xs,cs=>∃ c r,cs=c++r/\RE σ x c/\lQ σ xs r
end
theorem RV.len {σ:S}:∀ {v:Val} {cs:List Value},RV σ v cs->cs.length=7
 | .mk ..,cs,h=>by simp only [RV] at h; obtain ⟨_,_,_,_,_,_,_,_,_,_,rfl,_⟩:=h; rfl
theorem RV.one {σ:S}:∀ {v:Val} {cs:List Value},RV σ v cs->∀ u∈cs,u.oneCell'=true
 | .mk ..,cs,h=>by simp only [RV] at h;obtain ⟨_,_,_,_,_,_,_,_,_,_,rfl,_⟩:=h;intro u hu;simp at hu;rcases hu with rfl | rfl | rfl | rfl | rfl | rfl | rfl<;>rfl
theorem RE.len {σ:S}:∀ {v:aD} {cs:List Value},RE σ v cs->cs.length=9
 | .mk ..,cs,h=>by simp only [RE] at h; obtain ⟨_,_,_,r,rfl,_,_,h4⟩:=h; simp [h4.len]
theorem RE.one {σ:S}:∀ {v:aD} {cs:List Value},RE σ v cs->∀ u∈cs,u.oneCell'=true
 | .mk ..,cs,h=>by
   simp only [RE] at h;obtain ⟨_,_,_,r,rfl,_,_,h4⟩:=h;intro u hu;simp only [Lq'] at hu;rcases hu with rfl | rfl | hu
   ·rfl
   ·rfl
   ·exact h4.one u hu
theorem qH.mono {σ τ:S}{len:Nat}{A:Option Addr}{c:Nat}{cs:List Value}(h:qH σ len A c cs)(k:gT σ τ)(hn:0<len->cs≠[]):qH τ len A c cs :=
 ⟨h.1,h.2.1,λhl=>by obtain ⟨b,o,e,hs⟩:=h.2.2 hl; exact ⟨b,o,e,hs.mono (hn hl) k⟩⟩
theorem aB.ne {σ:S}:∀ {xs:List Val} {cs:List Value},aB σ xs cs->0<xs.length->cs≠[]
 | [],_,_,h=>by simp at h
 | x::xs,cs,h,_=>by simp only [aB] at h;obtain ⟨c,r,rfl,h1,_⟩:=h;intro e;have:=h1.len;rw [List.append_eq_nil_iff] at e;rw [e.1] at this;simp at this
theorem lQ.ne {σ:S}:∀ {xs:List aD} {cs:List Value},lQ σ xs cs->0<xs.length->cs≠[]
 | [],_,_,h=>by simp at h
 | x::xs,cs,h,_=>by simp only [lQ] at h;obtain ⟨c,r,rfl,h1,_⟩:=h;intro e;have:=h1.len;rw [List.append_eq_nil_iff] at e;rw [e.1] at this;simp at this
mutual
theorem RV.mono {σ τ:S}(k:gT σ τ):∀ {v:Val} {cs:List Value},RV σ v cs->RV τ v cs
 | .mk ..,cs,h=>by simp only [RV] at h ⊢;obtain ⟨A1,c1,A2,c2,A3,c3,A4,c4,f1,f3,e,h1,h2,h3,h4,h5,h6⟩:=h;exact ⟨A1,c1,A2,c2,A3,c3,A4,c4,f1,f3,e,h1.mono k h2.ne,aB.mono k h2,h3.mono k,h4.mono k h5.ne,lQ.mono k h5,h6.mono k⟩
theorem aB.mono {σ τ:S}(k:gT σ τ):∀ {v:List Val} {cs:List Value},aB σ v cs->aB τ v cs
 | [],cs,h=>by simp only [aB] at h ⊢; exact h
 | x::xs,cs,h=>by simp only [aB] at h ⊢;obtain ⟨c,r,e,h1,h2⟩:=h;exact ⟨c,r,e,RV.mono k h1,aB.mono k h2⟩
theorem RE.mono {σ τ:S}(k:gT σ τ):∀ {v:aD} {cs:List Value},RE σ v cs->RE τ v cs
 | .mk ..,cs,h=>by simp only [RE] at h ⊢;obtain ⟨A,c,f,r,e,h1,h2,h3⟩:=h;exact ⟨A,c,f,r,e,h1.mono k h2.ne,aB.mono k h2,RV.mono k h3⟩
theorem lQ.mono {σ τ:S}(k:gT σ τ):∀ {v:List aD} {cs:List Value},lQ σ v cs->lQ τ v cs
 | [],cs,h=>by simp only [lQ] at h ⊢; exact h
 | x::xs,cs,h=>by simp only [lQ] at h ⊢;obtain ⟨c,r,e,h1,h2⟩:=h;exact ⟨c,r,e,RE.mono k h1,lQ.mono k h2⟩
end
instance sw:Rp Val where
 sz:=7
 pos:=by decide
 agg:=true
 cells:=λσ v cs=>RV σ v cs
 len:=RV.len
 one:=RV.one
 mono:=λk h=>RV.mono k h
instance DX:Rp aD where
 sz:=9
 pos:=by decide
 agg:=true
 cells:=λσ v cs=>RE σ v cs
 len:=RE.len
 one:=RE.one
 mono:=λk h=>RE.mono k h
theorem aB.flat {σ:S}:∀ {xs:List Val} {cs:List Value},aB σ xs cs↔dJ σ xs cs
 | [],cs=>by simp only [aB,dJ]
 | x::xs,cs=>by
   simp only [aB,dJ];constructor
   ·rintro ⟨c,r,e,h1,h2⟩; exact ⟨c,r,e,h1,aB.flat.1 h2⟩
   ·rintro ⟨c,r,e,h1,h2⟩; exact ⟨c,r,e,h1,aB.flat.2 h2⟩
theorem lQ.flat {σ:S}:∀ {xs:List aD} {cs:List Value},lQ σ xs cs↔dJ σ xs cs
 | [],cs=>by simp only [lQ,dJ]
 | x::xs,cs=>by
   simp only [lQ,dJ];constructor
   ·rintro ⟨c,r,e,h1,h2⟩; exact ⟨c,r,e,h1,lQ.flat.1 h2⟩
   ·rintro ⟨c,r,e,h1,h2⟩; exact ⟨c,r,e,h1,lQ.flat.2 h2⟩
theorem qH.sl {α:Type} [Rp α] {σ:S}{xs:List α}{A:Option Addr}{c:Nat}{cs:List Value}(h:qH σ xs.length A c cs)(hf:dJ σ xs cs):Sl σ xs A c :=
 ⟨h.1,h.2.1,cs,hf,λhn=>h.2.2 (NY'.2 hn)⟩
theorem qH.of {α:Type} [Rp α] {σ:S}{xs:List α}{A:Option Addr}{c:Nat}(h:Sl σ xs A c):∃ cs,qH σ xs.length A c cs/\dJ σ xs cs:=by obtain ⟨h1,h2,cs,h3,h4⟩:=h;exact ⟨cs,⟨h1,h2,λhl=>h4 (NY'.1 hl)⟩,h3⟩
theorem Val.MI {σ:S}{v:Val}{cs:List Value}:Rp.cells σ v cs↔∃ A1 c1 A2 c2 A3 c3 A4 c4,
 cs=[.int .i64 v.af,.int .i64 v.bn,.string v.Text,.slice A1 v.ai.length c1,.slice A2 v.aU.length c2,.slice A3 v.aW.length c3,.slice A4 v.bX.length c4] /\
 Sl σ v.ai A1 c1/\Sl σ v.aU A2 c2/\Sl σ v.aW A3 c3/\Sl σ v.bX A4 c4:=by
 cases v with
 | mk k n t kids keys nY nZ =>
   show RV σ _ cs↔_;simp only [RV,Val.af,Val.bn,Val.Text,Val.ai,Val.aU,Val.aW,Val.bX];constructor
   ·rintro ⟨A1,c1,A2,c2,A3,c3,A4,c4,f1,f3,e,h1,h2,h3,h4,h5,h6⟩;exact ⟨A1,c1,A2,c2,A3,c3,A4,c4,e,h1.sl (aB.flat.1 h2),h3,h4.sl (lQ.flat.1 h5),h6⟩
   ·rintro ⟨A1,c1,A2,c2,A3,c3,A4,c4,e,h1,h3,h4,h6⟩;obtain ⟨f1,k1,k2⟩:=qH.of h1;obtain ⟨f3,k4,k5⟩:=qH.of h4;exact ⟨A1,c1,A2,c2,A3,c3,A4,c4,f1,f3,e,k1,aB.flat.2 k2,h3,k4,lQ.flat.2 k5,h6⟩
theorem aD.MI {σ:S}{v:aD}{cs:List Value}:Rp.cells σ v cs↔∃ A c A1 c1 A2 c2 A3 c3 A4 c4,
 cs=[.slice A v.cu.length c,.bool v.Fails,.int .i64 v.Result.af,.int .i64 v.Result.bn,.string v.Result.Text,.slice A1 v.Result.ai.length c1,.slice A2 v.Result.aU.length c2,.slice A3 v.Result.aW.length c3,.slice A4 v.Result.bX.length c4] /\
 Sl σ v.cu A c/\Sl σ v.Result.ai A1 c1/\Sl σ v.Result.aU A2 c2/\Sl σ v.Result.aW A3 c3/\Sl σ v.Result.bX A4 c4:=by
 cases v with
 | mk args fails res =>
   show RE σ _ cs↔_;simp only [RE,aD.cu,aD.Fails,aD.Result];constructor
   ·rintro ⟨A,c,f,r,rfl,h1,h2,h3⟩;obtain ⟨A1,c1,A2,c2,A3,c3,A4,c4,rfl,k1,k2,k3,k4⟩:=Val.MI.1 h3;exact ⟨A,c,A1,c1,A2,c2,A3,c3,A4,c4,rfl,h1.sl (aB.flat.1 h2),k1,k2,k3,k4⟩
   ·rintro ⟨A,c,A1,c1,A2,c2,A3,c3,A4,c4,rfl,h1,k1,k2,k3,k4⟩;obtain ⟨f,j1,j2⟩:=qH.of h1;exact ⟨A,c,f,_,rfl,j1,aB.flat.2 j2,Val.MI.2 ⟨A1,c1,A2,c2,A3,c3,A4,c4,rfl,k1,k2,k3,k4⟩⟩
theorem Key.MI {σ:S}{v:Key}{cs:List Value}:Rp.cells σ v cs↔cs=[.int .i64 v.af,.string v.Text]:=Iff.rfl
end Go.Sx
namespace Go.Qx
open Go Go.RowKit Go.Sx
end Go.Qx
namespace Go.Sx
open Go Go.RowKit Go.Qx
abbrev Key.to (v:Key):Int×ByteArray:=(v.af,v.Text)
abbrev Key.of (x:Int×ByteArray):Key:=⟨x.1,x.2⟩
theorem Key.MJ (σ:S)(v:Key)(cs:List Value):vR.cells σ v cs↔(eY (bS .i64) nU).cells σ v.to cs:=by
 constructor
 ·intro h;have h:cs=[.int .i64 v.af,.string v.Text]:=h;exact ⟨[_],[_],h,rfl,rfl⟩
 ·rintro ⟨c1,c2,e,rfl,rfl⟩;exact e
abbrev Val.to (v:Val):Int×(Int×(ByteArray×(List Val×(List Key×(List aD×List ByteArray))))):=(v.af,v.bn,v.Text,v.ai,v.aU,v.aW,v.bX)
abbrev Val.of (x:Int×(Int×(ByteArray×(List Val×(List Key×(List aD×List ByteArray)))))):Val:=.mk x.1 x.2.1 x.2.2.1 x.2.2.2.1 x.2.2.2.2.1 x.2.2.2.2.2.1 x.2.2.2.2.2.2
theorem Val.MJ (σ:S)(v:Val)(cs:List Value):sw.cells σ v cs ↔
 (eY (bS .i64) (eY (bS .i64) (eY nU (eY (@bY _ sw) (eY (@bY _ vR) (eY (@bY _ DX) (@bY _ nU))))))).cells σ v.to cs:=by
 refine Val.MI.trans ?_;constructor
 ·rintro ⟨A1,c1,A2,c2,A3,c3,A4,c4,e,h1,h2,h3,h4⟩;exact ⟨[_],_,e,rfl,[_],_,rfl,rfl,[_],_,rfl,rfl,[_],_,rfl,⟨A1,c1,rfl,h1⟩,[_],_,rfl,⟨A2,c2,rfl,h2⟩,[_],_,rfl,⟨A3,c3,rfl,h3⟩,A4,c4,rfl,h4⟩
 ·rintro ⟨_,_,rfl,rfl,_,_,rfl,rfl,_,_,rfl,rfl,_,_,rfl,⟨A1,c1,rfl,h1⟩,_,_,rfl,⟨A2,c2,rfl,h2⟩,_,_,rfl,⟨A3,c3,rfl,h3⟩,A4,c4,rfl,h4⟩;exact ⟨A1,c1,A2,c2,A3,c3,A4,c4,rfl,h1,h2,h3,h4⟩
abbrev aD.to (v:aD):List Val×(Bool×Val):=(v.cu,v.Fails,v.Result)
abbrev aD.of (x:List Val×(Bool×Val)):aD:=.mk x.1 x.2.1 x.2.2
theorem aD.MJ (σ:S)(v:aD)(cs:List Value):DX.cells σ v cs↔(eY (@bY _ sw) (eY qL sw)).cells σ v.to cs:=by
 cases v with
 | mk args fails res =>
   constructor
   ·intro h;have h:RE σ (.mk args fails res) cs:=h;simp only [RE] at h;obtain ⟨A,c,f,r,rfl,h1,h2,h3⟩:=h;exact ⟨[_],_,rfl,⟨A,c,rfl,h1.sl (aB.flat.1 h2)⟩,[_],_,rfl,rfl,h3⟩
   ·rintro ⟨_,_,rfl,⟨A,c,rfl,h1⟩,_,r,rfl,rfl,h2⟩;show RE σ (.mk args fails res) _;simp only [RE];obtain ⟨f,j1,j2⟩:=qH.of h1;exact ⟨A,c,f,r,rfl,j1,aB.flat.2 j2,h2⟩
end Go.Sx
namespace Go.Qx
open Go Go.RowKit Go.Sx
section
variable {I:TypeId->Type} [∀ E,Rp (I E)] {P:Program}
def Jo (a b:ByteArray):Option Int:=some (Lx a b)
theorem sc' {f : FuncId} {fn : Func} (hf : P.funcs[f]? = some fn) (hname : (fn.name == "runtime.NumGoroutine") = false) (hb : fn.body.isNone = true) (hn : Extern.findNext fn = none) (he : Extern.find fn = some Extern.BytealgCompare.compare) :
 bJ P (⟨f,[.d .str,.d .str],[.k (.d (.int .i64))],Jo⟩:Row I):=by
 intro σ a vs au res hA _ happ;obtain ⟨v,_,p1,_,rfl,rfl,⟨h1,rfl⟩,v2,_,p2,_,rfl,rfl,⟨h2,rfl⟩,rfl,rfl⟩:=hA;have h1:v=.string a.1:=h1;have h2:v2=.string a.2.1:=h2;have hr:Jo a.1 a.2.1=some res:=happ;subst h1;subst h2;cases hr;refine .inr ⟨_,σ,sg' hf hname hb hn he a.1 a.2.1 σ.w,Stp.refl _ σ,[.int .i64 (Lx a.1 a.2.1)],[],[],⟨rfl,rfl,⟨_,rfl,rfl,rfl⟩,rfl,by simp [ows],λg hg=>by simp [ows] at hg⟩⟩
def iY {α:Type}(b:Nat)(xs:List α):Option (List α):=(aT (0+xs.length) b).bind λ_=>some xs
def noH:Hints I:=aO []
def noD:fQ I:=λ_ _ _ _ _ _=>none
theorem qU':lY P (noD:fQ I):=⟨λ_ _ _ _ _ _=>rfl,λ_ _ _ _ _ h=>by cases h⟩
def Xa (E:TypeId)(xs:List (I E)):St I:=⟨8,λi=>bif Lm' i 0 then some (.sl E xs false) else none,λ_=>none,0⟩
theorem yF {tb:aX I}(ht:bT P tb)(hmx:P.follows .mixedOrders=true){f:FuncId}{fn:Func}{T E:TypeId}{b:Nat}{i0 i1 i2:Nat}{p0 p1 p2 p3:String}{a2:Array Edge}{t0 t1 t2 t3 t4:TypeId}{Tq:Code}
 (hf : P.funcs[f]? = some fn) (hname : (fn.name == "runtime.NumGoroutine") = false) (hn : fn.ntmps = 8) (hres : fn.results.toList = [.tmp 2]) (hT : P.underlying T = some (.slice E))
 (hb:fn.body=some (.seq (.region i0 #[⟨some 2,.assign (.const (.slice none 0 0)),t0,p0,#[],none⟩] false) (.seq (.seq (.region i1 #[⟨some 3,.move (.tmp 0),t1,p1,#[],none⟩,⟨some 4,.binOp .eql T (.tmp 3) (.const (.slice none 0 0)) t2,t3,p2,a2,none⟩] false)
   (.cond (.tmp 4) (.seq (.region i2 #[⟨some 2,.assign (.const (.slice none 0 0)),t4,p3,#[],none⟩] false) .ret) .skip)) Tq)))
 (hcode:kJ (noH:Hints I) Tq 1=true) (hex:∀ xs:List (I E),nN tb noD noH Tq 1 (List (I E)) (Xa E xs) (gJ tb [.d (.sl E)] [.k (.row E false)] [.tmp 2])=iY b xs) (hlo:tb.lo=0:=by rfl) :
 bJ P (⟨f,[.d (.sl E)],[.k (.row E false)],iY b⟩:Row I):=by
 refine UZ ht 8 hf hb hname hn hres rfl (hlo:=hlo) λX c σ F Q a res hX hrel happ hk=>?_;subst hX;have happ:iY b a.1=some res:=happ;have h0:=hrel.frame 0 (.sl E a.1 false) rfl;simp only [RV] at h0;obtain ⟨A,k,e0,hs,_⟩:=h0;refine wp_seq (wp_region_lit ?_);refine sj (.slice none 0 0) rfl rfl ?_;refine wpList_nil (iM (wp_seq (wp_seq (wp_region_lit ?_))));refine jZ (.slice A (a.1:List (I E)).length k) e0 rfl ?_;refine vv (.slice A (a.1:List (I E)).length k) (.slice none 0 0) (.bool A.isNone) rfl rfl rfl rfl (wm' hT) ?_;refine wpList_nil (iM ?_);have hgen:∀ (G:Fr),G 0=F 0->Rel X c σ (Xa E a.1) 8 G:=λG hG =>
  ⟨rfl,(λi p hp=>by
   have:(bif Lm' i 0 then some (PV.sl E a.1 false) else none)=some p:=hp
   obtain ⟨hi,hp⟩:=bA this;cases hp;have:=Li' hi;subst this;rw [hG];exact hrel.frame 0 _ rfl),(λl o ho=>by cases ho),(λ_ _ _ _ _ ⟨_,h⟩=>by cases h),(λ_ _ _ ⟨_,h⟩=>by cases h),λl _=>hrel.jh l rfl,hrel.base,mo.DR λ_ _ _ _ _ _ h=>by cases h⟩
 refine (Bool.eq_false_or_eq_true A.isNone).elim (λTt=>?_) (λTt=>?_)
 ·have e:a.1=[]:=hs.Eg' Tt;have hr:res=[]:=by rw [e] at happ;simp [iY,aT] at happ;exact (LI'.inj happ).symm
  refine Ki rfl Tt rfl ?_;refine wp_seq (wp_region_lit ?_);refine sj (.slice none 0 0) rfl rfl ?_;refine wpList_nil (iM (wp_ret (yx' ?_)));subst hr;refine hk .ret (Qx.put (Xa E a.1) (some 2) (.nl E)) c σ _ ?_ (Cx.le_refl c) ((hgen (dF (dF (dF F (some 2) (.slice none 0 0)) (some 3) (.slice A (a.1:List (I E)).length k)) (some 4) (.bool A.isNone)) rfl).put (some 2) _ (.slice none 0 0) (by simp only [RV]; exact ⟨none,rfl⟩)) (Stp.refl _ σ)
  rfl
 ·refine GY rfl Tt rfl ?_;refine wp_skip (iM ?_);exact oG ht qU' hmx Tq 1 hcode _ _ _ res X c σ _ Q rfl ((hex a.1).trans happ) (hgen _ rfl) λe s' c' τ F' g1 g2 g3 g4 _=>hk e s' c' τ F' g1 g2 g3 g4
end
abbrev kI:V:=.k (.d (.int .i64))
abbrev kB:V:=.k (.d .bool)
abbrev kS:V:=.k (.d .str)
abbrev kL (E:TypeId):V:=.k (.d (.sl E))
abbrev kD (E:TypeId):V:=.k (.d (.dat E))
abbrev kR (E:TypeId):V:=.k (.row E false)
abbrev kT (E:TypeId):V:=.k (.row E true)
abbrev pI:Pk:=.d (.int .i64)
abbrev pB:Pk:=.d .bool
abbrev pS:Pk:=.d .str
abbrev pL (E:TypeId):Pk:=.d (.sl E)
abbrev pD (E:TypeId):Pk:=.d (.dat E)
section
variable {α:Type}
def jb (g:α->α->Option Int)(x y:α):Bool:=match g x y with
 | some r=>decide (r<0)
 | none=>false
structure DY (lt:α->α->Bool)(xs:List α):Prop where
 ML:∀ x∈xs,lt x x=false
 trans:∀ x∈xs,∀ y∈xs,∀ z∈xs,lt x y=true->lt y z=true->lt x z=true
 ntrans:∀ x∈xs,∀ y∈xs,∀ z∈xs,lt x y=false->lt y z=false->lt x z=false
structure DZ (xs:List α)(g:α->α->Option Int):Prop where
 len:xs.length<4611686018427387904
 dfd:∀ x∈xs,∀ y∈xs,∃ r,g x y=some r
 wk:DY (jb g) xs
def vz (lt:α->α->Bool)(xs:List α):List α :=
 if h:0<xs.length then
  haveI:Inhabited (Fin xs.length):=⟨⟨0,h⟩⟩
  (Sort.pdq (λi j:Fin xs.length=>lt xs[i] xs[j]) (MY' (n:=xs.length) id) 0 xs.length (Lib.bitLen xs.length) true true).toList.map λi=>xs[i]
 else []
def eY' (xs:List α)(g:α->α->Option Int):Bool:=decide (xs.length<4611686018427387904)&&(xs.all (λx=>xs.all λy=>(g x y).isSome)&&(xs.all (λx=>!jb g x x) &&
 (xs.all (λx=>xs.all λy=>xs.all λz=>!(jb g x y&&jb g y z)||jb g x z)&&xs.all λx=>xs.all λy=>xs.all λz=>(jb g x y||jb g y z)||!jb g x z)))
theorem uK' {xs:List α}{g:α->α->Option Int}:eY' xs g=true↔DZ xs g:=by
 unfold eY';simp only [Lc',Le',decide_eq_true_eq];constructor
 ·rintro ⟨h1,h2,h3,h4,h5⟩;refine ⟨h1,λx hx y hy=>Nk'.1 (h2 x hx y hy),λx hx=>by simpa using h3 x hx,λx hx y hy z hz a b=>?_,λx hx y hy z hz a b=>?_⟩
  ·have:=h4 x hx y hy z hz;rw [a,b] at this;simpa using this
  ·have:=h5 x hx y hy z hz;rw [a,b] at this;simpa using this
 ·rintro ⟨h1,h2,h3,h4,h5⟩;refine ⟨h1,λx hx y hy=>Nk'.2 (h2 x hx y hy),λx hx=>by rw [h3 x hx]; rfl,λx hx y hy z hz=>?_,λx hx y hy z hz=>?_⟩
  ·cases a:jb g x y with
   | false=>rfl
   | true =>
     cases b:jb g y z with
     | false=>rfl
     | true=>rw [h4 x hx y hy z hz a b]; rfl
  ·cases a:jb g x y with
   | true=>rfl
   | false =>
     cases b:jb g y z with
     | true=>rfl
     | false=>rw [h5 x hx y hy z hz a b]; rfl
instance (xs:List α) (g:α->α->Option Int):Decidable (DZ xs g):=decidable_of_iff _ uK'
def KI (xs:List α)(g:α->α->Option Int):Option (List α):=if DZ xs g then some (vz (jb g) xs) else none
variable {lt:α->α->Bool}{xs:List α}
structure D5 (lt:α->α->Bool)(xs:List α):Prop where
 ML:∀ x∈xs,lt x x=false
 trans:∀ x∈xs,∀ y∈xs,∀ z∈xs,lt x y=true->lt y z=true->lt x z=true
 tot:∀ x∈xs,∀ y∈xs,lt x y=false->lt y x=false->x=y
theorem D5.sub {ys:List α}(h:D5 lt xs)(hs:∀ x∈ys,x∈xs):D5 lt ys :=
 ⟨λx hx=>h.ML x (hs x hx),λx hx y hy z hz=>h.trans x (hs x hx) y (hs y hy) z (hs z hz),λx hx y hy=>h.tot x (hs x hx) y (hs y hy)⟩
theorem D5.ntrans (h:D5 lt xs){x y z:α}(hx:x∈xs)(hy:y∈xs)(hz:z∈xs)(h1:lt x y=false)(h2:lt y z=false):lt x z=false:=by
 cases h3:lt x z with
 | false=>rfl
 | true =>
   exfalso;cases h4:lt y x with
   | true=>rw [h.trans y hy x hx z hz h4 h3] at h2; cases h2
   | false =>have:=h.tot x hx y hy h1 h4;subst this;rw [h3] at h2; cases h2
abbrev Srt (lt:α->α->Bool)(l:List α):Prop:=l.Pairwise λa b=>lt b a=false
theorem D5.wk (h:D5 lt xs):DY lt xs:=⟨h.ML,h.trans,λ_ hx _ hy _ hz h1 h2=>h.ntrans hx hy hz h1 h2⟩
theorem jF' {β:Type}(d:Array β){m:Nat}(h:d.size=m):d.extract 0 m=d:=by subst h; simp
theorem YN (h:DY lt xs):(vz lt xs).Perm xs/\Srt lt (vz lt xs):=by
 unfold vz;split
 ·rename_i hn
  letI:Inhabited (Fin xs.length):=⟨⟨0,hn⟩⟩
  have Zi:Sort.SWO (λi j:Fin xs.length=>lt xs[i] xs[j]):=⟨λi=>h.ML _ (Lu' _),λi j k=>h.trans _ (Lu' _) _ (Lu' _) _ (Lu' _),λi j k=>h.ntrans _ (Lu' _) _ (Lu' _) _ (Lu' _)⟩;have hh:=Sort.pdq_sorts (λi j:Fin xs.length=>lt xs[i] xs[j]) Zi (MY' (n:=xs.length) id) 0 xs.length (Lib.bitLen xs.length) true true (Mb' _) (by simp) (Or.inl rfl)
  generalize Sort.pdq (λi j:Fin xs.length=>lt xs[i] xs[j]) (MY' (n:=xs.length) id) 0 xs.length (Lib.bitLen xs.length) true true=d' at hh ⊢;obtain ⟨⟨h1,_,h2⟩,hs⟩:=hh;have hsz:d'.size=xs.length:=by rw [h1]; simp
  have hp':d'.toList.Perm (List.ofFn (n:=xs.length) id):=by
   rw [jF' d' hsz,jF' (MY' (n:=xs.length) (id:Fin xs.length->Fin xs.length)) (by simp)] at h2
   simpa using h2
  have hxs:(List.ofFn (n:=xs.length) id).map (λi:Fin xs.length=>xs[i])=xs:=by
   apply List.ext_getElem
   ·simp
   ·intro i h1 h2;simp
  refine ⟨?_,?_⟩
  ·have:=hp'.map (λi:Fin xs.length=>xs[i]);rwa [hxs] at this
  ·rw [Srt,NZ'];intro i j hi hj hij;simp only [LH',LV'] at hi hj;have:=hs i j (Mb' _) hij (by omega)
   rw [getElem!_pos d' j hj,getElem!_pos d' i hi] at this;simp only [List.getElem_map,Array.getElem_toList];exact this
 ·rename_i hn;have:xs=[]:=LB' (by omega)
  subst this;exact ⟨List.Perm.refl _,NV'.nil⟩
theorem Ao' (h:DY lt xs):(vz lt xs).length=xs.length:=(YN h).1.length_eq
theorem Dp' {g:α->α->Option Int}{ys:List α}(h:KI xs g=some ys):DZ xs g/\ys=vz (jb g) xs:=by
 unfold KI at h;split at h
 ·rename_i hk; cases h; exact ⟨hk,rfl⟩
 ·cases h
end
section
variable {α:Type} [Rp α] {σ τ:S}
def KG (cs:List Value)(sz n:Nat)(i:Fin n):List Value:=(cs.drop (i.val*sz)).take sz
theorem LM {xs:List α}{cs:List Value}(h:dJ σ xs cs)(i:Fin xs.length):Rp.cells σ xs[i] (KG cs (Rp.sz α) xs.length i):=by
 obtain ⟨c1,cj,c2,e1,e2,e3,_⟩:=Px h (Lb' i.isLt);have:KG cs (Rp.sz α) xs.length i=cj:=by unfold KG;rw [e1,Lt',<- e2,List.drop_left,<- Rp.len e3,MJ']
 rw [this]; exact e3
theorem kq' {n:Nat}{enc:Fin n->List Value}{xs:Fin n->α}(h:∀ i,Rp.cells σ (xs i) (enc i)):∀ l:List (Fin n),dJ σ (l.map xs) (l.flatMap enc)
 | []=>rfl
 | i::l=>⟨_,_,rfl,h i,kq' h l⟩
theorem VW {n k:Nat}{enc:Fin n->List Value}(hk:∀ i,(enc i).length=k)(hp:0<k):∀ (l:List (Fin n)) (t:Nat),t<l.length*k->(l.flatMap enc)[t]?=(l[t / k]?.bind λi=>(enc i)[t%k]?)
 | [],t,h=>by simp at h
 | i::l,t,h=>by
   rw [Mk'];by_cases hlt:t<k
   ·rw [LD' (by rw [hk]; exact hlt),Nat.div_eq_of_lt hlt,Nt' hlt]
    rfl
   ·have hle:=Nu' hlt;rw [Ls' (by rw [hk]; exact hle),hk,VW hk hp l (t-k) (by simp [LP'] at h; omega)]
    have e1:t / k=(t-k) / k+1:=Nat.div_eq_sub_div hp hle;have e2:t%k=(t-k)%k:=Nat.mod_eq_sub_mod hle;rw [e1,e2,MO']
theorem bm' {n k:Nat} [Inhabited (Fin n)] {enc:Fin n->List Value}(hk:∀ i,(enc i).length=k)(hp:0<k)(d:Array (Fin n)):(Sort.flatK enc k d).toList=d.toList.flatMap enc:=by
 apply Np';intro t;by_cases ht:t<d.size*k
 ·rw [VW hk hp d.toList t (by simpa using ht)]
  have hq:t / k<d.size:=by rw [Nat.div_lt_iff_lt_mul hp]; exact ht
  have hm:t%k<k:=Nat.mod_lt _ hp;have e1:(Sort.flatK enc k d)[t]! = (enc d[t / k]!)[t%k]! := Sort.get_flatK enc k d t ht;rw [getElem!_pos (Sort.flatK enc k d) t (by simpa using ht)] at e1
  rw [Lz',Mw' (by simpa using ht),e1,Lz',Mw' hq,getElem!_pos d (t / k) hq]
  simp only [KY'];rw [Lb' (by rw [hk]; exact hm),getElem!_pos _ _ (by rw [hk]; exact hm)]
 ·rw [LR' (by simp; omega),LR' (by
   have:(d.toList.flatMap enc).length=d.size*k:=by
    have:∀ l:List (Fin n),(l.flatMap enc).length=l.length*k:=by
     intro l
     induction l with
     | nil=>simp
     | cons i l ih=>simp [ih,hk,LP',Nat.add_comm]
    simpa using this d.toList
   omega)]
def ku (w:World)(g m:Nat)(F:Array Value)(os:Array Obj):World:=Sort.grow (Sort.putRow id (Sort.ahead w m) g 0 F) os
theorem Yp {w:World}{g m:Nat}{F:Array Value}{os:Array Obj}{b:Nat}(hb:b<w.heap.size)(hne:b≠g):(ku w g m F os).heap[b]?=w.heap[b]?:=by simp only [ku,Sort.grow,Sort.putRow,Sort.mapBlock,Sort.ahead];rw [NB' (by simpa using hb),Nh',if_neg (λe=>hne e.symm)]
theorem we' {w:World}{g m:Nat}{F:Array Value}{os:Array Obj}{aM:Array Value}{E:TypeId}(h:w.heap[g]?=some (.cells aM E (0,0)))(hF:F.size<=aM.size) :
 (ku w g m F os).heap[g]?=some (.cells (F.toList++aM.toList.drop F.size).toArray E (0,0)):=by
 have hb:g<w.heap.size:=jJ h;simp only [ku,Sort.grow,Sort.putRow,Sort.mapBlock,Sort.ahead];rw [NB' (by simpa using hb),Nh',if_pos rfl,h]
 simp only [Mv',Sort.onCells,LI'.injEq,Obj.cells.injEq,and_self,and_true];apply NL';intro i;simp only [Sort.putCells,Array.getElem?_mapIdx,MU',id];by_cases hi:i<F.size
 ·rw [LD' (by simpa using hi),Lz',Mw' hi,Mw' (by omega:i<aM.size)]
  simp only [Mv',Mb',LM',hi,and_self,if_true,Nat.sub_zero];rw [getElem!_pos F i hi]
 ·rw [Ls' (by simpa using Nu' hi),Mh']
  rw [LV',Nat.add_sub_cancel' (Nu' hi),Lz'];cases hc:aM[i]? with
  | none=>rfl
  | some v=>simp [hi]
def zM (σ:S)(W:World):S:=⟨W,λb=>if b<σ.N then σ.L b else (0,b)⟩
theorem AT' (w:World)(g m:Nat)(F:Array Value)(os:Array Obj):(ku w g m F os).heap.size=w.heap.size+os.size:=by simp [ku,Sort.grow,Sort.putRow,Sort.mapBlock,Sort.ahead]
theorem K9 {g m k:Nat}{E:TypeId}{xs:List α}{A:Option Addr}{F:Array Value}{os:Array Obj}(hown:fD (some g) false E σ xs A k):Stp (λb=>b=g) σ (zM σ (ku σ.w g m F os)):=by
 obtain ⟨aM,cs,rfl,hh,h1,h2,h3,h4,h5,h6⟩:=hown;have hL:∀ b,b<σ.N->(zM σ (ku σ.w g m F os)).L b=σ.L b:=λb hb=>by simp [zM,hb]
 refine ⟨⟨?_,λb hb=>by rw [hL b hb]; exact Lg' _,λb o v ho hc=>?_,?_,λb o hb hf=>?_⟩,rfl,rfl,rfl,λb hb hn=>⟨Yp hb hn,by rw [hL b hb]⟩⟩
 ·show σ.w.heap.size<=(ku σ.w g m F os).heap.size;rw [AT']; omega
 ·have hlt:=um hc;by_cases e:b=g
  ·subst e;rw [show (σ.L b).1=0 from h6] at ho
   omega
  ·exact (wJ (Yp hlt e) o).trans hc
 ·show σ.w.drawn<=(ku σ.w g m F os).drawn;simp [ku,Sort.grow,Sort.putRow,Sort.mapBlock,Sort.ahead]
 ·by_cases e:b=g
  ·subst e;have hb':∃ c',(ku σ.w b m F os).heap[b]?=some (.cells c' E (0,0)):=⟨_,by
    simp only [ku,Sort.grow,Sort.putRow,Sort.mapBlock,Sort.ahead];rw [NB' (by simpa using jJ hh),Nh',if_pos rfl,hh]
    rfl⟩
   obtain ⟨c',hb'⟩:=hb';exact Vw hb' o
  ·exact (Ck (Yp hb e) o).trans hf
theorem Vz {g m k:Nat}{E:TypeId}{xs ys:List α}{A:Option Addr}{F:Array Value}{os:Array Obj}(hown:fD (some g) false E σ xs A k)(hF:dJ σ ys F.toList)(hl:ys.length=xs.length) :
 fD (some g) false E (zM σ (ku σ.w g m F os)) ys A k:=by
 have hst:=K9 (m:=m) (F:=F) (os:=os) hown;obtain ⟨aM,cs,rfl,hh,h1,h2,h3,h4,h5,h6⟩:=hown;have DJ:F.size=xs.length*Rp.sz α:=by rw [<- LV',hF.len,hl]
 have hle:F.size<=aM.size:=by rw [DJ,h3]; exact LA' _ h1
 refine ⟨(F.toList++aM.toList.drop F.size).toArray,F.toList,rfl,we' hh hle,by rw [hl]; exact h1,h2,?_,hF.mono hst.eP,?_,?_⟩
 ·simp; omega
 ·rw [hl,<- DJ,<- LV'];exact MJ'
 ·show (if g<σ.N then σ.L g else (0,g)).1=_
  rw [if_pos (jJ hh)];exact h6
theorem xB' {τ υ:S}(h:Stp rf τ υ):∃ q os,υ.w=Sort.grow (τ.w.drewN q) os:=by
 refine ⟨υ.w.drawn-τ.w.drawn,υ.w.heap.extract τ.w.heap.size υ.w.heap.size,?_⟩;have hd:=h.eP.drawn;have hs:τ.w.heap.size<=υ.w.heap.size:=h.eP.size;have e1:=h.os;have e2:=h.tape;have e3:=h.output;have hheap:υ.w.heap=τ.w.heap++υ.w.heap.extract τ.w.heap.size υ.w.heap.size:=by
  apply NL';intro i;by_cases hi:i<τ.w.heap.size
  ·rw [NB' hi];exact (h.block i hi (λh=>h)).1
  ·rw [Array.getElem?_append_right (Nu' hi),Array.getElem?_extract];have:τ.w.heap.size+(i-τ.w.heap.size)=i:=by omega
   rw [this];split
   ·rfl
   ·rw [Nc' (by omega)]
 cases hu:υ.w with
 | mk heap tape drawn os output =>rw [hu] at hd hs e1 e2 e3 hheap;simp only [Sort.grow,World.drewN];simp only at hd hheap e1 e2 e3;rw [<- hheap,e1,e2,e3];congr 1;omega
theorem bq' {β:Type} [Inhabited β] (enc:β->Value)(w:World)(g:Nat)(dk:Array β):Sort.putRow enc w g 0 dk=Sort.putRow id w g 0 (dk.map enc):=by
 unfold Sort.putRow;congr 1;funext c;unfold Sort.putCells;apply NL';intro i;simp only [Array.getElem?_mapIdx,Array.size_map];cases hc:c[i]? with
 | none=>rfl
 | some v =>
   simp only [Mv',LI'.injEq];split
   ·rename_i hi;have hi':i-0<dk.size:=by omega
    rw [getElem!_pos dk (i-0) hi',id,getElem!_pos (dk.map enc) (i-0) (by simpa using hi'),Array.getElem_map]
   ·rfl
theorem fe' {P:Program}{g:FuncId}(h:mV P g)(args:Array Value)(w:World):(callFunc g args).run P w=.ok (.enter g args) w:=by
 obtain ⟨fn,c,h1,h2,h3⟩:=h;have h3' : fn.name ≠ "runtime.NumGoroutine" := by simpa using h3
 simp [callFunc,h1,h2,h3']
theorem xa' {P:Program}{g:FuncId}{vs:List Value}{τ:S}{E:S->Prop}{R:Value->S->Prop}(hb:mV P g)(h:kX P g vs τ E R):Calls P g vs.toArray τ.w λe w'=>∃ v υ,e=.returned v/\υ.w=w'/\E υ/\R v υ:=by
 rcases h with ⟨_,h⟩ | ⟨v,υ,h,_⟩
 ·exact h
 ·rw [fe' hb] at h; cases h
omit [Rp α] in
theorem gm' {n:Nat}{xs:Fin n->α}{l:List α}{gf:α->α->Option Int}(hl:∀ i,xs i∈l)(ht:DY (jb gf) l)(cf:Fin n->Fin n->Int)(hcf:∀ i j,gf (xs i) (xs j)=some (cf i j)):Sort.SWO (Go.Proofs.ltOf cf):=by
 have e:∀ i j,Go.Proofs.ltOf cf i j=jb gf (xs i) (xs j):=λi j=>by simp [Go.Proofs.ltOf,jb,hcf i j]
 refine ⟨λi=>?_,λi j k h1 h2=>?_,λi j k h1 h2=>?_⟩
 ·rw [e]; exact ht.ML _ (hl i)
 ·rw [e] at *; exact ht.trans _ (hl i) _ (hl j) _ (hl k) h1 h2
 ·rw [e] at *; exact ht.ntrans _ (hl i) _ (hl j) _ (hl k) h1 h2
omit [Rp α] in
theorem uI' {xs:List α}(hn:0<xs.length) [inst:Inhabited (Fin xs.length)] {gf:α->α->Option Int}{cf:Fin xs.length->Fin xs.length->Int}(hcf:∀ i j:Fin xs.length,gf xs[i.val] xs[j.val]=some (cf i j))(hi:inst=⟨⟨0,hn⟩⟩) :
 (Sort.pdq (Go.Proofs.ltOf cf) (MY' (n:=xs.length) id) 0 xs.length (Lib.bitLen xs.length) true true).toList.map (λi:Fin xs.length=>xs[i])=vz (jb gf) xs:=by
 have e:Go.Proofs.ltOf cf=λi j:Fin xs.length=>jb gf xs[i] xs[j]:=by funext i j;have:=hcf i j;have e2:gf xs[i] xs[j]=some (cf i j):=this;simp only [Go.Proofs.ltOf,jb,e2]
 rw [e];unfold vz;rw [dif_pos hn];subst hi;rfl
open Go.Proofs in
theorem As' {P:Program}{ρ:Go.Shelf.Ren}(L:Go.Proofs.SlLaysF0.n6 P ρ){fs:Array Field}{E:TypeId}(hu:P.underlying (ρ.t 24)=some (.struct fs))(hz:(P.info? (ρ.t 24)).map (·.size)=some (Rp.sz α)){xs:List α}{A:Option Addr}{k:Nat}{ow:Option Nat}(hown:fD ow false E σ xs A k)
 {g:FuncId} {cb:List Value} {gf:α->α->Option Int} (hok:DZ xs gf) (hbody:mV P g)
 (hcmp:∀ τ,Stp (λb=>σ.N<=b\/ow=some b) σ τ->∀ x y cx cy r,Rp.cells τ x cx->Rp.cells τ y cy->gf x y=some r->kX P g ([.agg cx.toArray,.agg cy.toArray]++cb) τ (Stp rf τ) λv _=>v=.int .i64 r) :
 kX P (ρ.f 6) [.slice A xs.length k,.func (.func g) #[] cb.toArray] σ (Stp (λb=>ow=some b) σ) λv τ=>v=.tuple #[]/\fD ow false E τ (vz (jb gf) xs) A k:=by
 have hb6:mV P (ρ.f 6):=by obtain ⟨nm,hn,hf⟩:=L.f6;exact ⟨_,_,hf,rfl,hn⟩
 refine .inl ⟨hb6,?_⟩;cases hx:xs with
 | nil =>subst hx;refine (AnyF.slices_SortFunc_none L A k (.func (.func g) #[] cb.toArray) σ.w).mono λe w' ⟨he,hw⟩=>?_;exact ⟨_,σ,he,hw.symm,Stp.refl _ _,rfl,hown⟩
 | cons x0 r0 =>
   rw [<- hx];cases ow with
   | none =>
     rcases hown with ⟨e,_⟩ | ⟨e,_⟩
     ·rw [hx] at e; cases e
     ·cases e
   | some gb =>
     have hown0:=hown;obtain ⟨aM,cs,rfl,hh,h1,h2,h3,h4,h5,h6⟩:=hown;have hn:0<xs.length:=by rw [hx]; simp
     let n:=xs.length
     letI:Inhabited (Fin xs.length):=⟨⟨0,hn⟩⟩
     let enc:Fin xs.length->List Value:=KG cs (Rp.sz α) xs.length
     have hpos:=Rp.pos (α:=α);have hek:∀ i,(enc i).length=Rp.sz α:=λi=>Rp.len (LM h4 i);have he1:∀ i,∀ v∈enc i,v.oneCell'=true:=λi v hv=>Rp.one (LM h4 i) v hv
     let cf:Fin xs.length->Fin xs.length->Int:=λi j=>(gf xs[i] xs[j]).getD 0
     have hcf:∀ i j:Fin xs.length,gf xs[i.val] xs[j.val]=some (cf i j):=λi j=>by obtain ⟨r,hr⟩:=hok.dfd xs[i] (Lu' _) xs[j] (Lu' _);have hr':gf xs[i.val] xs[j.val]=some r:=hr;show _=some ((gf xs[i.val] xs[j.val]).getD 0);rw [hr']; rfl
     have Ta:∀ {υ:S} (_:gT σ υ) (dk:Array (Fin xs.length)),dJ υ (dk.toList.map λi=>xs[i]) (Sort.flatK enc (Rp.sz α) dk).toList:=λhw dk=>by rw [bm' hek hpos];exact (kq' (λi=>LM h4 i) dk.toList).mono hw
     have hcur:∀ j,j<xs.length*Rp.sz α->aM[j]?=cs[j]?:=λj hj=>by rw [<- h5,Lw' hj,Lz']
     have hd0:(Sort.flatK enc (Rp.sz α) (MY' (n:=xs.length) id)).toList=cs:=by
      have hA:=Ta (gT.refl σ) (MY' (n:=xs.length) id);apply Np';intro t;by_cases ht:t<xs.length*Rp.sz α
      ·rw [bm' hek hpos,VW hek hpos _ t (by simpa using ht)]
       have hq:t / Rp.sz α<xs.length:=by rw [Nat.div_lt_iff_lt_mul hpos]; exact ht
       simp only [Array.toList_ofFn,List.getElem?_ofFn,hq,dite_true,KY',id];simp only [enc,KG];rw [Lw' (Nat.mod_lt _ hpos),Mh'];congr 1;exact Nat.div_add_mod' t (Rp.sz α)
      ·rw [LR' (by simp; omega),LR' (by rw [h4.len]; omega)]
     have hholds:Sort.HoldsK enc (Rp.sz α) σ.w gb 0 (MY' (n:=xs.length) id):=by
      intro j hj;have hj':j<xs.length*Rp.sz α:=by simpa using hj
      have hjc:j<cs.length:=by rw [h4.len]; exact hj'
      refine ⟨?_,by simp [World.frozen?,hh]⟩
      have e1:σ.w.cell? ⟨gb,0+j,none⟩=aM[j]?:=by simp [World.cell?,hh]
      rw [e1,hcur j hj',getElem!_pos _ j (by simpa using hj'),Lb' hjc]
      congr 1;have:=congrArg (λl:List Value=>l[j]?) hd0;simp only [Lz'] at this;rw [Mw' (by simpa using hj'),Lb' hjc] at this
      exact (LI'.inj this).symm
     have hlt:gb<σ.w.heap.size:=jJ hh;have hcl:CmpLays P g cb.toArray enc (Rp.sz α) cf gb 0 (MY' (n:=xs.length) (id:Fin xs.length->Fin xs.length)).size σ.w:=by
      intro m os dk hdk i j;have hst:=K9 (m:=m) (F:=Sort.flatK enc (Rp.sz α) dk) (os:=os) hown0;have hc:=hcmp (zM σ (ku σ.w gb m (Sort.flatK enc (Rp.sz α) dk) os)) (hst.mono λb _ e=>.inr (by rw [e])) xs[i] xs[j] (enc i) (enc j) (cf i j) (Rp.mono hst.eP (LM h4 i)) (Rp.mono hst.eP (LM h4 j)) (hcf i j)
      have hc':=xa' hbody hc;have e:(#[Value.agg (enc i).toArray,Value.agg (enc j).toArray]++cb.toArray)=([Value.agg (enc i).toArray,Value.agg (enc j).toArray]++cb).toArray:=by simp
      rw [e];refine Calls.mono hc' λe w' ⟨v,υ,h1,h2,h3,h4⟩=>?_;obtain ⟨q,os',ho⟩:=xB' h3;exact ⟨by rw [h1,h4],q,os',by rw [<- h2]; exact ho⟩
     have aE:∀ w,(isAgg (ρ.t 24)).run P w=.ok true w:=λw=>by simp [isAgg,run_underlying hu]
     have main:=AnyQ.slices_SortFunc_eq L (Rp.sz α) aE (λw=>Sx.run_sizeOf hz w) enc hek he1 cf (gm' (xs:=λi:Fin xs.length=>xs[i]) (l:=xs) (λi=>Lu' _) hok.wk cf hcf) g cb.toArray gb 0 k (MY' (n:=xs.length) id) σ.w (fe' hbody) hcl hholds hlt (by simp only [Array.size_ofFn]; exact hok.len)
     have hs:(MY' (n:=xs.length) (id:Fin xs.length->Fin xs.length)).size=xs.length:=by simp
     rw [hs] at main;have lE':=uI' hn hcf rfl;have Zi:=gm' (xs:=λi:Fin xs.length=>xs[i]) (l:=xs) (λi=>Lu' _) hok.wk cf hcf;have hp:=(Sort.pdq_sorts (ltOf cf) Zi (MY' (n:=xs.length) id) 0 xs.length (Lib.bitLen xs.length) true true (Mb' _) (by simp) (Or.inl rfl)).1
     generalize Sort.pdq (ltOf cf) (MY' (n:=xs.length) id) 0 xs.length (Lib.bitLen xs.length) true true=d' at main lE' hp;refine Calls.mono main λe w' ⟨he,m,os,hw⟩=>?_;have hst:=K9 (m:=m) (F:=Sort.flatK enc (Rp.sz α) d') (os:=os) hown0;refine ⟨_,zM σ (ku σ.w gb m (Sort.flatK enc (Rp.sz α) d') os),he,hw.symm,hst.mono λb _ e=>by rw [e],rfl,?_⟩
     rw [<- lE'];exact Vz hown0 (Ta (gT.refl σ) d') (by simp; rw [hp.1]; simp)
end
section
variable {I:TypeId->Type} [∀ E,Rp (I E)] {P:Program}
def uX {α:Type}(xs:List α)(g:α->α->Option Int):Option (Unit×List α):=(KI xs g).bind λys=>some ((),ys)
theorem pz' {σ τ:S}{E:TypeId}{ks:List Kd}{rs:List V}{v1 v2:Value}{gr:List Nat}{res:Unit}:Post (I:=I) σ τ [.row E false,.fn ks rs] [] [v1,v2] res gr (.tuple #[]) [] [] [] :=
 ⟨rfl,rfl,⟨rfl,rfl⟩,rfl,by simp [ows],λg hg=>by simp [ows] at hg⟩
theorem aX' {ρ:Go.Shelf.Ren}(L:Go.Proofs.SlLaysF0.n6 P ρ){fs:Array Field}(f:FuncId)(hf:ρ.f 6=f){E:TypeId}(hE:ρ.t 24=E)(hu:P.underlying E=some (.struct fs))(hz:(P.info? E).map (·.size)=some (Rp.sz (I E))) :
 u6 P (⟨f,E,[.fn [.dat E,.dat E] [.k (.d (.int .i64))]],[],λxs g=>uX xs g⟩:Rio I):=by
 subst hf;subst hE;intro σ xs a vs au res ys hA hnd happ;obtain ⟨v1,vs1,p1,q1,e1,e2,⟨A,k,ow,e3,hown,e4⟩,v2,vs2,p2,q2,e5,e6,⟨g,av,cb,e7,⟨hbody,has,hfn⟩,e8⟩,e9,e10⟩:=hA;obtain ⟨gf,u⟩:=a;have happ:uX xs gf=some (res,ys):=happ;unfold uX at happ;obtain ⟨ys',hs,happ⟩:=bind_some happ;cases happ;obtain ⟨hok,hys⟩:=Dp' hs;have e9:vs2=[]:=e9;have e10:q2=[]:=e10;have e3:v1=.slice A xs.length k:=e3;have e4:p1=[⟨A,k,xs.length,ow⟩]:=e4;have e7:v2=.func (.func g) (MF' av) (MF' cb):=e7;have e8:p2=[]:=e8;subst e9; subst e10; subst has; subst e8; subst e6; subst e4; subst e5; subst e7; subst e3; subst e1;rw [MK'] at e2;subst e2;have hc:=As' (σ:=σ) L hu hz hown hok hbody (cb:=cb) (λτ hst x y cx cy r hx hy hr=>by
  have h1:=hfn τ (hst.mono λb _ hb=>hb.imp id λh=>by rw [h]; simp [ows]) (x,y,()) [.agg cx.toArray,.agg cy.toArray] r ⟨_,_,rfl,⟨cx,rfl,hx⟩,_,_,rfl,⟨cy,rfl,hy⟩,rfl⟩ hr
  exact kX.mono h1 rfl λv υ hE ⟨ws,hv,ht⟩=>⟨υ,rfl,hE,by obtain ⟨w,hw,ht,_⟩:=ht;rw [hv,hw];exact ht⟩)
 refine kX.mono hc rfl λv τ hE ⟨hv,hO⟩=>⟨τ,rfl,hE.mono λb _ hb=>by rw [hb]; simp [ows],[],[],[],by rw [hv]; exact pz',A,k,ow,rfl,by rw [hys]; exact Ao' hok.wk,by rw [hys]; exact hO,λg _=>by simp [ows]⟩
def Jz {α:Type}(toS:α->ByteArray)(xs:List α):Option (Unit×List α):=bif xs.length<4611686018427387904 then some ((),xs.mergeSort λx y=>decide ((toS x).data.toList<=(toS y).data.toList)) else none
def LQ (xs:List ByteArray):Option (Unit×List ByteArray):=Jz (λx=>x) xs
open Go.Proofs in
theorem Cy' {ρ:Go.Shelf.Ren}(L:Go.Proofs.Lays.n190 P ρ)(f:FuncId)(hf:ρ.f 190=f){E:TypeId}(toS:I E->ByteArray)(hI:∀ {σ:S} {x:I E} {cs:List Value},Rp.cells σ x cs↔cs=[.string (toS x)])(hb:mV P f) :
 u6 P (⟨f,E,[],[],λxs=>Jz toS xs⟩:Rio I):=by
 subst hf;intro σ xs a vs au res ys hA hnd happ;obtain ⟨v1,vs1,p1,q1,e1,e2,⟨A,k,ow,e3,hown,e4⟩,e9,e10⟩:=hA;have happ:Jz toS xs=some (res,ys):=happ;unfold Jz at happ;obtain ⟨hlen,happ⟩:=bA happ;have hlen:xs.length<4611686018427387904:=by simpa using hlen
 have e9:vs1=[]:=e9;have e10:q1=[]:=e10;have e3:v1=.slice A xs.length k:=e3;have e4:p1=[⟨A,k,xs.length,ow⟩]:=e4;subst e9; subst e10; subst e4; subst e3; subst e1;rw [MK'] at e2;subst e2;cases happ;have hpost:∀ {τ:S},Post (I:=I) σ τ [.row E false] [] [.slice A xs.length k] () (ows [(⟨A,k,xs.length,ow⟩:Pl)]) (.tuple #[]) [] [] []:=⟨rfl,rfl,⟨rfl,rfl⟩,rfl,by simp [ows],λg hg=>by simp [ows] at hg⟩
 refine .inl ⟨hb,?_⟩;have hown:fD ow false E σ xs A k:=hown;cases hx:xs with
 | nil =>subst hx;refine (Any.slices_Sort_string_none L A k σ.w).mono λe w' ⟨he,hw⟩=>?_;exact ⟨_,σ,he,hw.symm,Stp.refl _ _,[],[],[],hpost,A,k,ow,rfl,by simp,by simpa using hown,λg _=>by simp [ows]⟩
 | cons x0 r0 =>
   rw [<- hx];cases ow with
   | none =>
     rcases hown with ⟨e,_⟩ | ⟨e,_⟩
     ·rw [hx] at e; cases e
     ·cases e
   | some gb =>
     have hown0:=hown;obtain ⟨aM,cs,rfl,hh,h1,h2,h3,h4,h5,h6⟩:=hown;have hsz1:Rp.sz (I E)=1:=by have:=Rp.len (hI (σ:=σ) (x:=x0).2 rfl);simpa using this.symm
     have Zj:∀ {l:List (I E)} {ds:List Value},dJ σ l ds->ds=l.map λx=>Value.string (toS x):=by
      intro l
      induction l with
      | nil=>intro ds h; exact h
      | cons x l ih =>intro ds ⟨c,r,e,hc,hr⟩;rw [e,hI.1 hc,ih hr]; rfl
     have Zk:∀ {υ:S} (l:List (I E)),dJ υ l (l.map λx=>Value.string (toS x)):=by
      intro υ l
      induction l with
      | nil=>rfl
      | cons x l ih=>exact ⟨[_],_,rfl,hI.2 rfl,ih⟩
     let jE:I E->List UInt8:=λx=>(toS x).data.toList
     have henc:∀ x:I E,Go.Proofs.encStr (jE x)=Value.string (toS x):=λx=>rfl;have hholds:Sort.Holds Go.Proofs.encStr σ.w gb 0 (xs.map jE).toArray:=by
      intro j hj;have hj':j<xs.length:=by simpa using hj
      refine ⟨?_,by simp [World.frozen?,hh]⟩
      have e1:σ.w.cell? ⟨gb,0+j,none⟩=aM[j]?:=by simp [World.cell?,hh]
      have e2:aM[j]?=cs[j]?:=by rw [<- h5,hsz1,Ne',Lw' hj',Lz']
      rw [e1,e2,Zj h4,Na',Lb' hj',getElem!_pos _ j (by simpa using hj')]
      simp [jE]
     have main:=Any.slices_Sort_string L gb 0 k (xs.map jE) σ.w hholds (jJ hh) (by simpa using hlen)
     rw [LH'] at main;refine Calls.mono main λe w' ⟨he,m,os,hw⟩=>?_;have hmap:((xs.mergeSort λx y=>decide (jE x<=jE y)).map jE)=(xs.map jE).mergeSort λx y=>decide (x<=y):=List.map_mergeSort λa _ b _=>rfl
     let ys:=xs.mergeSort λx y=>decide (jE x<=jE y)
     have hput:∀ (w:World),Sort.putRow Go.Proofs.encStr w gb 0 ((xs.map jE).mergeSort λx y=>decide (x<=y)).toArray=Sort.putRow id w gb 0 (ys.map λx=>Value.string (toS x)).toArray:=λw=>by rw [bq',<- hmap];congr 1;simp [ys,jE]
     have hst:=K9 (m:=m) (F:=(ys.map λx=>Value.string (toS x)).toArray) (os:=os) hown0;refine ⟨_,zM σ (ku σ.w gb m (ys.map λx=>Value.string (toS x)).toArray os),he,?_,hst.mono λb _ e=>by rw [e]; simp [ows],[],[],[],hpost,_,k,some gb,rfl,by simp,?_,λg _=>by simp [ows]⟩
     ·rw [hw];show ku σ.w gb m (ys.map λx=>Value.string (toS x)).toArray os=_;unfold ku;rw [hput]
     ·exact Vz hown0 (Zk ys) (by simp)
def LA {α:Type}(sD:α->Int)(xs:List α):Option (Unit×List α):=bif xs.length<4611686018427387904 then some ((),xs.mergeSort λx y=>decide (sD x<=sD y)) else none
def WT (xs:List Int):Option (Unit×List Int):=LA (λx=>x) xs
open Go.Proofs in
theorem oL' {ρ:Go.Shelf.Ren}(L:Go.Proofs.Lays.n189 P ρ)(f:FuncId)(hf:ρ.f 189=f){E:TypeId}(sD:I E->Int)(hI:∀ {σ:S} {x:I E} {cs:List Value},Rp.cells σ x cs↔cs=[.int .i64 (sD x)])(hb:mV P f) :
 u6 P (⟨f,E,[],[],λxs=>LA sD xs⟩:Rio I):=by
 subst hf;intro σ xs a vs au res ys hA hnd happ;obtain ⟨v1,vs1,p1,q1,e1,e2,⟨A,k,ow,e3,hown,e4⟩,e9,e10⟩:=hA;have happ:LA sD xs=some (res,ys):=happ;unfold LA at happ;obtain ⟨hlen,happ⟩:=bA happ;have hlen:xs.length<4611686018427387904:=by simpa using hlen
 have e9:vs1=[]:=e9;have e10:q1=[]:=e10;have e3:v1=.slice A xs.length k:=e3;have e4:p1=[⟨A,k,xs.length,ow⟩]:=e4;subst e9; subst e10; subst e4; subst e3; subst e1;rw [MK'] at e2;subst e2;cases happ;have hpost:∀ {τ:S},Post (I:=I) σ τ [.row E false] [] [.slice A xs.length k] () (ows [(⟨A,k,xs.length,ow⟩:Pl)]) (.tuple #[]) [] [] []:=⟨rfl,rfl,⟨rfl,rfl⟩,rfl,by simp [ows],λg hg=>by simp [ows] at hg⟩
 refine .inl ⟨hb,?_⟩;have hown:fD ow false E σ xs A k:=hown;cases hx:xs with
 | nil =>subst hx;refine (Any.slices_Sort_int_none L A k σ.w).mono λe w' ⟨he,hw⟩=>?_;exact ⟨_,σ,he,hw.symm,Stp.refl _ _,[],[],[],hpost,A,k,ow,rfl,by simp,by simpa using hown,λg _=>by simp [ows]⟩
 | cons x0 r0 =>
   rw [<- hx];cases ow with
   | none =>
     rcases hown with ⟨e,_⟩ | ⟨e,_⟩
     ·rw [hx] at e; cases e
     ·cases e
   | some gb =>
     have hown0:=hown;obtain ⟨aM,cs,rfl,hh,h1,h2,h3,h4,h5,h6⟩:=hown;have hsz1:Rp.sz (I E)=1:=by have:=Rp.len (hI (σ:=σ) (x:=x0).2 rfl);simpa using this.symm
     have Zj:∀ {l:List (I E)} {ds:List Value},dJ σ l ds->ds=l.map λx=>Value.int .i64 (sD x):=by
      intro l
      induction l with
      | nil=>intro ds h; exact h
      | cons x l ih =>intro ds ⟨c,r,e,hc,hr⟩;rw [e,hI.1 hc,ih hr]; rfl
     have Zk:∀ {υ:S} (l:List (I E)),dJ υ l (l.map λx=>Value.int .i64 (sD x)):=by
      intro υ l
      induction l with
      | nil=>rfl
      | cons x l ih=>exact ⟨[_],_,rfl,hI.2 rfl,ih⟩
     let jE:I E->Int:=sD
     have hholds:Sort.Holds (Value.int .i64) σ.w gb 0 (xs.map jE).toArray:=by
      intro j hj;have hj':j<xs.length:=by simpa using hj
      refine ⟨?_,by simp [World.frozen?,hh]⟩
      have e1:σ.w.cell? ⟨gb,0+j,none⟩=aM[j]?:=by simp [World.cell?,hh]
      have e2:aM[j]?=cs[j]?:=by rw [<- h5,hsz1,Ne',Lw' hj',Lz']
      rw [e1,e2,Zj h4,Na',Lb' hj',getElem!_pos _ j (by simpa using hj')]
      simp [jE]
     have main:=Any.slices_Sort_int L gb 0 k (xs.map jE) σ.w hholds (jJ hh) (by simpa using hlen)
     rw [LH'] at main;refine Calls.mono main λe w' ⟨he,m,os,hw⟩=>?_;have hmap:((xs.mergeSort λx y=>decide (jE x<=jE y)).map jE)=(xs.map jE).mergeSort λx y=>decide (x<=y):=List.map_mergeSort λa _ b _=>rfl
     let ys:=xs.mergeSort λx y=>decide (jE x<=jE y)
     have hput:∀ (w:World),Sort.putRow (Value.int .i64) w gb 0 ((xs.map jE).mergeSort λx y=>decide (x<=y)).toArray=Sort.putRow id w gb 0 (ys.map λx=>Value.int .i64 (sD x)).toArray:=λw=>by rw [bq',<- hmap];congr 1;simp [ys,jE]
     have hst:=K9 (m:=m) (F:=(ys.map λx=>Value.int .i64 (sD x)).toArray) (os:=os) hown0;refine ⟨_,zM σ (ku σ.w gb m (ys.map λx=>Value.int .i64 (sD x)).toArray os),he,?_,hst.mono λb _ e=>by rw [e]; simp [ows],[],[],[],hpost,_,k,some gb,rfl,by simp,?_,λg _=>by simp [ows]⟩
     ·rw [hw];show ku σ.w gb m (ys.map λx=>Value.int .i64 (sD x)).toArray os=_;unfold ku;rw [hput]
     ·exact Vz hown0 (Zk ys) (by simp)
end
def nJ (n:Nat):List UInt8:=bif LF' n 10 then [UInt8.ofNat (48+n)] else [UInt8.ofNat (48+n / 10),UInt8.ofNat (48+n%10)]
def Aa (c:UInt8)(b:List UInt8)(n:Int):Option (List UInt8) :=
 bif decide (0<=n)&&decide (n<100)&&Mq' b.length 1000000 then some (b++c::nJ n.toNat) else none
def AO (c:UInt8):List Int->List UInt8->Option (List UInt8)
 | [],b=>some b
 | n::r,b=>(Aa c b n).bind (AO c r)
theorem xS' {n:Nat}(h:n<100):nJ n=Lib.decDigits n:=by
 unfold nJ;rw [Lib.decDigits];by_cases h0:n<10
 ·have:LF' n 10=true:=by simpa [Nat.blt_eq] using h0
  rw [this,dif_pos h0]; rfl
 ·rw [dif_neg h0,Lib.decDigits,dif_pos (by omega)]
  have:LF' n 10=false:=by
   rcases hb:LF' n 10 with _ | _
   ·rfl
   ·exact absurd (by simpa [Nat.blt_eq] using hb) h0
  rw [this];rfl
end Go.Qx
end

/- Part 0. -/
import Derived.Deep.MidRow
import Derived.Laws.MakeOwn
import Derived.Laws.StructEq
import Derived.Lib.AppendStr
import Derived.Lib.Bytealg
import Derived.MapKept
import Derived.Maps.AppendAt
import Derived.WalkKit
open Array renaming ext_getElem?->NL',getElem?_eq_getElem->Mw',getElem?_eq_none->Nc',getElem?_eq_some_iff->MI',getElem?_modify->Nh',getElem?_toList->Lz',getElem_ofFn->MX',length_toList->LV',ofFn->MY'
open Bool renaming and_eq_true->Lc',and_eq_true_iff->NS',and_true->Ma',false_eq_true->Mi',not_eq_true'->MN'
open Int renaming toNat_natCast->Ln'
open List renaming all_append->Lv',all_cons->LE',all_eq_true->Le',all_nil->Mf',append_assoc->Lt',append_nil->MK',cons_append->Mg',drop_eq_getElem_cons->LO',eq_nil_of_length_eq_zero->LB',ext_getElem?->Np',filterMap_cons->Me',flatMap_cons->Mk',foldl_cons->Mu',getElem?_append_left->LD',getElem?_append_right->Ls',getElem?_drop->Mh',getElem?_eq_getElem->Lb',getElem?_eq_none->LR',getElem?_eq_some_iff->La',getElem?_map->Na',getElem?_take_of_lt->Lw',getElem?_toArray->MU',getElem_of_mem->LW',length_append->Lf',length_cons->Ld',length_drop->LK',length_map->LH',length_nil->Lh',length_pos_iff->NY',length_replicate->Ny',length_take->LC',map_congr_left->Nb',map_cons->LJ',mem_append->Lo',mem_cons->Lq',mem_singleton->Lp',nil_append->Mj',nodup_cons->Nl',range->LY',replicate->Ll',replicate_succ->MR',set_cons_succ->Od',set_eq_take_append_cons_drop->NE',size_toArray->Nq',take_append->NI',take_append_drop->Mm',take_left->MJ',take_length->NT',take_of_length_le->NQ',toArray->MF'
open Nat renaming add_assoc->MC',add_mul->LP',add_sub_cancel_left->Mt',add_zero->ME',beq->Lm',ble->Mq',ble_eq_true_of_le->MV',blt->LF',eq_of_beq_eq_true->Li',le_mul_of_pos_right->Nr',le_of_ble_eq_true->LG',le_of_not_lt->Nu',le_refl->Lg',le_trans->Lr',lt_of_lt_of_le->MB',lt_or_ge->NR',min_eq_left->Nw',mod_eq_of_lt->Nt',mul_le_mul_right->LA',mul_one->Ne',one_mul->NF',zero_add->LM',zero_le->Mb'
open Option renaming bind_assoc->LX',bind_some->KY',getD_some->Mo',isSome_iff_exists->Nk',map_some->Mv',some->LI'
namespace Go.Sx
open Go Go.RowKit
abbrev Fr:=Nat->Value
def upd (F:Fr)(d:Nat)(v:Value):Fr:=λi=>cond (Lm' i d) v (F i)
def fr (n:Nat)(F:Fr):Act:=⟨MY' (n:=n) λi=>F i.val,[]⟩
def ev (F:Fr):Operand->Value
 | .tmp t=>F t
 | .const v=>v
 | .global g=>.pointer (some ⟨g,0,none⟩)
 | .func f=>.func (.func f) #[] #[]
def bR (n:Nat):Operand->Bool
 | .tmp t=>LF' t n
 | _=>true
def dF (F:Fr):Option Nat->Value->Fr
 | some d,v=>upd F d v
 | none,_=>F
theorem kN {a b:Nat}(h:LF' a b=true):a<b:=LG' h
theorem dx {n:Nat}{F:Fr}{x:Operand}(h:bR n x=true):(fr n F).eval x=ev F x:=by
 cases x with
 | tmp t=>have:=kN h; simp [Act.eval,fr,ev,Array.getD,this]
 | _=>rfl
theorem J8 (n:Nat)(F:Fr)(d:Option Nat)(v:Value):(fr n F).put d v=fr n (dF F d v):=by
 cases d with
 | none=>rfl
 | some d =>
   simp only [Act.put,fr,dF];congr 1;apply Array.ext
   ·simp
   ·intro i h1 h2;rw [MX'];by_cases h:d=i
    ·subst h;rw [Array.getElem_setIfInBounds_self];simp [upd]
    ·have hb:Lm' i d=false:=by
      cases hb:Lm' i d with
      | false=>rfl
      | true=>exact absurd (Li' hb).symm h
     rw [Array.getElem_setIfInBounds_ne (by simpa using h2) h,MX']
     simp [upd,hb]
theorem fo' {n:Nat}{F:Fr}{t:Nat}(h:LF' t n=true):(fr n F).tmps.getD t undef=F t:=by have:=kN h; simp [fr,Array.getD,this]
structure S where
 w:World
 L:Nat->Nat×Nat
abbrev S.N (σ:S):Nat:=σ.w.heap.size
structure gT (σ τ:S):Prop where
 size:σ.N<=τ.N
 len:∀ b,b<σ.N->(σ.L b).1<=(τ.L b).1
 cell:∀ b o v,o<(σ.L b).1->σ.w.cell? ⟨b,o,none⟩=some v->τ.w.cell? ⟨b,o,none⟩=some v
 drawn:σ.w.drawn<=τ.w.drawn
 nf:∀ b o,b<σ.N->σ.w.frozen? ⟨b,o,none⟩=false->τ.w.frozen? ⟨b,o,none⟩=false
structure oL (B:Nat)(σ τ:S):Prop where
 below:Below B σ.w τ.w
 mark:∀ b,b<B->τ.L b=σ.L b
 drawn:σ.w.drawn<=τ.w.drawn
abbrev pE (σ τ:S):Prop:=oL σ.N σ τ
structure Mod (B id:Nat)(σ τ:S):Prop where
 eP:gT σ τ
 os:τ.w.os=σ.w.os
 tape:τ.w.tape=σ.w.tape
 output:τ.w.output=σ.w.output
 block:∀ b,b<σ.N->(b<B\/(σ.L b).2≠id)->τ.w.heap[b]?=σ.w.heap[b]?/\τ.L b=σ.L b
theorem um {w:World}{b o:Nat}{v:Value}(h:w.cell? ⟨b,o,none⟩=some v):b<w.heap.size:=by
 rcases NR' b w.heap.size with hlt | hge
 ·exact hlt
 ·simp [World.cell?,Nc' hge] at h
theorem wJ {w w':World}{b:Nat}(h:w'.heap[b]?=w.heap[b]?)(o:Nat):w'.cell? ⟨b,o,none⟩=w.cell? ⟨b,o,none⟩:=by simp only [World.cell?,h]
theorem Ck {w w':World}{b:Nat}(h:w'.heap[b]?=w.heap[b]?)(o:Nat):w'.frozen? ⟨b,o,none⟩=w.frozen? ⟨b,o,none⟩:=by simp only [World.frozen?,h]
theorem Vw {w:World}{b:Nat}{c:Array Value}{e:TypeId}(h:w.heap[b]?=some (.cells c e))(o:Nat):w.frozen? ⟨b,o,none⟩=false:=by simp [World.frozen?,h]
theorem gT.refl (σ:S):gT σ σ:=⟨Lg' _,λ_ _=>Lg' _,λ_ _ _ _ h=>h,Lg' _,λ_ _ _ h=>h⟩
theorem gT.trans {σ τ υ:S}(h:gT σ τ)(k:gT τ υ):gT σ υ :=
 ⟨Lr' h.size k.size,
  λb hb=>Lr' (h.len b hb) (k.len b (MB' hb h.size)),
  λb o v ho hc=>k.cell b o v (MB' ho (h.len b (um hc))) (h.cell b o v ho hc),Lr' h.drawn k.drawn,λb o hb hf=>k.nf b o (MB' hb h.size) (h.nf b o hb hf)⟩
theorem oL.refl (B:Nat)(σ:S):oL B σ σ:=⟨Below.refl _ _,λ_ _=>rfl,Lg' _⟩
theorem oL.trans {B:Nat}{σ τ υ:S}(h:oL B σ τ)(k:oL B τ υ):oL B σ υ:=⟨h.below.trans k.below,λb hb=>(k.mark b hb).trans (h.mark b hb),Lr' h.drawn k.drawn⟩
theorem oL.mono {B C:Nat}{σ τ:S}(h:oL B σ τ)(hc:C<=B):oL C σ τ:=⟨h.below.mono hc,λb hb=>h.mark b (MB' hb hc),h.drawn⟩
theorem oL.size {B:Nat}{σ τ:S}(h:oL B σ τ):σ.N<=τ.N:=h.below.size
theorem oL.eP {σ τ:S}(h:pE σ τ):gT σ τ :=
 ⟨h.below.size,λb hb=>by rw [h.mark b hb]; exact Lg' _,
  λb o v _ hc=>(wJ (h.below.block b (um hc)) o).trans hc,h.drawn,λb o hb hf=>(Ck (h.below.block b hb) o).trans hf⟩
theorem oL.ext {B:Nat}{σ τ υ:S}(h:oL B σ τ)(hB:B<=τ.N)(k:pE τ υ):oL B σ υ:=h.trans (k.mono hB)
theorem qM' {α:Type}(k:Ask α):∀ (w:World),w.drawn<=(w.ask k).2.drawn:=by
 induction k with
 | done a=>intro w; exact Lg' _
 | ask what range k ih =>
   intro w;simp only [World.ask];split
   ·exact ih 0 w
   ·exact Lr' (Nat.le_succ _) (ih _ { w with drawn:=w.drawn+1 })
theorem vI' (w:World)(c:Sys):w.drawn<=(w.sys c).2.drawn:=by
 have h:=qM' (Kernel.perform c w.os) w;unfold World.sys;split
 ·exact Lg' _
 ·rename_i r os w' e;rw [e] at h; exact h
theorem Cz' {p:Program}{w:World}{at_:Addr}{u:TypeId}{k:Addr}{v:Value}{atomic:Bool}{r:World×List Addr}(h:w.viewStore p at_ u k v atomic=.ok r):r.1.drawn=w.drawn:=by
 unfold World.viewStore at h;simp only [bind,Except.bind,pure,Except.pure] at h
 repeat' split at h
 all_goals first | (cases h; rfl) | cases h
theorem ql' {p:Program}{w:World}{a:Addr}{v:Value}{atomic:Bool}{r:World×List Addr}(h:w.farStore p a v atomic=.ok r):r.1.drawn=w.drawn:=by
 unfold World.farStore at h;split at h
 ·split at h
  ·rename_i e; cases h; exact Cz' e
  ·cases h
 ·cases h
theorem CO {α:Type}{P:Program}(m:Sem α):∀ {w w':World} {v:α},m.run P w=.ok v w'->w.drawn<=w'.drawn:=by
 induction m with
 | pure a=>intro w w' v h; simp only [Sem.run] at h; cases h; exact Lg' _
 | load m a k ih =>
   intro w w' v h;simp only [Sem.run] at h;split at h
   ·exact ih _ h
   ·split at h
    ·exact ih _ h
    ·cases h
 | store m a x k ih =>
   intro w w' v h;cases x<;>simp only [Sem.run] at h<;>first
    | (cases h; done)
    | (split at h
       ·split at h
        ·cases h
        ·have:=ih h;exact this
       ·split at h
        ·rename_i e;have:=ql' e;rw [<- this]; exact ih h
        ·cases h)
 | new o k ih=>intro w w' v h; simp only [Sem.run] at h; have:=ih _ h; exact this
 | shape r k ih=>intro w w' v h; simp only [Sem.run] at h; exact ih _ h
 | freeze a n k ih =>
   intro w w' v h;simp only [Sem.run] at h;have:=ih h;have e:(w.freeze a n).drawn=w.drawn:=by unfold World.freeze; split<;>rfl
   rw [e] at this; exact this
 | frozen a k ih=>intro w w' v h; simp only [Sem.run] at h; exact ih _ h
 | getObj r k ih =>
   intro w w' v h;simp only [Sem.run] at h;split at h
   ·cases h
   ·exact ih _ h
   ·cases h
 | setObj r o k ih =>
   intro w w' v h;simp only [Sem.run] at h;split at h
   ·cases h
   ·have:=ih h;exact this
   ·cases h
 | choose q k ih =>
   intro w w' v h;simp only [Sem.run] at h;split at h
   ·exact ih _ h
   ·exact Lr' (Nat.le_succ _) (ih _ h)
 | sys c k ih=>intro w w' v h; simp only [Sem.run] at h; exact Lr' (vI' w c) (ih _ h)
 | program k ih=>intro w w' v h; simp only [Sem.run] at h; exact ih _ h
 | mark m k ih=>intro w w' v h; simp only [Sem.run] at h; exact ih h
 | halt h0=>intro w w' v h; simp only [Sem.run] at h; cases h
def oz (σ:S)(b o:Nat)(cs:List Value):Prop:=(o+cs.length<=(σ.L b).1/\∀ j,j<cs.length->σ.w.frozen? ⟨b,o+j,none⟩=false)/\σ.w.rangeAt b o cs
theorem oz.mono {σ τ:S}{b o:Nat}{cs:List Value}(h:oz σ b o cs)(hn:cs≠[])(k:gT σ τ):oz τ b o cs:=by
 have hlt:b<σ.N:=by
  cases cs with
  | nil=>exact absurd rfl hn
  | cons v r=>exact um (h.2 0 v rfl)
 refine ⟨⟨Lr' h.1.1 (k.len b hlt),λj hj=>k.nf b _ hlt (h.1.2 j hj)⟩,λj v hv=>k.cell b (o+j) v ?_ (h.2 j v hv)⟩;have:j<cs.length:=(La'.1 hv).1;have:=h.1.1;omega
theorem oz.app {σ:S}{b o:Nat}{xs ys:List Value}(h:oz σ b o (xs++ys)):oz σ b o xs/\oz σ b (o+xs.length) ys:=by
 refine ⟨⟨⟨by have:=h.1.1; simp at this; omega,λj hj=>h.1.2 j (by rw [Lf']; omega)⟩,λj v hv=>h.2 j v ?_⟩,⟨⟨by have:=h.1.1; simp at this; omega,λj hj=>by rw [MC']; exact h.1.2 _ (by rw [Lf']; omega)⟩,λj v hv=>?_⟩⟩
 ·rw [LD' (La'.1 hv).1]; exact hv
 ·rw [MC'];apply h.2;rw [Ls' (by omega)]
  simpa using hv
theorem oz.AV (σ:S)(b o:Nat)(h:o<=(σ.L b).1):oz σ b o []:=⟨⟨by simpa using h,λj hj=>absurd hj (Nat.not_lt_zero _)⟩,λj v hv=>by simp at hv⟩
class Rp (α:Type) where
 sz:Nat
 pos:0<sz
 agg:Bool
 cells:S->α->List Value->Prop
 len:∀ {σ:S} {a:α} {cs:List Value},cells σ a cs->cs.length=sz
 one:∀ {σ:S} {a:α} {cs:List Value},cells σ a cs->∀ v∈cs,v.oneCell'=true
 mono:∀ {σ τ:S} {a:α} {cs:List Value},gT σ τ->cells σ a cs->cells τ a cs
 lo:Nat:=0
def nW':Bool->List Value->Value
 | true,cs=>.agg cs.toArray
 | false,cs=>cs.headD undef
def rF {α:Type} [Rp α] (σ:S)(a:α)(v:Value):Prop:=∃ cs,Rp.cells σ a cs/\v=nW' (Rp.agg α) cs
def dJ {α:Type} [Rp α] (σ:S):List α->List Value->Prop
 | [],cs=>cs=[]
 | x::xs,cs=>∃ c r,cs=c++r/\Rp.cells σ x c/\dJ σ xs r
section
variable {α:Type} [Rp α]
theorem dJ.len {σ:S}:∀ {xs:List α} {cs:List Value},dJ σ xs cs->cs.length=xs.length*Rp.sz α
 | [],_,h=>by cases h; simp
 | x::xs,cs,h=>by obtain ⟨c,r,rfl,hc,hr⟩:=h;rw [Lf',Rp.len hc,dJ.len hr,Ld',LP'];omega
theorem dJ.one {σ:S}:∀ {xs:List α} {cs:List Value},dJ σ xs cs->∀ v∈cs,v.oneCell'=true
 | [],_,h=>by cases h; simp
 | x::xs,cs,h=>by
   obtain ⟨c,r,rfl,hc,hr⟩:=h;intro v hv;rcases Lo'.1 hv with h | h
   ·exact Rp.one hc v h
   ·exact dJ.one hr v h
theorem dJ.mono {σ τ:S}(k:gT σ τ):∀ {xs:List α} {cs:List Value},dJ σ xs cs->dJ τ xs cs
 | [],_,h=>h
 | x::xs,cs,h=>by obtain ⟨c,r,rfl,hc,hr⟩:=h;exact ⟨c,r,rfl,Rp.mono k hc,dJ.mono k hr⟩
theorem dJ.app {σ:S}:∀ {xs ys:List α} {cs ds:List Value},dJ σ xs cs->dJ σ ys ds->dJ σ (xs++ys) (cs++ds)
 | [],_,_,_,h,k=>by cases h; exact k
 | x::xs,ys,cs,ds,h,k=>by obtain ⟨c,r,rfl,hc,hr⟩:=h;exact ⟨c,r++ds,by simp,hc,dJ.app hr k⟩
theorem dJ.split {σ:S}:∀ {xs ys:List α} {cs:List Value},dJ σ (xs++ys) cs->∃ c d,cs=c++d/\dJ σ xs c/\dJ σ ys d
 | [],_,cs,h=>⟨[],cs,rfl,rfl,h⟩
 | x::xs,ys,cs,h=>by obtain ⟨c,r,rfl,hc,hr⟩:=h;obtain ⟨c1,d,rfl,h1,h2⟩:=dJ.split hr;exact ⟨c++c1,d,by simp,⟨c,c1,rfl,hc,h1⟩,h2⟩
theorem dJ.single {σ:S}{x:α}{cs:List Value}(h:Rp.cells σ x cs):dJ σ [x] cs:=⟨cs,[],by simp,h,rfl⟩
end
def Sl {α:Type} [Rp α] (σ:S)(xs:List α)(A:Option Addr)(c:Nat):Prop :=
 xs.length<=c/\c<=maxLen/\∃ cs,dJ σ xs cs/\(xs≠[]->∃ b o,A=some ⟨b,o,none⟩/\oz σ b o cs)
section
variable {α:Type} [Rp α]
theorem dJ.ne_nil {σ:S}{xs:List α}{cs:List Value}(h:dJ σ xs cs)(hn:xs≠[]):cs≠[]:=by
 intro e;have:=dJ.len h;rw [e] at this;have hp:=Rp.pos (α:=α);cases xs with
 | nil=>exact hn rfl
 | cons x r =>simp only [Lh',Ld',LP'] at this;omega
theorem Sl.mono {σ τ:S}{xs:List α}{A:Option Addr}{c:Nat}(h:Sl σ xs A c)(k:gT σ τ):Sl τ xs A c:=by obtain ⟨h1,h2,cs,h3,h4⟩:=h;refine ⟨h1,h2,cs,h3.mono k,λhn=>?_⟩;obtain ⟨b,o,e,hs⟩:=h4 hn;exact ⟨b,o,e,hs.mono (h3.ne_nil hn) k⟩
theorem Sl.AV (σ:S)(A:Option Addr)(c:Nat)(hc:c<=maxLen):Sl σ ([]:List α) A c:=⟨Mb' _,hc,[],rfl,λh=>absurd rfl h⟩
theorem Sl.at_ {σ:S}{xs:List α}{A:Option Addr}{c:Nat}(h:Sl σ xs A c){i:Nat}{x:α}(hx:xs[i]?=some x) :
 ∃ b o cs,A=some ⟨b,o,none⟩/\Rp.cells σ x cs/\oz σ b (o+i*Rp.sz α) cs:=by
 obtain ⟨h1,h2,cs,h3,h4⟩:=h;have hi:i<xs.length:=(La'.1 hx).1;obtain ⟨b,o,e,hs⟩:=h4 (by intro e; simp [e] at hi)
 have hsplit:xs=xs.take i++(x::xs.drop (i+1)):=by have:=Mm' i xs;rw [LO' hi] at this;rw [<- (La'.1 hx).2];exact this.symm
 rw [hsplit] at h3;obtain ⟨c1,d,rfl,f1,f2⟩:=h3.split;obtain ⟨cx,r,rfl,hc,_⟩:=f2;have hl:c1.length=i*Rp.sz α:=by rw [f1.len,LC']; congr 1; omega
 have:=(hs.app.2).app.1;rw [hl] at this;exact ⟨b,o,cx,e,hc,this⟩
end
instance Kv':Rp Int where
 sz:=1
 pos:=by decide
 agg:=false
 cells:=λ_ n cs=>cs=[.int .i64 n]
 len:=λh=>by rw [h]; rfl
 one:=λh v hv=>by rw [h] at hv; simp at hv; subst hv; rfl
 mono:=λ_ h=>h
instance qL:Rp Bool where
 sz:=1
 pos:=by decide
 agg:=false
 cells:=λ_ n cs=>cs=[.bool n]
 len:=λh=>by rw [h]; rfl
 one:=λh v hv=>by rw [h] at hv; simp at hv; subst hv; rfl
 mono:=λ_ h=>h
instance nU:Rp ByteArray where
 sz:=1
 pos:=by decide
 agg:=false
 cells:=λ_ n cs=>cs=[.string n]
 len:=λh=>by rw [h]; rfl
 one:=λh v hv=>by rw [h] at hv; simp at hv; subst hv; rfl
 mono:=λ_ h=>h
instance Kw':Rp UInt8 where
 sz:=1
 pos:=by decide
 agg:=false
 cells:=λ_ n cs=>cs=[.int .u8 (n.toNat:Int)]
 len:=λh=>by rw [h]; rfl
 one:=λh v hv=>by rw [h] at hv; simp at hv; subst hv; rfl
 mono:=λ_ h=>h
instance bY {α:Type} [Rp α]:Rp (List α) where
 sz:=1
 pos:=by decide
 agg:=false
 cells:=λσ xs cs=>∃ A c,cs=[.slice A xs.length c]/\Sl σ xs A c
 len:=λ⟨_,_,h,_⟩=>by rw [h]; rfl
 one:=λ⟨_,_,h,_⟩ v hv=>by rw [h] at hv; simp at hv; subst hv; rfl
 mono:=λk ⟨A,c,h,hs⟩=>⟨A,c,h,hs.mono k⟩
theorem rF.mono {α:Type} [Rp α] {σ τ:S}{a:α}{v:Value}(h:rF σ a v)(k:gT σ τ):rF τ a v:=by obtain ⟨cs,hc,e⟩:=h;exact ⟨cs,Rp.mono k hc,e⟩
theorem rF.int {σ:S}{n:Int}{v:Value}(h:rF σ n v):v=.int .i64 n:=by obtain ⟨cs,rfl,e⟩:=h; exact e
theorem rF.bool {σ:S}{n:Bool}{v:Value}(h:rF σ n v):v=.bool n:=by obtain ⟨cs,rfl,e⟩:=h; exact e
theorem rF.str {σ:S}{n:ByteArray}{v:Value}(h:rF σ n v):v=.string n:=by obtain ⟨cs,rfl,e⟩:=h; exact e
theorem rF.u8 {σ:S}{n:UInt8}{v:Value}(h:rF σ n v):v=.int .u8 (n.toNat:Int):=by obtain ⟨cs,rfl,e⟩:=h; exact e
theorem rF.list {α:Type} [Rp α] {σ:S}{xs:List α}{v:Value}(h:rF σ xs v):∃ A c,v=.slice A xs.length c/\Sl σ xs A c:=by obtain ⟨cs,⟨A,c,rfl,hs⟩,e⟩:=h; exact ⟨A,c,e,hs⟩
def kW (B id:Nat)(σ:S)(b:Nat)(T:TypeId)(cs:List Value):Prop :=
 B<=b/\σ.w.heap[b]?=some (.cells cs.toArray T (0,0))/\σ.L b=(0,id)
theorem kW.lt {B id:Nat}{σ:S}{b:Nat}{T:TypeId}{cs:List Value}(h:kW B id σ b T cs):b<σ.N:=by
 rcases NR' b σ.N with hlt | hge
 ·exact hlt
 ·have:=h.2.1; rw [Nc' hge] at this; cases this
theorem kW.ext {B id:Nat}{σ τ:S}{b:Nat}{T:TypeId}{cs:List Value}(h:kW B id σ b T cs)(k:pE σ τ):kW B id τ b T cs :=
 ⟨h.1,(k.below.block b h.lt).trans h.2.1,(k.mark b h.lt).trans h.2.2⟩
theorem kW.cell {B id:Nat}{σ:S}{b:Nat}{T:TypeId}{cs:List Value}(h:kW B id σ b T cs)(i:Nat):σ.w.cell? ⟨b,i,none⟩=cs[i]?:=by simp [World.cell?,h.2.1]
def uK {α:Type} [Rp α] (B id:Nat)(T:TypeId)(σ:S)(xs:List α)(A:Option Addr)(c:Nat):Prop :=
 (c=xs.length/\Sl σ xs A c) \/
 ∃ g aM cs,A=some ⟨g,0,none⟩/\B<=g/\σ.w.heap[g]?=some (.cells aM T (0,0))/\xs.length<=c/\c<=maxLen/\aM.size=c*Rp.sz α /\
  dJ σ xs cs/\aM.toList.take (xs.length*Rp.sz α)=cs/\σ.L g=(xs.length*Rp.sz α,id)
section
variable {α:Type} [Rp α] {B id:Nat}{T:TypeId}{σ τ:S}{xs:List α}{A:Option Addr}{c:Nat}
theorem jJ {w:World}{g:Nat}{o:Obj}(h:w.heap[g]?=some o):g<w.heap.size:=by
 rcases NR' g w.heap.size with hlt | hge
 ·exact hlt
 ·rw [Nc' hge] at h; cases h
theorem uK.sl (h:uK B id T σ xs A c):Sl σ xs A c:=by
 rcases h with ⟨_,h⟩ | ⟨g,aM,cs,rfl,hg,hh,h1,h2,h3,h4,h5,h6⟩
 ·exact h
 ·refine ⟨h1,h2,cs,h4,λ_=>⟨g,0,rfl,?_,?_⟩⟩
  ·exact ⟨by rw [h6,h4.len]; simp,λj _=>Vw hh _⟩
  ·intro j v hv;have hc:σ.w.cell? ⟨g,0+j,none⟩=aM[j]?:=by simp [World.cell?,hh]
   rw [hc,<- Lz'];rw [<- h5] at hv;have hj:=(La'.1 hv).1;rw [Lw' (by rw [LC'] at hj; omega)] at hv
   exact hv
theorem uK.ext (h:uK B id T σ xs A c)(k:pE σ τ):uK B id T τ xs A c:=by
 rcases h with ⟨e,h⟩ | ⟨g,aM,cs,rfl,hg,hh,h1,h2,h3,h4,h5,h6⟩
 ·exact .inl ⟨e,h.mono k.eP⟩
 ·exact .inr ⟨g,aM,cs,rfl,hg,(k.below.block g (jJ hh)).trans hh,h1,h2,h3,h4.mono k.eP,h5,(k.mark g (jJ hh)).trans h6⟩
theorem uK.base {C:Nat}(h:uK B id T σ xs A c)(hC:C<=B):uK C id T σ xs A c:=by
 rcases h with h | ⟨g,aM,cs,rfl,hg,hh,h1⟩
 ·exact .inl h
 ·exact .inr ⟨g,aM,cs,rfl,Lr' hC hg,hh,h1⟩
theorem uK.AV (A:Option Addr):uK B id T σ ([]:List α) A 0:=.inl ⟨rfl,Sl.AV _ _ _ (Mb' _)⟩
end
section
variable {P:Program}{ops:Array Oper}{Q:Exit->Act->World->Prop}{n:Nat}{F:Fr}{rest:List Oper}{d:Option Nat}{ty:TypeId}{pos:String}{bV:Array Edge}{σ:S}
theorem gH {o:Oper}(hg:o.guard=none)(v:Value)(w':World){w:World}(hrun:(execOp (fr n F).eval o).run P w=.ok (.value v) w')
 (h:wpList P ops Q rest (fr n (dF F o.dst v)) w'):wpList P ops Q (o::rest) (fr n F) w :=
 wpList_plain hg λK hK=>by unfold Oper.wp; rw [hrun]; exact hK _ _ (by rw [J8]; exact h)
theorem KW {o:Oper}(hg:o.guard=none)(w':World){w:World}(hrun:(execOp (fr n F).eval o).run P w=.ok .skip w')
 (h:wpList P ops Q rest (fr n (dF F o.dst undef)) w'):wpList P ops Q (o::rest) (fr n F) w :=
 wpList_plain hg λK hK=>by unfold Oper.wp; rw [hrun]; exact hK _ _ (by rw [J8]; exact h)
theorem jZ {x:Operand}{w:World}(v:Value)(hx:ev F x=v)(hk:bR n x=true)(h:wpList P ops Q rest (fr n (dF F d v)) w) :
 wpList P ops Q (⟨d,.move x,ty,pos,bV,none⟩::rest) (fr n F) w :=
 gH rfl v w (by show Sem.run P (pure _) w=_; rw [dx hk,hx]; rfl) h
theorem sj {x:Operand}{w:World}(v:Value)(hx:ev F x=v)(hk:bR n x=true)(h:wpList P ops Q rest (fr n (dF F d v)) w) :
 wpList P ops Q (⟨d,.assign x,ty,pos,bV,none⟩::rest) (fr n F) w :=
 gH rfl v w (by show Sem.run P (pure _) w=_; rw [dx hk,hx]; rfl) h
def bg (P:Program)(w:World)(s:Sem Value)(v:Value):Prop:=s.run P w=.ok v w
theorem vv {Mk:BinOp}{xt yt:TypeId}{x y:Operand}{w:World}(a b v:Value)(hx:ev F x=a)(hy:ev F y=b)(hkx:bR n x=true)(hky:bR n y=true)
 (hr:bg P w (do eqGuard Mk xt x y a b; binOp Mk xt a b) v) (h:wpList P ops Q rest (fr n (dF F d v)) w) :
 wpList P ops Q (⟨d,.binOp Mk xt x y yt,ty,pos,bV,none⟩::rest) (fr n F) w :=
 gH rfl v w (by
  show Sem.run P (do pure (Next.value (<- (do eqGuard Mk xt x y ((fr n F).eval x) ((fr n F).eval y); binOp Mk xt ((fr n F).eval x) ((fr n F).eval y))))) w=_
  rw [dx hkx,dx hky,hx,hy,Sem.run_bind,hr]; rfl) h
theorem V9 {YV:UnOp}{xt:TypeId}{x:Operand}{w:World}(a v:Value)(hx:ev F x=a)(hkx:bR n x=true)
 (hr:bg P w (Op.unary YV a) v) (h:wpList P ops Q rest (fr n (dF F d v)) w) :
 wpList P ops Q (⟨d,.unOp YV xt x,ty,pos,bV,none⟩::rest) (fr n F) w :=
 gH rfl v w (by show Sem.run P (do pure (Next.value (<- Op.unary YV ((fr n F).eval x)))) w=_; rw [dx hkx,hx,Sem.run_bind,hr]; rfl) h
theorem YT {src dst:TypeId}{x:Operand}{w:World}(a v:Value)(hx:ev F x=a)(hkx:bR n x=true)
 (hr:bg P w (convert src dst a) v) (h:wpList P ops Q rest (fr n (dF F d v)) w) :
 wpList P ops Q (⟨d,.convert src dst x,ty,pos,bV,none⟩::rest) (fr n F) w :=
 gH rfl v w (by show Sem.run P (do pure (Next.value (<- convert src dst ((fr n F).eval x)))) w=_; rw [dx hkx,hx,Sem.run_bind,hr]; rfl) h
theorem om {t:TypeId}{x:Operand}{w:World}(b o:Nat)(v:Value)(hx:ev F x=.pointer (some ⟨b,o,none⟩))(hkx:bR n x=true)
 (hr:bg P w (loadVar t ⟨b,o,none⟩) v) (h:wpList P ops Q rest (fr n (dF F d v)) w) :
 wpList P ops Q (⟨d,.load t x,ty,pos,bV,none⟩::rest) (fr n F) w :=
 gH rfl v w (by
  show Sem.run P (do pure (Next.value (<- Instr.loadAt t ((fr n F).eval x)))) w=_
  rw [dx hkx,hx];simp only [Instr.loadAt,Instr.sureAddr,Sem.run_bind,Sem.run_pure,Result.andThen_ok];rw [hr]; rfl) h
theorem hU' {t:TypeId}{x y:Operand}{w:World}(a b v:Value)(hx:ev F x=a)(hy:ev F y=b)(hkx:bR n x=true)(hky:bR n y=true)
 (hr:bg P w (Instr.index t a b) v) (h:wpList P ops Q rest (fr n (dF F d v)) w) :
 wpList P ops Q (⟨d,.index t x y,ty,pos,bV,none⟩::rest) (fr n F) w :=
 gH rfl v w (by show Sem.run P (do pure (Next.value (<- Instr.index t ((fr n F).eval x) ((fr n F).eval y)))) w=_; rw [dx hkx,dx hky,hx,hy,Sem.run_bind,hr]; rfl) h
theorem Bz' {t:TypeId}{x:Operand}{k:Nat}{w:World}(a v:Value)(hx:ev F x=a)(hkx:bR n x=true)
 (hr:bg P w (Instr.field t a k) v) (h:wpList P ops Q rest (fr n (dF F d v)) w) :
 wpList P ops Q (⟨d,.field t x k,ty,pos,bV,none⟩::rest) (fr n F) w :=
 gH rfl v w (by show Sem.run P (do pure (Next.value (<- Instr.field t ((fr n F).eval x) k))) w=_; rw [dx hkx,hx,Sem.run_bind,hr]; rfl) h
theorem AM' {x:Operand}{k:Nat}{w:World}(vs:List Value)(v:Value)(hx:ev F x=.tuple vs.toArray)(hkx:bR n x=true)
 (hv:vs[k]?=some v) (h:wpList P ops Q rest (fr n (dF F d v)) w) :
 wpList P ops Q (⟨d,.extract x k,ty,pos,bV,none⟩::rest) (fr n F) w :=
 gH rfl v w (by
  show Sem.run P (do pure (Next.value (<- Instr.extract ((fr n F).eval x) k))) w=_
  rw [dx hkx,hx];simp [Instr.extract,hv]) h
theorem aW' {x y z:Operand}{w:World}(c:Bool)(v:Value)(hx:ev F x=.bool c)(hv:ev F (if c then y else z)=v)(hkx:bR n x=true)(hky:bR n y=true)(hkz:bR n z=true)
 (h:wpList P ops Q rest (fr n (dF F d v)) w):wpList P ops Q (⟨d,.pick x y z,ty,pos,bV,none⟩::rest) (fr n F) w :=
 gH rfl v w (by
  show Sem.run P (do pure (Next.value (if <- asBool ((fr n F).eval x) then (fr n F).eval y else (fr n F).eval z))) w=_
  rw [dx hkx,hx,dx hky,dx hkz];cases c<;>simp [asBool] at hv ⊢<;>rw [hv]) h
theorem wM {x:Operand}{w:World}(a:Addr)(hx:ev F x=.pointer (some a))(hkx:bR n x=true)(h:wpList P ops Q rest (fr n (dF F d (.pointer (some a)))) w) :
 wpList P ops Q (⟨d,.nilCheck x,ty,pos,bV,none⟩::rest) (fr n F) w :=
 gH rfl (.pointer (some a)) w (by simp [execOp,dx hkx,hx]) h
def Ga (P:Program)(T:TypeId)(k:Nat):Prop:=∃ d,P.underlying T=some d/\d.isRow=true/\(P.info? T).map (·.size)=some k
def iJ (P:Program)(T:TypeId):Prop:=∃ d,P.underlying T=some d/\d.isRow=false/\(P.info? T).map (·.size)=some 1
def dU (P:Program)(T:TypeId)(z:Value)(size bytes:Nat):Prop:=∃ i,P.info? T=some i/\i.zero=some z/\i.size=size/\i.bytes=bytes
def ru (P:Program)(T E:TypeId)(z:Value)(size bytes:Nat):Prop:=P.underlying T=some (.slice E)/\dU P E z size bytes/\z.cells.size=size/\0<size/\0<bytes
theorem fV {P:Program}{T:TypeId}{z:Value}{size bytes:Nat}(h:(P.info? T).map (λi=>(i.zero,i.size,i.bytes))=some (some z,size,bytes)):dU P T z size bytes:=by
 cases hi:P.info? T with
 | none=>rw [hi] at h; cases h
 | some i=>rw [hi] at h; simp at h; exact ⟨i,hi,h⟩
def FX (P:Program)(T:TypeId)(f off:Nat):Prop:=∃ fs fl,P.underlying T=some (.struct fs)/\fs[f]?=some fl/\fl.offset=off/\((P.info? fl.type).map λi=>i.size==0)=some false
theorem run_sizeOf {T:TypeId}{k:Nat}(h:(P.info? T).map (·.size)=some k)(w:World):(sizeOf T).run P w=.ok k w:=by
 cases hi:P.info? T with
 | none=>rw [hi] at h; cases h
 | some i=>rw [hi] at h; simp at h; simp [sizeOf,typeInfo,hi,h]
theorem aY' {w:World}{T:TypeId}{b o:Nat}{cs:List Value}(hT:Ga P T cs.length)(hc:w.rangeAt b o cs):bg P w (loadVar T ⟨b,o,none⟩) (.agg cs.toArray):=by obtain ⟨dd,h1,h2,h3⟩:=hT;exact run_loadVar_mid w b o T cs dd hc h1 h2 h3
theorem vo {w:World}{T:TypeId}{b o:Nat}{v:Value}(hT:iJ P T)(hc:w.cell? ⟨b,o,none⟩=some v):bg P w (loadVar T ⟨b,o,none⟩) v:=by
 obtain ⟨dd,h1,h2,h3⟩:=hT;have hagg:(isAgg T).run P w=.ok false w:=by unfold isAgg;rw [Sem.run_bind,run_underlying h1 w];cases dd<;>simp_all [TypeDesc.isRow]
 show (loadVar T ⟨b,o,none⟩).run P w=_;unfold loadVar;simp [Sem.run_bind,hagg,hc]
theorem kW.range {B id:Nat}{b:Nat}{T:TypeId}{cs:List Value}(h:kW B id σ b T cs)(o:Nat)(vs:List Value)(hv:(cs.drop o).take vs.length=vs):σ.w.rangeAt b o vs:=by intro j v hj;rw [h.cell];have hlt:=(La'.1 hj).1;rw [<- hv,Lw' hlt,Mh'] at hj;exact hj
theorem rW {T:TypeId}{x:Operand}{f:Nat}{w:World}(b o off o':Nat)(hx:ev F x=.pointer (some ⟨b,o,none⟩))(hkx:bR n x=true)(hf:FX P T f off)(ho:o+off=o')
 (h:wpList P ops Q rest (fr n (dF F d (.pointer (some ⟨b,o',none⟩)))) w):wpList P ops Q (⟨d,.fieldAddr T x f,ty,pos,bV,none⟩::rest) (fr n F) w :=
 gH rfl (.pointer (some ⟨b,o',none⟩)) w (by
  show Sem.run P (do pure (Next.value (<- Instr.fieldAt T ((fr n F).eval x) f))) w=_
  obtain ⟨fs,fl,h1,h2,h3,h4⟩:=hf;rw [dx hkx,hx];cases hi:P.info? fl.type with
  | none=>rw [hi] at h4; cases h4
  | some i =>
    rw [hi] at h4;have hs:¬ i.size=0:=by simpa using h4
    simp [Instr.fieldAt,run_underlying h1,h2,Instr.sureAddr,fieldPlace,sizeOf,typeInfo,hi,hs,Addr.add_mid,h3,ho]) h
def ak {α:Type}(xs:List α)(j:Int):Option α:=if 0<=j then xs[j.toNat]? else none
theorem Gp {α:Type}{xs:List α}{j:Int}{x:α}(h:ak xs j=some x):0<=j/\xs[j.toNat]?=some x:=by
 unfold ak at h;split at h
 ·exact ⟨‹_›,h⟩
 ·cases h
theorem XV {α:Type} [Rp α] {T E:TypeId}{x y:Operand}{xs:List α}{A:Option Addr}{c:Nat}{j:Int}{e:α}(hs:Sl σ xs A c)(hi:ak xs j=some e)
 (hx:ev F x=.slice A xs.length c) (hy:ev F y=.int .i64 j) (hkx:bR n x=true) (hky:bR n y=true)
 (hT:P.underlying T=some (.slice E)) (hE:(P.info? E).map (·.size)=some (Rp.sz α))
 (h:∀ b o cs,Rp.cells σ e cs->oz σ b o cs->wpList P ops Q rest (fr n (dF F d (.pointer (some ⟨b,o,none⟩)))) σ.w) :
 wpList P ops Q (⟨d,.indexAddr T x y,ty,pos,bV,none⟩::rest) (fr n F) σ.w:=by
 obtain ⟨h0,he⟩:=Gp hi;obtain ⟨b,o,cs,rfl,hc,hse⟩:=hs.at_ he;have hlt:j<(xs.length:Int):=by have:=(La'.1 he).1; omega
 refine gH rfl (.pointer (some ⟨b,o+j.toNat*Rp.sz α,none⟩)) σ.w ?_ (h b _ cs hc hse);show Sem.run P (do pure (Next.value (<- Instr.indexAt T ((fr n F).eval x) ((fr n F).eval y)))) σ.w=_
 rw [dx hkx,dx hky,hx,hy];simp only [Instr.indexAt,asIntOf,Sem.run_bind,Sem.run_pure,Result.andThen_ok,run_underlying hT,if_pos (And.intro h0 hlt),run_sizeOf hE,Addr.add_mid]
theorem R7 (σ:S)(o:Obj)(m:Nat×Nat):pE σ ⟨σ.w.alloc o,λb=>cond (Lm' b σ.N) m (σ.L b)⟩ :=
 ⟨(Below.refl _ _).alloc (Lg' _) o,λb hb=>by
   have:Lm' b σ.N=false:=by
    cases h:Lm' b σ.N with
    | false=>rfl
    | true=>have:=Li' h; omega
   simp [this],Lg' _⟩
theorem dV' {B:Nat}(σ:S)(hB:B<=σ.N)(T:TypeId)(cs:List Value)(id:Nat):kW B id ⟨σ.w.alloc (.cells cs.toArray T),λb=>cond (Lm' b σ.N) (0,id) (σ.L b)⟩ σ.N T cs :=
 ⟨hB,heap_alloc_new _ _,by simp⟩
theorem gh' {T:TypeId}{x:Operand}{B:Nat}(id:Nat)(hB:B<=σ.N)(v:Value)(cs:List Value)(hx:ev F x=v)(hkx:bR n x=true)(hc:v.cells.toList=cs)
 (h:∀ τ b,pE σ τ->kW B id τ b T cs->wpList P ops Q rest (fr n (dF F d (.pointer (some ⟨b,0,none⟩)))) τ.w) :
 wpList P ops Q (⟨d,.box T x,ty,pos,bV,none⟩::rest) (fr n F) σ.w:=by
 refine gH rfl (.pointer (some ⟨σ.N,0,none⟩)) (σ.w.alloc (.cells cs.toArray T)) ?_ (h _ σ.N (R7 σ _ (0,id)) (dV' σ hB T cs id));show Sem.run P (do pure (Next.value (<- Instr.box T ((fr n F).eval x)))) σ.w=_
 rw [dx hkx,hx];have hcc:v.cells=cs.toArray:=by rw [<- hc]
 simp [Instr.box,newVar,newRow,hcc]
theorem jX' {T:TypeId}{B:Nat}(id:Nat)(hB:B<=σ.N)(z:Value)(cs:List Value){sz jo:Nat}(hT:dU P T z sz jo)(hc:z.cells.toList=cs)
 (h:∀ τ b,pE σ τ->kW B id τ b T cs->wpList P ops Q rest (fr n (dF F d (.pointer (some ⟨b,0,none⟩)))) τ.w) :
 wpList P ops Q (⟨d,.alloc T,ty,pos,bV,none⟩::rest) (fr n F) σ.w:=by
 refine gH rfl (.pointer (some ⟨σ.N,0,none⟩)) (σ.w.alloc (.cells cs.toArray T)) ?_ (h _ σ.N (R7 σ _ (0,id)) (dV' σ hB T cs id));obtain ⟨i,h1,h2,_,_⟩:=hT;have hcc:z.cells=cs.toArray:=by rw [<- hc]
 simp [execOp,Instr.alloc,zeroValue,typeInfo,h1,h2,newVar,newRow,hcc]
theorem LY (b:Nat)(T:TypeId):∀ (vs:List Value) (o:Nat) (w:World) (cs:List Value),w.heap[b]?=some (.cells cs.toArray T (0,0))->o+vs.length<=cs.length ->
 (w.setCells b o vs).heap[b]?=some (.cells (cs.take o++vs++cs.drop (o+vs.length)).toArray T (0,0))
 | [],o,w,cs,h,hl=>by simp only [World.setCells]; rw [h]; simp
 | v::vs,o,w,cs,h,hl=>by
   have h1:(w.setCell ⟨b,o,none⟩ v).heap[b]?=some (.cells (cs.set o v).toArray T (0,0)):=by simp [World.setCell,Nh',h]
   have hl':o<cs.length:=by simp at hl; omega
   have ih:=LY b T vs (o+1) _ (cs.set o v) h1 (by simp at hl ⊢; omega)
   simp only [World.setCells];rw [ih];have e1:(cs.set o v).take (o+1)=cs.take o++[v]:=by rw [NE',if_pos hl',NI'];simp [LC',Nw' (Nat.le_of_lt hl'),NQ']
   have e2:(cs.set o v).drop (o+1+vs.length)=cs.drop (o+(v::vs).length):=by
    rw [List.drop_set_of_lt (by omega)]
    congr 1;simp; omega
   rw [e1,e2];simp
theorem FZ (b:Nat):∀ (vs:List Value) (o:Nat) (w:World) (k:Nat),k≠b->(w.setCells b o vs).heap[k]?=w.heap[k]?
 | [],_,_,_,_=>rfl
 | v::vs,o,w,k,h=>by simp only [World.setCells];rw [FZ b vs (o+1) _ k h];exact Below.heap_setCell w ⟨b,o,none⟩ v k h
theorem XH (b:Nat):∀ (vs:List Value) (o:Nat) (w:World),(w.setCells b o vs).heap.size=w.heap.size
 | [],_,_=>rfl
 | v::vs,o,w=>by simp only [World.setCells]; rw [XH b vs]; simp
theorem WW (b:Nat):∀ (vs:List Value) (o:Nat) (w:World),(w.setCells b o vs).os=w.os/\(w.setCells b o vs).tape=w.tape/\(w.setCells b o vs).output=w.output
 | [],_,_=>⟨rfl,rfl,rfl⟩
 | v::vs,o,w=>by simp only [World.setCells]; exact WW b vs (o+1) (w.setCell ⟨b,o,none⟩ v)
theorem Us (b:Nat):∀ (vs:List Value) (o:Nat) (w:World),(w.setCells b o vs).drawn=w.drawn
 | [],_,_=>rfl
 | v::vs,o,w=>by simp only [World.setCells]; exact Us b vs (o+1) (w.setCell ⟨b,o,none⟩ v)
theorem pP' (w:World)(a:Addr)(v:Value)(a':Addr):(w.setCell a v).frozen? a'=w.frozen? a':=by
 unfold World.frozen? World.setCell;simp only [Nh'];by_cases h:a.block=a'.block
 ·rw [if_pos h];cases he:w.heap[a'.block]? with
  | none=>rfl
  | some o=>cases o<;>rfl
 ·rw [if_neg h]
theorem jG' (b:Nat)(a:Addr):∀ (vs:List Value) (o:Nat) (w:World),(w.setCells b o vs).frozen? a=w.frozen? a
 | [],_,_=>rfl
 | v::vs,o,w=>by simp only [World.setCells]; rw [jG' b a vs,pP']
theorem VF {B id:Nat}{b:Nat}{T:TypeId}{cs:List Value}(h:kW B id σ b T cs)(o:Nat)(vs:List Value):Mod B id σ ⟨σ.w.setCells b o vs,σ.L⟩:=by
 obtain ⟨r1,r2,r3⟩:=WW b vs o σ.w;refine ⟨⟨by simp [S.N,XH],λ_ _=>Lg' _,λb' o' v ho hc=>?_,Nat.le_of_eq (Us b vs o σ.w).symm,λb' o' _ hf=>(jG' b _ vs o σ.w).trans hf⟩,r1,r2,r3,λb' hb' hne=>⟨FZ b vs o σ.w b' ?_,rfl⟩⟩
 ·have hne:b'≠b:=by rintro rfl; rw [h.2.2] at ho; exact absurd ho (by simp)
  exact (wJ (FZ b vs o σ.w b' hne) o').trans hc
 ·rintro rfl;rcases hne with hne | hne
  ·exact absurd h.1 (by omega)
  ·exact hne (by rw [h.2.2])
theorem Pf {T T':TypeId}{x y:Operand}{B id b:Nat}{cs:List Value}(hb:kW B id σ b T' cs)(o:Nat)(v:Value)(vs cs':List Value)(hx:ev F x=.pointer (some ⟨b,o,none⟩))(hy:ev F y=v)
 (hkx:bR n x=true) (hky:bR n y=true) (hv:v.cells.toList=vs) (hT:(P.info? T).map (·.size)=some vs.length) (h1:vs.all (·.oneCell')=true) (hl:Mq' (o+vs.length) cs.length=true)
 (hcs:cs.take o++vs++cs.drop (o+vs.length)=cs')
 (h:∀ τ,Mod B id σ τ->kW B id τ b T' cs'->wpList P ops Q rest (fr n (dF F d undef)) τ.w) :
 wpList P ops Q (⟨d,.store T x y,ty,pos,bV,none⟩::rest) (fr n F) σ.w:=by
 have hle:o+vs.length<=cs.length:=LG' hl;have hsz:v.cells.size=vs.length:=by rw [<- hv]; simp
 refine KW rfl (σ.w.setCells b o vs) ?_ (h ⟨σ.w.setCells b o vs,σ.L⟩ (VF hb o vs) ⟨hb.1,by rw [<- hcs]; exact LY b T' vs o σ.w cs hb.2.1 hle,hb.2.2⟩)
 show Sem.run P (do Instr.storeAt T ((fr n F).eval x) ((fr n F).eval y); pure Next.skip) σ.w=_
 rw [dx hkx,dx hky,hx,hy];have hst:=run_storeCells_cells (P:=P) b o vs 0 σ.w (λj hj=>by rw [ME',hb.cell,Lb' (by omega)]; rfl) (λj hj=>by simp [World.frozen?,hb.2.1]) (λu hu=>(Le'.1 h1) u hu)
 simp only [ME'] at hst;simp only [Instr.storeAt,Instr.sureAddr,storeVar,Sem.run_bind,Sem.run_pure,Result.andThen_ok,run_sizeOf hT,hsz,ne_eq,not_true_eq_false,if_false,hv,hst]
theorem ub' {w:World}{b o:Nat}{v:Value}(h:w.cell? ⟨b,o,none⟩=some v):w.setCell ⟨b,o,none⟩ v=w:=by
 have hh:(w.setCell ⟨b,o,none⟩ v).heap=w.heap:=by
  unfold World.setCell;apply NL';intro i;simp only [Nh'];by_cases e:b=i
  ·subst e;rw [if_pos rfl];unfold World.cell? at h;simp only at h;split at h
   ·rename_i c t f he;simp only [Option.isSome_none,Mi',if_false] at h;obtain ⟨hl,hv⟩:=MI'.1 h;rw [he];have e2:c.setIfInBounds o v=c:=by
     apply NL';intro j;rw [Array.getElem?_setIfInBounds];by_cases ej:o=j
     ·subst ej; rw [if_pos rfl,if_pos hl,h]
     ·rw [if_neg ej]
    simp [e2]
   ·cases h
  ·rw [if_neg e]
 have e:w.setCell ⟨b,o,none⟩ v={ w with heap:=(w.setCell ⟨b,o,none⟩ v).heap }:=rfl
 rw [e,hh]
theorem pT' {T:TypeId}{x y:Operand}{b o:Nat}{v:Value}{w:World}(hx:ev F x=.pointer (some ⟨b,o,none⟩))(hkx:bR n x=true)(hky:bR n y=true)(hv:(ev F y).cells.toList=[v])
 (hT:(P.info? T).map (·.size)=some 1) (h1:v.oneCell'=true) (hc:w.cell? ⟨b,o,none⟩=some v) (hf:w.frozen? ⟨b,o,none⟩=false) (h:wpList P ops Q rest (fr n (dF F d undef)) w) :
 wpList P ops Q (⟨d,.store T x y,ty,pos,bV,none⟩::rest) (fr n F) w:=by
 have hsz:(ev F y).cells.size=1:=by rw [<- LV',hv]; rfl
 refine KW rfl w ?_ h;show Sem.run P (do Instr.storeAt T ((fr n F).eval x) ((fr n F).eval y); pure Next.skip) w=_
 rw [dx hkx,dx hky,hx];have hst:=run_storeCells_cells (P:=P) b o [v] 0 w (λj hj=>by
  obtain rfl:j=0:=by simpa using hj
  simp [hc]) (λj hj=>by
  obtain rfl:j=0:=by simpa using hj
  simpa using hf) (λu hu=>by rw [Lp'.1 hu]; exact h1)
 simp only [ME',World.setCells,ub' hc] at hst;simp only [Instr.storeAt,Instr.sureAddr,storeVar,Sem.run_bind,Sem.run_pure,Result.andThen_ok,run_sizeOf hT,hsz,ne_eq,not_true_eq_false,if_false,hv,hst]
theorem yA {t:TypeId}{x:Operand}{w:World}(A:Option Addr)(len c:Nat){E:TypeId}(hx:ev F x=.slice A len c)(hkx:bR n x=true)(hT:P.underlying t=some (.slice E))
 (h:wpList P ops Q rest (fr n (dF F d (.int .i64 (len:Int)))) w) :
 wpList P ops Q (⟨d,.call ⟨.builtin .len,#[x],#[t]⟩,ty,pos,bV,none⟩::rest) (fr n F) w :=
 gH rfl _ w (by simp [execOp,resolve,invoke,builtin,dx hkx,hx,Builtin.len_,run_underlying hT,goInt]) h
theorem fH' {t:TypeId}{x:Operand}{w:World}(s:ByteArray)(hx:ev F x=.string s)(hkx:bR n x=true)(hT:P.underlying t=some .string)
 (h:wpList P ops Q rest (fr n (dF F d (.int .i64 (s.size:Int)))) w) :
 wpList P ops Q (⟨d,.call ⟨.builtin .len,#[x],#[t]⟩,ty,pos,bV,none⟩::rest) (fr n F) w :=
 gH rfl _ w (by simp [execOp,resolve,invoke,builtin,dx hkx,hx,Builtin.len_,run_underlying hT,goInt]) h
theorem qX' {t u:TypeId}{x y:Operand}{w:World}(k:IntKind)(a b:Int)(hx:ev F x=.int k a)(hy:ev F y=.int k b)(hkx:bR n x=true)(hky:bR n y=true)
 (h:wpList P ops Q rest (fr n (dF F d (.int k (max a b)))) w) :
 wpList P ops Q (⟨d,.call ⟨.builtin .max,#[x,y],#[t,u]⟩,ty,pos,bV,none⟩::rest) (fr n F) w :=
 gH rfl _ w (by
  have e:(if b>a then b else a)=max a b:=by split<;>omega
  simp [execOp,resolve,invoke,builtin,dx hkx,dx hky,hx,hy,Builtin.max_,Builtin.max2];exact e) h
end
section
variable {P:Program}{ops:Array Oper}{Q:Exit->Act->World->Prop}{n:Nat}{F:Fr}{rest:List Oper}{d:Option Nat}{ty:TypeId}{pos:String}{bV:Array Edge}{σ:S}
theorem beq_false {a b:Nat}(h:a≠b):Lm' a b=false:=by
 cases hb:Lm' a b with
 | false=>rfl
 | true=>exact absurd (Li' hb) h
def xP (pl:List (Nat×Nat)):List Value->List (Nat×List Value)->Option (List Value)
 | cells,[]=>some cells
 | cells,(i,vs)::rest =>
   match pl[i]? with
   | none=>none
   | some (off,size)=>cond (Lm' vs.length size&&Mq' (off+vs.length) cells.length) (xP pl (cells.take off++vs++cells.drop (off+vs.length)) rest) none
theorem YE (off:Nat):∀ (vs:List Value) (k:Nat) (cells:List Value),off+k+vs.length<=cells.length ->
 (vs.zipIdx k).foldl (λ(cs:Array Value) (x:Value×Nat)=>cs.setIfInBounds (off+x.2) x.1) cells.toArray=(cells.take (off+k)++vs++cells.drop (off+k+vs.length)).toArray
 | [],k,cells,h=>by simp
 | v::vs,k,cells,h=>by
   simp only [List.zipIdx_cons,Mu',List.setIfInBounds_toArray];rw [YE off vs (k+1) (cells.set (off+k) v) (by simp at h ⊢; omega)]
   have hl':off+k<cells.length:=by simp at h; omega
   have e1:(cells.set (off+k) v).take (off+(k+1))=cells.take (off+k)++[v]:=by rw [NE',if_pos hl',NI'];simp [LC',Nw' (Nat.le_of_lt hl'),NQ',Nat.add_sub_add_left]
   have e2:(cells.set (off+k) v).drop (off+(k+1)+vs.length)=cells.drop (off+k+(v::vs).length):=by
    rw [List.drop_set_of_lt (by omega)]
    congr 1;simp; omega
   rw [e1,e2];simp
theorem WR (pl:List (Nat×Nat)):∀ (parts:List (Nat×Value)) (cells out:List Value),xP pl cells (parts.map λp=>(p.1,p.2.cells.toList))=some out ->
 Instr.fill (pl.toArray[·]?) cells.toArray parts=some out.toArray
 | [],cells,out,h=>by simp only [List.map_nil,xP,LI'.injEq] at h; rw [h]; rfl
 | (i,v)::rest,cells,out,h=>by
   simp only [LJ',xP] at h;cases hp:pl[i]? with
   | none=>rw [hp] at h; cases h
   | some q =>
     obtain ⟨off,size⟩:=q;rw [hp] at h;simp only at h;cases hb:(Lm' v.cells.toList.length size&&Mq' (off+v.cells.toList.length) cells.length) with
     | false=>rw [hb] at h; cases h
     | true =>
       rw [hb] at h;simp only [cond_true] at h;obtain ⟨h1,h2⟩:=NS'.1 hb;have h1':=Li' h1;have h2':=LG' h2;have hsz:v.cells.size=size:=by simpa using h1'
       have hn:¬ (v.cells.size≠size||decide (off+v.cells.size>cells.toArray.size))=true:=by simp at h2' ⊢; omega
       have hf:=YE off v.cells.toList 0 cells (by simpa using h2')
       have ha:v.cells.zipIdx.foldl (λ(cs:Array Value) (x:Value×Nat)=>cs.setIfInBounds (off+x.2) x.1) cells.toArray=(cells.take off++v.cells.toList++cells.drop (off+v.cells.toList.length)).toArray:=by rw [<- Array.foldl_toList,Array.toList_zipIdx];simpa using hf
       have:=WR pl rest _ out h;simp only [Instr.fill,MU',hp];rw [if_neg (by simpa using hn)]
       rw [<- this,<- ha];congr 1;funext x;exact MU'.symm
def je' (P:Program)(T:TypeId)(pl:List (Nat×Nat))(zs:List Value):Prop :=
 ∃ fs i z,P.underlying T=some (.struct fs)/\P.info? T=some i/\i.zero=some z/\z.cells=zs.toArray/\fs.toList.mapM (λf=>(P.info? f.type).map λi=>(f.offset,i.size))=some pl
theorem CL' {T:TypeId}{ps:List (Nat×Operand)}{w:World}{pl:List (Nat×Nat)}{zs:List Value}(hT:je' P T pl zs)(vs:List (Nat×Value))(cs:List Value)
 (hps:ps.map (λp=>(p.1,ev F p.2))=vs) (hk:ps.all (λp=>bR n p.2)=true) (hf:xP pl zs (vs.map λp=>(p.1,p.2.cells.toList))=some cs)
 (h:wpList P ops Q rest (fr n (dF F d (.agg cs.toArray))) w) :
 wpList P ops Q (⟨d,.build T ps.toArray,ty,pos,bV,none⟩::rest) (fr n F) w:=by
 refine gH rfl (.agg cs.toArray) w ?_ h;obtain ⟨fs,i,z,h1,h2,h3,h4,h5⟩:=hT;have he:(ps.toArray.map λ(i,x)=>(i,(fr n F).eval x)).toList=vs:=by rw [<- hps];simp only [Array.toList_map];apply Nb';intro p hp;rw [dx ((Le'.1 hk) p hp)]
 have hb:P.built T vs=some cs.toArray:=by simp only [Program.built,h2,h1,h3,h5,h4];exact WR pl vs zs cs hf
 have hr:=run_build (P:=P) w T (ps.toArray.map λ(i,x)=>(i,(fr n F).eval x)) cs.toArray (by rw [he,hb])
 show Sem.run P (do pure (Next.value (<- Instr.build T (ps.toArray.map λ(i,x)=>(i,(fr n F).eval x))))) w=_
 rw [Sem.run_bind,hr];rfl
theorem XI (sz:Nat)(hsz:0<sz):∀ (vs:List Value) (k:Nat) (cells:List Value),cells.length=(k+vs.length)*sz->(∀ v∈vs,v.cells.size=sz) ->
 Instr.fill (λi=>some (i*sz,sz)) cells.toArray ((vs.zipIdx k).map λp=>(p.2,p.1))=some (cells.take (k*sz)++vs.flatMap (·.cells.toList)).toArray
 | [],k,cells,hl,hv=>by simp only [List.zipIdx_nil,List.map_nil,Instr.fill,List.flatMap_nil,MK',Lh',ME'] at hl ⊢;rw [<- hl,NT']
 | v::vs,k,cells,hl,hv=>by
   have hs:v.cells.size=sz:=hv v (by simp)
   have hle:k*sz+v.cells.toList.length<=cells.length:=by rw [hl,LV',hs,Ld',LP',LP']; omega
   have hf:=YE (k*sz) v.cells.toList 0 cells (by simpa using hle)
   have ha:v.cells.zipIdx.foldl (λ(cs:Array Value) (x:Value×Nat)=>cs.setIfInBounds (k*sz+x.2) x.1) cells.toArray=(cells.take (k*sz)++v.cells.toList++cells.drop (k*sz+v.cells.toList.length)).toArray:=by rw [<- Array.foldl_toList,Array.toList_zipIdx];simpa using hf
   have ih:=XI sz hsz vs (k+1) (cells.take (k*sz)++v.cells.toList++cells.drop (k*sz+v.cells.toList.length)) (by
    simp only [Lf',LC',LK',LV',hs] at hle ⊢;rw [Nw' (by omega),hl]
    simp only [Ld',LP',NF'] at hl hle ⊢;omega) (λu hu=>hv u (by simp [hu]))
   simp only [List.zipIdx_cons,LJ',Instr.fill];rw [if_neg (by simp at hle ⊢; omega)]
   have e:(cells.take (k*sz)++v.cells.toList++cells.drop (k*sz+v.cells.toList.length)).take ((k+1)*sz)=cells.take (k*sz)++v.cells.toList:=by
    have hl2:(cells.take (k*sz)++v.cells.toList).length=(k+1)*sz:=by simp only [Lf',LC',LV',hs,LP',NF'] at hle ⊢;omega
    rw [<- hl2]; exact MJ'
   rw [e] at ih;simp only [Mk',<- Lt'];rw [<- ih];congr 1
theorem uV {T:TypeId}{x:Operand}{lo hi mx:Option Operand}{w:World}(a v:Value)(l h' m:Option Value)(hx:ev F x=a)(hkx:bR n x=true)
 (hl:lo.map (ev F)=l) (hh:hi.map (ev F)=h') (hm:mx.map (ev F)=m) (hk:(lo.all (bR n)&&hi.all (bR n)&&mx.all (bR n))=true)
 (hr:bg P w (Instr.sliceAt T a l h' m) v) (h:wpList P ops Q rest (fr n (dF F d v)) w) :
 wpList P ops Q (⟨d,.slice T x lo hi mx,ty,pos,bV,none⟩::rest) (fr n F) w :=
 gH rfl v w (by
  have e:∀ o:Option Operand,o.all (bR n)=true->o.map (fr n F).eval=o.map (ev F):=by
   intro o ho;cases o with
   | none=>rfl
   | some q=>simp at ho; simp [dx ho]
  obtain ⟨h12,h3⟩:=NS'.1 hk;obtain ⟨h1,h2⟩:=NS'.1 h12;show Sem.run P (do pure (Next.value (<- Instr.sliceAt T ((fr n F).eval x) (lo.map (fr n F).eval) (hi.map (fr n F).eval) (mx.map (fr n F).eval)))) w=_
  rw [dx hkx,hx,e lo h1,e hi h2,e mx h3,hl,hh,hm,Sem.run_bind,hr]; rfl) h
def mV (P : Program) (f : FuncId) : Prop := ∃ fn c, P.funcs[f]? = some fn /\ fn.body = some c /\ (fn.name == "runtime.NumGoroutine") = false
def UO (P:Program)(f:FuncId)(vs:List Value)(σ:S)(R:Value->S->Prop):Prop :=
 mV P f/\Calls P f vs.toArray σ.w λe w'=>∃ v τ,e=.returned v/\τ.w=w'/\pE σ τ/\R v τ
theorem UO.mono {f:FuncId}{vs:List Value}{R R':Value->S->Prop}(h:UO P f vs σ R)(k:∀ v τ,pE σ τ->R v τ->R' v τ):UO P f vs σ R' :=
 ⟨h.1,h.2.mono λ_ _ ⟨v,τ,e,hw,he,hr⟩=>⟨v,τ,e,hw,he,k v τ he hr⟩⟩
theorem fV' {fn:Fn}{xs ys:List Operand}{w:World}(KX' bs:List Value)(ha:xs.map (ev F)=KX')(hb:ys.map (ev F)=bs)(hk:(xs.all (bR n)&&ys.all (bR n))=true)
 (h:wpList P ops Q rest (fr n (dF F d (.func fn KX'.toArray bs.toArray))) w) :
 wpList P ops Q (⟨d,.makeFunc fn xs.toArray ys.toArray,ty,pos,bV,none⟩::rest) (fr n F) w :=
 gH rfl (.func fn KX'.toArray bs.toArray) w (by
  obtain ⟨h1,h2⟩:=NS'.1 hk;have e:∀ (l:List Operand),l.all (bR n)=true->l.toArray.map (fr n F).eval=(l.map (ev F)).toArray:=by intro l hl;simp only [List.map_toArray];congr 1;exact Nb' λx hx=>dx ((Le'.1 hl) x hx)
  simp [execOp,Instr.makeFunc,e xs h1,e ys h2,ha,hb]) h
def gZ (vs:List Value):Fr:=λi=>vs.getD i undef
def vm' (P:Program)(n:Nat)(F:Fr)(w:World):ResultVar->Value->Prop
 | .tmp t,v=>LF' t n=true/\F t=v
 | .cell t T,v=>LF' t n=true/\∃ b,F t=.pointer (some ⟨b,0,none⟩)/\bg P w (loadVar T ⟨b,0,none⟩) v
def yj (tmps:Array Value):ResultVar->Sem Value
 | .tmp t=>pure (tmps.getD t undef)
 | .cell a t=>do loadVar t (<- asAddr (tmps.getD a undef))
theorem Ql (fn:Func)(tmps:Array Value):results fn tmps=(do
 let vs <- fn.results.mapM (yj tmps)
 pure (if h:vs.size=1 then vs[0] else .tuple vs)):=by
 have e:(yj tmps)=(λ| .tmp t=>pure (tmps.getD t undef) | .cell a t=>do loadVar t (<- asAddr (tmps.getD a undef))):=by funext r; cases r<;>rfl
 rw [e]; rfl
theorem LU {w:World}{r:ResultVar}{v:Value}(h:vm' P n F w r v):(yj (fr n F).tmps r).run P w=.ok v w:=by
 cases r with
 | tmp t=>obtain ⟨h1,h2⟩:=h; show Sem.run P (pure _) w=_; rw [fo' h1,h2]; rfl
 | cell t T =>
   obtain ⟨h1,b,h2,h3⟩:=h;have h3':(loadVar T ⟨b,0,none⟩).run P w=.ok v w:=h3;show Sem.run P (do loadVar T (<- asAddr ((fr n F).tmps.getD t undef))) w=_
   rw [fo' h1,h2];simp [asAddr,h3']
inductive Fl (α β:Type) where
 | next (a:α)
 | done (b:β)
def iter {α β:Type}(step:α->Option (Fl α β)):Nat->α->Option β
 | 0,_=>none
 | k+1,s=>(step s).bind λ| .next s'=>iter step k s' | .done b=>some b
theorem J4 {α β:Type}{body:Code}{step:α->Option (Fl α β)}(Inv:α->Act->World->Prop)(Post:β->Exit->Act->World->Prop)(hno:∀ b a w,¬ Post b .normal a w)
 (hbody:∀ s fl a w,step s=some fl->Inv s a w->body.wp P (λe a' w'=>match fl with | .next s'=>e=.normal/\Inv s' a' w' | .done b=>Post b e a' w') a w) :
 ∀ (k:Nat) (s:α) (b:β) (a:Act) (w:World),iter step k s=some b->Inv s a w->(Code.loop body).wp P (Post b) a w:=by
 have key:∀ (k:Nat) (s:α) (b:β) (a:Act) (w:World),iter step k s=some b->Inv s a w->Code.rounds P body (Post b) k a w:=by
  intro k
  induction k with
  | zero=>intro s b a w h; cases h
  | succ k ih =>
    intro s b a w h hI;simp only [iter] at h;cases hs:step s with
    | none=>rw [hs] at h; cases h
    | some fl =>
      rw [hs] at h;have hb:=hbody s fl a w hs hI;show body.wp P (Exit.then (Code.rounds P body (Post b) k) (Post b)) a w
      refine wp_mono hb λe a' w' hp=>?_;cases fl with
      | next s' =>obtain ⟨rfl,hI'⟩:=hp;exact ih s' b a' w' h hI'
      | done b' =>simp only [KY',LI'.injEq] at h;subst h;cases e<;>first | exact absurd hp (hno _ _ _) | exact hp
 exact λk s b a w h hI=>wp_loop_rounds k (key k s b a w h hI)
end
theorem bind_some {α β:Type}{a:Option α}{f:α->Option β}{b:β}(h:a.bind f=some b):∃ x,a=some x/\f x=some b:=by
 cases a with
 | none=>cases h
 | some x=>exact ⟨x,rfl,h⟩
def d9 (x:Int):Int:=IntKind.i64.wrap x
def bU (a b:ByteArray):Bool:=a.toList==b.toList
def jI (a b:ByteArray):Bool:=Op.bytesLess a.toList b.toList
def aT (n bytes:Nat):Option Unit:=if n*bytes<=140737488355328 then some () else none
theorem XE {n bytes:Nat}{u:Unit}(h:aT n bytes=some u):n*bytes<=140737488355328:=by
 unfold aT at h;split at h
 ·assumption
 ·cases h
def mD (s:ByteArray)(j:Int):Option UInt8:=if 0<=j then s[j.toNat]? else none
def BR (a b:Int):Option Int:=if b=0 then none else some (a.tmod b)
def cut {α:Type}(xs:List α)(lo hi:Int):Option (List α):=if 0<=lo/\lo<=hi/\hi<=(xs.length:Int) then some ((xs.take hi.toNat).drop lo.toNat) else none
def aL {α β γ:Type}(f:α->Option γ)(g:β->Option γ):Sum α β->Option γ
 | .inl a=>f a
 | .inr b=>g b
section
variable {P:Program}{Q:Exit->Act->World->Prop}{K:Act->World->Prop}{a:Act}{w:World}
theorem iM {y:Code}(h:y.wp P Q a w):Exit.then (y.wp P Q) Q .normal a w:=h
theorem df' {id:Nat}(h:Q (.exit id) a w):Exit.then K Q (.exit id) a w:=h
theorem yx' (h:Q .ret a w):Exit.then K Q .ret a w:=h
theorem iZ' {id:Nat}(h:Q .normal a w):Exit.inBlock id Q .normal a w:=h
theorem eC' {id:Nat}(h:Q .normal a w):Exit.inBlock id Q (.exit id) a w:=by simp only [Exit.inBlock,if_true]; exact h
theorem Ki {n:Nat}{F:Fr}{t:Tmp}{c:Bool}{x y:Code}(ht:F t=.bool c)(hc:c=true)(hk:LF' t n=true)(h:x.wp P Q (fr n F) w):(Code.cond (.tmp t) x y).wp P Q (fr n F) w :=
 wp_cond_true (by rw [dx (x:=.tmp t) hk]; show F t=_; rw [ht,hc]) h
theorem GY {n:Nat}{F:Fr}{t:Tmp}{c:Bool}{x y:Code}(ht:F t=.bool c)(hc:c=false)(hk:LF' t n=true)(h:y.wp P Q (fr n F) w):(Code.cond (.tmp t) x y).wp P Q (fr n F) w :=
 wp_cond_false (by rw [dx (x:=.tmp t) hk]; show F t=_; rw [ht,hc]) h
end
def tN (A:List Nat)(F G:Fr):Prop:=∀ i,A.contains i=false->F i=G i
theorem tN.refl (A:List Nat)(F:Fr):tN A F F:=λ_ _=>rfl
theorem tN.put {A:List Nat}{F G:Fr}{d:Nat}{v:Value}(h:tN A F G)(hd:A.contains d=true):tN A (dF F (some d) v) G:=λi hi=>by
 have:Lm' i d=false:=beq_false (by rintro rfl; rw [hd] at hi; cases hi)
 simp only [dF,upd,this,cond_false];exact h i hi
theorem tN.loop {A A2:List Nat}{F G H:Fr}(h:tN A G H)(k:tN A2 F G)(hs:A2.all (λi=>A.contains i)=true):tN A F H:=λi hi=>by
 refine (k i ?_).trans (h i hi);cases hc:A2.contains i with
 | false=>rfl
 | true =>
   have:=(Le'.1 hs) i (by simpa using hc)
   rw [hi] at this; cases this
section
variable {P:Program}{w:World}{T:TypeId}{x y:Operand}{k:IntKind}{a b:Int}
theorem XJ:bg P w (do eqGuard .add T x y (.int k a) (.int k b); binOp .add T (.int k a) (.int k b)) (.int k (k.wrap (a+b))):=by simp [bg,eqGuard_add,binOp_add,Op.intArith]
theorem wS':bg P w (do eqGuard .sub T x y (.int k a) (.int k b); binOp .sub T (.int k a) (.int k b)) (.int k (k.wrap (a-b))):=by simp [bg,eqGuard_sub,binOp_sub,Op.intArith]
theorem Ag':bg P w (do eqGuard .mul T x y (.int k a) (.int k b); binOp .mul T (.int k a) (.int k b)) (.int k (k.wrap (a*b))):=by simp [bg,eqGuard_mul,binOp_mul,Op.intArith]
theorem WO:bg P w (do eqGuard .lss T x y (.int k a) (.int k b); binOp .lss T (.int k a) (.int k b)) (.bool (decide (a<b))):=by simp [bg,eqGuard_lss,binOp_lss]
theorem BG':bg P w (do eqGuard .leq T x y (.int k a) (.int k b); binOp .leq T (.int k a) (.int k b)) (.bool (decide (a<=b))):=by simp [bg,eqGuard_leq,binOp_leq]
theorem vF':bg P w (do eqGuard .gtr T x y (.int k a) (.int k b); binOp .gtr T (.int k a) (.int k b)) (.bool (decide (b<a))):=by simp [bg,eqGuard_gtr,binOp_gtr]
theorem vl':bg P w (do eqGuard .geq T x y (.int k a) (.int k b); binOp .geq T (.int k a) (.int k b)) (.bool (decide (b<=a))):=by simp [bg,eqGuard_geq,binOp_geq]
theorem qI':bg P w (do eqGuard .eql T x y (.int k a) (.int k b); binOp .eql T (.int k a) (.int k b)) (.bool (a==b)):=by simp [bg,eqGuard_at_int,binOp_eql]
theorem rt':bg P w (do eqGuard .neq T x y (.int k a) (.int k b); binOp .neq T (.int k a) (.int k b)) (.bool (a != b)):=by simp [bg,eqGuard_at_int,binOp_neq]
variable {s t:ByteArray}
theorem qL':bg P w (do eqGuard .eql T x y (.string s) (.string t); binOp .eql T (.string s) (.string t)) (.bool (bU s t)):=by simp [bg,eqGuard_at_string,binOp,Op.stringOp,bU]
theorem nV':bg P w (do eqGuard .neq T x y (.string s) (.string t); binOp .neq T (.string s) (.string t)) (.bool (!bU s t)):=by simp [bg,eqGuard_at_string,binOp,Op.stringOp,bU]
theorem BO':bg P w (do eqGuard .lss T x y (.string s) (.string t); binOp .lss T (.string s) (.string t)) (.bool (jI s t)):=by simp [bg,eqGuard_at_string,binOp,Op.stringOp,jI]
theorem Do':bg P w (do eqGuard .gtr T x y (.string s) (.string t); binOp .gtr T (.string s) (.string t)) (.bool (!(jI s t||bU s t))):=by simp [bg,eqGuard_at_string,binOp,Op.stringOp,jI,bU]
theorem sU':bg P w (do eqGuard .geq T x y (.string s) (.string t); binOp .geq T (.string s) (.string t)) (.bool (!jI s t)):=by simp [bg,eqGuard_at_string,binOp,Op.stringOp,jI]
theorem rH':bg P w (do eqGuard .leq T x y (.string s) (.string t); binOp .leq T (.string s) (.string t)) (.bool (jI s t||bU s t)):=by simp [bg,eqGuard_at_string,binOp,Op.stringOp,jI,bU]
theorem aM' (hT:P.underlying T=some .bool)(p q:Bool)(d:Nat):(Op.equalIn (d+1) T (.bool p) (.bool q)).run P w=.ok (p==q) w:=by simp [Op.equalIn,run_underlying hT]
theorem qx' {p q:Bool}(hT:P.underlying T=some .bool):bg P w (do eqGuard .eql T x y (.bool p) (.bool q); binOp .eql T (.bool p) (.bool q)) (.bool (p==q)):=by
 have h:=aM' (w:=w) hT p q 9999;show Sem.run P (do eqGuard .eql T x y (.bool p) (.bool q); pure (Value.bool (<- Op.equalIn 10000 T (.bool p) (.bool q)))) w=_
 rw [eqGuard_at_bool];simp only [Sem.run_bind,Sem.run_pure,Result.andThen_ok,h]
theorem xE' {p q:Bool}(hT:P.underlying T=some .bool):bg P w (do eqGuard .neq T x y (.bool p) (.bool q); binOp .neq T (.bool p) (.bool q)) (.bool (p != q)):=by
 have h:=aM' (w:=w) hT p q 9999;show Sem.run P (do eqGuard .neq T x y (.bool p) (.bool q); pure (Value.bool (!(<- Op.equalIn 10000 T (.bool p) (.bool q))))) w=_
 rw [eqGuard_at_bool];simp only [Sem.run_bind,Sem.run_pure,Result.andThen_ok,h];rfl
theorem xP' {p:Bool}:bg P w (Op.unary .not (.bool p)) (.bool (!p)):=by simp [bg,Op.unary]
theorem qB':bg P w (Op.unary .neg (.int k a)) (.int k (k.wrap (0-a))):=by simp [bg,Op.unary,Op.intArith]
theorem DY' {src dst:TypeId}{k':IntKind}(hs:(P.underlying src).isSome=true)(hd:P.underlying dst=some (.int k')):bg P w (convert src dst (.int k a)) (.int k' (k'.wrap a)):=by obtain ⟨d,hd'⟩:=Nk'.1 hs;simp [bg,convert,run_underlying hd',run_underlying hd,Conv.intToInt]
theorem zq' {j:Int}{c:UInt8}(hT:P.underlying T=some .string)(h:mD s j=some c):bg P w (Instr.index T (.string s) (.int k j)) (.int .u8 (c.toNat:Int)):=by
 unfold mD at h;split at h
 ·rename_i h0;simp [bg,Instr.index,asIntOf,run_underlying hT,h0,h]
 ·cases h
end
theorem Ol {α:Type}{xs ys:List α}{lo hi:Int}(h:cut xs lo hi=some ys):0<=lo/\lo<=hi/\hi<=(xs.length:Int)/\ys=(xs.take hi.toNat).drop lo.toNat:=by
 unfold cut at h;split at h
 ·rename_i hh; simp only [LI'.injEq] at h; exact ⟨hh.1,hh.2.1,hh.2.2,h.symm⟩
 ·cases h
section
variable {P:Program}{ops:Array Oper}{Q:Exit->Act->World->Prop}{n:Nat}{F:Fr}{rest:List Oper}{dst:Option Nat}{op:Op}{ty:TypeId}{pos:String}{bV:Array Edge}{w:World}
theorem bO' {j d:Nat}{want c:Bool}(hd:(ops[j]?).bind (·.dst)=some d)(hF:F d=.bool c)(hlt:LF' d n=true) :
 Region.wanted ⟨dst,op,ty,pos,bV,some (j,want)⟩ (yielded ops (fr n F).tmps)=(c==want):=by
 have h2:(fr n F).tmps[d]?=some (.bool c):=by simp [fr,kN hlt,hF]
 have hy:yielded ops (fr n F).tmps j=some c:=by
  unfold yielded;rw [hd];show (match (fr n F).tmps[d]? with | some (.bool b)=>some b | _=>none)=some c
  rw [h2]
 simp only [Region.wanted,hy];cases c<;>cases want<;>rfl
theorem qQ' {t u:TypeId}{x y:Operand}(k:IntKind)(a b:Int)(hx:ev F x=.int k a)(hy:ev F y=.int k b)(hkx:bR n x=true)(hky:bR n y=true)
 (h:wpList P ops Q rest (fr n (dF F dst (.int k (min a b)))) w) :
 wpList P ops Q (⟨dst,.call ⟨.builtin .min,#[x,y],#[t,u]⟩,ty,pos,bV,none⟩::rest) (fr n F) w :=
 gH rfl _ w (by
  have e:(if b<a then b else a)=min a b:=by split<;>omega
  simp [execOp,resolve,invoke,builtin,dx hkx,dx hky,hx,hy,Builtin.min_,Builtin.min2];exact e) h
end
theorem tN.gen {A:List Nat}{F G H:Fr}(h:tN A G H)(k:∀ i,F i=G i):tN A F H:=λi hi=>(k i).trans (h i hi)
def Ro (B:Nat)(σ:S)(b:Nat)(T:TypeId)(cs:List Value):Prop:=b<B/\σ.w.heap[b]?=some (.cells cs.toArray T (0,0))
section
variable {B id b:Nat}{σ τ:S}{T:TypeId}{cs:List Value}
theorem Ro.ext (h:Ro B σ b T cs)(k:pE σ τ):Ro B τ b T cs:=⟨h.1,(k.below.block b (jJ h.2)).trans h.2⟩
theorem Ro.cell (h:Ro B σ b T cs)(i:Nat):σ.w.cell? ⟨b,i,none⟩=cs[i]?:=by simp [World.cell?,h.2]
theorem Ro.range (h:Ro B σ b T cs)(o:Nat)(vs:List Value)(hv:(cs.drop o).take vs.length=vs):σ.w.rangeAt b o vs:=by intro j v hj;rw [h.cell];have hlt:=(La'.1 hj).1;rw [<- hv,Lw' hlt,Mh'] at hj;exact hj
end
section
variable {P:Program}{α:Type} [Rp α] {σ:S}{T E:TypeId}{xs ys:List α}{A:Option Addr}{c:Nat}
theorem Sl.clip (h:Sl σ xs A c):Sl σ xs A xs.length:=by obtain ⟨h1,h2,h3⟩:=h;exact ⟨Lg' _,Lr' h1 h2,h3⟩
theorem AK' {w:World}{len:Nat}{A:Option Addr}{c:Nat}(hT:P.underlying T=some (.slice E)){k:Nat}(hE:(P.info? E).map (·.size)=some k) :
 bg P w (Instr.sliceAt T (.slice A len c) none (some (.int .i64 0)) (some (.int .i64 0))) (.slice A 0 0):=by
 have:=run_sizeOf hE w;simp [bg,Instr.sliceAt,Instr.slice,Instr.sliceBounds,Instr.sliceBound,asIntOf,run_underlying hT,this]
theorem uf' (h:Sl σ xs A c)(hT:P.underlying T=some (.slice E)){k:Nat}(hE:(P.info? E).map (·.size)=some k) :
 bg P σ.w (Instr.sliceAt T (.slice A xs.length c) none (some (.int .i64 (xs.length:Int))) (some (.int .i64 (xs.length:Int)))) (.slice A xs.length xs.length):=by
 have:=run_sizeOf hE σ.w;have hn:=h.1;have hlt:¬ c<xs.length:=by omega
 ·cases A<;>simp [bg,Instr.sliceAt,Instr.slice,Instr.sliceBounds,Instr.sliceBound,asIntOf,run_underlying hT,this,hlt,Addr.add]
theorem Sl.sub (h:Sl σ xs A c){l hh:Nat}(h1:l<=hh)(h2:hh<=xs.length):Sl σ ((xs.take hh).drop l) (if c=l then A else A.map (·.add (l*Rp.sz α))) (c-l):=by
 obtain ⟨k1,k2,cs,k3,k4⟩:=h;have hlen:((xs.take hh).drop l).length=hh-l:=by simp; omega
 refine ⟨by rw [hlen]; omega,by omega,?_⟩
 have hs:xs=xs.take l++((xs.take hh).drop l++xs.drop hh):=by
  have e1:=Mm' l (xs.take hh);have e2:=Mm' hh xs;have e3:(xs.take hh).take l=xs.take l:=by rw [List.take_take]; congr 1; omega
  rw [e3] at e1;rw [<- Lt',e1,e2]
 rw [hs] at k3;obtain ⟨c1,d1,rfl,f1,f2⟩:=k3.split;obtain ⟨c2,d2,rfl,f3,f4⟩:=f2.split;refine ⟨c2,f3,λhn=>?_⟩;have hpos:0<hh-l:=by rw [<- hlen]; exact NY'.2 hn
 obtain ⟨b,o,rfl,hse⟩:=k4 (by intro e; rw [e] at h2; simp at h2; omega)
 rw [if_neg (by omega)]
 refine ⟨b,o+l*Rp.sz α,by simp [Addr.add_mid],?_⟩
 have:=(hse.app.2).app.1;rw [f1.len,LC',Nw' (by omega)] at this
 exact this
theorem AD' {lo hi:Int}(h:Sl σ xs A c)(hc:cut xs lo hi=some ys)(hT:P.underlying T=some (.slice E))(hE:(P.info? E).map (·.size)=some (Rp.sz α)) :
 ∃ A' c',bg P σ.w (Instr.sliceAt T (.slice A xs.length c) (some (.int .i64 lo)) (some (.int .i64 hi)) none) (.slice A' ys.length c')/\Sl σ ys A' c':=by
 obtain ⟨h1,h2,h3,rfl⟩:=Ol hc;have hk:=h.1;refine ⟨_,_,?_,h.sub (l:=lo.toNat) (hh:=hi.toNat) (by omega) (by omega)⟩
 have hsz:=run_sizeOf hE σ.w;have a1:hi<=(c:Int):=by omega
 have a2:0<=hi:=by omega
 have a3:lo<=((hi.toNat:Nat):Int):=by omega
 have hlen:((xs.take hi.toNat).drop lo.toNat).length=hi.toNat-lo.toNat:=by simp; omega
 rw [hlen];simp only [bg,Instr.sliceAt,Instr.slice,Instr.sliceBounds,Instr.sliceBound,asIntOf,Sem.run_bind,run_underlying hT,Result.andThen_ok,Sem.run_pure,if_pos (And.intro a2 a1),if_pos (And.intro h1 a3),hsz,if_true]
theorem Ef' {hi:Int}(h:Sl σ xs A c)(hc:cut xs 0 hi=some ys)(hT:P.underlying T=some (.slice E))(hE:(P.info? E).map (·.size)=some (Rp.sz α)) :
 ∃ A' c',bg P σ.w (Instr.sliceAt T (.slice A xs.length c) none (some (.int .i64 hi)) none) (.slice A' ys.length c')/\Sl σ ys A' c':=by
 obtain ⟨h1,h2,h3,rfl⟩:=Ol hc;have hk:=h.1;refine ⟨_,_,?_,h.sub (l:=(0:Int).toNat) (hh:=hi.toNat) (by omega) (by omega)⟩
 have hsz:=run_sizeOf hE σ.w;have a1:hi<=(c:Int):=by omega
 have hlen:((xs.take hi.toNat).drop (0:Int).toNat).length=hi.toNat-0:=by simp; omega
 rw [hlen];simp only [bg,Instr.sliceAt,Instr.slice,Instr.sliceBounds,Instr.sliceBound,asIntOf,Sem.run_bind,run_underlying hT,Result.andThen_ok,Sem.run_pure,if_pos (And.intro h2 a1),hsz];rfl
theorem tg' {lo:Int}(h:Sl σ xs A c)(hc:cut xs lo (xs.length:Int)=some ys)(hT:P.underlying T=some (.slice E))(hE:(P.info? E).map (·.size)=some (Rp.sz α)) :
 ∃ A' c',bg P σ.w (Instr.sliceAt T (.slice A xs.length c) (some (.int .i64 lo)) none none) (.slice A' ys.length c')/\Sl σ ys A' c':=by
 obtain ⟨h1,h2,h3,rfl⟩:=Ol hc;have hk:=h.1;refine ⟨_,_,?_,h.sub (l:=lo.toNat) (hh:=(xs.length:Int).toNat) (by omega) (by omega)⟩
 have hsz:=run_sizeOf hE σ.w;have hlen:((xs.take (xs.length:Int).toNat).drop lo.toNat).length=xs.length-lo.toNat:=by simp
 rw [hlen];simp only [bg,Instr.sliceAt,Instr.slice,Instr.sliceBounds,Instr.sliceBound,asIntOf,Sem.run_bind,run_underlying hT,Result.andThen_ok,Sem.run_pure,if_pos (And.intro h1 h2),hsz]
end
theorem wm' {P:Program}{w:World}{T E:TypeId}{x y:Operand}{A:Option Addr}{n c:Nat}(hT:P.underlying T=some (.slice E)) :
 bg P w (do eqGuard .eql T x y (.slice A n c) (.slice none 0 0); binOp .eql T (.slice A n c) (.slice none 0 0)) (.bool A.isNone):=by
 have h:∀ d:Nat,(Op.equalIn (d+1) T (.slice A n c) (.slice none 0 0)).run P w=.ok A.isNone w:=λd=>by cases A<;>simp [Op.equalIn,run_underlying hT]
 show Sem.run P (do eqGuard .eql T x y (.slice A n c) (.slice none 0 0); pure (Value.bool (<- Op.equalIn 10000 T (.slice A n c) (.slice none 0 0)))) w=_
 rw [eqGuard_at_slice];simp only [Sem.run_bind,Sem.run_pure,Result.andThen_ok,h 9999]
theorem Sl.Eg' {α:Type} [Rp α] {σ:S}{xs:List α}{A:Option Addr}{c:Nat}(h:Sl σ xs A c)(hA:A.isNone=true):xs=[]:=by apply Classical.byContradiction;intro hn;obtain ⟨_,_,cs,_,h4⟩:=h;obtain ⟨b,o,rfl,_⟩:=h4 hn;cases hA
section
variable {P:Program}{ops:Array Oper}{Q:Exit->Act->World->Prop}{n:Nat}{F:Fr}{rest:List Oper}{d:Option Nat}{ty:TypeId}{pos:String}{bV:Array Edge}{σ:S}
theorem vy' {T E:TypeId}{z:Value}{size bytes:Nat}(hT:ru P T E z size bytes)
 (h:∀ τ A,pE σ τ->wpList P ops Q rest (fr n (dF F d (.slice A 0 0))) τ.w) :
 wpList P ops Q (⟨d,.buildSlice T 0 (MF' []),ty,pos,bV,none⟩::rest) (fr n F) σ.w:=by
 obtain ⟨hu,⟨i,hi,hz,hsi,hby⟩,hzs,hp,hbp⟩:=hT;refine gH rfl (.slice (some ⟨σ.N,0,none⟩) 0 0) (σ.w.alloc (.cells #[] E)) ?_ (h _ _ (R7 σ _ (0,0)));show Sem.run P (do pure (Next.value (<- Instr.buildSlice T 0 (Array.map _ (MF' []))))) σ.w=_
 simp [Instr.buildSlice,run_underlying hu,sizeOf,typeInfo,hi,Instr.fill,newRow,Array.range_zero']
end
def nrm (J:Act->World->Prop):Exit->Act->World->Prop:=λe a w=>e=.normal/\J a w
section
variable {P:Program}{Q:Exit->Act->World->Prop}{x y z:Code}{a:Act}{w:World}
theorem XD (J:Act->World->Prop)(h:x.wp P (nrm J) a w)(k:∀ a w,J a w->y.wp P Q a w):(Code.seq x y).wp P Q a w :=
 wp_seq (wp_mono h λe a w ⟨he,hj⟩=>by subst he; exact k a w hj)
end
def Lx (a b:ByteArray):Int:=Lib.compareBytes a.data.toList b.data.toList
section
variable {P:Program}{ops:Array Oper}{Q:Exit->Act->World->Prop}{n:Nat}{F:Fr}{rest:List Oper}{d:Option Nat}{ty:TypeId}{pos:String}{bV:Array Edge}{w:World}
theorem rG' {f:FuncId}{xs:List Operand}{ats:Array TypeId}(vs:List Value)(v:Value)(hvs:xs.map (ev F)=vs)(hk:xs.all (bR n)=true)(hc:(callFunc f vs.toArray).run P w=.ok (.value v) w)
 (h:wpList P ops Q rest (fr n (dF F d v)) w) :
 wpList P ops Q (⟨d,.call ⟨.value (.func f),xs.toArray,ats⟩,ty,pos,bV,none⟩::rest) (fr n F) w :=
 gH rfl v w (by
  have he:xs.toArray.map (fr n F).eval=vs.toArray:=by rw [<- hvs];simp only [List.map_toArray];congr 1;exact Nb' λx hx=>dx ((Le'.1 hk) x hx)
  simp [execOp,resolve,Act.eval,Deferred.ofValue,invoke,he,hc]) h
theorem sg' {f : FuncId} {fn : Func} (hf : P.funcs[f]? = some fn) (hname : (fn.name == "runtime.NumGoroutine") = false) (hb : fn.body.isNone = true) (hn : Extern.findNext fn = none) (he : Extern.find fn = some Extern.BytealgCompare.compare) (a b : ByteArray) (w : World) :
 (callFunc f [Value.string a,.string b].toArray).run P w=.ok (.value (.int .i64 (Lx a b))) w:=by
 rw [run_callFunc_extern hf hname hb hn he];have:=Lib.run_compareString (P:=P) a b w;simp only [Lx];rw [this];rfl
end
section
variable {P:Program}{T:TypeId}{k:Nat}{r r1 r2:Bool}{xs ys:Array Value}{w:World}{x y:Operand}
def EqAt (P:Program)(k:Nat)(T:TypeId)(a b:Value)(r:Bool):Prop:=∀ d w,(Op.equalIn (d+k) T a b).run P w=.ok r w
def Qo (P:Program)(k:Nat)(xs ys:Array Value)(l:List Field)(r:Bool):Prop:=∀ d w,(Op.eqFields (d+k) xs ys l).run P w=.ok r w
theorem EqAt.le {a b:Value}{j:Nat}(h:EqAt P k T a b r)(hk:k<=j):EqAt P j T a b r:=λd w=>by
 have:=h (d+(j-k)) w;rwa [show d+(j-k)+k=d+j from by omega] at this
theorem Vf {kd kd':IntKind}{a b:Int}(h:P.underlying T=some (.int kd')):EqAt P 1 T (.int kd a) (.int kd b) (a==b):=λd w=>run_equalIn_int w d T kd kd' a b h
theorem sX' {a b:ByteArray}(h:P.underlying T=some .string):EqAt P 1 T (.string a) (.string b) (bU a b):=λd w=>run_equalIn_string w d T a b h
theorem DL' {fs:Array Field}(hu:P.underlying T=some (.struct fs))(hp:P.stoodInHeld T=false)(h:Qo P k xs ys fs.toList r):EqAt P (k+1) T (.agg xs) (.agg ys) r:=λd w=>by
 have e:P.fieldsOf T=fs:=by simp [Program.fieldsOf,hu]
 have:=run_equalIn_struct w (d+k) T xs ys (by rw [e]; exact hu) hp
 rw [e] at this;exact this.trans (h d w)
theorem rQ':Qo P k xs ys [] true:=λd w=>by simp [Op.eqFields]
theorem kx' {f : Field} {fs : List Field} {a b : Value} (hn : (f.name != "_") = true) (ha : ∀ w, (part f.type xs f.offset).run P w = .ok a w) (hb : ∀ w, (part f.type ys f.offset).run P w = .ok b w)
 (h1:EqAt P k f.type a b r1) (h2:Qo P k xs ys fs r2):Qo P k xs ys (f::fs) (r1&&r2):=λd w=>by
 have hn' : f.name ≠ "_" := by simpa using hn
 simp only [Op.eqFields,hn',ne_eq,not_false_eq_true,if_true,Sem.run_bind,ha,hb,Result.andThen_ok,h1 d w];cases r1
 ·simp
 ·simpa using h2 d w
theorem yK {t:TypeId}{cells:List Value}{o:Nat}{v:Value}(ht:iJ P t)(hv:cells[o]?=some v)(w:World):(part t cells.toArray o).run P w=.ok v w:=by
 obtain ⟨dd,h1,h2,h3⟩:=ht;have hagg:(isAgg t).run P w=.ok false w:=by unfold isAgg;rw [Sem.run_bind,run_underlying h1 w];cases dd<;>simp_all [TypeDesc.isRow]
 simp [part,hagg,hv]
theorem yQ' (hm:P.eqGuardType P.depth T=false)(h:EqAt P k T (.agg xs) (.agg ys) r)(hk:Mq' k 10000=true) :
 bg P w (do eqGuard .eql T x y (.agg xs) (.agg ys); binOp .eql T (.agg xs) (.agg ys)) (.bool r):=by
 have hk':=LG' hk;have h':=h (10000-k) w;rw [show 10000-k+k=10000 from by omega] at h'
 simp [bg,run_eqGuard_agg,hm,run_eql_struct,h']
theorem rX' (hm:P.eqGuardType P.depth T=false)(h:EqAt P k T (.agg xs) (.agg ys) r)(hk:Mq' k 10000=true) :
 bg P w (do eqGuard .neq T x y (.agg xs) (.agg ys); binOp .neq T (.agg xs) (.agg ys)) (.bool (!r)):=by
 have hk':=LG' hk;have h':=h (10000-k) w;rw [show 10000-k+k=10000 from by omega] at h'
 simp [bg,run_eqGuard_agg,hm,run_neq_struct,h']
end
end Go.Sx
namespace Go.Qx
open Go Go.RowKit Go.Sx
structure Stp (G:Nat->Prop)(σ τ:S):Prop where
 eP:gT σ τ
 os:τ.w.os=σ.w.os
 tape:τ.w.tape=σ.w.tape
 output:τ.w.output=σ.w.output
 block:∀ b,b<σ.N->¬ G b->τ.w.heap[b]?=σ.w.heap[b]?/\(τ.L b).1=(σ.L b).1
abbrev rf:Nat->Prop:=λ_=>False
theorem Stp.refl (G:Nat->Prop)(σ:S):Stp G σ σ:=⟨gT.refl σ,rfl,rfl,rfl,λ_ _ _=>⟨rfl,rfl⟩⟩
theorem Stp.trans {G:Nat->Prop}{σ τ υ:S}(h:Stp G σ τ)(k:Stp G τ υ):Stp G σ υ :=
 ⟨h.eP.trans k.eP,k.os.trans h.os,k.tape.trans h.tape,k.output.trans h.output,λb hb hg=>by obtain ⟨a1,a2⟩:=h.block b hb hg;obtain ⟨b1,b2⟩:=k.block b (MB' hb h.eP.size) hg;exact ⟨b1.trans a1,b2.trans a2⟩⟩
theorem Stp.mono {G G':Nat->Prop}{σ τ:S}(h:Stp G σ τ)(hg:∀ b,b<σ.N->G b->G' b):Stp G' σ τ :=
 ⟨h.eP,h.os,h.tape,h.output,λb hb hn=>h.block b hb λhgb=>hn (hg b hb hgb)⟩
theorem Stp.no {G:Nat->Prop}{σ τ:S}(h:Stp rf σ τ):Stp G σ τ:=h.mono λ_ _ h=>h.elim
theorem Stp.ext {σ τ:S}(h:pE σ τ):Stp rf σ τ:=⟨h.eP,h.below.os,h.below.tape,h.below.output,λb hb _=>⟨h.below.block b hb,by rw [h.mark b hb]⟩⟩
def sW (σ:S):S:=⟨σ.w,λb=>((σ.L b).1,b)⟩
theorem iA' (σ:S):gT σ (sW σ):=⟨Lg' _,λ_ _=>Lg' _,λ_ _ _ _ h=>h,Lg' _,λ_ _ _ h=>h⟩
theorem P9 {σ τ:S}{g:Nat}(h:Mod 0 g (sW σ) τ):Stp (λb=>b=g) σ τ :=
 ⟨(iA' σ).trans h.eP,h.os,h.tape,h.output,λb hb hn=>by obtain ⟨h1,h2⟩:=h.block b hb (.inr hn);exact ⟨h1,by rw [h2]; rfl⟩⟩
inductive Kd where
 | int (k:IntKind)
 | bool
 | str
 | sl (E:TypeId)
 | dat (E:TypeId)
 | any
 deriving DecidableEq
inductive K where
 | d (k:Kd)
 | row (E:TypeId) (fl:Bool)
 | map (T:TypeId) (kd:Kd)
 | pv (T:TypeId)
 deriving DecidableEq
inductive V where
 | k (k:K)
 | bW (ks:List K)
 deriving DecidableEq
def IK (_:IntKind):Type:=Int
instance Eh' (k:IntKind):Rp (IK k) where
 sz:=1
 pos:=by decide
 agg:=false
 cells:=λ_ n cs=>cs=[.int k n]
 len:=λh=>by rw [h]; rfl
 one:=λh v hv=>by rw [h] at hv; simp at hv; subst hv; rfl
 mono:=λ_ h=>h
section
variable (I:TypeId->Type)
abbrev Ty:Kd->Type
 | .int _=>Int
 | .bool=>Bool
 | .str=>ByteArray
 | .sl E=>List (I E)
 | .dat E=>I E
 | .any=>Unit
abbrev lg:K->Type
 | .d k=>Ty I k
 | .row E _=>List (I E)
 | .map _ kd=>List (ByteArray×Ty I kd)
 | .pv T=>I T
abbrev jl:List Kd->Type
 | []=>Unit
 | k::ks=>Ty I k×jl ks
abbrev jR:List K->Type
 | []=>Unit
 | [k]=>lg I k
 | k::k'::ks=>lg I k×jR (k'::ks)
abbrev mY:V->Type
 | .k k=>lg I k
 | .bW ks=>jR I ks
abbrev fO:List V->Type
 | []=>Unit
 | [v]=>mY I v
 | v::v'::vs=>mY I v×fO (v'::vs)
abbrev vG:List Kd->Type->Type
 | [],R=>Option R
 | k::ks,R=>Ty I k->vG ks R
end
variable {I:TypeId->Type}
def app {R:Type}:(ks:List Kd)->vG I ks R->jl I ks->Option R
 | [],g,_=>g
 | _::ks,g,q=>app ks (g q.1) q.2
def aM {R:Type}:(ks:List Kd)->(jl I ks->Option R)->vG I ks R
 | [],g=>g ()
 | _::ks,g=>λx=>aM ks λq=>g (x,q)
theorem kB' {R:Type}:∀ (ks:List Kd) (g:jl I ks->Option R) (q:jl I ks),app ks (aM ks g) q=g q
 | [],_,_=>rfl
 | _::ks,g,q=>kB' ks (λq'=>g (q.1,q')) q.2
inductive PV (I:TypeId->Type):Type where
 | int (k:IntKind) (n:Int)
 | bool (b:Bool)
 | str (s:ByteArray)
 | sl (E:TypeId) (xs:List (I E)) (full:Bool)
 | nl (E:TypeId)
 | ptr (l o:Nat)
 | vw (l:Nat)
 | vp (l sz j o:Nat)
 | vs (l sz lo:Nat)
 | av (l o m:Nat)
 | mp (l:Nat)
 | ep (E:TypeId) (x:I E) (o:Nat)
 | dat (E:TypeId) (x:I E)
 | qM (f:FuncId) (ls:List (PV I))
 | xD (f:FuncId) (ls:List (PV I))
 | fn (ks:List Kd) (rs:List V) (g:vG I ks (fO I rs))
 | agg (ls:List (PV I))
 | nV (ls:List (PV I))
 | undef
 | any
inductive Ob (I:TypeId->Type):Type where
 | var (T:TypeId) (ls:List (PV I)) (w:Bool)
 | row (E:TypeId) (xs:List (I E)) (fl:Bool)
 | ro (E:TypeId) (xs:List (I E))
 | bo (E:TypeId) (xs:List (I E))
 | aP (E E':TypeId) (u:Nat) (xs:List (I E)) (h:Nat)
 | map (T:TypeId) (kd:Kd) (m:List (ByteArray×Ty I kd))
 | gU (T:TypeId) (kd:Kd) (m:List (ByteArray×Ty I kd))
structure St (I:TypeId->Type) where
 n:Nat
 F:Nat->Option (PV I)
 O:Nat->Option (Option (Ob I))
 nx:Nat
def cB {α:Type}(F:Nat->Option α)(d:Nat)(p:α):Nat->Option α:=λi=>bif Lm' i d then some p else F i
theorem iq {α:Type}(F:Nat->Option α)(d:Nat)(p:α):cB F d p d=some p:=by simp [cB]
theorem fq {α:Type}{F:Nat->Option α}{d i:Nat}{p:α}(h:i≠d):cB F d p i=F i:=by simp [cB,beq_false h]
theorem dM {α:Type}{F:Nat->Option α}{d i:Nat}{p q:α}(h:cB F d p i=some q):(i=d/\q=p)\/(i≠d/\F i=some q):=by
 by_cases e:i=d
 ·subst e; rw [iq] at h; cases h; exact .inl ⟨rfl,rfl⟩
 ·rw [fq e] at h; exact .inr ⟨e,h⟩
def put (s:St I)(d:Option Nat)(p:PV I):St I:=match d with
 | some d=>⟨s.n,cB s.F d p,s.O,s.nx⟩
 | none=>s
def bG (s:St I)(l:Nat)(o:Option (Ob I)):St I:=⟨s.n,s.F,cB s.O l o,s.nx⟩
structure Pl where
 A:Option Addr
 k:Nat
 m:Nat
 w:Option Nat
abbrev Cx:=Nat->Option Pl
structure bZ where
 P:Program
 N:Nat
 G:Nat->Prop
def bZ.M (X:bZ):Nat->Prop:=λb=>X.N<=b\/X.G b
def kX (P:Program)(f:FuncId)(vs:List Value)(σ:S)(E:S->Prop)(R:Value->S->Prop):Prop :=
 (mV P f/\Calls P f vs.toArray σ.w λe w'=>∃ v τ,e=.returned v/\τ.w=w'/\E τ/\R v τ) \/
 ∃ v τ,(callFunc f vs.toArray).run P σ.w=.ok (.value v) τ.w/\E τ/\R v τ
theorem kX.mono {P:Program}{f:FuncId}{vs:List Value}{σ σ':S}{E E':S->Prop}{R R':Value->S->Prop}(h:kX P f vs σ E R)(hw:σ'.w=σ.w)(k:∀ v τ,E τ->R v τ->∃ τ',τ'.w=τ.w/\E' τ'/\R' v τ'):kX P f vs σ' E' R':=by
 rcases h with ⟨h1,h2⟩ | ⟨v,τ,h1,h2,h3⟩
 ·exact .inl ⟨h1,by
   rw [hw];exact h2.mono λ_ _ ⟨v,τ,e,hw,he,hr⟩=>by obtain ⟨τ',k1,k2,k3⟩:=k v τ he hr;exact ⟨v,τ',e,k1.trans hw,k2,k3⟩⟩
 ·obtain ⟨τ',k1,k2,k3⟩:=k v τ h2 h3;exact .inr ⟨v,τ',by rw [hw,k1]; exact h1,k2,k3⟩
section
variable [∀ E,Rp (I E)]
def DV (σ:S):(k:Kd)->Ty I k->Value->Prop
 | .int k,n,v=>v=.int k n
 | .bool,b,v=>v=.bool b
 | .str,s,v=>v=.string s
 | .sl E,xs,v=>∃ A c,v=.slice A (xs:List (I E)).length c/\Sl σ (xs:List (I E)) A c
 | .dat E,x,v=>∃ cs,v=.agg cs.toArray/\Rp.cells σ (x:I E) cs
 | .any,_,_=>True
def qI (σ:S):(ks:List Kd)->jl I ks->List Value->Prop
 | [],_,vs=>vs=[]
 | k::ks,q,vs=>∃ v r,vs=v::r/\DV σ k q.1 v/\qI σ ks q.2 r
theorem DV.mono {σ τ:S}(k:gT σ τ):∀ {kd:Kd} {x:Ty I kd} {v:Value},DV σ kd x v->DV τ kd x v
 | .int _,_,_,h=>h
 | .bool,_,_,h=>h
 | .str,_,_,h=>h
 | .sl _,_,_,⟨A,c,e,h⟩=>⟨A,c,e,h.mono k⟩
 | .dat _,_,_,⟨cs,e,h⟩=>⟨cs,e,Rp.mono k h⟩
 | .any,_,_,_=>trivial
theorem qI.mono {σ τ:S}(k:gT σ τ):∀ {ks:List Kd} {x:jl I ks} {vs:List Value},qI σ ks x vs->qI τ ks x vs
 | [],_,_,h=>h
 | _::_,_,_,⟨v,r,e,h1,h2⟩=>⟨v,r,e,h1.mono k,qI.mono k h2⟩
def qm (σ:S)(kd:Kd):List MapEntry->List (ByteArray×Ty I kd)->Prop
 | [],[]=>True
 | e::es,x::m=>e.key=.string x.1/\DV σ kd x.2 e.val/\qm σ kd es m
 | _,_=>False
theorem qm.mono {σ τ:S}(k:gT σ τ){kd:Kd}:∀ {es:List MapEntry} {m:List (ByteArray×Ty I kd)},qm σ kd es m->qm τ kd es m
 | [],[],h=>h
 | _::_,_::_,⟨h1,h2,h3⟩=>⟨h1,h2.mono k,qm.mono k h3⟩
 | [],_::_,h=>h.elim
 | _::_,[],h=>h.elim
def qA (σ:S)(kd:Kd)(m:List (ByteArray×Ty I kd))(b:Nat):Prop:=∃ es clock,σ.w.heap[b]?=some (.map es clock)/\qm σ kd es.toList m
theorem qA.step {σ τ:S}{kd:Kd}{m:List (ByteArray×Ty I kd)}{b:Nat}{G:Nat->Prop}(h:qA σ kd m b)(st:Stp G σ τ)(hn:¬ G b):qA τ kd m b:=by
 obtain ⟨es,clock,h1,h2⟩:=h;have hb:b<σ.N:=by
  rcases NR' b σ.w.heap.size with hlt | hge
  ·exact hlt
  ·rw [Nc' hge] at h1; cases h1
 exact ⟨es,clock,(st.block b hb hn).1.trans h1,h2.mono st.eP⟩
theorem qA.lt {σ:S}{kd:Kd}{m:List (ByteArray×Ty I kd)}{b:Nat}(h:qA σ kd m b):b<σ.N:=by
 obtain ⟨es,clock,h1,_⟩:=h;rcases NR' b σ.w.heap.size with hlt | hge
 ·exact hlt
 ·rw [Nc' hge] at h1; cases h1
def fD {α:Type} [Rp α] (ow:Option Nat)(fl:Bool)(E:TypeId)(σ:S)(xs:List α)(A:Option Addr)(k:Nat):Prop :=
 match ow with
 | none=>(xs=[]/\k=0)\/(fl=true/\k=xs.length/\Sl σ xs A k)
 | some g=>∃ aM cs,A=some ⟨g,0,none⟩/\σ.w.heap[g]?=some (.cells aM E (0,0))/\xs.length<=k/\k<=maxLen/\aM.size=k*Rp.sz α/\dJ σ xs cs /\
    aM.toList.take (xs.length*Rp.sz α)=cs/\(σ.L g).1=bif fl then xs.length*Rp.sz α else 0
theorem fD.step {α:Type} [Rp α] {ow:Option Nat}{fl:Bool}{E:TypeId}{σ τ:S}{xs:List α}{A:Option Addr}{k:Nat}{G:Nat->Prop}(h:fD ow fl E σ xs A k)(st:Stp G σ τ)(hn:∀ g,ow=some g->¬ G g):fD ow fl E τ xs A k:=by
 cases ow with
 | none =>
   rcases h with h | ⟨h1,h2,h3⟩
   ·exact .inl h
   ·exact .inr ⟨h1,h2,h3.mono st.eP⟩
 | some g =>obtain ⟨aM,cs,e,hh,h1,h2,h3,h4,h5,h6⟩:=h;obtain ⟨k1,k2⟩:=st.block g (jJ hh) (hn g rfl);exact ⟨aM,cs,e,k1.trans hh,h1,h2,h3,h4.mono st.eP,h5,k2.trans h6⟩
theorem fD.sl {α:Type} [Rp α] {ow:Option Nat}{E:TypeId}{σ:S}{xs:List α}{A:Option Addr}{k:Nat}(h:fD ow true E σ xs A k):Sl σ xs A k:=by
 cases ow with
 | none =>
   rcases h with ⟨rfl,rfl⟩ | ⟨_,_,h⟩
   ·exact Sl.AV _ _ _ (Mb' _)
   ·exact h
 | some g =>obtain ⟨aM,cs,rfl,hh,h1,h2,h3,h4,h5,h6⟩:=h;exact uK.sl (B:=0) (id:=(σ.L g).2) (T:=E) (.inr ⟨g,aM,cs,rfl,Mb' _,hh,h1,h2,h3,h4,h5,by rw [<- show (σ.L g).1=xs.length*Rp.sz α from h6]⟩)
theorem fD.le {α:Type} [Rp α] {ow:Option Nat}{fl:Bool}{E:TypeId}{σ:S}{xs:List α}{A:Option Addr}{k:Nat}(h:fD ow fl E σ xs A k):xs.length<=k/\k<=maxLen:=by
 cases ow with
 | none =>
   rcases h with ⟨rfl,rfl⟩ | ⟨_,rfl,h⟩
   ·exact ⟨Lg' _,Mb' _⟩
   ·exact ⟨Lg' _,h.2.1⟩
 | some g=>obtain ⟨aM,cs,rfl,hh,h1,h2,_⟩:=h; exact ⟨h1,h2⟩
def jP {α:Type} [Rp α] (M:Nat->Prop)(σ:S)(xs:List α)(A:Option Addr):Prop :=
 ∃ cs,dJ σ xs cs/\(xs≠[]->∃ b o,A=some ⟨b,o,none⟩/\σ.w.rangeAt b o cs/\(oz σ b o cs\/¬ M b))
theorem jP.step {α:Type} [Rp α] {M:Nat->Prop}{σ τ:S}{xs:List α}{A:Option Addr}(h:jP M σ xs A)(st:Stp M σ τ):jP M τ xs A:=by
 obtain ⟨cs,h1,h2⟩:=h;refine ⟨cs,h1.mono st.eP,λhn=>?_⟩;obtain ⟨b,o,e,h3,h4⟩:=h2 hn;rcases h4 with h4 | h4
 ·have h5:=h4.mono (h1.ne_nil hn) st.eP;exact ⟨b,o,e,h5.2,.inl h5⟩
 ·refine ⟨b,o,e,λi v hv=>?_,.inr h4⟩;have h5:=h3 i v hv;have h6:=(st.block b (um h5) h4).1;unfold World.cell? at h5 ⊢;rw [h6];exact h5
theorem jP.SQ {α:Type} [Rp α] {M:Nat->Prop}{σ:S}{xs:List α}{A:Option Addr}{k:Nat}(h:Sl σ xs A k):jP M σ xs A:=by obtain ⟨_,_,cs,h1,h2⟩:=h;refine ⟨cs,h1,λhn=>?_⟩;obtain ⟨b,o,e,h3⟩:=h2 hn;exact ⟨b,o,e,h3.2,.inl h3⟩
theorem jP.sub {α:Type} [Rp α] {M M':Nat->Prop}{σ:S}{xs:List α}{A:Option Addr}(h:jP M σ xs A)(hm:∀ b,b<σ.N->M' b->M b):jP M' σ xs A:=by
 obtain ⟨cs,h1,h2⟩:=h;refine ⟨cs,h1,λhn=>?_⟩;obtain ⟨b,o,e,h3,h4⟩:=h2 hn;refine ⟨b,o,e,h3,h4.imp id λh5 h6=>h5 (hm b ?_ h6)⟩;cases cs with
 | nil=>exact absurd rfl (h1.ne_nil hn)
 | cons v r=>exact um (h3 0 v rfl)
theorem jP.kH' {α:Type} [Rp α] {M:Nat->Prop}{σ:S}{ow:Option Nat}{fl:Bool}{E:TypeId}{xs:List α}{A:Option Addr}{k:Nat}(h:fD ow fl E σ xs A k)(hm:∀ g,ow=some g->¬ M g):jP M σ xs A:=by
 cases ow with
 | none =>
   rcases h with ⟨rfl,_⟩ | ⟨_,_,h⟩
   ·exact ⟨[],rfl,λhn=>absurd rfl hn⟩
   ·exact jP.SQ h
 | some g =>obtain ⟨aM,cs,e,hh,h1,h2,h3,h4,h5,h6⟩:=h;refine ⟨cs,h4,λ_=>⟨g,0,e,λi v hv=>?_,.inr (hm g rfl)⟩⟩;have hil:=(La'.1 hv).1;rw [h4.len] at hil;rw [<- h5,Lw' hil,Lz'] at hv;simp [World.cell?,hh,hv]
theorem jP.at_ {α:Type} [Rp α] {M:Nat->Prop}{σ:S}{xs:List α}{A:Option Addr}(h:jP M σ xs A){j:Nat}{x:α}(hx:xs[j]?=some x) :
 ∃ b o cj,A=some ⟨b,o,none⟩/\Rp.cells σ x cj/\σ.w.rangeAt b (o+j*Rp.sz α) cj:=by
 obtain ⟨cs,h1,h2⟩:=h;have hj:j<xs.length:=(La'.1 hx).1;obtain ⟨b,o,e,h3,_⟩:=h2 (by intro e; subst e; simp at hj)
 have hsplit:xs=xs.take j++(x::xs.drop (j+1)):=by have:=Mm' j xs;rw [LO' hj] at this;rw [<- (La'.1 hx).2];exact this.symm
 rw [hsplit] at h1;obtain ⟨c1,d,rfl,f1,f2⟩:=h1.split;obtain ⟨cx,r,rfl,hc,f3⟩:=f2;have hl:c1.length=j*Rp.sz α:=by rw [f1.len,LC']; congr 1; omega
 refine ⟨b,o,cx,e,hc,λi v hv=>?_⟩;have hil:=(La'.1 hv).1;have:=h3 (j*Rp.sz α+i) v (by rw [Ls' (by omega),hl,Mt',LD' hil]; exact hv)
 rw [<- MC'] at this;exact this
def TK (σ:S):(k:K)->lg I k->Value->List Pl->Prop
 | .d k,x,v,au=>DV σ k x v/\au=[]
 | .row E fl,xs,v,au=>∃ A k ow,v=.slice A (xs:List (I E)).length k/\au=[⟨A,k,(xs:List (I E)).length,ow⟩]/\fD ow fl E σ (xs:List (I E)) A k
 | .map _ kd,m,v,au=>∃ b,v=.map (some b)/\au=[⟨some ⟨b,0,none⟩,0,0,some b⟩]/\qA σ kd m b
 | .pv T,x,v,au=>∃ b cs,v=.pointer (some ⟨b,0,none⟩)/\au=[⟨some ⟨b,0,none⟩,0,0,some b⟩]/\Rp.cells σ (x:I T) cs/\σ.w.heap[b]?=some (.cells cs.toArray T (0,0))/\(σ.L b).1=0
def yG (σ:S):(ks:List K)->jR I ks->List Value->List Pl->Prop
 | [],_,vs,au=>vs=[]/\au=[]
 | [k],x,vs,au=>∃ v,vs=[v]/\TK σ k x v au
 | k::k'::ks,q,vs,au=>∃ v r p1 p2,vs=v::r/\au=p1++p2/\TK σ k q.1 v p1/\yG σ (k'::ks) q.2 r p2
def Ao:List K->Bool
 | []=>true
 | .d (.dat _)::_=>false
 | _::r=>Ao r
def TV (σ:S):(v:V)->mY I v->Value->List Pl->Prop
 | .k k,x,v,au=>TK σ k x v au
 | .bW ks,q,v,au=>Ao ks=true/\∃ cs,v=.agg cs.toArray/\yG σ ks q cs au
def TT (σ:S):(vs:List V)->fO I vs->List Value->List Pl->Prop
 | [],_,vs,au=>vs=[]/\au=[]
 | [k],x,vs,au=>∃ v,vs=[v]/\TV σ k x v au
 | k::k'::ks,q,vs,au=>∃ v r p1 p2,vs=v::r/\au=p1++p2/\TV σ k q.1 v p1/\TT σ (k'::ks) q.2 r p2
def ows (au:List Pl):List Nat:=au.filterMap (·.w)
theorem FM {au:List Pl}{g:Nat}:g∈ows au↔∃ p∈au,p.w=some g:=by simp [ows]
theorem jL (a b:List Pl):ows (a++b)=ows a++ows b:=by simp [ows]
variable {σ τ:S}{G:Nat->Prop}
theorem TK.step (st:Stp G σ τ):∀ {k:K} {x:lg I k} {v:Value} {au:List Pl},TK σ k x v au->(∀ g∈ows au,¬ G g)->TK τ k x v au
 | .d _,_,_,_,h,_=>⟨h.1.mono st.eP,h.2⟩
 | .row _ _,_,_,_,⟨A,k,ow,e,e2,h⟩,hn=>⟨A,k,ow,e,e2,h.step st λg hg=>hn g (by rw [e2,hg]; simp [ows])⟩
 | .map _ _,_,_,_,⟨b,e,e2,h⟩,hn=>⟨b,e,e2,h.step st (hn b (by rw [e2]; simp [ows]))⟩
 | .pv _,_,_,_,⟨b,cs,e,e2,h1,h2,h3⟩,hn=>by
   obtain ⟨k1,k2⟩:=st.block b (jJ h2) (hn b (by rw [e2]; simp [ows]))
   exact ⟨b,cs,e,e2,Rp.mono st.eP h1,k1.trans h2,k2.trans h3⟩
theorem yG.step (st:Stp G σ τ):∀ {ks:List K} {x:jR I ks} {vs:List Value} {au:List Pl},yG σ ks x vs au->(∀ g∈ows au,¬ G g)->yG τ ks x vs au
 | [],_,_,_,h,_=>h
 | [_],_,_,_,⟨v,e,h⟩,hn=>⟨v,e,h.step st hn⟩
 | _::k'::ks,_,_,_,⟨v,r,p1,p2,e1,e2,h1,h2⟩,hn=>⟨v,r,p1,p2,e1,e2,h1.step st λg hg=>hn g (by rw [e2,jL]; simp [hg]),yG.step (ks:=k'::ks) st h2 λg hg=>hn g (by rw [e2,jL]; simp [hg])⟩
theorem TV.step (st:Stp G σ τ):∀ {k:V} {x:mY I k} {v:Value} {au:List Pl},TV σ k x v au->(∀ g∈ows au,¬ G g)->TV τ k x v au
 | .k _,_,_,_,h,hn=>TK.step st h hn
 | .bW _,_,_,_,⟨h0,cs,e,h⟩,hn=>⟨h0,cs,e,h.step st hn⟩
theorem TT.step (st:Stp G σ τ):∀ {ks:List V} {x:fO I ks} {vs:List Value} {au:List Pl},TT σ ks x vs au->(∀ g∈ows au,¬ G g)->TT τ ks x vs au
 | [],_,_,_,h,_=>h
 | [_],_,_,_,⟨v,e,h⟩,hn=>⟨v,e,h.step st hn⟩
 | _::k'::ks,_,_,_,⟨v,r,p1,p2,e1,e2,h1,h2⟩,hn=>⟨v,r,p1,p2,e1,e2,h1.step st λg hg=>hn g (by rw [e2,jL]; simp [hg]),TT.step (ks:=k'::ks) st h2 λg hg=>hn g (by rw [e2,jL]; simp [hg])⟩
def jU:List Value->Value
 | [v]=>v
 | vs=>.tuple vs.toArray
def U6 (P:Program)(M:Nat->Prop)(σ:S)(f:FuncId)(KX' cs:List Value)(ks:List Kd)(rs:List V)(g:vG I ks (fO I rs)):Prop :=
 mV P f/\KX'=[]/\∀ τ,Stp M σ τ->∀ (q:jl I ks) (vs:List Value) (r:fO I rs),qI τ ks q vs->app ks g q=some r ->
  kX P f (KX'++vs++cs) τ (Stp rf τ) λv υ=>∃ ws,v=jU ws/\TT υ rs r ws []
def qD:PV I->Bool
 | .dat _ _=>true
 | _=>false
def vK (σ:S):PV I->List Value->Prop
 | .dat _ x,a=>Rp.cells σ x a
 | _,_=>False
theorem vK.mono {σ τ:S}(k:gT σ τ):∀ {p:PV I} {a:List Value},vK σ p a->vK τ p a:=by intro p a h;cases p<;>first | exact Rp.mono k h | exact h.elim
mutual
def RV (X:bZ)(c:Cx)(σ:S):PV I->Value->Prop
 | .int k n,v=>v=.int k n
 | .bool b,v=>v=.bool b
 | .str s,v=>v=.string s
 | .sl _ xs full,v=>∃ A k,v=.slice A xs.length k/\Sl σ xs A k/\(full=true->k=xs.length)
 | .nl _,v=>∃ A,v=.slice A 0 0
 | .ptr l o,v=>∃ b w,c l=some ⟨some ⟨b,0,none⟩,0,0,w⟩/\v=.pointer (some ⟨b,o,none⟩)
 | .vw l,v=>∃ p,c l=some p/\v=.slice p.A p.m p.k
 | .vp l sz j o,v=>∃ b p k m w,c l=some ⟨some ⟨b,p,none⟩,k,m,w⟩/\v=.pointer (some ⟨b,p+(j*sz+o),none⟩)
 | .vs l sz lo,v=>∃ b k m w,c l=some ⟨some ⟨b,0,none⟩,k,m,w⟩/\v=.slice (some ⟨b,lo*sz,none⟩) (m-lo) (k-lo)
 | .av l o m,v=>∃ b k m' w,c l=some ⟨some ⟨b,0,none⟩,k,m',w⟩/\v=.slice (some ⟨b,o,none⟩) m m
 | .mp l,v=>∃ b w,c l=some ⟨some ⟨b,0,none⟩,0,0,w⟩/\v=.map (some b)
 | .ep _ x o,v=>∃ b p cs,v=.pointer (some ⟨b,p+o,none⟩)/\Rp.cells σ x cs/\oz σ b p cs
 | .dat _ x,v=>∃ cs,v=.agg cs.toArray/\Rp.cells σ x cs
 | .qM f ls,v=>∃ cs,v=.func (.func f) (MF' []) cs.toArray/\aB X c σ ls cs
 | .xD f ls,v=>∃ cs,v=.func (.func f) cs.toArray (MF' [])/\aB X c σ ls cs
 | .fn ks rs g,v=>∃ f KX' cs,v=.func (.func f) (MF' KX') (MF' cs)/\U6 X.P X.M σ f KX' cs ks rs g
 | .agg ls,v=>∃ cs,v=.agg cs.toArray/\RG X c σ ls cs
 | .nV ls,v=>∃ cs,v=.tuple cs.toArray/\aB X c σ ls cs
 | .undef,v=>v=Go.undef
 | .any,_=>True
def aB (X:bZ)(c:Cx)(σ:S):List (PV I)->List Value->Prop
 | [],cs=>cs=[]
 | p::ps,cs=>∃ v r,cs=v::r/\RV X c σ p v/\aB X c σ ps r
def RG (X:bZ)(c:Cx)(σ:S):List (PV I)->List Value->Prop
 | [],cs=>cs=[]
 | p::ps,cs=>∃ a r,cs=a++r/\(vK σ p a\/(qD p=false/\∃ v,a=[v]/\RV X c σ p v))/\RG X c σ ps r
end
variable {X X':bZ}{c c':Cx}
mutual
theorem RV.step (k:Stp X.M σ τ):∀ (p:PV I) (v:Value),RV X c σ p v->RV X c τ p v
 | .int _ _,_,h=>by simp only [RV] at h ⊢; exact h
 | .bool _,_,h=>by simp only [RV] at h ⊢; exact h
 | .str _,_,h=>by simp only [RV] at h ⊢; exact h
 | .sl _ _ _,_,h=>by simp only [RV] at h ⊢;obtain ⟨A,q,e,hs,ho⟩:=h;exact ⟨A,q,e,hs.mono k.eP,ho⟩
 | .nl _,_,h=>by simp only [RV] at h ⊢; exact h
 | .ptr _ _,_,h=>by simp only [RV] at h ⊢; exact h
 | .vw _,_,h=>by simp only [RV] at h ⊢; exact h
 | .vp _ _ _ _,_,h=>by simp only [RV] at h ⊢; exact h
 | .vs _ _ _,_,h=>by simp only [RV] at h ⊢; exact h
 | .av _ _ _,_,h=>by simp only [RV] at h ⊢; exact h
 | .mp _,_,h=>by simp only [RV] at h ⊢; exact h
 | .ep E x _,_,h=>by simp only [RV] at h ⊢;obtain ⟨b,p,cs,e,hl,hs⟩:=h;refine ⟨b,p,cs,e,Rp.mono k.eP hl,hs.mono (λe=>?_) k.eP⟩;have h1:=Rp.len hl;have h2:=Rp.pos (α:=I E);rw [e] at h1;simp at h1;omega
 | .dat _ x,_,h=>by simp only [RV] at h ⊢;obtain ⟨cs,e,hl⟩:=h;exact ⟨cs,e,Rp.mono k.eP hl⟩
 | .qM _ ls,_,h=>by simp only [RV] at h ⊢;obtain ⟨cs,e,hl⟩:=h;exact ⟨cs,e,aB.step k ls cs hl⟩
 | .xD _ ls,_,h=>by simp only [RV] at h ⊢;obtain ⟨cs,e,hl⟩:=h;exact ⟨cs,e,aB.step k ls cs hl⟩
 | .fn _ _ _,_,h=>by simp only [RV] at h ⊢;obtain ⟨f,KX',cs,e,hf⟩:=h;exact ⟨f,KX',cs,e,hf.1,hf.2.1,λυ hυ=>hf.2.2 υ (k.trans hυ)⟩
 | .agg ls,_,h=>by simp only [RV] at h ⊢;obtain ⟨cs,e,hl⟩:=h;exact ⟨cs,e,RG.step k ls cs hl⟩
 | .nV ls,_,h=>by simp only [RV] at h ⊢;obtain ⟨cs,e,hl⟩:=h;exact ⟨cs,e,aB.step k ls cs hl⟩
 | .undef,_,h=>by simp only [RV] at h ⊢; exact h
 | .any,_,_=>by simp only [RV]
theorem aB.step (k:Stp X.M σ τ):∀ (ps:List (PV I)) (cs:List Value),aB X c σ ps cs->aB X c τ ps cs
 | [],_,h=>by simp only [aB] at h ⊢; exact h
 | p::ps,_,h=>by simp only [aB] at h ⊢;obtain ⟨v,r,e,h1,h2⟩:=h;exact ⟨v,r,e,RV.step k p v h1,aB.step k ps r h2⟩
theorem RG.step (k:Stp X.M σ τ):∀ (ps:List (PV I)) (cs:List Value),RG X c σ ps cs->RG X c τ ps cs
 | [],_,h=>by simp only [RG] at h ⊢; exact h
 | p::ps,_,h=>by
   simp only [RG] at h ⊢;obtain ⟨a,r,e,h1,h2⟩:=h;refine ⟨a,r,e,?_,RG.step k ps r h2⟩;rcases h1 with h1 | ⟨h0,v,e1,h1⟩
   ·exact .inl (h1.mono k.eP)
   ·exact .inr ⟨h0,v,e1,RV.step k p v h1⟩
end
def Cx.le (c c':Cx):Prop:=∀ l p,c l=some p->c' l=some p
theorem Cx.le_refl (c:Cx):Cx.le c c:=λ_ _ h=>h
theorem Cx.le_trans {a b d:Cx}(h:Cx.le a b)(k:Cx.le b d):Cx.le a d:=λl x hx=>k l x (h l x hx)
mutual
theorem RV.grow (hc:Cx.le c c'):∀ (p:PV I) (v:Value),RV X c σ p v->RV X c' σ p v
 | .int _ _,_,h=>by simp only [RV] at h ⊢; exact h
 | .bool _,_,h=>by simp only [RV] at h ⊢; exact h
 | .str _,_,h=>by simp only [RV] at h ⊢; exact h
 | .sl _ _ _,_,h=>by simp only [RV] at h ⊢; exact h
 | .nl _,_,h=>by simp only [RV] at h ⊢; exact h
 | .ptr l _,_,h=>by simp only [RV] at h ⊢;obtain ⟨b,w,h1,h2⟩:=h;exact ⟨b,w,hc l _ h1,h2⟩
 | .vw l,_,h=>by simp only [RV] at h ⊢;obtain ⟨b,h1,h2⟩:=h;exact ⟨b,hc l b h1,h2⟩
 | .vp l _ _ _,_,h=>by simp only [RV] at h ⊢;obtain ⟨b,p,k,m,w,h1,h2⟩:=h;exact ⟨b,p,k,m,w,hc l _ h1,h2⟩
 | .vs l _ _,_,h=>by simp only [RV] at h ⊢;obtain ⟨b,k,m,w,h1,h2⟩:=h;exact ⟨b,k,m,w,hc l _ h1,h2⟩
 | .av l _ _,_,h=>by simp only [RV] at h ⊢;obtain ⟨b,k,m,w,h1,h2⟩:=h;exact ⟨b,k,m,w,hc l _ h1,h2⟩
 | .mp l,_,h=>by simp only [RV] at h ⊢;obtain ⟨b,w,h1,h2⟩:=h;exact ⟨b,w,hc l _ h1,h2⟩
 | .ep _ _ _,_,h=>by simp only [RV] at h ⊢; exact h
 | .dat _ _,_,h=>by simp only [RV] at h ⊢; exact h
 | .qM _ ls,_,h=>by simp only [RV] at h ⊢;obtain ⟨cs,e,hl⟩:=h;exact ⟨cs,e,aB.grow hc ls cs hl⟩
 | .xD _ ls,_,h=>by simp only [RV] at h ⊢;obtain ⟨cs,e,hl⟩:=h;exact ⟨cs,e,aB.grow hc ls cs hl⟩
 | .fn _ _ _,_,h=>by simp only [RV] at h ⊢; exact h
 | .agg ls,_,h=>by simp only [RV] at h ⊢;obtain ⟨cs,e,hl⟩:=h;exact ⟨cs,e,RG.grow hc ls cs hl⟩
 | .nV ls,_,h=>by simp only [RV] at h ⊢;obtain ⟨cs,e,hl⟩:=h;exact ⟨cs,e,aB.grow hc ls cs hl⟩
 | .undef,_,h=>by simp only [RV] at h ⊢; exact h
 | .any,_,_=>by simp only [RV]
theorem aB.grow (hc:Cx.le c c'):∀ (ps:List (PV I)) (cs:List Value),aB X c σ ps cs->aB X c' σ ps cs
 | [],_,h=>by simp only [aB] at h ⊢; exact h
 | p::ps,_,h=>by simp only [aB] at h ⊢;obtain ⟨v,r,e,h1,h2⟩:=h;exact ⟨v,r,e,RV.grow hc p v h1,aB.grow hc ps r h2⟩
theorem RG.grow (hc:Cx.le c c'):∀ (ps:List (PV I)) (cs:List Value),RG X c σ ps cs->RG X c' σ ps cs
 | [],_,h=>by simp only [RG] at h ⊢; exact h
 | p::ps,_,h=>by
   simp only [RG] at h ⊢;obtain ⟨a,r,e,h1,h2⟩:=h;refine ⟨a,r,e,?_,RG.grow hc ps r h2⟩;rcases h1 with h1 | ⟨h0,v,e1,h1⟩
   ·exact .inl h1
   ·exact .inr ⟨h0,v,e1,RV.grow hc p v h1⟩
end
theorem aB.len:∀ (ps:List (PV I)) (cs:List Value),aB X c σ ps cs->cs.length=ps.length
 | [],_,h=>by simp only [aB] at h; subst h; rfl
 | p::ps,_,h=>by simp only [aB] at h;obtain ⟨v,r,rfl,_,h2⟩:=h;simp [aB.len ps r h2]
theorem aB.at_:∀ (ps:List (PV I)) (cs:List Value),aB X c σ ps cs->∀ (i:Nat) (p:PV I),ps[i]?=some p->∃ v,cs[i]?=some v/\RV X c σ p v
 | [],_,_,_,_,hp=>by simp at hp
 | q::ps,_,h,i,p,hp=>by
   simp only [aB] at h;obtain ⟨v,r,rfl,h1,h2⟩:=h;cases i with
   | zero=>simp at hp; subst hp; exact ⟨v,rfl,h1⟩
   | succ i=>simpa using aB.at_ ps r h2 i p (by simpa using hp)
theorem aB.drop:∀ (k:Nat) (ps:List (PV I)) (cs:List Value),aB X c σ ps cs->aB X c σ (ps.drop k) (cs.drop k)
 | 0,_,_,h=>h
 | k+1,[],_,h=>by simp only [aB] at h; subst h; simp [aB]
 | k+1,_::ps,_,h=>by simp only [aB] at h;obtain ⟨v,r,rfl,_,h2⟩:=h;simpa using aB.drop k ps r h2
theorem aB.take:∀ (k:Nat) (ps:List (PV I)) (cs:List Value),aB X c σ ps cs->aB X c σ (ps.take k) (cs.take k)
 | 0,_,_,_=>by simp [aB]
 | k+1,[],_,h=>by simp only [aB] at h; subst h; simp [aB]
 | k+1,p::ps,_,h=>by simp only [aB] at h;obtain ⟨v,r,rfl,h1,h2⟩:=h;simp only [List.take_succ_cons,aB];exact ⟨v,_,rfl,h1,aB.take k ps r h2⟩
theorem aB.app:∀ (ps qs:List (PV I)) (cs ds:List Value),aB X c σ ps cs->aB X c σ qs ds->aB X c σ (ps++qs) (cs++ds)
 | [],_,_,_,h,k=>by simp only [aB] at h; subst h; exact k
 | p::ps,qs,_,ds,h,k=>by simp only [aB] at h;obtain ⟨v,r,rfl,h1,h2⟩:=h;simp only [Mg',aB];exact ⟨v,_,rfl,h1,aB.app ps qs r ds h2 k⟩
theorem aB.split:∀ (ps qs:List (PV I)) (cs:List Value),aB X c σ (ps++qs) cs->∃ c1 c2,cs=c1++c2/\aB X c σ ps c1/\aB X c σ qs c2
 | [],qs,cs,h=>⟨[],cs,rfl,by simp only [aB],h⟩
 | p::ps,qs,cs,h=>by simp only [Mg',aB] at h;obtain ⟨v,r,rfl,h1,h2⟩:=h;obtain ⟨c1,c2,rfl,h3,h4⟩:=aB.split ps qs r h2;exact ⟨v::c1,c2,rfl,by simp only [aB]; exact ⟨v,c1,rfl,h1,h3⟩,h4⟩
theorem RG.app:∀ (ps qs:List (PV I)) (cs ds:List Value),RG X c σ ps cs->RG X c σ qs ds->RG X c σ (ps++qs) (cs++ds)
 | [],_,_,_,h,k=>by simp only [RG] at h; subst h; exact k
 | p::ps,qs,_,ds,h,k=>by simp only [RG] at h;obtain ⟨a,r,rfl,h1,h2⟩:=h;simp only [Mg',RG];exact ⟨a,_,by simp,h1,RG.app ps qs r ds h2 k⟩
def Jk:PV I->Nat
 | .dat E _=>Rp.sz (I E)
 | _=>1
def E5:List (PV I)->Nat
 | []=>0
 | p::r=>Jk p+E5 r
theorem cS' {p:PV I}{a:List Value}(h:vK σ p a\/(qD p=false/\∃ v,a=[v]/\RV X c σ p v)):a.length=Jk p:=by
 rcases h with h | ⟨h0,v,rfl,_⟩
 ·cases p<;>first | exact Rp.len h | exact h.elim
 ·cases p<;>first | rfl | cases h0
theorem RG.len:∀ (ps:List (PV I)) (cs:List Value),RG X c σ ps cs->cs.length=E5 ps
 | [],_,h=>by simp only [RG] at h; subst h; rfl
 | p::ps,_,h=>by simp only [RG] at h;obtain ⟨a,r,rfl,h1,h2⟩:=h;simp only [Lf',cS' h1,RG.len ps r h2,E5]
theorem RG.one {E:TypeId}{x:I E}{cs:List Value}(h:Rp.cells σ x cs):RG X c σ [.dat E x] cs:=by simp only [RG];exact ⟨cs,[],by simp,.inl h,rfl⟩
theorem RG.single {p:PV I}{v:Value}(hp:qD p=false)(h:RV X c σ p v):RG X c σ [p] [v]:=by simp only [RG];exact ⟨[v],[],rfl,.inr ⟨hp,v,rfl,h⟩,rfl⟩
theorem aB.g:∀ {ps:List (PV I)} {cs:List Value},aB X c σ ps cs->ps.all (λp=>!(qD p))=true->RG X c σ ps cs
 | [],_,h,_=>by simpa only [aB,RG] using h
 | p::ps,_,h,hd=>by simp only [aB] at h;obtain ⟨v,r,rfl,h1,h2⟩:=h;simp only [LE',Lc',MN'] at hd;simp only [RG];exact ⟨[v],r,rfl,.inr ⟨hd.1,v,rfl,h1⟩,aB.g h2 hd.2⟩
def gI (X:bZ)(c:Cx)(σ:S)(l:Nat):Ob I->Prop
 | .var T ls w=>∃ b cs,c l=some ⟨some ⟨b,0,none⟩,0,0,bif w then some b else none⟩/\RG X c σ ls cs/\σ.w.heap[b]?=some (.cells cs.toArray T (0,0))/\(w=true->(σ.L b).1=0)/\(w=false->¬ X.M b)
 | .row E xs fl=>∃ A k ow,c l=some ⟨A,k,xs.length,ow⟩/\fD ow fl E σ xs A k
 | .ro _ xs=>∃ A k,c l=some ⟨A,k,xs.length,none⟩/\Sl σ xs A k
 | .bo _ xs=>∃ A k,c l=some ⟨A,k,xs.length,none⟩/\jP X.M σ xs A
 | .aP E _ _ xs _=>∃ A k ow,c l=some ⟨A,k,xs.length,ow⟩/\fD ow false E σ xs A k
 | .map _ kd m=>∃ b,c l=some ⟨some ⟨b,0,none⟩,0,0,some b⟩/\qA σ kd m b
 | .gU _ kd m=>∃ b,c l=some ⟨some ⟨b,0,none⟩,0,0,none⟩/\qA σ kd m b/\¬ X.M b
theorem gI.step {l:Nat}{o:Ob I}(h:gI X c σ l o)(st:Stp X.M σ τ)(hk:∀ p g,c l=some p->p.w=some g->τ.w.heap[g]?=σ.w.heap[g]?/\(τ.L g).1=(σ.L g).1):gI X c τ l o:=by
 cases o with
 | var T ls w =>
   obtain ⟨b,cs,h1,h2,h3,h4,h5⟩:=h;cases w with
   | true =>obtain ⟨k1,k2⟩:=hk _ b h1 rfl;exact ⟨b,cs,h1,RG.step st _ _ h2,k1.trans h3,(λ_=>k2.trans (h4 rfl)),λe=>by cases e⟩
   | false =>obtain ⟨k1,_⟩:=st.block b (jJ h3) (h5 rfl);exact ⟨b,cs,h1,RG.step st _ _ h2,k1.trans h3,(λe=>by cases e),h5⟩
 | row E xs fl =>
   obtain ⟨A,k,ow,h1,h2⟩:=h;refine ⟨A,k,ow,h1,?_⟩;cases ow with
   | none=>exact h2.step st λg hg=>by cases hg
   | some g =>obtain ⟨k1,k2⟩:=hk _ g h1 rfl;obtain ⟨aM,cs,e,hh,h1,h2,h3,h4,h5,h6⟩:=h2;exact ⟨aM,cs,e,k1.trans hh,h1,h2,h3,h4.mono st.eP,h5,k2.trans h6⟩
 | aP E E' u xs q =>
   obtain ⟨A,k,ow,h1,h2⟩:=h;refine ⟨A,k,ow,h1,?_⟩;cases ow with
   | none=>exact h2.step st λg hg=>by cases hg
   | some g =>obtain ⟨k1,k2⟩:=hk _ g h1 rfl;obtain ⟨aM,cs,e,hh,h1,h2,h3,h4,h5,h6⟩:=h2;exact ⟨aM,cs,e,k1.trans hh,h1,h2,h3,h4.mono st.eP,h5,k2.trans h6⟩
 | map T kd m =>obtain ⟨b,h1,es,clock,h2,h3⟩:=h;exact ⟨b,h1,es,clock,(hk _ b h1 rfl).1.trans h2,h3.mono st.eP⟩
 | gU T kd m =>obtain ⟨b,h1,h2,h3⟩:=h;exact ⟨b,h1,h2.step st h3,h3⟩
 | ro E xs =>obtain ⟨A,k,h1,h2⟩:=h;exact ⟨A,k,h1,h2.mono st.eP⟩
 | bo E xs =>obtain ⟨A,k,h1,h2⟩:=h;exact ⟨A,k,h1,h2.step st⟩
theorem gI.grow {l:Nat}{o:Ob I}(h:gI X c σ l o)(hc:Cx.le c c'):gI X c' σ l o:=by
 cases o with
 | var T ls w =>obtain ⟨b,cs,h1,h2,h3⟩:=h;exact ⟨b,cs,hc _ _ h1,RG.grow hc _ _ h2,h3⟩
 | row E xs fl =>obtain ⟨A,k,ow,h1,h2⟩:=h;exact ⟨A,k,ow,hc _ _ h1,h2⟩
 | aP E E' u xs q =>obtain ⟨A,k,ow,h1,h2⟩:=h;exact ⟨A,k,ow,hc _ _ h1,h2⟩
 | map T kd m =>obtain ⟨b,h1,h2⟩:=h;exact ⟨b,hc _ _ h1,h2⟩
 | gU T kd m =>obtain ⟨b,h1,h2⟩:=h;exact ⟨b,hc _ _ h1,h2⟩
 | ro E xs =>obtain ⟨A,k,h1,h2⟩:=h;exact ⟨A,k,hc _ _ h1,h2⟩
 | bo E xs =>obtain ⟨A,k,h1,h2⟩:=h;exact ⟨A,k,hc _ _ h1,h2⟩
def bH (s:St I)(l:Nat):Prop:=∃ o,s.O l=some (some o)
def pR:Value->Option Nat
 | .slice (some a) m k=>bif LF' m k then some a.block else none
 | _=>none
def iI (c:Cx)(σ:S)(O:Nat->Option (Option (Ob I)))(l i:Nat)(E':TypeId)(v:Value):Prop :=
 ∃ E u xs q g k m w,O l=some (some (.aP E E' u xs q))/\c l=some ⟨some ⟨g,0,none⟩,k,m,w⟩/\i<xs.length/\q≠i+2/\σ.w.cell? ⟨g,i*Rp.sz (I E)+u,none⟩=some v
def fw (c:Cx)(σ:S)(O:Nat->Option (Option (Ob I)))(l i b:Nat):Prop:=∃ E' v,iI c σ O l i E' v/\pR v=some b
def Ak (I:TypeId->Type) [∀ E,Rp (I E)] (E':TypeId)(σ:S)(v:Value):Prop:=∃ (ys:List (I E')) (A:Option Addr) (k:Nat),v=.slice A ys.length k/\fD (pR v) true E' σ ys A k
structure iE (X:bZ)(c:Cx)(σ:S)(O:Nat->Option (Option (Ob I))):Prop where
 opn:∀ l E E' u xs q,O l=some (some (.aP E E' u xs q))->∀ i,i<xs.length->q≠i+2->∃ v,iI c σ O l i E' v/\Ak I E' σ v
 mine:∀ l i b,fw c σ O l i b->X.M b
 free:∀ l i b,fw c σ O l i b->∀ l' o p',O l'=some (some o)->c l'=some p'->p'.w≠some b
 inj:∀ l i b l' i',fw c σ O l i b->fw c σ O l' i' b->l'=l/\i'=i
theorem iI.fn {O:Nat->Option (Option (Ob I))}{l i:Nat}{E1 E2:TypeId}{v1 v2:Value}(h:iI c σ O l i E1 v1)(k:iI c σ O l i E2 v2):E2=E1/\v2=v1:=by obtain ⟨E,u,xs,q,g,kk,m,w,h1,h2,h3,h4,h5⟩:=h;obtain ⟨E',u',xs',q',g',kk',m',w',k1,k2,k3,k4,k5⟩:=k;rw [h1] at k1;cases k1;rw [h2] at k2;cases k2;rw [h5] at k5;cases k5;exact ⟨rfl,rfl⟩
theorem iE.kI' {O:Nat->Option (Option (Ob I))}(h:iE X c σ O){l i:Nat}{E':TypeId}{v:Value}(k:iI c σ O l i E' v):Ak I E' σ v:=by obtain ⟨E,u,xs,q,g,kk,m,w,h1,h2,h3,h4,h5⟩:=id k;obtain ⟨v',k1,k2⟩:=h.opn l E E' u xs q h1 i h3 h4;rw [<- (k.fn k1).2]; exact k2
theorem iE.lt {O:Nat->Option (Option (Ob I))}(h:iE X c σ O){l i b:Nat}(k:fw c σ O l i b):b<σ.N:=by obtain ⟨E',v,k1,k2⟩:=k;obtain ⟨ys,A,kk,e,ho⟩:=h.kI' k1;rw [k2] at ho;obtain ⟨aM,cs,_,hh,_⟩:=ho;exact jJ hh
theorem iE.sub {O O':Nat->Option (Option (Ob I))}(h:iE X c σ O)(hO:∀ l E E' u xs q,O' l=some (some (.aP E E' u xs q))->O l=some (some (.aP E E' u xs q)))
 (hw:∀ l' o p' b,O' l'=some (some o)->c l'=some p'->p'.w=some b->(∃ o,O l'=some (some o))\/∀ l i,¬ fw c σ O l i b):iE X c σ O':=by
 have hI:∀ {l i E' v},iI c σ O' l i E' v->iI c σ O l i E' v:=λ⟨E,u,xs,q,g,kk,m,w,h1,h2⟩=>⟨E,u,xs,q,g,kk,m,w,hO _ _ _ _ _ _ h1,h2⟩;have hB:∀ {l i b},fw c σ O' l i b->fw c σ O l i b:=λ⟨E',v,h1,h2⟩=>⟨E',v,hI h1,h2⟩;refine ⟨λl E E' u xs q hl i hi hq=>?_,λl i b hb=>h.mine l i b (hB hb),λl i b hb l' o p' hl' hc hp=>?_,λl i b l' i' h1 h2=>h.inj l i b l' i' (hB h1) (hB h2)⟩
 ·obtain ⟨v,k1,k2⟩:=h.opn l E E' u xs q (hO _ _ _ _ _ _ hl) i hi hq;refine ⟨v,?_,k2⟩;obtain ⟨E1,u1,uo,q1,g,kk,m,w,h1,h2⟩:=k1;rw [hO _ _ _ _ _ _ hl] at h1;cases h1;exact ⟨E,u,xs,q,g,kk,m,w,hl,h2⟩
 ·rcases hw l' o p' b hl' hc hp with ⟨o',ho'⟩ | hn
  ·exact h.free l i b (hB hb) l' o' p' ho' hc hp
  ·exact hn l i (hB hb)
theorem iE.both {O:Nat->Option (Option (Ob I))}(h:iE X c σ O)(st:Stp G σ τ)
 (hg:∀ l E E' u xs q g k m w,O l=some (some (.aP E E' u xs q))->c l=some ⟨some ⟨g,0,none⟩,k,m,w⟩->xs≠[]->¬ G g) (hb:∀ l i b,fw c σ O l i b->¬ G b):iE X c τ O/\∀ l i b,fw c τ O l i b->fw c σ O l i b:=by
 have hf:∀ {l i E' v},iI c σ O l i E' v->iI c τ O l i E' v:=λ⟨E,u,xs,q,g,kk,m,w,h1,h2,h3,h4,h5⟩=>⟨E,u,xs,q,g,kk,m,w,h1,h2,h3,h4,by
  have:=(st.block g (um h5) (hg _ _ _ _ _ _ _ _ _ _ h1 h2 (by intro e; subst e; simp at h3))).1
  unfold World.cell? at h5 ⊢;rw [this]; exact h5⟩
 have hr:∀ {l i E' v},iI c τ O l i E' v->iI c σ O l i E' v:=λ{l i E' v} k=>by obtain ⟨E,u,xs,q,g,kk,m,w,h1,h2,h3,h4,h5⟩:=id k;obtain ⟨v',k1,k2⟩:=h.opn l E E' u xs q h1 i h3 h4;rw [((hf k1).fn k).2]; exact k1
 have hB:∀ {l i b},fw c τ O l i b->fw c σ O l i b:=λ⟨E',v,h1,h2⟩=>⟨E',v,hr h1,h2⟩;refine ⟨⟨λl E E' u xs q hl i hi hq=>?_,λl i b hb=>h.mine l i b (hB hb),λl i b hb=>h.free l i b (hB hb),λl i b l' i' h1 h2=>h.inj l i b l' i' (hB h1) (hB h2)⟩,λl i b=>hB⟩;obtain ⟨v,k1,k2⟩:=h.opn l E E' u xs q hl i hi hq;refine ⟨v,hf k1,?_⟩;obtain ⟨ys,A,kk,e,ho⟩:=k2;exact ⟨ys,A,kk,e,ho.step st λg hg'=>hb l i g ⟨E',v,k1,hg'⟩⟩
theorem iE.step {O:Nat->Option (Option (Ob I))}(h:iE X c σ O)(st:Stp G σ τ)
 (hg:∀ l E E' u xs q g k m w,O l=some (some (.aP E E' u xs q))->c l=some ⟨some ⟨g,0,none⟩,k,m,w⟩->xs≠[]->¬ G g) (hb:∀ l i b,fw c σ O l i b->¬ G b):iE X c τ O:=(h.both st hg hb).1
theorem iE.grow {O:Nat->Option (Option (Ob I))}(h:iE X c σ O)(hc:Cx.le c c')(hp:∀ l o,O l=some (some o)->∃ p,c l=some p):iE X c' σ O:=by
 have hcl:∀ {l o p},O l=some (some o)->c' l=some p->c l=some p:=λho hc'=>by obtain ⟨p',e⟩:=hp _ _ ho;have:=hc _ _ e;rw [hc'] at this;cases this; exact e
 have hr:∀ {l i E' v},iI c' σ O l i E' v->iI c σ O l i E' v:=λ⟨E,u,xs,q,g,kk,m,w,h1,h2,h3⟩=>⟨E,u,xs,q,g,kk,m,w,h1,hcl h1 h2,h3⟩;have hB:∀ {l i b},fw c' σ O l i b->fw c σ O l i b:=λ⟨E',v,h1,h2⟩=>⟨E',v,hr h1,h2⟩;refine ⟨λl E E' u xs q hl i hi hq=>?_,λl i b hb=>h.mine l i b (hB hb),λl i b hb l' o p' ho hc'=>h.free l i b (hB hb) l' o p' ho (hcl ho hc'),λl i b l' i' h1 h2=>h.inj l i b l' i' (hB h1) (hB h2)⟩;obtain ⟨v,⟨E1,u1,uo,q1,g,kk,m,w,h1,h2,h3⟩,k2⟩:=h.opn l E E' u xs q hl i hi hq;exact ⟨v,⟨E1,u1,uo,q1,g,kk,m,w,h1,hc _ _ h2,h3⟩,k2⟩
theorem fD.other {α:Type} [Rp α] {ow:Option Nat}{E:TypeId}{σ:S}{ys zs:List α}{A:Option Addr}{k:Nat}(h:fD ow true E σ ys A k)(hs:Sl σ zs A k)(hl:zs.length=ys.length):fD ow true E σ zs A k:=by
 cases ow with
 | none =>
   rcases h with ⟨e1,e2⟩ | ⟨_,e2,_⟩
   ·subst e1;exact .inl ⟨LB' hl,e2⟩
   ·exact .inr ⟨rfl,by rw [hl]; exact e2,hs⟩
 | some g =>
   obtain ⟨aM,cs,e,hh,h1,h2,h3,h4,h5,h6⟩:=h;obtain ⟨_,_,ds,k1,k2⟩:=hs;refine ⟨aM,ds,e,hh,by rw [hl]; exact h1,h2,h3,k1,?_,by rw [hl]; exact h6⟩
   have hdl:ds.length=zs.length*Rp.sz α:=k1.len;by_cases hn:zs=[]
   ·subst hn;have:ds=[]:=k1;subst this;simp
   ·obtain ⟨b,o,e2,k3⟩:=k2 hn;rw [e] at e2;cases e2;have hcl:zs.length*Rp.sz α<=aM.toList.length:=by
     have e9:aM.toList.length=k*Rp.sz α:=by rw [LV']; exact h3
     rw [e9,hl];exact LA' _ h1
    apply Np';intro i;by_cases hi:i<ds.length
    ·have hv:=k3.2 i ds[i] (Lb' hi);rw [Lw' (by omega),Lb' hi,Lz']
     simpa [World.cell?,hh] using hv
    ·rw [LR' (by rw [LC']; omega),LR' (by omega)]
theorem fD.Ei' {α:Type} [Rp α] {ow:Option Nat}{E:TypeId}{σ:S}{ys:List α}{A:Option Addr}{k:Nat}(h:fD ow true E σ ys A k):fD (pR (.slice A ys.length k)) true E σ ys A k/\∀ b,pR (.slice A ys.length k)=some b->ow=some b:=by
 cases ow with
 | none =>
   have hk:k=ys.length:=by
    rcases h with ⟨e1,e2⟩ | ⟨_,e2,_⟩
    ·rw [e1,e2]; rfl
    ·exact e2
   have hr:pR (.slice A ys.length k)=none:=by
    unfold pR;split
    ·rename_i e;cases e;rw [hk];have:LF' ys.length ys.length=false:=by
      cases hb:LF' ys.length ys.length with
      | false=>rfl
      | true=>have:=kN hb; omega
     rw [this]; rfl
    ·rfl
   rw [hr];exact ⟨h,λb e=>by cases e⟩
 | some g =>
   obtain ⟨aM,cs,e,hh⟩:=id h;subst e;have hr:pR (.slice (some ⟨g,0,none⟩) ys.length k)=bif LF' ys.length k then some g else none:=rfl
   rw [hr];cases hb:LF' ys.length k with
   | true=>exact ⟨h,λb e=>by simpa using e⟩
   | false =>
     refine ⟨.inr ⟨rfl,?_,h.sl⟩,λb e=>by cases e⟩
     have hle:=h.le.1;have:¬ ys.length<k:=λhlt=>by have:LF' ys.length k=true:=MV' hlt;rw [hb] at this; cases this
     omega
theorem iE.take {O:Nat->Option (Option (Ob I))}(h:iE X c σ O){l:Nat}{E E':TypeId}{u q j:Nat}{xs:List (I E)}(hl:O l=some (some (.aP E E' u xs q)))(hq:q<2) :
 iE X c σ (cB O l (some (.aP E E' u xs (j+2))))/\∀ l' i b,fw c σ (cB O l (some (.aP E E' u xs (j+2)))) l' i b->fw c σ O l' i b/\¬ (l'=l/\i=j):=by
 have hI:∀ {l' i E1 v},iI c σ (cB O l (some (.aP E E' u xs (j+2)))) l' i E1 v->iI c σ O l' i E1 v/\¬ (l'=l/\i=j):=λ{l' i E1 v} ⟨E2,u2,xE,q2,g,kk,m,w,h1,h2,h3,h4,h5⟩=>by
  rcases dM h1 with ⟨e,e2⟩ | ⟨e,e2⟩
  ·cases e2;subst e;exact ⟨⟨_,_,_,q,g,kk,m,w,hl,h2,h3,by omega,h5⟩,λhh=>h4 (by rw [hh.2])⟩
  ·exact ⟨⟨E2,u2,xE,q2,g,kk,m,w,e2,h2,h3,h4,h5⟩,λhh=>e hh.1⟩
 have hB:∀ {l' i b},fw c σ (cB O l (some (.aP E E' u xs (j+2)))) l' i b->fw c σ O l' i b/\¬ (l'=l/\i=j):=λ⟨E1,v,h1,h2⟩=>⟨⟨E1,v,(hI h1).1,h2⟩,(hI h1).2⟩;refine ⟨⟨λl' E1 E2 u1 uo q1 e i hi hq1=>?_,λl' i b hb=>h.mine l' i b (hB hb).1,λl' i b hb l2 o p' ho' hc'=>?_,λl' i b l2 i2 h1 h2=>h.inj l' i b l2 i2 (hB h1).1 (hB h2).1⟩,λl' i b hb=>hB hb⟩
 ·rcases dM e with ⟨e1,e2⟩ | ⟨e1,e2⟩
  ·cases e2;subst e1;obtain ⟨v,⟨E3,u3,xG,q3,g,kk,m,w,h1,h2,h3,h4,h5⟩,k2⟩:=h.opn l' _ _ _ _ q hl i hi (by omega)
   rw [hl] at h1;cases h1;exact ⟨v,⟨_,_,_,_,g,kk,m,w,iq _ _ _,h2,hi,hq1,h5⟩,k2⟩
  ·obtain ⟨v,⟨E3,u3,xG,q3,g,kk,m,w,h1,h2,h3,h4,h5⟩,k2⟩:=h.opn l' _ _ _ _ _ e2 i hi hq1;exact ⟨v,⟨E3,u3,xG,q3,g,kk,m,w,by rw [fq e1]; exact h1,h2,h3,h4,h5⟩,k2⟩
 ·rcases dM ho' with ⟨e1,_⟩ | ⟨_,e2⟩
  ·subst e1;exact h.free l' i b (hB hb).1 _ _ p' hl hc'
  ·exact h.free l' i b (hB hb).1 l2 o p' e2 hc'
theorem iE.turn {O:Nat->Option (Option (Ob I))}(h:iE X c σ O){l g k m j:Nat}{E E':TypeId}{u q q':Nat}{xs ys:List (I E)}(hl:O l=some (some (.aP E E' u xs q)))(hc:c l=some ⟨some ⟨g,0,none⟩,k,m,some g⟩)
 (st:Stp (λb=>b=g) σ τ) (hinj:∀ l' o p',O l'=some (some o)->c l'=some p'->p'.w=some g->l'=l) (hW:∀ l' E E' u xs q g' k m w,O l'=some (some (.aP E E' u xs q))->c l'=some ⟨some ⟨g',0,none⟩,k,m,w⟩->xs≠[]->w=some g')
 (hlen:ys.length=xs.length) (hsame:∀ i,i<xs.length->i≠j->q'≠i+2->q≠i+2/\τ.w.cell? ⟨g,i*Rp.sz (I E)+u,none⟩=σ.w.cell? ⟨g,i*Rp.sz (I E)+u,none⟩)
 (hnew:j<xs.length->q'≠j+2->(q≠j+2/\τ.w.cell? ⟨g,j*Rp.sz (I E)+u,none⟩=σ.w.cell? ⟨g,j*Rp.sz (I E)+u,none⟩) \/
   ∃ v,τ.w.cell? ⟨g,j*Rp.sz (I E)+u,none⟩=some v/\Ak I E' τ v/\∀ b,pR v=some b->X.M b/\(∀ l i,¬ fw c σ O l i b)/\∀ l' o p',O l'=some (some o)->c l'=some p'->p'.w≠some b) :
 iE X c τ (cB O l (some (.aP E E' u ys q'))):=by
 have hfree:∀ {l' i b},fw c σ O l' i b->b≠g:=λhb e=>by subst e;exact h.free _ _ _ hb l _ _ hl hc rfl
 have hother:∀ {l' i E1 v},l'≠l->iI c σ O l' i E1 v->iI c τ (cB O l (some (.aP E E' u ys q'))) l' i E1 v:=λ{l' i E1 v} hne ⟨E2,u2,xE,q2,g2,kk,m2,w,h1,h2,h3,h4,h5⟩=>by
  refine ⟨E2,u2,xE,q2,g2,kk,m2,w,by rw [fq hne]; exact h1,h2,h3,h4,?_⟩
  have hne2:g2≠g:=λe=>by subst e;exact hne (hinj l' _ _ h1 h2 (hW _ _ _ _ _ _ _ _ _ _ h1 h2 (by intro e; subst e; simp at h3)))
  have:=(st.block g2 (um h5) hne2).1;unfold World.cell? at h5 ⊢;rw [this]; exact h5
 have Ii:∀ {E1 v},Ak I E1 σ v->(∀ b,pR v=some b->b≠g)->Ak I E1 τ v:=λ⟨zs,A,kk,e,ho⟩ hb=>⟨zs,A,kk,e,ho.step st λb hb'=>hb b hb'⟩;have hback:∀ {l' i E1 v},iI c τ (cB O l (some (.aP E E' u ys q'))) l' i E1 v->iI c σ O l' i E1 v\/(l'=l/\i=j/\E1=E'/\Ak I E' τ v/\∀ b,pR v=some b->X.M b/\(∀ l i,¬ fw c σ O l i b)/\∀ l' o p',O l'=some (some o)->c l'=some p'->p'.w≠some b):=λ{l' i E1 v} hk=>by
  obtain ⟨E2,u2,xE,q2,g2,kk,m2,w,h1,h2,h3,h4,h5⟩:=id hk;rcases dM h1 with ⟨e1,e2⟩ | ⟨e1,e2⟩
  ·cases e2;subst e1;rw [hc] at h2;cases h2;rw [hlen] at h3;by_cases e:i=j
   ·subst e;rcases hnew h3 h4 with ⟨a1,a2⟩ | ⟨v',a1,a2,a3⟩
    ·rw [a2] at h5;exact .inl ⟨_,_,_,q,g,_,_,_,hl,hc,h3,a1,h5⟩
    ·rw [a1] at h5;cases h5;exact .inr ⟨rfl,rfl,rfl,a2,a3⟩
   ·obtain ⟨a1,a2⟩:=hsame i h3 e h4;rw [a2] at h5;exact .inl ⟨_,_,_,q,g,_,_,_,hl,hc,h3,a1,h5⟩
  ·obtain ⟨v0,k1,k2⟩:=h.opn l' _ _ _ _ _ e2 i h3 h4;rw [((hother e1 k1).fn hk).2,((hother e1 k1).fn hk).1];exact .inl k1
 have hlive:∀ {l' o},cB O l (some (.aP E E' u ys q')) l'=some (some o)->∃ o',O l'=some (some o'):=λ{l' o} e=>by
  rcases dM e with ⟨e1,_⟩ | ⟨_,e2⟩
  ·subst e1; exact ⟨_,hl⟩
  ·exact ⟨o,e2⟩
 have hB:∀ {l' i b},fw c τ (cB O l (some (.aP E E' u ys q'))) l' i b->fw c σ O l' i b\/(l'=l/\i=j/\X.M b/\(∀ l i,¬ fw c σ O l i b)/\∀ l' o p',O l'=some (some o)->c l'=some p'->p'.w≠some b):=λ⟨E1,v,h1,h2⟩=>by
  rcases hback h1 with k | ⟨k1,k2,_,_,k5⟩
  ·exact .inl ⟨E1,v,k,h2⟩
  ·exact .inr ⟨k1,k2,k5 _ h2⟩
 refine ⟨λl' E1 E2 u1 uo q1 e i hi hq1=>?_,λl' i b hb=>?_,λl' i b hb l2 o p' ho' hc'=>?_,λl' i b l2 i2 h1 h2=>?_⟩
 ·rcases dM e with ⟨e1,e2⟩ | ⟨e1,e2⟩
  ·cases e2;subst e1;rw [hlen] at hi;have hat:∀ v,τ.w.cell? ⟨g,i*Rp.sz (I E)+u,none⟩=some v->iI c τ (cB O l' (some (.aP E E' u ys q'))) l' i E' v:=λv hv=>⟨_,_,_,_,g,_,_,_,iq _ _ _,hc,by rw [hlen]; exact hi,hq1,hv⟩
   have hold:q≠i+2->τ.w.cell? ⟨g,i*Rp.sz (I E)+u,none⟩=σ.w.cell? ⟨g,i*Rp.sz (I E)+u,none⟩->∃ v,iI c τ (cB O l' (some (.aP E E' u ys q'))) l' i E' v/\Ak I E' τ v:=λa1 a2=>by obtain ⟨v,k1,k2⟩:=h.opn l' _ _ _ _ q hl i hi a1;have k1':=k1;obtain ⟨E3,u3,xG,q3,g3,kk,m3,w,h1,h2,h3,h4,h5⟩:=k1;rw [hl] at h1;cases h1;rw [hc] at h2;cases h2;exact ⟨v,hat v (a2.trans h5),Ii k2 λb hb=>hfree ⟨_,v,k1',hb⟩⟩
   by_cases e:i=j
   ·subst e;rcases hnew hi hq1 with ⟨a1,a2⟩ | ⟨v',a1,a2,a3⟩
    ·exact hold a1 a2
    ·exact ⟨v',hat v' a1,a2⟩
   ·obtain ⟨a1,a2⟩:=hsame i hi e hq1;exact hold a1 a2
  ·obtain ⟨v,k1,k2⟩:=h.opn l' _ _ _ _ _ e2 i hi hq1;exact ⟨v,hother e1 k1,Ii k2 λb hb=>hfree ⟨_,v,k1,hb⟩⟩
 ·rcases hB hb with k | k
  ·exact h.mine l' i b k
  ·exact k.2.2.1
 ·obtain ⟨o',ho2⟩:=hlive ho';rcases hB hb with k | k
  ·exact h.free l' i b k l2 o' p' ho2 hc'
  ·exact k.2.2.2.2 l2 o' p' ho2 hc'
 ·rcases hB h1 with k1 | k1
  ·rcases hB h2 with k2 | k2
   ·exact h.inj l' i b l2 i2 k1 k2
   ·exact absurd k1 (k2.2.2.2.1 _ _)
  ·rcases hB h2 with k2 | k2
   ·exact absurd k2 (k1.2.2.2.1 _ _)
   ·exact ⟨k2.1.trans k1.1.symm,k2.2.1.trans k1.2.1.symm⟩
theorem gI.place {l:Nat}{o:Ob I}(h:gI X c σ l o):∃ p,c l=some p:=by
 cases o with
 | var T ls w=>obtain ⟨b,cs,k1,_⟩:=h; exact ⟨_,k1⟩
 | row E xs fl=>obtain ⟨A,k,ow,k1,_⟩:=h; exact ⟨_,k1⟩
 | ro E xs=>obtain ⟨A,k,k1,_⟩:=h; exact ⟨_,k1⟩
 | bo E xs=>obtain ⟨A,k,k1,_⟩:=h; exact ⟨_,k1⟩
 | aP E E' u xs q=>obtain ⟨A,k,ow,k1,_⟩:=h; exact ⟨_,k1⟩
 | map T kd m=>obtain ⟨b,k1,_⟩:=h; exact ⟨_,k1⟩
 | gU T kd m=>obtain ⟨b,k1,_⟩:=h; exact ⟨_,k1⟩
theorem gI.Ml {l g k m:Nat}{w:Option Nat}{E E':TypeId}{u q:Nat}{xs:List (I E)}(h:gI X c σ l (.aP E E' u xs q))(hc:c l=some ⟨some ⟨g,0,none⟩,k,m,w⟩)(hx:xs≠[]):w=some g:=by
 obtain ⟨A,kk,ow,k1,k2⟩:=h;rw [k1] at hc;cases hc;cases w with
 | none =>
   rcases k2 with ⟨e,_⟩ | ⟨e,_⟩
   ·exact absurd e hx
   ·cases e
 | some g' =>obtain ⟨aM,cs,e,_⟩:=k2;cases e; rfl
structure Rel (X:bZ)(c:Cx)(σ:S)(s:St I)(n:Nat)(F:Fr):Prop where
 len:s.n=n
 frame:∀ (i:Nat) (p:PV I),s.F i=some p->RV X c σ p (F i)
 bB:∀ (l:Nat) (o:Ob I),s.O l=some (some o)->gI X c σ l o
 inj:∀ l l' p p' b,bH s l->bH s l'->c l=some p->c l'=some p'->p.w=some b->p'.w=some b->l=l'
 mine:∀ l p b,bH s l->c l=some p->p.w=some b->X.M b
 jh:∀ l,s.O l=none->c l=none
 base:X.N<=σ.N/\∀ E,Rp.lo (I E)<=X.N
 aP:iE X c σ s.O
variable {s:St I}{n:Nat}{F:Fr}
theorem Rel.put (h:Rel X c σ s n F)(d:Option Nat)(p:PV I)(v:Value)(hv:RV X c σ p v):Rel X c σ (Qx.put s d p) n (dF F d v):=by
 cases d with
 | none=>exact h
 | some d =>
   refine ⟨h.len,λi q hq=>?_,h.bB,h.inj,h.mine,h.jh,h.base,h.aP⟩;rcases dM hq with ⟨rfl,rfl⟩ | ⟨e,hq⟩
   ·simpa [dF,upd] using hv
   ·have:Lm' i d=false:=beq_false e;simpa [dF,upd,this] using h.frame i q hq
theorem Rel.step (h:Rel X c σ s n F)(st:Stp rf σ τ):Rel X c τ s n F :=
 ⟨h.len,λi p hp=>RV.step st.no p _ (h.frame i p hp),λl o ho=>(h.bB l o ho).step st.no λp g h1 h2=>st.block g (by
  have:=h.bB l o ho;cases o with
  | var T ls w =>
    obtain ⟨b,cs,k1,k2,k3,_⟩:=this;rw [k1] at h1;cases h1;cases w
    ·cases h2
    ·cases h2; exact jJ k3
  | row E xs fl =>obtain ⟨A,k,ow,k1,k2⟩:=this;rw [k1] at h1;cases h1;subst h2;obtain ⟨aM,cs,e,hh,_⟩:=k2;exact jJ hh
  | aP E E' u xs q =>obtain ⟨A,k,ow,k1,k2⟩:=this;rw [k1] at h1;cases h1;subst h2;obtain ⟨aM,cs,e,hh,_⟩:=k2;exact jJ hh
  | map T kd m =>obtain ⟨b,k1,k2⟩:=this;rw [k1] at h1;cases h1;cases h2;exact k2.lt
  | gU T kd m =>obtain ⟨b,k1,k2⟩:=this;rw [k1] at h1;cases h1;cases h2
  | ro E xs =>obtain ⟨A,k,k1,k2⟩:=this;rw [k1] at h1;cases h1;cases h2
  | bo E xs =>obtain ⟨A,k,k1,k2⟩:=this;rw [k1] at h1;cases h1;cases h2) (λh=>h),h.inj,h.mine,h.jh,⟨Lr' h.base.1 st.eP.size,h.base.2⟩,h.aP.step st (λ_ _ _ _ _ _ _ _ _ _ _ _ _ h=>h) λ_ _ _ _ h=>h⟩
theorem gI.lt {l g:Nat}{o:Ob I}{p:Pl}(h:gI X c σ l o)(h1:c l=some p)(h2:p.w=some g):g<σ.N:=by
 cases o with
 | var T ls w =>
   obtain ⟨b,cs,k1,k2,k3,_⟩:=h;rw [k1] at h1;cases h1;cases w
   ·cases h2
   ·cases h2; exact jJ k3
 | row E xs fl =>obtain ⟨A,k,ow,k1,k2⟩:=h;rw [k1] at h1;cases h1;subst h2;obtain ⟨aM,cs,e,hh,_⟩:=k2;exact jJ hh
 | aP E E' u xs q =>obtain ⟨A,k,ow,k1,k2⟩:=h;rw [k1] at h1;cases h1;subst h2;obtain ⟨aM,cs,e,hh,_⟩:=k2;exact jJ hh
 | map T kd m =>obtain ⟨b,k1,k2⟩:=h;rw [k1] at h1;cases h1;cases h2;exact k2.lt
 | gU T kd m =>obtain ⟨b,k1,k2⟩:=h;rw [k1] at h1;cases h1;cases h2
 | ro E xs =>obtain ⟨A,k,k1,k2⟩:=h;rw [k1] at h1;cases h1;cases h2
 | bo E xs =>obtain ⟨A,k,k1,k2⟩:=h;rw [k1] at h1;cases h1;cases h2
def rC:Option (Ob I)->Bool
 | some (.aP _ _ _ _ _)=>false
 | _=>true
omit [∀ E,Rp (I E)] in
theorem Dw {o:Option (Ob I)}(h:rC o=true):∀ {E E' u xs q},o≠some (.aP E E' u xs q):=by intro E E' u xs q e;subst e;cases h
theorem Rel.SS (h:Rel X c σ s n F){l g:Nat}{o':Option (Ob I)}{p:Pl}(hl:bH s l)(hp:c l=some p)(hw:p.w=some g)(st:Stp (λb=>b=g) σ τ)(ho:∀ o,o'=some o->gI X c τ l o)(hN:iE X c τ (cB s.O l o')):Rel X c τ (bG s l o') n F:=by
 have hm:X.M g:=h.mine l p g hl hp hw;have stM:Stp X.M σ τ:=st.mono λb _ e=>by rw [e]; exact hm
 have hlive:∀ {l'},bH (bG s l o') l'->bH s l':=λ{l'} ⟨o,hl'⟩=>by
  rcases dM hl' with ⟨rfl,_⟩ | ⟨_,h⟩
  ·exact hl
  ·exact ⟨o,h⟩
 refine ⟨h.len,λi q hq=>RV.step stM q _ (h.frame i q hq),λl' o'' hl'=>?_,λl1 l2 p1 p2 b a1 a2=>h.inj l1 l2 p1 p2 b (hlive a1) (hlive a2),λl1 p1 b a1=>h.mine l1 p1 b (hlive a1),λl' hl'=>?_,⟨Lr' h.base.1 st.eP.size,h.base.2⟩,hN⟩
 ·rcases dM hl' with ⟨rfl,e⟩ | ⟨e,hl'⟩
  ·exact ho _ e.symm
  ·refine (h.bB l' o'' hl').step stM λp' g' h1 h2=>st.block g' ((h.bB l' o'' hl').lt h1 h2) λe'=>?_;subst e';exact e (h.inj l' l p' p g' ⟨_,hl'⟩ hl h1 hp h2 hw)
 ·refine h.jh l' ?_;by_cases e:l'=l
  ·subst e;have:(bG s l' o').O l'=some o':=iq _ _ _;rw [this] at hl'; cases hl'
  ·have:(bG s l o').O l'=s.O l':=fq e;rw [this] at hl'; exact hl'
theorem Rel.upd (h:Rel X c σ s n F){l g:Nat}{o':Option (Ob I)}{p:Pl}(hl:bH s l)(hp:c l=some p)(hw:p.w=some g)(st:Stp (λb=>b=g) σ τ)(ho:∀ o,o'=some o->gI X c τ l o)(hn:rC o'=true:=by rfl):Rel X c τ (bG s l o') n F:=by
 refine h.SS hl hp hw st ho ?_;have hnt:∀ l' E E' u xs q,cB s.O l o' l'=some (some (.aP E E' u xs q))->l'≠l/\s.O l'=some (some (.aP E E' u xs q)):=λl' E E' u xs q e=>by
  rcases dM e with ⟨_,e'⟩ | ⟨h1,h2⟩
  ·exact absurd e'.symm (Dw hn)
  ·exact ⟨h1,h2⟩
 have h1:iE X c σ (cB s.O l o'):=h.aP.sub (λl' E E' u xs q e=>(hnt l' E E' u xs q e).2) λl' o p' b ho' _ _=>by
  rcases dM ho' with ⟨rfl,_⟩ | ⟨_,h2⟩
  ·exact .inl hl
  ·exact .inl ⟨o,h2⟩
 refine h1.step st (λl' E E' u xs q g' k m w e hc hx eg=>?_) λl' i b hb eb=>?_
 ·obtain ⟨e1,e2⟩:=hnt l' E E' u xs q e;have hw':=(h.bB l' _ e2).Ml hc hx;subst eg;exact e1 (h.inj l' l _ p g' ⟨_,e2⟩ hl hc hp hw' hw)
 ·subst eb;obtain ⟨o,ho'⟩:=hl;have hb':fw c σ s.O l' i b:=by obtain ⟨E',v,⟨E,u,xs,q,g,kk,m,w,k1,k2⟩,k3⟩:=hb;exact ⟨E',v,⟨E,u,xs,q,g,kk,m,w,(hnt _ _ _ _ _ _ k1).2,k2⟩,k3⟩
  exact h.aP.free l' i b hb' l o p ho' hp hw
def fP (c:Cx)(l:Nat)(p:Pl):Cx:=λi=>if i=l then some p else c i
theorem iw (c:Cx)(l:Nat)(p:Pl):fP c l p l=some p:=by simp [fP]
theorem F5 {c:Cx}{l:Nat}{p:Pl}(h:c l=none):Cx.le c (fP c l p):=λi q hq=>by
 by_cases e:i=l
 ·subst e; rw [h] at hq; cases hq
 ·simpa [fP,e] using hq
theorem Rel.kJ' (h:Rel X c σ s n F){l:Nat}{o:Ob I}{p:Pl}(hl:s.O l=none)(hw:∀ g,p.w=some g->X.M g/\∀ l' p',bH s l'->c l'=some p'->p'.w≠some g)(ho:gI X (fP c l p) σ l o)(hN:iE X (fP c l p) σ (cB s.O l (some o))) :
 Cx.le c (fP c l p)/\Rel X (fP c l p) σ (bG s l (some o)) n F:=by
 have hle:Cx.le c (fP c l p):=F5 (h.jh l hl);have hne:∀ {i},i≠l->fP c l p i=c i:=λe=>by simp [fP,e]
 have hlive:∀ {l'},l'≠l->bH (bG s l (some o)) l'->bH s l':=λe ⟨o',h'⟩=>by
  rcases dM h' with ⟨e',_⟩ | ⟨_,h⟩
  ·exact absurd e' e
  ·exact ⟨o',h⟩
 refine ⟨hle,h.len,λi q hq=>RV.grow hle q _ (h.frame i q hq),λl' o'' hl'=>?_,λl1 l2 p1 p2 b a1 a2 a3 a4 a5 a6=>?_,λl1 p1 b a1 a2 a3=>?_,λl' hl'=>?_,h.base,hN⟩
 ·rcases dM hl' with ⟨rfl,e⟩ | ⟨e,hl'⟩
  ·cases e; exact ho
  ·exact (h.bB l' o'' hl').grow hle
 ·by_cases e1:l1=l
  ·by_cases e2:l2=l
   ·rw [e1,e2]
   ·exfalso;subst e1;rw [iw] at a3;cases a3;rw [hne e2] at a4;exact (hw b a5).2 l2 p2 (hlive e2 a2) a4 a6
  ·by_cases e2:l2=l
   ·exfalso;subst e2;rw [iw] at a4;cases a4;rw [hne e1] at a3;exact (hw b a6).2 l1 p1 (hlive e1 a1) a3 a5
   ·rw [hne e1] at a3;rw [hne e2] at a4;exact h.inj l1 l2 p1 p2 b (hlive e1 a1) (hlive e2 a2) a3 a4 a5 a6
 ·by_cases e1:l1=l
  ·subst e1;rw [iw] at a2;cases a2;exact (hw b a3).1
  ·rw [hne e1] at a2;exact h.mine l1 p1 b (hlive e1 a1) a2 a3
 ·by_cases e:l'=l
  ·subst e;have:(bG s l' (some o)).O l'=some (some o):=iq _ _ _;rw [this] at hl'; cases hl'
  ·have:(bG s l (some o)).O l'=s.O l':=fq e;rw [this] at hl';rw [hne e]; exact h.jh l' hl'
def eD (c:Cx)(σ:S)(s:St I)(g:Nat):Prop:=∀ l i,¬ fw c σ s.O l i g
theorem Rel.fresh (h:Rel X c σ s n F){g:Nat}(hg:σ.N<=g):eD c σ s g:=λl i hb=>by
 have:=h.aP.lt hb;omega
theorem eD.sub {s':St I}{g:Nat}(k:eD c σ s g)(hO:∀ l E E' u xs q,s'.O l=some (some (.aP E E' u xs q))->s.O l=some (some (.aP E E' u xs q))):eD c σ s' g:=λl i ⟨E',v,⟨E,u,xs,q,g,kk,m,w,k1,k2⟩,k3⟩ =>
 k l i ⟨E',v,⟨E,u,xs,q,g,kk,m,w,hO _ _ _ _ _ _ k1,k2⟩,k3⟩
theorem eD.set {g l:Nat}{o:Option (Ob I)}(k:eD c σ s g)(hn:rC o=true:=by rfl):eD c σ (bG s l o) g:=k.sub λl' E E' u xs q e=>by
 rcases dM e with ⟨_,e'⟩ | ⟨_,h2⟩
 ·exact absurd e'.symm (Dw hn)
 ·exact h2
theorem eD.grow {s':St I}{g:Nat}(k:eD c σ s g)(h:Rel X c σ s n F)(hc:Cx.le c c')(hO:∀ l E E' u xs q,s'.O l=some (some (.aP E E' u xs q))->s.O l=some (some (.aP E E' u xs q))):eD c' σ s' g:=λl i ⟨E',v,⟨E,u,xs,q,g,kk,m,w,k1,k2,k3⟩,k4⟩=>by
 have k1':=hO _ _ _ _ _ _ k1;refine k l i ⟨E',v,⟨E,u,xs,q,g,kk,m,w,k1',?_,k3⟩,k4⟩;obtain ⟨p2,e2⟩:=(h.bB l _ k1').place;have:=hc _ _ e2;rw [k2] at this;cases this; exact e2
theorem Rel.owned (h:Rel X c σ s n F){l g:Nat}{p:Pl}(hl:bH s l)(hp:c l=some p)(hw:p.w=some g):eD c σ s g:=λl' i hb=>by
 obtain ⟨o,ho⟩:=hl;exact h.aP.free l' i g hb l o p ho hp hw
theorem Rel.add (h:Rel X c σ s n F){l:Nat}{o:Ob I}{p:Pl}(hl:s.O l=none)(hw:∀ g,p.w=some g->X.M g/\eD c σ s g/\∀ l' p',bH s l'->c l'=some p'->p'.w≠some g)(ho:gI X (fP c l p) σ l o)(hn:rC (some o)=true:=by rfl) :
 Cx.le c (fP c l p)/\Rel X (fP c l p) σ (bG s l (some o)) n F:=by
 refine h.kJ' hl (λg hg=>⟨(hw g hg).1,(hw g hg).2.2⟩) ho ?_;have hle:Cx.le c (fP c l p):=F5 (h.jh l hl);have hg:=h.aP.grow hle λl' o' ho'=>(h.bB l' o' ho').place;refine hg.sub (λl' E E' u xs q e=>?_) λl' o' p' b ho' hc' hw'=>?_
 ·rcases dM e with ⟨_,e'⟩ | ⟨_,h2⟩
  ·exact absurd e'.symm (Dw hn)
  ·exact h2
 ·rcases dM ho' with ⟨rfl,_⟩ | ⟨_,h2⟩
  ·right;rw [iw] at hc';cases hc';intro l2 i hb;obtain ⟨E',v,⟨E,u,xs,q,g,kk,m,w,k1,k2,k3⟩,k4⟩:=hb;refine (hw b hw').2.1 l2 i ⟨E',v,⟨E,u,xs,q,g,kk,m,w,k1,?_,k3⟩,k4⟩;obtain ⟨p2,e2⟩:=(h.bB l2 _ k1).place;have:=hle _ _ e2;rw [k2] at this;cases this; exact e2
  ·exact .inl ⟨o',h2⟩
theorem Rel.kill (h:Rel X c σ s n F){l:Nat}(hl:bH s l):Rel X c σ (bG s l none) n F:=by
 have hlive:∀ {l'},bH (bG s l none) l'->bH s l':=λ{l'} ⟨o',h'⟩=>by
  rcases dM h' with ⟨_,e⟩ | ⟨_,h⟩
  ·cases e
  ·exact ⟨o',h⟩
 refine ⟨h.len,h.frame,λl' o'' hl'=>?_,λl1 l2 p1 p2 b a1 a2=>h.inj l1 l2 p1 p2 b (hlive a1) (hlive a2),λl1 p1 b a1=>h.mine l1 p1 b (hlive a1),λl' hl'=>?_,h.base,h.aP.sub (λl' E E' u xs q e=>?_) λl' o' p' b ho' _ _=>.inl (hlive ⟨o',ho'⟩)⟩
 ·rcases dM hl' with ⟨_,e⟩ | ⟨_,h'⟩
  ·cases e
  ·exact h.bB l' o'' h'
 ·refine h.jh l' ?_;by_cases e:l'=l
  ·subst e;have:(bG s l' none).O l'=some none:=iq _ _ _;rw [this] at hl'; cases hl'
  ·have:(bG s l none).O l'=s.O l':=fq e;rw [this] at hl'; exact hl'
 ·rcases dM e with ⟨_,e'⟩ | ⟨_,h2⟩
  ·cases e'
  ·exact h2
def pub (s:St I)(l:Nat):St I:=match s.O l with
 | some (some (.row E xs false))=>bG s l (some (.row E xs true))
 | _=>s
theorem Rel.pub (h:Rel X c σ s n F)(l:Nat):∃ τ,τ.w=σ.w/\Stp X.M σ τ/\Rel X c τ (Qx.pub s l) n F:=by
 unfold Qx.pub;split
 ·rename_i E xs hl;have ho:=h.bB l _ hl;obtain ⟨A,k,ow,h1,h2⟩:=ho;cases ow with
  | none =>
    refine ⟨σ,rfl,Stp.refl _ _,⟨h.len,h.frame,λl' o hl'=>?_,?_,?_,?_,h.base,?_⟩⟩
    ·rcases dM hl' with ⟨rfl,e⟩ | ⟨_,h'⟩
     ·cases e;refine ⟨A,k,none,h1,?_⟩;rcases h2 with h2 | ⟨e,_⟩
      ·exact .inl h2
      ·cases e
     ·exact h.bB l' o h'
    all_goals
     have hlive:∀ {l'},bH (bG s l (some (Ob.row E xs true))) l'->bH s l':=λ{l'} ⟨o',h'⟩=>by
      rcases dM h' with ⟨rfl,_⟩ | ⟨_,h⟩
      ·exact ⟨_,hl⟩
      ·exact ⟨o',h⟩
    ·exact λl1 l2 p1 p2 b a1 a2=>h.inj l1 l2 p1 p2 b (hlive a1) (hlive a2)
    ·exact λl1 p1 b a1=>h.mine l1 p1 b (hlive a1)
    ·intro l' hl';refine h.jh l' ?_;by_cases e:l'=l
     ·subst e;have:(bG s l' (some (Ob.row E xs true))).O l'=some (some (Ob.row E xs true)):=iq _ _ _;rw [this] at hl'; cases hl'
     ·have:(bG s l (some (Ob.row E xs true))).O l'=s.O l':=fq e;rw [this] at hl'; exact hl'
    ·refine h.aP.sub (λl' E E' u xs q e=>?_) λl' o' p' b ho' _ _=>.inl (hlive ⟨o',ho'⟩);rcases dM e with ⟨_,e'⟩ | ⟨_,h2⟩
     ·cases e'
     ·exact h2
  | some g =>
    obtain ⟨aM,cs,e,hh,k1,k2,k3,k4,k5,k6⟩:=h2
    let τ:S:=⟨σ.w,λb=>if b=g then (xs.length*Rp.sz (I E),(σ.L b).2) else σ.L b⟩
    have hL:∀ b,b≠g->τ.L b=σ.L b:=λb hb=>by simp [τ,hb]
    have SV:(τ.L g).1=xs.length*Rp.sz (I E):=by simp [τ]
    have YW:(σ.L g).1=0:=k6;have hw:gT σ τ:=⟨Lg' _,λb _=>by
     by_cases eb:b=g
     ·subst eb; rw [YW]; exact Mb' _
     ·rw [hL b eb]; exact Lg' _,λ_ _ _ _ h=>h,Lg' _,λ_ _ _ h=>h⟩
    have st:Stp (λb=>b=g) σ τ:=⟨hw,rfl,rfl,rfl,λb _ hb=>⟨rfl,by rw [hL b hb]⟩⟩
    refine ⟨τ,rfl,st.mono λb _ e=>by rw [e]; exact h.mine l _ g ⟨_,hl⟩ h1 rfl,h.upd ⟨_,hl⟩ h1 rfl st λo e'=>?_⟩
    cases e';exact ⟨A,k,some g,h1,aM,cs,e,hh,k1,k2,k3,k4.mono hw,k5,SV⟩
 ·exact ⟨σ,rfl,Stp.refl _ _,h⟩
end
end Go.Qx
namespace Go.Qx
open Go Go.RowKit Go.Sx
structure aX (I:TypeId->Type) where
 sz:TypeId->Option Nat
 one:TypeId->Bool
 off:TypeId->Nat->Option Nat
 fty:TypeId->Nat->Option TypeId
 el:TypeId->Option TypeId
 isStr:TypeId->Bool
 isBool:TypeId->Bool
 ik:TypeId->Option IntKind
 lf:(E:TypeId)->I E->List (PV I)
 of:(E:TypeId)->List (PV I)->Option (I E)
 size:TypeId->Option Nat
 bytes:TypeId->Option Nat
 zero:TypeId->Option (List (PV I))
 uq:TypeId->Option (List (Nat×Nat))
 AX:TypeId->List (PV I)->List (PV I)->Option Bool
 arr:TypeId->Option (TypeId×Nat×Nat)
 fb:FuncId->Bool
 nest:TypeId->Option (TypeId×Nat)
 mp:TypeId->Option Kd
 u8:TypeId->Bool
 vL:(E:TypeId)->Option (Int->I E)
 lo:Nat:=0
section
variable {I:TypeId->Type} [∀ E,Rp (I E)]
def ee' (P:Program)(T:TypeId)(pl:List (Nat×Nat))(zs:List Value):Prop :=
 ∃ m e ie i z,P.underlying T=some (.array m e)/\P.info? e=some ie/\P.info? T=some i/\i.zero=some z/\z.cells=zs.toArray/\pl=(LY' m).map λj=>(j*ie.size,ie.size)
def mS' (P:Program)(T:TypeId)(pl:List (Nat×Nat))(zs:List Value):Prop:=je' P T pl zs\/ee' P T pl zs
def Oh:(kd:Kd)->Option (Ty I kd)
 | .int _=>some (0:Int)
 | .bool=>some false
 | .str=>some (⟨#[]⟩:ByteArray)
 | .sl E=>some ([]:List (I E))
 | _=>none
def OH (I:TypeId->Type) [∀ E,Rp (I E)] (P:Program)(T:TypeId)(kd:Kd):Prop :=
 ∃ K E z sz jo,P.underlying T=some (.map K E)/\P.underlying K=some .string/\dU P E z sz jo/\∀ (x:Ty I kd),Oh kd=some x->∀ σ,DV σ kd x z
structure bT (P:Program)(tb:aX I):Prop where
 sz:∀ T k,tb.sz T=some k->Ga P T k
 one:∀ T,tb.one T=true->iJ P T
 off:∀ T f o,tb.off T f=some o->FX P T f o
 fty:∀ T f T',tb.fty T f=some T'->∃ fs fl,P.underlying T=some (.struct fs)/\fs[f]?=some fl/\fl.type=T'
 el:∀ T E,tb.el T=some E->P.underlying T=some (.slice E)/\(P.info? E).map (·.size)=some (Rp.sz (I E))
 isStr:∀ T,tb.isStr T=true->P.underlying T=some .string
 isBool:∀ T,tb.isBool T=true->P.underlying T=some .bool
 ik:∀ T k,tb.ik T=some k->P.underlying T=some (.int k)
 lf:∀ (X:bZ) (c:Cx) (σ:S) (E:TypeId) (x:I E) (cs:List Value),Rp.cells σ x cs->RG X c σ (tb.lf E x) cs
 of:∀ (X:bZ) (c:Cx) (σ:S) (E:TypeId) (ls:List (PV I)) (x:I E) (cs:List Value),tb.of E ls=some x->RG X c σ ls cs->Rp.cells σ x cs
 size:∀ T k,tb.size T=some k->(P.info? T).map (·.size)=some k
 slice:∀ T E b,tb.el T=some E->tb.bytes E=some b->∃ z,ru P T E z (Rp.sz (I E)) b
 zero:∀ T ls,tb.zero T=some ls->∃ z sz jo cs,dU P T z sz jo/\z.cells.toList=cs/\∀ X c σ,RG X c σ ls cs
 uq:∀ T pl ls,tb.uq T=some pl->tb.zero T=some ls->∃ cs,mS' P T pl cs/\∀ X c σ,RG X c σ ls cs
 AX:∀ (X:bZ) (c:Cx) (σ:S) (T:TypeId) (ls ms:List (PV I)) (r:Bool) (cs ds:List Value),tb.AX T ls ms=some r->RG X c σ ls cs->RG X c σ ms ds ->
  P.eqGuardType P.depth T=false/\∃ j,Mq' j 10000=true/\Sx.EqAt P j T (.agg cs.toArray) (.agg ds.toArray) r
 arr:∀ T E m k,tb.arr T=some (E,m,k)->P.underlying T=some (.array m E)/\(P.info? E).map (·.size)=some k
 fb:∀ f,tb.fb f=true->mV P f
 mp:∀ T kd,tb.mp T=some kd->OH I P T kd
 u8:∀ E,tb.u8 E=true->P.underlying E=some (.int .u8)/\∀ x:I E,∃ n,tb.lf E x=[.int .u8 n]
 vL:∀ E g,tb.vL E=some g->∀ (σ:S) (k:Int),Rp.cells σ (g k) [.int .u8 k]
 low:∀ E,Rp.lo (I E)<=tb.lo
omit [∀ E,Rp (I E)] in
theorem bA {α:Type}{b:Bool}{x:Option α}{r:α}(h:(bif b then x else none)=some r):b=true/\x=some r:=by
 cases b
 ·cases h
 ·exact ⟨rfl,h⟩
omit [∀ E,Rp (I E)] in
theorem mX {α:Type}{p:Prop} [Decidable p] {x:Option α}{r:α}(h:(if p then x else none)=some r):p/\x=some r:=by
 by_cases hp:p
 ·rw [if_pos hp] at h; exact ⟨hp,h⟩
 ·rw [if_neg hp] at h; cases h
def jS (E E':TypeId)(xs:List (I E')):Option (List (I E)):=if h:E'=E then some (h▸xs) else none
omit [∀ E,Rp (I E)] in
theorem lM {E E':TypeId}{xs:List (I E')}{ys:List (I E)}(h:jS E E' xs=some ys):∃ e:E'=E,ys=e▸xs:=by
 unfold jS at h;split at h
 ·rename_i e; cases h; exact ⟨e,rfl⟩
 ·cases h
def uI (E E':TypeId)(x:I E'):Option (I E):=if h:E'=E then some (h▸x) else none
omit [∀ E,Rp (I E)] in
theorem Kt {E E':TypeId}{x:I E'}{y:I E}(h:uI E E' x=some y):∃ e:E'=E,y=e▸x:=by
 unfold uI at h;split at h
 ·rename_i e; cases h; exact ⟨e,rfl⟩
 ·cases h
def Ay (tb:aX I)(E:TypeId)(ls:List (PV I)):Option (I E):=match ls with
 | [.dat E' x]=>bif Lm' E' E then uI E E' x else match tb.lf E' x with
   | [.dat E2 y]=>uI E E2 y
   | ls=>tb.of E ls
 | ls=>tb.of E ls
def Da (T:TypeId)(ls:List (PV I)):PV I:=match ls with
 | [.dat E x]=>bif Lm' E T then .dat E x else .agg ls
 | ls=>.agg ls
def BQ (tb:aX I):Nat->List (PV I)->Option (List (PV I))
 | 0,_=>none
 | _+1,[]=>some []
 | f+1,p::ps=>match p with
   | .dat E x=>BQ tb f (tb.lf E x++ps)
   | p=>(BQ tb f ps).bind λr=>some (p::r)
abbrev aN (I:TypeId->Type):=Nat->Option (Option (Ob I))
def IU (O:aN I):PV I->Option (PV I×List Nat)
 | .vw l=>match O l with
   | some (some (.row E xs fl))=>some (.sl E xs false,bif fl then [] else [l])
   | some (some (.ro E xs))=>some (.sl E xs false,[])
   | _=>none
 | .nl E=>some (.sl E [] true,[])
 | p=>some (p,[])
def Ky (O:aN I):List (PV I)->Option (List (PV I)×List Nat)
 | []=>some ([],[])
 | p::r=>(IU O p).bind λq=>(Ky O r).bind λt=>some (q.1::t.1,q.2++t.2)
def Q9 (O:aN I)(E:TypeId)(p:PV I):Option (List (I E)×List Nat) :=
 (IU O p).bind λq=>match q.1 with
 | .sl E' xs _=>(jS E E' xs).bind λys=>some (ys,q.2)
 | _=>none
def uR (tb:aX I)(O:aN I):(k:Kd)->PV I->Option (Ty I k×List Nat)
 | .int k,.int k' n=>if k=k' then some (n,[]) else none
 | .bool,.bool b=>some (b,[])
 | .str,.str s=>some (s,[])
 | .sl E,p=>Q9 O E p
 | .dat E,.dat E' x=>(uI E E' x).bind λy=>some (y,[])
 | .dat E,.agg ls=>(Ky O ls).bind λt=>(Ay tb E t.1).bind λx=>some (x,t.2)
 | .any,_=>some ((),[])
 | _,_=>none
def pW {T T':TypeId}{kd kd':Kd}(m:List (ByteArray×Ty I kd')):Option (List (ByteArray×Ty I kd)):=if h:T'=T/\kd'=kd then some (h.2▸m) else none
omit [∀ E,Rp (I E)] in
theorem wP {T T':TypeId}{kd kd':Kd}{m:List (ByteArray×Ty I kd')}{y:List (ByteArray×Ty I kd)}(h:pW (T:=T) (T':=T') (kd:=kd) m=some y):∃ e:kd'=kd,T'=T/\y=e▸m:=by
 unfold pW at h;split at h
 ·rename_i e;exact ⟨e.2,e.1,(LI'.inj h).symm⟩
 ·cases h
def pV (tb:aX I)(O:aN I):(k:K)->PV I->Option (lg I k×List Nat×List (Option Nat))
 | .d kd,p=>(uR tb O kd p).bind λx=>some (x.1,x.2,[])
 | .row E fl,.vw l=>match O l with
   | some (some (.row E' xs kF))=>(jS E E' xs).bind λys=>match fl,kF with
     | false,false=>some (ys,[],[some l])
     | true,true=>some (ys,[],[some l])
     | _,_=>none
   | _=>none
 | .row E _,.nl _=>some (([]:List (I E)),[],[none])
 | .row E true,.sl E' xs true=>(jS E E' xs).bind λys=>some (ys,[],[none])
 | .map T kd,.mp l=>match O l with
   | some (some (.map T' _ m))=>(pW (T:=T) (T':=T') (kd:=kd) m).bind λys=>some (ys,[],[some l])
   | _=>none
 | .pv T,.ptr l 0=>match O l with
   | some (some (.var T' ls true))=>bif Lm' T' T then (uR tb O (.dat T) (Da T ls)).bind λx=>some (x.1,x.2,[some l]) else none
   | _=>none
 | _,_=>none
def si (tb:aX I)(O:aN I):(ks:List K)->List (PV I)->Option (jR I ks×List Nat×List (Option Nat))
 | [],[]=>some ((),[],[])
 | [k],[p]=>pV tb O k p
 | k::k'::ks,p::ps=>(pV tb O k p).bind λx=>(si tb O (k'::ks) ps).bind λy=>some ((x.1,y.1),x.2.1++y.2.1,x.2.2++y.2.2)
 | _,_=>none
def zR (tb:aX I)(O:aN I):(v:V)->PV I->Option (mY I v×List Nat×List (Option Nat))
 | .k k,p=>pV tb O k p
 | .bW ks,.agg ls=>bif Ao ks then (BQ tb 300 ls).bind λls'=>si tb O ks ls' else none
 | .bW ks,.dat E x=>bif Ao ks then (BQ tb 300 [.dat E x]).bind λls'=>si tb O ks ls' else none
 | _,_=>none
def jC (tb:aX I)(O:aN I):(vs:List V)->List (PV I)->Option (fO I vs×List Nat×List (Option Nat))
 | [],[]=>some ((),[],[])
 | [v],[p]=>zR tb O v p
 | v::v'::vs,p::ps=>(zR tb O v p).bind λx=>(jC tb O (v'::vs) ps).bind λy=>some ((x.1,y.1),x.2.1++y.2.1,x.2.2++y.2.2)
 | _,_=>none
def oC (_:aX I):(k:Kd)->Ty I k->PV I
 | .int k,n=>.int k n
 | .bool,b=>.bool b
 | .str,s=>.str s
 | .sl E,xs=>.sl E xs false
 | .dat E,x=>.dat E x
 | .any,_=>.any
def yw (tb:aX I)(nb:Nat):(k:K)->lg I k->PV I
 | .d kd,x=>oC tb kd x
 | .row _ _,_=>.vw nb
 | .map _ _,_=>.mp nb
 | .pv _,_=>.ptr nb 0
def qx:(k:K)->lg I k->List (Ob I)
 | .d _,_=>[]
 | .row E fl,xs=>[.row E xs fl]
 | .map T kd,m=>[.map T kd m]
 | .pv T,x=>[.var T [.dat T x] true]
def tq:K->Nat
 | .d _=>0
 | .row _ _=>1
 | .map _ _=>1
 | .pv _=>1
def qo (tb:aX I):Nat->(ks:List K)->jR I ks->List (PV I)
 | _,[],_=>[]
 | nb,[k],x=>[yw tb nb k x]
 | nb,k::k'::ks,q=>yw tb nb k q.1::qo tb (nb+tq k) (k'::ks) q.2
def Et:(ks:List K)->jR I ks->List (Ob I)
 | [],_=>[]
 | [k],x=>qx k x
 | k::k'::ks,q=>qx k q.1++Et (k'::ks) q.2
def nP:List K->Nat
 | []=>0
 | [k]=>tq k
 | k::k'::ks=>tq k+nP (k'::ks)
def nM (tb:aX I)(nb:Nat):(v:V)->mY I v->PV I
 | .k k,x=>yw tb nb k x
 | .bW ks,q=>.agg (qo tb nb ks q)
def lX:(v:V)->mY I v->List (Ob I)
 | .k k,x=>qx k x
 | .bW ks,q=>Et ks q
def kC:V->Nat
 | .k k=>tq k
 | .bW ks=>nP ks
def eF (tb:aX I):Nat->(vs:List V)->fO I vs->List (PV I)
 | _,[],_=>[]
 | nb,[v],x=>[nM tb nb v x]
 | nb,v::v'::vs,q=>nM tb nb v q.1::eF tb (nb+kC v) (v'::vs) q.2
def fB:(vs:List V)->fO I vs->List (Ob I)
 | [],_=>[]
 | [v],x=>lX v x
 | v::v'::vs,q=>lX v q.1++fB (v'::vs) q.2
def Ew:List V->Nat
 | []=>0
 | [v]=>kC v
 | v::v'::vs=>kC v+Ew (v'::vs)
variable {P:Program}{tb:aX I}{X X':bZ}{c c':Cx}{σ τ:S}{O:aN I}
def iU (X:bZ)(c:Cx)(σ:S)(O:aN I)(LS:List Nat):Prop:=(∀ l E (xs:List (I E)) fl,O l=some (some (.row E xs fl))->(fl=true\/l∈LS)->gI X c σ l (.row E xs true)) /\
 (∀ l E (xs:List (I E)),O l=some (some (.ro E xs))->gI X c σ l (.ro E xs))/\(∀ l T kd m,O l=some (some (.map T kd m))->gI X c σ l (.map T kd m))/\∀ l T ls w,O l=some (some (.var T ls w))->gI X c σ l (.var T ls w)
theorem iU.sub {LS LS':List Nat}(h:iU X c σ O LS)(k:∀ l∈LS',l∈LS):iU X c σ O LS':=⟨λl E xs fl ho hl=>h.1 l E xs fl ho (hl.imp id (k l)),h.2⟩
theorem aN' {LS:List Nat}(hS:iU X c σ O LS){p q:PV I}{ls:List Nat}(h:IU O p=some (q,ls))(hl:∀ l∈ls,l∈LS){v:Value}(hv:RV X c σ p v):RV X c σ q v:=by
 unfold IU at h;split at h
 ·rename_i l;split at h
  ·rename_i E xs fl ho;cases h;obtain ⟨A,k,ow,h1,h2⟩:=hS.1 l E xs fl ho (by
    cases fl
    ·exact .inr (hl l (by simp))
    ·exact .inl rfl)
   simp only [RV] at hv ⊢;obtain ⟨p,h3,rfl⟩:=hv;rw [h1] at h3;cases h3;exact ⟨A,k,rfl,h2.sl,λe=>by cases e⟩
  ·rename_i E xs ho;cases h;obtain ⟨A,k,h1,h2⟩:=hS.2.1 l E xs ho;simp only [RV] at hv ⊢;obtain ⟨p,h3,rfl⟩:=hv;rw [h1] at h3;cases h3;exact ⟨A,k,rfl,h2,λe=>by cases e⟩
  ·cases h
 ·cases h;simp only [RV] at hv ⊢;obtain ⟨A,rfl⟩:=hv;exact ⟨A,0,rfl,Sl.AV _ _ _ (Mb' _),λ_=>rfl⟩
 ·cases h; exact hv
theorem Sq {LS:List Nat}(hS:iU X c σ O LS):∀ {ps qs:List (PV I)} {ls:List Nat},Ky O ps=some (qs,ls)->(∀ l∈ls,l∈LS)->∀ {cs:List Value},RG X c σ ps cs->RG X c σ qs cs
 | [],_,_,h,_,_,hv=>by cases h; exact hv
 | p::r,_,_,h,hl,cs,hv=>by
   obtain ⟨q,hq,h⟩:=bind_some h;obtain ⟨t,ht,h⟩:=bind_some h;cases h;simp only [RG] at hv ⊢;obtain ⟨a,r',rfl,h1,h2⟩:=hv;refine ⟨a,r',rfl,?_,Sq hS (ls:=t.2) ht (λl hm=>hl l (by simp [hm])) h2⟩
   rcases h1 with h1 | ⟨h0,v,e,h1⟩
   ·left;cases p<;>first | exact h1.elim | (cases hq; exact h1)
   ·right;have hd:=aN' hS (ls:=q.2) hq (λl hm=>hl l (by simp [hm])) h1
    refine ⟨?_,v,e,hd⟩;unfold IU at hq;split at hq
    ·split at hq
     ·cases hq; rfl
     ·cases hq; rfl
     ·cases hq
    ·cases hq; rfl
    ·cases hq; exact h0
theorem Oq (ht:bT P tb){E:TypeId}{ls:List (PV I)}{x:I E}{cs:List Value}(h:Ay tb E ls=some x)(hl:RG X c σ ls cs):Rp.cells σ x cs:=by
 unfold Ay at h;split at h
 ·rename_i E' y;have one:∀ {E0:TypeId} {z:I E0} {cs0:List Value},RG X c σ [PV.dat E0 z] cs0->Rp.cells σ z cs0:=λ{E0 z cs0} hl=>by
   simp only [RG] at hl;obtain ⟨a,r,rfl,h1,rfl⟩:=hl;rcases h1 with h1 | ⟨h0,_⟩
   ·have h2:Rp.cells σ _ a:=h1;simpa using h2
   ·cases h0
  rcases hb:Lm' E' E with _ | _
  ·rw [hb] at h;simp only [cond_false] at h;have h2:=ht.lf X c σ E' y cs (one hl);split at h
   ·rename_i E2 z hz;rw [hz] at h2;obtain ⟨e,rfl⟩:=Kt h;subst e;exact one h2
   ·exact ht.of _ _ _ _ _ _ _ h h2
  rw [hb] at h;simp only [cond_true] at h;obtain ⟨e,rfl⟩:=Kt h;subst e;exact one hl
 ·exact ht.of _ _ _ _ _ _ _ h hl
theorem Cm {T:TypeId}{ls:List (PV I)}{cs:List Value}(hl:RG X c σ ls cs):RV X c σ (Da T ls) (.agg cs.toArray):=by
 unfold Da;split
 ·rename_i E x;cases Lm' E T with
  | true =>
    simp only [RG] at hl;obtain ⟨a,r,rfl,h1,rfl⟩:=hl;rcases h1 with h1 | ⟨h0,_⟩
    ·simp only [cond_true,RV];exact ⟨a,by simp,h1⟩
    ·cases h0
  | false=>simp only [cond_false,RV]; exact ⟨cs,rfl,hl⟩
 ·simp only [RV]; exact ⟨cs,rfl,hl⟩
theorem IW (ht:bT P tb):∀ {f:Nat} {ls qs:List (PV I)} {cs:List Value},BQ tb f ls=some qs->RG X c σ ls cs->aB X c σ qs cs
 | 0,_,_,_,h,_=>by cases h
 | f+1,[],_,_,h,hl=>by cases h;simpa only [RG,aB] using hl
 | f+1,p::ps,qs,cs,h,hl=>by
   simp only [BQ] at h;simp only [RG] at hl;obtain ⟨a,r,rfl,h1,h2⟩:=hl;split at h
   ·rename_i E x;rcases h1 with h1 | ⟨h0,_⟩
    ·exact IW ht h (RG.app _ _ _ _ (ht.lf X c σ E x a h1) h2)
    ·cases h0
   ·rename_i hne;obtain ⟨r',hr',h⟩:=bind_some h;cases h;rcases h1 with h1 | ⟨h0,v,rfl,h1⟩
    ·exact (by cases p<;>first | exact h1.elim | exact absurd rfl (hne _ _))
    ·simp only [aB];exact ⟨v,r,rfl,h1,IW ht hr' h2⟩
theorem Vs {LS:List Nat}(hS:iU X c σ O LS){E:TypeId}{p:PV I}{x:List (I E)}{ls:List Nat}(h:Q9 O E p=some (x,ls))(hl:∀ l∈ls,l∈LS){v:Value}(hv:RV X c σ p v):∃ A k,v=.slice A x.length k/\Sl σ x A k:=by
 obtain ⟨q,hq,h⟩:=bind_some h;split at h
 ·rename_i E' xs f e;obtain ⟨ys,hys,h⟩:=bind_some h;cases h;obtain ⟨q1,q2⟩:=q;simp only at e;subst e;have:=aN' hS hq hl hv;simp only [RV] at this;obtain ⟨A,k,e1,e2,_⟩:=this;obtain ⟨e,rfl⟩:=lM hys;subst e;exact ⟨A,k,e1,e2⟩
 ·cases h
theorem yI (ht:bT P tb){LS:List Nat}(hS:iU X c σ O LS){k:Kd}{p:PV I}{x:Ty I k}{ls:List Nat}(h:uR tb O k p=some (x,ls))(hl:∀ l∈ls,l∈LS){v:Value}(hv:RV X c σ p v):DV σ k x v:=by
 unfold uR at h;split at h
 ·obtain ⟨e,h2⟩:=mX h;clear h;subst e;cases h2;simpa only [RV,DV] using hv
 ·cases h; simpa only [RV,DV] using hv
 ·cases h; simpa only [RV,DV] using hv
 ·exact Vs hS h hl hv
 ·obtain ⟨y,hy,h2⟩:=bind_some h;clear h;cases h2;obtain ⟨e,e2⟩:=Kt hy;subst e;subst e2;simp only [RV] at hv;exact hv
 ·obtain ⟨t,ht',h⟩:=bind_some h;obtain ⟨y,hy,h⟩:=bind_some h;cases h;simp only [RV] at hv;obtain ⟨cs,rfl,hcs⟩:=hv;exact ⟨cs,rfl,Oq ht hy (Sq hS (ls:=t.2) ht' hl hcs)⟩
 ·trivial
 ·cases h
def At (c:Cx):List (Option Nat)->List Pl->Prop
 | [],au=>au=[]
 | r::rs,au=>∃ p ps,au=p::ps/\(match r with | some l=>c l=some p | none=>p.w=none)/\At c rs ps
theorem At.app:∀ {r1 r2:List (Option Nat)} {p1 p2:List Pl},At c r1 p1->At c r2 p2->At c (r1++r2) (p1++p2)
 | [],_,_,_,h1,h2=>by cases h1; exact h2
 | _::_,_,_,_,⟨p,ps,e,h,h1⟩,h2=>by subst e; exact ⟨p,_,rfl,h,h1.app h2⟩
def Rows (X:bZ)(c:Cx)(σ:S)(O:aN I)(LS:List Nat):Prop:=∀ l E (xs:List (I E)) fl,O l=some (some (.row E xs fl))->l ∉ LS->gI X c σ l (.row E xs fl)
theorem JS (ht:bT P tb){LS:List Nat}(hS:iU X c σ O LS)(hO:Rows X c σ O LS){k:K}{p:PV I}{x:lg I k}{ls:List Nat}{rows:List (Option Nat)}(h:pV tb O k p=some (x,ls,rows))(hl:∀ l∈ls,l∈LS)
 (hr:∀ l,some l∈rows->l ∉ LS) {v:Value} (hv:RV X c σ p v):∃ au,TK σ k x v au/\At c rows au:=by
 unfold pV at h;split at h
 ·obtain ⟨y,hy,h⟩:=bind_some h;cases h;exact ⟨[],⟨yI ht hS hy hl hv,rfl⟩,rfl⟩
 ·rename_i E fl l;split at h
  ·rename_i E' xs kF ho;obtain ⟨ys,hys,h⟩:=bind_some h;obtain ⟨e,rfl⟩:=lM hys;subst e;simp only [RV] at hv;obtain ⟨pl,h3,rfl⟩:=hv;have key:∀ f:Bool,gI X c σ l (.row E' xs f)->∃ au,TK σ (.row E' f) xs (.slice pl.A pl.m pl.k) au/\At c [some l] au:=by rintro f ⟨A,k,ow,h1,h2⟩;rw [h1] at h3;cases h3;exact ⟨[⟨A,k,xs.length,ow⟩],⟨A,k,ow,rfl,rfl,h2⟩,⟨_,[],rfl,h1,rfl⟩⟩
   split at h
   ·cases h;exact key false (hO l E' xs _ ho (hr l (by simp)))
   ·cases h;exact key true (hO l E' xs _ ho (hr l (by simp)))
   ·cases h
  ·cases h
 ·cases h;simp only [RV] at hv;obtain ⟨A,rfl⟩:=hv;exact ⟨[⟨A,0,0,none⟩],⟨A,0,none,rfl,rfl,.inl ⟨rfl,rfl⟩⟩,⟨_,[],rfl,rfl,rfl⟩⟩
 ·obtain ⟨ys,hys,h2⟩:=bind_some h;clear h;cases h2;obtain ⟨e,e2⟩:=lM hys;subst e;subst e2;simp only [RV] at hv;obtain ⟨A,k,rfl,hs,hf⟩:=hv;have hk:=hf (by simp)
  subst hk;exact ⟨[⟨A,_,_,none⟩],⟨A,_,none,rfl,rfl,.inr ⟨rfl,rfl,hs⟩⟩,⟨_,[],rfl,rfl,rfl⟩⟩
 ·rename_i T kd l;split at h
  ·rename_i T' kd' m ho;obtain ⟨ys,hys,h⟩:=bind_some h;cases h;obtain ⟨e,e2,rfl⟩:=wP hys;subst e;subst e2;obtain ⟨b,h1,h2⟩:=hS.2.2.1 l T' kd' m ho;simp only [RV] at hv;obtain ⟨b',w,h3,rfl⟩:=hv;rw [h1] at h3;cases h3;exact ⟨[⟨some ⟨b,0,none⟩,0,0,some b⟩],⟨b,rfl,rfl,h2⟩,⟨_,[],rfl,h1,rfl⟩⟩
  ·cases h
 ·rename_i T l;split at h
  ·rename_i T' ls' ho;obtain ⟨hT,h⟩:=bA h;have e:=Li' hT;subst e;obtain ⟨y,hy,h⟩:=bind_some h;cases h;obtain ⟨b,cs,h1,h2,h3,h4,_⟩:=hS.2.2.2 l T' ls' true ho;simp only [RV] at hv;obtain ⟨b',w,h5,rfl⟩:=hv;rw [h1] at h5;cases h5;obtain ⟨ds,e1,e2⟩:=yI ht hS hy hl (Cm h2);have e3:cs=ds:=by have:=Value.agg.inj e1;simpa using this
   subst e3;exact ⟨[⟨some ⟨b,0,none⟩,0,0,some b⟩],⟨b,cs,rfl,rfl,e2,h3,h4 rfl⟩,⟨_,[],rfl,h1,rfl⟩⟩
  ·cases h
 ·cases h
theorem U3 (ht:bT P tb){LS:List Nat}(hS:iU X c σ O LS)(hO:Rows X c σ O LS):∀ {ks:List K} {ps:List (PV I)} {x:jR I ks} {ls:List Nat} {rows:List (Option Nat)},si tb O ks ps=some (x,ls,rows)->(∀ l∈ls,l∈LS) ->
 (∀ l,some l∈rows->l ∉ LS)->∀ {vs:List Value},aB X c σ ps vs->∃ au,yG σ ks x vs au/\At c rows au
 | [],[],_,_,_,h,_,_,vs,hv=>by cases h;simp only [aB] at hv;exact ⟨[],⟨hv,rfl⟩,rfl⟩
 | [k],[p],x,ls,rows,h,hl,hr,vs,hv=>by simp only [aB] at hv;obtain ⟨v,r,rfl,h1,rfl⟩:=hv;obtain ⟨au,h2,h3⟩:=JS ht hS hO h hl hr h1;exact ⟨au,⟨v,rfl,h2⟩,h3⟩
 | k::k'::ks,p::ps,x,ls,rows,h,hl,hr,vs,hv=>by
   obtain ⟨y,hy,h⟩:=bind_some h;obtain ⟨z,hz,h⟩:=bind_some h;cases h;simp only [aB] at hv;obtain ⟨v,r,rfl,h1,h2⟩:=hv;obtain ⟨p1,a1,a2⟩:=JS ht hS hO (ls:=y.2.1) (rows:=y.2.2) hy (λl hm=>hl l (by simp [hm])) (λl hm=>hr l (by simp [hm])) h1
   obtain ⟨p2,b1,b2⟩:=U3 ht hS hO (ls:=z.2.1) (rows:=z.2.2) hz (λl hm=>hl l (by simp [hm])) (λl hm=>hr l (by simp [hm])) h2
   exact ⟨p1++p2,⟨v,r,p1,p2,rfl,rfl,a1,b1⟩,a2.app b2⟩
 | [],_::_,_,_,_,h,_,_,_,_=>by simp [si] at h
 | [_],[],_,_,_,h,_,_,_,_=>by simp [si] at h
 | [_],_::_::_,_,_,_,h,_,_,_,_=>by simp [si] at h
 | _::_::_,[],_,_,_,h,_,_,_,_=>by simp [si] at h
theorem Jy (ht:bT P tb){LS:List Nat}(hS:iU X c σ O LS)(hO:Rows X c σ O LS){k:V}{p:PV I}{x:mY I k}{ls:List Nat}{rows:List (Option Nat)}(h:zR tb O k p=some (x,ls,rows))(hl:∀ l∈ls,l∈LS)
 (hr:∀ l,some l∈rows->l ∉ LS) {v:Value} (hv:RV X c σ p v):∃ au,TV σ k x v au/\At c rows au:=by
 unfold zR at h;split at h
 ·exact JS ht hS hO h hl hr hv
 ·obtain ⟨hnd,h1⟩:=bA h;obtain ⟨ls',hls,h2⟩:=bind_some h1;simp only [RV] at hv;obtain ⟨cs,rfl,hcs⟩:=hv;obtain ⟨au,h1,h2⟩:=U3 ht hS hO h2 hl hr (IW ht hls hcs);exact ⟨au,⟨hnd,cs,rfl,h1⟩,h2⟩
 ·obtain ⟨hnd,h1⟩:=bA h;obtain ⟨ls',hls,h2⟩:=bind_some h1;simp only [RV] at hv;obtain ⟨cs,rfl,hcs⟩:=hv;obtain ⟨au,h1,h2⟩:=U3 ht hS hO h2 hl hr (IW ht hls (RG.one hcs));exact ⟨au,⟨hnd,cs,rfl,h1⟩,h2⟩
 ·cases h
theorem F4 (ht:bT P tb){LS:List Nat}(hS:iU X c σ O LS)(hO:Rows X c σ O LS):∀ {ks:List V} {ps:List (PV I)} {x:fO I ks} {ls:List Nat} {rows:List (Option Nat)},jC tb O ks ps=some (x,ls,rows)->(∀ l∈ls,l∈LS) ->
 (∀ l,some l∈rows->l ∉ LS)->∀ {vs:List Value},aB X c σ ps vs->∃ au,TT σ ks x vs au/\At c rows au
 | [],[],_,_,_,h,_,_,vs,hv=>by cases h;simp only [aB] at hv;exact ⟨[],⟨hv,rfl⟩,rfl⟩
 | [k],[p],x,ls,rows,h,hl,hr,vs,hv=>by simp only [aB] at hv;obtain ⟨v,r,rfl,h1,rfl⟩:=hv;obtain ⟨au,h2,h3⟩:=Jy ht hS hO h hl hr h1;exact ⟨au,⟨v,rfl,h2⟩,h3⟩
 | k::k'::ks,p::ps,x,ls,rows,h,hl,hr,vs,hv=>by
   obtain ⟨y,hy,h⟩:=bind_some h;obtain ⟨z,hz,h⟩:=bind_some h;cases h;simp only [aB] at hv;obtain ⟨v,r,rfl,h1,h2⟩:=hv;obtain ⟨p1,a1,a2⟩:=Jy ht hS hO (ls:=y.2.1) (rows:=y.2.2) hy (λl hm=>hl l (by simp [hm])) (λl hm=>hr l (by simp [hm])) h1
   obtain ⟨p2,b1,b2⟩:=F4 ht hS hO (ls:=z.2.1) (rows:=z.2.2) hz (λl hm=>hl l (by simp [hm])) (λl hm=>hr l (by simp [hm])) h2
   exact ⟨p1++p2,⟨v,r,p1,p2,rfl,rfl,a1,b1⟩,a2.app b2⟩
 | [],_::_,_,_,_,h,_,_,_,_=>by simp [jC] at h
 | [_],[],_,_,_,h,_,_,_,_=>by simp [jC] at h
 | [_],_::_::_,_,_,_,h,_,_,_,_=>by simp [jC] at h
 | _::_::_,[],_,_,_,h,_,_,_,_=>by simp [jC] at h
def nO (c:Cx)(nb:Nat)(au:List Pl):Prop:=∀ i pl,au[i]?=some pl->c (nb+i)=some pl
theorem nO.left {nb:Nat}{p1 p2:List Pl}(h:nO c nb (p1++p2)):nO c nb p1:=λi pl hi=>h i pl (by rw [LD' (La'.1 hi).1]; exact hi)
theorem nO.right {nb:Nat}{p1 p2:List Pl}(h:nO c nb (p1++p2)):nO c (nb+p1.length) p2:=λi pl hi=>by
 rw [MC'];refine h _ pl ?_;rw [Ls' (by omega)]
 simpa using hi
theorem CZ (_:bT P tb):∀ {k:Kd} {x:Ty I k} {v:Value},DV σ k x v->RV X c σ (oC tb k x) v
 | .int _,_,_,h=>by simpa only [oC,RV,DV] using h
 | .bool,_,_,h=>by simpa only [oC,RV,DV] using h
 | .str,_,_,h=>by simpa only [oC,RV,DV] using h
 | .sl _,_,_,⟨A,k,e,h⟩=>by simp only [oC,RV];exact ⟨A,k,e,h,λe=>by cases e⟩
 | .dat _,_,_,⟨cs,e,h⟩=>by simp only [oC,RV];exact ⟨cs,e,h⟩
 | .any,_,_,_=>by simp only [oC,RV]
theorem Vv (ht:bT P tb):∀ {k:K} {x:lg I k} {v:Value} {au:List Pl} {nb:Nat},TK σ k x v au->nO c nb au->RV X c σ (yw tb nb k x) v/\au.length=tq k
 | .d _,_,_,_,_,⟨h,e⟩,_=>⟨CZ ht h,by rw [e]; rfl⟩
 | .row _ _,_,_,_,_,⟨A,k,ow,e,e2,_⟩,hn=>by subst e2;have:=hn 0 _ rfl;simp only [yw,RV];exact ⟨⟨_,this,e⟩,rfl⟩
 | .map _ _,_,_,_,_,⟨b,e,e2,_⟩,hn=>by subst e2;have:=hn 0 _ rfl;simp only [yw,RV];exact ⟨⟨b,_,this,e⟩,rfl⟩
 | .pv _,_,_,_,_,⟨b,cs,e,e2,_⟩,hn=>by subst e2;have:=hn 0 _ rfl;simp only [yw,RV];exact ⟨⟨b,_,this,e⟩,rfl⟩
theorem ea' (ht:bT P tb):∀ {ks:List K} {x:jR I ks} {vs:List Value} {au:List Pl} {nb:Nat},yG σ ks x vs au->nO c nb au->aB X c σ (qo tb nb ks x) vs/\au.length=nP ks
 | [],_,_,_,_,⟨h,e⟩,_=>⟨by simpa only [qo,aB] using h,by rw [e]; rfl⟩
 | [_],_,_,_,_,⟨v,e,h⟩,hn=>by obtain ⟨h1,h2⟩:=Vv (X:=X) ht h hn;simp only [qo,aB];exact ⟨⟨v,[],e,h1,rfl⟩,h2⟩
 | k::k'::ks,q,_,_,nb,⟨v,r,p1,p2,e1,e2,h1,h2⟩,hn=>by
   subst e2;obtain ⟨a1,a2⟩:=Vv (X:=X) ht h1 hn.left;obtain ⟨b1,b2⟩:=ea' (ks:=k'::ks) (x:=q.2) (nb:=nb+tq k) ht h2 (by rw [<- a2]; exact hn.right)
   simp only [qo,aB];exact ⟨⟨v,r,e1,a1,b1⟩,by rw [Lf',a2,b2]; rfl⟩
omit [∀ E,Rp (I E)] in
theorem UE:∀ {ks:List K} (nb:Nat) (q:jR I ks),Ao ks=true->(qo tb nb ks q).all (λp=>!(qD p))=true
 | [],_,_,_=>rfl
 | [k],nb,q,h=>by
   cases k with
   | d k=>cases k<;>first | rfl | cases h
   | row E fl=>rfl
   | map T kd=>rfl
   | pv T=>rfl
 | k::k'::ks,nb,q,h=>by
   have ih:=λh'=>UE (ks:=k'::ks) (nb+tq k) q.2 h';simp only [qo,LE',Lc'];cases k with
   | d k=>cases k<;>first | exact ⟨rfl,ih h⟩ | cases h
   | row E fl=>exact ⟨rfl,ih h⟩
   | map T kd=>exact ⟨rfl,ih h⟩
   | pv T=>exact ⟨rfl,ih h⟩
theorem G6 (ht:bT P tb):∀ {k:V} {x:mY I k} {v:Value} {au:List Pl} {nb:Nat},TV σ k x v au->nO c nb au->RV X c σ (nM tb nb k x) v/\au.length=kC k
 | .k _,_,_,_,_,h,hn=>Vv ht h hn
 | .bW _,_,_,_,_,⟨h0,cs,e,h⟩,hn=>by obtain ⟨h1,h2⟩:=ea' (X:=X) ht h hn;simp only [nM,RV];exact ⟨⟨cs,e,aB.g h1 (UE _ _ h0)⟩,h2⟩
theorem GI (ht:bT P tb):∀ {ks:List V} {x:fO I ks} {vs:List Value} {au:List Pl} {nb:Nat},TT σ ks x vs au->nO c nb au->aB X c σ (eF tb nb ks x) vs/\au.length=Ew ks
 | [],_,_,_,_,⟨h,e⟩,_=>⟨by simpa only [eF,aB] using h,by rw [e]; rfl⟩
 | [_],_,_,_,_,⟨v,e,h⟩,hn=>by obtain ⟨h1,h2⟩:=G6 (X:=X) ht h hn;simp only [eF,aB];exact ⟨⟨v,[],e,h1,rfl⟩,h2⟩
 | k::k'::ks,q,_,_,nb,⟨v,r,p1,p2,e1,e2,h1,h2⟩,hn=>by
   subst e2;obtain ⟨a1,a2⟩:=G6 (X:=X) ht h1 hn.left;obtain ⟨b1,b2⟩:=GI (ks:=k'::ks) (x:=q.2) (nb:=nb+kC k) ht h2 (by rw [<- a2]; exact hn.right)
   simp only [eF,aB];exact ⟨⟨v,r,e1,a1,b1⟩,by rw [Lf',a2,b2]; rfl⟩
def mZ (σ:S)(os:List (Ob I))(au:List Pl):Prop:=os.length=au.length/\∀ (i:Nat) (o:Ob I) (pl:Pl),os[i]?=some o->au[i]?=some pl->rC (some o)=true/\∀ (X:bZ) (c:Cx) (l:Nat),c l=some pl->gI X c σ l o
theorem mZ.nil (σ:S):mZ σ ([]:List (Ob I)) []:=⟨rfl,λi o pl h=>by simp at h⟩
theorem mZ.app {o1 o2:List (Ob I)}{p1 p2:List Pl}(h1:mZ σ o1 p1)(h2:mZ σ o2 p2):mZ σ (o1++o2) (p1++p2):=by
 refine ⟨by simp [h1.1,h2.1],λi o pl hi hp=>?_⟩
 by_cases hlt:i<o1.length
 ·rw [LD' hlt] at hi;rw [LD' (by rw [<- h1.1]; exact hlt)] at hp
  exact h1.2 i o pl hi hp
 ·rw [Ls' (by omega)] at hi
  rw [Ls' (by rw [<- h1.1]; omega),<- h1.1] at hp
  exact h2.2 _ o pl hi hp
theorem Vp:∀ {k:K} {x:lg I k} {v:Value} {au:List Pl},TK σ k x v au->mZ σ (qx k x) au
 | .d _,_,_,_,⟨_,e⟩=>by subst e; exact mZ.nil σ
 | .row E fl,xs,_,_,⟨A,k,ow,e,e2,h⟩=>by
   subst e2;refine ⟨rfl,λi o pl hi hp=>?_⟩;cases i with
   | zero =>simp [qx] at hi hp;subst hi;subst hp;exact ⟨rfl,λX c l hc=>⟨A,k,ow,hc,h⟩⟩
   | succ i=>simp [qx] at hi
 | .map T kd,m,_,_,⟨b,e,e2,h⟩=>by
   subst e2;refine ⟨rfl,λi o pl hi hp=>?_⟩;cases i with
   | zero =>simp [qx] at hi hp;subst hi;subst hp;exact ⟨rfl,λX c l hc=>⟨b,hc,h⟩⟩
   | succ i=>simp [qx] at hi
 | .pv T,x,_,_,⟨b,cs,e,e2,h1,h2,h3⟩=>by
   subst e2;refine ⟨rfl,λi o pl hi hp=>?_⟩;cases i with
   | zero =>simp [qx] at hi hp;subst hi;subst hp;exact ⟨rfl,λX c l hc=>⟨b,cs,hc,RG.one h1,h2,λ_=>h3,λe=>by cases e⟩⟩
   | succ i=>simp [qx] at hi
theorem gL':∀ {ks:List K} {x:jR I ks} {vs:List Value} {au:List Pl},yG σ ks x vs au->mZ σ (Et ks x) au
 | [],_,_,_,⟨_,e⟩=>by subst e; exact mZ.nil σ
 | [_],_,_,_,⟨_,_,h⟩=>Vp h
 | _::k'::ks,q,_,_,⟨v,r,p1,p2,e1,e2,h1,h2⟩=>by subst e2;exact (Vp h1).app (gL' (ks:=k'::ks) (x:=q.2) h2)
theorem Q5:∀ {k:V} {x:mY I k} {v:Value} {au:List Pl},TV σ k x v au->mZ σ (lX k x) au
 | .k _,_,_,_,h=>Vp h
 | .bW _,_,_,_,⟨_,_,_,h⟩=>gL' h
theorem yh:∀ {ks:List V} {x:fO I ks} {vs:List Value} {au:List Pl},TT σ ks x vs au->mZ σ (fB ks x) au
 | [],_,_,_,⟨_,e⟩=>by subst e; exact mZ.nil σ
 | [_],_,_,_,⟨_,_,h⟩=>Q5 h
 | _::k'::ks,q,_,_,⟨v,r,p1,p2,e1,e2,h1,h2⟩=>by subst e2;exact (Q5 h1).app (yh (ks:=k'::ks) (x:=q.2) h2)
def fo (O:aN I):Nat->List (Ob I)->aN I
 | _,[]=>O
 | nb,o::os=>fo (cB O nb (some o)) (nb+1) os
def addN (s:St I)(nb:Nat)(os:List (Ob I)):St I:=⟨s.n,s.F,fo s.O nb os,s.nx⟩
def jH (O:aN I):Nat->List (Ob I)->Bool
 | _,[]=>true
 | nb,_::os=>(O nb).isNone&&jH O (nb+1) os
omit [∀ E,Rp (I E)] in
theorem fq' {O:aN I}{l:Nat}{o:Option (Ob I)}:∀ {os:List (Ob I)} {nb:Nat},l<nb->jH O nb os=true->jH (cB O l o) nb os=true
 | [],_,_,_=>rfl
 | _::os,nb,hl,h=>by simp only [jH,Lc'] at h ⊢;exact ⟨by rw [fq (by omega)]; exact h.1,fq' (by omega) h.2⟩
def fI (c:Cx):Nat->List Pl->Cx
 | _,[]=>c
 | nb,p::ps=>fI (fP c nb p) (nb+1) ps
theorem cD':∀ {ps:List Pl} {c:Cx} {nb l:Nat},l<nb->fI c nb ps l=c l
 | [],_,_,_,_=>rfl
 | p::ps,c,nb,l,h=>by
   simp only [fI];rw [cD' (by omega)]
   simp [fP,Nat.ne_of_lt h]
theorem pq:∀ {ps:List Pl} {c:Cx} {nb:Nat},nO (fI c nb ps) nb ps
 | [],_,_,_,_,h=>by simp at h
 | p::ps,c,nb,0,pl,h=>by simp at h;subst h;simp only [fI,ME'];rw [cD' (by omega),iw]
 | p::ps,c,nb,i+1,pl,h=>by
   simp only [fI];rw [show nb+(i+1)=nb+1+i from by omega]
   exact pq i pl (by simpa using h)
theorem mZ.not {os:List (Ob I)}{au:List Pl}(h:mZ σ os au):∀ o∈os,rC (some o)=true:=λo ho=>by
 obtain ⟨i,hi,e⟩:=LW' ho;have hp:i<au.length:=by rw [<- h.1]; exact hi
 exact (h.2 i o au[i] (by rw [Lb' hi,e]) (Lb' hp)).1
omit [∀ E,Rp (I E)] in
theorem vY:∀ {os:List (Ob I)} {O:aN I} {nb:Nat},(∀ o∈os,rC (some o)=true)->∀ l E E' u xs q,fo O nb os l=some (some (.aP E E' u xs q))->O l=some (some (.aP E E' u xs q))
 | [],_,_,_,_,_,_,_,_,_,h=>h
 | o::os,O,nb,hn,l,E,E',u,xs,q,h=>by
   have h1:=vY (os:=os) (λo ho=>hn o (by simp [ho])) l E E' u xs q h
   rcases dM h1 with ⟨_,e⟩ | ⟨_,h2⟩
   ·exact absurd e.symm (Dw (hn o (by simp)))
   ·exact h2
theorem eD.add {n:Nat}{F:Fr}{s:St I}{c:Cx}{nb g:Nat}{o:Ob I}{p:Pl}(h:Rel X c σ s n F)(hn:rC (some o)=true)(hg:eD c σ s g)(hnb:s.O nb=none):eD (fP c nb p) σ (bG s nb (some o)) g:=by
 intro l i hb;obtain ⟨E',v,⟨E,u,xs,q,g',kk,m,w,k1,k2,k3⟩,k4⟩:=hb;rcases dM k1 with ⟨_,e'⟩ | ⟨_,h2⟩
 ·exact absurd e'.symm (Dw hn)
 ·refine hg l i ⟨E',v,⟨E,u,xs,q,g',kk,m,w,h2,?_,k3⟩,k4⟩;obtain ⟨p2,e2⟩:=(h.bB l _ h2).place;have:=(F5 (p:=p) (h.jh nb hnb)) _ _ e2;rw [k2] at this;cases this; exact e2
def qp (X:bZ)(σ:S)(os:List (Ob I))(au:List Pl):Prop:=os.length=au.length/\∀ (i:Nat) (o:Ob I) (pl:Pl),os[i]?=some o->au[i]?=some pl->rC (some o)=true/\∀ (c:Cx) (l:Nat),c l=some pl->gI X c σ l o
theorem mZ.x {os:List (Ob I)}{au:List Pl}(h:mZ σ os au):qp X σ os au:=⟨h.1,λi o pl a b=>⟨(h.2 i o pl a b).1,(h.2 i o pl a b).2 X⟩⟩
theorem qp.not {os:List (Ob I)}{au:List Pl}(h:qp X σ os au):∀ o∈os,rC (some o)=true:=λo ho=>by
 obtain ⟨i,hi,e⟩:=LW' ho;have hp:i<au.length:=by rw [<- h.1]; exact hi
 exact (h.2 i o au[i] (by rw [Lb' hi,e]) (Lb' hp)).1
theorem qp.nil (X:bZ)(σ:S):qp X σ ([]:List (Ob I)) []:=⟨rfl,λi o pl h=>by simp at h⟩
theorem qp.app {o1 o2:List (Ob I)}{p1 p2:List Pl}(h1:qp X σ o1 p1)(h2:qp X σ o2 p2):qp X σ (o1++o2) (p1++p2):=by
 refine ⟨by simp [h1.1,h2.1],λi o pl hi hp=>?_⟩
 by_cases hlt:i<o1.length
 ·rw [LD' hlt] at hi;rw [LD' (by rw [<- h1.1]; exact hlt)] at hp
  exact h1.2 i o pl hi hp
 ·rw [Ls' (by omega)] at hi
  rw [Ls' (by rw [<- h1.1]; omega),<- h1.1] at hp
  exact h2.2 _ o pl hi hp
def LK (M:Nat->Prop)(σ:S):(k:K)->lg I k->Value->List Pl->Prop
 | .d k,x,v,au=>DV σ k x v/\au=[]
 | .map _ kd,m,v,au=>∃ b,v=.map (some b)/\au=[⟨some ⟨b,0,none⟩,0,0,none⟩]/\qA σ kd m b/\¬ M b
 | _,_,_,_=>False
def xV (M:Nat->Prop)(σ:S):(ks:List K)->jR I ks->List Value->List Pl->Prop
 | [],_,vs,au=>vs=[]/\au=[]
 | [k],x,vs,au=>∃ v,vs=[v]/\LK M σ k x v au
 | k::k'::ks,q,vs,au=>∃ v r p1 p2,vs=v::r/\au=p1++p2/\LK M σ k q.1 v p1/\xV M σ (k'::ks) q.2 r p2
def XA:Ob I->Ob I
 | .map T kd m=>.gU T kd m
 | o=>o
def Al (ks:List K)(x:jR I ks):List (Ob I):=(Et ks x).map XA
theorem LK.ows {M:Nat->Prop}:∀ {k:K} {x:lg I k} {v:Value} {au:List Pl},LK M σ k x v au->ows au=[]
 | .d _,_,_,_,⟨_,e⟩=>by subst e; rfl
 | .map _ _,_,_,_,⟨b,_,e,_⟩=>by subst e; rfl
 | .row _ _,_,_,_,h=>h.elim
 | .pv _,_,_,_,h=>h.elim
theorem xV.ows {M:Nat->Prop}:∀ {ks:List K} {x:jR I ks} {vs:List Value} {au:List Pl},xV M σ ks x vs au->ows au=[]
 | [],_,_,_,⟨_,e⟩=>by subst e; rfl
 | [_],_,_,_,⟨_,_,h⟩=>LK.ows h
 | _::k'::ks,q,_,_,⟨v,r,p1,p2,e1,e2,h1,h2⟩=>by subst e2;rw [jL,LK.ows h1,xV.ows (ks:=k'::ks) (x:=q.2) h2];rfl
theorem kr' (ht:bT P tb){M:Nat->Prop}:∀ {k:K} {x:lg I k} {v:Value} {au:List Pl} {nb:Nat},LK M σ k x v au->nO c nb au->RV X c σ (yw tb nb k x) v/\au.length=tq k
 | .d _,_,_,_,_,⟨h,e⟩,_=>⟨CZ ht h,by rw [e]; rfl⟩
 | .map _ _,_,_,_,_,⟨b,e,e2,_⟩,hn=>by subst e2;have:=hn 0 _ rfl;simp only [yw,RV];exact ⟨⟨b,_,this,e⟩,rfl⟩
 | .row _ _,_,_,_,_,h,_=>h.elim
 | .pv _,_,_,_,_,h,_=>h.elim
theorem Um (ht:bT P tb){M:Nat->Prop}:∀ {ks:List K} {x:jR I ks} {vs:List Value} {au:List Pl} {nb:Nat},xV M σ ks x vs au->nO c nb au->aB X c σ (qo tb nb ks x) vs/\au.length=nP ks
 | [],_,_,_,_,⟨h,e⟩,_=>⟨by simpa only [qo,aB] using h,by rw [e]; rfl⟩
 | [_],_,_,_,_,⟨v,e,h⟩,hn=>by obtain ⟨h1,h2⟩:=kr' (X:=X) ht h hn;simp only [qo,aB];exact ⟨⟨v,[],e,h1,rfl⟩,h2⟩
 | k::k'::ks,q,_,_,nb,⟨v,r,p1,p2,e1,e2,h1,h2⟩,hn=>by
   subst e2;obtain ⟨a1,a2⟩:=kr' (X:=X) ht h1 hn.left;obtain ⟨b1,b2⟩:=Um (ks:=k'::ks) (x:=q.2) (nb:=nb+tq k) ht h2 (by rw [<- a2]; exact hn.right)
   simp only [qo,aB];exact ⟨⟨v,r,e1,a1,b1⟩,by rw [Lf',a2,b2]; rfl⟩
theorem dq' {M:Nat->Prop}(hM:∀ b,X.M b->M b):∀ {k:K} {x:lg I k} {v:Value} {au:List Pl},LK M σ k x v au->qp X σ ((qx k x).map XA) au
 | .d _,_,_,_,⟨_,e⟩=>by subst e; exact qp.nil X σ
 | .map T kd,m,_,_,⟨b,e,e2,h,hn⟩=>by
   subst e2;refine ⟨rfl,λi o pl hi hp=>?_⟩;cases i with
   | zero =>simp [qx,XA] at hi hp;subst hi;subst hp;exact ⟨rfl,λc l hc=>⟨b,hc,h,λhb=>hn (hM b hb)⟩⟩
   | succ i=>simp [qx] at hi
 | .row _ _,_,_,_,h=>h.elim
 | .pv _,_,_,_,h=>h.elim
theorem cB' {M:Nat->Prop}(hM:∀ b,X.M b->M b):∀ {ks:List K} {x:jR I ks} {vs:List Value} {au:List Pl},xV M σ ks x vs au->qp X σ (Al ks x) au
 | [],_,_,_,⟨_,e⟩=>by subst e; exact qp.nil X σ
 | [_],_,_,_,⟨_,_,h⟩=>dq' hM h
 | _::k'::ks,q,_,_,⟨v,r,p1,p2,e1,e2,h1,h2⟩=>by subst e2;have:=(dq' (X:=X) hM h1).app (cB' (ks:=k'::ks) (x:=q.2) hM h2);unfold Al at this ⊢;rw [<- List.map_append] at this;exact this
theorem Rel.YX {n:Nat}{F:Fr}:∀ {os:List (Ob I)} {au:List Pl} {c:Cx} {s:St I} {nb:Nat},Rel X c σ s n F->jH s.O nb os=true->qp X σ os au->(ows au).Nodup ->
 (∀ g∈ows au,X.M g/\eD c σ s g/\∀ l' p',bH s l'->c l'=some p'->p'.w≠some g)->Cx.le c (fI c nb au)/\Rel X (fI c nb au) σ (Qx.addN s nb os) n F
 | [],[],c,s,nb,h,_,_,_,_=>⟨Cx.le_refl c,h⟩
 | [],_::_,_,_,_,_,_,ho,_,_=>by have:=ho.1; simp at this
 | _::_,[],_,_,_,_,_,ho,_,_=>by have:=ho.1; simp at this
 | o::os,p::au,c,s,nb,h,hf,ho,hd,hg=>by
   simp only [jH,Lc'] at hf;have hnb:s.O nb=none:=by simpa using hf.1
   have gq:gI X (fP c nb p) σ nb o:=(ho.2 0 o p rfl rfl).2 _ _ (iw _ _ _);obtain ⟨h1,h2⟩:=h.add (o:=o) (p:=p) hnb (λg hw=>hg g (by simp [ows,hw])) gq (ho.2 0 o p rfl rfl).1
   have hd':(ows au).Nodup:=by
    simp only [ows,Me'] at hd ⊢;cases hw:p.w with
    | none=>rw [hw] at hd; exact hd
    | some g=>rw [hw] at hd; exact (Nl'.1 hd).2
   obtain ⟨h3,h4⟩:=Rel.YX (s:=bG s nb (some o)) (nb:=nb+1) (au:=au) (os:=os) h2 (fq' (by omega) hf.2) ⟨by simpa using ho.1,λi o' pl hi hp=>ho.2 (i+1) o' pl (by simpa using hi) (by simpa using hp)⟩ hd' (λg hm=>⟨(hg g (by simp only [ows,Me'] at hm ⊢; cases p.w<;>simp [hm])).1,eD.add h (ho.2 0 o p rfl rfl).1 (hg g (by simp only [ows,Me'] at hm ⊢; cases p.w<;>simp [hm])).2.1 hnb,λl' p' hl' hc' hw=>by
    by_cases e:l'=nb
    ·subst e;rw [iw] at hc';cases hc';simp only [ows,Me',hw] at hd;exact (Nl'.1 hd).1 hm
    ·have hl2:bH s l':=by
      obtain ⟨o',h'⟩:=hl';rcases dM h' with ⟨e',_⟩ | ⟨_,h⟩
      ·exact absurd e' e
      ·exact ⟨o',h⟩
     simp only [fP,if_neg e] at hc';exact (hg g (by simp only [ows,Me'] at hm ⊢; cases p.w<;>simp [hm])).2.2 l' p' hl2 hc' hw⟩)
   exact ⟨Cx.le_trans h1 h3,h4⟩
theorem Rel.addN {n:Nat}{F:Fr}{os:List (Ob I)}{au:List Pl}{c:Cx}{s:St I}{nb:Nat}(h:Rel X c σ s n F)(hf:jH s.O nb os=true)(ho:mZ σ os au)(hd:(ows au).Nodup)
 (hg:∀ g∈ows au,X.M g/\eD c σ s g/\∀ l' p',bH s l'->c l'=some p'->p'.w≠some g):Cx.le c (fI c nb au)/\Rel X (fI c nb au) σ (Qx.addN s nb os) n F:=Rel.YX h hf ho.x hd hg
end
def gQ {α:Type}:List (ByteArray×α)->ByteArray->Option α
 | [],_=>none
 | x::m,s=>bif s==x.1 then some x.2 else gQ m s
def jG {α:Type}:List (ByteArray×α)->ByteArray->α->List (ByteArray×α)
 | [],s,v=>[(s,v)]
 | x::m,s,v=>bif s==x.1 then (s,v)::m else x::jG m s v
section
variable {I:TypeId->Type} [∀ E,Rp (I E)] {P:Program}{σ:S}
theorem qm.find {kd:Kd}{s:ByteArray}:∀ {es:List MapEntry} {m:List (ByteArray×Ty I kd)} (i:Nat),qm σ kd es m ->
 (gQ m s=none/\Instr.findNow .string (.string s) es i=some none/\∀ (x:Ty I kd) (v:Value) (k:Nat),DV σ kd x v->qm σ kd (es++[⟨.string s,v,k⟩]) (jG m s x)) \/
 ∃ y j e,gQ m s=some y/\Instr.findNow .string (.string s) es i=some (some (i+j,e.val))/\es[j]?=some e/\e.key=.string s/\DV σ kd y e.val/\∀ (x:Ty I kd) (v:Value) (k:Nat),DV σ kd x v->qm σ kd (es.set j ⟨.string s,v,k⟩) (jG m s x)
 | [],[],i,_=>.inl ⟨rfl,rfl,λx v k hv=>⟨rfl,hv,trivial⟩⟩
 | [],_::_,_,h=>h.elim
 | _::_,[],_,h=>h.elim
 | e::es,x::m,i,⟨h1,h2,h3⟩=>by
   have hs:Instr.sameNow .string (.string s) e.key=some (s==x.1):=by rw [h1]; rfl
   cases hb:s==x.1 with
   | true =>
     have e1:s=x.1:=(MapKept.bytes_beq s x.1).1 hb;refine .inr ⟨x.2,0,e,by simp only [gQ,hb,cond_true],by rw [hb] at hs; simp only [Instr.findNow,hs]; rfl,rfl,by rw [h1,e1],h2,λy v k hv=>?_⟩
     simp only [jG,hb,cond_true,List.set_cons_zero];exact ⟨rfl,hv,h3⟩
   | false =>
     rcases qm.find (i+1) h3 with ⟨k1,k2,k3⟩ | ⟨y,j,e',k1,k2,k3,k4,k5,k6⟩
     ·refine .inl ⟨by simp only [gQ,hb,cond_false]; exact k1,by rw [hb] at hs; simp only [Instr.findNow,hs]; exact k2,λy v k hv=>?_⟩
      simp only [jG,hb,cond_false,Mg'];exact ⟨h1,h2,k3 y v k hv⟩
     ·refine .inr ⟨y,j+1,e',by simp only [gQ,hb,cond_false]; exact k1,by rw [hb] at hs; simp only [Instr.findNow,hs,k2]; rw [show i+1+j=i+(j+1) by omega],k3,k4,k5,λx' v k hv=>?_⟩
      simp only [jG,hb,cond_false,Od'];exact ⟨h1,h2,k6 x' v k hv⟩
variable {ops:Array Oper}{Q:Exit->Act->World->Prop}{n:Nat}{F:Fr}{rest:List Oper}{d:Option Nat}{ty:TypeId}{pos:String}{bV:Array Edge}
theorem oM' {T:TypeId}(h:∀ τ,pE σ τ->τ.w.heap[σ.N]?=some (.map #[] 0)->wpList P ops Q rest (fr n (dF F d (.map (some σ.N)))) τ.w) :
 wpList P ops Q (⟨d,.makeMap T none,ty,pos,bV,none⟩::rest) (fr n F) σ.w:=by
 refine gH rfl (.map (some σ.N)) (σ.w.alloc (.map #[] 0)) ?_ (h ⟨σ.w.alloc (.map #[] 0),λb=>cond (Lm' b σ.N) (0,0) (σ.L b)⟩ (R7 σ _ (0,0)) (heap_alloc_new _ _));show Sem.run P (do pure (Next.value (<- Instr.makeMap T none))) σ.w=_
 rw [Sem.run_bind];rfl
theorem fS' {T:TypeId}{x y:Operand}{ok:Bool}{w:World}(a b v:Value)(hx:ev F x=a)(hy:ev F y=b)(hkx:bR n x=true)(hky:bR n y=true)
 (hr:bg P w (Instr.lookup T a b ok) v) (h:wpList P ops Q rest (fr n (dF F d v)) w) :
 wpList P ops Q (⟨d,.lookup T x y ok,ty,pos,bV,none⟩::rest) (fr n F) w :=
 gH rfl v w (by show Sem.run P (do pure (Next.value (<- Instr.lookup T ((fr n F).eval x) ((fr n F).eval y) ok))) w=_; rw [dx hkx,dx hky,hx,hy,Sem.run_bind,hr]; rfl) h
theorem mT' {T:TypeId}{x y z:Operand}{w w':World}(a b v:Value)(hx:ev F x=a)(hy:ev F y=b)(hz:ev F z=v)(hkx:bR n x=true)(hky:bR n y=true)(hkz:bR n z=true)
 (hr:(Instr.mapUpdate T a b v).run P w=.ok () w') (h:wpList P ops Q rest (fr n (dF F d undef)) w') :
 wpList P ops Q (⟨d,.mapUpdate T x y z,ty,pos,bV,none⟩::rest) (fr n F) w :=
 KW rfl w' (by show Sem.run P (do Instr.mapUpdate T ((fr n F).eval x) ((fr n F).eval y) ((fr n F).eval z); pure Next.skip) w=_; rw [dx hkx,dx hky,dx hkz,hx,hy,hz,Sem.run_bind,hr]; rfl) h
theorem zO' {T:TypeId}{x y z:Operand}{w w':World}(a b v:Value)(hx:ev F x=a)(hy:ev F y=b)(hz:ev F z=v)(hkx:bR n x=true)(hky:bR n y=true)(hkz:bR n z=true)
 (hr:(Instr.mapUpdate T a b v).run P w=.ok () w') (h:wpList P ops Q rest (fr n (dF F d undef)) w') :
 wpList P ops Q (⟨d,.insert T x y z,ty,pos,bV,none⟩::rest) (fr n F) w :=
 KW rfl w' (by show Sem.run P (do Instr.mapUpdate T ((fr n F).eval x) ((fr n F).eval y) ((fr n F).eval z); pure Next.skip) w=_; rw [dx hkx,dx hky,dx hkz,hx,hy,hz,Sem.run_bind,hr]; rfl) h
theorem kG' {T:TypeId}{kd:Kd}{m:List (ByteArray×Ty I kd)}{b:Nat}{s:ByteArray}{ok:Bool}{z:Ty I kd}(hT:OH I P T kd)(hz:Oh kd=some z)(h:qA σ kd m b) :
 ∃ v,bg P σ.w (Instr.lookup T (.map (some b)) (.string s) ok) (bif ok then .tuple #[v,.bool (gQ m s).isSome] else v)/\DV σ kd ((gQ m s).getD z) v:=by
 obtain ⟨K,E,z0,sz,jo,h1,h2,⟨ie,h3,h4,_,_⟩,h5⟩:=hT;obtain ⟨es,clock,h6,h7⟩:=h;have hc:∀ e,(Instr.checkKey e 10000 K (.string s)).run P σ.w=.ok () σ.w:=λe=>MapKept.run_checkKey (k:=.string s) h2 (by simp [MapKept.IsKey]) e 9999
 rcases qm.find (s:=s) 0 h7 with ⟨k1,k2,_⟩ | ⟨y,j,e,k1,k2,k3,k4,k5,_⟩
 ·refine ⟨z0,?_,by rw [k1]; exact h5 z hz σ⟩
  unfold bg;simp only [Instr.lookup,Sem.run_bind,run_underlying h1,Result.andThen_ok,MapKept.run_getObj_map h6,Sem.run_pure,hc,MapKept.run_findKey h2 k2,zeroValue,typeInfo,run_program,h3,h4,k1];cases ok<;>rfl
 ·refine ⟨e.val,?_,by rw [k1]; exact k5⟩
  unfold bg;simp only [Instr.lookup,Sem.run_bind,run_underlying h1,Result.andThen_ok,MapKept.run_getObj_map h6,Sem.run_pure,hc,MapKept.run_findKey h2 k2,k1];cases ok<;>rfl
theorem bA' {T:TypeId}{kd:Kd}{m:List (ByteArray×Ty I kd)}{b:Nat}{s:ByteArray}{x:Ty I kd}{v:Value}(hT:OH I P T kd)(h:qA σ kd m b)(hv:DV σ kd x v) :
 ∃ τ,(Instr.mapUpdate T (.map (some b)) (.string s) v).run P σ.w=.ok () τ.w/\Stp (λg=>g=b) σ τ/\qA τ kd (jG m s x) b:=by
 obtain ⟨K,E,z0,sz,jo,h1,h2,_,_⟩:=hT;have hblt:=h.lt;obtain ⟨es,clock,h6,h7⟩:=h;have hc:(Instr.checkKey false 10000 K (.string s)).run P σ.w=.ok () σ.w:=MapKept.run_checkKey (k:=.string s) h2 (by simp [MapKept.IsKey]) false 9999
 have hstp:∀ o:Obj,(∃ es' c',o=.map es' c')->Stp (λg=>g=b) σ ⟨{ σ.w with heap:=σ.w.heap.setIfInBounds b o },σ.L⟩:=λo ⟨es',c',ho⟩=>by
  obtain ⟨s1,s2⟩:=MapKept.heap_set (w:=σ.w) (o':=o) h6;refine ⟨⟨by simp [S.N],λ_ _=>Lg' _,λb' o' v' hlt hcell=>?_,Lg' _,λb' o' _ hf=>?_⟩,rfl,rfl,rfl,λb' _ hn=>⟨s2 b' hn,rfl⟩⟩
  rotate_left
  ·by_cases e:b'=b
   ·subst e;subst ho;show World.frozen? ({ σ.w with heap:=σ.w.heap.setIfInBounds b' _ }:World) _=false
    unfold World.frozen?;rw [s1]
   ·exact (Ck (s2 b' e) o').trans hf
  by_cases e:b'=b
  ·subst e;simp [World.cell?,h6] at hcell
  ·unfold World.cell? at hcell ⊢;rw [show ({ σ.w with heap:=σ.w.heap.setIfInBounds b o }:World).heap[b']?=σ.w.heap[b']? from s2 b' e]
   exact hcell
 have hbb:(s==s)=true:=(MapKept.bytes_beq s s).2 rfl;rcases qm.find (s:=s) 0 h7 with ⟨k1,k2,k3⟩ | ⟨y,j,e,k1,k2,k3,k4,k5,k6⟩
 ·refine ⟨⟨{ σ.w with heap:=σ.w.heap.setIfInBounds b (.map (es.push ⟨.string s,v,clock⟩) (clock+1)) },σ.L⟩,?_,hstp _ ⟨_,_,rfl⟩,es.push ⟨.string s,v,clock⟩,clock+1,(MapKept.heap_set h6).1,?_⟩
  ·simp only [Instr.mapUpdate,Sem.run_bind,run_underlying h1,Result.andThen_ok,MapKept.run_getObj_map h6,hc,MapKept.run_findKey h2 k2,MapKept.run_setObj_map _ h6]
  ·rw [Array.toList_push];exact (k3 x v clock hv).mono (hstp (.map (es.push ⟨.string s,v,clock⟩) (clock+1)) ⟨_,_,rfl⟩).eP
 ·have hes:es[j]?=some e:=by rw [<- Lz']; exact k3
  refine ⟨⟨{ σ.w with heap:=σ.w.heap.setIfInBounds b (.map (es.modify j λe=>{ e with key:=.string s,val:=v }) clock) },σ.L⟩,?_,hstp _ ⟨_,_,rfl⟩,_,clock,(MapKept.heap_set h6).1,?_⟩
  ·rw [LM'] at k2;have hst:(Instr.keyThatStays (((es[j]?).map (·.key)).getD (.string s)) (.string s)).run P σ.w=.ok (.string s) σ.w:=by
    rw [hes];simp only [Mv',Mo',k4,Instr.keyThatStays];rw [if_pos (by unfold Instr.sameBits; exact hbb)]
    rfl
   simp only [Instr.mapUpdate,Sem.run_bind,run_underlying h1,Result.andThen_ok,MapKept.run_getObj_map h6,hc,MapKept.run_findKey h2 k2,hst,MapKept.run_setObj_map _ h6]
  ·have hl:(es.modify j λe=>{ e with key:=.string s,val:=v }).toList=es.toList.set j ⟨.string s,v,e.born⟩:=by
    rw [Array.toList_modify];apply Np';intro i;rw [List.getElem?_modify,List.getElem?_set];by_cases hi:j=i
    ·subst hi;have hlt:=(La'.1 k3).1;rw [if_pos rfl,if_pos hlt,k3];simp
    ·rw [if_neg hi];simp [hi]
   rw [hl];exact (k6 x v e.born hv).mono (hstp (.map (es.modify j λe=>{ e with key:=.string s,val:=v }) clock) ⟨_,_,rfl⟩).eP
end
section
variable {I:TypeId->Type} [∀ E,Rp (I E)]
structure Ef (I:TypeId->Type) where
 p:PV I
 upd:List (Nat×Option (Ob I))
 new:List (Ob I)
def dD (O:aN I):List (Nat×Option (Ob I))->aN I
 | []=>O
 | x::r=>dD (cB O x.1 x.2) r
def jQ (s:St I)(nb:Nat)(e:Ef I):St I:=⟨s.n,s.F,fo (dD s.O e.upd) nb e.new,s.nx⟩
abbrev fQ (I:TypeId->Type):=(ρ:Type)->FuncId->aN I->Nat->List (PV I)->(Ef I->Option ρ)->Option ρ
def cA' (P:Program)(f:FuncId)(O:aN I)(nb:Nat)(ps:List (PV I))(e:Ef I):Prop :=
 ∀ (X:bZ) (c:Cx) (σ:S) (s:St I) (n:Nat) (F:Fr) (vs:List Value),X.P=P->(∀ l o,O l=some (some o)->s.O l=some (some o))->Rel X c σ s n F->aB X c σ ps vs->jH (dD s.O e.upd) nb e.new=true ->
  kX P f vs σ (Stp X.M σ) λv τ=>∃ c',Cx.le c c'/\Rel X c' τ (jQ s nb e) n F/\RV X c' τ e.p v
structure lY (P:Program)(aH:fQ I):Prop where
 par:∀ (ρ:Type) (f:FuncId) (O:aN I) (nb:Nat) (ps:List (PV I)) (k:Ef I->Option ρ),aH ρ f O nb ps k=(aH (Ef I) f O nb ps some).bind k
 ok:∀ (f:FuncId) (O:aN I) (nb:Nat) (ps:List (PV I)) (e:Ef I),aH (Ef I) f O nb ps some=some e->cA' P f O nb ps e
def AA:PV I->Option (List (PV I))
 | .agg ls=>some ls
 | .dat E x=>some [.dat E x]
 | _=>none
theorem H9 {X:bZ}{c:Cx}{σ:S}{p:PV I}{ls:List (PV I)}{v:Value}(h:AA p=some ls)(hv:RV X c σ p v):∃ cs,v=.agg cs.toArray/\RG X c σ ls cs:=by
 unfold AA at h;split at h
 ·cases h; simpa only [RV] using hv
 ·cases h;simp only [RV] at hv;obtain ⟨cs,e,hc⟩:=hv;exact ⟨cs,e,RG.one hc⟩
 ·cases h
def wr (k:IntKind)(n:Int):Int:=k.wrap n
def BZ (k:IntKind)(a b:Int):Option Int:=if b=0 then none else some (k.wrap (a.tdiv b))
def Sd (k:IntKind)(a b:Int):Option Int:=if b<0 then none else some (k.wrap (a*2^(min b.toNat k.bits)))
def Lb (k:IntKind)(a b:Int):Option Int:=if b<0 then none else some (a.fdiv (2^(min b.toNat k.bits)))
def UW (k:IntKind)(a b:Int):Int:=k.wrap ((BitVec.ofInt k.bits a &&& BitVec.ofInt k.bits b).toNat:Int)
def Vy (k:IntKind)(a b:Int):Int:=k.wrap ((BitVec.ofInt k.bits a ||| BitVec.ofInt k.bits b).toNat:Int)
def IZ (k:IntKind)(a b:Int):Int:=k.wrap ((BitVec.ofInt k.bits a ^^^ BitVec.ofInt k.bits b).toNat:Int)
section
variable {P:Program}{w:World}{x y:Operand}{T:TypeId}{k k':IntKind}{a b c:Int}
theorem rf' (h:BZ k a b=some c):bg P w (do eqGuard .quo T x y (.int k a) (.int k b); binOp .quo T (.int k a) (.int k b)) (.int k c):=by
 unfold BZ at h;split at h
 ·cases h
 ·rename_i hb;simp only [LI'.injEq] at h;subst h;simp [bg,eqGuard_quo,binOp_quo,Op.intDiv,hb]
theorem tJ' (h:BR a b=some c):bg P w (do eqGuard .rem T x y (.int k a) (.int k b); binOp .rem T (.int k a) (.int k b)) (.int k c):=by
 unfold BR at h;split at h
 ·cases h
 ·rename_i hb;simp only [LI'.injEq] at h;subst h;simp [bg,eqGuard_rem,binOp_rem,Op.intDiv,hb]
theorem sw' (h:Sd k a b=some c):bg P w (do eqGuard .shl T x y (.int k a) (.int k' b); binOp .shl T (.int k a) (.int k' b)) (.int k c):=by
 unfold Sd at h;split at h
 ·cases h
 ·rename_i hb;simp only [LI'.injEq] at h;subst h;simp [bg,eqGuard_shl,binOp_shl,Op.shift,hb]
theorem nN' (h:Lb k a b=some c):bg P w (do eqGuard .shr T x y (.int k a) (.int k' b); binOp .shr T (.int k a) (.int k' b)) (.int k c):=by
 unfold Lb at h;split at h
 ·cases h
 ·rename_i hb;simp only [LI'.injEq] at h;subst h;simp [bg,eqGuard_shr,binOp_shr,Op.shift,hb]
def QE (a b:ByteArray):Option ByteArray:=if a.size+b.size<=9223372036854775807 then some (a++b) else none
theorem oP' {s t r:ByteArray}(h:QE s t=some r):bg P w (do eqGuard .add T x y (.string s) (.string t); binOp .add T (.string s) (.string t)) (.string r):=by
 unfold QE at h;split at h
 ·rename_i hl;cases h;have hn:¬ (((s.size+t.size:Nat):Int)>IntKind.i64.max):=by show ¬ (((s.size+t.size:Nat):Int)>9223372036854775807);omega
  simp only [bg,eqGuard_add,binOp,Op.stringOp,Sem.run_bind,Sem.run_pure,Result.andThen_ok,if_neg hn]
 ·cases h
def VQ (k:IntKind)(a:Int):Int:=IZ k (if k.signed=true then -1 else k.max) a
theorem AQ':bg P w (Op.unary .xor (.int k a)) (.int k (VQ k a)):=by simp [bg,Op.unary,Op.intBits,VQ,IZ]
theorem tM':bg P w (do eqGuard .and T x y (.int k a) (.int k b); binOp .and T (.int k a) (.int k b)) (.int k (UW k a b)):=by simp [bg,eqGuard_and,binOp_and,Op.intBits,UW]
theorem rT':bg P w (do eqGuard .or T x y (.int k a) (.int k b); binOp .or T (.int k a) (.int k b)) (.int k (Vy k a b)):=by simp [bg,eqGuard_or,binOp_or,Op.intBits,Vy]
theorem rF':bg P w (do eqGuard .xor T x y (.int k a) (.int k b); binOp .xor T (.int k a) (.int k b)) (.int k (IZ k a b)):=by simp [bg,eqGuard_xor,binOp_xor,Op.intBits,IZ]
end
def uQ (tb:aX I)(T:TypeId):BinOp->PV I->PV I->Option (PV I)
 | .add,.int k a,.int k' b=>if k=k' then some (.int k (wr k (a+b))) else none
 | .sub,.int k a,.int k' b=>if k=k' then some (.int k (wr k (a-b))) else none
 | .mul,.int k a,.int k' b=>if k=k' then some (.int k (wr k (a*b))) else none
 | .quo,.int k a,.int k' b=>if k=k' then (BZ k a b).bind λx=>some (.int k x) else none
 | .rem,.int k a,.int k' b=>if k=k' then (BR a b).bind λx=>some (.int k x) else none
 | .shl,.int k a,.int _ b=>(Sd k a b).bind λx=>some (.int k x)
 | .shr,.int k a,.int _ b=>(Lb k a b).bind λx=>some (.int k x)
 | .and,.int k a,.int k' b=>if k=k' then some (.int k (UW k a b)) else none
 | .or,.int k a,.int k' b=>if k=k' then some (.int k (Vy k a b)) else none
 | .xor,.int k a,.int k' b=>if k=k' then some (.int k (IZ k a b)) else none
 | .lss,.int k a,.int k' b=>if k=k' then some (.bool (decide (a<b))) else none
 | .leq,.int k a,.int k' b=>if k=k' then some (.bool (decide (a<=b))) else none
 | .gtr,.int k a,.int k' b=>if k=k' then some (.bool (decide (b<a))) else none
 | .geq,.int k a,.int k' b=>if k=k' then some (.bool (decide (b<=a))) else none
 | .eql,.int k a,.int k' b=>if k=k' then some (.bool (a==b)) else none
 | .neq,.int k a,.int k' b=>if k=k' then some (.bool (a != b)) else none
 | .add,.str a,.str b=>(QE a b).bind λs=>some (.str s)
 | .eql,.str a,.str b=>some (.bool (bU a b))
 | .neq,.str a,.str b=>some (.bool (!bU a b))
 | .lss,.str a,.str b=>some (.bool (jI a b))
 | .gtr,.str a,.str b=>some (.bool (!(jI a b||bU a b)))
 | .geq,.str a,.str b=>some (.bool (!jI a b))
 | .leq,.str a,.str b=>some (.bool (jI a b||bU a b))
 | .eql,.bool a,.bool b=>bif tb.isBool T then some (.bool (a==b)) else none
 | .neq,.bool a,.bool b=>bif tb.isBool T then some (.bool (a != b)) else none
 | .eql,p,q=>(AA p).bind λa=>(AA q).bind λb=>(tb.AX T a b).bind λr=>some (.bool r)
 | .neq,p,q=>(AA p).bind λa=>(AA q).bind λb=>(tb.AX T a b).bind λr=>some (.bool (!r))
 | _,_,_=>none
def Wh {ρ:Type}(tb:aX I)(T:TypeId)(b:BinOp)(p q:PV I)(k:PV I->Option ρ):Option ρ:=match b,p,q with
 | .quo,.int i a,.int j c=>if i=j then (BZ i a c).bind λx=>k (.int i x) else none
 | .rem,.int i a,.int j c=>if i=j then (BR a c).bind λx=>k (.int i x) else none
 | .shl,.int i a,.int _ c=>(Sd i a c).bind λx=>k (.int i x)
 | .shr,.int i a,.int _ c=>(Lb i a c).bind λx=>k (.int i x)
 | .add,.str a,.str c=>(QE a c).bind λs=>k (.str s)
 | b,p,q=>(uQ tb T b p q).bind k
omit [∀ E,Rp (I E)] in
theorem dm' {ρ:Type}{tb:aX I}{T:TypeId}{b:BinOp}{p q:PV I}{k:PV I->Option ρ}:Wh tb T b p q k=(uQ tb T b p q).bind k:=by
 unfold Wh;split
 ·rename_i i a j c;by_cases e:i=j
  ·simp only [uQ,if_pos e,LX',KY']
  ·simp only [uQ,if_neg e,Option.bind_none]
 ·rename_i i a j c;by_cases e:i=j
  ·simp only [uQ,if_pos e,LX',KY']
  ·simp only [uQ,if_neg e,Option.bind_none]
 ·simp only [uQ,LX',KY']
 ·simp only [uQ,LX',KY']
 ·simp only [uQ,LX',KY']
 ·rfl
variable {P:Program}{tb:aX I}{X:bZ}{c:Cx}{σ:S}
theorem ta' (ht:bT P tb){T:TypeId}{b:BinOp}{p q z:PV I}{u v:Value}{x y:Operand}{w:World}(h:uQ tb T b p q=some z)(hp:RV X c σ p u)(hq:RV X c σ q v) :
 ∃ r,RV X c σ z r/\bg P w (do eqGuard b T x y u v; binOp b T u v) r:=by
 unfold uQ at h;split at h<;>(try simp only [RV] at hp)<;>(try simp only [RV] at hq)<;>(try subst hp)<;>(try subst hq)
 ·obtain ⟨e,h'⟩:=mX h; subst e; cases h'; exact ⟨_,by simp only [RV,wr],XJ⟩
 ·obtain ⟨e,h'⟩:=mX h; subst e; cases h'; exact ⟨_,by simp only [RV,wr],wS'⟩
 ·obtain ⟨e,h'⟩:=mX h; subst e; cases h'; exact ⟨_,by simp only [RV,wr],Ag'⟩
 ·obtain ⟨e,h'⟩:=mX h; subst e; obtain ⟨m,hm,h'⟩:=bind_some h'; cases h'; exact ⟨_,by simp only [RV],rf' hm⟩
 ·obtain ⟨e,h'⟩:=mX h; subst e; obtain ⟨m,hm,h'⟩:=bind_some h'; cases h'; exact ⟨_,by simp only [RV],tJ' hm⟩
 ·obtain ⟨m,hm,h⟩:=bind_some h; cases h; exact ⟨_,by simp only [RV],sw' hm⟩
 ·obtain ⟨m,hm,h⟩:=bind_some h; cases h; exact ⟨_,by simp only [RV],nN' hm⟩
 ·obtain ⟨e,h'⟩:=mX h; subst e; cases h'; exact ⟨_,by simp only [RV],tM'⟩
 ·obtain ⟨e,h'⟩:=mX h; subst e; cases h'; exact ⟨_,by simp only [RV],rT'⟩
 ·obtain ⟨e,h'⟩:=mX h; subst e; cases h'; exact ⟨_,by simp only [RV],rF'⟩
 ·obtain ⟨e,h'⟩:=mX h; subst e; cases h'; exact ⟨_,by simp only [RV],WO⟩
 ·obtain ⟨e,h'⟩:=mX h; subst e; cases h'; exact ⟨_,by simp only [RV],BG'⟩
 ·obtain ⟨e,h'⟩:=mX h; subst e; cases h'; exact ⟨_,by simp only [RV],vF'⟩
 ·obtain ⟨e,h'⟩:=mX h; subst e; cases h'; exact ⟨_,by simp only [RV],vl'⟩
 ·obtain ⟨e,h'⟩:=mX h; subst e; cases h'; exact ⟨_,by simp only [RV],qI'⟩
 ·obtain ⟨e,h'⟩:=mX h; subst e; cases h'; exact ⟨_,by simp only [RV],rt'⟩
 ·obtain ⟨m,hm,h⟩:=bind_some h; cases h; exact ⟨_,by simp only [RV],oP' hm⟩
 ·cases h; exact ⟨_,by simp only [RV],qL'⟩
 ·cases h; exact ⟨_,by simp only [RV],nV'⟩
 ·cases h; exact ⟨_,by simp only [RV],BO'⟩
 ·cases h; exact ⟨_,by simp only [RV],Do'⟩
 ·cases h; exact ⟨_,by simp only [RV],sU'⟩
 ·cases h; exact ⟨_,by simp only [RV],rH'⟩
 ·obtain ⟨hb,h⟩:=bA h; cases h; exact ⟨_,by simp only [RV],qx' (ht.isBool _ hb)⟩
 ·obtain ⟨hb,h⟩:=bA h; cases h; exact ⟨_,by simp only [RV],xE' (ht.isBool _ hb)⟩
 ·obtain ⟨a,ha,h⟩:=bind_some h;obtain ⟨b,hb,h⟩:=bind_some h;obtain ⟨r,hr,h⟩:=bind_some h;cases h;obtain ⟨cs,e1,h1⟩:=H9 ha hp;obtain ⟨ds,e2,h2⟩:=H9 hb hq;subst e1; subst e2;obtain ⟨hm,j,hj,he⟩:=ht.AX X c σ _ _ _ _ cs ds hr h1 h2;exact ⟨_,by simp only [RV],yQ' hm he hj⟩
 ·obtain ⟨a,ha,h⟩:=bind_some h;obtain ⟨b,hb,h⟩:=bind_some h;obtain ⟨r,hr,h⟩:=bind_some h;cases h;obtain ⟨cs,e1,h1⟩:=H9 ha hp;obtain ⟨ds,e2,h2⟩:=H9 hb hq;subst e1; subst e2;obtain ⟨hm,j,hj,he⟩:=ht.AX X c σ _ _ _ _ cs ds hr h1 h2;exact ⟨_,by simp only [RV],rX' hm he hj⟩
 ·cases h
def tV (tb:aX I):Nat->Nat->List (PV I)->Option (List (PV I)×List (PV I))
 | 0,_,_=>none
 | f+1,o,ls=>bif Lm' o 0 then some ([],ls) else match ls with
   | []=>none
   | p::ps=>bif Mq' (Jk p) o then (tV tb f (o-Jk p) ps).bind λq=>some (p::q.1,q.2) else match p with
     | .dat E x=>tV tb f o (tb.lf E x++ps)
     | _=>none
theorem xU (ht:bT P tb):∀ {f o:Nat} {ls a b:List (PV I)} {cs:List Value},tV tb f o ls=some (a,b)->RG X c σ ls cs->∃ c1 c2,cs=c1++c2/\c1.length=o/\RG X c σ a c1/\RG X c σ b c2
 | 0,_,_,_,_,_,h,_=>by cases h
 | f+1,o,ls,a,b,cs,h,hl=>by
   simp only [tV] at h;cases ho:Lm' o 0 with
   | true =>rw [ho] at h;cases h;exact ⟨[],cs,rfl,(Li' ho).symm,by simp only [RG],hl⟩
   | false =>
     rw [ho] at h;simp only [cond_false] at h;split at h
     ·cases h
     ·rename_i p ps;simp only [RG] at hl;obtain ⟨a1,r,rfl,h1,h2⟩:=hl;cases hz:Mq' (Jk p) o with
      | true =>
        rw [hz] at h;simp only [cond_true] at h;obtain ⟨q,hq,h⟩:=bind_some h;cases h;obtain ⟨c1,c2,rfl,k1,k2,k3⟩:=xU ht (a:=q.1) (b:=q.2) hq h2;have:=LG' hz;refine ⟨a1++c1,c2,by simp,by rw [Lf',cS' h1,k1]; omega,?_,k3⟩
        simp only [RG];exact ⟨a1,c1,rfl,h1,k2⟩
      | false =>
        rw [hz] at h;simp only [cond_false] at h;split at h
        ·rename_i E x;rcases h1 with h1 | ⟨h0,_⟩
         ·exact xU ht h (RG.app _ _ _ _ (ht.lf X c σ E x a1 h1) h2)
         ·cases h0
        ·cases h
def E8 (tb:aX I):Nat->List (PV I)->Option (PV I)
 | 0,_=>none
 | f+1,ls=>match ls with
   | []=>none
   | p::ps=>match p with
     | .dat E x=>E8 tb f (tb.lf E x++ps)
     | p=>some p
theorem Xu (ht:bT P tb):∀ {f:Nat} {ls:List (PV I)} {p:PV I} {cs:List Value},E8 tb f ls=some p->RG X c σ ls cs->∃ v,cs[0]?=some v/\RV X c σ p v
 | 0,_,_,_,h,_=>by cases h
 | f+1,[],_,_,h,_=>by cases h
 | f+1,q::ps,p,cs,h,hl=>by
   simp only [RG] at hl;obtain ⟨a,r,rfl,h1,h2⟩:=hl;simp only [E8] at h;split at h
   ·rename_i E x;rcases h1 with h1 | ⟨h0,_⟩
    ·exact Xu ht h (RG.app _ _ _ _ (ht.lf X c σ E x a h1) h2)
    ·cases h0
   ·rename_i hne;cases h;rcases h1 with h1 | ⟨h0,v,rfl,h1⟩
    ·exact (by cases q<;>first | exact h1.elim | exact absurd rfl (hne _ _))
    ·exact ⟨v,rfl,h1⟩
def qE (tb:aX I)(T:TypeId)(ls:List (PV I))(o:Nat):Option (PV I) :=
 (tV tb 300 o ls).bind λq=>match tb.sz T with
 | some k=>(tV tb 300 k q.2).bind λr=>some (Da T r.1)
 | none=>bif tb.one T then E8 tb 300 q.2 else none
theorem RN (ht:bT P tb){T:TypeId}{ls:List (PV I)}{o:Nat}{z:PV I}{cs:List Value}(h:qE tb T ls o=some z)(hl:RG X c σ ls cs) :
 (∃ k,Ga P T k/\o+k<=cs.length/\RV X c σ z (.agg ((cs.drop o).take k).toArray))\/(iJ P T/\∃ v,cs[o]?=some v/\RV X c σ z v):=by
 obtain ⟨q,hq,h⟩:=bind_some h;obtain ⟨c1,c2,rfl,k1,k2,k3⟩:=xU ht (a:=q.1) (b:=q.2) hq hl;split at h
 ·rename_i k hk;obtain ⟨r,hr,h⟩:=bind_some h;cases h;obtain ⟨d1,d2,rfl,m1,m2,m3⟩:=xU ht (a:=r.1) (b:=r.2) hr k3;left;refine ⟨k,ht.sz T k hk,by simp only [Lf']; omega,?_⟩
  have:((c1++(d1++d2)).drop o).take k=d1:=by rw [<- k1,List.drop_left,<- m1,MJ']
  rw [this];exact Cm m2
 ·obtain ⟨hb,h⟩:=bA h;obtain ⟨v,hv,hz⟩:=Xu ht h k3;right;refine ⟨ht.one T hb,v,?_,hz⟩;rw [<- k1,Ls' (Lg' _),Nat.sub_self,hv]
theorem Fu (ht:bT P tb){T:TypeId}{ls:List (PV I)}{o:Nat}{z:PV I}{cs:List Value}{w:World}{b p:Nat}(h:qE tb T ls o=some z)(hl:RG X c σ ls cs)(hr:w.rangeAt b p cs) :
 ∃ r,RV X c σ z r/\bg P w (loadVar T ⟨b,p+o,none⟩) r:=by
 rcases RN ht h hl with ⟨k,h1,h2,h3⟩ | ⟨h1,v,h2,h3⟩
 ·have hl2:((cs.drop o).take k).length=k:=by rw [LC',LK']; omega
  refine ⟨_,h3,aY' (by rw [hl2]; exact h1) ?_⟩
  intro j v hv;have hj:j<k:=by have:=(La'.1 hv).1; omega
  rw [Lw' hj,Mh'] at hv;rw [MC'];exact hr (o+j) v hv
 ·exact ⟨v,h3,vo h1 (hr o v h2)⟩
theorem vB' {P:Program}{t:TypeId}{cells:List Value}{o k:Nat}(ht:Ga P t k)(w:World):(part t cells.toArray o).run P w=.ok (.agg ((cells.drop o).take k).toArray) w:=by
 obtain ⟨d,h1,h2,h3⟩:=ht;have hagg:(isAgg t).run P w=.ok true w:=by unfold isAgg;rw [Sem.run_bind,run_underlying h1 w];cases d<;>simp_all [TypeDesc.isRow]
 unfold part;simp only [Sem.run_bind,hagg,Result.andThen_ok,if_true,Sx.run_sizeOf h3 w,Sem.run_pure];congr 2;apply Array.ext';simp [List.take_drop]
theorem ge' (ht:bT P tb){T:TypeId}{ls:List (PV I)}{o:Nat}{z:PV I}{cs:List Value}{w:World}(h:qE tb T ls o=some z)(hl:RG X c σ ls cs) :
 ∃ r,RV X c σ z r/\(part T cs.toArray o).run P w=.ok r w:=by
 rcases RN ht h hl with ⟨k,h1,_,h3⟩ | ⟨h1,v,h2,h3⟩
 ·exact ⟨_,h3,vB' h1 w⟩
 ·exact ⟨v,h3,yK h1 h2 w⟩
def ofC:Value->Option (PV I)
 | .int k n=>some (.int k n)
 | .bool b=>some (.bool b)
 | .string s=>some (.str s)
 | _=>none
def dN (n:Nat)(G:Nat->Option (PV I)):Operand->Option (PV I)
 | .tmp t=>bif LF' t n then G t else none
 | .const v=>ofC v
 | .func f=>some (.qM f [])
 | .global _=>none
def rY (tb:aX I)(n:Nat)(G:Nat->Option (PV I))(T:Option TypeId)(x:Operand):Option (PV I) :=
 match x with
 | .const (.slice none 0 0)=>Option.bind T λT=>(tb.el T).bind λE=>some (.nl E)
 | x=>dN n G x
abbrev tu (X:bZ)(c:Cx)(σ:S)(G:Nat->Option (PV I))(F:Fr):Prop:=∀ t p,G t=some p->RV X c σ p (F t)
variable {G:Nat->Option (PV I)}{n:Nat}{F:Fr}
theorem EK (h:tu X c σ G F){x:Operand}{p:PV I}(hx:dN n G x=some p):bR n x=true/\RV X c σ p (ev F x):=by
 cases x with
 | tmp t =>obtain ⟨h1,hx⟩:=bA hx;exact ⟨h1,h t p hx⟩
 | const v =>refine ⟨rfl,?_⟩;cases v<;>simp [dN,ofC] at hx<;>subst hx<;>simp [RV,ev]
 | func f =>refine ⟨rfl,?_⟩;simp [dN] at hx;subst hx;simp [RV,aB,ev]
 | «global» g=>simp [dN] at hx
theorem Jv (h:tu X c σ G F){x:Operand}{T:Option TypeId}{p:PV I}(hx:rY tb n G T x=some p):bR n x=true/\RV X c σ p (ev F x):=by
 unfold rY at hx;split at hx
 ·obtain ⟨T',hT,hx⟩:=bind_some hx;obtain ⟨E,hE,hx⟩:=bind_some hx;cases hx;refine ⟨rfl,?_⟩;simp only [RV,ev];exact ⟨none,rfl⟩
 ·exact EK h hx
def AL (tb:aX I)(n:Nat)(G:Nat->Option (PV I)):List Operand->List TypeId->Option (List (PV I))
 | [],_=>some []
 | x::r,Ts=>(rY tb n G Ts.head? x).bind λp=>(AL tb n G r Ts.tail).bind λps=>some (p::ps)
theorem BA (h:tu X c σ G F):∀ {xs:List Operand} {Ts:List TypeId} {ps:List (PV I)},AL tb n G xs Ts=some ps->xs.all (bR n)=true/\aB X c σ ps (xs.map (ev F))
 | [],_,ps,he=>by cases he; simp [aB]
 | x::r,Ts,ps,he=>by
   obtain ⟨p,hp,he⟩:=bind_some he;obtain ⟨qs,hq,he⟩:=bind_some he;cases he;obtain ⟨h1,h2⟩:=Jv h hp;obtain ⟨h3,h4⟩:=BA h hq;refine ⟨by simp only [LE',h1,h3,Bool.and_self],?_⟩
   simp only [LJ',aB];exact ⟨_,_,rfl,h2,h4⟩
def F9:PV I->Option (List (PV I))
 | .agg ls=>some ls
 | .dat E x=>some [.dat E x]
 | .nV _=>none
 | .undef=>none
 | .any=>none
 | .ep _ _ _=>none
 | .vp _ _ _ _=>none
 | .vs _ _ _=>none
 | .av _ _ _=>none
 | p=>some [p]
theorem zJ {p:PV I}{v:Value}{ls:List (PV I)}(h:F9 p=some ls)(hv:RV X c σ p v):RG X c σ ls v.cells.toList:=by
 cases p<;>simp [F9] at h<;>subst h
 case agg ls =>simp only [RV] at hv;obtain ⟨cs,rfl,hl⟩:=hv;simpa [Value.cells] using hl
 case dat E x =>simp only [RV] at hv;obtain ⟨cs,rfl,hl⟩:=hv;simpa [Value.cells] using RG.one hl
 all_goals
  have hv':=hv;simp only [RV] at hv;have hcell:v.cells.toList=[v]:=by
   first
    | (subst hv; rfl)
    | (obtain ⟨A,k,rfl,_⟩:=hv; rfl)
    | (obtain ⟨A,rfl⟩:=hv; rfl)
    | (obtain ⟨b,w,_,rfl⟩:=hv; rfl)
    | (obtain ⟨p,_,rfl⟩:=hv; rfl)
    | (obtain ⟨cs,rfl,_⟩:=hv; rfl)
    | (obtain ⟨f,KX',cs,rfl,_⟩:=hv; rfl)
  rw [hcell];exact RG.single rfl hv'
def BM (tb:aX I)(o:Nat)(vs ls:List (PV I)):Option (List (PV I)) :=
 (tV tb 300 o ls).bind λq=>(tV tb 300 (E5 vs) q.2).bind λr=>some (q.1++vs++r.2)
theorem O9 (ht:bT P tb){o:Nat}{vs ls out:List (PV I)}{cs cv:List Value}(h:BM tb o vs ls=some out)(hl:RG X c σ ls cs)(hv:RG X c σ vs cv) :
 o+cv.length<=cs.length/\RG X c σ out (cs.take o++cv++cs.drop (o+cv.length)):=by
 obtain ⟨q,hq,h⟩:=bind_some h;obtain ⟨r,hr,h⟩:=bind_some h;cases h;obtain ⟨c1,c2,rfl,k1,k2,k3⟩:=xU ht (a:=q.1) (b:=q.2) hq hl;obtain ⟨d1,d2,rfl,m1,m2,m3⟩:=xU ht (a:=r.1) (b:=r.2) hr k3;have hlen:=RG.len _ _ hv;refine ⟨by simp only [Lf']; omega,?_⟩
 have e1:(c1++(d1++d2)).take o=c1:=by rw [<- k1,MJ']
 have e2:(c1++(d1++d2)).drop (o+cv.length)=d2:=by rw [show o+cv.length=(c1++d1).length by simp only [Lf']; omega,<- Lt',List.drop_left]
 rw [e1,e2];exact RG.app _ _ _ _ (RG.app _ _ _ _ k2 hv) m3
def LC (tb:aX I)(pl:List (Nat×Nat)):List (PV I)->List (Nat×List (PV I))->Option (List (PV I))
 | cells,[]=>some cells
 | cells,(i,vs)::rest =>
   match pl[i]? with
   | none=>none
   | some (off,size)=>bif Lm' (E5 vs) size then (BM tb off vs cells).bind λcells'=>LC tb pl cells' rest else none
def Dr (X:bZ)(c:Cx)(σ:S):List (Nat×List (PV I))->List (Nat×List Value)->Prop
 | [],qs=>qs=[]
 | p::ps,qs=>∃ v r,qs=(p.1,v)::r/\RG X c σ p.2 v/\Dr X c σ ps r
theorem kE' (ht:bT P tb)(pl:List (Nat×Nat)):∀ (ps:List (Nat×List (PV I))) (qs:List (Nat×List Value)) (ls out:List (PV I)) (cs:List Value),LC tb pl ls ps=some out->RG X c σ ls cs->Dr X c σ ps qs ->
 ∃ co,xP pl cs qs=some co/\RG X c σ out co
 | [],qs,ls,out,cs,h,hl,hp=>by simp only [Dr] at hp;subst hp;simp only [LC,LI'.injEq] at h;subst h;exact ⟨cs,rfl,hl⟩
 | (i,vs)::ps,qs,ls,out,cs,h,hl,hp=>by
   simp only [Dr] at hp;obtain ⟨v,r,rfl,h1,h2⟩:=hp;simp only [LC] at h;cases e:pl[i]? with
   | none=>rw [e] at h; cases h
   | some q =>
     obtain ⟨off,size⟩:=q;rw [e] at h;obtain ⟨hb,h⟩:=bA h;obtain ⟨cells',hc',h⟩:=bind_some h;obtain ⟨k1,k2⟩:=O9 ht hc' hl h1;obtain ⟨co,h3,h4⟩:=kE' ht pl ps r _ out _ h k2 h2;refine ⟨co,?_,h4⟩;simp only [xP,e];have g1:=RG.len _ _ h1;have hb1:Lm' v.length size=true:=by rw [g1]; exact hb
     have hb2:Mq' (off+v.length) cs.length=true:=MV' k1;rw [hb1,hb2];exact h3
def YS (tb:aX I)(n:Nat)(G:Nat->Option (PV I))(T:Nat->Option TypeId):List (Nat×Operand)->Option (List (Nat×List (PV I)))
 | []=>some []
 | (i,x)::r=>(rY tb n G (T i) x).bind λp=>(F9 p).bind λls=>(YS tb n G T r).bind λq=>some ((i,ls)::q)
theorem bX' (h:tu X c σ G F){T:Nat->Option TypeId}:∀ {xs:List (Nat×Operand)} {ps:List (Nat×List (PV I))},YS tb n G T xs=some ps ->
 xs.all (λp=>bR n p.2)=true/\Dr X c σ ps ((xs.map λp=>(p.1,ev F p.2)).map λp=>(p.1,p.2.cells.toList))
 | [],ps,he=>by cases he; simp [Dr]
 | (i,x)::r,ps,he=>by
   obtain ⟨p,hp,he⟩:=bind_some he;obtain ⟨ls,hls,he⟩:=bind_some he;obtain ⟨qs,hq,he⟩:=bind_some he;cases he;obtain ⟨h1,h2⟩:=Jv h hp;obtain ⟨h3,h4⟩:=bX' h hq;refine ⟨by simp only [LE',h1,h3,Bool.and_self],?_⟩
   simp only [LJ',Dr];exact ⟨_,_,rfl,zJ hls h2,h4⟩
end
section
variable {I:TypeId->Type} [∀ E,Rp (I E)]
def Wd:PV I->Bool
 | .int _ _=>true
 | .bool _=>true
 | .str _=>true
 | .sl _ _ _=>true
 | .nl _=>true
 | .ptr _ _=>true
 | .vw _=>true
 | .qM _ _=>true
 | .xD _ _=>true
 | .fn _ _ _=>true
 | .dat _ _=>true
 | .mp _=>true
 | _=>false
def bQ (O:aN I):List Nat->List (Nat×Option (Ob I))
 | []=>[]
 | l::r=>match O l with
   | some (some (.row E xs false))=>(l,some (.row E xs true))::bQ O r
   | _=>bQ O r
def ug (tb:aX I)(O:aN I):(ks:List Kd)->List (PV I)->Option (jl I ks×List Nat)
 | [],[]=>some ((),[])
 | k::ks,p::ps=>(uR tb O k p).bind λx=>(ug tb O ks ps).bind λy=>some ((x.1,y.1),x.2++y.2)
 | _,_=>none
def br' (tb:aX I)(O:aN I)(E:TypeId)(p:PV I):Option (I E×List Nat) :=
 (F9 p).bind λls=>(Ky O ls).bind λt=>(Ay tb E t.1).bind λa=>some (a,t.2)
def UN (tb:aX I)(O:aN I)(n:Nat)(G:Nat->Option (PV I))(E:TypeId):Nat->List (Nat×Operand)->Option (List (I E)×List Nat)
 | _,[]=>some ([],[])
 | i,(j,x)::r=>bif Lm' j i then (rY tb n G (some E) x).bind λp=>(br' tb O E p).bind λa=>(UN tb O n G E (i+1) r).bind λKX'=>some (a.1::KX'.1,a.2++KX'.2) else none
def mJ:List (PV I)->PV I
 | [p]=>p
 | ps=>.nV ps
def jY (len cap:Int)(b:Nat):Option Nat:=bif (decide (0<=len)&&decide (len<=cap)&&decide (cap*(b:Int)<=140737488355328)) then some len.toNat else none
def jk:PV I->Option Int
 | .int .i64 n=>some n
 | _=>none
def wQ {ρ:Type}:Nat->Nat->Int->(Nat->Option ρ)->Option ρ
 | 0,_,_,_=>none
 | m+1,i,j,f=>bif j==Int.ofNat i then f i else wQ m (i+1) j f
def WI (O:aN I)(E:TypeId)(p:PV I)(lo hi mx:Option Operand):Option (Nat×List (I E)×Operand):=match p,lo,hi,mx with
 | .vw l,some x,none,none=>match O l with
   | some (some (.row E' xs false))=>(jS E E' xs).bind λys=>some (l,ys,x)
   | _=>none
 | _,_,_,_=>none
def Vn (O:aN I)(E:TypeId)(p:PV I)(lo hi mx:Option Operand):Option (Nat×List (I E)×Operand):=match p,lo,hi,mx with
 | .vw l,none,some x,none=>match O l with
   | some (some (.row E' xs false))=>(jS E E' xs).bind λys=>some (l,ys,x)
   | _=>none
 | _,_,_,_=>none
def Qk (tb:aX I)(E:TypeId)(zs:List (PV I))(xs:List (I E)):Ob I:=match tb.nest E with
 | some q=>match tV tb 300 q.2 zs with
   | some r=>match E8 tb 300 r.2 with
     | some (.nl E')=>bif Lm' E' q.1 then .aP E q.1 q.2 xs 0 else .row E xs false
     | _=>.row E xs false
   | none=>.row E xs false
 | none=>.row E xs false
def Ve (tb:aX I)(T:TypeId)(p:PV I)(lo hi mx:Option Operand):Option (PV I):=match p,lo,hi,mx with
 | .ptr l o,none,none,none=>(tb.arr T).bind λa=>some (.av l o a.2.1)
 | _,_,_,_=>none
def XQ (tb:aX I)(O:aN I)(E:TypeId):Nat->List (PV I)->Option (List (I E)×List Nat)
 | 0,_=>some ([],[])
 | m+1,ls=>(tV tb 300 (Rp.sz (I E)) ls).bind λr=>(uR tb O (.dat E) (Da E r.1)).bind λx=>(XQ tb O E m r.2).bind λt=>some (x.1::t.1,x.2++t.2)
def VZ (tb:aX I)(O:aN I)(E:TypeId)(q:PV I):Option (List (I E)×List Nat):=match q with
 | .av l o m=>(match O l with
   | some (some (.var _ ls _))=>(tV tb 300 o ls).bind λq=>(XQ tb O E m q.2).bind λt=>bif t.2.elem l then none else some t
   | _=>none)
 | q=>Q9 O E q
def Uy:List (PV I)->UInt8
 | [.int _ n]=>UInt8.ofNat n.toNat
 | _=>0
def yC' (tb:aX I)(E:TypeId)(xs:List (I E)):ByteArray:=⟨(xs.map λx=>Uy (tb.lf E x)).toArray⟩
def XY (O:aN I)(E:TypeId)(p:PV I):Option (List (I E)):=match p with
 | .nl E'=>bif Lm' E' E then some [] else none
 | .sl E' xs _=>jS E E' xs
 | .vw l=>match O l with
   | some (some (.row E' xs _))=>jS E E' xs
   | some (some (.ro E' xs))=>jS E E' xs
   | some (some (.bo E' xs))=>jS E E' xs
   | _=>none
 | _=>none
def Sc (p:PV I):Option ByteArray:=match p with
 | .str s=>some s
 | _=>none
def IX (s:ByteArray)(l h:Int):Option ByteArray:=if 0<=l/\l<=h/\h<=(s.size:Int) then some (s.extract l.toNat h.toNat) else none
def WV (tb:aX I)(O:aN I)(E T T':TypeId)(q:PV I):Option (List (I E)×List Nat):=bif Lm' T' T then VZ tb O E q else bif tb.isStr T' then (Sc q).bind λs=>(tb.vL E).bind λg=>some (s.data.toList.map λb=>g (b.toNat:Int),[]) else none
section
variable {ρ:Type}
def val (k:Ef I->Option ρ)(p:PV I):Option ρ:=k ⟨p,[],[]⟩
def xg (tb:aX I)(aH:fQ I)(n:Nat)(G:Nat->Option (PV I))(O:aN I)(nb:Nat)(ty:TypeId)(op:Op)(k:Ef I->Option ρ):Option ρ :=
 match op with
 | .move x=>(rY tb n G (some ty) x).bind (val k)
 | .assign x=>(rY tb n G (some ty) x).bind (val k)
 | .binOp b T x y _=>(dN n G x).bind λp=>(dN n G y).bind λq=>Wh tb T b p q (val k)
 | .unOp u _ x=>(dN n G x).bind λp=>match u,p with
   | .not,.bool b=>val k (.bool (!b))
   | .neg,.int i a=>val k (.int i (wr i (0-a)))
   | .xor,.int i a=>val k (.int i (VQ i a))
   | _,_=>none
 | .pick x a b=>(dN n G x).bind λp=>(dN n G a).bind λq=>(dN n G b).bind λq'=>match p with
   | .bool g=>bif g then val k q else val k q'
   | _=>none
 | .fieldAddr T x f=>(dN n G x).bind λp=>(tb.off T f).bind λd=>match p with
   | .ptr l o=>val k (.ptr l (o+d))
   | .ep E x o=>val k (.ep E x (o+d))
   | .vp l sz j o=>val k (.vp l sz j (o+d))
   | _=>none
 | .field T x f=>(dN n G x).bind λp=>(tb.off T f).bind λd=>(tb.fty T f).bind λT'=>(AA p).bind λls=>(qE tb T' ls d).bind (val k)
 | .load T x=>(dN n G x).bind λp=>match p with
   | .ptr l o=>match O l with
     | some (some (.var _ ls _))=>(qE tb T ls o).bind (val k)
     | _=>none
   | .ep E x o=>(qE tb T [.dat E x] o).bind (val k)
   | .vp l sz j o=>match O l with
     | some (some (.row E xs _))=>bif Lm' sz (Rp.sz (I E)) then Option.bind xs[j]? λe=>(qE tb T [.dat E e] o).bind (val k) else none
     | some (some (.bo E xs))=>bif Lm' sz (Rp.sz (I E)) then Option.bind xs[j]? λe=>(qE tb T [.dat E e] o).bind (val k) else none
     | some (some (.aP E E' u xs q))=>bif Lm' sz (Rp.sz (I E)) then Option.bind xs[j]? λe=>(qE tb T [.dat E e] o).bind λp'=>bif Lm' q 1&&Lm' o u then (match p' with
        | .sl E1 ys _=>(jS E' E1 ys).bind λzs=>k ⟨.vw nb,[(l,some (.aP E E' u xs (j+2)))],[.row E' zs true]⟩
        | _=>none) else val k p' else none
     | _=>none
   | _=>none
 | .indexAddr T x y=>(dN n G x).bind λp=>(dN n G y).bind λq=>(jk q).bind λj=>match p with
   | .ptr l o=>(tb.arr T).bind λa=>wQ a.2.1 0 j λi=>val k (.ptr l (o+i*a.2.2))
   | .ep E x o=>(tb.arr T).bind λa=>wQ a.2.1 0 j λi=>val k (.ep E x (o+i*a.2.2))
   | .vp l sz j' o=>(tb.arr T).bind λa=>wQ a.2.1 0 j λi=>val k (.vp l sz j' (o+i*a.2.2))
   | .sl E xs _=>(tb.el T).bind λE'=>bif Lm' E E' then (ak xs j).bind λe=>val k (.ep E e 0) else none
   | .vw l=>(tb.el T).bind λE'=>match O l with
     | some (some (.row E xs true))=>bif Lm' E E' then (ak xs j).bind λe=>val k (.ep E e 0) else none
     | some (some (.ro E xs))=>bif Lm' E E' then (ak xs j).bind λe=>val k (.ep E e 0) else none
     | some (some (.row E xs false))=>bif Lm' E E' then (ak xs j).bind λ_=>val k (.vp l (Rp.sz (I E)) j.toNat 0) else none
     | some (some (.bo E xs))=>bif Lm' E E' then (ak xs j).bind λ_=>val k (.vp l (Rp.sz (I E)) j.toNat 0) else none
     | some (some (.aP E _ _ xs _))=>bif Lm' E E' then (ak xs j).bind λ_=>val k (.vp l (Rp.sz (I E)) j.toNat 0) else none
     | _=>none
   | .vs l sz lo=>(tb.el T).bind λE'=>match O l with
     | some (some (.row E xs false))=>bif Lm' E E'&&Lm' sz (Rp.sz (I E)) then (ak (xs.drop lo) j).bind λ_=>val k (.vp l sz (lo+j.toNat) 0) else none
     | _=>none
   | _=>none
 | .index T x y=>(dN n G x).bind λp=>(dN n G y).bind λq=>match p,q with
   | .str t,.int _ j=>bif tb.isStr T then (mD t j).bind λe=>val k (.int .u8 (e.toNat:Int)) else none
   | p,q=>(jk q).bind λj=>(tb.arr T).bind λa=>(AA p).bind λls=>wQ a.2.1 0 j λi=>(qE tb a.1 ls (i*a.2.2)).bind (val k)
 | .extract x i=>(dN n G x).bind λp=>match p with
   | .nV ls=>Option.bind ls[i]? (val k)
   | _=>none
 | .nilCheck x=>(dN n G x).bind λp=>match p with
   | .ptr l o=>val k (.ptr l o)
   | .ep E x o=>val k (.ep E x o)
   | .vp l sz j o=>val k (.vp l sz j o)
   | _=>none
 | .convert a b x=>(dN n G x).bind λp=>match p with
   | .int _ j=>(tb.ik a).bind λ_=>(tb.ik b).bind λi=>val k (.int i (wr i j))
   | p=>bif tb.isStr b then (tb.el a).bind λE=>bif tb.u8 E then (XY O E p).bind λxs=>val k (.str (yC' tb E xs)) else none else none
 | .build T ps=>(tb.uq T).bind λpl=>(tb.zero T).bind λzs=>(YS tb n G (tb.fty T) ps.toList).bind λqs=>(LC tb pl zs qs).bind λls=>val k (Da T ls)
 | .makeFunc (.func f) xs ys=>match xs.toList with
   | []=>(AL tb n G ys.toList []).bind λps=>val k (.qM f ps)
   | x::xs=>match ys.toList with
     | []=>(AL tb n G (x::xs) []).bind λps=>val k (.xD f ps)
     | _=>none
 | .slice T x lo hi mx=>(dN n G x).bind λp0=>match Sc p0 with
   | some s=>bif tb.isStr T then (match lo,hi,mx with
     | none,some h,none=>(dN n G h).bind λq=>(jk q).bind λh'=>(IX s 0 h').bind λt=>val k (.str t)
     | some l,none,none=>(dN n G l).bind λq=>(jk q).bind λl'=>(IX s l' (s.size:Int)).bind λt=>val k (.str t)
     | some l,some h,none=>(dN n G l).bind λq=>(dN n G h).bind λq'=>(jk q).bind λl'=>(jk q').bind λh'=>(IX s l' h').bind λt=>val k (.str t)
     | _,_,_=>none) else none
   | none=>match Ve tb T p0 lo hi mx with
   | some v=>val k v
   | none=>(tb.el T).bind λE=>match Vn O E p0 lo hi mx with
   | some v=>(dN n G v.2.2).bind λq=>(jk q).bind λj=>(cut v.2.1 0 j).bind λys=>k ⟨.vw nb,[(v.1,none)],[.row E ys false]⟩
   | none=>match WI O E p0 lo hi mx with
   | some v=>(dN n G v.2.2).bind λq=>(jk q).bind λj=>(ak v.2.1 j).bind λ_=>val k (.vs v.1 (Rp.sz (I E)) j.toNat)
   | none=>(Q9 O E p0).bind λxs=>match lo,hi,mx with
     | none,some (.const (.int .i64 0)),some (.const (.int .i64 0))=>k ⟨.nl E,bQ O xs.2,[]⟩
     | none,some h,some m=>(dN n G h).bind λq=>(dN n G m).bind λq'=>(jk q).bind λh'=>(jk q').bind λm'=>bif h'==(xs.1.length:Int)&&m'==(xs.1.length:Int) then k ⟨.sl E xs.1 true,bQ O xs.2,[]⟩ else none
     | none,some h,none=>(dN n G h).bind λq=>(jk q).bind λh'=>(cut xs.1 0 h').bind λys=>k ⟨.sl E ys false,bQ O xs.2,[]⟩
     | some l,none,none=>(dN n G l).bind λq=>(jk q).bind λl'=>(cut xs.1 l' (xs.1.length:Int)).bind λys=>k ⟨.sl E ys false,bQ O xs.2,[]⟩
     | some l,some h,none=>(dN n G l).bind λq=>(dN n G h).bind λq'=>(jk q).bind λl'=>(jk q').bind λh'=>(cut xs.1 l' h').bind λys=>k ⟨.sl E ys false,bQ O xs.2,[]⟩
     | _,_,_=>none
 | .alloc T=>(tb.zero T).bind λls=>k ⟨.ptr nb 0,[],[.var T ls true]⟩
 | .box T x=>(rY tb n G (some T) x).bind λp=>(F9 p).bind λls=>k ⟨.ptr nb 0,[],[.var T ls true]⟩
 | .store T x y=>(dN n G x).bind λp=>(rY tb n G (some T) y).bind λq=>(F9 q).bind λvs=>(tb.size T).bind λm=>bif (Lm' m (E5 vs)&&vs.all Wd) then (match p with
   | .ptr l o=>match O l with
     | some (some (.var T' ls true))=>(BM tb o vs ls).bind λls'=>k ⟨.undef,[(l,some (.var T' ls' true))],[]⟩
     | _=>none
   | .vp l sz j o=>match O l with
     | some (some (.row E xs false))=>bif Lm' sz (Rp.sz (I E)) then (Ky O vs).bind λt=>Option.bind xs[j]? λe=>bif !(t.2.elem l) then (BM tb o t.1 [.dat E e]).bind λls' =>
        (Ay tb E ls').bind λe'=>k ⟨.undef,bQ O t.2++[(l,some (.row E (xs.set j e') false))],[]⟩ else none else none
     | some (some (.aP E E' u xs q))=>bif Lm' sz (Rp.sz (I E)) then Option.bind xs[j]? λe=>(match vs with
        | [.vw l2]=>(match O l2 with
          | some (some (.row E2 ys true))=>bif Lm' E2 E'&&Lm' o u&&!(Lm' l2 l)&&Lm' q (j+2) then (BM tb o [.sl E2 ys false] [.dat E e]).bind λls'=>(Ay tb E ls').bind λe'=>k ⟨.undef,[(l2,none),(l,some (.aP E E' u (xs.set j e') 0))],[]⟩ else none
          | some (some (.row E2 ys false))=>bif (LF' u o||Mq' (o+1) u)&&LF' u sz&&!(Lm' l2 l) then (BM tb o [.sl E2 ys false] [.dat E e]).bind λls'=>(Ay tb E ls').bind λe'=>k ⟨.undef,[(l2,some (.row E2 ys true)),(l,some (.aP E E' u (xs.set j e') q))],[]⟩ else none
          | _=>none)
        | _=>none) else none
     | _=>none
   | .ep E x o=>(match vs with
     | [.int i a]=>(qE tb T [.dat E x] o).bind λz=>(match z with
       | .int i' b=>if i=i' then (bif a==b then k ⟨.undef,[],[]⟩ else none) else none
       | _=>none)
     | _=>none)
   | _=>none) else none
 | .buildSlice T len ps=>(tb.el T).bind λE=>(tb.bytes E).bind λ_=>match len,ps.toList with
   | 0,[]=>val k (.nl E)
   | len,l=>(UN tb O n G E 0 l).bind λxs =>
      bif (Lm' len xs.1.length&&LF' 0 len&&Mq' (len*Rp.sz (I E)) 16777216) then k ⟨.vw nb,bQ O xs.2,[.row E xs.1 false]⟩ else none
 | .makeSlice T x y=>(dN n G x).bind λp=>(dN n G y).bind λq=>(jk p).bind λlen=>(jk q).bind λcap=>(tb.el T).bind λE=>(tb.bytes E).bind λb=>(tb.zero E).bind λzs=>(tb.of E zs).bind λz =>
    (jY len cap b).bind λm=>k ⟨.vw nb,[],[Qk tb E zs (Ll' m z)]⟩
 | .call ⟨.builtin .len,args,ats⟩=>match args.toList,ats.toList with
   | [x],[T]=>(dN n G x).bind λp=>match p with
     | .sl _ xs _=>(tb.el T).bind λ_=>val k (.int .i64 (xs.length:Int))
     | .nl _=>(tb.el T).bind λ_=>val k (.int .i64 0)
     | .vw l=>match O l with
       | some (some (.row _ xs _))=>(tb.el T).bind λ_=>val k (.int .i64 (xs.length:Int))
       | some (some (.ro _ xs))=>(tb.el T).bind λ_=>val k (.int .i64 (xs.length:Int))
       | some (some (.bo _ xs))=>(tb.el T).bind λ_=>val k (.int .i64 (xs.length:Int))
       | some (some (.aP _ _ _ xs _))=>(tb.el T).bind λ_=>val k (.int .i64 (xs.length:Int))
       | _=>none
     | .vs l _ lo=>match O l with
       | some (some (.row _ xs _))=>(tb.el T).bind λ_=>val k (.int .i64 ((xs.drop lo).length:Int))
       | _=>none
     | .str t=>bif tb.isStr T then val k (.int .i64 (t.size:Int)) else none
     | _=>none
   | _,_=>none
 | .call ⟨.builtin .clear,args,ats⟩=>match args.toList,ats.toList with
   | [x],[T]=>(dN n G x).bind λp=>(tb.el T).bind λE=>(tb.bytes E).bind λ_=>(tb.zero E).bind λzs=>(tb.of E zs).bind λz=>match p with
     | .vs l sz lo=>match O l with
       | some (some (.row E' xs false))=>bif Lm' sz (Rp.sz (I E))&&LF' lo xs.length then (jS E E' xs).bind λys=>k ⟨.nV [],[(l,some (.row E (ys.take lo++Ll' (ys.length-lo) z) false))],[]⟩ else none
       | _=>none
     | _=>none
   | _,_=>none
 | .call ⟨.builtin .max,args,ats⟩=>match args.toList,ats.toList with
   | [x,y],[_,_]=>(dN n G x).bind λp=>(dN n G y).bind λq=>match p,q with
     | .int i a,.int i' b=>if i=i' then val k (.int i (max a b)) else none
     | _,_=>none
   | _,_=>none
 | .call ⟨.builtin .min,args,ats⟩=>match args.toList,ats.toList with
   | [x,y],[_,_]=>(dN n G x).bind λp=>(dN n G y).bind λq=>match p,q with
     | .int i a,.int i' b=>if i=i' then val k (.int i (min a b)) else none
     | _,_=>none
   | _,_=>none
 | .call ⟨.builtin .append,args,ats⟩=>match args.toList,ats.toList with
   | [x,y],[T,T']=>(rY tb n G (some T) x).bind λp=>(rY tb n G (some T') y).bind λq=>(tb.el T).bind λE=>(tb.bytes E).bind λb=>(WV tb O E T T' q).bind λys=>match p with
     | .nl _=>(aT (0+ys.1.length) b).bind λ_=>k ⟨.vw nb,bQ O ys.2,[.row E ys.1 false]⟩
     | .sl E' xs true=>(jS E E' xs).bind λxs'=>(aT (xs'.length+ys.1.length) b).bind λ_=>k ⟨.vw nb,bQ O ys.2,[.row E (xs'++ys.1) true]⟩
     | .vw l=>match O l with
       | some (some (.row E' xs fl))=>(jS E E' xs).bind λxs'=>(aT (xs'.length+ys.1.length) b).bind λ_=>bif ys.2.elem l then none else k ⟨.vw nb,bQ O ys.2++[(l,none)],[.row E (xs'++ys.1) fl]⟩
       | _=>none
     | _=>none
   | _,_=>none
 | .call ⟨.value (.func f),args,ats⟩=>(AL tb n G args.toList ats.toList).bind λps=>aH ρ f O nb ps k
 | .call ⟨.value (.tmp t),args,ats⟩=>(dN n G (.tmp t)).bind λp=>match p with
   | .qM f ls=>(AL tb n G args.toList ats.toList).bind λps=>aH ρ f O nb (ps++ls) k
   | .xD f ls=>(AL tb n G args.toList ats.toList).bind λps=>aH ρ f O nb (ls++ps) k
   | .fn ks rs g=>(AL tb n G args.toList ats.toList).bind λps=>(ug tb O ks ps).bind λq=>(app ks g q.1).bind λr=>k ⟨mJ (eF tb nb rs r),bQ O q.2,[]⟩
   | _=>none
 | .makeMap T none=>(tb.mp T).bind λkd=>k ⟨.mp nb,[],[.map T kd []]⟩
 | .lookup T x y ok=>(dN n G x).bind λp=>(dN n G y).bind λq=>match p,q with
   | .mp l,.str t=>match O l with
     | some (some (.map T' kd m))=>bif Lm' T T' then (tb.mp T).bind λkd'=>bif kd'=kd then (Oh kd).bind λz=>val k (bif ok then .nV [oC tb kd ((gQ m t).getD z),.bool (gQ m t).isSome] else oC tb kd ((gQ m t).getD z)) else none else none
     | some (some (.gU T' kd m))=>bif Lm' T T' then (tb.mp T).bind λkd'=>bif kd'=kd then (Oh kd).bind λz=>val k (bif ok then .nV [oC tb kd ((gQ m t).getD z),.bool (gQ m t).isSome] else oC tb kd ((gQ m t).getD z)) else none else none
     | _=>none
   | _,_=>none
 | .mapUpdate T x y z=>(dN n G x).bind λp=>(dN n G y).bind λq=>(dN n G z).bind λr=>match p,q with
   | .mp l,.str t=>match O l with
     | some (some (.map T' kd m))=>bif Lm' T T' then (tb.mp T).bind λkd'=>bif kd'=kd then (uR tb O kd r).bind λa=>k ⟨.undef,bQ O a.2++[(l,some (.map T kd (jG m t a.1)))],[]⟩ else none else none
     | _=>none
   | _,_=>none
 | .insert T x y z=>(dN n G x).bind λp=>(dN n G y).bind λq=>(dN n G z).bind λr=>match p,q with
   | .mp l,.str t=>match O l with
     | some (some (.map T' kd m))=>bif Lm' T T' then (tb.mp T).bind λkd'=>bif kd'=kd then (uR tb O kd r).bind λa=>k ⟨.undef,bQ O a.2++[(l,some (.map T kd (jG m t a.1)))],[]⟩ else none else none
     | _=>none
   | _,_=>none
 | _=>none
end
omit [∀ E,Rp (I E)] in
theorem Yl {α β:Type}{a:Option α}{f g:α->Option β}(h:∀ x,f x=g x):a.bind f=a.bind g:=by rw [funext h]
omit [∀ E,Rp (I E)] in
theorem Ab' {α:Type}{b:Bool}{x y x' y':α}(h:x=x')(k:y=y'):(bif b then x else y)=bif b then x' else y':=by rw [h,k]
omit [∀ E,Rp (I E)] in
theorem ifc {α:Type}{p:Prop} [Decidable p] {x y x' y':α}(h:x=x')(k:y=y'):(if p then x else y)=if p then x' else y':=by rw [h,k]
theorem ef' {α β:Type}(g:α->Option β){f:Nat->Option β}{f':Nat->Option α}:∀ (m i:Nat) (j:Int),(∀ i,f i=(f' i).bind g)->wQ m i j f=(wQ m i j f').bind g
 | 0,_,_,_=>rfl
 | m+1,i,j,h=>by
   simp only [wQ];cases j==Int.ofNat i
   ·exact ef' g m (i+1) j h
   ·exact h i
omit [∀ E,Rp (I E)] in
theorem Mg {α:Type}{f:Nat->Option α}{r:α}:∀ {m i:Nat} {j:Int},wQ m i j f=some r->∃ i',i<=i'/\i'<i+m/\j=Int.ofNat i'/\f i'=some r
 | 0,_,_,h=>by cases h
 | m+1,i,j,h=>by
   simp only [wQ] at h;cases hj:j==Int.ofNat i with
   | true =>rw [hj] at h;exact ⟨i,Lg' _,by omega,by simpa using hj,h⟩
   | false =>rw [hj] at h;obtain ⟨i',h1,h2,h3,h4⟩:=Mg h;exact ⟨i',by omega,by omega,h3,h4⟩
theorem qC' {P:Program}{tb:aX I}{aH:fQ I}(hd:lY P aH){n:Nat}{G:Nat->Option (PV I)}{O:aN I}{nb:Nat}{ty:TypeId}{op:Op}{ρ:Type}(k:Ef I->Option ρ) :
 xg tb aH n G O nb ty op k=(xg tb aH n G O nb ty op some).bind k:=by
 have hb:∀ (b:Bool) (x y:Option (Ef I)),(bif b then x else y).bind k=bif b then x.bind k else y.bind k:=λb x y=>by cases b<;>rfl
 have hi:∀ (p:Prop) [Decidable p] (x y:Option (Ef I)),(if p then x else y).bind k=if p then x.bind k else y.bind k:=λp _ x y=>by by_cases h:p<;>simp [h]
 unfold xg;split<;>(try simp only [dm'])<;>(try simp only [LX',hb])
 all_goals repeat' (first | rfl | (refine ef' k _ _ _ λ_=>?_) | exact hd.par _ _ _ _ _ _ | (refine Yl λ_=>?_) | (refine Ab' ?_ ?_) | (refine ifc ?_ ?_) | split | (simp only [LX',hb,KY',Option.bind_none]))
end
section
variable {P:Program}{ops:Array Oper}{Q:Exit->Act->World->Prop}{n:Nat}{F:Fr}{rest:List Oper}{d:Option Nat}{ty:TypeId}{pos:String}{bV:Array Edge}{σ:S}
structure Ij (w w':World)(E:TypeId)(sz m:Nat)(cs:List Value)(A:Option Addr)(c g:Nat):Prop where
 A:A=some ⟨g,0,none⟩
 le:m<=c
 max:c<=maxLen
 row:∃ aM,w'.heap[g]?=some (.cells aM E (0,0))/\aM.size=c*sz/\aM.toList.take (m*sz)=cs
 old:∀ b,b<w.heap.size->b≠g->w'.heap[b]?=w.heap[b]?
structure Calm (w w':World):Prop where
 os:w'.os=w.os
 tape:w'.tape=w.tape
 output:w'.output=w.output
 size:w.heap.size<=w'.heap.size
 drawn:w.drawn<=w'.drawn
theorem Calm.refl (w:World):Calm w w:=⟨rfl,rfl,rfl,Lg' _,Lg' _⟩
theorem Jj {w w1:World}{E:TypeId}{sz m:Nat}{v:Value}{cs:List Value}(hown:w1.ownsRow w.heap.size E sz v m cs)(hgrow:w.grownBy w1 none)(hne:m≠0)(hdr:w.drawn<=w1.drawn) :
 ∃ A c g,v=.slice A m c/\Ij w w1 E sz m cs A c g/\w.heap.size<=g/\Calm w w1:=by
 rcases hown.2 with ⟨_,h0⟩ | ⟨g,cap,aM,rfl,hg,hh,h1,h2,h3,h4⟩
 ·exact absurd h0 hne
 ·exact ⟨_,cap,g,rfl,⟨rfl,h1,h2,⟨aM,hh,h3,h4⟩,λb hb _=>hgrow.block b hb (by simp)⟩,hg,⟨hgrow.os,hgrow.tape,hgrow.output,hgrow.size,hdr⟩⟩
theorem qi' {T E:TypeId}{z:Value}{sz bytes:Nat}{A A2:Option Addr}{c c2 nx:Nat}{w:World}(hT:ru P T E z sz bytes)(hle:nx<=c) :
 (Builtin.append_ #[T,T] ty #[.slice A nx c,.slice A2 0 c2]).run P w=.ok (.slice A nx c) w:=by
 obtain ⟨hu,⟨i,hi,hz,hsz,hby⟩,hzs,hp,hbp⟩:=hT;have hf:∀ w:World,(Builtin.firstCells i.size 0 (.slice A2 0 c2)).run P w=.ok #[] w:=by intro w;cases A2<;>simp [Builtin.firstCells,loadCells,loadCellsFrom]
 cases A<;>simp [Builtin.append_,run_underlying hu,sizeOf,typeInfo,hi,Builtin.lenOf,hle,hf,storeCells]
theorem nA' {T E:TypeId}{z:Value}{sz bytes:Nat}{A A2:Option Addr}{c2 nx ny:Nat}{os ns:List Value}{w:World}(hT:ru P T E z sz bytes)(hos:os.length=nx*sz)(hns:ns.length=ny*sz)
 (h1:∀ v∈ns,v.oneCell'=true) (hny:ny≠0) (hsrc:∃ b2 o2,A2=some ⟨b2,o2,none⟩/\w.rangeAt b2 o2 ns) (hroom:(nx+ny)*bytes<=140737488355328) (hown:nx≠0->∃ b o,A=some ⟨b,o,none⟩/\w.rangeAt b o os) :
 ∃ w' A' c' g,(Builtin.append_ #[T,T] ty #[.slice A nx nx,.slice A2 ny c2]).run P w=.ok (.slice A' (nx+ny) c') w'/\Ij w w' E sz (nx+ny) (os++ns) A' c' g/\w.heap.size<=g/\Calm w w':=by
 obtain ⟨hu,⟨i,hi,hz,hsz,hby⟩,hzs,hp,hbp⟩:=hT;obtain ⟨b2,o2,rfl,hse⟩:=hsrc;have SX:nx+ny<=maxLen:=by have:nx+ny<=(nx+ny)*bytes:=Nr' _ hbp;simp only [maxLen]; omega
 have Mq:∀ j u,ns[j]?=some u->w.cell? ((⟨b2,o2,none⟩:Addr).add j)=some u:=λj u hj=>by rw [Addr.add_mid]; exact hse j u hj
 have key:∃ v' w',(Builtin.append_ #[T,T] ty #[.slice A nx nx,.slice (some ⟨b2,o2,none⟩) ny c2]).run P w=.ok v' w'/\w'.ownsRow w.heap.size E sz v' (nx+ny) (os++ns)/\w.grownBy w' none:=by
  cases A with
  | none =>
    have hx0:nx=0:=by apply Classical.byContradiction;intro hne;obtain ⟨_,_,e,_⟩:=hown hne;cases e
    subst hx0;have:os=[]:=LB' (by simpa using hos)
    subst this;obtain ⟨v',w',e1,e2,e3,_⟩:=run_append_own (P:=P) w w.heap.size T ty E i z sz bytes hu hi hz hsz hby hzs hp (.slice none 0 0) 0 [] (World.ownsRow_nil w _ E _) ⟨b2,o2,none⟩ ny c2 ns hns Mq h1 (by simpa using SX) (by simpa using hroom) (Lg' _)
    exact ⟨v',w',e1,by simpa using e2,by simpa [Value.ownBlock] using e3⟩
  | some a =>
    have hold:∀ j u,os[j]?=some u->w.cell? (a.add j)=some u:=by
     intro j u hj;by_cases hne:nx=0
     ·subst hne;have:os=[]:=LB' (by simpa using hos)
      subst this; simp at hj
     ·obtain ⟨b,o,e,hs⟩:=hown hne;injection e with e
      subst e;rw [Addr.add_mid];exact hs j u hj
    exact run_append_arg_grows (P:=P) w T ty E i z sz bytes hu hi hz hsz hby hzs hp a nx nx os hos hold ⟨b2,o2,none⟩ ny c2 ns hns Mq (by omega) SX hroom
 obtain ⟨v',w',e1,e2,e3⟩:=key;obtain ⟨A',c',g,rfl,k1,k2,k3⟩:=Jj e2 e3 (by omega) (CO _ e1)
 exact ⟨w',A',c',g,e1,k1,k2,k3⟩
theorem DZ' {T E:TypeId}{z:Value}{sz bytes:Nat}{A2:Option Addr}{c c2 nx ny g:Nat}{os ns:List Value}{aM:Array Value}{w:World}(hT:ru P T E z sz bytes)(hos:os.length=nx*sz)(hns:ns.length=ny*sz)
 (h1:∀ v∈ns,v.oneCell'=true) (_:ny≠0) (hsrc:∃ b2 o2,A2=some ⟨b2,o2,none⟩/\w.rangeAt b2 o2 ns) (hroom:(nx+ny)*bytes<=140737488355328)
 (hh:w.heap[g]?=some (.cells aM E (0,0))) (hc:nx<=c) (hmax:c<=maxLen) (hcs:aM.size=c*sz) (htk:aM.toList.take (nx*sz)=os) :
 ∃ w' A' c' g',(Builtin.append_ #[T,T] ty #[.slice (some ⟨g,0,none⟩) nx c,.slice A2 ny c2]).run P w=.ok (.slice A' (nx+ny) c') w'/\Ij w w' E sz (nx+ny) (os++ns) A' c' g'/\(w.heap.size<=g'\/g'=g)/\Calm w w' /\
  (∀ o v,o<nx*sz->w.cell? ⟨g,o,none⟩=some v->w'.cell? ⟨g,o,none⟩=some v):=by
 have hT':=hT;obtain ⟨hu,⟨i,hi,hz,hsz,hby⟩,hzs,hp,hbp⟩:=hT;obtain ⟨b2,o2,rfl,hse⟩:=hsrc;have SX:nx+ny<=maxLen:=by have:nx+ny<=(nx+ny)*bytes:=Nr' _ hbp;simp only [maxLen]; omega
 have Mq:∀ j u,ns[j]?=some u->w.cell? ((⟨b2,o2,none⟩:Addr).add j)=some u:=λj u hj=>by rw [Addr.add_mid]; exact hse j u hj
 have hcell:∀ o,w.cell? ⟨g,o,none⟩=aM[o]?:=λo=>by simp [World.cell?,hh]
 by_cases hroomy:nx+ny<=c
 ·have hcl:nx*sz+ns.length<=aM.size:=by
   rw [hns,hcs,<- LP']; exact LA' _ hroomy
  have hr:=run_append_room (P:=P) w T ty E i hu hi g nx c aM hh ⟨b2,o2,none⟩ ny c2 ns (by rw [hsz]; exact hns) Mq h1 hroomy (by rw [hsz]; exact hcl)
  rw [hsz] at hr
  let row:=(aM.toList.take (nx*sz)++ns++aM.toList.drop (nx*sz+ns.length)).toArray
  have hrow:(w.setRow g row).heap[g]?=some (.cells row E (0,0)):=setRow_heap w g aM row E _ hh;have hoth:∀ k,k≠g->(w.setRow g row).heap[k]?=w.heap[k]?:=λk hk=>setRow_other w g k row hk;refine ⟨w.setRow g row,some ⟨g,0,none⟩,c,g,hr,⟨rfl,hroomy,hmax,⟨row,hrow,?_,?_⟩,λb _ hb=>hoth b hb⟩,.inr rfl,⟨rfl,rfl,rfl,by simp [World.setRow],Lg' _⟩,λo v ho hv=>?_⟩
  ·simp only [row,Nq',Lf',LC',LK',LV'];omega
  ·simp only [row];rw [htk,LP',<- hns,<- hos,<- Lf'];exact MJ'
  ·have e2:(w.setRow g row).cell? ⟨g,o,none⟩=row[o]?:=by simp [World.cell?,hrow]
   have e3:row[o]?=(aM.toList.take (nx*sz)++ns++aM.toList.drop (nx*sz+ns.length))[o]?:=by simp [row]
   have hlt:o<(aM.toList.take (nx*sz)).length:=by rw [htk,hos]; exact ho
   rw [e2,e3,Lt',LD' hlt,Lw' ho,Lz',<- hcell,hv]
 ·have hold:∀ j u,os[j]?=some u->w.cell? ((⟨g,0,none⟩:Addr).add j)=some u:=by
   intro j u hj;have hj':=(La'.1 hj).1;rw [Addr.add_mid,LM',hcell,<- Lz',<- hj,<- htk,Lw' (by omega)]
  obtain ⟨v',w',e1,e2,e3⟩:=run_append_arg_grows (P:=P) w T ty E i z sz bytes hu hi hz hsz hby hzs hp ⟨g,0,none⟩ nx c os hos hold ⟨b2,o2,none⟩ ny c2 ns hns Mq (by omega) SX hroom
  obtain ⟨A',c',g',rfl,k1,k2,k3⟩:=Jj e2 e3 (by omega) (CO _ e1)
  refine ⟨w',A',c',g',e1,k1,.inl k2,k3,λo v ho hv=>?_⟩;have hlt:=jJ hh;exact (wJ (k1.old g hlt (by omega)) o).trans hv
def ApF (P:Program)(ty T T2 E:TypeId)(sz jo:Nat)(w:World)(v2:Value)(ns:List Value)(ny:Nat):Prop :=
 ∀ (A:Option Addr) (nx:Nat) (os:List Value),os.length=nx*sz->(nx+ny)*jo<=140737488355328->(nx≠0->∃ b o,A=some ⟨b,o,none⟩/\w.rangeAt b o os) ->
  ∃ w' A' c' g,(Builtin.append_ #[T,T2] ty #[.slice A nx nx,v2]).run P w=.ok (.slice A' (nx+ny) c') w'/\Ij w w' E sz (nx+ny) (os++ns) A' c' g/\w.heap.size<=g/\Calm w w'
def ApR (P:Program)(ty T T2 E:TypeId)(sz jo:Nat)(w:World)(v2:Value)(ns:List Value)(ny:Nat):Prop :=
 ∀ (nx c g:Nat) (os:List Value) (aM:Array Value),os.length=nx*sz->(nx+ny)*jo<=140737488355328->w.heap[g]?=some (.cells aM E (0,0))->nx<=c->c<=maxLen->aM.size=c*sz->aM.toList.take (nx*sz)=os ->
  ∃ w' A' c' g',(Builtin.append_ #[T,T2] ty #[.slice (some ⟨g,0,none⟩) nx c,v2]).run P w=.ok (.slice A' (nx+ny) c') w'/\Ij w w' E sz (nx+ny) (os++ns) A' c' g'/\(w.heap.size<=g'\/g'=g)/\Calm w w' /\
   (∀ o v,o<nx*sz->w.cell? ⟨g,o,none⟩=some v->w'.cell? ⟨g,o,none⟩=some v)
def ApN (P:Program)(ty T T2:TypeId)(w:World)(v2:Value):Prop:=∀ (A:Option Addr) (nx c:Nat),nx<=c->(Builtin.append_ #[T,T2] ty #[.slice A nx c,v2]).run P w=.ok (.slice A nx c) w
def J3 (P:Program)(ty T T2 E:TypeId)(jo:Nat){α:Type} [Rp α] (σ:S)(v2:Value)(ys:List α):Prop :=
 ∃ ns,dJ σ ys ns/\(ys=[]->ApN P ty T T2 σ.w v2)/\(ys≠[]->ApF P ty T T2 E (Rp.sz α) jo σ.w v2 ns ys.length/\ApR P ty T T2 E (Rp.sz α) jo σ.w v2 ns ys.length)
theorem Bq' {α:Type} [Rp α] {T E:TypeId}{z:Value}{bytes:Nat}{ys:List α}{A2:Option Addr}{c2:Nat}(hsrc:jP rf σ ys A2)(hT:ru P T E z (Rp.sz α) bytes):J3 P ty T T E bytes σ (.slice A2 ys.length c2) ys:=by
 obtain ⟨ns,Dy,Ej'⟩:=hsrc;refine ⟨ns,Dy,λe A nx c hle=>?_,λhys=>?_⟩
 ·subst e;exact qi' hT hle
 ·have hny:ys.length≠0:=λe=>hys (LB' e);obtain ⟨b2,o2,e2,hse,_⟩:=Ej' hys;have hsrc':∃ b2 o2,A2=some ⟨b2,o2,none⟩/\σ.w.rangeAt b2 o2 ns:=⟨b2,o2,e2,hse⟩;exact ⟨λA nx os h1 h2 h3=>nA' hT h1 Dy.len Dy.one hny hsrc' h2 h3,λnx c g os aM h1 h2 h3 h4 h5 h6 h7=>DZ' hT h1 Dy.len Dy.one hny hsrc' h2 h3 h4 h5 h6 h7⟩
theorem zK' {T T2 E:TypeId}{z:Value}{sz bytes:Nat}{A:Option Addr}{c nx:Nat}{s:ByteArray}{w:World}(hT:ru P T E z sz bytes)(hu2:P.underlying T2=some .string)(h0:s.size=0)(hle:nx<=c) :
 (Builtin.append_ #[T,T2] ty #[.slice A nx c,.string s]).run P w=.ok (.slice A nx c) w:=by
 obtain ⟨hu,⟨i,hi,hz,hsz,hby⟩,hzs,hp,hbp⟩:=hT;have hf:∀ w:World,(Builtin.firstCells i.size 0 (.string s)).run P w=.ok #[] w:=by
  intro w;have e:=Go.Lib.run_firstCells_string (P:=P) w i.size s;have e1:Go.Lib.strCells s=[]:=LB' (by rw [Go.Lib.strCells_length]; exact h0)
  rw [h0,e1] at e;exact e
 cases A<;>simp [Builtin.append_,run_underlying hu,run_underlying hu2,sizeOf,typeInfo,hi,Builtin.lenOf,h0,hle,hf,storeCells]
theorem Uk {w:World}{E:TypeId}{z:Value}(hz:z.cells.size=1){xs ns:List Value}{n k old:Nat}(hx:xs.length=n)(hn:ns.length=k)(_:old<n+k)(hm:n+k<=maxLen) :
 (w.drew.alloc (.cells (xs.toArray++ns.toArray++Builtin.zeroCells z.cells (grownCap w (n+k) old E-(n+k))) E)).ownsRow w.heap.size E 1 (.slice (some ⟨w.heap.size,0,none⟩) (n+k) (grownCap w (n+k) old E)) (n+k) (xs++ns) /\
   w.grownBy (w.drew.alloc (.cells (xs.toArray++ns.toArray++Builtin.zeroCells z.cells (grownCap w (n+k) old E-(n+k))) E)) none:=by
 have hge:=grownCap_ge w (n+k) old E;have hcm:grownCap w (n+k) old E<=maxLen:=grownCap_le_maxLen w (n+k) old E hm;have hlen:(xs++ns).length=(n+k)*1:=by rw [Lf',hx,hn,Ne']
 refine ⟨⟨hlen,.inr ⟨w.heap.size,_,_,rfl,Lg' _,heap_alloc_new w.drew _,hge,hcm,?_,?_⟩⟩,⟨rfl,rfl,rfl,by simp,λj hj _=>heap_alloc_old w.drew _ hj⟩⟩
 ·simp only [Array.size_append,Nq',size_zeroCells,hz,hx,hn];omega
 ·simp only [Array.toList_append,Lt'];rw [<- Lt',<- hlen];exact MJ'
theorem qk' {T T2 E:TypeId}{z:Value}{bytes:Nat}{s:ByteArray}{w:World}(hT:ru P T E z 1 bytes)(hu2:P.underlying T2=some .string)(hn:s.size≠0):ApF P ty T T2 E 1 bytes w (.string s) (Go.Lib.strCells s) s.size:=by
 obtain ⟨hu,⟨i,hi,hz,hsz,hby⟩,hzs,hp,hbp⟩:=hT;intro A nx os hos hroom hown;rw [Ne'] at hos;have hmax:nx+s.size<=140737488355328:=Lr' (Nr' _ hbp) hroom;have hml:nx+s.size<=maxLen:=by simp only [maxLen]; omega
 cases A with
 | none =>
   have hx0:nx=0:=by apply Classical.byContradiction;intro hne;obtain ⟨_,_,e,_⟩:=hown hne;cases e
   subst hx0;have:os=[]:=LB' hos;subst this;have hfit:s.size*i.bytes<=281474976710656:=by rw [hby]; rw [LM'] at hroom; omega
   have hr:=run_append_nil_string (P:=P) (ty:=ty) w T T2 E i z hu hu2 hi hz s (by omega) (by omega) hfit
   have e1:(s.data.map λb=>Value.int .u8 b.toNat)=(Go.Lib.strCells s).toArray:=by apply Array.ext';simp [Go.Lib.strCells]
   rw [e1] at hr;have hgr:=Uk (w:=w) (E:=E) hzs (xs:=[]) (ns:=Go.Lib.strCells s) (old:=0) rfl (Go.Lib.strCells_length s) (by omega) hml
   simp only [Lh',LM',Mj',Array.empty_append] at hgr ⊢;obtain ⟨A',c',g,e,k1,k2,k3⟩:=Jj hgr.1 hgr.2 hn (CO _ hr);rw [e] at hr;exact ⟨_,A',c',g,hr,k1,k2,k3⟩
 | some a =>
   have hold:∀ j u,os[j]?=some u->w.cell? (a.add j)=some u:=by
    intro j u hj;by_cases hne:nx=0
    ·subst hne;have:os=[]:=LB' hos;subst this; simp at hj
    ·obtain ⟨b,o,e,hs⟩:=hown hne;injection e with e
     subst e;rw [Addr.add_mid];exact hs j u hj
   have hr:=Go.Lib.run_append_grow_string (P:=P) (ty:=ty) w T T2 E i z hu hu2 hi hz a nx nx os (by rw [hsz,Ne']; exact hos) hold s (by omega) (by omega) (by rw [hby]; exact growslice_fits (by omega) hroom)
   have hgr:=Uk (w:=w) (E:=E) hzs (old:=nx) hos (Go.Lib.strCells_length s) (by omega) hml
   obtain ⟨A',c',g,e,k1,k2,k3⟩:=Jj hgr.1 hgr.2 (by omega) (CO _ hr)
   rw [e] at hr;exact ⟨_,A',c',g,hr,k1,k2,k3⟩
theorem Dc' {T T2 E:TypeId}{z:Value}{bytes:Nat}{s:ByteArray}{w:World}(hT:ru P T E z 1 bytes)(hu2:P.underlying T2=some .string)(_:s.size≠0):ApR P ty T T2 E 1 bytes w (.string s) (Go.Lib.strCells s) s.size:=by
 obtain ⟨hu,⟨i,hi,hz,hsz,hby⟩,hzs,hp,hbp⟩:=hT;intro nx c g os aM hos hroom hh hc Ek' hcs htk;rw [Ne'] at hos hcs htk;have hmax:nx+s.size<=140737488355328:=Lr' (Nr' _ hbp) hroom;have hml:nx+s.size<=maxLen:=by simp only [maxLen]; omega
 have hcell:∀ o,w.cell? ⟨g,o,none⟩=aM[o]?:=λo=>by simp [World.cell?,hh]
 by_cases hroomy:nx+s.size<=c
 ·have hr:=Go.Lib.run_append_room_string (P:=P) (ty:=ty) w T T2 E i hu hu2 hi hsz g nx c aM hh s hroomy (by omega)
  let row:=(aM.toList.take nx++Go.Lib.strCells s++aM.toList.drop (nx+s.size)).toArray
  have hrow:(w.setRow g row).heap[g]?=some (.cells row E (0,0)):=setRow_heap w g aM row E _ hh;have hoth:∀ k,k≠g->(w.setRow g row).heap[k]?=w.heap[k]?:=λk hk=>setRow_other w g k row hk;refine ⟨w.setRow g row,some ⟨g,0,none⟩,c,g,hr,⟨rfl,hroomy,Ek',⟨row,hrow,?_,?_⟩,λb _ hb=>hoth b hb⟩,.inr rfl,⟨rfl,rfl,rfl,by simp [World.setRow],Lg' _⟩,λo v ho hv=>?_⟩
  ·simp only [row,Nq',Lf',LC',LK',LV',Go.Lib.strCells_length];omega
  ·simp only [row];have e:(nx+s.size)*1=(os++Go.Lib.strCells s).length:=by rw [Lf',hos,Go.Lib.strCells_length,Ne']
   rw [htk,e];exact MJ'
  ·rw [Ne'] at ho;have e2:(w.setRow g row).cell? ⟨g,o,none⟩=row[o]?:=by simp [World.cell?,hrow]
   have e3:row[o]?=(aM.toList.take nx++Go.Lib.strCells s++aM.toList.drop (nx+s.size))[o]?:=by simp [row]
   have hlt:o<(aM.toList.take nx).length:=by rw [htk,hos]; exact ho
   rw [e2,e3,Lt',LD' hlt,Lw' ho,Lz',<- hcell,hv]
 ·have hold:∀ j u,os[j]?=some u->w.cell? ((⟨g,0,none⟩:Addr).add j)=some u:=by
   intro j u hj;have hj':=(La'.1 hj).1;rw [Addr.add_mid,LM',hcell,<- Lz',<- hj,<- htk,Lw' (by omega)]
  have hr:=Go.Lib.run_append_grow_string (P:=P) (ty:=ty) w T T2 E i z hu hu2 hi hz ⟨g,0,none⟩ nx c os (by rw [hsz,Ne']; exact hos) hold s (by omega) (by omega) (by rw [hby]; exact growslice_fits (by omega) hroom)
  have hgr:=Uk (w:=w) (E:=E) hzs (old:=c) hos (Go.Lib.strCells_length s) (by omega) hml
  obtain ⟨A',c',g',e,k1,k2,k3⟩:=Jj hgr.1 hgr.2 (by omega) (CO _ hr)
  rw [e] at hr;refine ⟨_,A',c',g',hr,k1,.inl k2,k3,λo v ho hv=>?_⟩;have hlt:=jJ hh;exact (wJ (k1.old g hlt (by omega)) o).trans hv
theorem om' {α:Type} [Rp α] {T T2 E:TypeId}{z:Value}{bytes:Nat}{s:ByteArray}{g:Int->α}(hg:∀ (σ:S) (k:Int),Rp.cells σ (g k) [.int .u8 k])(hT:ru P T E z (Rp.sz α) bytes)(hu2:P.underlying T2=some .string) :
 J3 P ty T T2 E bytes σ (.string s) (s.data.toList.map λb=>g (b.toNat:Int)):=by
 have hsz:Rp.sz α=1:=(Rp.len (hg σ 0)).symm;have hl:(s.data.toList.map λb=>g (b.toNat:Int)).length=s.size:=by rw [LH',LV']; rfl
 rw [hsz] at hT;have hf:∀ l:List UInt8,dJ σ (l.map λb=>g (b.toNat:Int)) (l.map λb=>Value.int .u8 b.toNat):=by
  intro l
  induction l with
  | nil=>exact rfl
  | cons b r ih=>exact ⟨_,_,rfl,hg σ _,ih⟩
 refine ⟨Go.Lib.strCells s,hf _,λe A nx c hle=>?_,λhys=>?_⟩
 ·exact zK' hT hu2 (by rw [<- hl,e]; rfl) hle
 ·have hny:s.size≠0:=λe=>hys (LB' (hl.trans e));rw [hl,hsz];exact ⟨qk' hT hu2 hny,Dc' hT hu2 hny⟩
theorem um' {α:Type} [Rp α] {T T2 E:TypeId}{bytes:Nat}{xs ys:List α}{A:Option Addr}{v2:Value}{c:Nat}{ow:Option Nat}{fl:Bool}
 (hown:fD ow fl E σ xs A c) (hsrc:J3 P ty T T2 E bytes σ v2 ys) (hroom:(xs.length+ys.length)*bytes<=140737488355328) :
 ∃ τ A' c' YZ,(Builtin.append_ #[T,T2] ty #[.slice A xs.length c,v2]).run P σ.w=.ok (.slice A' (xs++ys).length c') τ.w/\Stp (λb=>ow=some b) σ τ/\fD YZ fl E τ (xs++ys) A' c' /\
  ∀ g,YZ=some g->ow=some g\/σ.N<=g:=by
 obtain ⟨ns,Dy,hnil,SY⟩:=hsrc;by_cases hys:ys=[]
 ·have hnil':=hnil hys;subst hys;refine ⟨σ,A,c,ow,?_,Stp.refl _ _,by simpa using hown,λg h=>.inl h⟩
  rw [MK'];exact hnil' A xs.length c hown.le.1
 have hny:ys.length≠0:=λe=>hys (LB' e);obtain ⟨hF,hR⟩:=SY hys;have gJ:∀ (os:List Value) (w':World) (A':Option Addr) (c' g:Nat),dJ σ xs os->Ij σ.w w' E (Rp.sz α) (xs.length+ys.length) (os++ns) A' c' g->Calm σ.w w'->(σ.N<=g\/ow=some g) ->
  (∀ g0,ow=some g0->(σ.L g0).1=bif fl then xs.length*Rp.sz α else 0) ->
  (∀ g0,ow=some g0->g=g0->∀ o v,o<xs.length*Rp.sz α->σ.w.cell? ⟨g0,o,none⟩=some v->w'.cell? ⟨g0,o,none⟩=some v) ->
  ∃ τ:S,τ.w=w'/\Stp (λb=>ow=some b) σ τ/\fD (some g) fl E τ (xs++ys) A' c':=by
  intro os w' A' c' g hfx ha hc hg hmk hcell
  let τ:S:=⟨w',λb=>if b=g then (bif fl then (xs.length+ys.length)*Rp.sz α else 0,b) else σ.L b⟩
  have hL:∀ b,b≠g->τ.L b=σ.L b:=λb hb=>by simp [τ,hb]
  have SV:(τ.L g).1=bif fl then (xs.length+ys.length)*Rp.sz α else 0:=by simp [τ]
  have hw:gT σ τ:=by
   refine ⟨hc.size,λb hb=>?_,λb o v ho hv=>?_,hc.drawn,λb o hb hf=>by
    by_cases e:b=g
    ·obtain ⟨aM,h1,_⟩:=ha.row;rw [e];exact Vw h1 o
    ·exact (Ck (ha.old b hb e) o).trans hf⟩
   ·by_cases e:b=g
    ·subst e;rcases hg with hg | hg
     ·exact absurd hb (by omega)
     ·rw [hmk b hg,SV];cases fl
      ·exact Lg' _
      ·exact LA' _ (Nat.le_add_right _ _)
    ·rw [hL b e]; exact Lg' _
   ·have hlt:=um hv;by_cases e:b=g
    ·subst e;rcases hg with hg | hg
     ·exact absurd hlt (by show ¬ b<σ.N; omega)
     ·rw [hmk b hg] at ho;cases fl
      ·exact absurd ho (by simp)
      ·exact hcell b hg rfl o v ho hv
    ·exact (wJ (ha.old b hlt e) o).trans hv
  obtain ⟨aM,h1,h2,h3⟩:=ha.row;refine ⟨τ,rfl,⟨hw,hc.os,hc.tape,hc.output,λb hb hn=>?_⟩,aM,os++ns,ha.A,h1,by rw [Lf']; exact ha.le,ha.max,h2,(hfx.mono hw).app (Dy.mono hw),by rw [Lf']; exact h3,by rw [Lf']; exact SV⟩
  have hbg:b≠g:=by
   rintro rfl;rcases hg with hg | hg
   ·omega
   ·exact hn hg
  exact ⟨ha.old b hb hbg,by rw [hL b hbg]⟩
 cases ow with
 | none =>
   have hfull:∃ os,dJ σ xs os/\c=xs.length/\(xs.length≠0->∃ b o,A=some ⟨b,o,none⟩/\σ.w.rangeAt b o os):=by
    rcases hown with ⟨rfl,rfl⟩ | ⟨_,rfl,_,_,os,hfo,hao⟩
    ·exact ⟨[],rfl,rfl,λh=>absurd rfl h⟩
    ·exact ⟨os,hfo,rfl,λhne=>by
      obtain ⟨b,o,e,hs⟩:=hao (λe=>hne (by rw [e]; rfl))
      exact ⟨b,o,e,hs.2⟩⟩
   obtain ⟨os,hfo,rfl,hao⟩:=hfull;obtain ⟨w',A',c',g,hr,ha,hg,hc⟩:=hF A xs.length os hfo.len hroom hao;obtain ⟨τ,e,hst,ho⟩:=gJ os w' A' c' g hfo ha hc (.inl hg) (λg0 h=>by cases h) (λg0 h=>by cases h)
   subst e;exact ⟨τ,A',c',some g,by rw [Lf']; exact hr,hst,ho,λg' h=>by cases h; exact .inr hg⟩
 | some g0 =>
   obtain ⟨aM,cs,rfl,hh,h1,h2,h3,h4,h5,h6⟩:=hown;obtain ⟨w',A',c',g,hr,ha,hg,hc,hcell⟩:=hR xs.length c g0 cs aM h4.len hroom hh h1 h2 h3 h5;obtain ⟨τ,e,hst,ho⟩:=gJ cs w' A' c' g h4 ha hc (hg.imp id (λe=>by rw [e])) (λg1 h=>by cases h; exact h6) (λg1 h e o v ho hv=>by cases h; exact hcell o v ho hv)
   subst e;exact ⟨τ,A',c',some g,by rw [Lf']; exact hr,hst,ho,λg' h=>by cases h; exact hg.symm.imp (λe=>by rw [e]) id⟩
theorem ti' {α:Type} [Rp α] {T E:TypeId}{len:Nat}{ps:List (Nat×Operand)}{z:Value}{bytes:Nat}(hT:ru P T E z (Rp.sz α) bytes)(xs:List α)(vs:List Value)
 (hps:ps.map (λp=>(p.1,ev F p.2))=vs.zipIdx.map λp=>(p.2,p.1)) (hk:ps.all (λp=>bR n p.2)=true) (hlen:len=xs.length) (hlv:vs.length=xs.length) (hpos:0<len) (hsmall:Mq' (len*Rp.sz α) 16777216=true)
 (hsz:∀ v∈vs,v.cells.size=Rp.sz α)
 (h:wpList P ops Q rest (fr n (dF F d (.slice (some ⟨σ.N,0,none⟩) xs.length xs.length))) (σ.w.alloc (.cells (vs.flatMap (·.cells.toList)).toArray E))) :
 wpList P ops Q (⟨d,.buildSlice T len ps.toArray,ty,pos,bV,none⟩::rest) (fr n F) σ.w:=by
 subst hlen;obtain ⟨hu,⟨i,hi,hz,hsi,hby⟩,hzs,hp,hbp⟩:=hT;have Ky':=LG' hsmall;refine gH rfl (.slice (some ⟨σ.N,0,none⟩) xs.length xs.length) (σ.w.alloc (.cells (vs.flatMap (·.cells.toList)).toArray E)) ?_ h
 have he:(ps.toArray.map λ(i,x)=>(i,(fr n F).eval x)).toList=vs.zipIdx.map λp=>(p.2,p.1):=by rw [<- hps];simp only [Array.toList_map];apply Nb';intro p hp';rw [dx ((Le'.1 hk) p hp')]
 have yY:=XI (Rp.sz α) hp vs 0 (((Array.range (xs.length*Rp.sz α)).map (z.cells[·%z.cells.size]!)).toList) (by simp [hlv]) hsz
 simp only [Nat.zero_mul,List.take_zero,Mj',Array.toArray_toList] at yY;have hnz:¬ xs.length*Rp.sz α=0:=by have:=Nat.mul_pos hpos hp; omega
 show Sem.run P (do pure (Next.value (<- Instr.buildSlice T xs.length (ps.toArray.map λ(i,x)=>(i,(fr n F).eval x))))) σ.w=_
 have hns:¬ (xs.length*Rp.sz α>2^24):=by omega
 rw [hsi.symm] at yY hnz hns;have hrun:(Instr.buildSlice T xs.length (ps.toArray.map λ(i,x)=>(i,(fr n F).eval x))).run P σ.w=.ok (.slice (some ⟨σ.N,0,none⟩) xs.length xs.length) (σ.w.alloc (.cells (vs.flatMap (·.cells.toList)).toArray E)):=by unfold Instr.buildSlice;rw [he];simp only [Sem.run_bind,run_underlying hu,Result.andThen_ok,sizeOf,typeInfo,run_program,hi,Sem.run_pure,if_neg hns,if_neg hnz,zeroValue,hz,yY,newRow,run_newObj];rfl
 rw [Sem.run_bind,hrun];rfl
theorem uZ' (z:Array Value)(hz:0<z.size):∀ n:Nat,(Builtin.zeroCells z n).toList=(Ll' n z.toList).flatten:=by
 have hget:∀ (k j:Nat),j<k*z.size->((Ll' k z.toList).flatten)[j]?=z[j%z.size]?:=by
  intro k
  induction k with
  | zero=>intro j hj; simp at hj
  | succ k ih =>
    intro j hj;rw [MR',List.flatten_cons];by_cases hlt:j<z.size
    ·rw [LD' (by simpa using hlt),Nt' hlt,Lz']
    ·rw [Ls' (by simpa using Nu' hlt),LV',ih (j-z.size) (by rw [LP',NF'] at hj; omega)]
     congr 1;exact (Nat.mod_eq_sub_mod (Nu' hlt)).symm
 intro n;apply Np';intro j;by_cases hj:j<n*z.size
 ·rw [hget n j hj];have hmod:j%z.size<z.size:=Nat.mod_lt _ hz;simp [Builtin.zeroCells,hj,Mw' hmod,getElem!_pos z (j%z.size) hmod]
 ·rw [LR' (by simp [Builtin.zeroCells]; omega),LR' (by simp; omega)]
theorem pg' {α:Type} [Rp α] {T E:TypeId}{z:Value}{bytes lo g k:Nat}{xs:List α}{a:α}{A:Option Addr}(hT:ru P T E z (Rp.sz α) bytes)(ha:Rp.cells σ a z.cells.toList)(hown:fD (some g) false E σ xs A k)(hlt:lo<xs.length) :
 ∃ τ,(Builtin.clear_ #[T] ty #[.slice (some ⟨g,lo*Rp.sz α,none⟩) (xs.length-lo) (k-lo)]).run P σ.w=.ok (.tuple #[]) τ.w/\Stp (λb=>b=g) σ τ/\fD (some g) false E τ (xs.take lo++Ll' (xs.length-lo) a) A k:=by
 obtain ⟨hu,⟨i,hi,hz,hsz,hby⟩,hzs,hp,hbp⟩:=hT;obtain ⟨aM,cs,rfl,hh,h1,h2,h3,h4,h5,h6⟩:=hown;have hzl:z.cells.toList.length=Rp.sz α:=by simpa using hzs
 let zs:=(Ll' (xs.length-lo) z.cells.toList).flatten
 have kL':zs.length=(xs.length-lo)*Rp.sz α:=by simp [zs,hzs]
 have hz1:∀ v∈zs,v.oneCell'=true:=λv hv=>by simp only [zs,List.mem_flatten,List.mem_replicate] at hv;obtain ⟨l,⟨_,rfl⟩,hv⟩:=hv;exact Rp.one ha v hv
 have hB:kW 0 g (sW σ) g E aM.toList:=⟨Mb' _,by show σ.w.heap[g]?=_; simpa using hh,by show ((σ.L g).1,g)=_; rw [show (σ.L g).1=0 from h6]⟩
 have hmul:lo*Rp.sz α+(xs.length-lo)*Rp.sz α=xs.length*Rp.sz α:=by rw [<- LP']; congr 1; omega
 have hcl:aM.toList.length=k*Rp.sz α:=(LV' (xs:=aM)).trans h3;have hle:lo*Rp.sz α+zs.length<=aM.toList.length:=by rw [kL',hmul,hcl]; exact LA' _ h1
 have hcell:∀ j,σ.w.cell? ⟨g,j,none⟩=aM[j]?:=λj=>by simp [World.cell?,hh]
 have hst:=run_storeCells_cells (P:=P) g (lo*Rp.sz α) zs 0 σ.w (λj hj=>by rw [ME',hcell];rw [Mw' (by rw [hcl] at hle; rw [h3]; omega)]; rfl) (λj hj=>by simp [World.frozen?,hh]) hz1
 rw [ME'] at hst;refine ⟨⟨σ.w.setCells g (lo*Rp.sz α) zs,(sW σ).L⟩,?_,P9 (VF hB _ zs),?_⟩
 ·have hn:xs.length-lo=(xs.length-lo-1)+1:=by omega
  have e:(Builtin.zeroCells z.cells (xs.length-lo)).toList=zs:=uZ' z.cells (by omega) _
  unfold Builtin.clear_;simp only [MU',List.getElem?_cons_zero,Sem.run_bind,run_underlying hu,Result.andThen_ok];generalize hm:xs.length-lo=m at *;obtain ⟨m',rfl⟩:∃ m',m=m'+1:=⟨m-1,hn⟩;simp [zeroValue,typeInfo,hi,hz,e,hst]
 ·have hsplit:xs=xs.take lo++xs.drop lo:=(Mm' lo xs).symm;rw [hsplit] at h4;obtain ⟨c1,c2,e1,f1,f2⟩:=h4.split;have hl1:c1.length=lo*Rp.sz α:=by rw [f1.len,LC',Nw' (by omega)]
  have hw:gT σ ⟨σ.w.setCells g (lo*Rp.sz α) zs,(sW σ).L⟩:=(iA' σ).trans (VF hB (lo*Rp.sz α) zs).eP;have hfz:∀ m:Nat,dJ (⟨σ.w.setCells g (lo*Rp.sz α) zs,(sW σ).L⟩:S) (Ll' m a) ((Ll' m z.cells.toList).flatten):=by
   intro m
   induction m with
   | zero=>rfl
   | succ m ih=>exact ⟨_,_,by simp [MR'],Rp.mono hw ha,ih⟩
  have hlen:(xs.take lo++Ll' (xs.length-lo) a).length=xs.length:=by simp; omega
  refine ⟨(aM.toList.take (lo*Rp.sz α)++zs++aM.toList.drop (lo*Rp.sz α+zs.length)).toArray,c1++zs,rfl,LY g E zs (lo*Rp.sz α) σ.w aM.toList (by simpa using hh) hle,by rw [hlen]; exact h1,h2,?_,(f1.mono hw).app (hfz _),?_,?_⟩
  ·simp only [Nq',Lf',LC',LK'];rw [hcl] at hle ⊢;omega
  ·have e2:aM.toList.take (lo*Rp.sz α)=c1:=by
    have:(aM.toList.take (xs.length*Rp.sz α)).take (lo*Rp.sz α)=c1:=by rw [h5,e1,<- hl1,MJ']
    rw [<- this,List.take_take,Nw' (LA' _ (by omega))]
   rw [hlen,e2];have:(c1++zs).length=xs.length*Rp.sz α:=by rw [Lf',hl1,kL',hmul]
   rw [<- this];exact MJ'
  ·show (σ.L g).1=_;exact h6
theorem CY' {α:Type} [Rp α] {T E:TypeId}{z:Value}{bytes m:Nat}{len cap:Int}{a:α}(hT:ru P T E z (Rp.sz α) bytes)(ha:Rp.cells σ a z.cells.toList)(hm:jY len cap bytes=some m) :
 ∃ τ k,(Instr.makeSlice T (.int .i64 len) (.int .i64 cap)).run P σ.w=.ok (.slice (some ⟨σ.N,0,none⟩) (Ll' m a).length k) τ.w/\Stp rf σ τ/\fD (some σ.N) false E τ (Ll' m a) (some ⟨σ.N,0,none⟩) k /\
  ∀ (j u:Nat) (v:Value),j<m->z.cells.toList[u]?=some v->τ.w.cell? ⟨σ.N,j*Rp.sz α+u,none⟩=some v:=by
 obtain ⟨hu,⟨i,hi,hz,hsz,hby⟩,hzs,hp,hbp⟩:=hT;obtain ⟨hb,hm⟩:=bA hm;cases hm;simp only [Lc',decide_eq_true_eq] at hb;obtain ⟨⟨h0,h1⟩,h2⟩:=hb;have hcap:cap<=140737488355328:=Int.le_trans (by
  have:cap*1<=cap*(bytes:Int):=Int.mul_le_mul_of_nonneg_left (by omega) (by omega)
  omega) h2
 have hr:=run_make (P:=P) σ.w T E i z hu hi hz .i64 .i64 len cap h0 h1 (by rw [hby,Int.mul_comm]; omega) (by omega)
 rw [hsz] at hr
 let cs:=(madeCells z.cells (cap.toNat*Rp.sz α))
 let τ:S:=⟨σ.w.alloc (.cells cs E),λb=>if b=σ.N then (0,b) else σ.L b⟩
 have hold:∀ b,b<σ.N->τ.w.heap[b]?=σ.w.heap[b]?:=λb hb=>heap_alloc_old σ.w _ hb;have hL:∀ b,b<σ.N->τ.L b=σ.L b:=λb hb=>by simp [τ,Nat.ne_of_lt hb]
 have hw:gT σ τ:=⟨by simp [S.N,τ],λb hb=>by rw [hL b hb]; exact Lg' _,λb o v _ hv=>(wJ (hold b (um hv)) o).trans hv,Lg' _,λb o hb hf=>(Ck (hold b hb) o).trans hf⟩
 have hlen:z.cells.toList.length=Rp.sz α:=by simpa using hzs
 have hfl:∀ k:Nat,dJ τ (Ll' k a) ((Ll' k z.cells.toList).flatten):=by
  intro k
  induction k with
  | zero=>rfl
  | succ k ih=>exact ⟨_,_,by simp [MR'],Rp.mono hw ha,ih⟩
 have hget:∀ (k j:Nat),j<k*Rp.sz α->((Ll' k z.cells.toList).flatten)[j]?=z.cells[j%Rp.sz α]?:=by
  intro k
  induction k with
  | zero=>intro j hj; simp at hj
  | succ k ih =>
    intro j hj;rw [MR',List.flatten_cons];by_cases hlt:j<Rp.sz α
    ·rw [LD' (by omega),Nt' hlt,Lz']
    ·rw [Ls' (by omega),hlen,ih (j-Rp.sz α) (by rw [LP',NF'] at hj; omega)]
     congr 1;exact (Nat.mod_eq_sub_mod (Nu' hlt)).symm
 have El':∀ j,j<len.toNat*Rp.sz α->cs[j]?=z.cells[j%Rp.sz α]?:=λj hj=>by
  have hle:len.toNat*Rp.sz α<=cap.toNat*Rp.sz α:=LA' _ (by omega)
  have hmod:j%Rp.sz α<z.cells.size:=by rw [hzs]; exact Nat.mod_lt _ hp
  simp only [cs,madeCells,Array.getElem?_map];rw [Array.getElem?_range];simp [show j<cap.toNat*Rp.sz α from by omega,hzs,Mw' hmod,getElem!_pos z.cells (j%Rp.sz α) hmod]
 refine ⟨τ,cap.toNat,by rw [hr,Ny'],⟨hw,rfl,rfl,rfl,λb hb _=>⟨hold b hb,by rw [hL b hb]⟩⟩,⟨cs,(Ll' len.toNat z.cells.toList).flatten,rfl,heap_alloc_new _ _,by rw [Ny']; omega,by simp only [maxLen]; omega,
  size_madeCells _ _,hfl _,?_,by simp [τ]⟩,λj u v hj hv=>?_⟩
 rotate_left
 ·have hul:u<Rp.sz α:=by rw [<- hlen]; exact (La'.1 hv).1
  have hjl:j*Rp.sz α+u<len.toNat*Rp.sz α:=by have:(j+1)*Rp.sz α<=len.toNat*Rp.sz α:=LA' _ hj;rw [LP',NF'] at this;omega
  have hh:τ.w.heap[σ.N]?=some (.cells cs E (0,0)):=heap_alloc_new _ _;have:=El' _ hjl;rw [Nat.mul_comm,Nat.mul_add_mod,Nt' hul,<- Lz',<- Lz',hv] at this;rw [Nat.mul_comm];simpa [World.cell?,hh] using this
 rw [Ny'];apply Np';intro j;have hle:len.toNat*Rp.sz α<=cap.toNat*Rp.sz α:=LA' _ (by omega)
 by_cases hj:j<len.toNat*Rp.sz α
 ·rw [Lw' hj,hget _ _ hj,Lz'];have hmod:j%Rp.sz α<z.cells.size:=by rw [hzs]; exact Nat.mod_lt _ hp
  simp only [cs,madeCells,Array.getElem?_map];rw [Array.getElem?_range];simp [show j<cap.toNat*Rp.sz α from by omega,hzs,Mw' hmod,getElem!_pos z.cells (j%Rp.sz α) hmod]
 ·rw [LR' (by rw [LC']; omega),LR']
  rw [(hfl len.toNat).len,Ny'];omega
end
section
variable {I:TypeId->Type} [∀ E,Rp (I E)] {P:Program}{tb:aX I}{X:bZ}{c c':Cx}{σ τ:S}{s:St I}{n:Nat}{F:Fr}{O:aN I}
theorem Rel.stepG {G:Nat->Prop}(h:Rel X c σ s n F)(st:Stp G σ τ)(hG:∀ b,G b->X.M b)(hn:∀ l p g,bH s l->c l=some p->p.w=some g->¬ G g)(hi:∀ g,G g->eD c σ s g):Rel X c τ s n F:=by have stM:Stp X.M σ τ:=st.mono λb _ hb=>hG b hb;exact ⟨h.len,λi p hp=>RV.step stM p _ (h.frame i p hp),λl o ho=>(h.bB l o ho).step stM λp g h1 h2=>st.block g ((h.bB l o ho).lt h1 h2) (hn l p g ⟨o,ho⟩ h1 h2),h.inj,h.mine,h.jh,⟨Lr' h.base.1 st.eP.size,h.base.2⟩,h.aP.step st (λl E E' u xs q g k m w e hc hx hg=>hn l _ g ⟨_,e⟩ hc ((h.bB l _ e).Ml hc hx) hg) λl i b hb hg=>hi b hg l i hb⟩
theorem eD.step {G:Nat->Prop}{g:Nat}(k:eD c σ s g)(h:Rel X c σ s n F)(st:Stp G σ τ)(hn:∀ l p g,bH s l->c l=some p->p.w=some g->¬ G g)(hi:∀ g,G g->eD c σ s g):eD c τ s g :=
 λl i hb=>k l i ((h.aP.both st (λl _ _ _ _ _ g _ _ _ e hc hx hg=>hn l _ g ⟨_,e⟩ hc ((h.bB l _ e).Ml hc hx) hg) λl i b hb hg=>hi b hg l i hb).2 l i g hb)
theorem Rel.Mr {g:Nat}(h:Rel X c σ s n F)(st:Stp rf σ τ)(hg:σ.N<=g):eD c τ s g:=(h.fresh hg).step h st (λ_ _ _ _ _ _ h=>h) λ_ h=>h.elim
omit [∀ E,Rp (I E)] in
theorem rI' {l:Nat}{o:Option (Ob I)}(h:s.O l=some o):bG s l o=s:=by
 have:cB s.O l o=s.O:=by
  funext i;by_cases e:i=l
  ·subst e; rw [iq,h]
  ·rw [fq e]
 simp only [bG,this]
theorem Rel.settle (h:Rel X c σ s n F){l:Nat}{E:TypeId}{xs:List (I E)}{fl:Bool}(hl:s.O l=some (some (.row E xs fl))):∃ τ,τ.w=σ.w/\Stp X.M σ τ/\Rel X c τ (bG s l (some (.row E xs true))) n F:=by
 cases fl with
 | true=>rw [rI' hl]; exact ⟨σ,rfl,Stp.refl _ _,h⟩
 | false =>have:=h.pub l;simpa only [Qx.pub,hl] using this
def aZ (s:St I)(O:aN I)(ls:List Nat):St I:=⟨s.n,s.F,dD s.O (bQ O ls),s.nx⟩
omit [∀ E,Rp (I E)] in
theorem jP' {l:Nat}{ls:List Nat}{E:TypeId}{xs:List (I E)}(h:O l=some (some (.row E xs false))):bQ O (l::ls)=(l,some (.row E xs true))::bQ O ls:=by simp only [bQ,h]
omit [∀ E,Rp (I E)] in
theorem aO' {l:Nat}{ls:List Nat}(h:∀ E (xs:List (I E)),O l≠some (some (.row E xs false))):bQ O (l::ls)=bQ O ls:=by
 show (match O l with | some (some (Ob.row E xs false))=>(l,some (Ob.row E xs true))::bQ O ls | _=>bQ O ls)=_
 split
 ·exact absurd ‹_› (h _ _)
 ·rfl
omit [∀ E,Rp (I E)] in
theorem Fp {l:Nat}(h:∀ E (xs:List (I E)),O l≠some (some (.row E xs false))):∀ (ls:List Nat) (Q:aN I),dD Q (bQ O ls) l=Q l
 | [],_=>rfl
 | x::ls,Q=>by
   by_cases hx:∃ E,∃ xs:List (I E),O x=some (some (.row E xs false))
   ·obtain ⟨E,xs,e⟩:=hx;rw [jP' e];have hne:l≠x:=λe'=>h E xs (by rw [e',e])
    exact (Fp h ls (cB Q x _)).trans (fq hne)
   ·rw [aO' λE xs e=>hx ⟨E,xs,e⟩];exact Fp h ls Q
theorem Rel.Y0:∀ (ls:List Nat) {σ:S} {s:St I},Rel X c σ s n F->(∀ l E (xs:List (I E)) fl,O l=some (some (.row E xs fl))->s.O l=some (some (.row E xs fl))\/s.O l=some (some (.row E xs true))) ->
 ∃ τ,τ.w=σ.w/\Stp X.M σ τ/\Rel X c τ (aZ s O ls) n F/\(∀ l,l ∉ ls->(aZ s O ls).O l=s.O l)/\(∀ l E (xs:List (I E)) fl,O l=some (some (.row E xs fl))->l∈ls->(aZ s O ls).O l=some (some (.row E xs true)))
 | [],σ,s,h,_=>⟨σ,rfl,Stp.refl _ _,h,λ_ _=>rfl,λ_ _ _ _ _ h=>by cases h⟩
 | l::ls,σ,s,h,hO=>by
   by_cases hx:∃ E,∃ xs:List (I E),O l=some (some (.row E xs false))
   ·obtain ⟨E,xs,e⟩:=hx;have hsl:∃ fl,s.O l=some (some (.row E xs fl)):=(hO l E xs false e).elim (λh=>⟨_,h⟩) (λh=>⟨_,h⟩);obtain ⟨fl,hsl⟩:=hsl;obtain ⟨τ,h1,h2,h3⟩:=h.settle hsl;have Dz:∀ l' E' (xs':List (I E')) kF,O l'=some (some (.row E' xs' kF))->(bG s l (some (.row E xs true))).O l'=some (some (.row E' xs' kF))\/(bG s l (some (.row E xs true))).O l'=some (some (.row E' xs' true)):=by
     intro l' E' xs' kF e';by_cases el:l'=l
     ·subst el;rw [e] at e';cases e';exact .inr (iq _ _ _)
     ·have:(bG s l (some (Ob.row E xs true))).O l'=s.O l':=fq el;rw [this];exact hO l' E' xs' kF e'
    obtain ⟨υ,k1,k2,k3,k4,k5⟩:=Rel.Y0 ls h3 Dz;have Y1:aZ s O (l::ls)=aZ (bG s l (some (.row E xs true))) O ls:=by simp only [aZ,jP' e]; rfl
    rw [Y1];refine ⟨υ,k1.trans h1,h2.trans k2,k3,λl' hl'=>?_,λl' E' xs' kF e' hl'=>?_⟩
    ·rw [Lq',not_or] at hl';rw [k4 l' hl'.2];exact fq hl'.1
    ·by_cases hm:l'∈ls
     ·exact k5 l' E' xs' kF e' hm
     ·rw [k4 l' hm];rcases Lq'.1 hl' with rfl | hl'
      ·rw [e] at e'; cases e'; exact iq _ _ _
      ·exact absurd hl' hm
   ·have hx':∀ E (xs:List (I E)),O l≠some (some (.row E xs false)):=λE xs e=>hx ⟨E,xs,e⟩;obtain ⟨υ,k1,k2,k3,k4,k5⟩:=Rel.Y0 ls h hO;have Y1:aZ s O (l::ls)=aZ s O ls:=by simp only [aZ,aO' hx']
    rw [Y1];refine ⟨υ,k1,k2,k3,λl' hl'=>k4 l' λhm=>hl' (by simp [hm]),λl' E' xs' kF e' hl'=>?_⟩
    by_cases hm:l'∈ls
    ·exact k5 l' E' xs' kF e' hm
    ·rw [k4 l' hm];rcases Lq'.1 hl' with rfl | hl'
     ·cases kF with
      | false=>exact absurd e' (hx' _ _)
      | true=>exact (hO _ _ _ _ e').elim id id
     ·exact absurd hl' hm
theorem Rel.pubs (h:Rel X c σ s n F)(hO:∀ l o,O l=some (some o)->s.O l=some (some o))(ls:List Nat) :
 ∃ τ,τ.w=σ.w/\Stp X.M σ τ/\Rel X c τ (aZ s O ls) n F/\iU X c τ O ls/\Rows X c τ O ls/\(∀ l,l ∉ ls->(aZ s O ls).O l=s.O l):=by
 obtain ⟨τ,h1,h2,h3,h4,h5⟩:=Rel.Y0 (O:=O) ls h (λl E xs fl e=>.inl (hO l _ e));refine ⟨τ,h1,h2,h3,⟨λl E xs fl e hl=>h3.bB l _ ?_,λl E xs e=>?_,λl T kd m e=>h3.bB l _ ?_,λl T vs w e=>h3.bB l _ ?_⟩,λl E xs fl e hl=>h3.bB l _ ?_,h4⟩
 ·by_cases hm:l∈ls
  ·exact h5 l E xs fl e hm
  ·rcases hl with rfl | hl
   ·rw [h4 l hm]; exact hO l _ e
   ·exact absurd hl hm
 ·obtain ⟨A,k,k1,k2⟩:=h.bB l _ (hO l _ e);exact ⟨A,k,k1,k2.mono h2.eP⟩
 ·show dD s.O (bQ O ls) l=_;rw [Fp (λE xs e'=>by rw [e] at e'; cases e')]
  exact hO l _ e
 ·show dD s.O (bQ O ls) l=_;rw [Fp (λE xs e'=>by rw [e] at e'; cases e')]
  exact hO l _ e
 ·rw [h4 l hl]; exact hO l _ e
omit [∀ E,Rp (I E)] in
theorem oD (O:aN I):∀ (a b:List (Nat×Option (Ob I))),dD O (a++b)=dD (dD O a) b
 | [],_=>rfl
 | x::r,b=>oD (cB O x.1 x.2) r b
theorem SN:∀ (ls:List (PV I)) (cs:List Value),ls.all Wd=true->RG X c σ ls cs->cs.all (·.oneCell')=true
 | [],_,_,h=>by simp only [RG] at h; subst h; rfl
 | p::ps,_,ho,h=>by
   simp only [RG] at h;obtain ⟨a,r,rfl,h1,h2⟩:=h;simp only [LE',Lc'] at ho;rw [Lv',Lc'];refine ⟨?_,SN ps r ho.2 h2⟩;rcases h1 with h1 | ⟨h0,v,rfl,h1⟩
   ·cases p<;>first | exact h1.elim | (rw [Le']; exact λu hu=>Rp.one h1 u hu)
   ·simp only [LE',Mf',Ma'];cases p<;>simp [Wd] at ho<;>simp only [RV] at h1 <;>
     first
      | (subst h1; rfl)
      | (obtain ⟨A,k,rfl,_⟩:=h1; rfl)
      | (obtain ⟨A,rfl⟩:=h1; rfl)
      | (obtain ⟨b,w,_,rfl⟩:=h1; rfl)
      | (obtain ⟨p,_,rfl⟩:=h1; rfl)
      | (obtain ⟨cs,rfl,_⟩:=h1; rfl)
      | (obtain ⟨f,KX',cs,rfl,_⟩:=h1; rfl)
      | (cases h0)
theorem ya' (ht:bT P tb){LS:List Nat}(hS:iU X c σ O LS){E:TypeId}{p:PV I}{a:I E}{ls:List Nat}(h:br' tb O E p=some (a,ls))(hl:∀ l∈ls,l∈LS){v:Value}(hv:RV X c σ p v):Rp.cells σ a v.cells.toList:=by obtain ⟨qs,hq,h⟩:=bind_some h;obtain ⟨t,ht',h⟩:=bind_some h;obtain ⟨b,hb,h⟩:=bind_some h;cases h;exact Oq ht hb (Sq hS (ls:=t.2) ht' hl (zJ hq hv))
theorem FY (ht:bT P tb){LS:List Nat}(hS:iU X c σ O LS):∀ {ks:List Kd} {ps:List (PV I)} {x:jl I ks} {ls:List Nat},ug tb O ks ps=some (x,ls)->(∀ l∈ls,l∈LS)->∀ {vs:List Value},aB X c σ ps vs->qI σ ks x vs
 | [],[],_,_,h,_,vs,hv=>by cases h; simpa only [aB,qI] using hv
 | k::ks,p::ps,_,_,h,hl,vs,hv=>by obtain ⟨x,hx,h⟩:=bind_some h;obtain ⟨y,hy,h⟩:=bind_some h;cases h;simp only [aB] at hv;obtain ⟨v,r,rfl,h1,h2⟩:=hv;exact ⟨v,r,rfl,yI ht hS (ls:=x.2) hx (λl hm=>hl l (by simp [hm])) h1,FY ht hS (ls:=y.2) hy (λl hm=>hl l (by simp [hm])) h2⟩
 | [],_::_,_,_,h,_,_,_=>by simp [ug] at h
 | _::_,[],_,_,h,_,_,_=>by simp [ug] at h
theorem dz' (ht:bT P tb){G:Nat->Option (PV I)}(hG:tu X c σ G F){LS:List Nat}(hS:iU X c σ O LS){E:TypeId}:∀ {i:Nat} {ps:List (Nat×Operand)} {xs:List (I E)} {ls:List Nat},UN tb O n G E i ps=some (xs,ls)->(∀ l∈ls,l∈LS) ->
 ∃ vs:List Value,ps.map (λp=>(p.1,ev F p.2))=(vs.zipIdx i).map (λp=>(p.2,p.1))/\ps.all (λp=>bR n p.2)=true/\vs.length=xs.length/\(∀ v∈vs,v.cells.size=Rp.sz (I E))/\dJ σ xs (vs.flatMap (·.cells.toList))
 | i,[],xs,_,h,_=>by cases h;exact ⟨[],rfl,rfl,rfl,λv hv=>by simp at hv,rfl⟩
 | i,(j,x)::r,xs,_,he,hl=>by
   obtain ⟨hb,he⟩:=bA he;have e:=Li' hb;subst e;obtain ⟨p,hp,he⟩:=bind_some he;obtain ⟨a,ha,he⟩:=bind_some he;obtain ⟨KX',has,he⟩:=bind_some he;cases he;obtain ⟨h1,h2⟩:=Jv hG hp;have h3:=ya' ht hS (ls:=a.2) ha (λl hm=>hl l (by simp [hm])) h2
   obtain ⟨vs,g1,g2,g3,g4,g5⟩:=dz' ht hG hS (ls:=KX'.2) has (λl hm=>hl l (by simp [hm]))
   refine ⟨ev F x::vs,by simp [g1],by simp [h1,g2],by simp [g3],λv hv=>?_,?_⟩
   ·rcases Lq'.1 hv with rfl | hv
    ·have:=Rp.len h3;simpa using this
    ·exact g4 v hv
   ·simp only [Mk'];exact ⟨_,_,rfl,h3,g5⟩
theorem tu.step {G:Nat->Option (PV I)}(h:tu X c σ G F)(st:Stp X.M σ τ):tu X c τ G F:=λt p hp=>RV.step st p _ (h t p hp)
theorem Gj {ops:Array Oper}{Q:Exit->Act->World->Prop}{rest:List Oper}{f:FuncId}{vs:List Value}{E:S->Prop}{R:Value->S->Prop}{o:Oper}(hg:o.guard=none)(hc:kX P f vs σ E R)
 (hrun:(execOp (fr n F).eval o).run P σ.w=(callFunc f vs.toArray).run P σ.w) (h:∀ v τ,E τ->R v τ->wpList P ops Q rest (fr n (dF F o.dst v)) τ.w):wpList P ops Q (o::rest) (fr n F) σ.w:=by
 rcases hc with ⟨⟨fn,cd,h1,h2,h3⟩,En'⟩ | ⟨v,τ,h1,h2,h3⟩
 ·refine wpList_plain hg λK hK=>?_;unfold Oper.wp;have h3' : fn.name ≠ "runtime.NumGoroutine" := by simpa using h3
  have:(callFunc f vs.toArray).run P σ.w=.ok (.enter f vs.toArray) σ.w:=by simp [callFunc,h1,h2,h3']
  rw [hrun,this,Oper.upon_enter];refine En'.mono λe w' ⟨v,τ,he,hw,hx,hr⟩=>?_;subst he;subst hw;exact hK _ _ (by rw [J8]; exact h v τ hx hr)
 ·exact gH hg v τ.w (by rw [hrun,h1]) (h v τ h2 h3)
theorem X8 {xs:List Operand}{ats:Array TypeId}{d:Option Nat}{ty:TypeId}{pos:String}{bV:Array Edge}{f:FuncId}(hk:xs.all (bR n)=true)(w:World) :
 (execOp (fr n F).eval ⟨d,.call ⟨.value (.func f),xs.toArray,ats⟩,ty,pos,bV,none⟩).run P w=(callFunc f (xs.map (ev F)).toArray).run P w:=by
 have he:xs.toArray.map (fr n F).eval=(xs.map (ev F)).toArray:=by simp only [List.map_toArray];congr 1;exact Nb' λx hx=>dx ((Le'.1 hk) x hx)
 simp [execOp,resolve,Act.eval,Deferred.ofValue,invoke,he]
theorem Yg {xs:List Operand}{ats:Array TypeId}{d:Option Nat}{ty:TypeId}{pos:String}{bV:Array Edge}{t:Tmp}{f:FuncId}{KX' cs:List Value}(hk:xs.all (bR n)=true)(hkt:bR n (.tmp t)=true)(ht:F t=.func (.func f) KX'.toArray cs.toArray)(w:World) :
 (execOp (fr n F).eval ⟨d,.call ⟨.value (.tmp t),xs.toArray,ats⟩,ty,pos,bV,none⟩).run P w=(callFunc f (KX'++xs.map (ev F)++cs).toArray).run P w:=by
 have he:xs.toArray.map (fr n F).eval=(xs.map (ev F)).toArray:=by simp only [List.map_toArray];congr 1;exact Nb' λx hx=>dx ((Le'.1 hk) x hx)
 have ht':(fr n F).eval (.tmp t)=.func (.func f) KX'.toArray cs.toArray:=by rw [dx (x:=.tmp t) hkt]; exact ht
 simp [execOp,resolve,ht',Deferred.ofValue,invoke,he]
theorem jE' {w:World}{b:Nat}{cs:List Value}{T:TypeId}(h:w.heap[b]?=some (.cells cs.toArray T (0,0))):w.rangeAt b 0 cs:=λj v hv=>by
 simp [World.cell?,h,hv]
theorem FC:∀ {ps:List (PV I)} {vs:List Value},aB X c σ ps vs->RV X c σ (mJ ps) (jU vs)
 | [],vs,h=>by simp only [aB] at h;subst h;simp only [mJ,jU,RV];exact ⟨[],rfl,by simp only [aB]⟩
 | [p],vs,h=>by simp only [aB] at h;obtain ⟨v,r,rfl,h1,rfl⟩:=h;exact h1
 | p::q::ps,vs,h=>by have h':=h;simp only [aB] at h;obtain ⟨v,r,rfl,h1,u,r',rfl,h2⟩:=h;simp only [mJ,jU,RV];exact ⟨_,rfl,h'⟩
theorem Px {α:Type} [Rp α] {xs:List α}{cs:List Value}(h:dJ σ xs cs){j:Nat}{x:α}(hx:xs[j]?=some x) :
 ∃ c1 cj c2,cs=c1++cj++c2/\c1.length=j*Rp.sz α/\Rp.cells σ x cj/\∀ (υ:S) (x':α) (cj':List Value),gT σ υ->Rp.cells υ x' cj'->dJ υ (xs.set j x') (c1++cj'++c2):=by
 have hi:j<xs.length:=(La'.1 hx).1;have hsplit:xs=xs.take j++(x::xs.drop (j+1)):=by have:=Mm' j xs;rw [LO' hi] at this;rw [<- (La'.1 hx).2];exact this.symm
 rw [hsplit] at h;obtain ⟨c1,d,rfl,f1,f2⟩:=h.split;obtain ⟨cx,r,rfl,hc,f3⟩:=f2;refine ⟨c1,cx,r,by simp,by rw [f1.len,LC']; congr 1; omega,hc,λυ x' cj' hw hx'=>?_⟩
 rw [NE',if_pos hi,Lt'];exact (f1.mono hw).app ⟨cj',r,rfl,hx',f3.mono hw⟩
theorem gQ' {ops:Array Oper}{Q:Exit->Act->World->Prop}{rest:List Oper}{d:Option Nat}{ty:TypeId}{pos:String}{bV:Array Edge}{T E:TypeId}{x y:Operand}{g len k sz:Nat}{j:Int}{w:World}
 (h0:0<=j) (hlt:j<(len:Int)) (hx:ev F x=.slice (some ⟨g,0,none⟩) len k) (hy:ev F y=.int .i64 j) (hkx:bR n x=true) (hky:bR n y=true)
 (hT:P.underlying T=some (.slice E)) (hE:(P.info? E).map (·.size)=some sz)
 (h:wpList P ops Q rest (fr n (dF F d (.pointer (some ⟨g,j.toNat*sz,none⟩)))) w) :
 wpList P ops Q (⟨d,.indexAddr T x y,ty,pos,bV,none⟩::rest) (fr n F) w:=by
 refine gH rfl (.pointer (some ⟨g,j.toNat*sz,none⟩)) w ?_ h;show Sem.run P (do pure (Next.value (<- Instr.indexAt T ((fr n F).eval x) ((fr n F).eval y)))) w=_
 rw [dx hkx,dx hky,hx,hy];simp only [Instr.indexAt,asIntOf,Sem.run_bind,Sem.run_pure,Result.andThen_ok,run_underlying hT,if_pos (And.intro h0 hlt),Sx.run_sizeOf hE,Addr.add_mid,LM']
theorem gr' {ops:Array Oper}{Q:Exit->Act->World->Prop}{rest:List Oper}{d:Option Nat}{ty:TypeId}{pos:String}{bV:Array Edge}{T E:TypeId}{x y:Operand}{g o len k sz:Nat}{j:Int}{w:World}
 (h0:0<=j) (hlt:j<(len:Int)) (hx:ev F x=.slice (some ⟨g,o,none⟩) len k) (hy:ev F y=.int .i64 j) (hkx:bR n x=true) (hky:bR n y=true)
 (hT:P.underlying T=some (.slice E)) (hE:(P.info? E).map (·.size)=some sz)
 (h:wpList P ops Q rest (fr n (dF F d (.pointer (some ⟨g,o+j.toNat*sz,none⟩)))) w) :
 wpList P ops Q (⟨d,.indexAddr T x y,ty,pos,bV,none⟩::rest) (fr n F) w:=by
 refine gH rfl (.pointer (some ⟨g,o+j.toNat*sz,none⟩)) w ?_ h;show Sem.run P (do pure (Next.value (<- Instr.indexAt T ((fr n F).eval x) ((fr n F).eval y)))) w=_
 rw [dx hkx,dx hky,hx,hy];simp only [Instr.indexAt,asIntOf,Sem.run_bind,Sem.run_pure,Result.andThen_ok,run_underlying hT,if_pos (And.intro h0 hlt),Sx.run_sizeOf hE,Addr.add_mid]
theorem Wx {ops:Array Oper}{Q:Exit->Act->World->Prop}{rest:List Oper}{d:Option Nat}{ty:TypeId}{pos:String}{bV:Array Edge}{T E:TypeId}{x y:Operand}{w:World}{m k i b o:Nat}{n:Nat}{F:Fr}{P:Program}
 (hx:ev F x=.pointer (some ⟨b,o,none⟩)) (hy:ev F y=.int .i64 (Int.ofNat i)) (hkx:bR n x=true) (hky:bR n y=true) (hT:P.underlying T=some (.array m E)) (hE:(P.info? E).map (·.size)=some k) (hi:i<m)
 (h:wpList P ops Q rest (fr n (dF F d (.pointer (some ⟨b,o+i*k,none⟩)))) w) :
 wpList P ops Q (⟨d,.indexAddr T x y,ty,pos,bV,none⟩::rest) (fr n F) w:=by
 refine gH rfl (.pointer (some ⟨b,o+i*k,none⟩)) w ?_ h;show Sem.run P (do pure (Next.value (<- Instr.indexAt T ((fr n F).eval x) ((fr n F).eval y)))) w=_
 rw [dx hkx,dx hky,hx,hy];have h0:(0:Int)<=(i:Int)/\(i:Int)<(m:Int):=⟨Int.natCast_nonneg i,by simpa using hi⟩
 simp only [Instr.indexAt,Instr.sureAddr,asIntOf,Sem.run_bind,Sem.run_pure,Result.andThen_ok,run_underlying hT,Addr.add_mid,Int.ofNat_eq_natCast,Ln',if_pos h0,Sx.run_sizeOf hE]
theorem Ea' (pl:List (Nat×Nat))(g:Nat->Option (Nat×Nat))(hg:∀ i x,pl[i]?=some x->g i=some x):∀ (parts:List (Nat×Value)) (cells out:List Value),xP pl cells (parts.map λp=>(p.1,p.2.cells.toList))=some out ->
 Instr.fill g cells.toArray parts=some out.toArray:=λparts cells out h=>by
 have h1:=WR pl parts cells out h;have key:∀ (parts:List (Nat×Value)) (cs:Array Value) (o:Array Value),Instr.fill (pl.toArray[·]?) cs parts=some o->Instr.fill g cs parts=some o:=by
  intro parts
  induction parts with
  | nil=>intro cs o h; exact h
  | cons p r ih =>
    intro cs o h;simp only [Instr.fill] at h ⊢;cases hp:pl.toArray[p.1]? with
    | none=>rw [hp] at h; cases h
    | some x =>
      rw [hp] at h;rw [hg p.1 x (by simpa using hp)]
      simp only at h ⊢;split at h
      ·cases h
      ·rename_i hne;rw [if_neg hne];exact ih _ _ h
 exact key parts _ _ h1
theorem uW' {ops:Array Oper}{Q:Exit->Act->World->Prop}{rest:List Oper}{d:Option Nat}{ty:TypeId}{pos:String}{bV:Array Edge}{n:Nat}{F:Fr}{P:Program}{T:TypeId}{ps:List (Nat×Operand)}{w:World}{pl:List (Nat×Nat)}{zs:List Value}
 (hT:ee' P T pl zs) (vs:List (Nat×Value)) (cs:List Value)
 (hps:ps.map (λp=>(p.1,ev F p.2))=vs) (hk:ps.all (λp=>bR n p.2)=true) (hf:xP pl zs (vs.map λp=>(p.1,p.2.cells.toList))=some cs)
 (h:wpList P ops Q rest (fr n (dF F d (.agg cs.toArray))) w) :
 wpList P ops Q (⟨d,.build T ps.toArray,ty,pos,bV,none⟩::rest) (fr n F) w:=by
 refine gH rfl (.agg cs.toArray) w ?_ h;obtain ⟨m,e,ie,i,z,h1,h0,h2,h3,h4,h5⟩:=hT;have he:(ps.toArray.map λ(i,x)=>(i,(fr n F).eval x)).toList=vs:=by rw [<- hps];simp only [Array.toList_map];apply Nb';intro p hp;rw [dx ((Le'.1 hk) p hp)]
 have hb:P.built T vs=some cs.toArray:=by
  simp only [Program.built,h2,h1,h3,h0,h4];refine Ea' pl _ (λi x hx=>?_) vs zs cs hf;rw [h5,Na'] at hx;cases hr:(LY' m)[i]? with
  | none=>rw [hr] at hx; cases hx
  | some y =>
    rw [hr] at hx;have hlt:i<m:=by have:=(La'.1 hr).1; simpa using this
    have:=(List.getElem?_range hlt).symm.trans hr;cases this;simpa using hx
 have hr:=run_build (P:=P) w T (ps.toArray.map λ(i,x)=>(i,(fr n F).eval x)) cs.toArray (by rw [he,hb])
 show Sem.run P (do pure (Next.value (<- Instr.build T (ps.toArray.map λ(i,x)=>(i,(fr n F).eval x))))) w=_
 rw [Sem.run_bind,hr];rfl
theorem sf' {T E:TypeId}{cs:List Value}{v:Value}{w:World}{m k i:Nat}{P:Program}(hT:P.underlying T=some (.array m E))(hE:(P.info? E).map (·.size)=some k)(hi:i<m)(hp:(part E cs.toArray (i*k)).run P w=.ok v w) :
 bg P w (Instr.index T (.agg cs.toArray) (.int .i64 (Int.ofNat i))) v:=by
 have h0:(0:Int)<=(i:Int)/\(i:Int)<(m:Int):=⟨Int.natCast_nonneg i,by simpa using hi⟩
 show Sem.run P _ w=_;simp only [Instr.index,asIntOf,Sem.run_bind,Sem.run_pure,Result.andThen_ok,run_underlying hT,Int.ofNat_eq_natCast,Ln',if_pos h0,Sx.run_sizeOf hE,hp]
theorem fD.el {α:Type} [Rp α] {ow:Option Nat}{fl:Bool}{E:TypeId}{σ:S}{xs:List α}{b q k:Nat}(k2:fD ow fl E σ xs (some ⟨b,q,none⟩) k){j:Nat}{x:α}(hxj:xs[j]?=some x):∃ cj,Rp.cells σ x cj/\σ.w.rangeAt b (q+j*Rp.sz α) cj:=by
 cases ow with
 | none =>
   rcases k2 with ⟨e,_⟩ | ⟨_,_,hs⟩
   ·subst e; simp at hxj
   ·obtain ⟨b',o',cj,e,e1,e2⟩:=hs.at_ hxj;cases e;exact ⟨cj,e1,e2.2⟩
 | some g =>
   obtain ⟨aM,cs,e,hh,a1,a2,a3,a4,a5,_⟩:=k2;cases e;obtain ⟨c1,cj,c2,e1,e2,e3,_⟩:=Px a4 hxj;refine ⟨cj,e3,λi v hv=>?_⟩;have hil:=(La'.1 hv).1;have e4:cs[j*Rp.sz α+i]?=some v:=by rw [e1,Lt',Ls' (by omega),e2,Mt',LD' hil,hv]
   have hlt:j*Rp.sz α+i<xs.length*Rp.sz α:=by have:=(La'.1 e4).1;rw [<- a5,LC'] at this; omega
   rw [<- a5,Lw' hlt,Lz'] at e4;rw [LM'];simp [World.cell?,hh,e4]
theorem Ac' {O:aN I}(hO:∀ l o,O l=some (some o)->gI X c σ l o){E:TypeId}{p:PV I}{xs:List (I E)}{v:Value}(h:XY O E p=some xs)(hv:RV X c σ p v) :
 ∃ A q cs,v=.slice A xs.length q/\dJ σ xs cs/\(xs≠[]->∃ b o,A=some ⟨b,o,none⟩/\σ.w.rangeAt b o cs):=by
 have Eo':∀ {A:Option Addr} {k:Nat} {ow:Option Nat} {fl:Bool} {xs:List (I E)},fD ow fl E σ xs A k->∃ cs,dJ σ xs cs/\(xs≠[]->∃ b o,A=some ⟨b,o,none⟩/\σ.w.rangeAt b o cs):=λ{A k ow fl xs} hw=>by
  cases ow with
  | none =>
    rcases hw with ⟨rfl,_⟩ | ⟨_,_,hs⟩
    ·exact ⟨[],rfl,λhn=>absurd rfl hn⟩
    ·obtain ⟨_,_,cs,f1,f2⟩:=hs;refine ⟨cs,f1,λhn=>?_⟩;obtain ⟨b,o,e,f3⟩:=f2 hn;exact ⟨b,o,e,f3.2⟩
  | some g =>
    obtain ⟨aM,cs,e,hh,a1,a2,a3,a4,a5,_⟩:=hw;refine ⟨cs,a4,λ_=>⟨g,0,e,λj v hv=>?_⟩⟩;have hj:=(La'.1 hv).1;have hlt:j<xs.length*Rp.sz (I E):=by rw [<- a5,LC'] at hj; omega
    rw [<- a5,Lw' hlt,Lz'] at hv;rw [LM'];simp [World.cell?,hh,hv]
 unfold XY at h;split at h
 ·obtain ⟨_,h⟩:=bA h;cases h;simp only [RV] at hv;obtain ⟨A,rfl⟩:=hv;exact ⟨A,0,[],rfl,rfl,λhn=>absurd rfl hn⟩
 ·obtain ⟨e,rfl⟩:=lM h;subst e;simp only [RV] at hv;obtain ⟨A,k,rfl,⟨_,_,cs,f1,f2⟩,_⟩:=hv;refine ⟨A,k,cs,rfl,f1,λhn=>?_⟩;obtain ⟨b,o,e,f3⟩:=f2 hn;exact ⟨b,o,e,f3.2⟩
 ·rename_i l;simp only [RV] at hv;obtain ⟨p,hp,rfl⟩:=hv;split at h
  ·rename_i E' ys fl ho;obtain ⟨e,rfl⟩:=lM h;subst e;obtain ⟨A,k,ow,k1,k2⟩:=hO _ _ ho;rw [hp] at k1;cases k1;obtain ⟨cs,f1,f2⟩:=Eo' k2;exact ⟨A,k,cs,rfl,f1,f2⟩
  ·rename_i E' ys ho;obtain ⟨e,rfl⟩:=lM h;subst e;obtain ⟨A,k,k1,⟨_,_,cs,f1,f2⟩⟩:=hO _ _ ho;rw [hp] at k1;cases k1;refine ⟨A,k,cs,rfl,f1,λhn=>?_⟩;obtain ⟨b,o,e,f3⟩:=f2 hn;exact ⟨b,o,e,f3.2⟩
  ·rename_i E' ys ho;obtain ⟨e,rfl⟩:=lM h;subst e;obtain ⟨A,k,k1,cs,f1,f2⟩:=hO _ _ ho;rw [hp] at k1;cases k1;refine ⟨A,k,cs,rfl,f1,λhn=>?_⟩;obtain ⟨b,o,e,f3,_⟩:=f2 hn;exact ⟨b,o,e,f3⟩
  ·cases h
 ·cases h
def Cv:List Value->List UInt8->Prop
 | [],bs=>bs=[]
 | v::r,bs=>∃ n b t,v=.int .u8 n/\bs=b::t/\b=UInt8.ofNat n.toNat/\Cv r t
theorem WA (ht:bT P tb){E:TypeId}(h8:tb.u8 E=true):∀ {xs:List (I E)} {cs:List Value},dJ σ xs cs->Cv cs (xs.map λx=>Uy (tb.lf E x))
 | [],_,h=>by cases h; rfl
 | x::xs,cs,h=>by
   obtain ⟨a,r,rfl,hc,hr⟩:=h;obtain ⟨_,hn⟩:=ht.u8 _ h8;obtain ⟨n,hn⟩:=hn x;have h1:=ht.lf ⟨P,0,λ_=>False⟩ (λ_=>none) σ E x a hc;rw [hn] at h1;simp only [RG] at h1;obtain ⟨a1,r1,e,h1,rfl⟩:=h1;rcases h1 with h1 | ⟨_,v,rfl,hv⟩
   ·exact h1.elim
   ·simp only [RV] at hv;subst hv;subst e;exact ⟨n,_,_,rfl,rfl,by show Uy (tb.lf E x)=_; rw [hn]; rfl,WA ht h8 hr⟩
theorem jv' {w:World}(d:ByteArray->Value->Sem (ForInStep ByteArray)):∀ {cs:List Value} {bs:List UInt8} (s:ByteArray),Cv cs bs ->
 (forIn cs s λc s=>(match c with
   | .int .u8 n=>pure (ForInStep.yield (s.push (UInt8.ofNat n.toNat)))
   | x=>d s x:Sem (ForInStep ByteArray))).run P w=.ok ⟨s.data++bs.toArray⟩ w
 | [],bs,s,h=>by have h:bs=[]:=h;subst h;simp
 | v::r,bs,s,h=>by obtain ⟨n,b,t,rfl,rfl,rfl,h⟩:=h;have ih:=jv' (w:=w) d (s.push (UInt8.ofNat n.toNat)) h;simp only [List.forIn_cons,Sem.run_bind,Sem.run_pure,Result.andThen_ok];rw [ih];congr 1;show ByteArray.mk (s.data.push (UInt8.ofNat n.toNat)++t.toArray)=_;congr 1;apply Array.ext';simp
theorem Cv.len:∀ {cs:List Value} {bs:List UInt8},Cv cs bs->cs.length=bs.length
 | [],_,h=>by have h:_=[]:=h;rw [h];rfl
 | _::_,_,⟨_,_,_,_,e,_,h⟩=>by rw [e,Ld',Ld',Cv.len h]
theorem AI' {src dst E:TypeId}{w:World}{A:Option Addr}{len q:Nat}{cs:List Value}{bs:List UInt8}(h1:P.underlying src=some (.slice E))(h2:P.underlying E=some (.int .u8))(h3:P.underlying dst=some .string)
 (hb:Cv cs bs) (hc:cs.length=len) (hr:len≠0->∃ b o,A=some ⟨b,o,none⟩/\w.rangeAt b o cs):bg P w (convert src dst (.slice A len q)) (.string ⟨bs.toArray⟩):=by
 unfold bg convert;simp only [Sem.run_bind,run_underlying h1,run_underlying h3,run_underlying h2,Result.andThen_ok];unfold Conv.bytesToString;cases A with
 | none =>
   have:len=0:=by
    by_cases h0:len=0
    ·exact h0
    ·obtain ⟨b,o,e,_⟩:=hr h0;cases e
   subst this;have:cs=[]:=LB' hc;subst this;have hb:bs=[]:=hb;subst hb;rfl
 | some a =>
   have hl:(loadCells a len).run P w=.ok cs.toArray w:=by
    by_cases h0:len=0
    ·subst h0;have:cs=[]:=LB' hc;subst this;rfl
    ·obtain ⟨b,o,e,hr'⟩:=hr h0;cases e;rw [<- hc];exact run_loadCells_list _ _ cs λj v hv=>by
      have hv:=hr' j v hv;by_cases h0:j=0
      ·subst h0; simpa [Addr.add] using hv
      ·simpa [Addr.add,h0] using hv
   simp only [Sem.run_bind,hl,Result.andThen_ok];simp;have hl2 := jv' (P := P) (w := w) (λs _ => (λ(_ : PUnit) => ForInStep.yield s) <$> stuck "bytesToString: byte expected") ByteArray.empty hb;refine (congrArg (λz=>Result.andThen z λa w'=>Result.ok (Value.string a) w') hl2).trans ?_;simp
section
variable {ops:Array Oper}{Q:Exit->Act->World->Prop}{rest:List Oper}{nb:Nat}
theorem Uv (ht:bT P tb)(_:Rel X c σ s n F)(_:X.P=P){G:Nat->Option (PV I)}(hG:tu X c σ G F)(hO:∀ l o,O l=some (some o)->gI X c σ l o){o:Oper}(hg:o.guard=none){e:Ef I}{aH:fQ I}
 (hno:match o.op with | .binOp .. | .unOp .. | .pick .. | .fieldAddr .. | .field .. | .load .. | .indexAddr .. | .index .. | .extract .. | .nilCheck .. | .convert .. | .build .. | .makeFunc .. | .move .. | .assign ..=>True | _=>False)
 (hx:xg tb aH n G O nb o.type o.op some=some e) (hnw:(∃ T x,o.op=.load T x)->e.new=[])
 (hk:∀ v p,e=⟨p,[],[]⟩->RV X c σ p v->wpList P ops Q rest (fr n (dF F o.dst v)) σ.w):wpList P ops Q (o::rest) (fr n F) σ.w:=by
 obtain ⟨d,op,ty,pos,bV,g⟩:=o;simp only at hg hx hk hno hnw;subst hg;have E1:∀ {x p},dN n G x=some p->bR n x=true/\RV X c σ p (ev F x):=λhp=>EK hG hp;have E2:∀ {x p T},rY tb n G T x=some p->bR n x=true/\RV X c σ p (ev F x):=λhp=>Jv hG hp;unfold xg at hx;split at hx<;>(try (exact hno.elim))
 ·replace hx:=bind_some hx;obtain ⟨p,hp,hx⟩:=hx;obtain ⟨h1,h2⟩:=E2 hp;cases hx;exact jZ _ rfl h1 (hk _ p rfl h2)
 ·replace hx:=bind_some hx;obtain ⟨p,hp,hx⟩:=hx;obtain ⟨h1,h2⟩:=E2 hp;cases hx;exact sj _ rfl h1 (hk _ p rfl h2)
 ·replace hx:=bind_some hx;obtain ⟨p,hp,hx⟩:=hx;replace hx:=bind_some hx;obtain ⟨q,hq,hx⟩:=hx;rw [dm'] at hx;replace hx:=bind_some hx;obtain ⟨z,hz,hx⟩:=hx;obtain ⟨h1,h2⟩:=E1 hp;obtain ⟨h3,h4⟩:=E1 hq;obtain ⟨u,hu,hr⟩:=ta' ht hz h2 h4;cases hx;exact vv _ _ u rfl rfl h1 h3 hr (hk u z rfl hu)
 ·replace hx:=bind_some hx;obtain ⟨p,hp,hx⟩:=hx;obtain ⟨h1,h2⟩:=E1 hp;split at hx
  ·simp only [RV] at h2;cases hx;exact V9 _ _ h2 h1 xP' (hk _ _ rfl (by simp only [RV]))
  ·simp only [RV] at h2;cases hx;exact V9 _ _ h2 h1 qB' (hk _ _ rfl (by simp only [RV,wr]))
  ·simp only [RV] at h2;cases hx;exact V9 _ _ h2 h1 AQ' (hk _ _ rfl (by simp only [RV]))
  ·cases hx
 ·replace hx:=bind_some hx;obtain ⟨p,hp,hx⟩:=hx;replace hx:=bind_some hx;obtain ⟨q,hq,hx⟩:=hx;replace hx:=bind_some hx;obtain ⟨q',hq',hx⟩:=hx;obtain ⟨h1,h2⟩:=E1 hp;obtain ⟨h3,h4⟩:=E1 hq;obtain ⟨h5,h6⟩:=E1 hq';split at hx
  ·rename_i g;simp only [RV] at h2;cases g with
   | true=>cases hx; exact aW' true _ h2 rfl h1 h3 h5 (hk _ _ rfl h4)
   | false=>cases hx; exact aW' false _ h2 rfl h1 h3 h5 (hk _ _ rfl h6)
  ·cases hx
 ·replace hx:=bind_some hx;obtain ⟨p,hp,hx⟩:=hx;replace hx:=bind_some hx;obtain ⟨dd,hd,hx⟩:=hx;obtain ⟨h1,h2⟩:=E1 hp;split at hx
  ·rename_i l o;simp only [RV] at h2;obtain ⟨b,w,h3,h4⟩:=h2;cases hx;exact rW b o dd (o+dd) h4 h1 (ht.off _ _ _ hd) rfl (hk _ _ rfl (by simp only [RV]; exact ⟨b,w,h3,rfl⟩))
  ·rename_i E' x' o;simp only [RV] at h2;obtain ⟨b,q,cs,h3,h4,h5⟩:=h2;cases hx;exact rW b (q+o) dd (q+(o+dd)) h3 h1 (ht.off _ _ _ hd) (by omega) (hk _ _ rfl (by simp only [RV]; exact ⟨b,q,cs,rfl,h4,h5⟩))
  ·rename_i l sz j o;simp only [RV] at h2;obtain ⟨b,q,k,m,w,h3,h4⟩:=h2;cases hx;exact rW b (q+(j*sz+o)) dd (q+(j*sz+(o+dd))) h4 h1 (ht.off _ _ _ hd) (by omega) (hk _ _ rfl (by simp only [RV]; exact ⟨b,q,k,m,w,h3,rfl⟩))
  ·cases hx
 ·rename_i T x f;replace hx:=bind_some hx;obtain ⟨p,hp,hx⟩:=hx;replace hx:=bind_some hx;obtain ⟨dd,hd,hx⟩:=hx;replace hx:=bind_some hx;obtain ⟨T',hT',hx⟩:=hx;obtain ⟨h1,h2⟩:=E1 hp;replace hx:=bind_some hx;obtain ⟨ls,hls,hx⟩:=hx
  ·replace hx:=bind_some hx;obtain ⟨z,hz,hx⟩:=hx;obtain ⟨cs,h3,h4⟩:=H9 hls h2;cases hx;obtain ⟨fs,fl,a1,a2,a3,_⟩:=ht.off _ _ _ hd;obtain ⟨fs',kF,b1,b2,b3⟩:=ht.fty _ _ _ hT';rw [a1] at b1;cases b1;rw [a2] at b2;cases b2;obtain ⟨r,hr,hrun⟩:=ge' (w:=σ.w) ht hz h4;refine Bz' _ r h3 h1 ?_ (hk _ _ rfl hr);show (Instr.field T (.agg cs.toArray) f).run P σ.w=_;simp only [Instr.field,Sem.run_bind,run_underlying a1,Result.andThen_ok,a2,asAgg,Sem.run_pure,a3,b3,hrun]
 ·replace hx:=bind_some hx;obtain ⟨p,hp,hx⟩:=hx;obtain ⟨h1,h2⟩:=E1 hp;split at hx
  ·rename_i l o;split at hx
   ·rename_i T' ls w' ho;replace hx:=bind_some hx;obtain ⟨z,hz,hx⟩:=hx;obtain ⟨b,cs,k1,k2,k3,_⟩:=hO _ _ ho;simp only [RV] at h2;obtain ⟨b',w,h3,h4⟩:=h2;rw [k1] at h3;cases h3;obtain ⟨r,hr,hrun⟩:=Fu ht hz k2 (jE' k3);cases hx;rw [LM'] at hrun;exact om b o r h4 h1 hrun (hk _ _ rfl hr)
   ·cases hx
  ·rename_i E' x' o;replace hx:=bind_some hx;obtain ⟨z,hz,hx⟩:=hx;simp only [RV] at h2;obtain ⟨b,q,cs,h3,h4,h5⟩:=h2;obtain ⟨r,hr,hrun⟩:=Fu ht hz (RG.one h4) h5.2;cases hx;exact om b (q+o) r h3 h1 hrun (hk _ _ rfl hr)
  ·rename_i l sz j o;split at hx
   ·rename_i E xs fl ho;replace hx:=bA hx;obtain ⟨hsz,hx⟩:=hx;have hsz':=Li' hsz;replace hx:=bind_some hx;obtain ⟨x,hxj,hx⟩:=hx;replace hx:=bind_some hx;obtain ⟨z,hz,hx⟩:=hx;obtain ⟨A,k,ow,k1,k2⟩:=hO _ _ ho;simp only [RV] at h2;obtain ⟨b,q,k',m,w,h3,h4⟩:=h2;rw [k1] at h3;cases h3;cases hx;have hcj:∃ cj,Rp.cells σ x cj/\σ.w.rangeAt b (q+j*sz) cj:=by subst hsz';exact k2.el hxj
    obtain ⟨cj,e1,e2⟩:=hcj;obtain ⟨r,hr,hrun⟩:=Fu (X:=X) (c:=c) ht hz (RG.one e1) e2;rw [MC'] at hrun;exact om b (q+(j*sz+o)) r h4 h1 hrun (hk _ _ rfl hr)
   ·rename_i E xs ho;replace hx:=bA hx;obtain ⟨hsz,hx⟩:=hx;have hsz':=Li' hsz;replace hx:=bind_some hx;obtain ⟨x,hxj,hx⟩:=hx;replace hx:=bind_some hx;obtain ⟨z,hz,hx⟩:=hx;obtain ⟨A,k,k1,k2⟩:=hO _ _ ho;simp only [RV] at h2;obtain ⟨b,q,k',m,w,h3,h4⟩:=h2;rw [k1] at h3;cases h3;cases hx;obtain ⟨b',o',cj,e,e1,e2⟩:=k2.at_ hxj;cases e;rw [<- hsz'] at e2;obtain ⟨r,hr,hrun⟩:=Fu (X:=X) (c:=c) ht hz (RG.one e1) e2;rw [MC'] at hrun;exact om b (q+(j*sz+o)) r h4 h1 hrun (hk _ _ rfl hr)
   ·rename_i E E' u xs q0 ho;replace hx:=bA hx;obtain ⟨hsz,hx⟩:=hx;have hsz':=Li' hsz;replace hx:=bind_some hx;obtain ⟨x,hxj,hx⟩:=hx;replace hx:=bind_some hx;obtain ⟨z,hz,hx⟩:=hx;obtain ⟨A,k,ow,k1,k2⟩:=hO _ _ ho;simp only [RV] at h2;obtain ⟨b,q,k',m,w,h3,h4⟩:=h2;rw [k1] at h3;cases h3;subst hsz';obtain ⟨cj,e1,e2⟩:=k2.el hxj;obtain ⟨r,hr,hrun⟩:=Fu (X:=X) (c:=c) ht hz (RG.one e1) e2;rw [MC'] at hrun;cases hb:(Lm' q0 1&&Lm' o u) with
    | true =>
      rw [hb] at hx;simp only [cond_true] at hx;split at hx
      ·replace hx:=bind_some hx;obtain ⟨zs,_,hx⟩:=hx;cases hx;exact absurd (hnw ⟨_,_,rfl⟩) (by simp)
      ·cases hx
    | false =>rw [hb] at hx;cases hx;exact om b (q+(j*Rp.sz (I E)+o)) r h4 h1 hrun (hk _ _ rfl hr)
   ·cases hx
  ·cases hx
 ·rename_i T x y;replace hx:=bind_some hx;obtain ⟨p,hp,hx⟩:=hx;replace hx:=bind_some hx;obtain ⟨q,hq,hx⟩:=hx;replace hx:=bind_some hx;obtain ⟨j,hj,hx⟩:=hx;obtain ⟨h1,h2⟩:=E1 hp;obtain ⟨h3,h4⟩:=E1 hq;have oM:RV X c σ (.int .i64 j:PV I) (ev F y):=by
   unfold jk at hj;split at hj
   ·cases hj; exact h4
   ·cases hj
  simp only [RV] at oM;have main:∀ (E':TypeId),tb.el T=some E'->∀ (E:TypeId) (xs:List (I E)),(∃ A k,ev F x=.slice A xs.length k/\Sl σ xs A k)->(bif Lm' E E' then (ak xs j).bind λe=>val some (PV.ep E e 0) else none)=some e->wpList P ops Q (⟨d,.indexAddr T x y,ty,pos,bV,none⟩::rest) (fr n F) σ.w:=by intro E' hE E xs hs hy;obtain ⟨A,k,h5,h6⟩:=hs;replace hy:=bA hy;obtain ⟨hb,hy⟩:=hy;have e1:=Li' hb;subst e1;replace hy:=bind_some hy;obtain ⟨x,yZ,hy⟩:=hy;cases hy;obtain ⟨hT,hsz⟩:=ht.el _ _ hE;exact XV h6 yZ h5 oM h1 h3 hT hsz λb o cs hc hse=>hk _ _ rfl (by simp only [RV];exact ⟨b,o,cs,rfl,hc,hse⟩)
  split at hx
  ·replace hx:=bind_some hx;obtain ⟨⟨E,m,k⟩,ha,hx⟩:=hx;replace hx:=Mg hx;obtain ⟨i,_,hi,rfl,hx⟩:=hx;obtain ⟨hT,hE⟩:=ht.arr _ _ _ _ ha;simp only [RV] at h2;obtain ⟨b,w,hc,h5⟩:=h2;cases hx;exact Wx h5 oM h1 h3 hT hE (by simpa using hi) (hk _ _ rfl (by simp only [RV]; exact ⟨b,w,hc,rfl⟩))
  ·replace hx:=bind_some hx;obtain ⟨⟨E,m,k⟩,ha,hx⟩:=hx;replace hx:=Mg hx;obtain ⟨i,_,hi,rfl,hx⟩:=hx;obtain ⟨hT,hE⟩:=ht.arr _ _ _ _ ha;simp only [RV] at h2;obtain ⟨b,p,cs,h5,hc,hs⟩:=h2;cases hx;exact Wx h5 oM h1 h3 hT hE (by simpa using hi) (hk _ _ rfl (by simp only [RV]; exact ⟨b,p,cs,by simp only [MC'],hc,hs⟩))
  ·replace hx:=bind_some hx;obtain ⟨⟨E,m,k⟩,ha,hx⟩:=hx;replace hx:=Mg hx;obtain ⟨i,_,hi,rfl,hx⟩:=hx;obtain ⟨hT,hE⟩:=ht.arr _ _ _ _ ha;simp only [RV] at h2;obtain ⟨b,q',k',m',w,hc,h5⟩:=h2;cases hx;exact Wx h5 oM h1 h3 hT hE (by simpa using hi) (hk _ _ rfl (by simp only [RV]; exact ⟨b,q',k',m',w,hc,by simp only [MC']⟩))
  ·replace hx:=bind_some hx;obtain ⟨E',hE,hx⟩:=hx;simp only [RV] at h2;obtain ⟨A,k,h5,h6,_⟩:=h2;exact main _ hE _ _ ⟨A,k,h5,h6⟩ hx
  ·rename_i l;replace hx:=bind_some hx;obtain ⟨E',hE,hx⟩:=hx;simp only [RV] at h2;obtain ⟨pl,hc,h5⟩:=h2;split at hx
   ·rename_i E xs ho;obtain ⟨A,k,ow,k1,k2⟩:=hO _ _ ho;rw [k1] at hc;cases hc;exact main _ hE E xs ⟨A,k,h5,k2.sl⟩ hx
   ·rename_i E xs ho;obtain ⟨A,k,k1,k2⟩:=hO _ _ ho;rw [k1] at hc;cases hc;exact main _ hE E xs ⟨A,k,h5,k2⟩ hx
   ·rename_i E xs ho;obtain ⟨A,k,ow,k1,k2⟩:=hO _ _ ho;rw [k1] at hc;cases hc;replace hx:=bA hx;obtain ⟨hb,hx⟩:=hx;have e1:=Li' hb;subst e1;replace hx:=bind_some hx;obtain ⟨x,yZ,hx⟩:=hx;cases hx;obtain ⟨hT,hsz⟩:=ht.el _ _ hE;obtain ⟨h0,hxj⟩:=Gp yZ;have hlt:j<(xs.length:Int):=by have:=(La'.1 hxj).1; omega
    cases ow with
    | none =>
      rcases k2 with ⟨e,_⟩ | ⟨e,_⟩
      ·subst e; simp at hxj
      ·cases e
    | some g =>obtain ⟨aM,cs,e,_⟩:=k2;subst e;exact gQ' h0 hlt h5 oM h1 h3 hT hsz (hk _ _ rfl (by simp only [RV];exact ⟨g,0,k,xs.length,some g,k1,by simp only [LM',ME']⟩))
   ·rename_i E xs ho;obtain ⟨A,k,k1,k2⟩:=hO _ _ ho;rw [k1] at hc;cases hc;replace hx:=bA hx;obtain ⟨hb,hx⟩:=hx;have e1:=Li' hb;subst e1;replace hx:=bind_some hx;obtain ⟨x,yZ,hx⟩:=hx;cases hx;obtain ⟨hT,hsz⟩:=ht.el _ _ hE;obtain ⟨h0,hxj⟩:=Gp yZ;have hlt:j<(xs.length:Int):=by have:=(La'.1 hxj).1; omega
    obtain ⟨b',o',cj,e,_,_⟩:=k2.at_ hxj;subst e;exact gr' h0 hlt h5 oM h1 h3 hT hsz (hk _ _ rfl (by simp only [RV];exact ⟨b',o',k,xs.length,none,k1,by simp only [ME']⟩))
   ·rename_i E E1 u xs q0 ho;obtain ⟨A,k,ow,k1,k2⟩:=hO _ _ ho;rw [k1] at hc;cases hc;replace hx:=bA hx;obtain ⟨hb,hx⟩:=hx;have e1:=Li' hb;subst e1;replace hx:=bind_some hx;obtain ⟨x,yZ,hx⟩:=hx;cases hx;obtain ⟨hT,hsz⟩:=ht.el _ _ hE;obtain ⟨h0,hxj⟩:=Gp yZ;have hlt:j<(xs.length:Int):=by have:=(La'.1 hxj).1; omega
    cases ow with
    | none =>
      rcases k2 with ⟨e,_⟩ | ⟨e,_⟩
      ·subst e; simp at hxj
      ·cases e
    | some g =>obtain ⟨aM,cs,e,_⟩:=k2;subst e;exact gQ' h0 hlt h5 oM h1 h3 hT hsz (hk _ _ rfl (by simp only [RV];exact ⟨g,0,k,xs.length,some g,k1,by simp only [LM',ME']⟩))
   ·cases hx
  ·rename_i l sz lo;replace hx:=bind_some hx;obtain ⟨E',hE,hx⟩:=hx;simp only [RV] at h2;obtain ⟨b,k',m,w,hc,h5⟩:=h2;split at hx
   ·rename_i E xs ho;obtain ⟨A,k,ow,k1,k2⟩:=hO _ _ ho;rw [k1] at hc;cases hc;replace hx:=bA hx;obtain ⟨hb,hx⟩:=hx;simp only [Lc'] at hb;have e1:=Li' hb.1;have e2:=Li' hb.2;subst e1;subst e2;replace hx:=bind_some hx;obtain ⟨x,yZ,hx⟩:=hx;cases hx;obtain ⟨hT,hsz⟩:=ht.el _ _ hE;obtain ⟨h0,hxj⟩:=Gp yZ;have hlt:j<((xs.length-lo:Nat):Int):=by have:=(La'.1 hxj).1; rw [LK'] at this; omega
    exact gr' h0 hlt h5 oM h1 h3 hT hsz (hk _ _ rfl (by simp only [RV];exact ⟨b,0,_,xs.length,_,k1,by simp only [LP',ME',LM']⟩))
   ·cases hx
  ·cases hx
 ·rename_i T x y;replace hx:=bind_some hx;obtain ⟨p,hp,hx⟩:=hx;replace hx:=bind_some hx;obtain ⟨q,hq,hx⟩:=hx;obtain ⟨h1,h2⟩:=E1 hp;obtain ⟨h3,h4⟩:=E1 hq;split at hx
  ·rename_i t k j;replace hx:=bA hx;obtain ⟨hb,hx⟩:=hx;replace hx:=bind_some hx;obtain ⟨e1,he,hx⟩:=hx;simp only [RV] at h2 h4;cases hx;exact hU' _ _ _ h2 h4 h1 h3 (zq' (ht.isStr _ hb) he) (hk _ _ rfl (by simp only [RV]))
  ·replace hx:=bind_some hx;obtain ⟨j,hj,hx⟩:=hx;replace hx:=bind_some hx;obtain ⟨⟨E,m,k⟩,ha,hx⟩:=hx;replace hx:=bind_some hx;obtain ⟨ls,hls,hx⟩:=hx;replace hx:=Mg hx;obtain ⟨i,_,hi,rfl,hx⟩:=hx;replace hx:=bind_some hx;obtain ⟨z,hz,hx⟩:=hx;have oM:RV X c σ (.int .i64 (Int.ofNat i):PV I) (ev F y):=by
    unfold jk at hj;split at hj
    ·cases hj; exact h4
    ·cases hj
   simp only [RV] at oM;obtain ⟨hT,hE⟩:=ht.arr _ _ _ _ ha;obtain ⟨cs,e,hl⟩:=H9 hls h2;obtain ⟨r,hr,hp⟩:=ge' (w:=σ.w) ht hz hl;cases hx;exact hU' _ _ _ e oM h1 h3 (sf' hT hE (by simpa using hi) hp) (hk _ _ rfl hr)
 ·replace hx:=bind_some hx;obtain ⟨p,hp,hx⟩:=hx;obtain ⟨h1,h2⟩:=E1 hp;split at hx
  ·replace hx:=bind_some hx;obtain ⟨z,hz,hx⟩:=hx;simp only [RV] at h2;obtain ⟨cs,h3,h4⟩:=h2;obtain ⟨v,hv,hr⟩:=aB.at_ _ _ h4 _ _ hz;cases hx;exact AM' cs v h3 h1 hv (hk _ _ rfl hr)
  ·cases hx
 ·replace hx:=bind_some hx;obtain ⟨p,hp,hx⟩:=hx;obtain ⟨h1,h2⟩:=E1 hp;split at hx
  ·have h2':=h2;simp only [RV] at h2;obtain ⟨b,w,h3,h4⟩:=h2;cases hx;rw [h4] at h2';exact wM _ h4 h1 (hk _ _ rfl h2')
  ·have h2':=h2;simp only [RV] at h2;obtain ⟨b,q,cs,h3,_⟩:=h2;cases hx;rw [h3] at h2';exact wM _ h3 h1 (hk _ _ rfl h2')
  ·have h2':=h2;simp only [RV] at h2;obtain ⟨b,q,k,m,w,_,h4⟩:=h2;cases hx;rw [h4] at h2';exact wM _ h4 h1 (hk _ _ rfl h2')
  ·cases hx
 ·replace hx:=bind_some hx;obtain ⟨p,hp,hx⟩:=hx;obtain ⟨h1,h2⟩:=E1 hp;split at hx
  ·replace hx:=bind_some hx;obtain ⟨ka,hka,hx⟩:=hx;replace hx:=bind_some hx;obtain ⟨kb,hkb,hx⟩:=hx;simp only [RV] at h2;cases hx;exact YT _ _ h2 h1 (DY' (by rw [ht.ik _ _ hka]; rfl) (ht.ik _ _ hkb)) (hk _ _ rfl (by simp only [RV,wr]))
  ·replace hx:=bA hx;obtain ⟨hb,hx⟩:=hx;replace hx:=bind_some hx;obtain ⟨E,hE,hx⟩:=hx;replace hx:=bA hx;obtain ⟨h8,hx⟩:=hx;replace hx:=bind_some hx;obtain ⟨xs,hxs,hx⟩:=hx;cases hx;obtain ⟨A,q,cs,e1,f1,f2⟩:=Ac' hO hxs h2;obtain ⟨u1,u2⟩:=ht.u8 _ h8;exact YT _ _ e1 h1 (AI' ((ht.el _ _ hE).1) u1 (ht.isStr _ hb) (WA ht h8 f1) (by rw [(WA ht h8 f1).len,LH']) λhn=>f2 λe=>hn (by rw [e]; rfl)) (hk _ _ rfl (by simp only [RV]; rfl))
 ·rename_i T ps;replace hx:=bind_some hx;obtain ⟨pl,hpl,hx⟩:=hx;replace hx:=bind_some hx;obtain ⟨zs,hzs,hx⟩:=hx;replace hx:=bind_some hx;obtain ⟨qs,hqs,hx⟩:=hx;replace hx:=bind_some hx;obtain ⟨ls,hls,hx⟩:=hx;obtain ⟨cz,hT,hz⟩:=ht.uq _ _ _ hpl hzs;obtain ⟨k1,k2⟩:=bX' hG hqs;obtain ⟨co,k3,k4⟩:=kE' ht pl qs _ _ _ _ hls (hz X c σ) k2;cases hx;have e:ps=ps.toList.toArray:=by simp
  rw [e];rcases hT with hT | hT
  ·exact CL' hT _ co rfl k1 k3 (hk _ _ rfl (Cm k4))
  ·exact uW' hT _ co rfl k1 k3 (hk _ _ rfl (Cm k4))
 ·rename_i f xs ys;split at hx
  ·rename_i e;replace hx:=bind_some hx;obtain ⟨ps,hps,hx⟩:=hx;obtain ⟨k1,k2⟩:=BA hG hps;cases hx;have e1:xs=MF' []:=by rw [<- e]
   have e2:ys=ys.toList.toArray:=by simp
   rw [e1,e2];exact fV' [] _ rfl rfl (by simp [k1]) (hk _ _ rfl (by simp only [RV]; exact ⟨_,rfl,k2⟩))
  ·rename_i x0 Y2 e;split at hx
   ·rename_i ey;replace hx:=bind_some hx;obtain ⟨ps,hps,hx⟩:=hx;obtain ⟨k1,k2⟩:=BA hG hps;cases hx;have e1:xs=MF' (x0::Y2):=by rw [<- e]
    have e2:ys=MF' []:=by rw [<- ey]
    rw [e1,e2];exact fV' _ [] rfl rfl (by rw [k1]; rfl) (hk _ _ rfl (by simp only [RV]; exact ⟨_,rfl,k2⟩))
   ·cases hx
 ·cases hx
end
end
end Go.Qx

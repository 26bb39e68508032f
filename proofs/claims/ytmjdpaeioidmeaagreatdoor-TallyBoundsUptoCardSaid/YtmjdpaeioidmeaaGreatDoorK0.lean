/- Part 0. -/
import Derived.Deep.MidRow
import Derived.Laws.MakeOwn
import Derived.Laws.StructEq
import Derived.Lib.AppendStr
import Derived.Lib.Bytealg
import Derived.MapKept
import Derived.Maps.AppendAt
import Derived.WalkKit
section
open Array renaming getElem?_eq_none->d9A,getElem?_toList->d8F,getElem_ofFn->d9D,ofFn->d9w
open List renaming drop_eq_getElem_cons->d8S,getElem?_append_left->d8H,getElem?_append_right->d8z,getElem?_eq_some_iff->d8o,getElem?_take_of_lt->d8K,length_append->d8t,length_cons->d8v,length_nil->d8I,length_take->d8G,mem_append->d8y,take_append_drop->d88
open Nat renaming add_assoc->d9j,add_mul->d8W,beq->d8u,blt->d8V,eq_of_beq_eq_true->d8s,le_of_ble_eq_true->d8N,le_refl->d8r,le_trans->d8C,lt_of_lt_of_le->d9n,zero_le->d8w
namespace Go.Sx
open Go Go.RowKit
abbrev Fr:=Nat->Value
def upd (F:Fr)(d:Nat)(v:Value):Fr:=fun i=>cond (d8u i d) v (F i)
def fr (n:Nat)(F:Fr):Act:=⟨d9w (n:=n) fun i=>F i.val,[]⟩
def ev (F:Fr):Operand->Value
 | .tmp t=>F t
 | .const v=>v
 | .global g=>.pointer (some ⟨g,0,none⟩)
 | .func f=>.func (.func f) #[] #[]
def Q2 (n:Nat):Operand->Bool
 | .tmp t=>d8V t n
 | _=>true
def J9 (F:Fr):Option Nat->Value->Fr
 | some d,v=>upd F d v
 | none,_=>F
theorem a64 {a b:Nat}(h:d8V a b=true):a<b:=d8N h
theorem w8 {n:Nat}{F:Fr}{x:Operand}(h:Q2 n x=true):(fr n F).eval x=ev F x:=by
 cases x with
 | tmp t=>have:=a64 h; simp [Act.eval,fr,ev,Array.getD,this]
 | _=>rfl
theorem b9p (n:Nat)(F:Fr)(d:Option Nat)(v:Value):(fr n F).put d v=fr n (J9 F d v):=by
 cases d with
 | none=>rfl
 | some d =>
   simp only [Act.put,fr,J9]
   congr 1
   apply Array.ext
   ·simp
   ·intro i h1 h2
    rw [d9D]
    by_cases h:d=i
    ·subst h
     rw [Array.getElem_setIfInBounds_self]
     simp [upd]
    ·have hb:d8u i d=false:=by
      cases hb:d8u i d with
      | false=>rfl
      | true=>exact absurd (d8s hb).symm h
     rw [Array.getElem_setIfInBounds_ne (by simpa using h2) h,d9D]
     simp [upd,hb]
theorem d0v {n:Nat}{F:Fr}{t:Nat}(h:d8V t n=true):(fr n F).tmps.getD t undef=F t:=by
 have:=a64 h; simp [fr,Array.getD,this]
structure S where
 w:World
 L:Nat->Nat×Nat
abbrev S.N (σ:S):Nat:=σ.w.heap.size
structure Wext (σ τ:S):Prop where
 size:σ.N<=τ.N
 len:∀ b,b<σ.N->(σ.L b).1<=(τ.L b).1
 cell:∀ b o v,o<(σ.L b).1->σ.w.cell? ⟨b,o,none⟩=some v->τ.w.cell? ⟨b,o,none⟩=some v
 drawn:σ.w.drawn<=τ.w.drawn
 nf:∀ b o,b<σ.N->σ.w.frozen? ⟨b,o,none⟩=false->τ.w.frozen? ⟨b,o,none⟩=false
structure ExtB (B:Nat)(σ τ:S):Prop where
 below:Below B σ.w τ.w
 mark:∀ b,b<B->τ.L b=σ.L b
 drawn:σ.w.drawn<=τ.w.drawn
abbrev Ext (σ τ:S):Prop:=ExtB σ.N σ τ
structure Mod (B id:Nat)(σ τ:S):Prop where
 wext:Wext σ τ
 os:τ.w.os=σ.w.os
 tape:τ.w.tape=σ.w.tape
 output:τ.w.output=σ.w.output
 block:∀ b,b<σ.N->(b<B\/(σ.L b).2≠id)->τ.w.heap[b]?=σ.w.heap[b]?/\τ.L b=σ.L b
theorem a3Z {w:World}{b o:Nat}{v:Value}(h:w.cell? ⟨b,o,none⟩=some v):b<w.heap.size:=by
 rcases Nat.lt_or_ge b w.heap.size with hlt | hge
 ·exact hlt
 ·simp [World.cell?,d9A hge] at h
theorem a1n {w w':World}{b:Nat}(h:w'.heap[b]?=w.heap[b]?)(o:Nat):w'.cell? ⟨b,o,none⟩=w.cell? ⟨b,o,none⟩:=by
 simp only [World.cell?,h]
theorem a2l {w w':World}{b:Nat}(h:w'.heap[b]?=w.heap[b]?)(o:Nat):w'.frozen? ⟨b,o,none⟩=w.frozen? ⟨b,o,none⟩:=by
 simp only [World.frozen?,h]
theorem a8J {w:World}{b:Nat}{c:Array Value}{e:TypeId}(h:w.heap[b]?=some (.cells c e))(o:Nat):w.frozen? ⟨b,o,none⟩=false:=by
 simp [World.frozen?,h]
theorem Wext.refl (σ:S):Wext σ σ:=⟨d8r _,fun _ _=>d8r _,fun _ _ _ _ h=>h,d8r _,fun _ _ _ h=>h⟩
theorem Wext.trans {σ τ υ:S}(h:Wext σ τ)(k:Wext τ υ):Wext σ υ :=
 ⟨d8C h.size k.size,
  fun b hb=>d8C (h.len b hb) (k.len b (d9n hb h.size)),
  fun b o v ho hc=>k.cell b o v (d9n ho (h.len b (a3Z hc))) (h.cell b o v ho hc),d8C h.drawn k.drawn,fun b o hb hf=>k.nf b o (d9n hb h.size) (h.nf b o hb hf)⟩
theorem ExtB.refl (B:Nat)(σ:S):ExtB B σ σ:=⟨Below.refl _ _,fun _ _=>rfl,d8r _⟩
theorem ExtB.trans {B:Nat}{σ τ υ:S}(h:ExtB B σ τ)(k:ExtB B τ υ):ExtB B σ υ:=⟨h.below.trans k.below,fun b hb=>(k.mark b hb).trans (h.mark b hb),d8C h.drawn k.drawn⟩
theorem ExtB.mono {B C:Nat}{σ τ:S}(h:ExtB B σ τ)(hc:C<=B):ExtB C σ τ:=⟨h.below.mono hc,fun b hb=>h.mark b (d9n hb hc),h.drawn⟩
theorem ExtB.size {B:Nat}{σ τ:S}(h:ExtB B σ τ):σ.N<=τ.N:=h.below.size
theorem ExtB.wext {σ τ:S}(h:Ext σ τ):Wext σ τ :=
 ⟨h.below.size,fun b hb=>by rw [h.mark b hb]; exact d8r _,
  fun b o v _ hc=>(a1n (h.below.block b (a3Z hc)) o).trans hc,h.drawn,fun b o hb hf=>(a2l (h.below.block b hb) o).trans hf⟩
theorem ExtB.ext {B:Nat}{σ τ υ:S}(h:ExtB B σ τ)(hB:B<=τ.N)(k:Ext τ υ):ExtB B σ υ:=h.trans (k.mono hB)
theorem d1G {α:Type}(k:Ask α):∀ (w:World),w.drawn<=(w.ask k).2.drawn:=by
 induction k with
 | done a=>intro w; exact d8r _
 | ask what range k ih =>
   intro w
   simp only [World.ask]
   split
   ·exact ih 0 w
   ·exact d8C (Nat.le_succ _) (ih _ { w with drawn:=w.drawn+1 })
theorem d14 (w:World)(c:Sys):w.drawn<=(w.sys c).2.drawn:=by
 have h:=d1G (Kernel.perform c w.os) w
 unfold World.sys
 split
 ·exact d8r _
 ·rename_i r os w' e
  rw [e] at h; exact h
theorem c4v {p:Program}{w:World}{at_:Addr}{u:TypeId}{k:Addr}{v:Value}{atomic:Bool}{r:World×List Addr}(h:w.viewStore p at_ u k v atomic=.ok r):r.1.drawn=w.drawn:=by
 unfold World.viewStore at h
 simp only [bind,Except.bind,pure,Except.pure,throw,throwThe,MonadExceptOf.throw] at h
 repeat' split at h
 all_goals first | (cases h; rfl) | cases h
theorem c5g {p:Program}{w:World}{a:Addr}{v:Value}{atomic:Bool}{r:World×List Addr}(h:w.farStore p a v atomic=.ok r):r.1.drawn=w.drawn:=by
 unfold World.farStore at h
 split at h
 ·split at h
  ·rename_i e; cases h; exact c4v e
  ·cases h
 ·cases h
theorem a7h {α:Type}{P:Program}(m:Sem α):∀ {w w':World} {v:α},m.run P w=.ok v w'->w.drawn<=w'.drawn:=by
 induction m with
 | pure a=>intro w w' v h; simp only [Sem.run] at h; cases h; exact d8r _
 | load m a k ih =>
   intro w w' v h
   simp only [Sem.run] at h
   split at h
   ·exact ih _ h
   ·split at h
    ·exact ih _ h
    ·cases h
 | store m a x k ih =>
   intro w w' v h
   cases x<;>simp only [Sem.run] at h<;>first
    | (cases h; done)
    | (split at h
       ·split at h
        ·cases h
        ·have:=ih h
         exact this
       ·split at h
        ·rename_i e
         have:=c5g e
         rw [<- this]; exact ih h
        ·cases h)
 | new o k ih=>intro w w' v h; simp only [Sem.run] at h; have:=ih _ h; exact this
 | shape r k ih=>intro w w' v h; simp only [Sem.run] at h; exact ih _ h
 | freeze a n k ih =>
   intro w w' v h
   simp only [Sem.run] at h
   have:=ih h
   have e:(w.freeze a n).drawn=w.drawn:=by unfold World.freeze; split<;>rfl
   rw [e] at this; exact this
 | frozen a k ih=>intro w w' v h; simp only [Sem.run] at h; exact ih _ h
 | getObj r k ih =>
   intro w w' v h
   simp only [Sem.run] at h
   split at h
   ·cases h
   ·exact ih _ h
   ·cases h
 | setObj r o k ih =>
   intro w w' v h
   simp only [Sem.run] at h
   split at h
   ·cases h
   ·have:=ih h
    exact this
   ·cases h
 | choose q k ih =>
   intro w w' v h
   simp only [Sem.run] at h
   split at h
   ·exact ih _ h
   ·exact d8C (Nat.le_succ _) (ih _ h)
 | sys c k ih=>intro w w' v h; simp only [Sem.run] at h; exact d8C (d14 w c) (ih _ h)
 | program k ih=>intro w w' v h; simp only [Sem.run] at h; exact ih _ h
 | mark m k ih=>intro w w' v h; simp only [Sem.run] at h; exact ih h
 | halt h0=>intro w w' v h; simp only [Sem.run] at h; cases h
def a3y (σ:S)(b o:Nat)(cs:List Value):Prop:=(o+cs.length<=(σ.L b).1/\∀ j,j<cs.length->σ.w.frozen? ⟨b,o+j,none⟩=false)/\σ.w.rangeAt b o cs
theorem a3y.mono {σ τ:S}{b o:Nat}{cs:List Value}(h:a3y σ b o cs)(hn:cs≠[])(k:Wext σ τ):a3y τ b o cs:=by
 have hlt:b<σ.N:=by
  cases cs with
  | nil=>exact absurd rfl hn
  | cons v r=>exact a3Z (h.2 0 v rfl)
 refine ⟨⟨d8C h.1.1 (k.len b hlt),fun j hj=>k.nf b _ hlt (h.1.2 j hj)⟩,fun j v hv=>k.cell b (o+j) v ?_ (h.2 j v hv)⟩
 have:j<cs.length:=(d8o.1 hv).1
 have:=h.1.1
 omega
theorem a3y.app {σ:S}{b o:Nat}{xs ys:List Value}(h:a3y σ b o (xs++ys)):a3y σ b o xs/\a3y σ b (o+xs.length) ys:=by
 refine ⟨⟨⟨by have:=h.1.1; simp at this; omega,fun j hj=>h.1.2 j (by rw [d8t]; omega)⟩,fun j v hv=>h.2 j v ?_⟩,⟨⟨by have:=h.1.1; simp at this; omega,fun j hj=>by rw [d9j]; exact h.1.2 _ (by rw [d8t]; omega)⟩,fun j v hv=>?_⟩⟩
 ·rw [d8H (d8o.1 hv).1]; exact hv
 ·rw [d9j]
  apply h.2
  rw [d8z (by omega)]
  simpa using hv
theorem a3y.nil_ (σ:S)(b o:Nat)(h:o<=(σ.L b).1):a3y σ b o []:=⟨⟨by simpa using h,fun j hj=>absurd hj (Nat.not_lt_zero _)⟩,fun j v hv=>by simp at hv⟩
class Rp (α:Type) where
 sz:Nat
 pos:0<sz
 agg:Bool
 cells:S->α->List Value->Prop
 len:∀ {σ:S} {a:α} {cs:List Value},cells σ a cs->cs.length=sz
 one:∀ {σ:S} {a:α} {cs:List Value},cells σ a cs->∀ v∈cs,v.oneCell'=true
 mono:∀ {σ τ:S} {a:α} {cs:List Value},Wext σ τ->cells σ a cs->cells τ a cs
 lo:Nat:=0
def d7K:Bool->List Value->Value
 | true,cs=>.agg cs.toArray
 | false,cs=>cs.headD undef
def RpV {α:Type} [Rp α] (σ:S)(a:α)(v:Value):Prop:=∃ cs,Rp.cells σ a cs/\v=d7K (Rp.agg α) cs
def J6 {α:Type} [Rp α] (σ:S):List α->List Value->Prop
 | [],cs=>cs=[]
 | x::xs,cs=>∃ c r,cs=c++r/\Rp.cells σ x c/\J6 σ xs r
section
variable {α:Type} [Rp α]
theorem J6.len {σ:S}:∀ {xs:List α} {cs:List Value},J6 σ xs cs->cs.length=xs.length*Rp.sz α
 | [],_,h=>by cases h; simp
 | x::xs,cs,h=>by
   obtain ⟨c,r,rfl,hc,hr⟩:=h
   rw [d8t,Rp.len hc,J6.len hr,d8v,d8W]
   omega
theorem J6.one {σ:S}:∀ {xs:List α} {cs:List Value},J6 σ xs cs->∀ v∈cs,v.oneCell'=true
 | [],_,h=>by cases h; simp
 | x::xs,cs,h=>by
   obtain ⟨c,r,rfl,hc,hr⟩:=h
   intro v hv
   rcases d8y.1 hv with h | h
   ·exact Rp.one hc v h
   ·exact J6.one hr v h
theorem J6.mono {σ τ:S}(k:Wext σ τ):∀ {xs:List α} {cs:List Value},J6 σ xs cs->J6 τ xs cs
 | [],_,h=>h
 | x::xs,cs,h=>by
   obtain ⟨c,r,rfl,hc,hr⟩:=h
   exact ⟨c,r,rfl,Rp.mono k hc,J6.mono k hr⟩
theorem J6.app {σ:S}:∀ {xs ys:List α} {cs ds:List Value},J6 σ xs cs->J6 σ ys ds->J6 σ (xs++ys) (cs++ds)
 | [],_,_,_,h,k=>by cases h; exact k
 | x::xs,ys,cs,ds,h,k=>by
   obtain ⟨c,r,rfl,hc,hr⟩:=h
   exact ⟨c,r++ds,by simp,hc,J6.app hr k⟩
theorem J6.split {σ:S}:∀ {xs ys:List α} {cs:List Value},J6 σ (xs++ys) cs->∃ c d,cs=c++d/\J6 σ xs c/\J6 σ ys d
 | [],_,cs,h=>⟨[],cs,rfl,rfl,h⟩
 | x::xs,ys,cs,h=>by
   obtain ⟨c,r,rfl,hc,hr⟩:=h
   obtain ⟨c1,d,rfl,h1,h2⟩:=J6.split hr
   exact ⟨c++c1,d,by simp,⟨c,c1,rfl,hc,h1⟩,h2⟩
theorem J6.single {σ:S}{x:α}{cs:List Value}(h:Rp.cells σ x cs):J6 σ [x] cs:=⟨cs,[],by simp,h,rfl⟩
end
def Sl {α:Type} [Rp α] (σ:S)(xs:List α)(A:Option Addr)(c:Nat):Prop :=
 xs.length<=c/\c<=maxLen/\∃ cs,J6 σ xs cs/\(xs≠[]->∃ b o,A=some ⟨b,o,none⟩/\a3y σ b o cs)
section
variable {α:Type} [Rp α]
theorem J6.ne_nil {σ:S}{xs:List α}{cs:List Value}(h:J6 σ xs cs)(hn:xs≠[]):cs≠[]:=by
 intro e
 have:=J6.len h
 rw [e] at this
 have hp:=Rp.pos (α:=α)
 cases xs with
 | nil=>exact hn rfl
 | cons x r =>
   simp only [d8I,d8v,d8W] at this
   omega
theorem Sl.mono {σ τ:S}{xs:List α}{A:Option Addr}{c:Nat}(h:Sl σ xs A c)(k:Wext σ τ):Sl τ xs A c:=by
 obtain ⟨h1,h2,cs,h3,h4⟩:=h
 refine ⟨h1,h2,cs,h3.mono k,fun hn=>?_⟩
 obtain ⟨b,o,e,hs⟩:=h4 hn
 exact ⟨b,o,e,hs.mono (h3.ne_nil hn) k⟩
theorem Sl.nil_ (σ:S)(A:Option Addr)(c:Nat)(hc:c<=maxLen):Sl σ ([]:List α) A c:=⟨d8w _,hc,[],rfl,fun h=>absurd rfl h⟩
theorem Sl.le_max {σ:S}{xs:List α}{A:Option Addr}{c:Nat}(h:Sl σ xs A c):xs.length<=maxLen:=d8C h.1 h.2.1
theorem Sl.at_ {σ:S}{xs:List α}{A:Option Addr}{c:Nat}(h:Sl σ xs A c){i:Nat}{x:α}(hx:xs[i]?=some x) :
 ∃ b o cs,A=some ⟨b,o,none⟩/\Rp.cells σ x cs/\a3y σ b (o+i*Rp.sz α) cs:=by
 obtain ⟨h1,h2,cs,h3,h4⟩:=h
 have hi:i<xs.length:=(d8o.1 hx).1
 obtain ⟨b,o,e,hs⟩:=h4 (by intro e; simp [e] at hi)
 have hsplit:xs=xs.take i++(x::xs.drop (i+1)):=by
  have:=d88 i xs
  rw [d8S hi] at this
  rw [<- (d8o.1 hx).2]
  exact this.symm
 rw [hsplit] at h3
 obtain ⟨c1,d,rfl,f1,f2⟩:=h3.split
 obtain ⟨cx,r,rfl,hc,_⟩:=f2
 have hl:c1.length=i*Rp.sz α:=by rw [f1.len,d8G]; congr 1; omega
 have:=(hs.app.2).app.1
 rw [hl] at this
 exact ⟨b,o,cx,e,hc,this⟩
end
instance rpInt:Rp Int where
 sz:=1
 pos:=by decide
 agg:=false
 cells:=fun _ n cs=>cs=[.int .i64 n]
 len:=fun h=>by rw [h]; rfl
 one:=fun h v hv=>by rw [h] at hv; simp at hv; subst hv; rfl
 mono:=fun _ h=>h
instance rpBool:Rp Bool where
 sz:=1
 pos:=by decide
 agg:=false
 cells:=fun _ n cs=>cs=[.bool n]
 len:=fun h=>by rw [h]; rfl
 one:=fun h v hv=>by rw [h] at hv; simp at hv; subst hv; rfl
 mono:=fun _ h=>h
instance rpStr:Rp ByteArray where
 sz:=1
 pos:=by decide
 agg:=false
 cells:=fun _ n cs=>cs=[.string n]
 len:=fun h=>by rw [h]; rfl
 one:=fun h v hv=>by rw [h] at hv; simp at hv; subst hv; rfl
 mono:=fun _ h=>h
instance rpU8:Rp UInt8 where
 sz:=1
 pos:=by decide
 agg:=false
 cells:=fun _ n cs=>cs=[.int .u8 (n.toNat:Int)]
 len:=fun h=>by rw [h]; rfl
 one:=fun h v hv=>by rw [h] at hv; simp at hv; subst hv; rfl
 mono:=fun _ h=>h
instance rpList {α:Type} [Rp α]:Rp (List α) where
 sz:=1
 pos:=by decide
 agg:=false
 cells:=fun σ xs cs=>∃ A c,cs=[.slice A xs.length c]/\Sl σ xs A c
 len:=fun ⟨_,_,h,_⟩=>by rw [h]; rfl
 one:=fun ⟨_,_,h,_⟩ v hv=>by rw [h] at hv; simp at hv; subst hv; rfl
 mono:=fun k ⟨A,c,h,hs⟩=>⟨A,c,h,hs.mono k⟩
theorem RpV.mono {α:Type} [Rp α] {σ τ:S}{a:α}{v:Value}(h:RpV σ a v)(k:Wext σ τ):RpV τ a v:=by
 obtain ⟨cs,hc,e⟩:=h
 exact ⟨cs,Rp.mono k hc,e⟩
theorem RpV.int {σ:S}{n:Int}{v:Value}(h:RpV σ n v):v=.int .i64 n:=by obtain ⟨cs,rfl,e⟩:=h; exact e
theorem RpV.bool {σ:S}{n:Bool}{v:Value}(h:RpV σ n v):v=.bool n:=by obtain ⟨cs,rfl,e⟩:=h; exact e
theorem RpV.str {σ:S}{n:ByteArray}{v:Value}(h:RpV σ n v):v=.string n:=by obtain ⟨cs,rfl,e⟩:=h; exact e
theorem RpV.u8 {σ:S}{n:UInt8}{v:Value}(h:RpV σ n v):v=.int .u8 (n.toNat:Int):=by obtain ⟨cs,rfl,e⟩:=h; exact e
theorem RpV.list {α:Type} [Rp α] {σ:S}{xs:List α}{v:Value}(h:RpV σ xs v):∃ A c,v=.slice A xs.length c/\Sl σ xs A c:=by
 obtain ⟨cs,⟨A,c,rfl,hs⟩,e⟩:=h; exact ⟨A,c,e,hs⟩
def Blk (B id:Nat)(σ:S)(b:Nat)(T:TypeId)(cs:List Value):Prop :=
 B<=b/\σ.w.heap[b]?=some (.cells cs.toArray T (0,0))/\σ.L b=(0,id)
theorem Blk.lt {B id:Nat}{σ:S}{b:Nat}{T:TypeId}{cs:List Value}(h:Blk B id σ b T cs):b<σ.N:=by
 rcases Nat.lt_or_ge b σ.N with hlt | hge
 ·exact hlt
 ·have:=h.2.1; rw [d9A hge] at this; cases this
theorem Blk.ext {B id:Nat}{σ τ:S}{b:Nat}{T:TypeId}{cs:List Value}(h:Blk B id σ b T cs)(k:Ext σ τ):Blk B id τ b T cs :=
 ⟨h.1,(k.below.block b h.lt).trans h.2.1,(k.mark b h.lt).trans h.2.2⟩
theorem Blk.cell {B id:Nat}{σ:S}{b:Nat}{T:TypeId}{cs:List Value}(h:Blk B id σ b T cs)(i:Nat):σ.w.cell? ⟨b,i,none⟩=cs[i]?:=by
 simp [World.cell?,h.2.1]
def Own {α:Type} [Rp α] (B id:Nat)(T:TypeId)(σ:S)(xs:List α)(A:Option Addr)(c:Nat):Prop :=
 (c=xs.length/\Sl σ xs A c) \/
 ∃ g cur cs,A=some ⟨g,0,none⟩/\B<=g/\σ.w.heap[g]?=some (.cells cur T (0,0))/\xs.length<=c/\c<=maxLen/\cur.size=c*Rp.sz α /\
  J6 σ xs cs/\cur.toList.take (xs.length*Rp.sz α)=cs/\σ.L g=(xs.length*Rp.sz α,id)
section
variable {α:Type} [Rp α] {B id:Nat}{T:TypeId}{σ τ:S}{xs:List α}{A:Option Addr}{c:Nat}
theorem a0E {w:World}{g:Nat}{o:Obj}(h:w.heap[g]?=some o):g<w.heap.size:=by
 rcases Nat.lt_or_ge g w.heap.size with hlt | hge
 ·exact hlt
 ·rw [d9A hge] at h; cases h
theorem Own.sl (h:Own B id T σ xs A c):Sl σ xs A c:=by
 rcases h with ⟨_,h⟩ | ⟨g,cur,cs,rfl,hg,hh,h1,h2,h3,h4,h5,h6⟩
 ·exact h
 ·refine ⟨h1,h2,cs,h4,fun _=>⟨g,0,rfl,?_,?_⟩⟩
  ·exact ⟨by rw [h6,h4.len]; simp,fun j _=>a8J hh _⟩
  ·intro j v hv
   have hc:σ.w.cell? ⟨g,0+j,none⟩=cur[j]?:=by simp [World.cell?,hh]
   rw [hc,<- d8F]
   rw [<- h5] at hv
   have hj:=(d8o.1 hv).1
   rw [d8K (by rw [d8G] at hj; omega)] at hv
   exact hv
theorem Own.ext (h:Own B id T σ xs A c)(k:Ext σ τ):Own B id T τ xs A c:=by
 rcases h with ⟨e,h⟩ | ⟨g,cur,cs,rfl,hg,hh,h1,h2,h3,h4,h5,h6⟩
 ·exact .inl ⟨e,h.mono k.wext⟩
 ·exact .inr ⟨g,cur,cs,rfl,hg,(k.below.block g (a0E hh)).trans hh,h1,h2,h3,h4.mono k.wext,h5,(k.mark g (a0E hh)).trans h6⟩
theorem Own.base {C:Nat}(h:Own B id T σ xs A c)(hC:C<=B):Own C id T σ xs A c:=by
 rcases h with h | ⟨g,cur,cs,rfl,hg,hh,h1⟩
 ·exact .inl h
 ·exact .inr ⟨g,cur,cs,rfl,d8C hC hg,hh,h1⟩
theorem Own.nil_ (A:Option Addr):Own B id T σ ([]:List α) A 0:=.inl ⟨rfl,Sl.nil_ _ _ _ (d8w _)⟩
end
end Go.Sx
end
section
open Array renaming ext_getElem?->d92,getElem?_eq_some_iff->d9k,getElem?_modify->d9E,length_toList->d8R
open Bool renaming false_eq_true->d81
open List renaming all_eq_true->d8q,getElem?_drop->d9e,getElem?_eq_getElem->d8n,getElem?_eq_some_iff->d8o,getElem?_take_of_lt->d8K,length_take->d8G,mem_singleton->d9o,set_eq_take_append_cons_drop->d9Z,take_append->d91,take_of_length_le->d97
open Nat renaming add_zero->d9h,beq->d8u,ble->d89,eq_of_beq_eq_true->d8s,le_of_ble_eq_true->d8N,le_refl->d8r,min_eq_left->d9x
namespace Go.Sx
open Go Go.RowKit
section
variable {P:Program}{ops:Array Oper}{Q:Exit->Act->World->Prop}{n:Nat}{F:Fr}{rest:List Oper}{d:Option Nat}{ty:TypeId}{pos:String}{aft:Array Edge}{σ:S}
theorem J7 {o:Oper}(hg:o.guard=none)(v:Value)(w':World){w:World}(hrun:(execOp (fr n F).eval o).run P w=.ok (.value v) w')
 (h:wpList P ops Q rest (fr n (J9 F o.dst v)) w'):wpList P ops Q (o::rest) (fr n F) w :=
 wpList_plain hg fun K hK=>by unfold Oper.wp; rw [hrun]; exact hK _ _ (by rw [b9p]; exact h)
theorem b6w {o:Oper}(hg:o.guard=none)(w':World){w:World}(hrun:(execOp (fr n F).eval o).run P w=.ok .skip w')
 (h:wpList P ops Q rest (fr n (J9 F o.dst undef)) w'):wpList P ops Q (o::rest) (fr n F) w :=
 wpList_plain hg fun K hK=>by unfold Oper.wp; rw [hrun]; exact hK _ _ (by rw [b9p]; exact h)
theorem a0p {x:Operand}{w:World}(v:Value)(hx:ev F x=v)(hk:Q2 n x=true)(h:wpList P ops Q rest (fr n (J9 F d v)) w) :
 wpList P ops Q (⟨d,.move x,ty,pos,aft,none⟩::rest) (fr n F) w :=
 J7 rfl v w (by show Sem.run P (pure _) w=_; rw [w8 hk,hx]; rfl) h
theorem a19 {x:Operand}{w:World}(v:Value)(hx:ev F x=v)(hk:Q2 n x=true)(h:wpList P ops Q rest (fr n (J9 F d v)) w) :
 wpList P ops Q (⟨d,.assign x,ty,pos,aft,none⟩::rest) (fr n F) w :=
 J7 rfl v w (by show Sem.run P (pure _) w=_; rw [w8 hk,hx]; rfl) h
def Z7 (P:Program)(w:World)(s:Sem Value)(v:Value):Prop:=s.run P w=.ok v w
theorem a7t {bop:BinOp}{xt yt:TypeId}{x y:Operand}{w:World}(a b v:Value)(hx:ev F x=a)(hy:ev F y=b)(hkx:Q2 n x=true)(hky:Q2 n y=true)
 (hr:Z7 P w (do eqGuard bop xt x y a b; binOp bop xt a b) v) (h:wpList P ops Q rest (fr n (J9 F d v)) w) :
 wpList P ops Q (⟨d,.binOp bop xt x y yt,ty,pos,aft,none⟩::rest) (fr n F) w :=
 J7 rfl v w (by
  show Sem.run P (do pure (Next.value (<- (do eqGuard bop xt x y ((fr n F).eval x) ((fr n F).eval y); binOp bop xt ((fr n F).eval x) ((fr n F).eval y))))) w=_
  rw [w8 hkx,w8 hky,hx,hy,Sem.run_bind,hr]; rfl) h
theorem d3Q {uop:UnOp}{xt:TypeId}{x:Operand}{w:World}(a v:Value)(hx:ev F x=a)(hkx:Q2 n x=true)
 (hr:Z7 P w (Op.unary uop a) v) (h:wpList P ops Q rest (fr n (J9 F d v)) w) :
 wpList P ops Q (⟨d,.unOp uop xt x,ty,pos,aft,none⟩::rest) (fr n F) w :=
 J7 rfl v w (by show Sem.run P (do pure (Next.value (<- Op.unary uop ((fr n F).eval x)))) w=_; rw [w8 hkx,hx,Sem.run_bind,hr]; rfl) h
theorem b93 {src dst:TypeId}{x:Operand}{w:World}(a v:Value)(hx:ev F x=a)(hkx:Q2 n x=true)
 (hr:Z7 P w (convert src dst a) v) (h:wpList P ops Q rest (fr n (J9 F d v)) w) :
 wpList P ops Q (⟨d,.convert src dst x,ty,pos,aft,none⟩::rest) (fr n F) w :=
 J7 rfl v w (by show Sem.run P (do pure (Next.value (<- convert src dst ((fr n F).eval x)))) w=_; rw [w8 hkx,hx,Sem.run_bind,hr]; rfl) h
theorem a2X {t:TypeId}{x:Operand}{w:World}(b o:Nat)(v:Value)(hx:ev F x=.pointer (some ⟨b,o,none⟩))(hkx:Q2 n x=true)
 (hr:Z7 P w (loadVar t ⟨b,o,none⟩) v) (h:wpList P ops Q rest (fr n (J9 F d v)) w) :
 wpList P ops Q (⟨d,.load t x,ty,pos,aft,none⟩::rest) (fr n F) w :=
 J7 rfl v w (by
  show Sem.run P (do pure (Next.value (<- Instr.loadAt t ((fr n F).eval x)))) w=_
  rw [w8 hkx,hx]
  simp only [Instr.loadAt,Instr.sureAddr,Sem.run_bind,Sem.run_pure,Result.andThen_ok]
  rw [hr]; rfl) h
theorem c98 {t:TypeId}{x y:Operand}{w:World}(a b v:Value)(hx:ev F x=a)(hy:ev F y=b)(hkx:Q2 n x=true)(hky:Q2 n y=true)
 (hr:Z7 P w (Instr.index t a b) v) (h:wpList P ops Q rest (fr n (J9 F d v)) w) :
 wpList P ops Q (⟨d,.index t x y,ty,pos,aft,none⟩::rest) (fr n F) w :=
 J7 rfl v w (by show Sem.run P (do pure (Next.value (<- Instr.index t ((fr n F).eval x) ((fr n F).eval y)))) w=_; rw [w8 hkx,w8 hky,hx,hy,Sem.run_bind,hr]; rfl) h
theorem d5N {t:TypeId}{x:Operand}{k:Nat}{w:World}(a v:Value)(hx:ev F x=a)(hkx:Q2 n x=true)
 (hr:Z7 P w (Instr.field t a k) v) (h:wpList P ops Q rest (fr n (J9 F d v)) w) :
 wpList P ops Q (⟨d,.field t x k,ty,pos,aft,none⟩::rest) (fr n F) w :=
 J7 rfl v w (by show Sem.run P (do pure (Next.value (<- Instr.field t ((fr n F).eval x) k))) w=_; rw [w8 hkx,hx,Sem.run_bind,hr]; rfl) h
theorem d2h {x:Operand}{k:Nat}{w:World}(vs:List Value)(v:Value)(hx:ev F x=.tuple vs.toArray)(hkx:Q2 n x=true)
 (hv:vs[k]?=some v) (h:wpList P ops Q rest (fr n (J9 F d v)) w) :
 wpList P ops Q (⟨d,.extract x k,ty,pos,aft,none⟩::rest) (fr n F) w :=
 J7 rfl v w (by
  show Sem.run P (do pure (Next.value (<- Instr.extract ((fr n F).eval x) k))) w=_
  rw [w8 hkx,hx]
  simp [Instr.extract,hv]) h
theorem d13 {x y z:Operand}{w:World}(c:Bool)(v:Value)(hx:ev F x=.bool c)(hv:ev F (if c then y else z)=v)(hkx:Q2 n x=true)(hky:Q2 n y=true)(hkz:Q2 n z=true)
 (h:wpList P ops Q rest (fr n (J9 F d v)) w):wpList P ops Q (⟨d,.pick x y z,ty,pos,aft,none⟩::rest) (fr n F) w :=
 J7 rfl v w (by
  show Sem.run P (do pure (Next.value (if <- asBool ((fr n F).eval x) then (fr n F).eval y else (fr n F).eval z))) w=_
  rw [w8 hkx,hx,w8 hky,w8 hkz]
  cases c<;>simp [asBool] at hv ⊢<;>rw [hv]) h
theorem a2P {x:Operand}{w:World}(a:Addr)(hx:ev F x=.pointer (some a))(hkx:Q2 n x=true)(h:wpList P ops Q rest (fr n (J9 F d (.pointer (some a)))) w) :
 wpList P ops Q (⟨d,.nilCheck x,ty,pos,aft,none⟩::rest) (fr n F) w :=
 J7 rfl (.pointer (some a)) w (by simp [execOp,w8 hkx,hx]) h
def c0S (P:Program)(T:TypeId)(k:Nat):Prop:=∃ d,P.underlying T=some d/\d.isRow=true/\(P.info? T).map (·.size)=some k
def X8 (P:Program)(T:TypeId):Prop:=∃ d,P.underlying T=some d/\d.isRow=false/\(P.info? T).map (·.size)=some 1
def Y9 (P:Program)(T:TypeId)(z:Value)(size bytes:Nat):Prop:=∃ i,P.info? T=some i/\i.zero=some z/\i.size=size/\i.bytes=bytes
def a33 (P:Program)(T E:TypeId)(z:Value)(size bytes:Nat):Prop:=P.underlying T=some (.slice E)/\Y9 P E z size bytes/\z.cells.size=size/\0<size/\0<bytes
theorem Y0 {P:Program}{T:TypeId}{z:Value}{size bytes:Nat}(h:(P.info? T).map (fun i=>(i.zero,i.size,i.bytes))=some (some z,size,bytes)):Y9 P T z size bytes:=by
 cases hi:P.info? T with
 | none=>rw [hi] at h; cases h
 | some i=>rw [hi] at h; simp at h; exact ⟨i,hi,h⟩
def a6r (P:Program)(T:TypeId)(f off:Nat):Prop:=∃ fs fl,P.underlying T=some (.struct fs)/\fs[f]?=some fl/\fl.offset=off/\((P.info? fl.type).map fun i=>i.size==0)=some false
theorem run_sizeOf {T:TypeId}{k:Nat}(h:(P.info? T).map (·.size)=some k)(w:World):(sizeOf T).run P w=.ok k w:=by
 cases hi:P.info? T with
 | none=>rw [hi] at h; cases h
 | some i=>rw [hi] at h; simp at h; simp [sizeOf,typeInfo,hi,h]
theorem c6p {w:World}{T:TypeId}{b o:Nat}{cs:List Value}(hT:c0S P T cs.length)(hc:w.rangeAt b o cs):Z7 P w (loadVar T ⟨b,o,none⟩) (.agg cs.toArray):=by
 obtain ⟨dd,h1,h2,h3⟩:=hT
 exact run_loadVar_mid w b o T cs dd hc h1 h2 h3
theorem a2u {w:World}{T:TypeId}{b o:Nat}{v:Value}(hT:X8 P T)(hc:w.cell? ⟨b,o,none⟩=some v):Z7 P w (loadVar T ⟨b,o,none⟩) v:=by
 obtain ⟨dd,h1,h2,h3⟩:=hT
 have hagg:(isAgg T).run P w=.ok false w:=by
  unfold isAgg
  rw [Sem.run_bind,run_underlying h1 w]
  cases dd<;>simp_all [TypeDesc.isRow]
 show (loadVar T ⟨b,o,none⟩).run P w=_
 unfold loadVar
 simp [Sem.run_bind,hagg,hc]
theorem Blk.range {B id:Nat}{b:Nat}{T:TypeId}{cs:List Value}(h:Blk B id σ b T cs)(o:Nat)(vs:List Value)(hv:(cs.drop o).take vs.length=vs):σ.w.rangeAt b o vs:=by
 intro j v hj
 rw [h.cell]
 have hlt:=(d8o.1 hj).1
 rw [<- hv,d8K hlt,d9e] at hj
 exact hj
theorem a0m {T:TypeId}{x:Operand}{f:Nat}{w:World}(b o off o':Nat)(hx:ev F x=.pointer (some ⟨b,o,none⟩))(hkx:Q2 n x=true)(hf:a6r P T f off)(ho:o+off=o')
 (h:wpList P ops Q rest (fr n (J9 F d (.pointer (some ⟨b,o',none⟩)))) w):wpList P ops Q (⟨d,.fieldAddr T x f,ty,pos,aft,none⟩::rest) (fr n F) w :=
 J7 rfl (.pointer (some ⟨b,o',none⟩)) w (by
  show Sem.run P (do pure (Next.value (<- Instr.fieldAt T ((fr n F).eval x) f))) w=_
  obtain ⟨fs,fl,h1,h2,h3,h4⟩:=hf
  rw [w8 hkx,hx]
  cases hi:P.info? fl.type with
  | none=>rw [hi] at h4; cases h4
  | some i =>
    rw [hi] at h4
    have hs:¬ i.size=0:=by simpa using h4
    simp [Instr.fieldAt,run_underlying h1,h2,Instr.sureAddr,fieldPlace,sizeOf,typeInfo,hi,hs,Addr.add_mid,h3,ho]) h
def idx {α:Type}(xs:List α)(j:Int):Option α:=if 0<=j then xs[j.toNat]? else none
theorem a92 {α:Type}{xs:List α}{j:Int}{x:α}(h:idx xs j=some x):0<=j/\xs[j.toNat]?=some x:=by
 unfold idx at h
 split at h
 ·exact ⟨‹_›,h⟩
 ·cases h
theorem b4O {α:Type} [Rp α] {T E:TypeId}{x y:Operand}{xs:List α}{A:Option Addr}{c:Nat}{j:Int}{e:α}(hs:Sl σ xs A c)(hi:idx xs j=some e)
 (hx:ev F x=.slice A xs.length c) (hy:ev F y=.int .i64 j) (hkx:Q2 n x=true) (hky:Q2 n y=true)
 (hT:P.underlying T=some (.slice E)) (hE:(P.info? E).map (·.size)=some (Rp.sz α))
 (h:∀ b o cs,Rp.cells σ e cs->a3y σ b o cs->wpList P ops Q rest (fr n (J9 F d (.pointer (some ⟨b,o,none⟩)))) σ.w) :
 wpList P ops Q (⟨d,.indexAddr T x y,ty,pos,aft,none⟩::rest) (fr n F) σ.w:=by
 obtain ⟨h0,he⟩:=a92 hi
 obtain ⟨b,o,cs,rfl,hc,hse⟩:=hs.at_ he
 have hlt:j<(xs.length:Int):=by have:=(d8o.1 he).1; omega
 refine J7 rfl (.pointer (some ⟨b,o+j.toNat*Rp.sz α,none⟩)) σ.w ?_ (h b _ cs hc hse)
 show Sem.run P (do pure (Next.value (<- Instr.indexAt T ((fr n F).eval x) ((fr n F).eval y)))) σ.w=_
 rw [w8 hkx,w8 hky,hx,hy]
 simp only [Instr.indexAt,asIntOf,Sem.run_bind,Sem.run_pure,Result.andThen_ok,run_underlying hT,if_pos (And.intro h0 hlt),run_sizeOf hE,Addr.add_mid]
theorem b4x (σ:S)(o:Obj)(m:Nat×Nat):Ext σ ⟨σ.w.alloc o,fun b=>cond (d8u b σ.N) m (σ.L b)⟩ :=
 ⟨(Below.refl _ _).alloc (d8r _) o,fun b hb=>by
   have:d8u b σ.N=false:=by
    cases h:d8u b σ.N with
    | false=>rfl
    | true=>have:=d8s h; omega
   simp [this],d8r _⟩
theorem c57 {B:Nat}(σ:S)(hB:B<=σ.N)(T:TypeId)(cs:List Value)(id:Nat):Blk B id ⟨σ.w.alloc (.cells cs.toArray T),fun b=>cond (d8u b σ.N) (0,id) (σ.L b)⟩ σ.N T cs :=
 ⟨hB,heap_alloc_new _ _,by simp⟩
theorem d4F {T:TypeId}{x:Operand}{B:Nat}(id:Nat)(hB:B<=σ.N)(v:Value)(cs:List Value)(hx:ev F x=v)(hkx:Q2 n x=true)(hc:v.cells.toList=cs)
 (h:∀ τ b,Ext σ τ->Blk B id τ b T cs->wpList P ops Q rest (fr n (J9 F d (.pointer (some ⟨b,0,none⟩)))) τ.w) :
 wpList P ops Q (⟨d,.box T x,ty,pos,aft,none⟩::rest) (fr n F) σ.w:=by
 refine J7 rfl (.pointer (some ⟨σ.N,0,none⟩)) (σ.w.alloc (.cells cs.toArray T)) ?_ (h _ σ.N (b4x σ _ (0,id)) (c57 σ hB T cs id))
 show Sem.run P (do pure (Next.value (<- Instr.box T ((fr n F).eval x)))) σ.w=_
 rw [w8 hkx,hx]
 have hcc:v.cells=cs.toArray:=by rw [<- hc]
 simp [Instr.box,newVar,newRow,hcc]
theorem c9Y {T:TypeId}{B:Nat}(id:Nat)(hB:B<=σ.N)(z:Value)(cs:List Value){sz by_:Nat}(hT:Y9 P T z sz by_)(hc:z.cells.toList=cs)
 (h:∀ τ b,Ext σ τ->Blk B id τ b T cs->wpList P ops Q rest (fr n (J9 F d (.pointer (some ⟨b,0,none⟩)))) τ.w) :
 wpList P ops Q (⟨d,.alloc T,ty,pos,aft,none⟩::rest) (fr n F) σ.w:=by
 refine J7 rfl (.pointer (some ⟨σ.N,0,none⟩)) (σ.w.alloc (.cells cs.toArray T)) ?_ (h _ σ.N (b4x σ _ (0,id)) (c57 σ hB T cs id))
 obtain ⟨i,h1,h2,_,_⟩:=hT
 have hcc:z.cells=cs.toArray:=by rw [<- hc]
 simp [execOp,Instr.alloc,zeroValue,typeInfo,h1,h2,newVar,newRow,hcc]
theorem a6l (b:Nat)(T:TypeId):∀ (vs:List Value) (o:Nat) (w:World) (cs:List Value),w.heap[b]?=some (.cells cs.toArray T (0,0))->o+vs.length<=cs.length ->
 (w.setCells b o vs).heap[b]?=some (.cells (cs.take o++vs++cs.drop (o+vs.length)).toArray T (0,0))
 | [],o,w,cs,h,hl=>by simp only [World.setCells]; rw [h]; simp
 | v::vs,o,w,cs,h,hl=>by
   have h1:(w.setCell ⟨b,o,none⟩ v).heap[b]?=some (.cells (cs.set o v).toArray T (0,0)):=by
    simp [World.setCell,d9E,h]
   have hl':o<cs.length:=by simp at hl; omega
   have ih:=a6l b T vs (o+1) _ (cs.set o v) h1 (by simp at hl ⊢; omega)
   simp only [World.setCells]
   rw [ih]
   have e1:(cs.set o v).take (o+1)=cs.take o++[v]:=by
    rw [d9Z,if_pos hl',d91]
    simp [d8G,d9x (Nat.le_of_lt hl'),d97]
   have e2:(cs.set o v).drop (o+1+vs.length)=cs.drop (o+(v::vs).length):=by
    rw [List.drop_set_of_lt (by omega)]
    congr 1
    simp; omega
   rw [e1,e2]
   simp
theorem a2G (b:Nat):∀ (vs:List Value) (o:Nat) (w:World) (k:Nat),k≠b->(w.setCells b o vs).heap[k]?=w.heap[k]?
 | [],_,_,_,_=>rfl
 | v::vs,o,w,k,h=>by
   simp only [World.setCells]
   rw [a2G b vs (o+1) _ k h]
   exact Below.heap_setCell w ⟨b,o,none⟩ v k h
theorem a8b (b:Nat):∀ (vs:List Value) (o:Nat) (w:World),(w.setCells b o vs).heap.size=w.heap.size
 | [],_,_=>rfl
 | v::vs,o,w=>by simp only [World.setCells]; rw [a8b b vs]; simp
theorem b1m (b:Nat):∀ (vs:List Value) (o:Nat) (w:World),(w.setCells b o vs).os=w.os/\(w.setCells b o vs).tape=w.tape/\(w.setCells b o vs).output=w.output
 | [],_,_=>⟨rfl,rfl,rfl⟩
 | v::vs,o,w=>by simp only [World.setCells]; exact b1m b vs (o+1) (w.setCell ⟨b,o,none⟩ v)
theorem a9T (b:Nat):∀ (vs:List Value) (o:Nat) (w:World),(w.setCells b o vs).drawn=w.drawn
 | [],_,_=>rfl
 | v::vs,o,w=>by simp only [World.setCells]; exact a9T b vs (o+1) (w.setCell ⟨b,o,none⟩ v)
theorem b6t (w:World)(a:Addr)(v:Value)(a':Addr):(w.setCell a v).frozen? a'=w.frozen? a':=by
 unfold World.frozen? World.setCell
 simp only [d9E]
 by_cases h:a.block=a'.block
 ·rw [if_pos h]
  cases he:w.heap[a'.block]? with
  | none=>rfl
  | some o=>cases o<;>rfl
 ·rw [if_neg h]
theorem b4q (b:Nat)(a:Addr):∀ (vs:List Value) (o:Nat) (w:World),(w.setCells b o vs).frozen? a=w.frozen? a
 | [],_,_=>rfl
 | v::vs,o,w=>by simp only [World.setCells]; rw [b4q b a vs,b6t]
theorem b9s {B id:Nat}{b:Nat}{T:TypeId}{cs:List Value}(h:Blk B id σ b T cs)(o:Nat)(vs:List Value):Mod B id σ ⟨σ.w.setCells b o vs,σ.L⟩:=by
 obtain ⟨r1,r2,r3⟩:=b1m b vs o σ.w
 refine ⟨⟨by simp [S.N,a8b],fun _ _=>d8r _,fun b' o' v ho hc=>?_,Nat.le_of_eq (a9T b vs o σ.w).symm,fun b' o' _ hf=>(b4q b _ vs o σ.w).trans hf⟩,r1,r2,r3,fun b' hb' hne=>⟨a2G b vs o σ.w b' ?_,rfl⟩⟩
 ·have hne:b'≠b:=by rintro rfl; rw [h.2.2] at ho; exact absurd ho (by simp)
  exact (a1n (a2G b vs o σ.w b' hne) o').trans hc
 ·rintro rfl
  rcases hne with hne | hne
  ·exact absurd h.1 (by omega)
  ·exact hne (by rw [h.2.2])
theorem c1d {T T':TypeId}{x y:Operand}{B id b:Nat}{cs:List Value}(hb:Blk B id σ b T' cs)(o:Nat)(v:Value)(vs cs':List Value)(hx:ev F x=.pointer (some ⟨b,o,none⟩))(hy:ev F y=v)
 (hkx:Q2 n x=true) (hky:Q2 n y=true) (hv:v.cells.toList=vs) (hT:(P.info? T).map (·.size)=some vs.length) (h1:vs.all (·.oneCell')=true) (hl:d89 (o+vs.length) cs.length=true)
 (hcs:cs.take o++vs++cs.drop (o+vs.length)=cs')
 (h:∀ τ,Mod B id σ τ->Blk B id τ b T' cs'->wpList P ops Q rest (fr n (J9 F d undef)) τ.w) :
 wpList P ops Q (⟨d,.store T x y,ty,pos,aft,none⟩::rest) (fr n F) σ.w:=by
 have hle:o+vs.length<=cs.length:=d8N hl
 have hsz:v.cells.size=vs.length:=by rw [<- hv]; simp
 refine b6w rfl (σ.w.setCells b o vs) ?_ (h ⟨σ.w.setCells b o vs,σ.L⟩ (b9s hb o vs) ⟨hb.1,by rw [<- hcs]; exact a6l b T' vs o σ.w cs hb.2.1 hle,hb.2.2⟩)
 show Sem.run P (do Instr.storeAt T ((fr n F).eval x) ((fr n F).eval y); pure Next.skip) σ.w=_
 rw [w8 hkx,w8 hky,hx,hy]
 have hst:=run_storeCells_cells (P:=P) b o vs 0 σ.w (fun j hj=>by
  rw [d9h,hb.cell,d8n (by omega)]; rfl) (fun j hj=>by simp [World.frozen?,hb.2.1]) (fun u hu=>(d8q.1 h1) u hu)
 simp only [d9h] at hst
 simp only [Instr.storeAt,Instr.sureAddr,storeVar,Sem.run_bind,Sem.run_pure,Result.andThen_ok,run_sizeOf hT,hsz,ne_eq,not_true_eq_false,if_false,hv,hst]
theorem c8d {w:World}{b o:Nat}{v:Value}(h:w.cell? ⟨b,o,none⟩=some v):w.setCell ⟨b,o,none⟩ v=w:=by
 have hh:(w.setCell ⟨b,o,none⟩ v).heap=w.heap:=by
  unfold World.setCell
  apply d92
  intro i
  simp only [d9E]
  by_cases e:b=i
  ·subst e
   rw [if_pos rfl]
   unfold World.cell? at h
   simp only at h
   split at h
   ·rename_i c t f he
    simp only [Option.isSome_none,d81,if_false] at h
    obtain ⟨hl,hv⟩:=d9k.1 h
    rw [he]
    have e2:c.setIfInBounds o v=c:=by
     apply d92
     intro j
     rw [Array.getElem?_setIfInBounds]
     by_cases ej:o=j
     ·subst ej; rw [if_pos rfl,if_pos hl,h]
     ·rw [if_neg ej]
    simp [e2]
   ·cases h
  ·rw [if_neg e]
 have e:w.setCell ⟨b,o,none⟩ v={ w with heap:=(w.setCell ⟨b,o,none⟩ v).heap }:=rfl
 rw [e,hh]
theorem c9D {T:TypeId}{x y:Operand}{b o:Nat}{v:Value}{w:World}(hx:ev F x=.pointer (some ⟨b,o,none⟩))(hkx:Q2 n x=true)(hky:Q2 n y=true)(hv:(ev F y).cells.toList=[v])
 (hT:(P.info? T).map (·.size)=some 1) (h1:v.oneCell'=true) (hc:w.cell? ⟨b,o,none⟩=some v) (hf:w.frozen? ⟨b,o,none⟩=false) (h:wpList P ops Q rest (fr n (J9 F d undef)) w) :
 wpList P ops Q (⟨d,.store T x y,ty,pos,aft,none⟩::rest) (fr n F) w:=by
 have hsz:(ev F y).cells.size=1:=by rw [<- d8R,hv]; rfl
 refine b6w rfl w ?_ h
 show Sem.run P (do Instr.storeAt T ((fr n F).eval x) ((fr n F).eval y); pure Next.skip) w=_
 rw [w8 hkx,w8 hky,hx]
 have hst:=run_storeCells_cells (P:=P) b o [v] 0 w (fun j hj=>by
  obtain rfl:j=0:=by simpa using hj
  simp [hc]) (fun j hj=>by
  obtain rfl:j=0:=by simpa using hj
  simpa using hf) (fun u hu=>by rw [d9o.1 hu]; exact h1)
 simp only [d9h,World.setCells,c8d hc] at hst
 simp only [Instr.storeAt,Instr.sureAddr,storeVar,Sem.run_bind,Sem.run_pure,Result.andThen_ok,run_sizeOf hT,hsz,ne_eq,not_true_eq_false,if_false,hv,hst]
theorem b0q {t:TypeId}{x:Operand}{w:World}(A:Option Addr)(len c:Nat){E:TypeId}(hx:ev F x=.slice A len c)(hkx:Q2 n x=true)(hT:P.underlying t=some (.slice E))
 (h:wpList P ops Q rest (fr n (J9 F d (.int .i64 (len:Int)))) w) :
 wpList P ops Q (⟨d,.call ⟨.builtin .len,#[x],#[t]⟩,ty,pos,aft,none⟩::rest) (fr n F) w :=
 J7 rfl _ w (by simp [execOp,resolve,invoke,builtin,w8 hkx,hx,Builtin.len_,run_underlying hT,goInt]) h
theorem c8y {t:TypeId}{x:Operand}{w:World}(s:ByteArray)(hx:ev F x=.string s)(hkx:Q2 n x=true)(hT:P.underlying t=some .string)
 (h:wpList P ops Q rest (fr n (J9 F d (.int .i64 (s.size:Int)))) w) :
 wpList P ops Q (⟨d,.call ⟨.builtin .len,#[x],#[t]⟩,ty,pos,aft,none⟩::rest) (fr n F) w :=
 J7 rfl _ w (by simp [execOp,resolve,invoke,builtin,w8 hkx,hx,Builtin.len_,run_underlying hT,goInt]) h
theorem d7w {t u:TypeId}{x y:Operand}{w:World}(k:IntKind)(a b:Int)(hx:ev F x=.int k a)(hy:ev F y=.int k b)(hkx:Q2 n x=true)(hky:Q2 n y=true)
 (h:wpList P ops Q rest (fr n (J9 F d (.int k (max a b)))) w) :
 wpList P ops Q (⟨d,.call ⟨.builtin .max,#[x,y],#[t,u]⟩,ty,pos,aft,none⟩::rest) (fr n F) w :=
 J7 rfl _ w (by
  have e:(if b>a then b else a)=max a b:=by split<;>omega
  simp [execOp,resolve,invoke,builtin,w8 hkx,w8 hky,hx,hy,Builtin.max_,Builtin.max2]
  exact e) h
end
end Go.Sx
end
section
open Array renaming length_toList->d8R
open Bool renaming and_eq_true_iff->e0a
open List renaming all_eq_true->d8q,append_assoc->d8E,append_nil->d82,flatMap_cons->d9W,foldl_cons->e0f,getElem?_toArray->d9s,length_append->d8t,length_cons->d8v,length_drop->d83,length_nil->d8I,length_take->d8G,map_congr_left->d9z,map_cons->d8O,set_eq_take_append_cons_drop->d9Z,take_append->d91,take_left->d9l,take_of_length_le->d97
open Nat renaming add_mul->d8W,add_zero->d9h,beq->d8u,ble->d89,blt->d8V,eq_of_beq_eq_true->d8s,le_of_ble_eq_true->d8N,min_eq_left->d9x,one_mul->d90
open Option renaming bind_some->d8l,some->d8Y
namespace Go.Sx
open Go Go.RowKit
section
variable {P:Program}{ops:Array Oper}{Q:Exit->Act->World->Prop}{n:Nat}{F:Fr}{rest:List Oper}{d:Option Nat}{ty:TypeId}{pos:String}{aft:Array Edge}{σ:S}
theorem beq_false {a b:Nat}(h:a≠b):d8u a b=false:=by
 cases hb:d8u a b with
 | false=>rfl
 | true=>exact absurd (d8s hb) h
def b1W (pl:List (Nat×Nat)):List Value->List (Nat×List Value)->Option (List Value)
 | cells,[]=>some cells
 | cells,(i,vs)::rest =>
   match pl[i]? with
   | none=>none
   | some (off,size)=>cond (d8u vs.length size&&d89 (off+vs.length) cells.length) (b1W pl (cells.take off++vs++cells.drop (off+vs.length)) rest) none
theorem c0H (off:Nat):∀ (vs:List Value) (k:Nat) (cells:List Value),off+k+vs.length<=cells.length ->
 (vs.zipIdx k).foldl (fun (cs:Array Value) (x:Value×Nat)=>cs.setIfInBounds (off+x.2) x.1) cells.toArray=(cells.take (off+k)++vs++cells.drop (off+k+vs.length)).toArray
 | [],k,cells,h=>by simp
 | v::vs,k,cells,h=>by
   simp only [List.zipIdx_cons,e0f,List.setIfInBounds_toArray]
   rw [c0H off vs (k+1) (cells.set (off+k) v) (by simp at h ⊢; omega)]
   have hl':off+k<cells.length:=by simp at h; omega
   have e1:(cells.set (off+k) v).take (off+(k+1))=cells.take (off+k)++[v]:=by
    rw [d9Z,if_pos hl',d91]
    simp [d8G,d9x (Nat.le_of_lt hl'),d97,Nat.add_sub_add_left]
   have e2:(cells.set (off+k) v).drop (off+(k+1)+vs.length)=cells.drop (off+k+(v::vs).length):=by
    rw [List.drop_set_of_lt (by omega)]
    congr 1
    simp; omega
   rw [e1,e2]
   simp
theorem c5H (pl:List (Nat×Nat)):∀ (parts:List (Nat×Value)) (cells out:List Value),b1W pl cells (parts.map fun p=>(p.1,p.2.cells.toList))=some out ->
 Instr.fill (pl.toArray[·]?) cells.toArray parts=some out.toArray
 | [],cells,out,h=>by simp only [List.map_nil,b1W,d8Y.injEq] at h; rw [h]; rfl
 | (i,v)::rest,cells,out,h=>by
   simp only [d8O,b1W] at h
   cases hp:pl[i]? with
   | none=>rw [hp] at h; cases h
   | some q =>
     obtain ⟨off,size⟩:=q
     rw [hp] at h
     simp only at h
     cases hb:(d8u v.cells.toList.length size&&d89 (off+v.cells.toList.length) cells.length) with
     | false=>rw [hb] at h; cases h
     | true =>
       rw [hb] at h
       simp only [cond_true] at h
       obtain ⟨h1,h2⟩:=e0a.1 hb
       have h1':=d8s h1
       have h2':=d8N h2
       have hsz:v.cells.size=size:=by simpa using h1'
       have hn:¬ (v.cells.size≠size||decide (off+v.cells.size>cells.toArray.size))=true:=by
        simp at h2' ⊢; omega
       have hf:=c0H off v.cells.toList 0 cells (by simpa using h2')
       have ha:v.cells.zipIdx.foldl (fun (cs:Array Value) (x:Value×Nat)=>cs.setIfInBounds (off+x.2) x.1) cells.toArray=(cells.take off++v.cells.toList++cells.drop (off+v.cells.toList.length)).toArray:=by
        rw [<- Array.foldl_toList,Array.toList_zipIdx]
        simpa using hf
       have:=c5H pl rest _ out h
       simp only [Instr.fill,d9s,hp]
       rw [if_neg (by simpa using hn)]
       rw [<- this,<- ha]
       congr 1
       funext x
       exact d9s.symm
def c8J (P:Program)(T:TypeId)(pl:List (Nat×Nat))(zs:List Value):Prop :=
 ∃ fs i z,P.underlying T=some (.struct fs)/\P.info? T=some i/\i.zero=some z/\z.cells=zs.toArray/\fs.toList.mapM (fun f=>(P.info? f.type).map fun i=>(f.offset,i.size))=some pl
theorem d5z {T:TypeId}{ps:List (Nat×Operand)}{w:World}{pl:List (Nat×Nat)}{zs:List Value}(hT:c8J P T pl zs)(vs:List (Nat×Value))(cs:List Value)
 (hps:ps.map (fun p=>(p.1,ev F p.2))=vs) (hk:ps.all (fun p=>Q2 n p.2)=true) (hf:b1W pl zs (vs.map fun p=>(p.1,p.2.cells.toList))=some cs)
 (h:wpList P ops Q rest (fr n (J9 F d (.agg cs.toArray))) w) :
 wpList P ops Q (⟨d,.build T ps.toArray,ty,pos,aft,none⟩::rest) (fr n F) w:=by
 refine J7 rfl (.agg cs.toArray) w ?_ h
 obtain ⟨fs,i,z,h1,h2,h3,h4,h5⟩:=hT
 have he:(ps.toArray.map fun (i,x)=>(i,(fr n F).eval x)).toList=vs:=by
  rw [<- hps]
  simp only [Array.toList_map]
  apply d9z
  intro p hp
  rw [w8 ((d8q.1 hk) p hp)]
 have hb:P.built T vs=some cs.toArray:=by
  simp only [Program.built,h2,h1,h3,h5,h4]
  exact c5H pl vs zs cs hf
 have hr:=run_build (P:=P) w T (ps.toArray.map fun (i,x)=>(i,(fr n F).eval x)) cs.toArray (by rw [he,hb])
 show Sem.run P (do pure (Next.value (<- Instr.build T (ps.toArray.map fun (i,x)=>(i,(fr n F).eval x))))) w=_
 rw [Sem.run_bind,hr]
 rfl
theorem c2o (sz:Nat)(hsz:0<sz):∀ (vs:List Value) (k:Nat) (cells:List Value),cells.length=(k+vs.length)*sz->(∀ v∈vs,v.cells.size=sz) ->
 Instr.fill (fun i=>some (i*sz,sz)) cells.toArray ((vs.zipIdx k).map fun p=>(p.2,p.1))=some (cells.take (k*sz)++vs.flatMap (·.cells.toList)).toArray
 | [],k,cells,hl,hv=>by
   simp only [List.zipIdx_nil,List.map_nil,Instr.fill,List.flatMap_nil,d82,d8I,d9h] at hl ⊢
   rw [<- hl,List.take_length]
 | v::vs,k,cells,hl,hv=>by
   have hs:v.cells.size=sz:=hv v (by simp)
   have hle:k*sz+v.cells.toList.length<=cells.length:=by
    rw [hl,d8R,hs,d8v,d8W,d8W]; omega
   have hf:=c0H (k*sz) v.cells.toList 0 cells (by simpa using hle)
   have ha:v.cells.zipIdx.foldl (fun (cs:Array Value) (x:Value×Nat)=>cs.setIfInBounds (k*sz+x.2) x.1) cells.toArray=(cells.take (k*sz)++v.cells.toList++cells.drop (k*sz+v.cells.toList.length)).toArray:=by
    rw [<- Array.foldl_toList,Array.toList_zipIdx]
    simpa using hf
   have ih:=c2o sz hsz vs (k+1) (cells.take (k*sz)++v.cells.toList++cells.drop (k*sz+v.cells.toList.length)) (by
    simp only [d8t,d8G,d83,d8R,hs] at hle ⊢
    rw [d9x (by omega),hl]
    simp only [d8v,d8W,d90] at hl hle ⊢
    omega) (fun u hu=>hv u (by simp [hu]))
   simp only [List.zipIdx_cons,d8O,Instr.fill]
   rw [if_neg (by simp at hle ⊢; omega)]
   have e:(cells.take (k*sz)++v.cells.toList++cells.drop (k*sz+v.cells.toList.length)).take ((k+1)*sz)=cells.take (k*sz)++v.cells.toList:=by
    have hl2:(cells.take (k*sz)++v.cells.toList).length=(k+1)*sz:=by
     simp only [d8t,d8G,d8R,hs,d8W,d90] at hle ⊢
     omega
    rw [<- hl2]; exact d9l
   rw [e] at ih
   simp only [d9W,<- d8E]
   rw [<- ih]
   congr 1
theorem a5z {T:TypeId}{x:Operand}{lo hi mx:Option Operand}{w:World}(a v:Value)(l h' m:Option Value)(hx:ev F x=a)(hkx:Q2 n x=true)
 (hl:lo.map (ev F)=l) (hh:hi.map (ev F)=h') (hm:mx.map (ev F)=m) (hk:(lo.all (Q2 n)&&hi.all (Q2 n)&&mx.all (Q2 n))=true)
 (hr:Z7 P w (Instr.sliceAt T a l h' m) v) (h:wpList P ops Q rest (fr n (J9 F d v)) w) :
 wpList P ops Q (⟨d,.slice T x lo hi mx,ty,pos,aft,none⟩::rest) (fr n F) w :=
 J7 rfl v w (by
  have e:∀ o:Option Operand,o.all (Q2 n)=true->o.map (fr n F).eval=o.map (ev F):=by
   intro o ho
   cases o with
   | none=>rfl
   | some q=>simp at ho; simp [w8 ho]
  obtain ⟨h12,h3⟩:=e0a.1 hk
  obtain ⟨h1,h2⟩:=e0a.1 h12
  show Sem.run P (do pure (Next.value (<- Instr.sliceAt T ((fr n F).eval x) (lo.map (fr n F).eval) (hi.map (fr n F).eval) (mx.map (fr n F).eval)))) w=_
  rw [w8 hkx,hx,e lo h1,e hi h2,e mx h3,hl,hh,hm,Sem.run_bind,hr]; rfl) h
def a1F (P : Program) (f : FuncId) : Prop := ∃ fn c, P.funcs[f]? = some fn /\ fn.body = some c /\ (fn.name == "runtime.NumGoroutine") = false
def Ctr (P:Program)(f:FuncId)(vs:List Value)(σ:S)(R:Value->S->Prop):Prop :=
 a1F P f/\Calls P f vs.toArray σ.w fun e w'=>∃ v τ,e=.returned v/\τ.w=w'/\Ext σ τ/\R v τ
theorem Ctr.mono {f:FuncId}{vs:List Value}{R R':Value->S->Prop}(h:Ctr P f vs σ R)(k:∀ v τ,Ext σ τ->R v τ->R' v τ):Ctr P f vs σ R' :=
 ⟨h.1,h.2.mono fun _ _ ⟨v,τ,e,hw,he,hr⟩=>⟨v,τ,e,hw,he,k v τ he hr⟩⟩
theorem c3P {fn:Fn}{xs ys:List Operand}{w:World}(d8k bs:List Value)(ha:xs.map (ev F)=d8k)(hb:ys.map (ev F)=bs)(hk:(xs.all (Q2 n)&&ys.all (Q2 n))=true)
 (h:wpList P ops Q rest (fr n (J9 F d (.func fn d8k.toArray bs.toArray))) w) :
 wpList P ops Q (⟨d,.makeFunc fn xs.toArray ys.toArray,ty,pos,aft,none⟩::rest) (fr n F) w :=
 J7 rfl (.func fn d8k.toArray bs.toArray) w (by
  obtain ⟨h1,h2⟩:=e0a.1 hk
  have e:∀ (l:List Operand),l.all (Q2 n)=true->l.toArray.map (fr n F).eval=(l.map (ev F)).toArray:=by
   intro l hl
   simp only [List.map_toArray]
   congr 1
   exact d9z fun x hx=>w8 ((d8q.1 hl) x hx)
  simp [execOp,Instr.makeFunc,e xs h1,e ys h2,ha,hb]) h
def a04 (vs:List Value):Fr:=fun i=>vs.getD i undef
def d76 (P:Program)(n:Nat)(F:Fr)(w:World):ResultVar->Value->Prop
 | .tmp t,v=>d8V t n=true/\F t=v
 | .cell t T,v=>d8V t n=true/\∃ b,F t=.pointer (some ⟨b,0,none⟩)/\Z7 P w (loadVar T ⟨b,0,none⟩) v
def b1P (tmps:Array Value):ResultVar->Sem Value
 | .tmp t=>pure (tmps.getD t undef)
 | .cell a t=>do loadVar t (<- asAddr (tmps.getD a undef))
theorem b2e (fn:Func)(tmps:Array Value):results fn tmps=(do
 let vs <- fn.results.mapM (b1P tmps)
 pure (if h:vs.size=1 then vs[0] else .tuple vs)):=by
 have e:(b1P tmps)=(fun | .tmp t=>pure (tmps.getD t undef) | .cell a t=>do loadVar t (<- asAddr (tmps.getD a undef))):=by
  funext r; cases r<;>rfl
 rw [e]; rfl
theorem b2P {w:World}{r:ResultVar}{v:Value}(h:d76 P n F w r v):(b1P (fr n F).tmps r).run P w=.ok v w:=by
 cases r with
 | tmp t=>obtain ⟨h1,h2⟩:=h; show Sem.run P (pure _) w=_; rw [d0v h1,h2]; rfl
 | cell t T =>
   obtain ⟨h1,b,h2,h3⟩:=h
   have h3':(loadVar T ⟨b,0,none⟩).run P w=.ok v w:=h3
   show Sem.run P (do loadVar T (<- asAddr ((fr n F).tmps.getD t undef))) w=_
   rw [d0v h1,h2]
   simp [asAddr,h3']
inductive Fl (α β:Type) where
 | next (a:α)
 | done (b:β)
def j7 {α β:Type}(step:α->Option (Fl α β)):Nat->α->Option β
 | 0,_=>none
 | k+1,s=>(step s).bind fun | .next s'=>j7 step k s' | .done b=>some b
theorem b2m {α β:Type}{body:Code}{step:α->Option (Fl α β)}(Inv:α->Act->World->Prop)(Post:β->Exit->Act->World->Prop)(hno:∀ b a w,¬ Post b .normal a w)
 (hbody:∀ s fl a w,step s=some fl->Inv s a w->body.wp P (fun e a' w'=>match fl with | .next s'=>e=.normal/\Inv s' a' w' | .done b=>Post b e a' w') a w) :
 ∀ (k:Nat) (s:α) (b:β) (a:Act) (w:World),j7 step k s=some b->Inv s a w->(Code.loop body).wp P (Post b) a w:=by
 have key:∀ (k:Nat) (s:α) (b:β) (a:Act) (w:World),j7 step k s=some b->Inv s a w->Code.rounds P body (Post b) k a w:=by
  intro k
  induction k with
  | zero=>intro s b a w h; cases h
  | succ k ih =>
    intro s b a w h hI
    simp only [j7] at h
    cases hs:step s with
    | none=>rw [hs] at h; cases h
    | some fl =>
      rw [hs] at h
      have hb:=hbody s fl a w hs hI
      show body.wp P (Exit.then (Code.rounds P body (Post b) k) (Post b)) a w
      refine wp_mono hb fun e a' w' hp=>?_
      cases fl with
      | next s' =>
        obtain ⟨rfl,hI'⟩:=hp
        exact ih s' b a' w' h hI'
      | done b' =>
        simp only [d8l,d8Y.injEq] at h
        subst h
        cases e<;>first | exact absurd hp (hno _ _ _) | exact hp
 exact fun k s b a w h hI=>wp_loop_rounds k (key k s b a w h hI)
end
end Go.Sx
end
section
open List renaming all_eq_true->d8q,append_assoc->d8E,getElem?_drop->d9e,getElem?_eq_some_iff->d8o,getElem?_take_of_lt->d8K,length_pos_iff->e0d,length_take->d8G,map_congr_left->d9z,take_append_drop->d88,toArray->d84
open Nat renaming beq->d8u,blt->d8V,le_refl->d8r,le_trans->d8C,min_eq_left->d9x
open Option renaming isSome_iff_exists->d9K,some->d8Y
namespace Go.Sx
open Go Go.RowKit
theorem bind_some {α β:Type}{a:Option α}{f:α->Option β}{b:β}(h:a.bind f=some b):∃ x,a=some x/\f x=some b:=by
 cases a with
 | none=>cases h
 | some x=>exact ⟨x,rfl,h⟩
def w64 (x:Int):Int:=IntKind.i64.wrap x
def J4 (a b:ByteArray):Bool:=a.toList==b.toList
def a2d (a b:ByteArray):Bool:=Op.bytesLess a.toList b.toList
def k9 (n bytes:Nat):Option Unit:=if n*bytes<=140737488355328 then some () else none
theorem b9X {n bytes:Nat}{u:Unit}(h:k9 n bytes=some u):n*bytes<=140737488355328:=by
 unfold k9 at h
 split at h
 ·assumption
 ·cases h
def a5M (s:ByteArray)(j:Int):Option UInt8:=if 0<=j then s[j.toNat]? else none
def b3w (a b:Int):Option Int:=if b=0 then none else some (a.tmod b)
def cut {α:Type}(xs:List α)(lo hi:Int):Option (List α):=if 0<=lo/\lo<=hi/\hi<=(xs.length:Int) then some ((xs.take hi.toNat).drop lo.toNat) else none
def w9 {α β γ:Type}(f:α->Option γ)(g:β->Option γ):Sum α β->Option γ
 | .inl a=>f a
 | .inr b=>g b
section
variable {P:Program}{Q:Exit->Act->World->Prop}{K:Act->World->Prop}{a:Act}{w:World}
theorem K8 {y:Code}(h:y.wp P Q a w):Exit.then (y.wp P Q) Q .normal a w:=h
theorem c49 {id:Nat}(h:Q (.exit id) a w):Exit.then K Q (.exit id) a w:=h
theorem d46 (h:Q .ret a w):Exit.then K Q .ret a w:=h
theorem d3c {id:Nat}(h:Q .normal a w):Exit.inBlock id Q .normal a w:=h
theorem d3r {id:Nat}(h:Q .normal a w):Exit.inBlock id Q (.exit id) a w:=by simp only [Exit.inBlock,if_true]; exact h
theorem b6r {n:Nat}{F:Fr}{t:Tmp}{c:Bool}{x y:Code}(ht:F t=.bool c)(hc:c=true)(hk:d8V t n=true)(h:x.wp P Q (fr n F) w):(Code.cond (.tmp t) x y).wp P Q (fr n F) w :=
 wp_cond_true (by rw [w8 (x:=.tmp t) hk]; show F t=_; rw [ht,hc]) h
theorem a9K {n:Nat}{F:Fr}{t:Tmp}{c:Bool}{x y:Code}(ht:F t=.bool c)(hc:c=false)(hk:d8V t n=true)(h:y.wp P Q (fr n F) w):(Code.cond (.tmp t) x y).wp P Q (fr n F) w :=
 wp_cond_false (by rw [w8 (x:=.tmp t) hk]; show F t=_; rw [ht,hc]) h
end
def Agr (A:List Nat)(F G:Fr):Prop:=∀ i,A.contains i=false->F i=G i
theorem Agr.refl (A:List Nat)(F:Fr):Agr A F F:=fun _ _=>rfl
theorem Agr.put {A:List Nat}{F G:Fr}{d:Nat}{v:Value}(h:Agr A F G)(hd:A.contains d=true):Agr A (J9 F (some d) v) G:=fun i hi=>by
 have:d8u i d=false:=beq_false (by rintro rfl; rw [hd] at hi; cases hi)
 simp only [J9,upd,this,cond_false]
 exact h i hi
theorem Agr.loop {A A2:List Nat}{F G H:Fr}(h:Agr A G H)(k:Agr A2 F G)(hs:A2.all (fun i=>A.contains i)=true):Agr A F H:=fun i hi=>by
 refine (k i ?_).trans (h i hi)
 cases hc:A2.contains i with
 | false=>rfl
 | true =>
   have:=(d8q.1 hs) i (by simpa using hc)
   rw [hi] at this; cases this
section
variable {P:Program}{w:World}{T:TypeId}{x y:Operand}{k:IntKind}{a b:Int}
theorem c7b:Z7 P w (do eqGuard .add T x y (.int k a) (.int k b); binOp .add T (.int k a) (.int k b)) (.int k (k.wrap (a+b))):=by
 simp [Z7,eqGuard_add,binOp_add,Op.intArith]
theorem d7H:Z7 P w (do eqGuard .sub T x y (.int k a) (.int k b); binOp .sub T (.int k a) (.int k b)) (.int k (k.wrap (a-b))):=by
 simp [Z7,eqGuard_sub,binOp_sub,Op.intArith]
theorem d7E:Z7 P w (do eqGuard .mul T x y (.int k a) (.int k b); binOp .mul T (.int k a) (.int k b)) (.int k (k.wrap (a*b))):=by
 simp [Z7,eqGuard_mul,binOp_mul,Op.intArith]
theorem c7k:Z7 P w (do eqGuard .lss T x y (.int k a) (.int k b); binOp .lss T (.int k a) (.int k b)) (.bool (decide (a<b))):=by simp [Z7,eqGuard_lss,binOp_lss]
theorem d7N:Z7 P w (do eqGuard .leq T x y (.int k a) (.int k b); binOp .leq T (.int k a) (.int k b)) (.bool (decide (a<=b))):=by simp [Z7,eqGuard_leq,binOp_leq]
theorem d71:Z7 P w (do eqGuard .gtr T x y (.int k a) (.int k b); binOp .gtr T (.int k a) (.int k b)) (.bool (decide (b<a))):=by simp [Z7,eqGuard_gtr,binOp_gtr]
theorem d74:Z7 P w (do eqGuard .geq T x y (.int k a) (.int k b); binOp .geq T (.int k a) (.int k b)) (.bool (decide (b<=a))):=by simp [Z7,eqGuard_geq,binOp_geq]
theorem d7T:Z7 P w (do eqGuard .eql T x y (.int k a) (.int k b); binOp .eql T (.int k a) (.int k b)) (.bool (a==b)):=by simp [Z7,eqGuard_at_int,binOp_eql]
theorem d70:Z7 P w (do eqGuard .neq T x y (.int k a) (.int k b); binOp .neq T (.int k a) (.int k b)) (.bool (a != b)):=by simp [Z7,eqGuard_at_int,binOp_neq]
variable {s t:ByteArray}
theorem d7k:Z7 P w (do eqGuard .eql T x y (.string s) (.string t); binOp .eql T (.string s) (.string t)) (.bool (J4 s t)):=by simp [Z7,eqGuard_at_string,binOp,Op.stringOp,J4]
theorem d6Y:Z7 P w (do eqGuard .neq T x y (.string s) (.string t); binOp .neq T (.string s) (.string t)) (.bool (!J4 s t)):=by simp [Z7,eqGuard_at_string,binOp,Op.stringOp,J4]
theorem d6A:Z7 P w (do eqGuard .lss T x y (.string s) (.string t); binOp .lss T (.string s) (.string t)) (.bool (a2d s t)):=by simp [Z7,eqGuard_at_string,binOp,Op.stringOp,a2d]
theorem d7q:Z7 P w (do eqGuard .gtr T x y (.string s) (.string t); binOp .gtr T (.string s) (.string t)) (.bool (!(a2d s t||J4 s t))):=by simp [Z7,eqGuard_at_string,binOp,Op.stringOp,a2d,J4]
theorem d7r:Z7 P w (do eqGuard .geq T x y (.string s) (.string t); binOp .geq T (.string s) (.string t)) (.bool (!a2d s t)):=by simp [Z7,eqGuard_at_string,binOp,Op.stringOp,a2d]
theorem d62:Z7 P w (do eqGuard .leq T x y (.string s) (.string t); binOp .leq T (.string s) (.string t)) (.bool (a2d s t||J4 s t)):=by simp [Z7,eqGuard_at_string,binOp,Op.stringOp,a2d,J4]
theorem c4H (hT:P.underlying T=some .bool)(p q:Bool)(d:Nat):(Op.equalIn (d+1) T (.bool p) (.bool q)).run P w=.ok (p==q) w:=by simp [Op.equalIn,run_underlying hT]
theorem d6N {p q:Bool}(hT:P.underlying T=some .bool):Z7 P w (do eqGuard .eql T x y (.bool p) (.bool q); binOp .eql T (.bool p) (.bool q)) (.bool (p==q)):=by
 have h:=c4H (w:=w) hT p q 9999
 show Sem.run P (do eqGuard .eql T x y (.bool p) (.bool q); pure (Value.bool (<- Op.equalIn 10000 T (.bool p) (.bool q)))) w=_
 rw [eqGuard_at_bool]
 simp only [Sem.run_bind,Sem.run_pure,Result.andThen_ok,h]
theorem d6t {p q:Bool}(hT:P.underlying T=some .bool):Z7 P w (do eqGuard .neq T x y (.bool p) (.bool q); binOp .neq T (.bool p) (.bool q)) (.bool (p != q)):=by
 have h:=c4H (w:=w) hT p q 9999
 show Sem.run P (do eqGuard .neq T x y (.bool p) (.bool q); pure (Value.bool (!(<- Op.equalIn 10000 T (.bool p) (.bool q))))) w=_
 rw [eqGuard_at_bool]
 simp only [Sem.run_bind,Sem.run_pure,Result.andThen_ok,h]
 rfl
theorem d7B {p:Bool}:Z7 P w (Op.unary .not (.bool p)) (.bool (!p)):=by simp [Z7,Op.unary]
theorem d7W:Z7 P w (Op.unary .neg (.int k a)) (.int k (k.wrap (0-a))):=by simp [Z7,Op.unary,Op.intArith]
theorem d7d {src dst:TypeId}{k':IntKind}(hs:(P.underlying src).isSome=true)(hd:P.underlying dst=some (.int k')):Z7 P w (convert src dst (.int k a)) (.int k' (k'.wrap a)):=by
 obtain ⟨d,hd'⟩:=d9K.1 hs
 simp [Z7,convert,run_underlying hd',run_underlying hd,Conv.intToInt]
theorem d6T {j:Int}{c:UInt8}(hT:P.underlying T=some .string)(h:a5M s j=some c):Z7 P w (Instr.index T (.string s) (.int k j)) (.int .u8 (c.toNat:Int)):=by
 unfold a5M at h
 split at h
 ·rename_i h0
  simp [Z7,Instr.index,asIntOf,run_underlying hT,h0,h]
 ·cases h
end
theorem b7I {α:Type}{xs ys:List α}{lo hi:Int}(h:cut xs lo hi=some ys):0<=lo/\lo<=hi/\hi<=(xs.length:Int)/\ys=(xs.take hi.toNat).drop lo.toNat:=by
 unfold cut at h
 split at h
 ·rename_i hh; simp only [d8Y.injEq] at h; exact ⟨hh.1,hh.2.1,hh.2.2,h.symm⟩
 ·cases h
def Fn1 (P:Program){α β:Type} [Rp α] [Rp β] (σ:S)(v:Value)(g:α->Option β):Prop :=
 ∃ k first capt,v=.func (.func k) (d84 first) (d84 capt)/\∀ τ,ExtB σ.N σ τ->∀ a r u,RpV τ a u->g a=some r->Ctr P k (first++[u]++capt) τ (fun v υ=>RpV υ r v)
def Fn2 (P:Program){α β γ:Type} [Rp α] [Rp β] [Rp γ] (σ:S)(v:Value)(g:α->β->Option γ):Prop :=
 ∃ k first capt,v=.func (.func k) (d84 first) (d84 capt)/\∀ τ,ExtB σ.N σ τ->∀ a b r u1 u2,RpV τ a u1->RpV τ b u2->g a b=some r->Ctr P k (first++[u1,u2]++capt) τ (fun v υ=>RpV υ r v)
theorem Fn1.up {P:Program}{α β:Type} [Rp α] [Rp β] {σ τ:S}{v:Value}{g:α->Option β}(h:Fn1 P σ v g)(k:ExtB σ.N σ τ):Fn1 P τ v g:=by
 obtain ⟨f,a,b,e,h⟩:=h
 exact ⟨f,a,b,e,fun υ hυ=>h υ (k.trans (hυ.mono k.size))⟩
theorem Fn2.up {P:Program}{α β γ:Type} [Rp α] [Rp β] [Rp γ] {σ τ:S}{v:Value}{g:α->β->Option γ}(h:Fn2 P σ v g)(k:ExtB σ.N σ τ):Fn2 P τ v g:=by
 obtain ⟨f,a,b,e,h⟩:=h
 exact ⟨f,a,b,e,fun υ hυ=>h υ (k.trans (hυ.mono k.size))⟩
section
variable {P:Program}{ops:Array Oper}{Q:Exit->Act->World->Prop}{n:Nat}{F:Fr}{rest:List Oper}{dst:Option Nat}{op:Op}{ty:TypeId}{pos:String}{aft:Array Edge}{w:World}
theorem c6q {j d:Nat}{want c:Bool}(hd:(ops[j]?).bind (·.dst)=some d)(hF:F d=.bool c)(hlt:d8V d n=true) :
 Region.wanted ⟨dst,op,ty,pos,aft,some (j,want)⟩ (yielded ops (fr n F).tmps)=(c==want):=by
 have h2:(fr n F).tmps[d]?=some (.bool c):=by simp [fr,a64 hlt,hF]
 have hy:yielded ops (fr n F).tmps j=some c:=by
  unfold yielded
  rw [hd]
  show (match (fr n F).tmps[d]? with | some (.bool b)=>some b | _=>none)=some c
  rw [h2]
 simp only [Region.wanted,hy]
 cases c<;>cases want<;>rfl
theorem d7F {t u:TypeId}{x y:Operand}(k:IntKind)(a b:Int)(hx:ev F x=.int k a)(hy:ev F y=.int k b)(hkx:Q2 n x=true)(hky:Q2 n y=true)
 (h:wpList P ops Q rest (fr n (J9 F dst (.int k (min a b)))) w) :
 wpList P ops Q (⟨dst,.call ⟨.builtin .min,#[x,y],#[t,u]⟩,ty,pos,aft,none⟩::rest) (fr n F) w :=
 J7 rfl _ w (by
  have e:(if b<a then b else a)=min a b:=by split<;>omega
  simp [execOp,resolve,invoke,builtin,w8 hkx,w8 hky,hx,hy,Builtin.min_,Builtin.min2]
  exact e) h
end
def Ro (B:Nat)(σ:S)(b:Nat)(T:TypeId)(cs:List Value):Prop:=b<B/\σ.w.heap[b]?=some (.cells cs.toArray T (0,0))
section
variable {B id b:Nat}{σ τ:S}{T:TypeId}{cs:List Value}
theorem Ro.ext (h:Ro B σ b T cs)(k:Ext σ τ):Ro B τ b T cs:=⟨h.1,(k.below.block b (a0E h.2)).trans h.2⟩
theorem Ro.cell (h:Ro B σ b T cs)(i:Nat):σ.w.cell? ⟨b,i,none⟩=cs[i]?:=by simp [World.cell?,h.2]
theorem Ro.range (h:Ro B σ b T cs)(o:Nat)(vs:List Value)(hv:(cs.drop o).take vs.length=vs):σ.w.rangeAt b o vs:=by
 intro j v hj
 rw [h.cell]
 have hlt:=(d8o.1 hj).1
 rw [<- hv,d8K hlt,d9e] at hj
 exact hj
end
section
variable {P:Program}{α:Type} [Rp α] {σ:S}{T E:TypeId}{xs ys:List α}{A:Option Addr}{c:Nat}
theorem Sl.clip (h:Sl σ xs A c):Sl σ xs A xs.length:=by
 obtain ⟨h1,h2,h3⟩:=h
 exact ⟨d8r _,d8C h1 h2,h3⟩
theorem d54 {w:World}{len:Nat}{A:Option Addr}{c:Nat}(hT:P.underlying T=some (.slice E)){k:Nat}(hE:(P.info? E).map (·.size)=some k) :
 Z7 P w (Instr.sliceAt T (.slice A len c) none (some (.int .i64 0)) (some (.int .i64 0))) (.slice A 0 0):=by
 have:=run_sizeOf hE w
 simp [Z7,Instr.sliceAt,Instr.slice,Instr.sliceBounds,Instr.sliceBound,asIntOf,run_underlying hT,this]
theorem d5R (h:Sl σ xs A c)(hT:P.underlying T=some (.slice E)){k:Nat}(hE:(P.info? E).map (·.size)=some k) :
 Z7 P σ.w (Instr.sliceAt T (.slice A xs.length c) none (some (.int .i64 (xs.length:Int))) (some (.int .i64 (xs.length:Int)))) (.slice A xs.length xs.length):=by
 have:=run_sizeOf hE σ.w
 have hn:=h.1
 have hlt:¬ c<xs.length:=by omega
 ·cases A<;>simp [Z7,Instr.sliceAt,Instr.slice,Instr.sliceBounds,Instr.sliceBound,asIntOf,run_underlying hT,this,hlt,Addr.add]
theorem Sl.sub (h:Sl σ xs A c){l hh:Nat}(h1:l<=hh)(h2:hh<=xs.length):Sl σ ((xs.take hh).drop l) (if c=l then A else A.map (·.add (l*Rp.sz α))) (c-l):=by
 obtain ⟨k1,k2,cs,k3,k4⟩:=h
 have hlen:((xs.take hh).drop l).length=hh-l:=by simp; omega
 refine ⟨by rw [hlen]; omega,by omega,?_⟩
 have hs:xs=xs.take l++((xs.take hh).drop l++xs.drop hh):=by
  have e1:=d88 l (xs.take hh)
  have e2:=d88 hh xs
  have e3:(xs.take hh).take l=xs.take l:=by rw [List.take_take]; congr 1; omega
  rw [e3] at e1
  rw [<- d8E,e1,e2]
 rw [hs] at k3
 obtain ⟨c1,d1,rfl,f1,f2⟩:=k3.split
 obtain ⟨c2,d2,rfl,f3,f4⟩:=f2.split
 refine ⟨c2,f3,fun hn=>?_⟩
 have hpos:0<hh-l:=by rw [<- hlen]; exact e0d.2 hn
 obtain ⟨b,o,rfl,hse⟩:=k4 (by intro e; rw [e] at h2; simp at h2; omega)
 rw [if_neg (by omega)]
 refine ⟨b,o+l*Rp.sz α,by simp [Addr.add_mid],?_⟩
 have:=(hse.app.2).app.1
 rw [f1.len,d8G,d9x (by omega)] at this
 exact this
theorem d02 {lo hi:Int}(h:Sl σ xs A c)(hc:cut xs lo hi=some ys)(hT:P.underlying T=some (.slice E))(hE:(P.info? E).map (·.size)=some (Rp.sz α)) :
 ∃ A' c',Z7 P σ.w (Instr.sliceAt T (.slice A xs.length c) (some (.int .i64 lo)) (some (.int .i64 hi)) none) (.slice A' ys.length c')/\Sl σ ys A' c':=by
 obtain ⟨h1,h2,h3,rfl⟩:=b7I hc
 have hk:=h.1
 refine ⟨_,_,?_,h.sub (l:=lo.toNat) (hh:=hi.toNat) (by omega) (by omega)⟩
 have hsz:=run_sizeOf hE σ.w
 have a1:hi<=(c:Int):=by omega
 have a2:0<=hi:=by omega
 have a3:lo<=((hi.toNat:Nat):Int):=by omega
 have hlen:((xs.take hi.toNat).drop lo.toNat).length=hi.toNat-lo.toNat:=by simp; omega
 rw [hlen]
 simp only [Z7,Instr.sliceAt,Instr.slice,Instr.sliceBounds,Instr.sliceBound,asIntOf,Sem.run_bind,run_underlying hT,Result.andThen_ok,Sem.run_pure,if_pos (And.intro a2 a1),if_pos (And.intro h1 a3),hsz,if_true]
theorem d3j {hi:Int}(h:Sl σ xs A c)(hc:cut xs 0 hi=some ys)(hT:P.underlying T=some (.slice E))(hE:(P.info? E).map (·.size)=some (Rp.sz α)) :
 ∃ A' c',Z7 P σ.w (Instr.sliceAt T (.slice A xs.length c) none (some (.int .i64 hi)) none) (.slice A' ys.length c')/\Sl σ ys A' c':=by
 obtain ⟨h1,h2,h3,rfl⟩:=b7I hc
 have hk:=h.1
 refine ⟨_,_,?_,h.sub (l:=(0:Int).toNat) (hh:=hi.toNat) (by omega) (by omega)⟩
 have hsz:=run_sizeOf hE σ.w
 have a1:hi<=(c:Int):=by omega
 have hlen:((xs.take hi.toNat).drop (0:Int).toNat).length=hi.toNat-0:=by simp; omega
 rw [hlen]
 simp only [Z7,Instr.sliceAt,Instr.slice,Instr.sliceBounds,Instr.sliceBound,asIntOf,Sem.run_bind,run_underlying hT,Result.andThen_ok,Sem.run_pure,if_pos (And.intro h2 a1),hsz]
 rfl
theorem d3K {lo:Int}(h:Sl σ xs A c)(hc:cut xs lo (xs.length:Int)=some ys)(hT:P.underlying T=some (.slice E))(hE:(P.info? E).map (·.size)=some (Rp.sz α)) :
 ∃ A' c',Z7 P σ.w (Instr.sliceAt T (.slice A xs.length c) (some (.int .i64 lo)) none none) (.slice A' ys.length c')/\Sl σ ys A' c':=by
 obtain ⟨h1,h2,h3,rfl⟩:=b7I hc
 have hk:=h.1
 refine ⟨_,_,?_,h.sub (l:=lo.toNat) (hh:=(xs.length:Int).toNat) (by omega) (by omega)⟩
 have hsz:=run_sizeOf hE σ.w
 have hlen:((xs.take (xs.length:Int).toNat).drop lo.toNat).length=xs.length-lo.toNat:=by simp
 rw [hlen]
 simp only [Z7,Instr.sliceAt,Instr.slice,Instr.sliceBounds,Instr.sliceBound,asIntOf,Sem.run_bind,run_underlying hT,Result.andThen_ok,Sem.run_pure,if_pos (And.intro h1 h2),hsz]
end
theorem d7A {P:Program}{w:World}{T E:TypeId}{x y:Operand}{A:Option Addr}{n c:Nat}(hT:P.underlying T=some (.slice E)) :
 Z7 P w (do eqGuard .eql T x y (.slice A n c) (.slice none 0 0); binOp .eql T (.slice A n c) (.slice none 0 0)) (.bool A.isNone):=by
 have h:∀ d:Nat,(Op.equalIn (d+1) T (.slice A n c) (.slice none 0 0)).run P w=.ok A.isNone w:=fun d=>by
  cases A<;>simp [Op.equalIn,run_underlying hT]
 show Sem.run P (do eqGuard .eql T x y (.slice A n c) (.slice none 0 0); pure (Value.bool (<- Op.equalIn 10000 T (.slice A n c) (.slice none 0 0)))) w=_
 rw [eqGuard_at_slice]
 simp only [Sem.run_bind,Sem.run_pure,Result.andThen_ok,h 9999]
theorem Sl.nil_of {α:Type} [Rp α] {σ:S}{xs:List α}{A:Option Addr}{c:Nat}(h:Sl σ xs A c)(hA:A.isNone=true):xs=[]:=by
 apply Classical.byContradiction
 intro hn
 obtain ⟨_,_,cs,_,h4⟩:=h
 obtain ⟨b,o,rfl,_⟩:=h4 hn
 cases hA
section
variable {P:Program}{ops:Array Oper}{Q:Exit->Act->World->Prop}{n:Nat}{F:Fr}{rest:List Oper}{d:Option Nat}{ty:TypeId}{pos:String}{aft:Array Edge}{σ:S}
theorem c6M {T E:TypeId}{z:Value}{size bytes:Nat}(hT:a33 P T E z size bytes)
 (h:∀ τ A,Ext σ τ->wpList P ops Q rest (fr n (J9 F d (.slice A 0 0))) τ.w) :
 wpList P ops Q (⟨d,.buildSlice T 0 (d84 []),ty,pos,aft,none⟩::rest) (fr n F) σ.w:=by
 obtain ⟨hu,⟨i,hi,hz,hsi,hby⟩,hzs,hp,hbp⟩:=hT
 refine J7 rfl (.slice (some ⟨σ.N,0,none⟩) 0 0) (σ.w.alloc (.cells #[] E)) ?_ (h _ _ (b4x σ _ (0,0)))
 show Sem.run P (do pure (Next.value (<- Instr.buildSlice T 0 (Array.map _ (d84 []))))) σ.w=_
 simp [Instr.buildSlice,run_underlying hu,sizeOf,typeInfo,hi,Instr.fill,newRow,Array.range_zero']
end
def nrm (J:Act->World->Prop):Exit->Act->World->Prop:=fun e a w=>e=.normal/\J a w
section
variable {P:Program}{Q:Exit->Act->World->Prop}{x y z:Code}{a:Act}{w:World}
theorem c2A (J:Act->World->Prop)(h:x.wp P (nrm J) a w)(k:∀ a w,J a w->y.wp P Q a w):(Code.seq x y).wp P Q a w :=
 wp_seq (wp_mono h fun e a w ⟨he,hj⟩=>by subst he; exact k a w hj)
end
def c0q (a b:ByteArray):Int:=Lib.compareBytes a.data.toList b.data.toList
section
variable {P:Program}{ops:Array Oper}{Q:Exit->Act->World->Prop}{n:Nat}{F:Fr}{rest:List Oper}{d:Option Nat}{ty:TypeId}{pos:String}{aft:Array Edge}{w:World}
theorem d51 {f:FuncId}{xs:List Operand}{ats:Array TypeId}(vs:List Value)(v:Value)(hvs:xs.map (ev F)=vs)(hk:xs.all (Q2 n)=true)(hc:(callFunc f vs.toArray).run P w=.ok (.value v) w)
 (h:wpList P ops Q rest (fr n (J9 F d v)) w) :
 wpList P ops Q (⟨d,.call ⟨.value (.func f),xs.toArray,ats⟩,ty,pos,aft,none⟩::rest) (fr n F) w :=
 J7 rfl v w (by
  have he:xs.toArray.map (fr n F).eval=vs.toArray:=by
   rw [<- hvs]
   simp only [List.map_toArray]
   congr 1
   exact d9z fun x hx=>w8 ((d8q.1 hk) x hx)
  simp [execOp,resolve,Act.eval,Deferred.ofValue,invoke,he,hc]) h
theorem d72 {f : FuncId} {fn : Func} (hf : P.funcs[f]? = some fn) (hname : (fn.name == "runtime.NumGoroutine") = false) (hb : fn.body.isNone = true) (hn : Extern.findNext fn = none) (he : Extern.find fn = some Extern.BytealgCompare.compare) (a b : ByteArray) (w : World) :
 (callFunc f [Value.string a,.string b].toArray).run P w=.ok (.value (.int .i64 (c0q a b))) w:=by
 rw [run_callFunc_extern hf hname hb hn he]
 have:=Lib.run_compareString (P:=P) a b w
 simp only [c0q]
 rw [this]
 rfl
end
end Go.Sx
end
section
open Nat renaming ble->d89,le_of_ble_eq_true->d8N
namespace Go.Sx
open Go Go.RowKit
section
variable {P:Program}{T:TypeId}{k:Nat}{r r1 r2:Bool}{xs ys:Array Value}{w:World}{x y:Operand}
def EqAt (P:Program)(k:Nat)(T:TypeId)(a b:Value)(r:Bool):Prop:=∀ d w,(Op.equalIn (d+k) T a b).run P w=.ok r w
def d1q (P:Program)(k:Nat)(xs ys:Array Value)(l:List Field)(r:Bool):Prop:=∀ d w,(Op.eqFields (d+k) xs ys l).run P w=.ok r w
theorem EqAt.le {a b:Value}{j:Nat}(h:EqAt P k T a b r)(hk:k<=j):EqAt P j T a b r:=fun d w=>by
 have:=h (d+(j-k)) w
 rwa [show d+(j-k)+k=d+j from by omega] at this
theorem b0i {kd kd':IntKind}{a b:Int}(h:P.underlying T=some (.int kd')):EqAt P 1 T (.int kd a) (.int kd b) (a==b):=fun d w=>run_equalIn_int w d T kd kd' a b h
theorem c9f {a b:ByteArray}(h:P.underlying T=some .string):EqAt P 1 T (.string a) (.string b) (J4 a b):=fun d w=>run_equalIn_string w d T a b h
theorem c2f {fs:Array Field}(hu:P.underlying T=some (.struct fs))(hp:P.stoodInHeld T=false)(h:d1q P k xs ys fs.toList r):EqAt P (k+1) T (.agg xs) (.agg ys) r:=fun d w=>by
 have e:P.fieldsOf T=fs:=by simp [Program.fieldsOf,hu]
 have:=run_equalIn_struct w (d+k) T xs ys (by rw [e]; exact hu) hp
 rw [e] at this
 exact this.trans (h d w)
theorem c9v:d1q P k xs ys [] true:=fun d w=>by simp [Op.eqFields]
theorem b4w {f : Field} {fs : List Field} {a b : Value} (hn : (f.name != "_") = true) (ha : ∀ w, (part f.type xs f.offset).run P w = .ok a w) (hb : ∀ w, (part f.type ys f.offset).run P w = .ok b w)
 (h1:EqAt P k f.type a b r1) (h2:d1q P k xs ys fs r2):d1q P k xs ys (f::fs) (r1&&r2):=fun d w=>by
 have hn' : f.name ≠ "_" := by simpa using hn
 simp only [Op.eqFields,hn',ne_eq,not_false_eq_true,if_true,Sem.run_bind,ha,hb,Result.andThen_ok,h1 d w]
 cases r1
 ·simp
 ·simpa using h2 d w
theorem a1e {t:TypeId}{cells:List Value}{o:Nat}{v:Value}(ht:X8 P t)(hv:cells[o]?=some v)(w:World):(part t cells.toArray o).run P w=.ok v w:=by
 obtain ⟨dd,h1,h2,h3⟩:=ht
 have hagg:(isAgg t).run P w=.ok false w:=by
  unfold isAgg
  rw [Sem.run_bind,run_underlying h1 w]
  cases dd<;>simp_all [TypeDesc.isRow]
 simp [part,hagg,hv]
theorem d3i (hm:P.eqGuardType P.depth T=false)(h:EqAt P k T (.agg xs) (.agg ys) r)(hk:d89 k 10000=true) :
 Z7 P w (do eqGuard .eql T x y (.agg xs) (.agg ys); binOp .eql T (.agg xs) (.agg ys)) (.bool r):=by
 have hk':=d8N hk
 have h':=h (10000-k) w
 rw [show 10000-k+k=10000 from by omega] at h'
 simp [Z7,run_eqGuard_agg,hm,run_eql_struct,h']
theorem d3m (hm:P.eqGuardType P.depth T=false)(h:EqAt P k T (.agg xs) (.agg ys) r)(hk:d89 k 10000=true) :
 Z7 P w (do eqGuard .neq T x y (.agg xs) (.agg ys); binOp .neq T (.agg xs) (.agg ys)) (.bool (!r)):=by
 have hk':=d8N hk
 have h':=h (10000-k) w
 rw [show 10000-k+k=10000 from by omega] at h'
 simp [Z7,run_eqGuard_agg,hm,run_neq_struct,h']
end
end Go.Sx
end
section
open Array renaming getElem?_eq_none->d9A,getElem?_toList->d8F,length_toList->d8R
open Bool renaming and_eq_true->d8p,not_eq_true'->d9N
open List renaming all_cons->d9v,cons_append->d80,drop_eq_getElem_cons->d8S,eq_nil_of_length_eq_zero->d8P,ext_getElem?->d9O,getElem?_append_left->d8H,getElem?_append_right->d8z,getElem?_eq_getElem->d8n,getElem?_eq_none->d8U,getElem?_eq_some_iff->d8o,getElem?_take_of_lt->d8K,length_append->d8t,length_take->d8G,take_append_drop->d88,toArray->d84
open Nat renaming add_assoc->d9j,add_sub_cancel_left->d9a,beq->d8u,ble_eq_true_of_le->d9F,blt->d8V,le_refl->d8r,le_trans->d8C,lt_of_lt_of_le->d9n,mul_le_mul_right->d8J,zero_le->d8w
namespace Go.Qx
open Go Go.RowKit Go.Sx
structure Stp (G:Nat->Prop)(σ τ:S):Prop where
 wext:Wext σ τ
 os:τ.w.os=σ.w.os
 tape:τ.w.tape=σ.w.tape
 output:τ.w.output=σ.w.output
 block:∀ b,b<σ.N->¬ G b->τ.w.heap[b]?=σ.w.heap[b]?/\(τ.L b).1=(σ.L b).1
abbrev NoB:Nat->Prop:=fun _=>False
theorem Stp.refl (G:Nat->Prop)(σ:S):Stp G σ σ:=⟨Wext.refl σ,rfl,rfl,rfl,fun _ _ _=>⟨rfl,rfl⟩⟩
theorem Stp.trans {G:Nat->Prop}{σ τ υ:S}(h:Stp G σ τ)(k:Stp G τ υ):Stp G σ υ :=
 ⟨h.wext.trans k.wext,k.os.trans h.os,k.tape.trans h.tape,k.output.trans h.output,fun b hb hg=>by
  obtain ⟨a1,a2⟩:=h.block b hb hg
  obtain ⟨b1,b2⟩:=k.block b (d9n hb h.wext.size) hg
  exact ⟨b1.trans a1,b2.trans a2⟩⟩
theorem Stp.mono {G G':Nat->Prop}{σ τ:S}(h:Stp G σ τ)(hg:∀ b,b<σ.N->G b->G' b):Stp G' σ τ :=
 ⟨h.wext,h.os,h.tape,h.output,fun b hb hn=>h.block b hb fun hgb=>hn (hg b hb hgb)⟩
theorem Stp.no {G:Nat->Prop}{σ τ:S}(h:Stp NoB σ τ):Stp G σ τ:=h.mono fun _ _ h=>h.elim
theorem Stp.ext {σ τ:S}(h:Ext σ τ):Stp NoB σ τ:=⟨h.wext,h.below.os,h.below.tape,h.below.output,fun b hb _=>⟨h.below.block b hb,by rw [h.mark b hb]⟩⟩
def can (σ:S):S:=⟨σ.w,fun b=>((σ.L b).1,b)⟩
theorem d2p (σ:S):Wext σ (can σ):=⟨d8r _,fun _ _=>d8r _,fun _ _ _ _ h=>h,d8r _,fun _ _ _ h=>h⟩
theorem c1b {σ τ:S}{g:Nat}(h:Mod 0 g (can σ) τ):Stp (fun b=>b=g) σ τ :=
 ⟨(d2p σ).trans h.wext,h.os,h.tape,h.output,fun b hb hn=>by
   obtain ⟨h1,h2⟩:=h.block b hb (.inr hn)
   exact ⟨h1,by rw [h2]; rfl⟩⟩
inductive Kd where
 | int (k:IntKind)
 | bool
 | str
 | sl (E:TypeId)
 | dat (E:TypeId)
 | any
 deriving DecidableEq
inductive K where
 | d (k:Kd)
 | row (E:TypeId) (fl:Bool)
 | map (T:TypeId) (kd:Kd)
 | pv (T:TypeId)
 deriving DecidableEq
inductive V where
 | k (k:K)
 | lvs (ks:List K)
 deriving DecidableEq
def IK (_:IntKind):Type:=Int
instance rpIK (k:IntKind):Rp (IK k) where
 sz:=1
 pos:=by decide
 agg:=false
 cells:=fun _ n cs=>cs=[.int k n]
 len:=fun h=>by rw [h]; rfl
 one:=fun h v hv=>by rw [h] at hv; simp at hv; subst hv; rfl
 mono:=fun _ h=>h
section
variable (I:TypeId->Type)
abbrev Ty:Kd->Type
 | .int _=>Int
 | .bool=>Bool
 | .str=>ByteArray
 | .sl E=>List (I E)
 | .dat E=>I E
 | .any=>Unit
abbrev TyK:K->Type
 | .d k=>Ty I k
 | .row E _=>List (I E)
 | .map _ kd=>List (ByteArray×Ty I kd)
 | .pv T=>I T
abbrev Tys:List Kd->Type
 | []=>Unit
 | k::ks=>Ty I k×Tys ks
abbrev a36:List K->Type
 | []=>Unit
 | [k]=>TyK I k
 | k::k'::ks=>TyK I k×a36 (k'::ks)
abbrev TyV:V->Type
 | .k k=>TyK I k
 | .lvs ks=>a36 I ks
abbrev TyT:List V->Type
 | []=>Unit
 | [v]=>TyV I v
 | v::v'::vs=>TyV I v×TyT (v'::vs)
abbrev Fun:List Kd->Type->Type
 | [],R=>Option R
 | k::ks,R=>Ty I k->Fun ks R
end
variable {I:TypeId->Type}
def app {R:Type}:(ks:List Kd)->Fun I ks R->Tys I ks->Option R
 | [],g,_=>g
 | _::ks,g,q=>app ks (g q.1) q.2
def cur {R:Type}:(ks:List Kd)->(Tys I ks->Option R)->Fun I ks R
 | [],g=>g ()
 | _::ks,g=>fun x=>cur ks fun q=>g (x,q)
theorem d0p {R:Type}:∀ (ks:List Kd) (g:Tys I ks->Option R) (q:Tys I ks),app ks (cur ks g) q=g q
 | [],_,_=>rfl
 | _::ks,g,q=>d0p ks (fun q'=>g (q.1,q')) q.2
inductive PV (I:TypeId->Type):Type where
 | int (k:IntKind) (n:Int)
 | bool (b:Bool)
 | str (s:ByteArray)
 | sl (E:TypeId) (xs:List (I E)) (full:Bool)
 | nl (E:TypeId)
 | ptr (l o:Nat)
 | vw (l:Nat)
 | vp (l sz j o:Nat)
 | vs (l sz lo:Nat)
 | av (l o m:Nat)
 | mp (l:Nat)
 | ep (E:TypeId) (x:I E) (o:Nat)
 | dat (E:TypeId) (x:I E)
 | clo (f:FuncId) (ls:List (PV I))
 | mth (f:FuncId) (ls:List (PV I))
 | fn (ks:List Kd) (rs:List V) (g:Fun I ks (TyT I rs))
 | agg (ls:List (PV I))
 | tup (ls:List (PV I))
 | undef
 | any
inductive Ob (I:TypeId->Type):Type where
 | var (T:TypeId) (ls:List (PV I)) (w:Bool)
 | row (E:TypeId) (xs:List (I E)) (fl:Bool)
 | ro (E:TypeId) (xs:List (I E))
 | bo (E:TypeId) (xs:List (I E))
 | nst (E E':TypeId) (u:Nat) (xs:List (I E)) (h:Nat)
 | map (T:TypeId) (kd:Kd) (m:List (ByteArray×Ty I kd))
 | rom (T:TypeId) (kd:Kd) (m:List (ByteArray×Ty I kd))
structure St (I:TypeId->Type) where
 n:Nat
 F:Nat->Option (PV I)
 O:Nat->Option (Option (Ob I))
 nx:Nat
def upF {α:Type}(F:Nat->Option α)(d:Nat)(p:α):Nat->Option α:=fun i=>bif d8u i d then some p else F i
theorem J3 {α:Type}(F:Nat->Option α)(d:Nat)(p:α):upF F d p d=some p:=by simp [upF]
theorem J2 {α:Type}{F:Nat->Option α}{d i:Nat}{p:α}(h:i≠d):upF F d p i=F i:=by simp [upF,beq_false h]
theorem Z2 {α:Type}{F:Nat->Option α}{d i:Nat}{p q:α}(h:upF F d p i=some q):(i=d/\q=p)\/(i≠d/\F i=some q):=by
 by_cases e:i=d
 ·subst e; rw [J3] at h; cases h; exact .inl ⟨rfl,rfl⟩
 ·rw [J2 e] at h; exact .inr ⟨e,h⟩
def put (s:St I)(d:Option Nat)(p:PV I):St I:=match d with
 | some d=>⟨s.n,upF s.F d p,s.O,s.nx⟩
 | none=>s
def Y5 (s:St I)(l:Nat)(o:Option (Ob I)):St I:=⟨s.n,s.F,upF s.O l o,s.nx⟩
structure Pl where
 A:Option Addr
 k:Nat
 m:Nat
 w:Option Nat
abbrev Cx:=Nat->Option Pl
structure Cxt where
 P:Program
 N:Nat
 G:Nat->Prop
def Cxt.M (X:Cxt):Nat->Prop:=fun b=>X.N<=b\/X.G b
def a0Z (P:Program)(f:FuncId)(vs:List Value)(σ:S)(E:S->Prop)(R:Value->S->Prop):Prop :=
 (a1F P f/\Calls P f vs.toArray σ.w fun e w'=>∃ v τ,e=.returned v/\τ.w=w'/\E τ/\R v τ) \/
 ∃ v τ,(callFunc f vs.toArray).run P σ.w=.ok (.value v) τ.w/\E τ/\R v τ
theorem a0Z.mono {P:Program}{f:FuncId}{vs:List Value}{σ σ':S}{E E':S->Prop}{R R':Value->S->Prop}(h:a0Z P f vs σ E R)(hw:σ'.w=σ.w)(k:∀ v τ,E τ->R v τ->∃ τ',τ'.w=τ.w/\E' τ'/\R' v τ'):a0Z P f vs σ' E' R':=by
 rcases h with ⟨h1,h2⟩ | ⟨v,τ,h1,h2,h3⟩
 ·exact .inl ⟨h1,by
   rw [hw]
   exact h2.mono fun _ _ ⟨v,τ,e,hw,he,hr⟩=>by
    obtain ⟨τ',k1,k2,k3⟩:=k v τ he hr
    exact ⟨v,τ',e,k1.trans hw,k2,k3⟩⟩
 ·obtain ⟨τ',k1,k2,k3⟩:=k v τ h2 h3
  exact .inr ⟨v,τ',by rw [hw,k1]; exact h1,k2,k3⟩
section
variable [∀ E,Rp (I E)]
def DV (σ:S):(k:Kd)->Ty I k->Value->Prop
 | .int k,n,v=>v=.int k n
 | .bool,b,v=>v=.bool b
 | .str,s,v=>v=.string s
 | .sl E,xs,v=>∃ A c,v=.slice A (xs:List (I E)).length c/\Sl σ (xs:List (I E)) A c
 | .dat E,x,v=>∃ cs,v=.agg cs.toArray/\Rp.cells σ (x:I E) cs
 | .any,_,_=>True
def DVs (σ:S):(ks:List Kd)->Tys I ks->List Value->Prop
 | [],_,vs=>vs=[]
 | k::ks,q,vs=>∃ v r,vs=v::r/\DV σ k q.1 v/\DVs σ ks q.2 r
theorem DV.mono {σ τ:S}(k:Wext σ τ):∀ {kd:Kd} {x:Ty I kd} {v:Value},DV σ kd x v->DV τ kd x v
 | .int _,_,_,h=>h
 | .bool,_,_,h=>h
 | .str,_,_,h=>h
 | .sl _,_,_,⟨A,c,e,h⟩=>⟨A,c,e,h.mono k⟩
 | .dat _,_,_,⟨cs,e,h⟩=>⟨cs,e,Rp.mono k h⟩
 | .any,_,_,_=>trivial
theorem DVs.mono {σ τ:S}(k:Wext σ τ):∀ {ks:List Kd} {x:Tys I ks} {vs:List Value},DVs σ ks x vs->DVs τ ks x vs
 | [],_,_,h=>h
 | _::_,_,_,⟨v,r,e,h1,h2⟩=>⟨v,r,e,h1.mono k,DVs.mono k h2⟩
def a9g (σ:S)(kd:Kd):List MapEntry->List (ByteArray×Ty I kd)->Prop
 | [],[]=>True
 | e::es,x::m=>e.key=.string x.1/\DV σ kd x.2 e.val/\a9g σ kd es m
 | _,_=>False
theorem a9g.mono {σ τ:S}(k:Wext σ τ){kd:Kd}:∀ {es:List MapEntry} {m:List (ByteArray×Ty I kd)},a9g σ kd es m->a9g τ kd es m
 | [],[],h=>h
 | _::_,_::_,⟨h1,h2,h3⟩=>⟨h1,h2.mono k,a9g.mono k h3⟩
 | [],_::_,h=>h.elim
 | _::_,[],h=>h.elim
def a8I (σ:S)(kd:Kd)(m:List (ByteArray×Ty I kd))(b:Nat):Prop:=∃ es clock,σ.w.heap[b]?=some (.map es clock)/\a9g σ kd es.toList m
theorem a8I.step {σ τ:S}{kd:Kd}{m:List (ByteArray×Ty I kd)}{b:Nat}{G:Nat->Prop}(h:a8I σ kd m b)(st:Stp G σ τ)(hn:¬ G b):a8I τ kd m b:=by
 obtain ⟨es,clock,h1,h2⟩:=h
 have hb:b<σ.N:=by
  rcases Nat.lt_or_ge b σ.w.heap.size with hlt | hge
  ·exact hlt
  ·rw [d9A hge] at h1; cases h1
 exact ⟨es,clock,(st.block b hb hn).1.trans h1,h2.mono st.wext⟩
theorem a8I.lt {σ:S}{kd:Kd}{m:List (ByteArray×Ty I kd)}{b:Nat}(h:a8I σ kd m b):b<σ.N:=by
 obtain ⟨es,clock,h1,_⟩:=h
 rcases Nat.lt_or_ge b σ.w.heap.size with hlt | hge
 ·exact hlt
 ·rw [d9A hge] at h1; cases h1
def a0a {α:Type} [Rp α] (ow:Option Nat)(fl:Bool)(E:TypeId)(σ:S)(xs:List α)(A:Option Addr)(k:Nat):Prop :=
 match ow with
 | none=>(xs=[]/\k=0)\/(fl=true/\k=xs.length/\Sl σ xs A k)
 | some g=>∃ cur cs,A=some ⟨g,0,none⟩/\σ.w.heap[g]?=some (.cells cur E (0,0))/\xs.length<=k/\k<=maxLen/\cur.size=k*Rp.sz α/\J6 σ xs cs /\
    cur.toList.take (xs.length*Rp.sz α)=cs/\(σ.L g).1=bif fl then xs.length*Rp.sz α else 0
theorem a0a.step {α:Type} [Rp α] {ow:Option Nat}{fl:Bool}{E:TypeId}{σ τ:S}{xs:List α}{A:Option Addr}{k:Nat}{G:Nat->Prop}(h:a0a ow fl E σ xs A k)(st:Stp G σ τ)(hn:∀ g,ow=some g->¬ G g):a0a ow fl E τ xs A k:=by
 cases ow with
 | none =>
   rcases h with h | ⟨h1,h2,h3⟩
   ·exact .inl h
   ·exact .inr ⟨h1,h2,h3.mono st.wext⟩
 | some g =>
   obtain ⟨cur,cs,e,hh,h1,h2,h3,h4,h5,h6⟩:=h
   obtain ⟨k1,k2⟩:=st.block g (a0E hh) (hn g rfl)
   exact ⟨cur,cs,e,k1.trans hh,h1,h2,h3,h4.mono st.wext,h5,k2.trans h6⟩
theorem a0a.sl {α:Type} [Rp α] {ow:Option Nat}{E:TypeId}{σ:S}{xs:List α}{A:Option Addr}{k:Nat}(h:a0a ow true E σ xs A k):Sl σ xs A k:=by
 cases ow with
 | none =>
   rcases h with ⟨rfl,rfl⟩ | ⟨_,_,h⟩
   ·exact Sl.nil_ _ _ _ (d8w _)
   ·exact h
 | some g =>
   obtain ⟨cur,cs,rfl,hh,h1,h2,h3,h4,h5,h6⟩:=h
   exact Own.sl (B:=0) (id:=(σ.L g).2) (T:=E) (.inr ⟨g,cur,cs,rfl,d8w _,hh,h1,h2,h3,h4,h5,by rw [<- show (σ.L g).1=xs.length*Rp.sz α from h6]⟩)
theorem a0a.le {α:Type} [Rp α] {ow:Option Nat}{fl:Bool}{E:TypeId}{σ:S}{xs:List α}{A:Option Addr}{k:Nat}(h:a0a ow fl E σ xs A k):xs.length<=k/\k<=maxLen:=by
 cases ow with
 | none =>
   rcases h with ⟨rfl,rfl⟩ | ⟨_,rfl,h⟩
   ·exact ⟨d8r _,d8w _⟩
   ·exact ⟨d8r _,h.2.1⟩
 | some g=>obtain ⟨cur,cs,rfl,hh,h1,h2,_⟩:=h; exact ⟨h1,h2⟩
def Bor {α:Type} [Rp α] (M:Nat->Prop)(σ:S)(xs:List α)(A:Option Addr):Prop :=
 ∃ cs,J6 σ xs cs/\(xs≠[]->∃ b o,A=some ⟨b,o,none⟩/\σ.w.rangeAt b o cs/\(a3y σ b o cs\/¬ M b))
theorem Bor.step {α:Type} [Rp α] {M:Nat->Prop}{σ τ:S}{xs:List α}{A:Option Addr}(h:Bor M σ xs A)(st:Stp M σ τ):Bor M τ xs A:=by
 obtain ⟨cs,h1,h2⟩:=h
 refine ⟨cs,h1.mono st.wext,fun hn=>?_⟩
 obtain ⟨b,o,e,h3,h4⟩:=h2 hn
 rcases h4 with h4 | h4
 ·have h5:=h4.mono (h1.ne_nil hn) st.wext
  exact ⟨b,o,e,h5.2,.inl h5⟩
 ·refine ⟨b,o,e,fun i v hv=>?_,.inr h4⟩
  have h5:=h3 i v hv
  have h6:=(st.block b (a3Z h5) h4).1
  unfold World.cell? at h5 ⊢
  rw [h6]
  exact h5
theorem Bor.of_sl {α:Type} [Rp α] {M:Nat->Prop}{σ:S}{xs:List α}{A:Option Addr}{k:Nat}(h:Sl σ xs A k):Bor M σ xs A:=by
 obtain ⟨_,_,cs,h1,h2⟩:=h
 refine ⟨cs,h1,fun hn=>?_⟩
 obtain ⟨b,o,e,h3⟩:=h2 hn
 exact ⟨b,o,e,h3.2,.inl h3⟩
theorem Bor.sub {α:Type} [Rp α] {M M':Nat->Prop}{σ:S}{xs:List α}{A:Option Addr}(h:Bor M σ xs A)(hm:∀ b,b<σ.N->M' b->M b):Bor M' σ xs A:=by
 obtain ⟨cs,h1,h2⟩:=h
 refine ⟨cs,h1,fun hn=>?_⟩
 obtain ⟨b,o,e,h3,h4⟩:=h2 hn
 refine ⟨b,o,e,h3,h4.imp id fun h5 h6=>h5 (hm b ?_ h6)⟩
 cases cs with
 | nil=>exact absurd rfl (h1.ne_nil hn)
 | cons v r=>exact a3Z (h3 0 v rfl)
theorem Bor.of_own {α:Type} [Rp α] {M:Nat->Prop}{σ:S}{ow:Option Nat}{fl:Bool}{E:TypeId}{xs:List α}{A:Option Addr}{k:Nat}(h:a0a ow fl E σ xs A k)(hm:∀ g,ow=some g->¬ M g):Bor M σ xs A:=by
 cases ow with
 | none =>
   rcases h with ⟨rfl,_⟩ | ⟨_,_,h⟩
   ·exact ⟨[],rfl,fun hn=>absurd rfl hn⟩
   ·exact Bor.of_sl h
 | some g =>
   obtain ⟨cur,cs,e,hh,h1,h2,h3,h4,h5,h6⟩:=h
   refine ⟨cs,h4,fun _=>⟨g,0,e,fun i v hv=>?_,.inr (hm g rfl)⟩⟩
   have hil:=(d8o.1 hv).1
   rw [h4.len] at hil
   rw [<- h5,d8K hil,d8F] at hv
   simp [World.cell?,hh,hv]
theorem Bor.at_ {α:Type} [Rp α] {M:Nat->Prop}{σ:S}{xs:List α}{A:Option Addr}(h:Bor M σ xs A){j:Nat}{x:α}(hx:xs[j]?=some x) :
 ∃ b o cj,A=some ⟨b,o,none⟩/\Rp.cells σ x cj/\σ.w.rangeAt b (o+j*Rp.sz α) cj:=by
 obtain ⟨cs,h1,h2⟩:=h
 have hj:j<xs.length:=(d8o.1 hx).1
 obtain ⟨b,o,e,h3,_⟩:=h2 (by intro e; subst e; simp at hj)
 have hsplit:xs=xs.take j++(x::xs.drop (j+1)):=by
  have:=d88 j xs
  rw [d8S hj] at this
  rw [<- (d8o.1 hx).2]
  exact this.symm
 rw [hsplit] at h1
 obtain ⟨c1,d,rfl,f1,f2⟩:=h1.split
 obtain ⟨cx,r,rfl,hc,f3⟩:=f2
 have hl:c1.length=j*Rp.sz α:=by rw [f1.len,d8G]; congr 1; omega
 refine ⟨b,o,cx,e,hc,fun i v hv=>?_⟩
 have hil:=(d8o.1 hv).1
 have:=h3 (j*Rp.sz α+i) v (by rw [d8z (by omega),hl,d9a,d8H hil]; exact hv)
 rw [<- d9j] at this
 exact this
def TK (σ:S):(k:K)->TyK I k->Value->List Pl->Prop
 | .d k,x,v,pls=>DV σ k x v/\pls=[]
 | .row E fl,xs,v,pls=>∃ A k ow,v=.slice A (xs:List (I E)).length k/\pls=[⟨A,k,(xs:List (I E)).length,ow⟩]/\a0a ow fl E σ (xs:List (I E)) A k
 | .map _ kd,m,v,pls=>∃ b,v=.map (some b)/\pls=[⟨some ⟨b,0,none⟩,0,0,some b⟩]/\a8I σ kd m b
 | .pv T,x,v,pls=>∃ b cs,v=.pointer (some ⟨b,0,none⟩)/\pls=[⟨some ⟨b,0,none⟩,0,0,some b⟩]/\Rp.cells σ (x:I T) cs/\σ.w.heap[b]?=some (.cells cs.toArray T (0,0))/\(σ.L b).1=0
def TKs (σ:S):(ks:List K)->a36 I ks->List Value->List Pl->Prop
 | [],_,vs,pls=>vs=[]/\pls=[]
 | [k],x,vs,pls=>∃ v,vs=[v]/\TK σ k x v pls
 | k::k'::ks,q,vs,pls=>∃ v r p1 p2,vs=v::r/\pls=p1++p2/\TK σ k q.1 v p1/\TKs σ (k'::ks) q.2 r p2
def b4l:List K->Bool
 | []=>true
 | .d (.dat _)::_=>false
 | _::r=>b4l r
def TV (σ:S):(v:V)->TyV I v->Value->List Pl->Prop
 | .k k,x,v,pls=>TK σ k x v pls
 | .lvs ks,q,v,pls=>b4l ks=true/\∃ cs,v=.agg cs.toArray/\TKs σ ks q cs pls
def TT (σ:S):(vs:List V)->TyT I vs->List Value->List Pl->Prop
 | [],_,vs,pls=>vs=[]/\pls=[]
 | [k],x,vs,pls=>∃ v,vs=[v]/\TV σ k x v pls
 | k::k'::ks,q,vs,pls=>∃ v r p1 p2,vs=v::r/\pls=p1++p2/\TV σ k q.1 v p1/\TT σ (k'::ks) q.2 r p2
def ows (pls:List Pl):List Nat:=pls.filterMap (·.w)
theorem b2p {pls:List Pl}{g:Nat}:g∈ows pls↔∃ p∈pls,p.w=some g:=by simp [ows]
theorem a0w (a b:List Pl):ows (a++b)=ows a++ows b:=by simp [ows]
variable {σ τ:S}{G:Nat->Prop}
theorem TK.step (st:Stp G σ τ):∀ {k:K} {x:TyK I k} {v:Value} {pls:List Pl},TK σ k x v pls->(∀ g∈ows pls,¬ G g)->TK τ k x v pls
 | .d _,_,_,_,h,_=>⟨h.1.mono st.wext,h.2⟩
 | .row _ _,_,_,_,⟨A,k,ow,e,e2,h⟩,hn=>⟨A,k,ow,e,e2,h.step st fun g hg=>hn g (by rw [e2,hg]; simp [ows])⟩
 | .map _ _,_,_,_,⟨b,e,e2,h⟩,hn=>⟨b,e,e2,h.step st (hn b (by rw [e2]; simp [ows]))⟩
 | .pv _,_,_,_,⟨b,cs,e,e2,h1,h2,h3⟩,hn=>by
   obtain ⟨k1,k2⟩:=st.block b (a0E h2) (hn b (by rw [e2]; simp [ows]))
   exact ⟨b,cs,e,e2,Rp.mono st.wext h1,k1.trans h2,k2.trans h3⟩
theorem TKs.step (st:Stp G σ τ):∀ {ks:List K} {x:a36 I ks} {vs:List Value} {pls:List Pl},TKs σ ks x vs pls->(∀ g∈ows pls,¬ G g)->TKs τ ks x vs pls
 | [],_,_,_,h,_=>h
 | [_],_,_,_,⟨v,e,h⟩,hn=>⟨v,e,h.step st hn⟩
 | _::k'::ks,_,_,_,⟨v,r,p1,p2,e1,e2,h1,h2⟩,hn=>⟨v,r,p1,p2,e1,e2,h1.step st fun g hg=>hn g (by rw [e2,a0w]; simp [hg]),TKs.step (ks:=k'::ks) st h2 fun g hg=>hn g (by rw [e2,a0w]; simp [hg])⟩
theorem TV.step (st:Stp G σ τ):∀ {k:V} {x:TyV I k} {v:Value} {pls:List Pl},TV σ k x v pls->(∀ g∈ows pls,¬ G g)->TV τ k x v pls
 | .k _,_,_,_,h,hn=>TK.step st h hn
 | .lvs _,_,_,_,⟨h0,cs,e,h⟩,hn=>⟨h0,cs,e,h.step st hn⟩
theorem TT.step (st:Stp G σ τ):∀ {ks:List V} {x:TyT I ks} {vs:List Value} {pls:List Pl},TT σ ks x vs pls->(∀ g∈ows pls,¬ G g)->TT τ ks x vs pls
 | [],_,_,_,h,_=>h
 | [_],_,_,_,⟨v,e,h⟩,hn=>⟨v,e,h.step st hn⟩
 | _::k'::ks,_,_,_,⟨v,r,p1,p2,e1,e2,h1,h2⟩,hn=>⟨v,r,p1,p2,e1,e2,h1.step st fun g hg=>hn g (by rw [e2,a0w]; simp [hg]),TT.step (ks:=k'::ks) st h2 fun g hg=>hn g (by rw [e2,a0w]; simp [hg])⟩
def a4Y:List Value->Value
 | [v]=>v
 | vs=>.tuple vs.toArray
def d3p (P:Program)(M:Nat->Prop)(σ:S)(f:FuncId)(d8k cs:List Value)(ks:List Kd)(rs:List V)(g:Fun I ks (TyT I rs)):Prop :=
 a1F P f/\d8k=[]/\∀ τ,Stp M σ τ->∀ (q:Tys I ks) (vs:List Value) (r:TyT I rs),DVs τ ks q vs->app ks g q=some r ->
  a0Z P f (d8k++vs++cs) τ (Stp NoB τ) fun v υ=>∃ ws,v=a4Y ws/\TT υ rs r ws []
def a6H:PV I->Bool
 | .dat _ _=>true
 | _=>false
def b3p (σ:S):PV I->List Value->Prop
 | .dat _ x,a=>Rp.cells σ x a
 | _,_=>False
theorem b3p.mono {σ τ:S}(k:Wext σ τ):∀ {p:PV I} {a:List Value},b3p σ p a->b3p τ p a:=by
 intro p a h
 cases p<;>first | exact Rp.mono k h | exact h.elim
mutual
def RV (X:Cxt)(c:Cx)(σ:S):PV I->Value->Prop
 | .int k n,v=>v=.int k n
 | .bool b,v=>v=.bool b
 | .str s,v=>v=.string s
 | .sl _ xs full,v=>∃ A k,v=.slice A xs.length k/\Sl σ xs A k/\(full=true->k=xs.length)
 | .nl _,v=>∃ A,v=.slice A 0 0
 | .ptr l o,v=>∃ b w,c l=some ⟨some ⟨b,0,none⟩,0,0,w⟩/\v=.pointer (some ⟨b,o,none⟩)
 | .vw l,v=>∃ p,c l=some p/\v=.slice p.A p.m p.k
 | .vp l sz j o,v=>∃ b p k m w,c l=some ⟨some ⟨b,p,none⟩,k,m,w⟩/\v=.pointer (some ⟨b,p+(j*sz+o),none⟩)
 | .vs l sz lo,v=>∃ b k m w,c l=some ⟨some ⟨b,0,none⟩,k,m,w⟩/\v=.slice (some ⟨b,lo*sz,none⟩) (m-lo) (k-lo)
 | .av l o m,v=>∃ b k m' w,c l=some ⟨some ⟨b,0,none⟩,k,m',w⟩/\v=.slice (some ⟨b,o,none⟩) m m
 | .mp l,v=>∃ b w,c l=some ⟨some ⟨b,0,none⟩,0,0,w⟩/\v=.map (some b)
 | .ep _ x o,v=>∃ b p cs,v=.pointer (some ⟨b,p+o,none⟩)/\Rp.cells σ x cs/\a3y σ b p cs
 | .dat _ x,v=>∃ cs,v=.agg cs.toArray/\Rp.cells σ x cs
 | .clo f ls,v=>∃ cs,v=.func (.func f) (d84 []) cs.toArray/\RVs X c σ ls cs
 | .mth f ls,v=>∃ cs,v=.func (.func f) cs.toArray (d84 [])/\RVs X c σ ls cs
 | .fn ks rs g,v=>∃ f d8k cs,v=.func (.func f) (d84 d8k) (d84 cs)/\d3p X.P X.M σ f d8k cs ks rs g
 | .agg ls,v=>∃ cs,v=.agg cs.toArray/\RG X c σ ls cs
 | .tup ls,v=>∃ cs,v=.tuple cs.toArray/\RVs X c σ ls cs
 | .undef,v=>v=Go.undef
 | .any,_=>True
def RVs (X:Cxt)(c:Cx)(σ:S):List (PV I)->List Value->Prop
 | [],cs=>cs=[]
 | p::ps,cs=>∃ v r,cs=v::r/\RV X c σ p v/\RVs X c σ ps r
def RG (X:Cxt)(c:Cx)(σ:S):List (PV I)->List Value->Prop
 | [],cs=>cs=[]
 | p::ps,cs=>∃ a r,cs=a++r/\(b3p σ p a\/(a6H p=false/\∃ v,a=[v]/\RV X c σ p v))/\RG X c σ ps r
end
variable {X X':Cxt}{c c':Cx}
mutual
theorem RV.step (k:Stp X.M σ τ):∀ (p:PV I) (v:Value),RV X c σ p v->RV X c τ p v
 | .int _ _,_,h=>by simp only [RV] at h ⊢; exact h
 | .bool _,_,h=>by simp only [RV] at h ⊢; exact h
 | .str _,_,h=>by simp only [RV] at h ⊢; exact h
 | .sl _ _ _,_,h=>by
   simp only [RV] at h ⊢
   obtain ⟨A,q,e,hs,ho⟩:=h
   exact ⟨A,q,e,hs.mono k.wext,ho⟩
 | .nl _,_,h=>by simp only [RV] at h ⊢; exact h
 | .ptr _ _,_,h=>by simp only [RV] at h ⊢; exact h
 | .vw _,_,h=>by simp only [RV] at h ⊢; exact h
 | .vp _ _ _ _,_,h=>by simp only [RV] at h ⊢; exact h
 | .vs _ _ _,_,h=>by simp only [RV] at h ⊢; exact h
 | .av _ _ _,_,h=>by simp only [RV] at h ⊢; exact h
 | .mp _,_,h=>by simp only [RV] at h ⊢; exact h
 | .ep E x _,_,h=>by
   simp only [RV] at h ⊢
   obtain ⟨b,p,cs,e,hl,hs⟩:=h
   refine ⟨b,p,cs,e,Rp.mono k.wext hl,hs.mono (fun e=>?_) k.wext⟩
   have h1:=Rp.len hl
   have h2:=Rp.pos (α:=I E)
   rw [e] at h1
   simp at h1
   omega
 | .dat _ x,_,h=>by
   simp only [RV] at h ⊢
   obtain ⟨cs,e,hl⟩:=h
   exact ⟨cs,e,Rp.mono k.wext hl⟩
 | .clo _ ls,_,h=>by
   simp only [RV] at h ⊢
   obtain ⟨cs,e,hl⟩:=h
   exact ⟨cs,e,RVs.step k ls cs hl⟩
 | .mth _ ls,_,h=>by
   simp only [RV] at h ⊢
   obtain ⟨cs,e,hl⟩:=h
   exact ⟨cs,e,RVs.step k ls cs hl⟩
 | .fn _ _ _,_,h=>by
   simp only [RV] at h ⊢
   obtain ⟨f,d8k,cs,e,hf⟩:=h
   exact ⟨f,d8k,cs,e,hf.1,hf.2.1,fun υ hυ=>hf.2.2 υ (k.trans hυ)⟩
 | .agg ls,_,h=>by
   simp only [RV] at h ⊢
   obtain ⟨cs,e,hl⟩:=h
   exact ⟨cs,e,RG.step k ls cs hl⟩
 | .tup ls,_,h=>by
   simp only [RV] at h ⊢
   obtain ⟨cs,e,hl⟩:=h
   exact ⟨cs,e,RVs.step k ls cs hl⟩
 | .undef,_,h=>by simp only [RV] at h ⊢; exact h
 | .any,_,_=>by simp only [RV]
theorem RVs.step (k:Stp X.M σ τ):∀ (ps:List (PV I)) (cs:List Value),RVs X c σ ps cs->RVs X c τ ps cs
 | [],_,h=>by simp only [RVs] at h ⊢; exact h
 | p::ps,_,h=>by
   simp only [RVs] at h ⊢
   obtain ⟨v,r,e,h1,h2⟩:=h
   exact ⟨v,r,e,RV.step k p v h1,RVs.step k ps r h2⟩
theorem RG.step (k:Stp X.M σ τ):∀ (ps:List (PV I)) (cs:List Value),RG X c σ ps cs->RG X c τ ps cs
 | [],_,h=>by simp only [RG] at h ⊢; exact h
 | p::ps,_,h=>by
   simp only [RG] at h ⊢
   obtain ⟨a,r,e,h1,h2⟩:=h
   refine ⟨a,r,e,?_,RG.step k ps r h2⟩
   rcases h1 with h1 | ⟨h0,v,e1,h1⟩
   ·exact .inl (h1.mono k.wext)
   ·exact .inr ⟨h0,v,e1,RV.step k p v h1⟩
end
def Cx.le (c c':Cx):Prop:=∀ l p,c l=some p->c' l=some p
theorem Cx.le_refl (c:Cx):Cx.le c c:=fun _ _ h=>h
theorem Cx.le_trans {a b d:Cx}(h:Cx.le a b)(k:Cx.le b d):Cx.le a d:=fun l x hx=>k l x (h l x hx)
mutual
theorem RV.grow (hc:Cx.le c c'):∀ (p:PV I) (v:Value),RV X c σ p v->RV X c' σ p v
 | .int _ _,_,h=>by simp only [RV] at h ⊢; exact h
 | .bool _,_,h=>by simp only [RV] at h ⊢; exact h
 | .str _,_,h=>by simp only [RV] at h ⊢; exact h
 | .sl _ _ _,_,h=>by simp only [RV] at h ⊢; exact h
 | .nl _,_,h=>by simp only [RV] at h ⊢; exact h
 | .ptr l _,_,h=>by
   simp only [RV] at h ⊢
   obtain ⟨b,w,h1,h2⟩:=h
   exact ⟨b,w,hc l _ h1,h2⟩
 | .vw l,_,h=>by
   simp only [RV] at h ⊢
   obtain ⟨b,h1,h2⟩:=h
   exact ⟨b,hc l b h1,h2⟩
 | .vp l _ _ _,_,h=>by
   simp only [RV] at h ⊢
   obtain ⟨b,p,k,m,w,h1,h2⟩:=h
   exact ⟨b,p,k,m,w,hc l _ h1,h2⟩
 | .vs l _ _,_,h=>by
   simp only [RV] at h ⊢
   obtain ⟨b,k,m,w,h1,h2⟩:=h
   exact ⟨b,k,m,w,hc l _ h1,h2⟩
 | .av l _ _,_,h=>by
   simp only [RV] at h ⊢
   obtain ⟨b,k,m,w,h1,h2⟩:=h
   exact ⟨b,k,m,w,hc l _ h1,h2⟩
 | .mp l,_,h=>by
   simp only [RV] at h ⊢
   obtain ⟨b,w,h1,h2⟩:=h
   exact ⟨b,w,hc l _ h1,h2⟩
 | .ep _ _ _,_,h=>by simp only [RV] at h ⊢; exact h
 | .dat _ _,_,h=>by simp only [RV] at h ⊢; exact h
 | .clo _ ls,_,h=>by
   simp only [RV] at h ⊢
   obtain ⟨cs,e,hl⟩:=h
   exact ⟨cs,e,RVs.grow hc ls cs hl⟩
 | .mth _ ls,_,h=>by
   simp only [RV] at h ⊢
   obtain ⟨cs,e,hl⟩:=h
   exact ⟨cs,e,RVs.grow hc ls cs hl⟩
 | .fn _ _ _,_,h=>by simp only [RV] at h ⊢; exact h
 | .agg ls,_,h=>by
   simp only [RV] at h ⊢
   obtain ⟨cs,e,hl⟩:=h
   exact ⟨cs,e,RG.grow hc ls cs hl⟩
 | .tup ls,_,h=>by
   simp only [RV] at h ⊢
   obtain ⟨cs,e,hl⟩:=h
   exact ⟨cs,e,RVs.grow hc ls cs hl⟩
 | .undef,_,h=>by simp only [RV] at h ⊢; exact h
 | .any,_,_=>by simp only [RV]
theorem RVs.grow (hc:Cx.le c c'):∀ (ps:List (PV I)) (cs:List Value),RVs X c σ ps cs->RVs X c' σ ps cs
 | [],_,h=>by simp only [RVs] at h ⊢; exact h
 | p::ps,_,h=>by
   simp only [RVs] at h ⊢
   obtain ⟨v,r,e,h1,h2⟩:=h
   exact ⟨v,r,e,RV.grow hc p v h1,RVs.grow hc ps r h2⟩
theorem RG.grow (hc:Cx.le c c'):∀ (ps:List (PV I)) (cs:List Value),RG X c σ ps cs->RG X c' σ ps cs
 | [],_,h=>by simp only [RG] at h ⊢; exact h
 | p::ps,_,h=>by
   simp only [RG] at h ⊢
   obtain ⟨a,r,e,h1,h2⟩:=h
   refine ⟨a,r,e,?_,RG.grow hc ps r h2⟩
   rcases h1 with h1 | ⟨h0,v,e1,h1⟩
   ·exact .inl h1
   ·exact .inr ⟨h0,v,e1,RV.grow hc p v h1⟩
end
theorem RVs.len:∀ (ps:List (PV I)) (cs:List Value),RVs X c σ ps cs->cs.length=ps.length
 | [],_,h=>by simp only [RVs] at h; subst h; rfl
 | p::ps,_,h=>by
   simp only [RVs] at h
   obtain ⟨v,r,rfl,_,h2⟩:=h
   simp [RVs.len ps r h2]
theorem RVs.at_:∀ (ps:List (PV I)) (cs:List Value),RVs X c σ ps cs->∀ (i:Nat) (p:PV I),ps[i]?=some p->∃ v,cs[i]?=some v/\RV X c σ p v
 | [],_,_,_,_,hp=>by simp at hp
 | q::ps,_,h,i,p,hp=>by
   simp only [RVs] at h
   obtain ⟨v,r,rfl,h1,h2⟩:=h
   cases i with
   | zero=>simp at hp; subst hp; exact ⟨v,rfl,h1⟩
   | succ i=>simpa using RVs.at_ ps r h2 i p (by simpa using hp)
theorem RVs.drop:∀ (k:Nat) (ps:List (PV I)) (cs:List Value),RVs X c σ ps cs->RVs X c σ (ps.drop k) (cs.drop k)
 | 0,_,_,h=>h
 | k+1,[],_,h=>by simp only [RVs] at h; subst h; simp [RVs]
 | k+1,_::ps,_,h=>by
   simp only [RVs] at h
   obtain ⟨v,r,rfl,_,h2⟩:=h
   simpa using RVs.drop k ps r h2
theorem RVs.take:∀ (k:Nat) (ps:List (PV I)) (cs:List Value),RVs X c σ ps cs->RVs X c σ (ps.take k) (cs.take k)
 | 0,_,_,_=>by simp [RVs]
 | k+1,[],_,h=>by simp only [RVs] at h; subst h; simp [RVs]
 | k+1,p::ps,_,h=>by
   simp only [RVs] at h
   obtain ⟨v,r,rfl,h1,h2⟩:=h
   simp only [List.take_succ_cons,RVs]
   exact ⟨v,_,rfl,h1,RVs.take k ps r h2⟩
theorem RVs.app:∀ (ps qs:List (PV I)) (cs ds:List Value),RVs X c σ ps cs->RVs X c σ qs ds->RVs X c σ (ps++qs) (cs++ds)
 | [],_,_,_,h,k=>by simp only [RVs] at h; subst h; exact k
 | p::ps,qs,_,ds,h,k=>by
   simp only [RVs] at h
   obtain ⟨v,r,rfl,h1,h2⟩:=h
   simp only [d80,RVs]
   exact ⟨v,_,rfl,h1,RVs.app ps qs r ds h2 k⟩
theorem RVs.split:∀ (ps qs:List (PV I)) (cs:List Value),RVs X c σ (ps++qs) cs->∃ c1 c2,cs=c1++c2/\RVs X c σ ps c1/\RVs X c σ qs c2
 | [],qs,cs,h=>⟨[],cs,rfl,by simp only [RVs],h⟩
 | p::ps,qs,cs,h=>by
   simp only [d80,RVs] at h
   obtain ⟨v,r,rfl,h1,h2⟩:=h
   obtain ⟨c1,c2,rfl,h3,h4⟩:=RVs.split ps qs r h2
   exact ⟨v::c1,c2,rfl,by simp only [RVs]; exact ⟨v,c1,rfl,h1,h3⟩,h4⟩
theorem RG.app:∀ (ps qs:List (PV I)) (cs ds:List Value),RG X c σ ps cs->RG X c σ qs ds->RG X c σ (ps++qs) (cs++ds)
 | [],_,_,_,h,k=>by simp only [RG] at h; subst h; exact k
 | p::ps,qs,_,ds,h,k=>by
   simp only [RG] at h
   obtain ⟨a,r,rfl,h1,h2⟩:=h
   simp only [d80,RG]
   exact ⟨a,_,by simp,h1,RG.app ps qs r ds h2 k⟩
def sgz:PV I->Nat
 | .dat E _=>Rp.sz (I E)
 | _=>1
def c05:List (PV I)->Nat
 | []=>0
 | p::r=>sgz p+c05 r
theorem c6k {p:PV I}{a:List Value}(h:b3p σ p a\/(a6H p=false/\∃ v,a=[v]/\RV X c σ p v)):a.length=sgz p:=by
 rcases h with h | ⟨h0,v,rfl,_⟩
 ·cases p<;>first | exact Rp.len h | exact h.elim
 ·cases p<;>first | rfl | cases h0
theorem RG.len:∀ (ps:List (PV I)) (cs:List Value),RG X c σ ps cs->cs.length=c05 ps
 | [],_,h=>by simp only [RG] at h; subst h; rfl
 | p::ps,_,h=>by
   simp only [RG] at h
   obtain ⟨a,r,rfl,h1,h2⟩:=h
   simp only [d8t,c6k h1,RG.len ps r h2,c05]
theorem RG.one {E:TypeId}{x:I E}{cs:List Value}(h:Rp.cells σ x cs):RG X c σ [.dat E x] cs:=by
 simp only [RG]
 exact ⟨cs,[],by simp,.inl h,rfl⟩
theorem RG.single {p:PV I}{v:Value}(hp:a6H p=false)(h:RV X c σ p v):RG X c σ [p] [v]:=by
 simp only [RG]
 exact ⟨[v],[],rfl,.inr ⟨hp,v,rfl,h⟩,rfl⟩
theorem RVs.g:∀ {ps:List (PV I)} {cs:List Value},RVs X c σ ps cs->ps.all (fun p=>!(a6H p))=true->RG X c σ ps cs
 | [],_,h,_=>by simpa only [RVs,RG] using h
 | p::ps,_,h,hd=>by
   simp only [RVs] at h
   obtain ⟨v,r,rfl,h1,h2⟩:=h
   simp only [d9v,d8p,d9N] at hd
   simp only [RG]
   exact ⟨[v],r,rfl,.inr ⟨hd.1,v,rfl,h1⟩,RVs.g h2 hd.2⟩
def X6 (X:Cxt)(c:Cx)(σ:S)(l:Nat):Ob I->Prop
 | .var T ls w=>∃ b cs,c l=some ⟨some ⟨b,0,none⟩,0,0,bif w then some b else none⟩/\RG X c σ ls cs/\σ.w.heap[b]?=some (.cells cs.toArray T (0,0))/\(w=true->(σ.L b).1=0)/\(w=false->¬ X.M b)
 | .row E xs fl=>∃ A k ow,c l=some ⟨A,k,xs.length,ow⟩/\a0a ow fl E σ xs A k
 | .ro _ xs=>∃ A k,c l=some ⟨A,k,xs.length,none⟩/\Sl σ xs A k
 | .bo _ xs=>∃ A k,c l=some ⟨A,k,xs.length,none⟩/\Bor X.M σ xs A
 | .nst E _ _ xs _=>∃ A k ow,c l=some ⟨A,k,xs.length,ow⟩/\a0a ow false E σ xs A k
 | .map _ kd m=>∃ b,c l=some ⟨some ⟨b,0,none⟩,0,0,some b⟩/\a8I σ kd m b
 | .rom _ kd m=>∃ b,c l=some ⟨some ⟨b,0,none⟩,0,0,none⟩/\a8I σ kd m b/\¬ X.M b
theorem X6.step {l:Nat}{o:Ob I}(h:X6 X c σ l o)(st:Stp X.M σ τ)(hk:∀ p g,c l=some p->p.w=some g->τ.w.heap[g]?=σ.w.heap[g]?/\(τ.L g).1=(σ.L g).1):X6 X c τ l o:=by
 cases o with
 | var T ls w =>
   obtain ⟨b,cs,h1,h2,h3,h4,h5⟩:=h
   cases w with
   | true =>
     obtain ⟨k1,k2⟩:=hk _ b h1 rfl
     exact ⟨b,cs,h1,RG.step st _ _ h2,k1.trans h3,(fun _=>k2.trans (h4 rfl)),fun e=>by cases e⟩
   | false =>
     obtain ⟨k1,_⟩:=st.block b (a0E h3) (h5 rfl)
     exact ⟨b,cs,h1,RG.step st _ _ h2,k1.trans h3,(fun e=>by cases e),h5⟩
 | row E xs fl =>
   obtain ⟨A,k,ow,h1,h2⟩:=h
   refine ⟨A,k,ow,h1,?_⟩
   cases ow with
   | none=>exact h2.step st fun g hg=>by cases hg
   | some g =>
     obtain ⟨k1,k2⟩:=hk _ g h1 rfl
     obtain ⟨cur,cs,e,hh,h1,h2,h3,h4,h5,h6⟩:=h2
     exact ⟨cur,cs,e,k1.trans hh,h1,h2,h3,h4.mono st.wext,h5,k2.trans h6⟩
 | nst E E' u xs q =>
   obtain ⟨A,k,ow,h1,h2⟩:=h
   refine ⟨A,k,ow,h1,?_⟩
   cases ow with
   | none=>exact h2.step st fun g hg=>by cases hg
   | some g =>
     obtain ⟨k1,k2⟩:=hk _ g h1 rfl
     obtain ⟨cur,cs,e,hh,h1,h2,h3,h4,h5,h6⟩:=h2
     exact ⟨cur,cs,e,k1.trans hh,h1,h2,h3,h4.mono st.wext,h5,k2.trans h6⟩
 | map T kd m =>
   obtain ⟨b,h1,es,clock,h2,h3⟩:=h
   exact ⟨b,h1,es,clock,(hk _ b h1 rfl).1.trans h2,h3.mono st.wext⟩
 | rom T kd m =>
   obtain ⟨b,h1,h2,h3⟩:=h
   exact ⟨b,h1,h2.step st h3,h3⟩
 | ro E xs =>
   obtain ⟨A,k,h1,h2⟩:=h
   exact ⟨A,k,h1,h2.mono st.wext⟩
 | bo E xs =>
   obtain ⟨A,k,h1,h2⟩:=h
   exact ⟨A,k,h1,h2.step st⟩
theorem X6.grow {l:Nat}{o:Ob I}(h:X6 X c σ l o)(hc:Cx.le c c'):X6 X c' σ l o:=by
 cases o with
 | var T ls w =>
   obtain ⟨b,cs,h1,h2,h3⟩:=h
   exact ⟨b,cs,hc _ _ h1,RG.grow hc _ _ h2,h3⟩
 | row E xs fl =>
   obtain ⟨A,k,ow,h1,h2⟩:=h
   exact ⟨A,k,ow,hc _ _ h1,h2⟩
 | nst E E' u xs q =>
   obtain ⟨A,k,ow,h1,h2⟩:=h
   exact ⟨A,k,ow,hc _ _ h1,h2⟩
 | map T kd m =>
   obtain ⟨b,h1,h2⟩:=h
   exact ⟨b,hc _ _ h1,h2⟩
 | rom T kd m =>
   obtain ⟨b,h1,h2⟩:=h
   exact ⟨b,hc _ _ h1,h2⟩
 | ro E xs =>
   obtain ⟨A,k,h1,h2⟩:=h
   exact ⟨A,k,hc _ _ h1,h2⟩
 | bo E xs =>
   obtain ⟨A,k,h1,h2⟩:=h
   exact ⟨A,k,hc _ _ h1,h2⟩
def Y7 (s:St I)(l:Nat):Prop:=∃ o,s.O l=some (some o)
def a5R:Value->Option Nat
 | .slice (some a) m k=>bif d8V m k then some a.block else none
 | _=>none
def a0M (c:Cx)(σ:S)(O:Nat->Option (Option (Ob I)))(l i:Nat)(E':TypeId)(v:Value):Prop :=
 ∃ E u xs q g k m w,O l=some (some (.nst E E' u xs q))/\c l=some ⟨some ⟨g,0,none⟩,k,m,w⟩/\i<xs.length/\q≠i+2/\σ.w.cell? ⟨g,i*Rp.sz (I E)+u,none⟩=some v
def InB (c:Cx)(σ:S)(O:Nat->Option (Option (Ob I)))(l i b:Nat):Prop:=∃ E' v,a0M c σ O l i E' v/\a5R v=some b
def Opn (I:TypeId->Type) [∀ E,Rp (I E)] (E':TypeId)(σ:S)(v:Value):Prop:=∃ (ys:List (I E')) (A:Option Addr) (k:Nat),v=.slice A ys.length k/\a0a (a5R v) true E' σ ys A k
structure Nests (X:Cxt)(c:Cx)(σ:S)(O:Nat->Option (Option (Ob I))):Prop where
 opn:∀ l E E' u xs q,O l=some (some (.nst E E' u xs q))->∀ i,i<xs.length->q≠i+2->∃ v,a0M c σ O l i E' v/\Opn I E' σ v
 mine:∀ l i b,InB c σ O l i b->X.M b
 free:∀ l i b,InB c σ O l i b->∀ l' o p',O l'=some (some o)->c l'=some p'->p'.w≠some b
 inj:∀ l i b l' i',InB c σ O l i b->InB c σ O l' i' b->l'=l/\i'=i
theorem a0M.fn {O:Nat->Option (Option (Ob I))}{l i:Nat}{E1 E2:TypeId}{v1 v2:Value}(h:a0M c σ O l i E1 v1)(k:a0M c σ O l i E2 v2):E2=E1/\v2=v1:=by
 obtain ⟨E,u,xs,q,g,kk,m,w,h1,h2,h3,h4,h5⟩:=h
 obtain ⟨E',u',xs',q',g',kk',m',w',k1,k2,k3,k4,k5⟩:=k
 rw [h1] at k1
 cases k1
 rw [h2] at k2
 cases k2
 rw [h5] at k5
 cases k5
 exact ⟨rfl,rfl⟩
theorem Nests.opnAt {O:Nat->Option (Option (Ob I))}(h:Nests X c σ O){l i:Nat}{E':TypeId}{v:Value}(k:a0M c σ O l i E' v):Opn I E' σ v:=by
 obtain ⟨E,u,xs,q,g,kk,m,w,h1,h2,h3,h4,h5⟩:=id k
 obtain ⟨v',k1,k2⟩:=h.opn l E E' u xs q h1 i h3 h4
 rw [<- (k.fn k1).2]; exact k2
theorem Nests.lt {O:Nat->Option (Option (Ob I))}(h:Nests X c σ O){l i b:Nat}(k:InB c σ O l i b):b<σ.N:=by
 obtain ⟨E',v,k1,k2⟩:=k
 obtain ⟨ys,A,kk,e,ho⟩:=h.opnAt k1
 rw [k2] at ho
 obtain ⟨cur,cs,_,hh,_⟩:=ho
 exact a0E hh
theorem Nests.sub {O O':Nat->Option (Option (Ob I))}(h:Nests X c σ O)(hO:∀ l E E' u xs q,O' l=some (some (.nst E E' u xs q))->O l=some (some (.nst E E' u xs q)))
 (hw:∀ l' o p' b,O' l'=some (some o)->c l'=some p'->p'.w=some b->(∃ o,O l'=some (some o))\/∀ l i,¬ InB c σ O l i b):Nests X c σ O':=by
 have hI:∀ {l i E' v},a0M c σ O' l i E' v->a0M c σ O l i E' v:=fun ⟨E,u,xs,q,g,kk,m,w,h1,h2⟩=>⟨E,u,xs,q,g,kk,m,w,hO _ _ _ _ _ _ h1,h2⟩
 have hB:∀ {l i b},InB c σ O' l i b->InB c σ O l i b:=fun ⟨E',v,h1,h2⟩=>⟨E',v,hI h1,h2⟩
 refine ⟨fun l E E' u xs q hl i hi hq=>?_,fun l i b hb=>h.mine l i b (hB hb),fun l i b hb l' o p' hl' hc hp=>?_,fun l i b l' i' h1 h2=>h.inj l i b l' i' (hB h1) (hB h2)⟩
 ·obtain ⟨v,k1,k2⟩:=h.opn l E E' u xs q (hO _ _ _ _ _ _ hl) i hi hq
  refine ⟨v,?_,k2⟩
  obtain ⟨E1,u1,xs1,q1,g,kk,m,w,h1,h2⟩:=k1
  rw [hO _ _ _ _ _ _ hl] at h1
  cases h1
  exact ⟨E,u,xs,q,g,kk,m,w,hl,h2⟩
 ·rcases hw l' o p' b hl' hc hp with ⟨o',ho'⟩ | hn
  ·exact h.free l i b (hB hb) l' o' p' ho' hc hp
  ·exact hn l i (hB hb)
theorem Nests.both {O:Nat->Option (Option (Ob I))}(h:Nests X c σ O)(st:Stp G σ τ)
 (hg:∀ l E E' u xs q g k m w,O l=some (some (.nst E E' u xs q))->c l=some ⟨some ⟨g,0,none⟩,k,m,w⟩->xs≠[]->¬ G g) (hb:∀ l i b,InB c σ O l i b->¬ G b):Nests X c τ O/\∀ l i b,InB c τ O l i b->InB c σ O l i b:=by
 have hf:∀ {l i E' v},a0M c σ O l i E' v->a0M c τ O l i E' v:=fun ⟨E,u,xs,q,g,kk,m,w,h1,h2,h3,h4,h5⟩=>⟨E,u,xs,q,g,kk,m,w,h1,h2,h3,h4,by
  have:=(st.block g (a3Z h5) (hg _ _ _ _ _ _ _ _ _ _ h1 h2 (by intro e; subst e; simp at h3))).1
  unfold World.cell? at h5 ⊢
  rw [this]; exact h5⟩
 have hr:∀ {l i E' v},a0M c τ O l i E' v->a0M c σ O l i E' v:=fun {l i E' v} k=>by
  obtain ⟨E,u,xs,q,g,kk,m,w,h1,h2,h3,h4,h5⟩:=id k
  obtain ⟨v',k1,k2⟩:=h.opn l E E' u xs q h1 i h3 h4
  rw [((hf k1).fn k).2]; exact k1
 have hB:∀ {l i b},InB c τ O l i b->InB c σ O l i b:=fun ⟨E',v,h1,h2⟩=>⟨E',v,hr h1,h2⟩
 refine ⟨⟨fun l E E' u xs q hl i hi hq=>?_,fun l i b hb=>h.mine l i b (hB hb),fun l i b hb=>h.free l i b (hB hb),fun l i b l' i' h1 h2=>h.inj l i b l' i' (hB h1) (hB h2)⟩,fun l i b=>hB⟩
 obtain ⟨v,k1,k2⟩:=h.opn l E E' u xs q hl i hi hq
 refine ⟨v,hf k1,?_⟩
 obtain ⟨ys,A,kk,e,ho⟩:=k2
 exact ⟨ys,A,kk,e,ho.step st fun g hg'=>hb l i g ⟨E',v,k1,hg'⟩⟩
theorem Nests.step {O:Nat->Option (Option (Ob I))}(h:Nests X c σ O)(st:Stp G σ τ)
 (hg:∀ l E E' u xs q g k m w,O l=some (some (.nst E E' u xs q))->c l=some ⟨some ⟨g,0,none⟩,k,m,w⟩->xs≠[]->¬ G g) (hb:∀ l i b,InB c σ O l i b->¬ G b):Nests X c τ O:=(h.both st hg hb).1
theorem Nests.grow {O:Nat->Option (Option (Ob I))}(h:Nests X c σ O)(hc:Cx.le c c')(hp:∀ l o,O l=some (some o)->∃ p,c l=some p):Nests X c' σ O:=by
 have hcl:∀ {l o p},O l=some (some o)->c' l=some p->c l=some p:=fun ho hc'=>by
  obtain ⟨p',e⟩:=hp _ _ ho
  have:=hc _ _ e
  rw [hc'] at this
  cases this; exact e
 have hr:∀ {l i E' v},a0M c' σ O l i E' v->a0M c σ O l i E' v:=fun ⟨E,u,xs,q,g,kk,m,w,h1,h2,h3⟩=>⟨E,u,xs,q,g,kk,m,w,h1,hcl h1 h2,h3⟩
 have hB:∀ {l i b},InB c' σ O l i b->InB c σ O l i b:=fun ⟨E',v,h1,h2⟩=>⟨E',v,hr h1,h2⟩
 refine ⟨fun l E E' u xs q hl i hi hq=>?_,fun l i b hb=>h.mine l i b (hB hb),fun l i b hb l' o p' ho hc'=>h.free l i b (hB hb) l' o p' ho (hcl ho hc'),fun l i b l' i' h1 h2=>h.inj l i b l' i' (hB h1) (hB h2)⟩
 obtain ⟨v,⟨E1,u1,xs1,q1,g,kk,m,w,h1,h2,h3⟩,k2⟩:=h.opn l E E' u xs q hl i hi hq
 exact ⟨v,⟨E1,u1,xs1,q1,g,kk,m,w,h1,hc _ _ h2,h3⟩,k2⟩
theorem a0a.other {α:Type} [Rp α] {ow:Option Nat}{E:TypeId}{σ:S}{ys zs:List α}{A:Option Addr}{k:Nat}(h:a0a ow true E σ ys A k)(hs:Sl σ zs A k)(hl:zs.length=ys.length):a0a ow true E σ zs A k:=by
 cases ow with
 | none =>
   rcases h with ⟨e1,e2⟩ | ⟨_,e2,_⟩
   ·subst e1
    exact .inl ⟨d8P hl,e2⟩
   ·exact .inr ⟨rfl,by rw [hl]; exact e2,hs⟩
 | some g =>
   obtain ⟨cur,cs,e,hh,h1,h2,h3,h4,h5,h6⟩:=h
   obtain ⟨_,_,ds,k1,k2⟩:=hs
   refine ⟨cur,ds,e,hh,by rw [hl]; exact h1,h2,h3,k1,?_,by rw [hl]; exact h6⟩
   have hdl:ds.length=zs.length*Rp.sz α:=k1.len
   by_cases hn:zs=[]
   ·subst hn
    have:ds=[]:=k1
    subst this
    simp
   ·obtain ⟨b,o,e2,k3⟩:=k2 hn
    rw [e] at e2
    cases e2
    have hcl:zs.length*Rp.sz α<=cur.toList.length:=by
     have e9:cur.toList.length=k*Rp.sz α:=by rw [d8R]; exact h3
     rw [e9,hl]
     exact d8J _ h1
    apply d9O
    intro i
    by_cases hi:i<ds.length
    ·have hv:=k3.2 i ds[i] (d8n hi)
     rw [d8K (by omega),d8n hi,d8F]
     simpa [World.cell?,hh] using hv
    ·rw [d8U (by rw [d8G]; omega),d8U (by omega)]
theorem a0a.byRoom {α:Type} [Rp α] {ow:Option Nat}{E:TypeId}{σ:S}{ys:List α}{A:Option Addr}{k:Nat}(h:a0a ow true E σ ys A k):a0a (a5R (.slice A ys.length k)) true E σ ys A k/\∀ b,a5R (.slice A ys.length k)=some b->ow=some b:=by
 cases ow with
 | none =>
   have hk:k=ys.length:=by
    rcases h with ⟨e1,e2⟩ | ⟨_,e2,_⟩
    ·rw [e1,e2]; rfl
    ·exact e2
   have hr:a5R (.slice A ys.length k)=none:=by
    unfold a5R
    split
    ·rename_i e
     cases e
     rw [hk]
     have:d8V ys.length ys.length=false:=by
      cases hb:d8V ys.length ys.length with
      | false=>rfl
      | true=>have:=a64 hb; omega
     rw [this]; rfl
    ·rfl
   rw [hr]
   exact ⟨h,fun b e=>by cases e⟩
 | some g =>
   obtain ⟨cur,cs,e,hh⟩:=id h
   subst e
   have hr:a5R (.slice (some ⟨g,0,none⟩) ys.length k)=bif d8V ys.length k then some g else none:=rfl
   rw [hr]
   cases hb:d8V ys.length k with
   | true=>exact ⟨h,fun b e=>by simpa using e⟩
   | false =>
     refine ⟨.inr ⟨rfl,?_,h.sl⟩,fun b e=>by cases e⟩
     have hle:=h.le.1
     have:¬ ys.length<k:=fun hlt=>by
      have:d8V ys.length k=true:=d9F hlt
      rw [hb] at this; cases this
     omega
theorem Nests.take {O:Nat->Option (Option (Ob I))}(h:Nests X c σ O){l:Nat}{E E':TypeId}{u q j:Nat}{xs:List (I E)}(hl:O l=some (some (.nst E E' u xs q)))(hq:q<2) :
 Nests X c σ (upF O l (some (.nst E E' u xs (j+2))))/\∀ l' i b,InB c σ (upF O l (some (.nst E E' u xs (j+2)))) l' i b->InB c σ O l' i b/\¬ (l'=l/\i=j):=by
 have hI:∀ {l' i E1 v},a0M c σ (upF O l (some (.nst E E' u xs (j+2)))) l' i E1 v->a0M c σ O l' i E1 v/\¬ (l'=l/\i=j):=fun {l' i E1 v} ⟨E2,u2,xs2,q2,g,kk,m,w,h1,h2,h3,h4,h5⟩=>by
  rcases Z2 h1 with ⟨e,e2⟩ | ⟨e,e2⟩
  ·cases e2
   subst e
   exact ⟨⟨_,_,_,q,g,kk,m,w,hl,h2,h3,by omega,h5⟩,fun hh=>h4 (by rw [hh.2])⟩
  ·exact ⟨⟨E2,u2,xs2,q2,g,kk,m,w,e2,h2,h3,h4,h5⟩,fun hh=>e hh.1⟩
 have hB:∀ {l' i b},InB c σ (upF O l (some (.nst E E' u xs (j+2)))) l' i b->InB c σ O l' i b/\¬ (l'=l/\i=j):=fun ⟨E1,v,h1,h2⟩=>⟨⟨E1,v,(hI h1).1,h2⟩,(hI h1).2⟩
 refine ⟨⟨fun l' E1 E2 u1 xs1 q1 e i hi hq1=>?_,fun l' i b hb=>h.mine l' i b (hB hb).1,fun l' i b hb l2 o p' ho' hc'=>?_,fun l' i b l2 i2 h1 h2=>h.inj l' i b l2 i2 (hB h1).1 (hB h2).1⟩,fun l' i b hb=>hB hb⟩
 ·rcases Z2 e with ⟨e1,e2⟩ | ⟨e1,e2⟩
  ·cases e2
   subst e1
   obtain ⟨v,⟨E3,u3,xs3,q3,g,kk,m,w,h1,h2,h3,h4,h5⟩,k2⟩:=h.opn l' _ _ _ _ q hl i hi (by omega)
   rw [hl] at h1
   cases h1
   exact ⟨v,⟨_,_,_,_,g,kk,m,w,J3 _ _ _,h2,hi,hq1,h5⟩,k2⟩
  ·obtain ⟨v,⟨E3,u3,xs3,q3,g,kk,m,w,h1,h2,h3,h4,h5⟩,k2⟩:=h.opn l' _ _ _ _ _ e2 i hi hq1
   exact ⟨v,⟨E3,u3,xs3,q3,g,kk,m,w,by rw [J2 e1]; exact h1,h2,h3,h4,h5⟩,k2⟩
 ·rcases Z2 ho' with ⟨e1,_⟩ | ⟨_,e2⟩
  ·subst e1
   exact h.free l' i b (hB hb).1 _ _ p' hl hc'
  ·exact h.free l' i b (hB hb).1 l2 o p' e2 hc'
theorem Nests.turn {O:Nat->Option (Option (Ob I))}(h:Nests X c σ O){l g k m j:Nat}{E E':TypeId}{u q q':Nat}{xs ys:List (I E)}(hl:O l=some (some (.nst E E' u xs q)))(hc:c l=some ⟨some ⟨g,0,none⟩,k,m,some g⟩)
 (st:Stp (fun b=>b=g) σ τ) (hinj:∀ l' o p',O l'=some (some o)->c l'=some p'->p'.w=some g->l'=l) (hW:∀ l' E E' u xs q g' k m w,O l'=some (some (.nst E E' u xs q))->c l'=some ⟨some ⟨g',0,none⟩,k,m,w⟩->xs≠[]->w=some g')
 (hlen:ys.length=xs.length) (hsame:∀ i,i<xs.length->i≠j->q'≠i+2->q≠i+2/\τ.w.cell? ⟨g,i*Rp.sz (I E)+u,none⟩=σ.w.cell? ⟨g,i*Rp.sz (I E)+u,none⟩)
 (hnew:j<xs.length->q'≠j+2->(q≠j+2/\τ.w.cell? ⟨g,j*Rp.sz (I E)+u,none⟩=σ.w.cell? ⟨g,j*Rp.sz (I E)+u,none⟩) \/
   ∃ v,τ.w.cell? ⟨g,j*Rp.sz (I E)+u,none⟩=some v/\Opn I E' τ v/\∀ b,a5R v=some b->X.M b/\(∀ l i,¬ InB c σ O l i b)/\∀ l' o p',O l'=some (some o)->c l'=some p'->p'.w≠some b) :
 Nests X c τ (upF O l (some (.nst E E' u ys q'))):=by
 have hfree:∀ {l' i b},InB c σ O l' i b->b≠g:=fun hb e=>by
  subst e
  exact h.free _ _ _ hb l _ _ hl hc rfl
 have hother:∀ {l' i E1 v},l'≠l->a0M c σ O l' i E1 v->a0M c τ (upF O l (some (.nst E E' u ys q'))) l' i E1 v:=fun {l' i E1 v} hne ⟨E2,u2,xs2,q2,g2,kk,m2,w,h1,h2,h3,h4,h5⟩=>by
  refine ⟨E2,u2,xs2,q2,g2,kk,m2,w,by rw [J2 hne]; exact h1,h2,h3,h4,?_⟩
  have hne2:g2≠g:=fun e=>by
   subst e
   exact hne (hinj l' _ _ h1 h2 (hW _ _ _ _ _ _ _ _ _ _ h1 h2 (by intro e; subst e; simp at h3)))
  have:=(st.block g2 (a3Z h5) hne2).1
  unfold World.cell? at h5 ⊢
  rw [this]; exact h5
 have hopn:∀ {E1 v},Opn I E1 σ v->(∀ b,a5R v=some b->b≠g)->Opn I E1 τ v:=fun ⟨zs,A,kk,e,ho⟩ hb=>⟨zs,A,kk,e,ho.step st fun b hb'=>hb b hb'⟩
 have hback:∀ {l' i E1 v},a0M c τ (upF O l (some (.nst E E' u ys q'))) l' i E1 v->a0M c σ O l' i E1 v\/(l'=l/\i=j/\E1=E'/\Opn I E' τ v/\∀ b,a5R v=some b->X.M b/\(∀ l i,¬ InB c σ O l i b)/\∀ l' o p',O l'=some (some o)->c l'=some p'->p'.w≠some b):=fun {l' i E1 v} hk=>by
  obtain ⟨E2,u2,xs2,q2,g2,kk,m2,w,h1,h2,h3,h4,h5⟩:=id hk
  rcases Z2 h1 with ⟨e1,e2⟩ | ⟨e1,e2⟩
  ·cases e2
   subst e1
   rw [hc] at h2
   cases h2
   rw [hlen] at h3
   by_cases e:i=j
   ·subst e
    rcases hnew h3 h4 with ⟨a1,a2⟩ | ⟨v',a1,a2,a3⟩
    ·rw [a2] at h5
     exact .inl ⟨_,_,_,q,g,_,_,_,hl,hc,h3,a1,h5⟩
    ·rw [a1] at h5
     cases h5
     exact .inr ⟨rfl,rfl,rfl,a2,a3⟩
   ·obtain ⟨a1,a2⟩:=hsame i h3 e h4
    rw [a2] at h5
    exact .inl ⟨_,_,_,q,g,_,_,_,hl,hc,h3,a1,h5⟩
  ·obtain ⟨v0,k1,k2⟩:=h.opn l' _ _ _ _ _ e2 i h3 h4
   rw [((hother e1 k1).fn hk).2,((hother e1 k1).fn hk).1]
   exact .inl k1
 have hlive:∀ {l' o},upF O l (some (.nst E E' u ys q')) l'=some (some o)->∃ o',O l'=some (some o'):=fun {l' o} e=>by
  rcases Z2 e with ⟨e1,_⟩ | ⟨_,e2⟩
  ·subst e1; exact ⟨_,hl⟩
  ·exact ⟨o,e2⟩
 have hB:∀ {l' i b},InB c τ (upF O l (some (.nst E E' u ys q'))) l' i b->InB c σ O l' i b\/(l'=l/\i=j/\X.M b/\(∀ l i,¬ InB c σ O l i b)/\∀ l' o p',O l'=some (some o)->c l'=some p'->p'.w≠some b):=fun ⟨E1,v,h1,h2⟩=>by
  rcases hback h1 with k | ⟨k1,k2,_,_,k5⟩
  ·exact .inl ⟨E1,v,k,h2⟩
  ·exact .inr ⟨k1,k2,k5 _ h2⟩
 refine ⟨fun l' E1 E2 u1 xs1 q1 e i hi hq1=>?_,fun l' i b hb=>?_,fun l' i b hb l2 o p' ho' hc'=>?_,fun l' i b l2 i2 h1 h2=>?_⟩
 ·rcases Z2 e with ⟨e1,e2⟩ | ⟨e1,e2⟩
  ·cases e2
   subst e1
   rw [hlen] at hi
   have hat:∀ v,τ.w.cell? ⟨g,i*Rp.sz (I E)+u,none⟩=some v->a0M c τ (upF O l' (some (.nst E E' u ys q'))) l' i E' v:=fun v hv=>⟨_,_,_,_,g,_,_,_,J3 _ _ _,hc,by rw [hlen]; exact hi,hq1,hv⟩
   have hold:q≠i+2->τ.w.cell? ⟨g,i*Rp.sz (I E)+u,none⟩=σ.w.cell? ⟨g,i*Rp.sz (I E)+u,none⟩->∃ v,a0M c τ (upF O l' (some (.nst E E' u ys q'))) l' i E' v/\Opn I E' τ v:=fun a1 a2=>by
    obtain ⟨v,k1,k2⟩:=h.opn l' _ _ _ _ q hl i hi a1
    have k1':=k1
    obtain ⟨E3,u3,xs3,q3,g3,kk,m3,w,h1,h2,h3,h4,h5⟩:=k1
    rw [hl] at h1
    cases h1
    rw [hc] at h2
    cases h2
    exact ⟨v,hat v (a2.trans h5),hopn k2 fun b hb=>hfree ⟨_,v,k1',hb⟩⟩
   by_cases e:i=j
   ·subst e
    rcases hnew hi hq1 with ⟨a1,a2⟩ | ⟨v',a1,a2,a3⟩
    ·exact hold a1 a2
    ·exact ⟨v',hat v' a1,a2⟩
   ·obtain ⟨a1,a2⟩:=hsame i hi e hq1
    exact hold a1 a2
  ·obtain ⟨v,k1,k2⟩:=h.opn l' _ _ _ _ _ e2 i hi hq1
   exact ⟨v,hother e1 k1,hopn k2 fun b hb=>hfree ⟨_,v,k1,hb⟩⟩
 ·rcases hB hb with k | k
  ·exact h.mine l' i b k
  ·exact k.2.2.1
 ·obtain ⟨o',ho2⟩:=hlive ho'
  rcases hB hb with k | k
  ·exact h.free l' i b k l2 o' p' ho2 hc'
  ·exact k.2.2.2.2 l2 o' p' ho2 hc'
 ·rcases hB h1 with k1 | k1
  ·rcases hB h2 with k2 | k2
   ·exact h.inj l' i b l2 i2 k1 k2
   ·exact absurd k1 (k2.2.2.2.1 _ _)
  ·rcases hB h2 with k2 | k2
   ·exact absurd k2 (k1.2.2.2.1 _ _)
   ·exact ⟨k2.1.trans k1.1.symm,k2.2.1.trans k1.2.1.symm⟩
theorem X6.place {l:Nat}{o:Ob I}(h:X6 X c σ l o):∃ p,c l=some p:=by
 cases o with
 | var T ls w=>obtain ⟨b,cs,k1,_⟩:=h; exact ⟨_,k1⟩
 | row E xs fl=>obtain ⟨A,k,ow,k1,_⟩:=h; exact ⟨_,k1⟩
 | ro E xs=>obtain ⟨A,k,k1,_⟩:=h; exact ⟨_,k1⟩
 | bo E xs=>obtain ⟨A,k,k1,_⟩:=h; exact ⟨_,k1⟩
 | nst E E' u xs q=>obtain ⟨A,k,ow,k1,_⟩:=h; exact ⟨_,k1⟩
 | map T kd m=>obtain ⟨b,k1,_⟩:=h; exact ⟨_,k1⟩
 | rom T kd m=>obtain ⟨b,k1,_⟩:=h; exact ⟨_,k1⟩
theorem X6.nstW {l g k m:Nat}{w:Option Nat}{E E':TypeId}{u q:Nat}{xs:List (I E)}(h:X6 X c σ l (.nst E E' u xs q))(hc:c l=some ⟨some ⟨g,0,none⟩,k,m,w⟩)(hx:xs≠[]):w=some g:=by
 obtain ⟨A,kk,ow,k1,k2⟩:=h
 rw [k1] at hc
 cases hc
 cases w with
 | none =>
   rcases k2 with ⟨e,_⟩ | ⟨e,_⟩
   ·exact absurd e hx
   ·cases e
 | some g' =>
   obtain ⟨cur,cs,e,_⟩:=k2
   cases e; rfl
structure Rel (X:Cxt)(c:Cx)(σ:S)(s:St I)(n:Nat)(F:Fr):Prop where
 len:s.n=n
 frame:∀ (i:Nat) (p:PV I),s.F i=some p->RV X c σ p (F i)
 objs:∀ (l:Nat) (o:Ob I),s.O l=some (some o)->X6 X c σ l o
 inj:∀ l l' p p' b,Y7 s l->Y7 s l'->c l=some p->c l'=some p'->p.w=some b->p'.w=some b->l=l'
 mine:∀ l p b,Y7 s l->c l=some p->p.w=some b->X.M b
 nom:∀ l,s.O l=none->c l=none
 base:X.N<=σ.N/\∀ E,Rp.lo (I E)<=X.N
 nst:Nests X c σ s.O
variable {s:St I}{n:Nat}{F:Fr}
theorem Rel.put (h:Rel X c σ s n F)(d:Option Nat)(p:PV I)(v:Value)(hv:RV X c σ p v):Rel X c σ (Qx.put s d p) n (J9 F d v):=by
 cases d with
 | none=>exact h
 | some d =>
   refine ⟨h.len,fun i q hq=>?_,h.objs,h.inj,h.mine,h.nom,h.base,h.nst⟩
   rcases Z2 hq with ⟨rfl,rfl⟩ | ⟨e,hq⟩
   ·simpa [J9,upd] using hv
   ·have:d8u i d=false:=beq_false e
    simpa [J9,upd,this] using h.frame i q hq
theorem Rel.step (h:Rel X c σ s n F)(st:Stp NoB σ τ):Rel X c τ s n F :=
 ⟨h.len,fun i p hp=>RV.step st.no p _ (h.frame i p hp),fun l o ho=>(h.objs l o ho).step st.no fun p g h1 h2=>st.block g (by
  have:=h.objs l o ho
  cases o with
  | var T ls w =>
    obtain ⟨b,cs,k1,k2,k3,_⟩:=this
    rw [k1] at h1
    cases h1
    cases w
    ·cases h2
    ·cases h2; exact a0E k3
  | row E xs fl =>
    obtain ⟨A,k,ow,k1,k2⟩:=this
    rw [k1] at h1
    cases h1
    subst h2
    obtain ⟨cur,cs,e,hh,_⟩:=k2
    exact a0E hh
  | nst E E' u xs q =>
    obtain ⟨A,k,ow,k1,k2⟩:=this
    rw [k1] at h1
    cases h1
    subst h2
    obtain ⟨cur,cs,e,hh,_⟩:=k2
    exact a0E hh
  | map T kd m =>
    obtain ⟨b,k1,k2⟩:=this
    rw [k1] at h1
    cases h1
    cases h2
    exact k2.lt
  | rom T kd m =>
    obtain ⟨b,k1,k2⟩:=this
    rw [k1] at h1
    cases h1
    cases h2
  | ro E xs =>
    obtain ⟨A,k,k1,k2⟩:=this
    rw [k1] at h1
    cases h1
    cases h2
  | bo E xs =>
    obtain ⟨A,k,k1,k2⟩:=this
    rw [k1] at h1
    cases h1
    cases h2) (fun h=>h),h.inj,h.mine,h.nom,⟨d8C h.base.1 st.wext.size,h.base.2⟩,h.nst.step st (fun _ _ _ _ _ _ _ _ _ _ _ _ _ h=>h) fun _ _ _ _ h=>h⟩
theorem X6.lt {l g:Nat}{o:Ob I}{p:Pl}(h:X6 X c σ l o)(h1:c l=some p)(h2:p.w=some g):g<σ.N:=by
 cases o with
 | var T ls w =>
   obtain ⟨b,cs,k1,k2,k3,_⟩:=h
   rw [k1] at h1
   cases h1
   cases w
   ·cases h2
   ·cases h2; exact a0E k3
 | row E xs fl =>
   obtain ⟨A,k,ow,k1,k2⟩:=h
   rw [k1] at h1
   cases h1
   subst h2
   obtain ⟨cur,cs,e,hh,_⟩:=k2
   exact a0E hh
 | nst E E' u xs q =>
   obtain ⟨A,k,ow,k1,k2⟩:=h
   rw [k1] at h1
   cases h1
   subst h2
   obtain ⟨cur,cs,e,hh,_⟩:=k2
   exact a0E hh
 | map T kd m =>
   obtain ⟨b,k1,k2⟩:=h
   rw [k1] at h1
   cases h1
   cases h2
   exact k2.lt
 | rom T kd m =>
   obtain ⟨b,k1,k2⟩:=h
   rw [k1] at h1
   cases h1
   cases h2
 | ro E xs =>
   obtain ⟨A,k,k1,k2⟩:=h
   rw [k1] at h1
   cases h1
   cases h2
 | bo E xs =>
   obtain ⟨A,k,k1,k2⟩:=h
   rw [k1] at h1
   cases h1
   cases h2
def a9U:Option (Ob I)->Bool
 | some (.nst _ _ _ _ _)=>false
 | _=>true
omit [∀ E,Rp (I E)] in
theorem a96 {o:Option (Ob I)}(h:a9U o=true):∀ {E E' u xs q},o≠some (.nst E E' u xs q):=by
 intro E E' u xs q e
 subst e
 cases h
theorem Rel.updG (h:Rel X c σ s n F){l g:Nat}{o':Option (Ob I)}{p:Pl}(hl:Y7 s l)(hp:c l=some p)(hw:p.w=some g)(st:Stp (fun b=>b=g) σ τ)(ho:∀ o,o'=some o->X6 X c τ l o)(hN:Nests X c τ (upF s.O l o')):Rel X c τ (Y5 s l o') n F:=by
 have hm:X.M g:=h.mine l p g hl hp hw
 have stM:Stp X.M σ τ:=st.mono fun b _ e=>by rw [e]; exact hm
 have hlive:∀ {l'},Y7 (Y5 s l o') l'->Y7 s l':=fun {l'} ⟨o,hl'⟩=>by
  rcases Z2 hl' with ⟨rfl,_⟩ | ⟨_,h⟩
  ·exact hl
  ·exact ⟨o,h⟩
 refine ⟨h.len,fun i q hq=>RV.step stM q _ (h.frame i q hq),fun l' o'' hl'=>?_,fun l1 l2 p1 p2 b a1 a2=>h.inj l1 l2 p1 p2 b (hlive a1) (hlive a2),fun l1 p1 b a1=>h.mine l1 p1 b (hlive a1),fun l' hl'=>?_,⟨d8C h.base.1 st.wext.size,h.base.2⟩,hN⟩
 ·rcases Z2 hl' with ⟨rfl,e⟩ | ⟨e,hl'⟩
  ·exact ho _ e.symm
  ·refine (h.objs l' o'' hl').step stM fun p' g' h1 h2=>st.block g' ((h.objs l' o'' hl').lt h1 h2) fun e'=>?_
   subst e'
   exact e (h.inj l' l p' p g' ⟨_,hl'⟩ hl h1 hp h2 hw)
 ·refine h.nom l' ?_
  by_cases e:l'=l
  ·subst e
   have:(Y5 s l' o').O l'=some o':=J3 _ _ _
   rw [this] at hl'; cases hl'
  ·have:(Y5 s l o').O l'=s.O l':=J2 e
   rw [this] at hl'; exact hl'
theorem Rel.upd (h:Rel X c σ s n F){l g:Nat}{o':Option (Ob I)}{p:Pl}(hl:Y7 s l)(hp:c l=some p)(hw:p.w=some g)(st:Stp (fun b=>b=g) σ τ)(ho:∀ o,o'=some o->X6 X c τ l o)(hn:a9U o'=true:=by rfl):Rel X c τ (Y5 s l o') n F:=by
 refine h.updG hl hp hw st ho ?_
 have hnt:∀ l' E E' u xs q,upF s.O l o' l'=some (some (.nst E E' u xs q))->l'≠l/\s.O l'=some (some (.nst E E' u xs q)):=fun l' E E' u xs q e=>by
  rcases Z2 e with ⟨_,e'⟩ | ⟨h1,h2⟩
  ·exact absurd e'.symm (a96 hn)
  ·exact ⟨h1,h2⟩
 have h1:Nests X c σ (upF s.O l o'):=h.nst.sub (fun l' E E' u xs q e=>(hnt l' E E' u xs q e).2) fun l' o p' b ho' _ _=>by
  rcases Z2 ho' with ⟨rfl,_⟩ | ⟨_,h2⟩
  ·exact .inl hl
  ·exact .inl ⟨o,h2⟩
 refine h1.step st (fun l' E E' u xs q g' k m w e hc hx eg=>?_) fun l' i b hb eb=>?_
 ·obtain ⟨e1,e2⟩:=hnt l' E E' u xs q e
  have hw':=(h.objs l' _ e2).nstW hc hx
  subst eg
  exact e1 (h.inj l' l _ p g' ⟨_,e2⟩ hl hc hp hw' hw)
 ·subst eb
  obtain ⟨o,ho'⟩:=hl
  have hb':InB c σ s.O l' i b:=by
   obtain ⟨E',v,⟨E,u,xs,q,g,kk,m,w,k1,k2⟩,k3⟩:=hb
   exact ⟨E',v,⟨E,u,xs,q,g,kk,m,w,(hnt _ _ _ _ _ _ k1).2,k2⟩,k3⟩
  exact h.nst.free l' i b hb' l o p ho' hp hw
def a0D (c:Cx)(l:Nat)(p:Pl):Cx:=fun i=>if i=l then some p else c i
theorem Q5 (c:Cx)(l:Nat)(p:Pl):a0D c l p l=some p:=by simp [a0D]
theorem b2h {c:Cx}{l:Nat}{p:Pl}(h:c l=none):Cx.le c (a0D c l p):=fun i q hq=>by
 by_cases e:i=l
 ·subst e; rw [h] at hq; cases hq
 ·simpa [a0D,e] using hq
theorem Rel.addG (h:Rel X c σ s n F){l:Nat}{o:Ob I}{p:Pl}(hl:s.O l=none)(hw:∀ g,p.w=some g->X.M g/\∀ l' p',Y7 s l'->c l'=some p'->p'.w≠some g)(ho:X6 X (a0D c l p) σ l o)(hN:Nests X (a0D c l p) σ (upF s.O l (some o))) :
 Cx.le c (a0D c l p)/\Rel X (a0D c l p) σ (Y5 s l (some o)) n F:=by
 have hle:Cx.le c (a0D c l p):=b2h (h.nom l hl)
 have hne:∀ {i},i≠l->a0D c l p i=c i:=fun e=>by simp [a0D,e]
 have hlive:∀ {l'},l'≠l->Y7 (Y5 s l (some o)) l'->Y7 s l':=fun e ⟨o',h'⟩=>by
  rcases Z2 h' with ⟨e',_⟩ | ⟨_,h⟩
  ·exact absurd e' e
  ·exact ⟨o',h⟩
 refine ⟨hle,h.len,fun i q hq=>RV.grow hle q _ (h.frame i q hq),fun l' o'' hl'=>?_,fun l1 l2 p1 p2 b a1 a2 a3 a4 a5 a6=>?_,fun l1 p1 b a1 a2 a3=>?_,fun l' hl'=>?_,h.base,hN⟩
 ·rcases Z2 hl' with ⟨rfl,e⟩ | ⟨e,hl'⟩
  ·cases e; exact ho
  ·exact (h.objs l' o'' hl').grow hle
 ·by_cases e1:l1=l
  ·by_cases e2:l2=l
   ·rw [e1,e2]
   ·exfalso
    subst e1
    rw [Q5] at a3
    cases a3
    rw [hne e2] at a4
    exact (hw b a5).2 l2 p2 (hlive e2 a2) a4 a6
  ·by_cases e2:l2=l
   ·exfalso
    subst e2
    rw [Q5] at a4
    cases a4
    rw [hne e1] at a3
    exact (hw b a6).2 l1 p1 (hlive e1 a1) a3 a5
   ·rw [hne e1] at a3
    rw [hne e2] at a4
    exact h.inj l1 l2 p1 p2 b (hlive e1 a1) (hlive e2 a2) a3 a4 a5 a6
 ·by_cases e1:l1=l
  ·subst e1
   rw [Q5] at a2
   cases a2
   exact (hw b a3).1
  ·rw [hne e1] at a2
   exact h.mine l1 p1 b (hlive e1 a1) a2 a3
 ·by_cases e:l'=l
  ·subst e
   have:(Y5 s l' (some o)).O l'=some (some o):=J3 _ _ _
   rw [this] at hl'; cases hl'
  ·have:(Y5 s l (some o)).O l'=s.O l':=J2 e
   rw [this] at hl'
   rw [hne e]; exact h.nom l' hl'
def notIn (c:Cx)(σ:S)(s:St I)(g:Nat):Prop:=∀ l i,¬ InB c σ s.O l i g
theorem Rel.fresh (h:Rel X c σ s n F){g:Nat}(hg:σ.N<=g):notIn c σ s g:=fun l i hb=>by
 have:=h.nst.lt hb
 omega
theorem notIn.sub {s':St I}{g:Nat}(k:notIn c σ s g)(hO:∀ l E E' u xs q,s'.O l=some (some (.nst E E' u xs q))->s.O l=some (some (.nst E E' u xs q))):notIn c σ s' g:=fun l i ⟨E',v,⟨E,u,xs,q,g,kk,m,w,k1,k2⟩,k3⟩ =>
 k l i ⟨E',v,⟨E,u,xs,q,g,kk,m,w,hO _ _ _ _ _ _ k1,k2⟩,k3⟩
theorem notIn.set {g l:Nat}{o:Option (Ob I)}(k:notIn c σ s g)(hn:a9U o=true:=by rfl):notIn c σ (Y5 s l o) g:=k.sub fun l' E E' u xs q e=>by
 rcases Z2 e with ⟨_,e'⟩ | ⟨_,h2⟩
 ·exact absurd e'.symm (a96 hn)
 ·exact h2
theorem notIn.grow {s':St I}{g:Nat}(k:notIn c σ s g)(h:Rel X c σ s n F)(hc:Cx.le c c')(hO:∀ l E E' u xs q,s'.O l=some (some (.nst E E' u xs q))->s.O l=some (some (.nst E E' u xs q))):notIn c' σ s' g:=fun l i ⟨E',v,⟨E,u,xs,q,g,kk,m,w,k1,k2,k3⟩,k4⟩=>by
 have k1':=hO _ _ _ _ _ _ k1
 refine k l i ⟨E',v,⟨E,u,xs,q,g,kk,m,w,k1',?_,k3⟩,k4⟩
 obtain ⟨p2,e2⟩:=(h.objs l _ k1').place
 have:=hc _ _ e2
 rw [k2] at this
 cases this; exact e2
theorem Rel.owned (h:Rel X c σ s n F){l g:Nat}{p:Pl}(hl:Y7 s l)(hp:c l=some p)(hw:p.w=some g):notIn c σ s g:=fun l' i hb=>by
 obtain ⟨o,ho⟩:=hl
 exact h.nst.free l' i g hb l o p ho hp hw
theorem Rel.add (h:Rel X c σ s n F){l:Nat}{o:Ob I}{p:Pl}(hl:s.O l=none)(hw:∀ g,p.w=some g->X.M g/\notIn c σ s g/\∀ l' p',Y7 s l'->c l'=some p'->p'.w≠some g)(ho:X6 X (a0D c l p) σ l o)(hn:a9U (some o)=true:=by rfl) :
 Cx.le c (a0D c l p)/\Rel X (a0D c l p) σ (Y5 s l (some o)) n F:=by
 refine h.addG hl (fun g hg=>⟨(hw g hg).1,(hw g hg).2.2⟩) ho ?_
 have hle:Cx.le c (a0D c l p):=b2h (h.nom l hl)
 have hg:=h.nst.grow hle fun l' o' ho'=>(h.objs l' o' ho').place
 refine hg.sub (fun l' E E' u xs q e=>?_) fun l' o' p' b ho' hc' hw'=>?_
 ·rcases Z2 e with ⟨_,e'⟩ | ⟨_,h2⟩
  ·exact absurd e'.symm (a96 hn)
  ·exact h2
 ·rcases Z2 ho' with ⟨rfl,_⟩ | ⟨_,h2⟩
  ·right
   rw [Q5] at hc'
   cases hc'
   intro l2 i hb
   obtain ⟨E',v,⟨E,u,xs,q,g,kk,m,w,k1,k2,k3⟩,k4⟩:=hb
   refine (hw b hw').2.1 l2 i ⟨E',v,⟨E,u,xs,q,g,kk,m,w,k1,?_,k3⟩,k4⟩
   obtain ⟨p2,e2⟩:=(h.objs l2 _ k1).place
   have:=hle _ _ e2
   rw [k2] at this
   cases this; exact e2
  ·exact .inl ⟨o',h2⟩
theorem Rel.kill (h:Rel X c σ s n F){l:Nat}(hl:Y7 s l):Rel X c σ (Y5 s l none) n F:=by
 have hlive:∀ {l'},Y7 (Y5 s l none) l'->Y7 s l':=fun {l'} ⟨o',h'⟩=>by
  rcases Z2 h' with ⟨_,e⟩ | ⟨_,h⟩
  ·cases e
  ·exact ⟨o',h⟩
 refine ⟨h.len,h.frame,fun l' o'' hl'=>?_,fun l1 l2 p1 p2 b a1 a2=>h.inj l1 l2 p1 p2 b (hlive a1) (hlive a2),fun l1 p1 b a1=>h.mine l1 p1 b (hlive a1),fun l' hl'=>?_,h.base,h.nst.sub (fun l' E E' u xs q e=>?_) fun l' o' p' b ho' _ _=>.inl (hlive ⟨o',ho'⟩)⟩
 ·rcases Z2 hl' with ⟨_,e⟩ | ⟨_,h'⟩
  ·cases e
  ·exact h.objs l' o'' h'
 ·refine h.nom l' ?_
  by_cases e:l'=l
  ·subst e
   have:(Y5 s l' none).O l'=some none:=J3 _ _ _
   rw [this] at hl'; cases hl'
  ·have:(Y5 s l none).O l'=s.O l':=J2 e
   rw [this] at hl'; exact hl'
 ·rcases Z2 e with ⟨_,e'⟩ | ⟨_,h2⟩
  ·cases e'
  ·exact h2
def pub (s:St I)(l:Nat):St I:=match s.O l with
 | some (some (.row E xs false))=>Y5 s l (some (.row E xs true))
 | _=>s
theorem Rel.pub (h:Rel X c σ s n F)(l:Nat):∃ τ,τ.w=σ.w/\Stp X.M σ τ/\Rel X c τ (Qx.pub s l) n F:=by
 unfold Qx.pub
 split
 ·rename_i E xs hl
  have ho:=h.objs l _ hl
  obtain ⟨A,k,ow,h1,h2⟩:=ho
  cases ow with
  | none =>
    refine ⟨σ,rfl,Stp.refl _ _,⟨h.len,h.frame,fun l' o hl'=>?_,?_,?_,?_,h.base,?_⟩⟩
    ·rcases Z2 hl' with ⟨rfl,e⟩ | ⟨_,h'⟩
     ·cases e
      refine ⟨A,k,none,h1,?_⟩
      rcases h2 with h2 | ⟨e,_⟩
      ·exact .inl h2
      ·cases e
     ·exact h.objs l' o h'
    all_goals
     have hlive:∀ {l'},Y7 (Y5 s l (some (Ob.row E xs true))) l'->Y7 s l':=fun {l'} ⟨o',h'⟩=>by
      rcases Z2 h' with ⟨rfl,_⟩ | ⟨_,h⟩
      ·exact ⟨_,hl⟩
      ·exact ⟨o',h⟩
    ·exact fun l1 l2 p1 p2 b a1 a2=>h.inj l1 l2 p1 p2 b (hlive a1) (hlive a2)
    ·exact fun l1 p1 b a1=>h.mine l1 p1 b (hlive a1)
    ·intro l' hl'
     refine h.nom l' ?_
     by_cases e:l'=l
     ·subst e
      have:(Y5 s l' (some (Ob.row E xs true))).O l'=some (some (Ob.row E xs true)):=J3 _ _ _
      rw [this] at hl'; cases hl'
     ·have:(Y5 s l (some (Ob.row E xs true))).O l'=s.O l':=J2 e
      rw [this] at hl'; exact hl'
    ·refine h.nst.sub (fun l' E E' u xs q e=>?_) fun l' o' p' b ho' _ _=>.inl (hlive ⟨o',ho'⟩)
     rcases Z2 e with ⟨_,e'⟩ | ⟨_,h2⟩
     ·cases e'
     ·exact h2
  | some g =>
    obtain ⟨cur,cs,e,hh,k1,k2,k3,k4,k5,k6⟩:=h2
    let τ:S:=⟨σ.w,fun b=>if b=g then (xs.length*Rp.sz (I E),(σ.L b).2) else σ.L b⟩
    have hL:∀ b,b≠g->τ.L b=σ.L b:=fun b hb=>by simp [τ,hb]
    have hLg:(τ.L g).1=xs.length*Rp.sz (I E):=by simp [τ]
    have k6':(σ.L g).1=0:=k6
    have hw:Wext σ τ:=⟨d8r _,fun b _=>by
     by_cases eb:b=g
     ·subst eb; rw [k6']; exact d8w _
     ·rw [hL b eb]; exact d8r _,fun _ _ _ _ h=>h,d8r _,fun _ _ _ h=>h⟩
    have st:Stp (fun b=>b=g) σ τ:=⟨hw,rfl,rfl,rfl,fun b _ hb=>⟨rfl,by rw [hL b hb]⟩⟩
    refine ⟨τ,rfl,st.mono fun b _ e=>by rw [e]; exact h.mine l _ g ⟨_,hl⟩ h1 rfl,h.upd ⟨_,hl⟩ h1 rfl st fun o e'=>?_⟩
    cases e'
    exact ⟨A,k,some g,h1,cur,cs,e,hh,k1,k2,k3,k4.mono hw,k5,hLg⟩
 ·exact ⟨σ,rfl,Stp.refl _ _,h⟩
end
end Go.Qx
end
section
open Bool renaming and_eq_true->d8p
open List renaming all_cons->d9v,filterMap_cons->d8X,getElem?_append_left->d8H,getElem?_append_right->d8z,getElem?_eq_getElem->d8n,getElem?_eq_some_iff->d8o,getElem_of_mem->d9b,length_append->d8t,map_append->d9S,nodup_cons->d9T,range->d9L
open Nat renaming add_assoc->d9j,add_zero->d9h,beq->d8u,ble->d89,eq_of_beq_eq_true->d8s,zero_le->d8w
open Option renaming some->d8Y
namespace Go.Qx
open Go Go.RowKit Go.Sx
structure Tab (I:TypeId->Type) where
 sz:TypeId->Option Nat
 one:TypeId->Bool
 off:TypeId->Nat->Option Nat
 fty:TypeId->Nat->Option TypeId
 el:TypeId->Option TypeId
 isStr:TypeId->Bool
 isBool:TypeId->Bool
 ik:TypeId->Option IntKind
 lf:(E:TypeId)->I E->List (PV I)
 of:(E:TypeId)->List (PV I)->Option (I E)
 size:TypeId->Option Nat
 bytes:TypeId->Option Nat
 zero:TypeId->Option (List (PV I))
 flds:TypeId->Option (List (Nat×Nat))
 eqF:TypeId->List (PV I)->List (PV I)->Option Bool
 arr:TypeId->Option (TypeId×Nat×Nat)
 fb:FuncId->Bool
 nest:TypeId->Option (TypeId×Nat)
 mp:TypeId->Option Kd
 u8:TypeId->Bool
 u8g:(E:TypeId)->Option (Int->I E)
 lo:Nat:=0
section
variable {I:TypeId->Type} [∀ E,Rp (I E)]
def d4n (P:Program)(T:TypeId)(pl:List (Nat×Nat))(zs:List Value):Prop :=
 ∃ m e ie i z,P.underlying T=some (.array m e)/\P.info? e=some ie/\P.info? T=some i/\i.zero=some z/\z.cells=zs.toArray/\pl=(d9L m).map fun j=>(j*ie.size,ie.size)
def d5M (P:Program)(T:TypeId)(pl:List (Nat×Nat))(zs:List Value):Prop:=c8J P T pl zs\/d4n P T pl zs
def c4O:(kd:Kd)->Option (Ty I kd)
 | .int _=>some (0:Int)
 | .bool=>some false
 | .str=>some (⟨#[]⟩:ByteArray)
 | .sl E=>some ([]:List (I E))
 | _=>none
def c7h (I:TypeId->Type) [∀ E,Rp (I E)] (P:Program)(T:TypeId)(kd:Kd):Prop :=
 ∃ K E z sz by_,P.underlying T=some (.map K E)/\P.underlying K=some .string/\Y9 P E z sz by_/\∀ (x:Ty I kd),c4O kd=some x->∀ σ,DV σ kd x z
structure TabOk (P:Program)(tb:Tab I):Prop where
 sz:∀ T k,tb.sz T=some k->c0S P T k
 one:∀ T,tb.one T=true->X8 P T
 off:∀ T f o,tb.off T f=some o->a6r P T f o
 fty:∀ T f T',tb.fty T f=some T'->∃ fs fl,P.underlying T=some (.struct fs)/\fs[f]?=some fl/\fl.type=T'
 el:∀ T E,tb.el T=some E->P.underlying T=some (.slice E)/\(P.info? E).map (·.size)=some (Rp.sz (I E))
 isStr:∀ T,tb.isStr T=true->P.underlying T=some .string
 isBool:∀ T,tb.isBool T=true->P.underlying T=some .bool
 ik:∀ T k,tb.ik T=some k->P.underlying T=some (.int k)
 lf:∀ (X:Cxt) (c:Cx) (σ:S) (E:TypeId) (x:I E) (cs:List Value),Rp.cells σ x cs->RG X c σ (tb.lf E x) cs
 of:∀ (X:Cxt) (c:Cx) (σ:S) (E:TypeId) (ls:List (PV I)) (x:I E) (cs:List Value),tb.of E ls=some x->RG X c σ ls cs->Rp.cells σ x cs
 size:∀ T k,tb.size T=some k->(P.info? T).map (·.size)=some k
 slice:∀ T E b,tb.el T=some E->tb.bytes E=some b->∃ z,a33 P T E z (Rp.sz (I E)) b
 zero:∀ T ls,tb.zero T=some ls->∃ z sz by_ cs,Y9 P T z sz by_/\z.cells.toList=cs/\∀ X c σ,RG X c σ ls cs
 flds:∀ T pl ls,tb.flds T=some pl->tb.zero T=some ls->∃ cs,d5M P T pl cs/\∀ X c σ,RG X c σ ls cs
 eqF:∀ (X:Cxt) (c:Cx) (σ:S) (T:TypeId) (ls ms:List (PV I)) (r:Bool) (cs ds:List Value),tb.eqF T ls ms=some r->RG X c σ ls cs->RG X c σ ms ds ->
  P.eqGuardType P.depth T=false/\∃ j,d89 j 10000=true/\Sx.EqAt P j T (.agg cs.toArray) (.agg ds.toArray) r
 arr:∀ T E m k,tb.arr T=some (E,m,k)->P.underlying T=some (.array m E)/\(P.info? E).map (·.size)=some k
 fb:∀ f,tb.fb f=true->a1F P f
 mp:∀ T kd,tb.mp T=some kd->c7h I P T kd
 u8:∀ E,tb.u8 E=true->P.underlying E=some (.int .u8)/\∀ x:I E,∃ n,tb.lf E x=[.int .u8 n]
 u8g:∀ E g,tb.u8g E=some g->∀ (σ:S) (k:Int),Rp.cells σ (g k) [.int .u8 k]
 low:∀ E,Rp.lo (I E)<=tb.lo
omit [∀ E,Rp (I E)] in
theorem j8 {α:Type}{b:Bool}{x:Option α}{r:α}(h:(bif b then x else none)=some r):b=true/\x=some r:=by
 cases b
 ·cases h
 ·exact ⟨rfl,h⟩
omit [∀ E,Rp (I E)] in
theorem a0V {α:Type}{p:Prop} [Decidable p] {x:Option α}{r:α}(h:(if p then x else none)=some r):p/\x=some r:=by
 by_cases hp:p
 ·rw [if_pos hp] at h; exact ⟨hp,h⟩
 ·rw [if_neg hp] at h; cases h
def a13 (E E':TypeId)(xs:List (I E')):Option (List (I E)):=if h:E'=E then some (h▸xs) else none
omit [∀ E,Rp (I E)] in
theorem a0l {E E':TypeId}{xs:List (I E')}{ys:List (I E)}(h:a13 E E' xs=some ys):∃ e:E'=E,ys=e▸xs:=by
 unfold a13 at h
 split at h
 ·rename_i e; cases h; exact ⟨e,rfl⟩
 ·cases h
def a9a (E E':TypeId)(x:I E'):Option (I E):=if h:E'=E then some (h▸x) else none
omit [∀ E,Rp (I E)] in
theorem b2w {E E':TypeId}{x:I E'}{y:I E}(h:a9a E E' x=some y):∃ e:E'=E,y=e▸x:=by
 unfold a9a at h
 split at h
 ·rename_i e; cases h; exact ⟨e,rfl⟩
 ·cases h
def ofG (tb:Tab I)(E:TypeId)(ls:List (PV I)):Option (I E):=match ls with
 | [.dat E' x]=>bif d8u E' E then a9a E E' x else match tb.lf E' x with
   | [.dat E2 y]=>a9a E E2 y
   | ls=>tb.of E ls
 | ls=>tb.of E ls
def b7g (T:TypeId)(ls:List (PV I)):PV I:=match ls with
 | [.dat E x]=>bif d8u E T then .dat E x else .agg ls
 | ls=>.agg ls
def b7o (tb:Tab I):Nat->List (PV I)->Option (List (PV I))
 | 0,_=>none
 | _+1,[]=>some []
 | f+1,p::ps=>match p with
   | .dat E x=>b7o tb f (tb.lf E x++ps)
   | p=>(b7o tb f ps).bind fun r=>some (p::r)
abbrev Obs (I:TypeId->Type):=Nat->Option (Option (Ob I))
def c8j (O:Obs I):PV I->Option (PV I×List Nat)
 | .vw l=>match O l with
   | some (some (.row E xs fl))=>some (.sl E xs false,bif fl then [] else [l])
   | some (some (.ro E xs))=>some (.sl E xs false,[])
   | _=>none
 | .nl E=>some (.sl E [] true,[])
 | p=>some (p,[])
def c9h (O:Obs I):List (PV I)->Option (List (PV I)×List Nat)
 | []=>some ([],[])
 | p::r=>(c8j O p).bind fun q=>(c9h O r).bind fun t=>some (q.1::t.1,q.2++t.2)
def c7u (O:Obs I)(E:TypeId)(p:PV I):Option (List (I E)×List Nat) :=
 (c8j O p).bind fun q=>match q.1 with
 | .sl E' xs _=>(a13 E E' xs).bind fun ys=>some (ys,q.2)
 | _=>none
def a9c (tb:Tab I)(O:Obs I):(k:Kd)->PV I->Option (Ty I k×List Nat)
 | .int k,.int k' n=>if k=k' then some (n,[]) else none
 | .bool,.bool b=>some (b,[])
 | .str,.str s=>some (s,[])
 | .sl E,p=>c7u O E p
 | .dat E,.dat E' x=>(a9a E E' x).bind fun y=>some (y,[])
 | .dat E,.agg ls=>(c9h O ls).bind fun t=>(ofG tb E t.1).bind fun x=>some (x,t.2)
 | .any,_=>some ((),[])
 | _,_=>none
def a5T {T T':TypeId}{kd kd':Kd}(m:List (ByteArray×Ty I kd')):Option (List (ByteArray×Ty I kd)):=if h:T'=T/\kd'=kd then some (h.2▸m) else none
omit [∀ E,Rp (I E)] in
theorem a4W {T T':TypeId}{kd kd':Kd}{m:List (ByteArray×Ty I kd')}{y:List (ByteArray×Ty I kd)}(h:a5T (T:=T) (T':=T') (kd:=kd) m=some y):∃ e:kd'=kd,T'=T/\y=e▸m:=by
 unfold a5T at h
 split at h
 ·rename_i e
  exact ⟨e.2,e.1,(d8Y.inj h).symm⟩
 ·cases h
def a8m (tb:Tab I)(O:Obs I):(k:K)->PV I->Option (TyK I k×List Nat×List (Option Nat))
 | .d kd,p=>(a9c tb O kd p).bind fun x=>some (x.1,x.2,[])
 | .row E fl,.vw l=>match O l with
   | some (some (.row E' xs fl'))=>(a13 E E' xs).bind fun ys=>match fl,fl' with
     | false,false=>some (ys,[],[some l])
     | true,true=>some (ys,[],[some l])
     | _,_=>none
   | _=>none
 | .row E _,.nl _=>some (([]:List (I E)),[],[none])
 | .row E true,.sl E' xs true=>(a13 E E' xs).bind fun ys=>some (ys,[],[none])
 | .map T kd,.mp l=>match O l with
   | some (some (.map T' kd' m))=>(a5T (T:=T) (T':=T') (kd:=kd) m).bind fun ys=>some (ys,[],[some l])
   | _=>none
 | .pv T,.ptr l 0=>match O l with
   | some (some (.var T' ls true))=>bif d8u T' T then (a9c tb O (.dat T) (b7g T ls)).bind fun x=>some (x.1,x.2,[some l]) else none
   | _=>none
 | _,_=>none
def a7q (tb:Tab I)(O:Obs I):(ks:List K)->List (PV I)->Option (a36 I ks×List Nat×List (Option Nat))
 | [],[]=>some ((),[],[])
 | [k],[p]=>a8m tb O k p
 | k::k'::ks,p::ps=>(a8m tb O k p).bind fun x=>(a7q tb O (k'::ks) ps).bind fun y=>some ((x.1,y.1),x.2.1++y.2.1,x.2.2++y.2.2)
 | _,_=>none
def c0F (tb:Tab I)(O:Obs I):(v:V)->PV I->Option (TyV I v×List Nat×List (Option Nat))
 | .k k,p=>a8m tb O k p
 | .lvs ks,.agg ls=>bif b4l ks then (b7o tb 300 ls).bind fun ls'=>a7q tb O ks ls' else none
 | .lvs ks,.dat E x=>bif b4l ks then (b7o tb 300 [.dat E x]).bind fun ls'=>a7q tb O ks ls' else none
 | _,_=>none
def a3D (tb:Tab I)(O:Obs I):(vs:List V)->List (PV I)->Option (TyT I vs×List Nat×List (Option Nat))
 | [],[]=>some ((),[],[])
 | [v],[p]=>c0F tb O v p
 | v::v'::vs,p::ps=>(c0F tb O v p).bind fun x=>(a3D tb O (v'::vs) ps).bind fun y=>some ((x.1,y.1),x.2.1++y.2.1,x.2.2++y.2.2)
 | _,_=>none
def a7B (tb:Tab I):(k:Kd)->Ty I k->PV I
 | .int k,n=>.int k n
 | .bool,b=>.bool b
 | .str,s=>.str s
 | .sl E,xs=>.sl E xs false
 | .dat E,x=>.dat E x
 | .any,_=>.any
def pvK (tb:Tab I)(nb:Nat):(k:K)->TyK I k->PV I
 | .d kd,x=>a7B tb kd x
 | .row _ _,_=>.vw nb
 | .map _ _,_=>.mp nb
 | .pv _,_=>.ptr nb 0
def obK:(k:K)->TyK I k->List (Ob I)
 | .d _,_=>[]
 | .row E fl,xs=>[.row E xs fl]
 | .map T kd,m=>[.map T kd m]
 | .pv T,x=>[.var T [.dat T x] true]
def cnK:K->Nat
 | .d _=>0
 | .row _ _=>1
 | .map _ _=>1
 | .pv _=>1
def a83 (tb:Tab I):Nat->(ks:List K)->a36 I ks->List (PV I)
 | _,[],_=>[]
 | nb,[k],x=>[pvK tb nb k x]
 | nb,k::k'::ks,q=>pvK tb nb k q.1::a83 tb (nb+cnK k) (k'::ks) q.2
def c5z:(ks:List K)->a36 I ks->List (Ob I)
 | [],_=>[]
 | [k],x=>obK k x
 | k::k'::ks,q=>obK k q.1++c5z (k'::ks) q.2
def a6X:List K->Nat
 | []=>0
 | [k]=>cnK k
 | k::k'::ks=>cnK k+a6X (k'::ks)
def pvV (tb:Tab I)(nb:Nat):(v:V)->TyV I v->PV I
 | .k k,x=>pvK tb nb k x
 | .lvs ks,q=>.agg (a83 tb nb ks q)
def obV:(v:V)->TyV I v->List (Ob I)
 | .k k,x=>obK k x
 | .lvs ks,q=>c5z ks q
def cnV:V->Nat
 | .k k=>cnK k
 | .lvs ks=>a6X ks
def pvT (tb:Tab I):Nat->(vs:List V)->TyT I vs->List (PV I)
 | _,[],_=>[]
 | nb,[v],x=>[pvV tb nb v x]
 | nb,v::v'::vs,q=>pvV tb nb v q.1::pvT tb (nb+cnV v) (v'::vs) q.2
def obT:(vs:List V)->TyT I vs->List (Ob I)
 | [],_=>[]
 | [v],x=>obV v x
 | v::v'::vs,q=>obV v q.1++obT (v'::vs) q.2
def cnT:List V->Nat
 | []=>0
 | [v]=>cnV v
 | v::v'::vs=>cnV v+cnT (v'::vs)
variable {P:Program}{tb:Tab I}{X X':Cxt}{c c':Cx}{σ τ:S}{O:Obs I}
def a2w (X:Cxt)(c:Cx)(σ:S)(O:Obs I)(LS:List Nat):Prop:=(∀ l E (xs:List (I E)) fl,O l=some (some (.row E xs fl))->(fl=true\/l∈LS)->X6 X c σ l (.row E xs true)) /\
 (∀ l E (xs:List (I E)),O l=some (some (.ro E xs))->X6 X c σ l (.ro E xs))/\(∀ l T kd m,O l=some (some (.map T kd m))->X6 X c σ l (.map T kd m))/\∀ l T ls w,O l=some (some (.var T ls w))->X6 X c σ l (.var T ls w)
theorem a2w.sub {LS LS':List Nat}(h:a2w X c σ O LS)(k:∀ l∈LS',l∈LS):a2w X c σ O LS':=⟨fun l E xs fl ho hl=>h.1 l E xs fl ho (hl.imp id (k l)),h.2⟩
theorem d0j {LS:List Nat}(hS:a2w X c σ O LS){p q:PV I}{ls:List Nat}(h:c8j O p=some (q,ls))(hl:∀ l∈ls,l∈LS){v:Value}(hv:RV X c σ p v):RV X c σ q v:=by
 unfold c8j at h
 split at h
 ·rename_i l
  split at h
  ·rename_i E xs fl ho
   cases h
   obtain ⟨A,k,ow,h1,h2⟩:=hS.1 l E xs fl ho (by
    cases fl
    ·exact .inr (hl l (by simp))
    ·exact .inl rfl)
   simp only [RV] at hv ⊢
   obtain ⟨p,h3,rfl⟩:=hv
   rw [h1] at h3
   cases h3
   exact ⟨A,k,rfl,h2.sl,fun e=>by cases e⟩
  ·rename_i E xs ho
   cases h
   obtain ⟨A,k,h1,h2⟩:=hS.2.1 l E xs ho
   simp only [RV] at hv ⊢
   obtain ⟨p,h3,rfl⟩:=hv
   rw [h1] at h3
   cases h3
   exact ⟨A,k,rfl,h2,fun e=>by cases e⟩
  ·cases h
 ·cases h
  simp only [RV] at hv ⊢
  obtain ⟨A,rfl⟩:=hv
  exact ⟨A,0,rfl,Sl.nil_ _ _ _ (d8w _),fun _=>rfl⟩
 ·cases h; exact hv
theorem c4M {LS:List Nat}(hS:a2w X c σ O LS):∀ {ps qs:List (PV I)} {ls:List Nat},c9h O ps=some (qs,ls)->(∀ l∈ls,l∈LS)->∀ {cs:List Value},RG X c σ ps cs->RG X c σ qs cs
 | [],_,_,h,_,_,hv=>by cases h; exact hv
 | p::r,_,_,h,hl,cs,hv=>by
   obtain ⟨q,hq,h⟩:=bind_some h
   obtain ⟨t,ht,h⟩:=bind_some h
   cases h
   simp only [RG] at hv ⊢
   obtain ⟨a,r',rfl,h1,h2⟩:=hv
   refine ⟨a,r',rfl,?_,c4M hS (ls:=t.2) ht (fun l hm=>hl l (by simp [hm])) h2⟩
   rcases h1 with h1 | ⟨h0,v,e,h1⟩
   ·left
    cases p<;>first | exact h1.elim | (cases hq; exact h1)
   ·right
    have hd:=d0j hS (ls:=q.2) hq (fun l hm=>hl l (by simp [hm])) h1
    refine ⟨?_,v,e,hd⟩
    unfold c8j at hq
    split at hq
    ·split at hq
     ·cases hq; rfl
     ·cases hq; rfl
     ·cases hq
    ·cases hq; rfl
    ·cases hq; exact h0
theorem c4k (ht:TabOk P tb){E:TypeId}{ls:List (PV I)}{x:I E}{cs:List Value}(h:ofG tb E ls=some x)(hl:RG X c σ ls cs):Rp.cells σ x cs:=by
 unfold ofG at h
 split at h
 ·rename_i E' y
  have one:∀ {E0:TypeId} {z:I E0} {cs0:List Value},RG X c σ [PV.dat E0 z] cs0->Rp.cells σ z cs0:=fun {E0 z cs0} hl=>by
   simp only [RG] at hl
   obtain ⟨a,r,rfl,h1,rfl⟩:=hl
   rcases h1 with h1 | ⟨h0,_⟩
   ·have h2:Rp.cells σ _ a:=h1
    simpa using h2
   ·cases h0
  rcases hb:d8u E' E with _ | _
  ·rw [hb] at h
   simp only [cond_false] at h
   have h2:=ht.lf X c σ E' y cs (one hl)
   split at h
   ·rename_i E2 z hz
    rw [hz] at h2
    obtain ⟨e,rfl⟩:=b2w h
    subst e
    exact one h2
   ·exact ht.of _ _ _ _ _ _ _ h h2
  rw [hb] at h
  simp only [cond_true] at h
  obtain ⟨e,rfl⟩:=b2w h
  subst e
  exact one hl
 ·exact ht.of _ _ _ _ _ _ _ h hl
theorem a8i {T:TypeId}{ls:List (PV I)}{cs:List Value}(hl:RG X c σ ls cs):RV X c σ (b7g T ls) (.agg cs.toArray):=by
 unfold b7g
 split
 ·rename_i E x
  cases d8u E T with
  | true =>
    simp only [RG] at hl
    obtain ⟨a,r,rfl,h1,rfl⟩:=hl
    rcases h1 with h1 | ⟨h0,_⟩
    ·simp only [cond_true,RV]
     exact ⟨a,by simp,h1⟩
    ·cases h0
  | false=>simp only [cond_false,RV]; exact ⟨cs,rfl,hl⟩
 ·simp only [RV]; exact ⟨cs,rfl,hl⟩
theorem b2t (ht:TabOk P tb):∀ {f:Nat} {ls qs:List (PV I)} {cs:List Value},b7o tb f ls=some qs->RG X c σ ls cs->RVs X c σ qs cs
 | 0,_,_,_,h,_=>by cases h
 | f+1,[],_,_,h,hl=>by
   cases h
   simpa only [RG,RVs] using hl
 | f+1,p::ps,qs,cs,h,hl=>by
   simp only [b7o] at h
   simp only [RG] at hl
   obtain ⟨a,r,rfl,h1,h2⟩:=hl
   split at h
   ·rename_i E x
    rcases h1 with h1 | ⟨h0,_⟩
    ·exact b2t ht h (RG.app _ _ _ _ (ht.lf X c σ E x a h1) h2)
    ·cases h0
   ·rename_i hne
    obtain ⟨r',hr',h⟩:=bind_some h
    cases h
    rcases h1 with h1 | ⟨h0,v,rfl,h1⟩
    ·exact (by cases p<;>first | exact h1.elim | exact absurd rfl (hne _ _))
    ·simp only [RVs]
     exact ⟨v,r,rfl,h1,b2t ht hr' h2⟩
theorem c3h {LS:List Nat}(hS:a2w X c σ O LS){E:TypeId}{p:PV I}{x:List (I E)}{ls:List Nat}(h:c7u O E p=some (x,ls))(hl:∀ l∈ls,l∈LS){v:Value}(hv:RV X c σ p v):∃ A k,v=.slice A x.length k/\Sl σ x A k:=by
 obtain ⟨q,hq,h⟩:=bind_some h
 split at h
 ·rename_i E' xs f e
  obtain ⟨ys,hys,h⟩:=bind_some h
  cases h
  obtain ⟨q1,q2⟩:=q
  simp only at e
  subst e
  have:=d0j hS hq hl hv
  simp only [RV] at this
  obtain ⟨A,k,e1,e2,_⟩:=this
  obtain ⟨e,rfl⟩:=a0l hys
  subst e
  exact ⟨A,k,e1,e2⟩
 ·cases h
theorem a5Q (ht:TabOk P tb){LS:List Nat}(hS:a2w X c σ O LS){k:Kd}{p:PV I}{x:Ty I k}{ls:List Nat}(h:a9c tb O k p=some (x,ls))(hl:∀ l∈ls,l∈LS){v:Value}(hv:RV X c σ p v):DV σ k x v:=by
 unfold a9c at h
 split at h
 ·obtain ⟨e,h2⟩:=a0V h
  clear h
  subst e
  cases h2
  simpa only [RV,DV] using hv
 ·cases h; simpa only [RV,DV] using hv
 ·cases h; simpa only [RV,DV] using hv
 ·exact c3h hS h hl hv
 ·obtain ⟨y,hy,h2⟩:=bind_some h
  clear h
  cases h2
  obtain ⟨e,e2⟩:=b2w hy
  subst e
  subst e2
  simp only [RV] at hv
  exact hv
 ·obtain ⟨t,ht',h⟩:=bind_some h
  obtain ⟨y,hy,h⟩:=bind_some h
  cases h
  simp only [RV] at hv
  obtain ⟨cs,rfl,hcs⟩:=hv
  exact ⟨cs,rfl,c4k ht hy (c4M hS (ls:=t.2) ht' hl hcs)⟩
 ·trivial
 ·cases h
def At (c:Cx):List (Option Nat)->List Pl->Prop
 | [],pls=>pls=[]
 | r::rs,pls=>∃ p ps,pls=p::ps/\(match r with | some l=>c l=some p | none=>p.w=none)/\At c rs ps
theorem At.app:∀ {r1 r2:List (Option Nat)} {p1 p2:List Pl},At c r1 p1->At c r2 p2->At c (r1++r2) (p1++p2)
 | [],_,_,_,h1,h2=>by cases h1; exact h2
 | _::_,_,_,_,⟨p,ps,e,h,h1⟩,h2=>by subst e; exact ⟨p,_,rfl,h,h1.app h2⟩
def Rows (X:Cxt)(c:Cx)(σ:S)(O:Obs I)(LS:List Nat):Prop:=∀ l E (xs:List (I E)) fl,O l=some (some (.row E xs fl))->l ∉ LS->X6 X c σ l (.row E xs fl)
theorem b5S (ht:TabOk P tb){LS:List Nat}(hS:a2w X c σ O LS)(hO:Rows X c σ O LS){k:K}{p:PV I}{x:TyK I k}{ls:List Nat}{rows:List (Option Nat)}(h:a8m tb O k p=some (x,ls,rows))(hl:∀ l∈ls,l∈LS)
 (hr:∀ l,some l∈rows->l ∉ LS) {v:Value} (hv:RV X c σ p v):∃ pls,TK σ k x v pls/\At c rows pls:=by
 unfold a8m at h
 split at h
 ·obtain ⟨y,hy,h⟩:=bind_some h
  cases h
  exact ⟨[],⟨a5Q ht hS hy hl hv,rfl⟩,rfl⟩
 ·rename_i E fl l
  split at h
  ·rename_i E' xs fl' ho
   obtain ⟨ys,hys,h⟩:=bind_some h
   obtain ⟨e,rfl⟩:=a0l hys
   subst e
   simp only [RV] at hv
   obtain ⟨pl,h3,rfl⟩:=hv
   have key:∀ f:Bool,X6 X c σ l (.row E' xs f)->∃ pls,TK σ (.row E' f) xs (.slice pl.A pl.m pl.k) pls/\At c [some l] pls:=by
    rintro f ⟨A,k,ow,h1,h2⟩
    rw [h1] at h3
    cases h3
    exact ⟨[⟨A,k,xs.length,ow⟩],⟨A,k,ow,rfl,rfl,h2⟩,⟨_,[],rfl,h1,rfl⟩⟩
   split at h
   ·cases h
    exact key false (hO l E' xs _ ho (hr l (by simp)))
   ·cases h
    exact key true (hO l E' xs _ ho (hr l (by simp)))
   ·cases h
  ·cases h
 ·cases h
  simp only [RV] at hv
  obtain ⟨A,rfl⟩:=hv
  exact ⟨[⟨A,0,0,none⟩],⟨A,0,none,rfl,rfl,.inl ⟨rfl,rfl⟩⟩,⟨_,[],rfl,rfl,rfl⟩⟩
 ·obtain ⟨ys,hys,h2⟩:=bind_some h
  clear h
  cases h2
  obtain ⟨e,e2⟩:=a0l hys
  subst e
  subst e2
  simp only [RV] at hv
  obtain ⟨A,k,rfl,hs,hf⟩:=hv
  have hk:=hf (by simp)
  subst hk
  exact ⟨[⟨A,_,_,none⟩],⟨A,_,none,rfl,rfl,.inr ⟨rfl,rfl,hs⟩⟩,⟨_,[],rfl,rfl,rfl⟩⟩
 ·rename_i T kd l
  split at h
  ·rename_i T' kd' m ho
   obtain ⟨ys,hys,h⟩:=bind_some h
   cases h
   obtain ⟨e,e2,rfl⟩:=a4W hys
   subst e
   subst e2
   obtain ⟨b,h1,h2⟩:=hS.2.2.1 l T' kd' m ho
   simp only [RV] at hv
   obtain ⟨b',w,h3,rfl⟩:=hv
   rw [h1] at h3
   cases h3
   exact ⟨[⟨some ⟨b,0,none⟩,0,0,some b⟩],⟨b,rfl,rfl,h2⟩,⟨_,[],rfl,h1,rfl⟩⟩
  ·cases h
 ·rename_i T l
  split at h
  ·rename_i T' ls' ho
   obtain ⟨hT,h⟩:=j8 h
   have e:=d8s hT
   subst e
   obtain ⟨y,hy,h⟩:=bind_some h
   cases h
   obtain ⟨b,cs,h1,h2,h3,h4,_⟩:=hS.2.2.2 l T' ls' true ho
   simp only [RV] at hv
   obtain ⟨b',w,h5,rfl⟩:=hv
   rw [h1] at h5
   cases h5
   obtain ⟨ds,e1,e2⟩:=a5Q ht hS hy hl (a8i h2)
   have e3:cs=ds:=by
    have:=Value.agg.inj e1
    simpa using this
   subst e3
   exact ⟨[⟨some ⟨b,0,none⟩,0,0,some b⟩],⟨b,cs,rfl,rfl,e2,h3,h4 rfl⟩,⟨_,[],rfl,h1,rfl⟩⟩
  ·cases h
 ·cases h
theorem c2U (ht:TabOk P tb){LS:List Nat}(hS:a2w X c σ O LS)(hO:Rows X c σ O LS):∀ {ks:List K} {ps:List (PV I)} {x:a36 I ks} {ls:List Nat} {rows:List (Option Nat)},a7q tb O ks ps=some (x,ls,rows)->(∀ l∈ls,l∈LS) ->
 (∀ l,some l∈rows->l ∉ LS)->∀ {vs:List Value},RVs X c σ ps vs->∃ pls,TKs σ ks x vs pls/\At c rows pls
 | [],[],_,_,_,h,_,_,vs,hv=>by
   cases h
   simp only [RVs] at hv
   exact ⟨[],⟨hv,rfl⟩,rfl⟩
 | [k],[p],x,ls,rows,h,hl,hr,vs,hv=>by
   simp only [RVs] at hv
   obtain ⟨v,r,rfl,h1,rfl⟩:=hv
   obtain ⟨pls,h2,h3⟩:=b5S ht hS hO h hl hr h1
   exact ⟨pls,⟨v,rfl,h2⟩,h3⟩
 | k::k'::ks,p::ps,x,ls,rows,h,hl,hr,vs,hv=>by
   obtain ⟨y,hy,h⟩:=bind_some h
   obtain ⟨z,hz,h⟩:=bind_some h
   cases h
   simp only [RVs] at hv
   obtain ⟨v,r,rfl,h1,h2⟩:=hv
   obtain ⟨p1,a1,a2⟩:=b5S ht hS hO (ls:=y.2.1) (rows:=y.2.2) hy (fun l hm=>hl l (by simp [hm])) (fun l hm=>hr l (by simp [hm])) h1
   obtain ⟨p2,b1,b2⟩:=c2U ht hS hO (ls:=z.2.1) (rows:=z.2.2) hz (fun l hm=>hl l (by simp [hm])) (fun l hm=>hr l (by simp [hm])) h2
   exact ⟨p1++p2,⟨v,r,p1,p2,rfl,rfl,a1,b1⟩,a2.app b2⟩
 | [],_::_,_,_,_,h,_,_,_,_=>by simp [a7q] at h
 | [_],[],_,_,_,h,_,_,_,_=>by simp [a7q] at h
 | [_],_::_::_,_,_,_,h,_,_,_,_=>by simp [a7q] at h
 | _::_::_,[],_,_,_,h,_,_,_,_=>by simp [a7q] at h
theorem b6q (ht:TabOk P tb){LS:List Nat}(hS:a2w X c σ O LS)(hO:Rows X c σ O LS){k:V}{p:PV I}{x:TyV I k}{ls:List Nat}{rows:List (Option Nat)}(h:c0F tb O k p=some (x,ls,rows))(hl:∀ l∈ls,l∈LS)
 (hr:∀ l,some l∈rows->l ∉ LS) {v:Value} (hv:RV X c σ p v):∃ pls,TV σ k x v pls/\At c rows pls:=by
 unfold c0F at h
 split at h
 ·exact b5S ht hS hO h hl hr hv
 ·obtain ⟨hnd,h1⟩:=j8 h
  obtain ⟨ls',hls,h2⟩:=bind_some h1
  simp only [RV] at hv
  obtain ⟨cs,rfl,hcs⟩:=hv
  obtain ⟨pls,h1,h2⟩:=c2U ht hS hO h2 hl hr (b2t ht hls hcs)
  exact ⟨pls,⟨hnd,cs,rfl,h1⟩,h2⟩
 ·obtain ⟨hnd,h1⟩:=j8 h
  obtain ⟨ls',hls,h2⟩:=bind_some h1
  simp only [RV] at hv
  obtain ⟨cs,rfl,hcs⟩:=hv
  obtain ⟨pls,h1,h2⟩:=c2U ht hS hO h2 hl hr (b2t ht hls (RG.one hcs))
  exact ⟨pls,⟨hnd,cs,rfl,h1⟩,h2⟩
 ·cases h
theorem b2k (ht:TabOk P tb){LS:List Nat}(hS:a2w X c σ O LS)(hO:Rows X c σ O LS):∀ {ks:List V} {ps:List (PV I)} {x:TyT I ks} {ls:List Nat} {rows:List (Option Nat)},a3D tb O ks ps=some (x,ls,rows)->(∀ l∈ls,l∈LS) ->
 (∀ l,some l∈rows->l ∉ LS)->∀ {vs:List Value},RVs X c σ ps vs->∃ pls,TT σ ks x vs pls/\At c rows pls
 | [],[],_,_,_,h,_,_,vs,hv=>by
   cases h
   simp only [RVs] at hv
   exact ⟨[],⟨hv,rfl⟩,rfl⟩
 | [k],[p],x,ls,rows,h,hl,hr,vs,hv=>by
   simp only [RVs] at hv
   obtain ⟨v,r,rfl,h1,rfl⟩:=hv
   obtain ⟨pls,h2,h3⟩:=b6q ht hS hO h hl hr h1
   exact ⟨pls,⟨v,rfl,h2⟩,h3⟩
 | k::k'::ks,p::ps,x,ls,rows,h,hl,hr,vs,hv=>by
   obtain ⟨y,hy,h⟩:=bind_some h
   obtain ⟨z,hz,h⟩:=bind_some h
   cases h
   simp only [RVs] at hv
   obtain ⟨v,r,rfl,h1,h2⟩:=hv
   obtain ⟨p1,a1,a2⟩:=b6q ht hS hO (ls:=y.2.1) (rows:=y.2.2) hy (fun l hm=>hl l (by simp [hm])) (fun l hm=>hr l (by simp [hm])) h1
   obtain ⟨p2,b1,b2⟩:=b2k ht hS hO (ls:=z.2.1) (rows:=z.2.2) hz (fun l hm=>hl l (by simp [hm])) (fun l hm=>hr l (by simp [hm])) h2
   exact ⟨p1++p2,⟨v,r,p1,p2,rfl,rfl,a1,b1⟩,a2.app b2⟩
 | [],_::_,_,_,_,h,_,_,_,_=>by simp [a3D] at h
 | [_],[],_,_,_,h,_,_,_,_=>by simp [a3D] at h
 | [_],_::_::_,_,_,_,h,_,_,_,_=>by simp [a3D] at h
 | _::_::_,[],_,_,_,h,_,_,_,_=>by simp [a3D] at h
def Num (c:Cx)(nb:Nat)(pls:List Pl):Prop:=∀ i pl,pls[i]?=some pl->c (nb+i)=some pl
theorem Num.left {nb:Nat}{p1 p2:List Pl}(h:Num c nb (p1++p2)):Num c nb p1:=fun i pl hi=>h i pl (by rw [d8H (d8o.1 hi).1]; exact hi)
theorem Num.right {nb:Nat}{p1 p2:List Pl}(h:Num c nb (p1++p2)):Num c (nb+p1.length) p2:=fun i pl hi=>by
 rw [d9j]
 refine h _ pl ?_
 rw [d8z (by omega)]
 simpa using hi
theorem a97 (ht:TabOk P tb):∀ {k:Kd} {x:Ty I k} {v:Value},DV σ k x v->RV X c σ (a7B tb k x) v
 | .int _,_,_,h=>by simpa only [a7B,RV,DV] using h
 | .bool,_,_,h=>by simpa only [a7B,RV,DV] using h
 | .str,_,_,h=>by simpa only [a7B,RV,DV] using h
 | .sl _,_,_,⟨A,k,e,h⟩=>by
   simp only [a7B,RV]
   exact ⟨A,k,e,h,fun e=>by cases e⟩
 | .dat _,_,_,⟨cs,e,h⟩=>by
   simp only [a7B,RV]
   exact ⟨cs,e,h⟩
 | .any,_,_,_=>by simp only [a7B,RV]
theorem c8L (ht:TabOk P tb):∀ {k:K} {x:TyK I k} {v:Value} {pls:List Pl} {nb:Nat},TK σ k x v pls->Num c nb pls->RV X c σ (pvK tb nb k x) v/\pls.length=cnK k
 | .d _,_,_,_,_,⟨h,e⟩,_=>⟨a97 ht h,by rw [e]; rfl⟩
 | .row _ _,_,_,_,_,⟨A,k,ow,e,e2,_⟩,hn=>by
   subst e2
   have:=hn 0 _ rfl
   simp only [pvK,RV]
   exact ⟨⟨_,this,e⟩,rfl⟩
 | .map _ _,_,_,_,_,⟨b,e,e2,_⟩,hn=>by
   subst e2
   have:=hn 0 _ rfl
   simp only [pvK,RV]
   exact ⟨⟨b,_,this,e⟩,rfl⟩
 | .pv _,_,_,_,_,⟨b,cs,e,e2,_⟩,hn=>by
   subst e2
   have:=hn 0 _ rfl
   simp only [pvK,RV]
   exact ⟨⟨b,_,this,e⟩,rfl⟩
theorem d0r (ht:TabOk P tb):∀ {ks:List K} {x:a36 I ks} {vs:List Value} {pls:List Pl} {nb:Nat},TKs σ ks x vs pls->Num c nb pls->RVs X c σ (a83 tb nb ks x) vs/\pls.length=a6X ks
 | [],_,_,_,_,⟨h,e⟩,_=>⟨by simpa only [a83,RVs] using h,by rw [e]; rfl⟩
 | [_],_,_,_,_,⟨v,e,h⟩,hn=>by
   obtain ⟨h1,h2⟩:=c8L (X:=X) ht h hn
   simp only [a83,RVs]
   exact ⟨⟨v,[],e,h1,rfl⟩,h2⟩
 | k::k'::ks,q,_,_,nb,⟨v,r,p1,p2,e1,e2,h1,h2⟩,hn=>by
   subst e2
   obtain ⟨a1,a2⟩:=c8L (X:=X) ht h1 hn.left
   obtain ⟨b1,b2⟩:=d0r (ks:=k'::ks) (x:=q.2) (nb:=nb+cnK k) ht h2 (by rw [<- a2]; exact hn.right)
   simp only [a83,RVs]
   exact ⟨⟨v,r,e1,a1,b1⟩,by rw [d8t,a2,b2]; rfl⟩
omit [∀ E,Rp (I E)] in
theorem c2z:∀ {ks:List K} (nb:Nat) (q:a36 I ks),b4l ks=true->(a83 tb nb ks q).all (fun p=>!(a6H p))=true
 | [],_,_,_=>rfl
 | [k],nb,q,h=>by
   cases k with
   | d k=>cases k<;>first | rfl | cases h
   | row E fl=>rfl
   | map T kd=>rfl
   | pv T=>rfl
 | k::k'::ks,nb,q,h=>by
   have ih:=fun h'=>c2z (ks:=k'::ks) (nb+cnK k) q.2 h'
   simp only [a83,d9v,d8p]
   cases k with
   | d k=>cases k<;>first | exact ⟨rfl,ih h⟩ | cases h
   | row E fl=>exact ⟨rfl,ih h⟩
   | map T kd=>exact ⟨rfl,ih h⟩
   | pv T=>exact ⟨rfl,ih h⟩
theorem b5U (ht:TabOk P tb):∀ {k:V} {x:TyV I k} {v:Value} {pls:List Pl} {nb:Nat},TV σ k x v pls->Num c nb pls->RV X c σ (pvV tb nb k x) v/\pls.length=cnV k
 | .k _,_,_,_,_,h,hn=>c8L ht h hn
 | .lvs _,_,_,_,_,⟨h0,cs,e,h⟩,hn=>by
   obtain ⟨h1,h2⟩:=d0r (X:=X) ht h hn
   simp only [pvV,RV]
   exact ⟨⟨cs,e,RVs.g h1 (c2z _ _ h0)⟩,h2⟩
theorem b6l (ht:TabOk P tb):∀ {ks:List V} {x:TyT I ks} {vs:List Value} {pls:List Pl} {nb:Nat},TT σ ks x vs pls->Num c nb pls->RVs X c σ (pvT tb nb ks x) vs/\pls.length=cnT ks
 | [],_,_,_,_,⟨h,e⟩,_=>⟨by simpa only [pvT,RVs] using h,by rw [e]; rfl⟩
 | [_],_,_,_,_,⟨v,e,h⟩,hn=>by
   obtain ⟨h1,h2⟩:=b5U (X:=X) ht h hn
   simp only [pvT,RVs]
   exact ⟨⟨v,[],e,h1,rfl⟩,h2⟩
 | k::k'::ks,q,_,_,nb,⟨v,r,p1,p2,e1,e2,h1,h2⟩,hn=>by
   subst e2
   obtain ⟨a1,a2⟩:=b5U (X:=X) ht h1 hn.left
   obtain ⟨b1,b2⟩:=b6l (ks:=k'::ks) (x:=q.2) (nb:=nb+cnV k) ht h2 (by rw [<- a2]; exact hn.right)
   simp only [pvT,RVs]
   exact ⟨⟨v,r,e1,a1,b1⟩,by rw [d8t,a2,b2]; rfl⟩
def a4o (σ:S)(os:List (Ob I))(pls:List Pl):Prop:=os.length=pls.length/\∀ (i:Nat) (o:Ob I) (pl:Pl),os[i]?=some o->pls[i]?=some pl->a9U (some o)=true/\∀ (X:Cxt) (c:Cx) (l:Nat),c l=some pl->X6 X c σ l o
theorem a4o.nil (σ:S):a4o σ ([]:List (Ob I)) []:=⟨rfl,fun i o pl h=>by simp at h⟩
theorem a4o.app {o1 o2:List (Ob I)}{p1 p2:List Pl}(h1:a4o σ o1 p1)(h2:a4o σ o2 p2):a4o σ (o1++o2) (p1++p2):=by
 refine ⟨by simp [h1.1,h2.1],fun i o pl hi hp=>?_⟩
 by_cases hlt:i<o1.length
 ·rw [d8H hlt] at hi
  rw [d8H (by rw [<- h1.1]; exact hlt)] at hp
  exact h1.2 i o pl hi hp
 ·rw [d8z (by omega)] at hi
  rw [d8z (by rw [<- h1.1]; omega),<- h1.1] at hp
  exact h2.2 _ o pl hi hp
theorem c87:∀ {k:K} {x:TyK I k} {v:Value} {pls:List Pl},TK σ k x v pls->a4o σ (obK k x) pls
 | .d _,_,_,_,⟨_,e⟩=>by subst e; exact a4o.nil σ
 | .row E fl,xs,_,_,⟨A,k,ow,e,e2,h⟩=>by
   subst e2
   refine ⟨rfl,fun i o pl hi hp=>?_⟩
   cases i with
   | zero =>
     simp [obK] at hi hp
     subst hi
     subst hp
     exact ⟨rfl,fun X c l hc=>⟨A,k,ow,hc,h⟩⟩
   | succ i=>simp [obK] at hi
 | .map T kd,m,_,_,⟨b,e,e2,h⟩=>by
   subst e2
   refine ⟨rfl,fun i o pl hi hp=>?_⟩
   cases i with
   | zero =>
     simp [obK] at hi hp
     subst hi
     subst hp
     exact ⟨rfl,fun X c l hc=>⟨b,hc,h⟩⟩
   | succ i=>simp [obK] at hi
 | .pv T,x,_,_,⟨b,cs,e,e2,h1,h2,h3⟩=>by
   subst e2
   refine ⟨rfl,fun i o pl hi hp=>?_⟩
   cases i with
   | zero =>
     simp [obK] at hi hp
     subst hi
     subst hp
     exact ⟨rfl,fun X c l hc=>⟨b,cs,hc,RG.one h1,h2,fun _=>h3,fun e=>by cases e⟩⟩
   | succ i=>simp [obK] at hi
theorem d0g:∀ {ks:List K} {x:a36 I ks} {vs:List Value} {pls:List Pl},TKs σ ks x vs pls->a4o σ (c5z ks x) pls
 | [],_,_,_,⟨_,e⟩=>by subst e; exact a4o.nil σ
 | [_],_,_,_,⟨_,_,h⟩=>c87 h
 | _::k'::ks,q,_,_,⟨v,r,p1,p2,e1,e2,h1,h2⟩=>by
   subst e2
   exact (c87 h1).app (d0g (ks:=k'::ks) (x:=q.2) h2)
theorem c4b:∀ {k:V} {x:TyV I k} {v:Value} {pls:List Pl},TV σ k x v pls->a4o σ (obV k x) pls
 | .k _,_,_,_,h=>c87 h
 | .lvs _,_,_,_,⟨_,_,_,h⟩=>d0g h
theorem a84:∀ {ks:List V} {x:TyT I ks} {vs:List Value} {pls:List Pl},TT σ ks x vs pls->a4o σ (obT ks x) pls
 | [],_,_,_,⟨_,e⟩=>by subst e; exact a4o.nil σ
 | [_],_,_,_,⟨_,_,h⟩=>c4b h
 | _::k'::ks,q,_,_,⟨v,r,p1,p2,e1,e2,h1,h2⟩=>by
   subst e2
   exact (c4b h1).app (a84 (ks:=k'::ks) (x:=q.2) h2)
def a0d (O:Obs I):Nat->List (Ob I)->Obs I
 | _,[]=>O
 | nb,o::os=>a0d (upF O nb (some o)) (nb+1) os
def addN (s:St I)(nb:Nat)(os:List (Ob I)):St I:=⟨s.n,s.F,a0d s.O nb os,s.nx⟩
def a2A (O:Obs I):Nat->List (Ob I)->Bool
 | _,[]=>true
 | nb,_::os=>(O nb).isNone&&a2A O (nb+1) os
omit [∀ E,Rp (I E)] in
theorem c6e {O:Obs I}{l:Nat}{o:Option (Ob I)}:∀ {os:List (Ob I)} {nb:Nat},l<nb->a2A O nb os=true->a2A (upF O l o) nb os=true
 | [],_,_,_=>rfl
 | _::os,nb,hl,h=>by
   simp only [a2A,d8p] at h ⊢
   exact ⟨by rw [J2 (by omega)]; exact h.1,c6e (by omega) h.2⟩
def V6 (c:Cx):Nat->List Pl->Cx
 | _,[]=>c
 | nb,p::ps=>V6 (a0D c nb p) (nb+1) ps
theorem c6h:∀ {ps:List Pl} {c:Cx} {nb l:Nat},l<nb->V6 c nb ps l=c l
 | [],_,_,_,_=>rfl
 | p::ps,c,nb,l,h=>by
   simp only [V6]
   rw [c6h (by omega)]
   simp [a0D,Nat.ne_of_lt h]
theorem a1c:∀ {ps:List Pl} {c:Cx} {nb:Nat},Num (V6 c nb ps) nb ps
 | [],_,_,_,_,h=>by simp at h
 | p::ps,c,nb,0,pl,h=>by
   simp at h
   subst h
   simp only [V6,d9h]
   rw [c6h (by omega),Q5]
 | p::ps,c,nb,i+1,pl,h=>by
   simp only [V6]
   rw [show nb+(i+1)=nb+1+i from by omega]
   exact a1c i pl (by simpa using h)
theorem a4o.not {os:List (Ob I)}{pls:List Pl}(h:a4o σ os pls):∀ o∈os,a9U (some o)=true:=fun o ho=>by
 obtain ⟨i,hi,e⟩:=d9b ho
 have hp:i<pls.length:=by rw [<- h.1]; exact hi
 exact (h.2 i o pls[i] (by rw [d8n hi,e]) (d8n hp)).1
omit [∀ E,Rp (I E)] in
theorem a40:∀ {os:List (Ob I)} {O:Obs I} {nb:Nat},(∀ o∈os,a9U (some o)=true)->∀ l E E' u xs q,a0d O nb os l=some (some (.nst E E' u xs q))->O l=some (some (.nst E E' u xs q))
 | [],_,_,_,_,_,_,_,_,_,h=>h
 | o::os,O,nb,hn,l,E,E',u,xs,q,h=>by
   have h1:=a40 (os:=os) (fun o ho=>hn o (by simp [ho])) l E E' u xs q h
   rcases Z2 h1 with ⟨_,e⟩ | ⟨_,h2⟩
   ·exact absurd e.symm (a96 (hn o (by simp)))
   ·exact h2
theorem notIn.add {n:Nat}{F:Fr}{s:St I}{c:Cx}{nb g:Nat}{o:Ob I}{p:Pl}(h:Rel X c σ s n F)(hn:a9U (some o)=true)(hg:notIn c σ s g)(hnb:s.O nb=none):notIn (a0D c nb p) σ (Y5 s nb (some o)) g:=by
 intro l i hb
 obtain ⟨E',v,⟨E,u,xs,q,g',kk,m,w,k1,k2,k3⟩,k4⟩:=hb
 rcases Z2 k1 with ⟨_,e'⟩ | ⟨_,h2⟩
 ·exact absurd e'.symm (a96 hn)
 ·refine hg l i ⟨E',v,⟨E,u,xs,q,g',kk,m,w,h2,?_,k3⟩,k4⟩
  obtain ⟨p2,e2⟩:=(h.objs l _ h2).place
  have:=(b2h (p:=p) (h.nom nb hnb)) _ _ e2
  rw [k2] at this
  cases this; exact e2
def a4E (X:Cxt)(σ:S)(os:List (Ob I))(pls:List Pl):Prop:=os.length=pls.length/\∀ (i:Nat) (o:Ob I) (pl:Pl),os[i]?=some o->pls[i]?=some pl->a9U (some o)=true/\∀ (c:Cx) (l:Nat),c l=some pl->X6 X c σ l o
theorem a4o.x {os:List (Ob I)}{pls:List Pl}(h:a4o σ os pls):a4E X σ os pls:=⟨h.1,fun i o pl a b=>⟨(h.2 i o pl a b).1,(h.2 i o pl a b).2 X⟩⟩
theorem a4E.not {os:List (Ob I)}{pls:List Pl}(h:a4E X σ os pls):∀ o∈os,a9U (some o)=true:=fun o ho=>by
 obtain ⟨i,hi,e⟩:=d9b ho
 have hp:i<pls.length:=by rw [<- h.1]; exact hi
 exact (h.2 i o pls[i] (by rw [d8n hi,e]) (d8n hp)).1
theorem a4E.nil (X:Cxt)(σ:S):a4E X σ ([]:List (Ob I)) []:=⟨rfl,fun i o pl h=>by simp at h⟩
theorem a4E.app {o1 o2:List (Ob I)}{p1 p2:List Pl}(h1:a4E X σ o1 p1)(h2:a4E X σ o2 p2):a4E X σ (o1++o2) (p1++p2):=by
 refine ⟨by simp [h1.1,h2.1],fun i o pl hi hp=>?_⟩
 by_cases hlt:i<o1.length
 ·rw [d8H hlt] at hi
  rw [d8H (by rw [<- h1.1]; exact hlt)] at hp
  exact h1.2 i o pl hi hp
 ·rw [d8z (by omega)] at hi
  rw [d8z (by rw [<- h1.1]; omega),<- h1.1] at hp
  exact h2.2 _ o pl hi hp
def LK (M:Nat->Prop)(σ:S):(k:K)->TyK I k->Value->List Pl->Prop
 | .d k,x,v,pls=>DV σ k x v/\pls=[]
 | .map _ kd,m,v,pls=>∃ b,v=.map (some b)/\pls=[⟨some ⟨b,0,none⟩,0,0,none⟩]/\a8I σ kd m b/\¬ M b
 | _,_,_,_=>False
def LKs (M:Nat->Prop)(σ:S):(ks:List K)->a36 I ks->List Value->List Pl->Prop
 | [],_,vs,pls=>vs=[]/\pls=[]
 | [k],x,vs,pls=>∃ v,vs=[v]/\LK M σ k x v pls
 | k::k'::ks,q,vs,pls=>∃ v r p1 p2,vs=v::r/\pls=p1++p2/\LK M σ k q.1 v p1/\LKs M σ (k'::ks) q.2 r p2
def d3R:Ob I->Ob I
 | .map T kd m=>.rom T kd m
 | o=>o
def b9v (ks:List K)(x:a36 I ks):List (Ob I):=(c5z ks x).map d3R
theorem LK.ows {M:Nat->Prop}:∀ {k:K} {x:TyK I k} {v:Value} {pls:List Pl},LK M σ k x v pls->ows pls=[]
 | .d _,_,_,_,⟨_,e⟩=>by subst e; rfl
 | .map _ _,_,_,_,⟨b,_,e,_⟩=>by subst e; rfl
 | .row _ _,_,_,_,h=>h.elim
 | .pv _,_,_,_,h=>h.elim
theorem LKs.ows {M:Nat->Prop}:∀ {ks:List K} {x:a36 I ks} {vs:List Value} {pls:List Pl},LKs M σ ks x vs pls->ows pls=[]
 | [],_,_,_,⟨_,e⟩=>by subst e; rfl
 | [_],_,_,_,⟨_,_,h⟩=>LK.ows h
 | _::k'::ks,q,_,_,⟨v,r,p1,p2,e1,e2,h1,h2⟩=>by
   subst e2
   rw [a0w,LK.ows h1,LKs.ows (ks:=k'::ks) (x:=q.2) h2]
   rfl
theorem c92 (ht:TabOk P tb){M:Nat->Prop}:∀ {k:K} {x:TyK I k} {v:Value} {pls:List Pl} {nb:Nat},LK M σ k x v pls->Num c nb pls->RV X c σ (pvK tb nb k x) v/\pls.length=cnK k
 | .d _,_,_,_,_,⟨h,e⟩,_=>⟨a97 ht h,by rw [e]; rfl⟩
 | .map _ _,_,_,_,_,⟨b,e,e2,_⟩,hn=>by
   subst e2
   have:=hn 0 _ rfl
   simp only [pvK,RV]
   exact ⟨⟨b,_,this,e⟩,rfl⟩
 | .row _ _,_,_,_,_,h,_=>h.elim
 | .pv _,_,_,_,_,h,_=>h.elim
theorem c2q (ht:TabOk P tb){M:Nat->Prop}:∀ {ks:List K} {x:a36 I ks} {vs:List Value} {pls:List Pl} {nb:Nat},LKs M σ ks x vs pls->Num c nb pls->RVs X c σ (a83 tb nb ks x) vs/\pls.length=a6X ks
 | [],_,_,_,_,⟨h,e⟩,_=>⟨by simpa only [a83,RVs] using h,by rw [e]; rfl⟩
 | [_],_,_,_,_,⟨v,e,h⟩,hn=>by
   obtain ⟨h1,h2⟩:=c92 (X:=X) ht h hn
   simp only [a83,RVs]
   exact ⟨⟨v,[],e,h1,rfl⟩,h2⟩
 | k::k'::ks,q,_,_,nb,⟨v,r,p1,p2,e1,e2,h1,h2⟩,hn=>by
   subst e2
   obtain ⟨a1,a2⟩:=c92 (X:=X) ht h1 hn.left
   obtain ⟨b1,b2⟩:=c2q (ks:=k'::ks) (x:=q.2) (nb:=nb+cnK k) ht h2 (by rw [<- a2]; exact hn.right)
   simp only [a83,RVs]
   exact ⟨⟨v,r,e1,a1,b1⟩,by rw [d8t,a2,b2]; rfl⟩
theorem c95 {M:Nat->Prop}(hM:∀ b,X.M b->M b):∀ {k:K} {x:TyK I k} {v:Value} {pls:List Pl},LK M σ k x v pls->a4E X σ ((obK k x).map d3R) pls
 | .d _,_,_,_,⟨_,e⟩=>by subst e; exact a4E.nil X σ
 | .map T kd,m,_,_,⟨b,e,e2,h,hn⟩=>by
   subst e2
   refine ⟨rfl,fun i o pl hi hp=>?_⟩
   cases i with
   | zero =>
     simp [obK,d3R] at hi hp
     subst hi
     subst hp
     exact ⟨rfl,fun c l hc=>⟨b,hc,h,fun hb=>hn (hM b hb)⟩⟩
   | succ i=>simp [obK] at hi
 | .row _ _,_,_,_,h=>h.elim
 | .pv _,_,_,_,h=>h.elim
theorem c7L {M:Nat->Prop}(hM:∀ b,X.M b->M b):∀ {ks:List K} {x:a36 I ks} {vs:List Value} {pls:List Pl},LKs M σ ks x vs pls->a4E X σ (b9v ks x) pls
 | [],_,_,_,⟨_,e⟩=>by subst e; exact a4E.nil X σ
 | [_],_,_,_,⟨_,_,h⟩=>c95 hM h
 | _::k'::ks,q,_,_,⟨v,r,p1,p2,e1,e2,h1,h2⟩=>by
   subst e2
   have:=(c95 (X:=X) hM h1).app (c7L (ks:=k'::ks) (x:=q.2) hM h2)
   unfold b9v at this ⊢
   rw [<- d9S] at this
   exact this
theorem Rel.addNX {n:Nat}{F:Fr}:∀ {os:List (Ob I)} {pls:List Pl} {c:Cx} {s:St I} {nb:Nat},Rel X c σ s n F->a2A s.O nb os=true->a4E X σ os pls->(ows pls).Nodup ->
 (∀ g∈ows pls,X.M g/\notIn c σ s g/\∀ l' p',Y7 s l'->c l'=some p'->p'.w≠some g)->Cx.le c (V6 c nb pls)/\Rel X (V6 c nb pls) σ (Qx.addN s nb os) n F
 | [],[],c,s,nb,h,_,_,_,_=>⟨Cx.le_refl c,h⟩
 | [],_::_,_,_,_,_,_,ho,_,_=>by have:=ho.1; simp at this
 | _::_,[],_,_,_,_,_,ho,_,_=>by have:=ho.1; simp at this
 | o::os,p::pls,c,s,nb,h,hf,ho,hd,hg=>by
   simp only [a2A,d8p] at hf
   have hnb:s.O nb=none:=by simpa using hf.1
   have hob:X6 X (a0D c nb p) σ nb o:=(ho.2 0 o p rfl rfl).2 _ _ (Q5 _ _ _)
   obtain ⟨h1,h2⟩:=h.add (o:=o) (p:=p) hnb (fun g hw=>hg g (by simp [ows,hw])) hob (ho.2 0 o p rfl rfl).1
   have hd':(ows pls).Nodup:=by
    simp only [ows,d8X] at hd ⊢
    cases hw:p.w with
    | none=>rw [hw] at hd; exact hd
    | some g=>rw [hw] at hd; exact (d9T.1 hd).2
   obtain ⟨h3,h4⟩:=Rel.addNX (s:=Y5 s nb (some o)) (nb:=nb+1) (pls:=pls) (os:=os) h2 (c6e (by omega) hf.2) ⟨by simpa using ho.1,fun i o' pl hi hp=>ho.2 (i+1) o' pl (by simpa using hi) (by simpa using hp)⟩ hd' (fun g hm=>⟨(hg g (by simp only [ows,d8X] at hm ⊢; cases p.w<;>simp [hm])).1,notIn.add h (ho.2 0 o p rfl rfl).1 (hg g (by simp only [ows,d8X] at hm ⊢; cases p.w<;>simp [hm])).2.1 hnb,fun l' p' hl' hc' hw=>by
    by_cases e:l'=nb
    ·subst e
     rw [Q5] at hc'
     cases hc'
     simp only [ows,d8X,hw] at hd
     exact (d9T.1 hd).1 hm
    ·have hl2:Y7 s l':=by
      obtain ⟨o',h'⟩:=hl'
      rcases Z2 h' with ⟨e',_⟩ | ⟨_,h⟩
      ·exact absurd e' e
      ·exact ⟨o',h⟩
     simp only [a0D,if_neg e] at hc'
     exact (hg g (by simp only [ows,d8X] at hm ⊢; cases p.w<;>simp [hm])).2.2 l' p' hl2 hc' hw⟩)
   exact ⟨Cx.le_trans h1 h3,h4⟩
theorem Rel.addN {n:Nat}{F:Fr}{os:List (Ob I)}{pls:List Pl}{c:Cx}{s:St I}{nb:Nat}(h:Rel X c σ s n F)(hf:a2A s.O nb os=true)(ho:a4o σ os pls)(hd:(ows pls).Nodup)
 (hg:∀ g∈ows pls,X.M g/\notIn c σ s g/\∀ l' p',Y7 s l'->c l'=some p'->p'.w≠some g):Cx.le c (V6 c nb pls)/\Rel X (V6 c nb pls) σ (Qx.addN s nb os) n F:=Rel.addNX h hf ho.x hd hg
end
end Go.Qx
end
section
open Array renaming getElem?_toList->d8F
open List renaming cons_append->d80,ext_getElem?->d9O,getElem?_eq_some_iff->d8o,set_cons_succ->e0j,set_cons_zero->e0i
open Nat renaming beq->d8u,le_refl->d8r,zero_add->d8Q
open Option renaming getD_some->d9u,map_some->d85
namespace Go.Qx
open Go Go.RowKit Go.Sx
def a29 {α:Type}:List (ByteArray×α)->ByteArray->Option α
 | [],_=>none
 | x::m,s=>bif s==x.1 then some x.2 else a29 m s
def a5j {α:Type}:List (ByteArray×α)->ByteArray->α->List (ByteArray×α)
 | [],s,v=>[(s,v)]
 | x::m,s,v=>bif s==x.1 then (s,v)::m else x::a5j m s v
section
variable {I:TypeId->Type} [∀ E,Rp (I E)] {P:Program}{σ:S}
theorem a9g.find {kd:Kd}{s:ByteArray}:∀ {es:List MapEntry} {m:List (ByteArray×Ty I kd)} (i:Nat),a9g σ kd es m ->
 (a29 m s=none/\Instr.findNow .string (.string s) es i=some none/\∀ (x:Ty I kd) (v:Value) (k:Nat),DV σ kd x v->a9g σ kd (es++[⟨.string s,v,k⟩]) (a5j m s x)) \/
 ∃ y j e,a29 m s=some y/\Instr.findNow .string (.string s) es i=some (some (i+j,e.val))/\es[j]?=some e/\e.key=.string s/\DV σ kd y e.val/\∀ (x:Ty I kd) (v:Value) (k:Nat),DV σ kd x v->a9g σ kd (es.set j ⟨.string s,v,k⟩) (a5j m s x)
 | [],[],i,_=>.inl ⟨rfl,rfl,fun x v k hv=>⟨rfl,hv,trivial⟩⟩
 | [],_::_,_,h=>h.elim
 | _::_,[],_,h=>h.elim
 | e::es,x::m,i,⟨h1,h2,h3⟩=>by
   have hs:Instr.sameNow .string (.string s) e.key=some (s==x.1):=by rw [h1]; rfl
   cases hb:s==x.1 with
   | true =>
     have e1:s=x.1:=(MapKept.bytes_beq s x.1).1 hb
     refine .inr ⟨x.2,0,e,by simp only [a29,hb,cond_true],by rw [hb] at hs; simp only [Instr.findNow,hs]; rfl,rfl,by rw [h1,e1],h2,fun y v k hv=>?_⟩
     simp only [a5j,hb,cond_true,e0i]
     exact ⟨rfl,hv,h3⟩
   | false =>
     rcases a9g.find (i+1) h3 with ⟨k1,k2,k3⟩ | ⟨y,j,e',k1,k2,k3,k4,k5,k6⟩
     ·refine .inl ⟨by simp only [a29,hb,cond_false]; exact k1,by rw [hb] at hs; simp only [Instr.findNow,hs]; exact k2,fun y v k hv=>?_⟩
      simp only [a5j,hb,cond_false,d80]
      exact ⟨h1,h2,k3 y v k hv⟩
     ·refine .inr ⟨y,j+1,e',by simp only [a29,hb,cond_false]; exact k1,by rw [hb] at hs; simp only [Instr.findNow,hs,k2]; rw [show i+1+j=i+(j+1) by omega],k3,k4,k5,fun x' v k hv=>?_⟩
      simp only [a5j,hb,cond_false,e0j]
      exact ⟨h1,h2,k6 x' v k hv⟩
variable {ops:Array Oper}{Q:Exit->Act->World->Prop}{n:Nat}{F:Fr}{rest:List Oper}{d:Option Nat}{ty:TypeId}{pos:String}{aft:Array Edge}
theorem d2l {T:TypeId}(h:∀ τ,Ext σ τ->τ.w.heap[σ.N]?=some (.map #[] 0)->wpList P ops Q rest (fr n (J9 F d (.map (some σ.N)))) τ.w) :
 wpList P ops Q (⟨d,.makeMap T none,ty,pos,aft,none⟩::rest) (fr n F) σ.w:=by
 refine J7 rfl (.map (some σ.N)) (σ.w.alloc (.map #[] 0)) ?_ (h ⟨σ.w.alloc (.map #[] 0),fun b=>cond (d8u b σ.N) (0,0) (σ.L b)⟩ (b4x σ _ (0,0)) (heap_alloc_new _ _))
 show Sem.run P (do pure (Next.value (<- Instr.makeMap T none))) σ.w=_
 rw [Sem.run_bind]
 rfl
theorem c8o {T:TypeId}{x y:Operand}{ok:Bool}{w:World}(a b v:Value)(hx:ev F x=a)(hy:ev F y=b)(hkx:Q2 n x=true)(hky:Q2 n y=true)
 (hr:Z7 P w (Instr.lookup T a b ok) v) (h:wpList P ops Q rest (fr n (J9 F d v)) w) :
 wpList P ops Q (⟨d,.lookup T x y ok,ty,pos,aft,none⟩::rest) (fr n F) w :=
 J7 rfl v w (by show Sem.run P (do pure (Next.value (<- Instr.lookup T ((fr n F).eval x) ((fr n F).eval y) ok))) w=_; rw [w8 hkx,w8 hky,hx,hy,Sem.run_bind,hr]; rfl) h
theorem c9K {T:TypeId}{x y z:Operand}{w w':World}(a b v:Value)(hx:ev F x=a)(hy:ev F y=b)(hz:ev F z=v)(hkx:Q2 n x=true)(hky:Q2 n y=true)(hkz:Q2 n z=true)
 (hr:(Instr.mapUpdate T a b v).run P w=.ok () w') (h:wpList P ops Q rest (fr n (J9 F d undef)) w') :
 wpList P ops Q (⟨d,.mapUpdate T x y z,ty,pos,aft,none⟩::rest) (fr n F) w :=
 b6w rfl w' (by show Sem.run P (do Instr.mapUpdate T ((fr n F).eval x) ((fr n F).eval y) ((fr n F).eval z); pure Next.skip) w=_; rw [w8 hkx,w8 hky,w8 hkz,hx,hy,hz,Sem.run_bind,hr]; rfl) h
theorem d3g {T:TypeId}{x y z:Operand}{w w':World}(a b v:Value)(hx:ev F x=a)(hy:ev F y=b)(hz:ev F z=v)(hkx:Q2 n x=true)(hky:Q2 n y=true)(hkz:Q2 n z=true)
 (hr:(Instr.mapUpdate T a b v).run P w=.ok () w') (h:wpList P ops Q rest (fr n (J9 F d undef)) w') :
 wpList P ops Q (⟨d,.insert T x y z,ty,pos,aft,none⟩::rest) (fr n F) w :=
 b6w rfl w' (by show Sem.run P (do Instr.mapUpdate T ((fr n F).eval x) ((fr n F).eval y) ((fr n F).eval z); pure Next.skip) w=_; rw [w8 hkx,w8 hky,w8 hkz,hx,hy,hz,Sem.run_bind,hr]; rfl) h
theorem c3Q {T:TypeId}{kd:Kd}{m:List (ByteArray×Ty I kd)}{b:Nat}{s:ByteArray}{ok:Bool}{z:Ty I kd}(hT:c7h I P T kd)(hz:c4O kd=some z)(h:a8I σ kd m b) :
 ∃ v,Z7 P σ.w (Instr.lookup T (.map (some b)) (.string s) ok) (bif ok then .tuple #[v,.bool (a29 m s).isSome] else v)/\DV σ kd ((a29 m s).getD z) v:=by
 obtain ⟨K,E,z0,sz,by_,h1,h2,⟨ie,h3,h4,_,_⟩,h5⟩:=hT
 obtain ⟨es,clock,h6,h7⟩:=h
 have hc:∀ e,(Instr.checkKey e 10000 K (.string s)).run P σ.w=.ok () σ.w:=fun e=>MapKept.run_checkKey (k:=.string s) h2 (by simp [MapKept.IsKey]) e 9999
 rcases a9g.find (s:=s) 0 h7 with ⟨k1,k2,_⟩ | ⟨y,j,e,k1,k2,k3,k4,k5,_⟩
 ·refine ⟨z0,?_,by rw [k1]; exact h5 z hz σ⟩
  unfold Z7
  simp only [Instr.lookup,Sem.run_bind,run_underlying h1,Result.andThen_ok,MapKept.run_getObj_map h6,Sem.run_pure,hc,MapKept.run_findKey h2 k2,zeroValue,typeInfo,run_program,h3,h4,k1]
  cases ok<;>rfl
 ·refine ⟨e.val,?_,by rw [k1]; exact k5⟩
  unfold Z7
  simp only [Instr.lookup,Sem.run_bind,run_underlying h1,Result.andThen_ok,MapKept.run_getObj_map h6,Sem.run_pure,hc,MapKept.run_findKey h2 k2,k1]
  cases ok<;>rfl
theorem c30 {T:TypeId}{kd:Kd}{m:List (ByteArray×Ty I kd)}{b:Nat}{s:ByteArray}{x:Ty I kd}{v:Value}(hT:c7h I P T kd)(h:a8I σ kd m b)(hv:DV σ kd x v) :
 ∃ τ,(Instr.mapUpdate T (.map (some b)) (.string s) v).run P σ.w=.ok () τ.w/\Stp (fun g=>g=b) σ τ/\a8I τ kd (a5j m s x) b:=by
 obtain ⟨K,E,z0,sz,by_,h1,h2,_,_⟩:=hT
 have hblt:=h.lt
 obtain ⟨es,clock,h6,h7⟩:=h
 have hc:(Instr.checkKey false 10000 K (.string s)).run P σ.w=.ok () σ.w:=MapKept.run_checkKey (k:=.string s) h2 (by simp [MapKept.IsKey]) false 9999
 have hstp:∀ o:Obj,(∃ es' c',o=.map es' c')->Stp (fun g=>g=b) σ ⟨{ σ.w with heap:=σ.w.heap.setIfInBounds b o },σ.L⟩:=fun o ⟨es',c',ho⟩=>by
  obtain ⟨s1,s2⟩:=MapKept.heap_set (w:=σ.w) (o':=o) h6
  refine ⟨⟨by simp [S.N],fun _ _=>d8r _,fun b' o' v' hlt hcell=>?_,d8r _,fun b' o' _ hf=>?_⟩,rfl,rfl,rfl,fun b' _ hn=>⟨s2 b' hn,rfl⟩⟩
  rotate_left
  ·by_cases e:b'=b
   ·subst e
    subst ho
    show World.frozen? ({ σ.w with heap:=σ.w.heap.setIfInBounds b' _ }:World) _=false
    unfold World.frozen?
    rw [s1]
   ·exact (a2l (s2 b' e) o').trans hf
  by_cases e:b'=b
  ·subst e
   simp [World.cell?,h6] at hcell
  ·unfold World.cell? at hcell ⊢
   rw [show ({ σ.w with heap:=σ.w.heap.setIfInBounds b o }:World).heap[b']?=σ.w.heap[b']? from s2 b' e]
   exact hcell
 have hbb:(s==s)=true:=(MapKept.bytes_beq s s).2 rfl
 rcases a9g.find (s:=s) 0 h7 with ⟨k1,k2,k3⟩ | ⟨y,j,e,k1,k2,k3,k4,k5,k6⟩
 ·refine ⟨⟨{ σ.w with heap:=σ.w.heap.setIfInBounds b (.map (es.push ⟨.string s,v,clock⟩) (clock+1)) },σ.L⟩,?_,hstp _ ⟨_,_,rfl⟩,es.push ⟨.string s,v,clock⟩,clock+1,(MapKept.heap_set h6).1,?_⟩
  ·simp only [Instr.mapUpdate,Sem.run_bind,run_underlying h1,Result.andThen_ok,MapKept.run_getObj_map h6,hc,MapKept.run_findKey h2 k2,MapKept.run_setObj_map _ h6]
  ·rw [Array.toList_push]
   exact (k3 x v clock hv).mono (hstp (.map (es.push ⟨.string s,v,clock⟩) (clock+1)) ⟨_,_,rfl⟩).wext
 ·have hes:es[j]?=some e:=by rw [<- d8F]; exact k3
  refine ⟨⟨{ σ.w with heap:=σ.w.heap.setIfInBounds b (.map (es.modify j fun e=>{ e with key:=.string s,val:=v }) clock) },σ.L⟩,?_,hstp _ ⟨_,_,rfl⟩,_,clock,(MapKept.heap_set h6).1,?_⟩
  ·rw [d8Q] at k2
   have hst:(Instr.keyThatStays (((es[j]?).map (·.key)).getD (.string s)) (.string s)).run P σ.w=.ok (.string s) σ.w:=by
    rw [hes]
    simp only [d85,d9u,k4,Instr.keyThatStays]
    rw [if_pos (by unfold Instr.sameBits; exact hbb)]
    rfl
   simp only [Instr.mapUpdate,Sem.run_bind,run_underlying h1,Result.andThen_ok,MapKept.run_getObj_map h6,hc,MapKept.run_findKey h2 k2,hst,MapKept.run_setObj_map _ h6]
  ·have hl:(es.modify j fun e=>{ e with key:=.string s,val:=v }).toList=es.toList.set j ⟨.string s,v,e.born⟩:=by
    rw [Array.toList_modify]
    apply d9O
    intro i
    rw [List.getElem?_modify,List.getElem?_set]
    by_cases hi:j=i
    ·subst hi
     have hlt:=(d8o.1 k3).1
     rw [if_pos rfl,if_pos hlt,k3]
     simp
    ·rw [if_neg hi]
     simp [hi]
   rw [hl]
   exact (k6 x v e.born hv).mono (hstp (.map (es.modify j fun e=>{ e with key:=.string s,val:=v }) clock) ⟨_,_,rfl⟩).wext
end
end Go.Qx
end
section
open List renaming all_cons->d9v,append_assoc->d8E,getElem?_append_right->d8z,getElem?_drop->d9e,getElem?_eq_some_iff->d8o,getElem?_take_of_lt->d8K,length_append->d8t,length_drop->d83,length_take->d8G,map_cons->d8O,take_left->d9l
open Nat renaming add_assoc->d9j,beq->d8u,ble->d89,ble_eq_true_of_le->d9F,blt->d8V,eq_of_beq_eq_true->d8s,le_of_ble_eq_true->d8N,le_refl->d8r
open Option renaming bind_assoc->d86,bind_some->d8l,some->d8Y
namespace Go.Qx
open Go Go.RowKit Go.Sx
section
variable {I:TypeId->Type} [∀ E,Rp (I E)]
structure Ef (I:TypeId->Type) where
 p:PV I
 upd:List (Nat×Option (Ob I))
 new:List (Ob I)
def apU (O:Obs I):List (Nat×Option (Ob I))->Obs I
 | []=>O
 | x::r=>apU (upF O x.1 x.2) r
def apE (s:St I)(nb:Nat)(e:Ef I):St I:=⟨s.n,s.F,a0d (apU s.O e.upd) nb e.new,s.nx⟩
abbrev a0f (I:TypeId->Type):=(ρ:Type)->FuncId->Obs I->Nat->List (PV I)->(Ef I->Option ρ)->Option ρ
def d2Q (P:Program)(f:FuncId)(O:Obs I)(nb:Nat)(ps:List (PV I))(e:Ef I):Prop :=
 ∀ (X:Cxt) (c:Cx) (σ:S) (s:St I) (n:Nat) (F:Fr) (vs:List Value),X.P=P->(∀ l o,O l=some (some o)->s.O l=some (some o))->Rel X c σ s n F->RVs X c σ ps vs->a2A (apU s.O e.upd) nb e.new=true ->
  a0Z P f vs σ (Stp X.M σ) fun v τ=>∃ c',Cx.le c c'/\Rel X c' τ (apE s nb e) n F/\RV X c' τ e.p v
structure DispOk (P:Program)(disp:a0f I):Prop where
 par:∀ (ρ:Type) (f:FuncId) (O:Obs I) (nb:Nat) (ps:List (PV I)) (k:Ef I->Option ρ),disp ρ f O nb ps k=(disp (Ef I) f O nb ps some).bind k
 ok:∀ (f:FuncId) (O:Obs I) (nb:Nat) (ps:List (PV I)) (e:Ef I),disp (Ef I) f O nb ps some=some e->d2Q P f O nb ps e
def b97:PV I->Option (List (PV I))
 | .agg ls=>some ls
 | .dat E x=>some [.dat E x]
 | _=>none
theorem b2l {X:Cxt}{c:Cx}{σ:S}{p:PV I}{ls:List (PV I)}{v:Value}(h:b97 p=some ls)(hv:RV X c σ p v):∃ cs,v=.agg cs.toArray/\RG X c σ ls cs:=by
 unfold b97 at h
 split at h
 ·cases h; simpa only [RV] using hv
 ·cases h
  simp only [RV] at hv
  obtain ⟨cs,e,hc⟩:=hv
  exact ⟨cs,e,RG.one hc⟩
 ·cases h
def wr (k:IntKind)(n:Int):Int:=k.wrap n
def b4j (k:IntKind)(a b:Int):Option Int:=if b=0 then none else some (k.wrap (a.tdiv b))
def d0N (k:IntKind)(a b:Int):Option Int:=if b<0 then none else some (k.wrap (a*2^(min b.toNat k.bits)))
def c79 (k:IntKind)(a b:Int):Option Int:=if b<0 then none else some (a.fdiv (2^(min b.toNat k.bits)))
def d21 (k:IntKind)(a b:Int):Int:=k.wrap ((BitVec.ofInt k.bits a &&& BitVec.ofInt k.bits b).toNat:Int)
def bOr (k:IntKind)(a b:Int):Int:=k.wrap ((BitVec.ofInt k.bits a ||| BitVec.ofInt k.bits b).toNat:Int)
def c9j (k:IntKind)(a b:Int):Int:=k.wrap ((BitVec.ofInt k.bits a ^^^ BitVec.ofInt k.bits b).toNat:Int)
section
variable {P:Program}{w:World}{x y:Operand}{T:TypeId}{k k':IntKind}{a b c:Int}
theorem d7g (h:b4j k a b=some c):Z7 P w (do eqGuard .quo T x y (.int k a) (.int k b); binOp .quo T (.int k a) (.int k b)) (.int k c):=by
 unfold b4j at h
 split at h
 ·cases h
 ·rename_i hb
  simp only [d8Y.injEq] at h
  subst h
  simp [Z7,eqGuard_quo,binOp_quo,Op.intDiv,hb]
theorem d7t (h:b3w a b=some c):Z7 P w (do eqGuard .rem T x y (.int k a) (.int k b); binOp .rem T (.int k a) (.int k b)) (.int k c):=by
 unfold b3w at h
 split at h
 ·cases h
 ·rename_i hb
  simp only [d8Y.injEq] at h
  subst h
  simp [Z7,eqGuard_rem,binOp_rem,Op.intDiv,hb]
theorem d7y (h:d0N k a b=some c):Z7 P w (do eqGuard .shl T x y (.int k a) (.int k' b); binOp .shl T (.int k a) (.int k' b)) (.int k c):=by
 unfold d0N at h
 split at h
 ·cases h
 ·rename_i hb
  simp only [d8Y.injEq] at h
  subst h
  simp [Z7,eqGuard_shl,binOp_shl,Op.shift,hb]
theorem d7V (h:c79 k a b=some c):Z7 P w (do eqGuard .shr T x y (.int k a) (.int k' b); binOp .shr T (.int k a) (.int k' b)) (.int k c):=by
 unfold c79 at h
 split at h
 ·cases h
 ·rename_i hb
  simp only [d8Y.injEq] at h
  subst h
  simp [Z7,eqGuard_shr,binOp_shr,Op.shift,hb]
def c3O (a b:ByteArray):Option ByteArray:=if a.size+b.size<=9223372036854775807 then some (a++b) else none
theorem d7o {s t r:ByteArray}(h:c3O s t=some r):Z7 P w (do eqGuard .add T x y (.string s) (.string t); binOp .add T (.string s) (.string t)) (.string r):=by
 unfold c3O at h
 split at h
 ·rename_i hl
  cases h
  have hn:¬ (((s.size+t.size:Nat):Int)>IntKind.i64.max):=by
   show ¬ (((s.size+t.size:Nat):Int)>9223372036854775807)
   omega
  simp only [Z7,eqGuard_add,binOp,Op.stringOp,Sem.run_bind,Sem.run_pure,Result.andThen_ok,if_neg hn]
 ·cases h
def cpl (k:IntKind)(a:Int):Int:=c9j k (if k.signed=true then -1 else k.max) a
theorem d7U:Z7 P w (Op.unary .xor (.int k a)) (.int k (cpl k a)):=by simp [Z7,Op.unary,Op.intBits,cpl,c9j]
theorem d7G:Z7 P w (do eqGuard .and T x y (.int k a) (.int k b); binOp .and T (.int k a) (.int k b)) (.int k (d21 k a b)):=by simp [Z7,eqGuard_and,binOp_and,Op.intBits,d21]
theorem d8f:Z7 P w (do eqGuard .or T x y (.int k a) (.int k b); binOp .or T (.int k a) (.int k b)) (.int k (bOr k a b)):=by simp [Z7,eqGuard_or,binOp_or,Op.intBits,bOr]
theorem d7C:Z7 P w (do eqGuard .xor T x y (.int k a) (.int k b); binOp .xor T (.int k a) (.int k b)) (.int k (c9j k a b)):=by simp [Z7,eqGuard_xor,binOp_xor,Op.intBits,c9j]
end
def b2H (tb:Tab I)(T:TypeId):BinOp->PV I->PV I->Option (PV I)
 | .add,.int k a,.int k' b=>if k=k' then some (.int k (wr k (a+b))) else none
 | .sub,.int k a,.int k' b=>if k=k' then some (.int k (wr k (a-b))) else none
 | .mul,.int k a,.int k' b=>if k=k' then some (.int k (wr k (a*b))) else none
 | .quo,.int k a,.int k' b=>if k=k' then (b4j k a b).bind fun x=>some (.int k x) else none
 | .rem,.int k a,.int k' b=>if k=k' then (b3w a b).bind fun x=>some (.int k x) else none
 | .shl,.int k a,.int _ b=>(d0N k a b).bind fun x=>some (.int k x)
 | .shr,.int k a,.int _ b=>(c79 k a b).bind fun x=>some (.int k x)
 | .and,.int k a,.int k' b=>if k=k' then some (.int k (d21 k a b)) else none
 | .or,.int k a,.int k' b=>if k=k' then some (.int k (bOr k a b)) else none
 | .xor,.int k a,.int k' b=>if k=k' then some (.int k (c9j k a b)) else none
 | .lss,.int k a,.int k' b=>if k=k' then some (.bool (decide (a<b))) else none
 | .leq,.int k a,.int k' b=>if k=k' then some (.bool (decide (a<=b))) else none
 | .gtr,.int k a,.int k' b=>if k=k' then some (.bool (decide (b<a))) else none
 | .geq,.int k a,.int k' b=>if k=k' then some (.bool (decide (b<=a))) else none
 | .eql,.int k a,.int k' b=>if k=k' then some (.bool (a==b)) else none
 | .neq,.int k a,.int k' b=>if k=k' then some (.bool (a != b)) else none
 | .add,.str a,.str b=>(c3O a b).bind fun s=>some (.str s)
 | .eql,.str a,.str b=>some (.bool (J4 a b))
 | .neq,.str a,.str b=>some (.bool (!J4 a b))
 | .lss,.str a,.str b=>some (.bool (a2d a b))
 | .gtr,.str a,.str b=>some (.bool (!(a2d a b||J4 a b)))
 | .geq,.str a,.str b=>some (.bool (!a2d a b))
 | .leq,.str a,.str b=>some (.bool (a2d a b||J4 a b))
 | .eql,.bool a,.bool b=>bif tb.isBool T then some (.bool (a==b)) else none
 | .neq,.bool a,.bool b=>bif tb.isBool T then some (.bool (a != b)) else none
 | .eql,p,q=>(b97 p).bind fun a=>(b97 q).bind fun b=>(tb.eqF T a b).bind fun r=>some (.bool r)
 | .neq,p,q=>(b97 p).bind fun a=>(b97 q).bind fun b=>(tb.eqF T a b).bind fun r=>some (.bool (!r))
 | _,_,_=>none
def d38 {ρ:Type}(tb:Tab I)(T:TypeId)(b:BinOp)(p q:PV I)(k:PV I->Option ρ):Option ρ:=match b,p,q with
 | .quo,.int i a,.int j c=>if i=j then (b4j i a c).bind fun x=>k (.int i x) else none
 | .rem,.int i a,.int j c=>if i=j then (b3w a c).bind fun x=>k (.int i x) else none
 | .shl,.int i a,.int _ c=>(d0N i a c).bind fun x=>k (.int i x)
 | .shr,.int i a,.int _ c=>(c79 i a c).bind fun x=>k (.int i x)
 | .add,.str a,.str c=>(c3O a c).bind fun s=>k (.str s)
 | b,p,q=>(b2H tb T b p q).bind k
omit [∀ E,Rp (I E)] in
theorem c97 {ρ:Type}{tb:Tab I}{T:TypeId}{b:BinOp}{p q:PV I}{k:PV I->Option ρ}:d38 tb T b p q k=(b2H tb T b p q).bind k:=by
 unfold d38
 split
 ·rename_i i a j c
  by_cases e:i=j
  ·simp only [b2H,if_pos e,d86,d8l]
  ·simp only [b2H,if_neg e,Option.bind_none]
 ·rename_i i a j c
  by_cases e:i=j
  ·simp only [b2H,if_pos e,d86,d8l]
  ·simp only [b2H,if_neg e,Option.bind_none]
 ·simp only [b2H,d86,d8l]
 ·simp only [b2H,d86,d8l]
 ·simp only [b2H,d86,d8l]
 ·rfl
variable {P:Program}{tb:Tab I}{X:Cxt}{c:Cx}{σ:S}
theorem d52 (ht:TabOk P tb){T:TypeId}{b:BinOp}{p q z:PV I}{u v:Value}{x y:Operand}{w:World}(h:b2H tb T b p q=some z)(hp:RV X c σ p u)(hq:RV X c σ q v) :
 ∃ r,RV X c σ z r/\Z7 P w (do eqGuard b T x y u v; binOp b T u v) r:=by
 unfold b2H at h
 split at h<;>(try simp only [RV] at hp)<;>(try simp only [RV] at hq)<;>(try subst hp)<;>(try subst hq)
 ·obtain ⟨e,h'⟩:=a0V h; subst e; cases h'; exact ⟨_,by simp only [RV,wr],c7b⟩
 ·obtain ⟨e,h'⟩:=a0V h; subst e; cases h'; exact ⟨_,by simp only [RV,wr],d7H⟩
 ·obtain ⟨e,h'⟩:=a0V h; subst e; cases h'; exact ⟨_,by simp only [RV,wr],d7E⟩
 ·obtain ⟨e,h'⟩:=a0V h; subst e; obtain ⟨m,hm,h'⟩:=bind_some h'; cases h'; exact ⟨_,by simp only [RV],d7g hm⟩
 ·obtain ⟨e,h'⟩:=a0V h; subst e; obtain ⟨m,hm,h'⟩:=bind_some h'; cases h'; exact ⟨_,by simp only [RV],d7t hm⟩
 ·obtain ⟨m,hm,h⟩:=bind_some h; cases h; exact ⟨_,by simp only [RV],d7y hm⟩
 ·obtain ⟨m,hm,h⟩:=bind_some h; cases h; exact ⟨_,by simp only [RV],d7V hm⟩
 ·obtain ⟨e,h'⟩:=a0V h; subst e; cases h'; exact ⟨_,by simp only [RV],d7G⟩
 ·obtain ⟨e,h'⟩:=a0V h; subst e; cases h'; exact ⟨_,by simp only [RV],d8f⟩
 ·obtain ⟨e,h'⟩:=a0V h; subst e; cases h'; exact ⟨_,by simp only [RV],d7C⟩
 ·obtain ⟨e,h'⟩:=a0V h; subst e; cases h'; exact ⟨_,by simp only [RV],c7k⟩
 ·obtain ⟨e,h'⟩:=a0V h; subst e; cases h'; exact ⟨_,by simp only [RV],d7N⟩
 ·obtain ⟨e,h'⟩:=a0V h; subst e; cases h'; exact ⟨_,by simp only [RV],d71⟩
 ·obtain ⟨e,h'⟩:=a0V h; subst e; cases h'; exact ⟨_,by simp only [RV],d74⟩
 ·obtain ⟨e,h'⟩:=a0V h; subst e; cases h'; exact ⟨_,by simp only [RV],d7T⟩
 ·obtain ⟨e,h'⟩:=a0V h; subst e; cases h'; exact ⟨_,by simp only [RV],d70⟩
 ·obtain ⟨m,hm,h⟩:=bind_some h; cases h; exact ⟨_,by simp only [RV],d7o hm⟩
 ·cases h; exact ⟨_,by simp only [RV],d7k⟩
 ·cases h; exact ⟨_,by simp only [RV],d6Y⟩
 ·cases h; exact ⟨_,by simp only [RV],d6A⟩
 ·cases h; exact ⟨_,by simp only [RV],d7q⟩
 ·cases h; exact ⟨_,by simp only [RV],d7r⟩
 ·cases h; exact ⟨_,by simp only [RV],d62⟩
 ·obtain ⟨hb,h⟩:=j8 h; cases h; exact ⟨_,by simp only [RV],d6N (ht.isBool _ hb)⟩
 ·obtain ⟨hb,h⟩:=j8 h; cases h; exact ⟨_,by simp only [RV],d6t (ht.isBool _ hb)⟩
 ·obtain ⟨a,ha,h⟩:=bind_some h
  obtain ⟨b,hb,h⟩:=bind_some h
  obtain ⟨r,hr,h⟩:=bind_some h
  cases h
  obtain ⟨cs,e1,h1⟩:=b2l ha hp
  obtain ⟨ds,e2,h2⟩:=b2l hb hq
  subst e1; subst e2
  obtain ⟨hm,j,hj,he⟩:=ht.eqF X c σ _ _ _ _ cs ds hr h1 h2
  exact ⟨_,by simp only [RV],d3i hm he hj⟩
 ·obtain ⟨a,ha,h⟩:=bind_some h
  obtain ⟨b,hb,h⟩:=bind_some h
  obtain ⟨r,hr,h⟩:=bind_some h
  cases h
  obtain ⟨cs,e1,h1⟩:=b2l ha hp
  obtain ⟨ds,e2,h2⟩:=b2l hb hq
  subst e1; subst e2
  obtain ⟨hm,j,hj,he⟩:=ht.eqF X c σ _ _ _ _ cs ds hr h1 h2
  exact ⟨_,by simp only [RV],d3m hm he hj⟩
 ·cases h
def a6i (tb:Tab I):Nat->Nat->List (PV I)->Option (List (PV I)×List (PV I))
 | 0,_,_=>none
 | f+1,o,ls=>bif d8u o 0 then some ([],ls) else match ls with
   | []=>none
   | p::ps=>bif d89 (sgz p) o then (a6i tb f (o-sgz p) ps).bind fun q=>some (p::q.1,q.2) else match p with
     | .dat E x=>a6i tb f o (tb.lf E x++ps)
     | _=>none
theorem a4N (ht:TabOk P tb):∀ {f o:Nat} {ls a b:List (PV I)} {cs:List Value},a6i tb f o ls=some (a,b)->RG X c σ ls cs->∃ c1 c2,cs=c1++c2/\c1.length=o/\RG X c σ a c1/\RG X c σ b c2
 | 0,_,_,_,_,_,h,_=>by cases h
 | f+1,o,ls,a,b,cs,h,hl=>by
   simp only [a6i] at h
   cases ho:d8u o 0 with
   | true =>
     rw [ho] at h
     cases h
     exact ⟨[],cs,rfl,(d8s ho).symm,by simp only [RG],hl⟩
   | false =>
     rw [ho] at h
     simp only [cond_false] at h
     split at h
     ·cases h
     ·rename_i p ps
      simp only [RG] at hl
      obtain ⟨a1,r,rfl,h1,h2⟩:=hl
      cases hz:d89 (sgz p) o with
      | true =>
        rw [hz] at h
        simp only [cond_true] at h
        obtain ⟨q,hq,h⟩:=bind_some h
        cases h
        obtain ⟨c1,c2,rfl,k1,k2,k3⟩:=a4N ht (a:=q.1) (b:=q.2) hq h2
        have:=d8N hz
        refine ⟨a1++c1,c2,by simp,by rw [d8t,c6k h1,k1]; omega,?_,k3⟩
        simp only [RG]
        exact ⟨a1,c1,rfl,h1,k2⟩
      | false =>
        rw [hz] at h
        simp only [cond_false] at h
        split at h
        ·rename_i E x
         rcases h1 with h1 | ⟨h0,_⟩
         ·exact a4N ht h (RG.app _ _ _ _ (ht.lf X c σ E x a1 h1) h2)
         ·cases h0
        ·cases h
def c01 (tb:Tab I):Nat->List (PV I)->Option (PV I)
 | 0,_=>none
 | f+1,ls=>match ls with
   | []=>none
   | p::ps=>match p with
     | .dat E x=>c01 tb f (tb.lf E x++ps)
     | p=>some p
theorem c2G (ht:TabOk P tb):∀ {f:Nat} {ls:List (PV I)} {p:PV I} {cs:List Value},c01 tb f ls=some p->RG X c σ ls cs->∃ v,cs[0]?=some v/\RV X c σ p v
 | 0,_,_,_,h,_=>by cases h
 | f+1,[],_,_,h,_=>by cases h
 | f+1,q::ps,p,cs,h,hl=>by
   simp only [RG] at hl
   obtain ⟨a,r,rfl,h1,h2⟩:=hl
   simp only [c01] at h
   split at h
   ·rename_i E x
    rcases h1 with h1 | ⟨h0,_⟩
    ·exact c2G ht h (RG.app _ _ _ _ (ht.lf X c σ E x a h1) h2)
    ·cases h0
   ·rename_i hne
    cases h
    rcases h1 with h1 | ⟨h0,v,rfl,h1⟩
    ·exact (by cases q<;>first | exact h1.elim | exact absurd rfl (hne _ _))
    ·exact ⟨v,rfl,h1⟩
def a6E (tb:Tab I)(T:TypeId)(ls:List (PV I))(o:Nat):Option (PV I) :=
 (a6i tb 300 o ls).bind fun q=>match tb.sz T with
 | some k=>(a6i tb 300 k q.2).bind fun r=>some (b7g T r.1)
 | none=>bif tb.one T then c01 tb 300 q.2 else none
theorem b0n (ht:TabOk P tb){T:TypeId}{ls:List (PV I)}{o:Nat}{z:PV I}{cs:List Value}(h:a6E tb T ls o=some z)(hl:RG X c σ ls cs) :
 (∃ k,c0S P T k/\o+k<=cs.length/\RV X c σ z (.agg ((cs.drop o).take k).toArray))\/(X8 P T/\∃ v,cs[o]?=some v/\RV X c σ z v):=by
 obtain ⟨q,hq,h⟩:=bind_some h
 obtain ⟨c1,c2,rfl,k1,k2,k3⟩:=a4N ht (a:=q.1) (b:=q.2) hq hl
 split at h
 ·rename_i k hk
  obtain ⟨r,hr,h⟩:=bind_some h
  cases h
  obtain ⟨d1,d2,rfl,m1,m2,m3⟩:=a4N ht (a:=r.1) (b:=r.2) hr k3
  left
  refine ⟨k,ht.sz T k hk,by simp only [d8t]; omega,?_⟩
  have:((c1++(d1++d2)).drop o).take k=d1:=by
   rw [<- k1,List.drop_left,<- m1,d9l]
  rw [this]
  exact a8i m2
 ·obtain ⟨hb,h⟩:=j8 h
  obtain ⟨v,hv,hz⟩:=c2G ht h k3
  right
  refine ⟨ht.one T hb,v,?_,hz⟩
  rw [<- k1,d8z (d8r _),Nat.sub_self,hv]
theorem b0d (ht:TabOk P tb){T:TypeId}{ls:List (PV I)}{o:Nat}{z:PV I}{cs:List Value}{w:World}{b p:Nat}(h:a6E tb T ls o=some z)(hl:RG X c σ ls cs)(hr:w.rangeAt b p cs) :
 ∃ r,RV X c σ z r/\Z7 P w (loadVar T ⟨b,p+o,none⟩) r:=by
 rcases b0n ht h hl with ⟨k,h1,h2,h3⟩ | ⟨h1,v,h2,h3⟩
 ·have hl2:((cs.drop o).take k).length=k:=by rw [d8G,d83]; omega
  refine ⟨_,h3,c6p (by rw [hl2]; exact h1) ?_⟩
  intro j v hv
  have hj:j<k:=by have:=(d8o.1 hv).1; omega
  rw [d8K hj,d9e] at hv
  rw [d9j]
  exact hr (o+j) v hv
 ·exact ⟨v,h3,a2u h1 (hr o v h2)⟩
theorem d2X {P:Program}{t:TypeId}{cells:List Value}{o k:Nat}(ht:c0S P t k)(w:World):(part t cells.toArray o).run P w=.ok (.agg ((cells.drop o).take k).toArray) w:=by
 obtain ⟨d,h1,h2,h3⟩:=ht
 have hagg:(isAgg t).run P w=.ok true w:=by
  unfold isAgg
  rw [Sem.run_bind,run_underlying h1 w]
  cases d<;>simp_all [TypeDesc.isRow]
 unfold part
 simp only [Sem.run_bind,hagg,Result.andThen_ok,if_true,Sx.run_sizeOf h3 w,Sem.run_pure]
 congr 2
 apply Array.ext'
 simp [List.extract_eq_take_drop,List.take_drop,Nat.add_comm]
theorem c4z (ht:TabOk P tb){T:TypeId}{ls:List (PV I)}{o:Nat}{z:PV I}{cs:List Value}{w:World}(h:a6E tb T ls o=some z)(hl:RG X c σ ls cs) :
 ∃ r,RV X c σ z r/\(part T cs.toArray o).run P w=.ok r w:=by
 rcases b0n ht h hl with ⟨k,h1,_,h3⟩ | ⟨h1,v,h2,h3⟩
 ·exact ⟨_,h3,d2X h1 w⟩
 ·exact ⟨v,h3,a1e h1 h2 w⟩
def ofC:Value->Option (PV I)
 | .int k n=>some (.int k n)
 | .bool b=>some (.bool b)
 | .string s=>some (.str s)
 | _=>none
def evP (n:Nat)(G:Nat->Option (PV I)):Operand->Option (PV I)
 | .tmp t=>bif d8V t n then G t else none
 | .const v=>ofC v
 | .func f=>some (.clo f [])
 | .global _=>none
def evT (tb:Tab I)(n:Nat)(G:Nat->Option (PV I))(T:Option TypeId)(x:Operand):Option (PV I) :=
 match x with
 | .const (.slice none 0 0)=>Option.bind T fun T=>(tb.el T).bind fun E=>some (.nl E)
 | x=>evP n G x
abbrev b1j (X:Cxt)(c:Cx)(σ:S)(G:Nat->Option (PV I))(F:Fr):Prop:=∀ t p,G t=some p->RV X c σ p (F t)
variable {G:Nat->Option (PV I)}{n:Nat}{F:Fr}
theorem b2Z (h:b1j X c σ G F){x:Operand}{p:PV I}(hx:evP n G x=some p):Q2 n x=true/\RV X c σ p (ev F x):=by
 cases x with
 | tmp t =>
   obtain ⟨h1,hx⟩:=j8 hx
   exact ⟨h1,h t p hx⟩
 | const v =>
   refine ⟨rfl,?_⟩
   cases v<;>simp [evP,ofC] at hx<;>subst hx<;>simp [RV,ev]
 | func f =>
   refine ⟨rfl,?_⟩
   simp [evP] at hx
   subst hx
   simp [RV,RVs,ev]
 | «global» g=>simp [evP] at hx
theorem c0I (h:b1j X c σ G F){x:Operand}{T:Option TypeId}{p:PV I}(hx:evT tb n G T x=some p):Q2 n x=true/\RV X c σ p (ev F x):=by
 unfold evT at hx
 split at hx
 ·obtain ⟨T',hT,hx⟩:=bind_some hx
  obtain ⟨E,hE,hx⟩:=bind_some hx
  cases hx
  refine ⟨rfl,?_⟩
  simp only [RV,ev]
  exact ⟨none,rfl⟩
 ·exact b2Z h hx
def evs (tb:Tab I)(n:Nat)(G:Nat->Option (PV I)):List Operand->List TypeId->Option (List (PV I))
 | [],_=>some []
 | x::r,Ts=>(evT tb n G Ts.head? x).bind fun p=>(evs tb n G r Ts.tail).bind fun ps=>some (p::ps)
theorem b2C (h:b1j X c σ G F):∀ {xs:List Operand} {Ts:List TypeId} {ps:List (PV I)},evs tb n G xs Ts=some ps->xs.all (Q2 n)=true/\RVs X c σ ps (xs.map (ev F))
 | [],_,ps,he=>by cases he; simp [RVs]
 | x::r,Ts,ps,he=>by
   obtain ⟨p,hp,he⟩:=bind_some he
   obtain ⟨qs,hq,he⟩:=bind_some he
   cases he
   obtain ⟨h1,h2⟩:=c0I h hp
   obtain ⟨h3,h4⟩:=b2C h hq
   refine ⟨by simp only [d9v,h1,h3,Bool.and_self],?_⟩
   simp only [d8O,RVs]
   exact ⟨_,_,rfl,h2,h4⟩
def b55:PV I->Option (List (PV I))
 | .agg ls=>some ls
 | .dat E x=>some [.dat E x]
 | .tup _=>none
 | .undef=>none
 | .any=>none
 | .ep _ _ _=>none
 | .vp _ _ _ _=>none
 | .vs _ _ _=>none
 | .av _ _ _=>none
 | p=>some [p]
theorem a5A {p:PV I}{v:Value}{ls:List (PV I)}(h:b55 p=some ls)(hv:RV X c σ p v):RG X c σ ls v.cells.toList:=by
 cases p<;>simp [b55] at h<;>subst h
 case agg ls =>
  simp only [RV] at hv
  obtain ⟨cs,rfl,hl⟩:=hv
  simpa [Value.cells] using hl
 case dat E x =>
  simp only [RV] at hv
  obtain ⟨cs,rfl,hl⟩:=hv
  simpa [Value.cells] using RG.one hl
 all_goals
  have hv':=hv
  simp only [RV] at hv
  have hcell:v.cells.toList=[v]:=by
   first
    | (subst hv; rfl)
    | (obtain ⟨A,k,rfl,_⟩:=hv; rfl)
    | (obtain ⟨A,rfl⟩:=hv; rfl)
    | (obtain ⟨b,w,_,rfl⟩:=hv; rfl)
    | (obtain ⟨p,_,rfl⟩:=hv; rfl)
    | (obtain ⟨cs,rfl,_⟩:=hv; rfl)
    | (obtain ⟨f,d8k,cs,rfl,_⟩:=hv; rfl)
  rw [hcell]
  exact RG.single rfl hv'
def b7u (tb:Tab I)(o:Nat)(vs ls:List (PV I)):Option (List (PV I)) :=
 (a6i tb 300 o ls).bind fun q=>(a6i tb 300 (c05 vs) q.2).bind fun r=>some (q.1++vs++r.2)
theorem b7U (ht:TabOk P tb){o:Nat}{vs ls out:List (PV I)}{cs cv:List Value}(h:b7u tb o vs ls=some out)(hl:RG X c σ ls cs)(hv:RG X c σ vs cv) :
 o+cv.length<=cs.length/\RG X c σ out (cs.take o++cv++cs.drop (o+cv.length)):=by
 obtain ⟨q,hq,h⟩:=bind_some h
 obtain ⟨r,hr,h⟩:=bind_some h
 cases h
 obtain ⟨c1,c2,rfl,k1,k2,k3⟩:=a4N ht (a:=q.1) (b:=q.2) hq hl
 obtain ⟨d1,d2,rfl,m1,m2,m3⟩:=a4N ht (a:=r.1) (b:=r.2) hr k3
 have hlen:=RG.len _ _ hv
 refine ⟨by simp only [d8t]; omega,?_⟩
 have e1:(c1++(d1++d2)).take o=c1:=by rw [<- k1,d9l]
 have e2:(c1++(d1++d2)).drop (o+cv.length)=d2:=by
  rw [show o+cv.length=(c1++d1).length by simp only [d8t]; omega,<- d8E,List.drop_left]
 rw [e1,e2]
 exact RG.app _ _ _ _ (RG.app _ _ _ _ k2 hv) m3
def c4J (tb:Tab I)(pl:List (Nat×Nat)):List (PV I)->List (Nat×List (PV I))->Option (List (PV I))
 | cells,[]=>some cells
 | cells,(i,vs)::rest =>
   match pl[i]? with
   | none=>none
   | some (off,size)=>bif d8u (c05 vs) size then (b7u tb off vs cells).bind fun cells'=>c4J tb pl cells' rest else none
def RVp (X:Cxt)(c:Cx)(σ:S):List (Nat×List (PV I))->List (Nat×List Value)->Prop
 | [],qs=>qs=[]
 | p::ps,qs=>∃ v r,qs=(p.1,v)::r/\RG X c σ p.2 v/\RVp X c σ ps r
theorem c7G (ht:TabOk P tb)(pl:List (Nat×Nat)):∀ (ps:List (Nat×List (PV I))) (qs:List (Nat×List Value)) (ls out:List (PV I)) (cs:List Value),c4J tb pl ls ps=some out->RG X c σ ls cs->RVp X c σ ps qs ->
 ∃ co,b1W pl cs qs=some co/\RG X c σ out co
 | [],qs,ls,out,cs,h,hl,hp=>by
   simp only [RVp] at hp
   subst hp
   simp only [c4J,d8Y.injEq] at h
   subst h
   exact ⟨cs,rfl,hl⟩
 | (i,vs)::ps,qs,ls,out,cs,h,hl,hp=>by
   simp only [RVp] at hp
   obtain ⟨v,r,rfl,h1,h2⟩:=hp
   simp only [c4J] at h
   cases e:pl[i]? with
   | none=>rw [e] at h; cases h
   | some q =>
     obtain ⟨off,size⟩:=q
     rw [e] at h
     obtain ⟨hb,h⟩:=j8 h
     obtain ⟨cells',hc',h⟩:=bind_some h
     obtain ⟨k1,k2⟩:=b7U ht hc' hl h1
     obtain ⟨co,h3,h4⟩:=c7G ht pl ps r _ out _ h k2 h2
     refine ⟨co,?_,h4⟩
     simp only [b1W,e]
     have g1:=RG.len _ _ h1
     have hb1:d8u v.length size=true:=by rw [g1]; exact hb
     have hb2:d89 (off+v.length) cs.length=true:=d9F k1
     rw [hb1,hb2]
     exact h3
def evB (tb:Tab I)(n:Nat)(G:Nat->Option (PV I))(T:Nat->Option TypeId):List (Nat×Operand)->Option (List (Nat×List (PV I)))
 | []=>some []
 | (i,x)::r=>(evT tb n G (T i) x).bind fun p=>(b55 p).bind fun ls=>(evB tb n G T r).bind fun q=>some ((i,ls)::q)
theorem d2R (h:b1j X c σ G F){T:Nat->Option TypeId}:∀ {xs:List (Nat×Operand)} {ps:List (Nat×List (PV I))},evB tb n G T xs=some ps ->
 xs.all (fun p=>Q2 n p.2)=true/\RVp X c σ ps ((xs.map fun p=>(p.1,ev F p.2)).map fun p=>(p.1,p.2.cells.toList))
 | [],ps,he=>by cases he; simp [RVp]
 | (i,x)::r,ps,he=>by
   obtain ⟨p,hp,he⟩:=bind_some he
   obtain ⟨ls,hls,he⟩:=bind_some he
   obtain ⟨qs,hq,he⟩:=bind_some he
   cases he
   obtain ⟨h1,h2⟩:=c0I h hp
   obtain ⟨h3,h4⟩:=d2R h hq
   refine ⟨by simp only [d9v,h1,h3,Bool.and_self],?_⟩
   simp only [d8O,RVp]
   exact ⟨_,_,rfl,a5A hls h2,h4⟩
end
end Go.Qx
end
section
open List renaming replicate->d8D
open Nat renaming beq->d8u,ble->d89,blt->d8V,le_refl->d8r
open Option renaming bind_assoc->d86,bind_some->d8l
namespace Go.Qx
open Go Go.RowKit Go.Sx
section
variable {I:TypeId->Type} [∀ E,Rp (I E)]
def c9a:PV I->Bool
 | .int _ _=>true
 | .bool _=>true
 | .str _=>true
 | .sl _ _ _=>true
 | .nl _=>true
 | .ptr _ _=>true
 | .vw _=>true
 | .clo _ _=>true
 | .fn _ _ _=>true
 | .dat _ _=>true
 | .mp _=>true
 | _=>false
def Q3 (O:Obs I):List Nat->List (Nat×Option (Ob I))
 | []=>[]
 | l::r=>match O l with
   | some (some (.row E xs false))=>(l,some (.row E xs true))::Q3 O r
   | _=>Q3 O r
def a7T (tb:Tab I)(O:Obs I):(ks:List Kd)->List (PV I)->Option (Tys I ks×List Nat)
 | [],[]=>some ((),[])
 | k::ks,p::ps=>(a9c tb O k p).bind fun x=>(a7T tb O ks ps).bind fun y=>some ((x.1,y.1),x.2++y.2)
 | _,_=>none
def d7c (tb:Tab I)(O:Obs I)(E:TypeId)(p:PV I):Option (I E×List Nat) :=
 (b55 p).bind fun ls=>(c9h O ls).bind fun t=>(ofG tb E t.1).bind fun a=>some (a,t.2)
def d1o (tb:Tab I)(O:Obs I)(n:Nat)(G:Nat->Option (PV I))(E:TypeId):Nat->List (Nat×Operand)->Option (List (I E)×List Nat)
 | _,[]=>some ([],[])
 | i,(j,x)::r=>bif d8u j i then (evT tb n G (some E) x).bind fun p=>(d7c tb O E p).bind fun a=>(d1o tb O n G E (i+1) r).bind fun d8k=>some (a.1::d8k.1,a.2++d8k.2) else none
def a8o:List (PV I)->PV I
 | [p]=>p
 | ps=>.tup ps
def a6d (len cap:Int)(b:Nat):Option Nat:=bif (decide (0<=len)&&decide (len<=cap)&&decide (cap*(b:Int)<=140737488355328)) then some len.toNat else none
def asI:PV I->Option Int
 | .int .i64 n=>some n
 | _=>none
def b41 {ρ:Type}:Nat->Nat->Int->(Nat->Option ρ)->Option ρ
 | 0,_,_,_=>none
 | m+1,i,j,f=>bif j==Int.ofNat i then f i else b41 m (i+1) j f
def c9b (O:Obs I)(E:TypeId)(p:PV I)(lo hi mx:Option Operand):Option (Nat×List (I E)×Operand):=match p,lo,hi,mx with
 | .vw l,some x,none,none=>match O l with
   | some (some (.row E' xs false))=>(a13 E E' xs).bind fun ys=>some (l,ys,x)
   | _=>none
 | _,_,_,_=>none
def d1n (O:Obs I)(E:TypeId)(p:PV I)(lo hi mx:Option Operand):Option (Nat×List (I E)×Operand):=match p,lo,hi,mx with
 | .vw l,none,some x,none=>match O l with
   | some (some (.row E' xs false))=>(a13 E E' xs).bind fun ys=>some (l,ys,x)
   | _=>none
 | _,_,_,_=>none
def d1b (tb:Tab I)(E:TypeId)(zs:List (PV I))(xs:List (I E)):Ob I:=match tb.nest E with
 | some q=>match a6i tb 300 q.2 zs with
   | some r=>match c01 tb 300 r.2 with
     | some (.nl E')=>bif d8u E' q.1 then .nst E q.1 q.2 xs 0 else .row E xs false
     | _=>.row E xs false
   | none=>.row E xs false
 | none=>.row E xs false
def d3D (tb:Tab I)(T:TypeId)(p:PV I)(lo hi mx:Option Operand):Option (PV I):=match p,lo,hi,mx with
 | .ptr l o,none,none,none=>(tb.arr T).bind fun a=>some (.av l o a.2.1)
 | _,_,_,_=>none
def c8P (tb:Tab I)(O:Obs I)(E:TypeId):Nat->List (PV I)->Option (List (I E)×List Nat)
 | 0,_=>some ([],[])
 | m+1,ls=>(a6i tb 300 (Rp.sz (I E)) ls).bind fun r=>(a9c tb O (.dat E) (b7g E r.1)).bind fun x=>(c8P tb O E m r.2).bind fun t=>some (x.1::t.1,x.2++t.2)
def d3s (tb:Tab I)(O:Obs I)(E:TypeId)(q:PV I):Option (List (I E)×List Nat):=match q with
 | .av l o m=>(match O l with
   | some (some (.var _ ls _))=>(a6i tb 300 o ls).bind fun q=>(c8P tb O E m q.2).bind fun t=>bif t.2.elem l then none else some t
   | _=>none)
 | q=>c7u O E q
def c9r:List (PV I)->UInt8
 | [.int _ n]=>UInt8.ofNat n.toNat
 | _=>0
def d7I (tb:Tab I)(E:TypeId)(xs:List (I E)):ByteArray:=⟨(xs.map fun x=>c9r (tb.lf E x)).toArray⟩
def d6M (xs:List Int):ByteArray:=⟨(xs.map fun x=>UInt8.ofNat x.toNat).toArray⟩
def d1A (O:Obs I)(E:TypeId)(p:PV I):Option (List (I E)):=match p with
 | .nl E'=>bif d8u E' E then some [] else none
 | .sl E' xs _=>a13 E E' xs
 | .vw l=>match O l with
   | some (some (.row E' xs _))=>a13 E E' xs
   | some (some (.ro E' xs))=>a13 E E' xs
   | some (some (.bo E' xs))=>a13 E E' xs
   | _=>none
 | _=>none
def d1c (p:PV I):Option ByteArray:=match p with
 | .str s=>some s
 | _=>none
def c8w (s:ByteArray)(l h:Int):Option ByteArray:=if 0<=l/\l<=h/\h<=(s.size:Int) then some (s.extract l.toNat h.toNat) else none
def d3h (tb:Tab I)(O:Obs I)(E T T':TypeId)(q:PV I):Option (List (I E)×List Nat):=bif d8u T' T then d3s tb O E q else bif tb.isStr T' then (d1c q).bind fun s=>(tb.u8g E).bind fun g=>some (s.data.toList.map fun b=>g (b.toNat:Int),[]) else none
section
variable {ρ:Type}
def val (k:Ef I->Option ρ)(p:PV I):Option ρ:=k ⟨p,[],[]⟩
def eff (tb:Tab I)(disp:a0f I)(n:Nat)(G:Nat->Option (PV I))(O:Obs I)(nb:Nat)(ty:TypeId)(op:Op)(k:Ef I->Option ρ):Option ρ :=
 match op with
 | .move x=>(evT tb n G (some ty) x).bind (val k)
 | .assign x=>(evT tb n G (some ty) x).bind (val k)
 | .binOp b T x y _=>(evP n G x).bind fun p=>(evP n G y).bind fun q=>d38 tb T b p q (val k)
 | .unOp u _ x=>(evP n G x).bind fun p=>match u,p with
   | .not,.bool b=>val k (.bool (!b))
   | .neg,.int i a=>val k (.int i (wr i (0-a)))
   | .xor,.int i a=>val k (.int i (cpl i a))
   | _,_=>none
 | .pick x a b=>(evP n G x).bind fun p=>(evP n G a).bind fun q=>(evP n G b).bind fun q'=>match p with
   | .bool g=>bif g then val k q else val k q'
   | _=>none
 | .fieldAddr T x f=>(evP n G x).bind fun p=>(tb.off T f).bind fun d=>match p with
   | .ptr l o=>val k (.ptr l (o+d))
   | .ep E x o=>val k (.ep E x (o+d))
   | .vp l sz j o=>val k (.vp l sz j (o+d))
   | _=>none
 | .field T x f=>(evP n G x).bind fun p=>(tb.off T f).bind fun d=>(tb.fty T f).bind fun T'=>(b97 p).bind fun ls=>(a6E tb T' ls d).bind (val k)
 | .load T x=>(evP n G x).bind fun p=>match p with
   | .ptr l o=>match O l with
     | some (some (.var _ ls _))=>(a6E tb T ls o).bind (val k)
     | _=>none
   | .ep E x o=>(a6E tb T [.dat E x] o).bind (val k)
   | .vp l sz j o=>match O l with
     | some (some (.row E xs _))=>bif d8u sz (Rp.sz (I E)) then Option.bind xs[j]? fun e=>(a6E tb T [.dat E e] o).bind (val k) else none
     | some (some (.bo E xs))=>bif d8u sz (Rp.sz (I E)) then Option.bind xs[j]? fun e=>(a6E tb T [.dat E e] o).bind (val k) else none
     | some (some (.nst E E' u xs q))=>bif d8u sz (Rp.sz (I E)) then Option.bind xs[j]? fun e=>(a6E tb T [.dat E e] o).bind fun p'=>bif d8u q 1&&d8u o u then (match p' with
        | .sl E1 ys _=>(a13 E' E1 ys).bind fun zs=>k ⟨.vw nb,[(l,some (.nst E E' u xs (j+2)))],[.row E' zs true]⟩
        | _=>none) else val k p' else none
     | _=>none
   | _=>none
 | .indexAddr T x y=>(evP n G x).bind fun p=>(evP n G y).bind fun q=>(asI q).bind fun j=>match p with
   | .ptr l o=>(tb.arr T).bind fun a=>b41 a.2.1 0 j fun i=>val k (.ptr l (o+i*a.2.2))
   | .ep E x o=>(tb.arr T).bind fun a=>b41 a.2.1 0 j fun i=>val k (.ep E x (o+i*a.2.2))
   | .vp l sz j' o=>(tb.arr T).bind fun a=>b41 a.2.1 0 j fun i=>val k (.vp l sz j' (o+i*a.2.2))
   | .sl E xs _=>(tb.el T).bind fun E'=>bif d8u E E' then (idx xs j).bind fun e=>val k (.ep E e 0) else none
   | .vw l=>(tb.el T).bind fun E'=>match O l with
     | some (some (.row E xs true))=>bif d8u E E' then (idx xs j).bind fun e=>val k (.ep E e 0) else none
     | some (some (.ro E xs))=>bif d8u E E' then (idx xs j).bind fun e=>val k (.ep E e 0) else none
     | some (some (.row E xs false))=>bif d8u E E' then (idx xs j).bind fun _=>val k (.vp l (Rp.sz (I E)) j.toNat 0) else none
     | some (some (.bo E xs))=>bif d8u E E' then (idx xs j).bind fun _=>val k (.vp l (Rp.sz (I E)) j.toNat 0) else none
     | some (some (.nst E _ _ xs _))=>bif d8u E E' then (idx xs j).bind fun _=>val k (.vp l (Rp.sz (I E)) j.toNat 0) else none
     | _=>none
   | .vs l sz lo=>(tb.el T).bind fun E'=>match O l with
     | some (some (.row E xs false))=>bif d8u E E'&&d8u sz (Rp.sz (I E)) then (idx (xs.drop lo) j).bind fun _=>val k (.vp l sz (lo+j.toNat) 0) else none
     | _=>none
   | _=>none
 | .index T x y=>(evP n G x).bind fun p=>(evP n G y).bind fun q=>match p,q with
   | .str t,.int _ j=>bif tb.isStr T then (a5M t j).bind fun e=>val k (.int .u8 (e.toNat:Int)) else none
   | p,q=>(asI q).bind fun j=>(tb.arr T).bind fun a=>(b97 p).bind fun ls=>b41 a.2.1 0 j fun i=>(a6E tb a.1 ls (i*a.2.2)).bind (val k)
 | .extract x i=>(evP n G x).bind fun p=>match p with
   | .tup ls=>Option.bind ls[i]? (val k)
   | _=>none
 | .nilCheck x=>(evP n G x).bind fun p=>match p with
   | .ptr l o=>val k (.ptr l o)
   | .ep E x o=>val k (.ep E x o)
   | .vp l sz j o=>val k (.vp l sz j o)
   | _=>none
 | .convert a b x=>(evP n G x).bind fun p=>match p with
   | .int _ j=>(tb.ik a).bind fun _=>(tb.ik b).bind fun i=>val k (.int i (wr i j))
   | p=>bif tb.isStr b then (tb.el a).bind fun E=>bif tb.u8 E then (d1A O E p).bind fun xs=>val k (.str (d7I tb E xs)) else none else none
 | .build T ps=>(tb.flds T).bind fun pl=>(tb.zero T).bind fun zs=>(evB tb n G (tb.fty T) ps.toList).bind fun qs=>(c4J tb pl zs qs).bind fun ls=>val k (b7g T ls)
 | .makeFunc (.func f) xs ys=>match xs.toList with
   | []=>(evs tb n G ys.toList []).bind fun ps=>val k (.clo f ps)
   | x::xs=>match ys.toList with
     | []=>(evs tb n G (x::xs) []).bind fun ps=>val k (.mth f ps)
     | _=>none
 | .slice T x lo hi mx=>(evP n G x).bind fun p0=>match d1c p0 with
   | some s=>bif tb.isStr T then (match lo,hi,mx with
     | none,some h,none=>(evP n G h).bind fun q=>(asI q).bind fun h'=>(c8w s 0 h').bind fun t=>val k (.str t)
     | some l,none,none=>(evP n G l).bind fun q=>(asI q).bind fun l'=>(c8w s l' (s.size:Int)).bind fun t=>val k (.str t)
     | some l,some h,none=>(evP n G l).bind fun q=>(evP n G h).bind fun q'=>(asI q).bind fun l'=>(asI q').bind fun h'=>(c8w s l' h').bind fun t=>val k (.str t)
     | _,_,_=>none) else none
   | none=>match d3D tb T p0 lo hi mx with
   | some v=>val k v
   | none=>(tb.el T).bind fun E=>match d1n O E p0 lo hi mx with
   | some v=>(evP n G v.2.2).bind fun q=>(asI q).bind fun j=>(cut v.2.1 0 j).bind fun ys=>k ⟨.vw nb,[(v.1,none)],[.row E ys false]⟩
   | none=>match c9b O E p0 lo hi mx with
   | some v=>(evP n G v.2.2).bind fun q=>(asI q).bind fun j=>(idx v.2.1 j).bind fun _=>val k (.vs v.1 (Rp.sz (I E)) j.toNat)
   | none=>(c7u O E p0).bind fun xs=>match lo,hi,mx with
     | none,some (.const (.int .i64 0)),some (.const (.int .i64 0))=>k ⟨.nl E,Q3 O xs.2,[]⟩
     | none,some h,some m=>(evP n G h).bind fun q=>(evP n G m).bind fun q'=>(asI q).bind fun h'=>(asI q').bind fun m'=>bif h'==(xs.1.length:Int)&&m'==(xs.1.length:Int) then k ⟨.sl E xs.1 true,Q3 O xs.2,[]⟩ else none
     | none,some h,none=>(evP n G h).bind fun q=>(asI q).bind fun h'=>(cut xs.1 0 h').bind fun ys=>k ⟨.sl E ys false,Q3 O xs.2,[]⟩
     | some l,none,none=>(evP n G l).bind fun q=>(asI q).bind fun l'=>(cut xs.1 l' (xs.1.length:Int)).bind fun ys=>k ⟨.sl E ys false,Q3 O xs.2,[]⟩
     | some l,some h,none=>(evP n G l).bind fun q=>(evP n G h).bind fun q'=>(asI q).bind fun l'=>(asI q').bind fun h'=>(cut xs.1 l' h').bind fun ys=>k ⟨.sl E ys false,Q3 O xs.2,[]⟩
     | _,_,_=>none
 | .alloc T=>(tb.zero T).bind fun ls=>k ⟨.ptr nb 0,[],[.var T ls true]⟩
 | .box T x=>(evT tb n G (some T) x).bind fun p=>(b55 p).bind fun ls=>k ⟨.ptr nb 0,[],[.var T ls true]⟩
 | .store T x y=>(evP n G x).bind fun p=>(evT tb n G (some T) y).bind fun q=>(b55 q).bind fun vs=>(tb.size T).bind fun m=>bif (d8u m (c05 vs)&&vs.all c9a) then (match p with
   | .ptr l o=>match O l with
     | some (some (.var T' ls true))=>(b7u tb o vs ls).bind fun ls'=>k ⟨.undef,[(l,some (.var T' ls' true))],[]⟩
     | _=>none
   | .vp l sz j o=>match O l with
     | some (some (.row E xs false))=>bif d8u sz (Rp.sz (I E)) then (c9h O vs).bind fun t=>Option.bind xs[j]? fun e=>bif !(t.2.elem l) then (b7u tb o t.1 [.dat E e]).bind fun ls' =>
        (ofG tb E ls').bind fun e'=>k ⟨.undef,Q3 O t.2++[(l,some (.row E (xs.set j e') false))],[]⟩ else none else none
     | some (some (.nst E E' u xs q))=>bif d8u sz (Rp.sz (I E)) then Option.bind xs[j]? fun e=>(match vs with
        | [.vw l2]=>(match O l2 with
          | some (some (.row E2 ys true))=>bif d8u E2 E'&&d8u o u&&!(d8u l2 l)&&d8u q (j+2) then (b7u tb o [.sl E2 ys false] [.dat E e]).bind fun ls'=>(ofG tb E ls').bind fun e'=>k ⟨.undef,[(l2,none),(l,some (.nst E E' u (xs.set j e') 0))],[]⟩ else none
          | some (some (.row E2 ys false))=>bif (d8V u o||d89 (o+1) u)&&d8V u sz&&!(d8u l2 l) then (b7u tb o [.sl E2 ys false] [.dat E e]).bind fun ls'=>(ofG tb E ls').bind fun e'=>k ⟨.undef,[(l2,some (.row E2 ys true)),(l,some (.nst E E' u (xs.set j e') q))],[]⟩ else none
          | _=>none)
        | _=>none) else none
     | _=>none
   | .ep E x o=>(match vs with
     | [.int i a]=>(a6E tb T [.dat E x] o).bind fun z=>(match z with
       | .int i' b=>if i=i' then (bif a==b then k ⟨.undef,[],[]⟩ else none) else none
       | _=>none)
     | _=>none)
   | _=>none) else none
 | .buildSlice T len ps=>(tb.el T).bind fun E=>(tb.bytes E).bind fun _=>match len,ps.toList with
   | 0,[]=>val k (.nl E)
   | len,l=>(d1o tb O n G E 0 l).bind fun xs =>
      bif (d8u len xs.1.length&&d8V 0 len&&d89 (len*Rp.sz (I E)) 16777216) then k ⟨.vw nb,Q3 O xs.2,[.row E xs.1 false]⟩ else none
 | .makeSlice T x y=>(evP n G x).bind fun p=>(evP n G y).bind fun q=>(asI p).bind fun len=>(asI q).bind fun cap=>(tb.el T).bind fun E=>(tb.bytes E).bind fun b=>(tb.zero E).bind fun zs=>(tb.of E zs).bind fun z =>
    (a6d len cap b).bind fun m=>k ⟨.vw nb,[],[d1b tb E zs (d8D m z)]⟩
 | .call ⟨.builtin .len,args,ats⟩=>match args.toList,ats.toList with
   | [x],[T]=>(evP n G x).bind fun p=>match p with
     | .sl _ xs _=>(tb.el T).bind fun _=>val k (.int .i64 (xs.length:Int))
     | .nl _=>(tb.el T).bind fun _=>val k (.int .i64 0)
     | .vw l=>match O l with
       | some (some (.row _ xs _))=>(tb.el T).bind fun _=>val k (.int .i64 (xs.length:Int))
       | some (some (.ro _ xs))=>(tb.el T).bind fun _=>val k (.int .i64 (xs.length:Int))
       | some (some (.bo _ xs))=>(tb.el T).bind fun _=>val k (.int .i64 (xs.length:Int))
       | some (some (.nst _ _ _ xs _))=>(tb.el T).bind fun _=>val k (.int .i64 (xs.length:Int))
       | _=>none
     | .vs l _ lo=>match O l with
       | some (some (.row _ xs _))=>(tb.el T).bind fun _=>val k (.int .i64 ((xs.drop lo).length:Int))
       | _=>none
     | .str t=>bif tb.isStr T then val k (.int .i64 (t.size:Int)) else none
     | _=>none
   | _,_=>none
 | .call ⟨.builtin .clear,args,ats⟩=>match args.toList,ats.toList with
   | [x],[T]=>(evP n G x).bind fun p=>(tb.el T).bind fun E=>(tb.bytes E).bind fun _=>(tb.zero E).bind fun zs=>(tb.of E zs).bind fun z=>match p with
     | .vs l sz lo=>match O l with
       | some (some (.row E' xs false))=>bif d8u sz (Rp.sz (I E))&&d8V lo xs.length then (a13 E E' xs).bind fun ys=>k ⟨.tup [],[(l,some (.row E (ys.take lo++d8D (ys.length-lo) z) false))],[]⟩ else none
       | _=>none
     | _=>none
   | _,_=>none
 | .call ⟨.builtin .max,args,ats⟩=>match args.toList,ats.toList with
   | [x,y],[_,_]=>(evP n G x).bind fun p=>(evP n G y).bind fun q=>match p,q with
     | .int i a,.int i' b=>if i=i' then val k (.int i (max a b)) else none
     | _,_=>none
   | _,_=>none
 | .call ⟨.builtin .min,args,ats⟩=>match args.toList,ats.toList with
   | [x,y],[_,_]=>(evP n G x).bind fun p=>(evP n G y).bind fun q=>match p,q with
     | .int i a,.int i' b=>if i=i' then val k (.int i (min a b)) else none
     | _,_=>none
   | _,_=>none
 | .call ⟨.builtin .append,args,ats⟩=>match args.toList,ats.toList with
   | [x,y],[T,T']=>(evT tb n G (some T) x).bind fun p=>(evT tb n G (some T') y).bind fun q=>(tb.el T).bind fun E=>(tb.bytes E).bind fun b=>(d3h tb O E T T' q).bind fun ys=>match p with
     | .nl _=>(k9 (0+ys.1.length) b).bind fun _=>k ⟨.vw nb,Q3 O ys.2,[.row E ys.1 false]⟩
     | .sl E' xs true=>(a13 E E' xs).bind fun xs'=>(k9 (xs'.length+ys.1.length) b).bind fun _=>k ⟨.vw nb,Q3 O ys.2,[.row E (xs'++ys.1) true]⟩
     | .vw l=>match O l with
       | some (some (.row E' xs fl))=>(a13 E E' xs).bind fun xs'=>(k9 (xs'.length+ys.1.length) b).bind fun _=>bif ys.2.elem l then none else k ⟨.vw nb,Q3 O ys.2++[(l,none)],[.row E (xs'++ys.1) fl]⟩
       | _=>none
     | _=>none
   | _,_=>none
 | .call ⟨.value (.func f),args,ats⟩=>(evs tb n G args.toList ats.toList).bind fun ps=>disp ρ f O nb ps k
 | .call ⟨.value (.tmp t),args,ats⟩=>(evP n G (.tmp t)).bind fun p=>match p with
   | .clo f ls=>(evs tb n G args.toList ats.toList).bind fun ps=>disp ρ f O nb (ps++ls) k
   | .mth f ls=>(evs tb n G args.toList ats.toList).bind fun ps=>disp ρ f O nb (ls++ps) k
   | .fn ks rs g=>(evs tb n G args.toList ats.toList).bind fun ps=>(a7T tb O ks ps).bind fun q=>(app ks g q.1).bind fun r=>k ⟨a8o (pvT tb nb rs r),Q3 O q.2,[]⟩
   | _=>none
 | .makeMap T none=>(tb.mp T).bind fun kd=>k ⟨.mp nb,[],[.map T kd []]⟩
 | .lookup T x y ok=>(evP n G x).bind fun p=>(evP n G y).bind fun q=>match p,q with
   | .mp l,.str t=>match O l with
     | some (some (.map T' kd m))=>bif d8u T T' then (tb.mp T).bind fun kd'=>bif decide (kd'=kd) then (c4O kd).bind fun z=>val k (bif ok then .tup [a7B tb kd ((a29 m t).getD z),.bool (a29 m t).isSome] else a7B tb kd ((a29 m t).getD z)) else none else none
     | some (some (.rom T' kd m))=>bif d8u T T' then (tb.mp T).bind fun kd'=>bif decide (kd'=kd) then (c4O kd).bind fun z=>val k (bif ok then .tup [a7B tb kd ((a29 m t).getD z),.bool (a29 m t).isSome] else a7B tb kd ((a29 m t).getD z)) else none else none
     | _=>none
   | _,_=>none
 | .mapUpdate T x y z=>(evP n G x).bind fun p=>(evP n G y).bind fun q=>(evP n G z).bind fun r=>match p,q with
   | .mp l,.str t=>match O l with
     | some (some (.map T' kd m))=>bif d8u T T' then (tb.mp T).bind fun kd'=>bif decide (kd'=kd) then (a9c tb O kd r).bind fun a=>k ⟨.undef,Q3 O a.2++[(l,some (.map T kd (a5j m t a.1)))],[]⟩ else none else none
     | _=>none
   | _,_=>none
 | .insert T x y z=>(evP n G x).bind fun p=>(evP n G y).bind fun q=>(evP n G z).bind fun r=>match p,q with
   | .mp l,.str t=>match O l with
     | some (some (.map T' kd m))=>bif d8u T T' then (tb.mp T).bind fun kd'=>bif decide (kd'=kd) then (a9c tb O kd r).bind fun a=>k ⟨.undef,Q3 O a.2++[(l,some (.map T kd (a5j m t a.1)))],[]⟩ else none else none
     | _=>none
   | _,_=>none
 | _=>none
end
omit [∀ E,Rp (I E)] in
theorem d1v {α β:Type}{a:Option α}{f g:α->Option β}(h:∀ x,f x=g x):a.bind f=a.bind g:=by rw [funext h]
omit [∀ E,Rp (I E)] in
theorem d8c {α:Type}{b:Bool}{x y x' y':α}(h:x=x')(k:y=y'):(bif b then x else y)=bif b then x' else y':=by rw [h,k]
omit [∀ E,Rp (I E)] in
theorem ifc {α:Type}{p:Prop} [Decidable p] {x y x' y':α}(h:x=x')(k:y=y'):(if p then x else y)=if p then x' else y':=by rw [h,k]
theorem c6z {α β:Type}(g:α->Option β){f:Nat->Option β}{f':Nat->Option α}:∀ (m i:Nat) (j:Int),(∀ i,f i=(f' i).bind g)->b41 m i j f=(b41 m i j f').bind g
 | 0,_,_,_=>rfl
 | m+1,i,j,h=>by
   simp only [b41]
   cases j==Int.ofNat i
   ·exact c6z g m (i+1) j h
   ·exact h i
omit [∀ E,Rp (I E)] in
theorem b0F {α:Type}{f:Nat->Option α}{r:α}:∀ {m i:Nat} {j:Int},b41 m i j f=some r->∃ i',i<=i'/\i'<i+m/\j=Int.ofNat i'/\f i'=some r
 | 0,_,_,h=>by cases h
 | m+1,i,j,h=>by
   simp only [b41] at h
   cases hj:j==Int.ofNat i with
   | true =>
     rw [hj] at h
     exact ⟨i,d8r _,by omega,by simpa using hj,h⟩
   | false =>
     rw [hj] at h
     obtain ⟨i',h1,h2,h3,h4⟩:=b0F h
     exact ⟨i',by omega,by omega,h3,h4⟩
theorem d36 {P:Program}{tb:Tab I}{disp:a0f I}(hd:DispOk P disp){n:Nat}{G:Nat->Option (PV I)}{O:Obs I}{nb:Nat}{ty:TypeId}{op:Op}{ρ:Type}(k:Ef I->Option ρ) :
 eff tb disp n G O nb ty op k=(eff tb disp n G O nb ty op some).bind k:=by
 have hb:∀ (b:Bool) (x y:Option (Ef I)),(bif b then x else y).bind k=bif b then x.bind k else y.bind k:=fun b x y=>by cases b<;>rfl
 have hi:∀ (p:Prop) [Decidable p] (x y:Option (Ef I)),(if p then x else y).bind k=if p then x.bind k else y.bind k:=fun p _ x y=>by by_cases h:p<;>simp [h]
 unfold eff
 split<;>(try simp only [c97])<;>(try simp only [d86,hb])
 all_goals repeat' (first | rfl | (refine c6z k _ _ _ fun _=>?_) | exact hd.par _ _ _ _ _ _ | (refine d1v fun _=>?_) | (refine d8c ?_ ?_) | (refine ifc ?_ ?_) | split | (simp only [d86,hb,hi,d8l,Option.bind_none]))
end
end Go.Qx
end
section
open Array renaming getElem?_eq_getElem->d9c,getElem?_toList->d8F,length_toList->d8R
open Bool renaming and_eq_true->d8p
open List renaming all_eq_true->d8q,append_assoc->d8E,append_nil->d82,eq_nil_of_length_eq_zero->d8P,ext_getElem?->d9O,getElem?_append_left->d8H,getElem?_append_right->d8z,getElem?_eq_none->d8U,getElem?_eq_some_iff->d8o,getElem?_take_of_lt->d8K,getElem?_toArray->d9s,length_append->d8t,length_drop->d83,length_map->d8L,length_nil->d8I,length_replicate->d99,length_take->d8G,map_congr_left->d9z,nil_append->d9y,replicate->d8D,replicate_succ->e0e,size_toArray->d9P,take_append_drop->d88,take_left->d9l
open Nat renaming add_mul->d8W,add_zero->d9h,ble->d89,le_mul_of_pos_right->d9Q,le_of_ble_eq_true->d8N,le_of_not_lt->d9R,le_refl->d8r,le_trans->d8C,min_eq_left->d9x,mul_le_mul_right->d8J,mul_one->d9I,one_mul->d90,zero_add->d8Q,zero_le->d8w
namespace Go.Qx
open Go Go.RowKit Go.Sx
section
variable {P:Program}{ops:Array Oper}{Q:Exit->Act->World->Prop}{n:Nat}{F:Fr}{rest:List Oper}{d:Option Nat}{ty:TypeId}{pos:String}{aft:Array Edge}{σ:S}
structure Apd (w w':World)(E:TypeId)(sz m:Nat)(cs:List Value)(A:Option Addr)(c g:Nat):Prop where
 A:A=some ⟨g,0,none⟩
 le:m<=c
 max:c<=maxLen
 row:∃ cur,w'.heap[g]?=some (.cells cur E (0,0))/\cur.size=c*sz/\cur.toList.take (m*sz)=cs
 old:∀ b,b<w.heap.size->b≠g->w'.heap[b]?=w.heap[b]?
structure Calm (w w':World):Prop where
 os:w'.os=w.os
 tape:w'.tape=w.tape
 output:w'.output=w.output
 size:w.heap.size<=w'.heap.size
 drawn:w.drawn<=w'.drawn
theorem Calm.refl (w:World):Calm w w:=⟨rfl,rfl,rfl,d8r _,d8r _⟩
theorem b92 {w w1:World}{E:TypeId}{sz m:Nat}{v:Value}{cs:List Value}(hown:w1.ownsRow w.heap.size E sz v m cs)(hgrow:w.grownBy w1 none)(hne:m≠0)(hdr:w.drawn<=w1.drawn) :
 ∃ A c g,v=.slice A m c/\Apd w w1 E sz m cs A c g/\w.heap.size<=g/\Calm w w1:=by
 rcases hown.2 with ⟨_,h0⟩ | ⟨g,cap,cur,rfl,hg,hh,h1,h2,h3,h4⟩
 ·exact absurd h0 hne
 ·exact ⟨_,cap,g,rfl,⟨rfl,h1,h2,⟨cur,hh,h3,h4⟩,fun b hb _=>hgrow.block b hb (by simp)⟩,hg,⟨hgrow.os,hgrow.tape,hgrow.output,hgrow.size,hdr⟩⟩
theorem c5X {T E:TypeId}{z:Value}{sz bytes:Nat}{A A2:Option Addr}{c c2 nx:Nat}{w:World}(hT:a33 P T E z sz bytes)(hle:nx<=c) :
 (Builtin.append_ #[T,T] ty #[.slice A nx c,.slice A2 0 c2]).run P w=.ok (.slice A nx c) w:=by
 obtain ⟨hu,⟨i,hi,hz,hsz,hby⟩,hzs,hp,hbp⟩:=hT
 have hf:∀ w:World,(Builtin.firstCells i.size 0 (.slice A2 0 c2)).run P w=.ok #[] w:=by
  intro w
  cases A2<;>simp [Builtin.firstCells,loadCells,loadCellsFrom]
 cases A<;>simp [Builtin.append_,run_underlying hu,sizeOf,typeInfo,hi,Builtin.lenOf,hle,hf,storeCells]
theorem c9M {T E:TypeId}{z:Value}{sz bytes:Nat}{A A2:Option Addr}{c2 nx ny:Nat}{os ns:List Value}{w:World}(hT:a33 P T E z sz bytes)(hos:os.length=nx*sz)(hns:ns.length=ny*sz)
 (h1:∀ v∈ns,v.oneCell'=true) (hny:ny≠0) (hsrc:∃ b2 o2,A2=some ⟨b2,o2,none⟩/\w.rangeAt b2 o2 ns) (hroom:(nx+ny)*bytes<=140737488355328) (hown:nx≠0->∃ b o,A=some ⟨b,o,none⟩/\w.rangeAt b o os) :
 ∃ w' A' c' g,(Builtin.append_ #[T,T] ty #[.slice A nx nx,.slice A2 ny c2]).run P w=.ok (.slice A' (nx+ny) c') w'/\Apd w w' E sz (nx+ny) (os++ns) A' c' g/\w.heap.size<=g/\Calm w w':=by
 obtain ⟨hu,⟨i,hi,hz,hsz,hby⟩,hzs,hp,hbp⟩:=hT
 obtain ⟨b2,o2,rfl,hse⟩:=hsrc
 have hbpos:nx+ny<=maxLen:=by
  have:nx+ny<=(nx+ny)*bytes:=d9Q _ hbp
  simp only [maxLen]; omega
 have hny':∀ j u,ns[j]?=some u->w.cell? ((⟨b2,o2,none⟩:Addr).add j)=some u:=fun j u hj=>by rw [Addr.add_mid]; exact hse j u hj
 have key:∃ v' w',(Builtin.append_ #[T,T] ty #[.slice A nx nx,.slice (some ⟨b2,o2,none⟩) ny c2]).run P w=.ok v' w'/\w'.ownsRow w.heap.size E sz v' (nx+ny) (os++ns)/\w.grownBy w' none:=by
  cases A with
  | none =>
    have hx0:nx=0:=by
     apply Classical.byContradiction
     intro hne
     obtain ⟨_,_,e,_⟩:=hown hne
     cases e
    subst hx0
    have:os=[]:=d8P (by simpa using hos)
    subst this
    obtain ⟨v',w',e1,e2,e3,_⟩:=run_append_own (P:=P) w w.heap.size T ty E i z sz bytes hu hi hz hsz hby hzs hp (.slice none 0 0) 0 [] (World.ownsRow_nil w _ E _) ⟨b2,o2,none⟩ ny c2 ns hns hny' h1 (by simpa using hbpos) (by simpa using hroom) (d8r _)
    exact ⟨v',w',e1,by simpa using e2,by simpa [Value.ownBlock] using e3⟩
  | some a =>
    have hold:∀ j u,os[j]?=some u->w.cell? (a.add j)=some u:=by
     intro j u hj
     by_cases hne:nx=0
     ·subst hne
      have:os=[]:=d8P (by simpa using hos)
      subst this; simp at hj
     ·obtain ⟨b,o,e,hs⟩:=hown hne
      injection e with e
      subst e
      rw [Addr.add_mid]
      exact hs j u hj
    exact run_append_arg_grows (P:=P) w T ty E i z sz bytes hu hi hz hsz hby hzs hp a nx nx os hos hold ⟨b2,o2,none⟩ ny c2 ns hns hny' (by omega) hbpos hroom
 obtain ⟨v',w',e1,e2,e3⟩:=key
 obtain ⟨A',c',g,rfl,k1,k2,k3⟩:=b92 e2 e3 (by omega) (a7h _ e1)
 exact ⟨w',A',c',g,e1,k1,k2,k3⟩
theorem d0z {T E:TypeId}{z:Value}{sz bytes:Nat}{A2:Option Addr}{c c2 nx ny g:Nat}{os ns:List Value}{cur:Array Value}{w:World}(hT:a33 P T E z sz bytes)(hos:os.length=nx*sz)(hns:ns.length=ny*sz)
 (h1:∀ v∈ns,v.oneCell'=true) (hny:ny≠0) (hsrc:∃ b2 o2,A2=some ⟨b2,o2,none⟩/\w.rangeAt b2 o2 ns) (hroom:(nx+ny)*bytes<=140737488355328)
 (hh:w.heap[g]?=some (.cells cur E (0,0))) (hc:nx<=c) (hmax:c<=maxLen) (hcs:cur.size=c*sz) (htk:cur.toList.take (nx*sz)=os) :
 ∃ w' A' c' g',(Builtin.append_ #[T,T] ty #[.slice (some ⟨g,0,none⟩) nx c,.slice A2 ny c2]).run P w=.ok (.slice A' (nx+ny) c') w'/\Apd w w' E sz (nx+ny) (os++ns) A' c' g'/\(w.heap.size<=g'\/g'=g)/\Calm w w' /\
  (∀ o v,o<nx*sz->w.cell? ⟨g,o,none⟩=some v->w'.cell? ⟨g,o,none⟩=some v):=by
 have hT':=hT
 obtain ⟨hu,⟨i,hi,hz,hsz,hby⟩,hzs,hp,hbp⟩:=hT
 obtain ⟨b2,o2,rfl,hse⟩:=hsrc
 have hbpos:nx+ny<=maxLen:=by
  have:nx+ny<=(nx+ny)*bytes:=d9Q _ hbp
  simp only [maxLen]; omega
 have hny':∀ j u,ns[j]?=some u->w.cell? ((⟨b2,o2,none⟩:Addr).add j)=some u:=fun j u hj=>by rw [Addr.add_mid]; exact hse j u hj
 have hcell:∀ o,w.cell? ⟨g,o,none⟩=cur[o]?:=fun o=>by simp [World.cell?,hh]
 by_cases hroomy:nx+ny<=c
 ·have hcl:nx*sz+ns.length<=cur.size:=by
   rw [hns,hcs,<- d8W]; exact d8J _ hroomy
  have hr:=run_append_room (P:=P) w T ty E i hu hi g nx c cur hh ⟨b2,o2,none⟩ ny c2 ns (by rw [hsz]; exact hns) hny' h1 hroomy (by rw [hsz]; exact hcl)
  rw [hsz] at hr
  let row:=(cur.toList.take (nx*sz)++ns++cur.toList.drop (nx*sz+ns.length)).toArray
  have hrow:(w.setRow g row).heap[g]?=some (.cells row E (0,0)):=setRow_heap w g cur row E _ hh
  have hoth:∀ k,k≠g->(w.setRow g row).heap[k]?=w.heap[k]?:=fun k hk=>setRow_other w g k row hk
  refine ⟨w.setRow g row,some ⟨g,0,none⟩,c,g,hr,⟨rfl,hroomy,hmax,⟨row,hrow,?_,?_⟩,fun b _ hb=>hoth b hb⟩,.inr rfl,⟨rfl,rfl,rfl,by simp [World.setRow],d8r _⟩,fun o v ho hv=>?_⟩
  ·simp only [row,d9P,d8t,d8G,d83,d8R]
   omega
  ·simp only [row]
   rw [htk,d8W,<- hns,<- hos,<- d8t]
   exact d9l
  ·have e2:(w.setRow g row).cell? ⟨g,o,none⟩=row[o]?:=by simp [World.cell?,hrow]
   have e3:row[o]?=(cur.toList.take (nx*sz)++ns++cur.toList.drop (nx*sz+ns.length))[o]?:=by simp [row]
   have hlt:o<(cur.toList.take (nx*sz)).length:=by rw [htk,hos]; exact ho
   rw [e2,e3,d8E,d8H hlt,d8K ho,d8F,<- hcell,hv]
 ·have hold:∀ j u,os[j]?=some u->w.cell? ((⟨g,0,none⟩:Addr).add j)=some u:=by
   intro j u hj
   have hj':=(d8o.1 hj).1
   rw [Addr.add_mid,d8Q,hcell,<- d8F,<- hj,<- htk,d8K (by omega)]
  obtain ⟨v',w',e1,e2,e3⟩:=run_append_arg_grows (P:=P) w T ty E i z sz bytes hu hi hz hsz hby hzs hp ⟨g,0,none⟩ nx c os hos hold ⟨b2,o2,none⟩ ny c2 ns hns hny' (by omega) hbpos hroom
  obtain ⟨A',c',g',rfl,k1,k2,k3⟩:=b92 e2 e3 (by omega) (a7h _ e1)
  refine ⟨w',A',c',g',e1,k1,.inl k2,k3,fun o v ho hv=>?_⟩
  have hlt:=a0E hh
  exact (a1n (k1.old g hlt (by omega)) o).trans hv
def ApF (P:Program)(ty T T2 E:TypeId)(sz by_:Nat)(w:World)(v2:Value)(ns:List Value)(ny:Nat):Prop :=
 ∀ (A:Option Addr) (nx:Nat) (os:List Value),os.length=nx*sz->(nx+ny)*by_<=140737488355328->(nx≠0->∃ b o,A=some ⟨b,o,none⟩/\w.rangeAt b o os) ->
  ∃ w' A' c' g,(Builtin.append_ #[T,T2] ty #[.slice A nx nx,v2]).run P w=.ok (.slice A' (nx+ny) c') w'/\Apd w w' E sz (nx+ny) (os++ns) A' c' g/\w.heap.size<=g/\Calm w w'
def ApR (P:Program)(ty T T2 E:TypeId)(sz by_:Nat)(w:World)(v2:Value)(ns:List Value)(ny:Nat):Prop :=
 ∀ (nx c g:Nat) (os:List Value) (cur:Array Value),os.length=nx*sz->(nx+ny)*by_<=140737488355328->w.heap[g]?=some (.cells cur E (0,0))->nx<=c->c<=maxLen->cur.size=c*sz->cur.toList.take (nx*sz)=os ->
  ∃ w' A' c' g',(Builtin.append_ #[T,T2] ty #[.slice (some ⟨g,0,none⟩) nx c,v2]).run P w=.ok (.slice A' (nx+ny) c') w'/\Apd w w' E sz (nx+ny) (os++ns) A' c' g'/\(w.heap.size<=g'\/g'=g)/\Calm w w' /\
   (∀ o v,o<nx*sz->w.cell? ⟨g,o,none⟩=some v->w'.cell? ⟨g,o,none⟩=some v)
def ApN (P:Program)(ty T T2:TypeId)(w:World)(v2:Value):Prop:=∀ (A:Option Addr) (nx c:Nat),nx<=c->(Builtin.append_ #[T,T2] ty #[.slice A nx c,v2]).run P w=.ok (.slice A nx c) w
def ApS (P:Program)(ty T T2 E:TypeId)(by_:Nat){α:Type} [Rp α] (σ:S)(v2:Value)(ys:List α):Prop :=
 ∃ ns,J6 σ ys ns/\(ys=[]->ApN P ty T T2 σ.w v2)/\(ys≠[]->ApF P ty T T2 E (Rp.sz α) by_ σ.w v2 ns ys.length/\ApR P ty T T2 E (Rp.sz α) by_ σ.w v2 ns ys.length)
theorem d5S {α:Type} [Rp α] {T E:TypeId}{z:Value}{bytes:Nat}{ys:List α}{A2:Option Addr}{c2:Nat}(hsrc:Bor NoB σ ys A2)(hT:a33 P T E z (Rp.sz α) bytes):ApS P ty T T E bytes σ (.slice A2 ys.length c2) ys:=by
 obtain ⟨ns,hfy,haddr⟩:=hsrc
 refine ⟨ns,hfy,fun e A nx c hle=>?_,fun hys=>?_⟩
 ·subst e
  exact c5X hT hle
 ·have hny:ys.length≠0:=fun e=>hys (d8P e)
  obtain ⟨b2,o2,e2,hse,_⟩:=haddr hys
  have hsrc':∃ b2 o2,A2=some ⟨b2,o2,none⟩/\σ.w.rangeAt b2 o2 ns:=⟨b2,o2,e2,hse⟩
  exact ⟨fun A nx os h1 h2 h3=>c9M hT h1 hfy.len hfy.one hny hsrc' h2 h3,fun nx c g os cur h1 h2 h3 h4 h5 h6 h7=>d0z hT h1 hfy.len hfy.one hny hsrc' h2 h3 h4 h5 h6 h7⟩
theorem c3u {T T2 E:TypeId}{z:Value}{sz bytes:Nat}{A:Option Addr}{c nx:Nat}{s:ByteArray}{w:World}(hT:a33 P T E z sz bytes)(hu2:P.underlying T2=some .string)(h0:s.size=0)(hle:nx<=c) :
 (Builtin.append_ #[T,T2] ty #[.slice A nx c,.string s]).run P w=.ok (.slice A nx c) w:=by
 obtain ⟨hu,⟨i,hi,hz,hsz,hby⟩,hzs,hp,hbp⟩:=hT
 have hf:∀ w:World,(Builtin.firstCells i.size 0 (.string s)).run P w=.ok #[] w:=by
  intro w
  have e:=Go.Lib.run_firstCells_string (P:=P) w i.size s
  have e1:Go.Lib.strCells s=[]:=d8P (by rw [Go.Lib.strCells_length]; exact h0)
  rw [h0,e1] at e
  exact e
 cases A<;>simp [Builtin.append_,run_underlying hu,run_underlying hu2,sizeOf,typeInfo,hi,Builtin.lenOf,h0,hle,hf,storeCells]
theorem c7Q {w:World}{E:TypeId}{z:Value}(hz:z.cells.size=1){xs ns:List Value}{n k old:Nat}(hx:xs.length=n)(hn:ns.length=k)(ho:old<n+k)(hm:n+k<=maxLen) :
 (w.drew.alloc (.cells (xs.toArray++ns.toArray++Builtin.zeroCells z.cells (grownCap w (n+k) old E-(n+k))) E)).ownsRow w.heap.size E 1 (.slice (some ⟨w.heap.size,0,none⟩) (n+k) (grownCap w (n+k) old E)) (n+k) (xs++ns) /\
   w.grownBy (w.drew.alloc (.cells (xs.toArray++ns.toArray++Builtin.zeroCells z.cells (grownCap w (n+k) old E-(n+k))) E)) none:=by
 have hge:=grownCap_ge w (n+k) old E
 have hcm:grownCap w (n+k) old E<=maxLen:=grownCap_le_maxLen w (n+k) old E hm
 have hlen:(xs++ns).length=(n+k)*1:=by rw [d8t,hx,hn,d9I]
 refine ⟨⟨hlen,.inr ⟨w.heap.size,_,_,rfl,d8r _,heap_alloc_new w.drew _,hge,hcm,?_,?_⟩⟩,⟨rfl,rfl,rfl,by simp,fun j hj _=>heap_alloc_old w.drew _ hj⟩⟩
 ·simp only [Array.size_append,d9P,size_zeroCells,hz,hx,hn]
  omega
 ·simp only [Array.toList_append,d8E]
  rw [<- d8E,<- hlen]
  exact d9l
theorem c73 {T T2 E:TypeId}{z:Value}{bytes:Nat}{s:ByteArray}{w:World}(hT:a33 P T E z 1 bytes)(hu2:P.underlying T2=some .string)(hn:s.size≠0):ApF P ty T T2 E 1 bytes w (.string s) (Go.Lib.strCells s) s.size:=by
 obtain ⟨hu,⟨i,hi,hz,hsz,hby⟩,hzs,hp,hbp⟩:=hT
 intro A nx os hos hroom hown
 rw [d9I] at hos
 have hmax:nx+s.size<=140737488355328:=d8C (d9Q _ hbp) hroom
 have hml:nx+s.size<=maxLen:=by simp only [maxLen]; omega
 cases A with
 | none =>
   have hx0:nx=0:=by
    apply Classical.byContradiction
    intro hne
    obtain ⟨_,_,e,_⟩:=hown hne
    cases e
   subst hx0
   have:os=[]:=d8P hos
   subst this
   have hfit:s.size*i.bytes<=281474976710656:=by rw [hby]; rw [d8Q] at hroom; omega
   have hr:=run_append_nil_string (P:=P) (ty:=ty) w T T2 E i z hu hu2 hi hz s (by omega) (by omega) hfit
   have e1:(s.data.map fun b=>Value.int .u8 b.toNat)=(Go.Lib.strCells s).toArray:=by
    apply Array.ext'
    simp [Go.Lib.strCells]
   rw [e1] at hr
   have hgr:=c7Q (w:=w) (E:=E) hzs (xs:=[]) (ns:=Go.Lib.strCells s) (old:=0) rfl (Go.Lib.strCells_length s) (by omega) hml
   simp only [d8I,d8Q,d9y,Array.empty_append] at hgr ⊢
   obtain ⟨A',c',g,e,k1,k2,k3⟩:=b92 hgr.1 hgr.2 hn (a7h _ hr)
   rw [e] at hr
   exact ⟨_,A',c',g,hr,k1,k2,k3⟩
 | some a =>
   have hold:∀ j u,os[j]?=some u->w.cell? (a.add j)=some u:=by
    intro j u hj
    by_cases hne:nx=0
    ·subst hne
     have:os=[]:=d8P hos
     subst this; simp at hj
    ·obtain ⟨b,o,e,hs⟩:=hown hne
     injection e with e
     subst e
     rw [Addr.add_mid]
     exact hs j u hj
   have hr:=Go.Lib.run_append_grow_string (P:=P) (ty:=ty) w T T2 E i z hu hu2 hi hz a nx nx os (by rw [hsz,d9I]; exact hos) hold s (by omega) (by omega) (by rw [hby]; exact growslice_fits (by omega) hroom)
   have hgr:=c7Q (w:=w) (E:=E) hzs (old:=nx) hos (Go.Lib.strCells_length s) (by omega) hml
   obtain ⟨A',c',g,e,k1,k2,k3⟩:=b92 hgr.1 hgr.2 (by omega) (a7h _ hr)
   rw [e] at hr
   exact ⟨_,A',c',g,hr,k1,k2,k3⟩
theorem c9R {T T2 E:TypeId}{z:Value}{bytes:Nat}{s:ByteArray}{w:World}(hT:a33 P T E z 1 bytes)(hu2:P.underlying T2=some .string)(hn:s.size≠0):ApR P ty T T2 E 1 bytes w (.string s) (Go.Lib.strCells s) s.size:=by
 obtain ⟨hu,⟨i,hi,hz,hsz,hby⟩,hzs,hp,hbp⟩:=hT
 intro nx c g os cur hos hroom hh hc hmaxc hcs htk
 rw [d9I] at hos hcs htk
 have hmax:nx+s.size<=140737488355328:=d8C (d9Q _ hbp) hroom
 have hml:nx+s.size<=maxLen:=by simp only [maxLen]; omega
 have hcell:∀ o,w.cell? ⟨g,o,none⟩=cur[o]?:=fun o=>by simp [World.cell?,hh]
 by_cases hroomy:nx+s.size<=c
 ·have hr:=Go.Lib.run_append_room_string (P:=P) (ty:=ty) w T T2 E i hu hu2 hi hsz g nx c cur hh s hroomy (by omega)
  let row:=(cur.toList.take nx++Go.Lib.strCells s++cur.toList.drop (nx+s.size)).toArray
  have hrow:(w.setRow g row).heap[g]?=some (.cells row E (0,0)):=setRow_heap w g cur row E _ hh
  have hoth:∀ k,k≠g->(w.setRow g row).heap[k]?=w.heap[k]?:=fun k hk=>setRow_other w g k row hk
  refine ⟨w.setRow g row,some ⟨g,0,none⟩,c,g,hr,⟨rfl,hroomy,hmaxc,⟨row,hrow,?_,?_⟩,fun b _ hb=>hoth b hb⟩,.inr rfl,⟨rfl,rfl,rfl,by simp [World.setRow],d8r _⟩,fun o v ho hv=>?_⟩
  ·simp only [row,d9P,d8t,d8G,d83,d8R,Go.Lib.strCells_length]
   omega
  ·simp only [row]
   have e:(nx+s.size)*1=(os++Go.Lib.strCells s).length:=by rw [d8t,hos,Go.Lib.strCells_length,d9I]
   rw [htk,e]
   exact d9l
  ·rw [d9I] at ho
   have e2:(w.setRow g row).cell? ⟨g,o,none⟩=row[o]?:=by simp [World.cell?,hrow]
   have e3:row[o]?=(cur.toList.take nx++Go.Lib.strCells s++cur.toList.drop (nx+s.size))[o]?:=by simp [row]
   have hlt:o<(cur.toList.take nx).length:=by rw [htk,hos]; exact ho
   rw [e2,e3,d8E,d8H hlt,d8K ho,d8F,<- hcell,hv]
 ·have hold:∀ j u,os[j]?=some u->w.cell? ((⟨g,0,none⟩:Addr).add j)=some u:=by
   intro j u hj
   have hj':=(d8o.1 hj).1
   rw [Addr.add_mid,d8Q,hcell,<- d8F,<- hj,<- htk,d8K (by omega)]
  have hr:=Go.Lib.run_append_grow_string (P:=P) (ty:=ty) w T T2 E i z hu hu2 hi hz ⟨g,0,none⟩ nx c os (by rw [hsz,d9I]; exact hos) hold s (by omega) (by omega) (by rw [hby]; exact growslice_fits (by omega) hroom)
  have hgr:=c7Q (w:=w) (E:=E) hzs (old:=c) hos (Go.Lib.strCells_length s) (by omega) hml
  obtain ⟨A',c',g',e,k1,k2,k3⟩:=b92 hgr.1 hgr.2 (by omega) (a7h _ hr)
  rw [e] at hr
  refine ⟨_,A',c',g',hr,k1,.inl k2,k3,fun o v ho hv=>?_⟩
  have hlt:=a0E hh
  exact (a1n (k1.old g hlt (by omega)) o).trans hv
theorem d5h {α:Type} [Rp α] {T T2 E:TypeId}{z:Value}{bytes:Nat}{s:ByteArray}{g:Int->α}(hg:∀ (σ:S) (k:Int),Rp.cells σ (g k) [.int .u8 k])(hT:a33 P T E z (Rp.sz α) bytes)(hu2:P.underlying T2=some .string) :
 ApS P ty T T2 E bytes σ (.string s) (s.data.toList.map fun b=>g (b.toNat:Int)):=by
 have hsz:Rp.sz α=1:=(Rp.len (hg σ 0)).symm
 have hl:(s.data.toList.map fun b=>g (b.toNat:Int)).length=s.size:=by
  rw [d8L,d8R]; rfl
 rw [hsz] at hT
 have hf:∀ l:List UInt8,J6 σ (l.map fun b=>g (b.toNat:Int)) (l.map fun b=>Value.int .u8 b.toNat):=by
  intro l
  induction l with
  | nil=>exact rfl
  | cons b r ih=>exact ⟨_,_,rfl,hg σ _,ih⟩
 refine ⟨Go.Lib.strCells s,hf _,fun e A nx c hle=>?_,fun hys=>?_⟩
 ·exact c3u hT hu2 (by rw [<- hl,e]; rfl) hle
 ·have hny:s.size≠0:=fun e=>hys (d8P (hl.trans e))
  rw [hl,hsz]
  exact ⟨c73 hT hu2 hny,c9R hT hu2 hny⟩
theorem d08 {α:Type} [Rp α] {T T2 E:TypeId}{bytes:Nat}{xs ys:List α}{A:Option Addr}{v2:Value}{c:Nat}{ow:Option Nat}{fl:Bool}
 (hown:a0a ow fl E σ xs A c) (hsrc:ApS P ty T T2 E bytes σ v2 ys) (hroom:(xs.length+ys.length)*bytes<=140737488355328) :
 ∃ τ A' c' ow',(Builtin.append_ #[T,T2] ty #[.slice A xs.length c,v2]).run P σ.w=.ok (.slice A' (xs++ys).length c') τ.w/\Stp (fun b=>ow=some b) σ τ/\a0a ow' fl E τ (xs++ys) A' c' /\
  ∀ g,ow'=some g->ow=some g\/σ.N<=g:=by
 obtain ⟨ns,hfy,hnil,hcons⟩:=hsrc
 by_cases hys:ys=[]
 ·have hnil':=hnil hys
  subst hys
  refine ⟨σ,A,c,ow,?_,Stp.refl _ _,by simpa using hown,fun g h=>.inl h⟩
  rw [d82]
  exact hnil' A xs.length c hown.le.1
 have hny:ys.length≠0:=fun e=>hys (d8P e)
 obtain ⟨hF,hR⟩:=hcons hys
 have fin:∀ (os:List Value) (w':World) (A':Option Addr) (c' g:Nat),J6 σ xs os->Apd σ.w w' E (Rp.sz α) (xs.length+ys.length) (os++ns) A' c' g->Calm σ.w w'->(σ.N<=g\/ow=some g) ->
  (∀ g0,ow=some g0->(σ.L g0).1=bif fl then xs.length*Rp.sz α else 0) ->
  (∀ g0,ow=some g0->g=g0->∀ o v,o<xs.length*Rp.sz α->σ.w.cell? ⟨g0,o,none⟩=some v->w'.cell? ⟨g0,o,none⟩=some v) ->
  ∃ τ:S,τ.w=w'/\Stp (fun b=>ow=some b) σ τ/\a0a (some g) fl E τ (xs++ys) A' c':=by
  intro os w' A' c' g hfx ha hc hg hmk hcell
  let τ:S:=⟨w',fun b=>if b=g then (bif fl then (xs.length+ys.length)*Rp.sz α else 0,b) else σ.L b⟩
  have hL:∀ b,b≠g->τ.L b=σ.L b:=fun b hb=>by simp [τ,hb]
  have hLg:(τ.L g).1=bif fl then (xs.length+ys.length)*Rp.sz α else 0:=by simp [τ]
  have hw:Wext σ τ:=by
   refine ⟨hc.size,fun b hb=>?_,fun b o v ho hv=>?_,hc.drawn,fun b o hb hf=>by
    by_cases e:b=g
    ·obtain ⟨cur,h1,_⟩:=ha.row
     rw [e]
     exact a8J h1 o
    ·exact (a2l (ha.old b hb e) o).trans hf⟩
   ·by_cases e:b=g
    ·subst e
     rcases hg with hg | hg
     ·exact absurd hb (by omega)
     ·rw [hmk b hg,hLg]
      cases fl
      ·exact d8r _
      ·exact d8J _ (Nat.le_add_right _ _)
    ·rw [hL b e]; exact d8r _
   ·have hlt:=a3Z hv
    by_cases e:b=g
    ·subst e
     rcases hg with hg | hg
     ·exact absurd hlt (by show ¬ b<σ.N; omega)
     ·rw [hmk b hg] at ho
      cases fl
      ·exact absurd ho (by simp)
      ·exact hcell b hg rfl o v ho hv
    ·exact (a1n (ha.old b hlt e) o).trans hv
  obtain ⟨cur,h1,h2,h3⟩:=ha.row
  refine ⟨τ,rfl,⟨hw,hc.os,hc.tape,hc.output,fun b hb hn=>?_⟩,cur,os++ns,ha.A,h1,by rw [d8t]; exact ha.le,ha.max,h2,(hfx.mono hw).app (hfy.mono hw),by rw [d8t]; exact h3,by rw [d8t]; exact hLg⟩
  have hbg:b≠g:=by
   rintro rfl
   rcases hg with hg | hg
   ·omega
   ·exact hn hg
  exact ⟨ha.old b hb hbg,by rw [hL b hbg]⟩
 cases ow with
 | none =>
   have hfull:∃ os,J6 σ xs os/\c=xs.length/\(xs.length≠0->∃ b o,A=some ⟨b,o,none⟩/\σ.w.rangeAt b o os):=by
    rcases hown with ⟨rfl,rfl⟩ | ⟨_,rfl,_,_,os,hfo,hao⟩
    ·exact ⟨[],rfl,rfl,fun h=>absurd rfl h⟩
    ·exact ⟨os,hfo,rfl,fun hne=>by
      obtain ⟨b,o,e,hs⟩:=hao (fun e=>hne (by rw [e]; rfl))
      exact ⟨b,o,e,hs.2⟩⟩
   obtain ⟨os,hfo,rfl,hao⟩:=hfull
   obtain ⟨w',A',c',g,hr,ha,hg,hc⟩:=hF A xs.length os hfo.len hroom hao
   obtain ⟨τ,e,hst,ho⟩:=fin os w' A' c' g hfo ha hc (.inl hg) (fun g0 h=>by cases h) (fun g0 h=>by cases h)
   subst e
   exact ⟨τ,A',c',some g,by rw [d8t]; exact hr,hst,ho,fun g' h=>by cases h; exact .inr hg⟩
 | some g0 =>
   obtain ⟨cur,cs,rfl,hh,h1,h2,h3,h4,h5,h6⟩:=hown
   obtain ⟨w',A',c',g,hr,ha,hg,hc,hcell⟩:=hR xs.length c g0 cs cur h4.len hroom hh h1 h2 h3 h5
   obtain ⟨τ,e,hst,ho⟩:=fin cs w' A' c' g h4 ha hc (hg.imp id (fun e=>by rw [e])) (fun g1 h=>by cases h; exact h6) (fun g1 h e o v ho hv=>by cases h; exact hcell o v ho hv)
   subst e
   exact ⟨τ,A',c',some g,by rw [d8t]; exact hr,hst,ho,fun g' h=>by cases h; exact hg.symm.imp (fun e=>by rw [e]) id⟩
theorem c69 {α:Type} [Rp α] {T E:TypeId}{len:Nat}{ps:List (Nat×Operand)}{z:Value}{bytes:Nat}(hT:a33 P T E z (Rp.sz α) bytes)(xs:List α)(vs:List Value)
 (hps:ps.map (fun p=>(p.1,ev F p.2))=vs.zipIdx.map fun p=>(p.2,p.1)) (hk:ps.all (fun p=>Q2 n p.2)=true) (hlen:len=xs.length) (hlv:vs.length=xs.length) (hpos:0<len) (hsmall:d89 (len*Rp.sz α) 16777216=true)
 (hsz:∀ v∈vs,v.cells.size=Rp.sz α)
 (h:wpList P ops Q rest (fr n (J9 F d (.slice (some ⟨σ.N,0,none⟩) xs.length xs.length))) (σ.w.alloc (.cells (vs.flatMap (·.cells.toList)).toArray E))) :
 wpList P ops Q (⟨d,.buildSlice T len ps.toArray,ty,pos,aft,none⟩::rest) (fr n F) σ.w:=by
 subst hlen
 obtain ⟨hu,⟨i,hi,hz,hsi,hby⟩,hzs,hp,hbp⟩:=hT
 have hble:=d8N hsmall
 refine J7 rfl (.slice (some ⟨σ.N,0,none⟩) xs.length xs.length) (σ.w.alloc (.cells (vs.flatMap (·.cells.toList)).toArray E)) ?_ h
 have he:(ps.toArray.map fun (i,x)=>(i,(fr n F).eval x)).toList=vs.zipIdx.map fun p=>(p.2,p.1):=by
  rw [<- hps]
  simp only [Array.toList_map]
  apply d9z
  intro p hp'
  rw [w8 ((d8q.1 hk) p hp')]
 have hfill:=c2o (Rp.sz α) hp vs 0 (((Array.range (xs.length*Rp.sz α)).map (z.cells[·%z.cells.size]!)).toList) (by simp [hlv]) hsz
 simp only [Nat.zero_mul,List.take_zero,d9y,Array.toArray_toList] at hfill
 have hnz:¬ xs.length*Rp.sz α=0:=by
  have:=Nat.mul_pos hpos hp; omega
 show Sem.run P (do pure (Next.value (<- Instr.buildSlice T xs.length (ps.toArray.map fun (i,x)=>(i,(fr n F).eval x))))) σ.w=_
 have hns:¬ (xs.length*Rp.sz α>2^24):=by omega
 rw [hsi.symm] at hfill hnz hns
 have hrun:(Instr.buildSlice T xs.length (ps.toArray.map fun (i,x)=>(i,(fr n F).eval x))).run P σ.w=.ok (.slice (some ⟨σ.N,0,none⟩) xs.length xs.length) (σ.w.alloc (.cells (vs.flatMap (·.cells.toList)).toArray E)):=by
  unfold Instr.buildSlice
  rw [he]
  simp only [Sem.run_bind,run_underlying hu,Result.andThen_ok,sizeOf,typeInfo,run_program,hi,Sem.run_pure,if_neg hns,if_neg hnz,zeroValue,hz,hfill,newRow,run_newObj]
  rfl
 rw [Sem.run_bind,hrun]
 rfl
theorem d0C (z:Array Value)(hz:0<z.size):∀ n:Nat,(Builtin.zeroCells z n).toList=(d8D n z.toList).flatten:=by
 have hget:∀ (k j:Nat),j<k*z.size->((d8D k z.toList).flatten)[j]?=z[j%z.size]?:=by
  intro k
  induction k with
  | zero=>intro j hj; simp at hj
  | succ k ih =>
    intro j hj
    rw [e0e,List.flatten_cons]
    by_cases hlt:j<z.size
    ·rw [d8H (by simpa using hlt),Nat.mod_eq_of_lt hlt,d8F]
    ·rw [d8z (by simpa using d9R hlt),d8R,ih (j-z.size) (by rw [d8W,d90] at hj; omega)]
     congr 1
     exact (Nat.mod_eq_sub_mod (d9R hlt)).symm
 intro n
 apply d9O
 intro j
 by_cases hj:j<n*z.size
 ·rw [hget n j hj]
  have hmod:j%z.size<z.size:=Nat.mod_lt _ hz
  simp [Builtin.zeroCells,hj,d9c hmod,getElem!_pos z (j%z.size) hmod]
 ·rw [d8U (by simp [Builtin.zeroCells]; omega),d8U (by simp; omega)]
theorem d2d {α:Type} [Rp α] {T E:TypeId}{z:Value}{bytes lo g k:Nat}{xs:List α}{a:α}{A:Option Addr}(hT:a33 P T E z (Rp.sz α) bytes)(ha:Rp.cells σ a z.cells.toList)(hown:a0a (some g) false E σ xs A k)(hlt:lo<xs.length) :
 ∃ τ,(Builtin.clear_ #[T] ty #[.slice (some ⟨g,lo*Rp.sz α,none⟩) (xs.length-lo) (k-lo)]).run P σ.w=.ok (.tuple #[]) τ.w/\Stp (fun b=>b=g) σ τ/\a0a (some g) false E τ (xs.take lo++d8D (xs.length-lo) a) A k:=by
 obtain ⟨hu,⟨i,hi,hz,hsz,hby⟩,hzs,hp,hbp⟩:=hT
 obtain ⟨cur,cs,rfl,hh,h1,h2,h3,h4,h5,h6⟩:=hown
 have hzl:z.cells.toList.length=Rp.sz α:=by simpa using hzs
 let zs:=(d8D (xs.length-lo) z.cells.toList).flatten
 have hzsl:zs.length=(xs.length-lo)*Rp.sz α:=by simp [zs,hzs]
 have hz1:∀ v∈zs,v.oneCell'=true:=fun v hv=>by
  simp only [zs,List.mem_flatten,List.mem_replicate] at hv
  obtain ⟨l,⟨_,rfl⟩,hv⟩:=hv
  exact Rp.one ha v hv
 have hB:Blk 0 g (can σ) g E cur.toList:=⟨d8w _,by show σ.w.heap[g]?=_; simpa using hh,by show ((σ.L g).1,g)=_; rw [show (σ.L g).1=0 from h6]⟩
 have hmul:lo*Rp.sz α+(xs.length-lo)*Rp.sz α=xs.length*Rp.sz α:=by rw [<- d8W]; congr 1; omega
 have hcl:cur.toList.length=k*Rp.sz α:=(d8R (xs:=cur)).trans h3
 have hle:lo*Rp.sz α+zs.length<=cur.toList.length:=by
  rw [hzsl,hmul,hcl]; exact d8J _ h1
 have hcell:∀ j,σ.w.cell? ⟨g,j,none⟩=cur[j]?:=fun j=>by simp [World.cell?,hh]
 have hst:=run_storeCells_cells (P:=P) g (lo*Rp.sz α) zs 0 σ.w (fun j hj=>by
  rw [d9h,hcell]
  rw [d9c (by rw [hcl] at hle; rw [h3]; omega)]; rfl) (fun j hj=>by simp [World.frozen?,hh]) hz1
 rw [d9h] at hst
 refine ⟨⟨σ.w.setCells g (lo*Rp.sz α) zs,(can σ).L⟩,?_,c1b (b9s hB _ zs),?_⟩
 ·have hn:xs.length-lo=(xs.length-lo-1)+1:=by omega
  have e:(Builtin.zeroCells z.cells (xs.length-lo)).toList=zs:=d0C z.cells (by omega) _
  unfold Builtin.clear_
  simp only [d9s,List.getElem?_cons_zero,Sem.run_bind,run_underlying hu,Result.andThen_ok]
  generalize hm:xs.length-lo=m at *
  obtain ⟨m',rfl⟩:∃ m',m=m'+1:=⟨m-1,hn⟩
  simp [zeroValue,typeInfo,hi,hz,e,hst]
 ·have hsplit:xs=xs.take lo++xs.drop lo:=(d88 lo xs).symm
  rw [hsplit] at h4
  obtain ⟨c1,c2,e1,f1,f2⟩:=h4.split
  have hl1:c1.length=lo*Rp.sz α:=by rw [f1.len,d8G,d9x (by omega)]
  have hw:Wext σ ⟨σ.w.setCells g (lo*Rp.sz α) zs,(can σ).L⟩:=(d2p σ).trans (b9s hB (lo*Rp.sz α) zs).wext
  have hfz:∀ m:Nat,J6 (⟨σ.w.setCells g (lo*Rp.sz α) zs,(can σ).L⟩:S) (d8D m a) ((d8D m z.cells.toList).flatten):=by
   intro m
   induction m with
   | zero=>rfl
   | succ m ih=>exact ⟨_,_,by simp [e0e],Rp.mono hw ha,ih⟩
  have hlen:(xs.take lo++d8D (xs.length-lo) a).length=xs.length:=by simp; omega
  refine ⟨(cur.toList.take (lo*Rp.sz α)++zs++cur.toList.drop (lo*Rp.sz α+zs.length)).toArray,c1++zs,rfl,a6l g E zs (lo*Rp.sz α) σ.w cur.toList (by simpa using hh) hle,by rw [hlen]; exact h1,h2,?_,(f1.mono hw).app (hfz _),?_,?_⟩
  ·simp only [d9P,d8t,d8G,d83]
   rw [hcl] at hle ⊢
   omega
  ·have e2:cur.toList.take (lo*Rp.sz α)=c1:=by
    have:(cur.toList.take (xs.length*Rp.sz α)).take (lo*Rp.sz α)=c1:=by rw [h5,e1,<- hl1,d9l]
    rw [<- this,List.take_take,d9x (d8J _ (by omega))]
   rw [hlen,e2]
   have:(c1++zs).length=xs.length*Rp.sz α:=by rw [d8t,hl1,hzsl,hmul]
   rw [<- this]
   exact d9l
  ·show (σ.L g).1=_
   exact h6
theorem d2g {α:Type} [Rp α] {T E:TypeId}{z:Value}{bytes m:Nat}{len cap:Int}{a:α}(hT:a33 P T E z (Rp.sz α) bytes)(ha:Rp.cells σ a z.cells.toList)(hm:a6d len cap bytes=some m) :
 ∃ τ k,(Instr.makeSlice T (.int .i64 len) (.int .i64 cap)).run P σ.w=.ok (.slice (some ⟨σ.N,0,none⟩) (d8D m a).length k) τ.w/\Stp NoB σ τ/\a0a (some σ.N) false E τ (d8D m a) (some ⟨σ.N,0,none⟩) k /\
  ∀ (j u:Nat) (v:Value),j<m->z.cells.toList[u]?=some v->τ.w.cell? ⟨σ.N,j*Rp.sz α+u,none⟩=some v:=by
 obtain ⟨hu,⟨i,hi,hz,hsz,hby⟩,hzs,hp,hbp⟩:=hT
 obtain ⟨hb,hm⟩:=j8 hm
 cases hm
 simp only [d8p,decide_eq_true_eq] at hb
 obtain ⟨⟨h0,h1⟩,h2⟩:=hb
 have hcap:cap<=140737488355328:=Int.le_trans (by
  have:cap*1<=cap*(bytes:Int):=Int.mul_le_mul_of_nonneg_left (by omega) (by omega)
  omega) h2
 have hr:=run_make (P:=P) σ.w T E i z hu hi hz .i64 .i64 len cap h0 h1 (by rw [hby,Int.mul_comm]; omega) (by omega)
 rw [hsz] at hr
 let cs:=(madeCells z.cells (cap.toNat*Rp.sz α))
 let τ:S:=⟨σ.w.alloc (.cells cs E),fun b=>if b=σ.N then (0,b) else σ.L b⟩
 have hold:∀ b,b<σ.N->τ.w.heap[b]?=σ.w.heap[b]?:=fun b hb=>heap_alloc_old σ.w _ hb
 have hL:∀ b,b<σ.N->τ.L b=σ.L b:=fun b hb=>by simp [τ,Nat.ne_of_lt hb]
 have hw:Wext σ τ:=⟨by simp [S.N,τ],fun b hb=>by rw [hL b hb]; exact d8r _,fun b o v _ hv=>(a1n (hold b (a3Z hv)) o).trans hv,d8r _,fun b o hb hf=>(a2l (hold b hb) o).trans hf⟩
 have hlen:z.cells.toList.length=Rp.sz α:=by simpa using hzs
 have hfl:∀ k:Nat,J6 τ (d8D k a) ((d8D k z.cells.toList).flatten):=by
  intro k
  induction k with
  | zero=>rfl
  | succ k ih=>exact ⟨_,_,by simp [e0e],Rp.mono hw ha,ih⟩
 have hget:∀ (k j:Nat),j<k*Rp.sz α->((d8D k z.cells.toList).flatten)[j]?=z.cells[j%Rp.sz α]?:=by
  intro k
  induction k with
  | zero=>intro j hj; simp at hj
  | succ k ih =>
    intro j hj
    rw [e0e,List.flatten_cons]
    by_cases hlt:j<Rp.sz α
    ·rw [d8H (by omega),Nat.mod_eq_of_lt hlt,d8F]
    ·rw [d8z (by omega),hlen,ih (j-Rp.sz α) (by rw [d8W,d90] at hj; omega)]
     congr 1
     exact (Nat.mod_eq_sub_mod (d9R hlt)).symm
 have hcsj:∀ j,j<len.toNat*Rp.sz α->cs[j]?=z.cells[j%Rp.sz α]?:=fun j hj=>by
  have hle:len.toNat*Rp.sz α<=cap.toNat*Rp.sz α:=d8J _ (by omega)
  have hmod:j%Rp.sz α<z.cells.size:=by rw [hzs]; exact Nat.mod_lt _ hp
  simp only [cs,madeCells,Array.getElem?_map]
  rw [Array.getElem?_range]
  simp [show j<cap.toNat*Rp.sz α from by omega,hzs,d9c hmod,getElem!_pos z.cells (j%Rp.sz α) hmod]
 refine ⟨τ,cap.toNat,by rw [hr,d99],⟨hw,rfl,rfl,rfl,fun b hb _=>⟨hold b hb,by rw [hL b hb]⟩⟩,⟨cs,(d8D len.toNat z.cells.toList).flatten,rfl,heap_alloc_new _ _,by rw [d99]; omega,by simp only [maxLen]; omega,
  size_madeCells _ _,hfl _,?_,by simp [τ]⟩,fun j u v hj hv=>?_⟩
 rotate_left
 ·have hul:u<Rp.sz α:=by rw [<- hlen]; exact (d8o.1 hv).1
  have hjl:j*Rp.sz α+u<len.toNat*Rp.sz α:=by
   have:(j+1)*Rp.sz α<=len.toNat*Rp.sz α:=d8J _ hj
   rw [d8W,d90] at this
   omega
  have hh:τ.w.heap[σ.N]?=some (.cells cs E (0,0)):=heap_alloc_new _ _
  have:=hcsj _ hjl
  rw [Nat.mul_comm,Nat.mul_add_mod,Nat.mod_eq_of_lt hul,<- d8F,<- d8F,hv] at this
  rw [Nat.mul_comm]
  simpa [World.cell?,hh] using this
 rw [d99]
 apply d9O
 intro j
 have hle:len.toNat*Rp.sz α<=cap.toNat*Rp.sz α:=d8J _ (by omega)
 by_cases hj:j<len.toNat*Rp.sz α
 ·rw [d8K hj,hget _ _ hj,d8F]
  have hmod:j%Rp.sz α<z.cells.size:=by rw [hzs]; exact Nat.mod_lt _ hp
  simp only [cs,madeCells,Array.getElem?_map]
  rw [Array.getElem?_range]
  simp [show j<cap.toNat*Rp.sz α from by omega,hzs,d9c hmod,getElem!_pos z.cells (j%Rp.sz α) hmod]
 ·rw [d8U (by rw [d8G]; omega),d8U]
  rw [(hfl len.toNat).len,d99]
  omega
end
end Go.Qx
end

/- Part 4. -/
import Derived.Test.YtmjdpaeioidmeaaGreatDoorK2
import Derived.Test.YtmjdpaeioidmeaaGreatDoorK3
import Derived.BigCall
import Derived.KernelRfl
import Derived.Shelf.Lays
import Derived.Shelf.SlLaysF0
import Derived.Shelf.Strings.Builder1
import Derived.Test.YtmjdpaeioidmeaaGreatDoorProg
import Derived.WalkKit
section
open Bool renaming and_eq_true->d8p,eq_iff_iff->d9g,false_eq_true->d81,not_true->d9m
open List renaming all_eq_true->d8q,getElem?_eq_getElem->d8n,getElem?_eq_some_iff->d8o,getElem_mem->d8B,getElem_of_mem->d9b,mem_of_getElem?->d8x,range->d9L
open Option renaming bind_some->d8l
namespace Go.Pl
open Go Go.RowKit Go.Sx Go.Qx
def b4U {α:Type}(c:α->α->Int)(q:α->Bool)(l:List α)(i:Nat):Bool :=
 match l[i]? with
 | some x=>q x&&(match i with
   | 0=>true
   | j+1=>match l[j]? with
     | some y=>decide (c y x<0)
     | none=>true)
 | none=>true
theorem c7I {α:Type}(c:α->α->Int)(q:α->Bool)(l:List α):(d9L l.length).all (b4U c q l)=(asc c l&&l.all q):=by
 rw [d9g,d8p,c04,d8q,d8q]
 constructor
 ·intro h
  refine ⟨fun i h1 hi=>?_,fun x hx=>?_⟩
  ·obtain ⟨j,rfl⟩:∃ m,i=m+1:=⟨i-1,by omega⟩
   have:=h (j+1) (by simpa using hi)
   unfold b4U at this
   rw [d8n hi] at this
   simp only [d8p] at this
   have h2:=this.2
   rw [d8n (show j<l.length by omega)] at h2
   simpa using h2
  ·obtain ⟨i,hi,rfl⟩:=d9b hx
   have:=h i (by simpa using hi)
   unfold b4U at this
   rw [d8n hi] at this
   simp only [d8p] at this
   exact this.1
 ·intro ⟨h1,h2⟩ i hi
  have hi:i<l.length:=by simpa using hi
  unfold b4U
  rw [d8n hi]
  simp only [d8p]
  refine ⟨h2 _ (d8B hi),?_⟩
  cases i with
  | zero=>rfl
  | succ j =>
    simp only
    rw [d8n (show j<l.length by omega)]
    have:=h1 (j+1) (by omega) hi
    simpa using this
theorem c0R {α β:Type}{step:Int->Option (Fl Int (Sum Unit β))}(c:α->α->Int)(q:α->Bool)(l:List α)(b:β)
 (hst:∀ (i:Nat) (x:α),l[i]?=some x->step (i:Int)=some (if b4U c q l i=true then .next ((i+1:Nat):Int) else .done (.inr b)))
 (hend:step (l.length:Int)=some (.done (.inl ()))):j7 step (l.length+1) 0=some (if (asc c l&&l.all q)=true then .inl () else .inr b):=by
 have:=a1d (step:=step) (d9L l.length) (b4U c q l) (fun i=>(i:Int)) () b (fun i x hx=>by
  have hi:i<l.length:=by have:=(d8o.1 hx).1; simpa using this
  have e:x=i:=by
   rw [List.getElem?_range hi] at hx
   cases hx; rfl
  subst e
  exact hst x _ (d8n hi)) (by rw [List.length_range]; exact hend)
 rw [List.length_range,c7I] at this
 exact this
theorem b53 {α:Type}(c:α->α->Int)(q:α->Bool)(l:List α)(i:Nat)(x:α)(hx:l[i]?=some x)(hl:l.length<=4194304){o:Option (Fl Int (Sum Unit Bool))}
 (h0:q x=false->o=some (.done (.inr false)))
 (h1:q x=true->i=0->o=some (.next (w64 ((i:Int)+1))))
 (h2:q x=true->∀ j y,i=j+1->l[j]?=some y->idx l (w64 ((i:Int)-1))=some y->o=some (if c y x<0 then .next (w64 ((i:Int)+1)) else .done (.inr false))) :
 o=some (if b4U c q l i=true then .next ((i+1:Nat):Int) else .done (.inr false)):=by
 have hi:i<l.length:=(d8o.1 hx).1
 have hw:=Y1 i (by omega)
 unfold b4U
 rw [hx]
 cases hq:q x
 ·rw [h0 hq]; simp [hq]
 ·cases i with
  | zero=>rw [h1 hq rfl,hw]; simp [hq]
  | succ j =>
    have hy:=d8n (show j<l.length by omega)
    have hj:w64 (((j+1:Nat):Int)-1)=(j:Int):=by rw [W2 (by omega) (by omega)]; omega
    rw [h2 hq j _ rfl hy (by rw [hj]; exact Z9 hy),hw]
    simp only [hy]
    by_cases hc:c l[j] x<0<;>simp [hq,hc]
theorem d2D (a b:ByteArray):a2d a b=decide (cS a b<0):=by
 rcases a8w a b with ⟨h,_,e⟩ | ⟨h,_,e⟩ | ⟨h,_,e⟩<;>simp [h,e]
theorem c75 (i:Nat):decide (0<(((i+1:Nat)):Int))=true:=decide_eq_true (by omega)
theorem c9L (l:List Val):(bif ((l.length:Int)==2) then (idx l 1).bind fun x=>(bif (x.Kind==5) then some true else (idx l 1).bind fun y=>some (y.Kind==7)).bind fun q=>some q else some false)=some (b9Q l):=by
 unfold b9Q
 match l with
 | []=>rfl
 | [_]=>rfl
 | [x,t] =>
   have e2:((([x,t]:List Val).length:Int)==2)=true:=rfl
   rw [e2]
   have:idx [x,t] 1=some t:=rfl
   simp only [cond_true,this,d8l]
   cases t.Kind==5<;>rfl
 | _::_::_::r =>
   rename_i a b c
   have:((((a::b::c::r:List Val)).length:Int)==2)=false:=by simp; omega
   rw [this]; rfl
theorem c9N (fuel:Nat)(v:Val)(hf:2*Z4 v<=fuel+2)(hb:Z4 v<=4194304):a5N fuel v=some (a3n v):=by
 have he:=a2J v
 have hs:=a6V v.Labels
 have hk:=a9u v.Keys
 have hn:=a5G v.Entries
 have l1:j7 (a4r v) (v.Labels.length+1) 0=some (if (asc cS v.Labels&&v.Labels.all a5V)=true then .inl () else .inr false):=by
  refine c0R cS a5V v.Labels false ?_ ?_
  ·intro i x hx
   have hi:i<v.Labels.length:=(d8o.1 hx).1
   unfold a4r
   simp only [a1l,Q9]
   rw [if_pos (by simp; omega),Z9 hx]
   simp only [d8l,c31]
   refine b53 cS a5V v.Labels i x hx (by omega) (fun h=>by rw [h]; rfl) (fun h h0=>by subst h0; rw [h]; rfl) (fun h j y hj hy hiy=>?_)
   subst hj
   rw [h,hiy,c75]
   simp only [d9m,d81,if_false,if_true,d8l]
   rw [d2D]
   by_cases hc:cS y x<0<;>simp [hc]
  ·unfold a4r
   simp
 have l2:j7 (a4s v) (v.Keys.length+1) 0=some (if (asc cK v.Keys&&v.Keys.all X7)=true then .inl () else .inr false):=by
  refine c0R cK X7 v.Keys false ?_ ?_
  ·intro i x hx
   have hi:i<v.Keys.length:=(d8o.1 hx).1
   unfold a4s
   simp only [a1l,Q9]
   rw [if_pos (by simp; omega),Z9 hx]
   simp only [d8l,b8d]
   refine b53 cK X7 v.Keys i x hx (by omega) (fun h=>by rw [h]; rfl) (fun h h0=>by subst h0; rw [h]; rfl) (fun h j y hj hy hiy=>?_)
   subst hj
   rw [h,hiy,c75]
   simp only [d9m,d81,if_false,if_true,d8l,b0p]
   by_cases hc:cK y x<0
   ·have:¬ 0<=cK y x:=by omega
    simp [hc,this]
   ·have:0<=cK y x:=by omega
    simp [hc,this]
  ·unfold a4s
   simp
 have l3:j7 (a4k v fuel) (v.Entries.length+1) 0=some (if (asc cE v.Entries&&v.Entries.all (a3E v.Int_))=true then .inl () else .inr false):=by
  refine c0R cE (a3E v.Int_) v.Entries false ?_ ?_
  ·intro i x hx
   have hi:i<v.Entries.length:=(d8o.1 hx).1
   have hm:=a1N (d8x hx)
   have hbe:=a2L x
   unfold a4k a3r
   simp only [a1l,Q9]
   rw [if_pos (by simp; omega),Z9 hx]
   simp only [d8l]
   rw [show Val.mk 0 0 (⟨#[]⟩:ByteArray) ([]:List Val) ([]:List Key) ([]:List Ent) ([]:List ByteArray)=a7l from rfl,(a5o fuel).1 x.Result a7l (by omega) (by omega)]
   simp only [d8l]
   have hq:(Option.bind (if ((x.Args.length:Int) != v.Int_)=true then some true else Option.bind (if x.Fails=true then some (!(cV x.Result a7l==0)) else some false) fun q=>some q) fun q=>some q)=some (!(a3E v.Int_ x)):=by
    unfold a3E
    have e0:((x.Args.length:Int) != v.Int_)=!((x.Args.length:Int)==v.Int_):=rfl
    rw [e0]
    cases ((x.Args.length:Int)==v.Int_)<;>cases x.Fails<;>cases (cV x.Result a7l==0)<;>rfl
   rw [a56] at hq
   simp only [a56] at hq ⊢
   rw [hq]
   simp only [d8l]
   refine b53 cE (a3E v.Int_) v.Entries i x hx (by omega) (fun h=>by rw [h]; rfl) (fun h h0=>by subst h0; rw [h]; rfl) (fun h j y hj hy hiy=>?_)
   subst hj
   have hmy:=a1N (d8x hy)
   have hc:Q1 fuel y x=some (cE y x):=(a5o fuel).2.2 y x (by omega) (by omega)
   rw [h,hiy,c75]
   simp only [d9m,d81,if_false,if_true,d8l,hc]
   by_cases hc:cE y x<0
   ·have:¬ 0<=cE y x:=by omega
    simp [hc,this]
   ·have:0<=cE y x:=by omega
    simp [hc,this]
  ·unfold a4k
   simp
 unfold a5N
 simp only [V0,a56]
 rw [l1,l2,l3,b5r]
 have hcons:=c9L v.Kids
 simp only [a56] at hcons
 rw [hcons]
 simp only [d8l,c59]
 unfold a3n a1S
 cases hlab:(asc cS v.Labels&&v.Labels.all a5V)
 ·rfl
 have h6:decide ((v.Kids.length:Int)<=4)=decide (v.Kids.length<=4):=by
  by_cases h:v.Kids.length<=4
  ·simp [h]; omega
  ·simp [h]; omega
 have hm:b4J v=(decide (v.Keys.length=v.Kids.length)&&(asc cK v.Keys&&v.Keys.all X7)):=by
  unfold b4J
  by_cases h:v.Keys.length=v.Kids.length<;>simp [h]
 have hm2:((v.Keys.length:Int)==(v.Kids.length:Int))=decide (v.Keys.length=v.Kids.length):=by
  by_cases h:v.Keys.length=v.Kids.length
  ·simp [h]
  ·simp [h]; omega
 have hfu:c4E v=(!decide (v.Int_<0)&&!decide (4<v.Int_)&&(asc cE v.Entries&&v.Entries.all (a3E v.Int_))):=by
  unfold c4E
  by_cases h1:v.Int_<0<;>by_cases h2:4<v.Int_
  ·omega
  ·have:¬ 0<=v.Int_:=by omega
   simp [h1,this]
  ·have:¬ v.Int_<=4:=by omega
   simp [h2,this]
  ·have a:0<=v.Int_:=by omega
   have b:v.Int_<=4:=by omega
   simp [h1,h2,a,b]
 have hi:(v.Int_ != 0)=!(v.Int_==0):=rfl
 rw [hm2,hi,h6]
 simp only [w9,if_true]
 unfold a4f a6j
 rw [hm,hfu]
 generalize (asc cE v.Entries&&v.Entries.all (a3E v.Int_))=f
 generalize (asc cK v.Keys&&v.Keys.all X7)=k
 generalize decide (v.Keys.length=v.Kids.length)=m
 generalize decide (v.Int_<0)=p
 generalize decide (4<v.Int_)=r
 generalize J4 v.Text ⟨#[]⟩=t
 generalize v.Keys.isEmpty=y
 generalize v.Entries.isEmpty=e
 generalize v.Kids.isEmpty=d
 generalize (v.Int_==0)=i
 generalize a4J v.Text=a
 generalize decide ((v.Text.size:Int)<=64)=z
 generalize b9Q v.Kids=c
 generalize decide (0<=v.Int_)=g
 generalize decide (v.Kids.length<=4)=n
 by_cases hk:v.Kind=1\/v.Kind=2\/v.Kind=3\/v.Kind=4\/v.Kind=5\/v.Kind=6\/v.Kind=7\/v.Kind=8\/v.Kind=9
 ·rcases hk with h | h | h | h | h | h | h | h | h<;>rw [h]<;>cases i<;>cases t<;>cases d<;>cases y<;>cases e<;>simp
  all_goals first
   | rfl
   | (cases k<;>cases m<;>simp)
   | (cases p<;>cases r<;>cases f<;>simp)
 ·simp only [not_or] at hk
  obtain ⟨h1,h2,h3,h4,h5,h6',h7,h8,h9⟩:=hk
  have e1:(v.Kind==1)=false:=by simpa using h1
  have e2:(v.Kind==2)=false:=by simpa using h2
  have e3:(v.Kind==3)=false:=by simpa using h3
  have e4:(v.Kind==4)=false:=by simpa using h4
  have e5:(v.Kind==5)=false:=by simpa using h5
  have e6:(v.Kind==6)=false:=by simpa using h6'
  have e7:(v.Kind==7)=false:=by simpa using h7
  have e8:(v.Kind==8)=false:=by simpa using h8
  have e9:(v.Kind==9)=false:=by simpa using h9
  simp only [bne,e1,e2,e3,e4,e5,e6,e7,e8,e9,if_neg h1,if_neg h2,if_neg h3,if_neg h4,if_neg h5,if_neg h6',if_neg h7,if_neg h8,if_neg h9]
  cases i<;>cases t<;>cases d<;>cases y<;>cases e<;>rfl
theorem b2R:∀ (k:Nat) (v:Val),2*Z4 v<=k->Z4 v<=4194304->X5 k v=some (vOK v)
 | 0,v,h,_=>by have:=b0Q v; omega
 | k+1,v,h,hb=>by
   have he:=a2J v
   have hv:=a7v v.Kids
   have hn:=a5G v.Entries
   have hrec:∀ x,Z4 x<Z4 v->X5 k x=some (vOK x):=fun x hx=>b2R k x (by omega) (by omega)
   show a6w k (X5 k) v=_
   unfold a6w
   rw [c9N k v (by omega) hb,c8H,a54,a6O]
   simp only [d8l,V0]
   have l1:j7 (a3B v (X5 k)) (v.Kids.length+1) 0=some (if v.Kids.all vOK=true then .inl () else .inr false):=by
    refine a1d v.Kids vOK (fun i=>(i:Int)) () false ?_ ?_
    ·intro i x hx
     have hi:i<v.Kids.length:=(d8o.1 hx).1
     have hm:=a1P (d8x hx)
     unfold a3B
     simp only [Q9]
     rw [show decide ((i:Int)<(v.Kids.length:Int))=true by simp; omega,Z9 hx]
     simp only [cond_true,d8l]
     rw [hrec x (by omega),Y1 i (by omega)]
     exact a9O _ _
    ·unfold a3B
     simp
   have l2:j7 (a3H v (X5 k)) (v.Entries.length+1) 0=some (if v.Entries.all eOK=true then .inl () else .inr false):=by
    refine a1d v.Entries eOK (fun i=>(i:Int)) () false ?_ ?_
    ·intro i x hx
     have hi:i<v.Entries.length:=(d8o.1 hx).1
     have hm:=a1N (d8x hx)
     have hbe:=a2L x
     have hal:=a7v x.Args
     unfold a3H
     simp only [Q9,V0]
     rw [show decide ((i:Int)<(v.Entries.length:Int))=true by simp; omega,Z9 hx]
     simp only [cond_true,d8l]
     have l3:j7 (a3C (X5 k) x) (x.Args.length+1) 0=some (if x.Args.all vOK=true then .inl () else .inr false):=by
      refine a1d x.Args vOK (fun i=>(i:Int)) () false ?_ ?_
      ·intro j y hy
       have hj:j<x.Args.length:=(d8o.1 hy).1
       have hmy:=a1P (d8x hy)
       unfold a3C
       simp only [Q9]
       rw [show decide ((j:Int)<(x.Args.length:Int))=true by simp; omega,Z9 hy]
       simp only [cond_true,d8l]
       rw [hrec y (by omega),Y1 j (by omega)]
       exact a9O _ _
      ·unfold a3C
       simp
     rw [l3,hrec x.Result (by omega),b91,a54,Y1 i (by omega)]
     simp only [d8l]
     cases x.Args.all vOK<;>cases x.Fails<;>cases vOK x.Result<;>rfl
    ·unfold a3H
     simp
   rw [l1,l2]
   cases a3n v<;>cases v.Kids.all vOK<;>cases v.Entries.all eOK<;>rfl
end Go.Pl
end
section
open Bool renaming and_eq_true->d8p,eq_iff_iff->d9g,not_true->d9m,true_and->d9B
open Int renaming toNat_natCast->d8M
open List renaming all_append->d9U,all_eq_true->d8q,append_nil->d82,count_cons->d96,ext_getElem?->d9O,foldl_cons->e0f,getElem?_eq_getElem->d8n,getElem?_eq_some_iff->d8o,getElem?_set_ne->d9d,getElem?_set_self->d8Z,getElem_mem->d8B,getElem_of_mem->d9b,length_append->d8t,length_cons->d8v,length_map->d8L,length_nil->d8I,map_cons->d8O,mem_cons->d8A,mem_map->d8T,mem_of_getElem?->d8x,range->d9L,replicate->d8D,set_cons_succ->e0j,set_cons_zero->e0i
open Nat renaming le_refl->d8r,le_trans->d8C,zero_le->d8w
open Option renaming bind_some->d8l
namespace Go.Pl
open Go Go.RowKit Go.Sx Go.Qx
def inR (N:Nat)(k:Int):Bool:=decide (0<=k)&&decide (k<(N:Int))
def a5w (N:Nat)(l:List Api_Field):Bool:=asc cK (l.map (·.Key_))&&(l.all (fun f=>X7 f.Key_)&&l.all fun f=>inR N f.Node)
def a2z (N:Nat)(x:Api_TypeNode):Bool :=
 if x.Kind=3 then x.Kids.isEmpty&&decide (x.Lo<=x.Hi) else if x.Kind=4 then x.Kids.isEmpty&&decide ((x.Text.size:Int)<=64) else
 if x.Kind=6 then x.Kids.isEmpty&&a4J x.Text else if x.Kind=19 then x.Kids.isEmpty&&a5V x.Text else
 if x.Kind=1\/x.Kind=2\/x.Kind=5\/x.Kind=7\/x.Kind=8\/x.Kind=9\/x.Kind=11\/x.Kind=15 then x.Kids.isEmpty else
 if x.Kind=10 then decide ((x.Kids.length:Int)<=4) else if x.Kind=12 then (x.Kids.length:Int)==2 else
 if x.Kind=14 then decide (1<=(x.Kids.length:Int))&&decide ((x.Kids.length:Int)<=5) else
 if x.Kind=16\/x.Kind=17 then decide (1<=(x.Kids.length:Int)) else if x.Kind=18 then (x.Kids.length:Int)==1 else
 if x.Kind=13 then a5w N x.Fields&&(x.Kids.isEmpty&&(inR N x.Rest.1&&inR N x.Rest.2)) else false
def a58 (r:Int×Int):Bool:=r.1==0&&r.2==0
def V2 (N:Nat)(x:Api_TypeNode):Bool :=
 x.Kids.all (inR N)&&((x.Kind==3||(x.Lo==0&&x.Hi==0))&&((x.Kind==4||x.Kind==6||x.Kind==19||J4 x.Text ⟨#[]⟩)&&((x.Kind==13||(x.Fields.isEmpty&&a58 x.Rest))&&a2z N x)))
theorem c8W {α:Type}(l:List α):((l.length:Int)==0)=l.isEmpty:=by cases l<;>simp<;>omega
theorem c7Y (r:Int×Int):a7W r (0,0)=a58 r:=by unfold a7W a58; simp
theorem b3K (t:Api_Type)(k:Int):a0v t k=some (inR t.Nodes.length k):=by
 unfold a0v inR
 cases decide (0<=k)<;>rfl
theorem J8 {i n:Nat}(h:i<n):decide ((i:Int)<(n:Int))=true:=decide_eq_true (by omega)
theorem d5d (q:Api_Field->Bool)(l:List Api_Field):(d9L l.length).all (b4U (fun a b=>cK a.Key_ b.Key_) q l)=(asc cK (l.map (·.Key_))&&l.all q):=by
 rw [c7I]
 congr 1
 rw [d9g,c04,c04]
 constructor
 ·intro h i h1 hi
  have:=h i h1 (by simpa using hi)
  simpa using this
 ·intro h i h1 hi
  have:=h i h1 (by simpa using hi)
  simpa using this
theorem c8c {step:Int->Option (Fl Int (Sum Unit Bool))}(q:Api_Field->Bool)(l:List Api_Field)
 (hst:∀ (i:Nat) (x:Api_Field),l[i]?=some x->step (i:Int)=some (if b4U (fun a b=>cK a.Key_ b.Key_) q l i=true then .next ((i+1:Nat):Int) else .done (.inr false)))
 (hend:step (l.length:Int)=some (.done (.inl ()))):j7 step (l.length+1) 0=some (if (asc cK (l.map (·.Key_))&&l.all q)=true then .inl () else .inr false):=by
 have:=c0R (step:=step) (fun a b:Api_Field=>cK a.Key_ b.Key_) q l false hst hend
 rw [<- c7I,d5d] at this
 exact this
theorem c8S (t:Api_Type)(x:Api_TypeNode)(hk:x.Kids.length<=4194304)(hf:x.Fields.length<=4194304):a5Z t x=some (V2 t.Nodes.length x):=by
 have l1:j7 (a4m t x) (x.Kids.length+1) 0=some (if x.Kids.all (inR t.Nodes.length)=true then .inl () else .inr false):=by
  refine a1d x.Kids (inR t.Nodes.length) (fun i=>(i:Int)) () false ?_ ?_
  ·intro i k hx
   have hi:i<x.Kids.length:=(d8o.1 hx).1
   unfold a4m
   rw [J8 hi,Z9 hx]
   simp only [cond_true,d8l,b3K,Q9]
   rw [Y1 i (by omega)]
   exact a9O _ _
  ·unfold a4m
   simp
 have l2:j7 (a4l t x) (x.Fields.length+1) 0=some (if (asc cK (x.Fields.map (·.Key_))&&x.Fields.all fun f=>inR t.Nodes.length f.Node&&X7 f.Key_)=true then .inl () else .inr false):=by
  refine c8c (fun f=>inR t.Nodes.length f.Node&&X7 f.Key_) x.Fields ?_ ?_
  ·intro i f hx
   have hi:i<x.Fields.length:=(d8o.1 hx).1
   unfold a4l
   rw [J8 hi,Z9 hx]
   simp only [cond_true,d8l,b3K,b8d,Q9,a56]
   have hq:((bif !inR t.Nodes.length f.Node then some true else some (!X7 f.Key_)).bind fun q=>some q)=some (!(inR t.Nodes.length f.Node&&X7 f.Key_)):=by
    cases inR t.Nodes.length f.Node<;>cases X7 f.Key_<;>rfl
   rw [a56] at hq
   rw [hq]
   simp only [d8l]
   refine b53 (fun a b:Api_Field=>cK a.Key_ b.Key_) (fun f=>inR t.Nodes.length f.Node&&X7 f.Key_) x.Fields i f hx (by omega) (fun h=>by rw [h]; rfl) (fun h h0=>by subst h0; rw [h]; rfl) (fun h j y hj hy hiy=>?_)
   subst hj
   rw [h,hiy,c75]
   simp only [d9m,cond_false,cond_true,d8l,b0p]
   by_cases hc:cK y.Key_ f.Key_<0
   ·have:¬ 0<=cK y.Key_ f.Key_:=by omega
    simp [hc,this]
   ·have:0<=cK y.Key_ f.Key_:=by omega
    simp [hc,this]
  ·unfold a4l
   simp
 unfold a5Z
 simp only [V0,a56,b3K,c7Y,b5r,c31,c8W,c59]
 rw [l1,l2]
 unfold V2
 cases x.Kids.all (inR t.Nodes.length)
 ·rfl
 simp only [d8l,if_true,w9]
 have hF:(asc cK (x.Fields.map (·.Key_))&&x.Fields.all fun f=>inR t.Nodes.length f.Node&&X7 f.Key_)=a5w t.Nodes.length x.Fields:=by
  unfold a5w
  congr 1
  rw [d9g,d8p,d8q,d8q,d8q]
  simp only [d8p]
  exact ⟨fun h=>⟨fun f hf=>(h f hf).2,fun f hf=>(h f hf).1⟩,fun h f hf=>⟨h.2 f hf,h.1 f hf⟩⟩
 rw [hF]
 unfold a2z
 simp only [bne]
 generalize a5w t.Nodes.length x.Fields=A
 generalize inR t.Nodes.length x.Rest.1=B
 generalize inR t.Nodes.length x.Rest.2=C
 generalize a58 x.Rest=D
 generalize x.Fields.isEmpty=E
 generalize J4 x.Text ⟨#[]⟩=G
 generalize (x.Lo==0)=H
 generalize (x.Hi==0)=J
 generalize x.Kids.isEmpty=M
 generalize a4J x.Text=O
 generalize a5V x.Text=Q
 generalize decide (x.Lo<=x.Hi)=R
 generalize decide ((x.Text.size:Int)<=64)=T
 generalize decide ((x.Kids.length:Int)<=4)=U
 generalize ((x.Kids.length:Int)==2)=V
 generalize ((x.Kids.length:Int)==1)=W
 generalize decide (1<=(x.Kids.length:Int))=X
 generalize decide ((x.Kids.length:Int)<=5)=Y
 by_cases hk:x.Kind=1\/x.Kind=2\/x.Kind=3\/x.Kind=4\/x.Kind=5\/x.Kind=6\/x.Kind=7\/x.Kind=8\/x.Kind=9\/x.Kind=10\/x.Kind=11\/x.Kind=12\/x.Kind=13\/x.Kind=14\/x.Kind=15\/x.Kind=16\/x.Kind=17\/x.Kind=18\/x.Kind=19
 ·rcases hk with h | h | h | h | h | h | h | h | h | h | h | h | h | h | h | h | h | h | h<;>rw [h]<;>cases G<;>cases H<;>cases J<;>cases E<;>cases D<;>simp
  all_goals first
   | rfl
   | (cases M<;>rfl)
   | (cases X<;>rfl)
   | (cases A<;>cases M<;>cases B<;>rfl)
 ·simp only [not_or] at hk
  obtain ⟨h1,h2,h3,h4,h5,h6,h7,h8,h9,h10,h11,h12,h13,h14,h15,h16,h17,h18,h19⟩:=hk
  have e:∀ {n:Int},¬ x.Kind=n->(x.Kind==n)=false:=fun h=>by simpa using h
  simp only [e h1,e h2,e h3,e h4,e h5,e h6,e h7,e h8,e h9,e h10,e h11,e h12,e h13,e h14,e h15,e h16,e h17,e h18,e h19,if_neg h3,if_neg h4,if_neg h6,if_neg h19,if_neg h10,if_neg h12,if_neg h14,if_neg h18,if_neg h13,h1,h2,h5,h7,h8,h9,h11,h15,h16,h17,or_self,if_false]
  cases G<;>cases H<;>cases J<;>cases E<;>cases D<;>rfl
end Go.Pl
namespace Go.Pl
open Go Go.RowKit Go.Sx Go.Qx
def c0C (x:Api_TypeNode):Bool :=
 (x.Kind==3||(x.Lo==0&&x.Hi==0))&&((x.Kind==4||x.Kind==6||x.Kind==19||J4 x.Text ⟨#[]⟩) &&
   ((x.Kind==10||x.Kind==12||x.Kind==14||x.Kind==16||x.Kind==17||x.Kind==18||x.Kids.isEmpty)&&(x.Kind==13||(x.Fields.isEmpty&&a58 x.Rest))))
def c4q (l:List Api_Field):Bool:=asc cK (l.map (·.Key_))&&l.all fun f=>X7 f.Key_
def c0x (x:Api_TypeNode):Bool :=
 if x.Kind=3 then decide (x.Lo<=x.Hi) else if x.Kind=4 then decide ((x.Text.size:Int)<=64) else
 if x.Kind=6 then a4J x.Text else if x.Kind=19 then a5V x.Text else
 if x.Kind=1\/x.Kind=2\/x.Kind=5\/x.Kind=7\/x.Kind=8\/x.Kind=9\/x.Kind=11\/x.Kind=15 then true else
 if x.Kind=10 then decide ((x.Kids.length:Int)<=4) else if x.Kind=12 then (x.Kids.length:Int)==2 else
 if x.Kind=14 then decide (1<=(x.Kids.length:Int))&&decide ((x.Kids.length:Int)<=5) else
 if x.Kind=16\/x.Kind=17 then decide (1<=(x.Kids.length:Int)) else if x.Kind=18 then (x.Kids.length:Int)==1 else
 if x.Kind=13 then c4q x.Fields else false
def a6k (x:Api_TypeNode):List Int:=x.Kids++x.Fields.map (·.Node)++(if x.Kind=13 then [x.Rest.1,x.Rest.2] else [])
theorem a9h (k:Int):(k=1\/k=2\/k=3\/k=4\/k=5\/k=6\/k=7\/k=8\/k=9\/k=10\/k=11\/k=12\/k=13\/k=14\/k=15\/k=16\/k=17\/k=18\/k=19)\/∀ n:Int,1<=n->n<=19->(k==n)=false:=by
 by_cases h:1<=k/\k<=19
 ·left; omega
 ·right
  intro n h1 h2
  have:k≠n:=by omega
  simpa using this
theorem d22 (x:Api_TypeNode):a4C x=some (c0C x):=by
 unfold a4C c0C
 simp only [a56,c7Y,c8W]
 generalize a58 x.Rest=D
 generalize x.Fields.isEmpty=E
 generalize J4 x.Text ⟨#[]⟩=G
 generalize (x.Lo==0)=H
 generalize (x.Hi==0)=J
 generalize x.Kids.isEmpty=M
 rcases a9h x.Kind with h | h
 ·rcases h with h | h | h | h | h | h | h | h | h | h | h | h | h | h | h | h | h | h | h<;>rw [h]<;>cases G<;>cases H<;>cases J<;>cases E<;>cases D<;>cases M<;>rfl
 ·simp only [h 3 (by omega) (by omega),h 4 (by omega) (by omega),h 6 (by omega) (by omega),h 19 (by omega) (by omega),h 10 (by omega) (by omega),h 12 (by omega) (by omega),h 14 (by omega) (by omega),h 16 (by omega) (by omega),h 17 (by omega) (by omega),h 18 (by omega) (by omega),h 13 (by omega) (by omega)]
  cases G<;>cases H<;>cases J<;>cases E<;>cases D<;>cases M<;>rfl
theorem d2c (l:List Api_Field)(hl:l.length<=4194304):a3N l=some (c4q l):=by
 have l2:j7 (a2x l) (l.length+1) 0=some (if (asc cK (l.map (·.Key_))&&l.all fun f=>X7 f.Key_)=true then .inl () else .inr false):=by
  refine c8c (fun f=>X7 f.Key_) l ?_ ?_
  ·intro i f hx
   have hi:i<l.length:=(d8o.1 hx).1
   unfold a2x
   rw [J8 hi,Z9 hx]
   simp only [cond_true,d8l,c9u,Q9,a56]
   refine b53 (fun a b:Api_Field=>cK a.Key_ b.Key_) (fun f=>X7 f.Key_) l i f hx (by omega) (fun h=>by rw [h]; rfl) (fun h h0=>by subst h0; rw [h]; rfl) (fun h j y hj hy hiy=>?_)
   subst hj
   rw [h,hiy,c75]
   simp only [d9m,cond_false,cond_true,d8l,c9y]
   by_cases hc:cK y.Key_ f.Key_<0
   ·have:¬ 0<=cK y.Key_ f.Key_:=by omega
    simp [hc,this]
   ·have:0<=cK y.Key_ f.Key_:=by omega
    simp [hc,this]
  ·unfold a2x
   simp
 unfold a3N c4q
 rw [V0,l2]
 cases (asc cK (l.map (·.Key_))&&l.all fun f=>X7 f.Key_)<;>rfl
theorem d35 (x:Api_TypeNode)(hf:x.Fields.length<=4194304):a4K x=some (c0x x):=by
 unfold a4K c0x
 simp only [a56,d0u,d2e,d2c x.Fields hf]
 generalize c4q x.Fields=A
 generalize a4J x.Text=O
 generalize a5V x.Text=Q
 generalize decide (x.Lo<=x.Hi)=R
 generalize decide ((x.Text.size:Int)<=64)=T
 generalize decide ((x.Kids.length:Int)<=4)=U
 generalize ((x.Kids.length:Int)==2)=V
 generalize ((x.Kids.length:Int)==1)=W
 generalize decide (1<=(x.Kids.length:Int))=X
 generalize decide ((x.Kids.length:Int)<=5)=Y
 rcases a9h x.Kind with h | h
 ·rcases h with h | h | h | h | h | h | h | h | h | h | h | h | h | h | h | h | h | h | h<;>rw [h]<;>first | rfl | (cases X<;>rfl)
 ·have e:∀ n:Int,1<=n->n<=19->¬ x.Kind=n:=fun n h1 h2=>by simpa using h n h1 h2
  simp only [h 1 (by omega) (by omega),h 2 (by omega) (by omega),h 5 (by omega) (by omega),h 7 (by omega) (by omega),h 8 (by omega) (by omega),h 9 (by omega) (by omega),h 11 (by omega) (by omega),h 15 (by omega) (by omega),h 3 (by omega) (by omega),h 4 (by omega) (by omega),h 6 (by omega) (by omega),h 19 (by omega) (by omega),h 10 (by omega) (by omega),h 12 (by omega) (by omega),h 14 (by omega) (by omega),h 16 (by omega) (by omega),h 17 (by omega) (by omega),h 18 (by omega) (by omega),h 13 (by omega) (by omega),
   e 1 (by omega) (by omega),e 2 (by omega) (by omega),e 5 (by omega) (by omega),e 7 (by omega) (by omega),e 8 (by omega) (by omega),e 9 (by omega) (by omega),e 11 (by omega) (by omega),e 15 (by omega) (by omega),e 3 (by omega) (by omega),e 4 (by omega) (by omega),e 6 (by omega) (by omega),e 19 (by omega) (by omega),e 10 (by omega) (by omega),e 12 (by omega) (by omega),e 14 (by omega) (by omega),e 16 (by omega) (by omega),e 17 (by omega) (by omega),e 18 (by omega) (by omega),e 13 (by omega) (by omega),or_self,if_false]
  rfl
theorem c96 {α β:Type}(f:α->β):∀ (l:List α) (s:List β),l.foldl (fun s x=>s++[f x]) s=s++l.map f
 | [],s=>by simp
 | x::r,s=>by rw [e0f,c96 f r]; simp
theorem d37 (x:Api_TypeNode)(hk:x.Kids.length<=1100000)(hf:x.Fields.length<=1100000):a7n x=some (a6k x):=by
 unfold a7n V7 a6k
 rw [W8 (by omega)]
 simp only [d8l,V0]
 have key:=c0p (σ:=List Int) (step:=a2m x) x.Fields (fun s i=>(s,(i:Int))) (fun s f=>s++[f.Node]) (fun i s=>s.length<=x.Kids.length+i) (fun s=>s)
  ?_ ?_ x.Kids (by simp) _ (d8r _)
 ·have e:j7 (a2m x) (x.Fields.length+1) (x.Kids,0)=j7 (a2m x) (x.Fields.length+1) (x.Kids,((0:Nat):Int)):=rfl
  rw [e,key,c96]
  simp only [d8l]
  by_cases h:x.Kind=13
  ·rw [show (x.Kind==13)=true by simpa using h,if_pos h,W8 (by simp only [d8t,d8L,d8v,d8I]; omega)]
   rfl
  ·rw [show (x.Kind==13)=false by simpa using h,if_neg h,d82]
   rfl
 ·intro i s f hx hI
  have hi:i<x.Fields.length:=(d8o.1 hx).1
  refine ⟨?_,by simp only [d8t,d8v,d8I]; omega⟩
  unfold a2m
  simp only [Q9]
  rw [J8 hi,Z9 hx]
  simp only [cond_true,d8l]
  rw [W8 (by simp only [d8v,d8I]; omega),Y1 i (by omega)]
  rfl
 ·intro s _
  unfold a2m
  simp
theorem d2C (N:Nat)(x:Api_TypeNode):(c0C x&&(c0x x&&(a6k x).all (inR N)))=V2 N x:=by
 unfold c0C c0x V2 a2z a6k a5w c4q
 simp only [d9U,List.all_map]
 have hE:x.Fields.isEmpty=true->x.Fields=[]:=List.isEmpty_iff.1
 have hM:x.Kids.isEmpty=true->x.Kids=[]:=List.isEmpty_iff.1
 rcases a9h x.Kind with h | h
 ·have hK:x.Kids.isEmpty=true->x.Kids.all (inR N)=true:=fun e=>by rw [hM e]; rfl
  have hF:x.Fields.isEmpty=true->(x.Fields.all (inR N∘fun f=>f.Node))=true:=fun e=>by rw [hE e]; rfl
  have hcomp:(x.Fields.all fun f=>inR N f.Node)=x.Fields.all (inR N∘fun f=>f.Node):=rfl
  rw [hcomp]
  generalize x.Fields.all (inR N∘fun f=>f.Node)=a1 at hF
  generalize x.Kids.all (inR N)=a2 at hK
  generalize x.Fields.isEmpty=E at hF
  generalize x.Kids.isEmpty=M at hK
  generalize a58 x.Rest=D
  generalize J4 x.Text ⟨#[]⟩=G
  generalize (x.Lo==0)=H
  generalize (x.Hi==0)=J
  rcases h with h | h | h | h | h | h | h | h | h | h | h | h | h | h | h | h | h | h | h<;>rw [h]<;>simp <;>
   cases G<;>cases H<;>cases J<;>cases E<;>cases D<;>cases M<;>simp_all
  all_goals first
   | (simp only [Bool.and_assoc]; done)
   | (cases a2<;>simp; done)
 ·have e:∀ n:Int,1<=n->n<=19->¬ x.Kind=n:=fun n h1 h2=>by simpa using h n h1 h2
  simp only [e 1 (by omega) (by omega),e 2 (by omega) (by omega),e 5 (by omega) (by omega),e 7 (by omega) (by omega),e 8 (by omega) (by omega),e 9 (by omega) (by omega),e 11 (by omega) (by omega),e 15 (by omega) (by omega),e 3 (by omega) (by omega),e 4 (by omega) (by omega),e 6 (by omega) (by omega),e 19 (by omega) (by omega),e 10 (by omega) (by omega),e 12 (by omega) (by omega),e 14 (by omega) (by omega),e 16 (by omega) (by omega),e 17 (by omega) (by omega),e 18 (by omega) (by omega),e 13 (by omega) (by omega),or_self,if_false]
  simp
end Go.Pl
namespace Go.Pl
open Go Go.RowKit Go.Sx Go.Qx
def isB (x:Api_TypeNode):Bool:=x.Kind==16||x.Kind==17||x.Kind==18
def c5J (ns:List Api_TypeNode):Prop:=∀ (i:Nat) (x:Api_TypeNode),ns[i]?=some x->isB x=true->∀ k∈x.Kids,(i:Int)<k
def a6z (ns:List Api_TypeNode):Bool:=ns.all (V2 ns.length)
theorem d6E (x:Api_TypeNode):a4M x.Kind=some (isB x):=by
 unfold a4M isB
 cases (x.Kind==16)<;>cases (x.Kind==17)<;>rfl
theorem c5a (x:Api_TypeNode):a4q x=some (isB x):=by
 unfold a4q isB
 cases (x.Kind==16)<;>cases (x.Kind==17)<;>rfl
theorem a2j {N:Nat}{x:Api_TypeNode}(h:V2 N x=true):∀ k∈x.Kids,inR N k=true:=by
 unfold V2 at h
 simp only [d8p] at h
 exact d8q.1 h.1
theorem a1a {N:Nat}{k:Int}(h:inR N k=true):∃ j:Nat,k=(j:Int)/\j<N:=by
 unfold inR at h
 simp only [d8p,decide_eq_true_eq] at h
 exact ⟨k.toNat,by omega,by omega⟩
def Rk (ns:List Api_TypeNode)(r:Nat->Nat):Prop:=∀ (i:Nat) (x:Api_TypeNode),ns[i]?=some x->isB x=true->∀ k∈x.Kids,r k.toNat<r i
def Acy (ns:List Api_TypeNode):Prop:=∃ r,Rk ns r
open Classical in
noncomputable def a7c (ns:List Api_TypeNode):Bool:=decide (Acy ns)
theorem b2J {ns:List Api_TypeNode}:a7c ns=true↔Acy ns:=by
 unfold a7c
 classical exact decide_eq_true_iff
theorem c5J.acy {ns:List Api_TypeNode}(h:c5J ns)(hT:a6z ns=true):a7c ns=true :=
 b2J.2 ⟨fun i=>ns.length-i,fun i x hx hb k hk=>by
  obtain ⟨j,rfl,hj⟩:=a1a (a2j (d8q.1 hT x (d8x hx)) k hk)
  have:=h i x hx hb _ hk
  show ns.length-((j:Int)).toNat<ns.length-i
  rw [d8M]
  omega⟩
def Gd (ns:List Api_TypeNode)(D:Nat->Prop):Prop:=∃ r:Nat->Nat,∀ (i:Nat) (x:Api_TypeNode),D i->ns[i]?=some x->isB x=true->∀ k∈x.Kids,D k.toNat/\r k.toNat<r i
theorem d0a (r:Nat->Nat):∀ (l:List Int) (k:Int),k∈l->r k.toNat<=(l.map fun k=>r k.toNat).sum
 | [],_,h=>by cases h
 | y::l,k,h=>by
   rw [d8O,List.sum_cons]
   rcases d8A.1 h with rfl | h
   ·omega
   ·have:=d0a r l k h; omega
theorem Gd.add {ns:List Api_TypeNode}{D D':Nat->Prop}(h:Gd ns D){i:Nat}{x:Api_TypeNode}(hx:ns[i]?=some x)(hk:isB x=true->∀ k∈x.Kids,D k.toNat)(hD:∀ j,D' j↔D j\/j=i):Gd ns D':=by
 obtain ⟨r,hr⟩:=h
 by_cases hi:D i
 ·have e:∀ j,D' j↔D j:=fun j=>(hD j).trans ⟨fun h=>h.elim id (fun h=>by rw [h]; exact hi),.inl⟩
  exact ⟨r,fun j y h1 h2 h3 k h4=>by
   obtain ⟨k1,k2⟩:=hr j y ((e j).1 h1) h2 h3 k h4
   exact ⟨(e _).2 k1,k2⟩⟩
 ·refine ⟨fun j=>if j=i then 1+(x.Kids.map fun k=>r k.toNat).sum else r j,fun j y h1 h2 h3 k h4=>?_⟩
  by_cases hj:j=i
  ·subst hj
   rw [hx] at h2
   cases h2
   have hDk:=hk h3 k h4
   have hne:k.toNat≠j:=fun e=>hi (e▸hDk)
   refine ⟨(hD _).2 (.inl hDk),?_⟩
   simp only [if_neg hne,if_true]
   have:=d0a r x.Kids k h4
   omega
  ·obtain ⟨k1,k2⟩:=hr j y (((hD j).1 h1).resolve_right hj) h2 h3 k h4
   have hne:k.toNat≠i:=fun e=>hi (e▸k1)
   refine ⟨(hD _).2 (.inl k1),?_⟩
   simp only [if_neg hne,if_neg hj]
   exact k2
theorem Gd.acy {ns:List Api_TypeNode}{D:Nat->Prop}(h:Gd ns D)(hD:∀ j,j<ns.length->D j):Acy ns:=by
 obtain ⟨r,hr⟩:=h
 exact ⟨r,fun i x hx hb k hk=>(hr i x (hD i (d8o.1 hx).1) hx hb k hk).2⟩
theorem Acy.small {ns:List Api_TypeNode}(h:Acy ns)(hT:a6z ns=true):∃ r,Rk ns r/\∀ i,i<ns.length->r i<ns.length:=by
 obtain ⟨r,hr⟩:=h
 have mono:∀ (l:List Nat) (a b:Nat),a<=b->(l.countP fun j=>decide (j<a))<=l.countP fun j=>decide (j<b):=fun l a b hab =>
  List.countP_mono_left fun x _ hx=>by simp at hx ⊢; omega
 have strict:∀ (l:List Nat) (a b:Nat),a<b->a∈l->(l.countP fun j=>decide (j<a))<l.countP fun j=>decide (j<b):=by
  intro l
  induction l with
  | nil=>intro a b _ h; cases h
  | cons y l ih =>
    intro a b hab hm
    rw [List.countP_cons,List.countP_cons]
    rcases d8A.1 hm with rfl | hm
    ·have:=mono l a b (by omega)
     simp only [Nat.lt_irrefl,decide_false,hab,decide_true,if_true]
     simp
     omega
    ·have h1:=ih a b hab hm
     by_cases h2:y<a
     ·simp only [h2,show y<b by omega,decide_true,if_true]; omega
     ·simp only [h2,decide_false]
      by_cases h3:y<b<;>simp [h3]<;>omega
 have hlt:∀ (l:List Nat) (a:Nat),a∈l->(l.countP fun j=>decide (j<a))<l.length:=fun l a hm=>by
  have h1:=strict l a (a+1) (by omega) hm
  have h2:(l.countP fun j=>decide (j<a+1))<=l.length:=List.countP_le_length
  omega
 refine ⟨fun i=>((d9L ns.length).map r).countP fun j=>decide (j<r i),fun i x hx hb k hk=>?_,fun i hi=>?_⟩
 ·obtain ⟨j,rfl,hj⟩:=a1a (a2j (d8q.1 hT x (d8x hx)) k hk)
  exact strict _ _ _ (hr i x hx hb _ hk) (d8T.2 ⟨j,by simpa using hj,by simp⟩)
 ·have:=hlt ((d9L ns.length).map r) (r i) (d8T.2 ⟨i,by simpa using hi,rfl⟩)
  simpa using this
def DF (ns:List Api_TypeNode)(st:List Int)(j:Nat):Prop:=st[j]?=some 2\/∃ x,ns[j]?=some x/\isB x=false
theorem d0e:∀ (l:List Int) (i:Nat),l[i]?=some 0->(l.set i 1).count 0+1=l.count 0
 | [],i,h=>by simp at h
 | x::l,0,h=>by
   have:x=0:=by simpa using h
   subst this
   simp
 | x::l,i+1,h=>by
   have:=d0e l i (by simpa using h)
   rw [e0j,d96,d96]
   omega
theorem d2B:∀ (l:List Int) (i:Nat),(l.set i 2).count 0<=l.count 0
 | [],i=>by simp
 | x::l,0=>by
   rw [e0i,d96,d96]
   simp
 | x::l,i+1=>by
   have:=d2B l i
   rw [e0j,d96,d96]
   omega
structure DfsR (ns:List Api_TypeNode)(st st':List Int):Prop where
 len:st'.length=ns.length
 val:∀ (j:Nat) e,st'[j]?=some e->e=0\/e=1\/e=2
 gd:Gd ns (DF ns st')
 opn:∀ j:Nat,st'[j]?=some 1↔st[j]?=some 1
 don:∀ j:Nat,st[j]?=some 2->st'[j]?=some 2
 zer:st'.count 0<=st.count 0
theorem d6z (t:Api_Type)(hT:a6z t.Nodes=true)(hk:∀ x∈t.Nodes,x.Kids.length<=1100000) :
 ∀ (fuel i:Nat) (st:List Int),st.count 0<fuel->i<t.Nodes.length->DfsR t.Nodes st st ->
  ∃ b st',J1 fuel (i:Int) st t ()=some (b,st')/\(b=true->DfsR t.Nodes st st'/\DF t.Nodes st' i)/\(b=false->∀ r,Rk t.Nodes r->(∀ o:Nat,st[o]?=some 1->r i<r o)->False):=by
 intro fuel
 induction fuel with
 | zero=>intro i st h1; omega
 | succ f ih =>
   intro i st h1 h2 hS
   show ∃ b st',a4a f (J1 f) (i:Int) st t ()=some (b,st')/\_
   have h3:=hS.len
   have hi:i<st.length:=by omega
   have hst:=d8n hi
   have hn:=d8n h2
   generalize st[i]=e at hst
   generalize hx:t.Nodes[i]=x at hn
   have hxm:x∈t.Nodes:=d8x hn
   unfold a4a
   simp only [Z9 hst,Z9 hn,d8M,hst,d8l,d6E,V0,Q9]
   by_cases hq:e=0/\isB x=true
   ·obtain ⟨he,hb⟩:=hq
    subst he
    rw [hb]
    simp only [bne_self_eq_false,cond_false,d9m,d8l]
    have hke:=hk x hxm
    have hz:=d0e st i hst
    have hset:∀ j:Nat,(st.set i 1)[j]?=some 1↔st[j]?=some 1\/j=i:=fun j=>by
     by_cases e:i=j
     ·subst e; rw [d8Z hi]; simp
     ·rw [d9d e]; exact ⟨.inl,fun h=>h.resolve_right (Ne.symm e)⟩
    have hset2:∀ j:Nat,(st.set i 1)[j]?=some 2↔st[j]?=some 2:=fun j=>by
     by_cases e:i=j
     ·subst e; rw [d8Z hi,hst]; simp
     ·rw [d9d e]
    have hS1:DfsR t.Nodes (st.set i 1) (st.set i 1):=by
     refine ⟨by simpa using h3,fun j e hj=>?_,?_,fun _=>Iff.rfl,fun _ h=>h,d8r _⟩
     ·by_cases e1:i=j
      ·subst e1; rw [d8Z hi] at hj; simp at hj; omega
      ·rw [d9d e1] at hj; exact hS.val j e hj
     ·have e:∀ j,DF t.Nodes (st.set i 1) j↔DF t.Nodes st j:=fun j=>or_congr (hset2 j) Iff.rfl
      obtain ⟨r,hr⟩:=hS.gd
      exact ⟨r,fun j y a1 a2 a3 k a4=>by
       obtain ⟨k1,k2⟩:=hr j y ((e j).1 a1) a2 a3 k a4
       exact ⟨(e _).2 k1,k2⟩⟩
    have key:∀ (m a k:Nat) (s:List Int),a+m=x.Kids.length->m+1<=k->DfsR t.Nodes (st.set i 1) s->(∀ (q:Nat) (y:Int),q<a->x.Kids[q]?=some y->DF t.Nodes s y.toNat) ->
     (∃ s',j7 (Q7 t x (J1 f)) k ((a:Int),s)=some (.inl s')/\DfsR t.Nodes (st.set i 1) s'/\∀ y∈x.Kids,DF t.Nodes s' y.toNat) \/
     ∃ s',j7 (Q7 t x (J1 f)) k ((a:Int),s)=some (.inr (false,s'))/\∀ r,Rk t.Nodes r->(∀ o:Nat,st[o]?=some 1->r i<r o)->False:=by
     intro m
     induction m with
     | zero =>
       intro a k s b1 b2 b3 b4
       obtain ⟨k,rfl⟩:∃ m,k=m+1:=⟨k-1,by omega⟩
       have e:a=x.Kids.length:=by omega
       subst e
       have:Q7 t x (J1 f) ((x.Kids.length:Int),s)=some (.done (.inl s)):=by
        unfold Q7
        simp
       exact .inl ⟨s,by simp only [j7,this,d8l],b3,fun y hy=>by
        obtain ⟨q,hq,e⟩:=d9b hy
        exact b4 q y hq (by rw [d8n hq,e])⟩
     | succ m ihm =>
       intro a k s b1 b2 b3 b4
       obtain ⟨k,rfl⟩:∃ m,k=m+1:=⟨k-1,by omega⟩
       have ha:a<x.Kids.length:=by omega
       have hka:=d8n ha
       have hkm:=d8B ha
       obtain ⟨j,hj1,hj3⟩:=a1a (a2j (d8q.1 hT x hxm) _ hkm)
       obtain ⟨b,s',c1,c2,c3⟩:=ih j s (by have:=b3.zer; omega) hj3 ⟨b3.len,b3.val,b3.gd,fun _=>Iff.rfl,fun _ h=>h,d8r _⟩
       cases b with
       | true =>
         obtain ⟨c4,c5⟩:=c2 rfl
         have:Q7 t x (J1 f) ((a:Int),s)=some (.next (((a+1:Nat):Int),s')):=by
          unfold Q7
          rw [J8 ha,Z9 hka,hj1]
          simp only [cond_true,d8l,Q9]
          rw [c1,Y1 a (by omega)]
          rfl
         simp only [j7,this,d8l]
         refine ihm (a+1) k s' (by omega) (by omega) ⟨c4.len,c4.val,c4.gd,fun q=>(c4.opn q).trans (b3.opn q),fun q hq=>c4.don q (b3.don q hq),d8C c4.zer b3.zer⟩ (fun q y hq hy=>?_)
         by_cases hqa:q=a
         ·subst hqa
          rw [hka] at hy
          cases hy
          rw [hj1,d8M]
          exact c5
         ·exact (b4 q y (by omega) hy).imp (fun h=>c4.don _ h) id
       | false =>
         have:Q7 t x (J1 f) ((a:Int),s)=some (.done (.inr (false,s'))):=by
          unfold Q7
          rw [J8 ha,Z9 hka,hj1]
          simp only [cond_true,d8l,Q9]
          rw [c1]
          rfl
         refine .inr ⟨s',by simp only [j7,this,d8l],fun r hr ho=>c3 rfl r hr fun o hopn=>?_⟩
         have hrk:r j<r i:=by
          have:=hr i x hn hb _ hkm
          rwa [hj1,d8M] at this
         rcases (hset o).1 ((b3.opn o).1 hopn) with h | rfl
         ·exact Nat.lt_trans hrk (ho o h)
         ·exact hrk
    have e0:j7 (Q7 t x (J1 f)) (x.Kids.length+1) (0,st.set i 1)=j7 (Q7 t x (J1 f)) (x.Kids.length+1) (((0:Nat):Int),st.set i 1):=rfl
    rw [e0]
    rcases key x.Kids.length 0 (x.Kids.length+1) (st.set i 1) (by omega) (d8r _) hS1 (fun q y hq=>by omega) with ⟨s',c1,c2,c3⟩ | ⟨s',c1,c2⟩
    ·rw [c1]
     have hi':i<s'.length:=by rw [c2.len]; exact h2
     have hs':=d8n hi'
     have hs1:s'[i]?=some 1:=(c2.opn i).2 ((hset i).2 (.inr rfl))
     simp only [d8l,w9,Z9 hs',hs']
     refine ⟨true,s'.set i 2,rfl,fun _=>⟨⟨by simpa using c2.len,fun j e hj=>?_,?_,fun j=>?_,fun j hj=>?_,?_⟩,.inl (d8Z hi')⟩,fun h=>by cases h⟩
     ·by_cases e1:i=j
      ·subst e1; rw [d8Z hi'] at hj; simp at hj; omega
      ·rw [d9d e1] at hj; exact c2.val j e hj
     ·refine Gd.add c2.gd hn (fun _=>c3) fun j=>?_
      unfold DF
      by_cases e1:i=j
      ·subst e1; rw [d8Z hi']; simp
      ·rw [d9d e1]; exact ⟨.inl,fun h=>h.resolve_right (Ne.symm e1)⟩
     ·by_cases e1:i=j
      ·subst e1; rw [d8Z hi',hst]; simp
      ·rw [d9d e1]
       exact (c2.opn j).trans ((hset j).trans ⟨fun h=>h.resolve_right (Ne.symm e1),.inl⟩)
     ·have h2':=c2.don j ((hset2 j).2 hj)
      by_cases e1:i=j
      ·subst e1; rw [d8Z hi']
      ·rw [d9d e1]; exact h2'
     ·have a1:=d2B s' i
      have a2:=c2.zer
      omega
    ·rw [c1]
     exact ⟨false,s',rfl,(fun h=>by cases h),fun _=>c2⟩
   ·by_cases he1:e=1
    ·subst he1
     exact ⟨false,st,by cases isB x<;>rfl,(fun h=>by cases h),fun _ r _ ho=>Nat.lt_irrefl _ (ho i hst)⟩
    ·refine ⟨true,st,?_,fun _=>⟨hS,?_⟩,fun h=>by cases h⟩
     ·by_cases he:e=0
      ·subst he
       have hb:isB x=false:=by
        cases hb:isB x with
        | true=>exact absurd ⟨rfl,hb⟩ hq
        | false=>rfl
       rw [hb]
       rfl
      ·have e2:(e != 0)=true:=by simpa using he
       have e3:(e != 1)=true:=by simpa using he1
       rw [e2,e3]
       rfl
     ·rcases hS.val i e hst with rfl | rfl | rfl
      ·right
       refine ⟨x,hn,?_⟩
       cases hb:isB x with
       | true=>exact absurd ⟨rfl,hb⟩ hq
       | false=>rfl
      ·exact absurd rfl he1
      ·exact .inl hst
theorem d3G (t:Api_Type)(hT:a6z t.Nodes=true)(hk:∀ x∈t.Nodes,x.Kids.length<=1100000)(hN:t.Nodes.length<=1100000)(fuel:Nat)(hf:t.Nodes.length+1<=fuel):a3F fuel t=some (a7c t.Nodes):=by
 unfold a3F a6d
 have e0:(decide (0<=(t.Nodes.length:Int))&&decide ((t.Nodes.length:Int)<=(t.Nodes.length:Int))&&decide ((t.Nodes.length:Int)*((8:Nat):Int)<=140737488355328))=true:=by
  simp; omega
 rw [e0]
 simp only [cond_true,d8l,V0]
 have key:∀ (m a k:Nat) (s:List Int),a+m=t.Nodes.length->m+1<=k->DfsR t.Nodes s s->(∀ j:Nat,s[j]?≠some 1)->(∀ j,j<a->DF t.Nodes s j) ->
  (∃ s',j7 (J5 t fuel) k ((a:Int),s)=some (.inl s')/\a7c t.Nodes=true)\/∃ s',j7 (J5 t fuel) k ((a:Int),s)=some (.inr (false,s'))/\a7c t.Nodes=false:=by
  intro m
  induction m with
  | zero =>
    intro a k s b1 b2 b3 b4 b5
    obtain ⟨k,rfl⟩:∃ m,k=m+1:=⟨k-1,by omega⟩
    have e:a=t.Nodes.length:=by omega
    subst e
    have:J5 t fuel ((t.Nodes.length:Int),s)=some (.done (.inl s)):=by
     unfold J5
     simp
    exact .inl ⟨s,by simp only [j7,this,d8l],b2J.2 (b3.gd.acy b5)⟩
  | succ m ih =>
    intro a k s b1 b2 b3 b4 b5
    obtain ⟨k,rfl⟩:∃ m,k=m+1:=⟨k-1,by omega⟩
    have hz:s.count 0<=t.Nodes.length:=by rw [<- b3.len]; exact List.count_le_length
    obtain ⟨b,s',c1,c2,c3⟩:=d6z t hT hk fuel a s (by omega) (by omega) b3
    cases b with
    | true =>
      obtain ⟨c4,c5⟩:=c2 rfl
      have:J5 t fuel ((a:Int),s)=some (.next (((a+1:Nat):Int),s')):=by
       unfold J5
       rw [J8 (show a<t.Nodes.length by omega)]
       simp only [cond_true,d8l,Q9]
       rw [c1,Y1 a (by omega)]
       rfl
      simp only [j7,this,d8l]
      refine ih (a+1) k s' (by omega) (by omega) ⟨c4.len,c4.val,c4.gd,fun _=>Iff.rfl,fun _ h=>h,d8r _⟩ (fun j h=>b4 j ((c4.opn j).1 h)) (fun j hj=>?_)
      by_cases h:j=a
      ·rw [h]; exact c5
      ·exact (b5 j (by omega)).imp (fun h=>c4.don _ h) id
    | false =>
      have:J5 t fuel ((a:Int),s)=some (.done (.inr (false,s'))):=by
       unfold J5
       rw [J8 (show a<t.Nodes.length by omega)]
       simp only [cond_true,d8l,Q9]
       rw [c1]
       rfl
      refine .inr ⟨s',by simp only [j7,this,d8l],?_⟩
      cases hA:a7c t.Nodes with
      | false=>rfl
      | true =>
        obtain ⟨r,hr⟩:=b2J.1 hA
        exact (c3 rfl r hr fun o ho=>absurd ho (b4 o)).elim
 have hrep:∀ (j:Nat) (e:Int),(d8D t.Nodes.length (0:Int))[j]?=some e->e=0:=fun j e h=>by
  rw [List.getElem?_replicate] at h
  split at h
  ·simpa using h.symm
  ·cases h
 have hS:DfsR t.Nodes (d8D t.Nodes.length (0:Int)) (d8D t.Nodes.length (0:Int)) :=
  ⟨by simp,fun j e h=>.inl (hrep j e h),⟨fun _=>0,fun i x hi hx hb=>by
   rcases hi with hi | ⟨y,hy,hyb⟩
   ·have:=hrep i 2 hi; omega
   ·rw [hx] at hy; cases hy; rw [hb] at hyb; cases hyb⟩,fun _=>Iff.rfl,fun _ h=>h,d8r _⟩
 have e':∀ s,j7 (J5 t fuel) (t.Nodes.length+1) (0,s)=j7 (J5 t fuel) (t.Nodes.length+1) (((0:Nat):Int),s):=fun _=>rfl
 rw [e']
 rcases key t.Nodes.length 0 (t.Nodes.length+1) (d8D t.Nodes.length (0:Int)) (by omega) (d8r _) hS (fun j h=>by have:=hrep j 1 h; omega) (fun j hj=>by omega) with ⟨s',e,hA⟩ | ⟨s',e,hA⟩
 ·rw [e,hA]; rfl
 ·rw [e,hA]; rfl
theorem d6r (t:Api_Type)(hk:∀ x∈t.Nodes,x.Kids.length<=1100000/\x.Fields.length<=1100000)(hN:t.Nodes.length<=1100000)(fuel:Nat)(hf:t.Nodes.length+1<=fuel):K4 fuel t=some (if inR t.Nodes.length t.Root&&a6z t.Nodes then (if a7c t.Nodes then 0 else 3) else 1):=by
 have l2:j7 (a2V t) (t.Nodes.length+1) 0=some (if t.Nodes.all (V2 t.Nodes.length)=true then .inl () else .inr 1):=by
  refine a1d t.Nodes (V2 t.Nodes.length) (fun i=>(i:Int)) () 1 ?_ ?_
  ·intro i x hx
   have hi:i<t.Nodes.length:=(d8o.1 hx).1
   obtain ⟨hk1,hk2⟩:=hk x (d8x hx)
   unfold a2V
   rw [J8 hi,Z9 hx]
   simp only [cond_true,d8l,d22,d35 x (by omega),Q9,V0]
   rw [<- d2C,Y1 i (by omega)]
   cases c0C x
   ·rfl
   cases c0x x
   ·rfl
   simp only [d9m,cond_false,d8l,d9B]
   rw [d37 x hk1 hk2]
   simp only [d8l]
   have he:(a6k x).length<=4194304:=by
    unfold a6k
    simp only [d8t,d8L]
    split<;>simp<;>omega
   have l1:j7 (a2R t (a6k x)) ((a6k x).length+1) 0=some (if (a6k x).all (inR t.Nodes.length)=true then .inl () else .inr 1):=by
    refine a1d (a6k x) (inR t.Nodes.length) (fun i=>(i:Int)) () 1 ?_ ?_
    ·intro j y hy
     have hj:j<(a6k x).length:=(d8o.1 hy).1
     unfold a2R
     rw [J8 hj,Z9 hy]
     simp only [cond_true,d8l,Q9]
     rw [Y1 j (by omega)]
     unfold inR
     by_cases h1:y<0
     ·have a1:decide (y<0)=true:=by simpa using h1
      have a2:decide (0<=y)=false:=by simp; omega
      rw [a1,a2]; rfl
     ·have a1:decide (y<0)=false:=by simpa using h1
      have a2:decide (0<=y)=true:=by simp; omega
      rw [a1,a2]
      by_cases h2:y<(t.Nodes.length:Int)
      ·have a3:decide ((t.Nodes.length:Int)<=y)=false:=by simp; omega
       have a4:decide (y<(t.Nodes.length:Int))=true:=by simpa using h2
       rw [a3,a4]; rfl
      ·have a3:decide ((t.Nodes.length:Int)<=y)=true:=by simp; omega
       have a4:decide (y<(t.Nodes.length:Int))=false:=by simpa using h2
       rw [a3,a4]; rfl
    ·unfold a2R
     simp
   rw [l1]
   cases (a6k x).all (inR t.Nodes.length)<;>rfl
  ·unfold a2V
   simp
 unfold K4
 rw [V0,l2]
 have hq:((bif decide (t.Root<0) then some true else some (decide ((t.Nodes.length:Int)<=t.Root))).bind fun q=>some q)=some (!inR t.Nodes.length t.Root):=by
  unfold inR
  by_cases h1:t.Root<0
  ·have a1:decide (t.Root<0)=true:=by simpa using h1
   have a2:decide (0<=t.Root)=false:=by simp; omega
   rw [a1,a2]; rfl
  ·have a1:decide (t.Root<0)=false:=by simpa using h1
   have a2:decide (0<=t.Root)=true:=by simp; omega
   rw [a1,a2]
   by_cases h2:t.Root<(t.Nodes.length:Int)
   ·have a3:decide ((t.Nodes.length:Int)<=t.Root)=false:=by simp; omega
    have a4:decide (t.Root<(t.Nodes.length:Int))=true:=by simpa using h2
    rw [a3,a4]; rfl
   ·have a3:decide ((t.Nodes.length:Int)<=t.Root)=true:=by simp; omega
    have a4:decide (t.Root<(t.Nodes.length:Int))=false:=by simpa using h2
    rw [a3,a4]; rfl
 rw [a56] at hq
 rw [hq]
 simp only [d8l]
 cases inR t.Nodes.length t.Root
 ·rfl
 show _=some (if a6z t.Nodes=true then (if a7c t.Nodes then (0:Int) else 3) else 1)
 cases hA:a6z t.Nodes with
 | true =>
   have hA':t.Nodes.all (V2 t.Nodes.length)=true:=hA
   rw [hA']
   simp only [d9m,cond_false,if_true,d8l,w9]
   rw [d3G t hA (fun x hx=>(hk x hx).1) hN fuel hf]
   cases a7c t.Nodes<;>rfl
 | false =>
   have hA':t.Nodes.all (V2 t.Nodes.length)=false:=hA
   rw [hA']
   rfl
theorem d7R (t:Api_Type)(hO:c5J t.Nodes)(hk:∀ x∈t.Nodes,x.Kids.length<=1100000/\x.Fields.length<=1100000)(hN:t.Nodes.length<=1100000)(fuel:Nat)(hf:t.Nodes.length+1<=fuel):K4 fuel t=some (if inR t.Nodes.length t.Root&&a6z t.Nodes then 0 else 1):=by
 rw [d6r t hk hN fuel hf]
 cases hA:a6z t.Nodes with
 | false=>rw [Bool.and_false]; rfl
 | true=>rw [hO.acy hA]; rfl
end Go.Pl
namespace Go.Pl
open Go Go.RowKit Go.Sx Go.Qx
theorem d55 (t:Api_Type)(D:List Bool)(i fuel:Nat)(x:Api_TypeNode)(hx:t.Nodes[i]?=some x)(hD:D.length=t.Nodes.length)(hT:a6z t.Nodes=true)(hk:x.Kids.length<=1100000)(hf:x.Kids.length+1<=fuel) :
 ∃ A,j7 (K2 t (D,(i:Int))) fuel (D,true,0)=some (D,A)/\((isB x=true->∀ k∈x.Kids,D[k.toNat]?=some true)↔A=true):=by
 have hxm:x∈t.Nodes:=d8x hx
 have hkr:=a2j (d8q.1 hT x hxm)
 have hix:=Z9 hx
 cases hb:isB x with
 | false =>
   obtain ⟨k,rfl⟩:∃ m,fuel=m+1:=⟨fuel-1,by omega⟩
   have:K2 t (D,(i:Int)) (D,true,0)=some (.done (D,true)):=by
    unfold K2
    simp only [hix,d8l,c5a,hb]
    rfl
   exact ⟨true,by simp only [j7,this,d8l],fun _=>rfl,fun _ h=>by cases h⟩
 | true =>
   have key:∀ (m a k:Nat) (A:Bool),a+m=x.Kids.length->m+1<=k ->
    ∃ A',j7 (K2 t (D,(i:Int))) k (D,A,(a:Int))=some (D,A')/\((A=true/\∀ (q:Nat) (y:Int),a<=q->x.Kids[q]?=some y->D[y.toNat]?=some true)↔A'=true):=by
    intro m
    induction m with
    | zero =>
      intro a k A b1 b2
      obtain ⟨k,rfl⟩:∃ m,k=m+1:=⟨k-1,by omega⟩
      have e:a=x.Kids.length:=by omega
      subst e
      have:K2 t (D,(i:Int)) (D,A,(x.Kids.length:Int))=some (.done (D,A)):=by
       unfold K2
       simp only [hix,d8l,c5a,hb,cond_true]
       simp
      exact ⟨A,by simp only [j7,this,d8l],fun h=>h.1,fun h=>⟨h,fun q y h1 h2=>by have:=(d8o.1 h2).1; omega⟩⟩
    | succ m ih =>
      intro a k A b1 b2
      obtain ⟨k,rfl⟩:∃ m,k=m+1:=⟨k-1,by omega⟩
      have ha:a<x.Kids.length:=by omega
      have hka:=d8n ha
      have hkm:=d8B ha
      obtain ⟨j,hj,hj2⟩:=a1a (hkr _ hkm)
      have hDj:=d8n (show j<D.length by omega)
      obtain ⟨A',c1,c2⟩:=ih (a+1) k (bif A then D[j] else false) (by omega) (by omega)
      have:K2 t (D,(i:Int)) (D,A,(a:Int))=some (.next (D,(bif A then D[j] else false),((a+1:Nat):Int))):=by
       unfold K2
       simp only [hix,d8l,c5a,hb,cond_true,J8 ha,Z9 hka,hj,Z9 hDj,d8M,hDj,Q9]
       rw [Y1 a (by omega)]
       cases A<;>rfl
      simp only [j7,this,d8l]
      refine ⟨A',c1,Iff.trans ⟨fun ⟨hA,hall⟩=>⟨?_,fun q y hq hy=>hall q y (by omega) hy⟩,fun ⟨hA,hall⟩=>?_⟩ c2⟩
      ·have hq:=hall a _ (d8r _) hka
       rw [hj,d8M,hDj] at hq
       subst hA
       simpa using hq
      ·cases A with
       | false=>cases hA
       | true =>
         refine ⟨rfl,fun q y hq hy=>?_⟩
         by_cases e:q=a
         ·subst e
          rw [hka] at hy
          cases hy
          rw [hj,d8M,hDj]
          simpa using hA
         ·exact hall q y (by omega) hy
   obtain ⟨A,c1,c2⟩:=key x.Kids.length 0 fuel true (by omega) hf
   refine ⟨A,c1,Iff.trans ⟨fun h=>⟨rfl,fun q y _ hy=>h rfl y (d8x hy)⟩,fun h _ y hy=>?_⟩ c2⟩
   obtain ⟨q,hq,e⟩:=d9b hy
   exact h.2 q y (d8w _) (by rw [d8n hq,e])
def trD (D:List Bool)(j:Nat):Prop:=D[j]?=some true
theorem d3T (t:Api_Type)(hT:a6z t.Nodes=true)(hk:∀ x∈t.Nodes,x.Kids.length<=1100000)(hN:t.Nodes.length<=1100000)(fuel:Nat)(hf:1100001<=fuel)(r:Nat->Nat)(q:Nat) :
 ∀ (m a k:Nat) (D:List Bool),a+m=t.Nodes.length->m+1<=k->D.length=t.Nodes.length->Gd t.Nodes (trD D)->(Rk t.Nodes r->(∀ j,j<t.Nodes.length->r j<q->D[j]?=some true)/\∀ j,j<a->r j<q+1->D[j]?=some true) ->
  ∃ D',j7 (X1 t fuel) k (D,(a:Int))=some D'/\D'.length=t.Nodes.length/\Gd t.Nodes (trD D')/\(Rk t.Nodes r->∀ j,j<t.Nodes.length->r j<q+1->D'[j]?=some true):=by
 intro m
 induction m with
 | zero =>
   intro a k D b1 b2 b3 b4 b5
   obtain ⟨k,rfl⟩:∃ m,k=m+1:=⟨k-1,by omega⟩
   have e:a=t.Nodes.length:=by omega
   subst e
   have:X1 t fuel (D,(t.Nodes.length:Int))=some (.done D):=by
    unfold X1
    simp
   exact ⟨D,by simp only [j7,this,d8l],b3,b4,fun hr=>(b5 hr).2⟩
 | succ m ih =>
   intro a k D b1 b2 b3 b4 b5
   obtain ⟨k,rfl⟩:∃ m,k=m+1:=⟨k-1,by omega⟩
   have ha:a<t.Nodes.length:=by omega
   have hn:=d8n ha
   generalize hx:t.Nodes[a]=x at hn
   have hxm:x∈t.Nodes:=d8x hn
   have hkx:=hk x hxm
   obtain ⟨A,c1,c2⟩:=d55 t D a fuel x hn b3 hT hkx (by omega)
   have haD:a<D.length:=by omega
   have hDa:=d8n haD
   generalize D[a]=e at hDa
   have step:X1 t fuel (D,(a:Int))=some (.next (D.set a (e||A),((a+1:Nat):Int))):=by
    unfold X1
    simp only
    rw [J8 ha,c1]
    simp only [cond_true,d8l,Z9 hDa,d8M,hDa,Q9]
    rw [Y1 a (by omega)]
    cases e<;>rfl
   simp only [j7,step,d8l]
   have hset:∀ j,D[j]?=some true->(D.set a (e||A))[j]?=some true:=fun j hj=>by
    by_cases h:a=j
    ·subst h
     rw [d8Z haD]
     rw [hDa] at hj
     cases hj
     rfl
    ·rw [d9d h]; exact hj
   refine ih (a+1) k (D.set a (e||A)) (by omega) (by omega) (by simpa using b3) ?_ (fun hr=>⟨fun j hj h=>hset j ((b5 hr).1 j hj h),fun j hj h=>?_⟩)
   ·cases hA:A with
    | false =>
      have:D.set a (e||false)=D:=by
       apply d9O
       intro j
       by_cases h:a=j
       ·subst h; rw [d8Z haD,hDa,Bool.or_false]
       ·rw [d9d h]
      rw [this]; exact b4
    | true =>
      refine Gd.add b4 hn (fun hb k hk=>c2.2 hA hb k hk) fun j=>?_
      unfold trD
      by_cases h:a=j
      ·subst h; rw [d8Z haD]; simp
      ·rw [d9d h]; exact ⟨.inl,fun h1=>h1.resolve_right (Ne.symm h)⟩
   ·by_cases e1:j=a
    ·subst e1
     rw [d8Z haD]
     have hA:A=true:=c2.1 fun hb kk hkk=>by
      obtain ⟨i,rfl,hi⟩:=a1a (a2j (d8q.1 hT x hxm) kk hkk)
      have:=hr j x hn hb _ hkk
      rw [d8M] at this ⊢
      exact (b5 hr).1 i hi (by omega)
     rw [hA]
     simp
    ·exact hset j ((b5 hr).2 j (by omega) h)
theorem d5J (t:Api_Type)(hk:∀ x∈t.Nodes,x.Kids.length<=1100000/\x.Fields.length<=1100000)(hN:t.Nodes.length<=1100000)(fuel:Nat)(hf:1100001<=fuel):a0o fuel t=some (if inR t.Nodes.length t.Root&&a6z t.Nodes then (if a7c t.Nodes then 0 else 3) else 1):=by
 have l1:j7 (a16 t) (t.Nodes.length+1) 0=some (if t.Nodes.all (V2 t.Nodes.length)=true then .inl () else .inr 1):=by
  refine a1d t.Nodes (V2 t.Nodes.length) (fun i=>(i:Int)) () 1 ?_ ?_
  ·intro i x hx
   have hi:i<t.Nodes.length:=(d8o.1 hx).1
   obtain ⟨hk1,hk2⟩:=hk x (d8x hx)
   unfold a16
   rw [J8 hi,Z9 hx]
   simp only [cond_true,d8l,Q9]
   rw [c8S t x (by omega) (by omega),Y1 i (by omega)]
   cases V2 t.Nodes.length x<;>rfl
  ·unfold a16
   simp
 unfold a0o
 rw [b3K,V0,l1]
 simp only [d8l]
 cases inR t.Nodes.length t.Root
 ·rfl
 show _=some (if a6z t.Nodes=true then (if a7c t.Nodes then (0:Int) else 3) else 1)
 cases hA:a6z t.Nodes with
 | false =>
   have hA':t.Nodes.all (V2 t.Nodes.length)=false:=hA
   rw [hA']
   rfl
 | true =>
   have hA':t.Nodes.all (V2 t.Nodes.length)=true:=hA
   rw [hA']
   simp only [d9m,cond_false,if_true,d8l,w9]
   have e0:a6d (t.Nodes.length:Int) (t.Nodes.length:Int) 1=some t.Nodes.length:=by
    unfold a6d
    have:(decide (0<=(t.Nodes.length:Int))&&decide ((t.Nodes.length:Int)<=(t.Nodes.length:Int))&&decide ((t.Nodes.length:Int)*((1:Nat):Int)<=140737488355328))=true:=by
     simp; omega
    rw [this]
    simp
   rw [e0]
   simp only [d8l]
   obtain ⟨r,hrr⟩:∃ r,a7c t.Nodes=true->Rk t.Nodes r/\∀ i,i<t.Nodes.length->r i<t.Nodes.length:=by
    cases hA2:a7c t.Nodes with
    | false=>exact ⟨fun _=>0,fun h=>by cases h⟩
    | true =>
      obtain ⟨r,h⟩:=(b2J.1 hA2).small hA
      exact ⟨r,fun _=>h⟩
   have key:∀ (m q k:Nat) (D:List Bool),q+m=t.Nodes.length->m+1<=k->D.length=t.Nodes.length->Gd t.Nodes (trD D)->(Rk t.Nodes r->∀ j,j<t.Nodes.length->r j<q->D[j]?=some true) ->
    ∃ D',j7 (X2 t fuel) k (D,(q:Int))=some D'/\D'.length=t.Nodes.length/\Gd t.Nodes (trD D')/\(Rk t.Nodes r->∀ j,j<t.Nodes.length->r j<t.Nodes.length->D'[j]?=some true):=by
    intro m
    induction m with
    | zero =>
      intro q k D b1 b2 b3 b4 b5
      obtain ⟨k,rfl⟩:∃ m,k=m+1:=⟨k-1,by omega⟩
      have e:q=t.Nodes.length:=by omega
      subst e
      have:X2 t fuel (D,(t.Nodes.length:Int))=some (.done D):=by
       unfold X2
       simp
      exact ⟨D,by simp only [j7,this,d8l],b3,b4,b5⟩
    | succ m ih =>
      intro q k D b1 b2 b3 b4 b5
      obtain ⟨k,rfl⟩:∃ m,k=m+1:=⟨k-1,by omega⟩
      obtain ⟨D',c1,c2,c3,c4⟩:=d3T t hA (fun x hx=>(hk x hx).1) hN fuel hf r q t.Nodes.length 0 (t.Nodes.length+1) D (by omega) (d8r _) b3 b4 (fun hr=>⟨b5 hr,fun j hj=>by omega⟩)
      have c1':j7 (X1 t fuel) (t.Nodes.length+1) (D,0)=some D':=c1
      have step:X2 t fuel (D,(q:Int))=some (.next (D',((q+1:Nat):Int))):=by
       unfold X2
       simp only
       rw [J8 (show q<t.Nodes.length by omega),V0,c1']
       simp only [cond_true,d8l,Q9]
       rw [Y1 q (by omega)]
      simp only [j7,step,d8l]
      exact ih (q+1) k D' (by omega) (by omega) c2 c3 c4
   have hrep:∀ (j:Nat),(d8D t.Nodes.length false)[j]?≠some true:=fun j h=>by
    rw [List.getElem?_replicate] at h
    split at h<;>cases h
   obtain ⟨D,c1,c2,c3,c4⟩:=key t.Nodes.length 0 (t.Nodes.length+1) (d8D t.Nodes.length false) (by omega) (d8r _) (by simp) ⟨fun _=>0,fun i x hi=>absurd hi (hrep i)⟩ (fun _ j hj h=>by omega)
   have c1':j7 (X2 t fuel) (t.Nodes.length+1) (d8D t.Nodes.length false,0)=some D:=c1
   rw [c1']
   simp only [d8l]
   have hall:D.all (fun b=>b)=a7c t.Nodes:=by
    rw [d9g,d8q]
    constructor
    ·intro h
     refine b2J.2 (c3.acy fun j hj=>?_)
     have hj':j<D.length:=by omega
     unfold trD
     rw [d8n hj',h _ (d8B hj')]
    ·intro h b hb
     obtain ⟨j,hj,rfl⟩:=d9b hb
     have:=c4 (hrr h).1 j (by omega) ((hrr h).2 j (by omega))
     rw [d8n hj] at this
     simpa using this
   have l5:=a1d (step:=a03) D (fun b=>b) (fun i=>(D,(i:Int))) D ((3:Int),D) (fun i x hx=>by
    have hi:i<D.length:=(d8o.1 hx).1
    unfold a03
    simp only
    rw [J8 hi,Z9 hx]
    simp only [cond_true,d8l,d8M,hx,Q9]
    rw [Y1 i (by omega)]
    cases x<;>rfl) (by
    unfold a03
    simp)
   rw [hall] at l5
   have l5':j7 a03 (D.length+1) (D,0)=some (if a7c t.Nodes=true then .inl D else .inr ((3:Int),D)):=l5
   rw [V0,l5']
   cases a7c t.Nodes<;>rfl
theorem d6m (t:Api_Type)(hO:c5J t.Nodes)(hk:∀ x∈t.Nodes,x.Kids.length<=1100000/\x.Fields.length<=1100000)(hN:t.Nodes.length<=1100000)(fuel:Nat)(hf:1100001<=fuel):a0o fuel t=some (if inR t.Nodes.length t.Root&&a6z t.Nodes then 0 else 1):=by
 rw [d5J t hk hN fuel hf]
 cases hA:a6z t.Nodes with
 | false=>rw [Bool.and_false]; rfl
 | true=>rw [hO.acy hA]; rfl
end Go.Pl
end
section
open Bool renaming and_eq_true->d8p
open Int renaming toNat_natCast->d8M
open List renaming all_eq_true->d8q,append_nil->d82,getElem?_append_left->d8H,getElem?_eq_some_iff->d8o,length_append->d8t,length_cons->d8v,length_nil->d8I,mem_append->d8y,mem_singleton->d9o
open Nat renaming le_refl->d8r
open Option renaming bind_some->d8l
namespace Go.Pl
open Go Go.RowKit Go.Sx Go.Qx
structure GN (N i:Nat)(x:Api_TypeNode):Prop where
 ok:V2 N x=true
 ord:isB x=true->∀ k∈x.Kids,(i:Int)<k
 kids:x.Kids.length<=4
 text:x.Text.size<=5
 flds:x.Fields.length<=3
 keys:∀ f∈x.Fields,a6o f.Key_<=8
 rng : -9223372036854775808<=x.Lo/\x.Lo<=9223372036854775807 /\ -9223372036854775808<=x.Hi/\x.Hi<=9223372036854775807
theorem b71 {N M:Nat}(h:N<=M){k:Int}(hk:inR N k=true):inR M k=true:=by
 unfold inR at *
 simp only [d8p,decide_eq_true_eq] at *
 omega
theorem c8A {α:Type}{p q:α->Bool}{l:List α}(h:∀ x,p x=true->q x=true)(k:l.all p=true):l.all q=true:=d8q.2 fun x hx=>h x (d8q.1 k x hx)
theorem d0O {N M:Nat}(h:N<=M){x:Api_TypeNode}(hx:V2 N x=true):V2 M x=true:=by
 unfold V2 at *
 simp only [d8p] at *
 refine ⟨c8A (fun k=>b71 h) hx.1,hx.2.1,hx.2.2.1,hx.2.2.2.1,?_⟩
 have hk:=hx.2.2.2.2
 unfold a2z at *
 split<;>rename_i h3
 ·rwa [if_pos h3] at hk
 rw [if_neg h3] at hk
 split<;>rename_i h4
 ·rwa [if_pos h4] at hk
 rw [if_neg h4] at hk
 split<;>rename_i h6
 ·rwa [if_pos h6] at hk
 rw [if_neg h6] at hk
 split<;>rename_i h19
 ·rwa [if_pos h19] at hk
 rw [if_neg h19] at hk
 split<;>rename_i hs
 ·rwa [if_pos hs] at hk
 rw [if_neg hs] at hk
 split<;>rename_i h10
 ·rwa [if_pos h10] at hk
 rw [if_neg h10] at hk
 split<;>rename_i h12
 ·rwa [if_pos h12] at hk
 rw [if_neg h12] at hk
 split<;>rename_i h14
 ·rwa [if_pos h14] at hk
 rw [if_neg h14] at hk
 split<;>rename_i h16
 ·rwa [if_pos h16] at hk
 rw [if_neg h16] at hk
 split<;>rename_i h18
 ·rwa [if_pos h18] at hk
 rw [if_neg h18] at hk
 split<;>rename_i h13
 ·rw [if_pos h13] at hk
  unfold a5w at *
  simp only [d8p] at *
  exact ⟨⟨hk.1.1,hk.1.2.1,c8A (fun f=>b71 h) hk.1.2.2⟩,hk.2.1,b71 h hk.2.2.1,b71 h hk.2.2.2⟩
 ·rwa [if_neg h13] at hk
theorem GN.mono {N M i:Nat}{x:Api_TypeNode}(h:GN N i x)(k:N<=M):GN M i x:=⟨d0O k h.ok,h.ord,h.kids,h.text,h.flds,h.keys,h.rng⟩
abbrev a4h (k:Int)(l:List Int):Api_TypeNode:=Api_TypeNode.mk k 0 0 (⟨#[]⟩:ByteArray) l ([]:List Api_Field) (0,0)
abbrev d6K (k:Int)(s:ByteArray):Api_TypeNode:=Api_TypeNode.mk k 0 0 s ([]:List Int) ([]:List Api_Field) (0,0)
theorem a7Y {N i:Nat}{k:Int}{l:List Int}(hl:l.all (inR N)=true)(h4:l.length<=4)(hk:a2z N (a4h k l)=true)(ho:k=16\/k=17\/k=18->∀ x∈l,(i:Int)<x):GN N i (a4h k l):=by
 refine ⟨?_,fun hb=>ho ?_,h4,by show (⟨#[]⟩:ByteArray).size<=5; decide,by show (0:Nat)<=3; omega,(fun f hf=>by cases hf),by show (-9223372036854775808:Int)<=0/\(0:Int)<=9223372036854775807/\(-9223372036854775808:Int)<=0/\(0:Int)<=9223372036854775807; decide⟩
 ·unfold V2
  rw [hk]
  simp [hl,a71,a58]
 ·unfold isB at hb
  simp at hb
  omega
theorem c4P {N i:Nat}{k:Int}{s:ByteArray}(hs:s.size<=5)(hk:(k=4)\/(k=6/\a4J s=true)\/(k=19/\a5V s=true)):GN N i (d6K k s):=by
 refine ⟨?_,fun hb=>?_,by show (0:Nat)<=4; omega,hs,by show (0:Nat)<=3; omega,(fun f hf=>by cases hf),by show (-9223372036854775808:Int)<=0/\(0:Int)<=9223372036854775807/\(-9223372036854775808:Int)<=0/\(0:Int)<=9223372036854775807; decide⟩
 ·have h64:(s.size:Int)<=64:=by omega
  rcases hk with rfl | ⟨rfl,h⟩ | ⟨rfl,h⟩
  ·simp [V2,a2z,a58,h64]
  ·simp [V2,a2z,a58,h]
  ·simp [V2,a2z,a58,h]
 ·intro x hx; cases hx
section
variable {L:List Int}
theorem c35 {γ σ τ:Type}{step:σ->Option (Fl σ τ)}(pack:γ->Int->Semtypebase_Source->σ)(out:γ->Semtypebase_Source->τ)(Inv:Nat->γ->Prop)(J:Nat)
 (hst:∀ (j:Nat) (g:γ) (s:Semtypebase_Source),j<J->Inv j g->OS L s->∃ g' s',step (pack g (j:Int) s)=some (.next (pack g' ((j+1:Nat):Int) s'))/\OS L s'/\Inv (j+1) g')
 (hend:∀ g s,step (pack g (J:Int) s)=some (.done (out g s))) :
 ∀ (n j k:Nat) (g:γ) (s:Semtypebase_Source),j+n=J->n+1<=k->Inv j g->OS L s->∃ g' s',j7 step k (pack g (j:Int) s)=some (out g' s')/\OS L s'/\Inv J g':=by
 intro n
 induction n with
 | zero =>
   intro j k g s hJ hk hI hs
   obtain ⟨k,rfl⟩:∃ m,k=m+1:=⟨k-1,by omega⟩
   have e:j=J:=by omega
   subst e
   exact ⟨g,s,by have:=hend g s; simp [j7,this],hs,hI⟩
 | succ n ih =>
   intro j k g s hJ hk hI hs
   obtain ⟨k,rfl⟩:∃ m,k=m+1:=⟨k-1,by omega⟩
   obtain ⟨g1,s1,e,hs1,hI1⟩:=hst j g s (by omega) hI hs
   obtain ⟨g2,s2,e2,hs2,hI2⟩:=ih (j+1) k g1 s1 (by omega) (by omega) hI1 hs1
   refine ⟨g2,s2,?_,hs2,hI2⟩
   simp only [j7,e,d8l]
   exact e2
theorem c9A (hL:L.length<=4194304){s:Semtypebase_Source}(h:OS L s)(m i N:Nat)(hm:m<=4)(hi:i<N)(hN:N<=100) :
 ∃ l t,v7 s (m:Int) (i:Int) (N:Int)=some (l,t)/\OS L t/\l.length=m/\∀ k∈l,(i:Int)<=k/\k<(N:Int):=by
 unfold v7
 obtain ⟨g,s',e,hs',h1,h2⟩:=a8j (γ:=List Int) (L:=L) (step:=a1b (i:Int) (N:Int)) (fun g j s=>(j,g,s)) (fun g s=>(g,s)) (fun j g=>g.length=j/\∀ k∈g,(i:Int)<=k/\k<(N:Int)) m
  (fun j n g s hj hn hI hs=>by
    obtain ⟨x,t,e,ht,a,b⟩:=Q4 hL hs (n:=w64 ((N:Int)-(i:Int))) (by rw [W2 (by omega) (by omega)]; omega) (by rw [W2 (by omega) (by omega)]; omega)
    rw [W2 (by omega) (by omega)] at b
    have hw:w64 ((i:Int)+x)=(i:Int)+x:=W2 (by omega) (by omega)
    refine ⟨g++[(i:Int)+x],t,?_,ht,?_,?_⟩
    ·unfold a1b
     simp only [Q9]
     rw [show decide (0<((n+1:Nat):Int))=true from decide_eq_true (by omega),e]
     simp only [cond_true,d8l,hw]
     rw [W8 (by simp only [d8v,d8I]; have:=hI.1; omega),show w64 (((n+1:Nat):Int)-1)=(n:Int) by rw [W2 (by omega) (by omega)]; omega]
     rfl
    ·simp [hI.1]
    ·intro k hk
     rcases d8y.1 hk with hk | hk
     ·exact hI.2 k hk
     ·rw [d9o.1 hk]; omega) (fun g s=>by
    unfold a1b
    rfl) m 0 ((m:Int).toNat+2) [] s (by omega) (by omega) ⟨rfl,fun k hk=>by cases hk⟩ h
 rw [e]
 exact ⟨g,s',rfl,hs',by simpa using h1,h2⟩
theorem a7U {N:Nat}{k:Int}(h0:0<=k)(h1:k<(N:Int)):inR N k=true:=by
 unfold inR
 simp [h0,h1]
theorem b2q {N i:Nat}{l:List Int}(h:∀ k∈l,(i:Int)<=k/\k<(N:Int)):l.all (inR N)=true:=d8q.2 fun k hk=>by
 have:=h k hk
 exact a7U (by omega) this.2
abbrev d61:Key:=Key.mk 0 ⟨#[97]⟩
abbrev d6n:Key:=Key.mk 0 ⟨#[98]⟩
abbrev d68:Key:=Key.mk 1 ⟨#[115]⟩
abbrev d77:Type:=Int×Int×Int×ByteArray×(List Int)×(List Api_Field)×Int×Int
abbrev c5f (F:List Api_Field)(a b:Int):d77:=(13,0,0,(⟨#[]⟩:ByteArray),[],F,a,b)
theorem c0v (hL:L.length<=4194304){s:Semtypebase_Source}(h:OS L s)(N j:Nat)(hN:1<=N)(hN2:N<=100)(hj:j<3)(K:Key)(hK:[d61,d6n,d68][j]?=some K)(F:List Api_Field)(hF:F.length<=j)(a b:Int) :
 ∃ O t,W9 (N:Int) ((j:Int),s,c5f F a b)=some (.next (((j+1:Nat):Int),t,c5f (F++O) a b))/\OS L t/\(O=[]\/∃ n o,O=[Api_Field.mk K n o]/\inR N n=true):=by
 obtain ⟨x,t,e,ht,_,_⟩:=Q4 hL h (n:=2) (by omega) (by omega)
 unfold W9
 simp only [Q9]
 rw [show decide ((j:Int)<3)=true from decide_eq_true (by omega),e]
 simp only [cond_true,d8l]
 rw [Y1 j (by omega)]
 cases hx:x==1
 ·exact ⟨[],t,by simp only [cond_false,d8l,d82],ht,.inl rfl⟩
 ·simp only [cond_true]
  rw [Z9 hK]
  obtain ⟨n,t2,e2,ht2,n0,n1⟩:=Q4 hL ht (n:=(N:Int)) (by omega) (by omega)
  obtain ⟨o,t3,e3,ht3,_,_⟩:=Q4 hL ht2 (n:=2) (by omega) (by omega)
  simp only [d8l,e2,e3]
  rw [W8 (by simp only [d8v,d8I]; omega)]
  exact ⟨[Api_Field.mk K n (o==1)],t3,rfl,ht3,.inr ⟨n,_,rfl,a7U n0 n1⟩⟩
theorem c9T (hL:L.length<=4194304){s:Semtypebase_Source}(h:OS L s)(N i:Nat)(hN:1<=N)(hN2:N<=100):∃ x t,a1R s (N:Int)=some (x,t)/\OS L t/\GN N i x:=by
 obtain ⟨a,t1,e1,ht1,a0,a1⟩:=Q4 hL h (n:=(N:Int)) (by omega) (by omega)
 obtain ⟨b,t2,e2,ht2,b0,b1⟩:=Q4 hL ht1 (n:=(N:Int)) (by omega) (by omega)
 obtain ⟨O0,t3,e3,ht3,h0⟩:=c0v hL ht2 N 0 hN hN2 (by omega) d61 rfl [] (by simp) a b
 have l0:O0.length<=1:=by rcases h0 with rfl | ⟨n,o,rfl,_⟩<;>simp
 obtain ⟨O1,t4,e4,ht4,h1⟩:=c0v hL ht3 N 1 hN hN2 (by omega) d6n rfl ([]++O0) (by simpa using l0) a b
 have l1:O1.length<=1:=by rcases h1 with rfl | ⟨n,o,rfl,_⟩<;>simp
 obtain ⟨O2,t5,e5,ht5,h2⟩:=c0v hL ht4 N 2 hN hN2 (by omega) d68 rfl (([]++O0)++O1) (by simp; omega) a b
 have e6:W9 (N:Int) (((2+1:Nat):Int),t5,c5f ((([]++O0)++O1)++O2) a b)=some (.done (t5,c5f ((([]++O0)++O1)++O2) a b)):=rfl
 refine ⟨Api_TypeNode.mk 13 0 0 (⟨#[]⟩:ByteArray) [] (O0++O1++O2) (a,b),t5,?_,ht5,?_⟩
 ·unfold a1R
  rw [e1]
  simp only [d8l]
  rw [e2]
  simp only [d8l]
  have ei:j7 (W9 (N:Int)) ((3:Int).toNat+1) (0,t2,(13,0,0,(⟨#[]⟩:ByteArray),[],[],a,b))=some (t5,c5f ((([]++O0)++O1)++O2) a b):=by
   show j7 (W9 (N:Int)) (3+1) (((0:Nat):Int),t2,c5f [] a b)=_
   simp only [j7,e3,e4,e5,e6,d8l]
  rw [ei]
  rfl
 ·refine ⟨?_,fun hb=>absurd hb (show ¬ (false=true) by simp),by show (0:Nat)<=4; omega,by show (⟨#[]⟩:ByteArray).size<=5; decide,?_,?_,by show (-9223372036854775808:Int)<=0/\(0:Int)<=9223372036854775807/\(-9223372036854775808:Int)<=0/\(0:Int)<=9223372036854775807; decide⟩
  ·have ha:=a7U (N:=N) a0 a1
   have hb:=a7U (N:=N) b0 b1
   have hF:a5w N (O0++O1++O2)=true:=by
    unfold a5w
    rw [d8p,d8p]
    refine ⟨?_,?_,?_⟩
    ·rcases h0 with rfl | ⟨n,o,rfl,_⟩<;>rcases h1 with rfl | ⟨n',o',rfl,_⟩<;>rcases h2 with rfl | ⟨n'',o'',rfl,_⟩<;>kernel_rfl
    ·rcases h0 with rfl | ⟨n,o,rfl,_⟩<;>rcases h1 with rfl | ⟨n',o',rfl,_⟩<;>rcases h2 with rfl | ⟨n'',o'',rfl,_⟩<;>kernel_rfl
    ·rcases h0 with rfl | ⟨n,o,rfl,q0⟩<;>rcases h1 with rfl | ⟨n',o',rfl,q1⟩<;>rcases h2 with rfl | ⟨n'',o'',rfl,q2⟩<;>simp_all
   unfold V2 a2z
   simp only [hF,ha,hb,a71]
   simp
  ·show (O0++O1++O2).length<=3
   have l2:O2.length<=1:=by rcases h2 with rfl | ⟨n,o,rfl,_⟩<;>simp
   simp only [d8t]
   omega
  ·intro f hf
   have hf:f∈O0++O1++O2:=hf
   have one:∀ {O:List Api_Field} {K:Key},(O=[]\/∃ n o,O=[Api_Field.mk K n o]/\inR N n=true)->f∈O->f.Key_=K:=fun hO hm=>by
    rcases hO with rfl | ⟨n,o,rfl,_⟩
    ·cases hm
    ·rw [d9o.1 hm]
   rcases d8y.1 hf with hf | hf
   ·rcases d8y.1 hf with hf | hf
    ·rw [one h0 hf]; decide
    ·rw [one h1 hf]; decide
   ·rw [one h2 hf]; decide
end
end Go.Pl
namespace Go.Pl
open Go Go.RowKit Go.Sx Go.Qx
theorem c37 {N i:Nat}{k:Int}(hk:k=1\/k=2\/k=5\/k=7\/k=8\/k=9\/k=11\/k=15):GN N i (a4h k []) :=
 a7Y rfl (by simp) (by rcases hk with rfl | rfl | rfl | rfl | rfl | rfl | rfl | rfl<;>rfl) (fun _ x hx=>by cases hx)
theorem d7p {N i:Nat}{lo hi:Int}(h:lo<=hi)(h2 : -9223372036854775808<=lo/\lo<=9223372036854775807 /\ -9223372036854775808<=hi/\hi<=9223372036854775807):GN N i (Api_TypeNode.mk 3 lo hi (⟨#[]⟩:ByteArray) ([]:List Int) ([]:List Api_Field) (0,0)) :=
 ⟨by simp [V2,a2z,a58,a71,h],(fun _ x hx=>by cases hx),(by show (0:Nat)<=4; omega),(by show (⟨#[]⟩:ByteArray).size<=5; decide),(by show (0:Nat)<=3; omega),(fun f hf=>by cases hf),h2⟩
theorem c6r:b4I.all (fun x=>a5V x&&decide (x.size<=5))=true:=by kernel_rfl
section
variable {L:List Int}
theorem a86 {x:Int}(h:0<=x):∃ m:Nat,x=(m:Int):=⟨x.toNat,by omega⟩
theorem d25 (hL:L.length<=4194304){s:Semtypebase_Source}(h:OS L s)(N i:Nat)(hi:i<N)(hN2:N<=100):∃ x t,a2B s (i:Int) (N:Int)=some (x,t)/\OS L t/\GN N i x:=by
 have hw:w64 ((N:Int)-1)=(N:Int)-1:=W2 (by omega) (by omega)
 have hwi:=Y1 i (by omega)
 obtain ⟨b,hb,hlast,hb18⟩:∃ b:Int,(bif ((i:Int)==(wr .i64 ((N:Int)-1))) then (some 14:Option Int) else some 18)=some b/\(14<b->i+1<N)/\(b=14\/b=18):=by
  by_cases e:i+1=N
  ·refine ⟨14,?_,fun h=>by omega,.inl rfl⟩
   have:((i:Int)==(N:Int)-1)=true:=by simp; omega
   simp only [Q9,hw,this,cond_true]
  ·refine ⟨18,?_,fun _=>by omega,.inr rfl⟩
   have:((i:Int)==(N:Int)-1)=false:=by simp; omega
   simp only [Q9,hw,this,cond_false]
 unfold a2B
 rw [hb]
 simp only [d8l]
 obtain ⟨c,t,e,ht,c0,c1⟩:=Q4 hL h (n:=b) (by omega) (by omega)
 rw [e]
 simp only [d8l]
 have ix:∀ {s:Semtypebase_Source},OS L s->∀ (m f:Nat),m<=4->f<N->∃ l t,v7 s (m:Int) (f:Int) (N:Int)=some (l,t)/\OS L t/\l.length=m/\∀ k∈l,(f:Int)<=k/\k<(N:Int):=fun hs m f hm hf=>c9A hL hs m f N hm hf hN2
 have hc:c=0\/c=1\/c=2\/c=3\/c=4\/c=5\/c=6\/c=7\/c=8\/c=9\/c=10\/c=11\/c=12\/c=13\/c=14\/c=15\/c=16\/c=17:=by omega
 have tup:∀ {s:Semtypebase_Source},OS L s->∃ x t,((j5 s 3).bind fun r19=>(v7 r19.2 r19.1 0 (N:Int)).bind fun r20=>some (a4h 10 r20.1,r20.2))=some (x,t)/\OS L t/\GN N i x:=fun hs=>by
  obtain ⟨m,t2,e2,ht2,m0,m1⟩:=Q4 hL hs (n:=3) (by omega) (by omega)
  obtain ⟨m,rfl⟩:=a86 m0
  obtain ⟨l,t3,e3,ht3,hl,hr⟩:=ix ht2 m 0 (by omega) (by omega)
  rw [e2]
  simp only [d8l]
  have e3':v7 t2 (m:Int) 0 (N:Int)=some (l,t3):=e3
  rw [e3']
  refine ⟨_,t3,rfl,ht3,a7Y (l:=l) (b2q hr) (show l.length<=4 by omega) ?_ (fun h=>by omega)⟩
  show decide ((l.length:Int)<=4)=true
  exact decide_eq_true (by omega)
 have fun_:∀ {s:Semtypebase_Source},OS L s->∃ x t,((j5 s 3).bind fun r24=>(v7 r24.2 (w64 (1+r24.1)) 0 (N:Int)).bind fun r25=>some (a4h 14 r25.1,r25.2))=some (x,t)/\OS L t/\GN N i x:=fun hs=>by
  obtain ⟨m,t2,e2,ht2,m0,m1⟩:=Q4 hL hs (n:=3) (by omega) (by omega)
  obtain ⟨m,rfl⟩:=a86 m0
  obtain ⟨l,t3,e3,ht3,hl,hr⟩:=ix ht2 (m+1) 0 (by omega) (by omega)
  rw [e2]
  simp only [d8l]
  have e3':v7 t2 (w64 (1+(m:Int))) 0 (N:Int)=some (l,t3):=by
   rw [W2 (by omega) (by omega),show 1+(m:Int)=((m+1:Nat):Int) by omega]
   exact e3
  rw [e3']
  refine ⟨_,t3,rfl,ht3,a7Y (l:=l) (b2q hr) (show l.length<=4 by omega) ?_ (fun h=>by omega)⟩
  show (decide (1<=(l.length:Int))&&decide ((l.length:Int)<=5))=true
  rw [d8p]
  exact ⟨decide_eq_true (by omega),decide_eq_true (by omega)⟩
 have uni:i+1<N->∀ {s:Semtypebase_Source},OS L s->∃ x t,((j5 s 2).bind fun r28=>(v7 r28.2 (w64 (2+r28.1)) (w64 ((i:Int)+1)) (N:Int)).bind fun r29=>some (a4h 16 r29.1,r29.2))=some (x,t)/\OS L t/\GN N i x:=fun hlt s hs=>by
  obtain ⟨m,t2,e2,ht2,m0,m1⟩:=Q4 hL hs (n:=2) (by omega) (by omega)
  obtain ⟨m,rfl⟩:=a86 m0
  obtain ⟨l,t3,e3,ht3,hl,hr⟩:=ix ht2 (m+2) (i+1) (by omega) hlt
  rw [e2]
  simp only [d8l]
  have e3':v7 t2 (w64 (2+(m:Int))) (w64 ((i:Int)+1)) (N:Int)=some (l,t3):=by
   rw [W2 (x:=2+(m:Int)) (by omega) (by omega),hwi,show 2+(m:Int)=((m+2:Nat):Int) by omega]
   exact e3
  rw [e3']
  refine ⟨_,t3,rfl,ht3,a7Y (l:=l) (b2q hr) (show l.length<=4 by omega) ?_ (fun _ x hx=>by have:=hr x hx; omega)⟩
  show decide (1<=(l.length:Int))=true
  exact decide_eq_true (by omega)
 rcases hc with rfl | rfl | rfl | rfl | rfl | rfl | rfl | rfl | rfl | rfl | rfl | rfl | rfl | rfl | rfl | rfl | rfl | rfl<;>simp only [Int.reduceBEq,cond_true,cond_false,d8l,Q9]
 ·obtain ⟨a,t2,e2,ht2,a0,a1⟩:=Q4 hL ht (n:=5) (by omega) (by omega)
  obtain ⟨d,t3,e3,ht3,d0,d1⟩:=Q4 hL ht2 (n:=w64 (5-a)) (by rw [W2 (by omega) (by omega)]; omega) (by rw [W2 (by omega) (by omega)]; omega)
  rw [W2 (x:=5-a) (by omega) (by omega)] at d1
  rw [e2]
  simp only [d8l]
  rw [e3]
  simp only [d8l]
  rw [W2 (x:=a+d) (by omega) (by omega)]
  have ha:a=0\/a=1\/a=2\/a=3\/a=4:=by omega
  have hd:d=0\/d=1\/d=2\/d=3\/d=4:=by omega
  rcases ha with rfl | rfl | rfl | rfl | rfl<;>rcases hd with rfl | rfl | rfl | rfl | rfl<;>first | (exfalso; omega) | exact ⟨_,t3,rfl,ht3,d7p (by decide) (by decide)⟩
 ·obtain ⟨x,t2,e2,ht2,hx⟩:=b0t hL ht
  have hf:=d8q.1 b2c x hx
  simp only [d8p,decide_eq_true_eq] at hf
  rw [e2]
  exact ⟨_,t2,rfl,ht2,c4P hf.2 (.inr (.inl ⟨rfl,hf.1⟩))⟩
 ·exact ⟨_,t,rfl,ht,c37 (by omega)⟩
 ·obtain ⟨x,t2,e2,ht2,hx⟩:=c1c hL ht
  have hf:=d8q.1 b1L x hx
  simp only [decide_eq_true_eq] at hf
  rw [e2]
  exact ⟨_,t2,rfl,ht2,c4P hf (.inl rfl)⟩
 ·obtain ⟨a,t2,e2,ht2,a0,a1⟩:=Q4 hL ht (n:=4) (by omega) (by omega)
  rw [e2]
  have ha:a=0\/a=1\/a=2\/a=3:=by omega
  rcases ha with rfl | rfl | rfl | rfl<;>exact ⟨_,t2,rfl,ht2,c37 (by omega)⟩
 ·exact ⟨_,t,rfl,ht,c37 (by omega)⟩
 ·obtain ⟨a,t2,e2,ht2,a0,a1⟩:=Q4 hL ht (n:=2) (by omega) (by omega)
  rw [e2]
  have ha:a=0\/a=1:=by omega
  rcases ha with rfl | rfl<;>exact ⟨_,t2,rfl,ht2,c37 (by omega)⟩
 ·obtain ⟨x,t2,e2,ht2,hx⟩:=b77 hL ht
  have hf:=d8q.1 c6r x hx
  simp only [d8p,decide_eq_true_eq] at hf
  rw [e2]
  exact ⟨_,t2,rfl,ht2,c4P hf.2 (.inr (.inr ⟨rfl,hf.1⟩))⟩
 ·exact tup ht
 ·exact tup ht
 ·obtain ⟨l,t3,e3,ht3,hl,hr⟩:=ix ht 2 0 (by omega) (by omega)
  have e3':v7 t 2 0 (N:Int)=some (l,t3):=e3
  rw [e3']
  refine ⟨_,t3,rfl,ht3,a7Y (l:=l) (b2q hr) (show l.length<=4 by omega) ?_ (fun h=>by omega)⟩
  show ((l.length:Int)==2)=true
  simp [hl]
 ·obtain ⟨x,t2,e2,ht2,hg⟩:=c9T hL ht N i (by omega) hN2
  rw [e2]
  exact ⟨x,t2,rfl,ht2,hg⟩
 ·exact fun_ ht
 ·exact fun_ ht
 ·have hlt:=hlast (by omega)
  obtain ⟨l,t3,e3,ht3,hl,hr⟩:=ix ht 1 (i+1) (by omega) hlt
  have e3':v7 t 1 (w64 ((i:Int)+1)) (N:Int)=some (l,t3):=by rw [hwi]; exact e3
  rw [e3']
  refine ⟨_,t3,rfl,ht3,a7Y (l:=l) (b2q hr) (show l.length<=4 by omega) ?_ (fun _ x hx=>by have:=hr x hx; omega)⟩
  show ((l.length:Int)==1)=true
  simp [hl]
 ·have hlt:=hlast (by omega)
  obtain ⟨l,t3,e3,ht3,hl,hr⟩:=ix ht 2 (i+1) (by omega) hlt
  have e3':v7 t 2 (w64 ((i:Int)+1)) (N:Int)=some (l,t3):=by rw [hwi]; exact e3
  rw [e3']
  refine ⟨_,t3,rfl,ht3,a7Y (l:=l) (b2q hr) (show l.length<=4 by omega) ?_ (fun _ x hx=>by have:=hr x hx; omega)⟩
  show decide (1<=(l.length:Int))=true
  exact decide_eq_true (by omega)
 ·exact uni (hlast (by omega)) ht
 ·exact uni (hlast (by omega)) ht
def GNs (N:Nat)(ns:List Api_TypeNode):Prop:=∀ (i:Nat) (x:Api_TypeNode),ns[i]?=some x->GN N i x
theorem GNs.snoc {N:Nat}{ns:List Api_TypeNode}{x:Api_TypeNode}(h:GNs N ns)(hx:GN N ns.length x):GNs N (ns++[x]):=fun i y hy=>by
 by_cases hi:i<ns.length
 ·rw [d8H hi] at hy
  exact h i y hy
 ·have hlt:=(d8o.1 hy).1
  simp only [d8t,d8v,d8I] at hlt
  have e:i=ns.length:=by omega
  subst e
  simp at hy
  subst hy
  exact hx
theorem d3P (hL:L.length<=4194304){s:Semtypebase_Source}(h:OS L s)(N:Nat)(hN:1<=N)(hN2:N<=100):∃ ns t,a1x s (N:Int)=some (Api_Type.mk ns 0,t)/\OS L t/\ns.length=N/\GNs N ns:=by
 unfold a1x
 have hmax:max (N:Int) 1=(N:Int):=by omega
 rw [hmax,d8M]
 obtain ⟨g,s',e,hs',h1,h2⟩:=c35 (γ:=List Api_TypeNode) (L:=L) (step:=a0O (N:Int)) (fun g j s=>(j,s,(g,0))) (fun g s=>(s,(g,0))) (fun j g=>g.length=j/\GNs N g) N
  (fun j g s hj hI hs=>by
    obtain ⟨x,t,e,ht,hx⟩:=d25 hL hs N j hj hN2
    refine ⟨g++[x],t,?_,ht,by simp [hI.1],hI.2.snoc (by rw [hI.1]; exact hx)⟩
    unfold a0O
    simp only [Q9,hmax]
    rw [J8 hj,e]
    simp only [cond_true,d8l]
    rw [W8 (by simp only [d8v,d8I]; have:=hI.1; omega),Y1 j (by omega)]
    rfl) (fun g s=>by
    unfold a0O
    simp [hmax]) N 0 (N+1) [] s (by omega) (d8r _) ⟨rfl,fun i x hx=>by simp at hx⟩ h
 have e':j7 (a0O (N:Int)) (N+1) (0,s,([],0))=some (s',(g,0)):=e
 rw [e']
 exact ⟨g,s',rfl,hs',h1,h2⟩
end
end Go.Pl
end
section
namespace Go.Pl
open Go Go.RowKit Go.Sx Go.Qx
end Go.Pl
end
section
open List renaming cons_append->d80,foldl_cons->e0f,getElem?_eq_none_iff->d9H,getElem?_eq_some_iff->d8o,takeWhile_append_dropWhile->d9q
open Nat renaming le_refl->d8r
open Option renaming bind_some->d8l
namespace Go.Pl
open Go Go.RowKit Go.Sx Go.Qx
structure CmpOk {α:Type}(c:α->α->Int):Prop where
 anti:∀ a b,c b a = - c a b
 trans:∀ a b d,c a b<=0->c b d<=0->c a d<=0
 eq0:∀ a b,c a b=0->a=b
section
variable {α:Type}{c:α->α->Int}(hc:CmpOk c)
include hc
theorem CmpOk.self (a:α):c a a=0:=by have:=hc.anti a a; omega
theorem CmpOk.strict {a b d:α}(h1:c a b<0)(h2:c b d<=0):c a d<0:=by
 have h3:=hc.trans a b d (by omega) h2
 by_cases h:c a d=0
 ·have:=hc.eq0 _ _ h
  subst this
  have:=hc.anti a b
  omega
 ·omega
theorem CmpOk.nodup {l:List α}(h:l.Pairwise fun a b=>c a b<0):l.Nodup:=h.imp fun {a b} h e=>by
 subst e
 have:=hc.self a
 omega
omit hc in
def b1k (c:α->α->Int)(out:List α)(x:α):List α :=
 match (out.dropWhile (fun y=>decide (c y x<0))).head? with
 | some y=>if c y x=0 then out else a0t (fun y=>decide (c y x<0)) x out
 | none=>a0t (fun y=>decide (c y x<0)) x out
omit hc in
def dd (r:α->α->Bool):α->List α->List α
 | _,[]=>[]
 | p,x::l=>if r x p=true then dd r x l else x::dd r x l
end
end Go.Pl
namespace Go.Pl
open Go Go.RowKit Go.Sx Go.Qx
theorem d3L (x y:ByteArray):J4 x y=decide (cS x y=0):=by
 rcases a8w x y with ⟨_,h,e⟩ | ⟨_,h,e⟩ | ⟨_,h,e⟩<;>simp [h,e]
theorem d3b (x y:ByteArray):a2d x y=decide (cS x y<0):=by
 rcases a8w x y with ⟨h,_,e⟩ | ⟨h,_,e⟩ | ⟨h,_,e⟩<;>simp [h,e]
theorem c9O (l out:List ByteArray)(i:Nat)(x:ByteArray)(hx:l[i]?=some x)(hl:out.length<=4194304)(hi:i<=4194304) :
 a0A l (out,(i:Int))=some (.next (b1k cS out x,((i+1:Nat):Int))):=by
 have hlt:i<l.length:=(d8o.1 hx).1
 have hix:idx l (i:Int)=some x:=Z9 hx
 unfold a0A
 simp only [V0]
 rw [c9d (step:=a3e l (out,(i:Int))) out (fun y=>decide (cS y x<0)) ?_ ?_]
 ·simp only [a1l,Q9]
  rw [if_pos (by simp; omega)]
  simp only [d8l,hix]
  have hk:=b6o (fun y=>decide (cS y x<0)) out
  have hat:=c7A (fun y=>decide (cS y x<0)) out
  have go:((cut out 0 ((out.takeWhile (fun y=>decide (cS y x<0))).length:Int)).bind fun u=>(k9 (0+u.length) 16).bind fun _ =>
   (k9 (u.length+[x].length) 16).bind fun _=>(cut out ((out.takeWhile (fun y=>decide (cS y x<0))).length:Int) (out.length:Int)).bind fun w =>
   (k9 ((u++[x]).length+w.length) 16).bind fun _=>some ((u++[x])++w))=some (a0t (fun y=>decide (cS y x<0)) x out) :=
   d2t out x _ 16 (by omega) hl (fun l=>some l)
  rw [Y1 i (by omega),go]
  unfold b1k
  cases hh:(out.dropWhile (fun y=>decide (cS y x<0))).head? with
  | none =>
    rw [hh] at hat
    have hge:=d9H.1 hat
    rw [if_neg (by simp; omega)]
    rfl
  | some y =>
    rw [hh] at hat
    have hlt2:=(d8o.1 hat).1
    rw [if_pos (by simp; omega),Z9 hat]
    simp only [d8l,d3L]
    by_cases h0:cS y x=0
    ·rw [if_pos (by simp [h0]),if_pos h0]
     rfl
    ·rw [if_neg (by simp [h0]),if_neg h0]
     rfl
 ·intro j y hy
  have hj:j<out.length:=(d8o.1 hy).1
  unfold a3e
  simp only [a1l,Q9]
  rw [if_pos (by simp; omega),Z9 hy,hix]
  simp only [d8l,d3b,Y1 j (by omega)]
  by_cases h:cS y x<0<;>simp [h]
 ·unfold a3e
  simp
theorem d3n {α:Type}(c:α->α->Int)(out:List α)(x:α):(b1k c out x).length<=out.length+1:=by
 unfold b1k
 split
 ·split
  ·omega
  ·rw [a7b]; omega
 ·rw [a7b]; omega
theorem c6v (l:List ByteArray)(hl:l.length<=4194304):a0e l=some (l.foldl (b1k cS) []):=by
 unfold a0e
 have key:=c0p (σ:=List ByteArray) (step:=a0A l) l (fun s i=>(s,(i:Int))) (b1k cS) (fun i s=>s.length<=i) (fun s=>s)
  ?_ ?_ [] (by simp) _ (d8r _)
 ·have e:j7 (a0A l) (l.length+1) (([]:List ByteArray),0)=j7 (a0A l) (l.length+1) (([]:List ByteArray),((0:Nat):Int)):=rfl
  rw [V0,e,key]
  rfl
 ·intro i s x hx hI
  have hi:i<l.length:=(d8o.1 hx).1
  refine ⟨c9O l s i x hx (by omega) (by omega),?_⟩
  have:=d3n cS s x
  omega
 ·intro s _
  unfold a0A
  simp
theorem b3I (a b:List ByteArray):K3 (a++b)=K3 a+K3 b:=by
 induction a with
 | nil=>simp [K3]
 | cons x r ih=>simp only [d80,K3,ih]; omega
theorem d1D (out:List ByteArray)(x:ByteArray):K3 (b1k cS out x)<=K3 out+a3f x:=by
 have hk:∀ p:ByteArray->Bool,K3 (a0t p x out)=K3 out+a3f x:=fun p=>by
  have e:=congrArg K3 (d9q (p:=p) (l:=out))
  rw [b3I] at e
  simp only [a0t,b3I,K3]
  omega
 unfold b1k
 split
 ·split
  ·omega
  ·rw [hk]; omega
 ·rw [hk]; omega
theorem b7W:∀ (l out:List ByteArray),K3 (l.foldl (b1k cS) out)<=K3 out+K3 l
 | [],out=>by simp [K3]
 | x::r,out=>by
   have h1:=b7W r (b1k cS out x)
   have h2:=d1D out x
   simp only [e0f,K3]
   omega
end Go.Pl
end
section
open Bool renaming and_eq_true->d8p
open Int renaming toNat_natCast->d8M
open List renaming all_eq_true->d8q,getElem?_eq_getElem->d8n,getElem_mem->d8B,length_append->d8t,length_cons->d8v,length_nil->d8I,mem_of_getElem?->d8x,set_cons_succ->e0j,set_cons_zero->e0i
open Nat renaming add_mul->d8W,le_refl->d8r,le_trans->d8C,mul_le_mul_right->d8J
open Option renaming bind_some->d8l
namespace Go.Pl
open Go Go.RowKit Go.Sx Go.Qx
section
variable {L:List Int}{t:Api_Type}{N b:Nat}{h:Nat}{rN:Semtypebase_Source->Api_Type->Int->Int->Option (Val×Semtypebase_Source)}
def a8x (L:List Int)(t:Api_Type)(N b h:Nat)(rN:Semtypebase_Source->Api_Type->Int->Int->Option (Val×Semtypebase_Source)):Prop :=
 ∀ (k:Nat) (s:Semtypebase_Source),k<N->OS L s->∃ v u,rN s t (k:Int) (h:Int)=some (v,u)/\OS L u/\vOK v=true/\Z4 v<=b
theorem c0y {N:Nat}{x:Api_TypeNode}(hx:V2 N x=true){j:Nat}(hj:j<x.Kids.length):∃ k:Nat,idx x.Kids (j:Int)=some (k:Int)/\x.Kids[j]?=some (k:Int)/\k<N:=by
 have e:=d8n hj
 obtain ⟨k,hk,hk2⟩:=a1a (a2j hx _ (d8B hj))
 rw [hk] at e
 exact ⟨k,Z9 e,e,hk2⟩
theorem c3E (hd:a8x L t N b h rN){x:Api_TypeNode}(hx:V2 N x=true)(hl:x.Kids.length<=4)(hh:h<=10){s:Semtypebase_Source}(hs:OS L s) :
 ∃ g u,j7 (a0Q t ((h:Int)+1) x rN) (x.Kids.length+1) (0,s,(0,0,(⟨#[]⟩:ByteArray),[],[],[],[]))=some (u,(0,0,(⟨#[]⟩:ByteArray),g,[],[],[]))/\OS L u/\g.length=x.Kids.length/\Z0 g<=x.Kids.length*b:=by
 have hw:w64 ((h:Int)+1-1)=(h:Int):=by rw [W2 (by omega) (by omega)]; omega
 obtain ⟨g,u,e,hu,h1,h2⟩:=c35 (γ:=List Val) (L:=L) (step:=a0Q t ((h:Int)+1) x rN) (fun g j s=>(j,s,(0,0,(⟨#[]⟩:ByteArray),g,[],[],[]))) (fun g s=>(s,(0,0,(⟨#[]⟩:ByteArray),g,[],[],[]))) (fun j g=>g.length=j/\Z0 g<=j*b) x.Kids.length
  (fun j g s hj hI hs=>by
    obtain ⟨k,e1,_,e2⟩:=c0y hx hj
    obtain ⟨v,u,e3,hu,_,hb⟩:=hd k s e2 hs
    refine ⟨g++[v],u,?_,hu,by simp [hI.1],by rw [a3J,d8W]; simp only [Z0]; have:=hI.2; omega⟩
    unfold a0Q
    simp only [Q9,hw]
    rw [J8 hj,e1]
    simp only [cond_true,d8l]
    rw [e3]
    simp only [d8l]
    rw [W8 (by simp only [d8v,d8I]; have:=hI.1; omega),Y1 j (by omega)]
    rfl) (fun g s=>by
    unfold a0Q
    simp) x.Kids.length 0 (x.Kids.length+1) [] s (by omega) (d8r _) ⟨rfl,by simp [Z0]⟩ hs
 exact ⟨g,u,e,hu,h1,h2⟩
theorem d10 (hd:a8x L t N b h rN){x:Api_TypeNode}(hx:V2 N x=true)(hl:x.Kids.length<=4)(h1l:1<=x.Kids.length)(hh:h<=10){s:Semtypebase_Source}(hs:OS L s) :
 ∃ g u,j7 (V3 t x ((h:Int)+1) rN) ((w64 ((x.Kids.length:Int)-1)).toNat+1) (0,s,([],false,0,0,(⟨#[]⟩:ByteArray),[],[],[],[]))=some (u,(g,false,0,0,(⟨#[]⟩:ByteArray),[],[],[],[]))/\OS L u/\g.length=x.Kids.length-1/\a1p g=true/\Z0 g<=3*b:=by
 have hw:w64 ((h:Int)+1-1)=(h:Int):=by rw [W2 (by omega) (by omega)]; omega
 have hw2:w64 ((x.Kids.length:Int)-1)=((x.Kids.length-1:Nat):Int):=by rw [W2 (by omega) (by omega)]; omega
 rw [hw2,d8M]
 obtain ⟨g,u,e,hu,h1,h2,h3⟩:=c35 (γ:=List Val) (L:=L) (step:=V3 t x ((h:Int)+1) rN) (fun g j s=>(j,s,(g,false,0,0,(⟨#[]⟩:ByteArray),[],[],[],[]))) (fun g s=>(s,(g,false,0,0,(⟨#[]⟩:ByteArray),[],[],[],[]))) (fun j g=>g.length=j/\a1p g=true/\Z0 g<=j*b) (x.Kids.length-1)
  (fun j g s hj hI hs=>by
    obtain ⟨k,e1,_,e2⟩:=c0y hx (show j<x.Kids.length by omega)
    obtain ⟨v,u,e3,hu,ho,hb⟩:=hd k s e2 hs
    refine ⟨g++[v],u,?_,hu,by simp [hI.1],by rw [b70,hI.2.1]; simp [a1p,ho],by rw [a3J,d8W]; simp only [Z0]; have:=hI.2.2; omega⟩
    unfold V3
    simp only [Q9,hw,hw2]
    rw [J8 hj,e1]
    simp only [cond_true,d8l]
    rw [e3]
    simp only [d8l]
    rw [W8 (by simp only [d8v,d8I]; have:=hI.1; omega),Y1 j (by omega)]
    rfl) (fun g s=>by
    unfold V3
    simp [Q9,hw2]) (x.Kids.length-1) 0 (x.Kids.length-1+1) [] s (by omega) (d8r _) ⟨rfl,rfl,by simp [Z0]⟩ hs
 have e':j7 (V3 t x ((h:Int)+1) rN) (x.Kids.length-1+1) (0,s,([],false,0,0,(⟨#[]⟩:ByteArray),[],[],[],[]))=some (u,(g,false,0,0,(⟨#[]⟩:ByteArray),[],[],[],[])):=e
 refine ⟨g,u,e',hu,h1,h2,d8C h3 (d8J _ (by omega))⟩
theorem d2J (hL:L.length<=4194304)(hd:a8x L t N b h rN)(hb:8<=b){x:Api_TypeNode}(hx:V2 N x=true)(hl:x.Kids.length<=4)(h1l:1<=x.Kids.length)(hh:h<=10)(m:Nat)(hm:m<=2){s:Semtypebase_Source}(hs:OS L s) :
 ∃ es u,j7 (W7 t x ((h:Int)+1) rN) ((m:Int).toNat+2) ([],(m:Int),s)=some (es,u)/\OS L u/\Y3 es<=m*(4*b+3):=by
 have hw:w64 ((h:Int)+1-1)=(h:Int):=by rw [W2 (by omega) (by omega)]; omega
 have hw2:w64 ((x.Kids.length:Int)-1)=((x.Kids.length-1:Nat):Int):=by rw [W2 (by omega) (by omega)]; omega
 obtain ⟨g,u,e,hu,h1,h2⟩:=a8j (γ:=List Ent) (L:=L) (step:=W7 t x ((h:Int)+1) rN) (fun g n s=>(g,n,s)) (fun g s=>(g,s)) (fun j g=>g.length=j/\Y3 g<=j*(4*b+3)) m
  (fun j n g s hj hn hI hs=>by
    obtain ⟨ag,u1,e1,hu1,ha1,_,ha2⟩:=d10 hd hx hl h1l hh hs
    obtain ⟨z,u2,e2,hu2,_,_⟩:=Q4 hL hu1 (n:=6) (by omega) (by omega)
    obtain ⟨k,e3,_,e4⟩:=c0y hx (show x.Kids.length-1<x.Kids.length by omega)
    have fin:∀ (fl:Bool) (v:Val) (u3:Semtypebase_Source),OS L u3->Z4 v<=b->∃ g' s',((k9 (g.length+([Ent.mk ag fl v]:List Ent).length) 160).bind fun _=>(some (Fl.next (g++([Ent.mk ag fl v]:List Ent),w64 (((n+1:Nat):Int)-1),u3)):Option (Fl (List Ent×Int×Semtypebase_Source) (List Ent×Semtypebase_Source))))=some (.next (g',(n:Int),s'))/\OS L s'/\(g'.length=j+1/\Y3 g'<=(j+1)*(4*b+3)):=fun fl v u3 hu3 hv=>by
     rw [W8 (by simp only [d8v,d8I]; have:=hI.1; omega),show w64 (((n+1:Nat):Int)-1)=(n:Int) by rw [W2 (by omega) (by omega)]; omega]
     refine ⟨_,u3,rfl,hu3,by simp [hI.1],?_⟩
     have hbe:=a2L (Ent.mk ag fl v)
     simp only [Ent.Args,Ent.Result] at hbe
     rw [b1H,d8W]
     simp only [Y3,hbe]
     have:=hI.2
     omega
    unfold W7
    simp only [Q9,hw,hw2]
    rw [show decide (0<((n+1:Nat):Int))=true from decide_eq_true (by omega)]
    rw [hw2] at e1
    rw [e1]
    simp only [cond_true,d8l]
    rw [e2]
    simp only [d8l]
    cases hz:z==1
    ·simp only [cond_false]
     obtain ⟨v,u3,e5,hu3,_,hv⟩:=hd k u2 e4 hu2
     rw [e3]
     simp only [d8l]
     rw [e5]
     simp only [d8l]
     have:=fin false v u3 hu3 hv
     cases v
     exact this
    ·simp only [cond_true,d8l]
     exact fin true a7l u2 hu2 (by rw [a7l,W3]; simp only [a2T,Z0,Z1,Y3]; omega)) (fun g s=>by
    unfold W7
    rfl) m 0 ((m:Int).toNat+2) [] s (by omega) (by omega) ⟨rfl,by simp [Y3]⟩ hs
 exact ⟨g,u,e,hu,by simpa using h2⟩
theorem c9C (hL:L.length<=4194304)(hd:a8x L t N b h rN){x:Api_TypeNode}(hf:∀ f∈x.Fields,inR N f.Node=true)(hk:∀ f∈x.Fields,a6o f.Key_<=8)(hl:x.Fields.length<=3)(hh:h<=10){s:Semtypebase_Source}(hs:OS L s) :
 ∃ ks vs u,j7 (a0q t x ((h:Int)+1) rN) (x.Fields.length+1) ([],[],0,s)=some (ks,vs,u)/\OS L u/\ks.length<=3/\vs.length<=3/\Z1 ks<=24/\Z0 vs<=3*b:=by
 have hw:w64 ((h:Int)+1-1)=(h:Int):=by rw [W2 (by omega) (by omega)]; omega
 obtain ⟨g,u,e,hu,h1,h2,h3,h4⟩:=c35 (γ:=List Key×List Val) (L:=L) (step:=a0q t x ((h:Int)+1) rN) (fun g j s=>(g.1,g.2,j,s)) (fun g s=>(g.1,g.2,s)) (fun j g=>g.1.length<=j/\g.2.length<=j/\Z1 g.1<=j*8/\Z0 g.2<=j*b) x.Fields.length
  (fun j g s hj hI hs=>by
    have ex:=d8n hj
    have hm:=d8B hj
    generalize x.Fields[j]=f at ex hm
    obtain ⟨k,e1,e2⟩:=a1a (hf f hm)
    have hkb:=hk f hm
    have skip:∀ u,OS L u->∃ (g':List Key×List Val) (s':Semtypebase_Source),(some (Fl.next (g.1,g.2,w64 ((j:Int)+1),u)):Option (Fl (List Key×List Val×Int×Semtypebase_Source) (List Key×List Val×Semtypebase_Source)))=some (.next (g'.1,g'.2,((j+1:Nat):Int),s'))/\OS L s'/\(g'.1.length<=j+1/\g'.2.length<=j+1/\Z1 g'.1<=(j+1)*8/\Z0 g'.2<=(j+1)*b):=fun u hu=>by
     rw [Y1 j (by omega)]
     exact ⟨(g.1,g.2),u,rfl,hu,Nat.le_succ_of_le hI.1,Nat.le_succ_of_le hI.2.1,d8C hI.2.2.1 (d8J _ (Nat.le_succ _)),d8C hI.2.2.2 (d8J _ (Nat.le_succ _))⟩
    have take:∀ u,OS L u->∃ (g':List Key×List Val) (s':Semtypebase_Source),(((k9 (g.1.length+([f.Key_]:List Key).length) 24).bind fun _=>(rN u t f.Node (h:Int)).bind fun r8=>(k9 (g.2.length+([r8.1]:List Val).length) 128).bind fun _=>some (g.1++([f.Key_]:List Key),g.2++([r8.1]:List Val),r8.2)).bind fun b10 =>
     (some (Fl.next (b10.1,b10.2.1,w64 ((j:Int)+1),b10.2.2)):Option (Fl (List Key×List Val×Int×Semtypebase_Source) (List Key×List Val×Semtypebase_Source))))=some (.next (g'.1,g'.2,((j+1:Nat):Int),s'))/\OS L s'/\(g'.1.length<=j+1/\g'.2.length<=j+1/\Z1 g'.1<=(j+1)*8/\Z0 g'.2<=(j+1)*b):=fun u hu=>by
     obtain ⟨v,u2,e3,hu2,_,hv⟩:=hd k u e2 hu
     rw [W8 (by simp only [d8v,d8I]; have:=hI.1; omega),e1,e3]
     simp only [d8l]
     rw [W8 (by simp only [d8v,d8I]; have:=hI.2.1; omega),Y1 j (by omega)]
     refine ⟨(g.1++[f.Key_],g.2++[v]),u2,rfl,hu2,?_,?_,?_,?_⟩
     ·simp only [d8t,d8v,d8I]; have:=hI.1; omega
     ·simp only [d8t,d8v,d8I]; have:=hI.2.1; omega
     ·rw [a6U]; simp only [Z1]; have:=hI.2.2.1; omega
     ·rw [a3J,d8W]; simp only [Z0]; have:=hI.2.2.2; omega
    unfold a0q
    simp only [Q9,hw]
    rw [J8 hj,Z9 ex]
    simp only [cond_true,d8l]
    cases hO:f.Optional
    ·simp only [cond_false,d8l]
     exact take s hs
    ·simp only [cond_true]
     obtain ⟨z,u,e4,hu,_,_⟩:=Q4 hL hs (n:=2) (by omega) (by omega)
     rw [e4]
     simp only [d8l]
     cases hz:z==1
     ·simp only [cond_false]
      exact take u hu
     ·simp only [cond_true,d8l]
      exact skip u hu) (fun g s=>by
    unfold a0q
    simp) x.Fields.length 0 (x.Fields.length+1) ([],[]) s (by omega) (d8r _) ⟨d8r _,d8r _,by simp [Z1],by simp [Z0]⟩ hs
 refine ⟨g.1,g.2,u,e,hu,by omega,by omega,by omega,d8C h4 (d8J _ hl)⟩
end
end Go.Pl
namespace Go.Pl
open Go Go.RowKit Go.Sx Go.Qx
structure GT (t:Api_Type):Prop where
 len:t.Nodes.length<=10
 nodes:GNs t.Nodes.length t.Nodes
def DB:Nat->Nat
 | 0=>300
 | h+1=>700+8*DB h
theorem d04 {h:Nat}(hh:h<=4):DB h<=1638300:=by
 match h,hh with
 | 0,_=>decide
 | 1,_=>decide
 | 2,_=>decide
 | 3,_=>decide
 | 4,_=>decide
theorem d58 {h:Nat}(hh:h<=3):DB h<=204700:=by
 match h,hh with
 | 0,_=>decide
 | 1,_=>decide
 | 2,_=>decide
 | 3,_=>decide
theorem d2q (h:Nat):300<=DB h:=by cases h<;>simp [DB]; omega
theorem c85 (x:Val):∀ (l:List Val) (i:Nat),Z0 (l.set i x)<=Z0 l+Z4 x
 | [],_=>by simp [Z0]
 | y::r,0=>by simp only [e0i,Z0]; omega
 | y::r,i+1=>by have:=c85 x r i; simp only [e0j,Z0]; omega
theorem d3x (k n:Int)(s:ByteArray)(a:List Val)(b:List Key)(c:List Ent)(l m:List ByteArray)(q:Nat)(h:K3 m<=K3 l+q):Z4 (Val.mk k n s a b c m)<=Z4 (Val.mk k n s a b c l)+q:=by
 simp only [Z4]; omega
theorem c9I {t:Api_Type}(hT:GT t){i:Nat}{x:Api_TypeNode}(hx:t.Nodes[i]?=some x)(v:Val)(hv:Z4 v<=2000000):∃ w,j7 (W4 t x) (x.Kids.length+1) (0,v)=some w/\Z4 w<=Z4 v+x.Kids.length*6:=by
 have hg:=hT.nodes i x hx
 have key:∀ (m a k:Nat) (w:Val),a+m=x.Kids.length->m+1<=k->Z4 w<=Z4 v+a*6->∃ w',j7 (W4 t x) k ((a:Int),w)=some w'/\Z4 w'<=Z4 v+x.Kids.length*6:=by
  intro m
  induction m with
  | zero =>
    intro a k w h1 h2 h3
    obtain ⟨k,rfl⟩:∃ m,k=m+1:=⟨k-1,by omega⟩
    have e:a=x.Kids.length:=by omega
    subst e
    have:W4 t x ((x.Kids.length:Int),w)=some (.done w):=by
     unfold W4
     simp
    exact ⟨w,by simp only [j7,this,d8l],h3⟩
  | succ m ih =>
    intro a k w h1 h2 h3
    obtain ⟨k,rfl⟩:∃ m,k=m+1:=⟨k-1,by omega⟩
    have ha:a<x.Kids.length:=by omega
    have hk4:=hg.kids
    obtain ⟨j,e1,_,hj⟩:=c0y hg.ok ha
    have e2:=d8n hj
    generalize t.Nodes[j]=y at e2
    have hy:=(hT.nodes j y e2).text
    have step:∃ w',W4 t x ((a:Int),w)=some (.next (((a+1:Nat):Int),w'))/\Z4 w'<=Z4 w+6:=by
     unfold W4
     simp only [Q9]
     rw [J8 ha,e1]
     simp only [cond_true,d8l]
     rw [Z9 e2]
     simp only [d8l]
     rw [Y1 a (by omega)]
     cases hc:y.Kind==19
     ·simp only [cond_false,d8l]
      exact ⟨w,rfl,by omega⟩
     ·simp only [cond_true]
      obtain ⟨kk,n,s,kids,keys,ents,labs⟩:=w
      simp only [Val.Labels,Val.Kind,Val.Int_,Val.Text,Val.Kids,Val.Keys,Val.Entries]
      have hlab:labs.length<=Z4 (Val.mk kk n s kids keys ents labs):=by
       have:=a6V labs
       simp only [Z4]; omega
      rw [W8 (by omega),W8 (by simp only [d8v,d8I]; omega)]
      simp only [d8l]
      rw [c6v (labs++[y.Text]) (by simp only [d8t,d8v,d8I]; omega)]
      refine ⟨_,rfl,d3x _ _ _ _ _ _ _ _ 6 ?_⟩
      have h4:=b7W (labs++[y.Text]) []
      rw [b3I] at h4
      simp only [K3,a3f] at h4
      omega
    obtain ⟨w',e3,h5⟩:=step
    simp only [j7,e3,d8l]
    exact ih (a+1) k w' (by omega) (by omega) (by omega)
 exact key x.Kids.length 0 (x.Kids.length+1) v (by omega) (d8r _) (by omega)
theorem d1X {ks:List Key}{vs:List Val}{u:List Val×List Key}(h:a6b (ks.zip vs) ([],[])=some u):Z4 (b43 u)<=8+Z1 ks+Z0 vs:=by
 obtain ⟨_,_,_,_,_,m⟩:=b3h (ks.zip vs) ([],[]) u h rfl rfl
 have hz:=b9w ks vs
 simp only [Z0,Z1] at m
 simp only [b43,W3,a2T,Y3]
 omega
section
variable {L:List Int}{t:Api_Type}
theorem d26 (hL:L.length<=4194304){b h:Nat}{rN}(hd:a8x L t t.Nodes.length b h rN)(hb:8<=b)(hb2:b<=300000)(hh:h<=10){i:Nat}{x:Api_TypeNode}(hg:GN t.Nodes.length i x)(hk:x.Kind=13){s:Semtypebase_Source}(hs:OS L s)(f:Nat)(r1:Semtypebase_Source->Api_Type->Int->Int->Option (Val×Semtypebase_Source))(r2 r3:Semtypebase_Source->Api_Type->Api_TypeNode->Int->Option (Val×Semtypebase_Source)) :
 ∃ v u,a2M f rN r1 r2 r3 s t x ((h:Int)+1)=some (v,u)/\OS L u/\Z4 v<=100+4*b:=by
 have hw:w64 ((h:Int)+1-1)=(h:Int):=by rw [W2 (by omega) (by omega)]; omega
 have hn:=hg.ok
 unfold V2 a2z a5w at hn
 simp only [hk] at hn
 simp only [d8p] at hn
 have hn2:=hn.2.2.2.2
 simp at hn2
 obtain ⟨⟨_,_,hfn⟩,_,hr0,hr1⟩:=hn2
 obtain ⟨ks,vs,u,e,hu,l1,l2,b1,b2⟩:=c9C hL hd hfn hg.keys hg.flds hh hs
 obtain ⟨k0,hk0,hk0'⟩:=a1a hr0
 obtain ⟨k1,hk1,hk1'⟩:=a1a hr1
 unfold a2M
 rw [V0,e]
 simp only [d8l]
 obtain ⟨z,u2,e2,hu2,_,_⟩:=Q4 hL hu (n:=2) (by omega) (by omega)
 rw [e2]
 simp only [d8l,Q9,hw]
 have fin:∀ (ks:List Key) (vs:List Val) (u3:Semtypebase_Source),ks.length<=4->OS L u3->Z1 ks<=40->Z0 vs<=4*b->∃ v u,((a2b ks vs).bind fun r20=>bif r20.2 != 0 then ((a0c).bind fun r21=>some (r21,u3)) else (some (r20.1,u3)))=some (v,u)/\OS L u/\Z4 v<=100+4*b:=fun ks vs u3 q1 hu3 q2 q3=>by
  rw [c3D ks vs (by omega)]
  have nilb:Z4 (Val.mk 5 0 (⟨#[]⟩:ByteArray) ([]:List Val) ([]:List Key) ([]:List Ent) ([]:List ByteArray))<=100+4*b:=by
   rw [W3]; simp only [a2T,Z0,Z1,Y3]; omega
  by_cases hc:ks.length=vs.length/\ks.all X7=true
  ·rw [if_pos hc]
   cases hm:a6b (ks.zip vs) ([],[]) with
   | none=>exact ⟨_,u3,rfl,hu3,nilb⟩
   | some t =>
     have:=d1X hm
     exact ⟨b43 t,u3,rfl,hu3,by omega⟩
  ·rw [if_neg hc]
   exact ⟨_,u3,rfl,hu3,nilb⟩
 have other:∀ (z:Int) (kk:Nat) (u4:Semtypebase_Source),kk<t.Nodes.length->OS L u4->∃ v u,(((rN u4 t (kk:Int) (h:Int)).bind fun r15=>(k9 (vs.length+([r15.1]:List Val).length) 128).bind fun _=>some (ks++([Key.mk z (⟨#[111,116,104,101,114]⟩:ByteArray)]:List Key),vs++([r15.1]:List Val),r15.2)).bind fun b19 =>
  (a2b b19.1 b19.2.1).bind fun r20=>bif r20.2 != 0 then ((a0c).bind fun r21=>some (r21,b19.2.2)) else (some (r20.1,b19.2.2)))=some (v,u)/\OS L u/\Z4 v<=100+4*b:=fun z kk u4 hkk hu4=>by
  obtain ⟨v,u5,e5,hu5,_,hv⟩:=hd kk u4 hkk hu4
  rw [e5]
  simp only [d8l]
  rw [W8 (by simp only [d8v,d8I]; omega)]
  simp only [d8l]
  refine fin _ _ u5 (by simp only [d8t,d8v,d8I]; omega) hu5 ?_ ?_
  ·rw [a6U]
   have:Z1 ([Key.mk z (⟨#[111,116,104,101,114]⟩:ByteArray)]:List Key)<=10:=by
    simp only [Z1,a6o,a3f]
    decide
   omega
  ·rw [a3J]; simp only [Z0]; omega
 cases hz:z==1
 ·simp only [cond_false,d8l]
  exact fin ks vs u2 (by omega) hu2 (by omega) (by omega)
 ·simp only [cond_true]
  obtain ⟨y,u3,e3,hu3,y0,y1⟩:=Q4 hL hu2 (n:=2) (by omega) (by omega)
  rw [e3]
  simp only [d8l]
  rw [W8 (by simp only [d8v,d8I]; omega)]
  simp only [d8l]
  have hy:y=0\/y=1:=by omega
  rcases hy with rfl | rfl
  ·simp only [Int.reduceBEq,cond_true]
   rw [hk0]
   exact other 0 k0 u3 hk0' hu3
  ·simp only [Int.reduceBEq,cond_true,cond_false]
   rw [hk1]
   exact other 1 k1 u3 hk1' hu3
theorem d2Y (hL:L.length<=4194304){b h:Nat}{rN}(hd:a8x L t t.Nodes.length b h rN)(hb:8<=b)(hb2:b<=300000)(hh:h<=10){i:Nat}{x:Api_TypeNode}(hg:GN t.Nodes.length i x)(hk:x.Kind=14){s:Semtypebase_Source}(hs:OS L s)(f:Nat)(hf:9000000<=f)(r1:Semtypebase_Source->Api_Type->Int->Int->Option (Val×Semtypebase_Source))(r2 r3:Semtypebase_Source->Api_Type->Api_TypeNode->Int->Option (Val×Semtypebase_Source)) :
 ∃ v u,a1M f rN r1 r2 r3 s t x ((h:Int)+1)=some (v,u)/\OS L u/\Z4 v<=100+8*b:=by
 have hn:=hg.ok
 unfold V2 a2z at hn
 simp only [hk] at hn
 simp only [d8p] at hn
 have hn2:=hn.2.2.2.2
 simp at hn2
 have hk4:=hg.kids
 have h1l:1<=x.Kids.length:=by omega
 obtain ⟨m,u,e,hu,m0,m1⟩:=Q4 hL hs (n:=3) (by omega) (by omega)
 obtain ⟨m,rfl⟩:=a86 m0
 obtain ⟨es,u2,e2,hu2,hbe⟩:=d2J hL hd hb hg.ok hk4 h1l hh m (by omega) hu
 unfold a1M
 rw [e]
 simp only [d8l]
 rw [e2]
 simp only [d8l]
 have hbe2:Y3 es<=2*(4*b+3):=d8C hbe (d8J _ (by omega))
 rw [b4n f _ es (by omega) (by omega)]
 have hfb:=a9S es []
 simp only [Y3] at hfb
 by_cases hc:0<=(wr .i64 ((x.Kids.length:Int)-1))/\(wr .i64 ((x.Kids.length:Int)-1))<=4/\es.all (a3E (wr .i64 ((x.Kids.length:Int)-1)))=true
 ·rw [if_pos hc]
  refine ⟨_,u2,rfl,hu2,?_⟩
  simp only [c0K,W3,a2T,Z0,Z1]
  omega
 ·rw [if_neg hc]
  refine ⟨_,u2,rfl,hu2,?_⟩
  rw [W3]; simp only [a2T,Z0,Z1,Y3]; omega
end
end Go.Pl
namespace Go.Pl
open Go Go.RowKit Go.Sx Go.Qx
section
variable {L:List Int}{t:Api_Type}
def c3t (L:List Int)(t:Api_Type)(h:Nat):Prop:=∀ (k f:Nat) (s:Semtypebase_Source),k<t.Nodes.length->9000000+14*h+(10-k)<=f->OS L s ->
 ∃ v u,(j6 f).2.1 s t (k:Int) (h:Int)=some (v,u)/\OS L u/\Z4 v+24*k<=DB h
theorem c33 (hL:L.length<=4194304)(hT:GT t){h:Nat}(hh:h<=4)(hP:c3t L t h)(f:Nat)(hf:9000000+14*h+11<=f):a8x L t t.Nodes.length (DB h) h (j6 f).1:=by
 intro k s hk hs
 obtain ⟨f,rfl⟩:∃ m,f=m+1:=⟨f-1,by omega⟩
 obtain ⟨v,u,e,hu,hb⟩:=hP k f s hk (by omega) hs
 have hD:=d04 hh
 show ∃ v u,a3G f (j6 f).1 (j6 f).2.1 (j6 f).2.2.1 (j6 f).2.2.2 s t (k:Int) (h:Int)=some (v,u)/\_
 unfold a3G
 rw [e]
 simp only [d8l]
 rw [b2R f v (by omega) (by omega)]
 simp only [d8l]
 cases hv:vOK v
 ·obtain ⟨w,u2,e2,hu2,h1,h2⟩:=b7d hL hu
  have:=d2q h
  simp only [Bool.not_false,cond_true]
  rw [e2]
  exact ⟨w,u2,rfl,hu2,h1,by omega⟩
 ·exact ⟨v,u,rfl,hu,hv,by omega⟩
theorem d7j (hL:L.length<=4194304)(hT:GT t):c3t L t 0:=by
 intro k f s hk hf hs
 obtain ⟨f,rfl⟩:∃ m,f=m+1:=⟨f-1,by omega⟩
 obtain ⟨v,u,e,hu,_,hb⟩:=b7d hL hs
 refine ⟨v,u,?_,hu,by have:=hT.len; simp only [DB]; omega⟩
 show a01 f (j6 f).1 (j6 f).2.1 (j6 f).2.2.1 (j6 f).2.2.2 s t (k:Int) ((0:Nat):Int)=some (v,u)
 unfold a01
 have e0:decide (((0:Nat):Int)<=0)=true:=rfl
 rw [e0]
 simp only [cond_true,d8l]
 rw [e]
 rfl
theorem d2f (hL:L.length<=4194304)(hT:GT t){h:Nat}(hh:h<=3)(hP:c3t L t h):c3t L t (h+1):=by
 have key:∀ (d k f:Nat) (s:Semtypebase_Source),t.Nodes.length-k<=d->k<t.Nodes.length->9000000+14*(h+1)+(10-k)<=f->OS L s ->
  ∃ v u,(j6 f).2.1 s t (k:Int) ((h:Int)+1)=some (v,u)/\OS L u/\Z4 v+24*k<=DB (h+1):=by
  intro d
  induction d with
  | zero=>intro k f s h1 h2; omega
  | succ d ih =>
    intro k f s hd hk hf hs
    obtain ⟨f,rfl⟩:∃ m,f=m+1:=⟨f-1,by omega⟩
    have hlen:=hT.len
    have hD:=d58 hh
    have hDp:=d2q h
    have ex:=d8n hk
    generalize t.Nodes[k]=x at ex
    have hg:=hT.nodes k x ex
    have hn:=hg.ok
    have small:∀ {n:Nat},n<=440+8*DB h->n+24*k<=DB (h+1):=fun hn=>by simp only [DB]; omega
    show ∃ v u,a01 f (j6 f).1 (j6 f).2.1 (j6 f).2.2.1 (j6 f).2.2.2 s t (k:Int) ((h:Int)+1)=some (v,u)/\_
    have hQ:=c33 hL hT (show h<=4 by omega) hP f (by omega)
    unfold a01
    have q0:decide ((h:Int)+1<=0)=false:=decide_eq_false (by omega)
    have q1:decide ((k:Int)<0)=false:=decide_eq_false (by omega)
    have q2:decide ((t.Nodes.length:Int)<=(k:Int))=false:=decide_eq_false (by omega)
    rw [q0,q1,q2,Z9 ex]
    simp only [cond_false,d8l]
    have kid:∀ (s:Semtypebase_Source),OS L s->isB x=true->1<=x.Kids.length->∃ (z:Int) (u:Semtypebase_Source) (k':Nat) (v:Val) (u':Semtypebase_Source),j5 s (x.Kids.length:Int)=some (z,u)/\idx x.Kids z=some (k':Int) /\
     (j6 f).2.1 u t (k':Int) ((h:Int)+1)=some (v,u')/\OS L u'/\Z4 v+24*(k+1)<=DB (h+1):=fun s hs hb h1=>by
     have h4:=hg.kids
     obtain ⟨z,u,e,hu,z0,z1⟩:=Q4 hL hs (n:=(x.Kids.length:Int)) (by omega) (by omega)
     obtain ⟨z,rfl⟩:=a86 z0
     obtain ⟨k',e1,e2,hk'⟩:=c0y hn (show z<x.Kids.length by omega)
     have hlt:=hg.ord hb _ (d8x e2)
     obtain ⟨v,u',e3,hu',hbv⟩:=ih k' f u (by omega) hk' (by omega) hu
     exact ⟨z,u,k',v,u',e,e1,e3,hu',by omega⟩
    have other:∃ v u,((a2h f s 2).bind fun r52=>some (r52.1,r52.2))=some (v,u)/\OS L u/\Z4 v+24*k<=DB (h+1):=by
     obtain ⟨v,u,e,hu,_,hb⟩:=d5V hL 1 f (by omega) (by omega) s hs
     have e':a2h f s 2=some (v,u):=e
     rw [e']
     exact ⟨v,u,rfl,hu,small (by have:Go.Pl.hb 1=320:=rfl; omega)⟩
    have hKinds:=a9h x.Kind
    rcases hKinds with hK | hK
    ·have kt:=hn
     unfold V2 a2z at kt
     rcases hK with hK | hK | hK | hK | hK | hK | hK | hK | hK | hK | hK | hK | hK | hK | hK | hK | hK | hK | hK<;>simp only [hK] at kt ⊢<;>simp only [Int.reduceBEq,cond_true,cond_false,d8l]
     ·exact other
     ·exact other
     ·have qd:∀ a:Int,b4j .i64 a 2=some (wr .i64 (a.tdiv 2)):=fun a=>rfl
      rw [qd,qd]
      simp only [d8l]
      obtain ⟨z,u,e,hu,z0,z1⟩:=Q4 hL hs (n:=3) (by omega) (by omega)
      rw [e]
      simp only [d8l]
      generalize wr .i64 (x.Lo+(wr .i64 ((wr .i64 (x.Hi.tdiv 2))-(wr .i64 (x.Lo.tdiv 2)))))=mid
      obtain ⟨y,ey,eg,_⟩:=b6J ([x.Lo,x.Hi,mid]:List Int) z0 (by simpa using z1)
      rw [ey,eg]
      refine ⟨_,u,rfl,hu,small ?_⟩
      rw [W3]; simp only [a2T,Z0,Z1,Y3]; omega
     ·refine ⟨_,s,rfl,hs,small ?_⟩
      have:=hg.text
      rw [W3]; simp only [Z0,Z1,Y3]; omega
     ·obtain ⟨w,u,e,hu,hw⟩:=c1c hL hs
      have hw2:=d8q.1 b1L w hw
      simp only [decide_eq_true_eq] at hw2
      rw [e]
      refine ⟨_,u,rfl,hu,small ?_⟩
      rw [W3]; simp only [Z0,Z1,Y3]; omega
     ·refine ⟨_,s,rfl,hs,small ?_⟩
      have:=hg.text
      rw [W3]; simp only [Z0,Z1,Y3]; omega
     ·obtain ⟨w,u,e,hu,hw⟩:=b0t hL hs
      have hw2:=d8q.1 b2c w hw
      simp only [d8p,decide_eq_true_eq] at hw2
      rw [e]
      refine ⟨_,u,rfl,hu,small ?_⟩
      rw [W3]; simp only [Z0,Z1,Y3]; omega
     ·obtain ⟨z,u,e,hu,z0,z1⟩:=Q4 hL hs (n:=2) (by omega) (by omega)
      rw [e]
      refine ⟨_,u,rfl,hu,small ?_⟩
      rw [W3]; simp only [a2T,Z0,Z1,Y3]; omega
     ·refine ⟨_,s,rfl,hs,small ?_⟩
      rw [W3]; simp only [a2T,Z0,Z1,Y3]; omega
     ·obtain ⟨g,u,e,hu,hl,hb⟩:=c3E hQ hn hg.kids (by omega) hs
      rw [V0,e]
      refine ⟨_,u,rfl,hu,small ?_⟩
      have h4:=hg.kids
      have:x.Kids.length*DB h<=4*DB h:=d8J _ h4
      rw [W3]; simp only [a2T,Z1,Y3]; omega
     ·exact other
     ·obtain ⟨g,u,e,hu,hl,hb⟩:=c3E hQ hn hg.kids (by omega) hs
      rw [V0,e]
      simp only [d8l]
      have h4:=hg.kids
      have h2:x.Kids.length=2:=by
       simp only [d8p] at kt
       have:=kt.2.2.2.2
       simp at this
       omega
      have hgl:1<g.length:=by omega
      have eg:=d8n hgl
      generalize g[1]=w at eg
      have ei:idx g 1=some w:=Z9 (i:=1) eg
      have e1:(1:Int).toNat=1:=rfl
      rw [ei,e1,eg]
      simp only [d8l]
      have:x.Kids.length*DB h<=4*DB h:=d8J _ h4
      cases hw:w.Kind != 7
      ·simp only [cond_false,d8l]
       refine ⟨_,u,rfl,hu,small ?_⟩
       rw [W3]; simp only [a2T,Z1,Y3]; omega
      ·simp only [cond_true]
       refine ⟨_,u,rfl,hu,small ?_⟩
       have hs:=c85 (Val.mk 5 0 (⟨#[]⟩:ByteArray) [] [] [] []) g 1
       rw [W3] at hs
       simp only [a2T,Z0,Z1,Y3] at hs
       rw [W3]; simp only [a2T,Z1,Y3]; omega
     ·obtain ⟨f,rfl⟩:∃ m,f=m+1:=⟨f-1,by omega⟩
      have hQ2:=c33 hL hT (show h<=4 by omega) hP f (by omega)
      obtain ⟨v,u,e,hu,hb⟩:=d26 hL hQ2 (by omega) (by omega) (by omega) hg hK hs f (j6 f).2.1 (j6 f).2.2.1 (j6 f).2.2.2
      have e':(j6 (f+1)).2.2.2 s t x ((h:Int)+1)=some (v,u):=e
      rw [e']
      exact ⟨v,u,rfl,hu,small (by omega)⟩
     ·obtain ⟨f,rfl⟩:∃ m,f=m+1:=⟨f-1,by omega⟩
      have hQ2:=c33 hL hT (show h<=4 by omega) hP f (by omega)
      obtain ⟨v,u,e,hu,hb⟩:=d2Y hL hQ2 (by omega) (by omega) (by omega) hg hK hs f (by omega) (j6 f).2.1 (j6 f).2.2.1 (j6 f).2.2.2
      have e':(j6 (f+1)).2.2.1 s t x ((h:Int)+1)=some (v,u):=e
      rw [e']
      exact ⟨v,u,rfl,hu,small (by omega)⟩
     ·exact other
     ·have h1:1<=x.Kids.length:=by
       simp only [d8p] at kt
       have:=kt.2.2.2.2
       simp at this
       omega
      obtain ⟨z,u,k',v,u',e1,e2,e3,hu',hb⟩:=kid s hs (by unfold isB; rw [hK]; rfl) h1
      rw [e1]
      simp only [d8l]
      rw [e2]
      simp only [d8l]
      rw [e3]
      exact ⟨v,u',rfl,hu',by omega⟩
     ·have h1:1<=x.Kids.length:=by
       simp only [d8p] at kt
       have:=kt.2.2.2.2
       simp at this
       omega
      obtain ⟨z,u,k',v,u',e1,e2,e3,hu',hb⟩:=kid s hs (by unfold isB; rw [hK]; rfl) h1
      rw [e1]
      simp only [d8l]
      rw [e2]
      simp only [d8l]
      rw [e3]
      simp only [d8l]
      have hD2:=d04 (show h+1<=4 by omega)
      obtain ⟨w,e4,hb4⟩:=c9I hT ex v (by omega)
      rw [V0,e4]
      have h4:=hg.kids
      exact ⟨w,u',rfl,hu',by omega⟩
     ·exact other
     ·obtain ⟨v,u,e,hu,_,hb⟩:=b7d hL hs
      rw [e]
      simp only [d8l]
      unfold a42
      rw [c6v [x.Text] (by simp)]
      refine ⟨_,u,rfl,hu,small ?_⟩
      have h5:=hg.text
      have h6:=b7W [x.Text] []
      simp only [K3,a3f] at h6
      have h7:=a6T v (List.foldl (b1k cS) [] [x.Text])
      unfold a7m at h7
      show Z4 (Val.mk v.Kind v.Int_ v.Text v.Kids v.Keys v.Entries (List.foldl (b1k cS) [] [x.Text]))<=_
      omega
    ·have e:∀ n:Int,1<=n->n<=19->¬ x.Kind=n:=fun n h1 h2=>by simpa using hK n h1 h2
     unfold V2 a2z at hn
     rw [if_neg (e 3 (by omega) (by omega)),if_neg (e 4 (by omega) (by omega)),if_neg (e 6 (by omega) (by omega)),if_neg (e 19 (by omega) (by omega)),if_neg (by have:=e 1 (by omega) (by omega); have:=e 2 (by omega) (by omega); have:=e 5 (by omega) (by omega); have:=e 7 (by omega) (by omega); have:=e 8 (by omega) (by omega); have:=e 9 (by omega) (by omega); have:=e 11 (by omega) (by omega); have:=e 15 (by omega) (by omega); omega),
      if_neg (e 10 (by omega) (by omega)),if_neg (e 12 (by omega) (by omega)),if_neg (e 14 (by omega) (by omega)),if_neg (by have:=e 16 (by omega) (by omega); have:=e 17 (by omega) (by omega); omega),if_neg (e 18 (by omega) (by omega)),if_neg (e 13 (by omega) (by omega))] at hn
     simp at hn
 intro k f s hk hf hs
 exact key t.Nodes.length k f s (by omega) hk hf hs
theorem c8e (hL:L.length<=4194304)(hT:GT t):∀ h:Nat,h<=4->c3t L t h
 | 0,_=>d7j hL hT
 | h+1,hh=>d2f hL hT (by omega) (c8e hL hT h (by omega))
theorem d5r (hL:L.length<=4194304)(hT:GT t)(f:Nat)(hf:10000000<=f)(h:Nat)(hh:h<=4):a8x L t t.Nodes.length 1638300 h (a2D f):=fun k s hk hs=>by
 obtain ⟨v,u,h1,h2,h3,h4⟩:=c33 hL hT hh (c8e hL hT h hh) f (by omega) k s hk hs
 exact ⟨v,u,h1,h2,h3,d8C h4 (d04 hh)⟩
end
end Go.Pl
end
section
open Bool renaming and_eq_true->d8p,not_true->d9m,true_and->d9B
open List renaming all_eq_true->d8q,any_eq_true->e0c,getElem?_eq_getElem->d8n,getElem?_eq_some_iff->d8o,getElem_of_mem->d9b,mem_of_getElem?->d8x
open Nat renaming le_refl->d8r
open Option renaming bind_some->d8l
namespace Go.Pl
open Go Go.RowKit Go.Sx Go.Qx
theorem c0O {α β:Type}{step:Int->Option (Fl Int (Sum Unit β))}(xs:List α)(p:α->Bool)(out:Nat->α->β)
 (hst:∀ (i:Nat) (x:α),xs[i]?=some x->step (i:Int)=some (if p x=true then .done (.inr (out i x)) else .next ((i+1:Nat):Int)))
 (hend:step (xs.length:Int)=some (.done (.inl ()))) :
 (∃ i x,xs[i]?=some x/\p x=true/\(∀ j,j<i->∀ y,xs[j]?=some y->p y=false)/\j7 step (xs.length+1) 0=some (.inr (out i x)))\/(xs.any p=false/\j7 step (xs.length+1) 0=some (.inl ())):=by
 have key:∀ (m a k:Nat),a+m=xs.length->m+1<=k->(∀ j,j<a->∀ y,xs[j]?=some y->p y=false) ->
  (∃ i x,xs[i]?=some x/\p x=true/\(∀ j,j<i->∀ y,xs[j]?=some y->p y=false)/\j7 step k (a:Int)=some (.inr (out i x)))\/(xs.any p=false/\j7 step k (a:Int)=some (.inl ())):=by
  intro m
  induction m with
  | zero =>
    intro a k h1 h2 h3
    obtain ⟨k,rfl⟩:∃ m,k=m+1:=⟨k-1,by omega⟩
    have e:a=xs.length:=by omega
    subst e
    refine .inr ⟨?_,by simp only [j7,hend,d8l]⟩
    rw [List.any_eq_false]
    intro x hx
    obtain ⟨j,hj,rfl⟩:=d9b hx
    have:=h3 j hj _ (d8n hj)
    simp [this]
  | succ m ih =>
    intro a k h1 h2 h3
    obtain ⟨k,rfl⟩:∃ m,k=m+1:=⟨k-1,by omega⟩
    have ha:a<xs.length:=by omega
    have ex:=d8n ha
    have hs:=hst a _ ex
    cases hp:p xs[a] with
    | true =>
      rw [if_pos hp] at hs
      exact .inl ⟨a,xs[a],ex,hp,h3,by simp only [j7,hs,d8l]⟩
    | false =>
      rw [if_neg (by simp [hp])] at hs
      simp only [j7,hs,d8l]
      refine ih (a+1) k (by omega) (by omega) fun j hj y hy=>?_
      by_cases hja:j=a
      ·subst hja
       rw [ex] at hy
       cases hy
       exact hp
      ·exact h3 j (by omega) y hy
 exact key xs.length 0 (xs.length+1) (by omega) (d8r _) (fun j hj=>by omega)
theorem c8Z {α:Type}{xs:List α}{p:α->Bool}{i:Nat}{x:α}(h:xs[i]?=some x)(hp:p x=true):xs.any p=true:=e0c.2 ⟨x,d8x h,hp⟩
theorem d8d:decide ((0:Int) <= -1)=false:=rfl
theorem d8b (i:Nat):decide ((0:Int)<=(i:Int))=true:=decide_eq_true (by omega)
theorem d4L (a b:Key):a2p a b=a1q a b:=rfl
def b1M (x:Api_TypeNode)(k:Key):Int:=if k.Kind=0 then x.Rest.1 else x.Rest.2
def atM (x:Api_TypeNode)(k:Key):Int:=match x.Fields.find? (fun f=>a1q f.Key_ k) with
 | some f=>f.Node
 | none=>b1M x k
theorem d0d {α:Type}{p:α->Bool}:∀ {l:List α} {i:Nat} {x:α},l[i]?=some x->p x=true->(∀ j,j<i->∀ y,l[j]?=some y->p y=false)->l.find? p=some x
 | [],_,_,h,_,_=>by simp at h
 | y::r,0,x,h,hp,_=>by
   simp at h
   subst h
   simp [hp]
 | y::r,i+1,x,h,hp,hn=>by
   have hy:=hn 0 (by omega) y rfl
   rw [List.find?_cons,hy]
   exact d0d (l:=r) (i:=i) (by simpa using h) hp fun j hj z hz=>hn (j+1) (by omega) z (by simpa using hz)
theorem d40 {α:Type}{p:α->Bool}{l:List α}(h:l.any p=false):l.find? p=none:=by
 rw [List.find?_eq_none]
 rw [List.any_eq_false] at h
 exact h
theorem d6p {k:Key}(h:X7 k=true):k.Kind=0\/k.Kind=1:=by
 unfold X7 at h
 split at h
 ·left; assumption
 ·split at h
  ·right; assumption
  ·cases h
theorem d47 (v:Val)(k:Key)(hl:v.Keys.length<=4194304):∃ r,a6I v k=some r/\decide (r<0)=!(v.Keys.any fun y=>a1q y k):=by
 unfold a6I
 rw [V0]
 rcases c0O (step:=a4T v k) v.Keys (fun y=>a1q y k) (fun i _=>(i:Int)) (fun i x hx=>by
  have hi:i<v.Keys.length:=(d8o.1 hx).1
  unfold a4T
  rw [J8 hi,Z9 hx]
  simp only [cond_true,d8l,d4L,Q9]
  rw [Y1 i (by omega)]
  cases a1q x k<;>rfl) (by
  unfold a4T
  simp) with ⟨i,x,hx,hp,_,e⟩ | ⟨h,e⟩
 ·rw [e,c8Z hx hp]
  exact ⟨(i:Int),rfl,decide_eq_false (by omega)⟩
 ·rw [e,h]
  exact ⟨-1,rfl,rfl⟩
theorem d2i (x:Api_TypeNode)(k:Key)(hl:x.Fields.length<=4194304):(∃ (i:Nat) (f:Api_Field),a2n x k=some (i:Int)/\x.Fields[i]?=some f/\atM x k=f.Node)\/(a2n x k=some (-1)/\atM x k=b1M x k):=by
 unfold a2n atM
 rw [V0]
 rcases c0O (step:=a3I x k) x.Fields (fun f=>a1q f.Key_ k) (fun i _=>(i:Int)) (fun i f hx=>by
  have hi:i<x.Fields.length:=(d8o.1 hx).1
  unfold a3I
  rw [J8 hi,Z9 hx]
  simp only [cond_true,d8l,d4L,Q9]
  rw [Y1 i (by omega)]
  cases a1q f.Key_ k<;>rfl) (by
  unfold a3I
  simp) with ⟨i,f,hx,hp,hn,e⟩ | ⟨h,e⟩
 ·left
  rw [e,d0d hx hp hn]
  exact ⟨i,f,rfl,hx,rfl⟩
 ·right
  rw [e,d40 h]
  exact ⟨rfl,rfl⟩
end Go.Pl
namespace Go.Pl
open Go Go.RowKit Go.Sx Go.Qx
section
variable (μ:Val->Int->Bool)
def b1n (l:List Val)(ks:List Int):Bool:=((l.length:Int)==(ks.length:Int))&&(l.zip ks).all fun p=>μ p.1 p.2
def c0W (v:Val)(x:Api_TypeNode):Bool:=(x.Fields.all fun f=>f.Optional||v.Keys.any fun y=>a1q y f.Key_)&&(v.Keys.zip v.Kids).all fun p=>μ p.2 (atM x p.1)
def b0u (ks:List Int):Int:=ks.getD (ks.length-1) 0
def b9C (e:Ent)(ks:List Int):Bool:=!b1n μ e.Args (ks.take (ks.length-1))||(!e.Fails&&μ e.Result (b0u ks))
def c44 (v:Val)(x:Api_TypeNode):Bool:=(v.Int_==((x.Kids.length-1:Nat):Int))&&v.Entries.all fun e=>b9C μ e x.Kids
def unM (v:Val)(x:Api_TypeNode):Bool :=
 if x.Kind=2 then true else if x.Kind=3 then v.Kind==1&&(decide (x.Lo<=v.Int_)&&decide (v.Int_<=x.Hi)) else if x.Kind=4 then v.Kind==2&&J4 v.Text x.Text else
 if x.Kind=5 then v.Kind==2 else if x.Kind=6 then v.Kind==3&&J4 v.Text x.Text else if x.Kind=7 then v.Kind==3 else if x.Kind=8 then v.Kind==4 else if x.Kind=9 then v.Kind==5 else
 if x.Kind=11 then v.Kind==6 else if x.Kind=15 then v.Kind==9 else if x.Kind=10 then v.Kind==6&&b1n μ v.Kids x.Kids else if x.Kind=12 then v.Kind==7&&b1n μ v.Kids x.Kids else
 if x.Kind=13 then v.Kind==8&&c0W μ v x else if x.Kind=14 then v.Kind==9&&c44 μ v x else if x.Kind=16 then x.Kids.any (μ v) else if x.Kind=17 then x.Kids.all (μ v) else
 if x.Kind=18 then !μ v (x.Kids.getD 0 0) else if x.Kind=19 then v.Labels.any fun y=>J4 y x.Text else false
end
def FU (b:Nat):Nat:=4*(b*21+20)+4
def K1 (t:Api_Type)(v:Val)(k:Int):Bool:=(Z5 (FU (Z4 v)) v t k).getD false
def MS (v:Val)(k:Nat):Nat:=Z4 v*21+(20-k)
theorem d1N {α β:Type}{l:List α}{m:List β}{i:Nat}{p:α×β}(h:(l.zip m)[i]?=some p):l[i]?=some p.1/\m[i]?=some p.2:=by
 obtain ⟨a,b⟩:=p
 rw [List.getElem?_zip_eq_some] at h
 exact h
theorem c7z {l:List Val}(h:a1p l=true){x:Val}(hx:x∈l):vOK x=true:=by
 rw [a54] at h
 exact d8q.1 h x hx
section
variable {t:Api_Type}{f0 b:Nat}
def RH (t:Api_Type)(f0 b:Nat):Prop:=∀ (v:Val) (k:Nat) (f:Nat),Z4 v<b->vOK v=true->k<t.Nodes.length->f0<=f->True/\Z5 f v t (k:Int)=some (K1 t v (k:Int))
theorem c9Z (hR:RH t f0 b){l:List Val}{ks:List Int}(hl:∀ x∈l,Z4 x<b)(ho:a1p l=true)(hk:∀ k∈ks,inR t.Nodes.length k=true)(hlen:l.length<=4194304)(f:Nat)(hf:f0+1<=f) :
 True/\a0s f l t ks=some (b1n (K1 t) l ks):=by
 obtain ⟨f,rfl⟩:∃ m,f=m+1:=⟨f-1,by omega⟩
 by_cases he:l.length=ks.length
 ·have e1:((l.length:Int) != (ks.length:Int))=false:=by simp [he]
  have e2:((l.length:Int)==(ks.length:Int))=true:=by simp [he]
  have hz:(l.zip ks).length=l.length:=by rw [List.length_zip]; omega
  have one:∀ (i:Nat) (p:Val×Int),(l.zip ks)[i]?=some p->i<l.length/\idx l (i:Int)=some p.1/\idx ks (i:Int)=some p.2/\True/\Z5 f p.1 t p.2=some (K1 t p.1 p.2):=fun i p hp=>by
   obtain ⟨h1,h2⟩:=d1N hp
   obtain ⟨j,hj,hj2⟩:=a1a (hk _ (d8x h2))
   have hm:=d8x h1
   have:=hR p.1 j f (hl _ hm) (c7z ho hm) hj2 (by omega)
   rw [<- hj] at this
   exact ⟨(d8o.1 h1).1,Z9 h1,Z9 h2,this⟩
  have l2:=a1d (step:=a1H l t ks (Z5 f)) (l.zip ks) (fun p=>K1 t p.1 p.2) (fun i=>(i:Int)) () false (fun i p hp=>by
   obtain ⟨h0,h1,h2,_,h3⟩:=one i p hp
   unfold a1H
   rw [J8 h0,h1]
   simp only [cond_true,d8l,Q9]
   rw [h2]
   simp only [d8l]
   rw [h3,Y1 i (by omega)]
   exact a9O _ _) (by
   unfold a1H
   simp [hz])
  rw [hz] at l2
  unfold b1n
  constructor
  ·trivial
  ·show a1X f (a0N f) (a0X f) (Z5 f) (a0s f) l t ks=_
   unfold a1X
   have l2':j7 (a1H l t ks (Z5 f)) (l.length+1) 0=_:=l2
   rw [e1,V0,l2',e2]
   cases (l.zip ks).all fun p=>K1 t p.1 p.2<;>rfl
 ·have e1:((l.length:Int) != (ks.length:Int))=true:=by simp; omega
  have e2:((l.length:Int)==(ks.length:Int))=false:=by simp; omega
  unfold b1n
  rw [e2]
  constructor
  ·trivial
  ·show a1X f (a0N f) (a0X f) (Z5 f) (a0s f) l t ks=_
   unfold a1X
   rw [e1]; rfl
theorem c9W {ks:List Int}(h:1<=ks.length):ks[ks.length-1]?=some (b0u ks):=by
 unfold b0u
 rw [List.getD_eq_getElem?_getD,d8n (show ks.length-1<ks.length by omega)]
 rfl
theorem d3C {ks:List Int}(h:1<=ks.length)(h2:ks.length<=4194304):cut ks 0 (w64 ((ks.length:Int)-1))=some (ks.take (ks.length-1)):=by
 rw [show w64 ((ks.length:Int)-1)=((ks.length-1:Nat):Int) by rw [W2 (by omega) (by omega)]; omega]
 unfold cut
 rw [if_pos (by omega)]
 simp
theorem d3a {N:Nat}{ks:List Int}(hk:∀ k∈ks,inR N k=true)(h1:1<=ks.length):inR N (b0u ks)=true:=hk _ (d8x (c9W h1))
theorem d5F (hR:RH t f0 b){v:Val}(hv:Z4 v<=b)(ho:a5D v.Entries=true)(hb:b<=4194304){x:Api_TypeNode}(hk:∀ k∈x.Kids,inR t.Nodes.length k=true)(h1:1<=x.Kids.length)(h4:x.Kids.length<=4194304)(f:Nat)(hf:f0+3<=f) :
 True/\a0N f v t x=some (c44 (K1 t) v x):=by
 obtain ⟨f,rfl⟩:∃ m,f=m+1:=⟨f-1,by omega⟩
 have hbe:=a2J v
 have hle:=a5G v.Entries
 have hw:w64 ((x.Kids.length:Int)-1)=((x.Kids.length-1:Nat):Int):=by rw [W2 (by omega) (by omega)]; omega
 have ent:∀ e∈v.Entries,(∀ y∈e.Args,Z4 y<b)/\Z4 e.Result<b/\eOK e=true/\e.Args.length<=4194304:=fun e he=>by
  have hm:=a1N he
  have h2:=a2L e
  have h3:=a7v e.Args
  refine ⟨fun y hy=>by have:=a1P hy; omega,by omega,?_,by omega⟩
  rw [a6O] at ho
  exact d8q.1 ho e he
 have l2:j7 (a2y v t x (a0s f) (Z5 f)) (v.Entries.length+1) 0=some (if (v.Entries.all fun e=>b9C (K1 t) e x.Kids)=true then .inl () else .inr false):=by
  refine a1d v.Entries (fun e=>b9C (K1 t) e x.Kids) (fun i=>(i:Int)) () false ?_ ?_
  ·intro i e he
   have hi:i<v.Entries.length:=(d8o.1 he).1
   obtain ⟨a1,a2,a3,a4⟩:=ent e (d8x he)
   have a3':=a3
   rw [b91] at a3'
   simp only [d8p] at a3'
   have hall:=(c9Z hR (ks:=x.Kids.take (x.Kids.length-1)) a1 a3'.1 (fun k hkk=>hk k (List.mem_of_mem_take hkk)) a4 f (by omega)).2
   unfold a2y
   rw [J8 hi,Z9 he]
   simp only [cond_true,d8l,Q9]
   rw [d3C h1 h4]
   simp only [d8l]
   rw [hall,Y1 i (by omega)]
   simp only [d8l,a56]
   unfold b9C
   cases b1n (K1 t) e.Args (x.Kids.take (x.Kids.length-1))
   ·rfl
   cases hF:e.Fails
   ·have hl:=c9W h1
    obtain ⟨j,hj,hj2⟩:=a1a (hk _ (d8x hl))
    have hv2:vOK e.Result=true:=by have:=a3'.2; rw [hF] at this; simpa using this
    have:=(hR e.Result j f a2 hv2 hj2 (by omega)).2
    rw [<- hj] at this
    simp only [d9m,Bool.not_false,cond_false,cond_true,Bool.false_or,d9B]
    rw [hw,Z9 hl]
    simp only [d8l]
    rw [this]
    simp only [d8l]
    cases K1 t e.Result (b0u x.Kids)<;>rfl
   ·rfl
  ·unfold a2y
   simp
 unfold c44
 have e0:(v.Int_ != ((x.Kids.length-1:Nat):Int))=!(v.Int_==((x.Kids.length-1:Nat):Int)):=rfl
 constructor
 ·trivial
 ·show a4X f (a0N f) (a0X f) (Z5 f) (a0s f) v t x=_
  unfold a4X
  simp only [Q9]
  rw [hw,V0,l2,e0]
  cases (v.Int_==((x.Kids.length-1:Nat):Int))
  ·rfl
  cases v.Entries.all fun e=>b9C (K1 t) e x.Kids<;>rfl
theorem d4y {x:Api_TypeNode}{N:Nat}(hf:∀ f∈x.Fields,inR N f.Node=true)(h0:inR N x.Rest.1=true)(h1:inR N x.Rest.2=true)(k:Key):inR N (atM x k)=true:=by
 unfold atM
 cases h:x.Fields.find? fun f=>a1q f.Key_ k with
 | some f=>exact hf f (List.mem_of_find?_eq_some h)
 | none =>
   simp only
   unfold b1M
   split<;>assumption
theorem d48 (hR:RH t f0 b){v:Val}(hv:Z4 v<=b)(ho:a1p v.Kids=true)(hm:b4J v=true)(hb:b<=4194304){x:Api_TypeNode}(hf:∀ f∈x.Fields,inR t.Nodes.length f.Node=true)(h0:inR t.Nodes.length x.Rest.1=true)(h1:inR t.Nodes.length x.Rest.2=true)(h3:x.Fields.length<=4194304)(f:Nat)(hff:f0+1<=f) :
 True/\a0X f v t x=some (c0W (K1 t) v x):=by
 obtain ⟨f,rfl⟩:∃ m,f=m+1:=⟨f-1,by omega⟩
 have hbe:=a2J v
 have hkl:=a9u v.Keys
 unfold b4J at hm
 simp only [d8p] at hm
 have hlen:v.Keys.length=v.Kids.length:=by simpa using hm.1
 have hz:(v.Keys.zip v.Kids).length=v.Keys.length:=by rw [List.length_zip]; omega
 have a2:j7 (a2U v x) (x.Fields.length+1) 0=some (if (x.Fields.all fun f=>f.Optional||v.Keys.any fun y=>a1q y f.Key_)=true then .inl () else .inr false):=by
  refine a1d x.Fields (fun f=>f.Optional||v.Keys.any fun y=>a1q y f.Key_) (fun i=>(i:Int)) () false ?_ ?_
  ·intro i g hx
   have hi:i<x.Fields.length:=(d8o.1 hx).1
   obtain ⟨r,e1,e2⟩:=d47 v g.Key_ (by omega)
   unfold a2U
   rw [J8 hi,Z9 hx]
   simp only [cond_true,d8l,Q9]
   rw [e1,Y1 i (by omega)]
   simp only [d8l]
   rw [e2]
   cases g.Optional<;>cases (v.Keys.any fun y=>a1q y g.Key_)<;>rfl
  ·unfold a2U
   simp
 have one:∀ (i:Nat) (p:Key×Val),(v.Keys.zip v.Kids)[i]?=some p->i<v.Keys.length/\idx v.Keys (i:Int)=some p.1/\idx v.Kids (i:Int)=some p.2/\X7 p.1=true/\True/\Z5 f p.2 t (atM x p.1)=some (K1 t p.2 (atM x p.1)):=fun i p hp=>by
  obtain ⟨q1,q2⟩:=d1N hp
  have m1:=d8x q1
  have m2:=d8x q2
  obtain ⟨j,hj,hj2⟩:=a1a (d4y hf h0 h1 p.1)
  have hbm:=a1P m2
  have:=hR p.2 j f (by omega) (c7z ho m2) hj2 (by omega)
  rw [<- hj] at this
  exact ⟨(d8o.1 q1).1,Z9 q1,Z9 q2,d8q.1 hm.2.2 _ m1,this⟩
 have b2:=a1d (step:=a1I v t x (Z5 f)) (v.Keys.zip v.Kids) (fun p=>K1 t p.2 (atM x p.1)) (fun i=>(i:Int)) () false (fun i p hp=>by
  obtain ⟨h0,h1,h2,h3',_,h4⟩:=one i p hp
  unfold a1I
  rw [J8 h0,h1]
  simp only [cond_true,d8l,Q9]
  have hrest:(bif p.1.Kind==0 then some x.Rest.1 else (bif p.1.Kind==1 then some x.Rest.2 else none))=some (b1M x p.1):=by
   unfold b1M
   rcases d6p h3' with h | h
   ·simp [h]
   ·simp [h]
  rw [hrest]
  have hto:∀ {β:Type} (g:Int->Option β),((a2n x p.1).bind fun r11=>(some (b1M x p.1)).bind fun b13=>(bif decide (0<=r11) then ((idx x.Fields r11).bind fun e14=>some e14.Node) else (some b13)).bind g)=g (atM x p.1):=by
   intro β g
   rcases d2i x p.1 h3 with ⟨i',fl,e1,e2,e3⟩ | ⟨e1,e3⟩
   ·rw [e1]
    simp only [d8l,d8b,cond_true]
    rw [Z9 e2]
    simp only [d8l,e3]
   ·rw [e1]
    simp only [d8l,d8d,cond_false,e3]
  rw [hto,h2]
  simp only [d8l]
  rw [h4,Y1 i (by omega)]
  exact a9O _ _) (by
  unfold a1I
  simp [hz])
 rw [hz] at b2
 unfold c0W
 constructor
 ·trivial
 ·show a5k f (a0N f) (a0X f) (Z5 f) (a0s f) v t x=_
  unfold a5k
  have b2':j7 (a1I v t x (Z5 f)) (v.Keys.length+1) 0=_:=b2
  rw [V0,a2,V0,b2']
  cases (x.Fields.all fun f=>f.Optional||v.Keys.any fun y=>a1q y f.Key_)
  ·rfl
  cases (v.Keys.zip v.Kids).all fun p=>K1 t p.2 (atM x p.1)<;>rfl
end
end Go.Pl
namespace Go.Pl
open Go Go.RowKit Go.Sx Go.Qx
structure GM (t:Api_Type):Prop where
 len:t.Nodes.length<=20
 nodes:GNs t.Nodes.length t.Nodes
theorem GT.gm {t:Api_Type}(h:GT t):GM t:=⟨by have:=h.len; omega,h.nodes⟩
instance (t:Api_Type):Coe (GT t) (GM t):=⟨GT.gm⟩
section
variable {t:Api_Type}
theorem GM.ord (hT:GM t){k:Nat}{x:Api_TypeNode}(hx:t.Nodes[k]?=some x)(hb:isB x=true){j:Int}(hj:j∈x.Kids):∃ j':Nat,j=(j':Int)/\k<j'/\j'<t.Nodes.length:=by
 have hg:=hT.nodes k x hx
 obtain ⟨j',e,h1⟩:=a1a (a2j hg.ok j hj)
 have:=hg.ord hb j hj
 exact ⟨j',e,by omega,h1⟩
theorem c0t {N:Nat}{x:Api_TypeNode}(h:V2 N x=true):a2z N x=true:=by
 unfold V2 at h
 simp only [d8p] at h
 exact h.2.2.2.2
theorem d5C {N:Nat}{x:Api_TypeNode}(h:V2 N x=true):x.Kind=1\/x.Kind=2\/x.Kind=3\/x.Kind=4\/x.Kind=5\/x.Kind=6\/x.Kind=7\/x.Kind=8\/x.Kind=9\/x.Kind=10\/x.Kind=11\/x.Kind=12\/x.Kind=13\/x.Kind=14\/x.Kind=15\/x.Kind=16\/x.Kind=17\/x.Kind=18\/x.Kind=19:=by
 rcases a9h x.Kind with hk | hk
 ·exact hk
 ·have e:∀ n:Int,1<=n->n<=19->¬ x.Kind=n:=fun n h1 h2=>by simpa using hk n h1 h2
  have hn:=c0t h
  unfold a2z at hn
  rw [if_neg (e 3 (by omega) (by omega)),if_neg (e 4 (by omega) (by omega)),if_neg (e 6 (by omega) (by omega)),if_neg (e 19 (by omega) (by omega)),if_neg (by have:=e 1 (by omega) (by omega); have:=e 2 (by omega) (by omega); have:=e 5 (by omega) (by omega); have:=e 7 (by omega) (by omega); have:=e 8 (by omega) (by omega); have:=e 9 (by omega) (by omega); have:=e 11 (by omega) (by omega); have:=e 15 (by omega) (by omega); omega),
   if_neg (e 10 (by omega) (by omega)),if_neg (e 12 (by omega) (by omega)),if_neg (e 14 (by omega) (by omega)),if_neg (by have:=e 16 (by omega) (by omega); have:=e 17 (by omega) (by omega); omega),if_neg (e 18 (by omega) (by omega)),if_neg (e 13 (by omega) (by omega))] at hn
  cases hn
theorem c9x {N:Nat}{x:Api_TypeNode}(h:V2 N x=true)(hk:x.Kind=14):1<=x.Kids.length/\x.Kids.length<=5:=by
 have hn:=c0t h
 unfold a2z at hn
 simp [hk] at hn
 omega
theorem c83 {N:Nat}{x:Api_TypeNode}(h:V2 N x=true)(hk:x.Kind=18):x.Kids.length=1:=by
 have hn:=c0t h
 unfold a2z at hn
 simp [hk] at hn
 omega
theorem b7T {N:Nat}{x:Api_TypeNode}(h:V2 N x=true)(hk:x.Kind=13):(∀ f∈x.Fields,inR N f.Node=true)/\inR N x.Rest.1=true/\inR N x.Rest.2=true:=by
 have hn:=c0t h
 unfold a2z a5w at hn
 simp [hk] at hn
 exact ⟨hn.1.2.2,hn.2.2.1,hn.2.2.2⟩
theorem d1J {v:Val}(h:vOK v=true)(hk:v.Kind=8):b4J v=true:=by
 rw [c8H] at h
 simp only [d8p] at h
 have:=h.1
 unfold a3n a6j at this
 simp only [d8p] at this
 have h2:=this.2.2
 simp [hk] at h2
 exact h2
theorem c2i {v:Val}(h:vOK v=true):a1p v.Kids=true/\a5D v.Entries=true:=by
 rw [c8H] at h
 simp only [d8p] at h
 exact h.2
theorem d5b (hT:GM t){v:Val}{k:Nat}{x:Api_TypeNode}(hx:t.Nodes[k]?=some x)(ho:vOK v=true)(hb:Z4 v<=4194304){f0:Nat}(hR:RH t f0 (Z4 v))
 (hB:isB x=true->∀ j∈x.Kids,∀ f,f0<=f->True/\Z5 f v t j=some (K1 t v j)) (f:Nat) (hf:f0+4<=f) :
 True/\Z5 f v t (k:Int)=some (unM (K1 t) v x):=by
 obtain ⟨f,rfl⟩:∃ m,f=m+1:=⟨f-1,by omega⟩
 have hg:=hT.nodes k x hx
 have hn:=hg.ok
 have hk4:=hg.kids
 have hf3:=hg.flds
 have hkr:=a2j hn
 obtain ⟨ho1,ho2⟩:=c2i ho
 have hbe:=a2J v
 have hkl:=a7v v.Kids
 have hll:=a6V v.Labels
 have hall:=c9Z hR (l:=v.Kids) (ks:=x.Kids) (fun y hy=>by have:=a1P hy; omega) ho1 hkr (by omega) f (by omega)
 have hlab2:((j7 (a12 v x) (v.Labels.length+1) 0).bind fun b30=>w9 (fun _=>some false) (fun y32=>some y32) b30)=some (v.Labels.any fun y=>J4 y x.Text):=by
  rcases c0O (step:=a12 v x) v.Labels (fun y=>J4 y x.Text) (fun _ _=>true) (fun i y hy=>by
   have hi:i<v.Labels.length:=(d8o.1 hy).1
   unfold a12
   rw [J8 hi,Z9 hy]
   simp only [cond_true,d8l,Q9]
   rw [Y1 i (by omega)]
   cases J4 y x.Text<;>rfl) (by
   unfold a12
   simp) with ⟨i,y,hy,hp,_,e⟩ | ⟨h,e⟩
  ·rw [e,c8Z hy hp]; rfl
  ·rw [e,h]; rfl
 have hbool:isB x=true->True/\True /\
  ((j7 (a1Y v t x (Z5 f)) (x.Kids.length+1) 0).bind fun b17=>w9 (fun _=>some false) (fun y19=>some y19) b17)=some (x.Kids.any (K1 t v)) /\
  ((j7 (a07 v t x (Z5 f)) (x.Kids.length+1) 0).bind fun b23=>w9 (fun _=>some true) (fun y25=>some y25) b23)=some (x.Kids.all (K1 t v)):=fun hb=>by
  have hB:=hB hb
  obtain ⟨f,rfl⟩:∃ m,f=m+1:=⟨f-1,by omega⟩
  refine ⟨trivial,trivial,?_,?_⟩
  ·rcases c0O (step:=a1Y v t x (Z5 (f+1))) x.Kids (K1 t v) (fun _ _=>true) (fun i y hy=>by
    have hi:i<x.Kids.length:=(d8o.1 hy).1
    unfold a1Y
    rw [J8 hi,Z9 hy]
    simp only [cond_true,d8l,Q9]
    rw [(hB y (d8x hy) (f+1) (by omega)).2,Y1 i (by omega)]
    simp only [d8l]
    cases K1 t v y<;>rfl) (by
    unfold a1Y
    simp) with ⟨i,y,hy,hp,_,e⟩ | ⟨h,e⟩
   ·rw [e,c8Z hy hp]; rfl
   ·rw [e,h]; rfl
  ·have l2:=a1d (step:=a07 v t x (Z5 (f+1))) x.Kids (K1 t v) (fun i=>(i:Int)) () false (fun i y hy=>by
    have hi:i<x.Kids.length:=(d8o.1 hy).1
    unfold a07
    rw [J8 hi,Z9 hy]
    simp only [cond_true,d8l,Q9]
    rw [(hB y (d8x hy) (f+1) (by omega)).2,Y1 i (by omega)]
    exact a9O _ _) (by
    unfold a07
    simp)
   have l2':j7 (a07 v t x (Z5 (f+1))) (x.Kids.length+1) 0=_:=l2
   rw [l2']
   cases x.Kids.all (K1 t v)<;>rfl
 have hidx:=Z9 hx
 constructor
 ·trivial
 ·show a5H f (a0N f) (a0X f) (Z5 f) (a0s f) v t (k:Int)=_
  unfold a5H
  rw [hidx]
  simp only [d8l,V0]
  rcases d5C hn with hK | hK | hK | hK | hK | hK | hK | hK | hK | hK | hK | hK | hK | hK | hK | hK | hK | hK | hK<;>unfold unM<;>simp only [hK,Int.reduceBEq,Int.reduceEq,if_true,if_false,cond_true,cond_false,d8l]
  ·cases v.Kind==1<;>cases decide (x.Lo<=v.Int_)<;>rfl
  ·cases v.Kind==2<;>rfl
  ·cases v.Kind==3<;>rfl
  ·rw [hall.2]
   cases v.Kind==6<;>rfl
  ·rw [hall.2]
   cases v.Kind==7<;>rfl
  ·cases hv:v.Kind==8
   ·rfl
   ·obtain ⟨q1,q2,q3⟩:=b7T hn hK
    rw [(d48 hR (d8r _) ho1 (d1J ho (by simpa using hv)) hb q1 q2 q3 (by omega) f (by omega)).2]
    rfl
  ·obtain ⟨q1,q2⟩:=c9x hn hK
   rw [(d5F hR (d8r _) ho2 hb hkr q1 (by omega) f (by omega)).2]
   cases v.Kind==9<;>rfl
  ·exact (hbool (by unfold isB; rw [hK]; rfl)).2.2.1
  ·exact (hbool (by unfold isB; rw [hK]; rfl)).2.2.2
  ·have h1:=c83 hn hK
   have ek:=d8n (show 0<x.Kids.length by omega)
   have e0:idx x.Kids 0=some x.Kids[0]:=Z9 ek
   rw [e0]
   simp only [d8l]
   rw [(hB (by unfold isB; rw [hK]; rfl) _ (d8x ek) f (by omega)).2,List.getD_eq_getElem?_getD,ek]
   rfl
  ·exact hlab2
theorem c8R (hT:GM t):∀ (m:Nat) (v:Val) (k:Nat) (x:Api_TypeNode),MS v k<=m->vOK v=true->Z4 v<=4194304->t.Nodes[k]?=some x ->
 (∀ f,4*MS v k+4<=f->True/\Z5 f v t (k:Int)=some (K1 t v (k:Int)))/\K1 t v (k:Int)=unM (K1 t) v x:=by
 intro m
 induction m with
 | zero=>intro v k x h; have:=b0Q v; unfold MS at h; omega
 | succ m ih =>
   intro v k x hm ho hb hx
   have hkN:k<t.Nodes.length:=(d8o.1 hx).1
   have hN:=hT.len
   have hR:RH t (4*MS v k) (Z4 v):=fun w j f hw hwo hj hf=>by
    have ej:=d8n hj
    have hlt:MS w j+1<=MS v k:=by unfold MS; omega
    exact (ih w j _ (by omega) hwo (by omega) ej).1 f (by omega)
   have hst:=d5b hT hx ho hb hR (fun hbx j hj f hf=>by
    obtain ⟨j',rfl,h1,h2⟩:=hT.ord hx hbx hj
    have ej:=d8n h2
    have hlt:MS v j'+1<=MS v k:=by unfold MS; omega
    exact (ih v j' _ (by omega) ho hb ej).1 f (by omega))
   have hmem:K1 t v (k:Int)=unM (K1 t) v x:=by
    have hFU:4*MS v k+4<=FU (Z4 v):=by unfold FU MS; omega
    have:=(hst (FU (Z4 v)) hFU).2
    unfold K1 at *
    rw [this]
    rfl
   refine ⟨fun f hf=>?_,hmem⟩
   rw [hmem]
   exact hst f hf
theorem d1O (hT:GM t){v:Val}{k:Nat}(ho:vOK v=true)(hb:Z4 v<=4194304)(hk:k<t.Nodes.length)(f:Nat)(hf:FU (Z4 v)<=f):Z5 f v t (k:Int)=some (K1 t v (k:Int)) :=
 ((c8R hT (MS v k) v k _ (d8r _) ho hb (d8n hk)).1 f (by unfold FU at hf; unfold MS; omega)).2
theorem b6p (hT:GM t){v:Val}{k:Nat}{x:Api_TypeNode}(hx:t.Nodes[k]?=some x)(ho:vOK v=true)(hb:Z4 v<=4194304):K1 t v (k:Int)=unM (K1 t) v x :=
 (c8R hT (MS v k) v k x (d8r _) ho hb hx).2
end
end Go.Pl
namespace Go.Pl
open Go Go.RowKit Go.Sx Go.Qx
section
variable {t:Api_Type}
theorem GM.all (hT:GM t):a6z t.Nodes=true:=d8q.2 fun x hx=>by
 obtain ⟨i,hi,rfl⟩:=d9b hx
 exact (hT.nodes i _ (d8n hi)).ok
theorem GM.ordT (hT:GM t):c5J t.Nodes:=fun i x hx hb k hk=>(hT.nodes i x hx).ord hb k hk
theorem GM.small (hT:GM t):∀ x∈t.Nodes,x.Kids.length<=1100000/\x.Fields.length<=1100000:=fun x hx=>by
 obtain ⟨i,hi,rfl⟩:=d9b hx
 have hg:=hT.nodes i _ (d8n hi)
 have h1:=hg.kids
 have h2:=hg.flds
 omega
theorem wf0 (hT:GM t)(hr:inR t.Nodes.length t.Root=true)(f:Nat)(hf:1100001<=f):K4 f t=some 0:=by
 have hN:=hT.len
 rw [d7R t hT.ordT hT.small (by omega) f (by omega),hT.all,hr]
 rfl
theorem d7m (hT:GM t)(hr:inR t.Nodes.length t.Root=true)(f:Nat)(hf:1100001<=f):a0o f t=some 0:=by
 have hN:=hT.len
 rw [d6m t hT.ordT hT.small (by omega) f hf,hT.all,hr]
 rfl
theorem GT.ord (hT:GT t){k:Nat}{x:Api_TypeNode}(hx:t.Nodes[k]?=some x)(hb:isB x=true){j:Int}(hj:j∈x.Kids):∃ j':Nat,j=(j':Int)/\k<j'/\j'<t.Nodes.length:=hT.gm.ord hx hb hj
theorem GT.all (hT:GT t):a6z t.Nodes=true:=hT.gm.all
theorem GT.ordT (hT:GT t):c5J t.Nodes:=hT.gm.ordT
theorem GT.small (hT:GT t):∀ x∈t.Nodes,x.Kids.length<=1100000/\x.Fields.length<=1100000:=hT.gm.small
end
end Go.Pl
end
section
open Bool renaming and_eq_true->d8p,eq_iff_iff->d9g
open List renaming all_eq_true->d8q,any_eq_true->e0c,getD->d9r,getElem?_eq_getElem->d8n,getElem?_map->d9i,length_map->d8L,of_mem_zip->e0h
namespace Go.Pl
open Go Go.RowKit Go.Sx Go.Qx
def shF (d:Int)(f:Api_Field):Api_Field:=Api_Field.mk f.Key_ (f.Node+d) f.Optional
def shN (d:Int)(x:Api_TypeNode):Api_TypeNode:=Api_TypeNode.mk x.Kind x.Lo x.Hi x.Text (x.Kids.map fun k=>k+d) (x.Fields.map (shF d)) (bif x.Kind==13 then (x.Rest.1+d,x.Rest.2+d) else x.Rest)
section
variable {μ ν:Val->Int->Bool}{d:Int}{N:Nat}
theorem c4p {l:List Val}{ks:List Int}(h:∀ w∈l,∀ j∈ks,μ w (j+d)=ν w j):b1n μ l (ks.map fun k=>k+d)=b1n ν l ks:=by
 unfold b1n
 rw [d8L]
 congr 1
 rw [List.zip_map_right,List.all_map]
 rw [d9g,d8q,d8q]
 have e:∀ p∈l.zip ks,μ p.1 (p.2+d)=ν p.1 p.2:=fun p hp=>h p.1 (e0h hp).1 p.2 (e0h hp).2
 exact ⟨fun k p hp=>(e p hp).symm.trans (k p hp),fun k p hp=>(e p hp).trans (k p hp)⟩
theorem d17 {x:Api_TypeNode}(hk:x.Kind=13)(k:Key):atM (shN d x) k=atM x k+d:=by
 have e13:(x.Kind==13)=true:=by rw [hk]; rfl
 have hr:b1M (shN d x) k=b1M x k+d:=by
  unfold b1M shN
  simp only [e13,cond_true]
  split<;>rfl
 unfold atM
 have hf:(shN d x).Fields.find? (fun f=>a1q f.Key_ k)=(x.Fields.find? (fun f=>a1q f.Key_ k)).map (shF d):=by
  show (x.Fields.map (shF d)).find? (fun f=>a1q f.Key_ k)=_
  rw [List.find?_map]
  rfl
 rw [hf]
 cases x.Fields.find? (fun f=>a1q f.Key_ k) with
 | none=>exact hr
 | some f=>rfl
theorem c9J {ks:List Int}(h:1<=ks.length):b0u (ks.map fun k=>k+d)=b0u ks+d:=by
 unfold b0u
 rw [d8L,d9r,d9i,d8n (show ks.length-1<ks.length by omega)]
 rw [d9r,d8n (show ks.length-1<ks.length by omega)]
 rfl
theorem d2s {v:Val}{x:Api_TypeNode}(hx:V2 N x=true)(ho:vOK v=true)(hsub:∀ w,Z4 w<Z4 v->vOK w=true->∀ j,inR N j=true->μ w (j+d)=ν w j)(hbo:isB x=true->∀ j∈x.Kids,μ v (j+d)=ν v j) :
 unM μ v (shN d x)=unM ν v x:=by
 have hin:=a2j hx
 have hkids:∀ w∈v.Kids,Z4 w<Z4 v/\vOK w=true:=fun w hw=>by
  refine ⟨?_,c7z (c2i ho).1 hw⟩
  have h1:=a1P hw
  have h2:=a2J v
  omega
 have hK:(shN d x).Kind=x.Kind:=rfl
 have hLo:(shN d x).Lo=x.Lo:=rfl
 have hHi:(shN d x).Hi=x.Hi:=rfl
 have hTx:(shN d x).Text=x.Text:=rfl
 have hKs:(shN d x).Kids=x.Kids.map fun k=>k+d:=rfl
 unfold unM
 rw [hK,hLo,hHi,hTx,hKs]
 have hall:b1n μ v.Kids (x.Kids.map fun k=>k+d)=b1n ν v.Kids x.Kids:=c4p fun w hw j hj=>hsub w (hkids w hw).1 (hkids w hw).2 j (hin j hj)
 by_cases k13:x.Kind=13
 ·have hm:c0W μ v (shN d x)=c0W ν v x:=by
   unfold c0W
   have e1:((shN d x).Fields.all fun f=>f.Optional||v.Keys.any fun y=>a1q y f.Key_)=(x.Fields.all fun f=>f.Optional||v.Keys.any fun y=>a1q y f.Key_):=by
    show ((x.Fields.map (shF d)).all fun f=>f.Optional||v.Keys.any fun y=>a1q y f.Key_)=_
    rw [List.all_map]
    rfl
   rw [e1]
   congr 1
   obtain ⟨f1,f2,f3⟩:=b7T hx k13
   have e:∀ p∈v.Keys.zip v.Kids,μ p.2 (atM (shN d x) p.1)=ν p.2 (atM x p.1):=fun p hp=>by
    have hw:=(e0h hp).2
    rw [d17 k13]
    exact hsub p.2 (hkids _ hw).1 (hkids _ hw).2 _ (d4y f1 f2 f3 p.1)
   rw [d9g,d8q,d8q]
   exact ⟨fun k p hp=>(e p hp).symm.trans (k p hp),fun k p hp=>(e p hp).trans (k p hp)⟩
  rw [hm]
  simp [k13]
 by_cases k14:x.Kind=14
 ·have hf:c44 μ v (shN d x)=c44 ν v x:=by
   unfold c44
   rw [hKs,d8L]
   congr 1
   obtain ⟨q1,_⟩:=c9x hx k14
   have e:∀ e∈v.Entries,b9C μ e (x.Kids.map fun k=>k+d)=b9C ν e x.Kids:=fun e he=>by
    have b1:=a1N he
    have b2:=a2L e
    have b3:=a2J v
    have heo:eOK e=true:=by
     have:=(c2i ho).2
     rw [a6O] at this
     exact d8q.1 this e he
    rw [b91] at heo
    simp only [d8p] at heo
    unfold b9C
    rw [d8L,<- List.map_take,c9J q1]
    rw [c4p (μ:=μ) (ν:=ν) fun w hw j hj=>hsub w (by have:=a1P hw; omega) (c7z heo.1 hw) j (hin j (List.mem_of_mem_take hj))]
    cases hfa:e.Fails with
    | true=>rfl
    | false =>
      rw [hfa] at heo
      have:μ e.Result (b0u x.Kids+d)=ν e.Result (b0u x.Kids):=hsub _ (by omega) (by simpa using heo.2) _ (d3a hin q1)
      rw [this]
   rw [d9g,d8q,d8q]
   exact ⟨fun k p hp=>(e p hp).symm.trans (k p hp),fun k p hp=>(e p hp).trans (k p hp)⟩
  rw [hf]
  simp [k14]
 by_cases k16:x.Kind=16
 ·have hb:isB x=true:=by unfold isB; rw [k16]; rfl
  have e:(x.Kids.map fun k=>k+d).any (μ v)=x.Kids.any (ν v):=by
   rw [List.any_map,d9g,e0c,e0c]
   exact ⟨fun ⟨k,h1,h2⟩=>⟨k,h1,(hbo hb k h1).symm.trans h2⟩,fun ⟨k,h1,h2⟩=>⟨k,h1,(hbo hb k h1).trans h2⟩⟩
  rw [e]
  simp [k16]
 by_cases k17:x.Kind=17
 ·have hb:isB x=true:=by unfold isB; rw [k17]; rfl
  have e:(x.Kids.map fun k=>k+d).all (μ v)=x.Kids.all (ν v):=by
   rw [List.all_map,d9g,d8q,d8q]
   exact ⟨fun h k h1=>(hbo hb k h1).symm.trans (h k h1),fun h k h1=>(hbo hb k h1).trans (h k h1)⟩
  rw [e]
  simp [k17]
 by_cases k18:x.Kind=18
 ·have hb:isB x=true:=by unfold isB; rw [k18]; rfl
  have hl:=c83 hx k18
  have e:μ v ((x.Kids.map fun k=>k+d).getD 0 0)=ν v (x.Kids.getD 0 0):=by
   match hks:x.Kids,hl with
   | [j],_=>exact hbo hb j (by rw [hks]; simp)
  rw [e]
  simp [k18]
 rw [if_neg k13,if_neg k14,if_neg k16,if_neg k17,if_neg k18,if_neg k13,if_neg k14,if_neg k16,if_neg k17,if_neg k18,hall]
end
theorem d0L {T U:Api_Type}(hT:GM T)(hU:GM U)(d:Nat)(hs:∀ (k:Nat) (x:Api_TypeNode),T.Nodes[k]?=some x->U.Nodes[k+d]?=some (shN (d:Int) x)) :
 ∀ (m:Nat) (v:Val) (k:Nat),MS v k<=m->vOK v=true->Z4 v<=4194304->k<T.Nodes.length->K1 U v ((k+d:Nat):Int)=K1 T v (k:Int):=by
 intro m
 induction m with
 | zero=>intro v k h; have:=b0Q v; unfold MS at h; omega
 | succ m ih =>
   intro v k hm ho hb hk
   have ex:=d8n hk
   have hN:=hT.len
   rw [b6p hT ex ho hb,b6p hU (hs k _ ex) ho hb]
   generalize T.Nodes[k]=x at ex
   refine d2s (N:=T.Nodes.length) (hT.nodes k x ex).ok ho (fun w hw hwo j hj=>?_) fun hbx j hj=>?_
   ·obtain ⟨j,rfl,hj2⟩:=a1a hj
    have:=ih w j (by unfold MS at *; omega) hwo (by omega) hj2
    rw [<- this]
    congr 1
   ·obtain ⟨j',rfl,h1,h2⟩:=hT.ord ex hbx hj
    have:=ih v j' (by unfold MS at *; omega) ho hb h2
    rw [<- this]
    congr 1
end Go.Pl
end
section
open Bool renaming and_eq_true->d8p
open List renaming all_eq_true->d8q,length_map->d8L,mem_map->d8T
namespace Go.Pl
open Go Go.RowKit Go.Sx Go.Qx
theorem b4y {N M d:Nat}(h:N+d<=M){k:Int}(hk:inR N k=true):inR M (k+(d:Int))=true:=by
 obtain ⟨j,rfl,hj⟩:=a1a hk
 exact a7U (by omega) (by omega)
theorem c9F {N M d:Nat}(h:N+d<=M){x:Api_TypeNode}(hx:V2 N x=true):V2 M (shN (d:Int) x)=true:=by
 have hkin:=a2j hx
 have hkt:=c0t hx
 unfold V2 at hx ⊢
 simp only [d8p] at hx ⊢
 obtain ⟨_,h2,h3,h4,_⟩:=hx
 refine ⟨d8q.2 fun k hk=>?_,h2,h3,?_,?_⟩
 ·obtain ⟨j,hj,rfl⟩:=d8T.1 hk
  exact b4y h (hkin j hj)
 ·by_cases k13:x.Kind=13
  ·show (x.Kind==13||_)=true
   rw [k13]
   rfl
  ·have e13:(x.Kind==13)=false:=by simpa using k13
   show (x.Kind==13||((x.Fields.map (shF (d:Int))).isEmpty&&a58 (bif x.Kind==13 then (x.Rest.1+(d:Int),x.Rest.2+(d:Int)) else x.Rest)))=true
   rw [e13] at h4 ⊢
   simpa using h4
 ·by_cases k13:x.Kind=13
  ·unfold a2z at hkt ⊢
   have hK:(shN (d:Int) x).Kind=13:=k13
   simp only [hK,k13] at hkt ⊢
   simp only [show ¬ (13:Int)=3 by omega,show ¬ (13:Int)=4 by omega,show ¬ (13:Int)=6 by omega,show ¬ (13:Int)=19 by omega,show ¬ (13:Int)=1 by omega,show ¬ (13:Int)=2 by omega,show ¬ (13:Int)=5 by omega,show ¬ (13:Int)=7 by omega,
    show ¬ (13:Int)=8 by omega,show ¬ (13:Int)=9 by omega,show ¬ (13:Int)=11 by omega,show ¬ (13:Int)=15 by omega,show ¬ (13:Int)=10 by omega,show ¬ (13:Int)=12 by omega,show ¬ (13:Int)=14 by omega,show ¬ (13:Int)=16 by omega,
    show ¬ (13:Int)=17 by omega,show ¬ (13:Int)=18 by omega,or_self,if_false,if_true,d8p] at hkt ⊢
   obtain ⟨q1,q2,q3,q4⟩:=hkt
   unfold a5w at q1 ⊢
   simp only [d8p,d8q] at q1 ⊢
   obtain ⟨r1,r2,r3⟩:=q1
   refine ⟨⟨?_,fun f hf=>?_,fun f hf=>?_⟩,?_,?_,?_⟩
   ·have:(shN (d:Int) x).Fields.map (·.Key_)=x.Fields.map (·.Key_):=by
     show (x.Fields.map (shF (d:Int))).map (·.Key_)=_
     rw [List.map_map]
     rfl
    rw [this]
    exact r1
   ·obtain ⟨g,hg,rfl⟩:=d8T.1 hf
    exact r2 g hg
   ·obtain ⟨g,hg,rfl⟩:=d8T.1 hf
    exact b4y h (r3 g hg)
   ·show (x.Kids.map fun k=>k+(d:Int)).isEmpty=true
    simpa using q2
   ·show inR M (bif x.Kind==13 then (x.Rest.1+(d:Int),x.Rest.2+(d:Int)) else x.Rest).1=true
    rw [show (x.Kind==13)=true by rw [k13]; rfl]
    exact b4y h q3
   ·show inR M (bif x.Kind==13 then (x.Rest.1+(d:Int),x.Rest.2+(d:Int)) else x.Rest).2=true
    rw [show (x.Kind==13)=true by rw [k13]; rfl]
    exact b4y h q4
  ·unfold a2z at hkt ⊢
   rw [if_neg k13] at hkt
   have hK:(shN (d:Int) x).Kind=x.Kind:=rfl
   have hLo:(shN (d:Int) x).Lo=x.Lo:=rfl
   have hHi:(shN (d:Int) x).Hi=x.Hi:=rfl
   have hTx:(shN (d:Int) x).Text=x.Text:=rfl
   have hl:(shN (d:Int) x).Kids.length=x.Kids.length:=by show (x.Kids.map _).length=_; rw [d8L]
   have he:(shN (d:Int) x).Kids.isEmpty=x.Kids.isEmpty:=by show (x.Kids.map _).isEmpty=_; cases x.Kids<;>rfl
   rw [hK,hLo,hHi,hTx,hl,he,if_neg k13]
   exact hkt
theorem d3F {N M d i:Nat}(h:N+d<=M){x:Api_TypeNode}(hx:GN N i x):GN M (i+d) (shN (d:Int) x):=by
 refine ⟨c9F h hx.ok,fun hb k hk=>?_,?_,hx.text,?_,fun f hf=>?_,hx.rng⟩
 ·obtain ⟨j,hj,rfl⟩:=d8T.1 hk
  have:=hx.ord hb j hj
  omega
 ·show (x.Kids.map _).length<=4
  rw [d8L]
  exact hx.kids
 ·show (x.Fields.map _).length<=3
  rw [d8L]
  exact hx.flds
 ·obtain ⟨g,hg,rfl⟩:=d8T.1 hf
  exact hx.keys g hg
end Go.Pl
end
section
namespace Go.Pl
open Go Go.RowKit Go.Sx Go.Qx
end Go.Pl
end
section
open Option renaming bind_some->d8l
namespace Go.Pl
open Go Go.RowKit Go.Sx Go.Qx
abbrev g0 (p q:List Int):Api_Goal:=Api_Goal.mk p q false
theorem b2D {St β:Type}{step:St->Option (Fl St β)}(st:Nat->St)(n:Nat)(r:β)(hs:∀ i,i<n->step (st i)=some (.next (st (i+1))))(he:step (st n)=some (.done r))(k:Nat)(hk:n+1<=k):j7 step k (st 0)=some r:=by
 have key:∀ (m i k:Nat),i+m=n->m+1<=k->j7 step k (st i)=some r:=by
  intro m
  induction m with
  | zero =>
    intro i k h1 h2
    obtain ⟨k,rfl⟩:∃ q,k=q+1:=⟨k-1,by omega⟩
    have e:i=n:=by omega
    subst e
    simp only [j7,he,d8l]
  | succ m ih =>
    intro i k h1 h2
    obtain ⟨k,rfl⟩:∃ q,k=q+1:=⟨k-1,by omega⟩
    simp only [j7,hs i (by omega),d8l]
    exact ih (i+1) k (by omega) (by omega)
 exact key n 0 k (by omega) hk
end Go.Pl
end
section
open Bool renaming and_eq_true->d8p
open Int renaming toNat_natCast->d8M
open List renaming all_eq_true->d8q,append_nil->d82,drop_eq_getElem_cons->d8S,getElem?_append_left->d8H,getElem?_append_right->d8z,getElem?_drop->d9e,getElem?_eq_getElem->d8n,getElem?_eq_some_iff->d8o,getElem?_map->d9i,getElem_mem->d8B,length->d98,length_append->d8t,length_cons->d8v,length_drop->d83,length_map->d8L,length_nil->d8I,length_take->d8G,map_append->d9S,map_cons->d8O,mem_cons->d8A,mem_of_getElem?->d8x,set_cons_zero->e0i,take_succ_eq_append_getElem->d9C
open Nat renaming add_zero->d9h,le_refl->d8r,min_eq_left->d9x
open Option renaming bind_some->d8l,map_some->d85,some->d8Y
namespace Go.Pl
open Go Go.RowKit Go.Sx Go.Qx
theorem d1I {α:Type}{l:List α}{b:Nat}(h:l.length*b<=140737488355328):V7 b l=some l:=by
 unfold V7
 rw [W8 (by simpa using h)]
 rfl
def a8M {α:Type}(f:α->α)(l:List α)(i:Nat):List α:=(l.take i).map f++l.drop i
section
variable {α:Type}{f:α->α}{l:List α}{i:Nat}
theorem c6j:a8M f l l.length=l.map f:=by simp [a8M]
theorem c81 (h:i<l.length):(a8M f l i)[i]?=l[i]?:=by
 unfold a8M
 rw [d8z (by simp; omega)]
 simp only [d8L,d8G,d9x (Nat.le_of_lt h),Nat.sub_self,d9e,d9h]
theorem c6u {x:α}(hx:l[i]?=some x):(a8M f l i).set i (f x)=a8M f l (i+1):=by
 obtain ⟨h,rfl⟩:=d8o.1 hx
 unfold a8M
 rw [List.set_append_right _ _ (by simp; omega)]
 simp only [d8L,d8G,d9x (Nat.le_of_lt h),Nat.sub_self]
 rw [d8S h,e0i,d9C h,d9S]
 simp
end
theorem d5A {N:Nat}{x:Api_TypeNode}(h:V2 N x=true):∀ f∈x.Fields,inR N f.Node=true:=by
 by_cases k13:x.Kind=13
 ·exact (b7T h k13).1
 ·intro f hf
  unfold V2 at h
  simp only [d8p] at h
  have e13:(x.Kind==13)=false:=by simpa using k13
  have h4:=h.2.2.2.1
  rw [e13] at h4
  simp only [Bool.false_or,d8p,List.isEmpty_iff] at h4
  rw [h4.1] at hf
  cases hf
theorem c3A {N d:Nat}{k:Int}(hk:inR N k=true)(hN:N<=1000)(hd:d<=1000):wr .i64 (k+(d:Int))=k+(d:Int):=by
 obtain ⟨j,rfl,hj⟩:=a1a hk
 rw [Q9,W2 (by omega) (by omega)]
theorem d0R {N d:Nat}{x:Api_TypeNode}(hx:V2 N x=true)(hN:N<=1000)(hd:d<=1000)(hk:x.Kids.length<=4)(hf:x.Fields.length<=3):a52 x (d:Int)=some (shN (d:Int) x):=by
 have hin:=a2j hx
 have hfi:=d5A hx
 have l1:=b2D (step:=a2E (d:Int) x.Kids) (fun i=>((i:Int),(x.Kind,x.Lo,x.Hi,x.Text,a8M (fun k=>k+(d:Int)) x.Kids i,x.Fields,x.Rest.1,x.Rest.2))) x.Kids.length (x.Kind,x.Lo,x.Hi,x.Text,x.Kids.map (fun k=>k+(d:Int)),x.Fields,x.Rest.1,x.Rest.2) (fun i hi=>by
  have ex:=d8n hi
  have hm:(a8M (fun k=>k+(d:Int)) x.Kids i)[i]?=some x.Kids[i]:=by rw [c81 hi]; exact ex
  have hs:=c6u (f:=fun k=>k+(d:Int)) ex
  unfold a2E
  simp only
  rw [J8 hi,Z9 hm]
  simp only [cond_true,d8l,d8M]
  rw [hm]
  simp only [d8l]
  rw [c3A (hin _ (d8B hi)) hN hd,hs,Q9,Y1 i (by omega)]) (by
  unfold a2E
  simp only
  rw [c6j,decide_eq_false (by omega)]
  rfl) (x.Kids.length+1) (d8r _)
 have l1':j7 (a2E (d:Int) x.Kids) (x.Kids.length+1) (0,(x.Kind,x.Lo,x.Hi,x.Text,x.Kids,x.Fields,x.Rest.1,x.Rest.2))=_:=l1
 have l2:=b2D (step:=a2F (d:Int) x.Fields) (fun i=>((i:Int),(x.Kind,x.Lo,x.Hi,x.Text,x.Kids.map (fun k=>k+(d:Int)),a8M (shF (d:Int)) x.Fields i,x.Rest.1,x.Rest.2))) x.Fields.length (x.Kind,x.Lo,x.Hi,x.Text,x.Kids.map (fun k=>k+(d:Int)),x.Fields.map (shF (d:Int)),x.Rest.1,x.Rest.2) (fun i hi=>by
  have ex:=d8n hi
  have hm:(a8M (shF (d:Int)) x.Fields i)[i]?=some x.Fields[i]:=by rw [c81 hi]; exact ex
  have hs:=c6u (f:=shF (d:Int)) ex
  unfold shF at hs
  unfold a2F
  simp only
  rw [J8 hi,Z9 hm]
  simp only [cond_true,d8l,d8M]
  rw [hm]
  simp only [d8l]
  rw [c3A (hfi _ (d8B hi)) hN hd]
  unfold shF
  rw [hs,Q9,Y1 i (by omega)]) (by
  unfold a2F
  simp only
  rw [c6j,decide_eq_false (by omega)]
  rfl) (x.Fields.length+1) (d8r _)
 have l2':j7 (a2F (d:Int) x.Fields) (x.Fields.length+1) (0,(x.Kind,x.Lo,x.Hi,x.Text,x.Kids.map (fun k=>k+(d:Int)),x.Fields,x.Rest.1,x.Rest.2))=_:=l2
 unfold a52
 rw [d1I (by omega)]
 simp only [d8l,V0]
 rw [l1']
 simp only [d8l]
 rw [d1I (by omega)]
 simp only [d8l,V0]
 rw [l2']
 simp only [d8l]
 unfold shN
 by_cases k13:x.Kind=13
 ·obtain ⟨_,f2,f3⟩:=b7T hx k13
  have e13:(x.Kind==13)=true:=by rw [k13]; rfl
  rw [e13]
  simp only [cond_true]
  rw [c3A f2 hN hd,c3A f3 hN hd]
 ·have e13:(x.Kind==13)=false:=by simpa using k13
  rw [e13]
  rfl
theorem d3q {t:Api_Type}(hT:GM t)(hr:inR t.Nodes.length t.Root=true)(ns:List Api_TypeNode)(hn:ns.length<=1000)(f:Nat)(hf:1100001<=f) :
 a1Z f ns t=some (ns++t.Nodes.map (shN (ns.length:Int)),t.Root+(ns.length:Int)):=by
 have hN:=hT.len
 unfold a1Z a9X
 rw [wf0 hT hr f hf]
 have l1:=b2D (step:=a3u ns t) (fun i=>(ns++(t.Nodes.take i).map (shN (ns.length:Int)),(i:Int))) t.Nodes.length (ns++t.Nodes.map (shN (ns.length:Int))) (fun i hi=>by
  have ex:=d8n hi
  have hg:=hT.nodes i _ ex
  unfold a3u
  simp only
  rw [J8 hi,Z9 ex]
  simp only [cond_true,d8l]
  rw [d0R hg.ok (by omega) hn hg.kids (by have:=hg.flds; omega)]
  simp only [d8l]
  rw [W8 (by simp only [d8t,d8L,d8G,d8v,d8I]; omega),Q9,Y1 i (by omega),d9C hi,d9S]
  simp) (by
  unfold a3u
  simp) (t.Nodes.length+1) (d8r _)
 have l1':j7 (a3u ns t) (t.Nodes.length+1) (ns++[],0)=_:=l1
 rw [d82] at l1'
 simp only [d8l,bne_self_eq_false,cond_false,V0]
 rw [l1',d8l,c3A hr (by omega) hn]
structure SM (t:Api_Type):Prop where
 gm:GM t
 len:t.Nodes.length<=7
 root:inR t.Nodes.length t.Root=true
def a3j:List Api_Type->Nat->List Api_TypeNode
 | [],_=>[]
 | t::r,b=>t.Nodes.map (shN (b:Int))++a3j r (b+t.Nodes.length)
def a6Q:List Api_Type->Nat->List Int
 | [],_=>[]
 | t::r,b=>(t.Root+(b:Int))::a6Q r (b+t.Nodes.length)
def ovT (k:Int)(l:List Api_Type):Api_Type:=Api_Type.mk (a4h k (a6Q l 1)::a3j l 1) 0
theorem c8F:∀ (l:List Api_Type) (b:Nat),(a6Q l b).length=l.length
 | [],_=>rfl
 | t::r,b=>by simp [a6Q,c8F r]
theorem c7R:∀ (l:List Api_Type) (b:Nat),(∀ t∈l,SM t)->(a3j l b).length<=7*l.length
 | [],_,_=>by simp [a3j]
 | t::r,b,h=>by
   have h1:=c7R r (b+t.Nodes.length) fun s hs=>h s (by simp [hs])
   have h2:=(h t (by simp)).len
   simp only [a3j,d8t,d8L,d8v]
   omega
theorem c6y (l:List Api_Type)(hl:l.length<=2)(hS:∀ t∈l,SM t)(f:Nat)(hf:1100001<=f):∀ (r:List Api_Type) (i k:Nat) (ns:List Api_TypeNode) (ks:List Int),l.drop i=r->i<=l.length->ns.length<=1+7*i->ks.length=i->r.length+1<=k ->
 j7 (a2I l f) k (ns,ks,(i:Int))=some (ns++a3j r ns.length,ks++a6Q r ns.length)
 | [],i,k,ns,ks,hd,hi,hn,hk,hq=>by
   obtain ⟨k,rfl⟩:∃ q,k=q+1:=⟨k-1,by omega⟩
   have hil:i=l.length:=by have:=congrArg d98 hd; rw [d83] at this; simp at this; omega
   subst hil
   simp [j7,a2I,a3j,a6Q]
 | t::r,i,k,ns,ks,hd,hi,hn,hk,hq=>by
   obtain ⟨k,rfl⟩:∃ q,k=q+1:=⟨k-1,by omega⟩
   have hil:i<l.length:=by have:=congrArg d98 hd; rw [d83] at this; simp at this; omega
   have ex:l[i]?=some t:=by
    have:=d9e (xs:=l) (i:=i) (j:=0)
    rw [hd] at this
    simpa using this.symm
   have hs:=hS t (d8x ex)
   have hd':l.drop (i+1)=r:=by
    rw [<- List.drop_drop,hd]
    rfl
   have hlen:=hs.len
   have ih:=c6y l hl hS f hf r (i+1) k (ns++t.Nodes.map (shN (ns.length:Int))) (ks++[t.Root+(ns.length:Int)]) hd' (by omega) (by simp only [d8t,d8L]; omega) (by simp [hk]) (by rw [d8v] at hq; omega)
   have hst:a2I l f (ns,ks,(i:Int))=some (.next (ns++t.Nodes.map (shN (ns.length:Int)),ks++[t.Root+(ns.length:Int)],((i+1:Nat):Int))):=by
    unfold a2I
    simp only
    rw [J8 hil,Z9 ex]
    simp only [cond_true,d8l]
    rw [d3q hs.gm hs.root ns (by omega) f hf]
    simp only [d8l]
    rw [W8 (by simp only [d8v,d8I]; omega),Q9,Y1 i (by omega)]
    rfl
   simp only [j7,hst,d8l]
   rw [ih]
   simp [a3j,a6Q]
theorem d0k (k:Int)(l:List Api_Type)(hl:l.length<=2)(hS:∀ t∈l,SM t)(f:Nat)(hf:1100001<=f):a6f f k l=some (ovT k l):=by
 have h:=c6y l hl hS f hf l 0 (l.length+1) [a4h k []] [] rfl (by omega) (by simp) rfl (d8r _)
 unfold a6f
 rw [V0]
 have h':j7 (a2I l f) (l.length+1) (([Api_TypeNode.mk k 0 0 (⟨#[]⟩:ByteArray) ([]:List Int) ([]:List Api_Field) (0,0)]:List Api_TypeNode),[],0)=_:=h
 rw [h']
 rfl
theorem d0m:∀ (l:List Api_Type) (b M:Nat),(∀ t∈l,SM t)->1<=b->b+(a3j l b).length<=M->∀ k∈a6Q l b,inR M k=true/\0<k
 | [],_,_,_,_,_,k,hk=>by cases hk
 | t::r,b,M,h,hb,hM,k,hk=>by
   simp only [a3j,d8t,d8L] at hM
   rcases d8A.1 hk with e | hk
   ·subst e
    obtain ⟨j,e,hj⟩:=a1a (h t (by simp)).root
    rw [e]
    exact ⟨a7U (by omega) (by omega),by omega⟩
   ·exact d0m r (b+t.Nodes.length) M (fun s hs=>h s (by simp [hs])) (by omega) (by omega) k hk
theorem d0s:∀ (l:List Api_Type) (b M:Nat),(∀ t∈l,SM t)->b+(a3j l b).length<=M->∀ (i:Nat) (x:Api_TypeNode),(a3j l b)[i]?=some x->GN M (i+b) x
 | [],_,_,_,_,i,x,hx=>by simp [a3j] at hx
 | t::r,b,M,h,hM,i,x,hx=>by
   simp only [a3j,d8t,d8L] at hM
   by_cases hi:i<t.Nodes.length
   ·rw [a3j,d8H (by simpa using hi),d9i,d8n hi] at hx
    simp only [d85,d8Y.injEq] at hx
    subst hx
    exact d3F (by omega) ((h t (by simp)).gm.nodes i _ (d8n hi))
   ·rw [a3j,d8z (by simpa using hi),d8L] at hx
    have:=d0s r (b+t.Nodes.length) M (fun s hs=>h s (by simp [hs])) (by omega) _ x hx
    rwa [show i-t.Nodes.length+(b+t.Nodes.length)=i+b by omega] at this
theorem d1e {k:Int}(hk:k=16\/k=17){l:List Api_Type}(h1:1<=l.length)(hl:l.length<=2)(hS:∀ t∈l,SM t):GM (ovT k l):=by
 have hn:=c7R l 1 hS
 have hin:=d0m l 1 (1+(a3j l 1).length) hS (d8r _) (d8r _)
 have hr:=c8F l 1
 refine ⟨by show (a3j l 1).length+1<=20; omega,fun i x hx=>?_⟩
 show GN ((a3j l 1).length+1) i x
 rw [Nat.add_comm]
 cases i with
 | zero =>
   obtain rfl:a4h k (a6Q l 1)=x:=by simpa [ovT] using hx
   refine a7Y (d8q.2 fun j hj=>(hin j hj).1) (by omega) ?_ fun _ j hj=>(hin j hj).2
   rcases hk with rfl | rfl<;>simp [a2z]<;>omega
 | succ i =>
   have hx:(a3j l 1)[i]?=some x:=by simpa [ovT] using hx
   exact d0s l 1 _ hS (d8r _) i x hx
theorem c9c {U:Api_Type}(hU:GM U){v:Val}(ho:vOK v=true)(hb:Z4 v<=4194304):∀ (l:List Api_Type) (b:Nat),(∀ t∈l,SM t)->(∀ (i:Nat) (x:Api_TypeNode),(a3j l b)[i]?=some x->U.Nodes[i+b]?=some x) ->
 (a6Q l b).map (K1 U v)=l.map fun t=>K1 t v t.Root
 | [],_,_,_=>rfl
 | t::r,b,h,hU'=>by
   have ih:=c9c hU ho hb r (b+t.Nodes.length) (fun s hs=>h s (by simp [hs])) fun i x hx=>by
    have:=hU' (i+t.Nodes.length) x (by rw [a3j,d8z (by simp)]; simpa using hx)
    rwa [show i+t.Nodes.length+b=i+(b+t.Nodes.length) by omega] at this
   have ht:=h t (by simp)
   obtain ⟨j,e,hj⟩:=a1a ht.root
   have hm:=d0L ht.gm hU b (fun k x hx=>by
    obtain ⟨hk,rfl⟩:=d8o.1 hx
    refine hU' k _ ?_
    rw [a3j,d8H (by simpa using hk),d9i,hx]
    rfl) (MS v j) v j (d8r _) ho hb hj
   simp only [a6Q,d8O,ih]
   rw [e,<- hm]
   rfl
theorem d2j {k:Int}(hk:k=16\/k=17){l:List Api_Type}(h1:1<=l.length)(hl:l.length<=2)(hS:∀ t∈l,SM t){v:Val}(ho:vOK v=true)(hb:Z4 v<=4194304) :
 K1 (ovT k l) v 0=if k=16 then l.any (fun t=>K1 t v t.Root) else l.all fun t=>K1 t v t.Root:=by
 have hU:=d1e hk h1 hl hS
 have he:=b6p hU (k:=0) (x:=a4h k (a6Q l 1)) rfl ho hb
 have hm:=c9c hU ho hb l 1 hS fun i x hx=>by simpa [ovT] using hx
 have he':K1 (ovT k l) v 0=unM (K1 (ovT k l)) v (a4h k (a6Q l 1)):=he
 rw [he']
 rcases hk with rfl | rfl
 ·have:unM (K1 (ovT 16 l)) v (a4h 16 (a6Q l 1))=((a6Q l 1).map (K1 (ovT 16 l) v)).any id:=by
   unfold unM
   simp
  rw [this,hm]
  simp
 ·have:unM (K1 (ovT 17 l)) v (a4h 17 (a6Q l 1))=((a6Q l 1).map (K1 (ovT 17 l) v)).all id:=by
   unfold unM
   simp
  rw [this,hm]
  simp
def b5L (x:Api_TypeNode):Api_Type:=Api_Type.mk [x] 0
theorem c0r {x:Api_TypeNode}(h:GN 1 0 x):SM (b5L x):=by
 refine ⟨⟨by show (1:Nat)<=20; omega,fun i y hy=>?_⟩,by show (1:Nat)<=7; omega,rfl⟩
 cases i with
 | zero =>
   obtain rfl:x=y:=by simpa [b5L] using hy
   exact h
 | succ i=>simp [b5L] at hy
theorem d0f:GN 1 0 (a4h 1 []):=a7Y rfl (by decide) rfl fun h=>by omega
theorem d1M:GN 1 0 (a4h 2 []):=a7Y rfl (by decide) rfl fun h=>by omega
theorem d3Z {v:Val}(ho:vOK v=true)(hb:Z4 v<=4194304):K1 (b5L (a4h 1 [])) v 0=false:=by
 have:=b6p (c0r d0f).gm (k:=0) (x:=a4h 1 []) rfl ho hb
 rw [show K1 (b5L (a4h 1 [])) v 0=_ from this]
 unfold unM
 simp
theorem d5I {v:Val}(ho:vOK v=true)(hb:Z4 v<=4194304):K1 (b5L (a4h 2 [])) v 0=true:=by
 have:=b6p (c0r d1M).gm (k:=0) (x:=a4h 2 []) rfl ho hb
 rw [show K1 (b5L (a4h 2 [])) v 0=_ from this]
 unfold unM
 simp
theorem d3y (l:List Api_Type)(hl:l.length<=2)(hS:∀ t∈l,SM t)(f:Nat)(hf:1100001<=f) :
 ∃ U,a5s f l=some U/\GM U/\U.Root=0/\inR U.Nodes.length U.Root=true/\∀ v:Val,vOK v=true->Z4 v<=4194304->K1 U v 0=l.any fun t=>K1 t v t.Root:=by
 unfold a5s
 cases hq:l with
 | nil=>exact ⟨b5L (a4h 1 []),rfl,(c0r d0f).gm,rfl,rfl,fun v ho hb=>d3Z ho hb⟩
 | cons a r =>
   rw [<- hq]
   have h1:1<=l.length:=by rw [hq]; simp
   have e:((l.length:Int)==0)=false:=by simp; intro h; rw [h] at h1; simp at h1
   rw [e,d0k 16 l hl hS f hf]
   refine ⟨ovT 16 l,rfl,d1e (.inl rfl) h1 hl hS,rfl,?_,fun v ho hb=>?_⟩
   ·exact a7U (show (0:Int)<=0 by omega) (by show (0:Int)<((((a3j l 1).length+1:Nat)):Int); omega)
   ·rw [d2j (.inl rfl) h1 hl hS ho hb,if_pos rfl]
theorem c8C (l:List Api_Type)(hl:l.length<=2)(hS:∀ t∈l,SM t)(f:Nat)(hf:1100001<=f) :
 ∃ U,a4L f l=some U/\GM U/\U.Root=0/\inR U.Nodes.length U.Root=true/\∀ v:Val,vOK v=true->Z4 v<=4194304->K1 U v 0=l.all fun t=>K1 t v t.Root:=by
 unfold a4L
 cases hq:l with
 | nil=>exact ⟨b5L (a4h 2 []),rfl,(c0r d1M).gm,rfl,rfl,fun v ho hb=>d5I ho hb⟩
 | cons a r =>
   rw [<- hq]
   have h1:1<=l.length:=by rw [hq]; simp
   have e:((l.length:Int)==0)=false:=by simp; intro h; rw [h] at h1; simp at h1
   rw [e,d0k 17 l hl hS f hf]
   refine ⟨ovT 17 l,rfl,d1e (.inr rfl) h1 hl hS,rfl,?_,fun v ho hb=>?_⟩
   ·exact a7U (show (0:Int)<=0 by omega) (by show (0:Int)<((((a3j l 1).length+1:Nat)):Int); omega)
   ·rw [d2j (.inr rfl) h1 hl hS ho hb,if_neg (by omega)]
end Go.Pl
end
section
open List renaming getElem?_eq_some_iff->d8o
open Nat renaming le_refl->d8r
open Option renaming bind_some->d8l
namespace Go.Pl
open Go Go.RowKit Go.Sx Go.Qx
theorem d3X (l:List (List Int))(hl:l.length<=1000):a4B l=some (l.all fun x=>!decide (80<(x.length:Int))):=by
 have l1:=a1d (step:=a11 l) l (fun x=>!decide (80<(x.length:Int))) (fun i=>(i:Int)) () false (fun i x hx=>by
  have hi:i<l.length:=(d8o.1 hx).1
  unfold a11
  rw [J8 hi,Z9 hx]
  simp only [cond_true,d8l,Q9]
  rw [Y1 i (by omega)]
  cases decide (80<(x.length:Int))<;>rfl) (by
  unfold a11
  simp)
 have l1':j7 (a11 l) (l.length+1) 0=_:=l1
 unfold a4B
 rw [V0,l1']
 cases l.all fun x=>!decide (80<(x.length:Int))<;>rfl
structure DT (T:Api_Type):Prop where
 gt:GT T
 one:1<=T.Nodes.length
 len:T.Nodes.length<=7
 root:inR T.Nodes.length T.Root=true
structure DV (v:Val):Prop where
 ok:vOK v=true
 bulk:Z4 v<=1638300
theorem os0 (L:List Int):OS L (Semtypebase_Source.mk L 0):=⟨rfl,by show (0:Int)<=0; omega,by show (0:Int)<=_; omega⟩
theorem d3W (l:List Int)(hl:l.length<=4194304):∃ T,DT T/\∀ m:List Int,m.length<=4194304->∀ n,10000000<=n->∃ v,a4G n l m=some (T,v)/\DV v:=by
 obtain ⟨x,t1,e1,h1,x0,x1⟩:=Q4 hl (os0 l) (n:=7) (by omega) (by omega)
 obtain ⟨x,rfl⟩:=a86 x0
 obtain ⟨ns,t2,e2,h2,hlen,hns⟩:=d3P hl h1 (x+1) (by omega) (by omega)
 have hgt:GT (Api_Type.mk ns 0):=⟨by show ns.length<=10; omega,by show GNs ns.length ns; rw [hlen]; exact hns⟩
 have hDT:DT (Api_Type.mk ns 0):=⟨hgt,by show 1<=ns.length; omega,by show ns.length<=7; omega,a7U (show (0:Int)<=0 by omega) (by show (0:Int)<(ns.length:Int); omega)⟩
 refine ⟨_,hDT,fun m hm n hn=>?_⟩
 obtain ⟨k,t3,e3,h3,k0,k1⟩:=Q4 hm (os0 m) (n:=(ns.length:Int)) (by omega) (by omega)
 obtain ⟨k,rfl⟩:=a86 k0
 obtain ⟨v,u,e4,_,hv,hb⟩:=d5r hm hgt n hn 4 (d8r 4) k t3 (by show k<ns.length; omega) h3
 refine ⟨v,?_,hv,hb⟩
 unfold a4G
 rw [e1]
 simp only [d8l]
 rw [show wr .i64 (1+(x:Int))=((x+1:Nat):Int) by rw [Q9,W2 (by omega) (by omega)]; omega]
 rw [show a1x t1 ((x+1:Nat):Int)=some (Api_Type.mk ns 0,t2) from e2]
 simp only [d8l]
 rw [e3]
 simp only [d8l]
 have e4':a2D n t3 (Api_Type.mk ns 0) (k:Int) 4=some (v,u):=e4
 rw [e4']
 rfl
end Go.Pl
end
section
open Bool renaming not_true->d9m
open Int renaming toNat_natCast->d8M
open List renaming all_append->d9U,all_eq_true->d8q,filter_append->e0k,getElem?_eq_getElem->d8n,getElem_mem->d8B,length_cons->d8v,length_map->d8L,length_nil->d8I,length_take->d8G,map_append->d9S,mem_append->d8y,mem_map->d8T,mem_singleton->d9o,take_succ_eq_append_getElem->d9C
open Nat renaming le_refl->d8r,le_trans->d8C
open Option renaming bind_some->d8l
namespace Go.Pl
open Go Go.RowKit Go.Sx Go.Qx
theorem d3I:a4O 200000000=some true:=by decide +kernel
def a6m (t:Api_Type)(name:ByteArray):Bool:=match t.Nodes[t.Root.toNat]? with
 | some x=>x.Kind==19&&J4 x.Text name
 | none=>false
theorem c90 {t:Api_Type}(h:SM t):∃ x,idx t.Nodes t.Root=some x/\t.Nodes[t.Root.toNat]?=some x:=by
 obtain ⟨j,e,hj⟩:=a1a h.root
 have ex:=d8n hj
 refine ⟨t.Nodes[j],?_,?_⟩
 ·rw [e]; exact Z9 ex
 ·rw [e,d8M]; exact ex
theorem c9l {t:Api_Type}(h:SM t)(name:ByteArray)(f:Nat)(hf:1100001<=f):a34 f t name=some (a6m t name):=by
 obtain ⟨x,e1,e2⟩:=c90 h
 unfold a34 a6m
 rw [wf0 h.gm h.root f hf,e2]
 simp only [d8l,bne_self_eq_false,cond_false]
 rw [e1]
 simp only [d8l]
 cases x.Kind==19<;>rfl
theorem c0m {t:Api_Type}(h:SM t)(name:ByteArray)(f:Nat)(hf:1100001<=f):a1U f t name=some (a6m t name):=by
 obtain ⟨x,e1,e2⟩:=c90 h
 unfold a1U a6m
 rw [d7m h.gm h.root f hf,e2]
 simp only [d8l,beq_self_eq_true,cond_true]
 rw [e1]
 simp only [d8l]
 cases x.Kind==19<;>rfl
structure SC (e:Api_Constraint):Prop where
 lo:SM e.Lower
 up:SM e.Upper
theorem d5m {x:ByteArray}(h:x∈b4I):a5V x=true/\x.size<=5:=by
 have:=d8q.1 c6r x h
 simpa using this
theorem d6x {x:ByteArray}(h:x∈b4I):∃ u,a1y x=some u/\SM u:=by
 obtain ⟨h1,h2⟩:=d5m h
 refine ⟨b5L (d6K 19 x),?_,c0r (c4P h2 (.inr (.inr ⟨rfl,h1⟩)))⟩
 unfold a1y
 rw [d2e,h1]
 rfl
section
variable {L:List Int}{T:Api_Type}
theorem c9k (hL:L.length<=4194304){s:Semtypebase_Source}(hs:OS L s)(x:Int){t:Api_Type}(ht:SM t) :
 ∃ u q,(bif x==0 then ((K9 s).bind fun r6=>(a1y r6.1).bind fun r7=>some (r6.2,r7)) else (some (s,t)))=some (u,q)/\OS L u/\SM q:=by
 cases x==0 with
 | false=>exact ⟨s,t,rfl,hs,ht⟩
 | true =>
   obtain ⟨y,u,e,hu,hy⟩:=b77 hL hs
   obtain ⟨q,e2,hq⟩:=d6x hy
   refine ⟨u,q,?_,hu,hq⟩
   rw [e]
   simp only [cond_true,d8l]
   rw [e2]
   rfl
theorem DT.at {T:Api_Type}(hT:DT T){r:Int}(h0:0<=r)(h1:r<(T.Nodes.length:Int)):SM (Api_Type.mk T.Nodes r):=⟨⟨hT.gt.gm.len,hT.gt.gm.nodes⟩,hT.len,a7U h0 h1⟩
theorem c4R (hL:L.length<=4194304)(hT:DT T):∃ c,a2i T L=some c/\c.length<=2/\∀ e∈c,SC e:=by
 have h1:=hT.one
 have h7:=hT.len
 obtain ⟨m,t1,e1,hs1,m0,m1⟩:=Q4 hL (os0 L) (n:=3) (by omega) (by omega)
 obtain ⟨m,rfl⟩:=a86 m0
 obtain ⟨g,u,e,hu,i1,i2⟩:=a8j (γ:=List Api_Constraint) (L:=L) (step:=a1E T) (fun g n s=>(g,n,s)) (fun g s=>(g,s)) (fun j g=>g.length=j/\∀ e∈g,SC e) m
  (fun j n g s hj hn hI hs=>by
    obtain ⟨a,s1,e1,hs,a0,a1⟩:=Q4 hL hs (n:=(T.Nodes.length:Int)) (by omega) (by omega)
    obtain ⟨b,s2,e2,hs,b0,b1⟩:=Q4 hL hs (n:=(T.Nodes.length:Int)) (by omega) (by omega)
    obtain ⟨c,s3,e3,hs,c0,c1⟩:=Q4 hL hs (n:=3) (by omega) (by omega)
    obtain ⟨s4,p,e4,hs,hp⟩:=c9k hL hs c (hT.at a0 a1)
    obtain ⟨d,s5,e5,hs,d0,d1⟩:=Q4 hL hs (n:=3) (by omega) (by omega)
    obtain ⟨s6,q,e6,hs,hq⟩:=c9k hL hs d (hT.at b0 b1)
    refine ⟨g++[Api_Constraint.mk p q],s6,?_,hs,by simp [hI.1],fun e he=>?_⟩
    ·unfold a1E
     simp only
     rw [show decide (0<((n+1:Nat):Int))=true from decide_eq_true (by omega),e1]
     simp only [cond_true,d8l]
     rw [e2]
     simp only [d8l]
     rw [e3]
     simp only [d8l]
     rw [e4]
     simp only [d8l]
     rw [e5]
     simp only [d8l]
     rw [e6]
     simp only [d8l]
     rw [W8 (by simp only [d8v,d8I]; have:=hI.1; omega),show wr .i64 (((n+1:Nat):Int)-1)=(n:Int) by rw [Q9,W2 (by omega) (by omega)]; omega]
     rfl
    ·rcases d8y.1 he with h | h
     ·exact hI.2 e h
     ·obtain rfl:=d9o.1 h
      exact ⟨hp,hq⟩) (fun g s=>by
    unfold a1E
    rfl) m 0 ((m:Int).toNat+2) [] t1 (by omega) (by omega) ⟨rfl,fun e h=>by cases h⟩ hs1
 refine ⟨g,?_,by omega,i2⟩
 unfold a2i
 rw [e1]
 simp only [d8l]
 rw [e]
 rfl
end
def a3z (name:ByteArray)(e:Api_Constraint):Bool:=a6m e.Upper name&&!a6m e.Lower name
def a3t (name:ByteArray)(e:Api_Constraint):Bool:=a6m e.Lower name&&!a6m e.Upper name
theorem c9H (name:ByteArray)(l:List Api_Constraint)(hl:l.length<=2)(hS:∀ e∈l,SC e)(f:Nat)(hf:1100001<=f) :
 j7 (a4P l name f) (l.length+1) ([],[],0)=some ((l.filter (a3z name)).map (·.Lower),(l.filter (a3t name)).map (·.Upper)):=by
 have l1:=b2D (step:=a4P l name f) (fun i=>(((l.take i).filter (a3z name)).map (·.Lower),((l.take i).filter (a3t name)).map (·.Upper),(i:Int))) l.length ((l.filter (a3z name)).map (·.Lower),(l.filter (a3t name)).map (·.Upper)) (fun i hi=>by
  have ex:=d8n hi
  have hc:=hS _ (d8B hi)
  have q1:((l.take i).filter (a3z name)).length<=2:=by have:=List.length_filter_le (a3z name) (l.take i); rw [d8G] at this; omega
  have q2:((l.take i).filter (a3t name)).length<=2:=by have:=List.length_filter_le (a3t name) (l.take i); rw [d8G] at this; omega
  unfold a4P
  simp only
  rw [J8 hi,Z9 ex]
  simp only [cond_true,d8l]
  rw [c9l hc.lo name f hf,c9l hc.up name f hf]
  simp only [d8l]
  rw [W8 (by simp only [d8L,d8v,d8I]; omega),W8 (by simp only [d8L,d8v,d8I]; omega),Q9,Y1 i (by omega),d9C hi,e0k,e0k]
  generalize l[i]=e
  have b1:[e].filter (a3z name)=if a3z name e=true then [e] else []:=by rw [List.filter_cons,List.filter_nil]
  have b2:[e].filter (a3t name)=if a3t name e=true then [e] else []:=by rw [List.filter_cons,List.filter_nil]
  rw [b1,b2]
  unfold a3z a3t
  cases a6m e.Lower name<;>cases a6m e.Upper name<;>simp) (by
  unfold a4P
  simp) (l.length+1) (d8r _)
 exact l1
theorem b2g {t:Api_Type}(hT:GM t)(hr:inR t.Nodes.length t.Root=true){v:Val}(ho:vOK v=true)(hb:Z4 v<=2097152)(f:Nat)(hf:200000000<=f):a1j f v t=some (K1 t v t.Root):=by
 obtain ⟨j,e,hj⟩:=a1a hr
 have hFU:FU (Z4 v)<=f:=by unfold FU; omega
 unfold a1j a5F
 rw [b2R f v (by omega) (by omega),ho,d7m hT hr f (by omega),b3K,hr,e,d1O hT (v:=v) (k:=j) ho (by omega) hj f hFU]
 rfl
theorem d1g (name:ByteArray)(l:List Api_Constraint)(hS:∀ e∈l,SC e)(hl:l.length<=2){w:Val}(ho:vOK w=true)(hb:Z4 w<=2097152)(T:Api_Type)(f:Nat)(hf:200000000<=f) :
 j7 (a0G f (T,w) l name) (l.length+1) (false,true,0)=some (((l.filter (a3z name)).map (·.Lower)).any (fun t=>K1 t w t.Root),((l.filter (a3t name)).map (·.Upper)).all fun t=>K1 t w t.Root):=by
 have l1:=b2D (step:=a0G f (T,w) l name) (fun i=>((((l.take i).filter (a3z name)).map (·.Lower)).any (fun t=>K1 t w t.Root),(((l.take i).filter (a3t name)).map (·.Upper)).all (fun t=>K1 t w t.Root),(i:Int))) l.length (((l.filter (a3z name)).map (·.Lower)).any (fun t=>K1 t w t.Root),((l.filter (a3t name)).map (·.Upper)).all fun t=>K1 t w t.Root) (fun i hi=>by
  have ex:=d8n hi
  have hc:=hS _ (d8B hi)
  unfold a0G
  simp only
  rw [J8 hi,Z9 ex]
  simp only [cond_true,d8l]
  rw [c0m hc.lo name f (by omega),c0m hc.up name f (by omega),b2g hc.lo.gm hc.lo.root ho hb f hf,b2g hc.up.gm hc.up.root ho hb f hf]
  simp only [d8l]
  rw [Q9,Y1 i (by omega),d9C hi,e0k,e0k]
  generalize l[i]=e
  have b1:[e].filter (a3z name)=if a3z name e=true then [e] else []:=by rw [List.filter_cons,List.filter_nil]
  have b2:[e].filter (a3t name)=if a3t name e=true then [e] else []:=by rw [List.filter_cons,List.filter_nil]
  rw [b1,b2,d9S,d9S,List.any_append,d9U]
  generalize (((l.take i).filter (a3z name)).map (·.Lower)).any (fun t=>K1 t w t.Root)=p
  generalize (((l.take i).filter (a3t name)).map (·.Upper)).all (fun t=>K1 t w t.Root)=q
  unfold a3z a3t
  cases a6m e.Lower name<;>cases a6m e.Upper name<;>cases p<;>cases q<;>simp) (by
  unfold a0G
  simp) (l.length+1) (d8r _)
 exact l1
theorem c4a (d t:List Int)(v:Int)(hv:0<=v/\v<256):∃ n,a2k n d t v=some true:=by
 refine ⟨200000000,?_⟩
 unfold a2k
 rw [d3I,d3X [t] (by simp)]
 by_cases hd:16<(d.length:Int)
 ·rw [decide_eq_true hd]
  rfl
 rw [decide_eq_false hd]
 cases hs:[t].all fun x=>!decide (80<(x.length:Int)) with
 | false=>rfl
 | true =>
   have ht:t.length<=80:=by simp at hs; omega
   simp only [cond_false,d8l,d9m]
   obtain ⟨T,hT,hw⟩:=d3W d (by omega)
   obtain ⟨w,ew,hw⟩:=hw t (by omega) 200000000 (by omega)
   rw [ew]
   simp only [d8l]
   obtain ⟨c,ec,hc,hS⟩:=c4R (L:=t) (by omega) hT
   rw [ec]
   simp only [d8l]
   obtain ⟨k,hk,hq⟩:∃ k:Nat,k<3/\b3w (wr .i64 v) 3=some (k:Int):=by
    have:∀ a:Fin 256,∃ k:Fin 3,b3w (wr .i64 (a.val:Int)) 3=some (k.val:Int):=by decide +kernel
    obtain ⟨a,rfl⟩:=a86 hv.1
    obtain ⟨k,hk⟩:=this ⟨a,by omega⟩
    exact ⟨k.val,k.isLt,hk⟩
   rw [hq]
   simp only [d8l]
   obtain ⟨name,hn⟩:∃ name,([(⟨#[65]⟩:ByteArray),(⟨#[66]⟩:ByteArray),(⟨#[67]⟩:ByteArray)]:List ByteArray)[k]?=some name:=⟨_,d8n hk⟩
   rw [Z9 hn,d8M,hn]
   simp only [d8l]
   have hfil:∀ p:Api_Constraint->Bool,(c.filter p).length<=2:=fun p=>d8C (List.length_filter_le p c) hc
   obtain ⟨U,e1,g1,r1,k1,m1⟩:=d3y ((c.filter (a3z name)).map (·.Lower)) (by rw [d8L]; exact hfil _) (fun s hs=>by
    obtain ⟨e,he,rfl⟩:=d8T.1 hs
    exact (hS e (List.mem_filter.1 he).1).lo) 200000000 (by omega)
   obtain ⟨I,e2,g2,r2,k2,m2⟩:=c8C ((c.filter (a3t name)).map (·.Upper)) (by rw [d8L]; exact hfil _) (fun s hs=>by
    obtain ⟨e,he,rfl⟩:=d8T.1 hs
    exact (hS e (List.mem_filter.1 he).1).up) 200000000 (by omega)
   have hB:a8Q 200000000 c name=some (U,I):=by
    unfold a8Q
    rw [V0,c9H name c hc hS 200000000 (by omega)]
    simp only [d8l]
    rw [e1]
    simp only [d8l]
    rw [e2]
    rfl
   have hb:=hw.bulk
   rw [hB]
   simp only [d8l,V0]
   rw [d1g name c hS hc hw.ok (by omega) T 200000000 (d8r _)]
   simp only [d8l]
   rw [b2g g1 k1 hw.ok (by omega) 200000000 (d8r _),r1,m1 w hw.ok (by omega),b2g g2 k2 hw.ok (by omega) 200000000 (d8r _),r2,m2 w hw.ok (by omega)]
   simp only [d8l,beq_self_eq_true,cond_true]
end Go.Pl
end
section
namespace Go.Proofs
open Go.Shelf
set_option maxRecDepth 100000
def Tryz.lay51_ren:Go.Shelf.Ren:=⟨fun | 6=>51 | 15=>93 | 14=>92 | 28=>123 | 29=>124 | 20=>115 | 21=>116 | 22=>117 | 23=>118 | 24=>119 | 25=>120 | 26=>121 | 27=>122 | 46=>138 | 47=>139 | 48=>140 | 49=>141 | 50=>142 | 57=>154 | n=>n,fun | 22=>57 | 24=>56 | 25=>96 | 3=>3 | 39=>135 | 0=>0 | 53=>163 | 55=>165 | 4=>4 | 46=>157 | 45=>156 | 50=>109 | 5=>5 | 9=>9 | 66=>178 | 70=>182 | 76=>208 | 77=>209 | n=>n,fun | n=>n⟩
theorem Tryz.lay51:Go.Proofs.SlLaysF0.n6 Tryz.prog Tryz.lay51_ren:={
 mixed:=by kernel_rfl
 f6:=⟨Tryz.f51.name,by decide,Tryz.func51.trans (congrArg some (by kernel_rfl))⟩
 f14:=⟨Tryz.f92.name,by decide,Tryz.func92.trans (congrArg some (by kernel_rfl))⟩
 f15:=Tryz.func93.trans (congrArg some (by kernel_rfl))
 f20:=⟨Tryz.f115.name,by decide,Tryz.func115.trans (congrArg some (by kernel_rfl))⟩
 f21:=⟨Tryz.f116.name,by decide,Tryz.func116.trans (congrArg some (by kernel_rfl))⟩
 f22:=⟨Tryz.f117.name,by decide,Tryz.func117.trans (congrArg some (by kernel_rfl))⟩
 f23:=⟨Tryz.f118.name,by decide,Tryz.func118.trans (congrArg some (by kernel_rfl))⟩
 f24:=⟨Tryz.f119.name,by decide,Tryz.func119.trans (congrArg some (by kernel_rfl))⟩
 f25:=⟨Tryz.f120.name,by decide,Tryz.func120.trans (congrArg some (by kernel_rfl))⟩
 f26:=⟨Tryz.f121.name,by decide,Tryz.func121.trans (congrArg some (by kernel_rfl))⟩
 f27:=⟨Tryz.f122.name,by decide,Tryz.func122.trans (congrArg some (by kernel_rfl))⟩
 f28:=Tryz.func123.trans (congrArg some (by kernel_rfl))
 f29:=Tryz.func124.trans (congrArg some (by kernel_rfl))
 f46:=⟨Tryz.f138.name,by decide,Tryz.func138.trans (congrArg some (by kernel_rfl))⟩
 f47:=Tryz.func139.trans (congrArg some (by kernel_rfl))
 f48:=Tryz.func140.trans (congrArg some (by kernel_rfl))
 f49:=⟨Tryz.f141.name,by decide,Tryz.func141.trans (congrArg some (by kernel_rfl))⟩
 f50:=⟨Tryz.f142.name,by decide,Tryz.func142.trans (congrArg some (by kernel_rfl))⟩
 f57:=⟨Tryz.f154.name,by decide,Tryz.func154.trans (congrArg some (by kernel_rfl))⟩
 t0:=Tryz.underlying0
 a0:=Tryz.isAgg0
 z0:=Tryz.sizeOf0
 v0:=Tryz.zeroValue0
 t3:=Tryz.underlying3
 a3:=Tryz.isAgg3
 z3:=Tryz.sizeOf3
 v3:=Tryz.zeroValue3
 t4:=Tryz.underlying4
 a4:=Tryz.isAgg4
 z4:=Tryz.sizeOf4
 v4:=Tryz.zeroValue4
 t5:=Tryz.underlying5
 a5:=Tryz.isAgg5
 z5:=Tryz.sizeOf5
 v5:=Tryz.zeroValue5
 t9:=Tryz.underlying9
 a9:=Tryz.isAgg9
 z9:=Tryz.sizeOf9
 v9:=Tryz.zeroValue9
 t22:=Tryz.underlying57
 a22:=Tryz.isAgg57
 z22:=Tryz.sizeOf57
 v22:=Tryz.zeroValue57
 t25:=Tryz.underlying96
 a25:=Tryz.isAgg96
 z25:=Tryz.sizeOf96
 v25:=Tryz.zeroValue96
 t39:=Tryz.underlying135
 a39:=Tryz.isAgg135
 z39:=Tryz.sizeOf135
 v39:=Tryz.zeroValue135
 t45:=Tryz.underlying156
 a45:=Tryz.isAgg156
 z45:=Tryz.sizeOf156
 v45:=Tryz.zeroValue156
 t46:=Tryz.underlying157
 a46:=Tryz.isAgg157
 z46:=Tryz.sizeOf157
 v46:=Tryz.zeroValue157
 t50:=Tryz.underlying109
 a50:=Tryz.isAgg109
 z50:=Tryz.sizeOf109
 v50:=Tryz.zeroValue109
 t53:=Tryz.underlying163
 a53:=Tryz.isAgg163
 z53:=Tryz.sizeOf163
 v53:=Tryz.zeroValue163
 t55:=Tryz.underlying165
 a55:=Tryz.isAgg165
 z55:=Tryz.sizeOf165
 v55:=Tryz.zeroValue165
 t66:=Tryz.underlying178
 a66:=Tryz.isAgg178
 z66:=Tryz.sizeOf178
 v66:=Tryz.zeroValue178
 t70:=Tryz.underlying182
 a70:=Tryz.isAgg182
 z70:=Tryz.sizeOf182
 v70:=Tryz.zeroValue182
 t76:=Tryz.underlying208
 a76:=Tryz.isAgg208
 z76:=Tryz.sizeOf208
 v76:=Tryz.zeroValue208
 t77:=Tryz.underlying209
 a77:=Tryz.isAgg209
 z77:=Tryz.sizeOf209
 v77:=Tryz.zeroValue209 }
def Tryz.lay287_ren:Go.Shelf.Ren:=⟨fun | 6=>287 | 15=>93 | 14=>298 | 28=>123 | 29=>124 | 20=>299 | 21=>300 | 22=>301 | 23=>302 | 24=>303 | 25=>304 | 26=>305 | 27=>306 | 46=>307 | 47=>139 | 48=>140 | 49=>308 | 50=>309 | 57=>310 | n=>n,fun | 22=>39 | 24=>126 | 25=>130 | 3=>3 | 39=>135 | 0=>0 | 53=>163 | 55=>165 | 4=>4 | 46=>157 | 45=>156 | 50=>109 | 5=>5 | 9=>9 | 66=>178 | 70=>182 | 76=>208 | 77=>209 | n=>n,fun | n=>n⟩
theorem Tryz.lay287:Go.Proofs.SlLaysF0.n6 Tryz.prog Tryz.lay287_ren:={
 mixed:=by kernel_rfl
 f6:=⟨Tryz.f287.name,by decide,Tryz.func287.trans (congrArg some (by kernel_rfl))⟩
 f14:=⟨Tryz.f298.name,by decide,Tryz.func298.trans (congrArg some (by kernel_rfl))⟩
 f15:=Tryz.func93.trans (congrArg some (by kernel_rfl))
 f20:=⟨Tryz.f299.name,by decide,Tryz.func299.trans (congrArg some (by kernel_rfl))⟩
 f21:=⟨Tryz.f300.name,by decide,Tryz.func300.trans (congrArg some (by kernel_rfl))⟩
 f22:=⟨Tryz.f301.name,by decide,Tryz.func301.trans (congrArg some (by kernel_rfl))⟩
 f23:=⟨Tryz.f302.name,by decide,Tryz.func302.trans (congrArg some (by kernel_rfl))⟩
 f24:=⟨Tryz.f303.name,by decide,Tryz.func303.trans (congrArg some (by kernel_rfl))⟩
 f25:=⟨Tryz.f304.name,by decide,Tryz.func304.trans (congrArg some (by kernel_rfl))⟩
 f26:=⟨Tryz.f305.name,by decide,Tryz.func305.trans (congrArg some (by kernel_rfl))⟩
 f27:=⟨Tryz.f306.name,by decide,Tryz.func306.trans (congrArg some (by kernel_rfl))⟩
 f28:=Tryz.func123.trans (congrArg some (by kernel_rfl))
 f29:=Tryz.func124.trans (congrArg some (by kernel_rfl))
 f46:=⟨Tryz.f307.name,by decide,Tryz.func307.trans (congrArg some (by kernel_rfl))⟩
 f47:=Tryz.func139.trans (congrArg some (by kernel_rfl))
 f48:=Tryz.func140.trans (congrArg some (by kernel_rfl))
 f49:=⟨Tryz.f308.name,by decide,Tryz.func308.trans (congrArg some (by kernel_rfl))⟩
 f50:=⟨Tryz.f309.name,by decide,Tryz.func309.trans (congrArg some (by kernel_rfl))⟩
 f57:=⟨Tryz.f310.name,by decide,Tryz.func310.trans (congrArg some (by kernel_rfl))⟩
 t0:=Tryz.underlying0
 a0:=Tryz.isAgg0
 z0:=Tryz.sizeOf0
 v0:=Tryz.zeroValue0
 t3:=Tryz.underlying3
 a3:=Tryz.isAgg3
 z3:=Tryz.sizeOf3
 v3:=Tryz.zeroValue3
 t4:=Tryz.underlying4
 a4:=Tryz.isAgg4
 z4:=Tryz.sizeOf4
 v4:=Tryz.zeroValue4
 t5:=Tryz.underlying5
 a5:=Tryz.isAgg5
 z5:=Tryz.sizeOf5
 v5:=Tryz.zeroValue5
 t9:=Tryz.underlying9
 a9:=Tryz.isAgg9
 z9:=Tryz.sizeOf9
 v9:=Tryz.zeroValue9
 t22:=Tryz.underlying39
 a22:=Tryz.isAgg39
 z22:=Tryz.sizeOf39
 v22:=Tryz.zeroValue39
 t25:=Tryz.underlying130
 a25:=Tryz.isAgg130
 z25:=Tryz.sizeOf130
 v25:=Tryz.zeroValue130
 t39:=Tryz.underlying135
 a39:=Tryz.isAgg135
 z39:=Tryz.sizeOf135
 v39:=Tryz.zeroValue135
 t45:=Tryz.underlying156
 a45:=Tryz.isAgg156
 z45:=Tryz.sizeOf156
 v45:=Tryz.zeroValue156
 t46:=Tryz.underlying157
 a46:=Tryz.isAgg157
 z46:=Tryz.sizeOf157
 v46:=Tryz.zeroValue157
 t50:=Tryz.underlying109
 a50:=Tryz.isAgg109
 z50:=Tryz.sizeOf109
 v50:=Tryz.zeroValue109
 t53:=Tryz.underlying163
 a53:=Tryz.isAgg163
 z53:=Tryz.sizeOf163
 v53:=Tryz.zeroValue163
 t55:=Tryz.underlying165
 a55:=Tryz.isAgg165
 z55:=Tryz.sizeOf165
 v55:=Tryz.zeroValue165
 t66:=Tryz.underlying178
 a66:=Tryz.isAgg178
 z66:=Tryz.sizeOf178
 v66:=Tryz.zeroValue178
 t70:=Tryz.underlying182
 a70:=Tryz.isAgg182
 z70:=Tryz.sizeOf182
 v70:=Tryz.zeroValue182
 t76:=Tryz.underlying208
 a76:=Tryz.isAgg208
 z76:=Tryz.sizeOf208
 v76:=Tryz.zeroValue208
 t77:=Tryz.underlying209
 a77:=Tryz.isAgg209
 z77:=Tryz.sizeOf209
 v77:=Tryz.zeroValue209 }
def Tryz.lay149_ren:Go.Shelf.Ren:=⟨fun | 171=>149 | 243=>166 | 246=>186 | 283=>210 | 284=>211 | 285=>212 | 286=>213 | 129=>124 | 317=>246 | 318=>247 | 319=>248 | 320=>249 | 337=>276 | 338=>277 | n=>n,fun | 3=>3 | 9=>9 | 2=>2 | 4=>4 | 171=>275 | 0=>0 | 53=>165 | 37=>198 | 5=>5 | 173=>277 | 212=>311 | 51=>163 | 20=>20 | 213=>312 | 46=>135 | 232=>353 | 233=>354 | n=>n,fun | 17=>1 | 18=>2 | 19=>3 | n=>n⟩
theorem Tryz.lay149:Go.Proofs.Lays.n171 Tryz.prog Tryz.lay149_ren:={
 mixed:=by kernel_rfl
 f129:=Tryz.func124.trans (congrArg some (by kernel_rfl))
 f171:=Tryz.func149.trans (congrArg some (by kernel_rfl))
 f243:=Tryz.func166.trans (congrArg some (by kernel_rfl))
 f246:=Tryz.func186.trans (congrArg some (by kernel_rfl))
 f283:=Tryz.func210.trans (congrArg some (by kernel_rfl))
 f284:=Tryz.func211.trans (congrArg some (by kernel_rfl))
 f285:=Tryz.func212.trans (congrArg some (by kernel_rfl))
 f286:=Tryz.func213.trans (congrArg some (by kernel_rfl))
 f317:=Tryz.func246.trans (congrArg some (by kernel_rfl))
 f318:=Tryz.func247.trans (congrArg some (by kernel_rfl))
 f319:=Tryz.func248.trans (congrArg some (by kernel_rfl))
 f320:=Tryz.func249.trans (congrArg some (by kernel_rfl))
 f337:=Tryz.func276.trans (congrArg some (by kernel_rfl))
 f338:=Tryz.func277.trans (congrArg some (by kernel_rfl))
 t0:=Tryz.underlying0
 a0:=Tryz.isAgg0
 z0:=Tryz.sizeOf0
 v0:=Tryz.zeroValue0
 t2:=Tryz.underlying2
 a2:=Tryz.isAgg2
 z2:=Tryz.sizeOf2
 v2:=Tryz.zeroValue2
 t3:=Tryz.underlying3
 a3:=Tryz.isAgg3
 z3:=Tryz.sizeOf3
 v3:=Tryz.zeroValue3
 t4:=Tryz.underlying4
 a4:=Tryz.isAgg4
 z4:=Tryz.sizeOf4
 v4:=Tryz.zeroValue4
 t5:=Tryz.underlying5
 a5:=Tryz.isAgg5
 z5:=Tryz.sizeOf5
 v5:=Tryz.zeroValue5
 t9:=Tryz.underlying9
 a9:=Tryz.isAgg9
 z9:=Tryz.sizeOf9
 v9:=Tryz.zeroValue9
 t20:=Tryz.underlying20
 a20:=Tryz.isAgg20
 z20:=Tryz.sizeOf20
 v20:=Tryz.zeroValue20
 t37:=Tryz.underlying198
 a37:=Tryz.isAgg198
 z37:=Tryz.sizeOf198
 v37:=Tryz.zeroValue198
 t46:=Tryz.underlying135
 a46:=Tryz.isAgg135
 z46:=Tryz.sizeOf135
 v46:=Tryz.zeroValue135
 t51:=Tryz.underlying163
 a51:=Tryz.isAgg163
 z51:=Tryz.sizeOf163
 v51:=Tryz.zeroValue163
 t53:=Tryz.underlying165
 a53:=Tryz.isAgg165
 z53:=Tryz.sizeOf165
 v53:=Tryz.zeroValue165
 t171:=Tryz.underlying275
 a171:=Tryz.isAgg275
 z171:=Tryz.sizeOf275
 v171:=Tryz.zeroValue275
 t173:=Tryz.underlying277
 a173:=Tryz.isAgg277
 z173:=Tryz.sizeOf277
 v173:=Tryz.zeroValue277
 t212:=Tryz.underlying311
 a212:=Tryz.isAgg311
 z212:=Tryz.sizeOf311
 v212:=Tryz.zeroValue311
 t213:=Tryz.underlying312
 a213:=Tryz.isAgg312
 z213:=Tryz.sizeOf312
 t232:=Tryz.underlying353
 a232:=Tryz.isAgg353
 z232:=Tryz.sizeOf353
 v232:=Tryz.zeroValue353
 t233:=Tryz.underlying354
 a233:=Tryz.isAgg354
 z233:=Tryz.sizeOf354
 v233:=Tryz.zeroValue354
 g17:=by kernel_rfl
 g18:=by kernel_rfl
 g19:=by kernel_rfl }
def Tryz.lay182_ren:Go.Shelf.Ren:=⟨fun | 189=>182 | 125=>93 | 257=>209 | 128=>123 | 129=>124 | 294=>237 | 295=>238 | 296=>239 | 297=>240 | 298=>241 | 299=>242 | 216=>243 | 300=>244 | 301=>245 | 328=>273 | 329=>139 | 330=>140 | 331=>274 | 332=>275 | 215=>167 | 343=>294 | n=>n,fun | 28=>36 | 3=>3 | 46=>135 | 0=>0 | 51=>163 | 53=>165 | 4=>4 | 183=>157 | 182=>156 | 131=>109 | 5=>5 | 9=>9 | 218=>178 | 222=>182 | 228=>208 | 229=>209 | n=>n,fun | n=>n⟩
theorem Tryz.lay182:Go.Proofs.Lays.n189 Tryz.prog Tryz.lay182_ren:={
 mixed:=by kernel_rfl
 f125:=Tryz.func93.trans (congrArg some (by kernel_rfl))
 f128:=Tryz.func123.trans (congrArg some (by kernel_rfl))
 f129:=Tryz.func124.trans (congrArg some (by kernel_rfl))
 f189:=Tryz.func182.trans (congrArg some (by kernel_rfl))
 f215:=Tryz.func167.trans (congrArg some (by kernel_rfl))
 f216:=Tryz.func243.trans (congrArg some (by kernel_rfl))
 f257:=Tryz.func209.trans (congrArg some (by kernel_rfl))
 f294:=Tryz.func237.trans (congrArg some (by kernel_rfl))
 f295:=Tryz.func238.trans (congrArg some (by kernel_rfl))
 f296:=Tryz.func239.trans (congrArg some (by kernel_rfl))
 f297:=Tryz.func240.trans (congrArg some (by kernel_rfl))
 f298:=Tryz.func241.trans (congrArg some (by kernel_rfl))
 f299:=Tryz.func242.trans (congrArg some (by kernel_rfl))
 f300:=Tryz.func244.trans (congrArg some (by kernel_rfl))
 f301:=Tryz.func245.trans (congrArg some (by kernel_rfl))
 f328:=Tryz.func273.trans (congrArg some (by kernel_rfl))
 f329:=Tryz.func139.trans (congrArg some (by kernel_rfl))
 f330:=Tryz.func140.trans (congrArg some (by kernel_rfl))
 f331:=Tryz.func274.trans (congrArg some (by kernel_rfl))
 f332:=Tryz.func275.trans (congrArg some (by kernel_rfl))
 f343:=Tryz.func294.trans (congrArg some (by kernel_rfl))
 t0:=Tryz.underlying0
 a0:=Tryz.isAgg0
 z0:=Tryz.sizeOf0
 v0:=Tryz.zeroValue0
 t3:=Tryz.underlying3
 a3:=Tryz.isAgg3
 z3:=Tryz.sizeOf3
 v3:=Tryz.zeroValue3
 t4:=Tryz.underlying4
 a4:=Tryz.isAgg4
 z4:=Tryz.sizeOf4
 v4:=Tryz.zeroValue4
 t5:=Tryz.underlying5
 a5:=Tryz.isAgg5
 z5:=Tryz.sizeOf5
 v5:=Tryz.zeroValue5
 t9:=Tryz.underlying9
 a9:=Tryz.isAgg9
 z9:=Tryz.sizeOf9
 v9:=Tryz.zeroValue9
 t28:=Tryz.underlying36
 a28:=Tryz.isAgg36
 z28:=Tryz.sizeOf36
 v28:=Tryz.zeroValue36
 t46:=Tryz.underlying135
 a46:=Tryz.isAgg135
 z46:=Tryz.sizeOf135
 v46:=Tryz.zeroValue135
 t51:=Tryz.underlying163
 a51:=Tryz.isAgg163
 z51:=Tryz.sizeOf163
 v51:=Tryz.zeroValue163
 t53:=Tryz.underlying165
 a53:=Tryz.isAgg165
 z53:=Tryz.sizeOf165
 v53:=Tryz.zeroValue165
 t131:=Tryz.underlying109
 a131:=Tryz.isAgg109
 z131:=Tryz.sizeOf109
 v131:=Tryz.zeroValue109
 t182:=Tryz.underlying156
 a182:=Tryz.isAgg156
 z182:=Tryz.sizeOf156
 v182:=Tryz.zeroValue156
 t183:=Tryz.underlying157
 a183:=Tryz.isAgg157
 z183:=Tryz.sizeOf157
 v183:=Tryz.zeroValue157
 t218:=Tryz.underlying178
 a218:=Tryz.isAgg178
 z218:=Tryz.sizeOf178
 v218:=Tryz.zeroValue178
 t222:=Tryz.underlying182
 a222:=Tryz.isAgg182
 z222:=Tryz.sizeOf182
 v222:=Tryz.zeroValue182
 t228:=Tryz.underlying208
 a228:=Tryz.isAgg208
 z228:=Tryz.sizeOf208
 v228:=Tryz.zeroValue208
 t229:=Tryz.underlying209
 a229:=Tryz.isAgg209
 z229:=Tryz.sizeOf209
 v229:=Tryz.zeroValue209 }
def Tryz.lay190_ren:Go.Shelf.Ren:=⟨fun | 190=>190 | 125=>93 | 258=>215 | 128=>123 | 129=>124 | 302=>250 | 303=>251 | 304=>252 | 305=>253 | 306=>254 | 307=>255 | 308=>256 | 309=>257 | 310=>258 | 333=>278 | 329=>139 | 330=>140 | 334=>279 | 335=>280 | 336=>281 | 344=>295 | n=>n,fun | 31=>22 | 9=>9 | 3=>3 | 46=>135 | 0=>0 | 51=>163 | 53=>165 | 4=>4 | 183=>157 | 182=>156 | 131=>109 | 5=>5 | 218=>178 | 222=>182 | 228=>208 | 229=>209 | n=>n,fun | n=>n⟩
theorem Tryz.lay190:Go.Proofs.Lays.n190 Tryz.prog Tryz.lay190_ren:={
 mixed:=by kernel_rfl
 f125:=Tryz.func93.trans (congrArg some (by kernel_rfl))
 f128:=Tryz.func123.trans (congrArg some (by kernel_rfl))
 f129:=Tryz.func124.trans (congrArg some (by kernel_rfl))
 f190:=Tryz.func190.trans (congrArg some (by kernel_rfl))
 f258:=Tryz.func215.trans (congrArg some (by kernel_rfl))
 f302:=Tryz.func250.trans (congrArg some (by kernel_rfl))
 f303:=Tryz.func251.trans (congrArg some (by kernel_rfl))
 f304:=Tryz.func252.trans (congrArg some (by kernel_rfl))
 f305:=Tryz.func253.trans (congrArg some (by kernel_rfl))
 f306:=Tryz.func254.trans (congrArg some (by kernel_rfl))
 f307:=Tryz.func255.trans (congrArg some (by kernel_rfl))
 f308:=Tryz.func256.trans (congrArg some (by kernel_rfl))
 f309:=Tryz.func257.trans (congrArg some (by kernel_rfl))
 f310:=Tryz.func258.trans (congrArg some (by kernel_rfl))
 f329:=Tryz.func139.trans (congrArg some (by kernel_rfl))
 f330:=Tryz.func140.trans (congrArg some (by kernel_rfl))
 f333:=Tryz.func278.trans (congrArg some (by kernel_rfl))
 f334:=Tryz.func279.trans (congrArg some (by kernel_rfl))
 f335:=Tryz.func280.trans (congrArg some (by kernel_rfl))
 f336:=Tryz.func281.trans (congrArg some (by kernel_rfl))
 f344:=Tryz.func295.trans (congrArg some (by kernel_rfl))
 t0:=Tryz.underlying0
 a0:=Tryz.isAgg0
 z0:=Tryz.sizeOf0
 v0:=Tryz.zeroValue0
 t3:=Tryz.underlying3
 a3:=Tryz.isAgg3
 z3:=Tryz.sizeOf3
 v3:=Tryz.zeroValue3
 t4:=Tryz.underlying4
 a4:=Tryz.isAgg4
 z4:=Tryz.sizeOf4
 v4:=Tryz.zeroValue4
 t5:=Tryz.underlying5
 a5:=Tryz.isAgg5
 z5:=Tryz.sizeOf5
 v5:=Tryz.zeroValue5
 t9:=Tryz.underlying9
 a9:=Tryz.isAgg9
 z9:=Tryz.sizeOf9
 v9:=Tryz.zeroValue9
 t31:=Tryz.underlying22
 a31:=Tryz.isAgg22
 z31:=Tryz.sizeOf22
 v31:=Tryz.zeroValue22
 t46:=Tryz.underlying135
 a46:=Tryz.isAgg135
 z46:=Tryz.sizeOf135
 v46:=Tryz.zeroValue135
 t51:=Tryz.underlying163
 a51:=Tryz.isAgg163
 z51:=Tryz.sizeOf163
 v51:=Tryz.zeroValue163
 t53:=Tryz.underlying165
 a53:=Tryz.isAgg165
 z53:=Tryz.sizeOf165
 v53:=Tryz.zeroValue165
 t131:=Tryz.underlying109
 a131:=Tryz.isAgg109
 z131:=Tryz.sizeOf109
 v131:=Tryz.zeroValue109
 t182:=Tryz.underlying156
 a182:=Tryz.isAgg156
 z182:=Tryz.sizeOf156
 v182:=Tryz.zeroValue156
 t183:=Tryz.underlying157
 a183:=Tryz.isAgg157
 z183:=Tryz.sizeOf157
 v183:=Tryz.zeroValue157
 t218:=Tryz.underlying178
 a218:=Tryz.isAgg178
 z218:=Tryz.sizeOf178
 v218:=Tryz.zeroValue178
 t222:=Tryz.underlying182
 a222:=Tryz.isAgg182
 z222:=Tryz.sizeOf182
 v222:=Tryz.zeroValue182
 t228:=Tryz.underlying208
 a228:=Tryz.isAgg208
 z228:=Tryz.sizeOf208
 v228:=Tryz.zeroValue208
 t229:=Tryz.underlying209
 a229:=Tryz.isAgg209
 z229:=Tryz.sizeOf209
 v229:=Tryz.zeroValue209 }
end Go.Proofs
end
section
open Go.Proofs.Tryz renaming prog->d8m
open Nat renaming ble->d89,zero_le->d8w
namespace Go.Qx
open Go Go.RowKit Go.Sx
set_option maxRecDepth 100000
abbrev b2Q (v:Api_Field):Key×Int×Bool:=(v.Key_,v.Node,v.Optional)
abbrev b9W (x:Key×Int×Bool):Api_Field:=⟨x.1,x.2.1,x.2.2⟩
@[reducible] def a1f:Rp Api_Field:=a2a b2Q (Y2 (rpKey) (Y2 (rpK .i64) (rpBool)))
abbrev a9t (v:Api_TypeNode):Int×Int×Int×ByteArray×(List Int)×(List Api_Field)×(Int×Int):=(v.Kind,v.Lo,v.Hi,v.Text,v.Kids,v.Fields,v.Rest)
abbrev b4r (x:Int×Int×Int×ByteArray×(List Int)×(List Api_Field)×(Int×Int)):Api_TypeNode:=⟨x.1,x.2.1,x.2.2.1,x.2.2.2.1,x.2.2.2.2.1,x.2.2.2.2.2.1,x.2.2.2.2.2.2⟩
@[reducible] def a0b:Rp Api_TypeNode:=a2a a9t (Y2 (rpK .i64) (Y2 (rpK .i64) (Y2 (rpK .i64) (Y2 (rpStr) (Y2 (@rpList _ (rpK .i64)) (Y2 (@rpList _ (a1f)) (Y2 (rpK .i64) (rpK .i64))))))))
abbrev b4Y (v:Api_Type):(List Api_TypeNode)×Int:=(v.Nodes,v.Root)
abbrev c2d (x:(List Api_TypeNode)×Int):Api_Type:=⟨x.1,x.2⟩
@[reducible] def a0j:Rp Api_Type:=a2a b4Y (Y2 (@rpList _ (a0b)) (rpK .i64))
abbrev a7y (v:Api_Constraint):Api_Type×Api_Type:=(v.Lower,v.Upper)
abbrev b1F (x:Api_Type×Api_Type):Api_Constraint:=⟨x.1,x.2⟩
@[reducible] def a2q:Rp Api_Constraint:=a2a a7y (Y2 (a0j) (a0j))
abbrev b3G (v:Api_Range):Int×Int:=(v.Lo,v.Hi)
abbrev b9S (x:Int×Int):Api_Range:=⟨x.1,x.2⟩
@[reducible] def a1g:Rp Api_Range:=a2a b3G (Y2 (rpK .i64) (rpK .i64))
abbrev a9L (v:Api_Binding):ByteArray×Api_Type:=(v.Name,v.Type_)
abbrev b6j (x:ByteArray×Api_Type):Api_Binding:=⟨x.1,x.2⟩
@[reducible] def a3W:Rp Api_Binding:=a2a a9L (Y2 (rpStr) (a0j))
abbrev a5n (v:Semtypebase_Source):(List Int)×Int:=(v.L,v.At)
abbrev a8v (x:(List Int)×Int):Semtypebase_Source:=⟨x.1,x.2⟩
@[reducible] def a06:Rp Semtypebase_Source:=a2a a5n (Y2 (@rpList _ (rpK .i64)) (rpK .i64))
abbrev b4N (v:Api_Goal):(List Int)×(List Int)×Bool:=(v.Pos,v.Neg,v.Lists)
abbrev c11 (x:(List Int)×(List Int)×Bool):Api_Goal:=⟨x.1,x.2.1,x.2.2⟩
@[reducible] def v6:Rp Api_Goal:=a2a b4N (Y2 (@rpList _ (rpK .i64)) (Y2 (@rpList _ (rpK .i64)) (rpBool)))
abbrev b5g (v:Api_Form):(List Int)×Bool×Int:=(v.Args,v.Fails,v.Result)
abbrev c2c (x:(List Int)×Bool×Int):Api_Form:=⟨x.1,x.2.1,x.2.2⟩
@[reducible] def a1G:Rp Api_Form:=a2a b5g (Y2 (@rpList _ (rpK .i64)) (Y2 (rpBool) (rpK .i64)))
abbrev a7a (v:Api_Alternative):Val×(List Key)×(List Api_Form)×(List Api_Goal):=(v.Leaf,v.Keys,v.Forms,v.Subgoals)
abbrev b0G (x:Val×(List Key)×(List Api_Form)×(List Api_Goal)):Api_Alternative:=⟨x.1,x.2.1,x.2.2.1,x.2.2.2⟩
@[reducible] def a0g:Rp Api_Alternative:=a2a a7a (Y2 (rpVal) (Y2 (@rpList _ (rpKey)) (Y2 (@rpList _ (a1G)) (@rpList _ (v6)))))
abbrev a8l (v:Api_EntryForm):(List Api_Goal)×Bool×Api_Goal:=(v.Args,v.Fails,v.Result)
abbrev b2z (x:(List Api_Goal)×Bool×Api_Goal):Api_EntryForm:=⟨x.1,x.2.1,x.2.2⟩
@[reducible] def V5:Rp Api_EntryForm:=a2a a8l (Y2 (@rpList _ (v6)) (Y2 (rpBool) (v6)))
abbrev b2T (v:Solve_Way):Api_Alternative×(List (List Api_EntryForm)):=(v.Alternative,v.Entries)
abbrev b9V (x:Api_Alternative×(List (List Api_EntryForm))):Solve_Way:=⟨x.1,x.2⟩
@[reducible] def a5f:Rp Solve_Way:=a2a b2T (Y2 (a0g) (@rpList _ (@rpList _ (V5))))
abbrev b3y (v:Api_Names):Bool×(List ByteArray):=(v.Cofinite,v.List_)
abbrev b9H (x:Bool×(List ByteArray)):Api_Names:=⟨x.1,x.2⟩
@[reducible] def a0P:Rp Api_Names:=a2a b3y (Y2 (rpBool) (@rpList _ (rpStr)))
abbrev b4Q (v:Api_Line):Int×Int×(List Api_Range)×Api_Names×(List Int)×(List Int)×(List ByteArray)×(List ByteArray):=(v.Kind,v.Arity,v.Ints,v.Names,v.Pos,v.Neg,v.Vars,v.NotVars)
abbrev c17 (x:Int×Int×(List Api_Range)×Api_Names×(List Int)×(List Int)×(List ByteArray)×(List ByteArray)):Api_Line:=⟨x.1,x.2.1,x.2.2.1,x.2.2.2.1,x.2.2.2.2.1,x.2.2.2.2.2.1,x.2.2.2.2.2.2.1,x.2.2.2.2.2.2.2⟩
@[reducible] def a6q:Rp Api_Line:=a2a b4Q (Y2 (rpK .i64) (Y2 (rpK .i64) (Y2 (@rpList _ (a1g)) (Y2 (a0P) (Y2 (@rpList _ (rpK .i64)) (Y2 (@rpList _ (rpK .i64)) (Y2 (@rpList _ (rpStr)) (@rpList _ (rpStr)))))))))
abbrev b2F (v:Core_Sort):Int×Int:=(v.Kind,v.Arity)
abbrev c0o (x:Int×Int):Core_Sort:=⟨x.1,x.2⟩
@[reducible] def a5l:Rp Core_Sort:=a2a b2F (Y2 (rpK .i64) (rpK .i64))
abbrev b2X (v:Core_pair):(List Int)×(List Int)×(List Int)×(List Int):=(v.pos,v.neg,v.finalPos,v.finalNeg)
abbrev c0b (x:(List Int)×(List Int)×(List Int)×(List Int)):Core_pair:=⟨x.1,x.2.1,x.2.2.1,x.2.2.2⟩
@[reducible] def a5g:Rp Core_pair:=a2a b2X (Y2 (@rpList _ (rpK .i64)) (Y2 (@rpList _ (rpK .i64)) (Y2 (@rpList _ (rpK .i64)) (@rpList _ (rpK .i64)))))
abbrev a3O (v:Api_Box):(List Api_Goal):=v.Parts
abbrev d01 (x:(List Api_Goal)):Api_Box:=⟨x⟩
@[reducible] def b8k:Rp Api_Box:=a2a a3O (@rpList _ (v6))
abbrev b0b (v:Api_SomeKey):Int×Api_Goal:=(v.Kind,v.Goal)
abbrev b5W (x:Int×Api_Goal):Api_SomeKey:=⟨x.1,x.2⟩
@[reducible] def a0y:Rp Api_SomeKey:=a2a b0b (Y2 (rpK .i64) (v6))
abbrev b2s (v:Api_Shape):(List Key)×(List Int)×(List Api_Goal)×(Api_Goal×Api_Goal)×(List Api_SomeKey):=(v.Keys,v.States,v.Parts,v.Rest,v.Some)
abbrev b9T (x:(List Key)×(List Int)×(List Api_Goal)×(Api_Goal×Api_Goal)×(List Api_SomeKey)):Api_Shape:=⟨x.1,x.2.1,x.2.2.1,x.2.2.2.1,x.2.2.2.2⟩
@[reducible] def a5c:Rp Api_Shape:=a2a b2s (Y2 (@rpList _ (rpKey)) (Y2 (@rpList _ (rpK .i64)) (Y2 (@rpList _ (v6)) (Y2 (Y2 (v6) (v6)) (@rpList _ (a0y))))))
abbrev a60 (v:Literals_normal):Api_Names:=v.Names
abbrev b0Z (x:Api_Names):Literals_normal:=⟨x⟩
@[reducible] def a10:Rp Literals_normal:=a2a a60 (a0P)
abbrev a8L (v:Record_place):Int×Bool×Int:=(v.key,v.absent,v.kind)
abbrev b4M (x:Int×Bool×Int):Record_place:=⟨x.1,x.2.1,x.2.2⟩
@[reducible] def a3b:Rp Record_place:=a2a a8L (Y2 (rpK .i64) (Y2 (rpBool) (rpK .i64)))
def tyL:List TE:=[⟨2,Int,rpK .i64⟩,
 ⟨3,Int,rpK .i64⟩,
 ⟨4,Bool,rpBool⟩,
 ⟨5,Int,rpK .u8⟩,
 ⟨9,ByteArray,rpStr⟩,
 ⟨22,List ByteArray,@rpList _ (rpStr)⟩,
 ⟨25,List Api_TypeNode,@rpList _ (a0b)⟩,
 ⟨27,Api_Type,a0j⟩,
 ⟨36,List Int,@rpList _ (rpK .i64)⟩,
 ⟨38,List Val,@rpList _ (rpVal)⟩,
 ⟨39,List Key,@rpList _ (rpKey)⟩,
 ⟨40,List Ent,@rpList _ (rpEnt)⟩,
 ⟨42,Val,rpVal⟩,
 ⟨51,Api_Constraint,a2q⟩,
 ⟨56,Api_Range,a1g⟩,
 ⟨57,List Api_Range,@rpList _ (a1g)⟩,
 ⟨61,Api_Binding,a3W⟩,
 ⟨64,List Api_Field,@rpList _ (a1f)⟩,
 ⟨65,Int×Int,Y2 (rpK .i64) (rpK .i64)⟩,
 ⟨67,Api_TypeNode,a0b⟩,
 ⟨72,Semtypebase_Source,a06⟩,
 ⟨100,Api_Goal,v6⟩,
 ⟨120,Ent,rpEnt⟩,
 ⟨126,Key,rpKey⟩,
 ⟨128,Api_Field,a1f⟩,
 ⟨184,List Api_Goal,@rpList _ (v6)⟩,
 ⟨188,List Api_Form,@rpList _ (a1G)⟩,
 ⟨190,Api_Alternative,a0g⟩,
 ⟨191,List (List Api_EntryForm),@rpList _ (@rpList _ (V5))⟩,
 ⟨193,Solve_Way,a5f⟩,
 ⟨214,Api_Names,a0P⟩,
 ⟨216,Api_Line,a6q⟩,
 ⟨219,List Api_EntryForm,@rpList _ (V5)⟩,
 ⟨224,Api_EntryForm,V5⟩,
 ⟨237,Core_Sort,a5l⟩,
 ⟨252,Core_pair,a5g⟩,
 ⟨273,Api_Box,b8k⟩,
 ⟨296,Api_Goal×Api_Goal,Y2 (v6) (v6)⟩,
 ⟨297,List Api_SomeKey,@rpList _ (a0y)⟩,
 ⟨299,Api_Shape,a5c⟩,
 ⟨302,Api_SomeKey,a0y⟩,
 ⟨320,Literals_normal,a10⟩,
 ⟨336,Record_place,a3b⟩,
 ⟨338,Api_Form,a1G⟩]
abbrev I (E:TypeId):Type:=(a82 tyL E).α
instance rI (E:TypeId):Rp (I E):=(a82 tyL E).rp
def b0s:Fd I (I 27) inferInstance:=(V1 (rg:=a0j) (k7 (Y6 67:Fd I (List Api_TypeNode) (@rpList _ (a0b))) ((K7 .i64:Fd I Int (rpK .i64)))) b4Y c2d (fun _=>rfl) (fun _ _ _=>Iff.rfl):Fd I Api_Type a0j)
def c8k:Fd I (I 42) inferInstance:=(V1 (rg:=rpVal) (k7 (K7 .i64:Fd I Int (rpK .i64)) (k7 (K7 .i64:Fd I Int (rpK .i64)) (k7 (b0r:Fd I ByteArray (rpStr)) (k7 (Y6 42:Fd I (List Val) (@rpList _ (rpVal))) (k7 (Y6 126:Fd I (List Key) (@rpList _ (rpKey))) (k7 (Y6 120:Fd I (List Ent) (@rpList _ (rpEnt))) ((Y6 9:Fd I (List ByteArray) (@rpList _ (rpStr)))))))))) Val.to Val.of (fun _=>rfl) Val.cells_to:Fd I Val rpVal)
def c1G:Fd I (I 51) inferInstance:=(V1 (rg:=a2q) (k7 (a0T 27 b0s:Fd I Api_Type (a0j)) ((a0T 27 b0s:Fd I Api_Type (a0j)))) a7y b1F (fun _=>rfl) (fun _ _ _=>Iff.rfl):Fd I Api_Constraint a2q)
def c7S:Fd I (I 56) inferInstance:=(V1 (rg:=a1g) (k7 (K7 .i64:Fd I Int (rpK .i64)) ((K7 .i64:Fd I Int (rpK .i64)))) b3G b9S (fun _=>rfl) (fun _ _ _=>Iff.rfl):Fd I Api_Range a1g)
def c5E:Fd I (I 61) inferInstance:=(V1 (rg:=a3W) (k7 (b0r:Fd I ByteArray (rpStr)) ((a0T 27 b0s:Fd I Api_Type (a0j)))) a9L b6j (fun _=>rfl) (fun _ _ _=>Iff.rfl):Fd I Api_Binding a3W)
def d2S:Fd I (I 65) inferInstance:=(k7 (K7 .i64:Fd I Int (rpK .i64)) ((K7 .i64:Fd I Int (rpK .i64))):Fd I (Int×Int) (Y2 (rpK .i64) (rpK .i64)))
def c4D:Fd I (I 67) inferInstance:=(V1 (rg:=a0b) (k7 (K7 .i64:Fd I Int (rpK .i64)) (k7 (K7 .i64:Fd I Int (rpK .i64)) (k7 (K7 .i64:Fd I Int (rpK .i64)) (k7 (b0r:Fd I ByteArray (rpStr)) (k7 (Y6 3:Fd I (List Int) (@rpList _ (rpK .i64))) (k7 (Y6 128:Fd I (List Api_Field) (@rpList _ (a1f))) ((a0T 65 d2S:Fd I (Int×Int) (Y2 (rpK .i64) (rpK .i64)))))))))) a9t b4r (fun _=>rfl) (fun _ _ _=>Iff.rfl):Fd I Api_TypeNode a0b)
def b6y:Fd I (I 72) inferInstance:=(V1 (rg:=a06) (k7 (Y6 3:Fd I (List Int) (@rpList _ (rpK .i64))) ((K7 .i64:Fd I Int (rpK .i64)))) a5n a8v (fun _=>rfl) (fun _ _ _=>Iff.rfl):Fd I Semtypebase_Source a06)
def a7X:Fd I (I 100) inferInstance:=(V1 (rg:=v6) (k7 (Y6 3:Fd I (List Int) (@rpList _ (rpK .i64))) (k7 (Y6 3:Fd I (List Int) (@rpList _ (rpK .i64))) ((a3q:Fd I Bool (rpBool))))) b4N c11 (fun _=>rfl) (fun _ _ _=>Iff.rfl):Fd I Api_Goal v6)
def d7s:Fd I (I 120) inferInstance:=(V1 (rg:=rpEnt) (k7 (Y6 42:Fd I (List Val) (@rpList _ (rpVal))) (k7 (a3q:Fd I Bool (rpBool)) ((a0T 42 c8k:Fd I Val (rpVal))))) Ent.to Ent.of (fun _=>rfl) Ent.cells_to:Fd I Ent rpEnt)
def d1C:Fd I (I 126) inferInstance:=(V1 (rg:=rpKey) (k7 (K7 .i64:Fd I Int (rpK .i64)) ((b0r:Fd I ByteArray (rpStr)))) Key.to Key.of (fun _=>rfl) Key.cells_to:Fd I Key rpKey)
def c7X:Fd I (I 128) inferInstance:=(V1 (rg:=a1f) (k7 (a0T 126 d1C:Fd I Key (rpKey)) (k7 (K7 .i64:Fd I Int (rpK .i64)) ((a3q:Fd I Bool (rpBool))))) b2Q b9W (fun _=>rfl) (fun _ _ _=>Iff.rfl):Fd I Api_Field a1f)
def b0O:Fd I (I 190) inferInstance:=(V1 (rg:=a0g) (k7 (a0T 42 c8k:Fd I Val (rpVal)) (k7 (Y6 126:Fd I (List Key) (@rpList _ (rpKey))) (k7 (Y6 338:Fd I (List Api_Form) (@rpList _ (a1G))) ((Y6 100:Fd I (List Api_Goal) (@rpList _ (v6))))))) a7a b0G (fun _=>rfl) (fun _ _ _=>Iff.rfl):Fd I Api_Alternative a0g)
def c7W:Fd I (I 193) inferInstance:=(V1 (rg:=a5f) (k7 (a0T 190 b0O:Fd I Api_Alternative (a0g)) ((Y6 219:Fd I (List (List Api_EntryForm)) (@rpList _ (@rpList _ (V5)))))) b2T b9V (fun _=>rfl) (fun _ _ _=>Iff.rfl):Fd I Solve_Way a5f)
def b3M:Fd I (I 214) inferInstance:=(V1 (rg:=a0P) (k7 (a3q:Fd I Bool (rpBool)) ((Y6 9:Fd I (List ByteArray) (@rpList _ (rpStr))))) b3y b9H (fun _=>rfl) (fun _ _ _=>Iff.rfl):Fd I Api_Names a0P)
def c9z:Fd I (I 216) inferInstance:=(V1 (rg:=a6q) (k7 (K7 .i64:Fd I Int (rpK .i64)) (k7 (K7 .i64:Fd I Int (rpK .i64)) (k7 (Y6 56:Fd I (List Api_Range) (@rpList _ (a1g))) (k7 (a0T 214 b3M:Fd I Api_Names (a0P)) (k7 (Y6 3:Fd I (List Int) (@rpList _ (rpK .i64))) (k7 (Y6 3:Fd I (List Int) (@rpList _ (rpK .i64))) (k7 (Y6 9:Fd I (List ByteArray) (@rpList _ (rpStr))) ((Y6 9:Fd I (List ByteArray) (@rpList _ (rpStr))))))))))) b4Q c17 (fun _=>rfl) (fun _ _ _=>Iff.rfl):Fd I Api_Line a6q)
def c3l:Fd I (I 224) inferInstance:=(V1 (rg:=V5) (k7 (Y6 100:Fd I (List Api_Goal) (@rpList _ (v6))) (k7 (a3q:Fd I Bool (rpBool)) ((a0T 100 a7X:Fd I Api_Goal (v6))))) a8l b2z (fun _=>rfl) (fun _ _ _=>Iff.rfl):Fd I Api_EntryForm V5)
def c8m:Fd I (I 237) inferInstance:=(V1 (rg:=a5l) (k7 (K7 .i64:Fd I Int (rpK .i64)) ((K7 .i64:Fd I Int (rpK .i64)))) b2F c0o (fun _=>rfl) (fun _ _ _=>Iff.rfl):Fd I Core_Sort a5l)
def c7V:Fd I (I 252) inferInstance:=(V1 (rg:=a5g) (k7 (Y6 3:Fd I (List Int) (@rpList _ (rpK .i64))) (k7 (Y6 3:Fd I (List Int) (@rpList _ (rpK .i64))) (k7 (Y6 3:Fd I (List Int) (@rpList _ (rpK .i64))) ((Y6 3:Fd I (List Int) (@rpList _ (rpK .i64))))))) b2X c0b (fun _=>rfl) (fun _ _ _=>Iff.rfl):Fd I Core_pair a5g)
def d1a:Fd I (I 273) inferInstance:=(V1 (rg:=b8k) ((Y6 100:Fd I (List Api_Goal) (@rpList _ (v6)))) a3O d01 (fun _=>rfl) (fun _ _ _=>Iff.rfl):Fd I Api_Box b8k)
def d0n:Fd I (I 296) inferInstance:=(k7 (a0T 100 a7X:Fd I Api_Goal (v6)) ((a0T 100 a7X:Fd I Api_Goal (v6))):Fd I (Api_Goal×Api_Goal) (Y2 (v6) (v6)))
def c8u:Fd I (I 299) inferInstance:=(V1 (rg:=a5c) (k7 (Y6 126:Fd I (List Key) (@rpList _ (rpKey))) (k7 (Y6 3:Fd I (List Int) (@rpList _ (rpK .i64))) (k7 (Y6 100:Fd I (List Api_Goal) (@rpList _ (v6))) (k7 (a0T 296 d0n:Fd I (Api_Goal×Api_Goal) (Y2 (v6) (v6))) ((Y6 302:Fd I (List Api_SomeKey) (@rpList _ (a0y)))))))) b2s b9T (fun _=>rfl) (fun _ _ _=>Iff.rfl):Fd I Api_Shape a5c)
def c40:Fd I (I 302) inferInstance:=(V1 (rg:=a0y) (k7 (K7 .i64:Fd I Int (rpK .i64)) ((a0T 100 a7X:Fd I Api_Goal (v6)))) b0b b5W (fun _=>rfl) (fun _ _ _=>Iff.rfl):Fd I Api_SomeKey a0y)
def b90:Fd I (I 320) inferInstance:=(V1 (rg:=a10) ((a0T 214 b3M:Fd I Api_Names (a0P))) a60 b0Z (fun _=>rfl) (fun _ _ _=>Iff.rfl):Fd I Literals_normal a10)
def c3R:Fd I (I 336) inferInstance:=(V1 (rg:=a3b) (k7 (K7 .i64:Fd I Int (rpK .i64)) (k7 (a3q:Fd I Bool (rpBool)) ((K7 .i64:Fd I Int (rpK .i64))))) a8L b4M (fun _=>rfl) (fun _ _ _=>Iff.rfl):Fd I Record_place a3b)
def c9Q:Fd I (I 338) inferInstance:=(V1 (rg:=a1G) (k7 (Y6 3:Fd I (List Int) (@rpList _ (rpK .i64))) (k7 (a3q:Fd I Bool (rpBool)) ((K7 .i64:Fd I Int (rpK .i64))))) b5g c2c (fun _=>rfl) (fun _ _ _=>Iff.rfl):Fd I Api_Form a1G)
def feL:List (FE I):=[⟨2,K7 .i64⟩,
 ⟨3,K7 .i64⟩,
 ⟨4,a3q⟩,
 ⟨5,K7 .u8⟩,
 ⟨9,b0r⟩,
 ⟨22,Y6 9⟩,
 ⟨25,Y6 67⟩,
 ⟨27,b0s⟩,
 ⟨36,Y6 3⟩,
 ⟨38,Y6 42⟩,
 ⟨39,Y6 126⟩,
 ⟨40,Y6 120⟩,
 ⟨42,c8k⟩,
 ⟨51,c1G⟩,
 ⟨56,c7S⟩,
 ⟨57,Y6 56⟩,
 ⟨61,c5E⟩,
 ⟨64,Y6 128⟩,
 ⟨65,d2S⟩,
 ⟨67,c4D⟩,
 ⟨72,b6y⟩,
 ⟨100,a7X⟩,
 ⟨120,d7s⟩,
 ⟨126,d1C⟩,
 ⟨128,c7X⟩,
 ⟨184,Y6 100⟩,
 ⟨188,Y6 338⟩,
 ⟨190,b0O⟩,
 ⟨191,Y6 219⟩,
 ⟨193,c7W⟩,
 ⟨214,b3M⟩,
 ⟨216,c9z⟩,
 ⟨219,Y6 224⟩,
 ⟨224,c3l⟩,
 ⟨237,c8m⟩,
 ⟨252,c7V⟩,
 ⟨273,d1a⟩,
 ⟨296,d0n⟩,
 ⟨297,Y6 302⟩,
 ⟨299,c8u⟩,
 ⟨302,c40⟩,
 ⟨320,b90⟩,
 ⟨336,c3R⟩,
 ⟨338,c9Q⟩]
def d6l:TabL I where
 sz:=[(27,2),(42,7),(51,4),(56,2),(61,3),(65,2),(67,8),(100,3),(120,9),(126,2),(128,4),(168,2),(190,10),(193,11),(214,2),(216,9),(224,5),(237,2),(252,4),(273,1),(299,10),(302,4),(320,2),(336,3)]
 one:=[(2,()),(3,()),(4,()),(5,()),(9,()),(22,()),(25,()),(36,()),(38,()),(39,()),(40,()),(57,()),(62,()),(64,()),(106,()),(151,()),(166,()),(184,()),(191,()),(219,()),(293,()),(297,()),(330,()),(331,())]
 fld:=[(27,[(0,25),(1,3)]),(42,[(0,3),(1,2),(2,9),(3,38),(4,39),(5,40),(6,22)]),(51,[(0,27),(2,27)]),(56,[(0,2),(1,2)]),(61,[(0,9),(1,27)]),(67,[(0,3),(1,2),(2,2),(3,9),(4,36),(5,64),(6,65)]),(72,[(0,36),(1,3)]),(100,[(0,36),(1,36),(2,4)]),(120,[(0,38),(1,4),(2,42)]),(126,[(0,3),(1,9)]),(128,[(0,126),(2,3),(3,4)]),(168,[(0,166),(1,106)]),(190,[(0,42),(7,39),(8,188),(9,184)]),(193,[(0,190),(10,191)]),(214,[(0,4),(1,22)]),(216,[(0,3),(1,3),(2,57),(3,214),(5,36),(6,36),(7,22),(8,22)]),(224,[(0,184),(1,4),(2,100)]),(237,[(0,3),(1,3)]),(252,[(0,36),(1,36),(2,36),(3,36)]),(273,[(0,184)]),(299,[(0,39),(1,36),(2,184),(3,296),(9,297)]),(302,[(0,3),(1,100)]),(320,[(0,214)]),(336,[(0,3),(1,4),(2,3)])]
 el:=[(22,9),(24,27),(25,67),(29,36),(36,3),(38,42),(39,126),(40,120),(45,51),(57,56),(62,61),(64,128),(92,4),(111,2),(184,100),(185,193),(191,219),(198,5),(211,216),(217,190),(219,224),(234,237),(253,252),(269,273),(293,299),(297,302),(330,336)]
 str:=[(9,())]
 bool:=[(4,())]
 ik:=[(2,.i64),(3,.i64),(5,.u8),(135,.u64),(165,.u64)]
 fe:=feL
 inf:=[(2,1,8,[.int .i64 0]),(3,1,8,[.int .i64 0]),(4,1,1,[.bool false]),(5,1,1,[.int .u8 0]),(9,1,16,[.str ⟨#[]⟩]),(22,1,24,[.nl 9]),(25,1,24,[.nl 67]),(27,2,32,[.nl 67,.int .i64 0]),(36,1,24,[.nl 3]),(38,1,24,[.nl 42]),(39,1,24,[.nl 126]),(42,7,128,[.int .i64 0,.int .i64 0,.str ⟨#[]⟩,.nl 42,.nl 126,.nl 120,.nl 9]),(51,4,64,[.nl 67,.int .i64 0,.nl 67,.int .i64 0]),(56,2,16,[.int .i64 0,.int .i64 0]),(57,1,24,[.nl 56]),(61,3,48,[.str ⟨#[]⟩,.nl 67,.int .i64 0]),(64,1,24,[.nl 128]),(65,2,16,[.int .i64 0,.int .i64 0]),(67,8,104,[.int .i64 0,.int .i64 0,.int .i64 0,.str ⟨#[]⟩,.nl 3,.nl 128,.int .i64 0,.int .i64 0]),(72,2,32,[.nl 3,.int .i64 0]),(100,3,56,[.nl 3,.nl 3,.bool false]),(120,9,160,[.nl 42,.bool false,.int .i64 0,.int .i64 0,.str ⟨#[]⟩,.nl 42,.nl 126,.nl 120,.nl 9]),(126,2,24,[.int .i64 0,.str ⟨#[]⟩]),(128,4,40,[.int .i64 0,.str ⟨#[]⟩,.int .i64 0,.bool false]),(151,1,8,[.any]),(168,2,16,[.any,.any]),(184,1,24,[.nl 100]),(185,1,24,[.nl 193]),(190,10,200,[.int .i64 0,.int .i64 0,.str ⟨#[]⟩,.nl 42,.nl 126,.nl 120,.nl 9,.nl 126,.nl 338,.nl 100]),(193,11,224,[.int .i64 0,.int .i64 0,.str ⟨#[]⟩,.nl 42,.nl 126,.nl 120,.nl 9,.nl 126,.nl 338,.nl 100,.nl 219]),(214,2,32,[.bool false,.nl 9]),(216,9,168,[.int .i64 0,.int .i64 0,.nl 56,.bool false,.nl 9,.nl 3,.nl 3,.nl 9,.nl 9]),(219,1,24,[.nl 224]),(224,5,88,[.nl 100,.bool false,.nl 3,.nl 3,.bool false]),(237,2,16,[.int .i64 0,.int .i64 0]),(252,4,96,[.nl 3,.nl 3,.nl 3,.nl 3]),(273,1,24,[.nl 100]),(293,1,24,[.nl 299]),(297,1,24,[.nl 302]),(299,10,208,[.nl 126,.nl 3,.nl 100,.nl 3,.nl 3,.bool false,.nl 3,.nl 3,.bool false,.nl 302]),(302,4,64,[.int .i64 0,.nl 3,.nl 3,.bool false]),(320,2,32,[.bool false,.nl 9]),(330,1,24,[.nl 336]),(331,1,8,[.any]),(336,3,24,[.int .i64 0,.bool false,.int .i64 0])]
 st:=[(27,[(0,1),(1,1)]),(42,[(0,1),(1,1),(2,1),(3,1),(4,1),(5,1),(6,1)]),(51,[(0,2),(2,2)]),(56,[(0,1),(1,1)]),(61,[(0,1),(1,2)]),(65,[(0,1),(1,1)]),(67,[(0,1),(1,1),(2,1),(3,1),(4,1),(5,1),(6,2)]),(72,[(0,1),(1,1)]),(100,[(0,1),(1,1),(2,1)]),(126,[(0,1),(1,1)]),(128,[(0,2),(2,1),(3,1)]),(168,[(0,1),(1,1)]),(190,[(0,7),(7,1),(8,1),(9,1)]),(193,[(0,10),(10,1)]),(214,[(0,1),(1,1)]),(216,[(0,1),(1,1),(2,1),(3,2),(5,1),(6,1),(7,1),(8,1)]),(237,[(0,1),(1,1)]),(252,[(0,1),(1,1),(2,1),(3,1)]),(299,[(0,1),(1,1),(2,1),(3,6),(9,1)]),(302,[(0,1),(1,3)]),(320,[(0,2)]),(336,[(0,1),(1,1),(2,1)])]
 eq:=[(65,c0c feL 65 a7W),(126,c0c feL 126 a2p)]
 nest:=[(36,3,0),(100,3,1)]
 arr:=[(65,3,2,1),(296,100,2,3)]
 u8:=[(5,())]
 mp:=[(106,.int .i64),(166,.sl 193),(254,.bool)]
 fb:=[(37,()),(52,()),(55,()),(56,()),(57,()),(64,()),(135,()),(137,()),(162,()),(194,()),(197,()),(219,()),(227,()),(233,()),(285,()),(286,())]
abbrev tb:Tab I:=d1t d6l
theorem ti2:Y9 d8m 2 (.int .i64 0) 1 8:=Y0 (by kernel_rfl)
theorem ti3:Y9 d8m 3 (.int .i64 0) 1 8:=Y0 (by kernel_rfl)
theorem ti4:Y9 d8m 4 (.bool false) 1 1:=Y0 (by kernel_rfl)
theorem ti5:Y9 d8m 5 (.int .u8 0) 1 1:=Y0 (by kernel_rfl)
theorem ti9:Y9 d8m 9 (.string ⟨#[]⟩) 1 16:=Y0 (by kernel_rfl)
theorem d6o:Y9 d8m 22 (.slice none 0 0) 1 24:=Y0 (by kernel_rfl)
theorem d7l:Y9 d8m 25 (.slice none 0 0) 1 24:=Y0 (by kernel_rfl)
theorem d1k:Y9 d8m 27 (.agg #[.slice none 0 0,.int .i64 0]) 2 32:=Y0 (by kernel_rfl)
theorem d1w:Y9 d8m 36 (.slice none 0 0) 1 24:=Y0 (by kernel_rfl)
theorem d6S:Y9 d8m 38 (.slice none 0 0) 1 24:=Y0 (by kernel_rfl)
theorem d6q:Y9 d8m 39 (.slice none 0 0) 1 24:=Y0 (by kernel_rfl)
theorem d1i:Y9 d8m 42 (.agg #[.int .i64 0,.int .i64 0,.string ⟨#[]⟩,.slice none 0 0,.slice none 0 0,.slice none 0 0,.slice none 0 0]) 7 128:=Y0 (by kernel_rfl)
theorem d0Q:Y9 d8m 51 (.agg #[.slice none 0 0,.int .i64 0,.slice none 0 0,.int .i64 0]) 4 64:=Y0 (by kernel_rfl)
theorem d0U:Y9 d8m 56 (.agg #[.int .i64 0,.int .i64 0]) 2 16:=Y0 (by kernel_rfl)
theorem d7b:Y9 d8m 57 (.slice none 0 0) 1 24:=Y0 (by kernel_rfl)
theorem d0S:Y9 d8m 61 (.agg #[.string ⟨#[]⟩,.slice none 0 0,.int .i64 0]) 3 48:=Y0 (by kernel_rfl)
theorem d6Q:Y9 d8m 64 (.slice none 0 0) 1 24:=Y0 (by kernel_rfl)
theorem d64:Y9 d8m 65 (.agg #[.int .i64 0,.int .i64 0]) 2 16:=Y0 (by kernel_rfl)
theorem d1p:Y9 d8m 67 (.agg #[.int .i64 0,.int .i64 0,.int .i64 0,.string ⟨#[]⟩,.slice none 0 0,.slice none 0 0,.int .i64 0,.int .i64 0]) 8 104:=Y0 (by kernel_rfl)
theorem d65:Y9 d8m 72 (.agg #[.slice none 0 0,.int .i64 0]) 2 32:=Y0 (by kernel_rfl)
theorem c7i:Y9 d8m 100 (.agg #[.slice none 0 0,.slice none 0 0,.bool false]) 3 56:=Y0 (by kernel_rfl)
theorem c7e:Y9 d8m 120 (.agg #[.slice none 0 0,.bool false,.int .i64 0,.int .i64 0,.string ⟨#[]⟩,.slice none 0 0,.slice none 0 0,.slice none 0 0,.slice none 0 0]) 9 160:=Y0 (by kernel_rfl)
theorem c7s:Y9 d8m 126 (.agg #[.int .i64 0,.string ⟨#[]⟩]) 2 24:=Y0 (by kernel_rfl)
theorem c7B:Y9 d8m 128 (.agg #[.int .i64 0,.string ⟨#[]⟩,.int .i64 0,.bool false]) 4 40:=Y0 (by kernel_rfl)
theorem d4o:Y9 d8m 151 (.nilFunc) 1 8:=Y0 (by kernel_rfl)
theorem d4K:Y9 d8m 168 (.agg #[.map none,.map none]) 2 16:=Y0 (by kernel_rfl)
theorem d4X:Y9 d8m 184 (.slice none 0 0) 1 24:=Y0 (by kernel_rfl)
theorem c7m:Y9 d8m 185 (.slice none 0 0) 1 24:=Y0 (by kernel_rfl)
theorem c7o:Y9 d8m 190 (.agg #[.int .i64 0,.int .i64 0,.string ⟨#[]⟩,.slice none 0 0,.slice none 0 0,.slice none 0 0,.slice none 0 0,.slice none 0 0,.slice none 0 0,.slice none 0 0]) 10 200:=Y0 (by kernel_rfl)
theorem c7C:Y9 d8m 193 (.agg #[.int .i64 0,.int .i64 0,.string ⟨#[]⟩,.slice none 0 0,.slice none 0 0,.slice none 0 0,.slice none 0 0,.slice none 0 0,.slice none 0 0,.slice none 0 0,.slice none 0 0]) 11 224:=Y0 (by kernel_rfl)
theorem d4j:Y9 d8m 214 (.agg #[.bool false,.slice none 0 0]) 2 32:=Y0 (by kernel_rfl)
theorem c7D:Y9 d8m 216 (.agg #[.int .i64 0,.int .i64 0,.slice none 0 0,.bool false,.slice none 0 0,.slice none 0 0,.slice none 0 0,.slice none 0 0,.slice none 0 0]) 9 168:=Y0 (by kernel_rfl)
theorem c7f:Y9 d8m 219 (.slice none 0 0) 1 24:=Y0 (by kernel_rfl)
theorem c7x:Y9 d8m 224 (.agg #[.slice none 0 0,.bool false,.slice none 0 0,.slice none 0 0,.bool false]) 5 88:=Y0 (by kernel_rfl)
theorem c7a:Y9 d8m 237 (.agg #[.int .i64 0,.int .i64 0]) 2 16:=Y0 (by kernel_rfl)
theorem c7y:Y9 d8m 252 (.agg #[.slice none 0 0,.slice none 0 0,.slice none 0 0,.slice none 0 0]) 4 96:=Y0 (by kernel_rfl)
theorem c7p:Y9 d8m 273 (.agg #[.slice none 0 0]) 1 24:=Y0 (by kernel_rfl)
theorem d4r:Y9 d8m 293 (.slice none 0 0) 1 24:=Y0 (by kernel_rfl)
theorem d4m:Y9 d8m 297 (.slice none 0 0) 1 24:=Y0 (by kernel_rfl)
theorem c7d:Y9 d8m 299 (.agg #[.slice none 0 0,.slice none 0 0,.slice none 0 0,.slice none 0 0,.slice none 0 0,.bool false,.slice none 0 0,.slice none 0 0,.bool false,.slice none 0 0]) 10 208:=Y0 (by kernel_rfl)
theorem c7t:Y9 d8m 302 (.agg #[.int .i64 0,.slice none 0 0,.slice none 0 0,.bool false]) 4 64:=Y0 (by kernel_rfl)
theorem d4h:Y9 d8m 320 (.agg #[.bool false,.slice none 0 0]) 2 32:=Y0 (by kernel_rfl)
theorem d4Y:Y9 d8m 330 (.slice none 0 0) 1 24:=Y0 (by kernel_rfl)
theorem d4l:Y9 d8m 331 (.nilFunc) 1 8:=Y0 (by kernel_rfl)
theorem c7w:Y9 d8m 336 (.agg #[.int .i64 0,.bool false,.int .i64 0]) 3 24:=Y0 (by kernel_rfl)
theorem to2:X8 d8m 2:=⟨_,Go.Proofs.Tryz.underlying2,rfl,by kernel_rfl⟩
theorem to3:X8 d8m 3:=⟨_,Go.Proofs.Tryz.underlying3,rfl,by kernel_rfl⟩
theorem to4:X8 d8m 4:=⟨_,Go.Proofs.Tryz.underlying4,rfl,by kernel_rfl⟩
theorem to5:X8 d8m 5:=⟨_,Go.Proofs.Tryz.underlying5,rfl,by kernel_rfl⟩
theorem to9:X8 d8m 9:=⟨_,Go.Proofs.Tryz.underlying9,rfl,by kernel_rfl⟩
theorem d6g:X8 d8m 22:=⟨_,Go.Proofs.Tryz.underlying22,rfl,by kernel_rfl⟩
theorem d57:X8 d8m 25:=⟨_,Go.Proofs.Tryz.underlying25,rfl,by kernel_rfl⟩
theorem d69:X8 d8m 36:=⟨_,Go.Proofs.Tryz.underlying36,rfl,by kernel_rfl⟩
theorem d6i:X8 d8m 38:=⟨_,Go.Proofs.Tryz.underlying38,rfl,by kernel_rfl⟩
theorem d7a:X8 d8m 39:=⟨_,Go.Proofs.Tryz.underlying39,rfl,by kernel_rfl⟩
theorem d6w:X8 d8m 40:=⟨_,Go.Proofs.Tryz.underlying40,rfl,by kernel_rfl⟩
theorem d6k:X8 d8m 57:=⟨_,Go.Proofs.Tryz.underlying57,rfl,by kernel_rfl⟩
theorem d6b:X8 d8m 62:=⟨_,Go.Proofs.Tryz.underlying62,rfl,by kernel_rfl⟩
theorem d6U:X8 d8m 64:=⟨_,Go.Proofs.Tryz.underlying64,rfl,by kernel_rfl⟩
theorem d4x:X8 d8m 106:=⟨_,Go.Proofs.Tryz.underlying106,rfl,by kernel_rfl⟩
theorem d4p:X8 d8m 151:=⟨_,Go.Proofs.Tryz.underlying151,rfl,by kernel_rfl⟩
theorem d4b:X8 d8m 166:=⟨_,Go.Proofs.Tryz.underlying166,rfl,by kernel_rfl⟩
theorem d1m:X8 d8m 184:=⟨_,Go.Proofs.Tryz.underlying184,rfl,by kernel_rfl⟩
theorem d4z:X8 d8m 191:=⟨_,Go.Proofs.Tryz.underlying191,rfl,by kernel_rfl⟩
theorem d4C:X8 d8m 219:=⟨_,Go.Proofs.Tryz.underlying219,rfl,by kernel_rfl⟩
theorem d4M:X8 d8m 293:=⟨_,Go.Proofs.Tryz.underlying293,rfl,by kernel_rfl⟩
theorem d4I:X8 d8m 297:=⟨_,Go.Proofs.Tryz.underlying297,rfl,by kernel_rfl⟩
theorem d4E:X8 d8m 330:=⟨_,Go.Proofs.Tryz.underlying330,rfl,by kernel_rfl⟩
theorem d4Q:X8 d8m 331:=⟨_,Go.Proofs.Tryz.underlying331,rfl,by kernel_rfl⟩
theorem d78 {σ:S}{x y:Int×Int}{cs ds:List Value}(h:(rI 65).cells σ x cs)(k:(rI 65).cells σ y ds):Sx.EqAt d8m 2 65 (.agg cs.toArray) (.agg ds.toArray) (a7W x y):=by
 obtain ⟨_,_,rfl,rfl,rfl⟩:=h
 obtain ⟨_,_,rfl,rfl,rfl⟩:=k
 exact c8Q Go.Proofs.Tryz.underlying65 ti3 (b4B (a1e to3 rfl) (a1e to3 rfl) (b0i Go.Proofs.Tryz.underlying3) (b4B (a1e to3 rfl) (a1e to3 rfl) (b0i Go.Proofs.Tryz.underlying3) c9n))
theorem d7O {σ:S}{x y:Key}{cs ds:List Value}(h:(rI 126).cells σ x cs)(k:(rI 126).cells σ y ds):Sx.EqAt d8m 2 126 (.agg cs.toArray) (.agg ds.toArray) (a2p x y):=by
 obtain ⟨_,_,rfl,rfl,rfl⟩:=h
 obtain ⟨_,_,rfl,rfl,rfl⟩:=k
 exact c2f Go.Proofs.Tryz.underlying126 (by kernel_rfl) (b4w (by decide) (a1e to3 rfl) (a1e to3 rfl) (b0i Go.Proofs.Tryz.underlying3) (b4w (by decide) (a1e to9 rfl) (a1e to9 rfl) (c9f Go.Proofs.Tryz.underlying9) c9v))
theorem eqT (T:TypeId)(g:I T->I T->Bool){K:Nat}(h:∀ {σ:S} {x y:I T} {cs ds:List Value},Rp.cells σ x cs->Rp.cells σ y ds->Sx.EqAt d8m K T (.agg cs.toArray) (.agg ds.toArray) (g x y))(hg:d8m.eqGuardType (d8m).depth T=false)(hK:d89 K 10000=true)
 {X:Cxt} {c:Cx} {σ:S} {ls ms:List (PV I)} {r:Bool} {cs ds:List Value} (h1:c0c feL T g ls ms=some r) (h2:RG X c σ ls cs) (h3:RG X c σ ms ds) :
 d8m.eqGuardType (d8m).depth T=false/\∃ j,d89 j 10000=true/\Sx.EqAt d8m j T (.agg cs.toArray) (.agg ds.toArray) r:=by
 obtain ⟨x,y,k1,k2,rfl⟩:=d0c h1 h2 h3
 exact ⟨hg,K,hK,h k1 k2⟩
theorem d6j:TabLOk d8m d6l where
 sz:=⟨⟨_,Go.Proofs.Tryz.underlying27,rfl,by kernel_rfl⟩,⟨⟨_,Go.Proofs.Tryz.underlying42,rfl,by kernel_rfl⟩,⟨⟨_,Go.Proofs.Tryz.underlying51,rfl,by kernel_rfl⟩,⟨⟨_,Go.Proofs.Tryz.underlying56,rfl,by kernel_rfl⟩,⟨⟨_,Go.Proofs.Tryz.underlying61,rfl,by kernel_rfl⟩,⟨⟨_,Go.Proofs.Tryz.underlying65,rfl,by kernel_rfl⟩,⟨⟨_,Go.Proofs.Tryz.underlying67,rfl,by kernel_rfl⟩,⟨⟨_,Go.Proofs.Tryz.underlying100,rfl,by kernel_rfl⟩,⟨⟨_,Go.Proofs.Tryz.underlying120,rfl,by kernel_rfl⟩,⟨⟨_,Go.Proofs.Tryz.underlying126,rfl,by kernel_rfl⟩,⟨⟨_,Go.Proofs.Tryz.underlying128,rfl,by kernel_rfl⟩,⟨⟨_,Go.Proofs.Tryz.underlying168,rfl,by kernel_rfl⟩,⟨⟨_,Go.Proofs.Tryz.underlying190,rfl,by kernel_rfl⟩,⟨⟨_,Go.Proofs.Tryz.underlying193,rfl,by kernel_rfl⟩,⟨⟨_,Go.Proofs.Tryz.underlying214,rfl,by kernel_rfl⟩,⟨⟨_,Go.Proofs.Tryz.underlying216,rfl,by kernel_rfl⟩,⟨⟨_,Go.Proofs.Tryz.underlying224,rfl,by kernel_rfl⟩,⟨⟨_,Go.Proofs.Tryz.underlying237,rfl,by kernel_rfl⟩,⟨⟨_,Go.Proofs.Tryz.underlying252,rfl,by kernel_rfl⟩,⟨⟨_,Go.Proofs.Tryz.underlying273,rfl,by kernel_rfl⟩,⟨⟨_,Go.Proofs.Tryz.underlying299,rfl,by kernel_rfl⟩,⟨⟨_,Go.Proofs.Tryz.underlying302,rfl,by kernel_rfl⟩,⟨⟨_,Go.Proofs.Tryz.underlying320,rfl,by kernel_rfl⟩,⟨⟨_,Go.Proofs.Tryz.underlying336,rfl,by kernel_rfl⟩,trivial⟩⟩⟩⟩⟩⟩⟩⟩⟩⟩⟩⟩⟩⟩⟩⟩⟩⟩⟩⟩⟩⟩⟩⟩
 one:=⟨to2,⟨to3,⟨to4,⟨to5,⟨to9,⟨d6g,⟨d57,⟨d69,⟨d6i,⟨d7a,⟨d6w,⟨d6k,⟨d6b,⟨d6U,⟨d4x,⟨d4p,⟨d4b,⟨d1m,⟨d4z,⟨d4C,⟨d4M,⟨d4I,⟨d4E,⟨d4Q,trivial⟩⟩⟩⟩⟩⟩⟩⟩⟩⟩⟩⟩⟩⟩⟩⟩⟩⟩⟩⟩⟩⟩⟩⟩
 fld:=⟨⟨⟨_,_,Go.Proofs.Tryz.underlying27,rfl,rfl,by kernel_rfl⟩,⟨⟨_,_,Go.Proofs.Tryz.underlying27,rfl,rfl⟩,⟨⟨_,_,Go.Proofs.Tryz.underlying27,rfl,rfl,by kernel_rfl⟩,⟨⟨_,_,Go.Proofs.Tryz.underlying27,rfl,rfl⟩,trivial⟩⟩⟩⟩,⟨⟨⟨_,_,Go.Proofs.Tryz.underlying42,rfl,rfl,by kernel_rfl⟩,⟨⟨_,_,Go.Proofs.Tryz.underlying42,rfl,rfl⟩,⟨⟨_,_,Go.Proofs.Tryz.underlying42,rfl,rfl,by kernel_rfl⟩,⟨⟨_,_,Go.Proofs.Tryz.underlying42,rfl,rfl⟩,⟨⟨_,_,Go.Proofs.Tryz.underlying42,rfl,rfl,by kernel_rfl⟩,⟨⟨_,_,Go.Proofs.Tryz.underlying42,rfl,rfl⟩,⟨⟨_,_,Go.Proofs.Tryz.underlying42,rfl,rfl,by kernel_rfl⟩,⟨⟨_,_,Go.Proofs.Tryz.underlying42,rfl,rfl⟩,⟨⟨_,_,Go.Proofs.Tryz.underlying42,rfl,rfl,by kernel_rfl⟩,⟨⟨_,_,Go.Proofs.Tryz.underlying42,rfl,rfl⟩,⟨⟨_,_,Go.Proofs.Tryz.underlying42,rfl,rfl,by kernel_rfl⟩,⟨⟨_,_,Go.Proofs.Tryz.underlying42,rfl,rfl⟩,⟨⟨_,_,Go.Proofs.Tryz.underlying42,rfl,rfl,by kernel_rfl⟩,⟨⟨_,_,Go.Proofs.Tryz.underlying42,rfl,rfl⟩,trivial⟩⟩⟩⟩⟩⟩⟩⟩⟩⟩⟩⟩⟩⟩,⟨⟨⟨_,_,Go.Proofs.Tryz.underlying51,rfl,rfl,by kernel_rfl⟩,⟨⟨_,_,Go.Proofs.Tryz.underlying51,rfl,rfl⟩,⟨⟨_,_,Go.Proofs.Tryz.underlying51,rfl,rfl,by kernel_rfl⟩,⟨⟨_,_,Go.Proofs.Tryz.underlying51,rfl,rfl⟩,trivial⟩⟩⟩⟩,⟨⟨⟨_,_,Go.Proofs.Tryz.underlying56,rfl,rfl,by kernel_rfl⟩,⟨⟨_,_,Go.Proofs.Tryz.underlying56,rfl,rfl⟩,⟨⟨_,_,Go.Proofs.Tryz.underlying56,rfl,rfl,by kernel_rfl⟩,⟨⟨_,_,Go.Proofs.Tryz.underlying56,rfl,rfl⟩,trivial⟩⟩⟩⟩,⟨⟨⟨_,_,Go.Proofs.Tryz.underlying61,rfl,rfl,by kernel_rfl⟩,⟨⟨_,_,Go.Proofs.Tryz.underlying61,rfl,rfl⟩,⟨⟨_,_,Go.Proofs.Tryz.underlying61,rfl,rfl,by kernel_rfl⟩,⟨⟨_,_,Go.Proofs.Tryz.underlying61,rfl,rfl⟩,trivial⟩⟩⟩⟩,⟨⟨⟨_,_,Go.Proofs.Tryz.underlying67,rfl,rfl,by kernel_rfl⟩,⟨⟨_,_,Go.Proofs.Tryz.underlying67,rfl,rfl⟩,⟨⟨_,_,Go.Proofs.Tryz.underlying67,rfl,rfl,by kernel_rfl⟩,⟨⟨_,_,Go.Proofs.Tryz.underlying67,rfl,rfl⟩,⟨⟨_,_,Go.Proofs.Tryz.underlying67,rfl,rfl,by kernel_rfl⟩,⟨⟨_,_,Go.Proofs.Tryz.underlying67,rfl,rfl⟩,⟨⟨_,_,Go.Proofs.Tryz.underlying67,rfl,rfl,by kernel_rfl⟩,⟨⟨_,_,Go.Proofs.Tryz.underlying67,rfl,rfl⟩,⟨⟨_,_,Go.Proofs.Tryz.underlying67,rfl,rfl,by kernel_rfl⟩,⟨⟨_,_,Go.Proofs.Tryz.underlying67,rfl,rfl⟩,⟨⟨_,_,Go.Proofs.Tryz.underlying67,rfl,rfl,by kernel_rfl⟩,⟨⟨_,_,Go.Proofs.Tryz.underlying67,rfl,rfl⟩,⟨⟨_,_,Go.Proofs.Tryz.underlying67,rfl,rfl,by kernel_rfl⟩,⟨⟨_,_,Go.Proofs.Tryz.underlying67,rfl,rfl⟩,trivial⟩⟩⟩⟩⟩⟩⟩⟩⟩⟩⟩⟩⟩⟩,⟨⟨⟨_,_,Go.Proofs.Tryz.underlying72,rfl,rfl,by kernel_rfl⟩,⟨⟨_,_,Go.Proofs.Tryz.underlying72,rfl,rfl⟩,⟨⟨_,_,Go.Proofs.Tryz.underlying72,rfl,rfl,by kernel_rfl⟩,⟨⟨_,_,Go.Proofs.Tryz.underlying72,rfl,rfl⟩,trivial⟩⟩⟩⟩,⟨⟨⟨_,_,Go.Proofs.Tryz.underlying100,rfl,rfl,by kernel_rfl⟩,⟨⟨_,_,Go.Proofs.Tryz.underlying100,rfl,rfl⟩,⟨⟨_,_,Go.Proofs.Tryz.underlying100,rfl,rfl,by kernel_rfl⟩,⟨⟨_,_,Go.Proofs.Tryz.underlying100,rfl,rfl⟩,⟨⟨_,_,Go.Proofs.Tryz.underlying100,rfl,rfl,by kernel_rfl⟩,⟨⟨_,_,Go.Proofs.Tryz.underlying100,rfl,rfl⟩,trivial⟩⟩⟩⟩⟩⟩,⟨⟨⟨_,_,Go.Proofs.Tryz.underlying120,rfl,rfl,by kernel_rfl⟩,⟨⟨_,_,Go.Proofs.Tryz.underlying120,rfl,rfl⟩,⟨⟨_,_,Go.Proofs.Tryz.underlying120,rfl,rfl,by kernel_rfl⟩,⟨⟨_,_,Go.Proofs.Tryz.underlying120,rfl,rfl⟩,⟨⟨_,_,Go.Proofs.Tryz.underlying120,rfl,rfl,by kernel_rfl⟩,⟨⟨_,_,Go.Proofs.Tryz.underlying120,rfl,rfl⟩,trivial⟩⟩⟩⟩⟩⟩,⟨⟨⟨_,_,Go.Proofs.Tryz.underlying126,rfl,rfl,by kernel_rfl⟩,⟨⟨_,_,Go.Proofs.Tryz.underlying126,rfl,rfl⟩,⟨⟨_,_,Go.Proofs.Tryz.underlying126,rfl,rfl,by kernel_rfl⟩,⟨⟨_,_,Go.Proofs.Tryz.underlying126,rfl,rfl⟩,trivial⟩⟩⟩⟩,⟨⟨⟨_,_,Go.Proofs.Tryz.underlying128,rfl,rfl,by kernel_rfl⟩,⟨⟨_,_,Go.Proofs.Tryz.underlying128,rfl,rfl⟩,⟨⟨_,_,Go.Proofs.Tryz.underlying128,rfl,rfl,by kernel_rfl⟩,⟨⟨_,_,Go.Proofs.Tryz.underlying128,rfl,rfl⟩,⟨⟨_,_,Go.Proofs.Tryz.underlying128,rfl,rfl,by kernel_rfl⟩,⟨⟨_,_,Go.Proofs.Tryz.underlying128,rfl,rfl⟩,trivial⟩⟩⟩⟩⟩⟩,⟨⟨⟨_,_,Go.Proofs.Tryz.underlying168,rfl,rfl,by kernel_rfl⟩,⟨⟨_,_,Go.Proofs.Tryz.underlying168,rfl,rfl⟩,⟨⟨_,_,Go.Proofs.Tryz.underlying168,rfl,rfl,by kernel_rfl⟩,⟨⟨_,_,Go.Proofs.Tryz.underlying168,rfl,rfl⟩,trivial⟩⟩⟩⟩,⟨⟨⟨_,_,Go.Proofs.Tryz.underlying190,rfl,rfl,by kernel_rfl⟩,⟨⟨_,_,Go.Proofs.Tryz.underlying190,rfl,rfl⟩,⟨⟨_,_,Go.Proofs.Tryz.underlying190,rfl,rfl,by kernel_rfl⟩,⟨⟨_,_,Go.Proofs.Tryz.underlying190,rfl,rfl⟩,⟨⟨_,_,Go.Proofs.Tryz.underlying190,rfl,rfl,by kernel_rfl⟩,⟨⟨_,_,Go.Proofs.Tryz.underlying190,rfl,rfl⟩,⟨⟨_,_,Go.Proofs.Tryz.underlying190,rfl,rfl,by kernel_rfl⟩,⟨⟨_,_,Go.Proofs.Tryz.underlying190,rfl,rfl⟩,trivial⟩⟩⟩⟩⟩⟩⟩⟩,⟨⟨⟨_,_,Go.Proofs.Tryz.underlying193,rfl,rfl,by kernel_rfl⟩,⟨⟨_,_,Go.Proofs.Tryz.underlying193,rfl,rfl⟩,⟨⟨_,_,Go.Proofs.Tryz.underlying193,rfl,rfl,by kernel_rfl⟩,⟨⟨_,_,Go.Proofs.Tryz.underlying193,rfl,rfl⟩,trivial⟩⟩⟩⟩,⟨⟨⟨_,_,Go.Proofs.Tryz.underlying214,rfl,rfl,by kernel_rfl⟩,⟨⟨_,_,Go.Proofs.Tryz.underlying214,rfl,rfl⟩,⟨⟨_,_,Go.Proofs.Tryz.underlying214,rfl,rfl,by kernel_rfl⟩,⟨⟨_,_,Go.Proofs.Tryz.underlying214,rfl,rfl⟩,trivial⟩⟩⟩⟩,⟨⟨⟨_,_,Go.Proofs.Tryz.underlying216,rfl,rfl,by kernel_rfl⟩,⟨⟨_,_,Go.Proofs.Tryz.underlying216,rfl,rfl⟩,⟨⟨_,_,Go.Proofs.Tryz.underlying216,rfl,rfl,by kernel_rfl⟩,⟨⟨_,_,Go.Proofs.Tryz.underlying216,rfl,rfl⟩,⟨⟨_,_,Go.Proofs.Tryz.underlying216,rfl,rfl,by kernel_rfl⟩,⟨⟨_,_,Go.Proofs.Tryz.underlying216,rfl,rfl⟩,⟨⟨_,_,Go.Proofs.Tryz.underlying216,rfl,rfl,by kernel_rfl⟩,⟨⟨_,_,Go.Proofs.Tryz.underlying216,rfl,rfl⟩,⟨⟨_,_,Go.Proofs.Tryz.underlying216,rfl,rfl,by kernel_rfl⟩,⟨⟨_,_,Go.Proofs.Tryz.underlying216,rfl,rfl⟩,⟨⟨_,_,Go.Proofs.Tryz.underlying216,rfl,rfl,by kernel_rfl⟩,⟨⟨_,_,Go.Proofs.Tryz.underlying216,rfl,rfl⟩,⟨⟨_,_,Go.Proofs.Tryz.underlying216,rfl,rfl,by kernel_rfl⟩,⟨⟨_,_,Go.Proofs.Tryz.underlying216,rfl,rfl⟩,⟨⟨_,_,Go.Proofs.Tryz.underlying216,rfl,rfl,by kernel_rfl⟩,⟨⟨_,_,Go.Proofs.Tryz.underlying216,rfl,rfl⟩,trivial⟩⟩⟩⟩⟩⟩⟩⟩⟩⟩⟩⟩⟩⟩⟩⟩,⟨⟨⟨_,_,Go.Proofs.Tryz.underlying224,rfl,rfl,by kernel_rfl⟩,⟨⟨_,_,Go.Proofs.Tryz.underlying224,rfl,rfl⟩,⟨⟨_,_,Go.Proofs.Tryz.underlying224,rfl,rfl,by kernel_rfl⟩,⟨⟨_,_,Go.Proofs.Tryz.underlying224,rfl,rfl⟩,⟨⟨_,_,Go.Proofs.Tryz.underlying224,rfl,rfl,by kernel_rfl⟩,⟨⟨_,_,Go.Proofs.Tryz.underlying224,rfl,rfl⟩,trivial⟩⟩⟩⟩⟩⟩,⟨⟨⟨_,_,Go.Proofs.Tryz.underlying237,rfl,rfl,by kernel_rfl⟩,⟨⟨_,_,Go.Proofs.Tryz.underlying237,rfl,rfl⟩,⟨⟨_,_,Go.Proofs.Tryz.underlying237,rfl,rfl,by kernel_rfl⟩,⟨⟨_,_,Go.Proofs.Tryz.underlying237,rfl,rfl⟩,trivial⟩⟩⟩⟩,⟨⟨⟨_,_,Go.Proofs.Tryz.underlying252,rfl,rfl,by kernel_rfl⟩,⟨⟨_,_,Go.Proofs.Tryz.underlying252,rfl,rfl⟩,⟨⟨_,_,Go.Proofs.Tryz.underlying252,rfl,rfl,by kernel_rfl⟩,⟨⟨_,_,Go.Proofs.Tryz.underlying252,rfl,rfl⟩,⟨⟨_,_,Go.Proofs.Tryz.underlying252,rfl,rfl,by kernel_rfl⟩,⟨⟨_,_,Go.Proofs.Tryz.underlying252,rfl,rfl⟩,⟨⟨_,_,Go.Proofs.Tryz.underlying252,rfl,rfl,by kernel_rfl⟩,⟨⟨_,_,Go.Proofs.Tryz.underlying252,rfl,rfl⟩,trivial⟩⟩⟩⟩⟩⟩⟩⟩,⟨⟨⟨_,_,Go.Proofs.Tryz.underlying273,rfl,rfl,by kernel_rfl⟩,⟨⟨_,_,Go.Proofs.Tryz.underlying273,rfl,rfl⟩,trivial⟩⟩,⟨⟨⟨_,_,Go.Proofs.Tryz.underlying299,rfl,rfl,by kernel_rfl⟩,⟨⟨_,_,Go.Proofs.Tryz.underlying299,rfl,rfl⟩,⟨⟨_,_,Go.Proofs.Tryz.underlying299,rfl,rfl,by kernel_rfl⟩,⟨⟨_,_,Go.Proofs.Tryz.underlying299,rfl,rfl⟩,⟨⟨_,_,Go.Proofs.Tryz.underlying299,rfl,rfl,by kernel_rfl⟩,⟨⟨_,_,Go.Proofs.Tryz.underlying299,rfl,rfl⟩,⟨⟨_,_,Go.Proofs.Tryz.underlying299,rfl,rfl,by kernel_rfl⟩,⟨⟨_,_,Go.Proofs.Tryz.underlying299,rfl,rfl⟩,⟨⟨_,_,Go.Proofs.Tryz.underlying299,rfl,rfl,by kernel_rfl⟩,⟨⟨_,_,Go.Proofs.Tryz.underlying299,rfl,rfl⟩,trivial⟩⟩⟩⟩⟩⟩⟩⟩⟩⟩,⟨⟨⟨_,_,Go.Proofs.Tryz.underlying302,rfl,rfl,by kernel_rfl⟩,⟨⟨_,_,Go.Proofs.Tryz.underlying302,rfl,rfl⟩,⟨⟨_,_,Go.Proofs.Tryz.underlying302,rfl,rfl,by kernel_rfl⟩,⟨⟨_,_,Go.Proofs.Tryz.underlying302,rfl,rfl⟩,trivial⟩⟩⟩⟩,⟨⟨⟨_,_,Go.Proofs.Tryz.underlying320,rfl,rfl,by kernel_rfl⟩,⟨⟨_,_,Go.Proofs.Tryz.underlying320,rfl,rfl⟩,trivial⟩⟩,⟨⟨⟨_,_,Go.Proofs.Tryz.underlying336,rfl,rfl,by kernel_rfl⟩,⟨⟨_,_,Go.Proofs.Tryz.underlying336,rfl,rfl⟩,⟨⟨_,_,Go.Proofs.Tryz.underlying336,rfl,rfl,by kernel_rfl⟩,⟨⟨_,_,Go.Proofs.Tryz.underlying336,rfl,rfl⟩,⟨⟨_,_,Go.Proofs.Tryz.underlying336,rfl,rfl,by kernel_rfl⟩,⟨⟨_,_,Go.Proofs.Tryz.underlying336,rfl,rfl⟩,trivial⟩⟩⟩⟩⟩⟩,trivial⟩⟩⟩⟩⟩⟩⟩⟩⟩⟩⟩⟩⟩⟩⟩⟩⟩⟩⟩⟩⟩⟩⟩⟩
 el:=⟨⟨Go.Proofs.Tryz.underlying22,_,_,ti9,rfl,by decide⟩,⟨⟨Go.Proofs.Tryz.underlying24,_,_,d1k,rfl,by decide⟩,⟨⟨Go.Proofs.Tryz.underlying25,_,_,d1p,rfl,by decide⟩,⟨⟨Go.Proofs.Tryz.underlying29,_,_,d1w,rfl,by decide⟩,⟨⟨Go.Proofs.Tryz.underlying36,_,_,ti3,rfl,by decide⟩,⟨⟨Go.Proofs.Tryz.underlying38,_,_,d1i,rfl,by decide⟩,⟨⟨Go.Proofs.Tryz.underlying39,_,_,c7s,rfl,by decide⟩,⟨⟨Go.Proofs.Tryz.underlying40,_,_,c7e,rfl,by decide⟩,⟨⟨Go.Proofs.Tryz.underlying45,_,_,d0Q,rfl,by decide⟩,⟨⟨Go.Proofs.Tryz.underlying57,_,_,d0U,rfl,by decide⟩,⟨⟨Go.Proofs.Tryz.underlying62,_,_,d0S,rfl,by decide⟩,⟨⟨Go.Proofs.Tryz.underlying64,_,_,c7B,rfl,by decide⟩,⟨⟨Go.Proofs.Tryz.underlying92,_,_,ti4,rfl,by decide⟩,⟨⟨Go.Proofs.Tryz.underlying111,_,_,ti2,rfl,by decide⟩,⟨⟨Go.Proofs.Tryz.underlying184,_,_,c7i,rfl,by decide⟩,⟨⟨Go.Proofs.Tryz.underlying185,_,_,c7C,rfl,by decide⟩,⟨⟨Go.Proofs.Tryz.underlying191,_,_,c7f,rfl,by decide⟩,⟨⟨Go.Proofs.Tryz.underlying198,_,_,ti5,rfl,by decide⟩,⟨⟨Go.Proofs.Tryz.underlying211,_,_,c7D,rfl,by decide⟩,⟨⟨Go.Proofs.Tryz.underlying217,_,_,c7o,rfl,by decide⟩,⟨⟨Go.Proofs.Tryz.underlying219,_,_,c7x,rfl,by decide⟩,⟨⟨Go.Proofs.Tryz.underlying234,_,_,c7a,rfl,by decide⟩,⟨⟨Go.Proofs.Tryz.underlying253,_,_,c7y,rfl,by decide⟩,⟨⟨Go.Proofs.Tryz.underlying269,_,_,c7p,rfl,by decide⟩,⟨⟨Go.Proofs.Tryz.underlying293,_,_,c7d,rfl,by decide⟩,⟨⟨Go.Proofs.Tryz.underlying297,_,_,c7t,rfl,by decide⟩,⟨⟨Go.Proofs.Tryz.underlying330,_,_,c7w,rfl,by decide⟩,trivial⟩⟩⟩⟩⟩⟩⟩⟩⟩⟩⟩⟩⟩⟩⟩⟩⟩⟩⟩⟩⟩⟩⟩⟩⟩⟩⟩
 str:=⟨Go.Proofs.Tryz.underlying9,trivial⟩
 bool:=⟨Go.Proofs.Tryz.underlying4,trivial⟩
 ik:=⟨Go.Proofs.Tryz.underlying2,⟨Go.Proofs.Tryz.underlying3,⟨Go.Proofs.Tryz.underlying5,⟨Go.Proofs.Tryz.underlying135,⟨Go.Proofs.Tryz.underlying165,trivial⟩⟩⟩⟩⟩
 inf:=⟨⟨_,ti2,fun X c σ=>RG.cns rfl Y8 (RG.nl)⟩,⟨⟨_,ti3,fun X c σ=>RG.cns rfl Y8 (RG.nl)⟩,⟨⟨_,ti4,fun X c σ=>RG.cns rfl a0H (RG.nl)⟩,⟨⟨_,ti5,fun X c σ=>RG.cns rfl Y8 (RG.nl)⟩,⟨⟨_,ti9,fun X c σ=>RG.cns rfl a4n (RG.nl)⟩,⟨⟨_,d6o,fun X c σ=>RG.cns rfl k8 (RG.nl)⟩,⟨⟨_,d7l,fun X c σ=>RG.cns rfl k8 (RG.nl)⟩,⟨⟨_,d1k,fun X c σ=>RG.cns rfl k8 (RG.cns rfl Y8 (RG.nl))⟩,⟨⟨_,d1w,fun X c σ=>RG.cns rfl k8 (RG.nl)⟩,⟨⟨_,d6S,fun X c σ=>RG.cns rfl k8 (RG.nl)⟩,⟨⟨_,d6q,fun X c σ=>RG.cns rfl k8 (RG.nl)⟩,⟨⟨_,d1i,fun X c σ=>RG.cns rfl Y8 (RG.cns rfl Y8 (RG.cns rfl a4n (RG.cns rfl k8 (RG.cns rfl k8 (RG.cns rfl k8 (RG.cns rfl k8 (RG.nl)))))))⟩,⟨⟨_,d0Q,fun X c σ=>RG.cns rfl k8 (RG.cns rfl Y8 (RG.cns rfl k8 (RG.cns rfl Y8 (RG.nl))))⟩,⟨⟨_,d0U,fun X c σ=>RG.cns rfl Y8 (RG.cns rfl Y8 (RG.nl))⟩,⟨⟨_,d7b,fun X c σ=>RG.cns rfl k8 (RG.nl)⟩,⟨⟨_,d0S,fun X c σ=>RG.cns rfl a4n (RG.cns rfl k8 (RG.cns rfl Y8 (RG.nl)))⟩,⟨⟨_,d6Q,fun X c σ=>RG.cns rfl k8 (RG.nl)⟩,⟨⟨_,d64,fun X c σ=>RG.cns rfl Y8 (RG.cns rfl Y8 (RG.nl))⟩,⟨⟨_,d1p,fun X c σ=>RG.cns rfl Y8 (RG.cns rfl Y8 (RG.cns rfl Y8 (RG.cns rfl a4n (RG.cns rfl k8 (RG.cns rfl k8 (RG.cns rfl Y8 (RG.cns rfl Y8 (RG.nl))))))))⟩,⟨⟨_,d65,fun X c σ=>RG.cns rfl k8 (RG.cns rfl Y8 (RG.nl))⟩,⟨⟨_,c7i,fun X c σ=>RG.cns rfl k8 (RG.cns rfl k8 (RG.cns rfl a0H (RG.nl)))⟩,⟨⟨_,c7e,fun X c σ=>RG.cns rfl k8 (RG.cns rfl a0H (RG.cns rfl Y8 (RG.cns rfl Y8 (RG.cns rfl a4n (RG.cns rfl k8 (RG.cns rfl k8 (RG.cns rfl k8 (RG.cns rfl k8 (RG.nl)))))))))⟩,⟨⟨_,c7s,fun X c σ=>RG.cns rfl Y8 (RG.cns rfl a4n (RG.nl))⟩,⟨⟨_,c7B,fun X c σ=>RG.cns rfl Y8 (RG.cns rfl a4n (RG.cns rfl Y8 (RG.cns rfl a0H (RG.nl))))⟩,⟨⟨_,d4o,fun X c σ=>RG.cns rfl b4m (RG.nl)⟩,⟨⟨_,d4K,fun X c σ=>RG.cns rfl b4m (RG.cns rfl b4m (RG.nl))⟩,⟨⟨_,d4X,fun X c σ=>RG.cns rfl k8 (RG.nl)⟩,⟨⟨_,c7m,fun X c σ=>RG.cns rfl k8 (RG.nl)⟩,⟨⟨_,c7o,fun X c σ=>RG.cns rfl Y8 (RG.cns rfl Y8 (RG.cns rfl a4n (RG.cns rfl k8 (RG.cns rfl k8 (RG.cns rfl k8 (RG.cns rfl k8 (RG.cns rfl k8 (RG.cns rfl k8 (RG.cns rfl k8 (RG.nl))))))))))⟩,⟨⟨_,c7C,fun X c σ=>RG.cns rfl Y8 (RG.cns rfl Y8 (RG.cns rfl a4n (RG.cns rfl k8 (RG.cns rfl k8 (RG.cns rfl k8 (RG.cns rfl k8 (RG.cns rfl k8 (RG.cns rfl k8 (RG.cns rfl k8 (RG.cns rfl k8 (RG.nl)))))))))))⟩,⟨⟨_,d4j,fun X c σ=>RG.cns rfl a0H (RG.cns rfl k8 (RG.nl))⟩,⟨⟨_,c7D,fun X c σ=>RG.cns rfl Y8 (RG.cns rfl Y8 (RG.cns rfl k8 (RG.cns rfl a0H (RG.cns rfl k8 (RG.cns rfl k8 (RG.cns rfl k8 (RG.cns rfl k8 (RG.cns rfl k8 (RG.nl)))))))))⟩,⟨⟨_,c7f,fun X c σ=>RG.cns rfl k8 (RG.nl)⟩,⟨⟨_,c7x,fun X c σ=>RG.cns rfl k8 (RG.cns rfl a0H (RG.cns rfl k8 (RG.cns rfl k8 (RG.cns rfl a0H (RG.nl)))))⟩,⟨⟨_,c7a,fun X c σ=>RG.cns rfl Y8 (RG.cns rfl Y8 (RG.nl))⟩,⟨⟨_,c7y,fun X c σ=>RG.cns rfl k8 (RG.cns rfl k8 (RG.cns rfl k8 (RG.cns rfl k8 (RG.nl))))⟩,⟨⟨_,c7p,fun X c σ=>RG.cns rfl k8 (RG.nl)⟩,⟨⟨_,d4r,fun X c σ=>RG.cns rfl k8 (RG.nl)⟩,⟨⟨_,d4m,fun X c σ=>RG.cns rfl k8 (RG.nl)⟩,⟨⟨_,c7d,fun X c σ=>RG.cns rfl k8 (RG.cns rfl k8 (RG.cns rfl k8 (RG.cns rfl k8 (RG.cns rfl k8 (RG.cns rfl a0H (RG.cns rfl k8 (RG.cns rfl k8 (RG.cns rfl a0H (RG.cns rfl k8 (RG.nl))))))))))⟩,⟨⟨_,c7t,fun X c σ=>RG.cns rfl Y8 (RG.cns rfl k8 (RG.cns rfl k8 (RG.cns rfl a0H (RG.nl))))⟩,⟨⟨_,d4h,fun X c σ=>RG.cns rfl a0H (RG.cns rfl k8 (RG.nl))⟩,⟨⟨_,d4Y,fun X c σ=>RG.cns rfl k8 (RG.nl)⟩,⟨⟨_,d4l,fun X c σ=>RG.cns rfl b4m (RG.nl)⟩,⟨⟨_,c7w,fun X c σ=>RG.cns rfl Y8 (RG.cns rfl a0H (RG.cns rfl Y8 (RG.nl)))⟩,trivial⟩⟩⟩⟩⟩⟩⟩⟩⟩⟩⟩⟩⟩⟩⟩⟩⟩⟩⟩⟩⟩⟩⟩⟩⟩⟩⟩⟩⟩⟩⟩⟩⟩⟩⟩⟩⟩⟩⟩⟩⟩⟩⟩⟩⟩
 st:=⟨.inl ⟨_,Go.Proofs.Tryz.underlying27,by kernel_rfl⟩,⟨.inl ⟨_,Go.Proofs.Tryz.underlying42,by kernel_rfl⟩,⟨.inl ⟨_,Go.Proofs.Tryz.underlying51,by kernel_rfl⟩,⟨.inl ⟨_,Go.Proofs.Tryz.underlying56,by kernel_rfl⟩,⟨.inl ⟨_,Go.Proofs.Tryz.underlying61,by kernel_rfl⟩,⟨.inr (d11 Go.Proofs.Tryz.underlying65 ti3 rfl),⟨.inl ⟨_,Go.Proofs.Tryz.underlying67,by kernel_rfl⟩,⟨.inl ⟨_,Go.Proofs.Tryz.underlying72,by kernel_rfl⟩,⟨.inl ⟨_,Go.Proofs.Tryz.underlying100,by kernel_rfl⟩,⟨.inl ⟨_,Go.Proofs.Tryz.underlying126,by kernel_rfl⟩,⟨.inl ⟨_,Go.Proofs.Tryz.underlying128,by kernel_rfl⟩,⟨.inl ⟨_,Go.Proofs.Tryz.underlying168,by kernel_rfl⟩,⟨.inl ⟨_,Go.Proofs.Tryz.underlying190,by kernel_rfl⟩,⟨.inl ⟨_,Go.Proofs.Tryz.underlying193,by kernel_rfl⟩,⟨.inl ⟨_,Go.Proofs.Tryz.underlying214,by kernel_rfl⟩,⟨.inl ⟨_,Go.Proofs.Tryz.underlying216,by kernel_rfl⟩,⟨.inl ⟨_,Go.Proofs.Tryz.underlying237,by kernel_rfl⟩,⟨.inl ⟨_,Go.Proofs.Tryz.underlying252,by kernel_rfl⟩,⟨.inl ⟨_,Go.Proofs.Tryz.underlying299,by kernel_rfl⟩,⟨.inl ⟨_,Go.Proofs.Tryz.underlying302,by kernel_rfl⟩,⟨.inl ⟨_,Go.Proofs.Tryz.underlying320,by kernel_rfl⟩,⟨.inl ⟨_,Go.Proofs.Tryz.underlying336,by kernel_rfl⟩,trivial⟩⟩⟩⟩⟩⟩⟩⟩⟩⟩⟩⟩⟩⟩⟩⟩⟩⟩⟩⟩⟩⟩
 eq:=⟨fun X c σ ls ms r cs ds h1 h2 h3=>eqT 65 a7W (fun h k=>d78 h k) (by kernel_rfl) (by decide) h1 h2 h3,⟨fun X c σ ls ms r cs ds h1 h2 h3=>eqT 126 a2p (fun h k=>d7O h k) (by kernel_rfl) (by decide) h1 h2 h3,trivial⟩⟩
 arr:=⟨⟨Go.Proofs.Tryz.underlying65,by kernel_rfl⟩,⟨⟨Go.Proofs.Tryz.underlying296,by kernel_rfl⟩,trivial⟩⟩
 u8:=⟨⟨Go.Proofs.Tryz.underlying5,fun y=>⟨y,rfl⟩⟩,trivial⟩
 mp:=⟨⟨_,_,_,_,_,Go.Proofs.Tryz.underlying106,Go.Proofs.Tryz.underlying9,ti3,fun x h σ=>by cases h; exact rfl⟩,⟨⟨_,_,_,_,_,Go.Proofs.Tryz.underlying166,Go.Proofs.Tryz.underlying9,c7m,fun x h σ=>by cases h; exact ⟨none,0,rfl,Sl.nil_ _ _ _ (d8w _)⟩⟩,⟨⟨_,_,_,_,_,Go.Proofs.Tryz.underlying254,Go.Proofs.Tryz.underlying9,ti4,fun x h σ=>by cases h; exact rfl⟩,trivial⟩⟩⟩
 fb:=⟨⟨_,_,Go.Proofs.Tryz.func37,rfl,by kernel_rfl⟩,⟨⟨_,_,Go.Proofs.Tryz.func52,rfl,by kernel_rfl⟩,⟨⟨_,_,Go.Proofs.Tryz.func55,rfl,by kernel_rfl⟩,⟨⟨_,_,Go.Proofs.Tryz.func56,rfl,by kernel_rfl⟩,⟨⟨_,_,Go.Proofs.Tryz.func57,rfl,by kernel_rfl⟩,⟨⟨_,_,Go.Proofs.Tryz.func64,rfl,by kernel_rfl⟩,⟨⟨_,_,Go.Proofs.Tryz.func135,rfl,by kernel_rfl⟩,⟨⟨_,_,Go.Proofs.Tryz.func137,rfl,by kernel_rfl⟩,⟨⟨_,_,Go.Proofs.Tryz.func162,rfl,by kernel_rfl⟩,⟨⟨_,_,Go.Proofs.Tryz.func194,rfl,by kernel_rfl⟩,⟨⟨_,_,Go.Proofs.Tryz.func197,rfl,by kernel_rfl⟩,⟨⟨_,_,Go.Proofs.Tryz.func219,rfl,by kernel_rfl⟩,⟨⟨_,_,Go.Proofs.Tryz.func227,rfl,by kernel_rfl⟩,⟨⟨_,_,Go.Proofs.Tryz.func233,rfl,by kernel_rfl⟩,⟨⟨_,_,Go.Proofs.Tryz.func285,rfl,by kernel_rfl⟩,⟨⟨_,_,Go.Proofs.Tryz.func286,rfl,by kernel_rfl⟩,trivial⟩⟩⟩⟩⟩⟩⟩⟩⟩⟩⟩⟩⟩⟩⟩⟩
theorem a5I:TabOk d8m tb:=c7U d6j
theorem mixed:(d8m).follows .mixedOrders=true:=by kernel_rfl
end Go.Qx
end
section
open Array renaming getElem_append->d9Y,getElem_ofFn->d9D,length_toList->d8R,replicate->d94
open List renaming getD->d9r,getElem?_eq_getElem->d8n,getElem?_eq_none->d8U,map_cons->d8O,nil_append->d9y
open Nat renaming add_zero->d9h,ble->d89,blt->d8V,le_of_ble_eq_true->d8N,le_refl->d8r,le_trans->d8C,one_mul->d90
namespace Go.Qx
open Go Go.RowKit Go.Sx
structure Bw (B:Nat)(w w':World):Prop where
 below:Below B w w'
 drawn:w.drawn<=w'.drawn
theorem Bw.refl (B:Nat)(w:World):Bw B w w:=⟨Below.refl B w,d8r _⟩
theorem Bw.trans {B:Nat}{a b c:World}(h:Bw B a b)(k:Bw B b c):Bw B a c:=⟨h.below.trans k.below,d8C h.drawn k.drawn⟩
theorem Bw.setCells {B b:Nat}(hb:B<=b)(o:Nat)(vs:List Value)(w:World):Bw B w (w.setCells b o vs):=by
 obtain ⟨r1,r2,r3⟩:=b1m b vs o w
 exact ⟨⟨r1,r2,r3,Nat.le_of_eq (a8b b vs o w).symm,fun k hk=>a2G b vs o w k (by omega)⟩,Nat.le_of_eq (a9T b vs o w).symm⟩
section
variable {P:Program}{ops:Array Oper}{Q:Exit->Act->World->Prop}{n:Nat}{F:Fr}{rest:List Oper}{d:Option Nat}{ty:TypeId}{pos:String}{aft:Array Edge}{w:World}
theorem c2j {T T':TypeId}{x y:Operand}{b:Nat}{cs:List Value}(hb:w.heap[b]?=some (.cells cs.toArray T' (0,0)))(o:Nat)(v:Value)(hx:ev F x=.pointer (some ⟨b,o,none⟩))(hy:ev F y=v)
 (hkx:Q2 n x=true) (hky:Q2 n y=true) (hv:v.cells.toList=[v]) (hT:(P.info? T).map (·.size)=some 1) (h1:v.oneCell'=true) (hl:o<cs.length)
 (h:wpList P ops Q rest (fr n (J9 F d undef)) (w.setCells b o [v])) :
 wpList P ops Q (⟨d,.store T x y,ty,pos,aft,none⟩::rest) (fr n F) w:=by
 have hsz:v.cells.size=1:=by rw [<- d8R,hv]; rfl
 refine b6w rfl (w.setCells b o [v]) ?_ h
 show Sem.run P (do Instr.storeAt T ((fr n F).eval x) ((fr n F).eval y); pure Next.skip) w=_
 rw [w8 hkx,w8 hky,hx,hy]
 have hst:=run_storeCells_cells (P:=P) b o [v] 0 w (fun j hj=>by
  have hj0:j=0:=by simp at hj; omega
  subst hj0
  simp only [World.cell?,hb,d9h]
  simp [d8n hl]) (fun j hj=>by simp [World.frozen?,hb]) (fun u hu=>by simp at hu; subst hu; exact h1)
 simp only [d9h] at hst
 simp only [Instr.storeAt,Instr.sureAddr,storeVar,Sem.run_bind,Sem.run_pure,Result.andThen_ok,Go.Sx.run_sizeOf hT,hsz,ne_eq,not_true_eq_false,if_false,hv,hst]
theorem c6w {x y:Operand}{t u:TypeId}{a b v:Value}{w':World}(hx:ev F x=a)(hy:ev F y=b)(hkx:Q2 n x=true)(hky:Q2 n y=true)(hr:(Builtin.append_ #[t,u] ty #[a,b]).run P w=.ok v w')
 (h:wpList P ops Q rest (fr n (J9 F d v)) w'):wpList P ops Q (⟨d,.call ⟨.builtin .append,#[x,y],#[t,u]⟩,ty,pos,aft,none⟩::rest) (fr n F) w :=
 J7 rfl v w' (by
  simp [execOp,resolve,invoke,builtin,w8 hkx,w8 hky,hx,hy,hr]) h
theorem c4t {src dst:TypeId}{x:Operand}{a v:Value}(hx:ev F x=a)(hkx:Q2 n x=true)(hr:(convert src dst a).run P w=.ok v w)(h:wpList P ops Q rest (fr n (J9 F d v)) w) :
 wpList P ops Q (⟨d,.convert src dst x,ty,pos,aft,none⟩::rest) (fr n F) w:=b93 a v hx hkx hr h
theorem c3k {f:FuncId}{fn:Func}{c:Code}{vs:List Value}{R:Ending->World->Prop}(nt:Nat)(hf:P.funcs[f]?=some fn)(hb:fn.body=some c)(hn:fn.ntmps=nt)(hle:d89 vs.length nt=true)
 (h:c.wp P (bodyPost P fn R) (fr nt (a04 vs)) w):Calls P f vs.toArray w R:=by
 refine calls_of_wp hf hb ?_
 have hle':=d8N hle
 have e:(⟨vs.toArray++d94 (fn.ntmps-vs.toArray.size) undef,[]⟩:Act)=fr nt (a04 vs):=by
  rw [hn]
  simp only [fr]
  congr 1
  apply Array.ext
  ·simp; omega
  ·intro i h1 h2
   simp only [d9D,a04,d9Y]
   split
   ·rename_i hi; simp at hi; simp [d9r,d8n hi]
   ·rename_i hi; simp at hi; simp [d9r,d8U hi]
 rw [e]
 exact h
theorem d4a {fn:Func}{R:Ending->World->Prop}(hr:fn.results=#[])(h:R (.returned (.tuple #[])) w):bodyPost P fn R .normal (fr n F) w :=
 ⟨rfl,.tuple #[],by
  rw [b2e,hr]
  simp only [List.mapM_toArray,List.mapM_nil,Sem.run_bind,Sem.run_map,Result.andThen_ok,Sem.run_pure]
  rfl,h⟩
theorem d73 {fn:Func}{R:Ending->World->Prop}{t:Nat}(v:Value)(hr:fn.results=#[.tmp t])(ht:d8V t n=true)(hv:F t=v)(h:R (.returned v) w):bodyPost P fn R .ret (fr n F) w :=
 ⟨rfl,v,by
  have e1:=b2P (P:=P) (w:=w) (r:=.tmp t) (v:=v) ⟨ht,hv⟩
  rw [b2e,hr]
  simp only [List.mapM_toArray,List.mapM_cons,List.mapM_nil,Sem.run_bind,Sem.run_map,e1,Result.andThen_ok,Sem.run_pure]
  rfl,h⟩
theorem d7S {fn:Func}{R:Ending->World->Prop}{t u:Nat}(v x:Value)(hr:fn.results=#[.tmp t,.tmp u])(ht:d8V t n=true)(hu:d8V u n=true)(hv:F t=v)(hx:F u=x)(h:R (.returned (.tuple #[v,x])) w):bodyPost P fn R .ret (fr n F) w :=
 ⟨rfl,.tuple #[v,x],by
  have e1:=b2P (P:=P) (w:=w) (r:=.tmp t) (v:=v) ⟨ht,hv⟩
  have e2:=b2P (P:=P) (w:=w) (r:=.tmp u) (v:=x) ⟨hu,hx⟩
  rw [b2e,hr]
  simp only [List.mapM_toArray,List.mapM_cons,List.mapM_nil,Sem.run_bind,Sem.run_map,e1,e2,Result.andThen_ok,Sem.run_pure]
  rfl,h⟩
theorem d4H {T E:TypeId}{x y:Operand}{p:Option Addr}(hT:P.underlying T=some (.pointer E)) :
 Z7 P w (do eqGuard .eql T x y (.pointer p) (.pointer none); binOp .eql T (.pointer p) (.pointer none)) (.bool p.isNone):=by
 have h:∀ d:Nat,(Op.equalIn (d+1) T (.pointer p) (.pointer none)).run P w=.ok p.isNone w:=fun d=>by
  cases p<;>simp [Op.equalIn,run_underlying hT]
 show Sem.run P (do eqGuard .eql T x y (.pointer p) (.pointer none); pure (Value.bool (<- Op.equalIn 10000 T (.pointer p) (.pointer none)))) w=_
 have hg:eqGuard .eql T x y (.pointer p) (.pointer none)=pure ():=rfl
 rw [hg]
 simp only [Sem.run_bind,Sem.run_pure,Result.andThen_ok,h 9999]
theorem d5E {T E:TypeId}{x y:Operand}{a:Addr}{j:TypeInfo}(hT:P.underlying T=some (.pointer E))(hj:P.info? E=some j) :
 Z7 P w (do eqGuard .neq T x y (.pointer (some a)) (.pointer (some a)); binOp .neq T (.pointer (some a)) (.pointer (some a))) (.bool false):=by
 have hg:eqGuard .neq T x y (.pointer (some a)) (.pointer (some a))=pure ():=rfl
 show Sem.run P (do eqGuard .neq T x y (.pointer (some a)) (.pointer (some a)); binOp .neq T (.pointer (some a)) (.pointer (some a))) w=_
 rw [hg]
 simp only [Sem.run_bind,Sem.run_pure,Result.andThen_ok]
 exact Lib.run_neq_ptr_same w a hT hj
theorem a8u {f:FuncId}{xs:List Operand}{ats:Array TypeId}(vs:List Value){R:Ending->World->Prop}(hvs:xs.map (ev F)=vs)(hk:xs.all (Q2 n)=true)(hb:a1F P f)(hc:Calls P f vs.toArray w R)
 (hR:∀ e w',R e w'->∃ v,e=.returned v/\wpList P ops Q rest (fr n (J9 F d v)) w') :
 wpList P ops Q (⟨d,.call ⟨.value (.func f),xs.toArray,ats⟩,ty,pos,aft,none⟩::rest) (fr n F) w:=by
 subst hvs
 refine a8z (σ:=⟨w,fun _=>(0,0)⟩) (E:=fun _=>True) (R:=fun v τ=>wpList P ops Q rest (fr n (J9 F d v)) τ.w) rfl (.inl ⟨hb,hc.mono fun e w' h=>?_⟩) (c2S hk w) (fun v τ _ h=>h)
 obtain ⟨v,e1,h2⟩:=hR e w' h
 exact ⟨v,⟨w',fun _=>(0,0)⟩,e1,rfl,trivial,h2⟩
theorem Bw.grown {B:Nat}{w w':World}{v:Value}(h:w.grownBy w' v.ownBlock)(hd:w.drawn<=w'.drawn)(hv:∀ g,v.ownBlock=some g->B<=g)(hB:B<=w.heap.size):Bw B w w' :=
 ⟨⟨h.os,h.tape,h.output,h.size,fun k hk=>h.block k (by omega) (fun e=>by have:=hv k e.symm; omega)⟩,hd⟩
theorem c4n {B:Nat}{T:TypeId}{s n:Nat}{v:Value}{xs:List Value}(h:w.ownsRow B T s v n xs):∀ g,v.ownBlock=some g->B<=g:=by
 intro g hg
 rcases h.2 with ⟨rfl,_⟩ | ⟨g',cap,cur,rfl,hb,_⟩
 ·cases hg
 ·cases hg; exact hb
theorem d3Y {T E:TypeId}{i:TypeInfo}{z v:Value}{x:Operand}(hu:P.underlying T=some (.slice E))(hi:P.info? E=some i)(hz:i.zero=some z)(hs:i.size=1)(hzs:z.cells.size=1)(hx:ev F x=v)(hk:Q2 n x=true)(hv:v.cells.toList=[v])(hv2:v.cells.size=1)
 (h:wpList P ops Q rest (fr n (J9 F d (.slice (some ⟨w.heap.size,0,none⟩) 1 1))) (w.alloc (.cells #[v] E))) :
 wpList P ops Q (⟨d,.buildSlice T 1 #[(0,x)],ty,pos,aft,none⟩::rest) (fr n F) w:=by
 refine J7 rfl (.slice (some ⟨w.heap.size,0,none⟩) 1 1) (w.alloc (.cells #[v] E)) ?_ h
 have hfill:=c2o 1 (Nat.zero_lt_one) [v] 0 (((Array.range 1).map (z.cells[·%z.cells.size]!)).toList) (by simp) (by simp [hv2])
 simp only [Nat.zero_mul,List.take_zero,d9y,Array.toArray_toList] at hfill
 show Sem.run P (do pure (Next.value (<- Instr.buildSlice T 1 (#[(0,x)].map fun (i,x)=>(i,(fr n F).eval x))))) w=_
 have he:(#[((0:Nat),x)].map fun (i,x)=>(i,(fr n F).eval x))=#[(0,v)]:=by simp [w8 hk,hx]
 rw [he]
 have hrun:(Instr.buildSlice T 1 #[(0,v)]).run P w=.ok (.slice (some ⟨w.heap.size,0,none⟩) 1 1) (w.alloc (.cells #[v] E)):=by
  unfold Instr.buildSlice
  simp only [List.zipIdx_cons,List.zipIdx_nil,d8O,List.map_nil] at hfill
  rw [<- hs] at hfill
  simp only [Sem.run_bind,run_underlying hu,Result.andThen_ok,sizeOf,typeInfo,run_program,hi,Sem.run_pure,hs,d90,if_neg (show ¬ (1:Nat)>2^24 by decide),if_neg (show ¬ (1:Nat)=0 by decide),zeroValue,hz,newRow,run_newObj]
  rw [hs] at hfill
  simp only [hfill,Sem.run_pure,Result.andThen_ok,Sem.run_bind,run_newObj]
  simp [hv]
 rw [Sem.run_bind,hrun]
 rfl
end
end Go.Qx
end
section
open Array renaming getElem?_eq_some_iff->d9k
open Go.Proofs.Tryz renaming prog->d8m
open List renaming length_append->d8t
open Nat renaming le_refl->d8r,le_trans->d8C
open Option renaming map_eq_some_iff->d9f
namespace Go.Qx
open Go Go.RowKit Go.Sx
set_option maxHeartbeats 1600000
set_option maxRecDepth 100000
abbrev K0 (b:Nat):Value:=.pointer (some ⟨b,0,none⟩)
theorem c8V:a6r d8m 200 0 0:=⟨_,_,Go.Proofs.Tryz.underlying200,rfl,rfl,by kernel_rfl⟩
theorem c4L:a6r d8m 200 1 1:=⟨_,_,Go.Proofs.Tryz.underlying200,rfl,rfl,by kernel_rfl⟩
theorem c8h:X8 d8m 197:=⟨_,Go.Proofs.Tryz.underlying197,rfl,by kernel_rfl⟩
theorem c8G:X8 d8m 198:=⟨_,Go.Proofs.Tryz.underlying198,rfl,by kernel_rfl⟩
theorem d39 (x:Value)(w:World):(callFunc 185 [x].toArray).run d8m w=.ok (.value x) w:=by
 have hn:Extern.findNext Go.Proofs.Tryz.f185=none:=by kernel_rfl
 have he:Extern.find Go.Proofs.Tryz.f185=some Extern.AbiNoEscape.same:=by kernel_rfl
 rw [run_callFunc_extern Go.Proofs.Tryz.func185 (by kernel_rfl) (by kernel_rfl) hn he]
 rfl
theorem d4G {b B:Nat}{bs:List Value}{p:Value}{w:World}(hp:p=.pointer none\/p=K0 b)(h:Lib.BuilderAt 200 5 B b p bs w) :
 Calls d8m 165 [K0 b].toArray w fun e w'=>e=.returned (.tuple #[])/\Lib.BuilderAt 200 5 B b (K0 b) bs w'/\Bw B w w':=by
 obtain ⟨j,hj,hjs⟩:∃ j,d8m.info? 200=some j/\j.size=2:=d9f.1 (by kernel_rfl)
 obtain ⟨hB,v,hb,hown,hne⟩:=h
 have c0:w.cell? ⟨b,0,none⟩=some p:=by simp [World.cell?,hb]
 refine c3k 20 Go.Proofs.Tryz.func165 rfl rfl rfl ?_
 refine wp_seq (wp_region_lit ?_)
 refine a0p (K0 b) rfl rfl ?_
 refine a2P ⟨b,0,none⟩ rfl rfl ?_
 refine a0m b 0 0 0 rfl rfl c8V rfl ?_
 refine a2X b 0 p rfl rfl (a2u c8h c0) ?_
 rcases hp with rfl | rfl
 ·refine a7t (.pointer none) (.pointer none) (.bool true) rfl rfl rfl rfl (d4H Go.Proofs.Tryz.underlying197) ?_
  refine wpList_nil (K8 ?_)
  refine b6r rfl rfl rfl (wp_region_lit ?_)
  refine a0p (K0 b) rfl rfl ?_
  refine a0p (K0 b) rfl rfl ?_
  have hsh:w.shape? b=some (200,2):=by simp [World.shape?,hb]
  refine c4t rfl rfl (Lib.run_to_unsafe (e:=200) (cells:=2) w ⟨b,0,none⟩ Go.Proofs.Tryz.underlying197 Go.Proofs.Tryz.underlying248 hj (by rw [hjs]; decide) hsh (Nat.zero_lt_succ 1)) ?_
  refine d51 [K0 b] (K0 b) rfl rfl (d39 _ w) ?_
  refine c4t rfl rfl (Lib.run_from_unsafe (e:=200) (cells:=2) w ⟨b,0,none⟩ Go.Proofs.Tryz.underlying248 Go.Proofs.Tryz.underlying197 hj hsh (by kernel_rfl)) ?_
  refine a2P ⟨b,0,none⟩ rfl rfl ?_
  refine a0m b 0 0 0 rfl rfl c8V rfl ?_
  refine c2j (cs:=[.pointer none,v]) hb 0 (K0 b) rfl rfl rfl rfl rfl (by kernel_rfl) rfl (Nat.zero_lt_succ 1) ?_
  refine wpList_nil (d4a rfl ⟨rfl,⟨hB,v,?_,?_,hne⟩,Bw.setCells hB 0 _ w⟩)
  ·have:=a6l b 200 [K0 b] 0 w [.pointer none,v] hb (Nat.le_succ 1)
   exact this
  ·obtain ⟨h1,h2⟩:=hown
   refine ⟨h1,h2.imp id fun ⟨g,cap,cur,e,hg,hh,r⟩=>⟨g,cap,cur,e,hg,?_,r⟩⟩
   rw [a2G b _ 0 w g (by rintro rfl; rw [e] at hne; exact hne rfl)]
   exact hh
 ·refine a7t (K0 b) (.pointer none) (.bool false) rfl rfl rfl rfl (d4H Go.Proofs.Tryz.underlying197) ?_
  refine wpList_nil (K8 ?_)
  refine a9K rfl rfl rfl (wp_seq (wp_region_lit ?_))
  refine a0p (K0 b) rfl rfl ?_
  refine a2P ⟨b,0,none⟩ rfl rfl ?_
  refine a0m b 0 0 0 rfl rfl c8V rfl ?_
  refine a2X b 0 (K0 b) rfl rfl (a2u c8h c0) ?_
  refine a0p (K0 b) rfl rfl ?_
  refine a7t (K0 b) (K0 b) (.bool false) rfl rfl rfl rfl (d5E Go.Proofs.Tryz.underlying197 hj) ?_
  refine wpList_nil (K8 ?_)
  refine a9K rfl rfl rfl (wp_skip (d4a rfl ⟨rfl,⟨hB,v,hb,hown,hne⟩,Bw.refl B w⟩))
theorem d4e:a1F d8m 165:=⟨_,_,Go.Proofs.Tryz.func165,rfl,by kernel_rfl⟩
theorem d1l {b B:Nat}{bs:List Value}{w:World}(h:Lib.IsBuilder 200 5 B b bs w):∃ p,(p=.pointer none\/p=K0 b)/\Lib.BuilderAt 200 5 B b p bs w :=
 h.elim (fun h=>⟨_,.inl rfl,h⟩) (fun h=>⟨_,.inr rfl,h⟩)
theorem d6f {b B:Nat}{cs:List Value}{w w':World}{v v':Value}(hB:B<=b)(hb:w.heap[b]?=some (.cells #[K0 b,v] 200 (0,0)))(hne:v.ownBlock≠some b)(hg:w.grownBy w' v.ownBlock)(hown:w'.ownsRow B 5 1 v' cs.length cs)(hne':v'.ownBlock≠some b) :
 w'.heap[b]?=some (.cells #[K0 b,v] 200 (0,0))/\Lib.BuilderAt 200 5 B b (K0 b) cs (w'.setCells b 1 [v']):=by
 have hlt:b<w.heap.size:=(d9k.1 hb).1
 have h1:w'.heap[b]?=some (.cells #[K0 b,v] 200 (0,0)):=by rw [hg.block b hlt fun e=>hne e.symm]; exact hb
 refine ⟨h1,hB,v',?_,?_,hne'⟩
 ·exact a6l b 200 [v'] 1 w' [K0 b,v] h1 (d8r 2)
 ·obtain ⟨a1,a2⟩:=hown
  refine ⟨a1,a2.imp id fun ⟨g,cap,cur,e,hg,hh,r⟩=>⟨g,cap,cur,e,hg,?_,r⟩⟩
  rw [a2G b _ 1 w' g (by rintro rfl; rw [e] at hne'; exact hne' rfl)]
  exact hh
theorem d2F {b B:Nat}{T:TypeId}{cs:List Value}{w w':World}{v v':Value}{n:Nat}(hlt:b<w.heap.size)(hb:w.heap[b]?=some (.cells #[K0 b,v] 200 (0,0)))(hne:v.ownBlock≠some b)(hg:w.grownBy w' v.ownBlock)(hown:w'.ownsRow B 5 1 v' n cs):v'.ownBlock≠some b:=by
 intro e
 rcases hown.2 with ⟨rfl,_⟩ | ⟨g,cap,cur,rfl,_,hh,_⟩
 ·cases e
 ·cases e
  rw [hg.block g hlt fun e=>hne e.symm,hb] at hh
  cases hh
theorem bws {b B:Nat}{bs:List Value}{s:ByteArray}{w:World}(h:Lib.IsBuilder 200 5 B b bs w)(hlen:bs.length+s.size<=1000000000)(hBw:B<=w.heap.size) :
 Calls d8m 148 [K0 b,.string s].toArray w fun e w'=>(∃ v,e=.returned v)/\Lib.BuilderAt 200 5 B b (K0 b) (bs++Lib.strCells s) w'/\Bw B w w':=by
 obtain ⟨p,hp,h⟩:=d1l h
 obtain ⟨i,hi,hz⟩:∃ i,d8m.info? 5=some i/\(i.zero,i.size,i.bytes)=(some (.int .u8 0),1,1):=d9f.1 (by kernel_rfl)
 simp only [Prod.mk.injEq] at hz
 refine c3k 19 Go.Proofs.Tryz.func148 rfl rfl rfl ?_
 refine wp_seq (wp_region_lit ?_)
 refine a19 (.int .i64 0) rfl rfl ?_
 refine a19 .nilIface rfl rfl ?_
 refine wpList_nil (K8 (wp_seq (wp_region_lit ?_)))
 refine a0p (K0 b) rfl rfl ?_
 refine a8u [K0 b] rfl rfl d4e (d4G hp h) ?_
 rintro e w1 ⟨rfl,hat,hbw⟩
 refine ⟨_,rfl,?_⟩
 refine wpList_nil (K8 (wp_seq (wp_region_lit ?_)))
 obtain ⟨hB,v,hb,hown,hne⟩:=hat
 have c1:w1.cell? ⟨b,1,none⟩=some v:=by simp [World.cell?,hb]
 have hlt:b<w1.heap.size:=(d9k.1 hb).1
 refine a0p (K0 b) rfl rfl ?_
 refine a0p (K0 b) rfl rfl ?_
 refine a2P ⟨b,0,none⟩ rfl rfl ?_
 refine a0m b 0 1 1 rfl rfl c4L rfl ?_
 refine a2X b 1 v rfl rfl (a2u c8G c1) ?_
 refine a0p (.string s) rfl rfl ?_
 obtain ⟨v',w2,hr,hown',hg,_⟩:=Lib.run_append_own_string (P:=d8m) (w:=w1) B 198 9 198 5 i Go.Proofs.Tryz.underlying198 Go.Proofs.Tryz.underlying9 hi hz.1 hz.2.1 hz.2.2 v bs.length bs hown s (by unfold maxLen; omega) (by omega) (d8C hBw hbw.below.size)
 refine c6w rfl rfl rfl rfl hr ?_
 have hd:=a7h _ hr
 have hl:bs.length+s.size=(bs++Lib.strCells s).length:=by rw [d8t,Lib.strCells_length]
 rw [hl] at hown'
 have hne':=d2F (T:=5) hlt hb hne hg hown'
 obtain ⟨hb2,hat2⟩:=d6f hB hb hne hg hown' hne'
 refine a2P ⟨b,0,none⟩ rfl rfl ?_
 refine a0m b 0 1 1 rfl rfl c4L rfl ?_
 have hv1:v'.cells.toList=[v']/\v'.oneCell'=true:=by
  rcases hown'.2 with ⟨rfl,_⟩ | ⟨g,cap,cur,rfl,_⟩
  ·exact ⟨rfl,rfl⟩
  ·exact ⟨rfl,rfl⟩
 refine c2j (cs:=[K0 b,v]) hb2 1 v' rfl rfl rfl rfl hv1.1 (by kernel_rfl) hv1.2 (Nat.lt_succ_self 1) ?_
 refine wpList_nil (K8 (wp_seq (wp_region_lit ?_)))
 refine a0p (.string s) rfl rfl ?_
 refine c8y s rfl rfl Go.Proofs.Tryz.underlying9 ?_
 refine a19 (.int .i64 (s.size:Int)) rfl rfl ?_
 refine a19 .nilIface rfl rfl ?_
 refine wpList_nil (K8 (wp_ret (d7S (.int .i64 (s.size:Int)) .nilIface rfl rfl rfl rfl rfl ⟨⟨_,rfl⟩,hat2,?_⟩)))
 exact hbw.trans ((Bw.grown hg hd (c4n hown) (d8C hBw hbw.below.size)).trans (Bw.setCells hB 1 _ w2))
theorem bwb {b B:Nat}{bs:List Value}{c:Int}{w:World}(h:Lib.IsBuilder 200 5 B b bs w)(hlen:bs.length+1<=1000000000)(hBw:B<=w.heap.size) :
 Calls d8m 147 [K0 b,.int .u8 c].toArray w fun e w'=>(∃ v,e=.returned v)/\Lib.BuilderAt 200 5 B b (K0 b) (bs++[.int .u8 c]) w'/\Bw B w w':=by
 obtain ⟨p,hp,h⟩:=d1l h
 obtain ⟨i,hi,hz⟩:∃ i,d8m.info? 5=some i/\(i.zero,i.size,i.bytes)=(some (.int .u8 0),1,1):=d9f.1 (by kernel_rfl)
 simp only [Prod.mk.injEq] at hz
 refine c3k 17 Go.Proofs.Tryz.func147 rfl rfl rfl ?_
 refine wp_seq (wp_region_lit ?_)
 refine a19 .nilIface rfl rfl ?_
 refine wpList_nil (K8 (wp_seq (wp_region_lit ?_)))
 refine a0p (K0 b) rfl rfl ?_
 refine a8u [K0 b] rfl rfl d4e (d4G hp h) ?_
 rintro e w1 ⟨rfl,hat,hbw⟩
 refine ⟨_,rfl,?_⟩
 refine wpList_nil (K8 (wp_seq (wp_region_lit ?_)))
 obtain ⟨hB,v,hb,hown,hne⟩:=hat
 have c1:w1.cell? ⟨b,1,none⟩=some v:=by simp [World.cell?,hb]
 have hlt:b<w1.heap.size:=(d9k.1 hb).1
 refine a0p (K0 b) rfl rfl ?_
 refine a0p (K0 b) rfl rfl ?_
 refine a2P ⟨b,0,none⟩ rfl rfl ?_
 refine a0m b 0 1 1 rfl rfl c4L rfl ?_
 refine a2X b 1 v rfl rfl (a2u c8G c1) ?_
 refine a0p (.int .u8 c) rfl rfl ?_
 refine d3Y (v:=.int .u8 c) Go.Proofs.Tryz.underlying198 hi hz.1 hz.2.1 rfl rfl rfl rfl rfl ?_
 have hbw1:Bw B w1 (w1.alloc (.cells #[.int .u8 c] 5)):=⟨(Below.refl _ _).alloc (d8C hBw hbw.below.size) _,d8r _⟩
 have hb1:(w1.alloc (.cells #[.int .u8 c] 5)).heap[b]?=some (.cells #[K0 b,v] 200 (0,0)):=by rw [heap_alloc_old _ _ hlt]; exact hb
 have hown1:(w1.alloc (.cells #[.int .u8 c] 5)).ownsRow B 5 1 v bs.length bs:=by
  obtain ⟨a1,a2⟩:=hown
  refine ⟨a1,a2.imp id fun ⟨g,cap,cur,e,hg,hh,r⟩=>⟨g,cap,cur,e,hg,?_,r⟩⟩
  rw [heap_alloc_old _ _ (d9k.1 hh).1]
  exact hh
 have hlt1:b<(w1.alloc (.cells #[.int .u8 c] 5)).heap.size:=(d9k.1 hb1).1
 have hBw1:=d8C (d8C hBw hbw.below.size) hbw1.below.size
 obtain ⟨v',w2,hr,hown',hg,_⟩:=run_append_own (P:=d8m) (w:=w1.alloc (.cells #[.int .u8 c] 5)) B 198 198 5 i (.int .u8 0) 1 1 Go.Proofs.Tryz.underlying198 hi hz.1 hz.2.1 hz.2.2 rfl Nat.zero_lt_one v bs.length bs hown1 ⟨w1.heap.size,0,none⟩ 1 1 [.int .u8 c] rfl (fun j u hj=>by
  have hj0:j=0:=by
   rcases j with _ | j
   ·rfl
   ·simp at hj
  subst hj0
  simp at hj
  subst hj
  rw [show (Addr.add ⟨w1.heap.size,0,none⟩ 0:Addr)=⟨w1.heap.size,0,none⟩ from rfl,World.cell?,heap_alloc_new]
  rfl) (fun u hu=>by simp at hu; subst hu; rfl) (by unfold maxLen; omega) (by omega) hBw1
 refine c6w rfl rfl rfl rfl hr ?_
 have hd:=a7h _ hr
 rw [show bs.length+1=(bs++[Value.int .u8 c]).length by simp] at hown'
 have hne':=d2F (T:=5) hlt1 hb1 hne hg hown'
 obtain ⟨hb2,hat2⟩:=d6f hB hb1 hne hg hown' hne'
 refine a2P ⟨b,0,none⟩ rfl rfl ?_
 refine a0m b 0 1 1 rfl rfl c4L rfl ?_
 have hv1:v'.cells.toList=[v']/\v'.oneCell'=true:=by
  rcases hown'.2 with ⟨rfl,_⟩ | ⟨g,cap,cur,rfl,_⟩
  ·exact ⟨rfl,rfl⟩
  ·exact ⟨rfl,rfl⟩
 refine c2j (cs:=[K0 b,v]) hb2 1 v' rfl rfl rfl rfl hv1.1 (by kernel_rfl) hv1.2 (Nat.lt_succ_self 1) ?_
 refine wpList_nil (K8 (wp_seq (wp_region_lit ?_)))
 refine a19 .nilIface rfl rfl ?_
 refine wpList_nil (K8 (wp_ret (d73 .nilIface rfl rfl rfl ⟨⟨_,rfl⟩,hat2,?_⟩)))
 exact hbw.trans (hbw1.trans ((Bw.grown hg hd (c4n hown1) hBw1).trans (Bw.setCells hB 1 _ w2)))
end Go.Qx
end
section
namespace Go.Proofs
open Go.RowKit
set_option maxRecDepth 100000
set_option maxHeartbeats 4000000 in
theorem Tryz.bstr1 {b g cap:Nat}{cur:Array Value}{p:Value}{l:List UInt8}{w:World}(hb:w.heap[b]?=some (.cells #[p,.slice (some ⟨g,0,none⟩) l.length cap] 200 (0,0)))(hg:w.heap[g]?=some (.cells cur 5 (0,0)))
 (h0:l≠[]) (hnc:l.length<=cap) (hcs:cur.size=cap) (hcm:l.length<=1000000000) (hc:∀ (j:Nat) (x:UInt8),l[j]?=some x->cur[j]?=some (Value.int IntKind.u8 (x.toNat:Int))) :
 Calls Tryz.prog 150 #[.pointer (some ⟨b,0,none⟩)] w fun e w'=>e=.returned (.string ⟨l.toArray⟩)/\w'=w.drew.freeze ⟨g,0,none⟩ l.length:=by
 have hl0:l.length≠0:=by simpa using h0
 have hb':w.drew.heap[b]?=some (.cells #[p,.slice (some ⟨g,0,none⟩) l.length cap] 200 (0,0)):=hb
 have hg':w.drew.heap[g]?=some (.cells cur 5 (0,0)):=hg
 have c1:w.drew.cell? ⟨b,1,none⟩=some (.slice (some ⟨g,0,none⟩) l.length cap):=by simp [World.cell?,hb']
 have hSD:(Builtin.unsafeSliceData_ #[198] 229 #[.slice (some ⟨g,0,none⟩) l.length cap]).run Tryz.prog w.drew=.ok (.pointer (some ⟨g,0,none⟩)) w.drew :=
  Lib.run_unsafeSliceData_row _ _ _ _ _ _ (by omega)
 have hUS:(Builtin.unsafeString_ #[229,3] 9 #[.pointer (some ⟨g,0,none⟩),.int .i64 l.length]).run Tryz.prog w.drew=.ok (.string ⟨l.toArray⟩) (w.drew.freeze ⟨g,0,none⟩ l.length) :=
  Lib.run_unsafeString_row w.drew 229 3 9 5 Tryz.underlying229 (by kernel_rfl) g cur.size (by simp [World.shape?,hg']) l h0 (by omega) (by omega) (fun j x hx=>by
   have:=hc j x hx
   have e:((⟨g,0,none⟩:Addr).add j)=⟨g,j,none⟩:=by rcases j with _ | j<;>simp [Addr.add]
   rw [e]
   simp [World.cell?,hg',this])
 go_enter Tryz.func150,Tryz.ntmps150
 go_wp2
 go_region
 all_goals (go_wp2; go_ret; exact ⟨rfl,rfl⟩)
set_option maxHeartbeats 4000000 in
theorem Tryz.bstr0 {b:Nat}{p:Value}{w:World}(hb:w.heap[b]?=some (.cells #[p,.slice none 0 0] 200 (0,0))) :
 Calls Tryz.prog 150 #[.pointer (some ⟨b,0,none⟩)] w fun e w'=>e=.returned (.string ⟨#[]⟩)/\w'=w.drew:=by
 have hb':w.drew.heap[b]?=some (.cells #[p,.slice none 0 0] 200 (0,0)):=hb
 have c1:w.drew.cell? ⟨b,1,none⟩=some (.slice none 0 0):=by simp [World.cell?,hb']
 have hSD:(Builtin.unsafeSliceData_ #[198] 229 #[.slice none 0 0]).run Tryz.prog w.drew=.ok (.pointer none) w.drew:=Lib.run_unsafeSliceData_nil _ _ _ _ _
 have hUS:(Builtin.unsafeString_ #[229,3] 9 #[.pointer none,.int .i64 0]).run Tryz.prog w.drew=.ok (.string .empty) w.drew:=Lib.run_unsafeString_none _ _ _ _ _
 go_enter Tryz.func150,Tryz.ntmps150
 go_wp2
 go_region
 all_goals (go_wp2; go_ret; exact ⟨rfl,rfl⟩)
end Go.Proofs
end
section
open Bool renaming and_eq_true->d8p
open List renaming append_nil->d82
open Nat renaming beq->d8u,le_refl->d8r,le_trans->d8C,zero_le->d8w
open Option renaming isNone_iff_eq_none->e0g
namespace Go.Qx
open Go Go.RowKit Go.Sx
@[reducible] def c0T {γ β:Type} [Rp β] (B:Nat) (to:γ->List β):Rp γ where
 sz:=1
 pos:=Nat.one_pos
 agg:=true
 cells:=fun σ x cs=>∃ A c,cs=[.slice A (to x).length c]/\Sl σ (to x) A c/\(to x≠[]->∃ g,A=some ⟨g,0,none⟩/\B<=g)
 len:=fun ⟨_,_,h,_⟩=>by rw [h]; rfl
 one:=fun ⟨_,_,h,_⟩ v hv=>by rw [h] at hv; simp at hv; subst hv; rfl
 mono:=fun k ⟨A,c,h,hs,hb⟩=>⟨A,c,h,hs.mono k,hb⟩
 lo:=B
def LoL (n:Nat):List TE->Prop
 | []=>True
 | e::r=>e.rp.lo<=n/\LoL n r
theorem c6l {n:Nat}:∀ {l:List TE},LoL n l->∀ E,(a82 l E).rp.lo<=n
 | [],_,_=>d8w _
 | e::r,h,E=>by
   have k:∀ t:TE,t=e\/t=a82 r E->t.rp.lo<=n:=fun t ht=>by
    rcases ht with rfl | rfl
    ·exact h.1
    ·exact c6l h.2 E
   refine k _ ?_
   simp only [a82]
   cases d8u e.E E with
   | true=>exact .inl rfl
   | false=>exact .inr rfl
theorem d16 {γ β:Type} [a:Rp β] {B:Nat}{to:γ->List β}{σ:S}{x:γ}{A:Option Addr}{c:Nat}(h1:Sl σ (to x) A c)(h2:to x≠[]->∃ g,A=some ⟨g,0,none⟩/\B<=g):(c0T B to).cells σ x [.slice A (to x).length c]:=⟨A,c,rfl,h1,h2⟩
theorem c8I {γ β:Type} [a:Rp β] {B:Nat}{to:γ->List β}{σ:S}:∀ {xs:List γ} {cs:List Value},@J6 γ (c0T B to) σ xs cs->@J6 γ (a2a to (@rpList β a)) σ xs cs
 | [],_,h=>h
 | _::_,_,⟨c,d,e,⟨A,k,e2,h5,_⟩,h6⟩=>⟨c,d,e,⟨A,k,e2,h5⟩,c8I h6⟩
theorem d66 {γ β:Type} [a:Rp β] {B:Nat}{to:γ->List β}{σ:S}{xs:List γ}{A:Option Addr}{c:Nat}(h:@Sl γ (c0T B to) σ xs A c):@Sl γ (a2a to (@rpList β a)) σ xs A c:=by
 obtain ⟨h1,h2,cs,h3,h4⟩:=h
 exact ⟨h1,h2,cs,c8I h3,h4⟩
section
variable {I:TypeId->Type} [∀ E,Rp (I E)] {P:Program}
def d7x {γ:Type}{G:TypeId}(B:Nat)(to:γ->List (I G)):Fd I γ (c0T B to) where
 lf:=fun x=>[.sl G (to x) false]
 pa:=fun _ _ _=>none
 lf_ok:=fun X c σ x cs ⟨A,k,e,h,_⟩=>by
  rw [e]
  exact RG.cns rfl (by simp only [RV]; exact ⟨A,k,rfl,h,fun h=>by cases h⟩) RG.nl
 pa_ok:=fun ρ ls f r h=>by cases h
theorem d7u {f:FuncId}{T1 T2 G E:TypeId}(B:Nat)(to:I E->List (I G))(mk:List (I G)->I E)(hto:∀ x,to (mk x)=x)
 (hcells:∀ (σ:S) (x:I E) (A:Option Addr) (c:Nat),Sl σ (to x) A c->(to x≠[]->∃ g,A=some ⟨g,0,none⟩/\B<=g)->Rp.cells σ x [.slice A (to x).length c])
 {run:c2K I [.d (.int .i64),.d (.sl T1),.d (.sl T1),.d (.sl T1),.bor T2] (TyT I [.lvs [.row G false],.k (.d .bool)])}
 (h:Z3 P (⟨f,[.d (.int .i64),.d (.sl T1),.d (.sl T1),.d (.sl T1),.bor T2],[.lvs [.row G false],.k (.d .bool)],run⟩:Row I)) :
 a26 P (⟨f,[.d (.int .i64),.d (.sl T1),.d (.sl T1),.d (.sl T1),.bor T2],[.k (.d (.dat E)),.k (.d .bool)],fun a1 a2 a3 a4 a5=>(run a1 a2 a3 a4 a5).bind fun q=>some (mk q.1,q.2)⟩:Row I) (fun w _=>B<=w.heap.size):=by
 intro σ a vs pls res hA hC hnd happ
 have happ':((run a.1 a.2.1 a.2.2.1 a.2.2.2.1 a.2.2.2.2.1).bind fun q=>some (mk q.1,q.2))=some res:=happ
 obtain ⟨q,hq,hr⟩:=bind_some happ'
 cases hr
 have hA0:=hA
 obtain ⟨v1,_,_,_,rfl,rfl,⟨_,rfl⟩,v2,_,_,_,rfl,rfl,⟨_,rfl⟩,v3,_,_,_,rfl,rfl,⟨_,rfl⟩,v4,_,_,_,rfl,rfl,⟨_,rfl⟩,v5,_,_,_,rfl,rfl,⟨A5,k5,_,_,rfl⟩,rfl,rfl⟩:=hA0
 refine a0Z.mono (h σ a _ _ q hA hnd hq) rfl fun v τ hE ⟨ws,us,pls',hp⟩=>?_
 have hus:us=[]:=hp.out
 have tt:TT τ ([.lvs [.row G false],.k (.d .bool)]:List V) q (ws++us) pls':=hp.tt
 obtain ⟨w1,r1,p1,p2,e1,e2,⟨_,cs,e3,u1,e4,A,k,ow,e5,e6,hown⟩,w2,e7,hb,e8⟩:=tt
 subst hus
 subst e7
 subst e8
 subst e4
 subst e5
 subst e6
 rw [d82] at e1
 cases ow with
 | none =>
   rcases hown with ⟨h1,h2⟩ | ⟨h1,_⟩
   ·refine ⟨τ,rfl,hE,ws,[],[],hp.ret,hp.len,?_,rfl,List.nodup_nil,fun g hg=>by cases hg⟩
    refine ⟨w1,[w2],[],[],by rw [d82,e1],rfl,⟨⟨_,e3,?_⟩,rfl⟩,w2,rfl,hb,rfl⟩
    have:=hcells τ (mk q.1) A k (by rw [hto,h1,h2]; exact Sl.nil_ _ _ _ (d8w _)) (fun hn=>absurd ((hto q.1).trans h1) hn)
    rw [hto] at this
    exact this
   ·cases h1
 | some g =>
   have hown0:=hown
   obtain ⟨cur,cs',eA,hh,k1,k2,k3,k4,k5',k6⟩:=hown
   have hg:σ.N<=g:=by
    have:=(hp.own g (by rw [e2]; simp [ows])).1
    rcases this with h | h
    ·exact h
    ·simp [ows] at h
   let υ:S:=⟨τ.w,fun b=>if b=g then (q.1.length*Rp.sz (I G),(τ.L b).2) else τ.L b⟩
   have hL:∀ b,b≠g->υ.L b=τ.L b:=fun b hb=>by simp [υ,hb]
   have hLg:(υ.L g).1=q.1.length*Rp.sz (I G):=by simp [υ]
   have k6':(τ.L g).1=0:=k6
   have hw:Wext τ υ:=⟨d8r _,fun b _=>by
    by_cases eb:b=g
    ·subst eb; rw [k6']; exact d8w _
    ·rw [hL b eb]; exact d8r _,fun _ _ _ _ h=>h,d8r _,fun _ _ _ h=>h⟩
   have hE':Stp (fun b=>b∈ows _) σ υ:=⟨hE.wext.trans hw,hE.os,hE.tape,hE.output,fun b hb hn=>by
    have hbg:b≠g:=fun e=>by
     have hb':b<σ.w.heap.size:=hb
     have hg':σ.w.heap.size<=g:=hg
     omega
    obtain ⟨q1,q2⟩:=hE.block b hb hn
    exact ⟨q1,by rw [hL b hbg]; exact q2⟩⟩
   have hsl:Sl υ q.1 A k:=a0a.sl (ow:=some g) (E:=G) ⟨cur,cs',eA,hh,k1,k2,k3,k4.mono hw,k5',hLg⟩
   refine ⟨υ,rfl,hE',ws,[],[],hp.ret,hp.len,?_,rfl,List.nodup_nil,fun g hg=>by cases hg⟩
   refine ⟨w1,[w2],[],[],by rw [d82,e1],rfl,⟨⟨_,e3,?_⟩,rfl⟩,w2,rfl,DV.mono hw hb,rfl⟩
   have:=hcells υ (mk q.1) A k (by rw [hto]; exact hsl) (fun _=>⟨g,eA,d8C hC hg⟩)
   rw [hto] at this
   exact this
def b4i:List Code->Code->Code
 | [],b=>b
 | a::r,b=>.seq a (b4i r b)
def c7c (H:Hints I):List Code->Nat->Bool
 | [],_=>true
 | a::r,p=>(H.join p).isNone&&a1m H a (2*p)&&c7c H r (2*p+1)
theorem c80 {tb:Tab I}{disp:a0f I}{H:Hints I}{n:Nat}(ht:TabOk P tb)(hd:DispOk P disp)(hmx:P.follows .mixedOrders=true){rest:Code}:∀ (d8k:List Code) (p:Nat),c7c H d8k p=true ->
 ∀ (ρ:Type) (s:St I) (k:Ex->St I->Option ρ) (r:ρ) (X:Cxt) (c:Cx) (σ:S) (F:Fr) (Q:Exit->Act->World->Prop),X.P=P->a21 tb disp H (b4i d8k .skip) p ρ s k=some r->Rel X c σ s n F ->
 (∀ (e:Ex) (s':St I) (c':Cx) (τ:S) (F':Fr),e≠.normal->k e s'=some r->Cx.le c c'->Rel X c' τ s' n F'->Stp X.M σ τ->Q (a3A e) (fr n F') τ.w) ->
 (∀ (s':St I) (c':Cx) (τ:S) (F':Fr),k .normal s'=some r->Cx.le c c'->Rel X c' τ s' n F'->Stp X.M σ τ->rest.wp P Q (fr n F') τ.w)->(b4i d8k rest).wp P Q (fr n F) σ.w
 | [],_,_,ρ,s,k,r,X,c,σ,F,Q,_,hx,h,_,hh=>hh s c σ F hx (Cx.le_refl c) h (Stp.refl _ _)
 | a::d8k,p,hc,ρ,s,k,r,X,c,σ,F,Q,hX,hx,h,hk,hh=>by
   simp only [c7c,d8p] at hc
   have hj:H.join p=none:=e0g.1 hc.1.1
   have hx':a21 tb disp H a (2*p) ρ s (fun e s=>match e with
    | .normal=>a21 tb disp H (b4i d8k .skip) (2*p+1) ρ s k
    | e=>k e s)=some r:=by
    have hx0:b2a tb H p (fun ρ s k=>a21 tb disp H a (2*p) ρ s fun e s=>match e with
     | .normal=>a21 tb disp H (b4i d8k .skip) (2*p+1) ρ s k
     | e=>k e s) ρ s k=some r:=hx
    unfold b2a at hx0
    rw [hj] at hx0
    exact hx0
   refine wp_seq (a1r ht hd hmx a (2*p) hc.1.2 ρ s _ r X c σ F _ hX hx' h fun e s' c' τ F' g1 g2 g3 g4 _=>?_)
   cases e with
   | normal=>exact c80 ht hd hmx d8k (2*p+1) hc.2 ρ s' k r X c' τ F' Q hX g1 g3 (fun e s2 c2 υ F2 m0 m1 m2 m3 m4=>hk e s2 c2 υ F2 m0 m1 (Cx.le_trans g2 m2) m3 (g4.trans m4)) fun s2 c2 υ F2 m1 m2 m3 m4=>hh s2 c2 υ F2 m1 (Cx.le_trans g2 m2) m3 (g4.trans m4)
   | exit i=>exact hk (.exit i) s' c' τ F' (fun e=>by cases e) g1 g2 g3 g4
   | ret=>exact hk .ret s' c' τ F' (fun e=>by cases e) g1 g2 g3 g4
end
end Go.Qx
end
section
open Array renaming length_toList->d8R
open List renaming getElem?_eq_getElem->d8n,getElem?_eq_some_iff->d8o,getElem_mem->d8B,length_map->d8L,mem_append->d8y,mem_of_getElem?->d8x,mem_singleton->d9o
open Nat renaming add_zero->d9h,le_refl->d8r,lt_of_lt_of_le->d9n,mul_one->d9I,zero_add->d8Q,zero_le->d8w
open Option renaming bind_some->d8l,some->d8Y
namespace Go.Qx
open Go Go.RowKit Go.Sx
structure Flip (J:Nat->Prop)(w0 w:World):Prop where
 size:w.heap.size=w0.heap.size
 far:∀ b,¬ J b->w.heap[b]?=w0.heap[b]?
 off:∀ b o,¬ (J b/\o=5)->w.cell? ⟨b,o,none⟩=w0.cell? ⟨b,o,none⟩
 on:∀ b,J b->w.cell? ⟨b,5,none⟩=some (.bool true)
 fz:∀ a,w.frozen? a=w0.frozen? a
 os:w.os=w0.os
 tape:w.tape=w0.tape
 output:w.output=w0.output
 drawn:w.drawn=w0.drawn
theorem Flip.refl {J:Nat->Prop}(w:World)(h:∀ b,¬ J b):Flip J w w:=⟨rfl,fun _ _=>rfl,fun _ _ _=>rfl,fun b hb=>absurd hb (h b),fun _=>rfl,rfl,rfl,rfl,rfl⟩
theorem Flip.store {J J':Nat->Prop}{w0 w:World}(h:Flip J w0 w){g:Nat}{u:Value}(hc:w.cell? ⟨g,5,none⟩=some u)(hJ:∀ b,J' b↔J b\/b=g):Flip J' w0 (w.setCell ⟨g,5,none⟩ (.bool true)):=by
 refine ⟨?_,fun b hb=>?_,fun b o hb=>?_,fun b hb=>?_,fun a=>(b6t _ _ _ _).trans (h.fz a),h.os,h.tape,h.output,h.drawn⟩
 ·exact (a8b g [.bool true] 5 w).trans h.size
 ·have hn:¬ (J b\/b=g):=fun k=>hb ((hJ b).2 k)
  exact (a2G g [.bool true] 5 w b fun e=>hn (.inr e)).trans (h.far b fun e=>hn (.inl e))
 ·rw [World.cell?_setCell_other _ _ _ _ (fun e=>hb (by cases e; exact ⟨(hJ _).2 (.inr rfl),rfl⟩))]
  exact h.off b o fun k=>hb ⟨(hJ b).2 (.inl k.1),k.2⟩
 ·by_cases e:b=g
  ·subst e
   exact World.cell?_setCell_same _ _ _ hc
  ·rw [World.cell?_setCell_other _ _ _ _ (fun e'=>e (by cases e'; rfl))]
   exact h.on b (((hJ b).1 hb).resolve_right e)
section
variable {P:Program}{ops:Array Oper}{Q:Exit->Act->World->Prop}{n:Nat}{F:Fr}{rest:List Oper}{d:Option Nat}{ty:TypeId}{pos:String}{aft:Array Edge}
theorem c9E {T:TypeId}{x y:Operand}{b o:Nat}{v v0:Value}{w:World}(hx:ev F x=.pointer (some ⟨b,o,none⟩))(hkx:Q2 n x=true)(hky:Q2 n y=true)(hv:(ev F y).cells.toList=[v])
 (hT:(P.info? T).map (·.size)=some 1) (h1:v.oneCell'=true) (hc:w.cell? ⟨b,o,none⟩=some v0) (hf:w.frozen? ⟨b,o,none⟩=false) (h:wpList P ops Q rest (fr n (J9 F d undef)) (w.setCell ⟨b,o,none⟩ v)) :
 wpList P ops Q (⟨d,.store T x y,ty,pos,aft,none⟩::rest) (fr n F) w:=by
 have hsz:(ev F y).cells.size=1:=by rw [<- d8R,hv]; rfl
 refine b6w rfl (w.setCell ⟨b,o,none⟩ v) ?_ h
 show Sem.run P (do Instr.storeAt T ((fr n F).eval x) ((fr n F).eval y); pure Next.skip) w=_
 rw [w8 hkx,w8 hky,hx]
 have hst:=run_storeCells_cells (P:=P) b o [v] 0 w (fun j hj=>by
  obtain rfl:j=0:=by simpa using hj
  simp [hc]) (fun j hj=>by
  obtain rfl:j=0:=by simpa using hj
  simpa using hf) (fun u hu=>by rw [d9o.1 hu]; exact h1)
 simp only [d9h,World.setCells] at hst
 simp only [Instr.storeAt,Instr.sureAddr,storeVar,Sem.run_bind,Sem.run_pure,Result.andThen_ok,Sx.run_sizeOf hT,hsz,ne_eq,not_true_eq_false,if_false,hv,hst]
end
structure FlipTy {γ δ:Type} [Rp γ] [Rp δ] (B:Nat)(to:γ->List δ)(ps ng:δ->List Int)(bt:δ->Bool):Prop where
 szγ:Rp.sz γ=1
 szδ:Rp.sz δ=3
 cγ:∀ {σ:S} {x:γ} {cs:List Value},Rp.cells σ x cs↔∃ A c,cs=[.slice A (to x).length c]/\Sl σ (to x) A c/\(to x≠[]->∃ g,A=some ⟨g,0,none⟩/\B<=g)
 cδ:∀ {σ:S} {d:δ} {cs:List Value},Rp.cells σ d cs↔∃ A1 c1 A2 c2,cs=[.slice A1 (ps d).length c1,.slice A2 (ng d).length c2,.bool (bt d)]/\Sl σ (ps d) A1 c1/\Sl σ (ng d) A2 c2
section
variable {γ δ:Type} [Rp γ] [Rp δ] {B:Nat}{to:γ->List δ}{ps ng:δ->List Int}{bt:δ->Bool}
def JB (w:World)(A:Option Addr)(i b:Nat):Prop:=∃ ob oo j l c,A=some ⟨ob,oo,none⟩/\j<i/\w.cell? ⟨ob,oo+j,none⟩=some (.slice (some ⟨b,0,none⟩) l c)
theorem c1i (hT:FlipTy B to ps ng bt){τ:S}{bs:List γ}{A:Option Addr}{k:Nat}(hs:Sl τ bs A k){i:Nat}{x:γ}(hx:bs[i]?=some x)(h2:2<=(to x).length) :
 ∃ ob oo g c d0 d1 r,A=some ⟨ob,oo,none⟩/\τ.w.cell? ⟨ob,oo+i,none⟩=some (.slice (some ⟨g,0,none⟩) (to x).length c)/\B<=g/\to x=d0::d1::r/\Sl τ (to x) (some ⟨g,0,none⟩) c /\
  τ.w.cell? ⟨g,5,none⟩=some (.bool (bt d1))/\τ.w.frozen? ⟨g,5,none⟩=false:=by
 obtain ⟨ob,oo,cs,e1,h1,h3⟩:=hs.at_ hx
 obtain ⟨A',c,rfl,h4,h5⟩:=hT.cγ.1 h1
 obtain ⟨g,rfl,hg⟩:=h5 (by intro e; rw [e] at h2; simp at h2)
 rw [hT.szγ,d9I] at h3
 have hc0:=h3.2 0 _ rfl
 rw [d9h] at hc0
 match e:to x,h2 with
 | d0::d1::r,_ =>
   have h4':=h4
   rw [e] at h4'
   obtain ⟨b,o,cs,e2,k1,k2⟩:=h4'.at_ (i:=1) (x:=d1) rfl
   cases e2
   obtain ⟨A1,c1,A2,c2,rfl,_,_⟩:=hT.cδ.1 k1
   rw [hT.szδ] at k2
   have k3:=k2.2 2 _ rfl
   have k4:=k2.1.2 2 (by simp)
   refine ⟨ob,oo,g,c,d0,d1,r,e1,by rw [<- e]; exact hc0,hg,rfl,by rw [<- e]; exact h4,?_,?_⟩
   ·simpa using k3
   ·simpa using k4
theorem c0n (hT:FlipTy B to ps ng bt){τ:S}{bs:List γ}{A:Option Addr}{k:Nat}(hs:Sl τ bs A k)(h2:∀ x∈bs,2<=(to x).length){i b:Nat}(hi:i<=bs.length)(hJ:JB τ.w A i b) :
 B<=b/\∃ v,τ.w.cell? ⟨b,5,none⟩=some (.bool v):=by
 obtain ⟨ob,oo,j,l,c,e1,hj,hc⟩:=hJ
 have hjl:j<bs.length:=by omega
 obtain ⟨ob',oo',g,c',d0,d1,r,e2,k1,k2,k3,k4,k5,k6⟩:=c1i hT hs (d8n hjl) (h2 _ (d8B hjl))
 rw [e1] at e2
 cases e2
 rw [hc] at k1
 cases k1
 exact ⟨k2,_,k5⟩
theorem d6v (i:Nat)(h:i<9223372036854775807):IntKind.wrap .i64 ((i:Int)+1)=((i+1:Nat):Int):=by
 rw [IntKind.wrap_i64]
 omega
theorem c4B {m:Nat}:∀ (q i:Nat),i+q=m->j7 (fun i=>if i<m then some (Fl.next (i+1)) else some (Fl.done ())) (q+1) i=some ()
 | 0,i,h=>by
   have:¬ i<m:=by omega
   simp [j7,this]
 | q+1,i,h=>by
   have:i<m:=by omega
   simp only [j7,this,if_true,d8l]
   exact c4B q (i+1) (by omega)
set_option maxHeartbeats 1000000 in
theorem d2w (hT:FlipTy B to ps ng bt){P:Program}{Q:Exit->Act->World->Prop}{F:Fr}{τ:S}{bs:List γ}{A:Option Addr}{k:Nat}(hs:Sl τ bs A k)(h2:∀ x∈bs,2<=(to x).length)
 {Ti Tb To Tx Tr Tg:TypeId} {i1 i2 i16 i17 i18 i19:Nat} {t0 t1 t2 t3 t4 t5 t6 t7 t8 t9 ta tb tc u1 u2:TypeId} {p0 p1 p2 p3 p4 p5 p6 p7 p8 p9 pa pb pc:String} {a0 a1 a2 a3 a4 a5 a6 a7 a8 a9 aa ab ac:Array Edge}
 (hTo:P.underlying To=some (.slice Tx)) (hTx:(P.info? Tx).map (·.size)=some 1) (hfx:a6r P Tx 0 0) (hr1:X8 P Tr) (hTr:P.underlying Tr=some (.slice Tg)) (hTg:(P.info? Tg).map (·.size)=some 3) (hfg:a6r P Tg 2 2) (hTb:(P.info? Tb).map (·.size)=some 1)
 (h12:F 12=.slice A bs.length k) (h58:F 58=.int .i64 (bs.length:Int)) (h59:F 59=.int .i64 0)
 (hk:∀ F' w,Flip (JB τ.w A bs.length) τ.w w->F' 12=F 12->Q .normal (fr 71 F') w) :
 (Code.block i1 (.loop (.seq (.region i16 #[⟨some 60,.binOp .lss Ti (.tmp 59) (.tmp 58) u1,t0,p0,a0,none⟩] false) (.seq (.cond (.tmp 60) .skip (.exit i1)) (.seq (.block i2 (.seq
   (.region i17 #[⟨some 61,.move (.tmp 59),t1,p1,a1,none⟩,⟨some 13,.assign (.tmp 61),t2,p2,a2,none⟩] false)
   (.region i18 #[⟨some 62,.move (.tmp 12),t3,p3,a3,none⟩,⟨some 63,.move (.tmp 13),t4,p4,a4,none⟩,⟨some 64,.indexAddr To (.tmp 62) (.tmp 63),t5,p5,a5,none⟩,⟨some 65,.fieldAddr Tx (.tmp 64) 0,t6,p6,a6,none⟩,⟨some 66,.load Tr (.tmp 65),t7,p7,a7,none⟩,
     ⟨some 67,.indexAddr Tr (.tmp 66) (.const (.int .i64 1)),t8,p8,a8,none⟩,⟨some 68,.fieldAddr Tg (.tmp 67) 2,t9,p9,a9,none⟩,⟨none,.store Tb (.tmp 68) (.const (.bool true)),ta,pa,aa,none⟩] false)))
   (.region i19 #[⟨some 69,.binOp .add Ti (.tmp 59) (.const (.int .i64 1)) u2,tb,pb,ab,none⟩,⟨some 59,.move (.tmp 69),tc,pc,ac,none⟩] false)))))).wp P Q (fr 71 F) τ.w:=by
 let Inv:Nat->Act->World->Prop:=fun i a w=>i<=bs.length/\∃ F',a=fr 71 F'/\F' 12=.slice A bs.length k/\F' 58=.int .i64 (bs.length:Int)/\F' 59=.int .i64 (i:Int)/\Flip (JB τ.w A i) τ.w w
 let Post:Unit->Exit->Act->World->Prop:=fun _ e a w=>e=.exit i1/\∃ F',a=fr 71 F'/\F' 12=.slice A bs.length k/\Flip (JB τ.w A bs.length) τ.w w
 refine wp_block (wp_mono (b2m (P:=P) (step:=fun i=>if i<bs.length then some (Fl.next (i+1)) else some (Fl.done ())) Inv Post (fun b a w h=>by cases h.1) (fun i fl a w hst hI=>?_) (bs.length+1) 0 () (fr 71 F) τ.w (c4B bs.length 0 (by omega)) ⟨d8w _,F,rfl,h12,h58,h59,Flip.refl _ fun b ⟨_,_,j,_,_,_,hj,_⟩=>by omega⟩) fun e a w hp=>?_)
 ·obtain ⟨hi,F',rfl,f12,f58,f59,hfl⟩:=hI
  refine wp_seq (wp_region_lit ?_)
  refine a7t (.int .i64 (i:Int)) (.int .i64 (bs.length:Int)) (.bool (decide ((i:Int)<(bs.length:Int)))) f59 f58 rfl rfl c7k ?_
  refine wpList_nil (K8 ?_)
  by_cases hlt:i<bs.length
  ·rw [if_pos hlt] at hst
   cases hst
   have hd:decide ((i:Int)<(bs.length:Int))=true:=by simpa using hlt
   refine wp_seq (b6r rfl hd rfl (wp_skip (K8 ?_)))
   refine wp_seq (wp_block (wp_seq (wp_region_lit ?_)))
   refine a0p (.int .i64 (i:Int)) f59 rfl ?_
   refine a19 (.int .i64 (i:Int)) rfl rfl ?_
   refine wpList_nil (K8 (wp_region_lit ?_))
   obtain ⟨ob,oo,g,c,d0,d1,r,rfl,k1,k2,k3,k4,k5,k6⟩:=c1i hT hs (d8n hlt) (h2 _ (d8B hlt))
   have hw1:w.cell? ⟨ob,oo+i,none⟩=some (.slice (some ⟨g,0,none⟩) (to bs[i]).length c):=by
    rw [hfl.off ob (oo+i) fun hJ=>?_]
    ·exact k1
    ·obtain ⟨_,v,hv⟩:=c0n hT hs h2 hi hJ.1
     rw [hJ.2,hv] at k1
     cases k1
   have hw2:∃ u,w.cell? ⟨g,5,none⟩=some u:=by
    by_cases hJ:JB τ.w (some ⟨ob,oo,none⟩) i g
    ·exact ⟨_,hfl.on g hJ⟩
    ·exact ⟨_,(hfl.off g 5 fun h=>hJ h.1).trans k5⟩
   obtain ⟨u,hu⟩:=hw2
   have hfz:w.frozen? ⟨g,5,none⟩=false:=(hfl.fz _).trans k6
   have hl2:2<=(to bs[i]).length:=h2 _ (d8B hlt)
   refine a0p (.slice (some ⟨ob,oo,none⟩) bs.length k) f12 rfl ?_
   refine a0p (.int .i64 (i:Int)) rfl rfl ?_
   refine a9p (g:=ob) (o:=oo) (len:=bs.length) (k:=k) (sz:=1) (j:=(i:Int)) (by omega) (by omega) rfl rfl rfl rfl hTo hTx ?_
   refine a0m ob (oo+(i:Int).toNat*1) 0 (oo+i) rfl rfl hfx (by simp) ?_
   refine a2X ob (oo+i) (.slice (some ⟨g,0,none⟩) (to bs[i]).length c) rfl rfl (a2u hr1 hw1) ?_
   refine a9p (g:=g) (o:=0) (len:=(to bs[i]).length) (k:=c) (sz:=3) (j:=1) (by omega) (by omega) rfl rfl rfl rfl hTr hTg ?_
   refine a0m g (0+(1:Int).toNat*3) 2 5 rfl rfl hfg rfl ?_
   refine c9E (v:=.bool true) rfl rfl rfl rfl hTb rfl hu hfz ?_
   refine wpList_nil (d3c (K8 (wp_region_lit ?_)))
   refine a7t (.int .i64 (i:Int)) (.int .i64 1) (.int .i64 ((i+1:Nat):Int)) f59 rfl rfl rfl (by have:=c7b (P:=P) (w:=w.setCell ⟨g,5,none⟩ (.bool true)) (T:=Ti) (x:=.tmp 59) (y:=.const (.int .i64 1)) (k:=.i64) (a:=(i:Int)) (b:=1); rw [d6v i (d9n hlt hs.le_max)] at this; exact this) ?_
   refine a0p (.int .i64 ((i+1:Nat):Int)) rfl rfl ?_
   refine wpList_nil ⟨rfl,by omega,_,rfl,f12,f58,rfl,hfl.store hu fun b=>⟨fun ⟨ob',oo',j,l,c',e,hj,hc⟩=>?_,fun h=>?_⟩⟩
   ·cases e
    by_cases ej:j<i
    ·exact .inl ⟨ob,oo,j,l,c',rfl,ej,hc⟩
    ·obtain rfl:j=i:=by omega
     rw [k1] at hc
     cases hc
     exact .inr rfl
   ·rcases h with ⟨ob',oo',j,l,c',e,hj,hc⟩ | rfl
    ·exact ⟨ob',oo',j,l,c',e,by omega,hc⟩
    ·exact ⟨ob,oo,i,_,_,rfl,by omega,k1⟩
  ·rw [if_neg hlt] at hst
   cases hst
   have hd:decide ((i:Int)<(bs.length:Int))=false:=by simpa using hlt
   obtain rfl:i=bs.length:=by omega
   exact wp_seq (a9K rfl hd rfl (wp_exit (c49 ⟨rfl,_,rfl,f12,hfl⟩)))
 ·obtain ⟨rfl,F',rfl,f12,hfl⟩:=hp
  exact d3r (hk F' w hfl (f12.trans h12.symm))
theorem c6n (hT:FlipTy B to ps ng bt){τ:S}{bs:List γ}{A:Option Addr}{k:Nat}(hs:Sl τ bs A k)(h2:∀ x∈bs,2<=(to x).length){w:World}(hfl:Flip (JB τ.w A bs.length) τ.w w)
 {b o:Nat} {v:Value} (hc:τ.w.cell? ⟨b,o,none⟩=some v) (hv:∀ x,v≠.bool x):w.cell? ⟨b,o,none⟩=some v:=by
 rw [hfl.off b o fun hJ=>?_]
 ·exact hc
 ·obtain ⟨_,x,hx⟩:=c0n hT hs h2 (d8r _) hJ.1
  rw [hJ.2,hx] at hc
  exact hv x (d8Y.inj hc).symm
theorem d4A {σ τ:S}:∀ {xs:List Int} {cs:List Value},J6 σ xs cs->J6 τ xs cs/\∀ v∈cs,∀ x,v≠.bool x
 | [],_,h=>by cases h; exact ⟨rfl,fun v hv=>by cases hv⟩
 | n::xs,_,⟨c,r,e,hc,hr⟩=>by
   obtain ⟨h1,h2⟩:=d4A (τ:=τ) hr
   have hc':c=[.int .i64 n]:=hc
   refine ⟨⟨c,r,e,hc,h1⟩,fun v hv x=>?_⟩
   subst e
   subst hc'
   rcases d8y.1 hv with hv | hv
   ·rw [d9o.1 hv]; intro h; cases h
   ·exact h2 v hv x
theorem b4D (hT:FlipTy B to ps ng bt){τ:S}{bs:List γ}{A:Option Addr}{k:Nat}(hs:Sl τ bs A k)(h2:∀ x∈bs,2<=(to x).length){w:World}(hfl:Flip (JB τ.w A bs.length) τ.w w)
 {xs:List Int} {A1:Option Addr} {c1:Nat} (h:Sl τ xs A1 c1):Sl (⟨w,τ.L⟩:S) xs A1 c1:=by
 obtain ⟨h1,h3,cs,h4,h5⟩:=h
 obtain ⟨k1,k2⟩:=d4A (τ:=⟨w,τ.L⟩) h4
 refine ⟨h1,h3,cs,k1,fun hn=>?_⟩
 obtain ⟨b,o,e,h6⟩:=h5 hn
 exact ⟨b,o,e,⟨h6.1.1,fun j hj=>(hfl.fz _).trans (h6.1.2 j hj)⟩,fun j v hv=>c6n hT hs h2 hfl (h6.2 j v hv) (k2 v (d8x hv))⟩
theorem c8Y (hT:FlipTy B to ps ng bt){τ:S}{bs:List γ}{A:Option Addr}{k:Nat}(hs:Sl τ bs A k)(h2:∀ x∈bs,2<=(to x).length){w:World}(hfl:Flip (JB τ.w A bs.length) τ.w w)
 {d:δ} {cs:List Value} (h:Rp.cells τ d cs):Rp.cells (⟨w,τ.L⟩:S) d cs:=by
 obtain ⟨A1,c1,A2,c2,e,k1,k2⟩:=hT.cδ.1 h
 exact hT.cδ.2 ⟨A1,c1,A2,c2,e,b4D hT hs h2 hfl k1,b4D hT hs h2 hfl k2⟩
theorem c6o (hT:FlipTy B to ps ng bt){τ:S}{bs:List γ}{A:Option Addr}{k:Nat}(hs:Sl τ bs A k)(h2:∀ x∈bs,2<=(to x).length){w:World}(hfl:Flip (JB τ.w A bs.length) τ.w w) :
 ∀ {ds:List δ} {cs:List Value},J6 τ ds cs->J6 (⟨w,τ.L⟩:S) ds cs
 | [],_,h=>h
 | _::_,_,⟨c,r,e,hc,hr⟩=>⟨c,r,e,c8Y hT hs h2 hfl hc,c6o hT hs h2 hfl hr⟩
theorem c8p {σ:S}{f:γ->γ}:∀ {xs:List γ} {cs:List Value},cs.length=xs.length->(∀ (i:Nat) (x:γ) (v:Value),xs[i]?=some x->cs[i]?=some v->Rp.cells σ (f x) [v])->J6 σ (xs.map f) cs
 | [],[],_,_=>rfl
 | x::xs,v::cs,h,hk=>⟨[v],cs,rfl,hk 0 x v rfl rfl,c8p (by simpa using h) fun i x' v' h1 h2=>hk (i+1) x' v' h1 h2⟩
theorem d3H (hT:FlipTy B to ps ng bt){setL:δ->δ}{setB:γ->γ}(hset:∀ x d0 d1 r,to x=d0::d1::r->to (setB x)=d0::setL d1::r)(hL:∀ d,ps (setL d)=ps d/\ng (setL d)=ng d/\bt (setL d)=true)
 {τ:S} {bs:List γ} {A:Option Addr} {k:Nat} (hs:Sl τ bs A k) (h2:∀ x∈bs,2<=(to x).length) {w:World} (hfl:Flip (JB τ.w A bs.length) τ.w w):Sl (⟨w,τ.L⟩:S) (bs.map setB) A k:=by
 have hs0:=hs
 obtain ⟨h1,h3,cs,h4,h5⟩:=hs
 have hlen:cs.length=bs.length:=by rw [h4.len,hT.szγ,d9I]
 refine ⟨by rw [d8L]; exact h1,h3,cs,c8p hlen fun i x v hx hv=>?_,fun hn=>?_⟩
 ·have hi:i<bs.length:=(d8o.1 hx).1
  obtain ⟨ob,oo,g,c,d0,d1,r,eA,k1,k2,k3,k4,k5,k6⟩:=c1i hT hs0 hx (h2 x (d8x hx))
  obtain ⟨b,o,eA',h6⟩:=h5 (by intro e; rw [e] at hi; simp at hi)
  rw [eA] at eA'
  cases eA'
  have hv':=h6.2 i v hv
  rw [k1] at hv'
  cases hv'
  have hJ:JB τ.w A bs.length g:=⟨ob,oo,i,_,_,eA,hi,k1⟩
  have hto:=hset x d0 d1 r k3
  have hl:(to (setB x)).length=(to x).length:=by rw [hto,k3]; rfl
  refine hT.cγ.2 ⟨some ⟨g,0,none⟩,c,by rw [hl],?_,fun _=>⟨g,rfl,k2⟩⟩
  obtain ⟨m1,m2,cs2,m3,m4⟩:=k4
  refine ⟨by rw [hl]; exact m1,m2,?_⟩
  rw [k3] at m3
  obtain ⟨q0,r0,rfl,f0,q1,r1,rfl,f1,f2⟩:=m3
  obtain ⟨b',o',eg,m5⟩:=m4 (by rw [k3]; exact List.cons_ne_nil _ _)
  cases eg
  obtain ⟨A1,c1,A2,c2,rfl,s1,s2⟩:=hT.cδ.1 f1
  have hq0:q0.length=3:=(Rp.len f0).trans hT.szδ
  match q0,hq0 with
  | [x0,x1,x2],_ =>
    refine ⟨[x0,x1,x2]++([.slice A1 (ps d1).length c1,.slice A2 (ng d1).length c2,.bool true]++r1),?_,fun _=>⟨g,0,rfl,⟨?_,fun j hj=>(hfl.fz _).trans (m5.1.2 j (by simpa using hj))⟩,fun j v hv=>?_⟩⟩
    ·rw [hto]
     obtain ⟨l1,l2,l3⟩:=hL d1
     exact ⟨_,_,rfl,c8Y hT hs0 h2 hfl f0,_,_,rfl,hT.cδ.2 ⟨A1,c1,A2,c2,by rw [l1,l2,l3],by rw [l1]; exact b4D hT hs0 h2 hfl s1,by rw [l2]; exact b4D hT hs0 h2 hfl s2⟩,c6o hT hs0 h2 hfl f2⟩
    ·simpa using m5.1.1
    ·by_cases ej:j=5
     ·subst ej
      have hv2:some (Value.bool true)=some v:=hv
      cases hv2
      rw [d8Q]
      exact hfl.on g hJ
     ·show w.cell? ⟨g,0+j,none⟩=some v
      rw [hfl.off g (0+j) fun h=>ej (by omega)]
      refine m5.2 j v ?_
      match j,ej,hv with
      | 0,_,hv=>exact hv
      | 1,_,hv=>exact hv
      | 2,_,hv=>exact hv
      | 3,_,hv=>exact hv
      | 4,_,hv=>exact hv
      | j+6,_,hv=>exact hv
 ·have hn':bs≠[]:=fun e=>hn (by rw [e]; rfl)
  obtain ⟨b,o,eA,h6⟩:=h5 hn'
  refine ⟨b,o,eA,⟨h6.1.1,fun j hj=>(hfl.fz _).trans (h6.1.2 j hj)⟩,fun j v hv=>?_⟩
  refine c6n hT hs0 h2 hfl (h6.2 j v hv) fun x e=>?_
  have hj:j<bs.length:=by rw [<- hlen]; exact (d8o.1 hv).1
  obtain ⟨ob,oo,g,c,d0,d1,r,eA',k1,_⟩:=c1i hT hs0 (d8n hj) (h2 _ (d8B hj))
  rw [eA] at eA'
  cases eA'
  have:=h6.2 j v hv
  rw [k1] at this
  cases this
  cases e
theorem d27 {J:Nat->Prop}{M:Nat->Prop}{σ τ:S}{w:World}(hst:Stp M σ τ)(hJ:∀ b,J b->σ.N<=b)(hfl:Flip J τ.w w):Stp M σ (⟨w,τ.L⟩:S):=by
 have hno:∀ b,b<σ.w.heap.size->¬ J b:=fun b hb h=>by
  have h':σ.w.heap.size<=b:=hJ b h
  omega
 refine ⟨⟨?_,hst.wext.len,fun b o v ho hc=>?_,?_,fun b o hb hf=>(hfl.fz _).trans (hst.wext.nf b o hb hf)⟩,hfl.os.trans hst.os,hfl.tape.trans hst.tape,hfl.output.trans hst.output,fun b hb hn=>?_⟩
 ·show σ.w.heap.size<=w.heap.size
  rw [hfl.size]
  exact hst.wext.size
 ·show w.cell? ⟨b,o,none⟩=some v
  rw [hfl.off b o fun h=>hno b (a3Z hc) h.1]
  exact hst.wext.cell b o v ho hc
 ·show σ.w.drawn<=w.drawn
  rw [hfl.drawn]
  exact hst.wext.drawn
 ·obtain ⟨h1,h2⟩:=hst.block b hb hn
  exact ⟨(hfl.far b (hno b hb)).trans h1,h2⟩
end
end Go.Qx
end

/- Part 4. -/
import Derived.Test.YtmcfcgaiecgdhaaGreatK2
import Derived.Test.YtmcfcgaiecgdhaaGreatK3
section
namespace Go.Pl
open Go Go.RowKit Go.Sx Go.Qx
def b4p {α:Type}(c:α->α->Int)(q:α->Bool)(l:List α)(i:Nat):Bool :=
 match l[i]? with
 | some x=>q x&&(match i with
   | 0=>true
   | j+1=>match l[j]? with
     | some y=>decide (c y x<0)
     | none=>true)
 | none=>true
theorem c4K {α:Type}(c:α->α->Int)(q:α->Bool)(l:List α):(List.range l.length).all (b4p c q l)=(asc c l&&l.all q):=by
 rw [Bool.eq_iff_iff,Bool.and_eq_true,b1Y,List.all_eq_true,List.all_eq_true]
 constructor
 ·intro h
  refine ⟨fun i h1 hi=>?_,fun x hx=>?_⟩
  ·obtain ⟨j,rfl⟩:∃ m,i=m+1:=⟨i-1,by omega⟩
   have:=h (j+1) (by simpa using hi)
   unfold b4p at this
   rw [List.getElem?_eq_getElem hi] at this
   simp only [Bool.and_eq_true] at this
   have h2:=this.2
   rw [List.getElem?_eq_getElem (show j<l.length by omega)] at h2
   simpa using h2
  ·obtain ⟨i,hi,rfl⟩:=List.getElem_of_mem hx
   have:=h i (by simpa using hi)
   unfold b4p at this
   rw [List.getElem?_eq_getElem hi] at this
   simp only [Bool.and_eq_true] at this
   exact this.1
 ·intro ⟨h1,h2⟩ i hi
  have hi:i<l.length:=by simpa using hi
  unfold b4p
  rw [List.getElem?_eq_getElem hi]
  simp only [Bool.and_eq_true]
  refine ⟨h2 _ (List.getElem_mem hi),?_⟩
  cases i with
  | zero=>rfl
  | succ j =>
    simp only
    rw [List.getElem?_eq_getElem (show j<l.length by omega)]
    have:=h1 (j+1) (by omega) hi
    simpa using this
theorem b9t {α β:Type}{step:Int->Option (Fl Int (Sum Unit β))}(c:α->α->Int)(q:α->Bool)(l:List α)(b:β)
 (hst:∀ (i:Nat) (x:α),l[i]?=some x->step (i:Int)=some (if b4p c q l i=true then .next ((i+1:Nat):Int) else .done (.inr b)))
 (hend:step (l.length:Int)=some (.done (.inl ()))):z7 step (l.length+1) 0=some (if (asc c l&&l.all q)=true then .inl () else .inr b):=by
 have:=K9 (step:=step) (List.range l.length) (b4p c q l) (fun i=>(i:Int)) () b (fun i x hx=>by
  have hi:i<l.length:=by have:=(List.getElem?_eq_some_iff.1 hx).1; simpa using this
  have e:x=i:=by
   rw [List.getElem?_range hi] at hx
   cases hx; rfl
  subst e
  exact hst x _ (List.getElem?_eq_getElem hi)) (by rw [List.length_range]; exact hend)
 rw [List.length_range,c4K] at this
 exact this
theorem b53 {α:Type}(c:α->α->Int)(q:α->Bool)(l:List α)(i:Nat)(x:α)(hx:l[i]?=some x)(hl:l.length<=4194304){o:Option (Fl Int (Sum Unit Bool))}
 (h0:q x=false->o=some (.done (.inr false)))
 (h1:q x=true->i=0->o=some (.next (w64 ((i:Int)+1))))
 (h2:q x=true->∀ j y,i=j+1->l[j]?=some y->idx l (w64 ((i:Int)-1))=some y->o=some (if c y x<0 then .next (w64 ((i:Int)+1)) else .done (.inr false))) :
 o=some (if b4p c q l i=true then .next ((i+1:Nat):Int) else .done (.inr false)):=by
 have hi:i<l.length:=(List.getElem?_eq_some_iff.1 hx).1
 have hw:=j5 i (by omega)
 unfold b4p
 rw [hx]
 cases hq:q x
 ·rw [h0 hq]; simp [hq]
 ·cases i with
  | zero=>rw [h1 hq rfl,hw]; simp [hq]
  | succ j =>
    have hy:=List.getElem?_eq_getElem (show j<l.length by omega)
    have hj:w64 (((j+1:Nat):Int)-1)=(j:Int):=by rw [K5 (by omega) (by omega)]; omega
    rw [h2 hq j _ rfl hy (by rw [hj]; exact y4 hy),hw]
    simp only [hy]
    by_cases hc:c l[j] x<0<;>simp [hq,hc]
theorem c8j (a b:ByteArray):a26 a b=decide (cS a b<0):=by
 rcases a8G a b with ⟨h,_,e⟩ | ⟨h,_,e⟩ | ⟨h,_,e⟩<;>simp [h,e]
theorem c5F (i:Nat):decide (0<(((i+1:Nat)):Int))=true:=decide_eq_true (by omega)
theorem c6k (l:List Val):(bif ((l.length:Int)==2) then Option.bind (idx l 1) fun x=>Option.bind (bif (x.Kind==5) then some true else Option.bind (idx l 1) fun y=>some (y.Kind==7)) fun q=>some q else some false)=some (b80 l):=by
 unfold b80
 match l with
 | []=>rfl
 | [_]=>rfl
 | [x,t] =>
   have e2:((([x,t]:List Val).length:Int)==2)=true:=rfl
   rw [e2]
   have:idx [x,t] 1=some t:=rfl
   simp only [cond_true,this,Option.bind_some]
   cases t.Kind==5<;>rfl
 | _::_::_::r =>
   rename_i a b c
   have:((((a::b::c::r:List Val)).length:Int)==2)=false:=by simp; omega
   rw [this]; rfl
theorem c59 (fuel:Nat)(v:Val)(hf:2*w9 v<=fuel+2)(hb:w9 v<=4194304):a6u fuel v=some (a4b v):=by
 have he:=a3P v
 have hs:=a5R v.Labels
 have hk:=a7d v.Keys
 have hn:=a5r v.Entries
 have l1:z7 (a42 v) (v.Labels.length+1) 0=some (if (asc cS v.Labels&&v.Labels.all a61)=true then .inl () else .inr false):=by
  refine b9t cS a61 v.Labels false ?_ ?_
  ·intro i x hx
   have hi:i<v.Labels.length:=(List.getElem?_eq_some_iff.1 hx).1
   unfold a42
   simp only [X6,k8]
   rw [if_pos (by simp; omega),y4 hx]
   simp only [Option.bind_some,c14]
   refine b53 cS a61 v.Labels i x hx (by omega) (fun h=>by rw [h]; rfl) (fun h h0=>by subst h0; rw [h]; rfl) (fun h j y hj hy hiy=>?_)
   subst hj
   rw [h,hiy,c5F]
   simp only [Bool.not_true,Bool.false_eq_true,if_false,if_true,Option.bind_some]
   rw [c8j]
   by_cases hc:cS y x<0<;>simp [hc]
  ·unfold a42
   simp
 have l2:z7 (a4X v) (v.Keys.length+1) 0=some (if (asc cK v.Keys&&v.Keys.all Z8)=true then .inl () else .inr false):=by
  refine b9t cK Z8 v.Keys false ?_ ?_
  ·intro i x hx
   have hi:i<v.Keys.length:=(List.getElem?_eq_some_iff.1 hx).1
   unfold a4X
   simp only [X6,k8]
   rw [if_pos (by simp; omega),y4 hx]
   simp only [Option.bind_some,b6B]
   refine b53 cK Z8 v.Keys i x hx (by omega) (fun h=>by rw [h]; rfl) (fun h h0=>by subst h0; rw [h]; rfl) (fun h j y hj hy hiy=>?_)
   subst hj
   rw [h,hiy,c5F]
   simp only [Bool.not_true,Bool.false_eq_true,if_false,if_true,Option.bind_some,a78]
   by_cases hc:cK y x<0
   ·have:¬ 0<=cK y x:=by omega
    simp [hc,this]
   ·have:0<=cK y x:=by omega
    simp [hc,this]
  ·unfold a4X
   simp
 have l3:z7 (a4T v fuel) (v.Entries.length+1) 0=some (if (asc cE v.Entries&&v.Entries.all (a4m v.Int_))=true then .inl () else .inr false):=by
  refine b9t cE (a4m v.Int_) v.Entries false ?_ ?_
  ·intro i x hx
   have hi:i<v.Entries.length:=(List.getElem?_eq_some_iff.1 hx).1
   have hm:=a2a (List.mem_of_getElem? hx)
   have hbe:=a3c x
   unfold a4T a02
   simp only [X6,k8]
   rw [if_pos (by simp; omega),y4 hx]
   simp only [Option.bind_some]
   rw [show Val.mk 0 0 (⟨#[]⟩:ByteArray) ([]:List Val) ([]:List Key) ([]:List Ent) ([]:List ByteArray)=a5y from rfl,(a4x fuel).1 x.Result a5y (by omega) (by omega)]
   simp only [Option.bind_some]
   have hq:(Option.bind (if ((x.Args.length:Int) != v.Int_)=true then some true else Option.bind (if x.Fails=true then some (!(cV x.Result a5y==0)) else some false) fun q=>some q) fun q=>some q)=some (!(a4m v.Int_ x)):=by
    unfold a4m
    have e0:((x.Args.length:Int) != v.Int_)=!((x.Args.length:Int)==v.Int_):=rfl
    rw [e0]
    cases ((x.Args.length:Int)==v.Int_)<;>cases x.Fails<;>cases (cV x.Result a5y==0)<;>rfl
   rw [a3N] at hq
   simp only [a3N] at hq ⊢
   rw [hq]
   simp only [Option.bind_some]
   refine b53 cE (a4m v.Int_) v.Entries i x hx (by omega) (fun h=>by rw [h]; rfl) (fun h h0=>by subst h0; rw [h]; rfl) (fun h j y hj hy hiy=>?_)
   subst hj
   have hmy:=a2a (List.mem_of_getElem? hy)
   have hc:Z9 fuel y x=some (cE y x):=(a4x fuel).2.2 y x (by omega) (by omega)
   rw [h,hiy,c5F]
   simp only [Bool.not_true,Bool.false_eq_true,if_false,if_true,Option.bind_some,hc]
   by_cases hc:cE y x<0
   ·have:¬ 0<=cE y x:=by omega
    simp [hc,this]
   ·have:0<=cE y x:=by omega
    simp [hc,this]
  ·unfold a4T
   simp
 unfold a6u
 simp only [w7,a3N]
 rw [l1,l2,l3,b3S]
 have hcons:=c6k v.Kids
 simp only [a3N] at hcons
 rw [hcons]
 simp only [Option.bind_some,c3H]
 unfold a4b a2f
 cases hlab:(asc cS v.Labels&&v.Labels.all a61)
 ·rfl
 have h6:decide ((v.Kids.length:Int)<=4)=decide (v.Kids.length<=4):=by
  by_cases h:v.Kids.length<=4
  ·simp [h]; omega
  ·simp [h]; omega
 have hm:b1J v=(decide (v.Keys.length=v.Kids.length)&&(asc cK v.Keys&&v.Keys.all Z8)):=by
  unfold b1J
  by_cases h:v.Keys.length=v.Kids.length<;>simp [h]
 have hm2:((v.Keys.length:Int)==(v.Kids.length:Int))=decide (v.Keys.length=v.Kids.length):=by
  by_cases h:v.Keys.length=v.Kids.length
  ·simp [h]
  ·simp [h]; omega
 have hfu:c1H v=(!decide (v.Int_<0)&&!decide (4<v.Int_)&&(asc cE v.Entries&&v.Entries.all (a4m v.Int_))):=by
  unfold c1H
  by_cases h1:v.Int_<0<;>by_cases h2:4<v.Int_
  ·omega
  ·have:¬ 0<=v.Int_:=by omega
   simp [h1,this]
  ·have:¬ v.Int_<=4:=by omega
   simp [h2,this]
  ·have a:0<=v.Int_:=by omega
   have b:v.Int_<=4:=by omega
   simp [h1,h2,a,b]
 have hi:(v.Int_ != 0)=!(v.Int_==0):=rfl
 rw [hm2,hi,h6]
 simp only [j9,if_true]
 unfold a4L a6J
 rw [hm,hfu]
 generalize (asc cE v.Entries&&v.Entries.all (a4m v.Int_))=f
 generalize (asc cK v.Keys&&v.Keys.all Z8)=k
 generalize decide (v.Keys.length=v.Kids.length)=m
 generalize decide (v.Int_<0)=p
 generalize decide (4<v.Int_)=r
 generalize Y6 v.Text ⟨#[]⟩=t
 generalize v.Keys.isEmpty=y
 generalize v.Entries.isEmpty=e
 generalize v.Kids.isEmpty=d
 generalize (v.Int_==0)=i
 generalize a4K v.Text=a
 generalize decide ((v.Text.size:Int)<=64)=z
 generalize b80 v.Kids=c
 generalize decide (0<=v.Int_)=g
 generalize decide (v.Kids.length<=4)=n
 by_cases hk:v.Kind=1\/v.Kind=2\/v.Kind=3\/v.Kind=4\/v.Kind=5\/v.Kind=6\/v.Kind=7\/v.Kind=8\/v.Kind=9
 ·rcases hk with h | h | h | h | h | h | h | h | h<;>rw [h]<;>cases i<;>cases t<;>cases d<;>cases y<;>cases e<;>simp
  all_goals first
   | rfl
   | (cases k<;>cases m<;>simp)
   | (cases p<;>cases r<;>cases f<;>simp)
 ·simp only [not_or] at hk
  obtain ⟨h1,h2,h3,h4,h5,h6',h7,h8,h9⟩:=hk
  have e1:(v.Kind==1)=false:=by simpa using h1
  have e2:(v.Kind==2)=false:=by simpa using h2
  have e3:(v.Kind==3)=false:=by simpa using h3
  have e4:(v.Kind==4)=false:=by simpa using h4
  have e5:(v.Kind==5)=false:=by simpa using h5
  have e6:(v.Kind==6)=false:=by simpa using h6'
  have e7:(v.Kind==7)=false:=by simpa using h7
  have e8:(v.Kind==8)=false:=by simpa using h8
  have e9:(v.Kind==9)=false:=by simpa using h9
  simp only [bne,e1,e2,e3,e4,e5,e6,e7,e8,e9,if_neg h1,if_neg h2,if_neg h3,if_neg h4,if_neg h5,if_neg h6',if_neg h7,if_neg h8,if_neg h9]
  cases i<;>cases t<;>cases d<;>cases y<;>cases e<;>rfl
theorem b2o:∀ (k:Nat) (v:Val),2*w9 v<=k->w9 v<=4194304->a0d k v=some (vOK v)
 | 0,v,h,_=>by have:=b0C v; omega
 | k+1,v,h,hb=>by
   have he:=a3P v
   have hv:=a6G v.Kids
   have hn:=a5r v.Entries
   have hrec:∀ x,w9 x<w9 v->a0d k x=some (vOK x):=fun x hx=>b2o k x (by omega) (by omega)
   show a6S k (a0d k) v=_
   unfold a6S
   rw [c59 k v (by omega) hb,c5z,a3W,a8w]
   simp only [Option.bind_some,w7]
   have l1:z7 (a4t v (a0d k)) (v.Kids.length+1) 0=some (if v.Kids.all vOK=true then .inl () else .inr false):=by
    refine K9 v.Kids vOK (fun i=>(i:Int)) () false ?_ ?_
    ·intro i x hx
     have hi:i<v.Kids.length:=(List.getElem?_eq_some_iff.1 hx).1
     have hm:=a2D (List.mem_of_getElem? hx)
     unfold a4t
     simp only [k8]
     rw [show decide ((i:Int)<(v.Kids.length:Int))=true by simp; omega,y4 hx]
     simp only [cond_true,Option.bind_some]
     rw [hrec x (by omega),j5 i (by omega)]
     exact a4w _ _
    ·unfold a4t
     simp
   have l2:z7 (a4k v (a0d k)) (v.Entries.length+1) 0=some (if v.Entries.all eOK=true then .inl () else .inr false):=by
    refine K9 v.Entries eOK (fun i=>(i:Int)) () false ?_ ?_
    ·intro i x hx
     have hi:i<v.Entries.length:=(List.getElem?_eq_some_iff.1 hx).1
     have hm:=a2a (List.mem_of_getElem? hx)
     have hbe:=a3c x
     have hal:=a6G x.Args
     unfold a4k
     simp only [k8,w7]
     rw [show decide ((i:Int)<(v.Entries.length:Int))=true by simp; omega,y4 hx]
     simp only [cond_true,Option.bind_some]
     have l3:z7 (a4f (a0d k) x) (x.Args.length+1) 0=some (if x.Args.all vOK=true then .inl () else .inr false):=by
      refine K9 x.Args vOK (fun i=>(i:Int)) () false ?_ ?_
      ·intro j y hy
       have hj:j<x.Args.length:=(List.getElem?_eq_some_iff.1 hy).1
       have hmy:=a2D (List.mem_of_getElem? hy)
       unfold a4f
       simp only [k8]
       rw [show decide ((j:Int)<(x.Args.length:Int))=true by simp; omega,y4 hy]
       simp only [cond_true,Option.bind_some]
       rw [hrec y (by omega),j5 j (by omega)]
       exact a4w _ _
      ·unfold a4f
       simp
     rw [l3,hrec x.Result (by omega),b7X,a3W,j5 i (by omega)]
     simp only [Option.bind_some]
     cases x.Args.all vOK<;>cases x.Fails<;>cases vOK x.Result<;>rfl
    ·unfold a4k
     simp
   rw [l1,l2]
   cases a4b v<;>cases v.Kids.all vOK<;>cases v.Entries.all eOK<;>rfl
end Go.Pl
end
section
namespace Go.Pl
open Go Go.RowKit Go.Sx Go.Qx
def inR (N:Nat)(k:Int):Bool:=decide (0<=k)&&decide (k<(N:Int))
def a3f (N:Nat)(l:List Api_Field):Bool:=asc cK (l.map (·.Key_))&&(l.all (fun f=>Z8 f.Key_)&&l.all fun f=>inR N f.Node)
def a3u (N:Nat)(x:Api_TypeNode):Bool :=
 if x.Kind=3 then x.Kids.isEmpty&&decide (x.Lo<=x.Hi) else if x.Kind=4 then x.Kids.isEmpty&&decide ((x.Text.size:Int)<=64) else
 if x.Kind=6 then x.Kids.isEmpty&&a4K x.Text else if x.Kind=19 then x.Kids.isEmpty&&a61 x.Text else
 if x.Kind=1\/x.Kind=2\/x.Kind=5\/x.Kind=7\/x.Kind=8\/x.Kind=9\/x.Kind=11\/x.Kind=15 then x.Kids.isEmpty else
 if x.Kind=10 then decide ((x.Kids.length:Int)<=4) else if x.Kind=12 then (x.Kids.length:Int)==2 else
 if x.Kind=14 then decide (1<=(x.Kids.length:Int))&&decide ((x.Kids.length:Int)<=5) else
 if x.Kind=16\/x.Kind=17 then decide (1<=(x.Kids.length:Int)) else if x.Kind=18 then (x.Kids.length:Int)==1 else
 if x.Kind=13 then a3f N x.Fields&&(x.Kids.isEmpty&&(inR N x.Rest.1&&inR N x.Rest.2)) else false
def a6X (r:Int×Int):Bool:=r.1==0&&r.2==0
def V9 (N:Nat)(x:Api_TypeNode):Bool :=
 x.Kids.all (inR N)&&((x.Kind==3||(x.Lo==0&&x.Hi==0))&&((x.Kind==4||x.Kind==6||x.Kind==19||Y6 x.Text ⟨#[]⟩)&&((x.Kind==13||(x.Fields.isEmpty&&a6X x.Rest))&&a3u N x)))
theorem c4G {α:Type}(l:List α):((l.length:Int)==0)=l.isEmpty:=by cases l<;>simp<;>omega
theorem c4C (r:Int×Int):b2n r (0,0)=a6X r:=by unfold b2n a6X; simp
theorem b2s (t:Api_Type)(k:Int):a0v t k=some (inR t.Nodes.length k):=by
 unfold a0v inR
 cases decide (0<=k)<;>rfl
theorem k9 {i n:Nat}(h:i<n):decide ((i:Int)<(n:Int))=true:=decide_eq_true (by omega)
theorem d10 (q:Api_Field->Bool)(l:List Api_Field):(List.range l.length).all (b4p (fun a b=>cK a.Key_ b.Key_) q l)=(asc cK (l.map (·.Key_))&&l.all q):=by
 rw [c4K]
 congr 1
 rw [Bool.eq_iff_iff,b1Y,b1Y]
 constructor
 ·intro h i h1 hi
  have:=h i h1 (by simpa using hi)
  simpa using this
 ·intro h i h1 hi
  have:=h i h1 (by simpa using hi)
  simpa using this
theorem c5H {step:Int->Option (Fl Int (Sum Unit Bool))}(q:Api_Field->Bool)(l:List Api_Field)
 (hst:∀ (i:Nat) (x:Api_Field),l[i]?=some x->step (i:Int)=some (if b4p (fun a b=>cK a.Key_ b.Key_) q l i=true then .next ((i+1:Nat):Int) else .done (.inr false)))
 (hend:step (l.length:Int)=some (.done (.inl ()))):z7 step (l.length+1) 0=some (if (asc cK (l.map (·.Key_))&&l.all q)=true then .inl () else .inr false):=by
 have:=b9t (step:=step) (fun a b:Api_Field=>cK a.Key_ b.Key_) q l false hst hend
 rw [<- c4K,d10] at this
 exact this
theorem c5q (t:Api_Type)(x:Api_TypeNode)(hk:x.Kids.length<=4194304)(hf:x.Fields.length<=4194304):a6F t x=some (V9 t.Nodes.length x):=by
 have l1:z7 (a4W t x) (x.Kids.length+1) 0=some (if x.Kids.all (inR t.Nodes.length)=true then .inl () else .inr false):=by
  refine K9 x.Kids (inR t.Nodes.length) (fun i=>(i:Int)) () false ?_ ?_
  ·intro i k hx
   have hi:i<x.Kids.length:=(List.getElem?_eq_some_iff.1 hx).1
   unfold a4W
   rw [k9 hi,y4 hx]
   simp only [cond_true,Option.bind_some,b2s,k8]
   rw [j5 i (by omega)]
   exact a4w _ _
  ·unfold a4W
   simp
 have l2:z7 (a4U t x) (x.Fields.length+1) 0=some (if (asc cK (x.Fields.map (·.Key_))&&x.Fields.all fun f=>inR t.Nodes.length f.Node&&Z8 f.Key_)=true then .inl () else .inr false):=by
  refine c5H (fun f=>inR t.Nodes.length f.Node&&Z8 f.Key_) x.Fields ?_ ?_
  ·intro i f hx
   have hi:i<x.Fields.length:=(List.getElem?_eq_some_iff.1 hx).1
   unfold a4U
   rw [k9 hi,y4 hx]
   simp only [cond_true,Option.bind_some,b2s,b6B,k8,a3N]
   have hq:(Option.bind (bif !inR t.Nodes.length f.Node then some true else some (!Z8 f.Key_)) fun q=>some q)=some (!(inR t.Nodes.length f.Node&&Z8 f.Key_)):=by
    cases inR t.Nodes.length f.Node<;>cases Z8 f.Key_<;>rfl
   rw [a3N] at hq
   rw [hq]
   simp only [Option.bind_some]
   refine b53 (fun a b:Api_Field=>cK a.Key_ b.Key_) (fun f=>inR t.Nodes.length f.Node&&Z8 f.Key_) x.Fields i f hx (by omega) (fun h=>by rw [h]; rfl) (fun h h0=>by subst h0; rw [h]; rfl) (fun h j y hj hy hiy=>?_)
   subst hj
   rw [h,hiy,c5F]
   simp only [Bool.not_true,cond_false,cond_true,Option.bind_some,a78]
   by_cases hc:cK y.Key_ f.Key_<0
   ·have:¬ 0<=cK y.Key_ f.Key_:=by omega
    simp [hc,this]
   ·have:0<=cK y.Key_ f.Key_:=by omega
    simp [hc,this]
  ·unfold a4U
   simp
 unfold a6F
 simp only [w7,a3N,b2s,c4C,b3S,c14,c4G,c3H]
 rw [l1,l2]
 unfold V9
 cases x.Kids.all (inR t.Nodes.length)
 ·rfl
 simp only [Option.bind_some,if_true,j9]
 have hF:(asc cK (x.Fields.map (·.Key_))&&x.Fields.all fun f=>inR t.Nodes.length f.Node&&Z8 f.Key_)=a3f t.Nodes.length x.Fields:=by
  unfold a3f
  congr 1
  rw [Bool.eq_iff_iff,Bool.and_eq_true,List.all_eq_true,List.all_eq_true,List.all_eq_true]
  simp only [Bool.and_eq_true]
  exact ⟨fun h=>⟨fun f hf=>(h f hf).2,fun f hf=>(h f hf).1⟩,fun h f hf=>⟨h.2 f hf,h.1 f hf⟩⟩
 rw [hF]
 unfold a3u
 simp only [bne]
 generalize a3f t.Nodes.length x.Fields=A
 generalize inR t.Nodes.length x.Rest.1=B
 generalize inR t.Nodes.length x.Rest.2=C
 generalize a6X x.Rest=D
 generalize x.Fields.isEmpty=E
 generalize Y6 x.Text ⟨#[]⟩=G
 generalize (x.Lo==0)=H
 generalize (x.Hi==0)=J
 generalize x.Kids.isEmpty=M
 generalize a4K x.Text=O
 generalize a61 x.Text=Q
 generalize decide (x.Lo<=x.Hi)=R
 generalize decide ((x.Text.size:Int)<=64)=T
 generalize decide ((x.Kids.length:Int)<=4)=U
 generalize ((x.Kids.length:Int)==2)=V
 generalize ((x.Kids.length:Int)==1)=W
 generalize decide (1<=(x.Kids.length:Int))=X
 generalize decide ((x.Kids.length:Int)<=5)=Y
 by_cases hk:x.Kind=1\/x.Kind=2\/x.Kind=3\/x.Kind=4\/x.Kind=5\/x.Kind=6\/x.Kind=7\/x.Kind=8\/x.Kind=9\/x.Kind=10\/x.Kind=11\/x.Kind=12\/x.Kind=13\/x.Kind=14\/x.Kind=15\/x.Kind=16\/x.Kind=17\/x.Kind=18\/x.Kind=19
 ·rcases hk with h | h | h | h | h | h | h | h | h | h | h | h | h | h | h | h | h | h | h<;>rw [h]<;>cases G<;>cases H<;>cases J<;>cases E<;>cases D<;>simp
  all_goals first
   | rfl
   | (cases M<;>rfl)
   | (cases X<;>rfl)
   | (cases A<;>cases M<;>cases B<;>rfl)
 ·simp only [not_or] at hk
  obtain ⟨h1,h2,h3,h4,h5,h6,h7,h8,h9,h10,h11,h12,h13,h14,h15,h16,h17,h18,h19⟩:=hk
  have e:∀ {n:Int},¬ x.Kind=n->(x.Kind==n)=false:=fun h=>by simpa using h
  simp only [e h1,e h2,e h3,e h4,e h5,e h6,e h7,e h8,e h9,e h10,e h11,e h12,e h13,e h14,e h15,e h16,e h17,e h18,e h19,if_neg h3,if_neg h4,if_neg h6,if_neg h19,if_neg h10,if_neg h12,if_neg h14,if_neg h18,if_neg h13,h1,h2,h5,h7,h8,h9,h11,h15,h16,h17,or_self,if_false]
  cases G<;>cases H<;>cases J<;>cases E<;>cases D<;>rfl
end Go.Pl
namespace Go.Pl
open Go Go.RowKit Go.Sx Go.Qx
def b8A (x:Api_TypeNode):Bool :=
 (x.Kind==3||(x.Lo==0&&x.Hi==0))&&((x.Kind==4||x.Kind==6||x.Kind==19||Y6 x.Text ⟨#[]⟩) &&
   ((x.Kind==10||x.Kind==12||x.Kind==14||x.Kind==16||x.Kind==17||x.Kind==18||x.Kids.isEmpty)&&(x.Kind==13||(x.Fields.isEmpty&&a6X x.Rest))))
def c2c (l:List Api_Field):Bool:=asc cK (l.map (·.Key_))&&l.all fun f=>Z8 f.Key_
def b7Z (x:Api_TypeNode):Bool :=
 if x.Kind=3 then decide (x.Lo<=x.Hi) else if x.Kind=4 then decide ((x.Text.size:Int)<=64) else
 if x.Kind=6 then a4K x.Text else if x.Kind=19 then a61 x.Text else
 if x.Kind=1\/x.Kind=2\/x.Kind=5\/x.Kind=7\/x.Kind=8\/x.Kind=9\/x.Kind=11\/x.Kind=15 then true else
 if x.Kind=10 then decide ((x.Kids.length:Int)<=4) else if x.Kind=12 then (x.Kids.length:Int)==2 else
 if x.Kind=14 then decide (1<=(x.Kids.length:Int))&&decide ((x.Kids.length:Int)<=5) else
 if x.Kind=16\/x.Kind=17 then decide (1<=(x.Kids.length:Int)) else if x.Kind=18 then (x.Kids.length:Int)==1 else
 if x.Kind=13 then c2c x.Fields else false
def a6O (x:Api_TypeNode):List Int:=x.Kids++x.Fields.map (·.Node)++(if x.Kind=13 then [x.Rest.1,x.Rest.2] else [])
theorem a9l (k:Int):(k=1\/k=2\/k=3\/k=4\/k=5\/k=6\/k=7\/k=8\/k=9\/k=10\/k=11\/k=12\/k=13\/k=14\/k=15\/k=16\/k=17\/k=18\/k=19)\/∀ n:Int,1<=n->n<=19->(k==n)=false:=by
 by_cases h:1<=k/\k<=19
 ·left; omega
 ·right
  intro n h1 h2
  have:k≠n:=by omega
  simpa using this
theorem d0i (x:Api_TypeNode):a5B x=some (b8A x):=by
 unfold a5B b8A
 simp only [a3N,c4C,c4G]
 generalize a6X x.Rest=D
 generalize x.Fields.isEmpty=E
 generalize Y6 x.Text ⟨#[]⟩=G
 generalize (x.Lo==0)=H
 generalize (x.Hi==0)=J
 generalize x.Kids.isEmpty=M
 rcases a9l x.Kind with h | h
 ·rcases h with h | h | h | h | h | h | h | h | h | h | h | h | h | h | h | h | h | h | h<;>rw [h]<;>cases G<;>cases H<;>cases J<;>cases E<;>cases D<;>cases M<;>rfl
 ·simp only [h 3 (by omega) (by omega),h 4 (by omega) (by omega),h 6 (by omega) (by omega),h 19 (by omega) (by omega),h 10 (by omega) (by omega),h 12 (by omega) (by omega),h 14 (by omega) (by omega),h 16 (by omega) (by omega),h 17 (by omega) (by omega),h 18 (by omega) (by omega),h 13 (by omega) (by omega)]
  cases G<;>cases H<;>cases J<;>cases E<;>cases D<;>cases M<;>rfl
theorem c87 (l:List Api_Field)(hl:l.length<=4194304):a4q l=some (c2c l):=by
 have l2:z7 (a23 l) (l.length+1) 0=some (if (asc cK (l.map (·.Key_))&&l.all fun f=>Z8 f.Key_)=true then .inl () else .inr false):=by
  refine c5H (fun f=>Z8 f.Key_) l ?_ ?_
  ·intro i f hx
   have hi:i<l.length:=(List.getElem?_eq_some_iff.1 hx).1
   unfold a23
   rw [k9 hi,y4 hx]
   simp only [cond_true,Option.bind_some,c4S,k8,a3N]
   refine b53 (fun a b:Api_Field=>cK a.Key_ b.Key_) (fun f=>Z8 f.Key_) l i f hx (by omega) (fun h=>by rw [h]; rfl) (fun h h0=>by subst h0; rw [h]; rfl) (fun h j y hj hy hiy=>?_)
   subst hj
   rw [h,hiy,c5F]
   simp only [Bool.not_true,cond_false,cond_true,Option.bind_some,b0l]
   by_cases hc:cK y.Key_ f.Key_<0
   ·have:¬ 0<=cK y.Key_ f.Key_:=by omega
    simp [hc,this]
   ·have:0<=cK y.Key_ f.Key_:=by omega
    simp [hc,this]
  ·unfold a23
   simp
 unfold a4q c2c
 rw [w7,l2]
 cases (asc cK (l.map (·.Key_))&&l.all fun f=>Z8 f.Key_)<;>rfl
theorem d0N (x:Api_TypeNode)(hf:x.Fields.length<=4194304):a5w x=some (b7Z x):=by
 unfold a5w b7Z
 simp only [a3N,c60,d2E,c87 x.Fields hf]
 generalize c2c x.Fields=A
 generalize a4K x.Text=O
 generalize a61 x.Text=Q
 generalize decide (x.Lo<=x.Hi)=R
 generalize decide ((x.Text.size:Int)<=64)=T
 generalize decide ((x.Kids.length:Int)<=4)=U
 generalize ((x.Kids.length:Int)==2)=V
 generalize ((x.Kids.length:Int)==1)=W
 generalize decide (1<=(x.Kids.length:Int))=X
 generalize decide ((x.Kids.length:Int)<=5)=Y
 rcases a9l x.Kind with h | h
 ·rcases h with h | h | h | h | h | h | h | h | h | h | h | h | h | h | h | h | h | h | h<;>rw [h]<;>first | rfl | (cases X<;>rfl)
 ·have e:∀ n:Int,1<=n->n<=19->¬ x.Kind=n:=fun n h1 h2=>by simpa using h n h1 h2
  simp only [h 1 (by omega) (by omega),h 2 (by omega) (by omega),h 5 (by omega) (by omega),h 7 (by omega) (by omega),h 8 (by omega) (by omega),h 9 (by omega) (by omega),h 11 (by omega) (by omega),h 15 (by omega) (by omega),h 3 (by omega) (by omega),h 4 (by omega) (by omega),h 6 (by omega) (by omega),h 19 (by omega) (by omega),h 10 (by omega) (by omega),h 12 (by omega) (by omega),h 14 (by omega) (by omega),h 16 (by omega) (by omega),h 17 (by omega) (by omega),h 18 (by omega) (by omega),h 13 (by omega) (by omega),
   e 1 (by omega) (by omega),e 2 (by omega) (by omega),e 5 (by omega) (by omega),e 7 (by omega) (by omega),e 8 (by omega) (by omega),e 9 (by omega) (by omega),e 11 (by omega) (by omega),e 15 (by omega) (by omega),e 3 (by omega) (by omega),e 4 (by omega) (by omega),e 6 (by omega) (by omega),e 19 (by omega) (by omega),e 10 (by omega) (by omega),e 12 (by omega) (by omega),e 14 (by omega) (by omega),e 16 (by omega) (by omega),e 17 (by omega) (by omega),e 18 (by omega) (by omega),e 13 (by omega) (by omega),or_self,if_false]
  rfl
theorem c63 {α β:Type}(f:α->β):∀ (l:List α) (s:List β),l.foldl (fun s x=>s++[f x]) s=s++l.map f
 | [],s=>by simp
 | x::r,s=>by rw [List.foldl_cons,c63 f r]; simp
theorem c92 (x:Api_TypeNode)(hk:x.Kids.length<=1100000)(hf:x.Fields.length<=1100000):a7J x=some (a6O x):=by
 unfold a7J a0o a6O
 rw [v7 (by omega)]
 simp only [Option.bind_some,w7]
 have key:=a2T (σ:=List Int) (step:=a2R x) x.Fields (fun s i=>(s,(i:Int))) (fun s f=>s++[f.Node]) (fun i s=>s.length<=x.Kids.length+i) (fun s=>s)
  ?_ ?_ x.Kids (by simp) _ (Nat.le_refl _)
 ·have e:z7 (a2R x) (x.Fields.length+1) (x.Kids,0)=z7 (a2R x) (x.Fields.length+1) (x.Kids,((0:Nat):Int)):=rfl
  rw [e,key,c63]
  simp only [Option.bind_some]
  by_cases h:x.Kind=13
  ·rw [show (x.Kind==13)=true by simpa using h,if_pos h,v7 (by simp only [List.length_append,List.length_map,List.length_cons,List.length_nil]; omega)]
   rfl
  ·rw [show (x.Kind==13)=false by simpa using h,if_neg h,List.append_nil]
   rfl
 ·intro i s f hx hI
  have hi:i<x.Fields.length:=(List.getElem?_eq_some_iff.1 hx).1
  refine ⟨?_,by simp only [List.length_append,List.length_cons,List.length_nil]; omega⟩
  unfold a2R
  simp only [k8]
  rw [k9 hi,y4 hx]
  simp only [cond_true,Option.bind_some]
  rw [v7 (by simp only [List.length_cons,List.length_nil]; omega),j5 i (by omega)]
  rfl
 ·intro s _
  unfold a2R
  simp
theorem c8t (N:Nat)(x:Api_TypeNode):(b8A x&&(b7Z x&&(a6O x).all (inR N)))=V9 N x:=by
 unfold b8A b7Z V9 a3u a6O a3f c2c
 simp only [List.all_append,List.all_map]
 have hE:x.Fields.isEmpty=true->x.Fields=[]:=List.isEmpty_iff.1
 have hM:x.Kids.isEmpty=true->x.Kids=[]:=List.isEmpty_iff.1
 rcases a9l x.Kind with h | h
 ·have hK:x.Kids.isEmpty=true->x.Kids.all (inR N)=true:=fun e=>by rw [hM e]; rfl
  have hF:x.Fields.isEmpty=true->(x.Fields.all (inR N∘fun f=>f.Node))=true:=fun e=>by rw [hE e]; rfl
  have hcomp:(x.Fields.all fun f=>inR N f.Node)=x.Fields.all (inR N∘fun f=>f.Node):=rfl
  rw [hcomp]
  generalize x.Fields.all (inR N∘fun f=>f.Node)=a1 at hF
  generalize x.Kids.all (inR N)=a2 at hK
  generalize x.Fields.isEmpty=E at hF
  generalize x.Kids.isEmpty=M at hK
  generalize a6X x.Rest=D
  generalize Y6 x.Text ⟨#[]⟩=G
  generalize (x.Lo==0)=H
  generalize (x.Hi==0)=J
  rcases h with h | h | h | h | h | h | h | h | h | h | h | h | h | h | h | h | h | h | h<;>rw [h]<;>simp <;>
   cases G<;>cases H<;>cases J<;>cases E<;>cases D<;>cases M<;>simp_all
  all_goals first
   | (simp only [Bool.and_assoc]; done)
   | (cases a2<;>simp; done)
 ·have e:∀ n:Int,1<=n->n<=19->¬ x.Kind=n:=fun n h1 h2=>by simpa using h n h1 h2
  simp only [e 1 (by omega) (by omega),e 2 (by omega) (by omega),e 5 (by omega) (by omega),e 7 (by omega) (by omega),e 8 (by omega) (by omega),e 9 (by omega) (by omega),e 11 (by omega) (by omega),e 15 (by omega) (by omega),e 3 (by omega) (by omega),e 4 (by omega) (by omega),e 6 (by omega) (by omega),e 19 (by omega) (by omega),e 10 (by omega) (by omega),e 12 (by omega) (by omega),e 14 (by omega) (by omega),e 16 (by omega) (by omega),e 17 (by omega) (by omega),e 18 (by omega) (by omega),e 13 (by omega) (by omega),or_self,if_false]
  simp
end Go.Pl
namespace Go.Pl
open Go Go.RowKit Go.Sx Go.Qx
def isB (x:Api_TypeNode):Bool:=x.Kind==16||x.Kind==17||x.Kind==18
def c4I (ns:List Api_TypeNode):Prop:=∀ (i:Nat) (x:Api_TypeNode),ns[i]?=some x->isB x=true->∀ k∈x.Kids,(i:Int)<k
def a7u (ns:List Api_TypeNode):Bool:=ns.all (V9 ns.length)
theorem d29 (x:Api_TypeNode):a5l x.Kind=some (isB x):=by
 unfold a5l isB
 cases (x.Kind==16)<;>cases (x.Kind==17)<;>rfl
theorem c23 (x:Api_TypeNode):a4Z x=some (isB x):=by
 unfold a4Z isB
 cases (x.Kind==16)<;>cases (x.Kind==17)<;>rfl
theorem a5m {N:Nat}{x:Api_TypeNode}(h:V9 N x=true):∀ k∈x.Kids,inR N k=true:=by
 unfold V9 at h
 simp only [Bool.and_eq_true] at h
 exact List.all_eq_true.1 h.1
theorem a0K {N:Nat}{k:Int}(h:inR N k=true):∃ j:Nat,k=(j:Int)/\j<N:=by
 unfold inR at h
 simp only [Bool.and_eq_true,decide_eq_true_eq] at h
 exact ⟨k.toNat,by omega,by omega⟩
def Rk (ns:List Api_TypeNode)(r:Nat->Nat):Prop:=∀ (i:Nat) (x:Api_TypeNode),ns[i]?=some x->isB x=true->∀ k∈x.Kids,r k.toNat<r i
def Acy (ns:List Api_TypeNode):Prop:=∃ r,Rk ns r
open Classical in
noncomputable def a69 (ns:List Api_TypeNode):Bool:=decide (Acy ns)
theorem b2g {ns:List Api_TypeNode}:a69 ns=true↔Acy ns:=by
 unfold a69
 classical exact decide_eq_true_iff
theorem c4I.acy {ns:List Api_TypeNode}(h:c4I ns)(hT:a7u ns=true):a69 ns=true :=
 b2g.2 ⟨fun i=>ns.length-i,fun i x hx hb k hk=>by
  obtain ⟨j,rfl,hj⟩:=a0K (a5m (List.all_eq_true.1 hT x (List.mem_of_getElem? hx)) k hk)
  have:=h i x hx hb _ hk
  show ns.length-((j:Int)).toNat<ns.length-i
  rw [Int.toNat_natCast]
  omega⟩
def Gd (ns:List Api_TypeNode)(D:Nat->Prop):Prop:=∃ r:Nat->Nat,∀ (i:Nat) (x:Api_TypeNode),D i->ns[i]?=some x->isB x=true->∀ k∈x.Kids,D k.toNat/\r k.toNat<r i
theorem c6t (r:Nat->Nat):∀ (l:List Int) (k:Int),k∈l->r k.toNat<=(l.map fun k=>r k.toNat).sum
 | [],_,h=>by cases h
 | y::l,k,h=>by
   rw [List.map_cons,List.sum_cons]
   rcases List.mem_cons.1 h with rfl | h
   ·omega
   ·have:=c6t r l k h; omega
theorem Gd.add {ns:List Api_TypeNode}{D D':Nat->Prop}(h:Gd ns D){i:Nat}{x:Api_TypeNode}(hx:ns[i]?=some x)(hk:isB x=true->∀ k∈x.Kids,D k.toNat)(hD:∀ j,D' j↔D j\/j=i):Gd ns D':=by
 obtain ⟨r,hr⟩:=h
 by_cases hi:D i
 ·have e:∀ j,D' j↔D j:=fun j=>(hD j).trans ⟨fun h=>h.elim id (fun h=>by rw [h]; exact hi),.inl⟩
  exact ⟨r,fun j y h1 h2 h3 k h4=>by
   obtain ⟨k1,k2⟩:=hr j y ((e j).1 h1) h2 h3 k h4
   exact ⟨(e _).2 k1,k2⟩⟩
 ·refine ⟨fun j=>if j=i then 1+(x.Kids.map fun k=>r k.toNat).sum else r j,fun j y h1 h2 h3 k h4=>?_⟩
  by_cases hj:j=i
  ·subst hj
   rw [hx] at h2
   cases h2
   have hDk:=hk h3 k h4
   have hne:k.toNat≠j:=fun e=>hi (e▸hDk)
   refine ⟨(hD _).2 (.inl hDk),?_⟩
   simp only [if_neg hne,if_true]
   have:=c6t r x.Kids k h4
   omega
  ·obtain ⟨k1,k2⟩:=hr j y (((hD j).1 h1).resolve_right hj) h2 h3 k h4
   have hne:k.toNat≠i:=fun e=>hi (e▸k1)
   refine ⟨(hD _).2 (.inl k1),?_⟩
   simp only [if_neg hne,if_neg hj]
   exact k2
theorem Gd.acy {ns:List Api_TypeNode}{D:Nat->Prop}(h:Gd ns D)(hD:∀ j,j<ns.length->D j):Acy ns:=by
 obtain ⟨r,hr⟩:=h
 exact ⟨r,fun i x hx hb k hk=>(hr i x (hD i (List.getElem?_eq_some_iff.1 hx).1) hx hb k hk).2⟩
theorem Acy.small {ns:List Api_TypeNode}(h:Acy ns)(hT:a7u ns=true):∃ r,Rk ns r/\∀ i,i<ns.length->r i<ns.length:=by
 obtain ⟨r,hr⟩:=h
 have mono:∀ (l:List Nat) (a b:Nat),a<=b->(l.countP fun j=>decide (j<a))<=l.countP fun j=>decide (j<b):=fun l a b hab =>
  List.countP_mono_left fun x _ hx=>by simp at hx ⊢; omega
 have strict:∀ (l:List Nat) (a b:Nat),a<b->a∈l->(l.countP fun j=>decide (j<a))<l.countP fun j=>decide (j<b):=by
  intro l
  induction l with
  | nil=>intro a b _ h; cases h
  | cons y l ih =>
    intro a b hab hm
    rw [List.countP_cons,List.countP_cons]
    rcases List.mem_cons.1 hm with rfl | hm
    ·have:=mono l a b (by omega)
     simp only [Nat.lt_irrefl,decide_false,hab,decide_true,if_true]
     simp
     omega
    ·have h1:=ih a b hab hm
     by_cases h2:y<a
     ·simp only [h2,show y<b by omega,decide_true,if_true]; omega
     ·simp only [h2,decide_false]
      by_cases h3:y<b<;>simp [h3]<;>omega
 have hlt:∀ (l:List Nat) (a:Nat),a∈l->(l.countP fun j=>decide (j<a))<l.length:=fun l a hm=>by
  have h1:=strict l a (a+1) (by omega) hm
  have h2:(l.countP fun j=>decide (j<a+1))<=l.length:=List.countP_le_length
  omega
 refine ⟨fun i=>((List.range ns.length).map r).countP fun j=>decide (j<r i),fun i x hx hb k hk=>?_,fun i hi=>?_⟩
 ·obtain ⟨j,rfl,hj⟩:=a0K (a5m (List.all_eq_true.1 hT x (List.mem_of_getElem? hx)) k hk)
  exact strict _ _ _ (hr i x hx hb _ hk) (List.mem_map.2 ⟨j,by simpa using hj,by simp⟩)
 ·have:=hlt ((List.range ns.length).map r) (r i) (List.mem_map.2 ⟨i,by simpa using hi,rfl⟩)
  simpa using this
def DF (ns:List Api_TypeNode)(st:List Int)(j:Nat):Prop:=st[j]?=some 2\/∃ x,ns[j]?=some x/\isB x=false
theorem c6s:∀ (l:List Int) (i:Nat),l[i]?=some 0->(l.set i 1).count 0+1=l.count 0
 | [],i,h=>by simp at h
 | x::l,0,h=>by
   have:x=0:=by simpa using h
   subst this
   simp
 | x::l,i+1,h=>by
   have:=c6s l i (by simpa using h)
   rw [List.set_cons_succ,List.count_cons,List.count_cons]
   omega
theorem c9o:∀ (l:List Int) (i:Nat),(l.set i 2).count 0<=l.count 0
 | [],i=>by simp
 | x::l,0=>by
   rw [List.set_cons_zero,List.count_cons,List.count_cons]
   simp
 | x::l,i+1=>by
   have:=c9o l i
   rw [List.set_cons_succ,List.count_cons,List.count_cons]
   omega
structure DfsR (ns:List Api_TypeNode)(st st':List Int):Prop where
 len:st'.length=ns.length
 val:∀ (j:Nat) e,st'[j]?=some e->e=0\/e=1\/e=2
 gd:Gd ns (DF ns st')
 opn:∀ j:Nat,st'[j]?=some 1↔st[j]?=some 1
 don:∀ j:Nat,st[j]?=some 2->st'[j]?=some 2
 zer:st'.count 0<=st.count 0
theorem d20 (t:Api_Type)(hT:a7u t.Nodes=true)(hk:∀ x∈t.Nodes,x.Kids.length<=1100000) :
 ∀ (fuel i:Nat) (st:List Int),st.count 0<fuel->i<t.Nodes.length->DfsR t.Nodes st st ->
  ∃ b st',Q5 fuel (i:Int) st t ()=some (b,st')/\(b=true->DfsR t.Nodes st st'/\DF t.Nodes st' i)/\(b=false->∀ r,Rk t.Nodes r->(∀ o:Nat,st[o]?=some 1->r i<r o)->False):=by
 intro fuel
 induction fuel with
 | zero=>intro i st h1; omega
 | succ f ih =>
   intro i st h1 h2 hS
   show ∃ b st',a4D f (Q5 f) (i:Int) st t ()=some (b,st')/\_
   have h3:=hS.len
   have hi:i<st.length:=by omega
   have hst:=List.getElem?_eq_getElem hi
   have hn:=List.getElem?_eq_getElem h2
   generalize st[i]=e at hst
   generalize hx:t.Nodes[i]=x at hn
   have hxm:x∈t.Nodes:=List.mem_of_getElem? hn
   unfold a4D
   simp only [y4 hst,y4 hn,Int.toNat_natCast,hst,Option.bind_some,d29,w7,k8]
   by_cases hq:e=0/\isB x=true
   ·obtain ⟨he,hb⟩:=hq
    subst he
    rw [hb]
    simp only [bne_self_eq_false,cond_false,Bool.not_true,Option.bind_some]
    have hke:=hk x hxm
    have hz:=c6s st i hst
    have hset:∀ j:Nat,(st.set i 1)[j]?=some 1↔st[j]?=some 1\/j=i:=fun j=>by
     by_cases e:i=j
     ·subst e; rw [List.getElem?_set_self hi]; simp
     ·rw [List.getElem?_set_ne e]; exact ⟨.inl,fun h=>h.resolve_right (Ne.symm e)⟩
    have hset2:∀ j:Nat,(st.set i 1)[j]?=some 2↔st[j]?=some 2:=fun j=>by
     by_cases e:i=j
     ·subst e; rw [List.getElem?_set_self hi,hst]; simp
     ·rw [List.getElem?_set_ne e]
    have hS1:DfsR t.Nodes (st.set i 1) (st.set i 1):=by
     refine ⟨by simpa using h3,fun j e hj=>?_,?_,fun _=>Iff.rfl,fun _ h=>h,Nat.le_refl _⟩
     ·by_cases e1:i=j
      ·subst e1; rw [List.getElem?_set_self hi] at hj; simp at hj; omega
      ·rw [List.getElem?_set_ne e1] at hj; exact hS.val j e hj
     ·have e:∀ j,DF t.Nodes (st.set i 1) j↔DF t.Nodes st j:=fun j=>or_congr (hset2 j) Iff.rfl
      obtain ⟨r,hr⟩:=hS.gd
      exact ⟨r,fun j y a1 a2 a3 k a4=>by
       obtain ⟨k1,k2⟩:=hr j y ((e j).1 a1) a2 a3 k a4
       exact ⟨(e _).2 k1,k2⟩⟩
    have key:∀ (m a k:Nat) (s:List Int),a+m=x.Kids.length->m+1<=k->DfsR t.Nodes (st.set i 1) s->(∀ (q:Nat) (y:Int),q<a->x.Kids[q]?=some y->DF t.Nodes s y.toNat) ->
     (∃ s',z7 (Y9 t x (Q5 f)) k ((a:Int),s)=some (.inl s')/\DfsR t.Nodes (st.set i 1) s'/\∀ y∈x.Kids,DF t.Nodes s' y.toNat) \/
     ∃ s',z7 (Y9 t x (Q5 f)) k ((a:Int),s)=some (.inr (false,s'))/\∀ r,Rk t.Nodes r->(∀ o:Nat,st[o]?=some 1->r i<r o)->False:=by
     intro m
     induction m with
     | zero =>
       intro a k s b1 b2 b3 b4
       obtain ⟨k,rfl⟩:∃ m,k=m+1:=⟨k-1,by omega⟩
       have e:a=x.Kids.length:=by omega
       subst e
       have:Y9 t x (Q5 f) ((x.Kids.length:Int),s)=some (.done (.inl s)):=by
        unfold Y9
        simp
       exact .inl ⟨s,by simp only [z7,this,Option.bind_some],b3,fun y hy=>by
        obtain ⟨q,hq,e⟩:=List.getElem_of_mem hy
        exact b4 q y hq (by rw [List.getElem?_eq_getElem hq,e])⟩
     | succ m ihm =>
       intro a k s b1 b2 b3 b4
       obtain ⟨k,rfl⟩:∃ m,k=m+1:=⟨k-1,by omega⟩
       have ha:a<x.Kids.length:=by omega
       have hka:=List.getElem?_eq_getElem ha
       have hkm:=List.getElem_mem ha
       obtain ⟨j,hj1,hj3⟩:=a0K (a5m (List.all_eq_true.1 hT x hxm) _ hkm)
       obtain ⟨b,s',c1,c2,c3⟩:=ih j s (by have:=b3.zer; omega) hj3 ⟨b3.len,b3.val,b3.gd,fun _=>Iff.rfl,fun _ h=>h,Nat.le_refl _⟩
       cases b with
       | true =>
         obtain ⟨c4,c5⟩:=c2 rfl
         have:Y9 t x (Q5 f) ((a:Int),s)=some (.next (((a+1:Nat):Int),s')):=by
          unfold Y9
          rw [k9 ha,y4 hka,hj1]
          simp only [cond_true,Option.bind_some,k8]
          rw [c1,j5 a (by omega)]
          rfl
         simp only [z7,this,Option.bind_some]
         refine ihm (a+1) k s' (by omega) (by omega) ⟨c4.len,c4.val,c4.gd,fun q=>(c4.opn q).trans (b3.opn q),fun q hq=>c4.don q (b3.don q hq),Nat.le_trans c4.zer b3.zer⟩ (fun q y hq hy=>?_)
         by_cases hqa:q=a
         ·subst hqa
          rw [hka] at hy
          cases hy
          rw [hj1,Int.toNat_natCast]
          exact c5
         ·exact (b4 q y (by omega) hy).imp (fun h=>c4.don _ h) id
       | false =>
         have:Y9 t x (Q5 f) ((a:Int),s)=some (.done (.inr (false,s'))):=by
          unfold Y9
          rw [k9 ha,y4 hka,hj1]
          simp only [cond_true,Option.bind_some,k8]
          rw [c1]
          rfl
         refine .inr ⟨s',by simp only [z7,this,Option.bind_some],fun r hr ho=>c3 rfl r hr fun o hopn=>?_⟩
         have hrk:r j<r i:=by
          have:=hr i x hn hb _ hkm
          rwa [hj1,Int.toNat_natCast] at this
         rcases (hset o).1 ((b3.opn o).1 hopn) with h | rfl
         ·exact Nat.lt_trans hrk (ho o h)
         ·exact hrk
    have e0:z7 (Y9 t x (Q5 f)) (x.Kids.length+1) (0,st.set i 1)=z7 (Y9 t x (Q5 f)) (x.Kids.length+1) (((0:Nat):Int),st.set i 1):=rfl
    rw [e0]
    rcases key x.Kids.length 0 (x.Kids.length+1) (st.set i 1) (by omega) (Nat.le_refl _) hS1 (fun q y hq=>by omega) with ⟨s',c1,c2,c3⟩ | ⟨s',c1,c2⟩
    ·rw [c1]
     have hi':i<s'.length:=by rw [c2.len]; exact h2
     have hs':=List.getElem?_eq_getElem hi'
     have hs1:s'[i]?=some 1:=(c2.opn i).2 ((hset i).2 (.inr rfl))
     simp only [Option.bind_some,j9,y4 hs',hs']
     refine ⟨true,s'.set i 2,rfl,fun _=>⟨⟨by simpa using c2.len,fun j e hj=>?_,?_,fun j=>?_,fun j hj=>?_,?_⟩,.inl (List.getElem?_set_self hi')⟩,fun h=>by cases h⟩
     ·by_cases e1:i=j
      ·subst e1; rw [List.getElem?_set_self hi'] at hj; simp at hj; omega
      ·rw [List.getElem?_set_ne e1] at hj; exact c2.val j e hj
     ·refine Gd.add c2.gd hn (fun _=>c3) fun j=>?_
      unfold DF
      by_cases e1:i=j
      ·subst e1; rw [List.getElem?_set_self hi']; simp
      ·rw [List.getElem?_set_ne e1]; exact ⟨.inl,fun h=>h.resolve_right (Ne.symm e1)⟩
     ·by_cases e1:i=j
      ·subst e1; rw [List.getElem?_set_self hi',hst]; simp
      ·rw [List.getElem?_set_ne e1]
       exact (c2.opn j).trans ((hset j).trans ⟨fun h=>h.resolve_right (Ne.symm e1),.inl⟩)
     ·have h2':=c2.don j ((hset2 j).2 hj)
      by_cases e1:i=j
      ·subst e1; rw [List.getElem?_set_self hi']
      ·rw [List.getElem?_set_ne e1]; exact h2'
     ·have a1:=c9o s' i
      have a2:=c2.zer
      omega
    ·rw [c1]
     exact ⟨false,s',rfl,(fun h=>by cases h),fun _=>c2⟩
   ·by_cases he1:e=1
    ·subst he1
     exact ⟨false,st,by cases isB x<;>rfl,(fun h=>by cases h),fun _ r _ ho=>Nat.lt_irrefl _ (ho i hst)⟩
    ·refine ⟨true,st,?_,fun _=>⟨hS,?_⟩,fun h=>by cases h⟩
     ·by_cases he:e=0
      ·subst he
       have hb:isB x=false:=by
        cases hb:isB x with
        | true=>exact absurd ⟨rfl,hb⟩ hq
        | false=>rfl
       rw [hb]
       rfl
      ·have e2:(e != 0)=true:=by simpa using he
       have e3:(e != 1)=true:=by simpa using he1
       rw [e2,e3]
       rfl
     ·rcases hS.val i e hst with rfl | rfl | rfl
      ·right
       refine ⟨x,hn,?_⟩
       cases hb:isB x with
       | true=>exact absurd ⟨rfl,hb⟩ hq
       | false=>rfl
      ·exact absurd rfl he1
      ·exact .inl hst
theorem c99 (t:Api_Type)(hT:a7u t.Nodes=true)(hk:∀ x∈t.Nodes,x.Kids.length<=1100000)(hN:t.Nodes.length<=1100000)(fuel:Nat)(hf:t.Nodes.length+1<=fuel):a4l fuel t=some (a69 t.Nodes):=by
 unfold a4l a6H
 have e0:(decide (0<=(t.Nodes.length:Int))&&decide ((t.Nodes.length:Int)<=(t.Nodes.length:Int))&&decide ((t.Nodes.length:Int)*((8:Nat):Int)<=140737488355328))=true:=by
  simp; omega
 rw [e0]
 simp only [cond_true,Option.bind_some,w7]
 have key:∀ (m a k:Nat) (s:List Int),a+m=t.Nodes.length->m+1<=k->DfsR t.Nodes s s->(∀ j:Nat,s[j]?≠some 1)->(∀ j,j<a->DF t.Nodes s j) ->
  (∃ s',z7 (Q7 t fuel) k ((a:Int),s)=some (.inl s')/\a69 t.Nodes=true)\/∃ s',z7 (Q7 t fuel) k ((a:Int),s)=some (.inr (false,s'))/\a69 t.Nodes=false:=by
  intro m
  induction m with
  | zero =>
    intro a k s b1 b2 b3 b4 b5
    obtain ⟨k,rfl⟩:∃ m,k=m+1:=⟨k-1,by omega⟩
    have e:a=t.Nodes.length:=by omega
    subst e
    have:Q7 t fuel ((t.Nodes.length:Int),s)=some (.done (.inl s)):=by
     unfold Q7
     simp
    exact .inl ⟨s,by simp only [z7,this,Option.bind_some],b2g.2 (b3.gd.acy b5)⟩
  | succ m ih =>
    intro a k s b1 b2 b3 b4 b5
    obtain ⟨k,rfl⟩:∃ m,k=m+1:=⟨k-1,by omega⟩
    have hz:s.count 0<=t.Nodes.length:=by rw [<- b3.len]; exact List.count_le_length
    obtain ⟨b,s',c1,c2,c3⟩:=d20 t hT hk fuel a s (by omega) (by omega) b3
    cases b with
    | true =>
      obtain ⟨c4,c5⟩:=c2 rfl
      have:Q7 t fuel ((a:Int),s)=some (.next (((a+1:Nat):Int),s')):=by
       unfold Q7
       rw [k9 (show a<t.Nodes.length by omega)]
       simp only [cond_true,Option.bind_some,k8]
       rw [c1,j5 a (by omega)]
       rfl
      simp only [z7,this,Option.bind_some]
      refine ih (a+1) k s' (by omega) (by omega) ⟨c4.len,c4.val,c4.gd,fun _=>Iff.rfl,fun _ h=>h,Nat.le_refl _⟩ (fun j h=>b4 j ((c4.opn j).1 h)) (fun j hj=>?_)
      by_cases h:j=a
      ·rw [h]; exact c5
      ·exact (b5 j (by omega)).imp (fun h=>c4.don _ h) id
    | false =>
      have:Q7 t fuel ((a:Int),s)=some (.done (.inr (false,s'))):=by
       unfold Q7
       rw [k9 (show a<t.Nodes.length by omega)]
       simp only [cond_true,Option.bind_some,k8]
       rw [c1]
       rfl
      refine .inr ⟨s',by simp only [z7,this,Option.bind_some],?_⟩
      cases hA:a69 t.Nodes with
      | false=>rfl
      | true =>
        obtain ⟨r,hr⟩:=b2g.1 hA
        exact (c3 rfl r hr fun o ho=>absurd ho (b4 o)).elim
 have hrep:∀ (j:Nat) (e:Int),(List.replicate t.Nodes.length (0:Int))[j]?=some e->e=0:=fun j e h=>by
  rw [List.getElem?_replicate] at h
  split at h
  ·simpa using h.symm
  ·cases h
 have hS:DfsR t.Nodes (List.replicate t.Nodes.length (0:Int)) (List.replicate t.Nodes.length (0:Int)) :=
  ⟨by simp,fun j e h=>.inl (hrep j e h),⟨fun _=>0,fun i x hi hx hb=>by
   rcases hi with hi | ⟨y,hy,hyb⟩
   ·have:=hrep i 2 hi; omega
   ·rw [hx] at hy; cases hy; rw [hb] at hyb; cases hyb⟩,fun _=>Iff.rfl,fun _ h=>h,Nat.le_refl _⟩
 have e':∀ s,z7 (Q7 t fuel) (t.Nodes.length+1) (0,s)=z7 (Q7 t fuel) (t.Nodes.length+1) (((0:Nat):Int),s):=fun _=>rfl
 rw [e']
 rcases key t.Nodes.length 0 (t.Nodes.length+1) (List.replicate t.Nodes.length (0:Int)) (by omega) (Nat.le_refl _) hS (fun j h=>by have:=hrep j 1 h; omega) (fun j hj=>by omega) with ⟨s',e,hA⟩ | ⟨s',e,hA⟩
 ·rw [e,hA]; rfl
 ·rw [e,hA]; rfl
theorem d22 (t:Api_Type)(hk:∀ x∈t.Nodes,x.Kids.length<=1100000/\x.Fields.length<=1100000)(hN:t.Nodes.length<=1100000)(fuel:Nat)(hf:t.Nodes.length+1<=fuel):a0t fuel t=some (if inR t.Nodes.length t.Root&&a7u t.Nodes then (if a69 t.Nodes then 0 else 3) else 1):=by
 have l2:z7 (a3i t) (t.Nodes.length+1) 0=some (if t.Nodes.all (V9 t.Nodes.length)=true then .inl () else .inr 1):=by
  refine K9 t.Nodes (V9 t.Nodes.length) (fun i=>(i:Int)) () 1 ?_ ?_
  ·intro i x hx
   have hi:i<t.Nodes.length:=(List.getElem?_eq_some_iff.1 hx).1
   obtain ⟨hk1,hk2⟩:=hk x (List.mem_of_getElem? hx)
   unfold a3i
   rw [k9 hi,y4 hx]
   simp only [cond_true,Option.bind_some,d0i,d0N x (by omega),k8,w7]
   rw [<- c8t,j5 i (by omega)]
   cases b8A x
   ·rfl
   cases b7Z x
   ·rfl
   simp only [Bool.not_true,cond_false,Option.bind_some,Bool.true_and]
   rw [c92 x hk1 hk2]
   simp only [Option.bind_some]
   have he:(a6O x).length<=4194304:=by
    unfold a6O
    simp only [List.length_append,List.length_map]
    split<;>simp<;>omega
   have l1:z7 (a3r t (a6O x)) ((a6O x).length+1) 0=some (if (a6O x).all (inR t.Nodes.length)=true then .inl () else .inr 1):=by
    refine K9 (a6O x) (inR t.Nodes.length) (fun i=>(i:Int)) () 1 ?_ ?_
    ·intro j y hy
     have hj:j<(a6O x).length:=(List.getElem?_eq_some_iff.1 hy).1
     unfold a3r
     rw [k9 hj,y4 hy]
     simp only [cond_true,Option.bind_some,k8]
     rw [j5 j (by omega)]
     unfold inR
     by_cases h1:y<0
     ·have a1:decide (y<0)=true:=by simpa using h1
      have a2:decide (0<=y)=false:=by simp; omega
      rw [a1,a2]; rfl
     ·have a1:decide (y<0)=false:=by simpa using h1
      have a2:decide (0<=y)=true:=by simp; omega
      rw [a1,a2]
      by_cases h2:y<(t.Nodes.length:Int)
      ·have a3:decide ((t.Nodes.length:Int)<=y)=false:=by simp; omega
       have a4:decide (y<(t.Nodes.length:Int))=true:=by simpa using h2
       rw [a3,a4]; rfl
      ·have a3:decide ((t.Nodes.length:Int)<=y)=true:=by simp; omega
       have a4:decide (y<(t.Nodes.length:Int))=false:=by simpa using h2
       rw [a3,a4]; rfl
    ·unfold a3r
     simp
   rw [l1]
   cases (a6O x).all (inR t.Nodes.length)<;>rfl
  ·unfold a3i
   simp
 unfold a0t
 rw [w7,l2]
 have hq:(Option.bind (bif decide (t.Root<0) then some true else some (decide ((t.Nodes.length:Int)<=t.Root))) fun q=>some q)=some (!inR t.Nodes.length t.Root):=by
  unfold inR
  by_cases h1:t.Root<0
  ·have a1:decide (t.Root<0)=true:=by simpa using h1
   have a2:decide (0<=t.Root)=false:=by simp; omega
   rw [a1,a2]; rfl
  ·have a1:decide (t.Root<0)=false:=by simpa using h1
   have a2:decide (0<=t.Root)=true:=by simp; omega
   rw [a1,a2]
   by_cases h2:t.Root<(t.Nodes.length:Int)
   ·have a3:decide ((t.Nodes.length:Int)<=t.Root)=false:=by simp; omega
    have a4:decide (t.Root<(t.Nodes.length:Int))=true:=by simpa using h2
    rw [a3,a4]; rfl
   ·have a3:decide ((t.Nodes.length:Int)<=t.Root)=true:=by simp; omega
    have a4:decide (t.Root<(t.Nodes.length:Int))=false:=by simpa using h2
    rw [a3,a4]; rfl
 rw [a3N] at hq
 rw [hq]
 simp only [Option.bind_some]
 cases inR t.Nodes.length t.Root
 ·rfl
 show _=some (if a7u t.Nodes=true then (if a69 t.Nodes then (0:Int) else 3) else 1)
 cases hA:a7u t.Nodes with
 | true =>
   have hA':t.Nodes.all (V9 t.Nodes.length)=true:=hA
   rw [hA']
   simp only [Bool.not_true,cond_false,if_true,Option.bind_some,j9]
   rw [c99 t hA (fun x hx=>(hk x hx).1) hN fuel hf]
   cases a69 t.Nodes<;>rfl
 | false =>
   have hA':t.Nodes.all (V9 t.Nodes.length)=false:=hA
   rw [hA']
   rfl
theorem d4e (t:Api_Type)(hO:c4I t.Nodes)(hk:∀ x∈t.Nodes,x.Kids.length<=1100000/\x.Fields.length<=1100000)(hN:t.Nodes.length<=1100000)(fuel:Nat)(hf:t.Nodes.length+1<=fuel):a0t fuel t=some (if inR t.Nodes.length t.Root&&a7u t.Nodes then 0 else 1):=by
 rw [d22 t hk hN fuel hf]
 cases hA:a7u t.Nodes with
 | false=>rw [Bool.and_false]; rfl
 | true=>rw [hO.acy hA]; rfl
end Go.Pl
namespace Go.Pl
open Go Go.RowKit Go.Sx Go.Qx
theorem d1A (t:Api_Type)(D:List Bool)(i fuel:Nat)(x:Api_TypeNode)(hx:t.Nodes[i]?=some x)(hD:D.length=t.Nodes.length)(hT:a7u t.Nodes=true)(hk:x.Kids.length<=1100000)(hf:x.Kids.length+1<=fuel) :
 ∃ A,z7 (J5 t (D,(i:Int))) fuel (D,true,0)=some (D,A)/\((isB x=true->∀ k∈x.Kids,D[k.toNat]?=some true)↔A=true):=by
 have hxm:x∈t.Nodes:=List.mem_of_getElem? hx
 have hkr:=a5m (List.all_eq_true.1 hT x hxm)
 have hix:=y4 hx
 cases hb:isB x with
 | false =>
   obtain ⟨k,rfl⟩:∃ m,fuel=m+1:=⟨fuel-1,by omega⟩
   have:J5 t (D,(i:Int)) (D,true,0)=some (.done (D,true)):=by
    unfold J5
    simp only [hix,Option.bind_some,c23,hb]
    rfl
   exact ⟨true,by simp only [z7,this,Option.bind_some],fun _=>rfl,fun _ h=>by cases h⟩
 | true =>
   have key:∀ (m a k:Nat) (A:Bool),a+m=x.Kids.length->m+1<=k ->
    ∃ A',z7 (J5 t (D,(i:Int))) k (D,A,(a:Int))=some (D,A')/\((A=true/\∀ (q:Nat) (y:Int),a<=q->x.Kids[q]?=some y->D[y.toNat]?=some true)↔A'=true):=by
    intro m
    induction m with
    | zero =>
      intro a k A b1 b2
      obtain ⟨k,rfl⟩:∃ m,k=m+1:=⟨k-1,by omega⟩
      have e:a=x.Kids.length:=by omega
      subst e
      have:J5 t (D,(i:Int)) (D,A,(x.Kids.length:Int))=some (.done (D,A)):=by
       unfold J5
       simp only [hix,Option.bind_some,c23,hb,cond_true]
       simp
      exact ⟨A,by simp only [z7,this,Option.bind_some],fun h=>h.1,fun h=>⟨h,fun q y h1 h2=>by have:=(List.getElem?_eq_some_iff.1 h2).1; omega⟩⟩
    | succ m ih =>
      intro a k A b1 b2
      obtain ⟨k,rfl⟩:∃ m,k=m+1:=⟨k-1,by omega⟩
      have ha:a<x.Kids.length:=by omega
      have hka:=List.getElem?_eq_getElem ha
      have hkm:=List.getElem_mem ha
      obtain ⟨j,hj,hj2⟩:=a0K (hkr _ hkm)
      have hDj:=List.getElem?_eq_getElem (show j<D.length by omega)
      obtain ⟨A',c1,c2⟩:=ih (a+1) k (bif A then D[j] else false) (by omega) (by omega)
      have:J5 t (D,(i:Int)) (D,A,(a:Int))=some (.next (D,(bif A then D[j] else false),((a+1:Nat):Int))):=by
       unfold J5
       simp only [hix,Option.bind_some,c23,hb,cond_true,k9 ha,y4 hka,hj,y4 hDj,Int.toNat_natCast,hDj,k8]
       rw [j5 a (by omega)]
       cases A<;>rfl
      simp only [z7,this,Option.bind_some]
      refine ⟨A',c1,Iff.trans ⟨fun ⟨hA,hall⟩=>⟨?_,fun q y hq hy=>hall q y (by omega) hy⟩,fun ⟨hA,hall⟩=>?_⟩ c2⟩
      ·have hq:=hall a _ (Nat.le_refl _) hka
       rw [hj,Int.toNat_natCast,hDj] at hq
       subst hA
       simpa using hq
      ·cases A with
       | false=>cases hA
       | true =>
         refine ⟨rfl,fun q y hq hy=>?_⟩
         by_cases e:q=a
         ·subst e
          rw [hka] at hy
          cases hy
          rw [hj,Int.toNat_natCast,hDj]
          simpa using hA
         ·exact hall q y (by omega) hy
   obtain ⟨A,c1,c2⟩:=key x.Kids.length 0 fuel true (by omega) hf
   refine ⟨A,c1,Iff.trans ⟨fun h=>⟨rfl,fun q y _ hy=>h rfl y (List.mem_of_getElem? hy)⟩,fun h _ y hy=>?_⟩ c2⟩
   obtain ⟨q,hq,e⟩:=List.getElem_of_mem hy
   exact h.2 q y (Nat.zero_le _) (by rw [List.getElem?_eq_getElem hq,e])
def trD (D:List Bool)(j:Nat):Prop:=D[j]?=some true
theorem c9R (t:Api_Type)(hT:a7u t.Nodes=true)(hk:∀ x∈t.Nodes,x.Kids.length<=1100000)(hN:t.Nodes.length<=1100000)(fuel:Nat)(hf:1100001<=fuel)(r:Nat->Nat)(q:Nat) :
 ∀ (m a k:Nat) (D:List Bool),a+m=t.Nodes.length->m+1<=k->D.length=t.Nodes.length->Gd t.Nodes (trD D)->(Rk t.Nodes r->(∀ j,j<t.Nodes.length->r j<q->D[j]?=some true)/\∀ j,j<a->r j<q+1->D[j]?=some true) ->
  ∃ D',z7 (X1 t fuel) k (D,(a:Int))=some D'/\D'.length=t.Nodes.length/\Gd t.Nodes (trD D')/\(Rk t.Nodes r->∀ j,j<t.Nodes.length->r j<q+1->D'[j]?=some true):=by
 intro m
 induction m with
 | zero =>
   intro a k D b1 b2 b3 b4 b5
   obtain ⟨k,rfl⟩:∃ m,k=m+1:=⟨k-1,by omega⟩
   have e:a=t.Nodes.length:=by omega
   subst e
   have:X1 t fuel (D,(t.Nodes.length:Int))=some (.done D):=by
    unfold X1
    simp
   exact ⟨D,by simp only [z7,this,Option.bind_some],b3,b4,fun hr=>(b5 hr).2⟩
 | succ m ih =>
   intro a k D b1 b2 b3 b4 b5
   obtain ⟨k,rfl⟩:∃ m,k=m+1:=⟨k-1,by omega⟩
   have ha:a<t.Nodes.length:=by omega
   have hn:=List.getElem?_eq_getElem ha
   generalize hx:t.Nodes[a]=x at hn
   have hxm:x∈t.Nodes:=List.mem_of_getElem? hn
   have hkx:=hk x hxm
   obtain ⟨A,c1,c2⟩:=d1A t D a fuel x hn b3 hT hkx (by omega)
   have haD:a<D.length:=by omega
   have hDa:=List.getElem?_eq_getElem haD
   generalize D[a]=e at hDa
   have step:X1 t fuel (D,(a:Int))=some (.next (D.set a (e||A),((a+1:Nat):Int))):=by
    unfold X1
    simp only
    rw [k9 ha,c1]
    simp only [cond_true,Option.bind_some,y4 hDa,Int.toNat_natCast,hDa,k8]
    rw [j5 a (by omega)]
    cases e<;>rfl
   simp only [z7,step,Option.bind_some]
   have hset:∀ j,D[j]?=some true->(D.set a (e||A))[j]?=some true:=fun j hj=>by
    by_cases h:a=j
    ·subst h
     rw [List.getElem?_set_self haD]
     rw [hDa] at hj
     cases hj
     rfl
    ·rw [List.getElem?_set_ne h]; exact hj
   refine ih (a+1) k (D.set a (e||A)) (by omega) (by omega) (by simpa using b3) ?_ (fun hr=>⟨fun j hj h=>hset j ((b5 hr).1 j hj h),fun j hj h=>?_⟩)
   ·cases hA:A with
    | false =>
      have:D.set a (e||false)=D:=by
       apply List.ext_getElem?
       intro j
       by_cases h:a=j
       ·subst h; rw [List.getElem?_set_self haD,hDa,Bool.or_false]
       ·rw [List.getElem?_set_ne h]
      rw [this]; exact b4
    | true =>
      refine Gd.add b4 hn (fun hb k hk=>c2.2 hA hb k hk) fun j=>?_
      unfold trD
      by_cases h:a=j
      ·subst h; rw [List.getElem?_set_self haD]; simp
      ·rw [List.getElem?_set_ne h]; exact ⟨.inl,fun h1=>h1.resolve_right (Ne.symm h)⟩
   ·by_cases e1:j=a
    ·subst e1
     rw [List.getElem?_set_self haD]
     have hA:A=true:=c2.1 fun hb kk hkk=>by
      obtain ⟨i,rfl,hi⟩:=a0K (a5m (List.all_eq_true.1 hT x hxm) kk hkk)
      have:=hr j x hn hb _ hkk
      rw [Int.toNat_natCast] at this ⊢
      exact (b5 hr).1 i hi (by omega)
     rw [hA]
     simp
    ·exact hset j ((b5 hr).2 j (by omega) h)
theorem d1H (t:Api_Type)(hk:∀ x∈t.Nodes,x.Kids.length<=1100000/\x.Fields.length<=1100000)(hN:t.Nodes.length<=1100000)(fuel:Nat)(hf:1100001<=fuel):a01 fuel t=some (if inR t.Nodes.length t.Root&&a7u t.Nodes then (if a69 t.Nodes then 0 else 3) else 1):=by
 have l1:z7 (a2s t) (t.Nodes.length+1) 0=some (if t.Nodes.all (V9 t.Nodes.length)=true then .inl () else .inr 1):=by
  refine K9 t.Nodes (V9 t.Nodes.length) (fun i=>(i:Int)) () 1 ?_ ?_
  ·intro i x hx
   have hi:i<t.Nodes.length:=(List.getElem?_eq_some_iff.1 hx).1
   obtain ⟨hk1,hk2⟩:=hk x (List.mem_of_getElem? hx)
   unfold a2s
   rw [k9 hi,y4 hx]
   simp only [cond_true,Option.bind_some,k8]
   rw [c5q t x (by omega) (by omega),j5 i (by omega)]
   cases V9 t.Nodes.length x<;>rfl
  ·unfold a2s
   simp
 unfold a01
 rw [b2s,w7,l1]
 simp only [Option.bind_some]
 cases inR t.Nodes.length t.Root
 ·rfl
 show _=some (if a7u t.Nodes=true then (if a69 t.Nodes then (0:Int) else 3) else 1)
 cases hA:a7u t.Nodes with
 | false =>
   have hA':t.Nodes.all (V9 t.Nodes.length)=false:=hA
   rw [hA']
   rfl
 | true =>
   have hA':t.Nodes.all (V9 t.Nodes.length)=true:=hA
   rw [hA']
   simp only [Bool.not_true,cond_false,if_true,Option.bind_some,j9]
   have e0:a6H (t.Nodes.length:Int) (t.Nodes.length:Int) 1=some t.Nodes.length:=by
    unfold a6H
    have:(decide (0<=(t.Nodes.length:Int))&&decide ((t.Nodes.length:Int)<=(t.Nodes.length:Int))&&decide ((t.Nodes.length:Int)*((1:Nat):Int)<=140737488355328))=true:=by
     simp; omega
    rw [this]
    simp
   rw [e0]
   simp only [Option.bind_some]
   obtain ⟨r,hrr⟩:∃ r,a69 t.Nodes=true->Rk t.Nodes r/\∀ i,i<t.Nodes.length->r i<t.Nodes.length:=by
    cases hA2:a69 t.Nodes with
    | false=>exact ⟨fun _=>0,fun h=>by cases h⟩
    | true =>
      obtain ⟨r,h⟩:=(b2g.1 hA2).small hA
      exact ⟨r,fun _=>h⟩
   have key:∀ (m q k:Nat) (D:List Bool),q+m=t.Nodes.length->m+1<=k->D.length=t.Nodes.length->Gd t.Nodes (trD D)->(Rk t.Nodes r->∀ j,j<t.Nodes.length->r j<q->D[j]?=some true) ->
    ∃ D',z7 (X2 t fuel) k (D,(q:Int))=some D'/\D'.length=t.Nodes.length/\Gd t.Nodes (trD D')/\(Rk t.Nodes r->∀ j,j<t.Nodes.length->r j<t.Nodes.length->D'[j]?=some true):=by
    intro m
    induction m with
    | zero =>
      intro q k D b1 b2 b3 b4 b5
      obtain ⟨k,rfl⟩:∃ m,k=m+1:=⟨k-1,by omega⟩
      have e:q=t.Nodes.length:=by omega
      subst e
      have:X2 t fuel (D,(t.Nodes.length:Int))=some (.done D):=by
       unfold X2
       simp
      exact ⟨D,by simp only [z7,this,Option.bind_some],b3,b4,b5⟩
    | succ m ih =>
      intro q k D b1 b2 b3 b4 b5
      obtain ⟨k,rfl⟩:∃ m,k=m+1:=⟨k-1,by omega⟩
      obtain ⟨D',c1,c2,c3,c4⟩:=c9R t hA (fun x hx=>(hk x hx).1) hN fuel hf r q t.Nodes.length 0 (t.Nodes.length+1) D (by omega) (Nat.le_refl _) b3 b4 (fun hr=>⟨b5 hr,fun j hj=>by omega⟩)
      have c1':z7 (X1 t fuel) (t.Nodes.length+1) (D,0)=some D':=c1
      have step:X2 t fuel (D,(q:Int))=some (.next (D',((q+1:Nat):Int))):=by
       unfold X2
       simp only
       rw [k9 (show q<t.Nodes.length by omega),w7,c1']
       simp only [cond_true,Option.bind_some,k8]
       rw [j5 q (by omega)]
      simp only [z7,step,Option.bind_some]
      exact ih (q+1) k D' (by omega) (by omega) c2 c3 c4
   have hrep:∀ (j:Nat),(List.replicate t.Nodes.length false)[j]?≠some true:=fun j h=>by
    rw [List.getElem?_replicate] at h
    split at h<;>cases h
   obtain ⟨D,c1,c2,c3,c4⟩:=key t.Nodes.length 0 (t.Nodes.length+1) (List.replicate t.Nodes.length false) (by omega) (Nat.le_refl _) (by simp) ⟨fun _=>0,fun i x hi=>absurd hi (hrep i)⟩ (fun _ j hj h=>by omega)
   have c1':z7 (X2 t fuel) (t.Nodes.length+1) (List.replicate t.Nodes.length false,0)=some D:=c1
   rw [c1']
   simp only [Option.bind_some]
   have hall:D.all (fun b=>b)=a69 t.Nodes:=by
    rw [Bool.eq_iff_iff,List.all_eq_true]
    constructor
    ·intro h
     refine b2g.2 (c3.acy fun j hj=>?_)
     have hj':j<D.length:=by omega
     unfold trD
     rw [List.getElem?_eq_getElem hj',h _ (List.getElem_mem hj')]
    ·intro h b hb
     obtain ⟨j,hj,rfl⟩:=List.getElem_of_mem hb
     have:=c4 (hrr h).1 j (by omega) ((hrr h).2 j (by omega))
     rw [List.getElem?_eq_getElem hj] at this
     simpa using this
   have l5:=K9 (step:=a07) D (fun b=>b) (fun i=>(D,(i:Int))) D ((3:Int),D) (fun i x hx=>by
    have hi:i<D.length:=(List.getElem?_eq_some_iff.1 hx).1
    unfold a07
    simp only
    rw [k9 hi,y4 hx]
    simp only [cond_true,Option.bind_some,Int.toNat_natCast,hx,k8]
    rw [j5 i (by omega)]
    cases x<;>rfl) (by
    unfold a07
    simp)
   rw [hall] at l5
   have l5':z7 a07 (D.length+1) (D,0)=some (if a69 t.Nodes=true then .inl D else .inr ((3:Int),D)):=l5
   rw [w7,l5']
   cases a69 t.Nodes<;>rfl
theorem d3A (t:Api_Type)(hO:c4I t.Nodes)(hk:∀ x∈t.Nodes,x.Kids.length<=1100000/\x.Fields.length<=1100000)(hN:t.Nodes.length<=1100000)(fuel:Nat)(hf:1100001<=fuel):a01 fuel t=some (if inR t.Nodes.length t.Root&&a7u t.Nodes then 0 else 1):=by
 rw [d1H t hk hN fuel hf]
 cases hA:a7u t.Nodes with
 | false=>rw [Bool.and_false]; rfl
 | true=>rw [hO.acy hA]; rfl
end Go.Pl
end
section
namespace Go.Pl
open Go Go.RowKit Go.Sx Go.Qx
structure GN (N i:Nat)(x:Api_TypeNode):Prop where
 ok:V9 N x=true
 ord:isB x=true->∀ k∈x.Kids,(i:Int)<k
 kids:x.Kids.length<=4
 text:x.Text.size<=5
 flds:x.Fields.length<=3
 keys:∀ f∈x.Fields,a5g f.Key_<=8
 rng : -9223372036854775808<=x.Lo/\x.Lo<=9223372036854775807 /\ -9223372036854775808<=x.Hi/\x.Hi<=9223372036854775807
theorem b6A {N M:Nat}(h:N<=M){k:Int}(hk:inR N k=true):inR M k=true:=by
 unfold inR at *
 simp only [Bool.and_eq_true,decide_eq_true_eq] at *
 omega
theorem c5E {α:Type}{p q:α->Bool}{l:List α}(h:∀ x,p x=true->q x=true)(k:l.all p=true):l.all q=true:=List.all_eq_true.2 fun x hx=>h x (List.all_eq_true.1 k x hx)
theorem c7v {N M:Nat}(h:N<=M){x:Api_TypeNode}(hx:V9 N x=true):V9 M x=true:=by
 unfold V9 at *
 simp only [Bool.and_eq_true] at *
 refine ⟨c5E (fun k=>b6A h) hx.1,hx.2.1,hx.2.2.1,hx.2.2.2.1,?_⟩
 have hk:=hx.2.2.2.2
 unfold a3u at *
 split<;>rename_i h3
 ·rwa [if_pos h3] at hk
 rw [if_neg h3] at hk
 split<;>rename_i h4
 ·rwa [if_pos h4] at hk
 rw [if_neg h4] at hk
 split<;>rename_i h6
 ·rwa [if_pos h6] at hk
 rw [if_neg h6] at hk
 split<;>rename_i h19
 ·rwa [if_pos h19] at hk
 rw [if_neg h19] at hk
 split<;>rename_i hs
 ·rwa [if_pos hs] at hk
 rw [if_neg hs] at hk
 split<;>rename_i h10
 ·rwa [if_pos h10] at hk
 rw [if_neg h10] at hk
 split<;>rename_i h12
 ·rwa [if_pos h12] at hk
 rw [if_neg h12] at hk
 split<;>rename_i h14
 ·rwa [if_pos h14] at hk
 rw [if_neg h14] at hk
 split<;>rename_i h16
 ·rwa [if_pos h16] at hk
 rw [if_neg h16] at hk
 split<;>rename_i h18
 ·rwa [if_pos h18] at hk
 rw [if_neg h18] at hk
 split<;>rename_i h13
 ·rw [if_pos h13] at hk
  unfold a3f at *
  simp only [Bool.and_eq_true] at *
  exact ⟨⟨hk.1.1,hk.1.2.1,c5E (fun f=>b6A h) hk.1.2.2⟩,hk.2.1,b6A h hk.2.2.1,b6A h hk.2.2.2⟩
 ·rwa [if_neg h13] at hk
theorem GN.mono {N M i:Nat}{x:Api_TypeNode}(h:GN N i x)(k:N<=M):GN M i x:=⟨c7v k h.ok,h.ord,h.kids,h.text,h.flds,h.keys,h.rng⟩
abbrev c0T (k:Int)(l:List Int):Api_TypeNode:=Api_TypeNode.mk k 0 0 (⟨#[]⟩:ByteArray) l ([]:List Api_Field) (0,0)
abbrev d5j (k:Int)(s:ByteArray):Api_TypeNode:=Api_TypeNode.mk k 0 0 s ([]:List Int) ([]:List Api_Field) (0,0)
theorem b2Z {N i:Nat}{k:Int}{l:List Int}(hl:l.all (inR N)=true)(h4:l.length<=4)(hk:a3u N (c0T k l)=true)(ho:k=16\/k=17\/k=18->∀ x∈l,(i:Int)<x):GN N i (c0T k l):=by
 refine ⟨?_,fun hb=>ho ?_,h4,by show (⟨#[]⟩:ByteArray).size<=5; decide,by show (0:Nat)<=3; omega,(fun f hf=>by cases hf),by show (-9223372036854775808:Int)<=0/\(0:Int)<=9223372036854775807/\(-9223372036854775808:Int)<=0/\(0:Int)<=9223372036854775807; decide⟩
 ·unfold V9
  rw [hk]
  simp [hl,a7k,a6X]
 ·unfold isB at hb
  simp at hb
  omega
theorem c4J {N i:Nat}{k:Int}{s:ByteArray}(hs:s.size<=5)(hk:(k=4)\/(k=6/\a4K s=true)\/(k=19/\a61 s=true)):GN N i (d5j k s):=by
 refine ⟨?_,fun hb=>?_,by show (0:Nat)<=4; omega,hs,by show (0:Nat)<=3; omega,(fun f hf=>by cases hf),by show (-9223372036854775808:Int)<=0/\(0:Int)<=9223372036854775807/\(-9223372036854775808:Int)<=0/\(0:Int)<=9223372036854775807; decide⟩
 ·have h64:(s.size:Int)<=64:=by omega
  rcases hk with rfl | ⟨rfl,h⟩ | ⟨rfl,h⟩
  ·simp [V9,a3u,a6X,h64]
  ·simp [V9,a3u,a6X,h]
  ·simp [V9,a3u,a6X,h]
 ·intro x hx; cases hx
section
variable {L:List Int}
theorem b8T {γ σ τ:Type}{step:σ->Option (Fl σ τ)}(pack:γ->Int->Semtypebase_Source->σ)(out:γ->Semtypebase_Source->τ)(Inv:Nat->γ->Prop)(J:Nat)
 (hst:∀ (j:Nat) (g:γ) (s:Semtypebase_Source),j<J->Inv j g->OS L s->∃ g' s',step (pack g (j:Int) s)=some (.next (pack g' ((j+1:Nat):Int) s'))/\OS L s'/\Inv (j+1) g')
 (hend:∀ g s,step (pack g (J:Int) s)=some (.done (out g s))) :
 ∀ (n j k:Nat) (g:γ) (s:Semtypebase_Source),j+n=J->n+1<=k->Inv j g->OS L s->∃ g' s',z7 step k (pack g (j:Int) s)=some (out g' s')/\OS L s'/\Inv J g':=by
 intro n
 induction n with
 | zero =>
   intro j k g s hJ hk hI hs
   obtain ⟨k,rfl⟩:∃ m,k=m+1:=⟨k-1,by omega⟩
   have e:j=J:=by omega
   subst e
   exact ⟨g,s,by have:=hend g s; simp [z7,this],hs,hI⟩
 | succ n ih =>
   intro j k g s hJ hk hI hs
   obtain ⟨k,rfl⟩:∃ m,k=m+1:=⟨k-1,by omega⟩
   obtain ⟨g1,s1,e,hs1,hI1⟩:=hst j g s (by omega) hI hs
   obtain ⟨g2,s2,e2,hs2,hI2⟩:=ih (j+1) k g1 s1 (by omega) (by omega) hI1 hs1
   refine ⟨g2,s2,?_,hs2,hI2⟩
   simp only [z7,e,Option.bind_some]
   exact e2
theorem c6d (hL:L.length<=4194304){s:Semtypebase_Source}(h:OS L s)(m i N:Nat)(hm:m<=4)(hi:i<N)(hN:N<=100) :
 ∃ l t,w3 s (m:Int) (i:Int) (N:Int)=some (l,t)/\OS L t/\l.length=m/\∀ k∈l,(i:Int)<=k/\k<(N:Int):=by
 unfold w3
 obtain ⟨g,s',e,hs',h1,h2⟩:=b0e (γ:=List Int) (L:=L) (step:=a1k (i:Int) (N:Int)) (fun g j s=>(j,g,s)) (fun g s=>(g,s)) (fun j g=>g.length=j/\∀ k∈g,(i:Int)<=k/\k<(N:Int)) m
  (fun j n g s hj hn hI hs=>by
    obtain ⟨x,t,e,ht,a,b⟩:=Y0 hL hs (n:=w64 ((N:Int)-(i:Int))) (by rw [K5 (by omega) (by omega)]; omega) (by rw [K5 (by omega) (by omega)]; omega)
    rw [K5 (by omega) (by omega)] at b
    have hw:w64 ((i:Int)+x)=(i:Int)+x:=K5 (by omega) (by omega)
    refine ⟨g++[(i:Int)+x],t,?_,ht,?_,?_⟩
    ·unfold a1k
     simp only [k8]
     rw [show decide (0<((n+1:Nat):Int))=true from decide_eq_true (by omega),e]
     simp only [cond_true,Option.bind_some,hw]
     rw [v7 (by simp only [List.length_cons,List.length_nil]; have:=hI.1; omega),show w64 (((n+1:Nat):Int)-1)=(n:Int) by rw [K5 (by omega) (by omega)]; omega]
     rfl
    ·simp [hI.1]
    ·intro k hk
     rcases List.mem_append.1 hk with hk | hk
     ·exact hI.2 k hk
     ·rw [List.mem_singleton.1 hk]; omega) (fun g s=>by
    unfold a1k
    rfl) m 0 ((m:Int).toNat+2) [] s (by omega) (by omega) ⟨rfl,fun k hk=>by cases hk⟩ h
 rw [e]
 exact ⟨g,s',rfl,hs',by simpa using h1,h2⟩
theorem a87 {N:Nat}{k:Int}(h0:0<=k)(h1:k<(N:Int)):inR N k=true:=by
 unfold inR
 simp [h0,h1]
theorem b1W {N i:Nat}{l:List Int}(h:∀ k∈l,(i:Int)<=k/\k<(N:Int)):l.all (inR N)=true:=List.all_eq_true.2 fun k hk=>by
 have:=h k hk
 exact a87 (by omega) this.2
abbrev d2P:Key:=Key.mk 0 ⟨#[97]⟩
abbrev d2X:Key:=Key.mk 0 ⟨#[98]⟩
abbrev d3H:Key:=Key.mk 1 ⟨#[115]⟩
abbrev d4E:Type:=Int×Int×Int×ByteArray×(List Int)×(List Api_Field)×Int×Int
abbrev b0U (F:List Api_Field)(a b:Int):d4E:=(13,0,0,(⟨#[]⟩:ByteArray),[],F,a,b)
theorem b8k (hL:L.length<=4194304){s:Semtypebase_Source}(h:OS L s)(N j:Nat)(hN:1<=N)(hN2:N<=100)(hj:j<3)(K:Key)(hK:[d2P,d2X,d3H][j]?=some K)(F:List Api_Field)(hF:F.length<=j)(a b:Int) :
 ∃ O t,X0 (N:Int) ((j:Int),s,b0U F a b)=some (.next (((j+1:Nat):Int),t,b0U (F++O) a b))/\OS L t/\(O=[]\/∃ n o,O=[Api_Field.mk K n o]/\inR N n=true):=by
 obtain ⟨x,t,e,ht,_,_⟩:=Y0 hL h (n:=2) (by omega) (by omega)
 unfold X0
 simp only [k8]
 rw [show decide ((j:Int)<3)=true from decide_eq_true (by omega),e]
 simp only [cond_true,Option.bind_some]
 rw [j5 j (by omega)]
 cases hx:x==1
 ·exact ⟨[],t,by simp only [cond_false,Option.bind_some,List.append_nil],ht,.inl rfl⟩
 ·simp only [cond_true]
  rw [y4 hK]
  obtain ⟨n,t2,e2,ht2,n0,n1⟩:=Y0 hL ht (n:=(N:Int)) (by omega) (by omega)
  obtain ⟨o,t3,e3,ht3,_,_⟩:=Y0 hL ht2 (n:=2) (by omega) (by omega)
  simp only [Option.bind_some,e2,e3]
  rw [v7 (by simp only [List.length_cons,List.length_nil]; omega)]
  exact ⟨[Api_Field.mk K n (o==1)],t3,rfl,ht3,.inr ⟨n,_,rfl,a87 n0 n1⟩⟩
theorem c54 (hL:L.length<=4194304){s:Semtypebase_Source}(h:OS L s)(N i:Nat)(hN:1<=N)(hN2:N<=100):∃ x t,a2c s (N:Int)=some (x,t)/\OS L t/\GN N i x:=by
 obtain ⟨a,t1,e1,ht1,a0,a1⟩:=Y0 hL h (n:=(N:Int)) (by omega) (by omega)
 obtain ⟨b,t2,e2,ht2,b0,b1⟩:=Y0 hL ht1 (n:=(N:Int)) (by omega) (by omega)
 obtain ⟨O0,t3,e3,ht3,h0⟩:=b8k hL ht2 N 0 hN hN2 (by omega) d2P rfl [] (by simp) a b
 have l0:O0.length<=1:=by rcases h0 with rfl | ⟨n,o,rfl,_⟩<;>simp
 obtain ⟨O1,t4,e4,ht4,h1⟩:=b8k hL ht3 N 1 hN hN2 (by omega) d2X rfl ([]++O0) (by simpa using l0) a b
 have l1:O1.length<=1:=by rcases h1 with rfl | ⟨n,o,rfl,_⟩<;>simp
 obtain ⟨O2,t5,e5,ht5,h2⟩:=b8k hL ht4 N 2 hN hN2 (by omega) d3H rfl (([]++O0)++O1) (by simp; omega) a b
 have e6:X0 (N:Int) (((2+1:Nat):Int),t5,b0U ((([]++O0)++O1)++O2) a b)=some (.done (t5,b0U ((([]++O0)++O1)++O2) a b)):=rfl
 refine ⟨Api_TypeNode.mk 13 0 0 (⟨#[]⟩:ByteArray) [] (O0++O1++O2) (a,b),t5,?_,ht5,?_⟩
 ·unfold a2c
  rw [e1]
  simp only [Option.bind_some]
  rw [e2]
  simp only [Option.bind_some]
  have ei:z7 (X0 (N:Int)) ((3:Int).toNat+1) (0,t2,(13,0,0,(⟨#[]⟩:ByteArray),[],[],a,b))=some (t5,b0U ((([]++O0)++O1)++O2) a b):=by
   show z7 (X0 (N:Int)) (3+1) (((0:Nat):Int),t2,b0U [] a b)=_
   simp only [z7,e3,e4,e5,e6,Option.bind_some]
  rw [ei]
  rfl
 ·refine ⟨?_,fun hb=>absurd hb (show ¬ (false=true) by simp),by show (0:Nat)<=4; omega,by show (⟨#[]⟩:ByteArray).size<=5; decide,?_,?_,by show (-9223372036854775808:Int)<=0/\(0:Int)<=9223372036854775807/\(-9223372036854775808:Int)<=0/\(0:Int)<=9223372036854775807; decide⟩
  ·have ha:=a87 (N:=N) a0 a1
   have hb:=a87 (N:=N) b0 b1
   have hF:a3f N (O0++O1++O2)=true:=by
    unfold a3f
    rw [Bool.and_eq_true,Bool.and_eq_true]
    refine ⟨?_,?_,?_⟩
    ·rcases h0 with rfl | ⟨n,o,rfl,_⟩<;>rcases h1 with rfl | ⟨n',o',rfl,_⟩<;>rcases h2 with rfl | ⟨n'',o'',rfl,_⟩<;>kernel_rfl
    ·rcases h0 with rfl | ⟨n,o,rfl,_⟩<;>rcases h1 with rfl | ⟨n',o',rfl,_⟩<;>rcases h2 with rfl | ⟨n'',o'',rfl,_⟩<;>kernel_rfl
    ·rcases h0 with rfl | ⟨n,o,rfl,q0⟩<;>rcases h1 with rfl | ⟨n',o',rfl,q1⟩<;>rcases h2 with rfl | ⟨n'',o'',rfl,q2⟩<;>simp_all
   unfold V9 a3u
   simp only [hF,ha,hb,a7k]
   simp
  ·show (O0++O1++O2).length<=3
   have l2:O2.length<=1:=by rcases h2 with rfl | ⟨n,o,rfl,_⟩<;>simp
   simp only [List.length_append]
   omega
  ·intro f hf
   have hf:f∈O0++O1++O2:=hf
   have one:∀ {O:List Api_Field} {K:Key},(O=[]\/∃ n o,O=[Api_Field.mk K n o]/\inR N n=true)->f∈O->f.Key_=K:=fun hO hm=>by
    rcases hO with rfl | ⟨n,o,rfl,_⟩
    ·cases hm
    ·rw [List.mem_singleton.1 hm]
   rcases List.mem_append.1 hf with hf | hf
   ·rcases List.mem_append.1 hf with hf | hf
    ·rw [one h0 hf]; decide
    ·rw [one h1 hf]; decide
   ·rw [one h2 hf]; decide
end
end Go.Pl
namespace Go.Pl
open Go Go.RowKit Go.Sx Go.Qx
theorem b8N {N i:Nat}{k:Int}(hk:k=1\/k=2\/k=5\/k=7\/k=8\/k=9\/k=11\/k=15):GN N i (c0T k []) :=
 b2Z rfl (by simp) (by rcases hk with rfl | rfl | rfl | rfl | rfl | rfl | rfl | rfl<;>rfl) (fun _ x hx=>by cases hx)
theorem d3m {N i:Nat}{lo hi:Int}(h:lo<=hi)(h2 : -9223372036854775808<=lo/\lo<=9223372036854775807 /\ -9223372036854775808<=hi/\hi<=9223372036854775807):GN N i (Api_TypeNode.mk 3 lo hi (⟨#[]⟩:ByteArray) ([]:List Int) ([]:List Api_Field) (0,0)) :=
 ⟨by simp [V9,a3u,a6X,a7k,h],(fun _ x hx=>by cases hx),(by show (0:Nat)<=4; omega),(by show (⟨#[]⟩:ByteArray).size<=5; decide),(by show (0:Nat)<=3; omega),(fun f hf=>by cases hf),h2⟩
theorem c8n:b9q.all (fun x=>a61 x&&decide (x.size<=5))=true:=by kernel_rfl
section
variable {L:List Int}
theorem b2L {x:Int}(h:0<=x):∃ m:Nat,x=(m:Int):=⟨x.toNat,by omega⟩
theorem c95 (hL:L.length<=4194304){s:Semtypebase_Source}(h:OS L s)(N i:Nat)(hi:i<N)(hN2:N<=100):∃ x t,a2U s (i:Int) (N:Int)=some (x,t)/\OS L t/\GN N i x:=by
 have hw:w64 ((N:Int)-1)=(N:Int)-1:=K5 (by omega) (by omega)
 have hwi:=j5 i (by omega)
 obtain ⟨b,hb,hlast,hb18⟩:∃ b:Int,(bif ((i:Int)==(wr .i64 ((N:Int)-1))) then (some 14:Option Int) else some 18)=some b/\(14<b->i+1<N)/\(b=14\/b=18):=by
  by_cases e:i+1=N
  ·refine ⟨14,?_,fun h=>by omega,.inl rfl⟩
   have:((i:Int)==(N:Int)-1)=true:=by simp; omega
   simp only [k8,hw,this,cond_true]
  ·refine ⟨18,?_,fun _=>by omega,.inr rfl⟩
   have:((i:Int)==(N:Int)-1)=false:=by simp; omega
   simp only [k8,hw,this,cond_false]
 unfold a2U
 rw [hb]
 simp only [Option.bind_some]
 obtain ⟨c,t,e,ht,c0,c1⟩:=Y0 hL h (n:=b) (by omega) (by omega)
 rw [e]
 simp only [Option.bind_some]
 have ix:∀ {s:Semtypebase_Source},OS L s->∀ (m f:Nat),m<=4->f<N->∃ l t,w3 s (m:Int) (f:Int) (N:Int)=some (l,t)/\OS L t/\l.length=m/\∀ k∈l,(f:Int)<=k/\k<(N:Int):=fun hs m f hm hf=>c6d hL hs m f N hm hf hN2
 have hc:c=0\/c=1\/c=2\/c=3\/c=4\/c=5\/c=6\/c=7\/c=8\/c=9\/c=10\/c=11\/c=12\/c=13\/c=14\/c=15\/c=16\/c=17:=by omega
 have tup:∀ {s:Semtypebase_Source},OS L s->∃ x t,(Option.bind (z8 s 3) fun r19=>Option.bind (w3 r19.2 r19.1 0 (N:Int)) fun r20=>some (c0T 10 r20.1,r20.2))=some (x,t)/\OS L t/\GN N i x:=fun hs=>by
  obtain ⟨m,t2,e2,ht2,m0,m1⟩:=Y0 hL hs (n:=3) (by omega) (by omega)
  obtain ⟨m,rfl⟩:=b2L m0
  obtain ⟨l,t3,e3,ht3,hl,hr⟩:=ix ht2 m 0 (by omega) (by omega)
  rw [e2]
  simp only [Option.bind_some]
  have e3':w3 t2 (m:Int) 0 (N:Int)=some (l,t3):=e3
  rw [e3']
  refine ⟨_,t3,rfl,ht3,b2Z (l:=l) (b1W hr) (show l.length<=4 by omega) ?_ (fun h=>by omega)⟩
  show decide ((l.length:Int)<=4)=true
  exact decide_eq_true (by omega)
 have fun_:∀ {s:Semtypebase_Source},OS L s->∃ x t,(Option.bind (z8 s 3) fun r24=>Option.bind (w3 r24.2 (w64 (1+r24.1)) 0 (N:Int)) fun r25=>some (c0T 14 r25.1,r25.2))=some (x,t)/\OS L t/\GN N i x:=fun hs=>by
  obtain ⟨m,t2,e2,ht2,m0,m1⟩:=Y0 hL hs (n:=3) (by omega) (by omega)
  obtain ⟨m,rfl⟩:=b2L m0
  obtain ⟨l,t3,e3,ht3,hl,hr⟩:=ix ht2 (m+1) 0 (by omega) (by omega)
  rw [e2]
  simp only [Option.bind_some]
  have e3':w3 t2 (w64 (1+(m:Int))) 0 (N:Int)=some (l,t3):=by
   rw [K5 (by omega) (by omega),show 1+(m:Int)=((m+1:Nat):Int) by omega]
   exact e3
  rw [e3']
  refine ⟨_,t3,rfl,ht3,b2Z (l:=l) (b1W hr) (show l.length<=4 by omega) ?_ (fun h=>by omega)⟩
  show (decide (1<=(l.length:Int))&&decide ((l.length:Int)<=5))=true
  rw [Bool.and_eq_true]
  exact ⟨decide_eq_true (by omega),decide_eq_true (by omega)⟩
 have uni:i+1<N->∀ {s:Semtypebase_Source},OS L s->∃ x t,(Option.bind (z8 s 2) fun r28=>Option.bind (w3 r28.2 (w64 (2+r28.1)) (w64 ((i:Int)+1)) (N:Int)) fun r29=>some (c0T 16 r29.1,r29.2))=some (x,t)/\OS L t/\GN N i x:=fun hlt s hs=>by
  obtain ⟨m,t2,e2,ht2,m0,m1⟩:=Y0 hL hs (n:=2) (by omega) (by omega)
  obtain ⟨m,rfl⟩:=b2L m0
  obtain ⟨l,t3,e3,ht3,hl,hr⟩:=ix ht2 (m+2) (i+1) (by omega) hlt
  rw [e2]
  simp only [Option.bind_some]
  have e3':w3 t2 (w64 (2+(m:Int))) (w64 ((i:Int)+1)) (N:Int)=some (l,t3):=by
   rw [K5 (x:=2+(m:Int)) (by omega) (by omega),hwi,show 2+(m:Int)=((m+2:Nat):Int) by omega]
   exact e3
  rw [e3']
  refine ⟨_,t3,rfl,ht3,b2Z (l:=l) (b1W hr) (show l.length<=4 by omega) ?_ (fun _ x hx=>by have:=hr x hx; omega)⟩
  show decide (1<=(l.length:Int))=true
  exact decide_eq_true (by omega)
 rcases hc with rfl | rfl | rfl | rfl | rfl | rfl | rfl | rfl | rfl | rfl | rfl | rfl | rfl | rfl | rfl | rfl | rfl | rfl<;>simp only [Int.reduceBEq,cond_true,cond_false,Option.bind_some,k8]
 ·obtain ⟨a,t2,e2,ht2,a0,a1⟩:=Y0 hL ht (n:=5) (by omega) (by omega)
  obtain ⟨d,t3,e3,ht3,d0,d1⟩:=Y0 hL ht2 (n:=w64 (5-a)) (by rw [K5 (by omega) (by omega)]; omega) (by rw [K5 (by omega) (by omega)]; omega)
  rw [K5 (x:=5-a) (by omega) (by omega)] at d1
  rw [e2]
  simp only [Option.bind_some]
  rw [e3]
  simp only [Option.bind_some]
  rw [K5 (x:=a+d) (by omega) (by omega)]
  have ha:a=0\/a=1\/a=2\/a=3\/a=4:=by omega
  have hd:d=0\/d=1\/d=2\/d=3\/d=4:=by omega
  rcases ha with rfl | rfl | rfl | rfl | rfl<;>rcases hd with rfl | rfl | rfl | rfl | rfl<;>first | (exfalso; omega) | exact ⟨_,t3,rfl,ht3,d3m (by decide) (by decide)⟩
 ·obtain ⟨x,t2,e2,ht2,hx⟩:=b0m hL ht
  have hf:=List.all_eq_true.1 b1F x hx
  simp only [Bool.and_eq_true,decide_eq_true_eq] at hf
  rw [e2]
  exact ⟨_,t2,rfl,ht2,c4J hf.2 (.inr (.inl ⟨rfl,hf.1⟩))⟩
 ·exact ⟨_,t,rfl,ht,b8N (by omega)⟩
 ·obtain ⟨x,t2,e2,ht2,hx⟩:=b9n hL ht
  have hf:=List.all_eq_true.1 b1A x hx
  simp only [decide_eq_true_eq] at hf
  rw [e2]
  exact ⟨_,t2,rfl,ht2,c4J hf (.inl rfl)⟩
 ·obtain ⟨a,t2,e2,ht2,a0,a1⟩:=Y0 hL ht (n:=4) (by omega) (by omega)
  rw [e2]
  have ha:a=0\/a=1\/a=2\/a=3:=by omega
  rcases ha with rfl | rfl | rfl | rfl<;>exact ⟨_,t2,rfl,ht2,b8N (by omega)⟩
 ·exact ⟨_,t,rfl,ht,b8N (by omega)⟩
 ·obtain ⟨a,t2,e2,ht2,a0,a1⟩:=Y0 hL ht (n:=2) (by omega) (by omega)
  rw [e2]
  have ha:a=0\/a=1:=by omega
  rcases ha with rfl | rfl<;>exact ⟨_,t2,rfl,ht2,b8N (by omega)⟩
 ·obtain ⟨x,t2,e2,ht2,hx⟩:=c1h hL ht
  have hf:=List.all_eq_true.1 c8n x hx
  simp only [Bool.and_eq_true,decide_eq_true_eq] at hf
  rw [e2]
  exact ⟨_,t2,rfl,ht2,c4J hf.2 (.inr (.inr ⟨rfl,hf.1⟩))⟩
 ·exact tup ht
 ·exact tup ht
 ·obtain ⟨l,t3,e3,ht3,hl,hr⟩:=ix ht 2 0 (by omega) (by omega)
  have e3':w3 t 2 0 (N:Int)=some (l,t3):=e3
  rw [e3']
  refine ⟨_,t3,rfl,ht3,b2Z (l:=l) (b1W hr) (show l.length<=4 by omega) ?_ (fun h=>by omega)⟩
  show ((l.length:Int)==2)=true
  simp [hl]
 ·obtain ⟨x,t2,e2,ht2,hg⟩:=c54 hL ht N i (by omega) hN2
  rw [e2]
  exact ⟨x,t2,rfl,ht2,hg⟩
 ·exact fun_ ht
 ·exact fun_ ht
 ·have hlt:=hlast (by omega)
  obtain ⟨l,t3,e3,ht3,hl,hr⟩:=ix ht 1 (i+1) (by omega) hlt
  have e3':w3 t 1 (w64 ((i:Int)+1)) (N:Int)=some (l,t3):=by rw [hwi]; exact e3
  rw [e3']
  refine ⟨_,t3,rfl,ht3,b2Z (l:=l) (b1W hr) (show l.length<=4 by omega) ?_ (fun _ x hx=>by have:=hr x hx; omega)⟩
  show ((l.length:Int)==1)=true
  simp [hl]
 ·have hlt:=hlast (by omega)
  obtain ⟨l,t3,e3,ht3,hl,hr⟩:=ix ht 2 (i+1) (by omega) hlt
  have e3':w3 t 2 (w64 ((i:Int)+1)) (N:Int)=some (l,t3):=by rw [hwi]; exact e3
  rw [e3']
  refine ⟨_,t3,rfl,ht3,b2Z (l:=l) (b1W hr) (show l.length<=4 by omega) ?_ (fun _ x hx=>by have:=hr x hx; omega)⟩
  show decide (1<=(l.length:Int))=true
  exact decide_eq_true (by omega)
 ·exact uni (hlast (by omega)) ht
 ·exact uni (hlast (by omega)) ht
def GNs (N:Nat)(ns:List Api_TypeNode):Prop:=∀ (i:Nat) (x:Api_TypeNode),ns[i]?=some x->GN N i x
theorem GNs.snoc {N:Nat}{ns:List Api_TypeNode}{x:Api_TypeNode}(h:GNs N ns)(hx:GN N ns.length x):GNs N (ns++[x]):=fun i y hy=>by
 by_cases hi:i<ns.length
 ·rw [List.getElem?_append_left hi] at hy
  exact h i y hy
 ·have hlt:=(List.getElem?_eq_some_iff.1 hy).1
  simp only [List.length_append,List.length_cons,List.length_nil] at hlt
  have e:i=ns.length:=by omega
  subst e
  simp at hy
  subst hy
  exact hx
theorem d0b (hL:L.length<=4194304){s:Semtypebase_Source}(h:OS L s)(N:Nat)(hN:1<=N)(hN2:N<=100):∃ ns t,a2V s (N:Int)=some ((ns,0),t)/\OS L t/\ns.length=N/\GNs N ns:=by
 unfold a2V
 have hmax:max (N:Int) 1=(N:Int):=by omega
 rw [hmax,Int.toNat_natCast]
 obtain ⟨g,s',e,hs',h1,h2⟩:=b8T (γ:=List Api_TypeNode) (L:=L) (step:=a0Z (N:Int)) (fun g j s=>(j,s,(g,0))) (fun g s=>(s,(g,0))) (fun j g=>g.length=j/\GNs N g) N
  (fun j g s hj hI hs=>by
    obtain ⟨x,t,e,ht,hx⟩:=c95 hL hs N j hj hN2
    refine ⟨g++[x],t,?_,ht,by simp [hI.1],hI.2.snoc (by rw [hI.1]; exact hx)⟩
    unfold a0Z
    simp only [k8,hmax]
    rw [k9 hj,e]
    simp only [cond_true,Option.bind_some]
    rw [v7 (by simp only [List.length_cons,List.length_nil]; have:=hI.1; omega),j5 j (by omega)]
    rfl) (fun g s=>by
    unfold a0Z
    simp [hmax]) N 0 (N+1) [] s (by omega) (Nat.le_refl _) ⟨rfl,fun i x hx=>by simp at hx⟩ h
 have e':z7 (a0Z (N:Int)) (N+1) (0,s,([],0))=some (s',(g,0)):=e
 rw [e']
 exact ⟨g,s',rfl,hs',h1,h2⟩
end
end Go.Pl
end
section
namespace Go.Pl
open Go Go.RowKit Go.Sx Go.Qx
theorem c7j {a b:ByteArray}(h:cS a b=0):a=b:=by
 rcases b8o a.data.toList b.data.toList with ⟨_,e,_⟩ | ⟨_,_,e⟩ | ⟨_,e,_⟩
 ·have:cS a b = -1:=e
  omega
 ·exact ByteArray.ext (Array.toList_inj.1 e)
 ·have:cS a b=1:=e
  omega
theorem b6R {a b:Key}(h:cK a b=0):a=b:=by
 obtain ⟨k,t⟩:=a
 obtain ⟨k2,t2⟩:=b
 unfold cK tn at h
 simp only at h
 rcases a0a k k2 with ⟨_,e⟩ | ⟨_,e⟩ | ⟨p,e⟩
 ·rw [e] at h; simp at h
 ·rw [e] at h; simp at h
 ·rw [e,if_pos rfl] at h
  rw [p,c7j h]
theorem b2B (a b c:Key)(h1:cK a b<=0)(h2:cK b c<=0):cK a c<=0:=by rw [c37] at *; exact c1g _ _ _ h1 h2
theorem b9z (a:Key):cK a a=0:=by rw [c37]; exact c6Y _
theorem b3A {a b c:Key}(h1:cK a b<0)(h2:cK b c<=0):cK a c<0:=by
 have h3:=b2B a b c (by omega) h2
 by_cases h:cK a c=0
 ·have:=b6R h
  subst this
  have:=a3E a b
  omega
 ·omega
abbrev ltK (a b:Key):Prop:=cK a b<0
theorem asc_pw:∀ l:List Key,asc cK l=true↔l.Pairwise ltK
 | []=>by simp [asc]
 | [a]=>by simp [asc]
 | a::b::r=>by
   have ih:=asc_pw (b::r)
   simp only [asc,Bool.and_eq_true,decide_eq_true_eq]
   rw [ih,List.pairwise_cons (a:=a)]
   constructor
   ·intro ⟨h1,h2⟩
    refine ⟨fun x hx=>?_,h2⟩
    rcases List.mem_cons.1 hx with rfl | hx
    ·exact h1
    ·have:=(List.pairwise_cons.1 h2).1 x hx
     exact b3A h1 (by unfold ltK at this; omega)
   ·intro ⟨h1,h2⟩
    exact ⟨h1 b (by simp),h2⟩
theorem c42 {l:List Key}(h:l.Pairwise ltK):l.Nodup:=h.imp fun {a b} h e=>by
 subst e
 have:=b9z a
 unfold ltK at h
 omega
theorem d0S {l:List Key}(h:l.Nodup)(hs:l.Pairwise fun a b=>¬ cK b a<0):l.Pairwise ltK:=(List.pairwise_and_iff.2 ⟨h,hs⟩).imp fun {a b} ⟨h1,h2⟩=>by
 have:=a3E a b
 by_cases h0:cK a b=0
 ·exact absurd (b6R h0) h1
 ·unfold ltK; omega
def b8H (s:List Val×List Key)(x:Key×Val):Option (List Val×List Key) :=
 if (s.2.getLast?.map fun y=>Z7 y x.1)=some true then none else some (s.1++[x.2],s.2++[x.1])
def a7Z:List (Key×Val)->List Val×List Key->Option (List Val×List Key)
 | [],s=>some s
 | x::r,s=>(b8H s x).bind (a7Z r)
theorem c3i:∀ (xs:List (Key×Val)) (s:List Val×List Key),s.2.Pairwise ltK->(s.2++xs.map (·.1)).Pairwise (fun a b=>¬ cK b a<0) ->
 ((s.2++xs.map (·.1)).Nodup->a7Z xs s=some (s.1++xs.map (·.2),s.2++xs.map (·.1)))/\(¬ (s.2++xs.map (·.1)).Nodup->a7Z xs s=none)
 | [],s,h,_=>⟨fun _=>by simp [a7Z],fun hn=>absurd (by simpa using c42 h) hn⟩
 | x::r,s,h,hs=>by
   have hp:=List.pairwise_append.1 hs
   simp only [a7Z]
   by_cases he:(s.2.getLast?.map fun y=>Z7 y x.1)=some true
   ·have hm:x.1∈s.2:=by
     cases hg:s.2.getLast? with
     | none=>rw [hg] at he; cases he
     | some y =>
       rw [hg] at he
       simp only [Option.map_some,Option.some.injEq] at he
       have:=b6R ((a5C y x.1).1 he)
       rw [<- this]
       exact List.mem_of_getLast? hg
    refine ⟨fun hn=>?_,fun _=>by rw [b8H,if_pos he]; rfl⟩
    rw [List.nodup_append] at hn
    exact absurd rfl (hn.2.2 x.1 hm x.1 (by simp))
   ·rw [b8H,if_neg he]
    simp only [Option.bind_some]
    have hlt:(s.2++[x.1]).Pairwise ltK:=by
     rw [List.pairwise_append]
     refine ⟨h,List.pairwise_singleton _ _,fun a ha b hb=>?_⟩
     rw [List.mem_singleton.1 hb]
     cases hg:s.2.getLast? with
     | none=>rw [List.getLast?_eq_none_iff.1 hg] at ha; cases ha
     | some y =>
       obtain ⟨ys,hys⟩:=List.getLast?_eq_some_iff.1 hg
       rw [hg] at he
       have hne:¬ cK y x.1=0:=fun h0=>he (by simp [(a5C y x.1).2 h0])
       have hle:=hp.2.2 y (by rw [hys]; simp) x.1 (by simp)
       have hanti:=a3E y x.1
       have hyx:cK y x.1<0:=by omega
       rw [hys] at ha h
       rcases List.mem_append.1 ha with ha | ha
       ·have:=(List.pairwise_append.1 h).2.2 a ha y (by simp)
        exact b3A this (by omega)
       ·rw [List.mem_singleton.1 ha]; exact hyx
    have e:s.2++(x::r).map (·.1)=(s.2++[x.1])++r.map (·.1):=by simp
    have e2:s.1++(x::r).map (·.2)=(s.1++[x.2])++r.map (·.2):=by simp
    rw [e] at hs ⊢
    rw [e2]
    exact c3i r (s.1++[x.2],s.2++[x.1]) hlt hs
theorem c77 {s t:List Val×List Key}{x:Key×Val}(h:a9J s x=some t)(hl:s.1.length=s.2.length):(t.2.zip t.1).Perm (s.2.zip s.1++[x]):=by
 unfold a9J at h
 split at h
 ·cases h
 ·cases h
  have hk:=b0Q (a1a x.1) s.2
  have e1:a0b (a1a x.1) x.1 s.2=s.2.take (s.2.takeWhile (a1a x.1)).length++[x.1]++s.2.drop (s.2.takeWhile (a1a x.1)).length:=by
   rw [b9o,b9c]; rfl
  simp only
  rw [e1]
  generalize (s.2.takeWhile (a1a x.1)).length=n at hk
  rw [List.zip_append (by simp; omega),List.zip_append (by simp; omega)]
  have e2:s.2.zip s.1=(s.2.take n).zip (s.1.take n)++(s.2.drop n).zip (s.1.drop n):=by
   rw [<- List.zip_append (by simp; omega),List.take_append_drop,List.take_append_drop]
  rw [e2,List.append_assoc,List.append_assoc]
  refine List.Perm.append_left _ ?_
  show ([x.1].zip [x.2]++_).Perm _
  have:[x.1].zip [x.2]=[x]:=rfl
  rw [this]
  exact List.perm_append_comm
theorem c9c {s:List Val×List Key}{x:Key×Val}(h:a9J s x=none):x.1∈s.2:=by
 unfold a9J at h
 split at h
 ·rename_i he
  cases hg:(s.2.dropWhile (a1a x.1)).head? with
  | none=>rw [hg] at he; cases he
  | some y =>
    rw [hg] at he
    simp only [Option.map_some,Option.some.injEq] at he
    have:=b6R ((a5C y x.1).1 he)
    rw [<- this]
    exact (List.dropWhile_sublist _).subset (List.mem_of_mem_head? hg)
 ·cases h
theorem b8V:∀ (xs:List (Key×Val)) (s:List Val×List Key),asc cK s.2=true->s.1.length=s.2.length ->
 (match a1G xs s with
 | some t=>asc cK t.2=true/\t.1.length=t.2.length/\(t.2.zip t.1).Perm (s.2.zip s.1++xs)
 | none=>¬ (s.2++xs.map (·.1)).Nodup)
 | [],s,ha,hl=>⟨ha,hl,by simp⟩
 | x::r,s,ha,hl=>by
   simp only [a1G]
   cases hi:a9J s x with
   | none =>
     simp only [Option.bind_none]
     intro hn
     rw [List.nodup_append] at hn
     exact absurd rfl (hn.2.2 x.1 (c9c hi) x.1 (by simp))
   | some u =>
     simp only [Option.bind_some]
     have k1:=(c2j hi ha).1
     obtain ⟨l1,l2⟩:=c0V hi hl
     have hp:=c77 hi hl
     have ih:=b8V r u k1 l1
     have hk:u.2.Perm (s.2++[x.1]):=by
      have:=hp.map (·.1)
      rw [List.map_append] at this
      rwa [show (u.2.zip u.1).map (·.1)=u.2 from List.map_fst_zip (by omega),show (s.2.zip s.1).map (·.1)=s.2 from List.map_fst_zip (by omega)] at this
     cases hm:a1G r u with
     | none =>
       rw [hm] at ih
       simp only at ih ⊢
       intro hn
       refine ih ?_
       have e:s.2++(x::r).map (·.1)=(s.2++[x.1])++r.map (·.1):=by simp
       rw [e] at hn
       exact ((hk.append_right _).nodup_iff).2 hn
     | some t =>
       rw [hm] at ih
       simp only at ih ⊢
       refine ⟨ih.1,ih.2.1,ih.2.2.trans ?_⟩
       have e:s.2.zip s.1++x::r=(s.2.zip s.1++[x])++r:=by simp
       rw [e]
       exact hp.append_right _
theorem c7K {keys:List Key}{l:List Val}(hl:keys.length=l.length){ps:List (Key×Val)}(hp:ps.Perm (keys.zip l))(hs:(ps.map (·.1)).Pairwise fun a b=>¬ cK b a<0) :
 a7Z ps ([],[])=a1G (keys.zip l) ([],[]):=by
 have ha:=c3i ps ([],[]) List.Pairwise.nil (by simpa using hs)
 simp only [List.nil_append] at ha
 have hm:=b8V (keys.zip l) ([],[]) rfl rfl
 have hk:(ps.map (·.1)).Perm keys:=by
  have:=hp.map (·.1)
  rwa [show (keys.zip l).map (·.1)=keys from List.map_fst_zip (by omega)] at this
 cases hc:a1G (keys.zip l) ([],[]) with
 | none =>
   rw [hc] at hm
   simp only [List.nil_append] at hm
   rw [show (keys.zip l).map (·.1)=keys from List.map_fst_zip (by omega)] at hm
   exact ha.2 fun hn=>hm (hk.nodup_iff.1 hn)
 | some t =>
   rw [hc] at hm
   obtain ⟨h1,h2,h3⟩:=hm
   have h3:(t.2.zip t.1).Perm (keys.zip l):=by simpa using h3
   have hpt:ps.Perm (t.2.zip t.1):=hp.trans h3.symm
   have ht:=(asc_pw t.2).1 h1
   have e1:(t.2.zip t.1).map (·.1)=t.2:=List.map_fst_zip (by omega)
   have hkt:(ps.map (·.1)).Perm t.2:=by
    have:=hpt.map (·.1)
    rwa [e1] at this
   have hnd:=hkt.nodup_iff.2 (c42 ht)
   rw [ha.1 hnd]
   have hlt:=d0S hnd hs
   have w1:ps.Pairwise fun a b=>cK a.1 b.1<0:=List.pairwise_map.1 hlt
   have w2:(t.2.zip t.1).Pairwise fun a b=>cK a.1 b.1<0:=List.pairwise_map.1 (by rw [e1]; exact ht)
   have e:ps=t.2.zip t.1:=hpt.eq_of_pairwise (le:=fun a b=>cK a.1 b.1<0) (fun a b _ _ h1 h2=>by have:=a3E a.1 b.1; omega) w1 w2
   rw [e,e1,show (t.2.zip t.1).map (·.2)=t.1 from List.map_snd_zip (by omega)]
end Go.Pl
end
section
namespace Go.Pl
open Go Go.RowKit Go.Sx Go.Qx
structure CmpOk {α:Type}(c:α->α->Int):Prop where
 anti:∀ a b,c b a = - c a b
 trans:∀ a b d,c a b<=0->c b d<=0->c a d<=0
 eq0:∀ a b,c a b=0->a=b
theorem cI0 {x y:Int}(h:cI x y=0):x=y:=by
 rcases a0a x y with ⟨_,e⟩ | ⟨_,e⟩ | ⟨p,_⟩
 ·omega
 ·omega
 ·exact p
theorem c7k (a b:ByteArray):cS a b=lx (eS a) (eS b):=by
 have:=pfS a b [] []
 simpa [lx,b1U] using this.symm
theorem d25:CmpOk cS:=⟨fun a b=>by rw [c7k,c7k]; exact b5H _ _,fun a b d h1 h2=>by rw [c7k] at *; exact c1g _ _ _ h1 h2,fun _ _ h=>c7j h⟩
section
variable {α:Type}{c:α->α->Int}(hc:CmpOk c)
include hc
theorem CmpOk.self (a:α):c a a=0:=by have:=hc.anti a a; omega
theorem CmpOk.strict {a b d:α}(h1:c a b<0)(h2:c b d<=0):c a d<0:=by
 have h3:=hc.trans a b d (by omega) h2
 by_cases h:c a d=0
 ·have:=hc.eq0 _ _ h
  subst this
  have:=hc.anti a b
  omega
 ·omega
theorem CmpOk.asc_pw:∀ l:List α,asc c l=true↔l.Pairwise fun a b=>c a b<0
 | []=>by simp [asc]
 | [a]=>by simp [asc]
 | a::b::r=>by
   have ih:=CmpOk.asc_pw (b::r)
   simp only [asc,Bool.and_eq_true,decide_eq_true_eq]
   rw [ih,List.pairwise_cons (a:=a)]
   constructor
   ·intro ⟨h1,h2⟩
    refine ⟨fun x hx=>?_,h2⟩
    rcases List.mem_cons.1 hx with rfl | hx
    ·exact h1
    ·have:=(List.pairwise_cons.1 h2).1 x hx
     exact hc.strict h1 (by omega)
   ·intro ⟨h1,h2⟩
    exact ⟨h1 b (by simp),h2⟩
theorem CmpOk.nodup {l:List α}(h:l.Pairwise fun a b=>c a b<0):l.Nodup:=h.imp fun {a b} h e=>by
 subst e
 have:=hc.self a
 omega
theorem CmpOk.uniq {l m:List α}(h1:asc c l=true)(h2:asc c m=true)(h:∀ x,x∈l↔x∈m):l=m:=by
 have p1:=(hc.asc_pw l).1 h1
 have p2:=(hc.asc_pw m).1 h2
 have hp:=(List.perm_ext_iff_of_nodup (hc.nodup p1) (hc.nodup p2)).2 h
 exact hp.eq_of_pairwise (le:=fun a b=>c a b<0) (fun a b _ _ h1 h2=>by have:=hc.anti a b; omega) p1 p2
omit hc in
def a2J (c:α->α->Int)(out:List α)(x:α):List α :=
 match (out.dropWhile (fun y=>decide (c y x<0))).head? with
 | some y=>if c y x=0 then out else a0b (fun y=>decide (c y x<0)) x out
 | none=>a0b (fun y=>decide (c y x<0)) x out
omit hc in
theorem c3w {p:α->Bool}{x y:α}{out:List α}:y∈a0b p x out↔y=x\/y∈out:=by
 constructor
 ·exact b3Q
 ·intro h
  have e:=List.takeWhile_append_dropWhile (p:=p) (l:=out)
  simp only [a0b,List.mem_append,List.mem_singleton]
  rcases h with h | h
  ·exact .inl (.inr h)
  ·rw [<- e] at h
   rcases List.mem_append.1 h with h | h
   ·exact .inl (.inl h)
   ·exact .inr h
theorem d0s {x y:α}{out:List α}:y∈a2J c out x↔y=x\/y∈out:=by
 unfold a2J
 split
 ·rename_i z hz
  split
  ·rename_i h0
   have:=hc.eq0 _ _ h0
   subst this
   have hm:z∈out:=(List.dropWhile_sublist _).subset (List.mem_of_mem_head? hz)
   constructor
   ·exact .inr
   ·rintro (rfl | h)
    ·exact hm
    ·exact h
  ·exact c3w
 ·exact c3w
theorem d0E (out:List α)(x:α)(h:asc c out=true):asc c (a2J c out x)=true:=by
 unfold a2J
 split
 ·rename_i y hy
  split
  ·exact h
  ·rename_i hne
   refine b1V c hc.anti x out h (fun z hz=>?_)
   rw [hy] at hz
   cases hz
   exact hne
 ·rename_i hy
  refine b1V c hc.anti x out h (fun z hz=>?_)
  rw [hy] at hz; cases hz
theorem d08:∀ (xs out:List α),asc c out=true->asc c (xs.foldl (a2J c) out)=true/\∀ y,y∈xs.foldl (a2J c) out↔y∈out\/y∈xs
 | [],out,h=>⟨h,fun y=>by simp⟩
 | x::r,out,h=>by
   obtain ⟨h1,h2⟩:=d08 r (a2J c out x) (d0E hc out x h)
   refine ⟨h1,fun y=>?_⟩
   rw [List.foldl_cons,h2,d0s hc,List.mem_cons]
   constructor
   ·rintro ((h | h) | h)
    ·exact .inr (.inl h)
    ·exact .inl h
    ·exact .inr (.inr h)
   ·rintro (h | h | h)
    ·exact .inl (.inr h)
    ·exact .inl (.inl h)
    ·exact .inr h
theorem c7c (xs:List α):asc c (xs.foldl (a2J c) [])=true/\∀ y,y∈xs.foldl (a2J c) []↔y∈xs:=by
 obtain ⟨h1,h2⟩:=d08 hc xs [] rfl
 exact ⟨h1,fun y=>by rw [h2]; simp⟩
omit hc in
def dd (r:α->α->Bool):α->List α->List α
 | _,[]=>[]
 | p,x::l=>if r x p=true then dd r x l else x::dd r x l
omit hc in
def a6n (r:α->α->Bool):List α->List α
 | []=>[]
 | x::l=>x::dd r x l
theorem d02:∀ (l:List α) (p:α),(p::l).Pairwise (fun a b=>¬ c b a<0) ->
 (p::dd (fun x y=>decide (c x y=0)) p l).Pairwise (fun a b=>c a b<0)/\∀ y,y∈p::dd (fun x y=>decide (c x y=0)) p l↔y∈p::l
 | [],p,_=>⟨by simp [dd],fun y=>by simp [dd]⟩
 | x::l,p,h=>by
   have hp:=List.pairwise_cons.1 h
   obtain ⟨h1,h2⟩:=d02 l x hp.2
   simp only [dd]
   by_cases h0:c x p=0
   ·rw [if_pos (by simpa using h0)]
    have:=hc.eq0 _ _ h0
    subst this
    refine ⟨h1,fun y=>?_⟩
    rw [h2]
    simp
   ·rw [if_neg (by simpa using h0)]
    have hlt:c p x<0:=by have:=hp.1 x (by simp); have:=hc.anti p x; omega
    refine ⟨List.pairwise_cons.2 ⟨fun b hb=>?_,h1⟩,fun y=>?_⟩
    ·rcases List.mem_cons.1 hb with rfl | hb
     ·exact hlt
     ·exact hc.strict hlt (by have:=(List.pairwise_cons.1 h1).1 b hb; omega)
    ·rw [List.mem_cons,h2,List.mem_cons (b:=p)]
theorem c4M (l:List α)(h:l.Pairwise fun a b=>¬ c b a<0):asc c (a6n (fun x y=>decide (c x y=0)) l)=true/\∀ y,y∈a6n (fun x y=>decide (c x y=0)) l↔y∈l:=by
 cases l with
 | nil=>exact ⟨rfl,fun y=>Iff.rfl⟩
 | cons p l =>
   obtain ⟨h1,h2⟩:=d02 hc l p h
   exact ⟨(hc.asc_pw _).2 h1,h2⟩
theorem c6i {xs p:List α}(hp:p.Perm xs)(hs:p.Pairwise fun a b=>¬ c b a<0):a6n (fun x y=>decide (c x y=0)) p=xs.foldl (a2J c) []:=by
 obtain ⟨h1,h2⟩:=c4M hc p hs
 obtain ⟨h3,h4⟩:=c7c hc xs
 exact hc.uniq h1 h3 fun y=>by rw [h2,h4,hp.mem_iff]
theorem c91 {xs:List α}(h:asc c xs=true):xs.foldl (a2J c) []=xs:=by
 obtain ⟨h3,h4⟩:=c7c hc xs
 exact hc.uniq h3 h h4
end
section
variable {α:Type}{r:α->α->Bool}
theorem c7A {ok:α->Prop}{step:(Int×Int)×List α->Option (Fl ((Int×Int)×List α) (Int×List α))}(i0 n:Nat)
 (hst:∀ (i k:Nat) (s:List α) (x y:α),ok x->s.length=n->i0+k<n->1<=k->i<i0+k->s[i0+k]?=some x->s[i0+k-1]?=some y ->
   step (((i:Int),(k:Int)),s)=some (.next (if r x y=true then (((i:Int),((k+1:Nat):Int)),s) else ((((i+1:Nat):Int),((k+1:Nat):Int)),s.set i x))))
 (hend:∀ (i:Int) (k:Nat) (s:List α),s.length=n->i0+k=n->step ((i,(k:Int)),s)=some (.done (i,s))) :
 ∀ (m i k:Nat) (s:List α) (y:α) (fuel:Nat),s.length=n->i0+k+m=n->1<=k->i<i0+k->s[i0+k-1]?=some y->m+1<=fuel->(∀ x∈s,ok x) ->
  ∃ s',z7 step fuel (((i:Int),(k:Int)),s)=some (((i+(dd r y (s.drop (i0+k))).length:Nat):Int),s')/\s'.length=n/\s'.take (i+(dd r y (s.drop (i0+k))).length)=s.take i++dd r y (s.drop (i0+k)):=by
 intro m
 induction m with
 | zero =>
   intro i k s y fuel hl hm hk hi hy hf hok
   obtain ⟨fuel,rfl⟩:∃ m,fuel=m+1:=⟨fuel-1,by omega⟩
   have e:s.drop (i0+k)=[]:=List.drop_eq_nil_of_le (by omega)
   rw [e]
   refine ⟨s,?_,hl,?_⟩
   ·simp only [z7,hend (i:Int) k s hl (by omega),Option.bind_some]
    rfl
   ·simp [dd]
 | succ m ih =>
   intro i k s y fuel hl hm hk hi hy hf hok
   obtain ⟨fuel,rfl⟩:∃ m,fuel=m+1:=⟨fuel-1,by omega⟩
   have hlt:i0+k<s.length:=by omega
   have hx:=List.getElem?_eq_getElem hlt
   rw [List.drop_eq_getElem_cons hlt]
   simp only [dd]
   simp only [z7,hst i k s _ y (hok _ (List.getElem_mem hlt)) hl (by omega) hk hi hx hy,Option.bind_some]
   by_cases h:r s[i0+k] y=true
   ·rw [if_pos h,if_pos h]
    have:=ih i (k+1) s s[i0+k] fuel hl (by omega) (by omega) (by omega) (by rw [show i0+(k+1)-1=i0+k by omega]; exact hx) (by omega) hok
    rw [show i0+(k+1)=i0+k+1 by omega] at this
    exact this
   ·rw [if_neg h,if_neg h]
    have hd:(s.set i s[i0+k]).drop (i0+k+1)=s.drop (i0+k+1):=by
     rw [List.drop_set_of_lt (by omega)]
    have:=ih (i+1) (k+1) (s.set i s[i0+k]) s[i0+k] fuel (by rw [List.length_set]; exact hl) (by omega) (by omega) (by omega) (by
     rw [show i0+(k+1)-1=i0+k by omega]
     by_cases e:i=i0+k
     ·omega
     ·rw [List.getElem?_set_ne e]; exact hx) (by omega) (fun z hz=>by
     rcases List.mem_or_eq_of_mem_set hz with hz | rfl
     ·exact hok z hz
     ·exact hok _ (List.getElem_mem hlt))
    rw [show i0+(k+1)=i0+k+1 by omega,hd] at this
    obtain ⟨s',h1,h2,h3⟩:=this
    refine ⟨s',?_,h2,?_⟩
    ·rw [h1,List.length_cons]
     congr 3
     omega
    ·rw [List.length_cons,show i+((dd r s[i0+k] (s.drop (i0+k+1))).length+1)=i+1+(dd r s[i0+k] (s.drop (i0+k+1))).length by omega,h3]
     have e:(s.set i s[i0+k]).take (i+1)=s.take i++[s[i0+k]]:=by
      rw [a2q (x:=s[i0+k]) (by rw [List.getElem?_set_self (by omega)]),List.take_set_of_le (Nat.le_refl _)]
     rw [e,List.append_assoc]
     rfl
theorem c3n {step:(Int×Int)×List α->Option (Fl ((Int×Int)×List α) (Int×List α))}(i0 n:Nat)
 (hst:∀ (i k:Nat) (s:List α) (x y:α),s.length=n->i0+k<n->1<=k->i<i0+k->s[i0+k]?=some x->s[i0+k-1]?=some y ->
   step (((i:Int),(k:Int)),s)=some (.next (if r x y=true then (((i:Int),((k+1:Nat):Int)),s) else ((((i+1:Nat):Int),((k+1:Nat):Int)),s.set i x))))
 (hend:∀ (i:Int) (k:Nat) (s:List α),s.length=n->i0+k=n->step ((i,(k:Int)),s)=some (.done (i,s)))
 (m i k:Nat) (s:List α) (y:α) (fuel:Nat) (h1:s.length=n) (h2:i0+k+m=n) (h3:1<=k) (h4:i<i0+k) (h5:s[i0+k-1]?=some y) (h6:m+1<=fuel) :
   ∃ s',z7 step fuel (((i:Int),(k:Int)),s)=some (((i+(dd r y (s.drop (i0+k))).length:Nat):Int),s')/\s'.length=n/\s'.take (i+(dd r y (s.drop (i0+k))).length)=s.take i++dd r y (s.drop (i0+k)) :=
 c7A (ok:=fun _=>True) i0 n (fun i k s x y _=>hst i k s x y) hend m i k s y fuel h1 h2 h3 h4 h5 h6 (fun _ _=>trivial)
theorem c2g:∀ (l:List α) (p:α),(dd r p l).length<=l.length
 | [],_=>Nat.le_refl _
 | x::l,p=>by
   have:=c2g l x
   simp only [dd]
   split
   ·simp only [List.length_cons]; omega
   ·simp only [List.length_cons]; omega
theorem b4A:∀ (a:List α) (p:α) (l:List α),(∀ (i:Nat) (x y:α),(a++[p])[i+1]?=some x->(a++[p])[i]?=some y->r x y=false)->a6n r (a++p::l)=a++p::dd r p l
 | [],p,l,_=>rfl
 | x::a,p,l,h=>by
   have h2:=b4A a p l (fun i u v h1 h2=>h (i+1) u v (by simpa using h1) (by simpa using h2))
   cases a with
   | nil =>
     have h0:=h 0 p x rfl rfl
     show x::dd r x (p::l)=_
     simp [dd,h0]
   | cons y a =>
     have h0:=h 0 y x rfl rfl
     show x::dd r x (y::(a++p::l))=_
     simp only [dd,h0,Bool.false_eq_true,if_false]
     have h2':y::dd r y (a++p::l)=y::a++p::dd r p l:=h2
     rw [h2']
     rfl
end
end Go.Pl
namespace Go.Pl
open Go Go.RowKit Go.Sx Go.Qx
theorem b59 (x y:ByteArray):Y6 x y=decide (cS x y=0):=by
 rcases a8G x y with ⟨_,h,e⟩ | ⟨_,h,e⟩ | ⟨_,h,e⟩<;>simp [h,e]
theorem d0H (x y:ByteArray):a26 x y=decide (cS x y<0):=by
 rcases a8G x y with ⟨h,_,e⟩ | ⟨h,_,e⟩ | ⟨h,_,e⟩<;>simp [h,e]
theorem c53 (l out:List ByteArray)(i:Nat)(x:ByteArray)(hx:l[i]?=some x)(hl:out.length<=4194304)(hi:i<=4194304) :
 a0A l (out,(i:Int))=some (.next (a2J cS out x,((i+1:Nat):Int))):=by
 have hlt:i<l.length:=(List.getElem?_eq_some_iff.1 hx).1
 have hix:idx l (i:Int)=some x:=y4 hx
 unfold a0A
 simp only [w7]
 rw [c1G (step:=a3G l (out,(i:Int))) out (fun y=>decide (cS y x<0)) ?_ ?_]
 ·simp only [X6,k8]
  rw [if_pos (by simp; omega)]
  simp only [Option.bind_some,hix]
  have hk:=b0Q (fun y=>decide (cS y x<0)) out
  have hat:=c1R (fun y=>decide (cS y x<0)) out
  have go:(Option.bind (cut out 0 ((out.takeWhile (fun y=>decide (cS y x<0))).length:Int)) fun u=>Option.bind (w5 (0+u.length) 16) fun _ =>
   Option.bind (w5 (u.length+[x].length) 16) fun _=>Option.bind (cut out ((out.takeWhile (fun y=>decide (cS y x<0))).length:Int) (out.length:Int)) fun w =>
   Option.bind (w5 ((u++[x]).length+w.length) 16) fun _=>some ((u++[x])++w))=some (a0b (fun y=>decide (cS y x<0)) x out) :=
   c5V out x _ 16 (by omega) hl (fun l=>some l)
  rw [j5 i (by omega),go]
  unfold a2J
  cases hh:(out.dropWhile (fun y=>decide (cS y x<0))).head? with
  | none =>
    rw [hh] at hat
    have hge:=List.getElem?_eq_none_iff.1 hat
    rw [if_neg (by simp; omega)]
    rfl
  | some y =>
    rw [hh] at hat
    have hlt2:=(List.getElem?_eq_some_iff.1 hat).1
    rw [if_pos (by simp; omega),y4 hat]
    simp only [Option.bind_some,b59]
    by_cases h0:cS y x=0
    ·rw [if_pos (by simp [h0]),if_pos h0]
     rfl
    ·rw [if_neg (by simp [h0]),if_neg h0]
     rfl
 ·intro j y hy
  have hj:j<out.length:=(List.getElem?_eq_some_iff.1 hy).1
  unfold a3G
  simp only [X6,k8]
  rw [if_pos (by simp; omega),y4 hy,hix]
  simp only [Option.bind_some,d0H,j5 j (by omega)]
  by_cases h:cS y x<0<;>simp [h]
 ·unfold a3G
  simp
theorem c0Y {α:Type}(c:α->α->Int)(out:List α)(x:α):(a2J c out x).length<=out.length+1:=by
 unfold a2J
 split
 ·split
  ·omega
  ·rw [a7b]; omega
 ·rw [a7b]; omega
theorem c3q (l:List ByteArray)(hl:l.length<=4194304):a0g l=some (l.foldl (a2J cS) []):=by
 unfold a0g
 have key:=a2T (σ:=List ByteArray) (step:=a0A l) l (fun s i=>(s,(i:Int))) (a2J cS) (fun i s=>s.length<=i) (fun s=>s)
  ?_ ?_ [] (by simp) _ (Nat.le_refl _)
 ·have e:z7 (a0A l) (l.length+1) (([]:List ByteArray),0)=z7 (a0A l) (l.length+1) (([]:List ByteArray),((0:Nat):Int)):=rfl
  rw [w7,e,key]
  rfl
 ·intro i s x hx hI
  have hi:i<l.length:=(List.getElem?_eq_some_iff.1 hx).1
  refine ⟨c53 l s i x hx (by omega) (by omega),?_⟩
  have:=c0Y cS s x
  omega
 ·intro s _
  unfold a0A
  simp
theorem b2Y (a b:List ByteArray):J7 (a++b)=J7 a+J7 b:=by
 induction a with
 | nil=>simp [J7]
 | cons x r ih=>simp only [List.cons_append,J7,ih]; omega
theorem c8u (out:List ByteArray)(x:ByteArray):J7 (a2J cS out x)<=J7 out+a3g x:=by
 have hk:∀ p:ByteArray->Bool,J7 (a0b p x out)=J7 out+a3g x:=fun p=>by
  have e:=congrArg J7 (List.takeWhile_append_dropWhile (p:=p) (l:=out))
  rw [b2Y] at e
  simp only [a0b,b2Y,J7]
  omega
 unfold a2J
 split
 ·split
  ·omega
  ·rw [hk]; omega
 ·rw [hk]; omega
theorem b6W:∀ (l out:List ByteArray),J7 (l.foldl (a2J cS) out)<=J7 out+J7 l
 | [],out=>by simp [J7]
 | x::r,out=>by
   have h1:=b6W r (a2J cS out x)
   have h2:=c8u out x
   simp only [List.foldl_cons,J7]
   omega
section
variable {α:Type}{r:α->α->Bool}
theorem c3k {step:List α×Int->Option (Fl (List α×Int) (Sum (List α) (List α)))}(s:List α)(hl:1<=s.length)
 (hst:∀ (i:Nat) (x y:α),1<=i->s[i]?=some x->s[i-1]?=some y->r x y=false->step (s,(i:Int))=some (.next (s,((i+1:Nat):Int))))
 (hhit:∀ (i:Nat) (x y:α),1<=i->s[i]?=some x->s[i-1]?=some y->r x y=true->∃ q:List α,step (s,(i:Int))=some (.done (.inr (s.take i++dd r x (s.drop (i+1))))))
 (hend:step (s,(s.length:Int))=some (.done (.inl s))) :
 (z7 step (s.length+1) (s,1)=some (.inl s)/\a6n r s=s)\/∃ q:List α,z7 step (s.length+1) (s,1)=some (.inr (a6n r s)):=by
 have key:∀ (m i fuel:Nat),i+m=s.length->1<=i->m+1<=fuel->(∀ j:Nat,(hj:j+1<s.length)->j+1<i->r s[j+1] (s[j]'(by omega))=false) ->
  (z7 step fuel (s,(i:Int))=some (.inl s)/\a6n r s=s)\/∃ q:List α,z7 step fuel (s,(i:Int))=some (.inr (a6n r s)):=by
  intro m
  induction m with
  | zero =>
    intro i fuel hm hi hf hok
    obtain ⟨fuel,rfl⟩:∃ m,fuel=m+1:=⟨fuel-1,by omega⟩
    have e:i=s.length:=by omega
    subst e
    left
    refine ⟨by simp only [z7,hend,Option.bind_some],?_⟩
    have h1:s.length-1<s.length:=by omega
    have hs:s=s.take (s.length-1)++s[s.length-1]::[]:=by
     have:=a2q (List.getElem?_eq_getElem h1)
     rw [show s.length-1+1=s.length by omega,List.take_length] at this
     exact this
    have hc:=b4A (r:=r) (s.take (s.length-1)) s[s.length-1] [] (by
     rw [<- hs]
     intro j x y h1 h2
     have hj:=(List.getElem?_eq_some_iff.1 h1).1
     rw [List.getElem?_eq_getElem hj] at h1
     rw [List.getElem?_eq_getElem (by omega)] at h2
     cases h1; cases h2
     exact hok j hj (by omega))
    rw [<- hs] at hc
    rw [hc]
    exact hs.symm
  | succ m ih =>
    intro i fuel hm hi hf hok
    obtain ⟨fuel,rfl⟩:∃ m,fuel=m+1:=⟨fuel-1,by omega⟩
    have hlt:i<s.length:=by omega
    have hlt2:i-1<s.length:=by omega
    have hx:=List.getElem?_eq_getElem hlt
    have hy:=List.getElem?_eq_getElem hlt2
    by_cases h:r s[i] s[i-1]=true
    ·right
     obtain ⟨q,hq⟩:=hhit i _ _ hi hx hy h
     refine ⟨q,?_⟩
     simp only [z7,hq,Option.bind_some]
     have hs:s=s.take (i-1)++s[i-1]::s[i]::s.drop (i+1):=by
      have e1:=List.take_append_drop (i-1) s
      have e2:=List.drop_eq_getElem_cons hlt2
      have e3:=List.drop_eq_getElem_cons hlt
      rw [show i-1+1=i by omega,e3] at e2
      rw [<- e2]
      exact e1.symm
     have hc:=b4A (r:=r) (s.take (i-1)) s[i-1] (s[i]::s.drop (i+1)) (by
      have e:s.take (i-1)++[s[i-1]]=s.take i:=by
       have:=a2q hy
       rw [show i-1+1=i by omega] at this
       exact this.symm
      rw [e]
      intro j x y h1 h2
      have hj:=(List.getElem?_eq_some_iff.1 h1).1
      have hj':j+1<i:=by rw [List.length_take] at hj; omega
      rw [List.getElem?_take_of_lt hj',List.getElem?_eq_getElem (by omega)] at h1
      rw [List.getElem?_take_of_lt (by omega),List.getElem?_eq_getElem (by omega)] at h2
      cases h1; cases h2
      exact hok j (by omega) hj')
     rw [<- hs] at hc
     rw [hc]
     have e:s.take i=s.take (i-1)++[s[i-1]]:=by
      have:=a2q hy
      rw [show i-1+1=i by omega] at this
      exact this
     rw [e,List.append_assoc]
     simp only [dd,h,if_true]
     rfl
    ·have h':r s[i] s[i-1]=false:=by simpa using h
     simp only [z7,hst i _ _ hi hx hy h',Option.bind_some]
     refine ih (i+1) fuel (by omega) (by omega) (by omega) (fun j hj hji=>?_)
     by_cases e:j+1<i
     ·exact hok j hj e
     ·have:j+1=i:=by omega
      subst this
      exact h'
 exact key (s.length-1) 1 (s.length+1) (by omega) (Nat.le_refl _) (by omega) (fun j _ h=>by omega)
theorem c6E {β γ:Type}(z:α)(j n:Nat)(s' T:List α)(hl:s'.length=n)(hj:j<n)(ht:s'.take j=T) :
 ∃ q:List α,(Option.bind (idx s' (j:Int)) fun _=>bif Nat.blt (j:Int).toNat s'.length then (Option.bind (cut (s'.take (j:Int).toNat++List.replicate (s'.length-(j:Int).toNat) z) 0 (j:Int)) fun y =>
  some (Fl.done (Sum.inr y):Fl β (Sum γ (List α)))) else none)=some (.done (.inr T)):=by
 refine ⟨s'.take j++List.replicate (s'.length-j) z,?_⟩
 have e:(j:Int).toNat=j:=by omega
 rw [y4 (List.getElem?_eq_getElem (show j<s'.length by omega)),e]
 simp only [Option.bind_some]
 have eb:Nat.blt j s'.length=true:=by simp [Nat.blt]; omega
 rw [eb,c1w _ (by simp; omega)]
 simp only [cond_true,Option.bind_some]
 rw [List.take_append_of_le_length (by simp; omega),List.take_take,Nat.min_self,ht]
end
theorem a7j (n:Nat)(h:n<=4611686018427387904)(h1:1<=n):w64 ((n:Int)-1)=((n-1:Nat):Int):=by rw [K5 (by omega) (by omega)]; omega
end Go.Pl
end
section
namespace Go.Pl
open Go Go.RowKit Go.Sx Go.Qx
section
variable {L:List Int}{t:Api_Type}{N b:Nat}{h:Nat}{rN:Semtypebase_Source->Api_Type->Int->Int->Option (Val×Semtypebase_Source)}
def a9O (L:List Int)(t:Api_Type)(N b h:Nat)(rN:Semtypebase_Source->Api_Type->Int->Int->Option (Val×Semtypebase_Source)):Prop :=
 ∀ (k:Nat) (s:Semtypebase_Source),k<N->OS L s->∃ v u,rN s t (k:Int) (h:Int)=some (v,u)/\OS L u/\vOK v=true/\w9 v<=b
theorem b7S {N:Nat}{x:Api_TypeNode}(hx:V9 N x=true){j:Nat}(hj:j<x.Kids.length):∃ k:Nat,idx x.Kids (j:Int)=some (k:Int)/\x.Kids[j]?=some (k:Int)/\k<N:=by
 have e:=List.getElem?_eq_getElem hj
 obtain ⟨k,hk,hk2⟩:=a0K (a5m hx _ (List.getElem_mem hj))
 rw [hk] at e
 exact ⟨k,y4 e,e,hk2⟩
theorem c1B (hd:a9O L t N b h rN){x:Api_TypeNode}(hx:V9 N x=true)(hl:x.Kids.length<=4)(hh:h<=10){s:Semtypebase_Source}(hs:OS L s) :
 ∃ g u,z7 (a0Y t ((h:Int)+1) x rN) (x.Kids.length+1) (0,s,(0,0,(⟨#[]⟩:ByteArray),[],[],[],[]))=some (u,(0,0,(⟨#[]⟩:ByteArray),g,[],[],[]))/\OS L u/\g.length=x.Kids.length/\v8 g<=x.Kids.length*b:=by
 have hw:w64 ((h:Int)+1-1)=(h:Int):=by rw [K5 (by omega) (by omega)]; omega
 obtain ⟨g,u,e,hu,h1,h2⟩:=b8T (γ:=List Val) (L:=L) (step:=a0Y t ((h:Int)+1) x rN) (fun g j s=>(j,s,(0,0,(⟨#[]⟩:ByteArray),g,[],[],[]))) (fun g s=>(s,(0,0,(⟨#[]⟩:ByteArray),g,[],[],[]))) (fun j g=>g.length=j/\v8 g<=j*b) x.Kids.length
  (fun j g s hj hI hs=>by
    obtain ⟨k,e1,_,e2⟩:=b7S hx hj
    obtain ⟨v,u,e3,hu,_,hb⟩:=hd k s e2 hs
    refine ⟨g++[v],u,?_,hu,by simp [hI.1],by rw [a4n,Nat.add_mul]; simp only [v8]; have:=hI.2; omega⟩
    unfold a0Y
    simp only [k8,hw]
    rw [k9 hj,e1]
    simp only [cond_true,Option.bind_some]
    rw [e3]
    simp only [Option.bind_some]
    rw [v7 (by simp only [List.length_cons,List.length_nil]; have:=hI.1; omega),j5 j (by omega)]
    rfl) (fun g s=>by
    unfold a0Y
    simp) x.Kids.length 0 (x.Kids.length+1) [] s (by omega) (Nat.le_refl _) ⟨rfl,by simp [v8]⟩ hs
 exact ⟨g,u,e,hu,h1,h2⟩
theorem c9s (hd:a9O L t N b h rN){x:Api_TypeNode}(hx:V9 N x=true)(hl:x.Kids.length<=4)(h1l:1<=x.Kids.length)(hh:h<=10){s:Semtypebase_Source}(hs:OS L s) :
 ∃ g u,z7 (K3 t x ((h:Int)+1) rN) ((w64 ((x.Kids.length:Int)-1)).toNat+1) (0,s,([],false,0,0,(⟨#[]⟩:ByteArray),[],[],[],[]))=some (u,(g,false,0,0,(⟨#[]⟩:ByteArray),[],[],[],[]))/\OS L u/\g.length=x.Kids.length-1/\a06 g=true/\v8 g<=3*b:=by
 have hw:w64 ((h:Int)+1-1)=(h:Int):=by rw [K5 (by omega) (by omega)]; omega
 have hw2:w64 ((x.Kids.length:Int)-1)=((x.Kids.length-1:Nat):Int):=by rw [K5 (by omega) (by omega)]; omega
 rw [hw2,Int.toNat_natCast]
 obtain ⟨g,u,e,hu,h1,h2,h3⟩:=b8T (γ:=List Val) (L:=L) (step:=K3 t x ((h:Int)+1) rN) (fun g j s=>(j,s,(g,false,0,0,(⟨#[]⟩:ByteArray),[],[],[],[]))) (fun g s=>(s,(g,false,0,0,(⟨#[]⟩:ByteArray),[],[],[],[]))) (fun j g=>g.length=j/\a06 g=true/\v8 g<=j*b) (x.Kids.length-1)
  (fun j g s hj hI hs=>by
    obtain ⟨k,e1,_,e2⟩:=b7S hx (show j<x.Kids.length by omega)
    obtain ⟨v,u,e3,hu,ho,hb⟩:=hd k s e2 hs
    refine ⟨g++[v],u,?_,hu,by simp [hI.1],by rw [b6c,hI.2.1]; simp [a06,ho],by rw [a4n,Nat.add_mul]; simp only [v8]; have:=hI.2.2; omega⟩
    unfold K3
    simp only [k8,hw,hw2]
    rw [k9 hj,e1]
    simp only [cond_true,Option.bind_some]
    rw [e3]
    simp only [Option.bind_some]
    rw [v7 (by simp only [List.length_cons,List.length_nil]; have:=hI.1; omega),j5 j (by omega)]
    rfl) (fun g s=>by
    unfold K3
    simp [k8,hw2]) (x.Kids.length-1) 0 (x.Kids.length-1+1) [] s (by omega) (Nat.le_refl _) ⟨rfl,rfl,by simp [v8]⟩ hs
 have e':z7 (K3 t x ((h:Int)+1) rN) (x.Kids.length-1+1) (0,s,([],false,0,0,(⟨#[]⟩:ByteArray),[],[],[],[]))=some (u,(g,false,0,0,(⟨#[]⟩:ByteArray),[],[],[],[])):=e
 refine ⟨g,u,e',hu,h1,h2,Nat.le_trans h3 (Nat.mul_le_mul_right _ (by omega))⟩
theorem c9b (hL:L.length<=4194304)(hd:a9O L t N b h rN)(hb:8<=b){x:Api_TypeNode}(hx:V9 N x=true)(hl:x.Kids.length<=4)(h1l:1<=x.Kids.length)(hh:h<=10)(m:Nat)(hm:m<=2){s:Semtypebase_Source}(hs:OS L s) :
 ∃ es u,z7 (W6 t x ((h:Int)+1) rN) ((m:Int).toNat+2) ([],(m:Int),s)=some (es,u)/\OS L u/\Z3 es<=m*(4*b+3):=by
 have hw:w64 ((h:Int)+1-1)=(h:Int):=by rw [K5 (by omega) (by omega)]; omega
 have hw2:w64 ((x.Kids.length:Int)-1)=((x.Kids.length-1:Nat):Int):=by rw [K5 (by omega) (by omega)]; omega
 obtain ⟨g,u,e,hu,h1,h2⟩:=b0e (γ:=List Ent) (L:=L) (step:=W6 t x ((h:Int)+1) rN) (fun g n s=>(g,n,s)) (fun g s=>(g,s)) (fun j g=>g.length=j/\Z3 g<=j*(4*b+3)) m
  (fun j n g s hj hn hI hs=>by
    obtain ⟨ag,u1,e1,hu1,ha1,_,ha2⟩:=c9s hd hx hl h1l hh hs
    obtain ⟨z,u2,e2,hu2,_,_⟩:=Y0 hL hu1 (n:=6) (by omega) (by omega)
    obtain ⟨k,e3,_,e4⟩:=b7S hx (show x.Kids.length-1<x.Kids.length by omega)
    have fin:∀ (fl:Bool) (v:Val) (u3:Semtypebase_Source),OS L u3->w9 v<=b->∃ g' s',(Option.bind (w5 (g.length+([Ent.mk ag fl v]:List Ent).length) 160) fun _=>(some (Fl.next (g++([Ent.mk ag fl v]:List Ent),w64 (((n+1:Nat):Int)-1),u3)):Option (Fl (List Ent×Int×Semtypebase_Source) (List Ent×Semtypebase_Source))))=some (.next (g',(n:Int),s'))/\OS L s'/\(g'.length=j+1/\Z3 g'<=(j+1)*(4*b+3)):=fun fl v u3 hu3 hv=>by
     rw [v7 (by simp only [List.length_cons,List.length_nil]; have:=hI.1; omega),show w64 (((n+1:Nat):Int)-1)=(n:Int) by rw [K5 (by omega) (by omega)]; omega]
     refine ⟨_,u3,rfl,hu3,by simp [hI.1],?_⟩
     have hbe:=a3c (Ent.mk ag fl v)
     simp only [Ent.Args,Ent.Result] at hbe
     rw [b1x,Nat.add_mul]
     simp only [Z3,hbe]
     have:=hI.2
     omega
    unfold W6
    simp only [k8,hw,hw2]
    rw [show decide (0<((n+1:Nat):Int))=true from decide_eq_true (by omega)]
    rw [hw2] at e1
    rw [e1]
    simp only [cond_true,Option.bind_some]
    rw [e2]
    simp only [Option.bind_some]
    cases hz:z==1
    ·simp only [cond_false]
     obtain ⟨v,u3,e5,hu3,_,hv⟩:=hd k u2 e4 hu2
     rw [e3]
     simp only [Option.bind_some]
     rw [e5]
     simp only [Option.bind_some]
     have:=fin false v u3 hu3 hv
     cases v
     exact this
    ·simp only [cond_true,Option.bind_some]
     exact fin true a5y u2 hu2 (by rw [a5y,V3]; simp only [a2Y,v8,w4,Z3]; omega)) (fun g s=>by
    unfold W6
    rfl) m 0 ((m:Int).toNat+2) [] s (by omega) (by omega) ⟨rfl,by simp [Z3]⟩ hs
 exact ⟨g,u,e,hu,by simpa using h2⟩
theorem c6c (hL:L.length<=4194304)(hd:a9O L t N b h rN){x:Api_TypeNode}(hf:∀ f∈x.Fields,inR N f.Node=true)(hk:∀ f∈x.Fields,a5g f.Key_<=8)(hl:x.Fields.length<=3)(hh:h<=10){s:Semtypebase_Source}(hs:OS L s) :
 ∃ ks vs u,z7 (a0n t x ((h:Int)+1) rN) (x.Fields.length+1) ([],[],0,s)=some (ks,vs,u)/\OS L u/\ks.length<=3/\vs.length<=3/\w4 ks<=24/\v8 vs<=3*b:=by
 have hw:w64 ((h:Int)+1-1)=(h:Int):=by rw [K5 (by omega) (by omega)]; omega
 obtain ⟨g,u,e,hu,h1,h2,h3,h4⟩:=b8T (γ:=List Key×List Val) (L:=L) (step:=a0n t x ((h:Int)+1) rN) (fun g j s=>(g.1,g.2,j,s)) (fun g s=>(g.1,g.2,s)) (fun j g=>g.1.length<=j/\g.2.length<=j/\w4 g.1<=j*8/\v8 g.2<=j*b) x.Fields.length
  (fun j g s hj hI hs=>by
    have ex:=List.getElem?_eq_getElem hj
    have hm:=List.getElem_mem hj
    generalize x.Fields[j]=f at ex hm
    obtain ⟨k,e1,e2⟩:=a0K (hf f hm)
    have hkb:=hk f hm
    have skip:∀ u,OS L u->∃ (g':List Key×List Val) (s':Semtypebase_Source),(some (Fl.next (g.1,g.2,w64 ((j:Int)+1),u)):Option (Fl (List Key×List Val×Int×Semtypebase_Source) (List Key×List Val×Semtypebase_Source)))=some (.next (g'.1,g'.2,((j+1:Nat):Int),s'))/\OS L s'/\(g'.1.length<=j+1/\g'.2.length<=j+1/\w4 g'.1<=(j+1)*8/\v8 g'.2<=(j+1)*b):=fun u hu=>by
     rw [j5 j (by omega)]
     exact ⟨(g.1,g.2),u,rfl,hu,Nat.le_succ_of_le hI.1,Nat.le_succ_of_le hI.2.1,Nat.le_trans hI.2.2.1 (Nat.mul_le_mul_right _ (Nat.le_succ _)),Nat.le_trans hI.2.2.2 (Nat.mul_le_mul_right _ (Nat.le_succ _))⟩
    have take:∀ u,OS L u->∃ (g':List Key×List Val) (s':Semtypebase_Source),(Option.bind (Option.bind (w5 (g.1.length+([f.Key_]:List Key).length) 24) fun _=>Option.bind (rN u t f.Node (h:Int)) fun r8=>Option.bind (w5 (g.2.length+([r8.1]:List Val).length) 128) fun _=>some (g.1++([f.Key_]:List Key),g.2++([r8.1]:List Val),r8.2)) fun b10 =>
     (some (Fl.next (b10.1,b10.2.1,w64 ((j:Int)+1),b10.2.2)):Option (Fl (List Key×List Val×Int×Semtypebase_Source) (List Key×List Val×Semtypebase_Source))))=some (.next (g'.1,g'.2,((j+1:Nat):Int),s'))/\OS L s'/\(g'.1.length<=j+1/\g'.2.length<=j+1/\w4 g'.1<=(j+1)*8/\v8 g'.2<=(j+1)*b):=fun u hu=>by
     obtain ⟨v,u2,e3,hu2,_,hv⟩:=hd k u e2 hu
     rw [v7 (by simp only [List.length_cons,List.length_nil]; have:=hI.1; omega),e1,e3]
     simp only [Option.bind_some]
     rw [v7 (by simp only [List.length_cons,List.length_nil]; have:=hI.2.1; omega),j5 j (by omega)]
     refine ⟨(g.1++[f.Key_],g.2++[v]),u2,rfl,hu2,?_,?_,?_,?_⟩
     ·simp only [List.length_append,List.length_cons,List.length_nil]; have:=hI.1; omega
     ·simp only [List.length_append,List.length_cons,List.length_nil]; have:=hI.2.1; omega
     ·rw [a7p]; simp only [w4]; have:=hI.2.2.1; omega
     ·rw [a4n,Nat.add_mul]; simp only [v8]; have:=hI.2.2.2; omega
    unfold a0n
    simp only [k8,hw]
    rw [k9 hj,y4 ex]
    simp only [cond_true,Option.bind_some]
    cases hO:f.Optional
    ·simp only [cond_false,Option.bind_some]
     exact take s hs
    ·simp only [cond_true]
     obtain ⟨z,u,e4,hu,_,_⟩:=Y0 hL hs (n:=2) (by omega) (by omega)
     rw [e4]
     simp only [Option.bind_some]
     cases hz:z==1
     ·simp only [cond_false]
      exact take u hu
     ·simp only [cond_true,Option.bind_some]
      exact skip u hu) (fun g s=>by
    unfold a0n
    simp) x.Fields.length 0 (x.Fields.length+1) ([],[]) s (by omega) (Nat.le_refl _) ⟨Nat.le_refl _,Nat.le_refl _,by simp [w4],by simp [v8]⟩ hs
 refine ⟨g.1,g.2,u,e,hu,by omega,by omega,by omega,Nat.le_trans h4 (Nat.mul_le_mul_right _ hl)⟩
end
end Go.Pl
namespace Go.Pl
open Go Go.RowKit Go.Sx Go.Qx
structure GT (t:Api_Type):Prop where
 len:t.Nodes.length<=10
 nodes:GNs t.Nodes.length t.Nodes
def DB:Nat->Nat
 | 0=>300
 | h+1=>700+8*DB h
theorem d1g {h:Nat}(hh:h<=4):DB h<=1638300:=by
 match h,hh with
 | 0,_=>decide
 | 1,_=>decide
 | 2,_=>decide
 | 3,_=>decide
 | 4,_=>decide
theorem d2U {h:Nat}(hh:h<=3):DB h<=204700:=by
 match h,hh with
 | 0,_=>decide
 | 1,_=>decide
 | 2,_=>decide
 | 3,_=>decide
theorem c9u (h:Nat):300<=DB h:=by cases h<;>simp [DB]; omega
theorem c5S (x:Val):∀ (l:List Val) (i:Nat),v8 (l.set i x)<=v8 l+w9 x
 | [],_=>by simp [v8]
 | y::r,0=>by simp only [List.set_cons_zero,v8]; omega
 | y::r,i+1=>by have:=c5S x r i; simp only [List.set_cons_succ,v8]; omega
theorem c9U (k n:Int)(s:ByteArray)(a:List Val)(b:List Key)(c:List Ent)(l m:List ByteArray)(q:Nat)(h:J7 m<=J7 l+q):w9 (Val.mk k n s a b c m)<=w9 (Val.mk k n s a b c l)+q:=by
 simp only [w9]; omega
theorem c6b {t:Api_Type}(hT:GT t){i:Nat}{x:Api_TypeNode}(hx:t.Nodes[i]?=some x)(v:Val)(hv:w9 v<=2000000):∃ w,z7 (W5 t x) (x.Kids.length+1) (0,v)=some w/\w9 w<=w9 v+x.Kids.length*6:=by
 have hg:=hT.nodes i x hx
 have key:∀ (m a k:Nat) (w:Val),a+m=x.Kids.length->m+1<=k->w9 w<=w9 v+a*6->∃ w',z7 (W5 t x) k ((a:Int),w)=some w'/\w9 w'<=w9 v+x.Kids.length*6:=by
  intro m
  induction m with
  | zero =>
    intro a k w h1 h2 h3
    obtain ⟨k,rfl⟩:∃ m,k=m+1:=⟨k-1,by omega⟩
    have e:a=x.Kids.length:=by omega
    subst e
    have:W5 t x ((x.Kids.length:Int),w)=some (.done w):=by
     unfold W5
     simp
    exact ⟨w,by simp only [z7,this,Option.bind_some],h3⟩
  | succ m ih =>
    intro a k w h1 h2 h3
    obtain ⟨k,rfl⟩:∃ m,k=m+1:=⟨k-1,by omega⟩
    have ha:a<x.Kids.length:=by omega
    have hk4:=hg.kids
    obtain ⟨j,e1,_,hj⟩:=b7S hg.ok ha
    have e2:=List.getElem?_eq_getElem hj
    generalize t.Nodes[j]=y at e2
    have hy:=(hT.nodes j y e2).text
    have step:∃ w',W5 t x ((a:Int),w)=some (.next (((a+1:Nat):Int),w'))/\w9 w'<=w9 w+6:=by
     unfold W5
     simp only [k8]
     rw [k9 ha,e1]
     simp only [cond_true,Option.bind_some]
     rw [y4 e2]
     simp only [Option.bind_some]
     rw [j5 a (by omega)]
     cases hc:y.Kind==19
     ·simp only [cond_false,Option.bind_some]
      exact ⟨w,rfl,by omega⟩
     ·simp only [cond_true]
      obtain ⟨kk,n,s,kids,keys,ents,labs⟩:=w
      simp only [Val.Labels,Val.Kind,Val.Int_,Val.Text,Val.Kids,Val.Keys,Val.Entries]
      have hlab:labs.length<=w9 (Val.mk kk n s kids keys ents labs):=by
       have:=a5R labs
       simp only [w9]; omega
      rw [v7 (by omega),v7 (by simp only [List.length_cons,List.length_nil]; omega)]
      simp only [Option.bind_some]
      rw [c3q (labs++[y.Text]) (by simp only [List.length_append,List.length_cons,List.length_nil]; omega)]
      refine ⟨_,rfl,c9U _ _ _ _ _ _ _ _ 6 ?_⟩
      have h4:=b6W (labs++[y.Text]) []
      rw [b2Y] at h4
      simp only [J7,a3g] at h4
      omega
    obtain ⟨w',e3,h5⟩:=step
    simp only [z7,e3,Option.bind_some]
    exact ih (a+1) k w' (by omega) (by omega) (by omega)
 exact key x.Kids.length 0 (x.Kids.length+1) v (by omega) (Nat.le_refl _) (by omega)
theorem c89 {ks:List Key}{vs:List Val}{u:List Val×List Key}(h:a1G (ks.zip vs) ([],[])=some u):w9 (a1N u)<=8+w4 ks+v8 vs:=by
 obtain ⟨_,_,_,_,_,m⟩:=a8U (ks.zip vs) ([],[]) u h rfl rfl
 have hz:=b3y ks vs
 simp only [v8,w4] at m
 simp only [a1N,V3,a2Y,Z3]
 omega
section
variable {L:List Int}{t:Api_Type}
theorem d0r (hL:L.length<=4194304){b h:Nat}{rN}(hd:a9O L t t.Nodes.length b h rN)(hb:8<=b)(hb2:b<=300000)(hh:h<=10){i:Nat}{x:Api_TypeNode}(hg:GN t.Nodes.length i x)(hk:x.Kind=13){s:Semtypebase_Source}(hs:OS L s)(f:Nat)(r1:Semtypebase_Source->Api_Type->Int->Int->Option (Val×Semtypebase_Source))(r2 r3:Semtypebase_Source->Api_Type->Api_TypeNode->Int->Option (Val×Semtypebase_Source)) :
 ∃ v u,a3e f rN r1 r2 r3 s t x ((h:Int)+1)=some (v,u)/\OS L u/\w9 v<=100+4*b:=by
 have hw:w64 ((h:Int)+1-1)=(h:Int):=by rw [K5 (by omega) (by omega)]; omega
 have hn:=hg.ok
 unfold V9 a3u a3f at hn
 simp only [hk] at hn
 simp only [Bool.and_eq_true] at hn
 have hn2:=hn.2.2.2.2
 simp at hn2
 obtain ⟨⟨_,_,hfn⟩,_,hr0,hr1⟩:=hn2
 obtain ⟨ks,vs,u,e,hu,l1,l2,b1,b2⟩:=c6c hL hd hfn hg.keys hg.flds hh hs
 obtain ⟨k0,hk0,hk0'⟩:=a0K hr0
 obtain ⟨k1,hk1,hk1'⟩:=a0K hr1
 unfold a3e
 rw [w7,e]
 simp only [Option.bind_some]
 obtain ⟨z,u2,e2,hu2,_,_⟩:=Y0 hL hu (n:=2) (by omega) (by omega)
 rw [e2]
 simp only [Option.bind_some,k8,hw]
 have fin:∀ (ks:List Key) (vs:List Val) (u3:Semtypebase_Source),ks.length<=4->OS L u3->w4 ks<=40->v8 vs<=4*b->∃ v u,(Option.bind (a0H ks vs) fun r20=>bif r20.2 != 0 then (Option.bind (X7) fun r21=>some (r21,u3)) else (some (r20.1,u3)))=some (v,u)/\OS L u/\w9 v<=100+4*b:=fun ks vs u3 q1 hu3 q2 q3=>by
  rw [b6C ks vs (by omega)]
  have nilb:w9 (Val.mk 5 0 (⟨#[]⟩:ByteArray) ([]:List Val) ([]:List Key) ([]:List Ent) ([]:List ByteArray))<=100+4*b:=by
   rw [V3]; simp only [a2Y,v8,w4,Z3]; omega
  by_cases hc:ks.length=vs.length/\ks.all Z8=true
  ·rw [if_pos hc]
   cases hm:a1G (ks.zip vs) ([],[]) with
   | none=>exact ⟨_,u3,rfl,hu3,nilb⟩
   | some t =>
     have:=c89 hm
     exact ⟨a1N t,u3,rfl,hu3,by omega⟩
  ·rw [if_neg hc]
   exact ⟨_,u3,rfl,hu3,nilb⟩
 have other:∀ (z:Int) (kk:Nat) (u4:Semtypebase_Source),kk<t.Nodes.length->OS L u4->∃ v u,(Option.bind (Option.bind (rN u4 t (kk:Int) (h:Int)) fun r15=>Option.bind (w5 (vs.length+([r15.1]:List Val).length) 128) fun _=>some (ks++([Key.mk z (⟨#[111,116,104,101,114]⟩:ByteArray)]:List Key),vs++([r15.1]:List Val),r15.2)) fun b19 =>
  Option.bind (a0H b19.1 b19.2.1) fun r20=>bif r20.2 != 0 then (Option.bind (X7) fun r21=>some (r21,b19.2.2)) else (some (r20.1,b19.2.2)))=some (v,u)/\OS L u/\w9 v<=100+4*b:=fun z kk u4 hkk hu4=>by
  obtain ⟨v,u5,e5,hu5,_,hv⟩:=hd kk u4 hkk hu4
  rw [e5]
  simp only [Option.bind_some]
  rw [v7 (by simp only [List.length_cons,List.length_nil]; omega)]
  simp only [Option.bind_some]
  refine fin _ _ u5 (by simp only [List.length_append,List.length_cons,List.length_nil]; omega) hu5 ?_ ?_
  ·rw [a7p]
   have:w4 ([Key.mk z (⟨#[111,116,104,101,114]⟩:ByteArray)]:List Key)<=10:=by
    simp only [w4,a5g,a3g]
    decide
   omega
  ·rw [a4n]; simp only [v8]; omega
 cases hz:z==1
 ·simp only [cond_false,Option.bind_some]
  exact fin ks vs u2 (by omega) hu2 (by omega) (by omega)
 ·simp only [cond_true]
  obtain ⟨y,u3,e3,hu3,y0,y1⟩:=Y0 hL hu2 (n:=2) (by omega) (by omega)
  rw [e3]
  simp only [Option.bind_some]
  rw [v7 (by simp only [List.length_cons,List.length_nil]; omega)]
  simp only [Option.bind_some]
  have hy:y=0\/y=1:=by omega
  rcases hy with rfl | rfl
  ·simp only [Int.reduceBEq,cond_true]
   rw [hk0]
   exact other 0 k0 u3 hk0' hu3
  ·simp only [Int.reduceBEq,cond_true,cond_false]
   rw [hk1]
   exact other 1 k1 u3 hk1' hu3
theorem d0k (hL:L.length<=4194304){b h:Nat}{rN}(hd:a9O L t t.Nodes.length b h rN)(hb:8<=b)(hb2:b<=300000)(hh:h<=10){i:Nat}{x:Api_TypeNode}(hg:GN t.Nodes.length i x)(hk:x.Kind=14){s:Semtypebase_Source}(hs:OS L s)(f:Nat)(hf:9000000<=f)(r1:Semtypebase_Source->Api_Type->Int->Int->Option (Val×Semtypebase_Source))(r2 r3:Semtypebase_Source->Api_Type->Api_TypeNode->Int->Option (Val×Semtypebase_Source)) :
 ∃ v u,a12 f rN r1 r2 r3 s t x ((h:Int)+1)=some (v,u)/\OS L u/\w9 v<=100+8*b:=by
 have hn:=hg.ok
 unfold V9 a3u at hn
 simp only [hk] at hn
 simp only [Bool.and_eq_true] at hn
 have hn2:=hn.2.2.2.2
 simp at hn2
 have hk4:=hg.kids
 have h1l:1<=x.Kids.length:=by omega
 obtain ⟨m,u,e,hu,m0,m1⟩:=Y0 hL hs (n:=3) (by omega) (by omega)
 obtain ⟨m,rfl⟩:=b2L m0
 obtain ⟨es,u2,e2,hu2,hbe⟩:=c9b hL hd hb hg.ok hk4 h1l hh m (by omega) hu
 unfold a12
 rw [e]
 simp only [Option.bind_some]
 rw [e2]
 simp only [Option.bind_some]
 have hbe2:Z3 es<=2*(4*b+3):=Nat.le_trans hbe (Nat.mul_le_mul_right _ (by omega))
 rw [b3I f _ es (by omega) (by omega)]
 have hfb:=a9W es []
 simp only [Z3] at hfb
 by_cases hc:0<=(wr .i64 ((x.Kids.length:Int)-1))/\(wr .i64 ((x.Kids.length:Int)-1))<=4/\es.all (a4m (wr .i64 ((x.Kids.length:Int)-1)))=true
 ·rw [if_pos hc]
  refine ⟨_,u2,rfl,hu2,?_⟩
  simp only [b8O,V3,a2Y,v8,w4]
  omega
 ·rw [if_neg hc]
  refine ⟨_,u2,rfl,hu2,?_⟩
  rw [V3]; simp only [a2Y,v8,w4,Z3]; omega
end
end Go.Pl
namespace Go.Pl
open Go Go.RowKit Go.Sx Go.Qx
section
variable {L:List Int}{t:Api_Type}
def c1o (L:List Int)(t:Api_Type)(h:Nat):Prop:=∀ (k f:Nat) (s:Semtypebase_Source),k<t.Nodes.length->9000000+14*h+(10-k)<=f->OS L s ->
 ∃ v u,(y2 f).2.1 s t (k:Int) (h:Int)=some (v,u)/\OS L u/\w9 v+24*k<=DB h
theorem c1Q (hL:L.length<=4194304)(hT:GT t){h:Nat}(hh:h<=4)(hP:c1o L t h)(f:Nat)(hf:9000000+14*h+11<=f):a9O L t t.Nodes.length (DB h) h (y2 f).1:=by
 intro k s hk hs
 obtain ⟨f,rfl⟩:∃ m,f=m+1:=⟨f-1,by omega⟩
 obtain ⟨v,u,e,hu,hb⟩:=hP k f s hk (by omega) hs
 have hD:=d1g hh
 show ∃ v u,a4e f (y2 f).1 (y2 f).2.1 (y2 f).2.2.1 (y2 f).2.2.2 s t (k:Int) (h:Int)=some (v,u)/\_
 unfold a4e
 rw [e]
 simp only [Option.bind_some]
 rw [b2o f v (by omega) (by omega)]
 simp only [Option.bind_some]
 cases hv:vOK v
 ·obtain ⟨w,u2,e2,hu2,h1,h2⟩:=b5K hL hu
  have:=c9u h
  simp only [Bool.not_false,cond_true]
  rw [e2]
  exact ⟨w,u2,rfl,hu2,h1,by omega⟩
 ·exact ⟨v,u,rfl,hu,hv,by omega⟩
theorem d2L (hL:L.length<=4194304)(hT:GT t):c1o L t 0:=by
 intro k f s hk hf hs
 obtain ⟨f,rfl⟩:∃ m,f=m+1:=⟨f-1,by omega⟩
 obtain ⟨v,u,e,hu,_,hb⟩:=b5K hL hs
 refine ⟨v,u,?_,hu,by have:=hT.len; simp only [DB]; omega⟩
 show a08 f (y2 f).1 (y2 f).2.1 (y2 f).2.2.1 (y2 f).2.2.2 s t (k:Int) ((0:Nat):Int)=some (v,u)
 unfold a08
 have e0:decide (((0:Nat):Int)<=0)=true:=rfl
 rw [e0]
 simp only [cond_true,Option.bind_some]
 rw [e]
 rfl
theorem c9j (hL:L.length<=4194304)(hT:GT t){h:Nat}(hh:h<=3)(hP:c1o L t h):c1o L t (h+1):=by
 have key:∀ (d k f:Nat) (s:Semtypebase_Source),t.Nodes.length-k<=d->k<t.Nodes.length->9000000+14*(h+1)+(10-k)<=f->OS L s ->
  ∃ v u,(y2 f).2.1 s t (k:Int) ((h:Int)+1)=some (v,u)/\OS L u/\w9 v+24*k<=DB (h+1):=by
  intro d
  induction d with
  | zero=>intro k f s h1 h2; omega
  | succ d ih =>
    intro k f s hd hk hf hs
    obtain ⟨f,rfl⟩:∃ m,f=m+1:=⟨f-1,by omega⟩
    have hlen:=hT.len
    have hD:=d2U hh
    have hDp:=c9u h
    have ex:=List.getElem?_eq_getElem hk
    generalize t.Nodes[k]=x at ex
    have hg:=hT.nodes k x ex
    have hn:=hg.ok
    have small:∀ {n:Nat},n<=440+8*DB h->n+24*k<=DB (h+1):=fun hn=>by simp only [DB]; omega
    show ∃ v u,a08 f (y2 f).1 (y2 f).2.1 (y2 f).2.2.1 (y2 f).2.2.2 s t (k:Int) ((h:Int)+1)=some (v,u)/\_
    have hQ:=c1Q hL hT (show h<=4 by omega) hP f (by omega)
    unfold a08
    have q0:decide ((h:Int)+1<=0)=false:=decide_eq_false (by omega)
    have q1:decide ((k:Int)<0)=false:=decide_eq_false (by omega)
    have q2:decide ((t.Nodes.length:Int)<=(k:Int))=false:=decide_eq_false (by omega)
    rw [q0,q1,q2,y4 ex]
    simp only [cond_false,Option.bind_some]
    have kid:∀ (s:Semtypebase_Source),OS L s->isB x=true->1<=x.Kids.length->∃ (z:Int) (u:Semtypebase_Source) (k':Nat) (v:Val) (u':Semtypebase_Source),z8 s (x.Kids.length:Int)=some (z,u)/\idx x.Kids z=some (k':Int) /\
     (y2 f).2.1 u t (k':Int) ((h:Int)+1)=some (v,u')/\OS L u'/\w9 v+24*(k+1)<=DB (h+1):=fun s hs hb h1=>by
     have h4:=hg.kids
     obtain ⟨z,u,e,hu,z0,z1⟩:=Y0 hL hs (n:=(x.Kids.length:Int)) (by omega) (by omega)
     obtain ⟨z,rfl⟩:=b2L z0
     obtain ⟨k',e1,e2,hk'⟩:=b7S hn (show z<x.Kids.length by omega)
     have hlt:=hg.ord hb _ (List.mem_of_getElem? e2)
     obtain ⟨v,u',e3,hu',hbv⟩:=ih k' f u (by omega) hk' (by omega) hu
     exact ⟨z,u,k',v,u',e,e1,e3,hu',by omega⟩
    have other:∃ v u,(Option.bind (a2H f s 2) fun r52=>some (r52.1,r52.2))=some (v,u)/\OS L u/\w9 v+24*k<=DB (h+1):=by
     obtain ⟨v,u,e,hu,_,hb⟩:=d1F hL 1 f (by omega) (by omega) s hs
     have e':a2H f s 2=some (v,u):=e
     rw [e']
     exact ⟨v,u,rfl,hu,small (by have:Go.Pl.hb 1=320:=rfl; omega)⟩
    have hKinds:=a9l x.Kind
    rcases hKinds with hK | hK
    ·have kt:=hn
     unfold V9 a3u at kt
     rcases hK with hK | hK | hK | hK | hK | hK | hK | hK | hK | hK | hK | hK | hK | hK | hK | hK | hK | hK | hK<;>simp only [hK] at kt ⊢<;>simp only [Int.reduceBEq,cond_true,cond_false,Option.bind_some]
     ·exact other
     ·exact other
     ·have qd:∀ a:Int,b6E .i64 a 2=some (wr .i64 (a.tdiv 2)):=fun a=>rfl
      rw [qd,qd]
      simp only [Option.bind_some]
      obtain ⟨z,u,e,hu,z0,z1⟩:=Y0 hL hs (n:=3) (by omega) (by omega)
      rw [e]
      simp only [Option.bind_some]
      generalize wr .i64 (x.Lo+(wr .i64 ((wr .i64 (x.Hi.tdiv 2))-(wr .i64 (x.Lo.tdiv 2)))))=mid
      obtain ⟨y,ey,eg,_⟩:=b5k ([x.Lo,x.Hi,mid]:List Int) z0 (by simpa using z1)
      rw [ey,eg]
      refine ⟨_,u,rfl,hu,small ?_⟩
      rw [V3]; simp only [a2Y,v8,w4,Z3]; omega
     ·refine ⟨_,s,rfl,hs,small ?_⟩
      have:=hg.text
      rw [V3]; simp only [v8,w4,Z3]; omega
     ·obtain ⟨w,u,e,hu,hw⟩:=b9n hL hs
      have hw2:=List.all_eq_true.1 b1A w hw
      simp only [decide_eq_true_eq] at hw2
      rw [e]
      refine ⟨_,u,rfl,hu,small ?_⟩
      rw [V3]; simp only [v8,w4,Z3]; omega
     ·refine ⟨_,s,rfl,hs,small ?_⟩
      have:=hg.text
      rw [V3]; simp only [v8,w4,Z3]; omega
     ·obtain ⟨w,u,e,hu,hw⟩:=b0m hL hs
      have hw2:=List.all_eq_true.1 b1F w hw
      simp only [Bool.and_eq_true,decide_eq_true_eq] at hw2
      rw [e]
      refine ⟨_,u,rfl,hu,small ?_⟩
      rw [V3]; simp only [v8,w4,Z3]; omega
     ·obtain ⟨z,u,e,hu,z0,z1⟩:=Y0 hL hs (n:=2) (by omega) (by omega)
      rw [e]
      refine ⟨_,u,rfl,hu,small ?_⟩
      rw [V3]; simp only [a2Y,v8,w4,Z3]; omega
     ·refine ⟨_,s,rfl,hs,small ?_⟩
      rw [V3]; simp only [a2Y,v8,w4,Z3]; omega
     ·obtain ⟨g,u,e,hu,hl,hb⟩:=c1B hQ hn hg.kids (by omega) hs
      rw [w7,e]
      refine ⟨_,u,rfl,hu,small ?_⟩
      have h4:=hg.kids
      have:x.Kids.length*DB h<=4*DB h:=Nat.mul_le_mul_right _ h4
      rw [V3]; simp only [a2Y,w4,Z3]; omega
     ·exact other
     ·obtain ⟨g,u,e,hu,hl,hb⟩:=c1B hQ hn hg.kids (by omega) hs
      rw [w7,e]
      simp only [Option.bind_some]
      have h4:=hg.kids
      have h2:x.Kids.length=2:=by
       simp only [Bool.and_eq_true] at kt
       have:=kt.2.2.2.2
       simp at this
       omega
      have hgl:1<g.length:=by omega
      have eg:=List.getElem?_eq_getElem hgl
      generalize g[1]=w at eg
      have ei:idx g 1=some w:=y4 (i:=1) eg
      have e1:(1:Int).toNat=1:=rfl
      rw [ei,e1,eg]
      simp only [Option.bind_some]
      have:x.Kids.length*DB h<=4*DB h:=Nat.mul_le_mul_right _ h4
      cases hw:w.Kind != 7
      ·simp only [cond_false,Option.bind_some]
       refine ⟨_,u,rfl,hu,small ?_⟩
       rw [V3]; simp only [a2Y,w4,Z3]; omega
      ·simp only [cond_true]
       refine ⟨_,u,rfl,hu,small ?_⟩
       have hs:=c5S (Val.mk 5 0 (⟨#[]⟩:ByteArray) [] [] [] []) g 1
       rw [V3] at hs
       simp only [a2Y,v8,w4,Z3] at hs
       rw [V3]; simp only [a2Y,w4,Z3]; omega
     ·obtain ⟨f,rfl⟩:∃ m,f=m+1:=⟨f-1,by omega⟩
      have hQ2:=c1Q hL hT (show h<=4 by omega) hP f (by omega)
      obtain ⟨v,u,e,hu,hb⟩:=d0r hL hQ2 (by omega) (by omega) (by omega) hg hK hs f (y2 f).2.1 (y2 f).2.2.1 (y2 f).2.2.2
      have e':(y2 (f+1)).2.2.2 s t x ((h:Int)+1)=some (v,u):=e
      rw [e']
      exact ⟨v,u,rfl,hu,small (by omega)⟩
     ·obtain ⟨f,rfl⟩:∃ m,f=m+1:=⟨f-1,by omega⟩
      have hQ2:=c1Q hL hT (show h<=4 by omega) hP f (by omega)
      obtain ⟨v,u,e,hu,hb⟩:=d0k hL hQ2 (by omega) (by omega) (by omega) hg hK hs f (by omega) (y2 f).2.1 (y2 f).2.2.1 (y2 f).2.2.2
      have e':(y2 (f+1)).2.2.1 s t x ((h:Int)+1)=some (v,u):=e
      rw [e']
      exact ⟨v,u,rfl,hu,small (by omega)⟩
     ·exact other
     ·have h1:1<=x.Kids.length:=by
       simp only [Bool.and_eq_true] at kt
       have:=kt.2.2.2.2
       simp at this
       omega
      obtain ⟨z,u,k',v,u',e1,e2,e3,hu',hb⟩:=kid s hs (by unfold isB; rw [hK]; rfl) h1
      rw [e1]
      simp only [Option.bind_some]
      rw [e2]
      simp only [Option.bind_some]
      rw [e3]
      exact ⟨v,u',rfl,hu',by omega⟩
     ·have h1:1<=x.Kids.length:=by
       simp only [Bool.and_eq_true] at kt
       have:=kt.2.2.2.2
       simp at this
       omega
      obtain ⟨z,u,k',v,u',e1,e2,e3,hu',hb⟩:=kid s hs (by unfold isB; rw [hK]; rfl) h1
      rw [e1]
      simp only [Option.bind_some]
      rw [e2]
      simp only [Option.bind_some]
      rw [e3]
      simp only [Option.bind_some]
      have hD2:=d1g (show h+1<=4 by omega)
      obtain ⟨w,e4,hb4⟩:=c6b hT ex v (by omega)
      rw [w7,e4]
      have h4:=hg.kids
      exact ⟨w,u',rfl,hu',by omega⟩
     ·exact other
     ·obtain ⟨v,u,e,hu,_,hb⟩:=b5K hL hs
      rw [e]
      simp only [Option.bind_some]
      unfold a5E
      rw [c3q [x.Text] (by simp)]
      refine ⟨_,u,rfl,hu,small ?_⟩
      have h5:=hg.text
      have h6:=b6W [x.Text] []
      simp only [J7,a3g] at h6
      have h7:=a67 v (List.foldl (a2J cS) [] [x.Text])
      unfold a7w at h7
      show w9 (Val.mk v.Kind v.Int_ v.Text v.Kids v.Keys v.Entries (List.foldl (a2J cS) [] [x.Text]))<=_
      omega
    ·have e:∀ n:Int,1<=n->n<=19->¬ x.Kind=n:=fun n h1 h2=>by simpa using hK n h1 h2
     unfold V9 a3u at hn
     rw [if_neg (e 3 (by omega) (by omega)),if_neg (e 4 (by omega) (by omega)),if_neg (e 6 (by omega) (by omega)),if_neg (e 19 (by omega) (by omega)),if_neg (by have:=e 1 (by omega) (by omega); have:=e 2 (by omega) (by omega); have:=e 5 (by omega) (by omega); have:=e 7 (by omega) (by omega); have:=e 8 (by omega) (by omega); have:=e 9 (by omega) (by omega); have:=e 11 (by omega) (by omega); have:=e 15 (by omega) (by omega); omega),
      if_neg (e 10 (by omega) (by omega)),if_neg (e 12 (by omega) (by omega)),if_neg (e 14 (by omega) (by omega)),if_neg (by have:=e 16 (by omega) (by omega); have:=e 17 (by omega) (by omega); omega),if_neg (e 18 (by omega) (by omega)),if_neg (e 13 (by omega) (by omega))] at hn
     simp at hn
 intro k f s hk hf hs
 exact key t.Nodes.length k f s (by omega) hk hf hs
theorem c5e (hL:L.length<=4194304)(hT:GT t):∀ h:Nat,h<=4->c1o L t h
 | 0,_=>d2L hL hT
 | h+1,hh=>c9j hL hT (by omega) (c5e hL hT h (by omega))
end
end Go.Pl
end
section
namespace Go.Pl
open Go Go.RowKit Go.Sx Go.Qx
section
variable {L:List Int}
abbrev d4R:Type:=Int×Int×(List Api_Range)×Bool×(List ByteArray)×(List Int)×(List Int)×(List ByteArray)×(List ByteArray)
abbrev c97 (P Q:List Int):d4R:=(8,0,[],false,[],P,Q,[],[])
theorem c3Q (hL:L.length<=4194304){s:Semtypebase_Source}(h:OS L s)(r2:((List Api_TypeNode)×Int)×Semtypebase_Source)(N j:Nat)(hr:r2.1.1.length=N)(hN:1<=N)(hN2:N<=100)(hj:j<2)(tx:ByteArray)
 (hK:([(⟨#[97]⟩:ByteArray),(⟨#[98]⟩:ByteArray)]:List ByteArray)[j]?=some tx) (F:List Api_Field) (hF:F.length<=j) (a b:Int) :
 ∃ O t,a1v r2 ((j:Int),s,b0U F a b)=some (.next (((j+1:Nat):Int),t,b0U (F++O) a b))/\OS L t/\(O=[]\/∃ n o,O=[Api_Field.mk (Key.mk 0 tx) n o]/\inR N n=true):=by
 obtain ⟨x,t,e,ht,_,_⟩:=Y0 hL h (n:=2) (by omega) (by omega)
 unfold a1v
 simp only [k8]
 rw [show decide ((j:Int)<2)=true from decide_eq_true (by omega),e]
 simp only [cond_true,Option.bind_some]
 rw [j5 j (by omega),hr]
 cases hx:x==1
 ·exact ⟨[],t,by simp only [cond_false,Option.bind_some,List.append_nil],ht,.inl rfl⟩
 ·simp only [cond_true]
  rw [y4 hK,Int.toNat_natCast,hK]
  obtain ⟨n,t2,e2,ht2,n0,n1⟩:=Y0 hL ht (n:=(N:Int)) (by omega) (by omega)
  obtain ⟨o,t3,e3,ht3,_,_⟩:=Y0 hL ht2 (n:=2) (by omega) (by omega)
  simp only [Option.bind_some,e2,e3]
  rw [v7 (by simp only [List.length_cons,List.length_nil]; omega)]
  exact ⟨[Api_Field.mk (Key.mk 0 tx) n (o==1)],t3,rfl,ht3,.inr ⟨n,_,rfl,a87 n0 n1⟩⟩
theorem c9Q (hL:L.length<=4194304){s:Semtypebase_Source}(h:OS L s)(r2:((List Api_TypeNode)×Int)×Semtypebase_Source)(N i:Nat)(hr:r2.1.1.length=N)(hN:1<=N)(hN2:N<=100){a b:Int}(ha:inR N a=true)(hb:inR N b=true) :
 ∃ F t,z7 (a1v r2) ((2:Int).toNat+1) (0,s,(13,0,0,(⟨#[]⟩:ByteArray),[],[],a,b))=some (t,b0U F a b)/\OS L t/\F.length<=2/\GN N i (Api_TypeNode.mk 13 0 0 (⟨#[]⟩:ByteArray) [] F (a,b)):=by
 obtain ⟨O0,t3,e3,ht3,h0⟩:=c3Q hL h r2 N 0 hr hN hN2 (by omega) _ rfl [] (by simp) a b
 have l0:O0.length<=1:=by rcases h0 with rfl | ⟨n,o,rfl,_⟩<;>simp
 obtain ⟨O1,t4,e4,ht4,h1⟩:=c3Q hL ht3 r2 N 1 hr hN hN2 (by omega) _ rfl ([]++O0) (by simpa using l0) a b
 have l1:O1.length<=1:=by rcases h1 with rfl | ⟨n,o,rfl,_⟩<;>simp
 have e6:a1v r2 (((1+1:Nat):Int),t4,b0U (([]++O0)++O1) a b)=some (.done (t4,b0U (([]++O0)++O1) a b)):=rfl
 refine ⟨O0++O1,t4,?_,ht4,by simp only [List.length_append]; omega,?_⟩
 ·show z7 (a1v r2) (2+1) (((0:Nat):Int),s,b0U [] a b)=_
  simp only [z7,e3,e4,e6,Option.bind_some]
  rfl
 ·refine ⟨?_,fun hb=>absurd hb (show ¬ (false=true) by simp),by show (0:Nat)<=4; omega,by show (⟨#[]⟩:ByteArray).size<=5; decide,?_,?_,by show (-9223372036854775808:Int)<=0/\(0:Int)<=9223372036854775807/\(-9223372036854775808:Int)<=0/\(0:Int)<=9223372036854775807; decide⟩
  ·have hF:a3f N (O0++O1)=true:=by
    unfold a3f
    rw [Bool.and_eq_true,Bool.and_eq_true]
    refine ⟨?_,?_,?_⟩
    ·rcases h0 with rfl | ⟨n,o,rfl,_⟩<;>rcases h1 with rfl | ⟨n',o',rfl,_⟩<;>kernel_rfl
    ·rcases h0 with rfl | ⟨n,o,rfl,_⟩<;>rcases h1 with rfl | ⟨n',o',rfl,_⟩<;>kernel_rfl
    ·rcases h0 with rfl | ⟨n,o,rfl,q0⟩<;>rcases h1 with rfl | ⟨n',o',rfl,q1⟩<;>simp_all
   unfold V9 a3u
   simp only [hF,ha,hb,a7k]
   simp
  ·show (O0++O1).length<=3
   simp only [List.length_append]
   omega
  ·intro f hf
   have hf:f∈O0++O1:=hf
   have one:∀ {O:List Api_Field} {K:Key},(O=[]\/∃ n o,O=[Api_Field.mk K n o]/\inR N n=true)->f∈O->f.Key_=K:=fun hO hm=>by
    rcases hO with rfl | ⟨n,o,rfl,_⟩
    ·cases hm
    ·rw [List.mem_singleton.1 hm]
   rcases List.mem_append.1 hf with hf | hf
   ·rw [one h0 hf]; decide
   ·rw [one h1 hf]; decide
structure MI (N i:Nat)(g:(List Api_TypeNode)×(List Int)×(List Int)):Prop where
 len:g.1.length=N+i
 nodes:GNs (N+3) g.1
 maps:∀ (j:Nat) (x:Api_TypeNode),N<=j->g.1[j]?=some x->x.Kind=13/\x.Fields.length<=2
 pos:∀ k∈g.2.1,∃ j:Nat,k=(j:Int)/\N<=j/\j<N+i
 neg:∀ k∈g.2.2,∃ j:Nat,k=(j:Int)/\N<=j/\j<N+i
 few:g.2.1.length<=i/\g.2.2.length<=i
theorem c9G {d:List Int}(hd:d.length<=4194304)(hL:L.length<=4194304) :
 ∃ (N:Nat) (ns:List Api_TypeNode) (P Q:List Int),1<=N/\N<=4/\a5M d L=some (Api_Type.mk ns 0,Api_Line.mk 8 0 [] (Api_Names.mk false []) P Q [] [])/\MI N 3 (ns,P,Q):=by
 obtain ⟨x,t1,e1,h1,x0,x1⟩:=Y0 hd (⟨rfl,by show (0:Int)<=0; omega,by show (0:Int)<=_; omega⟩:OS d (Semtypebase_Source.mk d 0)) (n:=4) (by omega) (by omega)
 obtain ⟨x,rfl⟩:=b2L x0
 obtain ⟨ns,t2,e2,h2,hlen,hns⟩:=d0b hd h1 (x+1) (by omega) (by omega)
 have hr:(((ns,(0:Int)),t2):((List Api_TypeNode)×Int)×Semtypebase_Source).1.1.length=x+1:=hlen
 obtain ⟨g,s',e,hs',hI⟩:=b8T (γ:=(List Api_TypeNode)×(List Int)×(List Int)) (L:=L) (step:=a1y ((ns,0),t2)) (fun g j s=>(j,(g.1,0),s,c97 g.2.1 g.2.2)) (fun g s=>((g.1,0),s,c97 g.2.1 g.2.2)) (MI (x+1)) 3
  (fun j g s hj hI hs=>by
    obtain ⟨a,u1,a1,hu1,a2,a3⟩:=Y0 hL hs (n:=((x+1:Nat):Int)) (by omega) (by omega)
    obtain ⟨b,u2,b1,hu2,b2,b3⟩:=Y0 hL hu1 (n:=((x+1:Nat):Int)) (by omega) (by omega)
    obtain ⟨F,u3,f1,hu3,f2,f3⟩:=c9Q hL hu2 ((ns,0),t2) (x+1) g.1.length hr (by omega) (by omega) (a87 a2 a3) (a87 b2 b3)
    obtain ⟨c,u4,c1,hu4,c2,c3⟩:=Y0 hL hu3 (n:=3) (by omega) (by omega)
    have hl:=hI.len
    have hp:=hI.few
    have hw:wr .i64 (((x+1:Nat):Int)+(j:Int))=((x+1+j:Nat):Int):=by rw [k8,K5 (by omega) (by omega)]; omega
    have key:∀ P' Q':List Int,(∀ k∈P',k∈g.2.1\/k=((x+1+j:Nat):Int))->(∀ k∈Q',k∈g.2.2\/k=((x+1+j:Nat):Int))->P'.length<=j+1->Q'.length<=j+1 ->
     MI (x+1) (j+1) (g.1++[Api_TypeNode.mk 13 0 0 (⟨#[]⟩:ByteArray) [] F (a,b)],P',Q'):=fun P' Q' h1 h2 h3 h4 =>
     ⟨by simp only [List.length_append,List.length_cons,List.length_nil]; omega,hI.nodes.snoc (f3.mono (by omega)),fun i y hi hy=>by
      by_cases hlt:i<g.1.length
      ·rw [List.getElem?_append_left hlt] at hy
       exact hI.maps i y hi hy
      ·rw [List.getElem?_append_right (by omega)] at hy
       have h0:i-g.1.length=0:=by
        have:=(List.getElem?_eq_some_iff.1 hy).1
        simp at this
        omega
       rw [h0] at hy
       cases hy
       exact ⟨rfl,f2⟩,fun k hk=>by
      rcases h1 k hk with hk | rfl
      ·obtain ⟨i,e,q1,q2⟩:=hI.pos k hk
       exact ⟨i,e,q1,by omega⟩
      ·exact ⟨_,rfl,by omega,by omega⟩,fun k hk=>by
      rcases h2 k hk with hk | rfl
      ·obtain ⟨i,e,q1,q2⟩:=hI.neg k hk
       exact ⟨i,e,q1,by omega⟩
      ·exact ⟨_,rfl,by omega,by omega⟩,h3,h4⟩
    have hjd:decide ((j:Int)<3)=true:=decide_eq_true (by omega)
    have hr':(((ns.length:Nat)):Int)=((x+1:Nat):Int):=by rw [hlen]
    rcases Bool.eq_false_or_eq_true (c==0) with hc | hc
    ·refine ⟨(g.1++[Api_TypeNode.mk 13 0 0 (⟨#[]⟩:ByteArray) [] F (a,b)],g.2.1++[((x+1+j:Nat):Int)],g.2.2),u4,?_,hu4,key _ _ (fun k hk=>by simpa using hk) (fun k hk=>.inl hk) (by simp only [List.length_append,List.length_cons,List.length_nil]; omega) (by omega)⟩
     have hc1:(c==1)=false:=by have:c=0:=by simpa using hc
                               subst this; rfl
     unfold a1y
     simp only [hr']
     rw [hjd,a1]
     simp only [cond_true,Option.bind_some]
     rw [b1]
     simp only [Option.bind_some]
     rw [f1]
     simp only [Option.bind_some]
     rw [v7 (by simp only [List.length_cons,List.length_nil]; omega),c1]
     simp only [Option.bind_some,hc,cond_true]
     rw [v7 (by simp only [List.length_cons,List.length_nil]; omega)]
     simp only [Option.bind_some,hc1,cond_false,hw]
     rw [k8,j5 j (by omega)]
    ·rcases Bool.eq_false_or_eq_true (c==1) with hc1 | hc1
     ·refine ⟨(g.1++[Api_TypeNode.mk 13 0 0 (⟨#[]⟩:ByteArray) [] F (a,b)],g.2.1,g.2.2++[((x+1+j:Nat):Int)]),u4,?_,hu4,key _ _ (fun k hk=>.inl hk) (fun k hk=>by simpa using hk) (by omega) (by simp only [List.length_append,List.length_cons,List.length_nil]; omega)⟩
      unfold a1y
      simp only [hr']
      rw [hjd,a1]
      simp only [cond_true,Option.bind_some]
      rw [b1]
      simp only [Option.bind_some]
      rw [f1]
      simp only [Option.bind_some]
      rw [v7 (by simp only [List.length_cons,List.length_nil]; omega),c1]
      simp only [Option.bind_some,hc,cond_false,hc1,cond_true]
      rw [v7 (by simp only [List.length_cons,List.length_nil]; omega)]
      simp only [Option.bind_some,hw]
      rw [k8,j5 j (by omega)]
     ·refine ⟨(g.1++[Api_TypeNode.mk 13 0 0 (⟨#[]⟩:ByteArray) [] F (a,b)],g.2.1,g.2.2),u4,?_,hu4,key _ _ (fun k hk=>.inl hk) (fun k hk=>.inl hk) (by omega) (by omega)⟩
      unfold a1y
      simp only [hr']
      rw [hjd,a1]
      simp only [cond_true,Option.bind_some]
      rw [b1]
      simp only [Option.bind_some]
      rw [f1]
      simp only [Option.bind_some]
      rw [v7 (by simp only [List.length_cons,List.length_nil]; omega),c1]
      simp only [Option.bind_some,hc,cond_false,hc1]
      rw [k8,j5 j (by omega)]) (fun g s=>rfl) 3 0 ((3:Int).toNat+1) (ns,[],[]) (Semtypebase_Source.mk L 0) rfl (by decide)
  ⟨by simpa using hlen,fun i y hy=>(hns i y hy).mono (by omega),(fun j y hj hy=>by
   have h0:j<ns.length:=(List.getElem?_eq_some_iff.1 hy).1
   omega),(fun k hk=>by cases hk),(fun k hk=>by cases hk),by simp⟩ ⟨rfl,by show (0:Int)<=0; omega,by show (0:Int)<=_; omega⟩
 refine ⟨x+1,g.1,g.2.1,g.2.2,by omega,by omega,?_,hI⟩
 unfold a5M
 rw [e1]
 simp only [Option.bind_some]
 rw [show wr .i64 (1+(x:Int))=((x+1:Nat):Int) by rw [k8,K5 (by omega) (by omega)]; omega,e2]
 simp only [Option.bind_some]
 have e':z7 (a1y ((ns,0),t2)) ((3:Int).toNat+1) (0,(ns,0),Semtypebase_Source.mk L 0,(8,0,[],false,[],[],[],[],[]))=some ((g.1,0),s',c97 g.2.1 g.2.2):=e
 rw [e']
 rfl
end
end Go.Pl
end
section
namespace Go.Pl
open Go Go.RowKit Go.Sx Go.Qx
theorem a4B {α β:Type}{step:Int->Option (Fl Int (Sum Unit β))}(xs:List α)(p:α->Bool)(out:Nat->α->β)
 (hst:∀ (i:Nat) (x:α),xs[i]?=some x->step (i:Int)=some (if p x=true then .done (.inr (out i x)) else .next ((i+1:Nat):Int)))
 (hend:step (xs.length:Int)=some (.done (.inl ()))) :
 (∃ i x,xs[i]?=some x/\p x=true/\(∀ j,j<i->∀ y,xs[j]?=some y->p y=false)/\z7 step (xs.length+1) 0=some (.inr (out i x)))\/(xs.any p=false/\z7 step (xs.length+1) 0=some (.inl ())):=by
 have key:∀ (m a k:Nat),a+m=xs.length->m+1<=k->(∀ j,j<a->∀ y,xs[j]?=some y->p y=false) ->
  (∃ i x,xs[i]?=some x/\p x=true/\(∀ j,j<i->∀ y,xs[j]?=some y->p y=false)/\z7 step k (a:Int)=some (.inr (out i x)))\/(xs.any p=false/\z7 step k (a:Int)=some (.inl ())):=by
  intro m
  induction m with
  | zero =>
    intro a k h1 h2 h3
    obtain ⟨k,rfl⟩:∃ m,k=m+1:=⟨k-1,by omega⟩
    have e:a=xs.length:=by omega
    subst e
    refine .inr ⟨?_,by simp only [z7,hend,Option.bind_some]⟩
    rw [List.any_eq_false]
    intro x hx
    obtain ⟨j,hj,rfl⟩:=List.getElem_of_mem hx
    have:=h3 j hj _ (List.getElem?_eq_getElem hj)
    simp [this]
  | succ m ih =>
    intro a k h1 h2 h3
    obtain ⟨k,rfl⟩:∃ m,k=m+1:=⟨k-1,by omega⟩
    have ha:a<xs.length:=by omega
    have ex:=List.getElem?_eq_getElem ha
    have hs:=hst a _ ex
    cases hp:p xs[a] with
    | true =>
      rw [if_pos hp] at hs
      exact .inl ⟨a,xs[a],ex,hp,h3,by simp only [z7,hs,Option.bind_some]⟩
    | false =>
      rw [if_neg (by simp [hp])] at hs
      simp only [z7,hs,Option.bind_some]
      refine ih (a+1) k (by omega) (by omega) fun j hj y hy=>?_
      by_cases hja:j=a
      ·subst hja
       rw [ex] at hy
       cases hy
       exact hp
      ·exact h3 j (by omega) y hy
 exact key xs.length 0 (xs.length+1) (by omega) (Nat.le_refl _) (fun j hj=>by omega)
theorem b2I {α:Type}{xs:List α}{p:α->Bool}{i:Nat}{x:α}(h:xs[i]?=some x)(hp:p x=true):xs.any p=true:=List.any_eq_true.2 ⟨x,List.mem_of_getElem? h,hp⟩
theorem d4S:decide ((0:Int) <= -1)=false:=rfl
theorem c4E (i:Nat):decide ((0:Int)<=(i:Int))=true:=decide_eq_true (by omega)
theorem c84 (a b:Key):Z7 a b=Z7 b a:=by
 rw [Bool.eq_iff_iff,a5C,a5C,a3E a b]
 omega
theorem c8R (a b:ByteArray):Y6 a b=Y6 b a:=by
 rw [b59,b59]
 have:cS b a = - cS a b:=d25.anti a b
 by_cases h:cS a b=0
 ·simp [h,this]
 ·have h2:¬ cS b a=0:=by omega
  simp [h,h2]
theorem a9o (a b:Key):a3B a b=Z7 a b:=rfl
theorem c57 (l:List Key)(k:Key)(hl:l.length<=4194304):V4 l k=some (l.any fun y=>Z7 y k):=by
 unfold V4 a1s
 rw [w7]
 rcases a4B (step:=a00 l k) l (fun y=>Z7 y k) (fun i _=>(i:Int)) (fun i x hx=>by
  have hi:i<l.length:=(List.getElem?_eq_some_iff.1 hx).1
  unfold a00
  rw [k9 hi,y4 hx]
  simp only [cond_true,Option.bind_some,a9o,k8]
  rw [j5 i (by omega),c84 k x]
  cases Z7 x k<;>rfl) (by
  unfold a00
  simp) with ⟨i,x,hx,hp,_,e⟩ | ⟨h,e⟩
 ·rw [e,b2I hx hp]
  simp only [Option.bind_some,j9,c4E]
 ·rw [e,h]
  rfl
theorem c70 (l:List ByteArray)(k:ByteArray)(hl:l.length<=4194304):a1m l k=some (l.any fun y=>Y6 y k):=by
 unfold a1m a3T
 rw [w7]
 rcases a4B (step:=a1l l k) l (fun y=>Y6 y k) (fun i _=>(i:Int)) (fun i x hx=>by
  have hi:i<l.length:=(List.getElem?_eq_some_iff.1 hx).1
  unfold a1l
  rw [k9 hi,y4 hx]
  simp only [cond_true,Option.bind_some,k8]
  rw [j5 i (by omega),c8R k x]
  cases Y6 x k<;>rfl) (by
  unfold a1l
  simp) with ⟨i,x,hx,hp,_,e⟩ | ⟨h,e⟩
 ·rw [e,b2I hx hp]
  simp only [Option.bind_some,j9,c4E]
 ·rw [e,h]
  rfl
theorem b1C (l:List Int)(f:Int->Option Bool)(p:Int->Bool)(hl:l.length<=4194304)(hf:∀ x∈l,f x=some (p x)):Y1 l f=some (l.any p):=by
 unfold Y1 a4F
 rw [w7]
 rcases a4B (step:=a1R l f) l p (fun i _=>(i:Int)) (fun i x hx=>by
  have hi:i<l.length:=(List.getElem?_eq_some_iff.1 hx).1
  unfold a1R
  rw [k9 hi,y4 hx]
  simp only [cond_true,Option.bind_some,k8]
  rw [j5 i (by omega),hf x (List.mem_of_getElem? hx)]
  cases p x<;>rfl) (by
  unfold a1R
  simp) with ⟨i,x,hx,hp,_,e⟩ | ⟨h,e⟩
 ·rw [e,b2I hx hp]
  simp only [Option.bind_some,j9,c4E]
 ·rw [e,h]
  rfl
def b1E (x:Api_TypeNode)(k:Key):Int:=if k.Kind=0 then x.Rest.1 else x.Rest.2
def atM (x:Api_TypeNode)(k:Key):Int:=match x.Fields.find? (fun f=>Z7 f.Key_ k) with
 | some f=>f.Node
 | none=>b1E x k
theorem b1Z {α:Type}{p:α->Bool}:∀ {l:List α} {i:Nat} {x:α},l[i]?=some x->p x=true->(∀ j,j<i->∀ y,l[j]?=some y->p y=false)->l.find? p=some x
 | [],_,_,h,_,_=>by simp at h
 | y::r,0,x,h,hp,_=>by
   simp at h
   subst h
   simp [hp]
 | y::r,i+1,x,h,hp,hn=>by
   have hy:=hn 0 (by omega) y rfl
   rw [List.find?_cons,hy]
   exact b1Z (l:=r) (i:=i) (by simpa using h) hp fun j hj z hz=>hn (j+1) (by omega) z (by simpa using hz)
theorem c3f {α:Type}{p:α->Bool}{l:List α}(h:l.any p=false):l.find? p=none:=by
 rw [List.find?_eq_none]
 rw [List.any_eq_false] at h
 exact h
theorem c45 {k:Key}(h:Z8 k=true):k.Kind=0\/k.Kind=1:=by
 unfold Z8 at h
 split at h
 ·left; assumption
 ·split at h
  ·right; assumption
  ·cases h
theorem c7Q (x:Api_TypeNode)(k:Key)(hf:x.Fields.length<=4194304)(hk:Z8 k=true):a7H x k=some (atM x k):=by
 unfold a7H atM
 rw [w7]
 rcases a4B (step:=b1z x k) x.Fields (fun f=>Z7 f.Key_ k) (fun _ f=>f.Node) (fun i f hx=>by
  have hi:i<x.Fields.length:=(List.getElem?_eq_some_iff.1 hx).1
  unfold b1z
  rw [k9 hi,y4 hx]
  simp only [cond_true,Option.bind_some,a9o,k8]
  rw [j5 i (by omega)]
  cases Z7 f.Key_ k<;>rfl) (by
  unfold b1z
  simp) with ⟨i,f,hx,hp,hn,e⟩ | ⟨h,e⟩
 ·rw [e,b1Z hx hp hn]
  rfl
 ·rw [e,c3f h]
  unfold b1E
  rcases c45 hk with h0 | h1
  ·simp [j9,h0]
  ·simp [j9,h1]
theorem d1E (v:Val)(k:Key)(hl:v.Keys.length<=4194304):∃ r,a64 v k=some r/\decide (r<0)=!(v.Keys.any fun y=>Z7 y k):=by
 unfold a64
 rw [w7]
 rcases a4B (step:=a5t v k) v.Keys (fun y=>Z7 y k) (fun i _=>(i:Int)) (fun i x hx=>by
  have hi:i<v.Keys.length:=(List.getElem?_eq_some_iff.1 hx).1
  unfold a5t
  rw [k9 hi,y4 hx]
  simp only [cond_true,Option.bind_some,a9o,k8]
  rw [j5 i (by omega)]
  cases Z7 x k<;>rfl) (by
  unfold a5t
  simp) with ⟨i,x,hx,hp,_,e⟩ | ⟨h,e⟩
 ·rw [e,b2I hx hp]
  exact ⟨(i:Int),rfl,decide_eq_false (by omega)⟩
 ·rw [e,h]
  exact ⟨-1,rfl,rfl⟩
theorem c8X (x:Api_TypeNode)(k:Key)(hl:x.Fields.length<=4194304):(∃ (i:Nat) (f:Api_Field),a2O x k=some (i:Int)/\x.Fields[i]?=some f/\atM x k=f.Node)\/(a2O x k=some (-1)/\atM x k=b1E x k):=by
 unfold a2O atM
 rw [w7]
 rcases a4B (step:=a4j x k) x.Fields (fun f=>Z7 f.Key_ k) (fun i _=>(i:Int)) (fun i f hx=>by
  have hi:i<x.Fields.length:=(List.getElem?_eq_some_iff.1 hx).1
  unfold a4j
  rw [k9 hi,y4 hx]
  simp only [cond_true,Option.bind_some,a9o,k8]
  rw [j5 i (by omega)]
  cases Z7 f.Key_ k<;>rfl) (by
  unfold a4j
  simp) with ⟨i,f,hx,hp,hn,e⟩ | ⟨h,e⟩
 ·left
  rw [e,b1Z hx hp hn]
  exact ⟨i,f,rfl,hx,rfl⟩
 ·right
  rw [e,c3f h]
  exact ⟨rfl,rfl⟩
end Go.Pl
namespace Go.Pl
open Go Go.RowKit Go.Sx Go.Qx
section
variable (μ:Val->Int->Bool)
def b6e (l:List Val)(ks:List Int):Bool:=((l.length:Int)==(ks.length:Int))&&(l.zip ks).all fun p=>μ p.1 p.2
def c4h (v:Val)(x:Api_TypeNode):Bool:=(x.Fields.all fun f=>f.Optional||v.Keys.any fun y=>Z7 y f.Key_)&&(v.Keys.zip v.Kids).all fun p=>μ p.2 (atM x p.1)
def c4c (ks:List Int):Int:=ks.getD (ks.length-1) 0
def b4q (e:Ent)(ks:List Int):Bool:=!b6e μ e.Args (ks.take (ks.length-1))||(!e.Fails&&μ e.Result (c4c ks))
def c68 (v:Val)(x:Api_TypeNode):Bool:=(v.Int_==((x.Kids.length-1:Nat):Int))&&v.Entries.all fun e=>b4q μ e x.Kids
def unM (v:Val)(x:Api_TypeNode):Bool :=
 if x.Kind=2 then true else if x.Kind=3 then v.Kind==1&&(decide (x.Lo<=v.Int_)&&decide (v.Int_<=x.Hi)) else if x.Kind=4 then v.Kind==2&&Y6 v.Text x.Text else
 if x.Kind=5 then v.Kind==2 else if x.Kind=6 then v.Kind==3&&Y6 v.Text x.Text else if x.Kind=7 then v.Kind==3 else if x.Kind=8 then v.Kind==4 else if x.Kind=9 then v.Kind==5 else
 if x.Kind=11 then v.Kind==6 else if x.Kind=15 then v.Kind==9 else if x.Kind=10 then v.Kind==6&&b6e μ v.Kids x.Kids else if x.Kind=12 then v.Kind==7&&b6e μ v.Kids x.Kids else
 if x.Kind=13 then v.Kind==8&&c4h μ v x else if x.Kind=14 then v.Kind==9&&c68 μ v x else if x.Kind=16 then x.Kids.any (μ v) else if x.Kind=17 then x.Kids.all (μ v) else
 if x.Kind=18 then !μ v (x.Kids.getD 0 0) else if x.Kind=19 then v.Labels.any fun y=>Y6 y x.Text else false
end
def FU (b:Nat):Nat:=4*(b*11+10)+4
def J6 (t:Api_Type)(v:Val)(k:Int):Bool:=(w8 (FU (w9 v)) v t k).getD false
def MS (v:Val)(k:Nat):Nat:=w9 v*11+(10-k)
theorem a4M {α β:Type}{l:List α}{m:List β}{i:Nat}{p:α×β}(h:(l.zip m)[i]?=some p):l[i]?=some p.1/\m[i]?=some p.2:=by
 obtain ⟨a,b⟩:=p
 rw [List.getElem?_zip_eq_some] at h
 exact h
theorem d1n {l:List Val}(h:a06 l=true){x:Val}(hx:x∈l):vOK x=true:=by
 rw [a3W] at h
 exact List.all_eq_true.1 h x hx
section
variable {t:Api_Type}{f0 b:Nat}
def RH (t:Api_Type)(f0 b:Nat):Prop:=∀ (v:Val) (k:Nat) (f:Nat),w9 v<b->vOK v=true->k<t.Nodes.length->f0<=f->X9 f v t (k:Int)=some (J6 t v (k:Int))/\w8 f v t (k:Int)=some (J6 t v (k:Int))
theorem c2v (hR:RH t f0 b){l:List Val}{ks:List Int}(hl:∀ x∈l,w9 x<b)(ho:a06 l=true)(hk:∀ k∈ks,inR t.Nodes.length k=true)(hlen:l.length<=4194304)(f:Nat)(hf:f0+1<=f) :
 a5G f l t ks=some (b6e (J6 t) l ks)/\a0s f l t ks=some (b6e (J6 t) l ks):=by
 obtain ⟨f,rfl⟩:∃ m,f=m+1:=⟨f-1,by omega⟩
 by_cases he:l.length=ks.length
 ·have e1:((l.length:Int) != (ks.length:Int))=false:=by simp [he]
  have e2:((l.length:Int)==(ks.length:Int))=true:=by simp [he]
  have hz:(l.zip ks).length=l.length:=by rw [List.length_zip]; omega
  have one:∀ (i:Nat) (p:Val×Int),(l.zip ks)[i]?=some p->i<l.length/\idx l (i:Int)=some p.1/\idx ks (i:Int)=some p.2/\X9 f p.1 t p.2=some (J6 t p.1 p.2)/\w8 f p.1 t p.2=some (J6 t p.1 p.2):=fun i p hp=>by
   obtain ⟨h1,h2⟩:=a4M hp
   obtain ⟨j,hj,hj2⟩:=a0K (hk _ (List.mem_of_getElem? h2))
   have hm:=List.mem_of_getElem? h1
   have:=hR p.1 j f (hl _ hm) (d1n ho hm) hj2 (by omega)
   rw [<- hj] at this
   exact ⟨(List.getElem?_eq_some_iff.1 h1).1,y4 h1,y4 h2,this⟩
  have l1:=K9 (step:=a72 l t ks (X9 f)) (l.zip ks) (fun p=>J6 t p.1 p.2) (fun i=>(i:Int)) () false (fun i p hp=>by
   obtain ⟨h0,h1,h2,h3,_⟩:=one i p hp
   unfold a72
   rw [k9 h0,h1]
   simp only [cond_true,Option.bind_some,k8]
   rw [h2]
   simp only [Option.bind_some]
   rw [h3,j5 i (by omega)]
   exact a4w _ _) (by
   unfold a72
   simp [hz])
  have l2:=K9 (step:=a1Y l t ks (w8 f)) (l.zip ks) (fun p=>J6 t p.1 p.2) (fun i=>(i:Int)) () false (fun i p hp=>by
   obtain ⟨h0,h1,h2,_,h3⟩:=one i p hp
   unfold a1Y
   rw [k9 h0,h1]
   simp only [cond_true,Option.bind_some,k8]
   rw [h2]
   simp only [Option.bind_some]
   rw [h3,j5 i (by omega)]
   exact a4w _ _) (by
   unfold a1Y
   simp [hz])
  rw [hz] at l1 l2
  unfold b6e
  constructor
  ·show a8R f (a5G f) (W7 f) (a0k f) (X9 f) (a3o f) (a3q f) (a2y f) l t ks=_
   unfold a8R
   have l1':z7 (a72 l t ks (X9 f)) (l.length+1) 0=_:=l1
   rw [e1,w7,l1',e2]
   cases (l.zip ks).all fun p=>J6 t p.1 p.2<;>rfl
  ·show a2r f (a0S f) (a03 f) (w8 f) (a0s f) l t ks=_
   unfold a2r
   have l2':z7 (a1Y l t ks (w8 f)) (l.length+1) 0=_:=l2
   rw [e1,w7,l2',e2]
   cases (l.zip ks).all fun p=>J6 t p.1 p.2<;>rfl
 ·have e1:((l.length:Int) != (ks.length:Int))=true:=by simp; omega
  have e2:((l.length:Int)==(ks.length:Int))=false:=by simp; omega
  unfold b6e
  rw [e2]
  constructor
  ·show a8R f (a5G f) (W7 f) (a0k f) (X9 f) (a3o f) (a3q f) (a2y f) l t ks=_
   unfold a8R
   rw [e1]; rfl
  ·show a2r f (a0S f) (a03 f) (w8 f) (a0s f) l t ks=_
   unfold a2r
   rw [e1]; rfl
theorem c6H {ks:List Int}(h:1<=ks.length):ks[ks.length-1]?=some (c4c ks):=by
 unfold c4c
 rw [List.getD_eq_getElem?_getD,List.getElem?_eq_getElem (show ks.length-1<ks.length by omega)]
 rfl
theorem c5G {ks:List Int}(h:1<=ks.length)(h2:ks.length<=4194304):cut ks 0 (w64 ((ks.length:Int)-1))=some (ks.take (ks.length-1)):=by
 rw [show w64 ((ks.length:Int)-1)=((ks.length-1:Nat):Int) by rw [K5 (by omega) (by omega)]; omega]
 unfold cut
 rw [if_pos (by omega)]
 simp
theorem d15 (hR:RH t f0 b){e:Ent}(ha:∀ x∈e.Args,w9 x<b)(hr:w9 e.Result<b)(he:eOK e=true)(hlen:e.Args.length<=4194304){x:Api_TypeNode}(hk:∀ k∈x.Kids,inR t.Nodes.length k=true)(h1:1<=x.Kids.length)(h4:x.Kids.length<=4194304)(f:Nat)(hf:f0+2<=f) :
 W7 f e t x=some (b4q (J6 t) e x.Kids):=by
 obtain ⟨f,rfl⟩:∃ m,f=m+1:=⟨f-1,by omega⟩
 rw [b7X] at he
 simp only [Bool.and_eq_true] at he
 have hall:=(c2v hR (ks:=x.Kids.take (x.Kids.length-1)) ha he.1 (fun k hkk=>hk k (List.mem_of_mem_take hkk)) hlen f (by omega)).1
 show a6T f (a5G f) (W7 f) (a0k f) (X9 f) (a3o f) (a3q f) (a2y f) e t x=_
 unfold a6T b4q
 simp only [k8]
 rw [c5G h1 h4]
 simp only [Option.bind_some]
 rw [hall]
 simp only [Option.bind_some,a3N]
 cases b6e (J6 t) e.Args (x.Kids.take (x.Kids.length-1))
 ·rfl
 cases hF:e.Fails
 ·have hl:=c6H h1
  obtain ⟨j,hj,hj2⟩:=a0K (hk _ (List.mem_of_getElem? hl))
  have hv:vOK e.Result=true:=by have:=he.2; rw [hF] at this; simpa using this
  have:=(hR e.Result j f hr hv hj2 (by omega)).1
  rw [<- hj] at this
  have hw:w64 ((x.Kids.length:Int)-1)=((x.Kids.length-1:Nat):Int):=by rw [K5 (by omega) (by omega)]; omega
  simp only [Bool.not_true,Bool.not_false,cond_false,cond_true,Bool.false_or,Bool.true_and]
  rw [hw,y4 hl]
  simp only [Option.bind_some]
  rw [this]
 ·rfl
theorem c6J (hR:RH t f0 b){v:Val}(hv:w9 v<=b)(ho:a6x v.Entries=true)(hb:b<=4194304){x:Api_TypeNode}(hk:∀ k∈x.Kids,inR t.Nodes.length k=true)(h1:1<=x.Kids.length)(h4:x.Kids.length<=4194304)(f:Nat)(hf:f0+3<=f) :
 a0k f v t x=some (c68 (J6 t) v x)/\a0S f v t x=some (c68 (J6 t) v x):=by
 obtain ⟨f,rfl⟩:∃ m,f=m+1:=⟨f-1,by omega⟩
 have hbe:=a3P v
 have hle:=a5r v.Entries
 have hw:w64 ((x.Kids.length:Int)-1)=((x.Kids.length-1:Nat):Int):=by rw [K5 (by omega) (by omega)]; omega
 have ent:∀ e∈v.Entries,(∀ y∈e.Args,w9 y<b)/\w9 e.Result<b/\eOK e=true/\e.Args.length<=4194304:=fun e he=>by
  have hm:=a2a he
  have h2:=a3c e
  have h3:=a6G e.Args
  refine ⟨fun y hy=>by have:=a2D hy; omega,by omega,?_,by omega⟩
  rw [a8w] at ho
  exact List.all_eq_true.1 ho e he
 have l1:z7 (a43 v t x (W7 f)) (v.Entries.length+1) 0=some (if (v.Entries.all fun e=>b4q (J6 t) e x.Kids)=true then .inl () else .inr false):=by
  refine K9 v.Entries (fun e=>b4q (J6 t) e x.Kids) (fun i=>(i:Int)) () false ?_ ?_
  ·intro i e he
   have hi:i<v.Entries.length:=(List.getElem?_eq_some_iff.1 he).1
   obtain ⟨a1,a2,a3,a4⟩:=ent e (List.mem_of_getElem? he)
   unfold a43
   rw [k9 hi,y4 he]
   simp only [cond_true,Option.bind_some,k8]
   rw [d15 hR a1 a2 a3 a4 hk h1 h4 f (by omega),j5 i (by omega)]
   exact a4w _ _
  ·unfold a43
   simp
 have l2:z7 (a2Z v t x (a0s f) (w8 f)) (v.Entries.length+1) 0=some (if (v.Entries.all fun e=>b4q (J6 t) e x.Kids)=true then .inl () else .inr false):=by
  refine K9 v.Entries (fun e=>b4q (J6 t) e x.Kids) (fun i=>(i:Int)) () false ?_ ?_
  ·intro i e he
   have hi:i<v.Entries.length:=(List.getElem?_eq_some_iff.1 he).1
   obtain ⟨a1,a2,a3,a4⟩:=ent e (List.mem_of_getElem? he)
   have a3':=a3
   rw [b7X] at a3'
   simp only [Bool.and_eq_true] at a3'
   have hall:=(c2v hR (ks:=x.Kids.take (x.Kids.length-1)) a1 a3'.1 (fun k hkk=>hk k (List.mem_of_mem_take hkk)) a4 f (by omega)).2
   unfold a2Z
   rw [k9 hi,y4 he]
   simp only [cond_true,Option.bind_some,k8]
   rw [c5G h1 h4]
   simp only [Option.bind_some]
   rw [hall,j5 i (by omega)]
   simp only [Option.bind_some,a3N]
   unfold b4q
   cases b6e (J6 t) e.Args (x.Kids.take (x.Kids.length-1))
   ·rfl
   cases hF:e.Fails
   ·have hl:=c6H h1
    obtain ⟨j,hj,hj2⟩:=a0K (hk _ (List.mem_of_getElem? hl))
    have hv2:vOK e.Result=true:=by have:=a3'.2; rw [hF] at this; simpa using this
    have:=(hR e.Result j f a2 hv2 hj2 (by omega)).2
    rw [<- hj] at this
    simp only [Bool.not_true,Bool.not_false,cond_false,cond_true,Bool.false_or,Bool.true_and]
    rw [hw,y4 hl]
    simp only [Option.bind_some]
    rw [this]
    simp only [Option.bind_some]
    cases J6 t e.Result (c4c x.Kids)<;>rfl
   ·rfl
  ·unfold a2Z
   simp
 unfold c68
 have e0:(v.Int_ != ((x.Kids.length-1:Nat):Int))=!(v.Int_==((x.Kids.length-1:Nat):Int)):=rfl
 constructor
 ·show a7f f (a5G f) (W7 f) (a0k f) (X9 f) (a3o f) (a3q f) (a2y f) v t x=_
  unfold a7f
  simp only [k8]
  rw [hw,w7,l1,e0]
  cases (v.Int_==((x.Kids.length-1:Nat):Int))
  ·rfl
  cases v.Entries.all fun e=>b4q (J6 t) e x.Kids<;>rfl
 ·show a5F f (a0S f) (a03 f) (w8 f) (a0s f) v t x=_
  unfold a5F
  simp only [k8]
  rw [hw,w7,l2,e0]
  cases (v.Int_==((x.Kids.length-1:Nat):Int))
  ·rfl
  cases v.Entries.all fun e=>b4q (J6 t) e x.Kids<;>rfl
theorem d4g {x:Api_TypeNode}{N:Nat}(hf:∀ f∈x.Fields,inR N f.Node=true)(h0:inR N x.Rest.1=true)(h1:inR N x.Rest.2=true)(k:Key):inR N (atM x k)=true:=by
 unfold atM
 cases h:x.Fields.find? fun f=>Z7 f.Key_ k with
 | some f=>exact hf f (List.mem_of_find?_eq_some h)
 | none =>
   simp only
   unfold b1E
   split<;>assumption
theorem c6A (hR:RH t f0 b){v:Val}(hv:w9 v<=b)(ho:a06 v.Kids=true)(hm:b1J v=true)(hb:b<=4194304){x:Api_TypeNode}(hf:∀ f∈x.Fields,inR t.Nodes.length f.Node=true)(h0:inR t.Nodes.length x.Rest.1=true)(h1:inR t.Nodes.length x.Rest.2=true)(h3:x.Fields.length<=4194304)(f:Nat)(hff:f0+1<=f) :
 a2y f v t x=some (c4h (J6 t) v x)/\a03 f v t x=some (c4h (J6 t) v x):=by
 obtain ⟨f,rfl⟩:∃ m,f=m+1:=⟨f-1,by omega⟩
 have hbe:=a3P v
 have hkl:=a7d v.Keys
 unfold b1J at hm
 simp only [Bool.and_eq_true] at hm
 have hlen:v.Keys.length=v.Kids.length:=by simpa using hm.1
 have hz:(v.Keys.zip v.Kids).length=v.Keys.length:=by rw [List.length_zip]; omega
 have a1:z7 (a7F v x) (x.Fields.length+1) 0=some (if (x.Fields.all fun f=>f.Optional||v.Keys.any fun y=>Z7 y f.Key_)=true then .inl () else .inr false):=by
  refine K9 x.Fields (fun f=>f.Optional||v.Keys.any fun y=>Z7 y f.Key_) (fun i=>(i:Int)) () false ?_ ?_
  ·intro i g hx
   have hi:i<x.Fields.length:=(List.getElem?_eq_some_iff.1 hx).1
   unfold a7F
   rw [k9 hi,y4 hx]
   simp only [cond_true,Option.bind_some,k8]
   rw [c57 _ _ (by omega),j5 i (by omega)]
   cases g.Optional<;>cases (v.Keys.any fun y=>Z7 y g.Key_)<;>rfl
  ·unfold a7F
   simp
 have a2:z7 (a3p v x) (x.Fields.length+1) 0=some (if (x.Fields.all fun f=>f.Optional||v.Keys.any fun y=>Z7 y f.Key_)=true then .inl () else .inr false):=by
  refine K9 x.Fields (fun f=>f.Optional||v.Keys.any fun y=>Z7 y f.Key_) (fun i=>(i:Int)) () false ?_ ?_
  ·intro i g hx
   have hi:i<x.Fields.length:=(List.getElem?_eq_some_iff.1 hx).1
   obtain ⟨r,e1,e2⟩:=d1E v g.Key_ (by omega)
   unfold a3p
   rw [k9 hi,y4 hx]
   simp only [cond_true,Option.bind_some,k8]
   rw [e1,j5 i (by omega)]
   simp only [Option.bind_some]
   rw [e2]
   cases g.Optional<;>cases (v.Keys.any fun y=>Z7 y g.Key_)<;>rfl
  ·unfold a3p
   simp
 have one:∀ (i:Nat) (p:Key×Val),(v.Keys.zip v.Kids)[i]?=some p->i<v.Keys.length/\idx v.Keys (i:Int)=some p.1/\idx v.Kids (i:Int)=some p.2/\Z8 p.1=true/\X9 f p.2 t (atM x p.1)=some (J6 t p.2 (atM x p.1))/\w8 f p.2 t (atM x p.1)=some (J6 t p.2 (atM x p.1)):=fun i p hp=>by
  obtain ⟨q1,q2⟩:=a4M hp
  have m1:=List.mem_of_getElem? q1
  have m2:=List.mem_of_getElem? q2
  obtain ⟨j,hj,hj2⟩:=a0K (d4g hf h0 h1 p.1)
  have hbm:=a2D m2
  have:=hR p.2 j f (by omega) (d1n ho m2) hj2 (by omega)
  rw [<- hj] at this
  exact ⟨(List.getElem?_eq_some_iff.1 q1).1,y4 q1,y4 q2,List.all_eq_true.1 hm.2.2 _ m1,this⟩
 have b1:=K9 (step:=a5X v t x (X9 f)) (v.Keys.zip v.Kids) (fun p=>J6 t p.2 (atM x p.1)) (fun i=>(i:Int)) () false (fun i p hp=>by
  obtain ⟨h0,h1,h2,h3',h4,_⟩:=one i p hp
  unfold a5X
  rw [k9 h0,h1]
  simp only [cond_true,Option.bind_some,k8]
  rw [h2]
  simp only [Option.bind_some]
  rw [c7Q x p.1 h3 h3']
  simp only [Option.bind_some]
  rw [h4,j5 i (by omega)]
  exact a4w _ _) (by
  unfold a5X
  simp [hz])
 have b2:=K9 (step:=a1X v t x (w8 f)) (v.Keys.zip v.Kids) (fun p=>J6 t p.2 (atM x p.1)) (fun i=>(i:Int)) () false (fun i p hp=>by
  obtain ⟨h0,h1,h2,h3',_,h4⟩:=one i p hp
  unfold a1X
  rw [k9 h0,h1]
  simp only [cond_true,Option.bind_some,k8]
  have hrest:(bif p.1.Kind==0 then some x.Rest.1 else (bif p.1.Kind==1 then some x.Rest.2 else none))=some (b1E x p.1):=by
   unfold b1E
   rcases c45 h3' with h | h
   ·simp [h]
   ·simp [h]
  rw [hrest]
  have hto:∀ {β:Type} (g:Int->Option β),(Option.bind (a2O x p.1) fun r11=>Option.bind (some (b1E x p.1)) fun b13=>Option.bind (bif decide (0<=r11) then (Option.bind (idx x.Fields r11) fun e14=>some e14.Node) else (some b13)) g)=g (atM x p.1):=by
   intro β g
   rcases c8X x p.1 h3 with ⟨i',fl,e1,e2,e3⟩ | ⟨e1,e3⟩
   ·rw [e1]
    simp only [Option.bind_some,c4E,cond_true]
    rw [y4 e2]
    simp only [Option.bind_some,e3]
   ·rw [e1]
    simp only [Option.bind_some,d4S,cond_false,e3]
  rw [hto,h2]
  simp only [Option.bind_some]
  rw [h4,j5 i (by omega)]
  exact a4w _ _) (by
  unfold a1X
  simp [hz])
 rw [hz] at b1 b2
 unfold c4h
 constructor
 ·show b1a f (a5G f) (W7 f) (a0k f) (X9 f) (a3o f) (a3q f) (a2y f) v t x=_
  unfold b1a
  have b1':z7 (a5X v t x (X9 f)) (v.Keys.length+1) 0=_:=b1
  rw [w7,a1,w7,b1']
  cases (x.Fields.all fun f=>f.Optional||v.Keys.any fun y=>Z7 y f.Key_)
  ·rfl
  cases (v.Keys.zip v.Kids).all fun p=>J6 t p.2 (atM x p.1)<;>rfl
 ·show a56 f (a0S f) (a03 f) (w8 f) (a0s f) v t x=_
  unfold a56
  have b2':z7 (a1X v t x (w8 f)) (v.Keys.length+1) 0=_:=b2
  rw [w7,a2,w7,b2']
  cases (x.Fields.all fun f=>f.Optional||v.Keys.any fun y=>Z7 y f.Key_)
  ·rfl
  cases (v.Keys.zip v.Kids).all fun p=>J6 t p.2 (atM x p.1)<;>rfl
end
end Go.Pl
namespace Go.Pl
open Go Go.RowKit Go.Sx Go.Qx
section
variable {t:Api_Type}
theorem GT.ord (hT:GT t){k:Nat}{x:Api_TypeNode}(hx:t.Nodes[k]?=some x)(hb:isB x=true){j:Int}(hj:j∈x.Kids):∃ j':Nat,j=(j':Int)/\k<j'/\j'<t.Nodes.length:=by
 have hg:=hT.nodes k x hx
 obtain ⟨j',e,h1⟩:=a0K (a5m hg.ok j hj)
 have:=hg.ord hb j hj
 exact ⟨j',e,by omega,h1⟩
theorem c2m {N:Nat}{x:Api_TypeNode}(h:V9 N x=true):a3u N x=true:=by
 unfold V9 at h
 simp only [Bool.and_eq_true] at h
 exact h.2.2.2.2
theorem c6R {N:Nat}{x:Api_TypeNode}(h:V9 N x=true):x.Kind=1\/x.Kind=2\/x.Kind=3\/x.Kind=4\/x.Kind=5\/x.Kind=6\/x.Kind=7\/x.Kind=8\/x.Kind=9\/x.Kind=10\/x.Kind=11\/x.Kind=12\/x.Kind=13\/x.Kind=14\/x.Kind=15\/x.Kind=16\/x.Kind=17\/x.Kind=18\/x.Kind=19:=by
 rcases a9l x.Kind with hk | hk
 ·exact hk
 ·have e:∀ n:Int,1<=n->n<=19->¬ x.Kind=n:=fun n h1 h2=>by simpa using hk n h1 h2
  have hn:=c2m h
  unfold a3u at hn
  rw [if_neg (e 3 (by omega) (by omega)),if_neg (e 4 (by omega) (by omega)),if_neg (e 6 (by omega) (by omega)),if_neg (e 19 (by omega) (by omega)),if_neg (by have:=e 1 (by omega) (by omega); have:=e 2 (by omega) (by omega); have:=e 5 (by omega) (by omega); have:=e 7 (by omega) (by omega); have:=e 8 (by omega) (by omega); have:=e 9 (by omega) (by omega); have:=e 11 (by omega) (by omega); have:=e 15 (by omega) (by omega); omega),
   if_neg (e 10 (by omega) (by omega)),if_neg (e 12 (by omega) (by omega)),if_neg (e 14 (by omega) (by omega)),if_neg (by have:=e 16 (by omega) (by omega); have:=e 17 (by omega) (by omega); omega),if_neg (e 18 (by omega) (by omega)),if_neg (e 13 (by omega) (by omega))] at hn
  cases hn
theorem c4T {N:Nat}{x:Api_TypeNode}(h:V9 N x=true)(hk:x.Kind=14):1<=x.Kids.length/\x.Kids.length<=5:=by
 have hn:=c2m h
 unfold a3u at hn
 simp [hk] at hn
 omega
theorem c5W {N:Nat}{x:Api_TypeNode}(h:V9 N x=true)(hk:x.Kind=18):x.Kids.length=1:=by
 have hn:=c2m h
 unfold a3u at hn
 simp [hk] at hn
 omega
theorem c4X {N:Nat}{x:Api_TypeNode}(h:V9 N x=true)(hk:x.Kind=13):(∀ f∈x.Fields,inR N f.Node=true)/\inR N x.Rest.1=true/\inR N x.Rest.2=true:=by
 have hn:=c2m h
 unfold a3u a3f at hn
 simp [hk] at hn
 exact ⟨hn.1.2.2,hn.2.2.1,hn.2.2.2⟩
theorem c3O {v:Val}(h:vOK v=true)(hk:v.Kind=8):b1J v=true:=by
 rw [c5z] at h
 simp only [Bool.and_eq_true] at h
 have:=h.1
 unfold a4b a6J at this
 simp only [Bool.and_eq_true] at this
 have h2:=this.2.2
 simp [hk] at h2
 exact h2
theorem d0R {v:Val}(h:vOK v=true):a06 v.Kids=true/\a6x v.Entries=true:=by
 rw [c5z] at h
 simp only [Bool.and_eq_true] at h
 exact h.2
theorem c6I {α:Type}(p:α->Bool)(l:List α):(!(l.any fun x=>!p x))=l.all p:=by
 rw [Bool.eq_iff_iff]
 simp
theorem d1w (hT:GT t){v:Val}{k:Nat}{x:Api_TypeNode}(hx:t.Nodes[k]?=some x)(ho:vOK v=true)(hb:w9 v<=4194304){f0:Nat}(hR:RH t f0 (w9 v))
 (hB:isB x=true->∀ j∈x.Kids,∀ f,f0<=f->X9 f v t j=some (J6 t v j)/\w8 f v t j=some (J6 t v j)) (f:Nat) (hf:f0+4<=f) :
 X9 f v t (k:Int)=some (unM (J6 t) v x)/\w8 f v t (k:Int)=some (unM (J6 t) v x):=by
 obtain ⟨f,rfl⟩:∃ m,f=m+1:=⟨f-1,by omega⟩
 have hg:=hT.nodes k x hx
 have hn:=hg.ok
 have hk4:=hg.kids
 have hf3:=hg.flds
 have hkr:=a5m hn
 obtain ⟨ho1,ho2⟩:=d0R ho
 have hbe:=a3P v
 have hkl:=a6G v.Kids
 have hll:=a5R v.Labels
 have hall:=c2v hR (l:=v.Kids) (ks:=x.Kids) (fun y hy=>by have:=a2D hy; omega) ho1 hkr (by omega) f (by omega)
 have hlab:=c70 v.Labels x.Text (by omega)
 have hlab2:(Option.bind (z7 (a2p v x) (v.Labels.length+1) 0) fun b30=>j9 (fun _=>some false) (fun y32=>some y32) b30)=some (v.Labels.any fun y=>Y6 y x.Text):=by
  rcases a4B (step:=a2p v x) v.Labels (fun y=>Y6 y x.Text) (fun _ _=>true) (fun i y hy=>by
   have hi:i<v.Labels.length:=(List.getElem?_eq_some_iff.1 hy).1
   unfold a2p
   rw [k9 hi,y4 hy]
   simp only [cond_true,Option.bind_some,k8]
   rw [j5 i (by omega)]
   cases Y6 y x.Text<;>rfl) (by
   unfold a2p
   simp) with ⟨i,y,hy,hp,_,e⟩ | ⟨h,e⟩
  ·rw [e,b2I hy hp]; rfl
  ·rw [e,h]; rfl
 have hbool:isB x=true->Y1 x.Kids (fun z=>a3o f z v t)=some (x.Kids.any (J6 t v))/\(Option.bind (Y1 x.Kids (fun z=>a3q f z v t)) fun r=>some (!r))=some (x.Kids.all (J6 t v)) /\
  (Option.bind (z7 (a2n v t x (w8 f)) (x.Kids.length+1) 0) fun b17=>j9 (fun _=>some false) (fun y19=>some y19) b17)=some (x.Kids.any (J6 t v)) /\
  (Option.bind (z7 (a1j v t x (w8 f)) (x.Kids.length+1) 0) fun b23=>j9 (fun _=>some true) (fun y25=>some y25) b23)=some (x.Kids.all (J6 t v)):=fun hb=>by
  have hB:=hB hb
  obtain ⟨f,rfl⟩:∃ m,f=m+1:=⟨f-1,by omega⟩
  refine ⟨b1C _ _ _ (by omega) fun z hz=>?_,?_,?_,?_⟩
  ·show b2z f (a5G f) (W7 f) (a0k f) (X9 f) (a3o f) (a3q f) (a2y f) z v t=_
   unfold b2z
   rw [(hB z hz f (by omega)).1]
   rfl
  ·rw [b1C _ _ (fun z=>!J6 t v z) (by omega) fun z hz=>?_]
   ·simp only [Option.bind_some]
    rw [c6I]
   ·show b2D f (a5G f) (W7 f) (a0k f) (X9 f) (a3o f) (a3q f) (a2y f) z v t=_
    unfold b2D
    rw [(hB z hz f (by omega)).1]
    rfl
  ·rcases a4B (step:=a2n v t x (w8 (f+1))) x.Kids (J6 t v) (fun _ _=>true) (fun i y hy=>by
    have hi:i<x.Kids.length:=(List.getElem?_eq_some_iff.1 hy).1
    unfold a2n
    rw [k9 hi,y4 hy]
    simp only [cond_true,Option.bind_some,k8]
    rw [(hB y (List.mem_of_getElem? hy) (f+1) (by omega)).2,j5 i (by omega)]
    simp only [Option.bind_some]
    cases J6 t v y<;>rfl) (by
    unfold a2n
    simp) with ⟨i,y,hy,hp,_,e⟩ | ⟨h,e⟩
   ·rw [e,b2I hy hp]; rfl
   ·rw [e,h]; rfl
  ·have l2:=K9 (step:=a1j v t x (w8 (f+1))) x.Kids (J6 t v) (fun i=>(i:Int)) () false (fun i y hy=>by
    have hi:i<x.Kids.length:=(List.getElem?_eq_some_iff.1 hy).1
    unfold a1j
    rw [k9 hi,y4 hy]
    simp only [cond_true,Option.bind_some,k8]
    rw [(hB y (List.mem_of_getElem? hy) (f+1) (by omega)).2,j5 i (by omega)]
    exact a4w _ _) (by
    unfold a1j
    simp)
   have l2':z7 (a1j v t x (w8 (f+1))) (x.Kids.length+1) 0=_:=l2
   rw [l2']
   cases x.Kids.all (J6 t v)<;>rfl
 have hidx:=y4 hx
 constructor
 ·show b6Y f (a5G f) (W7 f) (a0k f) (X9 f) (a3o f) (a3q f) (a2y f) v t (k:Int)=_
  unfold b6Y
  rw [hidx]
  simp only [Option.bind_some,a3N]
  rcases c6R hn with hK | hK | hK | hK | hK | hK | hK | hK | hK | hK | hK | hK | hK | hK | hK | hK | hK | hK | hK<;>unfold unM<;>simp only [hK,Int.reduceBEq,Int.reduceEq,if_true,if_false,cond_true,cond_false,Option.bind_some]
  ·cases v.Kind==1<;>cases decide (x.Lo<=v.Int_)<;>rfl
  ·cases v.Kind==2<;>rfl
  ·rfl
  ·cases v.Kind==3<;>rfl
  ·rfl
  ·rfl
  ·rfl
  ·rw [hall.1]
   cases v.Kind==6<;>rfl
  ·rfl
  ·rw [hall.1]
   cases v.Kind==7<;>rfl
  ·cases hv:v.Kind==8
   ·rfl
   ·obtain ⟨q1,q2,q3⟩:=c4X hn hK
    rw [(c6A hR (Nat.le_refl _) ho1 (c3O ho (by simpa using hv)) hb q1 q2 q3 (by omega) f (by omega)).1]
    rfl
  ·obtain ⟨q1,q2⟩:=c4T hn hK
   rw [(c6J hR (Nat.le_refl _) ho2 hb hkr q1 (by omega) f (by omega)).1]
   cases v.Kind==9<;>rfl
  ·rfl
  ·exact (hbool (by unfold isB; rw [hK]; rfl)).1
  ·exact (hbool (by unfold isB; rw [hK]; rfl)).2.1
  ·have h1:=c5W hn hK
   have ek:=List.getElem?_eq_getElem (show 0<x.Kids.length by omega)
   have e0:idx x.Kids 0=some x.Kids[0]:=y4 ek
   rw [e0]
   simp only [Option.bind_some]
   rw [(hB (by unfold isB; rw [hK]; rfl) _ (List.mem_of_getElem? ek) f (by omega)).1,List.getD_eq_getElem?_getD,ek]
   rfl
  ·exact hlab
 ·show a6w f (a0S f) (a03 f) (w8 f) (a0s f) v t (k:Int)=_
  unfold a6w
  rw [hidx]
  simp only [Option.bind_some,w7]
  rcases c6R hn with hK | hK | hK | hK | hK | hK | hK | hK | hK | hK | hK | hK | hK | hK | hK | hK | hK | hK | hK<;>unfold unM<;>simp only [hK,Int.reduceBEq,Int.reduceEq,if_true,if_false,cond_true,cond_false,Option.bind_some]
  ·cases v.Kind==1<;>cases decide (x.Lo<=v.Int_)<;>rfl
  ·cases v.Kind==2<;>rfl
  ·cases v.Kind==3<;>rfl
  ·rw [hall.2]
   cases v.Kind==6<;>rfl
  ·rw [hall.2]
   cases v.Kind==7<;>rfl
  ·cases hv:v.Kind==8
   ·rfl
   ·obtain ⟨q1,q2,q3⟩:=c4X hn hK
    rw [(c6A hR (Nat.le_refl _) ho1 (c3O ho (by simpa using hv)) hb q1 q2 q3 (by omega) f (by omega)).2]
    rfl
  ·obtain ⟨q1,q2⟩:=c4T hn hK
   rw [(c6J hR (Nat.le_refl _) ho2 hb hkr q1 (by omega) f (by omega)).2]
   cases v.Kind==9<;>rfl
  ·exact (hbool (by unfold isB; rw [hK]; rfl)).2.2.1
  ·exact (hbool (by unfold isB; rw [hK]; rfl)).2.2.2
  ·have h1:=c5W hn hK
   have ek:=List.getElem?_eq_getElem (show 0<x.Kids.length by omega)
   have e0:idx x.Kids 0=some x.Kids[0]:=y4 ek
   rw [e0]
   simp only [Option.bind_some]
   rw [(hB (by unfold isB; rw [hK]; rfl) _ (List.mem_of_getElem? ek) f (by omega)).2,List.getD_eq_getElem?_getD,ek]
   rfl
  ·exact hlab2
theorem c41 (hT:GT t):∀ (m:Nat) (v:Val) (k:Nat) (x:Api_TypeNode),MS v k<=m->vOK v=true->w9 v<=4194304->t.Nodes[k]?=some x ->
 (∀ f,4*MS v k+4<=f->X9 f v t (k:Int)=some (J6 t v (k:Int))/\w8 f v t (k:Int)=some (J6 t v (k:Int)))/\J6 t v (k:Int)=unM (J6 t) v x:=by
 intro m
 induction m with
 | zero=>intro v k x h; have:=b0C v; unfold MS at h; omega
 | succ m ih =>
   intro v k x hm ho hb hx
   have hkN:k<t.Nodes.length:=(List.getElem?_eq_some_iff.1 hx).1
   have hN:=hT.len
   have hR:RH t (4*MS v k) (w9 v):=fun w j f hw hwo hj hf=>by
    have ej:=List.getElem?_eq_getElem hj
    have hlt:MS w j+1<=MS v k:=by unfold MS; omega
    exact (ih w j _ (by omega) hwo (by omega) ej).1 f (by omega)
   have hst:=d1w hT hx ho hb hR (fun hbx j hj f hf=>by
    obtain ⟨j',rfl,h1,h2⟩:=hT.ord hx hbx hj
    have ej:=List.getElem?_eq_getElem h2
    have hlt:MS v j'+1<=MS v k:=by unfold MS; omega
    exact (ih v j' _ (by omega) ho hb ej).1 f (by omega))
   have hmem:J6 t v (k:Int)=unM (J6 t) v x:=by
    have hFU:4*MS v k+4<=FU (w9 v):=by unfold FU MS; omega
    have:=(hst (FU (w9 v)) hFU).2
    unfold J6 at *
    rw [this]
    rfl
   refine ⟨fun f hf=>?_,hmem⟩
   rw [hmem]
   exact hst f hf
theorem d2B (hT:GT t){v:Val}{k:Nat}(ho:vOK v=true)(hb:w9 v<=4194304)(hk:k<t.Nodes.length)(f:Nat)(hf:FU (w9 v)<=f):X9 f v t (k:Int)=some (J6 t v (k:Int)) :=
 ((c41 hT (MS v k) v k _ (Nat.le_refl _) ho hb (List.getElem?_eq_getElem hk)).1 f (by unfold FU at hf; unfold MS; omega)).1
theorem c8i (hT:GT t){v:Val}{k:Nat}(ho:vOK v=true)(hb:w9 v<=4194304)(hk:k<t.Nodes.length)(f:Nat)(hf:FU (w9 v)<=f):w8 f v t (k:Int)=some (J6 t v (k:Int)) :=
 ((c41 hT (MS v k) v k _ (Nat.le_refl _) ho hb (List.getElem?_eq_getElem hk)).1 f (by unfold FU at hf; unfold MS; omega)).2
end
end Go.Pl
namespace Go.Pl
open Go Go.RowKit Go.Sx Go.Qx
section
variable {t:Api_Type}
theorem GT.all (hT:GT t):a7u t.Nodes=true:=List.all_eq_true.2 fun x hx=>by
 obtain ⟨i,hi,rfl⟩:=List.getElem_of_mem hx
 exact (hT.nodes i _ (List.getElem?_eq_getElem hi)).ok
theorem GT.ordT (hT:GT t):c4I t.Nodes:=fun i x hx hb k hk=>(hT.nodes i x hx).ord hb k hk
theorem GT.small (hT:GT t):∀ x∈t.Nodes,x.Kids.length<=1100000/\x.Fields.length<=1100000:=fun x hx=>by
 obtain ⟨i,hi,rfl⟩:=List.getElem_of_mem hx
 have hg:=hT.nodes i _ (List.getElem?_eq_getElem hi)
 have h1:=hg.kids
 have h2:=hg.flds
 omega
theorem wf0 (hT:GT t)(hr:inR t.Nodes.length t.Root=true)(f:Nat)(hf:1100001<=f):a0t f t=some 0:=by
 have hN:=hT.len
 rw [d4e t hT.ordT hT.small (by omega) f (by omega),hT.all,hr]
 rfl
theorem d47 (hT:GT t)(hr:inR t.Nodes.length t.Root=true)(f:Nat)(hf:1100001<=f):a01 f t=some 0:=by
 have hN:=hT.len
 rw [d3A t hT.ordT hT.small (by omega) f hf,hT.all,hr]
 rfl
end
end Go.Pl
end
section
namespace Go.Pl
open Go Go.RowKit Go.Sx Go.Qx
theorem d4r (s0:List Key)(i0 n:Nat)(hn:n<=4194304)(i k:Nat)(s:List Key)(x y:Key)(hl:s.length=n)(hk:i0+k<n)(h1:1<=k)(hi:i<i0+k)(hx:s[i0+k]?=some x)(hy:s[i0+k-1]?=some y) :
 K7 (s0,(i0:Int)) (((i:Int),(k:Int)),s)=some (.next (if Z7 x y=true then (((i:Int),((k+1:Nat):Int)),s) else ((((i+1:Nat):Int),((k+1:Nat):Int)),s.set i x))):=by
 unfold K7
 simp only [X6,k8,Int.toNat_natCast]
 have hdl:(s.drop i0).length=n-i0:=by rw [List.length_drop,hl]
 rw [if_pos (decide_eq_true (by show (k:Int)<(((s.drop i0).length:Nat):Int); rw [hdl]; omega)),j5 i (by omega),j5 k (by omega),a7j k (by omega) h1]
 simp only [Int.toNat_natCast]
 have a1:idx (s.drop i0) (k:Int)=some x:=y4 (by rw [List.getElem?_drop]; exact hx)
 have a2:idx (s.drop i0) ((k-1:Nat):Int)=some y:=y4 (by rw [List.getElem?_drop,show i0+(k-1)=i0+k-1 by omega]; exact hy)
 have a3:idx s (i:Int)=some (s[i]'(by omega)):=y4 (List.getElem?_eq_getElem (by omega))
 rw [a1,a2,a3,hx,show i0+(k-1)=i0+k-1 by omega,hy,List.getElem?_eq_getElem (show i<s.length by omega)]
 simp only [Option.bind_some]
 rw [a9o]
 cases h:Z7 x y<;>simp
theorem c6e (l:List Key)(hl:l.length<=4194304):a1h l=some (a6n Z7 l):=by
 unfold a1h
 by_cases h2:(l.length:Int)<2
 ·have e:decide ((l.length:Int)<2)=true:=by simpa using h2
  rw [e]
  match l,h2 with
  | [],_=>rfl
  | [_],_=>rfl
  | _::_::_,h=>exact absurd h (by simp; omega)
 ·have e:decide ((l.length:Int)<2)=false:=by simpa using h2
  rw [e,w7]
  simp only [cond_false]
  have key:=c3k (r:=Z7) (step:=X4) l (by omega) ?_ ?_ ?_
  ·rcases key with ⟨h,hc⟩ | ⟨q,h⟩
   ·rw [h,hc]; rfl
   ·rw [h]; rfl
  ·intro i x y hi hx hy hr
   have hlt:i<l.length:=(List.getElem?_eq_some_iff.1 hx).1
   unfold X4
   simp only [X6,k8,Int.toNat_natCast]
   rw [if_pos (by simp; omega),a7j i (by omega) hi,y4 hx,y4 hy]
   simp only [Int.toNat_natCast,hx,hy,Option.bind_some]
   rw [a9o,hr,j5 i (by omega)]
   rfl
  ·intro i x y hi hx hy hr
   have hlt:i<l.length:=(List.getElem?_eq_some_iff.1 hx).1
   unfold X4
   simp only [X6,k8,Int.toNat_natCast]
   rw [if_pos (by simp; omega),a7j i (by omega) hi,y4 hx,y4 hy]
   simp only [Int.toNat_natCast,hx,hy,Option.bind_some]
   rw [a9o,hr,if_pos rfl]
   obtain ⟨s',e1,e2,e3⟩:=c3n (r:=Z7) (step:=K7 (l,(i:Int))) i l.length (fun i' k s x y a1 a2 a3 a4 a5 a6=>d4r l i l.length hl i' k s x y a1 a2 a3 a4 a5 a6)
    (fun i' k s a1 a2=>by
      unfold K7
      simp only [Int.toNat_natCast]
      have:decide ((k:Int)<(((s.drop i).length:Nat):Int))=false:=by rw [List.length_drop]; simp; omega
      rw [this]
      rfl) (l.length-(i+1)) i 1 l x ((l.drop i).length+1) rfl (by omega) (Nat.le_refl _) (by omega) (by simpa using hx) (by rw [List.length_drop]; omega)
   have e1':z7 (K7 (l,(i:Int))) ((l.drop i).length+1) (((i:Int),1),l)=_:=e1
   rw [e1']
   simp only [Option.bind_some,<- X6]
   have hd:=c2g (r:=Z7) (l.drop (i+1)) x
   rw [List.length_drop] at hd
   exact c6E (Key.mk 0 (⟨#[]⟩:ByteArray)) _ l.length s' _ e2 (by omega) e3
  ·unfold X4
   simp
theorem c9W (l:List Key)(hl:l.length<=4194304):∃ m,(a6Y l fun z5 z6=>Option.bind (V2 z5 z6) fun r7=>some r7)=some ((),m)/\m.Perm l/\m.Pairwise fun a b=>¬ cK b a<0:=by
 have eg:(fun z5 z6:Key=>Option.bind (V2 z5 z6) fun r7=>some r7)=fun a b=>some (cK a b):=by
  funext a b
  rw [b0l]
  rfl
 rw [eg]
 have hlt:∀ a b:Key,ltB (fun a b:Key=>some (cK a b)) a b=decide (cK a b<0):=fun a b=>rfl
 have hw:Swk (ltB (fun a b:Key=>some (cK a b))) l:=⟨fun x _=>by rw [hlt,b9z]; rfl,fun x _ y _ z _ h1 h2=>by
  rw [hlt] at *
  simp only [decide_eq_true_eq] at *
  exact b3A h1 (by omega),fun x _ y _ z _ h1 h2=>by
  rw [hlt] at *
  simp only [decide_eq_false_iff_not] at *
  have a1:=a3E x y
  have a2:=a3E y z
  have a3:=a3E x z
  have:=b2B z y x (by omega) (by omega)
  omega⟩
 have hok:OkCmp l (fun a b:Key=>some (cK a b)):=⟨by omega,fun x _ y _=>⟨_,rfl⟩,hw⟩
 obtain ⟨h1,h2⟩:=b4n hw
 refine ⟨a7A (ltB fun a b:Key=>some (cK a b)) l,?_,h1,h2.imp fun {a b} h=>?_⟩
 ·unfold a6Y c1S
  rw [if_pos hok]
  rfl
 ·rw [hlt] at h
  simpa using h
def a41 (T:Api_Type)(l:List Int):List Key:=l.flatMap fun k=>((T.Nodes[k.toNat]?).map fun x=>x.Fields.map (·.Key_)).getD []
theorem c3B {T:Api_Type}(hT:GT T)(l:List Int)(hl:l.length<=1000)(hin:l.all (inR T.Nodes.length)=true) :
 ∃ ks,a5i T l=some ks/\ks.length<=3*l.length/\asc cK ks=true/\∀ y,y∈ks↔y∈a41 T l:=by
 have h1:=a2T (σ:=List Key) (step:=a4N T l) l (fun s i=>(s,(i:Int))) (fun s k=>s++((T.Nodes[k.toNat]?).map fun x=>x.Fields.map (·.Key_)).getD []) (fun i s=>s.length<=3*i) (fun s=>s)
  (fun i s k hk hI=>by
    have hi:i<l.length:=(List.getElem?_eq_some_iff.1 hk).1
    have hk2:=List.all_eq_true.1 hin k (List.mem_of_getElem? hk)
    obtain ⟨j,rfl⟩:∃ j:Nat,k=(j:Int):=⟨k.toNat,by unfold inR at hk2; simp at hk2; omega⟩
    have hj:j<T.Nodes.length:=by unfold inR at hk2; simp at hk2; omega
    have e:=List.getElem?_eq_getElem hj
    have hf:=(hT.nodes j _ e).flds
    rw [Int.toNat_natCast,e]
    simp only [Option.map_some,Option.getD_some]
    have h2:=a2T (σ:=List Key) (step:=a4S T.Nodes[j]) T.Nodes[j].Fields (fun s i=>(s,(i:Int))) (fun s f=>s++[f.Key_]) (fun i s'=>s'.length=s.length+i) (fun s=>s)
     (fun i' s' f hf' hI'=>by
       have hi':i'<T.Nodes[j].Fields.length:=(List.getElem?_eq_some_iff.1 hf').1
       refine ⟨?_,by simp only [List.length_append,List.length_cons,List.length_nil]; omega⟩
       unfold a4S
       simp only [k8]
       rw [k9 hi',y4 hf']
       simp only [cond_true,Option.bind_some]
       rw [v7 (by simp only [List.length_cons,List.length_nil]; omega),j5 i' (by omega)]
       rfl) (fun s' _=>by
       unfold a4S
       simp) s (by simp) _ (Nat.le_refl _)
    have hfold:∀ (fs:List Api_Field) (s:List Key),fs.foldl (fun s f=>s++[f.Key_]) s=s++fs.map (·.Key_):=by
     intro fs
     induction fs with
     | nil=>intro s; simp
     | cons f r ih=>intro s; simp [ih]
    rw [hfold] at h2
    refine ⟨?_,by simp only [List.length_append,List.length_map]; omega⟩
    unfold a4N
    simp only [k8]
    rw [k9 hi,y4 hk]
    simp only [cond_true,Option.bind_some]
    rw [y4 e]
    simp only [Option.bind_some,w7]
    have h2':z7 (a4S T.Nodes[j]) (T.Nodes[j].Fields.length+1) (s,0)=_:=h2
    rw [h2',j5 i (by omega)]
    rfl) (fun s _=>by
    unfold a4N
    simp) [] (by simp) _ (Nat.le_refl _)
 have hfold:∀ (l:List Int) (s:List Key),l.foldl (fun s k=>s++((T.Nodes[k.toNat]?).map fun x=>x.Fields.map (·.Key_)).getD []) s=s++a41 T l:=by
  intro l
  induction l with
  | nil=>intro s; simp [a41]
  | cons k r ih=>intro s; simp [ih,a41]
 rw [hfold,List.nil_append] at h1
 have h1':z7 (a4N T l) (l.length+1) ([],0)=some (a41 T l):=h1
 have hlen:∀ l:List Int,l.all (inR T.Nodes.length)=true->(a41 T l).length<=3*l.length:=by
  intro l
  induction l with
  | nil=>intro _; simp [a41]
  | cons k r ih =>
    intro h
    rw [List.all_cons,Bool.and_eq_true] at h
    have:=ih h.2
    obtain ⟨j,rfl⟩:∃ j:Nat,k=(j:Int):=⟨k.toNat,by have:=h.1; unfold inR at this; simp at this; omega⟩
    have hj:j<T.Nodes.length:=by have:=h.1; unfold inR at this; simp at this; omega
    have e:=List.getElem?_eq_getElem hj
    have hf:=(hT.nodes j _ e).flds
    unfold a41 at *
    simp only [List.flatMap_cons,List.length_append,Int.toNat_natCast,e,Option.map_some,Option.getD_some,List.length_map,List.length_cons]
    omega
 have hl2:=hlen l hin
 obtain ⟨m,e1,hp,hs⟩:=c9W (a41 T l) (by omega)
 have hml:=hp.length_eq
 have hsame:(Z7:Key->Key->Bool)=fun x y=>decide (cK x y=0):=by
  funext x y
  rw [Bool.eq_iff_iff]
  rw [a5C]
  simp
 obtain ⟨q1,q2⟩:=c4M (c:=cK) ⟨a3E,b2B,fun a b h=>b6R h⟩ m hs
 refine ⟨a6n Z7 m,?_,?_,by rw [hsame]; exact q1,fun y=>by rw [hsame,q2]; exact hp.mem_iff⟩
 ·unfold a5i
  rw [w7,h1']
  simp only [Option.bind_some]
  rw [e1]
  simp only [Option.bind_some]
  rw [c6e m (by omega)]
  simp only [Option.bind_some]
  unfold a3v
  simp
 ·have:(a6n Z7 m).length<=m.length:=by
   cases m with
   | nil=>exact Nat.le_refl _
   | cons x r =>
     have:=c2g (r:=Z7) r x
     simp only [a6n,List.length_cons]
     omega
  omega
end Go.Pl
end
section
namespace Go.Pl
open Go Go.RowKit Go.Sx Go.Qx
theorem c7Z:CmpOk cI:=⟨fun x y=>by
 rcases a0a x y with ⟨_,h⟩ | ⟨_,h⟩ | ⟨_,h⟩<;>rcases a0a y x with ⟨_,k⟩ | ⟨_,k⟩ | ⟨_,k⟩<;>rw [h,k]<;>omega,
 fun x y z h1 h2=>by
  rcases a0a x y with ⟨_,h⟩ | ⟨_,h⟩ | ⟨_,h⟩<;>rcases a0a y z with ⟨_,k⟩ | ⟨_,k⟩ | ⟨_,k⟩<;>rcases a0a x z with ⟨_,l⟩ | ⟨_,l⟩ | ⟨_,l⟩<;>rw [h] at h1<;>rw [k] at h2<;>rw [l]<;>omega,
 fun _ _ h=>cI0 h⟩
abbrev b6u (x y:Int):Bool:=decide (cI x y=0)
theorem c4l (x y:Int):(x==y)=decide (cI x y=0):=by
 rcases a0a x y with ⟨h,k⟩ | ⟨h,k⟩ | ⟨h,k⟩
 ·rw [k]; simp; omega
 ·rw [k]; simp; omega
 ·rw [k]; simp [h]
theorem d39 (x y:Int):decide (x<y)=decide (cI x y<0):=by
 rcases a0a x y with ⟨h,k⟩ | ⟨h,k⟩ | ⟨h,k⟩
 ·rw [k]; simp [h]
 ·rw [k]; simp; omega
 ·rw [k]; simp [h]
theorem d38 (s0:List Int)(i0 n:Nat)(hn:n<=4194304)(i k:Nat)(s:List Int)(x y:Int)(hl:s.length=n)(hk:i0+k<n)(h1:1<=k)(hi:i<i0+k)(hx:s[i0+k]?=some x)(hy:s[i0+k-1]?=some y) :
 a0m (s0,(i0:Int)) (((i:Int),(k:Int)),s)=some (.next (if b6u x y=true then (((i:Int),((k+1:Nat):Int)),s) else ((((i+1:Nat):Int),((k+1:Nat):Int)),s.set i x))):=by
 unfold a0m
 simp only [X6,k8,Int.toNat_natCast]
 have hdl:(s.drop i0).length=n-i0:=by rw [List.length_drop,hl]
 rw [if_pos (decide_eq_true (by show (k:Int)<(((s.drop i0).length:Nat):Int); rw [hdl]; omega)),j5 i (by omega),j5 k (by omega),a7j k (by omega) h1]
 simp only [Int.toNat_natCast]
 have a1:idx (s.drop i0) (k:Int)=some x:=y4 (by rw [List.getElem?_drop]; exact hx)
 have a2:idx (s.drop i0) ((k-1:Nat):Int)=some y:=y4 (by rw [List.getElem?_drop,show i0+(k-1)=i0+k-1 by omega]; exact hy)
 have a3:idx s (i:Int)=some (s[i]'(by omega)):=y4 (List.getElem?_eq_getElem (by omega))
 rw [a1,a2,a3,hx,show i0+(k-1)=i0+k-1 by omega,hy,List.getElem?_eq_getElem (show i<s.length by omega)]
 simp only [Option.bind_some,bne]
 rw [c4l]
 by_cases h:cI x y=0<;>simp [b6u,h]
theorem c6m (l:List Int)(hl:l.length<=4194304):a3l l=some (a6n b6u l):=by
 unfold a3l
 by_cases h2:(l.length:Int)<2
 ·have e:decide ((l.length:Int)<2)=true:=by simpa using h2
  rw [e]
  match l,h2 with
  | [],_=>rfl
  | [_],_=>rfl
  | _::_::_,h=>exact absurd h (by simp; omega)
 ·have e:decide ((l.length:Int)<2)=false:=by simpa using h2
  rw [e,w7]
  simp only [cond_false]
  have key:=c3k (r:=b6u) (step:=a1b) l (by omega) ?_ ?_ ?_
  ·rcases key with ⟨h,hc⟩ | ⟨q,h⟩
   ·rw [h,hc]; rfl
   ·rw [h]; rfl
  ·intro i x y hi hx hy hr
   have hlt:i<l.length:=(List.getElem?_eq_some_iff.1 hx).1
   unfold a1b
   simp only [X6,k8,Int.toNat_natCast]
   rw [if_pos (by simp; omega),a7j i (by omega) hi,y4 hx,y4 hy]
   simp only [Int.toNat_natCast,hx,hy,Option.bind_some]
   rw [c4l]
   have hr':decide (cI x y=0)=false:=hr
   rw [hr',j5 i (by omega)]
   rfl
  ·intro i x y hi hx hy hr
   have hlt:i<l.length:=(List.getElem?_eq_some_iff.1 hx).1
   unfold a1b
   simp only [X6,k8,Int.toNat_natCast]
   rw [if_pos (by simp; omega),a7j i (by omega) hi,y4 hx,y4 hy]
   simp only [Int.toNat_natCast,hx,hy,Option.bind_some]
   rw [c4l]
   have hr':decide (cI x y=0)=true:=hr
   rw [hr',if_pos rfl]
   obtain ⟨s',e1,e2,e3⟩:=c3n (r:=b6u) (step:=a0m (l,(i:Int))) i l.length (fun i' k s x y a1 a2 a3 a4 a5 a6=>d38 l i l.length hl i' k s x y a1 a2 a3 a4 a5 a6)
    (fun i' k s a1 a2=>by
      unfold a0m
      simp only [Int.toNat_natCast]
      have:decide ((k:Int)<(((s.drop i).length:Nat):Int))=false:=by rw [List.length_drop]; simp; omega
      rw [this]
      rfl) (l.length-(i+1)) i 1 l x ((l.drop i).length+1) rfl (by omega) (Nat.le_refl _) (by omega) (by simpa using hx) (by rw [List.length_drop]; omega)
   have e1':z7 (a0m (l,(i:Int))) ((l.drop i).length+1) (((i:Int),1),l)=_:=e1
   rw [e1']
   simp only [Option.bind_some,<- X6]
   have hd:=c2g (r:=b6u) (l.drop (i+1)) x
   rw [List.length_drop] at hd
   exact c6E (0:Int) _ l.length s' _ e2 (by omega) e3
  ·unfold a1b
   simp
theorem c7X (l:List Int):(l.mergeSort fun x y=>decide (x<=y)).Pairwise fun a b=>¬ cI b a<0:=by
 refine (List.pairwise_mergeSort (le:=fun x y:Int=>decide (x<=y)) (fun a b c h1 h2=>?_) (fun a b=>?_) l).imp fun {a b} h=>?_
 ·simp only [decide_eq_true_eq] at *
  omega
 ·simp only [Bool.or_eq_true,decide_eq_true_eq]
  omega
 ·simp only [decide_eq_true_eq] at h
  rcases a0a b a with ⟨_,k⟩ | ⟨_,k⟩ | ⟨_,k⟩<;>rw [k]<;>omega
def srt (l:List Int):List Int:=l.foldl (a2J cI) []
theorem c1I (l:List Int)(hl:l.length<=4194304):a8b l=some (srt l):=by
 unfold a8b a0o
 rw [v7 (by omega)]
 simp only [Option.bind_some]
 unfold c3c b2j
 have e:decide (l.length<4611686018427387904)=true:=by simp; omega
 rw [e]
 simp only [cond_true,Option.bind_some]
 have hp:=List.mergeSort_perm l fun x y:Int=>decide (x<=y)
 rw [c6m _ (by rw [hp.length_eq]; exact hl)]
 simp only [Option.bind_some]
 unfold a6V
 have:=c6i c7Z hp (c7X l)
 rw [show a6n (fun x y=>decide (cI x y=0))=a6n b6u from rfl] at this
 rw [this]
 simp [srt]
theorem d2f (l:List Int):asc cI (srt l)=true:=(c7c (c:=cI) c7Z l).1
theorem c6r (l:List Int)(y:Int):y∈srt l↔y∈l:=(c7c (c:=cI) c7Z l).2 y
theorem b9e (l:List Int):srt (srt l)=srt l:=c91 c7Z (d2f l)
theorem c2W (l:List Int):(srt l).length<=l.length:=by
 have key:∀ (l out:List Int),(l.foldl (a2J cI) out).length<=out.length+l.length:=by
  intro l
  induction l with
  | nil=>intro out; simp
  | cons x r ih =>
    intro out
    have h1:=ih (a2J cI out x)
    have h2:=c0Y cI out x
    simp only [List.foldl_cons,List.length_cons]
    omega
 have:=key l []
 simpa [srt] using this
theorem d1B (out:List Int)(x:Int)(hl:out.length<=4194304):a6p out x=some (a2J cI out x):=by
 unfold a6p
 simp only [w7]
 have p:=c1G (step:=a29 out x) out (fun y=>decide (cI y x<0)) ?_ ?_
 ·have p':z7 (a29 out x) (out.length+1) 0=_:=p
  rw [p']
  simp only [Option.bind_some]
  have hk:=b0Q (fun y=>decide (cI y x<0)) out
  have hat:=c1R (fun y=>decide (cI y x<0)) out
  have go:(Option.bind (cut out 0 ((out.takeWhile (fun y=>decide (cI y x<0))).length:Int)) fun u=>Option.bind (w5 (0+u.length) 8) fun _ =>
   Option.bind (w5 (u.length+[x].length) 8) fun _=>Option.bind (cut out ((out.takeWhile (fun y=>decide (cI y x<0))).length:Int) (out.length:Int)) fun w =>
   Option.bind (w5 ((u++[x]).length+w.length) 8) fun _=>some ((u++[x])++w))=some (a0b (fun y=>decide (cI y x<0)) x out) :=
   c5V out x _ 8 (by omega) hl (fun l=>some l)
  rw [go]
  unfold a2J
  cases hh:(out.dropWhile (fun y=>decide (cI y x<0))).head? with
  | none =>
    rw [hh] at hat
    have hge:=List.getElem?_eq_none_iff.1 hat
    have:decide (((out.takeWhile (fun y=>decide (cI y x<0))).length:Int)<(out.length:Int))=false:=by simp; omega
    rw [this]
    rfl
  | some y =>
    rw [hh] at hat
    have hlt2:=(List.getElem?_eq_some_iff.1 hat).1
    have:decide (((out.takeWhile (fun y=>decide (cI y x<0))).length:Int)<(out.length:Int))=true:=by simp; omega
    rw [this,y4 hat]
    simp only [cond_true,Option.bind_some,c4l]
    by_cases h0:cI y x=0<;>simp [h0]
 ·intro j y hy
  have hj:j<out.length:=(List.getElem?_eq_some_iff.1 hy).1
  unfold a29
  simp only [k8]
  rw [show decide ((j:Int)<(out.length:Int))=true from by simp; omega,y4 hy]
  simp only [cond_true,Option.bind_some,j5 j (by omega)]
  rw [d39 y x]
  by_cases h:cI y x<0<;>simp [h]
 ·unfold a29
  simp
theorem c1t (l:List Int)(hl:l.length<=4194304):a4I l=some (srt l):=by
 unfold a4I
 have key:=a2T (σ:=List Int) (step:=a1U l) l (fun s i=>(s,(i:Int))) (a2J cI) (fun i s=>s.length<=i) (fun s=>s)
  ?_ ?_ [] (by simp) _ (Nat.le_refl _)
 ·have e:z7 (a1U l) (l.length+1) (([]:List Int),0)=z7 (a1U l) (l.length+1) (([]:List Int),((0:Nat):Int)):=rfl
  rw [w7,e,key]
  rfl
 ·intro i s x hx hI
  have hi:i<l.length:=(List.getElem?_eq_some_iff.1 hx).1
  refine ⟨?_,?_⟩
  ·unfold a1U
   simp only [k8]
   rw [show decide ((i:Int)<(l.length:Int))=true from by simp; omega,y4 hx]
   simp only [cond_true,Option.bind_some]
   rw [d1B s x (by omega),j5 i (by omega)]
   rfl
  ·have:=c0Y cI s x
   omega
 ·intro s _
  unfold a1U
  simp
end Go.Pl
end
section
namespace Go.Pl
open Go Go.RowKit Go.Sx Go.Qx
abbrev g0 (p q:List Int):Api_Goal:=Api_Goal.mk p q false
theorem b8f {α:Type}{step:Int->Option (Fl Int (Sum Unit Bool))}(xs:List α)(p:α->Bool)(b:Bool)(hst:∀ (i:Nat) (x:α),xs[i]?=some x->step (i:Int)=some (if p x=true then Fl.next ((i+1:Nat):Int) else Fl.done (.inr b)))
 (hend:step (xs.length:Int)=some (.done (.inl ()))):z7 step (xs.length+1) 0=some (if xs.all p=true then .inl () else .inr b) :=
 K9 (step:=step) xs p (fun i=>(i:Int)) () b hst hend
theorem b8t (p q:List Int)(b:Bool)(h1:p.length<=4194304)(h2:q.length<=4194304):a6P (Api_Goal.mk p q b)=some (Api_Goal.mk (srt p) (srt q) b):=by
 unfold a6P
 rw [c1I p h1,c1I q h2]
 rfl
theorem c7C (p q:List Int)(b:Bool)(h1:p.length<=4194304)(h2:q.length<=4194304):a5o (Api_Goal.mk p q b)=some (Api_Goal.mk (srt p) (srt q) b):=by
 unfold a5o
 rw [c1t p h1,c1t q h2]
 rfl
theorem c3I (a b:List Int)(h:a.length<=4194304):a2i a b=some (a==b):=by
 unfold a2i
 by_cases hl:a.length=b.length
 ·have e:((a.length:Int) != (b.length:Int))=false:=by simp [hl]
  rw [e]
  simp only [cond_false,w7]
  have l1:=b8f (step:=a2z a b) (a.zip b) (fun p=>p.1==p.2) false (fun i p hp=>by
   obtain ⟨e1,e2⟩:=a4M hp
   have hi:i<a.length:=(List.getElem?_eq_some_iff.1 e1).1
   unfold a2z
   simp only [k8]
   rw [k9 hi,y4 e1,y4 e2]
   simp only [cond_true,Option.bind_some,bne]
   rw [j5 i (by omega)]
   exact a4w _ _) (by
   unfold a2z
   simp [hl])
  have hz:(a.zip b).length=a.length:=by simp [hl]
  rw [hz] at l1
  rw [l1]
  have key:∀ (a b:List Int),a.length=b.length->((a.zip b).all fun p=>p.1==p.2)=(a==b):=by
   intro a
   induction a with
   | nil=>intro b hb; cases b with
     | nil=>rfl
     | cons=>cases hb
   | cons x a ih =>
     intro b hb
     cases b with
     | nil=>cases hb
     | cons y b =>
       rw [List.zip_cons_cons,List.all_cons,ih b (by simpa using hb)]
       rfl
  rw [key a b hl]
  cases a==b<;>rfl
 ·have e:((a.length:Int) != (b.length:Int))=true:=by simp; omega
  rw [e]
  have:(a==b)=false:=by simp; intro e; exact hl (by rw [e])
  rw [this]; rfl
theorem c8h (a b:Api_Goal)(h1:a.Pos.length<=4194304)(h2:a.Neg.length<=4194304):a3m a b=some (a.Lists==b.Lists&&(a.Pos==b.Pos&&a.Neg==b.Neg)):=by
 unfold a3m
 rw [c3I _ _ h1,c3I _ _ h2]
 cases a.Lists==b.Lists<;>cases a.Pos==b.Pos<;>cases a.Neg==b.Neg<;>rfl
theorem b2Q (l:List Int)(x:Int)(hl:l.length<=4194304):a0J l x=some (l.any fun y=>x==y):=by
 unfold a0J a6l
 rw [w7]
 rcases a4B (step:=a2W l x) l (fun y=>x==y) (fun i _=>(i:Int)) (fun i y hy=>by
  have hi:i<l.length:=(List.getElem?_eq_some_iff.1 hy).1
  unfold a2W
  rw [k9 hi,y4 hy]
  simp only [cond_true,Option.bind_some,k8]
  rw [j5 i (by omega)]
  cases x==y<;>rfl) (by
  unfold a2W
  simp) with ⟨i,y,hy,hp,_,e⟩ | ⟨h,e⟩
 ·rw [e,b2I hy hp]
  simp only [Option.bind_some,j9,c4E]
 ·rw [e,h]
  rfl
def d1m (p q:List Int):Bool:=p.any fun x=>q.any fun y=>x==y
theorem d1I (p q:List Int)(h1:p.length<=4194304)(h2:q.length<=4194304):a8i p q=some (d1m p q):=by
 unfold a8i
 rw [b1C p _ (fun x=>q.any fun y=>x==y) h1 fun x _=>by
  unfold a8W
  simp only [a3N]
  exact b2Q q x h2]
 rfl
theorem a3d {St β:Type}{step:St->Option (Fl St β)}(st:Nat->St)(n:Nat)(r:β)(hs:∀ i,i<n->step (st i)=some (.next (st (i+1))))(he:step (st n)=some (.done r))(k:Nat)(hk:n+1<=k):z7 step k (st 0)=some r:=by
 have key:∀ (m i k:Nat),i+m=n->m+1<=k->z7 step k (st i)=some r:=by
  intro m
  induction m with
  | zero =>
    intro i k h1 h2
    obtain ⟨k,rfl⟩:∃ q,k=q+1:=⟨k-1,by omega⟩
    have e:i=n:=by omega
    subst e
    simp only [z7,he,Option.bind_some]
  | succ m ih =>
    intro i k h1 h2
    obtain ⟨k,rfl⟩:∃ q,k=q+1:=⟨k-1,by omega⟩
    simp only [z7,hs i (by omega),Option.bind_some]
    exact ih (i+1) k (by omega) (by omega)
 exact key n 0 k (by omega) hk
end Go.Pl
end
section
namespace Go.Pl
open Go Go.RowKit Go.Sx Go.Qx
section
variable {T:Api_Type}
def gIn (N:Nat)(g:Api_Goal):Bool:=g.Pos.all (inR N)&&g.Neg.all (inR N)
def gM (T:Api_Type)(v:Val)(g:Api_Goal):Bool:=g.Pos.all (J6 T v)&&g.Neg.all fun k=>!J6 T v k
theorem c2e (g:Api_Goal)(h1:g.Pos.length<=1000000)(h2:g.Neg.length<=1000000):a27 T g=some (gIn T.Nodes.length g):=by
 unfold a27
 rw [v7 (by omega),v7 (by omega)]
 simp only [Option.bind_some,w7]
 have l1:=K9 (step:=a17 T g) (g.Pos++g.Neg) (inR T.Nodes.length) (fun i=>(i:Int)) () false (fun i k hk=>by
  have hi:i<(g.Pos++g.Neg).length:=(List.getElem?_eq_some_iff.1 hk).1
  have hi':=hi
  rw [List.length_append] at hi'
  unfold a17
  simp only [k8]
  rw [k9 hi,y4 hk]
  simp only [cond_true,Option.bind_some]
  rw [b2s,j5 i (by omega)]
  exact a4w _ _) (by
  unfold a17
  simp)
 have l1':z7 (a17 T g) ((g.Pos++g.Neg).length+1) 0=_:=l1
 rw [l1',List.all_append]
 unfold gIn
 cases g.Pos.all (inR T.Nodes.length)&&g.Neg.all (inR T.Nodes.length)<;>rfl
theorem d2D (hT:GT T){v:Val}(ho:vOK v=true)(hb:w9 v<=2097152)(f:Nat)(hf:200000000<=f){k:Int}(hk:inR T.Nodes.length k=true):X9 f v T k=some (J6 T v k)/\w8 f v T k=some (J6 T v k):=by
 obtain ⟨j,rfl⟩:∃ j:Nat,k=(j:Int):=⟨k.toNat,by unfold inR at hk; simp at hk; omega⟩
 have hj:j<T.Nodes.length:=by unfold inR at hk; simp at hk; omega
 have hFU:FU (w9 v)<=f:=by unfold FU; omega
 exact ⟨d2B hT ho (by omega) hj f hFU,c8i hT ho (by omega) hj f hFU⟩
theorem c7G (hT:GT T)(hr:inR T.Nodes.length T.Root=true){v:Val}(ho:vOK v=true)(hb:w9 v<=2097152)(p q:List Int)(hg:gIn T.Nodes.length (g0 p q)=true)(h1:p.length<=1000000)(h2:q.length<=1000000)(f:Nat)(hf:200000000<=f) :
 K6 f v T (g0 p q)=some (gM T v (g0 p q)):=by
 unfold K6
 rw [b2o f v (by omega) (by omega),ho,d47 hT hr f (by omega),c2e (g0 p q) h1 h2,hg]
 have hg':=hg
 unfold gIn at hg'
 simp only [Bool.and_eq_true] at hg'
 simp only [Option.bind_some,beq_self_eq_true,cond_true,a3N]
 unfold a7i
 have l1:=b8f (step:=a3D v T (g0 p q) f) p (J6 T v) false (fun i k hk=>by
  have hi:i<p.length:=(List.getElem?_eq_some_iff.1 hk).1
  unfold a3D
  simp only [k8]
  rw [k9 (show i<(g0 p q).Pos.length from hi),y4 (show (g0 p q).Pos[i]?=some k from hk)]
  simp only [cond_true,Option.bind_some]
  rw [(d2D hT ho hb f hf (List.all_eq_true.1 hg'.1 k (List.mem_of_getElem? hk))).2,j5 i (by omega)]
  exact a4w _ _) (by
  unfold a3D
  simp)
 have l2:=b8f (step:=a3I v T (g0 p q) f) q (fun k=>!J6 T v k) false (fun i k hk=>by
  have hi:i<q.length:=(List.getElem?_eq_some_iff.1 hk).1
  unfold a3I
  simp only [k8]
  rw [k9 (show i<(g0 p q).Neg.length from hi),y4 (show (g0 p q).Neg[i]?=some k from hk)]
  simp only [cond_true,Option.bind_some]
  rw [(d2D hT ho hb f hf (List.all_eq_true.1 hg'.2 k (List.mem_of_getElem? hk))).2,j5 i (by omega)]
  simp only [Option.bind_some]
  cases J6 T v k<;>rfl) (by
  unfold a3I
  simp)
 simp only [w7]
 rw [show (g0 p q).Pos.length=p.length from rfl,l1]
 cases hp:p.all (J6 T v)
 ·simp [gM,hp,j9]
 ·simp only [if_true,Option.bind_some,j9]
  rw [show (g0 p q).Neg.length=q.length from rfl,l2]
  cases hq:q.all fun k=>!J6 T v k
  ·simp [gM,hp,hq,j9]
  ·simp [gM,hp,hq,j9]
theorem d12 (N:Nat)(p q:List Int):gIn N (g0 (srt p) (srt q))=gIn N (g0 p q):=by
 unfold gIn
 have key:∀ (l:List Int) (r:Int->Bool),(srt l).all r=l.all r:=fun l r=>by
  rw [Bool.eq_iff_iff,List.all_eq_true,List.all_eq_true]
  exact ⟨fun h x hx=>h x ((c6r l x).2 hx),fun h x hx=>h x ((c6r l x).1 hx)⟩
 rw [key,key]
end
end Go.Pl
end
section
namespace Go.Pl
open Go Go.RowKit Go.Sx Go.Qx
theorem a7n {σ St τ:Type}{step:St->Option (Fl St τ)}(pack:σ->Int->St)(n:Nat)(I:Nat->σ->Prop)(R:τ->Prop)
 (hst:∀ (j:Nat) (s:σ),j<n->I j s->(∃ s',step (pack s (j:Int))=some (.next (pack s' ((j+1:Nat):Int)))/\I (j+1) s')\/∃ r,step (pack s (j:Int))=some (.done r)/\R r)
 (hend:∀ s,I n s->∃ r,step (pack s (n:Int))=some (.done r)/\R r) (s:σ) (h0:I 0 s):∃ r,z7 step (n+1) (pack s 0)=some r/\R r:=by
 have key:∀ (m j k:Nat) (s:σ),j+m=n->m+1<=k->I j s->∃ r,z7 step k (pack s (j:Int))=some r/\R r:=by
  intro m
  induction m with
  | zero =>
    intro j k s hj hk hI
    obtain ⟨k,rfl⟩:∃ m,k=m+1:=⟨k-1,by omega⟩
    have e:j=n:=by omega
    subst e
    obtain ⟨r,hr,hR⟩:=hend s hI
    exact ⟨r,by simp only [z7,hr,Option.bind_some],hR⟩
  | succ m ih =>
    intro j k s hj hk hI
    obtain ⟨k,rfl⟩:∃ m,k=m+1:=⟨k-1,by omega⟩
    rcases hst j s (by omega) hI with ⟨s',e,hI'⟩ | ⟨r,e,hR⟩
    ·obtain ⟨r,hr,hR⟩:=ih (j+1) k s' (by omega) (by omega) hI'
     refine ⟨r,?_,hR⟩
     simp only [z7,e,Option.bind_some]
     exact hr
    ·exact ⟨r,by simp only [z7,e,Option.bind_some],hR⟩
 exact key n 0 (n+1) s (by omega) (Nat.le_refl _) h0
section
variable {T:Api_Type}
def mpB (T:Api_Type)(k:Int):Bool:=inR T.Nodes.length k&&(match T.Nodes[k.toNat]? with | some x=>x.Kind==13 | none=>false)
theorem d1S {k:Int}(h:mpB T k=true):∃ x,idx T.Nodes k=some x/\x∈T.Nodes/\x.Kind=13/\inR T.Nodes.length k=true:=by
 unfold mpB at h
 simp only [Bool.and_eq_true] at h
 obtain ⟨j,rfl,hj⟩:=a0K h.1
 have e:=List.getElem?_eq_getElem hj
 have h2:=h.2
 rw [Int.toNat_natCast,e] at h2
 exact ⟨_,y4 e,List.getElem_mem hj,by simpa using h2,h.1⟩
theorem d1t {k:Int}(h:inR T.Nodes.length k=true):∃ x,idx T.Nodes k=some x/\x∈T.Nodes:=by
 obtain ⟨j,rfl,hj⟩:=a0K h
 exact ⟨_,y4 (List.getElem?_eq_getElem hj),List.getElem_mem hj⟩
theorem c6M (l:List Int)(hl:l.length<=4194304):a7V T l=some (l.all (mpB T)):=by
 unfold a7V
 rw [b1C l _ (fun k=>!mpB T k) hl fun k _=>?_]
 ·simp only [Option.bind_some]
  rw [c6I]
 ·unfold b1h mpB
  simp only [a3N]
  cases h:inR T.Nodes.length k with
  | true =>
    obtain ⟨j,rfl,hj⟩:=a0K h
    have e:=List.getElem?_eq_getElem hj
    have b1:decide ((j:Int)<0)=false:=by simp
    have b2:decide ((T.Nodes.length:Int)<=(j:Int))=false:=by simp; omega
    rw [b1,b2,y4 e,Int.toNat_natCast,e]
    rfl
  | false =>
    unfold inR at h
    by_cases h0:k<0
    ·rw [decide_eq_true h0]; rfl
    ·have b2:decide ((T.Nodes.length:Int)<=k)=true:=by
      simp at h
      simp
      omega
     rw [decide_eq_false h0,b2]
     rfl
theorem a8H (hT:GT T){x:Api_TypeNode}(hx:x∈T.Nodes)(hK:x.Kind=13):a3f T.Nodes.length x.Fields=true/\inR T.Nodes.length x.Rest.1=true/\inR T.Nodes.length x.Rest.2=true:=by
 have h:=List.all_eq_true.1 hT.all x hx
 unfold V9 at h
 simp only [Bool.and_eq_true] at h
 have hk:=h.2.2.2.2
 unfold a3u at hk
 simp [hK] at hk
 exact ⟨hk.1,hk.2.2.1,hk.2.2.2⟩
theorem a9V (hT:GT T){x:Api_TypeNode}(hx:x∈T.Nodes):x.Fields.length<=3:=by
 obtain ⟨i,hi,rfl⟩:=List.getElem_of_mem hx
 exact (hT.nodes i _ (List.getElem?_eq_getElem hi)).flds
theorem c8r (hT:GT T){x:Api_TypeNode}(hx:x∈T.Nodes)(hK:x.Kind=13){k:Key}(hk:Z8 k=true):∃ a,a7H x k=some a/\inR T.Nodes.length a=true:=by
 have hf:=a9V hT hx
 obtain ⟨h1,h2,h3⟩:=a8H hT hx hK
 refine ⟨_,c7Q x k (by omega) hk,?_⟩
 unfold atM
 cases h:x.Fields.find? (fun f=>Z7 f.Key_ k) with
 | some f =>
   unfold a3f at h1
   simp only [Bool.and_eq_true] at h1
   exact List.all_eq_true.1 h1.2.2 f (List.mem_of_find?_eq_some h)
 | none =>
   show inR _ (b1E x k)=true
   unfold b1E
   split<;>assumption
theorem d3D (x:Api_TypeNode)(k:Key)(hf:x.Fields.length<=4194304):∃ b,a3U x k=some b:=by
 unfold a3U
 rw [w7]
 rcases a4B (step:=a2e x k) x.Fields (fun f=>Z7 f.Key_ k) (fun _ f=>!f.Optional) (fun i f hx=>by
  have hi:i<x.Fields.length:=(List.getElem?_eq_some_iff.1 hx).1
  unfold a2e
  rw [k9 hi,y4 hx]
  simp only [cond_true,Option.bind_some,a9o,k8]
  rw [j5 i (by omega)]
  cases Z7 f.Key_ k<;>rfl) (by
  unfold a2e
  simp) with ⟨i,f,hx,hp,hn,e⟩ | ⟨h,e⟩
 ·rw [e]; exact ⟨_,rfl⟩
 ·rw [e]; exact ⟨_,rfl⟩
def PlB (p:Record_place):Prop:=0<=p.key\/p.kind=0\/p.kind=1
theorem c8e {a:Int}(h:inR T.Nodes.length a=true):∃ b,a1d a T=some b:=by
 obtain ⟨x,e,_⟩:=d1t h
 exact ⟨_,by unfold a1d; rw [e]; rfl⟩
theorem c8G (hT:GT T){x:Api_TypeNode}(hx:x∈T.Nodes)(hK:x.Kind=13)(keys:List Key)(hk:keys.all Z8=true)(hl:keys.length<=36) :
 ∃ ps,a5h T x keys=some ps/\ps.length<=74/\∀ p∈ps,PlB p:=by
 have hf:=a9V hT hx
 obtain ⟨_,hr1,hr2⟩:=a8H hT hx hK
 obtain ⟨r,e1,h1,h2⟩:=a7n (σ:=List Record_place) (step:=a0R T x keys) (fun s i=>(s,i)) keys.length (fun j s=>s.length<=2*j/\∀ p∈s,PlB p) (fun s:List Record_place=>s.length<=2*keys.length/\∀ p∈s,PlB p)
  (fun j s hj hI=>.inl (by
    have e:=List.getElem?_eq_getElem hj
    obtain ⟨a,ea,ha⟩:=c8r hT hx hK (List.all_eq_true.1 hk _ (List.getElem_mem hj))
    obtain ⟨b,eb⟩:=c8e ha
    obtain ⟨q,eq⟩:=d3D x keys[j] (by omega)
    unfold a0R
    simp only [k8]
    rw [k9 hj,y4 e]
    simp only [cond_true,Option.bind_some]
    rw [ea]
    simp only [Option.bind_some]
    rw [eb,eq]
    simp only [Option.bind_some]
    rw [j5 j (by omega)]
    have hP:∀ b',PlB (Record_place.mk (j:Int) b' 0):=fun b'=>.inl (by show (0:Int)<=(j:Int); omega)
    have hadd:∀ (s:List Record_place) (b':Bool),(∀ p∈s,PlB p)->∀ p∈s++[Record_place.mk (j:Int) b' 0],PlB p:=fun s b' hs p hp=>by
     rcases List.mem_append.1 hp with hp | hp
     ·exact hs p hp
     ·rw [List.mem_singleton.1 hp]; exact hP b'
    have hI1:=hI.1
    cases b with
    | true =>
      simp only [Bool.not_true,cond_false,Option.bind_some]
      cases q with
      | true =>
        simp only [cond_true]
        rw [v7 (by simp only [List.length_cons,List.length_nil]; omega)]
        exact ⟨_,rfl,by simp only [List.length_append,List.length_cons,List.length_nil]; omega,hadd _ _ hI.2⟩
      | false=>exact ⟨_,rfl,by omega,hI.2⟩
    | false =>
      simp only [Bool.not_false,cond_true]
      rw [v7 (by simp only [List.length_cons,List.length_nil]; omega)]
      simp only [Option.bind_some]
      cases q with
      | true =>
        simp only [cond_true]
        rw [v7 (by simp only [List.length_append,List.length_cons,List.length_nil]; omega)]
        exact ⟨_,rfl,by simp only [List.length_append,List.length_cons,List.length_nil]; omega,hadd _ _ (hadd _ _ hI.2)⟩
      | false=>exact ⟨_,rfl,by simp only [List.length_append,List.length_cons,List.length_nil]; omega,hadd _ _ hI.2⟩))
  (fun s hI=>⟨s,by
    unfold a0R
    simp,hI⟩) [] ⟨by simp,fun p hp=>by cases hp⟩
 obtain ⟨r2,e2,h3,h4⟩:=a7n (σ:=List Record_place) (step:=a0h T x) (fun s i=>(s,i)) 2 (fun j s=>s.length<=r.length+j/\∀ p∈s,PlB p) (fun s:List Record_place=>s.length<=r.length+2/\∀ p∈s,PlB p)
  (fun j s hj hI=>.inl (by
    have hI1:=hI.1
    have key:∀ (a kd:Int),inR T.Nodes.length a=true->(kd=0\/kd=1)->∃ s',(Option.bind (a1d a T) fun r12=>bif !r12
     then (Option.bind (w5 (s.length+([Record_place.mk (-1) false kd]:List Record_place).length) 24) fun _=>some (Fl.next (s++([Record_place.mk (-1) false kd]:List Record_place),((j+1:Nat):Int))))
     else (some (.next (s,((j+1:Nat):Int))):Option (Fl ((List Record_place)×Int) (List Record_place))))=some (.next (s',((j+1:Nat):Int)))/\s'.length<=r.length+(j+1)/\∀ p∈s',PlB p:=fun a kd ha hkd=>by
     obtain ⟨b,eb⟩:=c8e ha
     rw [eb]
     simp only [Option.bind_some]
     cases b with
     | true=>exact ⟨s,rfl,by omega,hI.2⟩
     | false =>
       simp only [Bool.not_false,cond_true]
       rw [v7 (by simp only [List.length_cons,List.length_nil]; omega)]
       refine ⟨_,rfl,by simp only [List.length_append,List.length_cons,List.length_nil]; omega,fun p hp=>?_⟩
       rcases List.mem_append.1 hp with hp | hp
       ·exact hI.2 p hp
       ·rw [List.mem_singleton.1 hp]; exact .inr hkd
    unfold a0h
    simp only [k8]
    rw [j5 j (by omega)]
    match j,hj with
    | 0,_=>exact key _ 0 hr1 (.inl rfl)
    | 1,_=>exact key _ 1 hr2 (.inr rfl)))
  (fun s hI=>⟨s,by
    unfold a0h
    simp,hI⟩) r ⟨by omega,h2⟩
 refine ⟨r2,?_,by omega,h4⟩
 unfold a5h
 rw [w7]
 have e1':z7 (a0R T x keys) (keys.length+1) ([],0)=some r:=e1
 rw [e1']
 simp only [Option.bind_some]
 have e2':z7 (a0h T x) ((2:Int).toNat+1) (r,0)=some r2:=e2
 rw [e2']
 rfl
variable {L:Api_Line}
end
end Go.Pl
end
section
namespace Go.Pl
open Go Go.RowKit Go.Sx Go.Qx
abbrev Ten:Type:=(List Key)×(List Int)×(List Api_Goal)×(List Int)×(List Int)×Bool×(List Int)×(List Int)×Bool×(List Api_SomeKey)
abbrev ten (k:List Key)(st:List Int)(pa:List Api_Goal)(p0 p1:List Int)(so:List Api_SomeKey):Ten:=(k,st,pa,p0,[],false,p1,[],false,so)
section
variable {T:Api_Type}{L:Api_Line}
theorem c96 (hT:GT T){l:List Int}(hl:l.all (mpB T)=true):∀ y∈a41 T l,Z8 y=true:=fun y hy=>by
 unfold a41 at hy
 obtain ⟨k,hk,hy⟩:=List.mem_flatMap.1 hy
 have hm:=List.all_eq_true.1 hl k hk
 unfold mpB at hm
 simp only [Bool.and_eq_true] at hm
 obtain ⟨j,rfl,hj⟩:=a0K hm.1
 have e:=List.getElem?_eq_getElem hj
 have h2:=hm.2
 rw [Int.toNat_natCast,e] at h2 hy
 simp only [Option.map_some,Option.getD_some,List.mem_map] at hy
 obtain ⟨f,hf,rfl⟩:=hy
 have h1:=(a8H hT (List.getElem_mem hj) (by simpa using h2)).1
 unfold a3f at h1
 simp only [Bool.and_eq_true] at h1
 exact List.all_eq_true.1 h1.2.1 f hf
theorem d4p {l:List Int}(hl:l.all (mpB T)=true):l.all (inR T.Nodes.length)=true:=List.all_eq_true.2 fun k hk=>by
 obtain ⟨_,_,_,_,h⟩:=d1S (List.all_eq_true.1 hl k hk)
 exact h
end
end Go.Pl
end
section
namespace Go.Pl
open Go Go.RowKit Go.Sx Go.Qx
def a9N (x:Api_TypeNode)(k:Key):Bool:=match x.Fields.find? (fun f=>Z7 f.Key_ k) with
 | some f=>!f.Optional
 | none=>false
theorem c8K (x:Api_TypeNode)(k:Key)(hf:x.Fields.length<=4194304):a3U x k=some (a9N x k):=by
 unfold a3U a9N
 rw [w7]
 rcases a4B (step:=a2e x k) x.Fields (fun f=>Z7 f.Key_ k) (fun _ f=>!f.Optional) (fun i f hx=>by
  have hi:i<x.Fields.length:=(List.getElem?_eq_some_iff.1 hx).1
  unfold a2e
  rw [k9 hi,y4 hx]
  simp only [cond_true,Option.bind_some,a9o,k8]
  rw [j5 i (by omega)]
  cases Z7 f.Key_ k<;>rfl) (by
  unfold a2e
  simp) with ⟨i,f,hx,hp,hn,e⟩ | ⟨h,e⟩
 ·rw [e,b1Z hx hp hn]; rfl
 ·rw [e,c3f h]; rfl
def b0T (T:Api_Type)(k:Int):Bool:=decide (0<=k)&&match T.Nodes[k.toNat]? with
 | some x=>x.Kind==2
 | none=>false
def plK (T:Api_Type)(x:Api_TypeNode)(i:Nat)(k:Key):List Record_place:=(if b0T T (atM x k) then [] else [Record_place.mk (i:Int) false 0])++(if a9N x k then [Record_place.mk (i:Int) true 0] else [])
def plR (T:Api_Type)(a kd:Int):List Record_place:=if b0T T a then [] else [Record_place.mk (-1) false kd]
def plZ (T:Api_Type)(x:Api_TypeNode)(keys:List Key):List Record_place:=(keys.zipIdx.flatMap fun p=>plK T x p.2 p.1)++plR T x.Rest.1 0++plR T x.Rest.2 1
section
variable {T:Api_Type}
theorem c8V {a:Int}(h:inR T.Nodes.length a=true):a1d a T=some (b0T T a):=by
 obtain ⟨j,rfl,hj⟩:=a0K h
 unfold a1d b0T
 rw [y4 (List.getElem?_eq_getElem hj),Int.toNat_natCast,List.getElem?_eq_getElem hj,decide_eq_true (show (0:Int)<=(j:Int) by omega)]
 rfl
theorem c38 (hT:GT T){x:Api_TypeNode}(hx:x∈T.Nodes)(hK:x.Kind=13){k:Key}(hk:Z8 k=true):a7H x k=some (atM x k)/\inR T.Nodes.length (atM x k)=true:=by
 obtain ⟨a,e,h⟩:=c8r hT hx hK hk
 have hf:=a9V hT hx
 have e2:=c7Q x k (by omega) hk
 rw [e2] at e
 cases e
 exact ⟨e2,h⟩
theorem c6V (x:Api_TypeNode)(i:Nat)(k:Key):(plK T x i k).length<=2:=by
 unfold plK
 cases b0T T (atM x k)<;>cases a9N x k<;>simp
theorem c8Z (hT:GT T){x:Api_TypeNode}(hx:x∈T.Nodes)(hK:x.Kind=13)(keys:List Key)(hk:keys.all Z8=true)(hl:keys.length<=36) :
 a5h T x keys=some (plZ T x keys):=by
 have hf:=a9V hT hx
 obtain ⟨_,hr1,hr2⟩:=a8H hT hx hK
 have h1:=a2T (σ:=List Record_place) (step:=a0R T x keys) keys.zipIdx (fun s i=>(s,(i:Int))) (fun s p=>s++plK T x p.2 p.1) (fun j s=>s.length<=2*j) (fun s=>s)
  (fun j s p hp hI=>by
    have hj:j<keys.length:=by
     have:=(List.getElem?_eq_some_iff.1 hp).1
     rwa [List.length_zipIdx] at this
    have e:=List.getElem?_eq_getElem hj
    have hp2:p=(keys[j],j):=by
     rw [List.getElem?_zipIdx,e] at hp
     simp at hp
     exact hp.symm
    subst hp2
    have hlen:=c6V (T:=T) x j keys[j]
    refine ⟨?_,by simp only [List.length_append]; omega⟩
    obtain ⟨ea,ha⟩:=c38 hT hx hK (List.all_eq_true.1 hk _ (List.getElem_mem hj))
    unfold a0R plK
    simp only [k8]
    rw [k9 hj,y4 e]
    simp only [cond_true,Option.bind_some]
    rw [ea]
    simp only [Option.bind_some]
    rw [c8V ha,c8K x _ (by omega)]
    simp only [Option.bind_some]
    rw [j5 j (by omega)]
    cases b0T T (atM x keys[j]) with
    | true =>
      simp only [Bool.not_true,cond_false,Option.bind_some,if_true,List.nil_append]
      cases a9N x keys[j] with
      | true =>
        simp only [cond_true,if_true]
        rw [v7 (by simp only [List.length_cons,List.length_nil]; omega)]
        rfl
      | false=>simp
    | false =>
      simp only [Bool.not_false,cond_true,Bool.false_eq_true,if_false]
      rw [v7 (by simp only [List.length_cons,List.length_nil]; omega)]
      simp only [Option.bind_some]
      cases a9N x keys[j] with
      | true =>
        simp only [cond_true,if_true]
        rw [v7 (by simp only [List.length_append,List.length_cons,List.length_nil]; omega),List.append_assoc]
        rfl
      | false=>simp) (fun s _=>by
    unfold a0R
    simp) [] (by simp) (keys.length+1) (by rw [List.length_zipIdx]; exact Nat.le_refl _)
 have hfold:∀ (l:List (Key×Nat)) (s:List Record_place),l.foldl (fun s p=>s++plK T x p.2 p.1) s=s++l.flatMap fun p=>plK T x p.2 p.1:=by
  intro l
  induction l with
  | nil=>intro s; simp
  | cons p r ih=>intro s; simp [ih]
 rw [hfold,List.nil_append] at h1
 have h1':z7 (a0R T x keys) (keys.length+1) ([],0)=some (keys.zipIdx.flatMap fun p=>plK T x p.2 p.1):=h1
 have hlen:∀ l:List (Key×Nat),(l.flatMap fun p=>plK T x p.2 p.1).length<=2*l.length:=by
  intro l
  induction l with
  | nil=>simp
  | cons p r ih =>
    have:=c6V (T:=T) x p.2 p.1
    simp only [List.flatMap_cons,List.length_append,List.length_cons]
    omega
 have hl2:=hlen keys.zipIdx
 rw [List.length_zipIdx] at hl2
 generalize hr:(keys.zipIdx.flatMap fun p=>plK T x p.2 p.1)=r at *
 have step:∀ (s:List Record_place) (j:Nat) (a kd:Int),s.length<=100->inR T.Nodes.length a=true->(Option.bind (a1d a T) fun r12=>bif !r12
  then (Option.bind (w5 (s.length+([Record_place.mk (-1) false kd]:List Record_place).length) 24) fun _=>some (Fl.next (s++([Record_place.mk (-1) false kd]:List Record_place),((j+1:Nat):Int))))
  else (some (.next (s,((j+1:Nat):Int))):Option (Fl ((List Record_place)×Int) (List Record_place))))=some (.next (s++plR T a kd,((j+1:Nat):Int))):=fun s j a kd hs ha=>by
  rw [c8V ha]
  unfold plR
  simp only [Option.bind_some]
  cases b0T T a with
  | true=>simp
  | false =>
    simp only [Bool.not_false,cond_true,Bool.false_eq_true,if_false]
    rw [v7 (by simp only [List.length_cons,List.length_nil]; omega)]
    rfl
 have s0:a0h T x (r,0)=some (.next (r++plR T x.Rest.1 0,1)):=step r 0 _ 0 (by omega) hr1
 have hR:∀ a kd,(plR T a kd).length<=1:=fun a kd=>by unfold plR; cases b0T T a<;>simp
 have s1:a0h T x (r++plR T x.Rest.1 0,1)=some (.next (r++plR T x.Rest.1 0++plR T x.Rest.2 1,2)):=step _ 1 _ 1 (by have:=hR x.Rest.1 0; rw [List.length_append]; omega) hr2
 have s2:a0h T x (r++plR T x.Rest.1 0++plR T x.Rest.2 1,2)=some (.done (r++plR T x.Rest.1 0++plR T x.Rest.2 1)):=rfl
 unfold a5h
 rw [w7,h1']
 simp only [Option.bind_some]
 have e2:z7 (a0h T x) ((2:Int).toNat+1) (r,0)=some (r++plR T x.Rest.1 0++plR T x.Rest.2 1):=by
  show z7 (a0h T x) 3 (r,0)=_
  simp only [z7,s0,s1,s2,Option.bind_some]
 rw [e2]
 unfold plZ
 rw [hr]
 rfl
end
end Go.Pl
end
section
namespace Go.Pl
open Go Go.RowKit Go.Sx Go.Qx
abbrev kv (v:Val):List (Key×Val):=v.Keys.zip v.Kids
def a6B (l:List Key)(k:Key):Bool:=l.any fun y=>Z7 y k
def a8g (x:Api_TypeNode)(kd:Int):Int:=if kd=0 then x.Rest.1 else x.Rest.2
theorem a7s {a b:Key}:Z7 a b=true↔a=b:=⟨fun h=>b6R ((a5C a b).1 h),fun h=>by rw [h]; exact (a5C b b).2 (b9z b)⟩
theorem b2u {l:List Key}{k:Key}:a6B l k=true↔k∈l:=by
 unfold a6B
 rw [List.any_eq_true]
 exact ⟨fun ⟨y,h1,h2⟩=>by rw [a7s.1 h2] at h1; exact h1,fun h=>⟨k,h,a7s.2 rfl⟩⟩
theorem d1q {T:Api_Type}{x:Api_TypeNode}{i:Nat}{k:Key}{p:Record_place}:p∈plK T x i k↔(b0T T (atM x k)=false/\p=Record_place.mk (i:Int) false 0)\/(a9N x k=true/\p=Record_place.mk (i:Int) true 0):=by
 unfold plK
 cases b0T T (atM x k)<;>cases a9N x k<;>simp
theorem c6X {T:Api_Type}{a kd:Int}{p:Record_place}:p∈plR T a kd↔b0T T a=false/\p=Record_place.mk (-1) false kd:=by
 unfold plR
 cases b0T T a<;>simp
theorem d2i {T:Api_Type}{x:Api_TypeNode}{keys:List Key}{p:Record_place}:p∈plZ T x keys↔(∃ (i:Nat) (k:Key),keys[i]?=some k/\p∈plK T x i k)\/p∈plR T x.Rest.1 0\/p∈plR T x.Rest.2 1:=by
 unfold plZ
 rw [List.mem_append,List.mem_append,List.mem_flatMap,or_assoc]
 refine or_congr ⟨fun ⟨⟨k,i⟩,h1,h2⟩=>⟨i,k,?_,h2⟩,fun ⟨i,k,h1,h2⟩=>⟨(k,i),?_,h2⟩⟩ Iff.rfl
 ·rw [List.mem_zipIdx_iff_getElem?] at h1
  exact h1
 ·rw [List.mem_zipIdx_iff_getElem?]
  exact h1
end Go.Pl
end
section
namespace Go.Pl
open Go Go.RowKit Go.Sx Go.Qx
def ndR (T:Api_Type)(k:Int):Api_TypeNode:=match T.Nodes[k.toNat]? with
 | some x=>x
 | none=>c0T 0 []
theorem a73 {T:Api_Type}{k:Int}(h:mpB T k=true):idx T.Nodes k=some (ndR T k)/\ndR T k∈T.Nodes/\(ndR T k).Kind=13:=by
 unfold mpB at h
 simp only [Bool.and_eq_true] at h
 obtain ⟨j,rfl,hj⟩:=a0K h.1
 have e:=List.getElem?_eq_getElem hj
 have h2:=h.2
 unfold ndR
 rw [Int.toNat_natCast,e] at h2 ⊢
 exact ⟨y4 e,List.getElem_mem hj,by simpa using h2⟩
def b6l (T:Api_Type)(k:Key)(s:Int×List Int)(n:Int):Int×List Int:=(if a9N (ndR T n) k=true then 1 else s.1,s.2++[atM (ndR T n) k])
def b4o (T:Api_Type)(i:Int)(k:Key)(s:Int×Bool×List Int)(p:Record_place×Int):Int×Bool×List Int :=
 if (p.1.key != i)=true then s else if p.1.absent=true then (s.1,true,s.2.2) else (1,s.2.1,s.2.2++[atM (ndR T p.2) k])
def stZ (T:Api_Type)(P N:List Int)(i:Int)(k:Key)(ch:List Record_place):Int×Api_Goal×Bool :=
 let a:=P.foldl (b6l T k) (2,[])
 let b:=(ch.zip N).foldl (b4o T i k) (a.1,false,[])
 if b.2.1=true then (0,Api_Goal.mk [] [] false,b.1==2) else (b.1,Api_Goal.mk (srt a.2) (srt b.2.2) false,!d1m a.2 b.2.2)
theorem c5A (T:Api_Type)(k:Key):∀ (l:List Int) (s:Int×List Int),(l.foldl (b6l T k) s).2.length=s.2.length+l.length
 | [],s=>by simp
 | n::l,s=>by
   rw [List.foldl_cons,c5A T k l]
   simp only [b6l,List.length_append,List.length_cons,List.length_nil]
   omega
theorem c4y (T:Api_Type)(i:Int)(k:Key):∀ (l:List (Record_place×Int)) (s:Int×Bool×List Int),(l.foldl (b4o T i k) s).2.2.length<=s.2.2.length+l.length
 | [],s=>by simp
 | n::l,s=>by
   rw [List.foldl_cons]
   have h:=c4y T i k l (b4o T i k s n)
   have:(b4o T i k s n).2.2.length<=s.2.2.length+1:=by
    unfold b4o
    split
    ·omega
    ·split
     ·show s.2.2.length<=_; omega
     ·simp only [List.length_append,List.length_cons,List.length_nil]; omega
   simp only [List.length_cons]
   omega
section
variable {T:Api_Type}{L:Api_Line}
theorem c7o (hT:GT T)(hp:L.Pos.all (mpB T)=true)(hn:L.Neg.all (mpB T)=true)(hpl:L.Pos.length<=6)(hnl:L.Neg.length<=6)(i:Int){k:Key}(hk:Z8 k=true)(ch:List Record_place)(hc:ch.length=L.Neg.length) :
 a7K T L i k ch=some (stZ T L.Pos L.Neg i k ch):=by
 have h1:=a2T (σ:=Int×List Int) (step:=a31 T L k) L.Pos (fun s i=>(s.1,(i:Int),(s.2,([]:List Int),false))) (b6l T k) (fun j s=>s.2.length=j) (fun s=>(s.1,(s.2,([]:List Int),false)))
  (fun j s n hnn hI=>by
    have hj:j<L.Pos.length:=(List.getElem?_eq_some_iff.1 hnn).1
    obtain ⟨ex,hx,hK⟩:=a73 (List.all_eq_true.1 hp _ (List.mem_of_getElem? hnn))
    refine ⟨?_,by simp only [b6l,List.length_append,List.length_cons,List.length_nil]; omega⟩
    unfold a31 b6l
    simp only [k8]
    rw [k9 hj,y4 hnn]
    simp only [cond_true,Option.bind_some]
    rw [ex]
    simp only [Option.bind_some]
    rw [(c38 hT hx hK hk).1]
    simp only [Option.bind_some]
    rw [v7 (by simp only [List.length_cons,List.length_nil]; omega),c8K _ k (by have:=a9V hT hx; omega),j5 j (by omega)]
    simp only [Option.bind_some]
    cases a9N (ndR T n) k<;>rfl) (fun s _=>by
    unfold a31
    simp) (2,[]) rfl _ (Nat.le_refl _)
 have hal:=c5A T k L.Pos (2,[])
 unfold stZ
 simp only
 generalize L.Pos.foldl (b6l T k) (2,[])=a at *
 have h2:=a2T (σ:=Int×Bool×List Int) (step:=a32 T L i k ch) (ch.zip L.Neg) (fun s j=>(s.1,s.2.1,(j:Int),(a.2,s.2.2,false))) (b4o T i k) (fun j s=>s.2.2.length<=j) (fun s=>(s.1,s.2.1,(a.2,s.2.2,false)))
  (fun j s p hpp hI=>by
    obtain ⟨e1,e2⟩:=a4M hpp
    have hj:j<ch.length:=(List.getElem?_eq_some_iff.1 e1).1
    obtain ⟨ex,hx,hK⟩:=a73 (List.all_eq_true.1 hn _ (List.mem_of_getElem? e2))
    unfold a32 b4o
    simp only [k8]
    rw [k9 hj,y4 e1,Int.toNat_natCast,e1,j5 j (by omega)]
    simp only [cond_true,Option.bind_some]
    cases (p.1.key != i) with
    | true=>exact ⟨by simp,by simp only [if_true]; omega⟩
    | false =>
      simp only [cond_false,Bool.false_eq_true,if_false]
      cases p.1.absent with
      | true=>exact ⟨by simp,by simp only [if_true]; omega⟩
      | false =>
        simp only [cond_false,Bool.false_eq_true,if_false]
        rw [y4 e2]
        simp only [Option.bind_some]
        rw [ex]
        simp only [Option.bind_some]
        rw [(c38 hT hx hK hk).1]
        simp only [Option.bind_some]
        rw [v7 (by simp only [List.length_cons,List.length_nil]; omega)]
        exact ⟨rfl,by simp only [List.length_append,List.length_cons,List.length_nil]; omega⟩) (fun s _=>by
    have hzl:(ch.zip L.Neg).length=ch.length:=by rw [List.length_zip]; omega
    unfold a32
    rw [hzl]
    simp) (a.1,false,[]) (by simp) (ch.length+1) (by rw [List.length_zip]; omega)
 have hbl:=c4y T i k (ch.zip L.Neg) (a.1,false,[])
 rw [List.length_zip] at hbl
 generalize (ch.zip L.Neg).foldl (b4o T i k) (a.1,false,[])=b at *
 unfold a7K
 rw [w7,w7]
 have h1':z7 (a31 T L k) (L.Pos.length+1) (2,0,([],[],false))=some (a.1,(a.2,[],false)):=h1
 rw [h1']
 simp only [Option.bind_some]
 have h2':z7 (a32 T L i k ch) (ch.length+1) (a.1,false,0,(a.2,[],false))=some (b.1,b.2.1,(a.2,b.2.2,false)):=h2
 rw [h2']
 simp only [Option.bind_some]
 simp only [List.length_nil,Nat.zero_add] at hal hbl
 cases b.2.1 with
 | true=>simp
 | false =>
   simp only [cond_false,Bool.false_eq_true,if_false]
   rw [b8t _ _ _ (by omega) (by omega),d1I _ _ (by omega) (by omega)]
   rfl
end
end Go.Pl
end
section
namespace Go.Pl
open Go Go.RowKit Go.Sx Go.Qx
def zsZ (T:Api_Type)(P N:List Int)(keys:List Key)(ch:List Record_place):List (Int×Api_Goal×Bool):=keys.zipIdx.map fun p=>stZ T P N (p.2:Int) p.1 ch
def rsZ (T:Api_Type)(P:List Int)(kd:Int):List Int:=srt (P.map fun n=>a8g (ndR T n) kd)
def soZ (T:Api_Type)(l:List (Record_place×Int)):List Api_SomeKey:=(l.filter fun p=>!decide (0<=p.1.key)).map fun p=>Api_SomeKey.mk p.1.kind (Api_Goal.mk [] [a8g (ndR T p.2) p.1.kind] false)
def a8p (T:Api_Type)(P:List Int)(p:Record_place×Int):Bool:=!decide (0<=p.1.key)&&(rsZ T P p.1.kind).any fun y=>a8g (ndR T p.2) p.1.kind==y
def shZ (T:Api_Type)(P N:List Int)(keys:List Key)(ch:List Record_place):Option Api_Shape :=
 let zs:=zsZ T P N keys ch
 if (zs.all (·.2.2)&&!(ch.zip N).any (a8p T P))=true then some (Api_Shape.mk keys (zs.map (·.1)) (zs.map (·.2.1)) (Api_Goal.mk (rsZ T P 0) (srt []) false,Api_Goal.mk (rsZ T P 1) (srt []) false) (soZ T (ch.zip N))) else none
section
variable {T:Api_Type}{L:Api_Line}
theorem c9i (hT:GT T)(hp:L.Pos.all (mpB T)=true)(hn:L.Neg.all (mpB T)=true)(hpl:L.Pos.length<=6)(hnl:L.Neg.length<=6)(keys:List Key)(hk:keys.all Z8=true)(hkl:keys.length<=36)(ch:List Record_place)(hc:ch.length=L.Neg.length) :
 ∃ r,z7 (a3M T L keys ch) (keys.length+1) (0,ten [] [] [] [] [] [],ten keys [] [] [] [] [])=some r /\
  ((r=.inl (ten [] [] [] [] [] [],ten keys ((zsZ T L.Pos L.Neg keys ch).map (·.1)) ((zsZ T L.Pos L.Neg keys ch).map (·.2.1)) [] [] [])/\(zsZ T L.Pos L.Neg keys ch).all (·.2.2)=true)\/∃ y,r=.inr (false,y)/\(zsZ T L.Pos L.Neg keys ch).all (·.2.2)=false):=by
 have hzl:(zsZ T L.Pos L.Neg keys ch).length=keys.length:=by unfold zsZ; rw [List.length_map,List.length_zipIdx]
 have hz:∀ (j:Nat) (hj:j<keys.length),(zsZ T L.Pos L.Neg keys ch)[j]?=some (stZ T L.Pos L.Neg (j:Int) keys[j] ch):=fun j hj=>by
  unfold zsZ
  rw [List.getElem?_map,List.getElem?_zipIdx,List.getElem?_eq_getElem hj]
  simp
 generalize zsZ T L.Pos L.Neg keys ch=zs at *
 exact a7n (σ:=List Int×List Api_Goal) (step:=a3M T L keys ch) (fun s i=>(i,ten [] [] [] [] [] [],ten keys s.1 s.2 [] [] [])) keys.length
  (fun j s=>s=((zs.take j).map (·.1),(zs.take j).map (·.2.1))/\(zs.take j).all (·.2.2)=true) (fun r=>(r=.inl (ten [] [] [] [] [] [],ten keys (zs.map (·.1)) (zs.map (·.2.1)) [] [] [])/\zs.all (·.2.2)=true)\/∃ y,r=.inr (false,y)/\zs.all (·.2.2)=false)
  (fun j s hj hI=>by
    have e:=List.getElem?_eq_getElem hj
    have ez:=hz j hj
    have er:=c7o hT hp hn hpl hnl (j:Int) (List.all_eq_true.1 hk _ (List.getElem_mem hj)) ch hc
    generalize stZ T L.Pos L.Neg (j:Int) keys[j] ch=z at *
    unfold a3M
    simp only [k8]
    rw [k9 hj,y4 e]
    simp only [cond_true,Option.bind_some]
    rw [er]
    simp only [Option.bind_some]
    obtain ⟨rfl,hall⟩:=hI
    have hlt:(zs.take j).length<=36:=by rw [List.length_take]; omega
    cases hz2:z.2.2 with
    | false =>
      refine .inr ⟨_,rfl,.inr ⟨_,rfl,?_⟩⟩
      rw [Bool.eq_false_iff]
      intro h
      have:=List.all_eq_true.1 h z (List.mem_of_getElem? ez)
      rw [hz2] at this
      cases this
    | true =>
      simp only [Bool.not_true,cond_false]
      rw [v7 (by simp only [List.length_map,List.length_cons,List.length_nil]; omega),v7 (by simp only [List.length_map,List.length_cons,List.length_nil]; omega),j5 j (by omega)]
      refine .inl ⟨((zs.take j).map (·.1)++[z.1],(zs.take j).map (·.2.1)++[z.2.1]),rfl,?_,?_⟩
      ·rw [List.take_add_one,ez]
       simp
      ·rw [List.take_add_one,ez,List.all_append,hall]
       simp [hz2])
  (fun s hI=>by
    obtain ⟨rfl,hall⟩:=hI
    have htk:zs.take keys.length=zs:=by rw [<- hzl,List.take_length]
    rw [htk] at hall ⊢
    exact ⟨.inl (ten [] [] [] [] [] [],ten keys (zs.map (·.1)) (zs.map (·.2.1)) [] [] []),by
     unfold a3M
     simp,.inl ⟨rfl,hall⟩⟩) ([],[]) ⟨by simp,by simp⟩
theorem c9g (hp:L.Pos.all (mpB T)=true)(hpl:L.Pos.length<=6)(k:List Key)(st:List Int)(pa:List Api_Goal) :
 z7 (a3C T L) (L.Pos.length+1) (0,ten k st pa [] [] [])=some (ten k st pa (L.Pos.map fun n=>(ndR T n).Rest.1) (L.Pos.map fun n=>(ndR T n).Rest.2) []):=by
 have h:=a2T (σ:=List Int×List Int) (step:=a3C T L) L.Pos (fun s i=>((i:Int),ten k st pa s.1 s.2 [])) (fun s n=>(s.1++[(ndR T n).Rest.1],s.2++[(ndR T n).Rest.2])) (fun j s=>s.1.length=j/\s.2.length=j) (fun s=>ten k st pa s.1 s.2 [])
  (fun j s n hnn hI=>by
    have hj:j<L.Pos.length:=(List.getElem?_eq_some_iff.1 hnn).1
    obtain ⟨ex,_⟩:=a73 (List.all_eq_true.1 hp _ (List.mem_of_getElem? hnn))
    have h1:=hI.1
    have h2:=hI.2
    refine ⟨?_,by simp only [List.length_append,List.length_cons,List.length_nil]; omega,by simp only [List.length_append,List.length_cons,List.length_nil]; omega⟩
    unfold a3C
    simp only [k8]
    rw [k9 hj,y4 hnn]
    simp only [cond_true,Option.bind_some]
    rw [ex]
    simp only [Option.bind_some]
    rw [v7 (by simp only [List.length_cons,List.length_nil]; omega),v7 (by simp only [List.length_cons,List.length_nil]; omega),j5 j (by omega)]
    rfl) (fun s _=>by
    unfold a3C
    simp) ([],[]) ⟨rfl,rfl⟩ _ (Nat.le_refl _)
 have hf:∀ (l:List Int) (s:List Int×List Int),l.foldl (fun s n=>(s.1++[(ndR T n).Rest.1],s.2++[(ndR T n).Rest.2])) s=(s.1++l.map fun n=>(ndR T n).Rest.1,s.2++l.map fun n=>(ndR T n).Rest.2):=by
  intro l
  induction l with
  | nil=>intro s; simp
  | cons n l ih=>intro s; simp [ih]
 rw [hf] at h
 exact h
theorem c8v (hn:L.Neg.all (mpB T)=true)(hnl:L.Neg.length<=6)(ch:List Record_place)(hc:ch.length=L.Neg.length)(hP:∀ p∈ch,PlB p)(P:List Int)(hPl:P.length<=6)(sh:Api_Shape)(k:List Key)(st:List Int)(pa:List Api_Goal)(b e:List Int)(c f:Bool) :
 ∃ r,z7 (a3F T L ch) (ch.length+1) (0,sh,(k,st,pa,rsZ T P 0,b,c,rsZ T P 1,e,f,[]))=some r /\
  ((r=.inl (sh,(k,st,pa,rsZ T P 0,b,c,rsZ T P 1,e,f,soZ T (ch.zip L.Neg)))/\(ch.zip L.Neg).any (a8p T P)=false)\/∃ y,r=.inr (false,y)/\(ch.zip L.Neg).any (a8p T P)=true):=by
 have hzl:(ch.zip L.Neg).length=ch.length:=by rw [List.length_zip]; omega
 have hrl:∀ kd,(rsZ T P kd).length<=100:=fun kd=>by
  have:=c2W (P.map fun n=>a8g (ndR T n) kd)
  unfold rsZ
  rw [List.length_map] at this
  omega
 exact a7n (σ:=List Api_SomeKey) (step:=a3F T L ch) (fun s i=>(i,sh,(k,st,pa,rsZ T P 0,b,c,rsZ T P 1,e,f,s))) ch.length
  (fun j s=>s=soZ T ((ch.zip L.Neg).take j)/\((ch.zip L.Neg).take j).any (a8p T P)=false)
  (fun r=>(r=.inl (sh,(k,st,pa,rsZ T P 0,b,c,rsZ T P 1,e,f,soZ T (ch.zip L.Neg)))/\(ch.zip L.Neg).any (a8p T P)=false)\/∃ y,r=.inr (false,y)/\(ch.zip L.Neg).any (a8p T P)=true)
  (fun j s hj hI=>by
    have eg:=List.getElem?_eq_getElem hj
    have hj':j<L.Neg.length:=by omega
    obtain ⟨ex,_⟩:=a73 (List.all_eq_true.1 hn _ (List.getElem_mem hj'))
    have ez:(ch.zip L.Neg)[j]?=some (ch[j],L.Neg[j]):=by rw [List.getElem?_zip_eq_some]; exact ⟨eg,List.getElem?_eq_getElem hj'⟩
    obtain ⟨rfl,hbad⟩:=hI
    have hsl:(soZ T ((ch.zip L.Neg).take j)).length<=j:=by
     unfold soZ
     rw [List.length_map]
     exact Nat.le_trans (List.length_filter_le _ _) (by rw [List.length_take]; omega)
    have hnext:∀ z,soZ T ((ch.zip L.Neg).take (j+1))=soZ T ((ch.zip L.Neg).take j)++z↔soZ T [(ch[j],L.Neg[j])]=z:=fun z=>by
     have:soZ T ((ch.zip L.Neg).take (j+1))=soZ T ((ch.zip L.Neg).take j)++soZ T [(ch[j],L.Neg[j])]:=by
      rw [List.take_add_one,ez]
      unfold soZ
      rw [Option.toList_some,List.filter_append,List.map_append]
     rw [this,List.append_cancel_left_eq]
    have hbn:((ch.zip L.Neg).take (j+1)).any (a8p T P)=a8p T P (ch[j],L.Neg[j]):=by
     rw [List.take_add_one,ez,List.any_append,hbad]
     simp
    unfold a3F
    simp only [k8]
    rw [k9 hj,y4 eg]
    simp only [cond_true,Option.bind_some]
    rw [j5 j (by omega),Int.toNat_natCast,eg]
    simp only [Option.bind_some]
    by_cases hk:0<=ch[j].key
    ·rw [decide_eq_true hk]
     refine .inl ⟨_,rfl,?_,?_⟩
     ·have:=(hnext []).2 (by simp [soZ,hk])
      rw [List.append_nil] at this
      exact this.symm
     ·rw [hbn]
      unfold a8p
      rw [decide_eq_true hk]
      rfl
    ·rw [decide_eq_false hk]
     simp only [cond_false]
     rw [y4 (List.getElem?_eq_getElem hj')]
     simp only [Option.bind_some]
     rw [ex]
     simp only [Option.bind_some]
     have hroom:∀ z:Api_SomeKey,w5 ((soZ T ((ch.zip L.Neg).take j)).length+([z]:List Api_SomeKey).length) 64=some ():=fun z=>v7 (by simp only [List.length_cons,List.length_nil]; omega)
     have hso:soZ T ((ch.zip L.Neg).take (j+1))=soZ T ((ch.zip L.Neg).take j)++[Api_SomeKey.mk ch[j].kind (Api_Goal.mk [] [a8g (ndR T L.Neg[j]) ch[j].kind] false)]:=(hnext _).2 (by simp [soZ,hk])
     have hbz:a8p T P (ch[j],L.Neg[j])=(rsZ T P ch[j].kind).any fun y=>a8g (ndR T L.Neg[j]) ch[j].kind==y:=by
      unfold a8p
      simp only [decide_eq_false hk]
      rfl
     have hdone:a8p T P (ch[j],L.Neg[j])=true->(ch.zip L.Neg).any (a8p T P)=true:=fun h=>List.any_eq_true.2 ⟨_,List.mem_of_getElem? ez,h⟩
     rcases (hP _ (List.getElem_mem hj)).resolve_left hk with h0 | h0
     ·rw [h0] at hso hbz ⊢
      have b0:((0:Int)==0)=true:=rfl
      have hr0:a8g (ndR T L.Neg[j]) 0=(ndR T L.Neg[j]).Rest.1:=rfl
      rw [hr0] at hso hbz
      simp only [b0,cond_true,Option.bind_some]
      rw [b2Q _ _ (by have:=hrl 0; omega)]
      simp only [Option.bind_some]
      rw [<- hbz]
      cases hq:a8p T P (ch[j],L.Neg[j]) with
      | true=>exact .inr ⟨_,rfl,.inr ⟨_,rfl,hdone hq⟩⟩
      | false =>
        simp only [cond_false]
        rw [hroom]
        exact .inl ⟨_,rfl,hso.symm,by rw [hbn,hq]⟩
     ·rw [h0] at hso hbz ⊢
      have b0:((1:Int)==0)=false:=rfl
      have b1:((1:Int)==1)=true:=rfl
      have hr0:a8g (ndR T L.Neg[j]) 1=(ndR T L.Neg[j]).Rest.2:=rfl
      rw [hr0] at hso hbz
      simp only [b0,b1,cond_true,cond_false,Option.bind_some]
      rw [b2Q _ _ (by have:=hrl 1; omega)]
      simp only [Option.bind_some]
      rw [<- hbz]
      cases hq:a8p T P (ch[j],L.Neg[j]) with
      | true=>exact .inr ⟨_,rfl,.inr ⟨_,rfl,hdone hq⟩⟩
      | false =>
        simp only [cond_false]
        rw [hroom]
        exact .inl ⟨_,rfl,hso.symm,by rw [hbn,hq]⟩)
  (fun s hI=>by
    obtain ⟨rfl,hbad⟩:=hI
    have htk:(ch.zip L.Neg).take ch.length=ch.zip L.Neg:=by rw [<- hzl,List.take_length]
    rw [htk] at hbad ⊢
    exact ⟨.inl (sh,(k,st,pa,rsZ T P 0,b,c,rsZ T P 1,e,f,soZ T (ch.zip L.Neg))),by
     unfold a3F
     simp,.inl ⟨rfl,hbad⟩⟩) [] ⟨by simp [soZ],by simp⟩
theorem d0d (hT:GT T)(hp:L.Pos.all (mpB T)=true)(hn:L.Neg.all (mpB T)=true)(hpl:L.Pos.length<=6)(hnl:L.Neg.length<=6)(keys:List Key)(hk:keys.all Z8=true)(hkl:keys.length<=36)(ch:List Record_place)(hc:ch.length=L.Neg.length)(hP:∀ p∈ch,PlB p) :
 ∃ r,a9j T L keys ch=some r/\shZ T L.Pos L.Neg keys ch=if r.2=true then some r.1 else none:=by
 unfold a9j
 have hcl:a0o 24 keys=some keys:=by unfold a0o; rw [v7 (by omega)]; rfl
 rw [hcl,w7,w7,w7]
 simp only [Option.bind_some]
 obtain ⟨r,e1,h1⟩:=c9i hT hp hn hpl hnl keys hk hkl ch hc
 have e1':z7 (a3M T L keys ch) (keys.length+1) (0,(([]:List Key),([]:List Int),([]:List Api_Goal),([]:List Int),([]:List Int),false,([]:List Int),([]:List Int),false,([]:List Api_SomeKey)),(keys,[],[],[],[],false,[],[],false,[]))=some r:=e1
 rw [e1']
 simp only [Option.bind_some]
 unfold shZ
 simp only
 rcases h1 with ⟨rfl,hall⟩ | ⟨y,rfl,hall⟩
 ·simp only [j9]
  have e2:=c9g (T:=T) hp hpl keys ((zsZ T L.Pos L.Neg keys ch).map (·.1)) ((zsZ T L.Pos L.Neg keys ch).map (·.2.1))
  have e2':z7 (a3C T L) (L.Pos.length+1) (0,(keys,(zsZ T L.Pos L.Neg keys ch).map (·.1),(zsZ T L.Pos L.Neg keys ch).map (·.2.1),[],[],false,[],[],false,[]))=_:=e2
  rw [e2']
  simp only [Option.bind_some]
  rw [b8t _ [] false (by rw [List.length_map]; omega) (by simp),b8t _ [] false (by rw [List.length_map]; omega) (by simp)]
  simp only [Option.bind_some]
  obtain ⟨r3,e3,h3⟩:=c8v hn hnl ch hc hP L.Pos hpl (Api_Shape.mk [] [] [] (Api_Goal.mk [] [] false,Api_Goal.mk [] [] false) []) keys ((zsZ T L.Pos L.Neg keys ch).map (·.1)) ((zsZ T L.Pos L.Neg keys ch).map (·.2.1)) (srt []) (srt []) false false
  have e3':z7 (a3F T L ch) (ch.length+1) (0,Api_Shape.mk [] [] [] (Api_Goal.mk [] [] false,Api_Goal.mk [] [] false) [],(keys,(zsZ T L.Pos L.Neg keys ch).map (·.1),(zsZ T L.Pos L.Neg keys ch).map (·.2.1),srt (L.Pos.map fun n=>(ndR T n).Rest.1),srt [],false,srt (L.Pos.map fun n=>(ndR T n).Rest.2),srt [],false,[]))=some r3:=e3
  rw [e3']
  simp only [Option.bind_some]
  rcases h3 with ⟨rfl,hb⟩ | ⟨y,rfl,hb⟩
  ·exact ⟨_,rfl,by rw [hall,hb]; rfl⟩
  ·exact ⟨_,rfl,by rw [hall,hb]; rfl⟩
 ·exact ⟨_,rfl,by rw [hall]; rfl⟩
end
end Go.Pl
end
section
namespace Go.Pl
open Go Go.RowKit Go.Sx Go.Qx
def chZ (T:Api_Type)(keys:List Key):List Int->List (List Record_place)
 | []=>[[]]
 | n::r=>(plZ T (ndR T n) keys).flatMap fun p=>(chZ T keys r).map (p::·)
def b0d (T:Api_Type)(P N:List Int)(keys:List Key):List Api_Shape:=(chZ T keys N).filterMap (shZ T P N keys)
section
variable {T:Api_Type}{L:Api_Line}
theorem c3U {α:Type}{l:List α}{j:Nat}{x:α}(h:j<l.length):(l.set j x).take (j+1)=l.take j++[x]:=by
 rw [List.take_add_one,List.getElem?_set_self h,List.take_set,List.set_eq_of_length_le (by rw [List.length_take]; omega)]
 rfl
theorem c80 (hT:GT T)(hp:L.Pos.all (mpB T)=true)(hn:L.Neg.all (mpB T)=true)(hpl:L.Pos.length<=6)(hnl:L.Neg.length<=6)(keys:List Key)(hk:keys.all Z8=true)(hkl:keys.length<=36) :
 ∀ (m j n:Nat) (ch:List Record_place) (out:List Api_Shape),j+m=L.Neg.length->m+1<=n->ch.length=L.Neg.length->(∀ p∈ch,PlB p)->out.length+74^m<=200000000000 ->
  ∃ ch' out',a0G n (j:Int) L T keys ch out ()=some (ch',out')/\ch'.length=L.Neg.length/\(∀ p∈ch',PlB p)/\out'.length<=out.length+74^m/\ch'.take j=ch.take j /\
   out'=out++(chZ T keys (L.Neg.drop j)).filterMap fun c=>shZ T L.Pos L.Neg keys (ch.take j++c):=by
 intro m
 induction m with
 | zero =>
   intro j n ch out hj hn1 hc hP ho
   obtain ⟨n,rfl⟩:∃ m,n=m+1:=⟨n-1,by omega⟩
   obtain ⟨r,er,hr⟩:=d0d hT hp hn hpl hnl keys hk hkl ch hc hP
   show ∃ ch' out',a38 n (a0G n) (j:Int) L T keys ch out ()=some (ch',out')/\_
   unfold a38
   have e:((j:Int)==(L.Neg.length:Int))=true:=by simp; omega
   rw [e,er]
   simp only [cond_true,Option.bind_some]
   have hp0:74^0=1:=rfl
   have hd:L.Neg.drop j=[]:=List.drop_eq_nil_of_le (by omega)
   have hall:((chZ T keys (L.Neg.drop j)).filterMap fun c=>shZ T L.Pos L.Neg keys (ch.take j++c))=(shZ T L.Pos L.Neg keys ch).toList:=by
    rw [hd,show ch.take j=ch from List.take_of_length_le (by omega)]
    simp only [chZ,List.filterMap_cons,List.append_nil,List.filterMap_nil]
    cases shZ T L.Pos L.Neg keys ch<;>rfl
   rw [hall,hr]
   cases hr2:r.2 with
   | true =>
     simp only [cond_true]
     rw [v7 (by simp only [List.length_cons,List.length_nil]; omega)]
     exact ⟨ch,_,rfl,hc,hP,by simp only [List.length_append,List.length_cons,List.length_nil]; omega,rfl,rfl⟩
   | false=>exact ⟨ch,out,rfl,hc,hP,by omega,rfl,by simp⟩
 | succ m ih =>
   intro j n ch out hj hn1 hc hP ho
   obtain ⟨n,rfl⟩:∃ m,n=m+1:=⟨n-1,by omega⟩
   show ∃ ch' out',a38 n (a0G n) (j:Int) L T keys ch out ()=some (ch',out')/\_
   unfold a38
   have e:((j:Int)==(L.Neg.length:Int))=false:=by simp; omega
   have hj':j<L.Neg.length:=by omega
   obtain ⟨ex,hx,hK⟩:=a73 (List.all_eq_true.1 hn _ (List.getElem_mem hj'))
   obtain ⟨ps,eps,hpsl,hps⟩:=c8G hT hx hK keys hk hkl
   have eps2:=c8Z hT hx hK keys hk hkl
   have hpsz:plZ T (ndR T L.Neg[j]) keys=ps:=by rw [eps2] at eps; cases eps; rfl
   rw [e,y4 (List.getElem?_eq_getElem hj')]
   simp only [cond_false,Option.bind_some]
   rw [ex]
   simp only [Option.bind_some]
   rw [eps]
   simp only [Option.bind_some,w7]
   have hpow:74^(m+1)=74*74^m:=by rw [Nat.pow_succ,Nat.mul_comm]
   have hdrop:L.Neg.drop j=L.Neg[j]::L.Neg.drop (j+1):=List.drop_eq_getElem_cons hj'
   obtain ⟨r,er,h1,h2,h3,h4,h5⟩:=a7n (σ:=List Record_place×List Api_Shape) (step:=a3z (j:Int) L T keys ps (a0G n)) (fun s i=>(ps,i,s.1,s.2)) ps.length
    (fun i s=>s.1.length=L.Neg.length/\(∀ p∈s.1,PlB p)/\s.2.length<=out.length+i*74^m/\s.1.take j=ch.take j /\
      s.2=out++(ps.take i).flatMap fun p=>(chZ T keys (L.Neg.drop (j+1))).filterMap fun c=>shZ T L.Pos L.Neg keys (ch.take j++p::c))
    (fun r:(List Record_place)×(List Record_place)×(List Api_Shape)=>r.2.1.length=L.Neg.length/\(∀ p∈r.2.1,PlB p)/\r.2.2.length<=out.length+ps.length*74^m/\r.2.1.take j=ch.take j /\
      r.2.2=out++ps.flatMap fun p=>(chZ T keys (L.Neg.drop (j+1))).filterMap fun c=>shZ T L.Pos L.Neg keys (ch.take j++p::c))
    (fun i s hi hI=>.inl (by
      have ei:=List.getElem?_eq_getElem hi
      have hjc:j<s.1.length:=by rw [hI.1]; exact hj'
      have ej:=List.getElem?_eq_getElem hjc
      have hmul:(i+1)*74^m<=74*74^m:=Nat.mul_le_mul_right _ (by omega)
      have hI3:s.2.length<=out.length+i*74^m:=hI.2.2.1
      have hA:s.2.length+74^m<=out.length+(i+1)*74^m:=by
       rw [Nat.add_mul,Nat.one_mul,<- Nat.add_assoc]
       exact Nat.add_le_add_right hI3 _
      have hB:(i+1)*74^m<=74^(m+1):=by rw [hpow]; exact hmul
      have hC:s.2.length+74^m<=200000000000:=Nat.le_trans hA (Nat.le_trans (Nat.add_le_add_left hB _) ho)
      obtain ⟨ch',out',e1,c1,c2,c3,c4,c5⟩:=ih (j+1) n (s.1.set j ps[i]) s.2 (by omega) (by omega) (by rw [List.length_set]; exact hI.1) (fun p hp=>by
       rcases List.mem_or_eq_of_mem_set hp with hp | rfl
       ·exact hI.2.1 p hp
       ·exact hps _ (List.getElem_mem hi)) hC
      rw [c3U hjc,hI.2.2.2.1] at c4 c5
      refine ⟨(ch',out'),?_,c1,c2,Nat.le_trans c3 hA,?_,?_⟩
      ·unfold a3z
       simp only [k8]
       rw [k9 hi,y4 ei,y4 ej]
       simp only [Int.toNat_natCast,cond_true,Option.bind_some,ei,ej]
       rw [j5 j (by omega),j5 i (by omega),e1]
       rfl
      ·show ch'.take j=_
       have h:ch'.take j=(ch'.take (j+1)).take j:=by rw [List.take_take,Nat.min_eq_left (by omega)]
       have hl:(ch.take j).length=j:=by rw [List.length_take]; omega
       rw [h,c4]
       exact List.take_left' hl
      ·show out'=_
       rw [c5,hI.2.2.2.2,List.take_add_one,ei,Option.toList_some,List.flatMap_append]
       simp only [List.flatMap_cons,List.flatMap_nil,List.append_nil,List.append_assoc,List.singleton_append]))
    (fun s hI=>⟨(ps,s.1,s.2),by
      unfold a3z
      simp,hI.1,hI.2.1,hI.2.2.1,hI.2.2.2.1,by rw [<- List.take_length (l:=ps)]; exact hI.2.2.2.2⟩) (ch,out) ⟨hc,hP,by simp,rfl,by simp⟩
   have er':z7 (a3z (j:Int) L T keys ps (a0G n)) (ps.length+1) (ps,0,ch,out)=some r:=er
   rw [er']
   have hle:ps.length*74^m<=74*74^m:=Nat.mul_le_mul_right _ hpsl
   refine ⟨r.2.1,r.2.2,rfl,h1,h2,Nat.le_trans h3 (Nat.add_le_add_left (by rw [hpow]; exact hle) _),h4,?_⟩
   rw [h5,hdrop]
   simp only [chZ,hpsz]
   rw [List.filterMap_flatMap]
   simp only [List.filterMap_map,Function.comp_def]
end
end Go.Pl
end
section
namespace Go.Pl
open Go Go.RowKit Go.Sx Go.Qx
end Go.Pl
end
section
namespace Go.Pl
open Go Go.RowKit Go.Sx Go.Qx
def isV (i:Int)(p:Record_place×Int):Bool:=p.1.key==i&&!p.1.absent
def isA (i:Int)(p:Record_place×Int):Bool:=p.1.key==i&&p.1.absent
section
variable {T:Api_Type}{k:Key}
theorem b8j:∀ (l:List Int) (s:Int×List Int),l.foldl (b6l T k) s=(if (l.any fun n=>a9N (ndR T n) k)=true then 1 else s.1,s.2++l.map fun n=>atM (ndR T n) k)
 | [],s=>by simp
 | n::l,s=>by
   rw [List.foldl_cons,b8j l]
   unfold b6l
   cases h:a9N (ndR T n) k<;>cases h2:(l.any fun n=>a9N (ndR T n) k)<;>simp [h,h2]
theorem b8b {i:Int}:∀ (l:List (Record_place×Int)) (s:Int×Bool×List Int),l.foldl (b4o T i k) s=(if l.any (isV i)=true then 1 else s.1,s.2.1||l.any (isA i),s.2.2++(l.filter (isV i)).map fun p=>atM (ndR T p.2) k)
 | [],s=>by simp
 | p::l,s=>by
   rw [List.foldl_cons,b8b l]
   unfold b4o
   cases h:(p.1.key==i) with
   | false =>
     have h1:isV i p=false:=by unfold isV; rw [h]; rfl
     have h2:isA i p=false:=by unfold isA; rw [h]; rfl
     have h3:(p.1.key != i)=true:=by unfold bne; rw [h]; rfl
     rw [List.any_cons,List.any_cons,List.filter_cons,h1,h2,h3,Bool.false_or,Bool.false_or]
     rfl
   | true =>
     have h3:(p.1.key != i)=false:=by unfold bne; rw [h]; rfl
     cases ha:p.1.absent with
     | true =>
       have h1:isV i p=false:=by unfold isV; rw [h,ha]; rfl
       have h2:isA i p=true:=by unfold isA; rw [h,ha]; rfl
       rw [List.any_cons,List.any_cons,List.filter_cons,h1,h2,h3,Bool.false_or]
       simp
     | false =>
       have h1:isV i p=true:=by unfold isV; rw [h,ha]; rfl
       have h2:isA i p=false:=by unfold isA; rw [h,ha]; rfl
       rw [List.any_cons,List.any_cons,List.filter_cons,h1,h2,h3,Bool.false_or,Bool.true_or]
       simp
def c2y (T:Api_Type)(v:Val)(k:Key)(st:Int)(g:Api_Goal):Bool:=match (kv v).find? fun q=>Z7 q.1 k with
 | some q=>st != 0&&gM T q.2 g
 | none=>st != 1
end
end Go.Pl
end
section
namespace Go.Pl
open Go Go.RowKit Go.Sx Go.Qx
def a8j (s:Api_Shape)(kd:Int):Api_Goal:=if kd=0 then s.Rest.1 else s.Rest.2
def c1C (T:Api_Type)(v:Val)(s:Api_Shape):Bool :=
 ((s.Keys.zip (s.States.zip s.Parts)).all fun q=>c2y T v q.1 q.2.1 q.2.2)&&(((kv v).all fun q=>a6B s.Keys q.1||gM T q.2 (a8j s q.1.Kind))&&s.Some.all fun w=>(kv v).any fun q=>!a6B s.Keys q.1&&(q.1.Kind==w.Kind&&gM T q.2 w.Goal))
section
variable {T:Api_Type}{v:Val}{keys:List Key}
end
end Go.Pl
end
section
namespace Go.Pl
open Go Go.RowKit Go.Sx Go.Qx
section
variable {T:Api_Type}{v:Val}{keys:List Key}
theorem d1J {x:Api_TypeNode}{p:Record_place}(h:p∈plZ T x keys):p.key<(keys.length:Int)/\PlB p:=by
 rcases d2i.1 h with ⟨i,k,e,hp⟩ | hp
 ·have hi:=(List.getElem?_eq_some_iff.1 e).1
  rcases d1q.1 hp with ⟨_,rfl⟩ | ⟨_,rfl⟩<;>exact ⟨by show (i:Int)<_; omega,.inl (by show (0:Int)<=(i:Int); omega)⟩
 ·rcases hp with hp | hp
  ·rw [(c6X.1 hp).2]; exact ⟨by show (-1:Int)<_; omega,.inr (.inl rfl)⟩
  ·rw [(c6X.1 hp).2]; exact ⟨by show (-1:Int)<_; omega,.inr (.inr rfl)⟩
end
end Go.Pl
end
section
namespace Go.Pl
open Go Go.RowKit Go.Sx Go.Qx
section
variable {T:Api_Type}{L:Api_Line}
theorem c8O (hT:GT T)(hr:inR T.Nodes.length T.Root=true)(hK:L.Kind=8)(hp:L.Pos.all (mpB T)=true)(hq:L.Neg.all (mpB T)=true)(hpl:L.Pos.length<=6)(hnl:L.Neg.length<=6)(n:Nat)(hn:1100001<=n) :
 ∃ ks,asc cK ks=true/\(∀ y,y∈ks↔y∈a41 T (L.Pos++L.Neg))/\ks.length<=36/\ks.all Z8=true/\a3R n T L=some (b0d T L.Pos L.Neg ks,0):=by
 have hall:(L.Pos++L.Neg).all (mpB T)=true:=by rw [List.all_append,hp,hq]; rfl
 have hlen:(L.Pos++L.Neg).length<=12:=by rw [List.length_append]; omega
 obtain ⟨ks,ek,hkl,hks,hkm⟩:=c3B hT (L.Pos++L.Neg) (by omega) (d4p hall)
 have hok:ks.all Z8=true:=List.all_eq_true.2 fun y hy=>c96 hT hall y ((hkm y).1 hy)
 refine ⟨ks,hks,hkm,by omega,hok,?_⟩
 unfold a3R
 have e0:(L.Kind != 8)=false:=by simp [hK]
 rw [e0,wf0 hT hr n hn,c6M L.Pos (by omega),c6M L.Neg (by omega),hp,hq]
 simp only [cond_false,Option.bind_some,bne_self_eq_false,Bool.not_true]
 have hcl:a0o 8 L.Pos=some L.Pos:=by unfold a0o; rw [v7 (by omega)]; rfl
 rw [hcl]
 simp only [Option.bind_some]
 rw [v7 (by omega)]
 simp only [Option.bind_some]
 rw [ek]
 simp only [Option.bind_some]
 have hroom:a6H (L.Neg.length:Int) (L.Neg.length:Int) 24=some L.Neg.length:=by
  unfold a6H
  rw [show (decide (0<=(L.Neg.length:Int))&&decide ((L.Neg.length:Int)<=(L.Neg.length:Int))&&decide ((L.Neg.length:Int)*((24:Nat):Int)<=140737488355328))=true from by simp; omega]
  simp
 rw [hroom]
 simp only [Option.bind_some]
 have hpw:74^L.Neg.length<=74^6:=Nat.pow_le_pow_right (by decide) hnl
 obtain ⟨ch',out',e1,_,_,_,_,e2⟩:=c80 hT hp hq hpl hnl ks hok (by omega) L.Neg.length 0 n (List.replicate L.Neg.length (Record_place.mk 0 false 0)) [] (by omega) (by omega) (by simp) (fun p hp=>.inl (by rw [(List.mem_replicate.1 hp).2]; exact Int.le_refl _)) (by
  have:(74:Nat)^6=164206490176:=by decide
  simp only [List.length_nil]
  omega)
 have e1':a0G n 0 L T ks (List.replicate L.Neg.length (Record_place.mk 0 false 0)) [] ()=some (ch',out'):=e1
 rw [e1',e2]
 simp only [List.take_zero,List.nil_append,List.drop_zero,Option.bind_some]
 rfl
theorem c43 (l:List Key)(k:Key)(hl:l.length<=4194304):(∃ (i:Nat),l[i]?=some k/\(∀ j,j<i->l[j]?≠some k)/\a0f l k=some (i:Int))\/(a6B l k=false/\a0f l k=some (-1)):=by
 unfold a0f
 rw [w7]
 rcases a4B (step:=a3L l k) l (fun y=>Z7 y k) (fun i _=>(i:Int)) (fun i x hx=>by
  have hi:i<l.length:=(List.getElem?_eq_some_iff.1 hx).1
  unfold a3L
  rw [k9 hi,y4 hx]
  simp only [cond_true,Option.bind_some,a9o,k8]
  rw [j5 i (by omega)]
  cases Z7 x k<;>rfl) (by
  unfold a3L
  simp) with ⟨i,x,hx,hp,hn,e⟩ | ⟨h,e⟩
 ·refine .inl ⟨i,by rw [hx,a7s.1 hp],fun j hj h=>?_,by rw [e]; rfl⟩
  have:=hn j hj k h
  rw [a7s.2 rfl] at this
  cases this
 ·exact .inr ⟨h,by rw [e]; rfl⟩
end
end Go.Pl
end
section
namespace Go.Pl
open Go Go.RowKit Go.Sx Go.Qx
def gG (T:Api_Type)(g:Api_Goal):Prop:=g.Lists=false/\gIn T.Nodes.length g=true/\g.Pos.length<=1000000/\g.Neg.length<=1000000
structure SOk (T:Api_Type)(s:Api_Shape):Prop where
 st:s.States.length=s.Keys.length
 pa:s.Parts.length=s.Keys.length
 few:s.Keys.length<=1000000/\s.Some.length<=1000000
 sts:∀ x∈s.States,x=0\/x=1\/x=2
 parts:∀ g∈s.Parts,gG T g
 rest:gG T s.Rest.1/\gG T s.Rest.2
 some:∀ w∈s.Some,gG T w.Goal
structure MOk (v:Val):Prop where
 len:v.Keys.length=v.Kids.length
 few:v.Keys.length<=1000000
 keys:∀ k∈v.Keys,Z8 k=true
 asc:asc cK v.Keys=true
 ok:∀ u∈v.Kids,vOK u=true/\w9 u<=2097152
section
variable {T:Api_Type}{v:Val}{s:Api_Shape}
theorem b0H (hT:GT T)(hr:inR T.Nodes.length T.Root=true){u:Val}(ho:vOK u=true/\w9 u<=2097152){g:Api_Goal}(hg:gG T g)(n:Nat)(hn:200000000<=n):K6 n u T g=some (gM T u g):=by
 obtain ⟨p,q,l⟩:=g
 obtain ⟨h1,h2,h3,h4⟩:=hg
 have h1:l=false:=h1
 subst h1
 exact c7G hT hr ho.1 ho.2 p q h2 h3 h4 n hn
theorem d2g {k:Key}{j:Nat}(h:MOk v)(hj:v.Keys[j]?=some k)(hn:∀ i,i<j->v.Keys[i]?≠some k):∃ u,v.Kids[j]?=some u/\u∈v.Kids/\(kv v).find? (fun q=>Z7 q.1 k)=some (k,u):=by
 have hl:=(List.getElem?_eq_some_iff.1 hj).1
 have hl2:j<v.Kids.length:=by have:=h.len; omega
 refine ⟨v.Kids[j],List.getElem?_eq_getElem hl2,List.getElem_mem hl2,b1Z (i:=j) (by rw [List.getElem?_zip_eq_some]; exact ⟨hj,List.getElem?_eq_getElem hl2⟩) (a7s.2 rfl) fun i hi y hy=>?_⟩
 obtain ⟨a1,_⟩:=a4M hy
 cases hk:Z7 y.1 k with
 | false=>rfl
 | true=>rw [a7s.1 hk] at a1; exact absurd a1 (hn i hi)
theorem c67 {k:Key}(h:a6B v.Keys k=false):(kv v).find? (fun q=>Z7 q.1 k)=none:=by
 rw [List.find?_eq_none]
 intro q hq hk
 have:=b2u.2 (List.of_mem_zip hq).1
 rw [a7s.1 hk,h] at this
 cases this
theorem d4Y (hT:GT T)(hr:inR T.Nodes.length T.Root=true)(hv:MOk v)(hs:SOk T s)(n:Nat)(hn:200000000<=n) :
 z7 (a1J v T s n) (s.Keys.length+1) 0=some (if ((s.Keys.zip (s.States.zip s.Parts)).all fun q=>c2y T v q.1 q.2.1 q.2.2)=true then .inl () else .inr false):=by
 have hzl:(s.Keys.zip (s.States.zip s.Parts)).length=s.Keys.length:=by have:=hs.st; have:=hs.pa; rw [List.length_zip,List.length_zip]; omega
 have h:=K9 (step:=a1J v T s n) (s.Keys.zip (s.States.zip s.Parts)) (fun q=>c2y T v q.1 q.2.1 q.2.2) (fun i=>(i:Int)) () false (fun i x hx=>by
  obtain ⟨eK,e2⟩:=a4M hx
  obtain ⟨eS,eP⟩:=a4M e2
  have hi:=(List.getElem?_eq_some_iff.1 eK).1
  have hst:=hs.sts _ (List.mem_of_getElem? eS)
  have hg:=hs.parts _ (List.mem_of_getElem? eP)
  obtain ⟨k,st,g⟩:=x
  simp only at eK eS eP hst hg ⊢
  have s1:decide (st<0)=false:=by simp; omega
  have s2:decide (2<st)=false:=by simp; omega
  unfold a1J c2y
  simp only [k8]
  rw [k9 hi,y4 eK]
  simp only [cond_true,Option.bind_some]
  have hf:=hs.few
  have hvf:=hv.few
  rcases c43 v.Keys k (by omega) with ⟨j,hj,hjn,e⟩ | ⟨hno,e⟩
  ·obtain ⟨u,hu,hum,hfind⟩:=d2g hv hj hjn
   have d1:decide ((j:Int)<0)=false:=by simp
   have d2:decide (0<=(j:Int))=true:=by simp
   rw [e,hfind]
   simp only [Option.bind_some]
   rw [y4 eS]
   simp only [Option.bind_some,s1,s2,d1,d2,cond_false,cond_true]
   cases h0:(st==0) with
   | true =>
     have:(st != 0)=false:=by unfold bne; rw [h0]; rfl
     rw [this]
     rfl
   | false =>
     have:(st != 0)=true:=by unfold bne; rw [h0]; rfl
     rw [this]
     simp only [cond_false,Bool.true_and]
     rw [y4 hu]
     simp only [Option.bind_some]
     rw [y4 eP]
     simp only [Option.bind_some]
     rw [b0H hT hr (hv.ok u hum) hg n hn,j5 i (by omega)]
     cases gM T u g<;>rfl
  ·have d1:decide ((-1:Int)<0)=true:=by decide
   have d2:decide (0<=(-1:Int))=false:=by decide
   rw [e,c67 hno]
   simp only [Option.bind_some]
   rw [y4 eS]
   simp only [Option.bind_some,s1,s2,d1,d2,cond_false,cond_true]
   cases h0:(st==1) with
   | true =>
     have:(st != 1)=false:=by unfold bne; rw [h0]; rfl
     rw [this]
     rfl
   | false =>
     have:(st != 1)=true:=by unfold bne; rw [h0]; rfl
     rw [this,j5 i (by omega)]
     rfl) (by
  unfold a1J
  rw [hzl]
  simp)
 rw [hzl] at h
 exact h
theorem b7U (l:List Key)(k:Key)(hl:l.length<=4194304):∃ r,a0f l k=some r/\decide (r<0)=!a6B l k:=by
 rcases c43 l k hl with ⟨i,hi,_,e⟩ | ⟨hno,e⟩
 ·refine ⟨_,e,?_⟩
  rw [b2u.2 (List.mem_of_getElem? hi)]
  simp
 ·exact ⟨_,e,by rw [hno]; rfl⟩
theorem d4O (hT:GT T)(hr:inR T.Nodes.length T.Root=true)(hv:MOk v)(hs:SOk T s)(n:Nat)(hn:200000000<=n) :
 z7 (a1E v T s n) (v.Keys.length+1) 0=some (if ((kv v).all fun q=>a6B s.Keys q.1||gM T q.2 (a8j s q.1.Kind))=true then .inl () else .inr false):=by
 have hzl:(kv v).length=v.Keys.length:=by have:=hv.len; rw [List.length_zip]; omega
 have h:=K9 (step:=a1E v T s n) (kv v) (fun q=>a6B s.Keys q.1||gM T q.2 (a8j s q.1.Kind)) (fun i=>(i:Int)) () false (fun i x hx=>by
  obtain ⟨eK,eU⟩:=a4M hx
  have hi:=(List.getElem?_eq_some_iff.1 eK).1
  have hf:=hs.few
  have hvf:=hv.few
  obtain ⟨r,er,hrn⟩:=b7U s.Keys x.1 (by omega)
  unfold a1E
  simp only [k8]
  rw [k9 hi,y4 eK]
  simp only [cond_true,Option.bind_some]
  rw [er]
  simp only [Option.bind_some]
  rw [hrn,j5 i (by omega)]
  cases hh:a6B s.Keys x.1 with
  | true=>rfl
  | false =>
    simp only [Bool.not_false,cond_true,Bool.false_or]
    rw [y4 eU]
    simp only [Option.bind_some]
    rcases c45 (hv.keys _ (List.mem_of_getElem? eK)) with h0 | h0
    ·have hrg:a8j s x.1.Kind=s.Rest.1:=by unfold a8j; rw [if_pos h0]
     rw [hrg,h0]
     have b0:((0:Int)==0)=true:=rfl
     simp only [b0,cond_true]
     rw [b0H hT hr (hv.ok _ (List.mem_of_getElem? eU)) hs.rest.1 n hn]
     cases gM T x.2 s.Rest.1<;>rfl
    ·have hrg:a8j s x.1.Kind=s.Rest.2:=by unfold a8j; rw [if_neg (by omega)]
     rw [hrg,h0]
     have b0:((1:Int)==0)=false:=rfl
     have b1:((1:Int)==1)=true:=rfl
     simp only [b0,b1,cond_true,cond_false]
     rw [b0H hT hr (hv.ok _ (List.mem_of_getElem? eU)) hs.rest.2 n hn]
     cases gM T x.2 s.Rest.2<;>rfl) (by
  unfold a1E
  rw [hzl]
  simp)
 rw [hzl] at h
 exact h
theorem d42 (hT:GT T)(hr:inR T.Nodes.length T.Root=true)(hv:MOk v)(hs:SOk T s)(n:Nat)(hn:200000000<=n)(j:Nat){w:Api_SomeKey}(hw:s.Some[j]?=some w) :
 z7 (a1D v T s n (j:Int)) (v.Keys.length+1) (false,0)=some ((kv v).any fun q=>!a6B s.Keys q.1&&(q.1.Kind==w.Kind&&gM T q.2 w.Goal)):=by
 have hzl:(kv v).length=v.Keys.length:=by have:=hv.len; rw [List.length_zip]; omega
 have h:=a2T (σ:=Bool) (step:=a1D v T s n (j:Int)) (kv v) (fun b i=>(b,(i:Int))) (fun b q=>b||(!a6B s.Keys q.1&&(q.1.Kind==w.Kind&&gM T q.2 w.Goal))) (fun _ _=>True) (fun b=>b)
  (fun i b x hx _=>by
    obtain ⟨eK,eU⟩:=a4M hx
    have hi:=(List.getElem?_eq_some_iff.1 eK).1
    have hf:=hs.few
    have hvf:=hv.few
    refine ⟨?_,trivial⟩
    obtain ⟨r,er,hrn⟩:=b7U s.Keys x.1 (by omega)
    unfold a1D
    simp only [k8]
    rw [k9 hi,y4 eK,j5 i (by omega)]
    simp only [cond_true,Option.bind_some]
    cases b with
    | true=>rfl
    | false =>
      simp only [cond_false,Bool.false_or]
      rw [er]
      simp only [Option.bind_some]
      rw [hrn]
      cases hh:a6B s.Keys x.1 with
      | true=>rfl
      | false =>
        simp only [Bool.not_false,cond_true,Bool.true_and]
        rw [y4 hw]
        simp only [Option.bind_some]
        cases hk:(x.1.Kind==w.Kind) with
        | false=>rfl
        | true =>
          simp only [cond_true,Bool.true_and]
          rw [y4 eU]
          simp only [Option.bind_some]
          rw [b0H hT hr (hv.ok _ (List.mem_of_getElem? eU)) (hs.some _ (List.mem_of_getElem? hw)) n hn]
          rfl) (fun b _=>by
    unfold a1D
    rw [hzl]
    simp) false trivial (v.Keys.length+1) (by rw [hzl]; exact Nat.le_refl _)
 have hfold:∀ (l:List (Key×Val)) (f:Key×Val->Bool) (b:Bool),l.foldl (fun b q=>b||f q) b=(b||l.any f):=by
  intro l f
  induction l with
  | nil=>intro b; simp
  | cons q l ih=>intro b; rw [List.foldl_cons,ih,List.any_cons,Bool.or_assoc]
 rw [hfold,Bool.false_or] at h
 exact h
theorem c6g (hT:GT T)(hr:inR T.Nodes.length T.Root=true)(hK:v.Kind=8)(hv:MOk v)(hs:SOk T s)(n:Nat)(hn:200000000<=n):a2A n v T s=some (c1C T v s):=by
 have h4:=K9 (step:=a1H v T s n) s.Some (fun w=>(kv v).any fun q=>!a6B s.Keys q.1&&(q.1.Kind==w.Kind&&gM T q.2 w.Goal)) (fun i=>(i:Int)) () false (fun i w hw=>by
  have hi:=(List.getElem?_eq_some_iff.1 hw).1
  have hf:=hs.few
  unfold a1H
  simp only [k8,w7]
  rw [k9 hi]
  simp only [cond_true]
  rw [d42 hT hr hv hs n hn i hw,j5 i (by omega)]
  simp only [Option.bind_some]
  cases (kv v).any fun q=>!a6B s.Keys q.1&&(q.1.Kind==w.Kind&&gM T q.2 w.Goal)<;>rfl) (by
  unfold a1H
  simp)
 have h4':z7 (a1H v T s n) (s.Some.length+1) 0=_:=h4
 unfold a2A c1C
 have e0:(v.Kind != 8)=false:=by simp [hK]
 rw [e0,w7,w7,w7,d4Y hT hr hv hs n hn,d4O hT hr hv hs n hn,h4']
 cases ((s.Keys.zip (s.States.zip s.Parts)).all fun q=>c2y T v q.1 q.2.1 q.2.2) with
 | false=>rfl
 | true =>
   cases ((kv v).all fun q=>a6B s.Keys q.1||gM T q.2 (a8j s q.1.Kind)) with
   | false=>rfl
   | true =>
     cases (s.Some.all fun w=>(kv v).any fun q=>!a6B s.Keys q.1&&(q.1.Kind==w.Kind&&gM T q.2 w.Goal))<;>rfl
end
end Go.Pl
end
section
namespace Go.Pl
open Go Go.RowKit Go.Sx Go.Qx
section
variable {T:Api_Type}{v:Val}{s:Api_Shape}
end
end Go.Pl
end
section
namespace Go.Pl
open Go Go.RowKit Go.Sx Go.Qx
section
variable {T:Api_Type}{keys:List Key}
theorem c5o {p q:List Int}(hp:p.all (inR T.Nodes.length)=true)(hq:q.all (inR T.Nodes.length)=true)(h1:p.length<=1000000)(h2:q.length<=1000000):gG T (Api_Goal.mk (srt p) (srt q) false):=by
 have s1:=c2W p
 have s2:=c2W q
 refine ⟨rfl,?_,by show (srt p).length<=_; omega,by show (srt q).length<=_; omega⟩
 show gIn T.Nodes.length (g0 (srt p) (srt q))=true
 rw [d12]
 unfold gIn
 rw [Bool.and_eq_true]
 exact ⟨hp,hq⟩
theorem c9f (hT:GT T){P N:List Int}(hp:P.all (mpB T)=true)(hn:N.all (mpB T)=true)(hpl:P.length<=6)(hnl:N.length<=6)(i:Int){k:Key}(hk:Z8 k=true)(ch:List Record_place) :
 ((stZ T P N i k ch).1=0\/(stZ T P N i k ch).1=1\/(stZ T P N i k ch).1=2)/\gG T (stZ T P N i k ch).2.1:=by
 unfold stZ
 simp only [b8j,b8b,Bool.false_or,List.nil_append]
 have hat:∀ n,mpB T n=true->inR T.Nodes.length (atM (ndR T n) k)=true:=fun n h=>by
  obtain ⟨_,hx,hK⟩:=a73 h
  exact (c38 hT hx hK hk).2
 have h1:(P.map fun n=>atM (ndR T n) k).all (inR T.Nodes.length)=true:=List.all_eq_true.2 fun a ha=>by
  obtain ⟨n,hn',rfl⟩:=List.mem_map.1 ha
  exact hat n (List.all_eq_true.1 hp n hn')
 have h2:(((ch.zip N).filter (isV i)).map fun p=>atM (ndR T p.2) k).all (inR T.Nodes.length)=true:=List.all_eq_true.2 fun a ha=>by
  obtain ⟨p,hp',rfl⟩:=List.mem_map.1 ha
  exact hat p.2 (List.all_eq_true.1 hn _ (List.of_mem_zip (List.mem_filter.1 hp').1).2)
 have hl:((ch.zip N).filter (isV i)).length<=6:=Nat.le_trans (List.length_filter_le _ _) (by rw [List.length_zip]; omega)
 cases (ch.zip N).any (isA i) with
 | true =>
   simp only [if_true]
   exact ⟨.inl trivial,rfl,rfl,by simp,by simp⟩
 | false =>
   simp only [Bool.false_eq_true,if_false]
   refine ⟨?_,c5o h1 h2 (by rw [List.length_map]; omega) (by rw [List.length_map]; omega)⟩
   split
   ·exact .inr (.inl rfl)
   ·split
    ·exact .inr (.inl rfl)
    ·exact .inr (.inr rfl)
theorem d2G (hT:GT T){P N:List Int}(hp:P.all (mpB T)=true)(hn:N.all (mpB T)=true)(hpl:P.length<=6)(hnl:N.length<=6)(hk:keys.all Z8=true)(hkl:keys.length<=36){ch:List Record_place}{s:Api_Shape}(h:shZ T P N keys ch=some s):SOk T s:=by
 unfold shZ at h
 simp only at h
 split at h
 ·cases h
  have hzl:(zsZ T P N keys ch).length=keys.length:=by unfold zsZ; rw [List.length_map,List.length_zipIdx]
  have hz:∀ z∈zsZ T P N keys ch,(z.1=0\/z.1=1\/z.1=2)/\gG T z.2.1:=fun z hz=>by
   unfold zsZ at hz
   obtain ⟨p,hp',rfl⟩:=List.mem_map.1 hz
   rw [List.mem_zipIdx_iff_getElem?] at hp'
   exact c9f hT hp hn hpl hnl _ (List.all_eq_true.1 hk _ (List.mem_of_getElem? hp')) ch
  have hrk:∀ n kd,mpB T n=true->inR T.Nodes.length (a8g (ndR T n) kd)=true:=fun n kd h=>by
   obtain ⟨_,hx,hK⟩:=a73 h
   obtain ⟨_,h1,h2⟩:=a8H hT hx hK
   unfold a8g
   split<;>assumption
  have hr:∀ kd,gG T (Api_Goal.mk (rsZ T P kd) (srt []) false):=fun kd=>c5o (List.all_eq_true.2 fun a ha=>by
   obtain ⟨n,hn',rfl⟩:=List.mem_map.1 ha
   exact hrk n kd (List.all_eq_true.1 hp n hn')) rfl (by rw [List.length_map]; omega) (by simp)
  refine ⟨by show (List.map _ _).length=_; rw [List.length_map,hzl],by show (List.map _ _).length=_; rw [List.length_map,hzl],⟨by show keys.length<=_; omega,?_⟩,fun x hx=>?_,fun g hg=>?_,⟨hr 0,hr 1⟩,fun w hw=>?_⟩
  ·show (soZ T (ch.zip N)).length<=_
   unfold soZ
   rw [List.length_map]
   exact Nat.le_trans (List.length_filter_le _ _) (by rw [List.length_zip]; omega)
  ·obtain ⟨z,hz',rfl⟩:=List.mem_map.1 hx
   exact (hz z hz').1
  ·obtain ⟨z,hz',rfl⟩:=List.mem_map.1 hg
   exact (hz z hz').2
  ·have hw:w∈soZ T (ch.zip N):=hw
   unfold soZ at hw
   obtain ⟨p,hp',rfl⟩:=List.mem_map.1 hw
   have hm:=List.all_eq_true.1 hn _ (List.of_mem_zip (List.mem_filter.1 hp').1).2
   refine ⟨rfl,?_,by simp,by simp⟩
   unfold gIn
   simp [hrk p.2 p.1.kind hm]
 ·cases h
end
end Go.Pl
end
section
namespace Go.Pl
open Go Go.RowKit Go.Sx Go.Qx
end Go.Pl
end
section
namespace Go.Pl
open Go Go.RowKit Go.Sx Go.Qx
def nG (T:Api_Type)(g:Api_Goal):Prop:=gG T g/\srt g.Pos=g.Pos/\srt g.Neg=g.Neg
structure SFm (T:Api_Type)(ks:List Key)(s:Api_Shape):Prop where
 keys:s.Keys=ks
 st:s.States.length=ks.length
 pa:s.Parts.length=ks.length
 parts:∀ g∈s.Parts,nG T g
 abs:∀ i:Nat,s.States[i]?=some 0->s.Parts[i]?=some (Api_Goal.mk [] [] false)
 rest:nG T s.Rest.1/\nG T s.Rest.2
 some:∀ w∈s.Some,(w.Kind=0\/w.Kind=1)/\nG T w.Goal
 few:s.Some.length<=6
section
variable {T:Api_Type}{keys:List Key}
theorem d3f {p q:List Int}(hp:p.all (inR T.Nodes.length)=true)(hq:q.all (inR T.Nodes.length)=true)(h1:p.length<=1000000)(h2:q.length<=1000000):nG T (Api_Goal.mk (srt p) (srt q) false) :=
 ⟨c5o hp hq h1 h2,b9e p,b9e q⟩
theorem c6y:∀ {N:List Int} {ch:List Record_place},ch∈chZ T keys N->∀ p∈ch,PlB p
 | [],ch,h,p,hp=>by rw [List.mem_singleton.1 h] at hp; cases hp
 | n::r,ch,h,p,hp=>by
   simp only [chZ,List.mem_flatMap,List.mem_map] at h
   obtain ⟨q,hq,c,hc,rfl⟩:=h
   rcases List.mem_cons.1 hp with rfl | hp
   ·exact (d1J hq).2
   ·exact c6y hc p hp
theorem d3u (hT:GT T){P N:List Int}(hp:P.all (mpB T)=true)(hn:N.all (mpB T)=true)(hpl:P.length<=6)(hnl:N.length<=6)(i:Int){k:Key}(hk:Z8 k=true)(ch:List Record_place) :
 nG T (stZ T P N i k ch).2.1/\((stZ T P N i k ch).1=0->(stZ T P N i k ch).2.1=Api_Goal.mk [] [] false):=by
 have h0:=(c9f hT hp hn hpl hnl i hk ch).2
 unfold stZ at h0 ⊢
 simp only [b8j,b8b,Bool.false_or,List.nil_append] at h0 ⊢
 cases hA:(ch.zip N).any (isA i) with
 | true =>
   rw [hA] at h0
   simp only [if_true] at h0 ⊢
   exact ⟨⟨h0,rfl,rfl⟩,fun _=>trivial⟩
 | false =>
   rw [hA] at h0
   simp only [Bool.false_eq_true,if_false] at h0 ⊢
   refine ⟨⟨h0,b9e _,b9e _⟩,fun h=>?_⟩
   split at h
   ·cases h
   ·split at h<;>cases h
theorem d3e (hT:GT T){P N:List Int}(hp:P.all (mpB T)=true)(hn:N.all (mpB T)=true)(hpl:P.length<=6)(hnl:N.length<=6)(hk:keys.all Z8=true)(hkl:keys.length<=36){ch:List Record_place}(hc:ch∈chZ T keys N){s:Api_Shape}(h:shZ T P N keys ch=some s):SFm T keys s:=by
 unfold shZ at h
 simp only at h
 split at h
 ·cases h
  have hzl:(zsZ T P N keys ch).length=keys.length:=by unfold zsZ; rw [List.length_map,List.length_zipIdx]
  have hz:∀ z∈zsZ T P N keys ch,nG T z.2.1/\(z.1=0->z.2.1=Api_Goal.mk [] [] false):=fun z hz=>by
   unfold zsZ at hz
   obtain ⟨p,hp',rfl⟩:=List.mem_map.1 hz
   rw [List.mem_zipIdx_iff_getElem?] at hp'
   exact d3u hT hp hn hpl hnl _ (List.all_eq_true.1 hk _ (List.mem_of_getElem? hp')) ch
  have hrk:∀ n kd,mpB T n=true->inR T.Nodes.length (a8g (ndR T n) kd)=true:=fun n kd h=>by
   obtain ⟨_,hx,hK⟩:=a73 h
   obtain ⟨_,h1,h2⟩:=a8H hT hx hK
   unfold a8g
   split<;>assumption
  have hr:∀ kd,nG T (Api_Goal.mk (rsZ T P kd) (srt []) false):=fun kd=>d3f (List.all_eq_true.2 fun a ha=>by
   obtain ⟨n,hn',rfl⟩:=List.mem_map.1 ha
   exact hrk n kd (List.all_eq_true.1 hp n hn')) rfl (by rw [List.length_map]; omega) (by simp)
  refine ⟨rfl,by show (List.map _ _).length=_; rw [List.length_map,hzl],by show (List.map _ _).length=_; rw [List.length_map,hzl],fun g hg=>?_,fun i hi=>?_,⟨hr 0,hr 1⟩,fun w hw=>?_,?_⟩
  ·obtain ⟨z,hz',rfl⟩:=List.mem_map.1 hg
   exact (hz z hz').1
  ·have hi:((zsZ T P N keys ch).map (·.1))[i]?=some 0:=hi
   rw [List.getElem?_map,Option.map_eq_some_iff] at hi
   obtain ⟨z,e,h0⟩:=hi
   show ((zsZ T P N keys ch).map (·.2.1))[i]?=_
   rw [List.getElem?_map,e,Option.map_some,(hz z (List.mem_of_getElem? e)).2 h0]
  ·have hw:w∈soZ T (ch.zip N):=hw
   unfold soZ at hw
   obtain ⟨p,hp',rfl⟩:=List.mem_map.1 hw
   obtain ⟨hm0,hneg⟩:=List.mem_filter.1 hp'
   obtain ⟨hmc,hmn⟩:=List.of_mem_zip hm0
   have hm:=List.all_eq_true.1 hn _ hmn
   have hneg:¬ (0<=p.1.key):=by simpa using hneg
   refine ⟨(c6y hc _ hmc).resolve_left hneg,⟨rfl,?_,by simp,by simp⟩,rfl,rfl⟩
   unfold gIn
   simp [hrk p.2 p.1.kind hm]
  ·show (soZ T (ch.zip N)).length<=_
   unfold soZ
   rw [List.length_map]
   exact Nat.le_trans (List.length_filter_le _ _) (by rw [List.length_zip]; omega)
 ·cases h
theorem d2e (hT:GT T){P N:List Int}(hp:P.all (mpB T)=true)(hn:N.all (mpB T)=true)(hpl:P.length<=6)(hnl:N.length<=6)(hk:keys.all Z8=true)(hkl:keys.length<=36){s:Api_Shape}(h:s∈b0d T P N keys):SFm T keys s/\SOk T s:=by
 unfold b0d at h
 obtain ⟨ch,hc,e⟩:=List.mem_filterMap.1 h
 exact ⟨d3e hT hp hn hpl hnl hk hkl hc e,d2G hT hp hn hpl hnl hk hkl e⟩
end
end Go.Pl
end
section
namespace Go.Pl
open Go Go.RowKit Go.Sx Go.Qx
section
variable {T:Api_Type}{L:Api_Line}{s:Api_Shape}{ks:List Key}
theorem b1u {g:Api_Goal}(h:nG T g):a05 T g=some true:=by
 obtain ⟨p,q,l⟩:=g
 obtain ⟨⟨h1,h2,h3,h4⟩,h5,h6⟩:=h
 have h1:l=false:=h1
 subst h1
 have h3:p.length<=1000000:=h3
 have h4:q.length<=1000000:=h4
 have h5:srt p=p:=h5
 have h6:srt q=q:=h6
 unfold a05
 rw [c7C p q false (by omega) (by omega),h5,h6]
 simp only [Option.bind_some]
 rw [c8h _ _ (by show p.length<=_; omega) (by show q.length<=_; omega),c2e _ (by show p.length<=_; omega) (by show q.length<=_; omega),h2]
 simp
theorem d3I {n:Int}{l:List Int}(hm:mpB T n=true)(hl:n∈l){f:Api_Field}(hf:f∈(ndR T n).Fields):f.Key_∈a41 T l:=by
 unfold a41
 refine List.mem_flatMap.2 ⟨n,hl,?_⟩
 unfold mpB at hm
 simp only [Bool.and_eq_true] at hm
 obtain ⟨j,rfl,hj⟩:=a0K hm.1
 have e:=List.getElem?_eq_getElem hj
 unfold ndR at hf
 rw [Int.toNat_natCast,e] at hf ⊢
 simp only [Option.map_some,Option.getD_some,List.mem_map]
 exact ⟨f,hf,rfl⟩
theorem d1N {l:List Int}(hl:l.all (mpB T)=true){y:Key}(h:y∈a41 T l):∃ n∈l,∃ f∈(ndR T n).Fields,f.Key_=y:=by
 unfold a41 at h
 obtain ⟨n,hn,hy⟩:=List.mem_flatMap.1 h
 have hm:=List.all_eq_true.1 hl n hn
 unfold mpB at hm
 simp only [Bool.and_eq_true] at hm
 obtain ⟨j,rfl,hj⟩:=a0K hm.1
 have e:=List.getElem?_eq_getElem hj
 rw [Int.toNat_natCast,e] at hy
 simp only [Option.map_some,Option.getD_some,List.mem_map] at hy
 obtain ⟨f,hf,rfl⟩:=hy
 refine ⟨_,hn,f,?_,rfl⟩
 unfold ndR
 rw [Int.toNat_natCast,e]
 exact hf
theorem d1L (hT:GT T)(hall:(L.Pos++L.Neg).all (mpB T)=true)(hlen:(L.Pos++L.Neg).length<=12)(hkl:s.Keys.length<=36)(hin:∀ n∈L.Pos++L.Neg,∀ f∈(ndR T n).Fields,f.Key_∈s.Keys) :
 z7 (a1W T L s) ((L.Pos++L.Neg).length+1) 0=some (.inl ()):=by
 have h:=a3d (step:=a1W T L s) (fun i=>(i:Int)) (L.Pos++L.Neg).length (.inl ()) (fun i hi=>by
  have e:=List.getElem?_eq_getElem hi
  have hm:=List.getElem_mem hi
  generalize (L.Pos++L.Neg)[i]=n at e hm
  obtain ⟨ex,hx,_⟩:=a73 (List.all_eq_true.1 hall _ hm)
  have hfl:=a9V hT hx
  have h1:=a3d (step:=a10 s (ndR T n)) (fun i=>(i:Int)) (ndR T n).Fields.length (.inl ()) (fun j hj=>by
   have ej:=List.getElem?_eq_getElem hj
   obtain ⟨r,er,hr⟩:=b7U s.Keys ((ndR T n).Fields[j]).Key_ (by omega)
   rw [b2u.2 (hin n hm _ (List.getElem_mem hj))] at hr
   unfold a10
   rw [k9 hj,y4 ej]
   simp only [cond_true,Option.bind_some]
   rw [er]
   simp only [Option.bind_some]
   rw [hr,k8,j5 j (by omega)]
   rfl) (by
   unfold a10
   simp) ((ndR T n).Fields.length+1) (Nat.le_refl _)
  unfold a1W
  simp only [k8,w7]
  rw [k9 hi,y4 e]
  simp only [cond_true,Option.bind_some]
  rw [ex]
  simp only [Option.bind_some]
  have h1':z7 (a10 s (ndR T n)) ((ndR T n).Fields.length+1) 0=some (.inl ()):=h1
  rw [h1',j5 i (by omega)]
  rfl) (by
  unfold a1W
  simp) ((L.Pos++L.Neg).length+1) (Nat.le_refl _)
 exact h
theorem d2s {x:Api_TypeNode}(hx:x.Fields.length<=3){i:Nat}{k:Key}(hk:s.Keys[i]?=some k)(b:Bool) :
 z7 (a15 s (i:Int) x) (x.Fields.length+1) (b,0)=some (b||x.Fields.any fun f=>Z7 f.Key_ k):=by
 have h:=a3d (step:=a15 s (i:Int) x) (fun j=>(b||(x.Fields.take j).any fun f=>Z7 f.Key_ k,(j:Int))) x.Fields.length (b||x.Fields.any fun f=>Z7 f.Key_ k) (fun j hj=>by
  have ej:=List.getElem?_eq_getElem hj
  unfold a15
  simp only [k8]
  rw [k9 hj,y4 ej,y4 hk,j5 j (by omega),a2q ej,List.any_append]
  simp only [cond_true,Option.bind_some,a9o,List.any_cons,List.any_nil,Bool.or_false]
  rw [<- Bool.or_assoc]
  cases (b||(x.Fields.take j).any fun f=>Z7 f.Key_ k)<;>rfl) (by
  unfold a15
  simp) (x.Fields.length+1) (Nat.le_refl _)
 simpa using h
theorem d14 (hT:GT T)(hall:(L.Pos++L.Neg).all (mpB T)=true)(hlen:(L.Pos++L.Neg).length<=12){i:Nat}{k:Key}(hk:s.Keys[i]?=some k) :
 z7 (a14 T L s (i:Int)) ((L.Pos++L.Neg).length+1) (false,0)=some ((L.Pos++L.Neg).any fun n=>(ndR T n).Fields.any fun f=>Z7 f.Key_ k):=by
 have h:=a3d (step:=a14 T L s (i:Int)) (fun j=>(((L.Pos++L.Neg).take j).any fun n=>(ndR T n).Fields.any fun f=>Z7 f.Key_ k,(j:Int))) (L.Pos++L.Neg).length ((L.Pos++L.Neg).any fun n=>(ndR T n).Fields.any fun f=>Z7 f.Key_ k) (fun j hj=>by
  have e:=List.getElem?_eq_getElem hj
  have hm:=List.getElem_mem hj
  generalize (L.Pos++L.Neg)[j]=n at e hm
  obtain ⟨ex,hx,_⟩:=a73 (List.all_eq_true.1 hall _ hm)
  have hfl:=a9V hT hx
  unfold a14
  simp only [k8,w7]
  rw [k9 hj,y4 e]
  simp only [cond_true,Option.bind_some]
  rw [ex]
  simp only [Option.bind_some]
  rw [d2s hfl hk,j5 j (by omega),a2q e,List.any_append]
  simp) (by
  unfold a14
  rw [List.take_length]
  simp) ((L.Pos++L.Neg).length+1) (Nat.le_refl _)
 exact h
theorem c8w (hT:GT T)(hp:L.Pos.all (mpB T)=true)(hn:L.Neg.all (mpB T)=true)(hpl:L.Pos.length<=6)(hnl:L.Neg.length<=6)(hks:asc cK ks=true)(hkm:∀ y,y∈ks↔y∈a41 T (L.Pos++L.Neg))(hkl:ks.length<=36)(hs:SFm T ks s) :
 a4Y T L s=some true:=by
 have hall:(L.Pos++L.Neg).all (mpB T)=true:=by rw [List.all_append,hp,hn]; rfl
 have hlen:(L.Pos++L.Neg).length<=12:=by rw [List.length_append]; omega
 have hK:=hs.keys
 have hst:=hs.st
 have hpa:=hs.pa
 have hfew:=hs.few
 have hin:∀ n∈L.Pos++L.Neg,∀ f∈(ndR T n).Fields,f.Key_∈s.Keys:=fun n hn f hf=>by
  rw [hK]
  exact (hkm _).2 (d3I (List.all_eq_true.1 hall n hn) hn hf)
 have hkl':s.Keys.length<=36:=by rw [hK]; exact hkl
 have h5:=a3d (step:=a16 T L s) (fun i=>(i:Int)) s.Keys.length (.inl ()) (fun i hi=>by
  have e:=List.getElem?_eq_getElem hi
  have hm:=List.getElem_mem hi
  have hisz:i<s.States.length:=by rw [hst,<- hK]; exact hi
  have hipz:i<s.Parts.length:=by rw [hpa,<- hK]; exact hi
  have eS:=List.getElem?_eq_getElem hisz
  have eP:=List.getElem?_eq_getElem hipz
  have hng:=hs.parts _ (List.getElem_mem hipz)
  have hab:=hs.abs i
  obtain ⟨n,hn,f,hf,hfk⟩:=d1N hall ((hkm _).1 (by rw [<- hK]; exact hm))
  have hany:((L.Pos++L.Neg).any fun n=>(ndR T n).Fields.any fun f=>Z7 f.Key_ s.Keys[i])=true:=List.any_eq_true.2 ⟨n,hn,List.any_eq_true.2 ⟨f,hf,a7s.2 hfk⟩⟩
  have hcmp:(bif decide (0<(i:Int)) then (Option.bind (idx s.Keys (wr .i64 ((i:Int)-1))) fun e41=>Option.bind (idx s.Keys (i:Int)) fun e42=>Option.bind (J4 e41 e42) fun r43=>some (decide (0<=r43))) else (some false))=some false:=by
   by_cases h0:0<(i:Int)
   ·have h1:1<=i:=by omega
    have e1:s.Keys[i-1]?=some (s.Keys[i-1]'(by omega)):=List.getElem?_eq_getElem (by omega)
    rw [decide_eq_true h0,k8,a7j i (by omega) h1,y4 e1,y4 e]
    simp only [cond_true,Option.bind_some]
    rw [a78]
    have:=(b1Y cK s.Keys).1 (by rw [hK]; exact hks) i h1 hi
    simp only [Option.bind_some]
    rw [decide_eq_false (by omega)]
   ·rw [decide_eq_false h0]
    rfl
  have hne:=b1u hng
  have habs:(bif s.States[i]==0 then (Option.bind (idx s.Parts (i:Int)) fun e31=>Option.bind (bif decide (0<(e31.Pos.length:Int)) then (some true) else (Option.bind (idx s.Parts (i:Int)) fun e32=>some (decide (0<(e32.Neg.length:Int))))) fun q33=>Option.bind (bif q33 then (some true) else (Option.bind (idx s.Parts (i:Int)) fun e34=>some e34.Lists)) fun q35=>some q35) else (some false))=some false:=by
   cases h0:(s.States[i]==0) with
   | false=>rfl
   | true =>
     have h0:s.States[i]=0:=by simpa using h0
     rw [h0] at eS
     have hP:=hab eS
     rw [y4 hP]
     rfl
  unfold a16
  rw [w7,k9 hi,d14 hT hall hlen e,hany]
  simp only [cond_true,Option.bind_some]
  rw [y4 eS]
  simp only [Option.bind_some]
  rw [habs]
  simp only [Option.bind_some,Bool.not_true,cond_false]
  rw [y4 eP]
  simp only [Option.bind_some]
  rw [hne]
  simp only [Option.bind_some,Bool.not_true,cond_false]
  rw [hcmp]
  simp only [Option.bind_some,cond_false]
  rw [k8,j5 i (by omega)]) (by
  unfold a16
  simp) (s.Keys.length+1) (Nat.le_refl _)
 have h6:=a3d (step:=a18 T s) (fun i=>(i:Int)) s.Some.length (.inl ()) (fun i hi=>by
  have e:=List.getElem?_eq_getElem hi
  obtain ⟨hkd,hng⟩:=hs.some _ (List.getElem_mem hi)
  have hne:=b1u hng
  have hkb:(bif s.Some[i].Kind != 0 then (Option.bind (idx s.Some (i:Int)) fun e51=>some (e51.Kind != 1)) else (some false))=some false:=by
   rw [y4 e]
   rcases hkd with h | h<;>rw [h]<;>simp [h]
  unfold a18
  rw [k9 hi]
  simp only [cond_true]
  rw [show idx s.Some (i:Int)=some s.Some[i] from y4 e] at hkb ⊢
  simp only [Option.bind_some] at hkb ⊢
  rw [hkb]
  simp only [Option.bind_some,cond_false]
  rw [hne]
  simp only [Option.bind_some,Bool.not_true,cond_false]
  rw [k8,j5 i (by omega)]) (by
  unfold a18
  simp) (s.Some.length+1) (Nat.le_refl _)
 have h5':z7 (a16 T L s) (s.Keys.length+1) 0=some (.inl ()):=h5
 have h6':z7 (a18 T s) (s.Some.length+1) 0=some (.inl ()):=h6
 have b1:((s.States.length:Int) != (s.Keys.length:Int))=false:=by rw [hst,hK]; simp
 have b2:((s.Parts.length:Int) != (s.Keys.length:Int))=false:=by rw [hpa,hK]; simp
 unfold a4Y
 rw [b1,b2,b1u hs.rest.1,b1u hs.rest.2,v7 (by omega),v7 (by omega),w7,w7,w7,d1L hT hall hlen hkl' hin,h5',h6']
 rfl
end
end Go.Pl
end
section
namespace Go.Pl
open Go Go.RowKit Go.Sx Go.Qx
theorem c2z:CmpOk cK:=⟨a3E,b2B,fun _ _ h=>b6R h⟩
theorem c5j {α:Type}{l:List α}(h:l.Nodup){i j:Nat}(hi:i<l.length)(hj:j<l.length)(e:l[i]=l[j]):i=j:=by
 have:=List.pairwise_iff_getElem.1 h
 rcases Nat.lt_trichotomy i j with h1 | h1 | h1
 ·exact absurd e (this i j hi hj h1)
 ·exact h1
 ·exact absurd e.symm (this j i hj hi h1)
section
variable {T:Api_Type}
theorem c9X {v:Val}(h:MOk v):∀ q∈kv v,∀ q'∈kv v,q.1=q'.1->q=q':=by
 intro q hq q' hq' e
 obtain ⟨i,hi,e1⟩:=List.getElem_of_mem hq
 obtain ⟨j,hj,e2⟩:=List.getElem_of_mem hq'
 have hl:=h.len
 rw [List.length_zip] at hi hj
 have g1:(kv v)[i]?=some q:=by rw [List.getElem?_eq_getElem (by rw [List.length_zip]; exact hi),e1]
 have g2:(kv v)[j]?=some q':=by rw [List.getElem?_eq_getElem (by rw [List.length_zip]; exact hj),e2]
 obtain ⟨a1,a2⟩:=a4M g1
 obtain ⟨b1,b2⟩:=a4M g2
 have hnd:v.Keys.Nodup:=CmpOk.nodup c2z ((CmpOk.asc_pw c2z _).1 h.asc)
 have hij:i=j:=by
  have hi':i<v.Keys.length:=by omega
  have hj':j<v.Keys.length:=by omega
  rw [List.getElem?_eq_getElem hi'] at a1
  rw [List.getElem?_eq_getElem hj'] at b1
  have e3:v.Keys[i]=v.Keys[j]:=by rw [Option.some.inj a1,Option.some.inj b1]; exact e
  exact c5j hnd hi' hj' e3
 subst hij
 rw [g1] at g2
 cases g2
 rfl
end
end Go.Pl
end
section
namespace Go.Pl
open Go Go.RowKit Go.Sx Go.Qx
theorem d0D {α:Type}(m:List (ByteArray×α))(k j:ByteArray)(v:α):a49 (a7R m k v) j=if j=k then some v else a49 m j:=by
 induction m with
 | nil =>
   simp only [a7R,a49]
   by_cases h:j=k
   ·rw [if_pos h,(MapKept.bytes_beq j k).2 h]; rfl
   ·rw [if_neg h]
    cases hb:j==k
    ·rfl
    ·exact absurd ((MapKept.bytes_beq j k).1 hb) h
 | cons x r ih =>
   simp only [a7R]
   cases hb:k==x.1
   ·simp only [cond_false,a49]
    cases hj:j==x.1
    ·simp only [cond_false]; exact ih
    ·simp only [cond_true]
     have e:=(MapKept.bytes_beq j x.1).1 hj
     have:j≠k:=fun e2=>by rw [<- e2,hj] at hb; cases hb
     rw [if_neg this]
   ·have e:=(MapKept.bytes_beq k x.1).1 hb
    simp only [cond_true,a49]
    by_cases h:j=k
    ·rw [if_pos h,(MapKept.bytes_beq j k).2 h]; rfl
    ·rw [if_neg h]
     cases hj:j==k
     ·simp only [cond_false]
      cases hj2:j==x.1
      ·rfl
      ·exact absurd (((MapKept.bytes_beq j x.1).1 hj2).trans e.symm) h
     ·exact absurd ((MapKept.bytes_beq j k).1 hj) h
end Go.Pl
end

/- Part 4. -/
import Derived.Test.YtldcbllenafgjaaGreatDoorK2
import Derived.Test.YtldcbllenafgjaaGreatDoorK3
section
namespace Go.Pl
open Go Go.RowKit Go.Sx Go.Qx
def inR (N:Nat)(k:Int):Bool:=decide (0<=k)&&decide (k<(N:Int))
def a9U (N:Nat)(l:List Api_Field):Bool:=asc cK (l.map (·.Key_))&&(l.all (fun f=>a0U f.Key_)&&l.all fun f=>inR N f.Node)
def a2T (N:Nat)(x:Api_TypeNode):Bool :=
 if x.Kind=3 then x.Kids.isEmpty&&decide (x.Lo<=x.Hi) else if x.Kind=4 then x.Kids.isEmpty&&decide ((x.Text.size:Int)<=64) else
 if x.Kind=6 then x.Kids.isEmpty&&a5k x.Text else if x.Kind=19 then x.Kids.isEmpty&&a6j x.Text else
 if x.Kind=1\/x.Kind=2\/x.Kind=5\/x.Kind=7\/x.Kind=8\/x.Kind=9\/x.Kind=11\/x.Kind=15 then x.Kids.isEmpty else
 if x.Kind=10 then decide ((x.Kids.length:Int)<=4) else if x.Kind=12 then (x.Kids.length:Int)==2 else
 if x.Kind=14 then decide (1<=(x.Kids.length:Int))&&decide ((x.Kids.length:Int)<=5) else
 if x.Kind=16\/x.Kind=17 then decide (1<=(x.Kids.length:Int)) else if x.Kind=18 then (x.Kids.length:Int)==1 else
 if x.Kind=13 then a9U N x.Fields&&(x.Kids.isEmpty&&(inR N x.Rest.1&&inR N x.Rest.2)) else false
def a7Q (r:Int×Int):Bool:=r.1==0&&r.2==0
def X3 (N:Nat)(x:Api_TypeNode):Bool :=
 x.Kids.all (inR N)&&((x.Kind==3||(x.Lo==0&&x.Hi==0))&&((x.Kind==4||x.Kind==6||x.Kind==19||Y0 x.Text ⟨#[]⟩)&&((x.Kind==13||(x.Fields.isEmpty&&a7Q x.Rest))&&a2T N x)))
theorem c76 {α:Type}(l:List α):((l.length:Int)==0)=l.isEmpty:=by cases l<;>simp<;>omega
theorem d1o (r:Int×Int):b5F r (0,0)=a7Q r:=by unfold b5F a7Q; simp
theorem Z3 {i n:Nat}(h:i<n):decide ((i:Int)<(n:Int))=true:=decide_eq_true (by omega)
theorem d2s (q:Api_Field->Bool)(l:List Api_Field):(List.range l.length).all (b5b (fun a b=>cK a.Key_ b.Key_) q l)=(asc cK (l.map (·.Key_))&&l.all q):=by
 rw [c4w]
 congr 1
 rw [Bool.eq_iff_iff,b5u,b5u]
 constructor
 ·intro h i h1 hi
  have:=h i h1 (by simpa using hi)
  simpa using this
 ·intro h i h1 hi
  have:=h i h1 (by simpa using hi)
  simpa using this
theorem d0u {step:Int->Option (Fl Int (Sum Unit Bool))}(q:Api_Field->Bool)(l:List Api_Field)
 (hst:∀ (i:Nat) (x:Api_Field),l[i]?=some x->step (i:Int)=some (if b5b (fun a b=>cK a.Key_ b.Key_) q l i=true then .next ((i+1:Nat):Int) else .done (.inr false)))
 (hend:step (l.length:Int)=some (.done (.inl ()))):iter step (l.length+1) 0=some (if (asc cK (l.map (·.Key_))&&l.all q)=true then .inl () else .inr false):=by
 have:=b9k (step:=step) (fun a b:Api_Field=>cK a.Key_ b.Key_) q l false hst hend
 rw [<- c4w,d2s] at this
 exact this
end Go.Pl
namespace Go.Pl
open Go Go.RowKit Go.Sx Go.Qx
def b8R (x:Api_TypeNode):Bool :=
 (x.Kind==3||(x.Lo==0&&x.Hi==0))&&((x.Kind==4||x.Kind==6||x.Kind==19||Y0 x.Text ⟨#[]⟩) &&
   ((x.Kind==10||x.Kind==12||x.Kind==14||x.Kind==16||x.Kind==17||x.Kind==18||x.Kids.isEmpty)&&(x.Kind==13||(x.Fields.isEmpty&&a7Q x.Rest))))
def c1X (l:List Api_Field):Bool:=asc cK (l.map (·.Key_))&&l.all fun f=>a0U f.Key_
def b9g (x:Api_TypeNode):Bool :=
 if x.Kind=3 then decide (x.Lo<=x.Hi) else if x.Kind=4 then decide ((x.Text.size:Int)<=64) else
 if x.Kind=6 then a5k x.Text else if x.Kind=19 then a6j x.Text else
 if x.Kind=1\/x.Kind=2\/x.Kind=5\/x.Kind=7\/x.Kind=8\/x.Kind=9\/x.Kind=11\/x.Kind=15 then true else
 if x.Kind=10 then decide ((x.Kids.length:Int)<=4) else if x.Kind=12 then (x.Kids.length:Int)==2 else
 if x.Kind=14 then decide (1<=(x.Kids.length:Int))&&decide ((x.Kids.length:Int)<=5) else
 if x.Kind=16\/x.Kind=17 then decide (1<=(x.Kids.length:Int)) else if x.Kind=18 then (x.Kids.length:Int)==1 else
 if x.Kind=13 then c1X x.Fields else false
def a6F (x:Api_TypeNode):List Int:=x.Kids++x.Fields.map (·.Node)++(if x.Kind=13 then [x.Rest.1,x.Rest.2] else [])
theorem a7L (k:Int):(k=1\/k=2\/k=3\/k=4\/k=5\/k=6\/k=7\/k=8\/k=9\/k=10\/k=11\/k=12\/k=13\/k=14\/k=15\/k=16\/k=17\/k=18\/k=19)\/∀ n:Int,1<=n->n<=19->(k==n)=false:=by
 by_cases h:1<=k/\k<=19
 ·left; omega
 ·right
  intro n h1 h2
  have:k≠n:=by omega
  simpa using this
theorem c98 (x:Api_TypeNode):a5f x=some (b8R x):=by
 unfold a5f b8R
 simp only [V2,d1o,c76]
 generalize a7Q x.Rest=D
 generalize x.Fields.isEmpty=E
 generalize Y0 x.Text ⟨#[]⟩=G
 generalize (x.Lo==0)=H
 generalize (x.Hi==0)=J
 generalize x.Kids.isEmpty=M
 rcases a7L x.Kind with h | h
 ·rcases h with h | h | h | h | h | h | h | h | h | h | h | h | h | h | h | h | h | h | h<;>rw [h]<;>cases G<;>cases H<;>cases J<;>cases E<;>cases D<;>cases M<;>rfl
 ·simp only [h 3 (by omega) (by omega),h 4 (by omega) (by omega),h 6 (by omega) (by omega),h 19 (by omega) (by omega),h 10 (by omega) (by omega),h 12 (by omega) (by omega),h 14 (by omega) (by omega),h 16 (by omega) (by omega),h 17 (by omega) (by omega),h 18 (by omega) (by omega),h 13 (by omega) (by omega)]
  cases G<;>cases H<;>cases J<;>cases E<;>cases D<;>cases M<;>rfl
theorem c9z (l:List Api_Field)(hl:l.length<=4194304):a4i l=some (c1X l):=by
 have l2:iter (a3e l) (l.length+1) 0=some (if (asc cK (l.map (·.Key_))&&l.all fun f=>a0U f.Key_)=true then .inl () else .inr false):=by
  refine d0u (fun f=>a0U f.Key_) l ?_ ?_
  ·intro i f hx
   have hi:i<l.length:=(List.getElem?_eq_some_iff.1 hx).1
   unfold a3e
   rw [Z3 hi,j5 hx]
   simp only [cond_true,Option.bind_some,c1y,Y1,V2]
   refine b9t (fun a b:Api_Field=>cK a.Key_ b.Key_) (fun f=>a0U f.Key_) l i f hx (by omega) (fun h=>by rw [h]; rfl) (fun h h0=>by subst h0; rw [h]; rfl) (fun h j y hj hy hiy=>?_)
   subst hj
   rw [h,hiy,c72]
   simp only [Bool.not_true,cond_false,cond_true,Option.bind_some,b4B]
   by_cases hc:cK y.Key_ f.Key_<0
   ·have:¬ 0<=cK y.Key_ f.Key_:=by omega
    simp [hc,this]
   ·have:0<=cK y.Key_ f.Key_:=by omega
    simp [hc,this]
  ·unfold a3e
   simp
 unfold a4i c1X
 rw [Y2,l2]
 cases (asc cK (l.map (·.Key_))&&l.all fun f=>a0U f.Key_)<;>rfl
theorem c95 (x:Api_TypeNode)(hf:x.Fields.length<=4194304):a5m x=some (b9g x):=by
 unfold a5m b9g
 simp only [V2,c2U,c9I,c9z x.Fields hf]
 generalize c1X x.Fields=A
 generalize a5k x.Text=O
 generalize a6j x.Text=Q
 generalize decide (x.Lo<=x.Hi)=R
 generalize decide ((x.Text.size:Int)<=64)=T
 generalize decide ((x.Kids.length:Int)<=4)=U
 generalize ((x.Kids.length:Int)==2)=V
 generalize ((x.Kids.length:Int)==1)=W
 generalize decide (1<=(x.Kids.length:Int))=X
 generalize decide ((x.Kids.length:Int)<=5)=Y
 rcases a7L x.Kind with h | h
 ·rcases h with h | h | h | h | h | h | h | h | h | h | h | h | h | h | h | h | h | h | h<;>rw [h]<;>first | rfl | (cases X<;>rfl)
 ·have e:∀ n:Int,1<=n->n<=19->¬ x.Kind=n:=fun n h1 h2=>by simpa using h n h1 h2
  simp only [h 1 (by omega) (by omega),h 2 (by omega) (by omega),h 5 (by omega) (by omega),h 7 (by omega) (by omega),h 8 (by omega) (by omega),h 9 (by omega) (by omega),h 11 (by omega) (by omega),h 15 (by omega) (by omega),h 3 (by omega) (by omega),h 4 (by omega) (by omega),h 6 (by omega) (by omega),h 19 (by omega) (by omega),h 10 (by omega) (by omega),h 12 (by omega) (by omega),h 14 (by omega) (by omega),h 16 (by omega) (by omega),h 17 (by omega) (by omega),h 18 (by omega) (by omega),h 13 (by omega) (by omega),
   e 1 (by omega) (by omega),e 2 (by omega) (by omega),e 5 (by omega) (by omega),e 7 (by omega) (by omega),e 8 (by omega) (by omega),e 9 (by omega) (by omega),e 11 (by omega) (by omega),e 15 (by omega) (by omega),e 3 (by omega) (by omega),e 4 (by omega) (by omega),e 6 (by omega) (by omega),e 19 (by omega) (by omega),e 10 (by omega) (by omega),e 12 (by omega) (by omega),e 14 (by omega) (by omega),e 16 (by omega) (by omega),e 17 (by omega) (by omega),e 18 (by omega) (by omega),e 13 (by omega) (by omega),or_self,if_false]
  rfl
theorem b9j {α β:Type}(f:α->β):∀ (l:List α) (s:List β),l.foldl (fun s x=>s++[f x]) s=s++l.map f
 | [],s=>by simp
 | x::r,s=>by rw [List.foldl_cons,b9j f r]; simp
theorem d04 (x:Api_TypeNode)(hk:x.Kids.length<=1100000)(hf:x.Fields.length<=1100000):a7J x=some (a6F x):=by
 unfold a7J a0n a6F
 rw [Z6 (by omega)]
 simp only [Option.bind_some,Y2]
 have key:=a27 (σ:=List Int) (step:=a2Z x) x.Fields (fun s i=>(s,(i:Int))) (fun s f=>s++[f.Node]) (fun i s=>s.length<=x.Kids.length+i) (fun s=>s)
  ?_ ?_ x.Kids (by simp) _ (Nat.le_refl _)
 ·have e:iter (a2Z x) (x.Fields.length+1) (x.Kids,0)=iter (a2Z x) (x.Fields.length+1) (x.Kids,((0:Nat):Int)):=rfl
  rw [e,key,b9j]
  simp only [Option.bind_some]
  by_cases h:x.Kind=13
  ·rw [show (x.Kind==13)=true by simpa using h,if_pos h,Z6 (by simp only [List.length_append,List.length_map,List.length_cons,List.length_nil]; omega)]
   rfl
  ·rw [show (x.Kind==13)=false by simpa using h,if_neg h,List.append_nil]
   rfl
 ·intro i s f hx hI
  have hi:i<x.Fields.length:=(List.getElem?_eq_some_iff.1 hx).1
  refine ⟨?_,by simp only [List.length_append,List.length_cons,List.length_nil]; omega⟩
  unfold a2Z
  simp only [Y1]
  rw [Z3 hi,j5 hx]
  simp only [cond_true,Option.bind_some]
  rw [Z6 (by simp only [List.length_cons,List.length_nil]; omega),k8 i (by omega)]
  rfl
 ·intro s _
  unfold a2Z
  simp
theorem c9n (N:Nat)(x:Api_TypeNode):(b8R x&&(b9g x&&(a6F x).all (inR N)))=X3 N x:=by
 unfold b8R b9g X3 a2T a6F a9U c1X
 simp only [List.all_append,List.all_map]
 have hE:x.Fields.isEmpty=true->x.Fields=[]:=List.isEmpty_iff.1
 have hM:x.Kids.isEmpty=true->x.Kids=[]:=List.isEmpty_iff.1
 rcases a7L x.Kind with h | h
 ·have hK:x.Kids.isEmpty=true->x.Kids.all (inR N)=true:=fun e=>by rw [hM e]; rfl
  have hF:x.Fields.isEmpty=true->(x.Fields.all (inR N∘fun f=>f.Node))=true:=fun e=>by rw [hE e]; rfl
  have hcomp:(x.Fields.all fun f=>inR N f.Node)=x.Fields.all (inR N∘fun f=>f.Node):=rfl
  rw [hcomp]
  generalize x.Fields.all (inR N∘fun f=>f.Node)=a1 at hF
  generalize x.Kids.all (inR N)=a2 at hK
  generalize x.Fields.isEmpty=E at hF
  generalize x.Kids.isEmpty=M at hK
  generalize a7Q x.Rest=D
  generalize Y0 x.Text ⟨#[]⟩=G
  generalize (x.Lo==0)=H
  generalize (x.Hi==0)=J
  rcases h with h | h | h | h | h | h | h | h | h | h | h | h | h | h | h | h | h | h | h<;>rw [h]<;>simp <;>
   cases G<;>cases H<;>cases J<;>cases E<;>cases D<;>cases M<;>simp_all
  all_goals first
   | (simp only [Bool.and_assoc]; done)
   | (cases a2<;>simp; done)
 ·have e:∀ n:Int,1<=n->n<=19->¬ x.Kind=n:=fun n h1 h2=>by simpa using h n h1 h2
  simp only [e 1 (by omega) (by omega),e 2 (by omega) (by omega),e 5 (by omega) (by omega),e 7 (by omega) (by omega),e 8 (by omega) (by omega),e 9 (by omega) (by omega),e 11 (by omega) (by omega),e 15 (by omega) (by omega),e 3 (by omega) (by omega),e 4 (by omega) (by omega),e 6 (by omega) (by omega),e 19 (by omega) (by omega),e 10 (by omega) (by omega),e 12 (by omega) (by omega),e 14 (by omega) (by omega),e 16 (by omega) (by omega),e 17 (by omega) (by omega),e 18 (by omega) (by omega),e 13 (by omega) (by omega),or_self,if_false]
  simp
end Go.Pl
namespace Go.Pl
open Go Go.RowKit Go.Sx Go.Qx
def isB (x:Api_TypeNode):Bool:=x.Kind==16||x.Kind==17||x.Kind==18
def c7S (ns:List Api_TypeNode):Prop:=∀ (i:Nat) (x:Api_TypeNode),ns[i]?=some x->isB x=true->∀ k∈x.Kids,(i:Int)<k
def b5f (ns:List Api_TypeNode):Bool:=ns.all (X3 ns.length)
theorem d3V (x:Api_TypeNode):a5p x.Kind=some (isB x):=by
 unfold a5p isB
 cases (x.Kind==16)<;>cases (x.Kind==17)<;>rfl
theorem a6m {N:Nat}{x:Api_TypeNode}(h:X3 N x=true):∀ k∈x.Kids,inR N k=true:=by
 unfold X3 at h
 simp only [Bool.and_eq_true] at h
 exact List.all_eq_true.1 h.1
theorem a26 {N:Nat}{k:Int}(h:inR N k=true):∃ j:Nat,k=(j:Int)/\j<N:=by
 unfold inR at h
 simp only [Bool.and_eq_true,decide_eq_true_eq] at h
 exact ⟨k.toNat,by omega,by omega⟩
def Rk (ns:List Api_TypeNode)(r:Nat->Nat):Prop:=∀ (i:Nat) (x:Api_TypeNode),ns[i]?=some x->isB x=true->∀ k∈x.Kids,r k.toNat<r i
def Acy (ns:List Api_TypeNode):Prop:=∃ r,Rk ns r
open Classical in
noncomputable def b5d (ns:List Api_TypeNode):Bool:=decide (Acy ns)
theorem c0w {ns:List Api_TypeNode}:b5d ns=true↔Acy ns:=by
 unfold b5d
 classical exact decide_eq_true_iff
theorem c7S.acy {ns:List Api_TypeNode}(h:c7S ns)(hT:b5f ns=true):b5d ns=true :=
 c0w.2 ⟨fun i=>ns.length-i,fun i x hx hb k hk=>by
  obtain ⟨j,rfl,hj⟩:=a26 (a6m (List.all_eq_true.1 hT x (List.mem_of_getElem? hx)) k hk)
  have:=h i x hx hb _ hk
  show ns.length-((j:Int)).toNat<ns.length-i
  rw [Int.toNat_natCast]
  omega⟩
def Gd (ns:List Api_TypeNode)(D:Nat->Prop):Prop:=∃ r:Nat->Nat,∀ (i:Nat) (x:Api_TypeNode),D i->ns[i]?=some x->isB x=true->∀ k∈x.Kids,D k.toNat/\r k.toNat<r i
theorem c6O (r:Nat->Nat):∀ (l:List Int) (k:Int),k∈l->r k.toNat<=(l.map fun k=>r k.toNat).sum
 | [],_,h=>by cases h
 | y::l,k,h=>by
   rw [List.map_cons,List.sum_cons]
   rcases List.mem_cons.1 h with rfl | h
   ·omega
   ·have:=c6O r l k h; omega
theorem Gd.add {ns:List Api_TypeNode}{D D':Nat->Prop}(h:Gd ns D){i:Nat}{x:Api_TypeNode}(hx:ns[i]?=some x)(hk:isB x=true->∀ k∈x.Kids,D k.toNat)(hD:∀ j,D' j↔D j\/j=i):Gd ns D':=by
 obtain ⟨r,hr⟩:=h
 by_cases hi:D i
 ·have e:∀ j,D' j↔D j:=fun j=>(hD j).trans ⟨fun h=>h.elim id (fun h=>by rw [h]; exact hi),.inl⟩
  exact ⟨r,fun j y h1 h2 h3 k h4=>by
   obtain ⟨k1,k2⟩:=hr j y ((e j).1 h1) h2 h3 k h4
   exact ⟨(e _).2 k1,k2⟩⟩
 ·refine ⟨fun j=>if j=i then 1+(x.Kids.map fun k=>r k.toNat).sum else r j,fun j y h1 h2 h3 k h4=>?_⟩
  by_cases hj:j=i
  ·subst hj
   rw [hx] at h2
   cases h2
   have hDk:=hk h3 k h4
   have hne:k.toNat≠j:=fun e=>hi (e▸hDk)
   refine ⟨(hD _).2 (.inl hDk),?_⟩
   simp only [if_neg hne,if_true]
   have:=c6O r x.Kids k h4
   omega
  ·obtain ⟨k1,k2⟩:=hr j y (((hD j).1 h1).resolve_right hj) h2 h3 k h4
   have hne:k.toNat≠i:=fun e=>hi (e▸k1)
   refine ⟨(hD _).2 (.inl k1),?_⟩
   simp only [if_neg hne,if_neg hj]
   exact k2
theorem Gd.acy {ns:List Api_TypeNode}{D:Nat->Prop}(h:Gd ns D)(hD:∀ j,j<ns.length->D j):Acy ns:=by
 obtain ⟨r,hr⟩:=h
 exact ⟨r,fun i x hx hb k hk=>(hr i x (hD i (List.getElem?_eq_some_iff.1 hx).1) hx hb k hk).2⟩
theorem Acy.small {ns:List Api_TypeNode}(h:Acy ns)(hT:b5f ns=true):∃ r,Rk ns r/\∀ i,i<ns.length->r i<ns.length:=by
 obtain ⟨r,hr⟩:=h
 have mono:∀ (l:List Nat) (a b:Nat),a<=b->(l.countP fun j=>decide (j<a))<=l.countP fun j=>decide (j<b):=fun l a b hab =>
  List.countP_mono_left fun x _ hx=>by simp at hx ⊢; omega
 have strict:∀ (l:List Nat) (a b:Nat),a<b->a∈l->(l.countP fun j=>decide (j<a))<l.countP fun j=>decide (j<b):=by
  intro l
  induction l with
  | nil=>intro a b _ h; cases h
  | cons y l ih =>
    intro a b hab hm
    rw [List.countP_cons,List.countP_cons]
    rcases List.mem_cons.1 hm with rfl | hm
    ·have:=mono l a b (by omega)
     simp only [Nat.lt_irrefl,decide_false,hab,decide_true,if_true]
     simp
     omega
    ·have h1:=ih a b hab hm
     by_cases h2:y<a
     ·simp only [h2,show y<b by omega,decide_true,if_true]; omega
     ·simp only [h2,decide_false]
      by_cases h3:y<b<;>simp [h3]<;>omega
 have hlt:∀ (l:List Nat) (a:Nat),a∈l->(l.countP fun j=>decide (j<a))<l.length:=fun l a hm=>by
  have h1:=strict l a (a+1) (by omega) hm
  have h2:(l.countP fun j=>decide (j<a+1))<=l.length:=List.countP_le_length
  omega
 refine ⟨fun i=>((List.range ns.length).map r).countP fun j=>decide (j<r i),fun i x hx hb k hk=>?_,fun i hi=>?_⟩
 ·obtain ⟨j,rfl,hj⟩:=a26 (a6m (List.all_eq_true.1 hT x (List.mem_of_getElem? hx)) k hk)
  exact strict _ _ _ (hr i x hx hb _ hk) (List.mem_map.2 ⟨j,by simpa using hj,by simp⟩)
 ·have:=hlt ((List.range ns.length).map r) (r i) (List.mem_map.2 ⟨i,by simpa using hi,rfl⟩)
  simpa using this
def DF (ns:List Api_TypeNode)(st:List Int)(j:Nat):Prop:=st[j]?=some 2\/∃ x,ns[j]?=some x/\isB x=false
theorem c7p:∀ (l:List Int) (i:Nat),l[i]?=some 0->(l.set i 1).count 0+1=l.count 0
 | [],i,h=>by simp at h
 | x::l,0,h=>by
   have:x=0:=by simpa using h
   subst this
   simp
 | x::l,i+1,h=>by
   have:=c7p l i (by simpa using h)
   rw [List.set_cons_succ,List.count_cons,List.count_cons]
   omega
theorem c9p:∀ (l:List Int) (i:Nat),(l.set i 2).count 0<=l.count 0
 | [],i=>by simp
 | x::l,0=>by
   rw [List.set_cons_zero,List.count_cons,List.count_cons]
   simp
 | x::l,i+1=>by
   have:=c9p l i
   rw [List.set_cons_succ,List.count_cons,List.count_cons]
   omega
structure DfsR (ns:List Api_TypeNode)(st st':List Int):Prop where
 len:st'.length=ns.length
 val:∀ (j:Nat) e,st'[j]?=some e->e=0\/e=1\/e=2
 gd:Gd ns (DF ns st')
 opn:∀ j:Nat,st'[j]?=some 1↔st[j]?=some 1
 don:∀ j:Nat,st[j]?=some 2->st'[j]?=some 2
 zer:st'.count 0<=st.count 0
theorem d3R (t:Api_Type)(hT:b5f t.Nodes=true)(hk:∀ x∈t.Nodes,x.Kids.length<=1100000) :
 ∀ (fuel i:Nat) (st:List Int),st.count 0<fuel->i<t.Nodes.length->DfsR t.Nodes st st ->
  ∃ b st',Q7 fuel (i:Int) st t ()=some (b,st')/\(b=true->DfsR t.Nodes st st'/\DF t.Nodes st' i)/\(b=false->∀ r,Rk t.Nodes r->(∀ o:Nat,st[o]?=some 1->r i<r o)->False):=by
 intro fuel
 induction fuel with
 | zero=>intro i st h1; omega
 | succ f ih =>
   intro i st h1 h2 hS
   show ∃ b st',a4I f (Q7 f) (i:Int) st t ()=some (b,st')/\_
   have h3:=hS.len
   have hi:i<st.length:=by omega
   have hst:=List.getElem?_eq_getElem hi
   have hn:=List.getElem?_eq_getElem h2
   generalize st[i]=e at hst
   generalize hx:t.Nodes[i]=x at hn
   have hxm:x∈t.Nodes:=List.mem_of_getElem? hn
   unfold a4I
   simp only [j5 hst,j5 hn,Int.toNat_natCast,hst,Option.bind_some,d3V,Y2,Y1]
   by_cases hq:e=0/\isB x=true
   ·obtain ⟨he,hb⟩:=hq
    subst he
    rw [hb]
    simp only [bne_self_eq_false,cond_false,Bool.not_true,Option.bind_some]
    have hke:=hk x hxm
    have hz:=c7p st i hst
    have hset:∀ j:Nat,(st.set i 1)[j]?=some 1↔st[j]?=some 1\/j=i:=fun j=>by
     by_cases e:i=j
     ·subst e; rw [List.getElem?_set_self hi]; simp
     ·rw [List.getElem?_set_ne e]; exact ⟨.inl,fun h=>h.resolve_right (Ne.symm e)⟩
    have hset2:∀ j:Nat,(st.set i 1)[j]?=some 2↔st[j]?=some 2:=fun j=>by
     by_cases e:i=j
     ·subst e; rw [List.getElem?_set_self hi,hst]; simp
     ·rw [List.getElem?_set_ne e]
    have hS1:DfsR t.Nodes (st.set i 1) (st.set i 1):=by
     refine ⟨by simpa using h3,fun j e hj=>?_,?_,fun _=>Iff.rfl,fun _ h=>h,Nat.le_refl _⟩
     ·by_cases e1:i=j
      ·subst e1; rw [List.getElem?_set_self hi] at hj; simp at hj; omega
      ·rw [List.getElem?_set_ne e1] at hj; exact hS.val j e hj
     ·have e:∀ j,DF t.Nodes (st.set i 1) j↔DF t.Nodes st j:=fun j=>or_congr (hset2 j) Iff.rfl
      obtain ⟨r,hr⟩:=hS.gd
      exact ⟨r,fun j y a1 a2 a3 k a4=>by
       obtain ⟨k1,k2⟩:=hr j y ((e j).1 a1) a2 a3 k a4
       exact ⟨(e _).2 k1,k2⟩⟩
    have key:∀ (m a k:Nat) (s:List Int),a+m=x.Kids.length->m+1<=k->DfsR t.Nodes (st.set i 1) s->(∀ (q:Nat) (y:Int),q<a->x.Kids[q]?=some y->DF t.Nodes s y.toNat) ->
     (∃ s',iter (Y9 t x (Q7 f)) k ((a:Int),s)=some (.inl s')/\DfsR t.Nodes (st.set i 1) s'/\∀ y∈x.Kids,DF t.Nodes s' y.toNat) \/
     ∃ s',iter (Y9 t x (Q7 f)) k ((a:Int),s)=some (.inr (false,s'))/\∀ r,Rk t.Nodes r->(∀ o:Nat,st[o]?=some 1->r i<r o)->False:=by
     intro m
     induction m with
     | zero =>
       intro a k s b1 b2 b3 b4
       obtain ⟨k,rfl⟩:∃ m,k=m+1:=⟨k-1,by omega⟩
       have e:a=x.Kids.length:=by omega
       subst e
       have:Y9 t x (Q7 f) ((x.Kids.length:Int),s)=some (.done (.inl s)):=by
        unfold Y9
        simp
       exact .inl ⟨s,by simp only [iter,this,Option.bind_some],b3,fun y hy=>by
        obtain ⟨q,hq,e⟩:=List.getElem_of_mem hy
        exact b4 q y hq (by rw [List.getElem?_eq_getElem hq,e])⟩
     | succ m ihm =>
       intro a k s b1 b2 b3 b4
       obtain ⟨k,rfl⟩:∃ m,k=m+1:=⟨k-1,by omega⟩
       have ha:a<x.Kids.length:=by omega
       have hka:=List.getElem?_eq_getElem ha
       have hkm:=List.getElem_mem ha
       obtain ⟨j,hj1,hj3⟩:=a26 (a6m (List.all_eq_true.1 hT x hxm) _ hkm)
       obtain ⟨b,s',c1,c2,c3⟩:=ih j s (by have:=b3.zer; omega) hj3 ⟨b3.len,b3.val,b3.gd,fun _=>Iff.rfl,fun _ h=>h,Nat.le_refl _⟩
       cases b with
       | true =>
         obtain ⟨c4,c5⟩:=c2 rfl
         have:Y9 t x (Q7 f) ((a:Int),s)=some (.next (((a+1:Nat):Int),s')):=by
          unfold Y9
          rw [Z3 ha,j5 hka,hj1]
          simp only [cond_true,Option.bind_some,Y1]
          rw [c1,k8 a (by omega)]
          rfl
         simp only [iter,this,Option.bind_some]
         refine ihm (a+1) k s' (by omega) (by omega) ⟨c4.len,c4.val,c4.gd,fun q=>(c4.opn q).trans (b3.opn q),fun q hq=>c4.don q (b3.don q hq),Nat.le_trans c4.zer b3.zer⟩ (fun q y hq hy=>?_)
         by_cases hqa:q=a
         ·subst hqa
          rw [hka] at hy
          cases hy
          rw [hj1,Int.toNat_natCast]
          exact c5
         ·exact (b4 q y (by omega) hy).imp (fun h=>c4.don _ h) id
       | false =>
         have:Y9 t x (Q7 f) ((a:Int),s)=some (.done (.inr (false,s'))):=by
          unfold Y9
          rw [Z3 ha,j5 hka,hj1]
          simp only [cond_true,Option.bind_some,Y1]
          rw [c1]
          rfl
         refine .inr ⟨s',by simp only [iter,this,Option.bind_some],fun r hr ho=>c3 rfl r hr fun o hopn=>?_⟩
         have hrk:r j<r i:=by
          have:=hr i x hn hb _ hkm
          rwa [hj1,Int.toNat_natCast] at this
         rcases (hset o).1 ((b3.opn o).1 hopn) with h | rfl
         ·exact Nat.lt_trans hrk (ho o h)
         ·exact hrk
    have e0:iter (Y9 t x (Q7 f)) (x.Kids.length+1) (0,st.set i 1)=iter (Y9 t x (Q7 f)) (x.Kids.length+1) (((0:Nat):Int),st.set i 1):=rfl
    rw [e0]
    rcases key x.Kids.length 0 (x.Kids.length+1) (st.set i 1) (by omega) (Nat.le_refl _) hS1 (fun q y hq=>by omega) with ⟨s',c1,c2,c3⟩ | ⟨s',c1,c2⟩
    ·rw [c1]
     have hi':i<s'.length:=by rw [c2.len]; exact h2
     have hs':=List.getElem?_eq_getElem hi'
     have hs1:s'[i]?=some 1:=(c2.opn i).2 ((hset i).2 (.inr rfl))
     simp only [Option.bind_some,onEnd,j5 hs',hs']
     refine ⟨true,s'.set i 2,rfl,fun _=>⟨⟨by simpa using c2.len,fun j e hj=>?_,?_,fun j=>?_,fun j hj=>?_,?_⟩,.inl (List.getElem?_set_self hi')⟩,fun h=>by cases h⟩
     ·by_cases e1:i=j
      ·subst e1; rw [List.getElem?_set_self hi'] at hj; simp at hj; omega
      ·rw [List.getElem?_set_ne e1] at hj; exact c2.val j e hj
     ·refine Gd.add c2.gd hn (fun _=>c3) fun j=>?_
      unfold DF
      by_cases e1:i=j
      ·subst e1; rw [List.getElem?_set_self hi']; simp
      ·rw [List.getElem?_set_ne e1]; exact ⟨.inl,fun h=>h.resolve_right (Ne.symm e1)⟩
     ·by_cases e1:i=j
      ·subst e1; rw [List.getElem?_set_self hi',hst]; simp
      ·rw [List.getElem?_set_ne e1]
       exact (c2.opn j).trans ((hset j).trans ⟨fun h=>h.resolve_right (Ne.symm e1),.inl⟩)
     ·have h2':=c2.don j ((hset2 j).2 hj)
      by_cases e1:i=j
      ·subst e1; rw [List.getElem?_set_self hi']
      ·rw [List.getElem?_set_ne e1]; exact h2'
     ·have a1:=c9p s' i
      have a2:=c2.zer
      omega
    ·rw [c1]
     exact ⟨false,s',rfl,(fun h=>by cases h),fun _=>c2⟩
   ·by_cases he1:e=1
    ·subst he1
     exact ⟨false,st,by cases isB x<;>rfl,(fun h=>by cases h),fun _ r _ ho=>Nat.lt_irrefl _ (ho i hst)⟩
    ·refine ⟨true,st,?_,fun _=>⟨hS,?_⟩,fun h=>by cases h⟩
     ·by_cases he:e=0
      ·subst he
       have hb:isB x=false:=by
        cases hb:isB x with
        | true=>exact absurd ⟨rfl,hb⟩ hq
        | false=>rfl
       rw [hb]
       rfl
      ·have e2:(e != 0)=true:=by simpa using he
       have e3:(e != 1)=true:=by simpa using he1
       rw [e2,e3]
       rfl
     ·rcases hS.val i e hst with rfl | rfl | rfl
      ·right
       refine ⟨x,hn,?_⟩
       cases hb:isB x with
       | true=>exact absurd ⟨rfl,hb⟩ hq
       | false=>rfl
      ·exact absurd rfl he1
      ·exact .inl hst
theorem d0n (t:Api_Type)(hT:b5f t.Nodes=true)(hk:∀ x∈t.Nodes,x.Kids.length<=1100000)(hN:t.Nodes.length<=1100000)(fuel:Nat)(hf:t.Nodes.length+1<=fuel):a4m fuel t=some (b5d t.Nodes):=by
 unfold a4m c1q
 have e0:(decide (0<=(t.Nodes.length:Int))&&decide ((t.Nodes.length:Int)<=(t.Nodes.length:Int))&&decide ((t.Nodes.length:Int)*((8:Nat):Int)<=140737488355328))=true:=by
  simp; omega
 rw [e0]
 simp only [cond_true,Option.bind_some,Y2]
 have key:∀ (m a k:Nat) (s:List Int),a+m=t.Nodes.length->m+1<=k->DfsR t.Nodes s s->(∀ j:Nat,s[j]?≠some 1)->(∀ j,j<a->DF t.Nodes s j) ->
  (∃ s',iter (J0 t fuel) k ((a:Int),s)=some (.inl s')/\b5d t.Nodes=true)\/∃ s',iter (J0 t fuel) k ((a:Int),s)=some (.inr (false,s'))/\b5d t.Nodes=false:=by
  intro m
  induction m with
  | zero =>
    intro a k s b1 b2 b3 b4 b5
    obtain ⟨k,rfl⟩:∃ m,k=m+1:=⟨k-1,by omega⟩
    have e:a=t.Nodes.length:=by omega
    subst e
    have:J0 t fuel ((t.Nodes.length:Int),s)=some (.done (.inl s)):=by
     unfold J0
     simp
    exact .inl ⟨s,by simp only [iter,this,Option.bind_some],c0w.2 (b3.gd.acy b5)⟩
  | succ m ih =>
    intro a k s b1 b2 b3 b4 b5
    obtain ⟨k,rfl⟩:∃ m,k=m+1:=⟨k-1,by omega⟩
    have hz:s.count 0<=t.Nodes.length:=by rw [<- b3.len]; exact List.count_le_length
    obtain ⟨b,s',c1,c2,c3⟩:=d3R t hT hk fuel a s (by omega) (by omega) b3
    cases b with
    | true =>
      obtain ⟨c4,c5⟩:=c2 rfl
      have:J0 t fuel ((a:Int),s)=some (.next (((a+1:Nat):Int),s')):=by
       unfold J0
       rw [Z3 (show a<t.Nodes.length by omega)]
       simp only [cond_true,Option.bind_some,Y1]
       rw [c1,k8 a (by omega)]
       rfl
      simp only [iter,this,Option.bind_some]
      refine ih (a+1) k s' (by omega) (by omega) ⟨c4.len,c4.val,c4.gd,fun _=>Iff.rfl,fun _ h=>h,Nat.le_refl _⟩ (fun j h=>b4 j ((c4.opn j).1 h)) (fun j hj=>?_)
      by_cases h:j=a
      ·rw [h]; exact c5
      ·exact (b5 j (by omega)).imp (fun h=>c4.don _ h) id
    | false =>
      have:J0 t fuel ((a:Int),s)=some (.done (.inr (false,s'))):=by
       unfold J0
       rw [Z3 (show a<t.Nodes.length by omega)]
       simp only [cond_true,Option.bind_some,Y1]
       rw [c1]
       rfl
      refine .inr ⟨s',by simp only [iter,this,Option.bind_some],?_⟩
      cases hA:b5d t.Nodes with
      | false=>rfl
      | true =>
        obtain ⟨r,hr⟩:=c0w.1 hA
        exact (c3 rfl r hr fun o ho=>absurd ho (b4 o)).elim
 have hrep:∀ (j:Nat) (e:Int),(List.replicate t.Nodes.length (0:Int))[j]?=some e->e=0:=fun j e h=>by
  rw [List.getElem?_replicate] at h
  split at h
  ·simpa using h.symm
  ·cases h
 have hS:DfsR t.Nodes (List.replicate t.Nodes.length (0:Int)) (List.replicate t.Nodes.length (0:Int)) :=
  ⟨by simp,fun j e h=>.inl (hrep j e h),⟨fun _=>0,fun i x hi hx hb=>by
   rcases hi with hi | ⟨y,hy,hyb⟩
   ·have:=hrep i 2 hi; omega
   ·rw [hx] at hy; cases hy; rw [hb] at hyb; cases hyb⟩,fun _=>Iff.rfl,fun _ h=>h,Nat.le_refl _⟩
 have e':∀ s,iter (J0 t fuel) (t.Nodes.length+1) (0,s)=iter (J0 t fuel) (t.Nodes.length+1) (((0:Nat):Int),s):=fun _=>rfl
 rw [e']
 rcases key t.Nodes.length 0 (t.Nodes.length+1) (List.replicate t.Nodes.length (0:Int)) (by omega) (Nat.le_refl _) hS (fun j h=>by have:=hrep j 1 h; omega) (fun j hj=>by omega) with ⟨s',e,hA⟩ | ⟨s',e,hA⟩
 ·rw [e,hA]; rfl
 ·rw [e,hA]; rfl
theorem d3I (t:Api_Type)(hk:∀ x∈t.Nodes,x.Kids.length<=1100000/\x.Fields.length<=1100000)(hN:t.Nodes.length<=1100000)(fuel:Nat)(hf:t.Nodes.length+1<=fuel):a09 fuel t=some (if inR t.Nodes.length t.Root&&b5f t.Nodes then (if b5d t.Nodes then 0 else 3) else 1):=by
 have l2:iter (a3G t) (t.Nodes.length+1) 0=some (if t.Nodes.all (X3 t.Nodes.length)=true then .inl () else .inr 1):=by
  refine a0P t.Nodes (X3 t.Nodes.length) (fun i=>(i:Int)) () 1 ?_ ?_
  ·intro i x hx
   have hi:i<t.Nodes.length:=(List.getElem?_eq_some_iff.1 hx).1
   obtain ⟨hk1,hk2⟩:=hk x (List.mem_of_getElem? hx)
   unfold a3G
   rw [Z3 hi,j5 hx]
   simp only [cond_true,Option.bind_some,c98,c95 x (by omega),Y1,Y2]
   rw [<- c9n,k8 i (by omega)]
   cases b8R x
   ·rfl
   cases b9g x
   ·rfl
   simp only [Bool.not_true,cond_false,Option.bind_some,Bool.true_and]
   rw [d04 x hk1 hk2]
   simp only [Option.bind_some]
   have he:(a6F x).length<=4194304:=by
    unfold a6F
    simp only [List.length_append,List.length_map]
    split<;>simp<;>omega
   have l1:iter (a3x t (a6F x)) ((a6F x).length+1) 0=some (if (a6F x).all (inR t.Nodes.length)=true then .inl () else .inr 1):=by
    refine a0P (a6F x) (inR t.Nodes.length) (fun i=>(i:Int)) () 1 ?_ ?_
    ·intro j y hy
     have hj:j<(a6F x).length:=(List.getElem?_eq_some_iff.1 hy).1
     unfold a3x
     rw [Z3 hj,j5 hy]
     simp only [cond_true,Option.bind_some,Y1]
     rw [k8 j (by omega)]
     unfold inR
     by_cases h1:y<0
     ·have a1:decide (y<0)=true:=by simpa using h1
      have a2:decide (0<=y)=false:=by simp; omega
      rw [a1,a2]; rfl
     ·have a1:decide (y<0)=false:=by simpa using h1
      have a2:decide (0<=y)=true:=by simp; omega
      rw [a1,a2]
      by_cases h2:y<(t.Nodes.length:Int)
      ·have a3:decide ((t.Nodes.length:Int)<=y)=false:=by simp; omega
       have a4:decide (y<(t.Nodes.length:Int))=true:=by simpa using h2
       rw [a3,a4]; rfl
      ·have a3:decide ((t.Nodes.length:Int)<=y)=true:=by simp; omega
       have a4:decide (y<(t.Nodes.length:Int))=false:=by simpa using h2
       rw [a3,a4]; rfl
    ·unfold a3x
     simp
   rw [l1]
   cases (a6F x).all (inR t.Nodes.length)<;>rfl
  ·unfold a3G
   simp
 unfold a09
 rw [Y2,l2]
 have hq:(Option.bind (bif decide (t.Root<0) then some true else some (decide ((t.Nodes.length:Int)<=t.Root))) fun q=>some q)=some (!inR t.Nodes.length t.Root):=by
  unfold inR
  by_cases h1:t.Root<0
  ·have a1:decide (t.Root<0)=true:=by simpa using h1
   have a2:decide (0<=t.Root)=false:=by simp; omega
   rw [a1,a2]; rfl
  ·have a1:decide (t.Root<0)=false:=by simpa using h1
   have a2:decide (0<=t.Root)=true:=by simp; omega
   rw [a1,a2]
   by_cases h2:t.Root<(t.Nodes.length:Int)
   ·have a3:decide ((t.Nodes.length:Int)<=t.Root)=false:=by simp; omega
    have a4:decide (t.Root<(t.Nodes.length:Int))=true:=by simpa using h2
    rw [a3,a4]; rfl
   ·have a3:decide ((t.Nodes.length:Int)<=t.Root)=true:=by simp; omega
    have a4:decide (t.Root<(t.Nodes.length:Int))=false:=by simpa using h2
    rw [a3,a4]; rfl
 rw [V2] at hq
 rw [hq]
 simp only [Option.bind_some]
 cases inR t.Nodes.length t.Root
 ·rfl
 show _=some (if b5f t.Nodes=true then (if b5d t.Nodes then (0:Int) else 3) else 1)
 cases hA:b5f t.Nodes with
 | true =>
   have hA':t.Nodes.all (X3 t.Nodes.length)=true:=hA
   rw [hA']
   simp only [Bool.not_true,cond_false,if_true,Option.bind_some,onEnd]
   rw [d0n t hA (fun x hx=>(hk x hx).1) hN fuel hf]
   cases b5d t.Nodes<;>rfl
 | false =>
   have hA':t.Nodes.all (X3 t.Nodes.length)=false:=hA
   rw [hA']
   rfl
theorem d4A (t:Api_Type)(hO:c7S t.Nodes)(hk:∀ x∈t.Nodes,x.Kids.length<=1100000/\x.Fields.length<=1100000)(hN:t.Nodes.length<=1100000)(fuel:Nat)(hf:t.Nodes.length+1<=fuel):a09 fuel t=some (if inR t.Nodes.length t.Root&&b5f t.Nodes then 0 else 1):=by
 rw [d3I t hk hN fuel hf]
 cases hA:b5f t.Nodes with
 | false=>rw [Bool.and_false]; rfl
 | true=>rw [hO.acy hA]; rfl
end Go.Pl
namespace Go.Pl
open Go Go.RowKit Go.Sx Go.Qx
end Go.Pl
end
section
namespace Go.Pl
open Go Go.RowKit Go.Sx Go.Qx
structure GN (N i:Nat)(x:Api_TypeNode):Prop where
 ok:X3 N x=true
 ord:isB x=true->∀ k∈x.Kids,(i:Int)<k
 kids:x.Kids.length<=4
 text:x.Text.size<=5
 flds:x.Fields.length<=3
 keys:∀ f∈x.Fields,a6I f.Key_<=8
 rng : -9223372036854775808<=x.Lo/\x.Lo<=9223372036854775807 /\ -9223372036854775808<=x.Hi/\x.Hi<=9223372036854775807
theorem b6n {N M:Nat}(h:N<=M){k:Int}(hk:inR N k=true):inR M k=true:=by
 unfold inR at *
 simp only [Bool.and_eq_true,decide_eq_true_eq] at *
 omega
theorem c5A {α:Type}{p q:α->Bool}{l:List α}(h:∀ x,p x=true->q x=true)(k:l.all p=true):l.all q=true:=List.all_eq_true.2 fun x hx=>h x (List.all_eq_true.1 k x hx)
theorem c8p {N M:Nat}(h:N<=M){x:Api_TypeNode}(hx:X3 N x=true):X3 M x=true:=by
 unfold X3 at *
 simp only [Bool.and_eq_true] at *
 refine ⟨c5A (fun k=>b6n h) hx.1,hx.2.1,hx.2.2.1,hx.2.2.2.1,?_⟩
 have hk:=hx.2.2.2.2
 unfold a2T at *
 split<;>rename_i h3
 ·rwa [if_pos h3] at hk
 rw [if_neg h3] at hk
 split<;>rename_i h4
 ·rwa [if_pos h4] at hk
 rw [if_neg h4] at hk
 split<;>rename_i h6
 ·rwa [if_pos h6] at hk
 rw [if_neg h6] at hk
 split<;>rename_i h19
 ·rwa [if_pos h19] at hk
 rw [if_neg h19] at hk
 split<;>rename_i hs
 ·rwa [if_pos hs] at hk
 rw [if_neg hs] at hk
 split<;>rename_i h10
 ·rwa [if_pos h10] at hk
 rw [if_neg h10] at hk
 split<;>rename_i h12
 ·rwa [if_pos h12] at hk
 rw [if_neg h12] at hk
 split<;>rename_i h14
 ·rwa [if_pos h14] at hk
 rw [if_neg h14] at hk
 split<;>rename_i h16
 ·rwa [if_pos h16] at hk
 rw [if_neg h16] at hk
 split<;>rename_i h18
 ·rwa [if_pos h18] at hk
 rw [if_neg h18] at hk
 split<;>rename_i h13
 ·rw [if_pos h13] at hk
  unfold a9U at *
  simp only [Bool.and_eq_true] at *
  exact ⟨⟨hk.1.1,hk.1.2.1,c5A (fun f=>b6n h) hk.1.2.2⟩,hk.2.1,b6n h hk.2.2.1,b6n h hk.2.2.2⟩
 ·rwa [if_neg h13] at hk
theorem GN.mono {N M i:Nat}{x:Api_TypeNode}(h:GN N i x)(k:N<=M):GN M i x:=⟨c8p k h.ok,h.ord,h.kids,h.text,h.flds,h.keys,h.rng⟩
abbrev b3w (k:Int)(l:List Int):Api_TypeNode:=Api_TypeNode.mk k 0 0 (⟨#[]⟩:ByteArray) l ([]:List Api_Field) (0,0)
abbrev d4T (k:Int)(s:ByteArray):Api_TypeNode:=Api_TypeNode.mk k 0 0 s ([]:List Int) ([]:List Api_Field) (0,0)
theorem b0D {N i:Nat}{k:Int}{l:List Int}(hl:l.all (inR N)=true)(h4:l.length<=4)(hk:a2T N (b3w k l)=true)(ho:k=16\/k=17\/k=18->∀ x∈l,(i:Int)<x):GN N i (b3w k l):=by
 refine ⟨?_,fun hb=>ho ?_,h4,by show (⟨#[]⟩:ByteArray).size<=5; decide,by show (0:Nat)<=3; omega,(fun f hf=>by cases hf),by show (-9223372036854775808:Int)<=0/\(0:Int)<=9223372036854775807/\(-9223372036854775808:Int)<=0/\(0:Int)<=9223372036854775807; decide⟩
 ·unfold X3
  rw [hk]
  simp [hl,a73,a7Q]
 ·unfold isB at hb
  simp at hb
  omega
theorem c5n {N i:Nat}{k:Int}{s:ByteArray}(hs:s.size<=5)(hk:(k=4)\/(k=6/\a5k s=true)\/(k=19/\a6j s=true)):GN N i (d4T k s):=by
 refine ⟨?_,fun hb=>?_,by show (0:Nat)<=4; omega,hs,by show (0:Nat)<=3; omega,(fun f hf=>by cases hf),by show (-9223372036854775808:Int)<=0/\(0:Int)<=9223372036854775807/\(-9223372036854775808:Int)<=0/\(0:Int)<=9223372036854775807; decide⟩
 ·have h64:(s.size:Int)<=64:=by omega
  rcases hk with rfl | ⟨rfl,h⟩ | ⟨rfl,h⟩
  ·simp [X3,a2T,a7Q,h64]
  ·simp [X3,a2T,a7Q,h]
  ·simp [X3,a2T,a7Q,h]
 ·intro x hx; cases hx
section
variable {L:List Int}
theorem c12 {γ σ τ:Type}{step:σ->Option (Fl σ τ)}(pack:γ->Int->Semtypebase_Source->σ)(out:γ->Semtypebase_Source->τ)(Inv:Nat->γ->Prop)(J:Nat)
 (hst:∀ (j:Nat) (g:γ) (s:Semtypebase_Source),j<J->Inv j g->OS L s->∃ g' s',step (pack g (j:Int) s)=some (.next (pack g' ((j+1:Nat):Int) s'))/\OS L s'/\Inv (j+1) g')
 (hend:∀ g s,step (pack g (J:Int) s)=some (.done (out g s))) :
 ∀ (n j k:Nat) (g:γ) (s:Semtypebase_Source),j+n=J->n+1<=k->Inv j g->OS L s->∃ g' s',iter step k (pack g (j:Int) s)=some (out g' s')/\OS L s'/\Inv J g':=by
 intro n
 induction n with
 | zero =>
   intro j k g s hJ hk hI hs
   obtain ⟨k,rfl⟩:∃ m,k=m+1:=⟨k-1,by omega⟩
   have e:j=J:=by omega
   subst e
   exact ⟨g,s,by have:=hend g s; simp [iter,this],hs,hI⟩
 | succ n ih =>
   intro j k g s hJ hk hI hs
   obtain ⟨k,rfl⟩:∃ m,k=m+1:=⟨k-1,by omega⟩
   obtain ⟨g1,s1,e,hs1,hI1⟩:=hst j g s (by omega) hI hs
   obtain ⟨g2,s2,e2,hs2,hI2⟩:=ih (j+1) k g1 s1 (by omega) (by omega) hI1 hs1
   refine ⟨g2,s2,?_,hs2,hI2⟩
   simp only [iter,e,Option.bind_some]
   exact e2
theorem c6r (hL:L.length<=4194304){s:Semtypebase_Source}(h:OS L s)(m i N:Nat)(hm:m<=4)(hi:i<N)(hN:N<=100) :
 ∃ l t,k9 s (m:Int) (i:Int) (N:Int)=some (l,t)/\OS L t/\l.length=m/\∀ k∈l,(i:Int)<=k/\k<(N:Int):=by
 unfold k9
 obtain ⟨g,s',e,hs',h1,h2⟩:=a7l (γ:=List Int) (L:=L) (step:=a1r (i:Int) (N:Int)) (fun g j s=>(j,g,s)) (fun g s=>(g,s)) (fun j g=>g.length=j/\∀ k∈g,(i:Int)<=k/\k<(N:Int)) m
  (fun j n g s hj hn hI hs=>by
    obtain ⟨x,t,e,ht,a,b⟩:=Y6 hL hs (n:=w64 ((N:Int)-(i:Int))) (by rw [Q8 (by omega) (by omega)]; omega) (by rw [Q8 (by omega) (by omega)]; omega)
    rw [Q8 (by omega) (by omega)] at b
    have hw:w64 ((i:Int)+x)=(i:Int)+x:=Q8 (by omega) (by omega)
    refine ⟨g++[(i:Int)+x],t,?_,ht,?_,?_⟩
    ·unfold a1r
     simp only [Y1]
     rw [show decide (0<((n+1:Nat):Int))=true from decide_eq_true (by omega),e]
     simp only [cond_true,Option.bind_some,hw]
     rw [Z6 (by simp only [List.length_cons,List.length_nil]; have:=hI.1; omega),show w64 (((n+1:Nat):Int)-1)=(n:Int) by rw [Q8 (by omega) (by omega)]; omega]
     rfl
    ·simp [hI.1]
    ·intro k hk
     rcases List.mem_append.1 hk with hk | hk
     ·exact hI.2 k hk
     ·rw [List.mem_singleton.1 hk]; omega) (fun g s=>by
    unfold a1r
    rfl) m 0 ((m:Int).toNat+2) [] s (by omega) (by omega) ⟨rfl,fun k hk=>by cases hk⟩ h
 rw [e]
 exact ⟨g,s',rfl,hs',by simpa using h1,h2⟩
theorem b3a {N:Nat}{k:Int}(h0:0<=k)(h1:k<(N:Int)):inR N k=true:=by
 unfold inR
 simp [h0,h1]
theorem b2v {N i:Nat}{l:List Int}(h:∀ k∈l,(i:Int)<=k/\k<(N:Int)):l.all (inR N)=true:=List.all_eq_true.2 fun k hk=>by
 have:=h k hk
 exact b3a (by omega) this.2
abbrev d3i:Key:=Key.mk 0 ⟨#[97]⟩
abbrev d29:Key:=Key.mk 0 ⟨#[98]⟩
abbrev c8d:Key:=Key.mk 1 ⟨#[115]⟩
abbrev d5g:Type:=Int×Int×Int×ByteArray×(List Int)×(List Api_Field)×Int×Int
abbrev c22 (F:List Api_Field)(a b:Int):d5g:=(13,0,0,(⟨#[]⟩:ByteArray),[],F,a,b)
theorem b8T (hL:L.length<=4194304){s:Semtypebase_Source}(h:OS L s)(N j:Nat)(hN:1<=N)(hN2:N<=100)(hj:j<3)(K:Key)(hK:[d3i,d29,c8d][j]?=some K)(F:List Api_Field)(hF:F.length<=j)(a b:Int) :
 ∃ O t,W7 (N:Int) ((j:Int),s,c22 F a b)=some (.next (((j+1:Nat):Int),t,c22 (F++O) a b))/\OS L t/\(O=[]\/∃ n o,O=[Api_Field.mk K n o]/\inR N n=true):=by
 obtain ⟨x,t,e,ht,_,_⟩:=Y6 hL h (n:=2) (by omega) (by omega)
 unfold W7
 simp only [Y1]
 rw [show decide ((j:Int)<3)=true from decide_eq_true (by omega),e]
 simp only [cond_true,Option.bind_some]
 rw [k8 j (by omega)]
 cases hx:x==1
 ·exact ⟨[],t,by simp only [cond_false,Option.bind_some,List.append_nil],ht,.inl rfl⟩
 ·simp only [cond_true]
  rw [j5 hK]
  obtain ⟨n,t2,e2,ht2,n0,n1⟩:=Y6 hL ht (n:=(N:Int)) (by omega) (by omega)
  obtain ⟨o,t3,e3,ht3,_,_⟩:=Y6 hL ht2 (n:=2) (by omega) (by omega)
  simp only [Option.bind_some,e2,e3]
  rw [Z6 (by simp only [List.length_cons,List.length_nil]; omega)]
  exact ⟨[Api_Field.mk K n (o==1)],t3,rfl,ht3,.inr ⟨n,_,rfl,b3a n0 n1⟩⟩
theorem c6w (hL:L.length<=4194304){s:Semtypebase_Source}(h:OS L s)(N i:Nat)(hN:1<=N)(hN2:N<=100):∃ x t,a2i s (N:Int)=some (x,t)/\OS L t/\GN N i x:=by
 obtain ⟨a,t1,e1,ht1,a0,a1⟩:=Y6 hL h (n:=(N:Int)) (by omega) (by omega)
 obtain ⟨b,t2,e2,ht2,b0,b1⟩:=Y6 hL ht1 (n:=(N:Int)) (by omega) (by omega)
 obtain ⟨O0,t3,e3,ht3,h0⟩:=b8T hL ht2 N 0 hN hN2 (by omega) d3i rfl [] (by simp) a b
 have l0:O0.length<=1:=by rcases h0 with rfl | ⟨n,o,rfl,_⟩<;>simp
 obtain ⟨O1,t4,e4,ht4,h1⟩:=b8T hL ht3 N 1 hN hN2 (by omega) d29 rfl ([]++O0) (by simpa using l0) a b
 have l1:O1.length<=1:=by rcases h1 with rfl | ⟨n,o,rfl,_⟩<;>simp
 obtain ⟨O2,t5,e5,ht5,h2⟩:=b8T hL ht4 N 2 hN hN2 (by omega) c8d rfl (([]++O0)++O1) (by simp; omega) a b
 have e6:W7 (N:Int) (((2+1:Nat):Int),t5,c22 ((([]++O0)++O1)++O2) a b)=some (.done (t5,c22 ((([]++O0)++O1)++O2) a b)):=rfl
 refine ⟨Api_TypeNode.mk 13 0 0 (⟨#[]⟩:ByteArray) [] (O0++O1++O2) (a,b),t5,?_,ht5,?_⟩
 ·unfold a2i
  rw [e1]
  simp only [Option.bind_some]
  rw [e2]
  simp only [Option.bind_some]
  have ei:iter (W7 (N:Int)) ((3:Int).toNat+1) (0,t2,(13,0,0,(⟨#[]⟩:ByteArray),[],[],a,b))=some (t5,c22 ((([]++O0)++O1)++O2) a b):=by
   show iter (W7 (N:Int)) (3+1) (((0:Nat):Int),t2,c22 [] a b)=_
   simp only [iter,e3,e4,e5,e6,Option.bind_some]
  rw [ei]
  rfl
 ·refine ⟨?_,fun hb=>absurd hb (show ¬ (false=true) by simp),by show (0:Nat)<=4; omega,by show (⟨#[]⟩:ByteArray).size<=5; decide,?_,?_,by show (-9223372036854775808:Int)<=0/\(0:Int)<=9223372036854775807/\(-9223372036854775808:Int)<=0/\(0:Int)<=9223372036854775807; decide⟩
  ·have ha:=b3a (N:=N) a0 a1
   have hb:=b3a (N:=N) b0 b1
   have hF:a9U N (O0++O1++O2)=true:=by
    unfold a9U
    rw [Bool.and_eq_true,Bool.and_eq_true]
    refine ⟨?_,?_,?_⟩
    ·rcases h0 with rfl | ⟨n,o,rfl,_⟩<;>rcases h1 with rfl | ⟨n',o',rfl,_⟩<;>rcases h2 with rfl | ⟨n'',o'',rfl,_⟩<;>kernel_rfl
    ·rcases h0 with rfl | ⟨n,o,rfl,_⟩<;>rcases h1 with rfl | ⟨n',o',rfl,_⟩<;>rcases h2 with rfl | ⟨n'',o'',rfl,_⟩<;>kernel_rfl
    ·rcases h0 with rfl | ⟨n,o,rfl,q0⟩<;>rcases h1 with rfl | ⟨n',o',rfl,q1⟩<;>rcases h2 with rfl | ⟨n'',o'',rfl,q2⟩<;>simp_all
   unfold X3 a2T
   simp only [hF,ha,hb,a73]
   simp
  ·show (O0++O1++O2).length<=3
   have l2:O2.length<=1:=by rcases h2 with rfl | ⟨n,o,rfl,_⟩<;>simp
   simp only [List.length_append]
   omega
  ·intro f hf
   have hf:f∈O0++O1++O2:=hf
   have one:∀ {O:List Api_Field} {K:Key},(O=[]\/∃ n o,O=[Api_Field.mk K n o]/\inR N n=true)->f∈O->f.Key_=K:=fun hO hm=>by
    rcases hO with rfl | ⟨n,o,rfl,_⟩
    ·cases hm
    ·rw [List.mem_singleton.1 hm]
   rcases List.mem_append.1 hf with hf | hf
   ·rcases List.mem_append.1 hf with hf | hf
    ·rw [one h0 hf]; decide
    ·rw [one h1 hf]; decide
   ·rw [one h2 hf]; decide
end
end Go.Pl
namespace Go.Pl
open Go Go.RowKit Go.Sx Go.Qx
theorem b8b {N i:Nat}{k:Int}(hk:k=1\/k=2\/k=5\/k=7\/k=8\/k=9\/k=11\/k=15):GN N i (b3w k []) :=
 b0D rfl (by simp) (by rcases hk with rfl | rfl | rfl | rfl | rfl | rfl | rfl | rfl<;>rfl) (fun _ x hx=>by cases hx)
theorem c9t {N i:Nat}{lo hi:Int}(h:lo<=hi)(h2 : -9223372036854775808<=lo/\lo<=9223372036854775807 /\ -9223372036854775808<=hi/\hi<=9223372036854775807):GN N i (Api_TypeNode.mk 3 lo hi (⟨#[]⟩:ByteArray) ([]:List Int) ([]:List Api_Field) (0,0)) :=
 ⟨by simp [X3,a2T,a7Q,a73,h],(fun _ x hx=>by cases hx),(by show (0:Nat)<=4; omega),(by show (⟨#[]⟩:ByteArray).size<=5; decide),(by show (0:Nat)<=3; omega),(fun f hf=>by cases hf),h2⟩
theorem c8T:b9x.all (fun x=>a6j x&&decide (x.size<=5))=true:=by kernel_rfl
section
variable {L:List Int}
theorem a9a {x:Int}(h:0<=x):∃ m:Nat,x=(m:Int):=⟨x.toNat,by omega⟩
theorem d0Y (hL:L.length<=4194304){s:Semtypebase_Source}(h:OS L s)(N i:Nat)(hi:i<N)(hN2:N<=100):∃ x t,a3i s (i:Int) (N:Int)=some (x,t)/\OS L t/\GN N i x:=by
 have hw:w64 ((N:Int)-1)=(N:Int)-1:=Q8 (by omega) (by omega)
 have hwi:=k8 i (by omega)
 obtain ⟨b,hb,hlast,hb18⟩:∃ b:Int,(bif ((i:Int)==(wr .i64 ((N:Int)-1))) then (some 14:Option Int) else some 18)=some b/\(14<b->i+1<N)/\(b=14\/b=18):=by
  by_cases e:i+1=N
  ·refine ⟨14,?_,fun h=>by omega,.inl rfl⟩
   have:((i:Int)==(N:Int)-1)=true:=by simp; omega
   simp only [Y1,hw,this,cond_true]
  ·refine ⟨18,?_,fun _=>by omega,.inr rfl⟩
   have:((i:Int)==(N:Int)-1)=false:=by simp; omega
   simp only [Y1,hw,this,cond_false]
 unfold a3i
 rw [hb]
 simp only [Option.bind_some]
 obtain ⟨c,t,e,ht,c0,c1⟩:=Y6 hL h (n:=b) (by omega) (by omega)
 rw [e]
 simp only [Option.bind_some]
 have ix:∀ {s:Semtypebase_Source},OS L s->∀ (m f:Nat),m<=4->f<N->∃ l t,k9 s (m:Int) (f:Int) (N:Int)=some (l,t)/\OS L t/\l.length=m/\∀ k∈l,(f:Int)<=k/\k<(N:Int):=fun hs m f hm hf=>c6r hL hs m f N hm hf hN2
 have hc:c=0\/c=1\/c=2\/c=3\/c=4\/c=5\/c=6\/c=7\/c=8\/c=9\/c=10\/c=11\/c=12\/c=13\/c=14\/c=15\/c=16\/c=17:=by omega
 have tup:∀ {s:Semtypebase_Source},OS L s->∃ x t,(Option.bind (z8 s 3) fun r19=>Option.bind (k9 r19.2 r19.1 0 (N:Int)) fun r20=>some (b3w 10 r20.1,r20.2))=some (x,t)/\OS L t/\GN N i x:=fun hs=>by
  obtain ⟨m,t2,e2,ht2,m0,m1⟩:=Y6 hL hs (n:=3) (by omega) (by omega)
  obtain ⟨m,rfl⟩:=a9a m0
  obtain ⟨l,t3,e3,ht3,hl,hr⟩:=ix ht2 m 0 (by omega) (by omega)
  rw [e2]
  simp only [Option.bind_some]
  have e3':k9 t2 (m:Int) 0 (N:Int)=some (l,t3):=e3
  rw [e3']
  refine ⟨_,t3,rfl,ht3,b0D (l:=l) (b2v hr) (show l.length<=4 by omega) ?_ (fun h=>by omega)⟩
  show decide ((l.length:Int)<=4)=true
  exact decide_eq_true (by omega)
 have fun_:∀ {s:Semtypebase_Source},OS L s->∃ x t,(Option.bind (z8 s 3) fun r24=>Option.bind (k9 r24.2 (w64 (1+r24.1)) 0 (N:Int)) fun r25=>some (b3w 14 r25.1,r25.2))=some (x,t)/\OS L t/\GN N i x:=fun hs=>by
  obtain ⟨m,t2,e2,ht2,m0,m1⟩:=Y6 hL hs (n:=3) (by omega) (by omega)
  obtain ⟨m,rfl⟩:=a9a m0
  obtain ⟨l,t3,e3,ht3,hl,hr⟩:=ix ht2 (m+1) 0 (by omega) (by omega)
  rw [e2]
  simp only [Option.bind_some]
  have e3':k9 t2 (w64 (1+(m:Int))) 0 (N:Int)=some (l,t3):=by
   rw [Q8 (by omega) (by omega),show 1+(m:Int)=((m+1:Nat):Int) by omega]
   exact e3
  rw [e3']
  refine ⟨_,t3,rfl,ht3,b0D (l:=l) (b2v hr) (show l.length<=4 by omega) ?_ (fun h=>by omega)⟩
  show (decide (1<=(l.length:Int))&&decide ((l.length:Int)<=5))=true
  rw [Bool.and_eq_true]
  exact ⟨decide_eq_true (by omega),decide_eq_true (by omega)⟩
 have uni:i+1<N->∀ {s:Semtypebase_Source},OS L s->∃ x t,(Option.bind (z8 s 2) fun r28=>Option.bind (k9 r28.2 (w64 (2+r28.1)) (w64 ((i:Int)+1)) (N:Int)) fun r29=>some (b3w 16 r29.1,r29.2))=some (x,t)/\OS L t/\GN N i x:=fun hlt s hs=>by
  obtain ⟨m,t2,e2,ht2,m0,m1⟩:=Y6 hL hs (n:=2) (by omega) (by omega)
  obtain ⟨m,rfl⟩:=a9a m0
  obtain ⟨l,t3,e3,ht3,hl,hr⟩:=ix ht2 (m+2) (i+1) (by omega) hlt
  rw [e2]
  simp only [Option.bind_some]
  have e3':k9 t2 (w64 (2+(m:Int))) (w64 ((i:Int)+1)) (N:Int)=some (l,t3):=by
   rw [Q8 (x:=2+(m:Int)) (by omega) (by omega),hwi,show 2+(m:Int)=((m+2:Nat):Int) by omega]
   exact e3
  rw [e3']
  refine ⟨_,t3,rfl,ht3,b0D (l:=l) (b2v hr) (show l.length<=4 by omega) ?_ (fun _ x hx=>by have:=hr x hx; omega)⟩
  show decide (1<=(l.length:Int))=true
  exact decide_eq_true (by omega)
 rcases hc with rfl | rfl | rfl | rfl | rfl | rfl | rfl | rfl | rfl | rfl | rfl | rfl | rfl | rfl | rfl | rfl | rfl | rfl<;>simp only [Int.reduceBEq,cond_true,cond_false,Option.bind_some,Y1]
 ·obtain ⟨a,t2,e2,ht2,a0,a1⟩:=Y6 hL ht (n:=5) (by omega) (by omega)
  obtain ⟨d,t3,e3,ht3,d0,d1⟩:=Y6 hL ht2 (n:=w64 (5-a)) (by rw [Q8 (by omega) (by omega)]; omega) (by rw [Q8 (by omega) (by omega)]; omega)
  rw [Q8 (x:=5-a) (by omega) (by omega)] at d1
  rw [e2]
  simp only [Option.bind_some]
  rw [e3]
  simp only [Option.bind_some]
  rw [Q8 (x:=a+d) (by omega) (by omega)]
  have ha:a=0\/a=1\/a=2\/a=3\/a=4:=by omega
  have hd:d=0\/d=1\/d=2\/d=3\/d=4:=by omega
  rcases ha with rfl | rfl | rfl | rfl | rfl<;>rcases hd with rfl | rfl | rfl | rfl | rfl<;>first | (exfalso; omega) | exact ⟨_,t3,rfl,ht3,c9t (by decide) (by decide)⟩
 ·obtain ⟨x,t2,e2,ht2,hx⟩:=b0w hL ht
  have hf:=List.all_eq_true.1 b1Y x hx
  simp only [Bool.and_eq_true,decide_eq_true_eq] at hf
  rw [e2]
  exact ⟨_,t2,rfl,ht2,c5n hf.2 (.inr (.inl ⟨rfl,hf.1⟩))⟩
 ·exact ⟨_,t,rfl,ht,b8b (by omega)⟩
 ·obtain ⟨x,t2,e2,ht2,hx⟩:=b9s hL ht
  have hf:=List.all_eq_true.1 b1G x hx
  simp only [decide_eq_true_eq] at hf
  rw [e2]
  exact ⟨_,t2,rfl,ht2,c5n hf (.inl rfl)⟩
 ·obtain ⟨a,t2,e2,ht2,a0,a1⟩:=Y6 hL ht (n:=4) (by omega) (by omega)
  rw [e2]
  have ha:a=0\/a=1\/a=2\/a=3:=by omega
  rcases ha with rfl | rfl | rfl | rfl<;>exact ⟨_,t2,rfl,ht2,b8b (by omega)⟩
 ·exact ⟨_,t,rfl,ht,b8b (by omega)⟩
 ·obtain ⟨a,t2,e2,ht2,a0,a1⟩:=Y6 hL ht (n:=2) (by omega) (by omega)
  rw [e2]
  have ha:a=0\/a=1:=by omega
  rcases ha with rfl | rfl<;>exact ⟨_,t2,rfl,ht2,b8b (by omega)⟩
 ·obtain ⟨x,t2,e2,ht2,hx⟩:=c0X hL ht
  have hf:=List.all_eq_true.1 c8T x hx
  simp only [Bool.and_eq_true,decide_eq_true_eq] at hf
  rw [e2]
  exact ⟨_,t2,rfl,ht2,c5n hf.2 (.inr (.inr ⟨rfl,hf.1⟩))⟩
 ·exact tup ht
 ·exact tup ht
 ·obtain ⟨l,t3,e3,ht3,hl,hr⟩:=ix ht 2 0 (by omega) (by omega)
  have e3':k9 t 2 0 (N:Int)=some (l,t3):=e3
  rw [e3']
  refine ⟨_,t3,rfl,ht3,b0D (l:=l) (b2v hr) (show l.length<=4 by omega) ?_ (fun h=>by omega)⟩
  show ((l.length:Int)==2)=true
  simp [hl]
 ·obtain ⟨x,t2,e2,ht2,hg⟩:=c6w hL ht N i (by omega) hN2
  rw [e2]
  exact ⟨x,t2,rfl,ht2,hg⟩
 ·exact fun_ ht
 ·exact fun_ ht
 ·have hlt:=hlast (by omega)
  obtain ⟨l,t3,e3,ht3,hl,hr⟩:=ix ht 1 (i+1) (by omega) hlt
  have e3':k9 t 1 (w64 ((i:Int)+1)) (N:Int)=some (l,t3):=by rw [hwi]; exact e3
  rw [e3']
  refine ⟨_,t3,rfl,ht3,b0D (l:=l) (b2v hr) (show l.length<=4 by omega) ?_ (fun _ x hx=>by have:=hr x hx; omega)⟩
  show ((l.length:Int)==1)=true
  simp [hl]
 ·have hlt:=hlast (by omega)
  obtain ⟨l,t3,e3,ht3,hl,hr⟩:=ix ht 2 (i+1) (by omega) hlt
  have e3':k9 t 2 (w64 ((i:Int)+1)) (N:Int)=some (l,t3):=by rw [hwi]; exact e3
  rw [e3']
  refine ⟨_,t3,rfl,ht3,b0D (l:=l) (b2v hr) (show l.length<=4 by omega) ?_ (fun _ x hx=>by have:=hr x hx; omega)⟩
  show decide (1<=(l.length:Int))=true
  exact decide_eq_true (by omega)
 ·exact uni (hlast (by omega)) ht
 ·exact uni (hlast (by omega)) ht
def GNs (N:Nat)(ns:List Api_TypeNode):Prop:=∀ (i:Nat) (x:Api_TypeNode),ns[i]?=some x->GN N i x
theorem GNs.snoc {N:Nat}{ns:List Api_TypeNode}{x:Api_TypeNode}(h:GNs N ns)(hx:GN N ns.length x):GNs N (ns++[x]):=fun i y hy=>by
 by_cases hi:i<ns.length
 ·rw [List.getElem?_append_left hi] at hy
  exact h i y hy
 ·have hlt:=(List.getElem?_eq_some_iff.1 hy).1
  simp only [List.length_append,List.length_cons,List.length_nil] at hlt
  have e:i=ns.length:=by omega
  subst e
  simp at hy
  subst hy
  exact hx
theorem d0k (hL:L.length<=4194304){s:Semtypebase_Source}(h:OS L s)(N:Nat)(hN:1<=N)(hN2:N<=100):∃ ns t,a1N s (N:Int)=some (Api_Type.mk ns 0,t)/\OS L t/\ns.length=N/\GNs N ns:=by
 unfold a1N
 have hmax:max (N:Int) 1=(N:Int):=by omega
 rw [hmax,Int.toNat_natCast]
 obtain ⟨g,s',e,hs',h1,h2⟩:=c12 (γ:=List Api_TypeNode) (L:=L) (step:=a0X (N:Int)) (fun g j s=>(j,s,(g,0))) (fun g s=>(s,(g,0))) (fun j g=>g.length=j/\GNs N g) N
  (fun j g s hj hI hs=>by
    obtain ⟨x,t,e,ht,hx⟩:=d0Y hL hs N j hj hN2
    refine ⟨g++[x],t,?_,ht,by simp [hI.1],hI.2.snoc (by rw [hI.1]; exact hx)⟩
    unfold a0X
    simp only [Y1,hmax]
    rw [Z3 hj,e]
    simp only [cond_true,Option.bind_some]
    rw [Z6 (by simp only [List.length_cons,List.length_nil]; have:=hI.1; omega),k8 j (by omega)]
    rfl) (fun g s=>by
    unfold a0X
    simp [hmax]) N 0 (N+1) [] s (by omega) (Nat.le_refl _) ⟨rfl,fun i x hx=>by simp at hx⟩ h
 have e':iter (a0X (N:Int)) (N+1) (0,s,([],0))=some (s',(g,0)):=e
 rw [e']
 exact ⟨g,s',rfl,hs',h1,h2⟩
end
end Go.Pl
end
section
namespace Go.Pl
open Go Go.RowKit Go.Sx Go.Qx
theorem c7O {a b:ByteArray}(h:cS a b=0):a=b:=by
 rcases b9d a.data.toList b.data.toList with ⟨_,e,_⟩ | ⟨_,_,e⟩ | ⟨_,e,_⟩
 ·have:cS a b = -1:=e
  omega
 ·exact ByteArray.ext (Array.toList_inj.1 e)
 ·have:cS a b=1:=e
  omega
theorem d4H {a b:Key}(h:cK a b=0):a=b:=by
 obtain ⟨k,t⟩:=a
 obtain ⟨k2,t2⟩:=b
 unfold cK tn at h
 simp only at h
 rcases K4 k k2 with ⟨_,e⟩ | ⟨_,e⟩ | ⟨p,e⟩
 ·rw [e] at h; simp at h
 ·rw [e] at h; simp at h
 ·rw [e,if_pos rfl] at h
  rw [p,c7O h]
theorem d0d (a b c:Key)(h1:cK a b<=0)(h2:cK b c<=0):cK a c<=0:=by rw [c8r] at *; exact c0x _ _ _ h1 h2
theorem c9S {a b c:Key}(h1:cK a b<0)(h2:cK b c<=0):cK a c<0:=by
 have h3:=d0d a b c (by omega) h2
 by_cases h:cK a c=0
 ·have:=d4H h
  subst this
  have:=c2L a b
  omega
 ·omega
abbrev ltK (a b:Key):Prop:=cK a b<0
theorem asc_pw:∀ l:List Key,asc cK l=true↔l.Pairwise ltK
 | []=>by simp [asc]
 | [a]=>by simp [asc]
 | a::b::r=>by
   have ih:=asc_pw (b::r)
   simp only [asc,Bool.and_eq_true,decide_eq_true_eq]
   rw [ih,List.pairwise_cons (a:=a)]
   constructor
   ·intro ⟨h1,h2⟩
    refine ⟨fun x hx=>?_,h2⟩
    rcases List.mem_cons.1 hx with rfl | hx
    ·exact h1
    ·have:=(List.pairwise_cons.1 h2).1 x hx
     exact c9S h1 (by unfold ltK at this; omega)
   ·intro ⟨h1,h2⟩
    exact ⟨h1 b (by simp),h2⟩
end Go.Pl
end
section
namespace Go.Pl
open Go Go.RowKit Go.Sx Go.Qx
structure CmpOk {α:Type}(c:α->α->Int):Prop where
 anti:∀ a b,c b a = - c a b
 trans:∀ a b d,c a b<=0->c b d<=0->c a d<=0
 eq0:∀ a b,c a b=0->a=b
theorem cI0 {x y:Int}(h:cI x y=0):x=y:=by
 rcases K4 x y with ⟨_,e⟩ | ⟨_,e⟩ | ⟨p,_⟩
 ·omega
 ·omega
 ·exact p
theorem c7C (a b:ByteArray):cS a b=lx (eS a) (eS b):=by
 have:=pfS a b [] []
 simpa [lx,a93] using this.symm
theorem a83:CmpOk cS:=⟨fun a b=>by rw [c7C,c7C]; exact b6e _ _,fun a b d h1 h2=>by rw [c7C] at *; exact c0x _ _ _ h1 h2,fun _ _ h=>c7O h⟩
section
variable {α:Type}{c:α->α->Int}(hc:CmpOk c)
include hc
theorem CmpOk.self (a:α):c a a=0:=by have:=hc.anti a a; omega
theorem CmpOk.strict {a b d:α}(h1:c a b<0)(h2:c b d<=0):c a d<0:=by
 have h3:=hc.trans a b d (by omega) h2
 by_cases h:c a d=0
 ·have:=hc.eq0 _ _ h
  subst this
  have:=hc.anti a b
  omega
 ·omega
theorem CmpOk.asc_pw:∀ l:List α,asc c l=true↔l.Pairwise fun a b=>c a b<0
 | []=>by simp [asc]
 | [a]=>by simp [asc]
 | a::b::r=>by
   have ih:=CmpOk.asc_pw (b::r)
   simp only [asc,Bool.and_eq_true,decide_eq_true_eq]
   rw [ih,List.pairwise_cons (a:=a)]
   constructor
   ·intro ⟨h1,h2⟩
    refine ⟨fun x hx=>?_,h2⟩
    rcases List.mem_cons.1 hx with rfl | hx
    ·exact h1
    ·have:=(List.pairwise_cons.1 h2).1 x hx
     exact hc.strict h1 (by omega)
   ·intro ⟨h1,h2⟩
    exact ⟨h1 b (by simp),h2⟩
theorem CmpOk.nodup {l:List α}(h:l.Pairwise fun a b=>c a b<0):l.Nodup:=h.imp fun {a b} h e=>by
 subst e
 have:=hc.self a
 omega
theorem CmpOk.uniq {l m:List α}(h1:asc c l=true)(h2:asc c m=true)(h:∀ x,x∈l↔x∈m):l=m:=by
 have p1:=(hc.asc_pw l).1 h1
 have p2:=(hc.asc_pw m).1 h2
 have hp:=(List.perm_ext_iff_of_nodup (hc.nodup p1) (hc.nodup p2)).2 h
 exact hp.eq_of_pairwise (le:=fun a b=>c a b<0) (fun a b _ _ h1 h2=>by have:=hc.anti a b; omega) p1 p2
omit hc in
def a2a (c:α->α->Int)(out:List α)(x:α):List α :=
 match (out.dropWhile (fun y=>decide (c y x<0))).head? with
 | some y=>if c y x=0 then out else a0b (fun y=>decide (c y x<0)) x out
 | none=>a0b (fun y=>decide (c y x<0)) x out
omit hc in
theorem c3e {p:α->Bool}{x y:α}{out:List α}:y∈a0b p x out↔y=x\/y∈out:=by
 constructor
 ·exact b3R
 ·intro h
  have e:=List.takeWhile_append_dropWhile (p:=p) (l:=out)
  simp only [a0b,List.mem_append,List.mem_singleton]
  rcases h with h | h
  ·exact .inl (.inr h)
  ·rw [<- e] at h
   rcases List.mem_append.1 h with h | h
   ·exact .inl (.inl h)
   ·exact .inr h
theorem d0s {x y:α}{out:List α}:y∈a2a c out x↔y=x\/y∈out:=by
 unfold a2a
 split
 ·rename_i z hz
  split
  ·rename_i h0
   have:=hc.eq0 _ _ h0
   subst this
   have hm:z∈out:=(List.dropWhile_sublist _).subset (List.mem_of_mem_head? hz)
   constructor
   ·exact .inr
   ·rintro (rfl | h)
    ·exact hm
    ·exact h
  ·exact c3e
 ·exact c3e
theorem d0z (out:List α)(x:α)(h:asc c out=true):asc c (a2a c out x)=true:=by
 unfold a2a
 split
 ·rename_i y hy
  split
  ·exact h
  ·rename_i hne
   refine b2p c hc.anti x out h (fun z hz=>?_)
   rw [hy] at hz
   cases hz
   exact hne
 ·rename_i hy
  refine b2p c hc.anti x out h (fun z hz=>?_)
  rw [hy] at hz; cases hz
theorem d1t:∀ (xs out:List α),asc c out=true->asc c (xs.foldl (a2a c) out)=true/\∀ y,y∈xs.foldl (a2a c) out↔y∈out\/y∈xs
 | [],out,h=>⟨h,fun y=>by simp⟩
 | x::r,out,h=>by
   obtain ⟨h1,h2⟩:=d1t r (a2a c out x) (d0z hc out x h)
   refine ⟨h1,fun y=>?_⟩
   rw [List.foldl_cons,h2,d0s hc,List.mem_cons]
   constructor
   ·rintro ((h | h) | h)
    ·exact .inr (.inl h)
    ·exact .inl h
    ·exact .inr (.inr h)
   ·rintro (h | h | h)
    ·exact .inl (.inr h)
    ·exact .inl (.inl h)
    ·exact .inr h
theorem c2K (xs:List α):asc c (xs.foldl (a2a c) [])=true/\∀ y,y∈xs.foldl (a2a c) []↔y∈xs:=by
 obtain ⟨h1,h2⟩:=d1t hc xs [] rfl
 exact ⟨h1,fun y=>by rw [h2]; simp⟩
omit hc in
def dd (r:α->α->Bool):α->List α->List α
 | _,[]=>[]
 | p,x::l=>if r x p=true then dd r x l else x::dd r x l
omit hc in
def a6U (r:α->α->Bool):List α->List α
 | []=>[]
 | x::l=>x::dd r x l
theorem d1p:∀ (l:List α) (p:α),(p::l).Pairwise (fun a b=>¬ c b a<0) ->
 (p::dd (fun x y=>decide (c x y=0)) p l).Pairwise (fun a b=>c a b<0)/\∀ y,y∈p::dd (fun x y=>decide (c x y=0)) p l↔y∈p::l
 | [],p,_=>⟨by simp [dd],fun y=>by simp [dd]⟩
 | x::l,p,h=>by
   have hp:=List.pairwise_cons.1 h
   obtain ⟨h1,h2⟩:=d1p l x hp.2
   simp only [dd]
   by_cases h0:c x p=0
   ·rw [if_pos (by simpa using h0)]
    have:=hc.eq0 _ _ h0
    subst this
    refine ⟨h1,fun y=>?_⟩
    rw [h2]
    simp
   ·rw [if_neg (by simpa using h0)]
    have hlt:c p x<0:=by have:=hp.1 x (by simp); have:=hc.anti p x; omega
    refine ⟨List.pairwise_cons.2 ⟨fun b hb=>?_,h1⟩,fun y=>?_⟩
    ·rcases List.mem_cons.1 hb with rfl | hb
     ·exact hlt
     ·exact hc.strict hlt (by have:=(List.pairwise_cons.1 h1).1 b hb; omega)
    ·rw [List.mem_cons,h2,List.mem_cons (b:=p)]
theorem c92 (l:List α)(h:l.Pairwise fun a b=>¬ c b a<0):asc c (a6U (fun x y=>decide (c x y=0)) l)=true/\∀ y,y∈a6U (fun x y=>decide (c x y=0)) l↔y∈l:=by
 cases l with
 | nil=>exact ⟨rfl,fun y=>Iff.rfl⟩
 | cons p l =>
   obtain ⟨h1,h2⟩:=d1p hc l p h
   exact ⟨(hc.asc_pw _).2 h1,h2⟩
theorem c0h {xs p:List α}(hp:p.Perm xs)(hs:p.Pairwise fun a b=>¬ c b a<0):a6U (fun x y=>decide (c x y=0)) p=xs.foldl (a2a c) []:=by
 obtain ⟨h1,h2⟩:=c92 hc p hs
 obtain ⟨h3,h4⟩:=c2K hc xs
 exact hc.uniq h1 h3 fun y=>by rw [h2,h4,hp.mem_iff]
theorem d0a {xs:List α}(h:asc c xs=true):xs.foldl (a2a c) []=xs:=by
 obtain ⟨h3,h4⟩:=c2K hc xs
 exact hc.uniq h3 h h4
end
section
variable {α:Type}{r:α->α->Bool}
theorem c7r {ok:α->Prop}{step:(Int×Int)×List α->Option (Fl ((Int×Int)×List α) (Int×List α))}(i0 n:Nat)
 (hst:∀ (i k:Nat) (s:List α) (x y:α),ok x->s.length=n->i0+k<n->1<=k->i<i0+k->s[i0+k]?=some x->s[i0+k-1]?=some y ->
   step (((i:Int),(k:Int)),s)=some (.next (if r x y=true then (((i:Int),((k+1:Nat):Int)),s) else ((((i+1:Nat):Int),((k+1:Nat):Int)),s.set i x))))
 (hend:∀ (i:Int) (k:Nat) (s:List α),s.length=n->i0+k=n->step ((i,(k:Int)),s)=some (.done (i,s))) :
 ∀ (m i k:Nat) (s:List α) (y:α) (fuel:Nat),s.length=n->i0+k+m=n->1<=k->i<i0+k->s[i0+k-1]?=some y->m+1<=fuel->(∀ x∈s,ok x) ->
  ∃ s',iter step fuel (((i:Int),(k:Int)),s)=some (((i+(dd r y (s.drop (i0+k))).length:Nat):Int),s')/\s'.length=n/\s'.take (i+(dd r y (s.drop (i0+k))).length)=s.take i++dd r y (s.drop (i0+k)):=by
 intro m
 induction m with
 | zero =>
   intro i k s y fuel hl hm hk hi hy hf hok
   obtain ⟨fuel,rfl⟩:∃ m,fuel=m+1:=⟨fuel-1,by omega⟩
   have e:s.drop (i0+k)=[]:=List.drop_eq_nil_of_le (by omega)
   rw [e]
   refine ⟨s,?_,hl,?_⟩
   ·simp only [iter,hend (i:Int) k s hl (by omega),Option.bind_some]
    rfl
   ·simp [dd]
 | succ m ih =>
   intro i k s y fuel hl hm hk hi hy hf hok
   obtain ⟨fuel,rfl⟩:∃ m,fuel=m+1:=⟨fuel-1,by omega⟩
   have hlt:i0+k<s.length:=by omega
   have hx:=List.getElem?_eq_getElem hlt
   rw [List.drop_eq_getElem_cons hlt]
   simp only [dd]
   simp only [iter,hst i k s _ y (hok _ (List.getElem_mem hlt)) hl (by omega) hk hi hx hy,Option.bind_some]
   by_cases h:r s[i0+k] y=true
   ·rw [if_pos h,if_pos h]
    have:=ih i (k+1) s s[i0+k] fuel hl (by omega) (by omega) (by omega) (by rw [show i0+(k+1)-1=i0+k by omega]; exact hx) (by omega) hok
    rw [show i0+(k+1)=i0+k+1 by omega] at this
    exact this
   ·rw [if_neg h,if_neg h]
    have hd:(s.set i s[i0+k]).drop (i0+k+1)=s.drop (i0+k+1):=by
     rw [List.drop_set_of_lt (by omega)]
    have:=ih (i+1) (k+1) (s.set i s[i0+k]) s[i0+k] fuel (by rw [List.length_set]; exact hl) (by omega) (by omega) (by omega) (by
     rw [show i0+(k+1)-1=i0+k by omega]
     by_cases e:i=i0+k
     ·omega
     ·rw [List.getElem?_set_ne e]; exact hx) (by omega) (fun z hz=>by
     rcases List.mem_or_eq_of_mem_set hz with hz | rfl
     ·exact hok z hz
     ·exact hok _ (List.getElem_mem hlt))
    rw [show i0+(k+1)=i0+k+1 by omega,hd] at this
    obtain ⟨s',h1,h2,h3⟩:=this
    refine ⟨s',?_,h2,?_⟩
    ·rw [h1,List.length_cons]
     congr 3
     omega
    ·rw [List.length_cons,show i+((dd r s[i0+k] (s.drop (i0+k+1))).length+1)=i+1+(dd r s[i0+k] (s.drop (i0+k+1))).length by omega,h3]
     have e:(s.set i s[i0+k]).take (i+1)=s.take i++[s[i0+k]]:=by
      rw [a08 (x:=s[i0+k]) (by rw [List.getElem?_set_self (by omega)]),List.take_set_of_le (Nat.le_refl _)]
     rw [e,List.append_assoc]
     rfl
theorem c3J {step:(Int×Int)×List α->Option (Fl ((Int×Int)×List α) (Int×List α))}(i0 n:Nat)
 (hst:∀ (i k:Nat) (s:List α) (x y:α),s.length=n->i0+k<n->1<=k->i<i0+k->s[i0+k]?=some x->s[i0+k-1]?=some y ->
   step (((i:Int),(k:Int)),s)=some (.next (if r x y=true then (((i:Int),((k+1:Nat):Int)),s) else ((((i+1:Nat):Int),((k+1:Nat):Int)),s.set i x))))
 (hend:∀ (i:Int) (k:Nat) (s:List α),s.length=n->i0+k=n->step ((i,(k:Int)),s)=some (.done (i,s)))
 (m i k:Nat) (s:List α) (y:α) (fuel:Nat) (h1:s.length=n) (h2:i0+k+m=n) (h3:1<=k) (h4:i<i0+k) (h5:s[i0+k-1]?=some y) (h6:m+1<=fuel) :
   ∃ s',iter step fuel (((i:Int),(k:Int)),s)=some (((i+(dd r y (s.drop (i0+k))).length:Nat):Int),s')/\s'.length=n/\s'.take (i+(dd r y (s.drop (i0+k))).length)=s.take i++dd r y (s.drop (i0+k)) :=
 c7r (ok:=fun _=>True) i0 n (fun i k s x y _=>hst i k s x y) hend m i k s y fuel h1 h2 h3 h4 h5 h6 (fun _ _=>trivial)
theorem c5H:∀ (l:List α) (p:α),(dd r p l).length<=l.length
 | [],_=>Nat.le_refl _
 | x::l,p=>by
   have:=c5H l x
   simp only [dd]
   split
   ·simp only [List.length_cons]; omega
   ·simp only [List.length_cons]; omega
theorem b4W:∀ (a:List α) (p:α) (l:List α),(∀ (i:Nat) (x y:α),(a++[p])[i+1]?=some x->(a++[p])[i]?=some y->r x y=false)->a6U r (a++p::l)=a++p::dd r p l
 | [],p,l,_=>rfl
 | x::a,p,l,h=>by
   have h2:=b4W a p l (fun i u v h1 h2=>h (i+1) u v (by simpa using h1) (by simpa using h2))
   cases a with
   | nil =>
     have h0:=h 0 p x rfl rfl
     show x::dd r x (p::l)=_
     simp [dd,h0]
   | cons y a =>
     have h0:=h 0 y x rfl rfl
     show x::dd r x (y::(a++p::l))=_
     simp only [dd,h0,Bool.false_eq_true,if_false]
     have h2':y::dd r y (a++p::l)=y::a++p::dd r p l:=h2
     rw [h2']
     rfl
end
end Go.Pl
namespace Go.Pl
open Go Go.RowKit Go.Sx Go.Qx
theorem a8B (x y:ByteArray):Y0 x y=decide (cS x y=0):=by
 rcases a8N x y with ⟨_,h,e⟩ | ⟨_,h,e⟩ | ⟨_,h,e⟩<;>simp [h,e]
theorem b7f (x y:ByteArray):a2g x y=decide (cS x y<0):=by
 rcases a8N x y with ⟨h,_,e⟩ | ⟨h,_,e⟩ | ⟨h,_,e⟩<;>simp [h,e]
theorem c6E (l out:List ByteArray)(i:Nat)(x:ByteArray)(hx:l[i]?=some x)(hl:out.length<=4194304)(hi:i<=4194304) :
 a0w l (out,(i:Int))=some (.next (a2a cS out x,((i+1:Nat):Int))):=by
 have hlt:i<l.length:=(List.getElem?_eq_some_iff.1 hx).1
 have hix:idx l (i:Int)=some x:=j5 hx
 unfold a0w
 simp only [Y2]
 rw [c1h (step:=a3S l (out,(i:Int))) out (fun y=>decide (cS y x<0)) ?_ ?_]
 ·simp only [V8,Y1]
  rw [if_pos (by simp; omega)]
  simp only [Option.bind_some,hix]
  have hk:=b3h (fun y=>decide (cS y x<0)) out
  have hat:=c2k (fun y=>decide (cS y x<0)) out
  have go:(Option.bind (cut out 0 ((out.takeWhile (fun y=>decide (cS y x<0))).length:Int)) fun u=>Option.bind (Z4 (0+u.length) 16) fun _ =>
   Option.bind (Z4 (u.length+[x].length) 16) fun _=>Option.bind (cut out ((out.takeWhile (fun y=>decide (cS y x<0))).length:Int) (out.length:Int)) fun w =>
   Option.bind (Z4 ((u++[x]).length+w.length) 16) fun _=>some ((u++[x])++w))=some (a0b (fun y=>decide (cS y x<0)) x out) :=
   c5D out x _ 16 (by omega) hl (fun l=>some l)
  rw [k8 i (by omega),go]
  unfold a2a
  cases hh:(out.dropWhile (fun y=>decide (cS y x<0))).head? with
  | none =>
    rw [hh] at hat
    have hge:=List.getElem?_eq_none_iff.1 hat
    rw [if_neg (by simp; omega)]
    rfl
  | some y =>
    rw [hh] at hat
    have hlt2:=(List.getElem?_eq_some_iff.1 hat).1
    rw [if_pos (by simp; omega),j5 hat]
    simp only [Option.bind_some,a8B]
    by_cases h0:cS y x=0
    ·rw [if_pos (by simp [h0]),if_pos h0]
     rfl
    ·rw [if_neg (by simp [h0]),if_neg h0]
     rfl
 ·intro j y hy
  have hj:j<out.length:=(List.getElem?_eq_some_iff.1 hy).1
  unfold a3S
  simp only [V8,Y1]
  rw [if_pos (by simp; omega),j5 hy,hix]
  simp only [Option.bind_some,b7f,k8 j (by omega)]
  by_cases h:cS y x<0<;>simp [h]
 ·unfold a3S
  simp
theorem b7d {α:Type}(c:α->α->Int)(out:List α)(x:α):(a2a c out x).length<=out.length+1:=by
 unfold a2a
 split
 ·split
  ·omega
  ·rw [a7t]; omega
 ·rw [a7t]; omega
theorem c3E (l:List ByteArray)(hl:l.length<=4194304):a0h l=some (l.foldl (a2a cS) []):=by
 unfold a0h
 have key:=a27 (σ:=List ByteArray) (step:=a0w l) l (fun s i=>(s,(i:Int))) (a2a cS) (fun i s=>s.length<=i) (fun s=>s)
  ?_ ?_ [] (by simp) _ (Nat.le_refl _)
 ·have e:iter (a0w l) (l.length+1) (([]:List ByteArray),0)=iter (a0w l) (l.length+1) (([]:List ByteArray),((0:Nat):Int)):=rfl
  rw [Y2,e,key]
  rfl
 ·intro i s x hx hI
  have hi:i<l.length:=(List.getElem?_eq_some_iff.1 hx).1
  refine ⟨c6E l s i x hx (by omega) (by omega),?_⟩
  have:=b7d cS s x
  omega
 ·intro s _
  unfold a0w
  simp
theorem b2L (a b:List ByteArray):K0 (a++b)=K0 a+K0 b:=by
 induction a with
 | nil=>simp [K0]
 | cons x r ih=>simp only [List.cons_append,K0,ih]; omega
theorem c9V (out:List ByteArray)(x:ByteArray):K0 (a2a cS out x)<=K0 out+a3R x:=by
 have hk:∀ p:ByteArray->Bool,K0 (a0b p x out)=K0 out+a3R x:=fun p=>by
  have e:=congrArg K0 (List.takeWhile_append_dropWhile (p:=p) (l:=out))
  rw [b2L] at e
  simp only [a0b,b2L,K0]
  omega
 unfold a2a
 split
 ·split
  ·omega
  ·rw [hk]; omega
 ·rw [hk]; omega
theorem b6t:∀ (l out:List ByteArray),K0 (l.foldl (a2a cS) out)<=K0 out+K0 l
 | [],out=>by simp [K0]
 | x::r,out=>by
   have h1:=b6t r (a2a cS out x)
   have h2:=c9V out x
   simp only [List.foldl_cons,K0]
   omega
section
variable {α:Type}{r:α->α->Bool}
theorem c3D {step:List α×Int->Option (Fl (List α×Int) (Sum (List α) (List α)))}(s:List α)(hl:1<=s.length)
 (hst:∀ (i:Nat) (x y:α),1<=i->s[i]?=some x->s[i-1]?=some y->r x y=false->step (s,(i:Int))=some (.next (s,((i+1:Nat):Int))))
 (hhit:∀ (i:Nat) (x y:α),1<=i->s[i]?=some x->s[i-1]?=some y->r x y=true->∃ q:List α,step (s,(i:Int))=some (.done (.inr (s.take i++dd r x (s.drop (i+1))))))
 (hend:step (s,(s.length:Int))=some (.done (.inl s))) :
 (iter step (s.length+1) (s,1)=some (.inl s)/\a6U r s=s)\/∃ q:List α,iter step (s.length+1) (s,1)=some (.inr (a6U r s)):=by
 have key:∀ (m i fuel:Nat),i+m=s.length->1<=i->m+1<=fuel->(∀ j:Nat,(hj:j+1<s.length)->j+1<i->r s[j+1] (s[j]'(by omega))=false) ->
  (iter step fuel (s,(i:Int))=some (.inl s)/\a6U r s=s)\/∃ q:List α,iter step fuel (s,(i:Int))=some (.inr (a6U r s)):=by
  intro m
  induction m with
  | zero =>
    intro i fuel hm hi hf hok
    obtain ⟨fuel,rfl⟩:∃ m,fuel=m+1:=⟨fuel-1,by omega⟩
    have e:i=s.length:=by omega
    subst e
    left
    refine ⟨by simp only [iter,hend,Option.bind_some],?_⟩
    have h1:s.length-1<s.length:=by omega
    have hs:s=s.take (s.length-1)++s[s.length-1]::[]:=by
     have:=a08 (List.getElem?_eq_getElem h1)
     rw [show s.length-1+1=s.length by omega,List.take_length] at this
     exact this
    have hc:=b4W (r:=r) (s.take (s.length-1)) s[s.length-1] [] (by
     rw [<- hs]
     intro j x y h1 h2
     have hj:=(List.getElem?_eq_some_iff.1 h1).1
     rw [List.getElem?_eq_getElem hj] at h1
     rw [List.getElem?_eq_getElem (by omega)] at h2
     cases h1; cases h2
     exact hok j hj (by omega))
    rw [<- hs] at hc
    rw [hc]
    exact hs.symm
  | succ m ih =>
    intro i fuel hm hi hf hok
    obtain ⟨fuel,rfl⟩:∃ m,fuel=m+1:=⟨fuel-1,by omega⟩
    have hlt:i<s.length:=by omega
    have hlt2:i-1<s.length:=by omega
    have hx:=List.getElem?_eq_getElem hlt
    have hy:=List.getElem?_eq_getElem hlt2
    by_cases h:r s[i] s[i-1]=true
    ·right
     obtain ⟨q,hq⟩:=hhit i _ _ hi hx hy h
     refine ⟨q,?_⟩
     simp only [iter,hq,Option.bind_some]
     have hs:s=s.take (i-1)++s[i-1]::s[i]::s.drop (i+1):=by
      have e1:=List.take_append_drop (i-1) s
      have e2:=List.drop_eq_getElem_cons hlt2
      have e3:=List.drop_eq_getElem_cons hlt
      rw [show i-1+1=i by omega,e3] at e2
      rw [<- e2]
      exact e1.symm
     have hc:=b4W (r:=r) (s.take (i-1)) s[i-1] (s[i]::s.drop (i+1)) (by
      have e:s.take (i-1)++[s[i-1]]=s.take i:=by
       have:=a08 hy
       rw [show i-1+1=i by omega] at this
       exact this.symm
      rw [e]
      intro j x y h1 h2
      have hj:=(List.getElem?_eq_some_iff.1 h1).1
      have hj':j+1<i:=by rw [List.length_take] at hj; omega
      rw [List.getElem?_take_of_lt hj',List.getElem?_eq_getElem (by omega)] at h1
      rw [List.getElem?_take_of_lt (by omega),List.getElem?_eq_getElem (by omega)] at h2
      cases h1; cases h2
      exact hok j (by omega) hj')
     rw [<- hs] at hc
     rw [hc]
     have e:s.take i=s.take (i-1)++[s[i-1]]:=by
      have:=a08 hy
      rw [show i-1+1=i by omega] at this
      exact this
     rw [e,List.append_assoc]
     simp only [dd,h,if_true]
     rfl
    ·have h':r s[i] s[i-1]=false:=by simpa using h
     simp only [iter,hst i _ _ hi hx hy h',Option.bind_some]
     refine ih (i+1) fuel (by omega) (by omega) (by omega) (fun j hj hji=>?_)
     by_cases e:j+1<i
     ·exact hok j hj e
     ·have:j+1=i:=by omega
      subst this
      exact h'
 exact key (s.length-1) 1 (s.length+1) (by omega) (Nat.le_refl _) (by omega) (fun j _ h=>by omega)
theorem c6X {β γ:Type}(z:α)(j n:Nat)(s' T:List α)(hl:s'.length=n)(hj:j<n)(ht:s'.take j=T) :
 ∃ q:List α,(Option.bind (idx s' (j:Int)) fun _=>bif Nat.blt (j:Int).toNat s'.length then (Option.bind (cut (s'.take (j:Int).toNat++List.replicate (s'.length-(j:Int).toNat) z) 0 (j:Int)) fun y =>
  some (Fl.done (Sum.inr y):Fl β (Sum γ (List α)))) else none)=some (.done (.inr T)):=by
 refine ⟨s'.take j++List.replicate (s'.length-j) z,?_⟩
 have e:(j:Int).toNat=j:=by omega
 rw [j5 (List.getElem?_eq_getElem (show j<s'.length by omega)),e]
 simp only [Option.bind_some]
 have eb:Nat.blt j s'.length=true:=by simp [Nat.blt]; omega
 rw [eb,c1G _ (by simp; omega)]
 simp only [cond_true,Option.bind_some]
 rw [List.take_append_of_le_length (by simp; omega),List.take_take,Nat.min_self,ht]
end
theorem a9Z (n:Nat)(h:n<=4611686018427387904)(h1:1<=n):w64 ((n:Int)-1)=((n-1:Nat):Int):=by rw [Q8 (by omega) (by omega)]; omega
end Go.Pl
end
section
namespace Go.Pl
open Go Go.RowKit Go.Sx Go.Qx
section
variable {L:List Int}{t:Api_Type}{N b:Nat}{h:Nat}{rN:Semtypebase_Source->Api_Type->Int->Int->Option (Val×Semtypebase_Source)}
def a8G (L:List Int)(t:Api_Type)(N b h:Nat)(rN:Semtypebase_Source->Api_Type->Int->Int->Option (Val×Semtypebase_Source)):Prop :=
 ∀ (k:Nat) (s:Semtypebase_Source),k<N->OS L s->∃ v u,rN s t (k:Int) (h:Int)=some (v,u)/\OS L u/\vOK v=true/\j9 v<=b
theorem b8d {N:Nat}{x:Api_TypeNode}(hx:X3 N x=true){j:Nat}(hj:j<x.Kids.length):∃ k:Nat,idx x.Kids (j:Int)=some (k:Int)/\x.Kids[j]?=some (k:Int)/\k<N:=by
 have e:=List.getElem?_eq_getElem hj
 obtain ⟨k,hk,hk2⟩:=a26 (a6m hx _ (List.getElem_mem hj))
 rw [hk] at e
 exact ⟨k,j5 e,e,hk2⟩
theorem c1Q (hd:a8G L t N b h rN){x:Api_TypeNode}(hx:X3 N x=true)(hl:x.Kids.length<=4)(hh:h<=10){s:Semtypebase_Source}(hs:OS L s) :
 ∃ g u,iter (a0Y t ((h:Int)+1) x rN) (x.Kids.length+1) (0,s,(0,0,(⟨#[]⟩:ByteArray),[],[],[],[]))=some (u,(0,0,(⟨#[]⟩:ByteArray),g,[],[],[]))/\OS L u/\g.length=x.Kids.length/\k7 g<=x.Kids.length*b:=by
 have hw:w64 ((h:Int)+1-1)=(h:Int):=by rw [Q8 (by omega) (by omega)]; omega
 obtain ⟨g,u,e,hu,h1,h2⟩:=c12 (γ:=List Val) (L:=L) (step:=a0Y t ((h:Int)+1) x rN) (fun g j s=>(j,s,(0,0,(⟨#[]⟩:ByteArray),g,[],[],[]))) (fun g s=>(s,(0,0,(⟨#[]⟩:ByteArray),g,[],[],[]))) (fun j g=>g.length=j/\k7 g<=j*b) x.Kids.length
  (fun j g s hj hI hs=>by
    obtain ⟨k,e1,_,e2⟩:=b8d hx hj
    obtain ⟨v,u,e3,hu,_,hb⟩:=hd k s e2 hs
    refine ⟨g++[v],u,?_,hu,by simp [hI.1],by rw [a1H,Nat.add_mul]; simp only [k7]; have:=hI.2; omega⟩
    unfold a0Y
    simp only [Y1,hw]
    rw [Z3 hj,e1]
    simp only [cond_true,Option.bind_some]
    rw [e3]
    simp only [Option.bind_some]
    rw [Z6 (by simp only [List.length_cons,List.length_nil]; have:=hI.1; omega),k8 j (by omega)]
    rfl) (fun g s=>by
    unfold a0Y
    simp) x.Kids.length 0 (x.Kids.length+1) [] s (by omega) (Nat.le_refl _) ⟨rfl,by simp [k7]⟩ hs
 exact ⟨g,u,e,hu,h1,h2⟩
theorem c8X (hd:a8G L t N b h rN){x:Api_TypeNode}(hx:X3 N x=true)(hl:x.Kids.length<=4)(h1l:1<=x.Kids.length)(hh:h<=10){s:Semtypebase_Source}(hs:OS L s) :
 ∃ g u,iter (K7 t x ((h:Int)+1) rN) ((w64 ((x.Kids.length:Int)-1)).toNat+1) (0,s,([],false,0,0,(⟨#[]⟩:ByteArray),[],[],[],[]))=some (u,(g,false,0,0,(⟨#[]⟩:ByteArray),[],[],[],[]))/\OS L u/\g.length=x.Kids.length-1/\a1G g=true/\k7 g<=3*b:=by
 have hw:w64 ((h:Int)+1-1)=(h:Int):=by rw [Q8 (by omega) (by omega)]; omega
 have hw2:w64 ((x.Kids.length:Int)-1)=((x.Kids.length-1:Nat):Int):=by rw [Q8 (by omega) (by omega)]; omega
 rw [hw2,Int.toNat_natCast]
 obtain ⟨g,u,e,hu,h1,h2,h3⟩:=c12 (γ:=List Val) (L:=L) (step:=K7 t x ((h:Int)+1) rN) (fun g j s=>(j,s,(g,false,0,0,(⟨#[]⟩:ByteArray),[],[],[],[]))) (fun g s=>(s,(g,false,0,0,(⟨#[]⟩:ByteArray),[],[],[],[]))) (fun j g=>g.length=j/\a1G g=true/\k7 g<=j*b) (x.Kids.length-1)
  (fun j g s hj hI hs=>by
    obtain ⟨k,e1,_,e2⟩:=b8d hx (show j<x.Kids.length by omega)
    obtain ⟨v,u,e3,hu,ho,hb⟩:=hd k s e2 hs
    refine ⟨g++[v],u,?_,hu,by simp [hI.1],by rw [b68,hI.2.1]; simp [a1G,ho],by rw [a1H,Nat.add_mul]; simp only [k7]; have:=hI.2.2; omega⟩
    unfold K7
    simp only [Y1,hw,hw2]
    rw [Z3 hj,e1]
    simp only [cond_true,Option.bind_some]
    rw [e3]
    simp only [Option.bind_some]
    rw [Z6 (by simp only [List.length_cons,List.length_nil]; have:=hI.1; omega),k8 j (by omega)]
    rfl) (fun g s=>by
    unfold K7
    simp [Y1,hw2]) (x.Kids.length-1) 0 (x.Kids.length-1+1) [] s (by omega) (Nat.le_refl _) ⟨rfl,rfl,by simp [k7]⟩ hs
 have e':iter (K7 t x ((h:Int)+1) rN) (x.Kids.length-1+1) (0,s,([],false,0,0,(⟨#[]⟩:ByteArray),[],[],[],[]))=some (u,(g,false,0,0,(⟨#[]⟩:ByteArray),[],[],[],[])):=e
 refine ⟨g,u,e',hu,h1,h2,Nat.le_trans h3 (Nat.mul_le_mul_right _ (by omega))⟩
theorem c9y (hL:L.length<=4194304)(hd:a8G L t N b h rN)(hb:8<=b){x:Api_TypeNode}(hx:X3 N x=true)(hl:x.Kids.length<=4)(h1l:1<=x.Kids.length)(hh:h<=10)(m:Nat)(hm:m<=2){s:Semtypebase_Source}(hs:OS L s) :
 ∃ es u,iter (W6 t x ((h:Int)+1) rN) ((m:Int).toNat+2) ([],(m:Int),s)=some (es,u)/\OS L u/\w9 es<=m*(4*b+3):=by
 have hw:w64 ((h:Int)+1-1)=(h:Int):=by rw [Q8 (by omega) (by omega)]; omega
 have hw2:w64 ((x.Kids.length:Int)-1)=((x.Kids.length-1:Nat):Int):=by rw [Q8 (by omega) (by omega)]; omega
 obtain ⟨g,u,e,hu,h1,h2⟩:=a7l (γ:=List Ent) (L:=L) (step:=W6 t x ((h:Int)+1) rN) (fun g n s=>(g,n,s)) (fun g s=>(g,s)) (fun j g=>g.length=j/\w9 g<=j*(4*b+3)) m
  (fun j n g s hj hn hI hs=>by
    obtain ⟨ag,u1,e1,hu1,ha1,_,ha2⟩:=c8X hd hx hl h1l hh hs
    obtain ⟨z,u2,e2,hu2,_,_⟩:=Y6 hL hu1 (n:=6) (by omega) (by omega)
    obtain ⟨k,e3,_,e4⟩:=b8d hx (show x.Kids.length-1<x.Kids.length by omega)
    have fin:∀ (fl:Bool) (v:Val) (u3:Semtypebase_Source),OS L u3->j9 v<=b->∃ g' s',(Option.bind (Z4 (g.length+([Ent.mk ag fl v]:List Ent).length) 160) fun _=>(some (Fl.next (g++([Ent.mk ag fl v]:List Ent),w64 (((n+1:Nat):Int)-1),u3)):Option (Fl (List Ent×Int×Semtypebase_Source) (List Ent×Semtypebase_Source))))=some (.next (g',(n:Int),s'))/\OS L s'/\(g'.length=j+1/\w9 g'<=(j+1)*(4*b+3)):=fun fl v u3 hu3 hv=>by
     rw [Z6 (by simp only [List.length_cons,List.length_nil]; have:=hI.1; omega),show w64 (((n+1:Nat):Int)-1)=(n:Int) by rw [Q8 (by omega) (by omega)]; omega]
     refine ⟨_,u3,rfl,hu3,by simp [hI.1],?_⟩
     have hbe:=a1v (Ent.mk ag fl v)
     simp only [Ent.Args,Ent.Result] at hbe
     rw [b1P,Nat.add_mul]
     simp only [w9,hbe]
     have:=hI.2
     omega
    unfold W6
    simp only [Y1,hw,hw2]
    rw [show decide (0<((n+1:Nat):Int))=true from decide_eq_true (by omega)]
    rw [hw2] at e1
    rw [e1]
    simp only [cond_true,Option.bind_some]
    rw [e2]
    simp only [Option.bind_some]
    cases hz:z==1
    ·simp only [cond_false]
     obtain ⟨v,u3,e5,hu3,_,hv⟩:=hd k u2 e4 hu2
     rw [e3]
     simp only [Option.bind_some]
     rw [e5]
     simp only [Option.bind_some]
     have:=fin false v u3 hu3 hv
     cases v
     exact this
    ·simp only [cond_true,Option.bind_some]
     exact fin true a61 u2 hu2 (by rw [a61,K8]; simp only [a2H,k7,v8,w9]; omega)) (fun g s=>by
    unfold W6
    rfl) m 0 ((m:Int).toNat+2) [] s (by omega) (by omega) ⟨rfl,by simp [w9]⟩ hs
 exact ⟨g,u,e,hu,by simpa using h2⟩
theorem c6G (hL:L.length<=4194304)(hd:a8G L t N b h rN){x:Api_TypeNode}(hf:∀ f∈x.Fields,inR N f.Node=true)(hk:∀ f∈x.Fields,a6I f.Key_<=8)(hl:x.Fields.length<=3)(hh:h<=10){s:Semtypebase_Source}(hs:OS L s) :
 ∃ ks vs u,iter (a0o t x ((h:Int)+1) rN) (x.Fields.length+1) ([],[],0,s)=some (ks,vs,u)/\OS L u/\ks.length<=3/\vs.length<=3/\v8 ks<=24/\k7 vs<=3*b:=by
 have hw:w64 ((h:Int)+1-1)=(h:Int):=by rw [Q8 (by omega) (by omega)]; omega
 obtain ⟨g,u,e,hu,h1,h2,h3,h4⟩:=c12 (γ:=List Key×List Val) (L:=L) (step:=a0o t x ((h:Int)+1) rN) (fun g j s=>(g.1,g.2,j,s)) (fun g s=>(g.1,g.2,s)) (fun j g=>g.1.length<=j/\g.2.length<=j/\v8 g.1<=j*8/\k7 g.2<=j*b) x.Fields.length
  (fun j g s hj hI hs=>by
    have ex:=List.getElem?_eq_getElem hj
    have hm:=List.getElem_mem hj
    generalize x.Fields[j]=f at ex hm
    obtain ⟨k,e1,e2⟩:=a26 (hf f hm)
    have hkb:=hk f hm
    have skip:∀ u,OS L u->∃ (g':List Key×List Val) (s':Semtypebase_Source),(some (Fl.next (g.1,g.2,w64 ((j:Int)+1),u)):Option (Fl (List Key×List Val×Int×Semtypebase_Source) (List Key×List Val×Semtypebase_Source)))=some (.next (g'.1,g'.2,((j+1:Nat):Int),s'))/\OS L s'/\(g'.1.length<=j+1/\g'.2.length<=j+1/\v8 g'.1<=(j+1)*8/\k7 g'.2<=(j+1)*b):=fun u hu=>by
     rw [k8 j (by omega)]
     exact ⟨(g.1,g.2),u,rfl,hu,Nat.le_succ_of_le hI.1,Nat.le_succ_of_le hI.2.1,Nat.le_trans hI.2.2.1 (Nat.mul_le_mul_right _ (Nat.le_succ _)),Nat.le_trans hI.2.2.2 (Nat.mul_le_mul_right _ (Nat.le_succ _))⟩
    have take:∀ u,OS L u->∃ (g':List Key×List Val) (s':Semtypebase_Source),(Option.bind (Option.bind (Z4 (g.1.length+([f.Key_]:List Key).length) 24) fun _=>Option.bind (rN u t f.Node (h:Int)) fun r8=>Option.bind (Z4 (g.2.length+([r8.1]:List Val).length) 128) fun _=>some (g.1++([f.Key_]:List Key),g.2++([r8.1]:List Val),r8.2)) fun b10 =>
     (some (Fl.next (b10.1,b10.2.1,w64 ((j:Int)+1),b10.2.2)):Option (Fl (List Key×List Val×Int×Semtypebase_Source) (List Key×List Val×Semtypebase_Source))))=some (.next (g'.1,g'.2,((j+1:Nat):Int),s'))/\OS L s'/\(g'.1.length<=j+1/\g'.2.length<=j+1/\v8 g'.1<=(j+1)*8/\k7 g'.2<=(j+1)*b):=fun u hu=>by
     obtain ⟨v,u2,e3,hu2,_,hv⟩:=hd k u e2 hu
     rw [Z6 (by simp only [List.length_cons,List.length_nil]; have:=hI.1; omega),e1,e3]
     simp only [Option.bind_some]
     rw [Z6 (by simp only [List.length_cons,List.length_nil]; have:=hI.2.1; omega),k8 j (by omega)]
     refine ⟨(g.1++[f.Key_],g.2++[v]),u2,rfl,hu2,?_,?_,?_,?_⟩
     ·simp only [List.length_append,List.length_cons,List.length_nil]; have:=hI.1; omega
     ·simp only [List.length_append,List.length_cons,List.length_nil]; have:=hI.2.1; omega
     ·rw [a7c]; simp only [v8]; have:=hI.2.2.1; omega
     ·rw [a1H,Nat.add_mul]; simp only [k7]; have:=hI.2.2.2; omega
    unfold a0o
    simp only [Y1,hw]
    rw [Z3 hj,j5 ex]
    simp only [cond_true,Option.bind_some]
    cases hO:f.Optional
    ·simp only [cond_false,Option.bind_some]
     exact take s hs
    ·simp only [cond_true]
     obtain ⟨z,u,e4,hu,_,_⟩:=Y6 hL hs (n:=2) (by omega) (by omega)
     rw [e4]
     simp only [Option.bind_some]
     cases hz:z==1
     ·simp only [cond_false]
      exact take u hu
     ·simp only [cond_true,Option.bind_some]
      exact skip u hu) (fun g s=>by
    unfold a0o
    simp) x.Fields.length 0 (x.Fields.length+1) ([],[]) s (by omega) (Nat.le_refl _) ⟨Nat.le_refl _,Nat.le_refl _,by simp [v8],by simp [k7]⟩ hs
 refine ⟨g.1,g.2,u,e,hu,by omega,by omega,by omega,Nat.le_trans h4 (Nat.mul_le_mul_right _ hl)⟩
end
end Go.Pl
namespace Go.Pl
open Go Go.RowKit Go.Sx Go.Qx
structure GT (t:Api_Type):Prop where
 len:t.Nodes.length<=10
 nodes:GNs t.Nodes.length t.Nodes
def DB:Nat->Nat
 | 0=>300
 | h+1=>700+8*DB h
theorem c7N {h:Nat}(hh:h<=4):DB h<=1638300:=by
 match h,hh with
 | 0,_=>decide
 | 1,_=>decide
 | 2,_=>decide
 | 3,_=>decide
 | 4,_=>decide
theorem d3H {h:Nat}(hh:h<=3):DB h<=204700:=by
 match h,hh with
 | 0,_=>decide
 | 1,_=>decide
 | 2,_=>decide
 | 3,_=>decide
theorem c9x (h:Nat):300<=DB h:=by cases h<;>simp [DB]; omega
theorem c5a (x:Val):∀ (l:List Val) (i:Nat),k7 (l.set i x)<=k7 l+j9 x
 | [],_=>by simp [k7]
 | y::r,0=>by simp only [List.set_cons_zero,k7]; omega
 | y::r,i+1=>by have:=c5a x r i; simp only [List.set_cons_succ,k7]; omega
theorem c91 (k n:Int)(s:ByteArray)(a:List Val)(b:List Key)(c:List Ent)(l m:List ByteArray)(q:Nat)(h:K0 m<=K0 l+q):j9 (Val.mk k n s a b c m)<=j9 (Val.mk k n s a b c l)+q:=by
 simp only [j9]; omega
theorem c6x {t:Api_Type}(hT:GT t){i:Nat}{x:Api_TypeNode}(hx:t.Nodes[i]?=some x)(v:Val)(hv:j9 v<=2000000):∃ w,iter (J7 t x) (x.Kids.length+1) (0,v)=some w/\j9 w<=j9 v+x.Kids.length*6:=by
 have hg:=hT.nodes i x hx
 have key:∀ (m a k:Nat) (w:Val),a+m=x.Kids.length->m+1<=k->j9 w<=j9 v+a*6->∃ w',iter (J7 t x) k ((a:Int),w)=some w'/\j9 w'<=j9 v+x.Kids.length*6:=by
  intro m
  induction m with
  | zero =>
    intro a k w h1 h2 h3
    obtain ⟨k,rfl⟩:∃ m,k=m+1:=⟨k-1,by omega⟩
    have e:a=x.Kids.length:=by omega
    subst e
    have:J7 t x ((x.Kids.length:Int),w)=some (.done w):=by
     unfold J7
     simp
    exact ⟨w,by simp only [iter,this,Option.bind_some],h3⟩
  | succ m ih =>
    intro a k w h1 h2 h3
    obtain ⟨k,rfl⟩:∃ m,k=m+1:=⟨k-1,by omega⟩
    have ha:a<x.Kids.length:=by omega
    have hk4:=hg.kids
    obtain ⟨j,e1,_,hj⟩:=b8d hg.ok ha
    have e2:=List.getElem?_eq_getElem hj
    generalize t.Nodes[j]=y at e2
    have hy:=(hT.nodes j y e2).text
    have step:∃ w',J7 t x ((a:Int),w)=some (.next (((a+1:Nat):Int),w'))/\j9 w'<=j9 w+6:=by
     unfold J7
     simp only [Y1]
     rw [Z3 ha,e1]
     simp only [cond_true,Option.bind_some]
     rw [j5 e2]
     simp only [Option.bind_some]
     rw [k8 a (by omega)]
     cases hc:y.Kind==19
     ·simp only [cond_false,Option.bind_some]
      exact ⟨w,rfl,by omega⟩
     ·simp only [cond_true]
      obtain ⟨kk,n,s,kids,keys,ents,labs⟩:=w
      simp only [Val.Labels,Val.Kind,Val.Int_,Val.Text,Val.Kids,Val.Keys,Val.Entries]
      have hlab:labs.length<=j9 (Val.mk kk n s kids keys ents labs):=by
       have:=a4H labs
       simp only [j9]; omega
      rw [Z6 (by omega),Z6 (by simp only [List.length_cons,List.length_nil]; omega)]
      simp only [Option.bind_some]
      rw [c3E (labs++[y.Text]) (by simp only [List.length_append,List.length_cons,List.length_nil]; omega)]
      refine ⟨_,rfl,c91 _ _ _ _ _ _ _ _ 6 ?_⟩
      have h4:=b6t (labs++[y.Text]) []
      rw [b2L] at h4
      simp only [K0,a3R] at h4
      omega
    obtain ⟨w',e3,h5⟩:=step
    simp only [iter,e3,Option.bind_some]
    exact ih (a+1) k w' (by omega) (by omega) (by omega)
 exact key x.Kids.length 0 (x.Kids.length+1) v (by omega) (Nat.le_refl _) (by omega)
theorem c8P {ks:List Key}{vs:List Val}{u:List Val×List Key}(h:a6E (ks.zip vs) ([],[])=some u):j9 (b4z u)<=8+v8 ks+k7 vs:=by
 obtain ⟨_,_,_,_,_,m⟩:=b2R (ks.zip vs) ([],[]) u h rfl rfl
 have hz:=b8r ks vs
 simp only [k7,v8] at m
 simp only [b4z,K8,a2H,w9]
 omega
section
variable {L:List Int}{t:Api_Type}
theorem d1d (hL:L.length<=4194304){b h:Nat}{rN}(hd:a8G L t t.Nodes.length b h rN)(hb:8<=b)(hb2:b<=300000)(hh:h<=10){i:Nat}{x:Api_TypeNode}(hg:GN t.Nodes.length i x)(hk:x.Kind=13){s:Semtypebase_Source}(hs:OS L s)(f:Nat)(r1:Semtypebase_Source->Api_Type->Int->Int->Option (Val×Semtypebase_Source))(r2 r3:Semtypebase_Source->Api_Type->Api_TypeNode->Int->Option (Val×Semtypebase_Source)) :
 ∃ v u,a0t f rN r1 r2 r3 s t x ((h:Int)+1)=some (v,u)/\OS L u/\j9 v<=100+4*b:=by
 have hw:w64 ((h:Int)+1-1)=(h:Int):=by rw [Q8 (by omega) (by omega)]; omega
 have hn:=hg.ok
 unfold X3 a2T a9U at hn
 simp only [hk] at hn
 simp only [Bool.and_eq_true] at hn
 have hn2:=hn.2.2.2.2
 simp at hn2
 obtain ⟨⟨_,_,hfn⟩,_,hr0,hr1⟩:=hn2
 obtain ⟨ks,vs,u,e,hu,l1,l2,b1,b2⟩:=c6G hL hd hfn hg.keys hg.flds hh hs
 obtain ⟨k0,hk0,hk0'⟩:=a26 hr0
 obtain ⟨k1,hk1,hk1'⟩:=a26 hr1
 unfold a0t
 rw [Y2,e]
 simp only [Option.bind_some]
 obtain ⟨z,u2,e2,hu2,_,_⟩:=Y6 hL hu (n:=2) (by omega) (by omega)
 rw [e2]
 simp only [Option.bind_some,Y1,hw]
 have fin:∀ (ks:List Key) (vs:List Val) (u3:Semtypebase_Source),ks.length<=4->OS L u3->v8 ks<=40->k7 vs<=4*b->∃ v u,(Option.bind (a1e ks vs) fun r20=>bif r20.2 != 0 then (Option.bind (V9) fun r21=>some (r21,u3)) else (some (r20.1,u3)))=some (v,u)/\OS L u/\j9 v<=100+4*b:=fun ks vs u3 q1 hu3 q2 q3=>by
  rw [c1P ks vs (by omega)]
  have nilb:j9 (Val.mk 5 0 (⟨#[]⟩:ByteArray) ([]:List Val) ([]:List Key) ([]:List Ent) ([]:List ByteArray))<=100+4*b:=by
   rw [K8]; simp only [a2H,k7,v8,w9]; omega
  by_cases hc:ks.length=vs.length/\ks.all a0U=true
  ·rw [if_pos hc]
   cases hm:a6E (ks.zip vs) ([],[]) with
   | none=>exact ⟨_,u3,rfl,hu3,nilb⟩
   | some t =>
     have:=c8P hm
     exact ⟨b4z t,u3,rfl,hu3,by omega⟩
  ·rw [if_neg hc]
   exact ⟨_,u3,rfl,hu3,nilb⟩
 have other:∀ (z:Int) (kk:Nat) (u4:Semtypebase_Source),kk<t.Nodes.length->OS L u4->∃ v u,(Option.bind (Option.bind (rN u4 t (kk:Int) (h:Int)) fun r15=>Option.bind (Z4 (vs.length+([r15.1]:List Val).length) 128) fun _=>some (ks++([Key.mk z (⟨#[111,116,104,101,114]⟩:ByteArray)]:List Key),vs++([r15.1]:List Val),r15.2)) fun b19 =>
  Option.bind (a1e b19.1 b19.2.1) fun r20=>bif r20.2 != 0 then (Option.bind (V9) fun r21=>some (r21,b19.2.2)) else (some (r20.1,b19.2.2)))=some (v,u)/\OS L u/\j9 v<=100+4*b:=fun z kk u4 hkk hu4=>by
  obtain ⟨v,u5,e5,hu5,_,hv⟩:=hd kk u4 hkk hu4
  rw [e5]
  simp only [Option.bind_some]
  rw [Z6 (by simp only [List.length_cons,List.length_nil]; omega)]
  simp only [Option.bind_some]
  refine fin _ _ u5 (by simp only [List.length_append,List.length_cons,List.length_nil]; omega) hu5 ?_ ?_
  ·rw [a7c]
   have:v8 ([Key.mk z (⟨#[111,116,104,101,114]⟩:ByteArray)]:List Key)<=10:=by
    simp only [v8,a6I,a3R]
    decide
   omega
  ·rw [a1H]; simp only [k7]; omega
 cases hz:z==1
 ·simp only [cond_false,Option.bind_some]
  exact fin ks vs u2 (by omega) hu2 (by omega) (by omega)
 ·simp only [cond_true]
  obtain ⟨y,u3,e3,hu3,y0,y1⟩:=Y6 hL hu2 (n:=2) (by omega) (by omega)
  rw [e3]
  simp only [Option.bind_some]
  rw [Z6 (by simp only [List.length_cons,List.length_nil]; omega)]
  simp only [Option.bind_some]
  have hy:y=0\/y=1:=by omega
  rcases hy with rfl | rfl
  ·simp only [Int.reduceBEq,cond_true]
   rw [hk0]
   exact other 0 k0 u3 hk0' hu3
  ·simp only [Int.reduceBEq,cond_true,cond_false]
   rw [hk1]
   exact other 1 k1 u3 hk1' hu3
theorem d0H (hL:L.length<=4194304){b h:Nat}{rN}(hd:a8G L t t.Nodes.length b h rN)(hb:8<=b)(hb2:b<=300000)(hh:h<=10){i:Nat}{x:Api_TypeNode}(hg:GN t.Nodes.length i x)(hk:x.Kind=14){s:Semtypebase_Source}(hs:OS L s)(f:Nat)(hf:9000000<=f)(r1:Semtypebase_Source->Api_Type->Int->Int->Option (Val×Semtypebase_Source))(r2 r3:Semtypebase_Source->Api_Type->Api_TypeNode->Int->Option (Val×Semtypebase_Source)) :
 ∃ v u,X0 f rN r1 r2 r3 s t x ((h:Int)+1)=some (v,u)/\OS L u/\j9 v<=100+8*b:=by
 have hn:=hg.ok
 unfold X3 a2T at hn
 simp only [hk] at hn
 simp only [Bool.and_eq_true] at hn
 have hn2:=hn.2.2.2.2
 simp at hn2
 have hk4:=hg.kids
 have h1l:1<=x.Kids.length:=by omega
 obtain ⟨m,u,e,hu,m0,m1⟩:=Y6 hL hs (n:=3) (by omega) (by omega)
 obtain ⟨m,rfl⟩:=a9a m0
 obtain ⟨es,u2,e2,hu2,hbe⟩:=c9y hL hd hb hg.ok hk4 h1l hh m (by omega) hu
 unfold X0
 rw [e]
 simp only [Option.bind_some]
 rw [e2]
 simp only [Option.bind_some]
 have hbe2:w9 es<=2*(4*b+3):=Nat.le_trans hbe (Nat.mul_le_mul_right _ (by omega))
 rw [b3Q f _ es (by omega) (by omega)]
 have hfb:=a9T es []
 simp only [w9] at hfb
 by_cases hc:0<=(wr .i64 ((x.Kids.length:Int)-1))/\(wr .i64 ((x.Kids.length:Int)-1))<=4/\es.all (a3h (wr .i64 ((x.Kids.length:Int)-1)))=true
 ·rw [if_pos hc]
  refine ⟨_,u2,rfl,hu2,?_⟩
  simp only [b8i,K8,a2H,k7,v8]
  omega
 ·rw [if_neg hc]
  refine ⟨_,u2,rfl,hu2,?_⟩
  rw [K8]; simp only [a2H,k7,v8,w9]; omega
end
end Go.Pl
namespace Go.Pl
open Go Go.RowKit Go.Sx Go.Qx
section
variable {L:List Int}{t:Api_Type}
def c2l (L:List Int)(t:Api_Type)(h:Nat):Prop:=∀ (k f:Nat) (s:Semtypebase_Source),k<t.Nodes.length->9000000+14*h+(10-k)<=f->OS L s ->
 ∃ v u,(z7 f).2.1 s t (k:Int) (h:Int)=some (v,u)/\OS L u/\j9 v+24*k<=DB h
theorem c1V (hL:L.length<=4194304)(hT:GT t){h:Nat}(hh:h<=4)(hP:c2l L t h)(f:Nat)(hf:9000000+14*h+11<=f):a8G L t t.Nodes.length (DB h) h (z7 f).1:=by
 intro k s hk hs
 obtain ⟨f,rfl⟩:∃ m,f=m+1:=⟨f-1,by omega⟩
 obtain ⟨v,u,e,hu,hb⟩:=hP k f s hk (by omega) hs
 have hD:=c7N hh
 show ∃ v u,a1f f (z7 f).1 (z7 f).2.1 (z7 f).2.2.1 (z7 f).2.2.2 s t (k:Int) (h:Int)=some (v,u)/\_
 unfold a1f
 rw [e]
 simp only [Option.bind_some]
 rw [b81 f v (by omega) (by omega)]
 simp only [Option.bind_some]
 cases hv:vOK v
 ·obtain ⟨w,u2,e2,hu2,h1,h2⟩:=b5S hL hu
  have:=c9x h
  simp only [Bool.not_false,cond_true]
  rw [e2]
  exact ⟨w,u2,rfl,hu2,h1,by omega⟩
 ·exact ⟨v,u,rfl,hu,hv,by omega⟩
theorem d27 (hL:L.length<=4194304)(hT:GT t):c2l L t 0:=by
 intro k f s hk hf hs
 obtain ⟨f,rfl⟩:∃ m,f=m+1:=⟨f-1,by omega⟩
 obtain ⟨v,u,e,hu,_,hb⟩:=b5S hL hs
 refine ⟨v,u,?_,hu,by have:=hT.len; simp only [DB]; omega⟩
 show W8 f (z7 f).1 (z7 f).2.1 (z7 f).2.2.1 (z7 f).2.2.2 s t (k:Int) ((0:Nat):Int)=some (v,u)
 unfold W8
 have e0:decide (((0:Nat):Int)<=0)=true:=rfl
 rw [e0]
 simp only [cond_true,Option.bind_some]
 rw [e]
 rfl
theorem c9r (hL:L.length<=4194304)(hT:GT t){h:Nat}(hh:h<=3)(hP:c2l L t h):c2l L t (h+1):=by
 have key:∀ (d k f:Nat) (s:Semtypebase_Source),t.Nodes.length-k<=d->k<t.Nodes.length->9000000+14*(h+1)+(10-k)<=f->OS L s ->
  ∃ v u,(z7 f).2.1 s t (k:Int) ((h:Int)+1)=some (v,u)/\OS L u/\j9 v+24*k<=DB (h+1):=by
  intro d
  induction d with
  | zero=>intro k f s h1 h2; omega
  | succ d ih =>
    intro k f s hd hk hf hs
    obtain ⟨f,rfl⟩:∃ m,f=m+1:=⟨f-1,by omega⟩
    have hlen:=hT.len
    have hD:=d3H hh
    have hDp:=c9x h
    have ex:=List.getElem?_eq_getElem hk
    generalize t.Nodes[k]=x at ex
    have hg:=hT.nodes k x ex
    have hn:=hg.ok
    have small:∀ {n:Nat},n<=440+8*DB h->n+24*k<=DB (h+1):=fun hn=>by simp only [DB]; omega
    show ∃ v u,W8 f (z7 f).1 (z7 f).2.1 (z7 f).2.2.1 (z7 f).2.2.2 s t (k:Int) ((h:Int)+1)=some (v,u)/\_
    have hQ:=c1V hL hT (show h<=4 by omega) hP f (by omega)
    unfold W8
    have q0:decide ((h:Int)+1<=0)=false:=decide_eq_false (by omega)
    have q1:decide ((k:Int)<0)=false:=decide_eq_false (by omega)
    have q2:decide ((t.Nodes.length:Int)<=(k:Int))=false:=decide_eq_false (by omega)
    rw [q0,q1,q2,j5 ex]
    simp only [cond_false,Option.bind_some]
    have kid:∀ (s:Semtypebase_Source),OS L s->isB x=true->1<=x.Kids.length->∃ (z:Int) (u:Semtypebase_Source) (k':Nat) (v:Val) (u':Semtypebase_Source),z8 s (x.Kids.length:Int)=some (z,u)/\idx x.Kids z=some (k':Int) /\
     (z7 f).2.1 u t (k':Int) ((h:Int)+1)=some (v,u')/\OS L u'/\j9 v+24*(k+1)<=DB (h+1):=fun s hs hb h1=>by
     have h4:=hg.kids
     obtain ⟨z,u,e,hu,z0,z1⟩:=Y6 hL hs (n:=(x.Kids.length:Int)) (by omega) (by omega)
     obtain ⟨z,rfl⟩:=a9a z0
     obtain ⟨k',e1,e2,hk'⟩:=b8d hn (show z<x.Kids.length by omega)
     have hlt:=hg.ord hb _ (List.mem_of_getElem? e2)
     obtain ⟨v,u',e3,hu',hbv⟩:=ih k' f u (by omega) hk' (by omega) hu
     exact ⟨z,u,k',v,u',e,e1,e3,hu',by omega⟩
    have other:∃ v u,(Option.bind (a1z f s 2) fun r52=>some (r52.1,r52.2))=some (v,u)/\OS L u/\j9 v+24*k<=DB (h+1):=by
     obtain ⟨v,u,e,hu,_,hb⟩:=d2N hL 1 f (by omega) (by omega) s hs
     have e':a1z f s 2=some (v,u):=e
     rw [e']
     exact ⟨v,u,rfl,hu,small (by have:Go.Pl.hb 1=320:=rfl; omega)⟩
    have hKinds:=a7L x.Kind
    rcases hKinds with hK | hK
    ·have kt:=hn
     unfold X3 a2T at kt
     rcases hK with hK | hK | hK | hK | hK | hK | hK | hK | hK | hK | hK | hK | hK | hK | hK | hK | hK | hK | hK<;>simp only [hK] at kt ⊢<;>simp only [Int.reduceBEq,cond_true,cond_false,Option.bind_some]
     ·exact other
     ·exact other
     ·have qd:∀ a:Int,b7e .i64 a 2=some (wr .i64 (a.tdiv 2)):=fun a=>rfl
      rw [qd,qd]
      simp only [Option.bind_some]
      obtain ⟨z,u,e,hu,z0,z1⟩:=Y6 hL hs (n:=3) (by omega) (by omega)
      rw [e]
      simp only [Option.bind_some]
      generalize wr .i64 (x.Lo+(wr .i64 ((wr .i64 (x.Hi.tdiv 2))-(wr .i64 (x.Lo.tdiv 2)))))=mid
      obtain ⟨y,ey,eg,_⟩:=b5z ([x.Lo,x.Hi,mid]:List Int) z0 (by simpa using z1)
      rw [ey,eg]
      refine ⟨_,u,rfl,hu,small ?_⟩
      rw [K8]; simp only [a2H,k7,v8,w9]; omega
     ·refine ⟨_,s,rfl,hs,small ?_⟩
      have:=hg.text
      rw [K8]; simp only [k7,v8,w9]; omega
     ·obtain ⟨w,u,e,hu,hw⟩:=b9s hL hs
      have hw2:=List.all_eq_true.1 b1G w hw
      simp only [decide_eq_true_eq] at hw2
      rw [e]
      refine ⟨_,u,rfl,hu,small ?_⟩
      rw [K8]; simp only [k7,v8,w9]; omega
     ·refine ⟨_,s,rfl,hs,small ?_⟩
      have:=hg.text
      rw [K8]; simp only [k7,v8,w9]; omega
     ·obtain ⟨w,u,e,hu,hw⟩:=b0w hL hs
      have hw2:=List.all_eq_true.1 b1Y w hw
      simp only [Bool.and_eq_true,decide_eq_true_eq] at hw2
      rw [e]
      refine ⟨_,u,rfl,hu,small ?_⟩
      rw [K8]; simp only [k7,v8,w9]; omega
     ·obtain ⟨z,u,e,hu,z0,z1⟩:=Y6 hL hs (n:=2) (by omega) (by omega)
      rw [e]
      refine ⟨_,u,rfl,hu,small ?_⟩
      rw [K8]; simp only [a2H,k7,v8,w9]; omega
     ·refine ⟨_,s,rfl,hs,small ?_⟩
      rw [K8]; simp only [a2H,k7,v8,w9]; omega
     ·obtain ⟨g,u,e,hu,hl,hb⟩:=c1Q hQ hn hg.kids (by omega) hs
      rw [Y2,e]
      refine ⟨_,u,rfl,hu,small ?_⟩
      have h4:=hg.kids
      have:x.Kids.length*DB h<=4*DB h:=Nat.mul_le_mul_right _ h4
      rw [K8]; simp only [a2H,v8,w9]; omega
     ·exact other
     ·obtain ⟨g,u,e,hu,hl,hb⟩:=c1Q hQ hn hg.kids (by omega) hs
      rw [Y2,e]
      simp only [Option.bind_some]
      have h4:=hg.kids
      have h2:x.Kids.length=2:=by
       simp only [Bool.and_eq_true] at kt
       have:=kt.2.2.2.2
       simp at this
       omega
      have hgl:1<g.length:=by omega
      have eg:=List.getElem?_eq_getElem hgl
      generalize g[1]=w at eg
      have ei:idx g 1=some w:=j5 (i:=1) eg
      have e1:(1:Int).toNat=1:=rfl
      rw [ei,e1,eg]
      simp only [Option.bind_some]
      have:x.Kids.length*DB h<=4*DB h:=Nat.mul_le_mul_right _ h4
      cases hw:w.Kind != 7
      ·simp only [cond_false,Option.bind_some]
       refine ⟨_,u,rfl,hu,small ?_⟩
       rw [K8]; simp only [a2H,v8,w9]; omega
      ·simp only [cond_true]
       refine ⟨_,u,rfl,hu,small ?_⟩
       have hs:=c5a (Val.mk 5 0 (⟨#[]⟩:ByteArray) [] [] [] []) g 1
       rw [K8] at hs
       simp only [a2H,k7,v8,w9] at hs
       rw [K8]; simp only [a2H,v8,w9]; omega
     ·obtain ⟨f,rfl⟩:∃ m,f=m+1:=⟨f-1,by omega⟩
      have hQ2:=c1V hL hT (show h<=4 by omega) hP f (by omega)
      obtain ⟨v,u,e,hu,hb⟩:=d1d hL hQ2 (by omega) (by omega) (by omega) hg hK hs f (z7 f).2.1 (z7 f).2.2.1 (z7 f).2.2.2
      have e':(z7 (f+1)).2.2.2 s t x ((h:Int)+1)=some (v,u):=e
      rw [e']
      exact ⟨v,u,rfl,hu,small (by omega)⟩
     ·obtain ⟨f,rfl⟩:∃ m,f=m+1:=⟨f-1,by omega⟩
      have hQ2:=c1V hL hT (show h<=4 by omega) hP f (by omega)
      obtain ⟨v,u,e,hu,hb⟩:=d0H hL hQ2 (by omega) (by omega) (by omega) hg hK hs f (by omega) (z7 f).2.1 (z7 f).2.2.1 (z7 f).2.2.2
      have e':(z7 (f+1)).2.2.1 s t x ((h:Int)+1)=some (v,u):=e
      rw [e']
      exact ⟨v,u,rfl,hu,small (by omega)⟩
     ·exact other
     ·have h1:1<=x.Kids.length:=by
       simp only [Bool.and_eq_true] at kt
       have:=kt.2.2.2.2
       simp at this
       omega
      obtain ⟨z,u,k',v,u',e1,e2,e3,hu',hb⟩:=kid s hs (by unfold isB; rw [hK]; rfl) h1
      rw [e1]
      simp only [Option.bind_some]
      rw [e2]
      simp only [Option.bind_some]
      rw [e3]
      exact ⟨v,u',rfl,hu',by omega⟩
     ·have h1:1<=x.Kids.length:=by
       simp only [Bool.and_eq_true] at kt
       have:=kt.2.2.2.2
       simp at this
       omega
      obtain ⟨z,u,k',v,u',e1,e2,e3,hu',hb⟩:=kid s hs (by unfold isB; rw [hK]; rfl) h1
      rw [e1]
      simp only [Option.bind_some]
      rw [e2]
      simp only [Option.bind_some]
      rw [e3]
      simp only [Option.bind_some]
      have hD2:=c7N (show h+1<=4 by omega)
      obtain ⟨w,e4,hb4⟩:=c6x hT ex v (by omega)
      rw [Y2,e4]
      have h4:=hg.kids
      exact ⟨w,u',rfl,hu',by omega⟩
     ·exact other
     ·obtain ⟨v,u,e,hu,_,hb⟩:=b5S hL hs
      rw [e]
      simp only [Option.bind_some]
      unfold a3E
      rw [c3E [x.Text] (by simp)]
      refine ⟨_,u,rfl,hu,small ?_⟩
      have h5:=hg.text
      have h6:=b6t [x.Text] []
      simp only [K0,a3R] at h6
      have h7:=a7j v (List.foldl (a2a cS) [] [x.Text])
      unfold a7G at h7
      show j9 (Val.mk v.Kind v.Int_ v.Text v.Kids v.Keys v.Entries (List.foldl (a2a cS) [] [x.Text]))<=_
      omega
    ·have e:∀ n:Int,1<=n->n<=19->¬ x.Kind=n:=fun n h1 h2=>by simpa using hK n h1 h2
     unfold X3 a2T at hn
     rw [if_neg (e 3 (by omega) (by omega)),if_neg (e 4 (by omega) (by omega)),if_neg (e 6 (by omega) (by omega)),if_neg (e 19 (by omega) (by omega)),if_neg (by have:=e 1 (by omega) (by omega); have:=e 2 (by omega) (by omega); have:=e 5 (by omega) (by omega); have:=e 7 (by omega) (by omega); have:=e 8 (by omega) (by omega); have:=e 9 (by omega) (by omega); have:=e 11 (by omega) (by omega); have:=e 15 (by omega) (by omega); omega),
      if_neg (e 10 (by omega) (by omega)),if_neg (e 12 (by omega) (by omega)),if_neg (e 14 (by omega) (by omega)),if_neg (by have:=e 16 (by omega) (by omega); have:=e 17 (by omega) (by omega); omega),if_neg (e 18 (by omega) (by omega)),if_neg (e 13 (by omega) (by omega))] at hn
     simp at hn
 intro k f s hk hf hs
 exact key t.Nodes.length k f s (by omega) hk hf hs
theorem c4v (hL:L.length<=4194304)(hT:GT t):∀ h:Nat,h<=4->c2l L t h
 | 0,_=>d27 hL hT
 | h+1,hh=>c9r hL hT (by omega) (c4v hL hT h (by omega))
theorem d2d (hL:L.length<=4194304)(hT:GT t)(f:Nat)(hf:10000000<=f)(h:Nat)(hh:h<=4):a8G L t t.Nodes.length 1638300 h (a3b f):=fun k s hk hs=>by
 obtain ⟨v,u,h1,h2,h3,h4⟩:=c1V hL hT hh (c4v hL hT h hh) f (by omega) k s hk hs
 exact ⟨v,u,h1,h2,h3,Nat.le_trans h4 (c7N hh)⟩
end
end Go.Pl
end
section
namespace Go.Pl
open Go Go.RowKit Go.Sx Go.Qx
theorem a6M {α β:Type}{step:Int->Option (Fl Int (Sum Unit β))}(xs:List α)(p:α->Bool)(out:Nat->α->β)
 (hst:∀ (i:Nat) (x:α),xs[i]?=some x->step (i:Int)=some (if p x=true then .done (.inr (out i x)) else .next ((i+1:Nat):Int)))
 (hend:step (xs.length:Int)=some (.done (.inl ()))) :
 (∃ i x,xs[i]?=some x/\p x=true/\(∀ j,j<i->∀ y,xs[j]?=some y->p y=false)/\iter step (xs.length+1) 0=some (.inr (out i x)))\/(xs.any p=false/\iter step (xs.length+1) 0=some (.inl ())):=by
 have key:∀ (m a k:Nat),a+m=xs.length->m+1<=k->(∀ j,j<a->∀ y,xs[j]?=some y->p y=false) ->
  (∃ i x,xs[i]?=some x/\p x=true/\(∀ j,j<i->∀ y,xs[j]?=some y->p y=false)/\iter step k (a:Int)=some (.inr (out i x)))\/(xs.any p=false/\iter step k (a:Int)=some (.inl ())):=by
  intro m
  induction m with
  | zero =>
    intro a k h1 h2 h3
    obtain ⟨k,rfl⟩:∃ m,k=m+1:=⟨k-1,by omega⟩
    have e:a=xs.length:=by omega
    subst e
    refine .inr ⟨?_,by simp only [iter,hend,Option.bind_some]⟩
    rw [List.any_eq_false]
    intro x hx
    obtain ⟨j,hj,rfl⟩:=List.getElem_of_mem hx
    have:=h3 j hj _ (List.getElem?_eq_getElem hj)
    simp [this]
  | succ m ih =>
    intro a k h1 h2 h3
    obtain ⟨k,rfl⟩:∃ m,k=m+1:=⟨k-1,by omega⟩
    have ha:a<xs.length:=by omega
    have ex:=List.getElem?_eq_getElem ha
    have hs:=hst a _ ex
    cases hp:p xs[a] with
    | true =>
      rw [if_pos hp] at hs
      exact .inl ⟨a,xs[a],ex,hp,h3,by simp only [iter,hs,Option.bind_some]⟩
    | false =>
      rw [if_neg (by simp [hp])] at hs
      simp only [iter,hs,Option.bind_some]
      refine ih (a+1) k (by omega) (by omega) fun j hj y hy=>?_
      by_cases hja:j=a
      ·subst hja
       rw [ex] at hy
       cases hy
       exact hp
      ·exact h3 j (by omega) y hy
 exact key xs.length 0 (xs.length+1) (by omega) (Nat.le_refl _) (fun j hj=>by omega)
theorem b0Q {α:Type}{xs:List α}{p:α->Bool}{i:Nat}{x:α}(h:xs[i]?=some x)(hp:p x=true):xs.any p=true:=List.any_eq_true.2 ⟨x,List.mem_of_getElem? h,hp⟩
theorem d4S:decide ((0:Int) <= -1)=false:=rfl
theorem c2M (i:Nat):decide ((0:Int)<=(i:Int))=true:=decide_eq_true (by omega)
theorem c9G (a b:Key):a0T a b=a0T b a:=by
 rw [Bool.eq_iff_iff,b89,b89,c2L a b]
 omega
theorem b9e (a b:ByteArray):Y0 a b=Y0 b a:=by
 rw [a8B,a8B]
 have:cS b a = - cS a b:=a83.anti a b
 by_cases h:cS a b=0
 ·simp [h,this]
 ·have h2:¬ cS b a=0:=by omega
  simp [h,h2]
theorem c4k (a b:Key):a5Q a b=a0T a b:=rfl
theorem c6c (l:List Key)(k:Key)(hl:l.length<=4194304):a04 l k=some (l.any fun y=>a0T y k):=by
 unfold a04 a3s
 rw [Y2]
 rcases a6M (step:=a03 l k) l (fun y=>a0T y k) (fun i _=>(i:Int)) (fun i x hx=>by
  have hi:i<l.length:=(List.getElem?_eq_some_iff.1 hx).1
  unfold a03
  rw [Z3 hi,j5 hx]
  simp only [cond_true,Option.bind_some,c4k,Y1]
  rw [k8 i (by omega),c9G k x]
  cases a0T x k<;>rfl) (by
  unfold a03
  simp) with ⟨i,x,hx,hp,_,e⟩ | ⟨h,e⟩
 ·rw [e,b0Q hx hp]
  simp only [Option.bind_some,onEnd,c2M]
 ·rw [e,h]
  rfl
theorem c1C (l:List ByteArray)(k:ByteArray)(hl:l.length<=4194304):a0p l k=some (l.any fun y=>Y0 y k):=by
 unfold a0p a30
 rw [Y2]
 rcases a6M (step:=a1q l k) l (fun y=>Y0 y k) (fun i _=>(i:Int)) (fun i x hx=>by
  have hi:i<l.length:=(List.getElem?_eq_some_iff.1 hx).1
  unfold a1q
  rw [Z3 hi,j5 hx]
  simp only [cond_true,Option.bind_some,Y1]
  rw [k8 i (by omega),b9e k x]
  cases Y0 x k<;>rfl) (by
  unfold a1q
  simp) with ⟨i,x,hx,hp,_,e⟩ | ⟨h,e⟩
 ·rw [e,b0Q hx hp]
  simp only [Option.bind_some,onEnd,c2M]
 ·rw [e,h]
  rfl
theorem a6d (l:List Int)(f:Int->Option Bool)(p:Int->Bool)(hl:l.length<=4194304)(hf:∀ x∈l,f x=some (p x)):Z5 l f=some (l.any p):=by
 unfold Z5 a4L
 rw [Y2]
 rcases a6M (step:=a1Z l f) l p (fun i _=>(i:Int)) (fun i x hx=>by
  have hi:i<l.length:=(List.getElem?_eq_some_iff.1 hx).1
  unfold a1Z
  rw [Z3 hi,j5 hx]
  simp only [cond_true,Option.bind_some,Y1]
  rw [k8 i (by omega),hf x (List.mem_of_getElem? hx)]
  cases p x<;>rfl) (by
  unfold a1Z
  simp) with ⟨i,x,hx,hp,_,e⟩ | ⟨h,e⟩
 ·rw [e,b0Q hx hp]
  simp only [Option.bind_some,onEnd,c2M]
 ·rw [e,h]
  rfl
def b6x (x:Api_TypeNode)(k:Key):Int:=if k.Kind=0 then x.Rest.1 else x.Rest.2
def atM (x:Api_TypeNode)(k:Key):Int:=match x.Fields.find? (fun f=>a0T f.Key_ k) with
 | some f=>f.Node
 | none=>b6x x k
theorem c27 {α:Type}{p:α->Bool}:∀ {l:List α} {i:Nat} {x:α},l[i]?=some x->p x=true->(∀ j,j<i->∀ y,l[j]?=some y->p y=false)->l.find? p=some x
 | [],_,_,h,_,_=>by simp at h
 | y::r,0,x,h,hp,_=>by
   simp at h
   subst h
   simp [hp]
 | y::r,i+1,x,h,hp,hn=>by
   have hy:=hn 0 (by omega) y rfl
   rw [List.find?_cons,hy]
   exact c27 (l:=r) (i:=i) (by simpa using h) hp fun j hj z hz=>hn (j+1) (by omega) z (by simpa using hz)
theorem c7o {α:Type}{p:α->Bool}{l:List α}(h:l.any p=false):l.find? p=none:=by
 rw [List.find?_eq_none]
 rw [List.any_eq_false] at h
 exact h
theorem c8W {k:Key}(h:a0U k=true):k.Kind=0\/k.Kind=1:=by
 unfold a0U at h
 split at h
 ·left; assumption
 ·split at h
  ·right; assumption
  ·cases h
theorem d4M (x:Api_TypeNode)(k:Key)(hf:x.Fields.length<=4194304)(hk:a0U k=true):b9A x k=some (atM x k):=by
 unfold b9A atM
 rw [Y2]
 rcases a6M (step:=b1O x k) x.Fields (fun f=>a0T f.Key_ k) (fun _ f=>f.Node) (fun i f hx=>by
  have hi:i<x.Fields.length:=(List.getElem?_eq_some_iff.1 hx).1
  unfold b1O
  rw [Z3 hi,j5 hx]
  simp only [cond_true,Option.bind_some,c4k,Y1]
  rw [k8 i (by omega)]
  cases a0T f.Key_ k<;>rfl) (by
  unfold b1O
  simp) with ⟨i,f,hx,hp,hn,e⟩ | ⟨h,e⟩
 ·rw [e,c27 hx hp hn]
  rfl
 ·rw [e,c7o h]
  unfold b6x
  rcases c8W hk with h0 | h1
  ·simp [onEnd,h0]
  ·simp [onEnd,h1]
theorem d2p (v:Val)(k:Key)(hl:v.Keys.length<=4194304):∃ r,a9y v k=some r/\decide (r<0)=!(v.Keys.any fun y=>a0T y k):=by
 unfold a9y
 rw [Y2]
 rcases a6M (step:=a5l v k) v.Keys (fun y=>a0T y k) (fun i _=>(i:Int)) (fun i x hx=>by
  have hi:i<v.Keys.length:=(List.getElem?_eq_some_iff.1 hx).1
  unfold a5l
  rw [Z3 hi,j5 hx]
  simp only [cond_true,Option.bind_some,c4k,Y1]
  rw [k8 i (by omega)]
  cases a0T x k<;>rfl) (by
  unfold a5l
  simp) with ⟨i,x,hx,hp,_,e⟩ | ⟨h,e⟩
 ·rw [e,b0Q hx hp]
  exact ⟨(i:Int),rfl,decide_eq_false (by omega)⟩
 ·rw [e,h]
  exact ⟨-1,rfl,rfl⟩
theorem c8O (x:Api_TypeNode)(k:Key)(hl:x.Fields.length<=4194304):(∃ (i:Nat) (f:Api_Field),a4a x k=some (i:Int)/\x.Fields[i]?=some f/\atM x k=f.Node)\/(a4a x k=some (-1)/\atM x k=b6x x k):=by
 unfold a4a atM
 rw [Y2]
 rcases a6M (step:=a4d x k) x.Fields (fun f=>a0T f.Key_ k) (fun i _=>(i:Int)) (fun i f hx=>by
  have hi:i<x.Fields.length:=(List.getElem?_eq_some_iff.1 hx).1
  unfold a4d
  rw [Z3 hi,j5 hx]
  simp only [cond_true,Option.bind_some,c4k,Y1]
  rw [k8 i (by omega)]
  cases a0T f.Key_ k<;>rfl) (by
  unfold a4d
  simp) with ⟨i,f,hx,hp,hn,e⟩ | ⟨h,e⟩
 ·left
  rw [e,c27 hx hp hn]
  exact ⟨i,f,rfl,hx,rfl⟩
 ·right
  rw [e,c7o h]
  exact ⟨rfl,rfl⟩
end Go.Pl
namespace Go.Pl
open Go Go.RowKit Go.Sx Go.Qx
section
variable (μ:Val->Int->Bool)
def b4d (l:List Val)(ks:List Int):Bool:=((l.length:Int)==(ks.length:Int))&&(l.zip ks).all fun p=>μ p.1 p.2
def c4e (v:Val)(x:Api_TypeNode):Bool:=(x.Fields.all fun f=>f.Optional||v.Keys.any fun y=>a0T y f.Key_)&&(v.Keys.zip v.Kids).all fun p=>μ p.2 (atM x p.1)
def c4h (ks:List Int):Int:=ks.getD (ks.length-1) 0
def b4E (e:Ent)(ks:List Int):Bool:=!b4d μ e.Args (ks.take (ks.length-1))||(!e.Fails&&μ e.Result (c4h ks))
def c47 (v:Val)(x:Api_TypeNode):Bool:=(v.Int_==((x.Kids.length-1:Nat):Int))&&v.Entries.all fun e=>b4E μ e x.Kids
def unM (v:Val)(x:Api_TypeNode):Bool :=
 if x.Kind=2 then true else if x.Kind=3 then v.Kind==1&&(decide (x.Lo<=v.Int_)&&decide (v.Int_<=x.Hi)) else if x.Kind=4 then v.Kind==2&&Y0 v.Text x.Text else
 if x.Kind=5 then v.Kind==2 else if x.Kind=6 then v.Kind==3&&Y0 v.Text x.Text else if x.Kind=7 then v.Kind==3 else if x.Kind=8 then v.Kind==4 else if x.Kind=9 then v.Kind==5 else
 if x.Kind=11 then v.Kind==6 else if x.Kind=15 then v.Kind==9 else if x.Kind=10 then v.Kind==6&&b4d μ v.Kids x.Kids else if x.Kind=12 then v.Kind==7&&b4d μ v.Kids x.Kids else
 if x.Kind=13 then v.Kind==8&&c4e μ v x else if x.Kind=14 then v.Kind==9&&c47 μ v x else if x.Kind=16 then x.Kids.any (μ v) else if x.Kind=17 then x.Kids.all (μ v) else
 if x.Kind=18 then !μ v (x.Kids.getD 0 0) else if x.Kind=19 then v.Labels.any fun y=>Y0 y x.Text else false
end
def FU (b:Nat):Nat:=4*(b*11+10)+4
def Z8 (t:Api_Type)(v:Val)(k:Int):Bool:=(Z0 (FU (j9 v)) v t k).getD false
def MS (v:Val)(k:Nat):Nat:=j9 v*11+(10-k)
theorem c9M {α β:Type}{l:List α}{m:List β}{i:Nat}{p:α×β}(h:(l.zip m)[i]?=some p):l[i]?=some p.1/\m[i]?=some p.2:=by
 obtain ⟨a,b⟩:=p
 rw [List.getElem?_zip_eq_some] at h
 exact h
theorem d1L {l:List Val}(h:a1G l=true){x:Val}(hx:x∈l):vOK x=true:=by
 rw [a4F] at h
 exact List.all_eq_true.1 h x hx
section
variable {t:Api_Type}{f0 b:Nat}
def RH (t:Api_Type)(f0 b:Nat):Prop:=∀ (v:Val) (k:Nat) (f:Nat),j9 v<b->vOK v=true->k<t.Nodes.length->f0<=f->X5 f v t (k:Int)=some (Z8 t v (k:Int))/\Z0 f v t (k:Int)=some (Z8 t v (k:Int))
theorem c2p (hR:RH t f0 b){l:List Val}{ks:List Int}(hl:∀ x∈l,j9 x<b)(ho:a1G l=true)(hk:∀ k∈ks,inR t.Nodes.length k=true)(hlen:l.length<=4194304)(f:Nat)(hf:f0+1<=f) :
 a5v f l t ks=some (b4d (Z8 t) l ks)/\a1a f l t ks=some (b4d (Z8 t) l ks):=by
 obtain ⟨f,rfl⟩:∃ m,f=m+1:=⟨f-1,by omega⟩
 by_cases he:l.length=ks.length
 ·have e1:((l.length:Int) != (ks.length:Int))=false:=by simp [he]
  have e2:((l.length:Int)==(ks.length:Int))=true:=by simp [he]
  have hz:(l.zip ks).length=l.length:=by rw [List.length_zip]; omega
  have one:∀ (i:Nat) (p:Val×Int),(l.zip ks)[i]?=some p->i<l.length/\idx l (i:Int)=some p.1/\idx ks (i:Int)=some p.2/\X5 f p.1 t p.2=some (Z8 t p.1 p.2)/\Z0 f p.1 t p.2=some (Z8 t p.1 p.2):=fun i p hp=>by
   obtain ⟨h1,h2⟩:=c9M hp
   obtain ⟨j,hj,hj2⟩:=a26 (hk _ (List.mem_of_getElem? h2))
   have hm:=List.mem_of_getElem? h1
   have:=hR p.1 j f (hl _ hm) (d1L ho hm) hj2 (by omega)
   rw [<- hj] at this
   exact ⟨(List.getElem?_eq_some_iff.1 h1).1,j5 h1,j5 h2,this⟩
  have l1:=a0P (step:=a74 l t ks (X5 f)) (l.zip ks) (fun p=>Z8 t p.1 p.2) (fun i=>(i:Int)) () false (fun i p hp=>by
   obtain ⟨h0,h1,h2,h3,_⟩:=one i p hp
   unfold a74
   rw [Z3 h0,h1]
   simp only [cond_true,Option.bind_some,Y1]
   rw [h2]
   simp only [Option.bind_some]
   rw [h3,k8 i (by omega)]
   exact a6K _ _) (by
   unfold a74
   simp [hz])
  have l2:=a0P (step:=a2b l t ks (Z0 f)) (l.zip ks) (fun p=>Z8 t p.1 p.2) (fun i=>(i:Int)) () false (fun i p hp=>by
   obtain ⟨h0,h1,h2,_,h3⟩:=one i p hp
   unfold a2b
   rw [Z3 h0,h1]
   simp only [cond_true,Option.bind_some,Y1]
   rw [h2]
   simp only [Option.bind_some]
   rw [h3,k8 i (by omega)]
   exact a6K _ _) (by
   unfold a2b
   simp [hz])
  rw [hz] at l1 l2
  unfold b4d
  constructor
  ·show a86 f (a5v f) (W5 f) (a0j f) (X5 f) (a3z f) (a3u f) (a2D f) l t ks=_
   unfold a86
   have l1':iter (a74 l t ks (X5 f)) (l.length+1) 0=_:=l1
   rw [e1,Y2,l1',e2]
   cases (l.zip ks).all fun p=>Z8 t p.1 p.2<;>rfl
  ·show a2z f (a1B f) (a16 f) (Z0 f) (a1a f) l t ks=_
   unfold a2z
   have l2':iter (a2b l t ks (Z0 f)) (l.length+1) 0=_:=l2
   rw [e1,Y2,l2',e2]
   cases (l.zip ks).all fun p=>Z8 t p.1 p.2<;>rfl
 ·have e1:((l.length:Int) != (ks.length:Int))=true:=by simp; omega
  have e2:((l.length:Int)==(ks.length:Int))=false:=by simp; omega
  unfold b4d
  rw [e2]
  constructor
  ·show a86 f (a5v f) (W5 f) (a0j f) (X5 f) (a3z f) (a3u f) (a2D f) l t ks=_
   unfold a86
   rw [e1]; rfl
  ·show a2z f (a1B f) (a16 f) (Z0 f) (a1a f) l t ks=_
   unfold a2z
   rw [e1]; rfl
theorem c6L {ks:List Int}(h:1<=ks.length):ks[ks.length-1]?=some (c4h ks):=by
 unfold c4h
 rw [List.getD_eq_getElem?_getD,List.getElem?_eq_getElem (show ks.length-1<ks.length by omega)]
 rfl
theorem c4R {ks:List Int}(h:1<=ks.length)(h2:ks.length<=4194304):cut ks 0 (w64 ((ks.length:Int)-1))=some (ks.take (ks.length-1)):=by
 rw [show w64 ((ks.length:Int)-1)=((ks.length-1:Nat):Int) by rw [Q8 (by omega) (by omega)]; omega]
 unfold cut
 rw [if_pos (by omega)]
 simp
theorem d2W (hR:RH t f0 b){e:Ent}(ha:∀ x∈e.Args,j9 x<b)(hr:j9 e.Result<b)(he:eOK e=true)(hlen:e.Args.length<=4194304){x:Api_TypeNode}(hk:∀ k∈x.Kids,inR t.Nodes.length k=true)(h1:1<=x.Kids.length)(h4:x.Kids.length<=4194304)(f:Nat)(hf:f0+2<=f) :
 W5 f e t x=some (b4E (Z8 t) e x.Kids):=by
 obtain ⟨f,rfl⟩:∃ m,f=m+1:=⟨f-1,by omega⟩
 rw [b5Q] at he
 simp only [Bool.and_eq_true] at he
 have hall:=(c2p hR (ks:=x.Kids.take (x.Kids.length-1)) ha he.1 (fun k hkk=>hk k (List.mem_of_mem_take hkk)) hlen f (by omega)).1
 show a6P f (a5v f) (W5 f) (a0j f) (X5 f) (a3z f) (a3u f) (a2D f) e t x=_
 unfold a6P b4E
 simp only [Y1]
 rw [c4R h1 h4]
 simp only [Option.bind_some]
 rw [hall]
 simp only [Option.bind_some,V2]
 cases b4d (Z8 t) e.Args (x.Kids.take (x.Kids.length-1))
 ·rfl
 cases hF:e.Fails
 ·have hl:=c6L h1
  obtain ⟨j,hj,hj2⟩:=a26 (hk _ (List.mem_of_getElem? hl))
  have hv:vOK e.Result=true:=by have:=he.2; rw [hF] at this; simpa using this
  have:=(hR e.Result j f hr hv hj2 (by omega)).1
  rw [<- hj] at this
  have hw:w64 ((x.Kids.length:Int)-1)=((x.Kids.length-1:Nat):Int):=by rw [Q8 (by omega) (by omega)]; omega
  simp only [Bool.not_true,Bool.not_false,cond_false,cond_true,Bool.false_or,Bool.true_and]
  rw [hw,j5 hl]
  simp only [Option.bind_some]
  rw [this]
 ·rfl
theorem c7m (hR:RH t f0 b){v:Val}(hv:j9 v<=b)(ho:a43 v.Entries=true)(hb:b<=4194304){x:Api_TypeNode}(hk:∀ k∈x.Kids,inR t.Nodes.length k=true)(h1:1<=x.Kids.length)(h4:x.Kids.length<=4194304)(f:Nat)(hf:f0+3<=f) :
 a0j f v t x=some (c47 (Z8 t) v x)/\a1B f v t x=some (c47 (Z8 t) v x):=by
 obtain ⟨f,rfl⟩:∃ m,f=m+1:=⟨f-1,by omega⟩
 have hbe:=a1y v
 have hle:=a3w v.Entries
 have hw:w64 ((x.Kids.length:Int)-1)=((x.Kids.length-1:Nat):Int):=by rw [Q8 (by omega) (by omega)]; omega
 have ent:∀ e∈v.Entries,(∀ y∈e.Args,j9 y<b)/\j9 e.Result<b/\eOK e=true/\e.Args.length<=4194304:=fun e he=>by
  have hm:=X6 he
  have h2:=a1v e
  have h3:=a2L e.Args
  refine ⟨fun y hy=>by have:=a1j hy; omega,by omega,?_,by omega⟩
  rw [a8t] at ho
  exact List.all_eq_true.1 ho e he
 have l1:iter (a4P v t x (W5 f)) (v.Entries.length+1) 0=some (if (v.Entries.all fun e=>b4E (Z8 t) e x.Kids)=true then .inl () else .inr false):=by
  refine a0P v.Entries (fun e=>b4E (Z8 t) e x.Kids) (fun i=>(i:Int)) () false ?_ ?_
  ·intro i e he
   have hi:i<v.Entries.length:=(List.getElem?_eq_some_iff.1 he).1
   obtain ⟨a1,a2,a3,a4⟩:=ent e (List.mem_of_getElem? he)
   unfold a4P
   rw [Z3 hi,j5 he]
   simp only [cond_true,Option.bind_some,Y1]
   rw [d2W hR a1 a2 a3 a4 hk h1 h4 f (by omega),k8 i (by omega)]
   exact a6K _ _
  ·unfold a4P
   simp
 have l2:iter (a3g v t x (a1a f) (Z0 f)) (v.Entries.length+1) 0=some (if (v.Entries.all fun e=>b4E (Z8 t) e x.Kids)=true then .inl () else .inr false):=by
  refine a0P v.Entries (fun e=>b4E (Z8 t) e x.Kids) (fun i=>(i:Int)) () false ?_ ?_
  ·intro i e he
   have hi:i<v.Entries.length:=(List.getElem?_eq_some_iff.1 he).1
   obtain ⟨a1,a2,a3,a4⟩:=ent e (List.mem_of_getElem? he)
   have a3':=a3
   rw [b5Q] at a3'
   simp only [Bool.and_eq_true] at a3'
   have hall:=(c2p hR (ks:=x.Kids.take (x.Kids.length-1)) a1 a3'.1 (fun k hkk=>hk k (List.mem_of_mem_take hkk)) a4 f (by omega)).2
   unfold a3g
   rw [Z3 hi,j5 he]
   simp only [cond_true,Option.bind_some,Y1]
   rw [c4R h1 h4]
   simp only [Option.bind_some]
   rw [hall,k8 i (by omega)]
   simp only [Option.bind_some,V2]
   unfold b4E
   cases b4d (Z8 t) e.Args (x.Kids.take (x.Kids.length-1))
   ·rfl
   cases hF:e.Fails
   ·have hl:=c6L h1
    obtain ⟨j,hj,hj2⟩:=a26 (hk _ (List.mem_of_getElem? hl))
    have hv2:vOK e.Result=true:=by have:=a3'.2; rw [hF] at this; simpa using this
    have:=(hR e.Result j f a2 hv2 hj2 (by omega)).2
    rw [<- hj] at this
    simp only [Bool.not_true,Bool.not_false,cond_false,cond_true,Bool.false_or,Bool.true_and]
    rw [hw,j5 hl]
    simp only [Option.bind_some]
    rw [this]
    simp only [Option.bind_some]
    cases Z8 t e.Result (c4h x.Kids)<;>rfl
   ·rfl
  ·unfold a3g
   simp
 unfold c47
 have e0:(v.Int_ != ((x.Kids.length-1:Nat):Int))=!(v.Int_==((x.Kids.length-1:Nat):Int)):=rfl
 constructor
 ·show a7m f (a5v f) (W5 f) (a0j f) (X5 f) (a3z f) (a3u f) (a2D f) v t x=_
  unfold a7m
  simp only [Y1]
  rw [hw,Y2,l1,e0]
  cases (v.Int_==((x.Kids.length-1:Nat):Int))
  ·rfl
  cases v.Entries.all fun e=>b4E (Z8 t) e x.Kids<;>rfl
 ·show a5s f (a1B f) (a16 f) (Z0 f) (a1a f) v t x=_
  unfold a5s
  simp only [Y1]
  rw [hw,Y2,l2,e0]
  cases (v.Int_==((x.Kids.length-1:Nat):Int))
  ·rfl
  cases v.Entries.all fun e=>b4E (Z8 t) e x.Kids<;>rfl
theorem d4v {x:Api_TypeNode}{N:Nat}(hf:∀ f∈x.Fields,inR N f.Node=true)(h0:inR N x.Rest.1=true)(h1:inR N x.Rest.2=true)(k:Key):inR N (atM x k)=true:=by
 unfold atM
 cases h:x.Fields.find? fun f=>a0T f.Key_ k with
 | some f=>exact hf f (List.mem_of_find?_eq_some h)
 | none =>
   simp only
   unfold b6x
   split<;>assumption
theorem c68 (hR:RH t f0 b){v:Val}(hv:j9 v<=b)(ho:a1G v.Kids=true)(hm:a9B v=true)(hb:b<=4194304){x:Api_TypeNode}(hf:∀ f∈x.Fields,inR t.Nodes.length f.Node=true)(h0:inR t.Nodes.length x.Rest.1=true)(h1:inR t.Nodes.length x.Rest.2=true)(h3:x.Fields.length<=4194304)(f:Nat)(hff:f0+1<=f) :
 a2D f v t x=some (c4e (Z8 t) v x)/\a16 f v t x=some (c4e (Z8 t) v x):=by
 obtain ⟨f,rfl⟩:∃ m,f=m+1:=⟨f-1,by omega⟩
 have hbe:=a1y v
 have hkl:=a56 v.Keys
 unfold a9B at hm
 simp only [Bool.and_eq_true] at hm
 have hlen:v.Keys.length=v.Kids.length:=by simpa using hm.1
 have hz:(v.Keys.zip v.Kids).length=v.Keys.length:=by rw [List.length_zip]; omega
 have a1:iter (a7O v x) (x.Fields.length+1) 0=some (if (x.Fields.all fun f=>f.Optional||v.Keys.any fun y=>a0T y f.Key_)=true then .inl () else .inr false):=by
  refine a0P x.Fields (fun f=>f.Optional||v.Keys.any fun y=>a0T y f.Key_) (fun i=>(i:Int)) () false ?_ ?_
  ·intro i g hx
   have hi:i<x.Fields.length:=(List.getElem?_eq_some_iff.1 hx).1
   unfold a7O
   rw [Z3 hi,j5 hx]
   simp only [cond_true,Option.bind_some,Y1]
   rw [c6c _ _ (by omega),k8 i (by omega)]
   cases g.Optional<;>cases (v.Keys.any fun y=>a0T y g.Key_)<;>rfl
  ·unfold a7O
   simp
 have a2:iter (a3A v x) (x.Fields.length+1) 0=some (if (x.Fields.all fun f=>f.Optional||v.Keys.any fun y=>a0T y f.Key_)=true then .inl () else .inr false):=by
  refine a0P x.Fields (fun f=>f.Optional||v.Keys.any fun y=>a0T y f.Key_) (fun i=>(i:Int)) () false ?_ ?_
  ·intro i g hx
   have hi:i<x.Fields.length:=(List.getElem?_eq_some_iff.1 hx).1
   obtain ⟨r,e1,e2⟩:=d2p v g.Key_ (by omega)
   unfold a3A
   rw [Z3 hi,j5 hx]
   simp only [cond_true,Option.bind_some,Y1]
   rw [e1,k8 i (by omega)]
   simp only [Option.bind_some]
   rw [e2]
   cases g.Optional<;>cases (v.Keys.any fun y=>a0T y g.Key_)<;>rfl
  ·unfold a3A
   simp
 have one:∀ (i:Nat) (p:Key×Val),(v.Keys.zip v.Kids)[i]?=some p->i<v.Keys.length/\idx v.Keys (i:Int)=some p.1/\idx v.Kids (i:Int)=some p.2/\a0U p.1=true/\X5 f p.2 t (atM x p.1)=some (Z8 t p.2 (atM x p.1))/\Z0 f p.2 t (atM x p.1)=some (Z8 t p.2 (atM x p.1)):=fun i p hp=>by
  obtain ⟨q1,q2⟩:=c9M hp
  have m1:=List.mem_of_getElem? q1
  have m2:=List.mem_of_getElem? q2
  obtain ⟨j,hj,hj2⟩:=a26 (d4v hf h0 h1 p.1)
  have hbm:=a1j m2
  have:=hR p.2 j f (by omega) (d1L ho m2) hj2 (by omega)
  rw [<- hj] at this
  exact ⟨(List.getElem?_eq_some_iff.1 q1).1,j5 q1,j5 q2,List.all_eq_true.1 hm.2.2 _ m1,this⟩
 have b1:=a0P (step:=a5O v t x (X5 f)) (v.Keys.zip v.Kids) (fun p=>Z8 t p.2 (atM x p.1)) (fun i=>(i:Int)) () false (fun i p hp=>by
  obtain ⟨h0,h1,h2,h3',h4,_⟩:=one i p hp
  unfold a5O
  rw [Z3 h0,h1]
  simp only [cond_true,Option.bind_some,Y1]
  rw [h2]
  simp only [Option.bind_some]
  rw [d4M x p.1 h3 h3']
  simp only [Option.bind_some]
  rw [h4,k8 i (by omega)]
  exact a6K _ _) (by
  unfold a5O
  simp [hz])
 have b2:=a0P (step:=a2f v t x (Z0 f)) (v.Keys.zip v.Kids) (fun p=>Z8 t p.2 (atM x p.1)) (fun i=>(i:Int)) () false (fun i p hp=>by
  obtain ⟨h0,h1,h2,h3',_,h4⟩:=one i p hp
  unfold a2f
  rw [Z3 h0,h1]
  simp only [cond_true,Option.bind_some,Y1]
  have hrest:(bif p.1.Kind==0 then some x.Rest.1 else (bif p.1.Kind==1 then some x.Rest.2 else none))=some (b6x x p.1):=by
   unfold b6x
   rcases c8W h3' with h | h
   ·simp [h]
   ·simp [h]
  rw [hrest]
  have hto:∀ {β:Type} (g:Int->Option β),(Option.bind (a4a x p.1) fun r11=>Option.bind (some (b6x x p.1)) fun b13=>Option.bind (bif decide (0<=r11) then (Option.bind (idx x.Fields r11) fun e14=>some e14.Node) else (some b13)) g)=g (atM x p.1):=by
   intro β g
   rcases c8O x p.1 h3 with ⟨i',fl,e1,e2,e3⟩ | ⟨e1,e3⟩
   ·rw [e1]
    simp only [Option.bind_some,c2M,cond_true]
    rw [j5 e2]
    simp only [Option.bind_some,e3]
   ·rw [e1]
    simp only [Option.bind_some,d4S,cond_false,e3]
  rw [hto,h2]
  simp only [Option.bind_some]
  rw [h4,k8 i (by omega)]
  exact a6K _ _) (by
  unfold a2f
  simp [hz])
 rw [hz] at b1 b2
 unfold c4e
 constructor
 ·show b1p f (a5v f) (W5 f) (a0j f) (X5 f) (a3z f) (a3u f) (a2D f) v t x=_
  unfold b1p
  have b1':iter (a5O v t x (X5 f)) (v.Keys.length+1) 0=_:=b1
  rw [Y2,a1,Y2,b1']
  cases (x.Fields.all fun f=>f.Optional||v.Keys.any fun y=>a0T y f.Key_)
  ·rfl
  cases (v.Keys.zip v.Kids).all fun p=>Z8 t p.2 (atM x p.1)<;>rfl
 ·show a5S f (a1B f) (a16 f) (Z0 f) (a1a f) v t x=_
  unfold a5S
  have b2':iter (a2f v t x (Z0 f)) (v.Keys.length+1) 0=_:=b2
  rw [Y2,a2,Y2,b2']
  cases (x.Fields.all fun f=>f.Optional||v.Keys.any fun y=>a0T y f.Key_)
  ·rfl
  cases (v.Keys.zip v.Kids).all fun p=>Z8 t p.2 (atM x p.1)<;>rfl
end
end Go.Pl
namespace Go.Pl
open Go Go.RowKit Go.Sx Go.Qx
section
variable {t:Api_Type}
theorem GT.ord (hT:GT t){k:Nat}{x:Api_TypeNode}(hx:t.Nodes[k]?=some x)(hb:isB x=true){j:Int}(hj:j∈x.Kids):∃ j':Nat,j=(j':Int)/\k<j'/\j'<t.Nodes.length:=by
 have hg:=hT.nodes k x hx
 obtain ⟨j',e,h1⟩:=a26 (a6m hg.ok j hj)
 have:=hg.ord hb j hj
 exact ⟨j',e,by omega,h1⟩
theorem c1H {N:Nat}{x:Api_TypeNode}(h:X3 N x=true):a2T N x=true:=by
 unfold X3 at h
 simp only [Bool.and_eq_true] at h
 exact h.2.2.2.2
theorem c6P {N:Nat}{x:Api_TypeNode}(h:X3 N x=true):x.Kind=1\/x.Kind=2\/x.Kind=3\/x.Kind=4\/x.Kind=5\/x.Kind=6\/x.Kind=7\/x.Kind=8\/x.Kind=9\/x.Kind=10\/x.Kind=11\/x.Kind=12\/x.Kind=13\/x.Kind=14\/x.Kind=15\/x.Kind=16\/x.Kind=17\/x.Kind=18\/x.Kind=19:=by
 rcases a7L x.Kind with hk | hk
 ·exact hk
 ·have e:∀ n:Int,1<=n->n<=19->¬ x.Kind=n:=fun n h1 h2=>by simpa using hk n h1 h2
  have hn:=c1H h
  unfold a2T at hn
  rw [if_neg (e 3 (by omega) (by omega)),if_neg (e 4 (by omega) (by omega)),if_neg (e 6 (by omega) (by omega)),if_neg (e 19 (by omega) (by omega)),if_neg (by have:=e 1 (by omega) (by omega); have:=e 2 (by omega) (by omega); have:=e 5 (by omega) (by omega); have:=e 7 (by omega) (by omega); have:=e 8 (by omega) (by omega); have:=e 9 (by omega) (by omega); have:=e 11 (by omega) (by omega); have:=e 15 (by omega) (by omega); omega),
   if_neg (e 10 (by omega) (by omega)),if_neg (e 12 (by omega) (by omega)),if_neg (e 14 (by omega) (by omega)),if_neg (by have:=e 16 (by omega) (by omega); have:=e 17 (by omega) (by omega); omega),if_neg (e 18 (by omega) (by omega)),if_neg (e 13 (by omega) (by omega))] at hn
  cases hn
theorem c5u {N:Nat}{x:Api_TypeNode}(h:X3 N x=true)(hk:x.Kind=14):1<=x.Kids.length/\x.Kids.length<=5:=by
 have hn:=c1H h
 unfold a2T at hn
 simp [hk] at hn
 omega
theorem c5L {N:Nat}{x:Api_TypeNode}(h:X3 N x=true)(hk:x.Kind=18):x.Kids.length=1:=by
 have hn:=c1H h
 unfold a2T at hn
 simp [hk] at hn
 omega
theorem c5e {N:Nat}{x:Api_TypeNode}(h:X3 N x=true)(hk:x.Kind=13):(∀ f∈x.Fields,inR N f.Node=true)/\inR N x.Rest.1=true/\inR N x.Rest.2=true:=by
 have hn:=c1H h
 unfold a2T a9U at hn
 simp [hk] at hn
 exact ⟨hn.1.2.2,hn.2.2.1,hn.2.2.2⟩
theorem c3t {v:Val}(h:vOK v=true)(hk:v.Kind=8):a9B v=true:=by
 rw [b8N] at h
 simp only [Bool.and_eq_true] at h
 have:=h.1
 unfold a18 a36 at this
 simp only [Bool.and_eq_true] at this
 have h2:=this.2.2
 simp [hk] at h2
 exact h2
theorem d0I {v:Val}(h:vOK v=true):a1G v.Kids=true/\a43 v.Entries=true:=by
 rw [b8N] at h
 simp only [Bool.and_eq_true] at h
 exact h.2
theorem b9w {α:Type}(p:α->Bool)(l:List α):(!(l.any fun x=>!p x))=l.all p:=by
 rw [Bool.eq_iff_iff]
 simp
theorem d2O (hT:GT t){v:Val}{k:Nat}{x:Api_TypeNode}(hx:t.Nodes[k]?=some x)(ho:vOK v=true)(hb:j9 v<=4194304){f0:Nat}(hR:RH t f0 (j9 v))
 (hB:isB x=true->∀ j∈x.Kids,∀ f,f0<=f->X5 f v t j=some (Z8 t v j)/\Z0 f v t j=some (Z8 t v j)) (f:Nat) (hf:f0+4<=f) :
 X5 f v t (k:Int)=some (unM (Z8 t) v x)/\Z0 f v t (k:Int)=some (unM (Z8 t) v x):=by
 obtain ⟨f,rfl⟩:∃ m,f=m+1:=⟨f-1,by omega⟩
 have hg:=hT.nodes k x hx
 have hn:=hg.ok
 have hk4:=hg.kids
 have hf3:=hg.flds
 have hkr:=a6m hn
 obtain ⟨ho1,ho2⟩:=d0I ho
 have hbe:=a1y v
 have hkl:=a2L v.Kids
 have hll:=a4H v.Labels
 have hall:=c2p hR (l:=v.Kids) (ks:=x.Kids) (fun y hy=>by have:=a1j hy; omega) ho1 hkr (by omega) f (by omega)
 have hlab:=c1C v.Labels x.Text (by omega)
 have hlab2:(Option.bind (iter (a2n v x) (v.Labels.length+1) 0) fun b30=>onEnd (fun _=>some false) (fun y32=>some y32) b30)=some (v.Labels.any fun y=>Y0 y x.Text):=by
  rcases a6M (step:=a2n v x) v.Labels (fun y=>Y0 y x.Text) (fun _ _=>true) (fun i y hy=>by
   have hi:i<v.Labels.length:=(List.getElem?_eq_some_iff.1 hy).1
   unfold a2n
   rw [Z3 hi,j5 hy]
   simp only [cond_true,Option.bind_some,Y1]
   rw [k8 i (by omega)]
   cases Y0 y x.Text<;>rfl) (by
   unfold a2n
   simp) with ⟨i,y,hy,hp,_,e⟩ | ⟨h,e⟩
  ·rw [e,b0Q hy hp]; rfl
  ·rw [e,h]; rfl
 have hbool:isB x=true->Z5 x.Kids (fun z=>a3z f z v t)=some (x.Kids.any (Z8 t v))/\(Option.bind (Z5 x.Kids (fun z=>a3u f z v t)) fun r=>some (!r))=some (x.Kids.all (Z8 t v)) /\
  (Option.bind (iter (a2x v t x (Z0 f)) (x.Kids.length+1) 0) fun b17=>onEnd (fun _=>some false) (fun y19=>some y19) b17)=some (x.Kids.any (Z8 t v)) /\
  (Option.bind (iter (a1o v t x (Z0 f)) (x.Kids.length+1) 0) fun b23=>onEnd (fun _=>some true) (fun y25=>some y25) b23)=some (x.Kids.all (Z8 t v)):=fun hb=>by
  have hB:=hB hb
  obtain ⟨f,rfl⟩:∃ m,f=m+1:=⟨f-1,by omega⟩
  refine ⟨a6d _ _ _ (by omega) fun z hz=>?_,?_,?_,?_⟩
  ·show b2Z f (a5v f) (W5 f) (a0j f) (X5 f) (a3z f) (a3u f) (a2D f) z v t=_
   unfold b2Z
   rw [(hB z hz f (by omega)).1]
   rfl
  ·rw [a6d _ _ (fun z=>!Z8 t v z) (by omega) fun z hz=>?_]
   ·simp only [Option.bind_some]
    rw [b9w]
   ·show b3m f (a5v f) (W5 f) (a0j f) (X5 f) (a3z f) (a3u f) (a2D f) z v t=_
    unfold b3m
    rw [(hB z hz f (by omega)).1]
    rfl
  ·rcases a6M (step:=a2x v t x (Z0 (f+1))) x.Kids (Z8 t v) (fun _ _=>true) (fun i y hy=>by
    have hi:i<x.Kids.length:=(List.getElem?_eq_some_iff.1 hy).1
    unfold a2x
    rw [Z3 hi,j5 hy]
    simp only [cond_true,Option.bind_some,Y1]
    rw [(hB y (List.mem_of_getElem? hy) (f+1) (by omega)).2,k8 i (by omega)]
    simp only [Option.bind_some]
    cases Z8 t v y<;>rfl) (by
    unfold a2x
    simp) with ⟨i,y,hy,hp,_,e⟩ | ⟨h,e⟩
   ·rw [e,b0Q hy hp]; rfl
   ·rw [e,h]; rfl
  ·have l2:=a0P (step:=a1o v t x (Z0 (f+1))) x.Kids (Z8 t v) (fun i=>(i:Int)) () false (fun i y hy=>by
    have hi:i<x.Kids.length:=(List.getElem?_eq_some_iff.1 hy).1
    unfold a1o
    rw [Z3 hi,j5 hy]
    simp only [cond_true,Option.bind_some,Y1]
    rw [(hB y (List.mem_of_getElem? hy) (f+1) (by omega)).2,k8 i (by omega)]
    exact a6K _ _) (by
    unfold a1o
    simp)
   have l2':iter (a1o v t x (Z0 (f+1))) (x.Kids.length+1) 0=_:=l2
   rw [l2']
   cases x.Kids.all (Z8 t v)<;>rfl
 have hidx:=j5 hx
 constructor
 ·show b6m f (a5v f) (W5 f) (a0j f) (X5 f) (a3z f) (a3u f) (a2D f) v t (k:Int)=_
  unfold b6m
  rw [hidx]
  simp only [Option.bind_some,V2]
  rcases c6P hn with hK | hK | hK | hK | hK | hK | hK | hK | hK | hK | hK | hK | hK | hK | hK | hK | hK | hK | hK<;>unfold unM<;>simp only [hK,Int.reduceBEq,Int.reduceEq,if_true,if_false,cond_true,cond_false,Option.bind_some]
  ·cases v.Kind==1<;>cases decide (x.Lo<=v.Int_)<;>rfl
  ·cases v.Kind==2<;>rfl
  ·rfl
  ·cases v.Kind==3<;>rfl
  ·rfl
  ·rfl
  ·rfl
  ·rw [hall.1]
   cases v.Kind==6<;>rfl
  ·rfl
  ·rw [hall.1]
   cases v.Kind==7<;>rfl
  ·cases hv:v.Kind==8
   ·rfl
   ·obtain ⟨q1,q2,q3⟩:=c5e hn hK
    rw [(c68 hR (Nat.le_refl _) ho1 (c3t ho (by simpa using hv)) hb q1 q2 q3 (by omega) f (by omega)).1]
    rfl
  ·obtain ⟨q1,q2⟩:=c5u hn hK
   rw [(c7m hR (Nat.le_refl _) ho2 hb hkr q1 (by omega) f (by omega)).1]
   cases v.Kind==9<;>rfl
  ·rfl
  ·exact (hbool (by unfold isB; rw [hK]; rfl)).1
  ·exact (hbool (by unfold isB; rw [hK]; rfl)).2.1
  ·have h1:=c5L hn hK
   have ek:=List.getElem?_eq_getElem (show 0<x.Kids.length by omega)
   have e0:idx x.Kids 0=some x.Kids[0]:=j5 ek
   rw [e0]
   simp only [Option.bind_some]
   rw [(hB (by unfold isB; rw [hK]; rfl) _ (List.mem_of_getElem? ek) f (by omega)).1,List.getD_eq_getElem?_getD,ek]
   rfl
  ·exact hlab
 ·show a6o f (a1B f) (a16 f) (Z0 f) (a1a f) v t (k:Int)=_
  unfold a6o
  rw [hidx]
  simp only [Option.bind_some,Y2]
  rcases c6P hn with hK | hK | hK | hK | hK | hK | hK | hK | hK | hK | hK | hK | hK | hK | hK | hK | hK | hK | hK<;>unfold unM<;>simp only [hK,Int.reduceBEq,Int.reduceEq,if_true,if_false,cond_true,cond_false,Option.bind_some]
  ·cases v.Kind==1<;>cases decide (x.Lo<=v.Int_)<;>rfl
  ·cases v.Kind==2<;>rfl
  ·cases v.Kind==3<;>rfl
  ·rw [hall.2]
   cases v.Kind==6<;>rfl
  ·rw [hall.2]
   cases v.Kind==7<;>rfl
  ·cases hv:v.Kind==8
   ·rfl
   ·obtain ⟨q1,q2,q3⟩:=c5e hn hK
    rw [(c68 hR (Nat.le_refl _) ho1 (c3t ho (by simpa using hv)) hb q1 q2 q3 (by omega) f (by omega)).2]
    rfl
  ·obtain ⟨q1,q2⟩:=c5u hn hK
   rw [(c7m hR (Nat.le_refl _) ho2 hb hkr q1 (by omega) f (by omega)).2]
   cases v.Kind==9<;>rfl
  ·exact (hbool (by unfold isB; rw [hK]; rfl)).2.2.1
  ·exact (hbool (by unfold isB; rw [hK]; rfl)).2.2.2
  ·have h1:=c5L hn hK
   have ek:=List.getElem?_eq_getElem (show 0<x.Kids.length by omega)
   have e0:idx x.Kids 0=some x.Kids[0]:=j5 ek
   rw [e0]
   simp only [Option.bind_some]
   rw [(hB (by unfold isB; rw [hK]; rfl) _ (List.mem_of_getElem? ek) f (by omega)).2,List.getD_eq_getElem?_getD,ek]
   rfl
  ·exact hlab2
theorem c02 (hT:GT t):∀ (m:Nat) (v:Val) (k:Nat) (x:Api_TypeNode),MS v k<=m->vOK v=true->j9 v<=4194304->t.Nodes[k]?=some x ->
 (∀ f,4*MS v k+4<=f->X5 f v t (k:Int)=some (Z8 t v (k:Int))/\Z0 f v t (k:Int)=some (Z8 t v (k:Int)))/\Z8 t v (k:Int)=unM (Z8 t) v x:=by
 intro m
 induction m with
 | zero=>intro v k x h; have:=a8J v; unfold MS at h; omega
 | succ m ih =>
   intro v k x hm ho hb hx
   have hkN:k<t.Nodes.length:=(List.getElem?_eq_some_iff.1 hx).1
   have hN:=hT.len
   have hR:RH t (4*MS v k) (j9 v):=fun w j f hw hwo hj hf=>by
    have ej:=List.getElem?_eq_getElem hj
    have hlt:MS w j+1<=MS v k:=by unfold MS; omega
    exact (ih w j _ (by omega) hwo (by omega) ej).1 f (by omega)
   have hst:=d2O hT hx ho hb hR (fun hbx j hj f hf=>by
    obtain ⟨j',rfl,h1,h2⟩:=hT.ord hx hbx hj
    have ej:=List.getElem?_eq_getElem h2
    have hlt:MS v j'+1<=MS v k:=by unfold MS; omega
    exact (ih v j' _ (by omega) ho hb ej).1 f (by omega))
   have hmem:Z8 t v (k:Int)=unM (Z8 t) v x:=by
    have hFU:4*MS v k+4<=FU (j9 v):=by unfold FU MS; omega
    have:=(hst (FU (j9 v)) hFU).2
    unfold Z8 at *
    rw [this]
    rfl
   refine ⟨fun f hf=>?_,hmem⟩
   rw [hmem]
   exact hst f hf
theorem d3s (hT:GT t){v:Val}{k:Nat}(ho:vOK v=true)(hb:j9 v<=4194304)(hk:k<t.Nodes.length)(f:Nat)(hf:FU (j9 v)<=f):X5 f v t (k:Int)=some (Z8 t v (k:Int)) :=
 ((c02 hT (MS v k) v k _ (Nat.le_refl _) ho hb (List.getElem?_eq_getElem hk)).1 f (by unfold FU at hf; unfold MS; omega)).1
theorem c9j (hT:GT t){v:Val}{k:Nat}(ho:vOK v=true)(hb:j9 v<=4194304)(hk:k<t.Nodes.length)(f:Nat)(hf:FU (j9 v)<=f):Z0 f v t (k:Int)=some (Z8 t v (k:Int)) :=
 ((c02 hT (MS v k) v k _ (Nat.le_refl _) ho hb (List.getElem?_eq_getElem hk)).1 f (by unfold FU at hf; unfold MS; omega)).2
theorem b0o (hT:GT t){v:Val}{k:Nat}{x:Api_TypeNode}(hx:t.Nodes[k]?=some x)(ho:vOK v=true)(hb:j9 v<=4194304):Z8 t v (k:Int)=unM (Z8 t) v x :=
 (c02 hT (MS v k) v k x (Nat.le_refl _) ho hb hx).2
end
end Go.Pl
namespace Go.Pl
open Go Go.RowKit Go.Sx Go.Qx
section
variable {t:Api_Type}
theorem GT.all (hT:GT t):b5f t.Nodes=true:=List.all_eq_true.2 fun x hx=>by
 obtain ⟨i,hi,rfl⟩:=List.getElem_of_mem hx
 exact (hT.nodes i _ (List.getElem?_eq_getElem hi)).ok
theorem GT.ordT (hT:GT t):c7S t.Nodes:=fun i x hx hb k hk=>(hT.nodes i x hx).ord hb k hk
theorem GT.small (hT:GT t):∀ x∈t.Nodes,x.Kids.length<=1100000/\x.Fields.length<=1100000:=fun x hx=>by
 obtain ⟨i,hi,rfl⟩:=List.getElem_of_mem hx
 have hg:=hT.nodes i _ (List.getElem?_eq_getElem hi)
 have h1:=hg.kids
 have h2:=hg.flds
 omega
theorem wf0 (hT:GT t)(hr:inR t.Nodes.length t.Root=true)(f:Nat)(hf:1100001<=f):a09 f t=some 0:=by
 have hN:=hT.len
 rw [d4A t hT.ordT hT.small (by omega) f (by omega),hT.all,hr]
 rfl
end
end Go.Pl
end
section
namespace Go.Pl
open Go Go.RowKit Go.Sx Go.Qx
theorem c4X:CmpOk cI:=⟨fun x y=>by
 rcases K4 x y with ⟨_,h⟩ | ⟨_,h⟩ | ⟨_,h⟩<;>rcases K4 y x with ⟨_,k⟩ | ⟨_,k⟩ | ⟨_,k⟩<;>rw [h,k]<;>omega,
 fun x y z h1 h2=>by
  rcases K4 x y with ⟨_,h⟩ | ⟨_,h⟩ | ⟨_,h⟩<;>rcases K4 y z with ⟨_,k⟩ | ⟨_,k⟩ | ⟨_,k⟩<;>rcases K4 x z with ⟨_,l⟩ | ⟨_,l⟩ | ⟨_,l⟩<;>rw [h] at h1<;>rw [k] at h2<;>rw [l]<;>omega,
 fun _ _ h=>cI0 h⟩
abbrev b6k (x y:Int):Bool:=decide (cI x y=0)
theorem c4j (x y:Int):(x==y)=decide (cI x y=0):=by
 rcases K4 x y with ⟨h,k⟩ | ⟨h,k⟩ | ⟨h,k⟩
 ·rw [k]; simp; omega
 ·rw [k]; simp; omega
 ·rw [k]; simp [h]
theorem d1U (x y:Int):decide (x<y)=decide (cI x y<0):=by
 rcases K4 x y with ⟨h,k⟩ | ⟨h,k⟩ | ⟨h,k⟩
 ·rw [k]; simp [h]
 ·rw [k]; simp; omega
 ·rw [k]; simp [h]
theorem d4o (s0:List Int)(i0 n:Nat)(hn:n<=4194304)(i k:Nat)(s:List Int)(x y:Int)(hl:s.length=n)(hk:i0+k<n)(h1:1<=k)(hi:i<i0+k)(hx:s[i0+k]?=some x)(hy:s[i0+k-1]?=some y) :
 a0l (s0,(i0:Int)) (((i:Int),(k:Int)),s)=some (.next (if b6k x y=true then (((i:Int),((k+1:Nat):Int)),s) else ((((i+1:Nat):Int),((k+1:Nat):Int)),s.set i x))):=by
 unfold a0l
 simp only [V8,Y1,Int.toNat_natCast]
 have hdl:(s.drop i0).length=n-i0:=by rw [List.length_drop,hl]
 rw [if_pos (decide_eq_true (by show (k:Int)<(((s.drop i0).length:Nat):Int); rw [hdl]; omega)),k8 i (by omega),k8 k (by omega),a9Z k (by omega) h1]
 simp only [Int.toNat_natCast]
 have a1:idx (s.drop i0) (k:Int)=some x:=j5 (by rw [List.getElem?_drop]; exact hx)
 have a2:idx (s.drop i0) ((k-1:Nat):Int)=some y:=j5 (by rw [List.getElem?_drop,show i0+(k-1)=i0+k-1 by omega]; exact hy)
 have a3:idx s (i:Int)=some (s[i]'(by omega)):=j5 (List.getElem?_eq_getElem (by omega))
 rw [a1,a2,a3,hx,show i0+(k-1)=i0+k-1 by omega,hy,List.getElem?_eq_getElem (show i<s.length by omega)]
 simp only [Option.bind_some,bne]
 rw [c4j]
 by_cases h:cI x y=0<;>simp [b6k,h]
theorem c6l (l:List Int)(hl:l.length<=4194304):a3y l=some (a6U b6k l):=by
 unfold a3y
 by_cases h2:(l.length:Int)<2
 ·have e:decide ((l.length:Int)<2)=true:=by simpa using h2
  rw [e]
  match l,h2 with
  | [],_=>rfl
  | [_],_=>rfl
  | _::_::_,h=>exact absurd h (by simp; omega)
 ·have e:decide ((l.length:Int)<2)=false:=by simpa using h2
  rw [e,Y2]
  simp only [cond_false]
  have key:=c3D (r:=b6k) (step:=a1i) l (by omega) ?_ ?_ ?_
  ·rcases key with ⟨h,hc⟩ | ⟨q,h⟩
   ·rw [h,hc]; rfl
   ·rw [h]; rfl
  ·intro i x y hi hx hy hr
   have hlt:i<l.length:=(List.getElem?_eq_some_iff.1 hx).1
   unfold a1i
   simp only [V8,Y1,Int.toNat_natCast]
   rw [if_pos (by simp; omega),a9Z i (by omega) hi,j5 hx,j5 hy]
   simp only [Int.toNat_natCast,hx,hy,Option.bind_some]
   rw [c4j]
   have hr':decide (cI x y=0)=false:=hr
   rw [hr',k8 i (by omega)]
   rfl
  ·intro i x y hi hx hy hr
   have hlt:i<l.length:=(List.getElem?_eq_some_iff.1 hx).1
   unfold a1i
   simp only [V8,Y1,Int.toNat_natCast]
   rw [if_pos (by simp; omega),a9Z i (by omega) hi,j5 hx,j5 hy]
   simp only [Int.toNat_natCast,hx,hy,Option.bind_some]
   rw [c4j]
   have hr':decide (cI x y=0)=true:=hr
   rw [hr',if_pos rfl]
   obtain ⟨s',e1,e2,e3⟩:=c3J (r:=b6k) (step:=a0l (l,(i:Int))) i l.length (fun i' k s x y a1 a2 a3 a4 a5 a6=>d4o l i l.length hl i' k s x y a1 a2 a3 a4 a5 a6)
    (fun i' k s a1 a2=>by
      unfold a0l
      simp only [Int.toNat_natCast]
      have:decide ((k:Int)<(((s.drop i).length:Nat):Int))=false:=by rw [List.length_drop]; simp; omega
      rw [this]
      rfl) (l.length-(i+1)) i 1 l x ((l.drop i).length+1) rfl (by omega) (Nat.le_refl _) (by omega) (by simpa using hx) (by rw [List.length_drop]; omega)
   have e1':iter (a0l (l,(i:Int))) ((l.drop i).length+1) (((i:Int),1),l)=_:=e1
   rw [e1']
   simp only [Option.bind_some,<- V8]
   have hd:=c5H (r:=b6k) (l.drop (i+1)) x
   rw [List.length_drop] at hd
   exact c6X (0:Int) _ l.length s' _ e2 (by omega) e3
  ·unfold a1i
   simp
theorem c8y (l:List Int):(l.mergeSort fun x y=>decide (x<=y)).Pairwise fun a b=>¬ cI b a<0:=by
 refine (List.pairwise_mergeSort (le:=fun x y:Int=>decide (x<=y)) (fun a b c h1 h2=>?_) (fun a b=>?_) l).imp fun {a b} h=>?_
 ·simp only [decide_eq_true_eq] at *
  omega
 ·simp only [Bool.or_eq_true,decide_eq_true_eq]
  omega
 ·simp only [decide_eq_true_eq] at h
  rcases K4 b a with ⟨_,k⟩ | ⟨_,k⟩ | ⟨_,k⟩<;>rw [k]<;>omega
def srt (l:List Int):List Int:=l.foldl (a2a cI) []
theorem b1S (l:List Int)(hl:l.length<=4194304):a5q l=some (srt l):=by
 unfold a5q a0n
 rw [Z6 (by omega)]
 simp only [Option.bind_some]
 unfold c20 b3p
 have e:decide (l.length<4611686018427387904)=true:=by simp; omega
 rw [e]
 simp only [cond_true,Option.bind_some]
 have hp:=List.mergeSort_perm l fun x y:Int=>decide (x<=y)
 rw [c6l _ (by rw [hp.length_eq]; exact hl)]
 simp only [Option.bind_some]
 unfold a6Q
 have:=c0h c4X hp (c8y l)
 rw [show a6U (fun x y=>decide (cI x y=0))=a6U b6k from rfl] at this
 rw [this]
 simp [srt]
theorem c7b (l:List Int):asc cI (srt l)=true:=(c2K (c:=cI) c4X l).1
theorem c2m (l:List Int)(y:Int):y∈srt l↔y∈l:=(c2K (c:=cI) c4X l).2 y
theorem b9D (l:List Int):srt (srt l)=srt l:=d0a c4X (c7b l)
theorem b9y (l:List Int):(srt l).length<=l.length:=by
 have key:∀ (l out:List Int),(l.foldl (a2a cI) out).length<=out.length+l.length:=by
  intro l
  induction l with
  | nil=>intro out; simp
  | cons x r ih =>
    intro out
    have h1:=ih (a2a cI out x)
    have h2:=b7d cI out x
    simp only [List.foldl_cons,List.length_cons]
    omega
 have:=key l []
 simpa [srt] using this
theorem d2l (out:List Int)(x:Int)(hl:out.length<=4194304):a6f out x=some (a2a cI out x):=by
 unfold a6f
 simp only [Y2]
 have p:=c1h (step:=a3k out x) out (fun y=>decide (cI y x<0)) ?_ ?_
 ·have p':iter (a3k out x) (out.length+1) 0=_:=p
  rw [p']
  simp only [Option.bind_some]
  have hk:=b3h (fun y=>decide (cI y x<0)) out
  have hat:=c2k (fun y=>decide (cI y x<0)) out
  have go:(Option.bind (cut out 0 ((out.takeWhile (fun y=>decide (cI y x<0))).length:Int)) fun u=>Option.bind (Z4 (0+u.length) 8) fun _ =>
   Option.bind (Z4 (u.length+[x].length) 8) fun _=>Option.bind (cut out ((out.takeWhile (fun y=>decide (cI y x<0))).length:Int) (out.length:Int)) fun w =>
   Option.bind (Z4 ((u++[x]).length+w.length) 8) fun _=>some ((u++[x])++w))=some (a0b (fun y=>decide (cI y x<0)) x out) :=
   c5D out x _ 8 (by omega) hl (fun l=>some l)
  rw [go]
  unfold a2a
  cases hh:(out.dropWhile (fun y=>decide (cI y x<0))).head? with
  | none =>
    rw [hh] at hat
    have hge:=List.getElem?_eq_none_iff.1 hat
    have:decide (((out.takeWhile (fun y=>decide (cI y x<0))).length:Int)<(out.length:Int))=false:=by simp; omega
    rw [this]
    rfl
  | some y =>
    rw [hh] at hat
    have hlt2:=(List.getElem?_eq_some_iff.1 hat).1
    have:decide (((out.takeWhile (fun y=>decide (cI y x<0))).length:Int)<(out.length:Int))=true:=by simp; omega
    rw [this,j5 hat]
    simp only [cond_true,Option.bind_some,c4j]
    by_cases h0:cI y x=0<;>simp [h0]
 ·intro j y hy
  have hj:j<out.length:=(List.getElem?_eq_some_iff.1 hy).1
  unfold a3k
  simp only [Y1]
  rw [show decide ((j:Int)<(out.length:Int))=true from by simp; omega,j5 hy]
  simp only [cond_true,Option.bind_some,k8 j (by omega)]
  rw [d1U y x]
  by_cases h:cI y x<0<;>simp [h]
 ·unfold a3k
  simp
theorem c2h (l:List Int)(hl:l.length<=4194304):a4y l=some (srt l):=by
 unfold a4y
 have key:=a27 (σ:=List Int) (step:=a15 l) l (fun s i=>(s,(i:Int))) (a2a cI) (fun i s=>s.length<=i) (fun s=>s)
  ?_ ?_ [] (by simp) _ (Nat.le_refl _)
 ·have e:iter (a15 l) (l.length+1) (([]:List Int),0)=iter (a15 l) (l.length+1) (([]:List Int),((0:Nat):Int)):=rfl
  rw [Y2,e,key]
  rfl
 ·intro i s x hx hI
  have hi:i<l.length:=(List.getElem?_eq_some_iff.1 hx).1
  refine ⟨?_,?_⟩
  ·unfold a15
   simp only [Y1]
   rw [show decide ((i:Int)<(l.length:Int))=true from by simp; omega,j5 hx]
   simp only [cond_true,Option.bind_some]
   rw [d2l s x (by omega),k8 i (by omega)]
   rfl
  ·have:=b7d cI s x
   omega
 ·intro s _
  unfold a15
  simp
end Go.Pl
end
section
namespace Go.Pl
open Go Go.RowKit Go.Sx Go.Qx
abbrev g0 (p q:List Int):Api_Goal:=Api_Goal.mk p q false
theorem b9f (p q:List Int)(b:Bool)(h1:p.length<=4194304)(h2:q.length<=4194304):a6L (Api_Goal.mk p q b)=some (Api_Goal.mk (srt p) (srt q) b):=by
 unfold a6L
 rw [b1S p h1,b1S q h2]
 rfl
theorem c74 (p q:List Int)(b:Bool)(h1:p.length<=4194304)(h2:q.length<=4194304):a5i (Api_Goal.mk p q b)=some (Api_Goal.mk (srt p) (srt q) b):=by
 unfold a5i
 rw [c2h p h1,c2h q h2]
 rfl
theorem c41 (l:List Int)(x:Int)(hl:l.length<=4194304):a3c l x=some (l.any fun y=>x==y):=by
 unfold a3c a6x
 rw [Y2]
 rcases a6M (step:=a3d l x) l (fun y=>x==y) (fun i _=>(i:Int)) (fun i y hy=>by
  have hi:i<l.length:=(List.getElem?_eq_some_iff.1 hy).1
  unfold a3d
  rw [Z3 hi,j5 hy]
  simp only [cond_true,Option.bind_some,Y1]
  rw [k8 i (by omega)]
  cases x==y<;>rfl) (by
  unfold a3d
  simp) with ⟨i,y,hy,hp,_,e⟩ | ⟨h,e⟩
 ·rw [e,b0Q hy hp]
  simp only [Option.bind_some,onEnd,c2M]
 ·rw [e,h]
  rfl
def a87 (p q:List Int):Bool:=p.any fun x=>q.any fun y=>x==y
theorem d2t (p q:List Int)(h1:p.length<=4194304)(h2:q.length<=4194304):a8s p q=some (a87 p q):=by
 unfold a8s
 rw [a6d p _ (fun x=>q.any fun y=>x==y) h1 fun x _=>by
  unfold a9E
  simp only [V2]
  exact c41 q x h2]
 rfl
theorem d0N {St β:Type}{step:St->Option (Fl St β)}(st:Nat->St)(n:Nat)(r:β)(hs:∀ i,i<n->step (st i)=some (.next (st (i+1))))(he:step (st n)=some (.done r))(k:Nat)(hk:n+1<=k):iter step k (st 0)=some r:=by
 have key:∀ (m i k:Nat),i+m=n->m+1<=k->iter step k (st i)=some r:=by
  intro m
  induction m with
  | zero =>
    intro i k h1 h2
    obtain ⟨k,rfl⟩:∃ q,k=q+1:=⟨k-1,by omega⟩
    have e:i=n:=by omega
    subst e
    simp only [iter,he,Option.bind_some]
  | succ m ih =>
    intro i k h1 h2
    obtain ⟨k,rfl⟩:∃ q,k=q+1:=⟨k-1,by omega⟩
    simp only [iter,hs i (by omega),Option.bind_some]
    exact ih (i+1) k (by omega) (by omega)
 exact key n 0 k (by omega) hk
end Go.Pl
end
section
namespace Go.Pl
open Go Go.RowKit Go.Sx Go.Qx
section
variable {T:Api_Type}
def gIn (N:Nat)(g:Api_Goal):Bool:=g.Pos.all (inR N)&&g.Neg.all (inR N)
def gM (T:Api_Type)(v:Val)(g:Api_Goal):Bool:=g.Pos.all (Z8 T v)&&g.Neg.all fun k=>!Z8 T v k
theorem c3C (g:Api_Goal)(h1:g.Pos.length<=1000000)(h2:g.Neg.length<=1000000):a71 T g=some (gIn T.Nodes.length g):=by
 unfold a71 a0n
 rw [Z6 (by omega)]
 simp only [Option.bind_some]
 rw [Z6 (by omega)]
 simp only [Option.bind_some,Y2]
 have l1:=a0P (step:=a57 T g g.Pos) (g.Pos++g.Neg) (inR T.Nodes.length) (fun i=>(i:Int)) () false (fun i k hk=>by
  have hi:i<(g.Pos++g.Neg).length:=(List.getElem?_eq_some_iff.1 hk).1
  have hi':=hi
  rw [List.length_append] at hi'
  unfold a57
  simp only [Y1]
  rw [Z3 hi,j5 hk]
  simp only [cond_true,Option.bind_some]
  rw [k8 i (by omega)]
  unfold inR
  by_cases a1:k<0
  ·have b1:decide (k<0)=true:=by simpa using a1
   have b2:decide (0<=k)=false:=by simp; omega
   rw [b1,b2]; rfl
  ·have b1:decide (k<0)=false:=by simpa using a1
   have b2:decide (0<=k)=true:=by simp; omega
   rw [b1,b2]
   by_cases a2:k<(T.Nodes.length:Int)
   ·have b3:decide ((T.Nodes.length:Int)<=k)=false:=by simp; omega
    have b4:decide (k<(T.Nodes.length:Int))=true:=by simpa using a2
    rw [b3,b4]; rfl
   ·have b3:decide ((T.Nodes.length:Int)<=k)=true:=by simp; omega
    have b4:decide (k<(T.Nodes.length:Int))=false:=by simpa using a2
    rw [b3,b4]; rfl) (by
  unfold a57
  simp)
 have l1':iter (a57 T g g.Pos) ((g.Pos++g.Neg).length+1) 0=_:=l1
 rw [l1',List.all_append]
 unfold gIn
 cases g.Pos.all (inR T.Nodes.length)&&g.Neg.all (inR T.Nodes.length)<;>rfl
theorem d3z (hT:GT T){v:Val}(ho:vOK v=true)(hb:j9 v<=2097152)(f:Nat)(hf:200000000<=f){k:Int}(hk:inR T.Nodes.length k=true):X5 f v T k=some (Z8 T v k)/\Z0 f v T k=some (Z8 T v k):=by
 obtain ⟨j,rfl⟩:∃ j:Nat,k=(j:Int):=⟨k.toNat,by unfold inR at hk; simp at hk; omega⟩
 have hj:j<T.Nodes.length:=by unfold inR at hk; simp at hk; omega
 have hFU:FU (j9 v)<=f:=by unfold FU; omega
 exact ⟨d3s hT ho (by omega) hj f hFU,c9j hT ho (by omega) hj f hFU⟩
end
end Go.Pl
end
section
namespace Go.Pl
open Go Go.RowKit Go.Sx Go.Qx
abbrev PZ:Type:=List Int×List Int×List Int×List Int
def ndT (T:Api_Type)(i:Int):Api_TypeNode:=T.Nodes.getD i.toNat (Api_TypeNode.mk 0 0 0 ⟨#[]⟩ [] [] (0,0))
def rwP (T:Api_Type)(i:Int)(l n fp fn:List Int):List PZ :=
 if (ndT T i).Kind=2 then [(l,n,fp,fn)] else if (ndT T i).Kind=1 then [] else if (ndT T i).Kind=17 then [(l++(ndT T i).Kids,n,fp,fn)] else
 if (ndT T i).Kind=18 then [(l,n++[(ndT T i).Kids.getD 0 0],fp,fn)] else if (ndT T i).Kind=16 then (ndT T i).Kids.map fun k=>(l++[k],n,fp,fn) else [(l,n,fp++[i],fn)]
def rwN (T:Api_Type)(i:Int)(l fp fn:List Int):List PZ :=
 if (ndT T i).Kind=1 then [([],l,fp,fn)] else if (ndT T i).Kind=2 then [] else if (ndT T i).Kind=16 then [([],l++(ndT T i).Kids,fp,fn)] else
 if (ndT T i).Kind=18 then [([(ndT T i).Kids.getD 0 0],l,fp,fn)] else if (ndT T i).Kind=17 then (ndT T i).Kids.map fun k=>([],l++[k],fp,fn) else [([],l,fp,fn++[i])]
def rwZ (T:Api_Type)(p:PZ):List PZ :=
 match p.1.getLast? with
 | some i=>rwP T i p.1.dropLast p.2.1 p.2.2.1 p.2.2.2
 | none=>match p.2.1.getLast? with
   | some i=>rwN T i p.2.1.dropLast p.2.2.1 p.2.2.2
   | none=>[]
structure Boo (T:Api_Type)(μ:Int->Bool):Prop where
 h1:∀ i,inR T.Nodes.length i=true->(ndT T i).Kind=1->μ i=false
 h2:∀ i,inR T.Nodes.length i=true->(ndT T i).Kind=2->μ i=true
 h16:∀ i,inR T.Nodes.length i=true->(ndT T i).Kind=16->μ i=(ndT T i).Kids.any μ
 h17:∀ i,inR T.Nodes.length i=true->(ndT T i).Kind=17->μ i=(ndT T i).Kids.all μ
 h18:∀ i,inR T.Nodes.length i=true->(ndT T i).Kind=18->μ i=!μ ((ndT T i).Kids.getD 0 0)
def hZ (μ:Int->Bool)(p:PZ):Bool:=p.1.all μ&&(p.2.1.all (fun k=>!μ k)&&(p.2.2.1.all μ&&p.2.2.2.all fun k=>!μ k))
def a0c (T:Api_Type)(k:Int):Bool:=inR T.Nodes.length k&&!((ndT T k).Kind==1||(ndT T k).Kind==2||(ndT T k).Kind==16||(ndT T k).Kind==17||(ndT T k).Kind==18)
structure OkZ (T:Api_Type)(p:PZ):Prop where
 pos:p.1.all (inR T.Nodes.length)=true
 neg:p.2.1.all (inR T.Nodes.length)=true
 fp:p.2.2.1.all (a0c T)=true
 fn:p.2.2.2.all (a0c T)=true
theorem a4B {T:Api_Type}{i:Int}(h:inR T.Nodes.length i=true):∃ j:Nat,i=(j:Int)/\j<T.Nodes.length/\T.Nodes[j]?=some (ndT T i)/\idx T.Nodes i=some (ndT T i):=by
 obtain ⟨j,rfl,hj⟩:=a26 h
 have e:T.Nodes[j]?=some (ndT T (j:Int)):=by
  unfold ndT
  rw [List.getD_eq_getElem?_getD,Int.toNat_natCast,List.getElem?_eq_getElem hj]
  rfl
 exact ⟨j,rfl,hj,e,j5 e⟩
section
variable {T:Api_Type}{μ:Int->Bool}
theorem d2z (hμ:Boo T μ){i:Int}(hi:inR T.Nodes.length i=true)(l n fp fn:List Int):(rwP T i l n fp fn).any (hZ μ)=hZ μ (l++[i],n,fp,fn):=by
 unfold rwP
 by_cases k2:(ndT T i).Kind=2
 ·rw [if_pos k2]; simp [hZ,hμ.h2 i hi k2]
 rw [if_neg k2]
 by_cases k1:(ndT T i).Kind=1
 ·rw [if_pos k1]; simp [hZ,hμ.h1 i hi k1]
 rw [if_neg k1]
 by_cases k17:(ndT T i).Kind=17
 ·rw [if_pos k17]; simp [hZ,hμ.h17 i hi k17]
 rw [if_neg k17]
 by_cases k18:(ndT T i).Kind=18
 ·rw [if_pos k18]; simp only [hZ,List.any_cons,List.any_nil,Bool.or_false,List.all_append,List.all_cons,List.all_nil,Bool.and_true,hμ.h18 i hi k18]
  cases l.all μ<;>cases (n.all fun k=>!μ k)<;>cases μ ((ndT T i).Kids.getD 0 0)<;>rfl
 rw [if_neg k18]
 by_cases k16:(ndT T i).Kind=16
 ·rw [if_pos k16,List.any_map]; simp only [Function.comp_def,hZ,List.all_append,List.all_cons,List.all_nil,Bool.and_true,hμ.h16 i hi k16]
  generalize (ndT T i).Kids=ks
  generalize l.all μ=a
  generalize ((n.all fun k=>!μ k)&&(fp.all μ&&fn.all fun k=>!μ k))=b
  induction ks with
  | nil=>simp
  | cons x r ih =>
    rw [List.any_cons,ih]
    simp only [List.any_cons]
    cases a<;>cases b<;>cases μ x<;>simp
 rw [if_neg k16]
 simp only [hZ,List.any_cons,List.any_nil,Bool.or_false,List.all_append,List.all_cons,List.all_nil,Bool.and_true]
 cases l.all μ<;>cases μ i<;>cases (n.all fun k=>!μ k)<;>simp
theorem d2D (hμ:Boo T μ){i:Int}(hi:inR T.Nodes.length i=true)(l fp fn:List Int):(rwN T i l fp fn).any (hZ μ)=hZ μ ([],l++[i],fp,fn):=by
 unfold rwN
 by_cases k1:(ndT T i).Kind=1
 ·rw [if_pos k1]; simp [hZ,hμ.h1 i hi k1]
 rw [if_neg k1]
 by_cases k2:(ndT T i).Kind=2
 ·rw [if_pos k2]; simp [hZ,hμ.h2 i hi k2]
 rw [if_neg k2]
 by_cases k16:(ndT T i).Kind=16
 ·rw [if_pos k16]
  have key:(!(ndT T i).Kids.any μ)=(ndT T i).Kids.all fun k=>!μ k:=by
   generalize (ndT T i).Kids=ks
   induction ks with
   | nil=>rfl
   | cons x r ih=>simp only [List.any_cons,List.all_cons,Bool.not_or,ih]
  simp only [hZ,List.any_cons,List.any_nil,Bool.or_false,List.all_append,List.all_cons,List.all_nil,Bool.and_true,hμ.h16 i hi k16,key]
 rw [if_neg k16]
 by_cases k18:(ndT T i).Kind=18
 ·rw [if_pos k18]; simp only [hZ,List.any_cons,List.any_nil,Bool.or_false,List.all_append,List.all_cons,List.all_nil,Bool.and_true,hμ.h18 i hi k18,Bool.not_not]
  cases μ ((ndT T i).Kids.getD 0 0)<;>cases (l.all fun k=>!μ k)<;>rfl
 rw [if_neg k18]
 by_cases k17:(ndT T i).Kind=17
 ·rw [if_pos k17,List.any_map]; simp only [Function.comp_def,hZ,List.all_append,List.all_cons,List.all_nil,Bool.and_true,Bool.true_and,hμ.h17 i hi k17]
  generalize (ndT T i).Kids=ks
  generalize (l.all fun k=>!μ k)=a
  generalize (fp.all μ&&fn.all fun k=>!μ k)=b
  induction ks with
  | nil=>simp
  | cons x r ih =>
    rw [List.any_cons,ih]
    simp only [List.all_cons]
    cases a<;>cases b<;>cases μ x<;>simp
 rw [if_neg k17]
 simp only [hZ,List.any_cons,List.any_nil,Bool.or_false,List.all_append,List.all_cons,List.all_nil,Bool.and_true]
 cases (l.all fun k=>!μ k)<;>cases μ i<;>cases fp.all μ<;>simp
theorem b6K {l:List Int}{i:Int}(h:l.getLast?=some i):l=l.dropLast++[i]:=by
 cases l with
 | nil=>simp at h
 | cons x r =>
   rw [List.getLast?_eq_some_getLast (by simp)] at h
   have:=List.dropLast_concat_getLast (l:=x::r) (by simp)
   rw [Option.some.inj h] at this
   exact this.symm
def a8q (p:PZ):Prop:=¬ (p.1=[]/\p.2.1=[])
theorem b6V {p:PZ}(ho:a8q p):(∃ l i,p.1=l++[i]/\rwZ T p=rwP T i l p.2.1 p.2.2.1 p.2.2.2)\/(p.1=[]/\∃ l i,p.2.1=l++[i]/\rwZ T p=rwN T i l p.2.2.1 p.2.2.2):=by
 unfold rwZ
 cases h:p.1.getLast? with
 | some i=>exact .inl ⟨p.1.dropLast,i,b6K h,rfl⟩
 | none =>
   have e:=List.getLast?_eq_none_iff.1 h
   cases h2:p.2.1.getLast? with
   | some i=>exact .inr ⟨e,p.2.1.dropLast,i,b6K h2,rfl⟩
   | none=>exact absurd ⟨e,List.getLast?_eq_none_iff.1 h2⟩ ho
theorem d3G (hμ:Boo T μ){p:PZ}(hp:OkZ T p)(ho:a8q p):(rwZ T p).any (hZ μ)=hZ μ p:=by
 rcases b6V (T:=T) ho with ⟨l,i,e,h⟩ | ⟨e0,l,i,e,h⟩
 ·have hi:=hp.pos
  rw [e,List.all_append] at hi
  simp only [Bool.and_eq_true,List.all_cons,List.all_nil,Bool.and_true] at hi
  rw [h,d2z hμ hi.2]
  unfold hZ
  rw [e]
 ·have hi:=hp.neg
  rw [e,List.all_append] at hi
  simp only [Bool.and_eq_true,List.all_cons,List.all_nil,Bool.and_true] at hi
  rw [h,d2D hμ hi.2]
  unfold hZ
  rw [e,e0]
end
section
variable {T:Api_Type}
def wt (T:Api_Type)(i:Int):Nat:=5^(T.Nodes.length-i.toNat)
def wts (T:Api_Type)(l:List Int):Nat:=(l.map (wt T)).sum
def ms (T:Api_Type)(p:PZ):Nat:=wts T p.1+wts T p.2.1+p.2.2.1.length+p.2.2.2.length
theorem a92 (a b:List Int):wts T (a++b)=wts T a+wts T b:=by unfold wts; rw [List.map_append,List.sum_append]
theorem b2A (i:Int):wts T [i]=wt T i:=by unfold wts; simp
theorem d25 (i:Int):1<=wt T i:=by unfold wt; exact Nat.one_le_pow _ _ (by omega)
theorem c2t {i:Int}(h:inR T.Nodes.length i=true):5<=wt T i:=by
 obtain ⟨j,rfl,hj⟩:=a26 h
 unfold wt
 rw [Int.toNat_natCast]
 obtain ⟨m,hm⟩:∃ m,T.Nodes.length-j=m+1:=⟨T.Nodes.length-j-1,by omega⟩
 rw [hm,Nat.pow_succ]
 have:1<=5^m:=Nat.one_le_pow _ _ (by omega)
 omega
theorem b2x (l:List Int):l.length<=wts T l:=by
 induction l with
 | nil=>simp
 | cons x r ih =>
   have:=d25 (T:=T) x
   unfold wts at *
   simp only [List.length_cons,List.map_cons,List.sum_cons]
   omega
theorem b3s (hT:GT T){i:Int}(hi:inR T.Nodes.length i=true)(hb:isB (ndT T i)=true){k:Int}(hk:k∈(ndT T i).Kids):inR T.Nodes.length k=true/\5*wt T k<=wt T i:=by
 obtain ⟨j,rfl,hj,e,_⟩:=a4B hi
 have hg:=hT.nodes j _ e
 have hr:=a6m hg.ok k hk
 have hlt:=hg.ord hb k hk
 refine ⟨hr,?_⟩
 obtain ⟨m,rfl,hm⟩:=a26 hr
 unfold wt
 simp only [Int.toNat_natCast]
 have h1:j<m:=by omega
 calc 5*5^(T.Nodes.length-m)=5^(T.Nodes.length-m+1):=by rw [Nat.pow_succ]; omega
  _<=5^(T.Nodes.length-j):=Nat.pow_le_pow_right (by omega) (by omega)
theorem c7n (hT:GT T){i:Int}(hi:inR T.Nodes.length i=true)(hb:isB (ndT T i)=true):wts T (ndT T i).Kids+1<=wt T i:=by
 have h5:=c2t hi
 have hk:=fun k hk=>b3s hT hi hb (k:=k) hk
 have h4:(ndT T i).Kids.length<=4:=by
  obtain ⟨j,rfl,hj,e,_⟩:=a4B hi
  exact (hT.nodes j _ e).kids
 generalize (ndT T i).Kids=ks at hk h4
 have key:∀ ks:List Int,(∀ k∈ks,inR T.Nodes.length k=true/\5*wt T k<=wt T i)->5*wts T ks<=ks.length*wt T i:=by
  intro ks
  induction ks with
  | nil=>intro _; simp [wts]
  | cons x r ih =>
    intro h
    have h1:=ih fun k hk=>h k (List.mem_cons_of_mem _ hk)
    have h2:=(h x (List.mem_cons_self ..)).2
    unfold wts at *
    simp only [List.map_cons,List.sum_cons,List.length_cons,Nat.add_mul,Nat.mul_add]
    omega
 have h6:=key ks hk
 have h7:ks.length*wt T i<=4*wt T i:=Nat.mul_le_mul_right _ h4
 omega
theorem d0O (hT:GT T){i:Int}(hi:inR T.Nodes.length i=true)(hk:(ndT T i).Kind=18):(ndT T i).Kids.getD 0 0∈(ndT T i).Kids:=by
 obtain ⟨j,rfl,hj,e,_⟩:=a4B hi
 have hn:=(hT.nodes j _ e).ok
 unfold X3 a2T at hn
 simp only [hk,Bool.and_eq_true] at hn
 have h2:=hn.2.2.2.2
 simp at h2
 cases hks:(ndT T (j:Int)).Kids with
 | nil=>rw [hks] at h2; simp at h2
 | cons x r=>simp
theorem c5I {i:Int}(hi:inR T.Nodes.length i=true)(h1:¬ (ndT T i).Kind=1)(h2:¬ (ndT T i).Kind=2)(h16:¬ (ndT T i).Kind=16)(h17:¬ (ndT T i).Kind=17)(h18:¬ (ndT T i).Kind=18):a0c T i=true:=by
 unfold a0c
 simp [hi,h1,h2,h16,h17,h18]
theorem b5v {i:Int}(h:(ndT T i).Kind=16\/(ndT T i).Kind=17\/(ndT T i).Kind=18):isB (ndT T i)=true:=by
 unfold isB
 rcases h with h | h | h<;>simp [h]
theorem c7h (hT:GT T){p:PZ}(hp:OkZ T p)(ho:a8q p):(∀ q∈rwZ T p,OkZ T q/\ms T q<ms T p)/\(rwZ T p).length<=4:=by
 rcases b6V (T:=T) ho with ⟨l,i,e,h⟩ | ⟨e0,l,i,e,h⟩
 ·have hi:=hp.pos
  rw [e,List.all_append] at hi
  simp only [Bool.and_eq_true,List.all_cons,List.all_nil,Bool.and_true] at hi
  obtain ⟨hl,hi⟩:=hi
  have hm:ms T p=wts T l+wt T i+wts T p.2.1+p.2.2.1.length+p.2.2.2.length:=by unfold ms; rw [e,a92,b2A]
  have h5:=c2t hi
  rw [h,hm]
  unfold rwP
  by_cases k2:(ndT T i).Kind=2
  ·rw [if_pos k2]
   exact ⟨fun q hq=>by rw [List.mem_singleton] at hq; subst hq; exact ⟨⟨hl,hp.neg,hp.fp,hp.fn⟩,by unfold ms; simp only; omega⟩,by simp⟩
  rw [if_neg k2]
  by_cases k1:(ndT T i).Kind=1
  ·rw [if_pos k1]; exact ⟨fun q hq=>by simp at hq,by simp⟩
  rw [if_neg k1]
  by_cases k17:(ndT T i).Kind=17
  ·rw [if_pos k17]
   have hb:=b5v (T:=T) (i:=i) (.inr (.inl k17))
   have hk:=c7n hT hi hb
   refine ⟨fun q hq=>?_,by simp⟩
   rw [List.mem_singleton] at hq; subst hq
   refine ⟨⟨?_,hp.neg,hp.fp,hp.fn⟩,by unfold ms; simp only [a92]; omega⟩
   show (l++(ndT T i).Kids).all _=true
   rw [List.all_append,hl,Bool.true_and]
   exact List.all_eq_true.2 fun k hk=>(b3s hT hi hb hk).1
  rw [if_neg k17]
  by_cases k18:(ndT T i).Kind=18
  ·rw [if_pos k18]
   have hb:=b5v (T:=T) (i:=i) (.inr (.inr k18))
   have hk:=b3s hT hi hb (d0O hT hi k18)
   refine ⟨fun q hq=>?_,by simp⟩
   rw [List.mem_singleton] at hq; subst hq
   refine ⟨⟨hl,?_,hp.fp,hp.fn⟩,by unfold ms; simp only [a92,b2A]; omega⟩
   show (p.2.1++[(ndT T i).Kids.getD 0 0]).all _=true
   rw [List.all_append,hp.neg]
   simp only [List.all_cons,List.all_nil,Bool.and_true,Bool.true_and]
   exact hk.1
  rw [if_neg k18]
  by_cases k16:(ndT T i).Kind=16
  ·rw [if_pos k16]
   have hb:=b5v (T:=T) (i:=i) (.inl k16)
   refine ⟨fun q hq=>?_,?_⟩
   ·obtain ⟨k,hk,rfl⟩:=List.mem_map.1 hq
    have hw:=b3s hT hi hb hk
    refine ⟨⟨?_,hp.neg,hp.fp,hp.fn⟩,by unfold ms; simp only [a92,b2A]; omega⟩
    show (l++[k]).all _=true
    rw [List.all_append,hl]
    simp only [List.all_cons,List.all_nil,Bool.and_true,Bool.true_and]
    exact hw.1
   ·obtain ⟨j,rfl,hj,e,_⟩:=a4B hi
    rw [List.length_map]
    exact (hT.nodes j _ e).kids
  rw [if_neg k16]
  refine ⟨fun q hq=>?_,by simp⟩
  rw [List.mem_singleton] at hq; subst hq
  refine ⟨⟨hl,hp.neg,?_,hp.fn⟩,by unfold ms; simp only [List.length_append,List.length_cons,List.length_nil]; omega⟩
  show (p.2.2.1++[i]).all _=true
  rw [List.all_append,hp.fp]
  simp only [List.all_cons,List.all_nil,Bool.and_true,Bool.true_and]
  exact c5I hi k1 k2 k16 k17 k18
 ·have hi:=hp.neg
  rw [e,List.all_append] at hi
  simp only [Bool.and_eq_true,List.all_cons,List.all_nil,Bool.and_true] at hi
  obtain ⟨hl,hi⟩:=hi
  have hm:ms T p=wts T l+wt T i+p.2.2.1.length+p.2.2.2.length:=by unfold ms; rw [e,e0,a92,b2A]; simp [wts]
  have h5:=c2t hi
  rw [h,hm]
  have w0:wts T []=0:=rfl
  unfold rwN
  by_cases k1:(ndT T i).Kind=1
  ·rw [if_pos k1]
   exact ⟨fun q hq=>by rw [List.mem_singleton] at hq; subst hq; exact ⟨⟨rfl,hl,hp.fp,hp.fn⟩,by unfold ms; simp only [w0]; omega⟩,by simp⟩
  rw [if_neg k1]
  by_cases k2:(ndT T i).Kind=2
  ·rw [if_pos k2]; exact ⟨fun q hq=>by simp at hq,by simp⟩
  rw [if_neg k2]
  by_cases k16:(ndT T i).Kind=16
  ·rw [if_pos k16]
   have hb:=b5v (T:=T) (i:=i) (.inl k16)
   have hk:=c7n hT hi hb
   refine ⟨fun q hq=>?_,by simp⟩
   rw [List.mem_singleton] at hq; subst hq
   refine ⟨⟨rfl,?_,hp.fp,hp.fn⟩,by unfold ms; simp only [w0,a92]; omega⟩
   show (l++(ndT T i).Kids).all _=true
   rw [List.all_append,hl,Bool.true_and]
   exact List.all_eq_true.2 fun k hk=>(b3s hT hi hb hk).1
  rw [if_neg k16]
  by_cases k18:(ndT T i).Kind=18
  ·rw [if_pos k18]
   have hb:=b5v (T:=T) (i:=i) (.inr (.inr k18))
   have hk:=b3s hT hi hb (d0O hT hi k18)
   refine ⟨fun q hq=>?_,by simp⟩
   rw [List.mem_singleton] at hq; subst hq
   refine ⟨⟨?_,hl,hp.fp,hp.fn⟩,by unfold ms; simp only [b2A]; omega⟩
   show ([(ndT T i).Kids.getD 0 0]).all _=true
   simp only [List.all_cons,List.all_nil,Bool.and_true]
   exact hk.1
  rw [if_neg k18]
  by_cases k17:(ndT T i).Kind=17
  ·rw [if_pos k17]
   have hb:=b5v (T:=T) (i:=i) (.inr (.inl k17))
   refine ⟨fun q hq=>?_,?_⟩
   ·obtain ⟨k,hk,rfl⟩:=List.mem_map.1 hq
    have hw:=b3s hT hi hb hk
    refine ⟨⟨rfl,?_,hp.fp,hp.fn⟩,by unfold ms; simp only [w0,a92,b2A]; omega⟩
    show (l++[k]).all _=true
    rw [List.all_append,hl]
    simp only [List.all_cons,List.all_nil,Bool.and_true,Bool.true_and]
    exact hw.1
   ·obtain ⟨j,rfl,hj,e,_⟩:=a4B hi
    rw [List.length_map]
    exact (hT.nodes j _ e).kids
  rw [if_neg k17]
  refine ⟨fun q hq=>?_,by simp⟩
  rw [List.mem_singleton] at hq; subst hq
  refine ⟨⟨rfl,hl,hp.fp,?_⟩,by unfold ms; simp only [w0,List.length_append,List.length_cons,List.length_nil]; omega⟩
  show (p.2.2.2++[i]).all _=true
  rw [List.all_append,hp.fn]
  simp only [List.all_cons,List.all_nil,Bool.and_true,Bool.true_and]
  exact c5I hi k1 k2 k16 k17 k18
end
end Go.Pl
end
section
namespace Go.Pl
open Go Go.RowKit Go.Sx Go.Qx
def small (l:List Int):Prop:=∀ n∈l,0<=n/\n<10
def dig (n:Int):UInt8:=UInt8.ofNat (48+n.toNat)
def itm (c:UInt8)(l:List Int):List UInt8:=l.flatMap fun n=>[c,dig n]
theorem d2G (c:UInt8)(l:List Int):(itm c l).length=2*l.length:=by
 unfold itm
 induction l with
 | nil=>rfl
 | cons x r ih=>simp only [List.flatMap_cons,List.length_append,ih,List.length_cons,List.length_nil]; omega
theorem d07:∀ n<10,∀ m<10,UInt8.ofNat (48+n)=UInt8.ofNat (48+m)->n=m:=by decide
theorem c6R {n m:Int}(hn:0<=n/\n<10)(hm:0<=m/\m<10)(h:dig n=dig m):n=m:=by
 have:=d07 n.toNat (by omega) m.toNat (by omega) h
 omega
theorem b4M (c:UInt8):∀ (l:List Int) (b:List UInt8),small l->b.length+2*l.length<=1000->a7n c l b=some (b++itm c l)
 | [],b,_,_=>by simp [a7n,itm]
 | n::r,b,h,hb=>by
   have hn:=h n (by simp)
   simp only [List.length_cons] at hb
   have e:a8S c b n=some (b++[c,dig n]):=by
    unfold a8S a3K
    rw [show decide (0<=n)=true from decide_eq_true hn.1,show decide (n<100)=true from decide_eq_true (by omega),show Nat.ble b.length 1000000=true from Nat.ble_eq_true_of_le (by omega),show Nat.blt n.toNat 10=true from by rw [Nat.blt_eq]; omega]
    rfl
   have e2:=b4M c r (b++[c,dig n]) (fun x hx=>h x (by simp [hx])) (by simp only [List.length_append,List.length_cons,List.length_nil]; omega)
   simp only [a7n,e,Option.bind_some,e2]
   simp [itm]
theorem c6Q (c:UInt8):∀ (l m:List Int),small l->small m->itm c l=itm c m->l=m
 | [],[],_,_,_=>rfl
 | [],_::_,_,_,h=>by simp [itm] at h
 | _::_,[],_,_,h=>by simp [itm] at h
 | x::l,y::m,h1,h2,h=>by
   have e:c::dig x::itm c l=c::dig y::itm c m:=h
   rw [List.cons.injEq,List.cons.injEq] at e
   have a:=c6R (h1 x (by simp)) (h2 y (by simp)) e.2.1
   rw [a,c6Q c l m (fun z hz=>h1 z (by simp [hz])) (fun z hz=>h2 z (by simp [hz])) e.2.2]
theorem c7e:∀ (p p' q q':List Int),small p->small p'->small q->small q'->itm 43 p++itm 45 q=itm 43 p'++itm 45 q'->p=p'/\q=q'
 | [],[],q,q',_,_,h3,h4,h=>⟨rfl,c6Q 45 q q' h3 h4 h⟩
 | [],y::m,q,q',_,_,_,_,h=>by
   cases q with
   | nil=>simp [itm] at h
   | cons z r =>
     have e:(45:UInt8)::dig z::itm 45 r=43::dig y::(itm 43 m++itm 45 q'):=h
     rw [List.cons.injEq] at e
     exact absurd e.1 (by decide)
 | x::l,[],q,q',_,_,_,_,h=>by
   cases q' with
   | nil=>simp [itm] at h
   | cons z r =>
     have e:(43:UInt8)::dig x::(itm 43 l++itm 45 q)=45::dig z::itm 45 r:=h
     rw [List.cons.injEq] at e
     exact absurd e.1 (by decide)
 | x::l,y::m,q,q',h1,h2,h3,h4,h=>by
   have e:(43:UInt8)::dig x::(itm 43 l++itm 45 q)=43::dig y::(itm 43 m++itm 45 q'):=h
   rw [List.cons.injEq,List.cons.injEq] at e
   have a:=c6R (h1 x (by simp)) (h2 y (by simp)) e.2.1
   obtain ⟨b,c⟩:=c7e l m q q' (fun z hz=>h1 z (by simp [hz])) (fun z hz=>h2 z (by simp [hz])) h3 h4 e.2.2
   exact ⟨by rw [a,b],c⟩
def b7n:Nat->List (List Int)
 | 0=>[[]]
 | n+1=>b7n n++(b7n n).map fun l=>l++[(n:Int)]
theorem c5r:∀ n,(b7n n).length=2^n
 | 0=>rfl
 | n+1=>by simp only [b7n,List.length_append,List.length_map,c5r n,Nat.pow_succ]; omega
theorem b56:∀ (n:Nat) (l:List Int),l.Pairwise (fun a b=>a<b)->(∀ x∈l,0<=x/\x<(n:Int))->l∈b7n n
 | 0,l,_,h=>by
   cases l with
   | nil=>simp [b7n]
   | cons x r=>have:=h x (by simp); omega
 | n+1,l,hp,h=>by
   simp only [b7n]
   cases hg:l.getLast? with
   | none =>
     have e:=List.getLast?_eq_none_iff.1 hg
     subst e
     exact List.mem_append_left _ (b56 n [] List.Pairwise.nil (by simp))
   | some x =>
     have e:=b6K hg
     generalize l.dropLast=a at e
     subst e
     have hpa:=List.pairwise_append.1 hp
     have hx:=h x (by simp)
     by_cases hxn:x=(n:Int)
     ·subst hxn
      refine List.mem_append_right _ (List.mem_map.2 ⟨a,b56 n a hpa.1 fun y hy=>?_,rfl⟩)
      have h1:=h y (by simp [hy])
      have h2:=hpa.2.2 y hy _ (List.mem_singleton.2 rfl)
      omega
     ·refine List.mem_append_left _ (b56 n _ hp fun y hy=>?_)
      have h1:=h y hy
      rcases List.mem_append.1 hy with hy | hy
      ·have h2:=hpa.2.2 y hy _ (List.mem_singleton.2 rfl)
       omega
      ·rw [List.mem_singleton] at hy; subst hy
       omega
theorem c0y {α:Type} [DecidableEq α]:∀ (l m:List α),l.Nodup->(∀ x∈l,x∈m)->l.length<=m.length
 | [],_,_,_=>by simp
 | x::r,m,h,hs=>by
   have hn:=List.nodup_cons.1 h
   have hx:=hs x (by simp)
   have h1:=c0y r (m.erase x) hn.2 fun y hy=>by
    have hne:y≠x:=fun e=>hn.1 (e▸hy)
    exact (List.mem_erase_of_ne hne).2 (hs y (by simp [hy]))
   have h2:=List.length_erase_of_mem hx
   have h3:0<m.length:=List.length_pos_of_mem hx
   simp only [List.length_cons]
   omega
theorem c9L {α β:Type}(l:List α)(m:List β):(l.flatMap fun a=>m.map fun b=>(a,b)).length=l.length*m.length:=by
 induction l with
 | nil=>simp
 | cons x r ih=>simp only [List.flatMap_cons,List.length_append,List.length_map,ih,List.length_cons,Nat.add_mul]; omega
theorem d01 (l:List (List Int×List Int))(h:l.Nodup)(hs:∀ g∈l,(g.1.Pairwise (fun a b=>a<b)/\small g.1)/\(g.2.Pairwise (fun a b=>a<b)/\small g.2)):l.length<=1048576:=by
 have h1:=c0y l ((b7n 10).flatMap fun a=>(b7n 10).map fun b=>(a,b)) h fun g hg=>by
  obtain ⟨⟨a,b⟩,c,d⟩:=hs g hg
  exact List.mem_flatMap.2 ⟨g.1,b56 10 _ a (fun x hx=>b x hx),List.mem_map.2 ⟨g.2,b56 10 _ c (fun x hx=>d x hx),rfl⟩⟩
 rw [c9L,c5r] at h1
 exact h1
end Go.Pl
end
section
namespace Go.Pl
open Go Go.RowKit Go.Sx Go.Qx
abbrev toP (q:PZ):Core_pair:=Core_pair.mk q.1 q.2.1 q.2.2.1 q.2.2.2
theorem a68 {l:List Int}{b:Nat}(h:l.length<=4000000)(hb:b<=8):a0n b l=some l:=by
 unfold a0n
 rw [Z6 (by have:l.length*b<=4000000*8:=Nat.mul_le_mul h hb; simp only [Nat.zero_add]; omega)]
 rfl
theorem b9i (p:PZ)(h1:p.1.length<=4000000)(h2:p.2.1.length<=4000000)(h3:p.2.2.1.length<=4000000)(h4:p.2.2.2.length<=4000000):a5j (toP p)=some p:=by
 unfold a5j
 rw [a68 h1 (Nat.le_refl _),a68 h2 (Nat.le_refl _),a68 h3 (Nat.le_refl _),a68 h4 (Nat.le_refl _)]
 rfl
def chZ (p:PZ)(b:Bool)(k:Int):PZ:=if b=true then (p.1++[k],p.2) else (p.1,p.2.1++[k],p.2.2)
theorem c1f (p:PZ)(ks:List Int)(b:Bool)(hk:ks.length<=4)(h1:p.1.length<=4000000)(h2:p.2.1.length<=4000000)(h3:p.2.2.1.length<=4000000)(h4:p.2.2.2.length<=4000000) :
 a1W (toP p) ks b=some ((ks.map (chZ p b)).map toP):=by
 unfold a1W
 have key:=a27 (σ:=List Core_pair) (step:=a1I (toP p) ks b) ks (fun s i=>(s,(i:Int))) (fun s k=>s++[toP (chZ p b k)]) (fun i s=>s.length<=i) (fun s=>s)
  (fun i s k hx hI=>by
    have hi:i<ks.length:=(List.getElem?_eq_some_iff.1 hx).1
    refine ⟨?_,by simp only [List.length_append,List.length_cons,List.length_nil]; omega⟩
    unfold a1I
    simp only [Y1]
    rw [Z3 hi,j5 hx]
    simp only [cond_true,Option.bind_some]
    rw [b9i p h1 h2 h3 h4,k8 i (by omega)]
    simp only [Option.bind_some]
    cases b
    ·simp only [cond_false]
     rw [Z6 (by simp only [List.length_cons,List.length_nil]; omega)]
     simp only [Option.bind_some]
     rw [Z6 (by simp only [List.length_cons,List.length_nil]; omega)]
     rfl
    ·simp only [cond_true]
     rw [Z6 (by simp only [List.length_cons,List.length_nil]; omega)]
     simp only [Option.bind_some]
     rw [Z6 (by simp only [List.length_cons,List.length_nil]; omega)]
     rfl) (fun s _=>by
    unfold a1I
    simp) [] (by simp) _ (Nat.le_refl _)
 have e:iter (a1I (toP p) ks b) (ks.length+1) (([]:List Core_pair),0)=iter (a1I (toP p) ks b) (ks.length+1) (([]:List Core_pair),((0:Nat):Int)):=rfl
 rw [Y2,e,key]
 simp only [Option.bind_some]
 rw [b9j (fun k=>toP (chZ p b k))]
 simp
theorem c1Y {l:List Int}{i:Int}(h:l.length<=4000000):wr .i64 (((l++[i]).length:Int)-1)=(l.length:Int)/\idx (l++[i]) (l.length:Int)=some i/\(l++[i])[(l.length:Int).toNat]?=some i/\cut (l++[i]) 0 (l.length:Int)=some l:=by
 have e:(l++[i])[l.length]?=some i:=by rw [List.getElem?_append_right (Nat.le_refl _)]; simp
 refine ⟨?_,j5 e,by rw [Int.toNat_natCast]; exact e,?_⟩
 ·rw [Y1,Q8 (by simp only [List.length_append,List.length_cons,List.length_nil]; omega) (by simp only [List.length_append,List.length_cons,List.length_nil]; omega)]
  simp only [List.length_append,List.length_cons,List.length_nil]; omega
 ·unfold cut
  rw [if_pos (by simp only [List.length_append,List.length_cons,List.length_nil]; omega)]
  simp
section
variable {T:Api_Type}
theorem c5k (hT:GT T){i:Int}(hi:inR T.Nodes.length i=true)(hk:(ndT T i).Kind=18):idx (ndT T i).Kids 0=some ((ndT T i).Kids.getD 0 0):=by
 have h:=d0O hT hi hk
 cases hks:(ndT T i).Kids with
 | nil=>rw [hks] at h; simp at h
 | cons x r=>exact j5 (i:=0) (by simp)
theorem c7A (hT:GT T){p:PZ}(hp:OkZ T p)(ho:a8q p)(hm:ms T p<=4000000):a38 p T=some ((rwZ T p).map toP):=by
 have l1:p.1.length<=4000000:=Nat.le_trans (b2x (T:=T) p.1) (by unfold ms at hm; omega)
 have l2:p.2.1.length<=4000000:=Nat.le_trans (b2x (T:=T) p.2.1) (by unfold ms at hm; omega)
 have l3:p.2.2.1.length<=4000000:=by unfold ms at hm; omega
 have l4:p.2.2.2.length<=4000000:=by unfold ms at hm; omega
 have r1:∀ n b:Nat,n<=4000000+10->b<=96->Z4 n b=some ():=fun n b h1 h2=>Z6 (by have:n*b<=(4000000+10)*96:=Nat.mul_le_mul h1 h2; omega)
 unfold a38
 rcases b6V (T:=T) ho with ⟨l,i,e,h⟩ | ⟨e0,l,i,e,h⟩
 ·rw [h]
  have hi:=hp.pos
  rw [e,List.all_append] at hi
  simp only [Bool.and_eq_true,List.all_cons,List.all_nil,Bool.and_true] at hi
  obtain ⟨hl,hi⟩:=hi
  rw [e] at l1
  simp only [List.length_append,List.length_cons,List.length_nil] at l1
  obtain ⟨f1,f2,f3,f4⟩:=c1Y (l:=l) (i:=i) (by omega)
  obtain ⟨j,hj0,hj,ej,ei⟩:=a4B hi
  have h4:(ndT T i).Kids.length<=4:=(hT.nodes j _ ej).kids
  have hkid:=fun hk=>c5k hT hi hk
  rw [e,f1,f2,f3,f4,show decide (0<=(l.length:Int))=true from decide_eq_true (by omega)]
  simp only [cond_true,Option.bind_some]
  rw [ei]
  simp only [Option.bind_some]
  unfold rwP
  generalize ndT T i=x at h4 hkid ⊢
  by_cases k2:x.Kind=2
  ·rw [if_pos k2,show (x.Kind==2)=true by simp [k2]]; rfl
  rw [if_neg k2,show (x.Kind==2)=false by simp [k2]]
  by_cases k1:x.Kind=1
  ·rw [if_pos k1,show (x.Kind==1)=true by simp [k1]]; rfl
  rw [if_neg k1,show (x.Kind==1)=false by simp [k1]]
  by_cases k17:x.Kind=17
  ·rw [if_pos k17,show (x.Kind==17)=true by simp [k17]]
   simp only [cond_true,cond_false]
   rw [r1 _ _ (by omega) (by omega)]; rfl
  rw [if_neg k17,show (x.Kind==17)=false by simp [k17]]
  by_cases k18:x.Kind=18
  ·rw [if_pos k18,show (x.Kind==18)=true by simp [k18]]
   simp only [cond_true,cond_false]
   rw [hkid k18]
   simp only [Option.bind_some]
   rw [r1 _ _ (by simp only [List.length_cons,List.length_nil]; omega) (by omega)]; rfl
  rw [if_neg k18,show (x.Kind==18)=false by simp [k18]]
  by_cases k16:x.Kind=16
  ·rw [if_pos k16,show (x.Kind==16)=true by simp [k16]]
   simp only [cond_true,cond_false]
   have hc:=c1f (l,p.2.1,p.2.2.1,p.2.2.2) x.Kids true h4 (by simp only; omega) l2 l3 l4
   have hc':a1W (Core_pair.mk l p.2.1 p.2.2.1 p.2.2.2) x.Kids true=_:=hc
   rw [hc']
   rfl
  rw [if_neg k16,show (x.Kind==16)=false by simp [k16]]
  simp only [cond_false]
  rw [r1 _ _ (by simp only [List.length_cons,List.length_nil]; omega) (by omega)]; rfl
 ·rw [h]
  have hi:=hp.neg
  rw [e,List.all_append] at hi
  simp only [Bool.and_eq_true,List.all_cons,List.all_nil,Bool.and_true] at hi
  obtain ⟨hl,hi⟩:=hi
  rw [e] at l2
  simp only [List.length_append,List.length_cons,List.length_nil] at l2
  obtain ⟨f1,f2,f3,f4⟩:=c1Y (l:=l) (i:=i) (by omega)
  obtain ⟨j,hj0,hj,ej,ei⟩:=a4B hi
  have h4:(ndT T i).Kids.length<=4:=(hT.nodes j _ ej).kids
  have hkid:=fun hk=>c5k hT hi hk
  have e1:decide (0<=wr .i64 (((([]:List Int)).length:Int)-1))=false:=by decide
  rw [e0,e,f1,f2,f3,f4,e1]
  simp only [cond_false,Option.bind_some]
  rw [ei]
  simp only [Option.bind_some]
  unfold rwN
  generalize ndT T i=x at h4 hkid ⊢
  by_cases k1:x.Kind=1
  ·rw [if_pos k1,show (x.Kind==1)=true by simp [k1]]; rfl
  rw [if_neg k1,show (x.Kind==1)=false by simp [k1]]
  by_cases k2:x.Kind=2
  ·rw [if_pos k2,show (x.Kind==2)=true by simp [k2]]; rfl
  rw [if_neg k2,show (x.Kind==2)=false by simp [k2]]
  by_cases k16:x.Kind=16
  ·rw [if_pos k16,show (x.Kind==16)=true by simp [k16]]
   simp only [cond_true,cond_false]
   rw [r1 _ _ (by omega) (by omega)]; rfl
  rw [if_neg k16,show (x.Kind==16)=false by simp [k16]]
  by_cases k18:x.Kind=18
  ·rw [if_pos k18,show (x.Kind==18)=true by simp [k18]]
   simp only [cond_true,cond_false]
   rw [hkid k18]
   simp only [Option.bind_some]
   rw [r1 _ _ (by simp only [List.length_cons,List.length_nil]; omega) (by omega)]; rfl
  rw [if_neg k18,show (x.Kind==18)=false by simp [k18]]
  by_cases k17:x.Kind=17
  ·rw [if_pos k17,show (x.Kind==17)=true by simp [k17]]
   simp only [cond_true,cond_false]
   have hc:=c1f ([],l,p.2.2.1,p.2.2.2) x.Kids false h4 (by simp) (by simp only; omega) l3 l4
   have hc':a1W (Core_pair.mk [] l p.2.2.1 p.2.2.2) x.Kids false=_:=hc
   rw [hc']
   rfl
  rw [if_neg k17,show (x.Kind==17)=false by simp [k17]]
  simp only [cond_false]
  rw [r1 _ _ (by simp only [List.length_cons,List.length_nil]; omega) (by omega)]; rfl
theorem d0Z {α:Type}(m:List (ByteArray×α))(k j:ByteArray)(v:α):a4N (a7Y m k v) j=if j=k then some v else a4N m j:=by
 induction m with
 | nil =>
   simp only [a7Y,a4N]
   by_cases h:j=k
   ·rw [if_pos h,(MapKept.bytes_beq j k).2 h]; rfl
   ·rw [if_neg h]
    cases hb:j==k
    ·rfl
    ·exact absurd ((MapKept.bytes_beq j k).1 hb) h
 | cons x r ih =>
   simp only [a7Y]
   cases hb:k==x.1
   ·simp only [cond_false,a4N]
    cases hj:j==x.1
    ·simp only [cond_false]; exact ih
    ·simp only [cond_true]
     have e:=(MapKept.bytes_beq j x.1).1 hj
     have:j≠k:=fun e2=>by rw [<- e2,hj] at hb; cases hb
     rw [if_neg this]
   ·have e:=(MapKept.bytes_beq k x.1).1 hb
    simp only [cond_true,a4N]
    by_cases h:j=k
    ·rw [if_pos h,(MapKept.bytes_beq j k).2 h]; rfl
    ·rw [if_neg h]
     cases hj:j==k
     ·simp only [cond_false]
      cases hj2:j==x.1
      ·rfl
      ·exact absurd (((MapKept.bytes_beq j x.1).1 hj2).trans e.symm) h
     ·exact absurd ((MapKept.bytes_beq j k).1 hj) h
def b3c (L:Bool)(p q:List Int):ByteArray:=⟨((bif L then [108] else [])++itm 43 p++itm 45 q).toArray⟩
theorem d0j {L:Bool}{p q p' q':List Int}(h1:small p)(h2:small p')(h3:small q)(h4:small q')(h:b3c L p q=b3c L p' q'):p=p'/\q=q':=by
 unfold b3c at h
 have e:=congrArg (fun b:ByteArray=>b.data.toList) h
 simp only [List.append_assoc] at e
 exact c7e p p' q q' h1 h2 h3 h4 (List.append_cancel_left e)
abbrev ES:Type:=List (ByteArray×Bool)×List Api_Goal
def a3D (L:Bool)(p:PZ):Api_Goal:=Api_Goal.mk (srt p.2.2.1) (srt p.2.2.2) L
structure NG (T:Api_Type)(L:Bool)(e:Api_Goal):Prop where
 lists:e.Lists=L
 sp:srt e.Pos=e.Pos
 sn:srt e.Neg=e.Neg
 pos:e.Pos.all (a0c T)=true
 neg:e.Neg.all (a0c T)=true
theorem a6q {i:Int}(h:a0c T i=true):inR T.Nodes.length i=true:=by
 unfold a0c at h
 simp only [Bool.and_eq_true] at h
 exact h.1
theorem a5t (hT:GT T){l:List Int}(h:l.all (a0c T)=true):small l:=fun n hn=>by
 obtain ⟨j,rfl,hj⟩:=a26 (a6q (List.all_eq_true.1 h n hn))
 have:=hT.len
 omega
theorem b8l {l:List Int}(h:srt l=l):l.Pairwise fun a b=>a<b:=by
 have ha:=c7b l
 rw [h] at ha
 refine ((CmpOk.asc_pw (c:=cI) c4X l).1 ha).imp fun {a b} hab=>?_
 rcases K4 a b with ⟨_,k⟩ | ⟨_,k⟩ | ⟨_,k⟩<;>rw [k] at hab<;>omega
theorem c9X:∀ (n:Nat) (l:List Int),l.Pairwise (fun a b=>a<b)->(∀ x∈l,0<=x/\x<(n:Int))->l.length<=n:=by
 intro n l hp hs
 have:=c0y l ((List.range n).map fun i:Nat=>(i:Int)) (hp.imp fun {a b} h e=>by omega) fun x hx=>by
  have:=hs x hx
  exact List.mem_map.2 ⟨x.toNat,List.mem_range.2 (by omega),by omega⟩
 simpa using this
theorem NG.lens (hT:GT T){L:Bool}{e:Api_Goal}(h:NG T L e):e.Pos.length<=10/\e.Neg.length<=10 :=
 ⟨c9X 10 _ (b8l h.sp) fun x hx=>a5t hT h.pos x hx,c9X 10 _ (b8l h.sn) fun x hx=>a5t hT h.neg x hx⟩
theorem c5Y {p:PZ}(hp:OkZ T p)(L:Bool):NG T L (a3D L p):=by
 have key:∀ (l:List Int),l.all (a0c T)=true->(srt l).all (a0c T)=true:=fun l h=>List.all_eq_true.2 fun x hx=>List.all_eq_true.1 h x ((c2m l x).1 hx)
 exact ⟨rfl,b9D _,b9D _,key _ hp.fp,key _ hp.fn⟩
theorem c77 (hT:GT T){L:Bool}{e:Api_Goal}(h:NG T L e):b2u e=some (b3c L e.Pos e.Neg):=by
 obtain ⟨l1,l2⟩:=h.lens hT
 obtain ⟨p,q,b⟩:=e
 unfold b2u
 rw [b9f p q b (by simp only at l1; omega) (by simp only at l2; omega)]
 simp only [Option.bind_some]
 have hs:=h.sp
 have hn:=h.sn
 have hl:=h.lists
 simp only at hs hn hl l1 l2
 rw [hs,hn,hl]
 have hb:(bif L then [108] else []:List UInt8).length<=1:=by cases L<;>simp
 rw [b4M 43 p _ (a5t hT h.pos) (by omega)]
 simp only [Option.bind_some]
 rw [b4M 45 q _ (a5t hT h.neg) (by rw [List.length_append,d2G]; omega)]
 rfl
structure InvE (T:Api_Type)(L:Bool)(s:ES):Prop where
 ng:∀ e∈s.2,NG T L e
 nd:s.2.Nodup
 seen:∀ e,NG T L e->(((a4N s.1 (b3c L e.Pos e.Neg)).getD false)=true↔e∈s.2)
def a94 (L:Bool)(s:ES)(p:PZ):ES :=
 bif !((a4N s.1 (b3c L (a3D L p).Pos (a3D L p).Neg)).getD false) then (a7Y s.1 (b3c L (a3D L p).Pos (a3D L p).Neg) true,s.2++[a3D L p]) else s
theorem InvE.len (hT:GT T){L:Bool}{s:ES}(h:InvE T L s):s.2.length<=1048576:=by
 have:=d01 (s.2.map fun e=>(e.Pos,e.Neg)) ?_ fun g hg=>?_
 ·simpa using this
 ·refine List.pairwise_map.2 ((List.Pairwise.and_mem.1 h.nd).imp fun {a b} hab he=>?_)
  obtain ⟨ha,hb,hne⟩:=hab
  apply hne
  have h1:=(h.ng a ha).lists
  have h2:=(h.ng b hb).lists
  obtain ⟨p,q,x⟩:=a
  obtain ⟨p',q',x'⟩:=b
  simp only [Prod.mk.injEq] at he h1 h2
  rw [he.1,he.2,h1,h2]
 ·obtain ⟨e,he,rfl⟩:=List.mem_map.1 hg
  have hn:=h.ng e he
  exact ⟨⟨b8l hn.sp,a5t hT hn.pos⟩,b8l hn.sn,a5t hT hn.neg⟩
theorem d2A (hT:GT T){L:Bool}{s:ES}(h:InvE T L s){p:PZ}(hp:OkZ T p):InvE T L (a94 L s p)/\∀ e,e∈(a94 L s p).2↔e∈s.2\/e=a3D L p:=by
 have hN:=c5Y hp L
 have hs:=h.seen _ hN
 unfold a94
 cases hg:(a4N s.1 (b3c L (a3D L p).Pos (a3D L p).Neg)).getD false with
 | true =>
   rw [hg] at hs
   have hm:=hs.1 rfl
   refine ⟨h,fun e=>⟨fun he=>.inl he,fun he=>?_⟩⟩
   rcases he with he | rfl
   ·exact he
   ·exact hm
 | false =>
   rw [hg] at hs
   have hm:a3D L p ∉ s.2:=fun he=>by have:=hs.2 he; cases this
   simp only [Bool.not_false,cond_true]
   refine ⟨⟨fun e he=>?_,?_,fun e he=>?_⟩,fun e=>by simp⟩
   ·rcases List.mem_append.1 he with he | he
    ·exact h.ng e he
    ·rw [List.mem_singleton] at he; subst he; exact hN
   ·refine List.nodup_append.2 ⟨h.nd,by simp,fun a ha b hb e=>?_⟩
    rw [List.mem_singleton] at hb
    subst hb
    exact hm (e▸ha)
   ·simp only
    rw [d0Z]
    by_cases ht:b3c L e.Pos e.Neg=b3c L (a3D L p).Pos (a3D L p).Neg
    ·rw [if_pos ht]
     obtain ⟨e1,e2⟩:=d0j (a5t hT he.pos) (a5t hT hN.pos) (a5t hT he.neg) (a5t hT hN.neg) ht
     have e3:e=a3D L p:=by
      have h1:=he.lists
      have h2:=hN.lists
      obtain ⟨a,b,c⟩:=e
      generalize a3D L p=g at e1 e2 h2
      obtain ⟨a',b',c'⟩:=g
      simp only at e1 e2 h1 h2
      rw [e1,e2,h1,h2]
     simp [e3]
    ·rw [if_neg ht]
     have hne:e≠a3D L p:=fun e0=>ht (by rw [e0])
     rw [h.seen e he]
     simp [hne]
theorem c2Z (hT:GT T){L:Bool}:∀ (ls:List PZ) (s:ES),InvE T L s->(∀ p∈ls,OkZ T p)->InvE T L (ls.foldl (a94 L) s)/\∀ e,e∈(ls.foldl (a94 L) s).2↔e∈s.2\/∃ p∈ls,e=a3D L p
 | [],s,h,_=>⟨h,fun e=>by simp⟩
 | p::r,s,h,hp=>by
   obtain ⟨h1,h2⟩:=d2A hT h (hp p (by simp))
   obtain ⟨h3,h4⟩:=c2Z hT r (a94 L s p) h1 fun q hq=>hp q (by simp [hq])
   refine ⟨h3,fun e=>?_⟩
   rw [List.foldl_cons,h4,h2]
   constructor
   ·rintro ((h | h) | ⟨q,hq,h⟩)
    ·exact .inl h
    ·exact .inr ⟨p,by simp,h⟩
    ·exact .inr ⟨q,by simp [hq],h⟩
   ·rintro (h | ⟨q,hq,h⟩)
    ·exact .inl (.inl h)
    ·rcases List.mem_cons.1 hq with rfl | hq
     ·exact .inl (.inr h)
     ·exact .inr ⟨q,hq,h⟩
theorem c0n {l:List Core_pair}{i:Core_pair}(h:l.length<=100000000000):wr .i64 (((l++[i]).length:Int)-1)=(l.length:Int)/\idx (l++[i]) (l.length:Int)=some i/\(l++[i])[(l.length:Int).toNat]?=some i/\cut (l++[i]) 0 (l.length:Int)=some l:=by
 have e:(l++[i])[l.length]?=some i:=by rw [List.getElem?_append_right (Nat.le_refl _)]; simp
 refine ⟨?_,j5 e,by rw [Int.toNat_natCast]; exact e,?_⟩
 ·rw [Y1,Q8 (by simp only [List.length_append,List.length_cons,List.length_nil]; omega) (by simp only [List.length_append,List.length_cons,List.length_nil]; omega)]
  simp only [List.length_append,List.length_cons,List.length_nil]; omega
 ·unfold cut
  rw [if_pos (by simp only [List.length_append,List.length_cons,List.length_nil]; omega)]
  simp
theorem c81 (hT:GT T)(g:Api_Goal){p:PZ}(hp:OkZ T p)(ho:a8q p)(hm:ms T p<=4000000)(w:List Core_pair)(hw:w.length<=10000000000)(s:ES) :
 X1 T g (w++[toP p],s.1,s.2)=some (.next (w++(rwZ T p).map toP,s.1,s.2)):=by
 have l1:p.1.length<=4000000:=Nat.le_trans (b2x (T:=T) p.1) (by unfold ms at hm; omega)
 have l2:p.2.1.length<=4000000:=Nat.le_trans (b2x (T:=T) p.2.1) (by unfold ms at hm; omega)
 have l3:p.2.2.1.length<=4000000:=by unfold ms at hm; omega
 have l4:p.2.2.2.length<=4000000:=by unfold ms at hm; omega
 obtain ⟨f1,f2,f3,f4⟩:=c0n (l:=w) (i:=toP p) (by omega)
 unfold X1
 simp only
 rw [show decide (0<((w++[toP p]).length:Int))=true from decide_eq_true (by simp only [List.length_append,List.length_cons,List.length_nil]; omega),f1,f2,f3,f4]
 simp only [cond_true,Option.bind_some]
 rw [b9i p l1 l2 l3 l4]
 simp only [Option.bind_some]
 have hlen:0<p.1.length+p.2.1.length:=by
  apply Nat.pos_of_ne_zero
  intro h0
  apply ho
  exact ⟨List.eq_nil_of_length_eq_zero (by omega),List.eq_nil_of_length_eq_zero (by omega)⟩
 rw [Y1,Q8 (by omega) (by omega),show decide (0<(p.1.length:Int)+(p.2.1.length:Int))=true from decide_eq_true (by omega)]
 simp only [cond_true]
 have hr:=c7A hT hp ho hm
 have hr':a38 (p.1,p.2.1,p.2.2.1,p.2.2.2) T=_:=hr
 rw [hr']
 simp only [Option.bind_some]
 have h4:=(c7h hT hp ho).2
 rw [Z6 (by rw [List.length_map]; omega)]
 rfl
theorem c3M (hT:GT T)(g:Api_Goal){p:PZ}(hp:OkZ T p)(ho:¬ a8q p)(hm:ms T p<=4000000)(w:List Core_pair)(hw:w.length<=10000000000)(s:ES)(hs:InvE T g.Lists s) :
 X1 T g (w++[toP p],s.1,s.2)=some (.next (w,(a94 g.Lists s p).1,(a94 g.Lists s p).2)):=by
 have l3:p.2.2.1.length<=4000000:=by unfold ms at hm; omega
 have l4:p.2.2.2.length<=4000000:=by unfold ms at hm; omega
 have e:p.1=[]/\p.2.1=[]:=Decidable.not_not.1 (by unfold a8q at ho; exact ho)
 obtain ⟨f1,f2,f3,f4⟩:=c0n (l:=w) (i:=toP p) (by omega)
 unfold X1
 simp only
 rw [show decide (0<((w++[toP p]).length:Int))=true from decide_eq_true (by simp only [List.length_append,List.length_cons,List.length_nil]; omega),f1,f2,f3,f4]
 simp only [cond_true,Option.bind_some]
 rw [b9i p (by rw [e.1]; simp) (by rw [e.2]; simp) l3 l4]
 simp only [Option.bind_some,e.1,e.2]
 have e0:decide (0<wr .i64 (((([]:List Int).length:Nat):Int)+((([]:List Int).length:Nat):Int)))=false:=by decide
 rw [e0]
 simp only [cond_false]
 rw [b9f p.2.2.1 p.2.2.2 g.Lists (by omega) (by omega)]
 simp only [Option.bind_some]
 have hN:=c5Y hp g.Lists
 have hk:=c77 hT hN
 have hk':b2u (Api_Goal.mk (srt p.2.2.1) (srt p.2.2.2) g.Lists)=_:=hk
 rw [hk']
 simp only [Option.bind_some]
 have hlen:=hs.len hT
 unfold a94
 cases (a4N s.1 (b3c g.Lists (a3D g.Lists p).Pos (a3D g.Lists p).Neg)).getD false
 ·simp only [Bool.not_false,cond_true]
  rw [Z6 (by simp only [List.length_cons,List.length_nil]; omega)]
  rfl
 ·rfl
theorem b8n {St β:Type}{step:St->Option (Fl St β)}{s t:St}(h:step s=some (.next t))(k:Nat):iter step (k+1) s=iter step k t:=by
 simp only [iter,h,Option.bind_some]
structure LeavesZ (T:Api_Type)(ps ls:List PZ):Prop where
 ok:∀ q∈ls,OkZ T q/\¬ a8q q
 mem:∀ μ,Boo T μ->ls.any (hZ μ)=ps.any (hZ μ)
def c4i (T:Api_Type)(g:Api_Goal)(m:Nat)(ps:List PZ):Prop :=
 ∃ c ls,LeavesZ T ps ls/\∀ (w:List Core_pair) (s:ES) (k:Nat),w.length+4*m<=10000000000->InvE T g.Lists s ->
  iter (X1 T g) (k+c) (w++ps.map toP,s.1,s.2)=iter (X1 T g) k (w,(ls.foldl (a94 g.Lists) s).1,(ls.foldl (a94 g.Lists) s).2)
theorem c3k (hT:GT T)(g:Api_Goal)(m:Nat):∀ r:List PZ,r.length<=4->(∀ q∈r,c4i T g m [q])->c4i T g (m+1) r.reverse
 | [],_,_=>⟨0,[],⟨by simp,fun _ _=>rfl⟩,fun w s k _ _=>by simp⟩
 | q::r,hl,h=>by
   simp only [List.length_cons] at hl
   obtain ⟨c1,l1,a1,b1⟩:=h q (by simp)
   have hr:c4i T g (m+1) r.reverse:=c3k hT g m r (by omega) fun x hx=>h x (by simp [hx])
   obtain ⟨c2,l2,a2,b2⟩:=hr
   refine ⟨c2+c1,l1++l2,⟨fun x hx=>?_,fun μ hμ=>?_⟩,fun w s k hw hs=>?_⟩
   ·rcases List.mem_append.1 hx with hx | hx
    ·exact a1.ok x hx
    ·exact a2.ok x hx
   ·rw [List.any_append,a1.mem μ hμ,a2.mem μ hμ]
    simp only [List.reverse_cons,List.any_append,Bool.or_comm]
   ·have e:w++(q::r).reverse.map toP=(w++r.reverse.map toP)++[q].map toP:=by simp
    have hs1:=(c2Z hT l1 s hs fun x hx=>(a1.ok x hx).1).1
    rw [e,<- Nat.add_assoc,b1 (w++r.reverse.map toP) s (k+c2) (by simp only [List.length_append,List.length_map,List.length_reverse]; omega) hs,b2 w _ k hw hs1,List.foldl_append]
theorem d0U (hT:GT T)(g:Api_Goal):∀ (m:Nat) (p:PZ),OkZ T p->ms T p<=m->m<=4000000->c4i T g m [p]:=by
 intro m
 induction m with
 | zero =>
   intro p hp hm hB
   have hno:¬ a8q p:=fun ho=>by
    rcases b6V (T:=T) ho with ⟨l,i,e,_⟩ | ⟨_,l,i,e,_⟩
    ·have:=b2x (T:=T) p.1
     rw [e] at this
     simp only [List.length_append,List.length_cons,List.length_nil] at this
     unfold ms at hm
     rw [e] at hm
     omega
    ·have:=b2x (T:=T) p.2.1
     rw [e] at this
     simp only [List.length_append,List.length_cons,List.length_nil] at this
     unfold ms at hm
     rw [e] at hm
     omega
   refine ⟨1,[p],⟨fun q hq=>by rw [List.mem_singleton] at hq; subst hq; exact ⟨hp,hno⟩,fun _ _=>rfl⟩,fun w s k hw hs=>?_⟩
   exact b8n (c3M hT g hp hno (by omega) w (by omega) s hs) k
 | succ m ih =>
   intro p hp hm hB
   by_cases ho:a8q p
   ·obtain ⟨h1,h2⟩:=c7h hT hp ho
    have hr:=c3k hT g m (rwZ T p).reverse (by rw [List.length_reverse]; exact h2) fun q hq=>by
     have:=h1 q (List.mem_reverse.1 hq)
     exact ih q this.1 (by omega) (by omega)
    rw [List.reverse_reverse] at hr
    obtain ⟨c,ls,a,b⟩:=hr
    refine ⟨c+1,ls,⟨a.ok,fun μ hμ=>?_⟩,fun w s k hw hs=>?_⟩
    ·rw [a.mem μ hμ,d3G hμ hp ho]
     simp
    ·have e:=b8n (c81 hT g hp ho (by omega) w (by omega) s) (k+c)
     have e':iter (X1 T g) (k+(c+1)) (w++[p].map toP,s.1,s.2)=_:=e
     rw [e',b w s k hw hs]
   ·refine ⟨1,[p],⟨fun q hq=>by rw [List.mem_singleton] at hq; subst hq; exact ⟨hp,ho⟩,fun _ _=>rfl⟩,fun w s k hw hs=>?_⟩
    exact b8n (c3M hT g hp ho (by omega) w (by omega) s hs) k
structure ExpZ (T:Api_Type)(g:Api_Goal)(out:List Api_Goal):Prop where
 ng:∀ e∈out,NG T g.Lists e
 len:out.length<=1048576
 mem:∀ μ,Boo T μ->(out.any fun e=>e.Pos.all μ&&e.Neg.all fun k=>!μ k)=(g.Pos.all μ&&g.Neg.all fun k=>!μ k)
theorem b58 (l:List Int)(r:Int->Bool):(srt l).all r=l.all r:=by
 rw [Bool.eq_iff_iff,List.all_eq_true,List.all_eq_true]
 exact ⟨fun h x hx=>h x ((c2m l x).2 hx),fun h x hx=>h x ((c2m l x).1 hx)⟩
theorem c8N (hN:T.Nodes.length<=8)(l:List Int):wts T l<=l.length*390625:=by
 induction l with
 | nil=>simp [wts]
 | cons x r ih =>
   have:wt T x<=390625:=by
    unfold wt
    exact Nat.le_trans (Nat.pow_le_pow_right (by omega) (show T.Nodes.length-x.toNat<=8 by omega)) (by decide)
   unfold wts at *
   simp only [List.map_cons,List.sum_cons,List.length_cons,Nat.add_mul]
   omega
theorem c35 (hT:GT T)(hN:T.Nodes.length<=8)(g:Api_Goal)(hg:gIn T.Nodes.length g=true)(hl:g.Pos.length+g.Neg.length<=10) :
 ∃ c out,(∀ n,c<=n->a6V n T g=some out)/\ExpZ T g out:=by
 unfold gIn at hg
 simp only [Bool.and_eq_true] at hg
 have h1:=b9y g.Pos
 have h2:=b9y g.Neg
 have hp:OkZ T (srt g.Pos,srt g.Neg,[],[]):=⟨by simp only [b58]; exact hg.1,by simp only [b58]; exact hg.2,rfl,rfl⟩
 have hm:ms T (srt g.Pos,srt g.Neg,[],[])<=4000000:=by
  have w1:=c8N hN (srt g.Pos)
  have w2:=c8N hN (srt g.Neg)
  unfold ms
  simp only [List.length_nil]
  omega
 obtain ⟨c,ls,a,b⟩:=d0U hT g 4000000 _ hp hm (Nat.le_refl _)
 have hs0:InvE T g.Lists (([],[]):ES):=⟨by simp,by simp,fun e _=>by simp [a4N]⟩
 obtain ⟨i1,i2⟩:=c2Z hT ls _ hs0 fun q hq=>(a.ok q hq).1
 refine ⟨c+1,(ls.foldl (a94 g.Lists) ([],[])).2,fun n hn=>?_,⟨i1.ng,i1.len hT,fun μ hμ=>?_⟩⟩
 ·unfold a6V
  rw [b1S g.Pos (by omega),b1S g.Neg (by omega)]
  simp only [Option.bind_some]
  obtain ⟨k,rfl⟩:∃ k,n=(k+1)+c:=⟨n-1-c,by omega⟩
  have:=b [] ([],[]) (k+1) (by simp) hs0
  have e:iter (X1 T g) (k+1+c) (([Core_pair.mk (srt g.Pos) (srt g.Neg) ([]:List Int) ([]:List Int)]:List Core_pair),([]:List (ByteArray×Bool)),([]:List Api_Goal))=_:=this
  rw [e]
  have h0:∀ s:ES,X1 T g ([],s.1,s.2)=some (.done (s.1,s.2)):=fun s=>rfl
  simp only [iter,h0,Option.bind_some]
 ·have hmem:=a.mem μ hμ
  have e1:((ls.foldl (a94 g.Lists) ([],[])).2.any fun e=>e.Pos.all μ&&e.Neg.all fun k=>!μ k)=ls.any (hZ μ):=by
   have key:∀ q,OkZ T q/\¬ a8q q->hZ μ q=((a3D g.Lists q).Pos.all μ&&(a3D g.Lists q).Neg.all fun k=>!μ k):=fun q hq=>by
    have e:q.1=[]/\q.2.1=[]:=Decidable.not_not.1 (by have:=hq.2; unfold a8q at this; exact this)
    unfold hZ a3D
    simp only [b58,e.1,e.2,List.all_nil,Bool.true_and]
   rw [Bool.eq_iff_iff,List.any_eq_true,List.any_eq_true]
   constructor
   ·rintro ⟨e,he,h⟩
    rcases (i2 e).1 he with h0 | ⟨q,hq,rfl⟩
    ·simp at h0
    ·exact ⟨q,hq,by rw [key q (a.ok q hq)]; exact h⟩
   ·rintro ⟨q,hq,h⟩
    exact ⟨_,(i2 _).2 (.inr ⟨q,hq,rfl⟩),by rw [<- key q (a.ok q hq)]; exact h⟩
  rw [e1,hmem]
  simp [hZ,b58]
end
end Go.Pl
end
section
namespace Go.Pl
open Go Go.RowKit Go.Sx Go.Qx
abbrev b6G (x y:ByteArray):Bool:=decide (cS x y=0)
theorem d4e (s0:List ByteArray)(i0 n:Nat)(hn:n<=4194304)(i k:Nat)(s:List ByteArray)(x y:ByteArray)(hl:s.length=n)(hk:i0+k<n)(h1:1<=k)(hi:i<i0+k)(hx:s[i0+k]?=some x)(hy:s[i0+k-1]?=some y) :
 V5 (s0,(i0:Int)) (((i:Int),(k:Int)),s)=some (.next (if b6G x y=true then (((i:Int),((k+1:Nat):Int)),s) else ((((i+1:Nat):Int),((k+1:Nat):Int)),s.set i x))):=by
 unfold V5
 simp only [V8,Y1,Int.toNat_natCast]
 have hdl:(s.drop i0).length=n-i0:=by rw [List.length_drop,hl]
 rw [if_pos (decide_eq_true (by show (k:Int)<(((s.drop i0).length:Nat):Int); rw [hdl]; omega)),k8 i (by omega),k8 k (by omega),a9Z k (by omega) h1]
 simp only [Int.toNat_natCast]
 have a1:idx (s.drop i0) (k:Int)=some x:=j5 (by rw [List.getElem?_drop]; exact hx)
 have a2:idx (s.drop i0) ((k-1:Nat):Int)=some y:=j5 (by rw [List.getElem?_drop,show i0+(k-1)=i0+k-1 by omega]; exact hy)
 have a3:idx s (i:Int)=some (s[i]'(by omega)):=j5 (List.getElem?_eq_getElem (by omega))
 rw [a1,a2,a3,hx,show i0+(k-1)=i0+k-1 by omega,hy,List.getElem?_eq_getElem (show i<s.length by omega)]
 simp only [Option.bind_some]
 rw [a8B]
 by_cases h:cS x y=0<;>simp [b6G,h]
theorem c6s (l:List ByteArray)(hl:l.length<=4194304):K9 l=some (a6U b6G l):=by
 unfold K9
 by_cases h2:(l.length:Int)<2
 ·have e:decide ((l.length:Int)<2)=true:=by simpa using h2
  rw [e]
  match l,h2 with
  | [],_=>rfl
  | [_],_=>rfl
  | _::_::_,h=>exact absurd h (by simp; omega)
 ·have e:decide ((l.length:Int)<2)=false:=by simpa using h2
  rw [e,Y2]
  simp only [cond_false]
  have key:=c3D (r:=b6G) (step:=a0a) l (by omega) ?_ ?_ ?_
  ·rcases key with ⟨h,hc⟩ | ⟨q,h⟩
   ·rw [h,hc]; rfl
   ·rw [h]; rfl
  ·intro i x y hi hx hy hr
   have hlt:i<l.length:=(List.getElem?_eq_some_iff.1 hx).1
   unfold a0a
   simp only [V8,Y1,Int.toNat_natCast]
   rw [if_pos (by simp; omega),a9Z i (by omega) hi,j5 hx,j5 hy]
   simp only [Int.toNat_natCast,hx,hy,Option.bind_some]
   rw [a8B]
   have hr':decide (cS x y=0)=false:=hr
   rw [hr',k8 i (by omega)]
   rfl
  ·intro i x y hi hx hy hr
   have hlt:i<l.length:=(List.getElem?_eq_some_iff.1 hx).1
   unfold a0a
   simp only [V8,Y1,Int.toNat_natCast]
   rw [if_pos (by simp; omega),a9Z i (by omega) hi,j5 hx,j5 hy]
   simp only [Int.toNat_natCast,hx,hy,Option.bind_some]
   rw [a8B]
   have hr':decide (cS x y=0)=true:=hr
   rw [hr',if_pos rfl]
   obtain ⟨s',e1,e2,e3⟩:=c3J (r:=b6G) (step:=V5 (l,(i:Int))) i l.length (fun i' k s x y a1 a2 a3 a4 a5 a6=>d4e l i l.length hl i' k s x y a1 a2 a3 a4 a5 a6)
    (fun i' k s a1 a2=>by
      unfold V5
      simp only [Int.toNat_natCast]
      have:decide ((k:Int)<(((s.drop i).length:Nat):Int))=false:=by rw [List.length_drop]; simp; omega
      rw [this]
      rfl) (l.length-(i+1)) i 1 l x ((l.drop i).length+1) rfl (by omega) (Nat.le_refl _) (by omega) (by simpa using hx) (by rw [List.length_drop]; omega)
   have e1':iter (V5 (l,(i:Int))) ((l.drop i).length+1) (((i:Int),1),l)=_:=e1
   rw [e1']
   simp only [Option.bind_some,<- V8]
   have hd:=c5H (r:=b6G) (l.drop (i+1)) x
   rw [List.length_drop] at hd
   exact c6X (⟨#[]⟩:ByteArray) _ l.length s' _ e2 (by omega) e3
  ·unfold a0a
   simp
theorem c9m:∀ a b:List UInt8,a<=b->cBs a b<=0
 | [],[],_=>by simp [cBs]
 | [],_::_,_=>by simp [cBs]
 | _::_,[],h=>absurd h (by simp)
 | x::xs,y::ys,h=>by
   simp only [cBs]
   rw [List.cons_le_cons_iff] at h
   rcases h with h | ⟨h,h2⟩
   ·rcases K4 (x.toNat:Int) (y.toNat:Int) with ⟨_,e⟩ | ⟨p,_⟩ | ⟨p,_⟩
    ·rw [e]; simp [tn]
    ·have:=UInt8.lt_iff_toNat_lt.1 h; omega
    ·have:=UInt8.lt_iff_toNat_lt.1 h; omega
   ·subst h
    have ih:=c9m xs ys h2
    rcases K4 (x.toNat:Int) (x.toNat:Int) with ⟨_,e⟩ | ⟨_,_⟩ | ⟨_,e⟩
    ·omega
    ·omega
    ·rw [e,a8H]; exact ih
theorem c7J (l:List ByteArray):(l.mergeSort fun x y=>decide (x.data.toList<=y.data.toList)).Pairwise fun a b=>¬ cS b a<0:=by
 refine (List.pairwise_mergeSort (le:=fun x y:ByteArray=>decide (x.data.toList<=y.data.toList)) (fun a b c h1 h2=>?_) (fun a b=>?_) l).imp fun {a b} h=>?_
 ·simp only [decide_eq_true_eq] at *
  exact List.le_trans h1 h2
 ·simp only [Bool.or_eq_true,decide_eq_true_eq]
  exact List.le_total _ _
 ·simp only [decide_eq_true_eq] at h
  have h1:cS a b<=0:=c9m _ _ h
  have:=a83.anti a b
  omega
def srS (l:List ByteArray):List ByteArray:=l.foldl (a2a cS) []
theorem c65 (l:List ByteArray)(y:ByteArray):y∈srS l↔y∈l:=(c2K (c:=cS) a83 l).2 y
theorem a7I (l:List ByteArray):asc cS (srS l)=true:=(c2K (c:=cS) a83 l).1
theorem a7A (l:List ByteArray):(srS l).length<=l.length:=by
 have key:∀ (l out:List ByteArray),(l.foldl (a2a cS) out).length<=out.length+l.length:=by
  intro l
  induction l with
  | nil=>intro out; simp
  | cons x r ih =>
    intro out
    have h1:=ih (a2a cS out x)
    have h2:=b7d cS out x
    simp only [List.foldl_cons,List.length_cons]
    omega
 have:=key l []
 simpa [srS] using this
theorem c1s (l:List ByteArray)(hl:l.length<=4194304):(Option.bind (b2z l) fun r3=>Option.bind (K9 r3.2) fun r4=>a1g r4)=some (srS l):=by
 unfold b2z b2X
 have e:decide (l.length<4611686018427387904)=true:=by simp; omega
 rw [e]
 simp only [cond_true,Option.bind_some]
 have hp:=List.mergeSort_perm l fun x y:ByteArray=>decide (x.data.toList<=y.data.toList)
 rw [c6s _ (by rw [hp.length_eq]; exact hl)]
 simp only [Option.bind_some]
 unfold a1g
 have:=c0h a83 hp (c7J l)
 rw [show a6U (fun x y=>decide (cS x y=0))=a6U b6G from rfl] at this
 rw [this]
 simp [srS]
section
variable {T:Api_Type}
def Z9 (T:Api_Type)(l:List Int):List ByteArray:=(l.filter fun i=>(ndT T i).Kind==19).map fun i=>(ndT T i).Text
theorem c5N (l:List Int)(hl:l.length<=4194304)(hi:∀ i∈l,inR T.Nodes.length i=true):a9w T l=some (srS (Z9 T l)):=by
 unfold a9w
 have key:=a27 (σ:=List ByteArray) (step:=a5a T l) l (fun s i=>(s,(i:Int))) (fun s k=>if (ndT T k).Kind=19 then s++[(ndT T k).Text] else s) (fun i s=>s.length<=i) (fun s=>s)
  (fun i s k hx hI=>by
    have hlt:i<l.length:=(List.getElem?_eq_some_iff.1 hx).1
    obtain ⟨j,_,_,_,ei⟩:=a4B (hi k (List.mem_of_getElem? hx))
    refine ⟨?_,by split<;>(try simp only [List.length_append,List.length_cons,List.length_nil])<;>omega⟩
    unfold a5a
    simp only [Y1]
    rw [Z3 hlt,j5 hx]
    simp only [cond_true,Option.bind_some]
    rw [ei,k8 i (by omega)]
    simp only [Option.bind_some]
    by_cases hk:(ndT T k).Kind=19
    ·rw [if_pos hk,show ((ndT T k).Kind==19)=true by simp [hk]]
     simp only [cond_true]
     rw [Z6 (by simp only [List.length_cons,List.length_nil]; omega)]
     rfl
    ·rw [if_neg hk,show ((ndT T k).Kind==19)=false by simp [hk]]
     rfl) (fun s _=>by
    unfold a5a
    simp) [] (by simp) _ (Nat.le_refl _)
 have e:iter (a5a T l) (l.length+1) (([]:List ByteArray),0)=iter (a5a T l) (l.length+1) (([]:List ByteArray),((0:Nat):Int)):=rfl
 rw [Y2,e,key]
 simp only [Option.bind_some,V2]
 have ef:∀ (l:List Int) (s:List ByteArray),l.foldl (fun s k=>if (ndT T k).Kind=19 then s++[(ndT T k).Text] else s) s=s++Z9 T l:=by
  intro l
  induction l with
  | nil=>intro s; simp [Z9]
  | cons x r ih =>
    intro s
    rw [List.foldl_cons,ih]
    unfold Z9
    rw [List.filter_cons]
    by_cases hk:(ndT T x).Kind=19
    ·rw [if_pos hk,show ((ndT T x).Kind==19)=true by simp [hk]]; simp
    ·rw [if_neg hk,show ((ndT T x).Kind==19)=false by simp [hk]]; simp
 rw [ef,List.nil_append]
 have hv:(Z9 T l).length<=l.length:=by unfold Z9; rw [List.length_map]; exact List.length_filter_le _ _
 exact c1s _ (by omega)
end
def b2j (p q:List ByteArray):Bool:=p.any fun x=>q.any fun y=>Y0 y x
theorem d0b (l:List ByteArray)(f:ByteArray->Option Bool)(p:ByteArray->Bool)(hl:l.length<=4194304)(hf:∀ x∈l,f x=some (p x)):a0H l f=some (l.any p):=by
 unfold a0H a2Q
 rw [Y2]
 rcases a6M (step:=a0E l f) l p (fun i _=>(i:Int)) (fun i y hy=>by
  have hi:i<l.length:=(List.getElem?_eq_some_iff.1 hy).1
  unfold a0E
  rw [Z3 hi,j5 hy]
  simp only [cond_true,Option.bind_some,Y1]
  rw [hf y (List.mem_of_getElem? hy),k8 i (by omega)]
  cases p y<;>rfl) (by
  unfold a0E
  simp) with ⟨i,y,hy,hp,_,e⟩ | ⟨h,e⟩
 ·rw [e,b0Q hy hp]
  simp only [Option.bind_some,onEnd,c2M]
 ·rw [e,h]
  rfl
theorem d0r (p q:List ByteArray)(h1:p.length<=4194304)(h2:q.length<=4194304):a6c p q=some (b2j p q):=by
 unfold a6c
 rw [d0b p _ (fun x=>q.any fun y=>Y0 y x) h1 fun x _=>by
  unfold a7r
  simp only [V2]
  exact c1C q x h2]
 rfl
end Go.Pl
end
section
namespace Go.Pl
open Go Go.RowKit Go.Sx Go.Qx
def a7a (r:Api_Range)(n:Int):Bool:=decide (r.Lo<=n)&&decide (n<=r.Hi)
def a0W (l:List Api_Range)(n:Int):Bool:=l.any fun r=>a7a r n
def rI (r:Api_Range):Prop:=(-9223372036854775808)<=r.Lo/\r.Lo<=9223372036854775807/\(-9223372036854775808)<=r.Hi/\r.Hi<=9223372036854775807
structure VR (l:List Api_Range):Prop where
 i:∀ r∈l,rI r
 le:∀ r∈l,r.Lo<=r.Hi
 gap:l.Pairwise fun a b=>a.Hi+1<b.Lo
theorem VR.nil:VR []:=⟨by simp,by simp,List.Pairwise.nil⟩
def a6Y (o r:Api_Range):Bool:=o.Hi==9223372036854775807||decide (r.Lo<=o.Hi+1)
def mrg (out:List Api_Range)(r:Api_Range):List Api_Range:=match out.getLast? with
 | some o=>if a6Y o r=true then out.dropLast++[Api_Range.mk o.Lo (max o.Hi r.Hi)] else out++[r]
 | none=>[r]
theorem a8o {α:Type}{l:List α}{o:α}(h:l.getLast?=some o):l=l.dropLast++[o]:=by
 cases l with
 | nil=>simp at h
 | cons x r =>
   rw [List.getLast?_eq_some_getLast (by simp)] at h
   have:=List.dropLast_concat_getLast (l:=x::r) (by simp)
   rw [Option.some.inj h] at this
   exact this.symm
theorem d3k {out:List Api_Range}{r:Api_Range}(h:VR out)(hr:rI r)(hl:r.Lo<=r.Hi)(hs:∀ o∈out,o.Lo<=r.Lo) :
 VR (mrg out r)/\(∀ n,a0W (mrg out r) n=(a0W out n||a7a r n))/\(∀ o∈mrg out r,o.Lo<=r.Lo):=by
 unfold mrg
 cases hg:out.getLast? with
 | none =>
   have e:=List.getLast?_eq_none_iff.1 hg
   subst e
   exact ⟨⟨by simp [hr],by simp [hl],by simp⟩,fun n=>by simp [a0W],by simp⟩
 | some o =>
   have e:=a8o hg
   generalize out.dropLast=a at e ⊢
   subst e
   have ho:=hs o (by simp)
   have hoi:=h.i o (by simp)
   have hol:=h.le o (by simp)
   have hga:=List.pairwise_append.1 h.gap
   dsimp only
   cases ht:a6Y o r with
   | true =>
     simp only [if_true]
     have hm:o.Hi=9223372036854775807\/r.Lo<=o.Hi+1:=by
      unfold a6Y at ht
      simpa using ht
     unfold rI at *
     refine ⟨⟨fun x hx=>?_,fun x hx=>?_,?_⟩,fun n=>?_,fun x hx=>?_⟩
     ·rcases List.mem_append.1 hx with hx | hx
      ·exact h.i x (by simp [hx])
      ·rw [List.mem_singleton] at hx; subst hx
       unfold rI
       simp only
       omega
     ·rcases List.mem_append.1 hx with hx | hx
      ·exact h.le x (by simp [hx])
      ·rw [List.mem_singleton] at hx; subst hx
       simp only
       omega
     ·refine List.pairwise_append.2 ⟨hga.1,by simp,fun x hx y hy=>?_⟩
      rw [List.mem_singleton] at hy; subst hy
      exact hga.2.2 x hx o (by simp)
     ·unfold a0W
      simp only [List.any_append,List.any_cons,List.any_nil,Bool.or_false]
      rw [Bool.or_assoc]
      congr 1
      unfold a7a
      rw [Bool.eq_iff_iff]
      simp only [Bool.or_eq_true,Bool.and_eq_true,decide_eq_true_eq]
      omega
     ·rcases List.mem_append.1 hx with hx | hx
      ·exact hs x (by simp [hx])
      ·rw [List.mem_singleton] at hx; subst hx
       exact ho
   | false =>
     rw [if_neg (by simp)]
     have hm:o.Hi+1<r.Lo:=by
      unfold a6Y at ht
      simp at ht
      omega
     refine ⟨⟨fun x hx=>?_,fun x hx=>?_,?_⟩,fun n=>?_,fun x hx=>?_⟩
     ·rcases List.mem_append.1 hx with hx | hx
      ·exact h.i x hx
      ·rw [List.mem_singleton] at hx; subst hx; exact hr
     ·rcases List.mem_append.1 hx with hx | hx
      ·exact h.le x hx
      ·rw [List.mem_singleton] at hx; subst hx; exact hl
     ·refine List.pairwise_append.2 ⟨h.gap,by simp,fun x hx y hy=>?_⟩
      rw [List.mem_singleton] at hy; subst hy
      rcases List.mem_append.1 hx with hx | hx
      ·have:=hga.2.2 x hx o (by simp)
       omega
      ·rw [List.mem_singleton] at hx; subst hx; exact hm
     ·unfold a0W
      simp only [List.any_append,List.any_cons,List.any_nil,Bool.or_false]
     ·rcases List.mem_append.1 hx with hx | hx
      ·exact hs x hx
      ·rw [List.mem_singleton] at hx; subst hx; exact Int.le_refl _
theorem c6H (out:List Api_Range)(r:Api_Range):(mrg out r).length<=out.length+1:=by
 unfold mrg
 cases hg:out.getLast? with
 | none=>simp
 | some o =>
   have e:=congrArg List.length (a8o hg)
   simp only [List.length_append,List.length_cons,List.length_nil] at e
   dsimp only
   cases a6Y o r<;>simp<;>omega
theorem c7q:∀ (l out:List Api_Range),VR out->(∀ r∈l,rI r/\r.Lo<=r.Hi)->l.Pairwise (fun a b=>a.Lo<=b.Lo)->(∀ o∈out,∀ r∈l,o.Lo<=r.Lo) ->
 VR (l.foldl mrg out)/\(∀ n,a0W (l.foldl mrg out) n=(a0W out n||a0W l n))/\(l.foldl mrg out).length<=out.length+l.length
 | [],out,h,_,_,_=>⟨h,fun n=>by simp [a0W],by simp⟩
 | r::l,out,h,hl,hp,hs=>by
   have hp2:=List.pairwise_cons.1 hp
   have h1:=hl r (by simp)
   obtain ⟨a,b,c⟩:=d3k h h1.1 h1.2 fun o ho=>hs o ho r (by simp)
   obtain ⟨d,e,f⟩:=c7q l (mrg out r) a (fun x hx=>hl x (by simp [hx])) hp2.2 fun o ho x hx=>Int.le_trans (c o ho) (hp2.1 x hx)
   refine ⟨d,fun n=>?_,?_⟩
   ·rw [List.foldl_cons,e,b]
    simp only [a0W,List.any_cons,Bool.or_assoc]
   ·have:=c6H out r
    simp only [List.foldl_cons,List.length_cons]
    omega
end Go.Pl
end
section
namespace Go.Pl
open Go Go.RowKit Go.Sx Go.Qx
theorem a0M (i:Nat)(h:i<=4611686018427387904):wr .i64 ((i:Int)+1)=((i+1:Nat):Int):=k8 i h
theorem a8n {x:Int}(h1 : -9223372036854775808<=x)(h2:x<=9223372036854775807):wr .i64 x=x:=Q8 h1 h2
theorem d1n (x y:Int):a1S x y=some (cI x y):=by
 unfold a1S a5d
 simp only [Option.bind_some,bne_self_eq_false,cond_false]
 rcases K4 x y with ⟨h,k⟩ | ⟨h,k⟩ | ⟨h,k⟩
 ·rw [k,show decide (x<y)=true from decide_eq_true h]; rfl
 ·rw [k,show decide (x<y)=false from decide_eq_false (by omega),show decide (y<x)=true from decide_eq_true (by omega)]; rfl
 ·rw [k,show decide (x<y)=false from decide_eq_false (by omega),show decide (y<x)=false from decide_eq_false (by omega)]; rfl
theorem c8Q (l:List Api_Range)(hl:l.length<=4194304):∃ m,(b6v l fun z5 z6=>Option.bind (a2U z5 z6) fun r7=>some r7)=some ((),m)/\m.Perm l/\m.Pairwise fun a b=>a.Lo<=b.Lo:=by
 have eg:(fun z5 z6:Api_Range=>Option.bind (a2U z5 z6) fun r7=>some r7)=fun a b=>some (cI a.Lo b.Lo):=by
  funext a b
  unfold a2U
  simp only [V2]
  exact d1n _ _
 rw [eg]
 have hlt:∀ a b:Api_Range,ltB (fun a b:Api_Range=>some (cI a.Lo b.Lo)) a b=decide (a.Lo<b.Lo):=fun a b=>by
  unfold ltB
  exact (d1U a.Lo b.Lo).symm
 have hw:Swk (ltB (fun a b:Api_Range=>some (cI a.Lo b.Lo))) l:=⟨fun x _=>by rw [hlt]; simp,fun x _ y _ z _ h1 h2=>by
  rw [hlt] at *
  simp only [decide_eq_true_eq] at *
  omega,fun x _ y _ z _ h1 h2=>by
  rw [hlt] at *
  simp only [decide_eq_false_iff_not] at *
  omega⟩
 have hok:OkCmp l (fun a b:Api_Range=>some (cI a.Lo b.Lo)):=⟨by omega,fun x _ y _=>⟨_,rfl⟩,hw⟩
 obtain ⟨h1,h2⟩:=c0e hw
 refine ⟨b0s (ltB fun a b:Api_Range=>some (cI a.Lo b.Lo)) l,?_,h1,h2.imp fun {a b} h=>?_⟩
 ·unfold b6v c4p
  rw [if_pos hok]
  rfl
 ·rw [hlt] at h
  simp only [decide_eq_false_iff_not] at h
  omega
theorem c8E {l m:List Api_Range}(h:l.Perm m)(n:Int):a0W l n=a0W m n:=by
 unfold a0W
 rw [Bool.eq_iff_iff,List.any_eq_true,List.any_eq_true]
 exact ⟨fun ⟨r,a,b⟩=>⟨r,h.mem_iff.1 a,b⟩,fun ⟨r,a,b⟩=>⟨r,h.mem_iff.2 a,b⟩⟩
theorem c6q (l:List Api_Range)(n:Int):a0W (l.filter fun r=>decide (r.Lo<=r.Hi)) n=a0W l n:=by
 unfold a0W
 rw [Bool.eq_iff_iff,List.any_eq_true,List.any_eq_true]
 constructor
 ·rintro ⟨r,a,b⟩
  exact ⟨r,(List.mem_filter.1 a).1,b⟩
 ·rintro ⟨r,a,b⟩
  refine ⟨r,List.mem_filter.2 ⟨a,?_⟩,b⟩
  unfold a7a at b
  simp at b ⊢
  omega
theorem d0F (m:List Api_Range)(hm:m.length<=4194304)(i:Nat)(out:List Api_Range)(r:Api_Range)(hx:m[i]?=some r)(hout:out.length<=i)(ho:∀ o∈out,rI o) :
 a0z ((),m) (out,m,(i:Int))=some (.next (mrg out r,m,((i+1:Nat):Int))):=by
 have hi:i<m.length:=(List.getElem?_eq_some_iff.1 hx).1
 unfold a0z
 simp only [Int.toNat_natCast]
 rw [Z3 hi,j5 hx,hx]
 simp only [cond_true,Option.bind_some,V2]
 unfold mrg
 cases hg:out.getLast? with
 | none =>
   have e:=List.getLast?_eq_none_iff.1 hg
   subst e
   have e1:decide (0<=wr .i64 (((([]:List Api_Range)).length:Int)-1))=false:=by decide
   rw [e1]
   simp only [cond_false,Option.bind_some]
   rw [Z6 (by simp),a0M i (by omega)]
   rfl
 | some o =>
   have e:=a8o hg
   generalize out.dropLast=a at e ⊢
   subst e
   have hal:a.length+1<=4194304:=by simp only [List.length_append,List.length_cons,List.length_nil] at hout; omega
   have hw:wr .i64 (((a++[o]).length:Int)-1)=(a.length:Int):=by
    rw [a8n (by simp only [List.length_append,List.length_cons,List.length_nil]; omega) (by simp only [List.length_append,List.length_cons,List.length_nil]; omega)]
    simp only [List.length_append,List.length_cons,List.length_nil]; omega
   have hat:(a++[o])[a.length]?=some o:=by rw [List.getElem?_append_right (Nat.le_refl _)]; simp
   have hset:∀ x:Api_Range,(a++[o]).set a.length x=a++[x]:=fun x=>by
    rw [List.set_append]
    simp
   obtain ⟨o1,o2,o3,o4⟩:=ho o (by simp)
   rw [hw,j5 hat]
   simp only [Int.toNat_natCast,hat,Option.bind_some]
   rw [show decide (0<=(a.length:Int))=true from decide_eq_true (by omega),a0M i (by omega)]
   simp only [cond_true]
   have ht:(bif o.Hi==9223372036854775807 then some true else some (decide (r.Lo<=wr .i64 (o.Hi+1))))=some (a6Y o r):=by
    unfold a6Y
    cases hh:o.Hi==9223372036854775807 with
    | true=>simp [hh]
    | false =>
      have:o.Hi≠9223372036854775807:=by simpa using hh
      rw [a8n (by omega) (by omega)]
      simp [hh]
   rw [ht]
   simp only [Option.bind_some]
   cases a6Y o r with
   | true=>simp [hset]
   | false =>
     simp only [cond_false]
     rw [Z6 (by simp only [List.length_append,List.length_cons,List.length_nil]; omega)]
     simp
theorem d3l {out:List Api_Range}{r:Api_Range}(ho:∀ o∈out,rI o)(hr:rI r):∀ o∈mrg out r,rI o:=by
 unfold mrg
 cases hg:out.getLast? with
 | none=>intro o h; simp only [List.mem_singleton] at h; subst h; exact hr
 | some o =>
   have e:=a8o hg
   generalize out.dropLast=a at e ⊢
   subst e
   have h1:=ho o (by simp)
   dsimp only
   intro x hx
   cases ht:a6Y o r
   ·rw [ht,if_neg (by simp)] at hx
    rcases List.mem_append.1 hx with hx | hx
    ·exact ho x hx
    ·rw [List.mem_singleton] at hx; subst hx; exact hr
   ·rw [ht,if_pos rfl] at hx
    rcases List.mem_append.1 hx with hx | hx
    ·exact ho x (by simp [hx])
    ·rw [List.mem_singleton] at hx; subst hx
     unfold rI at *
     simp only
     omega
theorem a9f (l:List Api_Range)(hl:l.length<=1048576)(hi:∀ r∈l,rI r):∃ m,a0K l=some m/\VR m/\(∀ n,a0W m n=a0W l n)/\m.length<=l.length:=by
 unfold a0K
 have key:=a27 (σ:=List Api_Range) (step:=a1n l) l (fun s i=>(s,(i:Int))) (fun s r=>if r.Lo<=r.Hi then s++[r] else s) (fun i s=>s.length<=i) (fun s=>s)
  (fun i s k hx hI=>by
    have hlt:i<l.length:=(List.getElem?_eq_some_iff.1 hx).1
    refine ⟨?_,by split<;>(try simp only [List.length_append,List.length_cons,List.length_nil])<;>omega⟩
    unfold a1n
    simp only [Y1]
    rw [Z3 hlt,j5 hx]
    simp only [cond_true,Option.bind_some]
    rw [k8 i (by omega)]
    by_cases hk:k.Lo<=k.Hi
    ·rw [if_pos hk,show decide (k.Lo<=k.Hi)=true from decide_eq_true hk]
     simp only [cond_true]
     rw [Z6 (by simp only [List.length_cons,List.length_nil]; omega)]
     rfl
    ·rw [if_neg hk,show decide (k.Lo<=k.Hi)=false from decide_eq_false hk]
     rfl) (fun s _=>by
    unfold a1n
    simp) [] (by simp) _ (Nat.le_refl _)
 have e:iter (a1n l) (l.length+1) (([]:List Api_Range),0)=iter (a1n l) (l.length+1) (([]:List Api_Range),((0:Nat):Int)):=rfl
 rw [Y2,e,key]
 simp only [Option.bind_some]
 have ef:∀ (l s:List Api_Range),l.foldl (fun s r=>if r.Lo<=r.Hi then s++[r] else s) s=s++l.filter fun r=>decide (r.Lo<=r.Hi):=by
  intro l
  induction l with
  | nil=>intro s; simp
  | cons x r ih =>
    intro s
    rw [List.foldl_cons,ih,List.filter_cons]
    by_cases hk:x.Lo<=x.Hi
    ·rw [if_pos hk,show decide (x.Lo<=x.Hi)=true from decide_eq_true hk]; simp
    ·rw [if_neg hk,show decide (x.Lo<=x.Hi)=false from decide_eq_false hk]; simp
 rw [ef,List.nil_append]
 have hfl:=List.length_filter_le (fun r:Api_Range=>decide (r.Lo<=r.Hi)) l
 obtain ⟨m,h1,h2,h3⟩:=c8Q (l.filter fun r=>decide (r.Lo<=r.Hi)) (by omega)
 rw [h1]
 simp only [Option.bind_some,Y2]
 have hml:=h2.length_eq
 have hin:∀ r∈m,rI r/\r.Lo<=r.Hi:=fun r hr=>by
  have:=List.mem_filter.1 (h2.mem_iff.1 hr)
  exact ⟨hi r this.1,by simpa using this.2⟩
 have c8d:=a27 (σ:=List Api_Range) (step:=a0z ((),m)) m (fun s i=>(s,m,(i:Int))) mrg (fun i s=>s.length<=i/\∀ o∈s,rI o) (fun s=>(s,m))
  (fun i s k hx hI=>⟨d0F m (by omega) i s k hx hI.1 hI.2,by have:=c6H s k; omega,d3l hI.2 (hin k (List.mem_of_getElem? hx)).1⟩) (fun s _=>by
    unfold a0z
    simp) [] ⟨by simp,by simp⟩ _ (Nat.le_refl _)
 have e2:iter (a0z ((),m)) (m.length+1) (([]:List Api_Range),m,0)=iter (a0z ((),m)) (m.length+1) (([]:List Api_Range),m,((0:Nat):Int)):=rfl
 rw [e2,c8d]
 obtain ⟨k1,k2,k3⟩:=c7q m [] VR.nil hin h3 (by simp)
 refine ⟨_,rfl,k1,fun n=>?_,by rw [List.length_nil,Nat.zero_add] at k3; show (List.foldl mrg [] m).length<=l.length; omega⟩
 rw [k2,c8E h2,c6q]
 simp [a0W]
def b4m (a b:Api_Range):Api_Range:=Api_Range.mk (max a.Lo b.Lo) (min a.Hi b.Hi)
theorem c8M (a b:Api_Range)(n:Int):a7a (b4m a b) n=(a7a a n&&a7a b n):=by
 unfold a7a b4m
 rw [Bool.eq_iff_iff]
 simp only [Bool.and_eq_true,decide_eq_true_eq]
 omega
theorem d3O {a b:Api_Range}(ha:rI a)(hb:rI b):rI (b4m a b):=by
 unfold rI b4m at *
 simp only
 omega
theorem b8z (a b:List Api_Range)(hab:a.length*b.length<=1000000)(ha:a.length<=1000000)(hb:b.length<=1000000)(hai:∀ r∈a,rI r)(hbi:∀ r∈b,rI r) :
 ∃ m,a3J a b=some m/\VR m/\(∀ n,a0W m n=(a0W a n&&a0W b n))/\m.length<=a.length*b.length:=by
 obtain ⟨x,x1,x2,x3,x4⟩:=a9f a (by omega) hai
 obtain ⟨y,y1,y2,y3,y4⟩:=a9f b (by omega) hbi
 have hxy:x.length*y.length<=a.length*b.length:=Nat.mul_le_mul x4 y4
 unfold a3J
 rw [x1]
 simp only [Option.bind_some,Y2]
 have inner:∀ (r:Api_Range) (s:List Api_Range),s.length+y.length<=1048576->iter (a0B r y) (y.length+1) (s,0)=some (s++y.map (b4m r)):=fun r s hs=>by
  have key:=a27 (σ:=List Api_Range) (step:=a0B r y) y (fun s i=>(s,(i:Int))) (fun s q=>s++[b4m r q]) (fun i s'=>s'.length=s.length+i) (fun s=>s)
   (fun i s' q hx hI=>by
     have hlt:i<y.length:=(List.getElem?_eq_some_iff.1 hx).1
     refine ⟨?_,by simp only [List.length_append,List.length_cons,List.length_nil]; omega⟩
     unfold a0B
     simp only [Y1]
     rw [Z3 hlt,j5 hx]
     simp only [cond_true,Option.bind_some]
     rw [Z6 (by simp only [List.length_cons,List.length_nil]; omega),k8 i (by omega)]
     rfl) (fun s _=>by
     unfold a0B
     simp) s (by simp) _ (Nat.le_refl _)
  have e:iter (a0B r y) (y.length+1) (s,0)=iter (a0B r y) (y.length+1) (s,((0:Nat):Int)):=rfl
  rw [e,key,b9j]
 have key:=a27 (σ:=List Api_Range) (step:=a1p b x) x (fun s i=>(s,(i:Int))) (fun s r=>s++y.map (b4m r)) (fun i s=>s.length=i*y.length) (fun s=>s)
  (fun i s r hx hI=>by
    have hlt:i<x.length:=(List.getElem?_eq_some_iff.1 hx).1
    refine ⟨?_,by rw [List.length_append,List.length_map,hI,Nat.add_mul]; omega⟩
    have hbd:i*y.length+y.length<=x.length*y.length:=by
     have:(i+1)*y.length<=x.length*y.length:=Nat.mul_le_mul_right _ (by omega)
     rw [Nat.add_mul] at this
     omega
    unfold a1p
    simp only [Y1]
    rw [Z3 hlt,j5 hx]
    simp only [cond_true,Option.bind_some]
    rw [y1]
    simp only [Option.bind_some,Y2]
    rw [inner r s (by rw [hI]; omega),k8 i (by omega)]
    rfl) (fun s _=>by
    unfold a1p
    simp) [] (by simp) _ (Nat.le_refl _)
 have e:iter (a1p b x) (x.length+1) (([]:List Api_Range),0)=iter (a1p b x) (x.length+1) (([]:List Api_Range),((0:Nat):Int)):=rfl
 rw [e,key,b8w]
 simp only [Option.bind_some,List.nil_append,V2]
 have hfl:(x.flatMap fun r=>y.map (b4m r)).length=x.length*y.length:=by
  have:∀ x:List Api_Range,(x.flatMap fun r=>y.map (b4m r)).length=x.length*y.length:=by
   intro x
   induction x with
   | nil=>simp
   | cons z r ih=>simp only [List.flatMap_cons,List.length_append,List.length_map,ih,List.length_cons,Nat.add_mul]; omega
  exact this x
 obtain ⟨m,m1,m2,m3,m4⟩:=a9f (x.flatMap fun r=>y.map (b4m r)) (by omega) fun r hr=>by
  obtain ⟨p,hp,hr⟩:=List.mem_flatMap.1 hr
  obtain ⟨q,hq,rfl⟩:=List.mem_map.1 hr
  exact d3O (x2.i p hp) (y2.i q hq)
 refine ⟨m,m1,m2,fun n=>?_,by omega⟩
 rw [m3,<- x3,<- y3]
 unfold a0W
 rw [Bool.eq_iff_iff]
 simp only [List.any_eq_true,Bool.and_eq_true,List.mem_flatMap,List.mem_map]
 constructor
 ·rintro ⟨r,⟨p,hp,q,hq,rfl⟩,h⟩
  rw [c8M,Bool.and_eq_true] at h
  exact ⟨⟨p,hp,h.1⟩,q,hq,h.2⟩
 ·rintro ⟨⟨p,hp,h1⟩,q,hq,h2⟩
  exact ⟨_,⟨p,hp,q,hq,rfl⟩,by rw [c8M,h1,h2]; rfl⟩
theorem c34 (r:Api_Range)(h:r.Lo<=r.Hi)(hi:rI r):a0K [r]=some [r]:=by
 obtain ⟨m,m1,m2,m3,m4⟩:=a9f [r] (by simp) (by simpa using hi)
 rw [m1]
 congr 1
 simp only [List.length_cons,List.length_nil] at m4
 match m,m2,m3,m4 with
 | [],_,m3,_ =>
   have:=m3 r.Lo
   simp [a0W,a7a] at this
   omega
 | [x],m2,m3,_ =>
   have h1:=m2.le x (by simp)
   have h3:∀ n:Int,(x.Lo<=n/\n<=x.Hi)↔(r.Lo<=n/\n<=r.Hi):=fun n=>by
    have:=m3 n
    unfold a0W a7a at this
    simp only [List.any_cons,List.any_nil,Bool.or_false] at this
    rw [Bool.eq_iff_iff] at this
    simpa using this
   have a:=h3 x.Lo
   have b:=h3 x.Hi
   have c:=h3 r.Lo
   have d:=h3 r.Hi
   obtain ⟨x1,x2⟩:=x
   obtain ⟨r1,r2⟩:=r
   simp only at *
   have:x1=r1:=by omega
   have:x2=r2:=by omega
   subst_vars
   rfl
theorem c2G (r:Api_Range)(h:r.Lo<=r.Hi)(hi:rI r):∃ m,a4U [r]=some m/\(∀ x∈m,rI x)/\(∀ n,(-9223372036854775808)<=n->n<=9223372036854775807->a0W m n=!a7a r n)/\m.length<=2:=by
 unfold a4U
 rw [c34 r h hi]
 simp only [Option.bind_some]
 obtain ⟨h1,h2,h3,h4⟩:=hi
 have e0:(([r]:List Api_Range).length:Int).toNat+1=2:=rfl
 rw [e0]
 have s1:a2e [r] ([],-9223372036854775808,0)=(bif r.Hi==9223372036854775807 then some (.done (.inr (if (-9223372036854775808)<r.Lo then [Api_Range.mk (-9223372036854775808) (r.Lo-1)] else []))) else some (.next ((if (-9223372036854775808)<r.Lo then [Api_Range.mk (-9223372036854775808) (r.Lo-1)] else []),r.Hi+1,1))):=by
  unfold a2e
  have ei:idx [r] 0=some r:=j5 (i:=0) rfl
  have ed:decide ((0:Int)<(([r]:List Api_Range).length:Int))=true:=rfl
  simp only [Y1]
  rw [ed,ei]
  simp only [cond_true,Option.bind_some]
  rw [b3W _ (by simp) _ (by omega)]
  have ew:w64 (0+1)=1:=by decide
  rw [ew]
  by_cases hl:(-9223372036854775808)<r.Lo
  ·rw [if_pos hl,show decide (-9223372036854775808<r.Lo)=true from decide_eq_true hl,Q8 (x:=r.Lo-1) (by omega) (by omega)]
   simp only [cond_true,Option.bind_some,List.nil_append]
   cases hh:r.Hi==9223372036854775807
   ·have:r.Hi≠9223372036854775807:=by simpa using hh
    rw [Q8 (x:=r.Hi+1) (by omega) (by omega)]
   ·rfl
  ·rw [if_neg hl,show decide (-9223372036854775808<r.Lo)=false from decide_eq_false hl]
   simp only [cond_false,Option.bind_some]
   cases hh:r.Hi==9223372036854775807
   ·have:r.Hi≠9223372036854775807:=by simpa using hh
    rw [Q8 (x:=r.Hi+1) (by omega) (by omega)]
   ·rfl
 have mem1:∀ n,(-9223372036854775808)<=n->a0W (if (-9223372036854775808)<r.Lo then [Api_Range.mk (-9223372036854775808) (r.Lo-1)] else []) n=decide (n<r.Lo):=fun n hn=>by
  by_cases hl:(-9223372036854775808)<r.Lo
  ·rw [if_pos hl]
   simp only [a0W,a7a,List.any_cons,List.any_nil,Bool.or_false]
   rw [Bool.eq_iff_iff]
   simp only [Bool.and_eq_true,decide_eq_true_eq]
   omega
  ·rw [if_neg hl]
   simp only [a0W,List.any_nil]
   rw [eq_comm,decide_eq_false_iff_not]
   omega
 have in1:∀ x∈(if (-9223372036854775808)<r.Lo then [Api_Range.mk (-9223372036854775808) (r.Lo-1)] else []),rI x:=fun x hx=>by
  by_cases hl:(-9223372036854775808)<r.Lo
  ·rw [if_pos hl,List.mem_singleton] at hx
   subst hx
   unfold rI
   simp only
   omega
  ·rw [if_neg hl] at hx
   simp at hx
 have len1:(if (-9223372036854775808)<r.Lo then [Api_Range.mk (-9223372036854775808) (r.Lo-1)] else []).length<=1:=by split<;>simp
 generalize (if (-9223372036854775808)<r.Lo then [Api_Range.mk (-9223372036854775808) (r.Lo-1)] else [])=A at s1 mem1 in1 len1
 simp only [iter,s1]
 cases hh:r.Hi==9223372036854775807
 ·have hne:r.Hi≠9223372036854775807:=by simpa using hh
  have s2:a2e [r] (A,r.Hi+1,1)=some (.done (.inl (A,r.Hi+1))):=by
   unfold a2e
   rfl
  simp only [cond_false,Option.bind_some,s2,onEnd]
  rw [b3W _ (by simp only [List.length_cons,List.length_nil]; omega) _ (by omega)]
  refine ⟨_,rfl,fun x hx=>?_,fun n n1 n2=>?_,by simp only [List.length_append,List.length_cons,List.length_nil]; omega⟩
  ·rcases List.mem_append.1 hx with hx | hx
   ·exact in1 x hx
   ·rw [List.mem_singleton] at hx
    subst hx
    unfold rI
    simp only
    omega
  ·have:=mem1 n n1
   unfold a0W at *
   rw [List.any_append,this]
   simp only [List.any_cons,List.any_nil,Bool.or_false,a7a]
   rw [Bool.eq_iff_iff]
   simp only [Bool.or_eq_true,Bool.and_eq_true,decide_eq_true_eq,Bool.not_eq_true',Bool.and_eq_false_iff,decide_eq_false_iff_not]
   omega
 ·have he:r.Hi=9223372036854775807:=by simpa using hh
  simp only [cond_true,Option.bind_some,onEnd]
  refine ⟨A,rfl,in1,fun n n1 n2=>?_,by omega⟩
  rw [mem1 n n1]
  unfold a7a
  rw [Bool.eq_iff_iff]
  simp only [decide_eq_true_eq,Bool.not_eq_true',Bool.and_eq_false_iff,decide_eq_false_iff_not]
  omega
end Go.Pl
end
section
namespace Go.Pl
open Go Go.RowKit Go.Sx Go.Qx
theorem a9S {σ α St β:Type}{step:St->Option (Fl St β)}(xs:List α)(pack:σ->Nat->St)(I:Nat->σ->Prop)(D:σ->β)
 (hstep:∀ i s x,xs[i]?=some x->I i s->∃ s',step (pack s i)=some (.next (pack s' (i+1)))/\I (i+1) s')
 (hend:∀ s,I xs.length s->step (pack s xs.length)=some (.done (D s))) (s0:σ) (h0:I 0 s0) (k:Nat) (hk:xs.length+1<=k) :
 ∃ s,iter step k (pack s0 0)=some (D s)/\I xs.length s:=by
 have key:∀ (n i:Nat) (s:σ) (k:Nat),i+n=xs.length->n+1<=k->I i s->∃ s',iter step k (pack s i)=some (D s')/\I xs.length s':=by
  intro n
  induction n with
  | zero =>
    intro i s k hi hk hI
    have e:i=xs.length:=by omega
    subst e
    obtain ⟨k,rfl⟩:∃ m,k=m+1:=⟨k-1,by omega⟩
    exact ⟨s,by simp only [iter,hend s hI,Option.bind_some],hI⟩
  | succ n ih =>
    intro i s k hi hk hI
    have hlt:i<xs.length:=by omega
    obtain ⟨k,rfl⟩:∃ m,k=m+1:=⟨k-1,by omega⟩
    obtain ⟨s',h1,h2⟩:=hstep i s xs[i] (List.getElem?_eq_getElem hlt) hI
    obtain ⟨t,h3,h4⟩:=ih (i+1) s' k (by omega) (by omega) h2
    exact ⟨t,by simp only [iter,h1,Option.bind_some]; exact h3,h4⟩
 exact key xs.length 0 s0 k (by omega) hk h0
theorem b0I (x y:ByteArray):Y0 x y=true↔x=y:=by
 rw [a8B,decide_eq_true_iff]
 exact ⟨c7O,fun h=>by subst h; exact a83.self x⟩
theorem b7r (x:ByteArray):Y0 x x=true:=(b0I x x).2 rfl
theorem c5b (l:List ByteArray)(s:ByteArray):(l.any fun y=>Y0 y s)=true↔s∈l:=by
 rw [List.any_eq_true]
 constructor
 ·rintro ⟨y,hy,h⟩
  rw [(b0I y s).1 h] at hy
  exact hy
 ·intro h
  exact ⟨s,h,b7r s⟩
theorem d2h (x y:ByteArray):a60 x y=some (decide (cS x y<0)):=by
 unfold a60 a6n
 rw [b7r x]
 simp only [Option.bind_some,Bool.not_true,cond_false]
 rw [b7f]
theorem d2i {i j:Nat}(h:i+j<=8388608):c0H .u64 (wr .u64 (wr .i64 ((i:Int)+(j:Int)))) 1=some (((i+j) / 2:Nat):Int):=by
 have e:wr .u64 (wr .i64 ((i:Int)+(j:Int)))=((i+j:Nat):Int):=by
  rw [a8n (by omega) (by omega)]
  show IntKind.wrap .u64 _=_
  rw [IntKind.wrap_u64]
  omega
 rw [e]
 unfold c0H
 rw [if_neg (by omega)]
 have e2:(2:Int)^(min (Int.toNat 1) IntKind.u64.bits)=2:=rfl
 rw [e2,Int.fdiv_eq_ediv_of_nonneg _ (by omega)]
 congr 1
theorem c9v (xs:List ByteArray)(ha:asc cS xs=true)(hl:xs.length<=4194304)(t:ByteArray):∀ (d i j k:Nat),i+d=j->j<=xs.length->d+1<=k ->
 (∀ m x,m<i->xs[m]?=some x->cS x t<0)->(∀ m x,j<=m->xs[m]?=some x->¬ cS x t<0) ->
 ∃ r:Nat,iter (Q5 xs t) k ((i:Int),(j:Int))=some (r:Int)/\r<=xs.length/\(∀ m x,m<r->xs[m]?=some x->cS x t<0)/\(∀ m x,r<=m->xs[m]?=some x->¬ cS x t<0):=by
 have hpw:=(CmpOk.asc_pw (c:=cS) a83 xs).1 ha
 intro d
 induction d using Nat.strongRecOn with
 | _ d ih =>
   intro i j k hij hj hk h1 h2
   obtain ⟨k,rfl⟩:∃ m,k=m+1:=⟨k-1,by omega⟩
   by_cases hd:d=0
   ·have e:i=j:=by omega
    subst e
    refine ⟨i,?_,hj,h1,h2⟩
    have:Q5 xs t ((i:Int),(i:Int))=some (.done (i:Int)):=by
     unfold Q5
     simp
    simp only [iter,this,Option.bind_some]
   ·have hlt:(i+j) / 2<xs.length:=by omega
    have ex:=List.getElem?_eq_getElem hlt
    generalize xs[(i+j) / 2]=x at ex
    generalize hm:(i+j) / 2=m at ex hlt
    have hs:Q5 xs t ((i:Int),(j:Int))=some (.next (if cS x t<0 then (((m+1:Nat):Int),(j:Int)) else ((i:Int),(m:Int)))):=by
     unfold Q5
     simp only
     rw [show decide ((i:Int)<(j:Int))=true from decide_eq_true (by omega),d2i (by omega),hm]
     simp only [cond_true,Option.bind_some]
     rw [a8n (x:=(m:Int)) (by omega) (by omega),j5 ex]
     simp only [Option.bind_some]
     rw [d2h,a0M m (by omega)]
     by_cases hc:cS x t<0
     ·rw [if_pos hc,decide_eq_true hc]; rfl
     ·rw [if_neg hc,decide_eq_false hc]; rfl
    simp only [iter,hs,Option.bind_some]
    by_cases hc:cS x t<0
    ·rw [if_pos hc]
     refine ih (j-(m+1)) (by omega) (m+1) j k (by omega) hj (by omega) (fun q y hq hy=>?_) h2
     by_cases e:q=m
     ·subst e
      rw [ex] at hy
      rw [<- Option.some.inj hy]
      exact hc
     ·have hq':q<xs.length:=(List.getElem?_eq_some_iff.1 hy).1
      have:=List.pairwise_iff_getElem.1 hpw q m hq' hlt (by omega)
      rw [(List.getElem?_eq_some_iff.1 hy).2,(List.getElem?_eq_some_iff.1 ex).2] at this
      exact CmpOk.strict a83 this (by omega)
    ·rw [if_neg hc]
     refine ih (m-i) (by omega) i m k (by omega) (by omega) (by omega) h1 (fun q y hq hy hy2=>?_)
     by_cases e:q=m
     ·subst e
      rw [ex] at hy
      rw [<- Option.some.inj hy] at hy2
      exact hc hy2
     ·have hq':q<xs.length:=(List.getElem?_eq_some_iff.1 hy).1
      have:=List.pairwise_iff_getElem.1 hpw m q hlt hq' (by omega)
      rw [(List.getElem?_eq_some_iff.1 hy).2,(List.getElem?_eq_some_iff.1 ex).2] at this
      exact hc (CmpOk.strict a83 this (by omega))
theorem d4x (xs:List ByteArray)(ha:asc cS xs=true)(hl:xs.length<=4194304)(t:ByteArray)(n:Nat)(hn:xs.length+1<=n):∃ i,a0G n xs t=some (i,xs.any fun y=>Y0 y t):=by
 obtain ⟨r,e,hr,h1,h2⟩:=c9v xs ha hl t xs.length 0 xs.length n (by omega) (Nat.le_refl _) hn (fun m x hm=>by omega) (fun m x hm hx=>by
  have:=(List.getElem?_eq_some_iff.1 hx).1
  omega)
 have hpw:=(CmpOk.asc_pw (c:=cS) a83 xs).1 ha
 refine ⟨(r:Int),?_⟩
 unfold a0G
 have e':iter (Q5 xs t) n (0,(xs.length:Int))=some (r:Int):=e
 rw [e']
 simp only [Option.bind_some,V2]
 by_cases hlt:r<xs.length
 ·have ex:=List.getElem?_eq_getElem hlt
  generalize xs[r]=x at ex
  rw [Z3 hlt,j5 ex]
  simp only [cond_true,Option.bind_some]
  unfold a4R
  rw [b7r x]
  simp only [Option.bind_some,Bool.not_true,cond_false]
  have:(xs.any fun y=>Y0 y t)=Y0 x t:=by
   rw [Bool.eq_iff_iff,c5b,b0I]
   constructor
   ·intro ht
    obtain ⟨m,hm,rfl⟩:=List.getElem_of_mem ht
    have hmr:¬ m<r:=fun hmr=>by
     have:=h1 m _ hmr (List.getElem?_eq_getElem hm)
     rw [a83.self] at this
     omega
    by_cases e:m=r
    ·subst e
     rw [List.getElem?_eq_getElem hm] at ex
     exact (Option.some.inj ex).symm
    ·have:=List.pairwise_iff_getElem.1 hpw r m hlt hm (by omega)
     rw [(List.getElem?_eq_some_iff.1 ex).2] at this
     exact absurd this (h2 r x (Nat.le_refl _) ex)
   ·rintro rfl
    exact List.mem_of_getElem? ex
  rw [this]
  cases Y0 x t<;>rfl
 ·rw [show decide ((r:Int)<(xs.length:Int))=false from decide_eq_false (by omega)]
  have:(xs.any fun y=>Y0 y t)=false:=by
   rw [Bool.eq_false_iff]
   intro ha
   obtain ⟨m,hm,rfl⟩:=List.getElem_of_mem ((c5b xs t).1 ha)
   have:=h1 m _ (by omega) (List.getElem?_eq_getElem hm)
   rw [a83.self] at this
   omega
  rw [this]
  rfl
theorem b7o (s:Api_Names)(hl:s.List_.length<=4194304):a1s s=some (Literals_normal.mk (Api_Names.mk s.Cofinite (srS s.List_))):=by
 unfold a1s a0n
 rw [Z6 (by omega)]
 simp only [Option.bind_some]
 have h:=c1s s.List_ hl
 cases h1:b2z s.List_ with
 | none=>rw [h1] at h; cases h
 | some r3 =>
   rw [h1] at h
   simp only [Option.bind_some] at h ⊢
   cases h2:K9 r3.2 with
   | none=>rw [h2] at h; cases h
   | some r4 =>
     rw [h2] at h
     simp only [Option.bind_some] at h ⊢
     rw [h]
     rfl
theorem b3Y (l:List ByteArray)(hl:l.length<=4194304):a2E l=some (Api_Names.mk false (srS l)):=by
 unfold a2E
 rw [b7o _ hl]
 rfl
theorem b4V (l:List ByteArray)(hl:l.length<=4194304):a2W l=some (Api_Names.mk true (srS l)):=by
 unfold a2W
 rw [b7o _ hl]
 rfl
def inL (l:List ByteArray)(s:ByteArray):Bool:=l.any fun y=>Y0 y s
theorem b9m (l:List ByteArray)(s:ByteArray):inL l s=true↔s∈l:=c5b l s
theorem c6S (a:Api_Names)(ha:asc cS a.List_=true)(hl:a.List_.length<=4194304)(s:ByteArray)(n:Nat)(hn:5000000<=n):a3l n (Literals_normal.mk a) s=some (inL a.List_ s):=by
 unfold a3l
 obtain ⟨i,h⟩:=d4x a.List_ ha hl s n (by omega)
 simp only
 rw [h]
 rfl
theorem c0c {α:Type}(p:α->Bool):∀ (l s:List α),l.foldl (fun s x=>if p x=true then s++[x] else s) s=s++l.filter p
 | [],s=>by simp
 | x::r,s=>by
   rw [List.foldl_cons,c0c p r,List.filter_cons]
   cases p x<;>simp
theorem b4D {α:Type}{step:List α×Int->Option (Fl (List α×Int) (List α))}(xs:List α)(p:α->Bool)(hst:∀ (i:Nat) (s:List α) (x:α),xs[i]?=some x->s.length<=i->step (s,(i:Int))=some (.next (if p x=true then s++[x] else s,((i+1:Nat):Int))))
 (hend:∀ s,step (s,(xs.length:Int))=some (.done s)):iter step (xs.length+1) ([],0)=some (xs.filter p):=by
 have key:=a27 (σ:=List α) (step:=step) xs (fun s i=>(s,(i:Int))) (fun s x=>if p x=true then s++[x] else s) (fun i s=>s.length<=i) (fun s=>s)
  (fun i s x hx hI=>⟨hst i s x hx hI,by split<;>(try simp only [List.length_append,List.length_cons,List.length_nil])<;>omega⟩) (fun s _=>hend s) [] (by simp) _ (Nat.le_refl _)
 have e:iter step (xs.length+1) (([]:List α),0)=iter step (xs.length+1) (([]:List α),((0:Nat):Int)):=rfl
 rw [e,key,c0c,List.nil_append]
theorem c5l (a b:Api_Names)(hb:asc cS b.List_=true)(ha:a.List_.length<=4194304)(hl:b.List_.length<=4194304)(n:Nat)(hn:5000000<=n) :
 a2w n (Literals_normal.mk a) (Literals_normal.mk b)=some (a.List_.filter fun s=>!inL b.List_ s):=by
 unfold a2w
 rw [Y2]
 simp only [V2]
 exact b4D (step:=a2R (Literals_normal.mk a) (Literals_normal.mk b) n) a.List_ (fun s=>!inL b.List_ s) (fun i s x hx hs=>by
  have hlt:i<a.List_.length:=(List.getElem?_eq_some_iff.1 hx).1
  unfold a2R
  simp only
  rw [Z3 hlt,j5 hx]
  simp only [cond_true,Option.bind_some]
  rw [c6S b hb hl x n hn,a0M i (by omega)]
  simp only [Option.bind_some]
  cases inL b.List_ x
  ·simp only [Bool.not_false,cond_true,if_true]
   rw [Z6 (by simp only [List.length_cons,List.length_nil]; omega)]
   rfl
  ·rfl) (fun s=>by
  unfold a2R
  simp)
theorem c9u (a b:Api_Names)(hb:asc cS b.List_=true)(ha:a.List_.length<=4194304)(hl:b.List_.length<=4194304)(n:Nat)(hn:5000000<=n) :
 iter (a2o (Literals_normal.mk a) (Literals_normal.mk b) n) (a.List_.length+1) ([],0)=some (a.List_.filter fun s=>inL b.List_ s) :=
 b4D (step:=a2o (Literals_normal.mk a) (Literals_normal.mk b) n) a.List_ (fun s=>inL b.List_ s) (fun i s x hx hs=>by
  have hlt:i<a.List_.length:=(List.getElem?_eq_some_iff.1 hx).1
  unfold a2o
  simp only
  rw [Z3 hlt,j5 hx]
  simp only [cond_true,Option.bind_some]
  rw [c6S b hb hl x n hn,a0M i (by omega)]
  simp only [Option.bind_some]
  cases inL b.List_ x
  ·rfl
  ·simp only [cond_true,if_true]
   rw [Z6 (by simp only [List.length_cons,List.length_nil]; omega)]
   rfl) (fun s=>by
  unfold a2o
  simp)
def a54 (a:Api_Names)(s:ByteArray):Bool:=inL a.List_ s != a.Cofinite
theorem b5I (l:List ByteArray)(s:ByteArray):inL (srS l) s=inL l s:=by
 rw [Bool.eq_iff_iff,b9m,b9m,c65]
theorem b6W (l:List ByteArray)(p:ByteArray->Bool)(s:ByteArray):inL (l.filter p) s=(inL l s&&p s):=by
 rw [Bool.eq_iff_iff,b9m,List.mem_filter,Bool.and_eq_true,b9m]
theorem d2g (l m:List ByteArray)(s:ByteArray):inL (l++m) s=(inL l s||inL m s):=by unfold inL; rw [List.any_append]
theorem c3g (a b:Api_Names)(ha:a.List_.length<=1000000)(hb:b.List_.length<=1000000)(n:Nat)(hn:5000000<=n) :
 ∃ m,a3M n a b=some m/\asc cS m.List_=true/\(∀ s,a54 m s=(a54 a s&&a54 b s))/\m.List_.length<=a.List_.length+b.List_.length:=by
 have la:=a7A a.List_
 have lb:=a7A b.List_
 have fl:∀ (l:List ByteArray) (p:ByteArray->Bool),(l.filter p).length<=l.length:=fun l p=>List.length_filter_le p l
 unfold a3M
 rw [b7o a (by omega),b7o b (by omega)]
 simp only [Option.bind_some]
 obtain ⟨ca,xa⟩:=a
 obtain ⟨cb,xb⟩:=b
 simp only at *
 cases ca<;>cases cb<;>simp only [cond_true,cond_false,Option.bind_some]
 ·have hbl:=c9u (Api_Names.mk false (srS xa)) (Api_Names.mk false (srS xb)) (a7I xb) (by simp only; omega) (by simp only; omega) n hn
  simp only at hbl
  rw [Y2,hbl]
  simp only [Option.bind_some,V2]
  have h1:=fl (srS xa) fun s=>inL (srS xb) s
  rw [b3Y _ (by omega)]
  refine ⟨_,rfl,a7I _,fun s=>?_,?_⟩
  ·unfold a54
   simp only [b5I,b6W]
   cases inL xa s<;>cases inL xb s<;>rfl
  ·have h2:=a7A ((srS xa).filter fun s=>inL (srS xb) s)
   simp only
   omega
 ·rw [c5l (Api_Names.mk false (srS xa)) (Api_Names.mk true (srS xb)) (a7I xb) (by simp only; omega) (by simp only; omega) n hn]
  simp only [Option.bind_some,V2]
  have h1:=fl (srS xa) fun s=>!inL (srS xb) s
  rw [b3Y _ (by omega)]
  refine ⟨_,rfl,a7I _,fun s=>?_,?_⟩
  ·unfold a54
   simp only [b5I,b6W]
   cases inL xa s<;>cases inL xb s<;>rfl
  ·have h2:=a7A ((srS xa).filter fun s=>!inL (srS xb) s)
   simp only
   omega
 ·rw [c5l (Api_Names.mk false (srS xb)) (Api_Names.mk true (srS xa)) (a7I xa) (by simp only; omega) (by simp only; omega) n hn]
  simp only [Option.bind_some,V2]
  have h1:=fl (srS xb) fun s=>!inL (srS xa) s
  rw [b3Y _ (by omega)]
  refine ⟨_,rfl,a7I _,fun s=>?_,?_⟩
  ·unfold a54
   simp only [b5I,b6W]
   cases inL xa s<;>cases inL xb s<;>rfl
  ·have h2:=a7A ((srS xb).filter fun s=>!inL (srS xa) s)
   simp only
   omega
 ·have hbo:a4e (Literals_normal.mk (Api_Names.mk true (srS xa))) (Literals_normal.mk (Api_Names.mk true (srS xb)))=some (srS xa++srS xb):=by
   unfold a4e a0n
   simp only
   rw [Z6 (by omega)]
   simp only [Option.bind_some]
   rw [Z6 (by omega)]
   rfl
  rw [hbo]
  simp only [Option.bind_some,V2]
  rw [b4V _ (by rw [List.length_append]; omega)]
  refine ⟨_,rfl,a7I _,fun s=>?_,?_⟩
  ·unfold a54
   simp only [b5I,d2g]
   cases inL xa s<;>cases inL xb s<;>rfl
  ·have h2:=a7A (srS xa++srS xb)
   rw [List.length_append] at h2
   simp only
   omega
end Go.Pl
end
section
namespace Go.Pl
open Go Go.RowKit Go.Sx Go.Qx
def b4G (K A:Int)(x:Api_TypeNode):Bool :=
 if x.Kind=3 then K==1 else if x.Kind=4\/x.Kind=5 then K==2 else if x.Kind=6\/x.Kind=7 then K==3 else if x.Kind=8 then K==4 else if x.Kind=9 then K==5 else if x.Kind=12 then K==7 else
 if x.Kind=13 then K==8 else if x.Kind=11 then K==6 else if x.Kind=10 then K==6&&A==(x.Kids.length:Int) else if x.Kind=15 then K==9 else if x.Kind=14 then K==9&&A==(x.Kids.length:Int)-1 else false
def lkK (K:Int):Int:=if K=1 then 3 else if K=2 then 4 else if K=3 then 6 else 0
def ekK (K:Int):Int:=if K=2 then 5 else if K=3 then 7 else if K=4 then 8 else if K=5 then 9 else if K=6 then 11 else if K=9 then 15 else 0
def skK (K:Int):Int:=if K=6 then 10 else if K=7 then 12 else if K=8 then 13 else if K=9 then 14 else 0
def arV (v:Val):Int:=if v.Kind=6 then (v.Kids.length:Int) else if v.Kind=9 then v.Int_ else 0
theorem a7B {T:Api_Type}(hT:GT T){i:Int}(h:a0c T i=true):∃ j:Nat,i=(j:Int)/\j<T.Nodes.length/\T.Nodes[j]?=some (ndT T i)/\GN T.Nodes.length j (ndT T i) /\
 ((ndT T i).Kind=3\/(ndT T i).Kind=4\/(ndT T i).Kind=5\/(ndT T i).Kind=6\/(ndT T i).Kind=7\/(ndT T i).Kind=8\/(ndT T i).Kind=9\/(ndT T i).Kind=10\/(ndT T i).Kind=11\/(ndT T i).Kind=12\/(ndT T i).Kind=13\/(ndT T i).Kind=14\/(ndT T i).Kind=15\/(ndT T i).Kind=19):=by
 unfold a0c at h
 simp only [Bool.and_eq_true,Bool.not_eq_true',Bool.or_eq_false_iff,beq_eq_false_iff_ne,ne_eq] at h
 obtain ⟨hi,⟨⟨⟨h1,h2⟩,h16⟩,h17⟩,h18⟩:=h
 obtain ⟨j,rfl,hj,e,_⟩:=a4B hi
 have hg:=hT.nodes j _ e
 refine ⟨j,rfl,hj,e,hg,?_⟩
 rcases a7L (ndT T (j:Int)).Kind with h | h
 ·omega
 ·have hn:=hg.ok
  have e:∀ n:Int,1<=n->n<=19->¬ (ndT T (j:Int)).Kind=n:=fun n h1 h2=>by simpa using h n h1 h2
  unfold X3 a2T at hn
  rw [if_neg (e 3 (by omega) (by omega)),if_neg (e 4 (by omega) (by omega)),if_neg (e 6 (by omega) (by omega)),if_neg (e 19 (by omega) (by omega)),if_neg (by have:=e 1 (by omega) (by omega); have:=e 2 (by omega) (by omega); have:=e 5 (by omega) (by omega); have:=e 7 (by omega) (by omega); have:=e 8 (by omega) (by omega); have:=e 9 (by omega) (by omega); have:=e 11 (by omega) (by omega); have:=e 15 (by omega) (by omega); omega),
   if_neg (e 10 (by omega) (by omega)),if_neg (e 12 (by omega) (by omega)),if_neg (e 14 (by omega) (by omega)),if_neg (by have:=e 16 (by omega) (by omega); have:=e 17 (by omega) (by omega); omega),if_neg (e 18 (by omega) (by omega)),if_neg (e 13 (by omega) (by omega))] at hn
  simp at hn
section
variable {T:Api_Type}{v:Val}
theorem c43 (hT:GT T)(ho:vOK v=true)(hb:j9 v<=4194304){i:Int}(hi:a0c T i=true)(hn:(ndT T i).Kind≠19)(hm:Z8 T v i=true):b4G v.Kind (arV v) (ndT T i)=true:=by
 obtain ⟨j,rfl,hj,e,hg,hK⟩:=a7B hT hi
 rw [b0o hT e ho hb] at hm
 have hl:(ndT T (j:Int)).Kind=14->1<=(ndT T (j:Int)).Kids.length:=fun hk=>by
  have hn:=hg.ok
  unfold X3 a2T at hn
  simp only [hk,Bool.and_eq_true] at hn
  have hn2:=hn.2.2.2.2
  simp at hn2
  omega
 generalize ndT T (j:Int)=x at *
 unfold unM at hm
 unfold b4G arV
 rcases hK with hK | hK | hK | hK | hK | hK | hK | hK | hK | hK | hK | hK | hK | hK<;>simp only [hK] at hm hn hl ⊢<;>simp at hm hn hl ⊢
 ·exact hm.1
 ·exact hm.1
 ·exact hm
 ·exact hm.1
 ·exact hm
 ·exact hm
 ·exact hm
 ·refine ⟨hm.1,?_⟩
  rw [if_pos hm.1]
  have h:=hm.2
  unfold b4d at h
  simp only [Bool.and_eq_true,beq_iff_eq] at h
  exact h.1
 ·exact hm
 ·exact hm.1
 ·exact hm.1
 ·refine ⟨hm.1,?_⟩
  rw [if_neg (by omega),if_pos hm.1]
  have h:=hm.2
  unfold c47 at h
  simp only [Bool.and_eq_true,beq_iff_eq] at h
  omega
 ·exact hm
theorem c4K {K A:Int}{x:Api_TypeNode}(hf:b4G K A x=true):(x.Kind=lkK K\/x.Kind=ekK K\/x.Kind=skK K)/\1<=K/\K<=9/\x.Kind≠0:=by
 unfold b4G at hf
 unfold lkK ekK skK
 split at hf
 ·simp at hf; subst hf; simp; omega
 split at hf
 ·simp at hf; subst hf; simp; omega
 split at hf
 ·simp at hf; subst hf; simp; omega
 split at hf
 ·simp at hf; subst hf; simp; omega
 split at hf
 ·simp at hf; subst hf; simp; omega
 split at hf
 ·simp at hf; subst hf; simp; omega
 split at hf
 ·simp at hf; subst hf; simp; omega
 split at hf
 ·simp at hf; subst hf; simp; omega
 split at hf
 ·simp at hf; obtain ⟨rfl,_⟩:=hf; simp; omega
 split at hf
 ·simp at hf; subst hf; simp; omega
 split at hf
 ·simp at hf; obtain ⟨rfl,_⟩:=hf; simp; omega
 ·simp at hf
theorem c3F (hT:GT T)(ho:vOK v=true)(hb:j9 v<=4194304){i:Int}(hi:a0c T i=true)(hk:(ndT T i).Kind=ekK v.Kind):Z8 T v i=true:=by
 obtain ⟨j,rfl,hj,e,hg,hK⟩:=a7B hT hi
 rw [b0o hT e ho hb]
 generalize ndT T (j:Int)=x at *
 unfold ekK at hk
 unfold unM
 split at hk
 ·simp [hk, *]
 split at hk
 ·simp [hk, *]
 split at hk
 ·simp [hk, *]
 split at hk
 ·simp [hk, *]
 split at hk
 ·simp [hk, *]
 split at hk
 ·simp [hk, *]
 ·omega
def isK (T:Api_Type)(k:Int)(i:Int):Bool:=(ndT T i).Kind==k
def b4I (T:Api_Type)(K A:Int)(i:Int):Bool:=b4G K A (ndT T i)
def ofZ (T:Api_Type)(K A k:Int)(l:List Int):List Int:=l.filter fun i=>isK T k i&&b4I T K A i
theorem c5O (hT:GT T)(ho:vOK v=true)(hb:j9 v<=4194304){p q:List Int}(hp:p.all (a0c T)=true)(hq:q.all (a0c T)=true) :
 (p.all (Z8 T v)=true/\(q.all fun i=>!Z8 T v i)=true) ↔
 ((∀ i∈p,(ndT T i).Kind=19->Z8 T v i=true)/\(∀ i∈q,(ndT T i).Kind=19->Z8 T v i=false))/\(∀ i∈p,(ndT T i).Kind=19\/b4I T v.Kind (arV v) i=true) /\
 ((∀ i∈p,(ndT T i).Kind=lkK v.Kind->Z8 T v i=true)/\(∀ i∈q,(ndT T i).Kind=lkK v.Kind->Z8 T v i=false)) /\
 ((∀ i∈ofZ T v.Kind (arV v) (skK v.Kind) p,Z8 T v i=true)/\(∀ i∈ofZ T v.Kind (arV v) (skK v.Kind) q,Z8 T v i=false))/\(∀ i∈q,(ndT T i).Kind≠ekK v.Kind):=by
 have hP:=List.all_eq_true.1 hp
 have hQ:=List.all_eq_true.1 hq
 rw [List.all_eq_true,List.all_eq_true]
 constructor
 ·rintro ⟨h1,h2⟩
  have h2':∀ i∈q,Z8 T v i=false:=fun i hi=>by simpa using h2 i hi
  refine ⟨⟨fun i hi _=>h1 i hi,fun i hi _=>h2' i hi⟩,fun i hi=>?_,⟨fun i hi _=>h1 i hi,fun i hi _=>h2' i hi⟩,⟨fun i hi=>h1 i (List.mem_filter.1 hi).1,fun i hi=>h2' i (List.mem_filter.1 hi).1⟩,fun i hi e=>?_⟩
  ·by_cases hk:(ndT T i).Kind=19
   ·exact .inl hk
   ·exact .inr (c43 hT ho hb (hP i hi) hk (h1 i hi))
  ·have:=c3F hT ho hb (hQ i hi) e
   rw [h2' i hi] at this
   cases this
 ·rintro ⟨⟨v1,v2⟩,op,⟨l1,l2⟩,⟨s1,s2⟩,ev⟩
  constructor
  ·intro i hi
   rcases op i hi with hk | hf
   ·exact v1 i hi hk
   ·rcases (c4K hf).1 with h | h | h
    ·exact l1 i hi h
    ·exact c3F hT ho hb (hP i hi) h
    ·refine s1 i (List.mem_filter.2 ⟨hi,?_⟩)
     unfold isK
     rw [hf,h]
     simp
  ·intro i hi
   cases hm:Z8 T v i with
   | false=>rfl
   | true =>
     exfalso
     by_cases hk:(ndT T i).Kind=19
     ·rw [v2 i hi hk] at hm; cases hm
     ·have hf:b4I T v.Kind (arV v) i=true:=c43 hT ho hb (hQ i hi) hk hm
      rcases (c4K hf).1 with h | h | h
      ·rw [l2 i hi h] at hm; cases hm
      ·exact ev i hi h
      ·have:=s2 i (List.mem_filter.2 ⟨hi,by unfold isK; rw [hf,h]; simp⟩)
       rw [this] at hm; cases hm
end
end Go.Pl
end
section
namespace Go.Pl
open Go Go.RowKit Go.Sx Go.Qx
section
variable {T:Api_Type}
theorem c6N (K A:Int)(x:Api_TypeNode)(hl:x.Kids.length<=1000):a52 (Core_Sort.mk K A) x=some (b4G K A x):=by
 unfold a52 b4G
 simp only
 rw [a8n (x:=(x.Kids.length:Int)-1) (by omega) (by omega)]
 have key:∀ n m:Int,(bif x.Kind==n then (some (x.Kind==n):Option Bool) else some (x.Kind==m))=some (decide (x.Kind=n\/x.Kind=m)):=fun n m=>by
  by_cases h:x.Kind=n
  ·simp [h]
  ·have:(x.Kind==n)=false:=by simp [h]
   rw [this]
   simp [h]
   by_cases h2:x.Kind=m<;>simp [h2]
 rw [key 4 5,key 6 7]
 simp only [Option.bind_some]
 have step:∀ (n:Int) (a b:Option Bool) (a' b':Bool),a=some a'->b=some b'->(bif x.Kind==n then a else b)=some (if x.Kind=n then a' else b'):=fun n a b a' b' h1 h2=>by
  by_cases h:x.Kind=n
  ·rw [if_pos h,show (x.Kind==n)=true by simp [h],h1]; rfl
  ·rw [if_neg h,show (x.Kind==n)=false by simp [h],h2]; rfl
 have step2:∀ (n m:Int) (a b:Option Bool) (a' b':Bool),a=some a'->b=some b'->(bif decide (x.Kind=n\/x.Kind=m) then a else b)=some (if x.Kind=n\/x.Kind=m then a' else b'):=fun n m a b a' b' h1 h2=>by
  by_cases h:x.Kind=n\/x.Kind=m
  ·rw [if_pos h,decide_eq_true h,h1]; rfl
  ·rw [if_neg h,decide_eq_false h,h2]; rfl
 have and2:∀ a b:Bool,(Option.bind (bif a then some b else some false) fun q:Bool=>some q)=some (a&&b):=fun a b=>by cases a<;>cases b<;>rfl
 exact step 3 _ _ _ _ rfl (step2 4 5 _ _ _ _ rfl (step2 6 7 _ _ _ _ rfl (step 8 _ _ _ _ rfl (step 9 _ _ _ _ rfl (step 12 _ _ _ _ rfl (step 13 _ _ _ _ rfl (step 11 _ _ _ _ rfl (step 10 _ _ _ _ (and2 _ _) (step 15 _ _ _ _ rfl (step 14 _ _ _ _ (and2 _ _) rfl))))))))))
theorem a6u (hT:GT T){i:Int}(h:a0c T i=true):idx T.Nodes i=some (ndT T i)/\(ndT T i).Kids.length<=4:=by
 obtain ⟨j,_,hj,e,ei⟩:=a4B (a6q h)
 exact ⟨ei,(hT.nodes j _ e).kids⟩
def b2a (T:Api_Type)(e:Api_Goal)(K A:Int):Bool:=!(e.Lists&&(K != 5&&K != 7))&&e.Pos.all fun i=>isK T 19 i||b4I T K A i
theorem d14 (hT:GT T){e:Api_Goal}(he:e.Pos.all (a0c T)=true)(hl:e.Pos.length<=1000)(K A:Int):a7E (Core_Sort.mk K A) T e=some (b2a T e K A):=by
 unfold a7E
 have h1:(Option.bind (bif e.Lists then some (K != 5) else some false) fun q1=>Option.bind (bif q1 then some (K != 7) else some false) fun q2 =>
  bif q2 then (some false:Option Bool) else (Option.bind (Z5 e.Pos (fun z3=>Option.bind (a4O z3 T (Core_Sort.mk K A)) fun r4=>some r4)) fun r5=>some (!r5)))=some (b2a T e K A):=by
  have hc:Z5 e.Pos (fun z3=>Option.bind (a4O z3 T (Core_Sort.mk K A)) fun r4=>some r4)=some (e.Pos.any fun i=>!(isK T 19 i||b4I T K A i)):=a6d e.Pos _ _ (by omega) fun i hi=>by
   obtain ⟨h1,h2⟩:=a6u hT (List.all_eq_true.1 he i hi)
   unfold a4O
   rw [h1]
   simp only [Option.bind_some,V2]
   rw [c6N K A _ (by omega)]
   unfold isK b4I
   simp only [bne,Option.bind_some]
   cases (ndT T i).Kind==19<;>simp
  rw [hc]
  unfold b2a
  have ha:(!(e.Pos.any fun i=>!(isK T 19 i||b4I T K A i)))=e.Pos.all fun i=>isK T 19 i||b4I T K A i:=b9w _ _
  simp only [Option.bind_some]
  rw [ha]
  cases e.Lists<;>cases K != 5<;>cases K != 7<;>simp
 exact h1
theorem d1J (hT:GT T){l:List Int}(he:l.all (a0c T)=true)(hl:l.length<=1000)(K A k:Int):a7b (Core_Sort.mk K A) T l k=some (ofZ T K A k l):=by
 unfold a7b
 rw [Y2]
 simp only [V2]
 exact b4D (step:=a6X (Core_Sort.mk K A) T l k) l (fun i=>isK T k i&&b4I T K A i) (fun i s x hx hs=>by
  have hlt:i<l.length:=(List.getElem?_eq_some_iff.1 hx).1
  obtain ⟨h1,h2⟩:=a6u hT (List.all_eq_true.1 he x (List.mem_of_getElem? hx))
  unfold a6X
  simp only
  rw [Z3 hlt,j5 hx]
  simp only [cond_true,Option.bind_some]
  rw [h1,a0M i (by omega)]
  simp only [Option.bind_some,V2]
  rw [c6N K A _ (by omega)]
  unfold isK b4I
  cases (ndT T x).Kind==k
  ·rfl
  ·cases b4G K A (ndT T x)
   ·rfl
   ·simp only [cond_true,Option.bind_some,Bool.and_self,if_true]
    rw [Z6 (by simp only [List.length_cons,List.length_nil]; omega)]
    rfl) (fun s=>by
  unfold a6X
  simp)
theorem d0A (hT:GT T){l:List Int}(he:l.all (a0c T)=true)(hl:l.length<=1000)(k:Int):a6a T l k=some (l.any (isK T k)):=by
 unfold a6a
 rw [a6d l _ (isK T k) (by omega) fun i hi=>by
  obtain ⟨h1,h2⟩:=a6u hT (List.all_eq_true.1 he i hi)
  unfold b5c
  rw [h1]
  rfl]
 rfl
def inI (T:Api_Type)(i n:Int):Bool:=decide ((ndT T i).Lo<=n)&&decide (n<=(ndT T i).Hi)
theorem c4C (hT:GT T){i:Int}(h:a0c T i=true)(hk:(ndT T i).Kind=3):(ndT T i).Lo<=(ndT T i).Hi/\rI (Api_Range.mk (ndT T i).Lo (ndT T i).Hi):=by
 obtain ⟨j,_,hj,e,ei⟩:=a4B (a6q h)
 have hg:=hT.nodes j _ e
 have hn:=hg.ok
 unfold X3 a2T at hn
 simp only [hk,Bool.and_eq_true] at hn
 have h2:=hn.2.2.2.2
 simp at h2
 exact ⟨h2.2,hg.rng⟩
theorem d2F (hT:GT T){e:Api_Goal}(hp:e.Pos.all (a0c T)=true)(hq:e.Neg.all (a0c T)=true)(h1:e.Pos.length<=10)(h2:e.Neg.length<=10) :
 ∃ m,b2d T e=some m/\VR m/\∀ n,-9223372036854775808<=n->n<=9223372036854775807->(a0W m n=((e.Pos.all fun i=>!isK T 3 i||inI T i n)&&e.Neg.all fun i=>!isK T 3 i||!inI T i n))/\m.length<=1024:=by
 unfold b2d b1f
 simp only [Option.bind_some,Y2]
 have hF:VR [Api_Range.mk (-9223372036854775808) 9223372036854775807]:=⟨by simp [rI],by simp,by simp⟩
 obtain ⟨a,e1,k1⟩:=a9S (σ:=List Api_Range) (step:=a6G T e) e.Pos (fun s i=>(s,(i:Int))) (fun i s=>VR s/\s.length<=1/\∀ n,-9223372036854775808<=n->n<=9223372036854775807->a0W s n=(e.Pos.take i).all fun i=>!isK T 3 i||inI T i n) (fun s=>s)
  (fun i s x hx hI=>by
    have hlt:i<e.Pos.length:=(List.getElem?_eq_some_iff.1 hx).1
    have hb:=List.all_eq_true.1 hp x (List.mem_of_getElem? hx)
    obtain ⟨g1,g2⟩:=a6u hT hb
    unfold a6G
    simp only
    rw [Z3 hlt,j5 hx]
    simp only [cond_true,Option.bind_some]
    rw [g1,a0M i (by omega)]
    simp only [Option.bind_some]
    by_cases hk:(ndT T x).Kind=3
    ·obtain ⟨n1,n2⟩:=c4C hT hb hk
     rw [show ((ndT T x).Kind==3)=true by simp [hk]]
     simp only [cond_true]
     obtain ⟨m,m1,m2,m3,m4⟩:=b8z s [Api_Range.mk (ndT T x).Lo (ndT T x).Hi] (by simp only [List.length_cons,List.length_nil]; omega) (by omega) (by simp) hI.1.i (by intro r hr; rw [List.mem_singleton] at hr; subst hr; exact n2)
     rw [m1]
     refine ⟨m,rfl,m2,by simp only [List.length_cons,List.length_nil] at m4; omega,fun n a1 a2=>?_⟩
     rw [m3,hI.2.2 n a1 a2,a08 hx,List.all_append]
     simp [a0W,a7a,isK,hk,inI]
    ·have hk':((ndT T x).Kind==3)=false:=by simp [hk]
     rw [hk']
     refine ⟨s,rfl,hI.1,hI.2.1,fun n a1 a2=>?_⟩
     rw [hI.2.2 n a1 a2,a08 hx,List.all_append]
     simp [isK,hk']) (fun s _=>by
    unfold a6G
    simp) [Api_Range.mk (-9223372036854775808) 9223372036854775807] ⟨hF,by simp,fun n a1 a2=>by simp [a0W,a7a,a1,a2]⟩ _ (Nat.le_refl _)
 have e1':iter (a6G T e) (e.Pos.length+1) (([Api_Range.mk (-9223372036854775808) 9223372036854775807]:List Api_Range),0)=_:=e1
 rw [e1']
 simp only [Option.bind_some]
 obtain ⟨b,e2,k2⟩:=a9S (σ:=List Api_Range) (step:=a6H T e) e.Neg (fun s i=>(s,(i:Int))) (fun i s=>VR s/\s.length<=2^i/\∀ n,-9223372036854775808<=n->n<=9223372036854775807->a0W s n=(a0W a n&&(e.Neg.take i).all fun i=>!isK T 3 i||!inI T i n)) (fun s=>s)
  (fun i s x hx hI=>by
    have hlt:i<e.Neg.length:=(List.getElem?_eq_some_iff.1 hx).1
    have hb:=List.all_eq_true.1 hq x (List.mem_of_getElem? hx)
    obtain ⟨g1,g2⟩:=a6u hT hb
    have h2i:2^i<=2^10:=Nat.pow_le_pow_right (by omega) (by omega)
    have h10:2^10=1024:=by decide
    have hI2:=hI.2.1
    unfold a6H
    simp only
    rw [Z3 hlt,j5 hx]
    simp only [cond_true,Option.bind_some]
    rw [g1,a0M i (by omega)]
    simp only [Option.bind_some]
    by_cases hk:(ndT T x).Kind=3
    ·obtain ⟨n1,n2⟩:=c4C hT hb hk
     rw [show ((ndT T x).Kind==3)=true by simp [hk]]
     simp only [cond_true]
     obtain ⟨c,c1,c2,c3,c4⟩:=c2G (Api_Range.mk (ndT T x).Lo (ndT T x).Hi) n1 n2
     rw [c1]
     simp only [Option.bind_some]
     have hsc:s.length*c.length<=2^i*2:=Nat.mul_le_mul hI2 c4
     obtain ⟨m,m1,m2,m3,m4⟩:=b8z s c (by omega) (by omega) (by omega) hI.1.i c2
     rw [m1]
     refine ⟨m,rfl,m2,by rw [Nat.pow_succ]; omega,fun n a1 a2=>?_⟩
     rw [m3,hI.2.2 n a1 a2,a08 hx,List.all_append,c3 n a1 a2,Bool.and_assoc]
     simp [a7a,isK,hk,inI]
    ·have hk':((ndT T x).Kind==3)=false:=by simp [hk]
     rw [hk']
     refine ⟨s,rfl,hI.1,by rw [Nat.pow_succ]; omega,fun n a1 a2=>?_⟩
     rw [hI.2.2 n a1 a2,a08 hx,List.all_append]
     simp [isK,hk']) (fun s _=>by
    unfold a6H
    simp) a ⟨k1.1,by have:=k1.2.1; omega,fun n _ _=>by simp⟩ _ (Nat.le_refl _)
 have e2':iter (a6H T e) (e.Neg.length+1) (a,0)=_:=e2
 rw [e2']
 refine ⟨b,rfl,k2.1,fun n a1 a2=>⟨?_,?_⟩⟩
 ·rw [k2.2.2 n a1 a2,k1.2.2 n a1 a2,List.take_length,List.take_length]
 ·exact Nat.le_trans k2.2.1 (Nat.pow_le_pow_right (n:=2) (by omega) h2)
def isT (T:Api_Type)(i:Int)(s:ByteArray):Bool:=Y0 (ndT T i).Text s
theorem c7f (x s:ByteArray):inL (srS [x]) s=Y0 x s:=by
 rw [b5I]
 unfold inL
 simp
theorem c8Y (hT:GT T){e:Api_Goal}(hp:e.Pos.all (a0c T)=true)(hq:e.Neg.all (a0c T)=true)(h1:e.Pos.length<=10)(h2:e.Neg.length<=10)(k:Int)(n:Nat)(hn:5000000<=n) :
 ∃ m,a8l n T e k=some m/\asc cS m.List_=true/\(∀ s,a54 m s=((e.Pos.all fun i=>!isK T k i||isT T i s)&&e.Neg.all fun i=>!isK T k i||!isT T i s))/\m.List_.length<=100:=by
 unfold a8l
 rw [b4V _ (by simp)]
 simp only [Option.bind_some,Y2]
 obtain ⟨a,e1,k1⟩:=a9S (σ:=Api_Names) (step:=a5T T e k n) e.Pos (fun s i=>((i:Int),s)) (fun i m=>asc cS m.List_=true/\m.List_.length<=i/\∀ s,a54 m s=(e.Pos.take i).all fun i=>!isK T k i||isT T i s) (fun s=>s)
  (fun i m x hx hI=>by
    have hlt:i<e.Pos.length:=(List.getElem?_eq_some_iff.1 hx).1
    have hb:=List.all_eq_true.1 hp x (List.mem_of_getElem? hx)
    obtain ⟨g1,g2⟩:=a6u hT hb
    unfold a5T
    simp only
    rw [Z3 hlt,j5 hx]
    simp only [cond_true,Option.bind_some]
    rw [g1,a0M i (by omega)]
    simp only [Option.bind_some]
    by_cases hk:(ndT T x).Kind=k
    ·rw [show ((ndT T x).Kind==k)=true by simp [hk]]
     simp only [cond_true]
     rw [b3Y _ (by simp)]
     simp only [Option.bind_some]
     have hl1:=a7A [(ndT T x).Text]
     simp only [List.length_cons,List.length_nil] at hl1
     obtain ⟨y,y1,y2,y3,y4⟩:=c3g m (Api_Names.mk false (srS [(ndT T x).Text])) (by have:=hI.2.1; omega) (by simp only; omega) n hn
     rw [y1]
     refine ⟨y,rfl,y2,by simp only at y4; have:=hI.2.1; omega,fun s=>?_⟩
     rw [y3,hI.2.2 s,a08 hx,List.all_append]
     have:a54 (Api_Names.mk false (srS [(ndT T x).Text])) s=isT T x s:=by
      unfold a54 isT
      simp only [c7f]
      cases Y0 (ndT T x).Text s<;>rfl
     rw [this]
     simp [isK,hk]
    ·have hk':((ndT T x).Kind==k)=false:=by simp [hk]
     rw [hk']
     refine ⟨m,rfl,hI.1,by have:=hI.2.1; omega,fun s=>?_⟩
     rw [hI.2.2 s,a08 hx,List.all_append]
     simp [isK,hk']) (fun s _=>by
    unfold a5T
    simp) (Api_Names.mk true (srS [])) ⟨a7I _,by simp [srS],fun s=>by simp [a54,inL,srS]⟩ _ (Nat.le_refl _)
 have e1':iter (a5T T e k n) (e.Pos.length+1) (0,Api_Names.mk true (srS []))=_:=e1
 rw [e1']
 simp only [Option.bind_some]
 obtain ⟨b,e2,k2⟩:=a9S (σ:=Api_Names) (step:=a5V T e k n) e.Neg (fun s i=>((i:Int),s)) (fun i m=>asc cS m.List_=true/\m.List_.length<=10+i/\∀ s,a54 m s=(a54 a s&&(e.Neg.take i).all fun i=>!isK T k i||!isT T i s)) (fun s=>s)
  (fun i m x hx hI=>by
    have hlt:i<e.Neg.length:=(List.getElem?_eq_some_iff.1 hx).1
    have hb:=List.all_eq_true.1 hq x (List.mem_of_getElem? hx)
    obtain ⟨g1,g2⟩:=a6u hT hb
    unfold a5V
    simp only
    rw [Z3 hlt,j5 hx]
    simp only [cond_true,Option.bind_some]
    rw [g1,a0M i (by omega)]
    simp only [Option.bind_some]
    by_cases hk:(ndT T x).Kind=k
    ·rw [show ((ndT T x).Kind==k)=true by simp [hk]]
     simp only [cond_true]
     rw [b4V _ (by simp)]
     simp only [Option.bind_some]
     have hl1:=a7A [(ndT T x).Text]
     simp only [List.length_cons,List.length_nil] at hl1
     obtain ⟨y,y1,y2,y3,y4⟩:=c3g m (Api_Names.mk true (srS [(ndT T x).Text])) (by have:=hI.2.1; omega) (by simp only; omega) n hn
     rw [y1]
     refine ⟨y,rfl,y2,by simp only at y4; have:=hI.2.1; omega,fun s=>?_⟩
     rw [y3,hI.2.2 s,a08 hx,List.all_append]
     have:a54 (Api_Names.mk true (srS [(ndT T x).Text])) s=!isT T x s:=by
      unfold a54 isT
      simp only [c7f]
      cases Y0 (ndT T x).Text s<;>rfl
     rw [this,Bool.and_assoc]
     simp [isK,hk]
    ·have hk':((ndT T x).Kind==k)=false:=by simp [hk]
     rw [hk']
     refine ⟨m,rfl,hI.1,by have:=hI.2.1; omega,fun s=>?_⟩
     rw [hI.2.2 s,a08 hx,List.all_append]
     simp [isK,hk']) (fun s _=>by
    unfold a5V
    simp) a ⟨k1.1,by have:=k1.2.1; omega,fun s=>by simp⟩ _ (Nat.le_refl _)
 have e2':iter (a5V T e k n) (e.Neg.length+1) (0,a)=_:=e2
 rw [e2']
 refine ⟨b,rfl,k2.1,fun s=>?_,by have:=k2.2.1; omega⟩
 rw [k2.2.2 s,k1.2.2 s,List.take_length,List.take_length]
end
end Go.Pl
end
section
namespace Go.Pl
open Go Go.RowKit Go.Sx Go.Qx
section
variable {T:Api_Type}
def spI (T:Api_Type)(e:Api_Goal)(n:Int):Bool:=(e.Pos.all fun i=>!isK T 3 i||inI T i n)&&e.Neg.all fun i=>!isK T 3 i||!inI T i n
def spN (T:Api_Type)(e:Api_Goal)(k:Int)(s:ByteArray):Bool:=(e.Pos.all fun i=>!isK T k i||isT T i s)&&e.Neg.all fun i=>!isK T k i||!isT T i s
def i64 (n:Int):Prop := -9223372036854775808<=n/\n<=9223372036854775807
structure LineZ (T:Api_Type)(e:Api_Goal)(K A:Int)(l:Api_Line):Prop where
 kind:l.Kind=K
 ar:l.Arity=A
 op:b2a T e K A=true
 ints1:K=1->VR l.Ints/\l.Ints≠[]/\(∀ n,i64 n->a0W l.Ints n=spI T e n)/\l.Ints.length<=1024
 ints0:K≠1->l.Ints=[]
 nam1:K=2\/K=3->asc cS l.Names.List_=true/\(l.Names.Cofinite=true\/l.Names.List_≠[])/\(∀ s,a54 l.Names s=spN T e (lkK K) s)/\l.Names.List_.length<=100
 nam0:K≠2->K≠3->l.Names=Api_Names.mk false []
 pos:l.Pos=ofZ T K A (skK K) e.Pos
 neg:l.Neg=ofZ T K A (skK K) e.Neg
 ev:e.Neg.any (isK T (ekK K))=false
def c0E (T:Api_Type)(e:Api_Goal)(K A:Int):Prop :=
 b2a T e K A=false\/e.Neg.any (isK T (ekK K))=true\/(K=1/\∀ n,i64 n->spI T e n=false)\/((K=2\/K=3)/\∀ s,spN T e (lkK K) s=false)
theorem d1D (hT:GT T){i:Int}(h:a0c T i=true):isK T 0 i=false:=by
 obtain ⟨j,_,_,_,_,hk⟩:=a7B hT h
 unfold isK
 rw [beq_eq_false_iff_ne]
 omega
theorem of0 (hT:GT T){l:List Int}(h:l.all (a0c T)=true)(K A:Int):ofZ T K A 0 l=[]:=by
 unfold ofZ
 rw [List.filter_eq_nil_iff]
 intro i hi
 rw [d1D hT (List.all_eq_true.1 h i hi)]
 simp
theorem ev0 (hT:GT T){l:List Int}(h:l.all (a0c T)=true):l.any (isK T 0)=false:=by
 rw [List.any_eq_false]
 intro i hi
 rw [d1D hT (List.all_eq_true.1 h i hi)]
 simp
theorem d16 (hT:GT T){L:Bool}{e:Api_Goal}(he:NG T L e)(K A:Int)(hK:K=1\/K=2\/K=3\/K=4\/K=5\/K=6\/K=7\/K=8\/K=9)(n:Nat)(hn:5000000<=n) :
 ∃ l ok,a9t n T e (Core_Sort.mk K A)=some (l,ok)/\(ok=true->LineZ T e K A l)/\(ok=false->c0E T e K A):=by
 obtain ⟨l1,l2⟩:=he.lens hT
 have hp:=he.pos
 have hq:=he.neg
 unfold a9t
 rw [d14 hT hp (by omega) K A]
 simp only [Option.bind_some]
 cases ho:b2a T e K A with
 | false =>
   exact ⟨_,false,rfl,(fun h=>by cases h),fun _=>.inl ho⟩
 | true =>
   simp only [Bool.not_true,cond_false]
   have hN:=fun k=>c8Y hT hp hq l1 l2 k n hn
   have hI:=d2F hT hp hq l1 l2
   have hH:=fun k=>d0A hT hq (by omega:e.Neg.length<=1000) k
   have hP:=fun k=>d1J hT hp (by omega:e.Pos.length<=1000) K A k
   have hQ:=fun k=>d1J hT hq (by omega:e.Neg.length<=1000) K A k
   have p0:=fun K A=>of0 hT hp K A
   have q0:=fun K A=>of0 hT hq K A
   have v0:=ev0 hT hq
   have nam:∀ (K':Int) (m:Api_Names),(∀ s,a54 m s=spN T e (lkK K') s)->(K'=2\/K'=3)->m.Cofinite=false->m.List_.length=0->c0E T e K' A:=fun K' m hm hK' hc hl=>by
    refine .inr (.inr (.inr ⟨hK',fun s=>?_⟩))
    rw [<- hm s]
    unfold a54 inL
    rw [hc,List.eq_nil_of_length_eq_zero hl]
    rfl
   rcases hK with rfl | rfl | rfl | rfl | rfl | rfl | rfl | rfl | rfl<;>simp only [Int.reduceBEq,cond_true,cond_false,Option.bind_some]
   ·obtain ⟨m,m1,m2,m3⟩:=hI
    rw [m1]
    refine ⟨_,_,rfl,fun h=>⟨rfl,rfl,ho,fun _=>⟨m2,?_,fun n hn=>(m3 n hn.1 hn.2).1,(m3 0 (by omega) (by omega)).2⟩,fun h=>absurd rfl h,(fun h=>by omega),fun _ _=>rfl,(p0 1 A).symm,(q0 1 A).symm,v0⟩,fun h=>?_⟩
    ·intro e0
     have h0:decide (0<(m.length:Int))=true:=h
     have e0':m=[]:=e0
     rw [e0'] at h0
     simp at h0
    ·have h0:decide (0<(m.length:Int))=false:=h
     have:m=[]:=List.eq_nil_of_length_eq_zero (by simpa using h0)
     refine .inr (.inr (.inl ⟨rfl,fun n hn=>?_⟩))
     have:=(m3 n hn.1 hn.2).1
     rw [‹m=[]›] at this
     exact this.symm
   ·obtain ⟨m,m1,m2,m3,m4⟩:=hN 4
    rw [m1,hH 5]
    simp only [Option.bind_some]
    cases hv:e.Neg.any (isK T 5) with
    | true=>exact ⟨_,false,rfl,(fun h=>by cases h),fun _=>.inr (.inl hv)⟩
    | false =>
      have fin:∀ l:Api_Line,l=Api_Line.mk 2 A [] (Api_Names.mk m.Cofinite m.List_) [] [] [] []->(m.Cofinite=true\/m.List_≠[])->LineZ T e 2 A l:=fun l hl hne=>by
       subst hl
       exact ⟨rfl,rfl,ho,(fun h=>by omega),fun _=>rfl,fun _=>⟨m2,hne,m3,m4⟩,fun h=>absurd rfl h,(p0 2 A).symm,(q0 2 A).symm,hv⟩
      simp only [Bool.not_false,cond_true]
      cases hc:m.Cofinite with
      | true=>exact ⟨_,true,rfl,fun _=>fin _ (by rw [hc]) (.inl hc),fun h=>by cases h⟩
      | false =>
        refine ⟨_,_,rfl,fun h=>fin _ (by rw [hc]) (.inr fun e0=>?_),fun h=>nam 2 m m3 (.inl rfl) hc ?_⟩
        ·have h0:decide (0<(m.List_.length:Int))=true:=h
         rw [e0] at h0
         simp at h0
        ·have h0:decide (0<(m.List_.length:Int))=false:=h
         rw [decide_eq_false_iff_not] at h0
         omega
   ·obtain ⟨m,m1,m2,m3,m4⟩:=hN 6
    rw [m1,hH 7]
    simp only [Option.bind_some]
    cases hv:e.Neg.any (isK T 7) with
    | true=>exact ⟨_,false,rfl,(fun h=>by cases h),fun _=>.inr (.inl hv)⟩
    | false =>
      have fin:∀ l:Api_Line,l=Api_Line.mk 3 A [] (Api_Names.mk m.Cofinite m.List_) [] [] [] []->(m.Cofinite=true\/m.List_≠[])->LineZ T e 3 A l:=fun l hl hne=>by
       subst hl
       exact ⟨rfl,rfl,ho,(fun h=>by omega),fun _=>rfl,fun _=>⟨m2,hne,m3,m4⟩,fun _ h=>absurd rfl h,(p0 3 A).symm,(q0 3 A).symm,hv⟩
      simp only [Bool.not_false,cond_true]
      cases hc:m.Cofinite with
      | true=>exact ⟨_,true,rfl,fun _=>fin _ (by rw [hc]) (.inl hc),fun h=>by cases h⟩
      | false =>
        refine ⟨_,_,rfl,fun h=>fin _ (by rw [hc]) (.inr fun e0=>?_),fun h=>nam 3 m m3 (.inr rfl) hc ?_⟩
        ·have h0:decide (0<(m.List_.length:Int))=true:=h
         rw [e0] at h0
         simp at h0
        ·have h0:decide (0<(m.List_.length:Int))=false:=h
         rw [decide_eq_false_iff_not] at h0
         omega
   ·rw [hH 8]
    simp only [Option.bind_some,onEnd]
    cases hv:e.Neg.any (isK T 8) with
    | true=>exact ⟨_,false,rfl,(fun h=>by cases h),fun _=>.inr (.inl hv)⟩
    | false=>exact ⟨_,true,rfl,fun _=>⟨rfl,rfl,ho,(fun h=>by omega),fun _=>rfl,(fun h=>by omega),fun _ _=>rfl,(p0 4 A).symm,(q0 4 A).symm,hv⟩,fun h=>by cases h⟩
   ·rw [hH 9]
    simp only [Option.bind_some,onEnd]
    cases hv:e.Neg.any (isK T 9) with
    | true=>exact ⟨_,false,rfl,(fun h=>by cases h),fun _=>.inr (.inl hv)⟩
    | false=>exact ⟨_,true,rfl,fun _=>⟨rfl,rfl,ho,(fun h=>by omega),fun _=>rfl,(fun h=>by omega),fun _ _=>rfl,(p0 5 A).symm,(q0 5 A).symm,hv⟩,fun h=>by cases h⟩
   ·simp only [onEnd]
    rw [hP 10,hQ 10,hH 11]
    simp only [Option.bind_some,Int.reduceBEq,cond_false]
    cases hv:e.Neg.any (isK T 11) with
    | true=>exact ⟨_,false,rfl,(fun h=>by cases h),fun _=>.inr (.inl hv)⟩
    | false=>exact ⟨_,true,rfl,fun _=>⟨rfl,rfl,ho,(fun h=>by omega),fun _=>rfl,(fun h=>by omega),fun _ _=>rfl,rfl,rfl,hv⟩,fun h=>by cases h⟩
   ·simp only [onEnd]
    rw [hP 12,hQ 12]
    simp only [Option.bind_some,Int.reduceBEq,cond_true]
    exact ⟨_,true,rfl,fun _=>⟨rfl,rfl,ho,(fun h=>by omega),fun _=>rfl,(fun h=>by omega),fun _ _=>rfl,rfl,rfl,v0⟩,fun h=>by cases h⟩
   ·simp only [onEnd]
    rw [hP 13,hQ 13]
    simp only [Option.bind_some,Int.reduceBEq,cond_true]
    exact ⟨_,true,rfl,fun _=>⟨rfl,rfl,ho,(fun h=>by omega),fun _=>rfl,(fun h=>by omega),fun _ _=>rfl,rfl,rfl,v0⟩,fun h=>by cases h⟩
   ·simp only [onEnd]
    rw [hP 14,hQ 14,hH 15]
    simp only [Option.bind_some,Int.reduceBEq,cond_false]
    cases hv:e.Neg.any (isK T 15) with
    | true=>exact ⟨_,false,rfl,(fun h=>by cases h),fun _=>.inr (.inl hv)⟩
    | false=>exact ⟨_,true,rfl,fun _=>⟨rfl,rfl,ho,(fun h=>by omega),fun _=>rfl,(fun h=>by omega),fun _ _=>rfl,rfl,rfl,hv⟩,fun h=>by cases h⟩
def a1Q:List Core_Sort:=[Core_Sort.mk 1 0,Core_Sort.mk 2 0,Core_Sort.mk 3 0,Core_Sort.mk 4 0,Core_Sort.mk 5 0,Core_Sort.mk 7 0,Core_Sort.mk 8 0,Core_Sort.mk 6 0,Core_Sort.mk 9 0,Core_Sort.mk 6 1,Core_Sort.mk 9 1,Core_Sort.mk 6 2,Core_Sort.mk 9 2,Core_Sort.mk 6 3,Core_Sort.mk 9 3,Core_Sort.mk 6 4,Core_Sort.mk 9 4]
theorem c94:b6J=some a1Q:=by kernel_rfl
theorem b64 {s:Core_Sort}(h:s∈a1Q):(s.Kind=1\/s.Kind=2\/s.Kind=3\/s.Kind=4\/s.Kind=5\/s.Kind=6\/s.Kind=7\/s.Kind=8\/s.Kind=9)/\(s.Kind=6\/s.Kind=9\/s.Arity=0):=by
 unfold a1Q at h
 simp only [List.mem_cons,List.not_mem_nil,or_false] at h
 rcases h with rfl | rfl | rfl | rfl | rfl | rfl | rfl | rfl | rfl | rfl | rfl | rfl | rfl | rfl | rfl | rfl | rfl<;>simp
theorem c9d {K A:Int}(h:((K=1\/K=2\/K=3\/K=4\/K=5\/K=7\/K=8)/\A=0)\/((K=6\/K=9)/\0<=A/\A<=4)):Core_Sort.mk K A∈a1Q:=by
 rcases h with ⟨h,rfl⟩ | ⟨h,h0,h4⟩
 ·rcases h with rfl | rfl | rfl | rfl | rfl | rfl | rfl<;>simp [a1Q]
 ·have hA:A=0\/A=1\/A=2\/A=3\/A=4:=by omega
  rcases h with rfl | rfl<;>rcases hA with rfl | rfl | rfl | rfl | rfl<;>simp [a1Q]
def a4E (l:Api_Line)(a b:List ByteArray):Api_Line:=Api_Line.mk l.Kind l.Arity l.Ints l.Names l.Pos l.Neg a b
def a8j (T:Api_Type)(e:Api_Goal):Bool:=!a87 e.Pos e.Neg&&!b2j (srS (Z9 T e.Pos)) (srS (Z9 T e.Neg))
def Mk (T:Api_Type)(e:Api_Goal)(l:Api_Line):Prop:=a8j T e=true/\∃ (s:Core_Sort) (l0:Api_Line),s∈a1Q/\LineZ T e s.Kind s.Arity l0/\l=a4E l0 (srS (Z9 T e.Pos)) (srS (Z9 T e.Neg))
structure LinesZ (T:Api_Type)(out:List Api_Goal)(ls:List Api_Line):Prop where
 len:ls.length<=17*out.length
 src:∀ l∈ls,∃ e∈out,Mk T e l
 all:∀ e∈out,a8j T e=true->∀ s∈a1Q,(∃ l∈ls,∃ l0,LineZ T e s.Kind s.Arity l0/\l=a4E l0 (srS (Z9 T e.Pos)) (srS (Z9 T e.Neg)))\/c0E T e s.Kind s.Arity
theorem a6h (l:List Int):(srS (Z9 T l)).length<=l.length:=by
 refine Nat.le_trans (a7A _) ?_
 unfold Z9
 rw [List.length_map]
 exact List.length_filter_le _ _
theorem c9a (hT:GT T){L:Bool}{e:Api_Goal}(he:NG T L e)(ha:a8j T e=true)(n:Nat)(hn:5000000<=n)(s0:List Api_Line)(h0:s0.length<=20000000) :
 ∃ ls,iter (a4x T n e (srS (Z9 T e.Pos)) (srS (Z9 T e.Neg)) a1Q) ((a1Q.length:Int).toNat+1) (s0,0)=some (s0++ls)/\ls.length<=17/\(∀ l∈ls,Mk T e l) /\
  ∀ s∈a1Q,(∃ l∈ls,∃ l0,LineZ T e s.Kind s.Arity l0/\l=a4E l0 (srS (Z9 T e.Pos)) (srS (Z9 T e.Neg)))\/c0E T e s.Kind s.Arity:=by
 obtain ⟨l1,l2⟩:=he.lens hT
 have v1:=a6h (T:=T) e.Pos
 have v2:=a6h (T:=T) e.Neg
 have hlen:a1Q.length=17:=rfl
 obtain ⟨s,e1,k1,k2,k3⟩:=a9S (σ:=List Api_Line) (step:=a4x T n e (srS (Z9 T e.Pos)) (srS (Z9 T e.Neg)) a1Q) a1Q (fun s i=>(s0++s,(i:Int))) (fun i s=>s.length<=i/\(∀ l∈s,Mk T e l) /\
  ∀ q∈a1Q.take i,(∃ l∈s,∃ l0,LineZ T e q.Kind q.Arity l0/\l=a4E l0 (srS (Z9 T e.Pos)) (srS (Z9 T e.Neg)))\/c0E T e q.Kind q.Arity) (fun s=>s0++s)
  (fun i s q hx ⟨i1,i2,i3⟩=>by
    have hlt:i<a1Q.length:=(List.getElem?_eq_some_iff.1 hx).1
    have hq:=List.mem_of_getElem? hx
    obtain ⟨l,ok,o1,o2,o3⟩:=d16 hT he q.Kind q.Arity (b64 hq).1 n hn
    unfold a4x
    simp only
    rw [Z3 hlt,j5 hx]
    simp only [cond_true,Option.bind_some]
    have o1':a9t n T e q=some (l,ok):=o1
    rw [o1',a0M i (by omega)]
    simp only [Option.bind_some]
    cases ok with
    | false =>
      refine ⟨s,rfl,by omega,i2,fun q' hq'=>?_⟩
      rw [a08 hx] at hq'
      rcases List.mem_append.1 hq' with hq' | hq'
      ·exact i3 q' hq'
      ·rw [List.mem_singleton] at hq'; subst hq'
       exact .inr (o3 rfl)
    | true =>
      have hl:=o2 rfl
      simp only [cond_true]
      unfold a0n
      rw [Z6 (by omega),Z6 (by omega)]
      simp only [Option.bind_some]
      rw [Z6 (by simp only [List.length_append,List.length_cons,List.length_nil]; omega)]
      refine ⟨s++[a4E l (srS (Z9 T e.Pos)) (srS (Z9 T e.Neg))],by rw [<- List.append_assoc]; rfl,by simp only [List.length_append,List.length_cons,List.length_nil]; omega,fun l' hl'=>?_,fun q' hq'=>?_⟩
      ·rcases List.mem_append.1 hl' with hl' | hl'
       ·exact i2 l' hl'
       ·rw [List.mem_singleton] at hl'; subst hl'
        exact ⟨ha,q,l,hq,hl,rfl⟩
      ·rw [a08 hx] at hq'
       rcases List.mem_append.1 hq' with hq' | hq'
       ·rcases i3 q' hq' with ⟨l',a,b⟩ | h
        ·exact .inl ⟨l',by simp [a],b⟩
        ·exact .inr h
       ·rw [List.mem_singleton] at hq'; subst hq'
        exact .inl ⟨_,List.mem_append_right _ (List.mem_singleton.2 rfl),l,hl,rfl⟩) (fun s _=>by
    unfold a4x
    simp) [] ⟨by simp,by simp,by simp⟩ _ (Nat.le_refl _)
 refine ⟨s,?_,by omega,k2,fun q hq=>k3 q (by rw [List.take_length]; exact hq)⟩
 have e1':iter (a4x T n e (srS (Z9 T e.Pos)) (srS (Z9 T e.Neg)) a1Q) (a1Q.length+1) (s0++[],0)=_:=e1
 rw [List.append_nil] at e1'
 exact e1'
theorem c7H (hT:GT T){L:Bool}(out:List Api_Goal)(hg:∀ e∈out,NG T L e)(hl:out.length<=1048576)(n:Nat)(hn:5000000<=n) :
 ∃ ls,iter (a5P T n out) ((out.length:Int).toNat+1) ([],0)=some ls/\LinesZ T out ls:=by
 rw [Y2]
 obtain ⟨s,e1,k1,k2,k3⟩:=a9S (σ:=List Api_Line) (step:=a5P T n out) out (fun s i=>(s,(i:Int))) (fun i s=>s.length<=17*i/\(∀ l∈s,∃ e∈out,Mk T e l) /\
  ∀ e∈out.take i,a8j T e=true->∀ q∈a1Q,(∃ l∈s,∃ l0,LineZ T e q.Kind q.Arity l0/\l=a4E l0 (srS (Z9 T e.Pos)) (srS (Z9 T e.Neg)))\/c0E T e q.Kind q.Arity) (fun s=>s)
  (fun i s e hx ⟨i1,i2,i3⟩=>by
    have hlt:i<out.length:=(List.getElem?_eq_some_iff.1 hx).1
    have hm:=List.mem_of_getElem? hx
    have he:=hg e hm
    obtain ⟨l1,l2⟩:=he.lens hT
    have v1:=a6h (T:=T) e.Pos
    have v2:=a6h (T:=T) e.Neg
    unfold a5P
    simp only
    rw [Z3 hlt,j5 hx]
    simp only [cond_true,Option.bind_some]
    rw [c5N e.Pos (by omega) fun i hi=>a6q (List.all_eq_true.1 he.pos i hi),c5N e.Neg (by omega) fun i hi=>a6q (List.all_eq_true.1 he.neg i hi),a0M i (by omega)]
    simp only [Option.bind_some]
    rw [d2t e.Pos e.Neg (by omega) (by omega),d0r _ _ (by omega) (by omega)]
    simp only [Option.bind_some]
    have hb:(bif a87 e.Pos e.Neg then some true else some (b2j (srS (Z9 T e.Pos)) (srS (Z9 T e.Neg))))=some (!a8j T e):=by
     unfold a8j
     cases a87 e.Pos e.Neg<;>cases b2j (srS (Z9 T e.Pos)) (srS (Z9 T e.Neg))<;>rfl
    rw [hb]
    simp only [Option.bind_some]
    cases ha:a8j T e with
    | false =>
      refine ⟨s,rfl,by omega,i2,fun e' he' ha'=>?_⟩
      rw [a08 hx] at he'
      rcases List.mem_append.1 he' with he' | he'
      ·exact i3 e' he' ha'
      ·rw [List.mem_singleton] at he'; subst he'
       rw [ha] at ha'; cases ha'
    | true =>
      simp only [Bool.not_true,cond_false]
      rw [c94]
      simp only [Option.bind_some]
      obtain ⟨ls,a1,a2,a3,a4⟩:=c9a hT he ha n hn s (by omega)
      rw [a1]
      refine ⟨s++ls,rfl,by rw [List.length_append]; omega,fun l hl=>?_,fun e' he' ha' q hq=>?_⟩
      ·rcases List.mem_append.1 hl with hl | hl
       ·exact i2 l hl
       ·exact ⟨e,hm,a3 l hl⟩
      ·rw [a08 hx] at he'
       rcases List.mem_append.1 he' with he' | he'
       ·rcases i3 e' he' ha' q hq with ⟨l',a,b⟩ | h
        ·exact .inl ⟨l',by simp [a],b⟩
        ·exact .inr h
       ·rw [List.mem_singleton] at he'; subst he'
        rcases a4 q hq with ⟨l',a,b⟩ | h
        ·exact .inl ⟨l',by simp [a],b⟩
        ·exact .inr h) (fun s _=>by
    unfold a5P
    simp) [] ⟨by simp,by simp,by simp⟩ _ (Nat.le_refl _)
 exact ⟨s,e1,k1,k2,fun e he=>k3 e (by rw [List.take_length]; exact he)⟩
theorem c4N (hT:GT T)(hN:T.Nodes.length<=8)(hr:inR T.Nodes.length T.Root=true)(g:Api_Goal)(hg:gIn T.Nodes.length g=true)(hl:g.Pos.length+g.Neg.length<=10) :
 ∃ c out,ExpZ T g out/\∀ n,c<=n->∃ ls,a6J n T g=some ls/\LinesZ T out ls:=by
 obtain ⟨c,out,h1,h2⟩:=c35 hT hN g hg hl
 refine ⟨max c 5000000,out,h2,fun n hn=>?_⟩
 obtain ⟨ls,h3,h4⟩:=c7H hT out h2.ng h2.len n (by omega)
 refine ⟨ls,?_,h4⟩
 unfold a6J
 rw [wf0 hT hr n (by omega),c3C g (by omega) (by omega),hg]
 simp only [Option.bind_some,bne_self_eq_false,cond_false,Bool.not_true]
 rw [h1 n (by omega)]
 simp only [Option.bind_some]
 rw [h3]
 rfl
end
end Go.Pl
end
section
namespace Go.Pl
open Go Go.RowKit Go.Sx Go.Qx
section
variable {T:Api_Type}{v:Val}
def c2T (v:Val)(L:Bool):Bool:=!L||(v.Kind==5||v.Kind==7)
def gA (T:Api_Type)(v:Val)(g:Api_Goal):Bool:=gIn T.Nodes.length g&&(c2T v g.Lists&&gM T v g)
theorem d0o (hT:GT T)(ho:vOK v=true)(hb:j9 v<=2097152)(p q:List Int)(hp:p.all (inR T.Nodes.length)=true)(hq:q.all (inR T.Nodes.length)=true)(h1:p.length<=1000000)(h2:q.length<=1000000)(f:Nat)(hf:200000000<=f) :
 b0r f v T p q=some (p.all (Z8 T v)&&q.all fun k=>!Z8 T v k):=by
 unfold b0r
 rw [a6d p _ (fun k=>!Z8 T v k) (by omega) fun k hk=>by
  unfold b1y
  simp only [V2]
  rw [(d3z hT ho hb f hf (List.all_eq_true.1 hp k hk)).1]
  rfl]
 simp only [Option.bind_some]
 rw [b9w]
 cases hp:p.all (Z8 T v)
 ·rfl
 ·simp only [cond_true]
  rw [a6d q _ (fun k=>Z8 T v k) (by omega) fun k hk=>by
   unfold b1d
   simp only [V2]
   exact (d3z hT ho hb f hf (List.all_eq_true.1 hq k hk)).1]
  simp only [Option.bind_some,Bool.true_and]
  congr 1
  rw [<- b9w]
  simp
theorem c2f (hT:GT T)(hr:inR T.Nodes.length T.Root=true)(ho:vOK v=true)(hb:j9 v<=2097152)(g:Api_Goal)(h1:g.Pos.length<=1000000)(h2:g.Neg.length<=1000000)(f:Nat)(hf:200000000<=f) :
 a4M f v T g=some (gA T v g):=by
 unfold a4M gA
 rw [c6b f v (by omega) (by omega),ho,wf0 hT hr f (by omega),c3C g h1 h2]
 simp only [if_true,Option.bind_some,bne_self_eq_false,cond_false]
 cases hg:gIn T.Nodes.length g with
 | false=>rfl
 | true =>
   have hg':=hg
   unfold gIn at hg'
   simp only [Bool.and_eq_true] at hg'
   simp only [Bool.not_true,cond_false]
   rw [d0o hT ho hb g.Pos g.Neg hg'.1 hg'.2 h1 h2 f hf]
   unfold c2T gM
   cases g.Lists with
   | false=>rfl
   | true =>
     simp only [cond_true,Option.bind_some,bne,Bool.not_true,Bool.false_or]
     cases v.Kind==5<;>cases v.Kind==7<;>rfl
def b6H (T:Api_Type)(v:Val)(l:Api_Line):Bool :=
 if v.Kind=1 then a0W l.Ints v.Int_ else if v.Kind=2\/v.Kind=3 then a54 l.Names v.Text else if v.Kind=6 then ((v.Kids.length:Int)==l.Arity)&&gM T v (g0 l.Pos l.Neg) else
 if v.Kind=9 then (v.Int_==l.Arity)&&gM T v (g0 l.Pos l.Neg) else if v.Kind=7\/v.Kind=8 then gM T v (g0 l.Pos l.Neg) else true
def c93 (v:Val)(l:Api_Line):Bool:=(l.Vars.all fun s=>inL v.Labels s)&&l.NotVars.all fun s=>!inL v.Labels s
def b2t (T:Api_Type)(v:Val)(l:Api_Line):Bool:=v.Kind==l.Kind&&(c93 v l&&b6H T v l)
structure ShL (l:Api_Line):Prop where
 ints:l.Ints.length<=1000000
 names:l.Names.List_.length<=1000000
 pos:l.Pos.length<=1000000
 neg:l.Neg.length<=1000000
 vars:l.Vars.length<=1000000
 nots:l.NotVars.length<=1000000
theorem c7a (ho:vOK v=true):(v.Kind=1\/v.Kind=2\/v.Kind=3\/v.Kind=4\/v.Kind=5\/v.Kind=6\/v.Kind=7\/v.Kind=8\/v.Kind=9)/\(v.Kind=6->v.Kids.length<=4)/\(v.Kind=9->0<=v.Int_/\v.Int_<=4):=by
 rw [b8N] at ho
 simp only [Bool.and_eq_true] at ho
 have h:=ho.1
 unfold a18 at h
 simp only [Bool.and_eq_true] at h
 have hk:=h.2.2
 unfold a36 at hk
 by_cases h1:v.Kind=1
 ·exact ⟨by omega,by omega,by omega⟩
 rw [if_neg h1] at hk
 by_cases h2:v.Kind=2
 ·exact ⟨by omega,by omega,by omega⟩
 rw [if_neg h2] at hk
 by_cases h3:v.Kind=3
 ·exact ⟨by omega,by omega,by omega⟩
 rw [if_neg h3] at hk
 by_cases h4:v.Kind=4
 ·exact ⟨by omega,by omega,by omega⟩
 rw [if_neg h4] at hk
 by_cases h5:v.Kind=5
 ·exact ⟨by omega,by omega,by omega⟩
 rw [if_neg h5] at hk
 by_cases h6:v.Kind=6
 ·rw [if_pos h6] at hk
  exact ⟨by omega,fun _=>by simpa using hk,by omega⟩
 rw [if_neg h6] at hk
 by_cases h7:v.Kind=7
 ·exact ⟨by omega,by omega,by omega⟩
 rw [if_neg h7] at hk
 by_cases h8:v.Kind=8
 ·exact ⟨by omega,by omega,by omega⟩
 rw [if_neg h8] at hk
 by_cases h9:v.Kind=9
 ·rw [if_pos h9] at hk
  unfold b1L at hk
  simp only [Bool.and_eq_true,decide_eq_true_eq] at hk
  exact ⟨by omega,by omega,fun _=>⟨hk.1.1,hk.1.2⟩⟩
 rw [if_neg h9] at hk
 cases hk
end
end Go.Pl
end

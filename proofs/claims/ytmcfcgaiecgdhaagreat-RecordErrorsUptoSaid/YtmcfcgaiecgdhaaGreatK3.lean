/- Part 3. -/
import Derived.Test.YtmcfcgaiecgdhaaGreatK2
import Derived.ChangeArms
import Derived.KernelRfl
import Derived.OpenShut
import Derived.Shelf.Lays
import Derived.Shelf.SlLaysF0
import Derived.Test.YtmcfcgaiecgdhaaGreatProg
import Derived.Test.YtmcfcgaiecgdhaaGreatRows
section
namespace Go.Pl
open Go Go.RowKit Go.Sx Go.Qx
def inR (N:Nat)(k:Int):Bool:=decide (0<=k)&&decide (k<(N:Int))
def a2M (N:Nat)(l:List Api_Field):Bool:=asc cK (l.map (·.Key_))&&(l.all (fun f=>a0Z f.Key_)&&l.all fun f=>inR N f.Node)
def a4u (N:Nat)(x:Api_TypeNode):Bool :=
 if x.Kind=3 then x.Kids.isEmpty&&decide (x.Lo<=x.Hi) else if x.Kind=4 then x.Kids.isEmpty&&decide ((x.Text.size:Int)<=64) else
 if x.Kind=6 then x.Kids.isEmpty&&a4H x.Text else if x.Kind=19 then x.Kids.isEmpty&&a7y x.Text else
 if x.Kind=1\/x.Kind=2\/x.Kind=5\/x.Kind=7\/x.Kind=8\/x.Kind=9\/x.Kind=11\/x.Kind=15 then x.Kids.isEmpty else
 if x.Kind=10 then decide ((x.Kids.length:Int)<=4) else if x.Kind=12 then (x.Kids.length:Int)==2 else
 if x.Kind=14 then decide (1<=(x.Kids.length:Int))&&decide ((x.Kids.length:Int)<=5) else
 if x.Kind=16\/x.Kind=17 then decide (1<=(x.Kids.length:Int)) else if x.Kind=18 then (x.Kids.length:Int)==1 else
 if x.Kind=13 then a2M N x.Fields&&(x.Kids.isEmpty&&(inR N x.Rest.1&&inR N x.Rest.2)) else false
def a3n (r:Int×Int):Bool:=r.1==0&&r.2==0
def a0S (N:Nat)(x:Api_TypeNode):Bool :=
 x.Kids.all (inR N)&&((x.Kind==3||(x.Lo==0&&x.Hi==0))&&((x.Kind==4||x.Kind==6||x.Kind==19||J7 x.Text ⟨#[]⟩)&&((x.Kind==13||(x.Fields.isEmpty&&a3n x.Rest))&&a4u N x)))
theorem b8c {α:Type}(l:List α):((l.length:Int)==0)=l.isEmpty:=by cases l<;>simp<;>omega
theorem c0h (r:Int×Int):a8W r (0,0)=a3n r:=by unfold a8W a3n; simp
theorem b9Y (t:Api_Type)(k:Int):a2d t k=some (inR t.Nodes.length k):=by
 unfold a2d inR
 cases decide (0<=k)<;>rfl
theorem J1 {i n:Nat}(h:i<n):decide ((i:Int)<(n:Int))=true:=decide_eq_true (by omega)
theorem c1L (q:Api_Field->Bool)(l:List Api_Field):(List.range l.length).all (a75 (fun a b=>cK a.Key_ b.Key_) q l)=(asc cK (l.map (·.Key_))&&l.all q):=by
 rw [b6J]
 congr 1
 rw [Bool.eq_iff_iff,a8C,a8C]
 constructor
 ·intro h i h1 hi
  have:=h i h1 (by simpa using hi)
  simpa using this
 ·intro h i h1 hi
  have:=h i h1 (by simpa using hi)
  simpa using this
theorem c0s {step:Int->Option (Fl Int (Sum Unit Bool))}(q:Api_Field->Bool)(l:List Api_Field)
 (hst:∀ (i:Nat) (x:Api_Field),l[i]?=some x->step (i:Int)=some (if a75 (fun a b=>cK a.Key_ b.Key_) q l i=true then .next ((i+1:Nat):Int) else .done (.inr false)))
 (hend:step (l.length:Int)=some (.done (.inl ()))):z8 step (l.length+1) 0=some (if (asc cK (l.map (·.Key_))&&l.all q)=true then .inl () else .inr false):=by
 have:=c1M (step:=step) (fun a b:Api_Field=>cK a.Key_ b.Key_) q l false hst hend
 rw [<- b6J,c1L] at this
 exact this
end Go.Pl
namespace Go.Pl
open Go Go.RowKit Go.Sx Go.Qx
def b0E (x:Api_TypeNode):Bool :=
 (x.Kind==3||(x.Lo==0&&x.Hi==0))&&((x.Kind==4||x.Kind==6||x.Kind==19||J7 x.Text ⟨#[]⟩) &&
   ((x.Kind==10||x.Kind==12||x.Kind==14||x.Kind==16||x.Kind==17||x.Kind==18||x.Kids.isEmpty)&&(x.Kind==13||(x.Fields.isEmpty&&a3n x.Rest))))
def b3s (l:List Api_Field):Bool:=asc cK (l.map (·.Key_))&&l.all fun f=>a0Z f.Key_
def b0r (x:Api_TypeNode):Bool :=
 if x.Kind=3 then decide (x.Lo<=x.Hi) else if x.Kind=4 then decide ((x.Text.size:Int)<=64) else
 if x.Kind=6 then a4H x.Text else if x.Kind=19 then a7y x.Text else
 if x.Kind=1\/x.Kind=2\/x.Kind=5\/x.Kind=7\/x.Kind=8\/x.Kind=9\/x.Kind=11\/x.Kind=15 then true else
 if x.Kind=10 then decide ((x.Kids.length:Int)<=4) else if x.Kind=12 then (x.Kids.length:Int)==2 else
 if x.Kind=14 then decide (1<=(x.Kids.length:Int))&&decide ((x.Kids.length:Int)<=5) else
 if x.Kind=16\/x.Kind=17 then decide (1<=(x.Kids.length:Int)) else if x.Kind=18 then (x.Kids.length:Int)==1 else
 if x.Kind=13 then b3s x.Fields else false
def a2D (x:Api_TypeNode):List Int:=x.Kids++x.Fields.map (·.Node)++(if x.Kind=13 then [x.Rest.1,x.Rest.2] else [])
theorem a82 (k:Int):(k=1\/k=2\/k=3\/k=4\/k=5\/k=6\/k=7\/k=8\/k=9\/k=10\/k=11\/k=12\/k=13\/k=14\/k=15\/k=16\/k=17\/k=18\/k=19)\/∀ n:Int,1<=n->n<=19->(k==n)=false:=by
 by_cases h:1<=k/\k<=19
 ·left; omega
 ·right
  intro n h1 h2
  have:k≠n:=by omega
  simpa using this
theorem c0v (x:Api_TypeNode):a11 x=some (b0E x):=by
 unfold a11 b0E
 simp only [a1V,c0h,b8c]
 generalize a3n x.Rest=D
 generalize x.Fields.isEmpty=E
 generalize J7 x.Text ⟨#[]⟩=G
 generalize (x.Lo==0)=H
 generalize (x.Hi==0)=J
 generalize x.Kids.isEmpty=M
 rcases a82 x.Kind with h | h
 ·rcases h with h | h | h | h | h | h | h | h | h | h | h | h | h | h | h | h | h | h | h<;>rw [h]<;>cases G<;>cases H<;>cases J<;>cases E<;>cases D<;>cases M<;>rfl
 ·simp only [h 3 (by omega) (by omega),h 4 (by omega) (by omega),h 6 (by omega) (by omega),h 19 (by omega) (by omega),h 10 (by omega) (by omega),h 12 (by omega) (by omega),h 14 (by omega) (by omega),h 16 (by omega) (by omega),h 17 (by omega) (by omega),h 18 (by omega) (by omega),h 13 (by omega) (by omega)]
  cases G<;>cases H<;>cases J<;>cases E<;>cases D<;>cases M<;>rfl
theorem b9l (l:List Api_Field)(hl:l.length<=4194304):a1i l=some (b3s l):=by
 have l2:z8 (a0F l) (l.length+1) 0=some (if (asc cK (l.map (·.Key_))&&l.all fun f=>a0Z f.Key_)=true then .inl () else .inr false):=by
  refine c0s (fun f=>a0Z f.Key_) l ?_ ?_
  ·intro i f hx
   have hi:i<l.length:=(List.getElem?_eq_some_iff.1 hx).1
   unfold a0F
   rw [J1 hi,k7 hx]
   simp only [cond_true,Option.bind_some,b8Q,Q4,a1V]
   refine c1u (fun a b:Api_Field=>cK a.Key_ b.Key_) (fun f=>a0Z f.Key_) l i f hx (by omega) (fun h=>by rw [h]; rfl) (fun h h0=>by subst h0; rw [h]; rfl) (fun h j y hj hy hiy=>?_)
   subst hj
   rw [h,hiy,c4U]
   simp only [Bool.not_true,cond_false,cond_true,Option.bind_some,a5l]
   by_cases hc:cK y.Key_ f.Key_<0
   ·have:¬ 0<=cK y.Key_ f.Key_:=by omega
    simp [hc,this]
   ·have:0<=cK y.Key_ f.Key_:=by omega
    simp [hc,this]
  ·unfold a0F
   simp
 unfold a1i b3s
 rw [J5,l2]
 cases (asc cK (l.map (·.Key_))&&l.all fun f=>a0Z f.Key_)<;>rfl
theorem b90 (x:Api_TypeNode)(hf:x.Fields.length<=4194304):a12 x=some (b0r x):=by
 unfold a12 b0r
 simp only [a1V,b4f,b9k,b9l x.Fields hf]
 generalize b3s x.Fields=A
 generalize a4H x.Text=O
 generalize a7y x.Text=Q
 generalize decide (x.Lo<=x.Hi)=R
 generalize decide ((x.Text.size:Int)<=64)=T
 generalize decide ((x.Kids.length:Int)<=4)=U
 generalize ((x.Kids.length:Int)==2)=V
 generalize ((x.Kids.length:Int)==1)=W
 generalize decide (1<=(x.Kids.length:Int))=X
 generalize decide ((x.Kids.length:Int)<=5)=Y
 rcases a82 x.Kind with h | h
 ·rcases h with h | h | h | h | h | h | h | h | h | h | h | h | h | h | h | h | h | h | h<;>rw [h]<;>first | rfl | (cases X<;>rfl)
 ·have e:∀ n:Int,1<=n->n<=19->¬ x.Kind=n:=fun n h1 h2=>by simpa using h n h1 h2
  simp only [h 1 (by omega) (by omega),h 2 (by omega) (by omega),h 5 (by omega) (by omega),h 7 (by omega) (by omega),h 8 (by omega) (by omega),h 9 (by omega) (by omega),h 11 (by omega) (by omega),h 15 (by omega) (by omega),h 3 (by omega) (by omega),h 4 (by omega) (by omega),h 6 (by omega) (by omega),h 19 (by omega) (by omega),h 10 (by omega) (by omega),h 12 (by omega) (by omega),h 14 (by omega) (by omega),h 16 (by omega) (by omega),h 17 (by omega) (by omega),h 18 (by omega) (by omega),h 13 (by omega) (by omega),
   e 1 (by omega) (by omega),e 2 (by omega) (by omega),e 5 (by omega) (by omega),e 7 (by omega) (by omega),e 8 (by omega) (by omega),e 9 (by omega) (by omega),e 11 (by omega) (by omega),e 15 (by omega) (by omega),e 3 (by omega) (by omega),e 4 (by omega) (by omega),e 6 (by omega) (by omega),e 19 (by omega) (by omega),e 10 (by omega) (by omega),e 12 (by omega) (by omega),e 14 (by omega) (by omega),e 16 (by omega) (by omega),e 17 (by omega) (by omega),e 18 (by omega) (by omega),e 13 (by omega) (by omega),or_self,if_false]
  rfl
theorem b7m {α β:Type}(f:α->β):∀ (l:List α) (s:List β),l.foldl (fun s x=>s++[f x]) s=s++l.map f
 | [],s=>by simp
 | x::r,s=>by rw [List.foldl_cons,b7m f r]; simp
theorem c0r (x:Api_TypeNode)(hk:x.Kids.length<=1100000)(hf:x.Fields.length<=1100000):a3i x=some (a2D x):=by
 unfold a3i X2 a2D
 rw [Z9 (by omega)]
 simp only [Option.bind_some,J5]
 have key:=a7B (σ:=List Int) (step:=a0x x) x.Fields (fun s i=>(s,(i:Int))) (fun s f=>s++[f.Node]) (fun i s=>s.length<=x.Kids.length+i) (fun s=>s)
  ?_ ?_ x.Kids (by simp) _ (Nat.le_refl _)
 ·have e:z8 (a0x x) (x.Fields.length+1) (x.Kids,0)=z8 (a0x x) (x.Fields.length+1) (x.Kids,((0:Nat):Int)):=rfl
  rw [e,key,b7m]
  simp only [Option.bind_some]
  by_cases h:x.Kind=13
  ·rw [show (x.Kind==13)=true by simpa using h,if_pos h,Z9 (by simp only [List.length_append,List.length_map,List.length_cons,List.length_nil]; omega)]
   rfl
  ·rw [show (x.Kind==13)=false by simpa using h,if_neg h,List.append_nil]
   rfl
 ·intro i s f hx hI
  have hi:i<x.Fields.length:=(List.getElem?_eq_some_iff.1 hx).1
  refine ⟨?_,by simp only [List.length_append,List.length_cons,List.length_nil]; omega⟩
  unfold a0x
  simp only [Q4]
  rw [J1 hi,k7 hx]
  simp only [cond_true,Option.bind_some]
  rw [Z9 (by simp only [List.length_cons,List.length_nil]; omega),k9 i (by omega)]
  rfl
 ·intro s _
  unfold a0x
  simp
theorem b9q (N:Nat)(x:Api_TypeNode):(b0E x&&(b0r x&&(a2D x).all (inR N)))=a0S N x:=by
 unfold b0E b0r a0S a4u a2D a2M b3s
 simp only [List.all_append,List.all_map]
 have hE:x.Fields.isEmpty=true->x.Fields=[]:=List.isEmpty_iff.1
 have hM:x.Kids.isEmpty=true->x.Kids=[]:=List.isEmpty_iff.1
 rcases a82 x.Kind with h | h
 ·have hK:x.Kids.isEmpty=true->x.Kids.all (inR N)=true:=fun e=>by rw [hM e]; rfl
  have hF:x.Fields.isEmpty=true->(x.Fields.all (inR N∘fun f=>f.Node))=true:=fun e=>by rw [hE e]; rfl
  have hcomp:(x.Fields.all fun f=>inR N f.Node)=x.Fields.all (inR N∘fun f=>f.Node):=rfl
  rw [hcomp]
  generalize x.Fields.all (inR N∘fun f=>f.Node)=a1 at hF
  generalize x.Kids.all (inR N)=a2 at hK
  generalize x.Fields.isEmpty=E at hF
  generalize x.Kids.isEmpty=M at hK
  generalize a3n x.Rest=D
  generalize J7 x.Text ⟨#[]⟩=G
  generalize (x.Lo==0)=H
  generalize (x.Hi==0)=J
  rcases h with h | h | h | h | h | h | h | h | h | h | h | h | h | h | h | h | h | h | h<;>rw [h]<;>simp <;>
   cases G<;>cases H<;>cases J<;>cases E<;>cases D<;>cases M<;>simp_all
  all_goals first
   | (simp only [Bool.and_assoc]; done)
   | (cases a2<;>simp; done)
 ·have e:∀ n:Int,1<=n->n<=19->¬ x.Kind=n:=fun n h1 h2=>by simpa using h n h1 h2
  simp only [e 1 (by omega) (by omega),e 2 (by omega) (by omega),e 5 (by omega) (by omega),e 7 (by omega) (by omega),e 8 (by omega) (by omega),e 9 (by omega) (by omega),e 11 (by omega) (by omega),e 15 (by omega) (by omega),e 3 (by omega) (by omega),e 4 (by omega) (by omega),e 6 (by omega) (by omega),e 19 (by omega) (by omega),e 10 (by omega) (by omega),e 12 (by omega) (by omega),e 14 (by omega) (by omega),e 16 (by omega) (by omega),e 17 (by omega) (by omega),e 18 (by omega) (by omega),e 13 (by omega) (by omega),or_self,if_false]
  simp
end Go.Pl
namespace Go.Pl
open Go Go.RowKit Go.Sx Go.Qx
def isB (x:Api_TypeNode):Bool:=x.Kind==16||x.Kind==17||x.Kind==18
def b73 (ns:List Api_TypeNode):Prop:=∀ (i:Nat) (x:Api_TypeNode),ns[i]?=some x->isB x=true->∀ k∈x.Kids,(i:Int)<k
def a7W (ns:List Api_TypeNode):Bool:=ns.all (a0S ns.length)
theorem c2S (x:Api_TypeNode):a1W x.Kind=some (isB x):=by
 unfold a1W isB
 cases (x.Kind==16)<;>cases (x.Kind==17)<;>rfl
theorem a6s {N:Nat}{x:Api_TypeNode}(h:a0S N x=true):∀ k∈x.Kids,inR N k=true:=by
 unfold a0S at h
 simp only [Bool.and_eq_true] at h
 exact List.all_eq_true.1 h.1
theorem a3q {N:Nat}{k:Int}(h:inR N k=true):∃ j:Nat,k=(j:Int)/\j<N:=by
 unfold inR at h
 simp only [Bool.and_eq_true,decide_eq_true_eq] at h
 exact ⟨k.toNat,by omega,by omega⟩
def Rk (ns:List Api_TypeNode)(r:Nat->Nat):Prop:=∀ (i:Nat) (x:Api_TypeNode),ns[i]?=some x->isB x=true->∀ k∈x.Kids,r k.toNat<r i
def Acy (ns:List Api_TypeNode):Prop:=∃ r,Rk ns r
open Classical in
noncomputable def a71 (ns:List Api_TypeNode):Bool:=decide (Acy ns)
theorem b2e {ns:List Api_TypeNode}:a71 ns=true↔Acy ns:=by
 unfold a71
 classical exact decide_eq_true_iff
theorem b73.acy {ns:List Api_TypeNode}(h:b73 ns)(hT:a7W ns=true):a71 ns=true :=
 b2e.2 ⟨fun i=>ns.length-i,fun i x hx hb k hk=>by
  obtain ⟨j,rfl,hj⟩:=a3q (a6s (List.all_eq_true.1 hT x (List.mem_of_getElem? hx)) k hk)
  have:=h i x hx hb _ hk
  show ns.length-((j:Int)).toNat<ns.length-i
  rw [Int.toNat_natCast]
  omega⟩
def Gd (ns:List Api_TypeNode)(D:Nat->Prop):Prop:=∃ r:Nat->Nat,∀ (i:Nat) (x:Api_TypeNode),D i->ns[i]?=some x->isB x=true->∀ k∈x.Kids,D k.toNat/\r k.toNat<r i
theorem b7t (r:Nat->Nat):∀ (l:List Int) (k:Int),k∈l->r k.toNat<=(l.map fun k=>r k.toNat).sum
 | [],_,h=>by cases h
 | y::l,k,h=>by
   rw [List.map_cons,List.sum_cons]
   rcases List.mem_cons.1 h with rfl | h
   ·omega
   ·have:=b7t r l k h; omega
theorem Gd.add {ns:List Api_TypeNode}{D D':Nat->Prop}(h:Gd ns D){i:Nat}{x:Api_TypeNode}(hx:ns[i]?=some x)(hk:isB x=true->∀ k∈x.Kids,D k.toNat)(hD:∀ j,D' j↔D j\/j=i):Gd ns D':=by
 obtain ⟨r,hr⟩:=h
 by_cases hi:D i
 ·have e:∀ j,D' j↔D j:=fun j=>(hD j).trans ⟨fun h=>h.elim id (fun h=>by rw [h]; exact hi),.inl⟩
  exact ⟨r,fun j y h1 h2 h3 k h4=>by
   obtain ⟨k1,k2⟩:=hr j y ((e j).1 h1) h2 h3 k h4
   exact ⟨(e _).2 k1,k2⟩⟩
 ·refine ⟨fun j=>if j=i then 1+(x.Kids.map fun k=>r k.toNat).sum else r j,fun j y h1 h2 h3 k h4=>?_⟩
  by_cases hj:j=i
  ·subst hj
   rw [hx] at h2
   cases h2
   have hDk:=hk h3 k h4
   have hne:k.toNat≠j:=fun e=>hi (e▸hDk)
   refine ⟨(hD _).2 (.inl hDk),?_⟩
   simp only [if_neg hne,if_true]
   have:=b7t r x.Kids k h4
   omega
  ·obtain ⟨k1,k2⟩:=hr j y (((hD j).1 h1).resolve_right hj) h2 h3 k h4
   have hne:k.toNat≠i:=fun e=>hi (e▸k1)
   refine ⟨(hD _).2 (.inl k1),?_⟩
   simp only [if_neg hne,if_neg hj]
   exact k2
theorem Gd.acy {ns:List Api_TypeNode}{D:Nat->Prop}(h:Gd ns D)(hD:∀ j,j<ns.length->D j):Acy ns:=by
 obtain ⟨r,hr⟩:=h
 exact ⟨r,fun i x hx hb k hk=>(hr i x (hD i (List.getElem?_eq_some_iff.1 hx).1) hx hb k hk).2⟩
theorem Acy.small {ns:List Api_TypeNode}(h:Acy ns)(hT:a7W ns=true):∃ r,Rk ns r/\∀ i,i<ns.length->r i<ns.length:=by
 obtain ⟨r,hr⟩:=h
 have mono:∀ (l:List Nat) (a b:Nat),a<=b->(l.countP fun j=>decide (j<a))<=l.countP fun j=>decide (j<b):=fun l a b hab =>
  List.countP_mono_left fun x _ hx=>by simp at hx ⊢; omega
 have strict:∀ (l:List Nat) (a b:Nat),a<b->a∈l->(l.countP fun j=>decide (j<a))<l.countP fun j=>decide (j<b):=by
  intro l
  induction l with
  | nil=>intro a b _ h; cases h
  | cons y l ih =>
    intro a b hab hm
    rw [List.countP_cons,List.countP_cons]
    rcases List.mem_cons.1 hm with rfl | hm
    ·have:=mono l a b (by omega)
     simp only [Nat.lt_irrefl,decide_false,hab,decide_true,if_true]
     simp
     omega
    ·have h1:=ih a b hab hm
     by_cases h2:y<a
     ·simp only [h2,show y<b by omega,decide_true,if_true]; omega
     ·simp only [h2,decide_false]
      by_cases h3:y<b<;>simp [h3]<;>omega
 have hlt:∀ (l:List Nat) (a:Nat),a∈l->(l.countP fun j=>decide (j<a))<l.length:=fun l a hm=>by
  have h1:=strict l a (a+1) (by omega) hm
  have h2:(l.countP fun j=>decide (j<a+1))<=l.length:=List.countP_le_length
  omega
 refine ⟨fun i=>((List.range ns.length).map r).countP fun j=>decide (j<r i),fun i x hx hb k hk=>?_,fun i hi=>?_⟩
 ·obtain ⟨j,rfl,hj⟩:=a3q (a6s (List.all_eq_true.1 hT x (List.mem_of_getElem? hx)) k hk)
  exact strict _ _ _ (hr i x hx hb _ hk) (List.mem_map.2 ⟨j,by simpa using hj,by simp⟩)
 ·have:=hlt ((List.range ns.length).map r) (r i) (List.mem_map.2 ⟨i,by simpa using hi,rfl⟩)
  simpa using this
def DF (ns:List Api_TypeNode)(st:List Int)(j:Nat):Prop:=st[j]?=some 2\/∃ x,ns[j]?=some x/\isB x=false
theorem b7A:∀ (l:List Int) (i:Nat),l[i]?=some 0->(l.set i 1).count 0+1=l.count 0
 | [],i,h=>by simp at h
 | x::l,0,h=>by
   have:x=0:=by simpa using h
   subst this
   simp
 | x::l,i+1,h=>by
   have:=b7A l i (by simpa using h)
   rw [List.set_cons_succ,List.count_cons,List.count_cons]
   omega
theorem b9n:∀ (l:List Int) (i:Nat),(l.set i 2).count 0<=l.count 0
 | [],i=>by simp
 | x::l,0=>by
   rw [List.set_cons_zero,List.count_cons,List.count_cons]
   simp
 | x::l,i+1=>by
   have:=b9n l i
   rw [List.set_cons_succ,List.count_cons,List.count_cons]
   omega
structure DfsR (ns:List Api_TypeNode)(st st':List Int):Prop where
 len:st'.length=ns.length
 val:∀ (j:Nat) e,st'[j]?=some e->e=0\/e=1\/e=2
 gd:Gd ns (DF ns st')
 opn:∀ j:Nat,st'[j]?=some 1↔st[j]?=some 1
 don:∀ j:Nat,st[j]?=some 2->st'[j]?=some 2
 zer:st'.count 0<=st.count 0
theorem c3l (t:Api_Type)(hT:a7W t.Nodes=true)(hk:∀ x∈t.Nodes,x.Kids.length<=1100000) :
 ∀ (fuel i:Nat) (st:List Int),st.count 0<fuel->i<t.Nodes.length->DfsR t.Nodes st st ->
  ∃ b st',w9 fuel (i:Int) st t ()=some (b,st')/\(b=true->DfsR t.Nodes st st'/\DF t.Nodes st' i)/\(b=false->∀ r,Rk t.Nodes r->(∀ o:Nat,st[o]?=some 1->r i<r o)->False):=by
 intro fuel
 induction fuel with
 | zero=>intro i st h1; omega
 | succ f ih =>
   intro i st h1 h2 hS
   show ∃ b st',a1z f (w9 f) (i:Int) st t ()=some (b,st')/\_
   have h3:=hS.len
   have hi:i<st.length:=by omega
   have hst:=List.getElem?_eq_getElem hi
   have hn:=List.getElem?_eq_getElem h2
   generalize st[i]=e at hst
   generalize hx:t.Nodes[i]=x at hn
   have hxm:x∈t.Nodes:=List.mem_of_getElem? hn
   unfold a1z
   simp only [k7 hst,k7 hn,Int.toNat_natCast,hst,Option.bind_some,c2S,J5,Q4]
   by_cases hq:e=0/\isB x=true
   ·obtain ⟨he,hb⟩:=hq
    subst he
    rw [hb]
    simp only [bne_self_eq_false,cond_false,Bool.not_true,Option.bind_some]
    have hke:=hk x hxm
    have hz:=b7A st i hst
    have hset:∀ j:Nat,(st.set i 1)[j]?=some 1↔st[j]?=some 1\/j=i:=fun j=>by
     by_cases e:i=j
     ·subst e; rw [List.getElem?_set_self hi]; simp
     ·rw [List.getElem?_set_ne e]; exact ⟨.inl,fun h=>h.resolve_right (Ne.symm e)⟩
    have hset2:∀ j:Nat,(st.set i 1)[j]?=some 2↔st[j]?=some 2:=fun j=>by
     by_cases e:i=j
     ·subst e; rw [List.getElem?_set_self hi,hst]; simp
     ·rw [List.getElem?_set_ne e]
    have hS1:DfsR t.Nodes (st.set i 1) (st.set i 1):=by
     refine ⟨by simpa using h3,fun j e hj=>?_,?_,fun _=>Iff.rfl,fun _ h=>h,Nat.le_refl _⟩
     ·by_cases e1:i=j
      ·subst e1; rw [List.getElem?_set_self hi] at hj; simp at hj; omega
      ·rw [List.getElem?_set_ne e1] at hj; exact hS.val j e hj
     ·have e:∀ j,DF t.Nodes (st.set i 1) j↔DF t.Nodes st j:=fun j=>or_congr (hset2 j) Iff.rfl
      obtain ⟨r,hr⟩:=hS.gd
      exact ⟨r,fun j y a1 a2 a3 k a4=>by
       obtain ⟨k1,k2⟩:=hr j y ((e j).1 a1) a2 a3 k a4
       exact ⟨(e _).2 k1,k2⟩⟩
    have key:∀ (m a k:Nat) (s:List Int),a+m=x.Kids.length->m+1<=k->DfsR t.Nodes (st.set i 1) s->(∀ (q:Nat) (y:Int),q<a->x.Kids[q]?=some y->DF t.Nodes s y.toNat) ->
     (∃ s',z8 (w4 t x (w9 f)) k ((a:Int),s)=some (.inl s')/\DfsR t.Nodes (st.set i 1) s'/\∀ y∈x.Kids,DF t.Nodes s' y.toNat) \/
     ∃ s',z8 (w4 t x (w9 f)) k ((a:Int),s)=some (.inr (false,s'))/\∀ r,Rk t.Nodes r->(∀ o:Nat,st[o]?=some 1->r i<r o)->False:=by
     intro m
     induction m with
     | zero =>
       intro a k s b1 b2 b3 b4
       obtain ⟨k,rfl⟩:∃ m,k=m+1:=⟨k-1,by omega⟩
       have e:a=x.Kids.length:=by omega
       subst e
       have:w4 t x (w9 f) ((x.Kids.length:Int),s)=some (.done (.inl s)):=by
        unfold w4
        simp
       exact .inl ⟨s,by simp only [z8,this,Option.bind_some],b3,fun y hy=>by
        obtain ⟨q,hq,e⟩:=List.getElem_of_mem hy
        exact b4 q y hq (by rw [List.getElem?_eq_getElem hq,e])⟩
     | succ m ihm =>
       intro a k s b1 b2 b3 b4
       obtain ⟨k,rfl⟩:∃ m,k=m+1:=⟨k-1,by omega⟩
       have ha:a<x.Kids.length:=by omega
       have hka:=List.getElem?_eq_getElem ha
       have hkm:=List.getElem_mem ha
       obtain ⟨j,hj1,hj3⟩:=a3q (a6s (List.all_eq_true.1 hT x hxm) _ hkm)
       obtain ⟨b,s',c1,c2,c3⟩:=ih j s (by have:=b3.zer; omega) hj3 ⟨b3.len,b3.val,b3.gd,fun _=>Iff.rfl,fun _ h=>h,Nat.le_refl _⟩
       cases b with
       | true =>
         obtain ⟨c4,c5⟩:=c2 rfl
         have:w4 t x (w9 f) ((a:Int),s)=some (.next (((a+1:Nat):Int),s')):=by
          unfold w4
          rw [J1 ha,k7 hka,hj1]
          simp only [cond_true,Option.bind_some,Q4]
          rw [c1,k9 a (by omega)]
          rfl
         simp only [z8,this,Option.bind_some]
         refine ihm (a+1) k s' (by omega) (by omega) ⟨c4.len,c4.val,c4.gd,fun q=>(c4.opn q).trans (b3.opn q),fun q hq=>c4.don q (b3.don q hq),Nat.le_trans c4.zer b3.zer⟩ (fun q y hq hy=>?_)
         by_cases hqa:q=a
         ·subst hqa
          rw [hka] at hy
          cases hy
          rw [hj1,Int.toNat_natCast]
          exact c5
         ·exact (b4 q y (by omega) hy).imp (fun h=>c4.don _ h) id
       | false =>
         have:w4 t x (w9 f) ((a:Int),s)=some (.done (.inr (false,s'))):=by
          unfold w4
          rw [J1 ha,k7 hka,hj1]
          simp only [cond_true,Option.bind_some,Q4]
          rw [c1]
          rfl
         refine .inr ⟨s',by simp only [z8,this,Option.bind_some],fun r hr ho=>c3 rfl r hr fun o hopn=>?_⟩
         have hrk:r j<r i:=by
          have:=hr i x hn hb _ hkm
          rwa [hj1,Int.toNat_natCast] at this
         rcases (hset o).1 ((b3.opn o).1 hopn) with h | rfl
         ·exact Nat.lt_trans hrk (ho o h)
         ·exact hrk
    have e0:z8 (w4 t x (w9 f)) (x.Kids.length+1) (0,st.set i 1)=z8 (w4 t x (w9 f)) (x.Kids.length+1) (((0:Nat):Int),st.set i 1):=rfl
    rw [e0]
    rcases key x.Kids.length 0 (x.Kids.length+1) (st.set i 1) (by omega) (Nat.le_refl _) hS1 (fun q y hq=>by omega) with ⟨s',c1,c2,c3⟩ | ⟨s',c1,c2⟩
    ·rw [c1]
     have hi':i<s'.length:=by rw [c2.len]; exact h2
     have hs':=List.getElem?_eq_getElem hi'
     have hs1:s'[i]?=some 1:=(c2.opn i).2 ((hset i).2 (.inr rfl))
     simp only [Option.bind_some,v8,k7 hs',hs']
     refine ⟨true,s'.set i 2,rfl,fun _=>⟨⟨by simpa using c2.len,fun j e hj=>?_,?_,fun j=>?_,fun j hj=>?_,?_⟩,.inl (List.getElem?_set_self hi')⟩,fun h=>by cases h⟩
     ·by_cases e1:i=j
      ·subst e1; rw [List.getElem?_set_self hi'] at hj; simp at hj; omega
      ·rw [List.getElem?_set_ne e1] at hj; exact c2.val j e hj
     ·refine Gd.add c2.gd hn (fun _=>c3) fun j=>?_
      unfold DF
      by_cases e1:i=j
      ·subst e1; rw [List.getElem?_set_self hi']; simp
      ·rw [List.getElem?_set_ne e1]; exact ⟨.inl,fun h=>h.resolve_right (Ne.symm e1)⟩
     ·by_cases e1:i=j
      ·subst e1; rw [List.getElem?_set_self hi',hst]; simp
      ·rw [List.getElem?_set_ne e1]
       exact (c2.opn j).trans ((hset j).trans ⟨fun h=>h.resolve_right (Ne.symm e1),.inl⟩)
     ·have h2':=c2.don j ((hset2 j).2 hj)
      by_cases e1:i=j
      ·subst e1; rw [List.getElem?_set_self hi']
      ·rw [List.getElem?_set_ne e1]; exact h2'
     ·have a1:=b9n s' i
      have a2:=c2.zer
      omega
    ·rw [c1]
     exact ⟨false,s',rfl,(fun h=>by cases h),fun _=>c2⟩
   ·by_cases he1:e=1
    ·subst he1
     exact ⟨false,st,by cases isB x<;>rfl,(fun h=>by cases h),fun _ r _ ho=>Nat.lt_irrefl _ (ho i hst)⟩
    ·refine ⟨true,st,?_,fun _=>⟨hS,?_⟩,fun h=>by cases h⟩
     ·by_cases he:e=0
      ·subst he
       have hb:isB x=false:=by
        cases hb:isB x with
        | true=>exact absurd ⟨rfl,hb⟩ hq
        | false=>rfl
       rw [hb]
       rfl
      ·have e2:(e != 0)=true:=by simpa using he
       have e3:(e != 1)=true:=by simpa using he1
       rw [e2,e3]
       rfl
     ·rcases hS.val i e hst with rfl | rfl | rfl
      ·right
       refine ⟨x,hn,?_⟩
       cases hb:isB x with
       | true=>exact absurd ⟨rfl,hb⟩ hq
       | false=>rfl
      ·exact absurd rfl he1
      ·exact .inl hst
theorem c0U (t:Api_Type)(hT:a7W t.Nodes=true)(hk:∀ x∈t.Nodes,x.Kids.length<=1100000)(hN:t.Nodes.length<=1100000)(fuel:Nat)(hf:t.Nodes.length+1<=fuel):a1g fuel t=some (a71 t.Nodes):=by
 unfold a1g a5p
 have e0:(decide (0<=(t.Nodes.length:Int))&&decide ((t.Nodes.length:Int)<=(t.Nodes.length:Int))&&decide ((t.Nodes.length:Int)*((8:Nat):Int)<=140737488355328))=true:=by
  simp; omega
 rw [e0]
 simp only [cond_true,Option.bind_some,J5]
 have key:∀ (m a k:Nat) (s:List Int),a+m=t.Nodes.length->m+1<=k->DfsR t.Nodes s s->(∀ j:Nat,s[j]?≠some 1)->(∀ j,j<a->DF t.Nodes s j) ->
  (∃ s',z8 (Z1 t fuel) k ((a:Int),s)=some (.inl s')/\a71 t.Nodes=true)\/∃ s',z8 (Z1 t fuel) k ((a:Int),s)=some (.inr (false,s'))/\a71 t.Nodes=false:=by
  intro m
  induction m with
  | zero =>
    intro a k s b1 b2 b3 b4 b5
    obtain ⟨k,rfl⟩:∃ m,k=m+1:=⟨k-1,by omega⟩
    have e:a=t.Nodes.length:=by omega
    subst e
    have:Z1 t fuel ((t.Nodes.length:Int),s)=some (.done (.inl s)):=by
     unfold Z1
     simp
    exact .inl ⟨s,by simp only [z8,this,Option.bind_some],b2e.2 (b3.gd.acy b5)⟩
  | succ m ih =>
    intro a k s b1 b2 b3 b4 b5
    obtain ⟨k,rfl⟩:∃ m,k=m+1:=⟨k-1,by omega⟩
    have hz:s.count 0<=t.Nodes.length:=by rw [<- b3.len]; exact List.count_le_length
    obtain ⟨b,s',c1,c2,c3⟩:=c3l t hT hk fuel a s (by omega) (by omega) b3
    cases b with
    | true =>
      obtain ⟨c4,c5⟩:=c2 rfl
      have:Z1 t fuel ((a:Int),s)=some (.next (((a+1:Nat):Int),s')):=by
       unfold Z1
       rw [J1 (show a<t.Nodes.length by omega)]
       simp only [cond_true,Option.bind_some,Q4]
       rw [c1,k9 a (by omega)]
       rfl
      simp only [z8,this,Option.bind_some]
      refine ih (a+1) k s' (by omega) (by omega) ⟨c4.len,c4.val,c4.gd,fun _=>Iff.rfl,fun _ h=>h,Nat.le_refl _⟩ (fun j h=>b4 j ((c4.opn j).1 h)) (fun j hj=>?_)
      by_cases h:j=a
      ·rw [h]; exact c5
      ·exact (b5 j (by omega)).imp (fun h=>c4.don _ h) id
    | false =>
      have:Z1 t fuel ((a:Int),s)=some (.done (.inr (false,s'))):=by
       unfold Z1
       rw [J1 (show a<t.Nodes.length by omega)]
       simp only [cond_true,Option.bind_some,Q4]
       rw [c1]
       rfl
      refine .inr ⟨s',by simp only [z8,this,Option.bind_some],?_⟩
      cases hA:a71 t.Nodes with
      | false=>rfl
      | true =>
        obtain ⟨r,hr⟩:=b2e.1 hA
        exact (c3 rfl r hr fun o ho=>absurd ho (b4 o)).elim
 have hrep:∀ (j:Nat) (e:Int),(List.replicate t.Nodes.length (0:Int))[j]?=some e->e=0:=fun j e h=>by
  rw [List.getElem?_replicate] at h
  split at h
  ·simpa using h.symm
  ·cases h
 have hS:DfsR t.Nodes (List.replicate t.Nodes.length (0:Int)) (List.replicate t.Nodes.length (0:Int)) :=
  ⟨by simp,fun j e h=>.inl (hrep j e h),⟨fun _=>0,fun i x hi hx hb=>by
   rcases hi with hi | ⟨y,hy,hyb⟩
   ·have:=hrep i 2 hi; omega
   ·rw [hx] at hy; cases hy; rw [hb] at hyb; cases hyb⟩,fun _=>Iff.rfl,fun _ h=>h,Nat.le_refl _⟩
 have e':∀ s,z8 (Z1 t fuel) (t.Nodes.length+1) (0,s)=z8 (Z1 t fuel) (t.Nodes.length+1) (((0:Nat):Int),s):=fun _=>rfl
 rw [e']
 rcases key t.Nodes.length 0 (t.Nodes.length+1) (List.replicate t.Nodes.length (0:Int)) (by omega) (Nat.le_refl _) hS (fun j h=>by have:=hrep j 1 h; omega) (fun j hj=>by omega) with ⟨s',e,hA⟩ | ⟨s',e,hA⟩
 ·rw [e,hA]; rfl
 ·rw [e,hA]; rfl
theorem c2Y (t:Api_Type)(hk:∀ x∈t.Nodes,x.Kids.length<=1100000/\x.Fields.length<=1100000)(hN:t.Nodes.length<=1100000)(fuel:Nat)(hf:t.Nodes.length+1<=fuel):J6 fuel t=some (if inR t.Nodes.length t.Root&&a7W t.Nodes then (if a71 t.Nodes then 0 else 3) else 1):=by
 have l2:z8 (a0U t) (t.Nodes.length+1) 0=some (if t.Nodes.all (a0S t.Nodes.length)=true then .inl () else .inr 1):=by
  refine a7c t.Nodes (a0S t.Nodes.length) (fun i=>(i:Int)) () 1 ?_ ?_
  ·intro i x hx
   have hi:i<t.Nodes.length:=(List.getElem?_eq_some_iff.1 hx).1
   obtain ⟨hk1,hk2⟩:=hk x (List.mem_of_getElem? hx)
   unfold a0U
   rw [J1 hi,k7 hx]
   simp only [cond_true,Option.bind_some,c0v,b90 x (by omega),Q4,J5]
   rw [<- b9q,k9 i (by omega)]
   cases b0E x
   ·rfl
   cases b0r x
   ·rfl
   simp only [Bool.not_true,cond_false,Option.bind_some,Bool.true_and]
   rw [c0r x hk1 hk2]
   simp only [Option.bind_some]
   have he:(a2D x).length<=4194304:=by
    unfold a2D
    simp only [List.length_append,List.length_map]
    split<;>simp<;>omega
   have l1:z8 (a0T t (a2D x)) ((a2D x).length+1) 0=some (if (a2D x).all (inR t.Nodes.length)=true then .inl () else .inr 1):=by
    refine a7c (a2D x) (inR t.Nodes.length) (fun i=>(i:Int)) () 1 ?_ ?_
    ·intro j y hy
     have hj:j<(a2D x).length:=(List.getElem?_eq_some_iff.1 hy).1
     unfold a0T
     rw [J1 hj,k7 hy]
     simp only [cond_true,Option.bind_some,Q4]
     rw [k9 j (by omega)]
     unfold inR
     by_cases h1:y<0
     ·have a1:decide (y<0)=true:=by simpa using h1
      have a2:decide (0<=y)=false:=by simp; omega
      rw [a1,a2]; rfl
     ·have a1:decide (y<0)=false:=by simpa using h1
      have a2:decide (0<=y)=true:=by simp; omega
      rw [a1,a2]
      by_cases h2:y<(t.Nodes.length:Int)
      ·have a3:decide ((t.Nodes.length:Int)<=y)=false:=by simp; omega
       have a4:decide (y<(t.Nodes.length:Int))=true:=by simpa using h2
       rw [a3,a4]; rfl
      ·have a3:decide ((t.Nodes.length:Int)<=y)=true:=by simp; omega
       have a4:decide (y<(t.Nodes.length:Int))=false:=by simpa using h2
       rw [a3,a4]; rfl
    ·unfold a0T
     simp
   rw [l1]
   cases (a2D x).all (inR t.Nodes.length)<;>rfl
  ·unfold a0U
   simp
 unfold J6
 rw [J5,l2]
 have hq:(Option.bind (bif decide (t.Root<0) then some true else some (decide ((t.Nodes.length:Int)<=t.Root))) fun q=>some q)=some (!inR t.Nodes.length t.Root):=by
  unfold inR
  by_cases h1:t.Root<0
  ·have a1:decide (t.Root<0)=true:=by simpa using h1
   have a2:decide (0<=t.Root)=false:=by simp; omega
   rw [a1,a2]; rfl
  ·have a1:decide (t.Root<0)=false:=by simpa using h1
   have a2:decide (0<=t.Root)=true:=by simp; omega
   rw [a1,a2]
   by_cases h2:t.Root<(t.Nodes.length:Int)
   ·have a3:decide ((t.Nodes.length:Int)<=t.Root)=false:=by simp; omega
    have a4:decide (t.Root<(t.Nodes.length:Int))=true:=by simpa using h2
    rw [a3,a4]; rfl
   ·have a3:decide ((t.Nodes.length:Int)<=t.Root)=true:=by simp; omega
    have a4:decide (t.Root<(t.Nodes.length:Int))=false:=by simpa using h2
    rw [a3,a4]; rfl
 rw [a1V] at hq
 rw [hq]
 simp only [Option.bind_some]
 cases inR t.Nodes.length t.Root
 ·rfl
 show _=some (if a7W t.Nodes=true then (if a71 t.Nodes then (0:Int) else 3) else 1)
 cases hA:a7W t.Nodes with
 | true =>
   have hA':t.Nodes.all (a0S t.Nodes.length)=true:=hA
   rw [hA']
   simp only [Bool.not_true,cond_false,if_true,Option.bind_some,v8]
   rw [c0U t hA (fun x hx=>(hk x hx).1) hN fuel hf]
   cases a71 t.Nodes<;>rfl
 | false =>
   have hA':t.Nodes.all (a0S t.Nodes.length)=false:=hA
   rw [hA']
   rfl
theorem c4g (t:Api_Type)(hO:b73 t.Nodes)(hk:∀ x∈t.Nodes,x.Kids.length<=1100000/\x.Fields.length<=1100000)(hN:t.Nodes.length<=1100000)(fuel:Nat)(hf:t.Nodes.length+1<=fuel):J6 fuel t=some (if inR t.Nodes.length t.Root&&a7W t.Nodes then 0 else 1):=by
 rw [c2Y t hk hN fuel hf]
 cases hA:a7W t.Nodes with
 | false=>rw [Bool.and_false]; rfl
 | true=>rw [hO.acy hA]; rfl
end Go.Pl
namespace Go.Pl
open Go Go.RowKit Go.Sx Go.Qx
end Go.Pl
end
section
namespace Go.Pl
open Go Go.RowKit Go.Sx Go.Qx
structure GN (N i:Nat)(x:Api_TypeNode):Prop where
 ok:a0S N x=true
 ord:isB x=true->∀ k∈x.Kids,(i:Int)<k
 kids:x.Kids.length<=4
 text:x.Text.size<=5
 flds:x.Fields.length<=3
 keys:∀ f∈x.Fields,a35 f.Key_<=8
 rng : -9223372036854775808<=x.Lo/\x.Lo<=9223372036854775807 /\ -9223372036854775808<=x.Hi/\x.Hi<=9223372036854775807
theorem a86 {N M:Nat}(h:N<=M){k:Int}(hk:inR N k=true):inR M k=true:=by
 unfold inR at *
 simp only [Bool.and_eq_true,decide_eq_true_eq] at *
 omega
theorem b6h {α:Type}{p q:α->Bool}{l:List α}(h:∀ x,p x=true->q x=true)(k:l.all p=true):l.all q=true:=List.all_eq_true.2 fun x hx=>h x (List.all_eq_true.1 k x hx)
theorem b8i {N M:Nat}(h:N<=M){x:Api_TypeNode}(hx:a0S N x=true):a0S M x=true:=by
 unfold a0S at *
 simp only [Bool.and_eq_true] at *
 refine ⟨b6h (fun k=>a86 h) hx.1,hx.2.1,hx.2.2.1,hx.2.2.2.1,?_⟩
 have hk:=hx.2.2.2.2
 unfold a4u at *
 split<;>rename_i h3
 ·rwa [if_pos h3] at hk
 rw [if_neg h3] at hk
 split<;>rename_i h4
 ·rwa [if_pos h4] at hk
 rw [if_neg h4] at hk
 split<;>rename_i h6
 ·rwa [if_pos h6] at hk
 rw [if_neg h6] at hk
 split<;>rename_i h19
 ·rwa [if_pos h19] at hk
 rw [if_neg h19] at hk
 split<;>rename_i hs
 ·rwa [if_pos hs] at hk
 rw [if_neg hs] at hk
 split<;>rename_i h10
 ·rwa [if_pos h10] at hk
 rw [if_neg h10] at hk
 split<;>rename_i h12
 ·rwa [if_pos h12] at hk
 rw [if_neg h12] at hk
 split<;>rename_i h14
 ·rwa [if_pos h14] at hk
 rw [if_neg h14] at hk
 split<;>rename_i h16
 ·rwa [if_pos h16] at hk
 rw [if_neg h16] at hk
 split<;>rename_i h18
 ·rwa [if_pos h18] at hk
 rw [if_neg h18] at hk
 split<;>rename_i h13
 ·rw [if_pos h13] at hk
  unfold a2M at *
  simp only [Bool.and_eq_true] at *
  exact ⟨⟨hk.1.1,hk.1.2.1,b6h (fun f=>a86 h) hk.1.2.2⟩,hk.2.1,a86 h hk.2.2.1,a86 h hk.2.2.2⟩
 ·rwa [if_neg h13] at hk
theorem GN.mono {N M i:Nat}{x:Api_TypeNode}(h:GN N i x)(k:N<=M):GN M i x:=⟨b8i k h.ok,h.ord,h.kids,h.text,h.flds,h.keys,h.rng⟩
abbrev b4k (k:Int)(l:List Int):Api_TypeNode:=Api_TypeNode.mk k 0 0 (⟨#[]⟩:ByteArray) l ([]:List Api_Field) (0,0)
abbrev c4z (k:Int)(s:ByteArray):Api_TypeNode:=Api_TypeNode.mk k 0 0 s ([]:List Int) ([]:List Api_Field) (0,0)
theorem a69 {N i:Nat}{k:Int}{l:List Int}(hl:l.all (inR N)=true)(h4:l.length<=4)(hk:a4u N (b4k k l)=true)(ho:k=16\/k=17\/k=18->∀ x∈l,(i:Int)<x):GN N i (b4k k l):=by
 refine ⟨?_,fun hb=>ho ?_,h4,by show (⟨#[]⟩:ByteArray).size<=5; decide,by show (0:Nat)<=3; omega,(fun f hf=>by cases hf),by show (-9223372036854775808:Int)<=0/\(0:Int)<=9223372036854775807/\(-9223372036854775808:Int)<=0/\(0:Int)<=9223372036854775807; decide⟩
 ·unfold a0S
  rw [hk]
  simp [hl,b3H,a3n]
 ·unfold isB at hb
  simp at hb
  omega
theorem b56 {N i:Nat}{k:Int}{s:ByteArray}(hs:s.size<=5)(hk:(k=4)\/(k=6/\a4H s=true)\/(k=19/\a7y s=true)):GN N i (c4z k s):=by
 refine ⟨?_,fun hb=>?_,by show (0:Nat)<=4; omega,hs,by show (0:Nat)<=3; omega,(fun f hf=>by cases hf),by show (-9223372036854775808:Int)<=0/\(0:Int)<=9223372036854775807/\(-9223372036854775808:Int)<=0/\(0:Int)<=9223372036854775807; decide⟩
 ·have h64:(s.size:Int)<=64:=by omega
  rcases hk with rfl | ⟨rfl,h⟩ | ⟨rfl,h⟩
  ·simp [a0S,a4u,a3n,h64]
  ·simp [a0S,a4u,a3n,h]
  ·simp [a0S,a4u,a3n,h]
 ·intro x hx; cases hx
section
variable {L:List Int}
theorem b84 {γ σ τ:Type}{step:σ->Option (Fl σ τ)}(pack:γ->Int->Semtypebase_Source->σ)(out:γ->Semtypebase_Source->τ)(Inv:Nat->γ->Prop)(J:Nat)
 (hst:∀ (j:Nat) (g:γ) (s:Semtypebase_Source),j<J->Inv j g->OS L s->∃ g' s',step (pack g (j:Int) s)=some (.next (pack g' ((j+1:Nat):Int) s'))/\OS L s'/\Inv (j+1) g')
 (hend:∀ g s,step (pack g (J:Int) s)=some (.done (out g s))) :
 ∀ (n j k:Nat) (g:γ) (s:Semtypebase_Source),j+n=J->n+1<=k->Inv j g->OS L s->∃ g' s',z8 step k (pack g (j:Int) s)=some (out g' s')/\OS L s'/\Inv J g':=by
 intro n
 induction n with
 | zero =>
   intro j k g s hJ hk hI hs
   obtain ⟨k,rfl⟩:∃ m,k=m+1:=⟨k-1,by omega⟩
   have e:j=J:=by omega
   subst e
   exact ⟨g,s,by have:=hend g s; simp [z8,this],hs,hI⟩
 | succ n ih =>
   intro j k g s hJ hk hI hs
   obtain ⟨k,rfl⟩:∃ m,k=m+1:=⟨k-1,by omega⟩
   obtain ⟨g1,s1,e,hs1,hI1⟩:=hst j g s (by omega) hI hs
   obtain ⟨g2,s2,e2,hs2,hI2⟩:=ih (j+1) k g1 s1 (by omega) (by omega) hI1 hs1
   refine ⟨g2,s2,?_,hs2,hI2⟩
   simp only [z8,e,Option.bind_some]
   exact e2
theorem b62 (hL:L.length<=4194304){s:Semtypebase_Source}(h:OS L s)(m i N:Nat)(hm:m<=4)(hi:i<N)(hN:N<=100) :
 ∃ l t,y3 s (m:Int) (i:Int) (N:Int)=some (l,t)/\OS L t/\l.length=m/\∀ k∈l,(i:Int)<=k/\k<(N:Int):=by
 unfold y3
 obtain ⟨g,s',e,hs',h1,h2⟩:=c0a (γ:=List Int) (L:=L) (step:=W0 (i:Int) (N:Int)) (fun g j s=>(j,g,s)) (fun g s=>(g,s)) (fun j g=>g.length=j/\∀ k∈g,(i:Int)<=k/\k<(N:Int)) m
  (fun j n g s hj hn hI hs=>by
    obtain ⟨x,t,e,ht,a,b⟩:=J4 hL hs (n:=w64 ((N:Int)-(i:Int))) (by rw [X4 (by omega) (by omega)]; omega) (by rw [X4 (by omega) (by omega)]; omega)
    rw [X4 (by omega) (by omega)] at b
    have hw:w64 ((i:Int)+x)=(i:Int)+x:=X4 (by omega) (by omega)
    refine ⟨g++[(i:Int)+x],t,?_,ht,?_,?_⟩
    ·unfold W0
     simp only [Q4]
     rw [show decide (0<((n+1:Nat):Int))=true from decide_eq_true (by omega),e]
     simp only [cond_true,Option.bind_some,hw]
     rw [Z9 (by simp only [List.length_cons,List.length_nil]; have:=hI.1; omega),show w64 (((n+1:Nat):Int)-1)=(n:Int) by rw [X4 (by omega) (by omega)]; omega]
     rfl
    ·simp [hI.1]
    ·intro k hk
     rcases List.mem_append.1 hk with hk | hk
     ·exact hI.2 k hk
     ·rw [List.mem_singleton.1 hk]; omega) (fun g s=>by
    unfold W0
    rfl) m 0 ((m:Int).toNat+2) [] s (by omega) (by omega) ⟨rfl,fun k hk=>by cases hk⟩ h
 rw [e]
 exact ⟨g,s',rfl,hs',by simpa using h1,h2⟩
theorem a5G {N:Nat}{k:Int}(h0:0<=k)(h1:k<(N:Int)):inR N k=true:=by
 unfold inR
 simp [h0,h1]
theorem a6A {N i:Nat}{l:List Int}(h:∀ k∈l,(i:Int)<=k/\k<(N:Int)):l.all (inR N)=true:=List.all_eq_true.2 fun k hk=>by
 have:=h k hk
 exact a5G (by omega) this.2
abbrev c3k:Key:=Key.mk 0 ⟨#[97]⟩
abbrev c3m:Key:=Key.mk 0 ⟨#[98]⟩
abbrev c3d:Key:=Key.mk 1 ⟨#[115]⟩
abbrev c4p:Type:=Int×Int×Int×ByteArray×(List Int)×(List Api_Field)×Int×Int
abbrev a5V (F:List Api_Field)(a b:Int):c4p:=(13,0,0,(⟨#[]⟩:ByteArray),[],F,a,b)
theorem b0f (hL:L.length<=4194304){s:Semtypebase_Source}(h:OS L s)(N j:Nat)(hN:1<=N)(hN2:N<=100)(hj:j<3)(K:Key)(hK:[c3k,c3m,c3d][j]?=some K)(F:List Api_Field)(hF:F.length<=j)(a b:Int) :
 ∃ O t,Q5 (N:Int) ((j:Int),s,a5V F a b)=some (.next (((j+1:Nat):Int),t,a5V (F++O) a b))/\OS L t/\(O=[]\/∃ n o,O=[Api_Field.mk K n o]/\inR N n=true):=by
 obtain ⟨x,t,e,ht,_,_⟩:=J4 hL h (n:=2) (by omega) (by omega)
 unfold Q5
 simp only [Q4]
 rw [show decide ((j:Int)<3)=true from decide_eq_true (by omega),e]
 simp only [cond_true,Option.bind_some]
 rw [k9 j (by omega)]
 cases hx:x==1
 ·exact ⟨[],t,by simp only [cond_false,Option.bind_some,List.append_nil],ht,.inl rfl⟩
 ·simp only [cond_true]
  rw [k7 hK]
  obtain ⟨n,t2,e2,ht2,n0,n1⟩:=J4 hL ht (n:=(N:Int)) (by omega) (by omega)
  obtain ⟨o,t3,e3,ht3,_,_⟩:=J4 hL ht2 (n:=2) (by omega) (by omega)
  simp only [Option.bind_some,e2,e3]
  rw [Z9 (by simp only [List.length_cons,List.length_nil]; omega)]
  exact ⟨[Api_Field.mk K n (o==1)],t3,rfl,ht3,.inr ⟨n,_,rfl,a5G n0 n1⟩⟩
theorem b7h (hL:L.length<=4194304){s:Semtypebase_Source}(h:OS L s)(N i:Nat)(hN:1<=N)(hN2:N<=100):∃ x t,a0h s (N:Int)=some (x,t)/\OS L t/\GN N i x:=by
 obtain ⟨a,t1,e1,ht1,a0,a1⟩:=J4 hL h (n:=(N:Int)) (by omega) (by omega)
 obtain ⟨b,t2,e2,ht2,b0,b1⟩:=J4 hL ht1 (n:=(N:Int)) (by omega) (by omega)
 obtain ⟨O0,t3,e3,ht3,h0⟩:=b0f hL ht2 N 0 hN hN2 (by omega) c3k rfl [] (by simp) a b
 have l0:O0.length<=1:=by rcases h0 with rfl | ⟨n,o,rfl,_⟩<;>simp
 obtain ⟨O1,t4,e4,ht4,h1⟩:=b0f hL ht3 N 1 hN hN2 (by omega) c3m rfl ([]++O0) (by simpa using l0) a b
 have l1:O1.length<=1:=by rcases h1 with rfl | ⟨n,o,rfl,_⟩<;>simp
 obtain ⟨O2,t5,e5,ht5,h2⟩:=b0f hL ht4 N 2 hN hN2 (by omega) c3d rfl (([]++O0)++O1) (by simp; omega) a b
 have e6:Q5 (N:Int) (((2+1:Nat):Int),t5,a5V ((([]++O0)++O1)++O2) a b)=some (.done (t5,a5V ((([]++O0)++O1)++O2) a b)):=rfl
 refine ⟨Api_TypeNode.mk 13 0 0 (⟨#[]⟩:ByteArray) [] (O0++O1++O2) (a,b),t5,?_,ht5,?_⟩
 ·unfold a0h
  rw [e1]
  simp only [Option.bind_some]
  rw [e2]
  simp only [Option.bind_some]
  have ei:z8 (Q5 (N:Int)) ((3:Int).toNat+1) (0,t2,(13,0,0,(⟨#[]⟩:ByteArray),[],[],a,b))=some (t5,a5V ((([]++O0)++O1)++O2) a b):=by
   show z8 (Q5 (N:Int)) (3+1) (((0:Nat):Int),t2,a5V [] a b)=_
   simp only [z8,e3,e4,e5,e6,Option.bind_some]
  rw [ei]
  rfl
 ·refine ⟨?_,fun hb=>absurd hb (show ¬ (false=true) by simp),by show (0:Nat)<=4; omega,by show (⟨#[]⟩:ByteArray).size<=5; decide,?_,?_,by show (-9223372036854775808:Int)<=0/\(0:Int)<=9223372036854775807/\(-9223372036854775808:Int)<=0/\(0:Int)<=9223372036854775807; decide⟩
  ·have ha:=a5G (N:=N) a0 a1
   have hb:=a5G (N:=N) b0 b1
   have hF:a2M N (O0++O1++O2)=true:=by
    unfold a2M
    rw [Bool.and_eq_true,Bool.and_eq_true]
    refine ⟨?_,?_,?_⟩
    ·rcases h0 with rfl | ⟨n,o,rfl,_⟩<;>rcases h1 with rfl | ⟨n',o',rfl,_⟩<;>rcases h2 with rfl | ⟨n'',o'',rfl,_⟩<;>kernel_rfl
    ·rcases h0 with rfl | ⟨n,o,rfl,_⟩<;>rcases h1 with rfl | ⟨n',o',rfl,_⟩<;>rcases h2 with rfl | ⟨n'',o'',rfl,_⟩<;>kernel_rfl
    ·rcases h0 with rfl | ⟨n,o,rfl,q0⟩<;>rcases h1 with rfl | ⟨n',o',rfl,q1⟩<;>rcases h2 with rfl | ⟨n'',o'',rfl,q2⟩<;>simp_all
   unfold a0S a4u
   simp only [hF,ha,hb,b3H]
   simp
  ·show (O0++O1++O2).length<=3
   have l2:O2.length<=1:=by rcases h2 with rfl | ⟨n,o,rfl,_⟩<;>simp
   simp only [List.length_append]
   omega
  ·intro f hf
   have hf:f∈O0++O1++O2:=hf
   have one:∀ {O:List Api_Field} {K:Key},(O=[]\/∃ n o,O=[Api_Field.mk K n o]/\inR N n=true)->f∈O->f.Key_=K:=fun hO hm=>by
    rcases hO with rfl | ⟨n,o,rfl,_⟩
    ·cases hm
    ·rw [List.mem_singleton.1 hm]
   rcases List.mem_append.1 hf with hf | hf
   ·rcases List.mem_append.1 hf with hf | hf
    ·rw [one h0 hf]; decide
    ·rw [one h1 hf]; decide
   ·rw [one h2 hf]; decide
end
end Go.Pl
namespace Go.Pl
open Go Go.RowKit Go.Sx Go.Qx
theorem a99 {N i:Nat}{k:Int}(hk:k=1\/k=2\/k=5\/k=7\/k=8\/k=9\/k=11\/k=15):GN N i (b4k k []) :=
 a69 rfl (by simp) (by rcases hk with rfl | rfl | rfl | rfl | rfl | rfl | rfl | rfl<;>rfl) (fun _ x hx=>by cases hx)
theorem c2W {N i:Nat}{lo hi:Int}(h:lo<=hi)(h2 : -9223372036854775808<=lo/\lo<=9223372036854775807 /\ -9223372036854775808<=hi/\hi<=9223372036854775807):GN N i (Api_TypeNode.mk 3 lo hi (⟨#[]⟩:ByteArray) ([]:List Int) ([]:List Api_Field) (0,0)) :=
 ⟨by simp [a0S,a4u,a3n,b3H,h],(fun _ x hx=>by cases hx),(by show (0:Nat)<=4; omega),(by show (⟨#[]⟩:ByteArray).size<=5; decide),(by show (0:Nat)<=3; omega),(fun f hf=>by cases hf),h2⟩
theorem b9K:b8r.all (fun x=>a7y x&&decide (x.size<=5))=true:=by kernel_rfl
section
variable {L:List Int}
theorem b3B {x:Int}(h:0<=x):∃ m:Nat,x=(m:Int):=⟨x.toNat,by omega⟩
theorem c0l (hL:L.length<=4194304){s:Semtypebase_Source}(h:OS L s)(N i:Nat)(hi:i<N)(hN2:N<=100):∃ x t,a0D s (i:Int) (N:Int)=some (x,t)/\OS L t/\GN N i x:=by
 have hw:w64 ((N:Int)-1)=(N:Int)-1:=X4 (by omega) (by omega)
 have hwi:=k9 i (by omega)
 obtain ⟨b,hb,hlast,hb18⟩:∃ b:Int,(bif ((i:Int)==(wr .i64 ((N:Int)-1))) then (some 14:Option Int) else some 18)=some b/\(14<b->i+1<N)/\(b=14\/b=18):=by
  by_cases e:i+1=N
  ·refine ⟨14,?_,fun h=>by omega,.inl rfl⟩
   have:((i:Int)==(N:Int)-1)=true:=by simp; omega
   simp only [Q4,hw,this,cond_true]
  ·refine ⟨18,?_,fun _=>by omega,.inr rfl⟩
   have:((i:Int)==(N:Int)-1)=false:=by simp; omega
   simp only [Q4,hw,this,cond_false]
 unfold a0D
 rw [hb]
 simp only [Option.bind_some]
 obtain ⟨c,t,e,ht,c0,c1⟩:=J4 hL h (n:=b) (by omega) (by omega)
 rw [e]
 simp only [Option.bind_some]
 have ix:∀ {s:Semtypebase_Source},OS L s->∀ (m f:Nat),m<=4->f<N->∃ l t,y3 s (m:Int) (f:Int) (N:Int)=some (l,t)/\OS L t/\l.length=m/\∀ k∈l,(f:Int)<=k/\k<(N:Int):=fun hs m f hm hf=>b62 hL hs m f N hm hf hN2
 have hc:c=0\/c=1\/c=2\/c=3\/c=4\/c=5\/c=6\/c=7\/c=8\/c=9\/c=10\/c=11\/c=12\/c=13\/c=14\/c=15\/c=16\/c=17:=by omega
 have tup:∀ {s:Semtypebase_Source},OS L s->∃ x t,(Option.bind (z7 s 3) fun r19=>Option.bind (y3 r19.2 r19.1 0 (N:Int)) fun r20=>some (b4k 10 r20.1,r20.2))=some (x,t)/\OS L t/\GN N i x:=fun hs=>by
  obtain ⟨m,t2,e2,ht2,m0,m1⟩:=J4 hL hs (n:=3) (by omega) (by omega)
  obtain ⟨m,rfl⟩:=b3B m0
  obtain ⟨l,t3,e3,ht3,hl,hr⟩:=ix ht2 m 0 (by omega) (by omega)
  rw [e2]
  simp only [Option.bind_some]
  have e3':y3 t2 (m:Int) 0 (N:Int)=some (l,t3):=e3
  rw [e3']
  refine ⟨_,t3,rfl,ht3,a69 (l:=l) (a6A hr) (show l.length<=4 by omega) ?_ (fun h=>by omega)⟩
  show decide ((l.length:Int)<=4)=true
  exact decide_eq_true (by omega)
 have fun_:∀ {s:Semtypebase_Source},OS L s->∃ x t,(Option.bind (z7 s 3) fun r24=>Option.bind (y3 r24.2 (w64 (1+r24.1)) 0 (N:Int)) fun r25=>some (b4k 14 r25.1,r25.2))=some (x,t)/\OS L t/\GN N i x:=fun hs=>by
  obtain ⟨m,t2,e2,ht2,m0,m1⟩:=J4 hL hs (n:=3) (by omega) (by omega)
  obtain ⟨m,rfl⟩:=b3B m0
  obtain ⟨l,t3,e3,ht3,hl,hr⟩:=ix ht2 (m+1) 0 (by omega) (by omega)
  rw [e2]
  simp only [Option.bind_some]
  have e3':y3 t2 (w64 (1+(m:Int))) 0 (N:Int)=some (l,t3):=by
   rw [X4 (by omega) (by omega),show 1+(m:Int)=((m+1:Nat):Int) by omega]
   exact e3
  rw [e3']
  refine ⟨_,t3,rfl,ht3,a69 (l:=l) (a6A hr) (show l.length<=4 by omega) ?_ (fun h=>by omega)⟩
  show (decide (1<=(l.length:Int))&&decide ((l.length:Int)<=5))=true
  rw [Bool.and_eq_true]
  exact ⟨decide_eq_true (by omega),decide_eq_true (by omega)⟩
 have uni:i+1<N->∀ {s:Semtypebase_Source},OS L s->∃ x t,(Option.bind (z7 s 2) fun r28=>Option.bind (y3 r28.2 (w64 (2+r28.1)) (w64 ((i:Int)+1)) (N:Int)) fun r29=>some (b4k 16 r29.1,r29.2))=some (x,t)/\OS L t/\GN N i x:=fun hlt s hs=>by
  obtain ⟨m,t2,e2,ht2,m0,m1⟩:=J4 hL hs (n:=2) (by omega) (by omega)
  obtain ⟨m,rfl⟩:=b3B m0
  obtain ⟨l,t3,e3,ht3,hl,hr⟩:=ix ht2 (m+2) (i+1) (by omega) hlt
  rw [e2]
  simp only [Option.bind_some]
  have e3':y3 t2 (w64 (2+(m:Int))) (w64 ((i:Int)+1)) (N:Int)=some (l,t3):=by
   rw [X4 (x:=2+(m:Int)) (by omega) (by omega),hwi,show 2+(m:Int)=((m+2:Nat):Int) by omega]
   exact e3
  rw [e3']
  refine ⟨_,t3,rfl,ht3,a69 (l:=l) (a6A hr) (show l.length<=4 by omega) ?_ (fun _ x hx=>by have:=hr x hx; omega)⟩
  show decide (1<=(l.length:Int))=true
  exact decide_eq_true (by omega)
 rcases hc with rfl | rfl | rfl | rfl | rfl | rfl | rfl | rfl | rfl | rfl | rfl | rfl | rfl | rfl | rfl | rfl | rfl | rfl<;>simp only [Int.reduceBEq,cond_true,cond_false,Option.bind_some,Q4]
 ·obtain ⟨a,t2,e2,ht2,a0,a1⟩:=J4 hL ht (n:=5) (by omega) (by omega)
  obtain ⟨d,t3,e3,ht3,d0,d1⟩:=J4 hL ht2 (n:=w64 (5-a)) (by rw [X4 (by omega) (by omega)]; omega) (by rw [X4 (by omega) (by omega)]; omega)
  rw [X4 (x:=5-a) (by omega) (by omega)] at d1
  rw [e2]
  simp only [Option.bind_some]
  rw [e3]
  simp only [Option.bind_some]
  rw [X4 (x:=a+d) (by omega) (by omega)]
  have ha:a=0\/a=1\/a=2\/a=3\/a=4:=by omega
  have hd:d=0\/d=1\/d=2\/d=3\/d=4:=by omega
  rcases ha with rfl | rfl | rfl | rfl | rfl<;>rcases hd with rfl | rfl | rfl | rfl | rfl<;>first | (exfalso; omega) | exact ⟨_,t3,rfl,ht3,c2W (by decide) (by decide)⟩
 ·obtain ⟨x,t2,e2,ht2,hx⟩:=b7b hL ht
  have hf:=List.all_eq_true.1 b8x x hx
  simp only [Bool.and_eq_true,decide_eq_true_eq] at hf
  rw [e2]
  exact ⟨_,t2,rfl,ht2,b56 hf.2 (.inr (.inl ⟨rfl,hf.1⟩))⟩
 ·exact ⟨_,t,rfl,ht,a99 (by omega)⟩
 ·obtain ⟨x,t2,e2,ht2,hx⟩:=c13 hL ht
  have hf:=List.all_eq_true.1 b8u x hx
  simp only [decide_eq_true_eq] at hf
  rw [e2]
  exact ⟨_,t2,rfl,ht2,b56 hf (.inl rfl)⟩
 ·obtain ⟨a,t2,e2,ht2,a0,a1⟩:=J4 hL ht (n:=4) (by omega) (by omega)
  rw [e2]
  have ha:a=0\/a=1\/a=2\/a=3:=by omega
  rcases ha with rfl | rfl | rfl | rfl<;>exact ⟨_,t2,rfl,ht2,a99 (by omega)⟩
 ·exact ⟨_,t,rfl,ht,a99 (by omega)⟩
 ·obtain ⟨a,t2,e2,ht2,a0,a1⟩:=J4 hL ht (n:=2) (by omega) (by omega)
  rw [e2]
  have ha:a=0\/a=1:=by omega
  rcases ha with rfl | rfl<;>exact ⟨_,t2,rfl,ht2,a99 (by omega)⟩
 ·obtain ⟨x,t2,e2,ht2,hx⟩:=c0L hL ht
  have hf:=List.all_eq_true.1 b9K x hx
  simp only [Bool.and_eq_true,decide_eq_true_eq] at hf
  rw [e2]
  exact ⟨_,t2,rfl,ht2,b56 hf.2 (.inr (.inr ⟨rfl,hf.1⟩))⟩
 ·exact tup ht
 ·exact tup ht
 ·obtain ⟨l,t3,e3,ht3,hl,hr⟩:=ix ht 2 0 (by omega) (by omega)
  have e3':y3 t 2 0 (N:Int)=some (l,t3):=e3
  rw [e3']
  refine ⟨_,t3,rfl,ht3,a69 (l:=l) (a6A hr) (show l.length<=4 by omega) ?_ (fun h=>by omega)⟩
  show ((l.length:Int)==2)=true
  simp [hl]
 ·obtain ⟨x,t2,e2,ht2,hg⟩:=b7h hL ht N i (by omega) hN2
  rw [e2]
  exact ⟨x,t2,rfl,ht2,hg⟩
 ·exact fun_ ht
 ·exact fun_ ht
 ·have hlt:=hlast (by omega)
  obtain ⟨l,t3,e3,ht3,hl,hr⟩:=ix ht 1 (i+1) (by omega) hlt
  have e3':y3 t 1 (w64 ((i:Int)+1)) (N:Int)=some (l,t3):=by rw [hwi]; exact e3
  rw [e3']
  refine ⟨_,t3,rfl,ht3,a69 (l:=l) (a6A hr) (show l.length<=4 by omega) ?_ (fun _ x hx=>by have:=hr x hx; omega)⟩
  show ((l.length:Int)==1)=true
  simp [hl]
 ·have hlt:=hlast (by omega)
  obtain ⟨l,t3,e3,ht3,hl,hr⟩:=ix ht 2 (i+1) (by omega) hlt
  have e3':y3 t 2 (w64 ((i:Int)+1)) (N:Int)=some (l,t3):=by rw [hwi]; exact e3
  rw [e3']
  refine ⟨_,t3,rfl,ht3,a69 (l:=l) (a6A hr) (show l.length<=4 by omega) ?_ (fun _ x hx=>by have:=hr x hx; omega)⟩
  show decide (1<=(l.length:Int))=true
  exact decide_eq_true (by omega)
 ·exact uni (hlast (by omega)) ht
 ·exact uni (hlast (by omega)) ht
def GNs (N:Nat)(ns:List Api_TypeNode):Prop:=∀ (i:Nat) (x:Api_TypeNode),ns[i]?=some x->GN N i x
theorem GNs.snoc {N:Nat}{ns:List Api_TypeNode}{x:Api_TypeNode}(h:GNs N ns)(hx:GN N ns.length x):GNs N (ns++[x]):=fun i y hy=>by
 by_cases hi:i<ns.length
 ·rw [List.getElem?_append_left hi] at hy
  exact h i y hy
 ·have hlt:=(List.getElem?_eq_some_iff.1 hy).1
  simp only [List.length_append,List.length_cons,List.length_nil] at hlt
  have e:i=ns.length:=by omega
  subst e
  simp at hy
  subst hy
  exact hx
theorem c0b (hL:L.length<=4194304){s:Semtypebase_Source}(h:OS L s)(N:Nat)(hN:1<=N)(hN2:N<=100):∃ ns t,a0C s (N:Int)=some ((ns,0),t)/\OS L t/\ns.length=N/\GNs N ns:=by
 unfold a0C
 have hmax:max (N:Int) 1=(N:Int):=by omega
 rw [hmax,Int.toNat_natCast]
 obtain ⟨g,s',e,hs',h1,h2⟩:=b84 (γ:=List Api_TypeNode) (L:=L) (step:=V1 (N:Int)) (fun g j s=>(j,s,(g,0))) (fun g s=>(s,(g,0))) (fun j g=>g.length=j/\GNs N g) N
  (fun j g s hj hI hs=>by
    obtain ⟨x,t,e,ht,hx⟩:=c0l hL hs N j hj hN2
    refine ⟨g++[x],t,?_,ht,by simp [hI.1],hI.2.snoc (by rw [hI.1]; exact hx)⟩
    unfold V1
    simp only [Q4,hmax]
    rw [J1 hj,e]
    simp only [cond_true,Option.bind_some]
    rw [Z9 (by simp only [List.length_cons,List.length_nil]; have:=hI.1; omega),k9 j (by omega)]
    rfl) (fun g s=>by
    unfold V1
    simp [hmax]) N 0 (N+1) [] s (by omega) (Nat.le_refl _) ⟨rfl,fun i x hx=>by simp at hx⟩ h
 have e':z8 (V1 (N:Int)) (N+1) (0,s,([],0))=some (s',(g,0)):=e
 rw [e']
 exact ⟨g,s',rfl,hs',h1,h2⟩
end
end Go.Pl
end
section
namespace Go.Pl
open Go Go.RowKit Go.Sx Go.Qx
theorem c3U {a b:ByteArray}(h:cS a b=0):a=b:=by
 rcases b0K a.data.toList b.data.toList with ⟨_,e,_⟩ | ⟨_,_,e⟩ | ⟨_,e,_⟩
 ·have:cS a b = -1:=e
  omega
 ·exact ByteArray.ext (Array.toList_inj.1 e)
 ·have:cS a b=1:=e
  omega
theorem c1k {a b:Key}(h:cK a b=0):a=b:=by
 obtain ⟨k,t⟩:=a
 obtain ⟨k2,t2⟩:=b
 unfold cK tn at h
 simp only at h
 rcases J9 k k2 with ⟨_,e⟩ | ⟨_,e⟩ | ⟨p,e⟩
 ·rw [e] at h; simp at h
 ·rw [e] at h; simp at h
 ·rw [e,if_pos rfl] at h
  rw [p,c3U h]
theorem b2X (a b c:Key)(h1:cK a b<=0)(h2:cK b c<=0):cK a c<=0:=by rw [b5B] at *; exact b6O _ _ _ h1 h2
theorem c1s (a:Key):cK a a=0:=by rw [b5B]; exact c1H _
theorem b4T {a b c:Key}(h1:cK a b<0)(h2:cK b c<=0):cK a c<0:=by
 have h3:=b2X a b c (by omega) h2
 by_cases h:cK a c=0
 ·have:=c1k h
  subst this
  have:=a8w a b
  omega
 ·omega
abbrev ltK (a b:Key):Prop:=cK a b<0
theorem asc_pw:∀ l:List Key,asc cK l=true↔l.Pairwise ltK
 | []=>by simp [asc]
 | [a]=>by simp [asc]
 | a::b::r=>by
   have ih:=asc_pw (b::r)
   simp only [asc,Bool.and_eq_true,decide_eq_true_eq]
   rw [ih,List.pairwise_cons (a:=a)]
   constructor
   ·intro ⟨h1,h2⟩
    refine ⟨fun x hx=>?_,h2⟩
    rcases List.mem_cons.1 hx with rfl | hx
    ·exact h1
    ·have:=(List.pairwise_cons.1 h2).1 x hx
     exact b4T h1 (by unfold ltK at this; omega)
   ·intro ⟨h1,h2⟩
    exact ⟨h1 b (by simp),h2⟩
end Go.Pl
end
section
namespace Go.Pl
open Go Go.RowKit Go.Sx Go.Qx
structure CmpOk {α:Type}(c:α->α->Int):Prop where
 anti:∀ a b,c b a = - c a b
 trans:∀ a b d,c a b<=0->c b d<=0->c a d<=0
 eq0:∀ a b,c a b=0->a=b
theorem cI0 {x y:Int}(h:cI x y=0):x=y:=by
 rcases J9 x y with ⟨_,e⟩ | ⟨_,e⟩ | ⟨p,_⟩
 ·omega
 ·omega
 ·exact p
section
variable {α:Type}{c:α->α->Int}(hc:CmpOk c)
include hc
theorem CmpOk.self (a:α):c a a=0:=by have:=hc.anti a a; omega
theorem CmpOk.strict {a b d:α}(h1:c a b<0)(h2:c b d<=0):c a d<0:=by
 have h3:=hc.trans a b d (by omega) h2
 by_cases h:c a d=0
 ·have:=hc.eq0 _ _ h
  subst this
  have:=hc.anti a b
  omega
 ·omega
theorem CmpOk.asc_pw:∀ l:List α,asc c l=true↔l.Pairwise fun a b=>c a b<0
 | []=>by simp [asc]
 | [a]=>by simp [asc]
 | a::b::r=>by
   have ih:=CmpOk.asc_pw (b::r)
   simp only [asc,Bool.and_eq_true,decide_eq_true_eq]
   rw [ih,List.pairwise_cons (a:=a)]
   constructor
   ·intro ⟨h1,h2⟩
    refine ⟨fun x hx=>?_,h2⟩
    rcases List.mem_cons.1 hx with rfl | hx
    ·exact h1
    ·have:=(List.pairwise_cons.1 h2).1 x hx
     exact hc.strict h1 (by omega)
   ·intro ⟨h1,h2⟩
    exact ⟨h1 b (by simp),h2⟩
theorem CmpOk.nodup {l:List α}(h:l.Pairwise fun a b=>c a b<0):l.Nodup:=h.imp fun {a b} h e=>by
 subst e
 have:=hc.self a
 omega
theorem CmpOk.uniq {l m:List α}(h1:asc c l=true)(h2:asc c m=true)(h:∀ x,x∈l↔x∈m):l=m:=by
 have p1:=(hc.asc_pw l).1 h1
 have p2:=(hc.asc_pw m).1 h2
 have hp:=(List.perm_ext_iff_of_nodup (hc.nodup p1) (hc.nodup p2)).2 h
 exact hp.eq_of_pairwise (le:=fun a b=>c a b<0) (fun a b _ _ h1 h2=>by have:=hc.anti a b; omega) p1 p2
omit hc in
def a3Y (c:α->α->Int)(out:List α)(x:α):List α :=
 match (out.dropWhile (fun y=>decide (c y x<0))).head? with
 | some y=>if c y x=0 then out else a0V (fun y=>decide (c y x<0)) x out
 | none=>a0V (fun y=>decide (c y x<0)) x out
omit hc in
theorem b5b {p:α->Bool}{x y:α}{out:List α}:y∈a0V p x out↔y=x\/y∈out:=by
 constructor
 ·exact b9S
 ·intro h
  have e:=List.takeWhile_append_dropWhile (p:=p) (l:=out)
  simp only [a0V,List.mem_append,List.mem_singleton]
  rcases h with h | h
  ·exact .inl (.inr h)
  ·rw [<- e] at h
   rcases List.mem_append.1 h with h | h
   ·exact .inl (.inl h)
   ·exact .inr h
theorem c0B {x y:α}{out:List α}:y∈a3Y c out x↔y=x\/y∈out:=by
 unfold a3Y
 split
 ·rename_i z hz
  split
  ·rename_i h0
   have:=hc.eq0 _ _ h0
   subst this
   have hm:z∈out:=(List.dropWhile_sublist _).subset (List.mem_of_mem_head? hz)
   constructor
   ·exact .inr
   ·rintro (rfl | h)
    ·exact hm
    ·exact h
  ·exact b5b
 ·exact b5b
theorem c0x (out:List α)(x:α)(h:asc c out=true):asc c (a3Y c out x)=true:=by
 unfold a3Y
 split
 ·rename_i y hy
  split
  ·exact h
  ·rename_i hne
   refine b4F c hc.anti x out h (fun z hz=>?_)
   rw [hy] at hz
   cases hz
   exact hne
 ·rename_i hy
  refine b4F c hc.anti x out h (fun z hz=>?_)
  rw [hy] at hz; cases hz
theorem c1b:∀ (xs out:List α),asc c out=true->asc c (xs.foldl (a3Y c) out)=true/\∀ y,y∈xs.foldl (a3Y c) out↔y∈out\/y∈xs
 | [],out,h=>⟨h,fun y=>by simp⟩
 | x::r,out,h=>by
   obtain ⟨h1,h2⟩:=c1b r (a3Y c out x) (c0x hc out x h)
   refine ⟨h1,fun y=>?_⟩
   rw [List.foldl_cons,h2,c0B hc,List.mem_cons]
   constructor
   ·rintro ((h | h) | h)
    ·exact .inr (.inl h)
    ·exact .inl h
    ·exact .inr (.inr h)
   ·rintro (h | h | h)
    ·exact .inl (.inr h)
    ·exact .inl (.inl h)
    ·exact .inr h
theorem c4B (xs:List α):asc c (xs.foldl (a3Y c) [])=true/\∀ y,y∈xs.foldl (a3Y c) []↔y∈xs:=by
 obtain ⟨h1,h2⟩:=c1b hc xs [] rfl
 exact ⟨h1,fun y=>by rw [h2]; simp⟩
omit hc in
def dd (r:α->α->Bool):α->List α->List α
 | _,[]=>[]
 | p,x::l=>if r x p=true then dd r x l else x::dd r x l
omit hc in
def a2B (r:α->α->Bool):List α->List α
 | []=>[]
 | x::l=>x::dd r x l
theorem c1q:∀ (l:List α) (p:α),(p::l).Pairwise (fun a b=>¬ c b a<0) ->
 (p::dd (fun x y=>decide (c x y=0)) p l).Pairwise (fun a b=>c a b<0)/\∀ y,y∈p::dd (fun x y=>decide (c x y=0)) p l↔y∈p::l
 | [],p,_=>⟨by simp [dd],fun y=>by simp [dd]⟩
 | x::l,p,h=>by
   have hp:=List.pairwise_cons.1 h
   obtain ⟨h1,h2⟩:=c1q l x hp.2
   simp only [dd]
   by_cases h0:c x p=0
   ·rw [if_pos (by simpa using h0)]
    have:=hc.eq0 _ _ h0
    subst this
    refine ⟨h1,fun y=>?_⟩
    rw [h2]
    simp
   ·rw [if_neg (by simpa using h0)]
    have hlt:c p x<0:=by have:=hp.1 x (by simp); have:=hc.anti p x; omega
    refine ⟨List.pairwise_cons.2 ⟨fun b hb=>?_,h1⟩,fun y=>?_⟩
    ·rcases List.mem_cons.1 hb with rfl | hb
     ·exact hlt
     ·exact hc.strict hlt (by have:=(List.pairwise_cons.1 h1).1 b hb; omega)
    ·rw [List.mem_cons,h2,List.mem_cons (b:=p)]
theorem b6W (l:List α)(h:l.Pairwise fun a b=>¬ c b a<0):asc c (a2B (fun x y=>decide (c x y=0)) l)=true/\∀ y,y∈a2B (fun x y=>decide (c x y=0)) l↔y∈l:=by
 cases l with
 | nil=>exact ⟨rfl,fun y=>Iff.rfl⟩
 | cons p l =>
   obtain ⟨h1,h2⟩:=c1q hc l p h
   exact ⟨(hc.asc_pw _).2 h1,h2⟩
theorem b7a {xs p:List α}(hp:p.Perm xs)(hs:p.Pairwise fun a b=>¬ c b a<0):a2B (fun x y=>decide (c x y=0)) p=xs.foldl (a3Y c) []:=by
 obtain ⟨h1,h2⟩:=b6W hc p hs
 obtain ⟨h3,h4⟩:=c4B hc xs
 exact hc.uniq h1 h3 fun y=>by rw [h2,h4,hp.mem_iff]
end
section
variable {α:Type}{r:α->α->Bool}
theorem b70 {ok:α->Prop}{step:(Int×Int)×List α->Option (Fl ((Int×Int)×List α) (Int×List α))}(i0 n:Nat)
 (hst:∀ (i k:Nat) (s:List α) (x y:α),ok x->s.length=n->i0+k<n->1<=k->i<i0+k->s[i0+k]?=some x->s[i0+k-1]?=some y ->
   step (((i:Int),(k:Int)),s)=some (.next (if r x y=true then (((i:Int),((k+1:Nat):Int)),s) else ((((i+1:Nat):Int),((k+1:Nat):Int)),s.set i x))))
 (hend:∀ (i:Int) (k:Nat) (s:List α),s.length=n->i0+k=n->step ((i,(k:Int)),s)=some (.done (i,s))) :
 ∀ (m i k:Nat) (s:List α) (y:α) (fuel:Nat),s.length=n->i0+k+m=n->1<=k->i<i0+k->s[i0+k-1]?=some y->m+1<=fuel->(∀ x∈s,ok x) ->
  ∃ s',z8 step fuel (((i:Int),(k:Int)),s)=some (((i+(dd r y (s.drop (i0+k))).length:Nat):Int),s')/\s'.length=n/\s'.take (i+(dd r y (s.drop (i0+k))).length)=s.take i++dd r y (s.drop (i0+k)):=by
 intro m
 induction m with
 | zero =>
   intro i k s y fuel hl hm hk hi hy hf hok
   obtain ⟨fuel,rfl⟩:∃ m,fuel=m+1:=⟨fuel-1,by omega⟩
   have e:s.drop (i0+k)=[]:=List.drop_eq_nil_of_le (by omega)
   rw [e]
   refine ⟨s,?_,hl,?_⟩
   ·simp only [z8,hend (i:Int) k s hl (by omega),Option.bind_some]
    rfl
   ·simp [dd]
 | succ m ih =>
   intro i k s y fuel hl hm hk hi hy hf hok
   obtain ⟨fuel,rfl⟩:∃ m,fuel=m+1:=⟨fuel-1,by omega⟩
   have hlt:i0+k<s.length:=by omega
   have hx:=List.getElem?_eq_getElem hlt
   rw [List.drop_eq_getElem_cons hlt]
   simp only [dd]
   simp only [z8,hst i k s _ y (hok _ (List.getElem_mem hlt)) hl (by omega) hk hi hx hy,Option.bind_some]
   by_cases h:r s[i0+k] y=true
   ·rw [if_pos h,if_pos h]
    have:=ih i (k+1) s s[i0+k] fuel hl (by omega) (by omega) (by omega) (by rw [show i0+(k+1)-1=i0+k by omega]; exact hx) (by omega) hok
    rw [show i0+(k+1)=i0+k+1 by omega] at this
    exact this
   ·rw [if_neg h,if_neg h]
    have hd:(s.set i s[i0+k]).drop (i0+k+1)=s.drop (i0+k+1):=by
     rw [List.drop_set_of_lt (by omega)]
    have:=ih (i+1) (k+1) (s.set i s[i0+k]) s[i0+k] fuel (by rw [List.length_set]; exact hl) (by omega) (by omega) (by omega) (by
     rw [show i0+(k+1)-1=i0+k by omega]
     by_cases e:i=i0+k
     ·omega
     ·rw [List.getElem?_set_ne e]; exact hx) (by omega) (fun z hz=>by
     rcases List.mem_or_eq_of_mem_set hz with hz | rfl
     ·exact hok z hz
     ·exact hok _ (List.getElem_mem hlt))
    rw [show i0+(k+1)=i0+k+1 by omega,hd] at this
    obtain ⟨s',h1,h2,h3⟩:=this
    refine ⟨s',?_,h2,?_⟩
    ·rw [h1,List.length_cons]
     congr 3
     omega
    ·rw [List.length_cons,show i+((dd r s[i0+k] (s.drop (i0+k+1))).length+1)=i+1+(dd r s[i0+k] (s.drop (i0+k+1))).length by omega,h3]
     have e:(s.set i s[i0+k]).take (i+1)=s.take i++[s[i0+k]]:=by
      rw [a7C (x:=s[i0+k]) (by rw [List.getElem?_set_self (by omega)]),List.take_set_of_le (Nat.le_refl _)]
     rw [e,List.append_assoc]
     rfl
theorem b4R {step:(Int×Int)×List α->Option (Fl ((Int×Int)×List α) (Int×List α))}(i0 n:Nat)
 (hst:∀ (i k:Nat) (s:List α) (x y:α),s.length=n->i0+k<n->1<=k->i<i0+k->s[i0+k]?=some x->s[i0+k-1]?=some y ->
   step (((i:Int),(k:Int)),s)=some (.next (if r x y=true then (((i:Int),((k+1:Nat):Int)),s) else ((((i+1:Nat):Int),((k+1:Nat):Int)),s.set i x))))
 (hend:∀ (i:Int) (k:Nat) (s:List α),s.length=n->i0+k=n->step ((i,(k:Int)),s)=some (.done (i,s)))
 (m i k:Nat) (s:List α) (y:α) (fuel:Nat) (h1:s.length=n) (h2:i0+k+m=n) (h3:1<=k) (h4:i<i0+k) (h5:s[i0+k-1]?=some y) (h6:m+1<=fuel) :
   ∃ s',z8 step fuel (((i:Int),(k:Int)),s)=some (((i+(dd r y (s.drop (i0+k))).length:Nat):Int),s')/\s'.length=n/\s'.take (i+(dd r y (s.drop (i0+k))).length)=s.take i++dd r y (s.drop (i0+k)) :=
 b70 (ok:=fun _=>True) i0 n (fun i k s x y _=>hst i k s x y) hend m i k s y fuel h1 h2 h3 h4 h5 h6 (fun _ _=>trivial)
theorem b3T:∀ (l:List α) (p:α),(dd r p l).length<=l.length
 | [],_=>Nat.le_refl _
 | x::l,p=>by
   have:=b3T l x
   simp only [dd]
   split
   ·simp only [List.length_cons]; omega
   ·simp only [List.length_cons]; omega
theorem a8c:∀ (a:List α) (p:α) (l:List α),(∀ (i:Nat) (x y:α),(a++[p])[i+1]?=some x->(a++[p])[i]?=some y->r x y=false)->a2B r (a++p::l)=a++p::dd r p l
 | [],p,l,_=>rfl
 | x::a,p,l,h=>by
   have h2:=a8c a p l (fun i u v h1 h2=>h (i+1) u v (by simpa using h1) (by simpa using h2))
   cases a with
   | nil =>
     have h0:=h 0 p x rfl rfl
     show x::dd r x (p::l)=_
     simp [dd,h0]
   | cons y a =>
     have h0:=h 0 y x rfl rfl
     show x::dd r x (y::(a++p::l))=_
     simp only [dd,h0,Bool.false_eq_true,if_false]
     have h2':y::dd r y (a++p::l)=y::a++p::dd r p l:=h2
     rw [h2']
     rfl
end
end Go.Pl
namespace Go.Pl
open Go Go.RowKit Go.Sx Go.Qx
theorem c0z {α:Type}(c:α->α->Int)(out:List α)(x:α):(a3Y c out x).length<=out.length+1:=by
 unfold a3Y
 split
 ·split
  ·omega
  ·rw [b5c]; omega
 ·rw [b5c]; omega
section
variable {α:Type}{r:α->α->Bool}
theorem b4Q {step:List α×Int->Option (Fl (List α×Int) (Sum (List α) (List α)))}(s:List α)(hl:1<=s.length)
 (hst:∀ (i:Nat) (x y:α),1<=i->s[i]?=some x->s[i-1]?=some y->r x y=false->step (s,(i:Int))=some (.next (s,((i+1:Nat):Int))))
 (hhit:∀ (i:Nat) (x y:α),1<=i->s[i]?=some x->s[i-1]?=some y->r x y=true->∃ q:List α,step (s,(i:Int))=some (.done (.inr (s.take i++dd r x (s.drop (i+1))))))
 (hend:step (s,(s.length:Int))=some (.done (.inl s))) :
 (z8 step (s.length+1) (s,1)=some (.inl s)/\a2B r s=s)\/∃ q:List α,z8 step (s.length+1) (s,1)=some (.inr (a2B r s)):=by
 have key:∀ (m i fuel:Nat),i+m=s.length->1<=i->m+1<=fuel->(∀ j:Nat,(hj:j+1<s.length)->j+1<i->r s[j+1] (s[j]'(by omega))=false) ->
  (z8 step fuel (s,(i:Int))=some (.inl s)/\a2B r s=s)\/∃ q:List α,z8 step fuel (s,(i:Int))=some (.inr (a2B r s)):=by
  intro m
  induction m with
  | zero =>
    intro i fuel hm hi hf hok
    obtain ⟨fuel,rfl⟩:∃ m,fuel=m+1:=⟨fuel-1,by omega⟩
    have e:i=s.length:=by omega
    subst e
    left
    refine ⟨by simp only [z8,hend,Option.bind_some],?_⟩
    have h1:s.length-1<s.length:=by omega
    have hs:s=s.take (s.length-1)++s[s.length-1]::[]:=by
     have:=a7C (List.getElem?_eq_getElem h1)
     rw [show s.length-1+1=s.length by omega,List.take_length] at this
     exact this
    have hc:=a8c (r:=r) (s.take (s.length-1)) s[s.length-1] [] (by
     rw [<- hs]
     intro j x y h1 h2
     have hj:=(List.getElem?_eq_some_iff.1 h1).1
     rw [List.getElem?_eq_getElem hj] at h1
     rw [List.getElem?_eq_getElem (by omega)] at h2
     cases h1; cases h2
     exact hok j hj (by omega))
    rw [<- hs] at hc
    rw [hc]
    exact hs.symm
  | succ m ih =>
    intro i fuel hm hi hf hok
    obtain ⟨fuel,rfl⟩:∃ m,fuel=m+1:=⟨fuel-1,by omega⟩
    have hlt:i<s.length:=by omega
    have hlt2:i-1<s.length:=by omega
    have hx:=List.getElem?_eq_getElem hlt
    have hy:=List.getElem?_eq_getElem hlt2
    by_cases h:r s[i] s[i-1]=true
    ·right
     obtain ⟨q,hq⟩:=hhit i _ _ hi hx hy h
     refine ⟨q,?_⟩
     simp only [z8,hq,Option.bind_some]
     have hs:s=s.take (i-1)++s[i-1]::s[i]::s.drop (i+1):=by
      have e1:=List.take_append_drop (i-1) s
      have e2:=List.drop_eq_getElem_cons hlt2
      have e3:=List.drop_eq_getElem_cons hlt
      rw [show i-1+1=i by omega,e3] at e2
      rw [<- e2]
      exact e1.symm
     have hc:=a8c (r:=r) (s.take (i-1)) s[i-1] (s[i]::s.drop (i+1)) (by
      have e:s.take (i-1)++[s[i-1]]=s.take i:=by
       have:=a7C hy
       rw [show i-1+1=i by omega] at this
       exact this.symm
      rw [e]
      intro j x y h1 h2
      have hj:=(List.getElem?_eq_some_iff.1 h1).1
      have hj':j+1<i:=by rw [List.length_take] at hj; omega
      rw [List.getElem?_take_of_lt hj',List.getElem?_eq_getElem (by omega)] at h1
      rw [List.getElem?_take_of_lt (by omega),List.getElem?_eq_getElem (by omega)] at h2
      cases h1; cases h2
      exact hok j (by omega) hj')
     rw [<- hs] at hc
     rw [hc]
     have e:s.take i=s.take (i-1)++[s[i-1]]:=by
      have:=a7C hy
      rw [show i-1+1=i by omega] at this
      exact this
     rw [e,List.append_assoc]
     simp only [dd,h,if_true]
     rfl
    ·have h':r s[i] s[i-1]=false:=by simpa using h
     simp only [z8,hst i _ _ hi hx hy h',Option.bind_some]
     refine ih (i+1) fuel (by omega) (by omega) (by omega) (fun j hj hji=>?_)
     by_cases e:j+1<i
     ·exact hok j hj e
     ·have:j+1=i:=by omega
      subst this
      exact h'
 exact key (s.length-1) 1 (s.length+1) (by omega) (Nat.le_refl _) (by omega) (fun j _ h=>by omega)
theorem b7o {β γ:Type}(z:α)(j n:Nat)(s' T:List α)(hl:s'.length=n)(hj:j<n)(ht:s'.take j=T) :
 ∃ q:List α,(Option.bind (idx s' (j:Int)) fun _=>bif Nat.blt (j:Int).toNat s'.length then (Option.bind (cut (s'.take (j:Int).toNat++List.replicate (s'.length-(j:Int).toNat) z) 0 (j:Int)) fun y =>
  some (Fl.done (Sum.inr y):Fl β (Sum γ (List α)))) else none)=some (.done (.inr T)):=by
 refine ⟨s'.take j++List.replicate (s'.length-j) z,?_⟩
 have e:(j:Int).toNat=j:=by omega
 rw [k7 (List.getElem?_eq_getElem (show j<s'.length by omega)),e]
 simp only [Option.bind_some]
 have eb:Nat.blt j s'.length=true:=by simp [Nat.blt]; omega
 rw [eb,c2O _ (by simp; omega)]
 simp only [cond_true,Option.bind_some]
 rw [List.take_append_of_le_length (by simp; omega),List.take_take,Nat.min_self,ht]
end
theorem a43 (n:Nat)(h:n<=4611686018427387904)(h1:1<=n):w64 ((n:Int)-1)=((n-1:Nat):Int):=by rw [X4 (by omega) (by omega)]; omega
end Go.Pl
end
section
namespace Go.Pl
open Go Go.RowKit Go.Sx Go.Qx
section
variable {L:List Int}{t:Api_Type}{N b:Nat}{h:Nat}{rN:Semtypebase_Source->Api_Type->Int->Int->Option (Val×Semtypebase_Source)}
end
end Go.Pl
namespace Go.Pl
open Go Go.RowKit Go.Sx Go.Qx
structure GT (t:Api_Type):Prop where
 len:t.Nodes.length<=10
 nodes:GNs t.Nodes.length t.Nodes
section
variable {L:List Int}{t:Api_Type}
end
end Go.Pl
namespace Go.Pl
open Go Go.RowKit Go.Sx Go.Qx
section
variable {L:List Int}{t:Api_Type}
end
end Go.Pl
end
section
namespace Go.Pl
open Go Go.RowKit Go.Sx Go.Qx
section
variable {L:List Int}
abbrev c4R:Type:=Int×Int×(List Api_Range)×Bool×(List ByteArray)×(List Int)×(List Int)×(List ByteArray)×(List ByteArray)
abbrev b9V (P Q:List Int):c4R:=(8,0,[],false,[],P,Q,[],[])
theorem b4P (hL:L.length<=4194304){s:Semtypebase_Source}(h:OS L s)(r2:((List Api_TypeNode)×Int)×Semtypebase_Source)(N j:Nat)(hr:r2.1.1.length=N)(hN:1<=N)(hN2:N<=100)(hj:j<2)(tx:ByteArray)
 (hK:([(⟨#[97]⟩:ByteArray),(⟨#[98]⟩:ByteArray)]:List ByteArray)[j]?=some tx) (F:List Api_Field) (hF:F.length<=j) (a b:Int) :
 ∃ O t,X1 r2 ((j:Int),s,a5V F a b)=some (.next (((j+1:Nat):Int),t,a5V (F++O) a b))/\OS L t/\(O=[]\/∃ n o,O=[Api_Field.mk (Key.mk 0 tx) n o]/\inR N n=true):=by
 obtain ⟨x,t,e,ht,_,_⟩:=J4 hL h (n:=2) (by omega) (by omega)
 unfold X1
 simp only [Q4]
 rw [show decide ((j:Int)<2)=true from decide_eq_true (by omega),e]
 simp only [cond_true,Option.bind_some]
 rw [k9 j (by omega),hr]
 cases hx:x==1
 ·exact ⟨[],t,by simp only [cond_false,Option.bind_some,List.append_nil],ht,.inl rfl⟩
 ·simp only [cond_true]
  rw [k7 hK,Int.toNat_natCast,hK]
  obtain ⟨n,t2,e2,ht2,n0,n1⟩:=J4 hL ht (n:=(N:Int)) (by omega) (by omega)
  obtain ⟨o,t3,e3,ht3,_,_⟩:=J4 hL ht2 (n:=2) (by omega) (by omega)
  simp only [Option.bind_some,e2,e3]
  rw [Z9 (by simp only [List.length_cons,List.length_nil]; omega)]
  exact ⟨[Api_Field.mk (Key.mk 0 tx) n (o==1)],t3,rfl,ht3,.inr ⟨n,_,rfl,a5G n0 n1⟩⟩
theorem c0F (hL:L.length<=4194304){s:Semtypebase_Source}(h:OS L s)(r2:((List Api_TypeNode)×Int)×Semtypebase_Source)(N i:Nat)(hr:r2.1.1.length=N)(hN:1<=N)(hN2:N<=100){a b:Int}(ha:inR N a=true)(hb:inR N b=true) :
 ∃ F t,z8 (X1 r2) ((2:Int).toNat+1) (0,s,(13,0,0,(⟨#[]⟩:ByteArray),[],[],a,b))=some (t,a5V F a b)/\OS L t/\F.length<=2/\GN N i (Api_TypeNode.mk 13 0 0 (⟨#[]⟩:ByteArray) [] F (a,b)):=by
 obtain ⟨O0,t3,e3,ht3,h0⟩:=b4P hL h r2 N 0 hr hN hN2 (by omega) _ rfl [] (by simp) a b
 have l0:O0.length<=1:=by rcases h0 with rfl | ⟨n,o,rfl,_⟩<;>simp
 obtain ⟨O1,t4,e4,ht4,h1⟩:=b4P hL ht3 r2 N 1 hr hN hN2 (by omega) _ rfl ([]++O0) (by simpa using l0) a b
 have l1:O1.length<=1:=by rcases h1 with rfl | ⟨n,o,rfl,_⟩<;>simp
 have e6:X1 r2 (((1+1:Nat):Int),t4,a5V (([]++O0)++O1) a b)=some (.done (t4,a5V (([]++O0)++O1) a b)):=rfl
 refine ⟨O0++O1,t4,?_,ht4,by simp only [List.length_append]; omega,?_⟩
 ·show z8 (X1 r2) (2+1) (((0:Nat):Int),s,a5V [] a b)=_
  simp only [z8,e3,e4,e6,Option.bind_some]
  rfl
 ·refine ⟨?_,fun hb=>absurd hb (show ¬ (false=true) by simp),by show (0:Nat)<=4; omega,by show (⟨#[]⟩:ByteArray).size<=5; decide,?_,?_,by show (-9223372036854775808:Int)<=0/\(0:Int)<=9223372036854775807/\(-9223372036854775808:Int)<=0/\(0:Int)<=9223372036854775807; decide⟩
  ·have hF:a2M N (O0++O1)=true:=by
    unfold a2M
    rw [Bool.and_eq_true,Bool.and_eq_true]
    refine ⟨?_,?_,?_⟩
    ·rcases h0 with rfl | ⟨n,o,rfl,_⟩<;>rcases h1 with rfl | ⟨n',o',rfl,_⟩<;>kernel_rfl
    ·rcases h0 with rfl | ⟨n,o,rfl,_⟩<;>rcases h1 with rfl | ⟨n',o',rfl,_⟩<;>kernel_rfl
    ·rcases h0 with rfl | ⟨n,o,rfl,q0⟩<;>rcases h1 with rfl | ⟨n',o',rfl,q1⟩<;>simp_all
   unfold a0S a4u
   simp only [hF,ha,hb,b3H]
   simp
  ·show (O0++O1).length<=3
   simp only [List.length_append]
   omega
  ·intro f hf
   have hf:f∈O0++O1:=hf
   have one:∀ {O:List Api_Field} {K:Key},(O=[]\/∃ n o,O=[Api_Field.mk K n o]/\inR N n=true)->f∈O->f.Key_=K:=fun hO hm=>by
    rcases hO with rfl | ⟨n,o,rfl,_⟩
    ·cases hm
    ·rw [List.mem_singleton.1 hm]
   rcases List.mem_append.1 hf with hf | hf
   ·rw [one h0 hf]; decide
   ·rw [one h1 hf]; decide
structure MI (N i:Nat)(g:(List Api_TypeNode)×(List Int)×(List Int)):Prop where
 len:g.1.length=N+i
 nodes:GNs (N+3) g.1
 maps:∀ (j:Nat) (x:Api_TypeNode),N<=j->g.1[j]?=some x->x.Kind=13/\x.Fields.length<=2
 pos:∀ k∈g.2.1,∃ j:Nat,k=(j:Int)/\N<=j/\j<N+i
 neg:∀ k∈g.2.2,∃ j:Nat,k=(j:Int)/\N<=j/\j<N+i
 few:g.2.1.length<=i/\g.2.2.length<=i
theorem c0V {d:List Int}(hd:d.length<=4194304)(hL:L.length<=4194304) :
 ∃ (N:Nat) (ns:List Api_TypeNode) (P Q:List Int),1<=N/\N<=4/\a19 d L=some (Api_Type.mk ns 0,Api_Line.mk 8 0 [] (Api_Names.mk false []) P Q [] [])/\MI N 3 (ns,P,Q):=by
 obtain ⟨x,t1,e1,h1,x0,x1⟩:=J4 hd (⟨rfl,by show (0:Int)<=0; omega,by show (0:Int)<=_; omega⟩:OS d (Semtypebase_Source.mk d 0)) (n:=4) (by omega) (by omega)
 obtain ⟨x,rfl⟩:=b3B x0
 obtain ⟨ns,t2,e2,h2,hlen,hns⟩:=c0b hd h1 (x+1) (by omega) (by omega)
 have hr:(((ns,(0:Int)),t2):((List Api_TypeNode)×Int)×Semtypebase_Source).1.1.length=x+1:=hlen
 obtain ⟨g,s',e,hs',hI⟩:=b84 (γ:=(List Api_TypeNode)×(List Int)×(List Int)) (L:=L) (step:=W2 ((ns,0),t2)) (fun g j s=>(j,(g.1,0),s,b9V g.2.1 g.2.2)) (fun g s=>((g.1,0),s,b9V g.2.1 g.2.2)) (MI (x+1)) 3
  (fun j g s hj hI hs=>by
    obtain ⟨a,u1,a1,hu1,a2,a3⟩:=J4 hL hs (n:=((x+1:Nat):Int)) (by omega) (by omega)
    obtain ⟨b,u2,b1,hu2,b2,b3⟩:=J4 hL hu1 (n:=((x+1:Nat):Int)) (by omega) (by omega)
    obtain ⟨F,u3,f1,hu3,f2,f3⟩:=c0F hL hu2 ((ns,0),t2) (x+1) g.1.length hr (by omega) (by omega) (a5G a2 a3) (a5G b2 b3)
    obtain ⟨c,u4,c1,hu4,c2,c3⟩:=J4 hL hu3 (n:=3) (by omega) (by omega)
    have hl:=hI.len
    have hp:=hI.few
    have hw:wr .i64 (((x+1:Nat):Int)+(j:Int))=((x+1+j:Nat):Int):=by rw [Q4,X4 (by omega) (by omega)]; omega
    have key:∀ P' Q':List Int,(∀ k∈P',k∈g.2.1\/k=((x+1+j:Nat):Int))->(∀ k∈Q',k∈g.2.2\/k=((x+1+j:Nat):Int))->P'.length<=j+1->Q'.length<=j+1 ->
     MI (x+1) (j+1) (g.1++[Api_TypeNode.mk 13 0 0 (⟨#[]⟩:ByteArray) [] F (a,b)],P',Q'):=fun P' Q' h1 h2 h3 h4 =>
     ⟨by simp only [List.length_append,List.length_cons,List.length_nil]; omega,hI.nodes.snoc (f3.mono (by omega)),fun i y hi hy=>by
      by_cases hlt:i<g.1.length
      ·rw [List.getElem?_append_left hlt] at hy
       exact hI.maps i y hi hy
      ·rw [List.getElem?_append_right (by omega)] at hy
       have h0:i-g.1.length=0:=by
        have:=(List.getElem?_eq_some_iff.1 hy).1
        simp at this
        omega
       rw [h0] at hy
       cases hy
       exact ⟨rfl,f2⟩,fun k hk=>by
      rcases h1 k hk with hk | rfl
      ·obtain ⟨i,e,q1,q2⟩:=hI.pos k hk
       exact ⟨i,e,q1,by omega⟩
      ·exact ⟨_,rfl,by omega,by omega⟩,fun k hk=>by
      rcases h2 k hk with hk | rfl
      ·obtain ⟨i,e,q1,q2⟩:=hI.neg k hk
       exact ⟨i,e,q1,by omega⟩
      ·exact ⟨_,rfl,by omega,by omega⟩,h3,h4⟩
    have hjd:decide ((j:Int)<3)=true:=decide_eq_true (by omega)
    have hr':(((ns.length:Nat)):Int)=((x+1:Nat):Int):=by rw [hlen]
    rcases Bool.eq_false_or_eq_true (c==0) with hc | hc
    ·refine ⟨(g.1++[Api_TypeNode.mk 13 0 0 (⟨#[]⟩:ByteArray) [] F (a,b)],g.2.1++[((x+1+j:Nat):Int)],g.2.2),u4,?_,hu4,key _ _ (fun k hk=>by simpa using hk) (fun k hk=>.inl hk) (by simp only [List.length_append,List.length_cons,List.length_nil]; omega) (by omega)⟩
     have hc1:(c==1)=false:=by have:c=0:=by simpa using hc
                               subst this; rfl
     unfold W2
     simp only [hr']
     rw [hjd,a1]
     simp only [cond_true,Option.bind_some]
     rw [b1]
     simp only [Option.bind_some]
     rw [f1]
     simp only [Option.bind_some]
     rw [Z9 (by simp only [List.length_cons,List.length_nil]; omega),c1]
     simp only [Option.bind_some,hc,cond_true]
     rw [Z9 (by simp only [List.length_cons,List.length_nil]; omega)]
     simp only [Option.bind_some,hc1,cond_false,hw]
     rw [Q4,k9 j (by omega)]
    ·rcases Bool.eq_false_or_eq_true (c==1) with hc1 | hc1
     ·refine ⟨(g.1++[Api_TypeNode.mk 13 0 0 (⟨#[]⟩:ByteArray) [] F (a,b)],g.2.1,g.2.2++[((x+1+j:Nat):Int)]),u4,?_,hu4,key _ _ (fun k hk=>.inl hk) (fun k hk=>by simpa using hk) (by omega) (by simp only [List.length_append,List.length_cons,List.length_nil]; omega)⟩
      unfold W2
      simp only [hr']
      rw [hjd,a1]
      simp only [cond_true,Option.bind_some]
      rw [b1]
      simp only [Option.bind_some]
      rw [f1]
      simp only [Option.bind_some]
      rw [Z9 (by simp only [List.length_cons,List.length_nil]; omega),c1]
      simp only [Option.bind_some,hc,cond_false,hc1,cond_true]
      rw [Z9 (by simp only [List.length_cons,List.length_nil]; omega)]
      simp only [Option.bind_some,hw]
      rw [Q4,k9 j (by omega)]
     ·refine ⟨(g.1++[Api_TypeNode.mk 13 0 0 (⟨#[]⟩:ByteArray) [] F (a,b)],g.2.1,g.2.2),u4,?_,hu4,key _ _ (fun k hk=>.inl hk) (fun k hk=>.inl hk) (by omega) (by omega)⟩
      unfold W2
      simp only [hr']
      rw [hjd,a1]
      simp only [cond_true,Option.bind_some]
      rw [b1]
      simp only [Option.bind_some]
      rw [f1]
      simp only [Option.bind_some]
      rw [Z9 (by simp only [List.length_cons,List.length_nil]; omega),c1]
      simp only [Option.bind_some,hc,cond_false,hc1]
      rw [Q4,k9 j (by omega)]) (fun g s=>rfl) 3 0 ((3:Int).toNat+1) (ns,[],[]) (Semtypebase_Source.mk L 0) rfl (by decide)
  ⟨by simpa using hlen,fun i y hy=>(hns i y hy).mono (by omega),(fun j y hj hy=>by
   have h0:j<ns.length:=(List.getElem?_eq_some_iff.1 hy).1
   omega),(fun k hk=>by cases hk),(fun k hk=>by cases hk),by simp⟩ ⟨rfl,by show (0:Int)<=0; omega,by show (0:Int)<=_; omega⟩
 refine ⟨x+1,g.1,g.2.1,g.2.2,by omega,by omega,?_,hI⟩
 unfold a19
 rw [e1]
 simp only [Option.bind_some]
 rw [show wr .i64 (1+(x:Int))=((x+1:Nat):Int) by rw [Q4,X4 (by omega) (by omega)]; omega,e2]
 simp only [Option.bind_some]
 have e':z8 (W2 ((ns,0),t2)) ((3:Int).toNat+1) (0,(ns,0),Semtypebase_Source.mk L 0,(8,0,[],false,[],[],[],[],[]))=some ((g.1,0),s',b9V g.2.1 g.2.2):=e
 rw [e']
 rfl
end
end Go.Pl
end
section
namespace Go.Pl
open Go Go.RowKit Go.Sx Go.Qx
theorem b08 {α β:Type}{step:Int->Option (Fl Int (Sum Unit β))}(xs:List α)(p:α->Bool)(out:Nat->α->β)
 (hst:∀ (i:Nat) (x:α),xs[i]?=some x->step (i:Int)=some (if p x=true then .done (.inr (out i x)) else .next ((i+1:Nat):Int)))
 (hend:step (xs.length:Int)=some (.done (.inl ()))) :
 (∃ i x,xs[i]?=some x/\p x=true/\(∀ j,j<i->∀ y,xs[j]?=some y->p y=false)/\z8 step (xs.length+1) 0=some (.inr (out i x)))\/(xs.any p=false/\z8 step (xs.length+1) 0=some (.inl ())):=by
 have key:∀ (m a k:Nat),a+m=xs.length->m+1<=k->(∀ j,j<a->∀ y,xs[j]?=some y->p y=false) ->
  (∃ i x,xs[i]?=some x/\p x=true/\(∀ j,j<i->∀ y,xs[j]?=some y->p y=false)/\z8 step k (a:Int)=some (.inr (out i x)))\/(xs.any p=false/\z8 step k (a:Int)=some (.inl ())):=by
  intro m
  induction m with
  | zero =>
    intro a k h1 h2 h3
    obtain ⟨k,rfl⟩:∃ m,k=m+1:=⟨k-1,by omega⟩
    have e:a=xs.length:=by omega
    subst e
    refine .inr ⟨?_,by simp only [z8,hend,Option.bind_some]⟩
    rw [List.any_eq_false]
    intro x hx
    obtain ⟨j,hj,rfl⟩:=List.getElem_of_mem hx
    have:=h3 j hj _ (List.getElem?_eq_getElem hj)
    simp [this]
  | succ m ih =>
    intro a k h1 h2 h3
    obtain ⟨k,rfl⟩:∃ m,k=m+1:=⟨k-1,by omega⟩
    have ha:a<xs.length:=by omega
    have ex:=List.getElem?_eq_getElem ha
    have hs:=hst a _ ex
    cases hp:p xs[a] with
    | true =>
      rw [if_pos hp] at hs
      exact .inl ⟨a,xs[a],ex,hp,h3,by simp only [z8,hs,Option.bind_some]⟩
    | false =>
      rw [if_neg (by simp [hp])] at hs
      simp only [z8,hs,Option.bind_some]
      refine ih (a+1) k (by omega) (by omega) fun j hj y hy=>?_
      by_cases hja:j=a
      ·subst hja
       rw [ex] at hy
       cases hy
       exact hp
      ·exact h3 j (by omega) y hy
 exact key xs.length 0 (xs.length+1) (by omega) (Nat.le_refl _) (fun j hj=>by omega)
theorem b9M {α:Type}{xs:List α}{p:α->Bool}{i:Nat}{x:α}(h:xs[i]?=some x)(hp:p x=true):xs.any p=true:=List.any_eq_true.2 ⟨x,List.mem_of_getElem? h,hp⟩
theorem c3f (i:Nat):decide ((0:Int)<=(i:Int))=true:=decide_eq_true (by omega)
theorem b3x (a b:Key):a2K a b=a03 a b:=rfl
theorem b3l (l:List Int)(f:Int->Option Bool)(p:Int->Bool)(hl:l.length<=4194304)(hf:∀ x∈l,f x=some (p x)):Z4 l f=some (l.any p):=by
 unfold Z4 a1x
 rw [J5]
 rcases b08 (step:=X8 l f) l p (fun i _=>(i:Int)) (fun i x hx=>by
  have hi:i<l.length:=(List.getElem?_eq_some_iff.1 hx).1
  unfold X8
  rw [J1 hi,k7 hx]
  simp only [cond_true,Option.bind_some,Q4]
  rw [k9 i (by omega),hf x (List.mem_of_getElem? hx)]
  cases p x<;>rfl) (by
  unfold X8
  simp) with ⟨i,x,hx,hp,_,e⟩ | ⟨h,e⟩
 ·rw [e,b9M hx hp]
  simp only [Option.bind_some,v8,c3f]
 ·rw [e,h]
  rfl
def b5x (x:Api_TypeNode)(k:Key):Int:=if k.Kind=0 then x.Rest.1 else x.Rest.2
def atM (x:Api_TypeNode)(k:Key):Int:=match x.Fields.find? (fun f=>a03 f.Key_ k) with
 | some f=>f.Node
 | none=>b5x x k
theorem b7M {α:Type}{p:α->Bool}:∀ {l:List α} {i:Nat} {x:α},l[i]?=some x->p x=true->(∀ j,j<i->∀ y,l[j]?=some y->p y=false)->l.find? p=some x
 | [],_,_,h,_,_=>by simp at h
 | y::r,0,x,h,hp,_=>by
   simp at h
   subst h
   simp [hp]
 | y::r,i+1,x,h,hp,hn=>by
   have hy:=hn 0 (by omega) y rfl
   rw [List.find?_cons,hy]
   exact b7M (l:=r) (i:=i) (by simpa using h) hp fun j hj z hz=>hn (j+1) (by omega) z (by simpa using hz)
theorem c1U {α:Type}{p:α->Bool}{l:List α}(h:l.any p=false):l.find? p=none:=by
 rw [List.find?_eq_none]
 rw [List.any_eq_false] at h
 exact h
theorem c2w {k:Key}(h:a0Z k=true):k.Kind=0\/k.Kind=1:=by
 unfold a0Z at h
 split at h
 ·left; assumption
 ·split at h
  ·right; assumption
  ·cases h
theorem c3E (x:Api_TypeNode)(k:Key)(hf:x.Fields.length<=4194304)(hk:a0Z k=true):a34 x k=some (atM x k):=by
 unfold a34 atM
 rw [J5]
 rcases b08 (step:=a6u x k) x.Fields (fun f=>a03 f.Key_ k) (fun _ f=>f.Node) (fun i f hx=>by
  have hi:i<x.Fields.length:=(List.getElem?_eq_some_iff.1 hx).1
  unfold a6u
  rw [J1 hi,k7 hx]
  simp only [cond_true,Option.bind_some,b3x,Q4]
  rw [k9 i (by omega)]
  cases a03 f.Key_ k<;>rfl) (by
  unfold a6u
  simp) with ⟨i,f,hx,hp,hn,e⟩ | ⟨h,e⟩
 ·rw [e,b7M hx hp hn]
  rfl
 ·rw [e,c1U h]
  unfold b5x
  rcases c2w hk with h0 | h1
  ·simp [v8,h0]
  ·simp [v8,h1]
end Go.Pl
namespace Go.Pl
open Go Go.RowKit Go.Sx Go.Qx
section
variable (μ:Val->Int->Bool)
end
section
variable {t:Api_Type}{f0 b:Nat}
end
end Go.Pl
namespace Go.Pl
open Go Go.RowKit Go.Sx Go.Qx
section
variable {t:Api_Type}
theorem GT.ord (hT:GT t){k:Nat}{x:Api_TypeNode}(hx:t.Nodes[k]?=some x)(hb:isB x=true){j:Int}(hj:j∈x.Kids):∃ j':Nat,j=(j':Int)/\k<j'/\j'<t.Nodes.length:=by
 have hg:=hT.nodes k x hx
 obtain ⟨j',e,h1⟩:=a3q (a6s hg.ok j hj)
 have:=hg.ord hb j hj
 exact ⟨j',e,by omega,h1⟩
theorem c1C {α:Type}(p:α->Bool)(l:List α):(!(l.any fun x=>!p x))=l.all p:=by
 rw [Bool.eq_iff_iff]
 simp
end
end Go.Pl
namespace Go.Pl
open Go Go.RowKit Go.Sx Go.Qx
section
variable {t:Api_Type}
theorem GT.all (hT:GT t):a7W t.Nodes=true:=List.all_eq_true.2 fun x hx=>by
 obtain ⟨i,hi,rfl⟩:=List.getElem_of_mem hx
 exact (hT.nodes i _ (List.getElem?_eq_getElem hi)).ok
theorem GT.ordT (hT:GT t):b73 t.Nodes:=fun i x hx hb k hk=>(hT.nodes i x hx).ord hb k hk
theorem GT.small (hT:GT t):∀ x∈t.Nodes,x.Kids.length<=1100000/\x.Fields.length<=1100000:=fun x hx=>by
 obtain ⟨i,hi,rfl⟩:=List.getElem_of_mem hx
 have hg:=hT.nodes i _ (List.getElem?_eq_getElem hi)
 have h1:=hg.kids
 have h2:=hg.flds
 omega
theorem wf0 (hT:GT t)(hr:inR t.Nodes.length t.Root=true)(f:Nat)(hf:1100001<=f):J6 f t=some 0:=by
 have hN:=hT.len
 rw [c4g t hT.ordT hT.small (by omega) f (by omega),hT.all,hr]
 rfl
end
end Go.Pl
end
section
namespace Go.Pl
open Go Go.RowKit Go.Sx Go.Qx
theorem c4d (s0:List Key)(i0 n:Nat)(hn:n<=4194304)(i k:Nat)(s:List Key)(x y:Key)(hl:s.length=n)(hk:i0+k<n)(h1:1<=k)(hi:i<i0+k)(hx:s[i0+k]?=some x)(hy:s[i0+k-1]?=some y) :
 Y3 (s0,(i0:Int)) (((i:Int),(k:Int)),s)=some (.next (if a03 x y=true then (((i:Int),((k+1:Nat):Int)),s) else ((((i+1:Nat):Int),((k+1:Nat):Int)),s.set i x))):=by
 unfold Y3
 simp only [a0K,Q4,Int.toNat_natCast]
 have hdl:(s.drop i0).length=n-i0:=by rw [List.length_drop,hl]
 rw [if_pos (decide_eq_true (by show (k:Int)<(((s.drop i0).length:Nat):Int); rw [hdl]; omega)),k9 i (by omega),k9 k (by omega),a43 k (by omega) h1]
 simp only [Int.toNat_natCast]
 have a1:idx (s.drop i0) (k:Int)=some x:=k7 (by rw [List.getElem?_drop]; exact hx)
 have a2:idx (s.drop i0) ((k-1:Nat):Int)=some y:=k7 (by rw [List.getElem?_drop,show i0+(k-1)=i0+k-1 by omega]; exact hy)
 have a3:idx s (i:Int)=some (s[i]'(by omega)):=k7 (List.getElem?_eq_getElem (by omega))
 rw [a1,a2,a3,hx,show i0+(k-1)=i0+k-1 by omega,hy,List.getElem?_eq_getElem (show i<s.length by omega)]
 simp only [Option.bind_some]
 rw [b3x]
 cases h:a03 x y<;>simp
theorem b61 (l:List Key)(hl:l.length<=4194304):V6 l=some (a2B a03 l):=by
 unfold V6
 by_cases h2:(l.length:Int)<2
 ·have e:decide ((l.length:Int)<2)=true:=by simpa using h2
  rw [e]
  match l,h2 with
  | [],_=>rfl
  | [_],_=>rfl
  | _::_::_,h=>exact absurd h (by simp; omega)
 ·have e:decide ((l.length:Int)<2)=false:=by simpa using h2
  rw [e,J5]
  simp only [cond_false]
  have key:=b4Q (r:=a03) (step:=Q7) l (by omega) ?_ ?_ ?_
  ·rcases key with ⟨h,hc⟩ | ⟨q,h⟩
   ·rw [h,hc]; rfl
   ·rw [h]; rfl
  ·intro i x y hi hx hy hr
   have hlt:i<l.length:=(List.getElem?_eq_some_iff.1 hx).1
   unfold Q7
   simp only [a0K,Q4,Int.toNat_natCast]
   rw [if_pos (by simp; omega),a43 i (by omega) hi,k7 hx,k7 hy]
   simp only [Int.toNat_natCast,hx,hy,Option.bind_some]
   rw [b3x,hr,k9 i (by omega)]
   rfl
  ·intro i x y hi hx hy hr
   have hlt:i<l.length:=(List.getElem?_eq_some_iff.1 hx).1
   unfold Q7
   simp only [a0K,Q4,Int.toNat_natCast]
   rw [if_pos (by simp; omega),a43 i (by omega) hi,k7 hx,k7 hy]
   simp only [Int.toNat_natCast,hx,hy,Option.bind_some]
   rw [b3x,hr,if_pos rfl]
   obtain ⟨s',e1,e2,e3⟩:=b4R (r:=a03) (step:=Y3 (l,(i:Int))) i l.length (fun i' k s x y a1 a2 a3 a4 a5 a6=>c4d l i l.length hl i' k s x y a1 a2 a3 a4 a5 a6)
    (fun i' k s a1 a2=>by
      unfold Y3
      simp only [Int.toNat_natCast]
      have:decide ((k:Int)<(((s.drop i).length:Nat):Int))=false:=by rw [List.length_drop]; simp; omega
      rw [this]
      rfl) (l.length-(i+1)) i 1 l x ((l.drop i).length+1) rfl (by omega) (Nat.le_refl _) (by omega) (by simpa using hx) (by rw [List.length_drop]; omega)
   have e1':z8 (Y3 (l,(i:Int))) ((l.drop i).length+1) (((i:Int),1),l)=_:=e1
   rw [e1']
   simp only [Option.bind_some,<- a0K]
   have hd:=b3T (r:=a03) (l.drop (i+1)) x
   rw [List.length_drop] at hd
   exact b7o (Key.mk 0 (⟨#[]⟩:ByteArray)) _ l.length s' _ e2 (by omega) e3
  ·unfold Q7
   simp
theorem c00 (l:List Key)(hl:l.length<=4194304):∃ m,(a9F l fun z5 z6=>Option.bind (Y2 z5 z6) fun r7=>some r7)=some ((),m)/\m.Perm l/\m.Pairwise fun a b=>¬ cK b a<0:=by
 have eg:(fun z5 z6:Key=>Option.bind (Y2 z5 z6) fun r7=>some r7)=fun a b=>some (cK a b):=by
  funext a b
  rw [a5l]
  rfl
 rw [eg]
 have hlt:∀ a b:Key,ltB (fun a b:Key=>some (cK a b)) a b=decide (cK a b<0):=fun a b=>rfl
 have hw:Swk (ltB (fun a b:Key=>some (cK a b))) l:=⟨fun x _=>by rw [hlt,c1s]; rfl,fun x _ y _ z _ h1 h2=>by
  rw [hlt] at *
  simp only [decide_eq_true_eq] at *
  exact b4T h1 (by omega),fun x _ y _ z _ h1 h2=>by
  rw [hlt] at *
  simp only [decide_eq_false_iff_not] at *
  have a1:=a8w x y
  have a2:=a8w y z
  have a3:=a8w x z
  have:=b2X z y x (by omega) (by omega)
  omega⟩
 have hok:OkCmp l (fun a b:Key=>some (cK a b)):=⟨by omega,fun x _ y _=>⟨_,rfl⟩,hw⟩
 obtain ⟨h1,h2⟩:=b12 hw
 refine ⟨a5m (ltB fun a b:Key=>some (cK a b)) l,?_,h1,h2.imp fun {a b} h=>?_⟩
 ·unfold a9F b5I
  rw [if_pos hok]
  rfl
 ·rw [hlt] at h
  simpa using h
def a3R (T:Api_Type)(l:List Int):List Key:=l.flatMap fun k=>((T.Nodes[k.toNat]?).map fun x=>x.Fields.map (·.Key_)).getD []
theorem b5g {T:Api_Type}(hT:GT T)(l:List Int)(hl:l.length<=1000)(hin:l.all (inR T.Nodes.length)=true) :
 ∃ ks,a1P T l=some ks/\ks.length<=3*l.length/\asc cK ks=true/\∀ y,y∈ks↔y∈a3R T l:=by
 have h1:=a7B (σ:=List Key) (step:=a1w T l) l (fun s i=>(s,(i:Int))) (fun s k=>s++((T.Nodes[k.toNat]?).map fun x=>x.Fields.map (·.Key_)).getD []) (fun i s=>s.length<=3*i) (fun s=>s)
  (fun i s k hk hI=>by
    have hi:i<l.length:=(List.getElem?_eq_some_iff.1 hk).1
    have hk2:=List.all_eq_true.1 hin k (List.mem_of_getElem? hk)
    obtain ⟨j,rfl⟩:∃ j:Nat,k=(j:Int):=⟨k.toNat,by unfold inR at hk2; simp at hk2; omega⟩
    have hj:j<T.Nodes.length:=by unfold inR at hk2; simp at hk2; omega
    have e:=List.getElem?_eq_getElem hj
    have hf:=(hT.nodes j _ e).flds
    rw [Int.toNat_natCast,e]
    simp only [Option.map_some,Option.getD_some]
    have h2:=a7B (σ:=List Key) (step:=a1B T.Nodes[j]) T.Nodes[j].Fields (fun s i=>(s,(i:Int))) (fun s f=>s++[f.Key_]) (fun i s'=>s'.length=s.length+i) (fun s=>s)
     (fun i' s' f hf' hI'=>by
       have hi':i'<T.Nodes[j].Fields.length:=(List.getElem?_eq_some_iff.1 hf').1
       refine ⟨?_,by simp only [List.length_append,List.length_cons,List.length_nil]; omega⟩
       unfold a1B
       simp only [Q4]
       rw [J1 hi',k7 hf']
       simp only [cond_true,Option.bind_some]
       rw [Z9 (by simp only [List.length_cons,List.length_nil]; omega),k9 i' (by omega)]
       rfl) (fun s' _=>by
       unfold a1B
       simp) s (by simp) _ (Nat.le_refl _)
    have hfold:∀ (fs:List Api_Field) (s:List Key),fs.foldl (fun s f=>s++[f.Key_]) s=s++fs.map (·.Key_):=by
     intro fs
     induction fs with
     | nil=>intro s; simp
     | cons f r ih=>intro s; simp [ih]
    rw [hfold] at h2
    refine ⟨?_,by simp only [List.length_append,List.length_map]; omega⟩
    unfold a1w
    simp only [Q4]
    rw [J1 hi,k7 hk]
    simp only [cond_true,Option.bind_some]
    rw [k7 e]
    simp only [Option.bind_some,J5]
    have h2':z8 (a1B T.Nodes[j]) (T.Nodes[j].Fields.length+1) (s,0)=_:=h2
    rw [h2',k9 i (by omega)]
    rfl) (fun s _=>by
    unfold a1w
    simp) [] (by simp) _ (Nat.le_refl _)
 have hfold:∀ (l:List Int) (s:List Key),l.foldl (fun s k=>s++((T.Nodes[k.toNat]?).map fun x=>x.Fields.map (·.Key_)).getD []) s=s++a3R T l:=by
  intro l
  induction l with
  | nil=>intro s; simp [a3R]
  | cons k r ih=>intro s; simp [ih,a3R]
 rw [hfold,List.nil_append] at h1
 have h1':z8 (a1w T l) (l.length+1) ([],0)=some (a3R T l):=h1
 have hlen:∀ l:List Int,l.all (inR T.Nodes.length)=true->(a3R T l).length<=3*l.length:=by
  intro l
  induction l with
  | nil=>intro _; simp [a3R]
  | cons k r ih =>
    intro h
    rw [List.all_cons,Bool.and_eq_true] at h
    have:=ih h.2
    obtain ⟨j,rfl⟩:∃ j:Nat,k=(j:Int):=⟨k.toNat,by have:=h.1; unfold inR at this; simp at this; omega⟩
    have hj:j<T.Nodes.length:=by have:=h.1; unfold inR at this; simp at this; omega
    have e:=List.getElem?_eq_getElem hj
    have hf:=(hT.nodes j _ e).flds
    unfold a3R at *
    simp only [List.flatMap_cons,List.length_append,Int.toNat_natCast,e,Option.map_some,Option.getD_some,List.length_map,List.length_cons]
    omega
 have hl2:=hlen l hin
 obtain ⟨m,e1,hp,hs⟩:=c00 (a3R T l) (by omega)
 have hml:=hp.length_eq
 have hsame:(a03:Key->Key->Bool)=fun x y=>decide (cK x y=0):=by
  funext x y
  rw [Bool.eq_iff_iff]
  rw [b89]
  simp
 obtain ⟨q1,q2⟩:=b6W (c:=cK) ⟨a8w,b2X,fun a b h=>c1k h⟩ m hs
 refine ⟨a2B a03 m,?_,?_,by rw [hsame]; exact q1,fun y=>by rw [hsame,q2]; exact hp.mem_iff⟩
 ·unfold a1P
  rw [J5,h1']
  simp only [Option.bind_some]
  rw [e1]
  simp only [Option.bind_some]
  rw [b61 m (by omega)]
  simp only [Option.bind_some]
  unfold a0W
  simp
 ·have:(a2B a03 m).length<=m.length:=by
   cases m with
   | nil=>exact Nat.le_refl _
   | cons x r =>
     have:=b3T (r:=a03) r x
     simp only [a2B,List.length_cons]
     omega
  omega
end Go.Pl
end
section
namespace Go.Pl
open Go Go.RowKit Go.Sx Go.Qx
theorem c4j:CmpOk cI:=⟨fun x y=>by
 rcases J9 x y with ⟨_,h⟩ | ⟨_,h⟩ | ⟨_,h⟩<;>rcases J9 y x with ⟨_,k⟩ | ⟨_,k⟩ | ⟨_,k⟩<;>rw [h,k]<;>omega,
 fun x y z h1 h2=>by
  rcases J9 x y with ⟨_,h⟩ | ⟨_,h⟩ | ⟨_,h⟩<;>rcases J9 y z with ⟨_,k⟩ | ⟨_,k⟩ | ⟨_,k⟩<;>rcases J9 x z with ⟨_,l⟩ | ⟨_,l⟩ | ⟨_,l⟩<;>rw [h] at h1<;>rw [k] at h2<;>rw [l]<;>omega,
 fun _ _ h=>cI0 h⟩
abbrev a87 (x y:Int):Bool:=decide (cI x y=0)
theorem b7Z (x y:Int):(x==y)=decide (cI x y=0):=by
 rcases J9 x y with ⟨h,k⟩ | ⟨h,k⟩ | ⟨h,k⟩
 ·rw [k]; simp; omega
 ·rw [k]; simp; omega
 ·rw [k]; simp [h]
theorem c39 (s0:List Int)(i0 n:Nat)(hn:n<=4194304)(i k:Nat)(s:List Int)(x y:Int)(hl:s.length=n)(hk:i0+k<n)(h1:1<=k)(hi:i<i0+k)(hx:s[i0+k]?=some x)(hy:s[i0+k-1]?=some y) :
 J3 (s0,(i0:Int)) (((i:Int),(k:Int)),s)=some (.next (if a87 x y=true then (((i:Int),((k+1:Nat):Int)),s) else ((((i+1:Nat):Int),((k+1:Nat):Int)),s.set i x))):=by
 unfold J3
 simp only [a0K,Q4,Int.toNat_natCast]
 have hdl:(s.drop i0).length=n-i0:=by rw [List.length_drop,hl]
 rw [if_pos (decide_eq_true (by show (k:Int)<(((s.drop i0).length:Nat):Int); rw [hdl]; omega)),k9 i (by omega),k9 k (by omega),a43 k (by omega) h1]
 simp only [Int.toNat_natCast]
 have a1:idx (s.drop i0) (k:Int)=some x:=k7 (by rw [List.getElem?_drop]; exact hx)
 have a2:idx (s.drop i0) ((k-1:Nat):Int)=some y:=k7 (by rw [List.getElem?_drop,show i0+(k-1)=i0+k-1 by omega]; exact hy)
 have a3:idx s (i:Int)=some (s[i]'(by omega)):=k7 (List.getElem?_eq_getElem (by omega))
 rw [a1,a2,a3,hx,show i0+(k-1)=i0+k-1 by omega,hy,List.getElem?_eq_getElem (show i<s.length by omega)]
 simp only [Option.bind_some,bne]
 rw [b7Z]
 by_cases h:cI x y=0<;>simp [a87,h]
theorem b63 (l:List Int)(hl:l.length<=4194304):a0R l=some (a2B a87 l):=by
 unfold a0R
 by_cases h2:(l.length:Int)<2
 ·have e:decide ((l.length:Int)<2)=true:=by simpa using h2
  rw [e]
  match l,h2 with
  | [],_=>rfl
  | [_],_=>rfl
  | _::_::_,h=>exact absurd h (by simp; omega)
 ·have e:decide ((l.length:Int)<2)=false:=by simpa using h2
  rw [e,J5]
  simp only [cond_false]
  have key:=b4Q (r:=a87) (step:=V8) l (by omega) ?_ ?_ ?_
  ·rcases key with ⟨h,hc⟩ | ⟨q,h⟩
   ·rw [h,hc]; rfl
   ·rw [h]; rfl
  ·intro i x y hi hx hy hr
   have hlt:i<l.length:=(List.getElem?_eq_some_iff.1 hx).1
   unfold V8
   simp only [a0K,Q4,Int.toNat_natCast]
   rw [if_pos (by simp; omega),a43 i (by omega) hi,k7 hx,k7 hy]
   simp only [Int.toNat_natCast,hx,hy,Option.bind_some]
   rw [b7Z]
   have hr':decide (cI x y=0)=false:=hr
   rw [hr',k9 i (by omega)]
   rfl
  ·intro i x y hi hx hy hr
   have hlt:i<l.length:=(List.getElem?_eq_some_iff.1 hx).1
   unfold V8
   simp only [a0K,Q4,Int.toNat_natCast]
   rw [if_pos (by simp; omega),a43 i (by omega) hi,k7 hx,k7 hy]
   simp only [Int.toNat_natCast,hx,hy,Option.bind_some]
   rw [b7Z]
   have hr':decide (cI x y=0)=true:=hr
   rw [hr',if_pos rfl]
   obtain ⟨s',e1,e2,e3⟩:=b4R (r:=a87) (step:=J3 (l,(i:Int))) i l.length (fun i' k s x y a1 a2 a3 a4 a5 a6=>c39 l i l.length hl i' k s x y a1 a2 a3 a4 a5 a6)
    (fun i' k s a1 a2=>by
      unfold J3
      simp only [Int.toNat_natCast]
      have:decide ((k:Int)<(((s.drop i).length:Nat):Int))=false:=by rw [List.length_drop]; simp; omega
      rw [this]
      rfl) (l.length-(i+1)) i 1 l x ((l.drop i).length+1) rfl (by omega) (Nat.le_refl _) (by omega) (by simpa using hx) (by rw [List.length_drop]; omega)
   have e1':z8 (J3 (l,(i:Int))) ((l.drop i).length+1) (((i:Int),1),l)=_:=e1
   rw [e1']
   simp only [Option.bind_some,<- a0K]
   have hd:=b3T (r:=a87) (l.drop (i+1)) x
   rw [List.length_drop] at hd
   exact b7o (0:Int) _ l.length s' _ e2 (by omega) e3
  ·unfold V8
   simp
theorem b8m (l:List Int):(l.mergeSort fun x y=>decide (x<=y)).Pairwise fun a b=>¬ cI b a<0:=by
 refine (List.pairwise_mergeSort (le:=fun x y:Int=>decide (x<=y)) (fun a b c h1 h2=>?_) (fun a b=>?_) l).imp fun {a b} h=>?_
 ·simp only [decide_eq_true_eq] at *
  omega
 ·simp only [Bool.or_eq_true,decide_eq_true_eq]
  omega
 ·simp only [decide_eq_true_eq] at h
  rcases J9 b a with ⟨_,k⟩ | ⟨_,k⟩ | ⟨_,k⟩<;>rw [k]<;>omega
def srt (l:List Int):List Int:=l.foldl (a3Y cI) []
theorem b3M (l:List Int)(hl:l.length<=4194304):a3I l=some (srt l):=by
 unfold a3I X2
 rw [Z9 (by omega)]
 simp only [Option.bind_some]
 unfold b4N a6Z
 have e:decide (l.length<4611686018427387904)=true:=by simp; omega
 rw [e]
 simp only [cond_true,Option.bind_some]
 have hp:=List.mergeSort_perm l fun x y:Int=>decide (x<=y)
 rw [b63 _ (by rw [hp.length_eq]; exact hl)]
 simp only [Option.bind_some]
 unfold a2Q
 have:=b7a c4j hp (b8m l)
 rw [show a2B (fun x y=>decide (cI x y=0))=a2B a87 from rfl] at this
 rw [this]
 simp [srt]
theorem b7x (l:List Int):(srt l).length<=l.length:=by
 have key:∀ (l out:List Int),(l.foldl (a3Y cI) out).length<=out.length+l.length:=by
  intro l
  induction l with
  | nil=>intro out; simp
  | cons x r ih =>
    intro out
    have h1:=ih (a3Y cI out x)
    have h2:=c0z cI out x
    simp only [List.foldl_cons,List.length_cons]
    omega
 have:=key l []
 simpa [srt] using this
end Go.Pl
end
section
namespace Go.Pl
open Go Go.RowKit Go.Sx Go.Qx
abbrev g0 (p q:List Int):Api_Goal:=Api_Goal.mk p q false
theorem b0m (p q:List Int)(b:Bool)(h1:p.length<=4194304)(h2:q.length<=4194304):a2N (Api_Goal.mk p q b)=some (Api_Goal.mk (srt p) (srt q) b):=by
 unfold a2N
 rw [b3M p h1,b3M q h2]
 rfl
theorem b0U (l:List Int)(x:Int)(hl:l.length<=4194304):J0 l x=some (l.any fun y=>x==y):=by
 unfold J0 a2s
 rw [J5]
 rcases b08 (step:=a0E l x) l (fun y=>x==y) (fun i _=>(i:Int)) (fun i y hy=>by
  have hi:i<l.length:=(List.getElem?_eq_some_iff.1 hy).1
  unfold a0E
  rw [J1 hi,k7 hy]
  simp only [cond_true,Option.bind_some,Q4]
  rw [k9 i (by omega)]
  cases x==y<;>rfl) (by
  unfold a0E
  simp) with ⟨i,y,hy,hp,_,e⟩ | ⟨h,e⟩
 ·rw [e,b9M hy hp]
  simp only [Option.bind_some,v8,c3f]
 ·rw [e,h]
  rfl
def c3q (p q:List Int):Bool:=p.any fun x=>q.any fun y=>x==y
theorem c1O (p q:List Int)(h1:p.length<=4194304)(h2:q.length<=4194304):a3P p q=some (c3q p q):=by
 unfold a3P
 rw [b3l p _ (fun x=>q.any fun y=>x==y) h1 fun x _=>by
  unfold a4w
  simp only [a1V]
  exact b0U q x h2]
 rfl
end Go.Pl
end
section
namespace Go.Pl
open Go Go.RowKit Go.Sx Go.Qx
section
variable {T:Api_Type}
def gIn (N:Nat)(g:Api_Goal):Bool:=g.Pos.all (inR N)&&g.Neg.all (inR N)
theorem b8b (g:Api_Goal)(h1:g.Pos.length<=1000000)(h2:g.Neg.length<=1000000):a1D T g=some (gIn T.Nodes.length g):=by
 unfold a1D
 rw [Z9 (by omega),Z9 (by omega)]
 simp only [Option.bind_some,J5]
 have l1:=a7c (step:=a0c T g) (g.Pos++g.Neg) (inR T.Nodes.length) (fun i=>(i:Int)) () false (fun i k hk=>by
  have hi:i<(g.Pos++g.Neg).length:=(List.getElem?_eq_some_iff.1 hk).1
  have hi':=hi
  rw [List.length_append] at hi'
  unfold a0c
  simp only [Q4]
  rw [J1 hi,k7 hk]
  simp only [cond_true,Option.bind_some]
  rw [b9Y,k9 i (by omega)]
  exact b37 _ _) (by
  unfold a0c
  simp)
 have l1':z8 (a0c T g) ((g.Pos++g.Neg).length+1) 0=_:=l1
 rw [l1',List.all_append]
 unfold gIn
 cases g.Pos.all (inR T.Nodes.length)&&g.Neg.all (inR T.Nodes.length)<;>rfl
end
end Go.Pl
end
section
namespace Go.Pl
open Go Go.RowKit Go.Sx Go.Qx
theorem a2z {σ St τ:Type}{step:St->Option (Fl St τ)}(pack:σ->Int->St)(n:Nat)(I:Nat->σ->Prop)(R:τ->Prop)
 (hst:∀ (j:Nat) (s:σ),j<n->I j s->(∃ s',step (pack s (j:Int))=some (.next (pack s' ((j+1:Nat):Int)))/\I (j+1) s')\/∃ r,step (pack s (j:Int))=some (.done r)/\R r)
 (hend:∀ s,I n s->∃ r,step (pack s (n:Int))=some (.done r)/\R r) (s:σ) (h0:I 0 s):∃ r,z8 step (n+1) (pack s 0)=some r/\R r:=by
 have key:∀ (m j k:Nat) (s:σ),j+m=n->m+1<=k->I j s->∃ r,z8 step k (pack s (j:Int))=some r/\R r:=by
  intro m
  induction m with
  | zero =>
    intro j k s hj hk hI
    obtain ⟨k,rfl⟩:∃ m,k=m+1:=⟨k-1,by omega⟩
    have e:j=n:=by omega
    subst e
    obtain ⟨r,hr,hR⟩:=hend s hI
    exact ⟨r,by simp only [z8,hr,Option.bind_some],hR⟩
  | succ m ih =>
    intro j k s hj hk hI
    obtain ⟨k,rfl⟩:∃ m,k=m+1:=⟨k-1,by omega⟩
    rcases hst j s (by omega) hI with ⟨s',e,hI'⟩ | ⟨r,e,hR⟩
    ·obtain ⟨r,hr,hR⟩:=ih (j+1) k s' (by omega) (by omega) hI'
     refine ⟨r,?_,hR⟩
     simp only [z8,e,Option.bind_some]
     exact hr
    ·exact ⟨r,by simp only [z8,e,Option.bind_some],hR⟩
 exact key n 0 (n+1) s (by omega) (Nat.le_refl _) h0
section
variable {T:Api_Type}
def mpB (T:Api_Type)(k:Int):Bool:=inR T.Nodes.length k&&(match T.Nodes[k.toNat]? with | some x=>x.Kind==13 | none=>false)
theorem a6y {k:Int}(h:mpB T k=true):∃ x,idx T.Nodes k=some x/\x∈T.Nodes/\x.Kind=13/\inR T.Nodes.length k=true:=by
 unfold mpB at h
 simp only [Bool.and_eq_true] at h
 obtain ⟨j,rfl,hj⟩:=a3q h.1
 have e:=List.getElem?_eq_getElem hj
 have h2:=h.2
 rw [Int.toNat_natCast,e] at h2
 exact ⟨_,k7 e,List.getElem_mem hj,by simpa using h2,h.1⟩
theorem b7L {k:Int}(h:inR T.Nodes.length k=true):∃ x,idx T.Nodes k=some x/\x∈T.Nodes:=by
 obtain ⟨j,rfl,hj⟩:=a3q h
 exact ⟨_,k7 (List.getElem?_eq_getElem hj),List.getElem_mem hj⟩
theorem b7O (l:List Int)(hl:l.length<=4194304):a3F T l=some (l.all (mpB T)):=by
 unfold a3F
 rw [b3l l _ (fun k=>!mpB T k) hl fun k _=>?_]
 ·simp only [Option.bind_some]
  rw [c1C]
 ·unfold a56 mpB
  simp only [a1V]
  cases h:inR T.Nodes.length k with
  | true =>
    obtain ⟨j,rfl,hj⟩:=a3q h
    have e:=List.getElem?_eq_getElem hj
    have b1:decide ((j:Int)<0)=false:=by simp
    have b2:decide ((T.Nodes.length:Int)<=(j:Int))=false:=by simp; omega
    rw [b1,b2,k7 e,Int.toNat_natCast,e]
    rfl
  | false =>
    unfold inR at h
    by_cases h0:k<0
    ·rw [decide_eq_true h0]; rfl
    ·have b2:decide ((T.Nodes.length:Int)<=k)=true:=by
      simp at h
      simp
      omega
     rw [decide_eq_false h0,b2]
     rfl
theorem b0H (hT:GT T){x:Api_TypeNode}(hx:x∈T.Nodes)(hK:x.Kind=13):a2M T.Nodes.length x.Fields=true/\inR T.Nodes.length x.Rest.1=true/\inR T.Nodes.length x.Rest.2=true:=by
 have h:=List.all_eq_true.1 hT.all x hx
 unfold a0S at h
 simp only [Bool.and_eq_true] at h
 have hk:=h.2.2.2.2
 unfold a4u at hk
 simp [hK] at hk
 exact ⟨hk.1,hk.2.2.1,hk.2.2.2⟩
theorem b4p (hT:GT T){x:Api_TypeNode}(hx:x∈T.Nodes):x.Fields.length<=3:=by
 obtain ⟨i,hi,rfl⟩:=List.getElem_of_mem hx
 exact (hT.nodes i _ (List.getElem?_eq_getElem hi)).flds
theorem b6a (hT:GT T){x:Api_TypeNode}(hx:x∈T.Nodes)(hK:x.Kind=13){k:Key}(hk:a0Z k=true):∃ a,a34 x k=some a/\inR T.Nodes.length a=true:=by
 have hf:=b4p hT hx
 obtain ⟨h1,h2,h3⟩:=b0H hT hx hK
 refine ⟨_,c3E x k (by omega) hk,?_⟩
 unfold atM
 cases h:x.Fields.find? (fun f=>a03 f.Key_ k) with
 | some f =>
   unfold a2M at h1
   simp only [Bool.and_eq_true] at h1
   exact List.all_eq_true.1 h1.2.2 f (List.mem_of_find?_eq_some h)
 | none =>
   show inR _ (b5x x k)=true
   unfold b5x
   split<;>assumption
theorem b85 (x:Api_TypeNode)(k:Key)(hf:x.Fields.length<=4194304):∃ b,a2I x k=some b:=by
 unfold a2I
 rw [J5]
 rcases b08 (step:=a2t x k) x.Fields (fun f=>a03 f.Key_ k) (fun _ f=>!f.Optional) (fun i f hx=>by
  have hi:i<x.Fields.length:=(List.getElem?_eq_some_iff.1 hx).1
  unfold a2t
  rw [J1 hi,k7 hx]
  simp only [cond_true,Option.bind_some,b3x,Q4]
  rw [k9 i (by omega)]
  cases a03 f.Key_ k<;>rfl) (by
  unfold a2t
  simp) with ⟨i,f,hx,hp,hn,e⟩ | ⟨h,e⟩
 ·rw [e]; exact ⟨_,rfl⟩
 ·rw [e]; exact ⟨_,rfl⟩
def PlB (p:Record_place):Prop:=0<=p.key\/p.kind=0\/p.kind=1
theorem b9R {a:Int}(h:inR T.Nodes.length a=true):∃ b,a04 a T=some b:=by
 obtain ⟨x,e,_⟩:=b7L h
 exact ⟨_,by unfold a04; rw [e]; rfl⟩
theorem b9H (hT:GT T){x:Api_TypeNode}(hx:x∈T.Nodes)(hK:x.Kind=13)(keys:List Key)(hk:keys.all a0Z=true)(hl:keys.length<=36) :
 ∃ ps,a3Q T x keys=some ps/\ps.length<=74/\∀ p∈ps,PlB p:=by
 have hf:=b4p hT hx
 obtain ⟨_,hr1,hr2⟩:=b0H hT hx hK
 obtain ⟨r,e1,h1,h2⟩:=a2z (σ:=List Record_place) (step:=a1v T x keys) (fun s i=>(s,i)) keys.length (fun j s=>s.length<=2*j/\∀ p∈s,PlB p) (fun s:List Record_place=>s.length<=2*keys.length/\∀ p∈s,PlB p)
  (fun j s hj hI=>.inl (by
    have e:=List.getElem?_eq_getElem hj
    obtain ⟨a,ea,ha⟩:=b6a hT hx hK (List.all_eq_true.1 hk _ (List.getElem_mem hj))
    obtain ⟨b,eb⟩:=b9R ha
    obtain ⟨q,eq⟩:=b85 x keys[j] (by omega)
    unfold a1v
    simp only [Q4]
    rw [J1 hj,k7 e]
    simp only [cond_true,Option.bind_some]
    rw [ea]
    simp only [Option.bind_some]
    rw [eb,eq]
    simp only [Option.bind_some]
    rw [k9 j (by omega)]
    have hP:∀ b',PlB (Record_place.mk (j:Int) b' 0):=fun b'=>.inl (by show (0:Int)<=(j:Int); omega)
    have hadd:∀ (s:List Record_place) (b':Bool),(∀ p∈s,PlB p)->∀ p∈s++[Record_place.mk (j:Int) b' 0],PlB p:=fun s b' hs p hp=>by
     rcases List.mem_append.1 hp with hp | hp
     ·exact hs p hp
     ·rw [List.mem_singleton.1 hp]; exact hP b'
    have hI1:=hI.1
    cases b with
    | true =>
      simp only [Bool.not_true,cond_false,Option.bind_some]
      cases q with
      | true =>
        simp only [cond_true]
        rw [Z9 (by simp only [List.length_cons,List.length_nil]; omega)]
        exact ⟨_,rfl,by simp only [List.length_append,List.length_cons,List.length_nil]; omega,hadd _ _ hI.2⟩
      | false=>exact ⟨_,rfl,by omega,hI.2⟩
    | false =>
      simp only [Bool.not_false,cond_true]
      rw [Z9 (by simp only [List.length_cons,List.length_nil]; omega)]
      simp only [Option.bind_some]
      cases q with
      | true =>
        simp only [cond_true]
        rw [Z9 (by simp only [List.length_append,List.length_cons,List.length_nil]; omega)]
        exact ⟨_,rfl,by simp only [List.length_append,List.length_cons,List.length_nil]; omega,hadd _ _ (hadd _ _ hI.2)⟩
      | false=>exact ⟨_,rfl,by simp only [List.length_append,List.length_cons,List.length_nil]; omega,hadd _ _ hI.2⟩))
  (fun s hI=>⟨s,by
    unfold a1v
    simp,hI⟩) [] ⟨by simp,fun p hp=>by cases hp⟩
 obtain ⟨r2,e2,h3,h4⟩:=a2z (σ:=List Record_place) (step:=a1u T x) (fun s i=>(s,i)) 2 (fun j s=>s.length<=r.length+j/\∀ p∈s,PlB p) (fun s:List Record_place=>s.length<=r.length+2/\∀ p∈s,PlB p)
  (fun j s hj hI=>.inl (by
    have hI1:=hI.1
    have key:∀ (a kd:Int),inR T.Nodes.length a=true->(kd=0\/kd=1)->∃ s',(Option.bind (a04 a T) fun r12=>bif !r12
     then (Option.bind (Q8 (s.length+([Record_place.mk (-1) false kd]:List Record_place).length) 24) fun _=>some (Fl.next (s++([Record_place.mk (-1) false kd]:List Record_place),((j+1:Nat):Int))))
     else (some (.next (s,((j+1:Nat):Int))):Option (Fl ((List Record_place)×Int) (List Record_place))))=some (.next (s',((j+1:Nat):Int)))/\s'.length<=r.length+(j+1)/\∀ p∈s',PlB p:=fun a kd ha hkd=>by
     obtain ⟨b,eb⟩:=b9R ha
     rw [eb]
     simp only [Option.bind_some]
     cases b with
     | true=>exact ⟨s,rfl,by omega,hI.2⟩
     | false =>
       simp only [Bool.not_false,cond_true]
       rw [Z9 (by simp only [List.length_cons,List.length_nil]; omega)]
       refine ⟨_,rfl,by simp only [List.length_append,List.length_cons,List.length_nil]; omega,fun p hp=>?_⟩
       rcases List.mem_append.1 hp with hp | hp
       ·exact hI.2 p hp
       ·rw [List.mem_singleton.1 hp]; exact .inr hkd
    unfold a1u
    simp only [Q4]
    rw [k9 j (by omega)]
    match j,hj with
    | 0,_=>exact key _ 0 hr1 (.inl rfl)
    | 1,_=>exact key _ 1 hr2 (.inr rfl)))
  (fun s hI=>⟨s,by
    unfold a1u
    simp,hI⟩) r ⟨by omega,h2⟩
 refine ⟨r2,?_,by omega,h4⟩
 unfold a3Q
 rw [J5]
 have e1':z8 (a1v T x keys) (keys.length+1) ([],0)=some r:=e1
 rw [e1']
 simp only [Option.bind_some]
 have e2':z8 (a1u T x) ((2:Int).toNat+1) (r,0)=some r2:=e2
 rw [e2']
 rfl
variable {L:Api_Line}
theorem b8L (hT:GT T)(hp:L.Pos.all (mpB T)=true)(hn:L.Neg.all (mpB T)=true)(hpl:L.Pos.length<=6)(hnl:L.Neg.length<=6)(i:Int){k:Key}(hk:a0Z k=true)(ch:List Record_place)(hc:ch.length=L.Neg.length) :
 ∃ r,a3v T L i k ch=some r:=by
 obtain ⟨r,e1,h1,h2⟩:=a2z (σ:=Int×List Int) (step:=a1b T L k) (fun s i=>(s.1,i,(s.2,([]:List Int),false))) L.Pos.length (fun j s=>s.2.length=j) (fun r:Int×((List Int)×(List Int)×Bool)=>r.2.1.length<=6/\r.2.2=(([]:List Int),false))
  (fun j s hj hI=>.inl (by
    have e:=List.getElem?_eq_getElem hj
    obtain ⟨x,ex,hx,hK,_⟩:=a6y (List.all_eq_true.1 hp _ (List.getElem_mem hj))
    obtain ⟨a,ea,_⟩:=b6a hT hx hK hk
    obtain ⟨q,eq⟩:=b85 x k (by have:=b4p hT hx; omega)
    unfold a1b
    simp only [Q4]
    rw [J1 hj,k7 e]
    simp only [cond_true,Option.bind_some]
    rw [ex]
    simp only [Option.bind_some]
    rw [ea]
    simp only [Option.bind_some]
    rw [Z9 (by simp only [List.length_cons,List.length_nil]; omega),eq,k9 j (by omega)]
    simp only [Option.bind_some]
    cases q with
    | true=>exact ⟨(1,s.2++[a]),rfl,by simp only [List.length_append,List.length_cons,List.length_nil]; omega⟩
    | false=>exact ⟨(s.1,s.2++[a]),rfl,by simp only [List.length_append,List.length_cons,List.length_nil]; omega⟩))
  (fun s hI=>⟨(s.1,(s.2,[],false)),by
    unfold a1b
    simp,by show s.2.length<=6; omega,rfl⟩) (2,[]) rfl
 obtain ⟨r1,r2,r3⟩:=r
 have h2:r3=(([]:List Int),false):=h2
 subst h2
 obtain ⟨z,e2,h3⟩:=a2z (σ:=Int×Bool×List Int) (step:=a1c T L i k ch) (fun s i=>(s.1,s.2.1,i,(r2,s.2.2,false))) ch.length (fun j s=>s.2.2.length<=j) (fun z:Int×Bool×((List Int)×(List Int)×Bool)=>z.2.2.1=r2/\z.2.2.2.1.length<=6/\z.2.2.2.2=false)
  (fun j s hj hI=>.inl (by
    have e:=List.getElem?_eq_getElem hj
    unfold a1c
    simp only [Q4]
    rw [J1 hj,k7 e,Int.toNat_natCast,e,k9 j (by omega)]
    simp only [cond_true,Option.bind_some]
    cases (ch[j].key != i) with
    | true=>exact ⟨s,rfl,by omega⟩
    | false =>
      simp only [cond_false]
      cases ch[j].absent with
      | true=>exact ⟨(s.1,true,s.2.2),rfl,by show s.2.2.length<=_; omega⟩
      | false =>
        simp only [cond_false]
        have hj':j<L.Neg.length:=by omega
        obtain ⟨x,ex,hx,hK,_⟩:=a6y (List.all_eq_true.1 hn _ (List.getElem_mem hj'))
        obtain ⟨a,ea,_⟩:=b6a hT hx hK hk
        rw [k7 (List.getElem?_eq_getElem hj')]
        simp only [Option.bind_some]
        rw [ex]
        simp only [Option.bind_some]
        rw [ea]
        simp only [Option.bind_some]
        rw [Z9 (by simp only [List.length_cons,List.length_nil]; omega)]
        exact ⟨(1,s.2.1,s.2.2++[a]),rfl,by simp only [List.length_append,List.length_cons,List.length_nil]; omega⟩))
  (fun s hI=>⟨(s.1,s.2.1,(r2,s.2.2,false)),by
    unfold a1c
    simp,rfl,by show s.2.2.length<=6; omega,rfl⟩) (r1,false,[]) (by simp)
 unfold a3v
 rw [J5,J5]
 have e1':z8 (a1b T L k) (L.Pos.length+1) (2,0,([],[],false))=some (r1,r2,[],false):=e1
 rw [e1']
 simp only [Option.bind_some]
 have e2':z8 (a1c T L i k ch) (ch.length+1) (r1,false,0,(r2,[],false))=some z:=e2
 rw [e2']
 simp only [Option.bind_some]
 cases z.2.1 with
 | true=>exact ⟨_,rfl⟩
 | false =>
   simp only [cond_false]
   obtain ⟨h3a,h3b,h3c⟩:=h3
   have h1':r2.length<=6:=h1
   rw [h3a,b0m _ _ _ (by omega) (by omega),c1O _ _ (by omega) (by omega)]
   exact ⟨_,rfl⟩
end
end Go.Pl
end
section
namespace Go.Pl
open Go Go.RowKit Go.Sx Go.Qx
abbrev Ten:Type:=(List Key)×(List Int)×(List Api_Goal)×(List Int)×(List Int)×Bool×(List Int)×(List Int)×Bool×(List Api_SomeKey)
abbrev ten (k:List Key)(st:List Int)(pa:List Api_Goal)(p0 p1:List Int)(so:List Api_SomeKey):Ten:=(k,st,pa,p0,[],false,p1,[],false,so)
section
variable {T:Api_Type}{L:Api_Line}
theorem b8T (hT:GT T)(hp:L.Pos.all (mpB T)=true)(hn:L.Neg.all (mpB T)=true)(hpl:L.Pos.length<=6)(hnl:L.Neg.length<=6)(keys:List Key)(hk:keys.all a0Z=true)(hkl:keys.length<=36)(ch:List Record_place)(hc:ch.length=L.Neg.length) :
 ∃ r,z8 (a05 T L keys ch) (keys.length+1) (0,ten [] [] [] [] [] [],ten keys [] [] [] [] [])=some r/\((∃ st pa,r=.inl (ten [] [] [] [] [] [],ten keys st pa [] [] []))\/∃ y,r=.inr y) :=
 a2z (σ:=List Int×List Api_Goal) (step:=a05 T L keys ch) (fun s i=>(i,ten [] [] [] [] [] [],ten keys s.1 s.2 [] [] [])) keys.length (fun j s=>s.1.length=j/\s.2.length=j) (fun r=>(∃ st pa,r=.inl (ten [] [] [] [] [] [],ten keys st pa [] [] []))\/∃ y,r=.inr y)
  (fun j s hj hI=>by
    have e:=List.getElem?_eq_getElem hj
    obtain ⟨r,er⟩:=b8L hT hp hn hpl hnl (j:Int) (List.all_eq_true.1 hk _ (List.getElem_mem hj)) ch hc
    unfold a05
    simp only [Q4]
    rw [J1 hj,k7 e]
    simp only [cond_true,Option.bind_some]
    rw [er]
    simp only [Option.bind_some]
    cases r.2.2 with
    | false=>exact .inr ⟨_,rfl,.inr ⟨_,rfl⟩⟩
    | true =>
      simp only [Bool.not_true,cond_false]
      have h1:=hI.1
      have h2:=hI.2
      rw [Z9 (by simp only [List.length_cons,List.length_nil]; omega),Z9 (by simp only [List.length_cons,List.length_nil]; omega),k9 j (by omega)]
      exact .inl ⟨(s.1++[r.1],s.2++[r.2.1]),rfl,by simp only [List.length_append,List.length_cons,List.length_nil]; omega,by simp only [List.length_append,List.length_cons,List.length_nil]; omega⟩)
  (fun s hI=>⟨.inl (ten [] [] [] [] [] [],ten keys s.1 s.2 [] [] []),by
    unfold a05
    simp,.inl ⟨_,_,rfl⟩⟩) ([],[]) ⟨rfl,rfl⟩
theorem b9P (hp:L.Pos.all (mpB T)=true)(hpl:L.Pos.length<=6)(k:List Key)(st:List Int)(pa:List Api_Goal) :
 ∃ r,z8 (a06 T L) (L.Pos.length+1) (0,ten k st pa [] [] [])=some r/\∃ p0 p1,r=ten k st pa p0 p1 []/\p0.length<=6/\p1.length<=6 :=
 a2z (σ:=List Int×List Int) (step:=a06 T L) (fun s i=>(i,ten k st pa s.1 s.2 [])) L.Pos.length (fun j s=>s.1.length=j/\s.2.length=j) (fun r=>∃ p0 p1,r=ten k st pa p0 p1 []/\p0.length<=6/\p1.length<=6)
  (fun j s hj hI=>.inl (by
    have e:=List.getElem?_eq_getElem hj
    obtain ⟨x,ex,_⟩:=a6y (List.all_eq_true.1 hp _ (List.getElem_mem hj))
    have h1:=hI.1
    have h2:=hI.2
    unfold a06
    simp only [Q4]
    rw [J1 hj,k7 e]
    simp only [cond_true,Option.bind_some]
    rw [ex]
    simp only [Option.bind_some]
    rw [Z9 (by simp only [List.length_cons,List.length_nil]; omega),Z9 (by simp only [List.length_cons,List.length_nil]; omega),k9 j (by omega)]
    exact ⟨(s.1++[x.Rest.1],s.2++[x.Rest.2]),rfl,by simp only [List.length_append,List.length_cons,List.length_nil]; omega,by simp only [List.length_append,List.length_cons,List.length_nil]; omega⟩))
  (fun s hI=>⟨ten k st pa s.1 s.2 [],by
    unfold a06
    simp,_,_,rfl,by have:=hI.1; omega,by have:=hI.2; omega⟩) ([],[]) ⟨rfl,rfl⟩
theorem b9Q (hn:L.Neg.all (mpB T)=true)(hnl:L.Neg.length<=6)(ch:List Record_place)(hc:ch.length=L.Neg.length)(hP:∀ p∈ch,PlB p)(sh:Api_Shape)(k:List Key)(st:List Int)(pa:List Api_Goal)(a b d e:List Int)(c f:Bool)
 (ha:a.length<=100) (hd:d.length<=100):∃ r,z8 (a1X T L ch) (ch.length+1) (0,sh,(k,st,pa,a,b,c,d,e,f,[]))=some r/\True :=
 a2z (σ:=List Api_SomeKey) (step:=a1X T L ch) (fun s i=>(i,sh,(k,st,pa,a,b,c,d,e,f,s))) ch.length (fun j s=>s.length<=j) (fun _=>True)
  (fun j s hj hI=>by
    have eg:=List.getElem?_eq_getElem hj
    have hj':j<L.Neg.length:=by omega
    obtain ⟨x,ex,_⟩:=a6y (List.all_eq_true.1 hn _ (List.getElem_mem hj'))
    unfold a1X
    simp only [Q4]
    rw [J1 hj,k7 eg]
    simp only [cond_true,Option.bind_some]
    rw [k9 j (by omega),Int.toNat_natCast,eg]
    simp only [Option.bind_some]
    by_cases hk:0<=ch[j].key
    ·rw [decide_eq_true hk]
     exact .inl ⟨s,rfl,by omega⟩
    ·rw [decide_eq_false hk]
     simp only [cond_false]
     rw [k7 (List.getElem?_eq_getElem hj')]
     simp only [Option.bind_some]
     rw [ex]
     simp only [Option.bind_some]
     have key:∀ (z:Int) (l:List Int),l.length<=100->∃ q,J0 l z=some q:=fun z l hl=>⟨_,b0U l z (by omega)⟩
     have hroom:∀ z:Api_SomeKey,Q8 (s.length+([z]:List Api_SomeKey).length) 64=some ():=fun z=>Z9 (by simp only [List.length_cons,List.length_nil]; omega)
     have hlen:∀ z:Api_SomeKey,(s++[z]).length<=j+1:=fun z=>by simp only [List.length_append,List.length_cons,List.length_nil]; omega
     rcases (hP _ (List.getElem_mem hj)).resolve_left hk with h0 | h0
     ·rw [h0]
      obtain ⟨q,eq⟩:=key x.Rest.1 a ha
      have b0:((0:Int)==0)=true:=rfl
      simp only [b0,cond_true,Option.bind_some]
      rw [eq]
      simp only [Option.bind_some]
      cases q with
      | true=>exact .inr ⟨_,rfl,trivial⟩
      | false =>
        simp only [cond_false]
        rw [hroom]
        exact .inl ⟨_,rfl,hlen _⟩
     ·rw [h0]
      obtain ⟨q,eq⟩:=key x.Rest.2 d hd
      have b0:((1:Int)==0)=false:=rfl
      have b1:((1:Int)==1)=true:=rfl
      simp only [b0,b1,cond_true,cond_false,Option.bind_some]
      rw [eq]
      simp only [Option.bind_some]
      cases q with
      | true=>exact .inr ⟨_,rfl,trivial⟩
      | false =>
        simp only [cond_false]
        rw [hroom]
        exact .inl ⟨_,rfl,hlen _⟩)
  (fun s hI=>⟨.inl (sh,(k,st,pa,a,b,c,d,e,f,s)),by
    unfold a1X
    simp,trivial⟩) [] (by simp)
theorem c02 (hT:GT T)(hp:L.Pos.all (mpB T)=true)(hn:L.Neg.all (mpB T)=true)(hpl:L.Pos.length<=6)(hnl:L.Neg.length<=6)(keys:List Key)(hk:keys.all a0Z=true)(hkl:keys.length<=36)(ch:List Record_place)(hc:ch.length=L.Neg.length)(hP:∀ p∈ch,PlB p) :
 ∃ r,a4j T L keys ch=some r:=by
 unfold a4j
 have hcl:X2 24 keys=some keys:=by unfold X2; rw [Z9 (by omega)]; rfl
 rw [hcl,J5,J5,J5]
 simp only [Option.bind_some]
 obtain ⟨r,e1,h1⟩:=b8T hT hp hn hpl hnl keys hk hkl ch hc
 have e1':z8 (a05 T L keys ch) (keys.length+1) (0,(([]:List Key),([]:List Int),([]:List Api_Goal),([]:List Int),([]:List Int),false,([]:List Int),([]:List Int),false,([]:List Api_SomeKey)),(keys,[],[],[],[],false,[],[],false,[]))=some r:=e1
 rw [e1']
 simp only [Option.bind_some]
 rcases h1 with ⟨st,pa,rfl⟩ | ⟨y,rfl⟩
 ·simp only [v8]
  obtain ⟨r2,e2,p0,p1,rfl,q0,q1⟩:=b9P hp hpl keys st pa
  have e2':z8 (a06 T L) (L.Pos.length+1) (0,(keys,st,pa,[],[],false,[],[],false,[]))=some (ten keys st pa p0 p1 []):=e2
  rw [e2']
  simp only [Option.bind_some]
  have s0:=b7x p0
  have s1:=b7x p1
  rw [b0m p0 [] false (by omega) (by simp),b0m p1 [] false (by omega) (by simp)]
  simp only [Option.bind_some]
  obtain ⟨r3,e3,_⟩:=b9Q hn hnl ch hc hP (Api_Shape.mk [] [] [] (Api_Goal.mk [] [] false,Api_Goal.mk [] [] false) []) keys st pa (srt p0) (srt []) (srt p1) (srt []) false false (by omega) (by omega)
  rw [e3]
  simp only [Option.bind_some]
  cases r3<;>exact ⟨_,rfl⟩
 ·exact ⟨_,rfl⟩
theorem b79 (hT:GT T)(hp:L.Pos.all (mpB T)=true)(hn:L.Neg.all (mpB T)=true)(hpl:L.Pos.length<=6)(hnl:L.Neg.length<=6)(keys:List Key)(hk:keys.all a0Z=true)(hkl:keys.length<=36) :
 ∀ (m j n:Nat) (ch:List Record_place) (out:List Api_Shape),j+m=L.Neg.length->m+1<=n->ch.length=L.Neg.length->(∀ p∈ch,PlB p)->out.length+74^m<=200000000000 ->
  ∃ ch' out',K3 n (j:Int) L T keys ch out ()=some (ch',out')/\ch'.length=L.Neg.length/\(∀ p∈ch',PlB p)/\out'.length<=out.length+74^m:=by
 intro m
 induction m with
 | zero =>
   intro j n ch out hj hn1 hc hP ho
   obtain ⟨n,rfl⟩:∃ m,n=m+1:=⟨n-1,by omega⟩
   obtain ⟨r,er⟩:=c02 hT hp hn hpl hnl keys hk hkl ch hc hP
   show ∃ ch' out',a1d n (K3 n) (j:Int) L T keys ch out ()=some (ch',out')/\_
   unfold a1d
   have e:((j:Int)==(L.Neg.length:Int))=true:=by simp; omega
   rw [e,er]
   simp only [cond_true,Option.bind_some]
   have hp0:74^0=1:=rfl
   cases r.2 with
   | true =>
     simp only [cond_true]
     rw [Z9 (by simp only [List.length_cons,List.length_nil]; omega)]
     exact ⟨ch,_,rfl,hc,hP,by simp only [List.length_append,List.length_cons,List.length_nil]; omega⟩
   | false=>exact ⟨ch,out,rfl,hc,hP,by omega⟩
 | succ m ih =>
   intro j n ch out hj hn1 hc hP ho
   obtain ⟨n,rfl⟩:∃ m,n=m+1:=⟨n-1,by omega⟩
   show ∃ ch' out',a1d n (K3 n) (j:Int) L T keys ch out ()=some (ch',out')/\_
   unfold a1d
   have e:((j:Int)==(L.Neg.length:Int))=false:=by simp; omega
   have hj':j<L.Neg.length:=by omega
   obtain ⟨x,ex,hx,hK,_⟩:=a6y (List.all_eq_true.1 hn _ (List.getElem_mem hj'))
   obtain ⟨ps,eps,hpsl,hps⟩:=b9H hT hx hK keys hk hkl
   rw [e,k7 (List.getElem?_eq_getElem hj')]
   simp only [cond_false,Option.bind_some]
   rw [ex]
   simp only [Option.bind_some]
   rw [eps]
   simp only [Option.bind_some,J5]
   have hpow:74^(m+1)=74*74^m:=by rw [Nat.pow_succ,Nat.mul_comm]
   obtain ⟨r,er,h1,h2,h3⟩:=a2z (σ:=List Record_place×List Api_Shape) (step:=a0Y (j:Int) L T keys ps (K3 n)) (fun s i=>(ps,i,s.1,s.2)) ps.length
    (fun i s=>s.1.length=L.Neg.length/\(∀ p∈s.1,PlB p)/\s.2.length<=out.length+i*74^m) (fun r:(List Record_place)×(List Record_place)×(List Api_Shape)=>r.2.1.length=L.Neg.length/\(∀ p∈r.2.1,PlB p)/\r.2.2.length<=out.length+ps.length*74^m)
    (fun i s hi hI=>.inl (by
      have ei:=List.getElem?_eq_getElem hi
      have hjc:j<s.1.length:=by rw [hI.1]; exact hj'
      have ej:=List.getElem?_eq_getElem hjc
      have hmul:(i+1)*74^m<=74*74^m:=Nat.mul_le_mul_right _ (by omega)
      have hI3:s.2.length<=out.length+i*74^m:=hI.2.2
      have hA:s.2.length+74^m<=out.length+(i+1)*74^m:=by
       rw [Nat.add_mul,Nat.one_mul,<- Nat.add_assoc]
       exact Nat.add_le_add_right hI3 _
      have hB:(i+1)*74^m<=74^(m+1):=by rw [hpow]; exact hmul
      have hC:s.2.length+74^m<=200000000000:=Nat.le_trans hA (Nat.le_trans (Nat.add_le_add_left hB _) ho)
      obtain ⟨ch',out',e1,c1,c2,c3⟩:=ih (j+1) n (s.1.set j ps[i]) s.2 (by omega) (by omega) (by rw [List.length_set]; exact hI.1) (fun p hp=>by
       rcases List.mem_or_eq_of_mem_set hp with hp | rfl
       ·exact hI.2.1 p hp
       ·exact hps _ (List.getElem_mem hi)) hC
      refine ⟨(ch',out'),?_,c1,c2,Nat.le_trans c3 hA⟩
      unfold a0Y
      simp only [Q4]
      rw [J1 hi,k7 ei,k7 ej]
      simp only [Int.toNat_natCast,cond_true,Option.bind_some,ei,ej]
      rw [k9 j (by omega),k9 i (by omega),e1]
      rfl))
    (fun s hI=>⟨(ps,s.1,s.2),by
      unfold a0Y
      simp,hI.1,hI.2.1,hI.2.2⟩) (ch,out) ⟨hc,hP,by simp⟩
   have er':z8 (a0Y (j:Int) L T keys ps (K3 n)) (ps.length+1) (ps,0,ch,out)=some r:=er
   rw [er']
   have hle:ps.length*74^m<=74*74^m:=Nat.mul_le_mul_right _ hpsl
   exact ⟨r.2.1,r.2.2,rfl,h1,h2,Nat.le_trans h3 (Nat.add_le_add_left (by rw [hpow]; exact hle) _)⟩
theorem c0J (hT:GT T){l:List Int}(hl:l.all (mpB T)=true):∀ y∈a3R T l,a0Z y=true:=fun y hy=>by
 unfold a3R at hy
 obtain ⟨k,hk,hy⟩:=List.mem_flatMap.1 hy
 have hm:=List.all_eq_true.1 hl k hk
 unfold mpB at hm
 simp only [Bool.and_eq_true] at hm
 obtain ⟨j,rfl,hj⟩:=a3q hm.1
 have e:=List.getElem?_eq_getElem hj
 have h2:=hm.2
 rw [Int.toNat_natCast,e] at h2 hy
 simp only [Option.map_some,Option.getD_some,List.mem_map] at hy
 obtain ⟨f,hf,rfl⟩:=hy
 have h1:=(b0H hT (List.getElem_mem hj) (by simpa using h2)).1
 unfold a2M at h1
 simp only [Bool.and_eq_true] at h1
 exact List.all_eq_true.1 h1.2.1 f hf
theorem c1l {l:List Int}(hl:l.all (mpB T)=true):l.all (inR T.Nodes.length)=true:=List.all_eq_true.2 fun k hk=>by
 obtain ⟨_,_,_,_,h⟩:=a6y (List.all_eq_true.1 hl k hk)
 exact h
theorem b8O (hT:GT T)(hr:inR T.Nodes.length T.Root=true)(hpl:L.Pos.length<=6)(hnl:L.Neg.length<=6)(n:Nat)(hn:1100001<=n) :
 ∃ l,a1a n T L=some (l,if L.Kind=8 then (if (L.Pos++L.Neg).all (mpB T)=true then 0 else 1) else 9):=by
 unfold a1a
 by_cases hK:L.Kind=8
 ·have e0:(L.Kind != 8)=false:=by simp [hK]
  rw [e0,wf0 hT hr n hn,b7O L.Pos (by omega),b7O L.Neg (by omega),if_pos hK]
  simp only [cond_false,Option.bind_some,bne_self_eq_false,List.all_append]
  cases hp:L.Pos.all (mpB T) with
  | false=>exact ⟨[],rfl⟩
  | true =>
    cases hq:L.Neg.all (mpB T) with
    | false=>exact ⟨[],rfl⟩
    | true =>
      simp only [Bool.not_true,cond_false,Option.bind_some,Bool.and_self,if_true]
      have hcl:X2 8 L.Pos=some L.Pos:=by unfold X2; rw [Z9 (by omega)]; rfl
      rw [hcl]
      simp only [Option.bind_some]
      rw [Z9 (by omega)]
      simp only [Option.bind_some]
      have hall:(L.Pos++L.Neg).all (mpB T)=true:=by rw [List.all_append,hp,hq]; rfl
      have hlen:(L.Pos++L.Neg).length<=12:=by rw [List.length_append]; omega
      obtain ⟨ks,ek,hkl,_,hkm⟩:=b5g hT (L.Pos++L.Neg) (by omega) (c1l hall)
      rw [ek]
      simp only [Option.bind_some]
      have hroom:a5p (L.Neg.length:Int) (L.Neg.length:Int) 24=some L.Neg.length:=by
       unfold a5p
       rw [show (decide (0<=(L.Neg.length:Int))&&decide ((L.Neg.length:Int)<=(L.Neg.length:Int))&&decide ((L.Neg.length:Int)*((24:Nat):Int)<=140737488355328))=true from by simp; omega]
       simp
      rw [hroom]
      simp only [Option.bind_some]
      have hpw:74^L.Neg.length<=74^6:=Nat.pow_le_pow_right (by decide) hnl
      obtain ⟨ch',out',e1,_⟩:=b79 hT hp hq hpl hnl ks (List.all_eq_true.2 fun y hy=>c0J hT hall y ((hkm y).1 hy)) (by omega) L.Neg.length 0 n (List.replicate L.Neg.length (Record_place.mk 0 false 0)) [] (by omega) (by omega) (by simp) (fun p hp=>.inl (by rw [(List.mem_replicate.1 hp).2]; exact Int.le_refl _)) (by
       have:(74:Nat)^6=164206490176:=by decide
       simp only [List.length_nil]
       omega)
      have e1':K3 n 0 L T ks (List.replicate L.Neg.length (Record_place.mk 0 false 0)) [] ()=some (ch',out'):=e1
      rw [e1']
      exact ⟨out',rfl⟩
 ·have e0:(L.Kind != 8)=true:=by simpa using hK
  rw [e0,if_neg hK]
  exact ⟨[],rfl⟩
end
end Go.Pl
end
section
namespace Go.Pl
open Go Go.RowKit Go.Sx Go.Qx
theorem b97 (l:List (List Int))(hl:l.length<=1000):a1T l=some (l.all fun x=>!decide (80<(x.length:Int))):=by
 have l1:=a7c (step:=a0j l) l (fun x=>!decide (80<(x.length:Int))) (fun i=>(i:Int)) () false (fun i x hx=>by
  have hi:i<l.length:=(List.getElem?_eq_some_iff.1 hx).1
  unfold a0j
  rw [J1 hi,k7 hx]
  simp only [cond_true,Option.bind_some,Q4]
  rw [k9 i (by omega)]
  cases decide (80<(x.length:Int))<;>rfl) (by
  unfold a0j
  simp)
 have l1':z8 (a0j l) (l.length+1) 0=_:=l1
 unfold a1T
 rw [J5,l1']
 cases l.all fun x=>!decide (80<(x.length:Int))<;>rfl
end Go.Pl
end
section
namespace Go.Pl
open Go Go.RowKit Go.Sx Go.Qx
def tB:Api_Type:=Api_Type.mk ([Api_TypeNode.mk 2 0 0 (⟨#[]⟩:ByteArray) ([]:List Int) ([]:List Api_Field) (0,0),Api_TypeNode.mk 13 0 0 (⟨#[]⟩:ByteArray) ([]:List Int) ([]:List Api_Field) (0,0)]:List Api_TypeNode) 0
def lB:Api_Line:=Api_Line.mk 8 0 ([]:List Api_Range) (Api_Names.mk false ([]:List ByteArray)) ([1]:List Int) ([]:List Int) ([]:List ByteArray) ([]:List ByteArray)
theorem c30:GT tB:=by
 refine ⟨by decide,fun i x hx=>?_⟩
 match i,hx with
 | 0,hx =>
   cases hx
   exact a99 (by decide)
 | 1,hx =>
   cases hx
   exact ⟨by kernel_rfl,fun h=>absurd h (show ¬ (false=true) by simp),by show (0:Nat)<=4; omega,by show (⟨#[]⟩:ByteArray).size<=5; decide,by show (0:Nat)<=3; omega,fun f hf=>(by cases hf),by show (-9223372036854775808:Int)<=0/\(0:Int)<=9223372036854775807/\(-9223372036854775808:Int)<=0/\(0:Int)<=9223372036854775807; decide⟩
 | i+2,hx=>simp [tB] at hx
theorem c3n:a1P tB ([1]++[])=some []:=by
 obtain ⟨ks,e,_,_,hm⟩:=b5g c30 ([1]++[]) (by decide) (by kernel_rfl)
 have:ks=[]:=by
  cases ks with
  | nil=>rfl
  | cons y r =>
    have h:=(hm y).1 (by simp)
    have h2:a3R tB ([1]++[])=[]:=rfl
    rw [h2] at h
    cases h
 rw [e,this]
theorem c1S:a1a 200000000 tB lB=(Option.bind (a1P tB ([1]++[])) fun r8=>Option.bind (a5p 0 0 24) fun m9=>Option.bind (K3 200000000 0 lB tB r8 (List.replicate m9 (Record_place.mk 0 false 0:Record_place)) [] ()) fun r10=>some (r10.2,0)):=by kernel_rfl
theorem c1t:a0n 200000000=some true:=by
 unfold a0n
 show Option.bind (a1a 200000000 tB lB) _=_
 rw [c1S,c3n]
 decide +kernel
section
variable {T:Api_Type}{x:Api_Line}
theorem c10 (X0:Api_Line)(hl:(x.Pos++x.Neg).length<=12) :
 z8 (Y5 x (T,X0)) ((x.Pos++x.Neg).length+1) ((x.Pos++x.Neg).all (inR T.Nodes.length),0)=some ((x.Pos++x.Neg).all (mpB T)):=by
 generalize hL:x.Pos++x.Neg=l at *
 cases hin:l.all (inR T.Nodes.length) with
 | false =>
   have hm:l.all (mpB T)=false:=by
    rw [Bool.eq_false_iff]
    intro h
    rw [c1l h] at hin
    cases hin
   rw [hm]
   simp only [z8,Y5,cond_false,Option.bind_some]
 | true =>
   obtain ⟨r,e,h⟩:=a2z (σ:=Bool) (step:=Y5 x (T,X0)) (fun b i=>(b,i)) l.length (fun j b=>b=(l.take j).all (mpB T)) (fun r=>r=l.all (mpB T))
    (fun j b hj hI=>by
      cases hb:b with
      | false =>
        refine .inr ⟨false,by simp only [Y5,cond_false,Option.bind_some],?_⟩
        symm
        rw [Bool.eq_false_iff]
        intro h
        rw [hb] at hI
        have:(l.take j).all (mpB T)=true:=List.all_eq_true.2 fun k hk=>List.all_eq_true.1 h k (List.mem_of_mem_take hk)
        rw [this] at hI
        cases hI
      | true =>
        have e:=List.getElem?_eq_getElem hj
        have hk:=List.all_eq_true.1 hin _ (List.getElem_mem hj)
        obtain ⟨y,ey,_⟩:=b7L hk
        refine .inl ⟨y.Kind==13,?_,?_⟩
        ·unfold Y5
         simp only [Q4,hL]
         rw [J1 hj,k7 e]
         simp only [cond_true,Option.bind_some]
         rw [ey,k9 j (by omega)]
         rfl
        ·rw [List.take_add_one,e]
         rw [hb] at hI
         simp only [Option.toList_some,List.all_append,<- hI,List.all_cons,List.all_nil,Bool.and_true,Bool.true_and]
         obtain ⟨i,hi,hlt⟩:=a3q hk
         have e2:=List.getElem?_eq_getElem hlt
         rw [hi] at ey
         rw [k7 e2] at ey
         cases ey
         unfold mpB
         rw [hk,hi,Int.toNat_natCast,e2]
         rfl)
    (fun b hI=>⟨b,by
      have hd:decide ((l.length:Int)<(l.length:Int))=false:=by simp
      cases b<;>simp only [Y5,hL,hd,cond_true,cond_false,Option.bind_some],by rw [hI,List.take_length]⟩) true (by simp)
   rw [e,h]
theorem b9i (hT:GT T)(hr:inR T.Nodes.length T.Root=true)(s:Api_Shape)(n:Nat)(hn:200000000<=n)(ho:((s.States.length:Int) != (s.Keys.length:Int))=true\/((s.Parts.length:Int) != (s.Keys.length:Int))=true) :
 a2q n (Val.mk 8 0 (⟨#[]⟩:ByteArray) [] [] [] []) T s=some false:=by
 unfold a2q
 have hb:a0p (Val.mk 8 0 (⟨#[]⟩:ByteArray) [] [] [] [])<=100:=by rw [c1E]; simp [c3C,V5,a3U,a0I]
 have hal:a3m s=some false:=by
  unfold a3m
  have sw:∀ a b:Int,(a==b)=(b==a):=fun a b=>by rw [Bool.eq_iff_iff,beq_iff_eq,beq_iff_eq]; exact ⟨Eq.symm,Eq.symm⟩
  cases h1:((s.Keys.length:Int)==(s.States.length:Int)) with
  | false=>rfl
  | true =>
    simp only [cond_true,Option.bind_some]
    rcases ho with h | h
    ·unfold bne at h
     rw [sw,h1] at h
     cases h
    ·unfold bne at h
     rw [sw] at h
     simp only [Bool.not_eq_true',] at h
     rw [h]
 rw [b60 n _ (by omega) (by omega),wf0 hT hr n (by omega),hal]
 cases vOK (Val.mk 8 0 (⟨#[]⟩:ByteArray) [] [] [] [])<;>rfl
end
theorem b2z (d t:List Int)(x:Api_Line)(s:Api_Shape):∃ n,V7 n d t x s=some true:=by
 have key:∀ n,200000000<=n->a0n n=some true->V7 n d t x s=some true:=by
  intro n hn ha
  unfold V7
  rw [b97 _ (by simp),ha]
  simp only [Option.bind_some]
  by_cases hd:80<(d.length:Int)
  ·have:(List.all [d,t] fun x=>!decide (80<(x.length:Int)))=false:=by simp only [List.all_cons,decide_eq_true hd]; rfl
   rw [this]
   rfl
  by_cases ht:80<(t.length:Int)
  ·have:(List.all [d,t] fun x=>!decide (80<(x.length:Int)))=false:=by simp only [List.all_cons,decide_eq_false hd,decide_eq_true ht]; rfl
   rw [this]
   rfl
  have hs:(List.all [d,t] fun x=>!decide (80<(x.length:Int)))=true:=by simp only [List.all_cons,decide_eq_false hd,decide_eq_false ht]; rfl
  rw [hs]
  by_cases hp:6<(x.Pos.length:Int)
  ·rw [decide_eq_true hp]; rfl
  by_cases hq:6<(x.Neg.length:Int)
  ·rw [decide_eq_false hp,decide_eq_true hq]; rfl
  by_cases hr:6<(s.Keys.length:Int)
  ·rw [decide_eq_false hp,decide_eq_false hq,decide_eq_true hr]; rfl
  rw [decide_eq_false hp,decide_eq_false hq,decide_eq_false hr]
  simp only [Bool.not_true,cond_false,Option.bind_some]
  obtain ⟨N,ns,P,Q,hN,hN4,el,hI⟩:=c0V (L:=t) (d:=d) (by omega) (by omega)
  have hlen:ns.length=N+3:=hI.len
  have hT:GT (Api_Type.mk ns 0):=⟨by show ns.length<=10; omega,by show GNs ns.length ns; rw [hlen]; exact hI.nodes⟩
  have hroot:inR (Api_Type.mk ns 0).Nodes.length (Api_Type.mk ns 0).Root=true:=a5G (show (0:Int)<=0 by omega) (by show (0:Int)<(ns.length:Int); omega)
  rw [el]
  simp only [Option.bind_some]
  obtain ⟨sh,es⟩:=b8O (L:=x) hT hroot (by omega) (by omega) n (by omega)
  rw [es]
  simp only [Option.bind_some]
  rw [Z9 (by omega),Z9 (by omega)]
  simp only [Option.bind_some]
  have hll:(x.Pos++x.Neg).length<=12:=by rw [List.length_append]; omega
  rw [b8b _ (by show (x.Pos++x.Neg).length<=1000000; omega) (by simp)]
  have hg:gIn (Api_Type.mk ns 0).Nodes.length (Api_Goal.mk (x.Pos++x.Neg) [] false)=(x.Pos++x.Neg).all (inR (Api_Type.mk ns 0).Nodes.length):=by unfold gIn; simp
  rw [hg]
  simp only [Option.bind_some,J5]
  rw [c10 _ hll]
  simp only [Option.bind_some]
  have hM:a2R ([]:List Key) ([]:List Val)=some (Val.mk 8 0 (⟨#[]⟩:ByteArray) [] [] [] [],0):=by kernel_rfl
  rw [hM]
  simp only [Option.bind_some]
  have hcode:(bif x.Kind != 8 then (some (9:Int)) else (bif !((x.Pos++x.Neg).all (mpB (Api_Type.mk ns 0))) then (some 1) else (some 0)))=some (if x.Kind=8 then (if (x.Pos++x.Neg).all (mpB (Api_Type.mk ns 0))=true then 0 else 1) else 9):=by
   by_cases hK:x.Kind=8
   ·have:(x.Kind != 8)=false:=by simp [hK]
    rw [this,if_pos hK]
    cases (x.Pos++x.Neg).all (mpB (Api_Type.mk ns 0))<;>rfl
   ·have:(x.Kind != 8)=true:=by simpa using hK
    rw [this,if_neg hK]
    rfl
  rw [hcode]
  simp only [Option.bind_some,beq_self_eq_true,cond_true]
  cases h1:((s.States.length:Int) != (s.Keys.length:Int)) with
  | true =>
    rw [b9i hT hroot s n hn (.inl h1)]
    rfl
  | false =>
    simp only [cond_false,Option.bind_some]
    cases h2:((s.Parts.length:Int) != (s.Keys.length:Int)) with
    | true =>
      rw [b9i hT hroot s n hn (.inr h2)]
      rfl
    | false=>rfl
 exact ⟨_,key _ (Nat.le_refl _) c1t⟩
end Go.Pl
end
section
namespace Go.Proofs
open Go.Shelf
set_option maxRecDepth 100000
def Tryz.lay85_ren:Go.Shelf.Ren:=⟨fun | 6=>85 | 15=>150 | 14=>149 | 28=>196 | 29=>197 | 20=>188 | 21=>189 | 22=>190 | 23=>191 | 24=>192 | 25=>193 | 26=>194 | 27=>195 | 46=>223 | 47=>224 | 48=>225 | 49=>226 | 50=>227 | 57=>238 | n=>n,fun | 22=>29 | 24=>83 | 25=>113 | 3=>3 | 39=>81 | 0=>0 | 53=>211 | 55=>213 | 4=>4 | 46=>204 | 45=>203 | 50=>208 | 5=>5 | 9=>9 | 66=>231 | 70=>235 | 76=>244 | 77=>245 | n=>n,fun | n=>n⟩
theorem Tryz.lay85:Go.Proofs.SlLaysF0.n6 Tryz.prog Tryz.lay85_ren:={
 mixed:=by kernel_rfl
 f6:=⟨Tryz.f85.name,by decide,Tryz.func85.trans (congrArg some (by kernel_rfl))⟩
 f14:=⟨Tryz.f149.name,by decide,Tryz.func149.trans (congrArg some (by kernel_rfl))⟩
 f15:=Tryz.func150.trans (congrArg some (by kernel_rfl))
 f20:=⟨Tryz.f188.name,by decide,Tryz.func188.trans (congrArg some (by kernel_rfl))⟩
 f21:=⟨Tryz.f189.name,by decide,Tryz.func189.trans (congrArg some (by kernel_rfl))⟩
 f22:=⟨Tryz.f190.name,by decide,Tryz.func190.trans (congrArg some (by kernel_rfl))⟩
 f23:=⟨Tryz.f191.name,by decide,Tryz.func191.trans (congrArg some (by kernel_rfl))⟩
 f24:=⟨Tryz.f192.name,by decide,Tryz.func192.trans (congrArg some (by kernel_rfl))⟩
 f25:=⟨Tryz.f193.name,by decide,Tryz.func193.trans (congrArg some (by kernel_rfl))⟩
 f26:=⟨Tryz.f194.name,by decide,Tryz.func194.trans (congrArg some (by kernel_rfl))⟩
 f27:=⟨Tryz.f195.name,by decide,Tryz.func195.trans (congrArg some (by kernel_rfl))⟩
 f28:=Tryz.func196.trans (congrArg some (by kernel_rfl))
 f29:=Tryz.func197.trans (congrArg some (by kernel_rfl))
 f46:=⟨Tryz.f223.name,by decide,Tryz.func223.trans (congrArg some (by kernel_rfl))⟩
 f47:=Tryz.func224.trans (congrArg some (by kernel_rfl))
 f48:=Tryz.func225.trans (congrArg some (by kernel_rfl))
 f49:=⟨Tryz.f226.name,by decide,Tryz.func226.trans (congrArg some (by kernel_rfl))⟩
 f50:=⟨Tryz.f227.name,by decide,Tryz.func227.trans (congrArg some (by kernel_rfl))⟩
 f57:=⟨Tryz.f238.name,by decide,Tryz.func238.trans (congrArg some (by kernel_rfl))⟩
 t0:=Tryz.underlying0
 a0:=Tryz.isAgg0
 z0:=Tryz.sizeOf0
 v0:=Tryz.zeroValue0
 t3:=Tryz.underlying3
 a3:=Tryz.isAgg3
 z3:=Tryz.sizeOf3
 v3:=Tryz.zeroValue3
 t4:=Tryz.underlying4
 a4:=Tryz.isAgg4
 z4:=Tryz.sizeOf4
 v4:=Tryz.zeroValue4
 t5:=Tryz.underlying5
 a5:=Tryz.isAgg5
 z5:=Tryz.sizeOf5
 v5:=Tryz.zeroValue5
 t9:=Tryz.underlying9
 a9:=Tryz.isAgg9
 z9:=Tryz.sizeOf9
 v9:=Tryz.zeroValue9
 t22:=Tryz.underlying29
 a22:=Tryz.isAgg29
 z22:=Tryz.sizeOf29
 v22:=Tryz.zeroValue29
 t25:=Tryz.underlying113
 a25:=Tryz.isAgg113
 z25:=Tryz.sizeOf113
 v25:=Tryz.zeroValue113
 t39:=Tryz.underlying81
 a39:=Tryz.isAgg81
 z39:=Tryz.sizeOf81
 v39:=Tryz.zeroValue81
 t45:=Tryz.underlying203
 a45:=Tryz.isAgg203
 z45:=Tryz.sizeOf203
 v45:=Tryz.zeroValue203
 t46:=Tryz.underlying204
 a46:=Tryz.isAgg204
 z46:=Tryz.sizeOf204
 v46:=Tryz.zeroValue204
 t50:=Tryz.underlying208
 a50:=Tryz.isAgg208
 z50:=Tryz.sizeOf208
 v50:=Tryz.zeroValue208
 t53:=Tryz.underlying211
 a53:=Tryz.isAgg211
 z53:=Tryz.sizeOf211
 v53:=Tryz.zeroValue211
 t55:=Tryz.underlying213
 a55:=Tryz.isAgg213
 z55:=Tryz.sizeOf213
 v55:=Tryz.zeroValue213
 t66:=Tryz.underlying231
 a66:=Tryz.isAgg231
 z66:=Tryz.sizeOf231
 v66:=Tryz.zeroValue231
 t70:=Tryz.underlying235
 a70:=Tryz.isAgg235
 z70:=Tryz.sizeOf235
 v70:=Tryz.zeroValue235
 t76:=Tryz.underlying244
 a76:=Tryz.isAgg244
 z76:=Tryz.sizeOf244
 v76:=Tryz.zeroValue244
 t77:=Tryz.underlying245
 a77:=Tryz.isAgg245
 z77:=Tryz.sizeOf245
 v77:=Tryz.zeroValue245 }
def Tryz.lay200_ren:Go.Shelf.Ren:=⟨fun | 189=>200 | 125=>150 | 257=>229 | 128=>196 | 129=>197 | 294=>239 | 295=>240 | 296=>241 | 297=>242 | 298=>243 | 299=>244 | 216=>245 | 300=>246 | 301=>247 | 328=>252 | 329=>224 | 330=>225 | 331=>253 | 332=>254 | 215=>198 | 343=>261 | n=>n,fun | 28=>22 | 3=>3 | 46=>81 | 0=>0 | 51=>211 | 53=>213 | 4=>4 | 183=>204 | 182=>203 | 131=>208 | 5=>5 | 9=>9 | 218=>231 | 222=>235 | 228=>244 | 229=>245 | n=>n,fun | n=>n⟩
theorem Tryz.lay200:Go.Proofs.Lays.n189 Tryz.prog Tryz.lay200_ren:={
 mixed:=by kernel_rfl
 f125:=Tryz.func150.trans (congrArg some (by kernel_rfl))
 f128:=Tryz.func196.trans (congrArg some (by kernel_rfl))
 f129:=Tryz.func197.trans (congrArg some (by kernel_rfl))
 f189:=Tryz.func200.trans (congrArg some (by kernel_rfl))
 f215:=Tryz.func198.trans (congrArg some (by kernel_rfl))
 f216:=Tryz.func245.trans (congrArg some (by kernel_rfl))
 f257:=Tryz.func229.trans (congrArg some (by kernel_rfl))
 f294:=Tryz.func239.trans (congrArg some (by kernel_rfl))
 f295:=Tryz.func240.trans (congrArg some (by kernel_rfl))
 f296:=Tryz.func241.trans (congrArg some (by kernel_rfl))
 f297:=Tryz.func242.trans (congrArg some (by kernel_rfl))
 f298:=Tryz.func243.trans (congrArg some (by kernel_rfl))
 f299:=Tryz.func244.trans (congrArg some (by kernel_rfl))
 f300:=Tryz.func246.trans (congrArg some (by kernel_rfl))
 f301:=Tryz.func247.trans (congrArg some (by kernel_rfl))
 f328:=Tryz.func252.trans (congrArg some (by kernel_rfl))
 f329:=Tryz.func224.trans (congrArg some (by kernel_rfl))
 f330:=Tryz.func225.trans (congrArg some (by kernel_rfl))
 f331:=Tryz.func253.trans (congrArg some (by kernel_rfl))
 f332:=Tryz.func254.trans (congrArg some (by kernel_rfl))
 f343:=Tryz.func261.trans (congrArg some (by kernel_rfl))
 t0:=Tryz.underlying0
 a0:=Tryz.isAgg0
 z0:=Tryz.sizeOf0
 v0:=Tryz.zeroValue0
 t3:=Tryz.underlying3
 a3:=Tryz.isAgg3
 z3:=Tryz.sizeOf3
 v3:=Tryz.zeroValue3
 t4:=Tryz.underlying4
 a4:=Tryz.isAgg4
 z4:=Tryz.sizeOf4
 v4:=Tryz.zeroValue4
 t5:=Tryz.underlying5
 a5:=Tryz.isAgg5
 z5:=Tryz.sizeOf5
 v5:=Tryz.zeroValue5
 t9:=Tryz.underlying9
 a9:=Tryz.isAgg9
 z9:=Tryz.sizeOf9
 v9:=Tryz.zeroValue9
 t28:=Tryz.underlying22
 a28:=Tryz.isAgg22
 z28:=Tryz.sizeOf22
 v28:=Tryz.zeroValue22
 t46:=Tryz.underlying81
 a46:=Tryz.isAgg81
 z46:=Tryz.sizeOf81
 v46:=Tryz.zeroValue81
 t51:=Tryz.underlying211
 a51:=Tryz.isAgg211
 z51:=Tryz.sizeOf211
 v51:=Tryz.zeroValue211
 t53:=Tryz.underlying213
 a53:=Tryz.isAgg213
 z53:=Tryz.sizeOf213
 v53:=Tryz.zeroValue213
 t131:=Tryz.underlying208
 a131:=Tryz.isAgg208
 z131:=Tryz.sizeOf208
 v131:=Tryz.zeroValue208
 t182:=Tryz.underlying203
 a182:=Tryz.isAgg203
 z182:=Tryz.sizeOf203
 v182:=Tryz.zeroValue203
 t183:=Tryz.underlying204
 a183:=Tryz.isAgg204
 z183:=Tryz.sizeOf204
 v183:=Tryz.zeroValue204
 t218:=Tryz.underlying231
 a218:=Tryz.isAgg231
 z218:=Tryz.sizeOf231
 v218:=Tryz.zeroValue231
 t222:=Tryz.underlying235
 a222:=Tryz.isAgg235
 z222:=Tryz.sizeOf235
 v222:=Tryz.zeroValue235
 t228:=Tryz.underlying244
 a228:=Tryz.isAgg244
 z228:=Tryz.sizeOf244
 v228:=Tryz.zeroValue244
 t229:=Tryz.underlying245
 a229:=Tryz.isAgg245
 z229:=Tryz.sizeOf245
 v229:=Tryz.zeroValue245 }
end Go.Proofs
end
section
namespace Go.Qx
open Go Go.RowKit Go.Sx
set_option maxRecDepth 100000
abbrev b0Q (v:Api_Field):Key×Int×Bool:=(v.Key_,v.Node,v.Optional)
abbrev b6V (x:Key×Int×Bool):Api_Field:=⟨x.1,x.2.1,x.2.2⟩
@[reducible] def a2j:Rp Api_Field:=a3O b0Q (y4 (rpKey) (y4 (rpK .i64) (rpBool)))
abbrev a7o (v:Api_TypeNode):Int×Int×Int×ByteArray×(List Int)×(List Api_Field)×(Int×Int):=(v.Kind,v.Lo,v.Hi,v.Text,v.Kids,v.Fields,v.Rest)
abbrev b3i (x:Int×Int×Int×ByteArray×(List Int)×(List Api_Field)×(Int×Int)):Api_TypeNode:=⟨x.1,x.2.1,x.2.2.1,x.2.2.2.1,x.2.2.2.2.1,x.2.2.2.2.2.1,x.2.2.2.2.2.2⟩
@[reducible] def a00:Rp Api_TypeNode:=a3O a7o (y4 (rpK .i64) (y4 (rpK .i64) (y4 (rpK .i64) (y4 (rpStr) (y4 (@rpList _ (rpK .i64)) (y4 (@rpList _ (a2j)) (y4 (rpK .i64) (rpK .i64))))))))
abbrev b1X (v:Api_Type):(List Api_TypeNode)×Int:=(v.Nodes,v.Root)
abbrev b7d (x:(List Api_TypeNode)×Int):Api_Type:=⟨x.1,x.2⟩
@[reducible] def a7X:Rp Api_Type:=a3O b1X (y4 (@rpList _ (a00)) (rpK .i64))
abbrev b0a (v:Api_Names):Bool×(List ByteArray):=(v.Cofinite,v.List_)
abbrev b58 (x:Bool×(List ByteArray)):Api_Names:=⟨x.1,x.2⟩
@[reducible] def a0e:Rp Api_Names:=a3O b0a (y4 (rpBool) (@rpList _ (rpStr)))
abbrev a98 (v:Api_Range):Int×Int:=(v.Lo,v.Hi)
abbrev b6o (x:Int×Int):Api_Range:=⟨x.1,x.2⟩
@[reducible] def V0:Rp Api_Range:=a3O a98 (y4 (rpK .i64) (rpK .i64))
abbrev b2a (v:Api_Line):Int×Int×(List Api_Range)×Api_Names×(List Int)×(List Int)×(List ByteArray)×(List ByteArray):=(v.Kind,v.Arity,v.Ints,v.Names,v.Pos,v.Neg,v.Vars,v.NotVars)
abbrev b69 (x:Int×Int×(List Api_Range)×Api_Names×(List Int)×(List Int)×(List ByteArray)×(List ByteArray)):Api_Line:=⟨x.1,x.2.1,x.2.2.1,x.2.2.2.1,x.2.2.2.2.1,x.2.2.2.2.2.1,x.2.2.2.2.2.2.1,x.2.2.2.2.2.2.2⟩
@[reducible] def a3M:Rp Api_Line:=a3O b2a (y4 (rpK .i64) (y4 (rpK .i64) (y4 (@rpList _ (V0)) (y4 (a0e) (y4 (@rpList _ (rpK .i64)) (y4 (@rpList _ (rpK .i64)) (y4 (@rpList _ (rpStr)) (@rpList _ (rpStr)))))))))
abbrev a4a (v:Semtypebase_Source):(List Int)×Int:=(v.L,v.At)
abbrev a8X (x:(List Int)×Int):Semtypebase_Source:=⟨x.1,x.2⟩
@[reducible] def a2h:Rp Semtypebase_Source:=a3O a4a (y4 (@rpList _ (rpK .i64)) (rpK .i64))
abbrev b17 (v:Api_Goal):(List Int)×(List Int)×Bool:=(v.Pos,v.Neg,v.Lists)
abbrev b6Z (x:(List Int)×(List Int)×Bool):Api_Goal:=⟨x.1,x.2.1,x.2.2⟩
@[reducible] def j6:Rp Api_Goal:=a3O b17 (y4 (@rpList _ (rpK .i64)) (y4 (@rpList _ (rpK .i64)) (rpBool)))
abbrev a8T (v:Api_SomeKey):Int×Api_Goal:=(v.Kind,v.Goal)
abbrev b4g (x:Int×Api_Goal):Api_SomeKey:=⟨x.1,x.2⟩
@[reducible] def Q0:Rp Api_SomeKey:=a3O a8T (y4 (rpK .i64) (j6))
abbrev b0J (v:Api_Shape):(List Key)×(List Int)×(List Api_Goal)×(Api_Goal×Api_Goal)×(List Api_SomeKey):=(v.Keys,v.States,v.Parts,v.Rest,v.Some)
abbrev b5V (x:(List Key)×(List Int)×(List Api_Goal)×(Api_Goal×Api_Goal)×(List Api_SomeKey)):Api_Shape:=⟨x.1,x.2.1,x.2.2.1,x.2.2.2.1,x.2.2.2.2⟩
@[reducible] def a27:Rp Api_Shape:=a3O b0J (y4 (@rpList _ (rpKey)) (y4 (@rpList _ (rpK .i64)) (y4 (@rpList _ (j6)) (y4 (y4 (j6) (j6)) (@rpList _ (Q0))))))
abbrev a7v (v:Record_place):Int×Bool×Int:=(v.key,v.absent,v.kind)
abbrev b3K (x:Int×Bool×Int):Record_place:=⟨x.1,x.2.1,x.2.2⟩
@[reducible] def a4m:Rp Record_place:=a3O a7v (y4 (rpK .i64) (y4 (rpBool) (rpK .i64)))
abbrev a9M (v:Value_used):Bool×Bool×Bool×Bool×Bool:=(v.number,v.text_,v.kids,v.keys,v.entries)
abbrev b5h (x:Bool×Bool×Bool×Bool×Bool):Value_used:=⟨x.1,x.2.1,x.2.2.1,x.2.2.2.1,x.2.2.2.2⟩
@[reducible] def a5X:Rp Value_used:=a3O a9M (y4 (rpBool) (y4 (rpBool) (y4 (rpBool) (y4 (rpBool) (rpBool)))))
def tyL:List TE:=[⟨2,Int,rpK .i64⟩,
 ⟨3,Int,rpK .i64⟩,
 ⟨4,Bool,rpBool⟩,
 ⟨9,ByteArray,rpStr⟩,
 ⟨22,List Int,@rpList _ (rpK .i64)⟩,
 ⟨25,List Api_TypeNode,@rpList _ (a00)⟩,
 ⟨27,Api_Type,a7X⟩,
 ⟨28,List Val,@rpList _ (rpVal)⟩,
 ⟨29,List Key,@rpList _ (rpKey)⟩,
 ⟨30,List Ent,@rpList _ (rpEnt)⟩,
 ⟨31,List ByteArray,@rpList _ (rpStr)⟩,
 ⟨33,Val,rpVal⟩,
 ⟨36,List Api_Range,@rpList _ (V0)⟩,
 ⟨38,Api_Names,a0e⟩,
 ⟨40,Api_Line,a3M⟩,
 ⟨44,Semtypebase_Source,a2h⟩,
 ⟨50,List Api_Goal,@rpList _ (j6)⟩,
 ⟨56,Api_Goal,j6⟩,
 ⟨68,Api_Goal×Api_Goal,y4 (j6) (j6)⟩,
 ⟨69,List Api_SomeKey,@rpList _ (Q0)⟩,
 ⟨71,Api_Shape,a27⟩,
 ⟨74,List Api_Field,@rpList _ (a2j)⟩,
 ⟨75,Int×Int,y4 (rpK .i64) (rpK .i64)⟩,
 ⟨77,Api_TypeNode,a00⟩,
 ⟨83,Key,rpKey⟩,
 ⟨85,Api_SomeKey,Q0⟩,
 ⟨101,Api_Field,a2j⟩,
 ⟨111,Record_place,a4m⟩,
 ⟨138,Ent,rpEnt⟩,
 ⟨220,Value_used,a5X⟩,
 ⟨277,Api_Range,V0⟩]
abbrev I (E:TypeId):Type:=(b8a tyL E).α
instance rI (E:TypeId):Rp (I E):=(b8a tyL E).rp
def b66:Fd I (I 27) inferInstance:=(a2x (rg:=a7X) (Z6 (a0i 77:Fd I (List Api_TypeNode) (@rpList _ (a00))) ((a02 .i64:Fd I Int (rpK .i64)))) b1X b7d (fun _=>rfl) (fun _ _ _=>Iff.rfl):Fd I Api_Type a7X)
def b8R:Fd I (I 33) inferInstance:=(a2x (rg:=rpVal) (Z6 (a02 .i64:Fd I Int (rpK .i64)) (Z6 (a02 .i64:Fd I Int (rpK .i64)) (Z6 (b5u:Fd I ByteArray (rpStr)) (Z6 (a0i 33:Fd I (List Val) (@rpList _ (rpVal))) (Z6 (a0i 83:Fd I (List Key) (@rpList _ (rpKey))) (Z6 (a0i 138:Fd I (List Ent) (@rpList _ (rpEnt))) ((a0i 9:Fd I (List ByteArray) (@rpList _ (rpStr)))))))))) Val.to Val.of (fun _=>rfl) Val.cells_to:Fd I Val rpVal)
def b03:Fd I (I 38) inferInstance:=(a2x (rg:=a0e) (Z6 (a3d:Fd I Bool (rpBool)) ((a0i 9:Fd I (List ByteArray) (@rpList _ (rpStr))))) b0a b58 (fun _=>rfl) (fun _ _ _=>Iff.rfl):Fd I Api_Names a0e)
def b7f:Fd I (I 40) inferInstance:=(a2x (rg:=a3M) (Z6 (a02 .i64:Fd I Int (rpK .i64)) (Z6 (a02 .i64:Fd I Int (rpK .i64)) (Z6 (a0i 277:Fd I (List Api_Range) (@rpList _ (V0))) (Z6 (a7u 38 b03:Fd I Api_Names (a0e)) (Z6 (a0i 3:Fd I (List Int) (@rpList _ (rpK .i64))) (Z6 (a0i 3:Fd I (List Int) (@rpList _ (rpK .i64))) (Z6 (a0i 9:Fd I (List ByteArray) (@rpList _ (rpStr))) ((a0i 9:Fd I (List ByteArray) (@rpList _ (rpStr))))))))))) b2a b69 (fun _=>rfl) (fun _ _ _=>Iff.rfl):Fd I Api_Line a3M)
def a8P:Fd I (I 44) inferInstance:=(a2x (rg:=a2h) (Z6 (a0i 3:Fd I (List Int) (@rpList _ (rpK .i64))) ((a02 .i64:Fd I Int (rpK .i64)))) a4a a8X (fun _=>rfl) (fun _ _ _=>Iff.rfl):Fd I Semtypebase_Source a2h)
def a5o:Fd I (I 56) inferInstance:=(a2x (rg:=j6) (Z6 (a0i 3:Fd I (List Int) (@rpList _ (rpK .i64))) (Z6 (a0i 3:Fd I (List Int) (@rpList _ (rpK .i64))) ((a3d:Fd I Bool (rpBool))))) b17 b6Z (fun _=>rfl) (fun _ _ _=>Iff.rfl):Fd I Api_Goal j6)
def b8Z:Fd I (I 68) inferInstance:=(Z6 (a7u 56 a5o:Fd I Api_Goal (j6)) ((a7u 56 a5o:Fd I Api_Goal (j6))):Fd I (Api_Goal×Api_Goal) (y4 (j6) (j6)))
def b6b:Fd I (I 71) inferInstance:=(a2x (rg:=a27) (Z6 (a0i 83:Fd I (List Key) (@rpList _ (rpKey))) (Z6 (a0i 3:Fd I (List Int) (@rpList _ (rpK .i64))) (Z6 (a0i 56:Fd I (List Api_Goal) (@rpList _ (j6))) (Z6 (a7u 68 b8Z:Fd I (Api_Goal×Api_Goal) (y4 (j6) (j6))) ((a0i 85:Fd I (List Api_SomeKey) (@rpList _ (Q0)))))))) b0J b5V (fun _=>rfl) (fun _ _ _=>Iff.rfl):Fd I Api_Shape a27)
def b9x:Fd I (I 75) inferInstance:=(Z6 (a02 .i64:Fd I Int (rpK .i64)) ((a02 .i64:Fd I Int (rpK .i64))):Fd I (Int×Int) (y4 (rpK .i64) (rpK .i64)))
def b3z:Fd I (I 77) inferInstance:=(a2x (rg:=a00) (Z6 (a02 .i64:Fd I Int (rpK .i64)) (Z6 (a02 .i64:Fd I Int (rpK .i64)) (Z6 (a02 .i64:Fd I Int (rpK .i64)) (Z6 (b5u:Fd I ByteArray (rpStr)) (Z6 (a0i 3:Fd I (List Int) (@rpList _ (rpK .i64))) (Z6 (a0i 101:Fd I (List Api_Field) (@rpList _ (a2j))) ((a7u 75 b9x:Fd I (Int×Int) (y4 (rpK .i64) (rpK .i64)))))))))) a7o b3i (fun _=>rfl) (fun _ _ _=>Iff.rfl):Fd I Api_TypeNode a00)
def b9E:Fd I (I 83) inferInstance:=(a2x (rg:=rpKey) (Z6 (a02 .i64:Fd I Int (rpK .i64)) ((b5u:Fd I ByteArray (rpStr)))) Key.to Key.of (fun _=>rfl) Key.cells_to:Fd I Key rpKey)
def b4m:Fd I (I 85) inferInstance:=(a2x (rg:=Q0) (Z6 (a02 .i64:Fd I Int (rpK .i64)) ((a7u 56 a5o:Fd I Api_Goal (j6)))) a8T b4g (fun _=>rfl) (fun _ _ _=>Iff.rfl):Fd I Api_SomeKey Q0)
def b5W:Fd I (I 101) inferInstance:=(a2x (rg:=a2j) (Z6 (a7u 83 b9E:Fd I Key (rpKey)) (Z6 (a02 .i64:Fd I Int (rpK .i64)) ((a3d:Fd I Bool (rpBool))))) b0Q b6V (fun _=>rfl) (fun _ _ _=>Iff.rfl):Fd I Api_Field a2j)
def b3S:Fd I (I 111) inferInstance:=(a2x (rg:=a4m) (Z6 (a02 .i64:Fd I Int (rpK .i64)) (Z6 (a3d:Fd I Bool (rpBool)) ((a02 .i64:Fd I Int (rpK .i64))))) a7v b3K (fun _=>rfl) (fun _ _ _=>Iff.rfl):Fd I Record_place a4m)
def c2Q:Fd I (I 138) inferInstance:=(a2x (rg:=rpEnt) (Z6 (a0i 33:Fd I (List Val) (@rpList _ (rpVal))) (Z6 (a3d:Fd I Bool (rpBool)) ((a7u 33 b8R:Fd I Val (rpVal))))) Ent.to Ent.of (fun _=>rfl) Ent.cells_to:Fd I Ent rpEnt)
def b5o:Fd I (I 220) inferInstance:=(a2x (rg:=a5X) (Z6 (a3d:Fd I Bool (rpBool)) (Z6 (a3d:Fd I Bool (rpBool)) (Z6 (a3d:Fd I Bool (rpBool)) (Z6 (a3d:Fd I Bool (rpBool)) ((a3d:Fd I Bool (rpBool))))))) a9M b5h (fun _=>rfl) (fun _ _ _=>Iff.rfl):Fd I Value_used a5X)
def b54:Fd I (I 277) inferInstance:=(a2x (rg:=V0) (Z6 (a02 .i64:Fd I Int (rpK .i64)) ((a02 .i64:Fd I Int (rpK .i64)))) a98 b6o (fun _=>rfl) (fun _ _ _=>Iff.rfl):Fd I Api_Range V0)
def feL:List (FE I):=[⟨2,a02 .i64⟩,
 ⟨3,a02 .i64⟩,
 ⟨4,a3d⟩,
 ⟨9,b5u⟩,
 ⟨22,a0i 3⟩,
 ⟨25,a0i 77⟩,
 ⟨27,b66⟩,
 ⟨28,a0i 33⟩,
 ⟨29,a0i 83⟩,
 ⟨30,a0i 138⟩,
 ⟨31,a0i 9⟩,
 ⟨33,b8R⟩,
 ⟨36,a0i 277⟩,
 ⟨38,b03⟩,
 ⟨40,b7f⟩,
 ⟨44,a8P⟩,
 ⟨50,a0i 56⟩,
 ⟨56,a5o⟩,
 ⟨68,b8Z⟩,
 ⟨69,a0i 85⟩,
 ⟨71,b6b⟩,
 ⟨74,a0i 101⟩,
 ⟨75,b9x⟩,
 ⟨77,b3z⟩,
 ⟨83,b9E⟩,
 ⟨85,b4m⟩,
 ⟨101,b5W⟩,
 ⟨111,b3S⟩,
 ⟨138,c2Q⟩,
 ⟨220,b5o⟩,
 ⟨277,b54⟩]
def c2Z:TabL I where
 sz:=[(27,2),(33,7),(40,9),(56,3),(71,10),(75,2),(77,8),(83,2),(85,4),(101,4),(111,3),(138,9),(220,5)]
 one:=[(2,()),(3,()),(4,()),(9,()),(22,()),(25,()),(28,()),(29,()),(30,()),(31,()),(50,()),(62,()),(69,()),(74,()),(98,()),(105,()),(106,())]
 fld:=[(27,[(0,25),(1,3)]),(33,[(0,3),(1,2),(2,9),(3,28),(4,29),(5,30),(6,31)]),(40,[(0,3),(1,3),(2,36),(3,38),(5,22),(6,22),(7,31),(8,31)]),(44,[(0,22),(1,3)]),(56,[(0,22),(1,22),(2,4)]),(71,[(0,29),(1,22),(2,50),(3,68),(9,69)]),(77,[(0,3),(1,2),(2,2),(3,9),(4,22),(5,74),(6,75)]),(83,[(0,3),(1,9)]),(85,[(0,3),(1,56)]),(101,[(0,83),(2,3),(3,4)]),(111,[(0,3),(1,4),(2,3)]),(138,[(0,28),(1,4),(2,33)]),(220,[(0,4),(1,4),(2,4),(3,4),(4,4)])]
 el:=[(22,3),(25,77),(28,33),(29,83),(30,138),(31,9),(50,56),(62,71),(69,85),(74,101),(90,22),(105,111),(140,4),(151,2)]
 str:=[(9,())]
 bool:=[(4,())]
 ik:=[]
 fe:=feL
 inf:=[(2,1,8,[.int .i64 0]),(3,1,8,[.int .i64 0]),(4,1,1,[.bool false]),(9,1,16,[.str ⟨#[]⟩]),(22,1,24,[.nl 3]),(25,1,24,[.nl 77]),(27,2,32,[.nl 77,.int .i64 0]),(28,1,24,[.nl 33]),(29,1,24,[.nl 83]),(31,1,24,[.nl 9]),(33,7,128,[.int .i64 0,.int .i64 0,.str ⟨#[]⟩,.nl 33,.nl 83,.nl 138,.nl 9]),(40,9,168,[.int .i64 0,.int .i64 0,.nl 277,.bool false,.nl 9,.nl 3,.nl 3,.nl 9,.nl 9]),(44,2,32,[.nl 3,.int .i64 0]),(50,1,24,[.nl 56]),(56,3,56,[.nl 3,.nl 3,.bool false]),(62,1,24,[.nl 71]),(69,1,24,[.nl 85]),(71,10,208,[.nl 83,.nl 3,.nl 56,.nl 3,.nl 3,.bool false,.nl 3,.nl 3,.bool false,.nl 85]),(74,1,24,[.nl 101]),(75,2,16,[.int .i64 0,.int .i64 0]),(77,8,104,[.int .i64 0,.int .i64 0,.int .i64 0,.str ⟨#[]⟩,.nl 3,.nl 101,.int .i64 0,.int .i64 0]),(83,2,24,[.int .i64 0,.str ⟨#[]⟩]),(85,4,64,[.int .i64 0,.nl 3,.nl 3,.bool false]),(98,1,8,[.any]),(101,4,40,[.int .i64 0,.str ⟨#[]⟩,.int .i64 0,.bool false]),(105,1,24,[.nl 111]),(106,1,8,[.any]),(111,3,24,[.int .i64 0,.bool false,.int .i64 0]),(138,9,160,[.nl 33,.bool false,.int .i64 0,.int .i64 0,.str ⟨#[]⟩,.nl 33,.nl 83,.nl 138,.nl 9]),(220,5,5,[.bool false,.bool false,.bool false,.bool false,.bool false])]
 st:=[(27,[(0,1),(1,1)]),(33,[(0,1),(1,1),(2,1),(3,1),(4,1),(5,1),(6,1)]),(40,[(0,1),(1,1),(2,1),(3,2),(5,1),(6,1),(7,1),(8,1)]),(44,[(0,1),(1,1)]),(56,[(0,1),(1,1),(2,1)]),(71,[(0,1),(1,1),(2,1),(3,6),(9,1)]),(75,[(0,1),(1,1)]),(77,[(0,1),(1,1),(2,1),(3,1),(4,1),(5,1),(6,2)]),(83,[(0,1),(1,1)]),(85,[(0,1),(1,3)]),(101,[(0,2),(2,1),(3,1)]),(111,[(0,1),(1,1),(2,1)]),(220,[(0,1),(1,1),(2,1),(3,1),(4,1)])]
 eq:=[(75,b6L feL 75 a8W),(83,b6L feL 83 a2K)]
 nest:=[(22,3,0)]
 arr:=[(68,56,2,3),(75,3,2,1)]
 fb:=[(84,()),(86,()),(141,()),(143,()),(152,()),(171,()),(172,()),(174,()),(175,()),(177,()),(182,()),(183,()),(233,()),(249,())]
abbrev tb:Tab I:=c1n c2Z
theorem ti2:Z7 Go.Proofs.Tryz.prog 2 (.int .i64 0) 1 8:=Z0 (by kernel_rfl)
theorem ti3:Z7 Go.Proofs.Tryz.prog 3 (.int .i64 0) 1 8:=Z0 (by kernel_rfl)
theorem ti4:Z7 Go.Proofs.Tryz.prog 4 (.bool false) 1 1:=Z0 (by kernel_rfl)
theorem ti9:Z7 Go.Proofs.Tryz.prog 9 (.string ⟨#[]⟩) 1 16:=Z0 (by kernel_rfl)
theorem c20:Z7 Go.Proofs.Tryz.prog 22 (.slice none 0 0) 1 24:=Z0 (by kernel_rfl)
theorem c4T:Z7 Go.Proofs.Tryz.prog 25 (.slice none 0 0) 1 24:=Z0 (by kernel_rfl)
theorem c4A:Z7 Go.Proofs.Tryz.prog 27 (.agg #[.slice none 0 0,.int .i64 0]) 2 32:=Z0 (by kernel_rfl)
theorem c4N:Z7 Go.Proofs.Tryz.prog 28 (.slice none 0 0) 1 24:=Z0 (by kernel_rfl)
theorem c4X:Z7 Go.Proofs.Tryz.prog 29 (.slice none 0 0) 1 24:=Z0 (by kernel_rfl)
theorem c4n:Z7 Go.Proofs.Tryz.prog 31 (.slice none 0 0) 1 24:=Z0 (by kernel_rfl)
theorem c2n:Z7 Go.Proofs.Tryz.prog 33 (.agg #[.int .i64 0,.int .i64 0,.string ⟨#[]⟩,.slice none 0 0,.slice none 0 0,.slice none 0 0,.slice none 0 0]) 7 128:=Z0 (by kernel_rfl)
theorem c4F:Z7 Go.Proofs.Tryz.prog 40 (.agg #[.int .i64 0,.int .i64 0,.slice none 0 0,.bool false,.slice none 0 0,.slice none 0 0,.slice none 0 0,.slice none 0 0,.slice none 0 0]) 9 168:=Z0 (by kernel_rfl)
theorem c4O:Z7 Go.Proofs.Tryz.prog 44 (.agg #[.slice none 0 0,.int .i64 0]) 2 32:=Z0 (by kernel_rfl)
theorem c4q:Z7 Go.Proofs.Tryz.prog 50 (.slice none 0 0) 1 24:=Z0 (by kernel_rfl)
theorem c2l:Z7 Go.Proofs.Tryz.prog 56 (.agg #[.slice none 0 0,.slice none 0 0,.bool false]) 3 56:=Z0 (by kernel_rfl)
theorem c4C:Z7 Go.Proofs.Tryz.prog 62 (.slice none 0 0) 1 24:=Z0 (by kernel_rfl)
theorem c4P:Z7 Go.Proofs.Tryz.prog 69 (.slice none 0 0) 1 24:=Z0 (by kernel_rfl)
theorem c2e:Z7 Go.Proofs.Tryz.prog 71 (.agg #[.slice none 0 0,.slice none 0 0,.slice none 0 0,.slice none 0 0,.slice none 0 0,.bool false,.slice none 0 0,.slice none 0 0,.bool false,.slice none 0 0]) 10 208:=Z0 (by kernel_rfl)
theorem c4t:Z7 Go.Proofs.Tryz.prog 74 (.slice none 0 0) 1 24:=Z0 (by kernel_rfl)
theorem c4u:Z7 Go.Proofs.Tryz.prog 75 (.agg #[.int .i64 0,.int .i64 0]) 2 16:=Z0 (by kernel_rfl)
theorem c2C:Z7 Go.Proofs.Tryz.prog 77 (.agg #[.int .i64 0,.int .i64 0,.int .i64 0,.string ⟨#[]⟩,.slice none 0 0,.slice none 0 0,.int .i64 0,.int .i64 0]) 8 104:=Z0 (by kernel_rfl)
theorem c2v:Z7 Go.Proofs.Tryz.prog 83 (.agg #[.int .i64 0,.string ⟨#[]⟩]) 2 24:=Z0 (by kernel_rfl)
theorem c2c:Z7 Go.Proofs.Tryz.prog 85 (.agg #[.int .i64 0,.slice none 0 0,.slice none 0 0,.bool false]) 4 64:=Z0 (by kernel_rfl)
theorem c4Z:Z7 Go.Proofs.Tryz.prog 98 (.nilFunc) 1 8:=Z0 (by kernel_rfl)
theorem c1o:Z7 Go.Proofs.Tryz.prog 101 (.agg #[.int .i64 0,.string ⟨#[]⟩,.int .i64 0,.bool false]) 4 40:=Z0 (by kernel_rfl)
theorem c3x:Z7 Go.Proofs.Tryz.prog 105 (.slice none 0 0) 1 24:=Z0 (by kernel_rfl)
theorem c4a:Z7 Go.Proofs.Tryz.prog 106 (.nilFunc) 1 8:=Z0 (by kernel_rfl)
theorem c1c:Z7 Go.Proofs.Tryz.prog 111 (.agg #[.int .i64 0,.bool false,.int .i64 0]) 3 24:=Z0 (by kernel_rfl)
theorem c1e:Z7 Go.Proofs.Tryz.prog 138 (.agg #[.slice none 0 0,.bool false,.int .i64 0,.int .i64 0,.string ⟨#[]⟩,.slice none 0 0,.slice none 0 0,.slice none 0 0,.slice none 0 0]) 9 160:=Z0 (by kernel_rfl)
theorem c3A:Z7 Go.Proofs.Tryz.prog 220 (.agg #[.bool false,.bool false,.bool false,.bool false,.bool false]) 5 5:=Z0 (by kernel_rfl)
theorem to2:a0H Go.Proofs.Tryz.prog 2:=⟨_,Go.Proofs.Tryz.underlying2,rfl,by kernel_rfl⟩
theorem to3:a0H Go.Proofs.Tryz.prog 3:=⟨_,Go.Proofs.Tryz.underlying3,rfl,by kernel_rfl⟩
theorem to4:a0H Go.Proofs.Tryz.prog 4:=⟨_,Go.Proofs.Tryz.underlying4,rfl,by kernel_rfl⟩
theorem to9:a0H Go.Proofs.Tryz.prog 9:=⟨_,Go.Proofs.Tryz.underlying9,rfl,by kernel_rfl⟩
theorem c4I:a0H Go.Proofs.Tryz.prog 22:=⟨_,Go.Proofs.Tryz.underlying22,rfl,by kernel_rfl⟩
theorem c4l:a0H Go.Proofs.Tryz.prog 25:=⟨_,Go.Proofs.Tryz.underlying25,rfl,by kernel_rfl⟩
theorem c4x:a0H Go.Proofs.Tryz.prog 28:=⟨_,Go.Proofs.Tryz.underlying28,rfl,by kernel_rfl⟩
theorem c4r:a0H Go.Proofs.Tryz.prog 29:=⟨_,Go.Proofs.Tryz.underlying29,rfl,by kernel_rfl⟩
theorem c4s:a0H Go.Proofs.Tryz.prog 30:=⟨_,Go.Proofs.Tryz.underlying30,rfl,by kernel_rfl⟩
theorem c4H:a0H Go.Proofs.Tryz.prog 31:=⟨_,Go.Proofs.Tryz.underlying31,rfl,by kernel_rfl⟩
theorem c4y:a0H Go.Proofs.Tryz.prog 50:=⟨_,Go.Proofs.Tryz.underlying50,rfl,by kernel_rfl⟩
theorem c4K:a0H Go.Proofs.Tryz.prog 62:=⟨_,Go.Proofs.Tryz.underlying62,rfl,by kernel_rfl⟩
theorem c4D:a0H Go.Proofs.Tryz.prog 69:=⟨_,Go.Proofs.Tryz.underlying69,rfl,by kernel_rfl⟩
theorem c4M:a0H Go.Proofs.Tryz.prog 74:=⟨_,Go.Proofs.Tryz.underlying74,rfl,by kernel_rfl⟩
theorem c4o:a0H Go.Proofs.Tryz.prog 98:=⟨_,Go.Proofs.Tryz.underlying98,rfl,by kernel_rfl⟩
theorem c3u:a0H Go.Proofs.Tryz.prog 105:=⟨_,Go.Proofs.Tryz.underlying105,rfl,by kernel_rfl⟩
theorem c3v:a0H Go.Proofs.Tryz.prog 106:=⟨_,Go.Proofs.Tryz.underlying106,rfl,by kernel_rfl⟩
theorem c4G {σ:S}{x y:Int×Int}{cs ds:List Value}(h:(rI 75).cells σ x cs)(k:(rI 75).cells σ y ds):Sx.EqAt Go.Proofs.Tryz.prog 2 75 (.agg cs.toArray) (.agg ds.toArray) (a8W x y):=by
 obtain ⟨_,_,rfl,rfl,rfl⟩:=h
 obtain ⟨_,_,rfl,rfl,rfl⟩:=k
 exact c0I Go.Proofs.Tryz.underlying75 ti3 (b4U (a2u to3 rfl) (a2u to3 rfl) (b2q Go.Proofs.Tryz.underlying3) (b4U (a2u to3 rfl) (a2u to3 rfl) (b2q Go.Proofs.Tryz.underlying3) c03))
theorem c4E {σ:S}{x y:Key}{cs ds:List Value}(h:(rI 83).cells σ x cs)(k:(rI 83).cells σ y ds):Sx.EqAt Go.Proofs.Tryz.prog 2 83 (.agg cs.toArray) (.agg ds.toArray) (a2K x y):=by
 obtain ⟨_,_,rfl,rfl,rfl⟩:=h
 obtain ⟨_,_,rfl,rfl,rfl⟩:=k
 exact b67 Go.Proofs.Tryz.underlying83 (by kernel_rfl) (b5f (by decide) (a2u to3 rfl) (a2u to3 rfl) (b2q Go.Proofs.Tryz.underlying3) (b5f (by decide) (a2u to9 rfl) (a2u to9 rfl) (c0P Go.Proofs.Tryz.underlying9) c0m))
theorem eqT (T:TypeId)(g:I T->I T->Bool){K:Nat}(h:∀ {σ:S} {x y:I T} {cs ds:List Value},Rp.cells σ x cs->Rp.cells σ y ds->Sx.EqAt Go.Proofs.Tryz.prog K T (.agg cs.toArray) (.agg ds.toArray) (g x y))(hg:Go.Proofs.Tryz.prog.eqGuardType (Go.Proofs.Tryz.prog).depth T=false)(hK:Nat.ble K 10000=true)
 {X:Cxt} {c:Cx} {σ:S} {ls ms:List (PV I)} {r:Bool} {cs ds:List Value} (h1:b6L feL T g ls ms=some r) (h2:RG X c σ ls cs) (h3:RG X c σ ms ds) :
 Go.Proofs.Tryz.prog.eqGuardType (Go.Proofs.Tryz.prog).depth T=false/\∃ j,Nat.ble j 10000=true/\Sx.EqAt Go.Proofs.Tryz.prog j T (.agg cs.toArray) (.agg ds.toArray) r:=by
 obtain ⟨x,y,k1,k2,rfl⟩:=c1V h1 h2 h3
 exact ⟨hg,K,hK,h k1 k2⟩
theorem c2y:TabLOk Go.Proofs.Tryz.prog c2Z where
 sz:=⟨⟨_,Go.Proofs.Tryz.underlying27,rfl,by kernel_rfl⟩,⟨⟨_,Go.Proofs.Tryz.underlying33,rfl,by kernel_rfl⟩,⟨⟨_,Go.Proofs.Tryz.underlying40,rfl,by kernel_rfl⟩,⟨⟨_,Go.Proofs.Tryz.underlying56,rfl,by kernel_rfl⟩,⟨⟨_,Go.Proofs.Tryz.underlying71,rfl,by kernel_rfl⟩,⟨⟨_,Go.Proofs.Tryz.underlying75,rfl,by kernel_rfl⟩,⟨⟨_,Go.Proofs.Tryz.underlying77,rfl,by kernel_rfl⟩,⟨⟨_,Go.Proofs.Tryz.underlying83,rfl,by kernel_rfl⟩,⟨⟨_,Go.Proofs.Tryz.underlying85,rfl,by kernel_rfl⟩,⟨⟨_,Go.Proofs.Tryz.underlying101,rfl,by kernel_rfl⟩,⟨⟨_,Go.Proofs.Tryz.underlying111,rfl,by kernel_rfl⟩,⟨⟨_,Go.Proofs.Tryz.underlying138,rfl,by kernel_rfl⟩,⟨⟨_,Go.Proofs.Tryz.underlying220,rfl,by kernel_rfl⟩,trivial⟩⟩⟩⟩⟩⟩⟩⟩⟩⟩⟩⟩⟩
 one:=⟨to2,⟨to3,⟨to4,⟨to9,⟨c4I,⟨c4l,⟨c4x,⟨c4r,⟨c4s,⟨c4H,⟨c4y,⟨c4K,⟨c4D,⟨c4M,⟨c4o,⟨c3u,⟨c3v,trivial⟩⟩⟩⟩⟩⟩⟩⟩⟩⟩⟩⟩⟩⟩⟩⟩⟩
 fld:=⟨⟨⟨_,_,Go.Proofs.Tryz.underlying27,rfl,rfl,by kernel_rfl⟩,⟨⟨_,_,Go.Proofs.Tryz.underlying27,rfl,rfl⟩,⟨⟨_,_,Go.Proofs.Tryz.underlying27,rfl,rfl,by kernel_rfl⟩,⟨⟨_,_,Go.Proofs.Tryz.underlying27,rfl,rfl⟩,trivial⟩⟩⟩⟩,⟨⟨⟨_,_,Go.Proofs.Tryz.underlying33,rfl,rfl,by kernel_rfl⟩,⟨⟨_,_,Go.Proofs.Tryz.underlying33,rfl,rfl⟩,⟨⟨_,_,Go.Proofs.Tryz.underlying33,rfl,rfl,by kernel_rfl⟩,⟨⟨_,_,Go.Proofs.Tryz.underlying33,rfl,rfl⟩,⟨⟨_,_,Go.Proofs.Tryz.underlying33,rfl,rfl,by kernel_rfl⟩,⟨⟨_,_,Go.Proofs.Tryz.underlying33,rfl,rfl⟩,⟨⟨_,_,Go.Proofs.Tryz.underlying33,rfl,rfl,by kernel_rfl⟩,⟨⟨_,_,Go.Proofs.Tryz.underlying33,rfl,rfl⟩,⟨⟨_,_,Go.Proofs.Tryz.underlying33,rfl,rfl,by kernel_rfl⟩,⟨⟨_,_,Go.Proofs.Tryz.underlying33,rfl,rfl⟩,⟨⟨_,_,Go.Proofs.Tryz.underlying33,rfl,rfl,by kernel_rfl⟩,⟨⟨_,_,Go.Proofs.Tryz.underlying33,rfl,rfl⟩,⟨⟨_,_,Go.Proofs.Tryz.underlying33,rfl,rfl,by kernel_rfl⟩,⟨⟨_,_,Go.Proofs.Tryz.underlying33,rfl,rfl⟩,trivial⟩⟩⟩⟩⟩⟩⟩⟩⟩⟩⟩⟩⟩⟩,⟨⟨⟨_,_,Go.Proofs.Tryz.underlying40,rfl,rfl,by kernel_rfl⟩,⟨⟨_,_,Go.Proofs.Tryz.underlying40,rfl,rfl⟩,⟨⟨_,_,Go.Proofs.Tryz.underlying40,rfl,rfl,by kernel_rfl⟩,⟨⟨_,_,Go.Proofs.Tryz.underlying40,rfl,rfl⟩,⟨⟨_,_,Go.Proofs.Tryz.underlying40,rfl,rfl,by kernel_rfl⟩,⟨⟨_,_,Go.Proofs.Tryz.underlying40,rfl,rfl⟩,⟨⟨_,_,Go.Proofs.Tryz.underlying40,rfl,rfl,by kernel_rfl⟩,⟨⟨_,_,Go.Proofs.Tryz.underlying40,rfl,rfl⟩,⟨⟨_,_,Go.Proofs.Tryz.underlying40,rfl,rfl,by kernel_rfl⟩,⟨⟨_,_,Go.Proofs.Tryz.underlying40,rfl,rfl⟩,⟨⟨_,_,Go.Proofs.Tryz.underlying40,rfl,rfl,by kernel_rfl⟩,⟨⟨_,_,Go.Proofs.Tryz.underlying40,rfl,rfl⟩,⟨⟨_,_,Go.Proofs.Tryz.underlying40,rfl,rfl,by kernel_rfl⟩,⟨⟨_,_,Go.Proofs.Tryz.underlying40,rfl,rfl⟩,⟨⟨_,_,Go.Proofs.Tryz.underlying40,rfl,rfl,by kernel_rfl⟩,⟨⟨_,_,Go.Proofs.Tryz.underlying40,rfl,rfl⟩,trivial⟩⟩⟩⟩⟩⟩⟩⟩⟩⟩⟩⟩⟩⟩⟩⟩,⟨⟨⟨_,_,Go.Proofs.Tryz.underlying44,rfl,rfl,by kernel_rfl⟩,⟨⟨_,_,Go.Proofs.Tryz.underlying44,rfl,rfl⟩,⟨⟨_,_,Go.Proofs.Tryz.underlying44,rfl,rfl,by kernel_rfl⟩,⟨⟨_,_,Go.Proofs.Tryz.underlying44,rfl,rfl⟩,trivial⟩⟩⟩⟩,⟨⟨⟨_,_,Go.Proofs.Tryz.underlying56,rfl,rfl,by kernel_rfl⟩,⟨⟨_,_,Go.Proofs.Tryz.underlying56,rfl,rfl⟩,⟨⟨_,_,Go.Proofs.Tryz.underlying56,rfl,rfl,by kernel_rfl⟩,⟨⟨_,_,Go.Proofs.Tryz.underlying56,rfl,rfl⟩,⟨⟨_,_,Go.Proofs.Tryz.underlying56,rfl,rfl,by kernel_rfl⟩,⟨⟨_,_,Go.Proofs.Tryz.underlying56,rfl,rfl⟩,trivial⟩⟩⟩⟩⟩⟩,⟨⟨⟨_,_,Go.Proofs.Tryz.underlying71,rfl,rfl,by kernel_rfl⟩,⟨⟨_,_,Go.Proofs.Tryz.underlying71,rfl,rfl⟩,⟨⟨_,_,Go.Proofs.Tryz.underlying71,rfl,rfl,by kernel_rfl⟩,⟨⟨_,_,Go.Proofs.Tryz.underlying71,rfl,rfl⟩,⟨⟨_,_,Go.Proofs.Tryz.underlying71,rfl,rfl,by kernel_rfl⟩,⟨⟨_,_,Go.Proofs.Tryz.underlying71,rfl,rfl⟩,⟨⟨_,_,Go.Proofs.Tryz.underlying71,rfl,rfl,by kernel_rfl⟩,⟨⟨_,_,Go.Proofs.Tryz.underlying71,rfl,rfl⟩,⟨⟨_,_,Go.Proofs.Tryz.underlying71,rfl,rfl,by kernel_rfl⟩,⟨⟨_,_,Go.Proofs.Tryz.underlying71,rfl,rfl⟩,trivial⟩⟩⟩⟩⟩⟩⟩⟩⟩⟩,⟨⟨⟨_,_,Go.Proofs.Tryz.underlying77,rfl,rfl,by kernel_rfl⟩,⟨⟨_,_,Go.Proofs.Tryz.underlying77,rfl,rfl⟩,⟨⟨_,_,Go.Proofs.Tryz.underlying77,rfl,rfl,by kernel_rfl⟩,⟨⟨_,_,Go.Proofs.Tryz.underlying77,rfl,rfl⟩,⟨⟨_,_,Go.Proofs.Tryz.underlying77,rfl,rfl,by kernel_rfl⟩,⟨⟨_,_,Go.Proofs.Tryz.underlying77,rfl,rfl⟩,⟨⟨_,_,Go.Proofs.Tryz.underlying77,rfl,rfl,by kernel_rfl⟩,⟨⟨_,_,Go.Proofs.Tryz.underlying77,rfl,rfl⟩,⟨⟨_,_,Go.Proofs.Tryz.underlying77,rfl,rfl,by kernel_rfl⟩,⟨⟨_,_,Go.Proofs.Tryz.underlying77,rfl,rfl⟩,⟨⟨_,_,Go.Proofs.Tryz.underlying77,rfl,rfl,by kernel_rfl⟩,⟨⟨_,_,Go.Proofs.Tryz.underlying77,rfl,rfl⟩,⟨⟨_,_,Go.Proofs.Tryz.underlying77,rfl,rfl,by kernel_rfl⟩,⟨⟨_,_,Go.Proofs.Tryz.underlying77,rfl,rfl⟩,trivial⟩⟩⟩⟩⟩⟩⟩⟩⟩⟩⟩⟩⟩⟩,⟨⟨⟨_,_,Go.Proofs.Tryz.underlying83,rfl,rfl,by kernel_rfl⟩,⟨⟨_,_,Go.Proofs.Tryz.underlying83,rfl,rfl⟩,⟨⟨_,_,Go.Proofs.Tryz.underlying83,rfl,rfl,by kernel_rfl⟩,⟨⟨_,_,Go.Proofs.Tryz.underlying83,rfl,rfl⟩,trivial⟩⟩⟩⟩,⟨⟨⟨_,_,Go.Proofs.Tryz.underlying85,rfl,rfl,by kernel_rfl⟩,⟨⟨_,_,Go.Proofs.Tryz.underlying85,rfl,rfl⟩,⟨⟨_,_,Go.Proofs.Tryz.underlying85,rfl,rfl,by kernel_rfl⟩,⟨⟨_,_,Go.Proofs.Tryz.underlying85,rfl,rfl⟩,trivial⟩⟩⟩⟩,⟨⟨⟨_,_,Go.Proofs.Tryz.underlying101,rfl,rfl,by kernel_rfl⟩,⟨⟨_,_,Go.Proofs.Tryz.underlying101,rfl,rfl⟩,⟨⟨_,_,Go.Proofs.Tryz.underlying101,rfl,rfl,by kernel_rfl⟩,⟨⟨_,_,Go.Proofs.Tryz.underlying101,rfl,rfl⟩,⟨⟨_,_,Go.Proofs.Tryz.underlying101,rfl,rfl,by kernel_rfl⟩,⟨⟨_,_,Go.Proofs.Tryz.underlying101,rfl,rfl⟩,trivial⟩⟩⟩⟩⟩⟩,⟨⟨⟨_,_,Go.Proofs.Tryz.underlying111,rfl,rfl,by kernel_rfl⟩,⟨⟨_,_,Go.Proofs.Tryz.underlying111,rfl,rfl⟩,⟨⟨_,_,Go.Proofs.Tryz.underlying111,rfl,rfl,by kernel_rfl⟩,⟨⟨_,_,Go.Proofs.Tryz.underlying111,rfl,rfl⟩,⟨⟨_,_,Go.Proofs.Tryz.underlying111,rfl,rfl,by kernel_rfl⟩,⟨⟨_,_,Go.Proofs.Tryz.underlying111,rfl,rfl⟩,trivial⟩⟩⟩⟩⟩⟩,⟨⟨⟨_,_,Go.Proofs.Tryz.underlying138,rfl,rfl,by kernel_rfl⟩,⟨⟨_,_,Go.Proofs.Tryz.underlying138,rfl,rfl⟩,⟨⟨_,_,Go.Proofs.Tryz.underlying138,rfl,rfl,by kernel_rfl⟩,⟨⟨_,_,Go.Proofs.Tryz.underlying138,rfl,rfl⟩,⟨⟨_,_,Go.Proofs.Tryz.underlying138,rfl,rfl,by kernel_rfl⟩,⟨⟨_,_,Go.Proofs.Tryz.underlying138,rfl,rfl⟩,trivial⟩⟩⟩⟩⟩⟩,⟨⟨⟨_,_,Go.Proofs.Tryz.underlying220,rfl,rfl,by kernel_rfl⟩,⟨⟨_,_,Go.Proofs.Tryz.underlying220,rfl,rfl⟩,⟨⟨_,_,Go.Proofs.Tryz.underlying220,rfl,rfl,by kernel_rfl⟩,⟨⟨_,_,Go.Proofs.Tryz.underlying220,rfl,rfl⟩,⟨⟨_,_,Go.Proofs.Tryz.underlying220,rfl,rfl,by kernel_rfl⟩,⟨⟨_,_,Go.Proofs.Tryz.underlying220,rfl,rfl⟩,⟨⟨_,_,Go.Proofs.Tryz.underlying220,rfl,rfl,by kernel_rfl⟩,⟨⟨_,_,Go.Proofs.Tryz.underlying220,rfl,rfl⟩,⟨⟨_,_,Go.Proofs.Tryz.underlying220,rfl,rfl,by kernel_rfl⟩,⟨⟨_,_,Go.Proofs.Tryz.underlying220,rfl,rfl⟩,trivial⟩⟩⟩⟩⟩⟩⟩⟩⟩⟩,trivial⟩⟩⟩⟩⟩⟩⟩⟩⟩⟩⟩⟩⟩
 el:=⟨⟨Go.Proofs.Tryz.underlying22,_,_,ti3,rfl,by decide⟩,⟨⟨Go.Proofs.Tryz.underlying25,_,_,c2C,rfl,by decide⟩,⟨⟨Go.Proofs.Tryz.underlying28,_,_,c2n,rfl,by decide⟩,⟨⟨Go.Proofs.Tryz.underlying29,_,_,c2v,rfl,by decide⟩,⟨⟨Go.Proofs.Tryz.underlying30,_,_,c1e,rfl,by decide⟩,⟨⟨Go.Proofs.Tryz.underlying31,_,_,ti9,rfl,by decide⟩,⟨⟨Go.Proofs.Tryz.underlying50,_,_,c2l,rfl,by decide⟩,⟨⟨Go.Proofs.Tryz.underlying62,_,_,c2e,rfl,by decide⟩,⟨⟨Go.Proofs.Tryz.underlying69,_,_,c2c,rfl,by decide⟩,⟨⟨Go.Proofs.Tryz.underlying74,_,_,c1o,rfl,by decide⟩,⟨⟨Go.Proofs.Tryz.underlying90,_,_,c20,rfl,by decide⟩,⟨⟨Go.Proofs.Tryz.underlying105,_,_,c1c,rfl,by decide⟩,⟨⟨Go.Proofs.Tryz.underlying140,_,_,ti4,rfl,by decide⟩,⟨⟨Go.Proofs.Tryz.underlying151,_,_,ti2,rfl,by decide⟩,trivial⟩⟩⟩⟩⟩⟩⟩⟩⟩⟩⟩⟩⟩⟩
 str:=⟨Go.Proofs.Tryz.underlying9,trivial⟩
 bool:=⟨Go.Proofs.Tryz.underlying4,trivial⟩
 ik:=trivial
 inf:=⟨⟨_,ti2,fun X c σ=>RG.cns rfl a0v (RG.nl)⟩,⟨⟨_,ti3,fun X c σ=>RG.cns rfl a0v (RG.nl)⟩,⟨⟨_,ti4,fun X c σ=>RG.cns rfl a1Y (RG.nl)⟩,⟨⟨_,ti9,fun X c σ=>RG.cns rfl b1d (RG.nl)⟩,⟨⟨_,c20,fun X c σ=>RG.cns rfl K0 (RG.nl)⟩,⟨⟨_,c4T,fun X c σ=>RG.cns rfl K0 (RG.nl)⟩,⟨⟨_,c4A,fun X c σ=>RG.cns rfl K0 (RG.cns rfl a0v (RG.nl))⟩,⟨⟨_,c4N,fun X c σ=>RG.cns rfl K0 (RG.nl)⟩,⟨⟨_,c4X,fun X c σ=>RG.cns rfl K0 (RG.nl)⟩,⟨⟨_,c4n,fun X c σ=>RG.cns rfl K0 (RG.nl)⟩,⟨⟨_,c2n,fun X c σ=>RG.cns rfl a0v (RG.cns rfl a0v (RG.cns rfl b1d (RG.cns rfl K0 (RG.cns rfl K0 (RG.cns rfl K0 (RG.cns rfl K0 (RG.nl)))))))⟩,⟨⟨_,c4F,fun X c σ=>RG.cns rfl a0v (RG.cns rfl a0v (RG.cns rfl K0 (RG.cns rfl a1Y (RG.cns rfl K0 (RG.cns rfl K0 (RG.cns rfl K0 (RG.cns rfl K0 (RG.cns rfl K0 (RG.nl)))))))))⟩,⟨⟨_,c4O,fun X c σ=>RG.cns rfl K0 (RG.cns rfl a0v (RG.nl))⟩,⟨⟨_,c4q,fun X c σ=>RG.cns rfl K0 (RG.nl)⟩,⟨⟨_,c2l,fun X c σ=>RG.cns rfl K0 (RG.cns rfl K0 (RG.cns rfl a1Y (RG.nl)))⟩,⟨⟨_,c4C,fun X c σ=>RG.cns rfl K0 (RG.nl)⟩,⟨⟨_,c4P,fun X c σ=>RG.cns rfl K0 (RG.nl)⟩,⟨⟨_,c2e,fun X c σ=>RG.cns rfl K0 (RG.cns rfl K0 (RG.cns rfl K0 (RG.cns rfl K0 (RG.cns rfl K0 (RG.cns rfl a1Y (RG.cns rfl K0 (RG.cns rfl K0 (RG.cns rfl a1Y (RG.cns rfl K0 (RG.nl))))))))))⟩,⟨⟨_,c4t,fun X c σ=>RG.cns rfl K0 (RG.nl)⟩,⟨⟨_,c4u,fun X c σ=>RG.cns rfl a0v (RG.cns rfl a0v (RG.nl))⟩,⟨⟨_,c2C,fun X c σ=>RG.cns rfl a0v (RG.cns rfl a0v (RG.cns rfl a0v (RG.cns rfl b1d (RG.cns rfl K0 (RG.cns rfl K0 (RG.cns rfl a0v (RG.cns rfl a0v (RG.nl))))))))⟩,⟨⟨_,c2v,fun X c σ=>RG.cns rfl a0v (RG.cns rfl b1d (RG.nl))⟩,⟨⟨_,c2c,fun X c σ=>RG.cns rfl a0v (RG.cns rfl K0 (RG.cns rfl K0 (RG.cns rfl a1Y (RG.nl))))⟩,⟨⟨_,c4Z,fun X c σ=>RG.cns rfl c09 (RG.nl)⟩,⟨⟨_,c1o,fun X c σ=>RG.cns rfl a0v (RG.cns rfl b1d (RG.cns rfl a0v (RG.cns rfl a1Y (RG.nl))))⟩,⟨⟨_,c3x,fun X c σ=>RG.cns rfl K0 (RG.nl)⟩,⟨⟨_,c4a,fun X c σ=>RG.cns rfl c09 (RG.nl)⟩,⟨⟨_,c1c,fun X c σ=>RG.cns rfl a0v (RG.cns rfl a1Y (RG.cns rfl a0v (RG.nl)))⟩,⟨⟨_,c1e,fun X c σ=>RG.cns rfl K0 (RG.cns rfl a1Y (RG.cns rfl a0v (RG.cns rfl a0v (RG.cns rfl b1d (RG.cns rfl K0 (RG.cns rfl K0 (RG.cns rfl K0 (RG.cns rfl K0 (RG.nl)))))))))⟩,⟨⟨_,c3A,fun X c σ=>RG.cns rfl a1Y (RG.cns rfl a1Y (RG.cns rfl a1Y (RG.cns rfl a1Y (RG.cns rfl a1Y (RG.nl)))))⟩,trivial⟩⟩⟩⟩⟩⟩⟩⟩⟩⟩⟩⟩⟩⟩⟩⟩⟩⟩⟩⟩⟩⟩⟩⟩⟩⟩⟩⟩⟩⟩
 st:=⟨.inl ⟨_,Go.Proofs.Tryz.underlying27,by kernel_rfl⟩,⟨.inl ⟨_,Go.Proofs.Tryz.underlying33,by kernel_rfl⟩,⟨.inl ⟨_,Go.Proofs.Tryz.underlying40,by kernel_rfl⟩,⟨.inl ⟨_,Go.Proofs.Tryz.underlying44,by kernel_rfl⟩,⟨.inl ⟨_,Go.Proofs.Tryz.underlying56,by kernel_rfl⟩,⟨.inl ⟨_,Go.Proofs.Tryz.underlying71,by kernel_rfl⟩,⟨.inr (c2E Go.Proofs.Tryz.underlying75 ti3 rfl),⟨.inl ⟨_,Go.Proofs.Tryz.underlying77,by kernel_rfl⟩,⟨.inl ⟨_,Go.Proofs.Tryz.underlying83,by kernel_rfl⟩,⟨.inl ⟨_,Go.Proofs.Tryz.underlying85,by kernel_rfl⟩,⟨.inl ⟨_,Go.Proofs.Tryz.underlying101,by kernel_rfl⟩,⟨.inl ⟨_,Go.Proofs.Tryz.underlying111,by kernel_rfl⟩,⟨.inl ⟨_,Go.Proofs.Tryz.underlying220,by kernel_rfl⟩,trivial⟩⟩⟩⟩⟩⟩⟩⟩⟩⟩⟩⟩⟩
 eq:=⟨fun X c σ ls ms r cs ds h1 h2 h3=>eqT 75 a8W (fun h k=>c4G h k) (by kernel_rfl) (by decide) h1 h2 h3,⟨fun X c σ ls ms r cs ds h1 h2 h3=>eqT 83 a2K (fun h k=>c4E h k) (by kernel_rfl) (by decide) h1 h2 h3,trivial⟩⟩
 arr:=⟨⟨Go.Proofs.Tryz.underlying68,by kernel_rfl⟩,⟨⟨Go.Proofs.Tryz.underlying75,by kernel_rfl⟩,trivial⟩⟩
 fb:=⟨⟨_,_,Go.Proofs.Tryz.func84,rfl,by kernel_rfl⟩,⟨⟨_,_,Go.Proofs.Tryz.func86,rfl,by kernel_rfl⟩,⟨⟨_,_,Go.Proofs.Tryz.func141,rfl,by kernel_rfl⟩,⟨⟨_,_,Go.Proofs.Tryz.func143,rfl,by kernel_rfl⟩,⟨⟨_,_,Go.Proofs.Tryz.func152,rfl,by kernel_rfl⟩,⟨⟨_,_,Go.Proofs.Tryz.func171,rfl,by kernel_rfl⟩,⟨⟨_,_,Go.Proofs.Tryz.func172,rfl,by kernel_rfl⟩,⟨⟨_,_,Go.Proofs.Tryz.func174,rfl,by kernel_rfl⟩,⟨⟨_,_,Go.Proofs.Tryz.func175,rfl,by kernel_rfl⟩,⟨⟨_,_,Go.Proofs.Tryz.func177,rfl,by kernel_rfl⟩,⟨⟨_,_,Go.Proofs.Tryz.func182,rfl,by kernel_rfl⟩,⟨⟨_,_,Go.Proofs.Tryz.func183,rfl,by kernel_rfl⟩,⟨⟨_,_,Go.Proofs.Tryz.func233,rfl,by kernel_rfl⟩,⟨⟨_,_,Go.Proofs.Tryz.func249,rfl,by kernel_rfl⟩,trivial⟩⟩⟩⟩⟩⟩⟩⟩⟩⟩⟩⟩⟩⟩
theorem a5n:TabOk Go.Proofs.Tryz.prog tb:=c0A c2y
theorem mixed:(Go.Proofs.Tryz.prog).follows .mixedOrders=true:=by kernel_rfl
end Go.Qx
end
section
namespace Go.Qx
open Go Go.RowKit Go.Sx
set_option maxHeartbeats 1600000
set_option maxRecDepth 100000
abbrev RK (r:Row I):Prop:=j7 Go.Proofs.Tryz.prog r
abbrev RO (r:Rio I):Prop:=b1l Go.Proofs.Tryz.prog r
def mkH (a:List (Nat×List (List Nat)))(b c:List (Nat×List Nat))(j:List (Nat×JH))(l:List (Nat×LH I))(k:List (Nat×KH I))(ns:List (Nat×NH I))(u:List (Nat×Nat)):Hints I :=
 ⟨fun i=>(asc a i).getD [],fun i=>(asc b i).getD [],fun i=>(asc c i).getD [],asc j,asc l,asc k,asc ns,fun i=>(asc u i).getD 0⟩
def Y4:Hints I:=mkH [] [] [] [] [] [] [] []
structure En where
 ans:Ans I
 ok:EntOk Go.Proofs.Tryz.prog ans
def enL:List En->List (Ans I)
 | []=>[]
 | e::r=>e.ans::enL r
theorem b3d:∀ l:List En,b8h Go.Proofs.Tryz.prog (enL l)
 | []=>trivial
 | e::r=>⟨e.ok,b3d r⟩
def eR {r:Row I}(h:RK r):En:=⟨c2K tb r,c11 a5n h⟩
def eO {r:Rio I}(h:RO r):En:=⟨c2i tb r,c1F a5n h⟩
def eS {r:Row I}(T f j:Nat)(is:List Nat)(h:a29 Go.Proofs.Tryz.prog r (a6m T f j is)):En:=⟨c08 tb r (b4D T f j is),b6Q a5n h (fun _ _ _ _ _ _ _ _ _ hO h hc hv=>b8f hO h hc hv)⟩
theorem okR {r:Row I}(l:List En){fn:Func}(nt:Nat)(H:Hints I)(rl:List ResultVar)(hf:(Go.Proofs.Tryz.prog).funcs[r.f]?=some fn)
 (h : (fn.body, fn.name == "runtime.NumGoroutine", fn.ntmps, fn.results.toList, Nat.ble r.ps.length nt, a1f H (b6q fn) 1, r.run) = (some (b6q fn), false, nt, rl, true, true, b2N r.ps (c1f tb (b3E (enL l) 3) H (b6q fn) nt r.ps r.rs rl))) : RK r := by
 simp only [Prod.mk.injEq] at h
 obtain ⟨h1,h2,h3,h4,h5,h6,h7⟩:=h
 exact c2N a5n (a9C (b3d l) 3) mixed nt hf h1 h2 h3 h4 h5 h6 h7
def c1z:Row I:=⟨228,[.d (.str),.d (.str)],[.k (.d (.int .i64))],b6w⟩
theorem c25:j7 Go.Proofs.Tryz.prog c1z:=c2r Go.Proofs.Tryz.func228 (by kernel_rfl) rfl (by kernel_rfl) (by kernel_rfl)
def c2s:Row I:=⟨44,[.d (.sl 3)],[.k (.row 3 false)],X2 8⟩
theorem b5F:j7 Go.Proofs.Tryz.prog c2s:=a83 a5n mixed Go.Proofs.Tryz.func44 (by kernel_rfl) (by kernel_rfl) (by kernel_rfl) Go.Proofs.Tryz.underlying22 rfl (by kernel_rfl) (fun _=>by kernel_rfl)
noncomputable def c2F:Rio I:=⟨85,83,[.fn [.dat 83,.dat 83] [.k (.d (.int .i64))]],[],a9F⟩
theorem c3H:b1l Go.Proofs.Tryz.prog c2F:=b9T Go.Proofs.Tryz.lay85 85 (by kernel_rfl) (by kernel_rfl) Go.Proofs.Tryz.underlying83 (by kernel_rfl)
def c3g:Row I:=⟨65,[.d (.sl 83)],[.k (.row 83 false)],X2 24⟩
theorem c3F:j7 Go.Proofs.Tryz.prog c3g:=a83 a5n mixed Go.Proofs.Tryz.func65 (by kernel_rfl) (by kernel_rfl) (by kernel_rfl) Go.Proofs.Tryz.underlying29 rfl (by kernel_rfl) (fun _=>by kernel_rfl)
def c1v:Rio I:=⟨200,3,[],[],b4N⟩
theorem c3e:b1l Go.Proofs.Tryz.prog c1v:=b8V (I:=I) (E:=3) Go.Proofs.Tryz.lay200 200 (by kernel_rfl) (fun x=>x) Iff.rfl ⟨_,_,Go.Proofs.Tryz.func200,rfl,by kernel_rfl⟩
def c1T:Row I:=⟨212,[.d (.sl 33)],[.k (.row 33 false)],X2 128⟩
theorem c2A:j7 Go.Proofs.Tryz.prog c1T:=a83 a5n mixed Go.Proofs.Tryz.func212 (by kernel_rfl) (by kernel_rfl) (by kernel_rfl) Go.Proofs.Tryz.underlying28 rfl (by kernel_rfl) (fun _=>by kernel_rfl)
def c2a:Row I:=⟨113,[.d (.sl 56)],[.k (.row 56 false)],X2 56⟩
theorem c2X:j7 Go.Proofs.Tryz.prog c2a:=a83 a5n mixed Go.Proofs.Tryz.func113 (by kernel_rfl) (by kernel_rfl) (by kernel_rfl) Go.Proofs.Tryz.underlying50 rfl (by kernel_rfl) (fun _=>by kernel_rfl)
def a88:Hints I:=mkH [] [] [] [] [(26,⟨65532,[],[],[(3,.k (.d (.int .i64)))],[((.exit 0),[]),(.ret,[(2,.k (.d (.bool)))])],bnd tb (.len (.slot 0)) 1⟩)] [] [] []
def a7S:Row I:=⟨17,[.d (.sl 22)],[.k (.d (.bool))],a1T⟩
theorem a8M:RK (a7S) :=
 okR [] 16 a88 [.tmp 2] Go.Proofs.Tryz.func17 (by kernel_rfl)
def a80:Hints I:=mkH [] [] [] [(29,⟨16776824,[],[],[(.normal,[(3,.k (.d (.bool))),(4,.k (.d (.bool))),(5,.k (.d (.bool))),(6,.k (.d (.bool)))])]⟩),
 (941,⟨26624,[],[],[(.normal,[(11,.k (.d (.bool)))])]⟩),
 (3773,⟨4096000,[],[],[(.normal,[(15,.k (.d (.bool)))])]⟩)] [] [] [] []
def a7L:Row I:=⟨71,[.d (.dat 77)],[.k (.d (.bool))],a11⟩
theorem a8D:RK (a7L) :=
 okR [] 67 a80 [.tmp 2] Go.Proofs.Tryz.func71 (by kernel_rfl)
def b4G:Hints I:=mkH [] [] [] [] [(58,⟨34351349952,[],[],[(7,.k (.d (.int .i64)))],[((.exit 0),[]),(.ret,[(6,.k (.d (.bool)))])],bnd tb (.len (.slot 0)) 1⟩)] [] [] []
def b2M:Row I:=⟨170,[.d (.str),.fn [.int .u8] [.k (.d (.bool))],.fn [.int .u8] [.k (.d (.bool))]],[.k (.d (.bool))],a3g⟩
theorem a7p:RK (b2M) :=
 okR [] 35 b4G [.tmp 6] Go.Proofs.Tryz.func170 (by kernel_rfl)
def b1J:Row I:=⟨171,[.d (.int .u8)],[.k (.d (.bool))],a1O⟩
theorem a30:RK (b1J) :=
 okR [] 9 Y4 [.tmp 2] Go.Proofs.Tryz.func171 (by kernel_rfl)
def b1M:Row I:=⟨173,[.d (.int .u8)],[.k (.d (.bool))],a2H⟩
theorem a65:RK (b1M) :=
 okR [] 9 Y4 [.tmp 2] Go.Proofs.Tryz.func173 (by kernel_rfl)
def b0M:Row I:=⟨172,[.d (.int .u8)],[.k (.d (.bool))],a4Z⟩
theorem b1D:RK (b0M) :=
 okR [eR a30,eR a65] 13 Y4 [.tmp 2] Go.Proofs.Tryz.func172 (by kernel_rfl)
def b2U:Row I:=⟨133,[.d (.str)],[.k (.d (.bool))],a2k⟩
theorem a4y:RK (b2U) :=
 okR [eR a7p,eR a30,eR b1D] 5 Y4 [.tmp 2] Go.Proofs.Tryz.func133 (by kernel_rfl)
def b1K:Row I:=⟨174,[.d (.int .u8)],[.k (.d (.bool))],a2E⟩
theorem a63:RK (b1K) :=
 okR [] 9 Y4 [.tmp 2] Go.Proofs.Tryz.func174 (by kernel_rfl)
def a7E:Row I:=⟨175,[.d (.int .u8)],[.k (.d (.bool))],a2Y⟩
theorem a8K:RK (a7E) :=
 okR [eR a30,eR a63,eR a65] 17 Y4 [.tmp 2] Go.Proofs.Tryz.func175 (by kernel_rfl)
def a9e:Row I:=⟨134,[.d (.str)],[.k (.d (.bool))],a0O⟩
theorem a4R:RK (a9e) :=
 okR [eR a7p,eR a63,eR a8K] 5 Y4 [.tmp 2] Go.Proofs.Tryz.func134 (by kernel_rfl)
def b0x:Row I:=⟨119,[.d (.dat 83)],[.k (.d (.bool))],a1s⟩
theorem a6e:RK (b0x) :=
 okR [eR a4y] 16 Y4 [.tmp 2] Go.Proofs.Tryz.func119 (by kernel_rfl)
def b1V:Row I:=⟨198,[.d (.int .i64)],[.k (.d (.bool))],a3N⟩
theorem b2w:RK (b1V) :=
 okR [] 6 Y4 [.tmp 2] Go.Proofs.Tryz.func198 (by kernel_rfl)
def a93:Row I:=⟨151,[.d (.int .i64),.d (.int .i64)],[.k (.d (.int .i64))],K4⟩
theorem a0m:RK (a93) :=
 okR [eR b2w] 20 Y4 [.tmp 4] Go.Proofs.Tryz.func151 (by kernel_rfl)
def a3E:Row I:=⟨199,[.d (.str),.d (.str)],[.k (.d (.int .i64))],a0s⟩
theorem a3L:RK (a3E) :=
 okR [eR c25] 8 Y4 [.tmp 4] Go.Proofs.Tryz.func199 (by kernel_rfl)
def a9R:Row I:=⟨152,[.d (.str),.d (.str)],[.k (.d (.int .i64))],J2⟩
theorem a3f:RK (a9R) :=
 okR [eR a3L] 8 Y4 [.tmp 4] Go.Proofs.Tryz.func152 (by kernel_rfl)
def a8m:Row I:=⟨86,[.d (.dat 83),.d (.dat 83)],[.k (.d (.int .i64))],Y2⟩
theorem a1l:RK (a8m) :=
 okR [eR a0m,eR a3f] 19 Y4 [.tmp 4] Go.Proofs.Tryz.func86 (by kernel_rfl)
def a72:Hints I:=mkH [(4,[[],[0],[0,1],[0,1,2],[0,1,2,3],[0,1,2,3,4],[0,1,2,3,4,5],[0,1,2,3,4,5,6],[0,1,2,3,4,5,6,7],[0,1,2,3,4,5,6,7],[0,1,2,3,4,5,6,7,9],[0,1,2,3,4,5,6,7,8,9,10],[0,1,2,3,4,5,6,7,8,9,10,11],[0,1,2,3,4,5,6,7,8,9,10,11,12],[0,1,2,3,4,5,6,7],[0,1,2,3,4,5,6,7,14],[0,1,2,3,4,5,6,7,8,9,10,11,12,13,14,15],[0,1,2,3,4,5,6,7,8,9,10,11,12,13,14,15,16],[0,1,2,3,4,5,6,7,8,9,10,11,12,13,14,15,16,17],[0,1,2,3,4,5,6,7,8,9,10,11,12,13,14,15,16,17,18]])] [] [] [] [(26,⟨8589934492,[],[],[(7,.k (.d (.int .i64)))],[((.exit 0),[]),(.ret,[(2,.k (.d (.bool)))])],bnd tb (.slot 6) 1⟩)] [] [] []
def a6C:Row I:=⟨135,[.d (.sl 101)],[.k (.d (.bool))],a1i⟩
theorem a7j:RK (a6C) :=
 okR [eR a6e,eR a1l] 33 a72 [.tmp 2] Go.Proofs.Tryz.func135 (by kernel_rfl)
def a9s:Hints I:=mkH [] [] [] [(105,⟨16288,[],[],[(.normal,[(5,.k (.d (.bool)))])]⟩),
 (28311549,⟨368934881474191032320,[],[],[(.normal,[(66,.k (.d (.bool)))])]⟩)] [] [] [] []
def a7Z:Row I:=⟨72,[.d (.dat 77)],[.k (.d (.bool))],a12⟩
theorem a8i:RK (a7Z) :=
 okR [eR a4y,eR a4R,eR a7j] 79 a9s [.tmp 2] Go.Proofs.Tryz.func72 (by kernel_rfl)
def b2J:Hints I:=mkH [] [] [] [] [(58,⟨4190248,[],[],[(3,.k (.row 3 false)),(12,.k (.d (.int .i64)))],[((.exit 0),[(3,.k (.row 3 false))])],bnd tb (.slot 11) 1⟩)] [] [] []
def b0y:Row I:=⟨73,[.d (.dat 77)],[.k (.row 3 false)],a3i⟩
theorem b1y:RK (b0y) :=
 okR [eR b5F] 35 b2J [.tmp 2] Go.Proofs.Tryz.func73 (by kernel_rfl)
def a7Y:Row I:=⟨137,[.d (.int .i64)],[.k (.d (.bool))],a1W⟩
theorem a8E:RK (a7Y) :=
 okR [] 13 Y4 [.tmp 2] Go.Proofs.Tryz.func137 (by kernel_rfl)
def a6M (_:Nat):Hints I:=mkH [] [] [] [] [(122,⟨140462610448544,[],[(1,.k (.row 3 false))],[(38,.k (.d (.int .i64)))],[((.exit 0),[]),(.ret,[(5,.k (.d (.bool)))])],bnd tb (.slot 37) 1⟩)] [] [] []
def a09 (n:Nat):Row I:=⟨136,[.d (.int .i64),.var 22 (.k (.row 3 false)) true,.var 27 (.k (.d (.dat 27))) false,.var 98 (.k (.d .any)) false],[.k (.d (.bool))],w9 n⟩
theorem a5Q (n:Nat)(h_typeexpr_contractive_1:a29 Go.Proofs.Tryz.prog (a09 n) (a6m 98 136 3 [1,2,3])):a29 Go.Proofs.Tryz.prog (a09 (n+1)) (a6m 98 136 3 [1,2,3]) :=
 b7K a5n (a9C (b3d [eR a8E,eS 98 136 3 [1,2,3] h_typeexpr_contractive_1]) 3) mixed 50 (s0:=fun a=>b71 98 136 3 3 [1,2,3] (a7b tb 50 [.d (.int .i64),.var 22 (.k (.row 3 false)) true,.var 27 (.k (.d (.dat 27))) false,.var 98 (.k (.d .any)) false] a)) (fn:=Go.Proofs.Tryz.f136) (cd:=b6q Go.Proofs.Tryz.f136) (H:=(a6M n)) (rl:=[.tmp 5]) (fun X c σ a vs F h hv hC=>b6H rfl rfl rfl h hv hC) Go.Proofs.Tryz.func136 (by kernel_rfl) (by kernel_rfl) (by kernel_rfl) (by kernel_rfl) (by kernel_rfl) (by kernel_rfl) (by kernel_rfl)
theorem a2T:∀ n:Nat,a29 Go.Proofs.Tryz.prog (a09 n) (a6m 98 136 3 [1,2,3])
 | 0=>b5e (W5 (by kernel_rfl))
 | n+1=>a5Q n (a2T n)
def a7U (_:Nat):Hints I:=mkH [] [] [] [] [(250,⟨4177956,[],[(3,.k (.row 3 false))],[(14,.k (.d (.int .i64)))],[((.exit 0),[]),(.ret,[(2,.k (.d (.bool)))])],bnd tb (.slot 13) 1⟩)] [] [] []
def a6X (n:Nat):Row I:=⟨74,[.d (.dat 27)],[.k (.d (.bool))],a1g n⟩
theorem a7f (n:Nat):RK (a6X n) :=
 okR [eS 98 136 3 [1,2,3] (a2T n)] 22 (a7U n) [.tmp 2] Go.Proofs.Tryz.func74 (by kernel_rfl)
def a8R (_:Nat):Hints I:=mkH [] [] [] [] [(58,⟨2251799811588180,[],[],[(21,.k (.d (.int .i64)))],[((.exit 0),[]),(.ret,[(2,.k (.d (.int .i64)))])],bnd tb (.slot 20) 1⟩),
 (29902,⟨1125831187365956,[34],[],[(36,.k (.d (.int .i64)))],[((.exit 2),[]),(.ret,[(2,.k (.d (.int .i64)))])],bnd tb (.slot 35) 1⟩)] [] [] []
def a7l (n:Nat):Row I:=⟨34,[.d (.dat 27)],[.k (.d (.int .i64))],J6 n⟩
theorem a15 (n:Nat):RK (a7l n) :=
 okR [eR a8D,eR a8i,eR b1y,eR (a7f n)] 54 (a8R n) [.tmp 2] Go.Proofs.Tryz.func34 (by kernel_rfl)
def a5T:Hints I:=mkH [] [] [] [] [(26,⟨524080,[],[],[(8,.k (.d (.int .i64)))],[((.exit 0),[]),(.ret,[(4,.k (.d (.int .i64)))])],bnd tb (.slot 7) 1⟩)] [] [] []
def a4V:Row I:=⟨148,[.d (.sl 3),.fn [.int .i64] [.k (.d (.bool))]],[.k (.d (.int .i64))],a1x⟩
theorem a5L:RK (a4V) :=
 okR [] 19 a5T [.tmp 4] Go.Proofs.Tryz.func148 (by kernel_rfl)
def a4c:Row I:=⟨83,[.d (.sl 3),.fn [.int .i64] [.k (.d (.bool))]],[.k (.d (.bool))],Z4⟩
theorem V9:RK (a4c) :=
 okR [eR a5L] 9 Y4 [.tmp 4] Go.Proofs.Tryz.func83 (by kernel_rfl)
def b1P:Row I:=⟨84,[.d (.int .i64),.var 27 (.k (.d (.dat 27))) false],[.k (.d (.bool))],a56⟩
theorem b2S:RK (b1P) :=
 okR [] 22 Y4 [.tmp 3] Go.Proofs.Tryz.func84 (by kernel_rfl)
def b3L:Row I:=⟨42,[.d (.dat 27),.d (.sl 3)],[.k (.d (.bool))],a3F⟩
theorem b4n:RK (b3L) :=
 okR [eR V9,eR b2S] 9 Y4 [.tmp 4] Go.Proofs.Tryz.func42 (by kernel_rfl)
def a3W:Hints I:=mkH [(6,[[],[],[0,1],[0,1,2],[],[],[5],[4,5,6],[4,5,6,7],[0,1,2,3,4,5,6,7,8]]),(11,[[],[],[0,1],[0,1,2],[],[],[5],[4,5,6],[4,5,6,7],[0,1,2,3,4,5,6,7,8]])] [] [] [] [(58,⟨1152921504606846012,[],[],[(0,.k (.row 83 false)),(3,.k (.d (.int .i64)))],[((.exit 0),[(0,.k (.row 83 false))]),(.ret,[(2,.k (.row 83 false))])],bnd tb (.len (.slot 0)) 1⟩)] [(59690,⟨18014397972611112,0,83,[(3,.k (.d (.int .i64))),(5,.k (.d (.int .i64)))],[((.exit 2),[(3,.k (.d (.int .i64)))])],bnd tb (.len (.slot 4)) 1⟩)] [] []
def a3A:Row I:=⟨88,[.row 83 false],[.k (.row 83 false)],V6⟩
theorem a3G:RK (a3A) :=
 okR [] 61 a3W [.tmp 2] Go.Proofs.Tryz.func88 (by kernel_rfl)
def a4b:Row I:=⟨87,[.d (.sl 83)],[.k (.row 83 true)],a0W⟩
theorem a4k:RK (a4b) :=
 okR [] 9 Y4 [.tmp 2] Go.Proofs.Tryz.func87 (by kernel_rfl)
def b31:Hints I:=mkH [] [] [] [] [(58,⟨17179865760,[],[],[(5,.k (.row 83 false)),(12,.k (.d (.int .i64)))],[((.exit 0),[(5,.k (.row 83 false))])],bnd tb (.slot 11) 1⟩),
 (14950,⟨8581546528,[],[],[(5,.k (.row 83 false)),(23,.k (.d (.int .i64)))],[((.exit 2),[(5,.k (.row 83 false))])],bnd tb (.slot 22) 1⟩)] [] [] []
noncomputable def b1F:Row I:=⟨43,[.d (.dat 27),.d (.sl 3)],[.k (.row 83 true)],a1P⟩
theorem b2o:RK (b1F) :=
 okR [eO c3H,eR a1l,eR a3G,eR a4k] 39 b31 [.tmp 4] Go.Proofs.Tryz.func43 (by kernel_rfl)
def b9u:Hints I:=mkH [] [] [] [] [(26,⟨2096208,[],[],[(10,.k (.d (.int .i64)))],[((.exit 0),[]),(.ret,[(4,.k (.d (.int .i64)))])],bnd tb (.slot 9) 1⟩)] [] [] []
def b7c:Row I:=⟨93,[.d (.dat 77),.d (.dat 83)],[.k (.d (.int .i64))],a34⟩
theorem a9c:RK (b7c) :=
 okR [] 26 b9u [.tmp 4] Go.Proofs.Tryz.func93 (by kernel_rfl)
def b22:Hints I:=mkH [] [] [] [] [(26,⟨4193360,[],[],[(10,.k (.d (.int .i64)))],[((.exit 0),[]),(.ret,[(4,.k (.d (.bool)))])],bnd tb (.slot 9) 1⟩)] [] [] []
def b1I:Row I:=⟨94,[.d (.dat 77),.d (.dat 83)],[.k (.d (.bool))],a2I⟩
theorem a61:RK (b1I) :=
 okR [] 22 b22 [.tmp 4] Go.Proofs.Tryz.func94 (by kernel_rfl)
def a6Y:Hints I:=mkH [(6,[[],[],[0,1],[0,1,2],[],[],[5],[4,5,6],[4,5,6,7],[0,1,2,3,4,5,6,7,8]]),(11,[[],[],[0,1],[0,1,2],[],[],[5],[4,5,6],[4,5,6,7],[0,1,2,3,4,5,6,7,8]])] [] [] [] [(58,⟨1152921504606846012,[],[],[(0,.k (.row 3 false)),(3,.k (.d (.int .i64)))],[((.exit 0),[(0,.k (.row 3 false))]),(.ret,[(2,.k (.row 3 false))])],bnd tb (.len (.slot 0)) 1⟩)] [(59690,⟨18014397972611112,0,3,[(3,.k (.d (.int .i64))),(5,.k (.d (.int .i64)))],[((.exit 2),[(3,.k (.d (.int .i64)))])],bnd tb (.len (.slot 4)) 1⟩)] [] []
def a5U:Row I:=⟨202,[.row 3 false],[.k (.row 3 false)],a0R⟩
theorem a6h:RK (a5U) :=
 okR [] 61 a6Y [.tmp 2] Go.Proofs.Tryz.func202 (by kernel_rfl)
def a7i:Row I:=⟨201,[.d (.sl 3)],[.k (.row 3 true)],a2Q⟩
theorem a7Q:RK (a7i) :=
 okR [] 9 Y4 [.tmp 2] Go.Proofs.Tryz.func201 (by kernel_rfl)
def b3o:Row I:=⟨153,[.d (.sl 3)],[.k (.row 3 true)],a3I⟩
theorem b38:RK (b3o) :=
 okR [eR b5F,eO c3e,eR a6h,eR a7Q] 11 Y4 [.tmp 2] Go.Proofs.Tryz.func153 (by kernel_rfl)
def b5l:Hints I:=mkH [(1,[[],[0],[0,1],[],[3],[0,1,2,3,4],[],[6],[0,1,2,3,4,5,6,7],[0,1,2,3,4,5,6,7,8]])] [] [] [] [] [] [] []
def b3U:Row I:=⟨90,[.d (.dat 56)],[.k (.d (.dat 56))],a2N⟩
theorem a8h:RK (b3U) :=
 okR [eR b38] 12 b5l [.cell 2 56] Go.Proofs.Tryz.func90 (by kernel_rfl)
def a8a:Hints I:=mkH [] [] [] [] [(26,⟨524080,[],[],[(8,.k (.d (.int .i64)))],[((.exit 0),[]),(.ret,[(4,.k (.d (.int .i64)))])],bnd tb (.slot 7) 1⟩)] [] [] []
def a6O:Row I:=⟨154,[.d (.sl 3),.d (.int .i64)],[.k (.d (.int .i64))],a2s⟩
theorem a7k:RK (a6O) :=
 okR [] 19 a8a [.tmp 4] Go.Proofs.Tryz.func154 (by kernel_rfl)
def a5u:Row I:=⟨91,[.d (.sl 3),.d (.int .i64)],[.k (.d (.bool))],J0⟩
theorem a2F:RK (a5u) :=
 okR [eR a7k] 9 Y4 [.tmp 4] Go.Proofs.Tryz.func91 (by kernel_rfl)
def a9S:Row I:=⟨177,[.d (.int .i64),.var 22 (.k (.d (.sl 3))) false],[.k (.d (.bool))],a4w⟩
theorem b0t:RK (a9S) :=
 okR [eR a2F] 7 Y4 [.tmp 3] Go.Proofs.Tryz.func177 (by kernel_rfl)
def b1U:Row I:=⟨140,[.d (.sl 3),.d (.sl 3)],[.k (.d (.bool))],a3P⟩
theorem b2Y:RK (b1U) :=
 okR [eR V9,eR b0t] 8 Y4 [.tmp 4] Go.Proofs.Tryz.func140 (by kernel_rfl)
def b2T:Hints I:=mkH [(6,[[],[0],[],[2],[],[2,3,4],[2,3,4,5],[],[2,3,4,5,6,7],[2,3,4,5,6,7,8],[0,1,2,3,4,5,6,7,8,9],[0,1,2,3,4,5,6,7,8,9,10],[0,1,2,3,4,5,6,7,8,9,10,11]]),(7,[[],[0],[],[0,1,2],[0,1,2,3],[],[0,1,2,3,4,5]]),(15,[[],[0],[],[2],[],[4],[],[4,5,6],[4,5,6,7],[2,3,4,5,6,7,8],[2,3,4,5,6,7,8,9],[],[2,3,4,5,6,7,8,9,10,11],[2,3,4,5,6,7,8,9,10,11,12],[0,1,2,3,4,5,6,7,8,9,10,11,12,13],[0,1,2,3,4,5,6,7,8,9,10,11,12,13,14],[0,1,2,3,4,5,6,7,8,9,10,11,12,13,14,15]]),(22,[[],[],[1],[],[3],[],[5],[1,2,3,4,5,6],[1,2,3,4,5,6,7],[0,1,2,3,4,5,6,7],[0,1,2,3,4,5,6,7,9],[0,1,2,3,4,5,6,7,8,9,10]])] [] [(22,[13])] [] [(122,⟨140737480048640,[],[(13,.lvs [.row 3 false,.row 3 false,.d (.bool)])],[(14,.k (.d (.int .i64))),(23,.k (.d (.int .i64)))],[((.exit 0),[(14,.k (.d (.int .i64)))])],bnd tb (.slot 22) 1⟩),
 (506,⟨604462909244364634865664,[],[(13,.lvs [.row 3 false,.row 3 false,.d (.bool)])],[(14,.k (.d (.int .i64))),(17,.k (.d (.bool))),(49,.k (.d (.int .i64)))],[((.exit 2),[(14,.k (.d (.int .i64))),(17,.k (.d (.bool)))])],bnd tb (.slot 48) 1⟩)] [] [] []
def b0d:Row I:=⟨89,[.d (.dat 27),.d (.dat 40),.d (.int .i64),.d (.dat 83),.bor 111],[.k (.d (.int .i64)),.k (.d (.dat 56)),.k (.d (.bool))],a3v⟩
theorem b1Q:RK (b0d) :=
 okR [eR a9c,eR a61,eR a8h,eR b2Y] 92 b2T [.tmp 10,.cell 11 56,.tmp 12] Go.Proofs.Tryz.func89 (by kernel_rfl)
def b4B:Hints I:=mkH [(17,[[],[],[],[1,2],[1,2,3],[1,2,3,4],[],[6],[],[],[6,7,8],[6,7,8,10],[6,7,8,9,10,11],[6,7,8,9,10,11,12],[6,7,8,9,10,11,12,13],[1,2,3,4,5,6,7,8,9,10,11,12,13,14],[],[0,1,2,3,4,5,6,7,8,9,10,11,12,13,14,15,16],[0,1,2,3,4,5,6,7,8,9,10,11,12,13,14,15,16,17],[0,1,2,3,4,5,6,7,8,9,10,11,12,13,14,15,16,17,18]]),(29,[[],[0],[],[2],[],[2,3,4],[2,3,4,5],[],[7],[0,1,2,3,4,5,6],[0,1,2,3,4,5,6,9],[0,1,2,3,4,5,6,7,8,9,10],[0,1,2,3,4,5,6,7,8,9,10,11],[0,1,2,3,4,5,6,7,8,9,10,11,12]])] [] [(7,[10]),(8,[10]),(9,[10]),(10,[10])] [(129638,⟨42530103568258773105293295432646000640,[],[],[(.normal,[(22,.k (.d (.int .i64)))])]⟩),
 (518556,⟨10846500445604913522895065611887611740160,[],[],[(.normal,[(132,.k (.d (.bool)))])]⟩)] [(58,⟨576460752035052032,[10],[(8,.lvs [.d (.sl 83),.d (.sl 3),.d (.sl 56),.d (.sl 3),.d (.sl 3),.d (.bool),.d (.sl 3),.d (.sl 3),.d (.bool),.d (.sl 85)]),(10,.lvs [.row 83 true,.row 3 true,.row 56 true,.row 3 true,.row 3 true,.d (.bool),.row 3 true,.row 3 true,.d (.bool),.row 85 true])],[(28,.k (.d (.int .i64)))],[((.exit 0),[]),(.ret,[(9,.k (.d (.bool)))])],bnd tb (.slot 27) 1⟩),
 (122,⟨1237940034673694256472129536,[],[(10,.lvs [.row 83 true,.row 3 true,.row 56 true,.row 3 true,.row 3 true,.d (.bool),.row 3 true,.row 3 true,.d (.bool),.row 85 true])],[(62,.k (.d (.int .i64)))],[((.exit 2),[])],bnd tb (.slot 61) 1⟩),
 (506,⟨89202980794102210156539221420169498779976192,[],[(8,.k (.d (.dat 71))),(10,.lvs [.row 83 true,.row 3 true,.row 56 true,.d (.sl 3),.d (.sl 3),.d (.bool),.d (.sl 3),.d (.sl 3),.d (.bool),.row 85 true])],[(104,.k (.d (.int .i64)))],[((.exit 8),[]),(.ret,[(9,.k (.d (.bool)))])],bnd tb (.slot 103) 1⟩)] [] [] [(250,3),(31334,3)]
def b2F:Row I:=⟨46,[.d (.dat 27),.d (.dat 40),.d (.sl 83),.bor 111],[.k (.d (.dat 71)),.k (.d (.bool))],a4j⟩
theorem b3n:RK (b2F) :=
 okR [eR c3F,eR b1Q,eR a8h,eR a2F] 147 b4B [.cell 8 71,.tmp 9] Go.Proofs.Tryz.func46 (by kernel_rfl)
def a94:Row I:=⟨92,[.d (.int .i64),.var 27 (.k (.d (.dat 27))) false],[.k (.d (.bool))],a04⟩
theorem b0v:RK (a94) :=
 okR [] 11 Y4 [.tmp 3] Go.Proofs.Tryz.func92 (by kernel_rfl)
def b3c:Hints I:=mkH [] [] [] [(16024,⟨105553116272640,[],[],[(.normal,[(11,.k (.d (.int .i64))),(12,.k (.d (.int .i64)))])]⟩),
 (31333,⟨4160749824,[],[],[(.normal,[(8,.k (.row 111 false))])]⟩)] [(122,⟨2199023191808,[],[],[(8,.k (.row 111 false)),(16,.k (.d (.int .i64)))],[((.exit 0),[(8,.k (.row 111 false))])],bnd tb (.slot 15) 1⟩),
 (250,⟨144106391982840064,[],[],[(8,.k (.row 111 false)),(43,.k (.d (.int .i64)))],[((.exit 2),[(8,.k (.row 111 false))])],bnd tb (.cst 2) 1⟩)] [] [] []
def b1G:Row I:=⟨47,[.d (.dat 27),.d (.dat 77),.d (.sl 83)],[.k (.row 111 false)],a3Q⟩
theorem b2D:RK (b1G) :=
 okR [eR a9c,eR b0v,eR a61] 58 b3c [.tmp 6] Go.Proofs.Tryz.func47 (by kernel_rfl)
def b1C (_:Nat):Hints I:=mkH [(4,[[],[],[1],[],[3],[],[3,4,5],[3,4,5,6],[1,2,3,4,5,6,7],[1,2,3,4,5,6,7,8],[],[0,1,2,3,4,5,6,7,8,9,10],[0,1,2,3,4,5,6,7,8,9,10,11],[]])] [] [] [(83,⟨1006632960,[],[(5,.k (.row 71 false))],[(.normal,[])]⟩)] [(14,⟨72048797944907776,[],[(4,.k (.row 111 false)),(5,.k (.row 71 false))],[(41,.k (.row 111 false)),(43,.k (.d (.int .i64)))],[((.exit 0),[(41,.k (.row 111 false))])],bnd tb (.slot 42) 1⟩)] [] [] []
def a2O (n:Nat):Row I:=⟨45,[.d (.int .i64),.var 40 (.k (.d (.dat 40))) false,.var 27 (.k (.d (.dat 27))) false,.var 29 (.k (.d (.sl 83))) false,.var 105 (.k (.row 111 false)) true,.var 62 (.k (.row 71 false)) true,.var 106 (.k (.d .any)) false],[],K3 n⟩
theorem a9Z (n:Nat)(h_record_Shapes_1:a29 Go.Proofs.Tryz.prog (a2O n) (a6m 106 45 6 [1,2,3,4,5,6])):a29 Go.Proofs.Tryz.prog (a2O (n+1)) (a6m 106 45 6 [1,2,3,4,5,6]) :=
 b7K a5n (a9C (b3d [eR b3n,eR b2D,eS 106 45 6 [1,2,3,4,5,6] h_record_Shapes_1]) 3) mixed 56 (s0:=fun a=>b71 106 45 7 6 [1,2,3,4,5,6] (a7b tb 56 [.d (.int .i64),.var 40 (.k (.d (.dat 40))) false,.var 27 (.k (.d (.dat 27))) false,.var 29 (.k (.d (.sl 83))) false,.var 105 (.k (.row 111 false)) true,.var 62 (.k (.row 71 false)) true,.var 106 (.k (.d .any)) false] a)) (fn:=Go.Proofs.Tryz.f45) (cd:=b6q Go.Proofs.Tryz.f45) (H:=(b1C n)) (rl:=[]) (fun X c σ a vs F h hv hC=>b6H rfl rfl rfl h hv hC) Go.Proofs.Tryz.func45 (by kernel_rfl) (by kernel_rfl) (by kernel_rfl) (by kernel_rfl) (by kernel_rfl) (by kernel_rfl) (by kernel_rfl)
theorem a5t:∀ n:Nat,a29 Go.Proofs.Tryz.prog (a2O n) (a6m 106 45 6 [1,2,3,4,5,6])
 | 0=>b5e (W5 (by kernel_rfl))
 | n+1=>a9Z n (a5t n)
def b3X (_:Nat):Hints I:=mkH [(5,[[],[],[1],[1,2],[],[4],[1,2,3,4,5],[0,1,2,3,4,5,6],[],[0,1,2,3,4,5,6,7,8]])] [] [] [] [] [] [] []
noncomputable def b1B (n:Nat):Row I:=⟨20,[.d (.dat 27),.d (.dat 40)],[.k (.row 71 false),.k (.d (.int .i64))],a1a n⟩
theorem a62 (n:Nat):RK (b1B n) :=
 okR [eR (a15 n),eR b4n,eR b5F,eR b2o,eS 106 45 6 [1,2,3,4,5,6] (a5t n)] 46 (b3X n) [.tmp 4,.tmp 5] Go.Proofs.Tryz.func20 (by kernel_rfl)
def a9V:Row I:=⟨32,[],[.k (.d (.dat 33))],a7z⟩
theorem b0l:RK (a9V) :=
 okR [] 2 Y4 [.cell 0 33] Go.Proofs.Tryz.func32 (by kernel_rfl)
def a8p:Row I:=⟨162,[.d (.int .u8)],[.k (.d (.bool))],a3D⟩
theorem a9G:RK (a8p) :=
 okR [] 9 Y4 [.tmp 2] Go.Proofs.Tryz.func162 (by kernel_rfl)
def a8r:Row I:=⟨163,[.d (.int .u8)],[.k (.d (.bool))],a6c⟩
theorem a89:RK (a8r) :=
 okR [] 9 Y4 [.tmp 2] Go.Proofs.Tryz.func163 (by kernel_rfl)
def a9n:Hints I:=mkH [] [] [] [] [(58,⟨4398046248972,[],[],[(3,.k (.d (.int .i64)))],[((.exit 0),[]),(.ret,[(2,.k (.d (.bool)))])],bnd tb (.len (.slot 0)) 1⟩)] [] [] []
def a7M:Row I:=⟨115,[.d (.str)],[.k (.d (.bool))],a5F⟩
theorem a8g:RK (a7M) :=
 okR [eR a9G,eR a89] 42 a9n [.tmp 2] Go.Proofs.Tryz.func115 (by kernel_rfl)
def a6S:Row I:=⟨61,[.d (.dat 83)],[.k (.d (.bool))],a4p⟩
theorem a7h:RK (a6S) :=
 okR [eR a8g] 22 Y4 [.tmp 2] Go.Proofs.Tryz.func61 (by kernel_rfl)
def a7H:Row I:=⟨62,[.d (.sl 33)],[.k (.row 33 false)],a5I⟩
theorem a8B:RK (a7H) :=
 okR [] 5 Y4 [.tmp 2] Go.Proofs.Tryz.func62 (by kernel_rfl)
def a8J:Row I:=⟨110,[.d (.int .i64),.d (.int .i64)],[.k (.d (.int .i64))],a6d⟩
theorem a9b:RK (a8J) :=
 okR [] 11 Y4 [.tmp 4] Go.Proofs.Tryz.func110 (by kernel_rfl)
def a9I:Row I:=⟨111,[.d (.str),.d (.str)],[.k (.d (.int .i64))],a6I⟩
theorem a9T:RK (a9I) :=
 okR [] 11 Y4 [.tmp 4] Go.Proofs.Tryz.func111 (by kernel_rfl)
def a5D:Row I:=⟨52,[.d (.dat 83),.d (.dat 83)],[.k (.d (.int .i64))],a3z⟩
theorem a5W:RK (a5D) :=
 okR [eR a9b,eR a9T] 20 Y4 [.tmp 4] Go.Proofs.Tryz.func52 (by kernel_rfl)
def b1v:Hints I:=mkH [(13,[[],[],[1],[1,2],[0,1,2,3],[0,1,2,3,4],[0,1,2,3,4,5],[0,1,2,3,4,5,6],[0,1,2,3,4,5],[0,1,2,3,4,5,6,7,8],[0,1,2,3,4,5,6,7,8,9],[0,1,2,3,4,5],[0,1,2,3,4,5],[0,1,2,3,4,5,11,12],[0,1,2,3,4,5,11,12,13],[0,1,2,3,4,5,6,7,8,9,10,11,12,13,14],[0,1,2,3,4,5,6,7,8,9,10,11,12,13,14,15],[0,1,2,3,4,5,6,7,8,9,10,11,12,13,14,15,16]]),(15,[[],[],[1],[1,2],[0,1,2,3],[0,1,2,3,4],[0,1,2,3,4,5],[0,1,2,3,4,5,6],[0,1,2,3,4,5],[0,1,2,3,4,5,6,7,8],[0,1,2,3,4,5,6,7,8,9],[0,1,2,3,4,5],[0,1,2,3,4,5],[0,1,2,3,4,5,11,12],[0,1,2,3,4,5,11,12,13],[0,1,2,3,4,5,6,7,8,9,10,11,12,13,14],[0,1,2,3,4,5,6,7,8,9,10,11,12,13,14,15]]),(17,[[],[0],[],[0,1,2],[0,1,2,3],[],[5],[],[5,6,7],[0,1,2,3,4,5,6,7,8],[0,1,2,3,4,5,6,7,8,9],[0,1,2,3,4,5,6,7,8,9,10]]),(18,[[],[],[],[1,2],[1,2,3],[1,2,3,4],[0,1,2,3,4,5],[],[7],[],[7,8,9],[0,1,2,3,4,5,6,7,8,9,10],[0,1,2,3,4,5,6,7,8,9,10,11],[0,1,2,3,4,5,6,7,8,9,10,11,12]]),(19,[[],[],[],[1,2],[1,2,3],[1,2,3,4],[0,1,2,3,4,5],[],[7],[],[7,8,9],[0,1,2,3,4,5,6,7,8,9,10],[0,1,2,3,4,5,6,7,8,9,10,11],[0,1,2,3,4,5,6,7,8,9,10,11,12]])] [] [] [] [(58,⟨2147221600,[],[(4,.lvs [.d (.int .i64),.d (.int .i64),.d (.str),.row 33 false,.row 83 false,.row 138 false,.row 9 false])],[(6,.k (.d (.int .i64)))],[((.exit 0),[]),(.ret,[(5,.k (.d (.int .i64)))])],bnd tb (.len (.slot 0)) 1⟩),
 (250,⟨5192296858534827628530492034256672,[7],[(4,.lvs [.d (.int .i64),.d (.int .i64),.d (.str),.row 33 false,.row 83 false,.row 138 false,.row 9 false]),(7,.lvs [.d (.int .i64),.d (.int .i64),.d (.str),.d (.sl 33),.d (.sl 83),.row 138 true,.row 9 true])],[(8,.k (.d (.int .i64)))],[((.exit 2),[]),(.ret,[(5,.k (.d (.int .i64)))])],bnd tb (.len (.slot 0)) 1⟩),
 (32036,⟨288230101273805312,[7],[],[(9,.k (.d (.int .i64)))],[((.exit 4),[(9,.k (.d (.int .i64)))])],bnd tb (.len (.ld 29 (.fld 33 4 (.slot 7)))) 1⟩)] [] [] []
def a9P:Row I:=⟨27,[.d (.sl 83),.d (.sl 33)],[.k (.d (.dat 33)),.k (.d (.int .i64))],a2R⟩
theorem a5A:RK (a9P) :=
 okR [eR a7h,eR a5W,eR a8B] 113 b1v [.cell 4 33,.tmp 5] Go.Proofs.Tryz.func27 (by kernel_rfl)
def b6P:Hints I:=mkH [] [] [] [(105,⟨160,[],[],[(.normal,[(5,.k (.d (.bool)))])]⟩),
 (429,⟨2560,[],[],[(.normal,[(9,.k (.d (.bool)))])]⟩),
 (6909,⟨327680,[],[],[(.normal,[(16,.k (.d (.bool)))])]⟩)] [] [] [] []
def b4u:Row I:=⟨208,[.d (.int .i64)],[.k (.d (.dat 220)),.k (.d (.bool))],a3l⟩
theorem b5m:RK (b4u) :=
 okR [] 27 b6P [.cell 2 220,.tmp 3] Go.Proofs.Tryz.func208 (by kernel_rfl)
def a6K:Hints I:=mkH [(4,[[],[],[],[2],[1,2,3],[1,2,3,4],[],[],[6,7],[6,7,8],[0,1,2,3,4,5,6,7,8,9],[0,1,2,3,4,5,6,7,8,9,10]])] [] [] [] [(26,⟨16777200,[],[],[(5,.k (.d (.int .i64)))],[((.exit 0),[]),(.ret,[(4,.k (.d (.bool)))])],bnd tb (.len (.slot 0)) 1⟩)] [] [] []
def a57:Row I:=⟨230,[.d (.sl 9),.fn [.str,.str] [.k (.d (.int .i64))]],[.k (.d (.bool))],a16⟩
theorem a6r:RK (a57) :=
 okR [] 24 a6K [.tmp 4] Go.Proofs.Tryz.func230 (by kernel_rfl)
def a95:Hints I:=mkH [] [] [] [] [(58,⟨261140,[],[],[(10,.k (.d (.int .i64)))],[((.exit 0),[]),(.ret,[(2,.k (.d (.bool)))])],bnd tb (.slot 9) 1⟩)] [] [] []
def a8F:Row I:=⟨209,[.d (.sl 9)],[.k (.d (.bool))],a2a⟩
theorem a9y:RK (a8F) :=
 okR [eR a6r,eR a3f,eR a4R] 18 a95 [.tmp 2] Go.Proofs.Tryz.func209 (by kernel_rfl)
def a6p:Hints I:=mkH [(4,[[],[],[],[2],[1,2,3],[1,2,3,4],[],[],[6,7],[6,7,8],[0,1,2,3,4,5,6,7,8,9],[0,1,2,3,4,5,6,7,8,9,10]])] [] [] [] [(26,⟨16777200,[],[],[(5,.k (.d (.int .i64)))],[((.exit 0),[]),(.ret,[(4,.k (.d (.bool)))])],bnd tb (.len (.slot 0)) 1⟩)] [] [] []
def a5q:Row I:=⟨231,[.d (.sl 83),.fn [.dat 83,.dat 83] [.k (.d (.int .i64))]],[.k (.d (.bool))],a1L⟩
theorem a5Y:RK (a5q) :=
 okR [] 24 a6p [.tmp 4] Go.Proofs.Tryz.func231 (by kernel_rfl)
def b2g:Hints I:=mkH [] [] [] [] [(58,⟨534773780,[],[],[(21,.k (.d (.int .i64)))],[((.exit 0),[]),(.ret,[(2,.k (.d (.bool)))])],bnd tb (.slot 20) 1⟩)] [] [] []
def b0Z:Row I:=⟨210,[.d (.dat 33)],[.k (.d (.bool))],a3j⟩
theorem b1w:RK (b0Z) :=
 okR [eR a5Y,eR a1l,eR a6e] 29 b2g [.tmp 2] Go.Proofs.Tryz.func210 (by kernel_rfl)
def a5y:Hints I:=mkH [(4,[[],[],[],[2],[1,2,3],[1,2,3,4],[],[],[6,7],[6,7,8],[0,1,2,3,4,5,6,7,8,9],[0,1,2,3,4,5,6,7,8,9,10]])] [] [] [] [(26,⟨16777200,[],[],[(5,.k (.d (.int .i64)))],[((.exit 0),[]),(.ret,[(4,.k (.d (.bool)))])],bnd tb (.len (.slot 0)) 1⟩)] [] [] []
def a4Q:Row I:=⟨232,[.d (.sl 138),.fn [.dat 138,.dat 138] [.k (.d (.int .i64))]],[.k (.d (.bool))],a1n⟩
theorem a5c:RK (a4Q) :=
 okR [] 24 a5y [.tmp 4] Go.Proofs.Tryz.func232 (by kernel_rfl)
def a4A:Hints I:=mkH [(7,[[],[],[],[1,2],[1,2,3],[],[],[5,6],[5,6,7],[0,1,2,3,4,5,6,7,8],[0,1,2,3,4,5,6,7,8,9]])] [] [] [] [(58,⟨137437905728,[],[],[(20,.k (.d (.int .i64)))],[((.exit 0),[]),(.ret,[(6,.k (.d (.int .i64)))])],bnd tb (.slot 19) 1⟩)] [] [] []
def a3T:Row I:=⟨255,[.d (.sl 33),.d (.sl 33),.fn [.dat 33,.dat 33] [.k (.d (.int .i64))]],[.k (.d (.int .i64))],a0M⟩
theorem a4e:RK (a3T) :=
 okR [eR a0m] 37 a4A [.tmp 6] Go.Proofs.Tryz.func255 (by kernel_rfl)
def a9X:Row I:=⟨262,[.d (.int .i64)],[.k (.d (.bool))],a2S⟩
theorem b06:RK (a9X) :=
 okR [] 6 Y4 [.tmp 2] Go.Proofs.Tryz.func262 (by kernel_rfl)
def a8Y:Row I:=⟨256,[.d (.int .i64),.d (.int .i64)],[.k (.d (.int .i64))],a2c⟩
theorem a9o:RK (a8Y) :=
 okR [eR b06] 20 Y4 [.tmp 4] Go.Proofs.Tryz.func256 (by kernel_rfl)
def a5i:Hints I:=mkH [(7,[[],[],[],[1,2],[1,2,3],[],[],[5,6],[5,6,7],[0,1,2,3,4,5,6,7,8],[0,1,2,3,4,5,6,7,8,9]])] [] [] [] [(58,⟨137437905728,[],[],[(20,.k (.d (.int .i64)))],[((.exit 0),[]),(.ret,[(6,.k (.d (.int .i64)))])],bnd tb (.slot 19) 1⟩)] [] [] []
def a4i:Row I:=⟨257,[.d (.sl 83),.d (.sl 83),.fn [.dat 83,.dat 83] [.k (.d (.int .i64))]],[.k (.d (.int .i64))],a08⟩
theorem a4M:RK (a4i) :=
 okR [eR a0m] 37 a5i [.tmp 6] Go.Proofs.Tryz.func257 (by kernel_rfl)
def a4v:Hints I:=mkH [(7,[[],[],[],[1,2],[1,2,3],[],[],[5,6],[5,6,7],[0,1,2,3,4,5,6,7,8],[0,1,2,3,4,5,6,7,8,9]])] [] [] [] [(58,⟨137437905728,[],[],[(20,.k (.d (.int .i64)))],[((.exit 0),[]),(.ret,[(6,.k (.d (.int .i64)))])],bnd tb (.slot 19) 1⟩)] [] [] []
def a3S:Row I:=⟨258,[.d (.sl 138),.d (.sl 138),.fn [.dat 138,.dat 138] [.k (.d (.int .i64))]],[.k (.d (.int .i64))],a0L⟩
theorem a4g:RK (a3S) :=
 okR [eR a0m] 37 a4v [.tmp 6] Go.Proofs.Tryz.func258 (by kernel_rfl)
def a5E:Hints I:=mkH [(7,[[],[],[],[1,2],[1,2,3],[],[],[5,6],[5,6,7],[0,1,2,3,4,5,6,7,8],[0,1,2,3,4,5,6,7,8,9]])] [] [] [] [(58,⟨137437905728,[],[],[(20,.k (.d (.int .i64)))],[((.exit 0),[]),(.ret,[(6,.k (.d (.int .i64)))])],bnd tb (.slot 19) 1⟩)] [] [] []
def a4N:Row I:=⟨259,[.d (.sl 9),.d (.sl 9),.fn [.str,.str] [.k (.d (.int .i64))]],[.k (.d (.int .i64))],a1k⟩
theorem a5h:RK (a4N) :=
 okR [eR a0m] 37 a5E [.tmp 6] Go.Proofs.Tryz.func259 (by kernel_rfl)
def a0y (n:Nat):Row I:=⟨249,[.d (.dat 33),.d (.dat 33)],[.k (.d (.int .i64))],a0A n⟩
def J8 (n:Nat):Row I:=⟨233,[.d (.dat 138),.d (.dat 138)],[.k (.d (.int .i64))],Y7 n⟩
def X3 (n:Nat):Row I:=⟨248,[.d (.sl 33),.d (.sl 33)],[.k (.d (.int .i64))],a0J n⟩
theorem b1R (n:Nat)(_:j7 Go.Proofs.Tryz.prog (a0y n))(h_value_compareEntries:j7 Go.Proofs.Tryz.prog (J8 n))(h_value_compareValues:j7 Go.Proofs.Tryz.prog (X3 n)):RK (a0y (n+1)) :=
 okR [eR a0m,eR a9o,eR a3f,eR a4M,eR a1l,eR h_value_compareValues,eR a4g,eR h_value_compareEntries,eR a5h] 64 Y4 [.tmp 4] Go.Proofs.Tryz.func249 (by kernel_rfl)
theorem a7a (n:Nat)(h_value_Compare:j7 Go.Proofs.Tryz.prog (a0y n))(_:j7 Go.Proofs.Tryz.prog (J8 n))(h_value_compareValues:j7 Go.Proofs.Tryz.prog (X3 n)):RK (J8 (n+1)) :=
 okR [eR h_value_compareValues,eR h_value_Compare] 26 Y4 [.tmp 4] Go.Proofs.Tryz.func233 (by kernel_rfl)
theorem a7e (n:Nat)(h_value_Compare:j7 Go.Proofs.Tryz.prog (a0y n))(_:j7 Go.Proofs.Tryz.prog (J8 n))(_:j7 Go.Proofs.Tryz.prog (X3 n)):RK (X3 (n+1)) :=
 okR [eR a4e,eR h_value_Compare] 8 Y4 [.tmp 4] Go.Proofs.Tryz.func248 (by kernel_rfl)
theorem a2A:∀ n:Nat,j7 Go.Proofs.Tryz.prog (a0y n)/\j7 Go.Proofs.Tryz.prog (J8 n)/\j7 Go.Proofs.Tryz.prog (X3 n)
 | 0=>⟨W5 (by kernel_rfl),W5 (by kernel_rfl),W5 (by kernel_rfl)⟩
 | n+1=>by
   obtain ⟨h0,h1,h2⟩:=a2A n
   exact ⟨b1R n h0 h1 h2,a7a n h0 h1 h2,a7e n h0 h1 h2⟩
theorem b2v (n:Nat):j7 Go.Proofs.Tryz.prog (a0y n):=(a2A n).1
theorem a7g (n:Nat):j7 Go.Proofs.Tryz.prog (J8 n):=(a2A n).2.1
def b3t (n:Nat):Row I:=⟨260,[.d (.dat 33),.d (.dat 33)],[.k (.d (.bool))],a74 n⟩
theorem b4y (n:Nat):RK (b3t n) :=
 okR [eR (b2v n)] 9 Y4 [.tmp 4] Go.Proofs.Tryz.func260 (by kernel_rfl)
def b2h (n:Nat):Row I:=⟨250,[.d (.dat 33)],[.k (.d (.bool))],a6V n⟩
theorem b3I (n:Nat):RK (b2h n) :=
 okR [eR (b4y n)] 6 Y4 [.tmp 2] Go.Proofs.Tryz.func250 (by kernel_rfl)
def a9t (n:Nat):Row I:=⟨234,[.d (.dat 138),.d (.int .i64)],[.k (.d (.bool))],a1t n⟩
theorem a9U (n:Nat):RK (a9t n) :=
 okR [eR (b3I n)] 20 Y4 [.tmp 4] Go.Proofs.Tryz.func234 (by kernel_rfl)
def a8f (_:Nat):Hints I:=mkH [] [] [] [] [(58,⟨4290773012,[],[],[(22,.k (.d (.int .i64)))],[((.exit 0),[]),(.ret,[(2,.k (.d (.bool)))])],bnd tb (.slot 21) 1⟩)] [] [] []
def a7d (n:Nat):Row I:=⟨211,[.d (.dat 33)],[.k (.d (.bool))],a1G n⟩
theorem a8d (n:Nat):RK (a7d n) :=
 okR [eR a5c,eR (a7g n),eR (a9U n)] 32 (a8f n) [.tmp 2] Go.Proofs.Tryz.func211 (by kernel_rfl)
def a9W (n:Nat):Row I:=⟨160,[.d (.dat 33)],[.k (.d (.bool))],a2U n⟩
theorem b0Y (n:Nat):RK (a9W n) :=
 okR [eR b5m,eR a9y,eR a4y,eR b1w,eR (a8d n)] 124 Y4 [.tmp 2] Go.Proofs.Tryz.func160 (by kernel_rfl)
def b5j:Hints I:=mkH [] [] [] [] [(58,⟨536866856,[],[],[(3,.k (.row 33 false)),(12,.k (.d (.int .i64)))],[((.exit 0),[(3,.k (.row 33 false))])],bnd tb (.slot 11) 1⟩)] [] [] []
def b3A:Row I:=⟨161,[.d (.dat 33)],[.k (.row 33 false)],a5j⟩
theorem b4c:RK (b3A) :=
 okR [eR c2A] 30 b5j [.tmp 2] Go.Proofs.Tryz.func161 (by kernel_rfl)
def b1N (_:Nat):Hints I:=mkH [] [] [] [] [(58,⟨522260,[9],[],[(11,.k (.d (.int .i64)))],[((.exit 0),[]),(.ret,[(2,.k (.d (.bool)))])],bnd tb (.slot 10) 1⟩)] [] [] []
def a2P (n:Nat):Row I:=⟨112,[.d (.dat 33)],[.k (.d (.bool))],a0u n⟩
theorem a91 (n:Nat)(h_value_validTree:j7 Go.Proofs.Tryz.prog (a2P n)):RK (a2P (n+1)) :=
 okR [eR (b0Y n),eR b4c,eR h_value_validTree] 19 (b1N n) [.tmp 2] Go.Proofs.Tryz.func112 (by kernel_rfl)
theorem a5K:∀ n:Nat,j7 Go.Proofs.Tryz.prog (a2P n)
 | 0=>W5 (by kernel_rfl)
 | n+1=>a91 n (a5K n)
def b0e (n:Nat):Row I:=⟨53,[.d (.dat 33)],[.k (.d (.int .i64))],a2g n⟩
theorem a6b (n:Nat):RK (b0e n) :=
 okR [eR (a5K n)] 6 Y4 [.tmp 2] Go.Proofs.Tryz.func53 (by kernel_rfl)
def b0w:Row I:=⟨54,[.d (.dat 71)],[.k (.d (.bool))],a3m⟩
theorem b1H:RK (b0w) :=
 okR [] 19 Y4 [.tmp 2] Go.Proofs.Tryz.func54 (by kernel_rfl)
def b4H:Hints I:=mkH [(1,[[],[0],[0,1],[],[3],[0,1,2,3,4],[0,1,2,3,4,5]])] [] [] [] [(58,⟨33521704,[],[],[(3,.k (.row 56 false)),(15,.k (.d (.int .i64)))],[((.exit 0),[(3,.k (.row 56 false))])],bnd tb (.slot 14) 1⟩)] [] [] []
def b2C:Row I:=⟨55,[.d (.dat 71)],[.k (.row 56 false)],b0G⟩
theorem b3w:RK (b2C) :=
 okR [eR c2X] 26 b4H [.tmp 2] Go.Proofs.Tryz.func55 (by kernel_rfl)
def b5k:Hints I:=mkH [(1,[[],[0],[0,1],[],[3],[0,1,2,3,4],[0,1,2,3,4,5],[]])] [] [] [] [(26,⟨268419152,[12],[],[(14,.k (.d (.int .i64)))],[((.exit 0),[]),(.ret,[(4,.k (.d (.bool)))])],bnd tb (.slot 13) 1⟩)] [] [] []
def b3N:Row I:=⟨56,[.d (.dat 27),.d (.dat 56)],[.k (.d (.bool))],a7I⟩
theorem a8N:RK (b3N) :=
 okR [eR b5F] 28 b5k [.tmp 4] Go.Proofs.Tryz.func56 (by kernel_rfl)
def a4o:Hints I:=mkH [(4,[[],[],[],[1,2],[1,2,3],[0,1,2,3,4]])] [] [] [] [(26,⟨524080,[],[],[(8,.k (.d (.int .i64)))],[((.exit 0),[]),(.ret,[(4,.k (.d (.int .i64)))])],bnd tb (.slot 7) 1⟩)] [] [] []
def a3V:Row I:=⟨114,[.d (.sl 83),.d (.dat 83)],[.k (.d (.int .i64))],a0N⟩
theorem a1H:RK (a3V) :=
 okR [] 19 a4o [.tmp 4] Go.Proofs.Tryz.func114 (by kernel_rfl)
def b3v:Row I:=⟨178,[.d (.int .i64)],[.k (.d (.int .i64))],b1Z⟩
theorem b4a:RK (b3v) :=
 okR [] 14 Y4 [.tmp 2] Go.Proofs.Tryz.func178 (by kernel_rfl)
def a3p:Row I:=⟨58,[.d (.sl 83),.d (.dat 83)],[.k (.d (.bool))],V2⟩
theorem X7:RK (a3p) :=
 okR [eR a1H] 9 Y4 [.tmp 4] Go.Proofs.Tryz.func58 (by kernel_rfl)
def a4T:Hints I:=mkH [] [] [] [] [(26,⟨524080,[],[],[(8,.k (.d (.int .i64)))],[((.exit 0),[]),(.ret,[(4,.k (.d (.int .i64)))])],bnd tb (.slot 7) 1⟩)] [] [] []
def a4r:Row I:=⟨222,[.d (.sl 9),.d (.str)],[.k (.d (.int .i64))],a2G⟩
theorem a4O:RK (a4r) :=
 okR [] 19 a4T [.tmp 4] Go.Proofs.Tryz.func222 (by kernel_rfl)
def a3H:Row I:=⟨184,[.d (.sl 9),.d (.str)],[.k (.d (.bool))],a18⟩
theorem a3Z:RK (a3H) :=
 okR [eR a4O] 9 Y4 [.tmp 4] Go.Proofs.Tryz.func184 (by kernel_rfl)
def b7T (_:Nat):Hints I:=mkH [(6,[[],[],[],[],[2,3],[2,3,4],[0,1,2,3,4,5],[0,1,2,3,4,5,6]])] [] [] [] [(58,⟨1073676736,[],[],[(16,.k (.d (.int .i64)))],[((.exit 0),[]),(.ret,[(6,.k (.d (.bool)))])],bnd tb (.slot 15) 1⟩)] [] [] []
def a0t (n:Nat):Row I:=⟨179,[.d (.sl 33),.d (.dat 27),.d (.sl 3)],[.k (.d (.bool))],c0u n⟩
def a9Y (_:Nat):Hints I:=mkH [(2,[[],[0],[],[],[3],[],[3,4,5],[0,1,2,3,4,5,6],[0,1,2,3,4,5,6,7],[0,1,2,3,4,5,6,7,8],[0,1,2,3,4,5,6,7,8,9],[0,1,2,3,4,5,6,7,8,9,10],[0,1,2,3,4,5,6,7,8,9,10,11],[0,1,2,3,4,5,6,7,8,9,10,11,12],[0,1,2,3,4,5,6,7,8,9,10,11,12,13],[0,1,2,3,4,5,6,7,8,9,10,11,12,13,14],[0,1,2,3,4,5,6,7,8,9,10,11,12,13],[0,1,2,3,4,5,6,7,8,9,10,11,12,13],[0,1,2,3,4,5,6,7,8,9,10,11,12,13,17],[0,1,2,3,4,5,6,7,8,9,10,11,12,13],[0,1,2,3,4,5,6,7,8,9,10,11,12,13,17,18,19],[0,1,2,3,4,5,6,7,8,9,10,11,12,13,17,18,19,20],[0,1,2,3,4,5,6,7,8,9,10,11,12,13,14,15,16,17,18,19,20,21],[0,1,2,3,4,5,6,7,8,9,10,11,12,13,14,15,16,17,18,19,20,21,22],[0,1,2,3,4,5,6,7,8,9,10,11,12,13,14,15,16,17,18,19,20,21,22,23],[0,1,2,3,4,5,6,7,8,9,10,11,12,13,14,15,16,17,18,19,20,21,22,23,24]])] [] [] [] [] [] [] []
def Q1 (n:Nat):Row I:=⟨221,[.d (.dat 138),.d (.dat 27),.d (.dat 77)],[.k (.d (.bool))],b1W n⟩
def b0N (_:Nat):Hints I:=mkH [] [] [] [] [(58,⟨536346944,[],[],[(19,.k (.d (.int .i64)))],[((.exit 0),[]),(.ret,[(6,.k (.d (.bool)))])],bnd tb (.slot 18) 1⟩)] [] [] []
def Q6 (n:Nat):Row I:=⟨181,[.d (.dat 33),.d (.dat 27),.d (.dat 77)],[.k (.d (.bool))],b2d n⟩
def b8y (_:Nat):Hints I:=mkH [(17,[[],[0],[],[2],[2,3],[0,1,2,3,4],[0,1,2,3,4,5]]),(31,[[],[],[],[2],[2,3],[2,3,4],[0,1,2,3,4,5],[0,1,2,3,4,5,6],[0,1,2,3,4,5,6,7]])] [] [] [(60413,⟨144115188075855872000,[],[],[(.normal,[(60,.k (.d (.bool)))])]⟩)] [] [] [] []
def a0d (n:Nat):Row I:=⟨142,[.d (.dat 33),.d (.dat 27),.d (.int .i64)],[.k (.d (.bool))],b2V n⟩
def W9 (n:Nat):Row I:=⟨182,[.d (.int .i64),.var 33 (.k (.d (.dat 33))) false,.var 27 (.k (.d (.dat 27))) false],[.k (.d (.bool))],b8z n⟩
def W8 (n:Nat):Row I:=⟨183,[.d (.int .i64),.var 33 (.k (.d (.dat 33))) false,.var 27 (.k (.d (.dat 27))) false],[.k (.d (.bool))],b8I n⟩
def b5n (_:Nat):Hints I:=mkH [(10,[[],[0],[],[0,1,2],[0,1,2,3],[],[],[],[6,7],[0,1,2,3,4,5,6,7,8],[0,1,2,3,4,5,6,7,8,9]])] [] [] [] [(26,⟨1073725760,[],[],[(14,.k (.d (.int .i64)))],[((.exit 0),[]),(.ret,[(6,.k (.d (.bool)))])],bnd tb (.slot 13) 1⟩),
 (58,⟨1125891316909632,[],[],[(33,.k (.d (.int .i64)))],[((.exit 2),[]),(.ret,[(6,.k (.d (.bool)))])],bnd tb (.slot 32) 1⟩)] [] [] []
def V4 (n:Nat):Row I:=⟨180,[.d (.dat 33),.d (.dat 27),.d (.dat 77)],[.k (.d (.bool))],b7i n⟩
theorem b6K (n:Nat)(_:j7 Go.Proofs.Tryz.prog (a0t n))(_:j7 Go.Proofs.Tryz.prog (Q1 n))(_:j7 Go.Proofs.Tryz.prog (Q6 n))(h_core_Has:j7 Go.Proofs.Tryz.prog (a0d n))(_:j7 Go.Proofs.Tryz.prog (W9 n))(_:j7 Go.Proofs.Tryz.prog (W8 n))(_:j7 Go.Proofs.Tryz.prog (V4 n)):RK (a0t (n+1)) :=
 okR [eR h_core_Has] 30 (b7T n) [.tmp 6] Go.Proofs.Tryz.func179 (by kernel_rfl)
theorem a8v (n:Nat)(h_core_all:j7 Go.Proofs.Tryz.prog (a0t n))(_:j7 Go.Proofs.Tryz.prog (Q1 n))(_:j7 Go.Proofs.Tryz.prog (Q6 n))(h_core_Has:j7 Go.Proofs.Tryz.prog (a0d n))(_:j7 Go.Proofs.Tryz.prog (W9 n))(_:j7 Go.Proofs.Tryz.prog (W8 n))(_:j7 Go.Proofs.Tryz.prog (V4 n)):RK (Q1 (n+1)) :=
 okR [eR h_core_all,eR h_core_Has] 37 (a9Y n) [.tmp 6] Go.Proofs.Tryz.func221 (by kernel_rfl)
theorem a9p (n:Nat)(_:j7 Go.Proofs.Tryz.prog (a0t n))(h_core_EntryAllowed:j7 Go.Proofs.Tryz.prog (Q1 n))(_:j7 Go.Proofs.Tryz.prog (Q6 n))(_:j7 Go.Proofs.Tryz.prog (a0d n))(_:j7 Go.Proofs.Tryz.prog (W9 n))(_:j7 Go.Proofs.Tryz.prog (W8 n))(_:j7 Go.Proofs.Tryz.prog (V4 n)):RK (Q6 (n+1)) :=
 okR [eR h_core_EntryAllowed] 29 (b0N n) [.tmp 6] Go.Proofs.Tryz.func181 (by kernel_rfl)
theorem b6r (n:Nat)(h_core_all:j7 Go.Proofs.Tryz.prog (a0t n))(_:j7 Go.Proofs.Tryz.prog (Q1 n))(h_core_functionHas:j7 Go.Proofs.Tryz.prog (Q6 n))(h_core_Has:j7 Go.Proofs.Tryz.prog (a0d n))(h_core_Has_1:j7 Go.Proofs.Tryz.prog (W9 n))(h_core_Has_2:j7 Go.Proofs.Tryz.prog (W8 n))(h_core_mapHas:j7 Go.Proofs.Tryz.prog (V4 n)):RK (a0d (n+1)) :=
 okR [eR b4a,eR h_core_all,eR h_core_mapHas,eR h_core_functionHas,eR V9,eR h_core_Has_1,eR h_core_Has_2,eR h_core_Has,eR a3Z] 151 (b8y n) [.tmp 6] Go.Proofs.Tryz.func142 (by kernel_rfl)
theorem b4v (n:Nat)(_:j7 Go.Proofs.Tryz.prog (a0t n))(_:j7 Go.Proofs.Tryz.prog (Q1 n))(_:j7 Go.Proofs.Tryz.prog (Q6 n))(h_core_Has:j7 Go.Proofs.Tryz.prog (a0d n))(_:j7 Go.Proofs.Tryz.prog (W9 n))(_:j7 Go.Proofs.Tryz.prog (W8 n))(_:j7 Go.Proofs.Tryz.prog (V4 n)):RK (W9 (n+1)) :=
 okR [eR h_core_Has] 9 Y4 [.tmp 4] Go.Proofs.Tryz.func182 (by kernel_rfl)
theorem b34 (n:Nat)(_:j7 Go.Proofs.Tryz.prog (a0t n))(_:j7 Go.Proofs.Tryz.prog (Q1 n))(_:j7 Go.Proofs.Tryz.prog (Q6 n))(h_core_Has:j7 Go.Proofs.Tryz.prog (a0d n))(_:j7 Go.Proofs.Tryz.prog (W9 n))(_:j7 Go.Proofs.Tryz.prog (W8 n))(_:j7 Go.Proofs.Tryz.prog (V4 n)):RK (W8 (n+1)) :=
 okR [eR h_core_Has] 10 Y4 [.tmp 4] Go.Proofs.Tryz.func183 (by kernel_rfl)
theorem b3Z (n:Nat)(_:j7 Go.Proofs.Tryz.prog (a0t n))(_:j7 Go.Proofs.Tryz.prog (Q1 n))(_:j7 Go.Proofs.Tryz.prog (Q6 n))(h_core_Has:j7 Go.Proofs.Tryz.prog (a0d n))(_:j7 Go.Proofs.Tryz.prog (W9 n))(_:j7 Go.Proofs.Tryz.prog (W8 n))(_:j7 Go.Proofs.Tryz.prog (V4 n)):RK (V4 (n+1)) :=
 okR [eR X7,eR a9c,eR h_core_Has] 50 (b5n n) [.tmp 6] Go.Proofs.Tryz.func180 (by kernel_rfl)
theorem a7q:∀ n:Nat,j7 Go.Proofs.Tryz.prog (a0t n)/\j7 Go.Proofs.Tryz.prog (Q1 n)/\j7 Go.Proofs.Tryz.prog (Q6 n)/\j7 Go.Proofs.Tryz.prog (a0d n)/\j7 Go.Proofs.Tryz.prog (W9 n)/\j7 Go.Proofs.Tryz.prog (W8 n)/\j7 Go.Proofs.Tryz.prog (V4 n)
 | 0=>⟨W5 (by kernel_rfl),W5 (by kernel_rfl),W5 (by kernel_rfl),W5 (by kernel_rfl),W5 (by kernel_rfl),W5 (by kernel_rfl),W5 (by kernel_rfl)⟩
 | n+1=>by
   obtain ⟨h0,h1,h2,h3,h4,h5,h6⟩:=a7q n
   exact ⟨b6K n h0 h1 h2 h3 h4 h5 h6,a8v n h0 h1 h2 h3 h4 h5 h6,a9p n h0 h1 h2 h3 h4 h5 h6,b6r n h0 h1 h2 h3 h4 h5 h6,b4v n h0 h1 h2 h3 h4 h5 h6,b34 n h0 h1 h2 h3 h4 h5 h6,b3Z n h0 h1 h2 h3 h4 h5 h6⟩
theorem b1Y (n:Nat):j7 Go.Proofs.Tryz.prog (a0d n):=(a7q n).2.2.2.1
def b1A (n:Nat):Row I:=⟨141,[.d (.int .i64),.var 33 (.k (.d (.dat 33))) false,.var 27 (.k (.d (.dat 27))) false],[.k (.d (.bool))],a9N n⟩
theorem b2W (n:Nat):RK (b1A n) :=
 okR [eR (b1Y n)] 10 Y4 [.tmp 4] Go.Proofs.Tryz.func141 (by kernel_rfl)
def b1z (n:Nat):Row I:=⟨143,[.d (.int .i64),.var 33 (.k (.d (.dat 33))) false,.var 27 (.k (.d (.dat 27))) false],[.k (.d (.bool))],a9K n⟩
theorem b2K (n:Nat):RK (b1z n) :=
 okR [eR (b1Y n)] 9 Y4 [.tmp 4] Go.Proofs.Tryz.func143 (by kernel_rfl)
def b3h (n:Nat):Row I:=⟨78,[.d (.dat 33),.d (.dat 27),.d (.sl 3),.d (.sl 3)],[.k (.d (.bool))],b2b n⟩
theorem b4C (n:Nat):RK (b3h n) :=
 okR [eR V9,eR (b2W n),eR (b2K n)] 19 Y4 [.tmp 8] Go.Proofs.Tryz.func78 (by kernel_rfl)
def b2f (n:Nat):Row I:=⟨38,[.d (.dat 33),.d (.dat 27),.d (.dat 56)],[.k (.d (.bool))],a2p n⟩
theorem a4G (n:Nat):RK (b2f n) :=
 okR [eR (a6b n),eR (a15 n),eR a8N,eR (b4C n)] 40 Y4 [.tmp 6] Go.Proofs.Tryz.func38 (by kernel_rfl)
def b2I (_:Nat):Hints I:=mkH [(6,[[],[0],[0,1],[0,1,2],[0,1,2,3],[0,1,2],[0,1,2,3,4,5],[0,1,2,3,4,5,6],[0,1,2],[0,1,2],[0,1,2,3,4,5,6,7,8,9],[0,1,2,3,4,5,6,7,8,9,10],[0,1,2,3,4,5,6,7,8,9,10,11]]),(8,[[],[0],[0,1],[0,1,2],[0,1,2,3],[0,1,2],[0,1,2,3,4,5],[0,1,2,3,4,5,6],[0,1,2],[0,1,2],[0,1,2,3,4,5,6,7,8,9],[0,1,2,3,4,5,6,7,8,9,10],[0,1,2,3,4,5,6,7,8,9,10,11]])] [] [] [] [] [] [] []
def b0C (n:Nat):Row I:=⟨57,[.d (.dat 33),.d (.dat 27),.d (.dat 83),.d (.int .i64),.d (.dat 56)],[.k (.d (.bool))],a8Q n⟩
theorem b1L (n:Nat):RK (b0C n) :=
 okR [eR a1H,eR (a4G n)] 49 (b2I n) [.tmp 10] Go.Proofs.Tryz.func57 (by kernel_rfl)
def b2p (_:Nat):Hints I:=mkH [(4,[[],[0],[],[2],[0,1,2,3],[0,1,2,3,4],[0,1,2,3,4,5],[0,1,2,3,4,5],[0,1,2,3,4,5,6,7],[0,1,2,3,4,5,6,7,8],[0,1,2,3,4,5,6,7,8,9],[0,1,2,3,4,5,6,7,8,9,10],[0,1,2,3,4,5,6,7,8,9,10,11],[0,1,2,3,4,5,6,7,8,9,10,11,12],[0,1,2,3,4,5,6,7,8,9,10,11],[0,1,2,3,4,5,6,7,8,9,10,11,12,13,14],[0,1,2,3,4,5,6,7,8,9,10,11,12,13,14,15],[0,1,2,3,4,5,6,7,8,9,10,11],[0,1,2,3,4,5,6,7,8,9,10,11],[0,1,2,3,4,5,6,7,8,9,10,11,18],[0,1,2,3,4,5,6,7,8,9,10,11,12,13,14,15,16,17,18,19],[0,1,2,3,4,5,6,7,8,9,10,11,12,13,14,15,16,17,18,19,20]])] [] [] [] [(26,⟨4398046496512,[],[],[(14,.k (.d (.int .i64)))],[((.exit 0),[]),(.ret,[(8,.k (.d (.bool)))])],bnd tb (.slot 13) 1⟩)] [] [] []
def b0s (n:Nat):Row I:=⟨59,[.d (.dat 33),.d (.dat 27),.d (.sl 83),.d (.dat 85)],[.k (.d (.bool))],a8y n⟩
theorem b1E (n:Nat):RK (b0s n) :=
 okR [eR X7,eR (a4G n)] 42 (b2p n) [.tmp 8] Go.Proofs.Tryz.func59 (by kernel_rfl)
def b2m (_:Nat):Hints I:=mkH [(12,[[],[],[],[],[3],[],[3,4,5],[3,4,5,6],[],[8],[],[8,9,10],[8,9,10,11],[0,1,2,3,4,5,6,7,8,9,10,11,12],[0,1,2,3,4,5,6,7,8,9,10,11,12,13]]),(18,[[],[0],[],[0,1,2],[0,1,2,3],[0,1,2,3,4],[0,1,2,3,4,5],[0,1,2,3,4,5,6],[0,1,2,3,4,5],[0,1,2,3,4,5,6,7,8],[0,1,2,3,4,5,6,7,8,9],[0,1,2,3,4,5],[0,1,2,3,4,5],[0,1,2,3,4,5,12],[0,1,2,3,4,5],[0,1,2,3,4,5,12,13,14],[0,1,2,3,4,5,12,13,14,15],[0,1,2,3,4,5,6,7,8,9,10,11,12,13,14,15,16],[0,1,2,3,4,5,6,7,8,9,10,11,12,13,14,15,16,17],[0,1,2,3,4,5,6,7,8,9,10,11,12,13,14,15,16,17,18]])] [] [] [] [(58,⟨35115652612416,[34],[],[(36,.k (.d (.int .i64)))],[((.exit 0),[]),(.ret,[(6,.k (.d (.bool)))])],bnd tb (.slot 35) 1⟩),
 (122,⟨590295528883728942656,[],[],[(48,.k (.d (.int .i64)))],[((.exit 2),[]),(.ret,[(6,.k (.d (.bool)))])],bnd tb (.slot 47) 1⟩),
 (250,⟨316912645334690867504530593856,[],[],[(72,.k (.d (.int .i64)))],[((.exit 4),[]),(.ret,[(6,.k (.d (.bool)))])],bnd tb (.slot 71) 1⟩),
 (506,⟨10382058415869198798257999252045888,[],[],[(101,.k (.d (.int .i64)))],[((.exit 6),[]),(.ret,[(6,.k (.d (.bool)))])],bnd tb (.slot 100) 1⟩)] [] [] []
def b00 (n:Nat):Row I:=⟨24,[.d (.dat 33),.d (.dat 27),.d (.dat 71)],[.k (.d (.bool))],a2q n⟩
theorem a6a (n:Nat):RK (b00 n) :=
 okR [eR (a6b n),eR (a15 n),eR b1H,eR b3w,eR a8N,eR (b1L n),eR X7,eR (a4G n),eR (b1E n)] 113 (b2m n) [.tmp 6] Go.Proofs.Tryz.func24 (by kernel_rfl)
def a9E (_:Nat):Hints I:=mkH [(8,[[],[0],[0,1],[0,1],[0,1],[0,1],[0,1,4,5],[0,1,4,5,6],[0,1,2,3,4,5,6,7],[0,1,2,3,4,5,6,7,8],[0,1,2,3,4,5,6,7,8,9]])] [] [] [] [(506,⟨17591917609152,[2],[],[(6,.k (.d (.bool))),(7,.k (.d (.int .i64)))],[((.exit 0),[(6,.k (.d (.bool)))])],bnd tb (.len (.slot 2)) 1⟩)] [] [] []
noncomputable def a7J (n:Nat):Row I:=⟨18,[],[.k (.d (.bool))],a0n n⟩
theorem a8A (n:Nat):RK (a7J n) :=
 okR [eR (a62 n),eR b0l,eR a5A,eR (a6a n)] 53 (a9E n) [.tmp 0] Go.Proofs.Tryz.func18 (by kernel_rfl)
def a6k:Hints I:=mkH [(1,[[],[0],[0,1],[0,1,2],[0,1,2,3],[0,1,2,3,4],[0,1,2,3,4,5],[0,1,2],[0,1,2,7],[0,1,2,7,8],[0,1,2,7,8,9],[0,1,2,7,8,9,10],[0,1,2,3,4,5,6,7,8,9,10,11],[0,1,2,3,4,5,6,7,8,9,10,11,12]]),(3,[[],[0],[0,1],[0,1,2],[],[4],[4,5],[4,5,6],[0,1,2,3,4,5,6,7],[0,1,2,3,4,5,6,7,8],[],[0,1,2,3,4,5,6,7,8,9,10],[0,1,2,3,4,5,6,7,8,9,10,11]])] [] [] [] [] [] [] []
def a5w:Row I:=⟨22,[.var 44 (.k (.d (.dat 44))) true,.d (.int .i64)],[.k (.d (.int .i64))],z7⟩
theorem Q3:RK (a5w) :=
 okR [] 46 a6k [.tmp 4] Go.Proofs.Tryz.func22 (by kernel_rfl)
def a4f:Row I:=⟨99,[.var 44 (.k (.d (.dat 44))) true],[.k (.d (.str))],X9⟩
theorem a4z:RK (a4f) :=
 okR [eR Q3] 8 Y4 [.tmp 2] Go.Proofs.Tryz.func99 (by kernel_rfl)
def a5B:Row I:=⟨97,[.var 44 (.k (.d (.dat 44))) true],[.k (.d (.str))],a0G⟩
theorem a58:RK (a5B) :=
 okR [eR Q3] 8 Y4 [.tmp 2] Go.Proofs.Tryz.func97 (by kernel_rfl)
def a5f:Row I:=⟨130,[.var 44 (.k (.d (.dat 44))) true],[.k (.d (.str))],a0r⟩
theorem a5C:RK (a5f) :=
 okR [eR Q3] 8 Y4 [.tmp 2] Go.Proofs.Tryz.func130 (by kernel_rfl)
def a42:Hints I:=mkH [] [] [] [] [(28,⟨16776706,[],[(0,.k (.d (.dat 44)))],[(1,.k (.d (.int .i64))),(9,.k (.row 3 false))],[((.exit 0),[(9,.k (.row 3 false))])],bnd tb (.slot 1) 2⟩)] [] [] []
def a4s:Row I:=⟨131,[.var 44 (.k (.d (.dat 44))) true,.d (.int .i64),.d (.int .i64),.d (.int .i64)],[.k (.row 3 false)],y3⟩
theorem a4P:RK (a4s) :=
 okR [eR Q3] 25 a42 [.tmp 8] Go.Proofs.Tryz.func131 (by kernel_rfl)
def a48:Hints I:=mkH [(7,[[],[0],[],[],[2,3],[2,3,4],[],[],[6,7],[],[6,7,8,9],[6,7,8,9,10],[2,3,4,5,6,7,8,9,10,11],[2,3,4,5,6,7,8,9,10,11,12],[0,1,2,3,4,5,6,7,8,9,10,11,12,13],[0,1,2,3,4,5,6,7,8,9,10,11,12,13,14],[0,1,2,3,4,5,6,7,8,9,10,11,12,13,14,15]])] [] [] [(978,⟨8796076244992,[],[(0,.k (.d (.dat 44))),(5,.lvs [.d (.int .i64),.d (.int .i64),.d (.int .i64),.d (.str),.row 3 false,.row 101 false,.d (.int .i64),.d (.int .i64)])],[(.normal,[])]⟩)] [(122,⟨8796091973760,[6],[(0,.k (.d (.dat 44))),(5,.lvs [.d (.int .i64),.d (.int .i64),.d (.int .i64),.d (.str),.row 3 false,.row 101 false,.d (.int .i64),.d (.int .i64)])],[(7,.k (.d (.int .i64)))],[((.exit 0),[])],bnd tb (.cst 3) 1⟩)] [] [] []
def a4n:Row I:=⟨132,[.var 44 (.k (.d (.dat 44))) true,.d (.int .i64)],[.k (.d (.dat 77))],a0h⟩
theorem a4L:RK (a4n) :=
 okR [eR Q3] 44 a48 [.cell 4 77] Go.Proofs.Tryz.func132 (by kernel_rfl)
def a6i:Hints I:=mkH [(8,[[],[],[0,1],[0,1,2],[],[],[],[],[7],[6,7,8],[5,6,7,8,9],[4,5,6,7,8,9,10],[4,5,6,7,8,9,10,11],[0,1,2,3,4,5,6,7,8,9,10,11,12],[0,1,2,3,4,5,6,7,8,9,10,11,12,13]])] [] [] [(29,⟨128,[],[],[(.normal,[(7,.k (.d (.int .i64)))])]⟩),
 (32243709,⟨47223664828696452136960,[],[],[(.normal,[(73,.k (.d (.bool)))])]⟩),
 (2063597565,⟨49517601571415210995964968960,[],[],[(.normal,[(93,.k (.d (.bool)))])]⟩)] [] [] [] []
def a5v:Row I:=⟨70,[.var 44 (.k (.d (.dat 44))) true,.d (.int .i64),.d (.int .i64)],[.k (.d (.dat 77))],a0D⟩
theorem a5S:RK (a5v) :=
 okR [eR Q3,eR a4z,eR a58,eR a5C,eR a4P,eR a4L] 128 a6i [.cell 6 77] Go.Proofs.Tryz.func70 (by kernel_rfl)
def a6n:Hints I:=mkH [(6,[[],[0],[],[],[],[2,3,4],[2,3,4,5],[0,1,2,3,4,5,6],[0,1,2,3,4,5,6,7],[0,1,2,3,4,5,6,7,8]])] [] [] [] [(122,⟨16776256,[],[(0,.k (.d (.dat 44))),(5,.lvs [.row 77 false,.d (.int .i64)])],[(6,.k (.d (.int .i64)))],[((.exit 0),[])],bnd tb (.slot 1) 1⟩)] [] [] []
def a5r:Row I:=⟨33,[.var 44 (.k (.d (.dat 44))) true,.d (.int .i64)],[.lvs [.row 77 false,.d (.int .i64)]],a0C⟩
theorem a5Z:RK (a5r) :=
 okR [eR a5S] 25 a6n [.cell 4 27] Go.Proofs.Tryz.func33 (by kernel_rfl)
def a90:Hints I:=mkH [(14,[[],[0],[],[],[2,3],[2,3,4],[2,3,4,5],[],[],[7,8],[],[7,8,9,10],[7,8,9,10,11],[2,3,4,5,6,7,8,9,10,11,12],[2,3,4,5,6,7,8,9,10,11,12,13],[0,1,2,3,4,5,6,7,8,9,10,11,12,13,14],[0,1,2,3,4,5,6,7,8,9,10,11,12,13,14,15],[0,1,2,3,4,5,6,7,8,9,10,11,12,13,14,15,16]]),(21,[[],[],[0],[0,1,2]])] [] [] [(8146,⟨19807040628566084381206147072,[],[(7,.lvs [.row 77 false,.d (.int .i64)]),(8,.k (.d (.dat 44))),(9,.lvs [.d (.int .i64),.d (.int .i64),.row 277 false,.d (.bool),.row 9 false,.row 3 false,.row 3 false,.row 9 false,.row 9 false])],[(.normal,[])]⟩),
 (1042749,⟨19267255250108152471879680,[],[(9,.lvs [.d (.int .i64),.d (.int .i64),.row 277 false,.d (.bool),.row 9 false,.row 3 false,.row 3 false,.row 9 false,.row 9 false])],[(.normal,[])]⟩),
 (2085458,⟨73786905926094028800,[],[(8,.k (.d (.dat 44))),(12,.lvs [.d (.int .i64),.d (.int .i64),.d (.int .i64),.d (.str),.row 3 false,.row 101 false,.d (.int .i64),.d (.int .i64)])],[(.normal,[])]⟩)] [(1018,⟨19807040628566084397312276480,[],[(7,.lvs [.row 77 false,.d (.int .i64)]),(8,.k (.d (.dat 44))),(9,.lvs [.d (.int .i64),.d (.int .i64),.row 277 false,.d (.bool),.row 9 false,.row 3 false,.row 3 false,.row 9 false,.row 9 false])],[(11,.k (.d (.int .i64)))],[((.exit 0),[])],bnd tb (.cst 3) 1⟩),
 (260682,⟨73786971896791703552,[],[(8,.k (.d (.dat 44))),(12,.lvs [.d (.int .i64),.d (.int .i64),.d (.int .i64),.d (.str),.row 3 false,.row 101 false,.d (.int .i64),.d (.int .i64)])],[(13,.k (.d (.int .i64)))],[((.exit 2),[])],bnd tb (.cst 2) 1⟩)] [] [] []
def a8z:Row I:=⟨19,[.d (.sl 3),.d (.sl 3)],[.k (.d (.dat 27)),.k (.d (.dat 40))],a19⟩
theorem a9r:RK (a8z) :=
 okR [eR Q3,eR a5Z] 96 a90 [.cell 4 27,.cell 5 40] Go.Proofs.Tryz.func19 (by kernel_rfl)
def a8u:Row I:=⟨60,[.d (.dat 27),.d (.int .i64)],[.k (.d (.bool))],a2d⟩
theorem a9l:RK (a8u) :=
 okR [] 14 Y4 [.tmp 4] Go.Proofs.Tryz.func60 (by kernel_rfl)
def a8I:Hints I:=mkH [(1,[[],[0],[0,1],[],[3],[0,1,2,3,4],[0,1,2,3,4,5]]),(5,[[],[],[],[1,2],[1,2,3],[0,1,2,3,4],[0,1,2,3,4,5]])] [] [] [] [(58,⟨67100752,[5],[],[(6,.k (.d (.int .i64)))],[((.exit 0),[]),(.ret,[(4,.k (.d (.bool)))])],bnd tb (.len (.slot 5)) 1⟩)] [] [] []
def a7m:Row I:=⟨26,[.d (.dat 27),.d (.dat 56)],[.k (.d (.bool))],a1D⟩
theorem a7P:RK (a7m) :=
 okR [eR a9l] 26 a8I [.tmp 4] Go.Proofs.Tryz.func26 (by kernel_rfl)
def a5H (_:Nat):Hints I:=mkH [(5,[[],[0],[0,1],[],[3],[0,1,2,3,4],[0,1,2,3,4,5]]),(10,[[],[0],[],[],[2,3],[2,3,4],[0,1,2,3,4,5],[0,1,2,3,4,5,6],[0,1,2,3,4,5,6,7],[0,1,2,3,4,5,6,7,8],[0,1,2,3,4,5,6,7,8,9]])] [] [] [(2045,⟨928455029464035206174408704,[],[],[(.normal,[(16,.k (.d (.int .i64)))])]⟩)] [(1018,⟨38685552440691838752440320,[],[],[(14,.k (.d (.bool))),(15,.k (.d (.int .i64)))],[((.exit 0),[(14,.k (.d (.bool)))])],bnd tb (.len (.slot 13)) 1⟩)] [] [] []
noncomputable def a4J (n:Nat):Row I:=⟨6,[.d (.sl 3),.d (.sl 3),.d (.dat 40),.d (.dat 71)],[.k (.d (.bool))],V7 n⟩
theorem a4W (n:Nat):RK (a4J n) :=
 okR [eR a8M,eR (a8A n),eR a9r,eR (a62 n),eR a7P,eR a5A,eR (a6a n)] 131 (a5H n) [.tmp 8] Go.Proofs.Tryz.func6 (by kernel_rfl)
end Go.Qx
end
section
namespace Go.Pl
open Go Go.RowKit Go.Sx Go.Qx Go.Proofs.YtmcfcgaiecgdhaaGreat
def a0g (w:World):S:=⟨w,fun b=>match w.heap[b]? with | some (.cells c _ _)=>(c.size,0) | _=>(0,0)⟩
theorem b8A {w:World}{b o:Nat}{cs:List Value}(hn:cs≠[])(h:w.rangeAt b o cs):a1e (a0g w) b o cs:=by
 refine ⟨?_,h⟩
 have hl:0<cs.length:=List.length_pos_iff.2 hn
 have hj:=h (cs.length-1) _ (List.getElem?_eq_getElem (by omega))
 unfold World.cell? at hj
 simp only at hj
 split at hj
 ·rename_i c e f hb
  have h2:o+(cs.length-1)<c.size:=by
   simp only [Option.isSome_none,Bool.false_eq_true,if_false] at hj
   exact (Array.getElem?_eq_some_iff.1 hj).1
  show o+cs.length<=(match w.heap[b]? with | some (.cells c _ _)=>(c.size,0) | _=>(0,0)).1
  rw [hb]
  show o+cs.length<=c.size
  omega
 ·cases hj
theorem b8J {w:World}{base:Nat}{a:Addr}{n:Nat}{cs:List Value}(h:w.cells? base a n=some cs) :
 cs.length=n/\∀ (i:Nat) (v:Value),cs[i]?=some v->w.cell? (a.add i)=some v:=by
 unfold World.cells? at h
 split at h
 ·have hl:cs.length=n:=by simpa using mapM_some_length h
  refine ⟨hl,fun i v hv=>?_⟩
  have hi:i<n:=by have:=(List.getElem?_eq_some_iff.1 hv).1; omega
  have:=mapM_some_get h i i (by simp [hi])
  rw [this,hv]
 ·cases h
theorem c14 (a:Addr)(x j:Nat):(a.add x).add j=a.add (x+j):=by
 unfold Addr.add
 by_cases hx:x=0
 ·subst hx; simp
 ·by_cases hj:j=0
  ·subst hj; simp [hx]
  ·rw [if_neg hj,if_neg hx,if_neg (by omega),Nat.add_assoc]
theorem b9I {w:World}{a:Addr}{v:Value}(h:w.cell? a=some v):a.spot=none:=by
 unfold World.cell? at h
 split at h
 ·split at h
  ·cases h
  ·rename_i hs; simpa using hs
 ·cases h
section
variable {H:Type}{enc:TypeId×Value->H}{P:Program}{w:World}{base:Nat}{spare:Nat->Bool}{held:Bool}
theorem a10 {α:Type} [Rp α] {fuel:Nat}{t e:TypeId}{cs:List Value}{x:DataW H×List MemPlace}(ht:P.underlying t=some (.slice e))(hc:P.cellsOf e=Rp.sz α)(bk:α->Nat)
 (hrd:∀ (n:Nat) (cs:List Value) (x:DataW H×List MemPlace),n<fuel->DataW.trod enc P w base spare held n e cs=some x->∃ d:α,Rp.cells (a0g w) d cs/\bk d<=Rows.uptoBulk x.1)
 (h:DataW.trod enc P w base spare held fuel t cs=some x) :
 ∃ (ds:List α) (A:Option Addr) (c:Nat),cs=[.slice A ds.length c]/\Sl (a0g w) ds A c/\(ds.map bk).sum+1<=Rows.uptoBulk x.1:=by
 rcases DataW.trod_slice ht h with ⟨rfl,rfl⟩ | ⟨a,len,cap,elems,rest,n,rfl,rfl,rfl,hb,hl,hm,hle,hget,-,-⟩
 ·exact ⟨[],none,0,rfl,Sl.nil_ _ _ _ (Nat.zero_le _),by simp [Rows.uptoBulk]⟩
 have key:∀ (m i:Nat),i+m=len->∃ (ds:List α) (cs:List Value),ds.length=m/\Y9 (a0g w) ds cs /\
  (∀ (j:Nat) (v:Value),cs[j]?=some v->w.cell? (a.add (i*Rp.sz α+j))=some v)/\(ds.map bk).sum<=Rows.uptoBulkAll ((elems.drop i).map (·.1)):=by
  intro m
  induction m with
  | zero=>intro i _; exact ⟨[],[],rfl,rfl,fun j v hv=>by simp at hv,by simp⟩
  | succ m ih =>
    intro i hi
    obtain ⟨ds,cs,h1,h2,h3,h4⟩:=ih (i+1) (by omega)
    have hlt:i<elems.length:=by omega
    have hg:=hget i (by omega)
    rw [List.getElem?_eq_getElem hlt,Option.bind_eq_some_iff] at hg
    obtain ⟨cs0,hcs,htr⟩:=hg
    obtain ⟨d,hd,hbk⟩:=hrd n cs0 _ (by omega) htr
    obtain ⟨hcl,hci⟩:=b8J hcs
    rw [hc] at hcl hci
    refine ⟨d::ds,cs0++cs,by simp [h1],⟨cs0,cs,rfl,hd,h2⟩,?_,?_⟩
    ·intro j v hv
     by_cases hj:j<Rp.sz α
     ·rw [List.getElem?_append_left (by omega)] at hv
      rw [<- c14]
      exact hci j v hv
     ·rw [List.getElem?_append_right (by omega)] at hv
      have:=h3 _ v hv
      rw [hcl,Nat.add_mul,Nat.one_mul] at this
      have e:i*Rp.sz α+Rp.sz α+(j-Rp.sz α)=i*Rp.sz α+j:=by omega
      rw [e] at this
      exact this
    ·rw [List.drop_eq_getElem_cons hlt]
     simp only [List.map_cons,List.sum_cons,Rows.uptoBulkAll]
     omega
 obtain ⟨ds,cs,h1,h2,h3,h4⟩:=key len 0 (by omega)
 simp only [Nat.zero_mul,Nat.zero_add,List.drop_zero] at h3 h4
 refine ⟨ds,some a,cap,by rw [h1],⟨by omega,hm,cs,h2,fun hn=>?_⟩,by simp only [Rows.uptoBulk]; omega⟩
 have hne:=h2.ne_nil hn
 cases cs with
 | nil=>exact absurd rfl hne
 | cons v0 r =>
   have h0:=h3 0 v0 rfl
   have hs:a.spot=none:=b9I (by simpa [Addr.add] using h0)
   obtain ⟨b,o,sp⟩:=a
   simp only at hs
   subst hs
   refine ⟨b,o,rfl,b8A (by simp) ?_⟩
   intro j v hv
   have:=h3 j v hv
   unfold Addr.add at this
   by_cases hj:j=0
   ·subst hj; simpa using this
   ·rw [if_neg hj] at this
    exact this
end
theorem c3c {α:Type}{l:List α}(h:l.length=2):∃ a b,l=[a,b]:=by
 match l,h with
 | [a,b],_=>exact ⟨a,b,rfl⟩
theorem b7I (s:ByteArray):s.data.toList.length=s.size:=Array.length_toList
end Go.Pl
end
section
namespace Go.Pl
open Go Go.RowKit Go.Sx Go.Qx
def a2f (_:Int):Nat:=1
def a20 (l:List Int):Nat:=(l.map a2f).sum+1
def a4F (v:Api_Range):Nat:=a2f v.Lo+a2f v.Hi+1
def a8O (l:List Api_Range):Nat:=(l.map a4F).sum+1
def b09 (_:Bool):Nat:=1
def a9v (l:List ByteArray):Nat:=(l.map a1r).sum+1
def a6N (v:Api_Names):Nat:=b09 v.Cofinite+a9v v.List_+1
def a7V (v:Api_Line):Nat:=a2f v.Kind+a2f v.Arity+a8O v.Ints+a6N v.Names+a20 v.Pos+a20 v.Neg+a9v v.Vars+a9v v.NotVars+1
def b6g (l:List Key):Nat:=(l.map a35).sum+1
def a14 (v:Api_Goal):Nat:=a20 v.Pos+a20 v.Neg+b09 v.Lists+1
def a9J (l:List Api_Goal):Nat:=(l.map a14).sum+1
def a47 (v:Api_Goal×Api_Goal):Nat:=a14 v.1+a14 v.2+1
def a3o (v:Api_SomeKey):Nat:=a2f v.Kind+a14 v.Goal+1
def a67 (l:List Api_SomeKey):Nat:=(l.map a3o).sum+1
def a6D (v:Api_Shape):Nat:=b6g v.Keys+a20 v.States+a9J v.Parts+a47 v.Rest+a67 v.Some+1
end Go.Pl
end
section
namespace Go.Pl
open Go Go.RowKit Go.Sx Go.Qx Go.Proofs.YtmcfcgaiecgdhaaGreat
theorem c83:Go.Proofs.Tryz.prog.cellsOf 83=2:=by kernel_rfl
theorem c9:Go.Proofs.Tryz.prog.cellsOf 9=1:=by kernel_rfl
theorem c2:Go.Proofs.Tryz.prog.cellsOf 2=1:=by kernel_rfl
theorem c4:Go.Proofs.Tryz.prog.cellsOf 4=1:=by kernel_rfl
theorem c29:Go.Proofs.Tryz.prog.cellsOf 29=1:=by kernel_rfl
theorem c31:Go.Proofs.Tryz.prog.cellsOf 31=1:=by kernel_rfl
theorem c3:Go.Proofs.Tryz.prog.cellsOf 3=1:=by kernel_rfl
theorem c22:Go.Proofs.Tryz.prog.cellsOf 22=1:=by kernel_rfl
section
variable {H:Type}{enc:TypeId×Value->H}{w:World}{base:Nat}{spare:Nat->Bool}{held:Bool}
theorem c0D {n:Nat}{cs:List Value}{x:DataW H×List MemPlace}(h:DataW.trod enc Go.Proofs.Tryz.prog w base spare held n 9 cs=some x) :
 ∃ d:ByteArray,Rp.cells (a0g w) d cs/\a1r d<=Rows.uptoBulk x.1:=by
 obtain ⟨s,rfl,rfl,_⟩:=DataW.trod_string Go.Proofs.Tryz.underlying9 h
 refine ⟨s,rfl,?_⟩
 simp only [Rows.uptoBulk,a1r]
 have:s.data.toList.length=s.size:=b7I s
 omega
theorem c0X {n:Nat}{cs:List Value}{x:DataW H×List MemPlace}(h:DataW.trod enc Go.Proofs.Tryz.prog w base spare held n 83 cs=some x) :
 ∃ d:Key,Rp.cells (a0g w) d cs/\a35 d<=Rows.uptoBulk x.1:=by
 obtain ⟨xs,n,rfl,rfl,hl,hx,hf⟩:=DataW.trod_struct Go.Proofs.Tryz.underlying83 h
 rw [c83] at hl
 have hx:xs.length=2:=hx
 obtain ⟨v0,v1,rfl⟩:=c3c hl
 obtain ⟨x0,x1,rfl⟩:=c3c hx
 have f0:DataW.trod enc Go.Proofs.Tryz.prog w base spare held n 3 (([v0,v1].drop 0).take (Go.Proofs.Tryz.prog.cellsOf 3))=[x0,x1][0]?:=hf 0 _ rfl
 have f1:DataW.trod enc Go.Proofs.Tryz.prog w base spare held n 9 (([v0,v1].drop 1).take (Go.Proofs.Tryz.prog.cellsOf 9))=[x0,x1][1]?:=hf 1 _ rfl
 rw [c3] at f0
 rw [c9] at f1
 obtain ⟨k,e0,rfl,_⟩:=DataW.trod_int Go.Proofs.Tryz.underlying3 (x:=x0) f0
 obtain ⟨s,e1,hb⟩:=c0D (x:=x1) f1
 obtain rfl:v0=.int .i64 k:=by simpa using e0
 have e1':[v1]=[Value.string s]:=e1
 obtain rfl:v1=.string s:=by simpa using e1'
 refine ⟨⟨k,s⟩,rfl,?_⟩
 simp only [a35,Rows.uptoBulk,Rows.uptoBulkAll,List.map_cons,List.map_nil]
 omega
end
end Go.Pl
namespace Go.Pl
open Go Go.RowKit Go.Sx Go.Qx Go.Proofs.YtmcfcgaiecgdhaaGreat
theorem c24:Go.Proofs.Tryz.prog.cellsOf 277=2:=by kernel_rfl
theorem c36:Go.Proofs.Tryz.prog.cellsOf 36=1:=by kernel_rfl
theorem c38:Go.Proofs.Tryz.prog.cellsOf 38=2:=by kernel_rfl
theorem c40:Go.Proofs.Tryz.prog.cellsOf 40=9:=by kernel_rfl
theorem c56:Go.Proofs.Tryz.prog.cellsOf 56=3:=by kernel_rfl
theorem c50:Go.Proofs.Tryz.prog.cellsOf 50=1:=by kernel_rfl
theorem c68:Go.Proofs.Tryz.prog.cellsOf 68=6:=by kernel_rfl
theorem c85:Go.Proofs.Tryz.prog.cellsOf 85=4:=by kernel_rfl
theorem c69:Go.Proofs.Tryz.prog.cellsOf 69=1:=by kernel_rfl
theorem c71:Go.Proofs.Tryz.prog.cellsOf 71=10:=by kernel_rfl
theorem rdP {α β:Type}(ra:Rp α)(rb:Rp β){σ:S}{cs:List Value}{a:α}{b:β}(o s:Nat)(h1:ra.cells σ a ((cs.drop o).take s))(h2:rb.cells σ b (cs.drop (o+s))):(y4 ra rb).cells σ (a,b) (cs.drop o) :=
 ⟨_,_,by rw [<- List.drop_drop]; exact (List.take_append_drop s (cs.drop o)).symm,h1,h2⟩
theorem rdE {α:Type}(ra:Rp α){σ:S}{cs:List Value}{a:α}(o s:Nat)(hl:cs.length=o+s)(h1:ra.cells σ a ((cs.drop o).take s)):ra.cells σ a (cs.drop o):=by
 rwa [List.take_of_length_le (by rw [List.length_drop]; omega)] at h1
theorem ln2 {α:Type}{l:List α}(h:l.length=2):∃ a0 a1,l=[a0,a1]:=by
 match l,h with
 | [a0,a1],_=>exact ⟨a0,a1,rfl⟩
theorem ln3 {α:Type}{l:List α}(h:l.length=3):∃ a0 a1 a2,l=[a0,a1,a2]:=by
 match l,h with
 | [a0,a1,a2],_=>exact ⟨a0,a1,a2,rfl⟩
theorem ln5 {α:Type}{l:List α}(h:l.length=5):∃ a0 a1 a2 a3 a4,l=[a0,a1,a2,a3,a4]:=by
 match l,h with
 | [a0,a1,a2,a3,a4],_=>exact ⟨a0,a1,a2,a3,a4,rfl⟩
theorem ln8 {α:Type}{l:List α}(h:l.length=8):∃ a0 a1 a2 a3 a4 a5 a6 a7,l=[a0,a1,a2,a3,a4,a5,a6,a7]:=by
 match l,h with
 | [a0,a1,a2,a3,a4,a5,a6,a7],_=>exact ⟨a0,a1,a2,a3,a4,a5,a6,a7,rfl⟩
section
variable {H:Type}{enc:TypeId×Value->H}{w:World}{base:Nat}{spare:Nat->Bool}{held:Bool}
theorem b4e {n:Nat}{cs:List Value}{x:DataW H×List MemPlace}(h:DataW.trod enc Go.Proofs.Tryz.prog w base spare held n 3 cs=some x):∃ d:Int,(rpK .i64).cells (a0g w) d cs/\a2f d<=Rows.uptoBulk x.1:=by
 obtain ⟨k,e0,rfl,_⟩:=DataW.trod_int Go.Proofs.Tryz.underlying3 h
 exact ⟨k,e0,by simp [a2f,Rows.uptoBulk]⟩
theorem b3D {n:Nat}{cs:List Value}{x:DataW H×List MemPlace}(h:DataW.trod enc Go.Proofs.Tryz.prog w base spare held n 22 cs=some x):∃ d:List Int,(@rpList _ (rpK .i64)).cells (a0g w) d cs/\a20 d<=Rows.uptoBulk x.1:=by
 obtain ⟨ds,A,c,e,hs,hb⟩:=@a10 _ _ _ _ _ _ _ Int (rpK .i64) _ _ _ _ _ Go.Proofs.Tryz.underlying22 c3 a2f (fun n cs x _ h=>b4e h) h
 exact ⟨ds,⟨A,c,e,hs⟩,hb⟩
theorem c2z {n:Nat}{cs:List Value}{x:DataW H×List MemPlace}(h:DataW.trod enc Go.Proofs.Tryz.prog w base spare held n 2 cs=some x):∃ d:Int,(rpK .i64).cells (a0g w) d cs/\a2f d<=Rows.uptoBulk x.1:=by
 obtain ⟨k,e0,rfl,_⟩:=DataW.trod_int Go.Proofs.Tryz.underlying2 h
 exact ⟨k,e0,by simp [a2f,Rows.uptoBulk]⟩
theorem c2M {n:Nat}{cs:List Value}{x:DataW H×List MemPlace}(h:DataW.trod enc Go.Proofs.Tryz.prog w base spare held n 277 cs=some x):∃ d:Api_Range,(V0).cells (a0g w) d cs/\a4F d<=Rows.uptoBulk x.1:=by
 obtain ⟨xs,m,rfl,rfl,hl,hx,hf⟩:=DataW.trod_struct Go.Proofs.Tryz.underlying277 h
 rw [c24] at hl
 have hx:xs.length=2:=hx
 obtain ⟨x0,x1,rfl⟩:=ln2 hx
 have f0:DataW.trod enc Go.Proofs.Tryz.prog w base spare held m 2 ((cs.drop 0).take (Go.Proofs.Tryz.prog.cellsOf 2))=[x0,x1][0]?:=hf 0 _ rfl
 rw [c2] at f0
 obtain ⟨d0,e0,b0⟩:=c2z (x:=x0) f0
 have f1:DataW.trod enc Go.Proofs.Tryz.prog w base spare held m 2 ((cs.drop 1).take (Go.Proofs.Tryz.prog.cellsOf 2))=[x0,x1][1]?:=hf 1 _ rfl
 rw [c2] at f1
 obtain ⟨d1,e1,b1⟩:=c2z (x:=x1) f1
 refine ⟨⟨d0,d1⟩,rdP (rpK .i64) (rpK .i64) 0 1 e0 (rdE (rpK .i64) 1 1 hl e1),?_⟩
 simp only [a4F,Rows.uptoBulk,Rows.uptoBulkAll,List.map_cons,List.map_nil]
 omega
theorem c3w {n:Nat}{cs:List Value}{x:DataW H×List MemPlace}(h:DataW.trod enc Go.Proofs.Tryz.prog w base spare held n 36 cs=some x):∃ d:List Api_Range,(@rpList _ (V0)).cells (a0g w) d cs/\a8O d<=Rows.uptoBulk x.1:=by
 obtain ⟨ds,A,c,e,hs,hb⟩:=@a10 _ _ _ _ _ _ _ Api_Range (V0) _ _ _ _ _ Go.Proofs.Tryz.underlying36 c24 a4F (fun n cs x _ h=>c2M h) h
 exact ⟨ds,⟨A,c,e,hs⟩,hb⟩
theorem c2u {n:Nat}{cs:List Value}{x:DataW H×List MemPlace}(h:DataW.trod enc Go.Proofs.Tryz.prog w base spare held n 4 cs=some x):∃ d:Bool,(rpBool).cells (a0g w) d cs/\b09 d<=Rows.uptoBulk x.1:=by
 obtain ⟨k,e0,rfl⟩:=DataW.trod_bool Go.Proofs.Tryz.underlying4 h
 exact ⟨k,e0,by simp [b09,Rows.uptoBulk]⟩
theorem c4Y {n:Nat}{cs:List Value}{x:DataW H×List MemPlace}(h:DataW.trod enc Go.Proofs.Tryz.prog w base spare held n 9 cs=some x):∃ d:ByteArray,(rpStr).cells (a0g w) d cs/\a1r d<=Rows.uptoBulk x.1:=by
 obtain ⟨s,rfl,rfl,_⟩:=DataW.trod_string Go.Proofs.Tryz.underlying9 h
 refine ⟨s,rfl,?_⟩
 simp only [Rows.uptoBulk,a1r]
 have:s.data.toList.length=s.size:=b7I s
 omega
theorem b8G {n:Nat}{cs:List Value}{x:DataW H×List MemPlace}(h:DataW.trod enc Go.Proofs.Tryz.prog w base spare held n 31 cs=some x):∃ d:List ByteArray,(@rpList _ (rpStr)).cells (a0g w) d cs/\a9v d<=Rows.uptoBulk x.1:=by
 obtain ⟨ds,A,c,e,hs,hb⟩:=@a10 _ _ _ _ _ _ _ ByteArray (rpStr) _ _ _ _ _ Go.Proofs.Tryz.underlying31 c9 a1r (fun n cs x _ h=>c4Y h) h
 exact ⟨ds,⟨A,c,e,hs⟩,hb⟩
theorem c4e {n:Nat}{cs:List Value}{x:DataW H×List MemPlace}(h:DataW.trod enc Go.Proofs.Tryz.prog w base spare held n 38 cs=some x):∃ d:Api_Names,(a0e).cells (a0g w) d cs/\a6N d<=Rows.uptoBulk x.1:=by
 obtain ⟨xs,m,rfl,rfl,hl,hx,hf⟩:=DataW.trod_struct Go.Proofs.Tryz.underlying38 h
 rw [c38] at hl
 have hx:xs.length=2:=hx
 obtain ⟨x0,x1,rfl⟩:=ln2 hx
 have f0:DataW.trod enc Go.Proofs.Tryz.prog w base spare held m 4 ((cs.drop 0).take (Go.Proofs.Tryz.prog.cellsOf 4))=[x0,x1][0]?:=hf 0 _ rfl
 rw [c4] at f0
 obtain ⟨d0,e0,b0⟩:=c2u (x:=x0) f0
 have f1:DataW.trod enc Go.Proofs.Tryz.prog w base spare held m 31 ((cs.drop 1).take (Go.Proofs.Tryz.prog.cellsOf 31))=[x0,x1][1]?:=hf 1 _ rfl
 rw [c31] at f1
 obtain ⟨d1,e1,b1⟩:=b8G (x:=x1) f1
 refine ⟨⟨d0,d1⟩,rdP (rpBool) (@rpList _ (rpStr)) 0 1 e0 (rdE (@rpList _ (rpStr)) 1 1 hl e1),?_⟩
 simp only [a6N,Rows.uptoBulk,Rows.uptoBulkAll,List.map_cons,List.map_nil]
 omega
theorem c4b {n:Nat}{cs:List Value}{x:DataW H×List MemPlace}(h:DataW.trod enc Go.Proofs.Tryz.prog w base spare held n 40 cs=some x):∃ d:Api_Line,(a3M).cells (a0g w) d cs/\a7V d<=Rows.uptoBulk x.1:=by
 obtain ⟨xs,m,rfl,rfl,hl,hx,hf⟩:=DataW.trod_struct Go.Proofs.Tryz.underlying40 h
 rw [c40] at hl
 have hx:xs.length=8:=hx
 obtain ⟨x0,x1,x2,x3,x4,x5,x6,x7,rfl⟩:=ln8 hx
 have f0:DataW.trod enc Go.Proofs.Tryz.prog w base spare held m 3 ((cs.drop 0).take (Go.Proofs.Tryz.prog.cellsOf 3))=[x0,x1,x2,x3,x4,x5,x6,x7][0]?:=hf 0 _ rfl
 rw [c3] at f0
 obtain ⟨d0,e0,b0⟩:=b4e (x:=x0) f0
 have f1:DataW.trod enc Go.Proofs.Tryz.prog w base spare held m 3 ((cs.drop 1).take (Go.Proofs.Tryz.prog.cellsOf 3))=[x0,x1,x2,x3,x4,x5,x6,x7][1]?:=hf 1 _ rfl
 rw [c3] at f1
 obtain ⟨d1,e1,b1⟩:=b4e (x:=x1) f1
 have f2:DataW.trod enc Go.Proofs.Tryz.prog w base spare held m 36 ((cs.drop 2).take (Go.Proofs.Tryz.prog.cellsOf 36))=[x0,x1,x2,x3,x4,x5,x6,x7][2]?:=hf 2 _ rfl
 rw [c36] at f2
 obtain ⟨d2,e2,b2⟩:=c3w (x:=x2) f2
 have f3:DataW.trod enc Go.Proofs.Tryz.prog w base spare held m 38 ((cs.drop 3).take (Go.Proofs.Tryz.prog.cellsOf 38))=[x0,x1,x2,x3,x4,x5,x6,x7][3]?:=hf 3 _ rfl
 rw [c38] at f3
 obtain ⟨d3,e3,b3⟩:=c4e (x:=x3) f3
 have f4:DataW.trod enc Go.Proofs.Tryz.prog w base spare held m 22 ((cs.drop 5).take (Go.Proofs.Tryz.prog.cellsOf 22))=[x0,x1,x2,x3,x4,x5,x6,x7][4]?:=hf 4 _ rfl
 rw [c22] at f4
 obtain ⟨d4,e4,b4⟩:=b3D (x:=x4) f4
 have f5:DataW.trod enc Go.Proofs.Tryz.prog w base spare held m 22 ((cs.drop 6).take (Go.Proofs.Tryz.prog.cellsOf 22))=[x0,x1,x2,x3,x4,x5,x6,x7][5]?:=hf 5 _ rfl
 rw [c22] at f5
 obtain ⟨d5,e5,b5⟩:=b3D (x:=x5) f5
 have f6:DataW.trod enc Go.Proofs.Tryz.prog w base spare held m 31 ((cs.drop 7).take (Go.Proofs.Tryz.prog.cellsOf 31))=[x0,x1,x2,x3,x4,x5,x6,x7][6]?:=hf 6 _ rfl
 rw [c31] at f6
 obtain ⟨d6,e6,b6⟩:=b8G (x:=x6) f6
 have f7:DataW.trod enc Go.Proofs.Tryz.prog w base spare held m 31 ((cs.drop 8).take (Go.Proofs.Tryz.prog.cellsOf 31))=[x0,x1,x2,x3,x4,x5,x6,x7][7]?:=hf 7 _ rfl
 rw [c31] at f7
 obtain ⟨d7,e7,b7⟩:=b8G (x:=x7) f7
 refine ⟨⟨d0,d1,d2,d3,d4,d5,d6,d7⟩,rdP (rpK .i64) (y4 (rpK .i64) (y4 (@rpList _ (V0)) (y4 (a0e) (y4 (@rpList _ (rpK .i64)) (y4 (@rpList _ (rpK .i64)) (y4 (@rpList _ (rpStr)) (@rpList _ (rpStr)))))))) 0 1 e0 (rdP (rpK .i64) (y4 (@rpList _ (V0)) (y4 (a0e) (y4 (@rpList _ (rpK .i64)) (y4 (@rpList _ (rpK .i64)) (y4 (@rpList _ (rpStr)) (@rpList _ (rpStr))))))) 1 1 e1 (rdP (@rpList _ (V0)) (y4 (a0e) (y4 (@rpList _ (rpK .i64)) (y4 (@rpList _ (rpK .i64)) (y4 (@rpList _ (rpStr)) (@rpList _ (rpStr)))))) 2 1 e2 (rdP (a0e) (y4 (@rpList _ (rpK .i64)) (y4 (@rpList _ (rpK .i64)) (y4 (@rpList _ (rpStr)) (@rpList _ (rpStr))))) 3 2 e3 (rdP (@rpList _ (rpK .i64)) (y4 (@rpList _ (rpK .i64)) (y4 (@rpList _ (rpStr)) (@rpList _ (rpStr)))) 5 1 e4 (rdP (@rpList _ (rpK .i64)) (y4 (@rpList _ (rpStr)) (@rpList _ (rpStr))) 6 1 e5 (rdP (@rpList _ (rpStr)) (@rpList _ (rpStr)) 7 1 e6 (rdE (@rpList _ (rpStr)) 8 1 hl e7))))))),?_⟩
 simp only [a7V,Rows.uptoBulk,Rows.uptoBulkAll,List.map_cons,List.map_nil]
 omega
theorem c3t {n:Nat}{cs:List Value}{x:DataW H×List MemPlace}(h:DataW.trod enc Go.Proofs.Tryz.prog w base spare held n 83 cs=some x):∃ d:Key,(rpKey).cells (a0g w) d cs/\a35 d<=Rows.uptoBulk x.1:=by
 exact c0X h
theorem c4i {n:Nat}{cs:List Value}{x:DataW H×List MemPlace}(h:DataW.trod enc Go.Proofs.Tryz.prog w base spare held n 29 cs=some x):∃ d:List Key,(@rpList _ (rpKey)).cells (a0g w) d cs/\b6g d<=Rows.uptoBulk x.1:=by
 obtain ⟨ds,A,c,e,hs,hb⟩:=@a10 _ _ _ _ _ _ _ Key (rpKey) _ _ _ _ _ Go.Proofs.Tryz.underlying29 c83 a35 (fun n cs x _ h=>c3t h) h
 exact ⟨ds,⟨A,c,e,hs⟩,hb⟩
theorem b5s {n:Nat}{cs:List Value}{x:DataW H×List MemPlace}(h:DataW.trod enc Go.Proofs.Tryz.prog w base spare held n 56 cs=some x):∃ d:Api_Goal,(j6).cells (a0g w) d cs/\a14 d<=Rows.uptoBulk x.1:=by
 obtain ⟨xs,m,rfl,rfl,hl,hx,hf⟩:=DataW.trod_struct Go.Proofs.Tryz.underlying56 h
 rw [c56] at hl
 have hx:xs.length=3:=hx
 obtain ⟨x0,x1,x2,rfl⟩:=ln3 hx
 have f0:DataW.trod enc Go.Proofs.Tryz.prog w base spare held m 22 ((cs.drop 0).take (Go.Proofs.Tryz.prog.cellsOf 22))=[x0,x1,x2][0]?:=hf 0 _ rfl
 rw [c22] at f0
 obtain ⟨d0,e0,b0⟩:=b3D (x:=x0) f0
 have f1:DataW.trod enc Go.Proofs.Tryz.prog w base spare held m 22 ((cs.drop 1).take (Go.Proofs.Tryz.prog.cellsOf 22))=[x0,x1,x2][1]?:=hf 1 _ rfl
 rw [c22] at f1
 obtain ⟨d1,e1,b1⟩:=b3D (x:=x1) f1
 have f2:DataW.trod enc Go.Proofs.Tryz.prog w base spare held m 4 ((cs.drop 2).take (Go.Proofs.Tryz.prog.cellsOf 4))=[x0,x1,x2][2]?:=hf 2 _ rfl
 rw [c4] at f2
 obtain ⟨d2,e2,b2⟩:=c2u (x:=x2) f2
 refine ⟨⟨d0,d1,d2⟩,rdP (@rpList _ (rpK .i64)) (y4 (@rpList _ (rpK .i64)) (rpBool)) 0 1 e0 (rdP (@rpList _ (rpK .i64)) (rpBool) 1 1 e1 (rdE (rpBool) 2 1 hl e2)),?_⟩
 simp only [a14,Rows.uptoBulk,Rows.uptoBulkAll,List.map_cons,List.map_nil]
 omega
theorem c3L {n:Nat}{cs:List Value}{x:DataW H×List MemPlace}(h:DataW.trod enc Go.Proofs.Tryz.prog w base spare held n 50 cs=some x):∃ d:List Api_Goal,(@rpList _ (j6)).cells (a0g w) d cs/\a9J d<=Rows.uptoBulk x.1:=by
 obtain ⟨ds,A,c,e,hs,hb⟩:=@a10 _ _ _ _ _ _ _ Api_Goal (j6) _ _ _ _ _ Go.Proofs.Tryz.underlying50 c56 a14 (fun n cs x _ h=>b5s h) h
 exact ⟨ds,⟨A,c,e,hs⟩,hb⟩
theorem c3O {n:Nat}{cs:List Value}{x:DataW H×List MemPlace}(h:DataW.trod enc Go.Proofs.Tryz.prog w base spare held n 68 cs=some x):∃ d:Api_Goal×Api_Goal,(y4 (j6) (j6)).cells (a0g w) d cs/\a47 d<=Rows.uptoBulk x.1:=by
 obtain ⟨xs,m,rfl,rfl,hl,hx,hf⟩:=DataW.trod_array Go.Proofs.Tryz.underlying68 h
 rw [c68] at hl
 have hx:xs.length=2:=hx
 obtain ⟨x0,x1,rfl⟩:=ln2 hx
 rw [c56] at hf
 have f0:DataW.trod enc Go.Proofs.Tryz.prog w base spare held m 56 ((cs.drop 0).take 3)=[x0,x1][0]?:=hf 0 (by decide)
 obtain ⟨d0,e0,b0⟩:=b5s (x:=x0) f0
 have f1:DataW.trod enc Go.Proofs.Tryz.prog w base spare held m 56 ((cs.drop 3).take 3)=[x0,x1][1]?:=hf 1 (by decide)
 obtain ⟨d1,e1,b1⟩:=b5s (x:=x1) f1
 refine ⟨(d0,d1),rdP (j6) (j6) 0 3 e0 (rdE (j6) 3 3 hl e1),?_⟩
 simp only [a47,Rows.uptoBulk,Rows.uptoBulkAll,List.map_cons,List.map_nil]
 omega
theorem c3P {n:Nat}{cs:List Value}{x:DataW H×List MemPlace}(h:DataW.trod enc Go.Proofs.Tryz.prog w base spare held n 85 cs=some x):∃ d:Api_SomeKey,(Q0).cells (a0g w) d cs/\a3o d<=Rows.uptoBulk x.1:=by
 obtain ⟨xs,m,rfl,rfl,hl,hx,hf⟩:=DataW.trod_struct Go.Proofs.Tryz.underlying85 h
 rw [c85] at hl
 have hx:xs.length=2:=hx
 obtain ⟨x0,x1,rfl⟩:=ln2 hx
 have f0:DataW.trod enc Go.Proofs.Tryz.prog w base spare held m 3 ((cs.drop 0).take (Go.Proofs.Tryz.prog.cellsOf 3))=[x0,x1][0]?:=hf 0 _ rfl
 rw [c3] at f0
 obtain ⟨d0,e0,b0⟩:=b4e (x:=x0) f0
 have f1:DataW.trod enc Go.Proofs.Tryz.prog w base spare held m 56 ((cs.drop 1).take (Go.Proofs.Tryz.prog.cellsOf 56))=[x0,x1][1]?:=hf 1 _ rfl
 rw [c56] at f1
 obtain ⟨d1,e1,b1⟩:=b5s (x:=x1) f1
 refine ⟨⟨d0,d1⟩,rdP (rpK .i64) (j6) 0 1 e0 (rdE (j6) 1 3 hl e1),?_⟩
 simp only [a3o,Rows.uptoBulk,Rows.uptoBulkAll,List.map_cons,List.map_nil]
 omega
theorem c3V {n:Nat}{cs:List Value}{x:DataW H×List MemPlace}(h:DataW.trod enc Go.Proofs.Tryz.prog w base spare held n 69 cs=some x):∃ d:List Api_SomeKey,(@rpList _ (Q0)).cells (a0g w) d cs/\a67 d<=Rows.uptoBulk x.1:=by
 obtain ⟨ds,A,c,e,hs,hb⟩:=@a10 _ _ _ _ _ _ _ Api_SomeKey (Q0) _ _ _ _ _ Go.Proofs.Tryz.underlying69 c85 a3o (fun n cs x _ h=>c3P h) h
 exact ⟨ds,⟨A,c,e,hs⟩,hb⟩
theorem c3M {n:Nat}{cs:List Value}{x:DataW H×List MemPlace}(h:DataW.trod enc Go.Proofs.Tryz.prog w base spare held n 71 cs=some x):∃ d:Api_Shape,(a27).cells (a0g w) d cs/\a6D d<=Rows.uptoBulk x.1:=by
 obtain ⟨xs,m,rfl,rfl,hl,hx,hf⟩:=DataW.trod_struct Go.Proofs.Tryz.underlying71 h
 rw [c71] at hl
 have hx:xs.length=5:=hx
 obtain ⟨x0,x1,x2,x3,x4,rfl⟩:=ln5 hx
 have f0:DataW.trod enc Go.Proofs.Tryz.prog w base spare held m 29 ((cs.drop 0).take (Go.Proofs.Tryz.prog.cellsOf 29))=[x0,x1,x2,x3,x4][0]?:=hf 0 _ rfl
 rw [c29] at f0
 obtain ⟨d0,e0,b0⟩:=c4i (x:=x0) f0
 have f1:DataW.trod enc Go.Proofs.Tryz.prog w base spare held m 22 ((cs.drop 1).take (Go.Proofs.Tryz.prog.cellsOf 22))=[x0,x1,x2,x3,x4][1]?:=hf 1 _ rfl
 rw [c22] at f1
 obtain ⟨d1,e1,b1⟩:=b3D (x:=x1) f1
 have f2:DataW.trod enc Go.Proofs.Tryz.prog w base spare held m 50 ((cs.drop 2).take (Go.Proofs.Tryz.prog.cellsOf 50))=[x0,x1,x2,x3,x4][2]?:=hf 2 _ rfl
 rw [c50] at f2
 obtain ⟨d2,e2,b2⟩:=c3L (x:=x2) f2
 have f3:DataW.trod enc Go.Proofs.Tryz.prog w base spare held m 68 ((cs.drop 3).take (Go.Proofs.Tryz.prog.cellsOf 68))=[x0,x1,x2,x3,x4][3]?:=hf 3 _ rfl
 rw [c68] at f3
 obtain ⟨d3,e3,b3⟩:=c3O (x:=x3) f3
 have f4:DataW.trod enc Go.Proofs.Tryz.prog w base spare held m 69 ((cs.drop 9).take (Go.Proofs.Tryz.prog.cellsOf 69))=[x0,x1,x2,x3,x4][4]?:=hf 4 _ rfl
 rw [c69] at f4
 obtain ⟨d4,e4,b4⟩:=c3V (x:=x4) f4
 refine ⟨⟨d0,d1,d2,d3,d4⟩,rdP (@rpList _ (rpKey)) (y4 (@rpList _ (rpK .i64)) (y4 (@rpList _ (j6)) (y4 (y4 (j6) (j6)) (@rpList _ (Q0))))) 0 1 e0 (rdP (@rpList _ (rpK .i64)) (y4 (@rpList _ (j6)) (y4 (y4 (j6) (j6)) (@rpList _ (Q0)))) 1 1 e1 (rdP (@rpList _ (j6)) (y4 (y4 (j6) (j6)) (@rpList _ (Q0))) 2 1 e2 (rdP (y4 (j6) (j6)) (@rpList _ (Q0)) 3 6 e3 (rdE (@rpList _ (Q0)) 9 1 hl e4)))),?_⟩
 simp only [a6D,Rows.uptoBulk,Rows.uptoBulkAll,List.map_cons,List.map_nil]
 omega
end
end Go.Pl
end

/- Part 4. -/
import Derived.Test.YtlhfnodjomobiaaGreatDoorK2
import Derived.Test.YtlhfnodjomobiaaGreatDoorK3
import Derived.BigCall
import Derived.KernelRfl
import Derived.Shelf.Lays
import Derived.Shelf.SlLaysF0
import Derived.Shelf.Strings.Builder1
import Derived.Test.YtlhfnodjomobiaaGreatDoorProg
import Derived.WalkKit
section
namespace Go.Pl
open Go Go.RowKit Go.Sx Go.Qx
def inR (N:Nat)(k:Int):Bool:=decide (0<=k)&&decide (k<(N:Int))
def a5V (N:Nat)(l:List Api_Field):Bool:=asc cK (l.map (·.Key_))&&(l.all (fun f=>a0b f.Key_)&&l.all fun f=>inR N f.Node)
def a44 (N:Nat)(x:Api_TypeNode):Bool :=
 if x.Kind=3 then x.Kids.isEmpty&&decide (x.Lo<=x.Hi) else if x.Kind=4 then x.Kids.isEmpty&&decide ((x.Text.size:Int)<=64) else
 if x.Kind=6 then x.Kids.isEmpty&&a3M x.Text else if x.Kind=19 then x.Kids.isEmpty&&a49 x.Text else
 if x.Kind=1\/x.Kind=2\/x.Kind=5\/x.Kind=7\/x.Kind=8\/x.Kind=9\/x.Kind=11\/x.Kind=15 then x.Kids.isEmpty else
 if x.Kind=10 then decide ((x.Kids.length:Int)<=4) else if x.Kind=12 then (x.Kids.length:Int)==2 else
 if x.Kind=14 then decide (1<=(x.Kids.length:Int))&&decide ((x.Kids.length:Int)<=5) else
 if x.Kind=16\/x.Kind=17 then decide (1<=(x.Kids.length:Int)) else if x.Kind=18 then (x.Kids.length:Int)==1 else
 if x.Kind=13 then a5V N x.Fields&&(x.Kids.isEmpty&&(inR N x.Rest.1&&inR N x.Rest.2)) else false
def a43 (r:Int×Int):Bool:=r.1==0&&r.2==0
def X6 (N:Nat)(x:Api_TypeNode):Bool :=
 x.Kids.all (inR N)&&((x.Kind==3||(x.Lo==0&&x.Hi==0))&&((x.Kind==4||x.Kind==6||x.Kind==19||J5 x.Text ⟨#[]⟩)&&((x.Kind==13||(x.Fields.isEmpty&&a43 x.Rest))&&a44 N x)))
theorem c30 {α:Type}(l:List α):((l.length:Int)==0)=l.isEmpty:=by cases l<;>simp<;>omega
theorem c4A (r:Int×Int):b0G r (0,0)=a43 r:=by unfold b0G a43; simp
theorem b0K (t:Api_Type)(k:Int):W6 t k=some (inR t.Nodes.length k):=by
 unfold W6 inR
 cases decide (0<=k)<;>rfl
theorem a0h {i n:Nat}(h:i<n):decide ((i:Int)<(n:Int))=true:=decide_eq_true (by omega)
theorem d0K (q:Api_Field->Bool)(l:List Api_Field):(List.range l.length).all (b3i (fun a b=>cK a.Key_ b.Key_) q l)=(asc cK (l.map (·.Key_))&&l.all q):=by
 rw [c5a]
 congr 1
 rw [Bool.eq_iff_iff,b8I,b8I]
 constructor
 ·intro h i h1 hi
  have:=h i h1 (by simpa using hi)
  simpa using this
 ·intro h i h1 hi
  have:=h i h1 (by simpa using hi)
  simpa using this
theorem c33 {step:Int->Option (Fl Int (Sum Unit Bool))}(q:Api_Field->Bool)(l:List Api_Field)
 (hst:∀ (i:Nat) (x:Api_Field),l[i]?=some x->step (i:Int)=some (if b3i (fun a b=>cK a.Key_ b.Key_) q l i=true then .next ((i+1:Nat):Int) else .done (.inr false)))
 (hend:step (l.length:Int)=some (.done (.inl ()))):y9 step (l.length+1) 0=some (if (asc cK (l.map (·.Key_))&&l.all q)=true then .inl () else .inr false):=by
 have:=b8g (step:=step) (fun a b:Api_Field=>cK a.Key_ b.Key_) q l false hst hend
 rw [<- c5a,d0K] at this
 exact this
theorem c3Q (t:Api_Type)(x:Api_TypeNode)(hk:x.Kids.length<=4194304)(hf:x.Fields.length<=4194304):a4C t x=some (X6 t.Nodes.length x):=by
 have l1:y9 (a3k t x) (x.Kids.length+1) 0=some (if x.Kids.all (inR t.Nodes.length)=true then .inl () else .inr false):=by
  refine a1O x.Kids (inR t.Nodes.length) (fun i=>(i:Int)) () false ?_ ?_
  ·intro i k hx
   have hi:i<x.Kids.length:=(List.getElem?_eq_some_iff.1 hx).1
   unfold a3k
   rw [a0h hi,Y5 hx]
   simp only [cond_true,Option.bind_some,b0K,J9]
   rw [Y3 i (by omega)]
   exact b4m _ _
  ·unfold a3k
   simp
 have l2:y9 (a3m t x) (x.Fields.length+1) 0=some (if (asc cK (x.Fields.map (·.Key_))&&x.Fields.all fun f=>inR t.Nodes.length f.Node&&a0b f.Key_)=true then .inl () else .inr false):=by
  refine c33 (fun f=>inR t.Nodes.length f.Node&&a0b f.Key_) x.Fields ?_ ?_
  ·intro i f hx
   have hi:i<x.Fields.length:=(List.getElem?_eq_some_iff.1 hx).1
   unfold a3m
   rw [a0h hi,Y5 hx]
   simp only [cond_true,Option.bind_some,b0K,b55,J9,a5e]
   have hq:(Option.bind (bif !inR t.Nodes.length f.Node then some true else some (!a0b f.Key_)) fun q=>some q)=some (!(inR t.Nodes.length f.Node&&a0b f.Key_)):=by
    cases inR t.Nodes.length f.Node<;>cases a0b f.Key_<;>rfl
   rw [a5e] at hq
   rw [hq]
   simp only [Option.bind_some]
   refine b4z (fun a b:Api_Field=>cK a.Key_ b.Key_) (fun f=>inR t.Nodes.length f.Node&&a0b f.Key_) x.Fields i f hx (by omega) (fun h=>by rw [h]; rfl) (fun h h0=>by subst h0; rw [h]; rfl) (fun h j y hj hy hiy=>?_)
   subst hj
   rw [h,hiy,c4V]
   simp only [Bool.not_true,cond_false,cond_true,Option.bind_some,a8Q]
   by_cases hc:cK y.Key_ f.Key_<0
   ·have:¬ 0<=cK y.Key_ f.Key_:=by omega
    simp [hc,this]
   ·have:0<=cK y.Key_ f.Key_:=by omega
    simp [hc,this]
  ·unfold a3m
   simp
 unfold a4C
 simp only [X7,a5e,b0K,c4A,b2H,c01,c30,c2D]
 rw [l1,l2]
 unfold X6
 cases x.Kids.all (inR t.Nodes.length)
 ·rfl
 simp only [Option.bind_some,if_true,j9]
 have hF:(asc cK (x.Fields.map (·.Key_))&&x.Fields.all fun f=>inR t.Nodes.length f.Node&&a0b f.Key_)=a5V t.Nodes.length x.Fields:=by
  unfold a5V
  congr 1
  rw [Bool.eq_iff_iff,Bool.and_eq_true,List.all_eq_true,List.all_eq_true,List.all_eq_true]
  simp only [Bool.and_eq_true]
  exact ⟨fun h=>⟨fun f hf=>(h f hf).2,fun f hf=>(h f hf).1⟩,fun h f hf=>⟨h.2 f hf,h.1 f hf⟩⟩
 rw [hF]
 unfold a44
 simp only [bne]
 generalize a5V t.Nodes.length x.Fields=A
 generalize inR t.Nodes.length x.Rest.1=B
 generalize inR t.Nodes.length x.Rest.2=C
 generalize a43 x.Rest=D
 generalize x.Fields.isEmpty=E
 generalize J5 x.Text ⟨#[]⟩=G
 generalize (x.Lo==0)=H
 generalize (x.Hi==0)=J
 generalize x.Kids.isEmpty=M
 generalize a3M x.Text=O
 generalize a49 x.Text=Q
 generalize decide (x.Lo<=x.Hi)=R
 generalize decide ((x.Text.size:Int)<=64)=T
 generalize decide ((x.Kids.length:Int)<=4)=U
 generalize ((x.Kids.length:Int)==2)=V
 generalize ((x.Kids.length:Int)==1)=W
 generalize decide (1<=(x.Kids.length:Int))=X
 generalize decide ((x.Kids.length:Int)<=5)=Y
 by_cases hk:x.Kind=1\/x.Kind=2\/x.Kind=3\/x.Kind=4\/x.Kind=5\/x.Kind=6\/x.Kind=7\/x.Kind=8\/x.Kind=9\/x.Kind=10\/x.Kind=11\/x.Kind=12\/x.Kind=13\/x.Kind=14\/x.Kind=15\/x.Kind=16\/x.Kind=17\/x.Kind=18\/x.Kind=19
 ·rcases hk with h | h | h | h | h | h | h | h | h | h | h | h | h | h | h | h | h | h | h<;>rw [h]<;>cases G<;>cases H<;>cases J<;>cases E<;>cases D<;>simp
  all_goals first
   | rfl
   | (cases M<;>rfl)
   | (cases X<;>rfl)
   | (cases A<;>cases M<;>cases B<;>rfl)
 ·simp only [not_or] at hk
  obtain ⟨h1,h2,h3,h4,h5,h6,h7,h8,h9,h10,h11,h12,h13,h14,h15,h16,h17,h18,h19⟩:=hk
  have e:∀ {n:Int},¬ x.Kind=n->(x.Kind==n)=false:=fun h=>by simpa using h
  simp only [e h1,e h2,e h3,e h4,e h5,e h6,e h7,e h8,e h9,e h10,e h11,e h12,e h13,e h14,e h15,e h16,e h17,e h18,e h19,if_neg h3,if_neg h4,if_neg h6,if_neg h19,if_neg h10,if_neg h12,if_neg h14,if_neg h18,if_neg h13,h1,h2,h5,h7,h8,h9,h11,h15,h16,h17,or_self,if_false]
  cases G<;>cases H<;>cases J<;>cases E<;>cases D<;>rfl
end Go.Pl
namespace Go.Pl
open Go Go.RowKit Go.Sx Go.Qx
def b7H (x:Api_TypeNode):Bool :=
 (x.Kind==3||(x.Lo==0&&x.Hi==0))&&((x.Kind==4||x.Kind==6||x.Kind==19||J5 x.Text ⟨#[]⟩) &&
   ((x.Kind==10||x.Kind==12||x.Kind==14||x.Kind==16||x.Kind==17||x.Kind==18||x.Kids.isEmpty)&&(x.Kind==13||(x.Fields.isEmpty&&a43 x.Rest))))
def c0X (l:List Api_Field):Bool:=asc cK (l.map (·.Key_))&&l.all fun f=>a0b f.Key_
def b7s (x:Api_TypeNode):Bool :=
 if x.Kind=3 then decide (x.Lo<=x.Hi) else if x.Kind=4 then decide ((x.Text.size:Int)<=64) else
 if x.Kind=6 then a3M x.Text else if x.Kind=19 then a49 x.Text else
 if x.Kind=1\/x.Kind=2\/x.Kind=5\/x.Kind=7\/x.Kind=8\/x.Kind=9\/x.Kind=11\/x.Kind=15 then true else
 if x.Kind=10 then decide ((x.Kids.length:Int)<=4) else if x.Kind=12 then (x.Kids.length:Int)==2 else
 if x.Kind=14 then decide (1<=(x.Kids.length:Int))&&decide ((x.Kids.length:Int)<=5) else
 if x.Kind=16\/x.Kind=17 then decide (1<=(x.Kids.length:Int)) else if x.Kind=18 then (x.Kids.length:Int)==1 else
 if x.Kind=13 then c0X x.Fields else false
def a4K (x:Api_TypeNode):List Int:=x.Kids++x.Fields.map (·.Node)++(if x.Kind=13 then [x.Rest.1,x.Rest.2] else [])
theorem a99 (k:Int):(k=1\/k=2\/k=3\/k=4\/k=5\/k=6\/k=7\/k=8\/k=9\/k=10\/k=11\/k=12\/k=13\/k=14\/k=15\/k=16\/k=17\/k=18\/k=19)\/∀ n:Int,1<=n->n<=19->(k==n)=false:=by
 by_cases h:1<=k/\k<=19
 ·left; omega
 ·right
  intro n h1 h2
  have:k≠n:=by omega
  simpa using this
theorem c8J (x:Api_TypeNode):a3F x=some (b7H x):=by
 unfold a3F b7H
 simp only [a5e,c4A,c30]
 generalize a43 x.Rest=D
 generalize x.Fields.isEmpty=E
 generalize J5 x.Text ⟨#[]⟩=G
 generalize (x.Lo==0)=H
 generalize (x.Hi==0)=J
 generalize x.Kids.isEmpty=M
 rcases a99 x.Kind with h | h
 ·rcases h with h | h | h | h | h | h | h | h | h | h | h | h | h | h | h | h | h | h | h<;>rw [h]<;>cases G<;>cases H<;>cases J<;>cases E<;>cases D<;>cases M<;>rfl
 ·simp only [h 3 (by omega) (by omega),h 4 (by omega) (by omega),h 6 (by omega) (by omega),h 19 (by omega) (by omega),h 10 (by omega) (by omega),h 12 (by omega) (by omega),h 14 (by omega) (by omega),h 16 (by omega) (by omega),h 17 (by omega) (by omega),h 18 (by omega) (by omega),h 13 (by omega) (by omega)]
  cases G<;>cases H<;>cases J<;>cases E<;>cases D<;>cases M<;>rfl
theorem c7E (l:List Api_Field)(hl:l.length<=4194304):a2Q l=some (c0X l):=by
 have l2:y9 (a16 l) (l.length+1) 0=some (if (asc cK (l.map (·.Key_))&&l.all fun f=>a0b f.Key_)=true then .inl () else .inr false):=by
  refine c33 (fun f=>a0b f.Key_) l ?_ ?_
  ·intro i f hx
   have hi:i<l.length:=(List.getElem?_eq_some_iff.1 hx).1
   unfold a16
   rw [a0h hi,Y5 hx]
   simp only [cond_true,Option.bind_some,c5f,J9,a5e]
   refine b4z (fun a b:Api_Field=>cK a.Key_ b.Key_) (fun f=>a0b f.Key_) l i f hx (by omega) (fun h=>by rw [h]; rfl) (fun h h0=>by subst h0; rw [h]; rfl) (fun h j y hj hy hiy=>?_)
   subst hj
   rw [h,hiy,c4V]
   simp only [Bool.not_true,cond_false,cond_true,Option.bind_some,c5t]
   by_cases hc:cK y.Key_ f.Key_<0
   ·have:¬ 0<=cK y.Key_ f.Key_:=by omega
    simp [hc,this]
   ·have:0<=cK y.Key_ f.Key_:=by omega
    simp [hc,this]
  ·unfold a16
   simp
 unfold a2Q c0X
 rw [X7,l2]
 cases (asc cK (l.map (·.Key_))&&l.all fun f=>a0b f.Key_)<;>rfl
theorem c8V (x:Api_TypeNode)(hf:x.Fields.length<=4194304):a3C x=some (b7s x):=by
 unfold a3C b7s
 simp only [a5e,c5X,d1j,c7E x.Fields hf]
 generalize c0X x.Fields=A
 generalize a3M x.Text=O
 generalize a49 x.Text=Q
 generalize decide (x.Lo<=x.Hi)=R
 generalize decide ((x.Text.size:Int)<=64)=T
 generalize decide ((x.Kids.length:Int)<=4)=U
 generalize ((x.Kids.length:Int)==2)=V
 generalize ((x.Kids.length:Int)==1)=W
 generalize decide (1<=(x.Kids.length:Int))=X
 generalize decide ((x.Kids.length:Int)<=5)=Y
 rcases a99 x.Kind with h | h
 ·rcases h with h | h | h | h | h | h | h | h | h | h | h | h | h | h | h | h | h | h | h<;>rw [h]<;>first | rfl | (cases X<;>rfl)
 ·have e:∀ n:Int,1<=n->n<=19->¬ x.Kind=n:=fun n h1 h2=>by simpa using h n h1 h2
  simp only [h 1 (by omega) (by omega),h 2 (by omega) (by omega),h 5 (by omega) (by omega),h 7 (by omega) (by omega),h 8 (by omega) (by omega),h 9 (by omega) (by omega),h 11 (by omega) (by omega),h 15 (by omega) (by omega),h 3 (by omega) (by omega),h 4 (by omega) (by omega),h 6 (by omega) (by omega),h 19 (by omega) (by omega),h 10 (by omega) (by omega),h 12 (by omega) (by omega),h 14 (by omega) (by omega),h 16 (by omega) (by omega),h 17 (by omega) (by omega),h 18 (by omega) (by omega),h 13 (by omega) (by omega),
   e 1 (by omega) (by omega),e 2 (by omega) (by omega),e 5 (by omega) (by omega),e 7 (by omega) (by omega),e 8 (by omega) (by omega),e 9 (by omega) (by omega),e 11 (by omega) (by omega),e 15 (by omega) (by omega),e 3 (by omega) (by omega),e 4 (by omega) (by omega),e 6 (by omega) (by omega),e 19 (by omega) (by omega),e 10 (by omega) (by omega),e 12 (by omega) (by omega),e 14 (by omega) (by omega),e 16 (by omega) (by omega),e 17 (by omega) (by omega),e 18 (by omega) (by omega),e 13 (by omega) (by omega),or_self,if_false]
  rfl
theorem c6b {α β:Type}(f:α->β):∀ (l:List α) (s:List β),l.foldl (fun s x=>s++[f x]) s=s++l.map f
 | [],s=>by simp
 | x::r,s=>by rw [List.foldl_cons,c6b f r]; simp
theorem c8N (x:Api_TypeNode)(hk:x.Kids.length<=1100000)(hf:x.Fields.length<=1100000):a5L x=some (a4K x):=by
 unfold a5L a0l a4K
 rw [W4 (by omega)]
 simp only [Option.bind_some,X7]
 have key:=b7Y (σ:=List Int) (step:=a1V x) x.Fields (fun s i=>(s,(i:Int))) (fun s f=>s++[f.Node]) (fun i s=>s.length<=x.Kids.length+i) (fun s=>s)
  ?_ ?_ x.Kids (by simp) _ (Nat.le_refl _)
 ·have e:y9 (a1V x) (x.Fields.length+1) (x.Kids,0)=y9 (a1V x) (x.Fields.length+1) (x.Kids,((0:Nat):Int)):=rfl
  rw [e,key,c6b]
  simp only [Option.bind_some]
  by_cases h:x.Kind=13
  ·rw [show (x.Kind==13)=true by simpa using h,if_pos h,W4 (by simp only [List.length_append,List.length_map,List.length_cons,List.length_nil]; omega)]
   rfl
  ·rw [show (x.Kind==13)=false by simpa using h,if_neg h,List.append_nil]
   rfl
 ·intro i s f hx hI
  have hi:i<x.Fields.length:=(List.getElem?_eq_some_iff.1 hx).1
  refine ⟨?_,by simp only [List.length_append,List.length_cons,List.length_nil]; omega⟩
  unfold a1V
  simp only [J9]
  rw [a0h hi,Y5 hx]
  simp only [cond_true,Option.bind_some]
  rw [W4 (by simp only [List.length_cons,List.length_nil]; omega),Y3 i (by omega)]
  rfl
 ·intro s _
  unfold a1V
  simp
theorem c7N (N:Nat)(x:Api_TypeNode):(b7H x&&(b7s x&&(a4K x).all (inR N)))=X6 N x:=by
 unfold b7H b7s X6 a44 a4K a5V c0X
 simp only [List.all_append,List.all_map]
 have hE:x.Fields.isEmpty=true->x.Fields=[]:=List.isEmpty_iff.1
 have hM:x.Kids.isEmpty=true->x.Kids=[]:=List.isEmpty_iff.1
 rcases a99 x.Kind with h | h
 ·have hK:x.Kids.isEmpty=true->x.Kids.all (inR N)=true:=fun e=>by rw [hM e]; rfl
  have hF:x.Fields.isEmpty=true->(x.Fields.all (inR N∘fun f=>f.Node))=true:=fun e=>by rw [hE e]; rfl
  have hcomp:(x.Fields.all fun f=>inR N f.Node)=x.Fields.all (inR N∘fun f=>f.Node):=rfl
  rw [hcomp]
  generalize x.Fields.all (inR N∘fun f=>f.Node)=a1 at hF
  generalize x.Kids.all (inR N)=a2 at hK
  generalize x.Fields.isEmpty=E at hF
  generalize x.Kids.isEmpty=M at hK
  generalize a43 x.Rest=D
  generalize J5 x.Text ⟨#[]⟩=G
  generalize (x.Lo==0)=H
  generalize (x.Hi==0)=J
  rcases h with h | h | h | h | h | h | h | h | h | h | h | h | h | h | h | h | h | h | h<;>rw [h]<;>simp <;>
   cases G<;>cases H<;>cases J<;>cases E<;>cases D<;>cases M<;>simp_all
  all_goals first
   | (simp only [Bool.and_assoc]; done)
   | (cases a2<;>simp; done)
 ·have e:∀ n:Int,1<=n->n<=19->¬ x.Kind=n:=fun n h1 h2=>by simpa using h n h1 h2
  simp only [e 1 (by omega) (by omega),e 2 (by omega) (by omega),e 5 (by omega) (by omega),e 7 (by omega) (by omega),e 8 (by omega) (by omega),e 9 (by omega) (by omega),e 11 (by omega) (by omega),e 15 (by omega) (by omega),e 3 (by omega) (by omega),e 4 (by omega) (by omega),e 6 (by omega) (by omega),e 19 (by omega) (by omega),e 10 (by omega) (by omega),e 12 (by omega) (by omega),e 14 (by omega) (by omega),e 16 (by omega) (by omega),e 17 (by omega) (by omega),e 18 (by omega) (by omega),e 13 (by omega) (by omega),or_self,if_false]
  simp
end Go.Pl
namespace Go.Pl
open Go Go.RowKit Go.Sx Go.Qx
def isB (x:Api_TypeNode):Bool:=x.Kind==16||x.Kind==17||x.Kind==18
def d0U (ns:List Api_TypeNode):Prop:=∀ (i:Nat) (x:Api_TypeNode),ns[i]?=some x->isB x=true->∀ k∈x.Kids,(i:Int)<k
def a7f (ns:List Api_TypeNode):Bool:=ns.all (X6 ns.length)
theorem d1J (x:Api_TypeNode):a3G x.Kind=some (isB x):=by
 unfold a3G isB
 cases (x.Kind==16)<;>cases (x.Kind==17)<;>rfl
theorem c1Y (x:Api_TypeNode):a3r x=some (isB x):=by
 unfold a3r isB
 cases (x.Kind==16)<;>cases (x.Kind==17)<;>rfl
theorem a4n {N:Nat}{x:Api_TypeNode}(h:X6 N x=true):∀ k∈x.Kids,inR N k=true:=by
 unfold X6 at h
 simp only [Bool.and_eq_true] at h
 exact List.all_eq_true.1 h.1
theorem a4R {N:Nat}{k:Int}(h:inR N k=true):∃ j:Nat,k=(j:Int)/\j<N:=by
 unfold inR at h
 simp only [Bool.and_eq_true,decide_eq_true_eq] at h
 exact ⟨k.toNat,by omega,by omega⟩
def Rk (ns:List Api_TypeNode)(r:Nat->Nat):Prop:=∀ (i:Nat) (x:Api_TypeNode),ns[i]?=some x->isB x=true->∀ k∈x.Kids,r k.toNat<r i
def Acy (ns:List Api_TypeNode):Prop:=∃ r,Rk ns r
open Classical in
noncomputable def a4V (ns:List Api_TypeNode):Bool:=decide (Acy ns)
theorem b0C {ns:List Api_TypeNode}:a4V ns=true↔Acy ns:=by
 unfold a4V
 classical exact decide_eq_true_iff
theorem d0U.acy {ns:List Api_TypeNode}(h:d0U ns)(hT:a7f ns=true):a4V ns=true :=
 b0C.2 ⟨fun i=>ns.length-i,fun i x hx hb k hk=>by
  obtain ⟨j,rfl,hj⟩:=a4R (a4n (List.all_eq_true.1 hT x (List.mem_of_getElem? hx)) k hk)
  have:=h i x hx hb _ hk
  show ns.length-((j:Int)).toNat<ns.length-i
  rw [Int.toNat_natCast]
  omega⟩
def Gd (ns:List Api_TypeNode)(D:Nat->Prop):Prop:=∃ r:Nat->Nat,∀ (i:Nat) (x:Api_TypeNode),D i->ns[i]?=some x->isB x=true->∀ k∈x.Kids,D k.toNat/\r k.toNat<r i
theorem c52 (r:Nat->Nat):∀ (l:List Int) (k:Int),k∈l->r k.toNat<=(l.map fun k=>r k.toNat).sum
 | [],_,h=>by cases h
 | y::l,k,h=>by
   rw [List.map_cons,List.sum_cons]
   rcases List.mem_cons.1 h with rfl | h
   ·omega
   ·have:=c52 r l k h; omega
theorem Gd.add {ns:List Api_TypeNode}{D D':Nat->Prop}(h:Gd ns D){i:Nat}{x:Api_TypeNode}(hx:ns[i]?=some x)(hk:isB x=true->∀ k∈x.Kids,D k.toNat)(hD:∀ j,D' j↔D j\/j=i):Gd ns D':=by
 obtain ⟨r,hr⟩:=h
 by_cases hi:D i
 ·have e:∀ j,D' j↔D j:=fun j=>(hD j).trans ⟨fun h=>h.elim id (fun h=>by rw [h]; exact hi),.inl⟩
  exact ⟨r,fun j y h1 h2 h3 k h4=>by
   obtain ⟨k1,k2⟩:=hr j y ((e j).1 h1) h2 h3 k h4
   exact ⟨(e _).2 k1,k2⟩⟩
 ·refine ⟨fun j=>if j=i then 1+(x.Kids.map fun k=>r k.toNat).sum else r j,fun j y h1 h2 h3 k h4=>?_⟩
  by_cases hj:j=i
  ·subst hj
   rw [hx] at h2
   cases h2
   have hDk:=hk h3 k h4
   have hne:k.toNat≠j:=fun e=>hi (e▸hDk)
   refine ⟨(hD _).2 (.inl hDk),?_⟩
   simp only [if_neg hne,if_true]
   have:=c52 r x.Kids k h4
   omega
  ·obtain ⟨k1,k2⟩:=hr j y (((hD j).1 h1).resolve_right hj) h2 h3 k h4
   have hne:k.toNat≠i:=fun e=>hi (e▸k1)
   refine ⟨(hD _).2 (.inl k1),?_⟩
   simp only [if_neg hne,if_neg hj]
   exact k2
theorem Gd.acy {ns:List Api_TypeNode}{D:Nat->Prop}(h:Gd ns D)(hD:∀ j,j<ns.length->D j):Acy ns:=by
 obtain ⟨r,hr⟩:=h
 exact ⟨r,fun i x hx hb k hk=>(hr i x (hD i (List.getElem?_eq_some_iff.1 hx).1) hx hb k hk).2⟩
theorem Acy.small {ns:List Api_TypeNode}(h:Acy ns)(hT:a7f ns=true):∃ r,Rk ns r/\∀ i,i<ns.length->r i<ns.length:=by
 obtain ⟨r,hr⟩:=h
 have mono:∀ (l:List Nat) (a b:Nat),a<=b->(l.countP fun j=>decide (j<a))<=l.countP fun j=>decide (j<b):=fun l a b hab =>
  List.countP_mono_left fun x _ hx=>by simp at hx ⊢; omega
 have strict:∀ (l:List Nat) (a b:Nat),a<b->a∈l->(l.countP fun j=>decide (j<a))<l.countP fun j=>decide (j<b):=by
  intro l
  induction l with
  | nil=>intro a b _ h; cases h
  | cons y l ih =>
    intro a b hab hm
    rw [List.countP_cons,List.countP_cons]
    rcases List.mem_cons.1 hm with rfl | hm
    ·have:=mono l a b (by omega)
     simp only [Nat.lt_irrefl,decide_false,hab,decide_true,if_true]
     simp
     omega
    ·have h1:=ih a b hab hm
     by_cases h2:y<a
     ·simp only [h2,show y<b by omega,decide_true,if_true]; omega
     ·simp only [h2,decide_false]
      by_cases h3:y<b<;>simp [h3]<;>omega
 have hlt:∀ (l:List Nat) (a:Nat),a∈l->(l.countP fun j=>decide (j<a))<l.length:=fun l a hm=>by
  have h1:=strict l a (a+1) (by omega) hm
  have h2:(l.countP fun j=>decide (j<a+1))<=l.length:=List.countP_le_length
  omega
 refine ⟨fun i=>((List.range ns.length).map r).countP fun j=>decide (j<r i),fun i x hx hb k hk=>?_,fun i hi=>?_⟩
 ·obtain ⟨j,rfl,hj⟩:=a4R (a4n (List.all_eq_true.1 hT x (List.mem_of_getElem? hx)) k hk)
  exact strict _ _ _ (hr i x hx hb _ hk) (List.mem_map.2 ⟨j,by simpa using hj,by simp⟩)
 ·have:=hlt ((List.range ns.length).map r) (r i) (List.mem_map.2 ⟨i,by simpa using hi,rfl⟩)
  simpa using this
def DF (ns:List Api_TypeNode)(st:List Int)(j:Nat):Prop:=st[j]?=some 2\/∃ x,ns[j]?=some x/\isB x=false
theorem c51:∀ (l:List Int) (i:Nat),l[i]?=some 0->(l.set i 1).count 0+1=l.count 0
 | [],i,h=>by simp at h
 | x::l,0,h=>by
   have:x=0:=by simpa using h
   subst this
   simp
 | x::l,i+1,h=>by
   have:=c51 l i (by simpa using h)
   rw [List.set_cons_succ,List.count_cons,List.count_cons]
   omega
theorem c7v:∀ (l:List Int) (i:Nat),(l.set i 2).count 0<=l.count 0
 | [],i=>by simp
 | x::l,0=>by
   rw [List.set_cons_zero,List.count_cons,List.count_cons]
   simp
 | x::l,i+1=>by
   have:=c7v l i
   rw [List.set_cons_succ,List.count_cons,List.count_cons]
   omega
structure DfsR (ns:List Api_TypeNode)(st st':List Int):Prop where
 len:st'.length=ns.length
 val:∀ (j:Nat) e,st'[j]?=some e->e=0\/e=1\/e=2
 gd:Gd ns (DF ns st')
 opn:∀ j:Nat,st'[j]?=some 1↔st[j]?=some 1
 don:∀ j:Nat,st[j]?=some 2->st'[j]?=some 2
 zer:st'.count 0<=st.count 0
theorem d1g (t:Api_Type)(hT:a7f t.Nodes=true)(hk:∀ x∈t.Nodes,x.Kids.length<=1100000) :
 ∀ (fuel i:Nat) (st:List Int),st.count 0<fuel->i<t.Nodes.length->DfsR t.Nodes st st ->
  ∃ b st',Q2 fuel (i:Int) st t ()=some (b,st')/\(b=true->DfsR t.Nodes st st'/\DF t.Nodes st' i)/\(b=false->∀ r,Rk t.Nodes r->(∀ o:Nat,st[o]?=some 1->r i<r o)->False):=by
 intro fuel
 induction fuel with
 | zero=>intro i st h1; omega
 | succ f ih =>
   intro i st h1 h2 hS
   show ∃ b st',a3f f (Q2 f) (i:Int) st t ()=some (b,st')/\_
   have h3:=hS.len
   have hi:i<st.length:=by omega
   have hst:=List.getElem?_eq_getElem hi
   have hn:=List.getElem?_eq_getElem h2
   generalize st[i]=e at hst
   generalize hx:t.Nodes[i]=x at hn
   have hxm:x∈t.Nodes:=List.mem_of_getElem? hn
   unfold a3f
   simp only [Y5 hst,Y5 hn,Int.toNat_natCast,hst,Option.bind_some,d1J,X7,J9]
   by_cases hq:e=0/\isB x=true
   ·obtain ⟨he,hb⟩:=hq
    subst he
    rw [hb]
    simp only [bne_self_eq_false,cond_false,Bool.not_true,Option.bind_some]
    have hke:=hk x hxm
    have hz:=c51 st i hst
    have hset:∀ j:Nat,(st.set i 1)[j]?=some 1↔st[j]?=some 1\/j=i:=fun j=>by
     by_cases e:i=j
     ·subst e; rw [List.getElem?_set_self hi]; simp
     ·rw [List.getElem?_set_ne e]; exact ⟨.inl,fun h=>h.resolve_right (Ne.symm e)⟩
    have hset2:∀ j:Nat,(st.set i 1)[j]?=some 2↔st[j]?=some 2:=fun j=>by
     by_cases e:i=j
     ·subst e; rw [List.getElem?_set_self hi,hst]; simp
     ·rw [List.getElem?_set_ne e]
    have hS1:DfsR t.Nodes (st.set i 1) (st.set i 1):=by
     refine ⟨by simpa using h3,fun j e hj=>?_,?_,fun _=>Iff.rfl,fun _ h=>h,Nat.le_refl _⟩
     ·by_cases e1:i=j
      ·subst e1; rw [List.getElem?_set_self hi] at hj; simp at hj; omega
      ·rw [List.getElem?_set_ne e1] at hj; exact hS.val j e hj
     ·have e:∀ j,DF t.Nodes (st.set i 1) j↔DF t.Nodes st j:=fun j=>or_congr (hset2 j) Iff.rfl
      obtain ⟨r,hr⟩:=hS.gd
      exact ⟨r,fun j y a1 a2 a3 k a4=>by
       obtain ⟨k1,k2⟩:=hr j y ((e j).1 a1) a2 a3 k a4
       exact ⟨(e _).2 k1,k2⟩⟩
    have key:∀ (m a k:Nat) (s:List Int),a+m=x.Kids.length->m+1<=k->DfsR t.Nodes (st.set i 1) s->(∀ (q:Nat) (y:Int),q<a->x.Kids[q]?=some y->DF t.Nodes s y.toNat) ->
     (∃ s',y9 (Y7 t x (Q2 f)) k ((a:Int),s)=some (.inl s')/\DfsR t.Nodes (st.set i 1) s'/\∀ y∈x.Kids,DF t.Nodes s' y.toNat) \/
     ∃ s',y9 (Y7 t x (Q2 f)) k ((a:Int),s)=some (.inr (false,s'))/\∀ r,Rk t.Nodes r->(∀ o:Nat,st[o]?=some 1->r i<r o)->False:=by
     intro m
     induction m with
     | zero =>
       intro a k s b1 b2 b3 b4
       obtain ⟨k,rfl⟩:∃ m,k=m+1:=⟨k-1,by omega⟩
       have e:a=x.Kids.length:=by omega
       subst e
       have:Y7 t x (Q2 f) ((x.Kids.length:Int),s)=some (.done (.inl s)):=by
        unfold Y7
        simp
       exact .inl ⟨s,by simp only [y9,this,Option.bind_some],b3,fun y hy=>by
        obtain ⟨q,hq,e⟩:=List.getElem_of_mem hy
        exact b4 q y hq (by rw [List.getElem?_eq_getElem hq,e])⟩
     | succ m ihm =>
       intro a k s b1 b2 b3 b4
       obtain ⟨k,rfl⟩:∃ m,k=m+1:=⟨k-1,by omega⟩
       have ha:a<x.Kids.length:=by omega
       have hka:=List.getElem?_eq_getElem ha
       have hkm:=List.getElem_mem ha
       obtain ⟨j,hj1,hj3⟩:=a4R (a4n (List.all_eq_true.1 hT x hxm) _ hkm)
       obtain ⟨b,s',c1,c2,c3⟩:=ih j s (by have:=b3.zer; omega) hj3 ⟨b3.len,b3.val,b3.gd,fun _=>Iff.rfl,fun _ h=>h,Nat.le_refl _⟩
       cases b with
       | true =>
         obtain ⟨c4,c5⟩:=c2 rfl
         have:Y7 t x (Q2 f) ((a:Int),s)=some (.next (((a+1:Nat):Int),s')):=by
          unfold Y7
          rw [a0h ha,Y5 hka,hj1]
          simp only [cond_true,Option.bind_some,J9]
          rw [c1,Y3 a (by omega)]
          rfl
         simp only [y9,this,Option.bind_some]
         refine ihm (a+1) k s' (by omega) (by omega) ⟨c4.len,c4.val,c4.gd,fun q=>(c4.opn q).trans (b3.opn q),fun q hq=>c4.don q (b3.don q hq),Nat.le_trans c4.zer b3.zer⟩ (fun q y hq hy=>?_)
         by_cases hqa:q=a
         ·subst hqa
          rw [hka] at hy
          cases hy
          rw [hj1,Int.toNat_natCast]
          exact c5
         ·exact (b4 q y (by omega) hy).imp (fun h=>c4.don _ h) id
       | false =>
         have:Y7 t x (Q2 f) ((a:Int),s)=some (.done (.inr (false,s'))):=by
          unfold Y7
          rw [a0h ha,Y5 hka,hj1]
          simp only [cond_true,Option.bind_some,J9]
          rw [c1]
          rfl
         refine .inr ⟨s',by simp only [y9,this,Option.bind_some],fun r hr ho=>c3 rfl r hr fun o hopn=>?_⟩
         have hrk:r j<r i:=by
          have:=hr i x hn hb _ hkm
          rwa [hj1,Int.toNat_natCast] at this
         rcases (hset o).1 ((b3.opn o).1 hopn) with h | rfl
         ·exact Nat.lt_trans hrk (ho o h)
         ·exact hrk
    have e0:y9 (Y7 t x (Q2 f)) (x.Kids.length+1) (0,st.set i 1)=y9 (Y7 t x (Q2 f)) (x.Kids.length+1) (((0:Nat):Int),st.set i 1):=rfl
    rw [e0]
    rcases key x.Kids.length 0 (x.Kids.length+1) (st.set i 1) (by omega) (Nat.le_refl _) hS1 (fun q y hq=>by omega) with ⟨s',c1,c2,c3⟩ | ⟨s',c1,c2⟩
    ·rw [c1]
     have hi':i<s'.length:=by rw [c2.len]; exact h2
     have hs':=List.getElem?_eq_getElem hi'
     have hs1:s'[i]?=some 1:=(c2.opn i).2 ((hset i).2 (.inr rfl))
     simp only [Option.bind_some,j9,Y5 hs',hs']
     refine ⟨true,s'.set i 2,rfl,fun _=>⟨⟨by simpa using c2.len,fun j e hj=>?_,?_,fun j=>?_,fun j hj=>?_,?_⟩,.inl (List.getElem?_set_self hi')⟩,fun h=>by cases h⟩
     ·by_cases e1:i=j
      ·subst e1; rw [List.getElem?_set_self hi'] at hj; simp at hj; omega
      ·rw [List.getElem?_set_ne e1] at hj; exact c2.val j e hj
     ·refine Gd.add c2.gd hn (fun _=>c3) fun j=>?_
      unfold DF
      by_cases e1:i=j
      ·subst e1; rw [List.getElem?_set_self hi']; simp
      ·rw [List.getElem?_set_ne e1]; exact ⟨.inl,fun h=>h.resolve_right (Ne.symm e1)⟩
     ·by_cases e1:i=j
      ·subst e1; rw [List.getElem?_set_self hi',hst]; simp
      ·rw [List.getElem?_set_ne e1]
       exact (c2.opn j).trans ((hset j).trans ⟨fun h=>h.resolve_right (Ne.symm e1),.inl⟩)
     ·have h2':=c2.don j ((hset2 j).2 hj)
      by_cases e1:i=j
      ·subst e1; rw [List.getElem?_set_self hi']
      ·rw [List.getElem?_set_ne e1]; exact h2'
     ·have a1:=c7v s' i
      have a2:=c2.zer
      omega
    ·rw [c1]
     exact ⟨false,s',rfl,(fun h=>by cases h),fun _=>c2⟩
   ·by_cases he1:e=1
    ·subst he1
     exact ⟨false,st,by cases isB x<;>rfl,(fun h=>by cases h),fun _ r _ ho=>Nat.lt_irrefl _ (ho i hst)⟩
    ·refine ⟨true,st,?_,fun _=>⟨hS,?_⟩,fun h=>by cases h⟩
     ·by_cases he:e=0
      ·subst he
       have hb:isB x=false:=by
        cases hb:isB x with
        | true=>exact absurd ⟨rfl,hb⟩ hq
        | false=>rfl
       rw [hb]
       rfl
      ·have e2:(e != 0)=true:=by simpa using he
       have e3:(e != 1)=true:=by simpa using he1
       rw [e2,e3]
       rfl
     ·rcases hS.val i e hst with rfl | rfl | rfl
      ·right
       refine ⟨x,hn,?_⟩
       cases hb:isB x with
       | true=>exact absurd ⟨rfl,hb⟩ hq
       | false=>rfl
      ·exact absurd rfl he1
      ·exact .inl hst
theorem c8Q (t:Api_Type)(hT:a7f t.Nodes=true)(hk:∀ x∈t.Nodes,x.Kids.length<=1100000)(hN:t.Nodes.length<=1100000)(fuel:Nat)(hf:t.Nodes.length+1<=fuel):a2N fuel t=some (a4V t.Nodes):=by
 unfold a2N a7y
 have e0:(decide (0<=(t.Nodes.length:Int))&&decide ((t.Nodes.length:Int)<=(t.Nodes.length:Int))&&decide ((t.Nodes.length:Int)*((8:Nat):Int)<=140737488355328))=true:=by
  simp; omega
 rw [e0]
 simp only [cond_true,Option.bind_some,X7]
 have key:∀ (m a k:Nat) (s:List Int),a+m=t.Nodes.length->m+1<=k->DfsR t.Nodes s s->(∀ j:Nat,s[j]?≠some 1)->(∀ j,j<a->DF t.Nodes s j) ->
  (∃ s',y9 (Q3 t fuel) k ((a:Int),s)=some (.inl s')/\a4V t.Nodes=true)\/∃ s',y9 (Q3 t fuel) k ((a:Int),s)=some (.inr (false,s'))/\a4V t.Nodes=false:=by
  intro m
  induction m with
  | zero =>
    intro a k s b1 b2 b3 b4 b5
    obtain ⟨k,rfl⟩:∃ m,k=m+1:=⟨k-1,by omega⟩
    have e:a=t.Nodes.length:=by omega
    subst e
    have:Q3 t fuel ((t.Nodes.length:Int),s)=some (.done (.inl s)):=by
     unfold Q3
     simp
    exact .inl ⟨s,by simp only [y9,this,Option.bind_some],b0C.2 (b3.gd.acy b5)⟩
  | succ m ih =>
    intro a k s b1 b2 b3 b4 b5
    obtain ⟨k,rfl⟩:∃ m,k=m+1:=⟨k-1,by omega⟩
    have hz:s.count 0<=t.Nodes.length:=by rw [<- b3.len]; exact List.count_le_length
    obtain ⟨b,s',c1,c2,c3⟩:=d1g t hT hk fuel a s (by omega) (by omega) b3
    cases b with
    | true =>
      obtain ⟨c4,c5⟩:=c2 rfl
      have:Q3 t fuel ((a:Int),s)=some (.next (((a+1:Nat):Int),s')):=by
       unfold Q3
       rw [a0h (show a<t.Nodes.length by omega)]
       simp only [cond_true,Option.bind_some,J9]
       rw [c1,Y3 a (by omega)]
       rfl
      simp only [y9,this,Option.bind_some]
      refine ih (a+1) k s' (by omega) (by omega) ⟨c4.len,c4.val,c4.gd,fun _=>Iff.rfl,fun _ h=>h,Nat.le_refl _⟩ (fun j h=>b4 j ((c4.opn j).1 h)) (fun j hj=>?_)
      by_cases h:j=a
      ·rw [h]; exact c5
      ·exact (b5 j (by omega)).imp (fun h=>c4.don _ h) id
    | false =>
      have:Q3 t fuel ((a:Int),s)=some (.done (.inr (false,s'))):=by
       unfold Q3
       rw [a0h (show a<t.Nodes.length by omega)]
       simp only [cond_true,Option.bind_some,J9]
       rw [c1]
       rfl
      refine .inr ⟨s',by simp only [y9,this,Option.bind_some],?_⟩
      cases hA:a4V t.Nodes with
      | false=>rfl
      | true =>
        obtain ⟨r,hr⟩:=b0C.1 hA
        exact (c3 rfl r hr fun o ho=>absurd ho (b4 o)).elim
 have hrep:∀ (j:Nat) (e:Int),(List.replicate t.Nodes.length (0:Int))[j]?=some e->e=0:=fun j e h=>by
  rw [List.getElem?_replicate] at h
  split at h
  ·simpa using h.symm
  ·cases h
 have hS:DfsR t.Nodes (List.replicate t.Nodes.length (0:Int)) (List.replicate t.Nodes.length (0:Int)) :=
  ⟨by simp,fun j e h=>.inl (hrep j e h),⟨fun _=>0,fun i x hi hx hb=>by
   rcases hi with hi | ⟨y,hy,hyb⟩
   ·have:=hrep i 2 hi; omega
   ·rw [hx] at hy; cases hy; rw [hb] at hyb; cases hyb⟩,fun _=>Iff.rfl,fun _ h=>h,Nat.le_refl _⟩
 have e':∀ s,y9 (Q3 t fuel) (t.Nodes.length+1) (0,s)=y9 (Q3 t fuel) (t.Nodes.length+1) (((0:Nat):Int),s):=fun _=>rfl
 rw [e']
 rcases key t.Nodes.length 0 (t.Nodes.length+1) (List.replicate t.Nodes.length (0:Int)) (by omega) (Nat.le_refl _) hS (fun j h=>by have:=hrep j 1 h; omega) (fun j hj=>by omega) with ⟨s',e,hA⟩ | ⟨s',e,hA⟩
 ·rw [e,hA]; rfl
 ·rw [e,hA]; rfl
theorem d1M (t:Api_Type)(hk:∀ x∈t.Nodes,x.Kids.length<=1100000/\x.Fields.length<=1100000)(hN:t.Nodes.length<=1100000)(fuel:Nat)(hf:t.Nodes.length+1<=fuel):W2 fuel t=some (if inR t.Nodes.length t.Root&&a7f t.Nodes then (if a4V t.Nodes then 0 else 3) else 1):=by
 have l2:y9 (a2d t) (t.Nodes.length+1) 0=some (if t.Nodes.all (X6 t.Nodes.length)=true then .inl () else .inr 1):=by
  refine a1O t.Nodes (X6 t.Nodes.length) (fun i=>(i:Int)) () 1 ?_ ?_
  ·intro i x hx
   have hi:i<t.Nodes.length:=(List.getElem?_eq_some_iff.1 hx).1
   obtain ⟨hk1,hk2⟩:=hk x (List.mem_of_getElem? hx)
   unfold a2d
   rw [a0h hi,Y5 hx]
   simp only [cond_true,Option.bind_some,c8J,c8V x (by omega),J9,X7]
   rw [<- c7N,Y3 i (by omega)]
   cases b7H x
   ·rfl
   cases b7s x
   ·rfl
   simp only [Bool.not_true,cond_false,Option.bind_some,Bool.true_and]
   rw [c8N x hk1 hk2]
   simp only [Option.bind_some]
   have he:(a4K x).length<=4194304:=by
    unfold a4K
    simp only [List.length_append,List.length_map]
    split<;>simp<;>omega
   have l1:y9 (a2l t (a4K x)) ((a4K x).length+1) 0=some (if (a4K x).all (inR t.Nodes.length)=true then .inl () else .inr 1):=by
    refine a1O (a4K x) (inR t.Nodes.length) (fun i=>(i:Int)) () 1 ?_ ?_
    ·intro j y hy
     have hj:j<(a4K x).length:=(List.getElem?_eq_some_iff.1 hy).1
     unfold a2l
     rw [a0h hj,Y5 hy]
     simp only [cond_true,Option.bind_some,J9]
     rw [Y3 j (by omega)]
     unfold inR
     by_cases h1:y<0
     ·have a1:decide (y<0)=true:=by simpa using h1
      have a2:decide (0<=y)=false:=by simp; omega
      rw [a1,a2]; rfl
     ·have a1:decide (y<0)=false:=by simpa using h1
      have a2:decide (0<=y)=true:=by simp; omega
      rw [a1,a2]
      by_cases h2:y<(t.Nodes.length:Int)
      ·have a3:decide ((t.Nodes.length:Int)<=y)=false:=by simp; omega
       have a4:decide (y<(t.Nodes.length:Int))=true:=by simpa using h2
       rw [a3,a4]; rfl
      ·have a3:decide ((t.Nodes.length:Int)<=y)=true:=by simp; omega
       have a4:decide (y<(t.Nodes.length:Int))=false:=by simpa using h2
       rw [a3,a4]; rfl
    ·unfold a2l
     simp
   rw [l1]
   cases (a4K x).all (inR t.Nodes.length)<;>rfl
  ·unfold a2d
   simp
 unfold W2
 rw [X7,l2]
 have hq:(Option.bind (bif decide (t.Root<0) then some true else some (decide ((t.Nodes.length:Int)<=t.Root))) fun q=>some q)=some (!inR t.Nodes.length t.Root):=by
  unfold inR
  by_cases h1:t.Root<0
  ·have a1:decide (t.Root<0)=true:=by simpa using h1
   have a2:decide (0<=t.Root)=false:=by simp; omega
   rw [a1,a2]; rfl
  ·have a1:decide (t.Root<0)=false:=by simpa using h1
   have a2:decide (0<=t.Root)=true:=by simp; omega
   rw [a1,a2]
   by_cases h2:t.Root<(t.Nodes.length:Int)
   ·have a3:decide ((t.Nodes.length:Int)<=t.Root)=false:=by simp; omega
    have a4:decide (t.Root<(t.Nodes.length:Int))=true:=by simpa using h2
    rw [a3,a4]; rfl
   ·have a3:decide ((t.Nodes.length:Int)<=t.Root)=true:=by simp; omega
    have a4:decide (t.Root<(t.Nodes.length:Int))=false:=by simpa using h2
    rw [a3,a4]; rfl
 rw [a5e] at hq
 rw [hq]
 simp only [Option.bind_some]
 cases inR t.Nodes.length t.Root
 ·rfl
 show _=some (if a7f t.Nodes=true then (if a4V t.Nodes then (0:Int) else 3) else 1)
 cases hA:a7f t.Nodes with
 | true =>
   have hA':t.Nodes.all (X6 t.Nodes.length)=true:=hA
   rw [hA']
   simp only [Bool.not_true,cond_false,if_true,Option.bind_some,j9]
   rw [c8Q t hA (fun x hx=>(hk x hx).1) hN fuel hf]
   cases a4V t.Nodes<;>rfl
 | false =>
   have hA':t.Nodes.all (X6 t.Nodes.length)=false:=hA
   rw [hA']
   rfl
end Go.Pl
namespace Go.Pl
open Go Go.RowKit Go.Sx Go.Qx
theorem d0T (t:Api_Type)(D:List Bool)(i fuel:Nat)(x:Api_TypeNode)(hx:t.Nodes[i]?=some x)(hD:D.length=t.Nodes.length)(hT:a7f t.Nodes=true)(hk:x.Kids.length<=1100000)(hf:x.Kids.length+1<=fuel) :
 ∃ A,y9 (J1 t (D,(i:Int))) fuel (D,true,0)=some (D,A)/\((isB x=true->∀ k∈x.Kids,D[k.toNat]?=some true)↔A=true):=by
 have hxm:x∈t.Nodes:=List.mem_of_getElem? hx
 have hkr:=a4n (List.all_eq_true.1 hT x hxm)
 have hix:=Y5 hx
 cases hb:isB x with
 | false =>
   obtain ⟨k,rfl⟩:∃ m,fuel=m+1:=⟨fuel-1,by omega⟩
   have:J1 t (D,(i:Int)) (D,true,0)=some (.done (D,true)):=by
    unfold J1
    simp only [hix,Option.bind_some,c1Y,hb]
    rfl
   exact ⟨true,by simp only [y9,this,Option.bind_some],fun _=>rfl,fun _ h=>by cases h⟩
 | true =>
   have key:∀ (m a k:Nat) (A:Bool),a+m=x.Kids.length->m+1<=k ->
    ∃ A',y9 (J1 t (D,(i:Int))) k (D,A,(a:Int))=some (D,A')/\((A=true/\∀ (q:Nat) (y:Int),a<=q->x.Kids[q]?=some y->D[y.toNat]?=some true)↔A'=true):=by
    intro m
    induction m with
    | zero =>
      intro a k A b1 b2
      obtain ⟨k,rfl⟩:∃ m,k=m+1:=⟨k-1,by omega⟩
      have e:a=x.Kids.length:=by omega
      subst e
      have:J1 t (D,(i:Int)) (D,A,(x.Kids.length:Int))=some (.done (D,A)):=by
       unfold J1
       simp only [hix,Option.bind_some,c1Y,hb,cond_true]
       simp
      exact ⟨A,by simp only [y9,this,Option.bind_some],fun h=>h.1,fun h=>⟨h,fun q y h1 h2=>by have:=(List.getElem?_eq_some_iff.1 h2).1; omega⟩⟩
    | succ m ih =>
      intro a k A b1 b2
      obtain ⟨k,rfl⟩:∃ m,k=m+1:=⟨k-1,by omega⟩
      have ha:a<x.Kids.length:=by omega
      have hka:=List.getElem?_eq_getElem ha
      have hkm:=List.getElem_mem ha
      obtain ⟨j,hj,hj2⟩:=a4R (hkr _ hkm)
      have hDj:=List.getElem?_eq_getElem (show j<D.length by omega)
      obtain ⟨A',c1,c2⟩:=ih (a+1) k (bif A then D[j] else false) (by omega) (by omega)
      have:J1 t (D,(i:Int)) (D,A,(a:Int))=some (.next (D,(bif A then D[j] else false),((a+1:Nat):Int))):=by
       unfold J1
       simp only [hix,Option.bind_some,c1Y,hb,cond_true,a0h ha,Y5 hka,hj,Y5 hDj,Int.toNat_natCast,hDj,J9]
       rw [Y3 a (by omega)]
       cases A<;>rfl
      simp only [y9,this,Option.bind_some]
      refine ⟨A',c1,Iff.trans ⟨fun ⟨hA,hall⟩=>⟨?_,fun q y hq hy=>hall q y (by omega) hy⟩,fun ⟨hA,hall⟩=>?_⟩ c2⟩
      ·have hq:=hall a _ (Nat.le_refl _) hka
       rw [hj,Int.toNat_natCast,hDj] at hq
       subst hA
       simpa using hq
      ·cases A with
       | false=>cases hA
       | true =>
         refine ⟨rfl,fun q y hq hy=>?_⟩
         by_cases e:q=a
         ·subst e
          rw [hka] at hy
          cases hy
          rw [hj,Int.toNat_natCast,hDj]
          simpa using hA
         ·exact hall q y (by omega) hy
   obtain ⟨A,c1,c2⟩:=key x.Kids.length 0 fuel true (by omega) hf
   refine ⟨A,c1,Iff.trans ⟨fun h=>⟨rfl,fun q y _ hy=>h rfl y (List.mem_of_getElem? hy)⟩,fun h _ y hy=>?_⟩ c2⟩
   obtain ⟨q,hq,e⟩:=List.getElem_of_mem hy
   exact h.2 q y (Nat.zero_le _) (by rw [List.getElem?_eq_getElem hq,e])
def trD (D:List Bool)(j:Nat):Prop:=D[j]?=some true
theorem c80 (t:Api_Type)(hT:a7f t.Nodes=true)(hk:∀ x∈t.Nodes,x.Kids.length<=1100000)(hN:t.Nodes.length<=1100000)(fuel:Nat)(hf:1100001<=fuel)(r:Nat->Nat)(q:Nat) :
 ∀ (m a k:Nat) (D:List Bool),a+m=t.Nodes.length->m+1<=k->D.length=t.Nodes.length->Gd t.Nodes (trD D)->(Rk t.Nodes r->(∀ j,j<t.Nodes.length->r j<q->D[j]?=some true)/\∀ j,j<a->r j<q+1->D[j]?=some true) ->
  ∃ D',y9 (V7 t fuel) k (D,(a:Int))=some D'/\D'.length=t.Nodes.length/\Gd t.Nodes (trD D')/\(Rk t.Nodes r->∀ j,j<t.Nodes.length->r j<q+1->D'[j]?=some true):=by
 intro m
 induction m with
 | zero =>
   intro a k D b1 b2 b3 b4 b5
   obtain ⟨k,rfl⟩:∃ m,k=m+1:=⟨k-1,by omega⟩
   have e:a=t.Nodes.length:=by omega
   subst e
   have:V7 t fuel (D,(t.Nodes.length:Int))=some (.done D):=by
    unfold V7
    simp
   exact ⟨D,by simp only [y9,this,Option.bind_some],b3,b4,fun hr=>(b5 hr).2⟩
 | succ m ih =>
   intro a k D b1 b2 b3 b4 b5
   obtain ⟨k,rfl⟩:∃ m,k=m+1:=⟨k-1,by omega⟩
   have ha:a<t.Nodes.length:=by omega
   have hn:=List.getElem?_eq_getElem ha
   generalize hx:t.Nodes[a]=x at hn
   have hxm:x∈t.Nodes:=List.mem_of_getElem? hn
   have hkx:=hk x hxm
   obtain ⟨A,c1,c2⟩:=d0T t D a fuel x hn b3 hT hkx (by omega)
   have haD:a<D.length:=by omega
   have hDa:=List.getElem?_eq_getElem haD
   generalize D[a]=e at hDa
   have step:V7 t fuel (D,(a:Int))=some (.next (D.set a (e||A),((a+1:Nat):Int))):=by
    unfold V7
    simp only
    rw [a0h ha,c1]
    simp only [cond_true,Option.bind_some,Y5 hDa,Int.toNat_natCast,hDa,J9]
    rw [Y3 a (by omega)]
    cases e<;>rfl
   simp only [y9,step,Option.bind_some]
   have hset:∀ j,D[j]?=some true->(D.set a (e||A))[j]?=some true:=fun j hj=>by
    by_cases h:a=j
    ·subst h
     rw [List.getElem?_set_self haD]
     rw [hDa] at hj
     cases hj
     rfl
    ·rw [List.getElem?_set_ne h]; exact hj
   refine ih (a+1) k (D.set a (e||A)) (by omega) (by omega) (by simpa using b3) ?_ (fun hr=>⟨fun j hj h=>hset j ((b5 hr).1 j hj h),fun j hj h=>?_⟩)
   ·cases hA:A with
    | false =>
      have:D.set a (e||false)=D:=by
       apply List.ext_getElem?
       intro j
       by_cases h:a=j
       ·subst h; rw [List.getElem?_set_self haD,hDa,Bool.or_false]
       ·rw [List.getElem?_set_ne h]
      rw [this]; exact b4
    | true =>
      refine Gd.add b4 hn (fun hb k hk=>c2.2 hA hb k hk) fun j=>?_
      unfold trD
      by_cases h:a=j
      ·subst h; rw [List.getElem?_set_self haD]; simp
      ·rw [List.getElem?_set_ne h]; exact ⟨.inl,fun h1=>h1.resolve_right (Ne.symm h)⟩
   ·by_cases e1:j=a
    ·subst e1
     rw [List.getElem?_set_self haD]
     have hA:A=true:=c2.1 fun hb kk hkk=>by
      obtain ⟨i,rfl,hi⟩:=a4R (a4n (List.all_eq_true.1 hT x hxm) kk hkk)
      have:=hr j x hn hb _ hkk
      rw [Int.toNat_natCast] at this ⊢
      exact (b5 hr).1 i hi (by omega)
     rw [hA]
     simp
    ·exact hset j ((b5 hr).2 j (by omega) h)
theorem d0Q (t:Api_Type)(hk:∀ x∈t.Nodes,x.Kids.length<=1100000/\x.Fields.length<=1100000)(hN:t.Nodes.length<=1100000)(fuel:Nat)(hf:1100001<=fuel):a0B fuel t=some (if inR t.Nodes.length t.Root&&a7f t.Nodes then (if a4V t.Nodes then 0 else 3) else 1):=by
 have l1:y9 (a1G t) (t.Nodes.length+1) 0=some (if t.Nodes.all (X6 t.Nodes.length)=true then .inl () else .inr 1):=by
  refine a1O t.Nodes (X6 t.Nodes.length) (fun i=>(i:Int)) () 1 ?_ ?_
  ·intro i x hx
   have hi:i<t.Nodes.length:=(List.getElem?_eq_some_iff.1 hx).1
   obtain ⟨hk1,hk2⟩:=hk x (List.mem_of_getElem? hx)
   unfold a1G
   rw [a0h hi,Y5 hx]
   simp only [cond_true,Option.bind_some,J9]
   rw [c3Q t x (by omega) (by omega),Y3 i (by omega)]
   cases X6 t.Nodes.length x<;>rfl
  ·unfold a1G
   simp
 unfold a0B
 rw [b0K,X7,l1]
 simp only [Option.bind_some]
 cases inR t.Nodes.length t.Root
 ·rfl
 show _=some (if a7f t.Nodes=true then (if a4V t.Nodes then (0:Int) else 3) else 1)
 cases hA:a7f t.Nodes with
 | false =>
   have hA':t.Nodes.all (X6 t.Nodes.length)=false:=hA
   rw [hA']
   rfl
 | true =>
   have hA':t.Nodes.all (X6 t.Nodes.length)=true:=hA
   rw [hA']
   simp only [Bool.not_true,cond_false,if_true,Option.bind_some,j9]
   have e0:a7y (t.Nodes.length:Int) (t.Nodes.length:Int) 1=some t.Nodes.length:=by
    unfold a7y
    have:(decide (0<=(t.Nodes.length:Int))&&decide ((t.Nodes.length:Int)<=(t.Nodes.length:Int))&&decide ((t.Nodes.length:Int)*((1:Nat):Int)<=140737488355328))=true:=by
     simp; omega
    rw [this]
    simp
   rw [e0]
   simp only [Option.bind_some]
   obtain ⟨r,hrr⟩:∃ r,a4V t.Nodes=true->Rk t.Nodes r/\∀ i,i<t.Nodes.length->r i<t.Nodes.length:=by
    cases hA2:a4V t.Nodes with
    | false=>exact ⟨fun _=>0,fun h=>by cases h⟩
    | true =>
      obtain ⟨r,h⟩:=(b0C.1 hA2).small hA
      exact ⟨r,fun _=>h⟩
   have key:∀ (m q k:Nat) (D:List Bool),q+m=t.Nodes.length->m+1<=k->D.length=t.Nodes.length->Gd t.Nodes (trD D)->(Rk t.Nodes r->∀ j,j<t.Nodes.length->r j<q->D[j]?=some true) ->
    ∃ D',y9 (V6 t fuel) k (D,(q:Int))=some D'/\D'.length=t.Nodes.length/\Gd t.Nodes (trD D')/\(Rk t.Nodes r->∀ j,j<t.Nodes.length->r j<t.Nodes.length->D'[j]?=some true):=by
    intro m
    induction m with
    | zero =>
      intro q k D b1 b2 b3 b4 b5
      obtain ⟨k,rfl⟩:∃ m,k=m+1:=⟨k-1,by omega⟩
      have e:q=t.Nodes.length:=by omega
      subst e
      have:V6 t fuel (D,(t.Nodes.length:Int))=some (.done D):=by
       unfold V6
       simp
      exact ⟨D,by simp only [y9,this,Option.bind_some],b3,b4,b5⟩
    | succ m ih =>
      intro q k D b1 b2 b3 b4 b5
      obtain ⟨k,rfl⟩:∃ m,k=m+1:=⟨k-1,by omega⟩
      obtain ⟨D',c1,c2,c3,c4⟩:=c80 t hA (fun x hx=>(hk x hx).1) hN fuel hf r q t.Nodes.length 0 (t.Nodes.length+1) D (by omega) (Nat.le_refl _) b3 b4 (fun hr=>⟨b5 hr,fun j hj=>by omega⟩)
      have c1':y9 (V7 t fuel) (t.Nodes.length+1) (D,0)=some D':=c1
      have step:V6 t fuel (D,(q:Int))=some (.next (D',((q+1:Nat):Int))):=by
       unfold V6
       simp only
       rw [a0h (show q<t.Nodes.length by omega),X7,c1']
       simp only [cond_true,Option.bind_some,J9]
       rw [Y3 q (by omega)]
      simp only [y9,step,Option.bind_some]
      exact ih (q+1) k D' (by omega) (by omega) c2 c3 c4
   have hrep:∀ (j:Nat),(List.replicate t.Nodes.length false)[j]?≠some true:=fun j h=>by
    rw [List.getElem?_replicate] at h
    split at h<;>cases h
   obtain ⟨D,c1,c2,c3,c4⟩:=key t.Nodes.length 0 (t.Nodes.length+1) (List.replicate t.Nodes.length false) (by omega) (Nat.le_refl _) (by simp) ⟨fun _=>0,fun i x hi=>absurd hi (hrep i)⟩ (fun _ j hj h=>by omega)
   have c1':y9 (V6 t fuel) (t.Nodes.length+1) (List.replicate t.Nodes.length false,0)=some D:=c1
   rw [c1']
   simp only [Option.bind_some]
   have hall:D.all (fun b=>b)=a4V t.Nodes:=by
    rw [Bool.eq_iff_iff,List.all_eq_true]
    constructor
    ·intro h
     refine b0C.2 (c3.acy fun j hj=>?_)
     have hj':j<D.length:=by omega
     unfold trD
     rw [List.getElem?_eq_getElem hj',h _ (List.getElem_mem hj')]
    ·intro h b hb
     obtain ⟨j,hj,rfl⟩:=List.getElem_of_mem hb
     have:=c4 (hrr h).1 j (by omega) ((hrr h).2 j (by omega))
     rw [List.getElem?_eq_getElem hj] at this
     simpa using this
   have l5:=a1O (step:=a0F) D (fun b=>b) (fun i=>(D,(i:Int))) D ((3:Int),D) (fun i x hx=>by
    have hi:i<D.length:=(List.getElem?_eq_some_iff.1 hx).1
    unfold a0F
    simp only
    rw [a0h hi,Y5 hx]
    simp only [cond_true,Option.bind_some,Int.toNat_natCast,hx,J9]
    rw [Y3 i (by omega)]
    cases x<;>rfl) (by
    unfold a0F
    simp)
   rw [hall] at l5
   have l5':y9 a0F (D.length+1) (D,0)=some (if a4V t.Nodes=true then .inl D else .inr ((3:Int),D)):=l5
   rw [X7,l5']
   cases a4V t.Nodes<;>rfl
end Go.Pl
end
section
namespace Go.Pl
open Go Go.RowKit Go.Sx Go.Qx
structure GN (N i:Nat)(x:Api_TypeNode):Prop where
 ok:X6 N x=true
 ord:isB x=true->∀ k∈x.Kids,(i:Int)<k
 kids:x.Kids.length<=4
 text:x.Text.size<=5
 flds:x.Fields.length<=3
 keys:∀ f∈x.Fields,a2v f.Key_<=8
 rng : -9223372036854775808<=x.Lo/\x.Lo<=9223372036854775807 /\ -9223372036854775808<=x.Hi/\x.Hi<=9223372036854775807
theorem b5s {N M:Nat}(h:N<=M){k:Int}(hk:inR N k=true):inR M k=true:=by
 unfold inR at *
 simp only [Bool.and_eq_true,decide_eq_true_eq] at *
 omega
theorem c44 {α:Type}{p q:α->Bool}{l:List α}(h:∀ x,p x=true->q x=true)(k:l.all p=true):l.all q=true:=List.all_eq_true.2 fun x hx=>h x (List.all_eq_true.1 k x hx)
theorem c6S {N M:Nat}(h:N<=M){x:Api_TypeNode}(hx:X6 N x=true):X6 M x=true:=by
 unfold X6 at *
 simp only [Bool.and_eq_true] at *
 refine ⟨c44 (fun k=>b5s h) hx.1,hx.2.1,hx.2.2.1,hx.2.2.2.1,?_⟩
 have hk:=hx.2.2.2.2
 unfold a44 at *
 split<;>rename_i h3
 ·rwa [if_pos h3] at hk
 rw [if_neg h3] at hk
 split<;>rename_i h4
 ·rwa [if_pos h4] at hk
 rw [if_neg h4] at hk
 split<;>rename_i h6
 ·rwa [if_pos h6] at hk
 rw [if_neg h6] at hk
 split<;>rename_i h19
 ·rwa [if_pos h19] at hk
 rw [if_neg h19] at hk
 split<;>rename_i hs
 ·rwa [if_pos hs] at hk
 rw [if_neg hs] at hk
 split<;>rename_i h10
 ·rwa [if_pos h10] at hk
 rw [if_neg h10] at hk
 split<;>rename_i h12
 ·rwa [if_pos h12] at hk
 rw [if_neg h12] at hk
 split<;>rename_i h14
 ·rwa [if_pos h14] at hk
 rw [if_neg h14] at hk
 split<;>rename_i h16
 ·rwa [if_pos h16] at hk
 rw [if_neg h16] at hk
 split<;>rename_i h18
 ·rwa [if_pos h18] at hk
 rw [if_neg h18] at hk
 split<;>rename_i h13
 ·rw [if_pos h13] at hk
  unfold a5V at *
  simp only [Bool.and_eq_true] at *
  exact ⟨⟨hk.1.1,hk.1.2.1,c44 (fun f=>b5s h) hk.1.2.2⟩,hk.2.1,b5s h hk.2.2.1,b5s h hk.2.2.2⟩
 ·rwa [if_neg h13] at hk
theorem GN.mono {N M i:Nat}{x:Api_TypeNode}(h:GN N i x)(k:N<=M):GN M i x:=⟨c6S k h.ok,h.ord,h.kids,h.text,h.flds,h.keys,h.rng⟩
abbrev c15 (k:Int)(l:List Int):Api_TypeNode:=Api_TypeNode.mk k 0 0 (⟨#[]⟩:ByteArray) l ([]:List Api_Field) (0,0)
abbrev d21 (k:Int)(s:ByteArray):Api_TypeNode:=Api_TypeNode.mk k 0 0 s ([]:List Int) ([]:List Api_Field) (0,0)
theorem b0H {N i:Nat}{k:Int}{l:List Int}(hl:l.all (inR N)=true)(h4:l.length<=4)(hk:a44 N (c15 k l)=true)(ho:k=16\/k=17\/k=18->∀ x∈l,(i:Int)<x):GN N i (c15 k l):=by
 refine ⟨?_,fun hb=>ho ?_,h4,by show (⟨#[]⟩:ByteArray).size<=5; decide,by show (0:Nat)<=3; omega,(fun f hf=>by cases hf),by show (-9223372036854775808:Int)<=0/\(0:Int)<=9223372036854775807/\(-9223372036854775808:Int)<=0/\(0:Int)<=9223372036854775807; decide⟩
 ·unfold X6
  rw [hk]
  simp [hl,a6s,a43]
 ·unfold isB at hb
  simp at hb
  omega
theorem c39 {N i:Nat}{k:Int}{s:ByteArray}(hs:s.size<=5)(hk:(k=4)\/(k=6/\a3M s=true)\/(k=19/\a49 s=true)):GN N i (d21 k s):=by
 refine ⟨?_,fun hb=>?_,by show (0:Nat)<=4; omega,hs,by show (0:Nat)<=3; omega,(fun f hf=>by cases hf),by show (-9223372036854775808:Int)<=0/\(0:Int)<=9223372036854775807/\(-9223372036854775808:Int)<=0/\(0:Int)<=9223372036854775807; decide⟩
 ·have h64:(s.size:Int)<=64:=by omega
  rcases hk with rfl | ⟨rfl,h⟩ | ⟨rfl,h⟩
  ·simp [X6,a44,a43,h64]
  ·simp [X6,a44,a43,h]
  ·simp [X6,a44,a43,h]
 ·intro x hx; cases hx
section
variable {L:List Int}
theorem c0R {γ σ τ:Type}{step:σ->Option (Fl σ τ)}(pack:γ->Int->Semtypebase_Source->σ)(out:γ->Semtypebase_Source->τ)(Inv:Nat->γ->Prop)(J:Nat)
 (hst:∀ (j:Nat) (g:γ) (s:Semtypebase_Source),j<J->Inv j g->OS L s->∃ g' s',step (pack g (j:Int) s)=some (.next (pack g' ((j+1:Nat):Int) s'))/\OS L s'/\Inv (j+1) g')
 (hend:∀ g s,step (pack g (J:Int) s)=some (.done (out g s))) :
 ∀ (n j k:Nat) (g:γ) (s:Semtypebase_Source),j+n=J->n+1<=k->Inv j g->OS L s->∃ g' s',y9 step k (pack g (j:Int) s)=some (out g' s')/\OS L s'/\Inv J g':=by
 intro n
 induction n with
 | zero =>
   intro j k g s hJ hk hI hs
   obtain ⟨k,rfl⟩:∃ m,k=m+1:=⟨k-1,by omega⟩
   have e:j=J:=by omega
   subst e
   exact ⟨g,s,by have:=hend g s; simp [y9,this],hs,hI⟩
 | succ n ih =>
   intro j k g s hJ hk hI hs
   obtain ⟨k,rfl⟩:∃ m,k=m+1:=⟨k-1,by omega⟩
   obtain ⟨g1,s1,e,hs1,hI1⟩:=hst j g s (by omega) hI hs
   obtain ⟨g2,s2,e2,hs2,hI2⟩:=ih (j+1) k g1 s1 (by omega) (by omega) hI1 hs1
   refine ⟨g2,s2,?_,hs2,hI2⟩
   simp only [y9,e,Option.bind_some]
   exact e2
theorem c5w (hL:L.length<=4194304){s:Semtypebase_Source}(h:OS L s)(m i N:Nat)(hm:m<=4)(hi:i<N)(hN:N<=100) :
 ∃ l t,k7 s (m:Int) (i:Int) (N:Int)=some (l,t)/\OS L t/\l.length=m/\∀ k∈l,(i:Int)<=k/\k<(N:Int):=by
 unfold k7
 obtain ⟨g,s',e,hs',h1,h2⟩:=a8d (γ:=List Int) (L:=L) (step:=a0L (i:Int) (N:Int)) (fun g j s=>(j,g,s)) (fun g s=>(g,s)) (fun j g=>g.length=j/\∀ k∈g,(i:Int)<=k/\k<(N:Int)) m
  (fun j n g s hj hn hI hs=>by
    obtain ⟨x,t,e,ht,a,b⟩:=Q1 hL hs (n:=w64 ((N:Int)-(i:Int))) (by rw [W8 (by omega) (by omega)]; omega) (by rw [W8 (by omega) (by omega)]; omega)
    rw [W8 (by omega) (by omega)] at b
    have hw:w64 ((i:Int)+x)=(i:Int)+x:=W8 (by omega) (by omega)
    refine ⟨g++[(i:Int)+x],t,?_,ht,?_,?_⟩
    ·unfold a0L
     simp only [J9]
     rw [show decide (0<((n+1:Nat):Int))=true from decide_eq_true (by omega),e]
     simp only [cond_true,Option.bind_some,hw]
     rw [W4 (by simp only [List.length_cons,List.length_nil]; have:=hI.1; omega),show w64 (((n+1:Nat):Int)-1)=(n:Int) by rw [W8 (by omega) (by omega)]; omega]
     rfl
    ·simp [hI.1]
    ·intro k hk
     rcases List.mem_append.1 hk with hk | hk
     ·exact hI.2 k hk
     ·rw [List.mem_singleton.1 hk]; omega) (fun g s=>by
    unfold a0L
    rfl) m 0 ((m:Int).toNat+2) [] s (by omega) (by omega) ⟨rfl,fun k hk=>by cases hk⟩ h
 rw [e]
 exact ⟨g,s',rfl,hs',by simpa using h1,h2⟩
theorem b73 {N:Nat}{k:Int}(h0:0<=k)(h1:k<(N:Int)):inR N k=true:=by
 unfold inR
 simp [h0,h1]
theorem b0y {N i:Nat}{l:List Int}(h:∀ k∈l,(i:Int)<=k/\k<(N:Int)):l.all (inR N)=true:=List.all_eq_true.2 fun k hk=>by
 have:=h k hk
 exact b73 (by omega) this.2
abbrev d05:Key:=Key.mk 0 ⟨#[97]⟩
abbrev d1q:Key:=Key.mk 0 ⟨#[98]⟩
abbrev d10:Key:=Key.mk 1 ⟨#[115]⟩
abbrev d3i:Type:=Int×Int×Int×ByteArray×(List Int)×(List Api_Field)×Int×Int
abbrev c1E (F:List Api_Field)(a b:Int):d3i:=(13,0,0,(⟨#[]⟩:ByteArray),[],F,a,b)
theorem b7l (hL:L.length<=4194304){s:Semtypebase_Source}(h:OS L s)(N j:Nat)(hN:1<=N)(hN2:N<=100)(hj:j<3)(K:Key)(hK:[d05,d1q,d10][j]?=some K)(F:List Api_Field)(hF:F.length<=j)(a b:Int) :
 ∃ O t,V4 (N:Int) ((j:Int),s,c1E F a b)=some (.next (((j+1:Nat):Int),t,c1E (F++O) a b))/\OS L t/\(O=[]\/∃ n o,O=[Api_Field.mk K n o]/\inR N n=true):=by
 obtain ⟨x,t,e,ht,_,_⟩:=Q1 hL h (n:=2) (by omega) (by omega)
 unfold V4
 simp only [J9]
 rw [show decide ((j:Int)<3)=true from decide_eq_true (by omega),e]
 simp only [cond_true,Option.bind_some]
 rw [Y3 j (by omega)]
 cases hx:x==1
 ·exact ⟨[],t,by simp only [cond_false,Option.bind_some,List.append_nil],ht,.inl rfl⟩
 ·simp only [cond_true]
  rw [Y5 hK]
  obtain ⟨n,t2,e2,ht2,n0,n1⟩:=Q1 hL ht (n:=(N:Int)) (by omega) (by omega)
  obtain ⟨o,t3,e3,ht3,_,_⟩:=Q1 hL ht2 (n:=2) (by omega) (by omega)
  simp only [Option.bind_some,e2,e3]
  rw [W4 (by simp only [List.length_cons,List.length_nil]; omega)]
  exact ⟨[Api_Field.mk K n (o==1)],t3,rfl,ht3,.inr ⟨n,_,rfl,b73 n0 n1⟩⟩
theorem c5I (hL:L.length<=4194304){s:Semtypebase_Source}(h:OS L s)(N i:Nat)(hN:1<=N)(hN2:N<=100):∃ x t,a1n s (N:Int)=some (x,t)/\OS L t/\GN N i x:=by
 obtain ⟨a,t1,e1,ht1,a0,a1⟩:=Q1 hL h (n:=(N:Int)) (by omega) (by omega)
 obtain ⟨b,t2,e2,ht2,b0,b1⟩:=Q1 hL ht1 (n:=(N:Int)) (by omega) (by omega)
 obtain ⟨O0,t3,e3,ht3,h0⟩:=b7l hL ht2 N 0 hN hN2 (by omega) d05 rfl [] (by simp) a b
 have l0:O0.length<=1:=by rcases h0 with rfl | ⟨n,o,rfl,_⟩<;>simp
 obtain ⟨O1,t4,e4,ht4,h1⟩:=b7l hL ht3 N 1 hN hN2 (by omega) d1q rfl ([]++O0) (by simpa using l0) a b
 have l1:O1.length<=1:=by rcases h1 with rfl | ⟨n,o,rfl,_⟩<;>simp
 obtain ⟨O2,t5,e5,ht5,h2⟩:=b7l hL ht4 N 2 hN hN2 (by omega) d10 rfl (([]++O0)++O1) (by simp; omega) a b
 have e6:V4 (N:Int) (((2+1:Nat):Int),t5,c1E ((([]++O0)++O1)++O2) a b)=some (.done (t5,c1E ((([]++O0)++O1)++O2) a b)):=rfl
 refine ⟨Api_TypeNode.mk 13 0 0 (⟨#[]⟩:ByteArray) [] (O0++O1++O2) (a,b),t5,?_,ht5,?_⟩
 ·unfold a1n
  rw [e1]
  simp only [Option.bind_some]
  rw [e2]
  simp only [Option.bind_some]
  have ei:y9 (V4 (N:Int)) ((3:Int).toNat+1) (0,t2,(13,0,0,(⟨#[]⟩:ByteArray),[],[],a,b))=some (t5,c1E ((([]++O0)++O1)++O2) a b):=by
   show y9 (V4 (N:Int)) (3+1) (((0:Nat):Int),t2,c1E [] a b)=_
   simp only [y9,e3,e4,e5,e6,Option.bind_some]
  rw [ei]
  rfl
 ·refine ⟨?_,fun hb=>absurd hb (show ¬ (false=true) by simp),by show (0:Nat)<=4; omega,by show (⟨#[]⟩:ByteArray).size<=5; decide,?_,?_,by show (-9223372036854775808:Int)<=0/\(0:Int)<=9223372036854775807/\(-9223372036854775808:Int)<=0/\(0:Int)<=9223372036854775807; decide⟩
  ·have ha:=b73 (N:=N) a0 a1
   have hb:=b73 (N:=N) b0 b1
   have hF:a5V N (O0++O1++O2)=true:=by
    unfold a5V
    rw [Bool.and_eq_true,Bool.and_eq_true]
    refine ⟨?_,?_,?_⟩
    ·rcases h0 with rfl | ⟨n,o,rfl,_⟩<;>rcases h1 with rfl | ⟨n',o',rfl,_⟩<;>rcases h2 with rfl | ⟨n'',o'',rfl,_⟩<;>kernel_rfl
    ·rcases h0 with rfl | ⟨n,o,rfl,_⟩<;>rcases h1 with rfl | ⟨n',o',rfl,_⟩<;>rcases h2 with rfl | ⟨n'',o'',rfl,_⟩<;>kernel_rfl
    ·rcases h0 with rfl | ⟨n,o,rfl,q0⟩<;>rcases h1 with rfl | ⟨n',o',rfl,q1⟩<;>rcases h2 with rfl | ⟨n'',o'',rfl,q2⟩<;>simp_all
   unfold X6 a44
   simp only [hF,ha,hb,a6s]
   simp
  ·show (O0++O1++O2).length<=3
   have l2:O2.length<=1:=by rcases h2 with rfl | ⟨n,o,rfl,_⟩<;>simp
   simp only [List.length_append]
   omega
  ·intro f hf
   have hf:f∈O0++O1++O2:=hf
   have one:∀ {O:List Api_Field} {K:Key},(O=[]\/∃ n o,O=[Api_Field.mk K n o]/\inR N n=true)->f∈O->f.Key_=K:=fun hO hm=>by
    rcases hO with rfl | ⟨n,o,rfl,_⟩
    ·cases hm
    ·rw [List.mem_singleton.1 hm]
   rcases List.mem_append.1 hf with hf | hf
   ·rcases List.mem_append.1 hf with hf | hf
    ·rw [one h0 hf]; decide
    ·rw [one h1 hf]; decide
   ·rw [one h2 hf]; decide
end
end Go.Pl
namespace Go.Pl
open Go Go.RowKit Go.Sx Go.Qx
theorem c0x {N i:Nat}{k:Int}(hk:k=1\/k=2\/k=5\/k=7\/k=8\/k=9\/k=11\/k=15):GN N i (c15 k []) :=
 b0H rfl (by simp) (by rcases hk with rfl | rfl | rfl | rfl | rfl | rfl | rfl | rfl<;>rfl) (fun _ x hx=>by cases hx)
theorem d0X {N i:Nat}{lo hi:Int}(h:lo<=hi)(h2 : -9223372036854775808<=lo/\lo<=9223372036854775807 /\ -9223372036854775808<=hi/\hi<=9223372036854775807):GN N i (Api_TypeNode.mk 3 lo hi (⟨#[]⟩:ByteArray) ([]:List Int) ([]:List Api_Field) (0,0)) :=
 ⟨by simp [X6,a44,a43,a6s,h],(fun _ x hx=>by cases hx),(by show (0:Nat)<=4; omega),(by show (⟨#[]⟩:ByteArray).size<=5; decide),(by show (0:Nat)<=3; omega),(fun f hf=>by cases hf),h2⟩
theorem c7k:b8d.all (fun x=>a49 x&&decide (x.size<=5))=true:=by kernel_rfl
section
variable {L:List Int}
theorem b1v {x:Int}(h:0<=x):∃ m:Nat,x=(m:Int):=⟨x.toNat,by omega⟩
theorem c9c (hL:L.length<=4194304){s:Semtypebase_Source}(h:OS L s)(N i:Nat)(hi:i<N)(hN2:N<=100):∃ x t,a14 s (i:Int) (N:Int)=some (x,t)/\OS L t/\GN N i x:=by
 have hw:w64 ((N:Int)-1)=(N:Int)-1:=W8 (by omega) (by omega)
 have hwi:=Y3 i (by omega)
 obtain ⟨b,hb,hlast,hb18⟩:∃ b:Int,(bif ((i:Int)==(wr .i64 ((N:Int)-1))) then (some 14:Option Int) else some 18)=some b/\(14<b->i+1<N)/\(b=14\/b=18):=by
  by_cases e:i+1=N
  ·refine ⟨14,?_,fun h=>by omega,.inl rfl⟩
   have:((i:Int)==(N:Int)-1)=true:=by simp; omega
   simp only [J9,hw,this,cond_true]
  ·refine ⟨18,?_,fun _=>by omega,.inr rfl⟩
   have:((i:Int)==(N:Int)-1)=false:=by simp; omega
   simp only [J9,hw,this,cond_false]
 unfold a14
 rw [hb]
 simp only [Option.bind_some]
 obtain ⟨c,t,e,ht,c0,c1⟩:=Q1 hL h (n:=b) (by omega) (by omega)
 rw [e]
 simp only [Option.bind_some]
 have ix:∀ {s:Semtypebase_Source},OS L s->∀ (m f:Nat),m<=4->f<N->∃ l t,k7 s (m:Int) (f:Int) (N:Int)=some (l,t)/\OS L t/\l.length=m/\∀ k∈l,(f:Int)<=k/\k<(N:Int):=fun hs m f hm hf=>c5w hL hs m f N hm hf hN2
 have hc:c=0\/c=1\/c=2\/c=3\/c=4\/c=5\/c=6\/c=7\/c=8\/c=9\/c=10\/c=11\/c=12\/c=13\/c=14\/c=15\/c=16\/c=17:=by omega
 have tup:∀ {s:Semtypebase_Source},OS L s->∃ x t,(Option.bind (y2 s 3) fun r19=>Option.bind (k7 r19.2 r19.1 0 (N:Int)) fun r20=>some (c15 10 r20.1,r20.2))=some (x,t)/\OS L t/\GN N i x:=fun hs=>by
  obtain ⟨m,t2,e2,ht2,m0,m1⟩:=Q1 hL hs (n:=3) (by omega) (by omega)
  obtain ⟨m,rfl⟩:=b1v m0
  obtain ⟨l,t3,e3,ht3,hl,hr⟩:=ix ht2 m 0 (by omega) (by omega)
  rw [e2]
  simp only [Option.bind_some]
  have e3':k7 t2 (m:Int) 0 (N:Int)=some (l,t3):=e3
  rw [e3']
  refine ⟨_,t3,rfl,ht3,b0H (l:=l) (b0y hr) (show l.length<=4 by omega) ?_ (fun h=>by omega)⟩
  show decide ((l.length:Int)<=4)=true
  exact decide_eq_true (by omega)
 have fun_:∀ {s:Semtypebase_Source},OS L s->∃ x t,(Option.bind (y2 s 3) fun r24=>Option.bind (k7 r24.2 (w64 (1+r24.1)) 0 (N:Int)) fun r25=>some (c15 14 r25.1,r25.2))=some (x,t)/\OS L t/\GN N i x:=fun hs=>by
  obtain ⟨m,t2,e2,ht2,m0,m1⟩:=Q1 hL hs (n:=3) (by omega) (by omega)
  obtain ⟨m,rfl⟩:=b1v m0
  obtain ⟨l,t3,e3,ht3,hl,hr⟩:=ix ht2 (m+1) 0 (by omega) (by omega)
  rw [e2]
  simp only [Option.bind_some]
  have e3':k7 t2 (w64 (1+(m:Int))) 0 (N:Int)=some (l,t3):=by
   rw [W8 (by omega) (by omega),show 1+(m:Int)=((m+1:Nat):Int) by omega]
   exact e3
  rw [e3']
  refine ⟨_,t3,rfl,ht3,b0H (l:=l) (b0y hr) (show l.length<=4 by omega) ?_ (fun h=>by omega)⟩
  show (decide (1<=(l.length:Int))&&decide ((l.length:Int)<=5))=true
  rw [Bool.and_eq_true]
  exact ⟨decide_eq_true (by omega),decide_eq_true (by omega)⟩
 have uni:i+1<N->∀ {s:Semtypebase_Source},OS L s->∃ x t,(Option.bind (y2 s 2) fun r28=>Option.bind (k7 r28.2 (w64 (2+r28.1)) (w64 ((i:Int)+1)) (N:Int)) fun r29=>some (c15 16 r29.1,r29.2))=some (x,t)/\OS L t/\GN N i x:=fun hlt s hs=>by
  obtain ⟨m,t2,e2,ht2,m0,m1⟩:=Q1 hL hs (n:=2) (by omega) (by omega)
  obtain ⟨m,rfl⟩:=b1v m0
  obtain ⟨l,t3,e3,ht3,hl,hr⟩:=ix ht2 (m+2) (i+1) (by omega) hlt
  rw [e2]
  simp only [Option.bind_some]
  have e3':k7 t2 (w64 (2+(m:Int))) (w64 ((i:Int)+1)) (N:Int)=some (l,t3):=by
   rw [W8 (x:=2+(m:Int)) (by omega) (by omega),hwi,show 2+(m:Int)=((m+2:Nat):Int) by omega]
   exact e3
  rw [e3']
  refine ⟨_,t3,rfl,ht3,b0H (l:=l) (b0y hr) (show l.length<=4 by omega) ?_ (fun _ x hx=>by have:=hr x hx; omega)⟩
  show decide (1<=(l.length:Int))=true
  exact decide_eq_true (by omega)
 rcases hc with rfl | rfl | rfl | rfl | rfl | rfl | rfl | rfl | rfl | rfl | rfl | rfl | rfl | rfl | rfl | rfl | rfl | rfl<;>simp only [Int.reduceBEq,cond_true,cond_false,Option.bind_some,J9]
 ·obtain ⟨a,t2,e2,ht2,a0,a1⟩:=Q1 hL ht (n:=5) (by omega) (by omega)
  obtain ⟨d,t3,e3,ht3,d0,d1⟩:=Q1 hL ht2 (n:=w64 (5-a)) (by rw [W8 (by omega) (by omega)]; omega) (by rw [W8 (by omega) (by omega)]; omega)
  rw [W8 (x:=5-a) (by omega) (by omega)] at d1
  rw [e2]
  simp only [Option.bind_some]
  rw [e3]
  simp only [Option.bind_some]
  rw [W8 (x:=a+d) (by omega) (by omega)]
  have ha:a=0\/a=1\/a=2\/a=3\/a=4:=by omega
  have hd:d=0\/d=1\/d=2\/d=3\/d=4:=by omega
  rcases ha with rfl | rfl | rfl | rfl | rfl<;>rcases hd with rfl | rfl | rfl | rfl | rfl<;>first | (exfalso; omega) | exact ⟨_,t3,rfl,ht3,d0X (by decide) (by decide)⟩
 ·obtain ⟨x,t2,e2,ht2,hx⟩:=a8P hL ht
  have hf:=List.all_eq_true.1 b0l x hx
  simp only [Bool.and_eq_true,decide_eq_true_eq] at hf
  rw [e2]
  exact ⟨_,t2,rfl,ht2,c39 hf.2 (.inr (.inl ⟨rfl,hf.1⟩))⟩
 ·exact ⟨_,t,rfl,ht,c0x (by omega)⟩
 ·obtain ⟨x,t2,e2,ht2,hx⟩:=b8v hL ht
  have hf:=List.all_eq_true.1 b0n x hx
  simp only [decide_eq_true_eq] at hf
  rw [e2]
  exact ⟨_,t2,rfl,ht2,c39 hf (.inl rfl)⟩
 ·obtain ⟨a,t2,e2,ht2,a0,a1⟩:=Q1 hL ht (n:=4) (by omega) (by omega)
  rw [e2]
  have ha:a=0\/a=1\/a=2\/a=3:=by omega
  rcases ha with rfl | rfl | rfl | rfl<;>exact ⟨_,t2,rfl,ht2,c0x (by omega)⟩
 ·exact ⟨_,t,rfl,ht,c0x (by omega)⟩
 ·obtain ⟨a,t2,e2,ht2,a0,a1⟩:=Q1 hL ht (n:=2) (by omega) (by omega)
  rw [e2]
  have ha:a=0\/a=1:=by omega
  rcases ha with rfl | rfl<;>exact ⟨_,t2,rfl,ht2,c0x (by omega)⟩
 ·obtain ⟨x,t2,e2,ht2,hx⟩:=b9G hL ht
  have hf:=List.all_eq_true.1 c7k x hx
  simp only [Bool.and_eq_true,decide_eq_true_eq] at hf
  rw [e2]
  exact ⟨_,t2,rfl,ht2,c39 hf.2 (.inr (.inr ⟨rfl,hf.1⟩))⟩
 ·exact tup ht
 ·exact tup ht
 ·obtain ⟨l,t3,e3,ht3,hl,hr⟩:=ix ht 2 0 (by omega) (by omega)
  have e3':k7 t 2 0 (N:Int)=some (l,t3):=e3
  rw [e3']
  refine ⟨_,t3,rfl,ht3,b0H (l:=l) (b0y hr) (show l.length<=4 by omega) ?_ (fun h=>by omega)⟩
  show ((l.length:Int)==2)=true
  simp [hl]
 ·obtain ⟨x,t2,e2,ht2,hg⟩:=c5I hL ht N i (by omega) hN2
  rw [e2]
  exact ⟨x,t2,rfl,ht2,hg⟩
 ·exact fun_ ht
 ·exact fun_ ht
 ·have hlt:=hlast (by omega)
  obtain ⟨l,t3,e3,ht3,hl,hr⟩:=ix ht 1 (i+1) (by omega) hlt
  have e3':k7 t 1 (w64 ((i:Int)+1)) (N:Int)=some (l,t3):=by rw [hwi]; exact e3
  rw [e3']
  refine ⟨_,t3,rfl,ht3,b0H (l:=l) (b0y hr) (show l.length<=4 by omega) ?_ (fun _ x hx=>by have:=hr x hx; omega)⟩
  show ((l.length:Int)==1)=true
  simp [hl]
 ·have hlt:=hlast (by omega)
  obtain ⟨l,t3,e3,ht3,hl,hr⟩:=ix ht 2 (i+1) (by omega) hlt
  have e3':k7 t 2 (w64 ((i:Int)+1)) (N:Int)=some (l,t3):=by rw [hwi]; exact e3
  rw [e3']
  refine ⟨_,t3,rfl,ht3,b0H (l:=l) (b0y hr) (show l.length<=4 by omega) ?_ (fun _ x hx=>by have:=hr x hx; omega)⟩
  show decide (1<=(l.length:Int))=true
  exact decide_eq_true (by omega)
 ·exact uni (hlast (by omega)) ht
 ·exact uni (hlast (by omega)) ht
def GNs (N:Nat)(ns:List Api_TypeNode):Prop:=∀ (i:Nat) (x:Api_TypeNode),ns[i]?=some x->GN N i x
theorem GNs.snoc {N:Nat}{ns:List Api_TypeNode}{x:Api_TypeNode}(h:GNs N ns)(hx:GN N ns.length x):GNs N (ns++[x]):=fun i y hy=>by
 by_cases hi:i<ns.length
 ·rw [List.getElem?_append_left hi] at hy
  exact h i y hy
 ·have hlt:=(List.getElem?_eq_some_iff.1 hy).1
  simp only [List.length_append,List.length_cons,List.length_nil] at hlt
  have e:i=ns.length:=by omega
  subst e
  simp at hy
  subst hy
  exact hx
theorem c8v (hL:L.length<=4194304){s:Semtypebase_Source}(h:OS L s)(N:Nat)(hN:1<=N)(hN2:N<=100):∃ ns t,a01 s (N:Int)=some (Api_Type.mk ns 0,t)/\OS L t/\ns.length=N/\GNs N ns:=by
 unfold a01
 have hmax:max (N:Int) 1=(N:Int):=by omega
 rw [hmax,Int.toNat_natCast]
 obtain ⟨g,s',e,hs',h1,h2⟩:=c0R (γ:=List Api_TypeNode) (L:=L) (step:=a0y (N:Int)) (fun g j s=>(j,s,(g,0))) (fun g s=>(s,(g,0))) (fun j g=>g.length=j/\GNs N g) N
  (fun j g s hj hI hs=>by
    obtain ⟨x,t,e,ht,hx⟩:=c9c hL hs N j hj hN2
    refine ⟨g++[x],t,?_,ht,by simp [hI.1],hI.2.snoc (by rw [hI.1]; exact hx)⟩
    unfold a0y
    simp only [J9,hmax]
    rw [a0h hj,e]
    simp only [cond_true,Option.bind_some]
    rw [W4 (by simp only [List.length_cons,List.length_nil]; have:=hI.1; omega),Y3 j (by omega)]
    rfl) (fun g s=>by
    unfold a0y
    simp [hmax]) N 0 (N+1) [] s (by omega) (Nat.le_refl _) ⟨rfl,fun i x hx=>by simp at hx⟩ h
 have e':y9 (a0y (N:Int)) (N+1) (0,s,([],0))=some (s',(g,0)):=e
 rw [e']
 exact ⟨g,s',rfl,hs',h1,h2⟩
end
end Go.Pl
end
section
namespace Go.Pl
open Go Go.RowKit Go.Sx Go.Qx
end Go.Pl
end
section
namespace Go.Pl
open Go Go.RowKit Go.Sx Go.Qx
structure CmpOk {α:Type}(c:α->α->Int):Prop where
 anti:∀ a b,c b a = - c a b
 trans:∀ a b d,c a b<=0->c b d<=0->c a d<=0
 eq0:∀ a b,c a b=0->a=b
section
variable {α:Type}{c:α->α->Int}(hc:CmpOk c)
include hc
theorem CmpOk.self (a:α):c a a=0:=by have:=hc.anti a a; omega
theorem CmpOk.strict {a b d:α}(h1:c a b<0)(h2:c b d<=0):c a d<0:=by
 have h3:=hc.trans a b d (by omega) h2
 by_cases h:c a d=0
 ·have:=hc.eq0 _ _ h
  subst this
  have:=hc.anti a b
  omega
 ·omega
theorem CmpOk.nodup {l:List α}(h:l.Pairwise fun a b=>c a b<0):l.Nodup:=h.imp fun {a b} h e=>by
 subst e
 have:=hc.self a
 omega
omit hc in
def a9J (c:α->α->Int)(out:List α)(x:α):List α :=
 match (out.dropWhile (fun y=>decide (c y x<0))).head? with
 | some y=>if c y x=0 then out else a0a (fun y=>decide (c y x<0)) x out
 | none=>a0a (fun y=>decide (c y x<0)) x out
omit hc in
def dd (r:α->α->Bool):α->List α->List α
 | _,[]=>[]
 | p,x::l=>if r x p=true then dd r x l else x::dd r x l
end
section
variable {α:Type}{r:α->α->Bool}
end
end Go.Pl
namespace Go.Pl
open Go Go.RowKit Go.Sx Go.Qx
theorem c83 (x y:ByteArray):J5 x y=decide (cS x y=0):=by
 rcases a6V x y with ⟨_,h,e⟩ | ⟨_,h,e⟩ | ⟨_,h,e⟩<;>simp [h,e]
theorem c9k (x y:ByteArray):a1U x y=decide (cS x y<0):=by
 rcases a6V x y with ⟨h,_,e⟩ | ⟨h,_,e⟩ | ⟨h,_,e⟩<;>simp [h,e]
theorem c5P (l out:List ByteArray)(i:Nat)(x:ByteArray)(hx:l[i]?=some x)(hl:out.length<=4194304)(hi:i<=4194304) :
 a0g l (out,(i:Int))=some (.next (a9J cS out x,((i+1:Nat):Int))):=by
 have hlt:i<l.length:=(List.getElem?_eq_some_iff.1 hx).1
 have hix:idx l (i:Int)=some x:=Y5 hx
 unfold a0g
 simp only [X7]
 rw [c4i (step:=a2u l (out,(i:Int))) out (fun y=>decide (cS y x<0)) ?_ ?_]
 ·simp only [a0O,J9]
  rw [if_pos (by simp; omega)]
  simp only [Option.bind_some,hix]
  have hk:=b4Q (fun y=>decide (cS y x<0)) out
  have hat:=c3I (fun y=>decide (cS y x<0)) out
  have go:(Option.bind (cut out 0 ((out.takeWhile (fun y=>decide (cS y x<0))).length:Int)) fun u=>Option.bind (Z1 (0+u.length) 16) fun _ =>
   Option.bind (Z1 (u.length+[x].length) 16) fun _=>Option.bind (cut out ((out.takeWhile (fun y=>decide (cS y x<0))).length:Int) (out.length:Int)) fun w =>
   Option.bind (Z1 ((u++[x]).length+w.length) 16) fun _=>some ((u++[x])++w))=some (a0a (fun y=>decide (cS y x<0)) x out) :=
   c7j out x _ 16 (by omega) hl (fun l=>some l)
  rw [Y3 i (by omega),go]
  unfold a9J
  cases hh:(out.dropWhile (fun y=>decide (cS y x<0))).head? with
  | none =>
    rw [hh] at hat
    have hge:=List.getElem?_eq_none_iff.1 hat
    rw [if_neg (by simp; omega)]
    rfl
  | some y =>
    rw [hh] at hat
    have hlt2:=(List.getElem?_eq_some_iff.1 hat).1
    rw [if_pos (by simp; omega),Y5 hat]
    simp only [Option.bind_some,c83]
    by_cases h0:cS y x=0
    ·rw [if_pos (by simp [h0]),if_pos h0]
     rfl
    ·rw [if_neg (by simp [h0]),if_neg h0]
     rfl
 ·intro j y hy
  have hj:j<out.length:=(List.getElem?_eq_some_iff.1 hy).1
  unfold a2u
  simp only [a0O,J9]
  rw [if_pos (by simp; omega),Y5 hy,hix]
  simp only [Option.bind_some,c9k,Y3 j (by omega)]
  by_cases h:cS y x<0<;>simp [h]
 ·unfold a2u
  simp
theorem c8R {α:Type}(c:α->α->Int)(out:List α)(x:α):(a9J c out x).length<=out.length+1:=by
 unfold a9J
 split
 ·split
  ·omega
  ·rw [a5A]; omega
 ·rw [a5A]; omega
theorem c2K (l:List ByteArray)(hl:l.length<=4194304):X2 l=some (l.foldl (a9J cS) []):=by
 unfold X2
 have key:=b7Y (σ:=List ByteArray) (step:=a0g l) l (fun s i=>(s,(i:Int))) (a9J cS) (fun i s=>s.length<=i) (fun s=>s)
  ?_ ?_ [] (by simp) _ (Nat.le_refl _)
 ·have e:y9 (a0g l) (l.length+1) (([]:List ByteArray),0)=y9 (a0g l) (l.length+1) (([]:List ByteArray),((0:Nat):Int)):=rfl
  rw [X7,e,key]
  rfl
 ·intro i s x hx hI
  have hi:i<l.length:=(List.getElem?_eq_some_iff.1 hx).1
  refine ⟨c5P l s i x hx (by omega) (by omega),?_⟩
  have:=c8R cS s x
  omega
 ·intro s _
  unfold a0g
  simp
theorem b0X (a b:List ByteArray):J2 (a++b)=J2 a+J2 b:=by
 induction a with
 | nil=>simp [J2]
 | cons x r ih=>simp only [List.cons_append,J2,ih]; omega
theorem c76 (out:List ByteArray)(x:ByteArray):J2 (a9J cS out x)<=J2 out+a0Z x:=by
 have hk:∀ p:ByteArray->Bool,J2 (a0a p x out)=J2 out+a0Z x:=fun p=>by
  have e:=congrArg J2 (List.takeWhile_append_dropWhile (p:=p) (l:=out))
  rw [b0X] at e
  simp only [a0a,b0X,J2]
  omega
 unfold a9J
 split
 ·split
  ·omega
  ·rw [hk]; omega
 ·rw [hk]; omega
theorem b59:∀ (l out:List ByteArray),J2 (l.foldl (a9J cS) out)<=J2 out+J2 l
 | [],out=>by simp [J2]
 | x::r,out=>by
   have h1:=b59 r (a9J cS out x)
   have h2:=c76 out x
   simp only [List.foldl_cons,J2]
   omega
section
variable {α:Type}{r:α->α->Bool}
end
end Go.Pl
end
section
namespace Go.Pl
open Go Go.RowKit Go.Sx Go.Qx
section
variable {L:List Int}{t:Api_Type}{N b:Nat}{h:Nat}{rN:Semtypebase_Source->Api_Type->Int->Int->Option (Val×Semtypebase_Source)}
def a6T (L:List Int)(t:Api_Type)(N b h:Nat)(rN:Semtypebase_Source->Api_Type->Int->Int->Option (Val×Semtypebase_Source)):Prop :=
 ∀ (k:Nat) (s:Semtypebase_Source),k<N->OS L s->∃ v u,rN s t (k:Int) (h:Int)=some (v,u)/\OS L u/\vOK v=true/\Z9 v<=b
theorem b60 {N:Nat}{x:Api_TypeNode}(hx:X6 N x=true){j:Nat}(hj:j<x.Kids.length):∃ k:Nat,idx x.Kids (j:Int)=some (k:Int)/\x.Kids[j]?=some (k:Int)/\k<N:=by
 have e:=List.getElem?_eq_getElem hj
 obtain ⟨k,hk,hk2⟩:=a4R (a4n hx _ (List.getElem_mem hj))
 rw [hk] at e
 exact ⟨k,Y5 e,e,hk2⟩
theorem c0N (hd:a6T L t N b h rN){x:Api_TypeNode}(hx:X6 N x=true)(hl:x.Kids.length<=4)(hh:h<=10){s:Semtypebase_Source}(hs:OS L s) :
 ∃ g u,y9 (a0z t ((h:Int)+1) x rN) (x.Kids.length+1) (0,s,(0,0,(⟨#[]⟩:ByteArray),[],[],[],[]))=some (u,(0,0,(⟨#[]⟩:ByteArray),g,[],[],[]))/\OS L u/\g.length=x.Kids.length/\v7 g<=x.Kids.length*b:=by
 have hw:w64 ((h:Int)+1-1)=(h:Int):=by rw [W8 (by omega) (by omega)]; omega
 obtain ⟨g,u,e,hu,h1,h2⟩:=c0R (γ:=List Val) (L:=L) (step:=a0z t ((h:Int)+1) x rN) (fun g j s=>(j,s,(0,0,(⟨#[]⟩:ByteArray),g,[],[],[]))) (fun g s=>(s,(0,0,(⟨#[]⟩:ByteArray),g,[],[],[]))) (fun j g=>g.length=j/\v7 g<=j*b) x.Kids.length
  (fun j g s hj hI hs=>by
    obtain ⟨k,e1,_,e2⟩:=b60 hx hj
    obtain ⟨v,u,e3,hu,_,hb⟩:=hd k s e2 hs
    refine ⟨g++[v],u,?_,hu,by simp [hI.1],by rw [a2S,Nat.add_mul]; simp only [v7]; have:=hI.2; omega⟩
    unfold a0z
    simp only [J9,hw]
    rw [a0h hj,e1]
    simp only [cond_true,Option.bind_some]
    rw [e3]
    simp only [Option.bind_some]
    rw [W4 (by simp only [List.length_cons,List.length_nil]; have:=hI.1; omega),Y3 j (by omega)]
    rfl) (fun g s=>by
    unfold a0z
    simp) x.Kids.length 0 (x.Kids.length+1) [] s (by omega) (Nat.le_refl _) ⟨rfl,by simp [v7]⟩ hs
 exact ⟨g,u,e,hu,h1,h2⟩
theorem c7C (hd:a6T L t N b h rN){x:Api_TypeNode}(hx:X6 N x=true)(hl:x.Kids.length<=4)(h1l:1<=x.Kids.length)(hh:h<=10){s:Semtypebase_Source}(hs:OS L s) :
 ∃ g u,y9 (J8 t x ((h:Int)+1) rN) ((w64 ((x.Kids.length:Int)-1)).toNat+1) (0,s,([],false,0,0,(⟨#[]⟩:ByteArray),[],[],[],[]))=some (u,(g,false,0,0,(⟨#[]⟩:ByteArray),[],[],[],[]))/\OS L u/\g.length=x.Kids.length-1/\a1I g=true/\v7 g<=3*b:=by
 have hw:w64 ((h:Int)+1-1)=(h:Int):=by rw [W8 (by omega) (by omega)]; omega
 have hw2:w64 ((x.Kids.length:Int)-1)=((x.Kids.length-1:Nat):Int):=by rw [W8 (by omega) (by omega)]; omega
 rw [hw2,Int.toNat_natCast]
 obtain ⟨g,u,e,hu,h1,h2,h3⟩:=c0R (γ:=List Val) (L:=L) (step:=J8 t x ((h:Int)+1) rN) (fun g j s=>(j,s,(g,false,0,0,(⟨#[]⟩:ByteArray),[],[],[],[]))) (fun g s=>(s,(g,false,0,0,(⟨#[]⟩:ByteArray),[],[],[],[]))) (fun j g=>g.length=j/\a1I g=true/\v7 g<=j*b) (x.Kids.length-1)
  (fun j g s hj hI hs=>by
    obtain ⟨k,e1,_,e2⟩:=b60 hx (show j<x.Kids.length by omega)
    obtain ⟨v,u,e3,hu,ho,hb⟩:=hd k s e2 hs
    refine ⟨g++[v],u,?_,hu,by simp [hI.1],by rw [b5T,hI.2.1]; simp [a1I,ho],by rw [a2S,Nat.add_mul]; simp only [v7]; have:=hI.2.2; omega⟩
    unfold J8
    simp only [J9,hw,hw2]
    rw [a0h hj,e1]
    simp only [cond_true,Option.bind_some]
    rw [e3]
    simp only [Option.bind_some]
    rw [W4 (by simp only [List.length_cons,List.length_nil]; have:=hI.1; omega),Y3 j (by omega)]
    rfl) (fun g s=>by
    unfold J8
    simp [J9,hw2]) (x.Kids.length-1) 0 (x.Kids.length-1+1) [] s (by omega) (Nat.le_refl _) ⟨rfl,rfl,by simp [v7]⟩ hs
 have e':y9 (J8 t x ((h:Int)+1) rN) (x.Kids.length-1+1) (0,s,([],false,0,0,(⟨#[]⟩:ByteArray),[],[],[],[]))=some (u,(g,false,0,0,(⟨#[]⟩:ByteArray),[],[],[],[])):=e
 refine ⟨g,u,e',hu,h1,h2,Nat.le_trans h3 (Nat.mul_le_mul_right _ (by omega))⟩
theorem c7U (hL:L.length<=4194304)(hd:a6T L t N b h rN)(hb:8<=b){x:Api_TypeNode}(hx:X6 N x=true)(hl:x.Kids.length<=4)(h1l:1<=x.Kids.length)(hh:h<=10)(m:Nat)(hm:m<=2){s:Semtypebase_Source}(hs:OS L s) :
 ∃ es u,y9 (V3 t x ((h:Int)+1) rN) ((m:Int).toNat+2) ([],(m:Int),s)=some (es,u)/\OS L u/\Z3 es<=m*(4*b+3):=by
 have hw:w64 ((h:Int)+1-1)=(h:Int):=by rw [W8 (by omega) (by omega)]; omega
 have hw2:w64 ((x.Kids.length:Int)-1)=((x.Kids.length-1:Nat):Int):=by rw [W8 (by omega) (by omega)]; omega
 obtain ⟨g,u,e,hu,h1,h2⟩:=a8d (γ:=List Ent) (L:=L) (step:=V3 t x ((h:Int)+1) rN) (fun g n s=>(g,n,s)) (fun g s=>(g,s)) (fun j g=>g.length=j/\Z3 g<=j*(4*b+3)) m
  (fun j n g s hj hn hI hs=>by
    obtain ⟨ag,u1,e1,hu1,ha1,_,ha2⟩:=c7C hd hx hl h1l hh hs
    obtain ⟨z,u2,e2,hu2,_,_⟩:=Q1 hL hu1 (n:=6) (by omega) (by omega)
    obtain ⟨k,e3,_,e4⟩:=b60 hx (show x.Kids.length-1<x.Kids.length by omega)
    have fin:∀ (fl:Bool) (v:Val) (u3:Semtypebase_Source),OS L u3->Z9 v<=b->∃ g' s',(Option.bind (Z1 (g.length+([Ent.mk ag fl v]:List Ent).length) 160) fun _=>(some (Fl.next (g++([Ent.mk ag fl v]:List Ent),w64 (((n+1:Nat):Int)-1),u3)):Option (Fl (List Ent×Int×Semtypebase_Source) (List Ent×Semtypebase_Source))))=some (.next (g',(n:Int),s'))/\OS L s'/\(g'.length=j+1/\Z3 g'<=(j+1)*(4*b+3)):=fun fl v u3 hu3 hv=>by
     rw [W4 (by simp only [List.length_cons,List.length_nil]; have:=hI.1; omega),show w64 (((n+1:Nat):Int)-1)=(n:Int) by rw [W8 (by omega) (by omega)]; omega]
     refine ⟨_,u3,rfl,hu3,by simp [hI.1],?_⟩
     have hbe:=a3b (Ent.mk ag fl v)
     simp only [Ent.Args,Ent.Result] at hbe
     rw [b0d,Nat.add_mul]
     simp only [Z3,hbe]
     have:=hI.2
     omega
    unfold V3
    simp only [J9,hw,hw2]
    rw [show decide (0<((n+1:Nat):Int))=true from decide_eq_true (by omega)]
    rw [hw2] at e1
    rw [e1]
    simp only [cond_true,Option.bind_some]
    rw [e2]
    simp only [Option.bind_some]
    cases hz:z==1
    ·simp only [cond_false]
     obtain ⟨v,u3,e5,hu3,_,hv⟩:=hd k u2 e4 hu2
     rw [e3]
     simp only [Option.bind_some]
     rw [e5]
     simp only [Option.bind_some]
     have:=fin false v u3 hu3 hv
     cases v
     exact this
    ·simp only [cond_true,Option.bind_some]
     exact fin true a5T u2 hu2 (by rw [a5T,K8]; simp only [a2j,v7,k9,Z3]; omega)) (fun g s=>by
    unfold V3
    rfl) m 0 ((m:Int).toNat+2) [] s (by omega) (by omega) ⟨rfl,by simp [Z3]⟩ hs
 exact ⟨g,u,e,hu,by simpa using h2⟩
theorem c5D (hL:L.length<=4194304)(hd:a6T L t N b h rN){x:Api_TypeNode}(hf:∀ f∈x.Fields,inR N f.Node=true)(hk:∀ f∈x.Fields,a2v f.Key_<=8)(hl:x.Fields.length<=3)(hh:h<=10){s:Semtypebase_Source}(hs:OS L s) :
 ∃ ks vs u,y9 (X8 t x ((h:Int)+1) rN) (x.Fields.length+1) ([],[],0,s)=some (ks,vs,u)/\OS L u/\ks.length<=3/\vs.length<=3/\k9 ks<=24/\v7 vs<=3*b:=by
 have hw:w64 ((h:Int)+1-1)=(h:Int):=by rw [W8 (by omega) (by omega)]; omega
 obtain ⟨g,u,e,hu,h1,h2,h3,h4⟩:=c0R (γ:=List Key×List Val) (L:=L) (step:=X8 t x ((h:Int)+1) rN) (fun g j s=>(g.1,g.2,j,s)) (fun g s=>(g.1,g.2,s)) (fun j g=>g.1.length<=j/\g.2.length<=j/\k9 g.1<=j*8/\v7 g.2<=j*b) x.Fields.length
  (fun j g s hj hI hs=>by
    have ex:=List.getElem?_eq_getElem hj
    have hm:=List.getElem_mem hj
    generalize x.Fields[j]=f at ex hm
    obtain ⟨k,e1,e2⟩:=a4R (hf f hm)
    have hkb:=hk f hm
    have skip:∀ u,OS L u->∃ (g':List Key×List Val) (s':Semtypebase_Source),(some (Fl.next (g.1,g.2,w64 ((j:Int)+1),u)):Option (Fl (List Key×List Val×Int×Semtypebase_Source) (List Key×List Val×Semtypebase_Source)))=some (.next (g'.1,g'.2,((j+1:Nat):Int),s'))/\OS L s'/\(g'.1.length<=j+1/\g'.2.length<=j+1/\k9 g'.1<=(j+1)*8/\v7 g'.2<=(j+1)*b):=fun u hu=>by
     rw [Y3 j (by omega)]
     exact ⟨(g.1,g.2),u,rfl,hu,Nat.le_succ_of_le hI.1,Nat.le_succ_of_le hI.2.1,Nat.le_trans hI.2.2.1 (Nat.mul_le_mul_right _ (Nat.le_succ _)),Nat.le_trans hI.2.2.2 (Nat.mul_le_mul_right _ (Nat.le_succ _))⟩
    have take:∀ u,OS L u->∃ (g':List Key×List Val) (s':Semtypebase_Source),(Option.bind (Option.bind (Z1 (g.1.length+([f.Key_]:List Key).length) 24) fun _=>Option.bind (rN u t f.Node (h:Int)) fun r8=>Option.bind (Z1 (g.2.length+([r8.1]:List Val).length) 128) fun _=>some (g.1++([f.Key_]:List Key),g.2++([r8.1]:List Val),r8.2)) fun b10 =>
     (some (Fl.next (b10.1,b10.2.1,w64 ((j:Int)+1),b10.2.2)):Option (Fl (List Key×List Val×Int×Semtypebase_Source) (List Key×List Val×Semtypebase_Source))))=some (.next (g'.1,g'.2,((j+1:Nat):Int),s'))/\OS L s'/\(g'.1.length<=j+1/\g'.2.length<=j+1/\k9 g'.1<=(j+1)*8/\v7 g'.2<=(j+1)*b):=fun u hu=>by
     obtain ⟨v,u2,e3,hu2,_,hv⟩:=hd k u e2 hu
     rw [W4 (by simp only [List.length_cons,List.length_nil]; have:=hI.1; omega),e1,e3]
     simp only [Option.bind_some]
     rw [W4 (by simp only [List.length_cons,List.length_nil]; have:=hI.2.1; omega),Y3 j (by omega)]
     refine ⟨(g.1++[f.Key_],g.2++[v]),u2,rfl,hu2,?_,?_,?_,?_⟩
     ·simp only [List.length_append,List.length_cons,List.length_nil]; have:=hI.1; omega
     ·simp only [List.length_append,List.length_cons,List.length_nil]; have:=hI.2.1; omega
     ·rw [a5l]; simp only [k9]; have:=hI.2.2.1; omega
     ·rw [a2S,Nat.add_mul]; simp only [v7]; have:=hI.2.2.2; omega
    unfold X8
    simp only [J9,hw]
    rw [a0h hj,Y5 ex]
    simp only [cond_true,Option.bind_some]
    cases hO:f.Optional
    ·simp only [cond_false,Option.bind_some]
     exact take s hs
    ·simp only [cond_true]
     obtain ⟨z,u,e4,hu,_,_⟩:=Q1 hL hs (n:=2) (by omega) (by omega)
     rw [e4]
     simp only [Option.bind_some]
     cases hz:z==1
     ·simp only [cond_false]
      exact take u hu
     ·simp only [cond_true,Option.bind_some]
      exact skip u hu) (fun g s=>by
    unfold X8
    simp) x.Fields.length 0 (x.Fields.length+1) ([],[]) s (by omega) (Nat.le_refl _) ⟨Nat.le_refl _,Nat.le_refl _,by simp [k9],by simp [v7]⟩ hs
 refine ⟨g.1,g.2,u,e,hu,by omega,by omega,by omega,Nat.le_trans h4 (Nat.mul_le_mul_right _ hl)⟩
end
end Go.Pl
namespace Go.Pl
open Go Go.RowKit Go.Sx Go.Qx
structure GT (t:Api_Type):Prop where
 len:t.Nodes.length<=10
 nodes:GNs t.Nodes.length t.Nodes
def DB:Nat->Nat
 | 0=>300
 | h+1=>700+8*DB h
theorem c6Y {h:Nat}(hh:h<=4):DB h<=1638300:=by
 match h,hh with
 | 0,_=>decide
 | 1,_=>decide
 | 2,_=>decide
 | 3,_=>decide
 | 4,_=>decide
theorem d1K {h:Nat}(hh:h<=3):DB h<=204700:=by
 match h,hh with
 | 0,_=>decide
 | 1,_=>decide
 | 2,_=>decide
 | 3,_=>decide
theorem c8i (h:Nat):300<=DB h:=by cases h<;>simp [DB]; omega
theorem c4S (x:Val):∀ (l:List Val) (i:Nat),v7 (l.set i x)<=v7 l+Z9 x
 | [],_=>by simp [v7]
 | y::r,0=>by simp only [List.set_cons_zero,v7]; omega
 | y::r,i+1=>by have:=c4S x r i; simp only [List.set_cons_succ,v7]; omega
theorem c8O (k n:Int)(s:ByteArray)(a:List Val)(b:List Key)(c:List Ent)(l m:List ByteArray)(q:Nat)(h:J2 m<=J2 l+q):Z9 (Val.mk k n s a b c m)<=Z9 (Val.mk k n s a b c l)+q:=by
 simp only [Z9]; omega
theorem c5y {t:Api_Type}(hT:GT t){i:Nat}{x:Api_TypeNode}(hx:t.Nodes[i]?=some x)(v:Val)(hv:Z9 v<=2000000):∃ w,y9 (V0 t x) (x.Kids.length+1) (0,v)=some w/\Z9 w<=Z9 v+x.Kids.length*6:=by
 have hg:=hT.nodes i x hx
 have key:∀ (m a k:Nat) (w:Val),a+m=x.Kids.length->m+1<=k->Z9 w<=Z9 v+a*6->∃ w',y9 (V0 t x) k ((a:Int),w)=some w'/\Z9 w'<=Z9 v+x.Kids.length*6:=by
  intro m
  induction m with
  | zero =>
    intro a k w h1 h2 h3
    obtain ⟨k,rfl⟩:∃ m,k=m+1:=⟨k-1,by omega⟩
    have e:a=x.Kids.length:=by omega
    subst e
    have:V0 t x ((x.Kids.length:Int),w)=some (.done w):=by
     unfold V0
     simp
    exact ⟨w,by simp only [y9,this,Option.bind_some],h3⟩
  | succ m ih =>
    intro a k w h1 h2 h3
    obtain ⟨k,rfl⟩:∃ m,k=m+1:=⟨k-1,by omega⟩
    have ha:a<x.Kids.length:=by omega
    have hk4:=hg.kids
    obtain ⟨j,e1,_,hj⟩:=b60 hg.ok ha
    have e2:=List.getElem?_eq_getElem hj
    generalize t.Nodes[j]=y at e2
    have hy:=(hT.nodes j y e2).text
    have step:∃ w',V0 t x ((a:Int),w)=some (.next (((a+1:Nat):Int),w'))/\Z9 w'<=Z9 w+6:=by
     unfold V0
     simp only [J9]
     rw [a0h ha,e1]
     simp only [cond_true,Option.bind_some]
     rw [Y5 e2]
     simp only [Option.bind_some]
     rw [Y3 a (by omega)]
     cases hc:y.Kind==19
     ·simp only [cond_false,Option.bind_some]
      exact ⟨w,rfl,by omega⟩
     ·simp only [cond_true]
      obtain ⟨kk,n,s,kids,keys,ents,labs⟩:=w
      simp only [Val.Labels,Val.Kind,Val.Int_,Val.Text,Val.Kids,Val.Keys,Val.Entries]
      have hlab:labs.length<=Z9 (Val.mk kk n s kids keys ents labs):=by
       have:=a7s labs
       simp only [Z9]; omega
      rw [W4 (by omega),W4 (by simp only [List.length_cons,List.length_nil]; omega)]
      simp only [Option.bind_some]
      rw [c2K (labs++[y.Text]) (by simp only [List.length_append,List.length_cons,List.length_nil]; omega)]
      refine ⟨_,rfl,c8O _ _ _ _ _ _ _ _ 6 ?_⟩
      have h4:=b59 (labs++[y.Text]) []
      rw [b0X] at h4
      simp only [J2,a0Z] at h4
      omega
    obtain ⟨w',e3,h5⟩:=step
    simp only [y9,e3,Option.bind_some]
    exact ih (a+1) k w' (by omega) (by omega) (by omega)
 exact key x.Kids.length 0 (x.Kids.length+1) v (by omega) (Nat.le_refl _) (by omega)
theorem c8k {ks:List Key}{vs:List Val}{u:List Val×List Key}(h:a4N (ks.zip vs) ([],[])=some u):Z9 (b2E u)<=8+k9 ks+v7 vs:=by
 obtain ⟨_,_,_,_,_,m⟩:=b06 (ks.zip vs) ([],[]) u h rfl rfl
 have hz:=b74 ks vs
 simp only [v7,k9] at m
 simp only [b2E,K8,a2j,Z3]
 omega
section
variable {L:List Int}{t:Api_Type}
theorem c8W (hL:L.length<=4194304){b h:Nat}{rN}(hd:a6T L t t.Nodes.length b h rN)(hb:8<=b)(hb2:b<=300000)(hh:h<=10){i:Nat}{x:Api_TypeNode}(hg:GN t.Nodes.length i x)(hk:x.Kind=13){s:Semtypebase_Source}(hs:OS L s)(f:Nat)(r1:Semtypebase_Source->Api_Type->Int->Int->Option (Val×Semtypebase_Source))(r2 r3:Semtypebase_Source->Api_Type->Api_TypeNode->Int->Option (Val×Semtypebase_Source)) :
 ∃ v u,a19 f rN r1 r2 r3 s t x ((h:Int)+1)=some (v,u)/\OS L u/\Z9 v<=100+4*b:=by
 have hw:w64 ((h:Int)+1-1)=(h:Int):=by rw [W8 (by omega) (by omega)]; omega
 have hn:=hg.ok
 unfold X6 a44 a5V at hn
 simp only [hk] at hn
 simp only [Bool.and_eq_true] at hn
 have hn2:=hn.2.2.2.2
 simp at hn2
 obtain ⟨⟨_,_,hfn⟩,_,hr0,hr1⟩:=hn2
 obtain ⟨ks,vs,u,e,hu,l1,l2,b1,b2⟩:=c5D hL hd hfn hg.keys hg.flds hh hs
 obtain ⟨k0,hk0,hk0'⟩:=a4R hr0
 obtain ⟨k1,hk1,hk1'⟩:=a4R hr1
 unfold a19
 rw [X7,e]
 simp only [Option.bind_some]
 obtain ⟨z,u2,e2,hu2,_,_⟩:=Q1 hL hu (n:=2) (by omega) (by omega)
 rw [e2]
 simp only [Option.bind_some,J9,hw]
 have fin:∀ (ks:List Key) (vs:List Val) (u3:Semtypebase_Source),ks.length<=4->OS L u3->k9 ks<=40->v7 vs<=4*b->∃ v u,(Option.bind (a1S ks vs) fun r20=>bif r20.2 != 0 then (Option.bind (K6) fun r21=>some (r21,u3)) else (some (r20.1,u3)))=some (v,u)/\OS L u/\Z9 v<=100+4*b:=fun ks vs u3 q1 hu3 q2 q3=>by
  rw [c0B ks vs (by omega)]
  have nilb:Z9 (Val.mk 5 0 (⟨#[]⟩:ByteArray) ([]:List Val) ([]:List Key) ([]:List Ent) ([]:List ByteArray))<=100+4*b:=by
   rw [K8]; simp only [a2j,v7,k9,Z3]; omega
  by_cases hc:ks.length=vs.length/\ks.all a0b=true
  ·rw [if_pos hc]
   cases hm:a4N (ks.zip vs) ([],[]) with
   | none=>exact ⟨_,u3,rfl,hu3,nilb⟩
   | some t =>
     have:=c8k hm
     exact ⟨b2E t,u3,rfl,hu3,by omega⟩
  ·rw [if_neg hc]
   exact ⟨_,u3,rfl,hu3,nilb⟩
 have other:∀ (z:Int) (kk:Nat) (u4:Semtypebase_Source),kk<t.Nodes.length->OS L u4->∃ v u,(Option.bind (Option.bind (rN u4 t (kk:Int) (h:Int)) fun r15=>Option.bind (Z1 (vs.length+([r15.1]:List Val).length) 128) fun _=>some (ks++([Key.mk z (⟨#[111,116,104,101,114]⟩:ByteArray)]:List Key),vs++([r15.1]:List Val),r15.2)) fun b19 =>
  Option.bind (a1S b19.1 b19.2.1) fun r20=>bif r20.2 != 0 then (Option.bind (K6) fun r21=>some (r21,b19.2.2)) else (some (r20.1,b19.2.2)))=some (v,u)/\OS L u/\Z9 v<=100+4*b:=fun z kk u4 hkk hu4=>by
  obtain ⟨v,u5,e5,hu5,_,hv⟩:=hd kk u4 hkk hu4
  rw [e5]
  simp only [Option.bind_some]
  rw [W4 (by simp only [List.length_cons,List.length_nil]; omega)]
  simp only [Option.bind_some]
  refine fin _ _ u5 (by simp only [List.length_append,List.length_cons,List.length_nil]; omega) hu5 ?_ ?_
  ·rw [a5l]
   have:k9 ([Key.mk z (⟨#[111,116,104,101,114]⟩:ByteArray)]:List Key)<=10:=by
    simp only [k9,a2v,a0Z]
    decide
   omega
  ·rw [a2S]; simp only [v7]; omega
 cases hz:z==1
 ·simp only [cond_false,Option.bind_some]
  exact fin ks vs u2 (by omega) hu2 (by omega) (by omega)
 ·simp only [cond_true]
  obtain ⟨y,u3,e3,hu3,y0,y1⟩:=Q1 hL hu2 (n:=2) (by omega) (by omega)
  rw [e3]
  simp only [Option.bind_some]
  rw [W4 (by simp only [List.length_cons,List.length_nil]; omega)]
  simp only [Option.bind_some]
  have hy:y=0\/y=1:=by omega
  rcases hy with rfl | rfl
  ·simp only [Int.reduceBEq,cond_true]
   rw [hk0]
   exact other 0 k0 u3 hk0' hu3
  ·simp only [Int.reduceBEq,cond_true,cond_false]
   rw [hk1]
   exact other 1 k1 u3 hk1' hu3
theorem c8r (hL:L.length<=4194304){b h:Nat}{rN}(hd:a6T L t t.Nodes.length b h rN)(hb:8<=b)(hb2:b<=300000)(hh:h<=10){i:Nat}{x:Api_TypeNode}(hg:GN t.Nodes.length i x)(hk:x.Kind=14){s:Semtypebase_Source}(hs:OS L s)(f:Nat)(hf:9000000<=f)(r1:Semtypebase_Source->Api_Type->Int->Int->Option (Val×Semtypebase_Source))(r2 r3:Semtypebase_Source->Api_Type->Api_TypeNode->Int->Option (Val×Semtypebase_Source)) :
 ∃ v u,a1i f rN r1 r2 r3 s t x ((h:Int)+1)=some (v,u)/\OS L u/\Z9 v<=100+8*b:=by
 have hn:=hg.ok
 unfold X6 a44 at hn
 simp only [hk] at hn
 simp only [Bool.and_eq_true] at hn
 have hn2:=hn.2.2.2.2
 simp at hn2
 have hk4:=hg.kids
 have h1l:1<=x.Kids.length:=by omega
 obtain ⟨m,u,e,hu,m0,m1⟩:=Q1 hL hs (n:=3) (by omega) (by omega)
 obtain ⟨m,rfl⟩:=b1v m0
 obtain ⟨es,u2,e2,hu2,hbe⟩:=c7U hL hd hb hg.ok hk4 h1l hh m (by omega) hu
 unfold a1i
 rw [e]
 simp only [Option.bind_some]
 rw [e2]
 simp only [Option.bind_some]
 have hbe2:Z3 es<=2*(4*b+3):=Nat.le_trans hbe (Nat.mul_le_mul_right _ (by omega))
 rw [b2d f _ es (by omega) (by omega)]
 have hfb:=a8f es []
 simp only [Z3] at hfb
 by_cases hc:0<=(wr .i64 ((x.Kids.length:Int)-1))/\(wr .i64 ((x.Kids.length:Int)-1))<=4/\es.all (a2I (wr .i64 ((x.Kids.length:Int)-1)))=true
 ·rw [if_pos hc]
  refine ⟨_,u2,rfl,hu2,?_⟩
  simp only [b7M,K8,a2j,v7,k9]
  omega
 ·rw [if_neg hc]
  refine ⟨_,u2,rfl,hu2,?_⟩
  rw [K8]; simp only [a2j,v7,k9,Z3]; omega
end
end Go.Pl
namespace Go.Pl
open Go Go.RowKit Go.Sx Go.Qx
section
variable {L:List Int}{t:Api_Type}
def c1m (L:List Int)(t:Api_Type)(h:Nat):Prop:=∀ (k f:Nat) (s:Semtypebase_Source),k<t.Nodes.length->9000000+14*h+(10-k)<=f->OS L s ->
 ∃ v u,(z7 f).2.1 s t (k:Int) (h:Int)=some (v,u)/\OS L u/\Z9 v+24*k<=DB h
theorem c1q (hL:L.length<=4194304)(hT:GT t){h:Nat}(hh:h<=4)(hP:c1m L t h)(f:Nat)(hf:9000000+14*h+11<=f):a6T L t t.Nodes.length (DB h) h (z7 f).1:=by
 intro k s hk hs
 obtain ⟨f,rfl⟩:∃ m,f=m+1:=⟨f-1,by omega⟩
 obtain ⟨v,u,e,hu,hb⟩:=hP k f s hk (by omega) hs
 have hD:=c6Y hh
 show ∃ v u,a2U f (z7 f).1 (z7 f).2.1 (z7 f).2.2.1 (z7 f).2.2.2 s t (k:Int) (h:Int)=some (v,u)/\_
 unfold a2U
 rw [e]
 simp only [Option.bind_some]
 rw [b76 f v (by omega) (by omega)]
 simp only [Option.bind_some]
 cases hv:vOK v
 ·obtain ⟨w,u2,e2,hu2,h1,h2⟩:=b3z hL hu
  have:=c8i h
  simp only [Bool.not_false,cond_true]
  rw [e2]
  exact ⟨w,u2,rfl,hu2,h1,by omega⟩
 ·exact ⟨v,u,rfl,hu,hv,by omega⟩
theorem d1s (hL:L.length<=4194304)(hT:GT t):c1m L t 0:=by
 intro k f s hk hf hs
 obtain ⟨f,rfl⟩:∃ m,f=m+1:=⟨f-1,by omega⟩
 obtain ⟨v,u,e,hu,_,hb⟩:=b3z hL hs
 refine ⟨v,u,?_,hu,by have:=hT.len; simp only [DB]; omega⟩
 show a0G f (z7 f).1 (z7 f).2.1 (z7 f).2.2.1 (z7 f).2.2.2 s t (k:Int) ((0:Nat):Int)=some (v,u)
 unfold a0G
 have e0:decide (((0:Nat):Int)<=0)=true:=rfl
 rw [e0]
 simp only [cond_true,Option.bind_some]
 rw [e]
 rfl
theorem c7W (hL:L.length<=4194304)(hT:GT t){h:Nat}(hh:h<=3)(hP:c1m L t h):c1m L t (h+1):=by
 have key:∀ (d k f:Nat) (s:Semtypebase_Source),t.Nodes.length-k<=d->k<t.Nodes.length->9000000+14*(h+1)+(10-k)<=f->OS L s ->
  ∃ v u,(z7 f).2.1 s t (k:Int) ((h:Int)+1)=some (v,u)/\OS L u/\Z9 v+24*k<=DB (h+1):=by
  intro d
  induction d with
  | zero=>intro k f s h1 h2; omega
  | succ d ih =>
    intro k f s hd hk hf hs
    obtain ⟨f,rfl⟩:∃ m,f=m+1:=⟨f-1,by omega⟩
    have hlen:=hT.len
    have hD:=d1K hh
    have hDp:=c8i h
    have ex:=List.getElem?_eq_getElem hk
    generalize t.Nodes[k]=x at ex
    have hg:=hT.nodes k x ex
    have hn:=hg.ok
    have small:∀ {n:Nat},n<=440+8*DB h->n+24*k<=DB (h+1):=fun hn=>by simp only [DB]; omega
    show ∃ v u,a0G f (z7 f).1 (z7 f).2.1 (z7 f).2.2.1 (z7 f).2.2.2 s t (k:Int) ((h:Int)+1)=some (v,u)/\_
    have hQ:=c1q hL hT (show h<=4 by omega) hP f (by omega)
    unfold a0G
    have q0:decide ((h:Int)+1<=0)=false:=decide_eq_false (by omega)
    have q1:decide ((k:Int)<0)=false:=decide_eq_false (by omega)
    have q2:decide ((t.Nodes.length:Int)<=(k:Int))=false:=decide_eq_false (by omega)
    rw [q0,q1,q2,Y5 ex]
    simp only [cond_false,Option.bind_some]
    have kid:∀ (s:Semtypebase_Source),OS L s->isB x=true->1<=x.Kids.length->∃ (z:Int) (u:Semtypebase_Source) (k':Nat) (v:Val) (u':Semtypebase_Source),y2 s (x.Kids.length:Int)=some (z,u)/\idx x.Kids z=some (k':Int) /\
     (z7 f).2.1 u t (k':Int) ((h:Int)+1)=some (v,u')/\OS L u'/\Z9 v+24*(k+1)<=DB (h+1):=fun s hs hb h1=>by
     have h4:=hg.kids
     obtain ⟨z,u,e,hu,z0,z1⟩:=Q1 hL hs (n:=(x.Kids.length:Int)) (by omega) (by omega)
     obtain ⟨z,rfl⟩:=b1v z0
     obtain ⟨k',e1,e2,hk'⟩:=b60 hn (show z<x.Kids.length by omega)
     have hlt:=hg.ord hb _ (List.mem_of_getElem? e2)
     obtain ⟨v,u',e3,hu',hbv⟩:=ih k' f u (by omega) hk' (by omega) hu
     exact ⟨z,u,k',v,u',e,e1,e3,hu',by omega⟩
    have other:∃ v u,(Option.bind (a1T f s 2) fun r52=>some (r52.1,r52.2))=some (v,u)/\OS L u/\Z9 v+24*k<=DB (h+1):=by
     obtain ⟨v,u,e,hu,_,hb⟩:=d0B hL 1 f (by omega) (by omega) s hs
     have e':a1T f s 2=some (v,u):=e
     rw [e']
     exact ⟨v,u,rfl,hu,small (by have:Go.Pl.hb 1=320:=rfl; omega)⟩
    have hKinds:=a99 x.Kind
    rcases hKinds with hK | hK
    ·have kt:=hn
     unfold X6 a44 at kt
     rcases hK with hK | hK | hK | hK | hK | hK | hK | hK | hK | hK | hK | hK | hK | hK | hK | hK | hK | hK | hK<;>simp only [hK] at kt ⊢<;>simp only [Int.reduceBEq,cond_true,cond_false,Option.bind_some]
     ·exact other
     ·exact other
     ·have qd:∀ a:Int,b5o .i64 a 2=some (wr .i64 (a.tdiv 2)):=fun a=>rfl
      rw [qd,qd]
      simp only [Option.bind_some]
      obtain ⟨z,u,e,hu,z0,z1⟩:=Q1 hL hs (n:=3) (by omega) (by omega)
      rw [e]
      simp only [Option.bind_some]
      generalize wr .i64 (x.Lo+(wr .i64 ((wr .i64 (x.Hi.tdiv 2))-(wr .i64 (x.Lo.tdiv 2)))))=mid
      obtain ⟨y,ey,eg,_⟩:=b4N ([x.Lo,x.Hi,mid]:List Int) z0 (by simpa using z1)
      rw [ey,eg]
      refine ⟨_,u,rfl,hu,small ?_⟩
      rw [K8]; simp only [a2j,v7,k9,Z3]; omega
     ·refine ⟨_,s,rfl,hs,small ?_⟩
      have:=hg.text
      rw [K8]; simp only [v7,k9,Z3]; omega
     ·obtain ⟨w,u,e,hu,hw⟩:=b8v hL hs
      have hw2:=List.all_eq_true.1 b0n w hw
      simp only [decide_eq_true_eq] at hw2
      rw [e]
      refine ⟨_,u,rfl,hu,small ?_⟩
      rw [K8]; simp only [v7,k9,Z3]; omega
     ·refine ⟨_,s,rfl,hs,small ?_⟩
      have:=hg.text
      rw [K8]; simp only [v7,k9,Z3]; omega
     ·obtain ⟨w,u,e,hu,hw⟩:=a8P hL hs
      have hw2:=List.all_eq_true.1 b0l w hw
      simp only [Bool.and_eq_true,decide_eq_true_eq] at hw2
      rw [e]
      refine ⟨_,u,rfl,hu,small ?_⟩
      rw [K8]; simp only [v7,k9,Z3]; omega
     ·obtain ⟨z,u,e,hu,z0,z1⟩:=Q1 hL hs (n:=2) (by omega) (by omega)
      rw [e]
      refine ⟨_,u,rfl,hu,small ?_⟩
      rw [K8]; simp only [a2j,v7,k9,Z3]; omega
     ·refine ⟨_,s,rfl,hs,small ?_⟩
      rw [K8]; simp only [a2j,v7,k9,Z3]; omega
     ·obtain ⟨g,u,e,hu,hl,hb⟩:=c0N hQ hn hg.kids (by omega) hs
      rw [X7,e]
      refine ⟨_,u,rfl,hu,small ?_⟩
      have h4:=hg.kids
      have:x.Kids.length*DB h<=4*DB h:=Nat.mul_le_mul_right _ h4
      rw [K8]; simp only [a2j,k9,Z3]; omega
     ·exact other
     ·obtain ⟨g,u,e,hu,hl,hb⟩:=c0N hQ hn hg.kids (by omega) hs
      rw [X7,e]
      simp only [Option.bind_some]
      have h4:=hg.kids
      have h2:x.Kids.length=2:=by
       simp only [Bool.and_eq_true] at kt
       have:=kt.2.2.2.2
       simp at this
       omega
      have hgl:1<g.length:=by omega
      have eg:=List.getElem?_eq_getElem hgl
      generalize g[1]=w at eg
      have ei:idx g 1=some w:=Y5 (i:=1) eg
      have e1:(1:Int).toNat=1:=rfl
      rw [ei,e1,eg]
      simp only [Option.bind_some]
      have:x.Kids.length*DB h<=4*DB h:=Nat.mul_le_mul_right _ h4
      cases hw:w.Kind != 7
      ·simp only [cond_false,Option.bind_some]
       refine ⟨_,u,rfl,hu,small ?_⟩
       rw [K8]; simp only [a2j,k9,Z3]; omega
      ·simp only [cond_true]
       refine ⟨_,u,rfl,hu,small ?_⟩
       have hs:=c4S (Val.mk 5 0 (⟨#[]⟩:ByteArray) [] [] [] []) g 1
       rw [K8] at hs
       simp only [a2j,v7,k9,Z3] at hs
       rw [K8]; simp only [a2j,k9,Z3]; omega
     ·obtain ⟨f,rfl⟩:∃ m,f=m+1:=⟨f-1,by omega⟩
      have hQ2:=c1q hL hT (show h<=4 by omega) hP f (by omega)
      obtain ⟨v,u,e,hu,hb⟩:=c8W hL hQ2 (by omega) (by omega) (by omega) hg hK hs f (z7 f).2.1 (z7 f).2.2.1 (z7 f).2.2.2
      have e':(z7 (f+1)).2.2.2 s t x ((h:Int)+1)=some (v,u):=e
      rw [e']
      exact ⟨v,u,rfl,hu,small (by omega)⟩
     ·obtain ⟨f,rfl⟩:∃ m,f=m+1:=⟨f-1,by omega⟩
      have hQ2:=c1q hL hT (show h<=4 by omega) hP f (by omega)
      obtain ⟨v,u,e,hu,hb⟩:=c8r hL hQ2 (by omega) (by omega) (by omega) hg hK hs f (by omega) (z7 f).2.1 (z7 f).2.2.1 (z7 f).2.2.2
      have e':(z7 (f+1)).2.2.1 s t x ((h:Int)+1)=some (v,u):=e
      rw [e']
      exact ⟨v,u,rfl,hu,small (by omega)⟩
     ·exact other
     ·have h1:1<=x.Kids.length:=by
       simp only [Bool.and_eq_true] at kt
       have:=kt.2.2.2.2
       simp at this
       omega
      obtain ⟨z,u,k',v,u',e1,e2,e3,hu',hb⟩:=kid s hs (by unfold isB; rw [hK]; rfl) h1
      rw [e1]
      simp only [Option.bind_some]
      rw [e2]
      simp only [Option.bind_some]
      rw [e3]
      exact ⟨v,u',rfl,hu',by omega⟩
     ·have h1:1<=x.Kids.length:=by
       simp only [Bool.and_eq_true] at kt
       have:=kt.2.2.2.2
       simp at this
       omega
      obtain ⟨z,u,k',v,u',e1,e2,e3,hu',hb⟩:=kid s hs (by unfold isB; rw [hK]; rfl) h1
      rw [e1]
      simp only [Option.bind_some]
      rw [e2]
      simp only [Option.bind_some]
      rw [e3]
      simp only [Option.bind_some]
      have hD2:=c6Y (show h+1<=4 by omega)
      obtain ⟨w,e4,hb4⟩:=c5y hT ex v (by omega)
      rw [X7,e4]
      have h4:=hg.kids
      exact ⟨w,u',rfl,hu',by omega⟩
     ·exact other
     ·obtain ⟨v,u,e,hu,_,hb⟩:=b3z hL hs
      rw [e]
      simp only [Option.bind_some]
      unfold a3R
      rw [c2K [x.Text] (by simp)]
      refine ⟨_,u,rfl,hu,small ?_⟩
      have h5:=hg.text
      have h6:=b59 [x.Text] []
      simp only [J2,a0Z] at h6
      have h7:=a5y v (List.foldl (a9J cS) [] [x.Text])
      unfold a5S at h7
      show Z9 (Val.mk v.Kind v.Int_ v.Text v.Kids v.Keys v.Entries (List.foldl (a9J cS) [] [x.Text]))<=_
      omega
    ·have e:∀ n:Int,1<=n->n<=19->¬ x.Kind=n:=fun n h1 h2=>by simpa using hK n h1 h2
     unfold X6 a44 at hn
     rw [if_neg (e 3 (by omega) (by omega)),if_neg (e 4 (by omega) (by omega)),if_neg (e 6 (by omega) (by omega)),if_neg (e 19 (by omega) (by omega)),if_neg (by have:=e 1 (by omega) (by omega); have:=e 2 (by omega) (by omega); have:=e 5 (by omega) (by omega); have:=e 7 (by omega) (by omega); have:=e 8 (by omega) (by omega); have:=e 9 (by omega) (by omega); have:=e 11 (by omega) (by omega); have:=e 15 (by omega) (by omega); omega),
      if_neg (e 10 (by omega) (by omega)),if_neg (e 12 (by omega) (by omega)),if_neg (e 14 (by omega) (by omega)),if_neg (by have:=e 16 (by omega) (by omega); have:=e 17 (by omega) (by omega); omega),if_neg (e 18 (by omega) (by omega)),if_neg (e 13 (by omega) (by omega))] at hn
     simp at hn
 intro k f s hk hf hs
 exact key t.Nodes.length k f s (by omega) hk hf hs
theorem c3Y (hL:L.length<=4194304)(hT:GT t):∀ h:Nat,h<=4->c1m L t h
 | 0,_=>d1s hL hT
 | h+1,hh=>c7W hL hT (by omega) (c3Y hL hT h (by omega))
theorem c97 (hL:L.length<=4194304)(hT:GT t)(f:Nat)(hf:10000000<=f)(h:Nat)(hh:h<=4):a6T L t t.Nodes.length 1638300 h (a15 f):=fun k s hk hs=>by
 obtain ⟨v,u,h1,h2,h3,h4⟩:=c1q hL hT hh (c3Y hL hT h hh) f (by omega) k s hk hs
 exact ⟨v,u,h1,h2,h3,Nat.le_trans h4 (c6Y hh)⟩
end
end Go.Pl
end
section
namespace Go.Pl
open Go Go.RowKit Go.Sx Go.Qx
end Go.Pl
namespace Go.Pl
open Go Go.RowKit Go.Sx Go.Qx
section
variable (μ:Val->Int->Bool)
end
section
variable {t:Api_Type}{f0 b:Nat}
end
end Go.Pl
namespace Go.Pl
open Go Go.RowKit Go.Sx Go.Qx
section
variable {t:Api_Type}
theorem GT.ord (hT:GT t){k:Nat}{x:Api_TypeNode}(hx:t.Nodes[k]?=some x)(hb:isB x=true){j:Int}(hj:j∈x.Kids):∃ j':Nat,j=(j':Int)/\k<j'/\j'<t.Nodes.length:=by
 have hg:=hT.nodes k x hx
 obtain ⟨j',e,h1⟩:=a4R (a4n hg.ok j hj)
 have:=hg.ord hb j hj
 exact ⟨j',e,by omega,h1⟩
end
end Go.Pl
namespace Go.Pl
open Go Go.RowKit Go.Sx Go.Qx
section
variable {t:Api_Type}
theorem GT.all (hT:GT t):a7f t.Nodes=true:=List.all_eq_true.2 fun x hx=>by
 obtain ⟨i,hi,rfl⟩:=List.getElem_of_mem hx
 exact (hT.nodes i _ (List.getElem?_eq_getElem hi)).ok
theorem GT.small (hT:GT t):∀ x∈t.Nodes,x.Kids.length<=1100000/\x.Fields.length<=1100000:=fun x hx=>by
 obtain ⟨i,hi,rfl⟩:=List.getElem_of_mem hx
 have hg:=hT.nodes i _ (List.getElem?_eq_getElem hi)
 have h1:=hg.kids
 have h2:=hg.flds
 omega
end
end Go.Pl
end
section
namespace Go.Pl
open Go Go.RowKit Go.Sx Go.Qx
theorem c9s (l:List (List Int))(hl:l.length<=1000):a3N l=some (l.all fun x=>!decide (80<(x.length:Int))):=by
 have l1:=a1O (step:=a1t l) l (fun x=>!decide (80<(x.length:Int))) (fun i=>(i:Int)) () false (fun i x hx=>by
  have hi:i<l.length:=(List.getElem?_eq_some_iff.1 hx).1
  unfold a1t
  rw [a0h hi,Y5 hx]
  simp only [cond_true,Option.bind_some,J9]
  rw [Y3 i (by omega)]
  cases decide (80<(x.length:Int))<;>rfl) (by
  unfold a1t
  simp)
 have l1':y9 (a1t l) (l.length+1) 0=_:=l1
 unfold a3N
 rw [X7,l1']
 cases l.all fun x=>!decide (80<(x.length:Int))<;>rfl
structure DT (T:Api_Type):Prop where
 gt:GT T
 one:1<=T.Nodes.length
 len:T.Nodes.length<=7
 root:inR T.Nodes.length T.Root=true
structure DV (v:Val):Prop where
 ok:vOK v=true
 bulk:Z9 v<=1638300
theorem os0 (L:List Int):OS L (Semtypebase_Source.mk L 0):=⟨rfl,by show (0:Int)<=0; omega,by show (0:Int)<=_; omega⟩
theorem c75 (l:List Int)(hl:l.length<=4194304):∃ T,DT T/\∀ m:List Int,m.length<=4194304->∀ n,10000000<=n->∃ v,a3K n l m=some (T,v)/\DV v:=by
 obtain ⟨x,t1,e1,h1,x0,x1⟩:=Q1 hl (os0 l) (n:=7) (by omega) (by omega)
 obtain ⟨x,rfl⟩:=b1v x0
 obtain ⟨ns,t2,e2,h2,hlen,hns⟩:=c8v hl h1 (x+1) (by omega) (by omega)
 have hgt:GT (Api_Type.mk ns 0):=⟨by show ns.length<=10; omega,by show GNs ns.length ns; rw [hlen]; exact hns⟩
 have hDT:DT (Api_Type.mk ns 0):=⟨hgt,by show 1<=ns.length; omega,by show ns.length<=7; omega,b73 (show (0:Int)<=0 by omega) (by show (0:Int)<(ns.length:Int); omega)⟩
 refine ⟨_,hDT,fun m hm n hn=>?_⟩
 obtain ⟨k,t3,e3,h3,k0,k1⟩:=Q1 hm (os0 m) (n:=(ns.length:Int)) (by omega) (by omega)
 obtain ⟨k,rfl⟩:=b1v k0
 obtain ⟨v,u,e4,_,hv,hb⟩:=c97 hm hgt n hn 4 (Nat.le_refl 4) k t3 (by show k<ns.length; omega) h3
 refine ⟨v,?_,hv,hb⟩
 unfold a3K
 rw [e1]
 simp only [Option.bind_some]
 rw [show wr .i64 (1+(x:Int))=((x+1:Nat):Int) by rw [J9,W8 (by omega) (by omega)]; omega]
 rw [show a01 t1 ((x+1:Nat):Int)=some (Api_Type.mk ns 0,t2) from e2]
 simp only [Option.bind_some]
 rw [e3]
 simp only [Option.bind_some]
 have e4':a15 n t3 (Api_Type.mk ns 0) (k:Int) 4=some (v,u):=e4
 rw [e4']
 rfl
end Go.Pl
end
section
namespace Go.Pl
open Go Go.RowKit Go.Sx Go.Qx
def a26 (_:Int):Nat:=1
def a8D (l:List Int):Nat:=(l.map a26).sum+1
def b8r (_:Bool):Nat:=1
def b2W (v:Api_Goal):Nat:=a8D v.Pos+a8D v.Neg+b8r v.Lists+1
def a4a (v:Api_Field):Nat:=a2v v.Key_+a26 v.Node+b8r v.Optional+1
def a8n (l:List Api_Field):Nat:=(l.map a4a).sum+1
def b7m (v:Int×Int):Nat:=a26 v.1+a26 v.2+1
def a0n (v:Api_TypeNode):Nat:=a26 v.Kind+a26 v.Lo+a26 v.Hi+a0Z v.Text+a8D v.Kids+a8n v.Fields+b7m v.Rest+1
def a9X (l:List Api_TypeNode):Nat:=(l.map a0n).sum+1
def a3Q (v:Api_Type):Nat:=a9X v.Nodes+a26 v.Root+1
theorem c6g {α:Type}(b:α->Nat):∀ {l:List α} {x:α},x∈l->b x<=(l.map b).sum
 | [],_,h=>by cases h
 | y::l,x,h=>by
   rw [List.map_cons,List.sum_cons]
   rcases List.mem_cons.1 h with rfl | h
   ·omega
   ·have:=c6g b h; omega
theorem c1N {α:Type}(b:α->Nat)(h:∀ x,1<=b x):∀ l:List α,l.length<=(l.map b).sum
 | []=>Nat.zero_le _
 | y::l=>by
   have h1:=h y
   have h2:=c1N b h l
   rw [List.map_cons,List.sum_cons,List.length_cons]
   omega
end Go.Pl
end
section
namespace Go.Pl
open Go Go.RowKit Go.Sx Go.Qx
section
variable {T:Api_Type}
def gIn (N:Nat)(g:Api_Goal):Bool:=g.Pos.all (inR N)&&g.Neg.all (inR N)
theorem c7P (g:Api_Goal)(h1:g.Pos.length<=1000000)(h2:g.Neg.length<=1000000):a4U T g=some (gIn T.Nodes.length g):=by
 unfold a4U a0l
 rw [W4 (by omega)]
 simp only [Option.bind_some]
 rw [W4 (by omega)]
 simp only [Option.bind_some,X7]
 have l1:=a1O (step:=a4f T g g.Pos) (g.Pos++g.Neg) (inR T.Nodes.length) (fun i=>(i:Int)) () false (fun i k hk=>by
  have hi:i<(g.Pos++g.Neg).length:=(List.getElem?_eq_some_iff.1 hk).1
  have hi':=hi
  rw [List.length_append] at hi'
  unfold a4f
  simp only [J9]
  rw [a0h hi,Y5 hk]
  simp only [cond_true,Option.bind_some]
  rw [Y3 i (by omega)]
  unfold inR
  by_cases a1:k<0
  ·have b1:decide (k<0)=true:=by simpa using a1
   have b2:decide (0<=k)=false:=by simp; omega
   rw [b1,b2]; rfl
  ·have b1:decide (k<0)=false:=by simpa using a1
   have b2:decide (0<=k)=true:=by simp; omega
   rw [b1,b2]
   by_cases a2:k<(T.Nodes.length:Int)
   ·have b3:decide ((T.Nodes.length:Int)<=k)=false:=by simp; omega
    have b4:decide (k<(T.Nodes.length:Int))=true:=by simpa using a2
    rw [b3,b4]; rfl
   ·have b3:decide ((T.Nodes.length:Int)<=k)=true:=by simp; omega
    have b4:decide (k<(T.Nodes.length:Int))=false:=by simpa using a2
    rw [b3,b4]; rfl) (by
  unfold a4f
  simp)
 have l1':y9 (a4f T g g.Pos) ((g.Pos++g.Neg).length+1) 0=_:=l1
 rw [l1',List.all_append]
 unfold gIn
 cases g.Pos.all (inR T.Nodes.length)&&g.Neg.all (inR T.Nodes.length)<;>rfl
theorem c6w (g:Api_Goal)(h1:g.Pos.length<=1000000)(h2:g.Neg.length<=1000000):a3p T g=some (gIn T.Nodes.length g):=by
 unfold a3p
 rw [W4 (by omega),W4 (by omega)]
 simp only [Option.bind_some,X7]
 have l1:=a1O (step:=a1k T g) (g.Pos++g.Neg) (inR T.Nodes.length) (fun i=>(i:Int)) () false (fun i k hk=>by
  have hi:i<(g.Pos++g.Neg).length:=(List.getElem?_eq_some_iff.1 hk).1
  have hi':=hi
  rw [List.length_append] at hi'
  unfold a1k
  simp only [J9]
  rw [a0h hi,Y5 hk]
  simp only [cond_true,Option.bind_some]
  rw [b0K,Y3 i (by omega)]
  exact b4m _ _) (by
  unfold a1k
  simp)
 have l1':y9 (a1k T g) ((g.Pos++g.Neg).length+1) 0=_:=l1
 rw [l1',List.all_append]
 unfold gIn
 cases g.Pos.all (inR T.Nodes.length)&&g.Neg.all (inR T.Nodes.length)<;>rfl
noncomputable def wfC (T:Api_Type):Int:=if inR T.Nodes.length T.Root&&a7f T.Nodes then (if a4V T.Nodes then 0 else 3) else 1
theorem c3N (hk:∀ x∈T.Nodes,x.Kids.length<=1100000/\x.Fields.length<=1100000)(hN:T.Nodes.length<=1100000)(g:Api_Goal)(h1:g.Pos.length<=1000000)(h2:g.Neg.length<=1000000)(n:Nat)(hn:1100001<=n)
 (h:(wfC T==0)=false\/gIn T.Nodes.length g=false):a06 n T g=some []:=by
 have hw:=d1M T hk hN n (by omega)
 have hw':W2 n T=some (wfC T):=hw
 have he:=c7P (T:=T) g h1 h2
 unfold a06
 rw [hw']
 simp only [Option.bind_some]
 cases hc:(wfC T==0) with
 | false =>
   have:(wfC T != 0)=true:=by unfold bne; rw [hc]; rfl
   rw [this]
   rfl
 | true =>
   have:(wfC T != 0)=false:=by unfold bne; rw [hc]; rfl
   rw [this]
   simp only [cond_false]
   rw [he,h.resolve_left (by rw [hc]; exact Bool.noConfusion)]
   rfl
end
theorem c7G {raw:Api_Type}(h:a3Q raw<=1048576):∀ x∈raw.Nodes,x.Kids.length<=1100000/\x.Fields.length<=1100000:=fun x hx=>by
 have h1:a0n x<=(raw.Nodes.map a0n).sum:=c6g a0n hx
 have h4:a3Q raw=(raw.Nodes.map a0n).sum+1+1+1:=rfl
 have h5:a0n x<=1048576:=by omega
 have h2:=c1N a26 (fun _=>Nat.le_refl _) x.Kids
 have h3:=c1N a4a (fun _=>by unfold a4a; omega) x.Fields
 unfold a0n a8D a8n at h5
 omega
theorem c96:a1B 200000000=some true:=by decide +kernel
theorem c3U (l:List Int)(g:Api_Goal)(raw:Api_Type)(hb:a3Q raw<=1048576):∃ n,a1x n l g raw=some true:=by
 have key:∀ n,200000000<=n->a1B n=some true->a1x n l g raw=some true:=by
  intro n hn ha
  unfold a1x
  rw [c9s _ (by simp),ha]
  simp only [Option.bind_some]
  by_cases hl:80<(l.length:Int)
  ·have:(List.all [l] fun x=>!decide (80<(x.length:Int)))=false:=by simp only [List.all_cons,decide_eq_true hl]; rfl
   rw [this]
   rfl
  have hs:(List.all [l] fun x=>!decide (80<(x.length:Int)))=true:=by simp only [List.all_cons,decide_eq_false hl]; rfl
  rw [hs]
  by_cases hp:6<(g.Pos.length:Int)
  ·rw [decide_eq_true hp]; rfl
  by_cases hq:6<(g.Neg.length:Int)
  ·rw [decide_eq_false hp,decide_eq_true hq]; rfl
  by_cases hr:20<(raw.Nodes.length:Int)
  ·rw [decide_eq_false hp,decide_eq_false hq,decide_eq_true hr]; rfl
  rw [decide_eq_false hp,decide_eq_false hq,decide_eq_false hr]
  simp only [Bool.not_true,cond_false,Option.bind_some]
  obtain ⟨T,hT,hv⟩:=c75 l (by omega)
  obtain ⟨v,e1,_⟩:=hv [] (by simp) n (by omega)
  rw [e1]
  simp only [Option.bind_some]
  rw [c6w g (by omega) (by omega)]
  simp only [Option.bind_some]
  have hlen:=hT.gt.len
  have hb9:(bif !(gIn T.Nodes.length g) then Option.bind (a06 n T g) fun r8=>some (decide (0<(r8.length:Int))) else some false)=some false:=by
   cases hg:gIn T.Nodes.length g with
   | false =>
     simp only [Bool.not_false,cond_true]
     rw [c3N hT.gt.small (by omega) g (by omega) (by omega) n (by omega) (.inr hg)]
     rfl
   | true=>rfl
  rw [hb9]
  simp only [Option.bind_some,cond_false]
  have hk:=c7G hb
  have hw:=d0Q raw hk (by omega) n (by omega)
  have hw':a0B n raw=some (wfC raw):=hw
  rw [hw']
  simp only [Option.bind_some]
  cases hc:(wfC raw==0) with
  | false =>
    simp only [cond_false]
    rw [c3N hk (by omega) g (by omega) (by omega) n (by omega) (.inl hc)]
    rfl
  | true=>rfl
 exact ⟨_,key _ (Nat.le_refl _) c96⟩
end Go.Pl
end
section
namespace Go.Proofs
open Go.Shelf
set_option maxRecDepth 100000
def Tryz.lay280_ren:Go.Shelf.Ren:=⟨fun | 6=>280 | 15=>129 | 14=>319 | 28=>198 | 29=>199 | 20=>333 | 21=>334 | 22=>335 | 23=>336 | 24=>337 | 25=>338 | 26=>339 | 27=>340 | 46=>352 | 47=>255 | 48=>256 | 49=>353 | 50=>354 | 57=>358 | n=>n,fun | 22=>69 | 24=>205 | 25=>305 | 3=>3 | 39=>176 | 0=>0 | 53=>243 | 55=>209 | 4=>4 | 46=>235 | 45=>234 | 50=>240 | 5=>5 | 9=>9 | 66=>286 | 70=>290 | 76=>317 | 77=>318 | n=>n,fun | n=>n⟩
theorem Tryz.lay280:Go.Proofs.SlLaysF0.n6 Tryz.prog Tryz.lay280_ren:={
 mixed:=by kernel_rfl
 f6:=⟨Tryz.f280.name,by decide,Tryz.func280.trans (congrArg some (by kernel_rfl))⟩
 f14:=⟨Tryz.f319.name,by decide,Tryz.func319.trans (congrArg some (by kernel_rfl))⟩
 f15:=Tryz.func129.trans (congrArg some (by kernel_rfl))
 f20:=⟨Tryz.f333.name,by decide,Tryz.func333.trans (congrArg some (by kernel_rfl))⟩
 f21:=⟨Tryz.f334.name,by decide,Tryz.func334.trans (congrArg some (by kernel_rfl))⟩
 f22:=⟨Tryz.f335.name,by decide,Tryz.func335.trans (congrArg some (by kernel_rfl))⟩
 f23:=⟨Tryz.f336.name,by decide,Tryz.func336.trans (congrArg some (by kernel_rfl))⟩
 f24:=⟨Tryz.f337.name,by decide,Tryz.func337.trans (congrArg some (by kernel_rfl))⟩
 f25:=⟨Tryz.f338.name,by decide,Tryz.func338.trans (congrArg some (by kernel_rfl))⟩
 f26:=⟨Tryz.f339.name,by decide,Tryz.func339.trans (congrArg some (by kernel_rfl))⟩
 f27:=⟨Tryz.f340.name,by decide,Tryz.func340.trans (congrArg some (by kernel_rfl))⟩
 f28:=Tryz.func198.trans (congrArg some (by kernel_rfl))
 f29:=Tryz.func199.trans (congrArg some (by kernel_rfl))
 f46:=⟨Tryz.f352.name,by decide,Tryz.func352.trans (congrArg some (by kernel_rfl))⟩
 f47:=Tryz.func255.trans (congrArg some (by kernel_rfl))
 f48:=Tryz.func256.trans (congrArg some (by kernel_rfl))
 f49:=⟨Tryz.f353.name,by decide,Tryz.func353.trans (congrArg some (by kernel_rfl))⟩
 f50:=⟨Tryz.f354.name,by decide,Tryz.func354.trans (congrArg some (by kernel_rfl))⟩
 f57:=⟨Tryz.f358.name,by decide,Tryz.func358.trans (congrArg some (by kernel_rfl))⟩
 t0:=Tryz.underlying0
 a0:=Tryz.isAgg0
 z0:=Tryz.sizeOf0
 v0:=Tryz.zeroValue0
 t3:=Tryz.underlying3
 a3:=Tryz.isAgg3
 z3:=Tryz.sizeOf3
 v3:=Tryz.zeroValue3
 t4:=Tryz.underlying4
 a4:=Tryz.isAgg4
 z4:=Tryz.sizeOf4
 v4:=Tryz.zeroValue4
 t5:=Tryz.underlying5
 a5:=Tryz.isAgg5
 z5:=Tryz.sizeOf5
 v5:=Tryz.zeroValue5
 t9:=Tryz.underlying9
 a9:=Tryz.isAgg9
 z9:=Tryz.sizeOf9
 v9:=Tryz.zeroValue9
 t22:=Tryz.underlying69
 a22:=Tryz.isAgg69
 z22:=Tryz.sizeOf69
 v22:=Tryz.zeroValue69
 t25:=Tryz.underlying305
 a25:=Tryz.isAgg305
 z25:=Tryz.sizeOf305
 v25:=Tryz.zeroValue305
 t39:=Tryz.underlying176
 a39:=Tryz.isAgg176
 z39:=Tryz.sizeOf176
 v39:=Tryz.zeroValue176
 t45:=Tryz.underlying234
 a45:=Tryz.isAgg234
 z45:=Tryz.sizeOf234
 v45:=Tryz.zeroValue234
 t46:=Tryz.underlying235
 a46:=Tryz.isAgg235
 z46:=Tryz.sizeOf235
 v46:=Tryz.zeroValue235
 t50:=Tryz.underlying240
 a50:=Tryz.isAgg240
 z50:=Tryz.sizeOf240
 v50:=Tryz.zeroValue240
 t53:=Tryz.underlying243
 a53:=Tryz.isAgg243
 z53:=Tryz.sizeOf243
 v53:=Tryz.zeroValue243
 t55:=Tryz.underlying209
 a55:=Tryz.isAgg209
 z55:=Tryz.sizeOf209
 v55:=Tryz.zeroValue209
 t66:=Tryz.underlying286
 a66:=Tryz.isAgg286
 z66:=Tryz.sizeOf286
 v66:=Tryz.zeroValue286
 t70:=Tryz.underlying290
 a70:=Tryz.isAgg290
 z70:=Tryz.sizeOf290
 v70:=Tryz.zeroValue290
 t76:=Tryz.underlying317
 a76:=Tryz.isAgg317
 z76:=Tryz.sizeOf317
 v76:=Tryz.zeroValue317
 t77:=Tryz.underlying318
 a77:=Tryz.isAgg318
 z77:=Tryz.sizeOf318
 v77:=Tryz.zeroValue318 }
def Tryz.lay156_ren:Go.Shelf.Ren:=⟨fun | 171=>156 | 243=>226 | 246=>279 | 283=>315 | 284=>316 | 285=>317 | 286=>318 | 129=>199 | 317=>329 | 318=>330 | 319=>331 | 320=>332 | 337=>350 | 338=>351 | n=>n,fun | 3=>3 | 9=>9 | 2=>2 | 4=>4 | 171=>332 | 0=>0 | 53=>209 | 37=>189 | 5=>5 | 173=>334 | 212=>345 | 51=>243 | 20=>20 | 213=>346 | 46=>176 | 232=>362 | 233=>363 | n=>n,fun | 17=>1 | 18=>2 | 19=>3 | n=>n⟩
theorem Tryz.lay156:Go.Proofs.Lays.n171 Tryz.prog Tryz.lay156_ren:={
 mixed:=by kernel_rfl
 f129:=Tryz.func199.trans (congrArg some (by kernel_rfl))
 f171:=Tryz.func156.trans (congrArg some (by kernel_rfl))
 f243:=Tryz.func226.trans (congrArg some (by kernel_rfl))
 f246:=Tryz.func279.trans (congrArg some (by kernel_rfl))
 f283:=Tryz.func315.trans (congrArg some (by kernel_rfl))
 f284:=Tryz.func316.trans (congrArg some (by kernel_rfl))
 f285:=Tryz.func317.trans (congrArg some (by kernel_rfl))
 f286:=Tryz.func318.trans (congrArg some (by kernel_rfl))
 f317:=Tryz.func329.trans (congrArg some (by kernel_rfl))
 f318:=Tryz.func330.trans (congrArg some (by kernel_rfl))
 f319:=Tryz.func331.trans (congrArg some (by kernel_rfl))
 f320:=Tryz.func332.trans (congrArg some (by kernel_rfl))
 f337:=Tryz.func350.trans (congrArg some (by kernel_rfl))
 f338:=Tryz.func351.trans (congrArg some (by kernel_rfl))
 t0:=Tryz.underlying0
 a0:=Tryz.isAgg0
 z0:=Tryz.sizeOf0
 v0:=Tryz.zeroValue0
 t2:=Tryz.underlying2
 a2:=Tryz.isAgg2
 z2:=Tryz.sizeOf2
 v2:=Tryz.zeroValue2
 t3:=Tryz.underlying3
 a3:=Tryz.isAgg3
 z3:=Tryz.sizeOf3
 v3:=Tryz.zeroValue3
 t4:=Tryz.underlying4
 a4:=Tryz.isAgg4
 z4:=Tryz.sizeOf4
 v4:=Tryz.zeroValue4
 t5:=Tryz.underlying5
 a5:=Tryz.isAgg5
 z5:=Tryz.sizeOf5
 v5:=Tryz.zeroValue5
 t9:=Tryz.underlying9
 a9:=Tryz.isAgg9
 z9:=Tryz.sizeOf9
 v9:=Tryz.zeroValue9
 t20:=Tryz.underlying20
 a20:=Tryz.isAgg20
 z20:=Tryz.sizeOf20
 v20:=Tryz.zeroValue20
 t37:=Tryz.underlying189
 a37:=Tryz.isAgg189
 z37:=Tryz.sizeOf189
 v37:=Tryz.zeroValue189
 t46:=Tryz.underlying176
 a46:=Tryz.isAgg176
 z46:=Tryz.sizeOf176
 v46:=Tryz.zeroValue176
 t51:=Tryz.underlying243
 a51:=Tryz.isAgg243
 z51:=Tryz.sizeOf243
 v51:=Tryz.zeroValue243
 t53:=Tryz.underlying209
 a53:=Tryz.isAgg209
 z53:=Tryz.sizeOf209
 v53:=Tryz.zeroValue209
 t171:=Tryz.underlying332
 a171:=Tryz.isAgg332
 z171:=Tryz.sizeOf332
 v171:=Tryz.zeroValue332
 t173:=Tryz.underlying334
 a173:=Tryz.isAgg334
 z173:=Tryz.sizeOf334
 v173:=Tryz.zeroValue334
 t212:=Tryz.underlying345
 a212:=Tryz.isAgg345
 z212:=Tryz.sizeOf345
 v212:=Tryz.zeroValue345
 t213:=Tryz.underlying346
 a213:=Tryz.isAgg346
 z213:=Tryz.sizeOf346
 t232:=Tryz.underlying362
 a232:=Tryz.isAgg362
 z232:=Tryz.sizeOf362
 v232:=Tryz.zeroValue362
 t233:=Tryz.underlying363
 a233:=Tryz.isAgg363
 z233:=Tryz.sizeOf363
 v233:=Tryz.zeroValue363
 g17:=by kernel_rfl
 g18:=by kernel_rfl
 g19:=by kernel_rfl }
def Tryz.lay150_ren:Go.Shelf.Ren:=⟨fun | 189=>150 | 125=>129 | 257=>224 | 128=>198 | 129=>199 | 294=>269 | 295=>270 | 296=>271 | 297=>272 | 298=>273 | 299=>274 | 216=>275 | 300=>276 | 301=>277 | 328=>312 | 329=>255 | 330=>256 | 331=>313 | 332=>314 | 215=>208 | 343=>328 | n=>n,fun | 28=>22 | 3=>3 | 46=>176 | 0=>0 | 51=>243 | 53=>209 | 4=>4 | 183=>235 | 182=>234 | 131=>240 | 5=>5 | 9=>9 | 218=>286 | 222=>290 | 228=>317 | 229=>318 | n=>n,fun | n=>n⟩
theorem Tryz.lay150:Go.Proofs.Lays.n189 Tryz.prog Tryz.lay150_ren:={
 mixed:=by kernel_rfl
 f125:=Tryz.func129.trans (congrArg some (by kernel_rfl))
 f128:=Tryz.func198.trans (congrArg some (by kernel_rfl))
 f129:=Tryz.func199.trans (congrArg some (by kernel_rfl))
 f189:=Tryz.func150.trans (congrArg some (by kernel_rfl))
 f215:=Tryz.func208.trans (congrArg some (by kernel_rfl))
 f216:=Tryz.func275.trans (congrArg some (by kernel_rfl))
 f257:=Tryz.func224.trans (congrArg some (by kernel_rfl))
 f294:=Tryz.func269.trans (congrArg some (by kernel_rfl))
 f295:=Tryz.func270.trans (congrArg some (by kernel_rfl))
 f296:=Tryz.func271.trans (congrArg some (by kernel_rfl))
 f297:=Tryz.func272.trans (congrArg some (by kernel_rfl))
 f298:=Tryz.func273.trans (congrArg some (by kernel_rfl))
 f299:=Tryz.func274.trans (congrArg some (by kernel_rfl))
 f300:=Tryz.func276.trans (congrArg some (by kernel_rfl))
 f301:=Tryz.func277.trans (congrArg some (by kernel_rfl))
 f328:=Tryz.func312.trans (congrArg some (by kernel_rfl))
 f329:=Tryz.func255.trans (congrArg some (by kernel_rfl))
 f330:=Tryz.func256.trans (congrArg some (by kernel_rfl))
 f331:=Tryz.func313.trans (congrArg some (by kernel_rfl))
 f332:=Tryz.func314.trans (congrArg some (by kernel_rfl))
 f343:=Tryz.func328.trans (congrArg some (by kernel_rfl))
 t0:=Tryz.underlying0
 a0:=Tryz.isAgg0
 z0:=Tryz.sizeOf0
 v0:=Tryz.zeroValue0
 t3:=Tryz.underlying3
 a3:=Tryz.isAgg3
 z3:=Tryz.sizeOf3
 v3:=Tryz.zeroValue3
 t4:=Tryz.underlying4
 a4:=Tryz.isAgg4
 z4:=Tryz.sizeOf4
 v4:=Tryz.zeroValue4
 t5:=Tryz.underlying5
 a5:=Tryz.isAgg5
 z5:=Tryz.sizeOf5
 v5:=Tryz.zeroValue5
 t9:=Tryz.underlying9
 a9:=Tryz.isAgg9
 z9:=Tryz.sizeOf9
 v9:=Tryz.zeroValue9
 t28:=Tryz.underlying22
 a28:=Tryz.isAgg22
 z28:=Tryz.sizeOf22
 v28:=Tryz.zeroValue22
 t46:=Tryz.underlying176
 a46:=Tryz.isAgg176
 z46:=Tryz.sizeOf176
 v46:=Tryz.zeroValue176
 t51:=Tryz.underlying243
 a51:=Tryz.isAgg243
 z51:=Tryz.sizeOf243
 v51:=Tryz.zeroValue243
 t53:=Tryz.underlying209
 a53:=Tryz.isAgg209
 z53:=Tryz.sizeOf209
 v53:=Tryz.zeroValue209
 t131:=Tryz.underlying240
 a131:=Tryz.isAgg240
 z131:=Tryz.sizeOf240
 v131:=Tryz.zeroValue240
 t182:=Tryz.underlying234
 a182:=Tryz.isAgg234
 z182:=Tryz.sizeOf234
 v182:=Tryz.zeroValue234
 t183:=Tryz.underlying235
 a183:=Tryz.isAgg235
 z183:=Tryz.sizeOf235
 v183:=Tryz.zeroValue235
 t218:=Tryz.underlying286
 a218:=Tryz.isAgg286
 z218:=Tryz.sizeOf286
 v218:=Tryz.zeroValue286
 t222:=Tryz.underlying290
 a222:=Tryz.isAgg290
 z222:=Tryz.sizeOf290
 v222:=Tryz.zeroValue290
 t228:=Tryz.underlying317
 a228:=Tryz.isAgg317
 z228:=Tryz.sizeOf317
 v228:=Tryz.zeroValue317
 t229:=Tryz.underlying318
 a229:=Tryz.isAgg318
 z229:=Tryz.sizeOf318
 v229:=Tryz.zeroValue318 }
def Tryz.lay61_ren:Go.Shelf.Ren:=⟨fun | 190=>61 | 125=>129 | 258=>128 | 128=>198 | 129=>199 | 302=>189 | 303=>190 | 304=>191 | 305=>192 | 306=>193 | 307=>194 | 308=>195 | 309=>196 | 310=>197 | 333=>254 | 329=>255 | 330=>256 | 334=>257 | 335=>258 | 336=>259 | 344=>298 | n=>n,fun | 31=>33 | 9=>9 | 3=>3 | 46=>176 | 0=>0 | 51=>243 | 53=>209 | 4=>4 | 183=>235 | 182=>234 | 131=>240 | 5=>5 | 218=>286 | 222=>290 | 228=>317 | 229=>318 | n=>n,fun | n=>n⟩
theorem Tryz.lay61:Go.Proofs.Lays.n190 Tryz.prog Tryz.lay61_ren:={
 mixed:=by kernel_rfl
 f125:=Tryz.func129.trans (congrArg some (by kernel_rfl))
 f128:=Tryz.func198.trans (congrArg some (by kernel_rfl))
 f129:=Tryz.func199.trans (congrArg some (by kernel_rfl))
 f190:=Tryz.func61.trans (congrArg some (by kernel_rfl))
 f258:=Tryz.func128.trans (congrArg some (by kernel_rfl))
 f302:=Tryz.func189.trans (congrArg some (by kernel_rfl))
 f303:=Tryz.func190.trans (congrArg some (by kernel_rfl))
 f304:=Tryz.func191.trans (congrArg some (by kernel_rfl))
 f305:=Tryz.func192.trans (congrArg some (by kernel_rfl))
 f306:=Tryz.func193.trans (congrArg some (by kernel_rfl))
 f307:=Tryz.func194.trans (congrArg some (by kernel_rfl))
 f308:=Tryz.func195.trans (congrArg some (by kernel_rfl))
 f309:=Tryz.func196.trans (congrArg some (by kernel_rfl))
 f310:=Tryz.func197.trans (congrArg some (by kernel_rfl))
 f329:=Tryz.func255.trans (congrArg some (by kernel_rfl))
 f330:=Tryz.func256.trans (congrArg some (by kernel_rfl))
 f333:=Tryz.func254.trans (congrArg some (by kernel_rfl))
 f334:=Tryz.func257.trans (congrArg some (by kernel_rfl))
 f335:=Tryz.func258.trans (congrArg some (by kernel_rfl))
 f336:=Tryz.func259.trans (congrArg some (by kernel_rfl))
 f344:=Tryz.func298.trans (congrArg some (by kernel_rfl))
 t0:=Tryz.underlying0
 a0:=Tryz.isAgg0
 z0:=Tryz.sizeOf0
 v0:=Tryz.zeroValue0
 t3:=Tryz.underlying3
 a3:=Tryz.isAgg3
 z3:=Tryz.sizeOf3
 v3:=Tryz.zeroValue3
 t4:=Tryz.underlying4
 a4:=Tryz.isAgg4
 z4:=Tryz.sizeOf4
 v4:=Tryz.zeroValue4
 t5:=Tryz.underlying5
 a5:=Tryz.isAgg5
 z5:=Tryz.sizeOf5
 v5:=Tryz.zeroValue5
 t9:=Tryz.underlying9
 a9:=Tryz.isAgg9
 z9:=Tryz.sizeOf9
 v9:=Tryz.zeroValue9
 t31:=Tryz.underlying33
 a31:=Tryz.isAgg33
 z31:=Tryz.sizeOf33
 v31:=Tryz.zeroValue33
 t46:=Tryz.underlying176
 a46:=Tryz.isAgg176
 z46:=Tryz.sizeOf176
 v46:=Tryz.zeroValue176
 t51:=Tryz.underlying243
 a51:=Tryz.isAgg243
 z51:=Tryz.sizeOf243
 v51:=Tryz.zeroValue243
 t53:=Tryz.underlying209
 a53:=Tryz.isAgg209
 z53:=Tryz.sizeOf209
 v53:=Tryz.zeroValue209
 t131:=Tryz.underlying240
 a131:=Tryz.isAgg240
 z131:=Tryz.sizeOf240
 v131:=Tryz.zeroValue240
 t182:=Tryz.underlying234
 a182:=Tryz.isAgg234
 z182:=Tryz.sizeOf234
 v182:=Tryz.zeroValue234
 t183:=Tryz.underlying235
 a183:=Tryz.isAgg235
 z183:=Tryz.sizeOf235
 v183:=Tryz.zeroValue235
 t218:=Tryz.underlying286
 a218:=Tryz.isAgg286
 z218:=Tryz.sizeOf286
 v218:=Tryz.zeroValue286
 t222:=Tryz.underlying290
 a222:=Tryz.isAgg290
 z222:=Tryz.sizeOf290
 v222:=Tryz.zeroValue290
 t228:=Tryz.underlying317
 a228:=Tryz.isAgg317
 z228:=Tryz.sizeOf317
 v228:=Tryz.zeroValue317
 t229:=Tryz.underlying318
 a229:=Tryz.isAgg318
 z229:=Tryz.sizeOf318
 v229:=Tryz.zeroValue318 }
end Go.Proofs
end
section
namespace Go.Qx
open Go Go.RowKit Go.Sx
set_option maxRecDepth 100000
abbrev b9m (v:Api_Goal):(List Int)×(List Int)×Bool:=(v.Pos,v.Neg,v.Lists)
abbrev c5E (x:(List Int)×(List Int)×Bool):Api_Goal:=⟨x.1,x.2.1,x.2.2⟩
@[reducible] def a1J:Rp Api_Goal:=a4B b9m (v8 (@rpList _ (rpK .i64)) (v8 (@rpList _ (rpK .i64)) (rpBool)))
abbrev b7I (v:Api_Field):Key×Int×Bool:=(v.Key_,v.Node,v.Optional)
abbrev c4v (x:Key×Int×Bool):Api_Field:=⟨x.1,x.2.1,x.2.2⟩
@[reducible] def W1:Rp Api_Field:=a4B b7I (v8 (rpKey) (v8 (rpK .i64) (rpBool)))
abbrev b2k (v:Api_TypeNode):Int×Int×Int×ByteArray×(List Int)×(List Api_Field)×(Int×Int):=(v.Kind,v.Lo,v.Hi,v.Text,v.Kids,v.Fields,v.Rest)
abbrev c1t (x:Int×Int×Int×ByteArray×(List Int)×(List Api_Field)×(Int×Int)):Api_TypeNode:=⟨x.1,x.2.1,x.2.2.1,x.2.2.2.1,x.2.2.2.2.1,x.2.2.2.2.2.1,x.2.2.2.2.2.2⟩
@[reducible] def a0o:Rp Api_TypeNode:=a4B b2k (v8 (rpK .i64) (v8 (rpK .i64) (v8 (rpK .i64) (v8 (rpStr) (v8 (@rpList _ (rpK .i64)) (v8 (@rpList _ (W1)) (v8 (rpK .i64) (rpK .i64))))))))
abbrev b9s (v:Api_Type):(List Api_TypeNode)×Int:=(v.Nodes,v.Root)
abbrev c5L (x:(List Api_TypeNode)×Int):Api_Type:=⟨x.1,x.2⟩
@[reducible] def a6p:Rp Api_Type:=a4B b9s (v8 (@rpList _ (a0o)) (rpK .i64))
abbrev b9g (v:Api_Form):(List Int)×Bool×Int:=(v.Args,v.Fails,v.Result)
abbrev c5M (x:(List Int)×Bool×Int):Api_Form:=⟨x.1,x.2.1,x.2.2⟩
@[reducible] def a4S:Rp Api_Form:=a4B b9g (v8 (@rpList _ (rpK .i64)) (v8 (rpBool) (rpK .i64)))
abbrev a8X (v:Api_Alternative):Val×(List Key)×(List Api_Form)×(List Api_Goal):=(v.Leaf,v.Keys,v.Forms,v.Subgoals)
abbrev b71 (x:Val×(List Key)×(List Api_Form)×(List Api_Goal)):Api_Alternative:=⟨x.1,x.2.1,x.2.2.1,x.2.2.2⟩
@[reducible] def a5r:Rp Api_Alternative:=a4B a8X (v8 (rpVal) (v8 (@rpList _ (rpKey)) (v8 (@rpList _ (a4S)) (@rpList _ (a1J)))))
abbrev a6P (v:Semtypebase_Source):(List Int)×Int:=(v.L,v.At)
abbrev b4E (x:(List Int)×Int):Semtypebase_Source:=⟨x.1,x.2⟩
@[reducible] def a3X:Rp Semtypebase_Source:=a4B a6P (v8 (@rpList _ (rpK .i64)) (rpK .i64))
abbrev b7B (v:Api_Names):Bool×(List ByteArray):=(v.Cofinite,v.List_)
abbrev c4y (x:Bool×(List ByteArray)):Api_Names:=⟨x.1,x.2⟩
@[reducible] def a3e:Rp Api_Names:=a4B b7B (v8 (rpBool) (@rpList _ (rpStr)))
abbrev b7O (v:Api_Range):Int×Int:=(v.Lo,v.Hi)
abbrev c38 (x:Int×Int):Api_Range:=⟨x.1,x.2⟩
@[reducible] def a34:Rp Api_Range:=a4B b7O (v8 (rpK .i64) (rpK .i64))
abbrev b9p (v:Api_Line):Int×Int×(List Api_Range)×Api_Names×(List Int)×(List Int)×(List ByteArray)×(List ByteArray):=(v.Kind,v.Arity,v.Ints,v.Names,v.Pos,v.Neg,v.Vars,v.NotVars)
abbrev c5z (x:Int×Int×(List Api_Range)×Api_Names×(List Int)×(List Int)×(List ByteArray)×(List ByteArray)):Api_Line:=⟨x.1,x.2.1,x.2.2.1,x.2.2.2.1,x.2.2.2.2.1,x.2.2.2.2.2.1,x.2.2.2.2.2.2.1,x.2.2.2.2.2.2.2⟩
@[reducible] def b2B:Rp Api_Line:=a4B b9p (v8 (rpK .i64) (v8 (rpK .i64) (v8 (@rpList _ (a34)) (v8 (a3e) (v8 (@rpList _ (rpK .i64)) (v8 (@rpList _ (rpK .i64)) (v8 (@rpList _ (rpStr)) (@rpList _ (rpStr)))))))))
abbrev b7p (v:Core_Sort):Int×Int:=(v.Kind,v.Arity)
abbrev c4x (x:Int×Int):Core_Sort:=⟨x.1,x.2⟩
@[reducible] def b0Y:Rp Core_Sort:=a4B b7p (v8 (rpK .i64) (rpK .i64))
abbrev c0A (v:Api_Box):(List Api_Goal):=v.Parts
abbrev c6R (x:(List Api_Goal)):Api_Box:=⟨x⟩
@[reducible] def b5B:Rp Api_Box:=a4B c0A (@rpList _ (a1J))
abbrev b7X (v:Core_pair):(List Int)×(List Int)×(List Int)×(List Int):=(v.pos,v.neg,v.finalPos,v.finalNeg)
abbrev c4W (x:(List Int)×(List Int)×(List Int)×(List Int)):Core_pair:=⟨x.1,x.2.1,x.2.2.1,x.2.2.2⟩
@[reducible] def b0S:Rp Core_pair:=a4B b7X (v8 (@rpList _ (rpK .i64)) (v8 (@rpList _ (rpK .i64)) (v8 (@rpList _ (rpK .i64)) (@rpList _ (rpK .i64)))))
abbrev b6b (v:Value_used):Bool×Bool×Bool×Bool×Bool:=(v.number,v.text_,v.kids,v.keys,v.entries)
abbrev c2X (x:Bool×Bool×Bool×Bool×Bool):Value_used:=⟨x.1,x.2.1,x.2.2.1,x.2.2.2.1,x.2.2.2.2⟩
@[reducible] def a9s:Rp Value_used:=a4B b6b (v8 (rpBool) (v8 (rpBool) (v8 (rpBool) (v8 (rpBool) (rpBool)))))
abbrev a9l (v:Literals_normal):Api_Names:=v.Names
abbrev b7g (x:Api_Names):Literals_normal:=⟨x⟩
@[reducible] def a5s:Rp Literals_normal:=a4B a9l (a3e)
def tyL:List TE:=[⟨2,Int,rpK .i64⟩,
 ⟨3,Int,rpK .i64⟩,
 ⟨4,Bool,rpBool⟩,
 ⟨9,ByteArray,rpStr⟩,
 ⟨22,List Int,@rpList _ (rpK .i64)⟩,
 ⟨24,Api_Goal,a1J⟩,
 ⟨25,List Api_TypeNode,@rpList _ (a0o)⟩,
 ⟨27,Api_Type,a6p⟩,
 ⟨30,List Val,@rpList _ (rpVal)⟩,
 ⟨31,List Key,@rpList _ (rpKey)⟩,
 ⟨32,List Ent,@rpList _ (rpEnt)⟩,
 ⟨33,List ByteArray,@rpList _ (rpStr)⟩,
 ⟨35,Val,rpVal⟩,
 ⟨45,List Api_Field,@rpList _ (W1)⟩,
 ⟨46,Int×Int,v8 (rpK .i64) (rpK .i64)⟩,
 ⟨48,Api_TypeNode,a0o⟩,
 ⟨55,List Api_Form,@rpList _ (a4S)⟩,
 ⟨56,List Api_Goal,@rpList _ (a1J)⟩,
 ⟨58,Api_Alternative,a5r⟩,
 ⟨62,Semtypebase_Source,a3X⟩,
 ⟨69,List Api_Range,@rpList _ (a34)⟩,
 ⟨71,Api_Names,a3e⟩,
 ⟨73,Api_Line,b2B⟩,
 ⟨101,Core_Sort,b0Y⟩,
 ⟨106,Key,rpKey⟩,
 ⟨108,Api_Field,W1⟩,
 ⟨113,Api_Box,b5B⟩,
 ⟨122,Api_Form,a4S⟩,
 ⟨124,Ent,rpEnt⟩,
 ⟨138,Core_pair,b0S⟩,
 ⟨205,Api_Range,a34⟩,
 ⟨229,Value_used,a9s⟩,
 ⟨263,Literals_normal,a5s⟩]
abbrev I (E:TypeId):Type:=(c66 tyL E).α
instance rI (E:TypeId):Rp (I E):=(c66 tyL E).rp
def c5x:Fd I (I 24) inferInstance:=(a3j (rg:=a1J) (Q8 (a0K 3:Fd I (List Int) (@rpList _ (rpK .i64))) (Q8 (a0K 3:Fd I (List Int) (@rpList _ (rpK .i64))) ((a5E:Fd I Bool (rpBool))))) b9m c5E (fun _=>rfl) (fun _ _ _=>Iff.rfl):Fd I Api_Goal a1J)
def c5C:Fd I (I 27) inferInstance:=(a3j (rg:=a6p) (Q8 (a0K 48:Fd I (List Api_TypeNode) (@rpList _ (a0o))) ((a2r .i64:Fd I Int (rpK .i64)))) b9s c5L (fun _=>rfl) (fun _ _ _=>Iff.rfl):Fd I Api_Type a6p)
def c4n:Fd I (I 35) inferInstance:=(a3j (rg:=rpVal) (Q8 (a2r .i64:Fd I Int (rpK .i64)) (Q8 (a2r .i64:Fd I Int (rpK .i64)) (Q8 (c3B:Fd I ByteArray (rpStr)) (Q8 (a0K 35:Fd I (List Val) (@rpList _ (rpVal))) (Q8 (a0K 106:Fd I (List Key) (@rpList _ (rpKey))) (Q8 (a0K 124:Fd I (List Ent) (@rpList _ (rpEnt))) ((a0K 9:Fd I (List ByteArray) (@rpList _ (rpStr)))))))))) Val.to Val.of (fun _=>rfl) Val.cells_to:Fd I Val rpVal)
def c74:Fd I (I 46) inferInstance:=(Q8 (a2r .i64:Fd I Int (rpK .i64)) ((a2r .i64:Fd I Int (rpK .i64))):Fd I (Int×Int) (v8 (rpK .i64) (rpK .i64)))
def c1k:Fd I (I 48) inferInstance:=(a3j (rg:=a0o) (Q8 (a2r .i64:Fd I Int (rpK .i64)) (Q8 (a2r .i64:Fd I Int (rpK .i64)) (Q8 (a2r .i64:Fd I Int (rpK .i64)) (Q8 (c3B:Fd I ByteArray (rpStr)) (Q8 (a0K 3:Fd I (List Int) (@rpList _ (rpK .i64))) (Q8 (a0K 108:Fd I (List Api_Field) (@rpList _ (W1))) ((b8E 46 c74:Fd I (Int×Int) (v8 (rpK .i64) (rpK .i64)))))))))) b2k c1t (fun _=>rfl) (fun _ _ _=>Iff.rfl):Fd I Api_TypeNode a0o)
def b7P:Fd I (I 58) inferInstance:=(a3j (rg:=a5r) (Q8 (b8E 35 c4n:Fd I Val (rpVal)) (Q8 (a0K 106:Fd I (List Key) (@rpList _ (rpKey))) (Q8 (a0K 122:Fd I (List Api_Form) (@rpList _ (a4S))) ((a0K 24:Fd I (List Api_Goal) (@rpList _ (a1J))))))) a8X b71 (fun _=>rfl) (fun _ _ _=>Iff.rfl):Fd I Api_Alternative a5r)
def b4c:Fd I (I 62) inferInstance:=(a3j (rg:=a3X) (Q8 (a0K 3:Fd I (List Int) (@rpList _ (rpK .i64))) ((a2r .i64:Fd I Int (rpK .i64)))) a6P b4E (fun _=>rfl) (fun _ _ _=>Iff.rfl):Fd I Semtypebase_Source a3X)
def b05:Fd I (I 71) inferInstance:=(a3j (rg:=a3e) (Q8 (a5E:Fd I Bool (rpBool)) ((a0K 9:Fd I (List ByteArray) (@rpList _ (rpStr))))) b7B c4y (fun _=>rfl) (fun _ _ _=>Iff.rfl):Fd I Api_Names a3e)
def c5r:Fd I (I 73) inferInstance:=(a3j (rg:=b2B) (Q8 (a2r .i64:Fd I Int (rpK .i64)) (Q8 (a2r .i64:Fd I Int (rpK .i64)) (Q8 (a0K 205:Fd I (List Api_Range) (@rpList _ (a34))) (Q8 (b8E 71 b05:Fd I Api_Names (a3e)) (Q8 (a0K 3:Fd I (List Int) (@rpList _ (rpK .i64))) (Q8 (a0K 3:Fd I (List Int) (@rpList _ (rpK .i64))) (Q8 (a0K 9:Fd I (List ByteArray) (@rpList _ (rpStr))) ((a0K 9:Fd I (List ByteArray) (@rpList _ (rpStr))))))))))) b9p c5z (fun _=>rfl) (fun _ _ _=>Iff.rfl):Fd I Api_Line b2B)
def c5c:Fd I (I 101) inferInstance:=(a3j (rg:=b0Y) (Q8 (a2r .i64:Fd I Int (rpK .i64)) ((a2r .i64:Fd I Int (rpK .i64)))) b7p c4x (fun _=>rfl) (fun _ _ _=>Iff.rfl):Fd I Core_Sort b0Y)
def c7R:Fd I (I 106) inferInstance:=(a3j (rg:=rpKey) (Q8 (a2r .i64:Fd I Int (rpK .i64)) ((c3B:Fd I ByteArray (rpStr)))) Key.to Key.of (fun _=>rfl) Key.cells_to:Fd I Key rpKey)
def c47:Fd I (I 108) inferInstance:=(a3j (rg:=W1) (Q8 (b8E 106 c7R:Fd I Key (rpKey)) (Q8 (a2r .i64:Fd I Int (rpK .i64)) ((a5E:Fd I Bool (rpBool))))) b7I c4v (fun _=>rfl) (fun _ _ _=>Iff.rfl):Fd I Api_Field W1)
def c6C:Fd I (I 113) inferInstance:=(a3j (rg:=b5B) ((a0K 24:Fd I (List Api_Goal) (@rpList _ (a1J)))) c0A c6R (fun _=>rfl) (fun _ _ _=>Iff.rfl):Fd I Api_Box b5B)
def c5q:Fd I (I 122) inferInstance:=(a3j (rg:=a4S) (Q8 (a0K 3:Fd I (List Int) (@rpList _ (rpK .i64))) (Q8 (a5E:Fd I Bool (rpBool)) ((a2r .i64:Fd I Int (rpK .i64))))) b9g c5M (fun _=>rfl) (fun _ _ _=>Iff.rfl):Fd I Api_Form a4S)
def d1x:Fd I (I 124) inferInstance:=(a3j (rg:=rpEnt) (Q8 (a0K 35:Fd I (List Val) (@rpList _ (rpVal))) (Q8 (a5E:Fd I Bool (rpBool)) ((b8E 35 c4n:Fd I Val (rpVal))))) Ent.to Ent.of (fun _=>rfl) Ent.cells_to:Fd I Ent rpEnt)
def c4g:Fd I (I 138) inferInstance:=(a3j (rg:=b0S) (Q8 (a0K 3:Fd I (List Int) (@rpList _ (rpK .i64))) (Q8 (a0K 3:Fd I (List Int) (@rpList _ (rpK .i64))) (Q8 (a0K 3:Fd I (List Int) (@rpList _ (rpK .i64))) ((a0K 3:Fd I (List Int) (@rpList _ (rpK .i64))))))) b7X c4W (fun _=>rfl) (fun _ _ _=>Iff.rfl):Fd I Core_pair b0S)
def c40:Fd I (I 205) inferInstance:=(a3j (rg:=a34) (Q8 (a2r .i64:Fd I Int (rpK .i64)) ((a2r .i64:Fd I Int (rpK .i64)))) b7O c38 (fun _=>rfl) (fun _ _ _=>Iff.rfl):Fd I Api_Range a34)
def c3e:Fd I (I 229) inferInstance:=(a3j (rg:=a9s) (Q8 (a5E:Fd I Bool (rpBool)) (Q8 (a5E:Fd I Bool (rpBool)) (Q8 (a5E:Fd I Bool (rpBool)) (Q8 (a5E:Fd I Bool (rpBool)) ((a5E:Fd I Bool (rpBool))))))) b6b c2X (fun _=>rfl) (fun _ _ _=>Iff.rfl):Fd I Value_used a9s)
def b6U:Fd I (I 263) inferInstance:=(a3j (rg:=a5s) ((b8E 71 b05:Fd I Api_Names (a3e))) a9l b7g (fun _=>rfl) (fun _ _ _=>Iff.rfl):Fd I Literals_normal a5s)
def feL:List (FE I):=[⟨2,a2r .i64⟩,
 ⟨3,a2r .i64⟩,
 ⟨4,a5E⟩,
 ⟨9,c3B⟩,
 ⟨22,a0K 3⟩,
 ⟨24,c5x⟩,
 ⟨25,a0K 48⟩,
 ⟨27,c5C⟩,
 ⟨30,a0K 35⟩,
 ⟨31,a0K 106⟩,
 ⟨32,a0K 124⟩,
 ⟨33,a0K 9⟩,
 ⟨35,c4n⟩,
 ⟨45,a0K 108⟩,
 ⟨46,c74⟩,
 ⟨48,c1k⟩,
 ⟨55,a0K 122⟩,
 ⟨56,a0K 24⟩,
 ⟨58,b7P⟩,
 ⟨62,b4c⟩,
 ⟨69,a0K 205⟩,
 ⟨71,b05⟩,
 ⟨73,c5r⟩,
 ⟨101,c5c⟩,
 ⟨106,c7R⟩,
 ⟨108,c47⟩,
 ⟨113,c6C⟩,
 ⟨122,c5q⟩,
 ⟨124,d1x⟩,
 ⟨138,c4g⟩,
 ⟨205,c40⟩,
 ⟨229,c3e⟩,
 ⟨263,b6U⟩]
def d1f:TabL I where
 sz:=[(24,3),(27,2),(35,7),(46,2),(48,8),(58,10),(71,2),(73,9),(101,2),(106,2),(108,4),(113,1),(124,9),(138,4),(205,2),(229,5),(263,2)]
 one:=[(2,()),(3,()),(4,()),(9,()),(22,()),(25,()),(30,()),(31,()),(32,()),(33,()),(45,()),(56,()),(69,()),(120,())]
 fld:=[(24,[(0,22),(1,22),(2,4)]),(27,[(0,25),(1,3)]),(35,[(0,3),(1,2),(2,9),(3,30),(4,31),(5,32),(6,33)]),(48,[(0,3),(1,2),(2,2),(3,9),(4,22),(5,45),(6,46)]),(58,[(0,35),(7,31),(8,55),(9,56)]),(62,[(0,22),(1,3)]),(71,[(0,4),(1,33)]),(73,[(0,3),(1,3),(2,69),(3,71),(5,22),(6,22),(7,33),(8,33)]),(101,[(0,3),(1,3)]),(106,[(0,3),(1,9)]),(108,[(0,106),(2,3),(3,4)]),(113,[(0,56)]),(124,[(0,30),(1,4),(2,35)]),(138,[(0,22),(1,22),(2,22),(3,22)]),(205,[(0,2),(1,2)]),(229,[(0,4),(1,4),(2,4),(3,4),(4,4)]),(263,[(0,71)])]
 el:=[(22,3),(25,48),(30,35),(31,106),(32,124),(33,9),(39,58),(44,22),(45,108),(56,24),(67,73),(69,205),(76,4),(98,101),(126,2),(139,138),(157,113)]
 str:=[(9,())]
 bool:=[(4,())]
 ik:=[(3,.i64),(176,.u64)]
 fe:=feL
 inf:=[(2,1,8,[.int .i64 0]),(3,1,8,[.int .i64 0]),(4,1,1,[.bool false]),(9,1,16,[.str ⟨#[]⟩]),(22,1,24,[.nl 3]),(24,3,56,[.nl 3,.nl 3,.bool false]),(25,1,24,[.nl 48]),(27,2,32,[.nl 48,.int .i64 0]),(30,1,24,[.nl 35]),(31,1,24,[.nl 106]),(32,1,24,[.nl 124]),(33,1,24,[.nl 9]),(35,7,128,[.int .i64 0,.int .i64 0,.str ⟨#[]⟩,.nl 35,.nl 106,.nl 124,.nl 9]),(45,1,24,[.nl 108]),(46,2,16,[.int .i64 0,.int .i64 0]),(48,8,104,[.int .i64 0,.int .i64 0,.int .i64 0,.str ⟨#[]⟩,.nl 3,.nl 108,.int .i64 0,.int .i64 0]),(56,1,24,[.nl 24]),(58,10,200,[.int .i64 0,.int .i64 0,.str ⟨#[]⟩,.nl 35,.nl 106,.nl 124,.nl 9,.nl 106,.nl 122,.nl 24]),(62,2,32,[.nl 3,.int .i64 0]),(69,1,24,[.nl 205]),(71,2,32,[.bool false,.nl 9]),(73,9,168,[.int .i64 0,.int .i64 0,.nl 205,.bool false,.nl 9,.nl 3,.nl 3,.nl 9,.nl 9]),(101,2,16,[.int .i64 0,.int .i64 0]),(106,2,24,[.int .i64 0,.str ⟨#[]⟩]),(108,4,40,[.int .i64 0,.str ⟨#[]⟩,.int .i64 0,.bool false]),(113,1,24,[.nl 24]),(120,1,8,[.any]),(124,9,160,[.nl 35,.bool false,.int .i64 0,.int .i64 0,.str ⟨#[]⟩,.nl 35,.nl 106,.nl 124,.nl 9]),(138,4,96,[.nl 3,.nl 3,.nl 3,.nl 3]),(205,2,16,[.int .i64 0,.int .i64 0]),(229,5,5,[.bool false,.bool false,.bool false,.bool false,.bool false]),(263,2,32,[.bool false,.nl 9])]
 st:=[(24,[(0,1),(1,1),(2,1)]),(27,[(0,1),(1,1)]),(35,[(0,1),(1,1),(2,1),(3,1),(4,1),(5,1),(6,1)]),(46,[(0,1),(1,1)]),(48,[(0,1),(1,1),(2,1),(3,1),(4,1),(5,1),(6,2)]),(58,[(0,7),(7,1),(8,1),(9,1)]),(62,[(0,1),(1,1)]),(71,[(0,1),(1,1)]),(73,[(0,1),(1,1),(2,1),(3,2),(5,1),(6,1),(7,1),(8,1)]),(101,[(0,1),(1,1)]),(106,[(0,1),(1,1)]),(108,[(0,2),(2,1),(3,1)]),(113,[(0,1)]),(124,[(0,1),(1,1),(2,7)]),(138,[(0,1),(1,1),(2,1),(3,1)]),(205,[(0,1),(1,1)]),(229,[(0,1),(1,1),(2,1),(3,1),(4,1)]),(263,[(0,2)])]
 eq:=[(46,c4h feL 46 b0G),(106,c4h feL 106 a4T)]
 nest:=[(22,3,0),(24,3,1)]
 arr:=[(46,3,2,1)]
 mp:=[(140,.bool)]
 fb:=[(57,()),(68,()),(99,()),(102,()),(132,()),(145,()),(146,()),(148,()),(149,()),(162,()),(170,()),(176,()),(185,()),(187,()),(212,()),(252,()),(253,()),(267,()),(281,()),(286,())]
abbrev tb:Tab I:=c9F d1f
theorem ti2:Q4 Go.Proofs.Tryz.prog 2 (.int .i64 0) 1 8:=Y1 (by kernel_rfl)
theorem ti3:Q4 Go.Proofs.Tryz.prog 3 (.int .i64 0) 1 8:=Y1 (by kernel_rfl)
theorem ti4:Q4 Go.Proofs.Tryz.prog 4 (.bool false) 1 1:=Y1 (by kernel_rfl)
theorem ti9:Q4 Go.Proofs.Tryz.prog 9 (.string ⟨#[]⟩) 1 16:=Y1 (by kernel_rfl)
theorem d1k:Q4 Go.Proofs.Tryz.prog 22 (.slice none 0 0) 1 24:=Y1 (by kernel_rfl)
theorem d1H:Q4 Go.Proofs.Tryz.prog 24 (.agg #[.slice none 0 0,.slice none 0 0,.bool false]) 3 56:=Y1 (by kernel_rfl)
theorem d27:Q4 Go.Proofs.Tryz.prog 25 (.slice none 0 0) 1 24:=Y1 (by kernel_rfl)
theorem d20:Q4 Go.Proofs.Tryz.prog 27 (.agg #[.slice none 0 0,.int .i64 0]) 2 32:=Y1 (by kernel_rfl)
theorem d3a:Q4 Go.Proofs.Tryz.prog 30 (.slice none 0 0) 1 24:=Y1 (by kernel_rfl)
theorem d2X:Q4 Go.Proofs.Tryz.prog 31 (.slice none 0 0) 1 24:=Y1 (by kernel_rfl)
theorem d2T:Q4 Go.Proofs.Tryz.prog 32 (.slice none 0 0) 1 24:=Y1 (by kernel_rfl)
theorem d2U:Q4 Go.Proofs.Tryz.prog 33 (.slice none 0 0) 1 24:=Y1 (by kernel_rfl)
theorem d01:Q4 Go.Proofs.Tryz.prog 35 (.agg #[.int .i64 0,.int .i64 0,.string ⟨#[]⟩,.slice none 0 0,.slice none 0 0,.slice none 0 0,.slice none 0 0]) 7 128:=Y1 (by kernel_rfl)
theorem d3g:Q4 Go.Proofs.Tryz.prog 45 (.slice none 0 0) 1 24:=Y1 (by kernel_rfl)
theorem d22:Q4 Go.Proofs.Tryz.prog 46 (.agg #[.int .i64 0,.int .i64 0]) 2 16:=Y1 (by kernel_rfl)
theorem d0Z:Q4 Go.Proofs.Tryz.prog 48 (.agg #[.int .i64 0,.int .i64 0,.int .i64 0,.string ⟨#[]⟩,.slice none 0 0,.slice none 0 0,.int .i64 0,.int .i64 0]) 8 104:=Y1 (by kernel_rfl)
theorem d3p:Q4 Go.Proofs.Tryz.prog 56 (.slice none 0 0) 1 24:=Y1 (by kernel_rfl)
theorem d1Q:Q4 Go.Proofs.Tryz.prog 58 (.agg #[.int .i64 0,.int .i64 0,.string ⟨#[]⟩,.slice none 0 0,.slice none 0 0,.slice none 0 0,.slice none 0 0,.slice none 0 0,.slice none 0 0,.slice none 0 0]) 10 200:=Y1 (by kernel_rfl)
theorem d3h:Q4 Go.Proofs.Tryz.prog 62 (.agg #[.slice none 0 0,.int .i64 0]) 2 32:=Y1 (by kernel_rfl)
theorem d2S:Q4 Go.Proofs.Tryz.prog 69 (.slice none 0 0) 1 24:=Y1 (by kernel_rfl)
theorem d3c:Q4 Go.Proofs.Tryz.prog 71 (.agg #[.bool false,.slice none 0 0]) 2 32:=Y1 (by kernel_rfl)
theorem d1G:Q4 Go.Proofs.Tryz.prog 73 (.agg #[.int .i64 0,.int .i64 0,.slice none 0 0,.bool false,.slice none 0 0,.slice none 0 0,.slice none 0 0,.slice none 0 0,.slice none 0 0]) 9 168:=Y1 (by kernel_rfl)
theorem c9E:Q4 Go.Proofs.Tryz.prog 101 (.agg #[.int .i64 0,.int .i64 0]) 2 16:=Y1 (by kernel_rfl)
theorem c9R:Q4 Go.Proofs.Tryz.prog 106 (.agg #[.int .i64 0,.string ⟨#[]⟩]) 2 24:=Y1 (by kernel_rfl)
theorem c9u:Q4 Go.Proofs.Tryz.prog 108 (.agg #[.int .i64 0,.string ⟨#[]⟩,.int .i64 0,.bool false]) 4 40:=Y1 (by kernel_rfl)
theorem c9T:Q4 Go.Proofs.Tryz.prog 113 (.agg #[.slice none 0 0]) 1 24:=Y1 (by kernel_rfl)
theorem d2M:Q4 Go.Proofs.Tryz.prog 120 (.nilFunc) 1 8:=Y1 (by kernel_rfl)
theorem c9L:Q4 Go.Proofs.Tryz.prog 124 (.agg #[.slice none 0 0,.bool false,.int .i64 0,.int .i64 0,.string ⟨#[]⟩,.slice none 0 0,.slice none 0 0,.slice none 0 0,.slice none 0 0]) 9 160:=Y1 (by kernel_rfl)
theorem c9H:Q4 Go.Proofs.Tryz.prog 138 (.agg #[.slice none 0 0,.slice none 0 0,.slice none 0 0,.slice none 0 0]) 4 96:=Y1 (by kernel_rfl)
theorem c9y:Q4 Go.Proofs.Tryz.prog 205 (.agg #[.int .i64 0,.int .i64 0]) 2 16:=Y1 (by kernel_rfl)
theorem d2L:Q4 Go.Proofs.Tryz.prog 229 (.agg #[.bool false,.bool false,.bool false,.bool false,.bool false]) 5 5:=Y1 (by kernel_rfl)
theorem d2m:Q4 Go.Proofs.Tryz.prog 263 (.agg #[.bool false,.slice none 0 0]) 2 32:=Y1 (by kernel_rfl)
theorem to2:a1C Go.Proofs.Tryz.prog 2:=⟨_,Go.Proofs.Tryz.underlying2,rfl,by kernel_rfl⟩
theorem to3:a1C Go.Proofs.Tryz.prog 3:=⟨_,Go.Proofs.Tryz.underlying3,rfl,by kernel_rfl⟩
theorem to4:a1C Go.Proofs.Tryz.prog 4:=⟨_,Go.Proofs.Tryz.underlying4,rfl,by kernel_rfl⟩
theorem to9:a1C Go.Proofs.Tryz.prog 9:=⟨_,Go.Proofs.Tryz.underlying9,rfl,by kernel_rfl⟩
theorem d3e:a1C Go.Proofs.Tryz.prog 22:=⟨_,Go.Proofs.Tryz.underlying22,rfl,by kernel_rfl⟩
theorem d2V:a1C Go.Proofs.Tryz.prog 25:=⟨_,Go.Proofs.Tryz.underlying25,rfl,by kernel_rfl⟩
theorem d2P:a1C Go.Proofs.Tryz.prog 30:=⟨_,Go.Proofs.Tryz.underlying30,rfl,by kernel_rfl⟩
theorem d3o:a1C Go.Proofs.Tryz.prog 31:=⟨_,Go.Proofs.Tryz.underlying31,rfl,by kernel_rfl⟩
theorem d2Z:a1C Go.Proofs.Tryz.prog 32:=⟨_,Go.Proofs.Tryz.underlying32,rfl,by kernel_rfl⟩
theorem d3m:a1C Go.Proofs.Tryz.prog 33:=⟨_,Go.Proofs.Tryz.underlying33,rfl,by kernel_rfl⟩
theorem d23:a1C Go.Proofs.Tryz.prog 45:=⟨_,Go.Proofs.Tryz.underlying45,rfl,by kernel_rfl⟩
theorem d3d:a1C Go.Proofs.Tryz.prog 56:=⟨_,Go.Proofs.Tryz.underlying56,rfl,by kernel_rfl⟩
theorem d3k:a1C Go.Proofs.Tryz.prog 69:=⟨_,Go.Proofs.Tryz.underlying69,rfl,by kernel_rfl⟩
theorem d2q:a1C Go.Proofs.Tryz.prog 120:=⟨_,Go.Proofs.Tryz.underlying120,rfl,by kernel_rfl⟩
theorem d2Y {σ:S}{x y:Int×Int}{cs ds:List Value}(h:(rI 46).cells σ x cs)(k:(rI 46).cells σ y ds):Sx.EqAt Go.Proofs.Tryz.prog 2 46 (.agg cs.toArray) (.agg ds.toArray) (b0G x y):=by
 obtain ⟨_,_,rfl,rfl,rfl⟩:=h
 obtain ⟨_,_,rfl,rfl,rfl⟩:=k
 exact c9g Go.Proofs.Tryz.underlying46 ti3 (c2T (a4r to3 rfl) (a4r to3 rfl) (b9N Go.Proofs.Tryz.underlying3) (c2T (a4r to3 rfl) (a4r to3 rfl) (b9N Go.Proofs.Tryz.underlying3) c8L))
theorem d2f {σ:S}{x y:Key}{cs ds:List Value}(h:(rI 106).cells σ x cs)(k:(rI 106).cells σ y ds):Sx.EqAt Go.Proofs.Tryz.prog 2 106 (.agg cs.toArray) (.agg ds.toArray) (a4T x y):=by
 obtain ⟨_,_,rfl,rfl,rfl⟩:=h
 obtain ⟨_,_,rfl,rfl,rfl⟩:=k
 exact c5B Go.Proofs.Tryz.underlying106 (by kernel_rfl) (c2E (by decide) (a4r to3 rfl) (a4r to3 rfl) (b9N Go.Proofs.Tryz.underlying3) (c2E (by decide) (a4r to9 rfl) (a4r to9 rfl) (c89 Go.Proofs.Tryz.underlying9) c9j))
theorem eqT (T:TypeId)(g:I T->I T->Bool){K:Nat}(h:∀ {σ:S} {x y:I T} {cs ds:List Value},Rp.cells σ x cs->Rp.cells σ y ds->Sx.EqAt Go.Proofs.Tryz.prog K T (.agg cs.toArray) (.agg ds.toArray) (g x y))(hg:Go.Proofs.Tryz.prog.eqGuardType (Go.Proofs.Tryz.prog).depth T=false)(hK:Nat.ble K 10000=true)
 {X:Cxt} {c:Cx} {σ:S} {ls ms:List (PV I)} {r:Bool} {cs ds:List Value} (h1:c4h feL T g ls ms=some r) (h2:RG X c σ ls cs) (h3:RG X c σ ms ds) :
 Go.Proofs.Tryz.prog.eqGuardType (Go.Proofs.Tryz.prog).depth T=false/\∃ j,Nat.ble j 10000=true/\Sx.EqAt Go.Proofs.Tryz.prog j T (.agg cs.toArray) (.agg ds.toArray) r:=by
 obtain ⟨x,y,k1,k2,rfl⟩:=d0u h1 h2 h3
 exact ⟨hg,K,hK,h k1 k2⟩
theorem d1h:TabLOk Go.Proofs.Tryz.prog d1f where
 sz:=⟨⟨_,Go.Proofs.Tryz.underlying24,rfl,by kernel_rfl⟩,⟨⟨_,Go.Proofs.Tryz.underlying27,rfl,by kernel_rfl⟩,⟨⟨_,Go.Proofs.Tryz.underlying35,rfl,by kernel_rfl⟩,⟨⟨_,Go.Proofs.Tryz.underlying46,rfl,by kernel_rfl⟩,⟨⟨_,Go.Proofs.Tryz.underlying48,rfl,by kernel_rfl⟩,⟨⟨_,Go.Proofs.Tryz.underlying58,rfl,by kernel_rfl⟩,⟨⟨_,Go.Proofs.Tryz.underlying71,rfl,by kernel_rfl⟩,⟨⟨_,Go.Proofs.Tryz.underlying73,rfl,by kernel_rfl⟩,⟨⟨_,Go.Proofs.Tryz.underlying101,rfl,by kernel_rfl⟩,⟨⟨_,Go.Proofs.Tryz.underlying106,rfl,by kernel_rfl⟩,⟨⟨_,Go.Proofs.Tryz.underlying108,rfl,by kernel_rfl⟩,⟨⟨_,Go.Proofs.Tryz.underlying113,rfl,by kernel_rfl⟩,⟨⟨_,Go.Proofs.Tryz.underlying124,rfl,by kernel_rfl⟩,⟨⟨_,Go.Proofs.Tryz.underlying138,rfl,by kernel_rfl⟩,⟨⟨_,Go.Proofs.Tryz.underlying205,rfl,by kernel_rfl⟩,⟨⟨_,Go.Proofs.Tryz.underlying229,rfl,by kernel_rfl⟩,⟨⟨_,Go.Proofs.Tryz.underlying263,rfl,by kernel_rfl⟩,trivial⟩⟩⟩⟩⟩⟩⟩⟩⟩⟩⟩⟩⟩⟩⟩⟩⟩
 one:=⟨to2,⟨to3,⟨to4,⟨to9,⟨d3e,⟨d2V,⟨d2P,⟨d3o,⟨d2Z,⟨d3m,⟨d23,⟨d3d,⟨d3k,⟨d2q,trivial⟩⟩⟩⟩⟩⟩⟩⟩⟩⟩⟩⟩⟩⟩
 fld:=⟨⟨⟨_,_,Go.Proofs.Tryz.underlying24,rfl,rfl,by kernel_rfl⟩,⟨⟨_,_,Go.Proofs.Tryz.underlying24,rfl,rfl⟩,⟨⟨_,_,Go.Proofs.Tryz.underlying24,rfl,rfl,by kernel_rfl⟩,⟨⟨_,_,Go.Proofs.Tryz.underlying24,rfl,rfl⟩,⟨⟨_,_,Go.Proofs.Tryz.underlying24,rfl,rfl,by kernel_rfl⟩,⟨⟨_,_,Go.Proofs.Tryz.underlying24,rfl,rfl⟩,trivial⟩⟩⟩⟩⟩⟩,⟨⟨⟨_,_,Go.Proofs.Tryz.underlying27,rfl,rfl,by kernel_rfl⟩,⟨⟨_,_,Go.Proofs.Tryz.underlying27,rfl,rfl⟩,⟨⟨_,_,Go.Proofs.Tryz.underlying27,rfl,rfl,by kernel_rfl⟩,⟨⟨_,_,Go.Proofs.Tryz.underlying27,rfl,rfl⟩,trivial⟩⟩⟩⟩,⟨⟨⟨_,_,Go.Proofs.Tryz.underlying35,rfl,rfl,by kernel_rfl⟩,⟨⟨_,_,Go.Proofs.Tryz.underlying35,rfl,rfl⟩,⟨⟨_,_,Go.Proofs.Tryz.underlying35,rfl,rfl,by kernel_rfl⟩,⟨⟨_,_,Go.Proofs.Tryz.underlying35,rfl,rfl⟩,⟨⟨_,_,Go.Proofs.Tryz.underlying35,rfl,rfl,by kernel_rfl⟩,⟨⟨_,_,Go.Proofs.Tryz.underlying35,rfl,rfl⟩,⟨⟨_,_,Go.Proofs.Tryz.underlying35,rfl,rfl,by kernel_rfl⟩,⟨⟨_,_,Go.Proofs.Tryz.underlying35,rfl,rfl⟩,⟨⟨_,_,Go.Proofs.Tryz.underlying35,rfl,rfl,by kernel_rfl⟩,⟨⟨_,_,Go.Proofs.Tryz.underlying35,rfl,rfl⟩,⟨⟨_,_,Go.Proofs.Tryz.underlying35,rfl,rfl,by kernel_rfl⟩,⟨⟨_,_,Go.Proofs.Tryz.underlying35,rfl,rfl⟩,⟨⟨_,_,Go.Proofs.Tryz.underlying35,rfl,rfl,by kernel_rfl⟩,⟨⟨_,_,Go.Proofs.Tryz.underlying35,rfl,rfl⟩,trivial⟩⟩⟩⟩⟩⟩⟩⟩⟩⟩⟩⟩⟩⟩,⟨⟨⟨_,_,Go.Proofs.Tryz.underlying48,rfl,rfl,by kernel_rfl⟩,⟨⟨_,_,Go.Proofs.Tryz.underlying48,rfl,rfl⟩,⟨⟨_,_,Go.Proofs.Tryz.underlying48,rfl,rfl,by kernel_rfl⟩,⟨⟨_,_,Go.Proofs.Tryz.underlying48,rfl,rfl⟩,⟨⟨_,_,Go.Proofs.Tryz.underlying48,rfl,rfl,by kernel_rfl⟩,⟨⟨_,_,Go.Proofs.Tryz.underlying48,rfl,rfl⟩,⟨⟨_,_,Go.Proofs.Tryz.underlying48,rfl,rfl,by kernel_rfl⟩,⟨⟨_,_,Go.Proofs.Tryz.underlying48,rfl,rfl⟩,⟨⟨_,_,Go.Proofs.Tryz.underlying48,rfl,rfl,by kernel_rfl⟩,⟨⟨_,_,Go.Proofs.Tryz.underlying48,rfl,rfl⟩,⟨⟨_,_,Go.Proofs.Tryz.underlying48,rfl,rfl,by kernel_rfl⟩,⟨⟨_,_,Go.Proofs.Tryz.underlying48,rfl,rfl⟩,⟨⟨_,_,Go.Proofs.Tryz.underlying48,rfl,rfl,by kernel_rfl⟩,⟨⟨_,_,Go.Proofs.Tryz.underlying48,rfl,rfl⟩,trivial⟩⟩⟩⟩⟩⟩⟩⟩⟩⟩⟩⟩⟩⟩,⟨⟨⟨_,_,Go.Proofs.Tryz.underlying58,rfl,rfl,by kernel_rfl⟩,⟨⟨_,_,Go.Proofs.Tryz.underlying58,rfl,rfl⟩,⟨⟨_,_,Go.Proofs.Tryz.underlying58,rfl,rfl,by kernel_rfl⟩,⟨⟨_,_,Go.Proofs.Tryz.underlying58,rfl,rfl⟩,⟨⟨_,_,Go.Proofs.Tryz.underlying58,rfl,rfl,by kernel_rfl⟩,⟨⟨_,_,Go.Proofs.Tryz.underlying58,rfl,rfl⟩,⟨⟨_,_,Go.Proofs.Tryz.underlying58,rfl,rfl,by kernel_rfl⟩,⟨⟨_,_,Go.Proofs.Tryz.underlying58,rfl,rfl⟩,trivial⟩⟩⟩⟩⟩⟩⟩⟩,⟨⟨⟨_,_,Go.Proofs.Tryz.underlying62,rfl,rfl,by kernel_rfl⟩,⟨⟨_,_,Go.Proofs.Tryz.underlying62,rfl,rfl⟩,⟨⟨_,_,Go.Proofs.Tryz.underlying62,rfl,rfl,by kernel_rfl⟩,⟨⟨_,_,Go.Proofs.Tryz.underlying62,rfl,rfl⟩,trivial⟩⟩⟩⟩,⟨⟨⟨_,_,Go.Proofs.Tryz.underlying71,rfl,rfl,by kernel_rfl⟩,⟨⟨_,_,Go.Proofs.Tryz.underlying71,rfl,rfl⟩,⟨⟨_,_,Go.Proofs.Tryz.underlying71,rfl,rfl,by kernel_rfl⟩,⟨⟨_,_,Go.Proofs.Tryz.underlying71,rfl,rfl⟩,trivial⟩⟩⟩⟩,⟨⟨⟨_,_,Go.Proofs.Tryz.underlying73,rfl,rfl,by kernel_rfl⟩,⟨⟨_,_,Go.Proofs.Tryz.underlying73,rfl,rfl⟩,⟨⟨_,_,Go.Proofs.Tryz.underlying73,rfl,rfl,by kernel_rfl⟩,⟨⟨_,_,Go.Proofs.Tryz.underlying73,rfl,rfl⟩,⟨⟨_,_,Go.Proofs.Tryz.underlying73,rfl,rfl,by kernel_rfl⟩,⟨⟨_,_,Go.Proofs.Tryz.underlying73,rfl,rfl⟩,⟨⟨_,_,Go.Proofs.Tryz.underlying73,rfl,rfl,by kernel_rfl⟩,⟨⟨_,_,Go.Proofs.Tryz.underlying73,rfl,rfl⟩,⟨⟨_,_,Go.Proofs.Tryz.underlying73,rfl,rfl,by kernel_rfl⟩,⟨⟨_,_,Go.Proofs.Tryz.underlying73,rfl,rfl⟩,⟨⟨_,_,Go.Proofs.Tryz.underlying73,rfl,rfl,by kernel_rfl⟩,⟨⟨_,_,Go.Proofs.Tryz.underlying73,rfl,rfl⟩,⟨⟨_,_,Go.Proofs.Tryz.underlying73,rfl,rfl,by kernel_rfl⟩,⟨⟨_,_,Go.Proofs.Tryz.underlying73,rfl,rfl⟩,⟨⟨_,_,Go.Proofs.Tryz.underlying73,rfl,rfl,by kernel_rfl⟩,⟨⟨_,_,Go.Proofs.Tryz.underlying73,rfl,rfl⟩,trivial⟩⟩⟩⟩⟩⟩⟩⟩⟩⟩⟩⟩⟩⟩⟩⟩,⟨⟨⟨_,_,Go.Proofs.Tryz.underlying101,rfl,rfl,by kernel_rfl⟩,⟨⟨_,_,Go.Proofs.Tryz.underlying101,rfl,rfl⟩,⟨⟨_,_,Go.Proofs.Tryz.underlying101,rfl,rfl,by kernel_rfl⟩,⟨⟨_,_,Go.Proofs.Tryz.underlying101,rfl,rfl⟩,trivial⟩⟩⟩⟩,⟨⟨⟨_,_,Go.Proofs.Tryz.underlying106,rfl,rfl,by kernel_rfl⟩,⟨⟨_,_,Go.Proofs.Tryz.underlying106,rfl,rfl⟩,⟨⟨_,_,Go.Proofs.Tryz.underlying106,rfl,rfl,by kernel_rfl⟩,⟨⟨_,_,Go.Proofs.Tryz.underlying106,rfl,rfl⟩,trivial⟩⟩⟩⟩,⟨⟨⟨_,_,Go.Proofs.Tryz.underlying108,rfl,rfl,by kernel_rfl⟩,⟨⟨_,_,Go.Proofs.Tryz.underlying108,rfl,rfl⟩,⟨⟨_,_,Go.Proofs.Tryz.underlying108,rfl,rfl,by kernel_rfl⟩,⟨⟨_,_,Go.Proofs.Tryz.underlying108,rfl,rfl⟩,⟨⟨_,_,Go.Proofs.Tryz.underlying108,rfl,rfl,by kernel_rfl⟩,⟨⟨_,_,Go.Proofs.Tryz.underlying108,rfl,rfl⟩,trivial⟩⟩⟩⟩⟩⟩,⟨⟨⟨_,_,Go.Proofs.Tryz.underlying113,rfl,rfl,by kernel_rfl⟩,⟨⟨_,_,Go.Proofs.Tryz.underlying113,rfl,rfl⟩,trivial⟩⟩,⟨⟨⟨_,_,Go.Proofs.Tryz.underlying124,rfl,rfl,by kernel_rfl⟩,⟨⟨_,_,Go.Proofs.Tryz.underlying124,rfl,rfl⟩,⟨⟨_,_,Go.Proofs.Tryz.underlying124,rfl,rfl,by kernel_rfl⟩,⟨⟨_,_,Go.Proofs.Tryz.underlying124,rfl,rfl⟩,⟨⟨_,_,Go.Proofs.Tryz.underlying124,rfl,rfl,by kernel_rfl⟩,⟨⟨_,_,Go.Proofs.Tryz.underlying124,rfl,rfl⟩,trivial⟩⟩⟩⟩⟩⟩,⟨⟨⟨_,_,Go.Proofs.Tryz.underlying138,rfl,rfl,by kernel_rfl⟩,⟨⟨_,_,Go.Proofs.Tryz.underlying138,rfl,rfl⟩,⟨⟨_,_,Go.Proofs.Tryz.underlying138,rfl,rfl,by kernel_rfl⟩,⟨⟨_,_,Go.Proofs.Tryz.underlying138,rfl,rfl⟩,⟨⟨_,_,Go.Proofs.Tryz.underlying138,rfl,rfl,by kernel_rfl⟩,⟨⟨_,_,Go.Proofs.Tryz.underlying138,rfl,rfl⟩,⟨⟨_,_,Go.Proofs.Tryz.underlying138,rfl,rfl,by kernel_rfl⟩,⟨⟨_,_,Go.Proofs.Tryz.underlying138,rfl,rfl⟩,trivial⟩⟩⟩⟩⟩⟩⟩⟩,⟨⟨⟨_,_,Go.Proofs.Tryz.underlying205,rfl,rfl,by kernel_rfl⟩,⟨⟨_,_,Go.Proofs.Tryz.underlying205,rfl,rfl⟩,⟨⟨_,_,Go.Proofs.Tryz.underlying205,rfl,rfl,by kernel_rfl⟩,⟨⟨_,_,Go.Proofs.Tryz.underlying205,rfl,rfl⟩,trivial⟩⟩⟩⟩,⟨⟨⟨_,_,Go.Proofs.Tryz.underlying229,rfl,rfl,by kernel_rfl⟩,⟨⟨_,_,Go.Proofs.Tryz.underlying229,rfl,rfl⟩,⟨⟨_,_,Go.Proofs.Tryz.underlying229,rfl,rfl,by kernel_rfl⟩,⟨⟨_,_,Go.Proofs.Tryz.underlying229,rfl,rfl⟩,⟨⟨_,_,Go.Proofs.Tryz.underlying229,rfl,rfl,by kernel_rfl⟩,⟨⟨_,_,Go.Proofs.Tryz.underlying229,rfl,rfl⟩,⟨⟨_,_,Go.Proofs.Tryz.underlying229,rfl,rfl,by kernel_rfl⟩,⟨⟨_,_,Go.Proofs.Tryz.underlying229,rfl,rfl⟩,⟨⟨_,_,Go.Proofs.Tryz.underlying229,rfl,rfl,by kernel_rfl⟩,⟨⟨_,_,Go.Proofs.Tryz.underlying229,rfl,rfl⟩,trivial⟩⟩⟩⟩⟩⟩⟩⟩⟩⟩,⟨⟨⟨_,_,Go.Proofs.Tryz.underlying263,rfl,rfl,by kernel_rfl⟩,⟨⟨_,_,Go.Proofs.Tryz.underlying263,rfl,rfl⟩,trivial⟩⟩,trivial⟩⟩⟩⟩⟩⟩⟩⟩⟩⟩⟩⟩⟩⟩⟩⟩⟩
 el:=⟨⟨Go.Proofs.Tryz.underlying22,_,_,ti3,rfl,by decide⟩,⟨⟨Go.Proofs.Tryz.underlying25,_,_,d0Z,rfl,by decide⟩,⟨⟨Go.Proofs.Tryz.underlying30,_,_,d01,rfl,by decide⟩,⟨⟨Go.Proofs.Tryz.underlying31,_,_,c9R,rfl,by decide⟩,⟨⟨Go.Proofs.Tryz.underlying32,_,_,c9L,rfl,by decide⟩,⟨⟨Go.Proofs.Tryz.underlying33,_,_,ti9,rfl,by decide⟩,⟨⟨Go.Proofs.Tryz.underlying39,_,_,d1Q,rfl,by decide⟩,⟨⟨Go.Proofs.Tryz.underlying44,_,_,d1k,rfl,by decide⟩,⟨⟨Go.Proofs.Tryz.underlying45,_,_,c9u,rfl,by decide⟩,⟨⟨Go.Proofs.Tryz.underlying56,_,_,d1H,rfl,by decide⟩,⟨⟨Go.Proofs.Tryz.underlying67,_,_,d1G,rfl,by decide⟩,⟨⟨Go.Proofs.Tryz.underlying69,_,_,c9y,rfl,by decide⟩,⟨⟨Go.Proofs.Tryz.underlying76,_,_,ti4,rfl,by decide⟩,⟨⟨Go.Proofs.Tryz.underlying98,_,_,c9E,rfl,by decide⟩,⟨⟨Go.Proofs.Tryz.underlying126,_,_,ti2,rfl,by decide⟩,⟨⟨Go.Proofs.Tryz.underlying139,_,_,c9H,rfl,by decide⟩,⟨⟨Go.Proofs.Tryz.underlying157,_,_,c9T,rfl,by decide⟩,trivial⟩⟩⟩⟩⟩⟩⟩⟩⟩⟩⟩⟩⟩⟩⟩⟩⟩
 str:=⟨Go.Proofs.Tryz.underlying9,trivial⟩
 bool:=⟨Go.Proofs.Tryz.underlying4,trivial⟩
 ik:=⟨Go.Proofs.Tryz.underlying3,⟨Go.Proofs.Tryz.underlying176,trivial⟩⟩
 inf:=⟨⟨_,ti2,fun X c σ=>RG.cns rfl a1a (RG.nl)⟩,⟨⟨_,ti3,fun X c σ=>RG.cns rfl a1a (RG.nl)⟩,⟨⟨_,ti4,fun X c σ=>RG.cns rfl a4O (RG.nl)⟩,⟨⟨_,ti9,fun X c σ=>RG.cns rfl b6a (RG.nl)⟩,⟨⟨_,d1k,fun X c σ=>RG.cns rfl X1 (RG.nl)⟩,⟨⟨_,d1H,fun X c σ=>RG.cns rfl X1 (RG.cns rfl X1 (RG.cns rfl a4O (RG.nl)))⟩,⟨⟨_,d27,fun X c σ=>RG.cns rfl X1 (RG.nl)⟩,⟨⟨_,d20,fun X c σ=>RG.cns rfl X1 (RG.cns rfl a1a (RG.nl))⟩,⟨⟨_,d3a,fun X c σ=>RG.cns rfl X1 (RG.nl)⟩,⟨⟨_,d2X,fun X c σ=>RG.cns rfl X1 (RG.nl)⟩,⟨⟨_,d2T,fun X c σ=>RG.cns rfl X1 (RG.nl)⟩,⟨⟨_,d2U,fun X c σ=>RG.cns rfl X1 (RG.nl)⟩,⟨⟨_,d01,fun X c σ=>RG.cns rfl a1a (RG.cns rfl a1a (RG.cns rfl b6a (RG.cns rfl X1 (RG.cns rfl X1 (RG.cns rfl X1 (RG.cns rfl X1 (RG.nl)))))))⟩,⟨⟨_,d3g,fun X c σ=>RG.cns rfl X1 (RG.nl)⟩,⟨⟨_,d22,fun X c σ=>RG.cns rfl a1a (RG.cns rfl a1a (RG.nl))⟩,⟨⟨_,d0Z,fun X c σ=>RG.cns rfl a1a (RG.cns rfl a1a (RG.cns rfl a1a (RG.cns rfl b6a (RG.cns rfl X1 (RG.cns rfl X1 (RG.cns rfl a1a (RG.cns rfl a1a (RG.nl))))))))⟩,⟨⟨_,d3p,fun X c σ=>RG.cns rfl X1 (RG.nl)⟩,⟨⟨_,d1Q,fun X c σ=>RG.cns rfl a1a (RG.cns rfl a1a (RG.cns rfl b6a (RG.cns rfl X1 (RG.cns rfl X1 (RG.cns rfl X1 (RG.cns rfl X1 (RG.cns rfl X1 (RG.cns rfl X1 (RG.cns rfl X1 (RG.nl))))))))))⟩,⟨⟨_,d3h,fun X c σ=>RG.cns rfl X1 (RG.cns rfl a1a (RG.nl))⟩,⟨⟨_,d2S,fun X c σ=>RG.cns rfl X1 (RG.nl)⟩,⟨⟨_,d3c,fun X c σ=>RG.cns rfl a4O (RG.cns rfl X1 (RG.nl))⟩,⟨⟨_,d1G,fun X c σ=>RG.cns rfl a1a (RG.cns rfl a1a (RG.cns rfl X1 (RG.cns rfl a4O (RG.cns rfl X1 (RG.cns rfl X1 (RG.cns rfl X1 (RG.cns rfl X1 (RG.cns rfl X1 (RG.nl)))))))))⟩,⟨⟨_,c9E,fun X c σ=>RG.cns rfl a1a (RG.cns rfl a1a (RG.nl))⟩,⟨⟨_,c9R,fun X c σ=>RG.cns rfl a1a (RG.cns rfl b6a (RG.nl))⟩,⟨⟨_,c9u,fun X c σ=>RG.cns rfl a1a (RG.cns rfl b6a (RG.cns rfl a1a (RG.cns rfl a4O (RG.nl))))⟩,⟨⟨_,c9T,fun X c σ=>RG.cns rfl X1 (RG.nl)⟩,⟨⟨_,d2M,fun X c σ=>RG.cns rfl d2O (RG.nl)⟩,⟨⟨_,c9L,fun X c σ=>RG.cns rfl X1 (RG.cns rfl a4O (RG.cns rfl a1a (RG.cns rfl a1a (RG.cns rfl b6a (RG.cns rfl X1 (RG.cns rfl X1 (RG.cns rfl X1 (RG.cns rfl X1 (RG.nl)))))))))⟩,⟨⟨_,c9H,fun X c σ=>RG.cns rfl X1 (RG.cns rfl X1 (RG.cns rfl X1 (RG.cns rfl X1 (RG.nl))))⟩,⟨⟨_,c9y,fun X c σ=>RG.cns rfl a1a (RG.cns rfl a1a (RG.nl))⟩,⟨⟨_,d2L,fun X c σ=>RG.cns rfl a4O (RG.cns rfl a4O (RG.cns rfl a4O (RG.cns rfl a4O (RG.cns rfl a4O (RG.nl)))))⟩,⟨⟨_,d2m,fun X c σ=>RG.cns rfl a4O (RG.cns rfl X1 (RG.nl))⟩,trivial⟩⟩⟩⟩⟩⟩⟩⟩⟩⟩⟩⟩⟩⟩⟩⟩⟩⟩⟩⟩⟩⟩⟩⟩⟩⟩⟩⟩⟩⟩⟩⟩
 st:=⟨.inl ⟨_,Go.Proofs.Tryz.underlying24,by kernel_rfl⟩,⟨.inl ⟨_,Go.Proofs.Tryz.underlying27,by kernel_rfl⟩,⟨.inl ⟨_,Go.Proofs.Tryz.underlying35,by kernel_rfl⟩,⟨.inr (d1I Go.Proofs.Tryz.underlying46 ti3 rfl),⟨.inl ⟨_,Go.Proofs.Tryz.underlying48,by kernel_rfl⟩,⟨.inl ⟨_,Go.Proofs.Tryz.underlying58,by kernel_rfl⟩,⟨.inl ⟨_,Go.Proofs.Tryz.underlying62,by kernel_rfl⟩,⟨.inl ⟨_,Go.Proofs.Tryz.underlying71,by kernel_rfl⟩,⟨.inl ⟨_,Go.Proofs.Tryz.underlying73,by kernel_rfl⟩,⟨.inl ⟨_,Go.Proofs.Tryz.underlying101,by kernel_rfl⟩,⟨.inl ⟨_,Go.Proofs.Tryz.underlying106,by kernel_rfl⟩,⟨.inl ⟨_,Go.Proofs.Tryz.underlying108,by kernel_rfl⟩,⟨.inl ⟨_,Go.Proofs.Tryz.underlying113,by kernel_rfl⟩,⟨.inl ⟨_,Go.Proofs.Tryz.underlying124,by kernel_rfl⟩,⟨.inl ⟨_,Go.Proofs.Tryz.underlying138,by kernel_rfl⟩,⟨.inl ⟨_,Go.Proofs.Tryz.underlying205,by kernel_rfl⟩,⟨.inl ⟨_,Go.Proofs.Tryz.underlying229,by kernel_rfl⟩,⟨.inl ⟨_,Go.Proofs.Tryz.underlying263,by kernel_rfl⟩,trivial⟩⟩⟩⟩⟩⟩⟩⟩⟩⟩⟩⟩⟩⟩⟩⟩⟩⟩
 eq:=⟨fun X c σ ls ms r cs ds h1 h2 h3=>eqT 46 b0G (fun h k=>d2Y h k) (by kernel_rfl) (by decide) h1 h2 h3,⟨fun X c σ ls ms r cs ds h1 h2 h3=>eqT 106 a4T (fun h k=>d2f h k) (by kernel_rfl) (by decide) h1 h2 h3,trivial⟩⟩
 arr:=⟨⟨Go.Proofs.Tryz.underlying46,by kernel_rfl⟩,trivial⟩
 mp:=⟨⟨_,_,_,_,_,Go.Proofs.Tryz.underlying140,Go.Proofs.Tryz.underlying9,ti4,fun x h σ=>by cases h; exact rfl⟩,trivial⟩
 fb:=⟨⟨_,_,Go.Proofs.Tryz.func57,rfl,by kernel_rfl⟩,⟨⟨_,_,Go.Proofs.Tryz.func68,rfl,by kernel_rfl⟩,⟨⟨_,_,Go.Proofs.Tryz.func99,rfl,by kernel_rfl⟩,⟨⟨_,_,Go.Proofs.Tryz.func102,rfl,by kernel_rfl⟩,⟨⟨_,_,Go.Proofs.Tryz.func132,rfl,by kernel_rfl⟩,⟨⟨_,_,Go.Proofs.Tryz.func145,rfl,by kernel_rfl⟩,⟨⟨_,_,Go.Proofs.Tryz.func146,rfl,by kernel_rfl⟩,⟨⟨_,_,Go.Proofs.Tryz.func148,rfl,by kernel_rfl⟩,⟨⟨_,_,Go.Proofs.Tryz.func149,rfl,by kernel_rfl⟩,⟨⟨_,_,Go.Proofs.Tryz.func162,rfl,by kernel_rfl⟩,⟨⟨_,_,Go.Proofs.Tryz.func170,rfl,by kernel_rfl⟩,⟨⟨_,_,Go.Proofs.Tryz.func176,rfl,by kernel_rfl⟩,⟨⟨_,_,Go.Proofs.Tryz.func185,rfl,by kernel_rfl⟩,⟨⟨_,_,Go.Proofs.Tryz.func187,rfl,by kernel_rfl⟩,⟨⟨_,_,Go.Proofs.Tryz.func212,rfl,by kernel_rfl⟩,⟨⟨_,_,Go.Proofs.Tryz.func252,rfl,by kernel_rfl⟩,⟨⟨_,_,Go.Proofs.Tryz.func253,rfl,by kernel_rfl⟩,⟨⟨_,_,Go.Proofs.Tryz.func267,rfl,by kernel_rfl⟩,⟨⟨_,_,Go.Proofs.Tryz.func281,rfl,by kernel_rfl⟩,⟨⟨_,_,Go.Proofs.Tryz.func286,rfl,by kernel_rfl⟩,trivial⟩⟩⟩⟩⟩⟩⟩⟩⟩⟩⟩⟩⟩⟩⟩⟩⟩⟩⟩⟩
theorem a7B:TabOk Go.Proofs.Tryz.prog tb:=c9a d1h
theorem mixed:(Go.Proofs.Tryz.prog).follows .mixedOrders=true:=by kernel_rfl
end Go.Qx
end
section
namespace Go.Qx
open Go Go.RowKit Go.Sx
structure Bw (B:Nat)(w w':World):Prop where
 below:Below B w w'
 drawn:w.drawn<=w'.drawn
theorem Bw.refl (B:Nat)(w:World):Bw B w w:=⟨Below.refl B w,Nat.le_refl _⟩
theorem Bw.trans {B:Nat}{a b c:World}(h:Bw B a b)(k:Bw B b c):Bw B a c:=⟨h.below.trans k.below,Nat.le_trans h.drawn k.drawn⟩
theorem Bw.setCells {B b:Nat}(hb:B<=b)(o:Nat)(vs:List Value)(w:World):Bw B w (w.setCells b o vs):=by
 obtain ⟨r1,r2,r3⟩:=a9u b vs o w
 exact ⟨⟨r1,r2,r3,Nat.le_of_eq (a9q b vs o w).symm,fun k hk=>a2Z b vs o w k (by omega)⟩,Nat.le_of_eq (a8y b vs o w).symm⟩
section
variable {P:Program}{ops:Array Oper}{Q:Exit->Act->World->Prop}{n:Nat}{F:Fr}{rest:List Oper}{d:Option Nat}{ty:TypeId}{pos:String}{aft:Array Edge}{w:World}
theorem b92 {T T':TypeId}{x y:Operand}{b:Nat}{cs:List Value}(hb:w.heap[b]?=some (.cells cs.toArray T' (0,0)))(o:Nat)(v:Value)(hx:ev F x=.pointer (some ⟨b,o,none⟩))(hy:ev F y=v)
 (hkx:Y9 n x=true) (hky:Y9 n y=true) (hv:v.cells.toList=[v]) (hT:(P.info? T).map (·.size)=some 1) (h1:v.oneCell'=true) (hl:o<cs.length)
 (h:wpList P ops Q rest (fr n (J6 F d undef)) (w.setCells b o [v])) :
 wpList P ops Q (⟨d,.store T x y,ty,pos,aft,none⟩::rest) (fr n F) w:=by
 have hsz:v.cells.size=1:=by rw [<- Array.length_toList,hv]; rfl
 refine c4O rfl (w.setCells b o [v]) ?_ h
 show Sem.run P (do Instr.storeAt T ((fr n F).eval x) ((fr n F).eval y); pure Next.skip) w=_
 rw [Z0 hkx,Z0 hky,hx,hy]
 have hst:=run_storeCells_cells (P:=P) b o [v] 0 w (fun j hj=>by
  have hj0:j=0:=by simp at hj; omega
  subst hj0
  simp only [World.cell?,hb,Nat.add_zero]
  simp [List.getElem?_eq_getElem hl]) (fun j hj=>by simp [World.frozen?,hb]) (fun u hu=>by simp at hu; subst hu; exact h1)
 simp only [Nat.add_zero] at hst
 simp only [Instr.storeAt,Instr.sureAddr,storeVar,Sem.run_bind,Sem.run_pure,Result.andThen_ok,Go.Sx.run_sizeOf hT,hsz,ne_eq,not_true_eq_false,if_false,hv,hst]
theorem c2I {x y:Operand}{t u:TypeId}{a b v:Value}{w':World}(hx:ev F x=a)(hy:ev F y=b)(hkx:Y9 n x=true)(hky:Y9 n y=true)(hr:(Builtin.append_ #[t,u] ty #[a,b]).run P w=.ok v w')
 (h:wpList P ops Q rest (fr n (J6 F d v)) w'):wpList P ops Q (⟨d,.call ⟨.builtin .append,#[x,y],#[t,u]⟩,ty,pos,aft,none⟩::rest) (fr n F) w :=
 Q9 rfl v w' (by
  simp [execOp,resolve,invoke,builtin,Z0 hkx,Z0 hky,hx,hy,hr]) h
theorem c1s {src dst:TypeId}{x:Operand}{a v:Value}(hx:ev F x=a)(hkx:Y9 n x=true)(hr:(convert src dst a).run P w=.ok v w)(h:wpList P ops Q rest (fr n (J6 F d v)) w) :
 wpList P ops Q (⟨d,.convert src dst x,ty,pos,aft,none⟩::rest) (fr n F) w:=c2C a v hx hkx hr h
theorem b93 {f:FuncId}{fn:Func}{c:Code}{vs:List Value}{R:Ending->World->Prop}(nt:Nat)(hf:P.funcs[f]?=some fn)(hb:fn.body=some c)(hn:fn.ntmps=nt)(hle:Nat.ble vs.length nt=true)
 (h:c.wp P (bodyPost P fn R) (fr nt (a3o vs)) w):Calls P f vs.toArray w R:=by
 refine calls_of_wp hf hb ?_
 have hle':=Nat.le_of_ble_eq_true hle
 have e:(⟨vs.toArray++Array.replicate (fn.ntmps-vs.toArray.size) undef,[]⟩:Act)=fr nt (a3o vs):=by
  rw [hn]
  simp only [fr]
  congr 1
  apply Array.ext
  ·simp; omega
  ·intro i h1 h2
   simp only [Array.getElem_ofFn,a3o,Array.getElem_append]
   split
   ·rename_i hi; simp at hi; simp [List.getD,List.getElem?_eq_getElem hi]
   ·rename_i hi; simp at hi; simp [List.getD,List.getElem?_eq_none hi]
 rw [e]
 exact h
theorem c92 {fn:Func}{R:Ending->World->Prop}(hr:fn.results=#[])(h:R (.returned (.tuple #[])) w):bodyPost P fn R .normal (fr n F) w :=
 ⟨rfl,.tuple #[],by
  rw [b0i,hr]
  simp only [List.mapM_toArray,List.mapM_nil,Sem.run_bind,Sem.run_map,Result.andThen_ok,Sem.run_pure]
  rfl,h⟩
theorem d2v {fn:Func}{R:Ending->World->Prop}{t:Nat}(v:Value)(hr:fn.results=#[.tmp t])(ht:Nat.blt t n=true)(hv:F t=v)(h:R (.returned v) w):bodyPost P fn R .ret (fr n F) w :=
 ⟨rfl,v,by
  have e1:=b1h (P:=P) (w:=w) (r:=.tmp t) (v:=v) ⟨ht,hv⟩
  rw [b0i,hr]
  simp only [List.mapM_toArray,List.mapM_cons,List.mapM_nil,Sem.run_bind,Sem.run_map,e1,Result.andThen_ok,Sem.run_pure]
  rfl,h⟩
theorem d2s {fn:Func}{R:Ending->World->Prop}{t u:Nat}(v x:Value)(hr:fn.results=#[.tmp t,.tmp u])(ht:Nat.blt t n=true)(hu:Nat.blt u n=true)(hv:F t=v)(hx:F u=x)(h:R (.returned (.tuple #[v,x])) w):bodyPost P fn R .ret (fr n F) w :=
 ⟨rfl,.tuple #[v,x],by
  have e1:=b1h (P:=P) (w:=w) (r:=.tmp t) (v:=v) ⟨ht,hv⟩
  have e2:=b1h (P:=P) (w:=w) (r:=.tmp u) (v:=x) ⟨hu,hx⟩
  rw [b0i,hr]
  simp only [List.mapM_toArray,List.mapM_cons,List.mapM_nil,Sem.run_bind,Sem.run_map,e1,e2,Result.andThen_ok,Sem.run_pure]
  rfl,h⟩
theorem c9W {T E:TypeId}{x y:Operand}{p:Option Addr}(hT:P.underlying T=some (.pointer E)) :
 Z2 P w (do eqGuard .eql T x y (.pointer p) (.pointer none); binOp .eql T (.pointer p) (.pointer none)) (.bool p.isNone):=by
 have h:∀ d:Nat,(Op.equalIn (d+1) T (.pointer p) (.pointer none)).run P w=.ok p.isNone w:=fun d=>by
  cases p<;>simp [Op.equalIn,run_underlying hT]
 show Sem.run P (do eqGuard .eql T x y (.pointer p) (.pointer none); pure (Value.bool (<- Op.equalIn 10000 T (.pointer p) (.pointer none)))) w=_
 have hg:eqGuard .eql T x y (.pointer p) (.pointer none)=pure ():=rfl
 rw [hg]
 simp only [Sem.run_bind,Sem.run_pure,Result.andThen_ok,h 9999]
theorem d0L {T E:TypeId}{x y:Operand}{a:Addr}{j:TypeInfo}(hT:P.underlying T=some (.pointer E))(hj:P.info? E=some j) :
 Z2 P w (do eqGuard .neq T x y (.pointer (some a)) (.pointer (some a)); binOp .neq T (.pointer (some a)) (.pointer (some a))) (.bool false):=by
 have hg:eqGuard .neq T x y (.pointer (some a)) (.pointer (some a))=pure ():=rfl
 show Sem.run P (do eqGuard .neq T x y (.pointer (some a)) (.pointer (some a)); binOp .neq T (.pointer (some a)) (.pointer (some a))) w=_
 rw [hg]
 simp only [Sem.run_bind,Sem.run_pure,Result.andThen_ok]
 exact Lib.run_neq_ptr_same w a hT hj
theorem a6U {f:FuncId}{xs:List Operand}{ats:Array TypeId}(vs:List Value){R:Ending->World->Prop}(hvs:xs.map (ev F)=vs)(hk:xs.all (Y9 n)=true)(hb:a1d P f)(hc:Calls P f vs.toArray w R)
 (hR:∀ e w',R e w'->∃ v,e=.returned v/\wpList P ops Q rest (fr n (J6 F d v)) w') :
 wpList P ops Q (⟨d,.call ⟨.value (.func f),xs.toArray,ats⟩,ty,pos,aft,none⟩::rest) (fr n F) w:=by
 subst hvs
 refine a83 (σ:=⟨w,fun _=>(0,0)⟩) (E:=fun _=>True) (R:=fun v τ=>wpList P ops Q rest (fr n (J6 F d v)) τ.w) rfl (.inl ⟨hb,hc.mono fun e w' h=>?_⟩) (b94 hk w) (fun v τ _ h=>h)
 obtain ⟨v,e1,h2⟩:=hR e w' h
 exact ⟨v,⟨w',fun _=>(0,0)⟩,e1,rfl,trivial,h2⟩
theorem Bw.grown {B:Nat}{w w':World}{v:Value}(h:w.grownBy w' v.ownBlock)(hd:w.drawn<=w'.drawn)(hv:∀ g,v.ownBlock=some g->B<=g)(hB:B<=w.heap.size):Bw B w w' :=
 ⟨⟨h.os,h.tape,h.output,h.size,fun k hk=>h.block k (by omega) (fun e=>by have:=hv k e.symm; omega)⟩,hd⟩
theorem c1n {B:Nat}{T:TypeId}{s n:Nat}{v:Value}{xs:List Value}(h:w.ownsRow B T s v n xs):∀ g,v.ownBlock=some g->B<=g:=by
 intro g hg
 rcases h.2 with ⟨rfl,_⟩ | ⟨g',cap,cur,rfl,hb,_⟩
 ·cases hg
 ·cases hg; exact hb
theorem c9l {T E:TypeId}{i:TypeInfo}{z v:Value}{x:Operand}(hu:P.underlying T=some (.slice E))(hi:P.info? E=some i)(hz:i.zero=some z)(hs:i.size=1)(hzs:z.cells.size=1)(hx:ev F x=v)(hk:Y9 n x=true)(hv:v.cells.toList=[v])(hv2:v.cells.size=1)
 (h:wpList P ops Q rest (fr n (J6 F d (.slice (some ⟨w.heap.size,0,none⟩) 1 1))) (w.alloc (.cells #[v] E))) :
 wpList P ops Q (⟨d,.buildSlice T 1 #[(0,x)],ty,pos,aft,none⟩::rest) (fr n F) w:=by
 refine Q9 rfl (.slice (some ⟨w.heap.size,0,none⟩) 1 1) (w.alloc (.cells #[v] E)) ?_ h
 have hfill:=c0h 1 (Nat.zero_lt_one) [v] 0 (((Array.range 1).map (z.cells[·%z.cells.size]!)).toList) (by simp) (by simp [hv2])
 simp only [Nat.zero_mul,List.take_zero,List.nil_append,Array.toArray_toList] at hfill
 show Sem.run P (do pure (Next.value (<- Instr.buildSlice T 1 (#[(0,x)].map fun (i,x)=>(i,(fr n F).eval x))))) w=_
 have he:(#[((0:Nat),x)].map fun (i,x)=>(i,(fr n F).eval x))=#[(0,v)]:=by simp [Z0 hk,hx]
 rw [he]
 have hrun:(Instr.buildSlice T 1 #[(0,v)]).run P w=.ok (.slice (some ⟨w.heap.size,0,none⟩) 1 1) (w.alloc (.cells #[v] E)):=by
  unfold Instr.buildSlice
  simp only [List.zipIdx_cons,List.zipIdx_nil,List.map_cons,List.map_nil] at hfill
  rw [<- hs] at hfill
  simp only [Sem.run_bind,run_underlying hu,Result.andThen_ok,sizeOf,typeInfo,run_program,hi,Sem.run_pure,hs,Nat.one_mul,if_neg (show ¬ (1:Nat)>2^24 by decide),if_neg (show ¬ (1:Nat)=0 by decide),zeroValue,hz,newRow,run_newObj]
  rw [hs] at hfill
  simp only [hfill,Sem.run_pure,Result.andThen_ok,Sem.run_bind,run_newObj]
  simp [hv]
 rw [Sem.run_bind,hrun]
 rfl
end
end Go.Qx
end
section
namespace Go.Qx
open Go Go.RowKit Go.Sx
set_option maxHeartbeats 1600000
set_option maxRecDepth 100000
abbrev J0 (b:Nat):Value:=.pointer (some ⟨b,0,none⟩)
theorem c3X:b0u Go.Proofs.Tryz.prog 191 0 0:=⟨_,_,Go.Proofs.Tryz.underlying191,rfl,rfl,by kernel_rfl⟩
theorem c1b:b0u Go.Proofs.Tryz.prog 191 1 1:=⟨_,_,Go.Proofs.Tryz.underlying191,rfl,rfl,by kernel_rfl⟩
theorem c35:a1C Go.Proofs.Tryz.prog 188:=⟨_,Go.Proofs.Tryz.underlying188,rfl,by kernel_rfl⟩
theorem c4f:a1C Go.Proofs.Tryz.prog 189:=⟨_,Go.Proofs.Tryz.underlying189,rfl,by kernel_rfl⟩
theorem c8U (x:Value)(w:World):(callFunc 278 [x].toArray).run Go.Proofs.Tryz.prog w=.ok (.value x) w:=by
 have hn:Extern.findNext Go.Proofs.Tryz.f278=none:=by kernel_rfl
 have he:Extern.find Go.Proofs.Tryz.f278=some Extern.AbiNoEscape.same:=by kernel_rfl
 rw [run_callFunc_extern Go.Proofs.Tryz.func278 (by kernel_rfl) (by kernel_rfl) hn he]
 rfl
theorem c9Y {b B:Nat}{bs:List Value}{p:Value}{w:World}(hp:p=.pointer none\/p=J0 b)(h:Lib.BuilderAt 191 5 B b p bs w) :
 Calls Go.Proofs.Tryz.prog 225 [J0 b].toArray w fun e w'=>e=.returned (.tuple #[])/\Lib.BuilderAt 191 5 B b (J0 b) bs w'/\Bw B w w':=by
 obtain ⟨j,hj,hjs⟩:∃ j,Go.Proofs.Tryz.prog.info? 191=some j/\j.size=2:=Option.map_eq_some_iff.1 (by kernel_rfl)
 obtain ⟨hB,v,hb,hown,hne⟩:=h
 have c0:w.cell? ⟨b,0,none⟩=some p:=by simp [World.cell?,hb]
 refine b93 20 Go.Proofs.Tryz.func225 rfl rfl rfl ?_
 refine wp_seq (wp_region_lit ?_)
 refine a03 (J0 b) rfl rfl ?_
 refine a2g ⟨b,0,none⟩ rfl rfl ?_
 refine a0A b 0 0 0 rfl rfl c3X rfl ?_
 refine a2D b 0 p rfl rfl (a2o c35 c0) ?_
 rcases hp with rfl | rfl
 ·refine a7H (.pointer none) (.pointer none) (.bool true) rfl rfl rfl rfl (c9W Go.Proofs.Tryz.underlying188) ?_
  refine wpList_nil (W7 ?_)
  refine b6V rfl rfl rfl (wp_region_lit ?_)
  refine a03 (J0 b) rfl rfl ?_
  refine a03 (J0 b) rfl rfl ?_
  have hsh:w.shape? b=some (191,2):=by simp [World.shape?,hb]
  refine c1s rfl rfl (Lib.run_to_unsafe (e:=191) (cells:=2) w ⟨b,0,none⟩ Go.Proofs.Tryz.underlying188 Go.Proofs.Tryz.underlying301 hj (by rw [hjs]; decide) hsh (Nat.zero_lt_succ 1)) ?_
  refine d0s [J0 b] (J0 b) rfl rfl (c8U _ w) ?_
  refine c1s rfl rfl (Lib.run_from_unsafe (e:=191) (cells:=2) w ⟨b,0,none⟩ Go.Proofs.Tryz.underlying301 Go.Proofs.Tryz.underlying188 hj hsh (by kernel_rfl)) ?_
  refine a2g ⟨b,0,none⟩ rfl rfl ?_
  refine a0A b 0 0 0 rfl rfl c3X rfl ?_
  refine b92 (cs:=[.pointer none,v]) hb 0 (J0 b) rfl rfl rfl rfl rfl (by kernel_rfl) rfl (Nat.zero_lt_succ 1) ?_
  refine wpList_nil (c92 rfl ⟨rfl,⟨hB,v,?_,?_,hne⟩,Bw.setCells hB 0 _ w⟩)
  ·have:=a4H b 191 [J0 b] 0 w [.pointer none,v] hb (Nat.le_succ 1)
   exact this
  ·obtain ⟨h1,h2⟩:=hown
   refine ⟨h1,h2.imp id fun ⟨g,cap,cur,e,hg,hh,r⟩=>⟨g,cap,cur,e,hg,?_,r⟩⟩
   rw [a2Z b _ 0 w g (by rintro rfl; rw [e] at hne; exact hne rfl)]
   exact hh
 ·refine a7H (J0 b) (.pointer none) (.bool false) rfl rfl rfl rfl (c9W Go.Proofs.Tryz.underlying188) ?_
  refine wpList_nil (W7 ?_)
  refine b0A rfl rfl rfl (wp_seq (wp_region_lit ?_))
  refine a03 (J0 b) rfl rfl ?_
  refine a2g ⟨b,0,none⟩ rfl rfl ?_
  refine a0A b 0 0 0 rfl rfl c3X rfl ?_
  refine a2D b 0 (J0 b) rfl rfl (a2o c35 c0) ?_
  refine a03 (J0 b) rfl rfl ?_
  refine a7H (J0 b) (J0 b) (.bool false) rfl rfl rfl rfl (d0L Go.Proofs.Tryz.underlying188 hj) ?_
  refine wpList_nil (W7 ?_)
  refine b0A rfl rfl rfl (wp_skip (c92 rfl ⟨rfl,⟨hB,v,hb,hown,hne⟩,Bw.refl B w⟩))
theorem c9D:a1d Go.Proofs.Tryz.prog 225:=⟨_,_,Go.Proofs.Tryz.func225,rfl,by kernel_rfl⟩
theorem c6n {b B:Nat}{bs:List Value}{w:World}(h:Lib.IsBuilder 191 5 B b bs w):∃ p,(p=.pointer none\/p=J0 b)/\Lib.BuilderAt 191 5 B b p bs w :=
 h.elim (fun h=>⟨_,.inl rfl,h⟩) (fun h=>⟨_,.inr rfl,h⟩)
theorem d1D {b B:Nat}{cs:List Value}{w w':World}{v v':Value}(hB:B<=b)(hb:w.heap[b]?=some (.cells #[J0 b,v] 191 (0,0)))(hne:v.ownBlock≠some b)(hg:w.grownBy w' v.ownBlock)(hown:w'.ownsRow B 5 1 v' cs.length cs)(hne':v'.ownBlock≠some b) :
 w'.heap[b]?=some (.cells #[J0 b,v] 191 (0,0))/\Lib.BuilderAt 191 5 B b (J0 b) cs (w'.setCells b 1 [v']):=by
 have hlt:b<w.heap.size:=(Array.getElem?_eq_some_iff.1 hb).1
 have h1:w'.heap[b]?=some (.cells #[J0 b,v] 191 (0,0)):=by rw [hg.block b hlt fun e=>hne e.symm]; exact hb
 refine ⟨h1,hB,v',?_,?_,hne'⟩
 ·exact a4H b 191 [v'] 1 w' [J0 b,v] h1 (Nat.le_refl 2)
 ·obtain ⟨a1,a2⟩:=hown
  refine ⟨a1,a2.imp id fun ⟨g,cap,cur,e,hg,hh,r⟩=>⟨g,cap,cur,e,hg,?_,r⟩⟩
  rw [a2Z b _ 1 w' g (by rintro rfl; rw [e] at hne'; exact hne' rfl)]
  exact hh
theorem c7i {b B:Nat}{T:TypeId}{cs:List Value}{w w':World}{v v':Value}{n:Nat}(hlt:b<w.heap.size)(hb:w.heap[b]?=some (.cells #[J0 b,v] 191 (0,0)))(hne:v.ownBlock≠some b)(hg:w.grownBy w' v.ownBlock)(hown:w'.ownsRow B 5 1 v' n cs):v'.ownBlock≠some b:=by
 intro e
 rcases hown.2 with ⟨rfl,_⟩ | ⟨g,cap,cur,rfl,_,hh,_⟩
 ·cases e
 ·cases e
  rw [hg.block g hlt fun e=>hne e.symm,hb] at hh
  cases hh
theorem bws {b B:Nat}{bs:List Value}{s:ByteArray}{w:World}(h:Lib.IsBuilder 191 5 B b bs w)(hlen:bs.length+s.size<=1000000000)(hBw:B<=w.heap.size) :
 Calls Go.Proofs.Tryz.prog 155 [J0 b,.string s].toArray w fun e w'=>(∃ v,e=.returned v)/\Lib.BuilderAt 191 5 B b (J0 b) (bs++Lib.strCells s) w'/\Bw B w w':=by
 obtain ⟨p,hp,h⟩:=c6n h
 obtain ⟨i,hi,hz⟩:∃ i,Go.Proofs.Tryz.prog.info? 5=some i/\(i.zero,i.size,i.bytes)=(some (.int .u8 0),1,1):=Option.map_eq_some_iff.1 (by kernel_rfl)
 simp only [Prod.mk.injEq] at hz
 refine b93 19 Go.Proofs.Tryz.func155 rfl rfl rfl ?_
 refine wp_seq (wp_region_lit ?_)
 refine a2b (.int .i64 0) rfl rfl ?_
 refine a2b .nilIface rfl rfl ?_
 refine wpList_nil (W7 (wp_seq (wp_region_lit ?_)))
 refine a03 (J0 b) rfl rfl ?_
 refine a6U [J0 b] rfl rfl c9D (c9Y hp h) ?_
 rintro e w1 ⟨rfl,hat,hbw⟩
 refine ⟨_,rfl,?_⟩
 refine wpList_nil (W7 (wp_seq (wp_region_lit ?_)))
 obtain ⟨hB,v,hb,hown,hne⟩:=hat
 have c1:w1.cell? ⟨b,1,none⟩=some v:=by simp [World.cell?,hb]
 have hlt:b<w1.heap.size:=(Array.getElem?_eq_some_iff.1 hb).1
 refine a03 (J0 b) rfl rfl ?_
 refine a03 (J0 b) rfl rfl ?_
 refine a2g ⟨b,0,none⟩ rfl rfl ?_
 refine a0A b 0 1 1 rfl rfl c1b rfl ?_
 refine a2D b 1 v rfl rfl (a2o c4f c1) ?_
 refine a03 (.string s) rfl rfl ?_
 obtain ⟨v',w2,hr,hown',hg,_⟩:=Lib.run_append_own_string (P:=Go.Proofs.Tryz.prog) (w:=w1) B 189 9 189 5 i Go.Proofs.Tryz.underlying189 Go.Proofs.Tryz.underlying9 hi hz.1 hz.2.1 hz.2.2 v bs.length bs hown s (by unfold maxLen; omega) (by omega) (Nat.le_trans hBw hbw.below.size)
 refine c2I rfl rfl rfl rfl hr ?_
 have hd:=b2n _ hr
 have hl:bs.length+s.size=(bs++Lib.strCells s).length:=by rw [List.length_append,Lib.strCells_length]
 rw [hl] at hown'
 have hne':=c7i (T:=5) hlt hb hne hg hown'
 obtain ⟨hb2,hat2⟩:=d1D hB hb hne hg hown' hne'
 refine a2g ⟨b,0,none⟩ rfl rfl ?_
 refine a0A b 0 1 1 rfl rfl c1b rfl ?_
 have hv1:v'.cells.toList=[v']/\v'.oneCell'=true:=by
  rcases hown'.2 with ⟨rfl,_⟩ | ⟨g,cap,cur,rfl,_⟩
  ·exact ⟨rfl,rfl⟩
  ·exact ⟨rfl,rfl⟩
 refine b92 (cs:=[J0 b,v]) hb2 1 v' rfl rfl rfl rfl hv1.1 (by kernel_rfl) hv1.2 (Nat.lt_succ_self 1) ?_
 refine wpList_nil (W7 (wp_seq (wp_region_lit ?_)))
 refine a03 (.string s) rfl rfl ?_
 refine c41 s rfl rfl Go.Proofs.Tryz.underlying9 ?_
 refine a2b (.int .i64 (s.size:Int)) rfl rfl ?_
 refine a2b .nilIface rfl rfl ?_
 refine wpList_nil (W7 (wp_ret (d2s (.int .i64 (s.size:Int)) .nilIface rfl rfl rfl rfl rfl ⟨⟨_,rfl⟩,hat2,?_⟩)))
 exact hbw.trans ((Bw.grown hg hd (c1n hown) (Nat.le_trans hBw hbw.below.size)).trans (Bw.setCells hB 1 _ w2))
theorem bwb {b B:Nat}{bs:List Value}{c:Int}{w:World}(h:Lib.IsBuilder 191 5 B b bs w)(hlen:bs.length+1<=1000000000)(hBw:B<=w.heap.size) :
 Calls Go.Proofs.Tryz.prog 154 [J0 b,.int .u8 c].toArray w fun e w'=>(∃ v,e=.returned v)/\Lib.BuilderAt 191 5 B b (J0 b) (bs++[.int .u8 c]) w'/\Bw B w w':=by
 obtain ⟨p,hp,h⟩:=c6n h
 obtain ⟨i,hi,hz⟩:∃ i,Go.Proofs.Tryz.prog.info? 5=some i/\(i.zero,i.size,i.bytes)=(some (.int .u8 0),1,1):=Option.map_eq_some_iff.1 (by kernel_rfl)
 simp only [Prod.mk.injEq] at hz
 refine b93 17 Go.Proofs.Tryz.func154 rfl rfl rfl ?_
 refine wp_seq (wp_region_lit ?_)
 refine a2b .nilIface rfl rfl ?_
 refine wpList_nil (W7 (wp_seq (wp_region_lit ?_)))
 refine a03 (J0 b) rfl rfl ?_
 refine a6U [J0 b] rfl rfl c9D (c9Y hp h) ?_
 rintro e w1 ⟨rfl,hat,hbw⟩
 refine ⟨_,rfl,?_⟩
 refine wpList_nil (W7 (wp_seq (wp_region_lit ?_)))
 obtain ⟨hB,v,hb,hown,hne⟩:=hat
 have c1:w1.cell? ⟨b,1,none⟩=some v:=by simp [World.cell?,hb]
 have hlt:b<w1.heap.size:=(Array.getElem?_eq_some_iff.1 hb).1
 refine a03 (J0 b) rfl rfl ?_
 refine a03 (J0 b) rfl rfl ?_
 refine a2g ⟨b,0,none⟩ rfl rfl ?_
 refine a0A b 0 1 1 rfl rfl c1b rfl ?_
 refine a2D b 1 v rfl rfl (a2o c4f c1) ?_
 refine a03 (.int .u8 c) rfl rfl ?_
 refine c9l (v:=.int .u8 c) Go.Proofs.Tryz.underlying189 hi hz.1 hz.2.1 rfl rfl rfl rfl rfl ?_
 have hbw1:Bw B w1 (w1.alloc (.cells #[.int .u8 c] 5)):=⟨(Below.refl _ _).alloc (Nat.le_trans hBw hbw.below.size) _,Nat.le_refl _⟩
 have hb1:(w1.alloc (.cells #[.int .u8 c] 5)).heap[b]?=some (.cells #[J0 b,v] 191 (0,0)):=by rw [heap_alloc_old _ _ hlt]; exact hb
 have hown1:(w1.alloc (.cells #[.int .u8 c] 5)).ownsRow B 5 1 v bs.length bs:=by
  obtain ⟨a1,a2⟩:=hown
  refine ⟨a1,a2.imp id fun ⟨g,cap,cur,e,hg,hh,r⟩=>⟨g,cap,cur,e,hg,?_,r⟩⟩
  rw [heap_alloc_old _ _ (Array.getElem?_eq_some_iff.1 hh).1]
  exact hh
 have hlt1:b<(w1.alloc (.cells #[.int .u8 c] 5)).heap.size:=(Array.getElem?_eq_some_iff.1 hb1).1
 have hBw1:=Nat.le_trans (Nat.le_trans hBw hbw.below.size) hbw1.below.size
 obtain ⟨v',w2,hr,hown',hg,_⟩:=run_append_own (P:=Go.Proofs.Tryz.prog) (w:=w1.alloc (.cells #[.int .u8 c] 5)) B 189 189 5 i (.int .u8 0) 1 1 Go.Proofs.Tryz.underlying189 hi hz.1 hz.2.1 hz.2.2 rfl Nat.zero_lt_one v bs.length bs hown1 ⟨w1.heap.size,0,none⟩ 1 1 [.int .u8 c] rfl (fun j u hj=>by
  have hj0:j=0:=by
   rcases j with _ | j
   ·rfl
   ·simp at hj
  subst hj0
  simp at hj
  subst hj
  rw [show (Addr.add ⟨w1.heap.size,0,none⟩ 0:Addr)=⟨w1.heap.size,0,none⟩ from rfl,World.cell?,heap_alloc_new]
  rfl) (fun u hu=>by simp at hu; subst hu; rfl) (by unfold maxLen; omega) (by omega) hBw1
 refine c2I rfl rfl rfl rfl hr ?_
 have hd:=b2n _ hr
 rw [show bs.length+1=(bs++[Value.int .u8 c]).length by simp] at hown'
 have hne':=c7i (T:=5) hlt1 hb1 hne hg hown'
 obtain ⟨hb2,hat2⟩:=d1D hB hb1 hne hg hown' hne'
 refine a2g ⟨b,0,none⟩ rfl rfl ?_
 refine a0A b 0 1 1 rfl rfl c1b rfl ?_
 have hv1:v'.cells.toList=[v']/\v'.oneCell'=true:=by
  rcases hown'.2 with ⟨rfl,_⟩ | ⟨g,cap,cur,rfl,_⟩
  ·exact ⟨rfl,rfl⟩
  ·exact ⟨rfl,rfl⟩
 refine b92 (cs:=[J0 b,v]) hb2 1 v' rfl rfl rfl rfl hv1.1 (by kernel_rfl) hv1.2 (Nat.lt_succ_self 1) ?_
 refine wpList_nil (W7 (wp_seq (wp_region_lit ?_)))
 refine a2b .nilIface rfl rfl ?_
 refine wpList_nil (W7 (wp_ret (d2v .nilIface rfl rfl rfl ⟨⟨_,rfl⟩,hat2,?_⟩)))
 exact hbw.trans (hbw1.trans ((Bw.grown hg hd (c1n hown1) hBw1).trans (Bw.setCells hB 1 _ w2)))
end Go.Qx
end
section
namespace Go.Proofs
open Go.RowKit
set_option maxRecDepth 100000
set_option maxHeartbeats 4000000 in
theorem Tryz.bstr1 {b g cap:Nat}{cur:Array Value}{p:Value}{l:List UInt8}{w:World}(hb:w.heap[b]?=some (.cells #[p,.slice (some ⟨g,0,none⟩) l.length cap] 191 (0,0)))(hg:w.heap[g]?=some (.cells cur 5 (0,0)))
 (h0:l≠[]) (hnc:l.length<=cap) (hcs:cur.size=cap) (hcm:l.length<=1000000000) (hc:∀ (j:Nat) (x:UInt8),l[j]?=some x->cur[j]?=some (Value.int IntKind.u8 (x.toNat:Int))) :
 Calls Tryz.prog 157 #[.pointer (some ⟨b,0,none⟩)] w fun e w'=>e=.returned (.string ⟨l.toArray⟩)/\w'=w.drew.freeze ⟨g,0,none⟩ l.length:=by
 have hl0:l.length≠0:=by simpa using h0
 have hb':w.drew.heap[b]?=some (.cells #[p,.slice (some ⟨g,0,none⟩) l.length cap] 191 (0,0)):=hb
 have hg':w.drew.heap[g]?=some (.cells cur 5 (0,0)):=hg
 have c1:w.drew.cell? ⟨b,1,none⟩=some (.slice (some ⟨g,0,none⟩) l.length cap):=by simp [World.cell?,hb']
 have hSD:(Builtin.unsafeSliceData_ #[189] 261 #[.slice (some ⟨g,0,none⟩) l.length cap]).run Tryz.prog w.drew=.ok (.pointer (some ⟨g,0,none⟩)) w.drew :=
  Lib.run_unsafeSliceData_row _ _ _ _ _ _ (by omega)
 have hUS:(Builtin.unsafeString_ #[261,3] 9 #[.pointer (some ⟨g,0,none⟩),.int .i64 l.length]).run Tryz.prog w.drew=.ok (.string ⟨l.toArray⟩) (w.drew.freeze ⟨g,0,none⟩ l.length) :=
  Lib.run_unsafeString_row w.drew 261 3 9 5 Tryz.underlying261 (by kernel_rfl) g cur.size (by simp [World.shape?,hg']) l h0 (by omega) (by omega) (fun j x hx=>by
   have:=hc j x hx
   have e:((⟨g,0,none⟩:Addr).add j)=⟨g,j,none⟩:=by rcases j with _ | j<;>simp [Addr.add]
   rw [e]
   simp [World.cell?,hg',this])
 go_enter Tryz.func157,Tryz.ntmps157
 go_wp2
 go_region
 all_goals (go_wp2; go_ret; exact ⟨rfl,rfl⟩)
set_option maxHeartbeats 4000000 in
theorem Tryz.bstr0 {b:Nat}{p:Value}{w:World}(hb:w.heap[b]?=some (.cells #[p,.slice none 0 0] 191 (0,0))) :
 Calls Tryz.prog 157 #[.pointer (some ⟨b,0,none⟩)] w fun e w'=>e=.returned (.string ⟨#[]⟩)/\w'=w.drew:=by
 have hb':w.drew.heap[b]?=some (.cells #[p,.slice none 0 0] 191 (0,0)):=hb
 have c1:w.drew.cell? ⟨b,1,none⟩=some (.slice none 0 0):=by simp [World.cell?,hb']
 have hSD:(Builtin.unsafeSliceData_ #[189] 261 #[.slice none 0 0]).run Tryz.prog w.drew=.ok (.pointer none) w.drew:=Lib.run_unsafeSliceData_nil _ _ _ _ _
 have hUS:(Builtin.unsafeString_ #[261,3] 9 #[.pointer none,.int .i64 0]).run Tryz.prog w.drew=.ok (.string .empty) w.drew:=Lib.run_unsafeString_none _ _ _ _ _
 go_enter Tryz.func157,Tryz.ntmps157
 go_wp2
 go_region
 all_goals (go_wp2; go_ret; exact ⟨rfl,rfl⟩)
end Go.Proofs
end

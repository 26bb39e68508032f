/- Part 4. -/
import Derived.Test.YtlapkakgkamkoaaGreatK2
import Derived.Test.YtlapkakgkamkoaaGreatK3
import Derived.KernelRfl
import Derived.Shelf.Lays
import Derived.Test.YtlapkakgkamkoaaGreatProg
section
namespace Go.Pl
open Go Go.RowKit Go.Sx Go.Qx
def inR (N:Nat)(k:Int):Bool:=decide (0<=k)&&decide (k<(N:Int))
def a55 (N:Nat)(l:List Api_Field):Bool:=asc cK (l.map (·.Key_))&&(l.all (fun f=>X4 f.Key_)&&l.all fun f=>inR N f.Node)
def a3q (N:Nat)(x:Api_TypeNode):Bool :=
 if x.Kind=3 then x.Kids.isEmpty&&decide (x.Lo<=x.Hi) else if x.Kind=4 then x.Kids.isEmpty&&decide ((x.Text.size:Int)<=64) else
 if x.Kind=6 then x.Kids.isEmpty&&a35 x.Text else if x.Kind=19 then x.Kids.isEmpty&&a5O x.Text else
 if x.Kind=1\/x.Kind=2\/x.Kind=5\/x.Kind=7\/x.Kind=8\/x.Kind=9\/x.Kind=11\/x.Kind=15 then x.Kids.isEmpty else
 if x.Kind=10 then decide ((x.Kids.length:Int)<=4) else if x.Kind=12 then (x.Kids.length:Int)==2 else
 if x.Kind=14 then decide (1<=(x.Kids.length:Int))&&decide ((x.Kids.length:Int)<=5) else
 if x.Kind=16\/x.Kind=17 then decide (1<=(x.Kids.length:Int)) else if x.Kind=18 then (x.Kids.length:Int)==1 else
 if x.Kind=13 then a55 N x.Fields&&(x.Kids.isEmpty&&(inR N x.Rest.1&&inR N x.Rest.2)) else false
def a6m (r:Int×Int):Bool:=r.1==0&&r.2==0
def V9 (N:Nat)(x:Api_TypeNode):Bool :=
 x.Kids.all (inR N)&&((x.Kind==3||(x.Lo==0&&x.Hi==0))&&((x.Kind==4||x.Kind==6||x.Kind==19||Q4 x.Text ⟨#[]⟩)&&((x.Kind==13||(x.Fields.isEmpty&&a6m x.Rest))&&a3q N x)))
theorem c3s {α:Type}(l:List α):((l.length:Int)==0)=l.isEmpty:=by cases l<;>simp<;>omega
theorem c3f (r:Int×Int):a7k r (0,0)=a6m r:=by unfold a7k a6m; simp
theorem b1m (t:Api_Type)(k:Int):a0v t k=some (inR t.Nodes.length k):=by
 unfold a0v inR
 cases decide (0<=k)<;>rfl
theorem Z0 {i n:Nat}(h:i<n):decide ((i:Int)<(n:Int))=true:=decide_eq_true (by omega)
theorem c90 (q:Api_Field->Bool)(l:List Api_Field):(List.range l.length).all (b3k (fun a b=>cK a.Key_ b.Key_) q l)=(asc cK (l.map (·.Key_))&&l.all q):=by
 rw [c2B]
 congr 1
 rw [Bool.eq_iff_iff,b4Q,b4Q]
 constructor
 ·intro h i h1 hi
  have:=h i h1 (by simpa using hi)
  simpa using this
 ·intro h i h1 hi
  have:=h i h1 (by simpa using hi)
  simpa using this
theorem c10 {step:Int->Option (Fl Int (Sum Unit Bool))}(q:Api_Field->Bool)(l:List Api_Field)
 (hst:∀ (i:Nat) (x:Api_Field),l[i]?=some x->step (i:Int)=some (if b3k (fun a b=>cK a.Key_ b.Key_) q l i=true then .next ((i+1:Nat):Int) else .done (.inr false)))
 (hend:step (l.length:Int)=some (.done (.inl ()))):y4 step (l.length+1) 0=some (if (asc cK (l.map (·.Key_))&&l.all q)=true then .inl () else .inr false):=by
 have:=b7L (step:=step) (fun a b:Api_Field=>cK a.Key_ b.Key_) q l false hst hend
 rw [<- c2B,c90] at this
 exact this
theorem c2T (t:Api_Type)(x:Api_TypeNode)(hk:x.Kids.length<=4194304)(hf:x.Fields.length<=4194304):a5D t x=some (V9 t.Nodes.length x):=by
 have l1:y4 (a4k t x) (x.Kids.length+1) 0=some (if x.Kids.all (inR t.Nodes.length)=true then .inl () else .inr false):=by
  refine W8 x.Kids (inR t.Nodes.length) (fun i=>(i:Int)) () false ?_ ?_
  ·intro i k hx
   have hi:i<x.Kids.length:=(List.getElem?_eq_some_iff.1 hx).1
   unfold a4k
   rw [Z0 hi,j6 hx]
   simp only [cond_true,Option.bind_some,b1m,Z2]
   rw [j9 i (by omega)]
   exact a2Y _ _
  ·unfold a4k
   simp
 have l2:y4 (a4o t x) (x.Fields.length+1) 0=some (if (asc cK (x.Fields.map (·.Key_))&&x.Fields.all fun f=>inR t.Nodes.length f.Node&&X4 f.Key_)=true then .inl () else .inr false):=by
  refine c10 (fun f=>inR t.Nodes.length f.Node&&X4 f.Key_) x.Fields ?_ ?_
  ·intro i f hx
   have hi:i<x.Fields.length:=(List.getElem?_eq_some_iff.1 hx).1
   unfold a4o
   rw [Z0 hi,j6 hx]
   simp only [cond_true,Option.bind_some,b1m,b5T,Z2,W7]
   have hq:(Option.bind (bif !inR t.Nodes.length f.Node then some true else some (!X4 f.Key_)) fun q=>some q)=some (!(inR t.Nodes.length f.Node&&X4 f.Key_)):=by
    cases inR t.Nodes.length f.Node<;>cases X4 f.Key_<;>rfl
   rw [W7] at hq
   rw [hq]
   simp only [Option.bind_some]
   refine b4h (fun a b:Api_Field=>cK a.Key_ b.Key_) (fun f=>inR t.Nodes.length f.Node&&X4 f.Key_) x.Fields i f hx (by omega) (fun h=>by rw [h]; rfl) (fun h h0=>by subst h0; rw [h]; rfl) (fun h j y hj hy hiy=>?_)
   subst hj
   rw [h,hiy,c2d]
   simp only [Bool.not_true,cond_false,cond_true,Option.bind_some,a9G]
   by_cases hc:cK y.Key_ f.Key_<0
   ·have:¬ 0<=cK y.Key_ f.Key_:=by omega
    simp [hc,this]
   ·have:0<=cK y.Key_ f.Key_:=by omega
    simp [hc,this]
  ·unfold a4o
   simp
 unfold a5D
 simp only [Z5,W7,b1m,c3f,b3G,b92,c3s,b68]
 rw [l1,l2]
 unfold V9
 cases x.Kids.all (inR t.Nodes.length)
 ·rfl
 simp only [Option.bind_some,if_true,k7]
 have hF:(asc cK (x.Fields.map (·.Key_))&&x.Fields.all fun f=>inR t.Nodes.length f.Node&&X4 f.Key_)=a55 t.Nodes.length x.Fields:=by
  unfold a55
  congr 1
  rw [Bool.eq_iff_iff,Bool.and_eq_true,List.all_eq_true,List.all_eq_true,List.all_eq_true]
  simp only [Bool.and_eq_true]
  exact ⟨fun h=>⟨fun f hf=>(h f hf).2,fun f hf=>(h f hf).1⟩,fun h f hf=>⟨h.2 f hf,h.1 f hf⟩⟩
 rw [hF]
 unfold a3q
 simp only [bne]
 generalize a55 t.Nodes.length x.Fields=A
 generalize inR t.Nodes.length x.Rest.1=B
 generalize inR t.Nodes.length x.Rest.2=C
 generalize a6m x.Rest=D
 generalize x.Fields.isEmpty=E
 generalize Q4 x.Text ⟨#[]⟩=G
 generalize (x.Lo==0)=H
 generalize (x.Hi==0)=J
 generalize x.Kids.isEmpty=M
 generalize a35 x.Text=O
 generalize a5O x.Text=Q
 generalize decide (x.Lo<=x.Hi)=R
 generalize decide ((x.Text.size:Int)<=64)=T
 generalize decide ((x.Kids.length:Int)<=4)=U
 generalize ((x.Kids.length:Int)==2)=V
 generalize ((x.Kids.length:Int)==1)=W
 generalize decide (1<=(x.Kids.length:Int))=X
 generalize decide ((x.Kids.length:Int)<=5)=Y
 by_cases hk:x.Kind=1\/x.Kind=2\/x.Kind=3\/x.Kind=4\/x.Kind=5\/x.Kind=6\/x.Kind=7\/x.Kind=8\/x.Kind=9\/x.Kind=10\/x.Kind=11\/x.Kind=12\/x.Kind=13\/x.Kind=14\/x.Kind=15\/x.Kind=16\/x.Kind=17\/x.Kind=18\/x.Kind=19
 ·rcases hk with h | h | h | h | h | h | h | h | h | h | h | h | h | h | h | h | h | h | h<;>rw [h]<;>cases G<;>cases H<;>cases J<;>cases E<;>cases D<;>simp
  all_goals first
   | rfl
   | (cases M<;>rfl)
   | (cases X<;>rfl)
   | (cases A<;>cases M<;>cases B<;>rfl)
 ·simp only [not_or] at hk
  obtain ⟨h1,h2,h3,h4,h5,h6,h7,h8,h9,h10,h11,h12,h13,h14,h15,h16,h17,h18,h19⟩:=hk
  have e:∀ {n:Int},¬ x.Kind=n->(x.Kind==n)=false:=fun h=>by simpa using h
  simp only [e h1,e h2,e h3,e h4,e h5,e h6,e h7,e h8,e h9,e h10,e h11,e h12,e h13,e h14,e h15,e h16,e h17,e h18,e h19,if_neg h3,if_neg h4,if_neg h6,if_neg h19,if_neg h10,if_neg h12,if_neg h14,if_neg h18,if_neg h13,h1,h2,h5,h7,h8,h9,h11,h15,h16,h17,or_self,if_false]
  cases G<;>cases H<;>cases J<;>cases E<;>cases D<;>rfl
end Go.Pl
namespace Go.Pl
open Go Go.RowKit Go.Sx Go.Qx
def b6W (x:Api_TypeNode):Bool :=
 (x.Kind==3||(x.Lo==0&&x.Hi==0))&&((x.Kind==4||x.Kind==6||x.Kind==19||Q4 x.Text ⟨#[]⟩) &&
   ((x.Kind==10||x.Kind==12||x.Kind==14||x.Kind==16||x.Kind==17||x.Kind==18||x.Kids.isEmpty)&&(x.Kind==13||(x.Fields.isEmpty&&a6m x.Rest))))
def b96 (l:List Api_Field):Bool:=asc cK (l.map (·.Key_))&&l.all fun f=>X4 f.Key_
def b6C (x:Api_TypeNode):Bool :=
 if x.Kind=3 then decide (x.Lo<=x.Hi) else if x.Kind=4 then decide ((x.Text.size:Int)<=64) else
 if x.Kind=6 then a35 x.Text else if x.Kind=19 then a5O x.Text else
 if x.Kind=1\/x.Kind=2\/x.Kind=5\/x.Kind=7\/x.Kind=8\/x.Kind=9\/x.Kind=11\/x.Kind=15 then true else
 if x.Kind=10 then decide ((x.Kids.length:Int)<=4) else if x.Kind=12 then (x.Kids.length:Int)==2 else
 if x.Kind=14 then decide (1<=(x.Kids.length:Int))&&decide ((x.Kids.length:Int)<=5) else
 if x.Kind=16\/x.Kind=17 then decide (1<=(x.Kids.length:Int)) else if x.Kind=18 then (x.Kids.length:Int)==1 else
 if x.Kind=13 then b96 x.Fields else false
def a5W (x:Api_TypeNode):List Int:=x.Kids++x.Fields.map (·.Node)++(if x.Kind=13 then [x.Rest.1,x.Rest.2] else [])
theorem a8E (k:Int):(k=1\/k=2\/k=3\/k=4\/k=5\/k=6\/k=7\/k=8\/k=9\/k=10\/k=11\/k=12\/k=13\/k=14\/k=15\/k=16\/k=17\/k=18\/k=19)\/∀ n:Int,1<=n->n<=19->(k==n)=false:=by
 by_cases h:1<=k/\k<=19
 ·left; omega
 ·right
  intro n h1 h2
  have:k≠n:=by omega
  simpa using this
theorem c7O (x:Api_TypeNode):a4Q x=some (b6W x):=by
 unfold a4Q b6W
 simp only [W7,c3f,c3s]
 generalize a6m x.Rest=D
 generalize x.Fields.isEmpty=E
 generalize Q4 x.Text ⟨#[]⟩=G
 generalize (x.Lo==0)=H
 generalize (x.Hi==0)=J
 generalize x.Kids.isEmpty=M
 rcases a8E x.Kind with h | h
 ·rcases h with h | h | h | h | h | h | h | h | h | h | h | h | h | h | h | h | h | h | h<;>rw [h]<;>cases G<;>cases H<;>cases J<;>cases E<;>cases D<;>cases M<;>rfl
 ·simp only [h 3 (by omega) (by omega),h 4 (by omega) (by omega),h 6 (by omega) (by omega),h 19 (by omega) (by omega),h 10 (by omega) (by omega),h 12 (by omega) (by omega),h 14 (by omega) (by omega),h 16 (by omega) (by omega),h 17 (by omega) (by omega),h 18 (by omega) (by omega),h 13 (by omega) (by omega)]
  cases G<;>cases H<;>cases J<;>cases E<;>cases D<;>cases M<;>rfl
theorem c6N (l:List Api_Field)(hl:l.length<=4194304):a3W l=some (b96 l):=by
 have l2:y4 (a2J l) (l.length+1) 0=some (if (asc cK (l.map (·.Key_))&&l.all fun f=>X4 f.Key_)=true then .inl () else .inr false):=by
  refine c10 (fun f=>X4 f.Key_) l ?_ ?_
  ·intro i f hx
   have hi:i<l.length:=(List.getElem?_eq_some_iff.1 hx).1
   unfold a2J
   rw [Z0 hi,j6 hx]
   simp only [cond_true,Option.bind_some,c6O,Z2,W7]
   refine b4h (fun a b:Api_Field=>cK a.Key_ b.Key_) (fun f=>X4 f.Key_) l i f hx (by omega) (fun h=>by rw [h]; rfl) (fun h h0=>by subst h0; rw [h]; rfl) (fun h j y hj hy hiy=>?_)
   subst hj
   rw [h,hiy,c2d]
   simp only [Bool.not_true,cond_false,cond_true,Option.bind_some,b3P]
   by_cases hc:cK y.Key_ f.Key_<0
   ·have:¬ 0<=cK y.Key_ f.Key_:=by omega
    simp [hc,this]
   ·have:0<=cK y.Key_ f.Key_:=by omega
    simp [hc,this]
  ·unfold a2J
   simp
 unfold a3W b96
 rw [Z5,l2]
 cases (asc cK (l.map (·.Key_))&&l.all fun f=>X4 f.Key_)<;>rfl
theorem c8a (x:Api_TypeNode)(hf:x.Fields.length<=4194304):a4K x=some (b6C x):=by
 unfold a4K b6C
 simp only [W7,c0i,c6M,c6N x.Fields hf]
 generalize b96 x.Fields=A
 generalize a35 x.Text=O
 generalize a5O x.Text=Q
 generalize decide (x.Lo<=x.Hi)=R
 generalize decide ((x.Text.size:Int)<=64)=T
 generalize decide ((x.Kids.length:Int)<=4)=U
 generalize ((x.Kids.length:Int)==2)=V
 generalize ((x.Kids.length:Int)==1)=W
 generalize decide (1<=(x.Kids.length:Int))=X
 generalize decide ((x.Kids.length:Int)<=5)=Y
 rcases a8E x.Kind with h | h
 ·rcases h with h | h | h | h | h | h | h | h | h | h | h | h | h | h | h | h | h | h | h<;>rw [h]<;>first | rfl | (cases X<;>rfl)
 ·have e:∀ n:Int,1<=n->n<=19->¬ x.Kind=n:=fun n h1 h2=>by simpa using h n h1 h2
  simp only [h 1 (by omega) (by omega),h 2 (by omega) (by omega),h 5 (by omega) (by omega),h 7 (by omega) (by omega),h 8 (by omega) (by omega),h 9 (by omega) (by omega),h 11 (by omega) (by omega),h 15 (by omega) (by omega),h 3 (by omega) (by omega),h 4 (by omega) (by omega),h 6 (by omega) (by omega),h 19 (by omega) (by omega),h 10 (by omega) (by omega),h 12 (by omega) (by omega),h 14 (by omega) (by omega),h 16 (by omega) (by omega),h 17 (by omega) (by omega),h 18 (by omega) (by omega),h 13 (by omega) (by omega),
   e 1 (by omega) (by omega),e 2 (by omega) (by omega),e 5 (by omega) (by omega),e 7 (by omega) (by omega),e 8 (by omega) (by omega),e 9 (by omega) (by omega),e 11 (by omega) (by omega),e 15 (by omega) (by omega),e 3 (by omega) (by omega),e 4 (by omega) (by omega),e 6 (by omega) (by omega),e 19 (by omega) (by omega),e 10 (by omega) (by omega),e 12 (by omega) (by omega),e 14 (by omega) (by omega),e 16 (by omega) (by omega),e 17 (by omega) (by omega),e 18 (by omega) (by omega),e 13 (by omega) (by omega),or_self,if_false]
  rfl
theorem c4x {α β:Type}(f:α->β):∀ (l:List α) (s:List β),l.foldl (fun s x=>s++[f x]) s=s++l.map f
 | [],s=>by simp
 | x::r,s=>by rw [List.foldl_cons,c4x f r]; simp
theorem c8A (x:Api_TypeNode)(hk:x.Kids.length<=1100000)(hf:x.Fields.length<=1100000):a6Y x=some (a5W x):=by
 unfold a6Y a4E a5W
 rw [Q9 (by omega)]
 simp only [Option.bind_some,Z5]
 have key:=b2Q (σ:=List Int) (step:=a2z x) x.Fields (fun s i=>(s,(i:Int))) (fun s f=>s++[f.Node]) (fun i s=>s.length<=x.Kids.length+i) (fun s=>s)
  ?_ ?_ x.Kids (by simp) _ (Nat.le_refl _)
 ·have e:y4 (a2z x) (x.Fields.length+1) (x.Kids,0)=y4 (a2z x) (x.Fields.length+1) (x.Kids,((0:Nat):Int)):=rfl
  rw [e,key,c4x]
  simp only [Option.bind_some]
  by_cases h:x.Kind=13
  ·rw [show (x.Kind==13)=true by simpa using h,if_pos h,Q9 (by simp only [List.length_append,List.length_map,List.length_cons,List.length_nil]; omega)]
   rfl
  ·rw [show (x.Kind==13)=false by simpa using h,if_neg h,List.append_nil]
   rfl
 ·intro i s f hx hI
  have hi:i<x.Fields.length:=(List.getElem?_eq_some_iff.1 hx).1
  refine ⟨?_,by simp only [List.length_append,List.length_cons,List.length_nil]; omega⟩
  unfold a2z
  simp only [Z2]
  rw [Z0 hi,j6 hx]
  simp only [cond_true,Option.bind_some]
  rw [Q9 (by simp only [List.length_cons,List.length_nil]; omega),j9 i (by omega)]
  rfl
 ·intro s _
  unfold a2z
  simp
theorem c7k (N:Nat)(x:Api_TypeNode):(b6W x&&(b6C x&&(a5W x).all (inR N)))=V9 N x:=by
 unfold b6W b6C V9 a3q a5W a55 b96
 simp only [List.all_append,List.all_map]
 have hE:x.Fields.isEmpty=true->x.Fields=[]:=List.isEmpty_iff.1
 have hM:x.Kids.isEmpty=true->x.Kids=[]:=List.isEmpty_iff.1
 rcases a8E x.Kind with h | h
 ·have hK:x.Kids.isEmpty=true->x.Kids.all (inR N)=true:=fun e=>by rw [hM e]; rfl
  have hF:x.Fields.isEmpty=true->(x.Fields.all (inR N∘fun f=>f.Node))=true:=fun e=>by rw [hE e]; rfl
  have hcomp:(x.Fields.all fun f=>inR N f.Node)=x.Fields.all (inR N∘fun f=>f.Node):=rfl
  rw [hcomp]
  generalize x.Fields.all (inR N∘fun f=>f.Node)=a1 at hF
  generalize x.Kids.all (inR N)=a2 at hK
  generalize x.Fields.isEmpty=E at hF
  generalize x.Kids.isEmpty=M at hK
  generalize a6m x.Rest=D
  generalize Q4 x.Text ⟨#[]⟩=G
  generalize (x.Lo==0)=H
  generalize (x.Hi==0)=J
  rcases h with h | h | h | h | h | h | h | h | h | h | h | h | h | h | h | h | h | h | h<;>rw [h]<;>simp <;>
   cases G<;>cases H<;>cases J<;>cases E<;>cases D<;>cases M<;>simp_all
  all_goals first
   | (simp only [Bool.and_assoc]; done)
   | (cases a2<;>simp; done)
 ·have e:∀ n:Int,1<=n->n<=19->¬ x.Kind=n:=fun n h1 h2=>by simpa using h n h1 h2
  simp only [e 1 (by omega) (by omega),e 2 (by omega) (by omega),e 5 (by omega) (by omega),e 7 (by omega) (by omega),e 8 (by omega) (by omega),e 9 (by omega) (by omega),e 11 (by omega) (by omega),e 15 (by omega) (by omega),e 3 (by omega) (by omega),e 4 (by omega) (by omega),e 6 (by omega) (by omega),e 19 (by omega) (by omega),e 10 (by omega) (by omega),e 12 (by omega) (by omega),e 14 (by omega) (by omega),e 16 (by omega) (by omega),e 17 (by omega) (by omega),e 18 (by omega) (by omega),e 13 (by omega) (by omega),or_self,if_false]
  simp
end Go.Pl
namespace Go.Pl
open Go Go.RowKit Go.Sx Go.Qx
def isB (x:Api_TypeNode):Bool:=x.Kind==16||x.Kind==17||x.Kind==18
def c11 (ns:List Api_TypeNode):Prop:=∀ (i:Nat) (x:Api_TypeNode),ns[i]?=some x->isB x=true->∀ k∈x.Kids,(i:Int)<k
def a3f (ns:List Api_TypeNode):Bool:=ns.all (V9 ns.length)
theorem d0q (x:Api_TypeNode):a4P x.Kind=some (isB x):=by
 unfold a4P isB
 cases (x.Kind==16)<;>cases (x.Kind==17)<;>rfl
theorem c0p (x:Api_TypeNode):a4q x=some (isB x):=by
 unfold a4q isB
 cases (x.Kind==16)<;>cases (x.Kind==17)<;>rfl
theorem a3K {N:Nat}{x:Api_TypeNode}(h:V9 N x=true):∀ k∈x.Kids,inR N k=true:=by
 unfold V9 at h
 simp only [Bool.and_eq_true] at h
 exact List.all_eq_true.1 h.1
theorem a0W {N:Nat}{k:Int}(h:inR N k=true):∃ j:Nat,k=(j:Int)/\j<N:=by
 unfold inR at h
 simp only [Bool.and_eq_true,decide_eq_true_eq] at h
 exact ⟨k.toNat,by omega,by omega⟩
def Rk (ns:List Api_TypeNode)(r:Nat->Nat):Prop:=∀ (i:Nat) (x:Api_TypeNode),ns[i]?=some x->isB x=true->∀ k∈x.Kids,r k.toNat<r i
def Acy (ns:List Api_TypeNode):Prop:=∃ r,Rk ns r
open Classical in
noncomputable def a5b (ns:List Api_TypeNode):Bool:=decide (Acy ns)
theorem b1P {ns:List Api_TypeNode}:a5b ns=true↔Acy ns:=by
 unfold a5b
 classical exact decide_eq_true_iff
theorem c11.acy {ns:List Api_TypeNode}(h:c11 ns)(hT:a3f ns=true):a5b ns=true :=
 b1P.2 ⟨fun i=>ns.length-i,fun i x hx hb k hk=>by
  obtain ⟨j,rfl,hj⟩:=a0W (a3K (List.all_eq_true.1 hT x (List.mem_of_getElem? hx)) k hk)
  have:=h i x hx hb _ hk
  show ns.length-((j:Int)).toNat<ns.length-i
  rw [Int.toNat_natCast]
  omega⟩
def Gd (ns:List Api_TypeNode)(D:Nat->Prop):Prop:=∃ r:Nat->Nat,∀ (i:Nat) (x:Api_TypeNode),D i->ns[i]?=some x->isB x=true->∀ k∈x.Kids,D k.toNat/\r k.toNat<r i
theorem c4s (r:Nat->Nat):∀ (l:List Int) (k:Int),k∈l->r k.toNat<=(l.map fun k=>r k.toNat).sum
 | [],_,h=>by cases h
 | y::l,k,h=>by
   rw [List.map_cons,List.sum_cons]
   rcases List.mem_cons.1 h with rfl | h
   ·omega
   ·have:=c4s r l k h; omega
theorem Gd.add {ns:List Api_TypeNode}{D D':Nat->Prop}(h:Gd ns D){i:Nat}{x:Api_TypeNode}(hx:ns[i]?=some x)(hk:isB x=true->∀ k∈x.Kids,D k.toNat)(hD:∀ j,D' j↔D j\/j=i):Gd ns D':=by
 obtain ⟨r,hr⟩:=h
 by_cases hi:D i
 ·have e:∀ j,D' j↔D j:=fun j=>(hD j).trans ⟨fun h=>h.elim id (fun h=>by rw [h]; exact hi),.inl⟩
  exact ⟨r,fun j y h1 h2 h3 k h4=>by
   obtain ⟨k1,k2⟩:=hr j y ((e j).1 h1) h2 h3 k h4
   exact ⟨(e _).2 k1,k2⟩⟩
 ·refine ⟨fun j=>if j=i then 1+(x.Kids.map fun k=>r k.toNat).sum else r j,fun j y h1 h2 h3 k h4=>?_⟩
  by_cases hj:j=i
  ·subst hj
   rw [hx] at h2
   cases h2
   have hDk:=hk h3 k h4
   have hne:k.toNat≠j:=fun e=>hi (e▸hDk)
   refine ⟨(hD _).2 (.inl hDk),?_⟩
   simp only [if_neg hne,if_true]
   have:=c4s r x.Kids k h4
   omega
  ·obtain ⟨k1,k2⟩:=hr j y (((hD j).1 h1).resolve_right hj) h2 h3 k h4
   have hne:k.toNat≠i:=fun e=>hi (e▸k1)
   refine ⟨(hD _).2 (.inl k1),?_⟩
   simp only [if_neg hne,if_neg hj]
   exact k2
theorem Gd.acy {ns:List Api_TypeNode}{D:Nat->Prop}(h:Gd ns D)(hD:∀ j,j<ns.length->D j):Acy ns:=by
 obtain ⟨r,hr⟩:=h
 exact ⟨r,fun i x hx hb k hk=>(hr i x (hD i (List.getElem?_eq_some_iff.1 hx).1) hx hb k hk).2⟩
theorem Acy.small {ns:List Api_TypeNode}(h:Acy ns)(hT:a3f ns=true):∃ r,Rk ns r/\∀ i,i<ns.length->r i<ns.length:=by
 obtain ⟨r,hr⟩:=h
 have mono:∀ (l:List Nat) (a b:Nat),a<=b->(l.countP fun j=>decide (j<a))<=l.countP fun j=>decide (j<b):=fun l a b hab =>
  List.countP_mono_left fun x _ hx=>by simp at hx ⊢; omega
 have strict:∀ (l:List Nat) (a b:Nat),a<b->a∈l->(l.countP fun j=>decide (j<a))<l.countP fun j=>decide (j<b):=by
  intro l
  induction l with
  | nil=>intro a b _ h; cases h
  | cons y l ih =>
    intro a b hab hm
    rw [List.countP_cons,List.countP_cons]
    rcases List.mem_cons.1 hm with rfl | hm
    ·have:=mono l a b (by omega)
     simp only [Nat.lt_irrefl,decide_false,hab,decide_true,if_true]
     simp
     omega
    ·have h1:=ih a b hab hm
     by_cases h2:y<a
     ·simp only [h2,show y<b by omega,decide_true,if_true]; omega
     ·simp only [h2,decide_false]
      by_cases h3:y<b<;>simp [h3]<;>omega
 have hlt:∀ (l:List Nat) (a:Nat),a∈l->(l.countP fun j=>decide (j<a))<l.length:=fun l a hm=>by
  have h1:=strict l a (a+1) (by omega) hm
  have h2:(l.countP fun j=>decide (j<a+1))<=l.length:=List.countP_le_length
  omega
 refine ⟨fun i=>((List.range ns.length).map r).countP fun j=>decide (j<r i),fun i x hx hb k hk=>?_,fun i hi=>?_⟩
 ·obtain ⟨j,rfl,hj⟩:=a0W (a3K (List.all_eq_true.1 hT x (List.mem_of_getElem? hx)) k hk)
  exact strict _ _ _ (hr i x hx hb _ hk) (List.mem_map.2 ⟨j,by simpa using hj,by simp⟩)
 ·have:=hlt ((List.range ns.length).map r) (r i) (List.mem_map.2 ⟨i,by simpa using hi,rfl⟩)
  simpa using this
def DF (ns:List Api_TypeNode)(st:List Int)(j:Nat):Prop:=st[j]?=some 2\/∃ x,ns[j]?=some x/\isB x=false
theorem c4y:∀ (l:List Int) (i:Nat),l[i]?=some 0->(l.set i 1).count 0+1=l.count 0
 | [],i,h=>by simp at h
 | x::l,0,h=>by
   have:x=0:=by simpa using h
   subst this
   simp
 | x::l,i+1,h=>by
   have:=c4y l i (by simpa using h)
   rw [List.set_cons_succ,List.count_cons,List.count_cons]
   omega
theorem c6z:∀ (l:List Int) (i:Nat),(l.set i 2).count 0<=l.count 0
 | [],i=>by simp
 | x::l,0=>by
   rw [List.set_cons_zero,List.count_cons,List.count_cons]
   simp
 | x::l,i+1=>by
   have:=c6z l i
   rw [List.set_cons_succ,List.count_cons,List.count_cons]
   omega
structure DfsR (ns:List Api_TypeNode)(st st':List Int):Prop where
 len:st'.length=ns.length
 val:∀ (j:Nat) e,st'[j]?=some e->e=0\/e=1\/e=2
 gd:Gd ns (DF ns st')
 opn:∀ j:Nat,st'[j]?=some 1↔st[j]?=some 1
 don:∀ j:Nat,st[j]?=some 2->st'[j]?=some 2
 zer:st'.count 0<=st.count 0
theorem d0y (t:Api_Type)(hT:a3f t.Nodes=true)(hk:∀ x∈t.Nodes,x.Kids.length<=1100000) :
 ∀ (fuel i:Nat) (st:List Int),st.count 0<fuel->i<t.Nodes.length->DfsR t.Nodes st st ->
  ∃ b st',Q3 fuel (i:Int) st t ()=some (b,st')/\(b=true->DfsR t.Nodes st st'/\DF t.Nodes st' i)/\(b=false->∀ r,Rk t.Nodes r->(∀ o:Nat,st[o]?=some 1->r i<r o)->False):=by
 intro fuel
 induction fuel with
 | zero=>intro i st h1; omega
 | succ f ih =>
   intro i st h1 h2 hS
   show ∃ b st',a39 f (Q3 f) (i:Int) st t ()=some (b,st')/\_
   have h3:=hS.len
   have hi:i<st.length:=by omega
   have hst:=List.getElem?_eq_getElem hi
   have hn:=List.getElem?_eq_getElem h2
   generalize st[i]=e at hst
   generalize hx:t.Nodes[i]=x at hn
   have hxm:x∈t.Nodes:=List.mem_of_getElem? hn
   unfold a39
   simp only [j6 hst,j6 hn,Int.toNat_natCast,hst,Option.bind_some,d0q,Z5,Z2]
   by_cases hq:e=0/\isB x=true
   ·obtain ⟨he,hb⟩:=hq
    subst he
    rw [hb]
    simp only [bne_self_eq_false,cond_false,Bool.not_true,Option.bind_some]
    have hke:=hk x hxm
    have hz:=c4y st i hst
    have hset:∀ j:Nat,(st.set i 1)[j]?=some 1↔st[j]?=some 1\/j=i:=fun j=>by
     by_cases e:i=j
     ·subst e; rw [List.getElem?_set_self hi]; simp
     ·rw [List.getElem?_set_ne e]; exact ⟨.inl,fun h=>h.resolve_right (Ne.symm e)⟩
    have hset2:∀ j:Nat,(st.set i 1)[j]?=some 2↔st[j]?=some 2:=fun j=>by
     by_cases e:i=j
     ·subst e; rw [List.getElem?_set_self hi,hst]; simp
     ·rw [List.getElem?_set_ne e]
    have hS1:DfsR t.Nodes (st.set i 1) (st.set i 1):=by
     refine ⟨by simpa using h3,fun j e hj=>?_,?_,fun _=>Iff.rfl,fun _ h=>h,Nat.le_refl _⟩
     ·by_cases e1:i=j
      ·subst e1; rw [List.getElem?_set_self hi] at hj; simp at hj; omega
      ·rw [List.getElem?_set_ne e1] at hj; exact hS.val j e hj
     ·have e:∀ j,DF t.Nodes (st.set i 1) j↔DF t.Nodes st j:=fun j=>or_congr (hset2 j) Iff.rfl
      obtain ⟨r,hr⟩:=hS.gd
      exact ⟨r,fun j y a1 a2 a3 k a4=>by
       obtain ⟨k1,k2⟩:=hr j y ((e j).1 a1) a2 a3 k a4
       exact ⟨(e _).2 k1,k2⟩⟩
    have key:∀ (m a k:Nat) (s:List Int),a+m=x.Kids.length->m+1<=k->DfsR t.Nodes (st.set i 1) s->(∀ (q:Nat) (y:Int),q<a->x.Kids[q]?=some y->DF t.Nodes s y.toNat) ->
     (∃ s',y4 (Y6 t x (Q3 f)) k ((a:Int),s)=some (.inl s')/\DfsR t.Nodes (st.set i 1) s'/\∀ y∈x.Kids,DF t.Nodes s' y.toNat) \/
     ∃ s',y4 (Y6 t x (Q3 f)) k ((a:Int),s)=some (.inr (false,s'))/\∀ r,Rk t.Nodes r->(∀ o:Nat,st[o]?=some 1->r i<r o)->False:=by
     intro m
     induction m with
     | zero =>
       intro a k s b1 b2 b3 b4
       obtain ⟨k,rfl⟩:∃ m,k=m+1:=⟨k-1,by omega⟩
       have e:a=x.Kids.length:=by omega
       subst e
       have:Y6 t x (Q3 f) ((x.Kids.length:Int),s)=some (.done (.inl s)):=by
        unfold Y6
        simp
       exact .inl ⟨s,by simp only [y4,this,Option.bind_some],b3,fun y hy=>by
        obtain ⟨q,hq,e⟩:=List.getElem_of_mem hy
        exact b4 q y hq (by rw [List.getElem?_eq_getElem hq,e])⟩
     | succ m ihm =>
       intro a k s b1 b2 b3 b4
       obtain ⟨k,rfl⟩:∃ m,k=m+1:=⟨k-1,by omega⟩
       have ha:a<x.Kids.length:=by omega
       have hka:=List.getElem?_eq_getElem ha
       have hkm:=List.getElem_mem ha
       obtain ⟨j,hj1,hj3⟩:=a0W (a3K (List.all_eq_true.1 hT x hxm) _ hkm)
       obtain ⟨b,s',c1,c2,c3⟩:=ih j s (by have:=b3.zer; omega) hj3 ⟨b3.len,b3.val,b3.gd,fun _=>Iff.rfl,fun _ h=>h,Nat.le_refl _⟩
       cases b with
       | true =>
         obtain ⟨c4,c5⟩:=c2 rfl
         have:Y6 t x (Q3 f) ((a:Int),s)=some (.next (((a+1:Nat):Int),s')):=by
          unfold Y6
          rw [Z0 ha,j6 hka,hj1]
          simp only [cond_true,Option.bind_some,Z2]
          rw [c1,j9 a (by omega)]
          rfl
         simp only [y4,this,Option.bind_some]
         refine ihm (a+1) k s' (by omega) (by omega) ⟨c4.len,c4.val,c4.gd,fun q=>(c4.opn q).trans (b3.opn q),fun q hq=>c4.don q (b3.don q hq),Nat.le_trans c4.zer b3.zer⟩ (fun q y hq hy=>?_)
         by_cases hqa:q=a
         ·subst hqa
          rw [hka] at hy
          cases hy
          rw [hj1,Int.toNat_natCast]
          exact c5
         ·exact (b4 q y (by omega) hy).imp (fun h=>c4.don _ h) id
       | false =>
         have:Y6 t x (Q3 f) ((a:Int),s)=some (.done (.inr (false,s'))):=by
          unfold Y6
          rw [Z0 ha,j6 hka,hj1]
          simp only [cond_true,Option.bind_some,Z2]
          rw [c1]
          rfl
         refine .inr ⟨s',by simp only [y4,this,Option.bind_some],fun r hr ho=>c3 rfl r hr fun o hopn=>?_⟩
         have hrk:r j<r i:=by
          have:=hr i x hn hb _ hkm
          rwa [hj1,Int.toNat_natCast] at this
         rcases (hset o).1 ((b3.opn o).1 hopn) with h | rfl
         ·exact Nat.lt_trans hrk (ho o h)
         ·exact hrk
    have e0:y4 (Y6 t x (Q3 f)) (x.Kids.length+1) (0,st.set i 1)=y4 (Y6 t x (Q3 f)) (x.Kids.length+1) (((0:Nat):Int),st.set i 1):=rfl
    rw [e0]
    rcases key x.Kids.length 0 (x.Kids.length+1) (st.set i 1) (by omega) (Nat.le_refl _) hS1 (fun q y hq=>by omega) with ⟨s',c1,c2,c3⟩ | ⟨s',c1,c2⟩
    ·rw [c1]
     have hi':i<s'.length:=by rw [c2.len]; exact h2
     have hs':=List.getElem?_eq_getElem hi'
     have hs1:s'[i]?=some 1:=(c2.opn i).2 ((hset i).2 (.inr rfl))
     simp only [Option.bind_some,k7,j6 hs',hs']
     refine ⟨true,s'.set i 2,rfl,fun _=>⟨⟨by simpa using c2.len,fun j e hj=>?_,?_,fun j=>?_,fun j hj=>?_,?_⟩,.inl (List.getElem?_set_self hi')⟩,fun h=>by cases h⟩
     ·by_cases e1:i=j
      ·subst e1; rw [List.getElem?_set_self hi'] at hj; simp at hj; omega
      ·rw [List.getElem?_set_ne e1] at hj; exact c2.val j e hj
     ·refine Gd.add c2.gd hn (fun _=>c3) fun j=>?_
      unfold DF
      by_cases e1:i=j
      ·subst e1; rw [List.getElem?_set_self hi']; simp
      ·rw [List.getElem?_set_ne e1]; exact ⟨.inl,fun h=>h.resolve_right (Ne.symm e1)⟩
     ·by_cases e1:i=j
      ·subst e1; rw [List.getElem?_set_self hi',hst]; simp
      ·rw [List.getElem?_set_ne e1]
       exact (c2.opn j).trans ((hset j).trans ⟨fun h=>h.resolve_right (Ne.symm e1),.inl⟩)
     ·have h2':=c2.don j ((hset2 j).2 hj)
      by_cases e1:i=j
      ·subst e1; rw [List.getElem?_set_self hi']
      ·rw [List.getElem?_set_ne e1]; exact h2'
     ·have a1:=c6z s' i
      have a2:=c2.zer
      omega
    ·rw [c1]
     exact ⟨false,s',rfl,(fun h=>by cases h),fun _=>c2⟩
   ·by_cases he1:e=1
    ·subst he1
     exact ⟨false,st,by cases isB x<;>rfl,(fun h=>by cases h),fun _ r _ ho=>Nat.lt_irrefl _ (ho i hst)⟩
    ·refine ⟨true,st,?_,fun _=>⟨hS,?_⟩,fun h=>by cases h⟩
     ·by_cases he:e=0
      ·subst he
       have hb:isB x=false:=by
        cases hb:isB x with
        | true=>exact absurd ⟨rfl,hb⟩ hq
        | false=>rfl
       rw [hb]
       rfl
      ·have e2:(e != 0)=true:=by simpa using he
       have e3:(e != 1)=true:=by simpa using he1
       rw [e2,e3]
       rfl
     ·rcases hS.val i e hst with rfl | rfl | rfl
      ·right
       refine ⟨x,hn,?_⟩
       cases hb:isB x with
       | true=>exact absurd ⟨rfl,hb⟩ hq
       | false=>rfl
      ·exact absurd rfl he1
      ·exact .inl hst
theorem c8e (t:Api_Type)(hT:a3f t.Nodes=true)(hk:∀ x∈t.Nodes,x.Kids.length<=1100000)(hN:t.Nodes.length<=1100000)(fuel:Nat)(hf:t.Nodes.length+1<=fuel):a3T fuel t=some (a5b t.Nodes):=by
 unfold a3T a6t
 have e0:(decide (0<=(t.Nodes.length:Int))&&decide ((t.Nodes.length:Int)<=(t.Nodes.length:Int))&&decide ((t.Nodes.length:Int)*((8:Nat):Int)<=140737488355328))=true:=by
  simp; omega
 rw [e0]
 simp only [cond_true,Option.bind_some,Z5]
 have key:∀ (m a k:Nat) (s:List Int),a+m=t.Nodes.length->m+1<=k->DfsR t.Nodes s s->(∀ j:Nat,s[j]?≠some 1)->(∀ j,j<a->DF t.Nodes s j) ->
  (∃ s',y4 (Q7 t fuel) k ((a:Int),s)=some (.inl s')/\a5b t.Nodes=true)\/∃ s',y4 (Q7 t fuel) k ((a:Int),s)=some (.inr (false,s'))/\a5b t.Nodes=false:=by
  intro m
  induction m with
  | zero =>
    intro a k s b1 b2 b3 b4 b5
    obtain ⟨k,rfl⟩:∃ m,k=m+1:=⟨k-1,by omega⟩
    have e:a=t.Nodes.length:=by omega
    subst e
    have:Q7 t fuel ((t.Nodes.length:Int),s)=some (.done (.inl s)):=by
     unfold Q7
     simp
    exact .inl ⟨s,by simp only [y4,this,Option.bind_some],b1P.2 (b3.gd.acy b5)⟩
  | succ m ih =>
    intro a k s b1 b2 b3 b4 b5
    obtain ⟨k,rfl⟩:∃ m,k=m+1:=⟨k-1,by omega⟩
    have hz:s.count 0<=t.Nodes.length:=by rw [<- b3.len]; exact List.count_le_length
    obtain ⟨b,s',c1,c2,c3⟩:=d0y t hT hk fuel a s (by omega) (by omega) b3
    cases b with
    | true =>
      obtain ⟨c4,c5⟩:=c2 rfl
      have:Q7 t fuel ((a:Int),s)=some (.next (((a+1:Nat):Int),s')):=by
       unfold Q7
       rw [Z0 (show a<t.Nodes.length by omega)]
       simp only [cond_true,Option.bind_some,Z2]
       rw [c1,j9 a (by omega)]
       rfl
      simp only [y4,this,Option.bind_some]
      refine ih (a+1) k s' (by omega) (by omega) ⟨c4.len,c4.val,c4.gd,fun _=>Iff.rfl,fun _ h=>h,Nat.le_refl _⟩ (fun j h=>b4 j ((c4.opn j).1 h)) (fun j hj=>?_)
      by_cases h:j=a
      ·rw [h]; exact c5
      ·exact (b5 j (by omega)).imp (fun h=>c4.don _ h) id
    | false =>
      have:Q7 t fuel ((a:Int),s)=some (.done (.inr (false,s'))):=by
       unfold Q7
       rw [Z0 (show a<t.Nodes.length by omega)]
       simp only [cond_true,Option.bind_some,Z2]
       rw [c1]
       rfl
      refine .inr ⟨s',by simp only [y4,this,Option.bind_some],?_⟩
      cases hA:a5b t.Nodes with
      | false=>rfl
      | true =>
        obtain ⟨r,hr⟩:=b1P.1 hA
        exact (c3 rfl r hr fun o ho=>absurd ho (b4 o)).elim
 have hrep:∀ (j:Nat) (e:Int),(List.replicate t.Nodes.length (0:Int))[j]?=some e->e=0:=fun j e h=>by
  rw [List.getElem?_replicate] at h
  split at h
  ·simpa using h.symm
  ·cases h
 have hS:DfsR t.Nodes (List.replicate t.Nodes.length (0:Int)) (List.replicate t.Nodes.length (0:Int)) :=
  ⟨by simp,fun j e h=>.inl (hrep j e h),⟨fun _=>0,fun i x hi hx hb=>by
   rcases hi with hi | ⟨y,hy,hyb⟩
   ·have:=hrep i 2 hi; omega
   ·rw [hx] at hy; cases hy; rw [hb] at hyb; cases hyb⟩,fun _=>Iff.rfl,fun _ h=>h,Nat.le_refl _⟩
 have e':∀ s,y4 (Q7 t fuel) (t.Nodes.length+1) (0,s)=y4 (Q7 t fuel) (t.Nodes.length+1) (((0:Nat):Int),s):=fun _=>rfl
 rw [e']
 rcases key t.Nodes.length 0 (t.Nodes.length+1) (List.replicate t.Nodes.length (0:Int)) (by omega) (Nat.le_refl _) hS (fun j h=>by have:=hrep j 1 h; omega) (fun j hj=>by omega) with ⟨s',e,hA⟩ | ⟨s',e,hA⟩
 ·rw [e,hA]; rfl
 ·rw [e,hA]; rfl
theorem c2I (t:Api_Type)(hk:∀ x∈t.Nodes,x.Kids.length<=1100000/\x.Fields.length<=1100000)(hN:t.Nodes.length<=1100000)(fuel:Nat)(hf:t.Nodes.length+1<=fuel):X7 fuel t=some (if inR t.Nodes.length t.Root&&a3f t.Nodes then (if a5b t.Nodes then 0 else 3) else 1):=by
 have l2:y4 (a26 t) (t.Nodes.length+1) 0=some (if t.Nodes.all (V9 t.Nodes.length)=true then .inl () else .inr 1):=by
  refine W8 t.Nodes (V9 t.Nodes.length) (fun i=>(i:Int)) () 1 ?_ ?_
  ·intro i x hx
   have hi:i<t.Nodes.length:=(List.getElem?_eq_some_iff.1 hx).1
   obtain ⟨hk1,hk2⟩:=hk x (List.mem_of_getElem? hx)
   unfold a26
   rw [Z0 hi,j6 hx]
   simp only [cond_true,Option.bind_some,c7O,c8a x (by omega),Z2,Z5]
   rw [<- c7k,j9 i (by omega)]
   cases b6W x
   ·rfl
   cases b6C x
   ·rfl
   simp only [Bool.not_true,cond_false,Option.bind_some,Bool.true_and]
   rw [c8A x hk1 hk2]
   simp only [Option.bind_some]
   have he:(a5W x).length<=4194304:=by
    unfold a5W
    simp only [List.length_append,List.length_map]
    split<;>simp<;>omega
   have l1:y4 (a23 t (a5W x)) ((a5W x).length+1) 0=some (if (a5W x).all (inR t.Nodes.length)=true then .inl () else .inr 1):=by
    refine W8 (a5W x) (inR t.Nodes.length) (fun i=>(i:Int)) () 1 ?_ ?_
    ·intro j y hy
     have hj:j<(a5W x).length:=(List.getElem?_eq_some_iff.1 hy).1
     unfold a23
     rw [Z0 hj,j6 hy]
     simp only [cond_true,Option.bind_some,Z2]
     rw [j9 j (by omega)]
     unfold inR
     by_cases h1:y<0
     ·have a1:decide (y<0)=true:=by simpa using h1
      have a2:decide (0<=y)=false:=by simp; omega
      rw [a1,a2]; rfl
     ·have a1:decide (y<0)=false:=by simpa using h1
      have a2:decide (0<=y)=true:=by simp; omega
      rw [a1,a2]
      by_cases h2:y<(t.Nodes.length:Int)
      ·have a3:decide ((t.Nodes.length:Int)<=y)=false:=by simp; omega
       have a4:decide (y<(t.Nodes.length:Int))=true:=by simpa using h2
       rw [a3,a4]; rfl
      ·have a3:decide ((t.Nodes.length:Int)<=y)=true:=by simp; omega
       have a4:decide (y<(t.Nodes.length:Int))=false:=by simpa using h2
       rw [a3,a4]; rfl
    ·unfold a23
     simp
   rw [l1]
   cases (a5W x).all (inR t.Nodes.length)<;>rfl
  ·unfold a26
   simp
 unfold X7
 rw [Z5,l2]
 have hq:(Option.bind (bif decide (t.Root<0) then some true else some (decide ((t.Nodes.length:Int)<=t.Root))) fun q=>some q)=some (!inR t.Nodes.length t.Root):=by
  unfold inR
  by_cases h1:t.Root<0
  ·have a1:decide (t.Root<0)=true:=by simpa using h1
   have a2:decide (0<=t.Root)=false:=by simp; omega
   rw [a1,a2]; rfl
  ·have a1:decide (t.Root<0)=false:=by simpa using h1
   have a2:decide (0<=t.Root)=true:=by simp; omega
   rw [a1,a2]
   by_cases h2:t.Root<(t.Nodes.length:Int)
   ·have a3:decide ((t.Nodes.length:Int)<=t.Root)=false:=by simp; omega
    have a4:decide (t.Root<(t.Nodes.length:Int))=true:=by simpa using h2
    rw [a3,a4]; rfl
   ·have a3:decide ((t.Nodes.length:Int)<=t.Root)=true:=by simp; omega
    have a4:decide (t.Root<(t.Nodes.length:Int))=false:=by simpa using h2
    rw [a3,a4]; rfl
 rw [W7] at hq
 rw [hq]
 simp only [Option.bind_some]
 cases inR t.Nodes.length t.Root
 ·rfl
 show _=some (if a3f t.Nodes=true then (if a5b t.Nodes then (0:Int) else 3) else 1)
 cases hA:a3f t.Nodes with
 | true =>
   have hA':t.Nodes.all (V9 t.Nodes.length)=true:=hA
   rw [hA']
   simp only [Bool.not_true,cond_false,if_true,Option.bind_some,k7]
   rw [c8e t hA (fun x hx=>(hk x hx).1) hN fuel hf]
   cases a5b t.Nodes<;>rfl
 | false =>
   have hA':t.Nodes.all (V9 t.Nodes.length)=false:=hA
   rw [hA']
   rfl
theorem d1T (t:Api_Type)(hO:c11 t.Nodes)(hk:∀ x∈t.Nodes,x.Kids.length<=1100000/\x.Fields.length<=1100000)(hN:t.Nodes.length<=1100000)(fuel:Nat)(hf:t.Nodes.length+1<=fuel):X7 fuel t=some (if inR t.Nodes.length t.Root&&a3f t.Nodes then 0 else 1):=by
 rw [c2I t hk hN fuel hf]
 cases hA:a3f t.Nodes with
 | false=>rw [Bool.and_false]; rfl
 | true=>rw [hO.acy hA]; rfl
end Go.Pl
namespace Go.Pl
open Go Go.RowKit Go.Sx Go.Qx
theorem c9G (t:Api_Type)(D:List Bool)(i fuel:Nat)(x:Api_TypeNode)(hx:t.Nodes[i]?=some x)(hD:D.length=t.Nodes.length)(hT:a3f t.Nodes=true)(hk:x.Kids.length<=1100000)(hf:x.Kids.length+1<=fuel) :
 ∃ A,y4 (J2 t (D,(i:Int))) fuel (D,true,0)=some (D,A)/\((isB x=true->∀ k∈x.Kids,D[k.toNat]?=some true)↔A=true):=by
 have hxm:x∈t.Nodes:=List.mem_of_getElem? hx
 have hkr:=a3K (List.all_eq_true.1 hT x hxm)
 have hix:=j6 hx
 cases hb:isB x with
 | false =>
   obtain ⟨k,rfl⟩:∃ m,fuel=m+1:=⟨fuel-1,by omega⟩
   have:J2 t (D,(i:Int)) (D,true,0)=some (.done (D,true)):=by
    unfold J2
    simp only [hix,Option.bind_some,c0p,hb]
    rfl
   exact ⟨true,by simp only [y4,this,Option.bind_some],fun _=>rfl,fun _ h=>by cases h⟩
 | true =>
   have key:∀ (m a k:Nat) (A:Bool),a+m=x.Kids.length->m+1<=k ->
    ∃ A',y4 (J2 t (D,(i:Int))) k (D,A,(a:Int))=some (D,A')/\((A=true/\∀ (q:Nat) (y:Int),a<=q->x.Kids[q]?=some y->D[y.toNat]?=some true)↔A'=true):=by
    intro m
    induction m with
    | zero =>
      intro a k A b1 b2
      obtain ⟨k,rfl⟩:∃ m,k=m+1:=⟨k-1,by omega⟩
      have e:a=x.Kids.length:=by omega
      subst e
      have:J2 t (D,(i:Int)) (D,A,(x.Kids.length:Int))=some (.done (D,A)):=by
       unfold J2
       simp only [hix,Option.bind_some,c0p,hb,cond_true]
       simp
      exact ⟨A,by simp only [y4,this,Option.bind_some],fun h=>h.1,fun h=>⟨h,fun q y h1 h2=>by have:=(List.getElem?_eq_some_iff.1 h2).1; omega⟩⟩
    | succ m ih =>
      intro a k A b1 b2
      obtain ⟨k,rfl⟩:∃ m,k=m+1:=⟨k-1,by omega⟩
      have ha:a<x.Kids.length:=by omega
      have hka:=List.getElem?_eq_getElem ha
      have hkm:=List.getElem_mem ha
      obtain ⟨j,hj,hj2⟩:=a0W (hkr _ hkm)
      have hDj:=List.getElem?_eq_getElem (show j<D.length by omega)
      obtain ⟨A',c1,c2⟩:=ih (a+1) k (bif A then D[j] else false) (by omega) (by omega)
      have:J2 t (D,(i:Int)) (D,A,(a:Int))=some (.next (D,(bif A then D[j] else false),((a+1:Nat):Int))):=by
       unfold J2
       simp only [hix,Option.bind_some,c0p,hb,cond_true,Z0 ha,j6 hka,hj,j6 hDj,Int.toNat_natCast,hDj,Z2]
       rw [j9 a (by omega)]
       cases A<;>rfl
      simp only [y4,this,Option.bind_some]
      refine ⟨A',c1,Iff.trans ⟨fun ⟨hA,hall⟩=>⟨?_,fun q y hq hy=>hall q y (by omega) hy⟩,fun ⟨hA,hall⟩=>?_⟩ c2⟩
      ·have hq:=hall a _ (Nat.le_refl _) hka
       rw [hj,Int.toNat_natCast,hDj] at hq
       subst hA
       simpa using hq
      ·cases A with
       | false=>cases hA
       | true =>
         refine ⟨rfl,fun q y hq hy=>?_⟩
         by_cases e:q=a
         ·subst e
          rw [hka] at hy
          cases hy
          rw [hj,Int.toNat_natCast,hDj]
          simpa using hA
         ·exact hall q y (by omega) hy
   obtain ⟨A,c1,c2⟩:=key x.Kids.length 0 fuel true (by omega) hf
   refine ⟨A,c1,Iff.trans ⟨fun h=>⟨rfl,fun q y _ hy=>h rfl y (List.mem_of_getElem? hy)⟩,fun h _ y hy=>?_⟩ c2⟩
   obtain ⟨q,hq,e⟩:=List.getElem_of_mem hy
   exact h.2 q y (Nat.zero_le _) (by rw [List.getElem?_eq_getElem hq,e])
def trD (D:List Bool)(j:Nat):Prop:=D[j]?=some true
theorem c8K (t:Api_Type)(hT:a3f t.Nodes=true)(hk:∀ x∈t.Nodes,x.Kids.length<=1100000)(hN:t.Nodes.length<=1100000)(fuel:Nat)(hf:1100001<=fuel)(r:Nat->Nat)(q:Nat) :
 ∀ (m a k:Nat) (D:List Bool),a+m=t.Nodes.length->m+1<=k->D.length=t.Nodes.length->Gd t.Nodes (trD D)->(Rk t.Nodes r->(∀ j,j<t.Nodes.length->r j<q->D[j]?=some true)/\∀ j,j<a->r j<q+1->D[j]?=some true) ->
  ∃ D',y4 (W4 t fuel) k (D,(a:Int))=some D'/\D'.length=t.Nodes.length/\Gd t.Nodes (trD D')/\(Rk t.Nodes r->∀ j,j<t.Nodes.length->r j<q+1->D'[j]?=some true):=by
 intro m
 induction m with
 | zero =>
   intro a k D b1 b2 b3 b4 b5
   obtain ⟨k,rfl⟩:∃ m,k=m+1:=⟨k-1,by omega⟩
   have e:a=t.Nodes.length:=by omega
   subst e
   have:W4 t fuel (D,(t.Nodes.length:Int))=some (.done D):=by
    unfold W4
    simp
   exact ⟨D,by simp only [y4,this,Option.bind_some],b3,b4,fun hr=>(b5 hr).2⟩
 | succ m ih =>
   intro a k D b1 b2 b3 b4 b5
   obtain ⟨k,rfl⟩:∃ m,k=m+1:=⟨k-1,by omega⟩
   have ha:a<t.Nodes.length:=by omega
   have hn:=List.getElem?_eq_getElem ha
   generalize hx:t.Nodes[a]=x at hn
   have hxm:x∈t.Nodes:=List.mem_of_getElem? hn
   have hkx:=hk x hxm
   obtain ⟨A,c1,c2⟩:=c9G t D a fuel x hn b3 hT hkx (by omega)
   have haD:a<D.length:=by omega
   have hDa:=List.getElem?_eq_getElem haD
   generalize D[a]=e at hDa
   have step:W4 t fuel (D,(a:Int))=some (.next (D.set a (e||A),((a+1:Nat):Int))):=by
    unfold W4
    simp only
    rw [Z0 ha,c1]
    simp only [cond_true,Option.bind_some,j6 hDa,Int.toNat_natCast,hDa,Z2]
    rw [j9 a (by omega)]
    cases e<;>rfl
   simp only [y4,step,Option.bind_some]
   have hset:∀ j,D[j]?=some true->(D.set a (e||A))[j]?=some true:=fun j hj=>by
    by_cases h:a=j
    ·subst h
     rw [List.getElem?_set_self haD]
     rw [hDa] at hj
     cases hj
     rfl
    ·rw [List.getElem?_set_ne h]; exact hj
   refine ih (a+1) k (D.set a (e||A)) (by omega) (by omega) (by simpa using b3) ?_ (fun hr=>⟨fun j hj h=>hset j ((b5 hr).1 j hj h),fun j hj h=>?_⟩)
   ·cases hA:A with
    | false =>
      have:D.set a (e||false)=D:=by
       apply List.ext_getElem?
       intro j
       by_cases h:a=j
       ·subst h; rw [List.getElem?_set_self haD,hDa,Bool.or_false]
       ·rw [List.getElem?_set_ne h]
      rw [this]; exact b4
    | true =>
      refine Gd.add b4 hn (fun hb k hk=>c2.2 hA hb k hk) fun j=>?_
      unfold trD
      by_cases h:a=j
      ·subst h; rw [List.getElem?_set_self haD]; simp
      ·rw [List.getElem?_set_ne h]; exact ⟨.inl,fun h1=>h1.resolve_right (Ne.symm h)⟩
   ·by_cases e1:j=a
    ·subst e1
     rw [List.getElem?_set_self haD]
     have hA:A=true:=c2.1 fun hb kk hkk=>by
      obtain ⟨i,rfl,hi⟩:=a0W (a3K (List.all_eq_true.1 hT x hxm) kk hkk)
      have:=hr j x hn hb _ hkk
      rw [Int.toNat_natCast] at this ⊢
      exact (b5 hr).1 i hi (by omega)
     rw [hA]
     simp
    ·exact hset j ((b5 hr).2 j (by omega) h)
theorem c9i (t:Api_Type)(hk:∀ x∈t.Nodes,x.Kids.length<=1100000/\x.Fields.length<=1100000)(hN:t.Nodes.length<=1100000)(fuel:Nat)(hf:1100001<=fuel):a0X fuel t=some (if inR t.Nodes.length t.Root&&a3f t.Nodes then (if a5b t.Nodes then 0 else 3) else 1):=by
 have l1:y4 (a2h t) (t.Nodes.length+1) 0=some (if t.Nodes.all (V9 t.Nodes.length)=true then .inl () else .inr 1):=by
  refine W8 t.Nodes (V9 t.Nodes.length) (fun i=>(i:Int)) () 1 ?_ ?_
  ·intro i x hx
   have hi:i<t.Nodes.length:=(List.getElem?_eq_some_iff.1 hx).1
   obtain ⟨hk1,hk2⟩:=hk x (List.mem_of_getElem? hx)
   unfold a2h
   rw [Z0 hi,j6 hx]
   simp only [cond_true,Option.bind_some,Z2]
   rw [c2T t x (by omega) (by omega),j9 i (by omega)]
   cases V9 t.Nodes.length x<;>rfl
  ·unfold a2h
   simp
 unfold a0X
 rw [b1m,Z5,l1]
 simp only [Option.bind_some]
 cases inR t.Nodes.length t.Root
 ·rfl
 show _=some (if a3f t.Nodes=true then (if a5b t.Nodes then (0:Int) else 3) else 1)
 cases hA:a3f t.Nodes with
 | false =>
   have hA':t.Nodes.all (V9 t.Nodes.length)=false:=hA
   rw [hA']
   rfl
 | true =>
   have hA':t.Nodes.all (V9 t.Nodes.length)=true:=hA
   rw [hA']
   simp only [Bool.not_true,cond_false,if_true,Option.bind_some,k7]
   have e0:a6t (t.Nodes.length:Int) (t.Nodes.length:Int) 1=some t.Nodes.length:=by
    unfold a6t
    have:(decide (0<=(t.Nodes.length:Int))&&decide ((t.Nodes.length:Int)<=(t.Nodes.length:Int))&&decide ((t.Nodes.length:Int)*((1:Nat):Int)<=140737488355328))=true:=by
     simp; omega
    rw [this]
    simp
   rw [e0]
   simp only [Option.bind_some]
   obtain ⟨r,hrr⟩:∃ r,a5b t.Nodes=true->Rk t.Nodes r/\∀ i,i<t.Nodes.length->r i<t.Nodes.length:=by
    cases hA2:a5b t.Nodes with
    | false=>exact ⟨fun _=>0,fun h=>by cases h⟩
    | true =>
      obtain ⟨r,h⟩:=(b1P.1 hA2).small hA
      exact ⟨r,fun _=>h⟩
   have key:∀ (m q k:Nat) (D:List Bool),q+m=t.Nodes.length->m+1<=k->D.length=t.Nodes.length->Gd t.Nodes (trD D)->(Rk t.Nodes r->∀ j,j<t.Nodes.length->r j<q->D[j]?=some true) ->
    ∃ D',y4 (W6 t fuel) k (D,(q:Int))=some D'/\D'.length=t.Nodes.length/\Gd t.Nodes (trD D')/\(Rk t.Nodes r->∀ j,j<t.Nodes.length->r j<t.Nodes.length->D'[j]?=some true):=by
    intro m
    induction m with
    | zero =>
      intro q k D b1 b2 b3 b4 b5
      obtain ⟨k,rfl⟩:∃ m,k=m+1:=⟨k-1,by omega⟩
      have e:q=t.Nodes.length:=by omega
      subst e
      have:W6 t fuel (D,(t.Nodes.length:Int))=some (.done D):=by
       unfold W6
       simp
      exact ⟨D,by simp only [y4,this,Option.bind_some],b3,b4,b5⟩
    | succ m ih =>
      intro q k D b1 b2 b3 b4 b5
      obtain ⟨k,rfl⟩:∃ m,k=m+1:=⟨k-1,by omega⟩
      obtain ⟨D',c1,c2,c3,c4⟩:=c8K t hA (fun x hx=>(hk x hx).1) hN fuel hf r q t.Nodes.length 0 (t.Nodes.length+1) D (by omega) (Nat.le_refl _) b3 b4 (fun hr=>⟨b5 hr,fun j hj=>by omega⟩)
      have c1':y4 (W4 t fuel) (t.Nodes.length+1) (D,0)=some D':=c1
      have step:W6 t fuel (D,(q:Int))=some (.next (D',((q+1:Nat):Int))):=by
       unfold W6
       simp only
       rw [Z0 (show q<t.Nodes.length by omega),Z5,c1']
       simp only [cond_true,Option.bind_some,Z2]
       rw [j9 q (by omega)]
      simp only [y4,step,Option.bind_some]
      exact ih (q+1) k D' (by omega) (by omega) c2 c3 c4
   have hrep:∀ (j:Nat),(List.replicate t.Nodes.length false)[j]?≠some true:=fun j h=>by
    rw [List.getElem?_replicate] at h
    split at h<;>cases h
   obtain ⟨D,c1,c2,c3,c4⟩:=key t.Nodes.length 0 (t.Nodes.length+1) (List.replicate t.Nodes.length false) (by omega) (Nat.le_refl _) (by simp) ⟨fun _=>0,fun i x hi=>absurd hi (hrep i)⟩ (fun _ j hj h=>by omega)
   have c1':y4 (W6 t fuel) (t.Nodes.length+1) (List.replicate t.Nodes.length false,0)=some D:=c1
   rw [c1']
   simp only [Option.bind_some]
   have hall:D.all (fun b=>b)=a5b t.Nodes:=by
    rw [Bool.eq_iff_iff,List.all_eq_true]
    constructor
    ·intro h
     refine b1P.2 (c3.acy fun j hj=>?_)
     have hj':j<D.length:=by omega
     unfold trD
     rw [List.getElem?_eq_getElem hj',h _ (List.getElem_mem hj')]
    ·intro h b hb
     obtain ⟨j,hj,rfl⟩:=List.getElem_of_mem hb
     have:=c4 (hrr h).1 j (by omega) ((hrr h).2 j (by omega))
     rw [List.getElem?_eq_getElem hj] at this
     simpa using this
   have l5:=W8 (step:=a05) D (fun b=>b) (fun i=>(D,(i:Int))) D ((3:Int),D) (fun i x hx=>by
    have hi:i<D.length:=(List.getElem?_eq_some_iff.1 hx).1
    unfold a05
    simp only
    rw [Z0 hi,j6 hx]
    simp only [cond_true,Option.bind_some,Int.toNat_natCast,hx,Z2]
    rw [j9 i (by omega)]
    cases x<;>rfl) (by
    unfold a05
    simp)
   rw [hall] at l5
   have l5':y4 a05 (D.length+1) (D,0)=some (if a5b t.Nodes=true then .inl D else .inr ((3:Int),D)):=l5
   rw [Z5,l5']
   cases a5b t.Nodes<;>rfl
theorem d0P (t:Api_Type)(hO:c11 t.Nodes)(hk:∀ x∈t.Nodes,x.Kids.length<=1100000/\x.Fields.length<=1100000)(hN:t.Nodes.length<=1100000)(fuel:Nat)(hf:1100001<=fuel):a0X fuel t=some (if inR t.Nodes.length t.Root&&a3f t.Nodes then 0 else 1):=by
 rw [c9i t hk hN fuel hf]
 cases hA:a3f t.Nodes with
 | false=>rw [Bool.and_false]; rfl
 | true=>rw [hO.acy hA]; rfl
end Go.Pl
end
section
namespace Go.Pl
open Go Go.RowKit Go.Sx Go.Qx
structure GN (N i:Nat)(x:Api_TypeNode):Prop where
 ok:V9 N x=true
 ord:isB x=true->∀ k∈x.Kids,(i:Int)<k
 kids:x.Kids.length<=4
 text:x.Text.size<=5
 flds:x.Fields.length<=3
 keys:∀ f∈x.Fields,a56 f.Key_<=8
 rng : -9223372036854775808<=x.Lo/\x.Lo<=9223372036854775807 /\ -9223372036854775808<=x.Hi/\x.Hi<=9223372036854775807
theorem b5E {N M:Nat}(h:N<=M){k:Int}(hk:inR N k=true):inR M k=true:=by
 unfold inR at *
 simp only [Bool.and_eq_true,decide_eq_true_eq] at *
 omega
theorem c3k {α:Type}{p q:α->Bool}{l:List α}(h:∀ x,p x=true->q x=true)(k:l.all p=true):l.all q=true:=List.all_eq_true.2 fun x hx=>h x (List.all_eq_true.1 k x hx)
theorem c4Q {N M:Nat}(h:N<=M){x:Api_TypeNode}(hx:V9 N x=true):V9 M x=true:=by
 unfold V9 at *
 simp only [Bool.and_eq_true] at *
 refine ⟨c3k (fun k=>b5E h) hx.1,hx.2.1,hx.2.2.1,hx.2.2.2.1,?_⟩
 have hk:=hx.2.2.2.2
 unfold a3q at *
 split<;>rename_i h3
 ·rwa [if_pos h3] at hk
 rw [if_neg h3] at hk
 split<;>rename_i h4
 ·rwa [if_pos h4] at hk
 rw [if_neg h4] at hk
 split<;>rename_i h6
 ·rwa [if_pos h6] at hk
 rw [if_neg h6] at hk
 split<;>rename_i h19
 ·rwa [if_pos h19] at hk
 rw [if_neg h19] at hk
 split<;>rename_i hs
 ·rwa [if_pos hs] at hk
 rw [if_neg hs] at hk
 split<;>rename_i h10
 ·rwa [if_pos h10] at hk
 rw [if_neg h10] at hk
 split<;>rename_i h12
 ·rwa [if_pos h12] at hk
 rw [if_neg h12] at hk
 split<;>rename_i h14
 ·rwa [if_pos h14] at hk
 rw [if_neg h14] at hk
 split<;>rename_i h16
 ·rwa [if_pos h16] at hk
 rw [if_neg h16] at hk
 split<;>rename_i h18
 ·rwa [if_pos h18] at hk
 rw [if_neg h18] at hk
 split<;>rename_i h13
 ·rw [if_pos h13] at hk
  unfold a55 at *
  simp only [Bool.and_eq_true] at *
  exact ⟨⟨hk.1.1,hk.1.2.1,c3k (fun f=>b5E h) hk.1.2.2⟩,hk.2.1,b5E h hk.2.2.1,b5E h hk.2.2.2⟩
 ·rwa [if_neg h13] at hk
theorem GN.mono {N M i:Nat}{x:Api_TypeNode}(h:GN N i x)(k:N<=M):GN M i x:=⟨c4Q k h.ok,h.ord,h.kids,h.text,h.flds,h.keys,h.rng⟩
abbrev c0n (k:Int)(l:List Int):Api_TypeNode:=Api_TypeNode.mk k 0 0 (⟨#[]⟩:ByteArray) l ([]:List Api_Field) (0,0)
abbrev d2k (k:Int)(s:ByteArray):Api_TypeNode:=Api_TypeNode.mk k 0 0 s ([]:List Int) ([]:List Api_Field) (0,0)
theorem b1G {N i:Nat}{k:Int}{l:List Int}(hl:l.all (inR N)=true)(h4:l.length<=4)(hk:a3q N (c0n k l)=true)(ho:k=16\/k=17\/k=18->∀ x∈l,(i:Int)<x):GN N i (c0n k l):=by
 refine ⟨?_,fun hb=>ho ?_,h4,by show (⟨#[]⟩:ByteArray).size<=5; decide,by show (0:Nat)<=3; omega,(fun f hf=>by cases hf),by show (-9223372036854775808:Int)<=0/\(0:Int)<=9223372036854775807/\(-9223372036854775808:Int)<=0/\(0:Int)<=9223372036854775807; decide⟩
 ·unfold V9
  rw [hk]
  simp [hl,a7p,a6m]
 ·unfold isB at hb
  simp at hb
  omega
theorem c12 {N i:Nat}{k:Int}{s:ByteArray}(hs:s.size<=5)(hk:(k=4)\/(k=6/\a35 s=true)\/(k=19/\a5O s=true)):GN N i (d2k k s):=by
 refine ⟨?_,fun hb=>?_,by show (0:Nat)<=4; omega,hs,by show (0:Nat)<=3; omega,(fun f hf=>by cases hf),by show (-9223372036854775808:Int)<=0/\(0:Int)<=9223372036854775807/\(-9223372036854775808:Int)<=0/\(0:Int)<=9223372036854775807; decide⟩
 ·have h64:(s.size:Int)<=64:=by omega
  rcases hk with rfl | ⟨rfl,h⟩ | ⟨rfl,h⟩
  ·simp [V9,a3q,a6m,h64]
  ·simp [V9,a3q,a6m,h]
  ·simp [V9,a3q,a6m,h]
 ·intro x hx; cases hx
section
variable {L:List Int}
theorem b7k {γ σ τ:Type}{step:σ->Option (Fl σ τ)}(pack:γ->Int->Semtypebase_Source->σ)(out:γ->Semtypebase_Source->τ)(Inv:Nat->γ->Prop)(J:Nat)
 (hst:∀ (j:Nat) (g:γ) (s:Semtypebase_Source),j<J->Inv j g->OS L s->∃ g' s',step (pack g (j:Int) s)=some (.next (pack g' ((j+1:Nat):Int) s'))/\OS L s'/\Inv (j+1) g')
 (hend:∀ g s,step (pack g (J:Int) s)=some (.done (out g s))) :
 ∀ (n j k:Nat) (g:γ) (s:Semtypebase_Source),j+n=J->n+1<=k->Inv j g->OS L s->∃ g' s',y4 step k (pack g (j:Int) s)=some (out g' s')/\OS L s'/\Inv J g':=by
 intro n
 induction n with
 | zero =>
   intro j k g s hJ hk hI hs
   obtain ⟨k,rfl⟩:∃ m,k=m+1:=⟨k-1,by omega⟩
   have e:j=J:=by omega
   subst e
   exact ⟨g,s,by have:=hend g s; simp [y4,this],hs,hI⟩
 | succ n ih =>
   intro j k g s hJ hk hI hs
   obtain ⟨k,rfl⟩:∃ m,k=m+1:=⟨k-1,by omega⟩
   obtain ⟨g1,s1,e,hs1,hI1⟩:=hst j g s (by omega) hI hs
   obtain ⟨g2,s2,e2,hs2,hI2⟩:=ih (j+1) k g1 s1 (by omega) (by omega) hI1 hs1
   refine ⟨g2,s2,?_,hs2,hI2⟩
   simp only [y4,e,Option.bind_some]
   exact e2
theorem c35 (hL:L.length<=4194304){s:Semtypebase_Source}(h:OS L s)(m i N:Nat)(hm:m<=4)(hi:i<N)(hN:N<=100) :
 ∃ l t,v7 s (m:Int) (i:Int) (N:Int)=some (l,t)/\OS L t/\l.length=m/\∀ k∈l,(i:Int)<=k/\k<(N:Int):=by
 unfold v7
 obtain ⟨g,s',e,hs',h1,h2⟩:=a83 (γ:=List Int) (L:=L) (step:=a1f (i:Int) (N:Int)) (fun g j s=>(j,g,s)) (fun g s=>(g,s)) (fun j g=>g.length=j/\∀ k∈g,(i:Int)<=k/\k<(N:Int)) m
  (fun j n g s hj hn hI hs=>by
    obtain ⟨x,t,e,ht,a,b⟩:=Y2 hL hs (n:=w64 ((N:Int)-(i:Int))) (by rw [K1 (by omega) (by omega)]; omega) (by rw [K1 (by omega) (by omega)]; omega)
    rw [K1 (by omega) (by omega)] at b
    have hw:w64 ((i:Int)+x)=(i:Int)+x:=K1 (by omega) (by omega)
    refine ⟨g++[(i:Int)+x],t,?_,ht,?_,?_⟩
    ·unfold a1f
     simp only [Z2]
     rw [show decide (0<((n+1:Nat):Int))=true from decide_eq_true (by omega),e]
     simp only [cond_true,Option.bind_some,hw]
     rw [Q9 (by simp only [List.length_cons,List.length_nil]; have:=hI.1; omega),show w64 (((n+1:Nat):Int)-1)=(n:Int) by rw [K1 (by omega) (by omega)]; omega]
     rfl
    ·simp [hI.1]
    ·intro k hk
     rcases List.mem_append.1 hk with hk | hk
     ·exact hI.2 k hk
     ·rw [List.mem_singleton.1 hk]; omega) (fun g s=>by
    unfold a1f
    rfl) m 0 ((m:Int).toNat+2) [] s (by omega) (by omega) ⟨rfl,fun k hk=>by cases hk⟩ h
 rw [e]
 exact ⟨g,s',rfl,hs',by simpa using h1,h2⟩
theorem b4d {N:Nat}{k:Int}(h0:0<=k)(h1:k<(N:Int)):inR N k=true:=by
 unfold inR
 simp [h0,h1]
theorem b1a {N i:Nat}{l:List Int}(h:∀ k∈l,(i:Int)<=k/\k<(N:Int)):l.all (inR N)=true:=List.all_eq_true.2 fun k hk=>by
 have:=h k hk
 exact b4d (by omega) this.2
abbrev d01:Key:=Key.mk 0 ⟨#[97]⟩
abbrev d0a:Key:=Key.mk 0 ⟨#[98]⟩
abbrev d1j:Key:=Key.mk 1 ⟨#[115]⟩
abbrev d19:Type:=Int×Int×Int×ByteArray×(List Int)×(List Api_Field)×Int×Int
abbrev c0m (F:List Api_Field)(a b:Int):d19:=(13,0,0,(⟨#[]⟩:ByteArray),[],F,a,b)
theorem b6D (hL:L.length<=4194304){s:Semtypebase_Source}(h:OS L s)(N j:Nat)(hN:1<=N)(hN2:N<=100)(hj:j<3)(K:Key)(hK:[d01,d0a,d1j][j]?=some K)(F:List Api_Field)(hF:F.length<=j)(a b:Int) :
 ∃ O t,W2 (N:Int) ((j:Int),s,c0m F a b)=some (.next (((j+1:Nat):Int),t,c0m (F++O) a b))/\OS L t/\(O=[]\/∃ n o,O=[Api_Field.mk K n o]/\inR N n=true):=by
 obtain ⟨x,t,e,ht,_,_⟩:=Y2 hL h (n:=2) (by omega) (by omega)
 unfold W2
 simp only [Z2]
 rw [show decide ((j:Int)<3)=true from decide_eq_true (by omega),e]
 simp only [cond_true,Option.bind_some]
 rw [j9 j (by omega)]
 cases hx:x==1
 ·exact ⟨[],t,by simp only [cond_false,Option.bind_some,List.append_nil],ht,.inl rfl⟩
 ·simp only [cond_true]
  rw [j6 hK]
  obtain ⟨n,t2,e2,ht2,n0,n1⟩:=Y2 hL ht (n:=(N:Int)) (by omega) (by omega)
  obtain ⟨o,t3,e3,ht3,_,_⟩:=Y2 hL ht2 (n:=2) (by omega) (by omega)
  simp only [Option.bind_some,e2,e3]
  rw [Q9 (by simp only [List.length_cons,List.length_nil]; omega)]
  exact ⟨[Api_Field.mk K n (o==1)],t3,rfl,ht3,.inr ⟨n,_,rfl,b4d n0 n1⟩⟩
theorem c3O (hL:L.length<=4194304){s:Semtypebase_Source}(h:OS L s)(N i:Nat)(hN:1<=N)(hN2:N<=100):∃ x t,a10 s (N:Int)=some (x,t)/\OS L t/\GN N i x:=by
 obtain ⟨a,t1,e1,ht1,a0,a1⟩:=Y2 hL h (n:=(N:Int)) (by omega) (by omega)
 obtain ⟨b,t2,e2,ht2,b0,b1⟩:=Y2 hL ht1 (n:=(N:Int)) (by omega) (by omega)
 obtain ⟨O0,t3,e3,ht3,h0⟩:=b6D hL ht2 N 0 hN hN2 (by omega) d01 rfl [] (by simp) a b
 have l0:O0.length<=1:=by rcases h0 with rfl | ⟨n,o,rfl,_⟩<;>simp
 obtain ⟨O1,t4,e4,ht4,h1⟩:=b6D hL ht3 N 1 hN hN2 (by omega) d0a rfl ([]++O0) (by simpa using l0) a b
 have l1:O1.length<=1:=by rcases h1 with rfl | ⟨n,o,rfl,_⟩<;>simp
 obtain ⟨O2,t5,e5,ht5,h2⟩:=b6D hL ht4 N 2 hN hN2 (by omega) d1j rfl (([]++O0)++O1) (by simp; omega) a b
 have e6:W2 (N:Int) (((2+1:Nat):Int),t5,c0m ((([]++O0)++O1)++O2) a b)=some (.done (t5,c0m ((([]++O0)++O1)++O2) a b)):=rfl
 refine ⟨Api_TypeNode.mk 13 0 0 (⟨#[]⟩:ByteArray) [] (O0++O1++O2) (a,b),t5,?_,ht5,?_⟩
 ·unfold a10
  rw [e1]
  simp only [Option.bind_some]
  rw [e2]
  simp only [Option.bind_some]
  have ei:y4 (W2 (N:Int)) ((3:Int).toNat+1) (0,t2,(13,0,0,(⟨#[]⟩:ByteArray),[],[],a,b))=some (t5,c0m ((([]++O0)++O1)++O2) a b):=by
   show y4 (W2 (N:Int)) (3+1) (((0:Nat):Int),t2,c0m [] a b)=_
   simp only [y4,e3,e4,e5,e6,Option.bind_some]
  rw [ei]
  rfl
 ·refine ⟨?_,fun hb=>absurd hb (show ¬ (false=true) by simp),by show (0:Nat)<=4; omega,by show (⟨#[]⟩:ByteArray).size<=5; decide,?_,?_,by show (-9223372036854775808:Int)<=0/\(0:Int)<=9223372036854775807/\(-9223372036854775808:Int)<=0/\(0:Int)<=9223372036854775807; decide⟩
  ·have ha:=b4d (N:=N) a0 a1
   have hb:=b4d (N:=N) b0 b1
   have hF:a55 N (O0++O1++O2)=true:=by
    unfold a55
    rw [Bool.and_eq_true,Bool.and_eq_true]
    refine ⟨?_,?_,?_⟩
    ·rcases h0 with rfl | ⟨n,o,rfl,_⟩<;>rcases h1 with rfl | ⟨n',o',rfl,_⟩<;>rcases h2 with rfl | ⟨n'',o'',rfl,_⟩<;>kernel_rfl
    ·rcases h0 with rfl | ⟨n,o,rfl,_⟩<;>rcases h1 with rfl | ⟨n',o',rfl,_⟩<;>rcases h2 with rfl | ⟨n'',o'',rfl,_⟩<;>kernel_rfl
    ·rcases h0 with rfl | ⟨n,o,rfl,q0⟩<;>rcases h1 with rfl | ⟨n',o',rfl,q1⟩<;>rcases h2 with rfl | ⟨n'',o'',rfl,q2⟩<;>simp_all
   unfold V9 a3q
   simp only [hF,ha,hb,a7p]
   simp
  ·show (O0++O1++O2).length<=3
   have l2:O2.length<=1:=by rcases h2 with rfl | ⟨n,o,rfl,_⟩<;>simp
   simp only [List.length_append]
   omega
  ·intro f hf
   have hf:f∈O0++O1++O2:=hf
   have one:∀ {O:List Api_Field} {K:Key},(O=[]\/∃ n o,O=[Api_Field.mk K n o]/\inR N n=true)->f∈O->f.Key_=K:=fun hO hm=>by
    rcases hO with rfl | ⟨n,o,rfl,_⟩
    ·cases hm
    ·rw [List.mem_singleton.1 hm]
   rcases List.mem_append.1 hf with hf | hf
   ·rcases List.mem_append.1 hf with hf | hf
    ·rw [one h0 hf]; decide
    ·rw [one h1 hf]; decide
   ·rw [one h2 hf]; decide
end
end Go.Pl
namespace Go.Pl
open Go Go.RowKit Go.Sx Go.Qx
theorem b93 {N i:Nat}{k:Int}(hk:k=1\/k=2\/k=5\/k=7\/k=8\/k=9\/k=11\/k=15):GN N i (c0n k []) :=
 b1G rfl (by simp) (by rcases hk with rfl | rfl | rfl | rfl | rfl | rfl | rfl | rfl<;>rfl) (fun _ x hx=>by cases hx)
theorem d0E {N i:Nat}{lo hi:Int}(h:lo<=hi)(h2 : -9223372036854775808<=lo/\lo<=9223372036854775807 /\ -9223372036854775808<=hi/\hi<=9223372036854775807):GN N i (Api_TypeNode.mk 3 lo hi (⟨#[]⟩:ByteArray) ([]:List Int) ([]:List Api_Field) (0,0)) :=
 ⟨by simp [V9,a3q,a6m,a7p,h],(fun _ x hx=>by cases hx),(by show (0:Nat)<=4; omega),(by show (⟨#[]⟩:ByteArray).size<=5; decide),(by show (0:Nat)<=3; omega),(fun f hf=>by cases hf),h2⟩
theorem c6E:b7T.all (fun x=>a5O x&&decide (x.size<=5))=true:=by kernel_rfl
section
variable {L:List Int}
theorem b1S {x:Int}(h:0<=x):∃ m:Nat,x=(m:Int):=⟨x.toNat,by omega⟩
theorem c8z (hL:L.length<=4194304){s:Semtypebase_Source}(h:OS L s)(N i:Nat)(hi:i<N)(hN2:N<=100):∃ x t,a2M s (i:Int) (N:Int)=some (x,t)/\OS L t/\GN N i x:=by
 have hw:w64 ((N:Int)-1)=(N:Int)-1:=K1 (by omega) (by omega)
 have hwi:=j9 i (by omega)
 obtain ⟨b,hb,hlast,hb18⟩:∃ b:Int,(bif ((i:Int)==(wr .i64 ((N:Int)-1))) then (some 14:Option Int) else some 18)=some b/\(14<b->i+1<N)/\(b=14\/b=18):=by
  by_cases e:i+1=N
  ·refine ⟨14,?_,fun h=>by omega,.inl rfl⟩
   have:((i:Int)==(N:Int)-1)=true:=by simp; omega
   simp only [Z2,hw,this,cond_true]
  ·refine ⟨18,?_,fun _=>by omega,.inr rfl⟩
   have:((i:Int)==(N:Int)-1)=false:=by simp; omega
   simp only [Z2,hw,this,cond_false]
 unfold a2M
 rw [hb]
 simp only [Option.bind_some]
 obtain ⟨c,t,e,ht,c0,c1⟩:=Y2 hL h (n:=b) (by omega) (by omega)
 rw [e]
 simp only [Option.bind_some]
 have ix:∀ {s:Semtypebase_Source},OS L s->∀ (m f:Nat),m<=4->f<N->∃ l t,v7 s (m:Int) (f:Int) (N:Int)=some (l,t)/\OS L t/\l.length=m/\∀ k∈l,(f:Int)<=k/\k<(N:Int):=fun hs m f hm hf=>c35 hL hs m f N hm hf hN2
 have hc:c=0\/c=1\/c=2\/c=3\/c=4\/c=5\/c=6\/c=7\/c=8\/c=9\/c=10\/c=11\/c=12\/c=13\/c=14\/c=15\/c=16\/c=17:=by omega
 have tup:∀ {s:Semtypebase_Source},OS L s->∃ x t,(Option.bind (y2 s 3) fun r19=>Option.bind (v7 r19.2 r19.1 0 (N:Int)) fun r20=>some (c0n 10 r20.1,r20.2))=some (x,t)/\OS L t/\GN N i x:=fun hs=>by
  obtain ⟨m,t2,e2,ht2,m0,m1⟩:=Y2 hL hs (n:=3) (by omega) (by omega)
  obtain ⟨m,rfl⟩:=b1S m0
  obtain ⟨l,t3,e3,ht3,hl,hr⟩:=ix ht2 m 0 (by omega) (by omega)
  rw [e2]
  simp only [Option.bind_some]
  have e3':v7 t2 (m:Int) 0 (N:Int)=some (l,t3):=e3
  rw [e3']
  refine ⟨_,t3,rfl,ht3,b1G (l:=l) (b1a hr) (show l.length<=4 by omega) ?_ (fun h=>by omega)⟩
  show decide ((l.length:Int)<=4)=true
  exact decide_eq_true (by omega)
 have fun_:∀ {s:Semtypebase_Source},OS L s->∃ x t,(Option.bind (y2 s 3) fun r24=>Option.bind (v7 r24.2 (w64 (1+r24.1)) 0 (N:Int)) fun r25=>some (c0n 14 r25.1,r25.2))=some (x,t)/\OS L t/\GN N i x:=fun hs=>by
  obtain ⟨m,t2,e2,ht2,m0,m1⟩:=Y2 hL hs (n:=3) (by omega) (by omega)
  obtain ⟨m,rfl⟩:=b1S m0
  obtain ⟨l,t3,e3,ht3,hl,hr⟩:=ix ht2 (m+1) 0 (by omega) (by omega)
  rw [e2]
  simp only [Option.bind_some]
  have e3':v7 t2 (w64 (1+(m:Int))) 0 (N:Int)=some (l,t3):=by
   rw [K1 (by omega) (by omega),show 1+(m:Int)=((m+1:Nat):Int) by omega]
   exact e3
  rw [e3']
  refine ⟨_,t3,rfl,ht3,b1G (l:=l) (b1a hr) (show l.length<=4 by omega) ?_ (fun h=>by omega)⟩
  show (decide (1<=(l.length:Int))&&decide ((l.length:Int)<=5))=true
  rw [Bool.and_eq_true]
  exact ⟨decide_eq_true (by omega),decide_eq_true (by omega)⟩
 have uni:i+1<N->∀ {s:Semtypebase_Source},OS L s->∃ x t,(Option.bind (y2 s 2) fun r28=>Option.bind (v7 r28.2 (w64 (2+r28.1)) (w64 ((i:Int)+1)) (N:Int)) fun r29=>some (c0n 16 r29.1,r29.2))=some (x,t)/\OS L t/\GN N i x:=fun hlt s hs=>by
  obtain ⟨m,t2,e2,ht2,m0,m1⟩:=Y2 hL hs (n:=2) (by omega) (by omega)
  obtain ⟨m,rfl⟩:=b1S m0
  obtain ⟨l,t3,e3,ht3,hl,hr⟩:=ix ht2 (m+2) (i+1) (by omega) hlt
  rw [e2]
  simp only [Option.bind_some]
  have e3':v7 t2 (w64 (2+(m:Int))) (w64 ((i:Int)+1)) (N:Int)=some (l,t3):=by
   rw [K1 (x:=2+(m:Int)) (by omega) (by omega),hwi,show 2+(m:Int)=((m+2:Nat):Int) by omega]
   exact e3
  rw [e3']
  refine ⟨_,t3,rfl,ht3,b1G (l:=l) (b1a hr) (show l.length<=4 by omega) ?_ (fun _ x hx=>by have:=hr x hx; omega)⟩
  show decide (1<=(l.length:Int))=true
  exact decide_eq_true (by omega)
 rcases hc with rfl | rfl | rfl | rfl | rfl | rfl | rfl | rfl | rfl | rfl | rfl | rfl | rfl | rfl | rfl | rfl | rfl | rfl<;>simp only [Int.reduceBEq,cond_true,cond_false,Option.bind_some,Z2]
 ·obtain ⟨a,t2,e2,ht2,a0,a1⟩:=Y2 hL ht (n:=5) (by omega) (by omega)
  obtain ⟨d,t3,e3,ht3,d0,d1⟩:=Y2 hL ht2 (n:=w64 (5-a)) (by rw [K1 (by omega) (by omega)]; omega) (by rw [K1 (by omega) (by omega)]; omega)
  rw [K1 (x:=5-a) (by omega) (by omega)] at d1
  rw [e2]
  simp only [Option.bind_some]
  rw [e3]
  simp only [Option.bind_some]
  rw [K1 (x:=a+d) (by omega) (by omega)]
  have ha:a=0\/a=1\/a=2\/a=3\/a=4:=by omega
  have hd:d=0\/d=1\/d=2\/d=3\/d=4:=by omega
  rcases ha with rfl | rfl | rfl | rfl | rfl<;>rcases hd with rfl | rfl | rfl | rfl | rfl<;>first | (exfalso; omega) | exact ⟨_,t3,rfl,ht3,d0E (by decide) (by decide)⟩
 ·obtain ⟨x,t2,e2,ht2,hx⟩:=a9z hL ht
  have hf:=List.all_eq_true.1 b0K x hx
  simp only [Bool.and_eq_true,decide_eq_true_eq] at hf
  rw [e2]
  exact ⟨_,t2,rfl,ht2,c12 hf.2 (.inr (.inl ⟨rfl,hf.1⟩))⟩
 ·exact ⟨_,t,rfl,ht,b93 (by omega)⟩
 ·obtain ⟨x,t2,e2,ht2,hx⟩:=b7W hL ht
  have hf:=List.all_eq_true.1 b0S x hx
  simp only [decide_eq_true_eq] at hf
  rw [e2]
  exact ⟨_,t2,rfl,ht2,c12 hf (.inl rfl)⟩
 ·obtain ⟨a,t2,e2,ht2,a0,a1⟩:=Y2 hL ht (n:=4) (by omega) (by omega)
  rw [e2]
  have ha:a=0\/a=1\/a=2\/a=3:=by omega
  rcases ha with rfl | rfl | rfl | rfl<;>exact ⟨_,t2,rfl,ht2,b93 (by omega)⟩
 ·exact ⟨_,t,rfl,ht,b93 (by omega)⟩
 ·obtain ⟨a,t2,e2,ht2,a0,a1⟩:=Y2 hL ht (n:=2) (by omega) (by omega)
  rw [e2]
  have ha:a=0\/a=1:=by omega
  rcases ha with rfl | rfl<;>exact ⟨_,t2,rfl,ht2,b93 (by omega)⟩
 ·obtain ⟨x,t2,e2,ht2,hx⟩:=b8L hL ht
  have hf:=List.all_eq_true.1 c6E x hx
  simp only [Bool.and_eq_true,decide_eq_true_eq] at hf
  rw [e2]
  exact ⟨_,t2,rfl,ht2,c12 hf.2 (.inr (.inr ⟨rfl,hf.1⟩))⟩
 ·exact tup ht
 ·exact tup ht
 ·obtain ⟨l,t3,e3,ht3,hl,hr⟩:=ix ht 2 0 (by omega) (by omega)
  have e3':v7 t 2 0 (N:Int)=some (l,t3):=e3
  rw [e3']
  refine ⟨_,t3,rfl,ht3,b1G (l:=l) (b1a hr) (show l.length<=4 by omega) ?_ (fun h=>by omega)⟩
  show ((l.length:Int)==2)=true
  simp [hl]
 ·obtain ⟨x,t2,e2,ht2,hg⟩:=c3O hL ht N i (by omega) hN2
  rw [e2]
  exact ⟨x,t2,rfl,ht2,hg⟩
 ·exact fun_ ht
 ·exact fun_ ht
 ·have hlt:=hlast (by omega)
  obtain ⟨l,t3,e3,ht3,hl,hr⟩:=ix ht 1 (i+1) (by omega) hlt
  have e3':v7 t 1 (w64 ((i:Int)+1)) (N:Int)=some (l,t3):=by rw [hwi]; exact e3
  rw [e3']
  refine ⟨_,t3,rfl,ht3,b1G (l:=l) (b1a hr) (show l.length<=4 by omega) ?_ (fun _ x hx=>by have:=hr x hx; omega)⟩
  show ((l.length:Int)==1)=true
  simp [hl]
 ·have hlt:=hlast (by omega)
  obtain ⟨l,t3,e3,ht3,hl,hr⟩:=ix ht 2 (i+1) (by omega) hlt
  have e3':v7 t 2 (w64 ((i:Int)+1)) (N:Int)=some (l,t3):=by rw [hwi]; exact e3
  rw [e3']
  refine ⟨_,t3,rfl,ht3,b1G (l:=l) (b1a hr) (show l.length<=4 by omega) ?_ (fun _ x hx=>by have:=hr x hx; omega)⟩
  show decide (1<=(l.length:Int))=true
  exact decide_eq_true (by omega)
 ·exact uni (hlast (by omega)) ht
 ·exact uni (hlast (by omega)) ht
def GNs (N:Nat)(ns:List Api_TypeNode):Prop:=∀ (i:Nat) (x:Api_TypeNode),ns[i]?=some x->GN N i x
theorem GNs.snoc {N:Nat}{ns:List Api_TypeNode}{x:Api_TypeNode}(h:GNs N ns)(hx:GN N ns.length x):GNs N (ns++[x]):=fun i y hy=>by
 by_cases hi:i<ns.length
 ·rw [List.getElem?_append_left hi] at hy
  exact h i y hy
 ·have hlt:=(List.getElem?_eq_some_iff.1 hy).1
  simp only [List.length_append,List.length_cons,List.length_nil] at hlt
  have e:i=ns.length:=by omega
  subst e
  simp at hy
  subst hy
  exact hx
theorem c7D (hL:L.length<=4194304){s:Semtypebase_Source}(h:OS L s)(N:Nat)(hN:1<=N)(hN2:N<=100):∃ ns t,a1D s (N:Int)=some (Api_Type.mk ns 0,t)/\OS L t/\ns.length=N/\GNs N ns:=by
 unfold a1D
 have hmax:max (N:Int) 1=(N:Int):=by omega
 rw [hmax,Int.toNat_natCast]
 obtain ⟨g,s',e,hs',h1,h2⟩:=b7k (γ:=List Api_TypeNode) (L:=L) (step:=a0S (N:Int)) (fun g j s=>(j,s,(g,0))) (fun g s=>(s,(g,0))) (fun j g=>g.length=j/\GNs N g) N
  (fun j g s hj hI hs=>by
    obtain ⟨x,t,e,ht,hx⟩:=c8z hL hs N j hj hN2
    refine ⟨g++[x],t,?_,ht,by simp [hI.1],hI.2.snoc (by rw [hI.1]; exact hx)⟩
    unfold a0S
    simp only [Z2,hmax]
    rw [Z0 hj,e]
    simp only [cond_true,Option.bind_some]
    rw [Q9 (by simp only [List.length_cons,List.length_nil]; have:=hI.1; omega),j9 j (by omega)]
    rfl) (fun g s=>by
    unfold a0S
    simp [hmax]) N 0 (N+1) [] s (by omega) (Nat.le_refl _) ⟨rfl,fun i x hx=>by simp at hx⟩ h
 have e':y4 (a0S (N:Int)) (N+1) (0,s,([],0))=some (s',(g,0)):=e
 rw [e']
 exact ⟨g,s',rfl,hs',h1,h2⟩
end
end Go.Pl
end
section
namespace Go.Pl
open Go Go.RowKit Go.Sx Go.Qx
theorem c8Y {a b:ByteArray}(h:cS a b=0):a=b:=by
 rcases b7i a.data.toList b.data.toList with ⟨_,e,_⟩ | ⟨_,_,e⟩ | ⟨_,e,_⟩
 ·have:cS a b = -1:=e
  omega
 ·exact ByteArray.ext (Array.toList_inj.1 e)
 ·have:cS a b=1:=e
  omega
theorem d15 {a b:Key}(h:cK a b=0):a=b:=by
 obtain ⟨k,t⟩:=a
 obtain ⟨k2,t2⟩:=b
 unfold cK tn at h
 simp only at h
 rcases W9 k k2 with ⟨_,e⟩ | ⟨_,e⟩ | ⟨p,e⟩
 ·rw [e] at h; simp at h
 ·rw [e] at h; simp at h
 ·rw [e,if_pos rfl] at h
  rw [p,c8Y h]
theorem c7t (a b c:Key)(h1:cK a b<=0)(h2:cK b c<=0):cK a c<=0:=by rw [c5z] at *; exact b85 _ _ _ h1 h2
theorem c6o {a b c:Key}(h1:cK a b<0)(h2:cK b c<=0):cK a c<0:=by
 have h3:=c7t a b c (by omega) h2
 by_cases h:cK a c=0
 ·have:=d15 h
  subst this
  have:=c0z a b
  omega
 ·omega
abbrev ltK (a b:Key):Prop:=cK a b<0
theorem asc_pw:∀ l:List Key,asc cK l=true↔l.Pairwise ltK
 | []=>by simp [asc]
 | [a]=>by simp [asc]
 | a::b::r=>by
   have ih:=asc_pw (b::r)
   simp only [asc,Bool.and_eq_true,decide_eq_true_eq]
   rw [ih,List.pairwise_cons (a:=a)]
   constructor
   ·intro ⟨h1,h2⟩
    refine ⟨fun x hx=>?_,h2⟩
    rcases List.mem_cons.1 hx with rfl | hx
    ·exact h1
    ·have:=(List.pairwise_cons.1 h2).1 x hx
     exact c6o h1 (by unfold ltK at this; omega)
   ·intro ⟨h1,h2⟩
    exact ⟨h1 b (by simp),h2⟩
end Go.Pl
end
section
namespace Go.Pl
open Go Go.RowKit Go.Sx Go.Qx
structure CmpOk {α:Type}(c:α->α->Int):Prop where
 anti:∀ a b,c b a = - c a b
 trans:∀ a b d,c a b<=0->c b d<=0->c a d<=0
 eq0:∀ a b,c a b=0->a=b
theorem cI0 {x y:Int}(h:cI x y=0):x=y:=by
 rcases W9 x y with ⟨_,e⟩ | ⟨_,e⟩ | ⟨p,_⟩
 ·omega
 ·omega
 ·exact p
theorem c5h (a b:ByteArray):cS a b=lx (eS a) (eS b):=by
 have:=pfS a b [] []
 simpa [lx,a9r] using this.symm
theorem d2l:CmpOk cS:=⟨fun a b=>by rw [c5h,c5h]; exact b35 _ _,fun a b d h1 h2=>by rw [c5h] at *; exact b85 _ _ _ h1 h2,fun _ _ h=>c8Y h⟩
section
variable {α:Type}{c:α->α->Int}(hc:CmpOk c)
include hc
theorem CmpOk.self (a:α):c a a=0:=by have:=hc.anti a a; omega
theorem CmpOk.strict {a b d:α}(h1:c a b<0)(h2:c b d<=0):c a d<0:=by
 have h3:=hc.trans a b d (by omega) h2
 by_cases h:c a d=0
 ·have:=hc.eq0 _ _ h
  subst this
  have:=hc.anti a b
  omega
 ·omega
theorem CmpOk.asc_pw:∀ l:List α,asc c l=true↔l.Pairwise fun a b=>c a b<0
 | []=>by simp [asc]
 | [a]=>by simp [asc]
 | a::b::r=>by
   have ih:=CmpOk.asc_pw (b::r)
   simp only [asc,Bool.and_eq_true,decide_eq_true_eq]
   rw [ih,List.pairwise_cons (a:=a)]
   constructor
   ·intro ⟨h1,h2⟩
    refine ⟨fun x hx=>?_,h2⟩
    rcases List.mem_cons.1 hx with rfl | hx
    ·exact h1
    ·have:=(List.pairwise_cons.1 h2).1 x hx
     exact hc.strict h1 (by omega)
   ·intro ⟨h1,h2⟩
    exact ⟨h1 b (by simp),h2⟩
theorem CmpOk.nodup {l:List α}(h:l.Pairwise fun a b=>c a b<0):l.Nodup:=h.imp fun {a b} h e=>by
 subst e
 have:=hc.self a
 omega
theorem CmpOk.uniq {l m:List α}(h1:asc c l=true)(h2:asc c m=true)(h:∀ x,x∈l↔x∈m):l=m:=by
 have p1:=(hc.asc_pw l).1 h1
 have p2:=(hc.asc_pw m).1 h2
 have hp:=(List.perm_ext_iff_of_nodup (hc.nodup p1) (hc.nodup p2)).2 h
 exact hp.eq_of_pairwise (le:=fun a b=>c a b<0) (fun a b _ _ h1 h2=>by have:=hc.anti a b; omega) p1 p2
omit hc in
def a3w (c:α->α->Int)(out:List α)(x:α):List α :=
 match (out.dropWhile (fun y=>decide (c y x<0))).head? with
 | some y=>if c y x=0 then out else a0g (fun y=>decide (c y x<0)) x out
 | none=>a0g (fun y=>decide (c y x<0)) x out
omit hc in
theorem c1i {p:α->Bool}{x y:α}{out:List α}:y∈a0g p x out↔y=x\/y∈out:=by
 constructor
 ·exact b2U
 ·intro h
  have e:=List.takeWhile_append_dropWhile (p:=p) (l:=out)
  simp only [a0g,List.mem_append,List.mem_singleton]
  rcases h with h | h
  ·exact .inl (.inr h)
  ·rw [<- e] at h
   rcases List.mem_append.1 h with h | h
   ·exact .inl (.inl h)
   ·exact .inr h
theorem c7G {x y:α}{out:List α}:y∈a3w c out x↔y=x\/y∈out:=by
 unfold a3w
 split
 ·rename_i z hz
  split
  ·rename_i h0
   have:=hc.eq0 _ _ h0
   subst this
   have hm:z∈out:=(List.dropWhile_sublist _).subset (List.mem_of_mem_head? hz)
   constructor
   ·exact .inr
   ·rintro (rfl | h)
    ·exact hm
    ·exact h
  ·exact c1i
 ·exact c1i
theorem c7I (out:List α)(x:α)(h:asc c out=true):asc c (a3w c out x)=true:=by
 unfold a3w
 split
 ·rename_i y hy
  split
  ·exact h
  ·rename_i hne
   refine b01 c hc.anti x out h (fun z hz=>?_)
   rw [hy] at hz
   cases hz
   exact hne
 ·rename_i hy
  refine b01 c hc.anti x out h (fun z hz=>?_)
  rw [hy] at hz; cases hz
theorem c9a:∀ (xs out:List α),asc c out=true->asc c (xs.foldl (a3w c) out)=true/\∀ y,y∈xs.foldl (a3w c) out↔y∈out\/y∈xs
 | [],out,h=>⟨h,fun y=>by simp⟩
 | x::r,out,h=>by
   obtain ⟨h1,h2⟩:=c9a r (a3w c out x) (c7I hc out x h)
   refine ⟨h1,fun y=>?_⟩
   rw [List.foldl_cons,h2,c7G hc,List.mem_cons]
   constructor
   ·rintro ((h | h) | h)
    ·exact .inr (.inl h)
    ·exact .inl h
    ·exact .inr (.inr h)
   ·rintro (h | h | h)
    ·exact .inl (.inr h)
    ·exact .inl (.inl h)
    ·exact .inr h
theorem d0J (xs:List α):asc c (xs.foldl (a3w c) [])=true/\∀ y,y∈xs.foldl (a3w c) []↔y∈xs:=by
 obtain ⟨h1,h2⟩:=c9a hc xs [] rfl
 exact ⟨h1,fun y=>by rw [h2]; simp⟩
omit hc in
def dd (r:α->α->Bool):α->List α->List α
 | _,[]=>[]
 | p,x::l=>if r x p=true then dd r x l else x::dd r x l
omit hc in
def a8L (r:α->α->Bool):List α->List α
 | []=>[]
 | x::l=>x::dd r x l
theorem c89:∀ (l:List α) (p:α),(p::l).Pairwise (fun a b=>¬ c b a<0) ->
 (p::dd (fun x y=>decide (c x y=0)) p l).Pairwise (fun a b=>c a b<0)/\∀ y,y∈p::dd (fun x y=>decide (c x y=0)) p l↔y∈p::l
 | [],p,_=>⟨by simp [dd],fun y=>by simp [dd]⟩
 | x::l,p,h=>by
   have hp:=List.pairwise_cons.1 h
   obtain ⟨h1,h2⟩:=c89 l x hp.2
   simp only [dd]
   by_cases h0:c x p=0
   ·rw [if_pos (by simpa using h0)]
    have:=hc.eq0 _ _ h0
    subst this
    refine ⟨h1,fun y=>?_⟩
    rw [h2]
    simp
   ·rw [if_neg (by simpa using h0)]
    have hlt:c p x<0:=by have:=hp.1 x (by simp); have:=hc.anti p x; omega
    refine ⟨List.pairwise_cons.2 ⟨fun b hb=>?_,h1⟩,fun y=>?_⟩
    ·rcases List.mem_cons.1 hb with rfl | hb
     ·exact hlt
     ·exact hc.strict hlt (by have:=(List.pairwise_cons.1 h1).1 b hb; omega)
    ·rw [List.mem_cons,h2,List.mem_cons (b:=p)]
theorem c7C (l:List α)(h:l.Pairwise fun a b=>¬ c b a<0):asc c (a8L (fun x y=>decide (c x y=0)) l)=true/\∀ y,y∈a8L (fun x y=>decide (c x y=0)) l↔y∈l:=by
 cases l with
 | nil=>exact ⟨rfl,fun y=>Iff.rfl⟩
 | cons p l =>
   obtain ⟨h1,h2⟩:=c89 hc l p h
   exact ⟨(hc.asc_pw _).2 h1,h2⟩
theorem c3M {xs p:List α}(hp:p.Perm xs)(hs:p.Pairwise fun a b=>¬ c b a<0):a8L (fun x y=>decide (c x y=0)) p=xs.foldl (a3w c) []:=by
 obtain ⟨h1,h2⟩:=c7C hc p hs
 obtain ⟨h3,h4⟩:=d0J hc xs
 exact hc.uniq h1 h3 fun y=>by rw [h2,h4,hp.mem_iff]
end
section
variable {α:Type}{r:α->α->Bool}
theorem c5X {ok:α->Prop}{step:(Int×Int)×List α->Option (Fl ((Int×Int)×List α) (Int×List α))}(i0 n:Nat)
 (hst:∀ (i k:Nat) (s:List α) (x y:α),ok x->s.length=n->i0+k<n->1<=k->i<i0+k->s[i0+k]?=some x->s[i0+k-1]?=some y ->
   step (((i:Int),(k:Int)),s)=some (.next (if r x y=true then (((i:Int),((k+1:Nat):Int)),s) else ((((i+1:Nat):Int),((k+1:Nat):Int)),s.set i x))))
 (hend:∀ (i:Int) (k:Nat) (s:List α),s.length=n->i0+k=n->step ((i,(k:Int)),s)=some (.done (i,s))) :
 ∀ (m i k:Nat) (s:List α) (y:α) (fuel:Nat),s.length=n->i0+k+m=n->1<=k->i<i0+k->s[i0+k-1]?=some y->m+1<=fuel->(∀ x∈s,ok x) ->
  ∃ s',y4 step fuel (((i:Int),(k:Int)),s)=some (((i+(dd r y (s.drop (i0+k))).length:Nat):Int),s')/\s'.length=n/\s'.take (i+(dd r y (s.drop (i0+k))).length)=s.take i++dd r y (s.drop (i0+k)):=by
 intro m
 induction m with
 | zero =>
   intro i k s y fuel hl hm hk hi hy hf hok
   obtain ⟨fuel,rfl⟩:∃ m,fuel=m+1:=⟨fuel-1,by omega⟩
   have e:s.drop (i0+k)=[]:=List.drop_eq_nil_of_le (by omega)
   rw [e]
   refine ⟨s,?_,hl,?_⟩
   ·simp only [y4,hend (i:Int) k s hl (by omega),Option.bind_some]
    rfl
   ·simp [dd]
 | succ m ih =>
   intro i k s y fuel hl hm hk hi hy hf hok
   obtain ⟨fuel,rfl⟩:∃ m,fuel=m+1:=⟨fuel-1,by omega⟩
   have hlt:i0+k<s.length:=by omega
   have hx:=List.getElem?_eq_getElem hlt
   rw [List.drop_eq_getElem_cons hlt]
   simp only [dd]
   simp only [y4,hst i k s _ y (hok _ (List.getElem_mem hlt)) hl (by omega) hk hi hx hy,Option.bind_some]
   by_cases h:r s[i0+k] y=true
   ·rw [if_pos h,if_pos h]
    have:=ih i (k+1) s s[i0+k] fuel hl (by omega) (by omega) (by omega) (by rw [show i0+(k+1)-1=i0+k by omega]; exact hx) (by omega) hok
    rw [show i0+(k+1)=i0+k+1 by omega] at this
    exact this
   ·rw [if_neg h,if_neg h]
    have hd:(s.set i s[i0+k]).drop (i0+k+1)=s.drop (i0+k+1):=by
     rw [List.drop_set_of_lt (by omega)]
    have:=ih (i+1) (k+1) (s.set i s[i0+k]) s[i0+k] fuel (by rw [List.length_set]; exact hl) (by omega) (by omega) (by omega) (by
     rw [show i0+(k+1)-1=i0+k by omega]
     by_cases e:i=i0+k
     ·omega
     ·rw [List.getElem?_set_ne e]; exact hx) (by omega) (fun z hz=>by
     rcases List.mem_or_eq_of_mem_set hz with hz | rfl
     ·exact hok z hz
     ·exact hok _ (List.getElem_mem hlt))
    rw [show i0+(k+1)=i0+k+1 by omega,hd] at this
    obtain ⟨s',h1,h2,h3⟩:=this
    refine ⟨s',?_,h2,?_⟩
    ·rw [h1,List.length_cons]
     congr 3
     omega
    ·rw [List.length_cons,show i+((dd r s[i0+k] (s.drop (i0+k+1))).length+1)=i+1+(dd r s[i0+k] (s.drop (i0+k+1))).length by omega,h3]
     have e:(s.set i s[i0+k]).take (i+1)=s.take i++[s[i0+k]]:=by
      rw [a6I (x:=s[i0+k]) (by rw [List.getElem?_set_self (by omega)]),List.take_set_of_le (Nat.le_refl _)]
     rw [e,List.append_assoc]
     rfl
theorem c6w {step:(Int×Int)×List α->Option (Fl ((Int×Int)×List α) (Int×List α))}(i0 n:Nat)
 (hst:∀ (i k:Nat) (s:List α) (x y:α),s.length=n->i0+k<n->1<=k->i<i0+k->s[i0+k]?=some x->s[i0+k-1]?=some y ->
   step (((i:Int),(k:Int)),s)=some (.next (if r x y=true then (((i:Int),((k+1:Nat):Int)),s) else ((((i+1:Nat):Int),((k+1:Nat):Int)),s.set i x))))
 (hend:∀ (i:Int) (k:Nat) (s:List α),s.length=n->i0+k=n->step ((i,(k:Int)),s)=some (.done (i,s)))
 (m i k:Nat) (s:List α) (y:α) (fuel:Nat) (h1:s.length=n) (h2:i0+k+m=n) (h3:1<=k) (h4:i<i0+k) (h5:s[i0+k-1]?=some y) (h6:m+1<=fuel) :
   ∃ s',y4 step fuel (((i:Int),(k:Int)),s)=some (((i+(dd r y (s.drop (i0+k))).length:Nat):Int),s')/\s'.length=n/\s'.take (i+(dd r y (s.drop (i0+k))).length)=s.take i++dd r y (s.drop (i0+k)) :=
 c5X (ok:=fun _=>True) i0 n (fun i k s x y _=>hst i k s x y) hend m i k s y fuel h1 h2 h3 h4 h5 h6 (fun _ _=>trivial)
theorem c56:∀ (l:List α) (p:α),(dd r p l).length<=l.length
 | [],_=>Nat.le_refl _
 | x::l,p=>by
   have:=c56 l x
   simp only [dd]
   split
   ·simp only [List.length_cons]; omega
   ·simp only [List.length_cons]; omega
theorem b3z:∀ (a:List α) (p:α) (l:List α),(∀ (i:Nat) (x y:α),(a++[p])[i+1]?=some x->(a++[p])[i]?=some y->r x y=false)->a8L r (a++p::l)=a++p::dd r p l
 | [],p,l,_=>rfl
 | x::a,p,l,h=>by
   have h2:=b3z a p l (fun i u v h1 h2=>h (i+1) u v (by simpa using h1) (by simpa using h2))
   cases a with
   | nil =>
     have h0:=h 0 p x rfl rfl
     show x::dd r x (p::l)=_
     simp [dd,h0]
   | cons y a =>
     have h0:=h 0 y x rfl rfl
     show x::dd r x (y::(a++p::l))=_
     simp only [dd,h0,Bool.false_eq_true,if_false]
     have h2':y::dd r y (a++p::l)=y::a++p::dd r p l:=h2
     rw [h2']
     rfl
end
end Go.Pl
namespace Go.Pl
open Go Go.RowKit Go.Sx Go.Qx
theorem b83 (x y:ByteArray):Q4 x y=decide (cS x y=0):=by
 rcases a7S x y with ⟨_,h,e⟩ | ⟨_,h,e⟩ | ⟨_,h,e⟩<;>simp [h,e]
theorem c7M (x y:ByteArray):a2P x y=decide (cS x y<0):=by
 rcases a7S x y with ⟨h,_,e⟩ | ⟨h,_,e⟩ | ⟨h,_,e⟩<;>simp [h,e]
theorem c3N (l out:List ByteArray)(i:Nat)(x:ByteArray)(hx:l[i]?=some x)(hl:out.length<=4194304)(hi:i<=4194304) :
 a0y l (out,(i:Int))=some (.next (a3w cS out x,((i+1:Nat):Int))):=by
 have hlt:i<l.length:=(List.getElem?_eq_some_iff.1 hx).1
 have hix:idx l (i:Int)=some x:=j6 hx
 unfold a0y
 simp only [Z5]
 rw [c2J (step:=a3j l (out,(i:Int))) out (fun y=>decide (cS y x<0)) ?_ ?_]
 ·simp only [X1,Z2]
  rw [if_pos (by simp; omega)]
  simp only [Option.bind_some,hix]
  have hk:=b4b (fun y=>decide (cS y x<0)) out
  have hat:=c1J (fun y=>decide (cS y x<0)) out
  have go:(Option.bind (cut out 0 ((out.takeWhile (fun y=>decide (cS y x<0))).length:Int)) fun u=>Option.bind (Y1 (0+u.length) 16) fun _ =>
   Option.bind (Y1 (u.length+[x].length) 16) fun _=>Option.bind (cut out ((out.takeWhile (fun y=>decide (cS y x<0))).length:Int) (out.length:Int)) fun w =>
   Option.bind (Y1 ((u++[x]).length+w.length) 16) fun _=>some ((u++[x])++w))=some (a0g (fun y=>decide (cS y x<0)) x out) :=
   c67 out x _ 16 (by omega) hl (fun l=>some l)
  rw [j9 i (by omega),go]
  unfold a3w
  cases hh:(out.dropWhile (fun y=>decide (cS y x<0))).head? with
  | none =>
    rw [hh] at hat
    have hge:=List.getElem?_eq_none_iff.1 hat
    rw [if_neg (by simp; omega)]
    rfl
  | some y =>
    rw [hh] at hat
    have hlt2:=(List.getElem?_eq_some_iff.1 hat).1
    rw [if_pos (by simp; omega),j6 hat]
    simp only [Option.bind_some,b83]
    by_cases h0:cS y x=0
    ·rw [if_pos (by simp [h0]),if_pos h0]
     rfl
    ·rw [if_neg (by simp [h0]),if_neg h0]
     rfl
 ·intro j y hy
  have hj:j<out.length:=(List.getElem?_eq_some_iff.1 hy).1
  unfold a3j
  simp only [X1,Z2]
  rw [if_pos (by simp; omega),j6 hy,hix]
  simp only [Option.bind_some,c7M,j9 j (by omega)]
  by_cases h:cS y x<0<;>simp [h]
 ·unfold a3j
  simp
theorem c3a {α:Type}(c:α->α->Int)(out:List α)(x:α):(a3w c out x).length<=out.length+1:=by
 unfold a3w
 split
 ·split
  ·omega
  ·rw [a6A]; omega
 ·rw [a6A]; omega
theorem c1e (l:List ByteArray)(hl:l.length<=4194304):a0h l=some (l.foldl (a3w cS) []):=by
 unfold a0h
 have key:=b2Q (σ:=List ByteArray) (step:=a0y l) l (fun s i=>(s,(i:Int))) (a3w cS) (fun i s=>s.length<=i) (fun s=>s)
  ?_ ?_ [] (by simp) _ (Nat.le_refl _)
 ·have e:y4 (a0y l) (l.length+1) (([]:List ByteArray),0)=y4 (a0y l) (l.length+1) (([]:List ByteArray),((0:Nat):Int)):=rfl
  rw [Z5,e,key]
  rfl
 ·intro i s x hx hI
  have hi:i<l.length:=(List.getElem?_eq_some_iff.1 hx).1
  refine ⟨c3N l s i x hx (by omega) (by omega),?_⟩
  have:=c3a cS s x
  omega
 ·intro s _
  unfold a0y
  simp
theorem b1b (a b:List ByteArray):J3 (a++b)=J3 a+J3 b:=by
 induction a with
 | nil=>simp [J3]
 | cons x r ih=>simp only [List.cons_append,J3,ih]; omega
theorem c59 (out:List ByteArray)(x:ByteArray):J3 (a3w cS out x)<=J3 out+a3m x:=by
 have hk:∀ p:ByteArray->Bool,J3 (a0g p x out)=J3 out+a3m x:=fun p=>by
  have e:=congrArg J3 (List.takeWhile_append_dropWhile (p:=p) (l:=out))
  rw [b1b] at e
  simp only [a0g,b1b,J3]
  omega
 unfold a3w
 split
 ·split
  ·omega
  ·rw [hk]; omega
 ·rw [hk]; omega
theorem b5X:∀ (l out:List ByteArray),J3 (l.foldl (a3w cS) out)<=J3 out+J3 l
 | [],out=>by simp [J3]
 | x::r,out=>by
   have h1:=b5X r (a3w cS out x)
   have h2:=c59 out x
   simp only [List.foldl_cons,J3]
   omega
section
variable {α:Type}{r:α->α->Bool}
theorem c7d {step:List α×Int->Option (Fl (List α×Int) (Sum (List α) (List α)))}(s:List α)(hl:1<=s.length)
 (hst:∀ (i:Nat) (x y:α),1<=i->s[i]?=some x->s[i-1]?=some y->r x y=false->step (s,(i:Int))=some (.next (s,((i+1:Nat):Int))))
 (hhit:∀ (i:Nat) (x y:α),1<=i->s[i]?=some x->s[i-1]?=some y->r x y=true->∃ q:List α,step (s,(i:Int))=some (.done (.inr (s.take i++dd r x (s.drop (i+1))))))
 (hend:step (s,(s.length:Int))=some (.done (.inl s))) :
 (y4 step (s.length+1) (s,1)=some (.inl s)/\a8L r s=s)\/∃ q:List α,y4 step (s.length+1) (s,1)=some (.inr (a8L r s)):=by
 have key:∀ (m i fuel:Nat),i+m=s.length->1<=i->m+1<=fuel->(∀ j:Nat,(hj:j+1<s.length)->j+1<i->r s[j+1] (s[j]'(by omega))=false) ->
  (y4 step fuel (s,(i:Int))=some (.inl s)/\a8L r s=s)\/∃ q:List α,y4 step fuel (s,(i:Int))=some (.inr (a8L r s)):=by
  intro m
  induction m with
  | zero =>
    intro i fuel hm hi hf hok
    obtain ⟨fuel,rfl⟩:∃ m,fuel=m+1:=⟨fuel-1,by omega⟩
    have e:i=s.length:=by omega
    subst e
    left
    refine ⟨by simp only [y4,hend,Option.bind_some],?_⟩
    have h1:s.length-1<s.length:=by omega
    have hs:s=s.take (s.length-1)++s[s.length-1]::[]:=by
     have:=a6I (List.getElem?_eq_getElem h1)
     rw [show s.length-1+1=s.length by omega,List.take_length] at this
     exact this
    have hc:=b3z (r:=r) (s.take (s.length-1)) s[s.length-1] [] (by
     rw [<- hs]
     intro j x y h1 h2
     have hj:=(List.getElem?_eq_some_iff.1 h1).1
     rw [List.getElem?_eq_getElem hj] at h1
     rw [List.getElem?_eq_getElem (by omega)] at h2
     cases h1; cases h2
     exact hok j hj (by omega))
    rw [<- hs] at hc
    rw [hc]
    exact hs.symm
  | succ m ih =>
    intro i fuel hm hi hf hok
    obtain ⟨fuel,rfl⟩:∃ m,fuel=m+1:=⟨fuel-1,by omega⟩
    have hlt:i<s.length:=by omega
    have hlt2:i-1<s.length:=by omega
    have hx:=List.getElem?_eq_getElem hlt
    have hy:=List.getElem?_eq_getElem hlt2
    by_cases h:r s[i] s[i-1]=true
    ·right
     obtain ⟨q,hq⟩:=hhit i _ _ hi hx hy h
     refine ⟨q,?_⟩
     simp only [y4,hq,Option.bind_some]
     have hs:s=s.take (i-1)++s[i-1]::s[i]::s.drop (i+1):=by
      have e1:=List.take_append_drop (i-1) s
      have e2:=List.drop_eq_getElem_cons hlt2
      have e3:=List.drop_eq_getElem_cons hlt
      rw [show i-1+1=i by omega,e3] at e2
      rw [<- e2]
      exact e1.symm
     have hc:=b3z (r:=r) (s.take (i-1)) s[i-1] (s[i]::s.drop (i+1)) (by
      have e:s.take (i-1)++[s[i-1]]=s.take i:=by
       have:=a6I hy
       rw [show i-1+1=i by omega] at this
       exact this.symm
      rw [e]
      intro j x y h1 h2
      have hj:=(List.getElem?_eq_some_iff.1 h1).1
      have hj':j+1<i:=by rw [List.length_take] at hj; omega
      rw [List.getElem?_take_of_lt hj',List.getElem?_eq_getElem (by omega)] at h1
      rw [List.getElem?_take_of_lt (by omega),List.getElem?_eq_getElem (by omega)] at h2
      cases h1; cases h2
      exact hok j (by omega) hj')
     rw [<- hs] at hc
     rw [hc]
     have e:s.take i=s.take (i-1)++[s[i-1]]:=by
      have:=a6I hy
      rw [show i-1+1=i by omega] at this
      exact this
     rw [e,List.append_assoc]
     simp only [dd,h,if_true]
     rfl
    ·have h':r s[i] s[i-1]=false:=by simpa using h
     simp only [y4,hst i _ _ hi hx hy h',Option.bind_some]
     refine ih (i+1) fuel (by omega) (by omega) (by omega) (fun j hj hji=>?_)
     by_cases e:j+1<i
     ·exact hok j hj e
     ·have:j+1=i:=by omega
      subst this
      exact h'
 exact key (s.length-1) 1 (s.length+1) (by omega) (Nat.le_refl _) (by omega) (fun j _ h=>by omega)
theorem c9J {β γ:Type}(z:α)(j n:Nat)(s' T:List α)(hl:s'.length=n)(hj:j<n)(ht:s'.take j=T) :
 ∃ q:List α,(Option.bind (idx s' (j:Int)) fun _=>bif Nat.blt (j:Int).toNat s'.length then (Option.bind (cut (s'.take (j:Int).toNat++List.replicate (s'.length-(j:Int).toNat) z) 0 (j:Int)) fun y =>
  some (Fl.done (Sum.inr y):Fl β (Sum γ (List α)))) else none)=some (.done (.inr T)):=by
 refine ⟨s'.take j++List.replicate (s'.length-j) z,?_⟩
 have e:(j:Int).toNat=j:=by omega
 rw [j6 (List.getElem?_eq_getElem (show j<s'.length by omega)),e]
 simp only [Option.bind_some]
 have eb:Nat.blt j s'.length=true:=by simp [Nat.blt]; omega
 rw [eb,b9I _ (by simp; omega)]
 simp only [cond_true,Option.bind_some]
 rw [List.take_append_of_le_length (by simp; omega),List.take_take,Nat.min_self,ht]
end
theorem b8P (n:Nat)(h:n<=4611686018427387904)(h1:1<=n):w64 ((n:Int)-1)=((n-1:Nat):Int):=by rw [K1 (by omega) (by omega)]; omega
end Go.Pl
end
section
namespace Go.Pl
open Go Go.RowKit Go.Sx Go.Qx
section
variable {L:List Int}{t:Api_Type}{N b:Nat}{h:Nat}{rN:Semtypebase_Source->Api_Type->Int->Int->Option (Val×Semtypebase_Source)}
def a7X (L:List Int)(t:Api_Type)(N b h:Nat)(rN:Semtypebase_Source->Api_Type->Int->Int->Option (Val×Semtypebase_Source)):Prop :=
 ∀ (k:Nat) (s:Semtypebase_Source),k<N->OS L s->∃ v u,rN s t (k:Int) (h:Int)=some (v,u)/\OS L u/\vOK v=true/\k8 v<=b
theorem b6T {N:Nat}{x:Api_TypeNode}(hx:V9 N x=true){j:Nat}(hj:j<x.Kids.length):∃ k:Nat,idx x.Kids (j:Int)=some (k:Int)/\x.Kids[j]?=some (k:Int)/\k<N:=by
 have e:=List.getElem?_eq_getElem hj
 obtain ⟨k,hk,hk2⟩:=a0W (a3K hx _ (List.getElem_mem hj))
 rw [hk] at e
 exact ⟨k,j6 e,e,hk2⟩
theorem b91 (hd:a7X L t N b h rN){x:Api_TypeNode}(hx:V9 N x=true)(hl:x.Kids.length<=4)(hh:h<=10){s:Semtypebase_Source}(hs:OS L s) :
 ∃ g u,y4 (a0R t ((h:Int)+1) x rN) (x.Kids.length+1) (0,s,(0,0,(⟨#[]⟩:ByteArray),[],[],[],[]))=some (u,(0,0,(⟨#[]⟩:ByteArray),g,[],[],[]))/\OS L u/\g.length=x.Kids.length/\k9 g<=x.Kids.length*b:=by
 have hw:w64 ((h:Int)+1-1)=(h:Int):=by rw [K1 (by omega) (by omega)]; omega
 obtain ⟨g,u,e,hu,h1,h2⟩:=b7k (γ:=List Val) (L:=L) (step:=a0R t ((h:Int)+1) x rN) (fun g j s=>(j,s,(0,0,(⟨#[]⟩:ByteArray),g,[],[],[]))) (fun g s=>(s,(0,0,(⟨#[]⟩:ByteArray),g,[],[],[]))) (fun j g=>g.length=j/\k9 g<=j*b) x.Kids.length
  (fun j g s hj hI hs=>by
    obtain ⟨k,e1,_,e2⟩:=b6T hx hj
    obtain ⟨v,u,e3,hu,_,hb⟩:=hd k s e2 hs
    refine ⟨g++[v],u,?_,hu,by simp [hI.1],by rw [a1v,Nat.add_mul]; simp only [k9]; have:=hI.2; omega⟩
    unfold a0R
    simp only [Z2,hw]
    rw [Z0 hj,e1]
    simp only [cond_true,Option.bind_some]
    rw [e3]
    simp only [Option.bind_some]
    rw [Q9 (by simp only [List.length_cons,List.length_nil]; have:=hI.1; omega),j9 j (by omega)]
    rfl) (fun g s=>by
    unfold a0R
    simp) x.Kids.length 0 (x.Kids.length+1) [] s (by omega) (Nat.le_refl _) ⟨rfl,by simp [k9]⟩ hs
 exact ⟨g,u,e,hu,h1,h2⟩
theorem c6g (hd:a7X L t N b h rN){x:Api_TypeNode}(hx:V9 N x=true)(hl:x.Kids.length<=4)(h1l:1<=x.Kids.length)(hh:h<=10){s:Semtypebase_Source}(hs:OS L s) :
 ∃ g u,y4 (J7 t x ((h:Int)+1) rN) ((w64 ((x.Kids.length:Int)-1)).toNat+1) (0,s,([],false,0,0,(⟨#[]⟩:ByteArray),[],[],[],[]))=some (u,(g,false,0,0,(⟨#[]⟩:ByteArray),[],[],[],[]))/\OS L u/\g.length=x.Kids.length-1/\a1z g=true/\k9 g<=3*b:=by
 have hw:w64 ((h:Int)+1-1)=(h:Int):=by rw [K1 (by omega) (by omega)]; omega
 have hw2:w64 ((x.Kids.length:Int)-1)=((x.Kids.length-1:Nat):Int):=by rw [K1 (by omega) (by omega)]; omega
 rw [hw2,Int.toNat_natCast]
 obtain ⟨g,u,e,hu,h1,h2,h3⟩:=b7k (γ:=List Val) (L:=L) (step:=J7 t x ((h:Int)+1) rN) (fun g j s=>(j,s,(g,false,0,0,(⟨#[]⟩:ByteArray),[],[],[],[]))) (fun g s=>(s,(g,false,0,0,(⟨#[]⟩:ByteArray),[],[],[],[]))) (fun j g=>g.length=j/\a1z g=true/\k9 g<=j*b) (x.Kids.length-1)
  (fun j g s hj hI hs=>by
    obtain ⟨k,e1,_,e2⟩:=b6T hx (show j<x.Kids.length by omega)
    obtain ⟨v,u,e3,hu,ho,hb⟩:=hd k s e2 hs
    refine ⟨g++[v],u,?_,hu,by simp [hI.1],by rw [b5B,hI.2.1]; simp [a1z,ho],by rw [a1v,Nat.add_mul]; simp only [k9]; have:=hI.2.2; omega⟩
    unfold J7
    simp only [Z2,hw,hw2]
    rw [Z0 hj,e1]
    simp only [cond_true,Option.bind_some]
    rw [e3]
    simp only [Option.bind_some]
    rw [Q9 (by simp only [List.length_cons,List.length_nil]; have:=hI.1; omega),j9 j (by omega)]
    rfl) (fun g s=>by
    unfold J7
    simp [Z2,hw2]) (x.Kids.length-1) 0 (x.Kids.length-1+1) [] s (by omega) (Nat.le_refl _) ⟨rfl,rfl,by simp [k9]⟩ hs
 have e':y4 (J7 t x ((h:Int)+1) rN) (x.Kids.length-1+1) (0,s,([],false,0,0,(⟨#[]⟩:ByteArray),[],[],[],[]))=some (u,(g,false,0,0,(⟨#[]⟩:ByteArray),[],[],[],[])):=e
 refine ⟨g,u,e',hu,h1,h2,Nat.le_trans h3 (Nat.mul_le_mul_right _ (by omega))⟩
theorem c6D (hL:L.length<=4194304)(hd:a7X L t N b h rN)(hb:8<=b){x:Api_TypeNode}(hx:V9 N x=true)(hl:x.Kids.length<=4)(h1l:1<=x.Kids.length)(hh:h<=10)(m:Nat)(hm:m<=2){s:Semtypebase_Source}(hs:OS L s) :
 ∃ es u,y4 (W0 t x ((h:Int)+1) rN) ((m:Int).toNat+2) ([],(m:Int),s)=some (es,u)/\OS L u/\w9 es<=m*(4*b+3):=by
 have hw:w64 ((h:Int)+1-1)=(h:Int):=by rw [K1 (by omega) (by omega)]; omega
 have hw2:w64 ((x.Kids.length:Int)-1)=((x.Kids.length-1:Nat):Int):=by rw [K1 (by omega) (by omega)]; omega
 obtain ⟨g,u,e,hu,h1,h2⟩:=a83 (γ:=List Ent) (L:=L) (step:=W0 t x ((h:Int)+1) rN) (fun g n s=>(g,n,s)) (fun g s=>(g,s)) (fun j g=>g.length=j/\w9 g<=j*(4*b+3)) m
  (fun j n g s hj hn hI hs=>by
    obtain ⟨ag,u1,e1,hu1,ha1,_,ha2⟩:=c6g hd hx hl h1l hh hs
    obtain ⟨z,u2,e2,hu2,_,_⟩:=Y2 hL hu1 (n:=6) (by omega) (by omega)
    obtain ⟨k,e3,_,e4⟩:=b6T hx (show x.Kids.length-1<x.Kids.length by omega)
    have fin:∀ (fl:Bool) (v:Val) (u3:Semtypebase_Source),OS L u3->k8 v<=b->∃ g' s',(Option.bind (Y1 (g.length+([Ent.mk ag fl v]:List Ent).length) 160) fun _=>(some (Fl.next (g++([Ent.mk ag fl v]:List Ent),w64 (((n+1:Nat):Int)-1),u3)):Option (Fl (List Ent×Int×Semtypebase_Source) (List Ent×Semtypebase_Source))))=some (.next (g',(n:Int),s'))/\OS L s'/\(g'.length=j+1/\w9 g'<=(j+1)*(4*b+3)):=fun fl v u3 hu3 hv=>by
     rw [Q9 (by simp only [List.length_cons,List.length_nil]; have:=hI.1; omega),show w64 (((n+1:Nat):Int)-1)=(n:Int) by rw [K1 (by omega) (by omega)]; omega]
     refine ⟨_,u3,rfl,hu3,by simp [hI.1],?_⟩
     have hbe:=a1q (Ent.mk ag fl v)
     simp only [Ent.Args,Ent.Result] at hbe
     rw [b0M,Nat.add_mul]
     simp only [w9,hbe]
     have:=hI.2
     omega
    unfold W0
    simp only [Z2,hw,hw2]
    rw [show decide (0<((n+1:Nat):Int))=true from decide_eq_true (by omega)]
    rw [hw2] at e1
    rw [e1]
    simp only [cond_true,Option.bind_some]
    rw [e2]
    simp only [Option.bind_some]
    cases hz:z==1
    ·simp only [cond_false]
     obtain ⟨v,u3,e5,hu3,_,hv⟩:=hd k u2 e4 hu2
     rw [e3]
     simp only [Option.bind_some]
     rw [e5]
     simp only [Option.bind_some]
     have:=fin false v u3 hu3 hv
     cases v
     exact this
    ·simp only [cond_true,Option.bind_some]
     exact fin true a6q u2 hu2 (by rw [a6q,V3]; simp only [a25,k9,w5,w9]; omega)) (fun g s=>by
    unfold W0
    rfl) m 0 ((m:Int).toNat+2) [] s (by omega) (by omega) ⟨rfl,by simp [w9]⟩ hs
 exact ⟨g,u,e,hu,by simpa using h2⟩
theorem c3Q (hL:L.length<=4194304)(hd:a7X L t N b h rN){x:Api_TypeNode}(hf:∀ f∈x.Fields,inR N f.Node=true)(hk:∀ f∈x.Fields,a56 f.Key_<=8)(hl:x.Fields.length<=3)(hh:h<=10){s:Semtypebase_Source}(hs:OS L s) :
 ∃ ks vs u,y4 (a0s t x ((h:Int)+1) rN) (x.Fields.length+1) ([],[],0,s)=some (ks,vs,u)/\OS L u/\ks.length<=3/\vs.length<=3/\w5 ks<=24/\k9 vs<=3*b:=by
 have hw:w64 ((h:Int)+1-1)=(h:Int):=by rw [K1 (by omega) (by omega)]; omega
 obtain ⟨g,u,e,hu,h1,h2,h3,h4⟩:=b7k (γ:=List Key×List Val) (L:=L) (step:=a0s t x ((h:Int)+1) rN) (fun g j s=>(g.1,g.2,j,s)) (fun g s=>(g.1,g.2,s)) (fun j g=>g.1.length<=j/\g.2.length<=j/\w5 g.1<=j*8/\k9 g.2<=j*b) x.Fields.length
  (fun j g s hj hI hs=>by
    have ex:=List.getElem?_eq_getElem hj
    have hm:=List.getElem_mem hj
    generalize x.Fields[j]=f at ex hm
    obtain ⟨k,e1,e2⟩:=a0W (hf f hm)
    have hkb:=hk f hm
    have skip:∀ u,OS L u->∃ (g':List Key×List Val) (s':Semtypebase_Source),(some (Fl.next (g.1,g.2,w64 ((j:Int)+1),u)):Option (Fl (List Key×List Val×Int×Semtypebase_Source) (List Key×List Val×Semtypebase_Source)))=some (.next (g'.1,g'.2,((j+1:Nat):Int),s'))/\OS L s'/\(g'.1.length<=j+1/\g'.2.length<=j+1/\w5 g'.1<=(j+1)*8/\k9 g'.2<=(j+1)*b):=fun u hu=>by
     rw [j9 j (by omega)]
     exact ⟨(g.1,g.2),u,rfl,hu,Nat.le_succ_of_le hI.1,Nat.le_succ_of_le hI.2.1,Nat.le_trans hI.2.2.1 (Nat.mul_le_mul_right _ (Nat.le_succ _)),Nat.le_trans hI.2.2.2 (Nat.mul_le_mul_right _ (Nat.le_succ _))⟩
    have take:∀ u,OS L u->∃ (g':List Key×List Val) (s':Semtypebase_Source),(Option.bind (Option.bind (Y1 (g.1.length+([f.Key_]:List Key).length) 24) fun _=>Option.bind (rN u t f.Node (h:Int)) fun r8=>Option.bind (Y1 (g.2.length+([r8.1]:List Val).length) 128) fun _=>some (g.1++([f.Key_]:List Key),g.2++([r8.1]:List Val),r8.2)) fun b10 =>
     (some (Fl.next (b10.1,b10.2.1,w64 ((j:Int)+1),b10.2.2)):Option (Fl (List Key×List Val×Int×Semtypebase_Source) (List Key×List Val×Semtypebase_Source))))=some (.next (g'.1,g'.2,((j+1:Nat):Int),s'))/\OS L s'/\(g'.1.length<=j+1/\g'.2.length<=j+1/\w5 g'.1<=(j+1)*8/\k9 g'.2<=(j+1)*b):=fun u hu=>by
     obtain ⟨v,u2,e3,hu2,_,hv⟩:=hd k u e2 hu
     rw [Q9 (by simp only [List.length_cons,List.length_nil]; have:=hI.1; omega),e1,e3]
     simp only [Option.bind_some]
     rw [Q9 (by simp only [List.length_cons,List.length_nil]; have:=hI.2.1; omega),j9 j (by omega)]
     refine ⟨(g.1++[f.Key_],g.2++[v]),u2,rfl,hu2,?_,?_,?_,?_⟩
     ·simp only [List.length_append,List.length_cons,List.length_nil]; have:=hI.1; omega
     ·simp only [List.length_append,List.length_cons,List.length_nil]; have:=hI.2.1; omega
     ·rw [a6z]; simp only [w5]; have:=hI.2.2.1; omega
     ·rw [a1v,Nat.add_mul]; simp only [k9]; have:=hI.2.2.2; omega
    unfold a0s
    simp only [Z2,hw]
    rw [Z0 hj,j6 ex]
    simp only [cond_true,Option.bind_some]
    cases hO:f.Optional
    ·simp only [cond_false,Option.bind_some]
     exact take s hs
    ·simp only [cond_true]
     obtain ⟨z,u,e4,hu,_,_⟩:=Y2 hL hs (n:=2) (by omega) (by omega)
     rw [e4]
     simp only [Option.bind_some]
     cases hz:z==1
     ·simp only [cond_false]
      exact take u hu
     ·simp only [cond_true,Option.bind_some]
      exact skip u hu) (fun g s=>by
    unfold a0s
    simp) x.Fields.length 0 (x.Fields.length+1) ([],[]) s (by omega) (Nat.le_refl _) ⟨Nat.le_refl _,Nat.le_refl _,by simp [w5],by simp [k9]⟩ hs
 refine ⟨g.1,g.2,u,e,hu,by omega,by omega,by omega,Nat.le_trans h4 (Nat.mul_le_mul_right _ hl)⟩
end
end Go.Pl
namespace Go.Pl
open Go Go.RowKit Go.Sx Go.Qx
structure GT (t:Api_Type):Prop where
 len:t.Nodes.length<=10
 nodes:GNs t.Nodes.length t.Nodes
def DB:Nat->Nat
 | 0=>300
 | h+1=>700+8*DB h
theorem c5U {h:Nat}(hh:h<=4):DB h<=1638300:=by
 match h,hh with
 | 0,_=>decide
 | 1,_=>decide
 | 2,_=>decide
 | 3,_=>decide
 | 4,_=>decide
theorem d1s {h:Nat}(hh:h<=3):DB h<=204700:=by
 match h,hh with
 | 0,_=>decide
 | 1,_=>decide
 | 2,_=>decide
 | 3,_=>decide
theorem c6y (h:Nat):300<=DB h:=by cases h<;>simp [DB]; omega
theorem c2h (x:Val):∀ (l:List Val) (i:Nat),k9 (l.set i x)<=k9 l+k8 x
 | [],_=>by simp [k9]
 | y::r,0=>by simp only [List.set_cons_zero,k9]; omega
 | y::r,i+1=>by have:=c2h x r i; simp only [List.set_cons_succ,k9]; omega
theorem c8y (k n:Int)(s:ByteArray)(a:List Val)(b:List Key)(c:List Ent)(l m:List ByteArray)(q:Nat)(h:J3 m<=J3 l+q):k8 (Val.mk k n s a b c m)<=k8 (Val.mk k n s a b c l)+q:=by
 simp only [k8]; omega
theorem c3J {t:Api_Type}(hT:GT t){i:Nat}{x:Api_TypeNode}(hx:t.Nodes[i]?=some x)(v:Val)(hv:k8 v<=2000000):∃ w,y4 (V6 t x) (x.Kids.length+1) (0,v)=some w/\k8 w<=k8 v+x.Kids.length*6:=by
 have hg:=hT.nodes i x hx
 have key:∀ (m a k:Nat) (w:Val),a+m=x.Kids.length->m+1<=k->k8 w<=k8 v+a*6->∃ w',y4 (V6 t x) k ((a:Int),w)=some w'/\k8 w'<=k8 v+x.Kids.length*6:=by
  intro m
  induction m with
  | zero =>
    intro a k w h1 h2 h3
    obtain ⟨k,rfl⟩:∃ m,k=m+1:=⟨k-1,by omega⟩
    have e:a=x.Kids.length:=by omega
    subst e
    have:V6 t x ((x.Kids.length:Int),w)=some (.done w):=by
     unfold V6
     simp
    exact ⟨w,by simp only [y4,this,Option.bind_some],h3⟩
  | succ m ih =>
    intro a k w h1 h2 h3
    obtain ⟨k,rfl⟩:∃ m,k=m+1:=⟨k-1,by omega⟩
    have ha:a<x.Kids.length:=by omega
    have hk4:=hg.kids
    obtain ⟨j,e1,_,hj⟩:=b6T hg.ok ha
    have e2:=List.getElem?_eq_getElem hj
    generalize t.Nodes[j]=y at e2
    have hy:=(hT.nodes j y e2).text
    have step:∃ w',V6 t x ((a:Int),w)=some (.next (((a+1:Nat):Int),w'))/\k8 w'<=k8 w+6:=by
     unfold V6
     simp only [Z2]
     rw [Z0 ha,e1]
     simp only [cond_true,Option.bind_some]
     rw [j6 e2]
     simp only [Option.bind_some]
     rw [j9 a (by omega)]
     cases hc:y.Kind==19
     ·simp only [cond_false,Option.bind_some]
      exact ⟨w,rfl,by omega⟩
     ·simp only [cond_true]
      obtain ⟨kk,n,s,kids,keys,ents,labs⟩:=w
      simp only [Val.Labels,Val.Kind,Val.Int_,Val.Text,Val.Kids,Val.Keys,Val.Entries]
      have hlab:labs.length<=k8 (Val.mk kk n s kids keys ents labs):=by
       have:=a4d labs
       simp only [k8]; omega
      rw [Q9 (by omega),Q9 (by simp only [List.length_cons,List.length_nil]; omega)]
      simp only [Option.bind_some]
      rw [c1e (labs++[y.Text]) (by simp only [List.length_append,List.length_cons,List.length_nil]; omega)]
      refine ⟨_,rfl,c8y _ _ _ _ _ _ _ _ 6 ?_⟩
      have h4:=b5X (labs++[y.Text]) []
      rw [b1b] at h4
      simp only [J3,a3m] at h4
      omega
    obtain ⟨w',e3,h5⟩:=step
    simp only [y4,e3,Option.bind_some]
    exact ih (a+1) k w' (by omega) (by omega) (by omega)
 exact key x.Kids.length 0 (x.Kids.length+1) v (by omega) (Nat.le_refl _) (by omega)
theorem c51 {ks:List Key}{vs:List Val}{u:List Val×List Key}(h:a5Y (ks.zip vs) ([],[])=some u):k8 (b3K u)<=8+w5 ks+k9 vs:=by
 obtain ⟨_,_,_,_,_,m⟩:=b1h (ks.zip vs) ([],[]) u h rfl rfl
 have hz:=b61 ks vs
 simp only [k9,w5] at m
 simp only [b3K,V3,a25,w9]
 omega
section
variable {L:List Int}{t:Api_Type}
theorem c8k (hL:L.length<=4194304){b h:Nat}{rN}(hd:a7X L t t.Nodes.length b h rN)(hb:8<=b)(hb2:b<=300000)(hh:h<=10){i:Nat}{x:Api_TypeNode}(hg:GN t.Nodes.length i x)(hk:x.Kind=13){s:Semtypebase_Source}(hs:OS L s)(f:Nat)(r1:Semtypebase_Source->Api_Type->Int->Int->Option (Val×Semtypebase_Source))(r2 r3:Semtypebase_Source->Api_Type->Api_TypeNode->Int->Option (Val×Semtypebase_Source)) :
 ∃ v u,a2T f rN r1 r2 r3 s t x ((h:Int)+1)=some (v,u)/\OS L u/\k8 v<=100+4*b:=by
 have hw:w64 ((h:Int)+1-1)=(h:Int):=by rw [K1 (by omega) (by omega)]; omega
 have hn:=hg.ok
 unfold V9 a3q a55 at hn
 simp only [hk] at hn
 simp only [Bool.and_eq_true] at hn
 have hn2:=hn.2.2.2.2
 simp at hn2
 obtain ⟨⟨_,_,hfn⟩,_,hr0,hr1⟩:=hn2
 obtain ⟨ks,vs,u,e,hu,l1,l2,b1,b2⟩:=c3Q hL hd hfn hg.keys hg.flds hh hs
 obtain ⟨k0,hk0,hk0'⟩:=a0W hr0
 obtain ⟨k1,hk1,hk1'⟩:=a0W hr1
 unfold a2T
 rw [Z5,e]
 simp only [Option.bind_some]
 obtain ⟨z,u2,e2,hu2,_,_⟩:=Y2 hL hu (n:=2) (by omega) (by omega)
 rw [e2]
 simp only [Option.bind_some,Z2,hw]
 have fin:∀ (ks:List Key) (vs:List Val) (u3:Semtypebase_Source),ks.length<=4->OS L u3->w5 ks<=40->k9 vs<=4*b->∃ v u,(Option.bind (a2k ks vs) fun r20=>bif r20.2 != 0 then (Option.bind (X3) fun r21=>some (r21,u3)) else (some (r20.1,u3)))=some (v,u)/\OS L u/\k8 v<=100+4*b:=fun ks vs u3 q1 hu3 q2 q3=>by
  rw [b9j ks vs (by omega)]
  have nilb:k8 (Val.mk 5 0 (⟨#[]⟩:ByteArray) ([]:List Val) ([]:List Key) ([]:List Ent) ([]:List ByteArray))<=100+4*b:=by
   rw [V3]; simp only [a25,k9,w5,w9]; omega
  by_cases hc:ks.length=vs.length/\ks.all X4=true
  ·rw [if_pos hc]
   cases hm:a5Y (ks.zip vs) ([],[]) with
   | none=>exact ⟨_,u3,rfl,hu3,nilb⟩
   | some t =>
     have:=c51 hm
     exact ⟨b3K t,u3,rfl,hu3,by omega⟩
  ·rw [if_neg hc]
   exact ⟨_,u3,rfl,hu3,nilb⟩
 have other:∀ (z:Int) (kk:Nat) (u4:Semtypebase_Source),kk<t.Nodes.length->OS L u4->∃ v u,(Option.bind (Option.bind (rN u4 t (kk:Int) (h:Int)) fun r15=>Option.bind (Y1 (vs.length+([r15.1]:List Val).length) 128) fun _=>some (ks++([Key.mk z (⟨#[111,116,104,101,114]⟩:ByteArray)]:List Key),vs++([r15.1]:List Val),r15.2)) fun b19 =>
  Option.bind (a2k b19.1 b19.2.1) fun r20=>bif r20.2 != 0 then (Option.bind (X3) fun r21=>some (r21,b19.2.2)) else (some (r20.1,b19.2.2)))=some (v,u)/\OS L u/\k8 v<=100+4*b:=fun z kk u4 hkk hu4=>by
  obtain ⟨v,u5,e5,hu5,_,hv⟩:=hd kk u4 hkk hu4
  rw [e5]
  simp only [Option.bind_some]
  rw [Q9 (by simp only [List.length_cons,List.length_nil]; omega)]
  simp only [Option.bind_some]
  refine fin _ _ u5 (by simp only [List.length_append,List.length_cons,List.length_nil]; omega) hu5 ?_ ?_
  ·rw [a6z]
   have:w5 ([Key.mk z (⟨#[111,116,104,101,114]⟩:ByteArray)]:List Key)<=10:=by
    simp only [w5,a56,a3m]
    decide
   omega
  ·rw [a1v]; simp only [k9]; omega
 cases hz:z==1
 ·simp only [cond_false,Option.bind_some]
  exact fin ks vs u2 (by omega) hu2 (by omega) (by omega)
 ·simp only [cond_true]
  obtain ⟨y,u3,e3,hu3,y0,y1⟩:=Y2 hL hu2 (n:=2) (by omega) (by omega)
  rw [e3]
  simp only [Option.bind_some]
  rw [Q9 (by simp only [List.length_cons,List.length_nil]; omega)]
  simp only [Option.bind_some]
  have hy:y=0\/y=1:=by omega
  rcases hy with rfl | rfl
  ·simp only [Int.reduceBEq,cond_true]
   rw [hk0]
   exact other 0 k0 u3 hk0' hu3
  ·simp only [Int.reduceBEq,cond_true,cond_false]
   rw [hk1]
   exact other 1 k1 u3 hk1' hu3
theorem c8H (hL:L.length<=4194304){b h:Nat}{rN}(hd:a7X L t t.Nodes.length b h rN)(hb:8<=b)(hb2:b<=300000)(hh:h<=10){i:Nat}{x:Api_TypeNode}(hg:GN t.Nodes.length i x)(hk:x.Kind=14){s:Semtypebase_Source}(hs:OS L s)(f:Nat)(hf:9000000<=f)(r1:Semtypebase_Source->Api_Type->Int->Int->Option (Val×Semtypebase_Source))(r2 r3:Semtypebase_Source->Api_Type->Api_TypeNode->Int->Option (Val×Semtypebase_Source)) :
 ∃ v u,a1U f rN r1 r2 r3 s t x ((h:Int)+1)=some (v,u)/\OS L u/\k8 v<=100+8*b:=by
 have hn:=hg.ok
 unfold V9 a3q at hn
 simp only [hk] at hn
 simp only [Bool.and_eq_true] at hn
 have hn2:=hn.2.2.2.2
 simp at hn2
 have hk4:=hg.kids
 have h1l:1<=x.Kids.length:=by omega
 obtain ⟨m,u,e,hu,m0,m1⟩:=Y2 hL hs (n:=3) (by omega) (by omega)
 obtain ⟨m,rfl⟩:=b1S m0
 obtain ⟨es,u2,e2,hu2,hbe⟩:=c6D hL hd hb hg.ok hk4 h1l hh m (by omega) hu
 unfold a1U
 rw [e]
 simp only [Option.bind_some]
 rw [e2]
 simp only [Option.bind_some]
 have hbe2:w9 es<=2*(4*b+3):=Nat.le_trans hbe (Nat.mul_le_mul_right _ (by omega))
 rw [b2O f _ es (by omega) (by omega)]
 have hfb:=a9j es []
 simp only [w9] at hfb
 by_cases hc:0<=(wr .i64 ((x.Kids.length:Int)-1))/\(wr .i64 ((x.Kids.length:Int)-1))<=4/\es.all (a2I (wr .i64 ((x.Kids.length:Int)-1)))=true
 ·rw [if_pos hc]
  refine ⟨_,u2,rfl,hu2,?_⟩
  simp only [b6G,V3,a25,k9,w5]
  omega
 ·rw [if_neg hc]
  refine ⟨_,u2,rfl,hu2,?_⟩
  rw [V3]; simp only [a25,k9,w5,w9]; omega
end
end Go.Pl
namespace Go.Pl
open Go Go.RowKit Go.Sx Go.Qx
section
variable {L:List Int}{t:Api_Type}
def c0d (L:List Int)(t:Api_Type)(h:Nat):Prop:=∀ (k f:Nat) (s:Semtypebase_Source),k<t.Nodes.length->9000000+14*h+(10-k)<=f->OS L s ->
 ∃ v u,(z7 f).2.1 s t (k:Int) (h:Int)=some (v,u)/\OS L u/\k8 v+24*k<=DB h
theorem b9C (hL:L.length<=4194304)(hT:GT t){h:Nat}(hh:h<=4)(hP:c0d L t h)(f:Nat)(hf:9000000+14*h+11<=f):a7X L t t.Nodes.length (DB h) h (z7 f).1:=by
 intro k s hk hs
 obtain ⟨f,rfl⟩:∃ m,f=m+1:=⟨f-1,by omega⟩
 obtain ⟨v,u,e,hu,hb⟩:=hP k f s hk (by omega) hs
 have hD:=c5U hh
 show ∃ v u,a3M f (z7 f).1 (z7 f).2.1 (z7 f).2.2.1 (z7 f).2.2.2 s t (k:Int) (h:Int)=some (v,u)/\_
 unfold a3M
 rw [e]
 simp only [Option.bind_some]
 rw [b1E f v (by omega) (by omega)]
 simp only [Option.bind_some]
 cases hv:vOK v
 ·obtain ⟨w,u2,e2,hu2,h1,h2⟩:=b4N hL hu
  have:=c6y h
  simp only [Bool.not_false,cond_true]
  rw [e2]
  exact ⟨w,u2,rfl,hu2,h1,by omega⟩
 ·exact ⟨v,u,rfl,hu,hv,by omega⟩
theorem d0o (hL:L.length<=4194304)(hT:GT t):c0d L t 0:=by
 intro k f s hk hf hs
 obtain ⟨f,rfl⟩:∃ m,f=m+1:=⟨f-1,by omega⟩
 obtain ⟨v,u,e,hu,_,hb⟩:=b4N hL hs
 refine ⟨v,u,?_,hu,by have:=hT.len; simp only [DB]; omega⟩
 show a09 f (z7 f).1 (z7 f).2.1 (z7 f).2.2.1 (z7 f).2.2.2 s t (k:Int) ((0:Nat):Int)=some (v,u)
 unfold a09
 have e0:decide (((0:Nat):Int)<=0)=true:=rfl
 rw [e0]
 simp only [cond_true,Option.bind_some]
 rw [e]
 rfl
theorem c6J (hL:L.length<=4194304)(hT:GT t){h:Nat}(hh:h<=3)(hP:c0d L t h):c0d L t (h+1):=by
 have key:∀ (d k f:Nat) (s:Semtypebase_Source),t.Nodes.length-k<=d->k<t.Nodes.length->9000000+14*(h+1)+(10-k)<=f->OS L s ->
  ∃ v u,(z7 f).2.1 s t (k:Int) ((h:Int)+1)=some (v,u)/\OS L u/\k8 v+24*k<=DB (h+1):=by
  intro d
  induction d with
  | zero=>intro k f s h1 h2; omega
  | succ d ih =>
    intro k f s hd hk hf hs
    obtain ⟨f,rfl⟩:∃ m,f=m+1:=⟨f-1,by omega⟩
    have hlen:=hT.len
    have hD:=d1s hh
    have hDp:=c6y h
    have ex:=List.getElem?_eq_getElem hk
    generalize t.Nodes[k]=x at ex
    have hg:=hT.nodes k x ex
    have hn:=hg.ok
    have small:∀ {n:Nat},n<=440+8*DB h->n+24*k<=DB (h+1):=fun hn=>by simp only [DB]; omega
    show ∃ v u,a09 f (z7 f).1 (z7 f).2.1 (z7 f).2.2.1 (z7 f).2.2.2 s t (k:Int) ((h:Int)+1)=some (v,u)/\_
    have hQ:=b9C hL hT (show h<=4 by omega) hP f (by omega)
    unfold a09
    have q0:decide ((h:Int)+1<=0)=false:=decide_eq_false (by omega)
    have q1:decide ((k:Int)<0)=false:=decide_eq_false (by omega)
    have q2:decide ((t.Nodes.length:Int)<=(k:Int))=false:=decide_eq_false (by omega)
    rw [q0,q1,q2,j6 ex]
    simp only [cond_false,Option.bind_some]
    have kid:∀ (s:Semtypebase_Source),OS L s->isB x=true->1<=x.Kids.length->∃ (z:Int) (u:Semtypebase_Source) (k':Nat) (v:Val) (u':Semtypebase_Source),y2 s (x.Kids.length:Int)=some (z,u)/\idx x.Kids z=some (k':Int) /\
     (z7 f).2.1 u t (k':Int) ((h:Int)+1)=some (v,u')/\OS L u'/\k8 v+24*(k+1)<=DB (h+1):=fun s hs hb h1=>by
     have h4:=hg.kids
     obtain ⟨z,u,e,hu,z0,z1⟩:=Y2 hL hs (n:=(x.Kids.length:Int)) (by omega) (by omega)
     obtain ⟨z,rfl⟩:=b1S z0
     obtain ⟨k',e1,e2,hk'⟩:=b6T hn (show z<x.Kids.length by omega)
     have hlt:=hg.ord hb _ (List.mem_of_getElem? e2)
     obtain ⟨v,u',e3,hu',hbv⟩:=ih k' f u (by omega) hk' (by omega) hu
     exact ⟨z,u,k',v,u',e,e1,e3,hu',by omega⟩
    have other:∃ v u,(Option.bind (a2q f s 2) fun r52=>some (r52.1,r52.2))=some (v,u)/\OS L u/\k8 v+24*k<=DB (h+1):=by
     obtain ⟨v,u,e,hu,_,hb⟩:=c9m hL 1 f (by omega) (by omega) s hs
     have e':a2q f s 2=some (v,u):=e
     rw [e']
     exact ⟨v,u,rfl,hu,small (by have:Go.Pl.hb 1=320:=rfl; omega)⟩
    have hKinds:=a8E x.Kind
    rcases hKinds with hK | hK
    ·have kt:=hn
     unfold V9 a3q at kt
     rcases hK with hK | hK | hK | hK | hK | hK | hK | hK | hK | hK | hK | hK | hK | hK | hK | hK | hK | hK | hK<;>simp only [hK] at kt ⊢<;>simp only [Int.reduceBEq,cond_true,cond_false,Option.bind_some]
     ·exact other
     ·exact other
     ·have qd:∀ a:Int,b4V .i64 a 2=some (wr .i64 (a.tdiv 2)):=fun a=>rfl
      rw [qd,qd]
      simp only [Option.bind_some]
      obtain ⟨z,u,e,hu,z0,z1⟩:=Y2 hL hs (n:=3) (by omega) (by omega)
      rw [e]
      simp only [Option.bind_some]
      generalize wr .i64 (x.Lo+(wr .i64 ((wr .i64 (x.Hi.tdiv 2))-(wr .i64 (x.Lo.tdiv 2)))))=mid
      obtain ⟨y,ey,eg,_⟩:=b4x ([x.Lo,x.Hi,mid]:List Int) z0 (by simpa using z1)
      rw [ey,eg]
      refine ⟨_,u,rfl,hu,small ?_⟩
      rw [V3]; simp only [a25,k9,w5,w9]; omega
     ·refine ⟨_,s,rfl,hs,small ?_⟩
      have:=hg.text
      rw [V3]; simp only [k9,w5,w9]; omega
     ·obtain ⟨w,u,e,hu,hw⟩:=b7W hL hs
      have hw2:=List.all_eq_true.1 b0S w hw
      simp only [decide_eq_true_eq] at hw2
      rw [e]
      refine ⟨_,u,rfl,hu,small ?_⟩
      rw [V3]; simp only [k9,w5,w9]; omega
     ·refine ⟨_,s,rfl,hs,small ?_⟩
      have:=hg.text
      rw [V3]; simp only [k9,w5,w9]; omega
     ·obtain ⟨w,u,e,hu,hw⟩:=a9z hL hs
      have hw2:=List.all_eq_true.1 b0K w hw
      simp only [Bool.and_eq_true,decide_eq_true_eq] at hw2
      rw [e]
      refine ⟨_,u,rfl,hu,small ?_⟩
      rw [V3]; simp only [k9,w5,w9]; omega
     ·obtain ⟨z,u,e,hu,z0,z1⟩:=Y2 hL hs (n:=2) (by omega) (by omega)
      rw [e]
      refine ⟨_,u,rfl,hu,small ?_⟩
      rw [V3]; simp only [a25,k9,w5,w9]; omega
     ·refine ⟨_,s,rfl,hs,small ?_⟩
      rw [V3]; simp only [a25,k9,w5,w9]; omega
     ·obtain ⟨g,u,e,hu,hl,hb⟩:=b91 hQ hn hg.kids (by omega) hs
      rw [Z5,e]
      refine ⟨_,u,rfl,hu,small ?_⟩
      have h4:=hg.kids
      have:x.Kids.length*DB h<=4*DB h:=Nat.mul_le_mul_right _ h4
      rw [V3]; simp only [a25,w5,w9]; omega
     ·exact other
     ·obtain ⟨g,u,e,hu,hl,hb⟩:=b91 hQ hn hg.kids (by omega) hs
      rw [Z5,e]
      simp only [Option.bind_some]
      have h4:=hg.kids
      have h2:x.Kids.length=2:=by
       simp only [Bool.and_eq_true] at kt
       have:=kt.2.2.2.2
       simp at this
       omega
      have hgl:1<g.length:=by omega
      have eg:=List.getElem?_eq_getElem hgl
      generalize g[1]=w at eg
      have ei:idx g 1=some w:=j6 (i:=1) eg
      have e1:(1:Int).toNat=1:=rfl
      rw [ei,e1,eg]
      simp only [Option.bind_some]
      have:x.Kids.length*DB h<=4*DB h:=Nat.mul_le_mul_right _ h4
      cases hw:w.Kind != 7
      ·simp only [cond_false,Option.bind_some]
       refine ⟨_,u,rfl,hu,small ?_⟩
       rw [V3]; simp only [a25,w5,w9]; omega
      ·simp only [cond_true]
       refine ⟨_,u,rfl,hu,small ?_⟩
       have hs:=c2h (Val.mk 5 0 (⟨#[]⟩:ByteArray) [] [] [] []) g 1
       rw [V3] at hs
       simp only [a25,k9,w5,w9] at hs
       rw [V3]; simp only [a25,w5,w9]; omega
     ·obtain ⟨f,rfl⟩:∃ m,f=m+1:=⟨f-1,by omega⟩
      have hQ2:=b9C hL hT (show h<=4 by omega) hP f (by omega)
      obtain ⟨v,u,e,hu,hb⟩:=c8k hL hQ2 (by omega) (by omega) (by omega) hg hK hs f (z7 f).2.1 (z7 f).2.2.1 (z7 f).2.2.2
      have e':(z7 (f+1)).2.2.2 s t x ((h:Int)+1)=some (v,u):=e
      rw [e']
      exact ⟨v,u,rfl,hu,small (by omega)⟩
     ·obtain ⟨f,rfl⟩:∃ m,f=m+1:=⟨f-1,by omega⟩
      have hQ2:=b9C hL hT (show h<=4 by omega) hP f (by omega)
      obtain ⟨v,u,e,hu,hb⟩:=c8H hL hQ2 (by omega) (by omega) (by omega) hg hK hs f (by omega) (z7 f).2.1 (z7 f).2.2.1 (z7 f).2.2.2
      have e':(z7 (f+1)).2.2.1 s t x ((h:Int)+1)=some (v,u):=e
      rw [e']
      exact ⟨v,u,rfl,hu,small (by omega)⟩
     ·exact other
     ·have h1:1<=x.Kids.length:=by
       simp only [Bool.and_eq_true] at kt
       have:=kt.2.2.2.2
       simp at this
       omega
      obtain ⟨z,u,k',v,u',e1,e2,e3,hu',hb⟩:=kid s hs (by unfold isB; rw [hK]; rfl) h1
      rw [e1]
      simp only [Option.bind_some]
      rw [e2]
      simp only [Option.bind_some]
      rw [e3]
      exact ⟨v,u',rfl,hu',by omega⟩
     ·have h1:1<=x.Kids.length:=by
       simp only [Bool.and_eq_true] at kt
       have:=kt.2.2.2.2
       simp at this
       omega
      obtain ⟨z,u,k',v,u',e1,e2,e3,hu',hb⟩:=kid s hs (by unfold isB; rw [hK]; rfl) h1
      rw [e1]
      simp only [Option.bind_some]
      rw [e2]
      simp only [Option.bind_some]
      rw [e3]
      simp only [Option.bind_some]
      have hD2:=c5U (show h+1<=4 by omega)
      obtain ⟨w,e4,hb4⟩:=c3J hT ex v (by omega)
      rw [Z5,e4]
      have h4:=hg.kids
      exact ⟨w,u',rfl,hu',by omega⟩
     ·exact other
     ·obtain ⟨v,u,e,hu,_,hb⟩:=b4N hL hs
      rw [e]
      simp only [Option.bind_some]
      unfold a4Z
      rw [c1e [x.Text] (by simp)]
      refine ⟨_,u,rfl,hu,small ?_⟩
      have h5:=hg.text
      have h6:=b5X [x.Text] []
      simp only [J3,a3m] at h6
      have h7:=a6N v (List.foldl (a3w cS) [] [x.Text])
      unfold a65 at h7
      show k8 (Val.mk v.Kind v.Int_ v.Text v.Kids v.Keys v.Entries (List.foldl (a3w cS) [] [x.Text]))<=_
      omega
    ·have e:∀ n:Int,1<=n->n<=19->¬ x.Kind=n:=fun n h1 h2=>by simpa using hK n h1 h2
     unfold V9 a3q at hn
     rw [if_neg (e 3 (by omega) (by omega)),if_neg (e 4 (by omega) (by omega)),if_neg (e 6 (by omega) (by omega)),if_neg (e 19 (by omega) (by omega)),if_neg (by have:=e 1 (by omega) (by omega); have:=e 2 (by omega) (by omega); have:=e 5 (by omega) (by omega); have:=e 7 (by omega) (by omega); have:=e 8 (by omega) (by omega); have:=e 9 (by omega) (by omega); have:=e 11 (by omega) (by omega); have:=e 15 (by omega) (by omega); omega),
      if_neg (e 10 (by omega) (by omega)),if_neg (e 12 (by omega) (by omega)),if_neg (e 14 (by omega) (by omega)),if_neg (by have:=e 16 (by omega) (by omega); have:=e 17 (by omega) (by omega); omega),if_neg (e 18 (by omega) (by omega)),if_neg (e 13 (by omega) (by omega))] at hn
     simp at hn
 intro k f s hk hf hs
 exact key t.Nodes.length k f s (by omega) hk hf hs
theorem c2A (hL:L.length<=4194304)(hT:GT t):∀ h:Nat,h<=4->c0d L t h
 | 0,_=>d0o hL hT
 | h+1,hh=>c6J hL hT (by omega) (c2A hL hT h (by omega))
theorem c9P (hL:L.length<=4194304)(hT:GT t)(f:Nat)(hf:10000000<=f)(h:Nat)(hh:h<=4):a7X L t t.Nodes.length 1638300 h (a2K f):=fun k s hk hs=>by
 obtain ⟨v,u,h1,h2,h3,h4⟩:=b9C hL hT hh (c2A hL hT h hh) f (by omega) k s hk hs
 exact ⟨v,u,h1,h2,h3,Nat.le_trans h4 (c5U hh)⟩
end
end Go.Pl
end
section
namespace Go.Pl
open Go Go.RowKit Go.Sx Go.Qx
theorem a50 {α β:Type}{step:Int->Option (Fl Int (Sum Unit β))}(xs:List α)(p:α->Bool)(out:Nat->α->β)
 (hst:∀ (i:Nat) (x:α),xs[i]?=some x->step (i:Int)=some (if p x=true then .done (.inr (out i x)) else .next ((i+1:Nat):Int)))
 (hend:step (xs.length:Int)=some (.done (.inl ()))) :
 (∃ i x,xs[i]?=some x/\p x=true/\(∀ j,j<i->∀ y,xs[j]?=some y->p y=false)/\y4 step (xs.length+1) 0=some (.inr (out i x)))\/(xs.any p=false/\y4 step (xs.length+1) 0=some (.inl ())):=by
 have key:∀ (m a k:Nat),a+m=xs.length->m+1<=k->(∀ j,j<a->∀ y,xs[j]?=some y->p y=false) ->
  (∃ i x,xs[i]?=some x/\p x=true/\(∀ j,j<i->∀ y,xs[j]?=some y->p y=false)/\y4 step k (a:Int)=some (.inr (out i x)))\/(xs.any p=false/\y4 step k (a:Int)=some (.inl ())):=by
  intro m
  induction m with
  | zero =>
    intro a k h1 h2 h3
    obtain ⟨k,rfl⟩:∃ m,k=m+1:=⟨k-1,by omega⟩
    have e:a=xs.length:=by omega
    subst e
    refine .inr ⟨?_,by simp only [y4,hend,Option.bind_some]⟩
    rw [List.any_eq_false]
    intro x hx
    obtain ⟨j,hj,rfl⟩:=List.getElem_of_mem hx
    have:=h3 j hj _ (List.getElem?_eq_getElem hj)
    simp [this]
  | succ m ih =>
    intro a k h1 h2 h3
    obtain ⟨k,rfl⟩:∃ m,k=m+1:=⟨k-1,by omega⟩
    have ha:a<xs.length:=by omega
    have ex:=List.getElem?_eq_getElem ha
    have hs:=hst a _ ex
    cases hp:p xs[a] with
    | true =>
      rw [if_pos hp] at hs
      exact .inl ⟨a,xs[a],ex,hp,h3,by simp only [y4,hs,Option.bind_some]⟩
    | false =>
      rw [if_neg (by simp [hp])] at hs
      simp only [y4,hs,Option.bind_some]
      refine ih (a+1) k (by omega) (by omega) fun j hj y hy=>?_
      by_cases hja:j=a
      ·subst hja
       rw [ex] at hy
       cases hy
       exact hp
      ·exact h3 j (by omega) y hy
 exact key xs.length 0 (xs.length+1) (by omega) (Nat.le_refl _) (fun j hj=>by omega)
theorem a9M {α:Type}{xs:List α}{p:α->Bool}{i:Nat}{x:α}(h:xs[i]?=some x)(hp:p x=true):xs.any p=true:=List.any_eq_true.2 ⟨x,List.mem_of_getElem? h,hp⟩
theorem d2j:decide ((0:Int) <= -1)=false:=rfl
theorem c06 (i:Nat):decide ((0:Int)<=(i:Int))=true:=decide_eq_true (by omega)
theorem c7n (a b:Key):a0Q a b=a0Q b a:=by
 rw [Bool.eq_iff_iff,b60,b60,c0z a b]
 omega
theorem c6l (a b:ByteArray):Q4 a b=Q4 b a:=by
 rw [b83,b83]
 have:cS b a = - cS a b:=d2l.anti a b
 by_cases h:cS a b=0
 ·simp [h,this]
 ·have h2:¬ cS b a=0:=by omega
  simp [h,h2]
theorem c1Z (a b:Key):a3n a b=a0Q a b:=rfl
theorem c3Y (l:List Key)(k:Key)(hl:l.length<=4194304):a0V l k=some (l.any fun y=>a0Q y k):=by
 unfold a0V a2R
 rw [Z5]
 rcases a50 (step:=a0U l k) l (fun y=>a0Q y k) (fun i _=>(i:Int)) (fun i x hx=>by
  have hi:i<l.length:=(List.getElem?_eq_some_iff.1 hx).1
  unfold a0U
  rw [Z0 hi,j6 hx]
  simp only [cond_true,Option.bind_some,c1Z,Z2]
  rw [j9 i (by omega),c7n k x]
  cases a0Q x k<;>rfl) (by
  unfold a0U
  simp) with ⟨i,x,hx,hp,_,e⟩ | ⟨h,e⟩
 ·rw [e,a9M hx hp]
  simp only [Option.bind_some,k7,c06]
 ·rw [e,h]
  rfl
theorem c5G (l:List ByteArray)(k:ByteArray)(hl:l.length<=4194304):a1g l k=some (l.any fun y=>Q4 y k):=by
 unfold a1g a3s
 rw [Z5]
 rcases a50 (step:=a1h l k) l (fun y=>Q4 y k) (fun i _=>(i:Int)) (fun i x hx=>by
  have hi:i<l.length:=(List.getElem?_eq_some_iff.1 hx).1
  unfold a1h
  rw [Z0 hi,j6 hx]
  simp only [cond_true,Option.bind_some,Z2]
  rw [j9 i (by omega),c6l k x]
  cases Q4 x k<;>rfl) (by
  unfold a1h
  simp) with ⟨i,x,hx,hp,_,e⟩ | ⟨h,e⟩
 ·rw [e,a9M hx hp]
  simp only [Option.bind_some,k7,c06]
 ·rw [e,h]
  rfl
theorem a8w (l:List Int)(f:Int->Option Bool)(p:Int->Bool)(hl:l.length<=4194304)(hf:∀ x∈l,f x=some (p x)):Y9 l f=some (l.any p):=by
 unfold Y9 a4f
 rw [Z5]
 rcases a50 (step:=a1J l f) l p (fun i _=>(i:Int)) (fun i x hx=>by
  have hi:i<l.length:=(List.getElem?_eq_some_iff.1 hx).1
  unfold a1J
  rw [Z0 hi,j6 hx]
  simp only [cond_true,Option.bind_some,Z2]
  rw [j9 i (by omega),hf x (List.mem_of_getElem? hx)]
  cases p x<;>rfl) (by
  unfold a1J
  simp) with ⟨i,x,hx,hp,_,e⟩ | ⟨h,e⟩
 ·rw [e,a9M hx hp]
  simp only [Option.bind_some,k7,c06]
 ·rw [e,h]
  rfl
def b5N (x:Api_TypeNode)(k:Key):Int:=if k.Kind=0 then x.Rest.1 else x.Rest.2
def atM (x:Api_TypeNode)(k:Key):Int:=match x.Fields.find? (fun f=>a0Q f.Key_ k) with
 | some f=>f.Node
 | none=>b5N x k
theorem c0s {α:Type}{p:α->Bool}:∀ {l:List α} {i:Nat} {x:α},l[i]?=some x->p x=true->(∀ j,j<i->∀ y,l[j]?=some y->p y=false)->l.find? p=some x
 | [],_,_,h,_,_=>by simp at h
 | y::r,0,x,h,hp,_=>by
   simp at h
   subst h
   simp [hp]
 | y::r,i+1,x,h,hp,hn=>by
   have hy:=hn 0 (by omega) y rfl
   rw [List.find?_cons,hy]
   exact c0s (l:=r) (i:=i) (by simpa using h) hp fun j hj z hz=>hn (j+1) (by omega) z (by simpa using hz)
theorem c4I {α:Type}{p:α->Bool}{l:List α}(h:l.any p=false):l.find? p=none:=by
 rw [List.find?_eq_none]
 rw [List.any_eq_false] at h
 exact h
theorem c50 {k:Key}(h:X4 k=true):k.Kind=0\/k.Kind=1:=by
 unfold X4 at h
 split at h
 ·left; assumption
 ·split at h
  ·right; assumption
  ·cases h
theorem d1Y (x:Api_TypeNode)(k:Key)(hf:x.Fields.length<=4194304)(hk:X4 k=true):b7I x k=some (atM x k):=by
 unfold b7I atM
 rw [Z5]
 rcases a50 (step:=b0N x k) x.Fields (fun f=>a0Q f.Key_ k) (fun _ f=>f.Node) (fun i f hx=>by
  have hi:i<x.Fields.length:=(List.getElem?_eq_some_iff.1 hx).1
  unfold b0N
  rw [Z0 hi,j6 hx]
  simp only [cond_true,Option.bind_some,c1Z,Z2]
  rw [j9 i (by omega)]
  cases a0Q f.Key_ k<;>rfl) (by
  unfold b0N
  simp) with ⟨i,f,hx,hp,hn,e⟩ | ⟨h,e⟩
 ·rw [e,c0s hx hp hn]
  rfl
 ·rw [e,c4I h]
  unfold b5N
  rcases c50 hk with h0 | h1
  ·simp [k7,h0]
  ·simp [k7,h1]
theorem c97 (v:Val)(k:Key)(hl:v.Keys.length<=4194304):∃ r,a6j v k=some r/\decide (r<0)=!(v.Keys.any fun y=>a0Q y k):=by
 unfold a6j
 rw [Z5]
 rcases a50 (step:=a4R v k) v.Keys (fun y=>a0Q y k) (fun i _=>(i:Int)) (fun i x hx=>by
  have hi:i<v.Keys.length:=(List.getElem?_eq_some_iff.1 hx).1
  unfold a4R
  rw [Z0 hi,j6 hx]
  simp only [cond_true,Option.bind_some,c1Z,Z2]
  rw [j9 i (by omega)]
  cases a0Q x k<;>rfl) (by
  unfold a4R
  simp) with ⟨i,x,hx,hp,_,e⟩ | ⟨h,e⟩
 ·rw [e,a9M hx hp]
  exact ⟨(i:Int),rfl,decide_eq_false (by omega)⟩
 ·rw [e,h]
  exact ⟨-1,rfl,rfl⟩
theorem c6j (x:Api_TypeNode)(k:Key)(hl:x.Fields.length<=4194304):(∃ (i:Nat) (f:Api_Field),a2A x k=some (i:Int)/\x.Fields[i]?=some f/\atM x k=f.Node)\/(a2A x k=some (-1)/\atM x k=b5N x k):=by
 unfold a2A atM
 rw [Z5]
 rcases a50 (step:=a3V x k) x.Fields (fun f=>a0Q f.Key_ k) (fun i _=>(i:Int)) (fun i f hx=>by
  have hi:i<x.Fields.length:=(List.getElem?_eq_some_iff.1 hx).1
  unfold a3V
  rw [Z0 hi,j6 hx]
  simp only [cond_true,Option.bind_some,c1Z,Z2]
  rw [j9 i (by omega)]
  cases a0Q f.Key_ k<;>rfl) (by
  unfold a3V
  simp) with ⟨i,f,hx,hp,hn,e⟩ | ⟨h,e⟩
 ·left
  rw [e,c0s hx hp hn]
  exact ⟨i,f,rfl,hx,rfl⟩
 ·right
  rw [e,c4I h]
  exact ⟨rfl,rfl⟩
end Go.Pl
namespace Go.Pl
open Go Go.RowKit Go.Sx Go.Qx
section
variable (μ:Val->Int->Bool)
def b1F (l:List Val)(ks:List Int):Bool:=((l.length:Int)==(ks.length:Int))&&(l.zip ks).all fun p=>μ p.1 p.2
def c1V (v:Val)(x:Api_TypeNode):Bool:=(x.Fields.all fun f=>f.Optional||v.Keys.any fun y=>a0Q y f.Key_)&&(v.Keys.zip v.Kids).all fun p=>μ p.2 (atM x p.1)
def c1I (ks:List Int):Int:=ks.getD (ks.length-1) 0
def b3o (e:Ent)(ks:List Int):Bool:=!b1F μ e.Args (ks.take (ks.length-1))||(!e.Fails&&μ e.Result (c1I ks))
def c5B (v:Val)(x:Api_TypeNode):Bool:=(v.Int_==((x.Kids.length-1:Nat):Int))&&v.Entries.all fun e=>b3o μ e x.Kids
def unM (v:Val)(x:Api_TypeNode):Bool :=
 if x.Kind=2 then true else if x.Kind=3 then v.Kind==1&&(decide (x.Lo<=v.Int_)&&decide (v.Int_<=x.Hi)) else if x.Kind=4 then v.Kind==2&&Q4 v.Text x.Text else
 if x.Kind=5 then v.Kind==2 else if x.Kind=6 then v.Kind==3&&Q4 v.Text x.Text else if x.Kind=7 then v.Kind==3 else if x.Kind=8 then v.Kind==4 else if x.Kind=9 then v.Kind==5 else
 if x.Kind=11 then v.Kind==6 else if x.Kind=15 then v.Kind==9 else if x.Kind=10 then v.Kind==6&&b1F μ v.Kids x.Kids else if x.Kind=12 then v.Kind==7&&b1F μ v.Kids x.Kids else
 if x.Kind=13 then v.Kind==8&&c1V μ v x else if x.Kind=14 then v.Kind==9&&c5B μ v x else if x.Kind=16 then x.Kids.any (μ v) else if x.Kind=17 then x.Kids.all (μ v) else
 if x.Kind=18 then !μ v (x.Kids.getD 0 0) else if x.Kind=19 then v.Labels.any fun y=>Q4 y x.Text else false
end
def FU (b:Nat):Nat:=4*(b*11+10)+4
def Y0 (t:Api_Type)(v:Val)(k:Int):Bool:=(w4 (FU (k8 v)) v t k).getD false
def MS (v:Val)(k:Nat):Nat:=k8 v*11+(10-k)
theorem b6w {α β:Type}{l:List α}{m:List β}{i:Nat}{p:α×β}(h:(l.zip m)[i]?=some p):l[i]?=some p.1/\m[i]?=some p.2:=by
 obtain ⟨a,b⟩:=p
 rw [List.getElem?_zip_eq_some] at h
 exact h
theorem c5V {l:List Val}(h:a1z l=true){x:Val}(hx:x∈l):vOK x=true:=by
 rw [a4c] at h
 exact List.all_eq_true.1 h x hx
section
variable {t:Api_Type}{f0 b:Nat}
def RH (t:Api_Type)(f0 b:Nat):Prop:=∀ (v:Val) (k:Nat) (f:Nat),k8 v<b->vOK v=true->k<t.Nodes.length->f0<=f->X5 f v t (k:Int)=some (Y0 t v (k:Int))/\w4 f v t (k:Int)=some (Y0 t v (k:Int))
theorem c0F (hR:RH t f0 b){l:List Val}{ks:List Int}(hl:∀ x∈l,k8 x<b)(ho:a1z l=true)(hk:∀ k∈ks,inR t.Nodes.length k=true)(hlen:l.length<=4194304)(f:Nat)(hf:f0+1<=f) :
 a4S f l t ks=some (b1F (Y0 t) l ks)/\a0u f l t ks=some (b1F (Y0 t) l ks):=by
 obtain ⟨f,rfl⟩:∃ m,f=m+1:=⟨f-1,by omega⟩
 by_cases he:l.length=ks.length
 ·have e1:((l.length:Int) != (ks.length:Int))=false:=by simp [he]
  have e2:((l.length:Int)==(ks.length:Int))=true:=by simp [he]
  have hz:(l.zip ks).length=l.length:=by rw [List.length_zip]; omega
  have one:∀ (i:Nat) (p:Val×Int),(l.zip ks)[i]?=some p->i<l.length/\idx l (i:Int)=some p.1/\idx ks (i:Int)=some p.2/\X5 f p.1 t p.2=some (Y0 t p.1 p.2)/\w4 f p.1 t p.2=some (Y0 t p.1 p.2):=fun i p hp=>by
   obtain ⟨h1,h2⟩:=b6w hp
   obtain ⟨j,hj,hj2⟩:=a0W (hk _ (List.mem_of_getElem? h2))
   have hm:=List.mem_of_getElem? h1
   have:=hR p.1 j f (hl _ hm) (c5V ho hm) hj2 (by omega)
   rw [<- hj] at this
   exact ⟨(List.getElem?_eq_some_iff.1 h1).1,j6 h1,j6 h2,this⟩
  have l1:=W8 (step:=a7q l t ks (X5 f)) (l.zip ks) (fun p=>Y0 t p.1 p.2) (fun i=>(i:Int)) () false (fun i p hp=>by
   obtain ⟨h0,h1,h2,h3,_⟩:=one i p hp
   unfold a7q
   rw [Z0 h0,h1]
   simp only [cond_true,Option.bind_some,Z2]
   rw [h2]
   simp only [Option.bind_some]
   rw [h3,j9 i (by omega)]
   exact a2Y _ _) (by
   unfold a7q
   simp [hz])
  have l2:=W8 (step:=a1T l t ks (w4 f)) (l.zip ks) (fun p=>Y0 t p.1 p.2) (fun i=>(i:Int)) () false (fun i p hp=>by
   obtain ⟨h0,h1,h2,_,h3⟩:=one i p hp
   unfold a1T
   rw [Z0 h0,h1]
   simp only [cond_true,Option.bind_some,Z2]
   rw [h2]
   simp only [Option.bind_some]
   rw [h3,j9 i (by omega)]
   exact a2Y _ _) (by
   unfold a1T
   simp [hz])
  rw [hz] at l1 l2
  unfold b1F
  constructor
  ·show a8j f (a4S f) (W1 f) (a0p f) (X5 f) (a22 f) (a24 f) (a2j f) l t ks=_
   unfold a8j
   have l1':y4 (a7q l t ks (X5 f)) (l.length+1) 0=_:=l1
   rw [e1,Z5,l1',e2]
   cases (l.zip ks).all fun p=>Y0 t p.1 p.2<;>rfl
  ·show a2e f (a0P f) (a00 f) (w4 f) (a0u f) l t ks=_
   unfold a2e
   have l2':y4 (a1T l t ks (w4 f)) (l.length+1) 0=_:=l2
   rw [e1,Z5,l2',e2]
   cases (l.zip ks).all fun p=>Y0 t p.1 p.2<;>rfl
 ·have e1:((l.length:Int) != (ks.length:Int))=true:=by simp; omega
  have e2:((l.length:Int)==(ks.length:Int))=false:=by simp; omega
  unfold b1F
  rw [e2]
  constructor
  ·show a8j f (a4S f) (W1 f) (a0p f) (X5 f) (a22 f) (a24 f) (a2j f) l t ks=_
   unfold a8j
   rw [e1]; rfl
  ·show a2e f (a0P f) (a00 f) (w4 f) (a0u f) l t ks=_
   unfold a2e
   rw [e1]; rfl
theorem c4F {ks:List Int}(h:1<=ks.length):ks[ks.length-1]?=some (c1I ks):=by
 unfold c1I
 rw [List.getD_eq_getElem?_getD,List.getElem?_eq_getElem (show ks.length-1<ks.length by omega)]
 rfl
theorem c2v {ks:List Int}(h:1<=ks.length)(h2:ks.length<=4194304):cut ks 0 (w64 ((ks.length:Int)-1))=some (ks.take (ks.length-1)):=by
 rw [show w64 ((ks.length:Int)-1)=((ks.length-1:Nat):Int) by rw [K1 (by omega) (by omega)]; omega]
 unfold cut
 rw [if_pos (by omega)]
 simp
theorem c95 (hR:RH t f0 b){e:Ent}(ha:∀ x∈e.Args,k8 x<b)(hr:k8 e.Result<b)(he:eOK e=true)(hlen:e.Args.length<=4194304){x:Api_TypeNode}(hk:∀ k∈x.Kids,inR t.Nodes.length k=true)(h1:1<=x.Kids.length)(h4:x.Kids.length<=4194304)(f:Nat)(hf:f0+2<=f) :
 W1 f e t x=some (b3o (Y0 t) e x.Kids):=by
 obtain ⟨f,rfl⟩:∃ m,f=m+1:=⟨f-1,by omega⟩
 rw [b4t] at he
 simp only [Bool.and_eq_true] at he
 have hall:=(c0F hR (ks:=x.Kids.take (x.Kids.length-1)) ha he.1 (fun k hkk=>hk k (List.mem_of_mem_take hkk)) hlen f (by omega)).1
 show a6g f (a4S f) (W1 f) (a0p f) (X5 f) (a22 f) (a24 f) (a2j f) e t x=_
 unfold a6g b3o
 simp only [Z2]
 rw [c2v h1 h4]
 simp only [Option.bind_some]
 rw [hall]
 simp only [Option.bind_some,W7]
 cases b1F (Y0 t) e.Args (x.Kids.take (x.Kids.length-1))
 ·rfl
 cases hF:e.Fails
 ·have hl:=c4F h1
  obtain ⟨j,hj,hj2⟩:=a0W (hk _ (List.mem_of_getElem? hl))
  have hv:vOK e.Result=true:=by have:=he.2; rw [hF] at this; simpa using this
  have:=(hR e.Result j f hr hv hj2 (by omega)).1
  rw [<- hj] at this
  have hw:w64 ((x.Kids.length:Int)-1)=((x.Kids.length-1:Nat):Int):=by rw [K1 (by omega) (by omega)]; omega
  simp only [Bool.not_true,Bool.not_false,cond_false,cond_true,Bool.false_or,Bool.true_and]
  rw [hw,j6 hl]
  simp only [Option.bind_some]
  rw [this]
 ·rfl
theorem c37 (hR:RH t f0 b){v:Val}(hv:k8 v<=b)(ho:a4A v.Entries=true)(hb:b<=4194304){x:Api_TypeNode}(hk:∀ k∈x.Kids,inR t.Nodes.length k=true)(h1:1<=x.Kids.length)(h4:x.Kids.length<=4194304)(f:Nat)(hf:f0+3<=f) :
 a0p f v t x=some (c5B (Y0 t) v x)/\a0P f v t x=some (c5B (Y0 t) v x):=by
 obtain ⟨f,rfl⟩:∃ m,f=m+1:=⟨f-1,by omega⟩
 have hbe:=a03 v
 have hle:=a29 v.Entries
 have hw:w64 ((x.Kids.length:Int)-1)=((x.Kids.length-1:Nat):Int):=by rw [K1 (by omega) (by omega)]; omega
 have ent:∀ e∈v.Entries,(∀ y∈e.Args,k8 y<b)/\k8 e.Result<b/\eOK e=true/\e.Args.length<=4194304:=fun e he=>by
  have hm:=X6 he
  have h2:=a1q e
  have h3:=a1Z e.Args
  refine ⟨fun y hy=>by have:=a0M hy; omega,by omega,?_,by omega⟩
  rw [a7O] at ho
  exact List.all_eq_true.1 ho e he
 have l1:y4 (a4r v t x (W1 f)) (v.Entries.length+1) 0=some (if (v.Entries.all fun e=>b3o (Y0 t) e x.Kids)=true then .inl () else .inr false):=by
  refine W8 v.Entries (fun e=>b3o (Y0 t) e x.Kids) (fun i=>(i:Int)) () false ?_ ?_
  ·intro i e he
   have hi:i<v.Entries.length:=(List.getElem?_eq_some_iff.1 he).1
   obtain ⟨a1,a2,a3,a4⟩:=ent e (List.mem_of_getElem? he)
   unfold a4r
   rw [Z0 hi,j6 he]
   simp only [cond_true,Option.bind_some,Z2]
   rw [c95 hR a1 a2 a3 a4 hk h1 h4 f (by omega),j9 i (by omega)]
   exact a2Y _ _
  ·unfold a4r
   simp
 have l2:y4 (a2N v t x (a0u f) (w4 f)) (v.Entries.length+1) 0=some (if (v.Entries.all fun e=>b3o (Y0 t) e x.Kids)=true then .inl () else .inr false):=by
  refine W8 v.Entries (fun e=>b3o (Y0 t) e x.Kids) (fun i=>(i:Int)) () false ?_ ?_
  ·intro i e he
   have hi:i<v.Entries.length:=(List.getElem?_eq_some_iff.1 he).1
   obtain ⟨a1,a2,a3,a4⟩:=ent e (List.mem_of_getElem? he)
   have a3':=a3
   rw [b4t] at a3'
   simp only [Bool.and_eq_true] at a3'
   have hall:=(c0F hR (ks:=x.Kids.take (x.Kids.length-1)) a1 a3'.1 (fun k hkk=>hk k (List.mem_of_mem_take hkk)) a4 f (by omega)).2
   unfold a2N
   rw [Z0 hi,j6 he]
   simp only [cond_true,Option.bind_some,Z2]
   rw [c2v h1 h4]
   simp only [Option.bind_some]
   rw [hall,j9 i (by omega)]
   simp only [Option.bind_some,W7]
   unfold b3o
   cases b1F (Y0 t) e.Args (x.Kids.take (x.Kids.length-1))
   ·rfl
   cases hF:e.Fails
   ·have hl:=c4F h1
    obtain ⟨j,hj,hj2⟩:=a0W (hk _ (List.mem_of_getElem? hl))
    have hv2:vOK e.Result=true:=by have:=a3'.2; rw [hF] at this; simpa using this
    have:=(hR e.Result j f a2 hv2 hj2 (by omega)).2
    rw [<- hj] at this
    simp only [Bool.not_true,Bool.not_false,cond_false,cond_true,Bool.false_or,Bool.true_and]
    rw [hw,j6 hl]
    simp only [Option.bind_some]
    rw [this]
    simp only [Option.bind_some]
    cases Y0 t e.Result (c1I x.Kids)<;>rfl
   ·rfl
  ·unfold a2N
   simp
 unfold c5B
 have e0:(v.Int_ != ((x.Kids.length-1:Nat):Int))=!(v.Int_==((x.Kids.length-1:Nat):Int)):=rfl
 constructor
 ·show a6L f (a4S f) (W1 f) (a0p f) (X5 f) (a22 f) (a24 f) (a2j f) v t x=_
  unfold a6L
  simp only [Z2]
  rw [hw,Z5,l1,e0]
  cases (v.Int_==((x.Kids.length-1:Nat):Int))
  ·rfl
  cases v.Entries.all fun e=>b3o (Y0 t) e x.Kids<;>rfl
 ·show a4Y f (a0P f) (a00 f) (w4 f) (a0u f) v t x=_
  unfold a4Y
  simp only [Z2]
  rw [hw,Z5,l2,e0]
  cases (v.Int_==((x.Kids.length-1:Nat):Int))
  ·rfl
  cases v.Entries.all fun e=>b3o (Y0 t) e x.Kids<;>rfl
theorem d1R {x:Api_TypeNode}{N:Nat}(hf:∀ f∈x.Fields,inR N f.Node=true)(h0:inR N x.Rest.1=true)(h1:inR N x.Rest.2=true)(k:Key):inR N (atM x k)=true:=by
 unfold atM
 cases h:x.Fields.find? fun f=>a0Q f.Key_ k with
 | some f=>exact hf f (List.mem_of_find?_eq_some h)
 | none =>
   simp only
   unfold b5N
   split<;>assumption
theorem c4j (hR:RH t f0 b){v:Val}(hv:k8 v<=b)(ho:a1z v.Kids=true)(hm:a8p v=true)(hb:b<=4194304){x:Api_TypeNode}(hf:∀ f∈x.Fields,inR t.Nodes.length f.Node=true)(h0:inR t.Nodes.length x.Rest.1=true)(h1:inR t.Nodes.length x.Rest.2=true)(h3:x.Fields.length<=4194304)(f:Nat)(hff:f0+1<=f) :
 a2j f v t x=some (c1V (Y0 t) v x)/\a00 f v t x=some (c1V (Y0 t) v x):=by
 obtain ⟨f,rfl⟩:∃ m,f=m+1:=⟨f-1,by omega⟩
 have hbe:=a03 v
 have hkl:=a5a v.Keys
 unfold a8p at hm
 simp only [Bool.and_eq_true] at hm
 have hlen:v.Keys.length=v.Kids.length:=by simpa using hm.1
 have hz:(v.Keys.zip v.Kids).length=v.Keys.length:=by rw [List.length_zip]; omega
 have a1:y4 (a6W v x) (x.Fields.length+1) 0=some (if (x.Fields.all fun f=>f.Optional||v.Keys.any fun y=>a0Q y f.Key_)=true then .inl () else .inr false):=by
  refine W8 x.Fields (fun f=>f.Optional||v.Keys.any fun y=>a0Q y f.Key_) (fun i=>(i:Int)) () false ?_ ?_
  ·intro i g hx
   have hi:i<x.Fields.length:=(List.getElem?_eq_some_iff.1 hx).1
   unfold a6W
   rw [Z0 hi,j6 hx]
   simp only [cond_true,Option.bind_some,Z2]
   rw [c3Y _ _ (by omega),j9 i (by omega)]
   cases g.Optional<;>cases (v.Keys.any fun y=>a0Q y g.Key_)<;>rfl
  ·unfold a6W
   simp
 have a2:y4 (a3b v x) (x.Fields.length+1) 0=some (if (x.Fields.all fun f=>f.Optional||v.Keys.any fun y=>a0Q y f.Key_)=true then .inl () else .inr false):=by
  refine W8 x.Fields (fun f=>f.Optional||v.Keys.any fun y=>a0Q y f.Key_) (fun i=>(i:Int)) () false ?_ ?_
  ·intro i g hx
   have hi:i<x.Fields.length:=(List.getElem?_eq_some_iff.1 hx).1
   obtain ⟨r,e1,e2⟩:=c97 v g.Key_ (by omega)
   unfold a3b
   rw [Z0 hi,j6 hx]
   simp only [cond_true,Option.bind_some,Z2]
   rw [e1,j9 i (by omega)]
   simp only [Option.bind_some]
   rw [e2]
   cases g.Optional<;>cases (v.Keys.any fun y=>a0Q y g.Key_)<;>rfl
  ·unfold a3b
   simp
 have one:∀ (i:Nat) (p:Key×Val),(v.Keys.zip v.Kids)[i]?=some p->i<v.Keys.length/\idx v.Keys (i:Int)=some p.1/\idx v.Kids (i:Int)=some p.2/\X4 p.1=true/\X5 f p.2 t (atM x p.1)=some (Y0 t p.2 (atM x p.1))/\w4 f p.2 t (atM x p.1)=some (Y0 t p.2 (atM x p.1)):=fun i p hp=>by
  obtain ⟨q1,q2⟩:=b6w hp
  have m1:=List.mem_of_getElem? q1
  have m2:=List.mem_of_getElem? q2
  obtain ⟨j,hj,hj2⟩:=a0W (d1R hf h0 h1 p.1)
  have hbm:=a0M m2
  have:=hR p.2 j f (by omega) (c5V ho m2) hj2 (by omega)
  rw [<- hj] at this
  exact ⟨(List.getElem?_eq_some_iff.1 q1).1,j6 q1,j6 q2,List.all_eq_true.1 hm.2.2 _ m1,this⟩
 have b1:=W8 (step:=a5c v t x (X5 f)) (v.Keys.zip v.Kids) (fun p=>Y0 t p.2 (atM x p.1)) (fun i=>(i:Int)) () false (fun i p hp=>by
  obtain ⟨h0,h1,h2,h3',h4,_⟩:=one i p hp
  unfold a5c
  rw [Z0 h0,h1]
  simp only [cond_true,Option.bind_some,Z2]
  rw [h2]
  simp only [Option.bind_some]
  rw [d1Y x p.1 h3 h3']
  simp only [Option.bind_some]
  rw [h4,j9 i (by omega)]
  exact a2Y _ _) (by
  unfold a5c
  simp [hz])
 have b2:=W8 (step:=a1W v t x (w4 f)) (v.Keys.zip v.Kids) (fun p=>Y0 t p.2 (atM x p.1)) (fun i=>(i:Int)) () false (fun i p hp=>by
  obtain ⟨h0,h1,h2,h3',_,h4⟩:=one i p hp
  unfold a1W
  rw [Z0 h0,h1]
  simp only [cond_true,Option.bind_some,Z2]
  have hrest:(bif p.1.Kind==0 then some x.Rest.1 else (bif p.1.Kind==1 then some x.Rest.2 else none))=some (b5N x p.1):=by
   unfold b5N
   rcases c50 h3' with h | h
   ·simp [h]
   ·simp [h]
  rw [hrest]
  have hto:∀ {β:Type} (g:Int->Option β),(Option.bind (a2A x p.1) fun r11=>Option.bind (some (b5N x p.1)) fun b13=>Option.bind (bif decide (0<=r11) then (Option.bind (idx x.Fields r11) fun e14=>some e14.Node) else (some b13)) g)=g (atM x p.1):=by
   intro β g
   rcases c6j x p.1 h3 with ⟨i',fl,e1,e2,e3⟩ | ⟨e1,e3⟩
   ·rw [e1]
    simp only [Option.bind_some,c06,cond_true]
    rw [j6 e2]
    simp only [Option.bind_some,e3]
   ·rw [e1]
    simp only [Option.bind_some,d2j,cond_false,e3]
  rw [hto,h2]
  simp only [Option.bind_some]
  rw [h4,j9 i (by omega)]
  exact a2Y _ _) (by
  unfold a1W
  simp [hz])
 rw [hz] at b1 b2
 unfold c1V
 constructor
 ·show b0A f (a4S f) (W1 f) (a0p f) (X5 f) (a22 f) (a24 f) (a2j f) v t x=_
  unfold b0A
  have b1':y4 (a5c v t x (X5 f)) (v.Keys.length+1) 0=_:=b1
  rw [Z5,a1,Z5,b1']
  cases (x.Fields.all fun f=>f.Optional||v.Keys.any fun y=>a0Q y f.Key_)
  ·rfl
  cases (v.Keys.zip v.Kids).all fun p=>Y0 t p.2 (atM x p.1)<;>rfl
 ·show a5d f (a0P f) (a00 f) (w4 f) (a0u f) v t x=_
  unfold a5d
  have b2':y4 (a1W v t x (w4 f)) (v.Keys.length+1) 0=_:=b2
  rw [Z5,a2,Z5,b2']
  cases (x.Fields.all fun f=>f.Optional||v.Keys.any fun y=>a0Q y f.Key_)
  ·rfl
  cases (v.Keys.zip v.Kids).all fun p=>Y0 t p.2 (atM x p.1)<;>rfl
end
end Go.Pl
namespace Go.Pl
open Go Go.RowKit Go.Sx Go.Qx
section
variable {t:Api_Type}
theorem GT.ord (hT:GT t){k:Nat}{x:Api_TypeNode}(hx:t.Nodes[k]?=some x)(hb:isB x=true){j:Int}(hj:j∈x.Kids):∃ j':Nat,j=(j':Int)/\k<j'/\j'<t.Nodes.length:=by
 have hg:=hT.nodes k x hx
 obtain ⟨j',e,h1⟩:=a0W (a3K hg.ok j hj)
 have:=hg.ord hb j hj
 exact ⟨j',e,by omega,h1⟩
theorem b7q {N:Nat}{x:Api_TypeNode}(h:V9 N x=true):a3q N x=true:=by
 unfold V9 at h
 simp only [Bool.and_eq_true] at h
 exact h.2.2.2.2
theorem c4r {N:Nat}{x:Api_TypeNode}(h:V9 N x=true):x.Kind=1\/x.Kind=2\/x.Kind=3\/x.Kind=4\/x.Kind=5\/x.Kind=6\/x.Kind=7\/x.Kind=8\/x.Kind=9\/x.Kind=10\/x.Kind=11\/x.Kind=12\/x.Kind=13\/x.Kind=14\/x.Kind=15\/x.Kind=16\/x.Kind=17\/x.Kind=18\/x.Kind=19:=by
 rcases a8E x.Kind with hk | hk
 ·exact hk
 ·have e:∀ n:Int,1<=n->n<=19->¬ x.Kind=n:=fun n h1 h2=>by simpa using hk n h1 h2
  have hn:=b7q h
  unfold a3q at hn
  rw [if_neg (e 3 (by omega) (by omega)),if_neg (e 4 (by omega) (by omega)),if_neg (e 6 (by omega) (by omega)),if_neg (e 19 (by omega) (by omega)),if_neg (by have:=e 1 (by omega) (by omega); have:=e 2 (by omega) (by omega); have:=e 5 (by omega) (by omega); have:=e 7 (by omega) (by omega); have:=e 8 (by omega) (by omega); have:=e 9 (by omega) (by omega); have:=e 11 (by omega) (by omega); have:=e 15 (by omega) (by omega); omega),
   if_neg (e 10 (by omega) (by omega)),if_neg (e 12 (by omega) (by omega)),if_neg (e 14 (by omega) (by omega)),if_neg (by have:=e 16 (by omega) (by omega); have:=e 17 (by omega) (by omega); omega),if_neg (e 18 (by omega) (by omega)),if_neg (e 13 (by omega) (by omega))] at hn
  cases hn
theorem c3q {N:Nat}{x:Api_TypeNode}(h:V9 N x=true)(hk:x.Kind=14):1<=x.Kids.length/\x.Kids.length<=5:=by
 have hn:=b7q h
 unfold a3q at hn
 simp [hk] at hn
 omega
theorem c21 {N:Nat}{x:Api_TypeNode}(h:V9 N x=true)(hk:x.Kind=18):x.Kids.length=1:=by
 have hn:=b7q h
 unfold a3q at hn
 simp [hk] at hn
 omega
theorem c2Q {N:Nat}{x:Api_TypeNode}(h:V9 N x=true)(hk:x.Kind=13):(∀ f∈x.Fields,inR N f.Node=true)/\inR N x.Rest.1=true/\inR N x.Rest.2=true:=by
 have hn:=b7q h
 unfold a3q a55 at hn
 simp [hk] at hn
 exact ⟨hn.1.2.2,hn.2.2.1,hn.2.2.2⟩
theorem c1d {v:Val}(h:vOK v=true)(hk:v.Kind=8):a8p v=true:=by
 rw [b3T] at h
 simp only [Bool.and_eq_true] at h
 have:=h.1
 unfold a1F a3h at this
 simp only [Bool.and_eq_true] at this
 have h2:=this.2.2
 simp [hk] at h2
 exact h2
theorem c3D {v:Val}(h:vOK v=true):a1z v.Kids=true/\a4A v.Entries=true:=by
 rw [b3T] at h
 simp only [Bool.and_eq_true] at h
 exact h.2
theorem b7G {α:Type}(p:α->Bool)(l:List α):(!(l.any fun x=>!p x))=l.all p:=by
 rw [Bool.eq_iff_iff]
 simp
theorem c9R (hT:GT t){v:Val}{k:Nat}{x:Api_TypeNode}(hx:t.Nodes[k]?=some x)(ho:vOK v=true)(hb:k8 v<=4194304){f0:Nat}(hR:RH t f0 (k8 v))
 (hB:isB x=true->∀ j∈x.Kids,∀ f,f0<=f->X5 f v t j=some (Y0 t v j)/\w4 f v t j=some (Y0 t v j)) (f:Nat) (hf:f0+4<=f) :
 X5 f v t (k:Int)=some (unM (Y0 t) v x)/\w4 f v t (k:Int)=some (unM (Y0 t) v x):=by
 obtain ⟨f,rfl⟩:∃ m,f=m+1:=⟨f-1,by omega⟩
 have hg:=hT.nodes k x hx
 have hn:=hg.ok
 have hk4:=hg.kids
 have hf3:=hg.flds
 have hkr:=a3K hn
 obtain ⟨ho1,ho2⟩:=c3D ho
 have hbe:=a03 v
 have hkl:=a1Z v.Kids
 have hll:=a4d v.Labels
 have hall:=c0F hR (l:=v.Kids) (ks:=x.Kids) (fun y hy=>by have:=a0M hy; omega) ho1 hkr (by omega) f (by omega)
 have hlab:=c5G v.Labels x.Text (by omega)
 have hlab2:(Option.bind (y4 (a19 v x) (v.Labels.length+1) 0) fun b30=>k7 (fun _=>some false) (fun y32=>some y32) b30)=some (v.Labels.any fun y=>Q4 y x.Text):=by
  rcases a50 (step:=a19 v x) v.Labels (fun y=>Q4 y x.Text) (fun _ _=>true) (fun i y hy=>by
   have hi:i<v.Labels.length:=(List.getElem?_eq_some_iff.1 hy).1
   unfold a19
   rw [Z0 hi,j6 hy]
   simp only [cond_true,Option.bind_some,Z2]
   rw [j9 i (by omega)]
   cases Q4 y x.Text<;>rfl) (by
   unfold a19
   simp) with ⟨i,y,hy,hp,_,e⟩ | ⟨h,e⟩
  ·rw [e,a9M hy hp]; rfl
  ·rw [e,h]; rfl
 have hbool:isB x=true->Y9 x.Kids (fun z=>a22 f z v t)=some (x.Kids.any (Y0 t v))/\(Option.bind (Y9 x.Kids (fun z=>a24 f z v t)) fun r=>some (!r))=some (x.Kids.all (Y0 t v)) /\
  (Option.bind (y4 (a2d v t x (w4 f)) (x.Kids.length+1) 0) fun b17=>k7 (fun _=>some false) (fun y19=>some y19) b17)=some (x.Kids.any (Y0 t v)) /\
  (Option.bind (y4 (a1c v t x (w4 f)) (x.Kids.length+1) 0) fun b23=>k7 (fun _=>some true) (fun y25=>some y25) b23)=some (x.Kids.all (Y0 t v)):=fun hb=>by
  have hB:=hB hb
  obtain ⟨f,rfl⟩:∃ m,f=m+1:=⟨f-1,by omega⟩
  refine ⟨a8w _ _ _ (by omega) fun z hz=>?_,?_,?_,?_⟩
  ·show b1V f (a4S f) (W1 f) (a0p f) (X5 f) (a22 f) (a24 f) (a2j f) z v t=_
   unfold b1V
   rw [(hB z hz f (by omega)).1]
   rfl
  ·rw [a8w _ _ (fun z=>!Y0 t v z) (by omega) fun z hz=>?_]
   ·simp only [Option.bind_some]
    rw [b7G]
   ·show b1L f (a4S f) (W1 f) (a0p f) (X5 f) (a22 f) (a24 f) (a2j f) z v t=_
    unfold b1L
    rw [(hB z hz f (by omega)).1]
    rfl
  ·rcases a50 (step:=a2d v t x (w4 (f+1))) x.Kids (Y0 t v) (fun _ _=>true) (fun i y hy=>by
    have hi:i<x.Kids.length:=(List.getElem?_eq_some_iff.1 hy).1
    unfold a2d
    rw [Z0 hi,j6 hy]
    simp only [cond_true,Option.bind_some,Z2]
    rw [(hB y (List.mem_of_getElem? hy) (f+1) (by omega)).2,j9 i (by omega)]
    simp only [Option.bind_some]
    cases Y0 t v y<;>rfl) (by
    unfold a2d
    simp) with ⟨i,y,hy,hp,_,e⟩ | ⟨h,e⟩
   ·rw [e,a9M hy hp]; rfl
   ·rw [e,h]; rfl
  ·have l2:=W8 (step:=a1c v t x (w4 (f+1))) x.Kids (Y0 t v) (fun i=>(i:Int)) () false (fun i y hy=>by
    have hi:i<x.Kids.length:=(List.getElem?_eq_some_iff.1 hy).1
    unfold a1c
    rw [Z0 hi,j6 hy]
    simp only [cond_true,Option.bind_some,Z2]
    rw [(hB y (List.mem_of_getElem? hy) (f+1) (by omega)).2,j9 i (by omega)]
    exact a2Y _ _) (by
    unfold a1c
    simp)
   have l2':y4 (a1c v t x (w4 (f+1))) (x.Kids.length+1) 0=_:=l2
   rw [l2']
   cases x.Kids.all (Y0 t v)<;>rfl
 have hidx:=j6 hx
 constructor
 ·show b5b f (a4S f) (W1 f) (a0p f) (X5 f) (a22 f) (a24 f) (a2j f) v t (k:Int)=_
  unfold b5b
  rw [hidx]
  simp only [Option.bind_some,W7]
  rcases c4r hn with hK | hK | hK | hK | hK | hK | hK | hK | hK | hK | hK | hK | hK | hK | hK | hK | hK | hK | hK<;>unfold unM<;>simp only [hK,Int.reduceBEq,Int.reduceEq,if_true,if_false,cond_true,cond_false,Option.bind_some]
  ·cases v.Kind==1<;>cases decide (x.Lo<=v.Int_)<;>rfl
  ·cases v.Kind==2<;>rfl
  ·rfl
  ·cases v.Kind==3<;>rfl
  ·rfl
  ·rfl
  ·rfl
  ·rw [hall.1]
   cases v.Kind==6<;>rfl
  ·rfl
  ·rw [hall.1]
   cases v.Kind==7<;>rfl
  ·cases hv:v.Kind==8
   ·rfl
   ·obtain ⟨q1,q2,q3⟩:=c2Q hn hK
    rw [(c4j hR (Nat.le_refl _) ho1 (c1d ho (by simpa using hv)) hb q1 q2 q3 (by omega) f (by omega)).1]
    rfl
  ·obtain ⟨q1,q2⟩:=c3q hn hK
   rw [(c37 hR (Nat.le_refl _) ho2 hb hkr q1 (by omega) f (by omega)).1]
   cases v.Kind==9<;>rfl
  ·rfl
  ·exact (hbool (by unfold isB; rw [hK]; rfl)).1
  ·exact (hbool (by unfold isB; rw [hK]; rfl)).2.1
  ·have h1:=c21 hn hK
   have ek:=List.getElem?_eq_getElem (show 0<x.Kids.length by omega)
   have e0:idx x.Kids 0=some x.Kids[0]:=j6 ek
   rw [e0]
   simp only [Option.bind_some]
   rw [(hB (by unfold isB; rw [hK]; rfl) _ (List.mem_of_getElem? ek) f (by omega)).1,List.getD_eq_getElem?_getD,ek]
   rfl
  ·exact hlab
 ·show a5M f (a0P f) (a00 f) (w4 f) (a0u f) v t (k:Int)=_
  unfold a5M
  rw [hidx]
  simp only [Option.bind_some,Z5]
  rcases c4r hn with hK | hK | hK | hK | hK | hK | hK | hK | hK | hK | hK | hK | hK | hK | hK | hK | hK | hK | hK<;>unfold unM<;>simp only [hK,Int.reduceBEq,Int.reduceEq,if_true,if_false,cond_true,cond_false,Option.bind_some]
  ·cases v.Kind==1<;>cases decide (x.Lo<=v.Int_)<;>rfl
  ·cases v.Kind==2<;>rfl
  ·cases v.Kind==3<;>rfl
  ·rw [hall.2]
   cases v.Kind==6<;>rfl
  ·rw [hall.2]
   cases v.Kind==7<;>rfl
  ·cases hv:v.Kind==8
   ·rfl
   ·obtain ⟨q1,q2,q3⟩:=c2Q hn hK
    rw [(c4j hR (Nat.le_refl _) ho1 (c1d ho (by simpa using hv)) hb q1 q2 q3 (by omega) f (by omega)).2]
    rfl
  ·obtain ⟨q1,q2⟩:=c3q hn hK
   rw [(c37 hR (Nat.le_refl _) ho2 hb hkr q1 (by omega) f (by omega)).2]
   cases v.Kind==9<;>rfl
  ·exact (hbool (by unfold isB; rw [hK]; rfl)).2.2.1
  ·exact (hbool (by unfold isB; rw [hK]; rfl)).2.2.2
  ·have h1:=c21 hn hK
   have ek:=List.getElem?_eq_getElem (show 0<x.Kids.length by omega)
   have e0:idx x.Kids 0=some x.Kids[0]:=j6 ek
   rw [e0]
   simp only [Option.bind_some]
   rw [(hB (by unfold isB; rw [hK]; rfl) _ (List.mem_of_getElem? ek) f (by omega)).2,List.getD_eq_getElem?_getD,ek]
   rfl
  ·exact hlab2
theorem b8Y (hT:GT t):∀ (m:Nat) (v:Val) (k:Nat) (x:Api_TypeNode),MS v k<=m->vOK v=true->k8 v<=4194304->t.Nodes[k]?=some x ->
 (∀ f,4*MS v k+4<=f->X5 f v t (k:Int)=some (Y0 t v (k:Int))/\w4 f v t (k:Int)=some (Y0 t v (k:Int)))/\Y0 t v (k:Int)=unM (Y0 t) v x:=by
 intro m
 induction m with
 | zero=>intro v k x h; have:=a7Y v; unfold MS at h; omega
 | succ m ih =>
   intro v k x hm ho hb hx
   have hkN:k<t.Nodes.length:=(List.getElem?_eq_some_iff.1 hx).1
   have hN:=hT.len
   have hR:RH t (4*MS v k) (k8 v):=fun w j f hw hwo hj hf=>by
    have ej:=List.getElem?_eq_getElem hj
    have hlt:MS w j+1<=MS v k:=by unfold MS; omega
    exact (ih w j _ (by omega) hwo (by omega) ej).1 f (by omega)
   have hst:=c9R hT hx ho hb hR (fun hbx j hj f hf=>by
    obtain ⟨j',rfl,h1,h2⟩:=hT.ord hx hbx hj
    have ej:=List.getElem?_eq_getElem h2
    have hlt:MS v j'+1<=MS v k:=by unfold MS; omega
    exact (ih v j' _ (by omega) ho hb ej).1 f (by omega))
   have hmem:Y0 t v (k:Int)=unM (Y0 t) v x:=by
    have hFU:4*MS v k+4<=FU (k8 v):=by unfold FU MS; omega
    have:=(hst (FU (k8 v)) hFU).2
    unfold Y0 at *
    rw [this]
    rfl
   refine ⟨fun f hf=>?_,hmem⟩
   rw [hmem]
   exact hst f hf
theorem d0d (hT:GT t){v:Val}{k:Nat}(ho:vOK v=true)(hb:k8 v<=4194304)(hk:k<t.Nodes.length)(f:Nat)(hf:FU (k8 v)<=f):X5 f v t (k:Int)=some (Y0 t v (k:Int)) :=
 ((b8Y hT (MS v k) v k _ (Nat.le_refl _) ho hb (List.getElem?_eq_getElem hk)).1 f (by unfold FU at hf; unfold MS; omega)).1
theorem c6k (hT:GT t){v:Val}{k:Nat}(ho:vOK v=true)(hb:k8 v<=4194304)(hk:k<t.Nodes.length)(f:Nat)(hf:FU (k8 v)<=f):w4 f v t (k:Int)=some (Y0 t v (k:Int)) :=
 ((b8Y hT (MS v k) v k _ (Nat.le_refl _) ho hb (List.getElem?_eq_getElem hk)).1 f (by unfold FU at hf; unfold MS; omega)).2
theorem c4v (hT:GT t){v:Val}{k:Nat}{x:Api_TypeNode}(hx:t.Nodes[k]?=some x)(ho:vOK v=true)(hb:k8 v<=4194304):Y0 t v (k:Int)=unM (Y0 t) v x :=
 (b8Y hT (MS v k) v k x (Nat.le_refl _) ho hb hx).2
end
end Go.Pl
namespace Go.Pl
open Go Go.RowKit Go.Sx Go.Qx
section
variable {t:Api_Type}
theorem GT.all (hT:GT t):a3f t.Nodes=true:=List.all_eq_true.2 fun x hx=>by
 obtain ⟨i,hi,rfl⟩:=List.getElem_of_mem hx
 exact (hT.nodes i _ (List.getElem?_eq_getElem hi)).ok
theorem GT.ordT (hT:GT t):c11 t.Nodes:=fun i x hx hb k hk=>(hT.nodes i x hx).ord hb k hk
theorem GT.small (hT:GT t):∀ x∈t.Nodes,x.Kids.length<=1100000/\x.Fields.length<=1100000:=fun x hx=>by
 obtain ⟨i,hi,rfl⟩:=List.getElem_of_mem hx
 have hg:=hT.nodes i _ (List.getElem?_eq_getElem hi)
 have h1:=hg.kids
 have h2:=hg.flds
 omega
theorem wf0 (hT:GT t)(hr:inR t.Nodes.length t.Root=true)(f:Nat)(hf:1100001<=f):X7 f t=some 0:=by
 have hN:=hT.len
 rw [d1T t hT.ordT hT.small (by omega) f (by omega),hT.all,hr]
 rfl
theorem d2a (hT:GT t)(hr:inR t.Nodes.length t.Root=true)(f:Nat)(hf:1100001<=f):a0X f t=some 0:=by
 have hN:=hT.len
 rw [d0P t hT.ordT hT.small (by omega) f hf,hT.all,hr]
 rfl
end
end Go.Pl
end
section
namespace Go.Pl
open Go Go.RowKit Go.Sx Go.Qx
theorem d0e:CmpOk cI:=⟨fun x y=>by
 rcases W9 x y with ⟨_,h⟩ | ⟨_,h⟩ | ⟨_,h⟩<;>rcases W9 y x with ⟨_,k⟩ | ⟨_,k⟩ | ⟨_,k⟩<;>rw [h,k]<;>omega,
 fun x y z h1 h2=>by
  rcases W9 x y with ⟨_,h⟩ | ⟨_,h⟩ | ⟨_,h⟩<;>rcases W9 y z with ⟨_,k⟩ | ⟨_,k⟩ | ⟨_,k⟩<;>rcases W9 x z with ⟨_,l⟩ | ⟨_,l⟩ | ⟨_,l⟩<;>rw [h] at h1<;>rw [k] at h2<;>rw [l]<;>omega,
 fun _ _ h=>cI0 h⟩
abbrev b5S (x y:Int):Bool:=decide (cI x y=0)
theorem c4T (x y:Int):(x==y)=decide (cI x y=0):=by
 rcases W9 x y with ⟨h,k⟩ | ⟨h,k⟩ | ⟨h,k⟩
 ·rw [k]; simp; omega
 ·rw [k]; simp; omega
 ·rw [k]; simp [h]
theorem d1I (s0:List Int)(i0 n:Nat)(hn:n<=4194304)(i k:Nat)(s:List Int)(x y:Int)(hl:s.length=n)(hk:i0+k<n)(h1:1<=k)(hi:i<i0+k)(hx:s[i0+k]?=some x)(hy:s[i0+k-1]?=some y) :
 a0r (s0,(i0:Int)) (((i:Int),(k:Int)),s)=some (.next (if b5S x y=true then (((i:Int),((k+1:Nat):Int)),s) else ((((i+1:Nat):Int),((k+1:Nat):Int)),s.set i x))):=by
 unfold a0r
 simp only [X1,Z2,Int.toNat_natCast]
 have hdl:(s.drop i0).length=n-i0:=by rw [List.length_drop,hl]
 rw [if_pos (decide_eq_true (by show (k:Int)<(((s.drop i0).length:Nat):Int); rw [hdl]; omega)),j9 i (by omega),j9 k (by omega),b8P k (by omega) h1]
 simp only [Int.toNat_natCast]
 have a1:idx (s.drop i0) (k:Int)=some x:=j6 (by rw [List.getElem?_drop]; exact hx)
 have a2:idx (s.drop i0) ((k-1:Nat):Int)=some y:=j6 (by rw [List.getElem?_drop,show i0+(k-1)=i0+k-1 by omega]; exact hy)
 have a3:idx s (i:Int)=some (s[i]'(by omega)):=j6 (List.getElem?_eq_getElem (by omega))
 rw [a1,a2,a3,hx,show i0+(k-1)=i0+k-1 by omega,hy,List.getElem?_eq_getElem (show i<s.length by omega)]
 simp only [Option.bind_some,bne]
 rw [c4T]
 by_cases h:cI x y=0<;>simp [b5S,h]
theorem c3L (l:List Int)(hl:l.length<=4194304):a20 l=some (a8L b5S l):=by
 unfold a20
 by_cases h2:(l.length:Int)<2
 ·have e:decide ((l.length:Int)<2)=true:=by simpa using h2
  rw [e]
  match l,h2 with
  | [],_=>rfl
  | [_],_=>rfl
  | _::_::_,h=>exact absurd h (by simp; omega)
 ·have e:decide ((l.length:Int)<2)=false:=by simpa using h2
  rw [e,Z5]
  simp only [cond_false]
  have key:=c7d (r:=b5S) (step:=a08) l (by omega) ?_ ?_ ?_
  ·rcases key with ⟨h,hc⟩ | ⟨q,h⟩
   ·rw [h,hc]; rfl
   ·rw [h]; rfl
  ·intro i x y hi hx hy hr
   have hlt:i<l.length:=(List.getElem?_eq_some_iff.1 hx).1
   unfold a08
   simp only [X1,Z2,Int.toNat_natCast]
   rw [if_pos (by simp; omega),b8P i (by omega) hi,j6 hx,j6 hy]
   simp only [Int.toNat_natCast,hx,hy,Option.bind_some]
   rw [c4T]
   have hr':decide (cI x y=0)=false:=hr
   rw [hr',j9 i (by omega)]
   rfl
  ·intro i x y hi hx hy hr
   have hlt:i<l.length:=(List.getElem?_eq_some_iff.1 hx).1
   unfold a08
   simp only [X1,Z2,Int.toNat_natCast]
   rw [if_pos (by simp; omega),b8P i (by omega) hi,j6 hx,j6 hy]
   simp only [Int.toNat_natCast,hx,hy,Option.bind_some]
   rw [c4T]
   have hr':decide (cI x y=0)=true:=hr
   rw [hr',if_pos rfl]
   obtain ⟨s',e1,e2,e3⟩:=c6w (r:=b5S) (step:=a0r (l,(i:Int))) i l.length (fun i' k s x y a1 a2 a3 a4 a5 a6=>d1I l i l.length hl i' k s x y a1 a2 a3 a4 a5 a6)
    (fun i' k s a1 a2=>by
      unfold a0r
      simp only [Int.toNat_natCast]
      have:decide ((k:Int)<(((s.drop i).length:Nat):Int))=false:=by rw [List.length_drop]; simp; omega
      rw [this]
      rfl) (l.length-(i+1)) i 1 l x ((l.drop i).length+1) rfl (by omega) (Nat.le_refl _) (by omega) (by simpa using hx) (by rw [List.length_drop]; omega)
   have e1':y4 (a0r (l,(i:Int))) ((l.drop i).length+1) (((i:Int),1),l)=_:=e1
   rw [e1']
   simp only [Option.bind_some,<- X1]
   have hd:=c56 (r:=b5S) (l.drop (i+1)) x
   rw [List.length_drop] at hd
   exact c9J (0:Int) _ l.length s' _ e2 (by omega) e3
  ·unfold a08
   simp
theorem c4V (l:List Int):(l.mergeSort fun x y=>decide (x<=y)).Pairwise fun a b=>¬ cI b a<0:=by
 refine (List.pairwise_mergeSort (le:=fun x y:Int=>decide (x<=y)) (fun a b c h1 h2=>?_) (fun a b=>?_) l).imp fun {a b} h=>?_
 ·simp only [decide_eq_true_eq] at *
  omega
 ·simp only [Bool.or_eq_true,decide_eq_true_eq]
  omega
 ·simp only [decide_eq_true_eq] at h
  rcases W9 b a with ⟨_,k⟩ | ⟨_,k⟩ | ⟨_,k⟩<;>rw [k]<;>omega
def srt (l:List Int):List Int:=l.foldl (a3w cI) []
theorem b9O (l:List Int)(hl:l.length<=4194304):a7g l=some (srt l):=by
 unfold a7g a4E
 rw [Q9 (by omega)]
 simp only [Option.bind_some]
 unfold c0y b1r
 have e:decide (l.length<4611686018427387904)=true:=by simp; omega
 rw [e]
 simp only [cond_true,Option.bind_some]
 have hp:=List.mergeSort_perm l fun x y:Int=>decide (x<=y)
 rw [c3L _ (by rw [hp.length_eq]; exact hl)]
 simp only [Option.bind_some]
 unfold a6d
 have:=c3M d0e hp (c4V l)
 rw [show a8L (fun x y=>decide (cI x y=0))=a8L b5S from rfl] at this
 rw [this]
 simp [srt]
theorem b02 (l:List Int)(y:Int):y∈srt l↔y∈l:=(d0J (c:=cI) d0e l).2 y
theorem c4E (l:List Int):(srt l).length<=l.length:=by
 have key:∀ (l out:List Int),(l.foldl (a3w cI) out).length<=out.length+l.length:=by
  intro l
  induction l with
  | nil=>intro out; simp
  | cons x r ih =>
    intro out
    have h1:=ih (a3w cI out x)
    have h2:=c3a cI out x
    simp only [List.foldl_cons,List.length_cons]
    omega
 have:=key l []
 simpa [srt] using this
end Go.Pl
end
section
namespace Go.Pl
open Go Go.RowKit Go.Sx Go.Qx
abbrev g0 (p q:List Int):Api_Goal:=Api_Goal.mk p q false
theorem b2y {α:Type}{step:Int->Option (Fl Int (Sum Unit Bool))}(xs:List α)(p:α->Bool)(b:Bool)(hst:∀ (i:Nat) (x:α),xs[i]?=some x->step (i:Int)=some (if p x=true then Fl.next ((i+1:Nat):Int) else Fl.done (.inr b)))
 (hend:step (xs.length:Int)=some (.done (.inl ()))):y4 step (xs.length+1) 0=some (if xs.all p=true then .inl () else .inr b) :=
 W8 (step:=step) xs p (fun i=>(i:Int)) () b hst hend
theorem c58 (p q:List Int)(b:Bool)(h1:p.length<=4194304)(h2:q.length<=4194304):a9B (Api_Goal.mk p q b)=some (Api_Goal.mk (srt p) (srt q) b):=by
 unfold a9B
 rw [b9O p h1,b9O q h2]
 rfl
theorem c3z (l:List Int)(x:Int)(hl:l.length<=4194304):a2O l x=some (l.any fun y=>x==y):=by
 unfold a2O a5P
 rw [Z5]
 rcases a50 (step:=a2H l x) l (fun y=>x==y) (fun i _=>(i:Int)) (fun i y hy=>by
  have hi:i<l.length:=(List.getElem?_eq_some_iff.1 hy).1
  unfold a2H
  rw [Z0 hi,j6 hy]
  simp only [cond_true,Option.bind_some,Z2]
  rw [j9 i (by omega)]
  cases x==y<;>rfl) (by
  unfold a2H
  simp) with ⟨i,y,hy,hp,_,e⟩ | ⟨h,e⟩
 ·rw [e,a9M hy hp]
  simp only [Option.bind_some,k7,c06]
 ·rw [e,h]
  rfl
def b5a (p q:List Int):Bool:=p.any fun x=>q.any fun y=>x==y
theorem c4p (p q:List Int)(h1:p.length<=4194304)(h2:q.length<=4194304):a7w p q=some (b5a p q):=by
 unfold a7w
 rw [a8w p _ (fun x=>q.any fun y=>x==y) h1 fun x _=>by
  unfold a8s
  simp only [W7]
  exact c3z q x h2]
 rfl
theorem b1p {St β:Type}{step:St->Option (Fl St β)}(st:Nat->St)(n:Nat)(r:β)(hs:∀ i,i<n->step (st i)=some (.next (st (i+1))))(he:step (st n)=some (.done r))(k:Nat)(hk:n+1<=k):y4 step k (st 0)=some r:=by
 have key:∀ (m i k:Nat),i+m=n->m+1<=k->y4 step k (st i)=some r:=by
  intro m
  induction m with
  | zero =>
    intro i k h1 h2
    obtain ⟨k,rfl⟩:∃ q,k=q+1:=⟨k-1,by omega⟩
    have e:i=n:=by omega
    subst e
    simp only [y4,he,Option.bind_some]
  | succ m ih =>
    intro i k h1 h2
    obtain ⟨k,rfl⟩:∃ q,k=q+1:=⟨k-1,by omega⟩
    simp only [y4,hs i (by omega),Option.bind_some]
    exact ih (i+1) k (by omega) (by omega)
 exact key n 0 k (by omega) hk
theorem b7m {St β:Type}{step:St->Option (Fl St β)}(st:Nat->St)(bad:Nat->Bool)(n:Nat)(r:β)(R:β->Prop)(hs:∀ i,i<n->bad i=false->step (st i)=some (.next (st (i+1))))(hb:∀ i,i<n->bad i=true->∃ q,step (st i)=some (.done q)/\R q)
 (he:step (st n)=some (.done r)) (k:Nat) (hk:n+1<=k):(y4 step k (st 0)=some r/\∀ i,i<n->bad i=false)\/∃ q,y4 step k (st 0)=some q/\R q/\∃ i,i<n/\bad i=true:=by
 have key:∀ (m i k:Nat),i+m=n->m+1<=k->(∀ j,j<i->bad j=false)->(y4 step k (st i)=some r/\∀ i,i<n->bad i=false)\/∃ q,y4 step k (st i)=some q/\R q/\∃ i,i<n/\bad i=true:=by
  intro m
  induction m with
  | zero =>
    intro i k h1 h2 h3
    obtain ⟨k,rfl⟩:∃ q,k=q+1:=⟨k-1,by omega⟩
    have e:i=n:=by omega
    subst e
    exact .inl ⟨by simp only [y4,he,Option.bind_some],h3⟩
  | succ m ih =>
    intro i k h1 h2 h3
    obtain ⟨k,rfl⟩:∃ q,k=q+1:=⟨k-1,by omega⟩
    cases hbi:bad i with
    | true =>
      obtain ⟨q,e,hR⟩:=hb i (by omega) hbi
      exact .inr ⟨q,by simp only [y4,e,Option.bind_some],hR,i,by omega,hbi⟩
    | false =>
      simp only [y4,hs i (by omega) hbi,Option.bind_some]
      refine ih (i+1) k (by omega) (by omega) fun j hj=>?_
      by_cases e:j=i
      ·subst e; exact hbi
      ·exact h3 j (by omega)
 exact key n 0 k (by omega) hk (fun j hj=>by omega)
theorem c6T {α:Type}(f:Nat->α)(a j:Nat)(v:α):((List.range a).map f).set j v=(List.range a).map fun i=>if i=j then v else f i:=by
 apply List.ext_getElem?
 intro i
 rw [List.getElem?_set]
 by_cases hi:i<a
 ·by_cases e:j=i
  ·subst e; simp [hi]
  ·simp [e,hi,Ne.symm e]
 ·by_cases e:j=i
  ·subst e; simp [hi]
  ·simp [e,hi]
theorem a9h {l:List Int}{i:Nat}(h:i<l.length):l[i]?=some (l.getD i 0):=by
 rw [List.getElem?_eq_getElem h]
 simp [List.getD,List.getElem?_eq_getElem h]
def a6n (g:Api_Goal):Api_Goal:=Api_Goal.mk (srt g.Pos) (srt g.Neg) g.Lists
end Go.Pl
end
section
namespace Go.Pl
open Go Go.RowKit Go.Sx Go.Qx
def dig:List Nat->Nat->List Int
 | [],_=>[]
 | m::ms,k=>((k%m:Nat):Int)::dig ms (k / m)
def tot:List Nat->Nat
 | []=>1
 | m::ms=>m*tot ms
def adv:List Int->List Nat->List Int×Bool
 | d::ds,m::ms=>if d+1<(m:Int) then ((d+1)::ds,true) else (0::(adv ds ms).1,(adv ds ms).2)
 | ds,_=>(ds,false)
theorem c0C:∀ (ms:List Nat) (k:Nat),(dig ms k).length=ms.length
 | [],_=>rfl
 | _::ms,k=>by simp [dig,c0C ms]
theorem c2o:∀ (ms:List Nat) (k:Nat),(∀ m∈ms,1<=m)->∀ (j:Nat) (d:Int) (m:Nat),(dig ms k)[j]?=some d->ms[j]?=some m->0<=d/\d<(m:Int)
 | [],_,_,j,d,m,h,_=>by simp [dig] at h
 | m0::ms,k,h1,0,d,m,h,hm=>by
   simp only [dig,List.getElem?_cons_zero,Option.some.injEq] at h hm
   subst h; subst hm
   have:=h1 m0 (by simp)
   have:=Nat.mod_lt k (show 0<m0 by omega)
   omega
 | m0::ms,k,h1,j+1,d,m,h,hm=>c2o ms (k / m0) (fun m hm=>h1 m (by simp [hm])) j d m (by simpa [dig] using h) (by simpa using hm)
theorem c22:∀ (ms:List Nat) (ds:List Int),ds.length=ms.length->(∀ (j:Nat) (d:Int) (m:Nat),ds[j]?=some d->ms[j]?=some m->0<=d/\d<(m:Int))->∃ k,k<tot ms/\dig ms k=ds
 | [],[],_,_=>⟨0,by simp [tot],rfl⟩
 | [],_::_,h,_=>by simp at h
 | _::_,[],h,_=>by simp at h
 | m::ms,d::ds,h,hd=>by
   obtain ⟨k,h1,h2⟩:=c22 ms ds (by simpa using h) fun j e m' he hm=>hd (j+1) e m' (by simpa using he) (by simpa using hm)
   obtain ⟨d1,d2⟩:=hd 0 d m rfl rfl
   obtain ⟨e,rfl⟩:∃ e:Nat,d=(e:Int):=⟨d.toNat,by omega⟩
   have hem:e<m:=by omega
   refine ⟨m*k+e,?_,?_⟩
   ·simp only [tot]
    have:m*(k+1)<=m*tot ms:=Nat.mul_le_mul_left m h1
    rw [Nat.mul_add,Nat.mul_one] at this
    omega
   ·simp only [dig]
    have e1:(m*k+e)%m=e:=by rw [Nat.mul_add_mod,Nat.mod_eq_of_lt hem]
    have e2:(m*k+e) / m=k:=by rw [Nat.mul_add_div (by omega),Nat.div_eq_of_lt hem,Nat.add_zero]
    rw [e1,e2,h2]
theorem c4L:∀ ms:List Nat,(∀ m∈ms,1<=m)->1<=tot ms
 | [],_=>by simp [tot]
 | m::ms,h=>by
   have h1:=h m (by simp)
   have h2:=c4L ms fun x hx=>h x (by simp [hx])
   simp only [tot]
   exact Nat.mul_le_mul h1 h2
theorem c0u:∀ (ms:List Nat) (k:Nat),(∀ m∈ms,1<=m)->k<tot ms->(k+1<tot ms->adv (dig ms k) ms=(dig ms (k+1),true))/\(¬ k+1<tot ms->(adv (dig ms k) ms).2=false)
 | [],k,_,h=>by simp only [tot] at h ⊢; exact ⟨fun h=>by omega,fun _=>rfl⟩
 | m::ms,k,h1,hk=>by
   have hm:=h1 m (by simp)
   have h1':∀ x∈ms,1<=x:=fun x hx=>h1 x (by simp [hx])
   simp only [tot] at hk ⊢
   have hkm:k / m<tot ms:=Nat.div_lt_of_lt_mul hk
   have hdm:=Nat.div_add_mod k m
   have hml:=Nat.mod_lt k (show 0<m by omega)
   obtain ⟨i1,i2⟩:=c0u ms (k / m) h1' hkm
   by_cases hc:k%m+1<m
   ·have e1:(k+1)%m=k%m+1:=by rw [Nat.add_mod,Nat.mod_eq_of_lt (show 1<m by omega),Nat.mod_eq_of_lt (by omega)]
    have e2:(k+1) / m=k / m:=by
     have:k+1=m*(k / m)+(k%m+1):=by omega
     rw [this,Nat.mul_add_div (by omega),Nat.div_eq_of_lt hc,Nat.add_zero]
    have e3:adv (dig (m::ms) k) (m::ms)=((((k%m:Nat):Int)+1)::dig ms (k / m),true):=by
     simp only [dig,adv]
     rw [if_pos (by omega)]
    refine ⟨fun _=>?_,fun hn=>?_⟩
    ·rw [e3]
     simp only [dig]
     rw [e1,e2]
     rfl
    ·exfalso
     apply hn
     have:m*(k / m+1)<=m*tot ms:=Nat.mul_le_mul_left m hkm
     rw [Nat.mul_add,Nat.mul_one] at this
     omega
   ·have hkm1:k%m+1=m:=by omega
    have e0:k+1=m*(k / m+1):=by rw [Nat.mul_add,Nat.mul_one]; omega
    have e1:(k+1)%m=0:=by rw [e0]; simp
    have e2:(k+1) / m=k / m+1:=by rw [e0,Nat.mul_div_cancel_left _ (by omega)]
    have e3:adv (dig (m::ms) k) (m::ms)=(0::(adv (dig ms (k / m)) ms).1,(adv (dig ms (k / m)) ms).2):=by
     simp only [dig,adv]
     rw [if_neg (by omega)]
    have e4:k+1<m*tot ms↔k / m+1<tot ms:=by
     rw [e0]
     exact ⟨fun h=>Nat.lt_of_mul_lt_mul_left h,fun h=>Nat.mul_lt_mul_of_pos_left h (by omega)⟩
    rw [e3]
    refine ⟨fun h=>?_,fun h=>?_⟩
    ·rw [i1 (e4.1 h)]
     simp only [dig]
     rw [e1,e2]
     rfl
    ·exact i2 fun h'=>h (e4.2 h')
theorem c25:∀ ms:List Nat,dig ms 0=List.replicate ms.length 0
 | []=>rfl
 | m::ms=>by simp [dig,c25 ms,List.replicate_succ]
end Go.Pl
end
section
namespace Go.Pl
open Go Go.RowKit Go.Sx Go.Qx
theorem b8A (l:List (List Int))(f:List Int->Option Bool)(p:List Int->Bool)(hl:l.length<=4194304)(hf:∀ x∈l,f x=some (p x)):a1A l f=some (l.any p):=by
 unfold a1A a3R
 rw [Z5]
 rcases a50 (step:=a1t l f) l p (fun i _=>(i:Int)) (fun i x hx=>by
  have hi:i<l.length:=(List.getElem?_eq_some_iff.1 hx).1
  unfold a1t
  rw [Z0 hi,j6 hx]
  simp only [cond_true,Option.bind_some,Z2]
  rw [j9 i (by omega),hf x (List.mem_of_getElem? hx)]
  cases p x<;>rfl) (by
  unfold a1t
  simp) with ⟨i,x,hx,hp,_,e⟩ | ⟨h,e⟩
 ·rw [e,a9M hx hp]
  simp only [Option.bind_some,k7,c06]
 ·rw [e,h]
  rfl
theorem c4e (d:Int)(l:List (List Int))(hl:l.length<=4194304):a5o d l=some (l.all fun r=>(r.length:Int)==d):=by
 unfold a5o
 have h:=b8A l (fun z1=>Option.bind (a9e z1 d) fun r2=>some r2) (fun r=>!((r.length:Int)==d)) hl fun x _=>rfl
 rw [h]
 simp only [Option.bind_some]
 rw [b7G]
def b2b (vi:Int->Bool)(r:List Int)(j:Nat):List Int:=((List.range j).filter fun i=>vi (r.getD i 0)).map fun i:Nat=>(i:Int)
def V0 (vi:Int->Bool)(r:List Int):List Int:=b2b vi r r.length
theorem c53 (vi:Int->Bool)(r:List Int)(j:Nat):b2b vi r (j+1)=b2b vi r j++(if vi (r.getD j 0)=true then [(j:Int)] else []):=by
 unfold b2b
 rw [List.range_succ,List.filter_append,List.map_append,List.filter_cons]
 by_cases h:vi (r.getD j 0)=true
 ·rw [if_pos h,if_pos h]; rfl
 ·rw [if_neg h,if_neg h]; rfl
theorem b87 (vi:Int->Bool)(r:List Int)(j:Nat):(b2b vi r j).length<=j:=by
 unfold b2b
 rw [List.length_map]
 exact Nat.le_trans (List.length_filter_le _ _) (by simp)
theorem c2z {vi:Int->Bool}{r:List Int}{x:Int}:x∈V0 vi r↔∃ i:Nat,x=(i:Int)/\i<r.length/\vi (r.getD i 0)=true:=by
 unfold V0 b2b
 simp only [List.mem_map,List.mem_filter,List.mem_range]
 constructor
 ·rintro ⟨i,⟨h1,h2⟩,rfl⟩; exact ⟨i,rfl,h1,h2⟩
 ·rintro ⟨i,rfl,h1,h2⟩; exact ⟨i,⟨h1,h2⟩,rfl⟩
theorem c8i {α:Type}{l:List α}{k:Nat}{x:α}(h:l[k]?=some x):l.set k x=l:=by
 apply List.ext_getElem?
 intro i
 by_cases e:k=i
 ·subst e; rw [List.getElem?_set_self (List.getElem?_eq_some_iff.1 h).1,h]
 ·rw [List.getElem?_set_ne e]
theorem c72 (vi:Int->Bool)(vf:Int->Option Bool)(k:Nat)(S0 base:List (List Int))(r:List Int)(hr:r.length<=1000)(hv:∀ x∈r,vf x=some (vi x))(hb:base[k]?=some []) :
 y4 (a4b vf ((k:Int),S0) r) (r.length+1) (0,base)=some ((),base.set k (V0 vi r)):=by
 have hk:=(List.getElem?_eq_some_iff.1 hb).1
 have:=b1p (step:=a4b vf ((k:Int),S0) r) (fun j=>((j:Int),base.set k (b2b vi r j))) r.length ((),base.set k (V0 vi r)) (fun j hj=>by
  have hx:=List.getElem?_eq_getElem hj
  have hg:r.getD j 0=r[j]:=by simp [List.getD,hx]
  have hl:=b87 vi r j
  unfold a4b
  simp only [Z2,Int.toNat_natCast]
  rw [Z0 hj,j6 hx]
  simp only [cond_true,Option.bind_some]
  rw [hv _ (List.getElem_mem hj),c53,hg]
  simp only [Option.bind_some]
  have hs:(base.set k (b2b vi r j))[k]?=some (b2b vi r j):=List.getElem?_set_self hk
  cases vi r[j] with
  | false =>
    rw [j9 j (by omega)]
    simp
  | true =>
    simp only [cond_true]
    rw [j6 hs,hs]
    simp only [Option.bind_some]
    rw [Q9 (by simp only [List.length_cons,List.length_nil]; omega),j9 j (by omega)]
    have hbq:Nat.beq (k+2) (k+2)=true:=by simp
    simp only [Option.bind_some,hbq,cond_true,List.set_set,if_true]) (by
  unfold a4b
  simp [V0]) (r.length+1) (Nat.le_refl _)
 have e0:base.set k (b2b vi r 0)=base:=c8i hb
 simp only [e0] at this
 exact this
theorem c78 (vi:Int->Bool)(vf:Int->Option Bool)(neg:List (List Int))(hn:neg.length<=1000)(hr:∀ r∈neg,r.length<=1000)(hv:∀ r∈neg,∀ x∈r,vf x=some (vi x)) :
 (y4 (a12 neg vf) (neg.length+1) (0,List.replicate neg.length ([]:List Int))=some (.inl ((),neg.map (V0 vi)))/\∀ r∈neg,V0 vi r≠[]) \/
 ∃ q,y4 (a12 neg vf) (neg.length+1) (0,List.replicate neg.length ([]:List Int))=some (.inr q)/\q.1=[]/\∃ r∈neg,V0 vi r=[]:=by
 have key:=b7m (step:=a12 neg vf) (fun k=>((k:Int),(List.range neg.length).map fun i=>if i<k then V0 vi (neg.getD i []) else [])) (fun k=>(V0 vi (neg.getD k [])).isEmpty) neg.length
  (.inl ((),neg.map (V0 vi))) (fun q=>∃ q',q=.inr q'/\q'.1=[]) (fun k hk hb=>?_) (fun k hk hb=>?_) ?_ (neg.length+1) (Nat.le_refl _)
 ·have e0:(List.range neg.length).map (fun i=>if i<0 then V0 vi (neg.getD i []) else [])=List.replicate neg.length ([]:List Int):=by
   apply List.ext_getElem?
   intro i
   by_cases hi:i<neg.length<;>simp [hi]
  simp only [e0] at key
  have hgd:∀ i (hi:i<neg.length),neg.getD i []=neg[i]:=fun i hi=>by simp [List.getD,List.getElem?_eq_getElem hi]
  rcases key with ⟨k1,k2⟩ | ⟨q,k1,⟨q',rfl,k2⟩,i,hi,k3⟩
  ·left
   refine ⟨k1,fun r hr e=>?_⟩
   obtain ⟨i,hi,rfl⟩:=List.getElem_of_mem hr
   have:=k2 i hi
   rw [hgd i hi,e] at this
   cases this
  ·right
   refine ⟨q',k1,k2,neg[i],List.getElem_mem hi,?_⟩
   rw [hgd i hi] at k3
   exact List.isEmpty_iff.1 k3
 all_goals
  try
   have hx:=List.getElem?_eq_getElem hk
   have hg:neg.getD k []=neg[k]:=by simp [List.getD,hx]
   have hm:=List.getElem_mem hk
   have hb0:((List.range neg.length).map fun i=>if i<k then V0 vi (neg.getD i []) else [])[k]?=some []:=by simp [hk]
   have h1:=c72 vi vf k ((List.range neg.length).map fun i=>if i<k then V0 vi (neg.getD i []) else []) _ neg[k] (hr _ hm) (hv _ hm) hb0
   rw [c6T] at h1
   have hnew:((List.range neg.length).map fun i=>if i=k then V0 vi neg[k] else if i<k then V0 vi (neg.getD i []) else [])=(List.range neg.length).map fun i=>if i<k+1 then V0 vi (neg.getD i []) else []:=by
    apply List.map_congr_left
    intro j hj
    by_cases h1:j=k
    ·subst h1; rw [if_pos rfl,if_pos (by omega),hg]
    ·by_cases h2:j<k
     ·rw [if_neg h1,if_pos h2,if_pos (by omega)]
     ·rw [if_neg h1,if_neg h2,if_neg (by omega)]
   rw [hnew] at h1
   have hs:((List.range neg.length).map fun i=>if i<k+1 then V0 vi (neg.getD i []) else [])[k]?=some (V0 vi neg[k]):=by simp only [List.getElem?_map,List.getElem?_range hk,Option.map_some,if_pos (show k<k+1 by omega),hg]
   rw [hg] at hb
 ·unfold a12
  simp only [Z2,Z5]
  rw [Z0 hk,j6 hx]
  simp only [cond_true,Option.bind_some]
  rw [h1]
  simp only [Option.bind_some,Int.toNat_natCast]
  rw [j6 hs,hs,j9 k (by omega)]
  simp only [Option.bind_some]
  have:(((V0 vi neg[k]).length:Int)==0)=false:=by
   cases h:V0 vi neg[k] with
   | nil=>rw [h] at hb; cases hb
   | cons a b=>simp; omega
  rw [this]
  rfl
 ·refine ⟨.inr ([],(List.range neg.length).map fun i=>if i<k+1 then V0 vi (neg.getD i []) else []),?_,_,rfl,rfl⟩
  unfold a12
  simp only [Z2,Z5]
  rw [Z0 hk,j6 hx]
  simp only [cond_true,Option.bind_some]
  rw [h1]
  simp only [Option.bind_some,Int.toNat_natCast]
  rw [j6 hs,hs]
  simp only [Option.bind_some]
  rw [List.isEmpty_iff.1 hb]
  rfl
 ·unfold a12
  simp only [Int.lt_irrefl,decide_false,cond_false]
  have:((List.range neg.length).map fun i=>if i<neg.length then V0 vi (neg.getD i []) else [])=neg.map (V0 vi):=by
   apply List.ext_getElem?
   intro i
   by_cases hi:i<neg.length
   ·simp [hi]
   ·simp [hi]
  rw [this]
theorem b9r:∀ (ds:List Int) (os:List (List Int)) (i k:Nat) (digits:List Int) (options:List (List Int)),digits.length=i+ds.length->options.length=i+os.length->options.drop i=os->ds.length=os.length->ds.length+1<=k->i+ds.length<=4194304 ->
 (∀ d∈ds,0<=d/\d<=4194304)->y4 (a0d digits options) k ((i:Int),List.replicate i 0++ds)=some (if (adv ds (os.map List.length)).2=true then .inr (true,List.replicate i 0++(adv ds (os.map List.length)).1) else .inl ((),List.replicate i 0++(adv ds (os.map List.length)).1))
 | [],[],i,k,digits,options,h1,h2,h3,h4,h5,h6,h7=>by
   obtain ⟨k,rfl⟩:∃ q,k=q+1:=⟨k-1,by omega⟩
   have:a0d digits options ((i:Int),List.replicate i 0++[])=some (.done (.inl ((),List.replicate i 0++[]))):=by
    unfold a0d
    have:decide ((i:Int)<(digits.length:Int))=false:=by rw [h1]; simp
    simp only [this,cond_false]
   simp only [y4,this,Option.bind_some]
   rfl
 | [],_::_,_,_,_,_,_,_,_,h,_,_,_=>by simp at h
 | _::_,[],_,_,_,_,_,_,_,h,_,_,_=>by simp at h
 | d::ds,o::os,i,k,digits,options,h1,h2,h3,h4,h5,h6,h7=>by
   obtain ⟨k,rfl⟩:∃ q,k=q+1:=⟨k-1,by omega⟩
   obtain ⟨d1,d2⟩:=h7 d (by simp)
   simp only [List.length_cons] at h1 h2 h4 h5 h6
   have hA:(List.replicate i (0:Int)++d::ds)[i]?=some d:=by rw [List.getElem?_append_right (by simp)]; simp
   have hil:i<(List.replicate i (0:Int)++d::ds).length:=(List.getElem?_eq_some_iff.1 hA).1
   have ho:options[i]?=some o:=by
    have:(options.drop i)[0]?=some o:=by rw [h3]; rfl
    rwa [List.getElem?_drop,Nat.add_zero] at this
   have hset:∀ x:Int,(List.replicate i (0:Int)++d::ds).set i x=List.replicate i 0++x::ds:=fun x=>by
    rw [List.set_append_right _ _ (by simp)]
    simp
   have hA2:∀ x:Int,(List.replicate i (0:Int)++x::ds)[i]?=some x:=fun x=>by rw [List.getElem?_append_right (by simp)]; simp
   have hw:w64 (d+1)=d+1:=K1 (by omega) (by omega)
   have hmap:(o::os).map List.length=o.length::os.map List.length:=rfl
   rw [hmap]
   by_cases hc:d+1<(o.length:Int)
   ·have:a0d digits options ((i:Int),List.replicate i 0++d::ds)=some (.done (.inr (true,List.replicate i 0++(d+1)::ds))):=by
     unfold a0d
     simp only [Z2,Int.toNat_natCast]
     rw [show decide ((i:Int)<(digits.length:Int))=true from decide_eq_true (by omega),j6 hA,hA]
     simp only [cond_true,Option.bind_some,hw,hset]
     rw [j6 (hA2 (d+1)),hA2,j6 ho]
     simp only [Option.bind_some]
     rw [show decide (d+1<(o.length:Int))=true from by simpa using hc]
     rfl
    simp only [y4,this,Option.bind_some,adv,if_pos hc,if_true]
   ·have:a0d digits options ((i:Int),List.replicate i 0++d::ds)=some (.next (((i+1:Nat):Int),List.replicate (i+1) 0++ds)):=by
     unfold a0d
     simp only [Z2,Int.toNat_natCast]
     rw [show decide ((i:Int)<(digits.length:Int))=true from decide_eq_true (by omega),j6 hA,hA]
     simp only [cond_true,Option.bind_some,hw,hset]
     rw [j6 (hA2 (d+1)),hA2,j6 ho]
     simp only [Option.bind_some]
     rw [show decide (d+1<(o.length:Int))=false from by simpa using hc,j9 i (by omega)]
     simp only [cond_false]
     rw [List.set_append_right _ _ (by simp)]
     simp [List.replicate_succ']
    simp only [y4,this,Option.bind_some,adv,if_neg hc]
    have ih:=b9r ds os (i+1) k digits options (by omega) (by omega) (by rw [<- List.drop_drop,h3]; rfl) (by omega) (by omega) (by omega) (fun x hx=>h7 x (by simp [hx]))
    rw [ih]
    simp [List.replicate_succ']
theorem d0M (ds:List Int)(os:List (List Int))(h:ds.length=os.length)(hl:ds.length<=4194304)(hd:∀ d∈ds,0<=d/\d<=4194304):a4H ds os=some ((adv ds (os.map List.length)).2,(adv ds (os.map List.length)).1):=by
 have:=b9r ds os 0 (ds.length+1) ds os (by omega) (by omega) rfl h (Nat.le_refl _) (by omega) hd
 have e:y4 (a0d ds os) (ds.length+1) (0,ds)=_:=this
 unfold a4H
 rw [Z5,e]
 cases hf:(adv ds (os.map List.length)).2<;>simp [k7]
def a36 (pos:List (List Int))(i:Nat):List Int:=pos.map fun r=>r.getD i 0
def a6f (z:List (List Int×Int))(i:Nat):List Int:=(z.filter fun q=>q.2==(i:Int)).map fun q=>q.1.getD i 0
def a7y (pos:List (List Int))(z:List (List Int×Int))(i:Nat):Api_Goal:=g0 (a36 pos i) (a6f z i)
def a6b (w:Nat)(pos:List (List Int))(z:List (List Int×Int)):Option Api_Box :=
 if (List.range w).any (fun i=>b5a (a36 pos i) (a6f z i))=true then none else some (Api_Box.mk ((List.range w).map fun i=>a6n (a7y pos z i)))
theorem b5W (z:List (List Int×Int))(i:Nat):(a6f z i).length<=z.length:=by
 unfold a6f
 rw [List.length_map]
 exact List.length_filter_le _ _
theorem c4k (pos:List (List Int))(i w:Nat)(hp:pos.length<=1000)(hr:∀ r∈pos,r.length=w)(hi:i<w)(g h:List Api_Goal):y4 (a5x pos ((i:Int),g,h)) (pos.length+1) (0,([],[],false))=some (a36 pos i,[],false):=by
 have:=b1p (step:=a5x pos ((i:Int),g,h)) (fun k=>((k:Int),(a36 (pos.take k) i,([]:List Int),false))) pos.length (a36 pos i,[],false) (fun k hk=>by
  have hx:=List.getElem?_eq_getElem hk
  have hl:=hr _ (List.getElem_mem hk)
  generalize pos[k]=r at hx hl
  unfold a5x
  simp only [Z2]
  rw [Z0 hk,j6 hx]
  simp only [cond_true,Option.bind_some]
  rw [j6 (a9h (show i<r.length by omega))]
  simp only [Option.bind_some]
  rw [Q9 (by unfold a36; simp only [List.length_map,List.length_take,List.length_cons,List.length_nil]; omega),j9 k (by omega),a6I hx]
  simp [a36]) (by
  unfold a5x
  simp) (pos.length+1) (Nat.le_refl _)
 exact this
theorem c4l (neg opts:List (List Int))(digits:List Int)(i w:Nat)(z:List (List Int×Int))(hn:neg.length<=1000)(hr:∀ r∈neg,r.length=w)(hi:i<w)(hzl:z.length=neg.length)
 (hz:∀ (k:Nat) (q:List Int×Int),z[k]?=some q->neg[k]?=some q.1/\∃ o d,opts[k]?=some o/\digits[k]?=some d/\idx o d=some q.2) (g h:List Api_Goal) (P:List Int) :
 y4 (a5s neg opts digits ((i:Int),g,h)) (neg.length+1) (0,(P,[],false))=some (P,a6f z i,false):=by
 have:=b1p (step:=a5s neg opts digits ((i:Int),g,h)) (fun k=>((k:Int),(P,a6f (z.take k) i,false))) neg.length (P,a6f z i,false) (fun k hk=>by
  have hq:=List.getElem?_eq_getElem (show k<z.length by omega)
  generalize z[k]=q at hq
  obtain ⟨h1,o,d,h2,h3,h4⟩:=hz k q hq
  have hl:=hr _ (List.mem_of_getElem? h1)
  have hneg:a6f (z.take (k+1)) i=a6f (z.take k) i++(if q.2==(i:Int) then [q.1.getD i 0] else []):=by
   unfold a6f
   rw [a6I hq,List.filter_append,List.map_append]
   by_cases e:q.2==(i:Int)<;>simp [e]
  have hlen:=b5W (z.take k) i
  rw [List.length_take] at hlen
  unfold a5s
  simp only [Z2,Int.toNat_natCast]
  rw [Z0 hk,j6 h1,j6 h2,j6 h3,h3]
  simp only [cond_true,Option.bind_some]
  rw [h4,hneg]
  simp only [Option.bind_some]
  cases q.2==(i:Int) with
  | true =>
    simp only [cond_true]
    rw [j6 (a9h (show i<q.1.length by omega))]
    simp only [Option.bind_some]
    rw [Q9 (by simp only [List.length_cons,List.length_nil]; omega),j9 k (by omega)]
    rfl
  | false =>
    rw [j9 k (by omega)]
    simp) (by
  unfold a5s
  rw [List.take_of_length_le (by omega)]
  simp) (neg.length+1) (Nat.le_refl _)
 exact this
theorem d0p (w:Nat)(hw:w<=1000)(pos neg opts:List (List Int))(digits:List Int)(z:List (List Int×Int))(hp:pos.length<=1000)(hpr:∀ r∈pos,r.length=w)(hn:neg.length<=1000)(hnr:∀ r∈neg,r.length=w)(hzl:z.length=neg.length)
 (hz:∀ (k:Nat) (q:List Int×Int),z[k]?=some q->neg[k]?=some q.1/\∃ o d,opts[k]?=some o/\digits[k]?=some d/\idx o d=some q.2) :
 ∃ b,a8a (w:Int) pos neg opts digits=some (b,(a6b w pos z).isSome)/\∀ b',a6b w pos z=some b'->b=b':=by
 have key:=b7m (step:=a2U (w:Int) pos neg opts digits) (fun i=>((i:Int),([]:List Api_Goal),(List.range i).map fun i=>a6n (a7y pos z i))) (fun i=>b5a (a36 pos i) (a6f z i)) w
  (.inl (([]:List Api_Goal),(List.range w).map fun i=>a6n (a7y pos z i))) (fun q=>∃ q',q=.inr q'/\q'.1=false) (fun i hi hb=>?_) (fun i hi hb=>?_) ?_ (w+1) (Nat.le_refl _)
 ·unfold a8a a9I
  rw [Int.toNat_natCast]
  rcases key with ⟨k1,k2⟩ | ⟨q,k1,⟨q',rfl,k2⟩,i,hi,k3⟩
  ·have k1':y4 (a2U (w:Int) pos neg opts digits) (w+1) (0,[],[])=_:=k1
   have hb:a6b w pos z=some (Api_Box.mk ((List.range w).map fun i=>a6n (a7y pos z i))):=by
    unfold a6b
    rw [if_neg]
    rw [List.any_eq_true]
    rintro ⟨i,hi,h⟩
    rw [k2 i (by simpa using hi)] at h
    cases h
   rw [k1',hb]
   exact ⟨_,rfl,fun b' h=>by simpa using h⟩
  ·have k1':y4 (a2U (w:Int) pos neg opts digits) (w+1) (0,[],[])=_:=k1
   have hb:a6b w pos z=none:=by
    unfold a6b
    rw [if_pos]
    rw [List.any_eq_true]
    exact ⟨i,by simpa using hi,k3⟩
   rw [k1',hb]
   refine ⟨Api_Box.mk q'.2.1,?_,fun b' h=>by cases h⟩
   simp only [Option.bind_some,k7,k2]
   rfl
 ·have b1:=c4k pos i w hp hpr hi ([]:List Api_Goal) ((List.range i).map fun i=>a6n (a7y pos z i))
  have b2:=c4l neg opts digits i w z hn hnr hi hzl hz ([]:List Api_Goal) ((List.range i).map fun i=>a6n (a7y pos z i)) (a36 pos i)
  have h1:(a36 pos i).length<=1000:=by unfold a36; rw [List.length_map]; exact hp
  have h2:=b5W z i
  unfold a2U
  simp only [Z2,Z5]
  rw [Z0 hi,b1]
  simp only [cond_true,Option.bind_some]
  rw [b2]
  simp only [Option.bind_some]
  rw [c4p _ _ (by omega) (by omega),hb]
  simp only [Option.bind_some,cond_false]
  rw [c58 _ _ _ (by omega) (by omega)]
  simp only [Option.bind_some]
  rw [Q9 (by simp only [List.length_map,List.length_range,List.length_cons,List.length_nil]; omega),j9 i (by omega)]
  simp [List.range_succ,a6n,a7y]
 ·have b1:=c4k pos i w hp hpr hi ([]:List Api_Goal) ((List.range i).map fun i=>a6n (a7y pos z i))
  have b2:=c4l neg opts digits i w z hn hnr hi hzl hz ([]:List Api_Goal) ((List.range i).map fun i=>a6n (a7y pos z i)) (a36 pos i)
  have h1:(a36 pos i).length<=1000:=by unfold a36; rw [List.length_map]; exact hp
  have h2:=b5W z i
  refine ⟨.inr (false,((List.range i).map fun i=>a6n (a7y pos z i)),()),?_,_,rfl,rfl⟩
  unfold a2U
  simp only [Z2,Z5]
  rw [Z0 hi,b1]
  simp only [cond_true,Option.bind_some]
  rw [b2]
  simp only [Option.bind_some]
  rw [c4p _ _ (by omega) (by omega),hb]
  rfl
 ·unfold a2U
  simp
def a5w (opts:List (List Int))(digits:List Int):List Int:=(opts.zip digits).map fun q=>q.1.getD q.2.toNat 0
def c5k (w:Nat)(pos neg opts:List (List Int)):List Api_Box:=(List.range (tot (opts.map List.length))).filterMap fun k=>a6b w pos (neg.zip (a5w opts (dig (opts.map List.length) k)))
def a1P (d:Int)(vi:Int->Bool)(pos neg:List (List Int)):List Api_Box :=
 if d<0\/4<d\/(∃ r∈pos,(r.length:Int)≠d)\/(∃ r∈neg,(r.length:Int)≠d)\/(∃ r∈neg,V0 vi r=[]) then [] else c5k d.toNat pos neg (neg.map (V0 vi))
theorem c0j {α β:Type}(f:α->Option β)(l:List α)(x:α):(l++[x]).filterMap f=l.filterMap f++(f x).toList:=by
 rw [List.filterMap_append]
 cases h:f x<;>simp [h]
theorem c65 (w:Nat)(hw:w<=1000)(pos neg opts:List (List Int))(hp:pos.length<=1000)(hpr:∀ r∈pos,r.length=w)(hn:neg.length<=1000)(hnr:∀ r∈neg,r.length=w)(hol:opts.length=neg.length)(ho:∀ o∈opts,o≠[]/\o.length<=1000)(ht:tot (opts.map List.length)<=4194304)(n:Nat)(hn2:4194304<=n) :
 ∃ q,y4 (a4a (w:Int) pos neg ((),opts)) n (List.replicate neg.length (0:Int),[])=some (c5k w pos neg opts,q):=by
 have hms:∀ m∈opts.map List.length,1<=m:=fun m hm=>by
  obtain ⟨o,ho1,rfl⟩:=List.mem_map.1 hm
  have:=List.length_pos_iff.2 (ho o ho1).1
  omega
 have htp:=c4L _ hms
 have hml:(opts.map List.length).length=neg.length:=by rw [List.length_map,hol]
 have hd0:List.replicate neg.length (0:Int)=dig (opts.map List.length) 0:=by rw [c25,hml]
 have hfl:∀ k,((List.range k).filterMap fun k=>a6b w pos (neg.zip (a5w opts (dig (opts.map List.length) k)))).length<=k:=fun k=>Nat.le_trans (List.length_filterMap_le _ _) (by simp)
 have hround:∀ k,k<tot (opts.map List.length)->∃ b27,b27=((List.range (k+1)).filterMap fun k=>a6b w pos (neg.zip (a5w opts (dig (opts.map List.length) k)))) /\
  a4a (w:Int) pos neg ((),opts) (dig (opts.map List.length) k,(List.range k).filterMap fun k=>a6b w pos (neg.zip (a5w opts (dig (opts.map List.length) k)))) =
   some (if (adv (dig (opts.map List.length) k) (opts.map List.length)).2=true then .next ((adv (dig (opts.map List.length) k) (opts.map List.length)).1,b27) else .done (b27,(adv (dig (opts.map List.length) k) (opts.map List.length)).1)):=fun k hk=>by
  have hdl:=c0C (opts.map List.length) k
  have hdm:∀ (j:Nat) (d:Int) (o:List Int),(dig (opts.map List.length) k)[j]?=some d->opts[j]?=some o->0<=d/\d<(o.length:Int):=fun j d o h1 h2=>c2o _ k hms j d o.length h1 (by rw [List.getElem?_map,h2]; rfl)
  have hcl:(a5w opts (dig (opts.map List.length) k)).length=neg.length:=by unfold a5w; rw [List.length_map,List.length_zip,hdl,hml,hol]; omega
  obtain ⟨b,b1,b2⟩:=d0p w hw pos neg opts (dig (opts.map List.length) k) (neg.zip (a5w opts (dig (opts.map List.length) k))) hp hpr hn hnr (by rw [List.length_zip,hcl]; omega) (fun j q hq=>by
   obtain ⟨q1,q2⟩:=b6w hq
   have hj:=(List.getElem?_eq_some_iff.1 q1).1
   have ho1:=List.getElem?_eq_getElem (show j<opts.length by omega)
   have hd1:=List.getElem?_eq_getElem (show j<(dig (opts.map List.length) k).length by omega)
   refine ⟨q1,_,_,ho1,hd1,?_⟩
   obtain ⟨e1,e2⟩:=hdm j _ _ hd1 ho1
   generalize opts[j]=o at ho1 e2
   generalize (dig (opts.map List.length) k)[j]=d at hd1 e1 e2
   have hc:(a5w opts (dig (opts.map List.length) k))[j]?=some (o.getD d.toNat 0):=by
    unfold a5w
    rw [List.getElem?_map,(List.getElem?_zip_eq_some (z:=(o,d))).2 ⟨ho1,hd1⟩]
    rfl
   rw [hc] at q2
   have q3:o.getD d.toNat 0=q.2:=Option.some.inj q2
   have:=j6 (a9h (show d.toNat<o.length by omega))
   rw [show ((d.toNat:Nat):Int)=d by omega] at this
   rw [this,q3])
  refine ⟨_,rfl,?_⟩
  have hfk:=hfl k
  unfold a4a
  simp only
  rw [b1,List.range_succ,c0j]
  simp only [Option.bind_some]
  have hadv:=d0M (dig (opts.map List.length) k) opts (by rw [hdl,hml,hol]) (by rw [hdl,hml]; omega) (fun d hd=>by
   obtain ⟨j,hj,rfl⟩:=List.getElem_of_mem hd
   have hd1:=List.getElem?_eq_getElem hj
   have ho1:=List.getElem?_eq_getElem (show j<opts.length by rw [hdl,hml] at hj; omega)
   obtain ⟨e1,e2⟩:=hdm j _ _ hd1 ho1
   have:=(ho _ (List.mem_of_getElem? ho1)).2
   omega)
  cases hbx:a6b w pos (neg.zip (a5w opts (dig (opts.map List.length) k))) with
  | none =>
    simp only [Option.isSome_none,cond_false,Option.bind_some,Option.toList_none,List.append_nil]
    rw [hadv]
    simp only [Option.bind_some]
    cases (adv (dig (opts.map List.length) k) (opts.map List.length)).2<;>rfl
  | some b' =>
    rw [b2 b' hbx]
    simp only [Option.isSome_some,cond_true,Option.toList_some]
    rw [Q9 (by simp only [List.length_cons,List.length_nil]; omega)]
    simp only [Option.bind_some]
    rw [hadv]
    simp only [Option.bind_some]
    cases (adv (dig (opts.map List.length) k) (opts.map List.length)).2<;>rfl
 obtain ⟨b27,e27,hlast⟩:=hround (tot (opts.map List.length)-1) (by omega)
 obtain ⟨_,a2⟩:=c0u (opts.map List.length) (tot (opts.map List.length)-1) hms (by omega)
 rw [a2 (by omega)] at hlast
 simp only [Bool.false_eq_true,if_false] at hlast
 rw [show tot (opts.map List.length)-1+1=tot (opts.map List.length) by omega] at e27
 refine ⟨(adv (dig (opts.map List.length) (tot (opts.map List.length)-1)) (opts.map List.length)).1,?_⟩
 have:=b1p (step:=a4a (w:Int) pos neg ((),opts)) (fun k=>(dig (opts.map List.length) k,(List.range k).filterMap fun k=>a6b w pos (neg.zip (a5w opts (dig (opts.map List.length) k))))) (tot (opts.map List.length)-1) _ (fun k hk=>by
  obtain ⟨b27,e27,hr⟩:=hround k (by omega)
  obtain ⟨a1,_⟩:=c0u (opts.map List.length) k hms (by omega)
  rw [a1 (by omega)] at hr
  rw [hr,e27]
  rfl) hlast n (by omega)
 rw [hd0]
 refine this.trans ?_
 rw [e27]
 rfl
theorem c8B (d:Int)(vi:Int->Bool)(vf:Int->Option Bool)(pos neg:List (List Int))(hp:pos.length<=1000)(hn:neg.length<=10)(hv:∀ r∈neg,∀ x∈r,vf x=some (vi x))(n:Nat)(hn2:4194304<=n) :
 a2C n d pos neg vf=some (a1P d vi pos neg):=by
 unfold a2C a1P
 have hq1:(Option.bind (bif decide (d<0) then some true else some (decide (4<d))) fun q=>some q)=some (decide (d<0\/4<d)):=by
  by_cases h1:d<0
  ·simp [h1]
  ·by_cases h2:4<d<;>simp [h1,h2]
 rw [W7] at hq1
 rw [hq1,c4e d pos (by omega),c4e d neg (by omega)]
 simp only [Option.bind_some]
 by_cases h0:d<0\/4<d
 ·rw [decide_eq_true h0,if_pos (by rcases h0 with h | h<;>simp [h])]
  rfl
 rw [decide_eq_false h0]
 have h0':¬ d<0/\¬ 4<d:=not_or.1 h0
 simp only [cond_false,Option.bind_some]
 have hall:∀ l:List (List Int),(l.all fun r=>(r.length:Int)==d)=false↔∃ r∈l,(r.length:Int)≠d:=fun l=>by
  rw [List.all_eq_false]
  simp
 cases hP:pos.all fun r=>(r.length:Int)==d with
 | false =>
   rw [if_pos (.inr (.inr (.inl ((hall pos).1 hP))))]
   rfl
 | true =>
   simp only [Bool.not_true,cond_false,Option.bind_some]
   cases hN:neg.all fun r=>(r.length:Int)==d with
   | false =>
     rw [if_pos (.inr (.inr (.inr (.inl ((hall neg).1 hN)))))]
     rfl
   | true =>
     simp only [Bool.not_true,cond_false]
     have hpr:∀ r∈pos,r.length=d.toNat:=fun r hr=>by
      have h1:=List.all_eq_true.1 hP r hr
      have h2:(r.length:Int)=d:=by simpa using h1
      omega
     have hnr:∀ r∈neg,r.length=d.toNat:=fun r hr=>by
      have h1:=List.all_eq_true.1 hN r hr
      have h2:(r.length:Int)=d:=by simpa using h1
      omega
     have hroom:∀ b,b<=1000->a6t (neg.length:Int) (neg.length:Int) b=some neg.length:=fun b hb=>by
      unfold a6t
      have h1:neg.length*b<=10*1000:=Nat.mul_le_mul hn hb
      have h2:((neg.length:Int))*((b:Nat):Int)<=140737488355328:=by rw [<- Int.natCast_mul]; omega
      rw [show (decide (0<=(neg.length:Int))&&decide ((neg.length:Int)<=(neg.length:Int))&&decide ((neg.length:Int)*((b:Nat):Int)<=140737488355328))=true from by simp [h2]]
      simp
     rw [hroom 24 (by omega)]
     simp only [Option.bind_some,Z5]
     rcases c78 vi vf neg (by omega) (fun r hr=>by have:=hnr r hr; omega) hv with ⟨k1,k2⟩ | ⟨q,k1,k2,k3⟩
     ·rw [k1]
      simp only [Option.bind_some,k7]
      rw [hroom 8 (by omega)]
      simp only [Option.bind_some]
      have hto:∀ l:List (List Int),(∀ r∈l,r.length<=4)->l.length<=10->tot ((l.map (V0 vi)).map List.length)<=4^l.length:=by
       intro l
       induction l with
       | nil=>intro _ _; simp [tot]
       | cons r l ih =>
         intro h1 h2
         have ih:=ih (fun r hr=>h1 r (by simp [hr])) (by simp at h2; omega)
         simp only [List.map_cons,tot,List.length_cons,Nat.pow_succ]
         have h3:=b87 vi r r.length
         have h4:=h1 r (by simp)
         have h5:(V0 vi r).length<=4:=by unfold V0; omega
         rw [Nat.mul_comm]
         exact Nat.mul_le_mul ih h5
      have ht:=hto neg (fun r hr=>by have:=hnr r hr; omega) hn
      have hpow:4^neg.length<=4^10:=Nat.pow_le_pow_right (by omega) hn
      obtain ⟨q,hq⟩:=c65 d.toNat (by omega) pos neg (neg.map (V0 vi)) hp hpr (by omega) hnr (by rw [List.length_map]) (fun o ho=>by
       obtain ⟨r,hr,rfl⟩:=List.mem_map.1 ho
       have h3:=b87 vi r r.length
       have h4:=hnr r hr
       exact ⟨k2 r hr,by unfold V0; omega⟩) (Nat.le_trans (Nat.le_trans ht hpow) (by decide)) n hn2
      rw [show ((d.toNat:Nat):Int)=d by omega] at hq
      rw [hq,if_neg]
      ·rfl
      ·rintro (h | h | ⟨r,hr,h⟩ | ⟨r,hr,h⟩ | ⟨r,hr,h⟩)
       ·exact h0'.1 h
       ·exact h0'.2 h
       ·have:=hpr r hr; omega
       ·have:=hnr r hr; omega
       ·exact k2 r hr h
     ·rw [k1]
      simp only [Option.bind_some,k7]
      rw [if_pos (.inr (.inr (.inr (.inr k3)))),k2]
end Go.Pl
end
section
namespace Go.Pl
open Go Go.RowKit Go.Sx Go.Qx
end Go.Pl
end
section
namespace Go.Pl
open Go Go.RowKit Go.Sx Go.Qx
def inB (g:Api_Goal)(S:Int->Bool):Bool:=g.Pos.all S&&g.Neg.all fun x=>!S x
theorem c7E (p q:List Int)(S:Int->Bool):inB (a6n (g0 p q)) S=true↔(∀ x∈p,S x=true)/\∀ x∈q,S x=false:=by
 unfold inB a6n
 rw [Bool.and_eq_true,List.all_eq_true,List.all_eq_true]
 constructor
 ·rintro ⟨h1,h2⟩
  exact ⟨fun x hx=>h1 x ((b02 p x).2 hx),fun x hx=>by simpa using h2 x ((b02 q x).2 hx)⟩
 ·rintro ⟨h1,h2⟩
  exact ⟨fun x hx=>h1 x ((b02 p x).1 hx),fun x hx=>by simpa using h2 x ((b02 q x).1 hx)⟩
theorem b8r {α β:Type}(P:α->β->Prop):∀ l:List α,(∀ x∈l,∃ y,P x y)->∃ m:List β,m.length=l.length/\∀ (j:Nat) (x:α) (y:β),l[j]?=some x->m[j]?=some y->P x y
 | [],_=>⟨[],rfl,fun j x y h=>by simp at h⟩
 | a::l,h=>by
   obtain ⟨m,h1,h2⟩:=b8r P l fun x hx=>h x (by simp [hx])
   obtain ⟨y,hy⟩:=h a (by simp)
   refine ⟨y::m,by simp [h1],fun j x z hx hz=>?_⟩
   cases j with
   | zero=>simp at hx hz; subst hx; subst hz; exact hy
   | succ j=>exact h2 j x z (by simpa using hx) (by simpa using hz)
theorem c4d {vi:Int->Bool}{neg:List (List Int)}{ds:List Int}(h:ds.length=neg.length){q:List Int×Int}:q∈neg.zip (a5w (neg.map (V0 vi)) ds)↔∃ (j:Nat) (d:Int),neg[j]?=some q.1/\ds[j]?=some d/\q.2=(V0 vi q.1).getD d.toNat 0:=by
 constructor
 ·intro hq
  obtain ⟨j,hj,e⟩:=List.getElem_of_mem hq
  have hq':=List.getElem?_eq_getElem hj
  rw [e] at hq'
  obtain ⟨q1,q2⟩:=b6w hq'
  have hjn:=(List.getElem?_eq_some_iff.1 q1).1
  have hd:=List.getElem?_eq_getElem (show j<ds.length by omega)
  refine ⟨j,_,q1,hd,?_⟩
  unfold a5w at q2
  rw [List.getElem?_map,(List.getElem?_zip_eq_some (z:=(V0 vi q.1,ds[j]))).2 ⟨by rw [List.getElem?_map,q1]; rfl,hd⟩] at q2
  exact (Option.some.inj q2).symm
 ·rintro ⟨j,d,q1,hd,q2⟩
  refine List.mem_of_getElem? (i:=j) ?_
  rw [List.getElem?_zip_eq_some]
  refine ⟨q1,?_⟩
  unfold a5w
  rw [List.getElem?_map,(List.getElem?_zip_eq_some (z:=(V0 vi q.1,d))).2 ⟨by rw [List.getElem?_map,q1]; rfl,hd⟩,q2]
  rfl
theorem b8Q {z:List (List Int×Int)}{i:Nat}{x:Int}:x∈a6f z i↔∃ q∈z,q.2=(i:Int)/\q.1.getD i 0=x:=by
 unfold a6f
 simp only [List.mem_map,List.mem_filter,beq_iff_eq]
 constructor
 ·rintro ⟨q,⟨h1,h2⟩,h3⟩; exact ⟨q,h1,h2,h3⟩
 ·rintro ⟨q,h1,h2,h3⟩; exact ⟨q,⟨h1,h2⟩,h3⟩
theorem c57 {p q:List Int}:b5a p q=true↔∃ x∈p,x∈q:=by
 unfold b5a
 simp
theorem b5y {d:Int}{vi:Int->Bool}{pos neg:List (List Int)}{b:Api_Box}(h:b∈a1P d vi pos neg):∃ (w:Nat) (ds:List Int),d=(w:Int)/\w<=4/\(∀ r∈pos,r.length=w)/\(∀ r∈neg,r.length=w)/\ds.length=neg.length /\
 (∀ (j:Nat) (r:List Int) (e:Int),neg[j]?=some r->ds[j]?=some e->0<=e/\e<((V0 vi r).length:Int))/\a6b w pos (neg.zip (a5w (neg.map (V0 vi)) ds))=some b:=by
 unfold a1P at h
 split at h
 ·cases h
 rename_i hc
 simp only [not_or,not_exists,not_and] at hc
 obtain ⟨h1,h2,h3,h4,h5⟩:=hc
 unfold c5k at h
 obtain ⟨k,hk,hb⟩:=List.mem_filterMap.1 h
 have hms:∀ m∈(neg.map (V0 vi)).map List.length,1<=m:=fun m hm=>by
  obtain ⟨o,ho,rfl⟩:=List.mem_map.1 hm
  obtain ⟨r,hr,rfl⟩:=List.mem_map.1 ho
  have:=List.length_pos_iff.2 (h5 r hr)
  omega
 refine ⟨d.toNat,dig ((neg.map (V0 vi)).map List.length) k,by omega,by omega,fun r hr=>?_,fun r hr=>?_,by rw [c0C,List.length_map,List.length_map],fun j r e hr he=>?_,hb⟩
 ·have:=Classical.not_not.1 (h3 r hr); omega
 ·have:=Classical.not_not.1 (h4 r hr); omega
 ·exact c2o _ k hms j e _ he (by rw [List.getElem?_map,List.getElem?_map,hr]; rfl)
theorem b6Z {w:Nat}{pos:List (List Int)}{z:List (List Int×Int)}{b:Api_Box}(h:a6b w pos z=some b):b.Parts=(List.range w).map (fun i=>a6n (a7y pos z i))/\∀ i,i<w->b5a (a36 pos i) (a6f z i)=false:=by
 unfold a6b at h
 split at h
 ·cases h
 rename_i hc
 have:=Option.some.inj h
 subst this
 refine ⟨rfl,fun i hi=>?_⟩
 cases hm:b5a (a36 pos i) (a6f z i) with
 | false=>rfl
 | true=>exact absurd (List.any_eq_true.2 ⟨i,by simpa using hi,hm⟩) hc
theorem c4M {w:Nat}{f:Nat->Api_Goal}{i:Nat}(hi:i<w):((List.range w).map f)[i]?=some (f i):=by simp [hi]
theorem c6Y {w:Nat}(hw:w<=4){vi:Int->Bool}{pos neg:List (List Int)}(hpr:∀ r∈pos,r.length=w)(hnr:∀ r∈neg,r.length=w)(S:Nat->Int->Bool)(hS:∀ i,i<w->∀ r∈neg,vi (r.getD i 0)=false->S i (r.getD i 0)=true) :
 (∃ b∈a1P (w:Int) vi pos neg,∀ i,i<w->inB (b.Parts.getD i (g0 [] [])) (S i)=true)↔(∀ r∈pos,∀ i,i<w->S i (r.getD i 0)=true)/\∀ r∈neg,∃ i,i<w/\S i (r.getD i 0)=false:=by
 have hpart:∀ {b:Api_Box} {z:List (List Int×Int)},a6b w pos z=some b->∀ i,i<w->(inB (b.Parts.getD i (g0 [] [])) (S i)=true↔(∀ x∈a36 pos i,S i x=true)/\∀ x∈a6f z i,S i x=false):=fun hb i hi=>by
  rw [(b6Z hb).1,List.getD,c4M hi,Option.getD_some]
  exact c7E _ _ _
 have hposR:∀ i,(∀ x∈a36 pos i,S i x=true)↔∀ r∈pos,S i (r.getD i 0)=true:=fun i=>by
  unfold a36
  constructor
  ·exact fun h r hr=>h _ (List.mem_map.2 ⟨r,hr,rfl⟩)
  ·intro h x hx
   obtain ⟨r,hr,rfl⟩:=List.mem_map.1 hx
   exact h r hr
 constructor
 ·rintro ⟨b,hb,hin⟩
  obtain ⟨w',ds,e,_,_,_,hdl,hdd,hbx⟩:=b5y hb
  obtain rfl:w=w':=by omega
  refine ⟨fun r hr i hi=>(hposR i).1 ((hpart hbx i hi).1 (hin i hi)).1 r hr,fun r hr=>?_⟩
  obtain ⟨j,hj,e⟩:=List.getElem_of_mem hr
  have hrj:=List.getElem?_eq_getElem hj
  rw [e] at hrj
  have hdj:=List.getElem?_eq_getElem (show j<ds.length by omega)
  obtain ⟨d1,d2⟩:=hdd j r _ hrj hdj
  have ho:=a9h (show (ds[j]).toNat<(V0 vi r).length by omega)
  obtain ⟨i,e1,e2,e3⟩:=c2z.1 (List.mem_of_getElem? ho)
  have hiw:i<w:=by have:=hnr r hr; omega
  refine ⟨i,hiw,((hpart hbx i hiw).1 (hin i hiw)).2 _ (b8Q.2 ⟨(r,(V0 vi r).getD (ds[j]).toNat 0),(c4d hdl).2 ⟨j,_,hrj,hdj,rfl⟩,e1,rfl⟩)⟩
 ·rintro ⟨h1,h2⟩
  obtain ⟨ds,hdl,hdd⟩:=b8r (fun r (d:Int)=>0<=d/\d<((V0 vi r).length:Int)/\∃ i:Nat,(V0 vi r).getD d.toNat 0=(i:Int)/\i<w/\S i (r.getD i 0)=false) neg fun r hr=>by
   obtain ⟨i,hi,hs⟩:=h2 r hr
   have hv:vi (r.getD i 0)=true:=by
    cases h:vi (r.getD i 0) with
    | true=>rfl
    | false=>rw [hS i hi r hr h] at hs; cases hs
   have hm:((i:Nat):Int)∈V0 vi r:=c2z.2 ⟨i,rfl,by have:=hnr r hr; omega,hv⟩
   obtain ⟨k,hk,e⟩:=List.getElem_of_mem hm
   refine ⟨(k:Int),by omega,by omega,i,?_,hi,hs⟩
   rw [Int.toNat_natCast]
   simp [List.getD,List.getElem?_eq_getElem hk,e]
  have hne:∀ r∈neg,V0 vi r≠[]:=fun r hr he=>by
   obtain ⟨j,hj,e⟩:=List.getElem_of_mem hr
   have hrj:=List.getElem?_eq_getElem hj
   rw [e] at hrj
   obtain ⟨d1,d2,_⟩:=hdd j r _ hrj (List.getElem?_eq_getElem (show j<ds.length by omega))
   rw [he] at d2
   simp at d2
   omega
  obtain ⟨k,hk,hdig⟩:=c22 ((neg.map (V0 vi)).map List.length) ds (by rw [List.length_map,List.length_map,hdl]) fun j d m hd hm=>by
   rw [List.getElem?_map,List.getElem?_map] at hm
   have hjn:j<neg.length:=by have:=(List.getElem?_eq_some_iff.1 hd).1; omega
   have hrj:=List.getElem?_eq_getElem hjn
   rw [hrj] at hm
   have hm':(V0 vi neg[j]).length=m:=by simpa using hm
   obtain ⟨d1,d2,_⟩:=hdd j _ d hrj hd
   exact ⟨d1,by omega⟩
  have hz:∀ q∈neg.zip (a5w (neg.map (V0 vi)) ds),∃ i:Nat,q.2=(i:Int)/\i<w/\S i (q.1.getD i 0)=false:=fun q hq=>by
   obtain ⟨j,d,q1,q2,q3⟩:=(c4d hdl).1 hq
   obtain ⟨_,_,i,e1,e2,e3⟩:=hdd j q.1 d q1 q2
   exact ⟨i,q3.trans e1,e2,e3⟩
  have hnegS:∀ i,i<w->∀ x∈a6f (neg.zip (a5w (neg.map (V0 vi)) ds)) i,S i x=false:=fun i _ x hx=>by
   obtain ⟨q,hq,q1,rfl⟩:=b8Q.1 hx
   obtain ⟨i',e1,_,e3⟩:=hz q hq
   obtain rfl:i=i':=by omega
   exact e3
  have hbx:a6b w pos (neg.zip (a5w (neg.map (V0 vi)) ds))=some (Api_Box.mk ((List.range w).map fun i=>a6n (a7y pos (neg.zip (a5w (neg.map (V0 vi)) ds)) i))):=by
   unfold a6b
   rw [if_neg]
   rw [List.any_eq_true]
   rintro ⟨i,hi,hm⟩
   have hi:i<w:=by simpa using hi
   obtain ⟨x,x1,x2⟩:=c57.1 hm
   have a1:=(hposR i).2 (fun r hr=>h1 r hr i hi) x x1
   rw [hnegS i hi x x2] at a1
   cases a1
  refine ⟨_,?_,fun i hi=>(hpart hbx i hi).2 ⟨(hposR i).2 fun r hr=>h1 r hr i hi,hnegS i hi⟩⟩
  unfold a1P
  rw [if_neg]
  ·unfold c5k
   rw [Int.toNat_natCast]
   refine List.mem_filterMap.2 ⟨k,by simpa using hk,?_⟩
   rw [hdig]
   exact hbx
  ·rintro (h | h | ⟨r,hr,h⟩ | ⟨r,hr,h⟩ | ⟨r,hr,h⟩)
   ·omega
   ·omega
   ·have:=hpr r hr; omega
   ·have:=hnr r hr; omega
   ·exact hne r hr h
end Go.Pl
end
section
namespace Go.Pl
open Go Go.RowKit Go.Sx Go.Qx
section
variable {T:Api_Type}
def gIn (N:Nat)(g:Api_Goal):Bool:=g.Pos.all (inR N)&&g.Neg.all (inR N)
def gM (T:Api_Type)(v:Val)(g:Api_Goal):Bool:=g.Pos.all (Y0 T v)&&g.Neg.all fun k=>!Y0 T v k
theorem c6q (g:Api_Goal)(h1:g.Pos.length<=1000000)(h2:g.Neg.length<=1000000):a9E T g=some (gIn T.Nodes.length g):=by
 unfold a9E a4E
 rw [Q9 (by omega)]
 simp only [Option.bind_some]
 rw [Q9 (by omega)]
 simp only [Option.bind_some,Z5]
 have l1:=W8 (step:=a5h T g g.Pos) (g.Pos++g.Neg) (inR T.Nodes.length) (fun i=>(i:Int)) () false (fun i k hk=>by
  have hi:i<(g.Pos++g.Neg).length:=(List.getElem?_eq_some_iff.1 hk).1
  have hi':=hi
  rw [List.length_append] at hi'
  unfold a5h
  simp only [Z2]
  rw [Z0 hi,j6 hk]
  simp only [cond_true,Option.bind_some]
  rw [j9 i (by omega)]
  unfold inR
  by_cases a1:k<0
  ·have b1:decide (k<0)=true:=by simpa using a1
   have b2:decide (0<=k)=false:=by simp; omega
   rw [b1,b2]; rfl
  ·have b1:decide (k<0)=false:=by simpa using a1
   have b2:decide (0<=k)=true:=by simp; omega
   rw [b1,b2]
   by_cases a2:k<(T.Nodes.length:Int)
   ·have b3:decide ((T.Nodes.length:Int)<=k)=false:=by simp; omega
    have b4:decide (k<(T.Nodes.length:Int))=true:=by simpa using a2
    rw [b3,b4]; rfl
   ·have b3:decide ((T.Nodes.length:Int)<=k)=true:=by simp; omega
    have b4:decide (k<(T.Nodes.length:Int))=false:=by simpa using a2
    rw [b3,b4]; rfl) (by
  unfold a5h
  simp)
 have l1':y4 (a5h T g g.Pos) ((g.Pos++g.Neg).length+1) 0=_:=l1
 rw [l1',List.all_append]
 unfold gIn
 cases g.Pos.all (inR T.Nodes.length)&&g.Neg.all (inR T.Nodes.length)<;>rfl
theorem c5s (g:Api_Goal)(h1:g.Pos.length<=1000000)(h2:g.Neg.length<=1000000):a4p T g=some (gIn T.Nodes.length g):=by
 unfold a4p
 rw [Q9 (by omega),Q9 (by omega)]
 simp only [Option.bind_some,Z5]
 have l1:=W8 (step:=a1N T g) (g.Pos++g.Neg) (inR T.Nodes.length) (fun i=>(i:Int)) () false (fun i k hk=>by
  have hi:i<(g.Pos++g.Neg).length:=(List.getElem?_eq_some_iff.1 hk).1
  have hi':=hi
  rw [List.length_append] at hi'
  unfold a1N
  simp only [Z2]
  rw [Z0 hi,j6 hk]
  simp only [cond_true,Option.bind_some]
  rw [b1m,j9 i (by omega)]
  exact a2Y _ _) (by
  unfold a1N
  simp)
 have l1':y4 (a1N T g) ((g.Pos++g.Neg).length+1) 0=_:=l1
 rw [l1',List.all_append]
 unfold gIn
 cases g.Pos.all (inR T.Nodes.length)&&g.Neg.all (inR T.Nodes.length)<;>rfl
theorem c5g (hT:GT T){v:Val}(ho:vOK v=true)(hb:k8 v<=2097152)(f:Nat)(hf:200000000<=f){k:Int}(hk:inR T.Nodes.length k=true):X5 f v T k=some (Y0 T v k)/\w4 f v T k=some (Y0 T v k):=by
 obtain ⟨j,rfl⟩:∃ j:Nat,k=(j:Int):=⟨k.toNat,by unfold inR at hk; simp at hk; omega⟩
 have hj:j<T.Nodes.length:=by unfold inR at hk; simp at hk; omega
 have hFU:FU (k8 v)<=f:=by unfold FU; omega
 exact ⟨d0d hT ho (by omega) hj f hFU,c6k hT ho (by omega) hj f hFU⟩
theorem c9I (N:Nat)(p q:List Int):gIn N (g0 (srt p) (srt q))=gIn N (g0 p q):=by
 unfold gIn
 have key:∀ (l:List Int) (r:Int->Bool),(srt l).all r=l.all r:=fun l r=>by
  rw [Bool.eq_iff_iff,List.all_eq_true,List.all_eq_true]
  exact ⟨fun h x hx=>h x ((b02 l x).2 hx),fun h x hx=>h x ((b02 l x).1 hx)⟩
 rw [key,key]
end
end Go.Pl
end
section
namespace Go.Pl
open Go Go.RowKit Go.Sx Go.Qx
section
variable {T:Api_Type}
def Z6 (T:Api_Type)(k:Int):List Int:=match T.Nodes[k.toNat]? with
 | some x=>x.Kids
 | none=>[]
def a5e (T:Api_Type)(k:Int):Int:=match T.Nodes[k.toNat]? with
 | some x=>x.Kind
 | none=>0
noncomputable def wfB (T:Api_Type):Bool:=inR T.Nodes.length T.Root&&(a3f T.Nodes&&a5b T.Nodes)
theorem c5Y (T:Api_Type):∃ c:Int,(if inR T.Nodes.length T.Root&&a3f T.Nodes then (if a5b T.Nodes then (0:Int) else 3) else 1)=c/\(c==0)=wfB T:=by
 refine ⟨_,rfl,?_⟩
 unfold wfB
 cases inR T.Nodes.length T.Root<;>cases a3f T.Nodes<;>cases a5b T.Nodes<;>rfl
def ndB (T:Api_Type)(kind w k:Int):Bool:=inR T.Nodes.length k&&(a5e T k==kind&&((Z6 T k).length:Int)==w)
theorem c2V (nodes:List Int)(kind w:Int)(hl:nodes.length<=1000):a3c T nodes kind w=some (if nodes.all (ndB T kind w)=true then (nodes.map (Z6 T),true) else ([],false)):=by
 unfold a3c
 have key:=b7m (step:=a2t T nodes kind w) (fun i=>((nodes.take i).map (Z6 T),(i:Int))) (fun i=>!(ndB T kind w (nodes.getD i 0))) nodes.length
  (.inl (nodes.map (Z6 T))) (fun q=>q=.inr ([],false)) (fun i hi hb=>?_) (fun i hi hb=>?_) ?_ (nodes.length+1) (Nat.le_refl _)
 ·rw [Z5]
  rcases key with ⟨k1,k2⟩ | ⟨q,k1,rfl,i,hi,k3⟩
  ·have k1':y4 (a2t T nodes kind w) (nodes.length+1) ([],0)=_:=k1
   rw [k1',if_pos]
   ·rfl
   ·rw [List.all_eq_true]
    intro k hk
    obtain ⟨i,hi,rfl⟩:=List.getElem_of_mem hk
    have:=k2 i hi
    rw [List.getD,List.getElem?_eq_getElem hi,Option.getD_some] at this
    simpa using this
  ·have k1':y4 (a2t T nodes kind w) (nodes.length+1) ([],0)=_:=k1
   rw [k1',if_neg]
   ·rfl
   ·intro h
    have:=List.all_eq_true.1 h _ (List.getElem_mem hi)
    rw [List.getD,List.getElem?_eq_getElem hi,Option.getD_some,this] at k3
    cases k3
 ·have hx:=List.getElem?_eq_getElem hi
  rw [List.getD,hx,Option.getD_some] at hb
  generalize nodes[i]=k at hx hb
  have hb':ndB T kind w k=true:=by simpa using hb
  unfold ndB at hb'
  simp only [Bool.and_eq_true] at hb'
  obtain ⟨j,rfl,hj⟩:=a0W hb'.1
  have ej:=List.getElem?_eq_getElem hj
  have hk:a5e T (j:Int)=T.Nodes[j].Kind:=by unfold a5e; rw [Int.toNat_natCast,ej]
  have hks:Z6 T (j:Int)=T.Nodes[j].Kids:=by unfold Z6; rw [Int.toNat_natCast,ej]
  rw [hk,hks] at hb'
  unfold a2t
  simp only [Z2]
  rw [Z0 hi,j6 hx]
  simp only [cond_true,Option.bind_some]
  have h1:decide ((j:Int)<0)=false:=by simp
  have h2:decide ((T.Nodes.length:Int)<=(j:Int))=false:=by simp; omega
  rw [h1,j6 ej]
  simp only [cond_false,Option.bind_some,h2]
  have h3:(T.Nodes[j].Kind != kind)=false:=by unfold bne; rw [hb'.2.1]; rfl
  have h4:((T.Nodes[j].Kids.length:Int) != w)=false:=by unfold bne; rw [hb'.2.2]; rfl
  rw [h3]
  simp only [cond_false,Option.bind_some,h4]
  rw [Q9 (by simp only [List.length_map,List.length_take,List.length_cons,List.length_nil]; omega),j9 i (by omega)]
  simp only [Option.bind_some]
  rw [a6I hx,List.map_append]
  simp [hks]
 ·have hx:=List.getElem?_eq_getElem hi
  rw [List.getD,hx,Option.getD_some] at hb
  generalize nodes[i]=k at hx hb
  have hb':ndB T kind w k=false:=by simpa using hb
  refine ⟨_,?_,rfl⟩
  unfold a2t
  simp only [Z2]
  rw [Z0 hi,j6 hx]
  simp only [cond_true,Option.bind_some]
  cases hr:inR T.Nodes.length k with
  | false =>
    unfold inR at hr
    by_cases h1:k<0
    ·rw [decide_eq_true h1]; rfl
    ·have h2:(T.Nodes.length:Int)<=k:=by
      simp at hr
      omega
     rw [decide_eq_false h1,decide_eq_true h2]; rfl
  | true =>
    obtain ⟨j,rfl,hj⟩:=a0W hr
    have ej:=List.getElem?_eq_getElem hj
    have hk:a5e T (j:Int)=T.Nodes[j].Kind:=by unfold a5e; rw [Int.toNat_natCast,ej]
    have hks:Z6 T (j:Int)=T.Nodes[j].Kids:=by unfold Z6; rw [Int.toNat_natCast,ej]
    unfold ndB at hb'
    rw [hr,hk,hks,Bool.true_and] at hb'
    have h1:decide ((j:Int)<0)=false:=by simp
    have h2:decide ((T.Nodes.length:Int)<=(j:Int))=false:=by simp; omega
    rw [h1,j6 ej]
    simp only [cond_false,Option.bind_some,h2]
    cases h3:T.Nodes[j].Kind==kind with
    | false =>
      have:(T.Nodes[j].Kind != kind)=true:=by unfold bne; rw [h3]; rfl
      rw [this]; rfl
    | true =>
      have:(T.Nodes[j].Kind != kind)=false:=by unfold bne; rw [h3]; rfl
      rw [this]
      simp only [cond_false,Option.bind_some]
      rw [h3,Bool.true_and] at hb'
      have h4:((T.Nodes[j].Kids.length:Int) != w)=true:=by unfold bne; rw [hb']; rfl
      rw [h4]; rfl
 ·unfold a2t
  rw [List.take_length]
  simp
theorem c6U {w:Nat}{vi:Int->Bool}{pos neg:List (List Int)}{b:Api_Box}(h:b∈a1P (w:Int) vi pos neg):b.Parts.length=w:=by
 obtain ⟨w',ds,e,_,_,_,_,_,hb⟩:=b5y h
 obtain rfl:w=w':=by omega
 rw [(b6Z hb).1,List.length_map,List.length_range]
def viT (T:Api_Type)(k:Int):Bool:=a5e T k != 2
theorem d1J (h:a3f T.Nodes=true){k:Int}(hr:inR T.Nodes.length k=true):(Option.bind (a0N k T) fun r=>some r)=some (viT T k):=by
 obtain ⟨j,rfl,hj⟩:=a0W hr
 have ej:=List.getElem?_eq_getElem hj
 unfold a0N viT a5e
 rw [j6 ej,Int.toNat_natCast,ej]
 rfl
theorem c4o (h:a3f T.Nodes=true){kind w k:Int}(hk:ndB T kind w k=true):∀ y∈Z6 T k,inR T.Nodes.length y=true:=by
 unfold ndB at hk
 simp only [Bool.and_eq_true] at hk
 obtain ⟨j,rfl,hj⟩:=a0W hk.1
 have ej:=List.getElem?_eq_getElem hj
 unfold Z6
 rw [Int.toNat_natCast,ej]
 exact a3K (List.all_eq_true.1 h _ (List.getElem_mem hj))
noncomputable def a9A (T:Api_Type)(cons:Bool)(w:Int)(pos neg:List Int):List Api_Box :=
 bif cons then (a1P 2 (viT T) (pos.map (Z6 T)) (neg.map (Z6 T))).map a1M else a1P w (viT T) (pos.map (Z6 T)) (neg.map (Z6 T))
theorem c6r (h:a3f T.Nodes=true)(kind w:Int)(pos neg:List Int)(hp:pos.length<=1000)(hn:neg.length<=10)(hng:neg.all (ndB T kind w)=true)(n:Nat)(hf:4194304<=n) :
 a2C n w (pos.map (Z6 T)) (neg.map (Z6 T)) (fun z=>Option.bind (a0N z T) fun r=>some r)=some (a1P w (viT T) (pos.map (Z6 T)) (neg.map (Z6 T))) :=
 c8B w (viT T) _ _ _ (by rw [List.length_map]; exact hp) (by rw [List.length_map]; exact hn) (fun r hr x hx=>by
  obtain ⟨k,hk,rfl⟩:=List.mem_map.1 hr
  exact d1J h (c4o h (List.all_eq_true.1 hng k hk) x hx)) n hf
theorem c0l (hk:∀ x∈T.Nodes,x.Kids.length<=1100000/\x.Fields.length<=1100000)(hN:T.Nodes.length<=1000)(x:Api_Line)(hp:x.Pos.length<=1000)(hn:x.Neg.length<=10)(hK:x.Kind=6\/x.Kind=7)(n:Nat)(hf:4194304<=n) :
 a3g n T x=some (if (wfB T&&(x.Pos++x.Neg).all (ndB T (if x.Kind=7 then 12 else 10) (if x.Kind=7 then 2 else x.Arity)))=true then (a9A T (x.Kind==7) x.Arity x.Pos x.Neg,0) else ([],1)):=by
 obtain ⟨c,hc,hw⟩:=c5Y T
 have hwf:=c2I T hk (by omega) n (by omega)
 rw [hc] at hwf
 have key:∀ kind w:Int,(Option.bind (X7 n T) fun r4 =>
  bif r4 != 0 then (some (([]:List Api_Box),(1:Int)))
  else (Option.bind (a3c T x.Pos kind w) fun r5 =>
   Option.bind (a3c T x.Neg kind w) fun r6 =>
   Option.bind (bif !r5.2 then (some true) else (some (!r6.2))) fun q7 =>
   bif q7 then (some (([]:List Api_Box),1))
   else (Option.bind (a2C n w r5.1 r6.1 (fun z8=>Option.bind (a0N z8 T) fun r9=>some r9)) fun r10 =>
    bif x.Kind==7 then (bif r10.all a57 then (some (r10.map a1M,0)) else none) else (some (r10,0))))) =
  (if (wfB T&&(x.Pos++x.Neg).all (ndB T kind w))=true then (bif x.Kind==7 then (bif (a1P w (viT T) (x.Pos.map (Z6 T)) (x.Neg.map (Z6 T))).all a57 then some ((a1P w (viT T) (x.Pos.map (Z6 T)) (x.Neg.map (Z6 T))).map a1M,0) else none)
    else some (a1P w (viT T) (x.Pos.map (Z6 T)) (x.Neg.map (Z6 T)),0)) else some ([],1)):=fun kind w=>by
  rw [hwf]
  simp only [Option.bind_some]
  have hc2:(c != 0)=!(wfB T):=by unfold bne; rw [hw]
  rw [hc2]
  cases hW:wfB T with
  | false=>rfl
  | true =>
    have hall:a3f T.Nodes=true:=by
     unfold wfB at hW
     simp only [Bool.and_eq_true] at hW
     exact hW.2.1
    rw [c2V _ _ _ hp,c2V _ _ _ (by omega)]
    simp only [Bool.not_true,cond_false,Option.bind_some,Bool.true_and,List.all_append]
    cases hP:x.Pos.all (ndB T kind w) with
    | false=>rfl
    | true =>
      cases hG:x.Neg.all (ndB T kind w) with
      | false=>rfl
      | true =>
        simp only [if_true,Bool.not_true,cond_false,Option.bind_some,Bool.and_self]
        rw [c6r hall kind w x.Pos x.Neg hp hn hG n hf]
        rfl
 unfold a3g
 rcases hK with h | h
 ·have e6:(x.Kind==6)=true:=by rw [h]; rfl
  have e7:(x.Kind==7)=false:=by rw [h]; rfl
  have n7:¬ x.Kind=7:=by omega
  rw [e6]
  simp only [cond_true,Option.bind_some,k7]
  have hk10:=key 10 x.Arity
  rw [e7] at hk10 ⊢
  refine hk10.trans ?_
  rw [if_neg n7,if_neg n7]
  unfold a9A
  split<;>rfl
 ·have e6:(x.Kind==6)=false:=by rw [h]; rfl
  have e7:(x.Kind==7)=true:=by rw [h]; rfl
  rw [e6]
  simp only [cond_false]
  have hk12:=key 12 2
  rw [e7] at hk12 ⊢
  simp only [cond_true,Option.bind_some,k7]
  simp only [cond_true] at hk12
  refine hk12.trans ?_
  rw [if_pos h,if_pos h]
  have hok:(a1P 2 (viT T) (x.Pos.map (Z6 T)) (x.Neg.map (Z6 T))).all a57=true:=by
   rw [List.all_eq_true]
   intro b hb
   have:=c6U (w:=2) hb
   unfold a57
   rw [this]
   rfl
  rw [hok]
  unfold a9A
  simp only [cond_true]
  split<;>rfl
end
end Go.Pl
end
section
namespace Go.Pl
open Go Go.RowKit Go.Sx Go.Qx
theorem c73 (l:List (List Int))(hl:l.length<=1000):a4G l=some (l.all fun x=>!decide (80<(x.length:Int))):=by
 have l1:=W8 (step:=a16 l) l (fun x=>!decide (80<(x.length:Int))) (fun i=>(i:Int)) () false (fun i x hx=>by
  have hi:i<l.length:=(List.getElem?_eq_some_iff.1 hx).1
  unfold a16
  rw [Z0 hi,j6 hx]
  simp only [cond_true,Option.bind_some,Z2]
  rw [j9 i (by omega)]
  cases decide (80<(x.length:Int))<;>rfl) (by
  unfold a16
  simp)
 have l1':y4 (a16 l) (l.length+1) 0=_:=l1
 unfold a4G
 rw [Z5,l1']
 cases l.all fun x=>!decide (80<(x.length:Int))<;>rfl
structure DT (T:Api_Type):Prop where
 gt:GT T
 one:1<=T.Nodes.length
 len:T.Nodes.length<=7
 root:inR T.Nodes.length T.Root=true
structure DV (v:Val):Prop where
 ok:vOK v=true
 bulk:k8 v<=1638300
theorem os0 (L:List Int):OS L (Semtypebase_Source.mk L 0):=⟨rfl,by show (0:Int)<=0; omega,by show (0:Int)<=_; omega⟩
theorem c7K (l:List Int)(hl:l.length<=4194304):∃ T,DT T/\∀ m:List Int,m.length<=4194304->∀ n,10000000<=n->∃ v,a4M n l m=some (T,v)/\DV v:=by
 obtain ⟨x,t1,e1,h1,x0,x1⟩:=Y2 hl (os0 l) (n:=7) (by omega) (by omega)
 obtain ⟨x,rfl⟩:=b1S x0
 obtain ⟨ns,t2,e2,h2,hlen,hns⟩:=c7D hl h1 (x+1) (by omega) (by omega)
 have hgt:GT (Api_Type.mk ns 0):=⟨by show ns.length<=10; omega,by show GNs ns.length ns; rw [hlen]; exact hns⟩
 have hDT:DT (Api_Type.mk ns 0):=⟨hgt,by show 1<=ns.length; omega,by show ns.length<=7; omega,b4d (show (0:Int)<=0 by omega) (by show (0:Int)<(ns.length:Int); omega)⟩
 refine ⟨_,hDT,fun m hm n hn=>?_⟩
 obtain ⟨k,t3,e3,h3,k0,k1⟩:=Y2 hm (os0 m) (n:=(ns.length:Int)) (by omega) (by omega)
 obtain ⟨k,rfl⟩:=b1S k0
 obtain ⟨v,u,e4,_,hv,hb⟩:=c9P hm hgt n hn 4 (Nat.le_refl 4) k t3 (by show k<ns.length; omega) h3
 refine ⟨v,?_,hv,hb⟩
 unfold a4M
 rw [e1]
 simp only [Option.bind_some]
 rw [show wr .i64 (1+(x:Int))=((x+1:Nat):Int) by rw [Z2,K1 (by omega) (by omega)]; omega]
 rw [show a1D t1 ((x+1:Nat):Int)=some (Api_Type.mk ns 0,t2) from e2]
 simp only [Option.bind_some]
 rw [e3]
 simp only [Option.bind_some]
 have e4':a2K n t3 (Api_Type.mk ns 0) (k:Int) 4=some (v,u):=e4
 rw [e4']
 rfl
end Go.Pl
end
section
namespace Go.Pl
open Go Go.RowKit Go.Sx Go.Qx
section
variable {T:Api_Type}{v:Val}
def c0U (v:Val)(L:Bool):Bool:=!L||(v.Kind==5||v.Kind==7)
def gA (T:Api_Type)(v:Val)(g:Api_Goal):Bool:=gIn T.Nodes.length g&&(c0U v g.Lists&&gM T v g)
theorem c8m (hT:GT T)(ho:vOK v=true)(hb:k8 v<=2097152)(p q:List Int)(hp:p.all (inR T.Nodes.length)=true)(hq:q.all (inR T.Nodes.length)=true)(h1:p.length<=1000000)(h2:q.length<=1000000)(f:Nat)(hf:200000000<=f) :
 a9C f v T p q=some (p.all (Y0 T v)&&q.all fun k=>!Y0 T v k):=by
 unfold a9C
 rw [a8w p _ (fun k=>!Y0 T v k) (by omega) fun k hk=>by
  unfold b0t
  simp only [W7]
  rw [(c5g hT ho hb f hf (List.all_eq_true.1 hp k hk)).1]
  rfl]
 simp only [Option.bind_some]
 rw [b7G]
 cases hp:p.all (Y0 T v)
 ·rfl
 ·simp only [cond_true]
  rw [a8w q _ (fun k=>Y0 T v k) (by omega) fun k hk=>by
   unfold b0s
   simp only [W7]
   exact (c5g hT ho hb f hf (List.all_eq_true.1 hq k hk)).1]
  simp only [Option.bind_some,Bool.true_and]
  congr 1
  rw [<- b7G]
  simp
theorem c5f (hT:GT T)(hr:inR T.Nodes.length T.Root=true)(ho:vOK v=true)(hb:k8 v<=2097152)(g:Api_Goal)(h1:g.Pos.length<=1000000)(h2:g.Neg.length<=1000000)(f:Nat)(hf:200000000<=f) :
 a6M f v T g=some (gA T v g):=by
 unfold a6M gA
 rw [c3R f v (by omega) (by omega),ho,wf0 hT hr f (by omega),c6q g h1 h2]
 simp only [if_true,Option.bind_some,bne_self_eq_false,cond_false]
 cases hg:gIn T.Nodes.length g with
 | false=>rfl
 | true =>
   have hg':=hg
   unfold gIn at hg'
   simp only [Bool.and_eq_true] at hg'
   simp only [Bool.not_true,cond_false]
   rw [c8m hT ho hb g.Pos g.Neg hg'.1 hg'.2 h1 h2 f hf]
   unfold c0U gM
   cases g.Lists with
   | false=>rfl
   | true =>
     simp only [cond_true,Option.bind_some,bne,Bool.not_true,Bool.false_or]
     cases v.Kind==5<;>cases v.Kind==7<;>rfl
theorem b8q (hT:GT T)(hr:inR T.Nodes.length T.Root=true)(ho:vOK v=true)(hb:k8 v<=2097152)(g:Api_Goal)(h1:g.Pos.length<=1000000)(h2:g.Neg.length<=1000000)(f:Nat)(hf:200000000<=f) :
 a14 f v T g=some (gA T v g):=by
 unfold a14 gA
 rw [b1E f v (by omega) (by omega),ho,d2a hT hr f (by omega),c5s g h1 h2]
 simp only [Option.bind_some,beq_self_eq_true,cond_true,W7]
 cases hg:gIn T.Nodes.length g with
 | false=>rfl
 | true =>
   have hg':=hg
   unfold gIn at hg'
   simp only [Bool.and_eq_true] at hg'
   simp only [cond_true,W7]
   unfold a6y
   have l1:=b2y (step:=a3l v T g f) g.Pos (Y0 T v) false (fun i k hk=>by
    have hi:i<g.Pos.length:=(List.getElem?_eq_some_iff.1 hk).1
    unfold a3l
    simp only [Z2]
    rw [Z0 hi,j6 hk]
    simp only [cond_true,Option.bind_some]
    rw [(c5g hT ho hb f hf (List.all_eq_true.1 hg'.1 k (List.mem_of_getElem? hk))).2,j9 i (by omega)]
    exact a2Y _ _) (by
    unfold a3l
    simp)
   have l2:=b2y (step:=a3o v T g f) g.Neg (fun k=>!Y0 T v k) false (fun i k hk=>by
    have hi:i<g.Neg.length:=(List.getElem?_eq_some_iff.1 hk).1
    unfold a3o
    simp only [Z2]
    rw [Z0 hi,j6 hk]
    simp only [cond_true,Option.bind_some]
    rw [(c5g hT ho hb f hf (List.all_eq_true.1 hg'.2 k (List.mem_of_getElem? hk))).2,j9 i (by omega)]
    simp only [Option.bind_some]
    cases Y0 T v k<;>rfl) (by
    unfold a3o
    simp)
   simp only [Z5]
   rw [l1]
   unfold gM c0U
   cases hp:g.Pos.all (Y0 T v)
   ·simp [k7]
   ·simp only [if_true,Option.bind_some,k7]
    rw [l2]
    cases hq:g.Neg.all fun k=>!Y0 T v k
    ·simp [k7]
    ·simp only [if_true,Option.bind_some,k7,W7]
     cases g.Lists<;>cases v.Kind==5<;>cases v.Kind==7<;>rfl
end
end Go.Pl
end
section
namespace Go.Pl
open Go Go.RowKit Go.Sx Go.Qx
def a4X:Val:=.mk 0 0 ⟨#[]⟩ [] [] [] []
theorem c9T (n:Nat):a1k (n+60)=some true:=by kernel_rfl
theorem c5a {T:Api_Type}(h:a3f T.Nodes=true){k:Int}(hr:inR T.Nodes.length k=true)(hk:a5e T k=12):(Z6 T k).length=2:=by
 obtain ⟨j,rfl,hj⟩:=a0W hr
 have ej:=List.getElem?_eq_getElem hj
 have hn:=b7q (List.all_eq_true.1 h _ (List.getElem_mem hj))
 unfold a5e at hk
 unfold Z6
 rw [Int.toNat_natCast,ej] at hk ⊢
 have hk':T.Nodes[j].Kind=12:=hk
 unfold a3q at hn
 simp [hk'] at hn
 show T.Nodes[j].Kids.length=2
 omega
structure LD (T:Api_Type)(x:Api_Line):Prop where
 kind:x.Kind=6\/x.Kind=7
 pos:x.Pos.length<=7
 neg:x.Neg.length<=7
 ok:(x.Pos++x.Neg).all (ndB T (if x.Kind=7 then 12 else 10) (if x.Kind=7 then 2 else x.Arity))=true
section
variable {L:List Int}{T:Api_Type}
theorem c7q (hL:L.length<=4194304)(hT:a3f T.Nodes=true)(hN:T.Nodes.length<=7){s:Semtypebase_Source}(hs:OS L s):∃ x t,a43 T s=some (x,t)/\LD T x:=by
 obtain ⟨r1,s1,e1,h1,r10,r11⟩:=Y2 hL hs (n:=2) (by omega) (by omega)
 obtain ⟨r4,s4,e4,h4,r40,r41⟩:=Y2 hL h1 (n:=3) (by omega) (by omega)
 have key:∀ (K A kind w:Int),(K=6/\kind=10/\w=A\/K=7/\kind=12/\w=2/\A=0)->∃ x t,
  (Option.bind (y4 (W5 T (kind,(K,A,[],false,[],[],[],[],[]))) (T.Nodes.length+1) (0,s4,(K,A,[],false,[],[],[],[],[]))) fun b16 =>
    some (Api_Line.mk b16.2.1 b16.2.2.1 b16.2.2.2.1 (Api_Names.mk b16.2.2.2.2.1 b16.2.2.2.2.2.1) b16.2.2.2.2.2.2.1 b16.2.2.2.2.2.2.2.1 b16.2.2.2.2.2.2.2.2.1 b16.2.2.2.2.2.2.2.2.2,b16.1))=some (x,t) /\
  x.Kind=K/\x.Arity=A/\x.Pos.length<=7/\x.Neg.length<=7/\∀ k∈x.Pos++x.Neg,ndB T kind w k=true:=by
  intro K A kind w hK
  obtain ⟨g,u,e,hu,i1,i2,i3⟩:=b7k (γ:=List Int×List Int) (L:=L) (step:=W5 T (kind,(K,A,[],false,[],[],[],[],[])))
   (fun g j s=>(j,s,(K,A,[],false,[],g.1,g.2,[],[]))) (fun g s=>(s,(K,A,[],false,[],g.1,g.2,[],[]))) (fun j g=>g.1.length<=j/\g.2.length<=j/\∀ k∈g.1++g.2,ndB T kind w k=true) T.Nodes.length
   (fun j g s hj hI hs=>by
     have ej:=List.getElem?_eq_getElem hj
     have hk:a5e T (j:Int)=T.Nodes[j].Kind:=by unfold a5e; rw [Int.toNat_natCast,ej]
     have hks:Z6 T (j:Int)=T.Nodes[j].Kids:=by unfold Z6; rw [Int.toNat_natCast,ej]
     have hin:inR T.Nodes.length (j:Int)=true:=b4d (by omega) (by omega)
     obtain ⟨g1,g2,g3⟩:=hI
     obtain ⟨q,hq,hnd⟩:∃ q,(Option.bind (idx T.Nodes (j:Int)) fun e7=>Option.bind (bif e7.Kind != kind then (some true) else (Option.bind (bif K==6 then (Option.bind (idx T.Nodes (j:Int)) fun e8=>some ((e8.Kids.length:Int) != A)) else (some false)) fun q9=>some q9)) fun q10=>some q10)=some q /\
      (q=false->ndB T kind w (j:Int)=true):=by
      rw [j6 ej]
      simp only [Option.bind_some,W7]
      by_cases hkk:T.Nodes[j].Kind=kind
      ·have e1:(T.Nodes[j].Kind != kind)=false:=by rw [hkk]; simp
       rw [e1]
       simp only [cond_false]
       rcases hK with ⟨rfl,rfl,rfl⟩ | ⟨rfl,rfl,rfl,rfl⟩
       ·refine ⟨_,rfl,fun h=>?_⟩
        unfold ndB
        rw [hin,hk,hks,hkk]
        have h':((T.Nodes[j].Kids.length:Int) != w)=false:=h
        simp only [bne,Bool.not_eq_false'] at h'
        rw [h']
        rfl
       ·refine ⟨_,rfl,fun _=>?_⟩
        have h2:=c5a hT hin (hk.trans hkk)
        unfold ndB
        rw [hin,hk,hkk,h2]
        rfl
      ·have e1:(T.Nodes[j].Kind != kind)=true:=by simpa using hkk
       rw [e1]
       exact ⟨true,rfl,fun h=>by cases h⟩
     rw [W7] at hq
     have hq':(Option.bind (idx T.Nodes (j:Int)) fun e7=>Option.bind (bif e7.Kind != kind then (some true) else (Option.bind (bif K==6 then (Option.bind (idx T.Nodes (j:Int)) fun e8=>some ((e8.Kids.length:Int) != A)) else (some false)) fun q9=>some q9)) fun q10=>some q10)=some q:=by
      rw [<- hq]
      cases idx T.Nodes (j:Int)<;>simp [W7]
     cases q with
     | true =>
       refine ⟨g,s,?_,hs,by omega,by omega,g3⟩
       unfold W5
       simp only [Z2]
       rw [Z0 hj,j9 j (by omega)]
       simp only [cond_true]
       rw [j6 ej] at hq' ⊢
       simp only [Option.bind_some,W7] at hq' ⊢
       rw [hq']
       rfl
     | false =>
       have hnd:=hnd rfl
       obtain ⟨r,u,er,hu,hr0,hr1⟩:=Y2 hL hs (n:=3) (by omega) (by omega)
       by_cases c0:r=0
       ·refine ⟨(g.1++[(j:Int)],g.2),u,?_,hu,by simp; omega,by show g.2.length<=j+1; omega,fun k hk=>?_⟩
        ·unfold W5
         simp only [Z2]
         rw [Z0 hj,j9 j (by omega)]
         simp only [cond_true]
         rw [j6 ej] at hq' ⊢
         simp only [Option.bind_some,W7] at hq' ⊢
         rw [hq']
         simp only [Option.bind_some,cond_false]
         rw [er,c0]
         simp only [Option.bind_some,beq_self_eq_true,cond_true]
         rw [Q9 (by simp only [List.length_cons,List.length_nil]; omega)]
         rfl
        ·rcases List.mem_append.1 hk with hk | hk
         ·rcases List.mem_append.1 hk with hk | hk
          ·exact g3 k (List.mem_append_left _ hk)
          ·rw [List.mem_singleton.1 hk]; exact hnd
         ·exact g3 k (List.mem_append_right _ hk)
       ·have b0:(r==0)=false:=by simpa using c0
        by_cases c1:r=1
        ·refine ⟨(g.1,g.2++[(j:Int)]),u,?_,hu,by show g.1.length<=j+1; omega,by simp; omega,fun k hk=>?_⟩
         ·unfold W5
          simp only [Z2]
          rw [Z0 hj,j9 j (by omega)]
          simp only [cond_true]
          rw [j6 ej] at hq' ⊢
          simp only [Option.bind_some,W7] at hq' ⊢
          rw [hq']
          simp only [Option.bind_some,cond_false]
          rw [er]
          simp only [Option.bind_some]
          rw [b0,c1]
          simp only [cond_false,Option.bind_some,beq_self_eq_true,cond_true]
          rw [Q9 (by simp only [List.length_cons,List.length_nil]; omega)]
          rfl
         ·rcases List.mem_append.1 hk with hk | hk
          ·exact g3 k (List.mem_append_left _ hk)
          ·rcases List.mem_append.1 hk with hk | hk
           ·exact g3 k (List.mem_append_right _ hk)
           ·rw [List.mem_singleton.1 hk]; exact hnd
        ·have b1:(r==1)=false:=by simpa using c1
         refine ⟨g,u,?_,hu,by omega,by omega,g3⟩
         unfold W5
         simp only [Z2]
         rw [Z0 hj,j9 j (by omega)]
         simp only [cond_true]
         rw [j6 ej] at hq' ⊢
         simp only [Option.bind_some,W7] at hq' ⊢
         rw [hq']
         simp only [Option.bind_some,cond_false]
         rw [er]
         simp only [Option.bind_some]
         rw [b0,b1]
         rfl) (fun g s=>by
     unfold W5
     simp) T.Nodes.length 0 (T.Nodes.length+1) ([],[]) s4 (by omega) (Nat.le_refl _) ⟨Nat.le_refl _,Nat.le_refl _,fun k hk=>by cases hk⟩ h4
  have e':y4 (W5 T (kind,(K,A,[],false,[],[],[],[],[]))) (T.Nodes.length+1) (0,s4,(K,A,[],false,[],[],[],[],[]))=some (u,(K,A,[],false,[],g.1,g.2,[],[])):=e
  refine ⟨Api_Line.mk K A [] (Api_Names.mk false []) g.1 g.2 [] [],u,by rw [e']; rfl,rfl,rfl,by show g.1.length<=7; omega,by show g.2.length<=7; omega,i3⟩
 unfold a43
 rw [e1]
 simp only [Option.bind_some]
 have hcase:r1=0\/r1=1:=by omega
 rcases hcase with rfl | rfl
 ·obtain ⟨x,t,ex,k1,k2,k3,k4,k5⟩:=key 6 r4 10 r4 (.inl ⟨rfl,rfl,rfl⟩)
  refine ⟨x,t,?_,.inl k1,k3,k4,?_⟩
  ·have i0:idx ([6,7]:List Int) 0=some 6:=rfl
   have i1:([6,7]:List Int)[(0:Int).toNat]?=some 6:=rfl
   rw [i0,i1]
   simp only [Option.bind_some]
   rw [e4]
   simp only [Option.bind_some]
   rw [show ((6:Int)==7)=false from rfl]
   simp only [cond_false,Option.bind_some,Z5]
   exact ex
  ·rw [List.all_eq_true,k1]
   intro k hk
   rw [if_neg (by omega),if_neg (by omega),k2]
   exact k5 k hk
 ·obtain ⟨x,t,ex,k1,k2,k3,k4,k5⟩:=key 7 0 12 2 (.inr ⟨rfl,rfl,rfl,rfl⟩)
  refine ⟨x,t,?_,.inr k1,k3,k4,?_⟩
  ·have i0:idx ([6,7]:List Int) 1=some 7:=rfl
   have i1:([6,7]:List Int)[(1:Int).toNat]?=some 7:=rfl
   rw [i0,i1]
   simp only [Option.bind_some]
   rw [e4]
   simp only [Option.bind_some]
   rw [show ((7:Int)==7)=true from rfl]
   simp only [cond_true,Option.bind_some,Z5]
   exact ex
  ·rw [List.all_eq_true,k1]
   intro k hk
   exact k5 k hk
end
section
variable {T:Api_Type}{v:Val}
def bxB (T:Api_Type)(K:List Val)(ps:List Api_Goal):Bool:=(List.range K.length).all fun i=>gA T (K.getD i a4X) (ps.getD i (g0 [] []))
theorem c1f (ho:vOK v=true)(hb:k8 v<=1638300){x:Val}(hx:x∈v.Kids):vOK x=true/\k8 x<=2097152:=by
 refine ⟨c5V (c3D ho).1 hx,?_⟩
 have h1:=a0M hx
 have h2:=a03 v
 omega
theorem a77 {l:List Val}{i:Nat}(h:i<l.length):l[i]?=some (l.getD i a4X):=by
 rw [List.getElem?_eq_getElem h]
 simp [List.getD,List.getElem?_eq_getElem h]
theorem c8w {l:List Api_Goal}{i:Nat}(h:i<l.length):l[i]?=some (l.getD i (g0 [] [])):=by
 rw [List.getElem?_eq_getElem h]
 simp [List.getD,List.getElem?_eq_getElem h]
theorem c7T (hT:GT T)(hr:inR T.Nodes.length T.Root=true)(K:List Val)(hK:∀ x∈K,vOK x=true/\k8 x<=2097152)(hl:K.length<=1000)(b:Api_Box)(hlen:b.Parts.length=K.length)
 (hg:∀ g∈b.Parts,g.Pos.length<=1000000/\g.Neg.length<=1000000) (f:Nat) (hf:200000000<=f) :
 a5V f K T b=some (bxB T K b.Parts)/\a45 f K T b.Parts=some (bxB T K b.Parts):=by
 have e0:((K.length:Int) != (b.Parts.length:Int))=false:=by rw [hlen]; simp
 have hgi:∀ i,i<K.length->a6M f (K.getD i a4X) T (b.Parts.getD i (g0 [] []))=some (gA T (K.getD i a4X) (b.Parts.getD i (g0 [] [])))/\a14 f (K.getD i a4X) T (b.Parts.getD i (g0 [] []))=some (gA T (K.getD i a4X) (b.Parts.getD i (g0 [] []))):=fun i hi=>by
  obtain ⟨k1,k2⟩:=hK _ (List.mem_of_getElem? (a77 hi))
  obtain ⟨h1,h2⟩:=hg _ (List.mem_of_getElem? (c8w (show i<b.Parts.length by omega)))
  exact ⟨c5f hT hr k1 k2 _ h1 h2 f hf,b8q hT hr k1 k2 _ h1 h2 f hf⟩
 constructor
 ·unfold a5V
  rw [e0]
  simp only [cond_false]
  have l1:=b2y (step:=a5I K T b f) (List.range K.length) (fun i=>gA T (K.getD i a4X) (b.Parts.getD i (g0 [] []))) false (fun i j hj=>by
   have hi:i<K.length:=by have:=(List.getElem?_eq_some_iff.1 hj).1; simpa using this
   obtain rfl:i=j:=by rw [List.getElem?_range hi] at hj; exact Option.some.inj hj
   unfold a5I
   simp only [Z2]
   rw [Z0 hi,j6 (a77 hi),j6 (c8w (show i<b.Parts.length by omega))]
   simp only [cond_true,Option.bind_some]
   rw [(hgi i hi).1,j9 i (by omega)]
   exact a2Y _ _) (by
   unfold a5I
   simp)
  rw [List.length_range] at l1
  rw [Z5,l1]
  unfold bxB
  cases (List.range K.length).all fun i=>gA T (K.getD i a4X) (b.Parts.getD i (g0 [] []))<;>rfl
 ·unfold a45
  rw [e0]
  simp only [cond_false]
  have l1:=b2y (step:=a3S K T b.Parts f) (List.range K.length) (fun i=>gA T (K.getD i a4X) (b.Parts.getD i (g0 [] []))) false (fun i j hj=>by
   have hi:i<K.length:=by have:=(List.getElem?_eq_some_iff.1 hj).1; simpa using this
   obtain rfl:i=j:=by rw [List.getElem?_range hi] at hj; exact Option.some.inj hj
   unfold a3S
   simp only [Z2]
   rw [Z0 hi,j6 (a77 hi),j6 (c8w (show i<b.Parts.length by omega))]
   simp only [cond_true,Option.bind_some]
   rw [(hgi i hi).2,j9 i (by omega)]
   exact a2Y _ _) (by
   unfold a3S
   simp)
  rw [List.length_range] at l1
  rw [Z5,l1]
  unfold bxB
  cases (List.range K.length).all fun i=>gA T (K.getD i a4X) (b.Parts.getD i (g0 [] []))<;>rfl
theorem b5L (hT:GT T)(ho:vOK v=true)(hb:k8 v<=1638300){kind w k:Int}(hk:ndB T kind w k=true)(hkd:kind=10/\v.Kind=6\/kind=12/\v.Kind=7)(hw:w=(v.Kids.length:Int)) :
 Y0 T v k=true↔∀ i,i<v.Kids.length->Y0 T (v.Kids.getD i a4X) ((Z6 T k).getD i 0)=true:=by
 unfold ndB at hk
 simp only [Bool.and_eq_true,beq_iff_eq] at hk
 obtain ⟨h1,h2,h3⟩:=hk
 obtain ⟨j,rfl,hj⟩:=a0W h1
 have ej:=List.getElem?_eq_getElem hj
 unfold a5e at h2
 unfold Z6 at h3 ⊢
 rw [Int.toNat_natCast,ej] at h2 h3 ⊢
 simp only at h2 h3 ⊢
 rw [c4v hT ej ho (by omega)]
 have hl:v.Kids.length=T.Nodes[j].Kids.length:=by omega
 have hu:unM (Y0 T) v T.Nodes[j]=b1F (Y0 T) v.Kids T.Nodes[j].Kids:=by
  unfold unM
  rcases hkd with ⟨rfl,hv⟩ | ⟨rfl,hv⟩<;>simp [h2,hv]
 rw [hu]
 unfold b1F
 rw [hl]
 simp only [beq_self_eq_true,Bool.true_and,List.all_eq_true]
 constructor
 ·intro h i hi
  have e1:=a77 (show i<v.Kids.length by omega)
  have e2:=a9h (show i<T.Nodes[j].Kids.length by omega)
  exact h (v.Kids.getD i a4X,T.Nodes[j].Kids.getD i 0) (List.mem_of_getElem? (List.getElem?_zip_eq_some.2 ⟨e1,e2⟩))
 ·intro h p hp
  obtain ⟨i,hi⟩:=List.getElem?_of_mem hp
  obtain ⟨p1,p2⟩:=b6w hi
  have hi1:=(List.getElem?_eq_some_iff.1 p1).1
  have:=h i (by omega)
  rw [List.getD,p1,Option.getD_some,List.getD,p2,Option.getD_some] at this
  exact this
theorem c7H {w:Nat}{pos neg:List Int}{b:Api_Box}{vi:Int->Bool}(hw:∀ r∈(pos++neg).map (Z6 T),r.length=w/\∀ y∈r,inR T.Nodes.length y=true)(hb:b∈a1P (w:Int) vi (pos.map (Z6 T)) (neg.map (Z6 T)))(hp:pos.length<=1000)(hn:neg.length<=1000) :
 b.Parts.length=w/\∀ i,i<w->(b.Parts.getD i (g0 [] [])).Lists=false/\gIn T.Nodes.length (b.Parts.getD i (g0 [] []))=true/\(b.Parts.getD i (g0 [] [])).Pos.length<=1000/\(b.Parts.getD i (g0 [] [])).Neg.length<=1000:=by
 obtain ⟨w',ds,e,_,_,_,hdl,_,hbx⟩:=b5y hb
 obtain rfl:w=w':=by omega
 have hparts:=(b6Z hbx).1
 refine ⟨by rw [hparts,List.length_map,List.length_range],fun i hi=>?_⟩
 rw [hparts,List.getD,c4M hi,Option.getD_some]
 have hin:∀ r,r∈pos.map (Z6 T)\/r∈neg.map (Z6 T)->inR T.Nodes.length (r.getD i 0)=true:=fun r hr=>by
  obtain ⟨h1,h2⟩:=hw r (by rw [List.map_append]; exact List.mem_append.2 hr)
  exact h2 _ (List.mem_of_getElem? (a9h (by omega)))
 have hp1:∀ x∈a36 (pos.map (Z6 T)) i,inR T.Nodes.length x=true:=fun x hx=>by
  unfold a36 at hx
  obtain ⟨r,hr,rfl⟩:=List.mem_map.1 hx
  exact hin r (.inl hr)
 have hn1:∀ x∈a6f ((neg.map (Z6 T)).zip (a5w ((neg.map (Z6 T)).map (V0 vi)) ds)) i,inR T.Nodes.length x=true:=fun x hx=>by
  obtain ⟨q,hq,_,rfl⟩:=b8Q.1 hx
  exact hin q.1 (.inr (List.of_mem_zip hq).1)
 refine ⟨rfl,?_,?_,?_⟩
 ·show gIn T.Nodes.length (g0 (srt _) (srt _))=true
  rw [c9I]
  unfold gIn
  rw [Bool.and_eq_true,List.all_eq_true,List.all_eq_true]
  exact ⟨hp1,hn1⟩
 ·refine Nat.le_trans (c4E _) ?_
  show (a36 _ i).length<=1000
  unfold a36
  rw [List.length_map,List.length_map]
  exact hp
 ·refine Nat.le_trans (c4E _) ?_
  refine Nat.le_trans (b5W _ _) ?_
  rw [List.length_zip,List.length_map]
  omega
theorem c7N (hT:GT T)(hr:inR T.Nodes.length T.Root=true):wfB T=true:=by
 obtain ⟨c,hc,hw⟩:=c5Y T
 have h1:=c2I T hT.small (by have:=hT.len; omega) 1100001 (by have:=hT.len; omega)
 rw [wf0 hT hr 1100001 (Nat.le_refl _),hc] at h1
 rw [<- hw,<- Option.some.inj h1]
 rfl
theorem c9b (ho:vOK v=true)(h:v.Kind=6):v.Kids.length<=4:=by
 rw [b3T] at ho
 simp only [Bool.and_eq_true] at ho
 have hn:=ho.1
 unfold a1F at hn
 simp only [Bool.and_eq_true] at hn
 have hk:=hn.2.2
 unfold a3h at hk
 simpa [h] using hk
theorem c1S (ho:vOK v=true)(h:v.Kind=7):∃ a b,v.Kids=[a,b]/\(b.Kind==5||b.Kind==7)=true:=by
 rw [b3T] at ho
 simp only [Bool.and_eq_true] at ho
 have hn:=ho.1
 unfold a1F at hn
 simp only [Bool.and_eq_true] at hn
 have hk:=hn.2.2
 unfold a3h at hk
 have hk':a7m v.Kids=true:=by simpa [h] using hk
 unfold a7m at hk'
 split at hk'
 ·rename_i a b e
  exact ⟨a,b,e,hk'⟩
 ·cases hk'
theorem c6C (hT:GT T)(hr:inR T.Nodes.length T.Root=true)(ho:vOK v=true)(hb:k8 v<=1638300){x:Api_Line}(hx:LD T x)(hk:v.Kind=x.Kind)(h6:v.Kind=6->(v.Kids.length:Int)=x.Arity) :
 (∀ b∈a9A T (x.Kind==7) x.Arity x.Pos x.Neg,b.Parts.length=v.Kids.length/\∀ g∈b.Parts,g.Pos.length<=1000000/\g.Neg.length<=1000000) /\
 (a9A T (x.Kind==7) x.Arity x.Pos x.Neg).any (fun b=>bxB T v.Kids b.Parts)=gA T v (Api_Goal.mk x.Pos x.Neg false):=by
 have hall:=hT.all
 have hw4:v.Kids.length<=4:=by
  rcases hx.kind with h | h
  ·exact c9b ho (hk.trans h)
  ·obtain ⟨a,b,e,_⟩:=c1S ho (hk.trans h)
   rw [e]; simp
 obtain ⟨kind,hkind,hok⟩:∃ kind:Int,(kind=10/\v.Kind=6\/kind=12/\v.Kind=7)/\(x.Pos++x.Neg).all (ndB T kind (v.Kids.length:Int))=true:=by
  have:=hx.ok
  rcases hx.kind with h | h
  ·rw [if_neg (by omega),if_neg (by omega),<- h6 (hk.trans h)] at this
   exact ⟨10,.inl ⟨rfl,hk.trans h⟩,this⟩
  ·obtain ⟨a,b,e,_⟩:=c1S ho (hk.trans h)
   rw [if_pos h,if_pos h] at this
   refine ⟨12,.inr ⟨rfl,hk.trans h⟩,?_⟩
   rw [e]
   exact this
 rw [List.all_eq_true] at hok
 have hrow:∀ r∈(x.Pos++x.Neg).map (Z6 T),r.length=v.Kids.length/\∀ y∈r,inR T.Nodes.length y=true:=fun r hr'=>by
  obtain ⟨k,hkm,rfl⟩:=List.mem_map.1 hr'
  have h1:=hok k hkm
  refine ⟨?_,c4o hall h1⟩
  unfold ndB at h1
  simp only [Bool.and_eq_true,beq_iff_eq] at h1
  omega
 have hrp:∀ r∈x.Pos.map (Z6 T),r.length=v.Kids.length:=fun r h=>(hrow r (by rw [List.map_append]; exact List.mem_append_left _ h)).1
 have hrn:∀ r∈x.Neg.map (Z6 T),r.length=v.Kids.length:=fun r h=>(hrow r (by rw [List.map_append]; exact List.mem_append_right _ h)).1
 have hpl:=hx.pos
 have hnl:=hx.neg
 have base:∀ b∈a1P (v.Kids.length:Int) (viT T) (x.Pos.map (Z6 T)) (x.Neg.map (Z6 T)),b.Parts.length=v.Kids.length/\∀ i,i<v.Kids.length->(b.Parts.getD i (g0 [] [])).Lists=false/\gIn T.Nodes.length (b.Parts.getD i (g0 [] []))=true/\(b.Parts.getD i (g0 [] [])).Pos.length<=1000/\(b.Parts.getD i (g0 [] [])).Neg.length<=1000 :=
  fun b hbm=>c7H hrow hbm (by omega) (by omega)
 have hpart:∀ b∈a1P (v.Kids.length:Int) (viT T) (x.Pos.map (Z6 T)) (x.Neg.map (Z6 T)),bxB T v.Kids b.Parts=true↔∀ i,i<v.Kids.length->inB (b.Parts.getD i (g0 [] [])) (Y0 T (v.Kids.getD i a4X))=true:=fun b hbm=>by
  unfold bxB
  rw [List.all_eq_true]
  have one:∀ i,i<v.Kids.length->gA T (v.Kids.getD i a4X) (b.Parts.getD i (g0 [] []))=inB (b.Parts.getD i (g0 [] [])) (Y0 T (v.Kids.getD i a4X)):=fun i hi=>by
   obtain ⟨a1,a2,_⟩:=(base b hbm).2 i hi
   unfold gA c0U
   rw [a1,a2]
   rfl
  constructor
  ·intro h i hi
   rw [<- one i hi]
   exact h i (by simpa using hi)
  ·intro h i hi
   have hi:i<v.Kids.length:=by simpa using hi
   rw [one i hi]
   exact h i hi
 have hsem:=c6Y hw4 (vi:=viT T) hrp hrn (fun i k=>Y0 T (v.Kids.getD i a4X) k) (fun i hi r hr' hvi=>by
  have hin:=(hrow r (by rw [List.map_append]; exact List.mem_append_right _ hr')).2 _ (List.mem_of_getElem? (a9h (show i<r.length by rw [hrn r hr']; exact hi)))
  obtain ⟨j,hj,hjl⟩:=a0W hin
  show Y0 T (v.Kids.getD i a4X) (r.getD i 0)=true
  rw [hj] at hvi ⊢
  have ej:=List.getElem?_eq_getElem hjl
  obtain ⟨k1,k2⟩:=c1f ho hb (List.mem_of_getElem? (a77 hi))
  rw [c4v hT ej k1 (by omega)]
  unfold viT a5e at hvi
  rw [Int.toNat_natCast,ej] at hvi
  have h2:T.Nodes[j].Kind=2:=by simpa using hvi
  unfold unM
  rw [if_pos h2])
 have hgm:gA T v (Api_Goal.mk x.Pos x.Neg false)=true↔(∀ r∈x.Pos.map (Z6 T),∀ i,i<v.Kids.length->Y0 T (v.Kids.getD i a4X) (r.getD i 0)=true)/\∀ r∈x.Neg.map (Z6 T),∃ i,i<v.Kids.length/\Y0 T (v.Kids.getD i a4X) (r.getD i 0)=false:=by
  have hgi:gIn T.Nodes.length (Api_Goal.mk x.Pos x.Neg false)=true:=by
   unfold gIn
   rw [Bool.and_eq_true,List.all_eq_true,List.all_eq_true]
   have hin:∀ k∈x.Pos++x.Neg,inR T.Nodes.length k=true:=fun k hk'=>by
    have:=hok k hk'
    unfold ndB at this
    simp only [Bool.and_eq_true] at this
    exact this.1
   exact ⟨fun k h=>hin k (List.mem_append_left _ h),fun k h=>hin k (List.mem_append_right _ h)⟩
  unfold gA
  rw [hgi]
  have hl:c0U v (Api_Goal.mk x.Pos x.Neg false).Lists=true:=rfl
  rw [hl]
  simp only [Bool.true_and]
  unfold gM
  rw [Bool.and_eq_true,List.all_eq_true,List.all_eq_true]
  constructor
  ·rintro ⟨h1,h2⟩
   refine ⟨fun r hr'=>?_,fun r hr'=>?_⟩
   ·obtain ⟨k,hkm,rfl⟩:=List.mem_map.1 hr'
    exact (b5L hT ho hb (hok k (List.mem_append_left _ hkm)) hkind rfl).1 (h1 k hkm)
   ·obtain ⟨k,hkm,rfl⟩:=List.mem_map.1 hr'
    have h3:¬ Y0 T v k=true:=by simpa using h2 k hkm
    rw [b5L hT ho hb (hok k (List.mem_append_right _ hkm)) hkind rfl] at h3
    simp only [Classical.not_forall] at h3
    obtain ⟨i,hi,h4⟩:=h3
    exact ⟨i,hi,by simpa using h4⟩
  ·rintro ⟨h1,h2⟩
   refine ⟨fun k hkm=>(b5L hT ho hb (hok k (List.mem_append_left _ hkm)) hkind rfl).2 (h1 _ (List.mem_map.2 ⟨k,hkm,rfl⟩)),fun k hkm=>?_⟩
   obtain ⟨i,hi,h4⟩:=h2 _ (List.mem_map.2 ⟨k,hkm,rfl⟩)
   cases hm:Y0 T v k with
   | false=>rfl
   | true =>
     have:=(b5L hT ho hb (hok k (List.mem_append_right _ hkm)) hkind rfl).1 hm i hi
     rw [this] at h4
     cases h4
 have hany:(a1P (v.Kids.length:Int) (viT T) (x.Pos.map (Z6 T)) (x.Neg.map (Z6 T))).any (fun b=>bxB T v.Kids b.Parts)=gA T v (Api_Goal.mk x.Pos x.Neg false):=by
  rw [Bool.eq_iff_iff,List.any_eq_true,hgm,<- hsem]
  constructor
  ·rintro ⟨b,hbm,h⟩
   exact ⟨b,hbm,(hpart b hbm).1 h⟩
  ·rintro ⟨b,hbm,h⟩
   exact ⟨b,hbm,(hpart b hbm).2 h⟩
 have hlens:∀ b∈a1P (v.Kids.length:Int) (viT T) (x.Pos.map (Z6 T)) (x.Neg.map (Z6 T)),∀ g∈b.Parts,g.Pos.length<=1000000/\g.Neg.length<=1000000:=fun b hbm g hg=>by
  obtain ⟨i,hi,rfl⟩:=List.getElem_of_mem hg
  obtain ⟨a1,a2⟩:=base b hbm
  obtain ⟨_,_,a3,a4⟩:=a2 i (by omega)
  rw [List.getD,List.getElem?_eq_getElem hi,Option.getD_some] at a3 a4
  omega
 rcases hx.kind with h | h
 ·have e7:(x.Kind==7)=false:=by rw [h]; rfl
  rw [e7]
  unfold a9A
  simp only [cond_false]
  rw [<- h6 (hk.trans h)]
  exact ⟨fun b hbm=>⟨(base b hbm).1,hlens b hbm⟩,hany⟩
 ·have e7:(x.Kind==7)=true:=by rw [h]; rfl
  obtain ⟨ka,kb,ek,hkb⟩:=c1S ho (hk.trans h)
  have e2:(v.Kids.length:Int)=2:=by rw [ek]; rfl
  rw [e7]
  unfold a9A
  simp only [cond_true]
  rw [<- e2]
  have hset:∀ b∈a1P (v.Kids.length:Int) (viT T) (x.Pos.map (Z6 T)) (x.Neg.map (Z6 T)),∃ d0 d1,b.Parts=[d0,d1]/\(a1M b).Parts=[d0,a3e d1]:=fun b hbm=>by
   have hl:=(base b hbm).1
   rw [ek] at hl
   match hp:b.Parts,hl with
   | [d0,d1],_ =>
     refine ⟨d0,d1,rfl,?_⟩
     unfold a1M
     rw [hp]
  refine ⟨fun b hbm=>?_,?_⟩
  ·obtain ⟨b',hb',rfl⟩:=List.mem_map.1 hbm
   obtain ⟨d0,d1,p1,p2⟩:=hset b' hb'
   have hl:=hlens b' hb'
   rw [p1] at hl
   rw [p2,ek]
   refine ⟨rfl,fun g hg=>?_⟩
   rcases List.mem_cons.1 hg with rfl | hg
   ·exact hl g (by simp)
   ·rw [List.mem_singleton.1 hg]
    exact hl d1 (by simp)
  ·rw [List.any_map,<- hany]
   rw [Bool.eq_iff_iff,List.any_eq_true,List.any_eq_true]
   have same:∀ b∈a1P (v.Kids.length:Int) (viT T) (x.Pos.map (Z6 T)) (x.Neg.map (Z6 T)),bxB T v.Kids (a1M b).Parts=bxB T v.Kids b.Parts:=fun b hbm=>by
    obtain ⟨d0,d1,p1,p2⟩:=hset b hbm
    have hl:=((base b hbm).2 1 (by rw [ek]; simp)).1
    rw [p1] at hl
    have hl':d1.Lists=false:=hl
    rw [p1,p2]
    unfold bxB
    rw [ek]
    have e1:gA T kb (a3e d1)=gA T kb d1:=by
     unfold gA a3e c0U gIn gM
     simp only [hl',hkb]
     rfl
    show (List.all [0,1] fun i=>gA T ([ka,kb].getD i a4X) ([d0,a3e d1].getD i (g0 [] [])))=List.all [0,1] fun i=>gA T ([ka,kb].getD i a4X) ([d0,d1].getD i (g0 [] []))
    simp only [List.all_cons,List.all_nil]
    show (gA T ka d0&&(gA T kb (a3e d1)&&true))=(gA T ka d0&&(gA T kb d1&&true))
    rw [e1]
   constructor
   ·rintro ⟨b,hbm,h1⟩
    exact ⟨b,hbm,(same b hbm).symm.trans h1⟩
   ·rintro ⟨b,hbm,h1⟩
    exact ⟨b,hbm,(same b hbm).trans h1⟩
end
theorem b4e (fuel:Nat)(hf:300000000<=fuel)(d t g:List Int):a06 fuel d t g=some true:=by
 obtain ⟨q,hq⟩:∃ q,fuel=q+60:=⟨fuel-60,by omega⟩
 have haw:a1k fuel=some true:=by rw [hq]; exact c9T q
 unfold a06
 rw [c73 [d,t,g] (by simp),haw]
 simp only [Option.bind_some]
 cases hs:([d,t,g].all fun x=>!decide (80<(x.length:Int)))
 ·rfl
 have hs':d.length<=80/\t.length<=80/\g.length<=80:=by
  simp at hs
  omega
 simp only [Bool.not_true,cond_false,Option.bind_some]
 obtain ⟨T,hT,hmade⟩:=c7K d (by omega)
 obtain ⟨v,e3,hv⟩:=hmade t (by omega) fuel (by omega)
 obtain ⟨x,u,e4,hx⟩:=c7q (T:=T) (L:=g) (by omega) hT.gt.all hT.len (os0 g)
 have hpl:=hx.pos
 have hnl:=hx.neg
 have hN:=hT.len
 have hW:=c7N hT.gt hT.root
 have hC:=c0l hT.gt.small (by omega) x (by omega) (by omega) hx.kind fuel (by omega)
 rw [hW,hx.ok] at hC
 rw [e3]
 simp only [Option.bind_some]
 rw [e4]
 simp only [Option.bind_some]
 rw [hC]
 simp only [Bool.and_self,if_true,Option.bind_some,bne_self_eq_false,cond_false]
 rcases Bool.eq_false_or_eq_true (decide (2000<((a9A T (x.Kind==7) x.Arity x.Pos x.Neg).length:Int))) with h2 | h2
 ·rw [h2]; rfl
 rw [h2]
 have hbl:(a9A T (x.Kind==7) x.Arity x.Pos x.Neg).length<=2000:=by simp at h2; omega
 simp only [cond_false,Option.bind_some]
 by_cases hk:v.Kind=x.Kind
 ·have e5:(v.Kind != x.Kind)=false:=by rw [hk]; simp
  rw [e5]
  simp only [cond_false]
  by_cases h6:v.Kind=6->(v.Kids.length:Int)=x.Arity
  ·have e6:(Option.bind (bif v.Kind==6 then (some ((v.Kids.length:Int) != x.Arity)) else (some false)) fun q=>some q)=some false:=by
    by_cases h:v.Kind=6
    ·rw [h6 h,h]; simp
    ·have:(v.Kind==6)=false:=by simpa using h
     rw [this]; rfl
   rw [e6]
   simp only [Option.bind_some,cond_false,Z5]
   obtain ⟨hb1,hb2⟩:=c6C hT.gt hT.root hv.ok hv.bulk hx hk h6
   generalize a9A T (x.Kind==7) x.Arity x.Pos x.Neg=bs at hbl hb1 hb2
   have hkl:v.Kids.length<=1000:=by
    have h1:=a1Z v.Kids
    rcases hx.kind with h | h
    ·have:=c9b hv.ok (hk.trans h); omega
    ·obtain ⟨a,b,e,_⟩:=c1S hv.ok (hk.trans h)
     rw [e]; simp
   have hloop:=b1p (step:=X0 fuel (T,v) (bs,0)) (fun i=>((bs.take i).any (fun b=>bxB T v.Kids b.Parts),(i:Int))) bs.length (.inl (bs.any fun b=>bxB T v.Kids b.Parts)) (fun i hi=>by
    have hxi:=List.getElem?_eq_getElem hi
    obtain ⟨p1,p2⟩:=hb1 _ (List.getElem_mem hi)
    obtain ⟨i1,i2⟩:=c7T hT.gt hT.root v.Kids (fun y hy=>c1f hv.ok hv.bulk hy) hkl bs[i] p1 p2 fuel (by omega)
    unfold X0
    simp only [Z2]
    rw [Z0 hi,j6 hxi]
    simp only [cond_true,Option.bind_some]
    rw [i2]
    simp only [Option.bind_some]
    rw [i1,j9 i (by omega),List.take_add_one,hxi]
    simp only [Option.bind_some,bne_self_eq_false,cond_false,Option.toList_some,List.any_append,List.any_cons,List.any_nil,Bool.or_false]
    cases (bs.take i).any fun b=>bxB T v.Kids b.Parts<;>rfl) (by
    unfold X0
    rw [List.take_length]
    simp) (bs.length+1) (Nat.le_refl _)
   have hloop':y4 (X0 fuel (T,v) (bs,0)) (bs.length+1) (false,0)=some (.inl (bs.any fun b=>bxB T v.Kids b.Parts)):=hloop
   rw [hloop']
   simp only [Option.bind_some,k7]
   rw [b8q hT.gt hT.root hv.ok (by have:=hv.bulk; omega) _ (by show x.Pos.length<=1000000; omega) (by show x.Neg.length<=1000000; omega) fuel (by omega),hb2]
   simp
  ·have h6':v.Kind=6/\¬ (v.Kids.length:Int)=x.Arity:=by
    constructor
    ·exact Classical.byContradiction fun h=>h6 fun h'=>absurd h' h
    ·exact fun h=>h6 fun _=>h
   have e6:((v.Kids.length:Int) != x.Arity)=true:=by simpa using h6'.2
   rw [h6'.1,e6]
   rfl
 ·have e5:(v.Kind != x.Kind)=true:=by simpa using hk
  rw [e5]
  rfl
end Go.Pl
end
section
namespace Go.Proofs
open Go.Shelf
set_option maxRecDepth 100000
def Tryz.lay130_ren:Go.Shelf.Ren:=⟨fun | 189=>130 | 125=>146 | 257=>145 | 128=>163 | 129=>164 | 294=>154 | 295=>155 | 296=>156 | 297=>157 | 298=>158 | 299=>159 | 216=>160 | 300=>161 | 301=>162 | 328=>168 | 329=>169 | 330=>170 | 331=>171 | 332=>172 | 215=>143 | 343=>179 | n=>n,fun | 28=>22 | 3=>3 | 46=>158 | 0=>0 | 51=>174 | 53=>176 | 4=>4 | 183=>166 | 182=>165 | 131=>171 | 5=>5 | 9=>9 | 218=>177 | 222=>181 | 228=>187 | 229=>188 | n=>n,fun | n=>n⟩
theorem Tryz.lay130:Go.Proofs.Lays.n189 Tryz.prog Tryz.lay130_ren:={
 mixed:=by kernel_rfl
 f125:=Tryz.func146.trans (congrArg some (by kernel_rfl))
 f128:=Tryz.func163.trans (congrArg some (by kernel_rfl))
 f129:=Tryz.func164.trans (congrArg some (by kernel_rfl))
 f189:=Tryz.func130.trans (congrArg some (by kernel_rfl))
 f215:=Tryz.func143.trans (congrArg some (by kernel_rfl))
 f216:=Tryz.func160.trans (congrArg some (by kernel_rfl))
 f257:=Tryz.func145.trans (congrArg some (by kernel_rfl))
 f294:=Tryz.func154.trans (congrArg some (by kernel_rfl))
 f295:=Tryz.func155.trans (congrArg some (by kernel_rfl))
 f296:=Tryz.func156.trans (congrArg some (by kernel_rfl))
 f297:=Tryz.func157.trans (congrArg some (by kernel_rfl))
 f298:=Tryz.func158.trans (congrArg some (by kernel_rfl))
 f299:=Tryz.func159.trans (congrArg some (by kernel_rfl))
 f300:=Tryz.func161.trans (congrArg some (by kernel_rfl))
 f301:=Tryz.func162.trans (congrArg some (by kernel_rfl))
 f328:=Tryz.func168.trans (congrArg some (by kernel_rfl))
 f329:=Tryz.func169.trans (congrArg some (by kernel_rfl))
 f330:=Tryz.func170.trans (congrArg some (by kernel_rfl))
 f331:=Tryz.func171.trans (congrArg some (by kernel_rfl))
 f332:=Tryz.func172.trans (congrArg some (by kernel_rfl))
 f343:=Tryz.func179.trans (congrArg some (by kernel_rfl))
 t0:=Tryz.underlying0
 a0:=Tryz.isAgg0
 z0:=Tryz.sizeOf0
 v0:=Tryz.zeroValue0
 t3:=Tryz.underlying3
 a3:=Tryz.isAgg3
 z3:=Tryz.sizeOf3
 v3:=Tryz.zeroValue3
 t4:=Tryz.underlying4
 a4:=Tryz.isAgg4
 z4:=Tryz.sizeOf4
 v4:=Tryz.zeroValue4
 t5:=Tryz.underlying5
 a5:=Tryz.isAgg5
 z5:=Tryz.sizeOf5
 v5:=Tryz.zeroValue5
 t9:=Tryz.underlying9
 a9:=Tryz.isAgg9
 z9:=Tryz.sizeOf9
 v9:=Tryz.zeroValue9
 t28:=Tryz.underlying22
 a28:=Tryz.isAgg22
 z28:=Tryz.sizeOf22
 v28:=Tryz.zeroValue22
 t46:=Tryz.underlying158
 a46:=Tryz.isAgg158
 z46:=Tryz.sizeOf158
 v46:=Tryz.zeroValue158
 t51:=Tryz.underlying174
 a51:=Tryz.isAgg174
 z51:=Tryz.sizeOf174
 v51:=Tryz.zeroValue174
 t53:=Tryz.underlying176
 a53:=Tryz.isAgg176
 z53:=Tryz.sizeOf176
 v53:=Tryz.zeroValue176
 t131:=Tryz.underlying171
 a131:=Tryz.isAgg171
 z131:=Tryz.sizeOf171
 v131:=Tryz.zeroValue171
 t182:=Tryz.underlying165
 a182:=Tryz.isAgg165
 z182:=Tryz.sizeOf165
 v182:=Tryz.zeroValue165
 t183:=Tryz.underlying166
 a183:=Tryz.isAgg166
 z183:=Tryz.sizeOf166
 v183:=Tryz.zeroValue166
 t218:=Tryz.underlying177
 a218:=Tryz.isAgg177
 z218:=Tryz.sizeOf177
 v218:=Tryz.zeroValue177
 t222:=Tryz.underlying181
 a222:=Tryz.isAgg181
 z222:=Tryz.sizeOf181
 v222:=Tryz.zeroValue181
 t228:=Tryz.underlying187
 a228:=Tryz.isAgg187
 z228:=Tryz.sizeOf187
 v228:=Tryz.zeroValue187
 t229:=Tryz.underlying188
 a229:=Tryz.isAgg188
 z229:=Tryz.sizeOf188
 v229:=Tryz.zeroValue188 }
end Go.Proofs
end
section
namespace Go.Qx
open Go Go.RowKit Go.Sx
set_option maxRecDepth 100000
abbrev b2a (v:Api_Field):Key×Int×Bool:=(v.Key_,v.Node,v.Optional)
abbrev b7p (x:Key×Int×Bool):Api_Field:=⟨x.1,x.2.1,x.2.2⟩
@[reducible] def a1m:Rp Api_Field:=a6T b2a (J0 (rpKey) (J0 (rpK .i64) (rpBool)))
abbrev a8I (v:Api_TypeNode):Int×Int×Int×ByteArray×(List Int)×(List Api_Field)×(Int×Int):=(v.Kind,v.Lo,v.Hi,v.Text,v.Kids,v.Fields,v.Rest)
abbrev b2R (x:Int×Int×Int×ByteArray×(List Int)×(List Api_Field)×(Int×Int)):Api_TypeNode:=⟨x.1,x.2.1,x.2.2.1,x.2.2.2.1,x.2.2.2.2.1,x.2.2.2.2.2.1,x.2.2.2.2.2.2⟩
@[reducible] def a0j:Rp Api_TypeNode:=a6T a8I (J0 (rpK .i64) (J0 (rpK .i64) (J0 (rpK .i64) (J0 (rpStr) (J0 (@rpList _ (rpK .i64)) (J0 (@rpList _ (a1m)) (J0 (rpK .i64) (rpK .i64))))))))
abbrev b3v (v:Api_Type):(List Api_TypeNode)×Int:=(v.Nodes,v.Root)
abbrev b8i (x:(List Api_TypeNode)×Int):Api_Type:=⟨x.1,x.2⟩
@[reducible] def a54:Rp Api_Type:=a6T b3v (J0 (@rpList _ (a0j)) (rpK .i64))
abbrev b1o (v:Api_Names):Bool×(List ByteArray):=(v.Cofinite,v.List_)
abbrev b6Q (x:Bool×(List ByteArray)):Api_Names:=⟨x.1,x.2⟩
@[reducible] def a2p:Rp Api_Names:=a6T b1o (J0 (rpBool) (@rpList _ (rpStr)))
abbrev b1e (v:Api_Range):Int×Int:=(v.Lo,v.Hi)
abbrev b6N (x:Int×Int):Api_Range:=⟨x.1,x.2⟩
@[reducible] def a1n:Rp Api_Range:=a6T b1e (J0 (rpK .i64) (rpK .i64))
abbrev b3d (v:Api_Line):Int×Int×(List Api_Range)×Api_Names×(List Int)×(List Int)×(List ByteArray)×(List ByteArray):=(v.Kind,v.Arity,v.Ints,v.Names,v.Pos,v.Neg,v.Vars,v.NotVars)
abbrev b8n (x:Int×Int×(List Api_Range)×Api_Names×(List Int)×(List Int)×(List ByteArray)×(List ByteArray)):Api_Line:=⟨x.1,x.2.1,x.2.2.1,x.2.2.2.1,x.2.2.2.2.1,x.2.2.2.2.2.1,x.2.2.2.2.2.2.1,x.2.2.2.2.2.2.2⟩
@[reducible] def a58:Rp Api_Line:=a6T b3d (J0 (rpK .i64) (J0 (rpK .i64) (J0 (@rpList _ (a1n)) (J0 (a2p) (J0 (@rpList _ (rpK .i64)) (J0 (@rpList _ (rpK .i64)) (J0 (@rpList _ (rpStr)) (@rpList _ (rpStr)))))))))
abbrev a5k (v:Semtypebase_Source):(List Int)×Int:=(v.L,v.At)
abbrev a7Z (x:(List Int)×Int):Semtypebase_Source:=⟨x.1,x.2⟩
@[reducible] def a1e:Rp Semtypebase_Source:=a6T a5k (J0 (@rpList _ (rpK .i64)) (rpK .i64))
abbrev b3Q (v:Api_Goal):(List Int)×(List Int)×Bool:=(v.Pos,v.Neg,v.Lists)
abbrev b8j (x:(List Int)×(List Int)×Bool):Api_Goal:=⟨x.1,x.2.1,x.2.2⟩
@[reducible] def a0o:Rp Api_Goal:=a6T b3Q (J0 (@rpList _ (rpK .i64)) (J0 (@rpList _ (rpK .i64)) (rpBool)))
abbrev a21 (v:Api_Box):(List Api_Goal):=v.Parts
abbrev c46 (x:(List Api_Goal)):Api_Box:=⟨x⟩
@[reducible] def b5u:Rp Api_Box:=a6T a21 (@rpList _ (a0o))
abbrev b0o (v:Value_used):Bool×Bool×Bool×Bool×Bool:=(v.number,v.text_,v.kids,v.keys,v.entries)
abbrev b53 (x:Bool×Bool×Bool×Bool×Bool):Value_used:=⟨x.1,x.2.1,x.2.2.1,x.2.2.2.1,x.2.2.2.2⟩
@[reducible] def a4C:Rp Value_used:=a6T b0o (J0 (rpBool) (J0 (rpBool) (J0 (rpBool) (J0 (rpBool) (rpBool)))))
def tyL:List TE:=[⟨2,Int,rpK .i64⟩,
 ⟨3,Int,rpK .i64⟩,
 ⟨4,Bool,rpBool⟩,
 ⟨9,ByteArray,rpStr⟩,
 ⟨22,List Int,@rpList _ (rpK .i64)⟩,
 ⟨25,List Api_TypeNode,@rpList _ (a0j)⟩,
 ⟨27,Api_Type,a54⟩,
 ⟨28,List Val,@rpList _ (rpVal)⟩,
 ⟨29,List Key,@rpList _ (rpKey)⟩,
 ⟨30,List Ent,@rpList _ (rpEnt)⟩,
 ⟨31,List ByteArray,@rpList _ (rpStr)⟩,
 ⟨33,Val,rpVal⟩,
 ⟨36,List Api_Range,@rpList _ (a1n)⟩,
 ⟨38,Api_Names,a2p⟩,
 ⟨40,Api_Line,a58⟩,
 ⟨44,Semtypebase_Source,a1e⟩,
 ⟨50,List Api_Goal,@rpList _ (a0o)⟩,
 ⟨52,Api_Box,b5u⟩,
 ⟨56,Api_Goal,a0o⟩,
 ⟨62,List Api_Field,@rpList _ (a1m)⟩,
 ⟨63,Int×Int,J0 (rpK .i64) (rpK .i64)⟩,
 ⟨65,Api_TypeNode,a0j⟩,
 ⟨88,Ent,rpEnt⟩,
 ⟨109,Key,rpKey⟩,
 ⟨111,Api_Field,a1m⟩,
 ⟨149,Value_used,a4C⟩,
 ⟨206,Api_Range,a1n⟩]
abbrev I (E:TypeId):Type:=(a8v tyL E).α
instance rI (E:TypeId):Rp (I E):=(a8v tyL E).rp
def c32:Fd I (I 27) inferInstance:=(a11 (rg:=a54) (Z1 (K9 65:Fd I (List Api_TypeNode) (@rpList _ (a0j))) ((a0q .i64:Fd I Int (rpK .i64)))) b3v b8i (fun _=>rfl) (fun _ _ _=>Iff.rfl):Fd I Api_Type a54)
def c6S:Fd I (I 33) inferInstance:=(a11 (rg:=rpVal) (Z1 (a0q .i64:Fd I Int (rpK .i64)) (Z1 (a0q .i64:Fd I Int (rpK .i64)) (Z1 (b2E:Fd I ByteArray (rpStr)) (Z1 (K9 33:Fd I (List Val) (@rpList _ (rpVal))) (Z1 (K9 109:Fd I (List Key) (@rpList _ (rpKey))) (Z1 (K9 88:Fd I (List Ent) (@rpList _ (rpEnt))) ((K9 9:Fd I (List ByteArray) (@rpList _ (rpStr)))))))))) Val.to Val.of (fun _=>rfl) Val.cells_to:Fd I Val rpVal)
def b6M:Fd I (I 38) inferInstance:=(a11 (rg:=a2p) (Z1 (a2b:Fd I Bool (rpBool)) ((K9 9:Fd I (List ByteArray) (@rpList _ (rpStr))))) b1o b6Q (fun _=>rfl) (fun _ _ _=>Iff.rfl):Fd I Api_Names a2p)
def c3W:Fd I (I 40) inferInstance:=(a11 (rg:=a58) (Z1 (a0q .i64:Fd I Int (rpK .i64)) (Z1 (a0q .i64:Fd I Int (rpK .i64)) (Z1 (K9 206:Fd I (List Api_Range) (@rpList _ (a1n))) (Z1 (b2u 38 b6M:Fd I Api_Names (a2p)) (Z1 (K9 3:Fd I (List Int) (@rpList _ (rpK .i64))) (Z1 (K9 3:Fd I (List Int) (@rpList _ (rpK .i64))) (Z1 (K9 9:Fd I (List ByteArray) (@rpList _ (rpStr))) ((K9 9:Fd I (List ByteArray) (@rpList _ (rpStr))))))))))) b3d b8n (fun _=>rfl) (fun _ _ _=>Iff.rfl):Fd I Api_Line a58)
def b4P:Fd I (I 44) inferInstance:=(a11 (rg:=a1e) (Z1 (K9 3:Fd I (List Int) (@rpList _ (rpK .i64))) ((a0q .i64:Fd I Int (rpK .i64)))) a5k a7Z (fun _=>rfl) (fun _ _ _=>Iff.rfl):Fd I Semtypebase_Source a1e)
def c49:Fd I (I 52) inferInstance:=(a11 (rg:=b5u) ((K9 56:Fd I (List Api_Goal) (@rpList _ (a0o)))) a21 c46 (fun _=>rfl) (fun _ _ _=>Iff.rfl):Fd I Api_Box b5u)
def c3U:Fd I (I 56) inferInstance:=(a11 (rg:=a0o) (Z1 (K9 3:Fd I (List Int) (@rpList _ (rpK .i64))) (Z1 (K9 3:Fd I (List Int) (@rpList _ (rpK .i64))) ((a2b:Fd I Bool (rpBool))))) b3Q b8j (fun _=>rfl) (fun _ _ _=>Iff.rfl):Fd I Api_Goal a0o)
def c6P:Fd I (I 63) inferInstance:=(Z1 (a0q .i64:Fd I Int (rpK .i64)) ((a0q .i64:Fd I Int (rpK .i64))):Fd I (Int×Int) (J0 (rpK .i64) (rpK .i64)))
def b9v:Fd I (I 65) inferInstance:=(a11 (rg:=a0j) (Z1 (a0q .i64:Fd I Int (rpK .i64)) (Z1 (a0q .i64:Fd I Int (rpK .i64)) (Z1 (a0q .i64:Fd I Int (rpK .i64)) (Z1 (b2E:Fd I ByteArray (rpStr)) (Z1 (K9 3:Fd I (List Int) (@rpList _ (rpK .i64))) (Z1 (K9 111:Fd I (List Api_Field) (@rpList _ (a1m))) ((b2u 63 c6P:Fd I (Int×Int) (J0 (rpK .i64) (rpK .i64)))))))))) a8I b2R (fun _=>rfl) (fun _ _ _=>Iff.rfl):Fd I Api_TypeNode a0j)
def d1i:Fd I (I 88) inferInstance:=(a11 (rg:=rpEnt) (Z1 (K9 33:Fd I (List Val) (@rpList _ (rpVal))) (Z1 (a2b:Fd I Bool (rpBool)) ((b2u 33 c6S:Fd I Val (rpVal))))) Ent.to Ent.of (fun _=>rfl) Ent.cells_to:Fd I Ent rpEnt)
def c6X:Fd I (I 109) inferInstance:=(a11 (rg:=rpKey) (Z1 (a0q .i64:Fd I Int (rpK .i64)) ((b2E:Fd I ByteArray (rpStr)))) Key.to Key.of (fun _=>rfl) Key.cells_to:Fd I Key rpKey)
def c2F:Fd I (I 111) inferInstance:=(a11 (rg:=a1m) (Z1 (b2u 109 c6X:Fd I Key (rpKey)) (Z1 (a0q .i64:Fd I Int (rpK .i64)) ((a2b:Fd I Bool (rpBool))))) b2a b7p (fun _=>rfl) (fun _ _ _=>Iff.rfl):Fd I Api_Field a1m)
def c1z:Fd I (I 149) inferInstance:=(a11 (rg:=a4C) (Z1 (a2b:Fd I Bool (rpBool)) (Z1 (a2b:Fd I Bool (rpBool)) (Z1 (a2b:Fd I Bool (rpBool)) (Z1 (a2b:Fd I Bool (rpBool)) ((a2b:Fd I Bool (rpBool))))))) b0o b53 (fun _=>rfl) (fun _ _ _=>Iff.rfl):Fd I Value_used a4C)
def c3C:Fd I (I 206) inferInstance:=(a11 (rg:=a1n) (Z1 (a0q .i64:Fd I Int (rpK .i64)) ((a0q .i64:Fd I Int (rpK .i64)))) b1e b6N (fun _=>rfl) (fun _ _ _=>Iff.rfl):Fd I Api_Range a1n)
def feL:List (FE I):=[⟨2,a0q .i64⟩,
 ⟨3,a0q .i64⟩,
 ⟨4,a2b⟩,
 ⟨9,b2E⟩,
 ⟨22,K9 3⟩,
 ⟨25,K9 65⟩,
 ⟨27,c32⟩,
 ⟨28,K9 33⟩,
 ⟨29,K9 109⟩,
 ⟨30,K9 88⟩,
 ⟨31,K9 9⟩,
 ⟨33,c6S⟩,
 ⟨36,K9 206⟩,
 ⟨38,b6M⟩,
 ⟨40,c3W⟩,
 ⟨44,b4P⟩,
 ⟨50,K9 56⟩,
 ⟨52,c49⟩,
 ⟨56,c3U⟩,
 ⟨62,K9 111⟩,
 ⟨63,c6P⟩,
 ⟨65,b9v⟩,
 ⟨88,d1i⟩,
 ⟨109,c6X⟩,
 ⟨111,c2F⟩,
 ⟨149,c1z⟩,
 ⟨206,c3C⟩]
def d08:TabL I where
 sz:=[(27,2),(33,7),(40,9),(52,1),(56,3),(63,2),(65,8),(88,9),(109,2),(111,4),(149,5)]
 one:=[(2,()),(3,()),(4,()),(9,()),(22,()),(25,()),(28,()),(29,()),(30,()),(31,()),(50,()),(62,()),(74,())]
 fld:=[(27,[(0,25),(1,3)]),(33,[(0,3),(1,2),(2,9),(3,28),(4,29),(5,30),(6,31)]),(40,[(0,3),(1,3),(2,36),(3,38),(5,22),(6,22),(7,31),(8,31)]),(44,[(0,22),(1,3)]),(52,[(0,50)]),(56,[(0,22),(1,22),(2,4)]),(65,[(0,3),(1,2),(2,2),(3,9),(4,22),(5,62),(6,63)]),(88,[(0,28),(1,4),(2,33)]),(109,[(0,3),(1,9)]),(111,[(0,109),(2,3),(3,4)]),(149,[(0,4),(1,4),(2,4),(3,4),(4,4)])]
 el:=[(22,3),(25,65),(28,33),(29,109),(30,88),(31,9),(45,52),(50,56),(60,22),(62,111),(91,4),(93,2)]
 str:=[(9,())]
 bool:=[(4,())]
 ik:=[]
 fe:=feL
 inf:=[(2,1,8,[.int .i64 0]),(3,1,8,[.int .i64 0]),(4,1,1,[.bool false]),(9,1,16,[.str ⟨#[]⟩]),(22,1,24,[.nl 3]),(25,1,24,[.nl 65]),(27,2,32,[.nl 65,.int .i64 0]),(28,1,24,[.nl 33]),(29,1,24,[.nl 109]),(31,1,24,[.nl 9]),(33,7,128,[.int .i64 0,.int .i64 0,.str ⟨#[]⟩,.nl 33,.nl 109,.nl 88,.nl 9]),(40,9,168,[.int .i64 0,.int .i64 0,.nl 206,.bool false,.nl 9,.nl 3,.nl 3,.nl 9,.nl 9]),(44,2,32,[.nl 3,.int .i64 0]),(50,1,24,[.nl 56]),(52,1,24,[.nl 56]),(56,3,56,[.nl 3,.nl 3,.bool false]),(62,1,24,[.nl 111]),(63,2,16,[.int .i64 0,.int .i64 0]),(65,8,104,[.int .i64 0,.int .i64 0,.int .i64 0,.str ⟨#[]⟩,.nl 3,.nl 111,.int .i64 0,.int .i64 0]),(74,1,8,[.any]),(88,9,160,[.nl 33,.bool false,.int .i64 0,.int .i64 0,.str ⟨#[]⟩,.nl 33,.nl 109,.nl 88,.nl 9]),(109,2,24,[.int .i64 0,.str ⟨#[]⟩]),(111,4,40,[.int .i64 0,.str ⟨#[]⟩,.int .i64 0,.bool false]),(149,5,5,[.bool false,.bool false,.bool false,.bool false,.bool false])]
 st:=[(27,[(0,1),(1,1)]),(33,[(0,1),(1,1),(2,1),(3,1),(4,1),(5,1),(6,1)]),(40,[(0,1),(1,1),(2,1),(3,2),(5,1),(6,1),(7,1),(8,1)]),(44,[(0,1),(1,1)]),(52,[(0,1)]),(56,[(0,1),(1,1),(2,1)]),(63,[(0,1),(1,1)]),(65,[(0,1),(1,1),(2,1),(3,1),(4,1),(5,1),(6,2)]),(109,[(0,1),(1,1)]),(111,[(0,2),(2,1),(3,1)]),(149,[(0,1),(1,1),(2,1),(3,1),(4,1)])]
 eq:=[(63,b7o feL 63 a7k),(109,b7o feL 109 a3n)]
 nest:=[(22,3,0)]
 arr:=[(63,3,2,1)]
 fb:=[(22,()),(28,()),(70,()),(75,()),(77,()),(93,()),(94,()),(96,()),(97,()),(99,()),(101,()),(111,()),(112,()),(128,()),(150,()),(166,())]
abbrev tb:Tab I:=c5x d08
theorem ti2:K0 Go.Proofs.Tryz.prog 2 (.int .i64 0) 1 8:=K3 (by kernel_rfl)
theorem ti3:K0 Go.Proofs.Tryz.prog 3 (.int .i64 0) 1 8:=K3 (by kernel_rfl)
theorem ti4:K0 Go.Proofs.Tryz.prog 4 (.bool false) 1 1:=K3 (by kernel_rfl)
theorem ti9:K0 Go.Proofs.Tryz.prog 9 (.string ⟨#[]⟩) 1 16:=K3 (by kernel_rfl)
theorem c5c:K0 Go.Proofs.Tryz.prog 22 (.slice none 0 0) 1 24:=K3 (by kernel_rfl)
theorem d1b:K0 Go.Proofs.Tryz.prog 25 (.slice none 0 0) 1 24:=K3 (by kernel_rfl)
theorem d0T:K0 Go.Proofs.Tryz.prog 27 (.agg #[.slice none 0 0,.int .i64 0]) 2 32:=K3 (by kernel_rfl)
theorem d0k:K0 Go.Proofs.Tryz.prog 28 (.slice none 0 0) 1 24:=K3 (by kernel_rfl)
theorem d1k:K0 Go.Proofs.Tryz.prog 29 (.slice none 0 0) 1 24:=K3 (by kernel_rfl)
theorem d0K:K0 Go.Proofs.Tryz.prog 31 (.slice none 0 0) 1 24:=K3 (by kernel_rfl)
theorem c5C:K0 Go.Proofs.Tryz.prog 33 (.agg #[.int .i64 0,.int .i64 0,.string ⟨#[]⟩,.slice none 0 0,.slice none 0 0,.slice none 0 0,.slice none 0 0]) 7 128:=K3 (by kernel_rfl)
theorem d03:K0 Go.Proofs.Tryz.prog 40 (.agg #[.int .i64 0,.int .i64 0,.slice none 0 0,.bool false,.slice none 0 0,.slice none 0 0,.slice none 0 0,.slice none 0 0,.slice none 0 0]) 9 168:=K3 (by kernel_rfl)
theorem d0R:K0 Go.Proofs.Tryz.prog 44 (.agg #[.slice none 0 0,.int .i64 0]) 2 32:=K3 (by kernel_rfl)
theorem d0F:K0 Go.Proofs.Tryz.prog 50 (.slice none 0 0) 1 24:=K3 (by kernel_rfl)
theorem c5L:K0 Go.Proofs.Tryz.prog 52 (.agg #[.slice none 0 0]) 1 24:=K3 (by kernel_rfl)
theorem c5D:K0 Go.Proofs.Tryz.prog 56 (.agg #[.slice none 0 0,.slice none 0 0,.bool false]) 3 56:=K3 (by kernel_rfl)
theorem d1o:K0 Go.Proofs.Tryz.prog 62 (.slice none 0 0) 1 24:=K3 (by kernel_rfl)
theorem d0C:K0 Go.Proofs.Tryz.prog 63 (.agg #[.int .i64 0,.int .i64 0]) 2 16:=K3 (by kernel_rfl)
theorem c5b:K0 Go.Proofs.Tryz.prog 65 (.agg #[.int .i64 0,.int .i64 0,.int .i64 0,.string ⟨#[]⟩,.slice none 0 0,.slice none 0 0,.int .i64 0,.int .i64 0]) 8 104:=K3 (by kernel_rfl)
theorem d0H:K0 Go.Proofs.Tryz.prog 74 (.nilFunc) 1 8:=K3 (by kernel_rfl)
theorem c4P:K0 Go.Proofs.Tryz.prog 88 (.agg #[.slice none 0 0,.bool false,.int .i64 0,.int .i64 0,.string ⟨#[]⟩,.slice none 0 0,.slice none 0 0,.slice none 0 0,.slice none 0 0]) 9 160:=K3 (by kernel_rfl)
theorem c1U:K0 Go.Proofs.Tryz.prog 109 (.agg #[.int .i64 0,.string ⟨#[]⟩]) 2 24:=K3 (by kernel_rfl)
theorem c1O:K0 Go.Proofs.Tryz.prog 111 (.agg #[.int .i64 0,.string ⟨#[]⟩,.int .i64 0,.bool false]) 4 40:=K3 (by kernel_rfl)
theorem c80:K0 Go.Proofs.Tryz.prog 149 (.agg #[.bool false,.bool false,.bool false,.bool false,.bool false]) 5 5:=K3 (by kernel_rfl)
theorem to2:a3k Go.Proofs.Tryz.prog 2:=⟨_,Go.Proofs.Tryz.underlying2,rfl,by kernel_rfl⟩
theorem to3:a3k Go.Proofs.Tryz.prog 3:=⟨_,Go.Proofs.Tryz.underlying3,rfl,by kernel_rfl⟩
theorem to4:a3k Go.Proofs.Tryz.prog 4:=⟨_,Go.Proofs.Tryz.underlying4,rfl,by kernel_rfl⟩
theorem to9:a3k Go.Proofs.Tryz.prog 9:=⟨_,Go.Proofs.Tryz.underlying9,rfl,by kernel_rfl⟩
theorem d0u:a3k Go.Proofs.Tryz.prog 22:=⟨_,Go.Proofs.Tryz.underlying22,rfl,by kernel_rfl⟩
theorem d0w:a3k Go.Proofs.Tryz.prog 25:=⟨_,Go.Proofs.Tryz.underlying25,rfl,by kernel_rfl⟩
theorem d0L:a3k Go.Proofs.Tryz.prog 28:=⟨_,Go.Proofs.Tryz.underlying28,rfl,by kernel_rfl⟩
theorem d1e:a3k Go.Proofs.Tryz.prog 29:=⟨_,Go.Proofs.Tryz.underlying29,rfl,by kernel_rfl⟩
theorem d0G:a3k Go.Proofs.Tryz.prog 30:=⟨_,Go.Proofs.Tryz.underlying30,rfl,by kernel_rfl⟩
theorem d1r:a3k Go.Proofs.Tryz.prog 31:=⟨_,Go.Proofs.Tryz.underlying31,rfl,by kernel_rfl⟩
theorem c7V:a3k Go.Proofs.Tryz.prog 50:=⟨_,Go.Proofs.Tryz.underlying50,rfl,by kernel_rfl⟩
theorem d0X:a3k Go.Proofs.Tryz.prog 62:=⟨_,Go.Proofs.Tryz.underlying62,rfl,by kernel_rfl⟩
theorem d0D:a3k Go.Proofs.Tryz.prog 74:=⟨_,Go.Proofs.Tryz.underlying74,rfl,by kernel_rfl⟩
theorem d2c {σ:S}{x y:Int×Int}{cs ds:List Value}(h:(rI 63).cells σ x cs)(k:(rI 63).cells σ y ds):Sx.EqAt Go.Proofs.Tryz.prog 2 63 (.agg cs.toArray) (.agg ds.toArray) (a7k x y):=by
 obtain ⟨_,_,rfl,rfl,rfl⟩:=h
 obtain ⟨_,_,rfl,rfl,rfl⟩:=k
 exact c18 Go.Proofs.Tryz.underlying63 ti3 (b2B (a1p to3 rfl) (a1p to3 rfl) (a9a Go.Proofs.Tryz.underlying3) (b2B (a1p to3 rfl) (a1p to3 rfl) (a9a Go.Proofs.Tryz.underlying3) c3B))
theorem d1Z {σ:S}{x y:Key}{cs ds:List Value}(h:(rI 109).cells σ x cs)(k:(rI 109).cells σ y ds):Sx.EqAt Go.Proofs.Tryz.prog 2 109 (.agg cs.toArray) (.agg ds.toArray) (a3n x y):=by
 obtain ⟨_,_,rfl,rfl,rfl⟩:=h
 obtain ⟨_,_,rfl,rfl,rfl⟩:=k
 exact b8o Go.Proofs.Tryz.underlying109 (by kernel_rfl) (b2z (by decide) (a1p to3 rfl) (a1p to3 rfl) (a9a Go.Proofs.Tryz.underlying3) (b2z (by decide) (a1p to9 rfl) (a1p to9 rfl) (c3d Go.Proofs.Tryz.underlying9) c2j))
theorem eqT (T:TypeId)(g:I T->I T->Bool){K:Nat}(h:∀ {σ:S} {x y:I T} {cs ds:List Value},Rp.cells σ x cs->Rp.cells σ y ds->Sx.EqAt Go.Proofs.Tryz.prog K T (.agg cs.toArray) (.agg ds.toArray) (g x y))(hg:Go.Proofs.Tryz.prog.eqGuardType (Go.Proofs.Tryz.prog).depth T=false)(hK:Nat.ble K 10000=true)
 {X:Cxt} {c:Cx} {σ:S} {ls ms:List (PV I)} {r:Bool} {cs ds:List Value} (h1:b7o feL T g ls ms=some r) (h2:RG X c σ ls cs) (h3:RG X c σ ms ds) :
 Go.Proofs.Tryz.prog.eqGuardType (Go.Proofs.Tryz.prog).depth T=false/\∃ j,Nat.ble j 10000=true/\Sx.EqAt Go.Proofs.Tryz.prog j T (.agg cs.toArray) (.agg ds.toArray) r:=by
 obtain ⟨x,y,k1,k2,rfl⟩:=c4m h1 h2 h3
 exact ⟨hg,K,hK,h k1 k2⟩
theorem d0Z:TabLOk Go.Proofs.Tryz.prog d08 where
 sz:=⟨⟨_,Go.Proofs.Tryz.underlying27,rfl,by kernel_rfl⟩,⟨⟨_,Go.Proofs.Tryz.underlying33,rfl,by kernel_rfl⟩,⟨⟨_,Go.Proofs.Tryz.underlying40,rfl,by kernel_rfl⟩,⟨⟨_,Go.Proofs.Tryz.underlying52,rfl,by kernel_rfl⟩,⟨⟨_,Go.Proofs.Tryz.underlying56,rfl,by kernel_rfl⟩,⟨⟨_,Go.Proofs.Tryz.underlying63,rfl,by kernel_rfl⟩,⟨⟨_,Go.Proofs.Tryz.underlying65,rfl,by kernel_rfl⟩,⟨⟨_,Go.Proofs.Tryz.underlying88,rfl,by kernel_rfl⟩,⟨⟨_,Go.Proofs.Tryz.underlying109,rfl,by kernel_rfl⟩,⟨⟨_,Go.Proofs.Tryz.underlying111,rfl,by kernel_rfl⟩,⟨⟨_,Go.Proofs.Tryz.underlying149,rfl,by kernel_rfl⟩,trivial⟩⟩⟩⟩⟩⟩⟩⟩⟩⟩⟩
 one:=⟨to2,⟨to3,⟨to4,⟨to9,⟨d0u,⟨d0w,⟨d0L,⟨d1e,⟨d0G,⟨d1r,⟨c7V,⟨d0X,⟨d0D,trivial⟩⟩⟩⟩⟩⟩⟩⟩⟩⟩⟩⟩⟩
 fld:=⟨⟨⟨_,_,Go.Proofs.Tryz.underlying27,rfl,rfl,by kernel_rfl⟩,⟨⟨_,_,Go.Proofs.Tryz.underlying27,rfl,rfl⟩,⟨⟨_,_,Go.Proofs.Tryz.underlying27,rfl,rfl,by kernel_rfl⟩,⟨⟨_,_,Go.Proofs.Tryz.underlying27,rfl,rfl⟩,trivial⟩⟩⟩⟩,⟨⟨⟨_,_,Go.Proofs.Tryz.underlying33,rfl,rfl,by kernel_rfl⟩,⟨⟨_,_,Go.Proofs.Tryz.underlying33,rfl,rfl⟩,⟨⟨_,_,Go.Proofs.Tryz.underlying33,rfl,rfl,by kernel_rfl⟩,⟨⟨_,_,Go.Proofs.Tryz.underlying33,rfl,rfl⟩,⟨⟨_,_,Go.Proofs.Tryz.underlying33,rfl,rfl,by kernel_rfl⟩,⟨⟨_,_,Go.Proofs.Tryz.underlying33,rfl,rfl⟩,⟨⟨_,_,Go.Proofs.Tryz.underlying33,rfl,rfl,by kernel_rfl⟩,⟨⟨_,_,Go.Proofs.Tryz.underlying33,rfl,rfl⟩,⟨⟨_,_,Go.Proofs.Tryz.underlying33,rfl,rfl,by kernel_rfl⟩,⟨⟨_,_,Go.Proofs.Tryz.underlying33,rfl,rfl⟩,⟨⟨_,_,Go.Proofs.Tryz.underlying33,rfl,rfl,by kernel_rfl⟩,⟨⟨_,_,Go.Proofs.Tryz.underlying33,rfl,rfl⟩,⟨⟨_,_,Go.Proofs.Tryz.underlying33,rfl,rfl,by kernel_rfl⟩,⟨⟨_,_,Go.Proofs.Tryz.underlying33,rfl,rfl⟩,trivial⟩⟩⟩⟩⟩⟩⟩⟩⟩⟩⟩⟩⟩⟩,⟨⟨⟨_,_,Go.Proofs.Tryz.underlying40,rfl,rfl,by kernel_rfl⟩,⟨⟨_,_,Go.Proofs.Tryz.underlying40,rfl,rfl⟩,⟨⟨_,_,Go.Proofs.Tryz.underlying40,rfl,rfl,by kernel_rfl⟩,⟨⟨_,_,Go.Proofs.Tryz.underlying40,rfl,rfl⟩,⟨⟨_,_,Go.Proofs.Tryz.underlying40,rfl,rfl,by kernel_rfl⟩,⟨⟨_,_,Go.Proofs.Tryz.underlying40,rfl,rfl⟩,⟨⟨_,_,Go.Proofs.Tryz.underlying40,rfl,rfl,by kernel_rfl⟩,⟨⟨_,_,Go.Proofs.Tryz.underlying40,rfl,rfl⟩,⟨⟨_,_,Go.Proofs.Tryz.underlying40,rfl,rfl,by kernel_rfl⟩,⟨⟨_,_,Go.Proofs.Tryz.underlying40,rfl,rfl⟩,⟨⟨_,_,Go.Proofs.Tryz.underlying40,rfl,rfl,by kernel_rfl⟩,⟨⟨_,_,Go.Proofs.Tryz.underlying40,rfl,rfl⟩,⟨⟨_,_,Go.Proofs.Tryz.underlying40,rfl,rfl,by kernel_rfl⟩,⟨⟨_,_,Go.Proofs.Tryz.underlying40,rfl,rfl⟩,⟨⟨_,_,Go.Proofs.Tryz.underlying40,rfl,rfl,by kernel_rfl⟩,⟨⟨_,_,Go.Proofs.Tryz.underlying40,rfl,rfl⟩,trivial⟩⟩⟩⟩⟩⟩⟩⟩⟩⟩⟩⟩⟩⟩⟩⟩,⟨⟨⟨_,_,Go.Proofs.Tryz.underlying44,rfl,rfl,by kernel_rfl⟩,⟨⟨_,_,Go.Proofs.Tryz.underlying44,rfl,rfl⟩,⟨⟨_,_,Go.Proofs.Tryz.underlying44,rfl,rfl,by kernel_rfl⟩,⟨⟨_,_,Go.Proofs.Tryz.underlying44,rfl,rfl⟩,trivial⟩⟩⟩⟩,⟨⟨⟨_,_,Go.Proofs.Tryz.underlying52,rfl,rfl,by kernel_rfl⟩,⟨⟨_,_,Go.Proofs.Tryz.underlying52,rfl,rfl⟩,trivial⟩⟩,⟨⟨⟨_,_,Go.Proofs.Tryz.underlying56,rfl,rfl,by kernel_rfl⟩,⟨⟨_,_,Go.Proofs.Tryz.underlying56,rfl,rfl⟩,⟨⟨_,_,Go.Proofs.Tryz.underlying56,rfl,rfl,by kernel_rfl⟩,⟨⟨_,_,Go.Proofs.Tryz.underlying56,rfl,rfl⟩,⟨⟨_,_,Go.Proofs.Tryz.underlying56,rfl,rfl,by kernel_rfl⟩,⟨⟨_,_,Go.Proofs.Tryz.underlying56,rfl,rfl⟩,trivial⟩⟩⟩⟩⟩⟩,⟨⟨⟨_,_,Go.Proofs.Tryz.underlying65,rfl,rfl,by kernel_rfl⟩,⟨⟨_,_,Go.Proofs.Tryz.underlying65,rfl,rfl⟩,⟨⟨_,_,Go.Proofs.Tryz.underlying65,rfl,rfl,by kernel_rfl⟩,⟨⟨_,_,Go.Proofs.Tryz.underlying65,rfl,rfl⟩,⟨⟨_,_,Go.Proofs.Tryz.underlying65,rfl,rfl,by kernel_rfl⟩,⟨⟨_,_,Go.Proofs.Tryz.underlying65,rfl,rfl⟩,⟨⟨_,_,Go.Proofs.Tryz.underlying65,rfl,rfl,by kernel_rfl⟩,⟨⟨_,_,Go.Proofs.Tryz.underlying65,rfl,rfl⟩,⟨⟨_,_,Go.Proofs.Tryz.underlying65,rfl,rfl,by kernel_rfl⟩,⟨⟨_,_,Go.Proofs.Tryz.underlying65,rfl,rfl⟩,⟨⟨_,_,Go.Proofs.Tryz.underlying65,rfl,rfl,by kernel_rfl⟩,⟨⟨_,_,Go.Proofs.Tryz.underlying65,rfl,rfl⟩,⟨⟨_,_,Go.Proofs.Tryz.underlying65,rfl,rfl,by kernel_rfl⟩,⟨⟨_,_,Go.Proofs.Tryz.underlying65,rfl,rfl⟩,trivial⟩⟩⟩⟩⟩⟩⟩⟩⟩⟩⟩⟩⟩⟩,⟨⟨⟨_,_,Go.Proofs.Tryz.underlying88,rfl,rfl,by kernel_rfl⟩,⟨⟨_,_,Go.Proofs.Tryz.underlying88,rfl,rfl⟩,⟨⟨_,_,Go.Proofs.Tryz.underlying88,rfl,rfl,by kernel_rfl⟩,⟨⟨_,_,Go.Proofs.Tryz.underlying88,rfl,rfl⟩,⟨⟨_,_,Go.Proofs.Tryz.underlying88,rfl,rfl,by kernel_rfl⟩,⟨⟨_,_,Go.Proofs.Tryz.underlying88,rfl,rfl⟩,trivial⟩⟩⟩⟩⟩⟩,⟨⟨⟨_,_,Go.Proofs.Tryz.underlying109,rfl,rfl,by kernel_rfl⟩,⟨⟨_,_,Go.Proofs.Tryz.underlying109,rfl,rfl⟩,⟨⟨_,_,Go.Proofs.Tryz.underlying109,rfl,rfl,by kernel_rfl⟩,⟨⟨_,_,Go.Proofs.Tryz.underlying109,rfl,rfl⟩,trivial⟩⟩⟩⟩,⟨⟨⟨_,_,Go.Proofs.Tryz.underlying111,rfl,rfl,by kernel_rfl⟩,⟨⟨_,_,Go.Proofs.Tryz.underlying111,rfl,rfl⟩,⟨⟨_,_,Go.Proofs.Tryz.underlying111,rfl,rfl,by kernel_rfl⟩,⟨⟨_,_,Go.Proofs.Tryz.underlying111,rfl,rfl⟩,⟨⟨_,_,Go.Proofs.Tryz.underlying111,rfl,rfl,by kernel_rfl⟩,⟨⟨_,_,Go.Proofs.Tryz.underlying111,rfl,rfl⟩,trivial⟩⟩⟩⟩⟩⟩,⟨⟨⟨_,_,Go.Proofs.Tryz.underlying149,rfl,rfl,by kernel_rfl⟩,⟨⟨_,_,Go.Proofs.Tryz.underlying149,rfl,rfl⟩,⟨⟨_,_,Go.Proofs.Tryz.underlying149,rfl,rfl,by kernel_rfl⟩,⟨⟨_,_,Go.Proofs.Tryz.underlying149,rfl,rfl⟩,⟨⟨_,_,Go.Proofs.Tryz.underlying149,rfl,rfl,by kernel_rfl⟩,⟨⟨_,_,Go.Proofs.Tryz.underlying149,rfl,rfl⟩,⟨⟨_,_,Go.Proofs.Tryz.underlying149,rfl,rfl,by kernel_rfl⟩,⟨⟨_,_,Go.Proofs.Tryz.underlying149,rfl,rfl⟩,⟨⟨_,_,Go.Proofs.Tryz.underlying149,rfl,rfl,by kernel_rfl⟩,⟨⟨_,_,Go.Proofs.Tryz.underlying149,rfl,rfl⟩,trivial⟩⟩⟩⟩⟩⟩⟩⟩⟩⟩,trivial⟩⟩⟩⟩⟩⟩⟩⟩⟩⟩⟩
 el:=⟨⟨Go.Proofs.Tryz.underlying22,_,_,ti3,rfl,by decide⟩,⟨⟨Go.Proofs.Tryz.underlying25,_,_,c5b,rfl,by decide⟩,⟨⟨Go.Proofs.Tryz.underlying28,_,_,c5C,rfl,by decide⟩,⟨⟨Go.Proofs.Tryz.underlying29,_,_,c1U,rfl,by decide⟩,⟨⟨Go.Proofs.Tryz.underlying30,_,_,c4P,rfl,by decide⟩,⟨⟨Go.Proofs.Tryz.underlying31,_,_,ti9,rfl,by decide⟩,⟨⟨Go.Proofs.Tryz.underlying45,_,_,c5L,rfl,by decide⟩,⟨⟨Go.Proofs.Tryz.underlying50,_,_,c5D,rfl,by decide⟩,⟨⟨Go.Proofs.Tryz.underlying60,_,_,c5c,rfl,by decide⟩,⟨⟨Go.Proofs.Tryz.underlying62,_,_,c1O,rfl,by decide⟩,⟨⟨Go.Proofs.Tryz.underlying91,_,_,ti4,rfl,by decide⟩,⟨⟨Go.Proofs.Tryz.underlying93,_,_,ti2,rfl,by decide⟩,trivial⟩⟩⟩⟩⟩⟩⟩⟩⟩⟩⟩⟩
 str:=⟨Go.Proofs.Tryz.underlying9,trivial⟩
 bool:=⟨Go.Proofs.Tryz.underlying4,trivial⟩
 ik:=trivial
 inf:=⟨⟨_,ti2,fun X c σ=>RG.cns rfl V8 (RG.nl)⟩,⟨⟨_,ti3,fun X c σ=>RG.cns rfl V8 (RG.nl)⟩,⟨⟨_,ti4,fun X c σ=>RG.cns rfl a15 (RG.nl)⟩,⟨⟨_,ti9,fun X c σ=>RG.cns rfl a7A (RG.nl)⟩,⟨⟨_,c5c,fun X c σ=>RG.cns rfl J8 (RG.nl)⟩,⟨⟨_,d1b,fun X c σ=>RG.cns rfl J8 (RG.nl)⟩,⟨⟨_,d0T,fun X c σ=>RG.cns rfl J8 (RG.cns rfl V8 (RG.nl))⟩,⟨⟨_,d0k,fun X c σ=>RG.cns rfl J8 (RG.nl)⟩,⟨⟨_,d1k,fun X c σ=>RG.cns rfl J8 (RG.nl)⟩,⟨⟨_,d0K,fun X c σ=>RG.cns rfl J8 (RG.nl)⟩,⟨⟨_,c5C,fun X c σ=>RG.cns rfl V8 (RG.cns rfl V8 (RG.cns rfl a7A (RG.cns rfl J8 (RG.cns rfl J8 (RG.cns rfl J8 (RG.cns rfl J8 (RG.nl)))))))⟩,⟨⟨_,d03,fun X c σ=>RG.cns rfl V8 (RG.cns rfl V8 (RG.cns rfl J8 (RG.cns rfl a15 (RG.cns rfl J8 (RG.cns rfl J8 (RG.cns rfl J8 (RG.cns rfl J8 (RG.cns rfl J8 (RG.nl)))))))))⟩,⟨⟨_,d0R,fun X c σ=>RG.cns rfl J8 (RG.cns rfl V8 (RG.nl))⟩,⟨⟨_,d0F,fun X c σ=>RG.cns rfl J8 (RG.nl)⟩,⟨⟨_,c5L,fun X c σ=>RG.cns rfl J8 (RG.nl)⟩,⟨⟨_,c5D,fun X c σ=>RG.cns rfl J8 (RG.cns rfl J8 (RG.cns rfl a15 (RG.nl)))⟩,⟨⟨_,d1o,fun X c σ=>RG.cns rfl J8 (RG.nl)⟩,⟨⟨_,d0C,fun X c σ=>RG.cns rfl V8 (RG.cns rfl V8 (RG.nl))⟩,⟨⟨_,c5b,fun X c σ=>RG.cns rfl V8 (RG.cns rfl V8 (RG.cns rfl V8 (RG.cns rfl a7A (RG.cns rfl J8 (RG.cns rfl J8 (RG.cns rfl V8 (RG.cns rfl V8 (RG.nl))))))))⟩,⟨⟨_,d0H,fun X c σ=>RG.cns rfl c82 (RG.nl)⟩,⟨⟨_,c4P,fun X c σ=>RG.cns rfl J8 (RG.cns rfl a15 (RG.cns rfl V8 (RG.cns rfl V8 (RG.cns rfl a7A (RG.cns rfl J8 (RG.cns rfl J8 (RG.cns rfl J8 (RG.cns rfl J8 (RG.nl)))))))))⟩,⟨⟨_,c1U,fun X c σ=>RG.cns rfl V8 (RG.cns rfl a7A (RG.nl))⟩,⟨⟨_,c1O,fun X c σ=>RG.cns rfl V8 (RG.cns rfl a7A (RG.cns rfl V8 (RG.cns rfl a15 (RG.nl))))⟩,⟨⟨_,c80,fun X c σ=>RG.cns rfl a15 (RG.cns rfl a15 (RG.cns rfl a15 (RG.cns rfl a15 (RG.cns rfl a15 (RG.nl)))))⟩,trivial⟩⟩⟩⟩⟩⟩⟩⟩⟩⟩⟩⟩⟩⟩⟩⟩⟩⟩⟩⟩⟩⟩⟩⟩
 st:=⟨.inl ⟨_,Go.Proofs.Tryz.underlying27,by kernel_rfl⟩,⟨.inl ⟨_,Go.Proofs.Tryz.underlying33,by kernel_rfl⟩,⟨.inl ⟨_,Go.Proofs.Tryz.underlying40,by kernel_rfl⟩,⟨.inl ⟨_,Go.Proofs.Tryz.underlying44,by kernel_rfl⟩,⟨.inl ⟨_,Go.Proofs.Tryz.underlying52,by kernel_rfl⟩,⟨.inl ⟨_,Go.Proofs.Tryz.underlying56,by kernel_rfl⟩,⟨.inr (c64 Go.Proofs.Tryz.underlying63 ti3 rfl),⟨.inl ⟨_,Go.Proofs.Tryz.underlying65,by kernel_rfl⟩,⟨.inl ⟨_,Go.Proofs.Tryz.underlying109,by kernel_rfl⟩,⟨.inl ⟨_,Go.Proofs.Tryz.underlying111,by kernel_rfl⟩,⟨.inl ⟨_,Go.Proofs.Tryz.underlying149,by kernel_rfl⟩,trivial⟩⟩⟩⟩⟩⟩⟩⟩⟩⟩⟩
 eq:=⟨fun X c σ ls ms r cs ds h1 h2 h3=>eqT 63 a7k (fun h k=>d2c h k) (by kernel_rfl) (by decide) h1 h2 h3,⟨fun X c σ ls ms r cs ds h1 h2 h3=>eqT 109 a3n (fun h k=>d1Z h k) (by kernel_rfl) (by decide) h1 h2 h3,trivial⟩⟩
 arr:=⟨⟨Go.Proofs.Tryz.underlying63,by kernel_rfl⟩,trivial⟩
 fb:=⟨⟨_,_,Go.Proofs.Tryz.func22,rfl,by kernel_rfl⟩,⟨⟨_,_,Go.Proofs.Tryz.func28,rfl,by kernel_rfl⟩,⟨⟨_,_,Go.Proofs.Tryz.func70,rfl,by kernel_rfl⟩,⟨⟨_,_,Go.Proofs.Tryz.func75,rfl,by kernel_rfl⟩,⟨⟨_,_,Go.Proofs.Tryz.func77,rfl,by kernel_rfl⟩,⟨⟨_,_,Go.Proofs.Tryz.func93,rfl,by kernel_rfl⟩,⟨⟨_,_,Go.Proofs.Tryz.func94,rfl,by kernel_rfl⟩,⟨⟨_,_,Go.Proofs.Tryz.func96,rfl,by kernel_rfl⟩,⟨⟨_,_,Go.Proofs.Tryz.func97,rfl,by kernel_rfl⟩,⟨⟨_,_,Go.Proofs.Tryz.func99,rfl,by kernel_rfl⟩,⟨⟨_,_,Go.Proofs.Tryz.func101,rfl,by kernel_rfl⟩,⟨⟨_,_,Go.Proofs.Tryz.func111,rfl,by kernel_rfl⟩,⟨⟨_,_,Go.Proofs.Tryz.func112,rfl,by kernel_rfl⟩,⟨⟨_,_,Go.Proofs.Tryz.func128,rfl,by kernel_rfl⟩,⟨⟨_,_,Go.Proofs.Tryz.func150,rfl,by kernel_rfl⟩,⟨⟨_,_,Go.Proofs.Tryz.func166,rfl,by kernel_rfl⟩,trivial⟩⟩⟩⟩⟩⟩⟩⟩⟩⟩⟩⟩⟩⟩⟩⟩
theorem b2x:TabOk Go.Proofs.Tryz.prog tb:=c14 d0Z
theorem mixed:(Go.Proofs.Tryz.prog).follows .mixedOrders=true:=by kernel_rfl
end Go.Qx
end
section
namespace Go.Qx
open Go Go.RowKit Go.Sx
@[reducible] def b5v {γ β:Type} [Rp β] (B:Nat) (to:γ->List β):Rp γ where
 sz:=1
 pos:=Nat.one_pos
 agg:=true
 cells:=fun σ x cs=>∃ A c,cs=[.slice A (to x).length c]/\Sl σ (to x) A c/\(to x≠[]->∃ g,A=some ⟨g,0,none⟩/\B<=g)
 len:=fun ⟨_,_,h,_⟩=>by rw [h]; rfl
 one:=fun ⟨_,_,h,_⟩ v hv=>by rw [h] at hv; simp at hv; subst hv; rfl
 mono:=fun k ⟨A,c,h,hs,hb⟩=>⟨A,c,h,hs.mono k,hb⟩
 lo:=B
def LoL (n:Nat):List TE->Prop
 | []=>True
 | e::r=>e.rp.lo<=n/\LoL n r
theorem c1a {n:Nat}:∀ {l:List TE},LoL n l->∀ E,(a8v l E).rp.lo<=n
 | [],_,_=>Nat.zero_le _
 | e::r,h,E=>by
   have k:∀ t:TE,t=e\/t=a8v r E->t.rp.lo<=n:=fun t ht=>by
    rcases ht with rfl | rfl
    ·exact h.1
    ·exact c1a h.2 E
   refine k _ ?_
   simp only [a8v]
   cases Nat.beq e.E E with
   | true=>exact .inl rfl
   | false=>exact .inr rfl
theorem c68 {γ β:Type} [a:Rp β] {B:Nat}{to:γ->List β}{σ:S}{x:γ}{A:Option Addr}{c:Nat}(h1:Sl σ (to x) A c)(h2:to x≠[]->∃ g,A=some ⟨g,0,none⟩/\B<=g):(b5v B to).cells σ x [.slice A (to x).length c]:=⟨A,c,rfl,h1,h2⟩
theorem b8H {γ β:Type} [a:Rp β] {B:Nat}{to:γ->List β}{σ:S}:∀ {xs:List γ} {cs:List Value},@J1 γ (b5v B to) σ xs cs->@J1 γ (a6T to (@rpList β a)) σ xs cs
 | [],_,h=>h
 | _::_,_,⟨c,d,e,⟨A,k,e2,h5,_⟩,h6⟩=>⟨c,d,e,⟨A,k,e2,h5⟩,b8H h6⟩
theorem c7i {γ β:Type} [a:Rp β] {B:Nat}{to:γ->List β}{σ:S}{xs:List γ}{A:Option Addr}{c:Nat}(h:@Sl γ (b5v B to) σ xs A c):@Sl γ (a6T to (@rpList β a)) σ xs A c:=by
 obtain ⟨h1,h2,cs,h3,h4⟩:=h
 exact ⟨h1,h2,cs,b8H h3,h4⟩
theorem c9f {γ β:Type} [a:Rp β] {B:Nat}{to:γ->List β}{ow:Option Nat}{fl:Bool}{E:TypeId}{σ:S}{xs:List γ}{A:Option Addr}{c:Nat}(h:@a0e γ (b5v B to) ow fl E σ xs A c):@a0e γ (a6T to (@rpList β a)) ow fl E σ xs A c:=by
 cases ow with
 | none=>exact h.imp id fun ⟨h1,h2,h3⟩=>⟨h1,h2,c7i h3⟩
 | some g =>
   obtain ⟨cur,cs,h1,h2,h3,h4,h5,h6,h7⟩:=h
   exact ⟨cur,cs,h1,h2,h3,h4,h5,b8H h6,h7⟩
section
variable {I:TypeId->Type} [∀ E,Rp (I E)] {P:Program}
def d1X {γ:Type}{G:TypeId}(B:Nat)(to:γ->List (I G)):Fd I γ (b5v B to) where
 lf:=fun x=>[.sl G (to x) false]
 pa:=fun _ _ _=>none
 lf_ok:=fun X c σ x cs ⟨A,k,e,h,_⟩=>by
  rw [e]
  exact RG.cns rfl (by simp only [RV]; exact ⟨A,k,rfl,h,fun h=>by cases h⟩) RG.nl
 pa_ok:=fun ρ ls f r h=>by cases h
theorem d0g {f:FuncId}{T1 T2 G E:TypeId}(B:Nat)(to:I E->List (I G))(mk:List (I G)->I E)(hto:∀ x,to (mk x)=x)
 (hcells:∀ (σ:S) (x:I E) (A:Option Addr) (c:Nat),Sl σ (to x) A c->(to x≠[]->∃ g,A=some ⟨g,0,none⟩/\B<=g)->Rp.cells σ x [.slice A (to x).length c])
 {run:b8s I [.d (.int .i64),.d (.sl T1),.d (.sl T1),.d (.sl T1),.bor T2] (TyT I [.lvs [.row G false],.k (.d .bool)])}
 (h:y9 P (⟨f,[.d (.int .i64),.d (.sl T1),.d (.sl T1),.d (.sl T1),.bor T2],[.lvs [.row G false],.k (.d .bool)],run⟩:Row I)) :
 a4N P (⟨f,[.d (.int .i64),.d (.sl T1),.d (.sl T1),.d (.sl T1),.bor T2],[.k (.d (.dat E)),.k (.d .bool)],fun a1 a2 a3 a4 a5=>Option.bind (run a1 a2 a3 a4 a5) fun q=>some (mk q.1,q.2)⟩:Row I) (fun w _=>B<=w.heap.size):=by
 intro σ a vs pls res hA hC hnd happ
 have happ':(Option.bind (run a.1 a.2.1 a.2.2.1 a.2.2.2.1 a.2.2.2.2.1) fun q=>some (mk q.1,q.2))=some res:=happ
 obtain ⟨q,hq,hr⟩:=bind_some happ'
 cases hr
 have hA0:=hA
 obtain ⟨v1,_,_,_,rfl,rfl,⟨_,rfl⟩,v2,_,_,_,rfl,rfl,⟨_,rfl⟩,v3,_,_,_,rfl,rfl,⟨_,rfl⟩,v4,_,_,_,rfl,rfl,⟨_,rfl⟩,v5,_,_,_,rfl,rfl,⟨A5,k5,_,_,rfl⟩,rfl,rfl⟩:=hA0
 refine a2v.mono (h σ a _ _ q hA hnd hq) rfl fun v τ hE ⟨ws,us,pls',hp⟩=>?_
 have hus:us=[]:=hp.out
 have tt:TT τ ([.lvs [.row G false],.k (.d .bool)]:List V) q (ws++us) pls':=hp.tt
 obtain ⟨w1,r1,p1,p2,e1,e2,⟨_,cs,e3,u1,e4,A,k,ow,e5,e6,hown⟩,w2,e7,hb,e8⟩:=tt
 subst hus
 subst e7
 subst e8
 subst e4
 subst e5
 subst e6
 rw [List.append_nil] at e1
 cases ow with
 | none =>
   rcases hown with ⟨h1,h2⟩ | ⟨h1,_⟩
   ·refine ⟨τ,rfl,hE,ws,[],[],hp.ret,hp.len,?_,rfl,List.nodup_nil,fun g hg=>by cases hg⟩
    refine ⟨w1,[w2],[],[],by rw [List.append_nil,e1],rfl,⟨⟨_,e3,?_⟩,rfl⟩,w2,rfl,hb,rfl⟩
    have:=hcells τ (mk q.1) A k (by rw [hto,h1,h2]; exact Sl.nil_ _ _ _ (Nat.zero_le _)) (fun hn=>absurd ((hto q.1).trans h1) hn)
    rw [hto] at this
    exact this
   ·cases h1
 | some g =>
   have hown0:=hown
   obtain ⟨cur,cs',eA,hh,k1,k2,k3,k4,k5',k6⟩:=hown
   have hg:σ.N<=g:=by
    have:=(hp.own g (by rw [e2]; simp [ows])).1
    rcases this with h | h
    ·exact h
    ·simp [ows] at h
   let υ:S:=⟨τ.w,fun b=>if b=g then (q.1.length*Rp.sz (I G),(τ.L b).2) else τ.L b⟩
   have hL:∀ b,b≠g->υ.L b=τ.L b:=fun b hb=>by simp [υ,hb]
   have hLg:(υ.L g).1=q.1.length*Rp.sz (I G):=by simp [υ]
   have k6':(τ.L g).1=0:=k6
   have hw:Wext τ υ:=⟨Nat.le_refl _,fun b _=>by
    by_cases eb:b=g
    ·subst eb; rw [k6']; exact Nat.zero_le _
    ·rw [hL b eb]; exact Nat.le_refl _,fun _ _ _ _ h=>h,Nat.le_refl _,fun _ _ _ h=>h⟩
   have hE':Stp (fun b=>b∈ows _) σ υ:=⟨hE.wext.trans hw,hE.os,hE.tape,hE.output,fun b hb hn=>by
    have hbg:b≠g:=fun e=>by
     have hb':b<σ.w.heap.size:=hb
     have hg':σ.w.heap.size<=g:=hg
     omega
    obtain ⟨q1,q2⟩:=hE.block b hb hn
    exact ⟨q1,by rw [hL b hbg]; exact q2⟩⟩
   have hsl:Sl υ q.1 A k:=a0e.sl (ow:=some g) (E:=G) ⟨cur,cs',eA,hh,k1,k2,k3,k4.mono hw,k5',hLg⟩
   refine ⟨υ,rfl,hE',ws,[],[],hp.ret,hp.len,?_,rfl,List.nodup_nil,fun g hg=>by cases hg⟩
   refine ⟨w1,[w2],[],[],by rw [List.append_nil,e1],rfl,⟨⟨_,e3,?_⟩,rfl⟩,w2,rfl,DV.mono hw hb,rfl⟩
   have:=hcells υ (mk q.1) A k (by rw [hto]; exact hsl) (fun _=>⟨g,eA,Nat.le_trans hC hg⟩)
   rw [hto] at this
   exact this
def b2M:List Code->Code->Code
 | [],b=>b
 | a::r,b=>.seq a (b2M r b)
def c1Q (H:Hints I):List Code->Nat->Bool
 | [],_=>true
 | a::r,p=>(H.join p).isNone&&a1Q H a (2*p)&&c1Q H r (2*p+1)
theorem c2U {tb:Tab I}{disp:a0H I}{H:Hints I}{n:Nat}(ht:TabOk P tb)(hd:DispOk P disp)(hmx:P.follows .mixedOrders=true){rest:Code}:∀ (d2n:List Code) (p:Nat),c1Q H d2n p=true ->
 ∀ (ρ:Type) (s:St I) (k:Ex->St I->Option ρ) (r:ρ) (X:Cxt) (c:Cx) (σ:S) (F:Fr) (Q:Exit->Act->World->Prop),X.P=P->a3U tb disp H (b2M d2n .skip) p ρ s k=some r->Rel X c σ s n F ->
 (∀ (e:Ex) (s':St I) (c':Cx) (τ:S) (F':Fr),e≠.normal->k e s'=some r->Cx.le c c'->Rel X c' τ s' n F'->Stp X.M σ τ->Q (a3P e) (fr n F') τ.w) ->
 (∀ (s':St I) (c':Cx) (τ:S) (F':Fr),k .normal s'=some r->Cx.le c c'->Rel X c' τ s' n F'->Stp X.M σ τ->rest.wp P Q (fr n F') τ.w)->(b2M d2n rest).wp P Q (fr n F) σ.w
 | [],_,_,ρ,s,k,r,X,c,σ,F,Q,_,hx,h,_,hh=>hh s c σ F hx (Cx.le_refl c) h (Stp.refl _ _)
 | a::d2n,p,hc,ρ,s,k,r,X,c,σ,F,Q,hX,hx,h,hk,hh=>by
   simp only [c1Q,Bool.and_eq_true] at hc
   have hj:H.join p=none:=Option.isNone_iff_eq_none.1 hc.1.1
   have hx':a3U tb disp H a (2*p) ρ s (fun e s=>match e with
    | .normal=>a3U tb disp H (b2M d2n .skip) (2*p+1) ρ s k
    | e=>k e s)=some r:=by
    have hx0:b0Z tb H p (fun ρ s k=>a3U tb disp H a (2*p) ρ s fun e s=>match e with
     | .normal=>a3U tb disp H (b2M d2n .skip) (2*p+1) ρ s k
     | e=>k e s) ρ s k=some r:=hx
    unfold b0Z at hx0
    rw [hj] at hx0
    exact hx0
   refine wp_seq (a2a ht hd hmx a (2*p) hc.1.2 ρ s _ r X c σ F _ hX hx' h fun e s' c' τ F' g1 g2 g3 g4 _=>?_)
   cases e with
   | normal=>exact c2U ht hd hmx d2n (2*p+1) hc.2 ρ s' k r X c' τ F' Q hX g1 g3 (fun e s2 c2 υ F2 m0 m1 m2 m3 m4=>hk e s2 c2 υ F2 m0 m1 (Cx.le_trans g2 m2) m3 (g4.trans m4)) fun s2 c2 υ F2 m1 m2 m3 m4=>hh s2 c2 υ F2 m1 (Cx.le_trans g2 m2) m3 (g4.trans m4)
   | exit i=>exact hk (.exit i) s' c' τ F' (fun e=>by cases e) g1 g2 g3 g4
   | ret=>exact hk .ret s' c' τ F' (fun e=>by cases e) g1 g2 g3 g4
end
end Go.Qx
end

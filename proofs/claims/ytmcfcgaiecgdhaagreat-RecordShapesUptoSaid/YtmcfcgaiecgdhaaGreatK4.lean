/- Part 4. -/
import Derived.Test.YtmcfcgaiecgdhaaGreatK2
import Derived.Test.YtmcfcgaiecgdhaaGreatK3
section
namespace Go.Pl
open Go Go.RowKit Go.Sx Go.Qx
def inR (N:Nat)(k:Int):Bool:=decide (0<=k)&&decide (k<(N:Int))
def a2F (N:Nat)(l:List Api_Field):Bool:=asc cK (l.map (·.Key_))&&(l.all (fun f=>Y9 f.Key_)&&l.all fun f=>inR N f.Node)
def a3b (N:Nat)(x:Api_TypeNode):Bool :=
 if x.Kind=3 then x.Kids.isEmpty&&decide (x.Lo<=x.Hi) else if x.Kind=4 then x.Kids.isEmpty&&decide ((x.Text.size:Int)<=64) else
 if x.Kind=6 then x.Kids.isEmpty&&a4D x.Text else if x.Kind=19 then x.Kids.isEmpty&&a6e x.Text else
 if x.Kind=1\/x.Kind=2\/x.Kind=5\/x.Kind=7\/x.Kind=8\/x.Kind=9\/x.Kind=11\/x.Kind=15 then x.Kids.isEmpty else
 if x.Kind=10 then decide ((x.Kids.length:Int)<=4) else if x.Kind=12 then (x.Kids.length:Int)==2 else
 if x.Kind=14 then decide (1<=(x.Kids.length:Int))&&decide ((x.Kids.length:Int)<=5) else
 if x.Kind=16\/x.Kind=17 then decide (1<=(x.Kids.length:Int)) else if x.Kind=18 then (x.Kids.length:Int)==1 else
 if x.Kind=13 then a2F N x.Fields&&(x.Kids.isEmpty&&(inR N x.Rest.1&&inR N x.Rest.2)) else false
def a6N (r:Int×Int):Bool:=r.1==0&&r.2==0
def V4 (N:Nat)(x:Api_TypeNode):Bool :=
 x.Kids.all (inR N)&&((x.Kind==3||(x.Lo==0&&x.Hi==0))&&((x.Kind==4||x.Kind==6||x.Kind==19||Q4 x.Text ⟨#[]⟩)&&((x.Kind==13||(x.Fields.isEmpty&&a6N x.Rest))&&a3b N x)))
theorem c3w {α:Type}(l:List α):((l.length:Int)==0)=l.isEmpty:=by cases l<;>simp<;>omega
theorem c3K (r:Int×Int):b1M r (0,0)=a6N r:=by unfold b1M a6N; simp
theorem b1T (t:Api_Type)(k:Int):a0q t k=some (inR t.Nodes.length k):=by
 unfold a0q inR
 cases decide (0<=k)<;>rfl
theorem k9 {i n:Nat}(h:i<n):decide ((i:Int)<(n:Int))=true:=decide_eq_true (by omega)
theorem d0a (q:Api_Field->Bool)(l:List Api_Field):(List.range l.length).all (b3S (fun a b=>cK a.Key_ b.Key_) q l)=(asc cK (l.map (·.Key_))&&l.all q):=by
 rw [c35]
 congr 1
 rw [Bool.eq_iff_iff,b1v,b1v]
 constructor
 ·intro h i h1 hi
  have:=h i h1 (by simpa using hi)
  simpa using this
 ·intro h i h1 hi
  have:=h i h1 (by simpa using hi)
  simpa using this
theorem c3H {step:Int->Option (Fl Int (Sum Unit Bool))}(q:Api_Field->Bool)(l:List Api_Field)
 (hst:∀ (i:Nat) (x:Api_Field),l[i]?=some x->step (i:Int)=some (if b3S (fun a b=>cK a.Key_ b.Key_) q l i=true then .next ((i+1:Nat):Int) else .done (.inr false)))
 (hend:step (l.length:Int)=some (.done (.inl ()))):z7 step (l.length+1) 0=some (if (asc cK (l.map (·.Key_))&&l.all q)=true then .inl () else .inr false):=by
 have:=b8n (step:=step) (fun a b:Api_Field=>cK a.Key_ b.Key_) q l false hst hend
 rw [<- c35,d0a] at this
 exact this
theorem c3b (t:Api_Type)(x:Api_TypeNode)(hk:x.Kids.length<=4194304)(hf:x.Fields.length<=4194304):a54 t x=some (V4 t.Nodes.length x):=by
 have l1:z7 (a4P t x) (x.Kids.length+1) 0=some (if x.Kids.all (inR t.Nodes.length)=true then .inl () else .inr false):=by
  refine J4 x.Kids (inR t.Nodes.length) (fun i=>(i:Int)) () false ?_ ?_
  ·intro i k hx
   have hi:i<x.Kids.length:=(List.getElem?_eq_some_iff.1 hx).1
   unfold a4P
   rw [k9 hi,y4 hx]
   simp only [cond_true,Option.bind_some,b1T,v7]
   rw [j5 i (by omega)]
   exact a3B _ _
  ·unfold a4P
   simp
 have l2:z7 (a4I t x) (x.Fields.length+1) 0=some (if (asc cK (x.Fields.map (·.Key_))&&x.Fields.all fun f=>inR t.Nodes.length f.Node&&Y9 f.Key_)=true then .inl () else .inr false):=by
  refine c3H (fun f=>inR t.Nodes.length f.Node&&Y9 f.Key_) x.Fields ?_ ?_
  ·intro i f hx
   have hi:i<x.Fields.length:=(List.getElem?_eq_some_iff.1 hx).1
   unfold a4I
   rw [k9 hi,y4 hx]
   simp only [cond_true,Option.bind_some,b1T,b5B,v7,a0Y]
   have hq:(Option.bind (bif !inR t.Nodes.length f.Node then some true else some (!Y9 f.Key_)) fun q=>some q)=some (!(inR t.Nodes.length f.Node&&Y9 f.Key_)):=by
    cases inR t.Nodes.length f.Node<;>cases Y9 f.Key_<;>rfl
   rw [a0Y] at hq
   rw [hq]
   simp only [Option.bind_some]
   refine b4t (fun a b:Api_Field=>cK a.Key_ b.Key_) (fun f=>inR t.Nodes.length f.Node&&Y9 f.Key_) x.Fields i f hx (by omega) (fun h=>by rw [h]; rfl) (fun h h0=>by subst h0; rw [h]; rfl) (fun h j y hj hy hiy=>?_)
   subst hj
   rw [h,hiy,c3h]
   simp only [Bool.not_true,cond_false,cond_true,Option.bind_some,a7O]
   by_cases hc:cK y.Key_ f.Key_<0
   ·have:¬ 0<=cK y.Key_ f.Key_:=by omega
    simp [hc,this]
   ·have:0<=cK y.Key_ f.Key_:=by omega
    simp [hc,this]
  ·unfold a4I
   simp
 unfold a54
 simp only [w4,a0Y,b1T,c3K,b3w,b91,c3w,b67]
 rw [l1,l2]
 unfold V4
 cases x.Kids.all (inR t.Nodes.length)
 ·rfl
 simp only [Option.bind_some,if_true,j9]
 have hF:(asc cK (x.Fields.map (·.Key_))&&x.Fields.all fun f=>inR t.Nodes.length f.Node&&Y9 f.Key_)=a2F t.Nodes.length x.Fields:=by
  unfold a2F
  congr 1
  rw [Bool.eq_iff_iff,Bool.and_eq_true,List.all_eq_true,List.all_eq_true,List.all_eq_true]
  simp only [Bool.and_eq_true]
  exact ⟨fun h=>⟨fun f hf=>(h f hf).2,fun f hf=>(h f hf).1⟩,fun h f hf=>⟨h.2 f hf,h.1 f hf⟩⟩
 rw [hF]
 unfold a3b
 simp only [bne]
 generalize a2F t.Nodes.length x.Fields=A
 generalize inR t.Nodes.length x.Rest.1=B
 generalize inR t.Nodes.length x.Rest.2=C
 generalize a6N x.Rest=D
 generalize x.Fields.isEmpty=E
 generalize Q4 x.Text ⟨#[]⟩=G
 generalize (x.Lo==0)=H
 generalize (x.Hi==0)=J
 generalize x.Kids.isEmpty=M
 generalize a4D x.Text=O
 generalize a6e x.Text=Q
 generalize decide (x.Lo<=x.Hi)=R
 generalize decide ((x.Text.size:Int)<=64)=T
 generalize decide ((x.Kids.length:Int)<=4)=U
 generalize ((x.Kids.length:Int)==2)=V
 generalize ((x.Kids.length:Int)==1)=W
 generalize decide (1<=(x.Kids.length:Int))=X
 generalize decide ((x.Kids.length:Int)<=5)=Y
 by_cases hk:x.Kind=1\/x.Kind=2\/x.Kind=3\/x.Kind=4\/x.Kind=5\/x.Kind=6\/x.Kind=7\/x.Kind=8\/x.Kind=9\/x.Kind=10\/x.Kind=11\/x.Kind=12\/x.Kind=13\/x.Kind=14\/x.Kind=15\/x.Kind=16\/x.Kind=17\/x.Kind=18\/x.Kind=19
 ·rcases hk with h | h | h | h | h | h | h | h | h | h | h | h | h | h | h | h | h | h | h<;>rw [h]<;>cases G<;>cases H<;>cases J<;>cases E<;>cases D<;>simp
  all_goals first
   | rfl
   | (cases M<;>rfl)
   | (cases X<;>rfl)
   | (cases A<;>cases M<;>cases B<;>rfl)
 ·simp only [not_or] at hk
  obtain ⟨h1,h2,h3,h4,h5,h6,h7,h8,h9,h10,h11,h12,h13,h14,h15,h16,h17,h18,h19⟩:=hk
  have e:∀ {n:Int},¬ x.Kind=n->(x.Kind==n)=false:=fun h=>by simpa using h
  simp only [e h1,e h2,e h3,e h4,e h5,e h6,e h7,e h8,e h9,e h10,e h11,e h12,e h13,e h14,e h15,e h16,e h17,e h18,e h19,if_neg h3,if_neg h4,if_neg h6,if_neg h19,if_neg h10,if_neg h12,if_neg h14,if_neg h18,if_neg h13,h1,h2,h5,h7,h8,h9,h11,h15,h16,h17,or_self,if_false]
  cases G<;>cases H<;>cases J<;>cases E<;>cases D<;>rfl
end Go.Pl
namespace Go.Pl
open Go Go.RowKit Go.Sx Go.Qx
def b7h (x:Api_TypeNode):Bool :=
 (x.Kind==3||(x.Lo==0&&x.Hi==0))&&((x.Kind==4||x.Kind==6||x.Kind==19||Q4 x.Text ⟨#[]⟩) &&
   ((x.Kind==10||x.Kind==12||x.Kind==14||x.Kind==16||x.Kind==17||x.Kind==18||x.Kids.isEmpty)&&(x.Kind==13||(x.Fields.isEmpty&&a6N x.Rest))))
def c0q (l:List Api_Field):Bool:=asc cK (l.map (·.Key_))&&l.all fun f=>Y9 f.Key_
def b68 (x:Api_TypeNode):Bool :=
 if x.Kind=3 then decide (x.Lo<=x.Hi) else if x.Kind=4 then decide ((x.Text.size:Int)<=64) else
 if x.Kind=6 then a4D x.Text else if x.Kind=19 then a6e x.Text else
 if x.Kind=1\/x.Kind=2\/x.Kind=5\/x.Kind=7\/x.Kind=8\/x.Kind=9\/x.Kind=11\/x.Kind=15 then true else
 if x.Kind=10 then decide ((x.Kids.length:Int)<=4) else if x.Kind=12 then (x.Kids.length:Int)==2 else
 if x.Kind=14 then decide (1<=(x.Kids.length:Int))&&decide ((x.Kids.length:Int)<=5) else
 if x.Kind=16\/x.Kind=17 then decide (1<=(x.Kids.length:Int)) else if x.Kind=18 then (x.Kids.length:Int)==1 else
 if x.Kind=13 then c0q x.Fields else false
def a6q (x:Api_TypeNode):List Int:=x.Kids++x.Fields.map (·.Node)++(if x.Kind=13 then [x.Rest.1,x.Rest.2] else [])
theorem a8Y (k:Int):(k=1\/k=2\/k=3\/k=4\/k=5\/k=6\/k=7\/k=8\/k=9\/k=10\/k=11\/k=12\/k=13\/k=14\/k=15\/k=16\/k=17\/k=18\/k=19)\/∀ n:Int,1<=n->n<=19->(k==n)=false:=by
 by_cases h:1<=k/\k<=19
 ·left; omega
 ·right
  intro n h1 h2
  have:k≠n:=by omega
  simpa using this
theorem c85 (x:Api_TypeNode):a5d x=some (b7h x):=by
 unfold a5d b7h
 simp only [a0Y,c3K,c3w]
 generalize a6N x.Rest=D
 generalize x.Fields.isEmpty=E
 generalize Q4 x.Text ⟨#[]⟩=G
 generalize (x.Lo==0)=H
 generalize (x.Hi==0)=J
 generalize x.Kids.isEmpty=M
 rcases a8Y x.Kind with h | h
 ·rcases h with h | h | h | h | h | h | h | h | h | h | h | h | h | h | h | h | h | h | h<;>rw [h]<;>cases G<;>cases H<;>cases J<;>cases E<;>cases D<;>cases M<;>rfl
 ·simp only [h 3 (by omega) (by omega),h 4 (by omega) (by omega),h 6 (by omega) (by omega),h 19 (by omega) (by omega),h 10 (by omega) (by omega),h 12 (by omega) (by omega),h 14 (by omega) (by omega),h 16 (by omega) (by omega),h 17 (by omega) (by omega),h 18 (by omega) (by omega),h 13 (by omega) (by omega)]
  cases G<;>cases H<;>cases J<;>cases E<;>cases D<;>cases M<;>rfl
theorem c7i (l:List Api_Field)(hl:l.length<=4194304):a36 l=some (c0q l):=by
 have l2:z7 (a2W l) (l.length+1) 0=some (if (asc cK (l.map (·.Key_))&&l.all fun f=>Y9 f.Key_)=true then .inl () else .inr false):=by
  refine c3H (fun f=>Y9 f.Key_) l ?_ ?_
  ·intro i f hx
   have hi:i<l.length:=(List.getElem?_eq_some_iff.1 hx).1
   unfold a2W
   rw [k9 hi,y4 hx]
   simp only [cond_true,Option.bind_some,c6P,v7,a0Y]
   refine b4t (fun a b:Api_Field=>cK a.Key_ b.Key_) (fun f=>Y9 f.Key_) l i f hx (by omega) (fun h=>by rw [h]; rfl) (fun h h0=>by subst h0; rw [h]; rfl) (fun h j y hj hy hiy=>?_)
   subst hj
   rw [h,hiy,c3h]
   simp only [Bool.not_true,cond_false,cond_true,Option.bind_some,a92]
   by_cases hc:cK y.Key_ f.Key_<0
   ·have:¬ 0<=cK y.Key_ f.Key_:=by omega
    simp [hc,this]
   ·have:0<=cK y.Key_ f.Key_:=by omega
    simp [hc,this]
  ·unfold a2W
   simp
 unfold a36 c0q
 rw [w4,l2]
 cases (asc cK (l.map (·.Key_))&&l.all fun f=>Y9 f.Key_)<;>rfl
theorem c8z (x:Api_TypeNode)(hf:x.Fields.length<=4194304):a5i x=some (b68 x):=by
 unfold a5i b68
 simp only [a0Y,c04,c7q,c7i x.Fields hf]
 generalize c0q x.Fields=A
 generalize a4D x.Text=O
 generalize a6e x.Text=Q
 generalize decide (x.Lo<=x.Hi)=R
 generalize decide ((x.Text.size:Int)<=64)=T
 generalize decide ((x.Kids.length:Int)<=4)=U
 generalize ((x.Kids.length:Int)==2)=V
 generalize ((x.Kids.length:Int)==1)=W
 generalize decide (1<=(x.Kids.length:Int))=X
 generalize decide ((x.Kids.length:Int)<=5)=Y
 rcases a8Y x.Kind with h | h
 ·rcases h with h | h | h | h | h | h | h | h | h | h | h | h | h | h | h | h | h | h | h<;>rw [h]<;>first | rfl | (cases X<;>rfl)
 ·have e:∀ n:Int,1<=n->n<=19->¬ x.Kind=n:=fun n h1 h2=>by simpa using h n h1 h2
  simp only [h 1 (by omega) (by omega),h 2 (by omega) (by omega),h 5 (by omega) (by omega),h 7 (by omega) (by omega),h 8 (by omega) (by omega),h 9 (by omega) (by omega),h 11 (by omega) (by omega),h 15 (by omega) (by omega),h 3 (by omega) (by omega),h 4 (by omega) (by omega),h 6 (by omega) (by omega),h 19 (by omega) (by omega),h 10 (by omega) (by omega),h 12 (by omega) (by omega),h 14 (by omega) (by omega),h 16 (by omega) (by omega),h 17 (by omega) (by omega),h 18 (by omega) (by omega),h 13 (by omega) (by omega),
   e 1 (by omega) (by omega),e 2 (by omega) (by omega),e 5 (by omega) (by omega),e 7 (by omega) (by omega),e 8 (by omega) (by omega),e 9 (by omega) (by omega),e 11 (by omega) (by omega),e 15 (by omega) (by omega),e 3 (by omega) (by omega),e 4 (by omega) (by omega),e 6 (by omega) (by omega),e 19 (by omega) (by omega),e 10 (by omega) (by omega),e 12 (by omega) (by omega),e 14 (by omega) (by omega),e 16 (by omega) (by omega),e 17 (by omega) (by omega),e 18 (by omega) (by omega),e 13 (by omega) (by omega),or_self,if_false]
  rfl
theorem c5e {α β:Type}(f:α->β):∀ (l:List α) (s:List β),l.foldl (fun s x=>s++[f x]) s=s++l.map f
 | [],s=>by simp
 | x::r,s=>by rw [List.foldl_cons,c5e f r]; simp
theorem c8p (x:Api_TypeNode)(hk:x.Kids.length<=1100000)(hf:x.Fields.length<=1100000):a7z x=some (a6q x):=by
 unfold a7z a0U a6q
 rw [Z2 (by omega)]
 simp only [Option.bind_some,w4]
 have key:=a2K (σ:=List Int) (step:=a2C x) x.Fields (fun s i=>(s,(i:Int))) (fun s f=>s++[f.Node]) (fun i s=>s.length<=x.Kids.length+i) (fun s=>s)
  ?_ ?_ x.Kids (by simp) _ (Nat.le_refl _)
 ·have e:z7 (a2C x) (x.Fields.length+1) (x.Kids,0)=z7 (a2C x) (x.Fields.length+1) (x.Kids,((0:Nat):Int)):=rfl
  rw [e,key,c5e]
  simp only [Option.bind_some]
  by_cases h:x.Kind=13
  ·rw [show (x.Kind==13)=true by simpa using h,if_pos h,Z2 (by simp only [List.length_append,List.length_map,List.length_cons,List.length_nil]; omega)]
   rfl
  ·rw [show (x.Kind==13)=false by simpa using h,if_neg h,List.append_nil]
   rfl
 ·intro i s f hx hI
  have hi:i<x.Fields.length:=(List.getElem?_eq_some_iff.1 hx).1
  refine ⟨?_,by simp only [List.length_append,List.length_cons,List.length_nil]; omega⟩
  unfold a2C
  simp only [v7]
  rw [k9 hi,y4 hx]
  simp only [cond_true,Option.bind_some]
  rw [Z2 (by simp only [List.length_cons,List.length_nil]; omega),j5 i (by omega)]
  rfl
 ·intro s _
  unfold a2C
  simp
theorem c62 (N:Nat)(x:Api_TypeNode):(b7h x&&(b68 x&&(a6q x).all (inR N)))=V4 N x:=by
 unfold b7h b68 V4 a3b a6q a2F c0q
 simp only [List.all_append,List.all_map]
 have hE:x.Fields.isEmpty=true->x.Fields=[]:=List.isEmpty_iff.1
 have hM:x.Kids.isEmpty=true->x.Kids=[]:=List.isEmpty_iff.1
 rcases a8Y x.Kind with h | h
 ·have hK:x.Kids.isEmpty=true->x.Kids.all (inR N)=true:=fun e=>by rw [hM e]; rfl
  have hF:x.Fields.isEmpty=true->(x.Fields.all (inR N∘fun f=>f.Node))=true:=fun e=>by rw [hE e]; rfl
  have hcomp:(x.Fields.all fun f=>inR N f.Node)=x.Fields.all (inR N∘fun f=>f.Node):=rfl
  rw [hcomp]
  generalize x.Fields.all (inR N∘fun f=>f.Node)=a1 at hF
  generalize x.Kids.all (inR N)=a2 at hK
  generalize x.Fields.isEmpty=E at hF
  generalize x.Kids.isEmpty=M at hK
  generalize a6N x.Rest=D
  generalize Q4 x.Text ⟨#[]⟩=G
  generalize (x.Lo==0)=H
  generalize (x.Hi==0)=J
  rcases h with h | h | h | h | h | h | h | h | h | h | h | h | h | h | h | h | h | h | h<;>rw [h]<;>simp <;>
   cases G<;>cases H<;>cases J<;>cases E<;>cases D<;>cases M<;>simp_all
  all_goals first
   | (simp only [Bool.and_assoc]; done)
   | (cases a2<;>simp; done)
 ·have e:∀ n:Int,1<=n->n<=19->¬ x.Kind=n:=fun n h1 h2=>by simpa using h n h1 h2
  simp only [e 1 (by omega) (by omega),e 2 (by omega) (by omega),e 5 (by omega) (by omega),e 7 (by omega) (by omega),e 8 (by omega) (by omega),e 9 (by omega) (by omega),e 11 (by omega) (by omega),e 15 (by omega) (by omega),e 3 (by omega) (by omega),e 4 (by omega) (by omega),e 6 (by omega) (by omega),e 19 (by omega) (by omega),e 10 (by omega) (by omega),e 12 (by omega) (by omega),e 14 (by omega) (by omega),e 16 (by omega) (by omega),e 17 (by omega) (by omega),e 18 (by omega) (by omega),e 13 (by omega) (by omega),or_self,if_false]
  simp
end Go.Pl
namespace Go.Pl
open Go Go.RowKit Go.Sx Go.Qx
def isB (x:Api_TypeNode):Bool:=x.Kind==16||x.Kind==17||x.Kind==18
def c3O (ns:List Api_TypeNode):Prop:=∀ (i:Nat) (x:Api_TypeNode),ns[i]?=some x->isB x=true->∀ k∈x.Kids,(i:Int)<k
def a7c (ns:List Api_TypeNode):Bool:=ns.all (V4 ns.length)
theorem d0W (x:Api_TypeNode):a5a x.Kind=some (isB x):=by
 unfold a5a isB
 cases (x.Kind==16)<;>cases (x.Kind==17)<;>rfl
theorem c1r (x:Api_TypeNode):a4N x=some (isB x):=by
 unfold a4N isB
 cases (x.Kind==16)<;>cases (x.Kind==17)<;>rfl
theorem a5k {N:Nat}{x:Api_TypeNode}(h:V4 N x=true):∀ k∈x.Kids,inR N k=true:=by
 unfold V4 at h
 simp only [Bool.and_eq_true] at h
 exact List.all_eq_true.1 h.1
theorem a0v {N:Nat}{k:Int}(h:inR N k=true):∃ j:Nat,k=(j:Int)/\j<N:=by
 unfold inR at h
 simp only [Bool.and_eq_true,decide_eq_true_eq] at h
 exact ⟨k.toNat,by omega,by omega⟩
def Rk (ns:List Api_TypeNode)(r:Nat->Nat):Prop:=∀ (i:Nat) (x:Api_TypeNode),ns[i]?=some x->isB x=true->∀ k∈x.Kids,r k.toNat<r i
def Acy (ns:List Api_TypeNode):Prop:=∃ r,Rk ns r
open Classical in
noncomputable def a6W (ns:List Api_TypeNode):Bool:=decide (Acy ns)
theorem b1W {ns:List Api_TypeNode}:a6W ns=true↔Acy ns:=by
 unfold a6W
 classical exact decide_eq_true_iff
theorem c3O.acy {ns:List Api_TypeNode}(h:c3O ns)(hT:a7c ns=true):a6W ns=true :=
 b1W.2 ⟨fun i=>ns.length-i,fun i x hx hb k hk=>by
  obtain ⟨j,rfl,hj⟩:=a0v (a5k (List.all_eq_true.1 hT x (List.mem_of_getElem? hx)) k hk)
  have:=h i x hx hb _ hk
  show ns.length-((j:Int)).toNat<ns.length-i
  rw [Int.toNat_natCast]
  omega⟩
def Gd (ns:List Api_TypeNode)(D:Nat->Prop):Prop:=∃ r:Nat->Nat,∀ (i:Nat) (x:Api_TypeNode),D i->ns[i]?=some x->isB x=true->∀ k∈x.Kids,D k.toNat/\r k.toNat<r i
theorem c45 (r:Nat->Nat):∀ (l:List Int) (k:Int),k∈l->r k.toNat<=(l.map fun k=>r k.toNat).sum
 | [],_,h=>by cases h
 | y::l,k,h=>by
   rw [List.map_cons,List.sum_cons]
   rcases List.mem_cons.1 h with rfl | h
   ·omega
   ·have:=c45 r l k h; omega
theorem Gd.add {ns:List Api_TypeNode}{D D':Nat->Prop}(h:Gd ns D){i:Nat}{x:Api_TypeNode}(hx:ns[i]?=some x)(hk:isB x=true->∀ k∈x.Kids,D k.toNat)(hD:∀ j,D' j↔D j\/j=i):Gd ns D':=by
 obtain ⟨r,hr⟩:=h
 by_cases hi:D i
 ·have e:∀ j,D' j↔D j:=fun j=>(hD j).trans ⟨fun h=>h.elim id (fun h=>by rw [h]; exact hi),.inl⟩
  exact ⟨r,fun j y h1 h2 h3 k h4=>by
   obtain ⟨k1,k2⟩:=hr j y ((e j).1 h1) h2 h3 k h4
   exact ⟨(e _).2 k1,k2⟩⟩
 ·refine ⟨fun j=>if j=i then 1+(x.Kids.map fun k=>r k.toNat).sum else r j,fun j y h1 h2 h3 k h4=>?_⟩
  by_cases hj:j=i
  ·subst hj
   rw [hx] at h2
   cases h2
   have hDk:=hk h3 k h4
   have hne:k.toNat≠j:=fun e=>hi (e▸hDk)
   refine ⟨(hD _).2 (.inl hDk),?_⟩
   simp only [if_neg hne,if_true]
   have:=c45 r x.Kids k h4
   omega
  ·obtain ⟨k1,k2⟩:=hr j y (((hD j).1 h1).resolve_right hj) h2 h3 k h4
   have hne:k.toNat≠i:=fun e=>hi (e▸k1)
   refine ⟨(hD _).2 (.inl k1),?_⟩
   simp only [if_neg hne,if_neg hj]
   exact k2
theorem Gd.acy {ns:List Api_TypeNode}{D:Nat->Prop}(h:Gd ns D)(hD:∀ j,j<ns.length->D j):Acy ns:=by
 obtain ⟨r,hr⟩:=h
 exact ⟨r,fun i x hx hb k hk=>(hr i x (hD i (List.getElem?_eq_some_iff.1 hx).1) hx hb k hk).2⟩
theorem Acy.small {ns:List Api_TypeNode}(h:Acy ns)(hT:a7c ns=true):∃ r,Rk ns r/\∀ i,i<ns.length->r i<ns.length:=by
 obtain ⟨r,hr⟩:=h
 have mono:∀ (l:List Nat) (a b:Nat),a<=b->(l.countP fun j=>decide (j<a))<=l.countP fun j=>decide (j<b):=fun l a b hab =>
  List.countP_mono_left fun x _ hx=>by simp at hx ⊢; omega
 have strict:∀ (l:List Nat) (a b:Nat),a<b->a∈l->(l.countP fun j=>decide (j<a))<l.countP fun j=>decide (j<b):=by
  intro l
  induction l with
  | nil=>intro a b _ h; cases h
  | cons y l ih =>
    intro a b hab hm
    rw [List.countP_cons,List.countP_cons]
    rcases List.mem_cons.1 hm with rfl | hm
    ·have:=mono l a b (by omega)
     simp only [Nat.lt_irrefl,decide_false,hab,decide_true,if_true]
     simp
     omega
    ·have h1:=ih a b hab hm
     by_cases h2:y<a
     ·simp only [h2,show y<b by omega,decide_true,if_true]; omega
     ·simp only [h2,decide_false]
      by_cases h3:y<b<;>simp [h3]<;>omega
 have hlt:∀ (l:List Nat) (a:Nat),a∈l->(l.countP fun j=>decide (j<a))<l.length:=fun l a hm=>by
  have h1:=strict l a (a+1) (by omega) hm
  have h2:(l.countP fun j=>decide (j<a+1))<=l.length:=List.countP_le_length
  omega
 refine ⟨fun i=>((List.range ns.length).map r).countP fun j=>decide (j<r i),fun i x hx hb k hk=>?_,fun i hi=>?_⟩
 ·obtain ⟨j,rfl,hj⟩:=a0v (a5k (List.all_eq_true.1 hT x (List.mem_of_getElem? hx)) k hk)
  exact strict _ _ _ (hr i x hx hb _ hk) (List.mem_map.2 ⟨j,by simpa using hj,by simp⟩)
 ·have:=hlt ((List.range ns.length).map r) (r i) (List.mem_map.2 ⟨i,by simpa using hi,rfl⟩)
  simpa using this
def DF (ns:List Api_TypeNode)(st:List Int)(j:Nat):Prop:=st[j]?=some 2\/∃ x,ns[j]?=some x/\isB x=false
theorem c48:∀ (l:List Int) (i:Nat),l[i]?=some 0->(l.set i 1).count 0+1=l.count 0
 | [],i,h=>by simp at h
 | x::l,0,h=>by
   have:x=0:=by simpa using h
   subst this
   simp
 | x::l,i+1,h=>by
   have:=c48 l i (by simpa using h)
   rw [List.set_cons_succ,List.count_cons,List.count_cons]
   omega
theorem c7v:∀ (l:List Int) (i:Nat),(l.set i 2).count 0<=l.count 0
 | [],i=>by simp
 | x::l,0=>by
   rw [List.set_cons_zero,List.count_cons,List.count_cons]
   simp
 | x::l,i+1=>by
   have:=c7v l i
   rw [List.set_cons_succ,List.count_cons,List.count_cons]
   omega
structure DfsR (ns:List Api_TypeNode)(st st':List Int):Prop where
 len:st'.length=ns.length
 val:∀ (j:Nat) e,st'[j]?=some e->e=0\/e=1\/e=2
 gd:Gd ns (DF ns st')
 opn:∀ j:Nat,st'[j]?=some 1↔st[j]?=some 1
 don:∀ j:Nat,st[j]?=some 2->st'[j]?=some 2
 zer:st'.count 0<=st.count 0
theorem d0S (t:Api_Type)(hT:a7c t.Nodes=true)(hk:∀ x∈t.Nodes,x.Kids.length<=1100000) :
 ∀ (fuel i:Nat) (st:List Int),st.count 0<fuel->i<t.Nodes.length->DfsR t.Nodes st st ->
  ∃ b st',Q3 fuel (i:Int) st t ()=some (b,st')/\(b=true->DfsR t.Nodes st st'/\DF t.Nodes st' i)/\(b=false->∀ r,Rk t.Nodes r->(∀ o:Nat,st[o]?=some 1->r i<r o)->False):=by
 intro fuel
 induction fuel with
 | zero=>intro i st h1; omega
 | succ f ih =>
   intro i st h1 h2 hS
   show ∃ b st',a4y f (Q3 f) (i:Int) st t ()=some (b,st')/\_
   have h3:=hS.len
   have hi:i<st.length:=by omega
   have hst:=List.getElem?_eq_getElem hi
   have hn:=List.getElem?_eq_getElem h2
   generalize st[i]=e at hst
   generalize hx:t.Nodes[i]=x at hn
   have hxm:x∈t.Nodes:=List.mem_of_getElem? hn
   unfold a4y
   simp only [y4 hst,y4 hn,Int.toNat_natCast,hst,Option.bind_some,d0W,w4,v7]
   by_cases hq:e=0/\isB x=true
   ·obtain ⟨he,hb⟩:=hq
    subst he
    rw [hb]
    simp only [bne_self_eq_false,cond_false,Bool.not_true,Option.bind_some]
    have hke:=hk x hxm
    have hz:=c48 st i hst
    have hset:∀ j:Nat,(st.set i 1)[j]?=some 1↔st[j]?=some 1\/j=i:=fun j=>by
     by_cases e:i=j
     ·subst e; rw [List.getElem?_set_self hi]; simp
     ·rw [List.getElem?_set_ne e]; exact ⟨.inl,fun h=>h.resolve_right (Ne.symm e)⟩
    have hset2:∀ j:Nat,(st.set i 1)[j]?=some 2↔st[j]?=some 2:=fun j=>by
     by_cases e:i=j
     ·subst e; rw [List.getElem?_set_self hi,hst]; simp
     ·rw [List.getElem?_set_ne e]
    have hS1:DfsR t.Nodes (st.set i 1) (st.set i 1):=by
     refine ⟨by simpa using h3,fun j e hj=>?_,?_,fun _=>Iff.rfl,fun _ h=>h,Nat.le_refl _⟩
     ·by_cases e1:i=j
      ·subst e1; rw [List.getElem?_set_self hi] at hj; simp at hj; omega
      ·rw [List.getElem?_set_ne e1] at hj; exact hS.val j e hj
     ·have e:∀ j,DF t.Nodes (st.set i 1) j↔DF t.Nodes st j:=fun j=>or_congr (hset2 j) Iff.rfl
      obtain ⟨r,hr⟩:=hS.gd
      exact ⟨r,fun j y a1 a2 a3 k a4=>by
       obtain ⟨k1,k2⟩:=hr j y ((e j).1 a1) a2 a3 k a4
       exact ⟨(e _).2 k1,k2⟩⟩
    have key:∀ (m a k:Nat) (s:List Int),a+m=x.Kids.length->m+1<=k->DfsR t.Nodes (st.set i 1) s->(∀ (q:Nat) (y:Int),q<a->x.Kids[q]?=some y->DF t.Nodes s y.toNat) ->
     (∃ s',z7 (Y6 t x (Q3 f)) k ((a:Int),s)=some (.inl s')/\DfsR t.Nodes (st.set i 1) s'/\∀ y∈x.Kids,DF t.Nodes s' y.toNat) \/
     ∃ s',z7 (Y6 t x (Q3 f)) k ((a:Int),s)=some (.inr (false,s'))/\∀ r,Rk t.Nodes r->(∀ o:Nat,st[o]?=some 1->r i<r o)->False:=by
     intro m
     induction m with
     | zero =>
       intro a k s b1 b2 b3 b4
       obtain ⟨k,rfl⟩:∃ m,k=m+1:=⟨k-1,by omega⟩
       have e:a=x.Kids.length:=by omega
       subst e
       have:Y6 t x (Q3 f) ((x.Kids.length:Int),s)=some (.done (.inl s)):=by
        unfold Y6
        simp
       exact .inl ⟨s,by simp only [z7,this,Option.bind_some],b3,fun y hy=>by
        obtain ⟨q,hq,e⟩:=List.getElem_of_mem hy
        exact b4 q y hq (by rw [List.getElem?_eq_getElem hq,e])⟩
     | succ m ihm =>
       intro a k s b1 b2 b3 b4
       obtain ⟨k,rfl⟩:∃ m,k=m+1:=⟨k-1,by omega⟩
       have ha:a<x.Kids.length:=by omega
       have hka:=List.getElem?_eq_getElem ha
       have hkm:=List.getElem_mem ha
       obtain ⟨j,hj1,hj3⟩:=a0v (a5k (List.all_eq_true.1 hT x hxm) _ hkm)
       obtain ⟨b,s',c1,c2,c3⟩:=ih j s (by have:=b3.zer; omega) hj3 ⟨b3.len,b3.val,b3.gd,fun _=>Iff.rfl,fun _ h=>h,Nat.le_refl _⟩
       cases b with
       | true =>
         obtain ⟨c4,c5⟩:=c2 rfl
         have:Y6 t x (Q3 f) ((a:Int),s)=some (.next (((a+1:Nat):Int),s')):=by
          unfold Y6
          rw [k9 ha,y4 hka,hj1]
          simp only [cond_true,Option.bind_some,v7]
          rw [c1,j5 a (by omega)]
          rfl
         simp only [z7,this,Option.bind_some]
         refine ihm (a+1) k s' (by omega) (by omega) ⟨c4.len,c4.val,c4.gd,fun q=>(c4.opn q).trans (b3.opn q),fun q hq=>c4.don q (b3.don q hq),Nat.le_trans c4.zer b3.zer⟩ (fun q y hq hy=>?_)
         by_cases hqa:q=a
         ·subst hqa
          rw [hka] at hy
          cases hy
          rw [hj1,Int.toNat_natCast]
          exact c5
         ·exact (b4 q y (by omega) hy).imp (fun h=>c4.don _ h) id
       | false =>
         have:Y6 t x (Q3 f) ((a:Int),s)=some (.done (.inr (false,s'))):=by
          unfold Y6
          rw [k9 ha,y4 hka,hj1]
          simp only [cond_true,Option.bind_some,v7]
          rw [c1]
          rfl
         refine .inr ⟨s',by simp only [z7,this,Option.bind_some],fun r hr ho=>c3 rfl r hr fun o hopn=>?_⟩
         have hrk:r j<r i:=by
          have:=hr i x hn hb _ hkm
          rwa [hj1,Int.toNat_natCast] at this
         rcases (hset o).1 ((b3.opn o).1 hopn) with h | rfl
         ·exact Nat.lt_trans hrk (ho o h)
         ·exact hrk
    have e0:z7 (Y6 t x (Q3 f)) (x.Kids.length+1) (0,st.set i 1)=z7 (Y6 t x (Q3 f)) (x.Kids.length+1) (((0:Nat):Int),st.set i 1):=rfl
    rw [e0]
    rcases key x.Kids.length 0 (x.Kids.length+1) (st.set i 1) (by omega) (Nat.le_refl _) hS1 (fun q y hq=>by omega) with ⟨s',c1,c2,c3⟩ | ⟨s',c1,c2⟩
    ·rw [c1]
     have hi':i<s'.length:=by rw [c2.len]; exact h2
     have hs':=List.getElem?_eq_getElem hi'
     have hs1:s'[i]?=some 1:=(c2.opn i).2 ((hset i).2 (.inr rfl))
     simp only [Option.bind_some,j9,y4 hs',hs']
     refine ⟨true,s'.set i 2,rfl,fun _=>⟨⟨by simpa using c2.len,fun j e hj=>?_,?_,fun j=>?_,fun j hj=>?_,?_⟩,.inl (List.getElem?_set_self hi')⟩,fun h=>by cases h⟩
     ·by_cases e1:i=j
      ·subst e1; rw [List.getElem?_set_self hi'] at hj; simp at hj; omega
      ·rw [List.getElem?_set_ne e1] at hj; exact c2.val j e hj
     ·refine Gd.add c2.gd hn (fun _=>c3) fun j=>?_
      unfold DF
      by_cases e1:i=j
      ·subst e1; rw [List.getElem?_set_self hi']; simp
      ·rw [List.getElem?_set_ne e1]; exact ⟨.inl,fun h=>h.resolve_right (Ne.symm e1)⟩
     ·by_cases e1:i=j
      ·subst e1; rw [List.getElem?_set_self hi',hst]; simp
      ·rw [List.getElem?_set_ne e1]
       exact (c2.opn j).trans ((hset j).trans ⟨fun h=>h.resolve_right (Ne.symm e1),.inl⟩)
     ·have h2':=c2.don j ((hset2 j).2 hj)
      by_cases e1:i=j
      ·subst e1; rw [List.getElem?_set_self hi']
      ·rw [List.getElem?_set_ne e1]; exact h2'
     ·have a1:=c7v s' i
      have a2:=c2.zer
      omega
    ·rw [c1]
     exact ⟨false,s',rfl,(fun h=>by cases h),fun _=>c2⟩
   ·by_cases he1:e=1
    ·subst he1
     exact ⟨false,st,by cases isB x<;>rfl,(fun h=>by cases h),fun _ r _ ho=>Nat.lt_irrefl _ (ho i hst)⟩
    ·refine ⟨true,st,?_,fun _=>⟨hS,?_⟩,fun h=>by cases h⟩
     ·by_cases he:e=0
      ·subst he
       have hb:isB x=false:=by
        cases hb:isB x with
        | true=>exact absurd ⟨rfl,hb⟩ hq
        | false=>rfl
       rw [hb]
       rfl
      ·have e2:(e != 0)=true:=by simpa using he
       have e3:(e != 1)=true:=by simpa using he1
       rw [e2,e3]
       rfl
     ·rcases hS.val i e hst with rfl | rfl | rfl
      ·right
       refine ⟨x,hn,?_⟩
       cases hb:isB x with
       | true=>exact absurd ⟨rfl,hb⟩ hq
       | false=>rfl
      ·exact absurd rfl he1
      ·exact .inl hst
theorem c88 (t:Api_Type)(hT:a7c t.Nodes=true)(hk:∀ x∈t.Nodes,x.Kids.length<=1100000)(hN:t.Nodes.length<=1100000)(fuel:Nat)(hf:t.Nodes.length+1<=fuel):a4f fuel t=some (a6W t.Nodes):=by
 unfold a4f a6R
 have e0:(decide (0<=(t.Nodes.length:Int))&&decide ((t.Nodes.length:Int)<=(t.Nodes.length:Int))&&decide ((t.Nodes.length:Int)*((8:Nat):Int)<=140737488355328))=true:=by
  simp; omega
 rw [e0]
 simp only [cond_true,Option.bind_some,w4]
 have key:∀ (m a k:Nat) (s:List Int),a+m=t.Nodes.length->m+1<=k->DfsR t.Nodes s s->(∀ j:Nat,s[j]?≠some 1)->(∀ j,j<a->DF t.Nodes s j) ->
  (∃ s',z7 (Q7 t fuel) k ((a:Int),s)=some (.inl s')/\a6W t.Nodes=true)\/∃ s',z7 (Q7 t fuel) k ((a:Int),s)=some (.inr (false,s'))/\a6W t.Nodes=false:=by
  intro m
  induction m with
  | zero =>
    intro a k s b1 b2 b3 b4 b5
    obtain ⟨k,rfl⟩:∃ m,k=m+1:=⟨k-1,by omega⟩
    have e:a=t.Nodes.length:=by omega
    subst e
    have:Q7 t fuel ((t.Nodes.length:Int),s)=some (.done (.inl s)):=by
     unfold Q7
     simp
    exact .inl ⟨s,by simp only [z7,this,Option.bind_some],b1W.2 (b3.gd.acy b5)⟩
  | succ m ih =>
    intro a k s b1 b2 b3 b4 b5
    obtain ⟨k,rfl⟩:∃ m,k=m+1:=⟨k-1,by omega⟩
    have hz:s.count 0<=t.Nodes.length:=by rw [<- b3.len]; exact List.count_le_length
    obtain ⟨b,s',c1,c2,c3⟩:=d0S t hT hk fuel a s (by omega) (by omega) b3
    cases b with
    | true =>
      obtain ⟨c4,c5⟩:=c2 rfl
      have:Q7 t fuel ((a:Int),s)=some (.next (((a+1:Nat):Int),s')):=by
       unfold Q7
       rw [k9 (show a<t.Nodes.length by omega)]
       simp only [cond_true,Option.bind_some,v7]
       rw [c1,j5 a (by omega)]
       rfl
      simp only [z7,this,Option.bind_some]
      refine ih (a+1) k s' (by omega) (by omega) ⟨c4.len,c4.val,c4.gd,fun _=>Iff.rfl,fun _ h=>h,Nat.le_refl _⟩ (fun j h=>b4 j ((c4.opn j).1 h)) (fun j hj=>?_)
      by_cases h:j=a
      ·rw [h]; exact c5
      ·exact (b5 j (by omega)).imp (fun h=>c4.don _ h) id
    | false =>
      have:Q7 t fuel ((a:Int),s)=some (.done (.inr (false,s'))):=by
       unfold Q7
       rw [k9 (show a<t.Nodes.length by omega)]
       simp only [cond_true,Option.bind_some,v7]
       rw [c1]
       rfl
      refine .inr ⟨s',by simp only [z7,this,Option.bind_some],?_⟩
      cases hA:a6W t.Nodes with
      | false=>rfl
      | true =>
        obtain ⟨r,hr⟩:=b1W.1 hA
        exact (c3 rfl r hr fun o ho=>absurd ho (b4 o)).elim
 have hrep:∀ (j:Nat) (e:Int),(List.replicate t.Nodes.length (0:Int))[j]?=some e->e=0:=fun j e h=>by
  rw [List.getElem?_replicate] at h
  split at h
  ·simpa using h.symm
  ·cases h
 have hS:DfsR t.Nodes (List.replicate t.Nodes.length (0:Int)) (List.replicate t.Nodes.length (0:Int)) :=
  ⟨by simp,fun j e h=>.inl (hrep j e h),⟨fun _=>0,fun i x hi hx hb=>by
   rcases hi with hi | ⟨y,hy,hyb⟩
   ·have:=hrep i 2 hi; omega
   ·rw [hx] at hy; cases hy; rw [hb] at hyb; cases hyb⟩,fun _=>Iff.rfl,fun _ h=>h,Nat.le_refl _⟩
 have e':∀ s,z7 (Q7 t fuel) (t.Nodes.length+1) (0,s)=z7 (Q7 t fuel) (t.Nodes.length+1) (((0:Nat):Int),s):=fun _=>rfl
 rw [e']
 rcases key t.Nodes.length 0 (t.Nodes.length+1) (List.replicate t.Nodes.length (0:Int)) (by omega) (Nat.le_refl _) hS (fun j h=>by have:=hrep j 1 h; omega) (fun j hj=>by omega) with ⟨s',e,hA⟩ | ⟨s',e,hA⟩
 ·rw [e,hA]; rfl
 ·rw [e,hA]; rfl
theorem d0R (t:Api_Type)(hk:∀ x∈t.Nodes,x.Kids.length<=1100000/\x.Fields.length<=1100000)(hN:t.Nodes.length<=1100000)(fuel:Nat)(hf:t.Nodes.length+1<=fuel):a0o fuel t=some (if inR t.Nodes.length t.Root&&a7c t.Nodes then (if a6W t.Nodes then 0 else 3) else 1):=by
 have l2:z7 (a27 t) (t.Nodes.length+1) 0=some (if t.Nodes.all (V4 t.Nodes.length)=true then .inl () else .inr 1):=by
  refine J4 t.Nodes (V4 t.Nodes.length) (fun i=>(i:Int)) () 1 ?_ ?_
  ·intro i x hx
   have hi:i<t.Nodes.length:=(List.getElem?_eq_some_iff.1 hx).1
   obtain ⟨hk1,hk2⟩:=hk x (List.mem_of_getElem? hx)
   unfold a27
   rw [k9 hi,y4 hx]
   simp only [cond_true,Option.bind_some,c85,c8z x (by omega),v7,w4]
   rw [<- c62,j5 i (by omega)]
   cases b7h x
   ·rfl
   cases b68 x
   ·rfl
   simp only [Bool.not_true,cond_false,Option.bind_some,Bool.true_and]
   rw [c8p x hk1 hk2]
   simp only [Option.bind_some]
   have he:(a6q x).length<=4194304:=by
    unfold a6q
    simp only [List.length_append,List.length_map]
    split<;>simp<;>omega
   have l1:z7 (a3g t (a6q x)) ((a6q x).length+1) 0=some (if (a6q x).all (inR t.Nodes.length)=true then .inl () else .inr 1):=by
    refine J4 (a6q x) (inR t.Nodes.length) (fun i=>(i:Int)) () 1 ?_ ?_
    ·intro j y hy
     have hj:j<(a6q x).length:=(List.getElem?_eq_some_iff.1 hy).1
     unfold a3g
     rw [k9 hj,y4 hy]
     simp only [cond_true,Option.bind_some,v7]
     rw [j5 j (by omega)]
     unfold inR
     by_cases h1:y<0
     ·have a1:decide (y<0)=true:=by simpa using h1
      have a2:decide (0<=y)=false:=by simp; omega
      rw [a1,a2]; rfl
     ·have a1:decide (y<0)=false:=by simpa using h1
      have a2:decide (0<=y)=true:=by simp; omega
      rw [a1,a2]
      by_cases h2:y<(t.Nodes.length:Int)
      ·have a3:decide ((t.Nodes.length:Int)<=y)=false:=by simp; omega
       have a4:decide (y<(t.Nodes.length:Int))=true:=by simpa using h2
       rw [a3,a4]; rfl
      ·have a3:decide ((t.Nodes.length:Int)<=y)=true:=by simp; omega
       have a4:decide (y<(t.Nodes.length:Int))=false:=by simpa using h2
       rw [a3,a4]; rfl
    ·unfold a3g
     simp
   rw [l1]
   cases (a6q x).all (inR t.Nodes.length)<;>rfl
  ·unfold a27
   simp
 unfold a0o
 rw [w4,l2]
 have hq:(Option.bind (bif decide (t.Root<0) then some true else some (decide ((t.Nodes.length:Int)<=t.Root))) fun q=>some q)=some (!inR t.Nodes.length t.Root):=by
  unfold inR
  by_cases h1:t.Root<0
  ·have a1:decide (t.Root<0)=true:=by simpa using h1
   have a2:decide (0<=t.Root)=false:=by simp; omega
   rw [a1,a2]; rfl
  ·have a1:decide (t.Root<0)=false:=by simpa using h1
   have a2:decide (0<=t.Root)=true:=by simp; omega
   rw [a1,a2]
   by_cases h2:t.Root<(t.Nodes.length:Int)
   ·have a3:decide ((t.Nodes.length:Int)<=t.Root)=false:=by simp; omega
    have a4:decide (t.Root<(t.Nodes.length:Int))=true:=by simpa using h2
    rw [a3,a4]; rfl
   ·have a3:decide ((t.Nodes.length:Int)<=t.Root)=true:=by simp; omega
    have a4:decide (t.Root<(t.Nodes.length:Int))=false:=by simpa using h2
    rw [a3,a4]; rfl
 rw [a0Y] at hq
 rw [hq]
 simp only [Option.bind_some]
 cases inR t.Nodes.length t.Root
 ·rfl
 show _=some (if a7c t.Nodes=true then (if a6W t.Nodes then (0:Int) else 3) else 1)
 cases hA:a7c t.Nodes with
 | true =>
   have hA':t.Nodes.all (V4 t.Nodes.length)=true:=hA
   rw [hA']
   simp only [Bool.not_true,cond_false,if_true,Option.bind_some,j9]
   rw [c88 t hA (fun x hx=>(hk x hx).1) hN fuel hf]
   cases a6W t.Nodes<;>rfl
 | false =>
   have hA':t.Nodes.all (V4 t.Nodes.length)=false:=hA
   rw [hA']
   rfl
theorem d1X (t:Api_Type)(hO:c3O t.Nodes)(hk:∀ x∈t.Nodes,x.Kids.length<=1100000/\x.Fields.length<=1100000)(hN:t.Nodes.length<=1100000)(fuel:Nat)(hf:t.Nodes.length+1<=fuel):a0o fuel t=some (if inR t.Nodes.length t.Root&&a7c t.Nodes then 0 else 1):=by
 rw [d0R t hk hN fuel hf]
 cases hA:a7c t.Nodes with
 | false=>rw [Bool.and_false]; rfl
 | true=>rw [hO.acy hA]; rfl
end Go.Pl
namespace Go.Pl
open Go Go.RowKit Go.Sx Go.Qx
theorem d0q (t:Api_Type)(D:List Bool)(i fuel:Nat)(x:Api_TypeNode)(hx:t.Nodes[i]?=some x)(hD:D.length=t.Nodes.length)(hT:a7c t.Nodes=true)(hk:x.Kids.length<=1100000)(hf:x.Kids.length+1<=fuel) :
 ∃ A,z7 (J6 t (D,(i:Int))) fuel (D,true,0)=some (D,A)/\((isB x=true->∀ k∈x.Kids,D[k.toNat]?=some true)↔A=true):=by
 have hxm:x∈t.Nodes:=List.mem_of_getElem? hx
 have hkr:=a5k (List.all_eq_true.1 hT x hxm)
 have hix:=y4 hx
 cases hb:isB x with
 | false =>
   obtain ⟨k,rfl⟩:∃ m,fuel=m+1:=⟨fuel-1,by omega⟩
   have:J6 t (D,(i:Int)) (D,true,0)=some (.done (D,true)):=by
    unfold J6
    simp only [hix,Option.bind_some,c1r,hb]
    rfl
   exact ⟨true,by simp only [z7,this,Option.bind_some],fun _=>rfl,fun _ h=>by cases h⟩
 | true =>
   have key:∀ (m a k:Nat) (A:Bool),a+m=x.Kids.length->m+1<=k ->
    ∃ A',z7 (J6 t (D,(i:Int))) k (D,A,(a:Int))=some (D,A')/\((A=true/\∀ (q:Nat) (y:Int),a<=q->x.Kids[q]?=some y->D[y.toNat]?=some true)↔A'=true):=by
    intro m
    induction m with
    | zero =>
      intro a k A b1 b2
      obtain ⟨k,rfl⟩:∃ m,k=m+1:=⟨k-1,by omega⟩
      have e:a=x.Kids.length:=by omega
      subst e
      have:J6 t (D,(i:Int)) (D,A,(x.Kids.length:Int))=some (.done (D,A)):=by
       unfold J6
       simp only [hix,Option.bind_some,c1r,hb,cond_true]
       simp
      exact ⟨A,by simp only [z7,this,Option.bind_some],fun h=>h.1,fun h=>⟨h,fun q y h1 h2=>by have:=(List.getElem?_eq_some_iff.1 h2).1; omega⟩⟩
    | succ m ih =>
      intro a k A b1 b2
      obtain ⟨k,rfl⟩:∃ m,k=m+1:=⟨k-1,by omega⟩
      have ha:a<x.Kids.length:=by omega
      have hka:=List.getElem?_eq_getElem ha
      have hkm:=List.getElem_mem ha
      obtain ⟨j,hj,hj2⟩:=a0v (hkr _ hkm)
      have hDj:=List.getElem?_eq_getElem (show j<D.length by omega)
      obtain ⟨A',c1,c2⟩:=ih (a+1) k (bif A then D[j] else false) (by omega) (by omega)
      have:J6 t (D,(i:Int)) (D,A,(a:Int))=some (.next (D,(bif A then D[j] else false),((a+1:Nat):Int))):=by
       unfold J6
       simp only [hix,Option.bind_some,c1r,hb,cond_true,k9 ha,y4 hka,hj,y4 hDj,Int.toNat_natCast,hDj,v7]
       rw [j5 a (by omega)]
       cases A<;>rfl
      simp only [z7,this,Option.bind_some]
      refine ⟨A',c1,Iff.trans ⟨fun ⟨hA,hall⟩=>⟨?_,fun q y hq hy=>hall q y (by omega) hy⟩,fun ⟨hA,hall⟩=>?_⟩ c2⟩
      ·have hq:=hall a _ (Nat.le_refl _) hka
       rw [hj,Int.toNat_natCast,hDj] at hq
       subst hA
       simpa using hq
      ·cases A with
       | false=>cases hA
       | true =>
         refine ⟨rfl,fun q y hq hy=>?_⟩
         by_cases e:q=a
         ·subst e
          rw [hka] at hy
          cases hy
          rw [hj,Int.toNat_natCast,hDj]
          simpa using hA
         ·exact hall q y (by omega) hy
   obtain ⟨A,c1,c2⟩:=key x.Kids.length 0 fuel true (by omega) hf
   refine ⟨A,c1,Iff.trans ⟨fun h=>⟨rfl,fun q y _ hy=>h rfl y (List.mem_of_getElem? hy)⟩,fun h _ y hy=>?_⟩ c2⟩
   obtain ⟨q,hq,e⟩:=List.getElem_of_mem hy
   exact h.2 q y (Nat.zero_le _) (by rw [List.getElem?_eq_getElem hq,e])
def trD (D:List Bool)(j:Nat):Prop:=D[j]?=some true
theorem c81 (t:Api_Type)(hT:a7c t.Nodes=true)(hk:∀ x∈t.Nodes,x.Kids.length<=1100000)(hN:t.Nodes.length<=1100000)(fuel:Nat)(hf:1100001<=fuel)(r:Nat->Nat)(q:Nat) :
 ∀ (m a k:Nat) (D:List Bool),a+m=t.Nodes.length->m+1<=k->D.length=t.Nodes.length->Gd t.Nodes (trD D)->(Rk t.Nodes r->(∀ j,j<t.Nodes.length->r j<q->D[j]?=some true)/\∀ j,j<a->r j<q+1->D[j]?=some true) ->
  ∃ D',z7 (X0 t fuel) k (D,(a:Int))=some D'/\D'.length=t.Nodes.length/\Gd t.Nodes (trD D')/\(Rk t.Nodes r->∀ j,j<t.Nodes.length->r j<q+1->D'[j]?=some true):=by
 intro m
 induction m with
 | zero =>
   intro a k D b1 b2 b3 b4 b5
   obtain ⟨k,rfl⟩:∃ m,k=m+1:=⟨k-1,by omega⟩
   have e:a=t.Nodes.length:=by omega
   subst e
   have:X0 t fuel (D,(t.Nodes.length:Int))=some (.done D):=by
    unfold X0
    simp
   exact ⟨D,by simp only [z7,this,Option.bind_some],b3,b4,fun hr=>(b5 hr).2⟩
 | succ m ih =>
   intro a k D b1 b2 b3 b4 b5
   obtain ⟨k,rfl⟩:∃ m,k=m+1:=⟨k-1,by omega⟩
   have ha:a<t.Nodes.length:=by omega
   have hn:=List.getElem?_eq_getElem ha
   generalize hx:t.Nodes[a]=x at hn
   have hxm:x∈t.Nodes:=List.mem_of_getElem? hn
   have hkx:=hk x hxm
   obtain ⟨A,c1,c2⟩:=d0q t D a fuel x hn b3 hT hkx (by omega)
   have haD:a<D.length:=by omega
   have hDa:=List.getElem?_eq_getElem haD
   generalize D[a]=e at hDa
   have step:X0 t fuel (D,(a:Int))=some (.next (D.set a (e||A),((a+1:Nat):Int))):=by
    unfold X0
    simp only
    rw [k9 ha,c1]
    simp only [cond_true,Option.bind_some,y4 hDa,Int.toNat_natCast,hDa,v7]
    rw [j5 a (by omega)]
    cases e<;>rfl
   simp only [z7,step,Option.bind_some]
   have hset:∀ j,D[j]?=some true->(D.set a (e||A))[j]?=some true:=fun j hj=>by
    by_cases h:a=j
    ·subst h
     rw [List.getElem?_set_self haD]
     rw [hDa] at hj
     cases hj
     rfl
    ·rw [List.getElem?_set_ne h]; exact hj
   refine ih (a+1) k (D.set a (e||A)) (by omega) (by omega) (by simpa using b3) ?_ (fun hr=>⟨fun j hj h=>hset j ((b5 hr).1 j hj h),fun j hj h=>?_⟩)
   ·cases hA:A with
    | false =>
      have:D.set a (e||false)=D:=by
       apply List.ext_getElem?
       intro j
       by_cases h:a=j
       ·subst h; rw [List.getElem?_set_self haD,hDa,Bool.or_false]
       ·rw [List.getElem?_set_ne h]
      rw [this]; exact b4
    | true =>
      refine Gd.add b4 hn (fun hb k hk=>c2.2 hA hb k hk) fun j=>?_
      unfold trD
      by_cases h:a=j
      ·subst h; rw [List.getElem?_set_self haD]; simp
      ·rw [List.getElem?_set_ne h]; exact ⟨.inl,fun h1=>h1.resolve_right (Ne.symm h)⟩
   ·by_cases e1:j=a
    ·subst e1
     rw [List.getElem?_set_self haD]
     have hA:A=true:=c2.1 fun hb kk hkk=>by
      obtain ⟨i,rfl,hi⟩:=a0v (a5k (List.all_eq_true.1 hT x hxm) kk hkk)
      have:=hr j x hn hb _ hkk
      rw [Int.toNat_natCast] at this ⊢
      exact (b5 hr).1 i hi (by omega)
     rw [hA]
     simp
    ·exact hset j ((b5 hr).2 j (by omega) h)
theorem d0L (t:Api_Type)(hk:∀ x∈t.Nodes,x.Kids.length<=1100000/\x.Fields.length<=1100000)(hN:t.Nodes.length<=1100000)(fuel:Nat)(hf:1100001<=fuel):a0Z fuel t=some (if inR t.Nodes.length t.Root&&a7c t.Nodes then (if a6W t.Nodes then 0 else 3) else 1):=by
 have l1:z7 (a2m t) (t.Nodes.length+1) 0=some (if t.Nodes.all (V4 t.Nodes.length)=true then .inl () else .inr 1):=by
  refine J4 t.Nodes (V4 t.Nodes.length) (fun i=>(i:Int)) () 1 ?_ ?_
  ·intro i x hx
   have hi:i<t.Nodes.length:=(List.getElem?_eq_some_iff.1 hx).1
   obtain ⟨hk1,hk2⟩:=hk x (List.mem_of_getElem? hx)
   unfold a2m
   rw [k9 hi,y4 hx]
   simp only [cond_true,Option.bind_some,v7]
   rw [c3b t x (by omega) (by omega),j5 i (by omega)]
   cases V4 t.Nodes.length x<;>rfl
  ·unfold a2m
   simp
 unfold a0Z
 rw [b1T,w4,l1]
 simp only [Option.bind_some]
 cases inR t.Nodes.length t.Root
 ·rfl
 show _=some (if a7c t.Nodes=true then (if a6W t.Nodes then (0:Int) else 3) else 1)
 cases hA:a7c t.Nodes with
 | false =>
   have hA':t.Nodes.all (V4 t.Nodes.length)=false:=hA
   rw [hA']
   rfl
 | true =>
   have hA':t.Nodes.all (V4 t.Nodes.length)=true:=hA
   rw [hA']
   simp only [Bool.not_true,cond_false,if_true,Option.bind_some,j9]
   have e0:a6R (t.Nodes.length:Int) (t.Nodes.length:Int) 1=some t.Nodes.length:=by
    unfold a6R
    have:(decide (0<=(t.Nodes.length:Int))&&decide ((t.Nodes.length:Int)<=(t.Nodes.length:Int))&&decide ((t.Nodes.length:Int)*((1:Nat):Int)<=140737488355328))=true:=by
     simp; omega
    rw [this]
    simp
   rw [e0]
   simp only [Option.bind_some]
   obtain ⟨r,hrr⟩:∃ r,a6W t.Nodes=true->Rk t.Nodes r/\∀ i,i<t.Nodes.length->r i<t.Nodes.length:=by
    cases hA2:a6W t.Nodes with
    | false=>exact ⟨fun _=>0,fun h=>by cases h⟩
    | true =>
      obtain ⟨r,h⟩:=(b1W.1 hA2).small hA
      exact ⟨r,fun _=>h⟩
   have key:∀ (m q k:Nat) (D:List Bool),q+m=t.Nodes.length->m+1<=k->D.length=t.Nodes.length->Gd t.Nodes (trD D)->(Rk t.Nodes r->∀ j,j<t.Nodes.length->r j<q->D[j]?=some true) ->
    ∃ D',z7 (W8 t fuel) k (D,(q:Int))=some D'/\D'.length=t.Nodes.length/\Gd t.Nodes (trD D')/\(Rk t.Nodes r->∀ j,j<t.Nodes.length->r j<t.Nodes.length->D'[j]?=some true):=by
    intro m
    induction m with
    | zero =>
      intro q k D b1 b2 b3 b4 b5
      obtain ⟨k,rfl⟩:∃ m,k=m+1:=⟨k-1,by omega⟩
      have e:q=t.Nodes.length:=by omega
      subst e
      have:W8 t fuel (D,(t.Nodes.length:Int))=some (.done D):=by
       unfold W8
       simp
      exact ⟨D,by simp only [z7,this,Option.bind_some],b3,b4,b5⟩
    | succ m ih =>
      intro q k D b1 b2 b3 b4 b5
      obtain ⟨k,rfl⟩:∃ m,k=m+1:=⟨k-1,by omega⟩
      obtain ⟨D',c1,c2,c3,c4⟩:=c81 t hA (fun x hx=>(hk x hx).1) hN fuel hf r q t.Nodes.length 0 (t.Nodes.length+1) D (by omega) (Nat.le_refl _) b3 b4 (fun hr=>⟨b5 hr,fun j hj=>by omega⟩)
      have c1':z7 (X0 t fuel) (t.Nodes.length+1) (D,0)=some D':=c1
      have step:W8 t fuel (D,(q:Int))=some (.next (D',((q+1:Nat):Int))):=by
       unfold W8
       simp only
       rw [k9 (show q<t.Nodes.length by omega),w4,c1']
       simp only [cond_true,Option.bind_some,v7]
       rw [j5 q (by omega)]
      simp only [z7,step,Option.bind_some]
      exact ih (q+1) k D' (by omega) (by omega) c2 c3 c4
   have hrep:∀ (j:Nat),(List.replicate t.Nodes.length false)[j]?≠some true:=fun j h=>by
    rw [List.getElem?_replicate] at h
    split at h<;>cases h
   obtain ⟨D,c1,c2,c3,c4⟩:=key t.Nodes.length 0 (t.Nodes.length+1) (List.replicate t.Nodes.length false) (by omega) (Nat.le_refl _) (by simp) ⟨fun _=>0,fun i x hi=>absurd hi (hrep i)⟩ (fun _ j hj h=>by omega)
   have c1':z7 (W8 t fuel) (t.Nodes.length+1) (List.replicate t.Nodes.length false,0)=some D:=c1
   rw [c1']
   simp only [Option.bind_some]
   have hall:D.all (fun b=>b)=a6W t.Nodes:=by
    rw [Bool.eq_iff_iff,List.all_eq_true]
    constructor
    ·intro h
     refine b1W.2 (c3.acy fun j hj=>?_)
     have hj':j<D.length:=by omega
     unfold trD
     rw [List.getElem?_eq_getElem hj',h _ (List.getElem_mem hj')]
    ·intro h b hb
     obtain ⟨j,hj,rfl⟩:=List.getElem_of_mem hb
     have:=c4 (hrr h).1 j (by omega) ((hrr h).2 j (by omega))
     rw [List.getElem?_eq_getElem hj] at this
     simpa using this
   have l5:=J4 (step:=a08) D (fun b=>b) (fun i=>(D,(i:Int))) D ((3:Int),D) (fun i x hx=>by
    have hi:i<D.length:=(List.getElem?_eq_some_iff.1 hx).1
    unfold a08
    simp only
    rw [k9 hi,y4 hx]
    simp only [cond_true,Option.bind_some,Int.toNat_natCast,hx,v7]
    rw [j5 i (by omega)]
    cases x<;>rfl) (by
    unfold a08
    simp)
   rw [hall] at l5
   have l5':z7 a08 (D.length+1) (D,0)=some (if a6W t.Nodes=true then .inl D else .inr ((3:Int),D)):=l5
   rw [w4,l5']
   cases a6W t.Nodes<;>rfl
theorem d1f (t:Api_Type)(hO:c3O t.Nodes)(hk:∀ x∈t.Nodes,x.Kids.length<=1100000/\x.Fields.length<=1100000)(hN:t.Nodes.length<=1100000)(fuel:Nat)(hf:1100001<=fuel):a0Z fuel t=some (if inR t.Nodes.length t.Root&&a7c t.Nodes then 0 else 1):=by
 rw [d0L t hk hN fuel hf]
 cases hA:a7c t.Nodes with
 | false=>rw [Bool.and_false]; rfl
 | true=>rw [hO.acy hA]; rfl
end Go.Pl
end
section
namespace Go.Pl
open Go Go.RowKit Go.Sx Go.Qx
structure GN (N i:Nat)(x:Api_TypeNode):Prop where
 ok:V4 N x=true
 ord:isB x=true->∀ k∈x.Kids,(i:Int)<k
 kids:x.Kids.length<=4
 text:x.Text.size<=5
 flds:x.Fields.length<=3
 keys:∀ f∈x.Fields,a6x f.Key_<=8
 rng : -9223372036854775808<=x.Lo/\x.Lo<=9223372036854775807 /\ -9223372036854775808<=x.Hi/\x.Hi<=9223372036854775807
theorem b5v {N M:Nat}(h:N<=M){k:Int}(hk:inR N k=true):inR M k=true:=by
 unfold inR at *
 simp only [Bool.and_eq_true,decide_eq_true_eq] at *
 omega
theorem c38 {α:Type}{p q:α->Bool}{l:List α}(h:∀ x,p x=true->q x=true)(k:l.all p=true):l.all q=true:=List.all_eq_true.2 fun x hx=>h x (List.all_eq_true.1 k x hx)
theorem c6m {N M:Nat}(h:N<=M){x:Api_TypeNode}(hx:V4 N x=true):V4 M x=true:=by
 unfold V4 at *
 simp only [Bool.and_eq_true] at *
 refine ⟨c38 (fun k=>b5v h) hx.1,hx.2.1,hx.2.2.1,hx.2.2.2.1,?_⟩
 have hk:=hx.2.2.2.2
 unfold a3b at *
 split<;>rename_i h3
 ·rwa [if_pos h3] at hk
 rw [if_neg h3] at hk
 split<;>rename_i h4
 ·rwa [if_pos h4] at hk
 rw [if_neg h4] at hk
 split<;>rename_i h6
 ·rwa [if_pos h6] at hk
 rw [if_neg h6] at hk
 split<;>rename_i h19
 ·rwa [if_pos h19] at hk
 rw [if_neg h19] at hk
 split<;>rename_i hs
 ·rwa [if_pos hs] at hk
 rw [if_neg hs] at hk
 split<;>rename_i h10
 ·rwa [if_pos h10] at hk
 rw [if_neg h10] at hk
 split<;>rename_i h12
 ·rwa [if_pos h12] at hk
 rw [if_neg h12] at hk
 split<;>rename_i h14
 ·rwa [if_pos h14] at hk
 rw [if_neg h14] at hk
 split<;>rename_i h16
 ·rwa [if_pos h16] at hk
 rw [if_neg h16] at hk
 split<;>rename_i h18
 ·rwa [if_pos h18] at hk
 rw [if_neg h18] at hk
 split<;>rename_i h13
 ·rw [if_pos h13] at hk
  unfold a2F at *
  simp only [Bool.and_eq_true] at *
  exact ⟨⟨hk.1.1,hk.1.2.1,c38 (fun f=>b5v h) hk.1.2.2⟩,hk.2.1,b5v h hk.2.2.1,b5v h hk.2.2.2⟩
 ·rwa [if_neg h13] at hk
theorem GN.mono {N M i:Nat}{x:Api_TypeNode}(h:GN N i x)(k:N<=M):GN M i x:=⟨c6m k h.ok,h.ord,h.kids,h.text,h.flds,h.keys,h.rng⟩
abbrev b9T (k:Int)(l:List Int):Api_TypeNode:=Api_TypeNode.mk k 0 0 (⟨#[]⟩:ByteArray) l ([]:List Api_Field) (0,0)
abbrev d2D (k:Int)(s:ByteArray):Api_TypeNode:=Api_TypeNode.mk k 0 0 s ([]:List Int) ([]:List Api_Field) (0,0)
theorem b1E {N i:Nat}{k:Int}{l:List Int}(hl:l.all (inR N)=true)(h4:l.length<=4)(hk:a3b N (b9T k l)=true)(ho:k=16\/k=17\/k=18->∀ x∈l,(i:Int)<x):GN N i (b9T k l):=by
 refine ⟨?_,fun hb=>ho ?_,h4,by show (⟨#[]⟩:ByteArray).size<=5; decide,by show (0:Nat)<=3; omega,(fun f hf=>by cases hf),by show (-9223372036854775808:Int)<=0/\(0:Int)<=9223372036854775807/\(-9223372036854775808:Int)<=0/\(0:Int)<=9223372036854775807; decide⟩
 ·unfold V4
  rw [hk]
  simp [hl,a6Z,a6N]
 ·unfold isB at hb
  simp at hb
  omega
theorem c3W {N i:Nat}{k:Int}{s:ByteArray}(hs:s.size<=5)(hk:(k=4)\/(k=6/\a4D s=true)\/(k=19/\a6e s=true)):GN N i (d2D k s):=by
 refine ⟨?_,fun hb=>?_,by show (0:Nat)<=4; omega,hs,by show (0:Nat)<=3; omega,(fun f hf=>by cases hf),by show (-9223372036854775808:Int)<=0/\(0:Int)<=9223372036854775807/\(-9223372036854775808:Int)<=0/\(0:Int)<=9223372036854775807; decide⟩
 ·have h64:(s.size:Int)<=64:=by omega
  rcases hk with rfl | ⟨rfl,h⟩ | ⟨rfl,h⟩
  ·simp [V4,a3b,a6N,h64]
  ·simp [V4,a3b,a6N,h]
  ·simp [V4,a3b,a6N,h]
 ·intro x hx; cases hx
section
variable {L:List Int}
theorem b7I {γ σ τ:Type}{step:σ->Option (Fl σ τ)}(pack:γ->Int->Semtypebase_Source->σ)(out:γ->Semtypebase_Source->τ)(Inv:Nat->γ->Prop)(J:Nat)
 (hst:∀ (j:Nat) (g:γ) (s:Semtypebase_Source),j<J->Inv j g->OS L s->∃ g' s',step (pack g (j:Int) s)=some (.next (pack g' ((j+1:Nat):Int) s'))/\OS L s'/\Inv (j+1) g')
 (hend:∀ g s,step (pack g (J:Int) s)=some (.done (out g s))) :
 ∀ (n j k:Nat) (g:γ) (s:Semtypebase_Source),j+n=J->n+1<=k->Inv j g->OS L s->∃ g' s',z7 step k (pack g (j:Int) s)=some (out g' s')/\OS L s'/\Inv J g':=by
 intro n
 induction n with
 | zero =>
   intro j k g s hJ hk hI hs
   obtain ⟨k,rfl⟩:∃ m,k=m+1:=⟨k-1,by omega⟩
   have e:j=J:=by omega
   subst e
   exact ⟨g,s,by have:=hend g s; simp [z7,this],hs,hI⟩
 | succ n ih =>
   intro j k g s hJ hk hI hs
   obtain ⟨k,rfl⟩:∃ m,k=m+1:=⟨k-1,by omega⟩
   obtain ⟨g1,s1,e,hs1,hI1⟩:=hst j g s (by omega) hI hs
   obtain ⟨g2,s2,e2,hs2,hI2⟩:=ih (j+1) k g1 s1 (by omega) (by omega) hI1 hs1
   refine ⟨g2,s2,?_,hs2,hI2⟩
   simp only [z7,e,Option.bind_some]
   exact e2
theorem c4q (hL:L.length<=4194304){s:Semtypebase_Source}(h:OS L s)(m i N:Nat)(hm:m<=4)(hi:i<N)(hN:N<=100) :
 ∃ l t,w3 s (m:Int) (i:Int) (N:Int)=some (l,t)/\OS L t/\l.length=m/\∀ k∈l,(i:Int)<=k/\k<(N:Int):=by
 unfold w3
 obtain ⟨g,s',e,hs',h1,h2⟩:=a9X (γ:=List Int) (L:=L) (step:=a1h (i:Int) (N:Int)) (fun g j s=>(j,g,s)) (fun g s=>(g,s)) (fun j g=>g.length=j/\∀ k∈g,(i:Int)<=k/\k<(N:Int)) m
  (fun j n g s hj hn hI hs=>by
    obtain ⟨x,t,e,ht,a,b⟩:=Z9 hL hs (n:=w64 ((N:Int)-(i:Int))) (by rw [K2 (by omega) (by omega)]; omega) (by rw [K2 (by omega) (by omega)]; omega)
    rw [K2 (by omega) (by omega)] at b
    have hw:w64 ((i:Int)+x)=(i:Int)+x:=K2 (by omega) (by omega)
    refine ⟨g++[(i:Int)+x],t,?_,ht,?_,?_⟩
    ·unfold a1h
     simp only [v7]
     rw [show decide (0<((n+1:Nat):Int))=true from decide_eq_true (by omega),e]
     simp only [cond_true,Option.bind_some,hw]
     rw [Z2 (by simp only [List.length_cons,List.length_nil]; have:=hI.1; omega),show w64 (((n+1:Nat):Int)-1)=(n:Int) by rw [K2 (by omega) (by omega)]; omega]
     rfl
    ·simp [hI.1]
    ·intro k hk
     rcases List.mem_append.1 hk with hk | hk
     ·exact hI.2 k hk
     ·rw [List.mem_singleton.1 hk]; omega) (fun g s=>by
    unfold a1h
    rfl) m 0 ((m:Int).toNat+2) [] s (by omega) (by omega) ⟨rfl,fun k hk=>by cases hk⟩ h
 rw [e]
 exact ⟨g,s',rfl,hs',by simpa using h1,h2⟩
theorem a88 {N:Nat}{k:Int}(h0:0<=k)(h1:k<(N:Int)):inR N k=true:=by
 unfold inR
 simp [h0,h1]
theorem b1u {N i:Nat}{l:List Int}(h:∀ k∈l,(i:Int)<=k/\k<(N:Int)):l.all (inR N)=true:=List.all_eq_true.2 fun k hk=>by
 have:=h k hk
 exact a88 (by omega) this.2
abbrev d1M:Key:=Key.mk 0 ⟨#[97]⟩
abbrev d1j:Key:=Key.mk 0 ⟨#[98]⟩
abbrev d1h:Key:=Key.mk 1 ⟨#[115]⟩
abbrev d2W:Type:=Int×Int×Int×ByteArray×(List Int)×(List Api_Field)×Int×Int
abbrev b0C (F:List Api_Field)(a b:Int):d2W:=(13,0,0,(⟨#[]⟩:ByteArray),[],F,a,b)
theorem b6V (hL:L.length<=4194304){s:Semtypebase_Source}(h:OS L s)(N j:Nat)(hN:1<=N)(hN2:N<=100)(hj:j<3)(K:Key)(hK:[d1M,d1j,d1h][j]?=some K)(F:List Api_Field)(hF:F.length<=j)(a b:Int) :
 ∃ O t,W7 (N:Int) ((j:Int),s,b0C F a b)=some (.next (((j+1:Nat):Int),t,b0C (F++O) a b))/\OS L t/\(O=[]\/∃ n o,O=[Api_Field.mk K n o]/\inR N n=true):=by
 obtain ⟨x,t,e,ht,_,_⟩:=Z9 hL h (n:=2) (by omega) (by omega)
 unfold W7
 simp only [v7]
 rw [show decide ((j:Int)<3)=true from decide_eq_true (by omega),e]
 simp only [cond_true,Option.bind_some]
 rw [j5 j (by omega)]
 cases hx:x==1
 ·exact ⟨[],t,by simp only [cond_false,Option.bind_some,List.append_nil],ht,.inl rfl⟩
 ·simp only [cond_true]
  rw [y4 hK]
  obtain ⟨n,t2,e2,ht2,n0,n1⟩:=Z9 hL ht (n:=(N:Int)) (by omega) (by omega)
  obtain ⟨o,t3,e3,ht3,_,_⟩:=Z9 hL ht2 (n:=2) (by omega) (by omega)
  simp only [Option.bind_some,e2,e3]
  rw [Z2 (by simp only [List.length_cons,List.length_nil]; omega)]
  exact ⟨[Api_Field.mk K n (o==1)],t3,rfl,ht3,.inr ⟨n,_,rfl,a88 n0 n1⟩⟩
theorem c4N (hL:L.length<=4194304){s:Semtypebase_Source}(h:OS L s)(N i:Nat)(hN:1<=N)(hN2:N<=100):∃ x t,a16 s (N:Int)=some (x,t)/\OS L t/\GN N i x:=by
 obtain ⟨a,t1,e1,ht1,a0,a1⟩:=Z9 hL h (n:=(N:Int)) (by omega) (by omega)
 obtain ⟨b,t2,e2,ht2,b0,b1⟩:=Z9 hL ht1 (n:=(N:Int)) (by omega) (by omega)
 obtain ⟨O0,t3,e3,ht3,h0⟩:=b6V hL ht2 N 0 hN hN2 (by omega) d1M rfl [] (by simp) a b
 have l0:O0.length<=1:=by rcases h0 with rfl | ⟨n,o,rfl,_⟩<;>simp
 obtain ⟨O1,t4,e4,ht4,h1⟩:=b6V hL ht3 N 1 hN hN2 (by omega) d1j rfl ([]++O0) (by simpa using l0) a b
 have l1:O1.length<=1:=by rcases h1 with rfl | ⟨n,o,rfl,_⟩<;>simp
 obtain ⟨O2,t5,e5,ht5,h2⟩:=b6V hL ht4 N 2 hN hN2 (by omega) d1h rfl (([]++O0)++O1) (by simp; omega) a b
 have e6:W7 (N:Int) (((2+1:Nat):Int),t5,b0C ((([]++O0)++O1)++O2) a b)=some (.done (t5,b0C ((([]++O0)++O1)++O2) a b)):=rfl
 refine ⟨Api_TypeNode.mk 13 0 0 (⟨#[]⟩:ByteArray) [] (O0++O1++O2) (a,b),t5,?_,ht5,?_⟩
 ·unfold a16
  rw [e1]
  simp only [Option.bind_some]
  rw [e2]
  simp only [Option.bind_some]
  have ei:z7 (W7 (N:Int)) ((3:Int).toNat+1) (0,t2,(13,0,0,(⟨#[]⟩:ByteArray),[],[],a,b))=some (t5,b0C ((([]++O0)++O1)++O2) a b):=by
   show z7 (W7 (N:Int)) (3+1) (((0:Nat):Int),t2,b0C [] a b)=_
   simp only [z7,e3,e4,e5,e6,Option.bind_some]
  rw [ei]
  rfl
 ·refine ⟨?_,fun hb=>absurd hb (show ¬ (false=true) by simp),by show (0:Nat)<=4; omega,by show (⟨#[]⟩:ByteArray).size<=5; decide,?_,?_,by show (-9223372036854775808:Int)<=0/\(0:Int)<=9223372036854775807/\(-9223372036854775808:Int)<=0/\(0:Int)<=9223372036854775807; decide⟩
  ·have ha:=a88 (N:=N) a0 a1
   have hb:=a88 (N:=N) b0 b1
   have hF:a2F N (O0++O1++O2)=true:=by
    unfold a2F
    rw [Bool.and_eq_true,Bool.and_eq_true]
    refine ⟨?_,?_,?_⟩
    ·rcases h0 with rfl | ⟨n,o,rfl,_⟩<;>rcases h1 with rfl | ⟨n',o',rfl,_⟩<;>rcases h2 with rfl | ⟨n'',o'',rfl,_⟩<;>kernel_rfl
    ·rcases h0 with rfl | ⟨n,o,rfl,_⟩<;>rcases h1 with rfl | ⟨n',o',rfl,_⟩<;>rcases h2 with rfl | ⟨n'',o'',rfl,_⟩<;>kernel_rfl
    ·rcases h0 with rfl | ⟨n,o,rfl,q0⟩<;>rcases h1 with rfl | ⟨n',o',rfl,q1⟩<;>rcases h2 with rfl | ⟨n'',o'',rfl,q2⟩<;>simp_all
   unfold V4 a3b
   simp only [hF,ha,hb,a6Z]
   simp
  ·show (O0++O1++O2).length<=3
   have l2:O2.length<=1:=by rcases h2 with rfl | ⟨n,o,rfl,_⟩<;>simp
   simp only [List.length_append]
   omega
  ·intro f hf
   have hf:f∈O0++O1++O2:=hf
   have one:∀ {O:List Api_Field} {K:Key},(O=[]\/∃ n o,O=[Api_Field.mk K n o]/\inR N n=true)->f∈O->f.Key_=K:=fun hO hm=>by
    rcases hO with rfl | ⟨n,o,rfl,_⟩
    ·cases hm
    ·rw [List.mem_singleton.1 hm]
   rcases List.mem_append.1 hf with hf | hf
   ·rcases List.mem_append.1 hf with hf | hf
    ·rw [one h0 hf]; decide
    ·rw [one h1 hf]; decide
   ·rw [one h2 hf]; decide
end
end Go.Pl
namespace Go.Pl
open Go Go.RowKit Go.Sx Go.Qx
theorem b69 {N i:Nat}{k:Int}(hk:k=1\/k=2\/k=5\/k=7\/k=8\/k=9\/k=11\/k=15):GN N i (b9T k []) :=
 b1E rfl (by simp) (by rcases hk with rfl | rfl | rfl | rfl | rfl | rfl | rfl | rfl<;>rfl) (fun _ x hx=>by cases hx)
theorem d1E {N i:Nat}{lo hi:Int}(h:lo<=hi)(h2 : -9223372036854775808<=lo/\lo<=9223372036854775807 /\ -9223372036854775808<=hi/\hi<=9223372036854775807):GN N i (Api_TypeNode.mk 3 lo hi (⟨#[]⟩:ByteArray) ([]:List Int) ([]:List Api_Field) (0,0)) :=
 ⟨by simp [V4,a3b,a6N,a6Z,h],(fun _ x hx=>by cases hx),(by show (0:Nat)<=4; omega),(by show (⟨#[]⟩:ByteArray).size<=5; decide),(by show (0:Nat)<=3; omega),(fun f hf=>by cases hf),h2⟩
theorem c7L:b8s.all (fun x=>a6e x&&decide (x.size<=5))=true:=by kernel_rfl
section
variable {L:List Int}
theorem b1I {x:Int}(h:0<=x):∃ m:Nat,x=(m:Int):=⟨x.toNat,by omega⟩
theorem c71 (hL:L.length<=4194304){s:Semtypebase_Source}(h:OS L s)(N i:Nat)(hi:i<N)(hN2:N<=100):∃ x t,a2N s (i:Int) (N:Int)=some (x,t)/\OS L t/\GN N i x:=by
 have hw:w64 ((N:Int)-1)=(N:Int)-1:=K2 (by omega) (by omega)
 have hwi:=j5 i (by omega)
 obtain ⟨b,hb,hlast,hb18⟩:∃ b:Int,(bif ((i:Int)==(wr .i64 ((N:Int)-1))) then (some 14:Option Int) else some 18)=some b/\(14<b->i+1<N)/\(b=14\/b=18):=by
  by_cases e:i+1=N
  ·refine ⟨14,?_,fun h=>by omega,.inl rfl⟩
   have:((i:Int)==(N:Int)-1)=true:=by simp; omega
   simp only [v7,hw,this,cond_true]
  ·refine ⟨18,?_,fun _=>by omega,.inr rfl⟩
   have:((i:Int)==(N:Int)-1)=false:=by simp; omega
   simp only [v7,hw,this,cond_false]
 unfold a2N
 rw [hb]
 simp only [Option.bind_some]
 obtain ⟨c,t,e,ht,c0,c1⟩:=Z9 hL h (n:=b) (by omega) (by omega)
 rw [e]
 simp only [Option.bind_some]
 have ix:∀ {s:Semtypebase_Source},OS L s->∀ (m f:Nat),m<=4->f<N->∃ l t,w3 s (m:Int) (f:Int) (N:Int)=some (l,t)/\OS L t/\l.length=m/\∀ k∈l,(f:Int)<=k/\k<(N:Int):=fun hs m f hm hf=>c4q hL hs m f N hm hf hN2
 have hc:c=0\/c=1\/c=2\/c=3\/c=4\/c=5\/c=6\/c=7\/c=8\/c=9\/c=10\/c=11\/c=12\/c=13\/c=14\/c=15\/c=16\/c=17:=by omega
 have tup:∀ {s:Semtypebase_Source},OS L s->∃ x t,(Option.bind (z8 s 3) fun r19=>Option.bind (w3 r19.2 r19.1 0 (N:Int)) fun r20=>some (b9T 10 r20.1,r20.2))=some (x,t)/\OS L t/\GN N i x:=fun hs=>by
  obtain ⟨m,t2,e2,ht2,m0,m1⟩:=Z9 hL hs (n:=3) (by omega) (by omega)
  obtain ⟨m,rfl⟩:=b1I m0
  obtain ⟨l,t3,e3,ht3,hl,hr⟩:=ix ht2 m 0 (by omega) (by omega)
  rw [e2]
  simp only [Option.bind_some]
  have e3':w3 t2 (m:Int) 0 (N:Int)=some (l,t3):=e3
  rw [e3']
  refine ⟨_,t3,rfl,ht3,b1E (l:=l) (b1u hr) (show l.length<=4 by omega) ?_ (fun h=>by omega)⟩
  show decide ((l.length:Int)<=4)=true
  exact decide_eq_true (by omega)
 have fun_:∀ {s:Semtypebase_Source},OS L s->∃ x t,(Option.bind (z8 s 3) fun r24=>Option.bind (w3 r24.2 (w64 (1+r24.1)) 0 (N:Int)) fun r25=>some (b9T 14 r25.1,r25.2))=some (x,t)/\OS L t/\GN N i x:=fun hs=>by
  obtain ⟨m,t2,e2,ht2,m0,m1⟩:=Z9 hL hs (n:=3) (by omega) (by omega)
  obtain ⟨m,rfl⟩:=b1I m0
  obtain ⟨l,t3,e3,ht3,hl,hr⟩:=ix ht2 (m+1) 0 (by omega) (by omega)
  rw [e2]
  simp only [Option.bind_some]
  have e3':w3 t2 (w64 (1+(m:Int))) 0 (N:Int)=some (l,t3):=by
   rw [K2 (by omega) (by omega),show 1+(m:Int)=((m+1:Nat):Int) by omega]
   exact e3
  rw [e3']
  refine ⟨_,t3,rfl,ht3,b1E (l:=l) (b1u hr) (show l.length<=4 by omega) ?_ (fun h=>by omega)⟩
  show (decide (1<=(l.length:Int))&&decide ((l.length:Int)<=5))=true
  rw [Bool.and_eq_true]
  exact ⟨decide_eq_true (by omega),decide_eq_true (by omega)⟩
 have uni:i+1<N->∀ {s:Semtypebase_Source},OS L s->∃ x t,(Option.bind (z8 s 2) fun r28=>Option.bind (w3 r28.2 (w64 (2+r28.1)) (w64 ((i:Int)+1)) (N:Int)) fun r29=>some (b9T 16 r29.1,r29.2))=some (x,t)/\OS L t/\GN N i x:=fun hlt s hs=>by
  obtain ⟨m,t2,e2,ht2,m0,m1⟩:=Z9 hL hs (n:=2) (by omega) (by omega)
  obtain ⟨m,rfl⟩:=b1I m0
  obtain ⟨l,t3,e3,ht3,hl,hr⟩:=ix ht2 (m+2) (i+1) (by omega) hlt
  rw [e2]
  simp only [Option.bind_some]
  have e3':w3 t2 (w64 (2+(m:Int))) (w64 ((i:Int)+1)) (N:Int)=some (l,t3):=by
   rw [K2 (x:=2+(m:Int)) (by omega) (by omega),hwi,show 2+(m:Int)=((m+2:Nat):Int) by omega]
   exact e3
  rw [e3']
  refine ⟨_,t3,rfl,ht3,b1E (l:=l) (b1u hr) (show l.length<=4 by omega) ?_ (fun _ x hx=>by have:=hr x hx; omega)⟩
  show decide (1<=(l.length:Int))=true
  exact decide_eq_true (by omega)
 rcases hc with rfl | rfl | rfl | rfl | rfl | rfl | rfl | rfl | rfl | rfl | rfl | rfl | rfl | rfl | rfl | rfl | rfl | rfl<;>simp only [Int.reduceBEq,cond_true,cond_false,Option.bind_some,v7]
 ·obtain ⟨a,t2,e2,ht2,a0,a1⟩:=Z9 hL ht (n:=5) (by omega) (by omega)
  obtain ⟨d,t3,e3,ht3,d0,d1⟩:=Z9 hL ht2 (n:=w64 (5-a)) (by rw [K2 (by omega) (by omega)]; omega) (by rw [K2 (by omega) (by omega)]; omega)
  rw [K2 (x:=5-a) (by omega) (by omega)] at d1
  rw [e2]
  simp only [Option.bind_some]
  rw [e3]
  simp only [Option.bind_some]
  rw [K2 (x:=a+d) (by omega) (by omega)]
  have ha:a=0\/a=1\/a=2\/a=3\/a=4:=by omega
  have hd:d=0\/d=1\/d=2\/d=3\/d=4:=by omega
  rcases ha with rfl | rfl | rfl | rfl | rfl<;>rcases hd with rfl | rfl | rfl | rfl | rfl<;>first | (exfalso; omega) | exact ⟨_,t3,rfl,ht3,d1E (by decide) (by decide)⟩
 ·obtain ⟨x,t2,e2,ht2,hx⟩:=a9Z hL ht
  have hf:=List.all_eq_true.1 b08 x hx
  simp only [Bool.and_eq_true,decide_eq_true_eq] at hf
  rw [e2]
  exact ⟨_,t2,rfl,ht2,c3W hf.2 (.inr (.inl ⟨rfl,hf.1⟩))⟩
 ·exact ⟨_,t,rfl,ht,b69 (by omega)⟩
 ·obtain ⟨x,t2,e2,ht2,hx⟩:=b8g hL ht
  have hf:=List.all_eq_true.1 b1p x hx
  simp only [decide_eq_true_eq] at hf
  rw [e2]
  exact ⟨_,t2,rfl,ht2,c3W hf (.inl rfl)⟩
 ·obtain ⟨a,t2,e2,ht2,a0,a1⟩:=Z9 hL ht (n:=4) (by omega) (by omega)
  rw [e2]
  have ha:a=0\/a=1\/a=2\/a=3:=by omega
  rcases ha with rfl | rfl | rfl | rfl<;>exact ⟨_,t2,rfl,ht2,b69 (by omega)⟩
 ·exact ⟨_,t,rfl,ht,b69 (by omega)⟩
 ·obtain ⟨a,t2,e2,ht2,a0,a1⟩:=Z9 hL ht (n:=2) (by omega) (by omega)
  rw [e2]
  have ha:a=0\/a=1:=by omega
  rcases ha with rfl | rfl<;>exact ⟨_,t2,rfl,ht2,b69 (by omega)⟩
 ·obtain ⟨x,t2,e2,ht2,hx⟩:=b9m hL ht
  have hf:=List.all_eq_true.1 c7L x hx
  simp only [Bool.and_eq_true,decide_eq_true_eq] at hf
  rw [e2]
  exact ⟨_,t2,rfl,ht2,c3W hf.2 (.inr (.inr ⟨rfl,hf.1⟩))⟩
 ·exact tup ht
 ·exact tup ht
 ·obtain ⟨l,t3,e3,ht3,hl,hr⟩:=ix ht 2 0 (by omega) (by omega)
  have e3':w3 t 2 0 (N:Int)=some (l,t3):=e3
  rw [e3']
  refine ⟨_,t3,rfl,ht3,b1E (l:=l) (b1u hr) (show l.length<=4 by omega) ?_ (fun h=>by omega)⟩
  show ((l.length:Int)==2)=true
  simp [hl]
 ·obtain ⟨x,t2,e2,ht2,hg⟩:=c4N hL ht N i (by omega) hN2
  rw [e2]
  exact ⟨x,t2,rfl,ht2,hg⟩
 ·exact fun_ ht
 ·exact fun_ ht
 ·have hlt:=hlast (by omega)
  obtain ⟨l,t3,e3,ht3,hl,hr⟩:=ix ht 1 (i+1) (by omega) hlt
  have e3':w3 t 1 (w64 ((i:Int)+1)) (N:Int)=some (l,t3):=by rw [hwi]; exact e3
  rw [e3']
  refine ⟨_,t3,rfl,ht3,b1E (l:=l) (b1u hr) (show l.length<=4 by omega) ?_ (fun _ x hx=>by have:=hr x hx; omega)⟩
  show ((l.length:Int)==1)=true
  simp [hl]
 ·have hlt:=hlast (by omega)
  obtain ⟨l,t3,e3,ht3,hl,hr⟩:=ix ht 2 (i+1) (by omega) hlt
  have e3':w3 t 2 (w64 ((i:Int)+1)) (N:Int)=some (l,t3):=by rw [hwi]; exact e3
  rw [e3']
  refine ⟨_,t3,rfl,ht3,b1E (l:=l) (b1u hr) (show l.length<=4 by omega) ?_ (fun _ x hx=>by have:=hr x hx; omega)⟩
  show decide (1<=(l.length:Int))=true
  exact decide_eq_true (by omega)
 ·exact uni (hlast (by omega)) ht
 ·exact uni (hlast (by omega)) ht
def GNs (N:Nat)(ns:List Api_TypeNode):Prop:=∀ (i:Nat) (x:Api_TypeNode),ns[i]?=some x->GN N i x
theorem GNs.snoc {N:Nat}{ns:List Api_TypeNode}{x:Api_TypeNode}(h:GNs N ns)(hx:GN N ns.length x):GNs N (ns++[x]):=fun i y hy=>by
 by_cases hi:i<ns.length
 ·rw [List.getElem?_append_left hi] at hy
  exact h i y hy
 ·have hlt:=(List.getElem?_eq_some_iff.1 hy).1
  simp only [List.length_append,List.length_cons,List.length_nil] at hlt
  have e:i=ns.length:=by omega
  subst e
  simp at hy
  subst hy
  exact hx
theorem c74 (hL:L.length<=4194304){s:Semtypebase_Source}(h:OS L s)(N:Nat)(hN:1<=N)(hN2:N<=100):∃ ns t,a2R s (N:Int)=some ((ns,0),t)/\OS L t/\ns.length=N/\GNs N ns:=by
 unfold a2R
 have hmax:max (N:Int) 1=(N:Int):=by omega
 rw [hmax,Int.toNat_natCast]
 obtain ⟨g,s',e,hs',h1,h2⟩:=b7I (γ:=List Api_TypeNode) (L:=L) (step:=a0W (N:Int)) (fun g j s=>(j,s,(g,0))) (fun g s=>(s,(g,0))) (fun j g=>g.length=j/\GNs N g) N
  (fun j g s hj hI hs=>by
    obtain ⟨x,t,e,ht,hx⟩:=c71 hL hs N j hj hN2
    refine ⟨g++[x],t,?_,ht,by simp [hI.1],hI.2.snoc (by rw [hI.1]; exact hx)⟩
    unfold a0W
    simp only [v7,hmax]
    rw [k9 hj,e]
    simp only [cond_true,Option.bind_some]
    rw [Z2 (by simp only [List.length_cons,List.length_nil]; have:=hI.1; omega),j5 j (by omega)]
    rfl) (fun g s=>by
    unfold a0W
    simp [hmax]) N 0 (N+1) [] s (by omega) (Nat.le_refl _) ⟨rfl,fun i x hx=>by simp at hx⟩ h
 have e':z7 (a0W (N:Int)) (N+1) (0,s,([],0))=some (s',(g,0)):=e
 rw [e']
 exact ⟨g,s',rfl,hs',h1,h2⟩
end
end Go.Pl
end
section
namespace Go.Pl
open Go Go.RowKit Go.Sx Go.Qx
theorem c9G {a b:ByteArray}(h:cS a b=0):a=b:=by
 rcases b7Y a.data.toList b.data.toList with ⟨_,e,_⟩ | ⟨_,_,e⟩ | ⟨_,e,_⟩
 ·have:cS a b = -1:=e
  omega
 ·exact ByteArray.ext (Array.toList_inj.1 e)
 ·have:cS a b=1:=e
  omega
theorem c2H {a b:Key}(h:cK a b=0):a=b:=by
 obtain ⟨k,t⟩:=a
 obtain ⟨k2,t2⟩:=b
 unfold cK tn at h
 simp only at h
 rcases W4 k k2 with ⟨_,e⟩ | ⟨_,e⟩ | ⟨p,e⟩
 ·rw [e] at h; simp at h
 ·rw [e] at h; simp at h
 ·rw [e,if_pos rfl] at h
  rw [p,c9G h]
theorem b6b (a b c:Key)(h1:cK a b<=0)(h2:cK b c<=0):cK a c<=0:=by rw [c2v] at *; exact b9s _ _ _ h1 h2
theorem c5s (a:Key):cK a a=0:=by rw [c2v]; exact c4T _
theorem c1P {a b c:Key}(h1:cK a b<0)(h2:cK b c<=0):cK a c<0:=by
 have h3:=b6b a b c (by omega) h2
 by_cases h:cK a c=0
 ·have:=c2H h
  subst this
  have:=a8t a b
  omega
 ·omega
abbrev ltK (a b:Key):Prop:=cK a b<0
theorem asc_pw:∀ l:List Key,asc cK l=true↔l.Pairwise ltK
 | []=>by simp [asc]
 | [a]=>by simp [asc]
 | a::b::r=>by
   have ih:=asc_pw (b::r)
   simp only [asc,Bool.and_eq_true,decide_eq_true_eq]
   rw [ih,List.pairwise_cons (a:=a)]
   constructor
   ·intro ⟨h1,h2⟩
    refine ⟨fun x hx=>?_,h2⟩
    rcases List.mem_cons.1 hx with rfl | hx
    ·exact h1
    ·have:=(List.pairwise_cons.1 h2).1 x hx
     exact c1P h1 (by unfold ltK at this; omega)
   ·intro ⟨h1,h2⟩
    exact ⟨h1 b (by simp),h2⟩
end Go.Pl
end
section
namespace Go.Pl
open Go Go.RowKit Go.Sx Go.Qx
structure CmpOk {α:Type}(c:α->α->Int):Prop where
 anti:∀ a b,c b a = - c a b
 trans:∀ a b d,c a b<=0->c b d<=0->c a d<=0
 eq0:∀ a b,c a b=0->a=b
theorem cI0 {x y:Int}(h:cI x y=0):x=y:=by
 rcases W4 x y with ⟨_,e⟩ | ⟨_,e⟩ | ⟨p,_⟩
 ·omega
 ·omega
 ·exact p
theorem c6y (a b:ByteArray):cS a b=lx (eS a) (eS b):=by
 have:=pfS a b [] []
 simpa [lx,a9N] using this.symm
theorem d22:CmpOk cS:=⟨fun a b=>by rw [c6y,c6y]; exact b4R _ _,fun a b d h1 h2=>by rw [c6y] at *; exact b9s _ _ _ h1 h2,fun _ _ h=>c9G h⟩
section
variable {α:Type}{c:α->α->Int}(hc:CmpOk c)
include hc
theorem CmpOk.self (a:α):c a a=0:=by have:=hc.anti a a; omega
theorem CmpOk.strict {a b d:α}(h1:c a b<0)(h2:c b d<=0):c a d<0:=by
 have h3:=hc.trans a b d (by omega) h2
 by_cases h:c a d=0
 ·have:=hc.eq0 _ _ h
  subst this
  have:=hc.anti a b
  omega
 ·omega
theorem CmpOk.asc_pw:∀ l:List α,asc c l=true↔l.Pairwise fun a b=>c a b<0
 | []=>by simp [asc]
 | [a]=>by simp [asc]
 | a::b::r=>by
   have ih:=CmpOk.asc_pw (b::r)
   simp only [asc,Bool.and_eq_true,decide_eq_true_eq]
   rw [ih,List.pairwise_cons (a:=a)]
   constructor
   ·intro ⟨h1,h2⟩
    refine ⟨fun x hx=>?_,h2⟩
    rcases List.mem_cons.1 hx with rfl | hx
    ·exact h1
    ·have:=(List.pairwise_cons.1 h2).1 x hx
     exact hc.strict h1 (by omega)
   ·intro ⟨h1,h2⟩
    exact ⟨h1 b (by simp),h2⟩
theorem CmpOk.nodup {l:List α}(h:l.Pairwise fun a b=>c a b<0):l.Nodup:=h.imp fun {a b} h e=>by
 subst e
 have:=hc.self a
 omega
theorem CmpOk.uniq {l m:List α}(h1:asc c l=true)(h2:asc c m=true)(h:∀ x,x∈l↔x∈m):l=m:=by
 have p1:=(hc.asc_pw l).1 h1
 have p2:=(hc.asc_pw m).1 h2
 have hp:=(List.perm_ext_iff_of_nodup (hc.nodup p1) (hc.nodup p2)).2 h
 exact hp.eq_of_pairwise (le:=fun a b=>c a b<0) (fun a b _ _ h1 h2=>by have:=hc.anti a b; omega) p1 p2
omit hc in
def a2v (c:α->α->Int)(out:List α)(x:α):List α :=
 match (out.dropWhile (fun y=>decide (c y x<0))).head? with
 | some y=>if c y x=0 then out else a0a (fun y=>decide (c y x<0)) x out
 | none=>a0a (fun y=>decide (c y x<0)) x out
omit hc in
theorem c2a {p:α->Bool}{x y:α}{out:List α}:y∈a0a p x out↔y=x\/y∈out:=by
 constructor
 ·exact b3k
 ·intro h
  have e:=List.takeWhile_append_dropWhile (p:=p) (l:=out)
  simp only [a0a,List.mem_append,List.mem_singleton]
  rcases h with h | h
  ·exact .inl (.inr h)
  ·rw [<- e] at h
   rcases List.mem_append.1 h with h | h
   ·exact .inl (.inl h)
   ·exact .inr h
theorem c8x {x y:α}{out:List α}:y∈a2v c out x↔y=x\/y∈out:=by
 unfold a2v
 split
 ·rename_i z hz
  split
  ·rename_i h0
   have:=hc.eq0 _ _ h0
   subst this
   have hm:z∈out:=(List.dropWhile_sublist _).subset (List.mem_of_mem_head? hz)
   constructor
   ·exact .inr
   ·rintro (rfl | h)
    ·exact hm
    ·exact h
  ·exact c2a
 ·exact c2a
theorem c8M (out:List α)(x:α)(h:asc c out=true):asc c (a2v c out x)=true:=by
 unfold a2v
 split
 ·rename_i y hy
  split
  ·exact h
  ·rename_i hne
   refine b1z c hc.anti x out h (fun z hz=>?_)
   rw [hy] at hz
   cases hz
   exact hne
 ·rename_i hy
  refine b1z c hc.anti x out h (fun z hz=>?_)
  rw [hy] at hz; cases hz
theorem c9l:∀ (xs out:List α),asc c out=true->asc c (xs.foldl (a2v c) out)=true/\∀ y,y∈xs.foldl (a2v c) out↔y∈out\/y∈xs
 | [],out,h=>⟨h,fun y=>by simp⟩
 | x::r,out,h=>by
   obtain ⟨h1,h2⟩:=c9l r (a2v c out x) (c8M hc out x h)
   refine ⟨h1,fun y=>?_⟩
   rw [List.foldl_cons,h2,c8x hc,List.mem_cons]
   constructor
   ·rintro ((h | h) | h)
    ·exact .inr (.inl h)
    ·exact .inl h
    ·exact .inr (.inr h)
   ·rintro (h | h | h)
    ·exact .inl (.inr h)
    ·exact .inl (.inl h)
    ·exact .inr h
theorem c6q (xs:List α):asc c (xs.foldl (a2v c) [])=true/\∀ y,y∈xs.foldl (a2v c) []↔y∈xs:=by
 obtain ⟨h1,h2⟩:=c9l hc xs [] rfl
 exact ⟨h1,fun y=>by rw [h2]; simp⟩
omit hc in
def dd (r:α->α->Bool):α->List α->List α
 | _,[]=>[]
 | p,x::l=>if r x p=true then dd r x l else x::dd r x l
omit hc in
def a52 (r:α->α->Bool):List α->List α
 | []=>[]
 | x::l=>x::dd r x l
theorem c9s:∀ (l:List α) (p:α),(p::l).Pairwise (fun a b=>¬ c b a<0) ->
 (p::dd (fun x y=>decide (c x y=0)) p l).Pairwise (fun a b=>c a b<0)/\∀ y,y∈p::dd (fun x y=>decide (c x y=0)) p l↔y∈p::l
 | [],p,_=>⟨by simp [dd],fun y=>by simp [dd]⟩
 | x::l,p,h=>by
   have hp:=List.pairwise_cons.1 h
   obtain ⟨h1,h2⟩:=c9s l x hp.2
   simp only [dd]
   by_cases h0:c x p=0
   ·rw [if_pos (by simpa using h0)]
    have:=hc.eq0 _ _ h0
    subst this
    refine ⟨h1,fun y=>?_⟩
    rw [h2]
    simp
   ·rw [if_neg (by simpa using h0)]
    have hlt:c p x<0:=by have:=hp.1 x (by simp); have:=hc.anti p x; omega
    refine ⟨List.pairwise_cons.2 ⟨fun b hb=>?_,h1⟩,fun y=>?_⟩
    ·rcases List.mem_cons.1 hb with rfl | hb
     ·exact hlt
     ·exact hc.strict hlt (by have:=(List.pairwise_cons.1 h1).1 b hb; omega)
    ·rw [List.mem_cons,h2,List.mem_cons (b:=p)]
theorem c3y (l:List α)(h:l.Pairwise fun a b=>¬ c b a<0):asc c (a52 (fun x y=>decide (c x y=0)) l)=true/\∀ y,y∈a52 (fun x y=>decide (c x y=0)) l↔y∈l:=by
 cases l with
 | nil=>exact ⟨rfl,fun y=>Iff.rfl⟩
 | cons p l =>
   obtain ⟨h1,h2⟩:=c9s hc l p h
   exact ⟨(hc.asc_pw _).2 h1,h2⟩
theorem c4F {xs p:List α}(hp:p.Perm xs)(hs:p.Pairwise fun a b=>¬ c b a<0):a52 (fun x y=>decide (c x y=0)) p=xs.foldl (a2v c) []:=by
 obtain ⟨h1,h2⟩:=c3y hc p hs
 obtain ⟨h3,h4⟩:=c6q hc xs
 exact hc.uniq h1 h3 fun y=>by rw [h2,h4,hp.mem_iff]
theorem c89 {xs:List α}(h:asc c xs=true):xs.foldl (a2v c) []=xs:=by
 obtain ⟨h3,h4⟩:=c6q hc xs
 exact hc.uniq h3 h h4
end
section
variable {α:Type}{r:α->α->Bool}
theorem c6x {ok:α->Prop}{step:(Int×Int)×List α->Option (Fl ((Int×Int)×List α) (Int×List α))}(i0 n:Nat)
 (hst:∀ (i k:Nat) (s:List α) (x y:α),ok x->s.length=n->i0+k<n->1<=k->i<i0+k->s[i0+k]?=some x->s[i0+k-1]?=some y ->
   step (((i:Int),(k:Int)),s)=some (.next (if r x y=true then (((i:Int),((k+1:Nat):Int)),s) else ((((i+1:Nat):Int),((k+1:Nat):Int)),s.set i x))))
 (hend:∀ (i:Int) (k:Nat) (s:List α),s.length=n->i0+k=n->step ((i,(k:Int)),s)=some (.done (i,s))) :
 ∀ (m i k:Nat) (s:List α) (y:α) (fuel:Nat),s.length=n->i0+k+m=n->1<=k->i<i0+k->s[i0+k-1]?=some y->m+1<=fuel->(∀ x∈s,ok x) ->
  ∃ s',z7 step fuel (((i:Int),(k:Int)),s)=some (((i+(dd r y (s.drop (i0+k))).length:Nat):Int),s')/\s'.length=n/\s'.take (i+(dd r y (s.drop (i0+k))).length)=s.take i++dd r y (s.drop (i0+k)):=by
 intro m
 induction m with
 | zero =>
   intro i k s y fuel hl hm hk hi hy hf hok
   obtain ⟨fuel,rfl⟩:∃ m,fuel=m+1:=⟨fuel-1,by omega⟩
   have e:s.drop (i0+k)=[]:=List.drop_eq_nil_of_le (by omega)
   rw [e]
   refine ⟨s,?_,hl,?_⟩
   ·simp only [z7,hend (i:Int) k s hl (by omega),Option.bind_some]
    rfl
   ·simp [dd]
 | succ m ih =>
   intro i k s y fuel hl hm hk hi hy hf hok
   obtain ⟨fuel,rfl⟩:∃ m,fuel=m+1:=⟨fuel-1,by omega⟩
   have hlt:i0+k<s.length:=by omega
   have hx:=List.getElem?_eq_getElem hlt
   rw [List.drop_eq_getElem_cons hlt]
   simp only [dd]
   simp only [z7,hst i k s _ y (hok _ (List.getElem_mem hlt)) hl (by omega) hk hi hx hy,Option.bind_some]
   by_cases h:r s[i0+k] y=true
   ·rw [if_pos h,if_pos h]
    have:=ih i (k+1) s s[i0+k] fuel hl (by omega) (by omega) (by omega) (by rw [show i0+(k+1)-1=i0+k by omega]; exact hx) (by omega) hok
    rw [show i0+(k+1)=i0+k+1 by omega] at this
    exact this
   ·rw [if_neg h,if_neg h]
    have hd:(s.set i s[i0+k]).drop (i0+k+1)=s.drop (i0+k+1):=by
     rw [List.drop_set_of_lt (by omega)]
    have:=ih (i+1) (k+1) (s.set i s[i0+k]) s[i0+k] fuel (by rw [List.length_set]; exact hl) (by omega) (by omega) (by omega) (by
     rw [show i0+(k+1)-1=i0+k by omega]
     by_cases e:i=i0+k
     ·omega
     ·rw [List.getElem?_set_ne e]; exact hx) (by omega) (fun z hz=>by
     rcases List.mem_or_eq_of_mem_set hz with hz | rfl
     ·exact hok z hz
     ·exact hok _ (List.getElem_mem hlt))
    rw [show i0+(k+1)=i0+k+1 by omega,hd] at this
    obtain ⟨s',h1,h2,h3⟩:=this
    refine ⟨s',?_,h2,?_⟩
    ·rw [h1,List.length_cons]
     congr 3
     omega
    ·rw [List.length_cons,show i+((dd r s[i0+k] (s.drop (i0+k+1))).length+1)=i+1+(dd r s[i0+k] (s.drop (i0+k+1))).length by omega,h3]
     have e:(s.set i s[i0+k]).take (i+1)=s.take i++[s[i0+k]]:=by
      rw [a69 (x:=s[i0+k]) (by rw [List.getElem?_set_self (by omega)]),List.take_set_of_le (Nat.le_refl _)]
     rw [e,List.append_assoc]
     rfl
theorem c10 {step:(Int×Int)×List α->Option (Fl ((Int×Int)×List α) (Int×List α))}(i0 n:Nat)
 (hst:∀ (i k:Nat) (s:List α) (x y:α),s.length=n->i0+k<n->1<=k->i<i0+k->s[i0+k]?=some x->s[i0+k-1]?=some y ->
   step (((i:Int),(k:Int)),s)=some (.next (if r x y=true then (((i:Int),((k+1:Nat):Int)),s) else ((((i+1:Nat):Int),((k+1:Nat):Int)),s.set i x))))
 (hend:∀ (i:Int) (k:Nat) (s:List α),s.length=n->i0+k=n->step ((i,(k:Int)),s)=some (.done (i,s)))
 (m i k:Nat) (s:List α) (y:α) (fuel:Nat) (h1:s.length=n) (h2:i0+k+m=n) (h3:1<=k) (h4:i<i0+k) (h5:s[i0+k-1]?=some y) (h6:m+1<=fuel) :
   ∃ s',z7 step fuel (((i:Int),(k:Int)),s)=some (((i+(dd r y (s.drop (i0+k))).length:Nat):Int),s')/\s'.length=n/\s'.take (i+(dd r y (s.drop (i0+k))).length)=s.take i++dd r y (s.drop (i0+k)) :=
 c6x (ok:=fun _=>True) i0 n (fun i k s x y _=>hst i k s x y) hend m i k s y fuel h1 h2 h3 h4 h5 h6 (fun _ _=>trivial)
theorem c0y:∀ (l:List α) (p:α),(dd r p l).length<=l.length
 | [],_=>Nat.le_refl _
 | x::l,p=>by
   have:=c0y l x
   simp only [dd]
   split
   ·simp only [List.length_cons]; omega
   ·simp only [List.length_cons]; omega
theorem b4a:∀ (a:List α) (p:α) (l:List α),(∀ (i:Nat) (x y:α),(a++[p])[i+1]?=some x->(a++[p])[i]?=some y->r x y=false)->a52 r (a++p::l)=a++p::dd r p l
 | [],p,l,_=>rfl
 | x::a,p,l,h=>by
   have h2:=b4a a p l (fun i u v h1 h2=>h (i+1) u v (by simpa using h1) (by simpa using h2))
   cases a with
   | nil =>
     have h0:=h 0 p x rfl rfl
     show x::dd r x (p::l)=_
     simp [dd,h0]
   | cons y a =>
     have h0:=h 0 y x rfl rfl
     show x::dd r x (y::(a++p::l))=_
     simp only [dd,h0,Bool.false_eq_true,if_false]
     have h2':y::dd r y (a++p::l)=y::a++p::dd r p l:=h2
     rw [h2']
     rfl
end
end Go.Pl
namespace Go.Pl
open Go Go.RowKit Go.Sx Go.Qx
theorem b9u (x y:ByteArray):Q4 x y=decide (cS x y=0):=by
 rcases a8x x y with ⟨_,h,e⟩ | ⟨_,h,e⟩ | ⟨_,h,e⟩<;>simp [h,e]
theorem c73 (x y:ByteArray):a2S x y=decide (cS x y<0):=by
 rcases a8x x y with ⟨h,_,e⟩ | ⟨h,_,e⟩ | ⟨h,_,e⟩<;>simp [h,e]
theorem c4r (l out:List ByteArray)(i:Nat)(x:ByteArray)(hx:l[i]?=some x)(hl:out.length<=4194304)(hi:i<=4194304) :
 a0t l (out,(i:Int))=some (.next (a2v cS out x,((i+1:Nat):Int))):=by
 have hlt:i<l.length:=(List.getElem?_eq_some_iff.1 hx).1
 have hix:idx l (i:Int)=some x:=y4 hx
 unfold a0t
 simp only [w4]
 rw [c0E (step:=a3z l (out,(i:Int))) out (fun y=>decide (cS y x<0)) ?_ ?_]
 ·simp only [V6,v7]
  rw [if_pos (by simp; omega)]
  simp only [Option.bind_some,hix]
  have hk:=b1F (fun y=>decide (cS y x<0)) out
  have hat:=c0T (fun y=>decide (cS y x<0)) out
  have go:(Option.bind (cut out 0 ((out.takeWhile (fun y=>decide (cS y x<0))).length:Int)) fun u=>Option.bind (Z4 (0+u.length) 16) fun _ =>
   Option.bind (Z4 (u.length+[x].length) 16) fun _=>Option.bind (cut out ((out.takeWhile (fun y=>decide (cS y x<0))).length:Int) (out.length:Int)) fun w =>
   Option.bind (Z4 ((u++[x]).length+w.length) 16) fun _=>some ((u++[x])++w))=some (a0a (fun y=>decide (cS y x<0)) x out) :=
   c3Z out x _ 16 (by omega) hl (fun l=>some l)
  rw [j5 i (by omega),go]
  unfold a2v
  cases hh:(out.dropWhile (fun y=>decide (cS y x<0))).head? with
  | none =>
    rw [hh] at hat
    have hge:=List.getElem?_eq_none_iff.1 hat
    rw [if_neg (by simp; omega)]
    rfl
  | some y =>
    rw [hh] at hat
    have hlt2:=(List.getElem?_eq_some_iff.1 hat).1
    rw [if_pos (by simp; omega),y4 hat]
    simp only [Option.bind_some,b9u]
    by_cases h0:cS y x=0
    ·rw [if_pos (by simp [h0]),if_pos h0]
     rfl
    ·rw [if_neg (by simp [h0]),if_neg h0]
     rfl
 ·intro j y hy
  have hj:j<out.length:=(List.getElem?_eq_some_iff.1 hy).1
  unfold a3z
  simp only [V6,v7]
  rw [if_pos (by simp; omega),y4 hy,hix]
  simp only [Option.bind_some,c73,j5 j (by omega)]
  by_cases h:cS y x<0<;>simp [h]
 ·unfold a3z
  simp
theorem b9A {α:Type}(c:α->α->Int)(out:List α)(x:α):(a2v c out x).length<=out.length+1:=by
 unfold a2v
 split
 ·split
  ·omega
  ·rw [a6P]; omega
 ·rw [a6P]; omega
theorem c15 (l:List ByteArray)(hl:l.length<=4194304):a0d l=some (l.foldl (a2v cS) []):=by
 unfold a0d
 have key:=a2K (σ:=List ByteArray) (step:=a0t l) l (fun s i=>(s,(i:Int))) (a2v cS) (fun i s=>s.length<=i) (fun s=>s)
  ?_ ?_ [] (by simp) _ (Nat.le_refl _)
 ·have e:z7 (a0t l) (l.length+1) (([]:List ByteArray),0)=z7 (a0t l) (l.length+1) (([]:List ByteArray),((0:Nat):Int)):=rfl
  rw [w4,e,key]
  rfl
 ·intro i s x hx hI
  have hi:i<l.length:=(List.getElem?_eq_some_iff.1 hx).1
  refine ⟨c4r l s i x hx (by omega) (by omega),?_⟩
  have:=b9A cS s x
  omega
 ·intro s _
  unfold a0t
  simp
theorem b1N (a b:List ByteArray):J8 (a++b)=J8 a+J8 b:=by
 induction a with
 | nil=>simp [J8]
 | cons x r ih=>simp only [List.cons_append,J8,ih]; omega
theorem c67 (out:List ByteArray)(x:ByteArray):J8 (a2v cS out x)<=J8 out+a3u x:=by
 have hk:∀ p:ByteArray->Bool,J8 (a0a p x out)=J8 out+a3u x:=fun p=>by
  have e:=congrArg J8 (List.takeWhile_append_dropWhile (p:=p) (l:=out))
  rw [b1N] at e
  simp only [a0a,b1N,J8]
  omega
 unfold a2v
 split
 ·split
  ·omega
  ·rw [hk]; omega
 ·rw [hk]; omega
theorem b6c:∀ (l out:List ByteArray),J8 (l.foldl (a2v cS) out)<=J8 out+J8 l
 | [],out=>by simp [J8]
 | x::r,out=>by
   have h1:=b6c r (a2v cS out x)
   have h2:=c67 out x
   simp only [List.foldl_cons,J8]
   omega
section
variable {α:Type}{r:α->α->Bool}
theorem c2e {step:List α×Int->Option (Fl (List α×Int) (Sum (List α) (List α)))}(s:List α)(hl:1<=s.length)
 (hst:∀ (i:Nat) (x y:α),1<=i->s[i]?=some x->s[i-1]?=some y->r x y=false->step (s,(i:Int))=some (.next (s,((i+1:Nat):Int))))
 (hhit:∀ (i:Nat) (x y:α),1<=i->s[i]?=some x->s[i-1]?=some y->r x y=true->∃ q:List α,step (s,(i:Int))=some (.done (.inr (s.take i++dd r x (s.drop (i+1))))))
 (hend:step (s,(s.length:Int))=some (.done (.inl s))) :
 (z7 step (s.length+1) (s,1)=some (.inl s)/\a52 r s=s)\/∃ q:List α,z7 step (s.length+1) (s,1)=some (.inr (a52 r s)):=by
 have key:∀ (m i fuel:Nat),i+m=s.length->1<=i->m+1<=fuel->(∀ j:Nat,(hj:j+1<s.length)->j+1<i->r s[j+1] (s[j]'(by omega))=false) ->
  (z7 step fuel (s,(i:Int))=some (.inl s)/\a52 r s=s)\/∃ q:List α,z7 step fuel (s,(i:Int))=some (.inr (a52 r s)):=by
  intro m
  induction m with
  | zero =>
    intro i fuel hm hi hf hok
    obtain ⟨fuel,rfl⟩:∃ m,fuel=m+1:=⟨fuel-1,by omega⟩
    have e:i=s.length:=by omega
    subst e
    left
    refine ⟨by simp only [z7,hend,Option.bind_some],?_⟩
    have h1:s.length-1<s.length:=by omega
    have hs:s=s.take (s.length-1)++s[s.length-1]::[]:=by
     have:=a69 (List.getElem?_eq_getElem h1)
     rw [show s.length-1+1=s.length by omega,List.take_length] at this
     exact this
    have hc:=b4a (r:=r) (s.take (s.length-1)) s[s.length-1] [] (by
     rw [<- hs]
     intro j x y h1 h2
     have hj:=(List.getElem?_eq_some_iff.1 h1).1
     rw [List.getElem?_eq_getElem hj] at h1
     rw [List.getElem?_eq_getElem (by omega)] at h2
     cases h1; cases h2
     exact hok j hj (by omega))
    rw [<- hs] at hc
    rw [hc]
    exact hs.symm
  | succ m ih =>
    intro i fuel hm hi hf hok
    obtain ⟨fuel,rfl⟩:∃ m,fuel=m+1:=⟨fuel-1,by omega⟩
    have hlt:i<s.length:=by omega
    have hlt2:i-1<s.length:=by omega
    have hx:=List.getElem?_eq_getElem hlt
    have hy:=List.getElem?_eq_getElem hlt2
    by_cases h:r s[i] s[i-1]=true
    ·right
     obtain ⟨q,hq⟩:=hhit i _ _ hi hx hy h
     refine ⟨q,?_⟩
     simp only [z7,hq,Option.bind_some]
     have hs:s=s.take (i-1)++s[i-1]::s[i]::s.drop (i+1):=by
      have e1:=List.take_append_drop (i-1) s
      have e2:=List.drop_eq_getElem_cons hlt2
      have e3:=List.drop_eq_getElem_cons hlt
      rw [show i-1+1=i by omega,e3] at e2
      rw [<- e2]
      exact e1.symm
     have hc:=b4a (r:=r) (s.take (i-1)) s[i-1] (s[i]::s.drop (i+1)) (by
      have e:s.take (i-1)++[s[i-1]]=s.take i:=by
       have:=a69 hy
       rw [show i-1+1=i by omega] at this
       exact this.symm
      rw [e]
      intro j x y h1 h2
      have hj:=(List.getElem?_eq_some_iff.1 h1).1
      have hj':j+1<i:=by rw [List.length_take] at hj; omega
      rw [List.getElem?_take_of_lt hj',List.getElem?_eq_getElem (by omega)] at h1
      rw [List.getElem?_take_of_lt (by omega),List.getElem?_eq_getElem (by omega)] at h2
      cases h1; cases h2
      exact hok j (by omega) hj')
     rw [<- hs] at hc
     rw [hc]
     have e:s.take i=s.take (i-1)++[s[i-1]]:=by
      have:=a69 hy
      rw [show i-1+1=i by omega] at this
      exact this
     rw [e,List.append_assoc]
     simp only [dd,h,if_true]
     rfl
    ·have h':r s[i] s[i-1]=false:=by simpa using h
     simp only [z7,hst i _ _ hi hx hy h',Option.bind_some]
     refine ih (i+1) fuel (by omega) (by omega) (by omega) (fun j hj hji=>?_)
     by_cases e:j+1<i
     ·exact hok j hj e
     ·have:j+1=i:=by omega
      subst this
      exact h'
 exact key (s.length-1) 1 (s.length+1) (by omega) (Nat.le_refl _) (by omega) (fun j _ h=>by omega)
theorem c5k {β γ:Type}(z:α)(j n:Nat)(s' T:List α)(hl:s'.length=n)(hj:j<n)(ht:s'.take j=T) :
 ∃ q:List α,(Option.bind (idx s' (j:Int)) fun _=>bif Nat.blt (j:Int).toNat s'.length then (Option.bind (cut (s'.take (j:Int).toNat++List.replicate (s'.length-(j:Int).toNat) z) 0 (j:Int)) fun y =>
  some (Fl.done (Sum.inr y):Fl β (Sum γ (List α)))) else none)=some (.done (.inr T)):=by
 refine ⟨s'.take j++List.replicate (s'.length-j) z,?_⟩
 have e:(j:Int).toNat=j:=by omega
 rw [y4 (List.getElem?_eq_getElem (show j<s'.length by omega)),e]
 simp only [Option.bind_some]
 have eb:Nat.blt j s'.length=true:=by simp [Nat.blt]; omega
 rw [eb,b9Y _ (by simp; omega)]
 simp only [cond_true,Option.bind_some]
 rw [List.take_append_of_le_length (by simp; omega),List.take_take,Nat.min_self,ht]
end
theorem a8k (n:Nat)(h:n<=4611686018427387904)(h1:1<=n):w64 ((n:Int)-1)=((n-1:Nat):Int):=by rw [K2 (by omega) (by omega)]; omega
end Go.Pl
end
section
namespace Go.Pl
open Go Go.RowKit Go.Sx Go.Qx
section
variable {L:List Int}{t:Api_Type}{N b:Nat}{h:Nat}{rN:Semtypebase_Source->Api_Type->Int->Int->Option (Val×Semtypebase_Source)}
def a9s (L:List Int)(t:Api_Type)(N b h:Nat)(rN:Semtypebase_Source->Api_Type->Int->Int->Option (Val×Semtypebase_Source)):Prop :=
 ∀ (k:Nat) (s:Semtypebase_Source),k<N->OS L s->∃ v u,rN s t (k:Int) (h:Int)=some (v,u)/\OS L u/\vOK v=true/\k8 v<=b
theorem b7Q {N:Nat}{x:Api_TypeNode}(hx:V4 N x=true){j:Nat}(hj:j<x.Kids.length):∃ k:Nat,idx x.Kids (j:Int)=some (k:Int)/\x.Kids[j]?=some (k:Int)/\k<N:=by
 have e:=List.getElem?_eq_getElem hj
 obtain ⟨k,hk,hk2⟩:=a0v (a5k hx _ (List.getElem_mem hj))
 rw [hk] at e
 exact ⟨k,y4 e,e,hk2⟩
theorem b93 (hd:a9s L t N b h rN){x:Api_TypeNode}(hx:V4 N x=true)(hl:x.Kids.length<=4)(hh:h<=10){s:Semtypebase_Source}(hs:OS L s) :
 ∃ g u,z7 (a0T t ((h:Int)+1) x rN) (x.Kids.length+1) (0,s,(0,0,(⟨#[]⟩:ByteArray),[],[],[],[]))=some (u,(0,0,(⟨#[]⟩:ByteArray),g,[],[],[]))/\OS L u/\g.length=x.Kids.length/\v8 g<=x.Kids.length*b:=by
 have hw:w64 ((h:Int)+1-1)=(h:Int):=by rw [K2 (by omega) (by omega)]; omega
 obtain ⟨g,u,e,hu,h1,h2⟩:=b7I (γ:=List Val) (L:=L) (step:=a0T t ((h:Int)+1) x rN) (fun g j s=>(j,s,(0,0,(⟨#[]⟩:ByteArray),g,[],[],[]))) (fun g s=>(s,(0,0,(⟨#[]⟩:ByteArray),g,[],[],[]))) (fun j g=>g.length=j/\v8 g<=j*b) x.Kids.length
  (fun j g s hj hI hs=>by
    obtain ⟨k,e1,_,e2⟩:=b7Q hx hj
    obtain ⟨v,u,e3,hu,_,hb⟩:=hd k s e2 hs
    refine ⟨g++[v],u,?_,hu,by simp [hI.1],by rw [a1s,Nat.add_mul]; simp only [v8]; have:=hI.2; omega⟩
    unfold a0T
    simp only [v7,hw]
    rw [k9 hj,e1]
    simp only [cond_true,Option.bind_some]
    rw [e3]
    simp only [Option.bind_some]
    rw [Z2 (by simp only [List.length_cons,List.length_nil]; have:=hI.1; omega),j5 j (by omega)]
    rfl) (fun g s=>by
    unfold a0T
    simp) x.Kids.length 0 (x.Kids.length+1) [] s (by omega) (Nat.le_refl _) ⟨rfl,by simp [v8]⟩ hs
 exact ⟨g,u,e,hu,h1,h2⟩
theorem c7Z (hd:a9s L t N b h rN){x:Api_TypeNode}(hx:V4 N x=true)(hl:x.Kids.length<=4)(h1l:1<=x.Kids.length)(hh:h<=10){s:Semtypebase_Source}(hs:OS L s) :
 ∃ g u,z7 (K4 t x ((h:Int)+1) rN) ((w64 ((x.Kids.length:Int)-1)).toNat+1) (0,s,([],false,0,0,(⟨#[]⟩:ByteArray),[],[],[],[]))=some (u,(g,false,0,0,(⟨#[]⟩:ByteArray),[],[],[],[]))/\OS L u/\g.length=x.Kids.length-1/\a1o g=true/\v8 g<=3*b:=by
 have hw:w64 ((h:Int)+1-1)=(h:Int):=by rw [K2 (by omega) (by omega)]; omega
 have hw2:w64 ((x.Kids.length:Int)-1)=((x.Kids.length-1:Nat):Int):=by rw [K2 (by omega) (by omega)]; omega
 rw [hw2,Int.toNat_natCast]
 obtain ⟨g,u,e,hu,h1,h2,h3⟩:=b7I (γ:=List Val) (L:=L) (step:=K4 t x ((h:Int)+1) rN) (fun g j s=>(j,s,(g,false,0,0,(⟨#[]⟩:ByteArray),[],[],[],[]))) (fun g s=>(s,(g,false,0,0,(⟨#[]⟩:ByteArray),[],[],[],[]))) (fun j g=>g.length=j/\a1o g=true/\v8 g<=j*b) (x.Kids.length-1)
  (fun j g s hj hI hs=>by
    obtain ⟨k,e1,_,e2⟩:=b7Q hx (show j<x.Kids.length by omega)
    obtain ⟨v,u,e3,hu,ho,hb⟩:=hd k s e2 hs
    refine ⟨g++[v],u,?_,hu,by simp [hI.1],by rw [b5I,hI.2.1]; simp [a1o,ho],by rw [a1s,Nat.add_mul]; simp only [v8]; have:=hI.2.2; omega⟩
    unfold K4
    simp only [v7,hw,hw2]
    rw [k9 hj,e1]
    simp only [cond_true,Option.bind_some]
    rw [e3]
    simp only [Option.bind_some]
    rw [Z2 (by simp only [List.length_cons,List.length_nil]; have:=hI.1; omega),j5 j (by omega)]
    rfl) (fun g s=>by
    unfold K4
    simp [v7,hw2]) (x.Kids.length-1) 0 (x.Kids.length-1+1) [] s (by omega) (Nat.le_refl _) ⟨rfl,rfl,by simp [v8]⟩ hs
 have e':z7 (K4 t x ((h:Int)+1) rN) (x.Kids.length-1+1) (0,s,([],false,0,0,(⟨#[]⟩:ByteArray),[],[],[],[]))=some (u,(g,false,0,0,(⟨#[]⟩:ByteArray),[],[],[],[])):=e
 refine ⟨g,u,e',hu,h1,h2,Nat.le_trans h3 (Nat.mul_le_mul_right _ (by omega))⟩
theorem c63 (hL:L.length<=4194304)(hd:a9s L t N b h rN)(hb:8<=b){x:Api_TypeNode}(hx:V4 N x=true)(hl:x.Kids.length<=4)(h1l:1<=x.Kids.length)(hh:h<=10)(m:Nat)(hm:m<=2){s:Semtypebase_Source}(hs:OS L s) :
 ∃ es u,z7 (W5 t x ((h:Int)+1) rN) ((m:Int).toNat+2) ([],(m:Int),s)=some (es,u)/\OS L u/\Z0 es<=m*(4*b+3):=by
 have hw:w64 ((h:Int)+1-1)=(h:Int):=by rw [K2 (by omega) (by omega)]; omega
 have hw2:w64 ((x.Kids.length:Int)-1)=((x.Kids.length-1:Nat):Int):=by rw [K2 (by omega) (by omega)]; omega
 obtain ⟨g,u,e,hu,h1,h2⟩:=a9X (γ:=List Ent) (L:=L) (step:=W5 t x ((h:Int)+1) rN) (fun g n s=>(g,n,s)) (fun g s=>(g,s)) (fun j g=>g.length=j/\Z0 g<=j*(4*b+3)) m
  (fun j n g s hj hn hI hs=>by
    obtain ⟨ag,u1,e1,hu1,ha1,_,ha2⟩:=c7Z hd hx hl h1l hh hs
    obtain ⟨z,u2,e2,hu2,_,_⟩:=Z9 hL hu1 (n:=6) (by omega) (by omega)
    obtain ⟨k,e3,_,e4⟩:=b7Q hx (show x.Kids.length-1<x.Kids.length by omega)
    have fin:∀ (fl:Bool) (v:Val) (u3:Semtypebase_Source),OS L u3->k8 v<=b->∃ g' s',(Option.bind (Z4 (g.length+([Ent.mk ag fl v]:List Ent).length) 160) fun _=>(some (Fl.next (g++([Ent.mk ag fl v]:List Ent),w64 (((n+1:Nat):Int)-1),u3)):Option (Fl (List Ent×Int×Semtypebase_Source) (List Ent×Semtypebase_Source))))=some (.next (g',(n:Int),s'))/\OS L s'/\(g'.length=j+1/\Z0 g'<=(j+1)*(4*b+3)):=fun fl v u3 hu3 hv=>by
     rw [Z2 (by simp only [List.length_cons,List.length_nil]; have:=hI.1; omega),show w64 (((n+1:Nat):Int)-1)=(n:Int) by rw [K2 (by omega) (by omega)]; omega]
     refine ⟨_,u3,rfl,hu3,by simp [hI.1],?_⟩
     have hbe:=a1k (Ent.mk ag fl v)
     simp only [Ent.Args,Ent.Result] at hbe
     rw [b1s,Nat.add_mul]
     simp only [Z0,hbe]
     have:=hI.2
     omega
    unfold W5
    simp only [v7,hw,hw2]
    rw [show decide (0<((n+1:Nat):Int))=true from decide_eq_true (by omega)]
    rw [hw2] at e1
    rw [e1]
    simp only [cond_true,Option.bind_some]
    rw [e2]
    simp only [Option.bind_some]
    cases hz:z==1
    ·simp only [cond_false]
     obtain ⟨v,u3,e5,hu3,_,hv⟩:=hd k u2 e4 hu2
     rw [e3]
     simp only [Option.bind_some]
     rw [e5]
     simp only [Option.bind_some]
     have:=fin false v u3 hu3 hv
     cases v
     exact this
    ·simp only [cond_true,Option.bind_some]
     exact fin true a6G u2 hu2 (by rw [a6G,V7]; simp only [a3j,v8,w7,Z0]; omega)) (fun g s=>by
    unfold W5
    rfl) m 0 ((m:Int).toNat+2) [] s (by omega) (by omega) ⟨rfl,by simp [Z0]⟩ hs
 exact ⟨g,u,e,hu,by simpa using h2⟩
theorem c4t (hL:L.length<=4194304)(hd:a9s L t N b h rN){x:Api_TypeNode}(hf:∀ f∈x.Fields,inR N f.Node=true)(hk:∀ f∈x.Fields,a6x f.Key_<=8)(hl:x.Fields.length<=3)(hh:h<=10){s:Semtypebase_Source}(hs:OS L s) :
 ∃ ks vs u,z7 (a0l t x ((h:Int)+1) rN) (x.Fields.length+1) ([],[],0,s)=some (ks,vs,u)/\OS L u/\ks.length<=3/\vs.length<=3/\w7 ks<=24/\v8 vs<=3*b:=by
 have hw:w64 ((h:Int)+1-1)=(h:Int):=by rw [K2 (by omega) (by omega)]; omega
 obtain ⟨g,u,e,hu,h1,h2,h3,h4⟩:=b7I (γ:=List Key×List Val) (L:=L) (step:=a0l t x ((h:Int)+1) rN) (fun g j s=>(g.1,g.2,j,s)) (fun g s=>(g.1,g.2,s)) (fun j g=>g.1.length<=j/\g.2.length<=j/\w7 g.1<=j*8/\v8 g.2<=j*b) x.Fields.length
  (fun j g s hj hI hs=>by
    have ex:=List.getElem?_eq_getElem hj
    have hm:=List.getElem_mem hj
    generalize x.Fields[j]=f at ex hm
    obtain ⟨k,e1,e2⟩:=a0v (hf f hm)
    have hkb:=hk f hm
    have skip:∀ u,OS L u->∃ (g':List Key×List Val) (s':Semtypebase_Source),(some (Fl.next (g.1,g.2,w64 ((j:Int)+1),u)):Option (Fl (List Key×List Val×Int×Semtypebase_Source) (List Key×List Val×Semtypebase_Source)))=some (.next (g'.1,g'.2,((j+1:Nat):Int),s'))/\OS L s'/\(g'.1.length<=j+1/\g'.2.length<=j+1/\w7 g'.1<=(j+1)*8/\v8 g'.2<=(j+1)*b):=fun u hu=>by
     rw [j5 j (by omega)]
     exact ⟨(g.1,g.2),u,rfl,hu,Nat.le_succ_of_le hI.1,Nat.le_succ_of_le hI.2.1,Nat.le_trans hI.2.2.1 (Nat.mul_le_mul_right _ (Nat.le_succ _)),Nat.le_trans hI.2.2.2 (Nat.mul_le_mul_right _ (Nat.le_succ _))⟩
    have take:∀ u,OS L u->∃ (g':List Key×List Val) (s':Semtypebase_Source),(Option.bind (Option.bind (Z4 (g.1.length+([f.Key_]:List Key).length) 24) fun _=>Option.bind (rN u t f.Node (h:Int)) fun r8=>Option.bind (Z4 (g.2.length+([r8.1]:List Val).length) 128) fun _=>some (g.1++([f.Key_]:List Key),g.2++([r8.1]:List Val),r8.2)) fun b10 =>
     (some (Fl.next (b10.1,b10.2.1,w64 ((j:Int)+1),b10.2.2)):Option (Fl (List Key×List Val×Int×Semtypebase_Source) (List Key×List Val×Semtypebase_Source))))=some (.next (g'.1,g'.2,((j+1:Nat):Int),s'))/\OS L s'/\(g'.1.length<=j+1/\g'.2.length<=j+1/\w7 g'.1<=(j+1)*8/\v8 g'.2<=(j+1)*b):=fun u hu=>by
     obtain ⟨v,u2,e3,hu2,_,hv⟩:=hd k u e2 hu
     rw [Z2 (by simp only [List.length_cons,List.length_nil]; have:=hI.1; omega),e1,e3]
     simp only [Option.bind_some]
     rw [Z2 (by simp only [List.length_cons,List.length_nil]; have:=hI.2.1; omega),j5 j (by omega)]
     refine ⟨(g.1++[f.Key_],g.2++[v]),u2,rfl,hu2,?_,?_,?_,?_⟩
     ·simp only [List.length_append,List.length_cons,List.length_nil]; have:=hI.1; omega
     ·simp only [List.length_append,List.length_cons,List.length_nil]; have:=hI.2.1; omega
     ·rw [a68]; simp only [w7]; have:=hI.2.2.1; omega
     ·rw [a1s,Nat.add_mul]; simp only [v8]; have:=hI.2.2.2; omega
    unfold a0l
    simp only [v7,hw]
    rw [k9 hj,y4 ex]
    simp only [cond_true,Option.bind_some]
    cases hO:f.Optional
    ·simp only [cond_false,Option.bind_some]
     exact take s hs
    ·simp only [cond_true]
     obtain ⟨z,u,e4,hu,_,_⟩:=Z9 hL hs (n:=2) (by omega) (by omega)
     rw [e4]
     simp only [Option.bind_some]
     cases hz:z==1
     ·simp only [cond_false]
      exact take u hu
     ·simp only [cond_true,Option.bind_some]
      exact skip u hu) (fun g s=>by
    unfold a0l
    simp) x.Fields.length 0 (x.Fields.length+1) ([],[]) s (by omega) (Nat.le_refl _) ⟨Nat.le_refl _,Nat.le_refl _,by simp [w7],by simp [v8]⟩ hs
 refine ⟨g.1,g.2,u,e,hu,by omega,by omega,by omega,Nat.le_trans h4 (Nat.mul_le_mul_right _ hl)⟩
end
end Go.Pl
namespace Go.Pl
open Go Go.RowKit Go.Sx Go.Qx
structure GT (t:Api_Type):Prop where
 len:t.Nodes.length<=10
 nodes:GNs t.Nodes.length t.Nodes
def DB:Nat->Nat
 | 0=>300
 | h+1=>700+8*DB h
theorem c9z {h:Nat}(hh:h<=4):DB h<=1638300:=by
 match h,hh with
 | 0,_=>decide
 | 1,_=>decide
 | 2,_=>decide
 | 3,_=>decide
 | 4,_=>decide
theorem c65 {h:Nat}(hh:h<=3):DB h<=204700:=by
 match h,hh with
 | 0,_=>decide
 | 1,_=>decide
 | 2,_=>decide
 | 3,_=>decide
theorem c7N (h:Nat):300<=DB h:=by cases h<;>simp [DB]; omega
theorem c3g (x:Val):∀ (l:List Val) (i:Nat),v8 (l.set i x)<=v8 l+k8 x
 | [],_=>by simp [v8]
 | y::r,0=>by simp only [List.set_cons_zero,v8]; omega
 | y::r,i+1=>by have:=c3g x r i; simp only [List.set_cons_succ,v8]; omega
theorem c8F (k n:Int)(s:ByteArray)(a:List Val)(b:List Key)(c:List Ent)(l m:List ByteArray)(q:Nat)(h:J8 m<=J8 l+q):k8 (Val.mk k n s a b c m)<=k8 (Val.mk k n s a b c l)+q:=by
 simp only [k8]; omega
theorem c4l {t:Api_Type}(hT:GT t){i:Nat}{x:Api_TypeNode}(hx:t.Nodes[i]?=some x)(v:Val)(hv:k8 v<=2000000):∃ w,z7 (W2 t x) (x.Kids.length+1) (0,v)=some w/\k8 w<=k8 v+x.Kids.length*6:=by
 have hg:=hT.nodes i x hx
 have key:∀ (m a k:Nat) (w:Val),a+m=x.Kids.length->m+1<=k->k8 w<=k8 v+a*6->∃ w',z7 (W2 t x) k ((a:Int),w)=some w'/\k8 w'<=k8 v+x.Kids.length*6:=by
  intro m
  induction m with
  | zero =>
    intro a k w h1 h2 h3
    obtain ⟨k,rfl⟩:∃ m,k=m+1:=⟨k-1,by omega⟩
    have e:a=x.Kids.length:=by omega
    subst e
    have:W2 t x ((x.Kids.length:Int),w)=some (.done w):=by
     unfold W2
     simp
    exact ⟨w,by simp only [z7,this,Option.bind_some],h3⟩
  | succ m ih =>
    intro a k w h1 h2 h3
    obtain ⟨k,rfl⟩:∃ m,k=m+1:=⟨k-1,by omega⟩
    have ha:a<x.Kids.length:=by omega
    have hk4:=hg.kids
    obtain ⟨j,e1,_,hj⟩:=b7Q hg.ok ha
    have e2:=List.getElem?_eq_getElem hj
    generalize t.Nodes[j]=y at e2
    have hy:=(hT.nodes j y e2).text
    have step:∃ w',W2 t x ((a:Int),w)=some (.next (((a+1:Nat):Int),w'))/\k8 w'<=k8 w+6:=by
     unfold W2
     simp only [v7]
     rw [k9 ha,e1]
     simp only [cond_true,Option.bind_some]
     rw [y4 e2]
     simp only [Option.bind_some]
     rw [j5 a (by omega)]
     cases hc:y.Kind==19
     ·simp only [cond_false,Option.bind_some]
      exact ⟨w,rfl,by omega⟩
     ·simp only [cond_true]
      obtain ⟨kk,n,s,kids,keys,ents,labs⟩:=w
      simp only [Val.Labels,Val.Kind,Val.Int_,Val.Text,Val.Kids,Val.Keys,Val.Entries]
      have hlab:labs.length<=k8 (Val.mk kk n s kids keys ents labs):=by
       have:=a4t labs
       simp only [k8]; omega
      rw [Z2 (by omega),Z2 (by simp only [List.length_cons,List.length_nil]; omega)]
      simp only [Option.bind_some]
      rw [c15 (labs++[y.Text]) (by simp only [List.length_append,List.length_cons,List.length_nil]; omega)]
      refine ⟨_,rfl,c8F _ _ _ _ _ _ _ _ 6 ?_⟩
      have h4:=b6c (labs++[y.Text]) []
      rw [b1N] at h4
      simp only [J8,a3u] at h4
      omega
    obtain ⟨w',e3,h5⟩:=step
    simp only [z7,e3,Option.bind_some]
    exact ih (a+1) k w' (by omega) (by omega) (by omega)
 exact key x.Kids.length 0 (x.Kids.length+1) v (by omega) (Nat.le_refl _) (by omega)
theorem c7b {ks:List Key}{vs:List Val}{u:List Val×List Key}(h:a6w (ks.zip vs) ([],[])=some u):k8 (b3J u)<=8+w7 ks+v8 vs:=by
 obtain ⟨_,_,_,_,_,m⟩:=b2q (ks.zip vs) ([],[]) u h rfl rfl
 have hz:=b7K ks vs
 simp only [v8,w7] at m
 simp only [b3J,V7,a3j,Z0]
 omega
section
variable {L:List Int}{t:Api_Type}
theorem c8T (hL:L.length<=4194304){b h:Nat}{rN}(hd:a9s L t t.Nodes.length b h rN)(hb:8<=b)(hb2:b<=300000)(hh:h<=10){i:Nat}{x:Api_TypeNode}(hg:GN t.Nodes.length i x)(hk:x.Kind=13){s:Semtypebase_Source}(hs:OS L s)(f:Nat)(r1:Semtypebase_Source->Api_Type->Int->Int->Option (Val×Semtypebase_Source))(r2 r3:Semtypebase_Source->Api_Type->Api_TypeNode->Int->Option (Val×Semtypebase_Source)) :
 ∃ v u,a24 f rN r1 r2 r3 s t x ((h:Int)+1)=some (v,u)/\OS L u/\k8 v<=100+4*b:=by
 have hw:w64 ((h:Int)+1-1)=(h:Int):=by rw [K2 (by omega) (by omega)]; omega
 have hn:=hg.ok
 unfold V4 a3b a2F at hn
 simp only [hk] at hn
 simp only [Bool.and_eq_true] at hn
 have hn2:=hn.2.2.2.2
 simp at hn2
 obtain ⟨⟨_,_,hfn⟩,_,hr0,hr1⟩:=hn2
 obtain ⟨ks,vs,u,e,hu,l1,l2,b1,b2⟩:=c4t hL hd hfn hg.keys hg.flds hh hs
 obtain ⟨k0,hk0,hk0'⟩:=a0v hr0
 obtain ⟨k1,hk1,hk1'⟩:=a0v hr1
 unfold a24
 rw [w4,e]
 simp only [Option.bind_some]
 obtain ⟨z,u2,e2,hu2,_,_⟩:=Z9 hL hu (n:=2) (by omega) (by omega)
 rw [e2]
 simp only [Option.bind_some,v7,hw]
 have fin:∀ (ks:List Key) (vs:List Val) (u3:Semtypebase_Source),ks.length<=4->OS L u3->w7 ks<=40->v8 vs<=4*b->∃ v u,(Option.bind (a1H ks vs) fun r20=>bif r20.2 != 0 then (Option.bind (X4) fun r21=>some (r21,u3)) else (some (r20.1,u3)))=some (v,u)/\OS L u/\k8 v<=100+4*b:=fun ks vs u3 q1 hu3 q2 q3=>by
  rw [c0V ks vs (by omega)]
  have nilb:k8 (Val.mk 5 0 (⟨#[]⟩:ByteArray) ([]:List Val) ([]:List Key) ([]:List Ent) ([]:List ByteArray))<=100+4*b:=by
   rw [V7]; simp only [a3j,v8,w7,Z0]; omega
  by_cases hc:ks.length=vs.length/\ks.all Y9=true
  ·rw [if_pos hc]
   cases hm:a6w (ks.zip vs) ([],[]) with
   | none=>exact ⟨_,u3,rfl,hu3,nilb⟩
   | some t =>
     have:=c7b hm
     exact ⟨b3J t,u3,rfl,hu3,by omega⟩
  ·rw [if_neg hc]
   exact ⟨_,u3,rfl,hu3,nilb⟩
 have other:∀ (z:Int) (kk:Nat) (u4:Semtypebase_Source),kk<t.Nodes.length->OS L u4->∃ v u,(Option.bind (Option.bind (rN u4 t (kk:Int) (h:Int)) fun r15=>Option.bind (Z4 (vs.length+([r15.1]:List Val).length) 128) fun _=>some (ks++([Key.mk z (⟨#[111,116,104,101,114]⟩:ByteArray)]:List Key),vs++([r15.1]:List Val),r15.2)) fun b19 =>
  Option.bind (a1H b19.1 b19.2.1) fun r20=>bif r20.2 != 0 then (Option.bind (X4) fun r21=>some (r21,b19.2.2)) else (some (r20.1,b19.2.2)))=some (v,u)/\OS L u/\k8 v<=100+4*b:=fun z kk u4 hkk hu4=>by
  obtain ⟨v,u5,e5,hu5,_,hv⟩:=hd kk u4 hkk hu4
  rw [e5]
  simp only [Option.bind_some]
  rw [Z2 (by simp only [List.length_cons,List.length_nil]; omega)]
  simp only [Option.bind_some]
  refine fin _ _ u5 (by simp only [List.length_append,List.length_cons,List.length_nil]; omega) hu5 ?_ ?_
  ·rw [a68]
   have:w7 ([Key.mk z (⟨#[111,116,104,101,114]⟩:ByteArray)]:List Key)<=10:=by
    simp only [w7,a6x,a3u]
    decide
   omega
  ·rw [a1s]; simp only [v8]; omega
 cases hz:z==1
 ·simp only [cond_false,Option.bind_some]
  exact fin ks vs u2 (by omega) hu2 (by omega) (by omega)
 ·simp only [cond_true]
  obtain ⟨y,u3,e3,hu3,y0,y1⟩:=Z9 hL hu2 (n:=2) (by omega) (by omega)
  rw [e3]
  simp only [Option.bind_some]
  rw [Z2 (by simp only [List.length_cons,List.length_nil]; omega)]
  simp only [Option.bind_some]
  have hy:y=0\/y=1:=by omega
  rcases hy with rfl | rfl
  ·simp only [Int.reduceBEq,cond_true]
   rw [hk0]
   exact other 0 k0 u3 hk0' hu3
  ·simp only [Int.reduceBEq,cond_true,cond_false]
   rw [hk1]
   exact other 1 k1 u3 hk1' hu3
theorem c8A (hL:L.length<=4194304){b h:Nat}{rN}(hd:a9s L t t.Nodes.length b h rN)(hb:8<=b)(hb2:b<=300000)(hh:h<=10){i:Nat}{x:Api_TypeNode}(hg:GN t.Nodes.length i x)(hk:x.Kind=14){s:Semtypebase_Source}(hs:OS L s)(f:Nat)(hf:9000000<=f)(r1:Semtypebase_Source->Api_Type->Int->Int->Option (Val×Semtypebase_Source))(r2 r3:Semtypebase_Source->Api_Type->Api_TypeNode->Int->Option (Val×Semtypebase_Source)) :
 ∃ v u,a10 f rN r1 r2 r3 s t x ((h:Int)+1)=some (v,u)/\OS L u/\k8 v<=100+8*b:=by
 have hn:=hg.ok
 unfold V4 a3b at hn
 simp only [hk] at hn
 simp only [Bool.and_eq_true] at hn
 have hn2:=hn.2.2.2.2
 simp at hn2
 have hk4:=hg.kids
 have h1l:1<=x.Kids.length:=by omega
 obtain ⟨m,u,e,hu,m0,m1⟩:=Z9 hL hs (n:=3) (by omega) (by omega)
 obtain ⟨m,rfl⟩:=b1I m0
 obtain ⟨es,u2,e2,hu2,hbe⟩:=c63 hL hd hb hg.ok hk4 h1l hh m (by omega) hu
 unfold a10
 rw [e]
 simp only [Option.bind_some]
 rw [e2]
 simp only [Option.bind_some]
 have hbe2:Z0 es<=2*(4*b+3):=Nat.le_trans hbe (Nat.mul_le_mul_right _ (by omega))
 rw [b3l f _ es (by omega) (by omega)]
 have hfb:=a9r es []
 simp only [Z0] at hfb
 by_cases hc:0<=(wr .i64 ((x.Kids.length:Int)-1))/\(wr .i64 ((x.Kids.length:Int)-1))<=4/\es.all (a2V (wr .i64 ((x.Kids.length:Int)-1)))=true
 ·rw [if_pos hc]
  refine ⟨_,u2,rfl,hu2,?_⟩
  simp only [b7g,V7,a3j,v8,w7]
  omega
 ·rw [if_neg hc]
  refine ⟨_,u2,rfl,hu2,?_⟩
  rw [V7]; simp only [a3j,v8,w7,Z0]; omega
end
end Go.Pl
namespace Go.Pl
open Go Go.RowKit Go.Sx Go.Qx
section
variable {L:List Int}{t:Api_Type}
def b95 (L:List Int)(t:Api_Type)(h:Nat):Prop:=∀ (k f:Nat) (s:Semtypebase_Source),k<t.Nodes.length->9000000+14*h+(10-k)<=f->OS L s ->
 ∃ v u,(y2 f).2.1 s t (k:Int) (h:Int)=some (v,u)/\OS L u/\k8 v+24*k<=DB h
theorem c01 (hL:L.length<=4194304)(hT:GT t){h:Nat}(hh:h<=4)(hP:b95 L t h)(f:Nat)(hf:9000000+14*h+11<=f):a9s L t t.Nodes.length (DB h) h (y2 f).1:=by
 intro k s hk hs
 obtain ⟨f,rfl⟩:∃ m,f=m+1:=⟨f-1,by omega⟩
 obtain ⟨v,u,e,hu,hb⟩:=hP k f s hk (by omega) hs
 have hD:=c9z hh
 show ∃ v u,a33 f (y2 f).1 (y2 f).2.1 (y2 f).2.2.1 (y2 f).2.2.2 s t (k:Int) (h:Int)=some (v,u)/\_
 unfold a33
 rw [e]
 simp only [Option.bind_some]
 rw [b2h f v (by omega) (by omega)]
 simp only [Option.bind_some]
 cases hv:vOK v
 ·obtain ⟨w,u2,e2,hu2,h1,h2⟩:=b4L hL hu
  have:=c7N h
  simp only [Bool.not_false,cond_true]
  rw [e2]
  exact ⟨w,u2,rfl,hu2,h1,by omega⟩
 ·exact ⟨v,u,rfl,hu,hv,by omega⟩
theorem d1G (hL:L.length<=4194304)(hT:GT t):b95 L t 0:=by
 intro k f s hk hf hs
 obtain ⟨f,rfl⟩:∃ m,f=m+1:=⟨f-1,by omega⟩
 obtain ⟨v,u,e,hu,_,hb⟩:=b4L hL hs
 refine ⟨v,u,?_,hu,by have:=hT.len; simp only [DB]; omega⟩
 show a1e f (y2 f).1 (y2 f).2.1 (y2 f).2.2.1 (y2 f).2.2.2 s t (k:Int) ((0:Nat):Int)=some (v,u)
 unfold a1e
 have e0:decide (((0:Nat):Int)<=0)=true:=rfl
 rw [e0]
 simp only [cond_true,Option.bind_some]
 rw [e]
 rfl
theorem c7A (hL:L.length<=4194304)(hT:GT t){h:Nat}(hh:h<=3)(hP:b95 L t h):b95 L t (h+1):=by
 have key:∀ (d k f:Nat) (s:Semtypebase_Source),t.Nodes.length-k<=d->k<t.Nodes.length->9000000+14*(h+1)+(10-k)<=f->OS L s ->
  ∃ v u,(y2 f).2.1 s t (k:Int) ((h:Int)+1)=some (v,u)/\OS L u/\k8 v+24*k<=DB (h+1):=by
  intro d
  induction d with
  | zero=>intro k f s h1 h2; omega
  | succ d ih =>
    intro k f s hd hk hf hs
    obtain ⟨f,rfl⟩:∃ m,f=m+1:=⟨f-1,by omega⟩
    have hlen:=hT.len
    have hD:=c65 hh
    have hDp:=c7N h
    have ex:=List.getElem?_eq_getElem hk
    generalize t.Nodes[k]=x at ex
    have hg:=hT.nodes k x ex
    have hn:=hg.ok
    have small:∀ {n:Nat},n<=440+8*DB h->n+24*k<=DB (h+1):=fun hn=>by simp only [DB]; omega
    show ∃ v u,a1e f (y2 f).1 (y2 f).2.1 (y2 f).2.2.1 (y2 f).2.2.2 s t (k:Int) ((h:Int)+1)=some (v,u)/\_
    have hQ:=c01 hL hT (show h<=4 by omega) hP f (by omega)
    unfold a1e
    have q0:decide ((h:Int)+1<=0)=false:=decide_eq_false (by omega)
    have q1:decide ((k:Int)<0)=false:=decide_eq_false (by omega)
    have q2:decide ((t.Nodes.length:Int)<=(k:Int))=false:=decide_eq_false (by omega)
    rw [q0,q1,q2,y4 ex]
    simp only [cond_false,Option.bind_some]
    have kid:∀ (s:Semtypebase_Source),OS L s->isB x=true->1<=x.Kids.length->∃ (z:Int) (u:Semtypebase_Source) (k':Nat) (v:Val) (u':Semtypebase_Source),z8 s (x.Kids.length:Int)=some (z,u)/\idx x.Kids z=some (k':Int) /\
     (y2 f).2.1 u t (k':Int) ((h:Int)+1)=some (v,u')/\OS L u'/\k8 v+24*(k+1)<=DB (h+1):=fun s hs hb h1=>by
     have h4:=hg.kids
     obtain ⟨z,u,e,hu,z0,z1⟩:=Z9 hL hs (n:=(x.Kids.length:Int)) (by omega) (by omega)
     obtain ⟨z,rfl⟩:=b1I z0
     obtain ⟨k',e1,e2,hk'⟩:=b7Q hn (show z<x.Kids.length by omega)
     have hlt:=hg.ord hb _ (List.mem_of_getElem? e2)
     obtain ⟨v,u',e3,hu',hbv⟩:=ih k' f u (by omega) hk' (by omega) hu
     exact ⟨z,u,k',v,u',e,e1,e3,hu',by omega⟩
    have other:∃ v u,(Option.bind (a2y f s 2) fun r52=>some (r52.1,r52.2))=some (v,u)/\OS L u/\k8 v+24*k<=DB (h+1):=by
     obtain ⟨v,u,e,hu,_,hb⟩:=c9R hL 1 f (by omega) (by omega) s hs
     have e':a2y f s 2=some (v,u):=e
     rw [e']
     exact ⟨v,u,rfl,hu,small (by have:Go.Pl.hb 1=320:=rfl; omega)⟩
    have hKinds:=a8Y x.Kind
    rcases hKinds with hK | hK
    ·have kt:=hn
     unfold V4 a3b at kt
     rcases hK with hK | hK | hK | hK | hK | hK | hK | hK | hK | hK | hK | hK | hK | hK | hK | hK | hK | hK | hK<;>simp only [hK] at kt ⊢<;>simp only [Int.reduceBEq,cond_true,cond_false,Option.bind_some]
     ·exact other
     ·exact other
     ·have qd:∀ a:Int,b5P .i64 a 2=some (wr .i64 (a.tdiv 2)):=fun a=>rfl
      rw [qd,qd]
      simp only [Option.bind_some]
      obtain ⟨z,u,e,hu,z0,z1⟩:=Z9 hL hs (n:=3) (by omega) (by omega)
      rw [e]
      simp only [Option.bind_some]
      generalize wr .i64 (x.Lo+(wr .i64 ((wr .i64 (x.Hi.tdiv 2))-(wr .i64 (x.Lo.tdiv 2)))))=mid
      obtain ⟨y,ey,eg,_⟩:=b47 ([x.Lo,x.Hi,mid]:List Int) z0 (by simpa using z1)
      rw [ey,eg]
      refine ⟨_,u,rfl,hu,small ?_⟩
      rw [V7]; simp only [a3j,v8,w7,Z0]; omega
     ·refine ⟨_,s,rfl,hs,small ?_⟩
      have:=hg.text
      rw [V7]; simp only [v8,w7,Z0]; omega
     ·obtain ⟨w,u,e,hu,hw⟩:=b8g hL hs
      have hw2:=List.all_eq_true.1 b1p w hw
      simp only [decide_eq_true_eq] at hw2
      rw [e]
      refine ⟨_,u,rfl,hu,small ?_⟩
      rw [V7]; simp only [v8,w7,Z0]; omega
     ·refine ⟨_,s,rfl,hs,small ?_⟩
      have:=hg.text
      rw [V7]; simp only [v8,w7,Z0]; omega
     ·obtain ⟨w,u,e,hu,hw⟩:=a9Z hL hs
      have hw2:=List.all_eq_true.1 b08 w hw
      simp only [Bool.and_eq_true,decide_eq_true_eq] at hw2
      rw [e]
      refine ⟨_,u,rfl,hu,small ?_⟩
      rw [V7]; simp only [v8,w7,Z0]; omega
     ·obtain ⟨z,u,e,hu,z0,z1⟩:=Z9 hL hs (n:=2) (by omega) (by omega)
      rw [e]
      refine ⟨_,u,rfl,hu,small ?_⟩
      rw [V7]; simp only [a3j,v8,w7,Z0]; omega
     ·refine ⟨_,s,rfl,hs,small ?_⟩
      rw [V7]; simp only [a3j,v8,w7,Z0]; omega
     ·obtain ⟨g,u,e,hu,hl,hb⟩:=b93 hQ hn hg.kids (by omega) hs
      rw [w4,e]
      refine ⟨_,u,rfl,hu,small ?_⟩
      have h4:=hg.kids
      have:x.Kids.length*DB h<=4*DB h:=Nat.mul_le_mul_right _ h4
      rw [V7]; simp only [a3j,w7,Z0]; omega
     ·exact other
     ·obtain ⟨g,u,e,hu,hl,hb⟩:=b93 hQ hn hg.kids (by omega) hs
      rw [w4,e]
      simp only [Option.bind_some]
      have h4:=hg.kids
      have h2:x.Kids.length=2:=by
       simp only [Bool.and_eq_true] at kt
       have:=kt.2.2.2.2
       simp at this
       omega
      have hgl:1<g.length:=by omega
      have eg:=List.getElem?_eq_getElem hgl
      generalize g[1]=w at eg
      have ei:idx g 1=some w:=y4 (i:=1) eg
      have e1:(1:Int).toNat=1:=rfl
      rw [ei,e1,eg]
      simp only [Option.bind_some]
      have:x.Kids.length*DB h<=4*DB h:=Nat.mul_le_mul_right _ h4
      cases hw:w.Kind != 7
      ·simp only [cond_false,Option.bind_some]
       refine ⟨_,u,rfl,hu,small ?_⟩
       rw [V7]; simp only [a3j,w7,Z0]; omega
      ·simp only [cond_true]
       refine ⟨_,u,rfl,hu,small ?_⟩
       have hs:=c3g (Val.mk 5 0 (⟨#[]⟩:ByteArray) [] [] [] []) g 1
       rw [V7] at hs
       simp only [a3j,v8,w7,Z0] at hs
       rw [V7]; simp only [a3j,w7,Z0]; omega
     ·obtain ⟨f,rfl⟩:∃ m,f=m+1:=⟨f-1,by omega⟩
      have hQ2:=c01 hL hT (show h<=4 by omega) hP f (by omega)
      obtain ⟨v,u,e,hu,hb⟩:=c8T hL hQ2 (by omega) (by omega) (by omega) hg hK hs f (y2 f).2.1 (y2 f).2.2.1 (y2 f).2.2.2
      have e':(y2 (f+1)).2.2.2 s t x ((h:Int)+1)=some (v,u):=e
      rw [e']
      exact ⟨v,u,rfl,hu,small (by omega)⟩
     ·obtain ⟨f,rfl⟩:∃ m,f=m+1:=⟨f-1,by omega⟩
      have hQ2:=c01 hL hT (show h<=4 by omega) hP f (by omega)
      obtain ⟨v,u,e,hu,hb⟩:=c8A hL hQ2 (by omega) (by omega) (by omega) hg hK hs f (by omega) (y2 f).2.1 (y2 f).2.2.1 (y2 f).2.2.2
      have e':(y2 (f+1)).2.2.1 s t x ((h:Int)+1)=some (v,u):=e
      rw [e']
      exact ⟨v,u,rfl,hu,small (by omega)⟩
     ·exact other
     ·have h1:1<=x.Kids.length:=by
       simp only [Bool.and_eq_true] at kt
       have:=kt.2.2.2.2
       simp at this
       omega
      obtain ⟨z,u,k',v,u',e1,e2,e3,hu',hb⟩:=kid s hs (by unfold isB; rw [hK]; rfl) h1
      rw [e1]
      simp only [Option.bind_some]
      rw [e2]
      simp only [Option.bind_some]
      rw [e3]
      exact ⟨v,u',rfl,hu',by omega⟩
     ·have h1:1<=x.Kids.length:=by
       simp only [Bool.and_eq_true] at kt
       have:=kt.2.2.2.2
       simp at this
       omega
      obtain ⟨z,u,k',v,u',e1,e2,e3,hu',hb⟩:=kid s hs (by unfold isB; rw [hK]; rfl) h1
      rw [e1]
      simp only [Option.bind_some]
      rw [e2]
      simp only [Option.bind_some]
      rw [e3]
      simp only [Option.bind_some]
      have hD2:=c9z (show h+1<=4 by omega)
      obtain ⟨w,e4,hb4⟩:=c4l hT ex v (by omega)
      rw [w4,e4]
      have h4:=hg.kids
      exact ⟨w,u',rfl,hu',by omega⟩
     ·exact other
     ·obtain ⟨v,u,e,hu,_,hb⟩:=b4L hL hs
      rw [e]
      simp only [Option.bind_some]
      unfold a5s
      rw [c15 [x.Text] (by simp)]
      refine ⟨_,u,rfl,hu,small ?_⟩
      have h5:=hg.text
      have h6:=b6c [x.Text] []
      simp only [J8,a3u] at h6
      have h7:=a61 v (List.foldl (a2v cS) [] [x.Text])
      unfold a7C at h7
      show k8 (Val.mk v.Kind v.Int_ v.Text v.Kids v.Keys v.Entries (List.foldl (a2v cS) [] [x.Text]))<=_
      omega
    ·have e:∀ n:Int,1<=n->n<=19->¬ x.Kind=n:=fun n h1 h2=>by simpa using hK n h1 h2
     unfold V4 a3b at hn
     rw [if_neg (e 3 (by omega) (by omega)),if_neg (e 4 (by omega) (by omega)),if_neg (e 6 (by omega) (by omega)),if_neg (e 19 (by omega) (by omega)),if_neg (by have:=e 1 (by omega) (by omega); have:=e 2 (by omega) (by omega); have:=e 5 (by omega) (by omega); have:=e 7 (by omega) (by omega); have:=e 8 (by omega) (by omega); have:=e 9 (by omega) (by omega); have:=e 11 (by omega) (by omega); have:=e 15 (by omega) (by omega); omega),
      if_neg (e 10 (by omega) (by omega)),if_neg (e 12 (by omega) (by omega)),if_neg (e 14 (by omega) (by omega)),if_neg (by have:=e 16 (by omega) (by omega); have:=e 17 (by omega) (by omega); omega),if_neg (e 18 (by omega) (by omega)),if_neg (e 13 (by omega) (by omega))] at hn
     simp at hn
 intro k f s hk hf hs
 exact key t.Nodes.length k f s (by omega) hk hf hs
theorem c4a (hL:L.length<=4194304)(hT:GT t):∀ h:Nat,h<=4->b95 L t h
 | 0,_=>d1G hL hT
 | h+1,hh=>c7A hL hT (by omega) (c4a hL hT h (by omega))
end
end Go.Pl
end
section
namespace Go.Pl
open Go Go.RowKit Go.Sx Go.Qx
section
variable {L:List Int}
abbrev d26:Type:=Int×Int×(List Api_Range)×Bool×(List ByteArray)×(List Int)×(List Int)×(List ByteArray)×(List ByteArray)
abbrev c8d (P Q:List Int):d26:=(8,0,[],false,[],P,Q,[],[])
theorem c1N (hL:L.length<=4194304){s:Semtypebase_Source}(h:OS L s)(r2:((List Api_TypeNode)×Int)×Semtypebase_Source)(N j:Nat)(hr:r2.1.1.length=N)(hN:1<=N)(hN2:N<=100)(hj:j<2)(tx:ByteArray)
 (hK:([(⟨#[97]⟩:ByteArray),(⟨#[98]⟩:ByteArray)]:List ByteArray)[j]?=some tx) (F:List Api_Field) (hF:F.length<=j) (a b:Int) :
 ∃ O t,a1y r2 ((j:Int),s,b0C F a b)=some (.next (((j+1:Nat):Int),t,b0C (F++O) a b))/\OS L t/\(O=[]\/∃ n o,O=[Api_Field.mk (Key.mk 0 tx) n o]/\inR N n=true):=by
 obtain ⟨x,t,e,ht,_,_⟩:=Z9 hL h (n:=2) (by omega) (by omega)
 unfold a1y
 simp only [v7]
 rw [show decide ((j:Int)<2)=true from decide_eq_true (by omega),e]
 simp only [cond_true,Option.bind_some]
 rw [j5 j (by omega),hr]
 cases hx:x==1
 ·exact ⟨[],t,by simp only [cond_false,Option.bind_some,List.append_nil],ht,.inl rfl⟩
 ·simp only [cond_true]
  rw [y4 hK,Int.toNat_natCast,hK]
  obtain ⟨n,t2,e2,ht2,n0,n1⟩:=Z9 hL ht (n:=(N:Int)) (by omega) (by omega)
  obtain ⟨o,t3,e3,ht3,_,_⟩:=Z9 hL ht2 (n:=2) (by omega) (by omega)
  simp only [Option.bind_some,e2,e3]
  rw [Z2 (by simp only [List.length_cons,List.length_nil]; omega)]
  exact ⟨[Api_Field.mk (Key.mk 0 tx) n (o==1)],t3,rfl,ht3,.inr ⟨n,_,rfl,a88 n0 n1⟩⟩
theorem c8q (hL:L.length<=4194304){s:Semtypebase_Source}(h:OS L s)(r2:((List Api_TypeNode)×Int)×Semtypebase_Source)(N i:Nat)(hr:r2.1.1.length=N)(hN:1<=N)(hN2:N<=100){a b:Int}(ha:inR N a=true)(hb:inR N b=true) :
 ∃ F t,z7 (a1y r2) ((2:Int).toNat+1) (0,s,(13,0,0,(⟨#[]⟩:ByteArray),[],[],a,b))=some (t,b0C F a b)/\OS L t/\F.length<=2/\GN N i (Api_TypeNode.mk 13 0 0 (⟨#[]⟩:ByteArray) [] F (a,b)):=by
 obtain ⟨O0,t3,e3,ht3,h0⟩:=c1N hL h r2 N 0 hr hN hN2 (by omega) _ rfl [] (by simp) a b
 have l0:O0.length<=1:=by rcases h0 with rfl | ⟨n,o,rfl,_⟩<;>simp
 obtain ⟨O1,t4,e4,ht4,h1⟩:=c1N hL ht3 r2 N 1 hr hN hN2 (by omega) _ rfl ([]++O0) (by simpa using l0) a b
 have l1:O1.length<=1:=by rcases h1 with rfl | ⟨n,o,rfl,_⟩<;>simp
 have e6:a1y r2 (((1+1:Nat):Int),t4,b0C (([]++O0)++O1) a b)=some (.done (t4,b0C (([]++O0)++O1) a b)):=rfl
 refine ⟨O0++O1,t4,?_,ht4,by simp only [List.length_append]; omega,?_⟩
 ·show z7 (a1y r2) (2+1) (((0:Nat):Int),s,b0C [] a b)=_
  simp only [z7,e3,e4,e6,Option.bind_some]
  rfl
 ·refine ⟨?_,fun hb=>absurd hb (show ¬ (false=true) by simp),by show (0:Nat)<=4; omega,by show (⟨#[]⟩:ByteArray).size<=5; decide,?_,?_,by show (-9223372036854775808:Int)<=0/\(0:Int)<=9223372036854775807/\(-9223372036854775808:Int)<=0/\(0:Int)<=9223372036854775807; decide⟩
  ·have hF:a2F N (O0++O1)=true:=by
    unfold a2F
    rw [Bool.and_eq_true,Bool.and_eq_true]
    refine ⟨?_,?_,?_⟩
    ·rcases h0 with rfl | ⟨n,o,rfl,_⟩<;>rcases h1 with rfl | ⟨n',o',rfl,_⟩<;>kernel_rfl
    ·rcases h0 with rfl | ⟨n,o,rfl,_⟩<;>rcases h1 with rfl | ⟨n',o',rfl,_⟩<;>kernel_rfl
    ·rcases h0 with rfl | ⟨n,o,rfl,q0⟩<;>rcases h1 with rfl | ⟨n',o',rfl,q1⟩<;>simp_all
   unfold V4 a3b
   simp only [hF,ha,hb,a6Z]
   simp
  ·show (O0++O1).length<=3
   simp only [List.length_append]
   omega
  ·intro f hf
   have hf:f∈O0++O1:=hf
   have one:∀ {O:List Api_Field} {K:Key},(O=[]\/∃ n o,O=[Api_Field.mk K n o]/\inR N n=true)->f∈O->f.Key_=K:=fun hO hm=>by
    rcases hO with rfl | ⟨n,o,rfl,_⟩
    ·cases hm
    ·rw [List.mem_singleton.1 hm]
   rcases List.mem_append.1 hf with hf | hf
   ·rw [one h0 hf]; decide
   ·rw [one h1 hf]; decide
structure MI (N i:Nat)(g:(List Api_TypeNode)×(List Int)×(List Int)):Prop where
 len:g.1.length=N+i
 nodes:GNs (N+3) g.1
 maps:∀ (j:Nat) (x:Api_TypeNode),N<=j->g.1[j]?=some x->x.Kind=13/\x.Fields.length<=2
 pos:∀ k∈g.2.1,∃ j:Nat,k=(j:Int)/\N<=j/\j<N+i
 neg:∀ k∈g.2.2,∃ j:Nat,k=(j:Int)/\N<=j/\j<N+i
 few:g.2.1.length<=i/\g.2.2.length<=i
theorem c8C {d:List Int}(hd:d.length<=4194304)(hL:L.length<=4194304) :
 ∃ (N:Nat) (ns:List Api_TypeNode) (P Q:List Int),1<=N/\N<=4/\a5y d L=some (Api_Type.mk ns 0,Api_Line.mk 8 0 [] (Api_Names.mk false []) P Q [] [])/\MI N 3 (ns,P,Q):=by
 obtain ⟨x,t1,e1,h1,x0,x1⟩:=Z9 hd (⟨rfl,by show (0:Int)<=0; omega,by show (0:Int)<=_; omega⟩:OS d (Semtypebase_Source.mk d 0)) (n:=4) (by omega) (by omega)
 obtain ⟨x,rfl⟩:=b1I x0
 obtain ⟨ns,t2,e2,h2,hlen,hns⟩:=c74 hd h1 (x+1) (by omega) (by omega)
 have hr:(((ns,(0:Int)),t2):((List Api_TypeNode)×Int)×Semtypebase_Source).1.1.length=x+1:=hlen
 obtain ⟨g,s',e,hs',hI⟩:=b7I (γ:=(List Api_TypeNode)×(List Int)×(List Int)) (L:=L) (step:=a1x ((ns,0),t2)) (fun g j s=>(j,(g.1,0),s,c8d g.2.1 g.2.2)) (fun g s=>((g.1,0),s,c8d g.2.1 g.2.2)) (MI (x+1)) 3
  (fun j g s hj hI hs=>by
    obtain ⟨a,u1,a1,hu1,a2,a3⟩:=Z9 hL hs (n:=((x+1:Nat):Int)) (by omega) (by omega)
    obtain ⟨b,u2,b1,hu2,b2,b3⟩:=Z9 hL hu1 (n:=((x+1:Nat):Int)) (by omega) (by omega)
    obtain ⟨F,u3,f1,hu3,f2,f3⟩:=c8q hL hu2 ((ns,0),t2) (x+1) g.1.length hr (by omega) (by omega) (a88 a2 a3) (a88 b2 b3)
    obtain ⟨c,u4,c1,hu4,c2,c3⟩:=Z9 hL hu3 (n:=3) (by omega) (by omega)
    have hl:=hI.len
    have hp:=hI.few
    have hw:wr .i64 (((x+1:Nat):Int)+(j:Int))=((x+1+j:Nat):Int):=by rw [v7,K2 (by omega) (by omega)]; omega
    have key:∀ P' Q':List Int,(∀ k∈P',k∈g.2.1\/k=((x+1+j:Nat):Int))->(∀ k∈Q',k∈g.2.2\/k=((x+1+j:Nat):Int))->P'.length<=j+1->Q'.length<=j+1 ->
     MI (x+1) (j+1) (g.1++[Api_TypeNode.mk 13 0 0 (⟨#[]⟩:ByteArray) [] F (a,b)],P',Q'):=fun P' Q' h1 h2 h3 h4 =>
     ⟨by simp only [List.length_append,List.length_cons,List.length_nil]; omega,hI.nodes.snoc (f3.mono (by omega)),fun i y hi hy=>by
      by_cases hlt:i<g.1.length
      ·rw [List.getElem?_append_left hlt] at hy
       exact hI.maps i y hi hy
      ·rw [List.getElem?_append_right (by omega)] at hy
       have h0:i-g.1.length=0:=by
        have:=(List.getElem?_eq_some_iff.1 hy).1
        simp at this
        omega
       rw [h0] at hy
       cases hy
       exact ⟨rfl,f2⟩,fun k hk=>by
      rcases h1 k hk with hk | rfl
      ·obtain ⟨i,e,q1,q2⟩:=hI.pos k hk
       exact ⟨i,e,q1,by omega⟩
      ·exact ⟨_,rfl,by omega,by omega⟩,fun k hk=>by
      rcases h2 k hk with hk | rfl
      ·obtain ⟨i,e,q1,q2⟩:=hI.neg k hk
       exact ⟨i,e,q1,by omega⟩
      ·exact ⟨_,rfl,by omega,by omega⟩,h3,h4⟩
    have hjd:decide ((j:Int)<3)=true:=decide_eq_true (by omega)
    have hr':(((ns.length:Nat)):Int)=((x+1:Nat):Int):=by rw [hlen]
    rcases Bool.eq_false_or_eq_true (c==0) with hc | hc
    ·refine ⟨(g.1++[Api_TypeNode.mk 13 0 0 (⟨#[]⟩:ByteArray) [] F (a,b)],g.2.1++[((x+1+j:Nat):Int)],g.2.2),u4,?_,hu4,key _ _ (fun k hk=>by simpa using hk) (fun k hk=>.inl hk) (by simp only [List.length_append,List.length_cons,List.length_nil]; omega) (by omega)⟩
     have hc1:(c==1)=false:=by have:c=0:=by simpa using hc
                               subst this; rfl
     unfold a1x
     simp only [hr']
     rw [hjd,a1]
     simp only [cond_true,Option.bind_some]
     rw [b1]
     simp only [Option.bind_some]
     rw [f1]
     simp only [Option.bind_some]
     rw [Z2 (by simp only [List.length_cons,List.length_nil]; omega),c1]
     simp only [Option.bind_some,hc,cond_true]
     rw [Z2 (by simp only [List.length_cons,List.length_nil]; omega)]
     simp only [Option.bind_some,hc1,cond_false,hw]
     rw [v7,j5 j (by omega)]
    ·rcases Bool.eq_false_or_eq_true (c==1) with hc1 | hc1
     ·refine ⟨(g.1++[Api_TypeNode.mk 13 0 0 (⟨#[]⟩:ByteArray) [] F (a,b)],g.2.1,g.2.2++[((x+1+j:Nat):Int)]),u4,?_,hu4,key _ _ (fun k hk=>.inl hk) (fun k hk=>by simpa using hk) (by omega) (by simp only [List.length_append,List.length_cons,List.length_nil]; omega)⟩
      unfold a1x
      simp only [hr']
      rw [hjd,a1]
      simp only [cond_true,Option.bind_some]
      rw [b1]
      simp only [Option.bind_some]
      rw [f1]
      simp only [Option.bind_some]
      rw [Z2 (by simp only [List.length_cons,List.length_nil]; omega),c1]
      simp only [Option.bind_some,hc,cond_false,hc1,cond_true]
      rw [Z2 (by simp only [List.length_cons,List.length_nil]; omega)]
      simp only [Option.bind_some,hw]
      rw [v7,j5 j (by omega)]
     ·refine ⟨(g.1++[Api_TypeNode.mk 13 0 0 (⟨#[]⟩:ByteArray) [] F (a,b)],g.2.1,g.2.2),u4,?_,hu4,key _ _ (fun k hk=>.inl hk) (fun k hk=>.inl hk) (by omega) (by omega)⟩
      unfold a1x
      simp only [hr']
      rw [hjd,a1]
      simp only [cond_true,Option.bind_some]
      rw [b1]
      simp only [Option.bind_some]
      rw [f1]
      simp only [Option.bind_some]
      rw [Z2 (by simp only [List.length_cons,List.length_nil]; omega),c1]
      simp only [Option.bind_some,hc,cond_false,hc1]
      rw [v7,j5 j (by omega)]) (fun g s=>rfl) 3 0 ((3:Int).toNat+1) (ns,[],[]) (Semtypebase_Source.mk L 0) rfl (by decide)
  ⟨by simpa using hlen,fun i y hy=>(hns i y hy).mono (by omega),(fun j y hj hy=>by
   have h0:j<ns.length:=(List.getElem?_eq_some_iff.1 hy).1
   omega),(fun k hk=>by cases hk),(fun k hk=>by cases hk),by simp⟩ ⟨rfl,by show (0:Int)<=0; omega,by show (0:Int)<=_; omega⟩
 refine ⟨x+1,g.1,g.2.1,g.2.2,by omega,by omega,?_,hI⟩
 unfold a5y
 rw [e1]
 simp only [Option.bind_some]
 rw [show wr .i64 (1+(x:Int))=((x+1:Nat):Int) by rw [v7,K2 (by omega) (by omega)]; omega,e2]
 simp only [Option.bind_some]
 have e':z7 (a1x ((ns,0),t2)) ((3:Int).toNat+1) (0,(ns,0),Semtypebase_Source.mk L 0,(8,0,[],false,[],[],[],[],[]))=some ((g.1,0),s',c8d g.2.1 g.2.2):=e
 rw [e']
 rfl
end
end Go.Pl
end
section
namespace Go.Pl
open Go Go.RowKit Go.Sx Go.Qx
theorem a4q {α β:Type}{step:Int->Option (Fl Int (Sum Unit β))}(xs:List α)(p:α->Bool)(out:Nat->α->β)
 (hst:∀ (i:Nat) (x:α),xs[i]?=some x->step (i:Int)=some (if p x=true then .done (.inr (out i x)) else .next ((i+1:Nat):Int)))
 (hend:step (xs.length:Int)=some (.done (.inl ()))) :
 (∃ i x,xs[i]?=some x/\p x=true/\(∀ j,j<i->∀ y,xs[j]?=some y->p y=false)/\z7 step (xs.length+1) 0=some (.inr (out i x)))\/(xs.any p=false/\z7 step (xs.length+1) 0=some (.inl ())):=by
 have key:∀ (m a k:Nat),a+m=xs.length->m+1<=k->(∀ j,j<a->∀ y,xs[j]?=some y->p y=false) ->
  (∃ i x,xs[i]?=some x/\p x=true/\(∀ j,j<i->∀ y,xs[j]?=some y->p y=false)/\z7 step k (a:Int)=some (.inr (out i x)))\/(xs.any p=false/\z7 step k (a:Int)=some (.inl ())):=by
  intro m
  induction m with
  | zero =>
    intro a k h1 h2 h3
    obtain ⟨k,rfl⟩:∃ m,k=m+1:=⟨k-1,by omega⟩
    have e:a=xs.length:=by omega
    subst e
    refine .inr ⟨?_,by simp only [z7,hend,Option.bind_some]⟩
    rw [List.any_eq_false]
    intro x hx
    obtain ⟨j,hj,rfl⟩:=List.getElem_of_mem hx
    have:=h3 j hj _ (List.getElem?_eq_getElem hj)
    simp [this]
  | succ m ih =>
    intro a k h1 h2 h3
    obtain ⟨k,rfl⟩:∃ m,k=m+1:=⟨k-1,by omega⟩
    have ha:a<xs.length:=by omega
    have ex:=List.getElem?_eq_getElem ha
    have hs:=hst a _ ex
    cases hp:p xs[a] with
    | true =>
      rw [if_pos hp] at hs
      exact .inl ⟨a,xs[a],ex,hp,h3,by simp only [z7,hs,Option.bind_some]⟩
    | false =>
      rw [if_neg (by simp [hp])] at hs
      simp only [z7,hs,Option.bind_some]
      refine ih (a+1) k (by omega) (by omega) fun j hj y hy=>?_
      by_cases hja:j=a
      ·subst hja
       rw [ex] at hy
       cases hy
       exact hp
      ·exact h3 j (by omega) y hy
 exact key xs.length 0 (xs.length+1) (by omega) (Nat.le_refl _) (fun j hj=>by omega)
theorem b2u {α:Type}{xs:List α}{p:α->Bool}{i:Nat}{x:α}(h:xs[i]?=some x)(hp:p x=true):xs.any p=true:=List.any_eq_true.2 ⟨x,List.mem_of_getElem? h,hp⟩
theorem d2L:decide ((0:Int) <= -1)=false:=rfl
theorem c3C (i:Nat):decide ((0:Int)<=(i:Int))=true:=decide_eq_true (by omega)
theorem c7p (a b:Key):Z3 a b=Z3 b a:=by
 rw [Bool.eq_iff_iff,a8u,a8u,a8t a b]
 omega
theorem c6K (a b:ByteArray):Q4 a b=Q4 b a:=by
 rw [b9u,b9u]
 have:cS b a = - cS a b:=d22.anti a b
 by_cases h:cS a b=0
 ·simp [h,this]
 ·have h2:¬ cS b a=0:=by omega
  simp [h,h2]
theorem a73 (a b:Key):a3P a b=Z3 a b:=rfl
theorem c4o (l:List Key)(k:Key)(hl:l.length<=4194304):Q6 l k=some (l.any fun y=>Z3 y k):=by
 unfold Q6 K8
 rw [w4]
 rcases a4q (step:=J7 l k) l (fun y=>Z3 y k) (fun i _=>(i:Int)) (fun i x hx=>by
  have hi:i<l.length:=(List.getElem?_eq_some_iff.1 hx).1
  unfold J7
  rw [k9 hi,y4 hx]
  simp only [cond_true,Option.bind_some,a73,v7]
  rw [j5 i (by omega),c7p k x]
  cases Z3 x k<;>rfl) (by
  unfold J7
  simp) with ⟨i,x,hx,hp,_,e⟩ | ⟨h,e⟩
 ·rw [e,b2u hx hp]
  simp only [Option.bind_some,j9,c3C]
 ·rw [e,h]
  rfl
theorem c6k (l:List ByteArray)(k:ByteArray)(hl:l.length<=4194304):a1i l k=some (l.any fun y=>Q4 y k):=by
 unfold a1i a3I
 rw [w4]
 rcases a4q (step:=a1j l k) l (fun y=>Q4 y k) (fun i _=>(i:Int)) (fun i x hx=>by
  have hi:i<l.length:=(List.getElem?_eq_some_iff.1 hx).1
  unfold a1j
  rw [k9 hi,y4 hx]
  simp only [cond_true,Option.bind_some,v7]
  rw [j5 i (by omega),c6K k x]
  cases Q4 x k<;>rfl) (by
  unfold a1j
  simp) with ⟨i,x,hx,hp,_,e⟩ | ⟨h,e⟩
 ·rw [e,b2u hx hp]
  simp only [Option.bind_some,j9,c3C]
 ·rw [e,h]
  rfl
theorem a7w (l:List Int)(f:Int->Option Bool)(p:Int->Bool)(hl:l.length<=4194304)(hf:∀ x∈l,f x=some (p x)):Y0 l f=some (l.any p):=by
 unfold Y0 a4E
 rw [w4]
 rcases a4q (step:=a1I l f) l p (fun i _=>(i:Int)) (fun i x hx=>by
  have hi:i<l.length:=(List.getElem?_eq_some_iff.1 hx).1
  unfold a1I
  rw [k9 hi,y4 hx]
  simp only [cond_true,Option.bind_some,v7]
  rw [j5 i (by omega),hf x (List.mem_of_getElem? hx)]
  cases p x<;>rfl) (by
  unfold a1I
  simp) with ⟨i,x,hx,hp,_,e⟩ | ⟨h,e⟩
 ·rw [e,b2u hx hp]
  simp only [Option.bind_some,j9,c3C]
 ·rw [e,h]
  rfl
def a4i (x:Api_TypeNode)(k:Key):Int:=if k.Kind=0 then x.Rest.1 else x.Rest.2
def atM (x:Api_TypeNode)(k:Key):Int:=match x.Fields.find? (fun f=>Z3 f.Key_ k) with
 | some f=>f.Node
 | none=>a4i x k
theorem b4E {α:Type}{p:α->Bool}:∀ {l:List α} {i:Nat} {x:α},l[i]?=some x->p x=true->(∀ j,j<i->∀ y,l[j]?=some y->p y=false)->l.find? p=some x
 | [],_,_,h,_,_=>by simp at h
 | y::r,0,x,h,hp,_=>by
   simp at h
   subst h
   simp [hp]
 | y::r,i+1,x,h,hp,hn=>by
   have hy:=hn 0 (by omega) y rfl
   rw [List.find?_cons,hy]
   exact b4E (l:=r) (i:=i) (by simpa using h) hp fun j hj z hz=>hn (j+1) (by omega) z (by simpa using hz)
theorem c1C {α:Type}{p:α->Bool}{l:List α}(h:l.any p=false):l.find? p=none:=by
 rw [List.find?_eq_none]
 rw [List.any_eq_false] at h
 exact h
theorem b7s {k:Key}(h:Y9 k=true):k.Kind=0\/k.Kind=1:=by
 unfold Y9 at h
 split at h
 ·left; assumption
 ·split at h
  ·right; assumption
  ·cases h
theorem c53 (x:Api_TypeNode)(k:Key)(hf:x.Fields.length<=4194304)(hk:Y9 k=true):a7q x k=some (atM x k):=by
 unfold a7q atM
 rw [w4]
 rcases a4q (step:=b1q x k) x.Fields (fun f=>Z3 f.Key_ k) (fun _ f=>f.Node) (fun i f hx=>by
  have hi:i<x.Fields.length:=(List.getElem?_eq_some_iff.1 hx).1
  unfold b1q
  rw [k9 hi,y4 hx]
  simp only [cond_true,Option.bind_some,a73,v7]
  rw [j5 i (by omega)]
  cases Z3 f.Key_ k<;>rfl) (by
  unfold b1q
  simp) with ⟨i,f,hx,hp,hn,e⟩ | ⟨h,e⟩
 ·rw [e,b4E hx hp hn]
  rfl
 ·rw [e,c1C h]
  unfold a4i
  rcases b7s hk with h0 | h1
  ·simp [j9,h0]
  ·simp [j9,h1]
theorem c9Y (v:Val)(k:Key)(hl:v.Keys.length<=4194304):∃ r,a6K v k=some r/\decide (r<0)=!(v.Keys.any fun y=>Z3 y k):=by
 unfold a6K
 rw [w4]
 rcases a4q (step:=a49 v k) v.Keys (fun y=>Z3 y k) (fun i _=>(i:Int)) (fun i x hx=>by
  have hi:i<v.Keys.length:=(List.getElem?_eq_some_iff.1 hx).1
  unfold a49
  rw [k9 hi,y4 hx]
  simp only [cond_true,Option.bind_some,a73,v7]
  rw [j5 i (by omega)]
  cases Z3 x k<;>rfl) (by
  unfold a49
  simp) with ⟨i,x,hx,hp,_,e⟩ | ⟨h,e⟩
 ·rw [e,b2u hx hp]
  exact ⟨(i:Int),rfl,decide_eq_false (by omega)⟩
 ·rw [e,h]
  exact ⟨-1,rfl,rfl⟩
theorem c69 (x:Api_TypeNode)(k:Key)(hl:x.Fields.length<=4194304):(∃ (i:Nat) (f:Api_Field),a2G x k=some (i:Int)/\x.Fields[i]?=some f/\atM x k=f.Node)\/(a2G x k=some (-1)/\atM x k=a4i x k):=by
 unfold a2G atM
 rw [w4]
 rcases a4q (step:=a4k x k) x.Fields (fun f=>Z3 f.Key_ k) (fun i _=>(i:Int)) (fun i f hx=>by
  have hi:i<x.Fields.length:=(List.getElem?_eq_some_iff.1 hx).1
  unfold a4k
  rw [k9 hi,y4 hx]
  simp only [cond_true,Option.bind_some,a73,v7]
  rw [j5 i (by omega)]
  cases Z3 f.Key_ k<;>rfl) (by
  unfold a4k
  simp) with ⟨i,f,hx,hp,hn,e⟩ | ⟨h,e⟩
 ·left
  rw [e,b4E hx hp hn]
  exact ⟨i,f,rfl,hx,rfl⟩
 ·right
  rw [e,c1C h]
  exact ⟨rfl,rfl⟩
end Go.Pl
namespace Go.Pl
open Go Go.RowKit Go.Sx Go.Qx
section
variable (μ:Val->Int->Bool)
def b5r (l:List Val)(ks:List Int):Bool:=((l.length:Int)==(ks.length:Int))&&(l.zip ks).all fun p=>μ p.1 p.2
def a3c (v:Val)(x:Api_TypeNode):Bool:=(x.Fields.all fun f=>f.Optional||v.Keys.any fun y=>Z3 y f.Key_)&&(v.Keys.zip v.Kids).all fun p=>μ p.2 (atM x p.1)
def c2z (ks:List Int):Int:=ks.getD (ks.length-1) 0
def b38 (e:Ent)(ks:List Int):Bool:=!b5r μ e.Args (ks.take (ks.length-1))||(!e.Fails&&μ e.Result (c2z ks))
def c6e (v:Val)(x:Api_TypeNode):Bool:=(v.Int_==((x.Kids.length-1:Nat):Int))&&v.Entries.all fun e=>b38 μ e x.Kids
def unM (v:Val)(x:Api_TypeNode):Bool :=
 if x.Kind=2 then true else if x.Kind=3 then v.Kind==1&&(decide (x.Lo<=v.Int_)&&decide (v.Int_<=x.Hi)) else if x.Kind=4 then v.Kind==2&&Q4 v.Text x.Text else
 if x.Kind=5 then v.Kind==2 else if x.Kind=6 then v.Kind==3&&Q4 v.Text x.Text else if x.Kind=7 then v.Kind==3 else if x.Kind=8 then v.Kind==4 else if x.Kind=9 then v.Kind==5 else
 if x.Kind=11 then v.Kind==6 else if x.Kind=15 then v.Kind==9 else if x.Kind=10 then v.Kind==6&&b5r μ v.Kids x.Kids else if x.Kind=12 then v.Kind==7&&b5r μ v.Kids x.Kids else
 if x.Kind=13 then v.Kind==8&&a3c μ v x else if x.Kind=14 then v.Kind==9&&c6e μ v x else if x.Kind=16 then x.Kids.any (μ v) else if x.Kind=17 then x.Kids.all (μ v) else
 if x.Kind=18 then !μ v (x.Kids.getD 0 0) else if x.Kind=19 then v.Labels.any fun y=>Q4 y x.Text else false
end
def FU (b:Nat):Nat:=4*(b*11+10)+4
def w9 (t:Api_Type)(v:Val)(k:Int):Bool:=(w5 (FU (k8 v)) v t k).getD false
def MS (v:Val)(k:Nat):Nat:=k8 v*11+(10-k)
theorem a4z {α β:Type}{l:List α}{m:List β}{i:Nat}{p:α×β}(h:(l.zip m)[i]?=some p):l[i]?=some p.1/\m[i]?=some p.2:=by
 obtain ⟨a,b⟩:=p
 rw [List.getElem?_zip_eq_some] at h
 exact h
theorem c5G {l:List Val}(h:a1o l=true){x:Val}(hx:x∈l):vOK x=true:=by
 rw [a4B] at h
 exact List.all_eq_true.1 h x hx
section
variable {t:Api_Type}{f0 b:Nat}
def RH (t:Api_Type)(f0 b:Nat):Prop:=∀ (v:Val) (k:Nat) (f:Nat),k8 v<b->vOK v=true->k<t.Nodes.length->f0<=f->X6 f v t (k:Int)=some (w9 t v (k:Int))/\w5 f v t (k:Int)=some (w9 t v (k:Int))
theorem c1l (hR:RH t f0 b){l:List Val}{ks:List Int}(hl:∀ x∈l,k8 x<b)(ho:a1o l=true)(hk:∀ k∈ks,inR t.Nodes.length k=true)(hlen:l.length<=4194304)(f:Nat)(hf:f0+1<=f) :
 a5n f l t ks=some (b5r (w9 t) l ks)/\a0n f l t ks=some (b5r (w9 t) l ks):=by
 obtain ⟨f,rfl⟩:∃ m,f=m+1:=⟨f-1,by omega⟩
 by_cases he:l.length=ks.length
 ·have e1:((l.length:Int) != (ks.length:Int))=false:=by simp [he]
  have e2:((l.length:Int)==(ks.length:Int))=true:=by simp [he]
  have hz:(l.zip ks).length=l.length:=by rw [List.length_zip]; omega
  have one:∀ (i:Nat) (p:Val×Int),(l.zip ks)[i]?=some p->i<l.length/\idx l (i:Int)=some p.1/\idx ks (i:Int)=some p.2/\X6 f p.1 t p.2=some (w9 t p.1 p.2)/\w5 f p.1 t p.2=some (w9 t p.1 p.2):=fun i p hp=>by
   obtain ⟨h1,h2⟩:=a4z hp
   obtain ⟨j,hj,hj2⟩:=a0v (hk _ (List.mem_of_getElem? h2))
   have hm:=List.mem_of_getElem? h1
   have:=hR p.1 j f (hl _ hm) (c5G ho hm) hj2 (by omega)
   rw [<- hj] at this
   exact ⟨(List.getElem?_eq_some_iff.1 h1).1,y4 h1,y4 h2,this⟩
  have l1:=J4 (step:=a7L l t ks (X6 f)) (l.zip ks) (fun p=>w9 t p.1 p.2) (fun i=>(i:Int)) () false (fun i p hp=>by
   obtain ⟨h0,h1,h2,h3,_⟩:=one i p hp
   unfold a7L
   rw [k9 h0,h1]
   simp only [cond_true,Option.bind_some,v7]
   rw [h2]
   simp only [Option.bind_some]
   rw [h3,j5 i (by omega)]
   exact a3B _ _) (by
   unfold a7L
   simp [hz])
  have l2:=J4 (step:=a1X l t ks (w5 f)) (l.zip ks) (fun p=>w9 t p.1 p.2) (fun i=>(i:Int)) () false (fun i p hp=>by
   obtain ⟨h0,h1,h2,_,h3⟩:=one i p hp
   unfold a1X
   rw [k9 h0,h1]
   simp only [cond_true,Option.bind_some,v7]
   rw [h2]
   simp only [Option.bind_some]
   rw [h3,j5 i (by omega)]
   exact a3B _ _) (by
   unfold a1X
   simp [hz])
  rw [hz] at l1 l2
  unfold b5r
  constructor
  ·show a9b f (a5n f) (W6 f) (a0h f) (X6 f) (a3d f) (a3f f) (a2q f) l t ks=_
   unfold a9b
   have l1':z7 (a7L l t ks (X6 f)) (l.length+1) 0=_:=l1
   rw [e1,w4,l1',e2]
   cases (l.zip ks).all fun p=>w9 t p.1 p.2<;>rfl
  ·show a2d f (a0R f) (a01 f) (w5 f) (a0n f) l t ks=_
   unfold a2d
   have l2':z7 (a1X l t ks (w5 f)) (l.length+1) 0=_:=l2
   rw [e1,w4,l2',e2]
   cases (l.zip ks).all fun p=>w9 t p.1 p.2<;>rfl
 ·have e1:((l.length:Int) != (ks.length:Int))=true:=by simp; omega
  have e2:((l.length:Int)==(ks.length:Int))=false:=by simp; omega
  unfold b5r
  rw [e2]
  constructor
  ·show a9b f (a5n f) (W6 f) (a0h f) (X6 f) (a3d f) (a3f f) (a2q f) l t ks=_
   unfold a9b
   rw [e1]; rfl
  ·show a2d f (a0R f) (a01 f) (w5 f) (a0n f) l t ks=_
   unfold a2d
   rw [e1]; rfl
theorem c42 {ks:List Int}(h:1<=ks.length):ks[ks.length-1]?=some (c2z ks):=by
 unfold c2z
 rw [List.getD_eq_getElem?_getD,List.getElem?_eq_getElem (show ks.length-1<ks.length by omega)]
 rfl
theorem c4f {ks:List Int}(h:1<=ks.length)(h2:ks.length<=4194304):cut ks 0 (w64 ((ks.length:Int)-1))=some (ks.take (ks.length-1)):=by
 rw [show w64 ((ks.length:Int)-1)=((ks.length-1:Nat):Int) by rw [K2 (by omega) (by omega)]; omega]
 unfold cut
 rw [if_pos (by omega)]
 simp
theorem c9K (hR:RH t f0 b){e:Ent}(ha:∀ x∈e.Args,k8 x<b)(hr:k8 e.Result<b)(he:eOK e=true)(hlen:e.Args.length<=4194304){x:Api_TypeNode}(hk:∀ k∈x.Kids,inR t.Nodes.length k=true)(h1:1<=x.Kids.length)(h4:x.Kids.length<=4194304)(f:Nat)(hf:f0+2<=f) :
 W6 f e t x=some (b38 (w9 t) e x.Kids):=by
 obtain ⟨f,rfl⟩:∃ m,f=m+1:=⟨f-1,by omega⟩
 rw [b4q] at he
 simp only [Bool.and_eq_true] at he
 have hall:=(c1l hR (ks:=x.Kids.take (x.Kids.length-1)) ha he.1 (fun k hkk=>hk k (List.mem_of_mem_take hkk)) hlen f (by omega)).1
 show a6E f (a5n f) (W6 f) (a0h f) (X6 f) (a3d f) (a3f f) (a2q f) e t x=_
 unfold a6E b38
 simp only [v7]
 rw [c4f h1 h4]
 simp only [Option.bind_some]
 rw [hall]
 simp only [Option.bind_some,a0Y]
 cases b5r (w9 t) e.Args (x.Kids.take (x.Kids.length-1))
 ·rfl
 cases hF:e.Fails
 ·have hl:=c42 h1
  obtain ⟨j,hj,hj2⟩:=a0v (hk _ (List.mem_of_getElem? hl))
  have hv:vOK e.Result=true:=by have:=he.2; rw [hF] at this; simpa using this
  have:=(hR e.Result j f hr hv hj2 (by omega)).1
  rw [<- hj] at this
  have hw:w64 ((x.Kids.length:Int)-1)=((x.Kids.length-1:Nat):Int):=by rw [K2 (by omega) (by omega)]; omega
  simp only [Bool.not_true,Bool.not_false,cond_false,cond_true,Bool.false_or,Bool.true_and]
  rw [hw,y4 hl]
  simp only [Option.bind_some]
  rw [this]
 ·rfl
theorem c4S (hR:RH t f0 b){v:Val}(hv:k8 v<=b)(ho:a4Z v.Entries=true)(hb:b<=4194304){x:Api_TypeNode}(hk:∀ k∈x.Kids,inR t.Nodes.length k=true)(h1:1<=x.Kids.length)(h4:x.Kids.length<=4194304)(f:Nat)(hf:f0+3<=f) :
 a0h f v t x=some (c6e (w9 t) v x)/\a0R f v t x=some (c6e (w9 t) v x):=by
 obtain ⟨f,rfl⟩:∃ m,f=m+1:=⟨f-1,by omega⟩
 have hbe:=a02 v
 have hle:=a3k v.Entries
 have hw:w64 ((x.Kids.length:Int)-1)=((x.Kids.length-1:Nat):Int):=by rw [K2 (by omega) (by omega)]; omega
 have ent:∀ e∈v.Entries,(∀ y∈e.Args,k8 y<b)/\k8 e.Result<b/\eOK e=true/\e.Args.length<=4194304:=fun e he=>by
  have hm:=X7 he
  have h2:=a1k e
  have h3:=a15 e.Args
  refine ⟨fun y hy=>by have:=a0N hy; omega,by omega,?_,by omega⟩
  rw [a8c] at ho
  exact List.all_eq_true.1 ho e he
 have l1:z7 (a4J v t x (W6 f)) (v.Entries.length+1) 0=some (if (v.Entries.all fun e=>b38 (w9 t) e x.Kids)=true then .inl () else .inr false):=by
  refine J4 v.Entries (fun e=>b38 (w9 t) e x.Kids) (fun i=>(i:Int)) () false ?_ ?_
  ·intro i e he
   have hi:i<v.Entries.length:=(List.getElem?_eq_some_iff.1 he).1
   obtain ⟨a1,a2,a3,a4⟩:=ent e (List.mem_of_getElem? he)
   unfold a4J
   rw [k9 hi,y4 he]
   simp only [cond_true,Option.bind_some,v7]
   rw [c9K hR a1 a2 a3 a4 hk h1 h4 f (by omega),j5 i (by omega)]
   exact a3B _ _
  ·unfold a4J
   simp
 have l2:z7 (a2P v t x (a0n f) (w5 f)) (v.Entries.length+1) 0=some (if (v.Entries.all fun e=>b38 (w9 t) e x.Kids)=true then .inl () else .inr false):=by
  refine J4 v.Entries (fun e=>b38 (w9 t) e x.Kids) (fun i=>(i:Int)) () false ?_ ?_
  ·intro i e he
   have hi:i<v.Entries.length:=(List.getElem?_eq_some_iff.1 he).1
   obtain ⟨a1,a2,a3,a4⟩:=ent e (List.mem_of_getElem? he)
   have a3':=a3
   rw [b4q] at a3'
   simp only [Bool.and_eq_true] at a3'
   have hall:=(c1l hR (ks:=x.Kids.take (x.Kids.length-1)) a1 a3'.1 (fun k hkk=>hk k (List.mem_of_mem_take hkk)) a4 f (by omega)).2
   unfold a2P
   rw [k9 hi,y4 he]
   simp only [cond_true,Option.bind_some,v7]
   rw [c4f h1 h4]
   simp only [Option.bind_some]
   rw [hall,j5 i (by omega)]
   simp only [Option.bind_some,a0Y]
   unfold b38
   cases b5r (w9 t) e.Args (x.Kids.take (x.Kids.length-1))
   ·rfl
   cases hF:e.Fails
   ·have hl:=c42 h1
    obtain ⟨j,hj,hj2⟩:=a0v (hk _ (List.mem_of_getElem? hl))
    have hv2:vOK e.Result=true:=by have:=a3'.2; rw [hF] at this; simpa using this
    have:=(hR e.Result j f a2 hv2 hj2 (by omega)).2
    rw [<- hj] at this
    simp only [Bool.not_true,Bool.not_false,cond_false,cond_true,Bool.false_or,Bool.true_and]
    rw [hw,y4 hl]
    simp only [Option.bind_some]
    rw [this]
    simp only [Option.bind_some]
    cases w9 t e.Result (c2z x.Kids)<;>rfl
   ·rfl
  ·unfold a2P
   simp
 unfold c6e
 have e0:(v.Int_ != ((x.Kids.length-1:Nat):Int))=!(v.Int_==((x.Kids.length-1:Nat):Int)):=rfl
 constructor
 ·show a7g f (a5n f) (W6 f) (a0h f) (X6 f) (a3d f) (a3f f) (a2q f) v t x=_
  unfold a7g
  simp only [v7]
  rw [hw,w4,l1,e0]
  cases (v.Int_==((x.Kids.length-1:Nat):Int))
  ·rfl
  cases v.Entries.all fun e=>b38 (w9 t) e x.Kids<;>rfl
 ·show a5p f (a0R f) (a01 f) (w5 f) (a0n f) v t x=_
  unfold a5p
  simp only [v7]
  rw [hw,w4,l2,e0]
  cases (v.Int_==((x.Kids.length-1:Nat):Int))
  ·rfl
  cases v.Entries.all fun e=>b38 (w9 t) e x.Kids<;>rfl
theorem d16 {x:Api_TypeNode}{N:Nat}(hf:∀ f∈x.Fields,inR N f.Node=true)(h0:inR N x.Rest.1=true)(h1:inR N x.Rest.2=true)(k:Key):inR N (atM x k)=true:=by
 unfold atM
 cases h:x.Fields.find? fun f=>Z3 f.Key_ k with
 | some f=>exact hf f (List.mem_of_find?_eq_some h)
 | none =>
   simp only
   unfold a4i
   split<;>assumption
theorem c5m (hR:RH t f0 b){v:Val}(hv:k8 v<=b)(ho:a1o v.Kids=true)(hm:a75 v=true)(hb:b<=4194304){x:Api_TypeNode}(hf:∀ f∈x.Fields,inR t.Nodes.length f.Node=true)(h0:inR t.Nodes.length x.Rest.1=true)(h1:inR t.Nodes.length x.Rest.2=true)(h3:x.Fields.length<=4194304)(f:Nat)(hff:f0+1<=f) :
 a2q f v t x=some (a3c (w9 t) v x)/\a01 f v t x=some (a3c (w9 t) v x):=by
 obtain ⟨f,rfl⟩:∃ m,f=m+1:=⟨f-1,by omega⟩
 have hbe:=a02 v
 have hkl:=a5D v.Keys
 unfold a75 at hm
 simp only [Bool.and_eq_true] at hm
 have hlen:v.Keys.length=v.Kids.length:=by simpa using hm.1
 have hz:(v.Keys.zip v.Kids).length=v.Keys.length:=by rw [List.length_zip]; omega
 have a1:z7 (a7u v x) (x.Fields.length+1) 0=some (if (x.Fields.all fun f=>f.Optional||v.Keys.any fun y=>Z3 y f.Key_)=true then .inl () else .inr false):=by
  refine J4 x.Fields (fun f=>f.Optional||v.Keys.any fun y=>Z3 y f.Key_) (fun i=>(i:Int)) () false ?_ ?_
  ·intro i g hx
   have hi:i<x.Fields.length:=(List.getElem?_eq_some_iff.1 hx).1
   unfold a7u
   rw [k9 hi,y4 hx]
   simp only [cond_true,Option.bind_some,v7]
   rw [c4o _ _ (by omega),j5 i (by omega)]
   cases g.Optional<;>cases (v.Keys.any fun y=>Z3 y g.Key_)<;>rfl
  ·unfold a7u
   simp
 have a2:z7 (a3l v x) (x.Fields.length+1) 0=some (if (x.Fields.all fun f=>f.Optional||v.Keys.any fun y=>Z3 y f.Key_)=true then .inl () else .inr false):=by
  refine J4 x.Fields (fun f=>f.Optional||v.Keys.any fun y=>Z3 y f.Key_) (fun i=>(i:Int)) () false ?_ ?_
  ·intro i g hx
   have hi:i<x.Fields.length:=(List.getElem?_eq_some_iff.1 hx).1
   obtain ⟨r,e1,e2⟩:=c9Y v g.Key_ (by omega)
   unfold a3l
   rw [k9 hi,y4 hx]
   simp only [cond_true,Option.bind_some,v7]
   rw [e1,j5 i (by omega)]
   simp only [Option.bind_some]
   rw [e2]
   cases g.Optional<;>cases (v.Keys.any fun y=>Z3 y g.Key_)<;>rfl
  ·unfold a3l
   simp
 have one:∀ (i:Nat) (p:Key×Val),(v.Keys.zip v.Kids)[i]?=some p->i<v.Keys.length/\idx v.Keys (i:Int)=some p.1/\idx v.Kids (i:Int)=some p.2/\Y9 p.1=true/\X6 f p.2 t (atM x p.1)=some (w9 t p.2 (atM x p.1))/\w5 f p.2 t (atM x p.1)=some (w9 t p.2 (atM x p.1)):=fun i p hp=>by
  obtain ⟨q1,q2⟩:=a4z hp
  have m1:=List.mem_of_getElem? q1
  have m2:=List.mem_of_getElem? q2
  obtain ⟨j,hj,hj2⟩:=a0v (d16 hf h0 h1 p.1)
  have hbm:=a0N m2
  have:=hR p.2 j f (by omega) (c5G ho m2) hj2 (by omega)
  rw [<- hj] at this
  exact ⟨(List.getElem?_eq_some_iff.1 q1).1,y4 q1,y4 q2,List.all_eq_true.1 hm.2.2 _ m1,this⟩
 have b1:=J4 (step:=a5O v t x (X6 f)) (v.Keys.zip v.Kids) (fun p=>w9 t p.2 (atM x p.1)) (fun i=>(i:Int)) () false (fun i p hp=>by
  obtain ⟨h0,h1,h2,h3',h4,_⟩:=one i p hp
  unfold a5O
  rw [k9 h0,h1]
  simp only [cond_true,Option.bind_some,v7]
  rw [h2]
  simp only [Option.bind_some]
  rw [c53 x p.1 h3 h3']
  simp only [Option.bind_some]
  rw [h4,j5 i (by omega)]
  exact a3B _ _) (by
  unfold a5O
  simp [hz])
 have b2:=J4 (step:=a12 v t x (w5 f)) (v.Keys.zip v.Kids) (fun p=>w9 t p.2 (atM x p.1)) (fun i=>(i:Int)) () false (fun i p hp=>by
  obtain ⟨h0,h1,h2,h3',_,h4⟩:=one i p hp
  unfold a12
  rw [k9 h0,h1]
  simp only [cond_true,Option.bind_some,v7]
  have hrest:(bif p.1.Kind==0 then some x.Rest.1 else (bif p.1.Kind==1 then some x.Rest.2 else none))=some (a4i x p.1):=by
   unfold a4i
   rcases b7s h3' with h | h
   ·simp [h]
   ·simp [h]
  rw [hrest]
  have hto:∀ {β:Type} (g:Int->Option β),(Option.bind (a2G x p.1) fun r11=>Option.bind (some (a4i x p.1)) fun b13=>Option.bind (bif decide (0<=r11) then (Option.bind (idx x.Fields r11) fun e14=>some e14.Node) else (some b13)) g)=g (atM x p.1):=by
   intro β g
   rcases c69 x p.1 h3 with ⟨i',fl,e1,e2,e3⟩ | ⟨e1,e3⟩
   ·rw [e1]
    simp only [Option.bind_some,c3C,cond_true]
    rw [y4 e2]
    simp only [Option.bind_some,e3]
   ·rw [e1]
    simp only [Option.bind_some,d2L,cond_false,e3]
  rw [hto,h2]
  simp only [Option.bind_some]
  rw [h4,j5 i (by omega)]
  exact a3B _ _) (by
  unfold a12
  simp [hz])
 rw [hz] at b1 b2
 unfold a3c
 constructor
 ·show b0J f (a5n f) (W6 f) (a0h f) (X6 f) (a3d f) (a3f f) (a2q f) v t x=_
  unfold b0J
  have b1':z7 (a5O v t x (X6 f)) (v.Keys.length+1) 0=_:=b1
  rw [w4,a1,w4,b1']
  cases (x.Fields.all fun f=>f.Optional||v.Keys.any fun y=>Z3 y f.Key_)
  ·rfl
  cases (v.Keys.zip v.Kids).all fun p=>w9 t p.2 (atM x p.1)<;>rfl
 ·show a5B f (a0R f) (a01 f) (w5 f) (a0n f) v t x=_
  unfold a5B
  have b2':z7 (a12 v t x (w5 f)) (v.Keys.length+1) 0=_:=b2
  rw [w4,a2,w4,b2']
  cases (x.Fields.all fun f=>f.Optional||v.Keys.any fun y=>Z3 y f.Key_)
  ·rfl
  cases (v.Keys.zip v.Kids).all fun p=>w9 t p.2 (atM x p.1)<;>rfl
end
end Go.Pl
namespace Go.Pl
open Go Go.RowKit Go.Sx Go.Qx
section
variable {t:Api_Type}
theorem GT.ord (hT:GT t){k:Nat}{x:Api_TypeNode}(hx:t.Nodes[k]?=some x)(hb:isB x=true){j:Int}(hj:j∈x.Kids):∃ j':Nat,j=(j':Int)/\k<j'/\j'<t.Nodes.length:=by
 have hg:=hT.nodes k x hx
 obtain ⟨j',e,h1⟩:=a0v (a5k hg.ok j hj)
 have:=hg.ord hb j hj
 exact ⟨j',e,by omega,h1⟩
theorem c0f {N:Nat}{x:Api_TypeNode}(h:V4 N x=true):a3b N x=true:=by
 unfold V4 at h
 simp only [Bool.and_eq_true] at h
 exact h.2.2.2.2
theorem c5o {N:Nat}{x:Api_TypeNode}(h:V4 N x=true):x.Kind=1\/x.Kind=2\/x.Kind=3\/x.Kind=4\/x.Kind=5\/x.Kind=6\/x.Kind=7\/x.Kind=8\/x.Kind=9\/x.Kind=10\/x.Kind=11\/x.Kind=12\/x.Kind=13\/x.Kind=14\/x.Kind=15\/x.Kind=16\/x.Kind=17\/x.Kind=18\/x.Kind=19:=by
 rcases a8Y x.Kind with hk | hk
 ·exact hk
 ·have e:∀ n:Int,1<=n->n<=19->¬ x.Kind=n:=fun n h1 h2=>by simpa using hk n h1 h2
  have hn:=c0f h
  unfold a3b at hn
  rw [if_neg (e 3 (by omega) (by omega)),if_neg (e 4 (by omega) (by omega)),if_neg (e 6 (by omega) (by omega)),if_neg (e 19 (by omega) (by omega)),if_neg (by have:=e 1 (by omega) (by omega); have:=e 2 (by omega) (by omega); have:=e 5 (by omega) (by omega); have:=e 7 (by omega) (by omega); have:=e 8 (by omega) (by omega); have:=e 9 (by omega) (by omega); have:=e 11 (by omega) (by omega); have:=e 15 (by omega) (by omega); omega),
   if_neg (e 10 (by omega) (by omega)),if_neg (e 12 (by omega) (by omega)),if_neg (e 14 (by omega) (by omega)),if_neg (by have:=e 16 (by omega) (by omega); have:=e 17 (by omega) (by omega); omega),if_neg (e 18 (by omega) (by omega)),if_neg (e 13 (by omega) (by omega))] at hn
  cases hn
theorem c3c {N:Nat}{x:Api_TypeNode}(h:V4 N x=true)(hk:x.Kind=14):1<=x.Kids.length/\x.Kids.length<=5:=by
 have hn:=c0f h
 unfold a3b at hn
 simp [hk] at hn
 omega
theorem c4g {N:Nat}{x:Api_TypeNode}(h:V4 N x=true)(hk:x.Kind=18):x.Kids.length=1:=by
 have hn:=c0f h
 unfold a3b at hn
 simp [hk] at hn
 omega
theorem c3B {N:Nat}{x:Api_TypeNode}(h:V4 N x=true)(hk:x.Kind=13):(∀ f∈x.Fields,inR N f.Node=true)/\inR N x.Rest.1=true/\inR N x.Rest.2=true:=by
 have hn:=c0f h
 unfold a3b a2F at hn
 simp [hk] at hn
 exact ⟨hn.1.2.2,hn.2.2.1,hn.2.2.2⟩
theorem b7a {v:Val}(h:vOK v=true)(hk:v.Kind=8):a75 v=true:=by
 rw [b7B] at h
 simp only [Bool.and_eq_true] at h
 have:=h.1
 unfold a2e a4G at this
 simp only [Bool.and_eq_true] at this
 have h2:=this.2.2
 simp [hk] at h2
 exact h2
theorem c8y {v:Val}(h:vOK v=true):a1o v.Kids=true/\a4Z v.Entries=true:=by
 rw [b7B] at h
 simp only [Bool.and_eq_true] at h
 exact h.2
theorem b8y {α:Type}(p:α->Bool)(l:List α):(!(l.any fun x=>!p x))=l.all p:=by
 rw [Bool.eq_iff_iff]
 simp
theorem d0C (hT:GT t){v:Val}{k:Nat}{x:Api_TypeNode}(hx:t.Nodes[k]?=some x)(ho:vOK v=true)(hb:k8 v<=4194304){f0:Nat}(hR:RH t f0 (k8 v))
 (hB:isB x=true->∀ j∈x.Kids,∀ f,f0<=f->X6 f v t j=some (w9 t v j)/\w5 f v t j=some (w9 t v j)) (f:Nat) (hf:f0+4<=f) :
 X6 f v t (k:Int)=some (unM (w9 t) v x)/\w5 f v t (k:Int)=some (unM (w9 t) v x):=by
 obtain ⟨f,rfl⟩:∃ m,f=m+1:=⟨f-1,by omega⟩
 have hg:=hT.nodes k x hx
 have hn:=hg.ok
 have hk4:=hg.kids
 have hf3:=hg.flds
 have hkr:=a5k hn
 obtain ⟨ho1,ho2⟩:=c8y ho
 have hbe:=a02 v
 have hkl:=a15 v.Kids
 have hll:=a4t v.Labels
 have hall:=c1l hR (l:=v.Kids) (ks:=x.Kids) (fun y hy=>by have:=a0N hy; omega) ho1 hkr (by omega) f (by omega)
 have hlab:=c6k v.Labels x.Text (by omega)
 have hlab2:(Option.bind (z7 (a2f v x) (v.Labels.length+1) 0) fun b30=>j9 (fun _=>some false) (fun y32=>some y32) b30)=some (v.Labels.any fun y=>Q4 y x.Text):=by
  rcases a4q (step:=a2f v x) v.Labels (fun y=>Q4 y x.Text) (fun _ _=>true) (fun i y hy=>by
   have hi:i<v.Labels.length:=(List.getElem?_eq_some_iff.1 hy).1
   unfold a2f
   rw [k9 hi,y4 hy]
   simp only [cond_true,Option.bind_some,v7]
   rw [j5 i (by omega)]
   cases Q4 y x.Text<;>rfl) (by
   unfold a2f
   simp) with ⟨i,y,hy,hp,_,e⟩ | ⟨h,e⟩
  ·rw [e,b2u hy hp]; rfl
  ·rw [e,h]; rfl
 have hbool:isB x=true->Y0 x.Kids (fun z=>a3d f z v t)=some (x.Kids.any (w9 t v))/\(Option.bind (Y0 x.Kids (fun z=>a3f f z v t)) fun r=>some (!r))=some (x.Kids.all (w9 t v)) /\
  (Option.bind (z7 (a19 v t x (w5 f)) (x.Kids.length+1) 0) fun b17=>j9 (fun _=>some false) (fun y19=>some y19) b17)=some (x.Kids.any (w9 t v)) /\
  (Option.bind (z7 (a1f v t x (w5 f)) (x.Kids.length+1) 0) fun b23=>j9 (fun _=>some true) (fun y25=>some y25) b23)=some (x.Kids.all (w9 t v)):=fun hb=>by
  have hB:=hB hb
  obtain ⟨f,rfl⟩:∃ m,f=m+1:=⟨f-1,by omega⟩
  refine ⟨a7w _ _ _ (by omega) fun z hz=>?_,?_,?_,?_⟩
  ·show b2A f (a5n f) (W6 f) (a0h f) (X6 f) (a3d f) (a3f f) (a2q f) z v t=_
   unfold b2A
   rw [(hB z hz f (by omega)).1]
   rfl
  ·rw [a7w _ _ (fun z=>!w9 t v z) (by omega) fun z hz=>?_]
   ·simp only [Option.bind_some]
    rw [b8y]
   ·show b1Y f (a5n f) (W6 f) (a0h f) (X6 f) (a3d f) (a3f f) (a2q f) z v t=_
    unfold b1Y
    rw [(hB z hz f (by omega)).1]
    rfl
  ·rcases a4q (step:=a19 v t x (w5 (f+1))) x.Kids (w9 t v) (fun _ _=>true) (fun i y hy=>by
    have hi:i<x.Kids.length:=(List.getElem?_eq_some_iff.1 hy).1
    unfold a19
    rw [k9 hi,y4 hy]
    simp only [cond_true,Option.bind_some,v7]
    rw [(hB y (List.mem_of_getElem? hy) (f+1) (by omega)).2,j5 i (by omega)]
    simp only [Option.bind_some]
    cases w9 t v y<;>rfl) (by
    unfold a19
    simp) with ⟨i,y,hy,hp,_,e⟩ | ⟨h,e⟩
   ·rw [e,b2u hy hp]; rfl
   ·rw [e,h]; rfl
  ·have l2:=J4 (step:=a1f v t x (w5 (f+1))) x.Kids (w9 t v) (fun i=>(i:Int)) () false (fun i y hy=>by
    have hi:i<x.Kids.length:=(List.getElem?_eq_some_iff.1 hy).1
    unfold a1f
    rw [k9 hi,y4 hy]
    simp only [cond_true,Option.bind_some,v7]
    rw [(hB y (List.mem_of_getElem? hy) (f+1) (by omega)).2,j5 i (by omega)]
    exact a3B _ _) (by
    unfold a1f
    simp)
   have l2':z7 (a1f v t x (w5 (f+1))) (x.Kids.length+1) 0=_:=l2
   rw [l2']
   cases x.Kids.all (w9 t v)<;>rfl
 have hidx:=y4 hx
 constructor
 ·show b5L f (a5n f) (W6 f) (a0h f) (X6 f) (a3d f) (a3f f) (a2q f) v t (k:Int)=_
  unfold b5L
  rw [hidx]
  simp only [Option.bind_some,a0Y]
  rcases c5o hn with hK | hK | hK | hK | hK | hK | hK | hK | hK | hK | hK | hK | hK | hK | hK | hK | hK | hK | hK<;>unfold unM<;>simp only [hK,Int.reduceBEq,Int.reduceEq,if_true,if_false,cond_true,cond_false,Option.bind_some]
  ·cases v.Kind==1<;>cases decide (x.Lo<=v.Int_)<;>rfl
  ·cases v.Kind==2<;>rfl
  ·rfl
  ·cases v.Kind==3<;>rfl
  ·rfl
  ·rfl
  ·rfl
  ·rw [hall.1]
   cases v.Kind==6<;>rfl
  ·rfl
  ·rw [hall.1]
   cases v.Kind==7<;>rfl
  ·cases hv:v.Kind==8
   ·rfl
   ·obtain ⟨q1,q2,q3⟩:=c3B hn hK
    rw [(c5m hR (Nat.le_refl _) ho1 (b7a ho (by simpa using hv)) hb q1 q2 q3 (by omega) f (by omega)).1]
    rfl
  ·obtain ⟨q1,q2⟩:=c3c hn hK
   rw [(c4S hR (Nat.le_refl _) ho2 hb hkr q1 (by omega) f (by omega)).1]
   cases v.Kind==9<;>rfl
  ·rfl
  ·exact (hbool (by unfold isB; rw [hK]; rfl)).1
  ·exact (hbool (by unfold isB; rw [hK]; rfl)).2.1
  ·have h1:=c4g hn hK
   have ek:=List.getElem?_eq_getElem (show 0<x.Kids.length by omega)
   have e0:idx x.Kids 0=some x.Kids[0]:=y4 ek
   rw [e0]
   simp only [Option.bind_some]
   rw [(hB (by unfold isB; rw [hK]; rfl) _ (List.mem_of_getElem? ek) f (by omega)).1,List.getD_eq_getElem?_getD,ek]
   rfl
  ·exact hlab
 ·show a6l f (a0R f) (a01 f) (w5 f) (a0n f) v t (k:Int)=_
  unfold a6l
  rw [hidx]
  simp only [Option.bind_some,w4]
  rcases c5o hn with hK | hK | hK | hK | hK | hK | hK | hK | hK | hK | hK | hK | hK | hK | hK | hK | hK | hK | hK<;>unfold unM<;>simp only [hK,Int.reduceBEq,Int.reduceEq,if_true,if_false,cond_true,cond_false,Option.bind_some]
  ·cases v.Kind==1<;>cases decide (x.Lo<=v.Int_)<;>rfl
  ·cases v.Kind==2<;>rfl
  ·cases v.Kind==3<;>rfl
  ·rw [hall.2]
   cases v.Kind==6<;>rfl
  ·rw [hall.2]
   cases v.Kind==7<;>rfl
  ·cases hv:v.Kind==8
   ·rfl
   ·obtain ⟨q1,q2,q3⟩:=c3B hn hK
    rw [(c5m hR (Nat.le_refl _) ho1 (b7a ho (by simpa using hv)) hb q1 q2 q3 (by omega) f (by omega)).2]
    rfl
  ·obtain ⟨q1,q2⟩:=c3c hn hK
   rw [(c4S hR (Nat.le_refl _) ho2 hb hkr q1 (by omega) f (by omega)).2]
   cases v.Kind==9<;>rfl
  ·exact (hbool (by unfold isB; rw [hK]; rfl)).2.2.1
  ·exact (hbool (by unfold isB; rw [hK]; rfl)).2.2.2
  ·have h1:=c4g hn hK
   have ek:=List.getElem?_eq_getElem (show 0<x.Kids.length by omega)
   have e0:idx x.Kids 0=some x.Kids[0]:=y4 ek
   rw [e0]
   simp only [Option.bind_some]
   rw [(hB (by unfold isB; rw [hK]; rfl) _ (List.mem_of_getElem? ek) f (by omega)).2,List.getD_eq_getElem?_getD,ek]
   rfl
  ·exact hlab2
theorem b9j (hT:GT t):∀ (m:Nat) (v:Val) (k:Nat) (x:Api_TypeNode),MS v k<=m->vOK v=true->k8 v<=4194304->t.Nodes[k]?=some x ->
 (∀ f,4*MS v k+4<=f->X6 f v t (k:Int)=some (w9 t v (k:Int))/\w5 f v t (k:Int)=some (w9 t v (k:Int)))/\w9 t v (k:Int)=unM (w9 t) v x:=by
 intro m
 induction m with
 | zero=>intro v k x h; have:=a8q v; unfold MS at h; omega
 | succ m ih =>
   intro v k x hm ho hb hx
   have hkN:k<t.Nodes.length:=(List.getElem?_eq_some_iff.1 hx).1
   have hN:=hT.len
   have hR:RH t (4*MS v k) (k8 v):=fun w j f hw hwo hj hf=>by
    have ej:=List.getElem?_eq_getElem hj
    have hlt:MS w j+1<=MS v k:=by unfold MS; omega
    exact (ih w j _ (by omega) hwo (by omega) ej).1 f (by omega)
   have hst:=d0C hT hx ho hb hR (fun hbx j hj f hf=>by
    obtain ⟨j',rfl,h1,h2⟩:=hT.ord hx hbx hj
    have ej:=List.getElem?_eq_getElem h2
    have hlt:MS v j'+1<=MS v k:=by unfold MS; omega
    exact (ih v j' _ (by omega) ho hb ej).1 f (by omega))
   have hmem:w9 t v (k:Int)=unM (w9 t) v x:=by
    have hFU:4*MS v k+4<=FU (k8 v):=by unfold FU MS; omega
    have:=(hst (FU (k8 v)) hFU).2
    unfold w9 at *
    rw [this]
    rfl
   refine ⟨fun f hf=>?_,hmem⟩
   rw [hmem]
   exact hst f hf
theorem d1a (hT:GT t){v:Val}{k:Nat}(ho:vOK v=true)(hb:k8 v<=4194304)(hk:k<t.Nodes.length)(f:Nat)(hf:FU (k8 v)<=f):X6 f v t (k:Int)=some (w9 t v (k:Int)) :=
 ((b9j hT (MS v k) v k _ (Nat.le_refl _) ho hb (List.getElem?_eq_getElem hk)).1 f (by unfold FU at hf; unfold MS; omega)).1
theorem c7j (hT:GT t){v:Val}{k:Nat}(ho:vOK v=true)(hb:k8 v<=4194304)(hk:k<t.Nodes.length)(f:Nat)(hf:FU (k8 v)<=f):w5 f v t (k:Int)=some (w9 t v (k:Int)) :=
 ((b9j hT (MS v k) v k _ (Nat.le_refl _) ho hb (List.getElem?_eq_getElem hk)).1 f (by unfold FU at hf; unfold MS; omega)).2
theorem c5b (hT:GT t){v:Val}{k:Nat}{x:Api_TypeNode}(hx:t.Nodes[k]?=some x)(ho:vOK v=true)(hb:k8 v<=4194304):w9 t v (k:Int)=unM (w9 t) v x :=
 (b9j hT (MS v k) v k x (Nat.le_refl _) ho hb hx).2
end
end Go.Pl
namespace Go.Pl
open Go Go.RowKit Go.Sx Go.Qx
section
variable {t:Api_Type}
theorem GT.all (hT:GT t):a7c t.Nodes=true:=List.all_eq_true.2 fun x hx=>by
 obtain ⟨i,hi,rfl⟩:=List.getElem_of_mem hx
 exact (hT.nodes i _ (List.getElem?_eq_getElem hi)).ok
theorem GT.ordT (hT:GT t):c3O t.Nodes:=fun i x hx hb k hk=>(hT.nodes i x hx).ord hb k hk
theorem GT.small (hT:GT t):∀ x∈t.Nodes,x.Kids.length<=1100000/\x.Fields.length<=1100000:=fun x hx=>by
 obtain ⟨i,hi,rfl⟩:=List.getElem_of_mem hx
 have hg:=hT.nodes i _ (List.getElem?_eq_getElem hi)
 have h1:=hg.kids
 have h2:=hg.flds
 omega
theorem wf0 (hT:GT t)(hr:inR t.Nodes.length t.Root=true)(f:Nat)(hf:1100001<=f):a0o f t=some 0:=by
 have hN:=hT.len
 rw [d1X t hT.ordT hT.small (by omega) f (by omega),hT.all,hr]
 rfl
theorem d2T (hT:GT t)(hr:inR t.Nodes.length t.Root=true)(f:Nat)(hf:1100001<=f):a0Z f t=some 0:=by
 have hN:=hT.len
 rw [d1f t hT.ordT hT.small (by omega) f hf,hT.all,hr]
 rfl
end
end Go.Pl
end
section
namespace Go.Pl
open Go Go.RowKit Go.Sx Go.Qx
theorem d2y (s0:List Key)(i0 n:Nat)(hn:n<=4194304)(i k:Nat)(s:List Key)(x y:Key)(hl:s.length=n)(hk:i0+k<n)(h1:1<=k)(hi:i<i0+k)(hx:s[i0+k]?=some x)(hy:s[i0+k-1]?=some y) :
 K5 (s0,(i0:Int)) (((i:Int),(k:Int)),s)=some (.next (if Z3 x y=true then (((i:Int),((k+1:Nat):Int)),s) else ((((i+1:Nat):Int),((k+1:Nat):Int)),s.set i x))):=by
 unfold K5
 simp only [V6,v7,Int.toNat_natCast]
 have hdl:(s.drop i0).length=n-i0:=by rw [List.length_drop,hl]
 rw [if_pos (decide_eq_true (by show (k:Int)<(((s.drop i0).length:Nat):Int); rw [hdl]; omega)),j5 i (by omega),j5 k (by omega),a8k k (by omega) h1]
 simp only [Int.toNat_natCast]
 have a1:idx (s.drop i0) (k:Int)=some x:=y4 (by rw [List.getElem?_drop]; exact hx)
 have a2:idx (s.drop i0) ((k-1:Nat):Int)=some y:=y4 (by rw [List.getElem?_drop,show i0+(k-1)=i0+k-1 by omega]; exact hy)
 have a3:idx s (i:Int)=some (s[i]'(by omega)):=y4 (List.getElem?_eq_getElem (by omega))
 rw [a1,a2,a3,hx,show i0+(k-1)=i0+k-1 by omega,hy,List.getElem?_eq_getElem (show i<s.length by omega)]
 simp only [Option.bind_some]
 rw [a73]
 cases h:Z3 x y<;>simp
theorem c4I (l:List Key)(hl:l.length<=4194304):a07 l=some (a52 Z3 l):=by
 unfold a07
 by_cases h2:(l.length:Int)<2
 ·have e:decide ((l.length:Int)<2)=true:=by simpa using h2
  rw [e]
  match l,h2 with
  | [],_=>rfl
  | [_],_=>rfl
  | _::_::_,h=>exact absurd h (by simp; omega)
 ·have e:decide ((l.length:Int)<2)=false:=by simpa using h2
  rw [e,w4]
  simp only [cond_false]
  have key:=c2e (r:=Z3) (step:=X1) l (by omega) ?_ ?_ ?_
  ·rcases key with ⟨h,hc⟩ | ⟨q,h⟩
   ·rw [h,hc]; rfl
   ·rw [h]; rfl
  ·intro i x y hi hx hy hr
   have hlt:i<l.length:=(List.getElem?_eq_some_iff.1 hx).1
   unfold X1
   simp only [V6,v7,Int.toNat_natCast]
   rw [if_pos (by simp; omega),a8k i (by omega) hi,y4 hx,y4 hy]
   simp only [Int.toNat_natCast,hx,hy,Option.bind_some]
   rw [a73,hr,j5 i (by omega)]
   rfl
  ·intro i x y hi hx hy hr
   have hlt:i<l.length:=(List.getElem?_eq_some_iff.1 hx).1
   unfold X1
   simp only [V6,v7,Int.toNat_natCast]
   rw [if_pos (by simp; omega),a8k i (by omega) hi,y4 hx,y4 hy]
   simp only [Int.toNat_natCast,hx,hy,Option.bind_some]
   rw [a73,hr,if_pos rfl]
   obtain ⟨s',e1,e2,e3⟩:=c10 (r:=Z3) (step:=K5 (l,(i:Int))) i l.length (fun i' k s x y a1 a2 a3 a4 a5 a6=>d2y l i l.length hl i' k s x y a1 a2 a3 a4 a5 a6)
    (fun i' k s a1 a2=>by
      unfold K5
      simp only [Int.toNat_natCast]
      have:decide ((k:Int)<(((s.drop i).length:Nat):Int))=false:=by rw [List.length_drop]; simp; omega
      rw [this]
      rfl) (l.length-(i+1)) i 1 l x ((l.drop i).length+1) rfl (by omega) (Nat.le_refl _) (by omega) (by simpa using hx) (by rw [List.length_drop]; omega)
   have e1':z7 (K5 (l,(i:Int))) ((l.drop i).length+1) (((i:Int),1),l)=_:=e1
   rw [e1']
   simp only [Option.bind_some,<- V6]
   have hd:=c0y (r:=Z3) (l.drop (i+1)) x
   rw [List.length_drop] at hd
   exact c5k (Key.mk 0 (⟨#[]⟩:ByteArray)) _ l.length s' _ e2 (by omega) e3
  ·unfold X1
   simp
theorem c8W (l:List Key)(hl:l.length<=4194304):∃ m,(b5u l fun z5 z6=>Option.bind (K3 z5 z6) fun r7=>some r7)=some ((),m)/\m.Perm l/\m.Pairwise fun a b=>¬ cK b a<0:=by
 have eg:(fun z5 z6:Key=>Option.bind (K3 z5 z6) fun r7=>some r7)=fun a b=>some (cK a b):=by
  funext a b
  rw [a92]
  rfl
 rw [eg]
 have hlt:∀ a b:Key,ltB (fun a b:Key=>some (cK a b)) a b=decide (cK a b<0):=fun a b=>rfl
 have hw:Swk (ltB (fun a b:Key=>some (cK a b))) l:=⟨fun x _=>by rw [hlt,c5s]; rfl,fun x _ y _ z _ h1 h2=>by
  rw [hlt] at *
  simp only [decide_eq_true_eq] at *
  exact c1P h1 (by omega),fun x _ y _ z _ h1 h2=>by
  rw [hlt] at *
  simp only [decide_eq_false_iff_not] at *
  have a1:=a8t x y
  have a2:=a8t y z
  have a3:=a8t x z
  have:=b6b z y x (by omega) (by omega)
  omega⟩
 have hok:OkCmp l (fun a b:Key=>some (cK a b)):=⟨by omega,fun x _ y _=>⟨_,rfl⟩,hw⟩
 obtain ⟨h1,h2⟩:=b81 hw
 refine ⟨a95 (ltB fun a b:Key=>some (cK a b)) l,?_,h1,h2.imp fun {a b} h=>?_⟩
 ·unfold b5u c2D
  rw [if_pos hok]
  rfl
 ·rw [hlt] at h
  simpa using h
def a4a (T:Api_Type)(l:List Int):List Key:=l.flatMap fun k=>((T.Nodes[k.toNat]?).map fun x=>x.Fields.map (·.Key_)).getD []
theorem c11 {T:Api_Type}(hT:GT T)(l:List Int)(hl:l.length<=1000)(hin:l.all (inR T.Nodes.length)=true) :
 ∃ ks,a44 T l=some ks/\ks.length<=3*l.length/\asc cK ks=true/\∀ y,y∈ks↔y∈a4a T l:=by
 have h1:=a2K (σ:=List Key) (step:=a4v T l) l (fun s i=>(s,(i:Int))) (fun s k=>s++((T.Nodes[k.toNat]?).map fun x=>x.Fields.map (·.Key_)).getD []) (fun i s=>s.length<=3*i) (fun s=>s)
  (fun i s k hk hI=>by
    have hi:i<l.length:=(List.getElem?_eq_some_iff.1 hk).1
    have hk2:=List.all_eq_true.1 hin k (List.mem_of_getElem? hk)
    obtain ⟨j,rfl⟩:∃ j:Nat,k=(j:Int):=⟨k.toNat,by unfold inR at hk2; simp at hk2; omega⟩
    have hj:j<T.Nodes.length:=by unfold inR at hk2; simp at hk2; omega
    have e:=List.getElem?_eq_getElem hj
    have hf:=(hT.nodes j _ e).flds
    rw [Int.toNat_natCast,e]
    simp only [Option.map_some,Option.getD_some]
    have h2:=a2K (σ:=List Key) (step:=a4u T.Nodes[j]) T.Nodes[j].Fields (fun s i=>(s,(i:Int))) (fun s f=>s++[f.Key_]) (fun i s'=>s'.length=s.length+i) (fun s=>s)
     (fun i' s' f hf' hI'=>by
       have hi':i'<T.Nodes[j].Fields.length:=(List.getElem?_eq_some_iff.1 hf').1
       refine ⟨?_,by simp only [List.length_append,List.length_cons,List.length_nil]; omega⟩
       unfold a4u
       simp only [v7]
       rw [k9 hi',y4 hf']
       simp only [cond_true,Option.bind_some]
       rw [Z2 (by simp only [List.length_cons,List.length_nil]; omega),j5 i' (by omega)]
       rfl) (fun s' _=>by
       unfold a4u
       simp) s (by simp) _ (Nat.le_refl _)
    have hfold:∀ (fs:List Api_Field) (s:List Key),fs.foldl (fun s f=>s++[f.Key_]) s=s++fs.map (·.Key_):=by
     intro fs
     induction fs with
     | nil=>intro s; simp
     | cons f r ih=>intro s; simp [ih]
    rw [hfold] at h2
    refine ⟨?_,by simp only [List.length_append,List.length_map]; omega⟩
    unfold a4v
    simp only [v7]
    rw [k9 hi,y4 hk]
    simp only [cond_true,Option.bind_some]
    rw [y4 e]
    simp only [Option.bind_some,w4]
    have h2':z7 (a4u T.Nodes[j]) (T.Nodes[j].Fields.length+1) (s,0)=_:=h2
    rw [h2',j5 i (by omega)]
    rfl) (fun s _=>by
    unfold a4v
    simp) [] (by simp) _ (Nat.le_refl _)
 have hfold:∀ (l:List Int) (s:List Key),l.foldl (fun s k=>s++((T.Nodes[k.toNat]?).map fun x=>x.Fields.map (·.Key_)).getD []) s=s++a4a T l:=by
  intro l
  induction l with
  | nil=>intro s; simp [a4a]
  | cons k r ih=>intro s; simp [ih,a4a]
 rw [hfold,List.nil_append] at h1
 have h1':z7 (a4v T l) (l.length+1) ([],0)=some (a4a T l):=h1
 have hlen:∀ l:List Int,l.all (inR T.Nodes.length)=true->(a4a T l).length<=3*l.length:=by
  intro l
  induction l with
  | nil=>intro _; simp [a4a]
  | cons k r ih =>
    intro h
    rw [List.all_cons,Bool.and_eq_true] at h
    have:=ih h.2
    obtain ⟨j,rfl⟩:∃ j:Nat,k=(j:Int):=⟨k.toNat,by have:=h.1; unfold inR at this; simp at this; omega⟩
    have hj:j<T.Nodes.length:=by have:=h.1; unfold inR at this; simp at this; omega
    have e:=List.getElem?_eq_getElem hj
    have hf:=(hT.nodes j _ e).flds
    unfold a4a at *
    simp only [List.flatMap_cons,List.length_append,Int.toNat_natCast,e,Option.map_some,Option.getD_some,List.length_map,List.length_cons]
    omega
 have hl2:=hlen l hin
 obtain ⟨m,e1,hp,hs⟩:=c8W (a4a T l) (by omega)
 have hml:=hp.length_eq
 have hsame:(Z3:Key->Key->Bool)=fun x y=>decide (cK x y=0):=by
  funext x y
  rw [Bool.eq_iff_iff]
  rw [a8u]
  simp
 obtain ⟨q1,q2⟩:=c3y (c:=cK) ⟨a8t,b6b,fun a b h=>c2H h⟩ m hs
 refine ⟨a52 Z3 m,?_,?_,by rw [hsame]; exact q1,fun y=>by rw [hsame,q2]; exact hp.mem_iff⟩
 ·unfold a44
  rw [w4,h1']
  simp only [Option.bind_some]
  rw [e1]
  simp only [Option.bind_some]
  rw [c4I m (by omega)]
  simp only [Option.bind_some]
  unfold a3q
  simp
 ·have:(a52 Z3 m).length<=m.length:=by
   cases m with
   | nil=>exact Nat.le_refl _
   | cons x r =>
     have:=c0y (r:=Z3) r x
     simp only [a52,List.length_cons]
     omega
  omega
end Go.Pl
end
section
namespace Go.Pl
open Go Go.RowKit Go.Sx Go.Qx
theorem c52:CmpOk cI:=⟨fun x y=>by
 rcases W4 x y with ⟨_,h⟩ | ⟨_,h⟩ | ⟨_,h⟩<;>rcases W4 y x with ⟨_,k⟩ | ⟨_,k⟩ | ⟨_,k⟩<;>rw [h,k]<;>omega,
 fun x y z h1 h2=>by
  rcases W4 x y with ⟨_,h⟩ | ⟨_,h⟩ | ⟨_,h⟩<;>rcases W4 y z with ⟨_,k⟩ | ⟨_,k⟩ | ⟨_,k⟩<;>rcases W4 x z with ⟨_,l⟩ | ⟨_,l⟩ | ⟨_,l⟩<;>rw [h] at h1<;>rw [k] at h2<;>rw [l]<;>omega,
 fun _ _ h=>cI0 h⟩
abbrev b5A (x y:Int):Bool:=decide (cI x y=0)
theorem c2y (x y:Int):(x==y)=decide (cI x y=0):=by
 rcases W4 x y with ⟨h,k⟩ | ⟨h,k⟩ | ⟨h,k⟩
 ·rw [k]; simp; omega
 ·rw [k]; simp; omega
 ·rw [k]; simp [h]
theorem d2g (x y:Int):decide (x<y)=decide (cI x y<0):=by
 rcases W4 x y with ⟨h,k⟩ | ⟨h,k⟩ | ⟨h,k⟩
 ·rw [k]; simp [h]
 ·rw [k]; simp; omega
 ·rw [k]; simp [h]
theorem d2f (s0:List Int)(i0 n:Nat)(hn:n<=4194304)(i k:Nat)(s:List Int)(x y:Int)(hl:s.length=n)(hk:i0+k<n)(h1:1<=k)(hi:i<i0+k)(hx:s[i0+k]?=some x)(hy:s[i0+k-1]?=some y) :
 a0k (s0,(i0:Int)) (((i:Int),(k:Int)),s)=some (.next (if b5A x y=true then (((i:Int),((k+1:Nat):Int)),s) else ((((i+1:Nat):Int),((k+1:Nat):Int)),s.set i x))):=by
 unfold a0k
 simp only [V6,v7,Int.toNat_natCast]
 have hdl:(s.drop i0).length=n-i0:=by rw [List.length_drop,hl]
 rw [if_pos (decide_eq_true (by show (k:Int)<(((s.drop i0).length:Nat):Int); rw [hdl]; omega)),j5 i (by omega),j5 k (by omega),a8k k (by omega) h1]
 simp only [Int.toNat_natCast]
 have a1:idx (s.drop i0) (k:Int)=some x:=y4 (by rw [List.getElem?_drop]; exact hx)
 have a2:idx (s.drop i0) ((k-1:Nat):Int)=some y:=y4 (by rw [List.getElem?_drop,show i0+(k-1)=i0+k-1 by omega]; exact hy)
 have a3:idx s (i:Int)=some (s[i]'(by omega)):=y4 (List.getElem?_eq_getElem (by omega))
 rw [a1,a2,a3,hx,show i0+(k-1)=i0+k-1 by omega,hy,List.getElem?_eq_getElem (show i<s.length by omega)]
 simp only [Option.bind_some,bne]
 rw [c2y]
 by_cases h:cI x y=0<;>simp [b5A,h]
theorem c4K (l:List Int)(hl:l.length<=4194304):a3m l=some (a52 b5A l):=by
 unfold a3m
 by_cases h2:(l.length:Int)<2
 ·have e:decide ((l.length:Int)<2)=true:=by simpa using h2
  rw [e]
  match l,h2 with
  | [],_=>rfl
  | [_],_=>rfl
  | _::_::_,h=>exact absurd h (by simp; omega)
 ·have e:decide ((l.length:Int)<2)=false:=by simpa using h2
  rw [e,w4]
  simp only [cond_false]
  have key:=c2e (r:=b5A) (step:=a1b) l (by omega) ?_ ?_ ?_
  ·rcases key with ⟨h,hc⟩ | ⟨q,h⟩
   ·rw [h,hc]; rfl
   ·rw [h]; rfl
  ·intro i x y hi hx hy hr
   have hlt:i<l.length:=(List.getElem?_eq_some_iff.1 hx).1
   unfold a1b
   simp only [V6,v7,Int.toNat_natCast]
   rw [if_pos (by simp; omega),a8k i (by omega) hi,y4 hx,y4 hy]
   simp only [Int.toNat_natCast,hx,hy,Option.bind_some]
   rw [c2y]
   have hr':decide (cI x y=0)=false:=hr
   rw [hr',j5 i (by omega)]
   rfl
  ·intro i x y hi hx hy hr
   have hlt:i<l.length:=(List.getElem?_eq_some_iff.1 hx).1
   unfold a1b
   simp only [V6,v7,Int.toNat_natCast]
   rw [if_pos (by simp; omega),a8k i (by omega) hi,y4 hx,y4 hy]
   simp only [Int.toNat_natCast,hx,hy,Option.bind_some]
   rw [c2y]
   have hr':decide (cI x y=0)=true:=hr
   rw [hr',if_pos rfl]
   obtain ⟨s',e1,e2,e3⟩:=c10 (r:=b5A) (step:=a0k (l,(i:Int))) i l.length (fun i' k s x y a1 a2 a3 a4 a5 a6=>d2f l i l.length hl i' k s x y a1 a2 a3 a4 a5 a6)
    (fun i' k s a1 a2=>by
      unfold a0k
      simp only [Int.toNat_natCast]
      have:decide ((k:Int)<(((s.drop i).length:Nat):Int))=false:=by rw [List.length_drop]; simp; omega
      rw [this]
      rfl) (l.length-(i+1)) i 1 l x ((l.drop i).length+1) rfl (by omega) (Nat.le_refl _) (by omega) (by simpa using hx) (by rw [List.length_drop]; omega)
   have e1':z7 (a0k (l,(i:Int))) ((l.drop i).length+1) (((i:Int),1),l)=_:=e1
   rw [e1']
   simp only [Option.bind_some,<- V6]
   have hd:=c0y (r:=b5A) (l.drop (i+1)) x
   rw [List.length_drop] at hd
   exact c5k (0:Int) _ l.length s' _ e2 (by omega) e3
  ·unfold a1b
   simp
theorem c5z (l:List Int):(l.mergeSort fun x y=>decide (x<=y)).Pairwise fun a b=>¬ cI b a<0:=by
 refine (List.pairwise_mergeSort (le:=fun x y:Int=>decide (x<=y)) (fun a b c h1 h2=>?_) (fun a b=>?_) l).imp fun {a b} h=>?_
 ·simp only [decide_eq_true_eq] at *
  omega
 ·simp only [Bool.or_eq_true,decide_eq_true_eq]
  omega
 ·simp only [decide_eq_true_eq] at h
  rcases W4 b a with ⟨_,k⟩ | ⟨_,k⟩ | ⟨_,k⟩<;>rw [k]<;>omega
def srt (l:List Int):List Int:=l.foldl (a2v cI) []
theorem b94 (l:List Int)(hl:l.length<=4194304):a7P l=some (srt l):=by
 unfold a7P a0U
 rw [Z2 (by omega)]
 simp only [Option.bind_some]
 unfold c1I b1R
 have e:decide (l.length<4611686018427387904)=true:=by simp; omega
 rw [e]
 simp only [cond_true,Option.bind_some]
 have hp:=List.mergeSort_perm l fun x y:Int=>decide (x<=y)
 rw [c4K _ (by rw [hp.length_eq]; exact hl)]
 simp only [Option.bind_some]
 unfold a6F
 have:=c4F c52 hp (c5z l)
 rw [show a52 (fun x y=>decide (cI x y=0))=a52 b5A from rfl] at this
 rw [this]
 simp [srt]
theorem d0h (l:List Int):asc cI (srt l)=true:=(c6q (c:=cI) c52 l).1
theorem b8r (l:List Int)(y:Int):y∈srt l↔y∈l:=(c6q (c:=cI) c52 l).2 y
theorem b8f (l:List Int):srt (srt l)=srt l:=c89 c52 (d0h l)
theorem c1u (l:List Int):(srt l).length<=l.length:=by
 have key:∀ (l out:List Int),(l.foldl (a2v cI) out).length<=out.length+l.length:=by
  intro l
  induction l with
  | nil=>intro out; simp
  | cons x r ih =>
    intro out
    have h1:=ih (a2v cI out x)
    have h2:=b9A cI out x
    simp only [List.foldl_cons,List.length_cons]
    omega
 have:=key l []
 simpa [srt] using this
theorem d0j (out:List Int)(x:Int)(hl:out.length<=4194304):a59 out x=some (a2v cI out x):=by
 unfold a59
 simp only [w4]
 have p:=c0E (step:=a2Z out x) out (fun y=>decide (cI y x<0)) ?_ ?_
 ·have p':z7 (a2Z out x) (out.length+1) 0=_:=p
  rw [p']
  simp only [Option.bind_some]
  have hk:=b1F (fun y=>decide (cI y x<0)) out
  have hat:=c0T (fun y=>decide (cI y x<0)) out
  have go:(Option.bind (cut out 0 ((out.takeWhile (fun y=>decide (cI y x<0))).length:Int)) fun u=>Option.bind (Z4 (0+u.length) 8) fun _ =>
   Option.bind (Z4 (u.length+[x].length) 8) fun _=>Option.bind (cut out ((out.takeWhile (fun y=>decide (cI y x<0))).length:Int) (out.length:Int)) fun w =>
   Option.bind (Z4 ((u++[x]).length+w.length) 8) fun _=>some ((u++[x])++w))=some (a0a (fun y=>decide (cI y x<0)) x out) :=
   c3Z out x _ 8 (by omega) hl (fun l=>some l)
  rw [go]
  unfold a2v
  cases hh:(out.dropWhile (fun y=>decide (cI y x<0))).head? with
  | none =>
    rw [hh] at hat
    have hge:=List.getElem?_eq_none_iff.1 hat
    have:decide (((out.takeWhile (fun y=>decide (cI y x<0))).length:Int)<(out.length:Int))=false:=by simp; omega
    rw [this]
    rfl
  | some y =>
    rw [hh] at hat
    have hlt2:=(List.getElem?_eq_some_iff.1 hat).1
    have:decide (((out.takeWhile (fun y=>decide (cI y x<0))).length:Int)<(out.length:Int))=true:=by simp; omega
    rw [this,y4 hat]
    simp only [cond_true,Option.bind_some,c2y]
    by_cases h0:cI y x=0<;>simp [h0]
 ·intro j y hy
  have hj:j<out.length:=(List.getElem?_eq_some_iff.1 hy).1
  unfold a2Z
  simp only [v7]
  rw [show decide ((j:Int)<(out.length:Int))=true from by simp; omega,y4 hy]
  simp only [cond_true,Option.bind_some,j5 j (by omega)]
  rw [d2g y x]
  by_cases h:cI y x<0<;>simp [h]
 ·unfold a2Z
  simp
theorem b90 (l:List Int)(hl:l.length<=4194304):a4C l=some (srt l):=by
 unfold a4C
 have key:=a2K (σ:=List Int) (step:=a1O l) l (fun s i=>(s,(i:Int))) (a2v cI) (fun i s=>s.length<=i) (fun s=>s)
  ?_ ?_ [] (by simp) _ (Nat.le_refl _)
 ·have e:z7 (a1O l) (l.length+1) (([]:List Int),0)=z7 (a1O l) (l.length+1) (([]:List Int),((0:Nat):Int)):=rfl
  rw [w4,e,key]
  rfl
 ·intro i s x hx hI
  have hi:i<l.length:=(List.getElem?_eq_some_iff.1 hx).1
  refine ⟨?_,?_⟩
  ·unfold a1O
   simp only [v7]
   rw [show decide ((i:Int)<(l.length:Int))=true from by simp; omega,y4 hx]
   simp only [cond_true,Option.bind_some]
   rw [d0j s x (by omega),j5 i (by omega)]
   rfl
  ·have:=b9A cI s x
   omega
 ·intro s _
  unfold a1O
  simp
end Go.Pl
end
section
namespace Go.Pl
open Go Go.RowKit Go.Sx Go.Qx
abbrev g0 (p q:List Int):Api_Goal:=Api_Goal.mk p q false
theorem b7y {α:Type}{step:Int->Option (Fl Int (Sum Unit Bool))}(xs:List α)(p:α->Bool)(b:Bool)(hst:∀ (i:Nat) (x:α),xs[i]?=some x->step (i:Int)=some (if p x=true then Fl.next ((i+1:Nat):Int) else Fl.done (.inr b)))
 (hend:step (xs.length:Int)=some (.done (.inl ()))):z7 step (xs.length+1) 0=some (if xs.all p=true then .inl () else .inr b) :=
 J4 (step:=step) xs p (fun i=>(i:Int)) () b hst hend
theorem b74 (p q:List Int)(b:Bool)(h1:p.length<=4194304)(h2:q.length<=4194304):a6y (Api_Goal.mk p q b)=some (Api_Goal.mk (srt p) (srt q) b):=by
 unfold a6y
 rw [b94 p h1,b94 q h2]
 rfl
theorem c6n (p q:List Int)(b:Bool)(h1:p.length<=4194304)(h2:q.length<=4194304):a5e (Api_Goal.mk p q b)=some (Api_Goal.mk (srt p) (srt q) b):=by
 unfold a5e
 rw [b90 p h1,b90 q h2]
 rfl
theorem c2c (a b:List Int)(h:a.length<=4194304):a2c a b=some (a==b):=by
 unfold a2c
 by_cases hl:a.length=b.length
 ·have e:((a.length:Int) != (b.length:Int))=false:=by simp [hl]
  rw [e]
  simp only [cond_false,w4]
  have l1:=b7y (step:=a2t a b) (a.zip b) (fun p=>p.1==p.2) false (fun i p hp=>by
   obtain ⟨e1,e2⟩:=a4z hp
   have hi:i<a.length:=(List.getElem?_eq_some_iff.1 e1).1
   unfold a2t
   simp only [v7]
   rw [k9 hi,y4 e1,y4 e2]
   simp only [cond_true,Option.bind_some,bne]
   rw [j5 i (by omega)]
   exact a3B _ _) (by
   unfold a2t
   simp [hl])
  have hz:(a.zip b).length=a.length:=by simp [hl]
  rw [hz] at l1
  rw [l1]
  have key:∀ (a b:List Int),a.length=b.length->((a.zip b).all fun p=>p.1==p.2)=(a==b):=by
   intro a
   induction a with
   | nil=>intro b hb; cases b with
     | nil=>rfl
     | cons=>cases hb
   | cons x a ih =>
     intro b hb
     cases b with
     | nil=>cases hb
     | cons y b =>
       rw [List.zip_cons_cons,List.all_cons,ih b (by simpa using hb)]
       rfl
  rw [key a b hl]
  cases a==b<;>rfl
 ·have e:((a.length:Int) != (b.length:Int))=true:=by simp; omega
  rw [e]
  have:(a==b)=false:=by simp; intro e; exact hl (by rw [e])
  rw [this]; rfl
theorem c7R (a b:Api_Goal)(h1:a.Pos.length<=4194304)(h2:a.Neg.length<=4194304):a3h a b=some (a.Lists==b.Lists&&(a.Pos==b.Pos&&a.Neg==b.Neg)):=by
 unfold a3h
 rw [c2c _ _ h1,c2c _ _ h2]
 cases a.Lists==b.Lists<;>cases a.Pos==b.Pos<;>cases a.Neg==b.Neg<;>rfl
theorem b2i (l:List Int)(x:Int)(hl:l.length<=4194304):a0I l x=some (l.any fun y=>x==y):=by
 unfold a0I a6i
 rw [w4]
 rcases a4q (step:=a2O l x) l (fun y=>x==y) (fun i _=>(i:Int)) (fun i y hy=>by
  have hi:i<l.length:=(List.getElem?_eq_some_iff.1 hy).1
  unfold a2O
  rw [k9 hi,y4 hy]
  simp only [cond_true,Option.bind_some,v7]
  rw [j5 i (by omega)]
  cases x==y<;>rfl) (by
  unfold a2O
  simp) with ⟨i,y,hy,hp,_,e⟩ | ⟨h,e⟩
 ·rw [e,b2u hy hp]
  simp only [Option.bind_some,j9,c3C]
 ·rw [e,h]
  rfl
def c0W (p q:List Int):Bool:=p.any fun x=>q.any fun y=>x==y
theorem c98 (p q:List Int)(h1:p.length<=4194304)(h2:q.length<=4194304):a72 p q=some (c0W p q):=by
 unfold a72
 rw [a7w p _ (fun x=>q.any fun y=>x==y) h1 fun x _=>by
  unfold a87
  simp only [a0Y]
  exact b2i q x h2]
 rfl
theorem a8d {St β:Type}{step:St->Option (Fl St β)}(st:Nat->St)(n:Nat)(r:β)(hs:∀ i,i<n->step (st i)=some (.next (st (i+1))))(he:step (st n)=some (.done r))(k:Nat)(hk:n+1<=k):z7 step k (st 0)=some r:=by
 have key:∀ (m i k:Nat),i+m=n->m+1<=k->z7 step k (st i)=some r:=by
  intro m
  induction m with
  | zero =>
    intro i k h1 h2
    obtain ⟨k,rfl⟩:∃ q,k=q+1:=⟨k-1,by omega⟩
    have e:i=n:=by omega
    subst e
    simp only [z7,he,Option.bind_some]
  | succ m ih =>
    intro i k h1 h2
    obtain ⟨k,rfl⟩:∃ q,k=q+1:=⟨k-1,by omega⟩
    simp only [z7,hs i (by omega),Option.bind_some]
    exact ih (i+1) k (by omega) (by omega)
 exact key n 0 k (by omega) hk
end Go.Pl
end
section
namespace Go.Pl
open Go Go.RowKit Go.Sx Go.Qx
section
variable {T:Api_Type}
def gIn (N:Nat)(g:Api_Goal):Bool:=g.Pos.all (inR N)&&g.Neg.all (inR N)
def gM (T:Api_Type)(v:Val)(g:Api_Goal):Bool:=g.Pos.all (w9 T v)&&g.Neg.all fun k=>!w9 T v k
theorem c1Q (g:Api_Goal)(h1:g.Pos.length<=1000000)(h2:g.Neg.length<=1000000):a7N T g=some (gIn T.Nodes.length g):=by
 unfold a7N a0U
 rw [Z2 (by omega)]
 simp only [Option.bind_some]
 rw [Z2 (by omega)]
 simp only [Option.bind_some,w4]
 have l1:=J4 (step:=a5Q T g g.Pos) (g.Pos++g.Neg) (inR T.Nodes.length) (fun i=>(i:Int)) () false (fun i k hk=>by
  have hi:i<(g.Pos++g.Neg).length:=(List.getElem?_eq_some_iff.1 hk).1
  have hi':=hi
  rw [List.length_append] at hi'
  unfold a5Q
  simp only [v7]
  rw [k9 hi,y4 hk]
  simp only [cond_true,Option.bind_some]
  rw [j5 i (by omega)]
  unfold inR
  by_cases a1:k<0
  ·have b1:decide (k<0)=true:=by simpa using a1
   have b2:decide (0<=k)=false:=by simp; omega
   rw [b1,b2]; rfl
  ·have b1:decide (k<0)=false:=by simpa using a1
   have b2:decide (0<=k)=true:=by simp; omega
   rw [b1,b2]
   by_cases a2:k<(T.Nodes.length:Int)
   ·have b3:decide ((T.Nodes.length:Int)<=k)=false:=by simp; omega
    have b4:decide (k<(T.Nodes.length:Int))=true:=by simpa using a2
    rw [b3,b4]; rfl
   ·have b3:decide ((T.Nodes.length:Int)<=k)=true:=by simp; omega
    have b4:decide (k<(T.Nodes.length:Int))=false:=by simpa using a2
    rw [b3,b4]; rfl) (by
  unfold a5Q
  simp)
 have l1':z7 (a5Q T g g.Pos) ((g.Pos++g.Neg).length+1) 0=_:=l1
 rw [l1',List.all_append]
 unfold gIn
 cases g.Pos.all (inR T.Nodes.length)&&g.Neg.all (inR T.Nodes.length)<;>rfl
theorem c0S (g:Api_Goal)(h1:g.Pos.length<=1000000)(h2:g.Neg.length<=1000000):a2X T g=some (gIn T.Nodes.length g):=by
 unfold a2X
 rw [Z2 (by omega),Z2 (by omega)]
 simp only [Option.bind_some,w4]
 have l1:=J4 (step:=a1T T g) (g.Pos++g.Neg) (inR T.Nodes.length) (fun i=>(i:Int)) () false (fun i k hk=>by
  have hi:i<(g.Pos++g.Neg).length:=(List.getElem?_eq_some_iff.1 hk).1
  have hi':=hi
  rw [List.length_append] at hi'
  unfold a1T
  simp only [v7]
  rw [k9 hi,y4 hk]
  simp only [cond_true,Option.bind_some]
  rw [b1T,j5 i (by omega)]
  exact a3B _ _) (by
  unfold a1T
  simp)
 have l1':z7 (a1T T g) ((g.Pos++g.Neg).length+1) 0=_:=l1
 rw [l1',List.all_append]
 unfold gIn
 cases g.Pos.all (inR T.Nodes.length)&&g.Neg.all (inR T.Nodes.length)<;>rfl
theorem c5u (hT:GT T){v:Val}(ho:vOK v=true)(hb:k8 v<=2097152)(f:Nat)(hf:200000000<=f){k:Int}(hk:inR T.Nodes.length k=true):X6 f v T k=some (w9 T v k)/\w5 f v T k=some (w9 T v k):=by
 obtain ⟨j,rfl⟩:∃ j:Nat,k=(j:Int):=⟨k.toNat,by unfold inR at hk; simp at hk; omega⟩
 have hj:j<T.Nodes.length:=by unfold inR at hk; simp at hk; omega
 have hFU:FU (k8 v)<=f:=by unfold FU; omega
 exact ⟨d1a hT ho (by omega) hj f hFU,c7j hT ho (by omega) hj f hFU⟩
theorem c7c (hT:GT T)(hr:inR T.Nodes.length T.Root=true){v:Val}(ho:vOK v=true)(hb:k8 v<=2097152)(p q:List Int)(hg:gIn T.Nodes.length (g0 p q)=true)(h1:p.length<=1000000)(h2:q.length<=1000000)(f:Nat)(hf:200000000<=f) :
 a2A f v T (g0 p q)=some (gM T v (g0 p q)):=by
 unfold a2A
 rw [b3U f v (by omega) (by omega),ho,wf0 hT hr f (by omega),c1Q (g0 p q) h1 h2,hg]
 have hg':=hg
 unfold gIn at hg'
 simp only [Bool.and_eq_true] at hg'
 simp only [if_true,Option.bind_some,bne_self_eq_false,cond_false,Bool.not_true]
 unfold b3X
 rw [a7w p _ (fun k=>!w9 T v k) (by omega) fun k hk=>by
  unfold b0B
  simp only [a0Y]
  rw [(c5u hT ho hb f hf (List.all_eq_true.1 hg'.1 k hk)).1]
  rfl]
 simp only [Option.bind_some]
 rw [b8y]
 cases hp:p.all (w9 T v)
 ·simp [gM,hp]
 ·simp only [cond_true]
  rw [a7w q _ (fun k=>w9 T v k) (by omega) fun k hk=>by
   unfold b0W
   simp only [a0Y]
   exact (c5u hT ho hb f hf (List.all_eq_true.1 hg'.2 k hk)).1]
  simp only [Option.bind_some,gM,hp,Bool.true_and]
  congr 1
  rw [<- b8y]
  simp
theorem c0Q (hT:GT T)(hr:inR T.Nodes.length T.Root=true){v:Val}(ho:vOK v=true)(hb:k8 v<=2097152)(p q:List Int)(hg:gIn T.Nodes.length (g0 p q)=true)(h1:p.length<=1000000)(h2:q.length<=1000000)(f:Nat)(hf:200000000<=f) :
 X2 f v T (g0 p q)=some (gM T v (g0 p q)):=by
 unfold X2
 rw [b2h f v (by omega) (by omega),ho,d2T hT hr f (by omega),c0S (g0 p q) h1 h2,hg]
 have hg':=hg
 unfold gIn at hg'
 simp only [Bool.and_eq_true] at hg'
 simp only [Option.bind_some,beq_self_eq_true,cond_true,a0Y]
 unfold a6T
 have l1:=b7y (step:=a3w v T (g0 p q) f) p (w9 T v) false (fun i k hk=>by
  have hi:i<p.length:=(List.getElem?_eq_some_iff.1 hk).1
  unfold a3w
  simp only [v7]
  rw [k9 (show i<(g0 p q).Pos.length from hi),y4 (show (g0 p q).Pos[i]?=some k from hk)]
  simp only [cond_true,Option.bind_some]
  rw [(c5u hT ho hb f hf (List.all_eq_true.1 hg'.1 k (List.mem_of_getElem? hk))).2,j5 i (by omega)]
  exact a3B _ _) (by
  unfold a3w
  simp)
 have l2:=b7y (step:=a3A v T (g0 p q) f) q (fun k=>!w9 T v k) false (fun i k hk=>by
  have hi:i<q.length:=(List.getElem?_eq_some_iff.1 hk).1
  unfold a3A
  simp only [v7]
  rw [k9 (show i<(g0 p q).Neg.length from hi),y4 (show (g0 p q).Neg[i]?=some k from hk)]
  simp only [cond_true,Option.bind_some]
  rw [(c5u hT ho hb f hf (List.all_eq_true.1 hg'.2 k (List.mem_of_getElem? hk))).2,j5 i (by omega)]
  simp only [Option.bind_some]
  cases w9 T v k<;>rfl) (by
  unfold a3A
  simp)
 simp only [w4]
 rw [show (g0 p q).Pos.length=p.length from rfl,l1]
 cases hp:p.all (w9 T v)
 ·simp [gM,hp,j9]
 ·simp only [if_true,Option.bind_some,j9]
  rw [show (g0 p q).Neg.length=q.length from rfl,l2]
  cases hq:q.all fun k=>!w9 T v k
  ·simp [gM,hp,hq,j9]
  ·simp [gM,hp,hq,j9]
theorem c7t (v:Val)(p q:List Int):gM T v (g0 (srt p) (srt q))=gM T v (g0 p q):=by
 unfold gM
 have key:∀ (l:List Int) (r:Int->Bool),(srt l).all r=l.all r:=fun l r=>by
  rw [Bool.eq_iff_iff,List.all_eq_true,List.all_eq_true]
  exact ⟨fun h x hx=>h x ((b8r l x).2 hx),fun h x hx=>h x ((b8r l x).1 hx)⟩
 rw [key,key]
theorem d0A (N:Nat)(p q:List Int):gIn N (g0 (srt p) (srt q))=gIn N (g0 p q):=by
 unfold gIn
 have key:∀ (l:List Int) (r:Int->Bool),(srt l).all r=l.all r:=fun l r=>by
  rw [Bool.eq_iff_iff,List.all_eq_true,List.all_eq_true]
  exact ⟨fun h x hx=>h x ((b8r l x).2 hx),fun h x hx=>h x ((b8r l x).1 hx)⟩
 rw [key,key]
end
end Go.Pl
end
section
namespace Go.Pl
open Go Go.RowKit Go.Sx Go.Qx
theorem a9J {σ St τ:Type}{step:St->Option (Fl St τ)}(pack:σ->Int->St)(n:Nat)(I:Nat->σ->Prop)(R:τ->Prop)
 (hst:∀ (j:Nat) (s:σ),j<n->I j s->(∃ s',step (pack s (j:Int))=some (.next (pack s' ((j+1:Nat):Int)))/\I (j+1) s')\/∃ r,step (pack s (j:Int))=some (.done r)/\R r)
 (hend:∀ s,I n s->∃ r,step (pack s (n:Int))=some (.done r)/\R r) (s:σ) (h0:I 0 s):∃ r,z7 step (n+1) (pack s 0)=some r/\R r:=by
 have key:∀ (m j k:Nat) (s:σ),j+m=n->m+1<=k->I j s->∃ r,z7 step k (pack s (j:Int))=some r/\R r:=by
  intro m
  induction m with
  | zero =>
    intro j k s hj hk hI
    obtain ⟨k,rfl⟩:∃ m,k=m+1:=⟨k-1,by omega⟩
    have e:j=n:=by omega
    subst e
    obtain ⟨r,hr,hR⟩:=hend s hI
    exact ⟨r,by simp only [z7,hr,Option.bind_some],hR⟩
  | succ m ih =>
    intro j k s hj hk hI
    obtain ⟨k,rfl⟩:∃ m,k=m+1:=⟨k-1,by omega⟩
    rcases hst j s (by omega) hI with ⟨s',e,hI'⟩ | ⟨r,e,hR⟩
    ·obtain ⟨r,hr,hR⟩:=ih (j+1) k s' (by omega) (by omega) hI'
     refine ⟨r,?_,hR⟩
     simp only [z7,e,Option.bind_some]
     exact hr
    ·exact ⟨r,by simp only [z7,e,Option.bind_some],hR⟩
 exact key n 0 (n+1) s (by omega) (Nat.le_refl _) h0
section
variable {T:Api_Type}
def mpB (T:Api_Type)(k:Int):Bool:=inR T.Nodes.length k&&(match T.Nodes[k.toNat]? with | some x=>x.Kind==13 | none=>false)
theorem d0I {k:Int}(h:mpB T k=true):∃ x,idx T.Nodes k=some x/\x∈T.Nodes/\x.Kind=13/\inR T.Nodes.length k=true:=by
 unfold mpB at h
 simp only [Bool.and_eq_true] at h
 obtain ⟨j,rfl,hj⟩:=a0v h.1
 have e:=List.getElem?_eq_getElem hj
 have h2:=h.2
 rw [Int.toNat_natCast,e] at h2
 exact ⟨_,y4 e,List.getElem_mem hj,by simpa using h2,h.1⟩
theorem d0f {k:Int}(h:inR T.Nodes.length k=true):∃ x,idx T.Nodes k=some x/\x∈T.Nodes:=by
 obtain ⟨j,rfl,hj⟩:=a0v h
 exact ⟨_,y4 (List.getElem?_eq_getElem hj),List.getElem_mem hj⟩
theorem c5a (l:List Int)(hl:l.length<=4194304):a7K T l=some (l.all (mpB T)):=by
 unfold a7K
 rw [a7w l _ (fun k=>!mpB T k) hl fun k _=>?_]
 ·simp only [Option.bind_some]
  rw [b8y]
 ·unfold b0N mpB
  simp only [a0Y]
  cases h:inR T.Nodes.length k with
  | true =>
    obtain ⟨j,rfl,hj⟩:=a0v h
    have e:=List.getElem?_eq_getElem hj
    have b1:decide ((j:Int)<0)=false:=by simp
    have b2:decide ((T.Nodes.length:Int)<=(j:Int))=false:=by simp; omega
    rw [b1,b2,y4 e,Int.toNat_natCast,e]
    rfl
  | false =>
    unfold inR at h
    by_cases h0:k<0
    ·rw [decide_eq_true h0]; rfl
    ·have b2:decide ((T.Nodes.length:Int)<=k)=true:=by
      simp at h
      simp
      omega
     rw [decide_eq_false h0,b2]
     rfl
theorem a6U (hT:GT T){x:Api_TypeNode}(hx:x∈T.Nodes)(hK:x.Kind=13):a2F T.Nodes.length x.Fields=true/\inR T.Nodes.length x.Rest.1=true/\inR T.Nodes.length x.Rest.2=true:=by
 have h:=List.all_eq_true.1 hT.all x hx
 unfold V4 at h
 simp only [Bool.and_eq_true] at h
 have hk:=h.2.2.2.2
 unfold a3b at hk
 simp [hK] at hk
 exact ⟨hk.1,hk.2.2.1,hk.2.2.2⟩
theorem a9V (hT:GT T){x:Api_TypeNode}(hx:x∈T.Nodes):x.Fields.length<=3:=by
 obtain ⟨i,hi,rfl⟩:=List.getElem_of_mem hx
 exact (hT.nodes i _ (List.getElem?_eq_getElem hi)).flds
theorem c7n (hT:GT T){x:Api_TypeNode}(hx:x∈T.Nodes)(hK:x.Kind=13){k:Key}(hk:Y9 k=true):∃ a,a7q x k=some a/\inR T.Nodes.length a=true:=by
 have hf:=a9V hT hx
 obtain ⟨h1,h2,h3⟩:=a6U hT hx hK
 refine ⟨_,c53 x k (by omega) hk,?_⟩
 unfold atM
 cases h:x.Fields.find? (fun f=>Z3 f.Key_ k) with
 | some f =>
   unfold a2F at h1
   simp only [Bool.and_eq_true] at h1
   exact List.all_eq_true.1 h1.2.2 f (List.mem_of_find?_eq_some h)
 | none =>
   show inR _ (a4i x k)=true
   unfold a4i
   split<;>assumption
theorem d1i (x:Api_TypeNode)(k:Key)(hf:x.Fields.length<=4194304):∃ b,a3K x k=some b:=by
 unfold a3K
 rw [w4]
 rcases a4q (step:=a18 x k) x.Fields (fun f=>Z3 f.Key_ k) (fun _ f=>!f.Optional) (fun i f hx=>by
  have hi:i<x.Fields.length:=(List.getElem?_eq_some_iff.1 hx).1
  unfold a18
  rw [k9 hi,y4 hx]
  simp only [cond_true,Option.bind_some,a73,v7]
  rw [j5 i (by omega)]
  cases Z3 f.Key_ k<;>rfl) (by
  unfold a18
  simp) with ⟨i,f,hx,hp,hn,e⟩ | ⟨h,e⟩
 ·rw [e]; exact ⟨_,rfl⟩
 ·rw [e]; exact ⟨_,rfl⟩
def PlB (p:Record_place):Prop:=0<=p.key\/p.kind=0\/p.kind=1
theorem c6T {a:Int}(h:inR T.Nodes.length a=true):∃ b,a1c a T=some b:=by
 obtain ⟨x,e,_⟩:=d0f h
 exact ⟨_,by unfold a1c; rw [e]; rfl⟩
theorem c7S (hT:GT T){x:Api_TypeNode}(hx:x∈T.Nodes)(hK:x.Kind=13)(keys:List Key)(hk:keys.all Y9=true)(hl:keys.length<=36) :
 ∃ ps,a47 T x keys=some ps/\ps.length<=74/\∀ p∈ps,PlB p:=by
 have hf:=a9V hT hx
 obtain ⟨_,hr1,hr2⟩:=a6U hT hx hK
 obtain ⟨r,e1,h1,h2⟩:=a9J (σ:=List Record_place) (step:=a0O T x keys) (fun s i=>(s,i)) keys.length (fun j s=>s.length<=2*j/\∀ p∈s,PlB p) (fun s:List Record_place=>s.length<=2*keys.length/\∀ p∈s,PlB p)
  (fun j s hj hI=>.inl (by
    have e:=List.getElem?_eq_getElem hj
    obtain ⟨a,ea,ha⟩:=c7n hT hx hK (List.all_eq_true.1 hk _ (List.getElem_mem hj))
    obtain ⟨b,eb⟩:=c6T ha
    obtain ⟨q,eq⟩:=d1i x keys[j] (by omega)
    unfold a0O
    simp only [v7]
    rw [k9 hj,y4 e]
    simp only [cond_true,Option.bind_some]
    rw [ea]
    simp only [Option.bind_some]
    rw [eb,eq]
    simp only [Option.bind_some]
    rw [j5 j (by omega)]
    have hP:∀ b',PlB (Record_place.mk (j:Int) b' 0):=fun b'=>.inl (by show (0:Int)<=(j:Int); omega)
    have hadd:∀ (s:List Record_place) (b':Bool),(∀ p∈s,PlB p)->∀ p∈s++[Record_place.mk (j:Int) b' 0],PlB p:=fun s b' hs p hp=>by
     rcases List.mem_append.1 hp with hp | hp
     ·exact hs p hp
     ·rw [List.mem_singleton.1 hp]; exact hP b'
    have hI1:=hI.1
    cases b with
    | true =>
      simp only [Bool.not_true,cond_false,Option.bind_some]
      cases q with
      | true =>
        simp only [cond_true]
        rw [Z2 (by simp only [List.length_cons,List.length_nil]; omega)]
        exact ⟨_,rfl,by simp only [List.length_append,List.length_cons,List.length_nil]; omega,hadd _ _ hI.2⟩
      | false=>exact ⟨_,rfl,by omega,hI.2⟩
    | false =>
      simp only [Bool.not_false,cond_true]
      rw [Z2 (by simp only [List.length_cons,List.length_nil]; omega)]
      simp only [Option.bind_some]
      cases q with
      | true =>
        simp only [cond_true]
        rw [Z2 (by simp only [List.length_append,List.length_cons,List.length_nil]; omega)]
        exact ⟨_,rfl,by simp only [List.length_append,List.length_cons,List.length_nil]; omega,hadd _ _ (hadd _ _ hI.2)⟩
      | false=>exact ⟨_,rfl,by simp only [List.length_append,List.length_cons,List.length_nil]; omega,hadd _ _ hI.2⟩))
  (fun s hI=>⟨s,by
    unfold a0O
    simp,hI⟩) [] ⟨by simp,fun p hp=>by cases hp⟩
 obtain ⟨r2,e2,h3,h4⟩:=a9J (σ:=List Record_place) (step:=a0i T x) (fun s i=>(s,i)) 2 (fun j s=>s.length<=r.length+j/\∀ p∈s,PlB p) (fun s:List Record_place=>s.length<=r.length+2/\∀ p∈s,PlB p)
  (fun j s hj hI=>.inl (by
    have hI1:=hI.1
    have key:∀ (a kd:Int),inR T.Nodes.length a=true->(kd=0\/kd=1)->∃ s',(Option.bind (a1c a T) fun r12=>bif !r12
     then (Option.bind (Z4 (s.length+([Record_place.mk (-1) false kd]:List Record_place).length) 24) fun _=>some (Fl.next (s++([Record_place.mk (-1) false kd]:List Record_place),((j+1:Nat):Int))))
     else (some (.next (s,((j+1:Nat):Int))):Option (Fl ((List Record_place)×Int) (List Record_place))))=some (.next (s',((j+1:Nat):Int)))/\s'.length<=r.length+(j+1)/\∀ p∈s',PlB p:=fun a kd ha hkd=>by
     obtain ⟨b,eb⟩:=c6T ha
     rw [eb]
     simp only [Option.bind_some]
     cases b with
     | true=>exact ⟨s,rfl,by omega,hI.2⟩
     | false =>
       simp only [Bool.not_false,cond_true]
       rw [Z2 (by simp only [List.length_cons,List.length_nil]; omega)]
       refine ⟨_,rfl,by simp only [List.length_append,List.length_cons,List.length_nil]; omega,fun p hp=>?_⟩
       rcases List.mem_append.1 hp with hp | hp
       ·exact hI.2 p hp
       ·rw [List.mem_singleton.1 hp]; exact .inr hkd
    unfold a0i
    simp only [v7]
    rw [j5 j (by omega)]
    match j,hj with
    | 0,_=>exact key _ 0 hr1 (.inl rfl)
    | 1,_=>exact key _ 1 hr2 (.inr rfl)))
  (fun s hI=>⟨s,by
    unfold a0i
    simp,hI⟩) r ⟨by omega,h2⟩
 refine ⟨r2,?_,by omega,h4⟩
 unfold a47
 rw [w4]
 have e1':z7 (a0O T x keys) (keys.length+1) ([],0)=some r:=e1
 rw [e1']
 simp only [Option.bind_some]
 have e2':z7 (a0i T x) ((2:Int).toNat+1) (r,0)=some r2:=e2
 rw [e2']
 rfl
variable {L:Api_Line}
end
end Go.Pl
end
section
namespace Go.Pl
open Go Go.RowKit Go.Sx Go.Qx
abbrev Ten:Type:=(List Key)×(List Int)×(List Api_Goal)×(List Int)×(List Int)×Bool×(List Int)×(List Int)×Bool×(List Api_SomeKey)
abbrev ten (k:List Key)(st:List Int)(pa:List Api_Goal)(p0 p1:List Int)(so:List Api_SomeKey):Ten:=(k,st,pa,p0,[],false,p1,[],false,so)
section
variable {T:Api_Type}{L:Api_Line}
theorem c8J (hT:GT T){l:List Int}(hl:l.all (mpB T)=true):∀ y∈a4a T l,Y9 y=true:=fun y hy=>by
 unfold a4a at hy
 obtain ⟨k,hk,hy⟩:=List.mem_flatMap.1 hy
 have hm:=List.all_eq_true.1 hl k hk
 unfold mpB at hm
 simp only [Bool.and_eq_true] at hm
 obtain ⟨j,rfl,hj⟩:=a0v hm.1
 have e:=List.getElem?_eq_getElem hj
 have h2:=hm.2
 rw [Int.toNat_natCast,e] at h2 hy
 simp only [Option.map_some,Option.getD_some,List.mem_map] at hy
 obtain ⟨f,hf,rfl⟩:=hy
 have h1:=(a6U hT (List.getElem_mem hj) (by simpa using h2)).1
 unfold a2F at h1
 simp only [Bool.and_eq_true] at h1
 exact List.all_eq_true.1 h1.2.1 f hf
theorem c6l {l:List Int}(hl:l.all (mpB T)=true):l.all (inR T.Nodes.length)=true:=List.all_eq_true.2 fun k hk=>by
 obtain ⟨_,_,_,_,h⟩:=d0I (List.all_eq_true.1 hl k hk)
 exact h
end
end Go.Pl
end
section
namespace Go.Pl
open Go Go.RowKit Go.Sx Go.Qx
def a4w (x:Api_TypeNode)(k:Key):Bool:=match x.Fields.find? (fun f=>Z3 f.Key_ k) with
 | some f=>!f.Optional
 | none=>false
theorem c7l (x:Api_TypeNode)(k:Key)(hf:x.Fields.length<=4194304):a3K x k=some (a4w x k):=by
 unfold a3K a4w
 rw [w4]
 rcases a4q (step:=a18 x k) x.Fields (fun f=>Z3 f.Key_ k) (fun _ f=>!f.Optional) (fun i f hx=>by
  have hi:i<x.Fields.length:=(List.getElem?_eq_some_iff.1 hx).1
  unfold a18
  rw [k9 hi,y4 hx]
  simp only [cond_true,Option.bind_some,a73,v7]
  rw [j5 i (by omega)]
  cases Z3 f.Key_ k<;>rfl) (by
  unfold a18
  simp) with ⟨i,f,hx,hp,hn,e⟩ | ⟨h,e⟩
 ·rw [e,b4E hx hp hn]; rfl
 ·rw [e,c1C h]; rfl
def a58 (T:Api_Type)(k:Int):Bool:=decide (0<=k)&&match T.Nodes[k.toNat]? with
 | some x=>x.Kind==2
 | none=>false
def plK (T:Api_Type)(x:Api_TypeNode)(i:Nat)(k:Key):List Record_place:=(if a58 T (atM x k) then [] else [Record_place.mk (i:Int) false 0])++(if a4w x k then [Record_place.mk (i:Int) true 0] else [])
def plR (T:Api_Type)(a kd:Int):List Record_place:=if a58 T a then [] else [Record_place.mk (-1) false kd]
def plZ (T:Api_Type)(x:Api_TypeNode)(keys:List Key):List Record_place:=(keys.zipIdx.flatMap fun p=>plK T x p.2 p.1)++plR T x.Rest.1 0++plR T x.Rest.2 1
section
variable {T:Api_Type}
theorem c6C {a:Int}(h:inR T.Nodes.length a=true):a1c a T=some (a58 T a):=by
 obtain ⟨j,rfl,hj⟩:=a0v h
 unfold a1c a58
 rw [y4 (List.getElem?_eq_getElem hj),Int.toNat_natCast,List.getElem?_eq_getElem hj,decide_eq_true (show (0:Int)<=(j:Int) by omega)]
 rfl
theorem c2C (hT:GT T){x:Api_TypeNode}(hx:x∈T.Nodes)(hK:x.Kind=13){k:Key}(hk:Y9 k=true):a7q x k=some (atM x k)/\inR T.Nodes.length (atM x k)=true:=by
 obtain ⟨a,e,h⟩:=c7n hT hx hK hk
 have hf:=a9V hT hx
 have e2:=c53 x k (by omega) hk
 rw [e2] at e
 cases e
 exact ⟨e2,h⟩
theorem c40 (x:Api_TypeNode)(i:Nat)(k:Key):(plK T x i k).length<=2:=by
 unfold plK
 cases a58 T (atM x k)<;>cases a4w x k<;>simp
theorem c7H (hT:GT T){x:Api_TypeNode}(hx:x∈T.Nodes)(hK:x.Kind=13)(keys:List Key)(hk:keys.all Y9=true)(hl:keys.length<=36) :
 a47 T x keys=some (plZ T x keys):=by
 have hf:=a9V hT hx
 obtain ⟨_,hr1,hr2⟩:=a6U hT hx hK
 have h1:=a2K (σ:=List Record_place) (step:=a0O T x keys) keys.zipIdx (fun s i=>(s,(i:Int))) (fun s p=>s++plK T x p.2 p.1) (fun j s=>s.length<=2*j) (fun s=>s)
  (fun j s p hp hI=>by
    have hj:j<keys.length:=by
     have:=(List.getElem?_eq_some_iff.1 hp).1
     rwa [List.length_zipIdx] at this
    have e:=List.getElem?_eq_getElem hj
    have hp2:p=(keys[j],j):=by
     rw [List.getElem?_zipIdx,e] at hp
     simp at hp
     exact hp.symm
    subst hp2
    have hlen:=c40 (T:=T) x j keys[j]
    refine ⟨?_,by simp only [List.length_append]; omega⟩
    obtain ⟨ea,ha⟩:=c2C hT hx hK (List.all_eq_true.1 hk _ (List.getElem_mem hj))
    unfold a0O plK
    simp only [v7]
    rw [k9 hj,y4 e]
    simp only [cond_true,Option.bind_some]
    rw [ea]
    simp only [Option.bind_some]
    rw [c6C ha,c7l x _ (by omega)]
    simp only [Option.bind_some]
    rw [j5 j (by omega)]
    cases a58 T (atM x keys[j]) with
    | true =>
      simp only [Bool.not_true,cond_false,Option.bind_some,if_true,List.nil_append]
      cases a4w x keys[j] with
      | true =>
        simp only [cond_true,if_true]
        rw [Z2 (by simp only [List.length_cons,List.length_nil]; omega)]
        rfl
      | false=>simp
    | false =>
      simp only [Bool.not_false,cond_true,Bool.false_eq_true,if_false]
      rw [Z2 (by simp only [List.length_cons,List.length_nil]; omega)]
      simp only [Option.bind_some]
      cases a4w x keys[j] with
      | true =>
        simp only [cond_true,if_true]
        rw [Z2 (by simp only [List.length_append,List.length_cons,List.length_nil]; omega),List.append_assoc]
        rfl
      | false=>simp) (fun s _=>by
    unfold a0O
    simp) [] (by simp) (keys.length+1) (by rw [List.length_zipIdx]; exact Nat.le_refl _)
 have hfold:∀ (l:List (Key×Nat)) (s:List Record_place),l.foldl (fun s p=>s++plK T x p.2 p.1) s=s++l.flatMap fun p=>plK T x p.2 p.1:=by
  intro l
  induction l with
  | nil=>intro s; simp
  | cons p r ih=>intro s; simp [ih]
 rw [hfold,List.nil_append] at h1
 have h1':z7 (a0O T x keys) (keys.length+1) ([],0)=some (keys.zipIdx.flatMap fun p=>plK T x p.2 p.1):=h1
 have hlen:∀ l:List (Key×Nat),(l.flatMap fun p=>plK T x p.2 p.1).length<=2*l.length:=by
  intro l
  induction l with
  | nil=>simp
  | cons p r ih =>
    have:=c40 (T:=T) x p.2 p.1
    simp only [List.flatMap_cons,List.length_append,List.length_cons]
    omega
 have hl2:=hlen keys.zipIdx
 rw [List.length_zipIdx] at hl2
 generalize hr:(keys.zipIdx.flatMap fun p=>plK T x p.2 p.1)=r at *
 have step:∀ (s:List Record_place) (j:Nat) (a kd:Int),s.length<=100->inR T.Nodes.length a=true->(Option.bind (a1c a T) fun r12=>bif !r12
  then (Option.bind (Z4 (s.length+([Record_place.mk (-1) false kd]:List Record_place).length) 24) fun _=>some (Fl.next (s++([Record_place.mk (-1) false kd]:List Record_place),((j+1:Nat):Int))))
  else (some (.next (s,((j+1:Nat):Int))):Option (Fl ((List Record_place)×Int) (List Record_place))))=some (.next (s++plR T a kd,((j+1:Nat):Int))):=fun s j a kd hs ha=>by
  rw [c6C ha]
  unfold plR
  simp only [Option.bind_some]
  cases a58 T a with
  | true=>simp
  | false =>
    simp only [Bool.not_false,cond_true,Bool.false_eq_true,if_false]
    rw [Z2 (by simp only [List.length_cons,List.length_nil]; omega)]
    rfl
 have s0:a0i T x (r,0)=some (.next (r++plR T x.Rest.1 0,1)):=step r 0 _ 0 (by omega) hr1
 have hR:∀ a kd,(plR T a kd).length<=1:=fun a kd=>by unfold plR; cases a58 T a<;>simp
 have s1:a0i T x (r++plR T x.Rest.1 0,1)=some (.next (r++plR T x.Rest.1 0++plR T x.Rest.2 1,2)):=step _ 1 _ 1 (by have:=hR x.Rest.1 0; rw [List.length_append]; omega) hr2
 have s2:a0i T x (r++plR T x.Rest.1 0++plR T x.Rest.2 1,2)=some (.done (r++plR T x.Rest.1 0++plR T x.Rest.2 1)):=rfl
 unfold a47
 rw [w4,h1']
 simp only [Option.bind_some]
 have e2:z7 (a0i T x) ((2:Int).toNat+1) (r,0)=some (r++plR T x.Rest.1 0++plR T x.Rest.2 1):=by
  show z7 (a0i T x) 3 (r,0)=_
  simp only [z7,s0,s1,s2,Option.bind_some]
 rw [e2]
 unfold plZ
 rw [hr]
 rfl
end
end Go.Pl
end
section
namespace Go.Pl
open Go Go.RowKit Go.Sx Go.Qx
abbrev kv (v:Val):List (Key×Val):=v.Keys.zip v.Kids
def V5 (l:List Key)(k:Key):Bool:=l.any fun y=>Z3 y k
def a2T (x:Api_TypeNode)(kd:Int):Int:=if kd=0 then x.Rest.1 else x.Rest.2
def a6X (T:Api_Type)(v:Val)(x:Api_TypeNode)(keys:List Key)(p:Record_place):Bool :=
 if 0<=p.key then (match keys[p.key.toNat]? with
  | some k=>if p.absent then !V5 v.Keys k else (kv v).any fun q=>Z3 q.1 k&&!w9 T q.2 (atM x k)
  | none=>false)
 else (kv v).any fun q=>!V5 keys q.1&&(q.1.Kind==p.kind&&!w9 T q.2 (a2T x p.kind))
theorem a0V {a b:Key}:Z3 a b=true↔a=b:=⟨fun h=>c2H ((a8u a b).1 h),fun h=>by rw [h]; exact (a8u b b).2 (c5s b)⟩
theorem b2j {l:List Api_Field}{k:Key}{f:Api_Field}(h:l.find? (fun g=>Z3 g.Key_ k)=some f):f.Key_=k:=a0V.1 (by have:=List.find?_some h; exact this)
theorem a5q {l:List Key}{k:Key}:V5 l k=true↔k∈l:=by
 unfold V5
 rw [List.any_eq_true]
 exact ⟨fun ⟨y,h1,h2⟩=>by rw [a0V.1 h2] at h1; exact h1,fun h=>⟨k,h,a0V.2 rfl⟩⟩
theorem b8h {T:Api_Type}{x:Api_TypeNode}{i:Nat}{k:Key}{p:Record_place}:p∈plK T x i k↔(a58 T (atM x k)=false/\p=Record_place.mk (i:Int) false 0)\/(a4w x k=true/\p=Record_place.mk (i:Int) true 0):=by
 unfold plK
 cases a58 T (atM x k)<;>cases a4w x k<;>simp
theorem b1C {T:Api_Type}{a kd:Int}{p:Record_place}:p∈plR T a kd↔a58 T a=false/\p=Record_place.mk (-1) false kd:=by
 unfold plR
 cases a58 T a<;>simp
theorem b1A {T:Api_Type}{x:Api_TypeNode}{keys:List Key}{p:Record_place}:p∈plZ T x keys↔(∃ (i:Nat) (k:Key),keys[i]?=some k/\p∈plK T x i k)\/p∈plR T x.Rest.1 0\/p∈plR T x.Rest.2 1:=by
 unfold plZ
 rw [List.mem_append,List.mem_append,List.mem_flatMap,or_assoc]
 refine or_congr ⟨fun ⟨⟨k,i⟩,h1,h2⟩=>⟨i,k,?_,h2⟩,fun ⟨i,k,h1,h2⟩=>⟨(k,i),?_,h2⟩⟩ Iff.rfl
 ·rw [List.mem_zipIdx_iff_getElem?] at h1
  exact h1
 ·rw [List.mem_zipIdx_iff_getElem?]
  exact h1
theorem c1p {x:Api_TypeNode}{k:Key}(h:∀ f∈x.Fields,f.Key_≠k):atM x k=a4i x k:=by
 unfold atM
 cases hf:x.Fields.find? (fun f=>Z3 f.Key_ k) with
 | none=>rfl
 | some f=>exact absurd (b2j hf) (h f (List.mem_of_find?_eq_some hf))
theorem c4P {T:Api_Type}{v:Val}{x:Api_TypeNode}{keys:List Key}(hk:∀ f∈x.Fields,f.Key_∈keys)(hu:∀ f∈x.Fields,∀ g∈x.Fields,f.Key_=g.Key_->f=g)
 (hv:∀ k∈v.Keys,Y9 k=true) (hany:∀ a,a58 T a=true->∀ u∈v.Kids,w9 T u a=true) :
 (!a3c (w9 T) v x)=(plZ T x keys).any (a6X T v x keys):=by
 rw [Bool.eq_iff_iff,Bool.not_eq_true',Bool.eq_false_iff,List.any_eq_true]
 unfold a3c
 rw [Ne,Bool.and_eq_true,List.all_eq_true,List.all_eq_true]
 constructor
 ·intro h
  by_cases h1:∀ f∈x.Fields,(f.Optional||v.Keys.any fun y=>Z3 y f.Key_)=true
  ·have h2:¬ ∀ q∈kv v,w9 T q.2 (atM x q.1)=true:=fun h2=>h ⟨h1,h2⟩
   obtain ⟨q,hq⟩:=Classical.not_forall.1 h2
   obtain ⟨hq,hm⟩:=Classical.not_imp.1 hq
   have hmk:=(List.of_mem_zip hq).1
   have hmu:=(List.of_mem_zip hq).2
   have hm':w9 T q.2 (atM x q.1)=false:=by simpa using hm
   have hna:a58 T (atM x q.1)=false:=by
    cases ha:a58 T (atM x q.1) with
    | false=>rfl
    | true=>rw [hany _ ha q.2 hmu] at hm'; cases hm'
   by_cases hin:q.1∈keys
   ·obtain ⟨i,hi,hik⟩:=List.getElem_of_mem hin
    have e:keys[i]?=some q.1:=by rw [List.getElem?_eq_getElem hi,hik]
    refine ⟨Record_place.mk (i:Int) false 0,b1A.2 (.inl ⟨i,q.1,e,b8h.2 (.inl ⟨hna,rfl⟩)⟩),?_⟩
    unfold a6X
    rw [if_pos (show (0:Int)<=(i:Int) by omega)]
    simp only [Int.toNat_natCast,e,Bool.false_eq_true,if_false]
    exact List.any_eq_true.2 ⟨q,hq,by rw [a0V.2 rfl,hm']; rfl⟩
   ·have hr:atM x q.1=a4i x q.1:=c1p fun f hf e=>hin (by rw [<- e]; exact hk f hf)
    rw [hr] at hm' hna
    have hno:V5 keys q.1=false:=by
     cases hh:V5 keys q.1 with
     | false=>rfl
     | true=>exact absurd (a5q.1 hh) hin
    have fin:∀ kd:Int,q.1.Kind=kd->a2T x kd=a4i x q.1->a6X T v x keys (Record_place.mk (-1) false kd)=true:=fun kd hkd hre=>by
     unfold a6X
     rw [if_neg (show ¬ (0:Int) <= -1 by omega)]
     exact List.any_eq_true.2 ⟨q,hq,by simp only [hno,hre,hm',hkd]; simp⟩
    unfold a4i at hna fin
    rcases b7s (hv _ hmk) with h0 | h0
    ·rw [if_pos h0] at hna fin
     exact ⟨_,b1A.2 (.inr (.inl (b1C.2 ⟨hna,rfl⟩))),fin 0 h0 rfl⟩
    ·rw [if_neg (by omega)] at hna fin
     exact ⟨_,b1A.2 (.inr (.inr (b1C.2 ⟨hna,rfl⟩))),fin 1 h0 rfl⟩
  ·obtain ⟨f,hf⟩:=Classical.not_forall.1 h1
   obtain ⟨hf,hm⟩:=Classical.not_imp.1 hf
   simp only [Bool.or_eq_true,not_or,Bool.not_eq_true] at hm
   obtain ⟨i,hi,hik⟩:=List.getElem_of_mem (hk f hf)
   have e:keys[i]?=some f.Key_:=by rw [List.getElem?_eq_getElem hi,hik]
   have hreq:a4w x f.Key_=true:=by
    unfold a4w
    cases hg:x.Fields.find? (fun g=>Z3 g.Key_ f.Key_) with
    | none =>
      have:=List.find?_eq_none.1 hg f hf
      rw [a0V.2 rfl] at this
      exact absurd rfl this
    | some g =>
      have hgf:=hu g (List.mem_of_find?_eq_some hg) f hf (b2j hg)
      rw [hgf]
      show (!f.Optional)=true
      rw [hm.1]
      rfl
   refine ⟨Record_place.mk (i:Int) true 0,b1A.2 (.inl ⟨i,_,e,b8h.2 (.inr ⟨hreq,rfl⟩)⟩),?_⟩
   unfold a6X
   rw [if_pos (show (0:Int)<=(i:Int) by omega)]
   simp only [Int.toNat_natCast,e,if_true]
   unfold V5
   rw [hm.2]
   rfl
 ·rintro ⟨p,hp,hvio⟩ ⟨h1,h2⟩
  rcases b1A.1 hp with ⟨i,k,e,hp⟩ | hp
  ·rcases b8h.1 hp with ⟨_,rfl⟩ | ⟨hreq,rfl⟩
   ·unfold a6X at hvio
    rw [if_pos (show (0:Int)<=(i:Int) by omega)] at hvio
    simp only [Int.toNat_natCast,e,Bool.false_eq_true,if_false] at hvio
    obtain ⟨q,hq,hqv⟩:=List.any_eq_true.1 hvio
    rw [Bool.and_eq_true] at hqv
    have hqk:=a0V.1 hqv.1
    have:=h2 q hq
    rw [hqk] at this
    rw [this] at hqv
    exact absurd hqv.2 (by simp)
   ·unfold a6X at hvio
    rw [if_pos (show (0:Int)<=(i:Int) by omega)] at hvio
    simp only [Int.toNat_natCast,e,if_true] at hvio
    unfold a4w at hreq
    cases hg:x.Fields.find? (fun g=>Z3 g.Key_ k) with
    | none=>rw [hg] at hreq; cases hreq
    | some g =>
      rw [hg] at hreq
      have hgk:=b2j hg
      have:=h1 g (List.mem_of_find?_eq_some hg)
      rw [hgk,Bool.or_eq_true] at this
      rcases this with h | h
      ·have hreq:(!g.Optional)=true:=hreq
       rw [h] at hreq; cases hreq
      ·unfold V5 at hvio
       rw [h] at hvio
       cases hvio
  ·have fin:∀ kd:Int,p=Record_place.mk (-1) false kd->(kd=0\/kd=1)->False:=fun kd hpk hkd=>by
    subst hpk
    unfold a6X at hvio
    rw [if_neg (show ¬ (0:Int) <= -1 by omega)] at hvio
    obtain ⟨q,hq,hqv⟩:=List.any_eq_true.1 hvio
    simp only [Bool.and_eq_true,Bool.not_eq_true',beq_iff_eq] at hqv
    obtain ⟨a1,a2,a3⟩:=hqv
    have hno:q.1 ∉ keys:=fun h=>by rw [a5q.2 h] at a1; cases a1
    have hr:atM x q.1=a4i x q.1:=c1p fun f hf e=>hno (by rw [<- e]; exact hk f hf)
    have:=h2 q hq
    rw [hr] at this
    unfold a4i at this
    unfold a2T at a3
    rw [a2] at this
    rw [a3] at this
    cases this
   rcases hp with hp | hp
   ·exact fin 0 (b1C.1 hp).2 (.inl rfl)
   ·exact fin 1 (b1C.1 hp).2 (.inr rfl)
end Go.Pl
end
section
namespace Go.Pl
open Go Go.RowKit Go.Sx Go.Qx
def ndR (T:Api_Type)(k:Int):Api_TypeNode:=match T.Nodes[k.toNat]? with
 | some x=>x
 | none=>b9T 0 []
theorem a6u {T:Api_Type}{k:Int}(h:mpB T k=true):idx T.Nodes k=some (ndR T k)/\ndR T k∈T.Nodes/\(ndR T k).Kind=13:=by
 unfold mpB at h
 simp only [Bool.and_eq_true] at h
 obtain ⟨j,rfl,hj⟩:=a0v h.1
 have e:=List.getElem?_eq_getElem hj
 have h2:=h.2
 unfold ndR
 rw [Int.toNat_natCast,e] at h2 ⊢
 exact ⟨y4 e,List.getElem_mem hj,by simpa using h2⟩
def b5z (T:Api_Type)(k:Key)(s:Int×List Int)(n:Int):Int×List Int:=(if a4w (ndR T n) k=true then 1 else s.1,s.2++[atM (ndR T n) k])
def b3F (T:Api_Type)(i:Int)(k:Key)(s:Int×Bool×List Int)(p:Record_place×Int):Int×Bool×List Int :=
 if (p.1.key != i)=true then s else if p.1.absent=true then (s.1,true,s.2.2) else (1,s.2.1,s.2.2++[atM (ndR T p.2) k])
def stZ (T:Api_Type)(P N:List Int)(i:Int)(k:Key)(ch:List Record_place):Int×Api_Goal×Bool :=
 let a:=P.foldl (b5z T k) (2,[])
 let b:=(ch.zip N).foldl (b3F T i k) (a.1,false,[])
 if b.2.1=true then (0,Api_Goal.mk [] [] false,b.1==2) else (b.1,Api_Goal.mk (srt a.2) (srt b.2.2) false,!c0W a.2 b.2.2)
theorem c3R (T:Api_Type)(k:Key):∀ (l:List Int) (s:Int×List Int),(l.foldl (b5z T k) s).2.length=s.2.length+l.length
 | [],s=>by simp
 | n::l,s=>by
   rw [List.foldl_cons,c3R T k l]
   simp only [b5z,List.length_append,List.length_cons,List.length_nil]
   omega
theorem c2S (T:Api_Type)(i:Int)(k:Key):∀ (l:List (Record_place×Int)) (s:Int×Bool×List Int),(l.foldl (b3F T i k) s).2.2.length<=s.2.2.length+l.length
 | [],s=>by simp
 | n::l,s=>by
   rw [List.foldl_cons]
   have h:=c2S T i k l (b3F T i k s n)
   have:(b3F T i k s n).2.2.length<=s.2.2.length+1:=by
    unfold b3F
    split
    ·omega
    ·split
     ·show s.2.2.length<=_; omega
     ·simp only [List.length_append,List.length_cons,List.length_nil]; omega
   simp only [List.length_cons]
   omega
section
variable {T:Api_Type}{L:Api_Line}
theorem c5K (hT:GT T)(hp:L.Pos.all (mpB T)=true)(hn:L.Neg.all (mpB T)=true)(hpl:L.Pos.length<=6)(hnl:L.Neg.length<=6)(i:Int){k:Key}(hk:Y9 k=true)(ch:List Record_place)(hc:ch.length=L.Neg.length) :
 a7t T L i k ch=some (stZ T L.Pos L.Neg i k ch):=by
 have h1:=a2K (σ:=Int×List Int) (step:=a3R T L k) L.Pos (fun s i=>(s.1,(i:Int),(s.2,([]:List Int),false))) (b5z T k) (fun j s=>s.2.length=j) (fun s=>(s.1,(s.2,([]:List Int),false)))
  (fun j s n hnn hI=>by
    have hj:j<L.Pos.length:=(List.getElem?_eq_some_iff.1 hnn).1
    obtain ⟨ex,hx,hK⟩:=a6u (List.all_eq_true.1 hp _ (List.mem_of_getElem? hnn))
    refine ⟨?_,by simp only [b5z,List.length_append,List.length_cons,List.length_nil]; omega⟩
    unfold a3R b5z
    simp only [v7]
    rw [k9 hj,y4 hnn]
    simp only [cond_true,Option.bind_some]
    rw [ex]
    simp only [Option.bind_some]
    rw [(c2C hT hx hK hk).1]
    simp only [Option.bind_some]
    rw [Z2 (by simp only [List.length_cons,List.length_nil]; omega),c7l _ k (by have:=a9V hT hx; omega),j5 j (by omega)]
    simp only [Option.bind_some]
    cases a4w (ndR T n) k<;>rfl) (fun s _=>by
    unfold a3R
    simp) (2,[]) rfl _ (Nat.le_refl _)
 have hal:=c3R T k L.Pos (2,[])
 unfold stZ
 simp only
 generalize L.Pos.foldl (b5z T k) (2,[])=a at *
 have h2:=a2K (σ:=Int×Bool×List Int) (step:=a3Q T L i k ch) (ch.zip L.Neg) (fun s j=>(s.1,s.2.1,(j:Int),(a.2,s.2.2,false))) (b3F T i k) (fun j s=>s.2.2.length<=j) (fun s=>(s.1,s.2.1,(a.2,s.2.2,false)))
  (fun j s p hpp hI=>by
    obtain ⟨e1,e2⟩:=a4z hpp
    have hj:j<ch.length:=(List.getElem?_eq_some_iff.1 e1).1
    obtain ⟨ex,hx,hK⟩:=a6u (List.all_eq_true.1 hn _ (List.mem_of_getElem? e2))
    unfold a3Q b3F
    simp only [v7]
    rw [k9 hj,y4 e1,Int.toNat_natCast,e1,j5 j (by omega)]
    simp only [cond_true,Option.bind_some]
    cases (p.1.key != i) with
    | true=>exact ⟨by simp,by simp only [if_true]; omega⟩
    | false =>
      simp only [cond_false,Bool.false_eq_true,if_false]
      cases p.1.absent with
      | true=>exact ⟨by simp,by simp only [if_true]; omega⟩
      | false =>
        simp only [cond_false,Bool.false_eq_true,if_false]
        rw [y4 e2]
        simp only [Option.bind_some]
        rw [ex]
        simp only [Option.bind_some]
        rw [(c2C hT hx hK hk).1]
        simp only [Option.bind_some]
        rw [Z2 (by simp only [List.length_cons,List.length_nil]; omega)]
        exact ⟨rfl,by simp only [List.length_append,List.length_cons,List.length_nil]; omega⟩) (fun s _=>by
    have hzl:(ch.zip L.Neg).length=ch.length:=by rw [List.length_zip]; omega
    unfold a3Q
    rw [hzl]
    simp) (a.1,false,[]) (by simp) (ch.length+1) (by rw [List.length_zip]; omega)
 have hbl:=c2S T i k (ch.zip L.Neg) (a.1,false,[])
 rw [List.length_zip] at hbl
 generalize (ch.zip L.Neg).foldl (b3F T i k) (a.1,false,[])=b at *
 unfold a7t
 rw [w4,w4]
 have h1':z7 (a3R T L k) (L.Pos.length+1) (2,0,([],[],false))=some (a.1,(a.2,[],false)):=h1
 rw [h1']
 simp only [Option.bind_some]
 have h2':z7 (a3Q T L i k ch) (ch.length+1) (a.1,false,0,(a.2,[],false))=some (b.1,b.2.1,(a.2,b.2.2,false)):=h2
 rw [h2']
 simp only [Option.bind_some]
 simp only [List.length_nil,Nat.zero_add] at hal hbl
 cases b.2.1 with
 | true=>simp
 | false =>
   simp only [cond_false,Bool.false_eq_true,if_false]
   rw [b74 _ _ _ (by omega) (by omega),c98 _ _ (by omega) (by omega)]
   rfl
end
end Go.Pl
end
section
namespace Go.Pl
open Go Go.RowKit Go.Sx Go.Qx
def zsZ (T:Api_Type)(P N:List Int)(keys:List Key)(ch:List Record_place):List (Int×Api_Goal×Bool):=keys.zipIdx.map fun p=>stZ T P N (p.2:Int) p.1 ch
def rsZ (T:Api_Type)(P:List Int)(kd:Int):List Int:=srt (P.map fun n=>a2T (ndR T n) kd)
def soZ (T:Api_Type)(l:List (Record_place×Int)):List Api_SomeKey:=(l.filter fun p=>!decide (0<=p.1.key)).map fun p=>Api_SomeKey.mk p.1.kind (Api_Goal.mk [] [a2T (ndR T p.2) p.1.kind] false)
def a7e (T:Api_Type)(P:List Int)(p:Record_place×Int):Bool:=!decide (0<=p.1.key)&&(rsZ T P p.1.kind).any fun y=>a2T (ndR T p.2) p.1.kind==y
def shZ (T:Api_Type)(P N:List Int)(keys:List Key)(ch:List Record_place):Option Api_Shape :=
 let zs:=zsZ T P N keys ch
 if (zs.all (·.2.2)&&!(ch.zip N).any (a7e T P))=true then some (Api_Shape.mk keys (zs.map (·.1)) (zs.map (·.2.1)) (Api_Goal.mk (rsZ T P 0) (srt []) false,Api_Goal.mk (rsZ T P 1) (srt []) false) (soZ T (ch.zip N))) else none
section
variable {T:Api_Type}{L:Api_Line}
theorem c7u (hT:GT T)(hp:L.Pos.all (mpB T)=true)(hn:L.Neg.all (mpB T)=true)(hpl:L.Pos.length<=6)(hnl:L.Neg.length<=6)(keys:List Key)(hk:keys.all Y9=true)(hkl:keys.length<=36)(ch:List Record_place)(hc:ch.length=L.Neg.length) :
 ∃ r,z7 (a3r T L keys ch) (keys.length+1) (0,ten [] [] [] [] [] [],ten keys [] [] [] [] [])=some r /\
  ((r=.inl (ten [] [] [] [] [] [],ten keys ((zsZ T L.Pos L.Neg keys ch).map (·.1)) ((zsZ T L.Pos L.Neg keys ch).map (·.2.1)) [] [] [])/\(zsZ T L.Pos L.Neg keys ch).all (·.2.2)=true)\/∃ y,r=.inr (false,y)/\(zsZ T L.Pos L.Neg keys ch).all (·.2.2)=false):=by
 have hzl:(zsZ T L.Pos L.Neg keys ch).length=keys.length:=by unfold zsZ; rw [List.length_map,List.length_zipIdx]
 have hz:∀ (j:Nat) (hj:j<keys.length),(zsZ T L.Pos L.Neg keys ch)[j]?=some (stZ T L.Pos L.Neg (j:Int) keys[j] ch):=fun j hj=>by
  unfold zsZ
  rw [List.getElem?_map,List.getElem?_zipIdx,List.getElem?_eq_getElem hj]
  simp
 generalize zsZ T L.Pos L.Neg keys ch=zs at *
 exact a9J (σ:=List Int×List Api_Goal) (step:=a3r T L keys ch) (fun s i=>(i,ten [] [] [] [] [] [],ten keys s.1 s.2 [] [] [])) keys.length
  (fun j s=>s=((zs.take j).map (·.1),(zs.take j).map (·.2.1))/\(zs.take j).all (·.2.2)=true) (fun r=>(r=.inl (ten [] [] [] [] [] [],ten keys (zs.map (·.1)) (zs.map (·.2.1)) [] [] [])/\zs.all (·.2.2)=true)\/∃ y,r=.inr (false,y)/\zs.all (·.2.2)=false)
  (fun j s hj hI=>by
    have e:=List.getElem?_eq_getElem hj
    have ez:=hz j hj
    have er:=c5K hT hp hn hpl hnl (j:Int) (List.all_eq_true.1 hk _ (List.getElem_mem hj)) ch hc
    generalize stZ T L.Pos L.Neg (j:Int) keys[j] ch=z at *
    unfold a3r
    simp only [v7]
    rw [k9 hj,y4 e]
    simp only [cond_true,Option.bind_some]
    rw [er]
    simp only [Option.bind_some]
    obtain ⟨rfl,hall⟩:=hI
    have hlt:(zs.take j).length<=36:=by rw [List.length_take]; omega
    cases hz2:z.2.2 with
    | false =>
      refine .inr ⟨_,rfl,.inr ⟨_,rfl,?_⟩⟩
      rw [Bool.eq_false_iff]
      intro h
      have:=List.all_eq_true.1 h z (List.mem_of_getElem? ez)
      rw [hz2] at this
      cases this
    | true =>
      simp only [Bool.not_true,cond_false]
      rw [Z2 (by simp only [List.length_map,List.length_cons,List.length_nil]; omega),Z2 (by simp only [List.length_map,List.length_cons,List.length_nil]; omega),j5 j (by omega)]
      refine .inl ⟨((zs.take j).map (·.1)++[z.1],(zs.take j).map (·.2.1)++[z.2.1]),rfl,?_,?_⟩
      ·rw [List.take_add_one,ez]
       simp
      ·rw [List.take_add_one,ez,List.all_append,hall]
       simp [hz2])
  (fun s hI=>by
    obtain ⟨rfl,hall⟩:=hI
    have htk:zs.take keys.length=zs:=by rw [<- hzl,List.take_length]
    rw [htk] at hall ⊢
    exact ⟨.inl (ten [] [] [] [] [] [],ten keys (zs.map (·.1)) (zs.map (·.2.1)) [] [] []),by
     unfold a3r
     simp,.inl ⟨rfl,hall⟩⟩) ([],[]) ⟨by simp,by simp⟩
theorem c6M (hp:L.Pos.all (mpB T)=true)(hpl:L.Pos.length<=6)(k:List Key)(st:List Int)(pa:List Api_Goal) :
 z7 (a3t T L) (L.Pos.length+1) (0,ten k st pa [] [] [])=some (ten k st pa (L.Pos.map fun n=>(ndR T n).Rest.1) (L.Pos.map fun n=>(ndR T n).Rest.2) []):=by
 have h:=a2K (σ:=List Int×List Int) (step:=a3t T L) L.Pos (fun s i=>((i:Int),ten k st pa s.1 s.2 [])) (fun s n=>(s.1++[(ndR T n).Rest.1],s.2++[(ndR T n).Rest.2])) (fun j s=>s.1.length=j/\s.2.length=j) (fun s=>ten k st pa s.1 s.2 [])
  (fun j s n hnn hI=>by
    have hj:j<L.Pos.length:=(List.getElem?_eq_some_iff.1 hnn).1
    obtain ⟨ex,_⟩:=a6u (List.all_eq_true.1 hp _ (List.mem_of_getElem? hnn))
    have h1:=hI.1
    have h2:=hI.2
    refine ⟨?_,by simp only [List.length_append,List.length_cons,List.length_nil]; omega,by simp only [List.length_append,List.length_cons,List.length_nil]; omega⟩
    unfold a3t
    simp only [v7]
    rw [k9 hj,y4 hnn]
    simp only [cond_true,Option.bind_some]
    rw [ex]
    simp only [Option.bind_some]
    rw [Z2 (by simp only [List.length_cons,List.length_nil]; omega),Z2 (by simp only [List.length_cons,List.length_nil]; omega),j5 j (by omega)]
    rfl) (fun s _=>by
    unfold a3t
    simp) ([],[]) ⟨rfl,rfl⟩ _ (Nat.le_refl _)
 have hf:∀ (l:List Int) (s:List Int×List Int),l.foldl (fun s n=>(s.1++[(ndR T n).Rest.1],s.2++[(ndR T n).Rest.2])) s=(s.1++l.map fun n=>(ndR T n).Rest.1,s.2++l.map fun n=>(ndR T n).Rest.2):=by
  intro l
  induction l with
  | nil=>intro s; simp
  | cons n l ih=>intro s; simp [ih]
 rw [hf] at h
 exact h
theorem c6G (hn:L.Neg.all (mpB T)=true)(hnl:L.Neg.length<=6)(ch:List Record_place)(hc:ch.length=L.Neg.length)(hP:∀ p∈ch,PlB p)(P:List Int)(hPl:P.length<=6)(sh:Api_Shape)(k:List Key)(st:List Int)(pa:List Api_Goal)(b e:List Int)(c f:Bool) :
 ∃ r,z7 (a3x T L ch) (ch.length+1) (0,sh,(k,st,pa,rsZ T P 0,b,c,rsZ T P 1,e,f,[]))=some r /\
  ((r=.inl (sh,(k,st,pa,rsZ T P 0,b,c,rsZ T P 1,e,f,soZ T (ch.zip L.Neg)))/\(ch.zip L.Neg).any (a7e T P)=false)\/∃ y,r=.inr (false,y)/\(ch.zip L.Neg).any (a7e T P)=true):=by
 have hzl:(ch.zip L.Neg).length=ch.length:=by rw [List.length_zip]; omega
 have hrl:∀ kd,(rsZ T P kd).length<=100:=fun kd=>by
  have:=c1u (P.map fun n=>a2T (ndR T n) kd)
  unfold rsZ
  rw [List.length_map] at this
  omega
 exact a9J (σ:=List Api_SomeKey) (step:=a3x T L ch) (fun s i=>(i,sh,(k,st,pa,rsZ T P 0,b,c,rsZ T P 1,e,f,s))) ch.length
  (fun j s=>s=soZ T ((ch.zip L.Neg).take j)/\((ch.zip L.Neg).take j).any (a7e T P)=false)
  (fun r=>(r=.inl (sh,(k,st,pa,rsZ T P 0,b,c,rsZ T P 1,e,f,soZ T (ch.zip L.Neg)))/\(ch.zip L.Neg).any (a7e T P)=false)\/∃ y,r=.inr (false,y)/\(ch.zip L.Neg).any (a7e T P)=true)
  (fun j s hj hI=>by
    have eg:=List.getElem?_eq_getElem hj
    have hj':j<L.Neg.length:=by omega
    obtain ⟨ex,_⟩:=a6u (List.all_eq_true.1 hn _ (List.getElem_mem hj'))
    have ez:(ch.zip L.Neg)[j]?=some (ch[j],L.Neg[j]):=by rw [List.getElem?_zip_eq_some]; exact ⟨eg,List.getElem?_eq_getElem hj'⟩
    obtain ⟨rfl,hbad⟩:=hI
    have hsl:(soZ T ((ch.zip L.Neg).take j)).length<=j:=by
     unfold soZ
     rw [List.length_map]
     exact Nat.le_trans (List.length_filter_le _ _) (by rw [List.length_take]; omega)
    have hnext:∀ z,soZ T ((ch.zip L.Neg).take (j+1))=soZ T ((ch.zip L.Neg).take j)++z↔soZ T [(ch[j],L.Neg[j])]=z:=fun z=>by
     have:soZ T ((ch.zip L.Neg).take (j+1))=soZ T ((ch.zip L.Neg).take j)++soZ T [(ch[j],L.Neg[j])]:=by
      rw [List.take_add_one,ez]
      unfold soZ
      rw [Option.toList_some,List.filter_append,List.map_append]
     rw [this,List.append_cancel_left_eq]
    have hbn:((ch.zip L.Neg).take (j+1)).any (a7e T P)=a7e T P (ch[j],L.Neg[j]):=by
     rw [List.take_add_one,ez,List.any_append,hbad]
     simp
    unfold a3x
    simp only [v7]
    rw [k9 hj,y4 eg]
    simp only [cond_true,Option.bind_some]
    rw [j5 j (by omega),Int.toNat_natCast,eg]
    simp only [Option.bind_some]
    by_cases hk:0<=ch[j].key
    ·rw [decide_eq_true hk]
     refine .inl ⟨_,rfl,?_,?_⟩
     ·have:=(hnext []).2 (by simp [soZ,hk])
      rw [List.append_nil] at this
      exact this.symm
     ·rw [hbn]
      unfold a7e
      rw [decide_eq_true hk]
      rfl
    ·rw [decide_eq_false hk]
     simp only [cond_false]
     rw [y4 (List.getElem?_eq_getElem hj')]
     simp only [Option.bind_some]
     rw [ex]
     simp only [Option.bind_some]
     have hroom:∀ z:Api_SomeKey,Z4 ((soZ T ((ch.zip L.Neg).take j)).length+([z]:List Api_SomeKey).length) 64=some ():=fun z=>Z2 (by simp only [List.length_cons,List.length_nil]; omega)
     have hso:soZ T ((ch.zip L.Neg).take (j+1))=soZ T ((ch.zip L.Neg).take j)++[Api_SomeKey.mk ch[j].kind (Api_Goal.mk [] [a2T (ndR T L.Neg[j]) ch[j].kind] false)]:=(hnext _).2 (by simp [soZ,hk])
     have hbz:a7e T P (ch[j],L.Neg[j])=(rsZ T P ch[j].kind).any fun y=>a2T (ndR T L.Neg[j]) ch[j].kind==y:=by
      unfold a7e
      simp only [decide_eq_false hk]
      rfl
     have hdone:a7e T P (ch[j],L.Neg[j])=true->(ch.zip L.Neg).any (a7e T P)=true:=fun h=>List.any_eq_true.2 ⟨_,List.mem_of_getElem? ez,h⟩
     rcases (hP _ (List.getElem_mem hj)).resolve_left hk with h0 | h0
     ·rw [h0] at hso hbz ⊢
      have b0:((0:Int)==0)=true:=rfl
      have hr0:a2T (ndR T L.Neg[j]) 0=(ndR T L.Neg[j]).Rest.1:=rfl
      rw [hr0] at hso hbz
      simp only [b0,cond_true,Option.bind_some]
      rw [b2i _ _ (by have:=hrl 0; omega)]
      simp only [Option.bind_some]
      rw [<- hbz]
      cases hq:a7e T P (ch[j],L.Neg[j]) with
      | true=>exact .inr ⟨_,rfl,.inr ⟨_,rfl,hdone hq⟩⟩
      | false =>
        simp only [cond_false]
        rw [hroom]
        exact .inl ⟨_,rfl,hso.symm,by rw [hbn,hq]⟩
     ·rw [h0] at hso hbz ⊢
      have b0:((1:Int)==0)=false:=rfl
      have b1:((1:Int)==1)=true:=rfl
      have hr0:a2T (ndR T L.Neg[j]) 1=(ndR T L.Neg[j]).Rest.2:=rfl
      rw [hr0] at hso hbz
      simp only [b0,b1,cond_true,cond_false,Option.bind_some]
      rw [b2i _ _ (by have:=hrl 1; omega)]
      simp only [Option.bind_some]
      rw [<- hbz]
      cases hq:a7e T P (ch[j],L.Neg[j]) with
      | true=>exact .inr ⟨_,rfl,.inr ⟨_,rfl,hdone hq⟩⟩
      | false =>
        simp only [cond_false]
        rw [hroom]
        exact .inl ⟨_,rfl,hso.symm,by rw [hbn,hq]⟩)
  (fun s hI=>by
    obtain ⟨rfl,hbad⟩:=hI
    have htk:(ch.zip L.Neg).take ch.length=ch.zip L.Neg:=by rw [<- hzl,List.take_length]
    rw [htk] at hbad ⊢
    exact ⟨.inl (sh,(k,st,pa,rsZ T P 0,b,c,rsZ T P 1,e,f,soZ T (ch.zip L.Neg))),by
     unfold a3x
     simp,.inl ⟨rfl,hbad⟩⟩) [] ⟨by simp [soZ],by simp⟩
theorem c8v (hT:GT T)(hp:L.Pos.all (mpB T)=true)(hn:L.Neg.all (mpB T)=true)(hpl:L.Pos.length<=6)(hnl:L.Neg.length<=6)(keys:List Key)(hk:keys.all Y9=true)(hkl:keys.length<=36)(ch:List Record_place)(hc:ch.length=L.Neg.length)(hP:∀ p∈ch,PlB p) :
 ∃ r,a89 T L keys ch=some r/\shZ T L.Pos L.Neg keys ch=if r.2=true then some r.1 else none:=by
 unfold a89
 have hcl:a0U 24 keys=some keys:=by unfold a0U; rw [Z2 (by omega)]; rfl
 rw [hcl,w4,w4,w4]
 simp only [Option.bind_some]
 obtain ⟨r,e1,h1⟩:=c7u hT hp hn hpl hnl keys hk hkl ch hc
 have e1':z7 (a3r T L keys ch) (keys.length+1) (0,(([]:List Key),([]:List Int),([]:List Api_Goal),([]:List Int),([]:List Int),false,([]:List Int),([]:List Int),false,([]:List Api_SomeKey)),(keys,[],[],[],[],false,[],[],false,[]))=some r:=e1
 rw [e1']
 simp only [Option.bind_some]
 unfold shZ
 simp only
 rcases h1 with ⟨rfl,hall⟩ | ⟨y,rfl,hall⟩
 ·simp only [j9]
  have e2:=c6M (T:=T) hp hpl keys ((zsZ T L.Pos L.Neg keys ch).map (·.1)) ((zsZ T L.Pos L.Neg keys ch).map (·.2.1))
  have e2':z7 (a3t T L) (L.Pos.length+1) (0,(keys,(zsZ T L.Pos L.Neg keys ch).map (·.1),(zsZ T L.Pos L.Neg keys ch).map (·.2.1),[],[],false,[],[],false,[]))=_:=e2
  rw [e2']
  simp only [Option.bind_some]
  rw [b74 _ [] false (by rw [List.length_map]; omega) (by simp),b74 _ [] false (by rw [List.length_map]; omega) (by simp)]
  simp only [Option.bind_some]
  obtain ⟨r3,e3,h3⟩:=c6G hn hnl ch hc hP L.Pos hpl (Api_Shape.mk [] [] [] (Api_Goal.mk [] [] false,Api_Goal.mk [] [] false) []) keys ((zsZ T L.Pos L.Neg keys ch).map (·.1)) ((zsZ T L.Pos L.Neg keys ch).map (·.2.1)) (srt []) (srt []) false false
  have e3':z7 (a3x T L ch) (ch.length+1) (0,Api_Shape.mk [] [] [] (Api_Goal.mk [] [] false,Api_Goal.mk [] [] false) [],(keys,(zsZ T L.Pos L.Neg keys ch).map (·.1),(zsZ T L.Pos L.Neg keys ch).map (·.2.1),srt (L.Pos.map fun n=>(ndR T n).Rest.1),srt [],false,srt (L.Pos.map fun n=>(ndR T n).Rest.2),srt [],false,[]))=some r3:=e3
  rw [e3']
  simp only [Option.bind_some]
  rcases h3 with ⟨rfl,hb⟩ | ⟨y,rfl,hb⟩
  ·exact ⟨_,rfl,by rw [hall,hb]; rfl⟩
  ·exact ⟨_,rfl,by rw [hall,hb]; rfl⟩
 ·exact ⟨_,rfl,by rw [hall]; rfl⟩
end
end Go.Pl
end
section
namespace Go.Pl
open Go Go.RowKit Go.Sx Go.Qx
def chZ (T:Api_Type)(keys:List Key):List Int->List (List Record_place)
 | []=>[[]]
 | n::r=>(plZ T (ndR T n) keys).flatMap fun p=>(chZ T keys r).map (p::·)
def b1G (T:Api_Type)(P N:List Int)(keys:List Key):List Api_Shape:=(chZ T keys N).filterMap (shZ T P N keys)
section
variable {T:Api_Type}{L:Api_Line}
theorem c2p {α:Type}{l:List α}{j:Nat}{x:α}(h:j<l.length):(l.set j x).take (j+1)=l.take j++[x]:=by
 rw [List.take_add_one,List.getElem?_set_self h,List.take_set,List.set_eq_of_length_le (by rw [List.length_take]; omega)]
 rfl
theorem c7Y (hT:GT T)(hp:L.Pos.all (mpB T)=true)(hn:L.Neg.all (mpB T)=true)(hpl:L.Pos.length<=6)(hnl:L.Neg.length<=6)(keys:List Key)(hk:keys.all Y9=true)(hkl:keys.length<=36) :
 ∀ (m j n:Nat) (ch:List Record_place) (out:List Api_Shape),j+m=L.Neg.length->m+1<=n->ch.length=L.Neg.length->(∀ p∈ch,PlB p)->out.length+74^m<=200000000000 ->
  ∃ ch' out',a0E n (j:Int) L T keys ch out ()=some (ch',out')/\ch'.length=L.Neg.length/\(∀ p∈ch',PlB p)/\out'.length<=out.length+74^m/\ch'.take j=ch.take j /\
   out'=out++(chZ T keys (L.Neg.drop j)).filterMap fun c=>shZ T L.Pos L.Neg keys (ch.take j++c):=by
 intro m
 induction m with
 | zero =>
   intro j n ch out hj hn1 hc hP ho
   obtain ⟨n,rfl⟩:∃ m,n=m+1:=⟨n-1,by omega⟩
   obtain ⟨r,er,hr⟩:=c8v hT hp hn hpl hnl keys hk hkl ch hc hP
   show ∃ ch' out',a30 n (a0E n) (j:Int) L T keys ch out ()=some (ch',out')/\_
   unfold a30
   have e:((j:Int)==(L.Neg.length:Int))=true:=by simp; omega
   rw [e,er]
   simp only [cond_true,Option.bind_some]
   have hp0:74^0=1:=rfl
   have hd:L.Neg.drop j=[]:=List.drop_eq_nil_of_le (by omega)
   have hall:((chZ T keys (L.Neg.drop j)).filterMap fun c=>shZ T L.Pos L.Neg keys (ch.take j++c))=(shZ T L.Pos L.Neg keys ch).toList:=by
    rw [hd,show ch.take j=ch from List.take_of_length_le (by omega)]
    simp only [chZ,List.filterMap_cons,List.append_nil,List.filterMap_nil]
    cases shZ T L.Pos L.Neg keys ch<;>rfl
   rw [hall,hr]
   cases hr2:r.2 with
   | true =>
     simp only [cond_true]
     rw [Z2 (by simp only [List.length_cons,List.length_nil]; omega)]
     exact ⟨ch,_,rfl,hc,hP,by simp only [List.length_append,List.length_cons,List.length_nil]; omega,rfl,rfl⟩
   | false=>exact ⟨ch,out,rfl,hc,hP,by omega,rfl,by simp⟩
 | succ m ih =>
   intro j n ch out hj hn1 hc hP ho
   obtain ⟨n,rfl⟩:∃ m,n=m+1:=⟨n-1,by omega⟩
   show ∃ ch' out',a30 n (a0E n) (j:Int) L T keys ch out ()=some (ch',out')/\_
   unfold a30
   have e:((j:Int)==(L.Neg.length:Int))=false:=by simp; omega
   have hj':j<L.Neg.length:=by omega
   obtain ⟨ex,hx,hK⟩:=a6u (List.all_eq_true.1 hn _ (List.getElem_mem hj'))
   obtain ⟨ps,eps,hpsl,hps⟩:=c7S hT hx hK keys hk hkl
   have eps2:=c7H hT hx hK keys hk hkl
   have hpsz:plZ T (ndR T L.Neg[j]) keys=ps:=by rw [eps2] at eps; cases eps; rfl
   rw [e,y4 (List.getElem?_eq_getElem hj')]
   simp only [cond_false,Option.bind_some]
   rw [ex]
   simp only [Option.bind_some]
   rw [eps]
   simp only [Option.bind_some,w4]
   have hpow:74^(m+1)=74*74^m:=by rw [Nat.pow_succ,Nat.mul_comm]
   have hdrop:L.Neg.drop j=L.Neg[j]::L.Neg.drop (j+1):=List.drop_eq_getElem_cons hj'
   obtain ⟨r,er,h1,h2,h3,h4,h5⟩:=a9J (σ:=List Record_place×List Api_Shape) (step:=a3n (j:Int) L T keys ps (a0E n)) (fun s i=>(ps,i,s.1,s.2)) ps.length
    (fun i s=>s.1.length=L.Neg.length/\(∀ p∈s.1,PlB p)/\s.2.length<=out.length+i*74^m/\s.1.take j=ch.take j /\
      s.2=out++(ps.take i).flatMap fun p=>(chZ T keys (L.Neg.drop (j+1))).filterMap fun c=>shZ T L.Pos L.Neg keys (ch.take j++p::c))
    (fun r:(List Record_place)×(List Record_place)×(List Api_Shape)=>r.2.1.length=L.Neg.length/\(∀ p∈r.2.1,PlB p)/\r.2.2.length<=out.length+ps.length*74^m/\r.2.1.take j=ch.take j /\
      r.2.2=out++ps.flatMap fun p=>(chZ T keys (L.Neg.drop (j+1))).filterMap fun c=>shZ T L.Pos L.Neg keys (ch.take j++p::c))
    (fun i s hi hI=>.inl (by
      have ei:=List.getElem?_eq_getElem hi
      have hjc:j<s.1.length:=by rw [hI.1]; exact hj'
      have ej:=List.getElem?_eq_getElem hjc
      have hmul:(i+1)*74^m<=74*74^m:=Nat.mul_le_mul_right _ (by omega)
      have hI3:s.2.length<=out.length+i*74^m:=hI.2.2.1
      have hA:s.2.length+74^m<=out.length+(i+1)*74^m:=by
       rw [Nat.add_mul,Nat.one_mul,<- Nat.add_assoc]
       exact Nat.add_le_add_right hI3 _
      have hB:(i+1)*74^m<=74^(m+1):=by rw [hpow]; exact hmul
      have hC:s.2.length+74^m<=200000000000:=Nat.le_trans hA (Nat.le_trans (Nat.add_le_add_left hB _) ho)
      obtain ⟨ch',out',e1,c1,c2,c3,c4,c5⟩:=ih (j+1) n (s.1.set j ps[i]) s.2 (by omega) (by omega) (by rw [List.length_set]; exact hI.1) (fun p hp=>by
       rcases List.mem_or_eq_of_mem_set hp with hp | rfl
       ·exact hI.2.1 p hp
       ·exact hps _ (List.getElem_mem hi)) hC
      rw [c2p hjc,hI.2.2.2.1] at c4 c5
      refine ⟨(ch',out'),?_,c1,c2,Nat.le_trans c3 hA,?_,?_⟩
      ·unfold a3n
       simp only [v7]
       rw [k9 hi,y4 ei,y4 ej]
       simp only [Int.toNat_natCast,cond_true,Option.bind_some,ei,ej]
       rw [j5 j (by omega),j5 i (by omega),e1]
       rfl
      ·show ch'.take j=_
       have h:ch'.take j=(ch'.take (j+1)).take j:=by rw [List.take_take,Nat.min_eq_left (by omega)]
       have hl:(ch.take j).length=j:=by rw [List.length_take]; omega
       rw [h,c4]
       exact List.take_left' hl
      ·show out'=_
       rw [c5,hI.2.2.2.2,List.take_add_one,ei,Option.toList_some,List.flatMap_append]
       simp only [List.flatMap_cons,List.flatMap_nil,List.append_nil,List.append_assoc,List.singleton_append]))
    (fun s hI=>⟨(ps,s.1,s.2),by
      unfold a3n
      simp,hI.1,hI.2.1,hI.2.2.1,hI.2.2.2.1,by rw [<- List.take_length (l:=ps)]; exact hI.2.2.2.2⟩) (ch,out) ⟨hc,hP,by simp,rfl,by simp⟩
   have er':z7 (a3n (j:Int) L T keys ps (a0E n)) (ps.length+1) (ps,0,ch,out)=some r:=er
   rw [er']
   have hle:ps.length*74^m<=74*74^m:=Nat.mul_le_mul_right _ hpsl
   refine ⟨r.2.1,r.2.2,rfl,h1,h2,Nat.le_trans h3 (Nat.add_le_add_left (by rw [hpow]; exact hle) _),h4,?_⟩
   rw [h5,hdrop]
   simp only [chZ,hpsz]
   rw [List.filterMap_flatMap]
   simp only [List.filterMap_map,Function.comp_def]
end
end Go.Pl
end
section
namespace Go.Pl
open Go Go.RowKit Go.Sx Go.Qx
theorem c0n {T:Api_Type}{keys:List Key}(f:Int->Record_place->Bool):∀ N:List Int,((chZ T keys N).any fun ch=>(ch.zip N).all fun q=>f q.2 q.1)=N.all fun n=>(plZ T (ndR T n) keys).any (f n)
 | []=>rfl
 | n::r=>by
   have ih:=c0n (T:=T) (keys:=keys) f r
   rw [Bool.eq_iff_iff] at ih ⊢
   simp only [chZ,List.any_flatMap,List.any_map,Function.comp_def,List.any_eq_true,List.zip_cons_cons,List.all_cons,Bool.and_eq_true] at ih ⊢
   rw [<- ih]
   constructor
   ·rintro ⟨p,hp,c,hc,h1,h2⟩
    exact ⟨⟨p,hp,h1⟩,c,hc,h2⟩
   ·rintro ⟨⟨p,hp,h1⟩,c,hc,h2⟩
    exact ⟨p,hp,c,hc,h1,h2⟩
theorem c4H {T:Api_Type}{v:Val}{keys:List Key}{P N:List Int}(hkN:∀ n∈N,∀ f∈(ndR T n).Fields,f.Key_∈keys)(hu:∀ n∈N,∀ f∈(ndR T n).Fields,∀ g∈(ndR T n).Fields,f.Key_=g.Key_->f=g)
 (hv:∀ k∈v.Keys,Y9 k=true) (hany:∀ a,a58 T a=true->∀ u∈v.Kids,w9 T u a=true) :
 (P.all (fun n=>a3c (w9 T) v (ndR T n))&&N.all fun n=>!a3c (w9 T) v (ndR T n)) =
   (chZ T keys N).any fun ch=>P.all (fun n=>a3c (w9 T) v (ndR T n))&&(ch.zip N).all fun q=>a6X T v (ndR T q.2) keys q.1:=by
 have h1:(N.all fun n=>!a3c (w9 T) v (ndR T n))=N.all fun n=>(plZ T (ndR T n) keys).any (a6X T v (ndR T n) keys):=by
  rw [Bool.eq_iff_iff,List.all_eq_true,List.all_eq_true]
  exact ⟨fun h n hn=>by rw [<- c4P (hkN n hn) (hu n hn) hv hany]; exact h n hn,fun h n hn=>by rw [c4P (hkN n hn) (hu n hn) hv hany]; exact h n hn⟩
 rw [h1,<- c0n (fun n p=>a6X T v (ndR T n) keys p) N]
 cases P.all fun n=>a3c (w9 T) v (ndR T n) with
 | true=>simp
 | false=>simp
end Go.Pl
end
section
namespace Go.Pl
open Go Go.RowKit Go.Sx Go.Qx
def isV (i:Int)(p:Record_place×Int):Bool:=p.1.key==i&&!p.1.absent
def isA (i:Int)(p:Record_place×Int):Bool:=p.1.key==i&&p.1.absent
section
variable {T:Api_Type}{k:Key}
theorem b3c:∀ (l:List Int) (s:Int×List Int),l.foldl (b5z T k) s=(if (l.any fun n=>a4w (ndR T n) k)=true then 1 else s.1,s.2++l.map fun n=>atM (ndR T n) k)
 | [],s=>by simp
 | n::l,s=>by
   rw [List.foldl_cons,b3c l]
   unfold b5z
   cases h:a4w (ndR T n) k<;>cases h2:(l.any fun n=>a4w (ndR T n) k)<;>simp [h,h2]
theorem b2Z {i:Int}:∀ (l:List (Record_place×Int)) (s:Int×Bool×List Int),l.foldl (b3F T i k) s=(if l.any (isV i)=true then 1 else s.1,s.2.1||l.any (isA i),s.2.2++(l.filter (isV i)).map fun p=>atM (ndR T p.2) k)
 | [],s=>by simp
 | p::l,s=>by
   rw [List.foldl_cons,b2Z l]
   unfold b3F
   cases h:(p.1.key==i) with
   | false =>
     have h1:isV i p=false:=by unfold isV; rw [h]; rfl
     have h2:isA i p=false:=by unfold isA; rw [h]; rfl
     have h3:(p.1.key != i)=true:=by unfold bne; rw [h]; rfl
     rw [List.any_cons,List.any_cons,List.filter_cons,h1,h2,h3,Bool.false_or,Bool.false_or]
     rfl
   | true =>
     have h3:(p.1.key != i)=false:=by unfold bne; rw [h]; rfl
     cases ha:p.1.absent with
     | true =>
       have h1:isV i p=false:=by unfold isV; rw [h,ha]; rfl
       have h2:isA i p=true:=by unfold isA; rw [h,ha]; rfl
       rw [List.any_cons,List.any_cons,List.filter_cons,h1,h2,h3,Bool.false_or]
       simp
     | false =>
       have h1:isV i p=true:=by unfold isV; rw [h,ha]; rfl
       have h2:isA i p=false:=by unfold isA; rw [h,ha]; rfl
       rw [List.any_cons,List.any_cons,List.filter_cons,h1,h2,h3,Bool.false_or,Bool.true_or]
       simp
def a7G (T:Api_Type)(v:Val)(k:Key)(st:Int)(g:Api_Goal):Bool:=match (kv v).find? fun q=>Z3 q.1 k with
 | some q=>st != 0&&gM T q.2 g
 | none=>st != 1
def b7T (T:Api_Type)(v:Val)(P:List Int)(k:Key):Bool:=P.all fun n=>(!a4w (ndR T n) k||V5 v.Keys k)&&(kv v).all fun q=>!Z3 q.1 k||w9 T q.2 (atM (ndR T n) k)
def b7f (T:Api_Type)(v:Val)(l:List (Record_place×Int))(i:Int)(k:Key):Bool:=l.all fun p=>p.1.key != i||(if p.1.absent=true then !V5 v.Keys k else (kv v).any fun q=>Z3 q.1 k&&!w9 T q.2 (atM (ndR T p.2) k))
theorem c2r {v:Val}(hl:v.Keys.length=v.Kids.length)(h:(kv v).find? (fun q=>Z3 q.1 k)=none):V5 v.Keys k=false:=by
 cases hh:V5 v.Keys k with
 | false=>rfl
 | true =>
   have hm:=a5q.1 hh
   obtain ⟨j,hj,e⟩:=List.getElem_of_mem hm
   have hz:(kv v)[j]?=some (v.Keys[j],v.Kids[j]'(by omega)):=by
    rw [List.getElem?_zip_eq_some]
    exact ⟨List.getElem?_eq_getElem hj,List.getElem?_eq_getElem (by omega)⟩
   have:=List.find?_eq_none.1 h _ (List.mem_of_getElem? hz)
   rw [a0V.2 e] at this
   exact absurd rfl this
theorem d0t {v:Val}{P N:List Int}{ch:List Record_place}{i:Int}(hl:v.Keys.length=v.Kids.length)(hun:∀ q∈kv v,∀ q'∈kv v,q.1=q'.1->q=q') :
 ((stZ T P N i k ch).2.2&&a7G T v k (stZ T P N i k ch).1 (stZ T P N i k ch).2.1)=(b7T T v P k&&b7f T v (ch.zip N) i k):=by
 unfold stZ
 simp only [b3c,b2Z,Bool.false_or,List.nil_append]
 generalize ch.zip N=l
 unfold a7G
 cases hf:(kv v).find? (fun q=>Z3 q.1 k) with
 | some q =>
   have hqk:q.1=k:=a0V.1 (by have:=List.find?_some hf; exact this)
   have hq:=List.mem_of_find?_eq_some hf
   have hh:V5 v.Keys k=true:=a5q.2 (by rw [<- hqk]; exact (List.of_mem_zip hq).1)
   have hall:∀ a:Int,((kv v).all fun q'=>!Z3 q'.1 k||w9 T q'.2 a)=w9 T q.2 a:=fun a=>by
    rw [Bool.eq_iff_iff,List.all_eq_true]
    constructor
    ·intro h
     have:=h q hq
     rw [a0V.2 hqk] at this
     simpa using this
    ·intro h q' hq'
     cases hk':Z3 q'.1 k with
     | false=>rfl
     | true =>
       have:=hun q' hq' q hq ((a0V.1 hk').trans hqk.symm)
       rw [this,h]
       rfl
   have hany:∀ a:Int,((kv v).any fun q'=>Z3 q'.1 k&&!w9 T q'.2 a)=!w9 T q.2 a:=fun a=>by
    rw [Bool.eq_iff_iff,List.any_eq_true]
    constructor
    ·rintro ⟨q',hq',h⟩
     rw [Bool.and_eq_true] at h
     have:=hun q' hq' q hq ((a0V.1 h.1).trans hqk.symm)
     rw [this] at h
     exact h.2
    ·intro h
     exact ⟨q,hq,by rw [a0V.2 hqk,h]; rfl⟩
   have hpos:b7T T v P k=P.all fun n=>w9 T q.2 (atM (ndR T n) k):=by
    unfold b7T
    simp only [hh,Bool.or_true,Bool.true_and,hall]
   have hneg:b7f T v l i k=(!l.any (isA i)&&(l.filter (isV i)).all fun p=>!w9 T q.2 (atM (ndR T p.2) k)):=by
    unfold b7f
    simp only [hh,hany,Bool.not_true]
    induction l with
    | nil=>rfl
    | cons p l ih =>
      rw [List.all_cons,ih,List.any_cons]
      unfold isV isA bne
      cases h1:(p.1.key==i)<;>cases h2:p.1.absent<;>simp [h1,h2]
      exact Bool.and_left_comm _ _ _
   rw [hpos,hneg]
   cases ha:l.any (isA i) with
   | true=>simp
   | false =>
     simp only [Bool.false_eq_true,if_false,Bool.not_false,Bool.true_and]
     have hst:((if l.any (isV i)=true then (1:Int) else if (P.any fun n=>a4w (ndR T n) k)=true then 1 else 2) != 0)=true:=by
      split
      ·rfl
      ·split<;>rfl
     rw [hst,Bool.true_and]
     have hg:gM T q.2 (Api_Goal.mk (srt (P.map fun n=>atM (ndR T n) k)) (srt ((l.filter (isV i)).map fun p=>atM (ndR T p.2) k)) false)=((P.all fun n=>w9 T q.2 (atM (ndR T n) k))&&(l.filter (isV i)).all fun p=>!w9 T q.2 (atM (ndR T p.2) k)):=by
      show gM T q.2 (g0 _ _)=_
      rw [c7t]
      unfold gM
      simp only [List.all_map]
      rfl
     rw [hg]
     cases hm:c0W (P.map fun n=>atM (ndR T n) k) ((l.filter (isV i)).map fun p=>atM (ndR T p.2) k) with
     | false=>rfl
     | true =>
       simp only [Bool.not_true,Bool.false_and]
       symm
       rw [Bool.eq_false_iff]
       intro h
       rw [Bool.and_eq_true,List.all_eq_true,List.all_eq_true] at h
       unfold c0W at hm
       obtain ⟨x,hx,hy⟩:=List.any_eq_true.1 hm
       obtain ⟨y,hy,hxy⟩:=List.any_eq_true.1 hy
       obtain ⟨n,hn,e1⟩:=List.mem_map.1 hx
       obtain ⟨p,hp,e2⟩:=List.mem_map.1 hy
       have hxy:x=y:=by simpa using hxy
       have a1:=h.1 n hn
       have a2:=h.2 p hp
       rw [e1] at a1
       rw [e2,<- hxy,a1] at a2
       cases a2
 | none =>
   have hh:=c2r hl hf
   have hno:=List.find?_eq_none.1 hf
   have hany:∀ a:Int,((kv v).any fun q'=>Z3 q'.1 k&&!w9 T q'.2 a)=false:=fun a=>by
    rw [Bool.eq_false_iff]
    intro h
    obtain ⟨q',hq',h⟩:=List.any_eq_true.1 h
    rw [Bool.and_eq_true] at h
    exact hno q' hq' h.1
   have hall:∀ a:Int,((kv v).all fun q'=>!Z3 q'.1 k||w9 T q'.2 a)=true:=fun a=>List.all_eq_true.2 fun q' hq'=>by
    have:=hno q' hq'
    simp only [Bool.not_eq_true] at this
    rw [this]
    rfl
   have hpos:b7T T v P k=!P.any fun n=>a4w (ndR T n) k:=by
    unfold b7T
    simp only [hh,Bool.or_false,hall,Bool.and_true]
    induction P with
    | nil=>rfl
    | cons n P ih=>rw [List.all_cons,List.any_cons,ih,Bool.not_or]
   have hneg:b7f T v l i k=!l.any (isV i):=by
    unfold b7f
    simp only [hh,hany,Bool.not_false]
    induction l with
    | nil=>rfl
    | cons p l ih =>
      rw [List.all_cons,ih,List.any_cons]
      unfold isV bne
      cases h1:(p.1.key==i)<;>cases h2:p.1.absent<;>simp [h1,h2]
   rw [hpos,hneg]
   have hflt:l.any (isV i)=false->l.filter (isV i)=[]:=fun h=>by
    rw [List.filter_eq_nil_iff]
    intro p hp hv
    rw [List.any_eq_false] at h
    exact h p hp hv
   cases ha:l.any (isA i)<;>cases hv:l.any (isV i)<;>cases hr:(P.any fun n=>a4w (ndR T n) k)<;>simp [hv,hflt,c0W]
end
end Go.Pl
end
section
namespace Go.Pl
open Go Go.RowKit Go.Sx Go.Qx
def a5x (s:Api_Shape)(kd:Int):Api_Goal:=if kd=0 then s.Rest.1 else s.Rest.2
def a8L (T:Api_Type)(v:Val)(s:Api_Shape):Bool :=
 ((s.Keys.zip (s.States.zip s.Parts)).all fun q=>a7G T v q.1 q.2.1 q.2.2)&&(((kv v).all fun q=>V5 s.Keys q.1||gM T q.2 (a5x s q.1.Kind))&&s.Some.all fun w=>(kv v).any fun q=>!V5 s.Keys q.1&&(q.1.Kind==w.Kind&&gM T q.2 w.Goal))
section
variable {T:Api_Type}{v:Val}{keys:List Key}
theorem d2I {P:List Int}(hk:∀ n∈P,∀ f∈(ndR T n).Fields,f.Key_∈keys)(hu:∀ n∈P,∀ f∈(ndR T n).Fields,∀ g∈(ndR T n).Fields,f.Key_=g.Key_->f=g) :
 (P.all fun n=>a3c (w9 T) v (ndR T n))=((keys.all fun k=>b7T T v P k)&&(kv v).all fun q=>V5 keys q.1||P.all fun n=>w9 T q.2 (a4i (ndR T n) q.1)):=by
 rw [Bool.eq_iff_iff,Bool.and_eq_true,List.all_eq_true,List.all_eq_true,List.all_eq_true]
 have hrest:∀ n∈P,∀ k:Key,V5 keys k=false->atM (ndR T n) k=a4i (ndR T n) k:=fun n hn k hno=>c1p fun f hf e=>by
  have:=a5q.2 (hk n hn f hf)
  rw [e,hno] at this
  cases this
 constructor
 ·intro h
  refine ⟨fun k _=>List.all_eq_true.2 fun n hn=>?_,fun q hq=>?_⟩
  ·have hm:=h n hn
   unfold a3c at hm
   rw [Bool.and_eq_true,List.all_eq_true,List.all_eq_true] at hm
   rw [Bool.and_eq_true]
   refine ⟨?_,List.all_eq_true.2 fun q hq=>?_⟩
   ·unfold a4w
    cases hf:(ndR T n).Fields.find? (fun f=>Z3 f.Key_ k) with
    | none=>rfl
    | some f =>
      have h1:=hm.1 f (List.mem_of_find?_eq_some hf)
      have hfk:=b2j hf
      rw [hfk] at h1
      show (!(!f.Optional)||V5 v.Keys k)=true
      rw [Bool.not_not]
      exact h1
   ·cases hq2:Z3 q.1 k with
    | false=>rfl
    | true =>
      have:=hm.2 q hq
      rw [a0V.1 hq2] at this
      rw [this]
      rfl
  ·cases hno:V5 keys q.1 with
   | true=>rfl
   | false =>
     rw [Bool.false_or]
     refine List.all_eq_true.2 fun n hn=>?_
     have hm:=h n hn
     unfold a3c at hm
     rw [Bool.and_eq_true,List.all_eq_true,List.all_eq_true] at hm
     rw [<- hrest n hn q.1 hno]
     exact hm.2 q hq
 ·rintro ⟨h1,h2⟩ n hn
  unfold a3c
  rw [Bool.and_eq_true,List.all_eq_true,List.all_eq_true]
  refine ⟨fun f hf=>?_,fun q hq=>?_⟩
  ·have h:=List.all_eq_true.1 (h1 _ (hk n hn f hf)) n hn
   rw [Bool.and_eq_true] at h
   have hr:a4w (ndR T n) f.Key_=!f.Optional:=by
    unfold a4w
    cases hg:(ndR T n).Fields.find? (fun g=>Z3 g.Key_ f.Key_) with
    | none =>
      have:=List.find?_eq_none.1 hg f hf
      rw [a0V.2 rfl] at this
      exact absurd rfl this
    | some g=>rw [hu n hn g (List.mem_of_find?_eq_some hg) f hf (b2j hg)]
   have h3:=h.1
   rw [hr,Bool.not_not] at h3
   exact h3
  ·cases hin:V5 keys q.1 with
   | true =>
     have h:=List.all_eq_true.1 (h1 _ (a5q.1 hin)) n hn
     rw [Bool.and_eq_true,List.all_eq_true] at h
     have h4:=h.2 q hq
     rw [a0V.2 rfl] at h4
     exact h4
   | false =>
     have h:=h2 q hq
     rw [hin,Bool.false_or,List.all_eq_true] at h
     rw [hrest n hn q.1 hin]
     exact h n hn
theorem d2Y {l:List (Record_place×Int)}(hl:∀ p∈l,p.1.key<(keys.length:Int)) :
 (l.all fun q=>a6X T v (ndR T q.2) keys q.1)=((keys.zipIdx.all fun p=>b7f T v l (p.2:Int) p.1)&&l.all fun q=>decide (0<=q.1.key)||(kv v).any fun r=>!V5 keys r.1&&(r.1.Kind==q.1.kind&&!w9 T r.2 (a2T (ndR T q.2) q.1.kind))):=by
 rw [Bool.eq_iff_iff,Bool.and_eq_true,List.all_eq_true,List.all_eq_true,List.all_eq_true]
 constructor
 ·intro h
  refine ⟨fun p hp=>List.all_eq_true.2 fun q hq=>?_,fun q hq=>?_⟩
  ·rw [List.mem_zipIdx_iff_getElem?] at hp
   cases he:(q.1.key != (p.2:Int)) with
   | true=>rfl
   | false =>
     have he:q.1.key=(p.2:Int):=by simpa using he
     have hv:=h q hq
     unfold a6X at hv
     rw [if_pos (by omega),he,Int.toNat_natCast,hp] at hv
     exact hv
  ·by_cases h0:0<=q.1.key
   ·rw [decide_eq_true h0]; rfl
   ·rw [decide_eq_false h0,Bool.false_or]
    have hv:=h q hq
    unfold a6X at hv
    rw [if_neg h0] at hv
    exact hv
 ·rintro ⟨h1,h2⟩ q hq
  unfold a6X
  by_cases h0:0<=q.1.key
  ·rw [if_pos h0]
   obtain ⟨i,hi⟩:∃ i:Nat,q.1.key=(i:Int):=⟨q.1.key.toNat,by omega⟩
   have hil:i<keys.length:=by have:=hl q hq; omega
   have e:=List.getElem?_eq_getElem hil
   have h:=List.all_eq_true.1 (h1 (keys[i],i) (by rw [List.mem_zipIdx_iff_getElem?]; exact e)) q hq
   rw [hi,Int.toNat_natCast,e]
   simp only [hi,bne_self_eq_false,Bool.false_or] at h
   exact h
  ·rw [if_neg h0]
   have h:=h2 q hq
   rw [decide_eq_false h0,Bool.false_or] at h
   exact h
theorem c1H (x:Api_TypeNode)(k:Key):a4i x k=a2T x k.Kind:=rfl
theorem c24 {P N:List Int}{ch:List Record_place}(hlv:v.Keys.length=v.Kids.length)(hun:∀ q∈kv v,∀ q'∈kv v,q.1=q'.1->q=q')
 (hk:∀ n∈P,∀ f∈(ndR T n).Fields,f.Key_∈keys) (hu:∀ n∈P,∀ f∈(ndR T n).Fields,∀ g∈(ndR T n).Fields,f.Key_=g.Key_->f=g) (hcl:∀ p∈ch.zip N,p.1.key<(keys.length:Int)) :
 (match shZ T P N keys ch with | some s=>a8L T v s | none=>false)=((P.all fun n=>a3c (w9 T) v (ndR T n))&&(ch.zip N).all fun q=>a6X T v (ndR T q.2) keys q.1):=by
 rw [d2I hk hu,d2Y hcl]
 have hone:=fun (i:Nat) (k:Key)=>d0t (T:=T) (k:=k) (v:=v) (P:=P) (N:=N) (ch:=ch) (i:=(i:Int)) hlv hun
 have hKeys:((keys.zipIdx.all fun p=>(stZ T P N (p.2:Int) p.1 ch).2.2)&&keys.zipIdx.all fun p=>a7G T v p.1 (stZ T P N (p.2:Int) p.1 ch).1 (stZ T P N (p.2:Int) p.1 ch).2.1)=((keys.all fun k=>b7T T v P k)&&keys.zipIdx.all fun p=>b7f T v (ch.zip N) (p.2:Int) p.1):=by
  rw [Bool.eq_iff_iff]
  simp only [Bool.and_eq_true,List.all_eq_true]
  constructor
  ·rintro ⟨h1,h2⟩
   have h3:∀ p∈keys.zipIdx,(b7T T v P p.1&&b7f T v (ch.zip N) (p.2:Int) p.1)=true:=fun p hp=>by rw [<- hone p.2 p.1,h1 p hp,h2 p hp]; rfl
   refine ⟨fun k hk=>?_,fun p hp=>?_⟩
   ·obtain ⟨i,hi,e⟩:=List.getElem_of_mem hk
    have:=h3 (k,i) (by rw [List.mem_zipIdx_iff_getElem?]; show keys[i]?=some k; rw [List.getElem?_eq_getElem hi,e])
    rw [Bool.and_eq_true] at this
    exact this.1
   ·have:=h3 p hp
    rw [Bool.and_eq_true] at this
    exact this.2
  ·rintro ⟨h1,h2⟩
   have h3:∀ p∈keys.zipIdx,((stZ T P N (p.2:Int) p.1 ch).2.2&&a7G T v p.1 (stZ T P N (p.2:Int) p.1 ch).1 (stZ T P N (p.2:Int) p.1 ch).2.1)=true:=fun p hp=>by
    have hm:p.1∈keys:=by rw [List.mem_zipIdx_iff_getElem?] at hp; exact List.mem_of_getElem? hp
    rw [hone p.2 p.1,h1 _ hm,h2 p hp]
    rfl
   exact ⟨fun p hp=>by have:=h3 p hp; rw [Bool.and_eq_true] at this; exact this.1,fun p hp=>by have:=h3 p hp; rw [Bool.and_eq_true] at this; exact this.2⟩
 have hzall:(zsZ T P N keys ch).all (·.2.2)=keys.zipIdx.all fun p=>(stZ T P N (p.2:Int) p.1 ch).2.2:=by unfold zsZ; rw [List.all_map]; rfl
 have hzip:((keys.zip (((zsZ T P N keys ch).map (·.1)).zip ((zsZ T P N keys ch).map (·.2.1)))).all fun q=>a7G T v q.1 q.2.1 q.2.2)=keys.zipIdx.all fun p=>a7G T v p.1 (stZ T P N (p.2:Int) p.1 ch).1 (stZ T P N (p.2:Int) p.1 ch).2.1:=by
  have e1:keys.zip (((zsZ T P N keys ch).map (·.1)).zip ((zsZ T P N keys ch).map (·.2.1)))=keys.zipIdx.map fun p=>(p.1,(stZ T P N (p.2:Int) p.1 ch).1,(stZ T P N (p.2:Int) p.1 ch).2.1):=by
   apply List.ext_getElem?
   intro j
   rw [List.getElem?_map,List.getElem?_zipIdx]
   by_cases hj:j<keys.length
   ·have e:=List.getElem?_eq_getElem hj
    rw [e]
    simp only [Option.map_some,Nat.zero_add]
    rw [List.getElem?_zip_eq_some,List.getElem?_zip_eq_some]
    unfold zsZ
    simp only [List.getElem?_map,List.getElem?_zipIdx,e,Option.map_some,Nat.zero_add,and_self]
   ·have e:keys[j]?=none:=List.getElem?_eq_none (by omega)
    rw [e,Option.map_none,Option.map_none]
    exact List.getElem?_eq_none (by rw [List.length_zip]; omega)
  rw [e1,List.all_map]
  rfl
 have hgr:∀ (u:Val) (kd:Int),gM T u (Api_Goal.mk (rsZ T P kd) (srt []) false)=P.all fun n=>w9 T u (a2T (ndR T n) kd):=fun u kd=>by
  show gM T u (g0 (srt _) (srt []))=_
  rw [c7t]
  unfold gM
  simp only [List.all_map,List.all_nil,Bool.and_true]
  rfl
 generalize hl:ch.zip N=l at *
 have hF:((soZ T l).all fun w=>(kv v).any fun q=>!V5 keys q.1&&(q.1.Kind==w.Kind&&gM T q.2 w.Goal))=l.all fun q=>decide (0<=q.1.key)||(kv v).any fun r=>!V5 keys r.1&&(r.1.Kind==q.1.kind&&!w9 T r.2 (a2T (ndR T q.2) q.1.kind)):=by
  unfold soZ
  rw [List.all_map,List.all_filter]
  congr 1
  funext q
  simp only [Function.comp_def,gM,List.all_nil,List.all_cons,Bool.and_true,Bool.true_and,Bool.not_not]
 have hE:∀ s:Api_Shape,s.Rest=(Api_Goal.mk (rsZ T P 0) (srt []) false,Api_Goal.mk (rsZ T P 1) (srt []) false)->((kv v).all fun q=>V5 keys q.1||gM T q.2 (a5x s q.1.Kind))=(kv v).all fun q=>V5 keys q.1||P.all fun n=>w9 T q.2 (a4i (ndR T n) q.1):=fun s hs=>by
  congr 1
  funext q
  congr 1
  unfold a5x
  rw [hs]
  by_cases h0:q.1.Kind=0
  ·rw [if_pos h0,hgr]
   congr 1
   funext n
   rw [c1H,h0]
  ·rw [if_neg h0,hgr]
   congr 1
   funext n
   rw [c1H]
   unfold a2T
   rw [if_neg h0]
   rfl
 have hre:∀ a b c d:Bool,((a&&b)&&(c&&d))=((a&&c)&&(b&&d)):=by decide
 rw [hre,<- hKeys]
 unfold shZ
 simp only [hl,hzall]
 cases hA:keys.zipIdx.all fun p=>(stZ T P N (p.2:Int) p.1 ch).2.2 with
 | false=>simp
 | true =>
   cases hG:l.any (a7e T P) with
   | false =>
     simp only [Bool.not_false,Bool.and_self,if_true,Bool.true_and]
     unfold a8L
     simp only
     rw [hzip,hF,hE _ rfl]
   | true =>
     simp only [Bool.not_true,Bool.and_false,Bool.false_eq_true,if_false]
     symm
     rw [Bool.eq_false_iff]
     intro h
     simp only [Bool.and_eq_true,List.all_eq_true] at h
     obtain ⟨_,h2,h3⟩:=h
     obtain ⟨p,hp,hb⟩:=List.any_eq_true.1 hG
     unfold a7e at hb
     rw [Bool.and_eq_true,List.any_eq_true] at hb
     obtain ⟨hb1,y,hy,hy2⟩:=hb
     have h4:=h3 p hp
     have hb1:decide (0<=p.1.key)=false:=by simpa using hb1
     rw [hb1,Bool.false_or,List.any_eq_true] at h4
     obtain ⟨q,hq,hq2⟩:=h4
     simp only [Bool.and_eq_true,Bool.not_eq_true',beq_iff_eq] at hq2
     obtain ⟨a1,a2,a3⟩:=hq2
     have h5:=h2 q hq
     rw [a1,Bool.false_or,List.all_eq_true] at h5
     have hall:(rsZ T P p.1.kind).all (w9 T q.2)=true:=by
      have:=hgr q.2 p.1.kind
      unfold gM at this
      have h6:(P.all fun n=>w9 T q.2 (a2T (ndR T n) p.1.kind))=true:=List.all_eq_true.2 fun n hn=>by
       have:=h5 n hn
       rw [c1H,a2] at this
       exact this
      rw [h6] at this
      rw [Bool.and_eq_true] at this
      exact this.1
     have:=List.all_eq_true.1 hall y hy
     have hyy:a2T (ndR T p.2) p.1.kind=y:=by simpa using hy2
     rw [<- hyy,a3] at this
     cases this
end
end Go.Pl
end
section
namespace Go.Pl
open Go Go.RowKit Go.Sx Go.Qx
section
variable {T:Api_Type}{v:Val}{keys:List Key}
theorem c49 {x:Api_TypeNode}{p:Record_place}(h:p∈plZ T x keys):p.key<(keys.length:Int)/\PlB p:=by
 rcases b1A.1 h with ⟨i,k,e,hp⟩ | hp
 ·have hi:=(List.getElem?_eq_some_iff.1 e).1
  rcases b8h.1 hp with ⟨_,rfl⟩ | ⟨_,rfl⟩<;>exact ⟨by show (i:Int)<_; omega,.inl (by show (0:Int)<=(i:Int); omega)⟩
 ·rcases hp with hp | hp
  ·rw [(b1C.1 hp).2]; exact ⟨by show (-1:Int)<_; omega,.inr (.inl rfl)⟩
  ·rw [(b1C.1 hp).2]; exact ⟨by show (-1:Int)<_; omega,.inr (.inr rfl)⟩
theorem c47:∀ {N:List Int} {ch:List Record_place},ch∈chZ T keys N->∀ p∈ch.zip N,p.1.key<(keys.length:Int)
 | [],ch,h,p,hp=>by rw [List.zip_nil_right] at hp; cases hp
 | n::r,ch,h,p,hp=>by
   simp only [chZ,List.mem_flatMap,List.mem_map] at h
   obtain ⟨q,hq,c,hc,rfl⟩:=h
   rw [List.zip_cons_cons,List.mem_cons] at hp
   rcases hp with rfl | hp
   ·exact (c49 hq).1
   ·exact c47 hc p hp
theorem c6s {P N:List Int}(hlv:v.Keys.length=v.Kids.length)(hun:∀ q∈kv v,∀ q'∈kv v,q.1=q'.1->q=q')
 (hk:∀ n∈P++N,∀ f∈(ndR T n).Fields,f.Key_∈keys) (hu:∀ n∈P++N,∀ f∈(ndR T n).Fields,∀ g∈(ndR T n).Fields,f.Key_=g.Key_->f=g)
 (hv:∀ k∈v.Keys,Y9 k=true) (hany:∀ a,a58 T a=true->∀ u∈v.Kids,w9 T u a=true) :
 ((b1G T P N keys).any (a8L T v))=((P.all fun n=>a3c (w9 T) v (ndR T n))&&N.all fun n=>!a3c (w9 T) v (ndR T n)):=by
 rw [c4H (P:=P) (fun n hn=>hk n (List.mem_append_right _ hn)) (fun n hn=>hu n (List.mem_append_right _ hn)) hv hany]
 unfold b1G
 have key:∀ l:List (List Record_place),(∀ ch∈l,ch∈chZ T keys N)->((l.filterMap (shZ T P N keys)).any (a8L T v))=l.any fun ch=>(P.all fun n=>a3c (w9 T) v (ndR T n))&&(ch.zip N).all fun q=>a6X T v (ndR T q.2) keys q.1:=by
  intro l
  induction l with
  | nil=>intro _; rfl
  | cons ch l ih =>
    intro h
    have hc:=c24 (T:=T) (v:=v) (keys:=keys) (P:=P) (N:=N) (ch:=ch) hlv hun (fun n hn=>hk n (List.mem_append_left _ hn)) (fun n hn=>hu n (List.mem_append_left _ hn)) (c47 (h ch (List.mem_cons_self ..)))
    have ih':=ih fun c hcl=>h c (List.mem_cons_of_mem _ hcl)
    rw [List.any_cons,<- ih',<- hc,List.filterMap_cons]
    cases shZ T P N keys ch with
    | none=>simp
    | some s=>simp
 exact key _ fun _ h=>h
end
end Go.Pl
end
section
namespace Go.Pl
open Go Go.RowKit Go.Sx Go.Qx
section
variable {T:Api_Type}{L:Api_Line}
theorem c6N (hT:GT T)(hr:inR T.Nodes.length T.Root=true)(hK:L.Kind=8)(hp:L.Pos.all (mpB T)=true)(hq:L.Neg.all (mpB T)=true)(hpl:L.Pos.length<=6)(hnl:L.Neg.length<=6)(n:Nat)(hn:1100001<=n) :
 ∃ ks,asc cK ks=true/\(∀ y,y∈ks↔y∈a4a T (L.Pos++L.Neg))/\ks.length<=36/\ks.all Y9=true/\a3D n T L=some (b1G T L.Pos L.Neg ks,0):=by
 have hall:(L.Pos++L.Neg).all (mpB T)=true:=by rw [List.all_append,hp,hq]; rfl
 have hlen:(L.Pos++L.Neg).length<=12:=by rw [List.length_append]; omega
 obtain ⟨ks,ek,hkl,hks,hkm⟩:=c11 hT (L.Pos++L.Neg) (by omega) (c6l hall)
 have hok:ks.all Y9=true:=List.all_eq_true.2 fun y hy=>c8J hT hall y ((hkm y).1 hy)
 refine ⟨ks,hks,hkm,by omega,hok,?_⟩
 unfold a3D
 have e0:(L.Kind != 8)=false:=by simp [hK]
 rw [e0,wf0 hT hr n hn,c5a L.Pos (by omega),c5a L.Neg (by omega),hp,hq]
 simp only [cond_false,Option.bind_some,bne_self_eq_false,Bool.not_true]
 have hcl:a0U 8 L.Pos=some L.Pos:=by unfold a0U; rw [Z2 (by omega)]; rfl
 rw [hcl]
 simp only [Option.bind_some]
 rw [Z2 (by omega)]
 simp only [Option.bind_some]
 rw [ek]
 simp only [Option.bind_some]
 have hroom:a6R (L.Neg.length:Int) (L.Neg.length:Int) 24=some L.Neg.length:=by
  unfold a6R
  rw [show (decide (0<=(L.Neg.length:Int))&&decide ((L.Neg.length:Int)<=(L.Neg.length:Int))&&decide ((L.Neg.length:Int)*((24:Nat):Int)<=140737488355328))=true from by simp; omega]
  simp
 rw [hroom]
 simp only [Option.bind_some]
 have hpw:74^L.Neg.length<=74^6:=Nat.pow_le_pow_right (by decide) hnl
 obtain ⟨ch',out',e1,_,_,_,_,e2⟩:=c7Y hT hp hq hpl hnl ks hok (by omega) L.Neg.length 0 n (List.replicate L.Neg.length (Record_place.mk 0 false 0)) [] (by omega) (by omega) (by simp) (fun p hp=>.inl (by rw [(List.mem_replicate.1 hp).2]; exact Int.le_refl _)) (by
  have:(74:Nat)^6=164206490176:=by decide
  simp only [List.length_nil]
  omega)
 have e1':a0E n 0 L T ks (List.replicate L.Neg.length (Record_place.mk 0 false 0)) [] ()=some (ch',out'):=e1
 rw [e1',e2]
 simp only [List.take_zero,List.nil_append,List.drop_zero,Option.bind_some]
 rfl
theorem c3q (l:List Key)(k:Key)(hl:l.length<=4194304):(∃ (i:Nat),l[i]?=some k/\(∀ j,j<i->l[j]?≠some k)/\a0c l k=some (i:Int))\/(V5 l k=false/\a0c l k=some (-1)):=by
 unfold a0c
 rw [w4]
 rcases a4q (step:=a3v l k) l (fun y=>Z3 y k) (fun i _=>(i:Int)) (fun i x hx=>by
  have hi:i<l.length:=(List.getElem?_eq_some_iff.1 hx).1
  unfold a3v
  rw [k9 hi,y4 hx]
  simp only [cond_true,Option.bind_some,a73,v7]
  rw [j5 i (by omega)]
  cases Z3 x k<;>rfl) (by
  unfold a3v
  simp) with ⟨i,x,hx,hp,hn,e⟩ | ⟨h,e⟩
 ·refine .inl ⟨i,by rw [hx,a0V.1 hp],fun j hj h=>?_,by rw [e]; rfl⟩
  have:=hn j hj k h
  rw [a0V.2 rfl] at this
  cases this
 ·exact .inr ⟨h,by rw [e]; rfl⟩
end
end Go.Pl
end
section
namespace Go.Pl
open Go Go.RowKit Go.Sx Go.Qx
def gG (T:Api_Type)(g:Api_Goal):Prop:=g.Lists=false/\gIn T.Nodes.length g=true/\g.Pos.length<=1000000/\g.Neg.length<=1000000
structure SOk (T:Api_Type)(s:Api_Shape):Prop where
 st:s.States.length=s.Keys.length
 pa:s.Parts.length=s.Keys.length
 few:s.Keys.length<=1000000/\s.Some.length<=1000000
 sts:∀ x∈s.States,x=0\/x=1\/x=2
 parts:∀ g∈s.Parts,gG T g
 rest:gG T s.Rest.1/\gG T s.Rest.2
 some:∀ w∈s.Some,gG T w.Goal
structure MOk (v:Val):Prop where
 len:v.Keys.length=v.Kids.length
 few:v.Keys.length<=1000000
 keys:∀ k∈v.Keys,Y9 k=true
 asc:asc cK v.Keys=true
 ok:∀ u∈v.Kids,vOK u=true/\k8 u<=2097152
section
variable {T:Api_Type}{v:Val}{s:Api_Shape}
theorem c0e (hT:GT T)(hr:inR T.Nodes.length T.Root=true){u:Val}(ho:vOK u=true/\k8 u<=2097152){g:Api_Goal}(hg:gG T g)(n:Nat)(hn:200000000<=n):X2 n u T g=some (gM T u g):=by
 obtain ⟨p,q,l⟩:=g
 obtain ⟨h1,h2,h3,h4⟩:=hg
 have h1:l=false:=h1
 subst h1
 exact c0Q hT hr ho.1 ho.2 p q h2 h3 h4 n hn
theorem c5n {k:Key}{j:Nat}(h:MOk v)(hj:v.Keys[j]?=some k)(hn:∀ i,i<j->v.Keys[i]?≠some k):∃ u,v.Kids[j]?=some u/\u∈v.Kids/\(kv v).find? (fun q=>Z3 q.1 k)=some (k,u):=by
 have hl:=(List.getElem?_eq_some_iff.1 hj).1
 have hl2:j<v.Kids.length:=by have:=h.len; omega
 refine ⟨v.Kids[j],List.getElem?_eq_getElem hl2,List.getElem_mem hl2,b4E (i:=j) (by rw [List.getElem?_zip_eq_some]; exact ⟨hj,List.getElem?_eq_getElem hl2⟩) (a0V.2 rfl) fun i hi y hy=>?_⟩
 obtain ⟨a1,_⟩:=a4z hy
 cases hk:Z3 y.1 k with
 | false=>rfl
 | true=>rw [a0V.1 hk] at a1; exact absurd a1 (hn i hi)
theorem c0H {k:Key}(h:V5 v.Keys k=false):(kv v).find? (fun q=>Z3 q.1 k)=none:=by
 rw [List.find?_eq_none]
 intro q hq hk
 have:=a5q.2 (List.of_mem_zip hq).1
 rw [a0V.1 hk,h] at this
 cases this
theorem d2X (hT:GT T)(hr:inR T.Nodes.length T.Root=true)(hv:MOk v)(hs:SOk T s)(n:Nat)(hn:200000000<=n) :
 z7 (a1C v T s n) (s.Keys.length+1) 0=some (if ((s.Keys.zip (s.States.zip s.Parts)).all fun q=>a7G T v q.1 q.2.1 q.2.2)=true then .inl () else .inr false):=by
 have hzl:(s.Keys.zip (s.States.zip s.Parts)).length=s.Keys.length:=by have:=hs.st; have:=hs.pa; rw [List.length_zip,List.length_zip]; omega
 have h:=J4 (step:=a1C v T s n) (s.Keys.zip (s.States.zip s.Parts)) (fun q=>a7G T v q.1 q.2.1 q.2.2) (fun i=>(i:Int)) () false (fun i x hx=>by
  obtain ⟨eK,e2⟩:=a4z hx
  obtain ⟨eS,eP⟩:=a4z e2
  have hi:=(List.getElem?_eq_some_iff.1 eK).1
  have hst:=hs.sts _ (List.mem_of_getElem? eS)
  have hg:=hs.parts _ (List.mem_of_getElem? eP)
  obtain ⟨k,st,g⟩:=x
  simp only at eK eS eP hst hg ⊢
  have s1:decide (st<0)=false:=by simp; omega
  have s2:decide (2<st)=false:=by simp; omega
  unfold a1C a7G
  simp only [v7]
  rw [k9 hi,y4 eK]
  simp only [cond_true,Option.bind_some]
  have hf:=hs.few
  have hvf:=hv.few
  rcases c3q v.Keys k (by omega) with ⟨j,hj,hjn,e⟩ | ⟨hno,e⟩
  ·obtain ⟨u,hu,hum,hfind⟩:=c5n hv hj hjn
   have d1:decide ((j:Int)<0)=false:=by simp
   have d2:decide (0<=(j:Int))=true:=by simp
   rw [e,hfind]
   simp only [Option.bind_some]
   rw [y4 eS]
   simp only [Option.bind_some,s1,s2,d1,d2,cond_false,cond_true]
   cases h0:(st==0) with
   | true =>
     have:(st != 0)=false:=by unfold bne; rw [h0]; rfl
     rw [this]
     rfl
   | false =>
     have:(st != 0)=true:=by unfold bne; rw [h0]; rfl
     rw [this]
     simp only [cond_false,Bool.true_and]
     rw [y4 hu]
     simp only [Option.bind_some]
     rw [y4 eP]
     simp only [Option.bind_some]
     rw [c0e hT hr (hv.ok u hum) hg n hn,j5 i (by omega)]
     cases gM T u g<;>rfl
  ·have d1:decide ((-1:Int)<0)=true:=by decide
   have d2:decide (0<=(-1:Int))=false:=by decide
   rw [e,c0H hno]
   simp only [Option.bind_some]
   rw [y4 eS]
   simp only [Option.bind_some,s1,s2,d1,d2,cond_false,cond_true]
   cases h0:(st==1) with
   | true =>
     have:(st != 1)=false:=by unfold bne; rw [h0]; rfl
     rw [this]
     rfl
   | false =>
     have:(st != 1)=true:=by unfold bne; rw [h0]; rfl
     rw [this,j5 i (by omega)]
     rfl) (by
  unfold a1C
  rw [hzl]
  simp)
 rw [hzl] at h
 exact h
theorem b7C (l:List Key)(k:Key)(hl:l.length<=4194304):∃ r,a0c l k=some r/\decide (r<0)=!V5 l k:=by
 rcases c3q l k hl with ⟨i,hi,_,e⟩ | ⟨hno,e⟩
 ·refine ⟨_,e,?_⟩
  rw [a5q.2 (List.mem_of_getElem? hi)]
  simp
 ·exact ⟨_,e,by rw [hno]; rfl⟩
theorem d2J (hT:GT T)(hr:inR T.Nodes.length T.Root=true)(hv:MOk v)(hs:SOk T s)(n:Nat)(hn:200000000<=n) :
 z7 (a1D v T s n) (v.Keys.length+1) 0=some (if ((kv v).all fun q=>V5 s.Keys q.1||gM T q.2 (a5x s q.1.Kind))=true then .inl () else .inr false):=by
 have hzl:(kv v).length=v.Keys.length:=by have:=hv.len; rw [List.length_zip]; omega
 have h:=J4 (step:=a1D v T s n) (kv v) (fun q=>V5 s.Keys q.1||gM T q.2 (a5x s q.1.Kind)) (fun i=>(i:Int)) () false (fun i x hx=>by
  obtain ⟨eK,eU⟩:=a4z hx
  have hi:=(List.getElem?_eq_some_iff.1 eK).1
  have hf:=hs.few
  have hvf:=hv.few
  obtain ⟨r,er,hrn⟩:=b7C s.Keys x.1 (by omega)
  unfold a1D
  simp only [v7]
  rw [k9 hi,y4 eK]
  simp only [cond_true,Option.bind_some]
  rw [er]
  simp only [Option.bind_some]
  rw [hrn,j5 i (by omega)]
  cases hh:V5 s.Keys x.1 with
  | true=>rfl
  | false =>
    simp only [Bool.not_false,cond_true,Bool.false_or]
    rw [y4 eU]
    simp only [Option.bind_some]
    rcases b7s (hv.keys _ (List.mem_of_getElem? eK)) with h0 | h0
    ·have hrg:a5x s x.1.Kind=s.Rest.1:=by unfold a5x; rw [if_pos h0]
     rw [hrg,h0]
     have b0:((0:Int)==0)=true:=rfl
     simp only [b0,cond_true]
     rw [c0e hT hr (hv.ok _ (List.mem_of_getElem? eU)) hs.rest.1 n hn]
     cases gM T x.2 s.Rest.1<;>rfl
    ·have hrg:a5x s x.1.Kind=s.Rest.2:=by unfold a5x; rw [if_neg (by omega)]
     rw [hrg,h0]
     have b0:((1:Int)==0)=false:=rfl
     have b1:((1:Int)==1)=true:=rfl
     simp only [b0,b1,cond_true,cond_false]
     rw [c0e hT hr (hv.ok _ (List.mem_of_getElem? eU)) hs.rest.2 n hn]
     cases gM T x.2 s.Rest.2<;>rfl) (by
  unfold a1D
  rw [hzl]
  simp)
 rw [hzl] at h
 exact h
theorem d2E (hT:GT T)(hr:inR T.Nodes.length T.Root=true)(hv:MOk v)(hs:SOk T s)(n:Nat)(hn:200000000<=n)(j:Nat){w:Api_SomeKey}(hw:s.Some[j]?=some w) :
 z7 (a1B v T s n (j:Int)) (v.Keys.length+1) (false,0)=some ((kv v).any fun q=>!V5 s.Keys q.1&&(q.1.Kind==w.Kind&&gM T q.2 w.Goal)):=by
 have hzl:(kv v).length=v.Keys.length:=by have:=hv.len; rw [List.length_zip]; omega
 have h:=a2K (σ:=Bool) (step:=a1B v T s n (j:Int)) (kv v) (fun b i=>(b,(i:Int))) (fun b q=>b||(!V5 s.Keys q.1&&(q.1.Kind==w.Kind&&gM T q.2 w.Goal))) (fun _ _=>True) (fun b=>b)
  (fun i b x hx _=>by
    obtain ⟨eK,eU⟩:=a4z hx
    have hi:=(List.getElem?_eq_some_iff.1 eK).1
    have hf:=hs.few
    have hvf:=hv.few
    refine ⟨?_,trivial⟩
    obtain ⟨r,er,hrn⟩:=b7C s.Keys x.1 (by omega)
    unfold a1B
    simp only [v7]
    rw [k9 hi,y4 eK,j5 i (by omega)]
    simp only [cond_true,Option.bind_some]
    cases b with
    | true=>rfl
    | false =>
      simp only [cond_false,Bool.false_or]
      rw [er]
      simp only [Option.bind_some]
      rw [hrn]
      cases hh:V5 s.Keys x.1 with
      | true=>rfl
      | false =>
        simp only [Bool.not_false,cond_true,Bool.true_and]
        rw [y4 hw]
        simp only [Option.bind_some]
        cases hk:(x.1.Kind==w.Kind) with
        | false=>rfl
        | true =>
          simp only [cond_true,Bool.true_and]
          rw [y4 eU]
          simp only [Option.bind_some]
          rw [c0e hT hr (hv.ok _ (List.mem_of_getElem? eU)) (hs.some _ (List.mem_of_getElem? hw)) n hn]
          rfl) (fun b _=>by
    unfold a1B
    rw [hzl]
    simp) false trivial (v.Keys.length+1) (by rw [hzl]; exact Nat.le_refl _)
 have hfold:∀ (l:List (Key×Val)) (f:Key×Val->Bool) (b:Bool),l.foldl (fun b q=>b||f q) b=(b||l.any f):=by
  intro l f
  induction l with
  | nil=>intro b; simp
  | cons q l ih=>intro b; rw [List.foldl_cons,ih,List.any_cons,Bool.or_assoc]
 rw [hfold,Bool.false_or] at h
 exact h
theorem c4w (hT:GT T)(hr:inR T.Nodes.length T.Root=true)(hK:v.Kind=8)(hv:MOk v)(hs:SOk T s)(n:Nat)(hn:200000000<=n):a0e n v T s=some (a8L T v s):=by
 have h4:=J4 (step:=a1A v T s n) s.Some (fun w=>(kv v).any fun q=>!V5 s.Keys q.1&&(q.1.Kind==w.Kind&&gM T q.2 w.Goal)) (fun i=>(i:Int)) () false (fun i w hw=>by
  have hi:=(List.getElem?_eq_some_iff.1 hw).1
  have hf:=hs.few
  unfold a1A
  simp only [v7,w4]
  rw [k9 hi]
  simp only [cond_true]
  rw [d2E hT hr hv hs n hn i hw,j5 i (by omega)]
  simp only [Option.bind_some]
  cases (kv v).any fun q=>!V5 s.Keys q.1&&(q.1.Kind==w.Kind&&gM T q.2 w.Goal)<;>rfl) (by
  unfold a1A
  simp)
 have h4':z7 (a1A v T s n) (s.Some.length+1) 0=_:=h4
 unfold a0e a8L
 have e0:(v.Kind != 8)=false:=by simp [hK]
 rw [e0,w4,w4,w4,d2X hT hr hv hs n hn,d2J hT hr hv hs n hn,h4']
 cases ((s.Keys.zip (s.States.zip s.Parts)).all fun q=>a7G T v q.1 q.2.1 q.2.2) with
 | false=>rfl
 | true =>
   cases ((kv v).all fun q=>V5 s.Keys q.1||gM T q.2 (a5x s q.1.Kind)) with
   | false=>rfl
   | true =>
     cases (s.Some.all fun w=>(kv v).any fun q=>!V5 s.Keys q.1&&(q.1.Kind==w.Kind&&gM T q.2 w.Goal))<;>rfl
end
end Go.Pl
end
section
namespace Go.Pl
open Go Go.RowKit Go.Sx Go.Qx
theorem c59 (a b:Key):Z3 a b=Z3 b a:=by rw [Bool.eq_iff_iff,a0V,a0V]; exact ⟨Eq.symm,Eq.symm⟩
section
variable {T:Api_Type}{v:Val}{s:Api_Shape}
theorem c4U (l:List Key)(k:Key)(hl:l.length<=4194304):(∃ (i:Nat),l[i]?=some k/\(∀ j,j<i->l[j]?≠some k)/\K8 l k=some (i:Int))\/(V5 l k=false/\K8 l k=some (-1)):=by
 unfold K8
 rw [w4]
 rcases a4q (step:=J7 l k) l (fun y=>Z3 y k) (fun i _=>(i:Int)) (fun i x hx=>by
  have hi:i<l.length:=(List.getElem?_eq_some_iff.1 hx).1
  unfold J7
  rw [k9 hi,y4 hx]
  simp only [cond_true,Option.bind_some,a73,v7]
  rw [j5 i (by omega),c59 k x]
  cases Z3 x k<;>rfl) (by
  unfold J7
  simp) with ⟨i,x,hx,hp,hn,e⟩ | ⟨h,e⟩
 ·refine .inl ⟨i,by rw [hx,a0V.1 hp],fun j hj h=>?_,by rw [e]; rfl⟩
  have:=hn j hj k h
  rw [a0V.2 rfl] at this
  cases this
 ·exact .inr ⟨h,by rw [e]; rfl⟩
theorem c0x (l:List Key)(k:Key)(hl:l.length<=4194304):Q6 l k=some (V5 l k):=by
 unfold Q6
 rcases c4U l k hl with ⟨i,hi,_,e⟩ | ⟨hno,e⟩
 ·rw [e,a5q.2 (List.mem_of_getElem? hi)]
  simp
 ·rw [e,hno]
  rfl
theorem c00 (hT:GT T)(hr:inR T.Nodes.length T.Root=true){u:Val}(ho:vOK u=true/\k8 u<=2097152){g:Api_Goal}(hg:gG T g)(n:Nat)(hn:200000000<=n):a2A n u T g=some (gM T u g):=by
 obtain ⟨p,q,l⟩:=g
 obtain ⟨h1,h2,h3,h4⟩:=hg
 have h1:l=false:=h1
 subst h1
 exact c7c hT hr ho.1 ho.2 p q h2 h3 h4 n hn
theorem c6d (hT:GT T)(hr:inR T.Nodes.length T.Root=true)(hv:MOk v){st:Int}(hst:st=0\/st=1\/st=2){g:Api_Goal}(hg:gG T g)(k:Key)(n:Nat)(hn:200000000<=n):a7l n v T k st g=some (a7G T v k st g):=by
 unfold a7l a7G
 have hvf:=hv.few
 rcases c4U v.Keys k (by omega) with ⟨j,hj,hjn,e⟩ | ⟨hno,e⟩
 ·obtain ⟨u,hu,hum,hfind⟩:=c5n hv hj hjn
  have d1:decide ((j:Int)<0)=false:=by simp
  have d2:decide (0<=(j:Int))=true:=by simp
  rw [e,hfind]
  simp only [Option.bind_some,d1,d2,cond_true,cond_false]
  rw [y4 hu]
  simp only [Option.bind_some]
  rw [c00 hT hr (hv.ok u hum) hg n hn]
  rcases hst with rfl | rfl | rfl
  ·rfl
  ·cases gM T u g<;>rfl
  ·cases gM T u g<;>rfl
 ·rw [e,c0H hno]
  rcases hst with rfl | rfl | rfl<;>rfl
theorem c6r (hT:GT T)(hr:inR T.Nodes.length T.Root=true)(hv:MOk v)(l:List Key)(hl:l.length<=1000000){w:Api_SomeKey}(hw:gG T w.Goal)(n:Nat)(hn:200000000<=n) :
 a7k n v T l w=some ((kv v).any fun q=>!V5 l q.1&&(q.1.Kind==w.Kind&&gM T q.2 w.Goal)):=by
 have hzl:(kv v).length=v.Keys.length:=by have:=hv.len; rw [List.length_zip]; omega
 have hvf:=hv.few
 have h:=J4 (step:=a3O v T l w n) (kv v) (fun q=>!(!V5 l q.1&&(q.1.Kind==w.Kind&&gM T q.2 w.Goal))) (fun i=>(i:Int)) () true (fun i x hx=>by
  obtain ⟨eK,eU⟩:=a4z hx
  have hi:=(List.getElem?_eq_some_iff.1 eK).1
  unfold a3O
  simp only [v7]
  rw [k9 hi,y4 eK,j5 i (by omega)]
  simp only [cond_true,Option.bind_some]
  cases hk:(x.1.Kind==w.Kind) with
  | false=>simp
  | true =>
    simp only [cond_true]
    rw [c0x l x.1 (by omega)]
    simp only [Option.bind_some]
    cases hh:V5 l x.1 with
    | true=>simp
    | false =>
      simp only [Bool.not_false,cond_true]
      rw [y4 eU]
      simp only [Option.bind_some]
      rw [c00 hT hr (hv.ok _ (List.mem_of_getElem? eU)) hw n hn]
      cases gM T x.2 w.Goal<;>rfl) (by
  unfold a3O
  rw [hzl]
  simp)
 rw [hzl] at h
 have h':z7 (a3O v T l w n) (v.Keys.length+1) 0=_:=h
 unfold a7k
 rw [w4,h']
 have:((kv v).all fun q=>!(!V5 l q.1&&(q.1.Kind==w.Kind&&gM T q.2 w.Goal)))=!(kv v).any fun q=>!V5 l q.1&&(q.1.Kind==w.Kind&&gM T q.2 w.Goal):=by rw [List.not_any_eq_all_not]
 rw [this]
 cases (kv v).any fun q=>!V5 l q.1&&(q.1.Kind==w.Kind&&gM T q.2 w.Goal)<;>rfl
theorem c8f (hs:SOk T s):∃ l,a8Q s=some l/\l.length<=4000000/\∀ g∈l,gG T g:=by
 have hf:=hs.few
 have hp:=hs.pa
 unfold a8Q
 have hcl:a0U 56 s.Parts=some s.Parts:=by unfold a0U; rw [Z2 (by omega)]; rfl
 rw [hcl]
 simp only [Option.bind_some]
 rw [Z2 (by simp only [List.length_cons,List.length_nil]; omega)]
 simp only [Option.bind_some,w4]
 obtain ⟨r,e,h1,h2⟩:=a9J (σ:=List Api_Goal) (step:=a6H s) (fun l i=>(l,i)) s.Some.length (fun j l=>l.length=s.Parts.length+2+j/\∀ g∈l,gG T g) (fun l=>l.length<=4000000/\∀ g∈l,gG T g)
  (fun j l hj hI=>.inl (by
    have e:=List.getElem?_eq_getElem hj
    have h1:=hI.1
    unfold a6H
    simp only [v7]
    rw [k9 hj,y4 e]
    simp only [cond_true,Option.bind_some]
    rw [Z2 (by simp only [List.length_cons,List.length_nil]; omega),j5 j (by omega)]
    refine ⟨_,rfl,by simp only [List.length_append,List.length_cons,List.length_nil]; omega,fun g hg=>?_⟩
    rcases List.mem_append.1 hg with hg | hg
    ·exact hI.2 g hg
    ·rw [List.mem_singleton.1 hg]; exact hs.some _ (List.getElem_mem hj)))
  (fun l hI=>⟨l,by
    unfold a6H
    simp,by have:=hI.1; omega,hI.2⟩) (s.Parts++[s.Rest.1,s.Rest.2]) ⟨by simp only [List.length_append,List.length_cons,List.length_nil],fun g hg=>by
    rcases List.mem_append.1 hg with hg | hg
    ·exact hs.parts g hg
    ·simp only [List.mem_cons,List.not_mem_nil,or_false] at hg
     rcases hg with rfl | rfl
     ·exact hs.rest.1
     ·exact hs.rest.2⟩
 rw [e]
 exact ⟨r,rfl,h1,h2⟩
theorem c4p (hT:GT T)(hr:inR T.Nodes.length T.Root=true)(ho:vOK v=true)(hb:k8 v<=2097152)(hK:v.Kind=8)(hv:MOk v)(hs:SOk T s)(n:Nat)(hn:200000000<=n):a2i n v T s=some (a8L T v s):=by
 have hf:=hs.few
 have hst:=hs.st
 have hpa:=hs.pa
 have hvf:=hv.few
 have hkl:(kv v).length=v.Keys.length:=by have:=hv.len; rw [List.length_zip]; omega
 have hzl:(s.Keys.zip (s.States.zip s.Parts)).length=s.Keys.length:=by rw [List.length_zip,List.length_zip]; omega
 obtain ⟨l,el,hll,hlg⟩:=c8f hs
 have h1:=J4 (step:=a3W T l) l (fun _=>true) (fun i=>(i:Int)) () false (fun i g hg=>by
  have hi:=(List.getElem?_eq_some_iff.1 hg).1
  obtain ⟨g1,g2,g3,g4⟩:=hlg g (List.mem_of_getElem? hg)
  unfold a3W
  simp only [v7]
  rw [k9 hi,y4 hg]
  simp only [cond_true,Option.bind_some]
  rw [c1Q g g3 g4,g2,j5 i (by omega)]
  rfl) (by
  unfold a3W
  simp)
 have h1':z7 (a3W T l) (l.length+1) 0=some (.inl ()):=by
  have ht:(l.all fun _=>true)=true:=by simp
  rw [ht] at h1
  exact h1
 have h2:=J4 (step:=a3S v T s n) (s.Keys.zip (s.States.zip s.Parts)) (fun q=>a7G T v q.1 q.2.1 q.2.2) (fun i=>(i:Int)) () false (fun i x hx=>by
  obtain ⟨eK,e2⟩:=a4z hx
  obtain ⟨eS,eP⟩:=a4z e2
  have hi:=(List.getElem?_eq_some_iff.1 eK).1
  unfold a3S
  simp only [v7]
  rw [k9 hi,y4 eK]
  simp only [cond_true,Option.bind_some]
  rw [y4 eS]
  simp only [Option.bind_some]
  rw [y4 eP]
  simp only [Option.bind_some]
  rw [c6d hT hr hv (hs.sts _ (List.mem_of_getElem? eS)) (hs.parts _ (List.mem_of_getElem? eP)) x.1 n hn,j5 i (by omega)]
  simp only [Option.bind_some]
  cases a7G T v x.1 x.2.1 x.2.2<;>rfl) (by
  unfold a3S
  rw [hzl]
  simp)
 rw [hzl] at h2
 have h3:=J4 (step:=a3Y v T s n) (kv v) (fun q=>V5 s.Keys q.1||gM T q.2 (a5x s q.1.Kind)) (fun i=>(i:Int)) () false (fun i x hx=>by
  obtain ⟨eK,eU⟩:=a4z hx
  have hi:=(List.getElem?_eq_some_iff.1 eK).1
  unfold a3Y
  simp only [v7]
  rw [k9 hi,y4 eK]
  simp only [cond_true,Option.bind_some]
  rw [c0x s.Keys x.1 (by omega),j5 i (by omega)]
  simp only [Option.bind_some]
  cases hh:V5 s.Keys x.1 with
  | true=>rfl
  | false =>
    simp only [Bool.not_false,cond_true,Bool.false_or]
    rw [y4 eU]
    simp only [Option.bind_some]
    rcases b7s (hv.keys _ (List.mem_of_getElem? eK)) with h0 | h0
    ·have hrg:a5x s x.1.Kind=s.Rest.1:=by unfold a5x; rw [if_pos h0]
     rw [hrg,h0]
     have b0:((0:Int)==0)=true:=rfl
     simp only [b0,cond_true]
     rw [c00 hT hr (hv.ok _ (List.mem_of_getElem? eU)) hs.rest.1 n hn]
     cases gM T x.2 s.Rest.1<;>rfl
    ·have hrg:a5x s x.1.Kind=s.Rest.2:=by unfold a5x; rw [if_neg (by omega)]
     rw [hrg,h0]
     have b0:((1:Int)==0)=false:=rfl
     have b1:((1:Int)==1)=true:=rfl
     simp only [b0,b1,cond_true,cond_false]
     rw [c00 hT hr (hv.ok _ (List.mem_of_getElem? eU)) hs.rest.2 n hn]
     cases gM T x.2 s.Rest.2<;>rfl) (by
  unfold a3Y
  rw [hkl]
  simp)
 rw [hkl] at h3
 have h4:=J4 (step:=a32 v T s n) s.Some (fun w=>(kv v).any fun q=>!V5 s.Keys q.1&&(q.1.Kind==w.Kind&&gM T q.2 w.Goal)) (fun i=>(i:Int)) () false (fun i w hw=>by
  have hi:=(List.getElem?_eq_some_iff.1 hw).1
  unfold a32
  simp only [v7]
  rw [k9 hi,y4 hw]
  simp only [cond_true,Option.bind_some]
  rw [c6r hT hr hv s.Keys hf.1 (hs.some _ (List.mem_of_getElem? hw)) n hn,j5 i (by omega)]
  simp only [Option.bind_some]
  cases (kv v).any fun q=>!V5 s.Keys q.1&&(q.1.Kind==w.Kind&&gM T q.2 w.Goal)<;>rfl) (by
  unfold a32
  simp)
 have h2':z7 (a3S v T s n) (s.Keys.length+1) 0=_:=h2
 have h3':z7 (a3Y v T s n) (v.Keys.length+1) 0=_:=h3
 have h4':z7 (a32 v T s n) (s.Some.length+1) 0=_:=h4
 have hal:a7r s=some true:=by
  unfold a7r
  rw [hst,hpa]
  simp
 unfold a2i a8L
 have e0:(v.Kind != 8)=false:=by simp [hK]
 rw [b3U n v (by omega) (by omega),ho,e0,wf0 hT hr n (by omega),hal,el,w4,w4,w4,h2',h3',h4']
 simp only [if_true,Option.bind_some,bne_self_eq_false,cond_false,Bool.not_true,w4]
 rw [h1']
 simp only [Option.bind_some,j9]
 cases ((s.Keys.zip (s.States.zip s.Parts)).all fun q=>a7G T v q.1 q.2.1 q.2.2) with
 | false=>rfl
 | true =>
   cases ((kv v).all fun q=>V5 s.Keys q.1||gM T q.2 (a5x s q.1.Kind)) with
   | false=>rfl
   | true =>
     cases (s.Some.all fun w=>(kv v).any fun q=>!V5 s.Keys q.1&&(q.1.Kind==w.Kind&&gM T q.2 w.Goal))<;>rfl
end
end Go.Pl
end
section
namespace Go.Pl
open Go Go.RowKit Go.Sx Go.Qx
section
variable {T:Api_Type}{keys:List Key}
theorem c2M {p q:List Int}(hp:p.all (inR T.Nodes.length)=true)(hq:q.all (inR T.Nodes.length)=true)(h1:p.length<=1000000)(h2:q.length<=1000000):gG T (Api_Goal.mk (srt p) (srt q) false):=by
 have s1:=c1u p
 have s2:=c1u q
 refine ⟨rfl,?_,by show (srt p).length<=_; omega,by show (srt q).length<=_; omega⟩
 show gIn T.Nodes.length (g0 (srt p) (srt q))=true
 rw [d0A]
 unfold gIn
 rw [Bool.and_eq_true]
 exact ⟨hp,hq⟩
theorem c60 (hT:GT T){P N:List Int}(hp:P.all (mpB T)=true)(hn:N.all (mpB T)=true)(hpl:P.length<=6)(hnl:N.length<=6)(i:Int){k:Key}(hk:Y9 k=true)(ch:List Record_place) :
 ((stZ T P N i k ch).1=0\/(stZ T P N i k ch).1=1\/(stZ T P N i k ch).1=2)/\gG T (stZ T P N i k ch).2.1:=by
 unfold stZ
 simp only [b3c,b2Z,Bool.false_or,List.nil_append]
 have hat:∀ n,mpB T n=true->inR T.Nodes.length (atM (ndR T n) k)=true:=fun n h=>by
  obtain ⟨_,hx,hK⟩:=a6u h
  exact (c2C hT hx hK hk).2
 have h1:(P.map fun n=>atM (ndR T n) k).all (inR T.Nodes.length)=true:=List.all_eq_true.2 fun a ha=>by
  obtain ⟨n,hn',rfl⟩:=List.mem_map.1 ha
  exact hat n (List.all_eq_true.1 hp n hn')
 have h2:(((ch.zip N).filter (isV i)).map fun p=>atM (ndR T p.2) k).all (inR T.Nodes.length)=true:=List.all_eq_true.2 fun a ha=>by
  obtain ⟨p,hp',rfl⟩:=List.mem_map.1 ha
  exact hat p.2 (List.all_eq_true.1 hn _ (List.of_mem_zip (List.mem_filter.1 hp').1).2)
 have hl:((ch.zip N).filter (isV i)).length<=6:=Nat.le_trans (List.length_filter_le _ _) (by rw [List.length_zip]; omega)
 cases (ch.zip N).any (isA i) with
 | true =>
   simp only [if_true]
   exact ⟨.inl trivial,rfl,rfl,by simp,by simp⟩
 | false =>
   simp only [Bool.false_eq_true,if_false]
   refine ⟨?_,c2M h1 h2 (by rw [List.length_map]; omega) (by rw [List.length_map]; omega)⟩
   split
   ·exact .inr (.inl rfl)
   ·split
    ·exact .inr (.inl rfl)
    ·exact .inr (.inr rfl)
theorem d1r (hT:GT T){P N:List Int}(hp:P.all (mpB T)=true)(hn:N.all (mpB T)=true)(hpl:P.length<=6)(hnl:N.length<=6)(hk:keys.all Y9=true)(hkl:keys.length<=36){ch:List Record_place}{s:Api_Shape}(h:shZ T P N keys ch=some s):SOk T s:=by
 unfold shZ at h
 simp only at h
 split at h
 ·cases h
  have hzl:(zsZ T P N keys ch).length=keys.length:=by unfold zsZ; rw [List.length_map,List.length_zipIdx]
  have hz:∀ z∈zsZ T P N keys ch,(z.1=0\/z.1=1\/z.1=2)/\gG T z.2.1:=fun z hz=>by
   unfold zsZ at hz
   obtain ⟨p,hp',rfl⟩:=List.mem_map.1 hz
   rw [List.mem_zipIdx_iff_getElem?] at hp'
   exact c60 hT hp hn hpl hnl _ (List.all_eq_true.1 hk _ (List.mem_of_getElem? hp')) ch
  have hrk:∀ n kd,mpB T n=true->inR T.Nodes.length (a2T (ndR T n) kd)=true:=fun n kd h=>by
   obtain ⟨_,hx,hK⟩:=a6u h
   obtain ⟨_,h1,h2⟩:=a6U hT hx hK
   unfold a2T
   split<;>assumption
  have hr:∀ kd,gG T (Api_Goal.mk (rsZ T P kd) (srt []) false):=fun kd=>c2M (List.all_eq_true.2 fun a ha=>by
   obtain ⟨n,hn',rfl⟩:=List.mem_map.1 ha
   exact hrk n kd (List.all_eq_true.1 hp n hn')) rfl (by rw [List.length_map]; omega) (by simp)
  refine ⟨by show (List.map _ _).length=_; rw [List.length_map,hzl],by show (List.map _ _).length=_; rw [List.length_map,hzl],⟨by show keys.length<=_; omega,?_⟩,fun x hx=>?_,fun g hg=>?_,⟨hr 0,hr 1⟩,fun w hw=>?_⟩
  ·show (soZ T (ch.zip N)).length<=_
   unfold soZ
   rw [List.length_map]
   exact Nat.le_trans (List.length_filter_le _ _) (by rw [List.length_zip]; omega)
  ·obtain ⟨z,hz',rfl⟩:=List.mem_map.1 hx
   exact (hz z hz').1
  ·obtain ⟨z,hz',rfl⟩:=List.mem_map.1 hg
   exact (hz z hz').2
  ·have hw:w∈soZ T (ch.zip N):=hw
   unfold soZ at hw
   obtain ⟨p,hp',rfl⟩:=List.mem_map.1 hw
   have hm:=List.all_eq_true.1 hn _ (List.of_mem_zip (List.mem_filter.1 hp').1).2
   refine ⟨rfl,?_,by simp,by simp⟩
   unfold gIn
   simp [hrk p.2 p.1.kind hm]
 ·cases h
end
end Go.Pl
end
section
namespace Go.Pl
open Go Go.RowKit Go.Sx Go.Qx
theorem d0U {v:Val}(ho:vOK v=true)(hk:a1o v.Kids=true)(hK:v.Kind=8)(hb:k8 v<=1000000):MOk v:=by
 have hm:=b7a ho hK
 unfold a75 at hm
 simp only [Bool.and_eq_true] at hm
 have hlen:v.Keys.length=v.Kids.length:=by simpa using hm.1
 have hbe:=a02 v
 have hkl:=a15 v.Kids
 exact ⟨hlen,by omega,fun k hk=>List.all_eq_true.1 hm.2.2 k hk,hm.2.1,fun u hu=>⟨c5G hk hu,by have:=a0N hu; omega⟩⟩
theorem c3n {T:Api_Type}(hT:GT T){v:Val}(ho:vOK v=true)(hb:k8 v<=2097152){k:Int}(hk:mpB T k=true):w9 T v k=(v.Kind==8&&a3c (w9 T) v (ndR T k)):=by
 have hk2:=hk
 unfold mpB at hk2
 simp only [Bool.and_eq_true] at hk2
 obtain ⟨j,rfl,hj⟩:=a0v hk2.1
 have e:=List.getElem?_eq_getElem hj
 have hnd:ndR T (j:Int)=T.Nodes[j]:=by unfold ndR; rw [Int.toNat_natCast,e]
 have hK:=(a6u hk).2.2
 rw [hnd] at hK ⊢
 have h:=c5b hT (k:=j) (x:=T.Nodes[j]) e ho (by omega)
 have h':w9 T v (j:Int)=_:=h
 rw [h']
 unfold unM
 simp [hK]
end Go.Pl
end

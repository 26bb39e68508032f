/- Part 3. -/
import Derived.Test.YtbbgmfkdindhpaaGreatDoorK2
import Derived.BigCall
import Derived.KernelRfl
import Derived.Shelf.Lays
import Derived.Shelf.SlLaysF0
import Derived.Shelf.Strings.Builder1
import Derived.Test.YtbbgmfkdindhpaaGreatDoorProg
import Derived.WalkKit
section
namespace Go.Qx
open Go Go.RowKit Go.Sx
set_option maxRecDepth 100000
structure Api_Field where
 Key_:Key
 Node:Int
 Optional:Bool
structure Api_TypeNode where
 Kind:Int
 Lo:Int
 Hi:Int
 Text:ByteArray
 Kids:List Int
 Fields:List Api_Field
 Rest:Int×Int
structure Api_Type where
 Nodes:List Api_TypeNode
 Root:Int
structure Api_Goal where
 Pos:List Int
 Neg:List Int
 Lists:Bool
structure Api_Form where
 Args:List Int
 Fails:Bool
 Result:Int
structure Api_Alternative where
 Leaf:Val
 Keys:List Key
 Forms:List Api_Form
 Subgoals:List Api_Goal
structure Api_EntryForm where
 Args:List Api_Goal
 Fails:Bool
 Result:Api_Goal
structure Solve_Way where
 Alternative:Api_Alternative
 Entries:List (List Api_EntryForm)
structure Api_Names where
 Cofinite:Bool
 List_:List ByteArray
structure Api_Range where
 Lo:Int
 Hi:Int
structure Api_Line where
 Kind:Int
 Arity:Int
 Ints:List Api_Range
 Names:Api_Names
 Pos:List Int
 Neg:List Int
 Vars:List ByteArray
 NotVars:List ByteArray
structure Core_Sort where
 Kind:Int
 Arity:Int
structure Core_pair where
 pos:List Int
 neg:List Int
 finalPos:List Int
 finalNeg:List Int
structure Api_Box where
 Parts:List Api_Goal
structure Value_used where
 number:Bool
 text_:Bool
 kids:Bool
 keys:Bool
 entries:Bool
structure Literals_normal where
 Names:Api_Names
def b3x (x y:Int×Int):Bool:=((x.1==y.1)&&((x.2==y.2)&&true))
def a9Q (x y:Key):Bool:=((x.Kind==y.Kind)&&((K8 x.Text y.Text)&&true))
def a9t (n_0:Int)(x1:Int×((List Api_TypeNode)×Int)):Option (Fl (Int×((List Api_TypeNode)×Int)) ((List Api_TypeNode)×Int)) :=
 bif decide (x1.1<n_0)
 then (Option.bind (Y4 (x1.2.1.length+([Api_TypeNode.mk 10 0 0 (⟨#[]⟩:ByteArray) ([wr .i64 (x1.1+1)]:List Int) ([]:List Api_Field) (0,0)]:List Api_TypeNode).length) 104) fun _ =>
 some (.next (wr .i64 (x1.1+1),(x1.2.1++([Api_TypeNode.mk 10 0 0 (⟨#[]⟩:ByteArray) ([wr .i64 (x1.1+1)]:List Int) ([]:List Api_Field) (0,0)]:List Api_TypeNode),x1.2.2))))
 else (some (.done (x1.2.1,x1.2.2)))
def a2q (n_0:Int):Option Api_Type :=
 Option.bind (y2 (a9t n_0) (n_0.toNat+1) (0,([],0))) fun b3 =>
 Option.bind (Y4 (b3.1.length+([Api_TypeNode.mk 9 0 0 (⟨#[]⟩:ByteArray) ([]:List Int) ([]:List Api_Field) (0,0)]:List Api_TypeNode).length) 104) fun _ =>
 some (Api_Type.mk (b3.1++([Api_TypeNode.mk 9 0 0 (⟨#[]⟩:ByteArray) ([]:List Int) ([]:List Api_Field) (0,0)]:List Api_TypeNode)) b3.2)
def a5D (d:Api_TypeNode):Option Bool :=
 Option.bind (bif d.Kind==3
 then (some (true,false,false,false))
 else (Option.bind (bif d.Kind==4
 then (some (d.Kind==4))
 else (bif d.Kind==6
 then (some (d.Kind==6))
 else (some (d.Kind==19)))) fun b1 =>
 bif b1
 then (some (false,true,false,false))
 else (Option.bind (bif d.Kind==10
 then (some (d.Kind==10))
 else (bif d.Kind==12
 then (some (d.Kind==12))
 else (bif d.Kind==14
 then (some (d.Kind==14))
 else (bif d.Kind==16
 then (some (d.Kind==16))
 else (bif d.Kind==17
 then (some (d.Kind==17))
 else (some (d.Kind==18))))))) fun b2 =>
 bif b2
 then (some (false,false,true,false))
 else (bif d.Kind==13
 then (some (false,false,false,true))
 else (some (false,false,false,false)))))) fun b3 =>
 Option.bind (bif b3.1
 then (some true)
 else (Option.bind (bif d.Lo==0
 then (some (d.Hi==0))
 else (some false)) fun q4 =>
 some q4)) fun q5 =>
 Option.bind (bif q5
 then (Option.bind (bif b3.2.1
 then (some true)
 else (some (K8 d.Text (⟨#[]⟩:ByteArray)))) fun q6 =>
 some q6)
 else (some false)) fun q7 =>
 Option.bind (bif q7
 then (Option.bind (bif b3.2.2.1
 then (some true)
 else (some ((d.Kids.length:Int)==0))) fun q8 =>
 some q8)
 else (some false)) fun q9 =>
 Option.bind (bif q9
 then (Option.bind (bif b3.2.2.2
 then (some true)
 else (Option.bind (bif (d.Fields.length:Int)==0
 then (some (b3x d.Rest (0,0)))
 else (some false)) fun q10 =>
 some q10)) fun q11 =>
 some q11)
 else (some false)) fun q12 =>
 some q12
def b6e (s:ByteArray)(other:Int->Option Bool)(x5:Int):Option (Fl Int (Sum Unit Bool)) :=
 bif decide (x5<(s.size:Int))
 then (Option.bind (a4w s x5) fun e6 =>
 Option.bind (other (e6.toNat:Int)) fun r7 =>
 bif !r7
 then (some (.done (.inr false)))
 else (some (.next (wr .i64 (x5+1)))))
 else (some (.done (.inl ())))
def a7h (s:ByteArray)(first:Int->Option Bool)(other:Int->Option Bool):Option Bool :=
 Option.bind (bif decide ((s.size:Int)<1)
 then (some true)
 else (some (decide (16<(s.size:Int))))) fun q1 =>
 Option.bind (bif q1
 then (some true)
 else (Option.bind (a4w s 0) fun e2 =>
 Option.bind (first (e2.toNat:Int)) fun r3 =>
 some (!r3))) fun q4 =>
 bif q4
 then (some false)
 else (Option.bind (y2 (b6e s other) ((s.size:Int).toNat+1) 1) fun b8 =>
 k9 (fun _ =>
 some true) (fun y10 =>
 some y10) b8)
def a3n (c:Int):Option Bool :=
 Option.bind (bif decide (97<=c)
 then (some (decide (c<=122)))
 else (some false)) fun q1 =>
 some q1
def a5R (c:Int):Option Bool :=
 Option.bind (bif decide (48<=c)
 then (some (decide (c<=57)))
 else (some false)) fun q1 =>
 some q1
def a95 (c:Int):Option Bool :=
 Option.bind (a3n c) fun r1 =>
 Option.bind (bif r1
 then (some true)
 else (Option.bind (a5R c) fun r2 =>
 some r2)) fun q3 =>
 Option.bind (bif q3
 then (some true)
 else (some (c==95))) fun q4 =>
 some q4
def a4u (s:ByteArray):Option Bool :=
 Option.bind (a7h s (fun z1 =>
 Option.bind (a3n z1) fun r2 =>
 some r2) (fun z3 =>
 Option.bind (a95 z3) fun r4 =>
 some r4)) fun r5 =>
 some r5
def a54 (c:Int):Option Bool :=
 Option.bind (bif decide (65<=c)
 then (some (decide (c<=90)))
 else (some false)) fun q1 =>
 some q1
def a5v (c:Int):Option Bool :=
 Option.bind (a3n c) fun r1 =>
 Option.bind (bif r1
 then (some true)
 else (Option.bind (a54 c) fun r2 =>
 some r2)) fun q3 =>
 Option.bind (bif q3
 then (some true)
 else (Option.bind (a5R c) fun r4 =>
 some r4)) fun q5 =>
 Option.bind (bif q5
 then (some true)
 else (some (c==95))) fun q6 =>
 some q6
def a3x (s:ByteArray):Option Bool :=
 Option.bind (a7h s (fun z1 =>
 Option.bind (a54 z1) fun r2 =>
 some r2) (fun z3 =>
 Option.bind (a5v z3) fun r4 =>
 some r4)) fun r5 =>
 some r5
def a43 (k:Key):Option Bool :=
 bif k.Kind==0
 then (Option.bind (a4u k.Text) fun r1 =>
 some r1)
 else (bif k.Kind==1
 then (some (decide ((k.Text.size:Int)<=64)))
 else (some false))
def a5O (x:Int):Option Bool :=
 some (x != x)
def X8 (x:Int)(y:Int):Option Int :=
 Option.bind (a5O x) fun r1 =>
 Option.bind (a5O y) fun r2 =>
 bif r1
 then (bif r2
 then (some 0)
 else (some (-1)))
 else (bif r2
 then (some 1)
 else (bif decide (x<y)
 then (some (-1))
 else (bif decide (y<x)
 then (some 1)
 else (some 0))))
def a1d (a:ByteArray)(b:ByteArray):Option Int :=
 Option.bind (c07 a b) fun r1 =>
 some r1
def a1a (a:ByteArray)(b:ByteArray):Option Int :=
 Option.bind (a1d a b) fun r1 =>
 some r1
def a1u (a:Key)(b:Key):Option Int :=
 Option.bind (X8 a.Kind b.Kind) fun r1 =>
 bif r1 != 0
 then (some r1)
 else (Option.bind (a1a a.Text b.Text) fun r2 =>
 some r2)
def a72 (l:List Api_Field)(x1:Int):Option (Fl Int (Sum Unit Bool)) :=
 bif decide (x1<(l.length:Int))
 then (Option.bind (idx l x1) fun e2 =>
 Option.bind (a43 e2.Key_) fun r3 =>
 Option.bind (bif !r3
 then (some true)
 else (Option.bind (bif decide (0<x1)
 then (Option.bind (idx l (wr .i64 (x1-1))) fun e4 =>
 Option.bind (a1u e4.Key_ e2.Key_) fun r5 =>
 some (decide (0<=r5)))
 else (some false)) fun q6 =>
 some q6)) fun q7 =>
 bif q7
 then (some (.done (.inr false)))
 else (some (.next (wr .i64 (x1+1)))))
 else (some (.done (.inl ())))
def a30 (l:List Api_Field):Option Bool :=
 Option.bind (y2 (a72 l) ((l.length:Int).toNat+1) 0) fun b8 =>
 k9 (fun _ =>
 some true) (fun y10 =>
 some y10) b8
def a5u (d:Api_TypeNode):Option Bool :=
 Option.bind (bif d.Kind==1
 then (some (d.Kind==1))
 else (bif d.Kind==2
 then (some (d.Kind==2))
 else (bif d.Kind==5
 then (some (d.Kind==5))
 else (bif d.Kind==7
 then (some (d.Kind==7))
 else (bif d.Kind==8
 then (some (d.Kind==8))
 else (bif d.Kind==9
 then (some (d.Kind==9))
 else (bif d.Kind==11
 then (some (d.Kind==11))
 else (some (d.Kind==15))))))))) fun b1 =>
 bif b1
 then (some true)
 else (bif d.Kind==3
 then (some (decide (d.Lo<=d.Hi)))
 else (bif d.Kind==4
 then (some (decide ((d.Text.size:Int)<=64)))
 else (bif d.Kind==6
 then (Option.bind (a4u d.Text) fun r2 =>
 some r2)
 else (bif d.Kind==19
 then (Option.bind (a3x d.Text) fun r3 =>
 some r3)
 else (bif d.Kind==10
 then (some (decide ((d.Kids.length:Int)<=4)))
 else (bif d.Kind==12
 then (some ((d.Kids.length:Int)==2))
 else (bif d.Kind==13
 then (Option.bind (a30 d.Fields) fun r4 =>
 some r4)
 else (bif d.Kind==14
 then (Option.bind (bif decide (1<=(d.Kids.length:Int))
 then (some (decide ((d.Kids.length:Int)<=5)))
 else (some false)) fun q5 =>
 some q5)
 else (Option.bind (bif d.Kind==16
 then (some (d.Kind==16))
 else (some (d.Kind==17))) fun b6 =>
 bif b6
 then (some (decide (1<=(d.Kids.length:Int))))
 else (bif d.Kind==18
 then (some ((d.Kids.length:Int)==1))
 else (some false)))))))))))
def b4G (n_0:Api_TypeNode)(x2:(List Int)×Int):Option (Fl ((List Int)×Int) (List Int)) :=
 bif decide (x2.2<(n_0.Fields.length:Int))
 then (Option.bind (idx n_0.Fields x2.2) fun e3 =>
 Option.bind (Y4 (x2.1.length+([e3.Node]:List Int).length) 8) fun _ =>
 some (.next (x2.1++([e3.Node]:List Int),wr .i64 (x2.2+1))))
 else (some (.done x2.1))
def b0D (n_0:Api_TypeNode):Option (List Int) :=
 Option.bind (Q5 8 n_0.Kids) fun r1 =>
 Option.bind (y2 (b4G n_0) ((n_0.Fields.length:Int).toNat+1) (r1,0)) fun b5 =>
 bif n_0.Kind==13
 then (Option.bind (Y4 (b5.length+([n_0.Rest.1,n_0.Rest.2]:List Int).length) 8) fun _ =>
 some (b5++([n_0.Rest.1,n_0.Rest.2]:List Int)))
 else (some b5)
def a5M (kind:Int):Option Bool :=
 Option.bind (bif kind==16
 then (some true)
 else (some (kind==17))) fun q1 =>
 Option.bind (bif q1
 then (some true)
 else (some (kind==18))) fun q2 =>
 some q2
def a6v (a2_2:Api_Type)(e10:Api_TypeNode)(rec_typeexpr_contractive_1:Int->(List Int)->Api_Type->Unit->Option (Bool×(List Int)))(x11:Int×(List Int)):Option (Fl (Int×(List Int)) (Sum (List Int) (Bool×(List Int)))) :=
 bif decide (x11.1<(e10.Kids.length:Int))
 then (Option.bind (idx e10.Kids x11.1) fun e12 =>
 Option.bind (rec_typeexpr_contractive_1 e12 x11.2 a2_2 ()) fun r13 =>
 bif !r13.1
 then (some (.done (.inr (false,r13.2))))
 else (some (.next (wr .i64 (x11.1+1),r13.2))))
 else (some (.done (.inl x11.2)))
def a6P (_:Nat)(rec_typeexpr_contractive_1:Int->(List Int)->Api_Type->Unit->Option (Bool×(List Int)))(i:Int)(a1_1:List Int)(a2_2:Api_Type)(_:Unit):Option (Bool×(List Int)) :=
 Option.bind (idx a1_1 i) fun _ =>
 Option.bind (a1_1[i.toNat]?) fun e2 =>
 Option.bind (bif e2 != 0
 then (some true)
 else (Option.bind (idx a2_2.Nodes i) fun e3 =>
 Option.bind (a5M e3.Kind) fun r4 =>
 some (!r4))) fun q5 =>
 bif q5
 then (Option.bind (idx a1_1 i) fun _ =>
 Option.bind (a1_1[i.toNat]?) fun e7 =>
 some (e7 != 1,a1_1))
 else (Option.bind (idx a1_1 i) fun _ =>
 Option.bind (a1_1[i.toNat]?) fun _ =>
 Option.bind (idx a2_2.Nodes i) fun e10 =>
 Option.bind (y2 (a6v a2_2 e10 rec_typeexpr_contractive_1) ((e10.Kids.length:Int).toNat+1) (0,a1_1.set i.toNat 1)) fun (b14:Sum (List Int) (Bool×(List Int))) =>
 k9 (fun x15 =>
 Option.bind (idx x15 i) fun _ =>
 Option.bind (x15[i.toNat]?) fun _ =>
 some (true,x15.set i.toNat 2)) (fun y16 =>
 some (y16.1,y16.2)) b14)
def a1i:Nat->Int->(List Int)->Api_Type->Unit->Option (Bool×(List Int))
 | 0=>fun _ _ _ _=>none
 | n+1=>a6P n (a1i n)
def a7J (t:Api_Type)(n:Nat)(x2:Int×(List Int)):Option (Fl (Int×(List Int)) (Sum (List Int) (Bool×(List Int)))) :=
 bif decide (x2.1<(t.Nodes.length:Int))
 then (Option.bind (a1i n x2.1 x2.2 t ()) fun r3 =>
 bif !r3.1
 then (some (.done (.inr (false,r3.2))))
 else (some (.next (wr .i64 (x2.1+1),r3.2))))
 else (some (.done (.inl x2.2)))
def a3X (n:Nat)(t:Api_Type):Option Bool :=
 Option.bind (b0p (t.Nodes.length:Int) (t.Nodes.length:Int) 8) fun m1 =>
 Option.bind (y2 (a7J t n) ((t.Nodes.length:Int).toNat+1) (0,List.replicate m1 (0:Int))) fun (b4:Sum (List Int) (Bool×(List Int))) =>
 k9 (fun _ =>
 some true) (fun y6 =>
 some y6.1) b4
def a85 (t:Api_Type)(r7:List Int)(x8:Int):Option (Fl Int (Sum Unit Int)) :=
 bif decide (x8<(r7.length:Int))
 then (Option.bind (idx r7 x8) fun e9 =>
 Option.bind (bif decide (e9<0)
 then (some true)
 else (some (decide ((t.Nodes.length:Int)<=e9)))) fun q10 =>
 bif q10
 then (some (.done (.inr 1)))
 else (some (.next (wr .i64 (x8+1)))))
 else (some (.done (.inl ())))
def a8V (t:Api_Type)(x2:Int):Option (Fl Int (Sum Unit Int)) :=
 bif decide (x2<(t.Nodes.length:Int))
 then (Option.bind (idx t.Nodes x2) fun e3 =>
 Option.bind (a5D e3) fun r4 =>
 Option.bind (bif !r4
 then (some true)
 else (Option.bind (a5u e3) fun r5 =>
 some (!r5))) fun q6 =>
 bif q6
 then (some (.done (.inr 1)))
 else (Option.bind (b0D e3) fun r7 =>
 Option.bind (y2 (a85 t r7) ((r7.length:Int).toNat+1) 0) fun b11 =>
 k9 (fun _ =>
 some (.next (wr .i64 (x2+1)))) (fun y13 =>
 some (.done (.inr y13))) b11))
 else (some (.done (.inl ())))
def a04 (n:Nat)(t:Api_Type):Option Int :=
 Option.bind (bif decide (t.Root<0)
 then (some true)
 else (some (decide ((t.Nodes.length:Int)<=t.Root)))) fun q1 =>
 bif q1
 then (some 1)
 else (Option.bind (y2 (a8V t) ((t.Nodes.length:Int).toNat+1) 0) fun b14 =>
 k9 (fun _ =>
 Option.bind (a3X n t) fun r17 =>
 bif !r17
 then (some 3)
 else (some 0)) (fun y16 =>
 some y16) b14)
def b7E (t:Api_Type)(g:Api_Goal)(r1:List Int)(x3:Int):Option (Fl Int (Sum Unit Bool)) :=
 bif decide (x3<((r1++g.Neg).length:Int))
 then (Option.bind (idx (r1++g.Neg) x3) fun e4 =>
 Option.bind (bif decide (e4<0)
 then (some true)
 else (some (decide ((t.Nodes.length:Int)<=e4)))) fun q5 =>
 bif q5
 then (some (.done (.inr false)))
 else (some (.next (wr .i64 (x3+1)))))
 else (some (.done (.inl ())))
def a80 (t:Api_Type)(g:Api_Goal):Option Bool :=
 Option.bind (Q5 8 g.Pos) fun r1 =>
 Option.bind (Y4 (r1.length+g.Neg.length) 8) fun _ =>
 Option.bind (y2 (b7E t g r1) (((r1++g.Neg).length:Int).toNat+1) 0) fun b6 =>
 k9 (fun _ =>
 some true) (fun y8 =>
 some y8) b6
def a6A (x1:(List Int)×Int)(x16:(Int×Int)×List Int):Option (Fl ((Int×Int)×List Int) (Int×List Int)) :=
 bif decide (x16.1.2<((x16.2.drop x1.2.toNat).length:Int))
 then (Option.bind (idx (x16.2.drop x1.2.toNat) x16.1.2) fun _ =>
 Option.bind (x16.2[(x1.2.toNat+x16.1.2.toNat)]?) fun e18 =>
 Option.bind (idx (x16.2.drop x1.2.toNat) (wr .i64 (x16.1.2-1))) fun _ =>
 Option.bind (x16.2[(x1.2.toNat+(wr .i64 (x16.1.2-1)).toNat)]?) fun e20 =>
 bif e18 != e20
 then (Option.bind (idx (x16.2.drop x1.2.toNat) x16.1.2) fun _ =>
 Option.bind (x16.2[(x1.2.toNat+x16.1.2.toNat)]?) fun e22 =>
 Option.bind (idx x16.2 x16.1.1) fun _ =>
 Option.bind (x16.2[x16.1.1.toNat]?) fun _ =>
 some (.next ((wr .i64 (x16.1.1+1),wr .i64 (x16.1.2+1)),x16.2.set x16.1.1.toNat e22)))
 else (some (.next ((x16.1.1,wr .i64 (x16.1.2+1)),x16.2))))
 else (some (.done (x16.1.1,x16.2)))
def a6l (x1:(List Int)×Int):Option (Fl ((List Int)×Int) (Sum (List Int) (List Int))) :=
 bif decide (x1.2<(x1.1.length:Int))
 then (Option.bind (idx x1.1 x1.2) fun _ =>
 Option.bind (x1.1[x1.2.toNat]?) fun e3 =>
 Option.bind (idx x1.1 (wr .i64 (x1.2-1))) fun _ =>
 Option.bind (x1.1[(wr .i64 (x1.2-1)).toNat]?) fun e5 =>
 bif e3==e5
 then (Option.bind (idx x1.1 x1.2) fun _ =>
 Option.bind (y2 (a6A x1) (((x1.1.drop x1.2.toNat).length:Int).toNat+1) ((x1.2,1),x1.1)) fun b25 =>
 Option.bind (idx b25.2 b25.1) fun _ =>
 bif Nat.blt b25.1.toNat b25.2.length
 then (Option.bind (cut (b25.2.take b25.1.toNat++List.replicate (b25.2.length-b25.1.toNat) (0:Int)) 0 b25.1) fun y27 =>
 some (.done (.inr y27)))
 else (none))
 else (some (.next (x1.1,wr .i64 (x1.2+1)))))
 else (some (.done (.inl x1.1)))
def a3e (s:List Int):Option (List Int) :=
 bif decide ((s.length:Int)<2)
 then (some s)
 else (Option.bind (y2 a6l ((s.length:Int).toNat+1) (s,1)) fun b28 =>
 k9 (fun x29 =>
 some x29) (fun y30 =>
 some y30) b28)
def a4J (s:List Int):Option (List Int) :=
 bif (s.length:Int)==(s.length:Int)&&(s.length:Int)==(s.length:Int)
 then (some s)
 else (none)
def a3k (l:List Int):Option (List Int) :=
 Option.bind (Q5 8 l) fun r1 =>
 Option.bind (c0y r1) fun r2 =>
 Option.bind (a3e r2.2) fun r3 =>
 Option.bind (a4J r3) fun r4 =>
 some r4
def a5i (g:Api_Goal):Option Api_Goal :=
 Option.bind (a3k g.Pos) fun r1 =>
 Option.bind (a3k g.Neg) fun r2 =>
 some (Api_Goal.mk r1 r2 g.Lists)
def a3E (g:Api_Goal):Option ByteArray:=Option.bind (a5i g) fun g=>Option.bind (a6W 43 g.Pos (bif g.Lists then [108] else [])) fun b=>Option.bind (a6W 45 g.Neg b) fun b=>some ⟨b.toArray⟩
def a3V (p:Core_pair):Option ((List Int)×(List Int)×(List Int)×(List Int)) :=
 Option.bind (Q5 8 p.pos) fun r1 =>
 Option.bind (Q5 8 p.neg) fun r2 =>
 Option.bind (Q5 8 p.finalPos) fun r3 =>
 Option.bind (Q5 8 p.finalNeg) fun r4 =>
 some (r1,r2,r3,r4)
def b1N (p:Core_pair)(kids:List Int)(positive:Bool)(x1:(List Core_pair)×Int):Option (Fl ((List Core_pair)×Int) (List Core_pair)) :=
 bif decide (x1.2<(kids.length:Int))
 then (Option.bind (idx kids x1.2) fun e2 =>
 Option.bind (a3V p) fun r3 =>
 Option.bind (bif positive
 then (Option.bind (Y4 (r3.1.length+([e2]:List Int).length) 8) fun _ =>
 some (r3.1++([e2]:List Int),r3.2.1,r3.2.2.1,r3.2.2.2))
 else (Option.bind (Y4 (r3.2.1.length+([e2]:List Int).length) 8) fun _ =>
 some (r3.1,r3.2.1++([e2]:List Int),r3.2.2.1,r3.2.2.2))) fun b6 =>
 Option.bind (Y4 (x1.1.length+([Core_pair.mk b6.1 b6.2.1 b6.2.2.1 b6.2.2.2]:List Core_pair).length) 96) fun _ =>
 some (.next (x1.1++([Core_pair.mk b6.1 b6.2.1 b6.2.2.1 b6.2.2.2]:List Core_pair),wr .i64 (x1.2+1))))
 else (some (.done x1.1))
def a24 (p:Core_pair)(kids:List Int)(positive:Bool):Option (List Core_pair) :=
 Option.bind (y2 (b1N p kids positive) ((kids.length:Int).toNat+1) ([],0)) fun b8 =>
 some b8
def a6f (d:(List Int)×(List Int)×(List Int)×(List Int))(t:Api_Type):Option (List Core_pair) :=
 bif decide (0<=(wr .i64 ((d.1.length:Int)-1)))
 then (Option.bind (idx d.1 (wr .i64 ((d.1.length:Int)-1))) fun _ =>
 Option.bind (d.1[(wr .i64 ((d.1.length:Int)-1)).toNat]?) fun e2 =>
 Option.bind (idx t.Nodes e2) fun e3 =>
 Option.bind (cut d.1 0 (wr .i64 ((d.1.length:Int)-1))) fun y4 =>
 Option.bind (bif e3.Kind==2
 then (some (.inl (y4,d.2.1,d.2.2.1,d.2.2.2)))
 else (bif e3.Kind==1
 then (some (.inr ([],(y4,d.2.1,d.2.2.1,d.2.2.2))))
 else (bif e3.Kind==17
 then (Option.bind (Y4 (y4.length+e3.Kids.length) 8) fun _ =>
 some (.inl (y4++e3.Kids,d.2.1,d.2.2.1,d.2.2.2)))
 else (bif e3.Kind==18
 then (Option.bind (idx e3.Kids 0) fun e6 =>
 Option.bind (Y4 (d.2.1.length+([e6]:List Int).length) 8) fun _ =>
 some (.inl (y4,d.2.1++([e6]:List Int),d.2.2.1,d.2.2.2)))
 else (bif e3.Kind==16
 then (Option.bind (a24 (Core_pair.mk y4 d.2.1 d.2.2.1 d.2.2.2) e3.Kids true) fun r8 =>
 some (.inr (r8,(y4,d.2.1,d.2.2.1,d.2.2.2))))
 else (Option.bind (Y4 (d.2.2.1.length+([e2]:List Int).length) 8) fun _ =>
 some (.inl (y4,d.2.1,d.2.2.1++([e2]:List Int),d.2.2.2)))))))) fun b10 =>
 k9 (fun x11 =>
 some ([Core_pair.mk x11.1 x11.2.1 x11.2.2.1 x11.2.2.2]:List Core_pair)) (fun y12 =>
 some y12.1) b10)
 else (Option.bind (idx d.2.1 (wr .i64 ((d.2.1.length:Int)-1))) fun _ =>
 Option.bind (d.2.1[(wr .i64 ((d.2.1.length:Int)-1)).toNat]?) fun e14 =>
 Option.bind (idx t.Nodes e14) fun e15 =>
 Option.bind (cut d.2.1 0 (wr .i64 ((d.2.1.length:Int)-1))) fun y16 =>
 Option.bind (bif e15.Kind==1
 then (some (.inl (d.1,y16,d.2.2.1,d.2.2.2)))
 else (bif e15.Kind==2
 then (some (.inr ([],(d.1,y16,d.2.2.1,d.2.2.2))))
 else (bif e15.Kind==16
 then (Option.bind (Y4 (y16.length+e15.Kids.length) 8) fun _ =>
 some (.inl (d.1,y16++e15.Kids,d.2.2.1,d.2.2.2)))
 else (bif e15.Kind==18
 then (Option.bind (idx e15.Kids 0) fun e18 =>
 Option.bind (Y4 (d.1.length+([e18]:List Int).length) 8) fun _ =>
 some (.inl (d.1++([e18]:List Int),y16,d.2.2.1,d.2.2.2)))
 else (bif e15.Kind==17
 then (Option.bind (a24 (Core_pair.mk d.1 y16 d.2.2.1 d.2.2.2) e15.Kids false) fun r20 =>
 some (.inr (r20,(d.1,y16,d.2.2.1,d.2.2.2))))
 else (Option.bind (Y4 (d.2.2.2.length+([e14]:List Int).length) 8) fun _ =>
 some (.inl (d.1,y16,d.2.2.1,d.2.2.2++([e14]:List Int))))))))) fun b22 =>
 k9 (fun x23 =>
 some ([Core_pair.mk x23.1 x23.2.1 x23.2.2.1 x23.2.2.2]:List Core_pair)) (fun y24 =>
 some y24.1) b22)
def b3N (d:Api_Type)(t:Api_Goal)(x3:(List Core_pair)×(List (ByteArray×Bool))×(List Api_Goal)):Option (Fl ((List Core_pair)×(List (ByteArray×Bool))×(List Api_Goal)) ((List (ByteArray×Bool))×(List Api_Goal))) :=
 bif decide (0<(x3.1.length:Int))
 then (Option.bind (idx x3.1 (wr .i64 ((x3.1.length:Int)-1))) fun _ =>
 Option.bind (x3.1[(wr .i64 ((x3.1.length:Int)-1)).toNat]?) fun e5 =>
 Option.bind (a3V e5) fun r6 =>
 Option.bind (cut x3.1 0 (wr .i64 ((x3.1.length:Int)-1))) fun y7 =>
 bif decide (0<(wr .i64 ((r6.1.length:Int)+(r6.2.1.length:Int))))
 then (Option.bind (a6f (r6.1,r6.2.1,r6.2.2.1,r6.2.2.2) d) fun r8 =>
 Option.bind (Y4 (y7.length+r8.length) 96) fun _ =>
 some (.next (y7++r8,x3.2.1,x3.2.2)))
 else (Option.bind (a5i (Api_Goal.mk r6.2.2.1 r6.2.2.2 t.Lists)) fun r10 =>
 Option.bind (a3E r10) fun r11 =>
 bif !((a0h x3.2.1 r11).getD false)
 then (Option.bind (Y4 (x3.2.2.length+([r10]:List Api_Goal).length) 56) fun _ =>
 some (.next (y7,a19 x3.2.1 r11 true,x3.2.2++([r10]:List Api_Goal))))
 else (some (.next (y7,x3.2.1,x3.2.2)))))
 else (some (.done (x3.2.1,x3.2.2)))
def a8a (n:Nat)(d:Api_Type)(t:Api_Goal):Option (List Api_Goal) :=
 Option.bind (a3k t.Pos) fun r1 =>
 Option.bind (a3k t.Neg) fun r2 =>
 Option.bind (y2 (b3N d t) n (([Core_pair.mk r1 r2 ([]:List Int) ([]:List Int)]:List Core_pair),([]:List (ByteArray×Bool)),[])) fun b13 =>
 some b13.2
def a3O (x1:(List ByteArray)×Int)(x16:(Int×Int)×List ByteArray):Option (Fl ((Int×Int)×List ByteArray) (Int×List ByteArray)) :=
 bif decide (x16.1.2<((x16.2.drop x1.2.toNat).length:Int))
 then (Option.bind (idx (x16.2.drop x1.2.toNat) x16.1.2) fun _ =>
 Option.bind (x16.2[(x1.2.toNat+x16.1.2.toNat)]?) fun e18 =>
 Option.bind (idx (x16.2.drop x1.2.toNat) (wr .i64 (x16.1.2-1))) fun _ =>
 Option.bind (x16.2[(x1.2.toNat+(wr .i64 (x16.1.2-1)).toNat)]?) fun e20 =>
 bif !(K8 e18 e20)
 then (Option.bind (idx (x16.2.drop x1.2.toNat) x16.1.2) fun _ =>
 Option.bind (x16.2[(x1.2.toNat+x16.1.2.toNat)]?) fun e22 =>
 Option.bind (idx x16.2 x16.1.1) fun _ =>
 Option.bind (x16.2[x16.1.1.toNat]?) fun _ =>
 some (.next ((wr .i64 (x16.1.1+1),wr .i64 (x16.1.2+1)),x16.2.set x16.1.1.toNat e22)))
 else (some (.next ((x16.1.1,wr .i64 (x16.1.2+1)),x16.2))))
 else (some (.done (x16.1.1,x16.2)))
def a3K (x1:(List ByteArray)×Int):Option (Fl ((List ByteArray)×Int) (Sum (List ByteArray) (List ByteArray))) :=
 bif decide (x1.2<(x1.1.length:Int))
 then (Option.bind (idx x1.1 x1.2) fun _ =>
 Option.bind (x1.1[x1.2.toNat]?) fun e3 =>
 Option.bind (idx x1.1 (wr .i64 (x1.2-1))) fun _ =>
 Option.bind (x1.1[(wr .i64 (x1.2-1)).toNat]?) fun e5 =>
 bif K8 e3 e5
 then (Option.bind (idx x1.1 x1.2) fun _ =>
 Option.bind (y2 (a3O x1) (((x1.1.drop x1.2.toNat).length:Int).toNat+1) ((x1.2,1),x1.1)) fun b25 =>
 Option.bind (idx b25.2 b25.1) fun _ =>
 bif Nat.blt b25.1.toNat b25.2.length
 then (Option.bind (cut (b25.2.take b25.1.toNat++List.replicate (b25.2.length-b25.1.toNat) ((⟨#[]⟩:ByteArray):ByteArray)) 0 b25.1) fun y27 =>
 some (.done (.inr y27)))
 else (none))
 else (some (.next (x1.1,wr .i64 (x1.2+1)))))
 else (some (.done (.inl x1.1)))
def V9 (s:List ByteArray):Option (List ByteArray) :=
 bif decide ((s.length:Int)<2)
 then (some s)
 else (Option.bind (y2 a3K ((s.length:Int).toNat+1) (s,1)) fun b28 =>
 k9 (fun x29 =>
 some x29) (fun y30 =>
 some y30) b28)
def X5 (s:List ByteArray):Option (List ByteArray) :=
 bif (s.length:Int)==(s.length:Int)&&(s.length:Int)==(s.length:Int)
 then (some s)
 else (none)
def b8l (t:Api_Type)(nodes:List Int)(x1:(List ByteArray)×Int):Option (Fl ((List ByteArray)×Int) (List ByteArray)) :=
 bif decide (x1.2<(nodes.length:Int))
 then (Option.bind (idx nodes x1.2) fun e2 =>
 Option.bind (idx t.Nodes e2) fun e3 =>
 bif e3.Kind==19
 then (Option.bind (idx t.Nodes e2) fun e4 =>
 Option.bind (Y4 (x1.1.length+([e4.Text]:List ByteArray).length) 16) fun _ =>
 some (.next (x1.1++([e4.Text]:List ByteArray),wr .i64 (x1.2+1))))
 else (some (.next (x1.1,wr .i64 (x1.2+1)))))
 else (some (.done x1.1))
def b1E (t:Api_Type)(nodes:List Int):Option (List ByteArray) :=
 Option.bind (y2 (b8l t nodes) ((nodes.length:Int).toNat+1) ([],0)) fun b6 =>
 Option.bind (b4k b6) fun r7 =>
 Option.bind (V9 r7.2) fun r8 =>
 Option.bind (X5 r8) fun r9 =>
 some r9
def a5E (s:List Int)(f:Int->Option Bool)(x1:Int):Option (Fl Int (Sum Unit Int)) :=
 bif decide (x1<(s.length:Int))
 then (Option.bind (idx s x1) fun e2 =>
 Option.bind (f e2) fun r3 =>
 bif r3
 then (some (.done (.inr x1)))
 else (some (.next (wr .i64 (x1+1)))))
 else (some (.done (.inl ())))
def a2E (s:List Int)(f:Int->Option Bool):Option Int :=
 Option.bind (y2 (a5E s f) ((s.length:Int).toNat+1) 0) fun b4 =>
 k9 (fun _ =>
 some (-1)) (fun y6 =>
 some y6) b4
def W4 (s:List Int)(f:Int->Option Bool):Option Bool :=
 Option.bind (a2E s f) fun r1 =>
 some (decide (0<=r1))
def a71 (s:List Int)(v:Int)(x1:Int):Option (Fl Int (Sum Unit Int)) :=
 bif decide (x1<(s.length:Int))
 then (Option.bind (idx s x1) fun e2 =>
 bif v==e2
 then (some (.done (.inr x1)))
 else (some (.next (wr .i64 (x1+1)))))
 else (some (.done (.inl ())))
def a4j (s:List Int)(v:Int):Option Int :=
 Option.bind (y2 (a71 s v) ((s.length:Int).toNat+1) 0) fun b3 =>
 k9 (fun _ =>
 some (-1)) (fun y5 =>
 some y5) b3
def a2V (s:List Int)(v:Int):Option Bool :=
 Option.bind (a4j s v) fun r1 =>
 some (decide (0<=r1))
def a8l (x:Int)(a1_1:List Int):Option Bool :=
 Option.bind (a2V a1_1 x) fun r1 =>
 some r1
def a5Z (a:List Int)(b:List Int):Option Bool :=
 Option.bind (W4 a (fun z1 =>
 Option.bind (a8l z1 b) fun r2 =>
 some r2)) fun r3 =>
 some r3
def a3i (s:List ByteArray)(f:ByteArray->Option Bool)(x1:Int):Option (Fl Int (Sum Unit Int)) :=
 bif decide (x1<(s.length:Int))
 then (Option.bind (idx s x1) fun e2 =>
 Option.bind (f e2) fun r3 =>
 bif r3
 then (some (.done (.inr x1)))
 else (some (.next (wr .i64 (x1+1)))))
 else (some (.done (.inl ())))
def a1e (s:List ByteArray)(f:ByteArray->Option Bool):Option Int :=
 Option.bind (y2 (a3i s f) ((s.length:Int).toNat+1) 0) fun b4 =>
 k9 (fun _ =>
 some (-1)) (fun y6 =>
 some y6) b4
def a0P (s:List ByteArray)(f:ByteArray->Option Bool):Option Bool :=
 Option.bind (a1e s f) fun r1 =>
 some (decide (0<=r1))
def a4F (s:List ByteArray)(v:ByteArray)(x1:Int):Option (Fl Int (Sum Unit Int)) :=
 bif decide (x1<(s.length:Int))
 then (Option.bind (idx s x1) fun e2 =>
 bif K8 v e2
 then (some (.done (.inr x1)))
 else (some (.next (wr .i64 (x1+1)))))
 else (some (.done (.inl ())))
def a10 (s:List ByteArray)(v:ByteArray):Option Int :=
 Option.bind (y2 (a4F s v) ((s.length:Int).toNat+1) 0) fun b3 =>
 k9 (fun _ =>
 some (-1)) (fun y5 =>
 some y5) b3
def a1o (s:List ByteArray)(v:ByteArray):Option Bool :=
 Option.bind (a10 s v) fun r1 =>
 some (decide (0<=r1))
def a5z (x:ByteArray)(a1_1:List ByteArray):Option Bool :=
 Option.bind (a1o a1_1 x) fun r1 =>
 some r1
def a7j (a:List ByteArray)(b:List ByteArray):Option Bool :=
 Option.bind (a0P a (fun z1 =>
 Option.bind (a5z z1 b) fun r2 =>
 some r2)) fun r3 =>
 some r3
def b8t (x1:(List Core_Sort)×Int):Option (Fl ((List Core_Sort)×Int) (List Core_Sort)) :=
 bif decide (x1.2<=4)
 then (Option.bind (Y4 (x1.1.length+([Core_Sort.mk 6 x1.2,Core_Sort.mk 9 x1.2]:List Core_Sort).length) 16) fun _ =>
 some (.next (x1.1++([Core_Sort.mk 6 x1.2,Core_Sort.mk 9 x1.2]:List Core_Sort),wr .i64 (x1.2+1))))
 else (some (.done x1.1))
def b6A:Option (List Core_Sort) :=
 Option.bind (y2 b8t ((4:Int).toNat+2) (([Core_Sort.mk 1 0,Core_Sort.mk 2 0,Core_Sort.mk 3 0,Core_Sort.mk 4 0,Core_Sort.mk 5 0,Core_Sort.mk 7 0,Core_Sort.mk 8 0]:List Core_Sort),0)) fun b3 =>
 some b3
def a42 (d:Core_Sort)(t:Api_TypeNode):Option Bool :=
 bif t.Kind==3
 then (some (d.Kind==1))
 else (Option.bind (bif t.Kind==4
 then (some (t.Kind==4))
 else (some (t.Kind==5))) fun b1 =>
 bif b1
 then (some (d.Kind==2))
 else (Option.bind (bif t.Kind==6
 then (some (t.Kind==6))
 else (some (t.Kind==7))) fun b2 =>
 bif b2
 then (some (d.Kind==3))
 else (bif t.Kind==8
 then (some (d.Kind==4))
 else (bif t.Kind==9
 then (some (d.Kind==5))
 else (bif t.Kind==12
 then (some (d.Kind==7))
 else (bif t.Kind==13
 then (some (d.Kind==8))
 else (bif t.Kind==11
 then (some (d.Kind==6))
 else (bif t.Kind==10
 then (Option.bind (bif d.Kind==6
 then (some (d.Arity==(t.Kids.length:Int)))
 else (some false)) fun q3 =>
 some q3)
 else (bif t.Kind==15
 then (some (d.Kind==9))
 else (bif t.Kind==14
 then (Option.bind (bif d.Kind==9
 then (some (d.Arity==(wr .i64 ((t.Kids.length:Int)-1))))
 else (some false)) fun q4 =>
 some q4)
 else (some false)))))))))))
def a7o (i:Int)(a1_1:Api_Type)(a2_2:Core_Sort):Option Bool :=
 Option.bind (idx a1_1.Nodes i) fun e1 =>
 Option.bind (bif e1.Kind != 19
 then (Option.bind (idx a1_1.Nodes i) fun e2 =>
 Option.bind (a42 a2_2 e2) fun r3 =>
 some (!r3))
 else (some false)) fun q4 =>
 some q4
def a9r (s:Core_Sort)(t:Api_Type)(e:Api_Goal):Option Bool :=
 Option.bind (bif e.Lists
 then (some (s.Kind != 5))
 else (some false)) fun q1 =>
 Option.bind (bif q1
 then (some (s.Kind != 7))
 else (some false)) fun q2 =>
 bif q2
 then (some false)
 else (Option.bind (W4 e.Pos (fun z3 =>
 Option.bind (a7o z3 t s) fun r4 =>
 some r4)) fun r5 =>
 some (!r5))
def b1S:Option (List Api_Range) :=
 some ([Api_Range.mk (-9223372036854775808) 9223372036854775807]:List Api_Range)
def a4m (x:Int):Option Bool :=
 some (x != x)
def a29 (x:Int)(y:Int):Option Int :=
 Option.bind (a4m x) fun r1 =>
 Option.bind (a4m y) fun r2 =>
 bif r1
 then (bif r2
 then (some 0)
 else (some (-1)))
 else (bif r2
 then (some 1)
 else (bif decide (x<y)
 then (some (-1))
 else (bif decide (y<x)
 then (some 1)
 else (some 0))))
def a4q (a:Api_Range)(b:Api_Range):Option Int :=
 Option.bind (a29 a.Lo b.Lo) fun r1 =>
 some r1
noncomputable def a9D (d:List Api_Range)(x1:(List Api_Range)×Int):Option (Fl ((List Api_Range)×Int) (List Api_Range)) :=
 bif decide (x1.2<(d.length:Int))
 then (Option.bind (idx d x1.2) fun e2 =>
 bif decide (e2.Lo<=e2.Hi)
 then (Option.bind (Y4 (x1.1.length+([e2]:List Api_Range).length) 16) fun _ =>
 some (.next (x1.1++([e2]:List Api_Range),wr .i64 (x1.2+1))))
 else (some (.next (x1.1,wr .i64 (x1.2+1)))))
 else (some (.done x1.1))
noncomputable def a9Z (r8:Unit×List Api_Range)(x9:(List Api_Range)×(List Api_Range)×Int):Option (Fl ((List Api_Range)×(List Api_Range)×Int) ((List Api_Range)×(List Api_Range))) :=
 bif decide (x9.2.2<(r8.2.length:Int))
 then (Option.bind (idx x9.2.1 x9.2.2) fun _ =>
 Option.bind (x9.2.1[x9.2.2.toNat]?) fun e11 =>
 Option.bind (bif decide (0<=(wr .i64 ((x9.1.length:Int)-1)))
 then (Option.bind (idx x9.1 (wr .i64 ((x9.1.length:Int)-1))) fun _ =>
 Option.bind (x9.1[(wr .i64 ((x9.1.length:Int)-1)).toNat]?) fun e13 =>
 Option.bind (bif e13.Hi==9223372036854775807
 then (some true)
 else (Option.bind (idx x9.1 (wr .i64 ((x9.1.length:Int)-1))) fun _ =>
 Option.bind (x9.1[(wr .i64 ((x9.1.length:Int)-1)).toNat]?) fun e15 =>
 some (decide (e11.Lo<=(wr .i64 (e15.Hi+1)))))) fun q16 =>
 some q16)
 else (some false)) fun q17 =>
 bif q17
 then (Option.bind (idx x9.1 (wr .i64 ((x9.1.length:Int)-1))) fun _ =>
 Option.bind (x9.1[(wr .i64 ((x9.1.length:Int)-1)).toNat]?) fun e19 =>
 Option.bind (idx x9.1 (wr .i64 ((x9.1.length:Int)-1))) fun _ =>
 Option.bind (x9.1[(wr .i64 ((x9.1.length:Int)-1)).toNat]?) fun e21 =>
 some (.next (x9.1.set ((wr .i64 ((x9.1.length:Int)-1)).toNat) (Api_Range.mk e21.Lo (max e19.Hi e11.Hi)),x9.2.1,wr .i64 (x9.2.2+1))))
 else (Option.bind (Y4 (x9.1.length+([e11]:List Api_Range).length) 16) fun _ =>
 some (.next (x9.1++([e11]:List Api_Range),x9.2.1,wr .i64 (x9.2.2+1)))))
 else (some (.done (x9.1,x9.2.1)))
noncomputable def a0u (d:List Api_Range):Option (List Api_Range) :=
 Option.bind (y2 (a9D d) ((d.length:Int).toNat+1) ([],0)) fun b4 =>
 Option.bind (b58 b4 (fun z5 z6 =>
 Option.bind (a4q z5 z6) fun r7 =>
 some r7)) fun r8 =>
 Option.bind (y2 (a9Z r8) ((r8.2.length:Int).toNat+1) ([],r8.2,0)) fun b23 =>
 some b23.1
noncomputable def a9R (e3:Api_Range)(r4:List Api_Range)(x5:(List Api_Range)×Int):Option (Fl ((List Api_Range)×Int) (List Api_Range)) :=
 bif decide (x5.2<(r4.length:Int))
 then (Option.bind (idx r4 x5.2) fun e6 =>
 Option.bind (Y4 (x5.1.length+([Api_Range.mk (max e3.Lo e6.Lo) (min e3.Hi e6.Hi)]:List Api_Range).length) 16) fun _ =>
 some (.next (x5.1++([Api_Range.mk (max e3.Lo e6.Lo) (min e3.Hi e6.Hi)]:List Api_Range),wr .i64 (x5.2+1))))
 else (some (.done x5.1))
noncomputable def a98 (b:List Api_Range)(r1:List Api_Range)(x2:(List Api_Range)×Int):Option (Fl ((List Api_Range)×Int) (List Api_Range)) :=
 bif decide (x2.2<(r1.length:Int))
 then (Option.bind (idx r1 x2.2) fun e3 =>
 Option.bind (a0u b) fun r4 =>
 Option.bind (y2 (a9R e3 r4) ((r4.length:Int).toNat+1) (x2.1,0)) fun b8 =>
 some (.next (b8,wr .i64 (x2.2+1))))
 else (some (.done x2.1))
noncomputable def a2v (a:List Api_Range)(b:List Api_Range):Option (List Api_Range) :=
 Option.bind (a0u a) fun r1 =>
 Option.bind (y2 (a98 b r1) ((r1.length:Int).toNat+1) ([],0)) fun b9 =>
 Option.bind (a0u b9) fun r10 =>
 some r10
noncomputable def a88 (r1:List Api_Range)(x2:(List Api_Range)×Int×Int):Option (Fl ((List Api_Range)×Int×Int) (Sum ((List Api_Range)×Int) (List Api_Range))) :=
 bif decide (x2.2.2<(r1.length:Int))
 then (Option.bind (idx r1 x2.2.2) fun e3 =>
 Option.bind (bif decide (x2.2.1<e3.Lo)
 then (Option.bind (Y4 (x2.1.length+([Api_Range.mk x2.2.1 (wr .i64 (e3.Lo-1))]:List Api_Range).length) 16) fun _ =>
 some (x2.1++([Api_Range.mk x2.2.1 (wr .i64 (e3.Lo-1))]:List Api_Range)))
 else (some x2.1)) fun b5 =>
 bif e3.Hi==9223372036854775807
 then (some (.done (.inr b5)))
 else (some (.next (b5,wr .i64 (e3.Hi+1),wr .i64 (x2.2.2+1)))))
 else (some (.done (.inl (x2.1,x2.2.1))))
noncomputable def a4L (a:List Api_Range):Option (List Api_Range) :=
 Option.bind (a0u a) fun r1 =>
 Option.bind (y2 (a88 r1) ((r1.length:Int).toNat+1) ([],(-9223372036854775808),0)) fun b6 =>
 k9 (fun x7 =>
 Option.bind (Y4 (x7.1.length+([Api_Range.mk x7.2 9223372036854775807]:List Api_Range).length) 16) fun _ =>
 some (x7.1++([Api_Range.mk x7.2 9223372036854775807]:List Api_Range))) (fun y8 =>
 some y8) b6
noncomputable def b8p (t:Api_Type)(e:Api_Goal)(x2:(List Api_Range)×Int):Option (Fl ((List Api_Range)×Int) (List Api_Range)) :=
 bif decide (x2.2<(e.Pos.length:Int))
 then (Option.bind (idx e.Pos x2.2) fun e3 =>
 Option.bind (idx t.Nodes e3) fun e4 =>
 bif e4.Kind==3
 then (Option.bind (a2v x2.1 ([Api_Range.mk e4.Lo e4.Hi]:List Api_Range)) fun r5 =>
 some (.next (r5,wr .i64 (x2.2+1))))
 else (some (.next (x2.1,wr .i64 (x2.2+1)))))
 else (some (.done x2.1))
noncomputable def b8K (t:Api_Type)(e:Api_Goal)(x7:(List Api_Range)×Int):Option (Fl ((List Api_Range)×Int) (List Api_Range)) :=
 bif decide (x7.2<(e.Neg.length:Int))
 then (Option.bind (idx e.Neg x7.2) fun e8 =>
 Option.bind (idx t.Nodes e8) fun e9 =>
 bif e9.Kind==3
 then (Option.bind (a4L ([Api_Range.mk e9.Lo e9.Hi]:List Api_Range)) fun r10 =>
 Option.bind (a2v x7.1 r10) fun r11 =>
 some (.next (r11,wr .i64 (x7.2+1))))
 else (some (.next (x7.1,wr .i64 (x7.2+1)))))
 else (some (.done x7.1))
noncomputable def b6k (t:Api_Type)(e:Api_Goal):Option (List Api_Range) :=
 Option.bind (b1S) fun r1 =>
 Option.bind (y2 (b8p t e) ((e.Pos.length:Int).toNat+1) (r1,0)) fun b6 =>
 Option.bind (y2 (b8K t e) ((e.Neg.length:Int).toNat+1) (b6,0)) fun b12 =>
 some b12
def a0s (s:Api_Names):Option Literals_normal :=
 Option.bind (Q5 16 s.List_) fun r1 =>
 Option.bind (b4k r1) fun r2 =>
 Option.bind (V9 r2.2) fun r3 =>
 Option.bind (X5 r3) fun r4 =>
 some (Literals_normal.mk (Api_Names.mk s.Cofinite r4))
def a1t (l:List ByteArray):Option Api_Names :=
 Option.bind (a0s (Api_Names.mk true l)) fun r1 =>
 some r1.Names
def a1c (l:List ByteArray):Option Api_Names :=
 Option.bind (a0s (Api_Names.mk false l)) fun r1 =>
 some r1.Names
def a3U (n_0:Literals_normal)(other:Literals_normal):Option (List ByteArray) :=
 Option.bind (Q5 16 n_0.Names.List_) fun r1 =>
 Option.bind (Y4 (r1.length+other.Names.List_.length) 16) fun _ =>
 some (r1++other.Names.List_)
def a3v (x:ByteArray):Option Bool :=
 some (!(K8 x x))
def a8s (x:ByteArray)(y:ByteArray):Option Bool :=
 Option.bind (a3v x) fun r1 =>
 Option.bind (bif r1
 then (Option.bind (a3v y) fun r2 =>
 some (!r2))
 else (some false)) fun q3 =>
 Option.bind (bif q3
 then (some true)
 else (some (a1r x y))) fun q4 =>
 some q4
def a2d (x:ByteArray):Option Bool :=
 some (!(K8 x x))
def a2H (x:List ByteArray)(target:ByteArray)(x1:Int×Int):Option (Fl (Int×Int) Int) :=
 bif decide (x1.1<x1.2)
 then (Option.bind (b9K .u64 (wr .u64 (wr .i64 (x1.1+x1.2))) 1) fun d2 =>
 Option.bind (idx x (wr .i64 d2)) fun e3 =>
 Option.bind (a8s e3 target) fun r4 =>
 bif r4
 then (some (.next (wr .i64 ((wr .i64 d2)+1),x1.2)))
 else (some (.next (x1.1,wr .i64 d2))))
 else (some (.done x1.1))
def a0N (n:Nat)(x:List ByteArray)(target:ByteArray):Option (Int×Bool) :=
 Option.bind (y2 (a2H x target) n (0,(x.length:Int))) fun b5 =>
 Option.bind (bif decide (b5<(x.length:Int))
 then (Option.bind (idx x b5) fun e6 =>
 Option.bind (bif K8 e6 target
 then (some true)
 else (Option.bind (idx x b5) fun e7 =>
 Option.bind (a2d e7) fun r8 =>
 Option.bind (bif r8
 then (Option.bind (a2d target) fun r9 =>
 some r9)
 else (some false)) fun q10 =>
 some q10)) fun q11 =>
 some q11)
 else (some false)) fun q12 =>
 some (b5,q12)
def a2b (n:Nat)(n_0:Literals_normal)(name:ByteArray):Option Bool :=
 Option.bind (a0N n n_0.Names.List_ name) fun r1 =>
 some r1.2
def a7t (n_0:Literals_normal)(other:Literals_normal)(n:Nat)(x1:(List ByteArray)×Int):Option (Fl ((List ByteArray)×Int) (List ByteArray)) :=
 bif decide (x1.2<(n_0.Names.List_.length:Int))
 then (Option.bind (idx n_0.Names.List_ x1.2) fun e2 =>
 Option.bind (a2b n other e2) fun r3 =>
 bif !r3
 then (Option.bind (Y4 (x1.1.length+([e2]:List ByteArray).length) 16) fun _ =>
 some (.next (x1.1++([e2]:List ByteArray),wr .i64 (x1.2+1))))
 else (some (.next (x1.1,wr .i64 (x1.2+1)))))
 else (some (.done x1.1))
def a1G (n:Nat)(n_0:Literals_normal)(other:Literals_normal):Option (List ByteArray) :=
 Option.bind (y2 (a7t n_0 other n) ((n_0.Names.List_.length:Int).toNat+1) ([],0)) fun b5 =>
 some b5
def a9G (r1:Literals_normal)(r2:Literals_normal)(n:Nat)(x10:(List ByteArray)×Int):Option (Fl ((List ByteArray)×Int) (List ByteArray)) :=
 bif decide (x10.2<(r1.Names.List_.length:Int))
 then (Option.bind (idx r1.Names.List_ x10.2) fun e11 =>
 Option.bind (a2b n r2 e11) fun r12 =>
 bif r12
 then (Option.bind (Y4 (x10.1.length+([e11]:List ByteArray).length) 16) fun _ =>
 some (.next (x10.1++([e11]:List ByteArray),wr .i64 (x10.2+1))))
 else (some (.next (x10.1,wr .i64 (x10.2+1)))))
 else (some (.done x10.1))
def a2y (n:Nat)(a:Api_Names)(b:Api_Names):Option Api_Names :=
 Option.bind (a0s a) fun r1 =>
 Option.bind (a0s b) fun r2 =>
 Option.bind (bif r1.Names.Cofinite
 then (some r2.Names.Cofinite)
 else (some false)) fun q3 =>
 bif q3
 then (Option.bind (a3U r1 r2) fun r4 =>
 Option.bind (a1t r4) fun r5 =>
 some r5)
 else (bif r1.Names.Cofinite
 then (Option.bind (a1G n r2 r1) fun r6 =>
 Option.bind (a1c r6) fun r7 =>
 some r7)
 else (bif r2.Names.Cofinite
 then (Option.bind (a1G n r1 r2) fun r8 =>
 Option.bind (a1c r8) fun r9 =>
 some r9)
 else (Option.bind (y2 (a9G r1 r2 n) ((r1.Names.List_.length:Int).toNat+1) ([],0)) fun b14 =>
 Option.bind (a1c b14) fun r15 =>
 some r15)))
def b7d (t:Api_Type)(e:Api_Goal)(kind:Int)(n:Nat)(x2:Int×Api_Names):Option (Fl (Int×Api_Names) Api_Names) :=
 bif decide (x2.1<(e.Pos.length:Int))
 then (Option.bind (idx e.Pos x2.1) fun e3 =>
 Option.bind (idx t.Nodes e3) fun e4 =>
 bif e4.Kind==kind
 then (Option.bind (a1c ([e4.Text]:List ByteArray)) fun r5 =>
 Option.bind (a2y n x2.2 r5) fun r6 =>
 some (.next (wr .i64 (x2.1+1),r6)))
 else (some (.next (wr .i64 (x2.1+1),x2.2))))
 else (some (.done x2.2))
def b7U (t:Api_Type)(e:Api_Goal)(kind:Int)(n:Nat)(x8:Int×Api_Names):Option (Fl (Int×Api_Names) Api_Names) :=
 bif decide (x8.1<(e.Neg.length:Int))
 then (Option.bind (idx e.Neg x8.1) fun e9 =>
 Option.bind (idx t.Nodes e9) fun e10 =>
 bif e10.Kind==kind
 then (Option.bind (a1t ([e10.Text]:List ByteArray)) fun r11 =>
 Option.bind (a2y n x8.2 r11) fun r12 =>
 some (.next (wr .i64 (x8.1+1),r12)))
 else (some (.next (wr .i64 (x8.1+1),x8.2))))
 else (some (.done x8.2))
def a8U (n:Nat)(t:Api_Type)(e:Api_Goal)(kind:Int):Option Api_Names :=
 Option.bind (a1t ([]:List ByteArray)) fun r1 =>
 Option.bind (y2 (b7d t e kind n) ((e.Pos.length:Int).toNat+1) (0,r1)) fun b7 =>
 Option.bind (y2 (b7U t e kind n) ((e.Neg.length:Int).toNat+1) (0,b7)) fun b13 =>
 some b13
def b42 (i:Int)(a1_1:Api_Type)(a2_2:Int):Option Bool :=
 Option.bind (idx a1_1.Nodes i) fun e1 =>
 some (e1.Kind==a2_2)
def a3I (t:Api_Type)(nodes:List Int)(kind:Int):Option Bool :=
 Option.bind (W4 nodes (fun z1 =>
 Option.bind (b42 z1 t kind) fun r2 =>
 some r2)) fun r3 =>
 some r3
def b6R (s:Core_Sort)(t:Api_Type)(nodes:List Int)(kind:Int)(x1:(List Int)×Int):Option (Fl ((List Int)×Int) (List Int)) :=
 bif decide (x1.2<(nodes.length:Int))
 then (Option.bind (idx nodes x1.2) fun e2 =>
 Option.bind (idx t.Nodes e2) fun e3 =>
 Option.bind (bif e3.Kind==kind
 then (Option.bind (idx t.Nodes e2) fun e4 =>
 Option.bind (a42 s e4) fun r5 =>
 some r5)
 else (some false)) fun q6 =>
 bif q6
 then (Option.bind (Y4 (x1.1.length+([e2]:List Int).length) 8) fun _ =>
 some (.next (x1.1++([e2]:List Int),wr .i64 (x1.2+1))))
 else (some (.next (x1.1,wr .i64 (x1.2+1)))))
 else (some (.done x1.1))
def a6R (s:Core_Sort)(t:Api_Type)(nodes:List Int)(kind:Int):Option (List Int) :=
 Option.bind (y2 (b6R s t nodes kind) ((nodes.length:Int).toNat+1) ([],0)) fun b8 =>
 some b8
noncomputable def b6d (n:Nat)(d:Api_Type)(t:Api_Goal)(a2_2:Core_Sort):Option (Api_Line×Bool) :=
 Option.bind (a9r a2_2 d t) fun r1 =>
 bif !r1
 then (some (Api_Line.mk a2_2.Kind a2_2.Arity ([]:List Api_Range) (Api_Names.mk false ([]:List ByteArray)) ([]:List Int) ([]:List Int) ([]:List ByteArray) ([]:List ByteArray),false))
 else (Option.bind (bif a2_2.Kind==1
 then (Option.bind (b6k d t) fun r2 =>
 some (.inr (decide (0<(r2.length:Int)),(a2_2.Kind,a2_2.Arity,r2,false,([]:List ByteArray),([]:List Int),([]:List Int),([]:List ByteArray),([]:List ByteArray)),(a2_2.Kind,a2_2.Arity,r2,false,([]:List ByteArray),([]:List Int),([]:List Int),([]:List ByteArray),([]:List ByteArray)))))
 else (bif a2_2.Kind==2
 then (Option.bind (a8U n d t 4) fun r3 =>
 Option.bind (a3I d t.Neg 5) fun r4 =>
 bif !r4
 then (bif r3.Cofinite
 then (some (.inr (true,(a2_2.Kind,a2_2.Arity,([]:List Api_Range),r3.Cofinite,r3.List_,([]:List Int),([]:List Int),([]:List ByteArray),([]:List ByteArray)),(a2_2.Kind,a2_2.Arity,([]:List Api_Range),r3.Cofinite,r3.List_,([]:List Int),([]:List Int),([]:List ByteArray),([]:List ByteArray)))))
 else (some (.inr (decide (0<(r3.List_.length:Int)),(a2_2.Kind,a2_2.Arity,([]:List Api_Range),r3.Cofinite,r3.List_,([]:List Int),([]:List Int),([]:List ByteArray),([]:List ByteArray)),(a2_2.Kind,a2_2.Arity,([]:List Api_Range),r3.Cofinite,r3.List_,([]:List Int),([]:List Int),([]:List ByteArray),([]:List ByteArray))))))
 else (some (.inr (false,(a2_2.Kind,a2_2.Arity,([]:List Api_Range),r3.Cofinite,r3.List_,([]:List Int),([]:List Int),([]:List ByteArray),([]:List ByteArray)),(a2_2.Kind,a2_2.Arity,([]:List Api_Range),r3.Cofinite,r3.List_,([]:List Int),([]:List Int),([]:List ByteArray),([]:List ByteArray))))))
 else (bif a2_2.Kind==3
 then (Option.bind (a8U n d t 6) fun r5 =>
 Option.bind (a3I d t.Neg 7) fun r6 =>
 bif !r6
 then (bif r5.Cofinite
 then (some (.inr (true,(a2_2.Kind,a2_2.Arity,([]:List Api_Range),r5.Cofinite,r5.List_,([]:List Int),([]:List Int),([]:List ByteArray),([]:List ByteArray)),(a2_2.Kind,a2_2.Arity,([]:List Api_Range),r5.Cofinite,r5.List_,([]:List Int),([]:List Int),([]:List ByteArray),([]:List ByteArray)))))
 else (some (.inr (decide (0<(r5.List_.length:Int)),(a2_2.Kind,a2_2.Arity,([]:List Api_Range),r5.Cofinite,r5.List_,([]:List Int),([]:List Int),([]:List ByteArray),([]:List ByteArray)),(a2_2.Kind,a2_2.Arity,([]:List Api_Range),r5.Cofinite,r5.List_,([]:List Int),([]:List Int),([]:List ByteArray),([]:List ByteArray))))))
 else (some (.inr (false,(a2_2.Kind,a2_2.Arity,([]:List Api_Range),r5.Cofinite,r5.List_,([]:List Int),([]:List Int),([]:List ByteArray),([]:List ByteArray)),(a2_2.Kind,a2_2.Arity,([]:List Api_Range),r5.Cofinite,r5.List_,([]:List Int),([]:List Int),([]:List ByteArray),([]:List ByteArray))))))
 else (bif a2_2.Kind==4
 then (Option.bind (a3I d t.Neg 8) fun r7 =>
 some (.inr (!r7,(a2_2.Kind,a2_2.Arity,([]:List Api_Range),false,([]:List ByteArray),([]:List Int),([]:List Int),([]:List ByteArray),([]:List ByteArray)),(a2_2.Kind,a2_2.Arity,([]:List Api_Range),false,([]:List ByteArray),([]:List Int),([]:List Int),([]:List ByteArray),([]:List ByteArray)))))
 else (bif a2_2.Kind==5
 then (Option.bind (a3I d t.Neg 9) fun r8 =>
 some (.inr (!r8,(a2_2.Kind,a2_2.Arity,([]:List Api_Range),false,([]:List ByteArray),([]:List Int),([]:List Int),([]:List ByteArray),([]:List ByteArray)),(a2_2.Kind,a2_2.Arity,([]:List Api_Range),false,([]:List ByteArray),([]:List Int),([]:List Int),([]:List ByteArray),([]:List ByteArray)))))
 else (bif a2_2.Kind==6
 then (some (.inl (10,11,(0,0,([]:List Api_Range),false,([]:List ByteArray),([]:List Int),([]:List Int),([]:List ByteArray),([]:List ByteArray)),(a2_2.Kind,a2_2.Arity,([]:List Api_Range),false,([]:List ByteArray),([]:List Int),([]:List Int),([]:List ByteArray),([]:List ByteArray)))))
 else (bif a2_2.Kind==7
 then (some (.inl (12,0,(0,0,([]:List Api_Range),false,([]:List ByteArray),([]:List Int),([]:List Int),([]:List ByteArray),([]:List ByteArray)),(a2_2.Kind,a2_2.Arity,([]:List Api_Range),false,([]:List ByteArray),([]:List Int),([]:List Int),([]:List ByteArray),([]:List ByteArray)))))
 else (bif a2_2.Kind==8
 then (some (.inl (13,0,(0,0,([]:List Api_Range),false,([]:List ByteArray),([]:List Int),([]:List Int),([]:List ByteArray),([]:List ByteArray)),(a2_2.Kind,a2_2.Arity,([]:List Api_Range),false,([]:List ByteArray),([]:List Int),([]:List Int),([]:List ByteArray),([]:List ByteArray)))))
 else (bif a2_2.Kind==9
 then (some (.inl (14,15,(0,0,([]:List Api_Range),false,([]:List ByteArray),([]:List Int),([]:List Int),([]:List ByteArray),([]:List ByteArray)),(a2_2.Kind,a2_2.Arity,([]:List Api_Range),false,([]:List ByteArray),([]:List Int),([]:List Int),([]:List ByteArray),([]:List ByteArray)))))
 else (some (.inl (0,0,(0,0,([]:List Api_Range),false,([]:List ByteArray),([]:List Int),([]:List Int),([]:List ByteArray),([]:List ByteArray)),(a2_2.Kind,a2_2.Arity,([]:List Api_Range),false,([]:List ByteArray),([]:List Int),([]:List Int),([]:List ByteArray),([]:List ByteArray)))))))))))))) fun (b9:Sum (Int×Int×(Int×Int×(List Api_Range)×Bool×(List ByteArray)×(List Int)×(List Int)×(List ByteArray)×(List ByteArray))×(Int×Int×(List Api_Range)×Bool×(List ByteArray)×(List Int)×(List Int)×(List ByteArray)×(List ByteArray))) (Bool×(Int×Int×(List Api_Range)×Bool×(List ByteArray)×(List Int)×(List Int)×(List ByteArray)×(List ByteArray))×(Int×Int×(List Api_Range)×Bool×(List ByteArray)×(List Int)×(List Int)×(List ByteArray)×(List ByteArray)))) =>
 k9 (fun x10 =>
 Option.bind (a6R a2_2 d t.Pos x10.1) fun r12 =>
 Option.bind (a6R a2_2 d t.Neg x10.1) fun r13 =>
 bif x10.2.1==0
 then (some (Api_Line.mk x10.2.2.2.1 x10.2.2.2.2.1 x10.2.2.2.2.2.1 (Api_Names.mk x10.2.2.2.2.2.2.1 x10.2.2.2.2.2.2.2.1) r12 r13 x10.2.2.2.2.2.2.2.2.2.2.1 x10.2.2.2.2.2.2.2.2.2.2.2,true))
 else (Option.bind (a3I d t.Neg x10.2.1) fun r14 =>
 some (Api_Line.mk x10.2.2.2.1 x10.2.2.2.2.1 x10.2.2.2.2.2.1 (Api_Names.mk x10.2.2.2.2.2.2.1 x10.2.2.2.2.2.2.2.1) r12 r13 x10.2.2.2.2.2.2.2.2.2.2.1 x10.2.2.2.2.2.2.2.2.2.2.2,!r14))) (fun y11 =>
 some (Api_Line.mk y11.2.1.1 y11.2.1.2.1 y11.2.1.2.2.1 (Api_Names.mk y11.2.1.2.2.2.1 y11.2.1.2.2.2.2.1) y11.2.1.2.2.2.2.2.1 y11.2.1.2.2.2.2.2.2.1 y11.2.1.2.2.2.2.2.2.2.1 y11.2.1.2.2.2.2.2.2.2.2,y11.1)) b9)
noncomputable def b7M (d:Api_Type)(n:Nat)(e6:Api_Goal)(r7:List ByteArray)(r8:List ByteArray)(r12:List Core_Sort)(x13:(List Api_Line)×Int):Option (Fl ((List Api_Line)×Int) (List Api_Line)) :=
 bif decide (x13.2<(r12.length:Int))
 then (Option.bind (idx r12 x13.2) fun e14 =>
 Option.bind (b6d n d e6 e14) fun r15 =>
 bif r15.2
 then (Option.bind (Q5 16 r7) fun r16 =>
 Option.bind (Q5 16 r8) fun r17 =>
 Option.bind (Y4 (x13.1.length+([Api_Line.mk r15.1.Kind r15.1.Arity r15.1.Ints r15.1.Names r15.1.Pos r15.1.Neg r16 r17]:List Api_Line).length) 168) fun _ =>
 some (.next (x13.1++([Api_Line.mk r15.1.Kind r15.1.Arity r15.1.Ints r15.1.Names r15.1.Pos r15.1.Neg r16 r17]:List Api_Line),wr .i64 (x13.2+1))))
 else (some (.next (x13.1,wr .i64 (x13.2+1)))))
 else (some (.done x13.1))
noncomputable def b7h (d:Api_Type)(n:Nat)(r4:List Api_Goal)(x5:(List Api_Line)×Int):Option (Fl ((List Api_Line)×Int) (List Api_Line)) :=
 bif decide (x5.2<(r4.length:Int))
 then (Option.bind (idx r4 x5.2) fun e6 =>
 Option.bind (b1E d e6.Pos) fun r7 =>
 Option.bind (b1E d e6.Neg) fun r8 =>
 Option.bind (a5Z e6.Pos e6.Neg) fun r9 =>
 Option.bind (bif r9
 then (some true)
 else (Option.bind (a7j r7 r8) fun r10 =>
 some r10)) fun q11 =>
 bif q11
 then (some (.next (x5.1,wr .i64 (x5.2+1))))
 else (Option.bind (b6A) fun r12 =>
 Option.bind (y2 (b7M d n e6 r7 r8 r12) ((r12.length:Int).toNat+1) (x5.1,0)) fun b19 =>
 some (.next (b19,wr .i64 (x5.2+1)))))
 else (some (.done x5.1))
noncomputable def b4X (n:Nat)(d:Api_Type)(t:Api_Goal):Option (List Api_Line) :=
 Option.bind (a04 n d) fun r1 =>
 Option.bind (bif r1 != 0
 then (some true)
 else (Option.bind (a80 d t) fun r2 =>
 some (!r2))) fun q3 =>
 bif q3
 then (some ([]))
 else (Option.bind (a8a n d t) fun r4 =>
 Option.bind (y2 (b7h d n r4) ((r4.length:Int).toNat+1) ([],0)) fun b20 =>
 some b20)
def b6Y (t:Api_Type)(nodes:List Int)(kind:Int)(width:Int)(x1:(List (List Int))×Int):Option (Fl ((List (List Int))×Int) (Sum (List (List Int)) ((List (List Int))×Bool))) :=
 bif decide (x1.2<(nodes.length:Int))
 then (Option.bind (idx nodes x1.2) fun e2 =>
 Option.bind (bif decide (e2<0)
 then (some true)
 else (some (decide ((t.Nodes.length:Int)<=e2)))) fun q3 =>
 Option.bind (bif q3
 then (some true)
 else (Option.bind (idx t.Nodes e2) fun e4 =>
 some (e4.Kind != kind))) fun q5 =>
 Option.bind (bif q5
 then (some true)
 else (Option.bind (idx t.Nodes e2) fun e6 =>
 some ((e6.Kids.length:Int) != width))) fun q7 =>
 bif q7
 then (some (.done (.inr ([],false))))
 else (Option.bind (idx t.Nodes e2) fun e8 =>
 Option.bind (Y4 (x1.1.length+([e8.Kids]:List (List Int)).length) 24) fun _ =>
 some (.next (x1.1++([e8.Kids]:List (List Int)),wr .i64 (x1.2+1)))))
 else (some (.done (.inl x1.1)))
def a7p (t:Api_Type)(nodes:List Int)(kind:Int)(width:Int):Option ((List (List Int))×Bool) :=
 Option.bind (y2 (b6Y t nodes kind width) ((nodes.length:Int).toNat+1) ([],0)) fun b10 =>
 k9 (fun x11 =>
 some (x11,true)) (fun y12 =>
 some (y12.1,y12.2)) b10
def a4Q (s:List (List Int))(f:(List Int)->Option Bool)(x1:Int):Option (Fl Int (Sum Unit Int)) :=
 bif decide (x1<(s.length:Int))
 then (Option.bind (idx s x1) fun e2 =>
 Option.bind (f e2) fun r3 =>
 bif r3
 then (some (.done (.inr x1)))
 else (some (.next (wr .i64 (x1+1)))))
 else (some (.done (.inl ())))
def a2f (s:List (List Int))(f:(List Int)->Option Bool):Option Int :=
 Option.bind (y2 (a4Q s f) ((s.length:Int).toNat+1) 0) fun b4 =>
 k9 (fun _ =>
 some (-1)) (fun y6 =>
 some y6) b4
def a1E (s:List (List Int))(f:(List Int)->Option Bool):Option Bool :=
 Option.bind (a2f s f) fun r1 =>
 some (decide (0<=r1))
def a9L (r:List Int)(a1_1:Int):Option Bool :=
 some ((r.length:Int) != a1_1)
def a7B (width:Int)(rows:List (List Int)):Option Bool :=
 Option.bind (a1E rows (fun z1 =>
 Option.bind (a9L z1 width) fun r2 =>
 some r2)) fun r3 =>
 some (!r3)
def b7v (t:List (List Int))(x1:Int×(List Api_Goal)×(List Api_Goal))(x2:Int×((List Int)×(List Int)×Bool)):Option (Fl (Int×((List Int)×(List Int)×Bool)) ((List Int)×(List Int)×Bool)) :=
 bif decide (x2.1<(t.length:Int))
 then (Option.bind (idx t x2.1) fun e3 =>
 Option.bind (idx e3 x1.1) fun e4 =>
 Option.bind (Y4 (x2.2.1.length+([e4]:List Int).length) 8) fun _ =>
 some (.next (wr .i64 (x2.1+1),(x2.2.1++([e4]:List Int),x2.2.2.1,x2.2.2.2))))
 else (some (.done (x2.2.1,x2.2.2.1,x2.2.2.2)))
def b7u (a2_2:List (List Int))(a3_3:List (List Int))(a4_4:List Int)(x1:Int×(List Api_Goal)×(List Api_Goal))(x7:Int×((List Int)×(List Int)×Bool)):Option (Fl (Int×((List Int)×(List Int)×Bool)) ((List Int)×(List Int)×Bool)) :=
 bif decide (x7.1<(a2_2.length:Int))
 then (Option.bind (idx a2_2 x7.1) fun e8 =>
 Option.bind (idx a3_3 x7.1) fun e9 =>
 Option.bind (idx a4_4 x7.1) fun _ =>
 Option.bind (a4_4[x7.1.toNat]?) fun e11 =>
 Option.bind (idx e9 e11) fun e12 =>
 bif e12==x1.1
 then (Option.bind (idx e8 x1.1) fun e13 =>
 Option.bind (Y4 (x7.2.2.1.length+([e13]:List Int).length) 8) fun _ =>
 some (.next (wr .i64 (x7.1+1),(x7.2.1,x7.2.2.1++([e13]:List Int),x7.2.2.2))))
 else (some (.next (wr .i64 (x7.1+1),(x7.2.1,x7.2.2.1,x7.2.2.2)))))
 else (some (.done (x7.2.1,x7.2.2.1,x7.2.2.2)))
def b7x (d:Int)(t:List (List Int))(a2_2:List (List Int))(a3_3:List (List Int))(a4_4:List Int)(x1:Int×(List Api_Goal)×(List Api_Goal)):Option (Fl (Int×(List Api_Goal)×(List Api_Goal)) (Sum ((List Api_Goal)×(List Api_Goal)) (Bool×(List Api_Goal)×(List Api_Goal)))) :=
 bif decide (x1.1<d)
 then (Option.bind (y2 (b7v t x1) ((t.length:Int).toNat+1) (0,([],[],false))) fun b6 =>
 Option.bind (y2 (b7u a2_2 a3_3 a4_4 x1) ((a2_2.length:Int).toNat+1) (0,(b6.1,b6.2.1,b6.2.2))) fun b15 =>
 Option.bind (a5Z b15.1 b15.2.1) fun r16 =>
 bif r16
 then (some (.done (.inr (false,x1.2.2,x1.2.2))))
 else (Option.bind (a5i (Api_Goal.mk b15.1 b15.2.1 b15.2.2)) fun r17 =>
 Option.bind (Y4 (x1.2.2.length+([r17]:List Api_Goal).length) 56) fun _ =>
 some (.next (wr .i64 (x1.1+1),x1.2.1,x1.2.2++([r17]:List Api_Goal)))))
 else (some (.done (.inl (x1.2.1,x1.2.2))))
def b46 (d:Int)(t:List (List Int))(a2_2:List (List Int))(a3_3:List (List Int))(a4_4:List Int):Option (Api_Box×Bool) :=
 Option.bind (y2 (b7x d t a2_2 a3_3 a4_4) (d.toNat+1) (0,([]:List Api_Goal),[])) fun (b19:Sum ((List Api_Goal)×(List Api_Goal)) (Bool×(List Api_Goal)×(List Api_Goal))) =>
 k9 (fun x20 =>
 some (Api_Box.mk x20.2,true)) (fun y21 =>
 some (Api_Box.mk y21.2.1,y21.1)) b19
def b3u (digits:List Int)(options:List (List Int))(x11:Int×List Int):Option (Fl (Int×List Int) (Sum (Unit×List Int) (Bool×List Int))) :=
 bif decide (x11.1<(digits.length:Int))
 then (Option.bind (idx x11.2 x11.1) fun _ =>
 Option.bind (x11.2[x11.1.toNat]?) fun e13 =>
 Option.bind (idx x11.2 x11.1) fun _ =>
 Option.bind (x11.2[x11.1.toNat]?) fun _ =>
 Option.bind (idx (x11.2.set x11.1.toNat (wr .i64 (e13+1))) x11.1) fun _ =>
 Option.bind ((x11.2.set x11.1.toNat (wr .i64 (e13+1)))[x11.1.toNat]?) fun e17 =>
 Option.bind (idx options x11.1) fun e18 =>
 bif decide (e17<(e18.length:Int))
 then (some (.done (.inr (true,x11.2.set x11.1.toNat (wr .i64 (e13+1))))))
 else (Option.bind (idx (x11.2.set x11.1.toNat (wr .i64 (e13+1))) x11.1) fun _ =>
 Option.bind ((x11.2.set x11.1.toNat (wr .i64 (e13+1)))[x11.1.toNat]?) fun _ =>
 some (.next (wr .i64 (x11.1+1),(x11.2.set x11.1.toNat (wr .i64 (e13+1))).set x11.1.toNat 0))))
 else (some (.done (.inl ((),x11.2))))
def a8c (digits:List Int)(options:List (List Int)):Option (Bool×List Int) :=
 Option.bind (y2 (b3u digits options) ((digits.length:Int).toNat+1) (0,digits)) fun (b21:Sum (Unit×List Int) (Bool×List Int)) =>
 k9 (fun x22 =>
 some (false,x22.2)) (fun y23 =>
 some (y23.1,y23.2)) b21
def b5j (a3_3:Int->Option Bool)(x7:Int×List (List Int))(e8:List Int)(x9:Int×List (List Int)):Option (Fl (Int×List (List Int)) (Unit×List (List Int))) :=
 bif decide (x9.1<(e8.length:Int))
 then (Option.bind (idx e8 x9.1) fun e10 =>
 Option.bind (a3_3 e10) fun r11 =>
 bif r11
 then (Option.bind (idx x9.2 x7.1) fun _ =>
 Option.bind (x9.2[x7.1.toNat]?) fun e13 =>
 Option.bind (Y4 (e13.length+([x9.1]:List Int).length) 8) fun _ =>
 Option.bind (idx x9.2 x7.1) fun _ =>
 Option.bind (x9.2[x7.1.toNat]?) fun _ =>
 bif Nat.beq (x7.1.toNat+2) (x7.1.toNat+2)
 then (some (.next (wr .i64 (x9.1+1),x9.2.set x7.1.toNat (e13++([x9.1]:List Int)))))
 else (none))
 else (some (.next (wr .i64 (x9.1+1),x9.2))))
 else (some (.done ((),x9.2)))
def b5V (a2_2:List (List Int))(a3_3:Int->Option Bool)(x7:Int×List (List Int)):Option (Fl (Int×List (List Int)) (Sum (Unit×List (List Int)) ((List Api_Box)×List (List Int)))) :=
 bif decide (x7.1<(a2_2.length:Int))
 then (Option.bind (idx a2_2 x7.1) fun e8 =>
 Option.bind (y2 (b5j a3_3 x7 e8) ((e8.length:Int).toNat+1) (0,x7.2)) fun b17 =>
 Option.bind (idx b17.2 x7.1) fun _ =>
 Option.bind (b17.2[x7.1.toNat]?) fun e19 =>
 bif (e19.length:Int)==0
 then (some (.done (.inr ([],b17.2))))
 else (some (.next (wr .i64 (x7.1+1),b17.2))))
 else (some (.done (.inl ((),x7.2))))
def b5o (d:Int)(t:List (List Int))(a2_2:List (List Int))(x21:Unit×List (List Int))(x24:(List Int)×(List Api_Box)):Option (Fl ((List Int)×(List Api_Box)) ((List Api_Box)×(List Int))) :=
 Option.bind (b46 d t a2_2 x21.2 x24.1) fun r25 =>
 Option.bind (bif r25.2
 then (Option.bind (Y4 (x24.2.length+([r25.1]:List Api_Box).length) 24) fun _ =>
 some (x24.2++([r25.1]:List Api_Box)))
 else (some x24.2)) fun b27 =>
 Option.bind (a8c x24.1 x21.2) fun r28 =>
 bif !r28.1
 then (some (.done (b27,r28.2)))
 else (some (.next (r28.2,b27)))
def b1X (n:Nat)(d:Int)(t:List (List Int))(a2_2:List (List Int))(a3_3:Int->Option Bool):Option (List Api_Box) :=
 Option.bind (bif decide (d<0)
 then (some true)
 else (some (decide (4<d)))) fun q1 =>
 Option.bind (bif q1
 then (some true)
 else (Option.bind (a7B d t) fun r2 =>
 some (!r2))) fun q3 =>
 Option.bind (bif q3
 then (some true)
 else (Option.bind (a7B d a2_2) fun r4 =>
 some (!r4))) fun q5 =>
 bif q5
 then (some ([]))
 else (Option.bind (b0p (a2_2.length:Int) (a2_2.length:Int) 24) fun m6 =>
 Option.bind (y2 (b5V a2_2 a3_3) ((a2_2.length:Int).toNat+1) (0,List.replicate m6 ([]:List Int))) fun (b20:Sum (Unit×List (List Int)) ((List Api_Box)×List (List Int))) =>
 k9 (fun x21 =>
 Option.bind (b0p (a2_2.length:Int) (a2_2.length:Int) 8) fun m23 =>
 Option.bind (y2 (b5o d t a2_2 x21) n (List.replicate m23 (0:Int),[])) fun b29 =>
 some b29.1) (fun y22 =>
 some y22.1) b20)
def a3Y (i:Int)(a1_1:Api_Type):Option Bool :=
 Option.bind (idx a1_1.Nodes i) fun e1 =>
 some (e1.Kind != 2)
def b0a (r10:List Api_Box)(x11:Int):Option (Fl Int Unit) :=
 bif decide (x11<(r10.length:Int))
 then (Option.bind (idx r10 x11) fun e12 =>
 Option.bind (idx e12.Parts 1) fun _ =>
 none)
 else (some (.done ()))
def a5y (n:Nat)(d:Api_Type)(t:Api_Line):Option ((List Api_Box)×Int) :=
 Option.bind (bif t.Kind==6
 then (some (.inl (10,t.Arity)))
 else (bif t.Kind==7
 then (some (.inl (12,2)))
 else (some (.inr ([],9))))) fun b1 =>
 k9 (fun x2 =>
 Option.bind (a04 n d) fun r4 =>
 bif r4 != 0
 then (some (([]:List Api_Box),1))
 else (Option.bind (a7p d t.Pos x2.1 x2.2) fun r5 =>
 Option.bind (a7p d t.Neg x2.1 x2.2) fun r6 =>
 Option.bind (bif !r5.2
 then (some true)
 else (some (!r6.2))) fun q7 =>
 bif q7
 then (some (([]:List Api_Box),1))
 else (Option.bind (b1X n x2.2 r5.1 r6.1 (fun z8 =>
 Option.bind (a3Y z8 d) fun r9 =>
 some r9)) fun r10 =>
 Option.bind (bif t.Kind==7
 then (Option.bind (y2 (b0a r10) ((r10.length:Int).toNat+1) 0) fun _ =>
 some ())
 else (some ())) fun _ =>
 some (r10,0)))) (fun y3 =>
 some (y3.1,y3.2)) b1
def b7R (r4:(List Api_Box)×Int)(x5:(List Api_Alternative)×Int):Option (Fl ((List Api_Alternative)×Int) (List Api_Alternative)) :=
 bif decide (x5.2<(r4.1.length:Int))
 then (Option.bind (idx r4.1 x5.2) fun e6 =>
 Option.bind (Y4 (x5.1.length+([Api_Alternative.mk (Val.mk 0 0 (⟨#[]⟩:ByteArray) ([]:List Val) ([]:List Key) ([]:List Ent) ([]:List ByteArray)) ([]:List Key) ([]:List Api_Form) e6.Parts]:List Api_Alternative).length) 200) fun _ =>
 some (.next (x5.1++([Api_Alternative.mk (Val.mk 0 0 (⟨#[]⟩:ByteArray) ([]:List Val) ([]:List Key) ([]:List Ent) ([]:List ByteArray)) ([]:List Key) ([]:List Api_Form) e6.Parts]:List Api_Alternative),wr .i64 (x5.2+1))))
 else (some (.done x5.1))
def b45 (n:Nat)(d:Api_Type)(t:Api_Line):Option (List Api_Alternative) :=
 bif t.Kind==1
 then (none)
 else (Option.bind (bif t.Kind==2
 then (some (t.Kind==2))
 else (some (t.Kind==3))) fun b1 =>
 bif b1
 then (Option.bind (bif t.Kind==3
 then (some 0)
 else (some 1)) fun (_:Int) =>
 none)
 else (Option.bind (bif t.Kind==6
 then (some (t.Kind==6))
 else (some (t.Kind==7))) fun b3 =>
 bif b3
 then (Option.bind (a5y n d t) fun r4 =>
 Option.bind (y2 (b7R r4) ((r4.1.length:Int).toNat+1) ([],0)) fun b8 =>
 some b8)
 else (bif t.Kind==8
 then (none)
 else (bif t.Kind==9
 then (none)
 else (some ([Api_Alternative.mk (Val.mk 0 0 (⟨#[]⟩:ByteArray) ([]:List Val) ([]:List Key) ([]:List Ent) ([]:List ByteArray)) ([]:List Key) ([]:List Api_Form) ([]:List Api_Goal)]:List Api_Alternative))))))
def b7b (l:Api_Line)(r1:List Api_Alternative)(x2:(List Api_Alternative)×Int):Option (Fl ((List Api_Alternative)×Int) (List Api_Alternative)) :=
 bif decide (x2.2<(r1.length:Int))
 then (Option.bind (idx r1 x2.2) fun e3 =>
 Option.bind (Q5 16 l.Vars) fun r4 =>
 Option.bind (Y4 (x2.1.length+([Api_Alternative.mk (Val.mk l.Kind e3.Leaf.Int_ e3.Leaf.Text e3.Leaf.Kids e3.Leaf.Keys e3.Leaf.Entries r4) e3.Keys e3.Forms e3.Subgoals]:List Api_Alternative).length) 200) fun _ =>
 some (.next (x2.1++([Api_Alternative.mk (Val.mk l.Kind e3.Leaf.Int_ e3.Leaf.Text e3.Leaf.Kids e3.Leaf.Keys e3.Leaf.Entries r4) e3.Keys e3.Forms e3.Subgoals]:List Api_Alternative),wr .i64 (x2.2+1))))
 else (some (.done x2.1))
def b43 (n:Nat)(t:Api_Type)(l:Api_Line):Option (List Api_Alternative) :=
 Option.bind (b45 n t l) fun r1 =>
 Option.bind (y2 (b7b l r1) ((r1.length:Int).toNat+1) ([],0)) fun b6 =>
 some b6
noncomputable def b8f (r4:List Api_Alternative)(x5:(List Solve_Way)×Int):Option (Fl ((List Solve_Way)×Int) (List Solve_Way)) :=
 bif decide (x5.2<(r4.length:Int))
 then (Option.bind (idx r4 x5.2) fun e6 =>
 Option.bind (Y4 (x5.1.length+([Solve_Way.mk e6 ([]:List (List Api_EntryForm))]:List Solve_Way).length) 224) fun _ =>
 some (.next (x5.1++([Solve_Way.mk e6 ([]:List (List Api_EntryForm))]:List Solve_Way),wr .i64 (x5.2+1))))
 else (some (.done x5.1))
noncomputable def b8j (e3:Api_Line)(x10:Int):Option (Fl Int Unit) :=
 bif decide (x10<(e3.Neg.length:Int))
 then (Option.bind (idx e3.Neg x10) fun _ =>
 none)
 else (some (.done ()))
noncomputable def b8w (d:Api_Type)(n:Nat)(r1:List Api_Line)(x2:(List Solve_Way)×Int):Option (Fl ((List Solve_Way)×Int) (List Solve_Way)) :=
 bif decide (x2.2<(r1.length:Int))
 then (Option.bind (idx r1 x2.2) fun e3 =>
 bif e3.Kind != 9
 then (Option.bind (b43 n d e3) fun r4 =>
 Option.bind (y2 (b8f r4) ((r4.length:Int).toNat+1) (x2.1,0)) fun b8 =>
 some (.next (b8,wr .i64 (x2.2+1))))
 else (Option.bind (Q5 16 e3.Vars) fun r9 =>
 Option.bind (y2 (b8j e3) ((e3.Neg.length:Int).toNat+1) 0) fun _ =>
 Option.bind (Y4 (x2.1.length+([Solve_Way.mk (Api_Alternative.mk (Val.mk 9 e3.Arity (⟨#[]⟩:ByteArray) ([]:List Val) ([]:List Key) ([]:List Ent) r9) ([]:List Key) ([]:List Api_Form) ([]:List Api_Goal)) ([]:List (List Api_EntryForm))]:List Solve_Way).length) 224) fun _ =>
 some (.next (x2.1++([Solve_Way.mk (Api_Alternative.mk (Val.mk 9 e3.Arity (⟨#[]⟩:ByteArray) ([]:List Val) ([]:List Key) ([]:List Ent) r9) ([]:List Key) ([]:List Api_Form) ([]:List Api_Goal)) ([]:List (List Api_EntryForm))]:List Solve_Way),wr .i64 (x2.2+1)))))
 else (some (.done x2.1))
noncomputable def b6c (n:Nat)(d:Api_Type)(t:Api_Goal):Option (List Solve_Way) :=
 Option.bind (b4X n d t) fun r1 =>
 Option.bind (y2 (b8w d n r1) ((r1.length:Int).toNat+1) ([],0)) fun b14 =>
 some b14
def a8A (f:Api_EntryForm):Option (List Api_Goal) :=
 bif f.Fails
 then (some f.Args)
 else (Option.bind (Q5 56 f.Args) fun r1 =>
 Option.bind (Y4 (r1.length+([f.Result]:List Api_Goal).length) 56) fun _ =>
 some (r1++([f.Result]:List Api_Goal)))
def b4M (e3:List Api_EntryForm)(x4:(List Api_Goal)×Int):Option (Fl ((List Api_Goal)×Int) (List Api_Goal)) :=
 bif decide (x4.2<(e3.length:Int))
 then (Option.bind (idx e3 x4.2) fun e5 =>
 Option.bind (a8A e5) fun r6 =>
 Option.bind (Y4 (x4.1.length+r6.length) 56) fun _ =>
 some (.next (x4.1++r6,wr .i64 (x4.2+1))))
 else (some (.done x4.1))
def b4E (w:Solve_Way)(x2:(List Api_Goal)×Int):Option (Fl ((List Api_Goal)×Int) (List Api_Goal)) :=
 bif decide (x2.2<(w.Entries.length:Int))
 then (Option.bind (idx w.Entries x2.2) fun e3 =>
 Option.bind (y2 (b4M e3) ((e3.length:Int).toNat+1) (x2.1,0)) fun b8 =>
 some (.next (b8,wr .i64 (x2.2+1))))
 else (some (.done x2.1))
def b0u (w:Solve_Way):Option (List Api_Goal) :=
 Option.bind (Q5 56 w.Alternative.Subgoals) fun r1 =>
 Option.bind (y2 (b4E w) ((w.Entries.length:Int).toNat+1) (r1,0)) fun b9 =>
 some b9
def a15 (s:List Solve_Way)(f:Solve_Way->Option Bool)(x1:Int):Option (Fl Int (Sum Unit Int)) :=
 bif decide (x1<(s.length:Int))
 then (Option.bind (idx s x1) fun e2 =>
 Option.bind (f e2) fun r3 =>
 bif r3
 then (some (.done (.inr x1)))
 else (some (.next (wr .i64 (x1+1)))))
 else (some (.done (.inl ())))
def a0t (s:List Solve_Way)(f:Solve_Way->Option Bool):Option Int :=
 Option.bind (y2 (a15 s f) ((s.length:Int).toNat+1) 0) fun b4 =>
 k9 (fun _ =>
 some (-1)) (fun y6 =>
 some y6) b4
def a0f (s:List Solve_Way)(f:Solve_Way->Option Bool):Option Bool :=
 Option.bind (a0t s f) fun r1 =>
 some (decide (0<=r1))
def a79 (table:(List (ByteArray×(List Solve_Way)))×(List (ByteArray×Int)))(l:List Api_Goal)(x1:Int×Int):Option (Fl (Int×Int) (Sum Int (Int×Bool))) :=
 bif decide (x1.2<(l.length:Int))
 then (Option.bind (idx l x1.2) fun e2 =>
 Option.bind (a3E e2) fun r3 =>
 bif ((a0h table.2 r3).getD (0:Int))==0
 then (some (.done (.inr (0,false))))
 else (some (.next (max x1.1 ((a0h table.2 r3).getD (0:Int)),wr .i64 (x1.2+1)))))
 else (some (.done (.inl x1.1)))
def a1R (table:(List (ByteArray×(List Solve_Way)))×(List (ByteArray×Int)))(l:List Api_Goal):Option (Int×Bool) :=
 Option.bind (y2 (a79 table l) ((l.length:Int).toNat+1) (0,0)) fun (b4:Sum Int (Int×Bool)) =>
 k9 (fun x5 =>
 some (x5,true)) (fun y6 =>
 some (y6.1,y6.2)) b4
def b2i (table:(List (ByteArray×(List Solve_Way)))×(List (ByteArray×Int)))(l:List Api_EntryForm)(x1:Int×Bool×Int×((List Api_Goal)×Bool×(List Int)×(List Int)×Bool)):Option (Fl (Int×Bool×Int×((List Api_Goal)×Bool×(List Int)×(List Int)×Bool)) (Int×Bool×((List Api_Goal)×Bool×(List Int)×(List Int)×Bool))) :=
 bif decide (x1.2.2.1<(l.length:Int))
 then (Option.bind (idx l x1.2.2.1) fun e2 =>
 Option.bind (a8A e2) fun r3 =>
 Option.bind (a1R (table.1,table.2) r3) fun r4 =>
 Option.bind (bif r4.2
 then (Option.bind (bif !x1.2.1
 then (some true)
 else (some (decide (r4.1<x1.1)))) fun q5 =>
 some q5)
 else (some false)) fun q6 =>
 bif q6
 then (some (.next (r4.1,true,wr .i64 (x1.2.2.1+1),(e2.Args,e2.Fails,e2.Result.Pos,e2.Result.Neg,e2.Result.Lists))))
 else (some (.next (x1.1,x1.2.1,wr .i64 (x1.2.2.1+1),(x1.2.2.2.1,x1.2.2.2.2.1,x1.2.2.2.2.2.1,x1.2.2.2.2.2.2.1,x1.2.2.2.2.2.2.2)))))
 else (some (.done (x1.1,x1.2.1,(x1.2.2.2.1,x1.2.2.2.2.1,x1.2.2.2.2.2.1,x1.2.2.2.2.2.2.1,x1.2.2.2.2.2.2.2))))
def a7r (table:(List (ByteArray×(List Solve_Way)))×(List (ByteArray×Int)))(l:List Api_EntryForm):Option (Api_EntryForm×Int×Bool) :=
 Option.bind (y2 (b2i table l) ((l.length:Int).toNat+1) (0,false,0,(([]:List Api_Goal),false,([]:List Int),([]:List Int),false))) fun b7 =>
 some (Api_EntryForm.mk b7.2.2.1 b7.2.2.2.1 (Api_Goal.mk b7.2.2.2.2.1 b7.2.2.2.2.2.1 b7.2.2.2.2.2.2),b7.1,b7.2.1)
def a9u (table:(List (ByteArray×(List Solve_Way)))×(List (ByteArray×Int)))(w:Solve_Way)(x2:Int×Int):Option (Fl (Int×Int) (Sum Int Int)) :=
 bif decide (x2.2<(w.Entries.length:Int))
 then (Option.bind (idx w.Entries x2.2) fun e3 =>
 Option.bind (a7r (table.1,table.2) e3) fun r4 =>
 bif !r4.2.2
 then (some (.done (.inr 0)))
 else (some (.next (max x2.1 r4.2.1,wr .i64 (x2.2+1)))))
 else (some (.done (.inl x2.1)))
def a2u (table:(List (ByteArray×(List Solve_Way)))×(List (ByteArray×Int)))(w:Solve_Way):Option Int :=
 Option.bind (a1R (table.1,table.2) w.Alternative.Subgoals) fun r1 =>
 bif !r1.2
 then (some 0)
 else (Option.bind (y2 (a9u table w) ((w.Entries.length:Int).toNat+1) (r1.1,0)) fun b5 =>
 k9 (fun x6 =>
 some (wr .i64 (x6+1))) (fun y7 =>
 some y7) b5)
def a4M (w:Solve_Way)(a1_1:(List (ByteArray×(List Solve_Way)))×(List (ByteArray×Int))):Option (Bool×Unit) :=
 Option.bind (a2u (a1_1.1,a1_1.2) w) fun r1 =>
 some (decide (0<r1),())
def b1k (table:(List (ByteArray×(List Solve_Way)))×(List (ByteArray×Int)))(order:List ByteArray)(x1:(List ByteArray)×Int):Option (Fl ((List ByteArray)×Int) (List ByteArray)) :=
 bif decide (x1.2<(order.length:Int))
 then (Option.bind (idx order x1.2) fun e2 =>
 bif decide (0<((a0h table.2 e2).getD (0:Int)))
 then (some (.next (x1.1,wr .i64 (x1.2+1))))
 else (Option.bind (a0f ((a0h table.1 e2).getD ([]:List Solve_Way)) (fun z3 =>
 Option.bind (a4M z3 (table.1,table.2)) fun r4 =>
 some r4.1)) fun r5 =>
 bif r5
 then (Option.bind (Y4 (x1.1.length+([e2]:List ByteArray).length) 16) fun _ =>
 some (.next (x1.1++([e2]:List ByteArray),wr .i64 (x1.2+1))))
 else (some (.next (x1.1,wr .i64 (x1.2+1))))))
 else (some (.done x1.1))
def b1R (height:Int)(b7:List ByteArray)(x10:Int×(List (ByteArray×Int))):Option (Fl (Int×(List (ByteArray×Int))) (Unit×(List (ByteArray×Int)))) :=
 bif decide (x10.1<(b7.length:Int))
 then (Option.bind (idx b7 x10.1) fun e11 =>
 some (.next (wr .i64 (x10.1+1),a19 x10.2 e11 height)))
 else (some (.done ((),x10.2)))
def a59 (table:(List (ByteArray×(List Solve_Way)))×(List (ByteArray×Int)))(order:List ByteArray)(height:Int):Option ((Bool×Unit)×(List (ByteArray×(List Solve_Way)))×(List (ByteArray×Int))) :=
 Option.bind (y2 (b1k table order) ((order.length:Int).toNat+1) ([],0)) fun b7 =>
 Option.bind (y2 (b1R height b7) ((b7.length:Int).toNat+1) (0,table.2)) fun b12 =>
 some ((decide (0<(b7.length:Int)),()),table.1,b12.2)
noncomputable def b5s (r6:List Solve_Way)(x8:(List Api_Goal)×Int):Option (Fl ((List Api_Goal)×Int) (List Api_Goal)) :=
 bif decide (x8.2<(r6.length:Int))
 then (Option.bind (idx r6 x8.2) fun e9 =>
 Option.bind (b0u e9) fun r10 =>
 Option.bind (Y4 (x8.1.length+r10.length) 56) fun _ =>
 some (.next (x8.1++r10,wr .i64 (x8.2+1))))
 else (some (.done x8.1))
noncomputable def b5y (d:Api_Type)(n:Nat)(x1:(List Api_Goal)×(List ByteArray)×((List (ByteArray×(List Solve_Way)))×(List (ByteArray×Int)))):Option (Fl ((List Api_Goal)×(List ByteArray)×((List (ByteArray×(List Solve_Way)))×(List (ByteArray×Int)))) ((List ByteArray)×((List (ByteArray×(List Solve_Way)))×(List (ByteArray×Int))))) :=
 bif decide (0<(x1.1.length:Int))
 then (Option.bind (idx x1.1 (wr .i64 ((x1.1.length:Int)-1))) fun _ =>
 Option.bind (x1.1[(wr .i64 ((x1.1.length:Int)-1)).toNat]?) fun e3 =>
 Option.bind (cut x1.1 0 (wr .i64 ((x1.1.length:Int)-1))) fun y4 =>
 Option.bind (a3E e3) fun r5 =>
 bif (a0h x1.2.2.1 r5).isSome
 then (some (.next (y4,x1.2.1,(x1.2.2.1,x1.2.2.2))))
 else (Option.bind (b6c n d e3) fun r6 =>
 Option.bind (Y4 (x1.2.1.length+([r5]:List ByteArray).length) 16) fun _ =>
 Option.bind (y2 (b5s r6) ((r6.length:Int).toNat+1) (y4,0)) fun b12 =>
 some (.next (b12,x1.2.1++([r5]:List ByteArray),(a19 x1.2.2.1 r5 r6,x1.2.2.2)))))
 else (some (.done (x1.2.1,(x1.2.2.1,x1.2.2.2))))
noncomputable def b5g (b13:(List ByteArray)×((List (ByteArray×(List Solve_Way)))×(List (ByteArray×Int))))(x14:Int×((List (ByteArray×(List Solve_Way)))×(List (ByteArray×Int)))):Option (Fl (Int×((List (ByteArray×(List Solve_Way)))×(List (ByteArray×Int)))) ((List (ByteArray×(List Solve_Way)))×(List (ByteArray×Int)))) :=
 Option.bind (a59 (x14.2.1,x14.2.2) b13.1 x14.1) fun r15 =>
 bif r15.1.1
 then (some (.next (wr .i64 (x14.1+1),(r15.2.1,r15.2.2))))
 else (some (.done (r15.2.1,r15.2.2)))
noncomputable def b1T (n:Nat)(d:Api_Type)(t:Api_Goal):Option ((List (ByteArray×(List Solve_Way)))×(List (ByteArray×Int))) :=
 Option.bind (y2 (b5y d n) n (([t]:List Api_Goal),[],(([]:List (ByteArray×(List Solve_Way))),([]:List (ByteArray×Int))))) fun b13 =>
 Option.bind (y2 (b5g b13) n (1,(b13.2.1,b13.2.2))) fun b16 =>
 some (b16.1,b16.2)
def b4y (l:List Val)(rec_value_clone:Val->Option Val)(x1:(List Val)×Int):Option (Fl ((List Val)×Int) (List Val)) :=
 bif decide (x1.2<(l.length:Int))
 then (Option.bind (idx l x1.2) fun e2 =>
 Option.bind (rec_value_clone e2) fun r3 =>
 Option.bind (Y4 (x1.1.length+([r3]:List Val).length) 128) fun _ =>
 some (.next (x1.1++([r3]:List Val),wr .i64 (x1.2+1))))
 else (some (.done x1.1))
def b0C (l:List Ent)(rec_value_cloneAll:(List Val)->Option (List Val))(rec_value_clone:Val->Option Val)(x1:(List Ent)×Int):Option (Fl ((List Ent)×Int) (List Ent)) :=
 bif decide (x1.2<(l.length:Int))
 then (Option.bind (idx l x1.2) fun _ =>
 Option.bind (l[x1.2.toNat]?) fun e3 =>
 Option.bind (rec_value_cloneAll e3.Args) fun r4 =>
 Option.bind (rec_value_clone e3.Result) fun r5 =>
 Option.bind (Y4 (x1.1.length+([Ent.mk r4 e3.Fails r5]:List Ent).length) 160) fun _ =>
 some (.next (x1.1++([Ent.mk r4 e3.Fails r5]:List Ent),wr .i64 (x1.2+1))))
 else (some (.done x1.1))
def b8E (_:Nat)(_:Val->Option Val)(rec_value_cloneAll:(List Val)->Option (List Val))(rec_value_cloneEntries:(List Ent)->Option (List Ent))(v:Val):Option Val :=
 Option.bind (rec_value_cloneAll v.Kids) fun r1 =>
 Option.bind (Q5 24 v.Keys) fun r2 =>
 Option.bind (Q5 16 v.Labels) fun r3 =>
 Option.bind (rec_value_cloneEntries v.Entries) fun r4 =>
 some (Val.mk v.Kind v.Int_ v.Text r1 r2 r4 r3)
def b5C (_:Nat)(rec_value_clone:Val->Option Val)(_:(List Val)->Option (List Val))(_:(List Ent)->Option (List Ent))(l:List Val):Option (List Val) :=
 Option.bind (y2 (b4y l rec_value_clone) ((l.length:Int).toNat+1) ([],0)) fun b5 =>
 some b5
def b1B (_:Nat)(rec_value_clone:Val->Option Val)(rec_value_cloneAll:(List Val)->Option (List Val))(_:(List Ent)->Option (List Ent))(l:List Ent):Option (List Ent) :=
 Option.bind (y2 (b0C l rec_value_cloneAll rec_value_clone) ((l.length:Int).toNat+1) ([],0)) fun b7 =>
 some b7
def Q2:Nat->(Val->Option Val)×((List Val)->Option (List Val))×((List Ent)->Option (List Ent))
 | 0=>(fun _=>none,fun _=>none,fun _=>none)
 | n+1=>(b8E n ((Q2 n).1) ((Q2 n).2.1) ((Q2 n).2.2),b5C n ((Q2 n).1) ((Q2 n).2.1) ((Q2 n).2.2),b1B n ((Q2 n).1) ((Q2 n).2.1) ((Q2 n).2.2))
def b4W (n:Nat):Val->Option Val:=(Q2 n).1
def a9s (n:Nat):(List Val)->Option (List Val):=(Q2 n).2.1
def b3w (n:Nat):(List Ent)->Option (List Ent):=(Q2 n).2.2
def a87 (n:Nat)(l:List Val):Option Val :=
 Option.bind (a9s n l) fun r1 =>
 some (Val.mk 6 0 (⟨#[]⟩:ByteArray) r1 ([]:List Key) ([]:List Ent) ([]:List ByteArray))
def a7n (n:Nat)(v:Val)(names:List ByteArray):Option Val :=
 Option.bind (b4W n v) fun r1 =>
 Option.bind (Q5 16 names) fun r2 =>
 Option.bind (b4k r2) fun r3 =>
 Option.bind (V9 r3.2) fun r4 =>
 Option.bind (X5 r4) fun r5 =>
 some (Val.mk r1.Kind r1.Int_ r1.Text r1.Kids r1.Keys r1.Entries r5)
def b6F (kind:Int):Option (Value_used×Bool) :=
 Option.bind (bif kind==1
 then (some (kind==1))
 else (some (kind==4))) fun b1 =>
 bif b1
 then (some (Value_used.mk true false false false false,true))
 else (Option.bind (bif kind==2
 then (some (kind==2))
 else (some (kind==3))) fun b2 =>
 bif b2
 then (some (Value_used.mk false true false false false,true))
 else (bif kind==5
 then (some (Value_used.mk false false false false false,true))
 else (Option.bind (bif kind==6
 then (some (kind==6))
 else (some (kind==7))) fun b3 =>
 bif b3
 then (some (Value_used.mk false false true false false,true))
 else (bif kind==8
 then (some (Value_used.mk false false true true false,true))
 else (bif kind==9
 then (some (Value_used.mk true false false false true,true))
 else (some (Value_used.mk false false false false false,false)))))))
def a6s (l:List ByteArray)(compare:ByteArray->ByteArray->Option Int)(x1:Int):Option (Fl Int (Sum Unit Bool)) :=
 bif decide (x1<(l.length:Int))
 then (Option.bind (idx l (wr .i64 (x1-1))) fun e2 =>
 Option.bind (idx l x1) fun e3 =>
 Option.bind (compare e2 e3) fun r4 =>
 bif decide (0<=r4)
 then (some (.done (.inr false)))
 else (some (.next (wr .i64 (x1+1)))))
 else (some (.done (.inl ())))
def a3g (l:List ByteArray)(compare:ByteArray->ByteArray->Option Int):Option Bool :=
 Option.bind (y2 (a6s l compare) ((l.length:Int).toNat+1) 1) fun b5 =>
 k9 (fun _ =>
 some true) (fun y7 =>
 some y7) b5
def b1G (l:List ByteArray)(x5:Int):Option (Fl Int (Sum Unit Bool)) :=
 bif decide (x5<(l.length:Int))
 then (Option.bind (idx l x5) fun e6 =>
 Option.bind (a3x e6) fun r7 =>
 bif !r7
 then (some (.done (.inr false)))
 else (some (.next (wr .i64 (x5+1)))))
 else (some (.done (.inl ())))
def a6c (l:List ByteArray):Option Bool :=
 Option.bind (a3g l (fun z1 z2 =>
 Option.bind (a1a z1 z2) fun r3 =>
 some r3)) fun r4 =>
 bif !r4
 then (some false)
 else (Option.bind (y2 (b1G l) ((l.length:Int).toNat+1) 0) fun b8 =>
 k9 (fun _ =>
 some true) (fun y10 =>
 some y10) b8)
def a5P (l:List Key)(compare:Key->Key->Option Int)(x1:Int):Option (Fl Int (Sum Unit Bool)) :=
 bif decide (x1<(l.length:Int))
 then (Option.bind (idx l (wr .i64 (x1-1))) fun e2 =>
 Option.bind (idx l x1) fun e3 =>
 Option.bind (compare e2 e3) fun r4 =>
 bif decide (0<=r4)
 then (some (.done (.inr false)))
 else (some (.next (wr .i64 (x1+1)))))
 else (some (.done (.inl ())))
def a2S (l:List Key)(compare:Key->Key->Option Int):Option Bool :=
 Option.bind (y2 (a5P l compare) ((l.length:Int).toNat+1) 1) fun b5 =>
 k9 (fun _ =>
 some true) (fun y7 =>
 some y7) b5
def b4w (v:Val)(x6:Int):Option (Fl Int (Sum Unit Bool)) :=
 bif decide (x6<(v.Keys.length:Int))
 then (Option.bind (idx v.Keys x6) fun e7 =>
 Option.bind (a43 e7) fun r8 =>
 bif !r8
 then (some (.done (.inr false)))
 else (some (.next (wr .i64 (x6+1)))))
 else (some (.done (.inl ())))
def a9M (v:Val):Option Bool :=
 Option.bind (bif (v.Keys.length:Int) != (v.Kids.length:Int)
 then (some true)
 else (Option.bind (a2S v.Keys (fun z1 z2 =>
 Option.bind (a1u z1 z2) fun r3 =>
 some r3)) fun r4 =>
 some (!r4))) fun q5 =>
 bif q5
 then (some false)
 else (Option.bind (y2 (b4w v) ((v.Keys.length:Int).toNat+1) 0) fun b9 =>
 k9 (fun _ =>
 some true) (fun y11 =>
 some y11) b9)
def a4X (l:List Ent)(compare:Ent->Ent->Option Int)(x1:Int):Option (Fl Int (Sum Unit Bool)) :=
 bif decide (x1<(l.length:Int))
 then (Option.bind (idx l (wr .i64 (x1-1))) fun e2 =>
 Option.bind (idx l x1) fun e3 =>
 Option.bind (compare e2 e3) fun r4 =>
 bif decide (0<=r4)
 then (some (.done (.inr false)))
 else (some (.next (wr .i64 (x1+1)))))
 else (some (.done (.inl ())))
def a2i (l:List Ent)(compare:Ent->Ent->Option Int):Option Bool :=
 Option.bind (y2 (a4X l compare) ((l.length:Int).toNat+1) 1) fun b5 =>
 k9 (fun _ =>
 some true) (fun y7 =>
 some y7) b5
def a3L (a:List Val)(b:List Val)(compare:Val->Val->Option Int)(x2:Int):Option (Fl Int (Sum Unit Int)) :=
 bif decide (x2<(a.length:Int))
 then (Option.bind (idx a x2) fun e3 =>
 Option.bind (idx b x2) fun e4 =>
 Option.bind (compare e3 e4) fun r5 =>
 bif r5 != 0
 then (some (.done (.inr r5)))
 else (some (.next (wr .i64 (x2+1)))))
 else (some (.done (.inl ())))
def a1A (a:List Val)(b:List Val)(compare:Val->Val->Option Int):Option Int :=
 Option.bind (X8 (a.length:Int) (b.length:Int)) fun r1 =>
 bif r1 != 0
 then (some r1)
 else (Option.bind (y2 (a3L a b compare) ((a.length:Int).toNat+1) 0) fun b6 =>
 k9 (fun _ =>
 some 0) (fun y8 =>
 some y8) b6)
def a4D (a:List Key)(b:List Key)(compare:Key->Key->Option Int)(x2:Int):Option (Fl Int (Sum Unit Int)) :=
 bif decide (x2<(a.length:Int))
 then (Option.bind (idx a x2) fun e3 =>
 Option.bind (idx b x2) fun e4 =>
 Option.bind (compare e3 e4) fun r5 =>
 bif r5 != 0
 then (some (.done (.inr r5)))
 else (some (.next (wr .i64 (x2+1)))))
 else (some (.done (.inl ())))
def a14 (a:List Key)(b:List Key)(compare:Key->Key->Option Int):Option Int :=
 Option.bind (X8 (a.length:Int) (b.length:Int)) fun r1 =>
 bif r1 != 0
 then (some r1)
 else (Option.bind (y2 (a4D a b compare) ((a.length:Int).toNat+1) 0) fun b6 =>
 k9 (fun _ =>
 some 0) (fun y8 =>
 some y8) b6)
def a3Q (a:List Ent)(b:List Ent)(compare:Ent->Ent->Option Int)(x2:Int):Option (Fl Int (Sum Unit Int)) :=
 bif decide (x2<(a.length:Int))
 then (Option.bind (idx a x2) fun e3 =>
 Option.bind (idx b x2) fun e4 =>
 Option.bind (compare e3 e4) fun r5 =>
 bif r5 != 0
 then (some (.done (.inr r5)))
 else (some (.next (wr .i64 (x2+1)))))
 else (some (.done (.inl ())))
def a1D (a:List Ent)(b:List Ent)(compare:Ent->Ent->Option Int):Option Int :=
 Option.bind (X8 (a.length:Int) (b.length:Int)) fun r1 =>
 bif r1 != 0
 then (some r1)
 else (Option.bind (y2 (a3Q a b compare) ((a.length:Int).toNat+1) 0) fun b6 =>
 k9 (fun _ =>
 some 0) (fun y8 =>
 some y8) b6)
def a5d (a:List ByteArray)(b:List ByteArray)(compare:ByteArray->ByteArray->Option Int)(x2:Int):Option (Fl Int (Sum Unit Int)) :=
 bif decide (x2<(a.length:Int))
 then (Option.bind (idx a x2) fun e3 =>
 Option.bind (idx b x2) fun e4 =>
 Option.bind (compare e3 e4) fun r5 =>
 bif r5 != 0
 then (some (.done (.inr r5)))
 else (some (.next (wr .i64 (x2+1)))))
 else (some (.done (.inl ())))
def a2j (a:List ByteArray)(b:List ByteArray)(compare:ByteArray->ByteArray->Option Int):Option Int :=
 Option.bind (X8 (a.length:Int) (b.length:Int)) fun r1 =>
 bif r1 != 0
 then (some r1)
 else (Option.bind (y2 (a5d a b compare) ((a.length:Int).toNat+1) 0) fun b6 =>
 k9 (fun _ =>
 some 0) (fun y8 =>
 some y8) b6)
def b50 (_:Nat)(_:Val->Val->Option Int)(rec_value_compareEntries:Ent->Ent->Option Int)(rec_value_compareValues:(List Val)->(List Val)->Option Int)(a:Val)(b:Val):Option Int :=
 Option.bind (X8 a.Kind b.Kind) fun r1 =>
 bif r1 != 0
 then (some r1)
 else (Option.bind (a29 a.Int_ b.Int_) fun r2 =>
 bif r2 != 0
 then (some r2)
 else (Option.bind (a1a a.Text b.Text) fun r3 =>
 bif r3 != 0
 then (some r3)
 else (Option.bind (a14 a.Keys b.Keys (fun z4 z5 =>
 Option.bind (a1u z4 z5) fun r6 =>
 some r6)) fun r7 =>
 bif r7 != 0
 then (some r7)
 else (Option.bind (rec_value_compareValues a.Kids b.Kids) fun r8 =>
 bif r8 != 0
 then (some r8)
 else (Option.bind (a1D a.Entries b.Entries (fun z9 z10 =>
 Option.bind (rec_value_compareEntries z9 z10) fun r11 =>
 some r11)) fun r12 =>
 bif r12 != 0
 then (some r12)
 else (Option.bind (a2j a.Labels b.Labels (fun z13 z14 =>
 Option.bind (a1a z13 z14) fun r15 =>
 some r15)) fun r16 =>
 some r16))))))
def a89 (_:Nat)(rec_value_Compare:Val->Val->Option Int)(_:Ent->Ent->Option Int)(rec_value_compareValues:(List Val)->(List Val)->Option Int)(a:Ent)(b:Ent):Option Int :=
 Option.bind (rec_value_compareValues a.Args b.Args) fun r1 =>
 bif r1 != 0
 then (some r1)
 else (bif a.Fails != b.Fails
 then (bif a.Fails
 then (some (-1))
 else (some 1))
 else (Option.bind (rec_value_Compare a.Result b.Result) fun r2 =>
 some r2))
def a9O (_:Nat)(rec_value_Compare:Val->Val->Option Int)(_:Ent->Ent->Option Int)(_:(List Val)->(List Val)->Option Int)(a:List Val)(b:List Val):Option Int :=
 Option.bind (a1A a b (fun z1 z2 =>
 Option.bind (rec_value_Compare z1 z2) fun r3 =>
 some r3)) fun r4 =>
 some r4
def Y6:Nat->(Val->Val->Option Int)×(Ent->Ent->Option Int)×((List Val)->(List Val)->Option Int)
 | 0=>(fun _ _=>none,fun _ _=>none,fun _ _=>none)
 | n+1=>(b50 n ((Y6 n).1) ((Y6 n).2.1) ((Y6 n).2.2),a89 n ((Y6 n).1) ((Y6 n).2.1) ((Y6 n).2.2),a9O n ((Y6 n).1) ((Y6 n).2.1) ((Y6 n).2.2))
def b1W (n:Nat):Val->Val->Option Int:=(Y6 n).1
def a3T (n:Nat):Ent->Ent->Option Int:=(Y6 n).2.1
def b2u (n:Nat):(List Val)->(List Val)->Option Int:=(Y6 n).2.2
def b4U (n:Nat)(a:Val)(b:Val):Option Bool :=
 Option.bind (b1W n a b) fun r1 =>
 some (r1==0)
def b2M (n:Nat)(v:Val):Option Bool :=
 Option.bind (b4U n v (Val.mk 0 0 (⟨#[]⟩:ByteArray) ([]:List Val) ([]:List Key) ([]:List Ent) ([]:List ByteArray))) fun r1 =>
 some r1
def a7a (n:Nat)(e:Ent)(arity:Int):Option Bool :=
 Option.bind (bif (e.Args.length:Int)==arity
 then (Option.bind (bif !e.Fails
 then (some true)
 else (Option.bind (b2M n e.Result) fun r1 =>
 some r1)) fun q2 =>
 some q2)
 else (some false)) fun q3 =>
 some q3
def a8O (v:Val)(n:Nat)(x7:Int):Option (Fl Int (Sum Unit Bool)) :=
 bif decide (x7<(v.Entries.length:Int))
 then (Option.bind (idx v.Entries x7) fun e8 =>
 Option.bind (a7a n e8 v.Int_) fun r9 =>
 bif !r9
 then (some (.done (.inr false)))
 else (some (.next (wr .i64 (x7+1)))))
 else (some (.done (.inl ())))
def a4K (n:Nat)(v:Val):Option Bool :=
 Option.bind (bif decide (v.Int_<0)
 then (some true)
 else (some (decide (4<v.Int_)))) fun q1 =>
 Option.bind (bif q1
 then (some true)
 else (Option.bind (a2i v.Entries (fun z2 z3 =>
 Option.bind (a3T n z2 z3) fun r4 =>
 some r4)) fun r5 =>
 some (!r5))) fun q6 =>
 bif q6
 then (some false)
 else (Option.bind (y2 (a8O v n) ((v.Entries.length:Int).toNat+1) 0) fun b10 =>
 k9 (fun _ =>
 some true) (fun y12 =>
 some y12) b10)
def a8f (n:Nat)(d:Val):Option Bool :=
 Option.bind (b6F d.Kind) fun r1 =>
 Option.bind (bif !r1.2
 then (some true)
 else (Option.bind (a6c d.Labels) fun r2 =>
 some (!r2))) fun q3 =>
 bif q3
 then (some false)
 else (Option.bind (bif !r1.1.number
 then (some (d.Int_ != 0))
 else (some false)) fun q4 =>
 Option.bind (bif q4
 then (some true)
 else (Option.bind (bif !r1.1.text_
 then (some (!(K8 d.Text (⟨#[]⟩:ByteArray))))
 else (some false)) fun q5 =>
 some q5)) fun q6 =>
 Option.bind (bif q6
 then (some true)
 else (Option.bind (bif !r1.1.kids
 then (some (decide (0<(d.Kids.length:Int))))
 else (some false)) fun q7 =>
 some q7)) fun q8 =>
 Option.bind (bif q8
 then (some true)
 else (Option.bind (bif !r1.1.keys
 then (some (decide (0<(d.Keys.length:Int))))
 else (some false)) fun q9 =>
 some q9)) fun q10 =>
 Option.bind (bif q10
 then (some true)
 else (Option.bind (bif !r1.1.entries
 then (some (decide (0<(d.Entries.length:Int))))
 else (some false)) fun q11 =>
 some q11)) fun q12 =>
 bif q12
 then (some false)
 else (bif d.Kind==2
 then (some (decide ((d.Text.size:Int)<=64)))
 else (bif d.Kind==3
 then (Option.bind (a4u d.Text) fun r13 =>
 some r13)
 else (bif d.Kind==4
 then (some (decide (0<=d.Int_)))
 else (bif d.Kind==6
 then (some (decide ((d.Kids.length:Int)<=4)))
 else (bif d.Kind==7
 then (Option.bind (bif (d.Kids.length:Int)==2
 then (Option.bind (idx d.Kids 1) fun e14 =>
 Option.bind (bif e14.Kind==5
 then (some true)
 else (Option.bind (idx d.Kids 1) fun e15 =>
 some (e15.Kind==7))) fun q16 =>
 some q16)
 else (some false)) fun q17 =>
 some q17)
 else (bif d.Kind==8
 then (Option.bind (a9M d) fun r18 =>
 some r18)
 else (bif d.Kind==9
 then (Option.bind (a4K n d) fun r19 =>
 some r19)
 else (some true)))))))))
def b7q (v:Val)(x2:(List Val)×Int):Option (Fl ((List Val)×Int) (List Val)) :=
 bif decide (x2.2<(v.Entries.length:Int))
 then (Option.bind (idx v.Entries x2.2) fun e3 =>
 Option.bind (Y4 (x2.1.length+e3.Args.length) 128) fun _ =>
 bif !e3.Fails
 then (Option.bind (Y4 ((x2.1++e3.Args).length+([e3.Result]:List Val).length) 128) fun _ =>
 some (.next ((x2.1++e3.Args)++([e3.Result]:List Val),wr .i64 (x2.2+1))))
 else (some (.next (x2.1++e3.Args,wr .i64 (x2.2+1)))))
 else (some (.done x2.1))
def b4Y (v:Val):Option (List Val) :=
 Option.bind (Q5 128 v.Kids) fun r1 =>
 Option.bind (y2 (b7q v) ((v.Entries.length:Int).toNat+1) (r1,0)) fun b6 =>
 some b6
def b3R (r2:List Val)(rec_value_validTree:Val->Option Bool)(x3:Int):Option (Fl Int (Sum Unit Bool)) :=
 bif decide (x3<(r2.length:Int))
 then (Option.bind (idx r2 x3) fun e4 =>
 Option.bind (rec_value_validTree e4) fun r5 =>
 bif !r5
 then (some (.done (.inr false)))
 else (some (.next (wr .i64 (x3+1)))))
 else (some (.done (.inl ())))
def b4Q (n:Nat)(rec_value_validTree:Val->Option Bool)(v:Val):Option Bool :=
 Option.bind (a8f n v) fun r1 =>
 bif !r1
 then (some false)
 else (Option.bind (b4Y v) fun r2 =>
 Option.bind (y2 (b3R r2 rec_value_validTree) ((r2.length:Int).toNat+1) 0) fun b6 =>
 k9 (fun _ =>
 some true) (fun y8 =>
 some y8) b6)
def a3Z:Nat->Val->Option Bool
 | 0=>fun _=>none
 | n+1=>b4Q n (a3Z n)
def a9U (n:Nat)(v:Val):Option Int :=
 Option.bind (a3Z n v) fun r1 =>
 bif !r1
 then (some 1)
 else (some 0)
def b76 (n:Nat)(d:Api_Alternative)(t:List Val):Option (Val×Int) :=
 bif (t.length:Int) != (d.Subgoals.length:Int)
 then (some (Val.mk 0 0 (⟨#[]⟩:ByteArray) ([]:List Val) ([]:List Key) ([]:List Ent) ([]:List ByteArray),1))
 else (Option.bind (bif d.Leaf.Kind==6
 then (Option.bind (a87 n t) fun r1 =>
 some (.inl ((0,0,(⟨#[]⟩:ByteArray),[],[],[],[]),(r1.Kind,r1.Int_,r1.Text,r1.Kids,r1.Keys,r1.Entries,r1.Labels))))
 else (bif d.Leaf.Kind==7
 then (Option.bind (a87 n t) fun r2 =>
 some (.inl ((0,0,(⟨#[]⟩:ByteArray),[],[],[],[]),(7,r2.Int_,r2.Text,r2.Kids,r2.Keys,r2.Entries,r2.Labels))))
 else (bif d.Leaf.Kind==8
 then (bif (d.Keys.length:Int) != (t.length:Int)
 then (some (.inr (1,(0,0,(⟨#[]⟩:ByteArray),[],[],[],[]),(0,0,(⟨#[]⟩:ByteArray),([]:List Val),([]:List Key),([]:List Ent),([]:List ByteArray)))))
 else (none))
 else (bif d.Leaf.Kind==9
 then (none)
 else (Option.bind (a7n n d.Leaf ([]:List ByteArray)) fun r3 =>
 some (.inl ((0,0,(⟨#[]⟩:ByteArray),[],[],[],[]),(r3.Kind,r3.Int_,r3.Text,r3.Kids,r3.Keys,r3.Entries,r3.Labels)))))))) fun (b4:Sum ((Int×Int×ByteArray×(List Val)×(List Key)×(List Ent)×(List ByteArray))×(Int×Int×ByteArray×(List Val)×(List Key)×(List Ent)×(List ByteArray))) (Int×(Int×Int×ByteArray×(List Val)×(List Key)×(List Ent)×(List ByteArray))×(Int×Int×ByteArray×(List Val)×(List Key)×(List Ent)×(List ByteArray)))) =>
 k9 (fun x5 =>
 Option.bind (Q5 16 d.Leaf.Labels) fun r7 =>
 Option.bind (a9U n (Val.mk x5.2.1 x5.2.2.1 x5.2.2.2.1 x5.2.2.2.2.1 x5.2.2.2.2.2.1 x5.2.2.2.2.2.2.1 r7)) fun r8 =>
 bif r8 != 0
 then (some (Val.mk 0 0 (⟨#[]⟩:ByteArray) ([]:List Val) ([]:List Key) ([]:List Ent) ([]:List ByteArray),1))
 else (some (Val.mk x5.2.1 x5.2.2.1 x5.2.2.2.1 x5.2.2.2.2.1 x5.2.2.2.2.2.1 x5.2.2.2.2.2.2.1 r7,0))) (fun y6 =>
 some (Val.mk y6.2.1.1 y6.2.1.2.1 y6.2.1.2.2.1 y6.2.1.2.2.2.1 y6.2.1.2.2.2.2.1 y6.2.1.2.2.2.2.2.1 y6.2.1.2.2.2.2.2.2,y6.1)) b4)
def b7l (table:(List (ByteArray×(List Solve_Way)))×(List (ByteArray×Int)))(l:List Api_Goal)(rec_witness_build:((List (ByteArray×(List Solve_Way)))×(List (ByteArray×Int)))->ByteArray->Option Val)(x1:(List Val)×Int):Option (Fl ((List Val)×Int) (List Val)) :=
 bif decide (x1.2<(l.length:Int))
 then (Option.bind (idx l x1.2) fun e2 =>
 Option.bind (a3E e2) fun r3 =>
 Option.bind (rec_witness_build (table.1,table.2) r3) fun r4 =>
 Option.bind (Y4 (x1.1.length+([r4]:List Val).length) 128) fun _ =>
 some (.next (x1.1++([r4]:List Val),wr .i64 (x1.2+1))))
 else (some (.done x1.1))
def b5E (table:(List (ByteArray×(List Solve_Way)))×(List (ByteArray×Int)))(key:ByteArray)(rec_witness_all:((List (ByteArray×(List Solve_Way)))×(List (ByteArray×Int)))->(List Api_Goal)->Option (List Val))(n:Nat)(x1:Int×(Int×Int×ByteArray×(List Val)×(List Key)×(List Ent)×(List ByteArray))):Option (Fl (Int×(Int×Int×ByteArray×(List Val)×(List Key)×(List Ent)×(List ByteArray))) (Sum (Int×Int×ByteArray×(List Val)×(List Key)×(List Ent)×(List ByteArray)) (Int×Int×ByteArray×(List Val)×(List Key)×(List Ent)×(List ByteArray)))) :=
 bif decide (x1.1<(((a0h table.1 key).getD ([]:List Solve_Way)).length:Int))
 then (Option.bind (idx ((a0h table.1 key).getD ([]:List Solve_Way)) x1.1) fun e2 =>
 Option.bind (a2u (table.1,table.2) e2) fun r3 =>
 bif r3 != ((a0h table.2 key).getD (0:Int))
 then (some (.next (wr .i64 (x1.1+1),(x1.2.1,x1.2.2.1,x1.2.2.2.1,x1.2.2.2.2.1,x1.2.2.2.2.2.1,x1.2.2.2.2.2.2.1,x1.2.2.2.2.2.2.2))))
 else (bif e2.Alternative.Leaf.Kind==9
 then (none)
 else (Option.bind (rec_witness_all (table.1,table.2) e2.Alternative.Subgoals) fun r4 =>
 Option.bind (b76 n e2.Alternative r4) fun r5 =>
 some (.done (.inr (r5.1.Kind,r5.1.Int_,r5.1.Text,r5.1.Kids,r5.1.Keys,r5.1.Entries,r5.1.Labels))))))
 else (some (.done (.inl (x1.2.1,x1.2.2.1,x1.2.2.2.1,x1.2.2.2.2.1,x1.2.2.2.2.2.1,x1.2.2.2.2.2.2.1,x1.2.2.2.2.2.2.2))))
def b8s (_:Nat)(_:((List (ByteArray×(List Solve_Way)))×(List (ByteArray×Int)))->(List Api_Goal)->Option (List Val))(rec_witness_build:((List (ByteArray×(List Solve_Way)))×(List (ByteArray×Int)))->ByteArray->Option Val)(table:(List (ByteArray×(List Solve_Way)))×(List (ByteArray×Int)))(l:List Api_Goal):Option (List Val) :=
 Option.bind (y2 (b7l table l rec_witness_build) ((l.length:Int).toNat+1) ([],0)) fun b6 =>
 some b6
def b6O (n:Nat)(rec_witness_all:((List (ByteArray×(List Solve_Way)))×(List (ByteArray×Int)))->(List Api_Goal)->Option (List Val))(_:((List (ByteArray×(List Solve_Way)))×(List (ByteArray×Int)))->ByteArray->Option Val)(table:(List (ByteArray×(List Solve_Way)))×(List (ByteArray×Int)))(key:ByteArray):Option Val :=
 Option.bind (y2 (b5E table key rec_witness_all n) ((((a0h table.1 key).getD ([]:List Solve_Way)).length:Int).toNat+1) (0,(0,0,(⟨#[]⟩:ByteArray),([]:List Val),([]:List Key),([]:List Ent),([]:List ByteArray)))) fun (b6:Sum (Int×Int×ByteArray×(List Val)×(List Key)×(List Ent)×(List ByteArray)) (Int×Int×ByteArray×(List Val)×(List Key)×(List Ent)×(List ByteArray))) =>
 k9 (fun _ =>
 some (Val.mk 0 0 (⟨#[]⟩:ByteArray) ([]:List Val) ([]:List Key) ([]:List Ent) ([]:List ByteArray))) (fun y8 =>
 some (Val.mk y8.1 y8.2.1 y8.2.2.1 y8.2.2.2.1 y8.2.2.2.2.1 y8.2.2.2.2.2.1 y8.2.2.2.2.2.2)) b6
def a0B:Nat->(((List (ByteArray×(List Solve_Way)))×(List (ByteArray×Int)))->(List Api_Goal)->Option (List Val))×(((List (ByteArray×(List Solve_Way)))×(List (ByteArray×Int)))->ByteArray->Option Val)
 | 0=>(fun _ _=>none,fun _ _=>none)
 | n+1=>(b8s n ((a0B n).1) ((a0B n).2),b6O n ((a0B n).1) ((a0B n).2))
def c0m (n:Nat):((List (ByteArray×(List Solve_Way)))×(List (ByteArray×Int)))->(List Api_Goal)->Option (List Val):=(a0B n).1
def b1Y (n:Nat):((List (ByteArray×(List Solve_Way)))×(List (ByteArray×Int)))->ByteArray->Option Val:=(a0B n).2
noncomputable def b1U (n:Nat)(t:Api_Type)(g:Api_Goal):Option (Val×Int) :=
 Option.bind (a04 n t) fun r1 =>
 Option.bind (bif r1 != 0
 then (some true)
 else (Option.bind (a80 t g) fun r2 =>
 some (!r2))) fun q3 =>
 bif q3
 then (some (Val.mk 0 0 (⟨#[]⟩:ByteArray) ([]:List Val) ([]:List Key) ([]:List Ent) ([]:List ByteArray),1))
 else (Option.bind (b1T n t g) fun r4 =>
 Option.bind (a3E g) fun r5 =>
 bif ((a0h r4.2 r5).getD (0:Int))==0
 then (some (Val.mk 0 0 (⟨#[]⟩:ByteArray) ([]:List Val) ([]:List Key) ([]:List Ent) ([]:List ByteArray),10))
 else (bif decide (6<((a0h r4.2 r5).getD (0:Int)))
 then (some (Val.mk 0 0 (⟨#[]⟩:ByteArray) ([]:List Val) ([]:List Key) ([]:List Ent) ([]:List ByteArray),2))
 else (Option.bind (a3E g) fun r6 =>
 Option.bind (b1Y n (r4.1,r4.2) r6) fun r7 =>
 some (r7,0))))
noncomputable def a2R (n:Nat)(t:Api_Type):Option (Val×Int) :=
 Option.bind (b1U n t (Api_Goal.mk ([t.Root]:List Int) ([]:List Int) false)) fun r1 =>
 some (r1.1,r1.2)
noncomputable def a2r (n:Nat):Option Bool :=
 Option.bind (a2R n (Api_Type.mk ([Api_TypeNode.mk 10 0 0 (⟨#[]⟩:ByteArray) ([1]:List Int) ([]:List Api_Field) (0,0),Api_TypeNode.mk 9 0 0 (⟨#[]⟩:ByteArray) ([]:List Int) ([]:List Api_Field) (0,0)]:List Api_TypeNode) 0)) fun r1 =>
 Option.bind (a2R n (Api_Type.mk ([Api_TypeNode.mk 1 0 0 (⟨#[]⟩:ByteArray) ([]:List Int) ([]:List Api_Field) (0,0)]:List Api_TypeNode) 0)) fun r2 =>
 Option.bind (bif r1.2==0
 then (some (r1.1.Kind==6))
 else (some false)) fun q3 =>
 Option.bind (bif q3
 then (some ((r1.1.Kids.length:Int)==1))
 else (some false)) fun q4 =>
 Option.bind (bif q4
 then (Option.bind (idx r1.1.Kids 0) fun e5 =>
 some (e5.Kind==5))
 else (some false)) fun q6 =>
 Option.bind (bif q6
 then (some (r2.2==10))
 else (some false)) fun q7 =>
 some q7
def b0y (v:Val)(rec_semtyperef1_Height:Val->Option Int)(x1:Int×Int):Option (Fl (Int×Int) Int) :=
 bif decide (x1.2<(v.Kids.length:Int))
 then (Option.bind (idx v.Kids x1.2) fun e2 =>
 Option.bind (rec_semtyperef1_Height e2) fun r3 =>
 some (.next (max x1.1 r3,wr .i64 (x1.2+1))))
 else (some (.done x1.1))
def b0t (rec_semtyperef1_Height:Val->Option Int)(e6:Ent)(x7:Int×Int):Option (Fl (Int×Int) Int) :=
 bif decide (x7.2<(e6.Args.length:Int))
 then (Option.bind (idx e6.Args x7.2) fun e8 =>
 Option.bind (rec_semtyperef1_Height e8) fun r9 =>
 some (.next (max x7.1 r9,wr .i64 (x7.2+1))))
 else (some (.done x7.1))
def b0s (v:Val)(rec_semtyperef1_Height:Val->Option Int)(x5:Int×Int):Option (Fl (Int×Int) Int) :=
 bif decide (x5.2<(v.Entries.length:Int))
 then (Option.bind (Option.bind (idx v.Entries x5.2) fun e6 =>
 Option.bind (y2 (b0t rec_semtyperef1_Height e6) ((e6.Args.length:Int).toNat+1) (x5.1,0)) fun b10 =>
 bif !e6.Fails
 then (Option.bind (rec_semtyperef1_Height e6.Result) fun r11 =>
 some (max b10 r11))
 else (some b10)) fun b12 =>
 some (.next (b12,wr .i64 (x5.2+1))))
 else (some (.done x5.1))
def b1F (_:Nat)(rec_semtyperef1_Height:Val->Option Int)(v:Val):Option Int :=
 Option.bind (y2 (b0y v rec_semtyperef1_Height) ((v.Kids.length:Int).toNat+1) (0,0)) fun b4 =>
 Option.bind (y2 (b0s v rec_semtyperef1_Height) ((v.Entries.length:Int).toNat+1) (b4,0)) fun b13 =>
 some (wr .i64 (b13+1))
def a2A:Nat->Val->Option Int
 | 0=>fun _=>none
 | n+1=>b1F n (a2A n)
def a2W (c:Int):Option Bool :=
 Option.bind (bif decide (65<=c)
 then (some (decide (c<=90)))
 else (some false)) fun q1 =>
 some q1
def a1v (c:Int):Option Bool :=
 Option.bind (bif decide (97<=c)
 then (some (decide (c<=122)))
 else (some false)) fun q1 =>
 some q1
def a27 (c:Int):Option Bool :=
 Option.bind (bif decide (48<=c)
 then (some (decide (c<=57)))
 else (some false)) fun q1 =>
 some q1
def a6j (s:ByteArray)(x5:Int):Option (Fl Int (Sum Unit Bool)) :=
 bif decide (x5<(s.size:Int))
 then (Option.bind (a4w s x5) fun e6 =>
 Option.bind (a1v (e6.toNat:Int)) fun r7 =>
 Option.bind (bif !r7
 then (Option.bind (a4w s x5) fun e8 =>
 Option.bind (a2W (e8.toNat:Int)) fun r9 =>
 some (!r9))
 else (some false)) fun q10 =>
 Option.bind (bif q10
 then (Option.bind (a4w s x5) fun e11 =>
 Option.bind (a27 (e11.toNat:Int)) fun r12 =>
 some (!r12))
 else (some false)) fun q13 =>
 Option.bind (bif q13
 then (Option.bind (a4w s x5) fun e14 =>
 some ((e14.toNat:Int) != 95))
 else (some false)) fun q15 =>
 bif q15
 then (some (.done (.inr false)))
 else (some (.next (wr .i64 (x5+1)))))
 else (some (.done (.inl ())))
def a1m (s:ByteArray):Option Bool :=
 Option.bind (bif decide ((s.size:Int)<1)
 then (some true)
 else (some (decide (16<(s.size:Int))))) fun q1 =>
 Option.bind (bif q1
 then (some true)
 else (Option.bind (a4w s 0) fun e2 =>
 Option.bind (a2W (e2.toNat:Int)) fun r3 =>
 some (!r3))) fun q4 =>
 bif q4
 then (some false)
 else (Option.bind (y2 (a6j s) ((s.size:Int).toNat+1) 1) fun b16 =>
 k9 (fun _ =>
 some true) (fun y18 =>
 some y18) b16)
def b0F (s:ByteArray)(x5:Int):Option (Fl Int (Sum Unit Bool)) :=
 bif decide (x5<(s.size:Int))
 then (Option.bind (a4w s x5) fun e6 =>
 Option.bind (a1v (e6.toNat:Int)) fun r7 =>
 Option.bind (bif !r7
 then (Option.bind (a4w s x5) fun e8 =>
 Option.bind (a27 (e8.toNat:Int)) fun r9 =>
 some (!r9))
 else (some false)) fun q10 =>
 Option.bind (bif q10
 then (Option.bind (a4w s x5) fun e11 =>
 some ((e11.toNat:Int) != 95))
 else (some false)) fun q12 =>
 bif q12
 then (some (.done (.inr false)))
 else (some (.next (wr .i64 (x5+1)))))
 else (some (.done (.inl ())))
def a08 (s:ByteArray):Option Bool :=
 Option.bind (bif decide ((s.size:Int)<1)
 then (some true)
 else (some (decide (16<(s.size:Int))))) fun q1 =>
 Option.bind (bif q1
 then (some true)
 else (Option.bind (a4w s 0) fun e2 =>
 Option.bind (a1v (e2.toNat:Int)) fun r3 =>
 some (!r3))) fun q4 =>
 bif q4
 then (some false)
 else (Option.bind (y2 (b0F s) ((s.size:Int).toNat+1) 1) fun b13 =>
 k9 (fun _ =>
 some true) (fun y15 =>
 some y15) b13)
def a1W (k:Key):Option Bool :=
 Option.bind (bif k.Kind==0
 then (Option.bind (a08 k.Text) fun r1 =>
 some r1)
 else (some false)) fun q2 =>
 Option.bind (bif q2
 then (some true)
 else (Option.bind (bif k.Kind==1
 then (some (decide ((k.Text.size:Int)<=64)))
 else (some false)) fun q3 =>
 some q3)) fun q4 =>
 some q4
def a1s (a:Int)(b:Int):Option Int :=
 bif decide (a<b)
 then (some (-1))
 else (bif decide (b<a)
 then (some 1)
 else (some 0))
def a1V (a:ByteArray)(b:ByteArray):Option Int :=
 bif a1r a b
 then (some (-1))
 else (bif !(a1r a b||K8 a b)
 then (some 1)
 else (some 0))
def a0j (a:Key)(b:Key):Option Int :=
 bif a.Kind != b.Kind
 then (Option.bind (a1s a.Kind b.Kind) fun r1 =>
 some r1)
 else (Option.bind (a1V a.Text b.Text) fun r2 =>
 some r2)
def a0e (a:Int)(b:Int):Option Int :=
 Option.bind (a1s a b) fun r1 =>
 some r1
def a9h (d:Val)(t:Val)(x5:Int):Option (Fl Int (Sum Unit Int)) :=
 bif decide (x5<(d.Keys.length:Int))
 then (Option.bind (idx d.Keys x5) fun e6 =>
 Option.bind (idx t.Keys x5) fun e7 =>
 Option.bind (a0j e6 e7) fun r8 =>
 bif r8 != 0
 then (some (.done (.inr r8)))
 else (some (.next (wr .i64 (x5+1)))))
 else (some (.done (.inl ())))
def a8G (d:Val)(t:Val)(rec_semtyperef1_CompareEntries:Ent->Ent->Option Int)(x14:Int):Option (Fl Int (Sum Unit Int)) :=
 bif decide (x14<(d.Entries.length:Int))
 then (Option.bind (idx d.Entries x14) fun e15 =>
 Option.bind (idx t.Entries x14) fun e16 =>
 Option.bind (rec_semtyperef1_CompareEntries e15 e16) fun r17 =>
 bif r17 != 0
 then (some (.done (.inr r17)))
 else (some (.next (wr .i64 (x14+1)))))
 else (some (.done (.inl ())))
def a8H (d:Val)(t:Val)(x22:Int):Option (Fl Int (Sum Unit Int)) :=
 bif decide (x22<(d.Labels.length:Int))
 then (Option.bind (idx d.Labels x22) fun e23 =>
 Option.bind (idx t.Labels x22) fun e24 =>
 Option.bind (a1V e23 e24) fun r25 =>
 bif r25 != 0
 then (some (.done (.inr r25)))
 else (some (.next (wr .i64 (x22+1)))))
 else (some (.done (.inl ())))
def a9v (a:List Val)(b:List Val)(rec_semtyperef1_Compare:Val->Val->Option Int)(x2:Int):Option (Fl Int (Sum Unit Int)) :=
 bif decide (x2<(a.length:Int))
 then (Option.bind (idx a x2) fun e3 =>
 Option.bind (idx b x2) fun e4 =>
 Option.bind (rec_semtyperef1_Compare e3 e4) fun r5 =>
 bif r5 != 0
 then (some (.done (.inr r5)))
 else (some (.next (wr .i64 (x2+1)))))
 else (some (.done (.inl ())))
def a99 (_:Nat)(_:Val->Val->Option Int)(rec_semtyperef1_values:(List Val)->(List Val)->Option Int)(rec_semtyperef1_CompareEntries:Ent->Ent->Option Int)(d:Val)(t:Val):Option Int :=
 bif d.Kind != t.Kind
 then (Option.bind (a0e d.Kind t.Kind) fun r1 =>
 some r1)
 else (bif d.Int_ != t.Int_
 then (Option.bind (a1s d.Int_ t.Int_) fun r2 =>
 some r2)
 else (bif !(K8 d.Text t.Text)
 then (Option.bind (a1V d.Text t.Text) fun r3 =>
 some r3)
 else (bif (d.Keys.length:Int) != (t.Keys.length:Int)
 then (Option.bind (a0e (d.Keys.length:Int) (t.Keys.length:Int)) fun r4 =>
 some r4)
 else (Option.bind (y2 (a9h d t) ((d.Keys.length:Int).toNat+1) 0) fun b9 =>
 k9 (fun _ =>
 Option.bind (rec_semtyperef1_values d.Kids t.Kids) fun r12 =>
 bif r12 != 0
 then (some r12)
 else (bif (d.Entries.length:Int) != (t.Entries.length:Int)
 then (Option.bind (a0e (d.Entries.length:Int) (t.Entries.length:Int)) fun r13 =>
 some r13)
 else (Option.bind (y2 (a8G d t rec_semtyperef1_CompareEntries) ((d.Entries.length:Int).toNat+1) 0) fun b18 =>
 k9 (fun _ =>
 bif (d.Labels.length:Int) != (t.Labels.length:Int)
 then (Option.bind (a0e (d.Labels.length:Int) (t.Labels.length:Int)) fun r21 =>
 some r21)
 else (Option.bind (y2 (a8H d t) ((d.Labels.length:Int).toNat+1) 0) fun b26 =>
 k9 (fun _ =>
 some 0) (fun y28 =>
 some y28) b26)) (fun y20 =>
 some y20) b18))) (fun y11 =>
 some y11) b9))))
def b0P (_:Nat)(rec_semtyperef1_Compare:Val->Val->Option Int)(_:(List Val)->(List Val)->Option Int)(_:Ent->Ent->Option Int)(a:List Val)(b:List Val):Option Int :=
 bif (a.length:Int) != (b.length:Int)
 then (Option.bind (a0e (a.length:Int) (b.length:Int)) fun r1 =>
 some r1)
 else (Option.bind (y2 (a9v a b rec_semtyperef1_Compare) ((a.length:Int).toNat+1) 0) fun b6 =>
 k9 (fun _ =>
 some 0) (fun y8 =>
 some y8) b6)
def a4U (_:Nat)(rec_semtyperef1_Compare:Val->Val->Option Int)(rec_semtyperef1_values:(List Val)->(List Val)->Option Int)(_:Ent->Ent->Option Int)(a:Ent)(b:Ent):Option Int :=
 Option.bind (rec_semtyperef1_values a.Args b.Args) fun r1 =>
 bif r1 != 0
 then (some r1)
 else (bif a.Fails != b.Fails
 then (bif a.Fails
 then (some (-1))
 else (some 1))
 else (Option.bind (rec_semtyperef1_Compare a.Result b.Result) fun r2 =>
 some r2))
def Z2:Nat->(Val->Val->Option Int)×((List Val)->(List Val)->Option Int)×(Ent->Ent->Option Int)
 | 0=>(fun _ _=>none,fun _ _=>none,fun _ _=>none)
 | n+1=>(a99 n ((Z2 n).1) ((Z2 n).2.1) ((Z2 n).2.2),b0P n ((Z2 n).1) ((Z2 n).2.1) ((Z2 n).2.2),a4U n ((Z2 n).1) ((Z2 n).2.1) ((Z2 n).2.2))
def a4N (n:Nat):Val->Val->Option Int:=(Z2 n).1
def b3B (n:Nat):(List Val)->(List Val)->Option Int:=(Z2 n).2.1
def a12 (n:Nat):Ent->Ent->Option Int:=(Z2 n).2.2
def a6d (n:Nat)(a:Val)(b:Val):Option Bool :=
 Option.bind (a4N n a b) fun r1 =>
 some (r1==0)
def b2y (d:Val)(x1:Int):Option (Fl Int (Sum Unit Bool)) :=
 bif decide (x1<(d.Labels.length:Int))
 then (Option.bind (idx d.Labels x1) fun e2 =>
 Option.bind (a1m e2) fun r3 =>
 Option.bind (bif !r3
 then (some true)
 else (Option.bind (bif decide (0<x1)
 then (Option.bind (idx d.Labels (wr .i64 (x1-1))) fun e4 =>
 Option.bind (idx d.Labels x1) fun e5 =>
 some (!(a1r e4 e5)))
 else (some false)) fun q6 =>
 some q6)) fun q7 =>
 bif q7
 then (some (.done (.inr false)))
 else (some (.next (wr .i64 (x1+1)))))
 else (some (.done (.inl ())))
def b2j (d:Val)(x31:Int):Option (Fl Int (Sum Unit Bool)) :=
 bif decide (x31<(d.Keys.length:Int))
 then (Option.bind (idx d.Keys x31) fun e32 =>
 Option.bind (a1W e32) fun r33 =>
 Option.bind (bif !r33
 then (some true)
 else (Option.bind (bif decide (0<x31)
 then (Option.bind (idx d.Keys (wr .i64 (x31-1))) fun e34 =>
 Option.bind (idx d.Keys x31) fun e35 =>
 Option.bind (a0j e34 e35) fun r36 =>
 some (decide (0<=r36)))
 else (some false)) fun q37 =>
 some q37)) fun q38 =>
 bif q38
 then (some (.done (.inr false)))
 else (some (.next (wr .i64 (x31+1)))))
 else (some (.done (.inl ())))
def b2d (d:Val)(n:Nat)(x43:Int):Option (Fl Int (Sum Unit Bool)) :=
 bif decide (x43<(d.Entries.length:Int))
 then (Option.bind (idx d.Entries x43) fun e44 =>
 Option.bind (bif (e44.Args.length:Int) != d.Int_
 then (some true)
 else (Option.bind (bif e44.Fails
 then (Option.bind (a6d n e44.Result (Val.mk 0 0 (⟨#[]⟩:ByteArray) ([]:List Val) ([]:List Key) ([]:List Ent) ([]:List ByteArray))) fun r45 =>
 some (!r45))
 else (some false)) fun q46 =>
 some q46)) fun q47 =>
 Option.bind (bif q47
 then (some true)
 else (Option.bind (bif decide (0<x43)
 then (Option.bind (idx d.Entries (wr .i64 (x43-1))) fun e48 =>
 Option.bind (a12 n e48 e44) fun r49 =>
 some (decide (0<=r49)))
 else (some false)) fun q50 =>
 some q50)) fun q51 =>
 bif q51
 then (some (.done (.inr false)))
 else (some (.next (wr .i64 (x43+1)))))
 else (some (.done (.inl ())))
def a7G (n:Nat)(d:Val):Option Bool :=
 Option.bind (y2 (b2y d) ((d.Labels.length:Int).toNat+1) 0) fun b8 =>
 k9 (fun _ =>
 Option.bind (bif d.Kind==1
 then (some true)
 else (some (d.Kind==4))) fun q11 =>
 Option.bind (bif q11
 then (some true)
 else (some (d.Kind==9))) fun q12 =>
 Option.bind (bif d.Kind==2
 then (some true)
 else (some (d.Kind==3))) fun q13 =>
 Option.bind (bif d.Kind==6
 then (some true)
 else (some (d.Kind==7))) fun q14 =>
 Option.bind (bif q14
 then (some true)
 else (some (d.Kind==8))) fun q15 =>
 Option.bind (bif !q12
 then (some (d.Int_ != 0))
 else (some false)) fun q16 =>
 Option.bind (bif q16
 then (some true)
 else (Option.bind (bif !q13
 then (some (!(K8 d.Text (⟨#[]⟩:ByteArray))))
 else (some false)) fun q17 =>
 some q17)) fun q18 =>
 Option.bind (bif q18
 then (some true)
 else (Option.bind (bif !q15
 then (some (decide (0<(d.Kids.length:Int))))
 else (some false)) fun q19 =>
 some q19)) fun q20 =>
 Option.bind (bif q20
 then (some true)
 else (Option.bind (bif d.Kind != 8
 then (some (decide (0<(d.Keys.length:Int))))
 else (some false)) fun q21 =>
 some q21)) fun q22 =>
 Option.bind (bif q22
 then (some true)
 else (Option.bind (bif d.Kind != 9
 then (some (decide (0<(d.Entries.length:Int))))
 else (some false)) fun q23 =>
 some q23)) fun q24 =>
 bif q24
 then (some false)
 else (Option.bind (bif d.Kind==1
 then (some (d.Kind==1))
 else (some (d.Kind==5))) fun b25 =>
 bif b25
 then (some true)
 else (bif d.Kind==2
 then (some (decide ((d.Text.size:Int)<=64)))
 else (bif d.Kind==3
 then (Option.bind (a08 d.Text) fun r26 =>
 some r26)
 else (bif d.Kind==4
 then (some (decide (0<=d.Int_)))
 else (bif d.Kind==6
 then (some (decide ((d.Kids.length:Int)<=4)))
 else (bif d.Kind==7
 then (Option.bind (bif (d.Kids.length:Int)==2
 then (Option.bind (idx d.Kids 1) fun e27 =>
 Option.bind (bif e27.Kind==5
 then (some true)
 else (Option.bind (idx d.Kids 1) fun e28 =>
 some (e28.Kind==7))) fun q29 =>
 some q29)
 else (some false)) fun q30 =>
 some q30)
 else (bif d.Kind==8
 then (Option.bind (y2 (b2j d) ((d.Keys.length:Int).toNat+1) 0) fun b39 =>
 k9 (fun _ =>
 some ((d.Keys.length:Int)==(d.Kids.length:Int))) (fun y41 =>
 some y41) b39)
 else (bif d.Kind==9
 then (Option.bind (bif decide (d.Int_<0)
 then (some true)
 else (some (decide (4<d.Int_)))) fun q42 =>
 bif q42
 then (some false)
 else (Option.bind (y2 (b2d d n) ((d.Entries.length:Int).toNat+1) 0) fun b52 =>
 k9 (fun _ =>
 some true) (fun y54 =>
 some y54) b52))
 else (some false)))))))))) (fun y10 =>
 some y10) b8
def b1z (v:Val)(rec_semtyperef1_Valid:Val->Option Bool)(x2:Int):Option (Fl Int (Sum Unit Bool)) :=
 bif decide (x2<(v.Kids.length:Int))
 then (Option.bind (idx v.Kids x2) fun e3 =>
 Option.bind (rec_semtyperef1_Valid e3) fun r4 =>
 bif !r4
 then (some (.done (.inr false)))
 else (some (.next (wr .i64 (x2+1)))))
 else (some (.done (.inl ())))
def b0Z (rec_semtyperef1_Valid:Val->Option Bool)(e9:Ent)(x10:Int):Option (Fl Int (Sum Unit Bool)) :=
 bif decide (x10<(e9.Args.length:Int))
 then (Option.bind (idx e9.Args x10) fun e11 =>
 Option.bind (rec_semtyperef1_Valid e11) fun r12 =>
 bif !r12
 then (some (.done (.inr false)))
 else (some (.next (wr .i64 (x10+1)))))
 else (some (.done (.inl ())))
def b1o (v:Val)(rec_semtyperef1_Valid:Val->Option Bool)(x8:Int):Option (Fl Int (Sum Unit Bool)) :=
 bif decide (x8<(v.Entries.length:Int))
 then (Option.bind (idx v.Entries x8) fun e9 =>
 Option.bind (y2 (b0Z rec_semtyperef1_Valid e9) ((e9.Args.length:Int).toNat+1) 0) fun b13 =>
 k9 (fun _ =>
 Option.bind (bif !e9.Fails
 then (Option.bind (rec_semtyperef1_Valid e9.Result) fun r16 =>
 some (!r16))
 else (some false)) fun q17 =>
 bif q17
 then (some (.done (.inr false)))
 else (some (.next (wr .i64 (x8+1))))) (fun y15 =>
 some (.done (.inr y15))) b13)
 else (some (.done (.inl ())))
def b2v (n:Nat)(rec_semtyperef1_Valid:Val->Option Bool)(v:Val):Option Bool :=
 Option.bind (a7G n v) fun r1 =>
 bif !r1
 then (some false)
 else (Option.bind (y2 (b1z v rec_semtyperef1_Valid) ((v.Kids.length:Int).toNat+1) 0) fun b5 =>
 k9 (fun _ =>
 Option.bind (y2 (b1o v rec_semtyperef1_Valid) ((v.Entries.length:Int).toNat+1) 0) fun b18 =>
 k9 (fun _ =>
 some true) (fun y20 =>
 some y20) b18) (fun y7 =>
 some y7) b5)
def a2Y:Nat->Val->Option Bool
 | 0=>fun _=>none
 | n+1=>b2v n (a2Y n)
def W3 (t:Api_Type)(k:Int):Option Bool :=
 Option.bind (bif decide (0<=k)
 then (some (decide (k<(t.Nodes.length:Int))))
 else (some false)) fun q1 =>
 some q1
def b2b (d:Api_Type)(t:Api_TypeNode)(x1:Int):Option (Fl Int (Sum Unit Bool)) :=
 bif decide (x1<(t.Kids.length:Int))
 then (Option.bind (idx t.Kids x1) fun e2 =>
 Option.bind (W3 d e2) fun r3 =>
 bif !r3
 then (some (.done (.inr false)))
 else (some (.next (wr .i64 (x1+1)))))
 else (some (.done (.inl ())))
def b2I (d:Api_Type)(t:Api_TypeNode)(x24:Int):Option (Fl Int (Sum Unit Bool)) :=
 bif decide (x24<(t.Fields.length:Int))
 then (Option.bind (idx t.Fields x24) fun e25 =>
 Option.bind (W3 d e25.Node) fun r26 =>
 Option.bind (bif !r26
 then (some true)
 else (Option.bind (a1W e25.Key_) fun r27 =>
 some (!r27))) fun q28 =>
 Option.bind (bif q28
 then (some true)
 else (Option.bind (bif decide (0<x24)
 then (Option.bind (idx t.Fields (wr .i64 (x24-1))) fun e29 =>
 Option.bind (a0j e29.Key_ e25.Key_) fun r30 =>
 some (decide (0<=r30)))
 else (some false)) fun q31 =>
 some q31)) fun q32 =>
 bif q32
 then (some (.done (.inr false)))
 else (some (.next (wr .i64 (x24+1)))))
 else (some (.done (.inl ())))
def a7w (d:Api_Type)(t:Api_TypeNode):Option Bool :=
 Option.bind (y2 (b2b d t) ((t.Kids.length:Int).toNat+1) 0) fun b4 =>
 k9 (fun _ =>
 Option.bind (bif t.Kind==4
 then (some true)
 else (some (t.Kind==6))) fun q7 =>
 Option.bind (bif q7
 then (some true)
 else (some (t.Kind==19))) fun q8 =>
 Option.bind (bif !(t.Kind==3)
 then (Option.bind (bif t.Lo != 0
 then (some true)
 else (some (t.Hi != 0))) fun q9 =>
 some q9)
 else (some false)) fun q10 =>
 Option.bind (bif q10
 then (some true)
 else (Option.bind (bif !q8
 then (some (!(K8 t.Text (⟨#[]⟩:ByteArray))))
 else (some false)) fun q11 =>
 some q11)) fun q12 =>
 bif q12
 then (some false)
 else (Option.bind (bif t.Kind != 13
 then (Option.bind (bif decide (0<(t.Fields.length:Int))
 then (some true)
 else (some (!(b3x t.Rest (0,0))))) fun q13 =>
 some q13)
 else (some false)) fun q14 =>
 bif q14
 then (some false)
 else (bif t.Kind==3
 then (Option.bind (bif (t.Kids.length:Int)==0
 then (some (decide (t.Lo<=t.Hi)))
 else (some false)) fun q15 =>
 some q15)
 else (bif t.Kind==4
 then (Option.bind (bif (t.Kids.length:Int)==0
 then (some (decide ((t.Text.size:Int)<=64)))
 else (some false)) fun q16 =>
 some q16)
 else (bif t.Kind==6
 then (Option.bind (bif (t.Kids.length:Int)==0
 then (Option.bind (a08 t.Text) fun r17 =>
 some r17)
 else (some false)) fun q18 =>
 some q18)
 else (bif t.Kind==19
 then (Option.bind (bif (t.Kids.length:Int)==0
 then (Option.bind (a1m t.Text) fun r19 =>
 some r19)
 else (some false)) fun q20 =>
 some q20)
 else (Option.bind (bif t.Kind==1
 then (some (t.Kind==1))
 else (bif t.Kind==2
 then (some (t.Kind==2))
 else (bif t.Kind==5
 then (some (t.Kind==5))
 else (bif t.Kind==7
 then (some (t.Kind==7))
 else (bif t.Kind==8
 then (some (t.Kind==8))
 else (bif t.Kind==9
 then (some (t.Kind==9))
 else (bif t.Kind==11
 then (some (t.Kind==11))
 else (some (t.Kind==15))))))))) fun b21 =>
 bif b21
 then (some ((t.Kids.length:Int)==0))
 else (bif t.Kind==10
 then (some (decide ((t.Kids.length:Int)<=4)))
 else (bif t.Kind==12
 then (some ((t.Kids.length:Int)==2))
 else (bif t.Kind==14
 then (Option.bind (bif decide (1<=(t.Kids.length:Int))
 then (some (decide ((t.Kids.length:Int)<=5)))
 else (some false)) fun q22 =>
 some q22)
 else (Option.bind (bif t.Kind==16
 then (some (t.Kind==16))
 else (some (t.Kind==17))) fun b23 =>
 bif b23
 then (some (decide (1<=(t.Kids.length:Int))))
 else (bif t.Kind==18
 then (some ((t.Kids.length:Int)==1))
 else (bif t.Kind==13
 then (Option.bind (y2 (b2I d t) ((t.Fields.length:Int).toNat+1) 0) fun b33 =>
 k9 (fun _ =>
 Option.bind (bif (t.Kids.length:Int)==0
 then (Option.bind (W3 d t.Rest.1) fun r36 =>
 some r36)
 else (some false)) fun q37 =>
 Option.bind (bif q37
 then (Option.bind (W3 d t.Rest.2) fun r38 =>
 some r38)
 else (some false)) fun q39 =>
 some q39) (fun y35 =>
 some y35) b33)
 else (some false)))))))))))))) (fun y6 =>
 some y6) b4
def a4I (n_0:Api_TypeNode):Option Bool :=
 Option.bind (bif n_0.Kind==16
 then (some true)
 else (some (n_0.Kind==17))) fun q1 =>
 Option.bind (bif q1
 then (some true)
 else (some (n_0.Kind==18))) fun q2 =>
 some q2
def a6q (d:Api_Type)(x2:Int):Option (Fl Int (Sum Unit Int)) :=
 bif decide (x2<(d.Nodes.length:Int))
 then (Option.bind (idx d.Nodes x2) fun e3 =>
 Option.bind (a7w d e3) fun r4 =>
 bif !r4
 then (some (.done (.inr 1)))
 else (some (.next (wr .i64 (x2+1)))))
 else (some (.done (.inl ())))
def a6m (d:Api_Type)(x10:(List Bool)×Int)(x11:(List Bool)×Bool×Int):Option (Fl ((List Bool)×Bool×Int) ((List Bool)×Bool)) :=
 Option.bind (idx d.Nodes x10.2) fun e12 =>
 Option.bind (a4I e12) fun r13 =>
 Option.bind (bif r13
 then (Option.bind (idx d.Nodes x10.2) fun e14 =>
 some (decide (x11.2.2<(e14.Kids.length:Int))))
 else (some false)) fun q15 =>
 bif q15
 then (Option.bind (bif x11.2.1
 then (Option.bind (idx d.Nodes x10.2) fun e16 =>
 Option.bind (idx e16.Kids x11.2.2) fun e17 =>
 Option.bind (idx x11.1 e17) fun _ =>
 Option.bind (x11.1[e17.toNat]?) fun e19 =>
 some e19)
 else (some false)) fun q20 =>
 some (.next (x11.1,q20,wr .i64 (x11.2.2+1))))
 else (some (.done (x11.1,x11.2.1)))
def a6B (d:Api_Type)(n:Nat)(x10:(List Bool)×Int):Option (Fl ((List Bool)×Int) (List Bool)) :=
 bif decide (x10.2<(d.Nodes.length:Int))
 then (Option.bind (y2 (a6m d x10) n (x10.1,true,0)) fun b21 =>
 Option.bind (idx b21.1 x10.2) fun _ =>
 Option.bind (b21.1[x10.2.toNat]?) fun e23 =>
 Option.bind (bif e23
 then (some true)
 else (some b21.2)) fun q24 =>
 Option.bind (idx b21.1 x10.2) fun _ =>
 Option.bind (b21.1[x10.2.toNat]?) fun _ =>
 some (.next (b21.1.set x10.2.toNat q24,wr .i64 (x10.2+1))))
 else (some (.done x10.1))
def a6y (d:Api_Type)(n:Nat)(x9:(List Bool)×Int):Option (Fl ((List Bool)×Int) (List Bool)) :=
 bif decide (x9.2<(d.Nodes.length:Int))
 then (Option.bind (y2 (a6B d n) ((d.Nodes.length:Int).toNat+1) (x9.1,0)) fun b27 =>
 some (.next (b27,wr .i64 (x9.2+1))))
 else (some (.done x9.1))
def a6C (x29:(List Bool)×Int):Option (Fl ((List Bool)×Int) (Sum (List Bool) (Int×(List Bool)))) :=
 bif decide (x29.2<(x29.1.length:Int))
 then (Option.bind (idx x29.1 x29.2) fun _ =>
 Option.bind (x29.1[x29.2.toNat]?) fun e31 =>
 bif !e31
 then (some (.done (.inr (3,x29.1))))
 else (some (.next (x29.1,wr .i64 (x29.2+1)))))
 else (some (.done (.inl x29.1)))
def a3d (n:Nat)(d:Api_Type):Option Int :=
 Option.bind (W3 d d.Root) fun r1 =>
 bif !r1
 then (some 1)
 else (Option.bind (y2 (a6q d) ((d.Nodes.length:Int).toNat+1) 0) fun b5 =>
 k9 (fun _ =>
 Option.bind (b0p (d.Nodes.length:Int) (d.Nodes.length:Int) 1) fun m8 =>
 Option.bind (y2 (a6y d n) ((d.Nodes.length:Int).toNat+1) (List.replicate m8 (false:Bool),0)) fun b28 =>
 Option.bind (y2 a6C ((b28.length:Int).toNat+1) (b28,0)) fun b32 =>
 k9 (fun _ =>
 some 0) (fun y34 =>
 some y34.1) b32) (fun y7 =>
 some y7) b5)
def b3r (v:Val)(k:Key)(x1:Int):Option (Fl Int (Sum Unit Int)) :=
 bif decide (x1<(v.Keys.length:Int))
 then (Option.bind (idx v.Keys x1) fun e2 =>
 bif a9Q e2 k
 then (some (.done (.inr x1)))
 else (some (.next (wr .i64 (x1+1)))))
 else (some (.done (.inl ())))
def a8q (v:Val)(k:Key):Option Int :=
 Option.bind (y2 (b3r v k) ((v.Keys.length:Int).toNat+1) 0) fun b3 =>
 k9 (fun _ =>
 some (-1)) (fun y5 =>
 some y5) b3
def b0X (n_0:Api_TypeNode)(k:Key)(x1:Int):Option (Fl Int (Sum Unit Int)) :=
 bif decide (x1<(n_0.Fields.length:Int))
 then (Option.bind (idx n_0.Fields x1) fun e2 =>
 bif a9Q e2.Key_ k
 then (some (.done (.inr x1)))
 else (some (.next (wr .i64 (x1+1)))))
 else (some (.done (.inl ())))
def a6a (n_0:Api_TypeNode)(k:Key):Option Int :=
 Option.bind (y2 (b0X n_0 k) ((n_0.Fields.length:Int).toNat+1) 0) fun b3 =>
 k9 (fun _ =>
 some (-1)) (fun y5 =>
 some y5) b3
def a75 (v:Val)(t:Api_Type)(n_2:Api_TypeNode)(rec_semtyperef7_members:(List Val)->Api_Type->(List Int)->Option Bool)(rec_semtyperef7_member:Val->Api_Type->Int->Option Bool)(x1:Int):Option (Fl Int (Sum Unit Bool)) :=
 bif decide (x1<(v.Entries.length:Int))
 then (Option.bind (idx v.Entries x1) fun e2 =>
 Option.bind (cut n_2.Kids 0 (wr .i64 ((n_2.Kids.length:Int)-1))) fun y3 =>
 Option.bind (rec_semtyperef7_members e2.Args t y3) fun r4 =>
 Option.bind (bif r4
 then (Option.bind (bif e2.Fails
 then (some true)
 else (Option.bind (idx n_2.Kids (wr .i64 ((n_2.Kids.length:Int)-1))) fun e5 =>
 Option.bind (rec_semtyperef7_member e2.Result t e5) fun r6 =>
 some (!r6))) fun q7 =>
 some q7)
 else (some false)) fun q8 =>
 bif q8
 then (some (.done (.inr false)))
 else (some (.next (wr .i64 (x1+1)))))
 else (some (.done (.inl ())))
def a8z (d:Val)(a2_2:Api_TypeNode)(x1:Int):Option (Fl Int (Sum Unit Bool)) :=
 bif decide (x1<(a2_2.Fields.length:Int))
 then (Option.bind (idx a2_2.Fields x1) fun e2 =>
 Option.bind (bif !e2.Optional
 then (Option.bind (idx a2_2.Fields x1) fun e3 =>
 Option.bind (a8q d e3.Key_) fun r4 =>
 some (decide (r4<0)))
 else (some false)) fun q5 =>
 bif q5
 then (some (.done (.inr false)))
 else (some (.next (wr .i64 (x1+1)))))
 else (some (.done (.inl ())))
def a9q (d:Val)(t:Api_Type)(a2_2:Api_TypeNode)(rec_semtyperef7_member:Val->Api_Type->Int->Option Bool)(x9:Int):Option (Fl Int (Sum Unit Bool)) :=
 bif decide (x9<(d.Keys.length:Int))
 then (Option.bind (idx d.Keys x9) fun e10 =>
 Option.bind (a6a a2_2 e10) fun r11 =>
 Option.bind (Option.bind (idx d.Keys x9) fun e12 =>
 bif e12.Kind==0
 then (some a2_2.Rest.1)
 else (bif e12.Kind==1
 then (some a2_2.Rest.2)
 else (none))) fun b13 =>
 Option.bind (bif decide (0<=r11)
 then (Option.bind (idx a2_2.Fields r11) fun e14 =>
 some e14.Node)
 else (some b13)) fun b15 =>
 Option.bind (idx d.Kids x9) fun e16 =>
 Option.bind (rec_semtyperef7_member e16 t b15) fun r17 =>
 bif !r17
 then (some (.done (.inr false)))
 else (some (.next (wr .i64 (x9+1)))))
 else (some (.done (.inl ())))
def a91 (d:Val)(t:Api_Type)(e1:Api_TypeNode)(rec_semtyperef7_member:Val->Api_Type->Int->Option Bool)(x14:Int):Option (Fl Int (Sum Unit Bool)) :=
 bif decide (x14<(e1.Kids.length:Int))
 then (Option.bind (idx e1.Kids x14) fun e15 =>
 Option.bind (rec_semtyperef7_member d t e15) fun r16 =>
 bif r16
 then (some (.done (.inr true)))
 else (some (.next (wr .i64 (x14+1)))))
 else (some (.done (.inl ())))
def a9K (d:Val)(t:Api_Type)(e1:Api_TypeNode)(rec_semtyperef7_member:Val->Api_Type->Int->Option Bool)(x20:Int):Option (Fl Int (Sum Unit Bool)) :=
 bif decide (x20<(e1.Kids.length:Int))
 then (Option.bind (idx e1.Kids x20) fun e21 =>
 Option.bind (rec_semtyperef7_member d t e21) fun r22 =>
 bif !r22
 then (some (.done (.inr false)))
 else (some (.next (wr .i64 (x20+1)))))
 else (some (.done (.inl ())))
def a9H (d:Val)(e1:Api_TypeNode)(x28:Int):Option (Fl Int (Sum Unit Bool)) :=
 bif decide (x28<(d.Labels.length:Int))
 then (Option.bind (idx d.Labels x28) fun e29 =>
 bif K8 e29 e1.Text
 then (some (.done (.inr true)))
 else (some (.next (wr .i64 (x28+1)))))
 else (some (.done (.inl ())))
def a84 (l:List Val)(t:Api_Type)(nodes:List Int)(rec_semtyperef7_member:Val->Api_Type->Int->Option Bool)(x1:Int):Option (Fl Int (Sum Unit Bool)) :=
 bif decide (x1<(l.length:Int))
 then (Option.bind (idx l x1) fun e2 =>
 Option.bind (idx nodes x1) fun e3 =>
 Option.bind (rec_semtyperef7_member e2 t e3) fun r4 =>
 bif !r4
 then (some (.done (.inr false)))
 else (some (.next (wr .i64 (x1+1)))))
 else (some (.done (.inl ())))
def a8X (_:Nat)(_:Val->Api_Type->Api_TypeNode->Option Bool)(_:Val->Api_Type->Api_TypeNode->Option Bool)(rec_semtyperef7_member:Val->Api_Type->Int->Option Bool)(rec_semtyperef7_members:(List Val)->Api_Type->(List Int)->Option Bool)(v:Val)(t:Api_Type)(n_2:Api_TypeNode):Option Bool :=
 bif v.Int_ != (wr .i64 ((n_2.Kids.length:Int)-1))
 then (some false)
 else (Option.bind (y2 (a75 v t n_2 rec_semtyperef7_members rec_semtyperef7_member) ((v.Entries.length:Int).toNat+1) 0) fun b9 =>
 k9 (fun _ =>
 some true) (fun y11 =>
 some y11) b9)
def a90 (_:Nat)(_:Val->Api_Type->Api_TypeNode->Option Bool)(_:Val->Api_Type->Api_TypeNode->Option Bool)(rec_semtyperef7_member:Val->Api_Type->Int->Option Bool)(_:(List Val)->Api_Type->(List Int)->Option Bool)(d:Val)(t:Api_Type)(a2_2:Api_TypeNode):Option Bool :=
 Option.bind (y2 (a8z d a2_2) ((a2_2.Fields.length:Int).toNat+1) 0) fun b6 =>
 k9 (fun _ =>
 Option.bind (y2 (a9q d t a2_2 rec_semtyperef7_member) ((d.Keys.length:Int).toNat+1) 0) fun b18 =>
 k9 (fun _ =>
 some true) (fun y20 =>
 some y20) b18) (fun y8 =>
 some y8) b6
def b1I (_:Nat)(rec_semtyperef7_function:Val->Api_Type->Api_TypeNode->Option Bool)(rec_semtyperef7_mapping:Val->Api_Type->Api_TypeNode->Option Bool)(rec_semtyperef7_member:Val->Api_Type->Int->Option Bool)(rec_semtyperef7_members:(List Val)->Api_Type->(List Int)->Option Bool)(d:Val)(t:Api_Type)(a2_2:Int):Option Bool :=
 Option.bind (idx t.Nodes a2_2) fun e1 =>
 bif e1.Kind==2
 then (some true)
 else (bif e1.Kind==3
 then (Option.bind (bif d.Kind==1
 then (some (decide (e1.Lo<=d.Int_)))
 else (some false)) fun q2 =>
 Option.bind (bif q2
 then (some (decide (d.Int_<=e1.Hi)))
 else (some false)) fun q3 =>
 some q3)
 else (bif e1.Kind==4
 then (Option.bind (bif d.Kind==2
 then (some (K8 d.Text e1.Text))
 else (some false)) fun q4 =>
 some q4)
 else (bif e1.Kind==5
 then (some (d.Kind==2))
 else (bif e1.Kind==6
 then (Option.bind (bif d.Kind==3
 then (some (K8 d.Text e1.Text))
 else (some false)) fun q5 =>
 some q5)
 else (bif e1.Kind==7
 then (some (d.Kind==3))
 else (bif e1.Kind==8
 then (some (d.Kind==4))
 else (bif e1.Kind==9
 then (some (d.Kind==5))
 else (bif e1.Kind==11
 then (some (d.Kind==6))
 else (bif e1.Kind==15
 then (some (d.Kind==9))
 else (bif e1.Kind==10
 then (Option.bind (bif d.Kind==6
 then (Option.bind (rec_semtyperef7_members d.Kids t e1.Kids) fun r6 =>
 some r6)
 else (some false)) fun q7 =>
 some q7)
 else (bif e1.Kind==12
 then (Option.bind (bif d.Kind==7
 then (Option.bind (rec_semtyperef7_members d.Kids t e1.Kids) fun r8 =>
 some r8)
 else (some false)) fun q9 =>
 some q9)
 else (bif e1.Kind==13
 then (Option.bind (bif d.Kind==8
 then (Option.bind (rec_semtyperef7_mapping d t e1) fun r10 =>
 some r10)
 else (some false)) fun q11 =>
 some q11)
 else (bif e1.Kind==14
 then (Option.bind (bif d.Kind==9
 then (Option.bind (rec_semtyperef7_function d t e1) fun r12 =>
 some r12)
 else (some false)) fun q13 =>
 some q13)
 else (bif e1.Kind==16
 then (Option.bind (y2 (a91 d t e1 rec_semtyperef7_member) ((e1.Kids.length:Int).toNat+1) 0) fun b17 =>
 k9 (fun _ =>
 some false) (fun y19 =>
 some y19) b17)
 else (bif e1.Kind==17
 then (Option.bind (y2 (a9K d t e1 rec_semtyperef7_member) ((e1.Kids.length:Int).toNat+1) 0) fun b23 =>
 k9 (fun _ =>
 some true) (fun y25 =>
 some y25) b23)
 else (bif e1.Kind==18
 then (Option.bind (idx e1.Kids 0) fun e26 =>
 Option.bind (rec_semtyperef7_member d t e26) fun r27 =>
 some (!r27))
 else (bif e1.Kind==19
 then (Option.bind (y2 (a9H d e1) ((d.Labels.length:Int).toNat+1) 0) fun b30 =>
 k9 (fun _ =>
 some false) (fun y32 =>
 some y32) b30)
 else (some false))))))))))))))))))
def a9w (_:Nat)(_:Val->Api_Type->Api_TypeNode->Option Bool)(_:Val->Api_Type->Api_TypeNode->Option Bool)(rec_semtyperef7_member:Val->Api_Type->Int->Option Bool)(_:(List Val)->Api_Type->(List Int)->Option Bool)(l:List Val)(t:Api_Type)(nodes:List Int):Option Bool :=
 bif (l.length:Int) != (nodes.length:Int)
 then (some false)
 else (Option.bind (y2 (a84 l t nodes rec_semtyperef7_member) ((l.length:Int).toNat+1) 0) fun b5 =>
 k9 (fun _ =>
 some true) (fun y7 =>
 some y7) b5)
def y1:Nat->(Val->Api_Type->Api_TypeNode->Option Bool)×(Val->Api_Type->Api_TypeNode->Option Bool)×(Val->Api_Type->Int->Option Bool)×((List Val)->Api_Type->(List Int)->Option Bool)
 | 0=>(fun _ _ _=>none,fun _ _ _=>none,fun _ _ _=>none,fun _ _ _=>none)
 | n+1=>(a8X n ((y1 n).1) ((y1 n).2.1) ((y1 n).2.2.1) ((y1 n).2.2.2),a90 n ((y1 n).1) ((y1 n).2.1) ((y1 n).2.2.1) ((y1 n).2.2.2),b1I n ((y1 n).1) ((y1 n).2.1) ((y1 n).2.2.1) ((y1 n).2.2.2),a9w n ((y1 n).1) ((y1 n).2.1) ((y1 n).2.2.1) ((y1 n).2.2.2))
def b1C (n:Nat):Val->Api_Type->Api_TypeNode->Option Bool:=(y1 n).1
def b2h (n:Nat):Val->Api_Type->Api_TypeNode->Option Bool:=(y1 n).2.1
def a5x (n:Nat):Val->Api_Type->Int->Option Bool:=(y1 n).2.2.1
def b2g (n:Nat):(List Val)->Api_Type->(List Int)->Option Bool:=(y1 n).2.2.2
def a38 (n:Nat)(v:Val)(t:Api_Type)(k:Int):Option Bool :=
 Option.bind (a2Y n v) fun r1 =>
 Option.bind (bif r1
 then (Option.bind (a3d n t) fun r2 =>
 some (r2==0))
 else (some false)) fun q3 =>
 Option.bind (bif q3
 then (Option.bind (W3 t k) fun r4 =>
 some r4)
 else (some false)) fun q5 =>
 Option.bind (bif q5
 then (Option.bind (a5x n v t k) fun r6 =>
 some r6)
 else (some false)) fun q7 =>
 some q7
def a5C (n:Nat)(v:Val)(t:Api_Type):Option Bool :=
 Option.bind (a38 n v t t.Root) fun r1 =>
 some r1
noncomputable def Y8 (n:Nat)(n_0:Int):Option Bool :=
 Option.bind (b5q (wr .i64 n_0) 12) fun d1 =>
 Option.bind (a2q d1) fun r2 =>
 Option.bind (a2R n r2) fun r3 =>
 bif decide (6<(wr .i64 (d1+1)))
 then (Option.bind (bif r3.2==2
 then (Option.bind (a2r n) fun r4 =>
 some r4)
 else (some false)) fun q5 =>
 some q5)
 else (Option.bind (bif r3.2==0
 then (Option.bind (a2A n r3.1) fun r6 =>
 some (r6==(wr .i64 (d1+1))))
 else (some false)) fun q7 =>
 Option.bind (bif q7
 then (Option.bind (a2q d1) fun r8 =>
 Option.bind (a5C n r3.1 r8) fun r9 =>
 some r9)
 else (some false)) fun q10 =>
 Option.bind (bif q10
 then (Option.bind (a2r n) fun r11 =>
 some r11)
 else (some false)) fun q12 =>
 some q12)
end Go.Qx
end
section
namespace Go.Pl
open Go Go.Sx Go.Qx
theorem c4G:∀ a:Fin 256,b5q (wr .i64 (a.val:Int)) 12=b5q (wr .i64 ((a.val%12:Nat):Int)) 12:=by decide +kernel
theorem c38:∀ k:Fin 12,Y8 200000000 ((k.val:Nat):Int)=some true:=by decide +kernel
theorem c4M (n:Nat)(a:Fin 256):Y8 n (a.val:Int)=Y8 n ((a.val%12:Nat):Int):=by
 unfold Y8
 rw [c4G a]
theorem b2U (a:Int)(h:0<=a/\a<256):∃ n,Y8 n a=some true:=by
 refine ⟨200000000,?_⟩
 obtain ⟨m,rfl⟩:=Int.eq_ofNat_of_zero_le h.1
 have hm:m<256:=by omega
 have h1:=c4M 200000000 ⟨m,hm⟩
 have h2:=c38 ⟨m%12,Nat.mod_lt _ (by decide)⟩
 exact h1.trans h2
end Go.Pl
end
section
namespace Go.Proofs
open Go.Shelf
set_option maxRecDepth 100000
def Tryz.lay268_ren:Go.Shelf.Ren:=⟨fun | 6=>268 | 15=>139 | 14=>289 | 28=>190 | 29=>191 | 20=>294 | 21=>295 | 22=>296 | 23=>297 | 24=>298 | 25=>299 | 26=>300 | 27=>301 | 46=>310 | 47=>239 | 48=>240 | 49=>311 | 50=>312 | 57=>316 | n=>n,fun | 22=>106 | 24=>221 | 25=>312 | 3=>3 | 39=>199 | 0=>0 | 53=>249 | 55=>201 | 4=>4 | 46=>242 | 45=>241 | 50=>124 | 5=>5 | 9=>9 | 66=>289 | 70=>293 | 76=>322 | 77=>323 | n=>n,fun | n=>n⟩
theorem Tryz.lay268:Go.Proofs.SlLaysF0.n6 Tryz.prog Tryz.lay268_ren:={
 mixed:=by kernel_rfl
 f6:=⟨Tryz.f268.name,by decide,Tryz.func268.trans (congrArg some (by kernel_rfl))⟩
 f14:=⟨Tryz.f289.name,by decide,Tryz.func289.trans (congrArg some (by kernel_rfl))⟩
 f15:=Tryz.func139.trans (congrArg some (by kernel_rfl))
 f20:=⟨Tryz.f294.name,by decide,Tryz.func294.trans (congrArg some (by kernel_rfl))⟩
 f21:=⟨Tryz.f295.name,by decide,Tryz.func295.trans (congrArg some (by kernel_rfl))⟩
 f22:=⟨Tryz.f296.name,by decide,Tryz.func296.trans (congrArg some (by kernel_rfl))⟩
 f23:=⟨Tryz.f297.name,by decide,Tryz.func297.trans (congrArg some (by kernel_rfl))⟩
 f24:=⟨Tryz.f298.name,by decide,Tryz.func298.trans (congrArg some (by kernel_rfl))⟩
 f25:=⟨Tryz.f299.name,by decide,Tryz.func299.trans (congrArg some (by kernel_rfl))⟩
 f26:=⟨Tryz.f300.name,by decide,Tryz.func300.trans (congrArg some (by kernel_rfl))⟩
 f27:=⟨Tryz.f301.name,by decide,Tryz.func301.trans (congrArg some (by kernel_rfl))⟩
 f28:=Tryz.func190.trans (congrArg some (by kernel_rfl))
 f29:=Tryz.func191.trans (congrArg some (by kernel_rfl))
 f46:=⟨Tryz.f310.name,by decide,Tryz.func310.trans (congrArg some (by kernel_rfl))⟩
 f47:=Tryz.func239.trans (congrArg some (by kernel_rfl))
 f48:=Tryz.func240.trans (congrArg some (by kernel_rfl))
 f49:=⟨Tryz.f311.name,by decide,Tryz.func311.trans (congrArg some (by kernel_rfl))⟩
 f50:=⟨Tryz.f312.name,by decide,Tryz.func312.trans (congrArg some (by kernel_rfl))⟩
 f57:=⟨Tryz.f316.name,by decide,Tryz.func316.trans (congrArg some (by kernel_rfl))⟩
 t0:=Tryz.underlying0
 a0:=Tryz.isAgg0
 z0:=Tryz.sizeOf0
 v0:=Tryz.zeroValue0
 t3:=Tryz.underlying3
 a3:=Tryz.isAgg3
 z3:=Tryz.sizeOf3
 v3:=Tryz.zeroValue3
 t4:=Tryz.underlying4
 a4:=Tryz.isAgg4
 z4:=Tryz.sizeOf4
 v4:=Tryz.zeroValue4
 t5:=Tryz.underlying5
 a5:=Tryz.isAgg5
 z5:=Tryz.sizeOf5
 v5:=Tryz.zeroValue5
 t9:=Tryz.underlying9
 a9:=Tryz.isAgg9
 z9:=Tryz.sizeOf9
 v9:=Tryz.zeroValue9
 t22:=Tryz.underlying106
 a22:=Tryz.isAgg106
 z22:=Tryz.sizeOf106
 v22:=Tryz.zeroValue106
 t25:=Tryz.underlying312
 a25:=Tryz.isAgg312
 z25:=Tryz.sizeOf312
 v25:=Tryz.zeroValue312
 t39:=Tryz.underlying199
 a39:=Tryz.isAgg199
 z39:=Tryz.sizeOf199
 v39:=Tryz.zeroValue199
 t45:=Tryz.underlying241
 a45:=Tryz.isAgg241
 z45:=Tryz.sizeOf241
 v45:=Tryz.zeroValue241
 t46:=Tryz.underlying242
 a46:=Tryz.isAgg242
 z46:=Tryz.sizeOf242
 v46:=Tryz.zeroValue242
 t50:=Tryz.underlying124
 a50:=Tryz.isAgg124
 z50:=Tryz.sizeOf124
 v50:=Tryz.zeroValue124
 t53:=Tryz.underlying249
 a53:=Tryz.isAgg249
 z53:=Tryz.sizeOf249
 v53:=Tryz.zeroValue249
 t55:=Tryz.underlying201
 a55:=Tryz.isAgg201
 z55:=Tryz.sizeOf201
 v55:=Tryz.zeroValue201
 t66:=Tryz.underlying289
 a66:=Tryz.isAgg289
 z66:=Tryz.sizeOf289
 v66:=Tryz.zeroValue289
 t70:=Tryz.underlying293
 a70:=Tryz.isAgg293
 z70:=Tryz.sizeOf293
 v70:=Tryz.zeroValue293
 t76:=Tryz.underlying322
 a76:=Tryz.isAgg322
 z76:=Tryz.sizeOf322
 v76:=Tryz.zeroValue322
 t77:=Tryz.underlying323
 a77:=Tryz.isAgg323
 z77:=Tryz.sizeOf323
 v77:=Tryz.zeroValue323 }
def Tryz.lay31_ren:Go.Shelf.Ren:=⟨fun | 171=>31 | 243=>58 | 246=>98 | 283=>140 | 284=>141 | 285=>142 | 286=>143 | 129=>191 | 317=>192 | 318=>193 | 319=>194 | 320=>195 | 337=>243 | 338=>244 | n=>n,fun | 3=>3 | 9=>9 | 2=>2 | 4=>4 | 171=>200 | 0=>0 | 53=>201 | 37=>79 | 5=>5 | 173=>204 | 212=>252 | 51=>249 | 20=>20 | 213=>253 | 46=>199 | 232=>325 | 233=>326 | n=>n,fun | 17=>0 | 18=>2 | 19=>3 | n=>n⟩
theorem Tryz.lay31:Go.Proofs.Lays.n171 Tryz.prog Tryz.lay31_ren:={
 mixed:=by kernel_rfl
 f129:=Tryz.func191.trans (congrArg some (by kernel_rfl))
 f171:=Tryz.func31.trans (congrArg some (by kernel_rfl))
 f243:=Tryz.func58.trans (congrArg some (by kernel_rfl))
 f246:=Tryz.func98.trans (congrArg some (by kernel_rfl))
 f283:=Tryz.func140.trans (congrArg some (by kernel_rfl))
 f284:=Tryz.func141.trans (congrArg some (by kernel_rfl))
 f285:=Tryz.func142.trans (congrArg some (by kernel_rfl))
 f286:=Tryz.func143.trans (congrArg some (by kernel_rfl))
 f317:=Tryz.func192.trans (congrArg some (by kernel_rfl))
 f318:=Tryz.func193.trans (congrArg some (by kernel_rfl))
 f319:=Tryz.func194.trans (congrArg some (by kernel_rfl))
 f320:=Tryz.func195.trans (congrArg some (by kernel_rfl))
 f337:=Tryz.func243.trans (congrArg some (by kernel_rfl))
 f338:=Tryz.func244.trans (congrArg some (by kernel_rfl))
 t0:=Tryz.underlying0
 a0:=Tryz.isAgg0
 z0:=Tryz.sizeOf0
 v0:=Tryz.zeroValue0
 t2:=Tryz.underlying2
 a2:=Tryz.isAgg2
 z2:=Tryz.sizeOf2
 v2:=Tryz.zeroValue2
 t3:=Tryz.underlying3
 a3:=Tryz.isAgg3
 z3:=Tryz.sizeOf3
 v3:=Tryz.zeroValue3
 t4:=Tryz.underlying4
 a4:=Tryz.isAgg4
 z4:=Tryz.sizeOf4
 v4:=Tryz.zeroValue4
 t5:=Tryz.underlying5
 a5:=Tryz.isAgg5
 z5:=Tryz.sizeOf5
 v5:=Tryz.zeroValue5
 t9:=Tryz.underlying9
 a9:=Tryz.isAgg9
 z9:=Tryz.sizeOf9
 v9:=Tryz.zeroValue9
 t20:=Tryz.underlying20
 a20:=Tryz.isAgg20
 z20:=Tryz.sizeOf20
 v20:=Tryz.zeroValue20
 t37:=Tryz.underlying79
 a37:=Tryz.isAgg79
 z37:=Tryz.sizeOf79
 v37:=Tryz.zeroValue79
 t46:=Tryz.underlying199
 a46:=Tryz.isAgg199
 z46:=Tryz.sizeOf199
 v46:=Tryz.zeroValue199
 t51:=Tryz.underlying249
 a51:=Tryz.isAgg249
 z51:=Tryz.sizeOf249
 v51:=Tryz.zeroValue249
 t53:=Tryz.underlying201
 a53:=Tryz.isAgg201
 z53:=Tryz.sizeOf201
 v53:=Tryz.zeroValue201
 t171:=Tryz.underlying200
 a171:=Tryz.isAgg200
 z171:=Tryz.sizeOf200
 v171:=Tryz.zeroValue200
 t173:=Tryz.underlying204
 a173:=Tryz.isAgg204
 z173:=Tryz.sizeOf204
 v173:=Tryz.zeroValue204
 t212:=Tryz.underlying252
 a212:=Tryz.isAgg252
 z212:=Tryz.sizeOf252
 v212:=Tryz.zeroValue252
 t213:=Tryz.underlying253
 a213:=Tryz.isAgg253
 z213:=Tryz.sizeOf253
 t232:=Tryz.underlying325
 a232:=Tryz.isAgg325
 z232:=Tryz.sizeOf325
 v232:=Tryz.zeroValue325
 t233:=Tryz.underlying326
 a233:=Tryz.isAgg326
 z233:=Tryz.sizeOf326
 v233:=Tryz.zeroValue326
 g17:=by kernel_rfl
 g18:=by kernel_rfl
 g19:=by kernel_rfl }
def Tryz.lay94_ren:Go.Shelf.Ren:=⟨fun | 189=>94 | 125=>139 | 257=>138 | 128=>190 | 129=>191 | 294=>181 | 295=>182 | 296=>183 | 297=>184 | 298=>185 | 299=>186 | 216=>187 | 300=>188 | 301=>189 | 328=>238 | 329=>239 | 330=>240 | 331=>241 | 332=>242 | 215=>157 | 343=>282 | n=>n,fun | 28=>40 | 3=>3 | 46=>199 | 0=>0 | 51=>249 | 53=>201 | 4=>4 | 183=>242 | 182=>241 | 131=>124 | 5=>5 | 9=>9 | 218=>289 | 222=>293 | 228=>322 | 229=>323 | n=>n,fun | n=>n⟩
theorem Tryz.lay94:Go.Proofs.Lays.n189 Tryz.prog Tryz.lay94_ren:={
 mixed:=by kernel_rfl
 f125:=Tryz.func139.trans (congrArg some (by kernel_rfl))
 f128:=Tryz.func190.trans (congrArg some (by kernel_rfl))
 f129:=Tryz.func191.trans (congrArg some (by kernel_rfl))
 f189:=Tryz.func94.trans (congrArg some (by kernel_rfl))
 f215:=Tryz.func157.trans (congrArg some (by kernel_rfl))
 f216:=Tryz.func187.trans (congrArg some (by kernel_rfl))
 f257:=Tryz.func138.trans (congrArg some (by kernel_rfl))
 f294:=Tryz.func181.trans (congrArg some (by kernel_rfl))
 f295:=Tryz.func182.trans (congrArg some (by kernel_rfl))
 f296:=Tryz.func183.trans (congrArg some (by kernel_rfl))
 f297:=Tryz.func184.trans (congrArg some (by kernel_rfl))
 f298:=Tryz.func185.trans (congrArg some (by kernel_rfl))
 f299:=Tryz.func186.trans (congrArg some (by kernel_rfl))
 f300:=Tryz.func188.trans (congrArg some (by kernel_rfl))
 f301:=Tryz.func189.trans (congrArg some (by kernel_rfl))
 f328:=Tryz.func238.trans (congrArg some (by kernel_rfl))
 f329:=Tryz.func239.trans (congrArg some (by kernel_rfl))
 f330:=Tryz.func240.trans (congrArg some (by kernel_rfl))
 f331:=Tryz.func241.trans (congrArg some (by kernel_rfl))
 f332:=Tryz.func242.trans (congrArg some (by kernel_rfl))
 f343:=Tryz.func282.trans (congrArg some (by kernel_rfl))
 t0:=Tryz.underlying0
 a0:=Tryz.isAgg0
 z0:=Tryz.sizeOf0
 v0:=Tryz.zeroValue0
 t3:=Tryz.underlying3
 a3:=Tryz.isAgg3
 z3:=Tryz.sizeOf3
 v3:=Tryz.zeroValue3
 t4:=Tryz.underlying4
 a4:=Tryz.isAgg4
 z4:=Tryz.sizeOf4
 v4:=Tryz.zeroValue4
 t5:=Tryz.underlying5
 a5:=Tryz.isAgg5
 z5:=Tryz.sizeOf5
 v5:=Tryz.zeroValue5
 t9:=Tryz.underlying9
 a9:=Tryz.isAgg9
 z9:=Tryz.sizeOf9
 v9:=Tryz.zeroValue9
 t28:=Tryz.underlying40
 a28:=Tryz.isAgg40
 z28:=Tryz.sizeOf40
 v28:=Tryz.zeroValue40
 t46:=Tryz.underlying199
 a46:=Tryz.isAgg199
 z46:=Tryz.sizeOf199
 v46:=Tryz.zeroValue199
 t51:=Tryz.underlying249
 a51:=Tryz.isAgg249
 z51:=Tryz.sizeOf249
 v51:=Tryz.zeroValue249
 t53:=Tryz.underlying201
 a53:=Tryz.isAgg201
 z53:=Tryz.sizeOf201
 v53:=Tryz.zeroValue201
 t131:=Tryz.underlying124
 a131:=Tryz.isAgg124
 z131:=Tryz.sizeOf124
 v131:=Tryz.zeroValue124
 t182:=Tryz.underlying241
 a182:=Tryz.isAgg241
 z182:=Tryz.sizeOf241
 v182:=Tryz.zeroValue241
 t183:=Tryz.underlying242
 a183:=Tryz.isAgg242
 z183:=Tryz.sizeOf242
 v183:=Tryz.zeroValue242
 t218:=Tryz.underlying289
 a218:=Tryz.isAgg289
 z218:=Tryz.sizeOf289
 v218:=Tryz.zeroValue289
 t222:=Tryz.underlying293
 a222:=Tryz.isAgg293
 z222:=Tryz.sizeOf293
 v222:=Tryz.zeroValue293
 t228:=Tryz.underlying322
 a228:=Tryz.isAgg322
 z228:=Tryz.sizeOf322
 v228:=Tryz.zeroValue322
 t229:=Tryz.underlying323
 a229:=Tryz.isAgg323
 z229:=Tryz.sizeOf323
 v229:=Tryz.zeroValue323 }
def Tryz.lay106_ren:Go.Shelf.Ren:=⟨fun | 190=>106 | 125=>139 | 258=>153 | 128=>190 | 129=>191 | 302=>208 | 303=>209 | 304=>210 | 305=>211 | 306=>212 | 307=>213 | 308=>214 | 309=>215 | 310=>216 | 333=>261 | 329=>239 | 330=>240 | 334=>262 | 335=>263 | 336=>264 | 344=>288 | n=>n,fun | 31=>25 | 9=>9 | 3=>3 | 46=>199 | 0=>0 | 51=>249 | 53=>201 | 4=>4 | 183=>242 | 182=>241 | 131=>124 | 5=>5 | 218=>289 | 222=>293 | 228=>322 | 229=>323 | n=>n,fun | n=>n⟩
theorem Tryz.lay106:Go.Proofs.Lays.n190 Tryz.prog Tryz.lay106_ren:={
 mixed:=by kernel_rfl
 f125:=Tryz.func139.trans (congrArg some (by kernel_rfl))
 f128:=Tryz.func190.trans (congrArg some (by kernel_rfl))
 f129:=Tryz.func191.trans (congrArg some (by kernel_rfl))
 f190:=Tryz.func106.trans (congrArg some (by kernel_rfl))
 f258:=Tryz.func153.trans (congrArg some (by kernel_rfl))
 f302:=Tryz.func208.trans (congrArg some (by kernel_rfl))
 f303:=Tryz.func209.trans (congrArg some (by kernel_rfl))
 f304:=Tryz.func210.trans (congrArg some (by kernel_rfl))
 f305:=Tryz.func211.trans (congrArg some (by kernel_rfl))
 f306:=Tryz.func212.trans (congrArg some (by kernel_rfl))
 f307:=Tryz.func213.trans (congrArg some (by kernel_rfl))
 f308:=Tryz.func214.trans (congrArg some (by kernel_rfl))
 f309:=Tryz.func215.trans (congrArg some (by kernel_rfl))
 f310:=Tryz.func216.trans (congrArg some (by kernel_rfl))
 f329:=Tryz.func239.trans (congrArg some (by kernel_rfl))
 f330:=Tryz.func240.trans (congrArg some (by kernel_rfl))
 f333:=Tryz.func261.trans (congrArg some (by kernel_rfl))
 f334:=Tryz.func262.trans (congrArg some (by kernel_rfl))
 f335:=Tryz.func263.trans (congrArg some (by kernel_rfl))
 f336:=Tryz.func264.trans (congrArg some (by kernel_rfl))
 f344:=Tryz.func288.trans (congrArg some (by kernel_rfl))
 t0:=Tryz.underlying0
 a0:=Tryz.isAgg0
 z0:=Tryz.sizeOf0
 v0:=Tryz.zeroValue0
 t3:=Tryz.underlying3
 a3:=Tryz.isAgg3
 z3:=Tryz.sizeOf3
 v3:=Tryz.zeroValue3
 t4:=Tryz.underlying4
 a4:=Tryz.isAgg4
 z4:=Tryz.sizeOf4
 v4:=Tryz.zeroValue4
 t5:=Tryz.underlying5
 a5:=Tryz.isAgg5
 z5:=Tryz.sizeOf5
 v5:=Tryz.zeroValue5
 t9:=Tryz.underlying9
 a9:=Tryz.isAgg9
 z9:=Tryz.sizeOf9
 v9:=Tryz.zeroValue9
 t31:=Tryz.underlying25
 a31:=Tryz.isAgg25
 z31:=Tryz.sizeOf25
 v31:=Tryz.zeroValue25
 t46:=Tryz.underlying199
 a46:=Tryz.isAgg199
 z46:=Tryz.sizeOf199
 v46:=Tryz.zeroValue199
 t51:=Tryz.underlying249
 a51:=Tryz.isAgg249
 z51:=Tryz.sizeOf249
 v51:=Tryz.zeroValue249
 t53:=Tryz.underlying201
 a53:=Tryz.isAgg201
 z53:=Tryz.sizeOf201
 v53:=Tryz.zeroValue201
 t131:=Tryz.underlying124
 a131:=Tryz.isAgg124
 z131:=Tryz.sizeOf124
 v131:=Tryz.zeroValue124
 t182:=Tryz.underlying241
 a182:=Tryz.isAgg241
 z182:=Tryz.sizeOf241
 v182:=Tryz.zeroValue241
 t183:=Tryz.underlying242
 a183:=Tryz.isAgg242
 z183:=Tryz.sizeOf242
 v183:=Tryz.zeroValue242
 t218:=Tryz.underlying289
 a218:=Tryz.isAgg289
 z218:=Tryz.sizeOf289
 v218:=Tryz.zeroValue289
 t222:=Tryz.underlying293
 a222:=Tryz.isAgg293
 z222:=Tryz.sizeOf293
 v222:=Tryz.zeroValue293
 t228:=Tryz.underlying322
 a228:=Tryz.isAgg322
 z228:=Tryz.sizeOf322
 v228:=Tryz.zeroValue322
 t229:=Tryz.underlying323
 a229:=Tryz.isAgg323
 z229:=Tryz.sizeOf323
 v229:=Tryz.zeroValue323 }
end Go.Proofs
end
section
namespace Go.Qx
open Go Go.RowKit Go.Sx
set_option maxRecDepth 100000
abbrev b3s (v:Api_Field):Key×Int×Bool:=(v.Key_,v.Node,v.Optional)
abbrev b9Y (x:Key×Int×Bool):Api_Field:=⟨x.1,x.2.1,x.2.2⟩
@[reducible] def a1F:Rp Api_Field:=a1q b3s (Z0 (rpKey) (Z0 (rpK .i64) (rpBool)))
abbrev a8g (v:Api_TypeNode):Int×Int×Int×ByteArray×(List Int)×(List Api_Field)×(Int×Int):=(v.Kind,v.Lo,v.Hi,v.Text,v.Kids,v.Fields,v.Rest)
abbrev b6T (x:Int×Int×Int×ByteArray×(List Int)×(List Api_Field)×(Int×Int)):Api_TypeNode:=⟨x.1,x.2.1,x.2.2.1,x.2.2.2.1,x.2.2.2.2.1,x.2.2.2.2.2.1,x.2.2.2.2.2.2⟩
@[reducible] def a0y:Rp Api_TypeNode:=a1q a8g (Z0 (rpK .i64) (Z0 (rpK .i64) (Z0 (rpK .i64) (Z0 (rpStr) (Z0 (@rpList _ (rpK .i64)) (Z0 (@rpList _ (a1F)) (Z0 (rpK .i64) (rpK .i64))))))))
abbrev b44 (v:Api_Type):(List Api_TypeNode)×Int:=(v.Nodes,v.Root)
abbrev c0h (x:(List Api_TypeNode)×Int):Api_Type:=⟨x.1,x.2⟩
@[reducible] def a9o:Rp Api_Type:=a1q b44 (Z0 (@rpList _ (a0y)) (rpK .i64))
abbrev b4V (v:Api_Goal):(List Int)×(List Int)×Bool:=(v.Pos,v.Neg,v.Lists)
abbrev c0c (x:(List Int)×(List Int)×Bool):Api_Goal:=⟨x.1,x.2.1,x.2.2⟩
@[reducible] def V4:Rp Api_Goal:=a1q b4V (Z0 (@rpList _ (rpK .i64)) (Z0 (@rpList _ (rpK .i64)) (rpBool)))
abbrev b4S (v:Api_Form):(List Int)×Bool×Int:=(v.Args,v.Fails,v.Result)
abbrev c0s (x:(List Int)×Bool×Int):Api_Form:=⟨x.1,x.2.1,x.2.2⟩
@[reducible] def a18:Rp Api_Form:=a1q b4S (Z0 (@rpList _ (rpK .i64)) (Z0 (rpBool) (rpK .i64)))
abbrev a5s (v:Api_Alternative):Val×(List Key)×(List Api_Form)×(List Api_Goal):=(v.Leaf,v.Keys,v.Forms,v.Subgoals)
abbrev b3p (x:Val×(List Key)×(List Api_Form)×(List Api_Goal)):Api_Alternative:=⟨x.1,x.2.1,x.2.2.1,x.2.2.2⟩
@[reducible] def a0w:Rp Api_Alternative:=a1q a5s (Z0 (rpVal) (Z0 (@rpList _ (rpKey)) (Z0 (@rpList _ (a18)) (@rpList _ (V4)))))
abbrev a7g (v:Api_EntryForm):(List Api_Goal)×Bool×Api_Goal:=(v.Args,v.Fails,v.Result)
abbrev b5h (x:(List Api_Goal)×Bool×Api_Goal):Api_EntryForm:=⟨x.1,x.2.1,x.2.2⟩
@[reducible] def X1:Rp Api_EntryForm:=a1q a7g (Z0 (@rpList _ (V4)) (Z0 (rpBool) (V4)))
abbrev b3P (v:Solve_Way):Api_Alternative×(List (List Api_EntryForm)):=(v.Alternative,v.Entries)
abbrev b8Y (x:Api_Alternative×(List (List Api_EntryForm))):Solve_Way:=⟨x.1,x.2⟩
@[reducible] def a7q:Rp Solve_Way:=a1q b3P (Z0 (a0w) (@rpList _ (@rpList _ (X1))))
abbrev b3c (v:Api_Names):Bool×(List ByteArray):=(v.Cofinite,v.List_)
abbrev b9m (x:Bool×(List ByteArray)):Api_Names:=⟨x.1,x.2⟩
@[reducible] def a0S:Rp Api_Names:=a1q b3c (Z0 (rpBool) (@rpList _ (rpStr)))
abbrev b2Q (v:Api_Range):Int×Int:=(v.Lo,v.Hi)
abbrev b93 (x:Int×Int):Api_Range:=⟨x.1,x.2⟩
@[reducible] def a1C:Rp Api_Range:=a1q b2Q (Z0 (rpK .i64) (rpK .i64))
abbrev b4T (v:Api_Line):Int×Int×(List Api_Range)×Api_Names×(List Int)×(List Int)×(List ByteArray)×(List ByteArray):=(v.Kind,v.Arity,v.Ints,v.Names,v.Pos,v.Neg,v.Vars,v.NotVars)
abbrev c0r (x:Int×Int×(List Api_Range)×Api_Names×(List Int)×(List Int)×(List ByteArray)×(List ByteArray)):Api_Line:=⟨x.1,x.2.1,x.2.2.1,x.2.2.2.1,x.2.2.2.2.1,x.2.2.2.2.2.1,x.2.2.2.2.2.2.1,x.2.2.2.2.2.2.2⟩
@[reducible] def a9i:Rp Api_Line:=a1q b4T (Z0 (rpK .i64) (Z0 (rpK .i64) (Z0 (@rpList _ (a1C)) (Z0 (a0S) (Z0 (@rpList _ (rpK .i64)) (Z0 (@rpList _ (rpK .i64)) (Z0 (@rpList _ (rpStr)) (@rpList _ (rpStr)))))))))
abbrev b3H (v:Core_Sort):Int×Int:=(v.Kind,v.Arity)
abbrev b83 (x:Int×Int):Core_Sort:=⟨x.1,x.2⟩
@[reducible] def a7D:Rp Core_Sort:=a1q b3H (Z0 (rpK .i64) (rpK .i64))
abbrev b3O (v:Core_pair):(List Int)×(List Int)×(List Int)×(List Int):=(v.pos,v.neg,v.finalPos,v.finalNeg)
abbrev b92 (x:(List Int)×(List Int)×(List Int)×(List Int)):Core_pair:=⟨x.1,x.2.1,x.2.2.1,x.2.2.2⟩
@[reducible] def a6U:Rp Core_pair:=a1q b3O (Z0 (@rpList _ (rpK .i64)) (Z0 (@rpList _ (rpK .i64)) (Z0 (@rpList _ (rpK .i64)) (@rpList _ (rpK .i64)))))
abbrev b55 (v:Api_Box):(List Api_Goal):=v.Parts
abbrev c06 (x:(List Api_Goal)):Api_Box:=⟨x⟩
@[reducible] def b1m:Rp Api_Box:=a1q b55 (@rpList _ (V4))
abbrev b1V (v:Value_used):Bool×Bool×Bool×Bool×Bool:=(v.number,v.text_,v.kids,v.keys,v.entries)
abbrev b8J (x:Bool×Bool×Bool×Bool×Bool):Value_used:=⟨x.1,x.2.1,x.2.2.1,x.2.2.2.1,x.2.2.2.2⟩
@[reducible] def a52:Rp Value_used:=a1q b1V (Z0 (rpBool) (Z0 (rpBool) (Z0 (rpBool) (Z0 (rpBool) (rpBool)))))
abbrev a5I (v:Literals_normal):Api_Names:=v.Names
abbrev b2S (x:Api_Names):Literals_normal:=⟨x⟩
@[reducible] def a2C:Rp Literals_normal:=a1q a5I (a0S)
def tyL:List TE:=[⟨2,Int,rpK .i64⟩,
 ⟨3,Int,rpK .i64⟩,
 ⟨4,Bool,rpBool⟩,
 ⟨9,ByteArray,rpStr⟩,
 ⟨22,List Val,@rpList _ (rpVal)⟩,
 ⟨23,List Key,@rpList _ (rpKey)⟩,
 ⟨24,List Ent,@rpList _ (rpEnt)⟩,
 ⟨25,List ByteArray,@rpList _ (rpStr)⟩,
 ⟨27,Val,rpVal⟩,
 ⟨31,List Api_TypeNode,@rpList _ (a0y)⟩,
 ⟨33,Api_Type,a9o⟩,
 ⟨40,List Int,@rpList _ (rpK .i64)⟩,
 ⟨42,Api_Goal,V4⟩,
 ⟨43,List Api_Field,@rpList _ (a1F)⟩,
 ⟨44,Int×Int,Z0 (rpK .i64) (rpK .i64)⟩,
 ⟨46,Api_TypeNode,a0y⟩,
 ⟨48,Ent,rpEnt⟩,
 ⟨65,List Api_Goal,@rpList _ (V4)⟩,
 ⟨69,List Api_Form,@rpList _ (a18)⟩,
 ⟨71,Api_Alternative,a0w⟩,
 ⟨72,List (List Api_EntryForm),@rpList _ (@rpList _ (X1))⟩,
 ⟨74,Solve_Way,a7q⟩,
 ⟨100,Key,rpKey⟩,
 ⟨102,Api_Field,a1F⟩,
 ⟨106,List Api_Range,@rpList _ (a1C)⟩,
 ⟨108,Api_Names,a0S⟩,
 ⟨110,Api_Line,a9i⟩,
 ⟨114,List Api_EntryForm,@rpList _ (X1)⟩,
 ⟨119,Api_EntryForm,X1⟩,
 ⟨149,Core_Sort,a7D⟩,
 ⟨168,Api_Form,a18⟩,
 ⟨175,Core_pair,a6U⟩,
 ⟨196,Api_Box,b1m⟩,
 ⟨221,Api_Range,a1C⟩,
 ⟨267,Value_used,a52⟩,
 ⟨272,Literals_normal,a2C⟩]
abbrev I (E:TypeId):Type:=(b4n tyL E).α
instance rI (E:TypeId):Rp (I E):=(b4n tyL E).rp
def b9G:Fd I (I 27) inferInstance:=(a0J (rg:=rpVal) (Z6 (a0K .i64:Fd I Int (rpK .i64)) (Z6 (a0K .i64:Fd I Int (rpK .i64)) (Z6 (b8S:Fd I ByteArray (rpStr)) (Z6 (K2 27:Fd I (List Val) (@rpList _ (rpVal))) (Z6 (K2 100:Fd I (List Key) (@rpList _ (rpKey))) (Z6 (K2 48:Fd I (List Ent) (@rpList _ (rpEnt))) ((K2 9:Fd I (List ByteArray) (@rpList _ (rpStr)))))))))) Val.to Val.of (fun _=>rfl) Val.cells_to:Fd I Val rpVal)
def c0j:Fd I (I 33) inferInstance:=(a0J (rg:=a9o) (Z6 (K2 46:Fd I (List Api_TypeNode) (@rpList _ (a0y))) ((a0K .i64:Fd I Int (rpK .i64)))) b44 c0h (fun _=>rfl) (fun _ _ _=>Iff.rfl):Fd I Api_Type a9o)
def b41:Fd I (I 42) inferInstance:=(a0J (rg:=V4) (Z6 (K2 3:Fd I (List Int) (@rpList _ (rpK .i64))) (Z6 (K2 3:Fd I (List Int) (@rpList _ (rpK .i64))) ((a1Y:Fd I Bool (rpBool))))) b4V c0c (fun _=>rfl) (fun _ _ _=>Iff.rfl):Fd I Api_Goal V4)
def c1x:Fd I (I 44) inferInstance:=(Z6 (a0K .i64:Fd I Int (rpK .i64)) ((a0K .i64:Fd I Int (rpK .i64))):Fd I (Int×Int) (Z0 (rpK .i64) (rpK .i64)))
def b6i:Fd I (I 46) inferInstance:=(a0J (rg:=a0y) (Z6 (a0K .i64:Fd I Int (rpK .i64)) (Z6 (a0K .i64:Fd I Int (rpK .i64)) (Z6 (a0K .i64:Fd I Int (rpK .i64)) (Z6 (b8S:Fd I ByteArray (rpStr)) (Z6 (K2 3:Fd I (List Int) (@rpList _ (rpK .i64))) (Z6 (K2 102:Fd I (List Api_Field) (@rpList _ (a1F))) ((a8b 44 c1x:Fd I (Int×Int) (Z0 (rpK .i64) (rpK .i64)))))))))) a8g b6T (fun _=>rfl) (fun _ _ _=>Iff.rfl):Fd I Api_TypeNode a0y)
def c4Q:Fd I (I 48) inferInstance:=(a0J (rg:=rpEnt) (Z6 (K2 27:Fd I (List Val) (@rpList _ (rpVal))) (Z6 (a1Y:Fd I Bool (rpBool)) ((a8b 27 b9G:Fd I Val (rpVal))))) Ent.to Ent.of (fun _=>rfl) Ent.cells_to:Fd I Ent rpEnt)
def a5m:Fd I (I 71) inferInstance:=(a0J (rg:=a0w) (Z6 (a8b 27 b9G:Fd I Val (rpVal)) (Z6 (K2 100:Fd I (List Key) (@rpList _ (rpKey))) (Z6 (K2 168:Fd I (List Api_Form) (@rpList _ (a18))) ((K2 42:Fd I (List Api_Goal) (@rpList _ (V4))))))) a5s b3p (fun _=>rfl) (fun _ _ _=>Iff.rfl):Fd I Api_Alternative a0w)
def b9h:Fd I (I 74) inferInstance:=(a0J (rg:=a7q) (Z6 (a8b 71 a5m:Fd I Api_Alternative (a0w)) ((K2 114:Fd I (List (List Api_EntryForm)) (@rpList _ (@rpList _ (X1)))))) b3P b8Y (fun _=>rfl) (fun _ _ _=>Iff.rfl):Fd I Solve_Way a7q)
def c13:Fd I (I 100) inferInstance:=(a0J (rg:=rpKey) (Z6 (a0K .i64:Fd I Int (rpK .i64)) ((b8S:Fd I ByteArray (rpStr)))) Key.to Key.of (fun _=>rfl) Key.cells_to:Fd I Key rpKey)
def b98:Fd I (I 102) inferInstance:=(a0J (rg:=a1F) (Z6 (a8b 100 c13:Fd I Key (rpKey)) (Z6 (a0K .i64:Fd I Int (rpK .i64)) ((a1Y:Fd I Bool (rpBool))))) b3s b9Y (fun _=>rfl) (fun _ _ _=>Iff.rfl):Fd I Api_Field a1F)
def a62:Fd I (I 108) inferInstance:=(a0J (rg:=a0S) (Z6 (a1Y:Fd I Bool (rpBool)) ((K2 9:Fd I (List ByteArray) (@rpList _ (rpStr))))) b3c b9m (fun _=>rfl) (fun _ _ _=>Iff.rfl):Fd I Api_Names a0S)
def c0b:Fd I (I 110) inferInstance:=(a0J (rg:=a9i) (Z6 (a0K .i64:Fd I Int (rpK .i64)) (Z6 (a0K .i64:Fd I Int (rpK .i64)) (Z6 (K2 221:Fd I (List Api_Range) (@rpList _ (a1C))) (Z6 (a8b 108 a62:Fd I Api_Names (a0S)) (Z6 (K2 3:Fd I (List Int) (@rpList _ (rpK .i64))) (Z6 (K2 3:Fd I (List Int) (@rpList _ (rpK .i64))) (Z6 (K2 9:Fd I (List ByteArray) (@rpList _ (rpStr))) ((K2 9:Fd I (List ByteArray) (@rpList _ (rpStr))))))))))) b4T c0r (fun _=>rfl) (fun _ _ _=>Iff.rfl):Fd I Api_Line a9i)
def b5l:Fd I (I 119) inferInstance:=(a0J (rg:=X1) (Z6 (K2 42:Fd I (List Api_Goal) (@rpList _ (V4))) (Z6 (a1Y:Fd I Bool (rpBool)) ((a8b 42 b41:Fd I Api_Goal (V4))))) a7g b5h (fun _=>rfl) (fun _ _ _=>Iff.rfl):Fd I Api_EntryForm X1)
def b88:Fd I (I 149) inferInstance:=(a0J (rg:=a7D) (Z6 (a0K .i64:Fd I Int (rpK .i64)) ((a0K .i64:Fd I Int (rpK .i64)))) b3H b83 (fun _=>rfl) (fun _ _ _=>Iff.rfl):Fd I Core_Sort a7D)
def c0n:Fd I (I 168) inferInstance:=(a0J (rg:=a18) (Z6 (K2 3:Fd I (List Int) (@rpList _ (rpK .i64))) (Z6 (a1Y:Fd I Bool (rpBool)) ((a0K .i64:Fd I Int (rpK .i64))))) b4S c0s (fun _=>rfl) (fun _ _ _=>Iff.rfl):Fd I Api_Form a18)
def b9W:Fd I (I 175) inferInstance:=(a0J (rg:=a6U) (Z6 (K2 3:Fd I (List Int) (@rpList _ (rpK .i64))) (Z6 (K2 3:Fd I (List Int) (@rpList _ (rpK .i64))) (Z6 (K2 3:Fd I (List Int) (@rpList _ (rpK .i64))) ((K2 3:Fd I (List Int) (@rpList _ (rpK .i64))))))) b3O b92 (fun _=>rfl) (fun _ _ _=>Iff.rfl):Fd I Core_pair a6U)
def c09:Fd I (I 196) inferInstance:=(a0J (rg:=b1m) ((K2 42:Fd I (List Api_Goal) (@rpList _ (V4)))) b55 c06 (fun _=>rfl) (fun _ _ _=>Iff.rfl):Fd I Api_Box b1m)
def b9t:Fd I (I 221) inferInstance:=(a0J (rg:=a1C) (Z6 (a0K .i64:Fd I Int (rpK .i64)) ((a0K .i64:Fd I Int (rpK .i64)))) b2Q b93 (fun _=>rfl) (fun _ _ _=>Iff.rfl):Fd I Api_Range a1C)
def b8C:Fd I (I 267) inferInstance:=(a0J (rg:=a52) (Z6 (a1Y:Fd I Bool (rpBool)) (Z6 (a1Y:Fd I Bool (rpBool)) (Z6 (a1Y:Fd I Bool (rpBool)) (Z6 (a1Y:Fd I Bool (rpBool)) ((a1Y:Fd I Bool (rpBool))))))) b1V b8J (fun _=>rfl) (fun _ _ _=>Iff.rfl):Fd I Value_used a52)
def b3U:Fd I (I 272) inferInstance:=(a0J (rg:=a2C) ((a8b 108 a62:Fd I Api_Names (a0S))) a5I b2S (fun _=>rfl) (fun _ _ _=>Iff.rfl):Fd I Literals_normal a2C)
def feL:List (FE I):=[⟨2,a0K .i64⟩,
 ⟨3,a0K .i64⟩,
 ⟨4,a1Y⟩,
 ⟨9,b8S⟩,
 ⟨22,K2 27⟩,
 ⟨23,K2 100⟩,
 ⟨24,K2 48⟩,
 ⟨25,K2 9⟩,
 ⟨27,b9G⟩,
 ⟨31,K2 46⟩,
 ⟨33,c0j⟩,
 ⟨40,K2 3⟩,
 ⟨42,b41⟩,
 ⟨43,K2 102⟩,
 ⟨44,c1x⟩,
 ⟨46,b6i⟩,
 ⟨48,c4Q⟩,
 ⟨65,K2 42⟩,
 ⟨69,K2 168⟩,
 ⟨71,a5m⟩,
 ⟨72,K2 114⟩,
 ⟨74,b9h⟩,
 ⟨100,c13⟩,
 ⟨102,b98⟩,
 ⟨106,K2 221⟩,
 ⟨108,a62⟩,
 ⟨110,c0b⟩,
 ⟨114,K2 119⟩,
 ⟨119,b5l⟩,
 ⟨149,b88⟩,
 ⟨168,c0n⟩,
 ⟨175,b9W⟩,
 ⟨196,c09⟩,
 ⟨221,b9t⟩,
 ⟨267,b8C⟩,
 ⟨272,b3U⟩]
def c4K:TabL I where
 sz:=[(27,7),(33,2),(42,3),(44,2),(46,8),(48,9),(55,2),(71,10),(74,11),(100,2),(102,4),(108,2),(110,9),(119,5),(149,2),(175,4),(196,1),(221,2),(267,5),(272,2)]
 one:=[(2,()),(3,()),(4,()),(9,()),(22,()),(23,()),(24,()),(25,()),(31,()),(40,()),(43,()),(52,()),(53,()),(65,()),(72,()),(103,()),(106,()),(114,())]
 fld:=[(27,[(0,3),(1,2),(2,9),(3,22),(4,23),(5,24),(6,25)]),(33,[(0,31),(1,3)]),(42,[(0,40),(1,40),(2,4)]),(46,[(0,3),(1,2),(2,2),(3,9),(4,40),(5,43),(6,44)]),(48,[(0,22),(1,4),(2,27)]),(55,[(0,52),(1,53)]),(71,[(0,27),(7,23),(8,69),(9,65)]),(74,[(0,71),(10,72)]),(100,[(0,3),(1,9)]),(102,[(0,100),(2,3),(3,4)]),(108,[(0,4),(1,25)]),(110,[(0,3),(1,3),(2,106),(3,108),(5,40),(6,40),(7,25),(8,25)]),(119,[(0,65),(1,4),(2,42)]),(149,[(0,3),(1,3)]),(175,[(0,40),(1,40),(2,40),(3,40)]),(196,[(0,65)]),(221,[(0,2),(1,2)]),(267,[(0,4),(1,4),(2,4),(3,4),(4,4)]),(272,[(0,108)])]
 el:=[(22,27),(23,100),(24,48),(25,9),(31,46),(40,3),(43,102),(65,42),(66,74),(72,114),(94,4),(104,110),(106,221),(111,71),(114,119),(146,149),(153,40),(176,175),(192,196)]
 str:=[(9,())]
 bool:=[(4,())]
 ik:=[(3,.i64),(5,.u8),(199,.u64)]
 fe:=feL
 inf:=[(2,1,8,[.int .i64 0]),(3,1,8,[.int .i64 0]),(4,1,1,[.bool false]),(9,1,16,[.str ⟨#[]⟩]),(22,1,24,[.nl 27]),(23,1,24,[.nl 100]),(24,1,24,[.nl 48]),(25,1,24,[.nl 9]),(27,7,128,[.int .i64 0,.int .i64 0,.str ⟨#[]⟩,.nl 27,.nl 100,.nl 48,.nl 9]),(31,1,24,[.nl 46]),(33,2,32,[.nl 46,.int .i64 0]),(40,1,24,[.nl 3]),(42,3,56,[.nl 3,.nl 3,.bool false]),(44,2,16,[.int .i64 0,.int .i64 0]),(46,8,104,[.int .i64 0,.int .i64 0,.int .i64 0,.str ⟨#[]⟩,.nl 3,.nl 102,.int .i64 0,.int .i64 0]),(48,9,160,[.nl 27,.bool false,.int .i64 0,.int .i64 0,.str ⟨#[]⟩,.nl 27,.nl 100,.nl 48,.nl 9]),(55,2,16,[.any,.any]),(65,1,24,[.nl 42]),(66,1,24,[.nl 74]),(71,10,200,[.int .i64 0,.int .i64 0,.str ⟨#[]⟩,.nl 27,.nl 100,.nl 48,.nl 9,.nl 100,.nl 168,.nl 42]),(74,11,224,[.int .i64 0,.int .i64 0,.str ⟨#[]⟩,.nl 27,.nl 100,.nl 48,.nl 9,.nl 100,.nl 168,.nl 42,.nl 114]),(100,2,24,[.int .i64 0,.str ⟨#[]⟩]),(102,4,40,[.int .i64 0,.str ⟨#[]⟩,.int .i64 0,.bool false]),(103,1,8,[.any]),(106,1,24,[.nl 221]),(108,2,32,[.bool false,.nl 9]),(110,9,168,[.int .i64 0,.int .i64 0,.nl 221,.bool false,.nl 9,.nl 3,.nl 3,.nl 9,.nl 9]),(114,1,24,[.nl 119]),(119,5,88,[.nl 42,.bool false,.nl 3,.nl 3,.bool false]),(149,2,16,[.int .i64 0,.int .i64 0]),(175,4,96,[.nl 3,.nl 3,.nl 3,.nl 3]),(196,1,24,[.nl 42]),(221,2,16,[.int .i64 0,.int .i64 0]),(267,5,5,[.bool false,.bool false,.bool false,.bool false,.bool false]),(272,2,32,[.bool false,.nl 9])]
 st:=[(27,[(0,1),(1,1),(2,1),(3,1),(4,1),(5,1),(6,1)]),(33,[(0,1),(1,1)]),(42,[(0,1),(1,1),(2,1)]),(44,[(0,1),(1,1)]),(46,[(0,1),(1,1),(2,1),(3,1),(4,1),(5,1),(6,2)]),(48,[(0,1),(1,1),(2,7)]),(55,[(0,1),(1,1)]),(71,[(0,7),(7,1),(8,1),(9,1)]),(74,[(0,10),(10,1)]),(108,[(0,1),(1,1)]),(110,[(0,1),(1,1),(2,1),(3,2),(5,1),(6,1),(7,1),(8,1)]),(149,[(0,1),(1,1)]),(175,[(0,1),(1,1),(2,1),(3,1)]),(221,[(0,1),(1,1)]),(267,[(0,1),(1,1),(2,1),(3,1),(4,1)]),(272,[(0,2)])]
 eq:=[(44,b9L feL 44 b3x),(100,b9L feL 100 a9Q)]
 nest:=[(40,3,0),(42,3,1)]
 arr:=[(44,3,2,1)]
 mp:=[(52,.sl 74),(53,.int .i64),(177,.bool)]
 fb:=[(55,()),(76,()),(77,()),(79,()),(80,()),(82,()),(118,()),(122,()),(125,()),(147,()),(164,()),(172,()),(178,()),(199,()),(269,()),(273,())]
abbrev tb:Tab I:=c24 c4K
theorem ti2:Z3 Go.Proofs.Tryz.prog 2 (.int .i64 0) 1 8:=v7 (by kernel_rfl)
theorem ti3:Z3 Go.Proofs.Tryz.prog 3 (.int .i64 0) 1 8:=v7 (by kernel_rfl)
theorem ti4:Z3 Go.Proofs.Tryz.prog 4 (.bool false) 1 1:=v7 (by kernel_rfl)
theorem ti9:Z3 Go.Proofs.Tryz.prog 9 (.string ⟨#[]⟩) 1 16:=v7 (by kernel_rfl)
theorem c5L:Z3 Go.Proofs.Tryz.prog 22 (.slice none 0 0) 1 24:=v7 (by kernel_rfl)
theorem c6a:Z3 Go.Proofs.Tryz.prog 23 (.slice none 0 0) 1 24:=v7 (by kernel_rfl)
theorem c5O:Z3 Go.Proofs.Tryz.prog 24 (.slice none 0 0) 1 24:=v7 (by kernel_rfl)
theorem c5R:Z3 Go.Proofs.Tryz.prog 25 (.slice none 0 0) 1 24:=v7 (by kernel_rfl)
theorem c4x:Z3 Go.Proofs.Tryz.prog 27 (.agg #[.int .i64 0,.int .i64 0,.string ⟨#[]⟩,.slice none 0 0,.slice none 0 0,.slice none 0 0,.slice none 0 0]) 7 128:=v7 (by kernel_rfl)
theorem c54:Z3 Go.Proofs.Tryz.prog 31 (.slice none 0 0) 1 24:=v7 (by kernel_rfl)
theorem c5S:Z3 Go.Proofs.Tryz.prog 33 (.agg #[.slice none 0 0,.int .i64 0]) 2 32:=v7 (by kernel_rfl)
theorem c4S:Z3 Go.Proofs.Tryz.prog 40 (.slice none 0 0) 1 24:=v7 (by kernel_rfl)
theorem c39:Z3 Go.Proofs.Tryz.prog 42 (.agg #[.slice none 0 0,.slice none 0 0,.bool false]) 3 56:=v7 (by kernel_rfl)
theorem c5Q:Z3 Go.Proofs.Tryz.prog 44 (.agg #[.int .i64 0,.int .i64 0]) 2 16:=v7 (by kernel_rfl)
theorem c36:Z3 Go.Proofs.Tryz.prog 46 (.agg #[.int .i64 0,.int .i64 0,.int .i64 0,.string ⟨#[]⟩,.slice none 0 0,.slice none 0 0,.int .i64 0,.int .i64 0]) 8 104:=v7 (by kernel_rfl)
theorem c4f:Z3 Go.Proofs.Tryz.prog 48 (.agg #[.slice none 0 0,.bool false,.int .i64 0,.int .i64 0,.string ⟨#[]⟩,.slice none 0 0,.slice none 0 0,.slice none 0 0,.slice none 0 0]) 9 160:=v7 (by kernel_rfl)
theorem c6c:Z3 Go.Proofs.Tryz.prog 55 (.agg #[.map none,.map none]) 2 16:=v7 (by kernel_rfl)
theorem c5N:Z3 Go.Proofs.Tryz.prog 65 (.slice none 0 0) 1 24:=v7 (by kernel_rfl)
theorem c44:Z3 Go.Proofs.Tryz.prog 66 (.slice none 0 0) 1 24:=v7 (by kernel_rfl)
theorem c4E:Z3 Go.Proofs.Tryz.prog 71 (.agg #[.int .i64 0,.int .i64 0,.string ⟨#[]⟩,.slice none 0 0,.slice none 0 0,.slice none 0 0,.slice none 0 0,.slice none 0 0,.slice none 0 0,.slice none 0 0]) 10 200:=v7 (by kernel_rfl)
theorem c4A:Z3 Go.Proofs.Tryz.prog 74 (.agg #[.int .i64 0,.int .i64 0,.string ⟨#[]⟩,.slice none 0 0,.slice none 0 0,.slice none 0 0,.slice none 0 0,.slice none 0 0,.slice none 0 0,.slice none 0 0,.slice none 0 0]) 11 224:=v7 (by kernel_rfl)
theorem c3d:Z3 Go.Proofs.Tryz.prog 100 (.agg #[.int .i64 0,.string ⟨#[]⟩]) 2 24:=v7 (by kernel_rfl)
theorem c20:Z3 Go.Proofs.Tryz.prog 102 (.agg #[.int .i64 0,.string ⟨#[]⟩,.int .i64 0,.bool false]) 4 40:=v7 (by kernel_rfl)
theorem c5B:Z3 Go.Proofs.Tryz.prog 103 (.nilFunc) 1 8:=v7 (by kernel_rfl)
theorem c5r:Z3 Go.Proofs.Tryz.prog 106 (.slice none 0 0) 1 24:=v7 (by kernel_rfl)
theorem c5c:Z3 Go.Proofs.Tryz.prog 108 (.agg #[.bool false,.slice none 0 0]) 2 32:=v7 (by kernel_rfl)
theorem c3o:Z3 Go.Proofs.Tryz.prog 110 (.agg #[.int .i64 0,.int .i64 0,.slice none 0 0,.bool false,.slice none 0 0,.slice none 0 0,.slice none 0 0,.slice none 0 0,.slice none 0 0]) 9 168:=v7 (by kernel_rfl)
theorem c3b:Z3 Go.Proofs.Tryz.prog 114 (.slice none 0 0) 1 24:=v7 (by kernel_rfl)
theorem c3l:Z3 Go.Proofs.Tryz.prog 119 (.agg #[.slice none 0 0,.bool false,.slice none 0 0,.slice none 0 0,.bool false]) 5 88:=v7 (by kernel_rfl)
theorem c3i:Z3 Go.Proofs.Tryz.prog 149 (.agg #[.int .i64 0,.int .i64 0]) 2 16:=v7 (by kernel_rfl)
theorem c3p:Z3 Go.Proofs.Tryz.prog 175 (.agg #[.slice none 0 0,.slice none 0 0,.slice none 0 0,.slice none 0 0]) 4 96:=v7 (by kernel_rfl)
theorem c23:Z3 Go.Proofs.Tryz.prog 196 (.agg #[.slice none 0 0]) 1 24:=v7 (by kernel_rfl)
theorem c28:Z3 Go.Proofs.Tryz.prog 221 (.agg #[.int .i64 0,.int .i64 0]) 2 16:=v7 (by kernel_rfl)
theorem c5f:Z3 Go.Proofs.Tryz.prog 267 (.agg #[.bool false,.bool false,.bool false,.bool false,.bool false]) 5 5:=v7 (by kernel_rfl)
theorem c5k:Z3 Go.Proofs.Tryz.prog 272 (.agg #[.bool false,.slice none 0 0]) 2 32:=v7 (by kernel_rfl)
theorem to2:V1 Go.Proofs.Tryz.prog 2:=⟨_,Go.Proofs.Tryz.underlying2,rfl,by kernel_rfl⟩
theorem to3:V1 Go.Proofs.Tryz.prog 3:=⟨_,Go.Proofs.Tryz.underlying3,rfl,by kernel_rfl⟩
theorem to4:V1 Go.Proofs.Tryz.prog 4:=⟨_,Go.Proofs.Tryz.underlying4,rfl,by kernel_rfl⟩
theorem to9:V1 Go.Proofs.Tryz.prog 9:=⟨_,Go.Proofs.Tryz.underlying9,rfl,by kernel_rfl⟩
theorem c56:V1 Go.Proofs.Tryz.prog 22:=⟨_,Go.Proofs.Tryz.underlying22,rfl,by kernel_rfl⟩
theorem c5W:V1 Go.Proofs.Tryz.prog 23:=⟨_,Go.Proofs.Tryz.underlying23,rfl,by kernel_rfl⟩
theorem c5U:V1 Go.Proofs.Tryz.prog 24:=⟨_,Go.Proofs.Tryz.underlying24,rfl,by kernel_rfl⟩
theorem c58:V1 Go.Proofs.Tryz.prog 25:=⟨_,Go.Proofs.Tryz.underlying25,rfl,by kernel_rfl⟩
theorem c53:V1 Go.Proofs.Tryz.prog 31:=⟨_,Go.Proofs.Tryz.underlying31,rfl,by kernel_rfl⟩
theorem c5Y:V1 Go.Proofs.Tryz.prog 40:=⟨_,Go.Proofs.Tryz.underlying40,rfl,by kernel_rfl⟩
theorem c5J:V1 Go.Proofs.Tryz.prog 43:=⟨_,Go.Proofs.Tryz.underlying43,rfl,by kernel_rfl⟩
theorem c5K:V1 Go.Proofs.Tryz.prog 52:=⟨_,Go.Proofs.Tryz.underlying52,rfl,by kernel_rfl⟩
theorem c5M:V1 Go.Proofs.Tryz.prog 53:=⟨_,Go.Proofs.Tryz.underlying53,rfl,by kernel_rfl⟩
theorem c5V:V1 Go.Proofs.Tryz.prog 65:=⟨_,Go.Proofs.Tryz.underlying65,rfl,by kernel_rfl⟩
theorem c6b:V1 Go.Proofs.Tryz.prog 72:=⟨_,Go.Proofs.Tryz.underlying72,rfl,by kernel_rfl⟩
theorem c5v:V1 Go.Proofs.Tryz.prog 103:=⟨_,Go.Proofs.Tryz.underlying103,rfl,by kernel_rfl⟩
theorem c5F:V1 Go.Proofs.Tryz.prog 106:=⟨_,Go.Proofs.Tryz.underlying106,rfl,by kernel_rfl⟩
theorem c5A:V1 Go.Proofs.Tryz.prog 114:=⟨_,Go.Proofs.Tryz.underlying114,rfl,by kernel_rfl⟩
theorem c6d {σ:S}{x y:Int×Int}{cs ds:List Value}(h:(rI 44).cells σ x cs)(k:(rI 44).cells σ y ds):Sx.EqAt Go.Proofs.Tryz.prog 2 44 (.agg cs.toArray) (.agg ds.toArray) (b3x x y):=by
 obtain ⟨_,_,rfl,rfl,rfl⟩:=h
 obtain ⟨_,_,rfl,rfl,rfl⟩:=k
 exact c2t Go.Proofs.Tryz.underlying44 ti3 (b72 (a1P to3 rfl) (a1P to3 rfl) (b5P Go.Proofs.Tryz.underlying3) (b72 (a1P to3 rfl) (a1P to3 rfl) (b5P Go.Proofs.Tryz.underlying3) c2W))
theorem c5z {σ:S}{x y:Key}{cs ds:List Value}(h:(rI 100).cells σ x cs)(k:(rI 100).cells σ y ds):Sx.EqAt Go.Proofs.Tryz.prog 2 100 (.agg cs.toArray) (.agg ds.toArray) (a9Q x y):=by
 obtain ⟨_,_,rfl,rfl,rfl⟩:=h
 obtain ⟨_,_,rfl,rfl,rfl⟩:=k
 exact c0o Go.Proofs.Tryz.underlying100 (by kernel_rfl) (b79 (by decide) (a1P to3 rfl) (a1P to3 rfl) (b5P Go.Proofs.Tryz.underlying3) (b79 (by decide) (a1P to9 rfl) (a1P to9 rfl) (c2b Go.Proofs.Tryz.underlying9) c2M))
theorem eqT (T:TypeId)(g:I T->I T->Bool){K:Nat}(h:∀ {σ:S} {x y:I T} {cs ds:List Value},Rp.cells σ x cs->Rp.cells σ y ds->Sx.EqAt Go.Proofs.Tryz.prog K T (.agg cs.toArray) (.agg ds.toArray) (g x y))(hg:Go.Proofs.Tryz.prog.eqGuardType (Go.Proofs.Tryz.prog).depth T=false)(hK:Nat.ble K 10000=true)
 {X:Cxt} {c:Cx} {σ:S} {ls ms:List (PV I)} {r:Bool} {cs ds:List Value} (h1:b9L feL T g ls ms=some r) (h2:RG X c σ ls cs) (h3:RG X c σ ms ds) :
 Go.Proofs.Tryz.prog.eqGuardType (Go.Proofs.Tryz.prog).depth T=false/\∃ j,Nat.ble j 10000=true/\Sx.EqAt Go.Proofs.Tryz.prog j T (.agg cs.toArray) (.agg ds.toArray) r:=by
 obtain ⟨x,y,k1,k2,rfl⟩:=c3D h1 h2 h3
 exact ⟨hg,K,hK,h k1 k2⟩
theorem c42:TabLOk Go.Proofs.Tryz.prog c4K where
 sz:=⟨⟨_,Go.Proofs.Tryz.underlying27,rfl,by kernel_rfl⟩,⟨⟨_,Go.Proofs.Tryz.underlying33,rfl,by kernel_rfl⟩,⟨⟨_,Go.Proofs.Tryz.underlying42,rfl,by kernel_rfl⟩,⟨⟨_,Go.Proofs.Tryz.underlying44,rfl,by kernel_rfl⟩,⟨⟨_,Go.Proofs.Tryz.underlying46,rfl,by kernel_rfl⟩,⟨⟨_,Go.Proofs.Tryz.underlying48,rfl,by kernel_rfl⟩,⟨⟨_,Go.Proofs.Tryz.underlying55,rfl,by kernel_rfl⟩,⟨⟨_,Go.Proofs.Tryz.underlying71,rfl,by kernel_rfl⟩,⟨⟨_,Go.Proofs.Tryz.underlying74,rfl,by kernel_rfl⟩,⟨⟨_,Go.Proofs.Tryz.underlying100,rfl,by kernel_rfl⟩,⟨⟨_,Go.Proofs.Tryz.underlying102,rfl,by kernel_rfl⟩,⟨⟨_,Go.Proofs.Tryz.underlying108,rfl,by kernel_rfl⟩,⟨⟨_,Go.Proofs.Tryz.underlying110,rfl,by kernel_rfl⟩,⟨⟨_,Go.Proofs.Tryz.underlying119,rfl,by kernel_rfl⟩,⟨⟨_,Go.Proofs.Tryz.underlying149,rfl,by kernel_rfl⟩,⟨⟨_,Go.Proofs.Tryz.underlying175,rfl,by kernel_rfl⟩,⟨⟨_,Go.Proofs.Tryz.underlying196,rfl,by kernel_rfl⟩,⟨⟨_,Go.Proofs.Tryz.underlying221,rfl,by kernel_rfl⟩,⟨⟨_,Go.Proofs.Tryz.underlying267,rfl,by kernel_rfl⟩,⟨⟨_,Go.Proofs.Tryz.underlying272,rfl,by kernel_rfl⟩,trivial⟩⟩⟩⟩⟩⟩⟩⟩⟩⟩⟩⟩⟩⟩⟩⟩⟩⟩⟩⟩
 one:=⟨to2,⟨to3,⟨to4,⟨to9,⟨c56,⟨c5W,⟨c5U,⟨c58,⟨c53,⟨c5Y,⟨c5J,⟨c5K,⟨c5M,⟨c5V,⟨c6b,⟨c5v,⟨c5F,⟨c5A,trivial⟩⟩⟩⟩⟩⟩⟩⟩⟩⟩⟩⟩⟩⟩⟩⟩⟩⟩
 fld:=⟨⟨⟨_,_,Go.Proofs.Tryz.underlying27,rfl,rfl,by kernel_rfl⟩,⟨⟨_,_,Go.Proofs.Tryz.underlying27,rfl,rfl⟩,⟨⟨_,_,Go.Proofs.Tryz.underlying27,rfl,rfl,by kernel_rfl⟩,⟨⟨_,_,Go.Proofs.Tryz.underlying27,rfl,rfl⟩,⟨⟨_,_,Go.Proofs.Tryz.underlying27,rfl,rfl,by kernel_rfl⟩,⟨⟨_,_,Go.Proofs.Tryz.underlying27,rfl,rfl⟩,⟨⟨_,_,Go.Proofs.Tryz.underlying27,rfl,rfl,by kernel_rfl⟩,⟨⟨_,_,Go.Proofs.Tryz.underlying27,rfl,rfl⟩,⟨⟨_,_,Go.Proofs.Tryz.underlying27,rfl,rfl,by kernel_rfl⟩,⟨⟨_,_,Go.Proofs.Tryz.underlying27,rfl,rfl⟩,⟨⟨_,_,Go.Proofs.Tryz.underlying27,rfl,rfl,by kernel_rfl⟩,⟨⟨_,_,Go.Proofs.Tryz.underlying27,rfl,rfl⟩,⟨⟨_,_,Go.Proofs.Tryz.underlying27,rfl,rfl,by kernel_rfl⟩,⟨⟨_,_,Go.Proofs.Tryz.underlying27,rfl,rfl⟩,trivial⟩⟩⟩⟩⟩⟩⟩⟩⟩⟩⟩⟩⟩⟩,⟨⟨⟨_,_,Go.Proofs.Tryz.underlying33,rfl,rfl,by kernel_rfl⟩,⟨⟨_,_,Go.Proofs.Tryz.underlying33,rfl,rfl⟩,⟨⟨_,_,Go.Proofs.Tryz.underlying33,rfl,rfl,by kernel_rfl⟩,⟨⟨_,_,Go.Proofs.Tryz.underlying33,rfl,rfl⟩,trivial⟩⟩⟩⟩,⟨⟨⟨_,_,Go.Proofs.Tryz.underlying42,rfl,rfl,by kernel_rfl⟩,⟨⟨_,_,Go.Proofs.Tryz.underlying42,rfl,rfl⟩,⟨⟨_,_,Go.Proofs.Tryz.underlying42,rfl,rfl,by kernel_rfl⟩,⟨⟨_,_,Go.Proofs.Tryz.underlying42,rfl,rfl⟩,⟨⟨_,_,Go.Proofs.Tryz.underlying42,rfl,rfl,by kernel_rfl⟩,⟨⟨_,_,Go.Proofs.Tryz.underlying42,rfl,rfl⟩,trivial⟩⟩⟩⟩⟩⟩,⟨⟨⟨_,_,Go.Proofs.Tryz.underlying46,rfl,rfl,by kernel_rfl⟩,⟨⟨_,_,Go.Proofs.Tryz.underlying46,rfl,rfl⟩,⟨⟨_,_,Go.Proofs.Tryz.underlying46,rfl,rfl,by kernel_rfl⟩,⟨⟨_,_,Go.Proofs.Tryz.underlying46,rfl,rfl⟩,⟨⟨_,_,Go.Proofs.Tryz.underlying46,rfl,rfl,by kernel_rfl⟩,⟨⟨_,_,Go.Proofs.Tryz.underlying46,rfl,rfl⟩,⟨⟨_,_,Go.Proofs.Tryz.underlying46,rfl,rfl,by kernel_rfl⟩,⟨⟨_,_,Go.Proofs.Tryz.underlying46,rfl,rfl⟩,⟨⟨_,_,Go.Proofs.Tryz.underlying46,rfl,rfl,by kernel_rfl⟩,⟨⟨_,_,Go.Proofs.Tryz.underlying46,rfl,rfl⟩,⟨⟨_,_,Go.Proofs.Tryz.underlying46,rfl,rfl,by kernel_rfl⟩,⟨⟨_,_,Go.Proofs.Tryz.underlying46,rfl,rfl⟩,⟨⟨_,_,Go.Proofs.Tryz.underlying46,rfl,rfl,by kernel_rfl⟩,⟨⟨_,_,Go.Proofs.Tryz.underlying46,rfl,rfl⟩,trivial⟩⟩⟩⟩⟩⟩⟩⟩⟩⟩⟩⟩⟩⟩,⟨⟨⟨_,_,Go.Proofs.Tryz.underlying48,rfl,rfl,by kernel_rfl⟩,⟨⟨_,_,Go.Proofs.Tryz.underlying48,rfl,rfl⟩,⟨⟨_,_,Go.Proofs.Tryz.underlying48,rfl,rfl,by kernel_rfl⟩,⟨⟨_,_,Go.Proofs.Tryz.underlying48,rfl,rfl⟩,⟨⟨_,_,Go.Proofs.Tryz.underlying48,rfl,rfl,by kernel_rfl⟩,⟨⟨_,_,Go.Proofs.Tryz.underlying48,rfl,rfl⟩,trivial⟩⟩⟩⟩⟩⟩,⟨⟨⟨_,_,Go.Proofs.Tryz.underlying55,rfl,rfl,by kernel_rfl⟩,⟨⟨_,_,Go.Proofs.Tryz.underlying55,rfl,rfl⟩,⟨⟨_,_,Go.Proofs.Tryz.underlying55,rfl,rfl,by kernel_rfl⟩,⟨⟨_,_,Go.Proofs.Tryz.underlying55,rfl,rfl⟩,trivial⟩⟩⟩⟩,⟨⟨⟨_,_,Go.Proofs.Tryz.underlying71,rfl,rfl,by kernel_rfl⟩,⟨⟨_,_,Go.Proofs.Tryz.underlying71,rfl,rfl⟩,⟨⟨_,_,Go.Proofs.Tryz.underlying71,rfl,rfl,by kernel_rfl⟩,⟨⟨_,_,Go.Proofs.Tryz.underlying71,rfl,rfl⟩,⟨⟨_,_,Go.Proofs.Tryz.underlying71,rfl,rfl,by kernel_rfl⟩,⟨⟨_,_,Go.Proofs.Tryz.underlying71,rfl,rfl⟩,⟨⟨_,_,Go.Proofs.Tryz.underlying71,rfl,rfl,by kernel_rfl⟩,⟨⟨_,_,Go.Proofs.Tryz.underlying71,rfl,rfl⟩,trivial⟩⟩⟩⟩⟩⟩⟩⟩,⟨⟨⟨_,_,Go.Proofs.Tryz.underlying74,rfl,rfl,by kernel_rfl⟩,⟨⟨_,_,Go.Proofs.Tryz.underlying74,rfl,rfl⟩,⟨⟨_,_,Go.Proofs.Tryz.underlying74,rfl,rfl,by kernel_rfl⟩,⟨⟨_,_,Go.Proofs.Tryz.underlying74,rfl,rfl⟩,trivial⟩⟩⟩⟩,⟨⟨⟨_,_,Go.Proofs.Tryz.underlying100,rfl,rfl,by kernel_rfl⟩,⟨⟨_,_,Go.Proofs.Tryz.underlying100,rfl,rfl⟩,⟨⟨_,_,Go.Proofs.Tryz.underlying100,rfl,rfl,by kernel_rfl⟩,⟨⟨_,_,Go.Proofs.Tryz.underlying100,rfl,rfl⟩,trivial⟩⟩⟩⟩,⟨⟨⟨_,_,Go.Proofs.Tryz.underlying102,rfl,rfl,by kernel_rfl⟩,⟨⟨_,_,Go.Proofs.Tryz.underlying102,rfl,rfl⟩,⟨⟨_,_,Go.Proofs.Tryz.underlying102,rfl,rfl,by kernel_rfl⟩,⟨⟨_,_,Go.Proofs.Tryz.underlying102,rfl,rfl⟩,⟨⟨_,_,Go.Proofs.Tryz.underlying102,rfl,rfl,by kernel_rfl⟩,⟨⟨_,_,Go.Proofs.Tryz.underlying102,rfl,rfl⟩,trivial⟩⟩⟩⟩⟩⟩,⟨⟨⟨_,_,Go.Proofs.Tryz.underlying108,rfl,rfl,by kernel_rfl⟩,⟨⟨_,_,Go.Proofs.Tryz.underlying108,rfl,rfl⟩,⟨⟨_,_,Go.Proofs.Tryz.underlying108,rfl,rfl,by kernel_rfl⟩,⟨⟨_,_,Go.Proofs.Tryz.underlying108,rfl,rfl⟩,trivial⟩⟩⟩⟩,⟨⟨⟨_,_,Go.Proofs.Tryz.underlying110,rfl,rfl,by kernel_rfl⟩,⟨⟨_,_,Go.Proofs.Tryz.underlying110,rfl,rfl⟩,⟨⟨_,_,Go.Proofs.Tryz.underlying110,rfl,rfl,by kernel_rfl⟩,⟨⟨_,_,Go.Proofs.Tryz.underlying110,rfl,rfl⟩,⟨⟨_,_,Go.Proofs.Tryz.underlying110,rfl,rfl,by kernel_rfl⟩,⟨⟨_,_,Go.Proofs.Tryz.underlying110,rfl,rfl⟩,⟨⟨_,_,Go.Proofs.Tryz.underlying110,rfl,rfl,by kernel_rfl⟩,⟨⟨_,_,Go.Proofs.Tryz.underlying110,rfl,rfl⟩,⟨⟨_,_,Go.Proofs.Tryz.underlying110,rfl,rfl,by kernel_rfl⟩,⟨⟨_,_,Go.Proofs.Tryz.underlying110,rfl,rfl⟩,⟨⟨_,_,Go.Proofs.Tryz.underlying110,rfl,rfl,by kernel_rfl⟩,⟨⟨_,_,Go.Proofs.Tryz.underlying110,rfl,rfl⟩,⟨⟨_,_,Go.Proofs.Tryz.underlying110,rfl,rfl,by kernel_rfl⟩,⟨⟨_,_,Go.Proofs.Tryz.underlying110,rfl,rfl⟩,⟨⟨_,_,Go.Proofs.Tryz.underlying110,rfl,rfl,by kernel_rfl⟩,⟨⟨_,_,Go.Proofs.Tryz.underlying110,rfl,rfl⟩,trivial⟩⟩⟩⟩⟩⟩⟩⟩⟩⟩⟩⟩⟩⟩⟩⟩,⟨⟨⟨_,_,Go.Proofs.Tryz.underlying119,rfl,rfl,by kernel_rfl⟩,⟨⟨_,_,Go.Proofs.Tryz.underlying119,rfl,rfl⟩,⟨⟨_,_,Go.Proofs.Tryz.underlying119,rfl,rfl,by kernel_rfl⟩,⟨⟨_,_,Go.Proofs.Tryz.underlying119,rfl,rfl⟩,⟨⟨_,_,Go.Proofs.Tryz.underlying119,rfl,rfl,by kernel_rfl⟩,⟨⟨_,_,Go.Proofs.Tryz.underlying119,rfl,rfl⟩,trivial⟩⟩⟩⟩⟩⟩,⟨⟨⟨_,_,Go.Proofs.Tryz.underlying149,rfl,rfl,by kernel_rfl⟩,⟨⟨_,_,Go.Proofs.Tryz.underlying149,rfl,rfl⟩,⟨⟨_,_,Go.Proofs.Tryz.underlying149,rfl,rfl,by kernel_rfl⟩,⟨⟨_,_,Go.Proofs.Tryz.underlying149,rfl,rfl⟩,trivial⟩⟩⟩⟩,⟨⟨⟨_,_,Go.Proofs.Tryz.underlying175,rfl,rfl,by kernel_rfl⟩,⟨⟨_,_,Go.Proofs.Tryz.underlying175,rfl,rfl⟩,⟨⟨_,_,Go.Proofs.Tryz.underlying175,rfl,rfl,by kernel_rfl⟩,⟨⟨_,_,Go.Proofs.Tryz.underlying175,rfl,rfl⟩,⟨⟨_,_,Go.Proofs.Tryz.underlying175,rfl,rfl,by kernel_rfl⟩,⟨⟨_,_,Go.Proofs.Tryz.underlying175,rfl,rfl⟩,⟨⟨_,_,Go.Proofs.Tryz.underlying175,rfl,rfl,by kernel_rfl⟩,⟨⟨_,_,Go.Proofs.Tryz.underlying175,rfl,rfl⟩,trivial⟩⟩⟩⟩⟩⟩⟩⟩,⟨⟨⟨_,_,Go.Proofs.Tryz.underlying196,rfl,rfl,by kernel_rfl⟩,⟨⟨_,_,Go.Proofs.Tryz.underlying196,rfl,rfl⟩,trivial⟩⟩,⟨⟨⟨_,_,Go.Proofs.Tryz.underlying221,rfl,rfl,by kernel_rfl⟩,⟨⟨_,_,Go.Proofs.Tryz.underlying221,rfl,rfl⟩,⟨⟨_,_,Go.Proofs.Tryz.underlying221,rfl,rfl,by kernel_rfl⟩,⟨⟨_,_,Go.Proofs.Tryz.underlying221,rfl,rfl⟩,trivial⟩⟩⟩⟩,⟨⟨⟨_,_,Go.Proofs.Tryz.underlying267,rfl,rfl,by kernel_rfl⟩,⟨⟨_,_,Go.Proofs.Tryz.underlying267,rfl,rfl⟩,⟨⟨_,_,Go.Proofs.Tryz.underlying267,rfl,rfl,by kernel_rfl⟩,⟨⟨_,_,Go.Proofs.Tryz.underlying267,rfl,rfl⟩,⟨⟨_,_,Go.Proofs.Tryz.underlying267,rfl,rfl,by kernel_rfl⟩,⟨⟨_,_,Go.Proofs.Tryz.underlying267,rfl,rfl⟩,⟨⟨_,_,Go.Proofs.Tryz.underlying267,rfl,rfl,by kernel_rfl⟩,⟨⟨_,_,Go.Proofs.Tryz.underlying267,rfl,rfl⟩,⟨⟨_,_,Go.Proofs.Tryz.underlying267,rfl,rfl,by kernel_rfl⟩,⟨⟨_,_,Go.Proofs.Tryz.underlying267,rfl,rfl⟩,trivial⟩⟩⟩⟩⟩⟩⟩⟩⟩⟩,⟨⟨⟨_,_,Go.Proofs.Tryz.underlying272,rfl,rfl,by kernel_rfl⟩,⟨⟨_,_,Go.Proofs.Tryz.underlying272,rfl,rfl⟩,trivial⟩⟩,trivial⟩⟩⟩⟩⟩⟩⟩⟩⟩⟩⟩⟩⟩⟩⟩⟩⟩⟩⟩
 el:=⟨⟨Go.Proofs.Tryz.underlying22,_,_,c4x,rfl,by decide⟩,⟨⟨Go.Proofs.Tryz.underlying23,_,_,c3d,rfl,by decide⟩,⟨⟨Go.Proofs.Tryz.underlying24,_,_,c4f,rfl,by decide⟩,⟨⟨Go.Proofs.Tryz.underlying25,_,_,ti9,rfl,by decide⟩,⟨⟨Go.Proofs.Tryz.underlying31,_,_,c36,rfl,by decide⟩,⟨⟨Go.Proofs.Tryz.underlying40,_,_,ti3,rfl,by decide⟩,⟨⟨Go.Proofs.Tryz.underlying43,_,_,c20,rfl,by decide⟩,⟨⟨Go.Proofs.Tryz.underlying65,_,_,c39,rfl,by decide⟩,⟨⟨Go.Proofs.Tryz.underlying66,_,_,c4A,rfl,by decide⟩,⟨⟨Go.Proofs.Tryz.underlying72,_,_,c3b,rfl,by decide⟩,⟨⟨Go.Proofs.Tryz.underlying94,_,_,ti4,rfl,by decide⟩,⟨⟨Go.Proofs.Tryz.underlying104,_,_,c3o,rfl,by decide⟩,⟨⟨Go.Proofs.Tryz.underlying106,_,_,c28,rfl,by decide⟩,⟨⟨Go.Proofs.Tryz.underlying111,_,_,c4E,rfl,by decide⟩,⟨⟨Go.Proofs.Tryz.underlying114,_,_,c3l,rfl,by decide⟩,⟨⟨Go.Proofs.Tryz.underlying146,_,_,c3i,rfl,by decide⟩,⟨⟨Go.Proofs.Tryz.underlying153,_,_,c4S,rfl,by decide⟩,⟨⟨Go.Proofs.Tryz.underlying176,_,_,c3p,rfl,by decide⟩,⟨⟨Go.Proofs.Tryz.underlying192,_,_,c23,rfl,by decide⟩,trivial⟩⟩⟩⟩⟩⟩⟩⟩⟩⟩⟩⟩⟩⟩⟩⟩⟩⟩⟩
 str:=⟨Go.Proofs.Tryz.underlying9,trivial⟩
 bool:=⟨Go.Proofs.Tryz.underlying4,trivial⟩
 ik:=⟨Go.Proofs.Tryz.underlying3,⟨Go.Proofs.Tryz.underlying5,⟨Go.Proofs.Tryz.underlying199,trivial⟩⟩⟩
 inf:=⟨⟨_,ti2,fun X c σ=>RG.cns rfl V6 (RG.nl)⟩,⟨⟨_,ti3,fun X c σ=>RG.cns rfl V6 (RG.nl)⟩,⟨⟨_,ti4,fun X c σ=>RG.cns rfl a1b (RG.nl)⟩,⟨⟨_,ti9,fun X c σ=>RG.cns rfl a8h (RG.nl)⟩,⟨⟨_,c5L,fun X c σ=>RG.cns rfl Y5 (RG.nl)⟩,⟨⟨_,c6a,fun X c σ=>RG.cns rfl Y5 (RG.nl)⟩,⟨⟨_,c5O,fun X c σ=>RG.cns rfl Y5 (RG.nl)⟩,⟨⟨_,c5R,fun X c σ=>RG.cns rfl Y5 (RG.nl)⟩,⟨⟨_,c4x,fun X c σ=>RG.cns rfl V6 (RG.cns rfl V6 (RG.cns rfl a8h (RG.cns rfl Y5 (RG.cns rfl Y5 (RG.cns rfl Y5 (RG.cns rfl Y5 (RG.nl)))))))⟩,⟨⟨_,c54,fun X c σ=>RG.cns rfl Y5 (RG.nl)⟩,⟨⟨_,c5S,fun X c σ=>RG.cns rfl Y5 (RG.cns rfl V6 (RG.nl))⟩,⟨⟨_,c4S,fun X c σ=>RG.cns rfl Y5 (RG.nl)⟩,⟨⟨_,c39,fun X c σ=>RG.cns rfl Y5 (RG.cns rfl Y5 (RG.cns rfl a1b (RG.nl)))⟩,⟨⟨_,c5Q,fun X c σ=>RG.cns rfl V6 (RG.cns rfl V6 (RG.nl))⟩,⟨⟨_,c36,fun X c σ=>RG.cns rfl V6 (RG.cns rfl V6 (RG.cns rfl V6 (RG.cns rfl a8h (RG.cns rfl Y5 (RG.cns rfl Y5 (RG.cns rfl V6 (RG.cns rfl V6 (RG.nl))))))))⟩,⟨⟨_,c4f,fun X c σ=>RG.cns rfl Y5 (RG.cns rfl a1b (RG.cns rfl V6 (RG.cns rfl V6 (RG.cns rfl a8h (RG.cns rfl Y5 (RG.cns rfl Y5 (RG.cns rfl Y5 (RG.cns rfl Y5 (RG.nl)))))))))⟩,⟨⟨_,c6c,fun X c σ=>RG.cns rfl c1m (RG.cns rfl c1m (RG.nl))⟩,⟨⟨_,c5N,fun X c σ=>RG.cns rfl Y5 (RG.nl)⟩,⟨⟨_,c44,fun X c σ=>RG.cns rfl Y5 (RG.nl)⟩,⟨⟨_,c4E,fun X c σ=>RG.cns rfl V6 (RG.cns rfl V6 (RG.cns rfl a8h (RG.cns rfl Y5 (RG.cns rfl Y5 (RG.cns rfl Y5 (RG.cns rfl Y5 (RG.cns rfl Y5 (RG.cns rfl Y5 (RG.cns rfl Y5 (RG.nl))))))))))⟩,⟨⟨_,c4A,fun X c σ=>RG.cns rfl V6 (RG.cns rfl V6 (RG.cns rfl a8h (RG.cns rfl Y5 (RG.cns rfl Y5 (RG.cns rfl Y5 (RG.cns rfl Y5 (RG.cns rfl Y5 (RG.cns rfl Y5 (RG.cns rfl Y5 (RG.cns rfl Y5 (RG.nl)))))))))))⟩,⟨⟨_,c3d,fun X c σ=>RG.cns rfl V6 (RG.cns rfl a8h (RG.nl))⟩,⟨⟨_,c20,fun X c σ=>RG.cns rfl V6 (RG.cns rfl a8h (RG.cns rfl V6 (RG.cns rfl a1b (RG.nl))))⟩,⟨⟨_,c5B,fun X c σ=>RG.cns rfl c1m (RG.nl)⟩,⟨⟨_,c5r,fun X c σ=>RG.cns rfl Y5 (RG.nl)⟩,⟨⟨_,c5c,fun X c σ=>RG.cns rfl a1b (RG.cns rfl Y5 (RG.nl))⟩,⟨⟨_,c3o,fun X c σ=>RG.cns rfl V6 (RG.cns rfl V6 (RG.cns rfl Y5 (RG.cns rfl a1b (RG.cns rfl Y5 (RG.cns rfl Y5 (RG.cns rfl Y5 (RG.cns rfl Y5 (RG.cns rfl Y5 (RG.nl)))))))))⟩,⟨⟨_,c3b,fun X c σ=>RG.cns rfl Y5 (RG.nl)⟩,⟨⟨_,c3l,fun X c σ=>RG.cns rfl Y5 (RG.cns rfl a1b (RG.cns rfl Y5 (RG.cns rfl Y5 (RG.cns rfl a1b (RG.nl)))))⟩,⟨⟨_,c3i,fun X c σ=>RG.cns rfl V6 (RG.cns rfl V6 (RG.nl))⟩,⟨⟨_,c3p,fun X c σ=>RG.cns rfl Y5 (RG.cns rfl Y5 (RG.cns rfl Y5 (RG.cns rfl Y5 (RG.nl))))⟩,⟨⟨_,c23,fun X c σ=>RG.cns rfl Y5 (RG.nl)⟩,⟨⟨_,c28,fun X c σ=>RG.cns rfl V6 (RG.cns rfl V6 (RG.nl))⟩,⟨⟨_,c5f,fun X c σ=>RG.cns rfl a1b (RG.cns rfl a1b (RG.cns rfl a1b (RG.cns rfl a1b (RG.cns rfl a1b (RG.nl)))))⟩,⟨⟨_,c5k,fun X c σ=>RG.cns rfl a1b (RG.cns rfl Y5 (RG.nl))⟩,trivial⟩⟩⟩⟩⟩⟩⟩⟩⟩⟩⟩⟩⟩⟩⟩⟩⟩⟩⟩⟩⟩⟩⟩⟩⟩⟩⟩⟩⟩⟩⟩⟩⟩⟩⟩
 st:=⟨.inl ⟨_,Go.Proofs.Tryz.underlying27,by kernel_rfl⟩,⟨.inl ⟨_,Go.Proofs.Tryz.underlying33,by kernel_rfl⟩,⟨.inl ⟨_,Go.Proofs.Tryz.underlying42,by kernel_rfl⟩,⟨.inr (c4r Go.Proofs.Tryz.underlying44 ti3 rfl),⟨.inl ⟨_,Go.Proofs.Tryz.underlying46,by kernel_rfl⟩,⟨.inl ⟨_,Go.Proofs.Tryz.underlying48,by kernel_rfl⟩,⟨.inl ⟨_,Go.Proofs.Tryz.underlying55,by kernel_rfl⟩,⟨.inl ⟨_,Go.Proofs.Tryz.underlying71,by kernel_rfl⟩,⟨.inl ⟨_,Go.Proofs.Tryz.underlying74,by kernel_rfl⟩,⟨.inl ⟨_,Go.Proofs.Tryz.underlying108,by kernel_rfl⟩,⟨.inl ⟨_,Go.Proofs.Tryz.underlying110,by kernel_rfl⟩,⟨.inl ⟨_,Go.Proofs.Tryz.underlying149,by kernel_rfl⟩,⟨.inl ⟨_,Go.Proofs.Tryz.underlying175,by kernel_rfl⟩,⟨.inl ⟨_,Go.Proofs.Tryz.underlying221,by kernel_rfl⟩,⟨.inl ⟨_,Go.Proofs.Tryz.underlying267,by kernel_rfl⟩,⟨.inl ⟨_,Go.Proofs.Tryz.underlying272,by kernel_rfl⟩,trivial⟩⟩⟩⟩⟩⟩⟩⟩⟩⟩⟩⟩⟩⟩⟩⟩
 eq:=⟨fun X c σ ls ms r cs ds h1 h2 h3=>eqT 44 b3x (fun h k=>c6d h k) (by kernel_rfl) (by decide) h1 h2 h3,⟨fun X c σ ls ms r cs ds h1 h2 h3=>eqT 100 a9Q (fun h k=>c5z h k) (by kernel_rfl) (by decide) h1 h2 h3,trivial⟩⟩
 arr:=⟨⟨Go.Proofs.Tryz.underlying44,by kernel_rfl⟩,trivial⟩
 mp:=⟨⟨_,_,_,_,_,Go.Proofs.Tryz.underlying52,Go.Proofs.Tryz.underlying9,c44,fun x h σ=>by cases h; exact ⟨none,0,rfl,Sl.nil_ _ _ _ (Nat.zero_le _)⟩⟩,⟨⟨_,_,_,_,_,Go.Proofs.Tryz.underlying53,Go.Proofs.Tryz.underlying9,ti3,fun x h σ=>by cases h; exact rfl⟩,⟨⟨_,_,_,_,_,Go.Proofs.Tryz.underlying177,Go.Proofs.Tryz.underlying9,ti4,fun x h σ=>by cases h; exact rfl⟩,trivial⟩⟩⟩
 fb:=⟨⟨_,_,Go.Proofs.Tryz.func55,rfl,by kernel_rfl⟩,⟨⟨_,_,Go.Proofs.Tryz.func76,rfl,by kernel_rfl⟩,⟨⟨_,_,Go.Proofs.Tryz.func77,rfl,by kernel_rfl⟩,⟨⟨_,_,Go.Proofs.Tryz.func79,rfl,by kernel_rfl⟩,⟨⟨_,_,Go.Proofs.Tryz.func80,rfl,by kernel_rfl⟩,⟨⟨_,_,Go.Proofs.Tryz.func82,rfl,by kernel_rfl⟩,⟨⟨_,_,Go.Proofs.Tryz.func118,rfl,by kernel_rfl⟩,⟨⟨_,_,Go.Proofs.Tryz.func122,rfl,by kernel_rfl⟩,⟨⟨_,_,Go.Proofs.Tryz.func125,rfl,by kernel_rfl⟩,⟨⟨_,_,Go.Proofs.Tryz.func147,rfl,by kernel_rfl⟩,⟨⟨_,_,Go.Proofs.Tryz.func164,rfl,by kernel_rfl⟩,⟨⟨_,_,Go.Proofs.Tryz.func172,rfl,by kernel_rfl⟩,⟨⟨_,_,Go.Proofs.Tryz.func178,rfl,by kernel_rfl⟩,⟨⟨_,_,Go.Proofs.Tryz.func199,rfl,by kernel_rfl⟩,⟨⟨_,_,Go.Proofs.Tryz.func269,rfl,by kernel_rfl⟩,⟨⟨_,_,Go.Proofs.Tryz.func273,rfl,by kernel_rfl⟩,trivial⟩⟩⟩⟩⟩⟩⟩⟩⟩⟩⟩⟩⟩⟩⟩⟩
theorem a2e:TabOk Go.Proofs.Tryz.prog tb:=c2a c42
theorem mixed:(Go.Proofs.Tryz.prog).follows .mixedOrders=true:=by kernel_rfl
end Go.Qx
end
section
namespace Go.Qx
open Go Go.RowKit Go.Sx
structure Bw (B:Nat)(w w':World):Prop where
 below:Below B w w'
 drawn:w.drawn<=w'.drawn
theorem Bw.refl (B:Nat)(w:World):Bw B w w:=⟨Below.refl B w,Nat.le_refl _⟩
theorem Bw.trans {B:Nat}{a b c:World}(h:Bw B a b)(k:Bw B b c):Bw B a c:=⟨h.below.trans k.below,Nat.le_trans h.drawn k.drawn⟩
theorem Bw.setCells {B b:Nat}(hb:B<=b)(o:Nat)(vs:List Value)(w:World):Bw B w (w.setCells b o vs):=by
 obtain ⟨r1,r2,r3⟩:=a5U b vs o w
 exact ⟨⟨r1,r2,r3,Nat.le_of_eq (a5S b vs o w).symm,fun k hk=>a0Q b vs o w k (by omega)⟩,Nat.le_of_eq (a44 b vs o w).symm⟩
section
variable {P:Program}{ops:Array Oper}{Q:Exit->Act->World->Prop}{n:Nat}{F:Fr}{rest:List Oper}{d:Option Nat}{ty:TypeId}{pos:String}{aft:Array Edge}{w:World}
theorem b5p {T T':TypeId}{x y:Operand}{b:Nat}{cs:List Value}(hb:w.heap[b]?=some (.cells cs.toArray T' (0,0)))(o:Nat)(v:Value)(hx:ev F x=.pointer (some ⟨b,o,none⟩))(hy:ev F y=v)
 (hkx:w8 n x=true) (hky:w8 n y=true) (hv:v.cells.toList=[v]) (hT:(P.info? T).map (·.size)=some 1) (h1:v.oneCell'=true) (hl:o<cs.length)
 (h:wpList P ops Q rest (fr n (Y1 F d undef)) (w.setCells b o [v])) :
 wpList P ops Q (⟨d,.store T x y,ty,pos,aft,none⟩::rest) (fr n F) w:=by
 have hsz:v.cells.size=1:=by rw [<- Array.length_toList,hv]; rfl
 refine b3M rfl (w.setCells b o [v]) ?_ h
 show Sem.run P (do Instr.storeAt T ((fr n F).eval x) ((fr n F).eval y); pure Next.skip) w=_
 rw [y9 hkx,y9 hky,hx,hy]
 have hst:=run_storeCells_cells (P:=P) b o [v] 0 w (fun j hj=>by
  have hj0:j=0:=by simp at hj; omega
  subst hj0
  simp only [World.cell?,hb,Nat.add_zero]
  simp [List.getElem?_eq_getElem hl]) (fun j hj=>by simp [World.frozen?,hb]) (fun u hu=>by simp at hu; subst hu; exact h1)
 simp only [Nat.add_zero] at hst
 simp only [Instr.storeAt,Instr.sureAddr,storeVar,Sem.run_bind,Sem.run_pure,Result.andThen_ok,Go.Sx.run_sizeOf hT,hsz,ne_eq,not_true_eq_false,if_false,hv,hst]
theorem b77 {x y:Operand}{t u:TypeId}{a b v:Value}{w':World}(hx:ev F x=a)(hy:ev F y=b)(hkx:w8 n x=true)(hky:w8 n y=true)(hr:(Builtin.append_ #[t,u] ty #[a,b]).run P w=.ok v w')
 (h:wpList P ops Q rest (fr n (Y1 F d v)) w'):wpList P ops Q (⟨d,.call ⟨.builtin .append,#[x,y],#[t,u]⟩,ty,pos,aft,none⟩::rest) (fr n F) w :=
 Z9 rfl v w' (by
  simp [execOp,resolve,invoke,builtin,y9 hkx,y9 hky,hx,hy,hr]) h
theorem b6B {src dst:TypeId}{x:Operand}{a v:Value}(hx:ev F x=a)(hkx:w8 n x=true)(hr:(convert src dst a).run P w=.ok v w)(h:wpList P ops Q rest (fr n (Y1 F d v)) w) :
 wpList P ops Q (⟨d,.convert src dst x,ty,pos,aft,none⟩::rest) (fr n F) w:=b3f a v hx hkx hr h
theorem b5Q {f:FuncId}{fn:Func}{c:Code}{vs:List Value}{R:Ending->World->Prop}(nt:Nat)(hf:P.funcs[f]?=some fn)(hb:fn.body=some c)(hn:fn.ntmps=nt)(hle:Nat.ble vs.length nt=true)
 (h:c.wp P (bodyPost P fn R) (fr nt (K9 vs)) w):Calls P f vs.toArray w R:=by
 refine calls_of_wp hf hb ?_
 have hle':=Nat.le_of_ble_eq_true hle
 have e:(⟨vs.toArray++Array.replicate (fn.ntmps-vs.toArray.size) undef,[]⟩:Act)=fr nt (K9 vs):=by
  rw [hn]
  simp only [fr]
  congr 1
  apply Array.ext
  ·simp; omega
  ·intro i h1 h2
   simp only [Array.getElem_ofFn,K9,Array.getElem_append]
   split
   ·rename_i hi; simp at hi; simp [List.getD,List.getElem?_eq_getElem hi]
   ·rename_i hi; simp at hi; simp [List.getD,List.getElem?_eq_none hi]
 rw [e]
 exact h
theorem c27 {fn:Func}{R:Ending->World->Prop}(hr:fn.results=#[])(h:R (.returned (.tuple #[])) w):bodyPost P fn R .normal (fr n F) w :=
 ⟨rfl,.tuple #[],by
  rw [a6i,hr]
  simp only [List.mapM_toArray,List.mapM_nil,Sem.run_bind,Sem.run_map,Result.andThen_ok,Sem.run_pure]
  rfl,h⟩
theorem c5j {fn:Func}{R:Ending->World->Prop}{t:Nat}(v:Value)(hr:fn.results=#[.tmp t])(ht:Nat.blt t n=true)(hv:F t=v)(h:R (.returned v) w):bodyPost P fn R .ret (fr n F) w :=
 ⟨rfl,v,by
  have e1:=a7k (P:=P) (w:=w) (r:=.tmp t) (v:=v) ⟨ht,hv⟩
  rw [a6i,hr]
  simp only [List.mapM_toArray,List.mapM_cons,List.mapM_nil,Sem.run_bind,Sem.run_map,e1,Result.andThen_ok,Sem.run_pure]
  rfl,h⟩
theorem c5q {fn:Func}{R:Ending->World->Prop}{t u:Nat}(v x:Value)(hr:fn.results=#[.tmp t,.tmp u])(ht:Nat.blt t n=true)(hu:Nat.blt u n=true)(hv:F t=v)(hx:F u=x)(h:R (.returned (.tuple #[v,x])) w):bodyPost P fn R .ret (fr n F) w :=
 ⟨rfl,.tuple #[v,x],by
  have e1:=a7k (P:=P) (w:=w) (r:=.tmp t) (v:=v) ⟨ht,hv⟩
  have e2:=a7k (P:=P) (w:=w) (r:=.tmp u) (v:=x) ⟨hu,hx⟩
  rw [a6i,hr]
  simp only [List.mapM_toArray,List.mapM_cons,List.mapM_nil,Sem.run_bind,Sem.run_map,e1,e2,Result.andThen_ok,Sem.run_pure]
  rfl,h⟩
theorem c3q {T E:TypeId}{x y:Operand}{p:Option Addr}(hT:P.underlying T=some (.pointer E)) :
 j7 P w (do eqGuard .eql T x y (.pointer p) (.pointer none); binOp .eql T (.pointer p) (.pointer none)) (.bool p.isNone):=by
 have h:∀ d:Nat,(Op.equalIn (d+1) T (.pointer p) (.pointer none)).run P w=.ok p.isNone w:=fun d=>by
  cases p<;>simp [Op.equalIn,run_underlying hT]
 show Sem.run P (do eqGuard .eql T x y (.pointer p) (.pointer none); pure (Value.bool (<- Op.equalIn 10000 T (.pointer p) (.pointer none)))) w=_
 have hg:eqGuard .eql T x y (.pointer p) (.pointer none)=pure ():=rfl
 rw [hg]
 simp only [Sem.run_bind,Sem.run_pure,Result.andThen_ok,h 9999]
theorem c3O {T E:TypeId}{x y:Operand}{a:Addr}{j:TypeInfo}(hT:P.underlying T=some (.pointer E))(hj:P.info? E=some j) :
 j7 P w (do eqGuard .neq T x y (.pointer (some a)) (.pointer (some a)); binOp .neq T (.pointer (some a)) (.pointer (some a))) (.bool false):=by
 have hg:eqGuard .neq T x y (.pointer (some a)) (.pointer (some a))=pure ():=rfl
 show Sem.run P (do eqGuard .neq T x y (.pointer (some a)) (.pointer (some a)); binOp .neq T (.pointer (some a)) (.pointer (some a))) w=_
 rw [hg]
 simp only [Sem.run_bind,Sem.run_pure,Result.andThen_ok]
 exact Lib.run_neq_ptr_same w a hT hj
theorem a3G {f:FuncId}{xs:List Operand}{ats:Array TypeId}(vs:List Value){R:Ending->World->Prop}(hvs:xs.map (ev F)=vs)(hk:xs.all (w8 n)=true)(hb:W6 P f)(hc:Calls P f vs.toArray w R)
 (hR:∀ e w',R e w'->∃ v,e=.returned v/\wpList P ops Q rest (fr n (Y1 F d v)) w') :
 wpList P ops Q (⟨d,.call ⟨.value (.func f),xs.toArray,ats⟩,ty,pos,aft,none⟩::rest) (fr n F) w:=by
 subst hvs
 refine a3D (σ:=⟨w,fun _=>(0,0)⟩) (E:=fun _=>True) (R:=fun v τ=>wpList P ops Q rest (fr n (Y1 F d v)) τ.w) rfl (.inl ⟨hb,hc.mono fun e w' h=>?_⟩) (b48 hk w) (fun v τ _ h=>h)
 obtain ⟨v,e1,h2⟩:=hR e w' h
 exact ⟨v,⟨w',fun _=>(0,0)⟩,e1,rfl,trivial,h2⟩
theorem Bw.grown {B:Nat}{w w':World}{v:Value}(h:w.grownBy w' v.ownBlock)(hd:w.drawn<=w'.drawn)(hv:∀ g,v.ownBlock=some g->B<=g)(hB:B<=w.heap.size):Bw B w w' :=
 ⟨⟨h.os,h.tape,h.output,h.size,fun k hk=>h.block k (by omega) (fun e=>by have:=hv k e.symm; omega)⟩,hd⟩
theorem b6b {B:Nat}{T:TypeId}{s n:Nat}{v:Value}{xs:List Value}(h:w.ownsRow B T s v n xs):∀ g,v.ownBlock=some g->B<=g:=by
 intro g hg
 rcases h.2 with ⟨rfl,_⟩ | ⟨g',cap,cur,rfl,hb,_⟩
 ·cases hg
 ·cases hg; exact hb
theorem c2q {T E:TypeId}{i:TypeInfo}{z v:Value}{x:Operand}(hu:P.underlying T=some (.slice E))(hi:P.info? E=some i)(hz:i.zero=some z)(hs:i.size=1)(hzs:z.cells.size=1)(hx:ev F x=v)(hk:w8 n x=true)(hv:v.cells.toList=[v])(hv2:v.cells.size=1)
 (h:wpList P ops Q rest (fr n (Y1 F d (.slice (some ⟨w.heap.size,0,none⟩) 1 1))) (w.alloc (.cells #[v] E))) :
 wpList P ops Q (⟨d,.buildSlice T 1 #[(0,x)],ty,pos,aft,none⟩::rest) (fr n F) w:=by
 refine Z9 rfl (.slice (some ⟨w.heap.size,0,none⟩) 1 1) (w.alloc (.cells #[v] E)) ?_ h
 have hfill:=b5J 1 (Nat.zero_lt_one) [v] 0 (((Array.range 1).map (z.cells[·%z.cells.size]!)).toList) (by simp) (by simp [hv2])
 simp only [Nat.zero_mul,List.take_zero,List.nil_append,Array.toArray_toList] at hfill
 show Sem.run P (do pure (Next.value (<- Instr.buildSlice T 1 (#[(0,x)].map fun (i,x)=>(i,(fr n F).eval x))))) w=_
 have he:(#[((0:Nat),x)].map fun (i,x)=>(i,(fr n F).eval x))=#[(0,v)]:=by simp [y9 hk,hx]
 rw [he]
 have hrun:(Instr.buildSlice T 1 #[(0,v)]).run P w=.ok (.slice (some ⟨w.heap.size,0,none⟩) 1 1) (w.alloc (.cells #[v] E)):=by
  unfold Instr.buildSlice
  simp only [List.zipIdx_cons,List.zipIdx_nil,List.map_cons,List.map_nil] at hfill
  rw [<- hs] at hfill
  simp only [Sem.run_bind,run_underlying hu,Result.andThen_ok,sizeOf,typeInfo,run_program,hi,Sem.run_pure,hs,Nat.one_mul,if_neg (show ¬ (1:Nat)>2^24 by decide),if_neg (show ¬ (1:Nat)=0 by decide),zeroValue,hz,newRow,run_newObj]
  rw [hs] at hfill
  simp only [hfill,Sem.run_pure,Result.andThen_ok,Sem.run_bind,run_newObj]
  simp [hv]
 rw [Sem.run_bind,hrun]
 rfl
end
end Go.Qx
end
section
namespace Go.Qx
open Go Go.RowKit Go.Sx
set_option maxHeartbeats 1600000
set_option maxRecDepth 100000
abbrev Y0 (b:Nat):Value:=.pointer (some ⟨b,0,none⟩)
theorem b9g:a6L Go.Proofs.Tryz.prog 81 0 0:=⟨_,_,Go.Proofs.Tryz.underlying81,rfl,rfl,by kernel_rfl⟩
theorem b6t:a6L Go.Proofs.Tryz.prog 81 1 1:=⟨_,_,Go.Proofs.Tryz.underlying81,rfl,rfl,by kernel_rfl⟩
theorem c0F:V1 Go.Proofs.Tryz.prog 78:=⟨_,Go.Proofs.Tryz.underlying78,rfl,by kernel_rfl⟩
theorem c0M:V1 Go.Proofs.Tryz.prog 79:=⟨_,Go.Proofs.Tryz.underlying79,rfl,by kernel_rfl⟩
theorem c2Q (x:Value)(w:World):(callFunc 97 [x].toArray).run Go.Proofs.Tryz.prog w=.ok (.value x) w:=by
 have hn:Extern.findNext Go.Proofs.Tryz.f97=none:=by kernel_rfl
 have he:Extern.find Go.Proofs.Tryz.f97=some Extern.AbiNoEscape.same:=by kernel_rfl
 rw [run_callFunc_extern Go.Proofs.Tryz.func97 (by kernel_rfl) (by kernel_rfl) hn he]
 rfl
theorem c3m {b B:Nat}{bs:List Value}{p:Value}{w:World}(hp:p=.pointer none\/p=Y0 b)(h:Lib.BuilderAt 81 5 B b p bs w) :
 Calls Go.Proofs.Tryz.prog 57 [Y0 b].toArray w fun e w'=>e=.returned (.tuple #[])/\Lib.BuilderAt 81 5 B b (Y0 b) bs w'/\Bw B w w':=by
 obtain ⟨j,hj,hjs⟩:∃ j,Go.Proofs.Tryz.prog.info? 81=some j/\j.size=2:=Option.map_eq_some_iff.1 (by kernel_rfl)
 obtain ⟨hB,v,hb,hown,hne⟩:=h
 have c0:w.cell? ⟨b,0,none⟩=some p:=by simp [World.cell?,hb]
 refine b5Q 20 Go.Proofs.Tryz.func57 rfl rfl rfl ?_
 refine wp_seq (wp_region_lit ?_)
 refine W2 (Y0 b) rfl rfl ?_
 refine a0r ⟨b,0,none⟩ rfl rfl ?_
 refine K4 b 0 0 0 rfl rfl b9g rfl ?_
 refine a0H b 0 p rfl rfl (a0v c0F c0) ?_
 rcases hp with rfl | rfl
 ·refine a4f (.pointer none) (.pointer none) (.bool true) rfl rfl rfl rfl (c3q Go.Proofs.Tryz.underlying78) ?_
  refine wpList_nil (Q3 ?_)
  refine b2V rfl rfl rfl (wp_region_lit ?_)
  refine W2 (Y0 b) rfl rfl ?_
  refine W2 (Y0 b) rfl rfl ?_
  have hsh:w.shape? b=some (81,2):=by simp [World.shape?,hb]
  refine b6B rfl rfl (Lib.run_to_unsafe (e:=81) (cells:=2) w ⟨b,0,none⟩ Go.Proofs.Tryz.underlying78 Go.Proofs.Tryz.underlying158 hj (by rw [hjs]; decide) hsh (Nat.zero_lt_succ 1)) ?_
  refine c32 [Y0 b] (Y0 b) rfl rfl (c2Q _ w) ?_
  refine b6B rfl rfl (Lib.run_from_unsafe (e:=81) (cells:=2) w ⟨b,0,none⟩ Go.Proofs.Tryz.underlying158 Go.Proofs.Tryz.underlying78 hj hsh (by kernel_rfl)) ?_
  refine a0r ⟨b,0,none⟩ rfl rfl ?_
  refine K4 b 0 0 0 rfl rfl b9g rfl ?_
  refine b5p (cs:=[.pointer none,v]) hb 0 (Y0 b) rfl rfl rfl rfl rfl (by kernel_rfl) rfl (Nat.zero_lt_succ 1) ?_
  refine wpList_nil (c27 rfl ⟨rfl,⟨hB,v,?_,?_,hne⟩,Bw.setCells hB 0 _ w⟩)
  ·have:=a13 b 81 [Y0 b] 0 w [.pointer none,v] hb (Nat.le_succ 1)
   exact this
  ·obtain ⟨h1,h2⟩:=hown
   refine ⟨h1,h2.imp id fun ⟨g,cap,cur,e,hg,hh,r⟩=>⟨g,cap,cur,e,hg,?_,r⟩⟩
   rw [a0Q b _ 0 w g (by rintro rfl; rw [e] at hne; exact hne rfl)]
   exact hh
 ·refine a4f (Y0 b) (.pointer none) (.bool false) rfl rfl rfl rfl (c3q Go.Proofs.Tryz.underlying78) ?_
  refine wpList_nil (Q3 ?_)
  refine a6J rfl rfl rfl (wp_seq (wp_region_lit ?_))
  refine W2 (Y0 b) rfl rfl ?_
  refine a0r ⟨b,0,none⟩ rfl rfl ?_
  refine K4 b 0 0 0 rfl rfl b9g rfl ?_
  refine a0H b 0 (Y0 b) rfl rfl (a0v c0F c0) ?_
  refine W2 (Y0 b) rfl rfl ?_
  refine a4f (Y0 b) (Y0 b) (.bool false) rfl rfl rfl rfl (c3O Go.Proofs.Tryz.underlying78 hj) ?_
  refine wpList_nil (Q3 ?_)
  refine a6J rfl rfl rfl (wp_skip (c27 rfl ⟨rfl,⟨hB,v,hb,hown,hne⟩,Bw.refl B w⟩))
theorem c4e:W6 Go.Proofs.Tryz.prog 57:=⟨_,_,Go.Proofs.Tryz.func57,rfl,by kernel_rfl⟩
theorem c08 {b B:Nat}{bs:List Value}{w:World}(h:Lib.IsBuilder 81 5 B b bs w):∃ p,(p=.pointer none\/p=Y0 b)/\Lib.BuilderAt 81 5 B b p bs w :=
 h.elim (fun h=>⟨_,.inl rfl,h⟩) (fun h=>⟨_,.inr rfl,h⟩)
theorem c4U {b B:Nat}{cs:List Value}{w w':World}{v v':Value}(hB:B<=b)(hb:w.heap[b]?=some (.cells #[Y0 b,v] 81 (0,0)))(hne:v.ownBlock≠some b)(hg:w.grownBy w' v.ownBlock)(hown:w'.ownsRow B 5 1 v' cs.length cs)(hne':v'.ownBlock≠some b) :
 w'.heap[b]?=some (.cells #[Y0 b,v] 81 (0,0))/\Lib.BuilderAt 81 5 B b (Y0 b) cs (w'.setCells b 1 [v']):=by
 have hlt:b<w.heap.size:=(Array.getElem?_eq_some_iff.1 hb).1
 have h1:w'.heap[b]?=some (.cells #[Y0 b,v] 81 (0,0)):=by rw [hg.block b hlt fun e=>hne e.symm]; exact hb
 refine ⟨h1,hB,v',?_,?_,hne'⟩
 ·exact a13 b 81 [v'] 1 w' [Y0 b,v] h1 (Nat.le_refl 2)
 ·obtain ⟨a1,a2⟩:=hown
  refine ⟨a1,a2.imp id fun ⟨g,cap,cur,e,hg,hh,r⟩=>⟨g,cap,cur,e,hg,?_,r⟩⟩
  rw [a0Q b _ 1 w' g (by rintro rfl; rw [e] at hne'; exact hne' rfl)]
  exact hh
theorem c1v {b B:Nat}{T:TypeId}{cs:List Value}{w w':World}{v v':Value}{n:Nat}(hlt:b<w.heap.size)(hb:w.heap[b]?=some (.cells #[Y0 b,v] 81 (0,0)))(hne:v.ownBlock≠some b)(hg:w.grownBy w' v.ownBlock)(hown:w'.ownsRow B 5 1 v' n cs):v'.ownBlock≠some b:=by
 intro e
 rcases hown.2 with ⟨rfl,_⟩ | ⟨g,cap,cur,rfl,_,hh,_⟩
 ·cases e
 ·cases e
  rw [hg.block g hlt fun e=>hne e.symm,hb] at hh
  cases hh
theorem bws {b B:Nat}{bs:List Value}{s:ByteArray}{w:World}(h:Lib.IsBuilder 81 5 B b bs w)(hlen:bs.length+s.size<=1000000000)(hBw:B<=w.heap.size) :
 Calls Go.Proofs.Tryz.prog 30 [Y0 b,.string s].toArray w fun e w'=>(∃ v,e=.returned v)/\Lib.BuilderAt 81 5 B b (Y0 b) (bs++Lib.strCells s) w'/\Bw B w w':=by
 obtain ⟨p,hp,h⟩:=c08 h
 obtain ⟨i,hi,hz⟩:∃ i,Go.Proofs.Tryz.prog.info? 5=some i/\(i.zero,i.size,i.bytes)=(some (.int .u8 0),1,1):=Option.map_eq_some_iff.1 (by kernel_rfl)
 simp only [Prod.mk.injEq] at hz
 refine b5Q 19 Go.Proofs.Tryz.func30 rfl rfl rfl ?_
 refine wp_seq (wp_region_lit ?_)
 refine a0n (.int .i64 0) rfl rfl ?_
 refine a0n .nilIface rfl rfl ?_
 refine wpList_nil (Q3 (wp_seq (wp_region_lit ?_)))
 refine W2 (Y0 b) rfl rfl ?_
 refine a3G [Y0 b] rfl rfl c4e (c3m hp h) ?_
 rintro e w1 ⟨rfl,hat,hbw⟩
 refine ⟨_,rfl,?_⟩
 refine wpList_nil (Q3 (wp_seq (wp_region_lit ?_)))
 obtain ⟨hB,v,hb,hown,hne⟩:=hat
 have c1:w1.cell? ⟨b,1,none⟩=some v:=by simp [World.cell?,hb]
 have hlt:b<w1.heap.size:=(Array.getElem?_eq_some_iff.1 hb).1
 refine W2 (Y0 b) rfl rfl ?_
 refine W2 (Y0 b) rfl rfl ?_
 refine a0r ⟨b,0,none⟩ rfl rfl ?_
 refine K4 b 0 1 1 rfl rfl b6t rfl ?_
 refine a0H b 1 v rfl rfl (a0v c0M c1) ?_
 refine W2 (.string s) rfl rfl ?_
 obtain ⟨v',w2,hr,hown',hg,_⟩:=Lib.run_append_own_string (P:=Go.Proofs.Tryz.prog) (w:=w1) B 79 9 79 5 i Go.Proofs.Tryz.underlying79 Go.Proofs.Tryz.underlying9 hi hz.1 hz.2.1 hz.2.2 v bs.length bs hown s (by unfold maxLen; omega) (by omega) (Nat.le_trans hBw hbw.below.size)
 refine b77 rfl rfl rfl rfl hr ?_
 have hd:=a2I _ hr
 have hl:bs.length+s.size=(bs++Lib.strCells s).length:=by rw [List.length_append,Lib.strCells_length]
 rw [hl] at hown'
 have hne':=c1v (T:=5) hlt hb hne hg hown'
 obtain ⟨hb2,hat2⟩:=c4U hB hb hne hg hown' hne'
 refine a0r ⟨b,0,none⟩ rfl rfl ?_
 refine K4 b 0 1 1 rfl rfl b6t rfl ?_
 have hv1:v'.cells.toList=[v']/\v'.oneCell'=true:=by
  rcases hown'.2 with ⟨rfl,_⟩ | ⟨g,cap,cur,rfl,_⟩
  ·exact ⟨rfl,rfl⟩
  ·exact ⟨rfl,rfl⟩
 refine b5p (cs:=[Y0 b,v]) hb2 1 v' rfl rfl rfl rfl hv1.1 (by kernel_rfl) hv1.2 (Nat.lt_succ_self 1) ?_
 refine wpList_nil (Q3 (wp_seq (wp_region_lit ?_)))
 refine W2 (.string s) rfl rfl ?_
 refine b9r s rfl rfl Go.Proofs.Tryz.underlying9 ?_
 refine a0n (.int .i64 (s.size:Int)) rfl rfl ?_
 refine a0n .nilIface rfl rfl ?_
 refine wpList_nil (Q3 (wp_ret (c5q (.int .i64 (s.size:Int)) .nilIface rfl rfl rfl rfl rfl ⟨⟨_,rfl⟩,hat2,?_⟩)))
 exact hbw.trans ((Bw.grown hg hd (b6b hown) (Nat.le_trans hBw hbw.below.size)).trans (Bw.setCells hB 1 _ w2))
theorem bwb {b B:Nat}{bs:List Value}{c:Int}{w:World}(h:Lib.IsBuilder 81 5 B b bs w)(hlen:bs.length+1<=1000000000)(hBw:B<=w.heap.size) :
 Calls Go.Proofs.Tryz.prog 29 [Y0 b,.int .u8 c].toArray w fun e w'=>(∃ v,e=.returned v)/\Lib.BuilderAt 81 5 B b (Y0 b) (bs++[.int .u8 c]) w'/\Bw B w w':=by
 obtain ⟨p,hp,h⟩:=c08 h
 obtain ⟨i,hi,hz⟩:∃ i,Go.Proofs.Tryz.prog.info? 5=some i/\(i.zero,i.size,i.bytes)=(some (.int .u8 0),1,1):=Option.map_eq_some_iff.1 (by kernel_rfl)
 simp only [Prod.mk.injEq] at hz
 refine b5Q 17 Go.Proofs.Tryz.func29 rfl rfl rfl ?_
 refine wp_seq (wp_region_lit ?_)
 refine a0n .nilIface rfl rfl ?_
 refine wpList_nil (Q3 (wp_seq (wp_region_lit ?_)))
 refine W2 (Y0 b) rfl rfl ?_
 refine a3G [Y0 b] rfl rfl c4e (c3m hp h) ?_
 rintro e w1 ⟨rfl,hat,hbw⟩
 refine ⟨_,rfl,?_⟩
 refine wpList_nil (Q3 (wp_seq (wp_region_lit ?_)))
 obtain ⟨hB,v,hb,hown,hne⟩:=hat
 have c1:w1.cell? ⟨b,1,none⟩=some v:=by simp [World.cell?,hb]
 have hlt:b<w1.heap.size:=(Array.getElem?_eq_some_iff.1 hb).1
 refine W2 (Y0 b) rfl rfl ?_
 refine W2 (Y0 b) rfl rfl ?_
 refine a0r ⟨b,0,none⟩ rfl rfl ?_
 refine K4 b 0 1 1 rfl rfl b6t rfl ?_
 refine a0H b 1 v rfl rfl (a0v c0M c1) ?_
 refine W2 (.int .u8 c) rfl rfl ?_
 refine c2q (v:=.int .u8 c) Go.Proofs.Tryz.underlying79 hi hz.1 hz.2.1 rfl rfl rfl rfl rfl ?_
 have hbw1:Bw B w1 (w1.alloc (.cells #[.int .u8 c] 5)):=⟨(Below.refl _ _).alloc (Nat.le_trans hBw hbw.below.size) _,Nat.le_refl _⟩
 have hb1:(w1.alloc (.cells #[.int .u8 c] 5)).heap[b]?=some (.cells #[Y0 b,v] 81 (0,0)):=by rw [heap_alloc_old _ _ hlt]; exact hb
 have hown1:(w1.alloc (.cells #[.int .u8 c] 5)).ownsRow B 5 1 v bs.length bs:=by
  obtain ⟨a1,a2⟩:=hown
  refine ⟨a1,a2.imp id fun ⟨g,cap,cur,e,hg,hh,r⟩=>⟨g,cap,cur,e,hg,?_,r⟩⟩
  rw [heap_alloc_old _ _ (Array.getElem?_eq_some_iff.1 hh).1]
  exact hh
 have hlt1:b<(w1.alloc (.cells #[.int .u8 c] 5)).heap.size:=(Array.getElem?_eq_some_iff.1 hb1).1
 have hBw1:=Nat.le_trans (Nat.le_trans hBw hbw.below.size) hbw1.below.size
 obtain ⟨v',w2,hr,hown',hg,_⟩:=run_append_own (P:=Go.Proofs.Tryz.prog) (w:=w1.alloc (.cells #[.int .u8 c] 5)) B 79 79 5 i (.int .u8 0) 1 1 Go.Proofs.Tryz.underlying79 hi hz.1 hz.2.1 hz.2.2 rfl Nat.zero_lt_one v bs.length bs hown1 ⟨w1.heap.size,0,none⟩ 1 1 [.int .u8 c] rfl (fun j u hj=>by
  have hj0:j=0:=by
   rcases j with _ | j
   ·rfl
   ·simp at hj
  subst hj0
  simp at hj
  subst hj
  rw [show (Addr.add ⟨w1.heap.size,0,none⟩ 0:Addr)=⟨w1.heap.size,0,none⟩ from rfl,World.cell?,heap_alloc_new]
  rfl) (fun u hu=>by simp at hu; subst hu; rfl) (by unfold maxLen; omega) (by omega) hBw1
 refine b77 rfl rfl rfl rfl hr ?_
 have hd:=a2I _ hr
 rw [show bs.length+1=(bs++[Value.int .u8 c]).length by simp] at hown'
 have hne':=c1v (T:=5) hlt1 hb1 hne hg hown'
 obtain ⟨hb2,hat2⟩:=c4U hB hb1 hne hg hown' hne'
 refine a0r ⟨b,0,none⟩ rfl rfl ?_
 refine K4 b 0 1 1 rfl rfl b6t rfl ?_
 have hv1:v'.cells.toList=[v']/\v'.oneCell'=true:=by
  rcases hown'.2 with ⟨rfl,_⟩ | ⟨g,cap,cur,rfl,_⟩
  ·exact ⟨rfl,rfl⟩
  ·exact ⟨rfl,rfl⟩
 refine b5p (cs:=[Y0 b,v]) hb2 1 v' rfl rfl rfl rfl hv1.1 (by kernel_rfl) hv1.2 (Nat.lt_succ_self 1) ?_
 refine wpList_nil (Q3 (wp_seq (wp_region_lit ?_)))
 refine a0n .nilIface rfl rfl ?_
 refine wpList_nil (Q3 (wp_ret (c5j .nilIface rfl rfl rfl ⟨⟨_,rfl⟩,hat2,?_⟩)))
 exact hbw.trans (hbw1.trans ((Bw.grown hg hd (b6b hown1) hBw1).trans (Bw.setCells hB 1 _ w2)))
end Go.Qx
end
section
namespace Go.Proofs
open Go.RowKit
set_option maxRecDepth 100000
set_option maxHeartbeats 4000000 in
theorem Tryz.bstr1 {b g cap:Nat}{cur:Array Value}{p:Value}{l:List UInt8}{w:World}(hb:w.heap[b]?=some (.cells #[p,.slice (some ⟨g,0,none⟩) l.length cap] 81 (0,0)))(hg:w.heap[g]?=some (.cells cur 5 (0,0)))
 (h0:l≠[]) (hnc:l.length<=cap) (hcs:cur.size=cap) (hcm:l.length<=1000000000) (hc:∀ (j:Nat) (x:UInt8),l[j]?=some x->cur[j]?=some (Value.int IntKind.u8 (x.toNat:Int))) :
 Calls Tryz.prog 32 #[.pointer (some ⟨b,0,none⟩)] w fun e w'=>e=.returned (.string ⟨l.toArray⟩)/\w'=w.drew.freeze ⟨g,0,none⟩ l.length:=by
 have hl0:l.length≠0:=by simpa using h0
 have hb':w.drew.heap[b]?=some (.cells #[p,.slice (some ⟨g,0,none⟩) l.length cap] 81 (0,0)):=hb
 have hg':w.drew.heap[g]?=some (.cells cur 5 (0,0)):=hg
 have c1:w.drew.cell? ⟨b,1,none⟩=some (.slice (some ⟨g,0,none⟩) l.length cap):=by simp [World.cell?,hb']
 have hSD:(Builtin.unsafeSliceData_ #[79] 123 #[.slice (some ⟨g,0,none⟩) l.length cap]).run Tryz.prog w.drew=.ok (.pointer (some ⟨g,0,none⟩)) w.drew :=
  Lib.run_unsafeSliceData_row _ _ _ _ _ _ (by omega)
 have hUS:(Builtin.unsafeString_ #[123,3] 9 #[.pointer (some ⟨g,0,none⟩),.int .i64 l.length]).run Tryz.prog w.drew=.ok (.string ⟨l.toArray⟩) (w.drew.freeze ⟨g,0,none⟩ l.length) :=
  Lib.run_unsafeString_row w.drew 123 3 9 5 Tryz.underlying123 (by kernel_rfl) g cur.size (by simp [World.shape?,hg']) l h0 (by omega) (by omega) (fun j x hx=>by
   have:=hc j x hx
   have e:((⟨g,0,none⟩:Addr).add j)=⟨g,j,none⟩:=by rcases j with _ | j<;>simp [Addr.add]
   rw [e]
   simp [World.cell?,hg',this])
 go_enter Tryz.func32,Tryz.ntmps32
 go_wp2
 go_region
 all_goals (go_wp2; go_ret; exact ⟨rfl,rfl⟩)
set_option maxHeartbeats 4000000 in
theorem Tryz.bstr0 {b:Nat}{p:Value}{w:World}(hb:w.heap[b]?=some (.cells #[p,.slice none 0 0] 81 (0,0))) :
 Calls Tryz.prog 32 #[.pointer (some ⟨b,0,none⟩)] w fun e w'=>e=.returned (.string ⟨#[]⟩)/\w'=w.drew:=by
 have hb':w.drew.heap[b]?=some (.cells #[p,.slice none 0 0] 81 (0,0)):=hb
 have c1:w.drew.cell? ⟨b,1,none⟩=some (.slice none 0 0):=by simp [World.cell?,hb']
 have hSD:(Builtin.unsafeSliceData_ #[79] 123 #[.slice none 0 0]).run Tryz.prog w.drew=.ok (.pointer none) w.drew:=Lib.run_unsafeSliceData_nil _ _ _ _ _
 have hUS:(Builtin.unsafeString_ #[123,3] 9 #[.pointer none,.int .i64 0]).run Tryz.prog w.drew=.ok (.string .empty) w.drew:=Lib.run_unsafeString_none _ _ _ _ _
 go_enter Tryz.func32,Tryz.ntmps32
 go_wp2
 go_region
 all_goals (go_wp2; go_ret; exact ⟨rfl,rfl⟩)
end Go.Proofs
end
section
namespace Go.Qx
open Go Go.RowKit Go.Sx
section
variable {I:TypeId->Type} [∀ E,Rp (I E)] {P:Program}{tb:Tab I}{X X':Cxt}{c c':Cx}{σ τ:S}{s:St I}{n:Nat}{F:Fr}
abbrev MpT (I:TypeId->Type)(k:Kd):Type:=List (ByteArray×Ty I k)
def c1L (tb:Tab I)(TA TB:TypeId)(ka kb:Kd)(rs:List Kd)(rl:List ResultVar):Ex->St I->Option (Tys I rs×MpT I ka×MpT I kb):=fun e s=>match e with
 | .exit _=>none
 | _=>Option.bind (a4Z tb s rl) fun a=>Option.bind (a3b tb s.O rs a) fun x=>bif a01 x.2 then (match s.O 0,s.O 1 with
   | some (some (.map TA' ka' ma)),some (some (.map TB' kb' mb))=>Option.bind (a1Q (T:=TA) (T':=TA') (kd:=ka) ma) fun ya=>Option.bind (a1Q (T:=TB) (T':=TB') (kd:=kb) mb) fun yb=>some (x.1,ya,yb)
   | _,_=>none) else none
def c2U (tb:Tab I)(TA TB:TypeId)(ka kb:Kd)(ks:List Kd)(nt:Nat)(ma:MpT I ka)(mb:MpT I kb)(q:Tys I ks):St I :=
 ⟨nt,fun i=>(PV.agg [.mp 0,.mp 1]::a5f tb ks q)[i]?,fun l=>bif Nat.beq l 0 then some (some (.map TA ka ma)) else bif Nat.beq l 1 then some (some (.map TB kb mb)) else none,2⟩
def b06 (tb:Tab I)(TA TB:TypeId)(ka kb:Kd)(ks rs:List Kd)(run:MpT I ka->MpT I kb->Tys I ks->Option (Tys I rs×MpT I ka×MpT I kb))(_:J7 I)(ρ:Type)(O:Obs I)(nb:Nat)(ps:List (PV I))(k:Ef I->Option ρ):Option ρ:=match ps with
 | .agg [.mp la,.mp lb]::r=>match O la,O lb with
   | some (some (.map TA' ka' ma)),some (some (.map TB' kb' mb))=>bif Nat.beq la lb then none else Option.bind (a1Q (T:=TA) (T':=TA') (kd:=ka) ma) fun ya=>Option.bind (a1Q (T:=TB) (T':=TB') (kd:=kb) mb) fun yb =>
      Option.bind (a3b tb O ks r) fun q=>Option.bind (run ya yb q.1) fun x=>k ⟨a3y (a5f tb rs x.1),v8 O q.2++[(la,some (.map TA ka x.2.1)),(lb,some (.map TB kb x.2.2))],[]⟩
   | _,_=>none
 | _=>none
theorem c3w (ht:TabOk P tb){disp0:J7 I}(hd0:DispOk P disp0)(hmx:P.follows .mixedOrders=true){f:FuncId}{fn:Func}{TA TB:TypeId}{ka kb:Kd}{ks rs:List Kd}{nt:Nat}{cd:Code}{rl:List ResultVar}{H:Hints I}
 {run:MpT I ka->MpT I kb->Tys I ks->Option (Tys I rs×MpT I ka×MpT I kb)}
 (hf : P.funcs[f]? = some fn) (hb : fn.body = some cd) (hname : (fn.name == "runtime.NumGoroutine") = false) (hn : fn.ntmps = nt) (hres : fn.results.toList = rl) (hle : Nat.ble (ks.length + 1) nt = true) (hcode : X2 H cd 1 = true)
 (hex:run=fun ma mb q=>a26 tb disp0 H cd 1 (Tys I rs×MpT I ka×MpT I kb) (c2U tb TA TB ka kb ks nt ma mb q) (c1L tb TA TB ka kb rs rl)) :
 EntOk P (⟨f,b06 tb TA TB ka kb ks rs run⟩:Ans I):=by
 refine ⟨fun disp ρ O nb ps k=>?_,fun disp hd O nb ps ef he=>?_⟩
 ·show b06 tb TA TB ka kb ks rs run disp ρ O nb ps k=(b06 tb TA TB ka kb ks rs run disp (Ef I) O nb ps some).bind k
  unfold b06
  split
  ·rename_i la lb r
   split
   ·cases Nat.beq la lb
    ·simp only [cond_false,Option.bind_assoc,Option.bind_some]
    ·rfl
   ·rfl
  ·rfl
 ·intro X c σ s n F vs hX hO h hvs hfree
  have he':b06 tb TA TB ka kb ks rs run disp (Ef I) O nb ps some=some ef:=he
  unfold b06 at he'
  split at he'
  ·rename_i la lb r
   split at he'
   ·rename_i TA' ka' ma TB' kb' mb hoa hob
    cases hab:Nat.beq la lb with
    | true=>rw [hab] at he'; cases he'
    | false =>
    rw [hab] at he'
    simp only [cond_false] at he'
    have hne:la≠lb:=fun e=>by subst e; simp at hab
    obtain ⟨ya,hya,he'⟩:=bind_some he'
    obtain ⟨yb,hyb,he'⟩:=bind_some he'
    obtain ⟨q,hq,he'⟩:=bind_some he'
    obtain ⟨x,hx,he'⟩:=bind_some he'
    cases he'
    obtain ⟨ea,eTa,rfl⟩:=a1l hya
    subst ea
    subst eTa
    obtain ⟨eb,eTb,rfl⟩:=a1l hyb
    subst eb
    subst eTb
    obtain ⟨σ1,p1,p2,p3,p4,p5,p6⟩:=h.pubs hO q.2
    have hpub:∀ {l:Nat} {T:TypeId} {kd:Kd} {m:MpT I kd},O l=some (some (.map T kd m))->(j8 s O q.2).O l=some (some (.map T kd m)):=fun {l T kd m} ho=>by
     have:(j8 s O q.2).O l=s.O l:=by
      show apU s.O (v8 O q.2) l=s.O l
      apply a0A
      intro hm
      have hp:∀ {ls:List Nat},l∈K3 (v8 O ls)->∃ E,∃ xs:List (I E),O l=some (some (.row E xs false)):=by
       intro ls
       induction ls with
       | nil=>intro h; simp [v8,K3] at h
       | cons a r ih =>
         intro h
         simp only [v8] at h
         split at h
         ·rename_i E xs e
          simp only [K3,List.map_cons,List.mem_cons] at h
          rcases h with rfl | h
          ·exact ⟨E,xs,e⟩
          ·exact ih h
         ·exact ih h
      obtain ⟨E,xs,e⟩:=hp hm
      rw [ho] at e
      cases e
     rw [this]; exact hO l _ ho
    have hsa:=hpub hoa
    have hsb:=hpub hob
    have hvs1:=RVs.step p2 _ _ hvs
    simp only [RVs] at hvs1
    obtain ⟨v0,vs',rfl,hv0,hvs'⟩:=hvs1
    have hdv:=a5q ht p4 hq (fun l hl=>hl) hvs'
    obtain ⟨ba,ka1,ka2⟩:=p3.objs la _ hsa
    obtain ⟨bb,kb1,kb2⟩:=p3.objs lb _ hsb
    have hbne:ba≠bb:=fun e=>hne (p3.inj la lb _ _ ba ⟨_,hsa⟩ ⟨_,hsb⟩ ka1 kb1 rfl (by rw [e]))
    have hv0':v0=.agg [Value.map (some ba),Value.map (some bb)].toArray:=by
     simp only [RV,RG] at hv0
     obtain ⟨cs,e,a1,r1,e1,h1,a2,r2,e2,h2,h3⟩:=hv0
     rcases h1 with h1 | ⟨_,w1,f1,g1⟩
     ·exact absurd h1 (by simp [a6O])
     rcases h2 with h2 | ⟨_,w2,f2,g2⟩
     ·exact absurd h2 (by simp [a6O])
     obtain ⟨b1,u1,m1,n1⟩:=g1
     obtain ⟨b2,u2,m2,n2⟩:=g2
     rw [ka1] at m1
     cases m1
     rw [kb1] at m2
     cases m2
     rw [e,e1,f1,e2,f2,h3,n1,n2]
     rfl
    let X0:Cxt:=⟨P,σ1.N,fun b=>b=ba\/b=bb⟩
    let c0:Cx:=fun l=>bif Nat.beq l 0 then some ⟨some ⟨ba,0,none⟩,0,0,some ba⟩ else bif Nat.beq l 1 then some ⟨some ⟨bb,0,none⟩,0,0,some bb⟩ else none
    have hO0:∀ {l:Nat} {o:Ob I},(c2U tb TA' TB' ka' kb' ks nt ma mb q.1).O l=some (some o)->(l=0/\o=.map TA' ka' ma)\/(l=1/\o=.map TB' kb' mb):=fun {l o} ho=>by
     have ho':(bif Nat.beq l 0 then some (some (Ob.map TA' ka' ma)) else bif Nat.beq l 1 then some (some (.map TB' kb' mb)) else none)=some (some o):=ho
     cases h0:Nat.beq l 0 with
     | true=>rw [h0] at ho'; cases ho'; exact .inl ⟨Nat.eq_of_beq_eq_true h0,rfl⟩
     | false =>
       rw [h0] at ho'
       cases h1:Nat.beq l 1 with
       | true=>rw [h1] at ho'; cases ho'; exact .inr ⟨Nat.eq_of_beq_eq_true h1,rfl⟩
       | false=>rw [h1] at ho'; cases ho'
    have hvd:RVs X0 c0 σ1 (a5f tb ks q.1) vs':=b0l ht hdv
    have hini:Rel X0 c0 σ1 (c2U tb TA' TB' ka' kb' ks nt ma mb q.1) nt (K9 (v0::vs')):=by
     refine ⟨rfl,fun i p hp=>?_,fun l o ho=>?_,fun l l' p p' b ⟨o,ho⟩ ⟨o',ho'⟩ hc hc' hw hw'=>?_,fun l p b ⟨o,ho⟩ hc hw=>?_,fun l hl=>?_,⟨Nat.le_refl _,fun E=>Nat.le_trans (p3.base.2 E) p3.base.1⟩,noN.nests fun l E E' u xs q e=>?_⟩
     ·have hrv:RVs X0 c0 σ1 (.agg [.mp 0,.mp 1]::a5f tb ks q.1) (v0::vs'):=by
       simp only [RVs]
       refine ⟨v0,vs',rfl,?_,hvd⟩
       simp only [RV]
       refine ⟨_,hv0',?_⟩
       simp only [RG]
       exact ⟨[.map (some ba)],[.map (some bb)],rfl,.inr ⟨rfl,_,rfl,by simp only [RV]; exact ⟨ba,_,rfl,rfl⟩⟩,[.map (some bb)],[],rfl,.inr ⟨rfl,_,rfl,by simp only [RV]; exact ⟨bb,_,rfl,rfl⟩⟩,rfl⟩
      obtain ⟨v,hv,hr⟩:=RVs.at_ _ _ hrv i p hp
      have:K9 (v0::vs') i=v:=by simp [K9,List.getD,hv]
      rw [this]; exact hr
     ·rcases hO0 ho with ⟨rfl,rfl⟩ | ⟨rfl,rfl⟩
      ·exact ⟨ba,rfl,ka2⟩
      ·exact ⟨bb,rfl,kb2⟩
     ·rcases hO0 ho with ⟨rfl,rfl⟩ | ⟨rfl,rfl⟩<;>rcases hO0 ho' with ⟨rfl,rfl⟩ | ⟨rfl,rfl⟩
      ·rfl
      ·cases hc; cases hc'; cases hw; cases hw'; exact absurd rfl hbne
      ·cases hc; cases hc'; cases hw; cases hw'; exact absurd rfl hbne
      ·rfl
     ·rcases hO0 ho with ⟨rfl,rfl⟩ | ⟨rfl,rfl⟩
      ·cases hc; cases hw; exact .inr (.inl rfl)
      ·cases hc; cases hw; exact .inr (.inr rfl)
     ·have hl':(bif Nat.beq l 0 then some (some (Ob.map TA' ka' ma)) else bif Nat.beq l 1 then some (some (.map TB' kb' mb)) else none)=(none:Option (Option (Ob I))):=hl
      show (bif Nat.beq l 0 then some _ else bif Nat.beq l 1 then some _ else none)=none
      cases h0:Nat.beq l 0 with
      | true=>rw [h0] at hl'; cases hl'
      | false =>
        rw [h0] at hl'
        cases h1:Nat.beq l 1 with
        | true=>rw [h1] at hl'; cases hl'
        | false=>rfl
     ·rcases hO0 e with ⟨_,e⟩ | ⟨_,e⟩<;>cases e
    have hle':=Nat.le_of_ble_eq_true hle
    have hlen:vs'.length=ks.length:=by
     have h1:=RVs.len _ _ hvd
     have h2:∀ (ks:List Kd) (q:Tys I ks),(a5f tb ks q).length=ks.length:=by
      intro ks
      induction ks with
      | nil=>intro q; rfl
      | cons k r ih=>intro q; simp only [a5f,List.length_cons]; rw [ih]
     rw [h1,h2]
    have hcall:a0q P f (v0::vs') σ1 (Stp X0.M σ1) fun v τ=>∃ (s':St I) (c2:Cx) (F':Fr) (ws:List Value) (zs:List (PV I)),Rel X0 c2 τ s' nt F'/\Cx.le c0 c2/\s'.O 0=some (some (.map TA' ka' x.2.1))/\s'.O 1=some (some (.map TB' kb' x.2.2))/\v=a1k ws/\DVs τ rs x.1 ws:=by
     refine .inl ⟨⟨fn,_,hf,hb,hname⟩,calls_of_wp hf hb ?_⟩
     have e:(⟨(v0::vs').toArray++Array.replicate (fn.ntmps-(v0::vs').toArray.size) undef,[]⟩:Act)=fr nt (K9 (v0::vs')):=by
      rw [hn]
      simp only [fr]
      congr 1
      apply Array.ext
      ·simp; omega
      ·intro i h1 h2
       simp only [Array.getElem_ofFn,K9,Array.getElem_append]
       split
       ·rename_i hi; simp at hi; simp [List.getD,List.getElem?_eq_getElem (show i<(v0::vs').length by simp; omega)]
       ·rename_i hi; simp at hi; simp [List.getD,List.getElem?_eq_none (l:=v0::vs') (show (v0::vs').length<=i by simp; omega)]
     rw [e]
     rw [hex] at hx
     refine a0o ht hd0 hmx cd 1 hcode _ _ _ _ X0 _ σ1 _ _ rfl hx hini fun ex s' c2 τ F' hfin hle2 hr st _=>?_
     have key:c1L tb TA' TB' ka' kb' rs rl .normal s'=some x->∃ v,(results fn (fr nt F').tmps).run P τ.w=.ok v τ.w/\∃ v' τ',Ending.returned v=.returned v'/\τ'.w=τ.w/\Stp X0.M σ1 τ'/\∃ (s':St I) (c2:Cx) (F':Fr) (ws:List Value) (zs:List (PV I)),Rel X0 c2 τ' s' nt F'/\Cx.le c0 c2/\s'.O 0=some (some (.map TA' ka' x.2.1))/\s'.O 1=some (some (.map TB' kb' x.2.2))/\v'=a1k ws/\DVs τ' rs x.1 ws:=by
      intro hh
      have hh':(Option.bind (a4Z tb s' rl) fun a=>Option.bind (a3b tb s'.O rs a) fun x=>bif a01 x.2 then (match s'.O 0,s'.O 1 with
       | some (some (.map TA0 ka0 ma0)),some (some (.map TB0 kb0 mb0))=>Option.bind (a1Q (T:=TA') (T':=TA0) (kd:=ka') ma0) fun ya=>Option.bind (a1Q (T:=TB') (T':=TB0) (kd:=kb') mb0) fun yb=>some (x.1,ya,yb)
       | _,_=>none) else none)=some x:=hh
      obtain ⟨zs,z1,hh'⟩:=bind_some hh'
      obtain ⟨y,z2,hh'⟩:=bind_some hh'
      obtain ⟨z3,hh'⟩:=z7 hh'
      obtain ⟨ws,w1,w2⟩:=a6K ht hr z1
      have hnil:y.2=[]:=by
       revert z3
       cases y.2 with
       | nil=>intro _; rfl
       | cons a r=>intro h; cases h
      obtain ⟨τ2,t1,t2,t3,t4,_,t6⟩:=hr.pubs (O:=s'.O) (fun _ _ h=>h) []
      have hdvs:=a5q ht t4 z2 (fun l hl=>by rw [hnil] at hl; cases hl) (RVs.step t2 _ _ w1)
      split at hh'
      ·rename_i TA0 ka0 ma0 TB0 kb0 mb0 o1 o2
       obtain ⟨yy,u1,hh'⟩:=bind_some hh'
       obtain ⟨yz,u2,hh'⟩:=bind_some hh'
       cases hh'
       obtain ⟨g1,g2,rfl⟩:=a1l u1
       subst g1
       subst g2
       obtain ⟨g1,g2,rfl⟩:=a1l u2
       subst g1
       subst g2
       exact ⟨a1k ws,a5j (by rw [hres]; exact w2),a1k ws,τ2,rfl,t1,st.trans t2,j8 s' s'.O [],c2,F',ws,zs,t3,hle2,(t6 0 (by simp)).trans o1,(t6 1 (by simp)).trans o2,rfl,hdvs⟩
      ·cases hh'
     cases ex with
     | exit i=>cases hfin
     | normal =>
       obtain ⟨v,h1,v',τ',h2,h3⟩:=key hfin
       exact ⟨rfl,v,h1,v',τ',h2,h3⟩
     | ret =>
       obtain ⟨v,h1,v',τ',h2,h3⟩:=key hfin
       exact ⟨rfl,v,h1,v',τ',h2,h3⟩
    refine hcall.mono p1.symm fun v τ st ⟨s',c2,F',ws,zs,hr,hle2,o1,o2,hv,hds⟩=>?_
    subst hv
    have hMa:X.M ba:=p3.mine la _ ba ⟨_,hsa⟩ ka1 rfl
    have hMb:X.M bb:=p3.mine lb _ bb ⟨_,hsb⟩ kb1 rfl
    have q1:=p3.kill (l:=la) ⟨_,hsa⟩
    have hsb':(j9 (j8 s O q.2) la none).O lb=some (some (.map TB' kb' mb)):=(Z7 (fun e=>hne e.symm)).trans hsb
    have q2:=q1.kill (l:=lb) ⟨_,hsb'⟩
    have hlive:∀ {l':Nat},k7 (j9 (j9 (j8 s O q.2) la none) lb none) l'->l'≠la/\l'≠lb/\k7 (j8 s O q.2) l':=fun {l'} ⟨o,ho⟩=>by
     rcases j5 ho with ⟨_,e⟩ | ⟨e1,ho⟩
     ·cases e
     ·rcases j5 ho with ⟨_,e⟩ | ⟨e2,ho⟩
      ·cases e
      ·exact ⟨e2,e1,o,ho⟩
    have hMX:∀ b,X0.M b->X.M b:=fun b hb=>by
     rcases hb with hb | rfl | rfl
     ·exact .inl (Nat.le_trans p3.base.1 hb)
     ·exact hMa
     ·exact hMb
    have hn:∀ l p g,k7 (j9 (j9 (j8 s O q.2) la none) lb none) l->c l=some p->p.w=some g->¬ X0.M g:=fun l p g hl hc hw hg=>by
     obtain ⟨e1,e2,o,ho⟩:=hlive hl
     rcases hg with hg | rfl | rfl
     ·have:=(p3.objs l o ho).lt hc hw
      have hg':σ1.N<=g:=hg
      omega
     ·exact e1 (p3.inj l la p _ g ⟨o,ho⟩ ⟨_,hsa⟩ hc ka1 hw rfl)
     ·exact e2 (p3.inj l lb p _ g ⟨o,ho⟩ ⟨_,hsb⟩ hc kb1 hw rfl)
    have hi:∀ g,X0.M g->notIn c σ1 (j9 (j9 (j8 s O q.2) la none) lb none) g:=fun g hg=>by
     have hni:notIn c σ1 (j8 s O q.2) g:=by
      rcases hg with hg | rfl | rfl
      ·exact p3.fresh hg
      ·exact p3.owned ⟨_,hsa⟩ ka1 rfl
      ·exact p3.owned ⟨_,hsb⟩ kb1 rfl
     exact (hni.set (l:=la) (o:=none)).set
    have q3:Rel X c τ (j9 (j9 (j8 s O q.2) la none) lb none) n F:=q2.stepG st hMX hn hi
    have hi3:∀ g,X0.M g->notIn c τ (j9 (j9 (j8 s O q.2) la none) lb none) g:=fun g hg=>(hi g hg).step q2 st hn hi
    obtain ⟨ba',j1,j2⟩:=hr.objs 0 _ o1
    have j3:c2 0=some ⟨some ⟨ba,0,none⟩,0,0,some ba⟩:=hle2 0 _ rfl
    rw [j3] at j1
    cases j1
    obtain ⟨bb',i1,i2⟩:=hr.objs 1 _ o2
    have i3:c2 1=some ⟨some ⟨bb,0,none⟩,0,0,some bb⟩:=hle2 1 _ rfl
    rw [i3] at i1
    cases i1
    have q4:=q3.revive (l:=la) (o:=.map TA' ka' x.2.1) ⟨ba,ka1,j2⟩ fun p g hc hw=>by
     rw [ka1] at hc
     cases hc
     cases hw
     exact ⟨hMa,hi3 ba (.inr (.inl rfl)),fun l' p' _ hl' hc' hw'=>hn l' p' ba hl' hc' hw' (.inr (.inl rfl))⟩
    have q5:=q4.revive (l:=lb) (o:=.map TB' kb' x.2.2) ⟨bb,kb1,i2⟩ fun p g hc hw=>by
     rw [kb1] at hc
     cases hc
     cases hw
     refine ⟨hMb,(hi3 bb (.inr (.inr rfl))).set,fun l' p' _ ⟨o',hl'⟩ hc' hw'=>?_⟩
     rcases j5 hl' with ⟨e,_⟩ | ⟨_,hl'⟩
     ·subst e
      rw [ka1] at hc'
      cases hc'
      cases hw'
      exact hbne rfl
     ·exact hn l' p' bb ⟨o',hl'⟩ hc' hw' (.inr (.inr rfl))
    have hend:apE s nb ⟨a3y (a5f tb rs x.1),v8 O q.2++[(la,some (.map TA' ka' x.2.1)),(lb,some (.map TB' kb' x.2.2))],[]⟩=j9 (j9 (j9 (j9 (j8 s O q.2) la none) lb none) la (some (.map TA' ka' x.2.1))) lb (some (.map TB' kb' x.2.2)):=by
     have hO':apU s.O (v8 O q.2++[(la,some (.map TA' ka' x.2.1)),(lb,some (.map TB' kb' x.2.2))])=upF (upF (upF (upF (apU s.O (v8 O q.2)) la none) lb none) la (some (.map TA' ka' x.2.1))) lb (some (.map TB' kb' x.2.2)):=by
      rw [a0m]
      simp only [apU]
      funext i
      simp only [upF]
      cases Nat.beq i lb<;>cases Nat.beq i la<;>rfl
     show (⟨s.n,s.F,apU s.O (v8 O q.2++[(la,some (.map TA' ka' x.2.1)),(lb,some (.map TB' kb' x.2.2))]),s.nx⟩:St I)=_
     rw [hO']
     rfl
    refine ⟨τ,rfl,p2.trans (st.mono fun b _ hb=>hMX b hb),c,Cx.le_refl c,by rw [hend]; exact q5,?_⟩
    exact b0f (b0l ht hds)
   ·cases he'
  ·cases he'
def c3r (tb:Tab I)(rs:List Kd)(rl:List ResultVar):Ex->St I->Option (Tys I rs):=fun e s=>match e with
 | .exit _=>none
 | _=>Option.bind (a4Z tb s rl) fun a=>Option.bind (a3b tb s.O rs a) fun x=>bif a01 x.2 then some x.1 else none
def c2h (tb:Tab I)(TV TA TB:TypeId)(ka kb k1:Kd)(nt:Nat)(ma:MpT I ka)(mb:MpT I kb)(q:Ty I k1):St I :=
 ⟨nt,fun i=>[a21 tb k1 q,.ptr 0 0][i]?,fun l=>bif Nat.beq l 0 then some (some (.var TV [.mp 1,.mp 2] false)) else bif Nat.beq l 1 then some (some (.rom TA ka ma)) else bif Nat.beq l 2 then some (some (.rom TB kb mb)) else none,3⟩
def b62 (O:Obs I)(l:Nat)(T:TypeId)(kd:Kd):Option (MpT I kd):=match O l with
 | some (some (.map T' kd' m))=>a1Q (T:=T) (T':=T') (kd:=kd) m
 | some (some (.rom T' kd' m))=>a1Q (T:=T) (T':=T') (kd:=kd) m
 | _=>none
omit [∀ E,Rp (I E)] in
theorem c2F {O:Obs I}{l:Nat}{T:TypeId}{kd:Kd}{m:MpT I kd}(h:b62 O l T kd=some m):O l=some (some (.map T kd m))\/O l=some (some (.rom T kd m)):=by
 unfold b62 at h
 split at h
 ·rename_i T' kd' m' e
  obtain ⟨e1,e2,rfl⟩:=a1l h
  subst e1
  subst e2
  exact .inl e
 ·rename_i T' kd' m' e
  obtain ⟨e1,e2,rfl⟩:=a1l h
  subst e1
  subst e2
  exact .inr e
 ·cases h
theorem b9l {l:Nat}{T:TypeId}{kd:Kd}{m:MpT I kd}(hr:Rel X c σ s n F)(h:s.O l=some (some (.map T kd m))\/s.O l=some (some (.rom T kd m))):∃ b w,c l=some ⟨some ⟨b,0,none⟩,0,0,w⟩/\a4g σ kd m b:=by
 rcases h with h | h
 ·obtain ⟨b,h1,h2⟩:=hr.objs l _ h
  exact ⟨b,_,h1,h2⟩
 ·obtain ⟨b,h1,h2,_⟩:=hr.objs l _ h
  exact ⟨b,_,h1,h2⟩
def b1Q (tb:Tab I)(TV TA TB:TypeId)(ka kb k1:Kd)(rs:List Kd)(run:MpT I ka->MpT I kb->Ty I k1->Option (Tys I rs))(_:J7 I)(ρ:Type)(O:Obs I)(_:Nat)(ps:List (PV I))(k:Ef I->Option ρ):Option ρ:=match ps with
 | [p,.ptr l 0]=>match O l with
   | some (some (.var T [.mp la,.mp lb] _))=>bif Nat.beq T TV then Option.bind (b62 O la TA ka) fun ya=>Option.bind (b62 O lb TB kb) fun yb =>
      Option.bind (a4d tb O k1 p) fun q=>bif a01 q.2 then Option.bind (run ya yb q.1) fun x=>k ⟨a3y (a5f tb rs x),[],[]⟩ else none else none
   | _=>none
 | _=>none
theorem c3V (ht:TabOk P tb){disp0:J7 I}(hd0:DispOk P disp0)(hmx:P.follows .mixedOrders=true){f:FuncId}{fn:Func}{TV TA TB:TypeId}{ka kb k1:Kd}{rs:List Kd}{nt:Nat}{cd:Code}{rl:List ResultVar}{H:Hints I}
 {run:MpT I ka->MpT I kb->Ty I k1->Option (Tys I rs)}
 (hf : P.funcs[f]? = some fn) (hb : fn.body = some cd) (hname : (fn.name == "runtime.NumGoroutine") = false) (hn : fn.ntmps = nt) (hres : fn.results.toList = rl) (hle : Nat.ble 2 nt = true) (hcode : X2 H cd 1 = true)
 (hex:run=fun ma mb q=>a26 tb disp0 H cd 1 (Tys I rs) (c2h tb TV TA TB ka kb k1 nt ma mb q) (c3r tb rs rl)) :
 EntOk P (⟨f,b1Q tb TV TA TB ka kb k1 rs run⟩:Ans I):=by
 refine ⟨fun disp ρ O nb ps k=>?_,fun disp hd O nb ps ef he=>?_⟩
 ·show b1Q tb TV TA TB ka kb k1 rs run disp ρ O nb ps k=(b1Q tb TV TA TB ka kb k1 rs run disp (Ef I) O nb ps some).bind k
  unfold b1Q
  split
  ·split
   ·rename_i T la lb w e
    cases Nat.beq T TV
    ·rfl
    ·simp only [cond_true,Option.bind_assoc]
     congr 1
     funext ya
     congr 1
     funext yb
     congr 1
     funext q
     cases a01 q.2
     ·rfl
     ·simp only [cond_true,Option.bind_assoc,Option.bind_some]
   ·rfl
  ·rfl
 ·intro X c σ s n F vs hX hO h hvs hfree
  have he':b1Q tb TV TA TB ka kb k1 rs run disp (Ef I) O nb ps some=some ef:=he
  unfold b1Q at he'
  split at he'
  ·rename_i p l
   split at he'
   ·rename_i T la lb w hol
    obtain ⟨hT,hf'⟩:=z7 he'
    clear he'
    have he':=hf'
    clear hf'
    have hT':=Nat.eq_of_beq_eq_true hT
    clear hT he
    subst hT'
    obtain ⟨ya,hya,he'⟩:=bind_some he'
    obtain ⟨yb,hyb,he'⟩:=bind_some he'
    obtain ⟨q,hq,he'⟩:=bind_some he'
    obtain ⟨hnl,he'⟩:=z7 he'
    obtain ⟨x,hx,he'⟩:=bind_some he'
    cases he'
    have hnl:=a0W hnl
    obtain ⟨σ1,p1,p2,p3',p4,p5,p6⟩:=h.pubs hO []
    have p3:Rel X c σ1 s n F:=p3'
    have hvs1:=RVs.step p2 _ _ hvs
    simp only [RVs] at hvs1
    obtain ⟨v0,vs',rfl,hv0,v1,vs'',rfl,hv1,rfl⟩:=hvs1
    have hdv:DV σ1 k1 q.1 v0:=a1S ht p4 (ls:=q.2) hq (fun l hl=>by rw [hnl] at hl; exact hl) hv0
    have hsO:∀ {l:Nat} {T:TypeId} {kd:Kd} {m:MpT I kd},b62 O l T kd=some m->s.O l=some (some (.map T kd m))\/s.O l=some (some (.rom T kd m)):=fun h=>(c2F h).imp (hO _ _) (hO _ _)
    obtain ⟨ba,wa,ka1,ka2⟩:=b9l p3 (hsO hya)
    obtain ⟨bb,wb,kb1,kb2⟩:=b9l p3 (hsO hyb)
    obtain ⟨bv,cs,l1,l2,l3,_,_⟩:=p3.objs l _ (hO l _ hol)
    have hv1':v1=.pointer (some ⟨bv,0,none⟩):=by
     simp only [RV] at hv1
     obtain ⟨b,w,e1,e2⟩:=hv1
     rw [l1] at e1
     cases e1
     exact e2
    have hcs:cs=[Value.map (some ba),Value.map (some bb)]:=by
     simp only [RG] at l2
     obtain ⟨a1,r1,e1,h1,a2,r2,e2,h2,h3⟩:=l2
     rcases h1 with h1 | ⟨_,w1,f1,g1⟩
     ·exact absurd h1 (by simp [a6O])
     rcases h2 with h2 | ⟨_,w2,f2,g2⟩
     ·exact absurd h2 (by simp [a6O])
     simp only [RV] at g1 g2
     obtain ⟨b1,u1,m1,n1⟩:=g1
     obtain ⟨b2,u2,m2,n2⟩:=g2
     rw [ka1] at m1
     cases m1
     rw [kb1] at m2
     cases m2
     rw [e1,f1,e2,f2,h3,n1,n2]
     rfl
    let X0:Cxt:=⟨P,σ1.N,fun _=>False⟩
    let c0:Cx:=fun l=>bif Nat.beq l 0 then some ⟨some ⟨bv,0,none⟩,0,0,none⟩ else bif Nat.beq l 1 then some ⟨some ⟨ba,0,none⟩,0,0,none⟩ else bif Nat.beq l 2 then some ⟨some ⟨bb,0,none⟩,0,0,none⟩ else none
    have hM0:∀ {b:Nat},b<σ1.N->¬ X0.M b:=fun {b} hlt hm=>by
     rcases hm with hm | hm
     ·have:σ1.N<=b:=hm
      omega
     ·exact hm
    have hO0:∀ {l:Nat} {o:Ob I},(c2h tb T TA TB ka kb k1 nt ya yb q.1).O l=some (some o)->(l=0/\o=.var T [.mp 1,.mp 2] false)\/(l=1/\o=.rom TA ka ya)\/(l=2/\o=.rom TB kb yb):=fun {l o} ho=>by
     have ho':(bif Nat.beq l 0 then some (some (Ob.var T [.mp 1,.mp 2] false)) else bif Nat.beq l 1 then some (some (Ob.rom TA ka ya)) else bif Nat.beq l 2 then some (some (.rom TB kb yb)) else none)=some (some o):=ho
     cases h0:Nat.beq l 0 with
     | true=>rw [h0] at ho'; cases ho'; exact .inl ⟨Nat.eq_of_beq_eq_true h0,rfl⟩
     | false =>
       rw [h0] at ho'
       cases h1:Nat.beq l 1 with
       | true=>rw [h1] at ho'; cases ho'; exact .inr (.inl ⟨Nat.eq_of_beq_eq_true h1,rfl⟩)
       | false =>
         rw [h1] at ho'
         cases h2:Nat.beq l 2 with
         | true=>rw [h2] at ho'; cases ho'; exact .inr (.inr ⟨Nat.eq_of_beq_eq_true h2,rfl⟩)
         | false=>rw [h2] at ho'; cases ho'
    have hcn:∀ {l:Nat} {p:Pl} {g:Nat},c0 l=some p->p.w=some g->False:=fun {l p g} hc hw=>by
     have hc':(bif Nat.beq l 0 then some (⟨some ⟨bv,0,none⟩,0,0,none⟩:Pl) else bif Nat.beq l 1 then some ⟨some ⟨ba,0,none⟩,0,0,none⟩ else bif Nat.beq l 2 then some ⟨some ⟨bb,0,none⟩,0,0,none⟩ else none)=some p:=hc
     cases h0:Nat.beq l 0 with
     | true=>rw [h0] at hc'; cases hc'; cases hw
     | false =>
       rw [h0] at hc'
       cases h1:Nat.beq l 1 with
       | true=>rw [h1] at hc'; cases hc'; cases hw
       | false =>
         rw [h1] at hc'
         cases h2:Nat.beq l 2 with
         | true=>rw [h2] at hc'; cases hc'; cases hw
         | false=>rw [h2] at hc'; cases hc'
    have hini:Rel X0 c0 σ1 (c2h tb T TA TB ka kb k1 nt ya yb q.1) nt (K9 [v0,v1]):=by
     refine ⟨rfl,fun i p hp=>?_,fun l o ho=>?_,fun l l' p p' b _ _ hc _ hw _=>(hcn hc hw).elim,fun l p b _ hc hw=>(hcn hc hw).elim,fun l hl=>?_,⟨Nat.le_refl _,fun E=>Nat.le_trans (p3.base.2 E) p3.base.1⟩,noN.nests fun l E E' u xs q e=>?_⟩
     ·have hrv:RVs X0 c0 σ1 [a21 tb k1 q.1,.ptr 0 0] [v0,v1]:=by
       simp only [RVs]
       refine ⟨v0,[v1],rfl,a4Y ht hdv,v1,[],rfl,?_,rfl⟩
       simp only [RV]
       exact ⟨bv,none,rfl,hv1'⟩
      obtain ⟨v,hv,hr⟩:=RVs.at_ _ _ hrv i p hp
      have:K9 [v0,v1] i=v:=by simp [K9,List.getD,hv]
      rw [this]; exact hr
     ·rcases hO0 ho with ⟨rfl,rfl⟩ | ⟨rfl,rfl⟩ | ⟨rfl,rfl⟩
      ·refine ⟨bv,cs,rfl,?_,l3,fun e=>(by cases e),fun _=>hM0 (J5 l3)⟩
       rw [hcs]
       simp only [RG]
       exact ⟨[.map (some ba)],[.map (some bb)],rfl,.inr ⟨rfl,_,rfl,by simp only [RV]; exact ⟨ba,_,rfl,rfl⟩⟩,[.map (some bb)],[],rfl,.inr ⟨rfl,_,rfl,by simp only [RV]; exact ⟨bb,_,rfl,rfl⟩⟩,rfl⟩
      ·exact ⟨ba,rfl,ka2,hM0 ka2.lt⟩
      ·exact ⟨bb,rfl,kb2,hM0 kb2.lt⟩
     ·have hl':(bif Nat.beq l 0 then some (some (Ob.var T [.mp 1,.mp 2] false)) else bif Nat.beq l 1 then some (some (Ob.rom TA ka ya)) else bif Nat.beq l 2 then some (some (.rom TB kb yb)) else none)=(none:Option (Option (Ob I))):=hl
      show (bif Nat.beq l 0 then some _ else bif Nat.beq l 1 then some _ else bif Nat.beq l 2 then some _ else none)=none
      cases h0:Nat.beq l 0 with
      | true=>rw [h0] at hl'; cases hl'
      | false =>
        rw [h0] at hl'
        cases h1:Nat.beq l 1 with
        | true=>rw [h1] at hl'; cases hl'
        | false =>
          rw [h1] at hl'
          cases h2:Nat.beq l 2 with
          | true=>rw [h2] at hl'; cases hl'
          | false=>rfl
     ·rcases hO0 e with ⟨_,e⟩ | ⟨_,e⟩ | ⟨_,e⟩<;>cases e
    have hle':=Nat.le_of_ble_eq_true hle
    have hcall:a0q P f [v0,v1] σ1 (Stp X0.M σ1) fun v τ=>∃ ws,v=a1k ws/\DVs τ rs x ws:=by
     refine .inl ⟨⟨fn,_,hf,hb,hname⟩,calls_of_wp hf hb ?_⟩
     have e:(⟨([v0,v1]:List Value).toArray++Array.replicate (fn.ntmps-([v0,v1]:List Value).toArray.size) undef,[]⟩:Act)=fr nt (K9 [v0,v1]):=by
      rw [hn]
      simp only [fr]
      congr 1
      apply Array.ext
      ·simp; omega
      ·intro i h1 h2
       simp only [Array.getElem_ofFn,K9,Array.getElem_append]
       split
       ·rename_i hi; simp at hi; simp [List.getD,List.getElem?_eq_getElem (show i<([v0,v1]:List Value).length by simp; omega)]
       ·rename_i hi; simp at hi; simp [List.getD,List.getElem?_eq_none (l:=[v0,v1]) (show ([v0,v1]:List Value).length<=i by simp; omega)]
     rw [e]
     rw [hex] at hx
     refine a0o ht hd0 hmx cd 1 hcode _ _ _ _ X0 _ σ1 _ _ rfl hx hini fun ex s' c2 τ F' hfin hle2 hr st _=>?_
     have key:c3r tb rs rl .normal s'=some x->∃ v,(results fn (fr nt F').tmps).run P τ.w=.ok v τ.w/\∃ v' τ',Ending.returned v=.returned v'/\τ'.w=τ.w/\Stp X0.M σ1 τ'/\∃ ws,v'=a1k ws/\DVs τ' rs x ws:=by
      intro hh
      have hh':(Option.bind (a4Z tb s' rl) fun a=>Option.bind (a3b tb s'.O rs a) fun x=>bif a01 x.2 then some x.1 else none)=some x:=hh
      obtain ⟨zs,z1,hh'⟩:=bind_some hh'
      obtain ⟨y,z2,hh'⟩:=bind_some hh'
      obtain ⟨z3,hh'⟩:=z7 hh'
      cases hh'
      obtain ⟨ws,w1,w2⟩:=a6K ht hr z1
      have hnil:y.2=[]:=by
       revert z3
       cases y.2 with
       | nil=>intro _; rfl
       | cons a r=>intro h; cases h
      obtain ⟨τ2,t1,t2,t3,t4,_,t6⟩:=hr.pubs (O:=s'.O) (fun _ _ h=>h) []
      have hdvs:=a5q ht t4 z2 (fun l hl=>by rw [hnil] at hl; cases hl) (RVs.step t2 _ _ w1)
      exact ⟨a1k ws,a5j (by rw [hres]; exact w2),a1k ws,τ2,rfl,t1,st.trans t2,ws,rfl,hdvs⟩
     cases ex with
     | exit i=>cases hfin
     | normal =>
       obtain ⟨v,h1,v',τ',h2,h3⟩:=key hfin
       exact ⟨rfl,v,h1,v',τ',h2,h3⟩
     | ret =>
       obtain ⟨v,h1,v',τ',h2,h3⟩:=key hfin
       exact ⟨rfl,v,h1,v',τ',h2,h3⟩
    refine hcall.mono p1.symm fun v τ st ⟨ws,hv,hds⟩=>?_
    subst hv
    have hMX:∀ b,X0.M b->X.M b:=fun b hb=>by
     rcases hb with hb | hb
     ·exact .inl (Nat.le_trans p3.base.1 hb)
     ·exact hb.elim
    have hn:∀ l p g,k7 s l->c l=some p->p.w=some g->¬ X0.M g:=fun l p g ⟨o,ho⟩ hc hw=>hM0 ((p3.objs l o ho).lt hc hw)
    have hi:∀ g,X0.M g->notIn c σ1 s g:=fun g hg=>by
     rcases hg with hg | hg
     ·exact p3.fresh hg
     ·exact hg.elim
    have q3:Rel X c τ s n F:=p3.stepG st hMX hn hi
    exact ⟨τ,rfl,p2.trans (st.mono fun b _ hb=>hMX b hb),c,Cx.le_refl c,q3,b0f (b0l ht hds)⟩
   ·cases he'
  ·cases he'
end
end Go.Qx
end

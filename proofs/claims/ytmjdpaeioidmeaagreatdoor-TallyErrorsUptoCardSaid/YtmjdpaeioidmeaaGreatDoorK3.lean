/- Part 3. -/
import Derived.Test.YtmjdpaeioidmeaaGreatDoorK2
import Derived.BigCall
import Derived.KernelRfl
import Derived.Lib.Bytealg
import Derived.Shelf.Lays
import Derived.Shelf.SlLaysF0
import Derived.Shelf.Strings.Builder1
import Derived.Test.YtmjdpaeioidmeaaGreatDoorProg
import Derived.WalkKit
section
namespace Go.Qx
open Go Go.RowKit Go.Sx
set_option maxRecDepth 100000
structure Api_Field where
 Key_:Key
 Node:Int
 Optional:Bool
structure Api_TypeNode where
 Kind:Int
 Lo:Int
 Hi:Int
 Text:ByteArray
 Kids:List Int
 Fields:List Api_Field
 Rest:Int×Int
structure Api_Type where
 Nodes:List Api_TypeNode
 Root:Int
structure Api_Constraint where
 Lower:Api_Type
 Upper:Api_Type
structure Api_Range where
 Lo:Int
 Hi:Int
structure Api_Binding where
 Name:ByteArray
 Type_:Api_Type
structure Api_Goal where
 Pos:List Int
 Neg:List Int
 Lists:Bool
structure Api_Form where
 Args:List Int
 Fails:Bool
 Result:Int
structure Api_Alternative where
 Leaf:Val
 Keys:List Key
 Forms:List Api_Form
 Subgoals:List Api_Goal
structure Api_EntryForm where
 Args:List Api_Goal
 Fails:Bool
 Result:Api_Goal
structure Solve_Way where
 Alternative:Api_Alternative
 Entries:List (List Api_EntryForm)
structure Api_Names where
 Cofinite:Bool
 List_:List ByteArray
structure Api_Line where
 Kind:Int
 Arity:Int
 Ints:List Api_Range
 Names:Api_Names
 Pos:List Int
 Neg:List Int
 Vars:List ByteArray
 NotVars:List ByteArray
structure Core_Sort where
 Kind:Int
 Arity:Int
structure Core_pair where
 pos:List Int
 neg:List Int
 finalPos:List Int
 finalNeg:List Int
structure Api_Box where
 Parts:List Api_Goal
structure Api_SomeKey where
 Kind:Int
 Goal:Api_Goal
structure Api_Shape where
 Keys:List Key
 States:List Int
 Parts:List Api_Goal
 Rest:Api_Goal×Api_Goal
 Some:List Api_SomeKey
structure Literals_normal where
 Names:Api_Names
structure Record_place where
 key:Int
 absent:Bool
 kind:Int
def a60 (x y:Int×Int):Bool:=((x.1==y.1)&&((x.2==y.2)&&true))
def a2A (x y:Key):Bool:=((x.Kind==y.Kind)&&((Q3 x.Text y.Text)&&true))
def a4E (x:Int):Option Bool :=
 some (x != x)
def a6i (x:Int)(y:Int):Option Int :=
 Option.bind (a4E x) fun r1 =>
 Option.bind (a4E y) fun r2 =>
 bif r1
 then (bif r2
 then (some 0)
 else (some (-1)))
 else (bif r2
 then (some 1)
 else (bif decide (x<y)
 then (some (-1))
 else (bif decide (y<x)
 then (some 1)
 else (some 0))))
def a4G (a:Api_Range)(b:Api_Range):Option Int :=
 Option.bind (a6i a.Lo b.Lo) fun r1 =>
 some r1
noncomputable def a9I (d:List Api_Range)(x1:(List Api_Range)×Int):Option (Fl ((List Api_Range)×Int) (List Api_Range)) :=
 bif decide (x1.2<(d.length:Int))
 then (Option.bind (idx d x1.2) fun e2 =>
 bif decide (e2.Lo<=e2.Hi)
 then (Option.bind (v7 (x1.1.length+([e2]:List Api_Range).length) 16) fun _ =>
 some (.next (x1.1++([e2]:List Api_Range),wr .i64 (x1.2+1))))
 else (some (.next (x1.1,wr .i64 (x1.2+1)))))
 else (some (.done x1.1))
noncomputable def a9M (r8:Unit×List Api_Range)(x9:(List Api_Range)×(List Api_Range)×Int):Option (Fl ((List Api_Range)×(List Api_Range)×Int) ((List Api_Range)×(List Api_Range))) :=
 bif decide (x9.2.2<(r8.2.length:Int))
 then (Option.bind (idx x9.2.1 x9.2.2) fun _ =>
 Option.bind (x9.2.1[x9.2.2.toNat]?) fun e11 =>
 Option.bind (bif decide (0<=(wr .i64 ((x9.1.length:Int)-1)))
 then (Option.bind (idx x9.1 (wr .i64 ((x9.1.length:Int)-1))) fun _ =>
 Option.bind (x9.1[(wr .i64 ((x9.1.length:Int)-1)).toNat]?) fun e13 =>
 Option.bind (bif e13.Hi==9223372036854775807
 then (some true)
 else (Option.bind (idx x9.1 (wr .i64 ((x9.1.length:Int)-1))) fun _ =>
 Option.bind (x9.1[(wr .i64 ((x9.1.length:Int)-1)).toNat]?) fun e15 =>
 some (decide (e11.Lo<=(wr .i64 (e15.Hi+1)))))) fun q16 =>
 some q16)
 else (some false)) fun q17 =>
 bif q17
 then (Option.bind (idx x9.1 (wr .i64 ((x9.1.length:Int)-1))) fun _ =>
 Option.bind (x9.1[(wr .i64 ((x9.1.length:Int)-1)).toNat]?) fun e19 =>
 Option.bind (idx x9.1 (wr .i64 ((x9.1.length:Int)-1))) fun _ =>
 Option.bind (x9.1[(wr .i64 ((x9.1.length:Int)-1)).toNat]?) fun e21 =>
 some (.next (x9.1.set ((wr .i64 ((x9.1.length:Int)-1)).toNat) (Api_Range.mk e21.Lo (max e19.Hi e11.Hi)),x9.2.1,wr .i64 (x9.2.2+1))))
 else (Option.bind (v7 (x9.1.length+([e11]:List Api_Range).length) 16) fun _ =>
 some (.next (x9.1++([e11]:List Api_Range),x9.2.1,wr .i64 (x9.2.2+1)))))
 else (some (.done (x9.1,x9.2.1)))
noncomputable def a0a (d:List Api_Range):Option (List Api_Range) :=
 Option.bind (y2 (a9I d) ((d.length:Int).toNat+1) ([],0)) fun b4 =>
 Option.bind (b00 b4 (fun z5 z6 =>
 Option.bind (a4G z5 z6) fun r7 =>
 some r7)) fun r8 =>
 Option.bind (y2 (a9M r8) ((r8.2.length:Int).toNat+1) ([],r8.2,0)) fun b23 =>
 some b23.1
def a1J (n_0:Api_TypeNode):Option Api_Type :=
 some (Api_Type.mk ([n_0]:List Api_TypeNode) 0)
def a0Q:Option Api_Type :=
 Option.bind (a1J (Api_TypeNode.mk 1 0 0 (⟨#[]⟩:ByteArray) ([]:List Int) ([]:List Api_Field) (0,0))) fun r1 =>
 some r1
def a5D (d:Api_TypeNode):Option Bool :=
 Option.bind (bif d.Kind==3
 then (some (true,false,false,false))
 else (Option.bind (bif d.Kind==4
 then (some (d.Kind==4))
 else (bif d.Kind==6
 then (some (d.Kind==6))
 else (some (d.Kind==19)))) fun b1 =>
 bif b1
 then (some (false,true,false,false))
 else (Option.bind (bif d.Kind==10
 then (some (d.Kind==10))
 else (bif d.Kind==12
 then (some (d.Kind==12))
 else (bif d.Kind==14
 then (some (d.Kind==14))
 else (bif d.Kind==16
 then (some (d.Kind==16))
 else (bif d.Kind==17
 then (some (d.Kind==17))
 else (some (d.Kind==18))))))) fun b2 =>
 bif b2
 then (some (false,false,true,false))
 else (bif d.Kind==13
 then (some (false,false,false,true))
 else (some (false,false,false,false)))))) fun b3 =>
 Option.bind (bif b3.1
 then (some true)
 else (Option.bind (bif d.Lo==0
 then (some (d.Hi==0))
 else (some false)) fun q4 =>
 some q4)) fun q5 =>
 Option.bind (bif q5
 then (Option.bind (bif b3.2.1
 then (some true)
 else (some (Q3 d.Text (⟨#[]⟩:ByteArray)))) fun q6 =>
 some q6)
 else (some false)) fun q7 =>
 Option.bind (bif q7
 then (Option.bind (bif b3.2.2.1
 then (some true)
 else (some ((d.Kids.length:Int)==0))) fun q8 =>
 some q8)
 else (some false)) fun q9 =>
 Option.bind (bif q9
 then (Option.bind (bif b3.2.2.2
 then (some true)
 else (Option.bind (bif (d.Fields.length:Int)==0
 then (some (a60 d.Rest (0,0)))
 else (some false)) fun q10 =>
 some q10)) fun q11 =>
 some q11)
 else (some false)) fun q12 =>
 some q12
def a4W (s:ByteArray)(other:Int->Option Bool)(x5:Int):Option (Fl Int (Sum Unit Bool)) :=
 bif decide (x5<(s.size:Int))
 then (Option.bind (a4H s x5) fun e6 =>
 Option.bind (other (e6.toNat:Int)) fun r7 =>
 bif !r7
 then (some (.done (.inr false)))
 else (some (.next (wr .i64 (x5+1)))))
 else (some (.done (.inl ())))
def a3g (s:ByteArray)(first:Int->Option Bool)(other:Int->Option Bool):Option Bool :=
 Option.bind (bif decide ((s.size:Int)<1)
 then (some true)
 else (some (decide (16<(s.size:Int))))) fun q1 =>
 Option.bind (bif q1
 then (some true)
 else (Option.bind (a4H s 0) fun e2 =>
 Option.bind (first (e2.toNat:Int)) fun r3 =>
 some (!r3))) fun q4 =>
 bif q4
 then (some false)
 else (Option.bind (y2 (a4W s other) ((s.size:Int).toNat+1) 1) fun b8 =>
 Y5 (fun _ =>
 some true) (fun y10 =>
 some y10) b8)
def a1A (c:Int):Option Bool :=
 Option.bind (bif decide (97<=c)
 then (some (decide (c<=122)))
 else (some false)) fun q1 =>
 some q1
def a2v (c:Int):Option Bool :=
 Option.bind (bif decide (48<=c)
 then (some (decide (c<=57)))
 else (some false)) fun q1 =>
 some q1
def a5v (c:Int):Option Bool :=
 Option.bind (a1A c) fun r1 =>
 Option.bind (bif r1
 then (some true)
 else (Option.bind (a2v c) fun r2 =>
 some r2)) fun q3 =>
 Option.bind (bif q3
 then (some true)
 else (some (c==95))) fun q4 =>
 some q4
def a2T (s:ByteArray):Option Bool :=
 Option.bind (a3g s (fun z1 =>
 Option.bind (a1A z1) fun r2 =>
 some r2) (fun z3 =>
 Option.bind (a5v z3) fun r4 =>
 some r4)) fun r5 =>
 some r5
def a2w (c:Int):Option Bool :=
 Option.bind (bif decide (65<=c)
 then (some (decide (c<=90)))
 else (some false)) fun q1 =>
 some q1
def a2S (c:Int):Option Bool :=
 Option.bind (a1A c) fun r1 =>
 Option.bind (bif r1
 then (some true)
 else (Option.bind (a2w c) fun r2 =>
 some r2)) fun q3 =>
 Option.bind (bif q3
 then (some true)
 else (Option.bind (a2v c) fun r4 =>
 some r4)) fun q5 =>
 Option.bind (bif q5
 then (some true)
 else (some (c==95))) fun q6 =>
 some q6
def a0y (s:ByteArray):Option Bool :=
 Option.bind (a3g s (fun z1 =>
 Option.bind (a2w z1) fun r2 =>
 some r2) (fun z3 =>
 Option.bind (a2S z3) fun r4 =>
 some r4)) fun r5 =>
 some r5
def a1a (k:Key):Option Bool :=
 bif k.Kind==0
 then (Option.bind (a2T k.Text) fun r1 =>
 some r1)
 else (bif k.Kind==1
 then (some (decide ((k.Text.size:Int)<=64)))
 else (some false))
def a6e (x:Int):Option Bool :=
 some (x != x)
def a4D (x:Int)(y:Int):Option Int :=
 Option.bind (a6e x) fun r1 =>
 Option.bind (a6e y) fun r2 =>
 bif r1
 then (bif r2
 then (some 0)
 else (some (-1)))
 else (bif r2
 then (some 1)
 else (bif decide (x<y)
 then (some (-1))
 else (bif decide (y<x)
 then (some 1)
 else (some 0))))
def a1C (a:ByteArray)(b:ByteArray):Option Int :=
 Option.bind (c2I a b) fun r1 =>
 some r1
def a4N (a:ByteArray)(b:ByteArray):Option Int :=
 Option.bind (a1C a b) fun r1 =>
 some r1
def a3x (a:Key)(b:Key):Option Int :=
 Option.bind (a4D a.Kind b.Kind) fun r1 =>
 bif r1 != 0
 then (some r1)
 else (Option.bind (a4N a.Text b.Text) fun r2 =>
 some r2)
def a8a (l:List Api_Field)(x1:Int):Option (Fl Int (Sum Unit Bool)) :=
 bif decide (x1<(l.length:Int))
 then (Option.bind (idx l x1) fun e2 =>
 Option.bind (a1a e2.Key_) fun r3 =>
 Option.bind (bif !r3
 then (some true)
 else (Option.bind (bif decide (0<x1)
 then (Option.bind (idx l (wr .i64 (x1-1))) fun e4 =>
 Option.bind (a3x e4.Key_ e2.Key_) fun r5 =>
 some (decide (0<=r5)))
 else (some false)) fun q6 =>
 some q6)) fun q7 =>
 bif q7
 then (some (.done (.inr false)))
 else (some (.next (wr .i64 (x1+1)))))
 else (some (.done (.inl ())))
def a4L (l:List Api_Field):Option Bool :=
 Option.bind (y2 (a8a l) ((l.length:Int).toNat+1) 0) fun b8 =>
 Y5 (fun _ =>
 some true) (fun y10 =>
 some y10) b8
def a5X (d:Api_TypeNode):Option Bool :=
 Option.bind (bif d.Kind==1
 then (some (d.Kind==1))
 else (bif d.Kind==2
 then (some (d.Kind==2))
 else (bif d.Kind==5
 then (some (d.Kind==5))
 else (bif d.Kind==7
 then (some (d.Kind==7))
 else (bif d.Kind==8
 then (some (d.Kind==8))
 else (bif d.Kind==9
 then (some (d.Kind==9))
 else (bif d.Kind==11
 then (some (d.Kind==11))
 else (some (d.Kind==15))))))))) fun b1 =>
 bif b1
 then (some true)
 else (bif d.Kind==3
 then (some (decide (d.Lo<=d.Hi)))
 else (bif d.Kind==4
 then (some (decide ((d.Text.size:Int)<=64)))
 else (bif d.Kind==6
 then (Option.bind (a2T d.Text) fun r2 =>
 some r2)
 else (bif d.Kind==19
 then (Option.bind (a0y d.Text) fun r3 =>
 some r3)
 else (bif d.Kind==10
 then (some (decide ((d.Kids.length:Int)<=4)))
 else (bif d.Kind==12
 then (some ((d.Kids.length:Int)==2))
 else (bif d.Kind==13
 then (Option.bind (a4L d.Fields) fun r4 =>
 some r4)
 else (bif d.Kind==14
 then (Option.bind (bif decide (1<=(d.Kids.length:Int))
 then (some (decide ((d.Kids.length:Int)<=5)))
 else (some false)) fun q5 =>
 some q5)
 else (Option.bind (bif d.Kind==16
 then (some (d.Kind==16))
 else (some (d.Kind==17))) fun b6 =>
 bif b6
 then (some (decide (1<=(d.Kids.length:Int))))
 else (bif d.Kind==18
 then (some ((d.Kids.length:Int)==1))
 else (some false)))))))))))
def b4n (n_0:Api_TypeNode)(x2:(List Int)×Int):Option (Fl ((List Int)×Int) (List Int)) :=
 bif decide (x2.2<(n_0.Fields.length:Int))
 then (Option.bind (idx n_0.Fields x2.2) fun e3 =>
 Option.bind (v7 (x2.1.length+([e3.Node]:List Int).length) 8) fun _ =>
 some (.next (x2.1++([e3.Node]:List Int),wr .i64 (x2.2+1))))
 else (some (.done x2.1))
def a94 (n_0:Api_TypeNode):Option (List Int) :=
 Option.bind (Q4 8 n_0.Kids) fun r1 =>
 Option.bind (y2 (b4n n_0) ((n_0.Fields.length:Int).toNat+1) (r1,0)) fun b5 =>
 bif n_0.Kind==13
 then (Option.bind (v7 (b5.length+([n_0.Rest.1,n_0.Rest.2]:List Int).length) 8) fun _ =>
 some (b5++([n_0.Rest.1,n_0.Rest.2]:List Int)))
 else (some b5)
def a5L (kind:Int):Option Bool :=
 Option.bind (bif kind==16
 then (some true)
 else (some (kind==17))) fun q1 =>
 Option.bind (bif q1
 then (some true)
 else (some (kind==18))) fun q2 =>
 some q2
def a6C (a2_2:Api_Type)(e10:Api_TypeNode)(rec_typeexpr_contractive_1:Int->(List Int)->Api_Type->Unit->Option (Bool×(List Int)))(x11:Int×(List Int)):Option (Fl (Int×(List Int)) (Sum (List Int) (Bool×(List Int)))) :=
 bif decide (x11.1<(e10.Kids.length:Int))
 then (Option.bind (idx e10.Kids x11.1) fun e12 =>
 Option.bind (rec_typeexpr_contractive_1 e12 x11.2 a2_2 ()) fun r13 =>
 bif !r13.1
 then (some (.done (.inr (false,r13.2))))
 else (some (.next (wr .i64 (x11.1+1),r13.2))))
 else (some (.done (.inl x11.2)))
def a7d (_:Nat)(rec_typeexpr_contractive_1:Int->(List Int)->Api_Type->Unit->Option (Bool×(List Int)))(i:Int)(a1_1:List Int)(a2_2:Api_Type)(_:Unit):Option (Bool×(List Int)) :=
 Option.bind (idx a1_1 i) fun _ =>
 Option.bind (a1_1[i.toNat]?) fun e2 =>
 Option.bind (bif e2 != 0
 then (some true)
 else (Option.bind (idx a2_2.Nodes i) fun e3 =>
 Option.bind (a5L e3.Kind) fun r4 =>
 some (!r4))) fun q5 =>
 bif q5
 then (Option.bind (idx a1_1 i) fun _ =>
 Option.bind (a1_1[i.toNat]?) fun e7 =>
 some (e7 != 1,a1_1))
 else (Option.bind (idx a1_1 i) fun _ =>
 Option.bind (a1_1[i.toNat]?) fun _ =>
 Option.bind (idx a2_2.Nodes i) fun e10 =>
 Option.bind (y2 (a6C a2_2 e10 rec_typeexpr_contractive_1) ((e10.Kids.length:Int).toNat+1) (0,a1_1.set i.toNat 1)) fun (b14:Sum (List Int) (Bool×(List Int))) =>
 Y5 (fun x15 =>
 Option.bind (idx x15 i) fun _ =>
 Option.bind (x15[i.toNat]?) fun _ =>
 some (true,x15.set i.toNat 2)) (fun y16 =>
 some (y16.1,y16.2)) b14)
def a1M:Nat->Int->(List Int)->Api_Type->Unit->Option (Bool×(List Int))
 | 0=>fun _ _ _ _=>none
 | n+1=>a7d n (a1M n)
def a71 (t:Api_Type)(n:Nat)(x2:Int×(List Int)):Option (Fl (Int×(List Int)) (Sum (List Int) (Bool×(List Int)))) :=
 bif decide (x2.1<(t.Nodes.length:Int))
 then (Option.bind (a1M n x2.1 x2.2 t ()) fun r3 =>
 bif !r3.1
 then (some (.done (.inr (false,r3.2))))
 else (some (.next (wr .i64 (x2.1+1),r3.2))))
 else (some (.done (.inl x2.2)))
def a4w (n:Nat)(t:Api_Type):Option Bool :=
 Option.bind (a3P (t.Nodes.length:Int) (t.Nodes.length:Int) 8) fun m1 =>
 Option.bind (y2 (a71 t n) ((t.Nodes.length:Int).toNat+1) (0,List.replicate m1 (0:Int))) fun (b4:Sum (List Int) (Bool×(List Int))) =>
 Y5 (fun _ =>
 some true) (fun y6 =>
 some y6.1) b4
def a88 (t:Api_Type)(r7:List Int)(x8:Int):Option (Fl Int (Sum Unit Int)) :=
 bif decide (x8<(r7.length:Int))
 then (Option.bind (idx r7 x8) fun e9 =>
 Option.bind (bif decide (e9<0)
 then (some true)
 else (some (decide ((t.Nodes.length:Int)<=e9)))) fun q10 =>
 bif q10
 then (some (.done (.inr 1)))
 else (some (.next (wr .i64 (x8+1)))))
 else (some (.done (.inl ())))
def a8R (t:Api_Type)(x2:Int):Option (Fl Int (Sum Unit Int)) :=
 bif decide (x2<(t.Nodes.length:Int))
 then (Option.bind (idx t.Nodes x2) fun e3 =>
 Option.bind (a5D e3) fun r4 =>
 Option.bind (bif !r4
 then (some true)
 else (Option.bind (a5X e3) fun r5 =>
 some (!r5))) fun q6 =>
 bif q6
 then (some (.done (.inr 1)))
 else (Option.bind (a94 e3) fun r7 =>
 Option.bind (y2 (a88 t r7) ((r7.length:Int).toNat+1) 0) fun b11 =>
 Y5 (fun _ =>
 some (.next (wr .i64 (x2+1)))) (fun y13 =>
 some (.done (.inr y13))) b11))
 else (some (.done (.inl ())))
def V3 (n:Nat)(t:Api_Type):Option Int :=
 Option.bind (bif decide (t.Root<0)
 then (some true)
 else (some (decide ((t.Nodes.length:Int)<=t.Root)))) fun q1 =>
 bif q1
 then (some 1)
 else (Option.bind (y2 (a8R t) ((t.Nodes.length:Int).toNat+1) 0) fun b14 =>
 Y5 (fun _ =>
 Option.bind (a4w n t) fun r17 =>
 bif !r17
 then (some 3)
 else (some 0)) (fun y16 =>
 some y16) b14)
def a9z (n:Nat)(t:Api_Type):Option Api_Type :=
 Option.bind (V3 n t) fun r1 =>
 bif r1 != 0
 then (Option.bind (a0Q) fun r2 =>
 some r2)
 else (some t)
def b1L (t:Int)(r1:List Int)(x2:Int×(Int×Int×Int×ByteArray×(List Int)×(List Api_Field)×Int×Int)):Option (Fl (Int×(Int×Int×Int×ByteArray×(List Int)×(List Api_Field)×Int×Int)) (Int×Int×Int×ByteArray×(List Int)×(List Api_Field)×Int×Int)) :=
 bif decide (x2.1<(r1.length:Int))
 then (Option.bind (idx x2.2.2.2.2.2.1 x2.1) fun _ =>
 Option.bind (x2.2.2.2.2.2.1[x2.1.toNat]?) fun e4 =>
 Option.bind (idx x2.2.2.2.2.2.1 x2.1) fun _ =>
 Option.bind (x2.2.2.2.2.2.1[x2.1.toNat]?) fun _ =>
 some (.next (wr .i64 (x2.1+1),(x2.2.1,x2.2.2.1,x2.2.2.2.1,x2.2.2.2.2.1,x2.2.2.2.2.2.1.set x2.1.toNat (wr .i64 (e4+t)),x2.2.2.2.2.2.2.1,x2.2.2.2.2.2.2.2.1,x2.2.2.2.2.2.2.2.2))))
 else (some (.done (x2.2.1,x2.2.2.1,x2.2.2.2.1,x2.2.2.2.2.1,x2.2.2.2.2.2.1,x2.2.2.2.2.2.2.1,x2.2.2.2.2.2.2.2.1,x2.2.2.2.2.2.2.2.2)))
def b2h (t:Int)(r8:List Api_Field)(x9:Int×(Int×Int×Int×ByteArray×(List Int)×(List Api_Field)×Int×Int)):Option (Fl (Int×(Int×Int×Int×ByteArray×(List Int)×(List Api_Field)×Int×Int)) (Int×Int×Int×ByteArray×(List Int)×(List Api_Field)×Int×Int)) :=
 bif decide (x9.1<(r8.length:Int))
 then (Option.bind (idx x9.2.2.2.2.2.2.1 x9.1) fun _ =>
 Option.bind (x9.2.2.2.2.2.2.1[x9.1.toNat]?) fun e11 =>
 Option.bind (idx x9.2.2.2.2.2.2.1 x9.1) fun _ =>
 Option.bind (x9.2.2.2.2.2.2.1[x9.1.toNat]?) fun e13 =>
 some (.next (wr .i64 (x9.1+1),(x9.2.1,x9.2.2.1,x9.2.2.2.1,x9.2.2.2.2.1,x9.2.2.2.2.2.1,x9.2.2.2.2.2.2.1.set x9.1.toNat (Api_Field.mk e13.Key_ (wr .i64 (e11.Node+t)) e13.Optional),x9.2.2.2.2.2.2.2.1,x9.2.2.2.2.2.2.2.2))))
 else (some (.done (x9.2.1,x9.2.2.1,x9.2.2.2.1,x9.2.2.2.2.1,x9.2.2.2.2.2.1,x9.2.2.2.2.2.2.1,x9.2.2.2.2.2.2.2.1,x9.2.2.2.2.2.2.2.2)))
def a7v (d:Api_TypeNode)(t:Int):Option Api_TypeNode :=
 Option.bind (Q4 8 d.Kids) fun r1 =>
 Option.bind (y2 (b1L t r1) ((r1.length:Int).toNat+1) (0,(d.Kind,d.Lo,d.Hi,d.Text,r1,d.Fields,d.Rest.1,d.Rest.2))) fun b7 =>
 Option.bind (Q4 40 b7.2.2.2.2.2.1) fun r8 =>
 Option.bind (y2 (b2h t r8) ((r8.length:Int).toNat+1) (0,(b7.1,b7.2.1,b7.2.2.1,b7.2.2.2.1,b7.2.2.2.2.1,r8,b7.2.2.2.2.2.2.1,b7.2.2.2.2.2.2.2))) fun b14 =>
 bif b14.1==13
 then (some (Api_TypeNode.mk b14.1 b14.2.1 b14.2.2.1 b14.2.2.2.1 b14.2.2.2.2.1 b14.2.2.2.2.2.1 (wr .i64 (b14.2.2.2.2.2.2.1+t),wr .i64 (b14.2.2.2.2.2.2.2+t))))
 else (some (Api_TypeNode.mk b14.1 b14.2.1 b14.2.2.1 b14.2.2.2.1 b14.2.2.2.2.1 b14.2.2.2.2.2.1 (b14.2.2.2.2.2.2.1,b14.2.2.2.2.2.2.2)))
def b4M (nodes:List Api_TypeNode)(r1:Api_Type)(x2:(List Api_TypeNode)×Int):Option (Fl ((List Api_TypeNode)×Int) (List Api_TypeNode)) :=
 bif decide (x2.2<(r1.Nodes.length:Int))
 then (Option.bind (idx r1.Nodes x2.2) fun e3 =>
 Option.bind (a7v e3 (nodes.length:Int)) fun r4 =>
 Option.bind (v7 (x2.1.length+([r4]:List Api_TypeNode).length) 104) fun _ =>
 some (.next (x2.1++([r4]:List Api_TypeNode),wr .i64 (x2.2+1))))
 else (some (.done x2.1))
def a1b (n:Nat)(nodes:List Api_TypeNode)(t:Api_Type):Option ((List Api_TypeNode)×Int) :=
 Option.bind (a9z n t) fun r1 =>
 Option.bind (y2 (b4M nodes r1) ((r1.Nodes.length:Int).toNat+1) (nodes,0)) fun b6 =>
 some (b6,wr .i64 (r1.Root+(nodes.length:Int)))
def b54 (l:List Api_Type)(n:Nat)(x1:(List Api_TypeNode)×(List Int)×Int):Option (Fl ((List Api_TypeNode)×(List Int)×Int) ((List Api_TypeNode)×(List Int))) :=
 bif decide (x1.2.2<(l.length:Int))
 then (Option.bind (idx l x1.2.2) fun e2 =>
 Option.bind (a1b n x1.1 e2) fun r3 =>
 Option.bind (v7 (x1.2.1.length+([r3.2]:List Int).length) 8) fun _ =>
 some (.next (r3.1,x1.2.1++([r3.2]:List Int),wr .i64 (x1.2.2+1))))
 else (some (.done (x1.1,x1.2.1)))
def b1z (n:Nat)(kind:Int)(l:List Api_Type):Option Api_Type :=
 Option.bind (y2 (b54 l n) ((l.length:Int).toNat+1) (([Api_TypeNode.mk kind 0 0 (⟨#[]⟩:ByteArray) ([]:List Int) ([]:List Api_Field) (0,0)]:List Api_TypeNode),[],0)) fun b5 =>
 Option.bind (idx b5.1 0) fun _ =>
 Option.bind (b5.1[(0:Int).toNat]?) fun e7 =>
 some (Api_Type.mk (b5.1.set ((0:Int).toNat) (Api_TypeNode.mk e7.Kind e7.Lo e7.Hi e7.Text b5.2 e7.Fields e7.Rest)) 0)
def a9W (n:Nat)(l:List Api_Type):Option Api_Type :=
 bif (l.length:Int)==0
 then (Option.bind (a0Q) fun r1 =>
 some r1)
 else (Option.bind (b1z n 16 l) fun r2 =>
 some r2)
noncomputable def b5f (r1:List Api_Range)(x2:(List Api_Type)×Int):Option (Fl ((List Api_Type)×Int) (List Api_Type)) :=
 bif decide (x2.2<(r1.length:Int))
 then (Option.bind (idx r1 x2.2) fun e3 =>
 Option.bind (a1J (Api_TypeNode.mk 3 e3.Lo e3.Hi (⟨#[]⟩:ByteArray) ([]:List Int) ([]:List Api_Field) (0,0))) fun r4 =>
 Option.bind (v7 (x2.1.length+([r4]:List Api_Type).length) 32) fun _ =>
 some (.next (x2.1++([r4]:List Api_Type),wr .i64 (x2.2+1))))
 else (some (.done x2.1))
noncomputable def b1v (n:Nat)(s:List Api_Range):Option Api_Type :=
 Option.bind (a0a s) fun r1 =>
 Option.bind (y2 (b5f r1) ((r1.length:Int).toNat+1) ([],0)) fun b6 =>
 Option.bind (a9W n b6) fun r7 =>
 some r7
def a6p (name:ByteArray):Option Api_Type :=
 Option.bind (a0y name) fun r1 =>
 bif !r1
 then (Option.bind (a0Q) fun r2 =>
 some r2)
 else (Option.bind (a1J (Api_TypeNode.mk 19 0 0 name ([]:List Int) ([]:List Api_Field) (0,0))) fun r3 =>
 some r3)
def b2Q:Option Api_Type :=
 Option.bind (a1J (Api_TypeNode.mk 2 0 0 (⟨#[]⟩:ByteArray) ([]:List Int) ([]:List Api_Field) (0,0))) fun r1 =>
 some r1
def W1 (s:List ByteArray)(v:ByteArray)(x1:Int):Option (Fl Int (Sum Unit Int)) :=
 bif decide (x1<(s.length:Int))
 then (Option.bind (idx s x1) fun e2 =>
 bif Q3 v e2
 then (some (.done (.inr x1)))
 else (some (.next (wr .i64 (x1+1)))))
 else (some (.done (.inl ())))
def a0O (s:List ByteArray)(v:ByteArray):Option Int :=
 Option.bind (y2 (W1 s v) ((s.length:Int).toNat+1) 0) fun b3 =>
 Y5 (fun _ =>
 some (-1)) (fun y5 =>
 some y5) b3
def J6 (s:List ByteArray)(v:ByteArray):Option Bool :=
 Option.bind (a0O s v) fun r1 =>
 some (decide (0<=r1))
def a0u (names:List ByteArray)(x1:Int):Option (Fl Int (Sum Unit Int)) :=
 bif decide (x1<(names.length:Int))
 then (Option.bind (idx names x1) fun e2 =>
 Option.bind (a0y e2) fun r3 =>
 bif !r3
 then (some (.done (.inr 1)))
 else (some (.next (wr .i64 (x1+1)))))
 else (some (.done (.inl ())))
def a0t (names:List ByteArray)(x7:Int):Option (Fl Int (Sum Unit Int)) :=
 bif decide (x7<(names.length:Int))
 then (Option.bind (idx names x7) fun e8 =>
 Option.bind (cut names 0 x7) fun y9 =>
 Option.bind (J6 y9 e8) fun r10 =>
 bif r10
 then (some (.done (.inr 6)))
 else (some (.next (wr .i64 (x7+1)))))
 else (some (.done (.inl ())))
def a1t (names:List ByteArray):Option Int :=
 Option.bind (y2 (a0u names) ((names.length:Int).toNat+1) 0) fun b4 =>
 Y5 (fun _ =>
 Option.bind (y2 (a0t names) ((names.length:Int).toNat+1) 0) fun b11 =>
 Y5 (fun _ =>
 some 0) (fun y13 =>
 some y13) b11) (fun y6 =>
 some y6) b4
def a1h (s:List Api_Constraint)(f:Api_Constraint->Option Bool)(x1:Int):Option (Fl Int (Sum Unit Int)) :=
 bif decide (x1<(s.length:Int))
 then (Option.bind (idx s x1) fun e2 =>
 Option.bind (f e2) fun r3 =>
 bif r3
 then (some (.done (.inr x1)))
 else (some (.next (wr .i64 (x1+1)))))
 else (some (.done (.inl ())))
def X4 (s:List Api_Constraint)(f:Api_Constraint->Option Bool):Option Int :=
 Option.bind (y2 (a1h s f) ((s.length:Int).toNat+1) 0) fun b4 =>
 Y5 (fun _ =>
 some (-1)) (fun y6 =>
 some y6) b4
def V9 (s:List Api_Constraint)(f:Api_Constraint->Option Bool):Option Bool :=
 Option.bind (X4 s f) fun r1 =>
 some (decide (0<=r1))
def a1T (s:List Api_Binding)(f:Api_Binding->Option Bool)(x1:Int):Option (Fl Int (Sum Unit Int)) :=
 bif decide (x1<(s.length:Int))
 then (Option.bind (idx s x1) fun e2 =>
 Option.bind (f e2) fun r3 =>
 bif r3
 then (some (.done (.inr x1)))
 else (some (.next (wr .i64 (x1+1)))))
 else (some (.done (.inl ())))
def a0f (s:List Api_Binding)(f:Api_Binding->Option Bool):Option Int :=
 Option.bind (y2 (a1T s f) ((s.length:Int).toNat+1) 0) fun b4 =>
 Y5 (fun _ =>
 some (-1)) (fun y6 =>
 some y6) b4
def a4e (b:Api_Binding)(a1_1:ByteArray):Option Bool :=
 some (Q3 b.Name a1_1)
def a8S (t:List Api_Binding)(n:Nat)(r1:(List Api_TypeNode)×Int)(x2:(List Api_TypeNode)×(List (ByteArray×Int))×Int):Option (Fl ((List Api_TypeNode)×(List (ByteArray×Int))×Int) ((List Api_TypeNode)×(List (ByteArray×Int)))) :=
 bif decide (x2.2.2<(r1.1.length:Int))
 then (Option.bind (idx x2.1 x2.2.2) fun _ =>
 Option.bind (x2.1[x2.2.2.toNat]?) fun e4 =>
 bif e4.Kind != 19
 then (some (.next (x2.1,x2.2.1,wr .i64 (x2.2.2+1))))
 else (Option.bind (idx x2.1 x2.2.2) fun _ =>
 Option.bind (x2.1[x2.2.2.toNat]?) fun e6 =>
 Option.bind (a0f t (fun z7 =>
 Option.bind (a4e z7 e6.Text) fun r8 =>
 some r8)) fun r9 =>
 bif decide (r9<0)
 then (some (.next (x2.1,x2.2.1,wr .i64 (x2.2.2+1))))
 else (Option.bind (bif !((a0H x2.2.1 e6.Text).isSome)
 then (Option.bind (idx t r9) fun e10 =>
 Option.bind (a1b n x2.1 e10.Type_) fun r11 =>
 some (r11.1,a17 x2.2.1 e6.Text r11.2))
 else (some (x2.1,x2.2.1))) fun b12 =>
 Option.bind (idx b12.1 x2.2.2) fun _ =>
 Option.bind (b12.1[x2.2.2.toNat]?) fun _ =>
 some (.next (b12.1.set x2.2.2.toNat (Api_TypeNode.mk 16 0 0 (⟨#[]⟩:ByteArray) ([(a0H b12.2 e6.Text).getD (0:Int)]:List Int) ([]:List Api_Field) (0,0)),b12.2,wr .i64 (x2.2.2+1))))))
 else (some (.done (x2.1,x2.2.1)))
def a2J (n:Nat)(d:Api_Type)(t:List Api_Binding):Option Api_Type :=
 Option.bind (a1b n ([]) d) fun r1 =>
 Option.bind (y2 (a8S t n r1) ((r1.1.length:Int).toNat+1) (r1.1,([]:List (ByteArray×Int)),0)) fun b15 =>
 some (Api_Type.mk b15.1 r1.2)
def b1w (n:Nat)(s:Api_Type)(t:Api_Type):Option (Api_Type×Int) :=
 Option.bind (a1b n ([]) s) fun r1 =>
 Option.bind (a1b n r1.1 t) fun r2 =>
 some (Api_Type.mk r2.1 r1.2,r2.2)
def a7G (n:Nat)(s:Api_Type)(t:Api_Type):Option (Api_Type×Api_Goal) :=
 Option.bind (b1w n s t) fun r1 =>
 some (r1.1,Api_Goal.mk ([r1.1.Root]:List Int) ([r1.2]:List Int) false)
def b7T (t:Api_Type)(g:Api_Goal)(r1:List Int)(x3:Int):Option (Fl Int (Sum Unit Bool)) :=
 bif decide (x3<((r1++g.Neg).length:Int))
 then (Option.bind (idx (r1++g.Neg) x3) fun e4 =>
 Option.bind (bif decide (e4<0)
 then (some true)
 else (some (decide ((t.Nodes.length:Int)<=e4)))) fun q5 =>
 bif q5
 then (some (.done (.inr false)))
 else (some (.next (wr .i64 (x3+1)))))
 else (some (.done (.inl ())))
def a8F (t:Api_Type)(g:Api_Goal):Option Bool :=
 Option.bind (Q4 8 g.Pos) fun r1 =>
 Option.bind (v7 (r1.length+g.Neg.length) 8) fun _ =>
 Option.bind (y2 (b7T t g r1) (((r1++g.Neg).length:Int).toNat+1) 0) fun b6 =>
 Y5 (fun _ =>
 some true) (fun y8 =>
 some y8) b6
def a6H (x1:(List Int)×Int)(x16:(Int×Int)×List Int):Option (Fl ((Int×Int)×List Int) (Int×List Int)) :=
 bif decide (x16.1.2<((x16.2.drop x1.2.toNat).length:Int))
 then (Option.bind (idx (x16.2.drop x1.2.toNat) x16.1.2) fun _ =>
 Option.bind (x16.2[(x1.2.toNat+x16.1.2.toNat)]?) fun e18 =>
 Option.bind (idx (x16.2.drop x1.2.toNat) (wr .i64 (x16.1.2-1))) fun _ =>
 Option.bind (x16.2[(x1.2.toNat+(wr .i64 (x16.1.2-1)).toNat)]?) fun e20 =>
 bif e18 != e20
 then (Option.bind (idx (x16.2.drop x1.2.toNat) x16.1.2) fun _ =>
 Option.bind (x16.2[(x1.2.toNat+x16.1.2.toNat)]?) fun e22 =>
 Option.bind (idx x16.2 x16.1.1) fun _ =>
 Option.bind (x16.2[x16.1.1.toNat]?) fun _ =>
 some (.next ((wr .i64 (x16.1.1+1),wr .i64 (x16.1.2+1)),x16.2.set x16.1.1.toNat e22)))
 else (some (.next ((x16.1.1,wr .i64 (x16.1.2+1)),x16.2))))
 else (some (.done (x16.1.1,x16.2)))
def a6J (x1:(List Int)×Int):Option (Fl ((List Int)×Int) (Sum (List Int) (List Int))) :=
 bif decide (x1.2<(x1.1.length:Int))
 then (Option.bind (idx x1.1 x1.2) fun _ =>
 Option.bind (x1.1[x1.2.toNat]?) fun e3 =>
 Option.bind (idx x1.1 (wr .i64 (x1.2-1))) fun _ =>
 Option.bind (x1.1[(wr .i64 (x1.2-1)).toNat]?) fun e5 =>
 bif e3==e5
 then (Option.bind (idx x1.1 x1.2) fun _ =>
 Option.bind (y2 (a6H x1) (((x1.1.drop x1.2.toNat).length:Int).toNat+1) ((x1.2,1),x1.1)) fun b25 =>
 Option.bind (idx b25.2 b25.1) fun _ =>
 bif Nat.blt b25.1.toNat b25.2.length
 then (Option.bind (cut (b25.2.take b25.1.toNat++List.replicate (b25.2.length-b25.1.toNat) (0:Int)) 0 b25.1) fun y27 =>
 some (.done (.inr y27)))
 else (none))
 else (some (.next (x1.1,wr .i64 (x1.2+1)))))
 else (some (.done (.inl x1.1)))
def a3I (s:List Int):Option (List Int) :=
 bif decide ((s.length:Int)<2)
 then (some s)
 else (Option.bind (y2 a6J ((s.length:Int).toNat+1) (s,1)) fun b28 =>
 Y5 (fun x29 =>
 some x29) (fun y30 =>
 some y30) b28)
def a43 (s:List Int):Option (List Int) :=
 bif (s.length:Int)==(s.length:Int)&&(s.length:Int)==(s.length:Int)
 then (some s)
 else (none)
def a3J (l:List Int):Option (List Int) :=
 Option.bind (Q4 8 l) fun r1 =>
 Option.bind (c1M r1) fun r2 =>
 Option.bind (a3I r2.2) fun r3 =>
 Option.bind (a43 r3) fun r4 =>
 some r4
def a08 (g:Api_Goal):Option Api_Goal :=
 Option.bind (a3J g.Pos) fun r1 =>
 Option.bind (a3J g.Neg) fun r2 =>
 some (Api_Goal.mk r1 r2 g.Lists)
def a6S (g:Api_Goal):Option ByteArray:=Option.bind (a08 g) fun g=>Option.bind (a7F 43 g.Pos (bif g.Lists then [108] else [])) fun b=>Option.bind (a7F 45 g.Neg b) fun b=>some ⟨b.toArray⟩
def a4U (p:Core_pair):Option ((List Int)×(List Int)×(List Int)×(List Int)) :=
 Option.bind (Q4 8 p.pos) fun r1 =>
 Option.bind (Q4 8 p.neg) fun r2 =>
 Option.bind (Q4 8 p.finalPos) fun r3 =>
 Option.bind (Q4 8 p.finalNeg) fun r4 =>
 some (r1,r2,r3,r4)
def b0T (p:Core_pair)(kids:List Int)(positive:Bool)(x1:(List Core_pair)×Int):Option (Fl ((List Core_pair)×Int) (List Core_pair)) :=
 bif decide (x1.2<(kids.length:Int))
 then (Option.bind (idx kids x1.2) fun e2 =>
 Option.bind (a4U p) fun r3 =>
 Option.bind (bif positive
 then (Option.bind (v7 (r3.1.length+([e2]:List Int).length) 8) fun _ =>
 some (r3.1++([e2]:List Int),r3.2.1,r3.2.2.1,r3.2.2.2))
 else (Option.bind (v7 (r3.2.1.length+([e2]:List Int).length) 8) fun _ =>
 some (r3.1,r3.2.1++([e2]:List Int),r3.2.2.1,r3.2.2.2))) fun b6 =>
 Option.bind (v7 (x1.1.length+([Core_pair.mk b6.1 b6.2.1 b6.2.2.1 b6.2.2.2]:List Core_pair).length) 96) fun _ =>
 some (.next (x1.1++([Core_pair.mk b6.1 b6.2.1 b6.2.2.1 b6.2.2.2]:List Core_pair),wr .i64 (x1.2+1))))
 else (some (.done x1.1))
def a3w (p:Core_pair)(kids:List Int)(positive:Bool):Option (List Core_pair) :=
 Option.bind (y2 (b0T p kids positive) ((kids.length:Int).toNat+1) ([],0)) fun b8 =>
 some b8
def a6q (d:(List Int)×(List Int)×(List Int)×(List Int))(t:Api_Type):Option (List Core_pair) :=
 bif decide (0<=(wr .i64 ((d.1.length:Int)-1)))
 then (Option.bind (idx d.1 (wr .i64 ((d.1.length:Int)-1))) fun _ =>
 Option.bind (d.1[(wr .i64 ((d.1.length:Int)-1)).toNat]?) fun e2 =>
 Option.bind (idx t.Nodes e2) fun e3 =>
 Option.bind (cut d.1 0 (wr .i64 ((d.1.length:Int)-1))) fun y4 =>
 Option.bind (bif e3.Kind==2
 then (some (.inl (y4,d.2.1,d.2.2.1,d.2.2.2)))
 else (bif e3.Kind==1
 then (some (.inr ([],(y4,d.2.1,d.2.2.1,d.2.2.2))))
 else (bif e3.Kind==17
 then (Option.bind (v7 (y4.length+e3.Kids.length) 8) fun _ =>
 some (.inl (y4++e3.Kids,d.2.1,d.2.2.1,d.2.2.2)))
 else (bif e3.Kind==18
 then (Option.bind (idx e3.Kids 0) fun e6 =>
 Option.bind (v7 (d.2.1.length+([e6]:List Int).length) 8) fun _ =>
 some (.inl (y4,d.2.1++([e6]:List Int),d.2.2.1,d.2.2.2)))
 else (bif e3.Kind==16
 then (Option.bind (a3w (Core_pair.mk y4 d.2.1 d.2.2.1 d.2.2.2) e3.Kids true) fun r8 =>
 some (.inr (r8,(y4,d.2.1,d.2.2.1,d.2.2.2))))
 else (Option.bind (v7 (d.2.2.1.length+([e2]:List Int).length) 8) fun _ =>
 some (.inl (y4,d.2.1,d.2.2.1++([e2]:List Int),d.2.2.2)))))))) fun b10 =>
 Y5 (fun x11 =>
 some ([Core_pair.mk x11.1 x11.2.1 x11.2.2.1 x11.2.2.2]:List Core_pair)) (fun y12 =>
 some y12.1) b10)
 else (Option.bind (idx d.2.1 (wr .i64 ((d.2.1.length:Int)-1))) fun _ =>
 Option.bind (d.2.1[(wr .i64 ((d.2.1.length:Int)-1)).toNat]?) fun e14 =>
 Option.bind (idx t.Nodes e14) fun e15 =>
 Option.bind (cut d.2.1 0 (wr .i64 ((d.2.1.length:Int)-1))) fun y16 =>
 Option.bind (bif e15.Kind==1
 then (some (.inl (d.1,y16,d.2.2.1,d.2.2.2)))
 else (bif e15.Kind==2
 then (some (.inr ([],(d.1,y16,d.2.2.1,d.2.2.2))))
 else (bif e15.Kind==16
 then (Option.bind (v7 (y16.length+e15.Kids.length) 8) fun _ =>
 some (.inl (d.1,y16++e15.Kids,d.2.2.1,d.2.2.2)))
 else (bif e15.Kind==18
 then (Option.bind (idx e15.Kids 0) fun e18 =>
 Option.bind (v7 (d.1.length+([e18]:List Int).length) 8) fun _ =>
 some (.inl (d.1++([e18]:List Int),y16,d.2.2.1,d.2.2.2)))
 else (bif e15.Kind==17
 then (Option.bind (a3w (Core_pair.mk d.1 y16 d.2.2.1 d.2.2.2) e15.Kids false) fun r20 =>
 some (.inr (r20,(d.1,y16,d.2.2.1,d.2.2.2))))
 else (Option.bind (v7 (d.2.2.2.length+([e14]:List Int).length) 8) fun _ =>
 some (.inl (d.1,y16,d.2.2.1,d.2.2.2++([e14]:List Int))))))))) fun b22 =>
 Y5 (fun x23 =>
 some ([Core_pair.mk x23.1 x23.2.1 x23.2.2.1 x23.2.2.2]:List Core_pair)) (fun y24 =>
 some y24.1) b22)
def b2K (d:Api_Type)(t:Api_Goal)(x3:(List Core_pair)×(List (ByteArray×Bool))×(List Api_Goal)):Option (Fl ((List Core_pair)×(List (ByteArray×Bool))×(List Api_Goal)) ((List (ByteArray×Bool))×(List Api_Goal))) :=
 bif decide (0<(x3.1.length:Int))
 then (Option.bind (idx x3.1 (wr .i64 ((x3.1.length:Int)-1))) fun _ =>
 Option.bind (x3.1[(wr .i64 ((x3.1.length:Int)-1)).toNat]?) fun e5 =>
 Option.bind (a4U e5) fun r6 =>
 Option.bind (cut x3.1 0 (wr .i64 ((x3.1.length:Int)-1))) fun y7 =>
 bif decide (0<(wr .i64 ((r6.1.length:Int)+(r6.2.1.length:Int))))
 then (Option.bind (a6q (r6.1,r6.2.1,r6.2.2.1,r6.2.2.2) d) fun r8 =>
 Option.bind (v7 (y7.length+r8.length) 96) fun _ =>
 some (.next (y7++r8,x3.2.1,x3.2.2)))
 else (Option.bind (a08 (Api_Goal.mk r6.2.2.1 r6.2.2.2 t.Lists)) fun r10 =>
 Option.bind (a6S r10) fun r11 =>
 bif !((a0H x3.2.1 r11).getD false)
 then (Option.bind (v7 (x3.2.2.length+([r10]:List Api_Goal).length) 56) fun _ =>
 some (.next (y7,a17 x3.2.1 r11 true,x3.2.2++([r10]:List Api_Goal))))
 else (some (.next (y7,x3.2.1,x3.2.2)))))
 else (some (.done (x3.2.1,x3.2.2)))
def a8r (n:Nat)(d:Api_Type)(t:Api_Goal):Option (List Api_Goal) :=
 Option.bind (a3J t.Pos) fun r1 =>
 Option.bind (a3J t.Neg) fun r2 =>
 Option.bind (y2 (b2K d t) n (([Core_pair.mk r1 r2 ([]:List Int) ([]:List Int)]:List Core_pair),([]:List (ByteArray×Bool)),[])) fun b13 =>
 some b13.2
def a4m (x1:(List ByteArray)×Int)(x16:(Int×Int)×List ByteArray):Option (Fl ((Int×Int)×List ByteArray) (Int×List ByteArray)) :=
 bif decide (x16.1.2<((x16.2.drop x1.2.toNat).length:Int))
 then (Option.bind (idx (x16.2.drop x1.2.toNat) x16.1.2) fun _ =>
 Option.bind (x16.2[(x1.2.toNat+x16.1.2.toNat)]?) fun e18 =>
 Option.bind (idx (x16.2.drop x1.2.toNat) (wr .i64 (x16.1.2-1))) fun _ =>
 Option.bind (x16.2[(x1.2.toNat+(wr .i64 (x16.1.2-1)).toNat)]?) fun e20 =>
 bif !(Q3 e18 e20)
 then (Option.bind (idx (x16.2.drop x1.2.toNat) x16.1.2) fun _ =>
 Option.bind (x16.2[(x1.2.toNat+x16.1.2.toNat)]?) fun e22 =>
 Option.bind (idx x16.2 x16.1.1) fun _ =>
 Option.bind (x16.2[x16.1.1.toNat]?) fun _ =>
 some (.next ((wr .i64 (x16.1.1+1),wr .i64 (x16.1.2+1)),x16.2.set x16.1.1.toNat e22)))
 else (some (.next ((x16.1.1,wr .i64 (x16.1.2+1)),x16.2))))
 else (some (.done (x16.1.1,x16.2)))
def a4i (x1:(List ByteArray)×Int):Option (Fl ((List ByteArray)×Int) (Sum (List ByteArray) (List ByteArray))) :=
 bif decide (x1.2<(x1.1.length:Int))
 then (Option.bind (idx x1.1 x1.2) fun _ =>
 Option.bind (x1.1[x1.2.toNat]?) fun e3 =>
 Option.bind (idx x1.1 (wr .i64 (x1.2-1))) fun _ =>
 Option.bind (x1.1[(wr .i64 (x1.2-1)).toNat]?) fun e5 =>
 bif Q3 e3 e5
 then (Option.bind (idx x1.1 x1.2) fun _ =>
 Option.bind (y2 (a4m x1) (((x1.1.drop x1.2.toNat).length:Int).toNat+1) ((x1.2,1),x1.1)) fun b25 =>
 Option.bind (idx b25.2 b25.1) fun _ =>
 bif Nat.blt b25.1.toNat b25.2.length
 then (Option.bind (cut (b25.2.take b25.1.toNat++List.replicate (b25.2.length-b25.1.toNat) ((⟨#[]⟩:ByteArray):ByteArray)) 0 b25.1) fun y27 =>
 some (.done (.inr y27)))
 else (none))
 else (some (.next (x1.1,wr .i64 (x1.2+1)))))
 else (some (.done (.inl x1.1)))
def a0v (s:List ByteArray):Option (List ByteArray) :=
 bif decide ((s.length:Int)<2)
 then (some s)
 else (Option.bind (y2 a4i ((s.length:Int).toNat+1) (s,1)) fun b28 =>
 Y5 (fun x29 =>
 some x29) (fun y30 =>
 some y30) b28)
def a00 (s:List ByteArray):Option (List ByteArray) :=
 bif (s.length:Int)==(s.length:Int)&&(s.length:Int)==(s.length:Int)
 then (some s)
 else (none)
def b8Y (t:Api_Type)(nodes:List Int)(x1:(List ByteArray)×Int):Option (Fl ((List ByteArray)×Int) (List ByteArray)) :=
 bif decide (x1.2<(nodes.length:Int))
 then (Option.bind (idx nodes x1.2) fun e2 =>
 Option.bind (idx t.Nodes e2) fun e3 =>
 bif e3.Kind==19
 then (Option.bind (idx t.Nodes e2) fun e4 =>
 Option.bind (v7 (x1.1.length+([e4.Text]:List ByteArray).length) 16) fun _ =>
 some (.next (x1.1++([e4.Text]:List ByteArray),wr .i64 (x1.2+1))))
 else (some (.next (x1.1,wr .i64 (x1.2+1)))))
 else (some (.done x1.1))
def b1p (t:Api_Type)(nodes:List Int):Option (List ByteArray) :=
 Option.bind (y2 (b8Y t nodes) ((nodes.length:Int).toNat+1) ([],0)) fun b6 =>
 Option.bind (b7Q b6) fun r7 =>
 Option.bind (a0v r7.2) fun r8 =>
 Option.bind (a00 r8) fun r9 =>
 some r9
def a5Z (s:List Int)(f:Int->Option Bool)(x1:Int):Option (Fl Int (Sum Unit Int)) :=
 bif decide (x1<(s.length:Int))
 then (Option.bind (idx s x1) fun e2 =>
 Option.bind (f e2) fun r3 =>
 bif r3
 then (some (.done (.inr x1)))
 else (some (.next (wr .i64 (x1+1)))))
 else (some (.done (.inl ())))
def a29 (s:List Int)(f:Int->Option Bool):Option Int :=
 Option.bind (y2 (a5Z s f) ((s.length:Int).toNat+1) 0) fun b4 =>
 Y5 (fun _ =>
 some (-1)) (fun y6 =>
 some y6) b4
def K6 (s:List Int)(f:Int->Option Bool):Option Bool :=
 Option.bind (a29 s f) fun r1 =>
 some (decide (0<=r1))
def a7T (s:List Int)(v:Int)(x1:Int):Option (Fl Int (Sum Unit Int)) :=
 bif decide (x1<(s.length:Int))
 then (Option.bind (idx s x1) fun e2 =>
 bif v==e2
 then (some (.done (.inr x1)))
 else (some (.next (wr .i64 (x1+1)))))
 else (some (.done (.inl ())))
def a4X (s:List Int)(v:Int):Option Int :=
 Option.bind (y2 (a7T s v) ((s.length:Int).toNat+1) 0) fun b3 =>
 Y5 (fun _ =>
 some (-1)) (fun y5 =>
 some y5) b3
def a0s (s:List Int)(v:Int):Option Bool :=
 Option.bind (a4X s v) fun r1 =>
 some (decide (0<=r1))
def a8k (x:Int)(a1_1:List Int):Option Bool :=
 Option.bind (a0s a1_1 x) fun r1 =>
 some r1
def a3S (a:List Int)(b:List Int):Option Bool :=
 Option.bind (K6 a (fun z1 =>
 Option.bind (a8k z1 b) fun r2 =>
 some r2)) fun r3 =>
 some r3
def a3L (s:List ByteArray)(f:ByteArray->Option Bool)(x1:Int):Option (Fl Int (Sum Unit Int)) :=
 bif decide (x1<(s.length:Int))
 then (Option.bind (idx s x1) fun e2 =>
 Option.bind (f e2) fun r3 =>
 bif r3
 then (some (.done (.inr x1)))
 else (some (.next (wr .i64 (x1+1)))))
 else (some (.done (.inl ())))
def a1I (s:List ByteArray)(f:ByteArray->Option Bool):Option Int :=
 Option.bind (y2 (a3L s f) ((s.length:Int).toNat+1) 0) fun b4 =>
 Y5 (fun _ =>
 some (-1)) (fun y6 =>
 some y6) b4
def a05 (s:List ByteArray)(f:ByteArray->Option Bool):Option Bool :=
 Option.bind (a1I s f) fun r1 =>
 some (decide (0<=r1))
def a5P (x:ByteArray)(a1_1:List ByteArray):Option Bool :=
 Option.bind (J6 a1_1 x) fun r1 =>
 some r1
def a7M (a:List ByteArray)(b:List ByteArray):Option Bool :=
 Option.bind (a05 a (fun z1 =>
 Option.bind (a5P z1 b) fun r2 =>
 some r2)) fun r3 =>
 some r3
def b9a (x1:(List Core_Sort)×Int):Option (Fl ((List Core_Sort)×Int) (List Core_Sort)) :=
 bif decide (x1.2<=4)
 then (Option.bind (v7 (x1.1.length+([Core_Sort.mk 6 x1.2,Core_Sort.mk 9 x1.2]:List Core_Sort).length) 16) fun _ =>
 some (.next (x1.1++([Core_Sort.mk 6 x1.2,Core_Sort.mk 9 x1.2]:List Core_Sort),wr .i64 (x1.2+1))))
 else (some (.done x1.1))
def b7w:Option (List Core_Sort) :=
 Option.bind (y2 b9a ((4:Int).toNat+2) (([Core_Sort.mk 1 0,Core_Sort.mk 2 0,Core_Sort.mk 3 0,Core_Sort.mk 4 0,Core_Sort.mk 5 0,Core_Sort.mk 7 0,Core_Sort.mk 8 0]:List Core_Sort),0)) fun b3 =>
 some b3
def a5q (d:Core_Sort)(t:Api_TypeNode):Option Bool :=
 bif t.Kind==3
 then (some (d.Kind==1))
 else (Option.bind (bif t.Kind==4
 then (some (t.Kind==4))
 else (some (t.Kind==5))) fun b1 =>
 bif b1
 then (some (d.Kind==2))
 else (Option.bind (bif t.Kind==6
 then (some (t.Kind==6))
 else (some (t.Kind==7))) fun b2 =>
 bif b2
 then (some (d.Kind==3))
 else (bif t.Kind==8
 then (some (d.Kind==4))
 else (bif t.Kind==9
 then (some (d.Kind==5))
 else (bif t.Kind==12
 then (some (d.Kind==7))
 else (bif t.Kind==13
 then (some (d.Kind==8))
 else (bif t.Kind==11
 then (some (d.Kind==6))
 else (bif t.Kind==10
 then (Option.bind (bif d.Kind==6
 then (some (d.Arity==(t.Kids.length:Int)))
 else (some false)) fun q3 =>
 some q3)
 else (bif t.Kind==15
 then (some (d.Kind==9))
 else (bif t.Kind==14
 then (Option.bind (bif d.Kind==9
 then (some (d.Arity==(wr .i64 ((t.Kids.length:Int)-1))))
 else (some false)) fun q4 =>
 some q4)
 else (some false)))))))))))
def a6Z (i:Int)(a1_1:Api_Type)(a2_2:Core_Sort):Option Bool :=
 Option.bind (idx a1_1.Nodes i) fun e1 =>
 Option.bind (bif e1.Kind != 19
 then (Option.bind (idx a1_1.Nodes i) fun e2 =>
 Option.bind (a5q a2_2 e2) fun r3 =>
 some (!r3))
 else (some false)) fun q4 =>
 some q4
def a9y (s:Core_Sort)(t:Api_Type)(e:Api_Goal):Option Bool :=
 Option.bind (bif e.Lists
 then (some (s.Kind != 5))
 else (some false)) fun q1 =>
 Option.bind (bif q1
 then (some (s.Kind != 7))
 else (some false)) fun q2 =>
 bif q2
 then (some false)
 else (Option.bind (K6 e.Pos (fun z3 =>
 Option.bind (a6Z z3 t s) fun r4 =>
 some r4)) fun r5 =>
 some (!r5))
def b1D:Option (List Api_Range) :=
 some ([Api_Range.mk (-9223372036854775808) 9223372036854775807]:List Api_Range)
noncomputable def b0a (e3:Api_Range)(r4:List Api_Range)(x5:(List Api_Range)×Int):Option (Fl ((List Api_Range)×Int) (List Api_Range)) :=
 bif decide (x5.2<(r4.length:Int))
 then (Option.bind (idx r4 x5.2) fun e6 =>
 Option.bind (v7 (x5.1.length+([Api_Range.mk (max e3.Lo e6.Lo) (min e3.Hi e6.Hi)]:List Api_Range).length) 16) fun _ =>
 some (.next (x5.1++([Api_Range.mk (max e3.Lo e6.Lo) (min e3.Hi e6.Hi)]:List Api_Range),wr .i64 (x5.2+1))))
 else (some (.done x5.1))
noncomputable def b0i (b:List Api_Range)(r1:List Api_Range)(x2:(List Api_Range)×Int):Option (Fl ((List Api_Range)×Int) (List Api_Range)) :=
 bif decide (x2.2<(r1.length:Int))
 then (Option.bind (idx r1 x2.2) fun e3 =>
 Option.bind (a0a b) fun r4 =>
 Option.bind (y2 (b0a e3 r4) ((r4.length:Int).toNat+1) (x2.1,0)) fun b8 =>
 some (.next (b8,wr .i64 (x2.2+1))))
 else (some (.done x2.1))
noncomputable def a3b (a:List Api_Range)(b:List Api_Range):Option (List Api_Range) :=
 Option.bind (a0a a) fun r1 =>
 Option.bind (y2 (b0i b r1) ((r1.length:Int).toNat+1) ([],0)) fun b9 =>
 Option.bind (a0a b9) fun r10 =>
 some r10
noncomputable def a85 (r1:List Api_Range)(x2:(List Api_Range)×Int×Int):Option (Fl ((List Api_Range)×Int×Int) (Sum ((List Api_Range)×Int) (List Api_Range))) :=
 bif decide (x2.2.2<(r1.length:Int))
 then (Option.bind (idx r1 x2.2.2) fun e3 =>
 Option.bind (bif decide (x2.2.1<e3.Lo)
 then (Option.bind (v7 (x2.1.length+([Api_Range.mk x2.2.1 (wr .i64 (e3.Lo-1))]:List Api_Range).length) 16) fun _ =>
 some (x2.1++([Api_Range.mk x2.2.1 (wr .i64 (e3.Lo-1))]:List Api_Range)))
 else (some x2.1)) fun b5 =>
 bif e3.Hi==9223372036854775807
 then (some (.done (.inr b5)))
 else (some (.next (b5,wr .i64 (e3.Hi+1),wr .i64 (x2.2.2+1)))))
 else (some (.done (.inl (x2.1,x2.2.1))))
noncomputable def a44 (a:List Api_Range):Option (List Api_Range) :=
 Option.bind (a0a a) fun r1 =>
 Option.bind (y2 (a85 r1) ((r1.length:Int).toNat+1) ([],(-9223372036854775808),0)) fun b6 =>
 Y5 (fun x7 =>
 Option.bind (v7 (x7.1.length+([Api_Range.mk x7.2 9223372036854775807]:List Api_Range).length) 16) fun _ =>
 some (x7.1++([Api_Range.mk x7.2 9223372036854775807]:List Api_Range))) (fun y8 =>
 some y8) b6
noncomputable def b9e (t:Api_Type)(e:Api_Goal)(x2:(List Api_Range)×Int):Option (Fl ((List Api_Range)×Int) (List Api_Range)) :=
 bif decide (x2.2<(e.Pos.length:Int))
 then (Option.bind (idx e.Pos x2.2) fun e3 =>
 Option.bind (idx t.Nodes e3) fun e4 =>
 bif e4.Kind==3
 then (Option.bind (a3b x2.1 ([Api_Range.mk e4.Lo e4.Hi]:List Api_Range)) fun r5 =>
 some (.next (r5,wr .i64 (x2.2+1))))
 else (some (.next (x2.1,wr .i64 (x2.2+1)))))
 else (some (.done x2.1))
noncomputable def b9m (t:Api_Type)(e:Api_Goal)(x7:(List Api_Range)×Int):Option (Fl ((List Api_Range)×Int) (List Api_Range)) :=
 bif decide (x7.2<(e.Neg.length:Int))
 then (Option.bind (idx e.Neg x7.2) fun e8 =>
 Option.bind (idx t.Nodes e8) fun e9 =>
 bif e9.Kind==3
 then (Option.bind (a44 ([Api_Range.mk e9.Lo e9.Hi]:List Api_Range)) fun r10 =>
 Option.bind (a3b x7.1 r10) fun r11 =>
 some (.next (r11,wr .i64 (x7.2+1))))
 else (some (.next (x7.1,wr .i64 (x7.2+1)))))
 else (some (.done x7.1))
noncomputable def b6C (t:Api_Type)(e:Api_Goal):Option (List Api_Range) :=
 Option.bind (b1D) fun r1 =>
 Option.bind (y2 (b9e t e) ((e.Pos.length:Int).toNat+1) (r1,0)) fun b6 =>
 Option.bind (y2 (b9m t e) ((e.Neg.length:Int).toNat+1) (b6,0)) fun b12 =>
 some b12
def a0G (s:Api_Names):Option Literals_normal :=
 Option.bind (Q4 16 s.List_) fun r1 =>
 Option.bind (b7Q r1) fun r2 =>
 Option.bind (a0v r2.2) fun r3 =>
 Option.bind (a00 r3) fun r4 =>
 some (Literals_normal.mk (Api_Names.mk s.Cofinite r4))
def a1X (l:List ByteArray):Option Api_Names :=
 Option.bind (a0G (Api_Names.mk true l)) fun r1 =>
 some r1.Names
def a1E (l:List ByteArray):Option Api_Names :=
 Option.bind (a0G (Api_Names.mk false l)) fun r1 =>
 some r1.Names
def a4P (n_0:Literals_normal)(other:Literals_normal):Option (List ByteArray) :=
 Option.bind (Q4 16 n_0.Names.List_) fun r1 =>
 Option.bind (v7 (r1.length+other.Names.List_.length) 16) fun _ =>
 some (r1++other.Names.List_)
def a35 (x:ByteArray):Option Bool :=
 some (!(Q3 x x))
def a8h (x:ByteArray)(y:ByteArray):Option Bool :=
 Option.bind (a35 x) fun r1 =>
 Option.bind (bif r1
 then (Option.bind (a35 y) fun r2 =>
 some (!r2))
 else (some false)) fun q3 =>
 Option.bind (bif q3
 then (some true)
 else (some (a01 x y))) fun q4 =>
 some q4
def a2I (x:ByteArray):Option Bool :=
 some (!(Q3 x x))
def a2V (x:List ByteArray)(target:ByteArray)(x1:Int×Int):Option (Fl (Int×Int) Int) :=
 bif decide (x1.1<x1.2)
 then (Option.bind (c0m .u64 (wr .u64 (wr .i64 (x1.1+x1.2))) 1) fun d2 =>
 Option.bind (idx x (wr .i64 d2)) fun e3 =>
 Option.bind (a8h e3 target) fun r4 =>
 bif r4
 then (some (.next (wr .i64 ((wr .i64 d2)+1),x1.2)))
 else (some (.next (x1.1,wr .i64 d2))))
 else (some (.done x1.1))
def a04 (n:Nat)(x:List ByteArray)(target:ByteArray):Option (Int×Bool) :=
 Option.bind (y2 (a2V x target) n (0,(x.length:Int))) fun b5 =>
 Option.bind (bif decide (b5<(x.length:Int))
 then (Option.bind (idx x b5) fun e6 =>
 Option.bind (bif Q3 e6 target
 then (some true)
 else (Option.bind (idx x b5) fun e7 =>
 Option.bind (a2I e7) fun r8 =>
 Option.bind (bif r8
 then (Option.bind (a2I target) fun r9 =>
 some r9)
 else (some false)) fun q10 =>
 some q10)) fun q11 =>
 some q11)
 else (some false)) fun q12 =>
 some (b5,q12)
def a2G (n:Nat)(n_0:Literals_normal)(name:ByteArray):Option Bool :=
 Option.bind (a04 n n_0.Names.List_ name) fun r1 =>
 some r1.2
def a62 (n_0:Literals_normal)(other:Literals_normal)(n:Nat)(x1:(List ByteArray)×Int):Option (Fl ((List ByteArray)×Int) (List ByteArray)) :=
 bif decide (x1.2<(n_0.Names.List_.length:Int))
 then (Option.bind (idx n_0.Names.List_ x1.2) fun e2 =>
 Option.bind (a2G n other e2) fun r3 =>
 bif !r3
 then (Option.bind (v7 (x1.1.length+([e2]:List ByteArray).length) 16) fun _ =>
 some (.next (x1.1++([e2]:List ByteArray),wr .i64 (x1.2+1))))
 else (some (.next (x1.1,wr .i64 (x1.2+1)))))
 else (some (.done x1.1))
def a16 (n:Nat)(n_0:Literals_normal)(other:Literals_normal):Option (List ByteArray) :=
 Option.bind (y2 (a62 n_0 other n) ((n_0.Names.List_.length:Int).toNat+1) ([],0)) fun b5 =>
 some b5
def a9X (r1:Literals_normal)(r2:Literals_normal)(n:Nat)(x10:(List ByteArray)×Int):Option (Fl ((List ByteArray)×Int) (List ByteArray)) :=
 bif decide (x10.2<(r1.Names.List_.length:Int))
 then (Option.bind (idx r1.Names.List_ x10.2) fun e11 =>
 Option.bind (a2G n r2 e11) fun r12 =>
 bif r12
 then (Option.bind (v7 (x10.1.length+([e11]:List ByteArray).length) 16) fun _ =>
 some (.next (x10.1++([e11]:List ByteArray),wr .i64 (x10.2+1))))
 else (some (.next (x10.1,wr .i64 (x10.2+1)))))
 else (some (.done x10.1))
def a3a (n:Nat)(a:Api_Names)(b:Api_Names):Option Api_Names :=
 Option.bind (a0G a) fun r1 =>
 Option.bind (a0G b) fun r2 =>
 Option.bind (bif r1.Names.Cofinite
 then (some r2.Names.Cofinite)
 else (some false)) fun q3 =>
 bif q3
 then (Option.bind (a4P r1 r2) fun r4 =>
 Option.bind (a1X r4) fun r5 =>
 some r5)
 else (bif r1.Names.Cofinite
 then (Option.bind (a16 n r2 r1) fun r6 =>
 Option.bind (a1E r6) fun r7 =>
 some r7)
 else (bif r2.Names.Cofinite
 then (Option.bind (a16 n r1 r2) fun r8 =>
 Option.bind (a1E r8) fun r9 =>
 some r9)
 else (Option.bind (y2 (a9X r1 r2 n) ((r1.Names.List_.length:Int).toNat+1) ([],0)) fun b14 =>
 Option.bind (a1E b14) fun r15 =>
 some r15)))
def b8l (t:Api_Type)(e:Api_Goal)(kind:Int)(n:Nat)(x2:Int×Api_Names):Option (Fl (Int×Api_Names) Api_Names) :=
 bif decide (x2.1<(e.Pos.length:Int))
 then (Option.bind (idx e.Pos x2.1) fun e3 =>
 Option.bind (idx t.Nodes e3) fun e4 =>
 bif e4.Kind==kind
 then (Option.bind (a1E ([e4.Text]:List ByteArray)) fun r5 =>
 Option.bind (a3a n x2.2 r5) fun r6 =>
 some (.next (wr .i64 (x2.1+1),r6)))
 else (some (.next (wr .i64 (x2.1+1),x2.2))))
 else (some (.done x2.2))
def b7L (t:Api_Type)(e:Api_Goal)(kind:Int)(n:Nat)(x8:Int×Api_Names):Option (Fl (Int×Api_Names) Api_Names) :=
 bif decide (x8.1<(e.Neg.length:Int))
 then (Option.bind (idx e.Neg x8.1) fun e9 =>
 Option.bind (idx t.Nodes e9) fun e10 =>
 bif e10.Kind==kind
 then (Option.bind (a1X ([e10.Text]:List ByteArray)) fun r11 =>
 Option.bind (a3a n x8.2 r11) fun r12 =>
 some (.next (wr .i64 (x8.1+1),r12)))
 else (some (.next (wr .i64 (x8.1+1),x8.2))))
 else (some (.done x8.2))
def a8K (n:Nat)(t:Api_Type)(e:Api_Goal)(kind:Int):Option Api_Names :=
 Option.bind (a1X ([]:List ByteArray)) fun r1 =>
 Option.bind (y2 (b8l t e kind n) ((e.Pos.length:Int).toNat+1) (0,r1)) fun b7 =>
 Option.bind (y2 (b7L t e kind n) ((e.Neg.length:Int).toNat+1) (0,b7)) fun b13 =>
 some b13
def b40 (i:Int)(a1_1:Api_Type)(a2_2:Int):Option Bool :=
 Option.bind (idx a1_1.Nodes i) fun e1 =>
 some (e1.Kind==a2_2)
def a4h (t:Api_Type)(nodes:List Int)(kind:Int):Option Bool :=
 Option.bind (K6 nodes (fun z1 =>
 Option.bind (b40 z1 t kind) fun r2 =>
 some r2)) fun r3 =>
 some r3
def b7i (s:Core_Sort)(t:Api_Type)(nodes:List Int)(kind:Int)(x1:(List Int)×Int):Option (Fl ((List Int)×Int) (List Int)) :=
 bif decide (x1.2<(nodes.length:Int))
 then (Option.bind (idx nodes x1.2) fun e2 =>
 Option.bind (idx t.Nodes e2) fun e3 =>
 Option.bind (bif e3.Kind==kind
 then (Option.bind (idx t.Nodes e2) fun e4 =>
 Option.bind (a5q s e4) fun r5 =>
 some r5)
 else (some false)) fun q6 =>
 bif q6
 then (Option.bind (v7 (x1.1.length+([e2]:List Int).length) 8) fun _ =>
 some (.next (x1.1++([e2]:List Int),wr .i64 (x1.2+1))))
 else (some (.next (x1.1,wr .i64 (x1.2+1)))))
 else (some (.done x1.1))
def a7Q (s:Core_Sort)(t:Api_Type)(nodes:List Int)(kind:Int):Option (List Int) :=
 Option.bind (y2 (b7i s t nodes kind) ((nodes.length:Int).toNat+1) ([],0)) fun b8 =>
 some b8
noncomputable def b6A (n:Nat)(d:Api_Type)(t:Api_Goal)(a2_2:Core_Sort):Option (Api_Line×Bool) :=
 Option.bind (a9y a2_2 d t) fun r1 =>
 bif !r1
 then (some (Api_Line.mk a2_2.Kind a2_2.Arity ([]:List Api_Range) (Api_Names.mk false ([]:List ByteArray)) ([]:List Int) ([]:List Int) ([]:List ByteArray) ([]:List ByteArray),false))
 else (Option.bind (bif a2_2.Kind==1
 then (Option.bind (b6C d t) fun r2 =>
 some (.inr (decide (0<(r2.length:Int)),(a2_2.Kind,a2_2.Arity,r2,false,([]:List ByteArray),([]:List Int),([]:List Int),([]:List ByteArray),([]:List ByteArray)),(a2_2.Kind,a2_2.Arity,r2,false,([]:List ByteArray),([]:List Int),([]:List Int),([]:List ByteArray),([]:List ByteArray)))))
 else (bif a2_2.Kind==2
 then (Option.bind (a8K n d t 4) fun r3 =>
 Option.bind (a4h d t.Neg 5) fun r4 =>
 bif !r4
 then (bif r3.Cofinite
 then (some (.inr (true,(a2_2.Kind,a2_2.Arity,([]:List Api_Range),r3.Cofinite,r3.List_,([]:List Int),([]:List Int),([]:List ByteArray),([]:List ByteArray)),(a2_2.Kind,a2_2.Arity,([]:List Api_Range),r3.Cofinite,r3.List_,([]:List Int),([]:List Int),([]:List ByteArray),([]:List ByteArray)))))
 else (some (.inr (decide (0<(r3.List_.length:Int)),(a2_2.Kind,a2_2.Arity,([]:List Api_Range),r3.Cofinite,r3.List_,([]:List Int),([]:List Int),([]:List ByteArray),([]:List ByteArray)),(a2_2.Kind,a2_2.Arity,([]:List Api_Range),r3.Cofinite,r3.List_,([]:List Int),([]:List Int),([]:List ByteArray),([]:List ByteArray))))))
 else (some (.inr (false,(a2_2.Kind,a2_2.Arity,([]:List Api_Range),r3.Cofinite,r3.List_,([]:List Int),([]:List Int),([]:List ByteArray),([]:List ByteArray)),(a2_2.Kind,a2_2.Arity,([]:List Api_Range),r3.Cofinite,r3.List_,([]:List Int),([]:List Int),([]:List ByteArray),([]:List ByteArray))))))
 else (bif a2_2.Kind==3
 then (Option.bind (a8K n d t 6) fun r5 =>
 Option.bind (a4h d t.Neg 7) fun r6 =>
 bif !r6
 then (bif r5.Cofinite
 then (some (.inr (true,(a2_2.Kind,a2_2.Arity,([]:List Api_Range),r5.Cofinite,r5.List_,([]:List Int),([]:List Int),([]:List ByteArray),([]:List ByteArray)),(a2_2.Kind,a2_2.Arity,([]:List Api_Range),r5.Cofinite,r5.List_,([]:List Int),([]:List Int),([]:List ByteArray),([]:List ByteArray)))))
 else (some (.inr (decide (0<(r5.List_.length:Int)),(a2_2.Kind,a2_2.Arity,([]:List Api_Range),r5.Cofinite,r5.List_,([]:List Int),([]:List Int),([]:List ByteArray),([]:List ByteArray)),(a2_2.Kind,a2_2.Arity,([]:List Api_Range),r5.Cofinite,r5.List_,([]:List Int),([]:List Int),([]:List ByteArray),([]:List ByteArray))))))
 else (some (.inr (false,(a2_2.Kind,a2_2.Arity,([]:List Api_Range),r5.Cofinite,r5.List_,([]:List Int),([]:List Int),([]:List ByteArray),([]:List ByteArray)),(a2_2.Kind,a2_2.Arity,([]:List Api_Range),r5.Cofinite,r5.List_,([]:List Int),([]:List Int),([]:List ByteArray),([]:List ByteArray))))))
 else (bif a2_2.Kind==4
 then (Option.bind (a4h d t.Neg 8) fun r7 =>
 some (.inr (!r7,(a2_2.Kind,a2_2.Arity,([]:List Api_Range),false,([]:List ByteArray),([]:List Int),([]:List Int),([]:List ByteArray),([]:List ByteArray)),(a2_2.Kind,a2_2.Arity,([]:List Api_Range),false,([]:List ByteArray),([]:List Int),([]:List Int),([]:List ByteArray),([]:List ByteArray)))))
 else (bif a2_2.Kind==5
 then (Option.bind (a4h d t.Neg 9) fun r8 =>
 some (.inr (!r8,(a2_2.Kind,a2_2.Arity,([]:List Api_Range),false,([]:List ByteArray),([]:List Int),([]:List Int),([]:List ByteArray),([]:List ByteArray)),(a2_2.Kind,a2_2.Arity,([]:List Api_Range),false,([]:List ByteArray),([]:List Int),([]:List Int),([]:List ByteArray),([]:List ByteArray)))))
 else (bif a2_2.Kind==6
 then (some (.inl (10,11,(0,0,([]:List Api_Range),false,([]:List ByteArray),([]:List Int),([]:List Int),([]:List ByteArray),([]:List ByteArray)),(a2_2.Kind,a2_2.Arity,([]:List Api_Range),false,([]:List ByteArray),([]:List Int),([]:List Int),([]:List ByteArray),([]:List ByteArray)))))
 else (bif a2_2.Kind==7
 then (some (.inl (12,0,(0,0,([]:List Api_Range),false,([]:List ByteArray),([]:List Int),([]:List Int),([]:List ByteArray),([]:List ByteArray)),(a2_2.Kind,a2_2.Arity,([]:List Api_Range),false,([]:List ByteArray),([]:List Int),([]:List Int),([]:List ByteArray),([]:List ByteArray)))))
 else (bif a2_2.Kind==8
 then (some (.inl (13,0,(0,0,([]:List Api_Range),false,([]:List ByteArray),([]:List Int),([]:List Int),([]:List ByteArray),([]:List ByteArray)),(a2_2.Kind,a2_2.Arity,([]:List Api_Range),false,([]:List ByteArray),([]:List Int),([]:List Int),([]:List ByteArray),([]:List ByteArray)))))
 else (bif a2_2.Kind==9
 then (some (.inl (14,15,(0,0,([]:List Api_Range),false,([]:List ByteArray),([]:List Int),([]:List Int),([]:List ByteArray),([]:List ByteArray)),(a2_2.Kind,a2_2.Arity,([]:List Api_Range),false,([]:List ByteArray),([]:List Int),([]:List Int),([]:List ByteArray),([]:List ByteArray)))))
 else (some (.inl (0,0,(0,0,([]:List Api_Range),false,([]:List ByteArray),([]:List Int),([]:List Int),([]:List ByteArray),([]:List ByteArray)),(a2_2.Kind,a2_2.Arity,([]:List Api_Range),false,([]:List ByteArray),([]:List Int),([]:List Int),([]:List ByteArray),([]:List ByteArray)))))))))))))) fun (b9:Sum (Int×Int×(Int×Int×(List Api_Range)×Bool×(List ByteArray)×(List Int)×(List Int)×(List ByteArray)×(List ByteArray))×(Int×Int×(List Api_Range)×Bool×(List ByteArray)×(List Int)×(List Int)×(List ByteArray)×(List ByteArray))) (Bool×(Int×Int×(List Api_Range)×Bool×(List ByteArray)×(List Int)×(List Int)×(List ByteArray)×(List ByteArray))×(Int×Int×(List Api_Range)×Bool×(List ByteArray)×(List Int)×(List Int)×(List ByteArray)×(List ByteArray)))) =>
 Y5 (fun x10 =>
 Option.bind (a7Q a2_2 d t.Pos x10.1) fun r12 =>
 Option.bind (a7Q a2_2 d t.Neg x10.1) fun r13 =>
 bif x10.2.1==0
 then (some (Api_Line.mk x10.2.2.2.1 x10.2.2.2.2.1 x10.2.2.2.2.2.1 (Api_Names.mk x10.2.2.2.2.2.2.1 x10.2.2.2.2.2.2.2.1) r12 r13 x10.2.2.2.2.2.2.2.2.2.2.1 x10.2.2.2.2.2.2.2.2.2.2.2,true))
 else (Option.bind (a4h d t.Neg x10.2.1) fun r14 =>
 some (Api_Line.mk x10.2.2.2.1 x10.2.2.2.2.1 x10.2.2.2.2.2.1 (Api_Names.mk x10.2.2.2.2.2.2.1 x10.2.2.2.2.2.2.2.1) r12 r13 x10.2.2.2.2.2.2.2.2.2.2.1 x10.2.2.2.2.2.2.2.2.2.2.2,!r14))) (fun y11 =>
 some (Api_Line.mk y11.2.1.1 y11.2.1.2.1 y11.2.1.2.2.1 (Api_Names.mk y11.2.1.2.2.2.1 y11.2.1.2.2.2.2.1) y11.2.1.2.2.2.2.2.1 y11.2.1.2.2.2.2.2.2.1 y11.2.1.2.2.2.2.2.2.2.1 y11.2.1.2.2.2.2.2.2.2.2,y11.1)) b9)
noncomputable def b8b (d:Api_Type)(n:Nat)(e6:Api_Goal)(r7:List ByteArray)(r8:List ByteArray)(r12:List Core_Sort)(x13:(List Api_Line)×Int):Option (Fl ((List Api_Line)×Int) (List Api_Line)) :=
 bif decide (x13.2<(r12.length:Int))
 then (Option.bind (idx r12 x13.2) fun e14 =>
 Option.bind (b6A n d e6 e14) fun r15 =>
 bif r15.2
 then (Option.bind (Q4 16 r7) fun r16 =>
 Option.bind (Q4 16 r8) fun r17 =>
 Option.bind (v7 (x13.1.length+([Api_Line.mk r15.1.Kind r15.1.Arity r15.1.Ints r15.1.Names r15.1.Pos r15.1.Neg r16 r17]:List Api_Line).length) 168) fun _ =>
 some (.next (x13.1++([Api_Line.mk r15.1.Kind r15.1.Arity r15.1.Ints r15.1.Names r15.1.Pos r15.1.Neg r16 r17]:List Api_Line),wr .i64 (x13.2+1))))
 else (some (.next (x13.1,wr .i64 (x13.2+1)))))
 else (some (.done x13.1))
noncomputable def b7D (d:Api_Type)(n:Nat)(r4:List Api_Goal)(x5:(List Api_Line)×Int):Option (Fl ((List Api_Line)×Int) (List Api_Line)) :=
 bif decide (x5.2<(r4.length:Int))
 then (Option.bind (idx r4 x5.2) fun e6 =>
 Option.bind (b1p d e6.Pos) fun r7 =>
 Option.bind (b1p d e6.Neg) fun r8 =>
 Option.bind (a3S e6.Pos e6.Neg) fun r9 =>
 Option.bind (bif r9
 then (some true)
 else (Option.bind (a7M r7 r8) fun r10 =>
 some r10)) fun q11 =>
 bif q11
 then (some (.next (x5.1,wr .i64 (x5.2+1))))
 else (Option.bind (b7w) fun r12 =>
 Option.bind (y2 (b8b d n e6 r7 r8 r12) ((r12.length:Int).toNat+1) (x5.1,0)) fun b19 =>
 some (.next (b19,wr .i64 (x5.2+1)))))
 else (some (.done x5.1))
noncomputable def b4S (n:Nat)(d:Api_Type)(t:Api_Goal):Option (List Api_Line) :=
 Option.bind (V3 n d) fun r1 =>
 Option.bind (bif r1 != 0
 then (some true)
 else (Option.bind (a8F d t) fun r2 =>
 some (!r2))) fun q3 =>
 bif q3
 then (some ([]))
 else (Option.bind (a8r n d t) fun r4 =>
 Option.bind (y2 (b7D d n r4) ((r4.length:Int).toNat+1) ([],0)) fun b20 =>
 some b20)
def a0T (n_0:Int):Option Int :=
 bif decide (n_0<0)
 then (some (wr .u64 (0-(wr .u64 n_0))))
 else (some (wr .u64 n_0))
def b4C (s:List Api_Range)(x1:Int×Bool×Int):Option (Fl (Int×Bool×Int) (Int×Bool)) :=
 bif decide (x1.2.2<(s.length:Int))
 then (Option.bind (idx s x1.2.2) fun e2 =>
 bif decide (e2.Hi<e2.Lo)
 then (some (.next (x1.1,x1.2.1,wr .i64 (x1.2.2+1))))
 else (Option.bind (bif !x1.2.1
 then (some true)
 else (Option.bind (a0T (max (min 0 e2.Hi) e2.Lo)) fun r3 =>
 Option.bind (a0T x1.1) fun r4 =>
 some (decide (r3<r4)))) fun q5 =>
 Option.bind (bif q5
 then (some true)
 else (Option.bind (a0T (max (min 0 e2.Hi) e2.Lo)) fun r6 =>
 Option.bind (a0T x1.1) fun r7 =>
 Option.bind (bif r6==r7
 then (some (decide (x1.1<(max (min 0 e2.Hi) e2.Lo))))
 else (some false)) fun q8 =>
 some q8)) fun q9 =>
 bif q9
 then (some (.next (max (min 0 e2.Hi) e2.Lo,true,wr .i64 (x1.2.2+1))))
 else (some (.next (x1.1,x1.2.1,wr .i64 (x1.2.2+1))))))
 else (some (.done (x1.1,x1.2.1)))
def a9C (s:List Api_Range):Option (Int×Bool) :=
 Option.bind (y2 (b4C s) ((s.length:Int).toNat+1) (0,false,0)) fun b10 =>
 some (b10.1,b10.2)
def b6N (kind:Int)(m1:Nat)(x2:(List Int)×Int):Option (Fl ((List Int)×Int) (List Int)) :=
 bif decide (x2.2<((List.replicate m1 (0:Int)).length:Int))
 then (bif kind==1
 then (Option.bind (idx x2.1 x2.2) fun _ =>
 Option.bind (x2.1[x2.2.toNat]?) fun _ =>
 some (.next (x2.1.set x2.2.toNat 0,wr .i64 (x2.2+1))))
 else (bif x2.2==0
 then (Option.bind (idx x2.1 x2.2) fun _ =>
 Option.bind (x2.1[x2.2.toNat]?) fun _ =>
 some (.next (x2.1.set x2.2.toNat 97,wr .i64 (x2.2+1))))
 else (Option.bind (idx x2.1 x2.2) fun _ =>
 Option.bind (x2.1[x2.2.toNat]?) fun _ =>
 some (.next (x2.1.set x2.2.toNat 48,wr .i64 (x2.2+1))))))
 else (some (.done x2.1))
def a3j (kind:Int)(length:Int):Option (List Int) :=
 Option.bind (a3P length length 1) fun m1 =>
 Option.bind (y2 (b6N kind m1) (((List.replicate m1 (0:Int)).length:Int).toNat+1) (List.replicate m1 (0:Int),0)) fun b9 =>
 some b9
def a8j (kind:Int)(position:Int)(c:Int):Option (Int×Bool) :=
 bif kind==1
 then (some (wr .u8 (c+1),decide (c<255)))
 else (bif c==122
 then (some (0,false))
 else (Option.bind (bif decide (0<position)
 then (some (c==57))
 else (some false)) fun q1 =>
 bif q1
 then (some (95,true))
 else (Option.bind (bif decide (0<position)
 then (some (c==95))
 else (some false)) fun q2 =>
 bif q2
 then (some (97,true))
 else (some (wr .u8 (c+1),true)))))
def b9t (kind:Int)(x2:(List Int)×(List Int)×Int):Option (Fl ((List Int)×(List Int)×Int) (Sum ((List Int)×(List Int)) (List Int))) :=
 bif decide (0<=x2.2.2)
 then (Option.bind (idx x2.1 x2.2.2) fun _ =>
 Option.bind (x2.1[x2.2.2.toNat]?) fun e4 =>
 Option.bind (a8j kind x2.2.2 e4) fun r5 =>
 bif r5.2
 then (Option.bind (idx x2.1 x2.2.2) fun _ =>
 Option.bind (x2.1[x2.2.2.toNat]?) fun _ =>
 some (.done (.inr (x2.1.set x2.2.2.toNat r5.1))))
 else (Option.bind (idx x2.2.1 x2.2.2) fun _ =>
 Option.bind (x2.2.1[x2.2.2.toNat]?) fun e9 =>
 Option.bind (idx x2.1 x2.2.2) fun _ =>
 Option.bind (x2.1[x2.2.2.toNat]?) fun _ =>
 some (.next (x2.1.set x2.2.2.toNat e9,x2.2.1,wr .i64 (x2.2.2-1)))))
 else (some (.done (.inl (x2.1,x2.2.1))))
def b6S (kind:Int)(b:List Int):Option (List Int) :=
 Option.bind (a3j kind (b.length:Int)) fun r1 =>
 Option.bind (y2 (b9t kind) ((wr .i64 ((b.length:Int)-1)).toNat+2) (b,r1,wr .i64 ((b.length:Int)-1))) fun b12 =>
 Y5 (fun x13 =>
 Option.bind (a3j kind (wr .i64 ((x13.1.length:Int)+1))) fun r15 =>
 some r15) (fun y14 =>
 some y14) b12
def b39 (kind:Int)(used:List Key)(x2:(List (ByteArray×Bool))×Int):Option (Fl ((List (ByteArray×Bool))×Int) (List (ByteArray×Bool))) :=
 bif decide (x2.2<(used.length:Int))
 then (Option.bind (idx used x2.2) fun e3 =>
 bif e3.Kind==kind
 then (some (.next (a17 x2.1 e3.Text true,wr .i64 (x2.2+1))))
 else (some (.next (x2.1,wr .i64 (x2.2+1)))))
 else (some (.done x2.1))
def b4g (kind:Int)(b4:List (ByteArray×Bool))(x8:List Int):Option (Fl (List Int) (List Int)) :=
 bif (a0H b4 (c6X x8)).getD false
 then (Option.bind (b6S kind x8) fun r9 =>
 some (.next r9))
 else (some (.done x8))
def a5m (n:Nat)(kind:Int)(used:List Key):Option Key :=
 Option.bind (bif kind != 0
 then (some (kind != 1))
 else (some false)) fun q1 =>
 bif q1
 then (some (Key.mk 0 (⟨#[]⟩:ByteArray)))
 else (Option.bind (y2 (b39 kind used) ((used.length:Int).toNat+1) (([]:List (ByteArray×Bool)),0)) fun b4 =>
 Option.bind (a3j kind 0) fun r5 =>
 Option.bind (bif kind==0
 then (Option.bind (a3j kind 1) fun r6 =>
 some r6)
 else (some r5)) fun b7 =>
 Option.bind (y2 (b4g kind b4) n b7) fun b10 =>
 some (Key.mk kind (c6X b10)))
def a7t (a:ByteArray)(b:ByteArray):Option Int :=
 Option.bind (a4D (a.size:Int) (b.size:Int)) fun r1 =>
 bif r1 != 0
 then (some r1)
 else (Option.bind (a4N a b) fun r2 =>
 some r2)
def b4t (d:Api_Names)(t:Int)(x2:(List Key)×Int):Option (Fl ((List Key)×Int) (List Key)) :=
 bif decide (x2.2<(d.List_.length:Int))
 then (Option.bind (idx d.List_ x2.2) fun e3 =>
 Option.bind (v7 (x2.1.length+([Key.mk t e3]:List Key).length) 24) fun _ =>
 some (.next (x2.1++([Key.mk t e3]:List Key),wr .i64 (x2.2+1))))
 else (some (.done x2.1))
def b4y (b5:List Key)(x8:ByteArray×Bool×Int):Option (Fl (ByteArray×Bool×Int) (ByteArray×Bool)) :=
 bif decide (x8.2.2<(b5.length:Int))
 then (Option.bind (idx b5 x8.2.2) fun e9 =>
 Option.bind (a1a e9) fun r10 =>
 Option.bind (bif r10
 then (Option.bind (bif !x8.2.1
 then (some true)
 else (Option.bind (a7t e9.Text x8.1) fun r11 =>
 some (decide (r11<0)))) fun q12 =>
 some q12)
 else (some false)) fun q13 =>
 bif q13
 then (some (.next (e9.Text,true,wr .i64 (x8.2.2+1))))
 else (some (.next (x8.1,x8.2.1,wr .i64 (x8.2.2+1)))))
 else (some (.done (x8.1,x8.2.1)))
def a9N (n:Nat)(d:Api_Names)(t:Int):Option (ByteArray×Bool) :=
 Option.bind (bif t != 0
 then (some (t != 1))
 else (some false)) fun q1 =>
 bif q1
 then (some ((⟨#[]⟩:ByteArray),false))
 else (Option.bind (y2 (b4t d t) ((d.List_.length:Int).toNat+1) ([],0)) fun b5 =>
 bif d.Cofinite
 then (Option.bind (a5m n t b5) fun r6 =>
 Option.bind (a1a r6) fun r7 =>
 bif !r7
 then (some ((⟨#[]⟩:ByteArray),false))
 else (some (r6.Text,true)))
 else (Option.bind (y2 (b4y b5) ((b5.length:Int).toNat+1) ((⟨#[]⟩:ByteArray),false,0)) fun b14 =>
 some (b14.1,b14.2)))
def b7k (t:Api_Type)(nodes:List Int)(kind:Int)(width:Int)(x1:(List (List Int))×Int):Option (Fl ((List (List Int))×Int) (Sum (List (List Int)) ((List (List Int))×Bool))) :=
 bif decide (x1.2<(nodes.length:Int))
 then (Option.bind (idx nodes x1.2) fun e2 =>
 Option.bind (bif decide (e2<0)
 then (some true)
 else (some (decide ((t.Nodes.length:Int)<=e2)))) fun q3 =>
 Option.bind (bif q3
 then (some true)
 else (Option.bind (idx t.Nodes e2) fun e4 =>
 some (e4.Kind != kind))) fun q5 =>
 Option.bind (bif q5
 then (some true)
 else (Option.bind (idx t.Nodes e2) fun e6 =>
 some ((e6.Kids.length:Int) != width))) fun q7 =>
 bif q7
 then (some (.done (.inr ([],false))))
 else (Option.bind (idx t.Nodes e2) fun e8 =>
 Option.bind (v7 (x1.1.length+([e8.Kids]:List (List Int)).length) 24) fun _ =>
 some (.next (x1.1++([e8.Kids]:List (List Int)),wr .i64 (x1.2+1)))))
 else (some (.done (.inl x1.1)))
def a4O (t:Api_Type)(nodes:List Int)(kind:Int)(width:Int):Option ((List (List Int))×Bool) :=
 Option.bind (y2 (b7k t nodes kind width) ((nodes.length:Int).toNat+1) ([],0)) fun b10 =>
 Y5 (fun x11 =>
 some (x11,true)) (fun y12 =>
 some (y12.1,y12.2)) b10
def a5o (s:List (List Int))(f:(List Int)->Option Bool)(x1:Int):Option (Fl Int (Sum Unit Int)) :=
 bif decide (x1<(s.length:Int))
 then (Option.bind (idx s x1) fun e2 =>
 Option.bind (f e2) fun r3 =>
 bif r3
 then (some (.done (.inr x1)))
 else (some (.next (wr .i64 (x1+1)))))
 else (some (.done (.inl ())))
def a2K (s:List (List Int))(f:(List Int)->Option Bool):Option Int :=
 Option.bind (y2 (a5o s f) ((s.length:Int).toNat+1) 0) fun b4 =>
 Y5 (fun _ =>
 some (-1)) (fun y6 =>
 some y6) b4
def a13 (s:List (List Int))(f:(List Int)->Option Bool):Option Bool :=
 Option.bind (a2K s f) fun r1 =>
 some (decide (0<=r1))
def a9R (r:List Int)(a1_1:Int):Option Bool :=
 some ((r.length:Int) != a1_1)
def a4I (width:Int)(rows:List (List Int)):Option Bool :=
 Option.bind (a13 rows (fun z1 =>
 Option.bind (a9R z1 width) fun r2 =>
 some r2)) fun r3 =>
 some (!r3)
def b78 (t:List (List Int))(x1:Int×(List Api_Goal)×(List Api_Goal))(x2:Int×((List Int)×(List Int)×Bool)):Option (Fl (Int×((List Int)×(List Int)×Bool)) ((List Int)×(List Int)×Bool)) :=
 bif decide (x2.1<(t.length:Int))
 then (Option.bind (idx t x2.1) fun e3 =>
 Option.bind (idx e3 x1.1) fun e4 =>
 Option.bind (v7 (x2.2.1.length+([e4]:List Int).length) 8) fun _ =>
 some (.next (wr .i64 (x2.1+1),(x2.2.1++([e4]:List Int),x2.2.2.1,x2.2.2.2))))
 else (some (.done (x2.2.1,x2.2.2.1,x2.2.2.2)))
def b7B (a2_2:List (List Int))(a3_3:List (List Int))(a4_4:List Int)(x1:Int×(List Api_Goal)×(List Api_Goal))(x7:Int×((List Int)×(List Int)×Bool)):Option (Fl (Int×((List Int)×(List Int)×Bool)) ((List Int)×(List Int)×Bool)) :=
 bif decide (x7.1<(a2_2.length:Int))
 then (Option.bind (idx a2_2 x7.1) fun e8 =>
 Option.bind (idx a3_3 x7.1) fun e9 =>
 Option.bind (idx a4_4 x7.1) fun _ =>
 Option.bind (a4_4[x7.1.toNat]?) fun e11 =>
 Option.bind (idx e9 e11) fun e12 =>
 bif e12==x1.1
 then (Option.bind (idx e8 x1.1) fun e13 =>
 Option.bind (v7 (x7.2.2.1.length+([e13]:List Int).length) 8) fun _ =>
 some (.next (wr .i64 (x7.1+1),(x7.2.1,x7.2.2.1++([e13]:List Int),x7.2.2.2))))
 else (some (.next (wr .i64 (x7.1+1),(x7.2.1,x7.2.2.1,x7.2.2.2)))))
 else (some (.done (x7.2.1,x7.2.2.1,x7.2.2.2)))
def b7A (d:Int)(t:List (List Int))(a2_2:List (List Int))(a3_3:List (List Int))(a4_4:List Int)(x1:Int×(List Api_Goal)×(List Api_Goal)):Option (Fl (Int×(List Api_Goal)×(List Api_Goal)) (Sum ((List Api_Goal)×(List Api_Goal)) (Bool×(List Api_Goal)×Unit))) :=
 bif decide (x1.1<d)
 then (Option.bind (y2 (b78 t x1) ((t.length:Int).toNat+1) (0,([],[],false))) fun b6 =>
 Option.bind (y2 (b7B a2_2 a3_3 a4_4 x1) ((a2_2.length:Int).toNat+1) (0,(b6.1,b6.2.1,b6.2.2))) fun b15 =>
 Option.bind (a3S b15.1 b15.2.1) fun r16 =>
 bif r16
 then (some (.done (.inr (false,x1.2.2,()))))
 else (Option.bind (a08 (Api_Goal.mk b15.1 b15.2.1 b15.2.2)) fun r17 =>
 Option.bind (v7 (x1.2.2.length+([r17]:List Api_Goal).length) 56) fun _ =>
 some (.next (wr .i64 (x1.1+1),x1.2.1,x1.2.2++([r17]:List Api_Goal)))))
 else (some (.done (.inl (x1.2.1,x1.2.2))))
def a9c (d:Int)(t:List (List Int))(a2_2:List (List Int))(a3_3:List (List Int))(a4_4:List Int):Option ((List Api_Goal)×Bool) :=
 Option.bind (y2 (b7A d t a2_2 a3_3 a4_4) (d.toNat+1) (0,[],[])) fun (b19:Sum ((List Api_Goal)×(List Api_Goal)) (Bool×(List Api_Goal)×Unit)) =>
 Y5 (fun x20 =>
 some (x20.2,true)) (fun y21 =>
 some (y21.2.1,y21.1)) b19
def b3F (a0:Int)(a1:List (List Int))(a2:List (List Int))(a3:List (List Int))(a4:List Int):Option (Api_Box×Bool) :=
 Option.bind (a9c a0 a1 a2 a3 a4) fun q=>some (Api_Box.mk q.1,q.2)
def a7B (g:Api_Goal):Api_Goal:=Api_Goal.mk g.Pos g.Neg true
def a4V (b:Api_Box):Api_Box:=match b.Parts with
 | d0::d1::r=>Api_Box.mk (d0::a7B d1::r)
 | _=>b
def b4R (b:Api_Box):Bool:=Nat.ble 2 b.Parts.length
def b2R (digits:List Int)(options:List (List Int))(x11:Int×List Int):Option (Fl (Int×List Int) (Sum (Unit×List Int) (Bool×List Int))) :=
 bif decide (x11.1<(digits.length:Int))
 then (Option.bind (idx x11.2 x11.1) fun _ =>
 Option.bind (x11.2[x11.1.toNat]?) fun e13 =>
 Option.bind (idx x11.2 x11.1) fun _ =>
 Option.bind (x11.2[x11.1.toNat]?) fun _ =>
 Option.bind (idx (x11.2.set x11.1.toNat (wr .i64 (e13+1))) x11.1) fun _ =>
 Option.bind ((x11.2.set x11.1.toNat (wr .i64 (e13+1)))[x11.1.toNat]?) fun e17 =>
 Option.bind (idx options x11.1) fun e18 =>
 bif decide (e17<(e18.length:Int))
 then (some (.done (.inr (true,x11.2.set x11.1.toNat (wr .i64 (e13+1))))))
 else (Option.bind (idx (x11.2.set x11.1.toNat (wr .i64 (e13+1))) x11.1) fun _ =>
 Option.bind ((x11.2.set x11.1.toNat (wr .i64 (e13+1)))[x11.1.toNat]?) fun _ =>
 some (.next (wr .i64 (x11.1+1),(x11.2.set x11.1.toNat (wr .i64 (e13+1))).set x11.1.toNat 0))))
 else (some (.done (.inl ((),x11.2))))
def a4q (digits:List Int)(options:List (List Int)):Option (Bool×List Int) :=
 Option.bind (y2 (b2R digits options) ((digits.length:Int).toNat+1) (0,digits)) fun (b21:Sum (Unit×List Int) (Bool×List Int)) =>
 Y5 (fun x22 =>
 some (false,x22.2)) (fun y23 =>
 some (y23.1,y23.2)) b21
def b5b (a3_3:Int->Option Bool)(x7:Int×List (List Int))(e8:List Int)(x9:Int×List (List Int)):Option (Fl (Int×List (List Int)) (Unit×List (List Int))) :=
 bif decide (x9.1<(e8.length:Int))
 then (Option.bind (idx e8 x9.1) fun e10 =>
 Option.bind (a3_3 e10) fun r11 =>
 bif r11
 then (Option.bind (idx x9.2 x7.1) fun _ =>
 Option.bind (x9.2[x7.1.toNat]?) fun e13 =>
 Option.bind (v7 (e13.length+([x9.1]:List Int).length) 8) fun _ =>
 Option.bind (idx x9.2 x7.1) fun _ =>
 Option.bind (x9.2[x7.1.toNat]?) fun _ =>
 bif Nat.beq (x7.1.toNat+2) (x7.1.toNat+2)
 then (some (.next (wr .i64 (x9.1+1),x9.2.set x7.1.toNat (e13++([x9.1]:List Int)))))
 else (none))
 else (some (.next (wr .i64 (x9.1+1),x9.2))))
 else (some (.done ((),x9.2)))
def b5L (a2_2:List (List Int))(a3_3:Int->Option Bool)(x7:Int×List (List Int)):Option (Fl (Int×List (List Int)) (Sum (Unit×List (List Int)) ((List Api_Box)×List (List Int)))) :=
 bif decide (x7.1<(a2_2.length:Int))
 then (Option.bind (idx a2_2 x7.1) fun e8 =>
 Option.bind (y2 (b5b a3_3 x7 e8) ((e8.length:Int).toNat+1) (0,x7.2)) fun b17 =>
 Option.bind (idx b17.2 x7.1) fun _ =>
 Option.bind (b17.2[x7.1.toNat]?) fun e19 =>
 bif (e19.length:Int)==0
 then (some (.done (.inr ([],b17.2))))
 else (some (.next (wr .i64 (x7.1+1),b17.2))))
 else (some (.done (.inl ((),x7.2))))
def b5t (d:Int)(t:List (List Int))(a2_2:List (List Int))(x21:Unit×List (List Int))(x24:(List Int)×(List Api_Box)):Option (Fl ((List Int)×(List Api_Box)) ((List Api_Box)×(List Int))) :=
 Option.bind (b3F d t a2_2 x21.2 x24.1) fun r25 =>
 Option.bind (bif r25.2
 then (Option.bind (v7 (x24.2.length+([r25.1]:List Api_Box).length) 24) fun _ =>
 some (x24.2++([r25.1]:List Api_Box)))
 else (some x24.2)) fun b27 =>
 Option.bind (a4q x24.1 x21.2) fun r28 =>
 bif !r28.1
 then (some (.done (b27,r28.2)))
 else (some (.next (r28.2,b27)))
def b1E (n:Nat)(d:Int)(t:List (List Int))(a2_2:List (List Int))(a3_3:Int->Option Bool):Option (List Api_Box) :=
 Option.bind (bif decide (d<0)
 then (some true)
 else (some (decide (4<d)))) fun q1 =>
 Option.bind (bif q1
 then (some true)
 else (Option.bind (a4I d t) fun r2 =>
 some (!r2))) fun q3 =>
 Option.bind (bif q3
 then (some true)
 else (Option.bind (a4I d a2_2) fun r4 =>
 some (!r4))) fun q5 =>
 bif q5
 then (some ([]))
 else (Option.bind (a3P (a2_2.length:Int) (a2_2.length:Int) 24) fun m6 =>
 Option.bind (y2 (b5L a2_2 a3_3) ((a2_2.length:Int).toNat+1) (0,List.replicate m6 ([]:List Int))) fun (b20:Sum (Unit×List (List Int)) ((List Api_Box)×List (List Int))) =>
 Y5 (fun x21 =>
 Option.bind (a3P (a2_2.length:Int) (a2_2.length:Int) 8) fun m23 =>
 Option.bind (y2 (b5t d t a2_2 x21) n (List.replicate m23 (0:Int),[])) fun b29 =>
 some b29.1) (fun y22 =>
 some y22.1) b20)
def a2i (i:Int)(a1_1:Api_Type):Option Bool :=
 Option.bind (idx a1_1.Nodes i) fun e1 =>
 some (e1.Kind != 2)
def a2X (n:Nat)(d:Api_Type)(t:Api_Line):Option ((List Api_Box)×Int) :=
 Option.bind (bif t.Kind==6
 then (some (.inl (10,t.Arity)))
 else (bif t.Kind==7
 then (some (.inl (12,2)))
 else (some (.inr ([],9))))) fun b1 =>
 Y5 (fun x2 =>
 Option.bind (V3 n d) fun r4 =>
 bif r4 != 0
 then (some (([]:List Api_Box),1))
 else (Option.bind (a4O d t.Pos x2.1 x2.2) fun r5 =>
 Option.bind (a4O d t.Neg x2.1 x2.2) fun r6 =>
 Option.bind (bif !r5.2
 then (some true)
 else (some (!r6.2))) fun q7 =>
 bif q7
 then (some (([]:List Api_Box),1))
 else (Option.bind (b1E n x2.2 r5.1 r6.1 (fun z8 =>
 Option.bind (a2i z8 d) fun r9 =>
 some r9)) fun r10 =>
 bif t.Kind==7
 then (bif r10.all b4R
 then (some (r10.map a4V,0))
 else (none))
 else (some (r10,0))))) (fun y3 =>
 some (y3.1,y3.2)) b1
def b1B (i:Int)(a1_1:Api_Type):Option Bool :=
 Option.bind (bif decide (i<0)
 then (some true)
 else (some (decide ((a1_1.Nodes.length:Int)<=i)))) fun q1 =>
 Option.bind (bif q1
 then (some true)
 else (Option.bind (idx a1_1.Nodes i) fun e2 =>
 some (e2.Kind != 13))) fun q3 =>
 some q3
def a8N (t:Api_Type)(nodes:List Int):Option Bool :=
 Option.bind (K6 nodes (fun z1 =>
 Option.bind (b1B z1 t) fun r2 =>
 some r2)) fun r3 =>
 some (!r3)
def a3R (x1:(List Key)×Int)(x16:(Int×Int)×List Key):Option (Fl ((Int×Int)×List Key) (Int×List Key)) :=
 bif decide (x16.1.2<((x16.2.drop x1.2.toNat).length:Int))
 then (Option.bind (idx (x16.2.drop x1.2.toNat) x16.1.2) fun _ =>
 Option.bind (x16.2[(x1.2.toNat+x16.1.2.toNat)]?) fun e18 =>
 Option.bind (idx (x16.2.drop x1.2.toNat) (wr .i64 (x16.1.2-1))) fun _ =>
 Option.bind (x16.2[(x1.2.toNat+(wr .i64 (x16.1.2-1)).toNat)]?) fun e20 =>
 bif !(a2A e18 e20)
 then (Option.bind (idx (x16.2.drop x1.2.toNat) x16.1.2) fun _ =>
 Option.bind (x16.2[(x1.2.toNat+x16.1.2.toNat)]?) fun e22 =>
 Option.bind (idx x16.2 x16.1.1) fun _ =>
 Option.bind (x16.2[x16.1.1.toNat]?) fun _ =>
 some (.next ((wr .i64 (x16.1.1+1),wr .i64 (x16.1.2+1)),x16.2.set x16.1.1.toNat e22)))
 else (some (.next ((x16.1.1,wr .i64 (x16.1.2+1)),x16.2))))
 else (some (.done (x16.1.1,x16.2)))
def a3G (x1:(List Key)×Int):Option (Fl ((List Key)×Int) (Sum (List Key) (List Key))) :=
 bif decide (x1.2<(x1.1.length:Int))
 then (Option.bind (idx x1.1 x1.2) fun _ =>
 Option.bind (x1.1[x1.2.toNat]?) fun e3 =>
 Option.bind (idx x1.1 (wr .i64 (x1.2-1))) fun _ =>
 Option.bind (x1.1[(wr .i64 (x1.2-1)).toNat]?) fun e5 =>
 bif a2A e3 e5
 then (Option.bind (idx x1.1 x1.2) fun _ =>
 Option.bind (y2 (a3R x1) (((x1.1.drop x1.2.toNat).length:Int).toNat+1) ((x1.2,1),x1.1)) fun b25 =>
 Option.bind (idx b25.2 b25.1) fun _ =>
 bif Nat.blt b25.1.toNat b25.2.length
 then (Option.bind (cut (b25.2.take b25.1.toNat++List.replicate (b25.2.length-b25.1.toNat) (Key.mk 0 (⟨#[]⟩:ByteArray):Key)) 0 b25.1) fun y27 =>
 some (.done (.inr y27)))
 else (none))
 else (some (.next (x1.1,wr .i64 (x1.2+1)))))
 else (some (.done (.inl x1.1)))
def a1K (s:List Key):Option (List Key) :=
 bif decide ((s.length:Int)<2)
 then (some s)
 else (Option.bind (y2 a3G ((s.length:Int).toNat+1) (s,1)) fun b28 =>
 Y5 (fun x29 =>
 some x29) (fun y30 =>
 some y30) b28)
def a2e (s:List Key):Option (List Key) :=
 bif (s.length:Int)==(s.length:Int)&&(s.length:Int)==(s.length:Int)
 then (some s)
 else (none)
noncomputable def b5y (e3:Api_TypeNode)(x4:(List Key)×Int):Option (Fl ((List Key)×Int) (List Key)) :=
 bif decide (x4.2<(e3.Fields.length:Int))
 then (Option.bind (idx e3.Fields x4.2) fun e5 =>
 Option.bind (v7 (x4.1.length+([e5.Key_]:List Key).length) 24) fun _ =>
 some (.next (x4.1++([e5.Key_]:List Key),wr .i64 (x4.2+1))))
 else (some (.done x4.1))
noncomputable def b5R (t:Api_Type)(nodes:List Int)(x1:(List Key)×Int):Option (Fl ((List Key)×Int) (List Key)) :=
 bif decide (x1.2<(nodes.length:Int))
 then (Option.bind (idx nodes x1.2) fun e2 =>
 Option.bind (idx t.Nodes e2) fun e3 =>
 Option.bind (y2 (b5y e3) ((e3.Fields.length:Int).toNat+1) (x1.1,0)) fun b7 =>
 some (.next (b7,wr .i64 (x1.2+1))))
 else (some (.done x1.1))
noncomputable def b1F (t:Api_Type)(nodes:List Int):Option (List Key) :=
 Option.bind (y2 (b5R t nodes) ((nodes.length:Int).toNat+1) ([],0)) fun b8 =>
 Option.bind (b00 b8 (fun z9 z10 =>
 Option.bind (a3x z9 z10) fun r11 =>
 some r11)) fun r12 =>
 Option.bind (a1K r12.2) fun r13 =>
 Option.bind (a2e r13) fun r14 =>
 some r14
def c2t (n_0:Api_TypeNode)(k:Key)(x1:Int):Option (Fl Int (Sum Unit Int)) :=
 bif decide (x1<(n_0.Fields.length:Int))
 then (Option.bind (idx n_0.Fields x1) fun e2 =>
 bif a2A e2.Key_ k
 then (some (.done (.inr e2.Node)))
 else (some (.next (wr .i64 (x1+1)))))
 else (some (.done (.inl ())))
def b3L (n_0:Api_TypeNode)(k:Key):Option Int :=
 Option.bind (y2 (c2t n_0 k) ((n_0.Fields.length:Int).toNat+1) 0) fun b3 =>
 Y5 (fun _ =>
 bif k.Kind==0
 then (some n_0.Rest.1)
 else (bif k.Kind==1
 then (some n_0.Rest.2)
 else (none))) (fun y5 =>
 some y5) b3
def b51 (n_0:Api_TypeNode)(k:Key)(x1:Int):Option (Fl Int (Sum Unit Bool)) :=
 bif decide (x1<(n_0.Fields.length:Int))
 then (Option.bind (idx n_0.Fields x1) fun e2 =>
 bif a2A e2.Key_ k
 then (some (.done (.inr (!e2.Optional))))
 else (some (.next (wr .i64 (x1+1)))))
 else (some (.done (.inl ())))
def a6b (n_0:Api_TypeNode)(k:Key):Option Bool :=
 Option.bind (y2 (b51 n_0 k) ((n_0.Fields.length:Int).toNat+1) 0) fun b3 =>
 Y5 (fun _ =>
 some false) (fun y5 =>
 some y5) b3
def b4J (d:Api_Type)(t:Api_Line)(a3_3:Key)(x1:Int×Int×((List Int)×(List Int)×Bool)):Option (Fl (Int×Int×((List Int)×(List Int)×Bool)) (Int×((List Int)×(List Int)×Bool))) :=
 bif decide (x1.2.1<(t.Pos.length:Int))
 then (Option.bind (idx t.Pos x1.2.1) fun e2 =>
 Option.bind (idx d.Nodes e2) fun e3 =>
 Option.bind (b3L e3 a3_3) fun r4 =>
 Option.bind (v7 (x1.2.2.1.length+([r4]:List Int).length) 8) fun _ =>
 Option.bind (idx d.Nodes e2) fun e6 =>
 Option.bind (a6b e6 a3_3) fun r7 =>
 bif r7
 then (some (.next (1,wr .i64 (x1.2.1+1),(x1.2.2.1++([r4]:List Int),x1.2.2.2.1,x1.2.2.2.2))))
 else (some (.next (x1.1,wr .i64 (x1.2.1+1),(x1.2.2.1++([r4]:List Int),x1.2.2.2.1,x1.2.2.2.2)))))
 else (some (.done (x1.1,(x1.2.2.1,x1.2.2.2.1,x1.2.2.2.2))))
def b4q (d:Api_Type)(t:Api_Line)(a2_2:Int)(a3_3:Key)(a4_4:List Record_place)(x9:Int×Bool×Int×((List Int)×(List Int)×Bool)):Option (Fl (Int×Bool×Int×((List Int)×(List Int)×Bool)) (Int×Bool×((List Int)×(List Int)×Bool))) :=
 bif decide (x9.2.2.1<(a4_4.length:Int))
 then (Option.bind (idx a4_4 x9.2.2.1) fun _ =>
 Option.bind (a4_4[x9.2.2.1.toNat]?) fun e11 =>
 bif e11.key != a2_2
 then (some (.next (x9.1,x9.2.1,wr .i64 (x9.2.2.1+1),(x9.2.2.2.1,x9.2.2.2.2.1,x9.2.2.2.2.2))))
 else (bif e11.absent
 then (some (.next (x9.1,true,wr .i64 (x9.2.2.1+1),(x9.2.2.2.1,x9.2.2.2.2.1,x9.2.2.2.2.2))))
 else (Option.bind (idx t.Neg x9.2.2.1) fun e12 =>
 Option.bind (idx d.Nodes e12) fun e13 =>
 Option.bind (b3L e13 a3_3) fun r14 =>
 Option.bind (v7 (x9.2.2.2.2.1.length+([r14]:List Int).length) 8) fun _ =>
 some (.next (1,x9.2.1,wr .i64 (x9.2.2.1+1),(x9.2.2.2.1,x9.2.2.2.2.1++([r14]:List Int),x9.2.2.2.2.2))))))
 else (some (.done (x9.1,x9.2.1,(x9.2.2.2.1,x9.2.2.2.2.1,x9.2.2.2.2.2))))
def a9r (d:Api_Type)(t:Api_Line)(a2_2:Int)(a3_3:Key)(a4_4:List Record_place):Option (Int×Api_Goal×Bool) :=
 Option.bind (y2 (b4J d t a3_3) ((t.Pos.length:Int).toNat+1) (2,0,([],[],false))) fun b8 =>
 Option.bind (y2 (b4q d t a2_2 a3_3 a4_4) ((a4_4.length:Int).toNat+1) (b8.1,false,0,(b8.2.1,b8.2.2.1,b8.2.2.2))) fun b16 =>
 bif b16.2.1
 then (some (0,Api_Goal.mk ([]:List Int) ([]:List Int) false,b16.1==2))
 else (Option.bind (a08 (Api_Goal.mk b16.2.2.1 b16.2.2.2.1 b16.2.2.2.2)) fun r17 =>
 Option.bind (a3S b16.2.2.1 b16.2.2.2.1) fun r18 =>
 some (b16.1,r17,!r18))
def b6B (d:Api_Type)(t:Api_Line)(a2_2:List Key)(a3_3:List Record_place)(x2:Int×((List Key)×(List Int)×(List Api_Goal)×(List Int)×(List Int)×Bool×(List Int)×(List Int)×Bool×(List Api_SomeKey))×((List Key)×(List Int)×(List Api_Goal)×(List Int)×(List Int)×Bool×(List Int)×(List Int)×Bool×(List Api_SomeKey))):Option (Fl (Int×((List Key)×(List Int)×(List Api_Goal)×(List Int)×(List Int)×Bool×(List Int)×(List Int)×Bool×(List Api_SomeKey))×((List Key)×(List Int)×(List Api_Goal)×(List Int)×(List Int)×Bool×(List Int)×(List Int)×Bool×(List Api_SomeKey))) (Sum (((List Key)×(List Int)×(List Api_Goal)×(List Int)×(List Int)×Bool×(List Int)×(List Int)×Bool×(List Api_SomeKey))×((List Key)×(List Int)×(List Api_Goal)×(List Int)×(List Int)×Bool×(List Int)×(List Int)×Bool×(List Api_SomeKey))) (Bool×((List Key)×(List Int)×(List Api_Goal)×(List Int)×(List Int)×Bool×(List Int)×(List Int)×Bool×(List Api_SomeKey))×((List Key)×(List Int)×(List Api_Goal)×(List Int)×(List Int)×Bool×(List Int)×(List Int)×Bool×(List Api_SomeKey))))) :=
 bif decide (x2.1<(a2_2.length:Int))
 then (Option.bind (idx a2_2 x2.1) fun e3 =>
 Option.bind (a9r d t x2.1 e3 a3_3) fun r4 =>
 bif !r4.2.2
 then (some (.done (.inr (false,(x2.2.2.1,x2.2.2.2.1,x2.2.2.2.2.1,x2.2.2.2.2.2.1,x2.2.2.2.2.2.2.1,x2.2.2.2.2.2.2.2.1,x2.2.2.2.2.2.2.2.2.1,x2.2.2.2.2.2.2.2.2.2.1,x2.2.2.2.2.2.2.2.2.2.2.1,x2.2.2.2.2.2.2.2.2.2.2.2),(x2.2.2.1,x2.2.2.2.1,x2.2.2.2.2.1,x2.2.2.2.2.2.1,x2.2.2.2.2.2.2.1,x2.2.2.2.2.2.2.2.1,x2.2.2.2.2.2.2.2.2.1,x2.2.2.2.2.2.2.2.2.2.1,x2.2.2.2.2.2.2.2.2.2.2.1,x2.2.2.2.2.2.2.2.2.2.2.2)))))
 else (Option.bind (v7 (x2.2.2.2.1.length+([r4.1]:List Int).length) 8) fun _ =>
 Option.bind (v7 (x2.2.2.2.2.1.length+([r4.2.1]:List Api_Goal).length) 56) fun _ =>
 some (.next (wr .i64 (x2.1+1),(x2.2.1.1,x2.2.1.2.1,x2.2.1.2.2.1,x2.2.1.2.2.2.1,x2.2.1.2.2.2.2.1,x2.2.1.2.2.2.2.2.1,x2.2.1.2.2.2.2.2.2.1,x2.2.1.2.2.2.2.2.2.2.1,x2.2.1.2.2.2.2.2.2.2.2.1,x2.2.1.2.2.2.2.2.2.2.2.2),(x2.2.2.1,x2.2.2.2.1++([r4.1]:List Int),x2.2.2.2.2.1++([r4.2.1]:List Api_Goal),x2.2.2.2.2.2.1,x2.2.2.2.2.2.2.1,x2.2.2.2.2.2.2.2.1,x2.2.2.2.2.2.2.2.2.1,x2.2.2.2.2.2.2.2.2.2.1,x2.2.2.2.2.2.2.2.2.2.2.1,x2.2.2.2.2.2.2.2.2.2.2.2)))))
 else (some (.done (.inl ((x2.2.1.1,x2.2.1.2.1,x2.2.1.2.2.1,x2.2.1.2.2.2.1,x2.2.1.2.2.2.2.1,x2.2.1.2.2.2.2.2.1,x2.2.1.2.2.2.2.2.2.1,x2.2.1.2.2.2.2.2.2.2.1,x2.2.1.2.2.2.2.2.2.2.2.1,x2.2.1.2.2.2.2.2.2.2.2.2),(x2.2.2.1,x2.2.2.2.1,x2.2.2.2.2.1,x2.2.2.2.2.2.1,x2.2.2.2.2.2.2.1,x2.2.2.2.2.2.2.2.1,x2.2.2.2.2.2.2.2.2.1,x2.2.2.2.2.2.2.2.2.2.1,x2.2.2.2.2.2.2.2.2.2.2.1,x2.2.2.2.2.2.2.2.2.2.2.2)))))
def b6t (d:Api_Type)(t:Api_Line)(x10:Int×((List Key)×(List Int)×(List Api_Goal)×(List Int)×(List Int)×Bool×(List Int)×(List Int)×Bool×(List Api_SomeKey))):Option (Fl (Int×((List Key)×(List Int)×(List Api_Goal)×(List Int)×(List Int)×Bool×(List Int)×(List Int)×Bool×(List Api_SomeKey))) ((List Key)×(List Int)×(List Api_Goal)×(List Int)×(List Int)×Bool×(List Int)×(List Int)×Bool×(List Api_SomeKey))) :=
 bif decide (x10.1<(t.Pos.length:Int))
 then (Option.bind (idx t.Pos x10.1) fun e11 =>
 Option.bind (idx d.Nodes e11) fun e12 =>
 Option.bind (v7 (x10.2.2.2.2.1.length+([e12.Rest.1]:List Int).length) 8) fun _ =>
 Option.bind (idx d.Nodes e11) fun e14 =>
 Option.bind (v7 (x10.2.2.2.2.2.2.2.1.length+([e14.Rest.2]:List Int).length) 8) fun _ =>
 some (.next (wr .i64 (x10.1+1),(x10.2.1,x10.2.2.1,x10.2.2.2.1,x10.2.2.2.2.1++([e12.Rest.1]:List Int),x10.2.2.2.2.2.1,x10.2.2.2.2.2.2.1,x10.2.2.2.2.2.2.2.1++([e14.Rest.2]:List Int),x10.2.2.2.2.2.2.2.2.1,x10.2.2.2.2.2.2.2.2.2.1,x10.2.2.2.2.2.2.2.2.2.2))))
 else (some (.done (x10.2.1,x10.2.2.1,x10.2.2.2.1,x10.2.2.2.2.1,x10.2.2.2.2.2.1,x10.2.2.2.2.2.2.1,x10.2.2.2.2.2.2.2.1,x10.2.2.2.2.2.2.2.2.1,x10.2.2.2.2.2.2.2.2.2.1,x10.2.2.2.2.2.2.2.2.2.2)))
def b62 (d:Api_Type)(t:Api_Line)(a3_3:List Record_place)(x19:Int×Api_Shape×((List Key)×(List Int)×(List Api_Goal)×(List Int)×(List Int)×Bool×(List Int)×(List Int)×Bool×(List Api_SomeKey))):Option (Fl (Int×Api_Shape×((List Key)×(List Int)×(List Api_Goal)×(List Int)×(List Int)×Bool×(List Int)×(List Int)×Bool×(List Api_SomeKey))) (Sum (Api_Shape×((List Key)×(List Int)×(List Api_Goal)×(List Int)×(List Int)×Bool×(List Int)×(List Int)×Bool×(List Api_SomeKey))) (Bool×Api_Shape×((List Key)×(List Int)×(List Api_Goal)×(List Int)×(List Int)×Bool×(List Int)×(List Int)×Bool×(List Api_SomeKey))))) :=
 bif decide (x19.1<(a3_3.length:Int))
 then (Option.bind (idx a3_3 x19.1) fun _ =>
 Option.bind (a3_3[x19.1.toNat]?) fun e21 =>
 bif decide (0<=e21.key)
 then (some (.next (wr .i64 (x19.1+1),x19.2.1,(x19.2.2.1,x19.2.2.2.1,x19.2.2.2.2.1,x19.2.2.2.2.2.1,x19.2.2.2.2.2.2.1,x19.2.2.2.2.2.2.2.1,x19.2.2.2.2.2.2.2.2.1,x19.2.2.2.2.2.2.2.2.2.1,x19.2.2.2.2.2.2.2.2.2.2.1,x19.2.2.2.2.2.2.2.2.2.2.2))))
 else (Option.bind (Option.bind (idx t.Neg x19.1) fun e22 =>
 Option.bind (idx d.Nodes e22) fun e23 =>
 bif e21.kind==0
 then (some e23.Rest.1)
 else (bif e21.kind==1
 then (some e23.Rest.2)
 else (none))) fun b24 =>
 Option.bind (bif e21.kind==0
 then (Option.bind (a0s x19.2.2.2.2.2.1 b24) fun r25 =>
 some r25)
 else (bif e21.kind==1
 then (Option.bind (a0s x19.2.2.2.2.2.2.2.2.1 b24) fun r26 =>
 some r26)
 else (none))) fun b27 =>
 bif b27
 then (some (.done (.inr (false,Api_Shape.mk x19.2.2.1 x19.2.2.2.1 x19.2.2.2.2.1 (Api_Goal.mk x19.2.2.2.2.2.1 x19.2.2.2.2.2.2.1 x19.2.2.2.2.2.2.2.1,Api_Goal.mk x19.2.2.2.2.2.2.2.2.1 x19.2.2.2.2.2.2.2.2.2.1 x19.2.2.2.2.2.2.2.2.2.2.1) x19.2.2.2.2.2.2.2.2.2.2.2,(x19.2.2.1,x19.2.2.2.1,x19.2.2.2.2.1,x19.2.2.2.2.2.1,x19.2.2.2.2.2.2.1,x19.2.2.2.2.2.2.2.1,x19.2.2.2.2.2.2.2.2.1,x19.2.2.2.2.2.2.2.2.2.1,x19.2.2.2.2.2.2.2.2.2.2.1,x19.2.2.2.2.2.2.2.2.2.2.2)))))
 else (Option.bind (v7 (x19.2.2.2.2.2.2.2.2.2.2.2.length+([Api_SomeKey.mk e21.kind (Api_Goal.mk ([]:List Int) ([b24]:List Int) false)]:List Api_SomeKey).length) 64) fun _ =>
 some (.next (wr .i64 (x19.1+1),x19.2.1,(x19.2.2.1,x19.2.2.2.1,x19.2.2.2.2.1,x19.2.2.2.2.2.1,x19.2.2.2.2.2.2.1,x19.2.2.2.2.2.2.2.1,x19.2.2.2.2.2.2.2.2.1,x19.2.2.2.2.2.2.2.2.2.1,x19.2.2.2.2.2.2.2.2.2.2.1,x19.2.2.2.2.2.2.2.2.2.2.2++([Api_SomeKey.mk e21.kind (Api_Goal.mk ([]:List Int) ([b24]:List Int) false)]:List Api_SomeKey)))))))
 else (some (.done (.inl (x19.2.1,(x19.2.2.1,x19.2.2.2.1,x19.2.2.2.2.1,x19.2.2.2.2.2.1,x19.2.2.2.2.2.2.1,x19.2.2.2.2.2.2.2.1,x19.2.2.2.2.2.2.2.2.1,x19.2.2.2.2.2.2.2.2.2.1,x19.2.2.2.2.2.2.2.2.2.2.1,x19.2.2.2.2.2.2.2.2.2.2.2)))))
def b2N (d:Api_Type)(t:Api_Line)(a2_2:List Key)(a3_3:List Record_place):Option (Api_Shape×Bool) :=
 Option.bind (Q4 24 a2_2) fun r1 =>
 Option.bind (y2 (b6B d t a2_2 a3_3) ((a2_2.length:Int).toNat+1) (0,(([]:List Key),([]:List Int),([]:List Api_Goal),([]:List Int),([]:List Int),false,([]:List Int),([]:List Int),false,([]:List Api_SomeKey)),(r1,[],[],[],[],false,[],[],false,[]))) fun (b7:Sum (((List Key)×(List Int)×(List Api_Goal)×(List Int)×(List Int)×Bool×(List Int)×(List Int)×Bool×(List Api_SomeKey))×((List Key)×(List Int)×(List Api_Goal)×(List Int)×(List Int)×Bool×(List Int)×(List Int)×Bool×(List Api_SomeKey))) (Bool×((List Key)×(List Int)×(List Api_Goal)×(List Int)×(List Int)×Bool×(List Int)×(List Int)×Bool×(List Api_SomeKey))×((List Key)×(List Int)×(List Api_Goal)×(List Int)×(List Int)×Bool×(List Int)×(List Int)×Bool×(List Api_SomeKey)))) =>
 Y5 (fun x8 =>
 Option.bind (y2 (b6t d t) ((t.Pos.length:Int).toNat+1) (0,(x8.2.1,x8.2.2.1,x8.2.2.2.1,x8.2.2.2.2.1,x8.2.2.2.2.2.1,x8.2.2.2.2.2.2.1,x8.2.2.2.2.2.2.2.1,x8.2.2.2.2.2.2.2.2.1,x8.2.2.2.2.2.2.2.2.2.1,x8.2.2.2.2.2.2.2.2.2.2))) fun b16 =>
 Option.bind (a08 (Api_Goal.mk b16.2.2.2.1 b16.2.2.2.2.1 b16.2.2.2.2.2.1)) fun r17 =>
 Option.bind (a08 (Api_Goal.mk b16.2.2.2.2.2.2.1 b16.2.2.2.2.2.2.2.1 b16.2.2.2.2.2.2.2.2.1)) fun r18 =>
 Option.bind (y2 (b62 d t a3_3) ((a3_3.length:Int).toNat+1) (0,Api_Shape.mk x8.1.1 x8.1.2.1 x8.1.2.2.1 (Api_Goal.mk x8.1.2.2.2.1 x8.1.2.2.2.2.1 x8.1.2.2.2.2.2.1,Api_Goal.mk x8.1.2.2.2.2.2.2.1 x8.1.2.2.2.2.2.2.2.1 x8.1.2.2.2.2.2.2.2.2.1) x8.1.2.2.2.2.2.2.2.2.2,(b16.1,b16.2.1,b16.2.2.1,r17.Pos,r17.Neg,r17.Lists,r18.Pos,r18.Neg,r18.Lists,b16.2.2.2.2.2.2.2.2.2))) fun (b29:Sum (Api_Shape×((List Key)×(List Int)×(List Api_Goal)×(List Int)×(List Int)×Bool×(List Int)×(List Int)×Bool×(List Api_SomeKey))) (Bool×Api_Shape×((List Key)×(List Int)×(List Api_Goal)×(List Int)×(List Int)×Bool×(List Int)×(List Int)×Bool×(List Api_SomeKey)))) =>
 Y5 (fun x30 =>
 some (Api_Shape.mk x30.2.1 x30.2.2.1 x30.2.2.2.1 (Api_Goal.mk x30.2.2.2.2.1 x30.2.2.2.2.2.1 x30.2.2.2.2.2.2.1,Api_Goal.mk x30.2.2.2.2.2.2.2.1 x30.2.2.2.2.2.2.2.2.1 x30.2.2.2.2.2.2.2.2.2.1) x30.2.2.2.2.2.2.2.2.2.2,true)) (fun y31 =>
 some (y31.2.1,y31.1)) b29) (fun y9 =>
 some (Api_Shape.mk y9.2.1.1 y9.2.1.2.1 y9.2.1.2.2.1 (Api_Goal.mk y9.2.1.2.2.2.1 y9.2.1.2.2.2.2.1 y9.2.1.2.2.2.2.2.1,Api_Goal.mk y9.2.1.2.2.2.2.2.2.1 y9.2.1.2.2.2.2.2.2.2.1 y9.2.1.2.2.2.2.2.2.2.2.1) y9.2.1.2.2.2.2.2.2.2.2.2,y9.1)) b7
def a4v (i:Int)(a1_1:Api_Type):Option Bool :=
 Option.bind (idx a1_1.Nodes i) fun e1 =>
 some (e1.Kind==2)
def b6c (t:Api_Type)(n_1:Api_TypeNode)(keys:List Key)(x1:(List Record_place)×Int):Option (Fl ((List Record_place)×Int) (List Record_place)) :=
 bif decide (x1.2<(keys.length:Int))
 then (Option.bind (idx keys x1.2) fun e2 =>
 Option.bind (b3L n_1 e2) fun r3 =>
 Option.bind (a4v r3 t) fun r4 =>
 Option.bind (bif !r4
 then (Option.bind (v7 (x1.1.length+([Record_place.mk x1.2 false 0]:List Record_place).length) 24) fun _ =>
 some (x1.1++([Record_place.mk x1.2 false 0]:List Record_place)))
 else (some x1.1)) fun b6 =>
 Option.bind (a6b n_1 e2) fun r7 =>
 bif r7
 then (Option.bind (v7 (b6.length+([Record_place.mk x1.2 true 0]:List Record_place).length) 24) fun _ =>
 some (.next (b6++([Record_place.mk x1.2 true 0]:List Record_place),wr .i64 (x1.2+1))))
 else (some (.next (b6,wr .i64 (x1.2+1)))))
 else (some (.done x1.1))
def b5C (t:Api_Type)(n_1:Api_TypeNode)(x10:(List Record_place)×Int):Option (Fl ((List Record_place)×Int) (List Record_place)) :=
 bif decide (x10.2<2)
 then (Option.bind (bif x10.2==0
 then (some (x10.2,n_1.Rest.1))
 else (bif x10.2==1
 then (some (x10.2,n_1.Rest.2))
 else (none))) fun b11 =>
 Option.bind (a4v b11.2 t) fun r12 =>
 bif !r12
 then (Option.bind (v7 (x10.1.length+([Record_place.mk (-1) false b11.1]:List Record_place).length) 24) fun _ =>
 some (.next (x10.1++([Record_place.mk (-1) false b11.1]:List Record_place),wr .i64 (x10.2+1))))
 else (some (.next (x10.1,wr .i64 (x10.2+1)))))
 else (some (.done x10.1))
def b1C (t:Api_Type)(n_1:Api_TypeNode)(keys:List Key):Option (List Record_place) :=
 Option.bind (y2 (b6c t n_1 keys) ((keys.length:Int).toNat+1) ([],0)) fun b9 =>
 Option.bind (y2 (b5C t n_1) ((2:Int).toNat+1) (b9,0)) fun b14 =>
 some b14
def b3m (k:Int)(a1_1:Api_Line)(a2_2:Api_Type)(a3_3:List Key)(r6:List Record_place)(rec_record_Shapes_1:Int->Api_Line->Api_Type->(List Key)->(List Record_place)->(List Api_Shape)->Unit->Option ((List Record_place)×(List Api_Shape)))(x7:(List Record_place)×Int×(List Record_place)×(List Api_Shape)):Option (Fl ((List Record_place)×Int×(List Record_place)×(List Api_Shape)) ((List Record_place)×(List Record_place)×(List Api_Shape))) :=
 bif decide (x7.2.1<(r6.length:Int))
 then (Option.bind (idx x7.1 x7.2.1) fun _ =>
 Option.bind (x7.1[x7.2.1.toNat]?) fun e9 =>
 Option.bind (idx x7.2.2.1 k) fun _ =>
 Option.bind (x7.2.2.1[k.toNat]?) fun _ =>
 Option.bind (rec_record_Shapes_1 (wr .i64 (k+1)) a1_1 a2_2 a3_3 (x7.2.2.1.set k.toNat e9) x7.2.2.2 ()) fun r12 =>
 some (.next (x7.1,wr .i64 (x7.2.1+1),r12.1,r12.2)))
 else (some (.done (x7.1,x7.2.2.1,x7.2.2.2)))
def b4E (_:Nat)(rec_record_Shapes_1:Int->Api_Line->Api_Type->(List Key)->(List Record_place)->(List Api_Shape)->Unit->Option ((List Record_place)×(List Api_Shape)))(k:Int)(a1_1:Api_Line)(a2_2:Api_Type)(a3_3:List Key)(a4_4:List Record_place)(a5_5:List Api_Shape)(_:Unit):Option ((List Record_place)×(List Api_Shape)) :=
 bif k==(a1_1.Neg.length:Int)
 then (Option.bind (b2N a2_2 a1_1 a3_3 a4_4) fun r1 =>
 Option.bind (bif r1.2
 then (Option.bind (v7 (a5_5.length+([r1.1]:List Api_Shape).length) 208) fun _ =>
 some (a5_5++([r1.1]:List Api_Shape)))
 else (some a5_5)) fun b3 =>
 some (a4_4,b3))
 else (Option.bind (idx a1_1.Neg k) fun e4 =>
 Option.bind (idx a2_2.Nodes e4) fun e5 =>
 Option.bind (b1C a2_2 e5 a3_3) fun r6 =>
 Option.bind (y2 (b3m k a1_1 a2_2 a3_3 r6 rec_record_Shapes_1) ((r6.length:Int).toNat+1) (r6,0,a4_4,a5_5)) fun b13 =>
 some (b13.2.1,b13.2.2))
def a4K:Nat->Int->Api_Line->Api_Type->(List Key)->(List Record_place)->(List Api_Shape)->Unit->Option ((List Record_place)×(List Api_Shape))
 | 0=>fun _ _ _ _ _ _ _=>none
 | n+1=>b4E n (a4K n)
noncomputable def b1x (n:Nat)(t:Api_Type)(l:Api_Line):Option ((List Api_Shape)×Int) :=
 bif l.Kind != 8
 then (some ([],9))
 else (Option.bind (V3 n t) fun r1 =>
 Option.bind (bif r1 != 0
 then (some true)
 else (Option.bind (a8N t l.Pos) fun r2 =>
 some (!r2))) fun q3 =>
 Option.bind (bif q3
 then (some true)
 else (Option.bind (a8N t l.Neg) fun r4 =>
 some (!r4))) fun q5 =>
 bif q5
 then (some ([],1))
 else (Option.bind (Q4 8 l.Pos) fun r6 =>
 Option.bind (v7 (r6.length+l.Neg.length) 8) fun _ =>
 Option.bind (b1F t (r6++l.Neg)) fun r8 =>
 Option.bind (a3P (l.Neg.length:Int) (l.Neg.length:Int) 24) fun m9 =>
 Option.bind (a4K n 0 l t r8 (List.replicate m9 (Record_place.mk 0 false 0:Record_place)) ([]) ()) fun r10 =>
 some (r10.2,0)))
noncomputable def b70 (e3:Api_Shape)(x4:Int×(Int×Int×ByteArray×(List Val)×(List Key)×(List Ent)×(List ByteArray)×(List Key)×(List Api_Form)×(List Api_Goal))):Option (Fl (Int×(Int×Int×ByteArray×(List Val)×(List Key)×(List Ent)×(List ByteArray)×(List Key)×(List Api_Form)×(List Api_Goal))) (Int×Int×ByteArray×(List Val)×(List Key)×(List Ent)×(List ByteArray)×(List Key)×(List Api_Form)×(List Api_Goal))) :=
 bif decide (x4.1<(e3.Keys.length:Int))
 then (Option.bind (idx e3.Keys x4.1) fun e5 =>
 Option.bind (idx e3.States x4.1) fun e6 =>
 bif e6==1
 then (Option.bind (v7 (x4.2.2.2.2.2.2.2.2.1.length+([e5]:List Key).length) 24) fun _ =>
 Option.bind (idx e3.Parts x4.1) fun e8 =>
 Option.bind (v7 (x4.2.2.2.2.2.2.2.2.2.2.length+([e8]:List Api_Goal).length) 56) fun _ =>
 some (.next (wr .i64 (x4.1+1),(x4.2.1,x4.2.2.1,x4.2.2.2.1,x4.2.2.2.2.1,x4.2.2.2.2.2.1,x4.2.2.2.2.2.2.1,x4.2.2.2.2.2.2.2.1,x4.2.2.2.2.2.2.2.2.1++([e5]:List Key),x4.2.2.2.2.2.2.2.2.2.1,x4.2.2.2.2.2.2.2.2.2.2++([e8]:List Api_Goal)))))
 else (some (.next (wr .i64 (x4.1+1),(x4.2.1,x4.2.2.1,x4.2.2.2.1,x4.2.2.2.2.1,x4.2.2.2.2.2.1,x4.2.2.2.2.2.2.1,x4.2.2.2.2.2.2.2.1,x4.2.2.2.2.2.2.2.2.1,x4.2.2.2.2.2.2.2.2.2.1,x4.2.2.2.2.2.2.2.2.2.2)))))
 else (some (.done (x4.2.1,x4.2.2.1,x4.2.2.2.1,x4.2.2.2.2.1,x4.2.2.2.2.2.1,x4.2.2.2.2.2.2.1,x4.2.2.2.2.2.2.2.1,x4.2.2.2.2.2.2.2.2.1,x4.2.2.2.2.2.2.2.2.2.1,x4.2.2.2.2.2.2.2.2.2.2)))
noncomputable def b7J (n:Nat)(e3:Api_Shape)(x12:(List Key)×Int×(Int×Int×ByteArray×(List Val)×(List Key)×(List Ent)×(List ByteArray)×(List Key)×(List Api_Form)×(List Api_Goal))):Option (Fl ((List Key)×Int×(Int×Int×ByteArray×(List Val)×(List Key)×(List Ent)×(List ByteArray)×(List Key)×(List Api_Form)×(List Api_Goal))) (Int×Int×ByteArray×(List Val)×(List Key)×(List Ent)×(List ByteArray)×(List Key)×(List Api_Form)×(List Api_Goal))) :=
 bif decide (x12.2.1<(e3.Some.length:Int))
 then (Option.bind (idx e3.Some x12.2.1) fun e13 =>
 Option.bind (a5m n e13.Kind x12.1) fun r14 =>
 Option.bind (v7 (x12.1.length+([r14]:List Key).length) 24) fun _ =>
 Option.bind (Option.bind (Q4 8 e13.Goal.Pos) fun r16 =>
 bif r14.Kind==0
 then (Option.bind (v7 (r16.length+e3.Rest.1.Pos.length) 8) fun _ =>
 Option.bind (Q4 8 e13.Goal.Neg) fun r18 =>
 bif r14.Kind==0
 then (Option.bind (v7 (r18.length+e3.Rest.1.Neg.length) 8) fun _ =>
 some (Api_Goal.mk (r16++e3.Rest.1.Pos) (r18++e3.Rest.1.Neg) false))
 else (bif r14.Kind==1
 then (Option.bind (v7 (r18.length+e3.Rest.2.Neg.length) 8) fun _ =>
 some (Api_Goal.mk (r16++e3.Rest.1.Pos) (r18++e3.Rest.2.Neg) false))
 else (none)))
 else (bif r14.Kind==1
 then (Option.bind (v7 (r16.length+e3.Rest.2.Pos.length) 8) fun _ =>
 Option.bind (Q4 8 e13.Goal.Neg) fun r22 =>
 bif r14.Kind==0
 then (Option.bind (v7 (r22.length+e3.Rest.1.Neg.length) 8) fun _ =>
 some (Api_Goal.mk (r16++e3.Rest.2.Pos) (r22++e3.Rest.1.Neg) false))
 else (bif r14.Kind==1
 then (Option.bind (v7 (r22.length+e3.Rest.2.Neg.length) 8) fun _ =>
 some (Api_Goal.mk (r16++e3.Rest.2.Pos) (r22++e3.Rest.2.Neg) false))
 else (none)))
 else (none))) fun b25 =>
 Option.bind (v7 (x12.2.2.2.2.2.2.2.2.2.1.length+([r14]:List Key).length) 24) fun _ =>
 Option.bind (a08 b25) fun r27 =>
 Option.bind (v7 (x12.2.2.2.2.2.2.2.2.2.2.2.length+([r27]:List Api_Goal).length) 56) fun _ =>
 some (.next (x12.1++([r14]:List Key),wr .i64 (x12.2.1+1),(x12.2.2.1,x12.2.2.2.1,x12.2.2.2.2.1,x12.2.2.2.2.2.1,x12.2.2.2.2.2.2.1,x12.2.2.2.2.2.2.2.1,x12.2.2.2.2.2.2.2.2.1,x12.2.2.2.2.2.2.2.2.2.1++([r14]:List Key),x12.2.2.2.2.2.2.2.2.2.2.1,x12.2.2.2.2.2.2.2.2.2.2.2++([r27]:List Api_Goal)))))
 else (some (.done (x12.2.2.1,x12.2.2.2.1,x12.2.2.2.2.1,x12.2.2.2.2.2.1,x12.2.2.2.2.2.2.1,x12.2.2.2.2.2.2.2.1,x12.2.2.2.2.2.2.2.2.1,x12.2.2.2.2.2.2.2.2.2.1,x12.2.2.2.2.2.2.2.2.2.2.1,x12.2.2.2.2.2.2.2.2.2.2.2)))
noncomputable def b7G (n:Nat)(r1:(List Api_Shape)×Int)(x2:(List Api_Alternative)×Int):Option (Fl ((List Api_Alternative)×Int) (List Api_Alternative)) :=
 bif decide (x2.2<(r1.1.length:Int))
 then (Option.bind (idx r1.1 x2.2) fun e3 =>
 Option.bind (y2 (b70 e3) ((e3.Keys.length:Int).toNat+1) (0,(0,0,(⟨#[]⟩:ByteArray),[],[],[],[],[],[],[]))) fun b10 =>
 Option.bind (Q4 24 e3.Keys) fun r11 =>
 Option.bind (y2 (b7J n e3) ((e3.Some.length:Int).toNat+1) (r11,0,(b10.1,b10.2.1,b10.2.2.1,b10.2.2.2.1,b10.2.2.2.2.1,b10.2.2.2.2.2.1,b10.2.2.2.2.2.2.1,b10.2.2.2.2.2.2.2.1,b10.2.2.2.2.2.2.2.2.1,b10.2.2.2.2.2.2.2.2.2))) fun b29 =>
 Option.bind (v7 (x2.1.length+([Api_Alternative.mk (Val.mk b29.1 b29.2.1 b29.2.2.1 b29.2.2.2.1 b29.2.2.2.2.1 b29.2.2.2.2.2.1 b29.2.2.2.2.2.2.1) b29.2.2.2.2.2.2.2.1 b29.2.2.2.2.2.2.2.2.1 b29.2.2.2.2.2.2.2.2.2]:List Api_Alternative).length) 200) fun _ =>
 some (.next (x2.1++([Api_Alternative.mk (Val.mk b29.1 b29.2.1 b29.2.2.1 b29.2.2.2.1 b29.2.2.2.2.1 b29.2.2.2.2.2.1 b29.2.2.2.2.2.2.1) b29.2.2.2.2.2.2.2.1 b29.2.2.2.2.2.2.2.2.1 b29.2.2.2.2.2.2.2.2.2]:List Api_Alternative),wr .i64 (x2.2+1))))
 else (some (.done x2.1))
noncomputable def b4W (n:Nat)(d:Api_Type)(t:Api_Line):Option (List Api_Alternative) :=
 Option.bind (b1x n d t) fun r1 =>
 Option.bind (y2 (b7G n r1) ((r1.1.length:Int).toNat+1) ([],0)) fun b31 =>
 some b31
noncomputable def b8i (r6:(List Api_Box)×Int)(x7:(List Api_Alternative)×Int):Option (Fl ((List Api_Alternative)×Int) (List Api_Alternative)) :=
 bif decide (x7.2<(r6.1.length:Int))
 then (Option.bind (idx r6.1 x7.2) fun e8 =>
 Option.bind (v7 (x7.1.length+([Api_Alternative.mk (Val.mk 0 0 (⟨#[]⟩:ByteArray) ([]:List Val) ([]:List Key) ([]:List Ent) ([]:List ByteArray)) ([]:List Key) ([]:List Api_Form) e8.Parts]:List Api_Alternative).length) 200) fun _ =>
 some (.next (x7.1++([Api_Alternative.mk (Val.mk 0 0 (⟨#[]⟩:ByteArray) ([]:List Val) ([]:List Key) ([]:List Ent) ([]:List ByteArray)) ([]:List Key) ([]:List Api_Form) e8.Parts]:List Api_Alternative),wr .i64 (x7.2+1))))
 else (some (.done x7.1))
noncomputable def b4V (n:Nat)(d:Api_Type)(t:Api_Line):Option (List Api_Alternative) :=
 bif t.Kind==1
 then (Option.bind (a9C t.Ints) fun r1 =>
 some ([Api_Alternative.mk (Val.mk 0 r1.1 (⟨#[]⟩:ByteArray) ([]:List Val) ([]:List Key) ([]:List Ent) ([]:List ByteArray)) ([]:List Key) ([]:List Api_Form) ([]:List Api_Goal)]:List Api_Alternative))
 else (Option.bind (bif t.Kind==2
 then (some (t.Kind==2))
 else (some (t.Kind==3))) fun b2 =>
 bif b2
 then (Option.bind (bif t.Kind==3
 then (some 0)
 else (some 1)) fun (b3:Int) =>
 Option.bind (a9N n t.Names b3) fun r4 =>
 bif !r4.2
 then (some ([]))
 else (some ([Api_Alternative.mk (Val.mk 0 0 r4.1 ([]:List Val) ([]:List Key) ([]:List Ent) ([]:List ByteArray)) ([]:List Key) ([]:List Api_Form) ([]:List Api_Goal)]:List Api_Alternative)))
 else (Option.bind (bif t.Kind==6
 then (some (t.Kind==6))
 else (some (t.Kind==7))) fun b5 =>
 bif b5
 then (Option.bind (a2X n d t) fun r6 =>
 Option.bind (y2 (b8i r6) ((r6.1.length:Int).toNat+1) ([],0)) fun b10 =>
 some b10)
 else (bif t.Kind==8
 then (Option.bind (b4W n d t) fun r11 =>
 some r11)
 else (bif t.Kind==9
 then (none)
 else (some ([Api_Alternative.mk (Val.mk 0 0 (⟨#[]⟩:ByteArray) ([]:List Val) ([]:List Key) ([]:List Ent) ([]:List ByteArray)) ([]:List Key) ([]:List Api_Form) ([]:List Api_Goal)]:List Api_Alternative))))))
noncomputable def b73 (l:Api_Line)(r1:List Api_Alternative)(x2:(List Api_Alternative)×Int):Option (Fl ((List Api_Alternative)×Int) (List Api_Alternative)) :=
 bif decide (x2.2<(r1.length:Int))
 then (Option.bind (idx r1 x2.2) fun e3 =>
 Option.bind (Q4 16 l.Vars) fun r4 =>
 Option.bind (v7 (x2.1.length+([Api_Alternative.mk (Val.mk l.Kind e3.Leaf.Int_ e3.Leaf.Text e3.Leaf.Kids e3.Leaf.Keys e3.Leaf.Entries r4) e3.Keys e3.Forms e3.Subgoals]:List Api_Alternative).length) 200) fun _ =>
 some (.next (x2.1++([Api_Alternative.mk (Val.mk l.Kind e3.Leaf.Int_ e3.Leaf.Text e3.Leaf.Kids e3.Leaf.Keys e3.Leaf.Entries r4) e3.Keys e3.Forms e3.Subgoals]:List Api_Alternative),wr .i64 (x2.2+1))))
 else (some (.done x2.1))
noncomputable def b4Q (n:Nat)(t:Api_Type)(l:Api_Line):Option (List Api_Alternative) :=
 Option.bind (b4V n t l) fun r1 =>
 Option.bind (y2 (b73 l r1) ((r1.length:Int).toNat+1) ([],0)) fun b6 =>
 some b6
noncomputable def b9i (r4:List Api_Alternative)(x5:(List Solve_Way)×Int):Option (Fl ((List Solve_Way)×Int) (List Solve_Way)) :=
 bif decide (x5.2<(r4.length:Int))
 then (Option.bind (idx r4 x5.2) fun e6 =>
 Option.bind (v7 (x5.1.length+([Solve_Way.mk e6 ([]:List (List Api_EntryForm))]:List Solve_Way).length) 224) fun _ =>
 some (.next (x5.1++([Solve_Way.mk e6 ([]:List (List Api_EntryForm))]:List Solve_Way),wr .i64 (x5.2+1))))
 else (some (.done x5.1))
noncomputable def b8W (e3:Api_Line)(x10:Int):Option (Fl Int Unit) :=
 bif decide (x10<(e3.Neg.length:Int))
 then (Option.bind (idx e3.Neg x10) fun _ =>
 none)
 else (some (.done ()))
noncomputable def b89 (d:Api_Type)(n:Nat)(r1:List Api_Line)(x2:(List Solve_Way)×Int):Option (Fl ((List Solve_Way)×Int) (List Solve_Way)) :=
 bif decide (x2.2<(r1.length:Int))
 then (Option.bind (idx r1 x2.2) fun e3 =>
 bif e3.Kind != 9
 then (Option.bind (b4Q n d e3) fun r4 =>
 Option.bind (y2 (b9i r4) ((r4.length:Int).toNat+1) (x2.1,0)) fun b8 =>
 some (.next (b8,wr .i64 (x2.2+1))))
 else (Option.bind (Q4 16 e3.Vars) fun r9 =>
 Option.bind (y2 (b8W e3) ((e3.Neg.length:Int).toNat+1) 0) fun _ =>
 Option.bind (v7 (x2.1.length+([Solve_Way.mk (Api_Alternative.mk (Val.mk 9 e3.Arity (⟨#[]⟩:ByteArray) ([]:List Val) ([]:List Key) ([]:List Ent) r9) ([]:List Key) ([]:List Api_Form) ([]:List Api_Goal)) ([]:List (List Api_EntryForm))]:List Solve_Way).length) 224) fun _ =>
 some (.next (x2.1++([Solve_Way.mk (Api_Alternative.mk (Val.mk 9 e3.Arity (⟨#[]⟩:ByteArray) ([]:List Val) ([]:List Key) ([]:List Ent) r9) ([]:List Key) ([]:List Api_Form) ([]:List Api_Goal)) ([]:List (List Api_EntryForm))]:List Solve_Way),wr .i64 (x2.2+1)))))
 else (some (.done x2.1))
noncomputable def b6p (n:Nat)(d:Api_Type)(t:Api_Goal):Option (List Solve_Way) :=
 Option.bind (b4S n d t) fun r1 =>
 Option.bind (y2 (b89 d n r1) ((r1.length:Int).toNat+1) ([],0)) fun b14 =>
 some b14
def a8Y (f:Api_EntryForm):Option (List Api_Goal) :=
 bif f.Fails
 then (some f.Args)
 else (Option.bind (Q4 56 f.Args) fun r1 =>
 Option.bind (v7 (r1.length+([f.Result]:List Api_Goal).length) 56) fun _ =>
 some (r1++([f.Result]:List Api_Goal)))
def b4k (e3:List Api_EntryForm)(x4:(List Api_Goal)×Int):Option (Fl ((List Api_Goal)×Int) (List Api_Goal)) :=
 bif decide (x4.2<(e3.length:Int))
 then (Option.bind (idx e3 x4.2) fun e5 =>
 Option.bind (a8Y e5) fun r6 =>
 Option.bind (v7 (x4.1.length+r6.length) 56) fun _ =>
 some (.next (x4.1++r6,wr .i64 (x4.2+1))))
 else (some (.done x4.1))
def b36 (w:Solve_Way)(x2:(List Api_Goal)×Int):Option (Fl ((List Api_Goal)×Int) (List Api_Goal)) :=
 bif decide (x2.2<(w.Entries.length:Int))
 then (Option.bind (idx w.Entries x2.2) fun e3 =>
 Option.bind (y2 (b4k e3) ((e3.length:Int).toNat+1) (x2.1,0)) fun b8 =>
 some (.next (b8,wr .i64 (x2.2+1))))
 else (some (.done x2.1))
def a9D (w:Solve_Way):Option (List Api_Goal) :=
 Option.bind (Q4 56 w.Alternative.Subgoals) fun r1 =>
 Option.bind (y2 (b36 w) ((w.Entries.length:Int).toNat+1) (r1,0)) fun b9 =>
 some b9
def a2r (s:List Solve_Way)(f:Solve_Way->Option Bool)(x1:Int):Option (Fl Int (Sum Unit Int)) :=
 bif decide (x1<(s.length:Int))
 then (Option.bind (idx s x1) fun e2 =>
 Option.bind (f e2) fun r3 =>
 bif r3
 then (some (.done (.inr x1)))
 else (some (.next (wr .i64 (x1+1)))))
 else (some (.done (.inl ())))
def a0D (s:List Solve_Way)(f:Solve_Way->Option Bool):Option Int :=
 Option.bind (y2 (a2r s f) ((s.length:Int).toNat+1) 0) fun b4 =>
 Y5 (fun _ =>
 some (-1)) (fun y6 =>
 some y6) b4
def a0l (s:List Solve_Way)(f:Solve_Way->Option Bool):Option Bool :=
 Option.bind (a0D s f) fun r1 =>
 some (decide (0<=r1))
def a79 (table:(List (ByteArray×(List Solve_Way)))×(List (ByteArray×Int)))(l:List Api_Goal)(x1:Int×Int):Option (Fl (Int×Int) (Sum Int (Int×Bool))) :=
 bif decide (x1.2<(l.length:Int))
 then (Option.bind (idx l x1.2) fun e2 =>
 Option.bind (a6S e2) fun r3 =>
 bif ((a0H table.2 r3).getD (0:Int))==0
 then (some (.done (.inr (0,false))))
 else (some (.next (max x1.1 ((a0H table.2 r3).getD (0:Int)),wr .i64 (x1.2+1)))))
 else (some (.done (.inl x1.1)))
def a2k (table:(List (ByteArray×(List Solve_Way)))×(List (ByteArray×Int)))(l:List Api_Goal):Option (Int×Bool) :=
 Option.bind (y2 (a79 table l) ((l.length:Int).toNat+1) (0,0)) fun (b4:Sum Int (Int×Bool)) =>
 Y5 (fun x5 =>
 some (x5,true)) (fun y6 =>
 some (y6.1,y6.2)) b4
def b1O (table:(List (ByteArray×(List Solve_Way)))×(List (ByteArray×Int)))(l:List Api_EntryForm)(x1:Int×Bool×Int×((List Api_Goal)×Bool×(List Int)×(List Int)×Bool)):Option (Fl (Int×Bool×Int×((List Api_Goal)×Bool×(List Int)×(List Int)×Bool)) (Int×Bool×((List Api_Goal)×Bool×(List Int)×(List Int)×Bool))) :=
 bif decide (x1.2.2.1<(l.length:Int))
 then (Option.bind (idx l x1.2.2.1) fun e2 =>
 Option.bind (a8Y e2) fun r3 =>
 Option.bind (a2k (table.1,table.2) r3) fun r4 =>
 Option.bind (bif r4.2
 then (Option.bind (bif !x1.2.1
 then (some true)
 else (some (decide (r4.1<x1.1)))) fun q5 =>
 some q5)
 else (some false)) fun q6 =>
 bif q6
 then (some (.next (r4.1,true,wr .i64 (x1.2.2.1+1),(e2.Args,e2.Fails,e2.Result.Pos,e2.Result.Neg,e2.Result.Lists))))
 else (some (.next (x1.1,x1.2.1,wr .i64 (x1.2.2.1+1),(x1.2.2.2.1,x1.2.2.2.2.1,x1.2.2.2.2.2.1,x1.2.2.2.2.2.2.1,x1.2.2.2.2.2.2.2)))))
 else (some (.done (x1.1,x1.2.1,(x1.2.2.2.1,x1.2.2.2.2.1,x1.2.2.2.2.2.1,x1.2.2.2.2.2.2.1,x1.2.2.2.2.2.2.2))))
def a7N (table:(List (ByteArray×(List Solve_Way)))×(List (ByteArray×Int)))(l:List Api_EntryForm):Option (Api_EntryForm×Int×Bool) :=
 Option.bind (y2 (b1O table l) ((l.length:Int).toNat+1) (0,false,0,(([]:List Api_Goal),false,([]:List Int),([]:List Int),false))) fun b7 =>
 some (Api_EntryForm.mk b7.2.2.1 b7.2.2.2.1 (Api_Goal.mk b7.2.2.2.2.1 b7.2.2.2.2.2.1 b7.2.2.2.2.2.2),b7.1,b7.2.1)
def b0g (table:(List (ByteArray×(List Solve_Way)))×(List (ByteArray×Int)))(w:Solve_Way)(x2:Int×Int):Option (Fl (Int×Int) (Sum Int Int)) :=
 bif decide (x2.2<(w.Entries.length:Int))
 then (Option.bind (idx w.Entries x2.2) fun e3 =>
 Option.bind (a7N (table.1,table.2) e3) fun r4 =>
 bif !r4.2.2
 then (some (.done (.inr 0)))
 else (some (.next (max x2.1 r4.2.1,wr .i64 (x2.2+1)))))
 else (some (.done (.inl x2.1)))
def a5H (table:(List (ByteArray×(List Solve_Way)))×(List (ByteArray×Int)))(w:Solve_Way):Option Int :=
 Option.bind (a2k (table.1,table.2) w.Alternative.Subgoals) fun r1 =>
 bif !r1.2
 then (some 0)
 else (Option.bind (y2 (b0g table w) ((w.Entries.length:Int).toNat+1) (r1.1,0)) fun b5 =>
 Y5 (fun x6 =>
 some (wr .i64 (x6+1))) (fun y7 =>
 some y7) b5)
def a42 (w:Solve_Way)(a1_1:(List (ByteArray×(List Solve_Way)))×(List (ByteArray×Int))):Option (Bool×Unit) :=
 Option.bind (a5H (a1_1.1,a1_1.2) w) fun r1 =>
 some (decide (0<r1),())
def b08 (table:(List (ByteArray×(List Solve_Way)))×(List (ByteArray×Int)))(order:List ByteArray)(x1:(List ByteArray)×Int):Option (Fl ((List ByteArray)×Int) (List ByteArray)) :=
 bif decide (x1.2<(order.length:Int))
 then (Option.bind (idx order x1.2) fun e2 =>
 bif decide (0<((a0H table.2 e2).getD (0:Int)))
 then (some (.next (x1.1,wr .i64 (x1.2+1))))
 else (Option.bind (a0l ((a0H table.1 e2).getD ([]:List Solve_Way)) (fun z3 =>
 Option.bind (a42 z3 (table.1,table.2)) fun r4 =>
 some r4.1)) fun r5 =>
 bif r5
 then (Option.bind (v7 (x1.1.length+([e2]:List ByteArray).length) 16) fun _ =>
 some (.next (x1.1++([e2]:List ByteArray),wr .i64 (x1.2+1))))
 else (some (.next (x1.1,wr .i64 (x1.2+1))))))
 else (some (.done x1.1))
def b0J (height:Int)(b7:List ByteArray)(x10:Int×(List (ByteArray×Int))):Option (Fl (Int×(List (ByteArray×Int))) (Unit×(List (ByteArray×Int)))) :=
 bif decide (x10.1<(b7.length:Int))
 then (Option.bind (idx b7 x10.1) fun e11 =>
 some (.next (wr .i64 (x10.1+1),a17 x10.2 e11 height)))
 else (some (.done ((),x10.2)))
def a6r (table:(List (ByteArray×(List Solve_Way)))×(List (ByteArray×Int)))(order:List ByteArray)(height:Int):Option ((Bool×Unit)×(List (ByteArray×(List Solve_Way)))×(List (ByteArray×Int))) :=
 Option.bind (y2 (b08 table order) ((order.length:Int).toNat+1) ([],0)) fun b7 =>
 Option.bind (y2 (b0J height b7) ((b7.length:Int).toNat+1) (0,table.2)) fun b12 =>
 some ((decide (0<(b7.length:Int)),()),table.1,b12.2)
noncomputable def b47 (r6:List Solve_Way)(x8:(List Api_Goal)×Int):Option (Fl ((List Api_Goal)×Int) (List Api_Goal)) :=
 bif decide (x8.2<(r6.length:Int))
 then (Option.bind (idx r6 x8.2) fun e9 =>
 Option.bind (a9D e9) fun r10 =>
 Option.bind (v7 (x8.1.length+r10.length) 56) fun _ =>
 some (.next (x8.1++r10,wr .i64 (x8.2+1))))
 else (some (.done x8.1))
noncomputable def b50 (d:Api_Type)(n:Nat)(x1:(List Api_Goal)×(List ByteArray)×((List (ByteArray×(List Solve_Way)))×(List (ByteArray×Int)))):Option (Fl ((List Api_Goal)×(List ByteArray)×((List (ByteArray×(List Solve_Way)))×(List (ByteArray×Int)))) ((List ByteArray)×((List (ByteArray×(List Solve_Way)))×(List (ByteArray×Int))))) :=
 bif decide (0<(x1.1.length:Int))
 then (Option.bind (idx x1.1 (wr .i64 ((x1.1.length:Int)-1))) fun _ =>
 Option.bind (x1.1[(wr .i64 ((x1.1.length:Int)-1)).toNat]?) fun e3 =>
 Option.bind (cut x1.1 0 (wr .i64 ((x1.1.length:Int)-1))) fun y4 =>
 Option.bind (a6S e3) fun r5 =>
 bif (a0H x1.2.2.1 r5).isSome
 then (some (.next (y4,x1.2.1,(x1.2.2.1,x1.2.2.2))))
 else (Option.bind (b6p n d e3) fun r6 =>
 Option.bind (v7 (x1.2.1.length+([r5]:List ByteArray).length) 16) fun _ =>
 Option.bind (y2 (b47 r6) ((r6.length:Int).toNat+1) (y4,0)) fun b12 =>
 some (.next (b12,x1.2.1++([r5]:List ByteArray),(a17 x1.2.2.1 r5 r6,x1.2.2.2)))))
 else (some (.done (x1.2.1,(x1.2.2.1,x1.2.2.2))))
noncomputable def b5z (b13:(List ByteArray)×((List (ByteArray×(List Solve_Way)))×(List (ByteArray×Int))))(x14:Int×((List (ByteArray×(List Solve_Way)))×(List (ByteArray×Int)))):Option (Fl (Int×((List (ByteArray×(List Solve_Way)))×(List (ByteArray×Int)))) ((List (ByteArray×(List Solve_Way)))×(List (ByteArray×Int)))) :=
 Option.bind (a6r (x14.2.1,x14.2.2) b13.1 x14.1) fun r15 =>
 bif r15.1.1
 then (some (.next (wr .i64 (x14.1+1),(r15.2.1,r15.2.2))))
 else (some (.done (r15.2.1,r15.2.2)))
noncomputable def b1A (n:Nat)(d:Api_Type)(t:Api_Goal):Option ((List (ByteArray×(List Solve_Way)))×(List (ByteArray×Int))) :=
 Option.bind (y2 (b50 d n) n (([t]:List Api_Goal),[],(([]:List (ByteArray×(List Solve_Way))),([]:List (ByteArray×Int))))) fun b13 =>
 Option.bind (y2 (b5z b13) n (1,(b13.2.1,b13.2.2))) fun b16 =>
 some (b16.1,b16.2)
noncomputable def a6l (n:Nat)(t:Api_Type)(g:Api_Goal):Option Int :=
 Option.bind (V3 n t) fun r1 =>
 Option.bind (bif r1 != 0
 then (some true)
 else (Option.bind (a8F t g) fun r2 =>
 some (!r2))) fun q3 =>
 bif q3
 then (some 0)
 else (Option.bind (b1A n t g) fun r4 =>
 Option.bind (a6S g) fun r5 =>
 some ((a0H r4.2 r5).getD (0:Int)))
noncomputable def a8g (n:Nat)(t:Api_Type)(g:Api_Goal):Option Bool :=
 Option.bind (a6l n t g) fun r1 =>
 some (r1 != 0)
noncomputable def a6s (n:Nat)(s:Api_Type)(t:Api_Type):Option Bool :=
 Option.bind (a7G n s t) fun r1 =>
 Option.bind (a8g n r1.1 r1.2) fun r2 =>
 some (!r2)
noncomputable def a6u (n:Nat)(c:Api_Constraint)(a1_1:List Api_Binding):Option Bool :=
 Option.bind (a2J n c.Lower a1_1) fun r1 =>
 Option.bind (a2J n c.Upper a1_1) fun r2 =>
 Option.bind (a6s n r1 r2) fun r3 =>
 some (!r3)
noncomputable def a2L (n:Nat)(l:List Api_Constraint)(s:List Api_Binding):Option Bool :=
 Option.bind (V9 l (fun z1 =>
 Option.bind (a6u n z1 s) fun r2 =>
 some r2)) fun r3 =>
 some (!r3)
noncomputable def a9F (t:List ByteArray)(a2_2:List Api_Type)(x2:Int×Int):Option (Fl (Int×Int) (Sum Int ((List (List Int))×Int))) :=
 bif decide (x2.2<(t.length:Int))
 then (bif decide (256<(wr .i64 (x2.1*(a2_2.length:Int))))
 then (some (.done (.inr ([],2))))
 else (some (.next (wr .i64 (x2.1*(a2_2.length:Int)),wr .i64 (x2.2+1)))))
 else (some (.done (.inl x2.1)))
noncomputable def a9u (a2_2:List Api_Type)(x8:(List Int)×Int×Int):Option (Fl ((List Int)×Int×Int) (List Int)) :=
 bif decide (0<=x8.2.2)
 then (Option.bind (b1q x8.2.1 (a2_2.length:Int)) fun d9 =>
 Option.bind (idx x8.1 x8.2.2) fun _ =>
 Option.bind (x8.1[x8.2.2.toNat]?) fun _ =>
 Option.bind (b30 .i64 x8.2.1 (a2_2.length:Int)) fun d12 =>
 some (.next (x8.1.set x8.2.2.toNat d9,d12,wr .i64 (x8.2.2-1))))
 else (some (.done x8.1))
noncomputable def a19 (t:List ByteArray)(a2_2:List Api_Type)(b13:List Int)(x14:(List Api_Binding)×Int):Option (Fl ((List Api_Binding)×Int) (List Api_Binding)) :=
 bif decide (x14.2<(b13.length:Int))
 then (Option.bind (idx b13 x14.2) fun e15 =>
 Option.bind (idx t x14.2) fun e16 =>
 Option.bind (idx a2_2 e15) fun e17 =>
 Option.bind (v7 (x14.1.length+([Api_Binding.mk e16 e17]:List Api_Binding).length) 48) fun _ =>
 some (.next (x14.1++([Api_Binding.mk e16 e17]:List Api_Binding),wr .i64 (x14.2+1))))
 else (some (.done x14.1))
noncomputable def a1e (d:List Api_Constraint)(t:List ByteArray)(a2_2:List Api_Type)(x4:Int)(n:Nat)(x6:(List (List Int))×Int):Option (Fl ((List (List Int))×Int) (List (List Int))) :=
 bif decide (x6.2<x4)
 then (Option.bind (a3P (t.length:Int) (t.length:Int) 8) fun m7 =>
 Option.bind (y2 (a9u a2_2) ((wr .i64 ((t.length:Int)-1)).toNat+2) (List.replicate m7 (0:Int),x6.2,wr .i64 ((t.length:Int)-1))) fun b13 =>
 Option.bind (y2 (a19 t a2_2 b13) ((b13.length:Int).toNat+1) ([],0)) fun b19 =>
 Option.bind (a2L n d b19) fun r20 =>
 bif r20
 then (Option.bind (v7 (x6.1.length+([b13]:List (List Int)).length) 24) fun _ =>
 some (.next (x6.1++([b13]:List (List Int)),wr .i64 (x6.2+1))))
 else (some (.next (x6.1,wr .i64 (x6.2+1)))))
 else (some (.done x6.1))
noncomputable def a09 (n:Nat)(d:List Api_Constraint)(t:List ByteArray)(a2_2:List Api_Type):Option ((List (List Int))×Int) :=
 Option.bind (a1t t) fun r1 =>
 bif r1 != 0
 then (some ([],r1))
 else (Option.bind (y2 (a9F t a2_2) ((t.length:Int).toNat+1) (1,0)) fun b3 =>
 Y5 (fun x4 =>
 Option.bind (y2 (a1e d t a2_2 x4 n) (x4.toNat+1) ([],0)) fun b22 =>
 some (b22,0)) (fun y5 =>
 some (y5.1,y5.2)) b3)
noncomputable def a1D (n:Nat):Option Bool :=
 Option.bind (b1v n ([Api_Range.mk 0 9]:List Api_Range)) fun r1 =>
 Option.bind (a6p (⟨#[65]⟩:ByteArray)) fun r2 =>
 Option.bind (a0Q) fun r3 =>
 Option.bind (b2Q) fun r4 =>
 Option.bind (a09 n ([Api_Constraint.mk r2 r1]:List Api_Constraint) ([(⟨#[65]⟩:ByteArray)]:List ByteArray) ([r3,r4,r1]:List Api_Type)) fun r5 =>
 Option.bind (bif r5.2==0
 then (some ((r5.1.length:Int)==2))
 else (some false)) fun q6 =>
 Option.bind (bif q6
 then (Option.bind (idx r5.1 0) fun _ =>
 Option.bind (r5.1[(0:Int).toNat]?) fun e8 =>
 Option.bind (idx e8 0) fun e9 =>
 some (e9==0))
 else (some false)) fun q10 =>
 Option.bind (bif q10
 then (Option.bind (idx r5.1 1) fun _ =>
 Option.bind (r5.1[(1:Int).toNat]?) fun e12 =>
 Option.bind (idx e12 0) fun e13 =>
 some (e13==2))
 else (some false)) fun q14 =>
 bif q14
 then (Option.bind (a2L n ([Api_Constraint.mk r2 r1]:List Api_Constraint) ([Api_Binding.mk (⟨#[65]⟩:ByteArray) r1]:List Api_Binding)) fun r15 =>
 some r15)
 else (some false)
def a0R (c:Int):Option Bool :=
 Option.bind (bif decide (65<=c)
 then (some (decide (c<=90)))
 else (some false)) fun q1 =>
 some q1
def a1W (c:Int):Option Bool :=
 Option.bind (bif decide (97<=c)
 then (some (decide (c<=122)))
 else (some false)) fun q1 =>
 some q1
def a1V (c:Int):Option Bool :=
 Option.bind (bif decide (48<=c)
 then (some (decide (c<=57)))
 else (some false)) fun q1 =>
 some q1
def a03 (s:ByteArray)(x5:Int):Option (Fl Int (Sum Unit Bool)) :=
 bif decide (x5<(s.size:Int))
 then (Option.bind (a4H s x5) fun e6 =>
 Option.bind (a1W (e6.toNat:Int)) fun r7 =>
 Option.bind (bif !r7
 then (Option.bind (a4H s x5) fun e8 =>
 Option.bind (a0R (e8.toNat:Int)) fun r9 =>
 some (!r9))
 else (some false)) fun q10 =>
 Option.bind (bif q10
 then (Option.bind (a4H s x5) fun e11 =>
 Option.bind (a1V (e11.toNat:Int)) fun r12 =>
 some (!r12))
 else (some false)) fun q13 =>
 Option.bind (bif q13
 then (Option.bind (a4H s x5) fun e14 =>
 some ((e14.toNat:Int) != 95))
 else (some false)) fun q15 =>
 bif q15
 then (some (.done (.inr false)))
 else (some (.next (wr .i64 (x5+1)))))
 else (some (.done (.inl ())))
def a0z (s:ByteArray):Option Bool :=
 Option.bind (bif decide ((s.size:Int)<1)
 then (some true)
 else (some (decide (16<(s.size:Int))))) fun q1 =>
 Option.bind (bif q1
 then (some true)
 else (Option.bind (a4H s 0) fun e2 =>
 Option.bind (a0R (e2.toNat:Int)) fun r3 =>
 some (!r3))) fun q4 =>
 bif q4
 then (some false)
 else (Option.bind (y2 (a03 s) ((s.size:Int).toNat+1) 1) fun b16 =>
 Y5 (fun _ =>
 some true) (fun y18 =>
 some y18) b16)
def a0K (l:List ByteArray)(x1:(List ByteArray)×Int)(x2:Int):Option (Fl Int Int) :=
 Option.bind (bif decide (x2<(x1.1.length:Int))
 then (Option.bind (idx x1.1 x2) fun e3 =>
 Option.bind (idx l x1.2) fun e4 =>
 some (a01 e3 e4))
 else (some false)) fun q5 =>
 bif q5
 then (some (.next (wr .i64 (x2+1))))
 else (some (.done x2))
def K1 (l:List ByteArray)(x1:(List ByteArray)×Int):Option (Fl ((List ByteArray)×Int) (List ByteArray)) :=
 bif decide (x1.2<(l.length:Int))
 then (Option.bind (Option.bind (y2 (a0K l x1) ((x1.1.length:Int).toNat+1) 0) fun b6 =>
 Option.bind (bif decide (b6<(x1.1.length:Int))
 then (Option.bind (idx x1.1 b6) fun e7 =>
 Option.bind (idx l x1.2) fun e8 =>
 some (Q3 e7 e8))
 else (some false)) fun q9 =>
 bif q9
 then (some x1.1)
 else (Option.bind (cut x1.1 0 b6) fun y10 =>
 Option.bind (v7 (0+y10.length) 16) fun _ =>
 Option.bind (idx l x1.2) fun e12 =>
 Option.bind (v7 (y10.length+([e12]:List ByteArray).length) 16) fun _ =>
 Option.bind (cut x1.1 b6 (x1.1.length:Int)) fun y14 =>
 Option.bind (v7 ((y10++([e12]:List ByteArray)).length+y14.length) 16) fun _ =>
 some ((y10++([e12]:List ByteArray))++y14))) fun b16 =>
 some (.next (b16,wr .i64 (x1.2+1))))
 else (some (.done x1.1))
def a1F (l:List ByteArray):Option (List ByteArray) :=
 Option.bind (y2 (K1 l) ((l.length:Int).toNat+1) (([]:List ByteArray),0)) fun b17 =>
 some b17
noncomputable def K4 (t:Int)(x2:(List Api_Type)×Int):Option (Fl ((List Api_Type)×Int) (List Api_Type)) :=
 Option.bind (b1q (wr .i64 t) 8) fun d3 =>
 bif decide (x2.2<d3)
 then (Option.bind (a0Q) fun r4 =>
 Option.bind (v7 (x2.1.length+([r4]:List Api_Type).length) 32) fun _ =>
 some (.next (x2.1++([r4]:List Api_Type),wr .i64 (x2.2+1))))
 else (some (.done x2.1))
noncomputable def a2f (d:List ByteArray)(b6:List Api_Type)(x8:Int×Int):Option (Fl (Int×Int) Int) :=
 bif decide (x8.2<(d.length:Int))
 then (some (.next (min 1000 (wr .i64 (x8.1*(b6.length:Int))),wr .i64 (x8.2+1))))
 else (some (.done x8.1))
noncomputable def K5 (d:List ByteArray)(x10:Bool×Int):Option (Fl (Bool×Int) Bool) :=
 bif decide (x10.2<(d.length:Int))
 then (Option.bind (bif x10.1
 then (Option.bind (idx d x10.2) fun e11 =>
 Option.bind (a0z e11) fun r12 =>
 some r12)
 else (some false)) fun q13 =>
 some (.next (q13,wr .i64 (x10.2+1))))
 else (some (.done x10.1))
noncomputable def a0g (n:Nat)(d:List ByteArray)(t:Int):Option Bool :=
 bif decide (10<(d.length:Int))
 then (Option.bind (a1D n) fun r1 =>
 some r1)
 else (Option.bind (y2 (K4 t) n ([],0)) fun b6 =>
 Option.bind (a09 n ([]:List Api_Constraint) d b6) fun r7 =>
 Option.bind (y2 (a2f d b6) ((d.length:Int).toNat+1) (1,0)) fun b9 =>
 Option.bind (y2 (K5 d) ((d.length:Int).toNat+1) (true,0)) fun b14 =>
 Option.bind (bif !b14
 then (some 1)
 else (Option.bind (a1F d) fun r15 =>
 bif decide ((r15.length:Int)<(d.length:Int))
 then (some 6)
 else (bif decide (256<b9)
 then (some 2)
 else (some 0)))) fun (b16:Int) =>
 Option.bind (bif r7.2==b16
 then (Option.bind (a1D n) fun r17 =>
 some r17)
 else (some false)) fun q18 =>
 some q18)
end Go.Qx
end
section
namespace Go.Pl
open Go Go.RowKit Go.Sx Go.Qx
theorem a6X (x:Int):wr .i64 x=w64 x:=rfl
theorem b0x {α:Type}(b:Bool)(x y:α):(bif b then x else y)=if b=true then x else y:=by cases b<;>rfl
theorem c3e {α:Type}(o:Option α):(Option.bind o fun x=>some x)=o:=by cases o<;>rfl
theorem a7E {α:Type}(l:List α):((l.length:Int)).toNat=l.length:=by omega
theorem c1I (s:ByteArray):((s.size:Int)).toNat=s.size:=by omega
theorem c7Y {x:Int}(h1 : -9223372036854775808<=x)(h2:x<=9223372036854775807):w64 x=x:=by
 unfold w64
 rw [IntKind.wrap_i64]
 omega
theorem a3D {α:Type}{xs:List α}{i:Nat}{x:α}(h:xs[i]?=some x):idx xs (i:Int)=some x:=by
 unfold idx
 rw [if_pos (by omega)]
 simpa using h
theorem b3Q {n bytes:Nat}(h:n*bytes<=140737488355328):v7 n bytes=some ():=by unfold v7; rw [if_pos h]
theorem c34 {σ α St β:Type}{step:St->Option (Fl St β)}(xs:List α)(pack:σ->Nat->St)(F:σ->α->σ)(I:Nat->σ->Prop)(D:σ->β)
 (hstep:∀ i s x,xs[i]?=some x->I i s->step (pack s i)=some (.next (pack (F s x) (i+1)))/\I (i+1) (F s x))
 (hend:∀ s,I xs.length s->step (pack s xs.length)=some (.done (D s))) (s0:σ) (h0:I 0 s0) (k:Nat) (hk:xs.length+1<=k) :
 y2 step k (pack s0 0)=some (D (xs.foldl F s0)):=by
 have key:∀ (n i:Nat) (s:σ) (k:Nat),i+n=xs.length->n+1<=k->I i s->y2 step k (pack s i)=some (D ((xs.drop i).foldl F s)):=by
  intro n
  induction n with
  | zero =>
    intro i s k hi hk hI
    have e:i=xs.length:=by omega
    subst e
    obtain ⟨k,rfl⟩:∃ m,k=m+1:=⟨k-1,by omega⟩
    simp [y2,hend s hI]
  | succ n ih =>
    intro i s k hi hk hI
    have hlt:i<xs.length:=by omega
    obtain ⟨k,rfl⟩:∃ m,k=m+1:=⟨k-1,by omega⟩
    obtain ⟨h1,h2⟩:=hstep i s xs[i] (List.getElem?_eq_getElem hlt) hI
    rw [List.drop_eq_getElem_cons hlt,List.foldl_cons]
    simp only [y2,h1,Option.bind_some]
    exact ih (i+1) _ k (by omega) (by omega) h2
 have:=key xs.length 0 s0 k (by omega) hk h0
 simpa using this
def a6R (s:ByteArray):Nat:=s.size+1
def b5c:List ByteArray->Nat
 | []=>0
 | s::r=>a6R s+b5c r
def c6D (k:Key):Nat:=1+a6R k.Text+1
end Go.Pl
namespace Go.Pl
open Go Go.RowKit Go.Sx Go.Qx
end Go.Pl
end
section
namespace Go.Pl
open Go Go.RowKit Go.Sx Go.Qx
def tn (x y:Int):Int:=if x=0 then y else x
def cI (x y:Int):Int:=if x<y then -1 else if y<x then 1 else 0
def lx:List Int->List Int->Int
 | [],[]=>0
 | [],_::_ => -1
 | _::_,[]=>1
 | x::xs,y::ys=>tn (cI x y) (lx xs ys)
theorem c1j (x y z:Int):tn (tn x y) z=tn x (tn y z):=by unfold tn; split<;>simp_all
theorem c1V (x:Int):tn x 0=x:=by unfold tn; split<;>simp_all
theorem c6p (x:Int):tn 0 x=x:=by simp [tn]
theorem a4b (x y:Int):(x<y/\cI x y = -1)\/(y<x/\cI x y=1)\/(x=y/\cI x y=0):=by
 unfold cI
 by_cases h:x<y
 ·left; simp [h]
 ·by_cases h2:y<x
  ·right; left; simp [h,h2]
  ·right; right; simp [h,h2]; omega
theorem b7X:∀ a b:List Int,lx b a = - lx a b
 | [],[]=>by simp [lx]
 | [],_::_=>by simp [lx]
 | _::_,[]=>by simp [lx]
 | x::xs,y::ys=>by
   have:=b7X xs ys
   rcases a4b x y with ⟨h1,h⟩ | ⟨h1,h⟩ | ⟨h1,h⟩<;>rcases a4b y x with ⟨h2,k⟩ | ⟨h2,k⟩ | ⟨h2,k⟩<;>simp [lx,h,k,tn]<;>omega
theorem b5p:∀ a b c:List Int,lx a b<=0->lx b c<=0->lx a c<=0
 | [],_,[],_,_=>by simp [lx]
 | [],_,_::_,_,_=>by simp [lx]
 | _::_,[],_,h,_=>by simp [lx] at h
 | _::_,_::_,[],_,h=>by simp [lx] at h
 | x::xs,y::ys,z::zs,h1,h2=>by
   have:=b5p xs ys zs
   rcases a4b x y with ⟨p1,h⟩ | ⟨p1,h⟩ | ⟨p1,h⟩<;>rcases a4b y z with ⟨p2,k⟩ | ⟨p2,k⟩ | ⟨p2,k⟩ <;>
    rcases a4b x z with ⟨p3,l⟩ | ⟨p3,l⟩ | ⟨p3,l⟩<;>simp [lx,h,k,l,tn] at h1 h2 ⊢<;>first | omega | (exact this (by omega) (by omega))
def cBs:List UInt8->List UInt8->Int
 | [],[]=>0
 | [],_::_ => -1
 | _::_,[]=>1
 | x::xs,y::ys=>tn (cI x.toNat y.toNat) (cBs xs ys)
def eBs:List UInt8->List Int
 | []=>[0]
 | x::r=>((x.toNat:Int)+1)::eBs r
theorem c6g (x y:Int):cI (x+1) (y+1)=cI x y:=by
 unfold cI
 by_cases h:x<y
 ·rw [if_pos (by omega),if_pos h]
 ·rw [if_neg (by omega),if_neg h]
  by_cases h2:y<x
  ·rw [if_pos (by omega),if_pos h2]
  ·rw [if_neg (by omega),if_neg h2]
theorem c7C:∀ (a b:List UInt8) (r s:List Int),lx (eBs a++r) (eBs b++s)=tn (cBs a b) (lx r s)
 | [],[],r,s=>by simp [eBs,lx,cBs,cI,c6p]
 | [],y::ys,r,s=>by
   have:cI 0 ((y.toNat:Int)+1) = -1:=by unfold cI; rw [if_pos (by omega)]
   simp [eBs,lx,cBs,this,tn]
 | x::xs,[],r,s=>by
   have:cI ((x.toNat:Int)+1) 0=1:=by unfold cI; rw [if_neg (by omega),if_pos (by omega)]
   simp [eBs,lx,cBs,this,tn]
 | x::xs,y::ys,r,s=>by
   simp only [eBs,List.cons_append,lx,cBs,c6g,c7C xs ys,c1j]
def cS (a b:ByteArray):Int:=cBs a.data.toList b.data.toList
def eS (a:ByteArray):List Int:=eBs a.data.toList
theorem pfS (a b:ByteArray)(r s:List Int):lx (eS a++r) (eS b++s)=tn (cS a b) (lx r s):=c7C _ _ r s
def cK (a b:Key):Int:=tn (cI a.Kind b.Kind) (cS a.Text b.Text)
def eK (a:Key):List Int:=a.Kind::eS a.Text
theorem pfK (a b:Key)(r s:List Int):lx (eK a++r) (eK b++s)=tn (cK a b) (lx r s):=by
 simp only [eK,List.cons_append,lx,pfS,cK,c1j]
def eN {α:Type}(e:α->List Int)(xs:List α):List Int:=(xs.length:Int)::xs.flatMap e
def bI (b:Bool):Int:=if b then 0 else 1
mutual
def eV:Val->List Int
 | .mk k n t kids keys ents labs=>k::n::(eS t++(eN eK keys++(((kids.length:Int)::eVs kids)++(((ents.length:Int)::eEs ents)++eN eS labs))))
def eVs:List Val->List Int
 | []=>[]
 | x::xs=>eV x++eVs xs
def eE:Ent->List Int
 | .mk args f res=>((args.length:Int)::eVs args)++(bI f::eV res)
def eEs:List Ent->List Int
 | []=>[]
 | x::xs=>eE x++eEs xs
end
end Go.Pl
namespace Go.Pl
open Go Go.RowKit Go.Sx Go.Qx
theorem b2Z:∀ a b:List UInt8,(Op.bytesLess a b=true/\cBs a b = -1/\a≠b)\/(Op.bytesLess a b=false/\cBs a b=0/\a=b)\/(Op.bytesLess a b=false/\cBs a b=1/\a≠b)
 | [],[]=>by simp [Op.bytesLess,cBs]
 | [],_::_=>by simp [Op.bytesLess,cBs]
 | _::_,[]=>by simp [Op.bytesLess,cBs]
 | x::xs,y::ys=>by
   have ih:=b2Z xs ys
   simp only [Op.bytesLess,cBs]
   rcases a4b (x.toNat:Int) (y.toNat:Int) with ⟨h,e⟩ | ⟨h,e⟩ | ⟨h,e⟩
   ·have h1:x<y:=UInt8.lt_iff_toNat_lt.2 (by omega)
    have h2:x≠y:=by intro h3; subst h3; omega
    simp [e,h1,h2,tn]
   ·have h1:¬ x<y:=fun h3=>by have:=UInt8.lt_iff_toNat_lt.1 h3; omega
    have h2:x≠y:=by intro h3; subst h3; omega
    simp [e,h1,h2,tn]
   ·have h2:x=y:=UInt8.toNat_inj.1 (by omega)
    subst h2
    have h1:¬ x<x:=fun h3=>by have:=UInt8.lt_iff_toNat_lt.1 h3; omega
    simpa [e,h1,tn] using ih
theorem b8R (a b:ByteArray):(a01 a b=true/\Q3 a b=false/\cS a b = -1)\/(a01 a b=false/\Q3 a b=true/\cS a b=0)\/(a01 a b=false/\Q3 a b=false/\cS a b=1):=by
 unfold a01 Q3 cS
 rw [Lib.toList_data,Lib.toList_data]
 rcases b2Z a.data.toList b.data.toList with ⟨h,e,n⟩ | ⟨h,e,n⟩ | ⟨h,e,n⟩
 ·left; exact ⟨h,by simpa using n,e⟩
 ·right; left; exact ⟨h,by simpa using n,e⟩
 ·right; right; exact ⟨h,by simpa using n,e⟩
end Go.Pl
end
section
namespace Go.Pl
open Go Go.RowKit Go.Sx Go.Qx
theorem c04 {step:Int->Option (Fl Int (Sum Unit Bool))}(n:Nat)(p:Nat->Bool)
 (hst:∀ i:Nat,i<n->step (i:Int)=some (if p i=true then .next ((i+1:Nat):Int) else .done (.inr false)))
 (hend:∀ i:Nat,n<=i->step (i:Int)=some (.done (.inl ()))) (i0:Nat) (b:Bool) (hb:b=true↔∀ i,i0<=i->i<n->p i=true) :
 Option.bind (y2 step (n+1) (i0:Int)) (Y5 (fun _=>some true) (fun r=>some r))=some b:=by
 have fin:∀ (i k:Nat),n<=i->(∀ j,i0<=j->j<i->j<n->p j=true)->Option.bind (y2 step (k+1) (i:Int)) (Y5 (fun _=>some true) (fun r=>some r))=some b:=by
  intro i k h1 h4
  simp only [y2,hend i h1,Option.bind_some,Y5]
  have:b=true:=hb.2 fun j a c=>h4 j a (by omega) c
  rw [this]
 have key:∀ (m i k:Nat),n<=i+m->m+1<=k->i0<=i->(∀ j,i0<=j->j<i->j<n->p j=true)->Option.bind (y2 step k (i:Int)) (Y5 (fun _=>some true) (fun r=>some r))=some b:=by
  intro m
  induction m with
  | zero =>
    intro i k h1 h2 h3 h4
    obtain ⟨k,rfl⟩:∃ m,k=m+1:=⟨k-1,by omega⟩
    exact fin i k (by omega) h4
  | succ m ih =>
    intro i k h1 h2 h3 h4
    obtain ⟨k,rfl⟩:∃ m,k=m+1:=⟨k-1,by omega⟩
    by_cases hlt:i<n
    ·simp only [y2,hst i hlt]
     cases hp:p i
     ·simp only [Bool.false_eq_true,if_false,Option.bind_some,Y5]
      have:b=false:=by
       cases b
       ·rfl
       ·have:=hb.1 rfl i h3 hlt
        rw [hp] at this; cases this
      rw [this]
     ·simp only [if_true,Option.bind_some]
      refine ih (i+1) k (by omega) (by omega) (by omega) (fun j a c d=>?_)
      by_cases e:j<i
      ·exact h4 j a e d
      ·have:j=i:=by omega
       subst this; exact hp
    ·exact fin i k (by omega) h4
 exact key n i0 (n+1) (by omega) (by omega) (Nat.le_refl _) (fun j a c=>by omega)
theorem a1k (i:Nat)(h:i<=4611686018427387904):w64 ((i:Int)+1)=((i+1:Nat):Int):=by rw [c7Y (by omega) (by omega)]; rfl
theorem c6n (b:Bool)(x:Int):(bif (!b) then some (Fl.done (Sum.inr false)) else some (Fl.next x))=some (if b=true then Fl.next x else (Fl.done (Sum.inr false):Fl Int (Sum Unit Bool))):=by cases b<;>rfl
def asc {α:Type}(c:α->α->Int):List α->Bool
 | x::y::r=>decide (c x y<0)&&asc c (y::r)
 | _=>true
def a4x (c:UInt8):Bool:=decide (97<=(c.toNat:Int))&&decide ((c.toNat:Int)<=122)
def upC (c:UInt8):Bool:=decide (65<=(c.toNat:Int))&&decide ((c.toNat:Int)<=90)
def a5r (c:UInt8):Bool:=decide (48<=(c.toNat:Int))&&decide ((c.toNat:Int)<=57)
def b3x (f g:UInt8->Bool)(s:ByteArray):Bool :=
 match s.data.toList with
 | []=>false
 | c::r=>decide (r.length<=15)&&f c&&r.all g
def a2q (s:ByteArray):Bool:=b3x upC (fun c=>a4x c||upC c||a5r c||(c.toNat:Int)==95) s
def c01 (s:ByteArray):Bool:=b3x a4x (fun c=>a4x c||a5r c||(c.toNat:Int)==95) s
theorem b9V (c:UInt8):a1A (c.toNat:Int)=some (a4x c):=by
 unfold a1A a4x
 cases decide (97<=(c.toNat:Int))<;>simp
theorem c5l (c:UInt8):a2w (c.toNat:Int)=some (upC c):=by
 unfold a2w upC
 cases decide (65<=(c.toNat:Int))<;>simp
theorem c3C (c:UInt8):a2v (c.toNat:Int)=some (a5r c):=by
 unfold a2v a5r
 cases decide (48<=(c.toNat:Int))<;>simp
theorem b3N {s:ByteArray}{i:Nat}{c:UInt8}(h:s.data.toList[i]?=some c):a4H s (i:Int)=some c:=by
 unfold a4H
 rw [if_pos (by omega)]
 obtain ⟨hi,e⟩:=List.getElem?_eq_some_iff.1 h
 have hs:i<s.size:=by simpa using hi
 show s[((i:Int)).toNat]?=some c
 rw [Int.toNat_natCast,getElem?_pos s i hs]
 show some s.data[i]=some c
 simpa using e
theorem b8O (s:ByteArray):s.size=s.data.toList.length:=by simp
theorem c1N {a1 a2:Int->Option Bool}{f g:UInt8->Bool}(h1:∀ c:UInt8,a1 (c.toNat:Int)=some (f c))(h2:∀ c:UInt8,a2 (c.toNat:Int)=some (g c))(s:ByteArray):a3g s a1 a2=some (b3x f g s):=by
 unfold a3g b3x
 simp only [b0x,c1I]
 have hsz:=b8O s
 cases hs:s.data.toList with
 | nil =>
   rw [hs] at hsz
   rw [hsz]
   simp
 | cons c r =>
   rw [hs] at hsz
   simp only [List.length_cons] at hsz
   have e1:decide ((s.size:Int)<1)=false:=by simp; omega
   rw [e1]
   simp only [Bool.false_eq_true,if_false,Option.bind_some]
   by_cases hb:16<(s.size:Int)
   ·rw [if_pos (by simpa using hb)]
    have:decide (r.length<=15)=false:=by simp; omega
    rw [this]; rfl
   ·rw [if_neg (by simpa using hb)]
    have e2:decide (r.length<=15)=true:=by simp; omega
    have e3:a4H s 0=some c:=b3N (i:=0) (by rw [hs]; rfl)
    rw [e2,e3]
    simp only [Option.bind_some,h1,Bool.true_and]
    cases f c
    ·rfl
    ·simp only [Bool.not_true,Bool.false_eq_true,if_false,Bool.true_and]
     refine c04 s.size (fun i=>match s.data.toList[i]? with | some x=>g x | none=>true) ?_ ?_ 1 (r.all g) ?_
     ·intro i hi
      have hi':i<s.data.toList.length:=by rw [hs]; simp; omega
      unfold a4W
      rw [b0x,if_pos (by simp; omega),b3N (List.getElem?_eq_getElem hi')]
      simp only [Option.bind_some,h2]
      rw [List.getElem?_eq_getElem hi',a6X,a1k i (by omega)]
      exact c6n _ _
     ·intro i hi
      unfold a4W
      rw [b0x,if_neg (by simp; omega)]
     ·rw [hs,List.all_eq_true]
      constructor
      ·intro h i h1 hi
       obtain ⟨i,rfl⟩:∃ m,i=m+1:=⟨i-1,by omega⟩
       have hr:i<r.length:=by omega
       simp only [List.getElem?_cons_succ,List.getElem?_eq_getElem hr]
       exact h _ (List.getElem_mem hr)
      ·intro h x hx
       obtain ⟨i,hi,rfl⟩:=List.getElem_of_mem hx
       have:=h (i+1) (by omega) (by omega)
       simpa only [List.getElem?_cons_succ,List.getElem?_eq_getElem hi] using this
theorem c7D (s:ByteArray):a0y s=some (a2q s):=by
 unfold a0y
 simp only [c3e]
 rw [c1N c5l (g:=fun c=>a4x c||upC c||a5r c||(c.toNat:Int)==95) (fun c=>by
  unfold a2S
  rw [b9V,c5l,c3C]
  simp only [Option.bind_some]
  cases a4x c<;>cases upC c<;>cases a5r c<;>simp)]
 rfl
theorem c6y (s:ByteArray):a2T s=some (c01 s):=by
 unfold a2T
 simp only [c3e]
 rw [c1N b9V (g:=fun c=>a4x c||a5r c||(c.toNat:Int)==95) (fun c=>by
  unfold a5v
  rw [b9V,c3C]
  simp only [Option.bind_some]
  cases a4x c<;>cases a5r c<;>simp)]
 rfl
def c0a (l:List ByteArray):Bool:=asc cS l&&l.all a2q
def c2a (k:Key):Bool:=if k.Kind=0 then c01 k.Text else if k.Kind=1 then decide ((k.Text.size:Int)<=64) else false
theorem c3I (k:Key):a1a k=some (c2a k):=by
 unfold a1a c2a
 rw [c6y]
 simp only [b0x,beq_iff_eq,c3e]
 by_cases h:k.Kind=0
 ·simp [h]
 ·by_cases h1:k.Kind=1
  ·simp [h1]
  ·simp [h,h1]
end Go.Pl
end
section
namespace Go.Pl
open Go Go.RowKit Go.Sx Go.Qx
def a0c {α:Type}(p:α->Bool)(x:α)(out:List α):List α:=out.takeWhile p++[x]++out.dropWhile p
theorem c1L {α:Type}(p:α->Bool):∀ l:List α,l.take (l.takeWhile p).length=l.takeWhile p
 | []=>rfl
 | x::r=>by
   by_cases h:p x=true
   ·simp [h,c1L p r]
   ·simp [h]
theorem c1F {α:Type}(p:α->Bool):∀ l:List α,l.drop (l.takeWhile p).length=l.dropWhile p
 | []=>rfl
 | x::r=>by
   by_cases h:p x=true
   ·simp [h,c1F p r]
   ·simp [h]
theorem c0B {α:Type}(p:α->Bool):∀ l:List α,(l.takeWhile p).length<=l.length
 | []=>Nat.le_refl _
 | x::r=>by
   have:=c0B p r
   by_cases h:p x=true
   ·simp [h,this]
   ·simp [h]
theorem c5Q {α:Type}(p:α->Bool):∀ (l:List α),l[(l.takeWhile p).length]?=(l.dropWhile p).head?
 | []=>rfl
 | x::r=>by
   have:=c5Q p r
   by_cases h:p x=true
   ·simp [h,this]
   ·simp [h]
theorem c65 {α:Type}{step:Int->Option (Fl Int Int)}(out:List α)(p:α->Bool)
 (hst:∀ (i:Nat) (x:α),out[i]?=some x->step (i:Int)=some (if p x=true then .next ((i+1:Nat):Int) else .done (i:Int)))
 (hend:step (out.length:Int)=some (.done (out.length:Int))):y2 step (out.length+1) 0=some ((out.takeWhile p).length:Int):=by
 have key:∀ (m i k:Nat),i+m=out.length->m+1<=k->y2 step k (i:Int)=some (((i+((out.drop i).takeWhile p).length:Nat)):Int):=by
  intro m
  induction m with
  | zero =>
    intro i k h1 h2
    obtain ⟨k,rfl⟩:∃ m,k=m+1:=⟨k-1,by omega⟩
    have e:i=out.length:=by omega
    subst e
    simp [y2,hend]
  | succ m ih =>
    intro i k h1 h2
    obtain ⟨k,rfl⟩:∃ m,k=m+1:=⟨k-1,by omega⟩
    have hlt:i<out.length:=by omega
    have hs:=hst i out[i] (List.getElem?_eq_getElem hlt)
    rw [List.drop_eq_getElem_cons hlt,List.takeWhile_cons]
    by_cases hp:p out[i]=true
    ·rw [if_pos hp] at hs
     simp only [y2,hs,Option.bind_some,ih (i+1) k (by omega) (by omega),hp,if_true,List.length_cons]
     congr 2
     omega
    ·rw [if_neg hp] at hs
     simp [y2,hs,hp]
 have:=key out.length 0 (out.length+1) (by omega) (Nat.le_refl _)
 simpa using this
theorem c0D {α σ τ β:Type}{step:σ->Option (Fl σ (Sum τ β))}(xs:List α)(p:α->Bool)(pk:Nat->σ)(d:τ)(b:β)
 (hst:∀ (i:Nat) (x:α),xs[i]?=some x->step (pk i)=some (if p x=true then .next (pk (i+1)) else .done (.inr b)))
 (hend:step (pk xs.length)=some (.done (.inl d))):y2 step (xs.length+1) (pk 0)=some (if xs.all p=true then .inl d else .inr b):=by
 have key:∀ (m i k:Nat),i+m=xs.length->m+1<=k->y2 step k (pk i)=some (if (xs.drop i).all p=true then .inl d else .inr b):=by
  intro m
  induction m with
  | zero =>
    intro i k h1 h2
    obtain ⟨k,rfl⟩:∃ m,k=m+1:=⟨k-1,by omega⟩
    have e:i=xs.length:=by omega
    subst e
    simp [y2,hend]
  | succ m ih =>
    intro i k h1 h2
    obtain ⟨k,rfl⟩:∃ m,k=m+1:=⟨k-1,by omega⟩
    have hlt:i<xs.length:=by omega
    have hs:=hst i xs[i] (List.getElem?_eq_getElem hlt)
    rw [List.drop_eq_getElem_cons hlt,List.all_cons]
    by_cases hp:p xs[i]=true
    ·rw [if_pos hp] at hs
     simp only [y2,hs,Option.bind_some,ih (i+1) k (by omega) (by omega),hp,Bool.true_and]
    ·rw [if_neg hp] at hs
     simp [y2,hs,hp]
 have:=key xs.length 0 (xs.length+1) (by omega) (Nat.le_refl _)
 simpa using this
theorem b7y {α:Type}(c:α->α->Int)(hanti:∀ a b,c b a = - c a b)(x:α):∀ out:List α,asc c out=true->(∀ y,(out.dropWhile (fun y=>decide (c y x<0))).head?=some y->c y x≠0) ->
 asc c (a0c (fun y=>decide (c y x<0)) x out)=true
 | [],_,_=>by simp [a0c,asc]
 | y::r,h,hne=>by
   by_cases hp:c y x<0
   ·have ih:=b7y c hanti x r (by cases r with | nil=>simp [asc] | cons z r=>simp [asc] at h; exact h.2) (by
     intro z hz
     refine hne z ?_
     simpa [hp] using hz)
    have e:a0c (fun y=>decide (c y x<0)) x (y::r)=y::a0c (fun y=>decide (c y x<0)) x r:=by simp [a0c,hp]
    rw [e]
    cases r with
    | nil=>simp [a0c,asc,hp]
    | cons z r =>
      simp only [asc,Bool.and_eq_true,decide_eq_true_eq] at h
      by_cases hz:c z x<0
      ·have e2:a0c (fun y=>decide (c y x<0)) x (z::r)=z::a0c (fun y=>decide (c y x<0)) x r:=by simp [a0c,hz]
       rw [e2] at ih ⊢
       simp only [asc,Bool.and_eq_true,decide_eq_true_eq]
       exact ⟨h.1,ih⟩
      ·have e2:a0c (fun y=>decide (c y x<0)) x (z::r)=x::z::r:=by simp [a0c,hz]
       rw [e2] at ih ⊢
       simp only [asc,Bool.and_eq_true,decide_eq_true_eq] at ih ⊢
       exact ⟨hp,ih⟩
   ·have e:a0c (fun y=>decide (c y x<0)) x (y::r)=x::y::r:=by simp [a0c,hp]
    have hy:=hne y (by simp [hp])
    have ha:=hanti y x
    rw [e]
    simp only [asc,Bool.and_eq_true,decide_eq_true_eq]
    exact ⟨by omega,h⟩
theorem c37 {α:Type}{p:α->Bool}{x y:α}{out:List α}(h:y∈a0c p x out):y=x\/y∈out:=by
 have e:=List.takeWhile_append_dropWhile (p:=p) (l:=out)
 simp only [a0c,List.mem_append,List.mem_singleton] at h
 rcases h with (h | h) | h
 ·exact .inr (by rw [<- e]; exact List.mem_append_left _ h)
 ·exact .inl h
 ·exact .inr (by rw [<- e]; exact List.mem_append_right _ h)
theorem b3B {α:Type}(p:α->Bool)(x:α)(out:List α):(a0c p x out).length=out.length+1:=by
 have e:=congrArg List.length (List.takeWhile_append_dropWhile (p:=p) (l:=out))
 simp only [List.length_append] at e
 simp only [a0c,List.length_append,List.length_singleton]
 omega
theorem c7G {α:Type}(l:List α){k:Nat}(h:k<=l.length):cut l 0 (k:Int)=some (l.take k):=by
 unfold cut
 rw [if_pos ⟨by omega,by omega,by omega⟩]
 simp
theorem c7i {α:Type}(l:List α){k:Nat}(h:k<=l.length):cut l (k:Int) (l.length:Int)=some (l.drop k):=by
 unfold cut
 rw [if_pos ⟨by omega,by omega,by omega⟩]
 simp
theorem c66 {α β:Type}(out:List α)(x:α)(p:α->Bool)(b:Nat)(hb:b<=1024)(hl:out.length<=4194304)(f:List α->Option β) :
 (Option.bind (cut out 0 ((out.takeWhile p).length:Int)) fun u=>Option.bind (v7 (0+u.length) b) fun _ =>
   Option.bind (v7 (u.length+[x].length) b) fun _=>Option.bind (cut out ((out.takeWhile p).length:Int) (out.length:Int)) fun w =>
   Option.bind (v7 ((u++[x]).length+w.length) b) fun _=>f ((u++[x])++w))=f (a0c p x out):=by
 have hk:=c0B p out
 have rm:∀ n,n<=4194305->v7 n b=some ():=fun n hn=>b3Q (by
  have:n*b<=4194305*1024:=Nat.mul_le_mul hn hb
  omega)
 rw [c7G out hk,c7i out hk,c1L,c1F]
 have hl2:=b3B p x out
 simp only [a0c,List.length_append,List.length_singleton] at hl2
 simp only [Option.bind_some]
 rw [rm _ (by simp; omega),rm _ (by simp; omega),rm _ (by simp only [List.length_append,List.length_singleton]; omega)]
 rfl
end Go.Pl
end
section
namespace Go.Pl
open Go Go.RowKit Go.Sx Go.Qx
theorem c2N (c:UInt8):a1W (c.toNat:Int)=some (a4x c):=by
 unfold a1W a4x
 cases decide (97<=(c.toNat:Int))<;>simp
theorem c2T (c:UInt8):a1V (c.toNat:Int)=some (a5r c):=by
 unfold a1V a5r
 cases decide (48<=(c.toNat:Int))<;>simp
theorem c2h (a b:Key):cK a b=lx (eK a) (eK b):=by
 have:=pfK a b [] []
 simpa [lx,c1V] using this.symm
theorem c6A (a b:Key):cK b a = - cK a b:=by rw [c2h,c2h]; exact b7X _ _
end Go.Pl
namespace Go.Pl
open Go Go.RowKit Go.Sx Go.Qx
theorem b8T (c:UInt8):a0R (c.toNat:Int)=some (upC c):=by
 unfold a0R upC
 cases decide (65<=(c.toNat:Int))<;>simp
theorem c2J (s:ByteArray):a0z s=some (a2q s):=by
 unfold a0z a2q b3x
 simp only [b0x,c1I]
 have hsz:=b8O s
 cases hs:s.data.toList with
 | nil =>
   rw [hs] at hsz
   rw [hsz]
   simp
 | cons c r =>
   rw [hs] at hsz
   simp only [List.length_cons] at hsz
   have e1:decide ((s.size:Int)<1)=false:=by simp; omega
   rw [e1]
   simp only [Bool.false_eq_true,if_false,Option.bind_some]
   by_cases hb:16<(s.size:Int)
   ·rw [if_pos (by simpa using hb)]
    have:decide (r.length<=15)=false:=by simp; omega
    rw [this]; rfl
   ·rw [if_neg (by simpa using hb)]
    have e2:decide (r.length<=15)=true:=by simp; omega
    have e3:a4H s 0=some c:=b3N (i:=0) (by rw [hs]; rfl)
    rw [e2,e3]
    simp only [Option.bind_some,b8T,Bool.true_and]
    cases upC c
    ·rfl
    ·simp only [Bool.not_true,Bool.false_eq_true,if_false,Bool.true_and]
     refine c04 s.size (fun i=>match s.data.toList[i]? with | some x=>(a4x x||upC x||a5r x||(x.toNat:Int)==95) | none=>true) ?_ ?_ 1 _ ?_
     ·intro i hi
      have hi':i<s.data.toList.length:=by rw [hs]; simp; omega
      unfold a03
      simp only [b0x,a6X]
      rw [if_pos (by simp; omega),b3N (List.getElem?_eq_getElem hi')]
      simp only [Option.bind_some,c2N,c2T,b8T]
      rw [List.getElem?_eq_getElem hi',a1k i (by omega)]
      generalize s.data.toList[i]=x
      have hn:((x.toNat:Int) != 95)=!((x.toNat:Int)==95):=rfl
      rw [hn]
      show _=some (if (a4x x||upC x||a5r x||(x.toNat:Int)==95)=true then _ else _)
      cases a4x x<;>cases upC x<;>cases a5r x<;>cases (x.toNat:Int)==95<;>rfl
     ·intro i hi
      unfold a03
      rw [b0x,if_neg (by simp; omega)]
     ·rw [hs,List.all_eq_true]
      constructor
      ·intro h i h1 hi
       obtain ⟨i,rfl⟩:∃ m,i=m+1:=⟨i-1,by omega⟩
       have hr:i<r.length:=by omega
       simp only [List.getElem?_cons_succ,List.getElem?_eq_getElem hr]
       exact h _ (List.getElem_mem hr)
      ·intro h x hx
       obtain ⟨i,hi,rfl⟩:=List.getElem_of_mem hx
       have:=h (i+1) (by omega) (by omega)
       simpa only [List.getElem?_cons_succ,List.getElem?_eq_getElem hi] using this
end Go.Pl
end
section
namespace Go.Pl
open Go Go.RowKit Go.Sx Go.Qx
section
variable {L:List Int}
def chk (o:Option (List ByteArray)):Bool :=
 match o with
 | some l=>c0a l&&decide (b5c l<=4)
 | none=>false
theorem c3q {o:Option (List ByteArray)}(h:chk o=true):∃ l,o=some l/\c0a l=true/\b5c l<=4:=by
 cases o with
 | none=>cases h
 | some l=>simp only [chk,Bool.and_eq_true,decide_eq_true_eq] at h; exact ⟨l,rfl,h⟩
def hb:Nat->Nat
 | 0=>32
 | h+1=>64+8*hb h
end
end Go.Pl
namespace Go.Pl
open Go Go.RowKit Go.Sx Go.Qx
end Go.Pl
end
section
namespace Go.Pl
open Go Go.RowKit Go.Sx Go.Qx
theorem c2g {a b:ByteArray}(h:cS a b=0):a=b:=by
 rcases b2Z a.data.toList b.data.toList with ⟨_,e,_⟩ | ⟨_,_,e⟩ | ⟨_,e,_⟩
 ·have:cS a b = -1:=e
  omega
 ·exact ByteArray.ext (Array.toList_inj.1 e)
 ·have:cS a b=1:=e
  omega
theorem c73 {a b:Key}(h:cK a b=0):a=b:=by
 obtain ⟨k,t⟩:=a
 obtain ⟨k2,t2⟩:=b
 unfold cK tn at h
 simp only at h
 rcases a4b k k2 with ⟨_,e⟩ | ⟨_,e⟩ | ⟨p,e⟩
 ·rw [e] at h; simp at h
 ·rw [e] at h; simp at h
 ·rw [e,if_pos rfl] at h
  rw [p,c2g h]
theorem c4E (a b c:Key)(h1:cK a b<=0)(h2:cK b c<=0):cK a c<=0:=by rw [c2h] at *; exact b5p _ _ _ h1 h2
theorem c3w {a b c:Key}(h1:cK a b<0)(h2:cK b c<=0):cK a c<0:=by
 have h3:=c4E a b c (by omega) h2
 by_cases h:cK a c=0
 ·have:=c73 h
  subst this
  have:=c6A a b
  omega
 ·omega
abbrev ltK (a b:Key):Prop:=cK a b<0
theorem asc_pw:∀ l:List Key,asc cK l=true↔l.Pairwise ltK
 | []=>by simp [asc]
 | [a]=>by simp [asc]
 | a::b::r=>by
   have ih:=asc_pw (b::r)
   simp only [asc,Bool.and_eq_true,decide_eq_true_eq]
   rw [ih,List.pairwise_cons (a:=a)]
   constructor
   ·intro ⟨h1,h2⟩
    refine ⟨fun x hx=>?_,h2⟩
    rcases List.mem_cons.1 hx with rfl | hx
    ·exact h1
    ·have:=(List.pairwise_cons.1 h2).1 x hx
     exact c3w h1 (by unfold ltK at this; omega)
   ·intro ⟨h1,h2⟩
    exact ⟨h1 b (by simp),h2⟩
end Go.Pl
end
section
namespace Go.Pl
open Go Go.RowKit Go.Sx Go.Qx
structure CmpOk {α:Type}(c:α->α->Int):Prop where
 anti:∀ a b,c b a = - c a b
 trans:∀ a b d,c a b<=0->c b d<=0->c a d<=0
 eq0:∀ a b,c a b=0->a=b
theorem c2X (a b:ByteArray):cS a b=lx (eS a) (eS b):=by
 have:=pfS a b [] []
 simpa [lx,c1V] using this.symm
theorem b9W:CmpOk cS:=⟨fun a b=>by rw [c2X,c2X]; exact b7X _ _,fun a b d h1 h2=>by rw [c2X] at *; exact b5p _ _ _ h1 h2,fun _ _ h=>c2g h⟩
section
variable {α:Type}{c:α->α->Int}(hc:CmpOk c)
include hc
theorem CmpOk.self (a:α):c a a=0:=by have:=hc.anti a a; omega
theorem CmpOk.strict {a b d:α}(h1:c a b<0)(h2:c b d<=0):c a d<0:=by
 have h3:=hc.trans a b d (by omega) h2
 by_cases h:c a d=0
 ·have:=hc.eq0 _ _ h
  subst this
  have:=hc.anti a b
  omega
 ·omega
theorem CmpOk.asc_pw:∀ l:List α,asc c l=true↔l.Pairwise fun a b=>c a b<0
 | []=>by simp [asc]
 | [a]=>by simp [asc]
 | a::b::r=>by
   have ih:=CmpOk.asc_pw (b::r)
   simp only [asc,Bool.and_eq_true,decide_eq_true_eq]
   rw [ih,List.pairwise_cons (a:=a)]
   constructor
   ·intro ⟨h1,h2⟩
    refine ⟨fun x hx=>?_,h2⟩
    rcases List.mem_cons.1 hx with rfl | hx
    ·exact h1
    ·have:=(List.pairwise_cons.1 h2).1 x hx
     exact hc.strict h1 (by omega)
   ·intro ⟨h1,h2⟩
    exact ⟨h1 b (by simp),h2⟩
theorem CmpOk.nodup {l:List α}(h:l.Pairwise fun a b=>c a b<0):l.Nodup:=h.imp fun {a b} h e=>by
 subst e
 have:=hc.self a
 omega
omit hc in
def a23 (c:α->α->Int)(out:List α)(x:α):List α :=
 match (out.dropWhile (fun y=>decide (c y x<0))).head? with
 | some y=>if c y x=0 then out else a0c (fun y=>decide (c y x<0)) x out
 | none=>a0c (fun y=>decide (c y x<0)) x out
omit hc in
theorem b8I {p:α->Bool}{x y:α}{out:List α}:y∈a0c p x out↔y=x\/y∈out:=by
 constructor
 ·exact c37
 ·intro h
  have e:=List.takeWhile_append_dropWhile (p:=p) (l:=out)
  simp only [a0c,List.mem_append,List.mem_singleton]
  rcases h with h | h
  ·exact .inl (.inr h)
  ·rw [<- e] at h
   rcases List.mem_append.1 h with h | h
   ·exact .inl (.inl h)
   ·exact .inr h
theorem c4J {x y:α}{out:List α}:y∈a23 c out x↔y=x\/y∈out:=by
 unfold a23
 split
 ·rename_i z hz
  split
  ·rename_i h0
   have:=hc.eq0 _ _ h0
   subst this
   have hm:z∈out:=(List.dropWhile_sublist _).subset (List.mem_of_mem_head? hz)
   constructor
   ·exact .inr
   ·rintro (rfl | h)
    ·exact hm
    ·exact h
  ·exact b8I
 ·exact b8I
theorem c4s (out:List α)(x:α)(h:asc c out=true):asc c (a23 c out x)=true:=by
 unfold a23
 split
 ·rename_i y hy
  split
  ·exact h
  ·rename_i hne
   refine b7y c hc.anti x out h (fun z hz=>?_)
   rw [hy] at hz
   cases hz
   exact hne
 ·rename_i hy
  refine b7y c hc.anti x out h (fun z hz=>?_)
  rw [hy] at hz; cases hz
theorem c5g:∀ (xs out:List α),asc c out=true->asc c (xs.foldl (a23 c) out)=true/\∀ y,y∈xs.foldl (a23 c) out↔y∈out\/y∈xs
 | [],out,h=>⟨h,fun y=>by simp⟩
 | x::r,out,h=>by
   obtain ⟨h1,h2⟩:=c5g r (a23 c out x) (c4s hc out x h)
   refine ⟨h1,fun y=>?_⟩
   rw [List.foldl_cons,h2,c4J hc,List.mem_cons]
   constructor
   ·rintro ((h | h) | h)
    ·exact .inr (.inl h)
    ·exact .inl h
    ·exact .inr (.inr h)
   ·rintro (h | h | h)
    ·exact .inl (.inr h)
    ·exact .inl (.inl h)
    ·exact .inr h
theorem c8J (xs:List α):asc c (xs.foldl (a23 c) [])=true/\∀ y,y∈xs.foldl (a23 c) []↔y∈xs:=by
 obtain ⟨h1,h2⟩:=c5g hc xs [] rfl
 exact ⟨h1,fun y=>by rw [h2]; simp⟩
omit hc in
def dd (r:α->α->Bool):α->List α->List α
 | _,[]=>[]
 | p,x::l=>if r x p=true then dd r x l else x::dd r x l
end
end Go.Pl
namespace Go.Pl
open Go Go.RowKit Go.Sx Go.Qx
theorem b05 (x y:ByteArray):Q3 x y=decide (cS x y=0):=by
 rcases b8R x y with ⟨_,h,e⟩ | ⟨_,h,e⟩ | ⟨_,h,e⟩<;>simp [h,e]
theorem c4Q (x y:ByteArray):a01 x y=decide (cS x y<0):=by
 rcases b8R x y with ⟨h,_,e⟩ | ⟨h,_,e⟩ | ⟨h,_,e⟩<;>simp [h,e]
theorem c1p (l out:List ByteArray)(i:Nat)(x:ByteArray)(hx:l[i]?=some x)(hl:out.length<=4194304)(hi:i<=4194304) :
 K1 l (out,(i:Int))=some (.next (a23 cS out x,((i+1:Nat):Int))):=by
 have hlt:i<l.length:=(List.getElem?_eq_some_iff.1 hx).1
 have hix:idx l (i:Int)=some x:=a3D hx
 unfold K1
 simp only [a7E]
 rw [c65 (step:=a0K l (out,(i:Int))) out (fun y=>decide (cS y x<0)) ?_ ?_]
 ·simp only [b0x,a6X]
  rw [if_pos (by simp; omega)]
  simp only [Option.bind_some,hix]
  have hk:=c0B (fun y=>decide (cS y x<0)) out
  have hat:=c5Q (fun y=>decide (cS y x<0)) out
  have go:(Option.bind (cut out 0 ((out.takeWhile (fun y=>decide (cS y x<0))).length:Int)) fun u=>Option.bind (v7 (0+u.length) 16) fun _ =>
   Option.bind (v7 (u.length+[x].length) 16) fun _=>Option.bind (cut out ((out.takeWhile (fun y=>decide (cS y x<0))).length:Int) (out.length:Int)) fun w =>
   Option.bind (v7 ((u++[x]).length+w.length) 16) fun _=>some ((u++[x])++w))=some (a0c (fun y=>decide (cS y x<0)) x out) :=
   c66 out x _ 16 (by omega) hl (fun l=>some l)
  rw [a1k i (by omega),go]
  unfold a23
  cases hh:(out.dropWhile (fun y=>decide (cS y x<0))).head? with
  | none =>
    rw [hh] at hat
    have hge:=List.getElem?_eq_none_iff.1 hat
    rw [if_neg (by simp; omega)]
    rfl
  | some y =>
    rw [hh] at hat
    have hlt2:=(List.getElem?_eq_some_iff.1 hat).1
    rw [if_pos (by simp; omega),a3D hat]
    simp only [Option.bind_some,b05]
    by_cases h0:cS y x=0
    ·rw [if_pos (by simp [h0]),if_pos h0]
     rfl
    ·rw [if_neg (by simp [h0]),if_neg h0]
     rfl
 ·intro j y hy
  have hj:j<out.length:=(List.getElem?_eq_some_iff.1 hy).1
  unfold a0K
  simp only [b0x,a6X]
  rw [if_pos (by simp; omega),a3D hy,hix]
  simp only [Option.bind_some,c4Q,a1k j (by omega)]
  by_cases h:cS y x<0<;>simp [h]
 ·unfold a0K
  simp
theorem c4m {α:Type}(c:α->α->Int)(out:List α)(x:α):(a23 c out x).length<=out.length+1:=by
 unfold a23
 split
 ·split
  ·omega
  ·rw [b3B]; omega
 ·rw [b3B]; omega
theorem c3W (l:List ByteArray)(hl:l.length<=4194304):a1F l=some (l.foldl (a23 cS) []):=by
 unfold a1F
 have key:=c34 (σ:=List ByteArray) (step:=K1 l) l (fun s i=>(s,(i:Int))) (a23 cS) (fun i s=>s.length<=i) (fun s=>s)
  ?_ ?_ [] (by simp) _ (Nat.le_refl _)
 ·have e:y2 (K1 l) (l.length+1) (([]:List ByteArray),0)=y2 (K1 l) (l.length+1) (([]:List ByteArray),((0:Nat):Int)):=rfl
  rw [a7E,e,key]
  rfl
 ·intro i s x hx hI
  have hi:i<l.length:=(List.getElem?_eq_some_iff.1 hx).1
  refine ⟨c1p l s i x hx (by omega) (by omega),?_⟩
  have:=c4m cS s x
  omega
 ·intro s _
  unfold K1
  simp
end Go.Pl
end
section
namespace Go.Pl
open Go Go.RowKit Go.Sx Go.Qx
theorem a8p {α:Type} [DecidableEq α]:∀ (l s:List α),s.Nodup->(∀ x∈s,x∈l)->s.length<=l.length/\(¬ l.Nodup->s.length<l.length)
 | [],s,_,h=>by
   have:s=[]:=List.eq_nil_iff_forall_not_mem.2 fun x hx=>by cases h x hx
   subst this
   exact ⟨Nat.le_refl _,fun h=>absurd List.nodup_nil h⟩
 | a::r,s,hs,h=>by
   have h1:(s.erase a).Nodup:=hs.erase a
   have h2:∀ x∈s.erase a,x∈r:=fun x hx=>by
    obtain ⟨e1,e2⟩:=hs.mem_erase_iff.1 hx
    rcases List.mem_cons.1 (h x e2) with e | e
    ·exact absurd e e1
    ·exact e
   obtain ⟨i1,i2⟩:=a8p r (s.erase a) h1 h2
   have hlen:s.length<=(s.erase a).length+1:=by
    by_cases ha:a∈s
    ·rw [List.length_erase_of_mem ha]; omega
    ·rw [List.erase_of_not_mem ha]; omega
   refine ⟨by rw [List.length_cons]; omega,fun hn=>?_⟩
   rw [List.length_cons]
   by_cases ha:a∈r
   ·obtain ⟨j1,_⟩:=a8p r s hs fun x hx=>by
     rcases List.mem_cons.1 (h x hx) with e | e
     ·rw [e]; exact ha
     ·exact e
    omega
   ·have:¬ r.Nodup:=fun hr=>hn (List.nodup_cons.2 ⟨ha,hr⟩)
    have:=i2 this
    omega
def srN (l:List ByteArray):List ByteArray:=l.foldl (a23 cS) []
theorem c3R (l:List ByteArray):(srN l).length<l.length↔¬ l.Nodup:=by
 obtain ⟨h1,h2⟩:=c8J (c:=cS) b9W l
 have hn:(srN l).Nodup:=b9W.nodup ((b9W.asc_pw _).1 h1)
 have hm:∀ y,y∈srN l↔y∈l:=h2
 constructor
 ·intro h hl
  obtain ⟨k1,_⟩:=a8p (srN l) l hl fun x hx=>(hm x).2 hx
  omega
 ·exact (a8p l (srN l) hn fun x hx=>(hm x).1 hx).2
theorem c2B (l:List ByteArray):l.Nodup↔∀ i (h:i<l.length),l[i] ∉ l.take i:=by
 rw [List.nodup_iff_pairwise_ne,List.pairwise_iff_getElem]
 constructor
 ·intro h i hi hm
  obtain ⟨j,hj,e⟩:=List.getElem_of_mem hm
  rw [List.length_take] at hj
  have:=h j i (by omega) hi (by omega)
  rw [List.getElem_take] at e
  exact this e
 ·intro h i j hi hj hij e
  refine h j hj ?_
  rw [<- e]
  exact List.mem_of_getElem? (i:=i) (by rw [List.getElem?_take_of_lt hij]; exact List.getElem?_eq_getElem hi)
end Go.Pl
end
section
namespace Go.Pl
open Go Go.RowKit Go.Sx Go.Qx
end Go.Pl
end
section
namespace Go.Pl
open Go Go.RowKit Go.Sx Go.Qx
def inR (N:Nat)(k:Int):Bool:=decide (0<=k)&&decide (k<(N:Int))
def c15 (N:Nat)(l:List Api_Field):Bool:=asc cK (l.map (·.Key_))&&(l.all (fun f=>c2a f.Key_)&&l.all fun f=>inR N f.Node)
def c5i (N:Nat)(x:Api_TypeNode):Bool :=
 if x.Kind=3 then x.Kids.isEmpty&&decide (x.Lo<=x.Hi) else if x.Kind=4 then x.Kids.isEmpty&&decide ((x.Text.size:Int)<=64) else
 if x.Kind=6 then x.Kids.isEmpty&&c01 x.Text else if x.Kind=19 then x.Kids.isEmpty&&a2q x.Text else
 if x.Kind=1\/x.Kind=2\/x.Kind=5\/x.Kind=7\/x.Kind=8\/x.Kind=9\/x.Kind=11\/x.Kind=15 then x.Kids.isEmpty else
 if x.Kind=10 then decide ((x.Kids.length:Int)<=4) else if x.Kind=12 then (x.Kids.length:Int)==2 else
 if x.Kind=14 then decide (1<=(x.Kids.length:Int))&&decide ((x.Kids.length:Int)<=5) else
 if x.Kind=16\/x.Kind=17 then decide (1<=(x.Kids.length:Int)) else if x.Kind=18 then (x.Kids.length:Int)==1 else
 if x.Kind=13 then c15 N x.Fields&&(x.Kids.isEmpty&&(inR N x.Rest.1&&inR N x.Rest.2)) else false
def c2Q (r:Int×Int):Bool:=r.1==0&&r.2==0
def b0u (N:Nat)(x:Api_TypeNode):Bool :=
 x.Kids.all (inR N)&&((x.Kind==3||(x.Lo==0&&x.Hi==0))&&((x.Kind==4||x.Kind==6||x.Kind==19||Q3 x.Text ⟨#[]⟩)&&((x.Kind==13||(x.Fields.isEmpty&&c2Q x.Rest))&&c5i N x)))
theorem c4G {α:Type}(l:List α):((l.length:Int)==0)=l.isEmpty:=by cases l<;>simp<;>omega
theorem a5k {i n:Nat}(h:i<n):decide ((i:Int)<(n:Int))=true:=decide_eq_true (by omega)
end Go.Pl
namespace Go.Pl
open Go Go.RowKit Go.Sx Go.Qx
end Go.Pl
namespace Go.Pl
open Go Go.RowKit Go.Sx Go.Qx
def isB (x:Api_TypeNode):Bool:=x.Kind==16||x.Kind==17||x.Kind==18
def c7j (ns:List Api_TypeNode):Bool:=ns.all (b0u ns.length)
theorem c3a {N:Nat}{x:Api_TypeNode}(h:b0u N x=true):∀ k∈x.Kids,inR N k=true:=by
 unfold b0u at h
 simp only [Bool.and_eq_true] at h
 exact List.all_eq_true.1 h.1
theorem c6C {N:Nat}{k:Int}(h:inR N k=true):∃ j:Nat,k=(j:Int)/\j<N:=by
 unfold inR at h
 simp only [Bool.and_eq_true,decide_eq_true_eq] at h
 exact ⟨k.toNat,by omega,by omega⟩
def Gd (ns:List Api_TypeNode)(D:Nat->Prop):Prop:=∃ r:Nat->Nat,∀ (i:Nat) (x:Api_TypeNode),D i->ns[i]?=some x->isB x=true->∀ k∈x.Kids,D k.toNat/\r k.toNat<r i
theorem c1D (r:Nat->Nat):∀ (l:List Int) (k:Int),k∈l->r k.toNat<=(l.map fun k=>r k.toNat).sum
 | [],_,h=>by cases h
 | y::l,k,h=>by
   rw [List.map_cons,List.sum_cons]
   rcases List.mem_cons.1 h with rfl | h
   ·omega
   ·have:=c1D r l k h; omega
theorem Gd.add {ns:List Api_TypeNode}{D D':Nat->Prop}(h:Gd ns D){i:Nat}{x:Api_TypeNode}(hx:ns[i]?=some x)(hk:isB x=true->∀ k∈x.Kids,D k.toNat)(hD:∀ j,D' j↔D j\/j=i):Gd ns D':=by
 obtain ⟨r,hr⟩:=h
 by_cases hi:D i
 ·have e:∀ j,D' j↔D j:=fun j=>(hD j).trans ⟨fun h=>h.elim id (fun h=>by rw [h]; exact hi),.inl⟩
  exact ⟨r,fun j y h1 h2 h3 k h4=>by
   obtain ⟨k1,k2⟩:=hr j y ((e j).1 h1) h2 h3 k h4
   exact ⟨(e _).2 k1,k2⟩⟩
 ·refine ⟨fun j=>if j=i then 1+(x.Kids.map fun k=>r k.toNat).sum else r j,fun j y h1 h2 h3 k h4=>?_⟩
  by_cases hj:j=i
  ·subst hj
   rw [hx] at h2
   cases h2
   have hDk:=hk h3 k h4
   have hne:k.toNat≠j:=fun e=>hi (e▸hDk)
   refine ⟨(hD _).2 (.inl hDk),?_⟩
   simp only [if_neg hne,if_true]
   have:=c1D r x.Kids k h4
   omega
  ·obtain ⟨k1,k2⟩:=hr j y (((hD j).1 h1).resolve_right hj) h2 h3 k h4
   have hne:k.toNat≠i:=fun e=>hi (e▸k1)
   refine ⟨(hD _).2 (.inl k1),?_⟩
   simp only [if_neg hne,if_neg hj]
   exact k2
end Go.Pl
namespace Go.Pl
open Go Go.RowKit Go.Sx Go.Qx
end Go.Pl
end
section
namespace Go.Pl
open Go Go.RowKit Go.Sx Go.Qx
structure GN (N i:Nat)(x:Api_TypeNode):Prop where
 ok:b0u N x=true
 ord:isB x=true->∀ k∈x.Kids,(i:Int)<k
 kids:x.Kids.length<=4
 text:x.Text.size<=5
 flds:x.Fields.length<=3
 keys:∀ f∈x.Fields,c6D f.Key_<=8
 rng : -9223372036854775808<=x.Lo/\x.Lo<=9223372036854775807 /\ -9223372036854775808<=x.Hi/\x.Hi<=9223372036854775807
theorem b0N {N M:Nat}(h:N<=M){k:Int}(hk:inR N k=true):inR M k=true:=by
 unfold inR at *
 simp only [Bool.and_eq_true,decide_eq_true_eq] at *
 omega
theorem c0d {α:Type}{p q:α->Bool}{l:List α}(h:∀ x,p x=true->q x=true)(k:l.all p=true):l.all q=true:=List.all_eq_true.2 fun x hx=>h x (List.all_eq_true.1 k x hx)
theorem c26 {N M:Nat}(h:N<=M){x:Api_TypeNode}(hx:b0u N x=true):b0u M x=true:=by
 unfold b0u at *
 simp only [Bool.and_eq_true] at *
 refine ⟨c0d (fun k=>b0N h) hx.1,hx.2.1,hx.2.2.1,hx.2.2.2.1,?_⟩
 have hk:=hx.2.2.2.2
 unfold c5i at *
 split<;>rename_i h3
 ·rwa [if_pos h3] at hk
 rw [if_neg h3] at hk
 split<;>rename_i h4
 ·rwa [if_pos h4] at hk
 rw [if_neg h4] at hk
 split<;>rename_i h6
 ·rwa [if_pos h6] at hk
 rw [if_neg h6] at hk
 split<;>rename_i h19
 ·rwa [if_pos h19] at hk
 rw [if_neg h19] at hk
 split<;>rename_i hs
 ·rwa [if_pos hs] at hk
 rw [if_neg hs] at hk
 split<;>rename_i h10
 ·rwa [if_pos h10] at hk
 rw [if_neg h10] at hk
 split<;>rename_i h12
 ·rwa [if_pos h12] at hk
 rw [if_neg h12] at hk
 split<;>rename_i h14
 ·rwa [if_pos h14] at hk
 rw [if_neg h14] at hk
 split<;>rename_i h16
 ·rwa [if_pos h16] at hk
 rw [if_neg h16] at hk
 split<;>rename_i h18
 ·rwa [if_pos h18] at hk
 rw [if_neg h18] at hk
 split<;>rename_i h13
 ·rw [if_pos h13] at hk
  unfold c15 at *
  simp only [Bool.and_eq_true] at *
  exact ⟨⟨hk.1.1,hk.1.2.1,c0d (fun f=>b0N h) hk.1.2.2⟩,hk.2.1,b0N h hk.2.2.1,b0N h hk.2.2.2⟩
 ·rwa [if_neg h13] at hk
theorem GN.mono {N M i:Nat}{x:Api_TypeNode}(h:GN N i x)(k:N<=M):GN M i x:=⟨c26 k h.ok,h.ord,h.kids,h.text,h.flds,h.keys,h.rng⟩
end Go.Pl
namespace Go.Pl
open Go Go.RowKit Go.Sx Go.Qx
section
variable {L:List Int}
def GNs (N:Nat)(ns:List Api_TypeNode):Prop:=∀ (i:Nat) (x:Api_TypeNode),ns[i]?=some x->GN N i x
end
end Go.Pl
end
section
namespace Go.Pl
open Go Go.RowKit Go.Sx Go.Qx
end Go.Pl
namespace Go.Pl
open Go Go.RowKit Go.Sx Go.Qx
structure GT (t:Api_Type):Prop where
 len:t.Nodes.length<=10
 nodes:GNs t.Nodes.length t.Nodes
end Go.Pl
namespace Go.Pl
open Go Go.RowKit Go.Sx Go.Qx
end Go.Pl
end
section
namespace Go.Pl
open Go Go.RowKit Go.Sx Go.Qx
theorem c6w {α β:Type}{step:Int->Option (Fl Int (Sum Unit β))}(xs:List α)(p:α->Bool)(out:Nat->α->β)
 (hst:∀ (i:Nat) (x:α),xs[i]?=some x->step (i:Int)=some (if p x=true then .done (.inr (out i x)) else .next ((i+1:Nat):Int)))
 (hend:step (xs.length:Int)=some (.done (.inl ()))) :
 (∃ i x,xs[i]?=some x/\p x=true/\(∀ j,j<i->∀ y,xs[j]?=some y->p y=false)/\y2 step (xs.length+1) 0=some (.inr (out i x)))\/(xs.any p=false/\y2 step (xs.length+1) 0=some (.inl ())):=by
 have key:∀ (m a k:Nat),a+m=xs.length->m+1<=k->(∀ j,j<a->∀ y,xs[j]?=some y->p y=false) ->
  (∃ i x,xs[i]?=some x/\p x=true/\(∀ j,j<i->∀ y,xs[j]?=some y->p y=false)/\y2 step k (a:Int)=some (.inr (out i x)))\/(xs.any p=false/\y2 step k (a:Int)=some (.inl ())):=by
  intro m
  induction m with
  | zero =>
    intro a k h1 h2 h3
    obtain ⟨k,rfl⟩:∃ m,k=m+1:=⟨k-1,by omega⟩
    have e:a=xs.length:=by omega
    subst e
    refine .inr ⟨?_,by simp only [y2,hend,Option.bind_some]⟩
    rw [List.any_eq_false]
    intro x hx
    obtain ⟨j,hj,rfl⟩:=List.getElem_of_mem hx
    have:=h3 j hj _ (List.getElem?_eq_getElem hj)
    simp [this]
  | succ m ih =>
    intro a k h1 h2 h3
    obtain ⟨k,rfl⟩:∃ m,k=m+1:=⟨k-1,by omega⟩
    have ha:a<xs.length:=by omega
    have ex:=List.getElem?_eq_getElem ha
    have hs:=hst a _ ex
    cases hp:p xs[a] with
    | true =>
      rw [if_pos hp] at hs
      exact .inl ⟨a,xs[a],ex,hp,h3,by simp only [y2,hs,Option.bind_some]⟩
    | false =>
      rw [if_neg (by simp [hp])] at hs
      simp only [y2,hs,Option.bind_some]
      refine ih (a+1) k (by omega) (by omega) fun j hj y hy=>?_
      by_cases hja:j=a
      ·subst hja
       rw [ex] at hy
       cases hy
       exact hp
      ·exact h3 j (by omega) y hy
 exact key xs.length 0 (xs.length+1) (by omega) (Nat.le_refl _) (fun j hj=>by omega)
theorem c6S {α:Type}{xs:List α}{p:α->Bool}{i:Nat}{x:α}(h:xs[i]?=some x)(hp:p x=true):xs.any p=true:=List.any_eq_true.2 ⟨x,List.mem_of_getElem? h,hp⟩
theorem c8y (i:Nat):decide ((0:Int)<=(i:Int))=true:=decide_eq_true (by omega)
theorem c3P (a b:ByteArray):Q3 a b=Q3 b a:=by
 rw [b05,b05]
 have:cS b a = - cS a b:=b9W.anti a b
 by_cases h:cS a b=0
 ·simp [h,this]
 ·have h2:¬ cS b a=0:=by omega
  simp [h,h2]
theorem c23 (l:List ByteArray)(k:ByteArray)(hl:l.length<=4194304):J6 l k=some (l.any fun y=>Q3 y k):=by
 unfold J6 a0O
 rw [a7E]
 rcases c6w (step:=W1 l k) l (fun y=>Q3 y k) (fun i _=>(i:Int)) (fun i x hx=>by
  have hi:i<l.length:=(List.getElem?_eq_some_iff.1 hx).1
  unfold W1
  rw [a5k hi,a3D hx]
  simp only [cond_true,Option.bind_some,a6X]
  rw [a1k i (by omega),c3P k x]
  cases Q3 x k<;>rfl) (by
  unfold W1
  simp) with ⟨i,x,hx,hp,_,e⟩ | ⟨h,e⟩
 ·rw [e,c6S hx hp]
  simp only [Option.bind_some,Y5,c8y]
 ·rw [e,h]
  rfl
end Go.Pl
namespace Go.Pl
open Go Go.RowKit Go.Sx Go.Qx
end Go.Pl
namespace Go.Pl
open Go Go.RowKit Go.Sx Go.Qx
structure GM (t:Api_Type):Prop where
 len:t.Nodes.length<=20
 nodes:GNs t.Nodes.length t.Nodes
theorem GT.gm {t:Api_Type}(h:GT t):GM t:=⟨by have:=h.len; omega,h.nodes⟩
instance (t:Api_Type):Coe (GT t) (GM t):=⟨GT.gm⟩
section
variable {t:Api_Type}
theorem GM.ord (hT:GM t){k:Nat}{x:Api_TypeNode}(hx:t.Nodes[k]?=some x)(hb:isB x=true){j:Int}(hj:j∈x.Kids):∃ j':Nat,j=(j':Int)/\k<j'/\j'<t.Nodes.length:=by
 have hg:=hT.nodes k x hx
 obtain ⟨j',e,h1⟩:=c6C (c3a hg.ok j hj)
 have:=hg.ord hb j hj
 exact ⟨j',e,by omega,h1⟩
end
end Go.Pl
namespace Go.Pl
open Go Go.RowKit Go.Sx Go.Qx
section
variable {t:Api_Type}
theorem GM.all (hT:GM t):c7j t.Nodes=true:=List.all_eq_true.2 fun x hx=>by
 obtain ⟨i,hi,rfl⟩:=List.getElem_of_mem hx
 exact (hT.nodes i _ (List.getElem?_eq_getElem hi)).ok
theorem GT.ord (hT:GT t){k:Nat}{x:Api_TypeNode}(hx:t.Nodes[k]?=some x)(hb:isB x=true){j:Int}(hj:j∈x.Kids):∃ j':Nat,j=(j':Int)/\k<j'/\j'<t.Nodes.length:=hT.gm.ord hx hb hj
theorem GT.all (hT:GT t):c7j t.Nodes=true:=hT.gm.all
end
end Go.Pl
end
section
namespace Go.Pl
open Go Go.RowKit Go.Sx Go.Qx
end Go.Pl
end
section
namespace Go.Pl
open Go Go.RowKit Go.Sx Go.Qx
abbrev g0 (p q:List Int):Api_Goal:=Api_Goal.mk p q false
theorem b06 {St β:Type}{step:St->Option (Fl St β)}(st:Nat->St)(n:Nat)(r:β)(hs:∀ i,i<n->step (st i)=some (.next (st (i+1))))(he:step (st n)=some (.done r))(k:Nat)(hk:n+1<=k):y2 step k (st 0)=some r:=by
 have key:∀ (m i k:Nat),i+m=n->m+1<=k->y2 step k (st i)=some r:=by
  intro m
  induction m with
  | zero =>
    intro i k h1 h2
    obtain ⟨k,rfl⟩:∃ q,k=q+1:=⟨k-1,by omega⟩
    have e:i=n:=by omega
    subst e
    simp only [y2,he,Option.bind_some]
  | succ m ih =>
    intro i k h1 h2
    obtain ⟨k,rfl⟩:∃ q,k=q+1:=⟨k-1,by omega⟩
    simp only [y2,hs i (by omega),Option.bind_some]
    exact ih (i+1) k (by omega) (by omega)
 exact key n 0 k (by omega) hk
end Go.Pl
end
section
namespace Go.Pl
open Go Go.RowKit Go.Sx Go.Qx
theorem c5U:a1D 200000000=some true:=by decide +kernel
theorem c0A (a b:ByteArray):Q3 a b=true↔a=b:=by
 rw [b05,decide_eq_true_iff]
 exact ⟨c2g,fun h=>by subst h; exact b9W.self a⟩
theorem b1y (l:List ByteArray)(hl:l.length<=1000):a1t l=some (if l.all a2q=true then (if l.Nodup then 0 else 6) else 1):=by
 unfold a1t
 have l1:=c0D (step:=a0u l) l a2q (fun i=>(i:Int)) () (1:Int) (fun i k hk=>by
  have hi:i<l.length:=(List.getElem?_eq_some_iff.1 hk).1
  unfold a0u
  simp only [a6X]
  rw [a5k hi,a3D hk]
  simp only [cond_true,Option.bind_some]
  rw [c7D,a1k i (by omega)]
  simp only [Option.bind_some]
  cases a2q k<;>rfl) (by
  unfold a0u
  simp)
 have l1':y2 (a0u l) (l.length+1) 0=_:=l1
 have l2:=c0D (step:=a0t l) (List.range l.length) (fun i=>!((l.take i).any fun y=>Q3 y (l.getD i ⟨#[]⟩))) (fun i=>(i:Int)) () (6:Int) (fun i j hj=>by
  have hi:i<l.length:=by have:=(List.getElem?_eq_some_iff.1 hj).1; simpa using this
  obtain rfl:i=j:=by rw [List.getElem?_range hi] at hj; exact Option.some.inj hj
  have hx:=List.getElem?_eq_getElem hi
  have hd:l.getD i ⟨#[]⟩=l[i]:=by rw [List.getD,hx,Option.getD_some]
  unfold a0t
  simp only [a6X]
  rw [a5k hi,a3D hx,hd]
  simp only [cond_true,Option.bind_some]
  have hc:cut l 0 (i:Int)=some (l.take i):=by
   unfold cut
   rw [if_pos ⟨by omega,by omega,by omega⟩]
   simp
  rw [hc]
  simp only [Option.bind_some]
  rw [c23 _ _ (by rw [List.length_take]; omega),a1k i (by omega)]
  simp only [Option.bind_some]
  cases (l.take i).any fun y=>Q3 y l[i]<;>rfl) (by
  unfold a0t
  simp)
 rw [List.length_range] at l2
 have l2':y2 (a0t l) (l.length+1) 0=_:=l2
 rw [a7E,l1']
 cases hv:l.all a2q with
 | false=>rfl
 | true =>
   simp only [if_true,Option.bind_some,Y5]
   rw [l2']
   have hnd:((List.range l.length).all fun i=>!((l.take i).any fun y=>Q3 y (l.getD i ⟨#[]⟩)))=true↔l.Nodup:=by
    rw [c2B,List.all_eq_true]
    constructor
    ·intro h i hi hm
     have:=h i (by simpa using hi)
     rw [List.getD,List.getElem?_eq_getElem hi,Option.getD_some,Bool.not_eq_true'] at this
     rw [List.any_eq_false] at this
     exact this _ hm ((c0A _ _).2 rfl)
    ·intro h i hi
     have hi:i<l.length:=by simpa using hi
     rw [List.getD,List.getElem?_eq_getElem hi,Option.getD_some,Bool.not_eq_true',List.any_eq_false]
     intro y hy he
     rw [(c0A _ _).1 he] at hy
     exact h i hi hy
   by_cases hn:l.Nodup
   ·rw [hnd.2 hn,if_pos hn]
    rfl
   ·have:((List.range l.length).all fun i=>!((l.take i).any fun y=>Q3 y (l.getD i ⟨#[]⟩)))=false:=by
     cases h:(List.range l.length).all fun i=>!((l.take i).any fun y=>Q3 y (l.getD i ⟨#[]⟩)) with
     | false=>rfl
     | true=>exact absurd (hnd.1 h) hn
    rw [this,if_neg hn]
    rfl
def c2e (m c:Nat)(x2:Int×Int):Option (Fl (Int×Int) (Sum Int ((List (List Int))×Int))) :=
 bif decide (x2.2<(m:Int)) then (bif decide (256<(wr .i64 (x2.1*(c:Int)))) then (some (.done (.inr ([],2)))) else (some (.next (wr .i64 (x2.1*(c:Int)),wr .i64 (x2.2+1))))) else (some (.done (.inl x2.1)))
def b7t (m c:Nat)(x8:Int×Int):Option (Fl (Int×Int) Int) :=
 bif decide (x8.2<(m:Int)) then (some (.next (min 1000 (wr .i64 (x8.1*(c:Int))),wr .i64 (x8.2+1)))) else (some (.done x8.1))
def c2Y (c:Nat)(x8:(List Int)×Int×Int):Option (Fl ((List Int)×Int×Int) (List Int)) :=
 bif decide (0<=x8.2.2) then (Option.bind (b1q x8.2.1 (c:Int)) fun d9=>Option.bind (idx x8.1 x8.2.2) fun _=>Option.bind (x8.1[x8.2.2.toNat]?) fun _=>Option.bind (b30 .i64 x8.2.1 (c:Int)) fun d12 =>
  some (.next (x8.1.set x8.2.2.toNat d9,d12,wr .i64 (x8.2.2-1)))) else (some (.done x8.1))
def c2S (m c i:Nat):Option (List Int):=y2 (c2Y c) ((wr .i64 ((m:Int)-1)).toNat+2) (List.replicate m (0:Int),(i:Int),wr .i64 ((m:Int)-1))
def c3f (m c:Nat):Bool:=match y2 (c2e m c) (m+1) (1,0),y2 (b7t m c) (m+1) (1,0) with
 | some (.inl x),some b=>x==((c^m:Nat):Int)&&(decide (x<=256)&&!decide (256<b))
 | some (.inr y),some b=>y.1.isEmpty&&(y.2==2&&decide (256<b))
 | _,_=>false
theorem c6k:((List.range 11).all fun m=>(List.range 8).all fun c=>c3f m c)=true:=by decide +kernel
def c7u (m c i:Nat):Bool:=match c2S m c i with
 | some ch=>ch.length==m&&ch.all fun d=>decide (0<=d)&&decide (d<(c:Int))
 | none=>false
theorem c55:((List.range 11).all fun m=>(List.range 8).all fun c=>bif decide (c^m<=256) then (List.range (c^m)).all (c7u m c) else true)=true:=by decide +kernel
theorem c3A {m c:Nat}(hm:m<=10)(hc:c<=7):c3f m c=true:=List.all_eq_true.1 (List.all_eq_true.1 c6k m (by simp; omega)) c (by simp; omega)
theorem c7l {m c i:Nat}(hm:m<=10)(hc:c<=7)(h:c^m<=256)(hi:i<c^m):∃ ch,c2S m c i=some ch/\ch.length=m/\∀ d∈ch,0<=d/\d<(c:Int):=by
 have h1:=List.all_eq_true.1 (List.all_eq_true.1 c55 m (by simp; omega)) c (by simp; omega)
 rw [decide_eq_true h] at h1
 have h2:=List.all_eq_true.1 h1 i (by simpa using hi)
 unfold c7u at h2
 split at h2
 ·rename_i ch e
  simp only [Bool.and_eq_true,beq_iff_eq,List.all_eq_true,decide_eq_true_eq] at h2
  exact ⟨ch,e,h2.1,h2.2⟩
 ·cases h2
theorem c58 (n:Nat)(s:List Api_Binding):a2L n [] s=some true:=rfl
theorem c4i (n:Nat)(l:List ByteArray)(ts:List Api_Type)(hl:l.length<=10)(hc:ts.length<=7)(hv:l.all a2q=true)(hn:l.Nodup) :
 (y2 (b7t l.length ts.length) (l.length+1) (1,0)).isSome=true/\∀ b,y2 (b7t l.length ts.length) (l.length+1) (1,0)=some b->∃ r,a09 n [] l ts=some r/\r.2=if decide (256<b)=true then 2 else 0:=by
 have ht:=c3A hl hc
 have hL:a9F l ts=c2e l.length ts.length:=rfl
 have hT:a09 n [] l ts=(Option.bind (y2 (c2e l.length ts.length) (l.length+1) (1,0)) fun b3 =>
  Y5 (fun x4=>Option.bind (y2 (a1e [] l ts x4 n) (x4.toNat+1) ([],0)) fun b22=>some (b22,0)) (fun y5=>some (y5.1,y5.2)) b3):=by
  unfold a09
  rw [b1y l (by omega),hv,if_pos rfl,if_pos hn,hL,a7E]
  rfl
 unfold c3f at ht
 split at ht
 ·rename_i x b e1 e2
  refine ⟨by rw [e2]; rfl,fun b' hb=>?_⟩
  rw [e2] at hb
  cases hb
  simp only [Bool.and_eq_true,beq_iff_eq,decide_eq_true_eq,Bool.not_eq_true'] at ht
  obtain ⟨h1,h2,h3⟩:=ht
  rw [h3,hT,e1]
  simp only [Option.bind_some,Y5,h1]
  have hp:ts.length^l.length<=256:=by omega
  have hloop:=b06 (step:=a1e [] l ts ((ts.length^l.length:Nat):Int) n) (fun i=>((List.range i).map (fun i=>(c2S l.length ts.length i).getD []),(i:Int))) (ts.length^l.length) ((List.range (ts.length^l.length)).map (fun i=>(c2S l.length ts.length i).getD [])) (fun i hi=>by
   obtain ⟨ch,k1,k2,k3⟩:=c7l hl hc hp hi
   have hD:a9u ts=c2Y ts.length:=rfl
   have hk1:y2 (c2Y ts.length) ((wr .i64 ((l.length:Int)-1)).toNat+2) (List.replicate l.length (0:Int),(i:Int),wr .i64 ((l.length:Int)-1))=some ch:=k1
   have hroom:a3P (l.length:Int) (l.length:Int) 8=some l.length:=by
    unfold a3P
    have h2:((l.length:Int))*((8:Nat):Int)<=140737488355328:=by omega
    rw [decide_eq_true h2,decide_eq_true (show (0:Int)<=(l.length:Int) by omega),decide_eq_true (Int.le_refl _)]
    simp
   have h3:=b06 (step:=a19 l ts ch) (fun j=>((List.range j).map (fun q=>Api_Binding.mk (l.getD q ⟨#[]⟩) (ts.getD (ch.getD q 0).toNat (Api_Type.mk [] 0))),(j:Int))) ch.length ((List.range ch.length).map (fun q=>Api_Binding.mk (l.getD q ⟨#[]⟩) (ts.getD (ch.getD q 0).toNat (Api_Type.mk [] 0)))) (fun j hj=>by
    have hx:=List.getElem?_eq_getElem hj
    have hy:=List.getElem?_eq_getElem (show j<l.length by omega)
    obtain ⟨d1,d2⟩:=k3 _ (List.getElem_mem hj)
    have hz:=List.getElem?_eq_getElem (show ch[j].toNat<ts.length by omega)
    have hz':idx ts ch[j]=some ts[ch[j].toNat]:=by
     have:=a3D hz
     rwa [show ((ch[j].toNat:Nat):Int)=ch[j] by omega] at this
    unfold a19
    simp only [a6X]
    rw [a5k hj,a3D hx,a3D hy]
    simp only [cond_true,Option.bind_some]
    rw [hz']
    simp only [Option.bind_some]
    rw [b3Q (by simp only [List.length_map,List.length_range,List.length_cons,List.length_nil]; omega),a1k j (by omega),List.range_succ,List.map_append]
    simp [List.getD,hx,hy,hz]) (by
    unfold a19
    simp) (ch.length+1) (Nat.le_refl _)
   have h3':y2 (a19 l ts ch) (ch.length+1) ([],0)=_:=h3
   unfold a1e
   simp only [a6X] at hk1 ⊢
   rw [a5k hi,hroom,hD]
   simp only [cond_true,Option.bind_some]
   rw [hk1]
   simp only [Option.bind_some,a7E]
   rw [h3',Option.bind_some,c58]
   simp only [Option.bind_some,cond_true]
   rw [b3Q (by simp only [List.length_map,List.length_range,List.length_cons,List.length_nil]; omega),a1k i (by omega),List.range_succ,List.map_append]
   simp [k1]) (by
   unfold a1e
   simp) (ts.length^l.length+1) (Nat.le_refl _)
  have hloop':y2 (a1e [] l ts ((ts.length^l.length:Nat):Int) n) (ts.length^l.length+1) ([],0)=_:=hloop
  rw [Int.toNat_natCast,hloop']
  exact ⟨_,rfl,rfl⟩
 ·rename_i y b e1 e2
  refine ⟨by rw [e2]; rfl,fun b' hb=>?_⟩
  rw [e2] at hb
  cases hb
  simp only [Bool.and_eq_true,beq_iff_eq] at ht
  obtain ⟨_,h2,h3⟩:=ht
  rw [h3,hT,e1]
  exact ⟨_,rfl,h2⟩
 ·cases ht
theorem b8N (n:Nat)(l:List ByteArray)(ts:List Api_Type)(c:Int)(h:a1t l=some c)(hc:c≠0):a09 n [] l ts=some ([],c):=by
 unfold a09
 rw [h]
 have:(c != 0)=true:=by simpa using hc
 simp only [Option.bind_some,this,cond_true]
theorem c2x (m c:Nat)(hm:m<=10)(hc:c<=7):∃ b,y2 (b7t m c) (m+1) (1,0)=some b:=by
 have ht:=c3A hm hc
 unfold c3f at ht
 split at ht
 ·rename_i e; exact ⟨_,e⟩
 ·rename_i e; exact ⟨_,e⟩
 ·cases ht
theorem b7q (d:List ByteArray)(t:Int)(ht:0<=t/\t<256):∃ n,a0g n d t=some true:=by
 refine ⟨200000000,?_⟩
 unfold a0g
 rw [c5U]
 by_cases hd:10<(d.length:Int)
 ·rw [decide_eq_true hd]
  rfl
 rw [decide_eq_false hd]
 have hl:d.length<=10:=by omega
 simp only [cond_false]
 obtain ⟨k,hk,hq⟩:∃ k:Nat,k<=7/\b1q (wr .i64 t) 8=some (k:Int):=by
  obtain ⟨a,rfl⟩:=Int.eq_ofNat_of_zero_le ht.1
  have:∀ a:Fin 256,∃ k:Fin 8,b1q (wr .i64 (a.val:Int)) 8=some (k.val:Int):=by decide +kernel
  obtain ⟨k,hk⟩:=this ⟨a,by omega⟩
  exact ⟨k.val,by have:=k.isLt; omega,hk⟩
 obtain ⟨z,hz⟩:∃ z,a0Q=some z:=⟨_,rfl⟩
 have h1:=b06 (step:=K4 t) (fun i=>(List.replicate i z,(i:Int))) k (List.replicate k z) (fun i hi=>by
  unfold K4
  rw [hq]
  simp only [Option.bind_some,a6X]
  rw [a5k hi,hz]
  simp only [cond_true,Option.bind_some]
  rw [b3Q (by simp only [List.length_replicate,List.length_cons,List.length_nil]; omega),a1k i (by omega)]
  simp [List.replicate_succ']) (by
  unfold K4
  rw [hq]
  simp) 200000000 (by omega)
 have h1':y2 (K4 t) 200000000 ([],0)=some (List.replicate k z):=h1
 rw [h1']
 simp only [Option.bind_some,a7E]
 have hlen:(List.replicate k z).length=k:=List.length_replicate
 generalize List.replicate k z=ts at hlen
 subst hlen
 obtain ⟨b,hb⟩:=c2x d.length ts.length hl hk
 have hM:a2f d ts=b7t d.length ts.length:=rfl
 have h3:=b06 (step:=K5 d) (fun i=>((d.take i).all a2q,(i:Int))) d.length (d.all a2q) (fun i hi=>by
  have hx:=List.getElem?_eq_getElem hi
  unfold K5
  simp only [a6X]
  rw [a5k hi,a3D hx,a1k i (by omega),List.take_add_one,hx]
  simp only [cond_true,Option.bind_some,Option.toList_some,List.all_append,List.all_cons,List.all_nil,Bool.and_true]
  rw [c2J]
  cases (d.take i).all a2q<;>rfl) (by
  unfold K5
  rw [List.take_length]
  simp) (d.length+1) (Nat.le_refl _)
 have h3':y2 (K5 d) (d.length+1) (true,0)=some (d.all a2q):=h3
 have hcn:=b1y d (by omega)
 rw [hM,hb,h3',c3W d (by omega)]
 cases hv:d.all a2q with
 | false =>
   rw [hv] at hcn
   rw [b8N _ d ts 1 hcn (by omega)]
   rfl
 | true =>
   rw [hv] at hcn
   simp only [if_true] at hcn
   have hsh:((d.foldl (a23 cS) []).length:Int)<(d.length:Int)↔¬ d.Nodup:=Int.ofNat_lt.trans (c3R d)
   by_cases hn:d.Nodup
   ·obtain ⟨_,h5⟩:=c4i 200000000 d ts hl hk hv hn
    obtain ⟨r,h6,h7⟩:=h5 b hb
    rw [h6]
    simp only [Option.bind_some,Bool.not_true,cond_false]
    rw [decide_eq_false (fun h=>hsh.1 h hn),h7]
    cases decide (256<b)<;>rfl
   ·rw [if_neg hn] at hcn
    rw [b8N _ d ts 6 hcn (by omega)]
    simp only [Option.bind_some,Bool.not_true,cond_false]
    rw [decide_eq_true (hsh.2 hn)]
    rfl
end Go.Pl
end
section
namespace Go.Proofs
open Go.Shelf
set_option maxRecDepth 100000
def Tryz.lay51_ren:Go.Shelf.Ren:=⟨fun | 6=>51 | 15=>93 | 14=>92 | 28=>123 | 29=>124 | 20=>115 | 21=>116 | 22=>117 | 23=>118 | 24=>119 | 25=>120 | 26=>121 | 27=>122 | 46=>138 | 47=>139 | 48=>140 | 49=>141 | 50=>142 | 57=>154 | n=>n,fun | 22=>57 | 24=>56 | 25=>96 | 3=>3 | 39=>135 | 0=>0 | 53=>163 | 55=>165 | 4=>4 | 46=>157 | 45=>156 | 50=>109 | 5=>5 | 9=>9 | 66=>178 | 70=>182 | 76=>208 | 77=>209 | n=>n,fun | n=>n⟩
theorem Tryz.lay51:Go.Proofs.SlLaysF0.n6 Tryz.prog Tryz.lay51_ren:={
 mixed:=by kernel_rfl
 f6:=⟨Tryz.f51.name,by decide,Tryz.func51.trans (congrArg some (by kernel_rfl))⟩
 f14:=⟨Tryz.f92.name,by decide,Tryz.func92.trans (congrArg some (by kernel_rfl))⟩
 f15:=Tryz.func93.trans (congrArg some (by kernel_rfl))
 f20:=⟨Tryz.f115.name,by decide,Tryz.func115.trans (congrArg some (by kernel_rfl))⟩
 f21:=⟨Tryz.f116.name,by decide,Tryz.func116.trans (congrArg some (by kernel_rfl))⟩
 f22:=⟨Tryz.f117.name,by decide,Tryz.func117.trans (congrArg some (by kernel_rfl))⟩
 f23:=⟨Tryz.f118.name,by decide,Tryz.func118.trans (congrArg some (by kernel_rfl))⟩
 f24:=⟨Tryz.f119.name,by decide,Tryz.func119.trans (congrArg some (by kernel_rfl))⟩
 f25:=⟨Tryz.f120.name,by decide,Tryz.func120.trans (congrArg some (by kernel_rfl))⟩
 f26:=⟨Tryz.f121.name,by decide,Tryz.func121.trans (congrArg some (by kernel_rfl))⟩
 f27:=⟨Tryz.f122.name,by decide,Tryz.func122.trans (congrArg some (by kernel_rfl))⟩
 f28:=Tryz.func123.trans (congrArg some (by kernel_rfl))
 f29:=Tryz.func124.trans (congrArg some (by kernel_rfl))
 f46:=⟨Tryz.f138.name,by decide,Tryz.func138.trans (congrArg some (by kernel_rfl))⟩
 f47:=Tryz.func139.trans (congrArg some (by kernel_rfl))
 f48:=Tryz.func140.trans (congrArg some (by kernel_rfl))
 f49:=⟨Tryz.f141.name,by decide,Tryz.func141.trans (congrArg some (by kernel_rfl))⟩
 f50:=⟨Tryz.f142.name,by decide,Tryz.func142.trans (congrArg some (by kernel_rfl))⟩
 f57:=⟨Tryz.f154.name,by decide,Tryz.func154.trans (congrArg some (by kernel_rfl))⟩
 t0:=Tryz.underlying0
 a0:=Tryz.isAgg0
 z0:=Tryz.sizeOf0
 v0:=Tryz.zeroValue0
 t3:=Tryz.underlying3
 a3:=Tryz.isAgg3
 z3:=Tryz.sizeOf3
 v3:=Tryz.zeroValue3
 t4:=Tryz.underlying4
 a4:=Tryz.isAgg4
 z4:=Tryz.sizeOf4
 v4:=Tryz.zeroValue4
 t5:=Tryz.underlying5
 a5:=Tryz.isAgg5
 z5:=Tryz.sizeOf5
 v5:=Tryz.zeroValue5
 t9:=Tryz.underlying9
 a9:=Tryz.isAgg9
 z9:=Tryz.sizeOf9
 v9:=Tryz.zeroValue9
 t22:=Tryz.underlying57
 a22:=Tryz.isAgg57
 z22:=Tryz.sizeOf57
 v22:=Tryz.zeroValue57
 t25:=Tryz.underlying96
 a25:=Tryz.isAgg96
 z25:=Tryz.sizeOf96
 v25:=Tryz.zeroValue96
 t39:=Tryz.underlying135
 a39:=Tryz.isAgg135
 z39:=Tryz.sizeOf135
 v39:=Tryz.zeroValue135
 t45:=Tryz.underlying156
 a45:=Tryz.isAgg156
 z45:=Tryz.sizeOf156
 v45:=Tryz.zeroValue156
 t46:=Tryz.underlying157
 a46:=Tryz.isAgg157
 z46:=Tryz.sizeOf157
 v46:=Tryz.zeroValue157
 t50:=Tryz.underlying109
 a50:=Tryz.isAgg109
 z50:=Tryz.sizeOf109
 v50:=Tryz.zeroValue109
 t53:=Tryz.underlying163
 a53:=Tryz.isAgg163
 z53:=Tryz.sizeOf163
 v53:=Tryz.zeroValue163
 t55:=Tryz.underlying165
 a55:=Tryz.isAgg165
 z55:=Tryz.sizeOf165
 v55:=Tryz.zeroValue165
 t66:=Tryz.underlying178
 a66:=Tryz.isAgg178
 z66:=Tryz.sizeOf178
 v66:=Tryz.zeroValue178
 t70:=Tryz.underlying182
 a70:=Tryz.isAgg182
 z70:=Tryz.sizeOf182
 v70:=Tryz.zeroValue182
 t76:=Tryz.underlying208
 a76:=Tryz.isAgg208
 z76:=Tryz.sizeOf208
 v76:=Tryz.zeroValue208
 t77:=Tryz.underlying209
 a77:=Tryz.isAgg209
 z77:=Tryz.sizeOf209
 v77:=Tryz.zeroValue209 }
def Tryz.lay287_ren:Go.Shelf.Ren:=⟨fun | 6=>287 | 15=>93 | 14=>298 | 28=>123 | 29=>124 | 20=>299 | 21=>300 | 22=>301 | 23=>302 | 24=>303 | 25=>304 | 26=>305 | 27=>306 | 46=>307 | 47=>139 | 48=>140 | 49=>308 | 50=>309 | 57=>310 | n=>n,fun | 22=>39 | 24=>126 | 25=>130 | 3=>3 | 39=>135 | 0=>0 | 53=>163 | 55=>165 | 4=>4 | 46=>157 | 45=>156 | 50=>109 | 5=>5 | 9=>9 | 66=>178 | 70=>182 | 76=>208 | 77=>209 | n=>n,fun | n=>n⟩
theorem Tryz.lay287:Go.Proofs.SlLaysF0.n6 Tryz.prog Tryz.lay287_ren:={
 mixed:=by kernel_rfl
 f6:=⟨Tryz.f287.name,by decide,Tryz.func287.trans (congrArg some (by kernel_rfl))⟩
 f14:=⟨Tryz.f298.name,by decide,Tryz.func298.trans (congrArg some (by kernel_rfl))⟩
 f15:=Tryz.func93.trans (congrArg some (by kernel_rfl))
 f20:=⟨Tryz.f299.name,by decide,Tryz.func299.trans (congrArg some (by kernel_rfl))⟩
 f21:=⟨Tryz.f300.name,by decide,Tryz.func300.trans (congrArg some (by kernel_rfl))⟩
 f22:=⟨Tryz.f301.name,by decide,Tryz.func301.trans (congrArg some (by kernel_rfl))⟩
 f23:=⟨Tryz.f302.name,by decide,Tryz.func302.trans (congrArg some (by kernel_rfl))⟩
 f24:=⟨Tryz.f303.name,by decide,Tryz.func303.trans (congrArg some (by kernel_rfl))⟩
 f25:=⟨Tryz.f304.name,by decide,Tryz.func304.trans (congrArg some (by kernel_rfl))⟩
 f26:=⟨Tryz.f305.name,by decide,Tryz.func305.trans (congrArg some (by kernel_rfl))⟩
 f27:=⟨Tryz.f306.name,by decide,Tryz.func306.trans (congrArg some (by kernel_rfl))⟩
 f28:=Tryz.func123.trans (congrArg some (by kernel_rfl))
 f29:=Tryz.func124.trans (congrArg some (by kernel_rfl))
 f46:=⟨Tryz.f307.name,by decide,Tryz.func307.trans (congrArg some (by kernel_rfl))⟩
 f47:=Tryz.func139.trans (congrArg some (by kernel_rfl))
 f48:=Tryz.func140.trans (congrArg some (by kernel_rfl))
 f49:=⟨Tryz.f308.name,by decide,Tryz.func308.trans (congrArg some (by kernel_rfl))⟩
 f50:=⟨Tryz.f309.name,by decide,Tryz.func309.trans (congrArg some (by kernel_rfl))⟩
 f57:=⟨Tryz.f310.name,by decide,Tryz.func310.trans (congrArg some (by kernel_rfl))⟩
 t0:=Tryz.underlying0
 a0:=Tryz.isAgg0
 z0:=Tryz.sizeOf0
 v0:=Tryz.zeroValue0
 t3:=Tryz.underlying3
 a3:=Tryz.isAgg3
 z3:=Tryz.sizeOf3
 v3:=Tryz.zeroValue3
 t4:=Tryz.underlying4
 a4:=Tryz.isAgg4
 z4:=Tryz.sizeOf4
 v4:=Tryz.zeroValue4
 t5:=Tryz.underlying5
 a5:=Tryz.isAgg5
 z5:=Tryz.sizeOf5
 v5:=Tryz.zeroValue5
 t9:=Tryz.underlying9
 a9:=Tryz.isAgg9
 z9:=Tryz.sizeOf9
 v9:=Tryz.zeroValue9
 t22:=Tryz.underlying39
 a22:=Tryz.isAgg39
 z22:=Tryz.sizeOf39
 v22:=Tryz.zeroValue39
 t25:=Tryz.underlying130
 a25:=Tryz.isAgg130
 z25:=Tryz.sizeOf130
 v25:=Tryz.zeroValue130
 t39:=Tryz.underlying135
 a39:=Tryz.isAgg135
 z39:=Tryz.sizeOf135
 v39:=Tryz.zeroValue135
 t45:=Tryz.underlying156
 a45:=Tryz.isAgg156
 z45:=Tryz.sizeOf156
 v45:=Tryz.zeroValue156
 t46:=Tryz.underlying157
 a46:=Tryz.isAgg157
 z46:=Tryz.sizeOf157
 v46:=Tryz.zeroValue157
 t50:=Tryz.underlying109
 a50:=Tryz.isAgg109
 z50:=Tryz.sizeOf109
 v50:=Tryz.zeroValue109
 t53:=Tryz.underlying163
 a53:=Tryz.isAgg163
 z53:=Tryz.sizeOf163
 v53:=Tryz.zeroValue163
 t55:=Tryz.underlying165
 a55:=Tryz.isAgg165
 z55:=Tryz.sizeOf165
 v55:=Tryz.zeroValue165
 t66:=Tryz.underlying178
 a66:=Tryz.isAgg178
 z66:=Tryz.sizeOf178
 v66:=Tryz.zeroValue178
 t70:=Tryz.underlying182
 a70:=Tryz.isAgg182
 z70:=Tryz.sizeOf182
 v70:=Tryz.zeroValue182
 t76:=Tryz.underlying208
 a76:=Tryz.isAgg208
 z76:=Tryz.sizeOf208
 v76:=Tryz.zeroValue208
 t77:=Tryz.underlying209
 a77:=Tryz.isAgg209
 z77:=Tryz.sizeOf209
 v77:=Tryz.zeroValue209 }
def Tryz.lay149_ren:Go.Shelf.Ren:=⟨fun | 171=>149 | 243=>166 | 246=>186 | 283=>210 | 284=>211 | 285=>212 | 286=>213 | 129=>124 | 317=>246 | 318=>247 | 319=>248 | 320=>249 | 337=>276 | 338=>277 | n=>n,fun | 3=>3 | 9=>9 | 2=>2 | 4=>4 | 171=>275 | 0=>0 | 53=>165 | 37=>198 | 5=>5 | 173=>277 | 212=>311 | 51=>163 | 20=>20 | 213=>312 | 46=>135 | 232=>353 | 233=>354 | n=>n,fun | 17=>1 | 18=>2 | 19=>3 | n=>n⟩
theorem Tryz.lay149:Go.Proofs.Lays.n171 Tryz.prog Tryz.lay149_ren:={
 mixed:=by kernel_rfl
 f129:=Tryz.func124.trans (congrArg some (by kernel_rfl))
 f171:=Tryz.func149.trans (congrArg some (by kernel_rfl))
 f243:=Tryz.func166.trans (congrArg some (by kernel_rfl))
 f246:=Tryz.func186.trans (congrArg some (by kernel_rfl))
 f283:=Tryz.func210.trans (congrArg some (by kernel_rfl))
 f284:=Tryz.func211.trans (congrArg some (by kernel_rfl))
 f285:=Tryz.func212.trans (congrArg some (by kernel_rfl))
 f286:=Tryz.func213.trans (congrArg some (by kernel_rfl))
 f317:=Tryz.func246.trans (congrArg some (by kernel_rfl))
 f318:=Tryz.func247.trans (congrArg some (by kernel_rfl))
 f319:=Tryz.func248.trans (congrArg some (by kernel_rfl))
 f320:=Tryz.func249.trans (congrArg some (by kernel_rfl))
 f337:=Tryz.func276.trans (congrArg some (by kernel_rfl))
 f338:=Tryz.func277.trans (congrArg some (by kernel_rfl))
 t0:=Tryz.underlying0
 a0:=Tryz.isAgg0
 z0:=Tryz.sizeOf0
 v0:=Tryz.zeroValue0
 t2:=Tryz.underlying2
 a2:=Tryz.isAgg2
 z2:=Tryz.sizeOf2
 v2:=Tryz.zeroValue2
 t3:=Tryz.underlying3
 a3:=Tryz.isAgg3
 z3:=Tryz.sizeOf3
 v3:=Tryz.zeroValue3
 t4:=Tryz.underlying4
 a4:=Tryz.isAgg4
 z4:=Tryz.sizeOf4
 v4:=Tryz.zeroValue4
 t5:=Tryz.underlying5
 a5:=Tryz.isAgg5
 z5:=Tryz.sizeOf5
 v5:=Tryz.zeroValue5
 t9:=Tryz.underlying9
 a9:=Tryz.isAgg9
 z9:=Tryz.sizeOf9
 v9:=Tryz.zeroValue9
 t20:=Tryz.underlying20
 a20:=Tryz.isAgg20
 z20:=Tryz.sizeOf20
 v20:=Tryz.zeroValue20
 t37:=Tryz.underlying198
 a37:=Tryz.isAgg198
 z37:=Tryz.sizeOf198
 v37:=Tryz.zeroValue198
 t46:=Tryz.underlying135
 a46:=Tryz.isAgg135
 z46:=Tryz.sizeOf135
 v46:=Tryz.zeroValue135
 t51:=Tryz.underlying163
 a51:=Tryz.isAgg163
 z51:=Tryz.sizeOf163
 v51:=Tryz.zeroValue163
 t53:=Tryz.underlying165
 a53:=Tryz.isAgg165
 z53:=Tryz.sizeOf165
 v53:=Tryz.zeroValue165
 t171:=Tryz.underlying275
 a171:=Tryz.isAgg275
 z171:=Tryz.sizeOf275
 v171:=Tryz.zeroValue275
 t173:=Tryz.underlying277
 a173:=Tryz.isAgg277
 z173:=Tryz.sizeOf277
 v173:=Tryz.zeroValue277
 t212:=Tryz.underlying311
 a212:=Tryz.isAgg311
 z212:=Tryz.sizeOf311
 v212:=Tryz.zeroValue311
 t213:=Tryz.underlying312
 a213:=Tryz.isAgg312
 z213:=Tryz.sizeOf312
 t232:=Tryz.underlying353
 a232:=Tryz.isAgg353
 z232:=Tryz.sizeOf353
 v232:=Tryz.zeroValue353
 t233:=Tryz.underlying354
 a233:=Tryz.isAgg354
 z233:=Tryz.sizeOf354
 v233:=Tryz.zeroValue354
 g17:=by kernel_rfl
 g18:=by kernel_rfl
 g19:=by kernel_rfl }
def Tryz.lay182_ren:Go.Shelf.Ren:=⟨fun | 189=>182 | 125=>93 | 257=>209 | 128=>123 | 129=>124 | 294=>237 | 295=>238 | 296=>239 | 297=>240 | 298=>241 | 299=>242 | 216=>243 | 300=>244 | 301=>245 | 328=>273 | 329=>139 | 330=>140 | 331=>274 | 332=>275 | 215=>167 | 343=>294 | n=>n,fun | 28=>36 | 3=>3 | 46=>135 | 0=>0 | 51=>163 | 53=>165 | 4=>4 | 183=>157 | 182=>156 | 131=>109 | 5=>5 | 9=>9 | 218=>178 | 222=>182 | 228=>208 | 229=>209 | n=>n,fun | n=>n⟩
theorem Tryz.lay182:Go.Proofs.Lays.n189 Tryz.prog Tryz.lay182_ren:={
 mixed:=by kernel_rfl
 f125:=Tryz.func93.trans (congrArg some (by kernel_rfl))
 f128:=Tryz.func123.trans (congrArg some (by kernel_rfl))
 f129:=Tryz.func124.trans (congrArg some (by kernel_rfl))
 f189:=Tryz.func182.trans (congrArg some (by kernel_rfl))
 f215:=Tryz.func167.trans (congrArg some (by kernel_rfl))
 f216:=Tryz.func243.trans (congrArg some (by kernel_rfl))
 f257:=Tryz.func209.trans (congrArg some (by kernel_rfl))
 f294:=Tryz.func237.trans (congrArg some (by kernel_rfl))
 f295:=Tryz.func238.trans (congrArg some (by kernel_rfl))
 f296:=Tryz.func239.trans (congrArg some (by kernel_rfl))
 f297:=Tryz.func240.trans (congrArg some (by kernel_rfl))
 f298:=Tryz.func241.trans (congrArg some (by kernel_rfl))
 f299:=Tryz.func242.trans (congrArg some (by kernel_rfl))
 f300:=Tryz.func244.trans (congrArg some (by kernel_rfl))
 f301:=Tryz.func245.trans (congrArg some (by kernel_rfl))
 f328:=Tryz.func273.trans (congrArg some (by kernel_rfl))
 f329:=Tryz.func139.trans (congrArg some (by kernel_rfl))
 f330:=Tryz.func140.trans (congrArg some (by kernel_rfl))
 f331:=Tryz.func274.trans (congrArg some (by kernel_rfl))
 f332:=Tryz.func275.trans (congrArg some (by kernel_rfl))
 f343:=Tryz.func294.trans (congrArg some (by kernel_rfl))
 t0:=Tryz.underlying0
 a0:=Tryz.isAgg0
 z0:=Tryz.sizeOf0
 v0:=Tryz.zeroValue0
 t3:=Tryz.underlying3
 a3:=Tryz.isAgg3
 z3:=Tryz.sizeOf3
 v3:=Tryz.zeroValue3
 t4:=Tryz.underlying4
 a4:=Tryz.isAgg4
 z4:=Tryz.sizeOf4
 v4:=Tryz.zeroValue4
 t5:=Tryz.underlying5
 a5:=Tryz.isAgg5
 z5:=Tryz.sizeOf5
 v5:=Tryz.zeroValue5
 t9:=Tryz.underlying9
 a9:=Tryz.isAgg9
 z9:=Tryz.sizeOf9
 v9:=Tryz.zeroValue9
 t28:=Tryz.underlying36
 a28:=Tryz.isAgg36
 z28:=Tryz.sizeOf36
 v28:=Tryz.zeroValue36
 t46:=Tryz.underlying135
 a46:=Tryz.isAgg135
 z46:=Tryz.sizeOf135
 v46:=Tryz.zeroValue135
 t51:=Tryz.underlying163
 a51:=Tryz.isAgg163
 z51:=Tryz.sizeOf163
 v51:=Tryz.zeroValue163
 t53:=Tryz.underlying165
 a53:=Tryz.isAgg165
 z53:=Tryz.sizeOf165
 v53:=Tryz.zeroValue165
 t131:=Tryz.underlying109
 a131:=Tryz.isAgg109
 z131:=Tryz.sizeOf109
 v131:=Tryz.zeroValue109
 t182:=Tryz.underlying156
 a182:=Tryz.isAgg156
 z182:=Tryz.sizeOf156
 v182:=Tryz.zeroValue156
 t183:=Tryz.underlying157
 a183:=Tryz.isAgg157
 z183:=Tryz.sizeOf157
 v183:=Tryz.zeroValue157
 t218:=Tryz.underlying178
 a218:=Tryz.isAgg178
 z218:=Tryz.sizeOf178
 v218:=Tryz.zeroValue178
 t222:=Tryz.underlying182
 a222:=Tryz.isAgg182
 z222:=Tryz.sizeOf182
 v222:=Tryz.zeroValue182
 t228:=Tryz.underlying208
 a228:=Tryz.isAgg208
 z228:=Tryz.sizeOf208
 v228:=Tryz.zeroValue208
 t229:=Tryz.underlying209
 a229:=Tryz.isAgg209
 z229:=Tryz.sizeOf209
 v229:=Tryz.zeroValue209 }
def Tryz.lay190_ren:Go.Shelf.Ren:=⟨fun | 190=>190 | 125=>93 | 258=>215 | 128=>123 | 129=>124 | 302=>250 | 303=>251 | 304=>252 | 305=>253 | 306=>254 | 307=>255 | 308=>256 | 309=>257 | 310=>258 | 333=>278 | 329=>139 | 330=>140 | 334=>279 | 335=>280 | 336=>281 | 344=>295 | n=>n,fun | 31=>22 | 9=>9 | 3=>3 | 46=>135 | 0=>0 | 51=>163 | 53=>165 | 4=>4 | 183=>157 | 182=>156 | 131=>109 | 5=>5 | 218=>178 | 222=>182 | 228=>208 | 229=>209 | n=>n,fun | n=>n⟩
theorem Tryz.lay190:Go.Proofs.Lays.n190 Tryz.prog Tryz.lay190_ren:={
 mixed:=by kernel_rfl
 f125:=Tryz.func93.trans (congrArg some (by kernel_rfl))
 f128:=Tryz.func123.trans (congrArg some (by kernel_rfl))
 f129:=Tryz.func124.trans (congrArg some (by kernel_rfl))
 f190:=Tryz.func190.trans (congrArg some (by kernel_rfl))
 f258:=Tryz.func215.trans (congrArg some (by kernel_rfl))
 f302:=Tryz.func250.trans (congrArg some (by kernel_rfl))
 f303:=Tryz.func251.trans (congrArg some (by kernel_rfl))
 f304:=Tryz.func252.trans (congrArg some (by kernel_rfl))
 f305:=Tryz.func253.trans (congrArg some (by kernel_rfl))
 f306:=Tryz.func254.trans (congrArg some (by kernel_rfl))
 f307:=Tryz.func255.trans (congrArg some (by kernel_rfl))
 f308:=Tryz.func256.trans (congrArg some (by kernel_rfl))
 f309:=Tryz.func257.trans (congrArg some (by kernel_rfl))
 f310:=Tryz.func258.trans (congrArg some (by kernel_rfl))
 f329:=Tryz.func139.trans (congrArg some (by kernel_rfl))
 f330:=Tryz.func140.trans (congrArg some (by kernel_rfl))
 f333:=Tryz.func278.trans (congrArg some (by kernel_rfl))
 f334:=Tryz.func279.trans (congrArg some (by kernel_rfl))
 f335:=Tryz.func280.trans (congrArg some (by kernel_rfl))
 f336:=Tryz.func281.trans (congrArg some (by kernel_rfl))
 f344:=Tryz.func295.trans (congrArg some (by kernel_rfl))
 t0:=Tryz.underlying0
 a0:=Tryz.isAgg0
 z0:=Tryz.sizeOf0
 v0:=Tryz.zeroValue0
 t3:=Tryz.underlying3
 a3:=Tryz.isAgg3
 z3:=Tryz.sizeOf3
 v3:=Tryz.zeroValue3
 t4:=Tryz.underlying4
 a4:=Tryz.isAgg4
 z4:=Tryz.sizeOf4
 v4:=Tryz.zeroValue4
 t5:=Tryz.underlying5
 a5:=Tryz.isAgg5
 z5:=Tryz.sizeOf5
 v5:=Tryz.zeroValue5
 t9:=Tryz.underlying9
 a9:=Tryz.isAgg9
 z9:=Tryz.sizeOf9
 v9:=Tryz.zeroValue9
 t31:=Tryz.underlying22
 a31:=Tryz.isAgg22
 z31:=Tryz.sizeOf22
 v31:=Tryz.zeroValue22
 t46:=Tryz.underlying135
 a46:=Tryz.isAgg135
 z46:=Tryz.sizeOf135
 v46:=Tryz.zeroValue135
 t51:=Tryz.underlying163
 a51:=Tryz.isAgg163
 z51:=Tryz.sizeOf163
 v51:=Tryz.zeroValue163
 t53:=Tryz.underlying165
 a53:=Tryz.isAgg165
 z53:=Tryz.sizeOf165
 v53:=Tryz.zeroValue165
 t131:=Tryz.underlying109
 a131:=Tryz.isAgg109
 z131:=Tryz.sizeOf109
 v131:=Tryz.zeroValue109
 t182:=Tryz.underlying156
 a182:=Tryz.isAgg156
 z182:=Tryz.sizeOf156
 v182:=Tryz.zeroValue156
 t183:=Tryz.underlying157
 a183:=Tryz.isAgg157
 z183:=Tryz.sizeOf157
 v183:=Tryz.zeroValue157
 t218:=Tryz.underlying178
 a218:=Tryz.isAgg178
 z218:=Tryz.sizeOf178
 v218:=Tryz.zeroValue178
 t222:=Tryz.underlying182
 a222:=Tryz.isAgg182
 z222:=Tryz.sizeOf182
 v222:=Tryz.zeroValue182
 t228:=Tryz.underlying208
 a228:=Tryz.isAgg208
 z228:=Tryz.sizeOf208
 v228:=Tryz.zeroValue208
 t229:=Tryz.underlying209
 a229:=Tryz.isAgg209
 z229:=Tryz.sizeOf209
 v229:=Tryz.zeroValue209 }
end Go.Proofs
end
section
namespace Go.Qx
open Go Go.RowKit Go.Sx
set_option maxRecDepth 100000
abbrev a7R (v:Api_Field):Key×Int×Bool:=(v.Key_,v.Node,v.Optional)
abbrev b2I (x:Key×Int×Bool):Api_Field:=⟨x.1,x.2.1,x.2.2⟩
@[reducible] def W6:Rp Api_Field:=a0q a7R (k9 (rpKey) (k9 (rpK .i64) (rpBool)))
abbrev a4p (v:Api_TypeNode):Int×Int×Int×ByteArray×(List Int)×(List Api_Field)×(Int×Int):=(v.Kind,v.Lo,v.Hi,v.Text,v.Kids,v.Fields,v.Rest)
abbrev a8C (x:Int×Int×Int×ByteArray×(List Int)×(List Api_Field)×(Int×Int)):Api_TypeNode:=⟨x.1,x.2.1,x.2.2.1,x.2.2.2.1,x.2.2.2.2.1,x.2.2.2.2.2.1,x.2.2.2.2.2.2⟩
@[reducible] def J0:Rp Api_TypeNode:=a0q a4p (k9 (rpK .i64) (k9 (rpK .i64) (k9 (rpK .i64) (k9 (rpStr) (k9 (@rpList _ (rpK .i64)) (k9 (@rpList _ (W6)) (k9 (rpK .i64) (rpK .i64))))))))
abbrev a9i (v:Api_Type):(List Api_TypeNode)×Int:=(v.Nodes,v.Root)
abbrev b4Z (x:(List Api_TypeNode)×Int):Api_Type:=⟨x.1,x.2⟩
@[reducible] def J1:Rp Api_Type:=a0q a9i (k9 (@rpList _ (J0)) (rpK .i64))
abbrev a3y (v:Api_Constraint):Api_Type×Api_Type:=(v.Lower,v.Upper)
abbrev a6m (x:Api_Type×Api_Type):Api_Constraint:=⟨x.1,x.2⟩
@[reducible] def a0k:Rp Api_Constraint:=a0q a3y (k9 (J1) (J1))
abbrev a7e (v:Api_Range):Int×Int:=(v.Lo,v.Hi)
abbrev b2T (x:Int×Int):Api_Range:=⟨x.1,x.2⟩
@[reducible] def W2:Rp Api_Range:=a0q a7e (k9 (rpK .i64) (rpK .i64))
abbrev a5g (v:Api_Binding):ByteArray×Api_Type:=(v.Name,v.Type_)
abbrev a9t (x:ByteArray×Api_Type):Api_Binding:=⟨x.1,x.2⟩
@[reducible] def a1d:Rp Api_Binding:=a0q a5g (k9 (rpStr) (J1))
abbrev a8G (v:Api_Goal):(List Int)×(List Int)×Bool:=(v.Pos,v.Neg,v.Lists)
abbrev b4T (x:(List Int)×(List Int)×Bool):Api_Goal:=⟨x.1,x.2.1,x.2.2⟩
@[reducible] def j6:Rp Api_Goal:=a0q a8G (k9 (@rpList _ (rpK .i64)) (k9 (@rpList _ (rpK .i64)) (rpBool)))
abbrev a8Z (v:Api_Form):(List Int)×Bool×Int:=(v.Args,v.Fails,v.Result)
abbrev b4Y (x:(List Int)×Bool×Int):Api_Form:=⟨x.1,x.2.1,x.2.2⟩
@[reducible] def X7:Rp Api_Form:=a0q a8Z (k9 (@rpList _ (rpK .i64)) (k9 (rpBool) (rpK .i64)))
abbrev a24 (v:Api_Alternative):Val×(List Key)×(List Api_Form)×(List Api_Goal):=(v.Leaf,v.Keys,v.Forms,v.Subgoals)
abbrev a5Y (x:Val×(List Key)×(List Api_Form)×(List Api_Goal)):Api_Alternative:=⟨x.1,x.2.1,x.2.2.1,x.2.2.2⟩
@[reducible] def Q7:Rp Api_Alternative:=a0q a24 (k9 (rpVal) (k9 (@rpList _ (rpKey)) (k9 (@rpList _ (X7)) (@rpList _ (j6)))))
abbrev a3Z (v:Api_EntryForm):(List Api_Goal)×Bool×Api_Goal:=(v.Args,v.Fails,v.Result)
abbrev a6U (x:(List Api_Goal)×Bool×Api_Goal):Api_EntryForm:=⟨x.1,x.2.1,x.2.2⟩
@[reducible] def Q0:Rp Api_EntryForm:=a0q a3Z (k9 (@rpList _ (j6)) (k9 (rpBool) (j6)))
abbrev a7b (v:Solve_Way):Api_Alternative×(List (List Api_EntryForm)):=(v.Alternative,v.Entries)
abbrev b3e (x:Api_Alternative×(List (List Api_EntryForm))):Solve_Way:=⟨x.1,x.2⟩
@[reducible] def a1Z:Rp Solve_Way:=a0q a7b (k9 (Q7) (@rpList _ (@rpList _ (Q0))))
abbrev a68 (v:Api_Names):Bool×(List ByteArray):=(v.Cofinite,v.List_)
abbrev b2z (x:Bool×(List ByteArray)):Api_Names:=⟨x.1,x.2⟩
@[reducible] def K8:Rp Api_Names:=a0q a68 (k9 (rpBool) (@rpList _ (rpStr)))
abbrev a9j (v:Api_Line):Int×Int×(List Api_Range)×Api_Names×(List Int)×(List Int)×(List ByteArray)×(List ByteArray):=(v.Kind,v.Arity,v.Ints,v.Names,v.Pos,v.Neg,v.Vars,v.NotVars)
abbrev b4P (x:Int×Int×(List Api_Range)×Api_Names×(List Int)×(List Int)×(List ByteArray)×(List ByteArray)):Api_Line:=⟨x.1,x.2.1,x.2.2.1,x.2.2.2.1,x.2.2.2.2.1,x.2.2.2.2.2.1,x.2.2.2.2.2.2.1,x.2.2.2.2.2.2.2⟩
@[reducible] def a2z:Rp Api_Line:=a0q a9j (k9 (rpK .i64) (k9 (rpK .i64) (k9 (@rpList _ (W2)) (k9 (K8) (k9 (@rpList _ (rpK .i64)) (k9 (@rpList _ (rpK .i64)) (k9 (@rpList _ (rpStr)) (@rpList _ (rpStr)))))))))
abbrev a7c (v:Core_Sort):Int×Int:=(v.Kind,v.Arity)
abbrev b3p (x:Int×Int):Core_Sort:=⟨x.1,x.2⟩
@[reducible] def a1Y:Rp Core_Sort:=a0q a7c (k9 (rpK .i64) (rpK .i64))
abbrev a7y (v:Core_pair):(List Int)×(List Int)×(List Int)×(List Int):=(v.pos,v.neg,v.finalPos,v.finalNeg)
abbrev b3s (x:(List Int)×(List Int)×(List Int)×(List Int)):Core_pair:=⟨x.1,x.2.1,x.2.2.1,x.2.2.2⟩
@[reducible] def a11:Rp Core_pair:=a0q a7y (k9 (@rpList _ (rpK .i64)) (k9 (@rpList _ (rpK .i64)) (k9 (@rpList _ (rpK .i64)) (@rpList _ (rpK .i64)))))
abbrev a0W (v:Api_Box):(List Api_Goal):=v.Parts
abbrev c2l (x:(List Api_Goal)):Api_Box:=⟨x⟩
@[reducible] def b1u:Rp Api_Box:=a0q a0W (@rpList _ (j6))
abbrev a5d (v:Api_SomeKey):Int×Api_Goal:=(v.Kind,v.Goal)
abbrev a9U (x:Int×Api_Goal):Api_SomeKey:=⟨x.1,x.2⟩
@[reducible] def J9:Rp Api_SomeKey:=a0q a5d (k9 (rpK .i64) (j6))
abbrev a7z (v:Api_Shape):(List Key)×(List Int)×(List Api_Goal)×(Api_Goal×Api_Goal)×(List Api_SomeKey):=(v.Keys,v.States,v.Parts,v.Rest,v.Some)
abbrev b2w (x:(List Key)×(List Int)×(List Api_Goal)×(Api_Goal×Api_Goal)×(List Api_SomeKey)):Api_Shape:=⟨x.1,x.2.1,x.2.2.1,x.2.2.2.1,x.2.2.2.2⟩
@[reducible] def a18:Rp Api_Shape:=a0q a7z (k9 (@rpList _ (rpKey)) (k9 (@rpList _ (rpK .i64)) (k9 (@rpList _ (j6)) (k9 (k9 (j6) (j6)) (@rpList _ (J9))))))
abbrev a3c (v:Literals_normal):Api_Names:=v.Names
abbrev a5U (x:Api_Names):Literals_normal:=⟨x⟩
@[reducible] def a0b:Rp Literals_normal:=a0q a3c (K8)
abbrev a4s (v:Record_place):Int×Bool×Int:=(v.key,v.absent,v.kind)
abbrev a8z (x:Int×Bool×Int):Record_place:=⟨x.1,x.2.1,x.2.2⟩
@[reducible] def a0L:Rp Record_place:=a0q a4s (k9 (rpK .i64) (k9 (rpBool) (rpK .i64)))
def tyL:List TE:=[⟨2,Int,rpK .i64⟩,
 ⟨3,Int,rpK .i64⟩,
 ⟨4,Bool,rpBool⟩,
 ⟨5,Int,rpK .u8⟩,
 ⟨9,ByteArray,rpStr⟩,
 ⟨22,List ByteArray,@rpList _ (rpStr)⟩,
 ⟨25,List Api_TypeNode,@rpList _ (J0)⟩,
 ⟨27,Api_Type,J1⟩,
 ⟨36,List Int,@rpList _ (rpK .i64)⟩,
 ⟨38,List Val,@rpList _ (rpVal)⟩,
 ⟨39,List Key,@rpList _ (rpKey)⟩,
 ⟨40,List Ent,@rpList _ (rpEnt)⟩,
 ⟨42,Val,rpVal⟩,
 ⟨51,Api_Constraint,a0k⟩,
 ⟨56,Api_Range,W2⟩,
 ⟨57,List Api_Range,@rpList _ (W2)⟩,
 ⟨61,Api_Binding,a1d⟩,
 ⟨64,List Api_Field,@rpList _ (W6)⟩,
 ⟨65,Int×Int,k9 (rpK .i64) (rpK .i64)⟩,
 ⟨67,Api_TypeNode,J0⟩,
 ⟨100,Api_Goal,j6⟩,
 ⟨120,Ent,rpEnt⟩,
 ⟨126,Key,rpKey⟩,
 ⟨128,Api_Field,W6⟩,
 ⟨184,List Api_Goal,@rpList _ (j6)⟩,
 ⟨188,List Api_Form,@rpList _ (X7)⟩,
 ⟨190,Api_Alternative,Q7⟩,
 ⟨191,List (List Api_EntryForm),@rpList _ (@rpList _ (Q0))⟩,
 ⟨193,Solve_Way,a1Z⟩,
 ⟨214,Api_Names,K8⟩,
 ⟨216,Api_Line,a2z⟩,
 ⟨219,List Api_EntryForm,@rpList _ (Q0)⟩,
 ⟨224,Api_EntryForm,Q0⟩,
 ⟨237,Core_Sort,a1Y⟩,
 ⟨252,Core_pair,a11⟩,
 ⟨273,Api_Box,b1u⟩,
 ⟨296,Api_Goal×Api_Goal,k9 (j6) (j6)⟩,
 ⟨297,List Api_SomeKey,@rpList _ (J9)⟩,
 ⟨299,Api_Shape,a18⟩,
 ⟨302,Api_SomeKey,J9⟩,
 ⟨320,Literals_normal,a0b⟩,
 ⟨336,Record_place,a0L⟩,
 ⟨338,Api_Form,X7⟩]
abbrev I (E:TypeId):Type:=(a4o tyL E).α
instance rI (E:TypeId):Rp (I E):=(a4o tyL E).rp
def a5A:Fd I (I 27) inferInstance:=(Y9 (rg:=J1) (j5 (w9 67:Fd I (List Api_TypeNode) (@rpList _ (J0))) ((Y8 .i64:Fd I Int (rpK .i64)))) a9i b4Z (fun _=>rfl) (fun _ _ _=>Iff.rfl):Fd I Api_Type J1)
def b94:Fd I (I 42) inferInstance:=(Y9 (rg:=rpVal) (j5 (Y8 .i64:Fd I Int (rpK .i64)) (j5 (Y8 .i64:Fd I Int (rpK .i64)) (j5 (a5B:Fd I ByteArray (rpStr)) (j5 (w9 42:Fd I (List Val) (@rpList _ (rpVal))) (j5 (w9 126:Fd I (List Key) (@rpList _ (rpKey))) (j5 (w9 120:Fd I (List Ent) (@rpList _ (rpEnt))) ((w9 9:Fd I (List ByteArray) (@rpList _ (rpStr)))))))))) Val.to Val.of (fun _=>rfl) Val.cells_to:Fd I Val rpVal)
def b4h:Fd I (I 51) inferInstance:=(Y9 (rg:=a0k) (j5 (K9 27 a5A:Fd I Api_Type (J1)) ((K9 27 a5A:Fd I Api_Type (J1)))) a3y a6m (fun _=>rfl) (fun _ _ _=>Iff.rfl):Fd I Api_Constraint a0k)
def c0u:Fd I (I 56) inferInstance:=(Y9 (rg:=W2) (j5 (Y8 .i64:Fd I Int (rpK .i64)) ((Y8 .i64:Fd I Int (rpK .i64)))) a7e b2T (fun _=>rfl) (fun _ _ _=>Iff.rfl):Fd I Api_Range W2)
def b7S:Fd I (I 61) inferInstance:=(Y9 (rg:=a1d) (j5 (a5B:Fd I ByteArray (rpStr)) ((K9 27 a5A:Fd I Api_Type (J1)))) a5g a9t (fun _=>rfl) (fun _ _ _=>Iff.rfl):Fd I Api_Binding a1d)
def c33:Fd I (I 65) inferInstance:=(j5 (Y8 .i64:Fd I Int (rpK .i64)) ((Y8 .i64:Fd I Int (rpK .i64))):Fd I (Int×Int) (k9 (rpK .i64) (rpK .i64)))
def b63:Fd I (I 67) inferInstance:=(Y9 (rg:=J0) (j5 (Y8 .i64:Fd I Int (rpK .i64)) (j5 (Y8 .i64:Fd I Int (rpK .i64)) (j5 (Y8 .i64:Fd I Int (rpK .i64)) (j5 (a5B:Fd I ByteArray (rpStr)) (j5 (w9 3:Fd I (List Int) (@rpList _ (rpK .i64))) (j5 (w9 128:Fd I (List Api_Field) (@rpList _ (W6))) ((K9 65 c33:Fd I (Int×Int) (k9 (rpK .i64) (rpK .i64)))))))))) a4p a8C (fun _=>rfl) (fun _ _ _=>Iff.rfl):Fd I Api_TypeNode J0)
def a3K:Fd I (I 100) inferInstance:=(Y9 (rg:=j6) (j5 (w9 3:Fd I (List Int) (@rpList _ (rpK .i64))) (j5 (w9 3:Fd I (List Int) (@rpList _ (rpK .i64))) ((a0V:Fd I Bool (rpBool))))) a8G b4T (fun _=>rfl) (fun _ _ _=>Iff.rfl):Fd I Api_Goal j6)
def c7w:Fd I (I 120) inferInstance:=(Y9 (rg:=rpEnt) (j5 (w9 42:Fd I (List Val) (@rpList _ (rpVal))) (j5 (a0V:Fd I Bool (rpBool)) ((K9 42 b94:Fd I Val (rpVal))))) Ent.to Ent.of (fun _=>rfl) Ent.cells_to:Fd I Ent rpEnt)
def c3u:Fd I (I 126) inferInstance:=(Y9 (rg:=rpKey) (j5 (Y8 .i64:Fd I Int (rpK .i64)) ((a5B:Fd I ByteArray (rpStr)))) Key.to Key.of (fun _=>rfl) Key.cells_to:Fd I Key rpKey)
def c06:Fd I (I 128) inferInstance:=(Y9 (rg:=W6) (j5 (K9 126 c3u:Fd I Key (rpKey)) (j5 (Y8 .i64:Fd I Int (rpK .i64)) ((a0V:Fd I Bool (rpBool))))) a7R b2I (fun _=>rfl) (fun _ _ _=>Iff.rfl):Fd I Api_Field W6)
def a5F:Fd I (I 190) inferInstance:=(Y9 (rg:=Q7) (j5 (K9 42 b94:Fd I Val (rpVal)) (j5 (w9 126:Fd I (List Key) (@rpList _ (rpKey))) (j5 (w9 338:Fd I (List Api_Form) (@rpList _ (X7))) ((w9 100:Fd I (List Api_Goal) (@rpList _ (j6))))))) a24 a5Y (fun _=>rfl) (fun _ _ _=>Iff.rfl):Fd I Api_Alternative Q7)
def c02:Fd I (I 193) inferInstance:=(Y9 (rg:=a1Z) (j5 (K9 190 a5F:Fd I Api_Alternative (Q7)) ((w9 219:Fd I (List (List Api_EntryForm)) (@rpList _ (@rpList _ (Q0)))))) a7b b3e (fun _=>rfl) (fun _ _ _=>Iff.rfl):Fd I Solve_Way a1Z)
def a7x:Fd I (I 214) inferInstance:=(Y9 (rg:=K8) (j5 (a0V:Fd I Bool (rpBool)) ((w9 9:Fd I (List ByteArray) (@rpList _ (rpStr))))) a68 b2z (fun _=>rfl) (fun _ _ _=>Iff.rfl):Fd I Api_Names K8)
def c1B:Fd I (I 216) inferInstance:=(Y9 (rg:=a2z) (j5 (Y8 .i64:Fd I Int (rpK .i64)) (j5 (Y8 .i64:Fd I Int (rpK .i64)) (j5 (w9 56:Fd I (List Api_Range) (@rpList _ (W2))) (j5 (K9 214 a7x:Fd I Api_Names (K8)) (j5 (w9 3:Fd I (List Int) (@rpList _ (rpK .i64))) (j5 (w9 3:Fd I (List Int) (@rpList _ (rpK .i64))) (j5 (w9 9:Fd I (List ByteArray) (@rpList _ (rpStr))) ((w9 9:Fd I (List ByteArray) (@rpList _ (rpStr))))))))))) a9j b4P (fun _=>rfl) (fun _ _ _=>Iff.rfl):Fd I Api_Line a2z)
def b5r:Fd I (I 224) inferInstance:=(Y9 (rg:=Q0) (j5 (w9 100:Fd I (List Api_Goal) (@rpList _ (j6))) (j5 (a0V:Fd I Bool (rpBool)) ((K9 100 a3K:Fd I Api_Goal (j6))))) a3Z a6U (fun _=>rfl) (fun _ _ _=>Iff.rfl):Fd I Api_EntryForm Q0)
def c0c:Fd I (I 237) inferInstance:=(Y9 (rg:=a1Y) (j5 (Y8 .i64:Fd I Int (rpK .i64)) ((Y8 .i64:Fd I Int (rpK .i64)))) a7c b3p (fun _=>rfl) (fun _ _ _=>Iff.rfl):Fd I Core_Sort a1Y)
def c1c:Fd I (I 252) inferInstance:=(Y9 (rg:=a11) (j5 (w9 3:Fd I (List Int) (@rpList _ (rpK .i64))) (j5 (w9 3:Fd I (List Int) (@rpList _ (rpK .i64))) (j5 (w9 3:Fd I (List Int) (@rpList _ (rpK .i64))) ((w9 3:Fd I (List Int) (@rpList _ (rpK .i64))))))) a7y b3s (fun _=>rfl) (fun _ _ _=>Iff.rfl):Fd I Core_pair a11)
def c3d:Fd I (I 273) inferInstance:=(Y9 (rg:=b1u) ((w9 100:Fd I (List Api_Goal) (@rpList _ (j6)))) a0W c2l (fun _=>rfl) (fun _ _ _=>Iff.rfl):Fd I Api_Box b1u)
def c10:Fd I (I 296) inferInstance:=(j5 (K9 100 a3K:Fd I Api_Goal (j6)) ((K9 100 a3K:Fd I Api_Goal (j6))):Fd I (Api_Goal×Api_Goal) (k9 (j6) (j6)))
def c0P:Fd I (I 299) inferInstance:=(Y9 (rg:=a18) (j5 (w9 126:Fd I (List Key) (@rpList _ (rpKey))) (j5 (w9 3:Fd I (List Int) (@rpList _ (rpK .i64))) (j5 (w9 100:Fd I (List Api_Goal) (@rpList _ (j6))) (j5 (K9 296 c10:Fd I (Api_Goal×Api_Goal) (k9 (j6) (j6))) ((w9 302:Fd I (List Api_SomeKey) (@rpList _ (J9)))))))) a7z b2w (fun _=>rfl) (fun _ _ _=>Iff.rfl):Fd I Api_Shape a18)
def b7x:Fd I (I 302) inferInstance:=(Y9 (rg:=J9) (j5 (Y8 .i64:Fd I Int (rpK .i64)) ((K9 100 a3K:Fd I Api_Goal (j6)))) a5d a9U (fun _=>rfl) (fun _ _ _=>Iff.rfl):Fd I Api_SomeKey J9)
def b3D:Fd I (I 320) inferInstance:=(Y9 (rg:=a0b) ((K9 214 a7x:Fd I Api_Names (K8))) a3c a5U (fun _=>rfl) (fun _ _ _=>Iff.rfl):Fd I Literals_normal a0b)
def b60:Fd I (I 336) inferInstance:=(Y9 (rg:=a0L) (j5 (Y8 .i64:Fd I Int (rpK .i64)) (j5 (a0V:Fd I Bool (rpBool)) ((Y8 .i64:Fd I Int (rpK .i64))))) a4s a8z (fun _=>rfl) (fun _ _ _=>Iff.rfl):Fd I Record_place a0L)
def c1t:Fd I (I 338) inferInstance:=(Y9 (rg:=X7) (j5 (w9 3:Fd I (List Int) (@rpList _ (rpK .i64))) (j5 (a0V:Fd I Bool (rpBool)) ((Y8 .i64:Fd I Int (rpK .i64))))) a8Z b4Y (fun _=>rfl) (fun _ _ _=>Iff.rfl):Fd I Api_Form X7)
def feL:List (FE I):=[⟨2,Y8 .i64⟩,
 ⟨3,Y8 .i64⟩,
 ⟨4,a0V⟩,
 ⟨5,Y8 .u8⟩,
 ⟨9,a5B⟩,
 ⟨22,w9 9⟩,
 ⟨25,w9 67⟩,
 ⟨27,a5A⟩,
 ⟨36,w9 3⟩,
 ⟨38,w9 42⟩,
 ⟨39,w9 126⟩,
 ⟨40,w9 120⟩,
 ⟨42,b94⟩,
 ⟨51,b4h⟩,
 ⟨56,c0u⟩,
 ⟨57,w9 56⟩,
 ⟨61,b7S⟩,
 ⟨64,w9 128⟩,
 ⟨65,c33⟩,
 ⟨67,b63⟩,
 ⟨100,a3K⟩,
 ⟨120,c7w⟩,
 ⟨126,c3u⟩,
 ⟨128,c06⟩,
 ⟨184,w9 100⟩,
 ⟨188,w9 338⟩,
 ⟨190,a5F⟩,
 ⟨191,w9 219⟩,
 ⟨193,c02⟩,
 ⟨214,a7x⟩,
 ⟨216,c1B⟩,
 ⟨219,w9 224⟩,
 ⟨224,b5r⟩,
 ⟨237,c0c⟩,
 ⟨252,c1c⟩,
 ⟨273,c3d⟩,
 ⟨296,c10⟩,
 ⟨297,w9 302⟩,
 ⟨299,c0P⟩,
 ⟨302,b7x⟩,
 ⟨320,b3D⟩,
 ⟨336,b60⟩,
 ⟨338,c1t⟩]
def c7F:TabL I where
 sz:=[(27,2),(51,4),(56,2),(61,3),(65,2),(67,8),(100,3),(126,2),(128,4),(168,2),(190,10),(193,11),(214,2),(216,9),(224,5),(237,2),(252,4),(273,1),(299,10),(302,4),(320,2),(336,3)]
 one:=[(2,()),(3,()),(4,()),(5,()),(9,()),(22,()),(25,()),(36,()),(39,()),(57,()),(62,()),(64,()),(106,()),(151,()),(166,()),(184,()),(191,()),(219,()),(293,()),(297,()),(330,()),(331,())]
 fld:=[(27,[(0,25),(1,3)]),(42,[(0,3),(1,2),(2,9),(3,38),(4,39),(5,40),(6,22)]),(51,[(0,27),(2,27)]),(56,[(0,2),(1,2)]),(61,[(0,9),(1,27)]),(67,[(0,3),(1,2),(2,2),(3,9),(4,36),(5,64),(6,65)]),(100,[(0,36),(1,36),(2,4)]),(126,[(0,3),(1,9)]),(128,[(0,126),(2,3),(3,4)]),(168,[(0,166),(1,106)]),(190,[(0,42),(7,39),(8,188),(9,184)]),(193,[(0,190),(10,191)]),(214,[(0,4),(1,22)]),(216,[(0,3),(1,3),(2,57),(3,214),(5,36),(6,36),(7,22),(8,22)]),(224,[(0,184),(1,4),(2,100)]),(237,[(0,3),(1,3)]),(252,[(0,36),(1,36),(2,36),(3,36)]),(273,[(0,184)]),(299,[(0,39),(1,36),(2,184),(3,296),(9,297)]),(302,[(0,3),(1,100)]),(320,[(0,214)]),(336,[(0,3),(1,4),(2,3)])]
 el:=[(22,9),(24,27),(25,67),(29,36),(36,3),(39,126),(45,51),(57,56),(62,61),(64,128),(184,100),(185,193),(191,219),(198,5),(211,216),(217,190),(219,224),(234,237),(253,252),(269,273),(293,299),(297,302),(330,336)]
 str:=[(9,())]
 bool:=[]
 ik:=[(2,.i64),(3,.i64),(5,.u8),(135,.u64),(165,.u64)]
 fe:=feL
 inf:=[(2,1,8,[.int .i64 0]),(3,1,8,[.int .i64 0]),(4,1,1,[.bool false]),(5,1,1,[.int .u8 0]),(9,1,16,[.str ⟨#[]⟩]),(22,1,24,[.nl 9]),(27,2,32,[.nl 67,.int .i64 0]),(36,1,24,[.nl 3]),(39,1,24,[.nl 126]),(42,7,128,[.int .i64 0,.int .i64 0,.str ⟨#[]⟩,.nl 42,.nl 126,.nl 120,.nl 9]),(51,4,64,[.nl 67,.int .i64 0,.nl 67,.int .i64 0]),(56,2,16,[.int .i64 0,.int .i64 0]),(57,1,24,[.nl 56]),(61,3,48,[.str ⟨#[]⟩,.nl 67,.int .i64 0]),(64,1,24,[.nl 128]),(65,2,16,[.int .i64 0,.int .i64 0]),(67,8,104,[.int .i64 0,.int .i64 0,.int .i64 0,.str ⟨#[]⟩,.nl 3,.nl 128,.int .i64 0,.int .i64 0]),(100,3,56,[.nl 3,.nl 3,.bool false]),(126,2,24,[.int .i64 0,.str ⟨#[]⟩]),(128,4,40,[.int .i64 0,.str ⟨#[]⟩,.int .i64 0,.bool false]),(151,1,8,[.any]),(168,2,16,[.any,.any]),(184,1,24,[.nl 100]),(185,1,24,[.nl 193]),(190,10,200,[.int .i64 0,.int .i64 0,.str ⟨#[]⟩,.nl 42,.nl 126,.nl 120,.nl 9,.nl 126,.nl 338,.nl 100]),(193,11,224,[.int .i64 0,.int .i64 0,.str ⟨#[]⟩,.nl 42,.nl 126,.nl 120,.nl 9,.nl 126,.nl 338,.nl 100,.nl 219]),(214,2,32,[.bool false,.nl 9]),(216,9,168,[.int .i64 0,.int .i64 0,.nl 56,.bool false,.nl 9,.nl 3,.nl 3,.nl 9,.nl 9]),(219,1,24,[.nl 224]),(224,5,88,[.nl 100,.bool false,.nl 3,.nl 3,.bool false]),(237,2,16,[.int .i64 0,.int .i64 0]),(252,4,96,[.nl 3,.nl 3,.nl 3,.nl 3]),(273,1,24,[.nl 100]),(293,1,24,[.nl 299]),(297,1,24,[.nl 302]),(299,10,208,[.nl 126,.nl 3,.nl 100,.nl 3,.nl 3,.bool false,.nl 3,.nl 3,.bool false,.nl 302]),(302,4,64,[.int .i64 0,.nl 3,.nl 3,.bool false]),(320,2,32,[.bool false,.nl 9]),(330,1,24,[.nl 336]),(331,1,8,[.any]),(336,3,24,[.int .i64 0,.bool false,.int .i64 0])]
 st:=[(27,[(0,1),(1,1)]),(42,[(0,1),(1,1),(2,1),(3,1),(4,1),(5,1),(6,1)]),(51,[(0,2),(2,2)]),(56,[(0,1),(1,1)]),(61,[(0,1),(1,2)]),(65,[(0,1),(1,1)]),(67,[(0,1),(1,1),(2,1),(3,1),(4,1),(5,1),(6,2)]),(100,[(0,1),(1,1),(2,1)]),(126,[(0,1),(1,1)]),(168,[(0,1),(1,1)]),(190,[(0,7),(7,1),(8,1),(9,1)]),(193,[(0,10),(10,1)]),(214,[(0,1),(1,1)]),(216,[(0,1),(1,1),(2,1),(3,2),(5,1),(6,1),(7,1),(8,1)]),(237,[(0,1),(1,1)]),(252,[(0,1),(1,1),(2,1),(3,1)]),(299,[(0,1),(1,1),(2,1),(3,6),(9,1)]),(302,[(0,1),(1,3)]),(320,[(0,2)]),(336,[(0,1),(1,1),(2,1)])]
 eq:=[(65,b2S feL 65 a60),(126,b2S feL 126 a2A)]
 nest:=[(36,3,0),(100,3,1)]
 arr:=[(65,3,2,1),(296,100,2,3)]
 u8:=[(5,())]
 mp:=[(106,.int .i64),(166,.sl 193),(254,.bool)]
 fb:=[(37,()),(52,()),(55,()),(56,()),(57,()),(64,()),(135,()),(137,()),(162,()),(194,()),(197,()),(219,()),(227,()),(233,()),(285,()),(286,())]
abbrev tb:Tab I:=c2Z c7F
theorem ti2:Z1 Go.Proofs.Tryz.prog 2 (.int .i64 0) 1 8:=v6 (by kernel_rfl)
theorem ti3:Z1 Go.Proofs.Tryz.prog 3 (.int .i64 0) 1 8:=v6 (by kernel_rfl)
theorem ti4:Z1 Go.Proofs.Tryz.prog 4 (.bool false) 1 1:=v6 (by kernel_rfl)
theorem ti5:Z1 Go.Proofs.Tryz.prog 5 (.int .u8 0) 1 1:=v6 (by kernel_rfl)
theorem ti9:Z1 Go.Proofs.Tryz.prog 9 (.string ⟨#[]⟩) 1 16:=v6 (by kernel_rfl)
theorem c7T:Z1 Go.Proofs.Tryz.prog 22 (.slice none 0 0) 1 24:=v6 (by kernel_rfl)
theorem c2E:Z1 Go.Proofs.Tryz.prog 27 (.agg #[.slice none 0 0,.int .i64 0]) 2 32:=v6 (by kernel_rfl)
theorem c29:Z1 Go.Proofs.Tryz.prog 36 (.slice none 0 0) 1 24:=v6 (by kernel_rfl)
theorem c7V:Z1 Go.Proofs.Tryz.prog 39 (.slice none 0 0) 1 24:=v6 (by kernel_rfl)
theorem c6V:Z1 Go.Proofs.Tryz.prog 42 (.agg #[.int .i64 0,.int .i64 0,.string ⟨#[]⟩,.slice none 0 0,.slice none 0 0,.slice none 0 0,.slice none 0 0]) 7 128:=v6 (by kernel_rfl)
theorem c2M:Z1 Go.Proofs.Tryz.prog 51 (.agg #[.slice none 0 0,.int .i64 0,.slice none 0 0,.int .i64 0]) 4 64:=v6 (by kernel_rfl)
theorem c2r:Z1 Go.Proofs.Tryz.prog 56 (.agg #[.int .i64 0,.int .i64 0]) 2 16:=v6 (by kernel_rfl)
theorem c6L:Z1 Go.Proofs.Tryz.prog 57 (.slice none 0 0) 1 24:=v6 (by kernel_rfl)
theorem c3c:Z1 Go.Proofs.Tryz.prog 61 (.agg #[.string ⟨#[]⟩,.slice none 0 0,.int .i64 0]) 3 48:=v6 (by kernel_rfl)
theorem c7p:Z1 Go.Proofs.Tryz.prog 64 (.slice none 0 0) 1 24:=v6 (by kernel_rfl)
theorem c6K:Z1 Go.Proofs.Tryz.prog 65 (.agg #[.int .i64 0,.int .i64 0]) 2 16:=v6 (by kernel_rfl)
theorem c2u:Z1 Go.Proofs.Tryz.prog 67 (.agg #[.int .i64 0,.int .i64 0,.int .i64 0,.string ⟨#[]⟩,.slice none 0 0,.slice none 0 0,.int .i64 0,.int .i64 0]) 8 104:=v6 (by kernel_rfl)
theorem b9H:Z1 Go.Proofs.Tryz.prog 100 (.agg #[.slice none 0 0,.slice none 0 0,.bool false]) 3 56:=v6 (by kernel_rfl)
theorem b9w:Z1 Go.Proofs.Tryz.prog 126 (.agg #[.int .i64 0,.string ⟨#[]⟩]) 2 24:=v6 (by kernel_rfl)
theorem b9T:Z1 Go.Proofs.Tryz.prog 128 (.agg #[.int .i64 0,.string ⟨#[]⟩,.int .i64 0,.bool false]) 4 40:=v6 (by kernel_rfl)
theorem c5P:Z1 Go.Proofs.Tryz.prog 151 (.nilFunc) 1 8:=v6 (by kernel_rfl)
theorem c5B:Z1 Go.Proofs.Tryz.prog 168 (.agg #[.map none,.map none]) 2 16:=v6 (by kernel_rfl)
theorem c5M:Z1 Go.Proofs.Tryz.prog 184 (.slice none 0 0) 1 24:=v6 (by kernel_rfl)
theorem b9y:Z1 Go.Proofs.Tryz.prog 185 (.slice none 0 0) 1 24:=v6 (by kernel_rfl)
theorem b9L:Z1 Go.Proofs.Tryz.prog 190 (.agg #[.int .i64 0,.int .i64 0,.string ⟨#[]⟩,.slice none 0 0,.slice none 0 0,.slice none 0 0,.slice none 0 0,.slice none 0 0,.slice none 0 0,.slice none 0 0]) 10 200:=v6 (by kernel_rfl)
theorem b9U:Z1 Go.Proofs.Tryz.prog 193 (.agg #[.int .i64 0,.int .i64 0,.string ⟨#[]⟩,.slice none 0 0,.slice none 0 0,.slice none 0 0,.slice none 0 0,.slice none 0 0,.slice none 0 0,.slice none 0 0,.slice none 0 0]) 11 224:=v6 (by kernel_rfl)
theorem c5J:Z1 Go.Proofs.Tryz.prog 214 (.agg #[.bool false,.slice none 0 0]) 2 32:=v6 (by kernel_rfl)
theorem b9u:Z1 Go.Proofs.Tryz.prog 216 (.agg #[.int .i64 0,.int .i64 0,.slice none 0 0,.bool false,.slice none 0 0,.slice none 0 0,.slice none 0 0,.slice none 0 0,.slice none 0 0]) 9 168:=v6 (by kernel_rfl)
theorem b9R:Z1 Go.Proofs.Tryz.prog 219 (.slice none 0 0) 1 24:=v6 (by kernel_rfl)
theorem b9Q:Z1 Go.Proofs.Tryz.prog 224 (.agg #[.slice none 0 0,.bool false,.slice none 0 0,.slice none 0 0,.bool false]) 5 88:=v6 (by kernel_rfl)
theorem b9M:Z1 Go.Proofs.Tryz.prog 237 (.agg #[.int .i64 0,.int .i64 0]) 2 16:=v6 (by kernel_rfl)
theorem b9E:Z1 Go.Proofs.Tryz.prog 252 (.agg #[.slice none 0 0,.slice none 0 0,.slice none 0 0,.slice none 0 0]) 4 96:=v6 (by kernel_rfl)
theorem b9A:Z1 Go.Proofs.Tryz.prog 273 (.agg #[.slice none 0 0]) 1 24:=v6 (by kernel_rfl)
theorem c5s:Z1 Go.Proofs.Tryz.prog 293 (.slice none 0 0) 1 24:=v6 (by kernel_rfl)
theorem c5K:Z1 Go.Proofs.Tryz.prog 297 (.slice none 0 0) 1 24:=v6 (by kernel_rfl)
theorem b9P:Z1 Go.Proofs.Tryz.prog 299 (.agg #[.slice none 0 0,.slice none 0 0,.slice none 0 0,.slice none 0 0,.slice none 0 0,.bool false,.slice none 0 0,.slice none 0 0,.bool false,.slice none 0 0]) 10 208:=v6 (by kernel_rfl)
theorem b9F:Z1 Go.Proofs.Tryz.prog 302 (.agg #[.int .i64 0,.slice none 0 0,.slice none 0 0,.bool false]) 4 64:=v6 (by kernel_rfl)
theorem c5F:Z1 Go.Proofs.Tryz.prog 320 (.agg #[.bool false,.slice none 0 0]) 2 32:=v6 (by kernel_rfl)
theorem c5w:Z1 Go.Proofs.Tryz.prog 330 (.slice none 0 0) 1 24:=v6 (by kernel_rfl)
theorem c5v:Z1 Go.Proofs.Tryz.prog 331 (.nilFunc) 1 8:=v6 (by kernel_rfl)
theorem b9G:Z1 Go.Proofs.Tryz.prog 336 (.agg #[.int .i64 0,.bool false,.int .i64 0]) 3 24:=v6 (by kernel_rfl)
theorem to2:J5 Go.Proofs.Tryz.prog 2:=⟨_,Go.Proofs.Tryz.underlying2,rfl,by kernel_rfl⟩
theorem to3:J5 Go.Proofs.Tryz.prog 3:=⟨_,Go.Proofs.Tryz.underlying3,rfl,by kernel_rfl⟩
theorem to4:J5 Go.Proofs.Tryz.prog 4:=⟨_,Go.Proofs.Tryz.underlying4,rfl,by kernel_rfl⟩
theorem to5:J5 Go.Proofs.Tryz.prog 5:=⟨_,Go.Proofs.Tryz.underlying5,rfl,by kernel_rfl⟩
theorem to9:J5 Go.Proofs.Tryz.prog 9:=⟨_,Go.Proofs.Tryz.underlying9,rfl,by kernel_rfl⟩
theorem c63:J5 Go.Proofs.Tryz.prog 22:=⟨_,Go.Proofs.Tryz.underlying22,rfl,by kernel_rfl⟩
theorem c7X:J5 Go.Proofs.Tryz.prog 25:=⟨_,Go.Proofs.Tryz.underlying25,rfl,by kernel_rfl⟩
theorem c7x:J5 Go.Proofs.Tryz.prog 36:=⟨_,Go.Proofs.Tryz.underlying36,rfl,by kernel_rfl⟩
theorem c7r:J5 Go.Proofs.Tryz.prog 39:=⟨_,Go.Proofs.Tryz.underlying39,rfl,by kernel_rfl⟩
theorem c7I:J5 Go.Proofs.Tryz.prog 57:=⟨_,Go.Proofs.Tryz.underlying57,rfl,by kernel_rfl⟩
theorem c7o:J5 Go.Proofs.Tryz.prog 62:=⟨_,Go.Proofs.Tryz.underlying62,rfl,by kernel_rfl⟩
theorem c7s:J5 Go.Proofs.Tryz.prog 64:=⟨_,Go.Proofs.Tryz.underlying64,rfl,by kernel_rfl⟩
theorem c5o:J5 Go.Proofs.Tryz.prog 106:=⟨_,Go.Proofs.Tryz.underlying106,rfl,by kernel_rfl⟩
theorem c5z:J5 Go.Proofs.Tryz.prog 151:=⟨_,Go.Proofs.Tryz.underlying151,rfl,by kernel_rfl⟩
theorem c5O:J5 Go.Proofs.Tryz.prog 166:=⟨_,Go.Proofs.Tryz.underlying166,rfl,by kernel_rfl⟩
theorem c2j:J5 Go.Proofs.Tryz.prog 184:=⟨_,Go.Proofs.Tryz.underlying184,rfl,by kernel_rfl⟩
theorem c5u:J5 Go.Proofs.Tryz.prog 191:=⟨_,Go.Proofs.Tryz.underlying191,rfl,by kernel_rfl⟩
theorem c5A:J5 Go.Proofs.Tryz.prog 219:=⟨_,Go.Proofs.Tryz.underlying219,rfl,by kernel_rfl⟩
theorem c5D:J5 Go.Proofs.Tryz.prog 293:=⟨_,Go.Proofs.Tryz.underlying293,rfl,by kernel_rfl⟩
theorem c5N:J5 Go.Proofs.Tryz.prog 297:=⟨_,Go.Proofs.Tryz.underlying297,rfl,by kernel_rfl⟩
theorem c5r:J5 Go.Proofs.Tryz.prog 330:=⟨_,Go.Proofs.Tryz.underlying330,rfl,by kernel_rfl⟩
theorem c5d:J5 Go.Proofs.Tryz.prog 331:=⟨_,Go.Proofs.Tryz.underlying331,rfl,by kernel_rfl⟩
theorem c8M {σ:S}{x y:Int×Int}{cs ds:List Value}(h:(rI 65).cells σ x cs)(k:(rI 65).cells σ y ds):Sx.EqAt Go.Proofs.Tryz.prog 2 65 (.agg cs.toArray) (.agg ds.toArray) (a60 x y):=by
 obtain ⟨_,_,rfl,rfl,rfl⟩:=h
 obtain ⟨_,_,rfl,rfl,rfl⟩:=k
 exact c0N Go.Proofs.Tryz.underlying65 ti3 (a8B (W3 to3 rfl) (W3 to3 rfl) (a48 Go.Proofs.Tryz.underlying3) (a8B (W3 to3 rfl) (W3 to3 rfl) (a48 Go.Proofs.Tryz.underlying3) b96))
theorem c8r {σ:S}{x y:Key}{cs ds:List Value}(h:(rI 126).cells σ x cs)(k:(rI 126).cells σ y ds):Sx.EqAt Go.Proofs.Tryz.prog 2 126 (.agg cs.toArray) (.agg ds.toArray) (a2A x y):=by
 obtain ⟨_,_,rfl,rfl,rfl⟩:=h
 obtain ⟨_,_,rfl,rfl,rfl⟩:=k
 exact b4U Go.Proofs.Tryz.underlying126 (by kernel_rfl) (a8o (by decide) (W3 to3 rfl) (W3 to3 rfl) (a48 Go.Proofs.Tryz.underlying3) (a8o (by decide) (W3 to9 rfl) (W3 to9 rfl) (c03 Go.Proofs.Tryz.underlying9) c0z))
theorem eqT (T:TypeId)(g:I T->I T->Bool){K:Nat}(h:∀ {σ:S} {x y:I T} {cs ds:List Value},Rp.cells σ x cs->Rp.cells σ y ds->Sx.EqAt Go.Proofs.Tryz.prog K T (.agg cs.toArray) (.agg ds.toArray) (g x y))(hg:Go.Proofs.Tryz.prog.eqGuardType (Go.Proofs.Tryz.prog).depth T=false)(hK:Nat.ble K 10000=true)
 {X:Cxt} {c:Cx} {σ:S} {ls ms:List (PV I)} {r:Bool} {cs ds:List Value} (h1:b2S feL T g ls ms=some r) (h2:RG X c σ ls cs) (h3:RG X c σ ms ds) :
 Go.Proofs.Tryz.prog.eqGuardType (Go.Proofs.Tryz.prog).depth T=false/\∃ j,Nat.ble j 10000=true/\Sx.EqAt Go.Proofs.Tryz.prog j T (.agg cs.toArray) (.agg ds.toArray) r:=by
 obtain ⟨x,y,k1,k2,rfl⟩:=c1T h1 h2 h3
 exact ⟨hg,K,hK,h k1 k2⟩
theorem c7n:TabLOk Go.Proofs.Tryz.prog c7F where
 sz:=⟨⟨_,Go.Proofs.Tryz.underlying27,rfl,by kernel_rfl⟩,⟨⟨_,Go.Proofs.Tryz.underlying51,rfl,by kernel_rfl⟩,⟨⟨_,Go.Proofs.Tryz.underlying56,rfl,by kernel_rfl⟩,⟨⟨_,Go.Proofs.Tryz.underlying61,rfl,by kernel_rfl⟩,⟨⟨_,Go.Proofs.Tryz.underlying65,rfl,by kernel_rfl⟩,⟨⟨_,Go.Proofs.Tryz.underlying67,rfl,by kernel_rfl⟩,⟨⟨_,Go.Proofs.Tryz.underlying100,rfl,by kernel_rfl⟩,⟨⟨_,Go.Proofs.Tryz.underlying126,rfl,by kernel_rfl⟩,⟨⟨_,Go.Proofs.Tryz.underlying128,rfl,by kernel_rfl⟩,⟨⟨_,Go.Proofs.Tryz.underlying168,rfl,by kernel_rfl⟩,⟨⟨_,Go.Proofs.Tryz.underlying190,rfl,by kernel_rfl⟩,⟨⟨_,Go.Proofs.Tryz.underlying193,rfl,by kernel_rfl⟩,⟨⟨_,Go.Proofs.Tryz.underlying214,rfl,by kernel_rfl⟩,⟨⟨_,Go.Proofs.Tryz.underlying216,rfl,by kernel_rfl⟩,⟨⟨_,Go.Proofs.Tryz.underlying224,rfl,by kernel_rfl⟩,⟨⟨_,Go.Proofs.Tryz.underlying237,rfl,by kernel_rfl⟩,⟨⟨_,Go.Proofs.Tryz.underlying252,rfl,by kernel_rfl⟩,⟨⟨_,Go.Proofs.Tryz.underlying273,rfl,by kernel_rfl⟩,⟨⟨_,Go.Proofs.Tryz.underlying299,rfl,by kernel_rfl⟩,⟨⟨_,Go.Proofs.Tryz.underlying302,rfl,by kernel_rfl⟩,⟨⟨_,Go.Proofs.Tryz.underlying320,rfl,by kernel_rfl⟩,⟨⟨_,Go.Proofs.Tryz.underlying336,rfl,by kernel_rfl⟩,trivial⟩⟩⟩⟩⟩⟩⟩⟩⟩⟩⟩⟩⟩⟩⟩⟩⟩⟩⟩⟩⟩⟩
 one:=⟨to2,⟨to3,⟨to4,⟨to5,⟨to9,⟨c63,⟨c7X,⟨c7x,⟨c7r,⟨c7I,⟨c7o,⟨c7s,⟨c5o,⟨c5z,⟨c5O,⟨c2j,⟨c5u,⟨c5A,⟨c5D,⟨c5N,⟨c5r,⟨c5d,trivial⟩⟩⟩⟩⟩⟩⟩⟩⟩⟩⟩⟩⟩⟩⟩⟩⟩⟩⟩⟩⟩⟩
 fld:=⟨⟨⟨_,_,Go.Proofs.Tryz.underlying27,rfl,rfl,by kernel_rfl⟩,⟨⟨_,_,Go.Proofs.Tryz.underlying27,rfl,rfl⟩,⟨⟨_,_,Go.Proofs.Tryz.underlying27,rfl,rfl,by kernel_rfl⟩,⟨⟨_,_,Go.Proofs.Tryz.underlying27,rfl,rfl⟩,trivial⟩⟩⟩⟩,⟨⟨⟨_,_,Go.Proofs.Tryz.underlying42,rfl,rfl,by kernel_rfl⟩,⟨⟨_,_,Go.Proofs.Tryz.underlying42,rfl,rfl⟩,⟨⟨_,_,Go.Proofs.Tryz.underlying42,rfl,rfl,by kernel_rfl⟩,⟨⟨_,_,Go.Proofs.Tryz.underlying42,rfl,rfl⟩,⟨⟨_,_,Go.Proofs.Tryz.underlying42,rfl,rfl,by kernel_rfl⟩,⟨⟨_,_,Go.Proofs.Tryz.underlying42,rfl,rfl⟩,⟨⟨_,_,Go.Proofs.Tryz.underlying42,rfl,rfl,by kernel_rfl⟩,⟨⟨_,_,Go.Proofs.Tryz.underlying42,rfl,rfl⟩,⟨⟨_,_,Go.Proofs.Tryz.underlying42,rfl,rfl,by kernel_rfl⟩,⟨⟨_,_,Go.Proofs.Tryz.underlying42,rfl,rfl⟩,⟨⟨_,_,Go.Proofs.Tryz.underlying42,rfl,rfl,by kernel_rfl⟩,⟨⟨_,_,Go.Proofs.Tryz.underlying42,rfl,rfl⟩,⟨⟨_,_,Go.Proofs.Tryz.underlying42,rfl,rfl,by kernel_rfl⟩,⟨⟨_,_,Go.Proofs.Tryz.underlying42,rfl,rfl⟩,trivial⟩⟩⟩⟩⟩⟩⟩⟩⟩⟩⟩⟩⟩⟩,⟨⟨⟨_,_,Go.Proofs.Tryz.underlying51,rfl,rfl,by kernel_rfl⟩,⟨⟨_,_,Go.Proofs.Tryz.underlying51,rfl,rfl⟩,⟨⟨_,_,Go.Proofs.Tryz.underlying51,rfl,rfl,by kernel_rfl⟩,⟨⟨_,_,Go.Proofs.Tryz.underlying51,rfl,rfl⟩,trivial⟩⟩⟩⟩,⟨⟨⟨_,_,Go.Proofs.Tryz.underlying56,rfl,rfl,by kernel_rfl⟩,⟨⟨_,_,Go.Proofs.Tryz.underlying56,rfl,rfl⟩,⟨⟨_,_,Go.Proofs.Tryz.underlying56,rfl,rfl,by kernel_rfl⟩,⟨⟨_,_,Go.Proofs.Tryz.underlying56,rfl,rfl⟩,trivial⟩⟩⟩⟩,⟨⟨⟨_,_,Go.Proofs.Tryz.underlying61,rfl,rfl,by kernel_rfl⟩,⟨⟨_,_,Go.Proofs.Tryz.underlying61,rfl,rfl⟩,⟨⟨_,_,Go.Proofs.Tryz.underlying61,rfl,rfl,by kernel_rfl⟩,⟨⟨_,_,Go.Proofs.Tryz.underlying61,rfl,rfl⟩,trivial⟩⟩⟩⟩,⟨⟨⟨_,_,Go.Proofs.Tryz.underlying67,rfl,rfl,by kernel_rfl⟩,⟨⟨_,_,Go.Proofs.Tryz.underlying67,rfl,rfl⟩,⟨⟨_,_,Go.Proofs.Tryz.underlying67,rfl,rfl,by kernel_rfl⟩,⟨⟨_,_,Go.Proofs.Tryz.underlying67,rfl,rfl⟩,⟨⟨_,_,Go.Proofs.Tryz.underlying67,rfl,rfl,by kernel_rfl⟩,⟨⟨_,_,Go.Proofs.Tryz.underlying67,rfl,rfl⟩,⟨⟨_,_,Go.Proofs.Tryz.underlying67,rfl,rfl,by kernel_rfl⟩,⟨⟨_,_,Go.Proofs.Tryz.underlying67,rfl,rfl⟩,⟨⟨_,_,Go.Proofs.Tryz.underlying67,rfl,rfl,by kernel_rfl⟩,⟨⟨_,_,Go.Proofs.Tryz.underlying67,rfl,rfl⟩,⟨⟨_,_,Go.Proofs.Tryz.underlying67,rfl,rfl,by kernel_rfl⟩,⟨⟨_,_,Go.Proofs.Tryz.underlying67,rfl,rfl⟩,⟨⟨_,_,Go.Proofs.Tryz.underlying67,rfl,rfl,by kernel_rfl⟩,⟨⟨_,_,Go.Proofs.Tryz.underlying67,rfl,rfl⟩,trivial⟩⟩⟩⟩⟩⟩⟩⟩⟩⟩⟩⟩⟩⟩,⟨⟨⟨_,_,Go.Proofs.Tryz.underlying100,rfl,rfl,by kernel_rfl⟩,⟨⟨_,_,Go.Proofs.Tryz.underlying100,rfl,rfl⟩,⟨⟨_,_,Go.Proofs.Tryz.underlying100,rfl,rfl,by kernel_rfl⟩,⟨⟨_,_,Go.Proofs.Tryz.underlying100,rfl,rfl⟩,⟨⟨_,_,Go.Proofs.Tryz.underlying100,rfl,rfl,by kernel_rfl⟩,⟨⟨_,_,Go.Proofs.Tryz.underlying100,rfl,rfl⟩,trivial⟩⟩⟩⟩⟩⟩,⟨⟨⟨_,_,Go.Proofs.Tryz.underlying126,rfl,rfl,by kernel_rfl⟩,⟨⟨_,_,Go.Proofs.Tryz.underlying126,rfl,rfl⟩,⟨⟨_,_,Go.Proofs.Tryz.underlying126,rfl,rfl,by kernel_rfl⟩,⟨⟨_,_,Go.Proofs.Tryz.underlying126,rfl,rfl⟩,trivial⟩⟩⟩⟩,⟨⟨⟨_,_,Go.Proofs.Tryz.underlying128,rfl,rfl,by kernel_rfl⟩,⟨⟨_,_,Go.Proofs.Tryz.underlying128,rfl,rfl⟩,⟨⟨_,_,Go.Proofs.Tryz.underlying128,rfl,rfl,by kernel_rfl⟩,⟨⟨_,_,Go.Proofs.Tryz.underlying128,rfl,rfl⟩,⟨⟨_,_,Go.Proofs.Tryz.underlying128,rfl,rfl,by kernel_rfl⟩,⟨⟨_,_,Go.Proofs.Tryz.underlying128,rfl,rfl⟩,trivial⟩⟩⟩⟩⟩⟩,⟨⟨⟨_,_,Go.Proofs.Tryz.underlying168,rfl,rfl,by kernel_rfl⟩,⟨⟨_,_,Go.Proofs.Tryz.underlying168,rfl,rfl⟩,⟨⟨_,_,Go.Proofs.Tryz.underlying168,rfl,rfl,by kernel_rfl⟩,⟨⟨_,_,Go.Proofs.Tryz.underlying168,rfl,rfl⟩,trivial⟩⟩⟩⟩,⟨⟨⟨_,_,Go.Proofs.Tryz.underlying190,rfl,rfl,by kernel_rfl⟩,⟨⟨_,_,Go.Proofs.Tryz.underlying190,rfl,rfl⟩,⟨⟨_,_,Go.Proofs.Tryz.underlying190,rfl,rfl,by kernel_rfl⟩,⟨⟨_,_,Go.Proofs.Tryz.underlying190,rfl,rfl⟩,⟨⟨_,_,Go.Proofs.Tryz.underlying190,rfl,rfl,by kernel_rfl⟩,⟨⟨_,_,Go.Proofs.Tryz.underlying190,rfl,rfl⟩,⟨⟨_,_,Go.Proofs.Tryz.underlying190,rfl,rfl,by kernel_rfl⟩,⟨⟨_,_,Go.Proofs.Tryz.underlying190,rfl,rfl⟩,trivial⟩⟩⟩⟩⟩⟩⟩⟩,⟨⟨⟨_,_,Go.Proofs.Tryz.underlying193,rfl,rfl,by kernel_rfl⟩,⟨⟨_,_,Go.Proofs.Tryz.underlying193,rfl,rfl⟩,⟨⟨_,_,Go.Proofs.Tryz.underlying193,rfl,rfl,by kernel_rfl⟩,⟨⟨_,_,Go.Proofs.Tryz.underlying193,rfl,rfl⟩,trivial⟩⟩⟩⟩,⟨⟨⟨_,_,Go.Proofs.Tryz.underlying214,rfl,rfl,by kernel_rfl⟩,⟨⟨_,_,Go.Proofs.Tryz.underlying214,rfl,rfl⟩,⟨⟨_,_,Go.Proofs.Tryz.underlying214,rfl,rfl,by kernel_rfl⟩,⟨⟨_,_,Go.Proofs.Tryz.underlying214,rfl,rfl⟩,trivial⟩⟩⟩⟩,⟨⟨⟨_,_,Go.Proofs.Tryz.underlying216,rfl,rfl,by kernel_rfl⟩,⟨⟨_,_,Go.Proofs.Tryz.underlying216,rfl,rfl⟩,⟨⟨_,_,Go.Proofs.Tryz.underlying216,rfl,rfl,by kernel_rfl⟩,⟨⟨_,_,Go.Proofs.Tryz.underlying216,rfl,rfl⟩,⟨⟨_,_,Go.Proofs.Tryz.underlying216,rfl,rfl,by kernel_rfl⟩,⟨⟨_,_,Go.Proofs.Tryz.underlying216,rfl,rfl⟩,⟨⟨_,_,Go.Proofs.Tryz.underlying216,rfl,rfl,by kernel_rfl⟩,⟨⟨_,_,Go.Proofs.Tryz.underlying216,rfl,rfl⟩,⟨⟨_,_,Go.Proofs.Tryz.underlying216,rfl,rfl,by kernel_rfl⟩,⟨⟨_,_,Go.Proofs.Tryz.underlying216,rfl,rfl⟩,⟨⟨_,_,Go.Proofs.Tryz.underlying216,rfl,rfl,by kernel_rfl⟩,⟨⟨_,_,Go.Proofs.Tryz.underlying216,rfl,rfl⟩,⟨⟨_,_,Go.Proofs.Tryz.underlying216,rfl,rfl,by kernel_rfl⟩,⟨⟨_,_,Go.Proofs.Tryz.underlying216,rfl,rfl⟩,⟨⟨_,_,Go.Proofs.Tryz.underlying216,rfl,rfl,by kernel_rfl⟩,⟨⟨_,_,Go.Proofs.Tryz.underlying216,rfl,rfl⟩,trivial⟩⟩⟩⟩⟩⟩⟩⟩⟩⟩⟩⟩⟩⟩⟩⟩,⟨⟨⟨_,_,Go.Proofs.Tryz.underlying224,rfl,rfl,by kernel_rfl⟩,⟨⟨_,_,Go.Proofs.Tryz.underlying224,rfl,rfl⟩,⟨⟨_,_,Go.Proofs.Tryz.underlying224,rfl,rfl,by kernel_rfl⟩,⟨⟨_,_,Go.Proofs.Tryz.underlying224,rfl,rfl⟩,⟨⟨_,_,Go.Proofs.Tryz.underlying224,rfl,rfl,by kernel_rfl⟩,⟨⟨_,_,Go.Proofs.Tryz.underlying224,rfl,rfl⟩,trivial⟩⟩⟩⟩⟩⟩,⟨⟨⟨_,_,Go.Proofs.Tryz.underlying237,rfl,rfl,by kernel_rfl⟩,⟨⟨_,_,Go.Proofs.Tryz.underlying237,rfl,rfl⟩,⟨⟨_,_,Go.Proofs.Tryz.underlying237,rfl,rfl,by kernel_rfl⟩,⟨⟨_,_,Go.Proofs.Tryz.underlying237,rfl,rfl⟩,trivial⟩⟩⟩⟩,⟨⟨⟨_,_,Go.Proofs.Tryz.underlying252,rfl,rfl,by kernel_rfl⟩,⟨⟨_,_,Go.Proofs.Tryz.underlying252,rfl,rfl⟩,⟨⟨_,_,Go.Proofs.Tryz.underlying252,rfl,rfl,by kernel_rfl⟩,⟨⟨_,_,Go.Proofs.Tryz.underlying252,rfl,rfl⟩,⟨⟨_,_,Go.Proofs.Tryz.underlying252,rfl,rfl,by kernel_rfl⟩,⟨⟨_,_,Go.Proofs.Tryz.underlying252,rfl,rfl⟩,⟨⟨_,_,Go.Proofs.Tryz.underlying252,rfl,rfl,by kernel_rfl⟩,⟨⟨_,_,Go.Proofs.Tryz.underlying252,rfl,rfl⟩,trivial⟩⟩⟩⟩⟩⟩⟩⟩,⟨⟨⟨_,_,Go.Proofs.Tryz.underlying273,rfl,rfl,by kernel_rfl⟩,⟨⟨_,_,Go.Proofs.Tryz.underlying273,rfl,rfl⟩,trivial⟩⟩,⟨⟨⟨_,_,Go.Proofs.Tryz.underlying299,rfl,rfl,by kernel_rfl⟩,⟨⟨_,_,Go.Proofs.Tryz.underlying299,rfl,rfl⟩,⟨⟨_,_,Go.Proofs.Tryz.underlying299,rfl,rfl,by kernel_rfl⟩,⟨⟨_,_,Go.Proofs.Tryz.underlying299,rfl,rfl⟩,⟨⟨_,_,Go.Proofs.Tryz.underlying299,rfl,rfl,by kernel_rfl⟩,⟨⟨_,_,Go.Proofs.Tryz.underlying299,rfl,rfl⟩,⟨⟨_,_,Go.Proofs.Tryz.underlying299,rfl,rfl,by kernel_rfl⟩,⟨⟨_,_,Go.Proofs.Tryz.underlying299,rfl,rfl⟩,⟨⟨_,_,Go.Proofs.Tryz.underlying299,rfl,rfl,by kernel_rfl⟩,⟨⟨_,_,Go.Proofs.Tryz.underlying299,rfl,rfl⟩,trivial⟩⟩⟩⟩⟩⟩⟩⟩⟩⟩,⟨⟨⟨_,_,Go.Proofs.Tryz.underlying302,rfl,rfl,by kernel_rfl⟩,⟨⟨_,_,Go.Proofs.Tryz.underlying302,rfl,rfl⟩,⟨⟨_,_,Go.Proofs.Tryz.underlying302,rfl,rfl,by kernel_rfl⟩,⟨⟨_,_,Go.Proofs.Tryz.underlying302,rfl,rfl⟩,trivial⟩⟩⟩⟩,⟨⟨⟨_,_,Go.Proofs.Tryz.underlying320,rfl,rfl,by kernel_rfl⟩,⟨⟨_,_,Go.Proofs.Tryz.underlying320,rfl,rfl⟩,trivial⟩⟩,⟨⟨⟨_,_,Go.Proofs.Tryz.underlying336,rfl,rfl,by kernel_rfl⟩,⟨⟨_,_,Go.Proofs.Tryz.underlying336,rfl,rfl⟩,⟨⟨_,_,Go.Proofs.Tryz.underlying336,rfl,rfl,by kernel_rfl⟩,⟨⟨_,_,Go.Proofs.Tryz.underlying336,rfl,rfl⟩,⟨⟨_,_,Go.Proofs.Tryz.underlying336,rfl,rfl,by kernel_rfl⟩,⟨⟨_,_,Go.Proofs.Tryz.underlying336,rfl,rfl⟩,trivial⟩⟩⟩⟩⟩⟩,trivial⟩⟩⟩⟩⟩⟩⟩⟩⟩⟩⟩⟩⟩⟩⟩⟩⟩⟩⟩⟩⟩⟩
 el:=⟨⟨Go.Proofs.Tryz.underlying22,_,_,ti9,rfl,by decide⟩,⟨⟨Go.Proofs.Tryz.underlying24,_,_,c2E,rfl,by decide⟩,⟨⟨Go.Proofs.Tryz.underlying25,_,_,c2u,rfl,by decide⟩,⟨⟨Go.Proofs.Tryz.underlying29,_,_,c29,rfl,by decide⟩,⟨⟨Go.Proofs.Tryz.underlying36,_,_,ti3,rfl,by decide⟩,⟨⟨Go.Proofs.Tryz.underlying39,_,_,b9w,rfl,by decide⟩,⟨⟨Go.Proofs.Tryz.underlying45,_,_,c2M,rfl,by decide⟩,⟨⟨Go.Proofs.Tryz.underlying57,_,_,c2r,rfl,by decide⟩,⟨⟨Go.Proofs.Tryz.underlying62,_,_,c3c,rfl,by decide⟩,⟨⟨Go.Proofs.Tryz.underlying64,_,_,b9T,rfl,by decide⟩,⟨⟨Go.Proofs.Tryz.underlying184,_,_,b9H,rfl,by decide⟩,⟨⟨Go.Proofs.Tryz.underlying185,_,_,b9U,rfl,by decide⟩,⟨⟨Go.Proofs.Tryz.underlying191,_,_,b9R,rfl,by decide⟩,⟨⟨Go.Proofs.Tryz.underlying198,_,_,ti5,rfl,by decide⟩,⟨⟨Go.Proofs.Tryz.underlying211,_,_,b9u,rfl,by decide⟩,⟨⟨Go.Proofs.Tryz.underlying217,_,_,b9L,rfl,by decide⟩,⟨⟨Go.Proofs.Tryz.underlying219,_,_,b9Q,rfl,by decide⟩,⟨⟨Go.Proofs.Tryz.underlying234,_,_,b9M,rfl,by decide⟩,⟨⟨Go.Proofs.Tryz.underlying253,_,_,b9E,rfl,by decide⟩,⟨⟨Go.Proofs.Tryz.underlying269,_,_,b9A,rfl,by decide⟩,⟨⟨Go.Proofs.Tryz.underlying293,_,_,b9P,rfl,by decide⟩,⟨⟨Go.Proofs.Tryz.underlying297,_,_,b9F,rfl,by decide⟩,⟨⟨Go.Proofs.Tryz.underlying330,_,_,b9G,rfl,by decide⟩,trivial⟩⟩⟩⟩⟩⟩⟩⟩⟩⟩⟩⟩⟩⟩⟩⟩⟩⟩⟩⟩⟩⟩⟩
 str:=⟨Go.Proofs.Tryz.underlying9,trivial⟩
 bool:=trivial
 ik:=⟨Go.Proofs.Tryz.underlying2,⟨Go.Proofs.Tryz.underlying3,⟨Go.Proofs.Tryz.underlying5,⟨Go.Proofs.Tryz.underlying135,⟨Go.Proofs.Tryz.underlying165,trivial⟩⟩⟩⟩⟩
 inf:=⟨⟨_,ti2,fun X c σ=>RG.cns rfl Z2 (RG.nl)⟩,⟨⟨_,ti3,fun X c σ=>RG.cns rfl Z2 (RG.nl)⟩,⟨⟨_,ti4,fun X c σ=>RG.cns rfl V5 (RG.nl)⟩,⟨⟨_,ti5,fun X c σ=>RG.cns rfl Z2 (RG.nl)⟩,⟨⟨_,ti9,fun X c σ=>RG.cns rfl a1U (RG.nl)⟩,⟨⟨_,c7T,fun X c σ=>RG.cns rfl j7 (RG.nl)⟩,⟨⟨_,c2E,fun X c σ=>RG.cns rfl j7 (RG.cns rfl Z2 (RG.nl))⟩,⟨⟨_,c29,fun X c σ=>RG.cns rfl j7 (RG.nl)⟩,⟨⟨_,c7V,fun X c σ=>RG.cns rfl j7 (RG.nl)⟩,⟨⟨_,c6V,fun X c σ=>RG.cns rfl Z2 (RG.cns rfl Z2 (RG.cns rfl a1U (RG.cns rfl j7 (RG.cns rfl j7 (RG.cns rfl j7 (RG.cns rfl j7 (RG.nl)))))))⟩,⟨⟨_,c2M,fun X c σ=>RG.cns rfl j7 (RG.cns rfl Z2 (RG.cns rfl j7 (RG.cns rfl Z2 (RG.nl))))⟩,⟨⟨_,c2r,fun X c σ=>RG.cns rfl Z2 (RG.cns rfl Z2 (RG.nl))⟩,⟨⟨_,c6L,fun X c σ=>RG.cns rfl j7 (RG.nl)⟩,⟨⟨_,c3c,fun X c σ=>RG.cns rfl a1U (RG.cns rfl j7 (RG.cns rfl Z2 (RG.nl)))⟩,⟨⟨_,c7p,fun X c σ=>RG.cns rfl j7 (RG.nl)⟩,⟨⟨_,c6K,fun X c σ=>RG.cns rfl Z2 (RG.cns rfl Z2 (RG.nl))⟩,⟨⟨_,c2u,fun X c σ=>RG.cns rfl Z2 (RG.cns rfl Z2 (RG.cns rfl Z2 (RG.cns rfl a1U (RG.cns rfl j7 (RG.cns rfl j7 (RG.cns rfl Z2 (RG.cns rfl Z2 (RG.nl))))))))⟩,⟨⟨_,b9H,fun X c σ=>RG.cns rfl j7 (RG.cns rfl j7 (RG.cns rfl V5 (RG.nl)))⟩,⟨⟨_,b9w,fun X c σ=>RG.cns rfl Z2 (RG.cns rfl a1U (RG.nl))⟩,⟨⟨_,b9T,fun X c σ=>RG.cns rfl Z2 (RG.cns rfl a1U (RG.cns rfl Z2 (RG.cns rfl V5 (RG.nl))))⟩,⟨⟨_,c5P,fun X c σ=>RG.cns rfl a8f (RG.nl)⟩,⟨⟨_,c5B,fun X c σ=>RG.cns rfl a8f (RG.cns rfl a8f (RG.nl))⟩,⟨⟨_,c5M,fun X c σ=>RG.cns rfl j7 (RG.nl)⟩,⟨⟨_,b9y,fun X c σ=>RG.cns rfl j7 (RG.nl)⟩,⟨⟨_,b9L,fun X c σ=>RG.cns rfl Z2 (RG.cns rfl Z2 (RG.cns rfl a1U (RG.cns rfl j7 (RG.cns rfl j7 (RG.cns rfl j7 (RG.cns rfl j7 (RG.cns rfl j7 (RG.cns rfl j7 (RG.cns rfl j7 (RG.nl))))))))))⟩,⟨⟨_,b9U,fun X c σ=>RG.cns rfl Z2 (RG.cns rfl Z2 (RG.cns rfl a1U (RG.cns rfl j7 (RG.cns rfl j7 (RG.cns rfl j7 (RG.cns rfl j7 (RG.cns rfl j7 (RG.cns rfl j7 (RG.cns rfl j7 (RG.cns rfl j7 (RG.nl)))))))))))⟩,⟨⟨_,c5J,fun X c σ=>RG.cns rfl V5 (RG.cns rfl j7 (RG.nl))⟩,⟨⟨_,b9u,fun X c σ=>RG.cns rfl Z2 (RG.cns rfl Z2 (RG.cns rfl j7 (RG.cns rfl V5 (RG.cns rfl j7 (RG.cns rfl j7 (RG.cns rfl j7 (RG.cns rfl j7 (RG.cns rfl j7 (RG.nl)))))))))⟩,⟨⟨_,b9R,fun X c σ=>RG.cns rfl j7 (RG.nl)⟩,⟨⟨_,b9Q,fun X c σ=>RG.cns rfl j7 (RG.cns rfl V5 (RG.cns rfl j7 (RG.cns rfl j7 (RG.cns rfl V5 (RG.nl)))))⟩,⟨⟨_,b9M,fun X c σ=>RG.cns rfl Z2 (RG.cns rfl Z2 (RG.nl))⟩,⟨⟨_,b9E,fun X c σ=>RG.cns rfl j7 (RG.cns rfl j7 (RG.cns rfl j7 (RG.cns rfl j7 (RG.nl))))⟩,⟨⟨_,b9A,fun X c σ=>RG.cns rfl j7 (RG.nl)⟩,⟨⟨_,c5s,fun X c σ=>RG.cns rfl j7 (RG.nl)⟩,⟨⟨_,c5K,fun X c σ=>RG.cns rfl j7 (RG.nl)⟩,⟨⟨_,b9P,fun X c σ=>RG.cns rfl j7 (RG.cns rfl j7 (RG.cns rfl j7 (RG.cns rfl j7 (RG.cns rfl j7 (RG.cns rfl V5 (RG.cns rfl j7 (RG.cns rfl j7 (RG.cns rfl V5 (RG.cns rfl j7 (RG.nl))))))))))⟩,⟨⟨_,b9F,fun X c σ=>RG.cns rfl Z2 (RG.cns rfl j7 (RG.cns rfl j7 (RG.cns rfl V5 (RG.nl))))⟩,⟨⟨_,c5F,fun X c σ=>RG.cns rfl V5 (RG.cns rfl j7 (RG.nl))⟩,⟨⟨_,c5w,fun X c σ=>RG.cns rfl j7 (RG.nl)⟩,⟨⟨_,c5v,fun X c σ=>RG.cns rfl a8f (RG.nl)⟩,⟨⟨_,b9G,fun X c σ=>RG.cns rfl Z2 (RG.cns rfl V5 (RG.cns rfl Z2 (RG.nl)))⟩,trivial⟩⟩⟩⟩⟩⟩⟩⟩⟩⟩⟩⟩⟩⟩⟩⟩⟩⟩⟩⟩⟩⟩⟩⟩⟩⟩⟩⟩⟩⟩⟩⟩⟩⟩⟩⟩⟩⟩⟩⟩⟩
 st:=⟨.inl ⟨_,Go.Proofs.Tryz.underlying27,by kernel_rfl⟩,⟨.inl ⟨_,Go.Proofs.Tryz.underlying42,by kernel_rfl⟩,⟨.inl ⟨_,Go.Proofs.Tryz.underlying51,by kernel_rfl⟩,⟨.inl ⟨_,Go.Proofs.Tryz.underlying56,by kernel_rfl⟩,⟨.inl ⟨_,Go.Proofs.Tryz.underlying61,by kernel_rfl⟩,⟨.inr (c3n Go.Proofs.Tryz.underlying65 ti3 rfl),⟨.inl ⟨_,Go.Proofs.Tryz.underlying67,by kernel_rfl⟩,⟨.inl ⟨_,Go.Proofs.Tryz.underlying100,by kernel_rfl⟩,⟨.inl ⟨_,Go.Proofs.Tryz.underlying126,by kernel_rfl⟩,⟨.inl ⟨_,Go.Proofs.Tryz.underlying168,by kernel_rfl⟩,⟨.inl ⟨_,Go.Proofs.Tryz.underlying190,by kernel_rfl⟩,⟨.inl ⟨_,Go.Proofs.Tryz.underlying193,by kernel_rfl⟩,⟨.inl ⟨_,Go.Proofs.Tryz.underlying214,by kernel_rfl⟩,⟨.inl ⟨_,Go.Proofs.Tryz.underlying216,by kernel_rfl⟩,⟨.inl ⟨_,Go.Proofs.Tryz.underlying237,by kernel_rfl⟩,⟨.inl ⟨_,Go.Proofs.Tryz.underlying252,by kernel_rfl⟩,⟨.inl ⟨_,Go.Proofs.Tryz.underlying299,by kernel_rfl⟩,⟨.inl ⟨_,Go.Proofs.Tryz.underlying302,by kernel_rfl⟩,⟨.inl ⟨_,Go.Proofs.Tryz.underlying320,by kernel_rfl⟩,⟨.inl ⟨_,Go.Proofs.Tryz.underlying336,by kernel_rfl⟩,trivial⟩⟩⟩⟩⟩⟩⟩⟩⟩⟩⟩⟩⟩⟩⟩⟩⟩⟩⟩⟩
 eq:=⟨fun X c σ ls ms r cs ds h1 h2 h3=>eqT 65 a60 (fun h k=>c8M h k) (by kernel_rfl) (by decide) h1 h2 h3,⟨fun X c σ ls ms r cs ds h1 h2 h3=>eqT 126 a2A (fun h k=>c8r h k) (by kernel_rfl) (by decide) h1 h2 h3,trivial⟩⟩
 arr:=⟨⟨Go.Proofs.Tryz.underlying65,by kernel_rfl⟩,⟨⟨Go.Proofs.Tryz.underlying296,by kernel_rfl⟩,trivial⟩⟩
 u8:=⟨⟨Go.Proofs.Tryz.underlying5,fun y=>⟨y,rfl⟩⟩,trivial⟩
 mp:=⟨⟨_,_,_,_,_,Go.Proofs.Tryz.underlying106,Go.Proofs.Tryz.underlying9,ti3,fun x h σ=>by cases h; exact rfl⟩,⟨⟨_,_,_,_,_,Go.Proofs.Tryz.underlying166,Go.Proofs.Tryz.underlying9,b9y,fun x h σ=>by cases h; exact ⟨none,0,rfl,Sl.nil_ _ _ _ (Nat.zero_le _)⟩⟩,⟨⟨_,_,_,_,_,Go.Proofs.Tryz.underlying254,Go.Proofs.Tryz.underlying9,ti4,fun x h σ=>by cases h; exact rfl⟩,trivial⟩⟩⟩
 fb:=⟨⟨_,_,Go.Proofs.Tryz.func37,rfl,by kernel_rfl⟩,⟨⟨_,_,Go.Proofs.Tryz.func52,rfl,by kernel_rfl⟩,⟨⟨_,_,Go.Proofs.Tryz.func55,rfl,by kernel_rfl⟩,⟨⟨_,_,Go.Proofs.Tryz.func56,rfl,by kernel_rfl⟩,⟨⟨_,_,Go.Proofs.Tryz.func57,rfl,by kernel_rfl⟩,⟨⟨_,_,Go.Proofs.Tryz.func64,rfl,by kernel_rfl⟩,⟨⟨_,_,Go.Proofs.Tryz.func135,rfl,by kernel_rfl⟩,⟨⟨_,_,Go.Proofs.Tryz.func137,rfl,by kernel_rfl⟩,⟨⟨_,_,Go.Proofs.Tryz.func162,rfl,by kernel_rfl⟩,⟨⟨_,_,Go.Proofs.Tryz.func194,rfl,by kernel_rfl⟩,⟨⟨_,_,Go.Proofs.Tryz.func197,rfl,by kernel_rfl⟩,⟨⟨_,_,Go.Proofs.Tryz.func219,rfl,by kernel_rfl⟩,⟨⟨_,_,Go.Proofs.Tryz.func227,rfl,by kernel_rfl⟩,⟨⟨_,_,Go.Proofs.Tryz.func233,rfl,by kernel_rfl⟩,⟨⟨_,_,Go.Proofs.Tryz.func285,rfl,by kernel_rfl⟩,⟨⟨_,_,Go.Proofs.Tryz.func286,rfl,by kernel_rfl⟩,trivial⟩⟩⟩⟩⟩⟩⟩⟩⟩⟩⟩⟩⟩⟩⟩⟩
theorem a2p:TabOk Go.Proofs.Tryz.prog tb:=c1h c7n
theorem mixed:(Go.Proofs.Tryz.prog).follows .mixedOrders=true:=by kernel_rfl
end Go.Qx
end
section
namespace Go.Qx
open Go Go.RowKit Go.Sx
structure Bw (B:Nat)(w w':World):Prop where
 below:Below B w w'
 drawn:w.drawn<=w'.drawn
theorem Bw.refl (B:Nat)(w:World):Bw B w w:=⟨Below.refl B w,Nat.le_refl _⟩
theorem Bw.trans {B:Nat}{a b c:World}(h:Bw B a b)(k:Bw B b c):Bw B a c:=⟨h.below.trans k.below,Nat.le_trans h.drawn k.drawn⟩
theorem Bw.setCells {B b:Nat}(hb:B<=b)(o:Nat)(vs:List Value)(w:World):Bw B w (w.setCells b o vs):=by
 obtain ⟨r1,r2,r3⟩:=a59 b vs o w
 exact ⟨⟨r1,r2,r3,Nat.le_of_eq (a3T b vs o w).symm,fun k hk=>a0x b vs o w k (by omega)⟩,Nat.le_of_eq (a5h b vs o w).symm⟩
section
variable {P:Program}{ops:Array Oper}{Q:Exit->Act->World->Prop}{n:Nat}{F:Fr}{rest:List Oper}{d:Option Nat}{ty:TypeId}{pos:String}{aft:Array Edge}{w:World}
theorem b42 {T T':TypeId}{x y:Operand}{b:Nat}{cs:List Value}(hb:w.heap[b]?=some (.cells cs.toArray T' (0,0)))(o:Nat)(v:Value)(hx:ev F x=.pointer (some ⟨b,o,none⟩))(hy:ev F y=v)
 (hkx:Z4 n x=true) (hky:Z4 n y=true) (hv:v.cells.toList=[v]) (hT:(P.info? T).map (·.size)=some 1) (h1:v.oneCell'=true) (hl:o<cs.length)
 (h:wpList P ops Q rest (fr n (Y3 F d undef)) (w.setCells b o [v])) :
 wpList P ops Q (⟨d,.store T x y,ty,pos,aft,none⟩::rest) (fr n F) w:=by
 have hsz:v.cells.size=1:=by rw [<- Array.length_toList,hv]; rfl
 refine a9q rfl (w.setCells b o [v]) ?_ h
 show Sem.run P (do Instr.storeAt T ((fr n F).eval x) ((fr n F).eval y); pure Next.skip) w=_
 rw [j8 hkx,j8 hky,hx,hy]
 have hst:=run_storeCells_cells (P:=P) b o [v] 0 w (fun j hj=>by
  have hj0:j=0:=by simp at hj; omega
  subst hj0
  simp only [World.cell?,hb,Nat.add_zero]
  simp [List.getElem?_eq_getElem hl]) (fun j hj=>by simp [World.frozen?,hb]) (fun u hu=>by simp at hu; subst hu; exact h1)
 simp only [Nat.add_zero] at hst
 simp only [Instr.storeAt,Instr.sureAddr,storeVar,Sem.run_bind,Sem.run_pure,Result.andThen_ok,Go.Sx.run_sizeOf hT,hsz,ne_eq,not_true_eq_false,if_false,hv,hst]
theorem b8y {x y:Operand}{t u:TypeId}{a b v:Value}{w':World}(hx:ev F x=a)(hy:ev F y=b)(hkx:Z4 n x=true)(hky:Z4 n y=true)(hr:(Builtin.append_ #[t,u] ty #[a,b]).run P w=.ok v w')
 (h:wpList P ops Q rest (fr n (Y3 F d v)) w'):wpList P ops Q (⟨d,.call ⟨.builtin .append,#[x,y],#[t,u]⟩,ty,pos,aft,none⟩::rest) (fr n F) w :=
 Y1 rfl v w' (by
  simp [execOp,resolve,invoke,builtin,j8 hkx,j8 hky,hx,hy,hr]) h
theorem b6i {src dst:TypeId}{x:Operand}{a v:Value}(hx:ev F x=a)(hkx:Z4 n x=true)(hr:(convert src dst a).run P w=.ok v w)(h:wpList P ops Q rest (fr n (Y3 F d v)) w) :
 wpList P ops Q (⟨d,.convert src dst x,ty,pos,aft,none⟩::rest) (fr n F) w:=b3o a v hx hkx hr h
theorem b5Y {f:FuncId}{fn:Func}{c:Code}{vs:List Value}{R:Ending->World->Prop}(nt:Nat)(hf:P.funcs[f]?=some fn)(hb:fn.body=some c)(hn:fn.ntmps=nt)(hle:Nat.ble vs.length nt=true)
 (h:c.wp P (bodyPost P fn R) (fr nt (V7 vs)) w):Calls P f vs.toArray w R:=by
 refine calls_of_wp hf hb ?_
 have hle':=Nat.le_of_ble_eq_true hle
 have e:(⟨vs.toArray++Array.replicate (fn.ntmps-vs.toArray.size) undef,[]⟩:Act)=fr nt (V7 vs):=by
  rw [hn]
  simp only [fr]
  congr 1
  apply Array.ext
  ·simp; omega
  ·intro i h1 h2
   simp only [Array.getElem_ofFn,V7,Array.getElem_append]
   split
   ·rename_i hi; simp at hi; simp [List.getD,List.getElem?_eq_getElem hi]
   ·rename_i hi; simp at hi; simp [List.getD,List.getElem?_eq_none hi]
 rw [e]
 exact h
theorem c5a {fn:Func}{R:Ending->World->Prop}(hr:fn.results=#[])(h:R (.returned (.tuple #[])) w):bodyPost P fn R .normal (fr n F) w :=
 ⟨rfl,.tuple #[],by
  rw [a6B,hr]
  simp only [List.mapM_toArray,List.mapM_nil,Sem.run_bind,Sem.run_map,Result.andThen_ok,Sem.run_pure]
  rfl,h⟩
theorem c8q {fn:Func}{R:Ending->World->Prop}{t:Nat}(v:Value)(hr:fn.results=#[.tmp t])(ht:Nat.blt t n=true)(hv:F t=v)(h:R (.returned v) w):bodyPost P fn R .ret (fr n F) w :=
 ⟨rfl,v,by
  have e1:=a7r (P:=P) (w:=w) (r:=.tmp t) (v:=v) ⟨ht,hv⟩
  rw [a6B,hr]
  simp only [List.mapM_toArray,List.mapM_cons,List.mapM_nil,Sem.run_bind,Sem.run_map,e1,Result.andThen_ok,Sem.run_pure]
  rfl,h⟩
theorem c8j {fn:Func}{R:Ending->World->Prop}{t u:Nat}(v x:Value)(hr:fn.results=#[.tmp t,.tmp u])(ht:Nat.blt t n=true)(hu:Nat.blt u n=true)(hv:F t=v)(hx:F u=x)(h:R (.returned (.tuple #[v,x])) w):bodyPost P fn R .ret (fr n F) w :=
 ⟨rfl,.tuple #[v,x],by
  have e1:=a7r (P:=P) (w:=w) (r:=.tmp t) (v:=v) ⟨ht,hv⟩
  have e2:=a7r (P:=P) (w:=w) (r:=.tmp u) (v:=x) ⟨hu,hx⟩
  rw [a6B,hr]
  simp only [List.mapM_toArray,List.mapM_cons,List.mapM_nil,Sem.run_bind,Sem.run_map,e1,e2,Result.andThen_ok,Sem.run_pure]
  rfl,h⟩
theorem c5E {T E:TypeId}{x y:Operand}{p:Option Addr}(hT:P.underlying T=some (.pointer E)) :
 k7 P w (do eqGuard .eql T x y (.pointer p) (.pointer none); binOp .eql T (.pointer p) (.pointer none)) (.bool p.isNone):=by
 have h:∀ d:Nat,(Op.equalIn (d+1) T (.pointer p) (.pointer none)).run P w=.ok p.isNone w:=fun d=>by
  cases p<;>simp [Op.equalIn,run_underlying hT]
 show Sem.run P (do eqGuard .eql T x y (.pointer p) (.pointer none); pure (Value.bool (<- Op.equalIn 10000 T (.pointer p) (.pointer none)))) w=_
 have hg:eqGuard .eql T x y (.pointer p) (.pointer none)=pure ():=rfl
 rw [hg]
 simp only [Sem.run_bind,Sem.run_pure,Result.andThen_ok,h 9999]
theorem c6e {T E:TypeId}{x y:Operand}{a:Addr}{j:TypeInfo}(hT:P.underlying T=some (.pointer E))(hj:P.info? E=some j) :
 k7 P w (do eqGuard .neq T x y (.pointer (some a)) (.pointer (some a)); binOp .neq T (.pointer (some a)) (.pointer (some a))) (.bool false):=by
 have hg:eqGuard .neq T x y (.pointer (some a)) (.pointer (some a))=pure ():=rfl
 show Sem.run P (do eqGuard .neq T x y (.pointer (some a)) (.pointer (some a)); binOp .neq T (.pointer (some a)) (.pointer (some a))) w=_
 rw [hg]
 simp only [Sem.run_bind,Sem.run_pure,Result.andThen_ok]
 exact Lib.run_neq_ptr_same w a hT hj
theorem a4g {f:FuncId}{xs:List Operand}{ats:Array TypeId}(vs:List Value){R:Ending->World->Prop}(hvs:xs.map (ev F)=vs)(hk:xs.all (Z4 n)=true)(hb:X6 P f)(hc:Calls P f vs.toArray w R)
 (hR:∀ e w',R e w'->∃ v,e=.returned v/\wpList P ops Q rest (fr n (Y3 F d v)) w') :
 wpList P ops Q (⟨d,.call ⟨.value (.func f),xs.toArray,ats⟩,ty,pos,aft,none⟩::rest) (fr n F) w:=by
 subst hvs
 refine a4f (σ:=⟨w,fun _=>(0,0)⟩) (E:=fun _=>True) (R:=fun v τ=>wpList P ops Q rest (fr n (Y3 F d v)) τ.w) rfl (.inl ⟨hb,hc.mono fun e w' h=>?_⟩) (b5q hk w) (fun v τ _ h=>h)
 obtain ⟨v,e1,h2⟩:=hR e w' h
 exact ⟨v,⟨w',fun _=>(0,0)⟩,e1,rfl,trivial,h2⟩
theorem Bw.grown {B:Nat}{w w':World}{v:Value}(h:w.grownBy w' v.ownBlock)(hd:w.drawn<=w'.drawn)(hv:∀ g,v.ownBlock=some g->B<=g)(hB:B<=w.heap.size):Bw B w w' :=
 ⟨⟨h.os,h.tape,h.output,h.size,fun k hk=>h.block k (by omega) (fun e=>by have:=hv k e.symm; omega)⟩,hd⟩
theorem b6Y {B:Nat}{T:TypeId}{s n:Nat}{v:Value}{xs:List Value}(h:w.ownsRow B T s v n xs):∀ g,v.ownBlock=some g->B<=g:=by
 intro g hg
 rcases h.2 with ⟨rfl,_⟩ | ⟨g',cap,cur,rfl,hb,_⟩
 ·cases hg
 ·cases hg; exact hb
theorem c4T {T E:TypeId}{i:TypeInfo}{z v:Value}{x:Operand}(hu:P.underlying T=some (.slice E))(hi:P.info? E=some i)(hz:i.zero=some z)(hs:i.size=1)(hzs:z.cells.size=1)(hx:ev F x=v)(hk:Z4 n x=true)(hv:v.cells.toList=[v])(hv2:v.cells.size=1)
 (h:wpList P ops Q rest (fr n (Y3 F d (.slice (some ⟨w.heap.size,0,none⟩) 1 1))) (w.alloc (.cells #[v] E))) :
 wpList P ops Q (⟨d,.buildSlice T 1 #[(0,x)],ty,pos,aft,none⟩::rest) (fr n F) w:=by
 refine Y1 rfl (.slice (some ⟨w.heap.size,0,none⟩) 1 1) (w.alloc (.cells #[v] E)) ?_ h
 have hfill:=b5O 1 (Nat.zero_lt_one) [v] 0 (((Array.range 1).map (z.cells[·%z.cells.size]!)).toList) (by simp) (by simp [hv2])
 simp only [Nat.zero_mul,List.take_zero,List.nil_append,Array.toArray_toList] at hfill
 show Sem.run P (do pure (Next.value (<- Instr.buildSlice T 1 (#[(0,x)].map fun (i,x)=>(i,(fr n F).eval x))))) w=_
 have he:(#[((0:Nat),x)].map fun (i,x)=>(i,(fr n F).eval x))=#[(0,v)]:=by simp [j8 hk,hx]
 rw [he]
 have hrun:(Instr.buildSlice T 1 #[(0,v)]).run P w=.ok (.slice (some ⟨w.heap.size,0,none⟩) 1 1) (w.alloc (.cells #[v] E)):=by
  unfold Instr.buildSlice
  simp only [List.zipIdx_cons,List.zipIdx_nil,List.map_cons,List.map_nil] at hfill
  rw [<- hs] at hfill
  simp only [Sem.run_bind,run_underlying hu,Result.andThen_ok,sizeOf,typeInfo,run_program,hi,Sem.run_pure,hs,Nat.one_mul,if_neg (show ¬ (1:Nat)>2^24 by decide),if_neg (show ¬ (1:Nat)=0 by decide),zeroValue,hz,newRow,run_newObj]
  rw [hs] at hfill
  simp only [hfill,Sem.run_pure,Result.andThen_ok,Sem.run_bind,run_newObj]
  simp [hv]
 rw [Sem.run_bind,hrun]
 rfl
end
end Go.Qx
end
section
namespace Go.Qx
open Go Go.RowKit Go.Sx
set_option maxHeartbeats 1600000
set_option maxRecDepth 100000
abbrev Y4 (b:Nat):Value:=.pointer (some ⟨b,0,none⟩)
theorem c0f:a2B Go.Proofs.Tryz.prog 200 0 0:=⟨_,_,Go.Proofs.Tryz.underlying200,rfl,rfl,by kernel_rfl⟩
theorem b7j:a2B Go.Proofs.Tryz.prog 200 1 1:=⟨_,_,Go.Proofs.Tryz.underlying200,rfl,rfl,by kernel_rfl⟩
theorem c0o:J5 Go.Proofs.Tryz.prog 197:=⟨_,Go.Proofs.Tryz.underlying197,rfl,by kernel_rfl⟩
theorem c1m:J5 Go.Proofs.Tryz.prog 198:=⟨_,Go.Proofs.Tryz.underlying198,rfl,by kernel_rfl⟩
theorem c4B (x:Value)(w:World):(callFunc 185 [x].toArray).run Go.Proofs.Tryz.prog w=.ok (.value x) w:=by
 have hn:Extern.findNext Go.Proofs.Tryz.f185=none:=by kernel_rfl
 have he:Extern.find Go.Proofs.Tryz.f185=some Extern.AbiNoEscape.same:=by kernel_rfl
 rw [run_callFunc_extern Go.Proofs.Tryz.func185 (by kernel_rfl) (by kernel_rfl) hn he]
 rfl
theorem c5j {b B:Nat}{bs:List Value}{p:Value}{w:World}(hp:p=.pointer none\/p=Y4 b)(h:Lib.BuilderAt 200 5 B b p bs w) :
 Calls Go.Proofs.Tryz.prog 165 [Y4 b].toArray w fun e w'=>e=.returned (.tuple #[])/\Lib.BuilderAt 200 5 B b (Y4 b) bs w'/\Bw B w w':=by
 obtain ⟨j,hj,hjs⟩:∃ j,Go.Proofs.Tryz.prog.info? 200=some j/\j.size=2:=Option.map_eq_some_iff.1 (by kernel_rfl)
 obtain ⟨hB,v,hb,hown,hne⟩:=h
 have c0:w.cell? ⟨b,0,none⟩=some p:=by simp [World.cell?,hb]
 refine b5Y 20 Go.Proofs.Tryz.func165 rfl rfl rfl ?_
 refine wp_seq (wp_region_lit ?_)
 refine J7 (Y4 b) rfl rfl ?_
 refine a0B ⟨b,0,none⟩ rfl rfl ?_
 refine J3 b 0 0 0 rfl rfl c0f rfl ?_
 refine a0E b 0 p rfl rfl (a0n c0o c0) ?_
 rcases hp with rfl | rfl
 ·refine a3p (.pointer none) (.pointer none) (.bool true) rfl rfl rfl rfl (c5E Go.Proofs.Tryz.underlying197) ?_
  refine wpList_nil (Y7 ?_)
  refine b0e rfl rfl rfl (wp_region_lit ?_)
  refine J7 (Y4 b) rfl rfl ?_
  refine J7 (Y4 b) rfl rfl ?_
  have hsh:w.shape? b=some (200,2):=by simp [World.shape?,hb]
  refine b6i rfl rfl (Lib.run_to_unsafe (e:=200) (cells:=2) w ⟨b,0,none⟩ Go.Proofs.Tryz.underlying197 Go.Proofs.Tryz.underlying248 hj (by rw [hjs]; decide) hsh (Nat.zero_lt_succ 1)) ?_
  refine c5S [Y4 b] (Y4 b) rfl rfl (c4B _ w) ?_
  refine b6i rfl rfl (Lib.run_from_unsafe (e:=200) (cells:=2) w ⟨b,0,none⟩ Go.Proofs.Tryz.underlying248 Go.Proofs.Tryz.underlying197 hj hsh (by kernel_rfl)) ?_
  refine a0B ⟨b,0,none⟩ rfl rfl ?_
  refine J3 b 0 0 0 rfl rfl c0f rfl ?_
  refine b42 (cs:=[.pointer none,v]) hb 0 (Y4 b) rfl rfl rfl rfl rfl (by kernel_rfl) rfl (Nat.zero_lt_succ 1) ?_
  refine wpList_nil (c5a rfl ⟨rfl,⟨hB,v,?_,?_,hne⟩,Bw.setCells hB 0 _ w⟩)
  ·have:=a2x b 200 [Y4 b] 0 w [.pointer none,v] hb (Nat.le_succ 1)
   exact this
  ·obtain ⟨h1,h2⟩:=hown
   refine ⟨h1,h2.imp id fun ⟨g,cap,cur,e,hg,hh,r⟩=>⟨g,cap,cur,e,hg,?_,r⟩⟩
   rw [a0x b _ 0 w g (by rintro rfl; rw [e] at hne; exact hne rfl)]
   exact hh
 ·refine a3p (Y4 b) (.pointer none) (.bool false) rfl rfl rfl rfl (c5E Go.Proofs.Tryz.underlying197) ?_
  refine wpList_nil (Y7 ?_)
  refine a5a rfl rfl rfl (wp_seq (wp_region_lit ?_))
  refine J7 (Y4 b) rfl rfl ?_
  refine a0B ⟨b,0,none⟩ rfl rfl ?_
  refine J3 b 0 0 0 rfl rfl c0f rfl ?_
  refine a0E b 0 (Y4 b) rfl rfl (a0n c0o c0) ?_
  refine J7 (Y4 b) rfl rfl ?_
  refine a3p (Y4 b) (Y4 b) (.bool false) rfl rfl rfl rfl (c6e Go.Proofs.Tryz.underlying197 hj) ?_
  refine wpList_nil (Y7 ?_)
  refine a5a rfl rfl rfl (wp_skip (c5a rfl ⟨rfl,⟨hB,v,hb,hown,hne⟩,Bw.refl B w⟩))
theorem c5x:X6 Go.Proofs.Tryz.prog 165:=⟨_,_,Go.Proofs.Tryz.func165,rfl,by kernel_rfl⟩
theorem c2c {b B:Nat}{bs:List Value}{w:World}(h:Lib.IsBuilder 200 5 B b bs w):∃ p,(p=.pointer none\/p=Y4 b)/\Lib.BuilderAt 200 5 B b p bs w :=
 h.elim (fun h=>⟨_,.inl rfl,h⟩) (fun h=>⟨_,.inr rfl,h⟩)
theorem c7z {b B:Nat}{cs:List Value}{w w':World}{v v':Value}(hB:B<=b)(hb:w.heap[b]?=some (.cells #[Y4 b,v] 200 (0,0)))(hne:v.ownBlock≠some b)(hg:w.grownBy w' v.ownBlock)(hown:w'.ownsRow B 5 1 v' cs.length cs)(hne':v'.ownBlock≠some b) :
 w'.heap[b]?=some (.cells #[Y4 b,v] 200 (0,0))/\Lib.BuilderAt 200 5 B b (Y4 b) cs (w'.setCells b 1 [v']):=by
 have hlt:b<w.heap.size:=(Array.getElem?_eq_some_iff.1 hb).1
 have h1:w'.heap[b]?=some (.cells #[Y4 b,v] 200 (0,0)):=by rw [hg.block b hlt fun e=>hne e.symm]; exact hb
 refine ⟨h1,hB,v',?_,?_,hne'⟩
 ·exact a2x b 200 [v'] 1 w' [Y4 b,v] h1 (Nat.le_refl 2)
 ·obtain ⟨a1,a2⟩:=hown
  refine ⟨a1,a2.imp id fun ⟨g,cap,cur,e,hg,hh,r⟩=>⟨g,cap,cur,e,hg,?_,r⟩⟩
  rw [a0x b _ 1 w' g (by rintro rfl; rw [e] at hne'; exact hne' rfl)]
  exact hh
theorem c3T {b B:Nat}{T:TypeId}{cs:List Value}{w w':World}{v v':Value}{n:Nat}(hlt:b<w.heap.size)(hb:w.heap[b]?=some (.cells #[Y4 b,v] 200 (0,0)))(hne:v.ownBlock≠some b)(hg:w.grownBy w' v.ownBlock)(hown:w'.ownsRow B 5 1 v' n cs):v'.ownBlock≠some b:=by
 intro e
 rcases hown.2 with ⟨rfl,_⟩ | ⟨g,cap,cur,rfl,_,hh,_⟩
 ·cases e
 ·cases e
  rw [hg.block g hlt fun e=>hne e.symm,hb] at hh
  cases hh
theorem bws {b B:Nat}{bs:List Value}{s:ByteArray}{w:World}(h:Lib.IsBuilder 200 5 B b bs w)(hlen:bs.length+s.size<=1000000000)(hBw:B<=w.heap.size) :
 Calls Go.Proofs.Tryz.prog 148 [Y4 b,.string s].toArray w fun e w'=>(∃ v,e=.returned v)/\Lib.BuilderAt 200 5 B b (Y4 b) (bs++Lib.strCells s) w'/\Bw B w w':=by
 obtain ⟨p,hp,h⟩:=c2c h
 obtain ⟨i,hi,hz⟩:∃ i,Go.Proofs.Tryz.prog.info? 5=some i/\(i.zero,i.size,i.bytes)=(some (.int .u8 0),1,1):=Option.map_eq_some_iff.1 (by kernel_rfl)
 simp only [Prod.mk.injEq] at hz
 refine b5Y 19 Go.Proofs.Tryz.func148 rfl rfl rfl ?_
 refine wp_seq (wp_region_lit ?_)
 refine a0j (.int .i64 0) rfl rfl ?_
 refine a0j .nilIface rfl rfl ?_
 refine wpList_nil (Y7 (wp_seq (wp_region_lit ?_)))
 refine J7 (Y4 b) rfl rfl ?_
 refine a4g [Y4 b] rfl rfl c5x (c5j hp h) ?_
 rintro e w1 ⟨rfl,hat,hbw⟩
 refine ⟨_,rfl,?_⟩
 refine wpList_nil (Y7 (wp_seq (wp_region_lit ?_)))
 obtain ⟨hB,v,hb,hown,hne⟩:=hat
 have c1:w1.cell? ⟨b,1,none⟩=some v:=by simp [World.cell?,hb]
 have hlt:b<w1.heap.size:=(Array.getElem?_eq_some_iff.1 hb).1
 refine J7 (Y4 b) rfl rfl ?_
 refine J7 (Y4 b) rfl rfl ?_
 refine a0B ⟨b,0,none⟩ rfl rfl ?_
 refine J3 b 0 1 1 rfl rfl b7j rfl ?_
 refine a0E b 1 v rfl rfl (a0n c1m c1) ?_
 refine J7 (.string s) rfl rfl ?_
 obtain ⟨v',w2,hr,hown',hg,_⟩:=Lib.run_append_own_string (P:=Go.Proofs.Tryz.prog) (w:=w1) B 198 9 198 5 i Go.Proofs.Tryz.underlying198 Go.Proofs.Tryz.underlying9 hi hz.1 hz.2.1 hz.2.2 v bs.length bs hown s (by unfold maxLen; omega) (by omega) (Nat.le_trans hBw hbw.below.size)
 refine b8y rfl rfl rfl rfl hr ?_
 have hd:=a21 _ hr
 have hl:bs.length+s.size=(bs++Lib.strCells s).length:=by rw [List.length_append,Lib.strCells_length]
 rw [hl] at hown'
 have hne':=c3T (T:=5) hlt hb hne hg hown'
 obtain ⟨hb2,hat2⟩:=c7z hB hb hne hg hown' hne'
 refine a0B ⟨b,0,none⟩ rfl rfl ?_
 refine J3 b 0 1 1 rfl rfl b7j rfl ?_
 have hv1:v'.cells.toList=[v']/\v'.oneCell'=true:=by
  rcases hown'.2 with ⟨rfl,_⟩ | ⟨g,cap,cur,rfl,_⟩
  ·exact ⟨rfl,rfl⟩
  ·exact ⟨rfl,rfl⟩
 refine b42 (cs:=[Y4 b,v]) hb2 1 v' rfl rfl rfl rfl hv1.1 (by kernel_rfl) hv1.2 (Nat.lt_succ_self 1) ?_
 refine wpList_nil (Y7 (wp_seq (wp_region_lit ?_)))
 refine J7 (.string s) rfl rfl ?_
 refine c0g s rfl rfl Go.Proofs.Tryz.underlying9 ?_
 refine a0j (.int .i64 (s.size:Int)) rfl rfl ?_
 refine a0j .nilIface rfl rfl ?_
 refine wpList_nil (Y7 (wp_ret (c8j (.int .i64 (s.size:Int)) .nilIface rfl rfl rfl rfl rfl ⟨⟨_,rfl⟩,hat2,?_⟩)))
 exact hbw.trans ((Bw.grown hg hd (b6Y hown) (Nat.le_trans hBw hbw.below.size)).trans (Bw.setCells hB 1 _ w2))
theorem bwb {b B:Nat}{bs:List Value}{c:Int}{w:World}(h:Lib.IsBuilder 200 5 B b bs w)(hlen:bs.length+1<=1000000000)(hBw:B<=w.heap.size) :
 Calls Go.Proofs.Tryz.prog 147 [Y4 b,.int .u8 c].toArray w fun e w'=>(∃ v,e=.returned v)/\Lib.BuilderAt 200 5 B b (Y4 b) (bs++[.int .u8 c]) w'/\Bw B w w':=by
 obtain ⟨p,hp,h⟩:=c2c h
 obtain ⟨i,hi,hz⟩:∃ i,Go.Proofs.Tryz.prog.info? 5=some i/\(i.zero,i.size,i.bytes)=(some (.int .u8 0),1,1):=Option.map_eq_some_iff.1 (by kernel_rfl)
 simp only [Prod.mk.injEq] at hz
 refine b5Y 17 Go.Proofs.Tryz.func147 rfl rfl rfl ?_
 refine wp_seq (wp_region_lit ?_)
 refine a0j .nilIface rfl rfl ?_
 refine wpList_nil (Y7 (wp_seq (wp_region_lit ?_)))
 refine J7 (Y4 b) rfl rfl ?_
 refine a4g [Y4 b] rfl rfl c5x (c5j hp h) ?_
 rintro e w1 ⟨rfl,hat,hbw⟩
 refine ⟨_,rfl,?_⟩
 refine wpList_nil (Y7 (wp_seq (wp_region_lit ?_)))
 obtain ⟨hB,v,hb,hown,hne⟩:=hat
 have c1:w1.cell? ⟨b,1,none⟩=some v:=by simp [World.cell?,hb]
 have hlt:b<w1.heap.size:=(Array.getElem?_eq_some_iff.1 hb).1
 refine J7 (Y4 b) rfl rfl ?_
 refine J7 (Y4 b) rfl rfl ?_
 refine a0B ⟨b,0,none⟩ rfl rfl ?_
 refine J3 b 0 1 1 rfl rfl b7j rfl ?_
 refine a0E b 1 v rfl rfl (a0n c1m c1) ?_
 refine J7 (.int .u8 c) rfl rfl ?_
 refine c4T (v:=.int .u8 c) Go.Proofs.Tryz.underlying198 hi hz.1 hz.2.1 rfl rfl rfl rfl rfl ?_
 have hbw1:Bw B w1 (w1.alloc (.cells #[.int .u8 c] 5)):=⟨(Below.refl _ _).alloc (Nat.le_trans hBw hbw.below.size) _,Nat.le_refl _⟩
 have hb1:(w1.alloc (.cells #[.int .u8 c] 5)).heap[b]?=some (.cells #[Y4 b,v] 200 (0,0)):=by rw [heap_alloc_old _ _ hlt]; exact hb
 have hown1:(w1.alloc (.cells #[.int .u8 c] 5)).ownsRow B 5 1 v bs.length bs:=by
  obtain ⟨a1,a2⟩:=hown
  refine ⟨a1,a2.imp id fun ⟨g,cap,cur,e,hg,hh,r⟩=>⟨g,cap,cur,e,hg,?_,r⟩⟩
  rw [heap_alloc_old _ _ (Array.getElem?_eq_some_iff.1 hh).1]
  exact hh
 have hlt1:b<(w1.alloc (.cells #[.int .u8 c] 5)).heap.size:=(Array.getElem?_eq_some_iff.1 hb1).1
 have hBw1:=Nat.le_trans (Nat.le_trans hBw hbw.below.size) hbw1.below.size
 obtain ⟨v',w2,hr,hown',hg,_⟩:=run_append_own (P:=Go.Proofs.Tryz.prog) (w:=w1.alloc (.cells #[.int .u8 c] 5)) B 198 198 5 i (.int .u8 0) 1 1 Go.Proofs.Tryz.underlying198 hi hz.1 hz.2.1 hz.2.2 rfl Nat.zero_lt_one v bs.length bs hown1 ⟨w1.heap.size,0,none⟩ 1 1 [.int .u8 c] rfl (fun j u hj=>by
  have hj0:j=0:=by
   rcases j with _ | j
   ·rfl
   ·simp at hj
  subst hj0
  simp at hj
  subst hj
  rw [show (Addr.add ⟨w1.heap.size,0,none⟩ 0:Addr)=⟨w1.heap.size,0,none⟩ from rfl,World.cell?,heap_alloc_new]
  rfl) (fun u hu=>by simp at hu; subst hu; rfl) (by unfold maxLen; omega) (by omega) hBw1
 refine b8y rfl rfl rfl rfl hr ?_
 have hd:=a21 _ hr
 rw [show bs.length+1=(bs++[Value.int .u8 c]).length by simp] at hown'
 have hne':=c3T (T:=5) hlt1 hb1 hne hg hown'
 obtain ⟨hb2,hat2⟩:=c7z hB hb1 hne hg hown' hne'
 refine a0B ⟨b,0,none⟩ rfl rfl ?_
 refine J3 b 0 1 1 rfl rfl b7j rfl ?_
 have hv1:v'.cells.toList=[v']/\v'.oneCell'=true:=by
  rcases hown'.2 with ⟨rfl,_⟩ | ⟨g,cap,cur,rfl,_⟩
  ·exact ⟨rfl,rfl⟩
  ·exact ⟨rfl,rfl⟩
 refine b42 (cs:=[Y4 b,v]) hb2 1 v' rfl rfl rfl rfl hv1.1 (by kernel_rfl) hv1.2 (Nat.lt_succ_self 1) ?_
 refine wpList_nil (Y7 (wp_seq (wp_region_lit ?_)))
 refine a0j .nilIface rfl rfl ?_
 refine wpList_nil (Y7 (wp_ret (c8q .nilIface rfl rfl rfl ⟨⟨_,rfl⟩,hat2,?_⟩)))
 exact hbw.trans (hbw1.trans ((Bw.grown hg hd (b6Y hown1) hBw1).trans (Bw.setCells hB 1 _ w2)))
end Go.Qx
end
section
namespace Go.Proofs
open Go.RowKit
set_option maxRecDepth 100000
set_option maxHeartbeats 4000000 in
theorem Tryz.bstr1 {b g cap:Nat}{cur:Array Value}{p:Value}{l:List UInt8}{w:World}(hb:w.heap[b]?=some (.cells #[p,.slice (some ⟨g,0,none⟩) l.length cap] 200 (0,0)))(hg:w.heap[g]?=some (.cells cur 5 (0,0)))
 (h0:l≠[]) (hnc:l.length<=cap) (hcs:cur.size=cap) (hcm:l.length<=1000000000) (hc:∀ (j:Nat) (x:UInt8),l[j]?=some x->cur[j]?=some (Value.int IntKind.u8 (x.toNat:Int))) :
 Calls Tryz.prog 150 #[.pointer (some ⟨b,0,none⟩)] w fun e w'=>e=.returned (.string ⟨l.toArray⟩)/\w'=w.drew.freeze ⟨g,0,none⟩ l.length:=by
 have hl0:l.length≠0:=by simpa using h0
 have hb':w.drew.heap[b]?=some (.cells #[p,.slice (some ⟨g,0,none⟩) l.length cap] 200 (0,0)):=hb
 have hg':w.drew.heap[g]?=some (.cells cur 5 (0,0)):=hg
 have c1:w.drew.cell? ⟨b,1,none⟩=some (.slice (some ⟨g,0,none⟩) l.length cap):=by simp [World.cell?,hb']
 have hSD:(Builtin.unsafeSliceData_ #[198] 229 #[.slice (some ⟨g,0,none⟩) l.length cap]).run Tryz.prog w.drew=.ok (.pointer (some ⟨g,0,none⟩)) w.drew :=
  Lib.run_unsafeSliceData_row _ _ _ _ _ _ (by omega)
 have hUS:(Builtin.unsafeString_ #[229,3] 9 #[.pointer (some ⟨g,0,none⟩),.int .i64 l.length]).run Tryz.prog w.drew=.ok (.string ⟨l.toArray⟩) (w.drew.freeze ⟨g,0,none⟩ l.length) :=
  Lib.run_unsafeString_row w.drew 229 3 9 5 Tryz.underlying229 (by kernel_rfl) g cur.size (by simp [World.shape?,hg']) l h0 (by omega) (by omega) (fun j x hx=>by
   have:=hc j x hx
   have e:((⟨g,0,none⟩:Addr).add j)=⟨g,j,none⟩:=by rcases j with _ | j<;>simp [Addr.add]
   rw [e]
   simp [World.cell?,hg',this])
 go_enter Tryz.func150,Tryz.ntmps150
 go_wp2
 go_region
 all_goals (go_wp2; go_ret; exact ⟨rfl,rfl⟩)
set_option maxHeartbeats 4000000 in
theorem Tryz.bstr0 {b:Nat}{p:Value}{w:World}(hb:w.heap[b]?=some (.cells #[p,.slice none 0 0] 200 (0,0))) :
 Calls Tryz.prog 150 #[.pointer (some ⟨b,0,none⟩)] w fun e w'=>e=.returned (.string ⟨#[]⟩)/\w'=w.drew:=by
 have hb':w.drew.heap[b]?=some (.cells #[p,.slice none 0 0] 200 (0,0)):=hb
 have c1:w.drew.cell? ⟨b,1,none⟩=some (.slice none 0 0):=by simp [World.cell?,hb']
 have hSD:(Builtin.unsafeSliceData_ #[198] 229 #[.slice none 0 0]).run Tryz.prog w.drew=.ok (.pointer none) w.drew:=Lib.run_unsafeSliceData_nil _ _ _ _ _
 have hUS:(Builtin.unsafeString_ #[229,3] 9 #[.pointer none,.int .i64 0]).run Tryz.prog w.drew=.ok (.string .empty) w.drew:=Lib.run_unsafeString_none _ _ _ _ _
 go_enter Tryz.func150,Tryz.ntmps150
 go_wp2
 go_region
 all_goals (go_wp2; go_ret; exact ⟨rfl,rfl⟩)
end Go.Proofs
end
section
namespace Go.Qx
open Go Go.RowKit Go.Sx
@[reducible] def b3I {γ β:Type} [Rp β] (B:Nat) (to:γ->List β):Rp γ where
 sz:=1
 pos:=Nat.one_pos
 agg:=true
 cells:=fun σ x cs=>∃ A c,cs=[.slice A (to x).length c]/\Sl σ (to x) A c/\(to x≠[]->∃ g,A=some ⟨g,0,none⟩/\B<=g)
 len:=fun ⟨_,_,h,_⟩=>by rw [h]; rfl
 one:=fun ⟨_,_,h,_⟩ v hv=>by rw [h] at hv; simp at hv; subst hv; rfl
 mono:=fun k ⟨A,c,h,hs,hb⟩=>⟨A,c,h,hs.mono k,hb⟩
 lo:=B
def LoL (n:Nat):List TE->Prop
 | []=>True
 | e::r=>e.rp.lo<=n/\LoL n r
theorem b8U {n:Nat}:∀ {l:List TE},LoL n l->∀ E,(a4o l E).rp.lo<=n
 | [],_,_=>Nat.zero_le _
 | e::r,h,E=>by
   have k:∀ t:TE,t=e\/t=a4o r E->t.rp.lo<=n:=fun t ht=>by
    rcases ht with rfl | rfl
    ·exact h.1
    ·exact b8U h.2 E
   refine k _ ?_
   simp only [a4o]
   cases Nat.beq e.E E with
   | true=>exact .inl rfl
   | false=>exact .inr rfl
theorem c35 {γ β:Type} [a:Rp β] {B:Nat}{to:γ->List β}{σ:S}{x:γ}{A:Option Addr}{c:Nat}(h1:Sl σ (to x) A c)(h2:to x≠[]->∃ g,A=some ⟨g,0,none⟩/\B<=g):(b3I B to).cells σ x [.slice A (to x).length c]:=⟨A,c,rfl,h1,h2⟩
theorem c0Z {γ β:Type} [a:Rp β] {B:Nat}{to:γ->List β}{σ:S}:∀ {xs:List γ} {cs:List Value},@Y0 γ (b3I B to) σ xs cs->@Y0 γ (a0q to (@rpList β a)) σ xs cs
 | [],_,h=>h
 | _::_,_,⟨c,d,e,⟨A,k,e2,h5,_⟩,h6⟩=>⟨c,d,e,⟨A,k,e2,h5⟩,c0Z h6⟩
theorem c6Q {γ β:Type} [a:Rp β] {B:Nat}{to:γ->List β}{σ:S}{xs:List γ}{A:Option Addr}{c:Nat}(h:@Sl γ (b3I B to) σ xs A c):@Sl γ (a0q to (@rpList β a)) σ xs A c:=by
 obtain ⟨h1,h2,cs,h3,h4⟩:=h
 exact ⟨h1,h2,cs,c0Z h3,h4⟩
section
variable {I:TypeId->Type} [∀ E,Rp (I E)] {P:Program}
def c74 {γ:Type}{G:TypeId}(B:Nat)(to:γ->List (I G)):Fd I γ (b3I B to) where
 lf:=fun x=>[.sl G (to x) false]
 pa:=fun _ _ _=>none
 lf_ok:=fun X c σ x cs ⟨A,k,e,h,_⟩=>by
  rw [e]
  exact RG.cns rfl (by simp only [RV]; exact ⟨A,k,rfl,h,fun h=>by cases h⟩) RG.nl
 pa_ok:=fun ρ ls f r h=>by cases h
theorem c6U {f:FuncId}{T1 T2 G E:TypeId}(B:Nat)(to:I E->List (I G))(mk:List (I G)->I E)(hto:∀ x,to (mk x)=x)
 (hcells:∀ (σ:S) (x:I E) (A:Option Addr) (c:Nat),Sl σ (to x) A c->(to x≠[]->∃ g,A=some ⟨g,0,none⟩/\B<=g)->Rp.cells σ x [.slice A (to x).length c])
 {run:b5v I [.d (.int .i64),.d (.sl T1),.d (.sl T1),.d (.sl T1),.bor T2] (TyT I [.lvs [.row G false],.k (.d .bool)])}
 (h:a0r P (⟨f,[.d (.int .i64),.d (.sl T1),.d (.sl T1),.d (.sl T1),.bor T2],[.lvs [.row G false],.k (.d .bool)],run⟩:Row I)) :
 a0F P (⟨f,[.d (.int .i64),.d (.sl T1),.d (.sl T1),.d (.sl T1),.bor T2],[.k (.d (.dat E)),.k (.d .bool)],fun a1 a2 a3 a4 a5=>Option.bind (run a1 a2 a3 a4 a5) fun q=>some (mk q.1,q.2)⟩:Row I) (fun w _=>B<=w.heap.size):=by
 intro σ a vs pls res hA hC hnd happ
 have happ':(Option.bind (run a.1 a.2.1 a.2.2.1 a.2.2.2.1 a.2.2.2.2.1) fun q=>some (mk q.1,q.2))=some res:=happ
 obtain ⟨q,hq,hr⟩:=bind_some happ'
 cases hr
 have hA0:=hA
 obtain ⟨v1,_,_,_,rfl,rfl,⟨_,rfl⟩,v2,_,_,_,rfl,rfl,⟨_,rfl⟩,v3,_,_,_,rfl,rfl,⟨_,rfl⟩,v4,_,_,_,rfl,rfl,⟨_,rfl⟩,v5,_,_,_,rfl,rfl,⟨A5,k5,_,_,rfl⟩,rfl,rfl⟩:=hA0
 refine V8.mono (h σ a _ _ q hA hnd hq) rfl fun v τ hE ⟨ws,us,pls',hp⟩=>?_
 have hus:us=[]:=hp.out
 have tt:TT τ ([.lvs [.row G false],.k (.d .bool)]:List V) q (ws++us) pls':=hp.tt
 obtain ⟨w1,r1,p1,p2,e1,e2,⟨_,cs,e3,u1,e4,A,k,ow,e5,e6,hown⟩,w2,e7,hb,e8⟩:=tt
 subst hus
 subst e7
 subst e8
 subst e4
 subst e5
 subst e6
 rw [List.append_nil] at e1
 cases ow with
 | none =>
   rcases hown with ⟨h1,h2⟩ | ⟨h1,_⟩
   ·refine ⟨τ,rfl,hE,ws,[],[],hp.ret,hp.len,?_,rfl,List.nodup_nil,fun g hg=>by cases hg⟩
    refine ⟨w1,[w2],[],[],by rw [List.append_nil,e1],rfl,⟨⟨_,e3,?_⟩,rfl⟩,w2,rfl,hb,rfl⟩
    have:=hcells τ (mk q.1) A k (by rw [hto,h1,h2]; exact Sl.nil_ _ _ _ (Nat.zero_le _)) (fun hn=>absurd ((hto q.1).trans h1) hn)
    rw [hto] at this
    exact this
   ·cases h1
 | some g =>
   have hown0:=hown
   obtain ⟨cur,cs',eA,hh,k1,k2,k3,k4,k5',k6⟩:=hown
   have hg:σ.N<=g:=by
    have:=(hp.own g (by rw [e2]; simp [ows])).1
    rcases this with h | h
    ·exact h
    ·simp [ows] at h
   let υ:S:=⟨τ.w,fun b=>if b=g then (q.1.length*Rp.sz (I G),(τ.L b).2) else τ.L b⟩
   have hL:∀ b,b≠g->υ.L b=τ.L b:=fun b hb=>by simp [υ,hb]
   have hLg:(υ.L g).1=q.1.length*Rp.sz (I G):=by simp [υ]
   have k6':(τ.L g).1=0:=k6
   have hw:Wext τ υ:=⟨Nat.le_refl _,fun b _=>by
    by_cases eb:b=g
    ·subst eb; rw [k6']; exact Nat.zero_le _
    ·rw [hL b eb]; exact Nat.le_refl _,fun _ _ _ _ h=>h,Nat.le_refl _,fun _ _ _ h=>h⟩
   have hE':Stp (fun b=>b∈ows _) σ υ:=⟨hE.wext.trans hw,hE.os,hE.tape,hE.output,fun b hb hn=>by
    have hbg:b≠g:=fun e=>by
     have hb':b<σ.w.heap.size:=hb
     have hg':σ.w.heap.size<=g:=hg
     omega
    obtain ⟨q1,q2⟩:=hE.block b hb hn
    exact ⟨q1,by rw [hL b hbg]; exact q2⟩⟩
   have hsl:Sl υ q.1 A k:=Q6.sl (ow:=some g) (E:=G) ⟨cur,cs',eA,hh,k1,k2,k3,k4.mono hw,k5',hLg⟩
   refine ⟨υ,rfl,hE',ws,[],[],hp.ret,hp.len,?_,rfl,List.nodup_nil,fun g hg=>by cases hg⟩
   refine ⟨w1,[w2],[],[],by rw [List.append_nil,e1],rfl,⟨⟨_,e3,?_⟩,rfl⟩,w2,rfl,DV.mono hw hb,rfl⟩
   have:=hcells υ (mk q.1) A k (by rw [hto]; exact hsl) (fun _=>⟨g,eA,Nat.le_trans hC hg⟩)
   rw [hto] at this
   exact this
def a8t:List Code->Code->Code
 | [],b=>b
 | a::r,b=>.seq a (a8t r b)
def b9z (H:Hints I):List Code->Nat->Bool
 | [],_=>true
 | a::r,p=>(H.join p).isNone&&W5 H a (2*p)&&b9z H r (2*p+1)
theorem b97 {tb:Tab I}{disp:Q9 I}{H:Hints I}{n:Nat}(ht:TabOk P tb)(hd:DispOk P disp)(hmx:P.follows .mixedOrders=true){rest:Code}:∀ (c8N:List Code) (p:Nat),b9z H c8N p=true ->
 ∀ (ρ:Type) (s:St I) (k:Ex->St I->Option ρ) (r:ρ) (X:Cxt) (c:Cx) (σ:S) (F:Fr) (Q:Exit->Act->World->Prop),X.P=P->a0C tb disp H (a8t c8N .skip) p ρ s k=some r->Rel X c σ s n F ->
 (∀ (e:Ex) (s':St I) (c':Cx) (τ:S) (F':Fr),e≠.normal->k e s'=some r->Cx.le c c'->Rel X c' τ s' n F'->Stp X.M σ τ->Q (a02 e) (fr n F') τ.w) ->
 (∀ (s':St I) (c':Cx) (τ:S) (F':Fr),k .normal s'=some r->Cx.le c c'->Rel X c' τ s' n F'->Stp X.M σ τ->rest.wp P Q (fr n F') τ.w)->(a8t c8N rest).wp P Q (fr n F) σ.w
 | [],_,_,ρ,s,k,r,X,c,σ,F,Q,_,hx,h,_,hh=>hh s c σ F hx (Cx.le_refl c) h (Stp.refl _ _)
 | a::c8N,p,hc,ρ,s,k,r,X,c,σ,F,Q,hX,hx,h,hk,hh=>by
   simp only [b9z,Bool.and_eq_true] at hc
   have hj:H.join p=none:=Option.isNone_iff_eq_none.1 hc.1.1
   have hx':a0C tb disp H a (2*p) ρ s (fun e s=>match e with
    | .normal=>a0C tb disp H (a8t c8N .skip) (2*p+1) ρ s k
    | e=>k e s)=some r:=by
    have hx0:a6z tb H p (fun ρ s k=>a0C tb disp H a (2*p) ρ s fun e s=>match e with
     | .normal=>a0C tb disp H (a8t c8N .skip) (2*p+1) ρ s k
     | e=>k e s) ρ s k=some r:=hx
    unfold a6z at hx0
    rw [hj] at hx0
    exact hx0
   refine wp_seq (W9 ht hd hmx a (2*p) hc.1.2 ρ s _ r X c σ F _ hX hx' h fun e s' c' τ F' g1 g2 g3 g4 _=>?_)
   cases e with
   | normal=>exact b97 ht hd hmx c8N (2*p+1) hc.2 ρ s' k r X c' τ F' Q hX g1 g3 (fun e s2 c2 υ F2 m0 m1 m2 m3 m4=>hk e s2 c2 υ F2 m0 m1 (Cx.le_trans g2 m2) m3 (g4.trans m4)) fun s2 c2 υ F2 m1 m2 m3 m4=>hh s2 c2 υ F2 m1 (Cx.le_trans g2 m2) m3 (g4.trans m4)
   | exit i=>exact hk (.exit i) s' c' τ F' (fun e=>by cases e) g1 g2 g3 g4
   | ret=>exact hk .ret s' c' τ F' (fun e=>by cases e) g1 g2 g3 g4
end
end Go.Qx
end

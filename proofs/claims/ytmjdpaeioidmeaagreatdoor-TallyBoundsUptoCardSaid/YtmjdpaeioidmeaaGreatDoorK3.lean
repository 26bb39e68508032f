/- Part 3. -/
import Derived.Test.YtmjdpaeioidmeaaGreatDoorK2
import Derived.KernelRfl
import Derived.Lib.Bytealg
section
open List renaming replicate->d8D
open Nat renaming beq->d8u,ble->d89,blt->d8V
namespace Go.Qx
open Go Go.RowKit Go.Sx
set_option maxRecDepth 100000
structure Api_Field where
 Key_:Key
 Node:Int
 Optional:Bool
structure Api_TypeNode where
 Kind:Int
 Lo:Int
 Hi:Int
 Text:ByteArray
 Kids:List Int
 Fields:List Api_Field
 Rest:Int×Int
structure Api_Type where
 Nodes:List Api_TypeNode
 Root:Int
structure Api_Constraint where
 Lower:Api_Type
 Upper:Api_Type
structure Api_Range where
 Lo:Int
 Hi:Int
structure Api_Binding where
 Name:ByteArray
 Type_:Api_Type
structure Semtypebase_Source where
 L:List Int
 At:Int
structure Api_Goal where
 Pos:List Int
 Neg:List Int
 Lists:Bool
structure Api_Form where
 Args:List Int
 Fails:Bool
 Result:Int
structure Api_Alternative where
 Leaf:Val
 Keys:List Key
 Forms:List Api_Form
 Subgoals:List Api_Goal
structure Api_EntryForm where
 Args:List Api_Goal
 Fails:Bool
 Result:Api_Goal
structure Solve_Way where
 Alternative:Api_Alternative
 Entries:List (List Api_EntryForm)
structure Api_Names where
 Cofinite:Bool
 List_:List ByteArray
structure Api_Line where
 Kind:Int
 Arity:Int
 Ints:List Api_Range
 Names:Api_Names
 Pos:List Int
 Neg:List Int
 Vars:List ByteArray
 NotVars:List ByteArray
structure Core_Sort where
 Kind:Int
 Arity:Int
structure Core_pair where
 pos:List Int
 neg:List Int
 finalPos:List Int
 finalNeg:List Int
structure Api_Box where
 Parts:List Api_Goal
structure Api_SomeKey where
 Kind:Int
 Goal:Api_Goal
structure Api_Shape where
 Keys:List Key
 States:List Int
 Parts:List Api_Goal
 Rest:Api_Goal×Api_Goal
 Some:List Api_SomeKey
structure Literals_normal where
 Names:Api_Names
structure Record_place where
 key:Int
 absent:Bool
 kind:Int
def a7W (x y:Int×Int):Bool:=((x.1==y.1)&&((x.2==y.2)&&true))
def a2p (x y:Key):Bool:=((x.Kind==y.Kind)&&((J4 x.Text y.Text)&&true))
def a11 (l:List (List Int))(x1:Int):Option (Fl Int (Sum Unit Bool)) :=
 bif decide (x1<(l.length:Int))
 then ((idx l x1).bind fun e2 =>
 bif decide (80<(e2.length:Int))
 then (some (.done (.inr false)))
 else (some (.next (wr .i64 (x1+1)))))
 else (some (.done (.inl ())))
def a4B (l:List (List Int)):Option Bool :=
 (j7 (a11 l) ((l.length:Int).toNat+1) 0).bind fun b3 =>
 w9 (fun _ =>
 some true) (fun y5 =>
 some y5) b3
def a9m (x:Int):Option Bool :=
 some (x != x)
def b1C (x:Int)(y:Int):Option Int :=
 (a9m x).bind fun r1 =>
 (a9m y).bind fun r2 =>
 bif r1
 then (bif r2
 then (some 0)
 else (some (-1)))
 else (bif r2
 then (some 1)
 else (bif decide (x<y)
 then (some (-1))
 else (bif decide (y<x)
 then (some 1)
 else (some 0))))
def a9j (a:Api_Range)(b:Api_Range):Option Int :=
 (b1C a.Lo b.Lo).bind fun r1 =>
 some r1
noncomputable def b51 (d:List Api_Range)(x1:(List Api_Range)×Int):Option (Fl ((List Api_Range)×Int) (List Api_Range)) :=
 bif decide (x1.2<(d.length:Int))
 then ((idx d x1.2).bind fun e2 =>
 bif decide (e2.Lo<=e2.Hi)
 then ((k9 (x1.1.length+([e2]:List Api_Range).length) 16).bind fun _ =>
 some (.next (x1.1++([e2]:List Api_Range),wr .i64 (x1.2+1))))
 else (some (.next (x1.1,wr .i64 (x1.2+1)))))
 else (some (.done x1.1))
noncomputable def b6I (r8:Unit×List Api_Range)(x9:(List Api_Range)×(List Api_Range)×Int):Option (Fl ((List Api_Range)×(List Api_Range)×Int) ((List Api_Range)×(List Api_Range))) :=
 bif decide (x9.2.2<(r8.2.length:Int))
 then ((idx x9.2.1 x9.2.2).bind fun _ =>
 (x9.2.1[x9.2.2.toNat]?).bind fun e11 =>
 (bif decide (0<=(wr .i64 ((x9.1.length:Int)-1)))
 then ((idx x9.1 (wr .i64 ((x9.1.length:Int)-1))).bind fun _ =>
 (x9.1[(wr .i64 ((x9.1.length:Int)-1)).toNat]?).bind fun e13 =>
 (bif e13.Hi==9223372036854775807
 then (some true)
 else ((idx x9.1 (wr .i64 ((x9.1.length:Int)-1))).bind fun _ =>
 (x9.1[(wr .i64 ((x9.1.length:Int)-1)).toNat]?).bind fun e15 =>
 some (decide (e11.Lo<=(wr .i64 (e15.Hi+1)))))).bind fun q16 =>
 some q16)
 else (some false)).bind fun q17 =>
 bif q17
 then ((idx x9.1 (wr .i64 ((x9.1.length:Int)-1))).bind fun _ =>
 (x9.1[(wr .i64 ((x9.1.length:Int)-1)).toNat]?).bind fun e19 =>
 (idx x9.1 (wr .i64 ((x9.1.length:Int)-1))).bind fun _ =>
 (x9.1[(wr .i64 ((x9.1.length:Int)-1)).toNat]?).bind fun e21 =>
 some (.next (x9.1.set ((wr .i64 ((x9.1.length:Int)-1)).toNat) (Api_Range.mk e21.Lo (max e19.Hi e11.Hi)),x9.2.1,wr .i64 (x9.2.2+1))))
 else ((k9 (x9.1.length+([e11]:List Api_Range).length) 16).bind fun _ =>
 some (.next (x9.1++([e11]:List Api_Range),x9.2.1,wr .i64 (x9.2.2+1)))))
 else (some (.done (x9.1,x9.2.1)))
noncomputable def a1W (d:List Api_Range):Option (List Api_Range) :=
 (j7 (b51 d) ((d.length:Int).toNat+1) ([],0)).bind fun b4 =>
 (b76 b4 (fun z5 z6 =>
 (a9j z5 z6).bind fun r7 =>
 some r7)).bind fun r8 =>
 (j7 (b6I r8) ((r8.2.length:Int).toNat+1) ([],r8.2,0)).bind fun b23 =>
 some b23.1
def a4Q (n_0:Api_TypeNode):Option Api_Type :=
 some (Api_Type.mk ([n_0]:List Api_TypeNode) 0)
def a6a:Option Api_Type :=
 (a4Q (Api_TypeNode.mk 1 0 0 (⟨#[]⟩:ByteArray) ([]:List Int) ([]:List Api_Field) (0,0))).bind fun r1 =>
 some r1
def a4C (d:Api_TypeNode):Option Bool :=
 (bif d.Kind==3
 then (some (true,false,false,false))
 else ((bif d.Kind==4
 then (some (d.Kind==4))
 else (bif d.Kind==6
 then (some (d.Kind==6))
 else (some (d.Kind==19)))).bind fun b1 =>
 bif b1
 then (some (false,true,false,false))
 else ((bif d.Kind==10
 then (some (d.Kind==10))
 else (bif d.Kind==12
 then (some (d.Kind==12))
 else (bif d.Kind==14
 then (some (d.Kind==14))
 else (bif d.Kind==16
 then (some (d.Kind==16))
 else (bif d.Kind==17
 then (some (d.Kind==17))
 else (some (d.Kind==18))))))).bind fun b2 =>
 bif b2
 then (some (false,false,true,false))
 else (bif d.Kind==13
 then (some (false,false,false,true))
 else (some (false,false,false,false)))))).bind fun b3 =>
 (bif b3.1
 then (some true)
 else ((bif d.Lo==0
 then (some (d.Hi==0))
 else (some false)).bind fun q4 =>
 some q4)).bind fun q5 =>
 (bif q5
 then ((bif b3.2.1
 then (some true)
 else (some (J4 d.Text (⟨#[]⟩:ByteArray)))).bind fun q6 =>
 some q6)
 else (some false)).bind fun q7 =>
 (bif q7
 then ((bif b3.2.2.1
 then (some true)
 else (some ((d.Kids.length:Int)==0))).bind fun q8 =>
 some q8)
 else (some false)).bind fun q9 =>
 (bif q9
 then ((bif b3.2.2.2
 then (some true)
 else ((bif (d.Fields.length:Int)==0
 then (some (a7W d.Rest (0,0)))
 else (some false)).bind fun q10 =>
 some q10)).bind fun q11 =>
 some q11)
 else (some false)).bind fun q12 =>
 some q12
def a8T (s:ByteArray)(other:Int->Option Bool)(x5:Int):Option (Fl Int (Sum Unit Bool)) :=
 bif decide (x5<(s.size:Int))
 then ((a5M s x5).bind fun e6 =>
 (other (e6.toNat:Int)).bind fun r7 =>
 bif !r7
 then (some (.done (.inr false)))
 else (some (.next (wr .i64 (x5+1)))))
 else (some (.done (.inl ())))
def a67 (s:ByteArray)(first:Int->Option Bool)(other:Int->Option Bool):Option Bool :=
 (bif decide ((s.size:Int)<1)
 then (some true)
 else (some (decide (16<(s.size:Int))))).bind fun q1 =>
 (bif q1
 then (some true)
 else ((a5M s 0).bind fun e2 =>
 (first (e2.toNat:Int)).bind fun r3 =>
 some (!r3))).bind fun q4 =>
 bif q4
 then (some false)
 else ((j7 (a8T s other) ((s.size:Int).toNat+1) 1).bind fun b8 =>
 w9 (fun _ =>
 some true) (fun y10 =>
 some y10) b8)
def a4y (c:Int):Option Bool :=
 (bif decide (97<=c)
 then (some (decide (c<=122)))
 else (some false)).bind fun q1 =>
 some q1
def a6c (c:Int):Option Bool :=
 (bif decide (48<=c)
 then (some (decide (c<=57)))
 else (some false)).bind fun q1 =>
 some q1
def b0c (c:Int):Option Bool :=
 (a4y c).bind fun r1 =>
 (bif r1
 then (some true)
 else ((a6c c).bind fun r2 =>
 some r2)).bind fun q3 =>
 (bif q3
 then (some true)
 else (some (c==95))).bind fun q4 =>
 some q4
def a6W (s:ByteArray):Option Bool :=
 (a67 s (fun z1 =>
 (a4y z1).bind fun r2 =>
 some r2) (fun z3 =>
 (b0c z3).bind fun r4 =>
 some r4)).bind fun r5 =>
 some r5
def a6e (c:Int):Option Bool :=
 (bif decide (65<=c)
 then (some (decide (c<=90)))
 else (some false)).bind fun q1 =>
 some q1
def a69 (c:Int):Option Bool :=
 (a4y c).bind fun r1 =>
 (bif r1
 then (some true)
 else ((a6e c).bind fun r2 =>
 some r2)).bind fun q3 =>
 (bif q3
 then (some true)
 else ((a6c c).bind fun r4 =>
 some r4)).bind fun q5 =>
 (bif q5
 then (some true)
 else (some (c==95))).bind fun q6 =>
 some q6
def a2K (s:ByteArray):Option Bool :=
 (a67 s (fun z1 =>
 (a6e z1).bind fun r2 =>
 some r2) (fun z3 =>
 (a69 z3).bind fun r4 =>
 some r4)).bind fun r5 =>
 some r5
def a30 (k:Key):Option Bool :=
 bif k.Kind==0
 then ((a6W k.Text).bind fun r1 =>
 some r1)
 else (bif k.Kind==1
 then (some (decide ((k.Text.size:Int)<=64)))
 else (some false))
def a78 (x:Int):Option Bool :=
 some (x != x)
def a4A (x:Int)(y:Int):Option Int :=
 (a78 x).bind fun r1 =>
 (a78 y).bind fun r2 =>
 bif r1
 then (bif r2
 then (some 0)
 else (some (-1)))
 else (bif r2
 then (some 1)
 else (bif decide (x<y)
 then (some (-1))
 else (bif decide (y<x)
 then (some 1)
 else (some 0))))
def a17 (a:ByteArray)(b:ByteArray):Option Int :=
 (c9o a b).bind fun r1 =>
 some r1
def a4H (a:ByteArray)(b:ByteArray):Option Int :=
 (a17 a b).bind fun r1 =>
 some r1
def a3w (a:Key)(b:Key):Option Int :=
 (a4A a.Kind b.Kind).bind fun r1 =>
 bif r1 != 0
 then (some r1)
 else ((a4H a.Text b.Text).bind fun r2 =>
 some r2)
def a2x (l:List Api_Field)(x1:Int):Option (Fl Int (Sum Unit Bool)) :=
 bif decide (x1<(l.length:Int))
 then ((idx l x1).bind fun e2 =>
 (a30 e2.Key_).bind fun r3 =>
 (bif !r3
 then (some true)
 else ((bif decide (0<x1)
 then ((idx l (wr .i64 (x1-1))).bind fun e4 =>
 (a3w e4.Key_ e2.Key_).bind fun r5 =>
 some (decide (0<=r5)))
 else (some false)).bind fun q6 =>
 some q6)).bind fun q7 =>
 bif q7
 then (some (.done (.inr false)))
 else (some (.next (wr .i64 (x1+1)))))
 else (some (.done (.inl ())))
def a3N (l:List Api_Field):Option Bool :=
 (j7 (a2x l) ((l.length:Int).toNat+1) 0).bind fun b8 =>
 w9 (fun _ =>
 some true) (fun y10 =>
 some y10) b8
def a4K (d:Api_TypeNode):Option Bool :=
 (bif d.Kind==1
 then (some (d.Kind==1))
 else (bif d.Kind==2
 then (some (d.Kind==2))
 else (bif d.Kind==5
 then (some (d.Kind==5))
 else (bif d.Kind==7
 then (some (d.Kind==7))
 else (bif d.Kind==8
 then (some (d.Kind==8))
 else (bif d.Kind==9
 then (some (d.Kind==9))
 else (bif d.Kind==11
 then (some (d.Kind==11))
 else (some (d.Kind==15))))))))).bind fun b1 =>
 bif b1
 then (some true)
 else (bif d.Kind==3
 then (some (decide (d.Lo<=d.Hi)))
 else (bif d.Kind==4
 then (some (decide ((d.Text.size:Int)<=64)))
 else (bif d.Kind==6
 then ((a6W d.Text).bind fun r2 =>
 some r2)
 else (bif d.Kind==19
 then ((a2K d.Text).bind fun r3 =>
 some r3)
 else (bif d.Kind==10
 then (some (decide ((d.Kids.length:Int)<=4)))
 else (bif d.Kind==12
 then (some ((d.Kids.length:Int)==2))
 else (bif d.Kind==13
 then ((a3N d.Fields).bind fun r4 =>
 some r4)
 else (bif d.Kind==14
 then ((bif decide (1<=(d.Kids.length:Int))
 then (some (decide ((d.Kids.length:Int)<=5)))
 else (some false)).bind fun q5 =>
 some q5)
 else ((bif d.Kind==16
 then (some (d.Kind==16))
 else (some (d.Kind==17))).bind fun b6 =>
 bif b6
 then (some (decide (1<=(d.Kids.length:Int))))
 else (bif d.Kind==18
 then (some ((d.Kids.length:Int)==1))
 else (some false)))))))))))
def a2m (n_0:Api_TypeNode)(x2:(List Int)×Int):Option (Fl ((List Int)×Int) (List Int)) :=
 bif decide (x2.2<(n_0.Fields.length:Int))
 then ((idx n_0.Fields x2.2).bind fun e3 =>
 (k9 (x2.1.length+([e3.Node]:List Int).length) 8).bind fun _ =>
 some (.next (x2.1++([e3.Node]:List Int),wr .i64 (x2.2+1))))
 else (some (.done x2.1))
def a7n (n_0:Api_TypeNode):Option (List Int) :=
 (V7 8 n_0.Kids).bind fun r1 =>
 (j7 (a2m n_0) ((n_0.Fields.length:Int).toNat+1) (r1,0)).bind fun b5 =>
 bif n_0.Kind==13
 then ((k9 (b5.length+([n_0.Rest.1,n_0.Rest.2]:List Int).length) 8).bind fun _ =>
 some (b5++([n_0.Rest.1,n_0.Rest.2]:List Int)))
 else (some b5)
def a4M (kind:Int):Option Bool :=
 (bif kind==16
 then (some true)
 else (some (kind==17))).bind fun q1 =>
 (bif q1
 then (some true)
 else (some (kind==18))).bind fun q2 =>
 some q2
def Q7 (a2_2:Api_Type)(e10:Api_TypeNode)(rec_typeexpr_contractive_1:Int->(List Int)->Api_Type->Unit->Option (Bool×(List Int)))(x11:Int×(List Int)):Option (Fl (Int×(List Int)) (Sum (List Int) (Bool×(List Int)))) :=
 bif decide (x11.1<(e10.Kids.length:Int))
 then ((idx e10.Kids x11.1).bind fun e12 =>
 (rec_typeexpr_contractive_1 e12 x11.2 a2_2 ()).bind fun r13 =>
 bif !r13.1
 then (some (.done (.inr (false,r13.2))))
 else (some (.next (wr .i64 (x11.1+1),r13.2))))
 else (some (.done (.inl x11.2)))
def a4a (_:Nat)(rec_typeexpr_contractive_1:Int->(List Int)->Api_Type->Unit->Option (Bool×(List Int)))(i:Int)(a1_1:List Int)(a2_2:Api_Type)(_:Unit):Option (Bool×(List Int)) :=
 (idx a1_1 i).bind fun _ =>
 (a1_1[i.toNat]?).bind fun e2 =>
 (bif e2 != 0
 then (some true)
 else ((idx a2_2.Nodes i).bind fun e3 =>
 (a4M e3.Kind).bind fun r4 =>
 some (!r4))).bind fun q5 =>
 bif q5
 then ((idx a1_1 i).bind fun _ =>
 (a1_1[i.toNat]?).bind fun e7 =>
 some (e7 != 1,a1_1))
 else ((idx a1_1 i).bind fun _ =>
 (a1_1[i.toNat]?).bind fun _ =>
 (idx a2_2.Nodes i).bind fun e10 =>
 (j7 (Q7 a2_2 e10 rec_typeexpr_contractive_1) ((e10.Kids.length:Int).toNat+1) (0,a1_1.set i.toNat 1)).bind fun (b14:Sum (List Int) (Bool×(List Int))) =>
 w9 (fun x15 =>
 (idx x15 i).bind fun _ =>
 (x15[i.toNat]?).bind fun _ =>
 some (true,x15.set i.toNat 2)) (fun y16 =>
 some (y16.1,y16.2)) b14)
def J1:Nat->Int->(List Int)->Api_Type->Unit->Option (Bool×(List Int))
 | 0=>fun _ _ _ _=>none
 | n+1=>a4a n (J1 n)
def J5 (t:Api_Type)(n:Nat)(x2:Int×(List Int)):Option (Fl (Int×(List Int)) (Sum (List Int) (Bool×(List Int)))) :=
 bif decide (x2.1<(t.Nodes.length:Int))
 then ((J1 n x2.1 x2.2 t ()).bind fun r3 =>
 bif !r3.1
 then (some (.done (.inr (false,r3.2))))
 else (some (.next (wr .i64 (x2.1+1),r3.2))))
 else (some (.done (.inl x2.2)))
def a3F (n:Nat)(t:Api_Type):Option Bool :=
 (a6d (t.Nodes.length:Int) (t.Nodes.length:Int) 8).bind fun m1 =>
 (j7 (J5 t n) ((t.Nodes.length:Int).toNat+1) (0,d8D m1 (0:Int))).bind fun (b4:Sum (List Int) (Bool×(List Int))) =>
 w9 (fun _ =>
 some true) (fun y6 =>
 some y6.1) b4
def a2R (t:Api_Type)(r7:List Int)(x8:Int):Option (Fl Int (Sum Unit Int)) :=
 bif decide (x8<(r7.length:Int))
 then ((idx r7 x8).bind fun e9 =>
 (bif decide (e9<0)
 then (some true)
 else (some (decide ((t.Nodes.length:Int)<=e9)))).bind fun q10 =>
 bif q10
 then (some (.done (.inr 1)))
 else (some (.next (wr .i64 (x8+1)))))
 else (some (.done (.inl ())))
def a2V (t:Api_Type)(x2:Int):Option (Fl Int (Sum Unit Int)) :=
 bif decide (x2<(t.Nodes.length:Int))
 then ((idx t.Nodes x2).bind fun e3 =>
 (a4C e3).bind fun r4 =>
 (bif !r4
 then (some true)
 else ((a4K e3).bind fun r5 =>
 some (!r5))).bind fun q6 =>
 bif q6
 then (some (.done (.inr 1)))
 else ((a7n e3).bind fun r7 =>
 (j7 (a2R t r7) ((r7.length:Int).toNat+1) 0).bind fun b11 =>
 w9 (fun _ =>
 some (.next (wr .i64 (x2+1)))) (fun y13 =>
 some (.done (.inr y13))) b11))
 else (some (.done (.inl ())))
def K4 (n:Nat)(t:Api_Type):Option Int :=
 (bif decide (t.Root<0)
 then (some true)
 else (some (decide ((t.Nodes.length:Int)<=t.Root)))).bind fun q1 =>
 bif q1
 then (some 1)
 else ((j7 (a2V t) ((t.Nodes.length:Int).toNat+1) 0).bind fun b14 =>
 w9 (fun _ =>
 (a3F n t).bind fun r17 =>
 bif !r17
 then (some 3)
 else (some 0)) (fun y16 =>
 some y16) b14)
def a9X (n:Nat)(t:Api_Type):Option Api_Type :=
 (K4 n t).bind fun r1 =>
 bif r1 != 0
 then ((a6a).bind fun r2 =>
 some r2)
 else (some t)
def a2E (t:Int)(r1:List Int)(x2:Int×(Int×Int×Int×ByteArray×(List Int)×(List Api_Field)×Int×Int)):Option (Fl (Int×(Int×Int×Int×ByteArray×(List Int)×(List Api_Field)×Int×Int)) (Int×Int×Int×ByteArray×(List Int)×(List Api_Field)×Int×Int)) :=
 bif decide (x2.1<(r1.length:Int))
 then ((idx x2.2.2.2.2.2.1 x2.1).bind fun _ =>
 (x2.2.2.2.2.2.1[x2.1.toNat]?).bind fun e4 =>
 (idx x2.2.2.2.2.2.1 x2.1).bind fun _ =>
 (x2.2.2.2.2.2.1[x2.1.toNat]?).bind fun _ =>
 some (.next (wr .i64 (x2.1+1),(x2.2.1,x2.2.2.1,x2.2.2.2.1,x2.2.2.2.2.1,x2.2.2.2.2.2.1.set x2.1.toNat (wr .i64 (e4+t)),x2.2.2.2.2.2.2.1,x2.2.2.2.2.2.2.2.1,x2.2.2.2.2.2.2.2.2))))
 else (some (.done (x2.2.1,x2.2.2.1,x2.2.2.2.1,x2.2.2.2.2.1,x2.2.2.2.2.2.1,x2.2.2.2.2.2.2.1,x2.2.2.2.2.2.2.2.1,x2.2.2.2.2.2.2.2.2)))
def a2F (t:Int)(r8:List Api_Field)(x9:Int×(Int×Int×Int×ByteArray×(List Int)×(List Api_Field)×Int×Int)):Option (Fl (Int×(Int×Int×Int×ByteArray×(List Int)×(List Api_Field)×Int×Int)) (Int×Int×Int×ByteArray×(List Int)×(List Api_Field)×Int×Int)) :=
 bif decide (x9.1<(r8.length:Int))
 then ((idx x9.2.2.2.2.2.2.1 x9.1).bind fun _ =>
 (x9.2.2.2.2.2.2.1[x9.1.toNat]?).bind fun e11 =>
 (idx x9.2.2.2.2.2.2.1 x9.1).bind fun _ =>
 (x9.2.2.2.2.2.2.1[x9.1.toNat]?).bind fun e13 =>
 some (.next (wr .i64 (x9.1+1),(x9.2.1,x9.2.2.1,x9.2.2.2.1,x9.2.2.2.2.1,x9.2.2.2.2.2.1,x9.2.2.2.2.2.2.1.set x9.1.toNat (Api_Field.mk e13.Key_ (wr .i64 (e11.Node+t)) e13.Optional),x9.2.2.2.2.2.2.2.1,x9.2.2.2.2.2.2.2.2))))
 else (some (.done (x9.2.1,x9.2.2.1,x9.2.2.2.1,x9.2.2.2.2.1,x9.2.2.2.2.2.1,x9.2.2.2.2.2.2.1,x9.2.2.2.2.2.2.2.1,x9.2.2.2.2.2.2.2.2)))
def a52 (d:Api_TypeNode)(t:Int):Option Api_TypeNode :=
 (V7 8 d.Kids).bind fun r1 =>
 (j7 (a2E t r1) ((r1.length:Int).toNat+1) (0,(d.Kind,d.Lo,d.Hi,d.Text,r1,d.Fields,d.Rest.1,d.Rest.2))).bind fun b7 =>
 (V7 40 b7.2.2.2.2.2.1).bind fun r8 =>
 (j7 (a2F t r8) ((r8.length:Int).toNat+1) (0,(b7.1,b7.2.1,b7.2.2.1,b7.2.2.2.1,b7.2.2.2.2.1,r8,b7.2.2.2.2.2.2.1,b7.2.2.2.2.2.2.2))).bind fun b14 =>
 bif b14.1==13
 then (some (Api_TypeNode.mk b14.1 b14.2.1 b14.2.2.1 b14.2.2.2.1 b14.2.2.2.2.1 b14.2.2.2.2.2.1 (wr .i64 (b14.2.2.2.2.2.2.1+t),wr .i64 (b14.2.2.2.2.2.2.2+t))))
 else (some (Api_TypeNode.mk b14.1 b14.2.1 b14.2.2.1 b14.2.2.2.1 b14.2.2.2.2.1 b14.2.2.2.2.2.1 (b14.2.2.2.2.2.2.1,b14.2.2.2.2.2.2.2)))
def a3u (nodes:List Api_TypeNode)(r1:Api_Type)(x2:(List Api_TypeNode)×Int):Option (Fl ((List Api_TypeNode)×Int) (List Api_TypeNode)) :=
 bif decide (x2.2<(r1.Nodes.length:Int))
 then ((idx r1.Nodes x2.2).bind fun e3 =>
 (a52 e3 (nodes.length:Int)).bind fun r4 =>
 (k9 (x2.1.length+([r4]:List Api_TypeNode).length) 104).bind fun _ =>
 some (.next (x2.1++([r4]:List Api_TypeNode),wr .i64 (x2.2+1))))
 else (some (.done x2.1))
def a1Z (n:Nat)(nodes:List Api_TypeNode)(t:Api_Type):Option ((List Api_TypeNode)×Int) :=
 (a9X n t).bind fun r1 =>
 (j7 (a3u nodes r1) ((r1.Nodes.length:Int).toNat+1) (nodes,0)).bind fun b6 =>
 some (b6,wr .i64 (r1.Root+(nodes.length:Int)))
def a2I (l:List Api_Type)(n:Nat)(x1:(List Api_TypeNode)×(List Int)×Int):Option (Fl ((List Api_TypeNode)×(List Int)×Int) ((List Api_TypeNode)×(List Int))) :=
 bif decide (x1.2.2<(l.length:Int))
 then ((idx l x1.2.2).bind fun e2 =>
 (a1Z n x1.1 e2).bind fun r3 =>
 (k9 (x1.2.1.length+([r3.2]:List Int).length) 8).bind fun _ =>
 some (.next (r3.1,x1.2.1++([r3.2]:List Int),wr .i64 (x1.2.2+1))))
 else (some (.done (x1.1,x1.2.1)))
def a6f (n:Nat)(kind:Int)(l:List Api_Type):Option Api_Type :=
 (j7 (a2I l n) ((l.length:Int).toNat+1) (([Api_TypeNode.mk kind 0 0 (⟨#[]⟩:ByteArray) ([]:List Int) ([]:List Api_Field) (0,0)]:List Api_TypeNode),[],0)).bind fun b5 =>
 (idx b5.1 0).bind fun _ =>
 (b5.1[(0:Int).toNat]?).bind fun e7 =>
 some (Api_Type.mk (b5.1.set ((0:Int).toNat) (Api_TypeNode.mk e7.Kind e7.Lo e7.Hi e7.Text b5.2 e7.Fields e7.Rest)) 0)
def a5s (n:Nat)(l:List Api_Type):Option Api_Type :=
 bif (l.length:Int)==0
 then ((a6a).bind fun r1 =>
 some r1)
 else ((a6f n 16 l).bind fun r2 =>
 some r2)
noncomputable def c2Q (r1:List Api_Range)(x2:(List Api_Type)×Int):Option (Fl ((List Api_Type)×Int) (List Api_Type)) :=
 bif decide (x2.2<(r1.length:Int))
 then ((idx r1 x2.2).bind fun e3 =>
 (a4Q (Api_TypeNode.mk 3 e3.Lo e3.Hi (⟨#[]⟩:ByteArray) ([]:List Int) ([]:List Api_Field) (0,0))).bind fun r4 =>
 (k9 (x2.1.length+([r4]:List Api_Type).length) 32).bind fun _ =>
 some (.next (x2.1++([r4]:List Api_Type),wr .i64 (x2.2+1))))
 else (some (.done x2.1))
noncomputable def b8s (n:Nat)(s:List Api_Range):Option Api_Type :=
 (a1W s).bind fun r1 =>
 (j7 (c2Q r1) ((r1.length:Int).toNat+1) ([],0)).bind fun b6 =>
 (a5s n b6).bind fun r7 =>
 some r7
def a1y (name:ByteArray):Option Api_Type :=
 (a2K name).bind fun r1 =>
 bif !r1
 then ((a6a).bind fun r2 =>
 some r2)
 else ((a4Q (Api_TypeNode.mk 19 0 0 name ([]:List Int) ([]:List Api_Field) (0,0))).bind fun r3 =>
 some r3)
def b2A:Option Api_Type :=
 (a4Q (Api_TypeNode.mk 2 0 0 (⟨#[]⟩:ByteArray) ([]:List Int) ([]:List Api_Field) (0,0))).bind fun r1 =>
 some r1
def a9B (s:List ByteArray)(v:ByteArray)(x1:Int):Option (Fl Int (Sum Unit Int)) :=
 bif decide (x1<(s.length:Int))
 then ((idx s x1).bind fun e2 =>
 bif J4 v e2
 then (some (.done (.inr x1)))
 else (some (.next (wr .i64 (x1+1)))))
 else (some (.done (.inl ())))
def a59 (s:List ByteArray)(v:ByteArray):Option Int :=
 (j7 (a9B s v) ((s.length:Int).toNat+1) 0).bind fun b3 =>
 w9 (fun _ =>
 some (-1)) (fun y5 =>
 some y5) b3
def a2v (s:List ByteArray)(v:ByteArray):Option Bool :=
 (a59 s v).bind fun r1 =>
 some (decide (0<=r1))
def b8M (names:List ByteArray)(x1:Int):Option (Fl Int (Sum Unit Int)) :=
 bif decide (x1<(names.length:Int))
 then ((idx names x1).bind fun e2 =>
 (a2K e2).bind fun r3 =>
 bif !r3
 then (some (.done (.inr 1)))
 else (some (.next (wr .i64 (x1+1)))))
 else (some (.done (.inl ())))
def b9f (names:List ByteArray)(x7:Int):Option (Fl Int (Sum Unit Int)) :=
 bif decide (x7<(names.length:Int))
 then ((idx names x7).bind fun e8 =>
 (cut names 0 x7).bind fun y9 =>
 (a2v y9 e8).bind fun r10 =>
 bif r10
 then (some (.done (.inr 6)))
 else (some (.next (wr .i64 (x7+1)))))
 else (some (.done (.inl ())))
def b2G (names:List ByteArray):Option Int :=
 (j7 (b8M names) ((names.length:Int).toNat+1) 0).bind fun b4 =>
 w9 (fun _ =>
 (j7 (b9f names) ((names.length:Int).toNat+1) 0).bind fun b11 =>
 w9 (fun _ =>
 some 0) (fun y13 =>
 some y13) b11) (fun y6 =>
 some y6) b4
def a3X (s:List Api_Constraint)(f:Api_Constraint->Option Bool)(x1:Int):Option (Fl Int (Sum Unit Int)) :=
 bif decide (x1<(s.length:Int))
 then ((idx s x1).bind fun e2 =>
 (f e2).bind fun r3 =>
 bif r3
 then (some (.done (.inr x1)))
 else (some (.next (wr .i64 (x1+1)))))
 else (some (.done (.inl ())))
def a1w (s:List Api_Constraint)(f:Api_Constraint->Option Bool):Option Int :=
 (j7 (a3X s f) ((s.length:Int).toNat+1) 0).bind fun b4 =>
 w9 (fun _ =>
 some (-1)) (fun y6 =>
 some y6) b4
def a08 (s:List Api_Constraint)(f:Api_Constraint->Option Bool):Option Bool :=
 (a1w s f).bind fun r1 =>
 some (decide (0<=r1))
def a48 (s:List Api_Binding)(f:Api_Binding->Option Bool)(x1:Int):Option (Fl Int (Sum Unit Int)) :=
 bif decide (x1<(s.length:Int))
 then ((idx s x1).bind fun e2 =>
 (f e2).bind fun r3 =>
 bif r3
 then (some (.done (.inr x1)))
 else (some (.next (wr .i64 (x1+1)))))
 else (some (.done (.inl ())))
def a18 (s:List Api_Binding)(f:Api_Binding->Option Bool):Option Int :=
 (j7 (a48 s f) ((s.length:Int).toNat+1) 0).bind fun b4 =>
 w9 (fun _ =>
 some (-1)) (fun y6 =>
 some y6) b4
def a8t (b:Api_Binding)(a1_1:ByteArray):Option Bool :=
 some (J4 b.Name a1_1)
def b5E (t:List Api_Binding)(n:Nat)(r1:(List Api_TypeNode)×Int)(x2:(List Api_TypeNode)×(List (ByteArray×Int))×Int):Option (Fl ((List Api_TypeNode)×(List (ByteArray×Int))×Int) ((List Api_TypeNode)×(List (ByteArray×Int)))) :=
 bif decide (x2.2.2<(r1.1.length:Int))
 then ((idx x2.1 x2.2.2).bind fun _ =>
 (x2.1[x2.2.2.toNat]?).bind fun e4 =>
 bif e4.Kind != 19
 then (some (.next (x2.1,x2.2.1,wr .i64 (x2.2.2+1))))
 else ((idx x2.1 x2.2.2).bind fun _ =>
 (x2.1[x2.2.2.toNat]?).bind fun e6 =>
 (a18 t (fun z7 =>
 (a8t z7 e6.Text).bind fun r8 =>
 some r8)).bind fun r9 =>
 bif decide (r9<0)
 then (some (.next (x2.1,x2.2.1,wr .i64 (x2.2.2+1))))
 else ((bif !((a29 x2.2.1 e6.Text).isSome)
 then ((idx t r9).bind fun e10 =>
 (a1Z n x2.1 e10.Type_).bind fun r11 =>
 some (r11.1,a5j x2.2.1 e6.Text r11.2))
 else (some (x2.1,x2.2.1))).bind fun b12 =>
 (idx b12.1 x2.2.2).bind fun _ =>
 (b12.1[x2.2.2.toNat]?).bind fun _ =>
 some (.next (b12.1.set x2.2.2.toNat (Api_TypeNode.mk 16 0 0 (⟨#[]⟩:ByteArray) ([(a29 b12.2 e6.Text).getD (0:Int)]:List Int) ([]:List Api_Field) (0,0)),b12.2,wr .i64 (x2.2.2+1))))))
 else (some (.done (x2.1,x2.2.1)))
def a6v (n:Nat)(d:Api_Type)(t:List Api_Binding):Option Api_Type :=
 (a1Z n ([]) d).bind fun r1 =>
 (j7 (b5E t n r1) ((r1.1.length:Int).toNat+1) (r1.1,([]:List (ByteArray×Int)),0)).bind fun b15 =>
 some (Api_Type.mk b15.1 r1.2)
def b8r (n:Nat)(s:Api_Type)(t:Api_Type):Option (Api_Type×Int) :=
 (a1Z n ([]) s).bind fun r1 =>
 (a1Z n r1.1 t).bind fun r2 =>
 some (Api_Type.mk r2.1 r1.2,r2.2)
def b2N (n:Nat)(s:Api_Type)(t:Api_Type):Option (Api_Type×Api_Goal) :=
 (b8r n s t).bind fun r1 =>
 some (r1.1,Api_Goal.mk ([r1.1.Root]:List Int) ([r1.2]:List Int) false)
def c56 (t:Api_Type)(g:Api_Goal)(r1:List Int)(x3:Int):Option (Fl Int (Sum Unit Bool)) :=
 bif decide (x3<((r1++g.Neg).length:Int))
 then ((idx (r1++g.Neg) x3).bind fun e4 =>
 (bif decide (e4<0)
 then (some true)
 else (some (decide ((t.Nodes.length:Int)<=e4)))).bind fun q5 =>
 bif q5
 then (some (.done (.inr false)))
 else (some (.next (wr .i64 (x3+1)))))
 else (some (.done (.inl ())))
def b5f (t:Api_Type)(g:Api_Goal):Option Bool :=
 (V7 8 g.Pos).bind fun r1 =>
 (k9 (r1.length+g.Neg.length) 8).bind fun _ =>
 (j7 (c56 t g r1) (((r1++g.Neg).length:Int).toNat+1) 0).bind fun b6 =>
 w9 (fun _ =>
 some true) (fun y8 =>
 some y8) b6
def b1Q (x1:(List Int)×Int)(x16:(Int×Int)×List Int):Option (Fl ((Int×Int)×List Int) (Int×List Int)) :=
 bif decide (x16.1.2<((x16.2.drop x1.2.toNat).length:Int))
 then ((idx (x16.2.drop x1.2.toNat) x16.1.2).bind fun _ =>
 (x16.2[(x1.2.toNat+x16.1.2.toNat)]?).bind fun e18 =>
 (idx (x16.2.drop x1.2.toNat) (wr .i64 (x16.1.2-1))).bind fun _ =>
 (x16.2[(x1.2.toNat+(wr .i64 (x16.1.2-1)).toNat)]?).bind fun e20 =>
 bif e18 != e20
 then ((idx (x16.2.drop x1.2.toNat) x16.1.2).bind fun _ =>
 (x16.2[(x1.2.toNat+x16.1.2.toNat)]?).bind fun e22 =>
 (idx x16.2 x16.1.1).bind fun _ =>
 (x16.2[x16.1.1.toNat]?).bind fun _ =>
 some (.next ((wr .i64 (x16.1.1+1),wr .i64 (x16.1.2+1)),x16.2.set x16.1.1.toNat e22)))
 else (some (.next ((x16.1.1,wr .i64 (x16.1.2+1)),x16.2))))
 else (some (.done (x16.1.1,x16.2)))
def b1N (x1:(List Int)×Int):Option (Fl ((List Int)×Int) (Sum (List Int) (List Int))) :=
 bif decide (x1.2<(x1.1.length:Int))
 then ((idx x1.1 x1.2).bind fun _ =>
 (x1.1[x1.2.toNat]?).bind fun e3 =>
 (idx x1.1 (wr .i64 (x1.2-1))).bind fun _ =>
 (x1.1[(wr .i64 (x1.2-1)).toNat]?).bind fun e5 =>
 bif e3==e5
 then ((idx x1.1 x1.2).bind fun _ =>
 (j7 (b1Q x1) (((x1.1.drop x1.2.toNat).length:Int).toNat+1) ((x1.2,1),x1.1)).bind fun b25 =>
 (idx b25.2 b25.1).bind fun _ =>
 bif d8V b25.1.toNat b25.2.length
 then ((cut (b25.2.take b25.1.toNat++d8D (b25.2.length-b25.1.toNat) (0:Int)) 0 b25.1).bind fun y27 =>
 some (.done (.inr y27)))
 else (none))
 else (some (.next (x1.1,wr .i64 (x1.2+1)))))
 else (some (.done (.inl x1.1)))
def a7N (s:List Int):Option (List Int) :=
 bif decide ((s.length:Int)<2)
 then (some s)
 else ((j7 b1N ((s.length:Int).toNat+1) (s,1)).bind fun b28 =>
 w9 (fun x29 =>
 some x29) (fun y30 =>
 some y30) b28)
def a9H (s:List Int):Option (List Int) :=
 bif (s.length:Int)==(s.length:Int)&&(s.length:Int)==(s.length:Int)
 then (some s)
 else (none)
def a7M (l:List Int):Option (List Int) :=
 (V7 8 l).bind fun r1 =>
 (d0t r1).bind fun r2 =>
 (a7N r2.2).bind fun r3 =>
 (a9H r3).bind fun r4 =>
 some r4
def a3S (g:Api_Goal):Option Api_Goal :=
 (a7M g.Pos).bind fun r1 =>
 (a7M g.Neg).bind fun r2 =>
 some (Api_Goal.mk r1 r2 g.Lists)
def b2i (g:Api_Goal):Option ByteArray:=(a3S g).bind fun g=>(b3z 43 g.Pos (bif g.Lists then [108] else [])).bind fun b=>(b3z 45 g.Neg b).bind fun b=>some ⟨b.toArray⟩
def a9o (p:Core_pair):Option ((List Int)×(List Int)×(List Int)×(List Int)) :=
 (V7 8 p.pos).bind fun r1 =>
 (V7 8 p.neg).bind fun r2 =>
 (V7 8 p.finalPos).bind fun r3 =>
 (V7 8 p.finalNeg).bind fun r4 =>
 some (r1,r2,r3,r4)
def b75 (p:Core_pair)(kids:List Int)(positive:Bool)(x1:(List Core_pair)×Int):Option (Fl ((List Core_pair)×Int) (List Core_pair)) :=
 bif decide (x1.2<(kids.length:Int))
 then ((idx kids x1.2).bind fun e2 =>
 (a9o p).bind fun r3 =>
 (bif positive
 then ((k9 (r3.1.length+([e2]:List Int).length) 8).bind fun _ =>
 some (r3.1++([e2]:List Int),r3.2.1,r3.2.2.1,r3.2.2.2))
 else ((k9 (r3.2.1.length+([e2]:List Int).length) 8).bind fun _ =>
 some (r3.1,r3.2.1++([e2]:List Int),r3.2.2.1,r3.2.2.2))).bind fun b6 =>
 (k9 (x1.1.length+([Core_pair.mk b6.1 b6.2.1 b6.2.2.1 b6.2.2.2]:List Core_pair).length) 96).bind fun _ =>
 some (.next (x1.1++([Core_pair.mk b6.1 b6.2.1 b6.2.2.1 b6.2.2.2]:List Core_pair),wr .i64 (x1.2+1))))
 else (some (.done x1.1))
def a7G (p:Core_pair)(kids:List Int)(positive:Bool):Option (List Core_pair) :=
 (j7 (b75 p kids positive) ((kids.length:Int).toNat+1) ([],0)).bind fun b8 =>
 some b8
def b1w (d:(List Int)×(List Int)×(List Int)×(List Int))(t:Api_Type):Option (List Core_pair) :=
 bif decide (0<=(wr .i64 ((d.1.length:Int)-1)))
 then ((idx d.1 (wr .i64 ((d.1.length:Int)-1))).bind fun _ =>
 (d.1[(wr .i64 ((d.1.length:Int)-1)).toNat]?).bind fun e2 =>
 (idx t.Nodes e2).bind fun e3 =>
 (cut d.1 0 (wr .i64 ((d.1.length:Int)-1))).bind fun y4 =>
 (bif e3.Kind==2
 then (some (.inl (y4,d.2.1,d.2.2.1,d.2.2.2)))
 else (bif e3.Kind==1
 then (some (.inr ([],(y4,d.2.1,d.2.2.1,d.2.2.2))))
 else (bif e3.Kind==17
 then ((k9 (y4.length+e3.Kids.length) 8).bind fun _ =>
 some (.inl (y4++e3.Kids,d.2.1,d.2.2.1,d.2.2.2)))
 else (bif e3.Kind==18
 then ((idx e3.Kids 0).bind fun e6 =>
 (k9 (d.2.1.length+([e6]:List Int).length) 8).bind fun _ =>
 some (.inl (y4,d.2.1++([e6]:List Int),d.2.2.1,d.2.2.2)))
 else (bif e3.Kind==16
 then ((a7G (Core_pair.mk y4 d.2.1 d.2.2.1 d.2.2.2) e3.Kids true).bind fun r8 =>
 some (.inr (r8,(y4,d.2.1,d.2.2.1,d.2.2.2))))
 else ((k9 (d.2.2.1.length+([e2]:List Int).length) 8).bind fun _ =>
 some (.inl (y4,d.2.1,d.2.2.1++([e2]:List Int),d.2.2.2)))))))).bind fun b10 =>
 w9 (fun x11 =>
 some ([Core_pair.mk x11.1 x11.2.1 x11.2.2.1 x11.2.2.2]:List Core_pair)) (fun y12 =>
 some y12.1) b10)
 else ((idx d.2.1 (wr .i64 ((d.2.1.length:Int)-1))).bind fun _ =>
 (d.2.1[(wr .i64 ((d.2.1.length:Int)-1)).toNat]?).bind fun e14 =>
 (idx t.Nodes e14).bind fun e15 =>
 (cut d.2.1 0 (wr .i64 ((d.2.1.length:Int)-1))).bind fun y16 =>
 (bif e15.Kind==1
 then (some (.inl (d.1,y16,d.2.2.1,d.2.2.2)))
 else (bif e15.Kind==2
 then (some (.inr ([],(d.1,y16,d.2.2.1,d.2.2.2))))
 else (bif e15.Kind==16
 then ((k9 (y16.length+e15.Kids.length) 8).bind fun _ =>
 some (.inl (d.1,y16++e15.Kids,d.2.2.1,d.2.2.2)))
 else (bif e15.Kind==18
 then ((idx e15.Kids 0).bind fun e18 =>
 (k9 (d.1.length+([e18]:List Int).length) 8).bind fun _ =>
 some (.inl (d.1++([e18]:List Int),y16,d.2.2.1,d.2.2.2)))
 else (bif e15.Kind==17
 then ((a7G (Core_pair.mk d.1 y16 d.2.2.1 d.2.2.2) e15.Kids false).bind fun r20 =>
 some (.inr (r20,(d.1,y16,d.2.2.1,d.2.2.2))))
 else ((k9 (d.2.2.2.length+([e14]:List Int).length) 8).bind fun _ =>
 some (.inl (d.1,y16,d.2.2.1,d.2.2.2++([e14]:List Int))))))))).bind fun b22 =>
 w9 (fun x23 =>
 some ([Core_pair.mk x23.1 x23.2.1 x23.2.2.1 x23.2.2.2]:List Core_pair)) (fun y24 =>
 some y24.1) b22)
def b9j (d:Api_Type)(t:Api_Goal)(x3:(List Core_pair)×(List (ByteArray×Bool))×(List Api_Goal)):Option (Fl ((List Core_pair)×(List (ByteArray×Bool))×(List Api_Goal)) ((List (ByteArray×Bool))×(List Api_Goal))) :=
 bif decide (0<(x3.1.length:Int))
 then ((idx x3.1 (wr .i64 ((x3.1.length:Int)-1))).bind fun _ =>
 (x3.1[(wr .i64 ((x3.1.length:Int)-1)).toNat]?).bind fun e5 =>
 (a9o e5).bind fun r6 =>
 (cut x3.1 0 (wr .i64 ((x3.1.length:Int)-1))).bind fun y7 =>
 bif decide (0<(wr .i64 ((r6.1.length:Int)+(r6.2.1.length:Int))))
 then ((b1w (r6.1,r6.2.1,r6.2.2.1,r6.2.2.2) d).bind fun r8 =>
 (k9 (y7.length+r8.length) 96).bind fun _ =>
 some (.next (y7++r8,x3.2.1,x3.2.2)))
 else ((a3S (Api_Goal.mk r6.2.2.1 r6.2.2.2 t.Lists)).bind fun r10 =>
 (b2i r10).bind fun r11 =>
 bif !((a29 x3.2.1 r11).getD false)
 then ((k9 (x3.2.2.length+([r10]:List Api_Goal).length) 56).bind fun _ =>
 some (.next (y7,a5j x3.2.1 r11 true,x3.2.2++([r10]:List Api_Goal))))
 else (some (.next (y7,x3.2.1,x3.2.2)))))
 else (some (.done (x3.2.1,x3.2.2)))
def b4E (n:Nat)(d:Api_Type)(t:Api_Goal):Option (List Api_Goal) :=
 (a7M t.Pos).bind fun r1 =>
 (a7M t.Neg).bind fun r2 =>
 (j7 (b9j d t) n (([Core_pair.mk r1 r2 ([]:List Int) ([]:List Int)]:List Core_pair),([]:List (ByteArray×Bool)),[])).bind fun b13 =>
 some b13.2
def a8F (x1:(List ByteArray)×Int)(x16:(Int×Int)×List ByteArray):Option (Fl ((Int×Int)×List ByteArray) (Int×List ByteArray)) :=
 bif decide (x16.1.2<((x16.2.drop x1.2.toNat).length:Int))
 then ((idx (x16.2.drop x1.2.toNat) x16.1.2).bind fun _ =>
 (x16.2[(x1.2.toNat+x16.1.2.toNat)]?).bind fun e18 =>
 (idx (x16.2.drop x1.2.toNat) (wr .i64 (x16.1.2-1))).bind fun _ =>
 (x16.2[(x1.2.toNat+(wr .i64 (x16.1.2-1)).toNat)]?).bind fun e20 =>
 bif !(J4 e18 e20)
 then ((idx (x16.2.drop x1.2.toNat) x16.1.2).bind fun _ =>
 (x16.2[(x1.2.toNat+x16.1.2.toNat)]?).bind fun e22 =>
 (idx x16.2 x16.1.1).bind fun _ =>
 (x16.2[x16.1.1.toNat]?).bind fun _ =>
 some (.next ((wr .i64 (x16.1.1+1),wr .i64 (x16.1.2+1)),x16.2.set x16.1.1.toNat e22)))
 else (some (.next ((x16.1.1,wr .i64 (x16.1.2+1)),x16.2))))
 else (some (.done (x16.1.1,x16.2)))
def a8G (x1:(List ByteArray)×Int):Option (Fl ((List ByteArray)×Int) (Sum (List ByteArray) (List ByteArray))) :=
 bif decide (x1.2<(x1.1.length:Int))
 then ((idx x1.1 x1.2).bind fun _ =>
 (x1.1[x1.2.toNat]?).bind fun e3 =>
 (idx x1.1 (wr .i64 (x1.2-1))).bind fun _ =>
 (x1.1[(wr .i64 (x1.2-1)).toNat]?).bind fun e5 =>
 bif J4 e3 e5
 then ((idx x1.1 x1.2).bind fun _ =>
 (j7 (a8F x1) (((x1.1.drop x1.2.toNat).length:Int).toNat+1) ((x1.2,1),x1.1)).bind fun b25 =>
 (idx b25.2 b25.1).bind fun _ =>
 bif d8V b25.1.toNat b25.2.length
 then ((cut (b25.2.take b25.1.toNat++d8D (b25.2.length-b25.1.toNat) ((⟨#[]⟩:ByteArray):ByteArray)) 0 b25.1).bind fun y27 =>
 some (.done (.inr y27)))
 else (none))
 else (some (.next (x1.1,wr .i64 (x1.2+1)))))
 else (some (.done (.inl x1.1)))
def a2H (s:List ByteArray):Option (List ByteArray) :=
 bif decide ((s.length:Int)<2)
 then (some s)
 else ((j7 a8G ((s.length:Int).toNat+1) (s,1)).bind fun b28 =>
 w9 (fun x29 =>
 some x29) (fun y30 =>
 some y30) b28)
def a3P (s:List ByteArray):Option (List ByteArray) :=
 bif (s.length:Int)==(s.length:Int)&&(s.length:Int)==(s.length:Int)
 then (some s)
 else (none)
def c68 (t:Api_Type)(nodes:List Int)(x1:(List ByteArray)×Int):Option (Fl ((List ByteArray)×Int) (List ByteArray)) :=
 bif decide (x1.2<(nodes.length:Int))
 then ((idx nodes x1.2).bind fun e2 =>
 (idx t.Nodes e2).bind fun e3 =>
 bif e3.Kind==19
 then ((idx t.Nodes e2).bind fun e4 =>
 (k9 (x1.1.length+([e4.Text]:List ByteArray).length) 16).bind fun _ =>
 some (.next (x1.1++([e4.Text]:List ByteArray),wr .i64 (x1.2+1))))
 else (some (.next (x1.1,wr .i64 (x1.2+1)))))
 else (some (.done x1.1))
def b7q (t:Api_Type)(nodes:List Int):Option (List ByteArray) :=
 (j7 (c68 t nodes) ((nodes.length:Int).toNat+1) ([],0)).bind fun b6 =>
 (c5G b6).bind fun r7 =>
 (a2H r7.2).bind fun r8 =>
 (a3P r8).bind fun r9 =>
 some r9
def b0R (s:List Int)(f:Int->Option Bool)(x1:Int):Option (Fl Int (Sum Unit Int)) :=
 bif decide (x1<(s.length:Int))
 then ((idx s x1).bind fun e2 =>
 (f e2).bind fun r3 =>
 bif r3
 then (some (.done (.inr x1)))
 else (some (.next (wr .i64 (x1+1)))))
 else (some (.done (.inl ())))
def a6P (s:List Int)(f:Int->Option Bool):Option Int :=
 (j7 (b0R s f) ((s.length:Int).toNat+1) 0).bind fun b4 =>
 w9 (fun _ =>
 some (-1)) (fun y6 =>
 some y6) b4
def a0F (s:List Int)(f:Int->Option Bool):Option Bool :=
 (a6P s f).bind fun r1 =>
 some (decide (0<=r1))
def b3P (s:List Int)(v:Int)(x1:Int):Option (Fl Int (Sum Unit Int)) :=
 bif decide (x1<(s.length:Int))
 then ((idx s x1).bind fun e2 =>
 bif v==e2
 then (some (.done (.inr x1)))
 else (some (.next (wr .i64 (x1+1)))))
 else (some (.done (.inl ())))
def a9v (s:List Int)(v:Int):Option Int :=
 (j7 (b3P s v) ((s.length:Int).toNat+1) 0).bind fun b3 =>
 w9 (fun _ =>
 some (-1)) (fun y5 =>
 some y5) b3
def a2C (s:List Int)(v:Int):Option Bool :=
 (a9v s v).bind fun r1 =>
 some (decide (0<=r1))
def b4A (x:Int)(a1_1:List Int):Option Bool :=
 (a2C a1_1 x).bind fun r1 =>
 some r1
def a8a (a:List Int)(b:List Int):Option Bool :=
 (a0F a (fun z1 =>
 (b4A z1 b).bind fun r2 =>
 some r2)).bind fun r3 =>
 some r3
def a7V (s:List ByteArray)(f:ByteArray->Option Bool)(x1:Int):Option (Fl Int (Sum Unit Int)) :=
 bif decide (x1<(s.length:Int))
 then ((idx s x1).bind fun e2 =>
 (f e2).bind fun r3 =>
 bif r3
 then (some (.done (.inr x1)))
 else (some (.next (wr .i64 (x1+1)))))
 else (some (.done (.inl ())))
def a4I (s:List ByteArray)(f:ByteArray->Option Bool):Option Int :=
 (j7 (a7V s f) ((s.length:Int).toNat+1) 0).bind fun b4 =>
 w9 (fun _ =>
 some (-1)) (fun y6 =>
 some y6) b4
def a3R (s:List ByteArray)(f:ByteArray->Option Bool):Option Bool :=
 (a4I s f).bind fun r1 =>
 some (decide (0<=r1))
def b01 (x:ByteArray)(a1_1:List ByteArray):Option Bool :=
 (a2v a1_1 x).bind fun r1 =>
 some r1
def b2y (a:List ByteArray)(b:List ByteArray):Option Bool :=
 (a3R a (fun z1 =>
 (b01 z1 b).bind fun r2 =>
 some r2)).bind fun r3 =>
 some r3
def c6E (x1:(List Core_Sort)×Int):Option (Fl ((List Core_Sort)×Int) (List Core_Sort)) :=
 bif decide (x1.2<=4)
 then ((k9 (x1.1.length+([Core_Sort.mk 6 x1.2,Core_Sort.mk 9 x1.2]:List Core_Sort).length) 16).bind fun _ =>
 some (.next (x1.1++([Core_Sort.mk 6 x1.2,Core_Sort.mk 9 x1.2]:List Core_Sort),wr .i64 (x1.2+1))))
 else (some (.done x1.1))
def c3Y:Option (List Core_Sort) :=
 (j7 c6E ((4:Int).toNat+2) (([Core_Sort.mk 1 0,Core_Sort.mk 2 0,Core_Sort.mk 3 0,Core_Sort.mk 4 0,Core_Sort.mk 5 0,Core_Sort.mk 7 0,Core_Sort.mk 8 0]:List Core_Sort),0)).bind fun b3 =>
 some b3
def b0k (d:Core_Sort)(t:Api_TypeNode):Option Bool :=
 bif t.Kind==3
 then (some (d.Kind==1))
 else ((bif t.Kind==4
 then (some (t.Kind==4))
 else (some (t.Kind==5))).bind fun b1 =>
 bif b1
 then (some (d.Kind==2))
 else ((bif t.Kind==6
 then (some (t.Kind==6))
 else (some (t.Kind==7))).bind fun b2 =>
 bif b2
 then (some (d.Kind==3))
 else (bif t.Kind==8
 then (some (d.Kind==4))
 else (bif t.Kind==9
 then (some (d.Kind==5))
 else (bif t.Kind==12
 then (some (d.Kind==7))
 else (bif t.Kind==13
 then (some (d.Kind==8))
 else (bif t.Kind==11
 then (some (d.Kind==6))
 else (bif t.Kind==10
 then ((bif d.Kind==6
 then (some (d.Arity==(t.Kids.length:Int)))
 else (some false)).bind fun q3 =>
 some q3)
 else (bif t.Kind==15
 then (some (d.Kind==9))
 else (bif t.Kind==14
 then ((bif d.Kind==9
 then (some (d.Arity==(wr .i64 ((t.Kids.length:Int)-1))))
 else (some false)).bind fun q4 =>
 some q4)
 else (some false)))))))))))
def b3v (i:Int)(a1_1:Api_Type)(a2_2:Core_Sort):Option Bool :=
 (idx a1_1.Nodes i).bind fun e1 =>
 (bif e1.Kind != 19
 then ((idx a1_1.Nodes i).bind fun e2 =>
 (b0k a2_2 e2).bind fun r3 =>
 some (!r3))
 else (some false)).bind fun q4 =>
 some q4
def b58 (s:Core_Sort)(t:Api_Type)(e:Api_Goal):Option Bool :=
 (bif e.Lists
 then (some (s.Kind != 5))
 else (some false)).bind fun q1 =>
 (bif q1
 then (some (s.Kind != 7))
 else (some false)).bind fun q2 =>
 bif q2
 then (some false)
 else ((a0F e.Pos (fun z3 =>
 (b3v z3 t s).bind fun r4 =>
 some r4)).bind fun r5 =>
 some (!r5))
def b8A:Option (List Api_Range) :=
 some ([Api_Range.mk (-9223372036854775808) 9223372036854775807]:List Api_Range)
noncomputable def b5Z (e3:Api_Range)(r4:List Api_Range)(x5:(List Api_Range)×Int):Option (Fl ((List Api_Range)×Int) (List Api_Range)) :=
 bif decide (x5.2<(r4.length:Int))
 then ((idx r4 x5.2).bind fun e6 =>
 (k9 (x5.1.length+([Api_Range.mk (max e3.Lo e6.Lo) (min e3.Hi e6.Hi)]:List Api_Range).length) 16).bind fun _ =>
 some (.next (x5.1++([Api_Range.mk (max e3.Lo e6.Lo) (min e3.Hi e6.Hi)]:List Api_Range),wr .i64 (x5.2+1))))
 else (some (.done x5.1))
noncomputable def b6u (b:List Api_Range)(r1:List Api_Range)(x2:(List Api_Range)×Int):Option (Fl ((List Api_Range)×Int) (List Api_Range)) :=
 bif decide (x2.2<(r1.length:Int))
 then ((idx r1 x2.2).bind fun e3 =>
 (a1W b).bind fun r4 =>
 (j7 (b5Z e3 r4) ((r4.length:Int).toNat+1) (x2.1,0)).bind fun b8 =>
 some (.next (b8,wr .i64 (x2.2+1))))
 else (some (.done x2.1))
noncomputable def a61 (a:List Api_Range)(b:List Api_Range):Option (List Api_Range) :=
 (a1W a).bind fun r1 =>
 (j7 (b6u b r1) ((r1.length:Int).toNat+1) ([],0)).bind fun b9 =>
 (a1W b9).bind fun r10 =>
 some r10
noncomputable def b4P (r1:List Api_Range)(x2:(List Api_Range)×Int×Int):Option (Fl ((List Api_Range)×Int×Int) (Sum ((List Api_Range)×Int) (List Api_Range))) :=
 bif decide (x2.2.2<(r1.length:Int))
 then ((idx r1 x2.2.2).bind fun e3 =>
 (bif decide (x2.2.1<e3.Lo)
 then ((k9 (x2.1.length+([Api_Range.mk x2.2.1 (wr .i64 (e3.Lo-1))]:List Api_Range).length) 16).bind fun _ =>
 some (x2.1++([Api_Range.mk x2.2.1 (wr .i64 (e3.Lo-1))]:List Api_Range)))
 else (some x2.1)).bind fun b5 =>
 bif e3.Hi==9223372036854775807
 then (some (.done (.inr b5)))
 else (some (.next (b5,wr .i64 (e3.Hi+1),wr .i64 (x2.2.2+1)))))
 else (some (.done (.inl (x2.1,x2.2.1))))
noncomputable def a9G (a:List Api_Range):Option (List Api_Range) :=
 (a1W a).bind fun r1 =>
 (j7 (b4P r1) ((r1.length:Int).toNat+1) ([],(-9223372036854775808),0)).bind fun b6 =>
 w9 (fun x7 =>
 (k9 (x7.1.length+([Api_Range.mk x7.2 9223372036854775807]:List Api_Range).length) 16).bind fun _ =>
 some (x7.1++([Api_Range.mk x7.2 9223372036854775807]:List Api_Range))) (fun y8 =>
 some y8) b6
noncomputable def c6P (t:Api_Type)(e:Api_Goal)(x2:(List Api_Range)×Int):Option (Fl ((List Api_Range)×Int) (List Api_Range)) :=
 bif decide (x2.2<(e.Pos.length:Int))
 then ((idx e.Pos x2.2).bind fun e3 =>
 (idx t.Nodes e3).bind fun e4 =>
 bif e4.Kind==3
 then ((a61 x2.1 ([Api_Range.mk e4.Lo e4.Hi]:List Api_Range)).bind fun r5 =>
 some (.next (r5,wr .i64 (x2.2+1))))
 else (some (.next (x2.1,wr .i64 (x2.2+1)))))
 else (some (.done x2.1))
noncomputable def c62 (t:Api_Type)(e:Api_Goal)(x7:(List Api_Range)×Int):Option (Fl ((List Api_Range)×Int) (List Api_Range)) :=
 bif decide (x7.2<(e.Neg.length:Int))
 then ((idx e.Neg x7.2).bind fun e8 =>
 (idx t.Nodes e8).bind fun e9 =>
 bif e9.Kind==3
 then ((a9G ([Api_Range.mk e9.Lo e9.Hi]:List Api_Range)).bind fun r10 =>
 (a61 x7.1 r10).bind fun r11 =>
 some (.next (r11,wr .i64 (x7.2+1))))
 else (some (.next (x7.1,wr .i64 (x7.2+1)))))
 else (some (.done x7.1))
noncomputable def c4d (t:Api_Type)(e:Api_Goal):Option (List Api_Range) :=
 (b8A).bind fun r1 =>
 (j7 (c6P t e) ((e.Pos.length:Int).toNat+1) (r1,0)).bind fun b6 =>
 (j7 (c62 t e) ((e.Neg.length:Int).toNat+1) (b6,0)).bind fun b12 =>
 some b12
def a24 (s:Api_Names):Option Literals_normal :=
 (V7 16 s.List_).bind fun r1 =>
 (c5G r1).bind fun r2 =>
 (a2H r2.2).bind fun r3 =>
 (a3P r3).bind fun r4 =>
 some (Literals_normal.mk (Api_Names.mk s.Cofinite r4))
def a49 (l:List ByteArray):Option Api_Names :=
 (a24 (Api_Names.mk true l)).bind fun r1 =>
 some r1.Names
def a4D (l:List ByteArray):Option Api_Names :=
 (a24 (Api_Names.mk false l)).bind fun r1 =>
 some r1.Names
def a8P (n_0:Literals_normal)(other:Literals_normal):Option (List ByteArray) :=
 (V7 16 n_0.Names.List_).bind fun r1 =>
 (k9 (r1.length+other.Names.List_.length) 16).bind fun _ =>
 some (r1++other.Names.List_)
def a8c (x:ByteArray):Option Bool :=
 some (!(J4 x x))
def b4z (x:ByteArray)(y:ByteArray):Option Bool :=
 (a8c x).bind fun r1 =>
 (bif r1
 then ((a8c y).bind fun r2 =>
 some (!r2))
 else (some false)).bind fun q3 =>
 (bif q3
 then (some true)
 else (some (a2d x y))).bind fun q4 =>
 some q4
def a6x (x:ByteArray):Option Bool :=
 some (!(J4 x x))
def a7d (x:List ByteArray)(target:ByteArray)(x1:Int×Int):Option (Fl (Int×Int) Int) :=
 bif decide (x1.1<x1.2)
 then ((c79 .u64 (wr .u64 (wr .i64 (x1.1+x1.2))) 1).bind fun d2 =>
 (idx x (wr .i64 d2)).bind fun e3 =>
 (b4z e3 target).bind fun r4 =>
 bif r4
 then (some (.next (wr .i64 ((wr .i64 d2)+1),x1.2)))
 else (some (.next (x1.1,wr .i64 d2))))
 else (some (.done x1.1))
def a3T (n:Nat)(x:List ByteArray)(target:ByteArray):Option (Int×Bool) :=
 (j7 (a7d x target) n (0,(x.length:Int))).bind fun b5 =>
 (bif decide (b5<(x.length:Int))
 then ((idx x b5).bind fun e6 =>
 (bif J4 e6 target
 then (some true)
 else ((idx x b5).bind fun e7 =>
 (a6x e7).bind fun r8 =>
 (bif r8
 then ((a6x target).bind fun r9 =>
 some r9)
 else (some false)).bind fun q10 =>
 some q10)).bind fun q11 =>
 some q11)
 else (some false)).bind fun q12 =>
 some (b5,q12)
def a6C (n:Nat)(n_0:Literals_normal)(name:ByteArray):Option Bool :=
 (a3T n n_0.Names.List_ name).bind fun r1 =>
 some r1.2
def b2S (n_0:Literals_normal)(other:Literals_normal)(n:Nat)(x1:(List ByteArray)×Int):Option (Fl ((List ByteArray)×Int) (List ByteArray)) :=
 bif decide (x1.2<(n_0.Names.List_.length:Int))
 then ((idx n_0.Names.List_ x1.2).bind fun e2 =>
 (a6C n other e2).bind fun r3 =>
 bif !r3
 then ((k9 (x1.1.length+([e2]:List ByteArray).length) 16).bind fun _ =>
 some (.next (x1.1++([e2]:List ByteArray),wr .i64 (x1.2+1))))
 else (some (.next (x1.1,wr .i64 (x1.2+1)))))
 else (some (.done x1.1))
def a5a (n:Nat)(n_0:Literals_normal)(other:Literals_normal):Option (List ByteArray) :=
 (j7 (b2S n_0 other n) ((n_0.Names.List_.length:Int).toNat+1) ([],0)).bind fun b5 =>
 some b5
def b6b (r1:Literals_normal)(r2:Literals_normal)(n:Nat)(x10:(List ByteArray)×Int):Option (Fl ((List ByteArray)×Int) (List ByteArray)) :=
 bif decide (x10.2<(r1.Names.List_.length:Int))
 then ((idx r1.Names.List_ x10.2).bind fun e11 =>
 (a6C n r2 e11).bind fun r12 =>
 bif r12
 then ((k9 (x10.1.length+([e11]:List ByteArray).length) 16).bind fun _ =>
 some (.next (x10.1++([e11]:List ByteArray),wr .i64 (x10.2+1))))
 else (some (.next (x10.1,wr .i64 (x10.2+1)))))
 else (some (.done x10.1))
def a63 (n:Nat)(a:Api_Names)(b:Api_Names):Option Api_Names :=
 (a24 a).bind fun r1 =>
 (a24 b).bind fun r2 =>
 (bif r1.Names.Cofinite
 then (some r2.Names.Cofinite)
 else (some false)).bind fun q3 =>
 bif q3
 then ((a8P r1 r2).bind fun r4 =>
 (a49 r4).bind fun r5 =>
 some r5)
 else (bif r1.Names.Cofinite
 then ((a5a n r2 r1).bind fun r6 =>
 (a4D r6).bind fun r7 =>
 some r7)
 else (bif r2.Names.Cofinite
 then ((a5a n r1 r2).bind fun r8 =>
 (a4D r8).bind fun r9 =>
 some r9)
 else ((j7 (b6b r1 r2 n) ((r1.Names.List_.length:Int).toNat+1) ([],0)).bind fun b14 =>
 (a4D b14).bind fun r15 =>
 some r15)))
def c50 (t:Api_Type)(e:Api_Goal)(kind:Int)(n:Nat)(x2:Int×Api_Names):Option (Fl (Int×Api_Names) Api_Names) :=
 bif decide (x2.1<(e.Pos.length:Int))
 then ((idx e.Pos x2.1).bind fun e3 =>
 (idx t.Nodes e3).bind fun e4 =>
 bif e4.Kind==kind
 then ((a4D ([e4.Text]:List ByteArray)).bind fun r5 =>
 (a63 n x2.2 r5).bind fun r6 =>
 some (.next (wr .i64 (x2.1+1),r6)))
 else (some (.next (wr .i64 (x2.1+1),x2.2))))
 else (some (.done x2.2))
def c5k (t:Api_Type)(e:Api_Goal)(kind:Int)(n:Nat)(x8:Int×Api_Names):Option (Fl (Int×Api_Names) Api_Names) :=
 bif decide (x8.1<(e.Neg.length:Int))
 then ((idx e.Neg x8.1).bind fun e9 =>
 (idx t.Nodes e9).bind fun e10 =>
 bif e10.Kind==kind
 then ((a49 ([e10.Text]:List ByteArray)).bind fun r11 =>
 (a63 n x8.2 r11).bind fun r12 =>
 some (.next (wr .i64 (x8.1+1),r12)))
 else (some (.next (wr .i64 (x8.1+1),x8.2))))
 else (some (.done x8.2))
def b5x (n:Nat)(t:Api_Type)(e:Api_Goal)(kind:Int):Option Api_Names :=
 (a49 ([]:List ByteArray)).bind fun r1 =>
 (j7 (c50 t e kind n) ((e.Pos.length:Int).toNat+1) (0,r1)).bind fun b7 =>
 (j7 (c5k t e kind n) ((e.Neg.length:Int).toNat+1) (0,b7)).bind fun b13 =>
 some b13
def c12 (i:Int)(a1_1:Api_Type)(a2_2:Int):Option Bool :=
 (idx a1_1.Nodes i).bind fun e1 =>
 some (e1.Kind==a2_2)
def a8A (t:Api_Type)(nodes:List Int)(kind:Int):Option Bool :=
 (a0F nodes (fun z1 =>
 (c12 z1 t kind).bind fun r2 =>
 some r2)).bind fun r3 =>
 some r3
def c36 (s:Core_Sort)(t:Api_Type)(nodes:List Int)(kind:Int)(x1:(List Int)×Int):Option (Fl ((List Int)×Int) (List Int)) :=
 bif decide (x1.2<(nodes.length:Int))
 then ((idx nodes x1.2).bind fun e2 =>
 (idx t.Nodes e2).bind fun e3 =>
 (bif e3.Kind==kind
 then ((idx t.Nodes e2).bind fun e4 =>
 (b0k s e4).bind fun r5 =>
 some r5)
 else (some false)).bind fun q6 =>
 bif q6
 then ((k9 (x1.1.length+([e2]:List Int).length) 8).bind fun _ =>
 some (.next (x1.1++([e2]:List Int),wr .i64 (x1.2+1))))
 else (some (.next (x1.1,wr .i64 (x1.2+1)))))
 else (some (.done x1.1))
def b3D (s:Core_Sort)(t:Api_Type)(nodes:List Int)(kind:Int):Option (List Int) :=
 (j7 (c36 s t nodes kind) ((nodes.length:Int).toNat+1) ([],0)).bind fun b8 =>
 some b8
noncomputable def c4i (n:Nat)(d:Api_Type)(t:Api_Goal)(a2_2:Core_Sort):Option (Api_Line×Bool) :=
 (b58 a2_2 d t).bind fun r1 =>
 bif !r1
 then (some (Api_Line.mk a2_2.Kind a2_2.Arity ([]:List Api_Range) (Api_Names.mk false ([]:List ByteArray)) ([]:List Int) ([]:List Int) ([]:List ByteArray) ([]:List ByteArray),false))
 else ((bif a2_2.Kind==1
 then ((c4d d t).bind fun r2 =>
 some (.inr (decide (0<(r2.length:Int)),(a2_2.Kind,a2_2.Arity,r2,false,([]:List ByteArray),([]:List Int),([]:List Int),([]:List ByteArray),([]:List ByteArray)),(a2_2.Kind,a2_2.Arity,r2,false,([]:List ByteArray),([]:List Int),([]:List Int),([]:List ByteArray),([]:List ByteArray)))))
 else (bif a2_2.Kind==2
 then ((b5x n d t 4).bind fun r3 =>
 (a8A d t.Neg 5).bind fun r4 =>
 bif !r4
 then (bif r3.Cofinite
 then (some (.inr (true,(a2_2.Kind,a2_2.Arity,([]:List Api_Range),r3.Cofinite,r3.List_,([]:List Int),([]:List Int),([]:List ByteArray),([]:List ByteArray)),(a2_2.Kind,a2_2.Arity,([]:List Api_Range),r3.Cofinite,r3.List_,([]:List Int),([]:List Int),([]:List ByteArray),([]:List ByteArray)))))
 else (some (.inr (decide (0<(r3.List_.length:Int)),(a2_2.Kind,a2_2.Arity,([]:List Api_Range),r3.Cofinite,r3.List_,([]:List Int),([]:List Int),([]:List ByteArray),([]:List ByteArray)),(a2_2.Kind,a2_2.Arity,([]:List Api_Range),r3.Cofinite,r3.List_,([]:List Int),([]:List Int),([]:List ByteArray),([]:List ByteArray))))))
 else (some (.inr (false,(a2_2.Kind,a2_2.Arity,([]:List Api_Range),r3.Cofinite,r3.List_,([]:List Int),([]:List Int),([]:List ByteArray),([]:List ByteArray)),(a2_2.Kind,a2_2.Arity,([]:List Api_Range),r3.Cofinite,r3.List_,([]:List Int),([]:List Int),([]:List ByteArray),([]:List ByteArray))))))
 else (bif a2_2.Kind==3
 then ((b5x n d t 6).bind fun r5 =>
 (a8A d t.Neg 7).bind fun r6 =>
 bif !r6
 then (bif r5.Cofinite
 then (some (.inr (true,(a2_2.Kind,a2_2.Arity,([]:List Api_Range),r5.Cofinite,r5.List_,([]:List Int),([]:List Int),([]:List ByteArray),([]:List ByteArray)),(a2_2.Kind,a2_2.Arity,([]:List Api_Range),r5.Cofinite,r5.List_,([]:List Int),([]:List Int),([]:List ByteArray),([]:List ByteArray)))))
 else (some (.inr (decide (0<(r5.List_.length:Int)),(a2_2.Kind,a2_2.Arity,([]:List Api_Range),r5.Cofinite,r5.List_,([]:List Int),([]:List Int),([]:List ByteArray),([]:List ByteArray)),(a2_2.Kind,a2_2.Arity,([]:List Api_Range),r5.Cofinite,r5.List_,([]:List Int),([]:List Int),([]:List ByteArray),([]:List ByteArray))))))
 else (some (.inr (false,(a2_2.Kind,a2_2.Arity,([]:List Api_Range),r5.Cofinite,r5.List_,([]:List Int),([]:List Int),([]:List ByteArray),([]:List ByteArray)),(a2_2.Kind,a2_2.Arity,([]:List Api_Range),r5.Cofinite,r5.List_,([]:List Int),([]:List Int),([]:List ByteArray),([]:List ByteArray))))))
 else (bif a2_2.Kind==4
 then ((a8A d t.Neg 8).bind fun r7 =>
 some (.inr (!r7,(a2_2.Kind,a2_2.Arity,([]:List Api_Range),false,([]:List ByteArray),([]:List Int),([]:List Int),([]:List ByteArray),([]:List ByteArray)),(a2_2.Kind,a2_2.Arity,([]:List Api_Range),false,([]:List ByteArray),([]:List Int),([]:List Int),([]:List ByteArray),([]:List ByteArray)))))
 else (bif a2_2.Kind==5
 then ((a8A d t.Neg 9).bind fun r8 =>
 some (.inr (!r8,(a2_2.Kind,a2_2.Arity,([]:List Api_Range),false,([]:List ByteArray),([]:List Int),([]:List Int),([]:List ByteArray),([]:List ByteArray)),(a2_2.Kind,a2_2.Arity,([]:List Api_Range),false,([]:List ByteArray),([]:List Int),([]:List Int),([]:List ByteArray),([]:List ByteArray)))))
 else (bif a2_2.Kind==6
 then (some (.inl (10,11,(0,0,([]:List Api_Range),false,([]:List ByteArray),([]:List Int),([]:List Int),([]:List ByteArray),([]:List ByteArray)),(a2_2.Kind,a2_2.Arity,([]:List Api_Range),false,([]:List ByteArray),([]:List Int),([]:List Int),([]:List ByteArray),([]:List ByteArray)))))
 else (bif a2_2.Kind==7
 then (some (.inl (12,0,(0,0,([]:List Api_Range),false,([]:List ByteArray),([]:List Int),([]:List Int),([]:List ByteArray),([]:List ByteArray)),(a2_2.Kind,a2_2.Arity,([]:List Api_Range),false,([]:List ByteArray),([]:List Int),([]:List Int),([]:List ByteArray),([]:List ByteArray)))))
 else (bif a2_2.Kind==8
 then (some (.inl (13,0,(0,0,([]:List Api_Range),false,([]:List ByteArray),([]:List Int),([]:List Int),([]:List ByteArray),([]:List ByteArray)),(a2_2.Kind,a2_2.Arity,([]:List Api_Range),false,([]:List ByteArray),([]:List Int),([]:List Int),([]:List ByteArray),([]:List ByteArray)))))
 else (bif a2_2.Kind==9
 then (some (.inl (14,15,(0,0,([]:List Api_Range),false,([]:List ByteArray),([]:List Int),([]:List Int),([]:List ByteArray),([]:List ByteArray)),(a2_2.Kind,a2_2.Arity,([]:List Api_Range),false,([]:List ByteArray),([]:List Int),([]:List Int),([]:List ByteArray),([]:List ByteArray)))))
 else (some (.inl (0,0,(0,0,([]:List Api_Range),false,([]:List ByteArray),([]:List Int),([]:List Int),([]:List ByteArray),([]:List ByteArray)),(a2_2.Kind,a2_2.Arity,([]:List Api_Range),false,([]:List ByteArray),([]:List Int),([]:List Int),([]:List ByteArray),([]:List ByteArray)))))))))))))).bind fun (b9:Sum (Int×Int×(Int×Int×(List Api_Range)×Bool×(List ByteArray)×(List Int)×(List Int)×(List ByteArray)×(List ByteArray))×(Int×Int×(List Api_Range)×Bool×(List ByteArray)×(List Int)×(List Int)×(List ByteArray)×(List ByteArray))) (Bool×(Int×Int×(List Api_Range)×Bool×(List ByteArray)×(List Int)×(List Int)×(List ByteArray)×(List ByteArray))×(Int×Int×(List Api_Range)×Bool×(List ByteArray)×(List Int)×(List Int)×(List ByteArray)×(List ByteArray)))) =>
 w9 (fun x10 =>
 (b3D a2_2 d t.Pos x10.1).bind fun r12 =>
 (b3D a2_2 d t.Neg x10.1).bind fun r13 =>
 bif x10.2.1==0
 then (some (Api_Line.mk x10.2.2.2.1 x10.2.2.2.2.1 x10.2.2.2.2.2.1 (Api_Names.mk x10.2.2.2.2.2.2.1 x10.2.2.2.2.2.2.2.1) r12 r13 x10.2.2.2.2.2.2.2.2.2.2.1 x10.2.2.2.2.2.2.2.2.2.2.2,true))
 else ((a8A d t.Neg x10.2.1).bind fun r14 =>
 some (Api_Line.mk x10.2.2.2.1 x10.2.2.2.2.1 x10.2.2.2.2.2.1 (Api_Names.mk x10.2.2.2.2.2.2.1 x10.2.2.2.2.2.2.2.1) r12 r13 x10.2.2.2.2.2.2.2.2.2.2.1 x10.2.2.2.2.2.2.2.2.2.2.2,!r14))) (fun y11 =>
 some (Api_Line.mk y11.2.1.1 y11.2.1.2.1 y11.2.1.2.2.1 (Api_Names.mk y11.2.1.2.2.2.1 y11.2.1.2.2.2.2.1) y11.2.1.2.2.2.2.2.1 y11.2.1.2.2.2.2.2.2.1 y11.2.1.2.2.2.2.2.2.2.1 y11.2.1.2.2.2.2.2.2.2.2,y11.1)) b9)
noncomputable def c5C (d:Api_Type)(n:Nat)(e6:Api_Goal)(r7:List ByteArray)(r8:List ByteArray)(r12:List Core_Sort)(x13:(List Api_Line)×Int):Option (Fl ((List Api_Line)×Int) (List Api_Line)) :=
 bif decide (x13.2<(r12.length:Int))
 then ((idx r12 x13.2).bind fun e14 =>
 (c4i n d e6 e14).bind fun r15 =>
 bif r15.2
 then ((V7 16 r7).bind fun r16 =>
 (V7 16 r8).bind fun r17 =>
 (k9 (x13.1.length+([Api_Line.mk r15.1.Kind r15.1.Arity r15.1.Ints r15.1.Names r15.1.Pos r15.1.Neg r16 r17]:List Api_Line).length) 168).bind fun _ =>
 some (.next (x13.1++([Api_Line.mk r15.1.Kind r15.1.Arity r15.1.Ints r15.1.Names r15.1.Pos r15.1.Neg r16 r17]:List Api_Line),wr .i64 (x13.2+1))))
 else (some (.next (x13.1,wr .i64 (x13.2+1)))))
 else (some (.done x13.1))
noncomputable def c5x (d:Api_Type)(n:Nat)(r4:List Api_Goal)(x5:(List Api_Line)×Int):Option (Fl ((List Api_Line)×Int) (List Api_Line)) :=
 bif decide (x5.2<(r4.length:Int))
 then ((idx r4 x5.2).bind fun e6 =>
 (b7q d e6.Pos).bind fun r7 =>
 (b7q d e6.Neg).bind fun r8 =>
 (a8a e6.Pos e6.Neg).bind fun r9 =>
 (bif r9
 then (some true)
 else ((b2y r7 r8).bind fun r10 =>
 some r10)).bind fun q11 =>
 bif q11
 then (some (.next (x5.1,wr .i64 (x5.2+1))))
 else ((c3Y).bind fun r12 =>
 (j7 (c5C d n e6 r7 r8 r12) ((r12.length:Int).toNat+1) (x5.1,0)).bind fun b19 =>
 some (.next (b19,wr .i64 (x5.2+1)))))
 else (some (.done x5.1))
noncomputable def c19 (n:Nat)(d:Api_Type)(t:Api_Goal):Option (List Api_Line) :=
 (K4 n d).bind fun r1 =>
 (bif r1 != 0
 then (some true)
 else ((b5f d t).bind fun r2 =>
 some (!r2))).bind fun q3 =>
 bif q3
 then (some ([]))
 else ((b4E n d t).bind fun r4 =>
 (j7 (c5x d n r4) ((r4.length:Int).toNat+1) ([],0)).bind fun b20 =>
 some b20)
def a3s (n_0:Int):Option Int :=
 bif decide (n_0<0)
 then (some (wr .u64 (0-(wr .u64 n_0))))
 else (some (wr .u64 n_0))
def c1B (s:List Api_Range)(x1:Int×Bool×Int):Option (Fl (Int×Bool×Int) (Int×Bool)) :=
 bif decide (x1.2.2<(s.length:Int))
 then ((idx s x1.2.2).bind fun e2 =>
 bif decide (e2.Hi<e2.Lo)
 then (some (.next (x1.1,x1.2.1,wr .i64 (x1.2.2+1))))
 else ((bif !x1.2.1
 then (some true)
 else ((a3s (max (min 0 e2.Hi) e2.Lo)).bind fun r3 =>
 (a3s x1.1).bind fun r4 =>
 some (decide (r3<r4)))).bind fun q5 =>
 (bif q5
 then (some true)
 else ((a3s (max (min 0 e2.Hi) e2.Lo)).bind fun r6 =>
 (a3s x1.1).bind fun r7 =>
 (bif r6==r7
 then (some (decide (x1.1<(max (min 0 e2.Hi) e2.Lo))))
 else (some false)).bind fun q8 =>
 some q8)).bind fun q9 =>
 bif q9
 then (some (.next (max (min 0 e2.Hi) e2.Lo,true,wr .i64 (x1.2.2+1))))
 else (some (.next (x1.1,x1.2.1,wr .i64 (x1.2.2+1))))))
 else (some (.done (x1.1,x1.2.1)))
def b6P (s:List Api_Range):Option (Int×Bool) :=
 (j7 (c1B s) ((s.length:Int).toNat+1) (0,false,0)).bind fun b10 =>
 some (b10.1,b10.2)
def c3Z (kind:Int)(m1:Nat)(x2:(List Int)×Int):Option (Fl ((List Int)×Int) (List Int)) :=
 bif decide (x2.2<((d8D m1 (0:Int)).length:Int))
 then (bif kind==1
 then ((idx x2.1 x2.2).bind fun _ =>
 (x2.1[x2.2.toNat]?).bind fun _ =>
 some (.next (x2.1.set x2.2.toNat 0,wr .i64 (x2.2+1))))
 else (bif x2.2==0
 then ((idx x2.1 x2.2).bind fun _ =>
 (x2.1[x2.2.toNat]?).bind fun _ =>
 some (.next (x2.1.set x2.2.toNat 97,wr .i64 (x2.2+1))))
 else ((idx x2.1 x2.2).bind fun _ =>
 (x2.1[x2.2.toNat]?).bind fun _ =>
 some (.next (x2.1.set x2.2.toNat 48,wr .i64 (x2.2+1))))))
 else (some (.done x2.1))
def a7f (kind:Int)(length:Int):Option (List Int) :=
 (a6d length length 1).bind fun m1 =>
 (j7 (c3Z kind m1) (((d8D m1 (0:Int)).length:Int).toNat+1) (d8D m1 (0:Int),0)).bind fun b9 =>
 some b9
def b4H (kind:Int)(position:Int)(c:Int):Option (Int×Bool) :=
 bif kind==1
 then (some (wr .u8 (c+1),decide (c<255)))
 else (bif c==122
 then (some (0,false))
 else ((bif decide (0<position)
 then (some (c==57))
 else (some false)).bind fun q1 =>
 bif q1
 then (some (95,true))
 else ((bif decide (0<position)
 then (some (c==95))
 else (some false)).bind fun q2 =>
 bif q2
 then (some (97,true))
 else (some (wr .u8 (c+1),true)))))
def c6V (kind:Int)(x2:(List Int)×(List Int)×Int):Option (Fl ((List Int)×(List Int)×Int) (Sum ((List Int)×(List Int)) (List Int))) :=
 bif decide (0<=x2.2.2)
 then ((idx x2.1 x2.2.2).bind fun _ =>
 (x2.1[x2.2.2.toNat]?).bind fun e4 =>
 (b4H kind x2.2.2 e4).bind fun r5 =>
 bif r5.2
 then ((idx x2.1 x2.2.2).bind fun _ =>
 (x2.1[x2.2.2.toNat]?).bind fun _ =>
 some (.done (.inr (x2.1.set x2.2.2.toNat r5.1))))
 else ((idx x2.2.1 x2.2.2).bind fun _ =>
 (x2.2.1[x2.2.2.toNat]?).bind fun e9 =>
 (idx x2.1 x2.2.2).bind fun _ =>
 (x2.1[x2.2.2.toNat]?).bind fun _ =>
 some (.next (x2.1.set x2.2.2.toNat e9,x2.2.1,wr .i64 (x2.2.2-1)))))
 else (some (.done (.inl (x2.1,x2.2.1))))
def c3N (kind:Int)(b:List Int):Option (List Int) :=
 (a7f kind (b.length:Int)).bind fun r1 =>
 (j7 (c6V kind) ((wr .i64 ((b.length:Int)-1)).toNat+2) (b,r1,wr .i64 ((b.length:Int)-1))).bind fun b12 =>
 w9 (fun x13 =>
 (a7f kind (wr .i64 ((x13.1.length:Int)+1))).bind fun r15 =>
 some r15) (fun y14 =>
 some y14) b12
def c1N (kind:Int)(used:List Key)(x2:(List (ByteArray×Bool))×Int):Option (Fl ((List (ByteArray×Bool))×Int) (List (ByteArray×Bool))) :=
 bif decide (x2.2<(used.length:Int))
 then ((idx used x2.2).bind fun e3 =>
 bif e3.Kind==kind
 then (some (.next (a5j x2.1 e3.Text true,wr .i64 (x2.2+1))))
 else (some (.next (x2.1,wr .i64 (x2.2+1)))))
 else (some (.done x2.1))
def c1o (kind:Int)(b4:List (ByteArray×Bool))(x8:List Int):Option (Fl (List Int) (List Int)) :=
 bif (a29 b4 (d6M x8)).getD false
 then ((c3N kind x8).bind fun r9 =>
 some (.next r9))
 else (some (.done x8))
def a9Y (n:Nat)(kind:Int)(used:List Key):Option Key :=
 (bif kind != 0
 then (some (kind != 1))
 else (some false)).bind fun q1 =>
 bif q1
 then (some (Key.mk 0 (⟨#[]⟩:ByteArray)))
 else ((j7 (c1N kind used) ((used.length:Int).toNat+1) (([]:List (ByteArray×Bool)),0)).bind fun b4 =>
 (a7f kind 0).bind fun r5 =>
 (bif kind==0
 then ((a7f kind 1).bind fun r6 =>
 some r6)
 else (some r5)).bind fun b7 =>
 (j7 (c1o kind b4) n b7).bind fun b10 =>
 some (Key.mk kind (d6M b10)))
def b3g (a:ByteArray)(b:ByteArray):Option Int :=
 (a4A (a.size:Int) (b.size:Int)).bind fun r1 =>
 bif r1 != 0
 then (some r1)
 else ((a4H a b).bind fun r2 =>
 some r2)
def c1R (d:Api_Names)(t:Int)(x2:(List Key)×Int):Option (Fl ((List Key)×Int) (List Key)) :=
 bif decide (x2.2<(d.List_.length:Int))
 then ((idx d.List_ x2.2).bind fun e3 =>
 (k9 (x2.1.length+([Key.mk t e3]:List Key).length) 24).bind fun _ =>
 some (.next (x2.1++([Key.mk t e3]:List Key),wr .i64 (x2.2+1))))
 else (some (.done x2.1))
def c1X (b5:List Key)(x8:ByteArray×Bool×Int):Option (Fl (ByteArray×Bool×Int) (ByteArray×Bool)) :=
 bif decide (x8.2.2<(b5.length:Int))
 then ((idx b5 x8.2.2).bind fun e9 =>
 (a30 e9).bind fun r10 =>
 (bif r10
 then ((bif !x8.2.1
 then (some true)
 else ((b3g e9.Text x8.1).bind fun r11 =>
 some (decide (r11<0)))).bind fun q12 =>
 some q12)
 else (some false)).bind fun q13 =>
 bif q13
 then (some (.next (e9.Text,true,wr .i64 (x8.2.2+1))))
 else (some (.next (x8.1,x8.2.1,wr .i64 (x8.2.2+1)))))
 else (some (.done (x8.1,x8.2.1)))
def b6A (n:Nat)(d:Api_Names)(t:Int):Option (ByteArray×Bool) :=
 (bif t != 0
 then (some (t != 1))
 else (some false)).bind fun q1 =>
 bif q1
 then (some ((⟨#[]⟩:ByteArray),false))
 else ((j7 (c1R d t) ((d.List_.length:Int).toNat+1) ([],0)).bind fun b5 =>
 bif d.Cofinite
 then ((a9Y n t b5).bind fun r6 =>
 (a30 r6).bind fun r7 =>
 bif !r7
 then (some ((⟨#[]⟩:ByteArray),false))
 else (some (r6.Text,true)))
 else ((j7 (c1X b5) ((b5.length:Int).toNat+1) ((⟨#[]⟩:ByteArray),false,0)).bind fun b14 =>
 some (b14.1,b14.2)))
def c3H (t:Api_Type)(nodes:List Int)(kind:Int)(width:Int)(x1:(List (List Int))×Int):Option (Fl ((List (List Int))×Int) (Sum (List (List Int)) ((List (List Int))×Bool))) :=
 bif decide (x1.2<(nodes.length:Int))
 then ((idx nodes x1.2).bind fun e2 =>
 (bif decide (e2<0)
 then (some true)
 else (some (decide ((t.Nodes.length:Int)<=e2)))).bind fun q3 =>
 (bif q3
 then (some true)
 else ((idx t.Nodes e2).bind fun e4 =>
 some (e4.Kind != kind))).bind fun q5 =>
 (bif q5
 then (some true)
 else ((idx t.Nodes e2).bind fun e6 =>
 some ((e6.Kids.length:Int) != width))).bind fun q7 =>
 bif q7
 then (some (.done (.inr ([],false))))
 else ((idx t.Nodes e2).bind fun e8 =>
 (k9 (x1.1.length+([e8.Kids]:List (List Int)).length) 24).bind fun _ =>
 some (.next (x1.1++([e8.Kids]:List (List Int)),wr .i64 (x1.2+1)))))
 else (some (.done (.inl x1.1)))
def a85 (t:Api_Type)(nodes:List Int)(kind:Int)(width:Int):Option ((List (List Int))×Bool) :=
 (j7 (c3H t nodes kind width) ((nodes.length:Int).toNat+1) ([],0)).bind fun b10 =>
 w9 (fun x11 =>
 some (x11,true)) (fun y12 =>
 some (y12.1,y12.2)) b10
def a98 (s:List (List Int))(f:(List Int)->Option Bool)(x1:Int):Option (Fl Int (Sum Unit Int)) :=
 bif decide (x1<(s.length:Int))
 then ((idx s x1).bind fun e2 =>
 (f e2).bind fun r3 =>
 bif r3
 then (some (.done (.inr x1)))
 else (some (.next (wr .i64 (x1+1)))))
 else (some (.done (.inl ())))
def a6D (s:List (List Int))(f:(List Int)->Option Bool):Option Int :=
 (j7 (a98 s f) ((s.length:Int).toNat+1) 0).bind fun b4 =>
 w9 (fun _ =>
 some (-1)) (fun y6 =>
 some y6) b4
def a5x (s:List (List Int))(f:(List Int)->Option Bool):Option Bool :=
 (a6D s f).bind fun r1 =>
 some (decide (0<=r1))
def b7a (r:List Int)(a1_1:Int):Option Bool :=
 some ((r.length:Int) != a1_1)
def a8Z (width:Int)(rows:List (List Int)):Option Bool :=
 (a5x rows (fun z1 =>
 (b7a z1 width).bind fun r2 =>
 some r2)).bind fun r3 =>
 some (!r3)
def c5M (t:List (List Int))(x1:Int×(List Api_Goal)×(List Api_Goal))(x2:Int×((List Int)×(List Int)×Bool)):Option (Fl (Int×((List Int)×(List Int)×Bool)) ((List Int)×(List Int)×Bool)) :=
 bif decide (x2.1<(t.length:Int))
 then ((idx t x2.1).bind fun e3 =>
 (idx e3 x1.1).bind fun e4 =>
 (k9 (x2.2.1.length+([e4]:List Int).length) 8).bind fun _ =>
 some (.next (wr .i64 (x2.1+1),(x2.2.1++([e4]:List Int),x2.2.2.1,x2.2.2.2))))
 else (some (.done (x2.2.1,x2.2.2.1,x2.2.2.2)))
def c5b (a2_2:List (List Int))(a3_3:List (List Int))(a4_4:List Int)(x1:Int×(List Api_Goal)×(List Api_Goal))(x7:Int×((List Int)×(List Int)×Bool)):Option (Fl (Int×((List Int)×(List Int)×Bool)) ((List Int)×(List Int)×Bool)) :=
 bif decide (x7.1<(a2_2.length:Int))
 then ((idx a2_2 x7.1).bind fun e8 =>
 (idx a3_3 x7.1).bind fun e9 =>
 (idx a4_4 x7.1).bind fun _ =>
 (a4_4[x7.1.toNat]?).bind fun e11 =>
 (idx e9 e11).bind fun e12 =>
 bif e12==x1.1
 then ((idx e8 x1.1).bind fun e13 =>
 (k9 (x7.2.2.1.length+([e13]:List Int).length) 8).bind fun _ =>
 some (.next (wr .i64 (x7.1+1),(x7.2.1,x7.2.2.1++([e13]:List Int),x7.2.2.2))))
 else (some (.next (wr .i64 (x7.1+1),(x7.2.1,x7.2.2.1,x7.2.2.2)))))
 else (some (.done (x7.2.1,x7.2.2.1,x7.2.2.2)))
def c47 (d:Int)(t:List (List Int))(a2_2:List (List Int))(a3_3:List (List Int))(a4_4:List Int)(x1:Int×(List Api_Goal)×(List Api_Goal)):Option (Fl (Int×(List Api_Goal)×(List Api_Goal)) (Sum ((List Api_Goal)×(List Api_Goal)) (Bool×(List Api_Goal)×Unit))) :=
 bif decide (x1.1<d)
 then ((j7 (c5M t x1) ((t.length:Int).toNat+1) (0,([],[],false))).bind fun b6 =>
 (j7 (c5b a2_2 a3_3 a4_4 x1) ((a2_2.length:Int).toNat+1) (0,(b6.1,b6.2.1,b6.2.2))).bind fun b15 =>
 (a8a b15.1 b15.2.1).bind fun r16 =>
 bif r16
 then (some (.done (.inr (false,x1.2.2,()))))
 else ((a3S (Api_Goal.mk b15.1 b15.2.1 b15.2.2)).bind fun r17 =>
 (k9 (x1.2.2.length+([r17]:List Api_Goal).length) 56).bind fun _ =>
 some (.next (wr .i64 (x1.1+1),x1.2.1,x1.2.2++([r17]:List Api_Goal)))))
 else (some (.done (.inl (x1.2.1,x1.2.2))))
def b4W (d:Int)(t:List (List Int))(a2_2:List (List Int))(a3_3:List (List Int))(a4_4:List Int):Option ((List Api_Goal)×Bool) :=
 (j7 (c47 d t a2_2 a3_3 a4_4) (d.toNat+1) (0,[],[])).bind fun (b19:Sum ((List Api_Goal)×(List Api_Goal)) (Bool×(List Api_Goal)×Unit)) =>
 w9 (fun x20 =>
 some (x20.2,true)) (fun y21 =>
 some (y21.2.1,y21.1)) b19
def b9A (a0:Int)(a1:List (List Int))(a2:List (List Int))(a3:List (List Int))(a4:List Int):Option (Api_Box×Bool) :=
 (b4W a0 a1 a2 a3 a4).bind fun q=>some (Api_Box.mk q.1,q.2)
def b3x (g:Api_Goal):Api_Goal:=Api_Goal.mk g.Pos g.Neg true
def a9i (b:Api_Box):Api_Box:=match b.Parts with
 | d0::d1::r=>Api_Box.mk (d0::b3x d1::r)
 | _=>b
def c2b (b:Api_Box):Bool:=d89 2 b.Parts.length
def b96 (digits:List Int)(options:List (List Int))(x11:Int×List Int):Option (Fl (Int×List Int) (Sum (Unit×List Int) (Bool×List Int))) :=
 bif decide (x11.1<(digits.length:Int))
 then ((idx x11.2 x11.1).bind fun _ =>
 (x11.2[x11.1.toNat]?).bind fun e13 =>
 (idx x11.2 x11.1).bind fun _ =>
 (x11.2[x11.1.toNat]?).bind fun _ =>
 (idx (x11.2.set x11.1.toNat (wr .i64 (e13+1))) x11.1).bind fun _ =>
 ((x11.2.set x11.1.toNat (wr .i64 (e13+1)))[x11.1.toNat]?).bind fun e17 =>
 (idx options x11.1).bind fun e18 =>
 bif decide (e17<(e18.length:Int))
 then (some (.done (.inr (true,x11.2.set x11.1.toNat (wr .i64 (e13+1))))))
 else ((idx (x11.2.set x11.1.toNat (wr .i64 (e13+1))) x11.1).bind fun _ =>
 ((x11.2.set x11.1.toNat (wr .i64 (e13+1)))[x11.1.toNat]?).bind fun _ =>
 some (.next (wr .i64 (x11.1+1),(x11.2.set x11.1.toNat (wr .i64 (e13+1))).set x11.1.toNat 0))))
 else (some (.done (.inl ((),x11.2))))
def a9f (digits:List Int)(options:List (List Int)):Option (Bool×List Int) :=
 (j7 (b96 digits options) ((digits.length:Int).toNat+1) (0,digits)).bind fun (b21:Sum (Unit×List Int) (Bool×List Int)) =>
 w9 (fun x22 =>
 some (false,x22.2)) (fun y23 =>
 some (y23.1,y23.2)) b21
def c2n (a3_3:Int->Option Bool)(x7:Int×List (List Int))(e8:List Int)(x9:Int×List (List Int)):Option (Fl (Int×List (List Int)) (Unit×List (List Int))) :=
 bif decide (x9.1<(e8.length:Int))
 then ((idx e8 x9.1).bind fun e10 =>
 (a3_3 e10).bind fun r11 =>
 bif r11
 then ((idx x9.2 x7.1).bind fun _ =>
 (x9.2[x7.1.toNat]?).bind fun e13 =>
 (k9 (e13.length+([x9.1]:List Int).length) 8).bind fun _ =>
 (idx x9.2 x7.1).bind fun _ =>
 (x9.2[x7.1.toNat]?).bind fun _ =>
 bif d8u (x7.1.toNat+2) (x7.1.toNat+2)
 then (some (.next (wr .i64 (x9.1+1),x9.2.set x7.1.toNat (e13++([x9.1]:List Int)))))
 else (none))
 else (some (.next (wr .i64 (x9.1+1),x9.2))))
 else (some (.done ((),x9.2)))
def c2E (a2_2:List (List Int))(a3_3:Int->Option Bool)(x7:Int×List (List Int)):Option (Fl (Int×List (List Int)) (Sum (Unit×List (List Int)) ((List Api_Box)×List (List Int)))) :=
 bif decide (x7.1<(a2_2.length:Int))
 then ((idx a2_2 x7.1).bind fun e8 =>
 (j7 (c2n a3_3 x7 e8) ((e8.length:Int).toNat+1) (0,x7.2)).bind fun b17 =>
 (idx b17.2 x7.1).bind fun _ =>
 (b17.2[x7.1.toNat]?).bind fun e19 =>
 bif (e19.length:Int)==0
 then (some (.done (.inr ([],b17.2))))
 else (some (.next (wr .i64 (x7.1+1),b17.2))))
 else (some (.done (.inl ((),x7.2))))
def c3a (d:Int)(t:List (List Int))(a2_2:List (List Int))(x21:Unit×List (List Int))(x24:(List Int)×(List Api_Box)):Option (Fl ((List Int)×(List Api_Box)) ((List Api_Box)×(List Int))) :=
 (b9A d t a2_2 x21.2 x24.1).bind fun r25 =>
 (bif r25.2
 then ((k9 (x24.2.length+([r25.1]:List Api_Box).length) 24).bind fun _ =>
 some (x24.2++([r25.1]:List Api_Box)))
 else (some x24.2)).bind fun b27 =>
 (a9f x24.1 x21.2).bind fun r28 =>
 bif !r28.1
 then (some (.done (b27,r28.2)))
 else (some (.next (r28.2,b27)))
def b8y (n:Nat)(d:Int)(t:List (List Int))(a2_2:List (List Int))(a3_3:Int->Option Bool):Option (List Api_Box) :=
 (bif decide (d<0)
 then (some true)
 else (some (decide (4<d)))).bind fun q1 =>
 (bif q1
 then (some true)
 else ((a8Z d t).bind fun r2 =>
 some (!r2))).bind fun q3 =>
 (bif q3
 then (some true)
 else ((a8Z d a2_2).bind fun r4 =>
 some (!r4))).bind fun q5 =>
 bif q5
 then (some ([]))
 else ((a6d (a2_2.length:Int) (a2_2.length:Int) 24).bind fun m6 =>
 (j7 (c2E a2_2 a3_3) ((a2_2.length:Int).toNat+1) (0,d8D m6 ([]:List Int))).bind fun (b20:Sum (Unit×List (List Int)) ((List Api_Box)×List (List Int))) =>
 w9 (fun x21 =>
 (a6d (a2_2.length:Int) (a2_2.length:Int) 8).bind fun m23 =>
 (j7 (c3a d t a2_2 x21) n (d8D m23 (0:Int),[])).bind fun b29 =>
 some b29.1) (fun y22 =>
 some y22.1) b20)
def a57 (i:Int)(a1_1:Api_Type):Option Bool :=
 (idx a1_1.Nodes i).bind fun e1 =>
 some (e1.Kind != 2)
def a62 (n:Nat)(d:Api_Type)(t:Api_Line):Option ((List Api_Box)×Int) :=
 (bif t.Kind==6
 then (some (.inl (10,t.Arity)))
 else (bif t.Kind==7
 then (some (.inl (12,2)))
 else (some (.inr ([],9))))).bind fun b1 =>
 w9 (fun x2 =>
 (K4 n d).bind fun r4 =>
 bif r4 != 0
 then (some (([]:List Api_Box),1))
 else ((a85 d t.Pos x2.1 x2.2).bind fun r5 =>
 (a85 d t.Neg x2.1 x2.2).bind fun r6 =>
 (bif !r5.2
 then (some true)
 else (some (!r6.2))).bind fun q7 =>
 bif q7
 then (some (([]:List Api_Box),1))
 else ((b8y n x2.2 r5.1 r6.1 (fun z8 =>
 (a57 z8 d).bind fun r9 =>
 some r9)).bind fun r10 =>
 bif t.Kind==7
 then (bif r10.all c2b
 then (some (r10.map a9i,0))
 else (none))
 else (some (r10,0))))) (fun y3 =>
 some (y3.1,y3.2)) b1
def b8u (i:Int)(a1_1:Api_Type):Option Bool :=
 (bif decide (i<0)
 then (some true)
 else (some (decide ((a1_1.Nodes.length:Int)<=i)))).bind fun q1 =>
 (bif q1
 then (some true)
 else ((idx a1_1.Nodes i).bind fun e2 =>
 some (e2.Kind != 13))).bind fun q3 =>
 some q3
def b47 (t:Api_Type)(nodes:List Int):Option Bool :=
 (a0F nodes (fun z1 =>
 (b8u z1 t).bind fun r2 =>
 some r2)).bind fun r3 =>
 some (!r3)
def a7O (x1:(List Key)×Int)(x16:(Int×Int)×List Key):Option (Fl ((Int×Int)×List Key) (Int×List Key)) :=
 bif decide (x16.1.2<((x16.2.drop x1.2.toNat).length:Int))
 then ((idx (x16.2.drop x1.2.toNat) x16.1.2).bind fun _ =>
 (x16.2[(x1.2.toNat+x16.1.2.toNat)]?).bind fun e18 =>
 (idx (x16.2.drop x1.2.toNat) (wr .i64 (x16.1.2-1))).bind fun _ =>
 (x16.2[(x1.2.toNat+(wr .i64 (x16.1.2-1)).toNat)]?).bind fun e20 =>
 bif !(a2p e18 e20)
 then ((idx (x16.2.drop x1.2.toNat) x16.1.2).bind fun _ =>
 (x16.2[(x1.2.toNat+x16.1.2.toNat)]?).bind fun e22 =>
 (idx x16.2 x16.1.1).bind fun _ =>
 (x16.2[x16.1.1.toNat]?).bind fun _ =>
 some (.next ((wr .i64 (x16.1.1+1),wr .i64 (x16.1.2+1)),x16.2.set x16.1.1.toNat e22)))
 else (some (.next ((x16.1.1,wr .i64 (x16.1.2+1)),x16.2))))
 else (some (.done (x16.1.1,x16.2)))
def a7H (x1:(List Key)×Int):Option (Fl ((List Key)×Int) (Sum (List Key) (List Key))) :=
 bif decide (x1.2<(x1.1.length:Int))
 then ((idx x1.1 x1.2).bind fun _ =>
 (x1.1[x1.2.toNat]?).bind fun e3 =>
 (idx x1.1 (wr .i64 (x1.2-1))).bind fun _ =>
 (x1.1[(wr .i64 (x1.2-1)).toNat]?).bind fun e5 =>
 bif a2p e3 e5
 then ((idx x1.1 x1.2).bind fun _ =>
 (j7 (a7O x1) (((x1.1.drop x1.2.toNat).length:Int).toNat+1) ((x1.2,1),x1.1)).bind fun b25 =>
 (idx b25.2 b25.1).bind fun _ =>
 bif d8V b25.1.toNat b25.2.length
 then ((cut (b25.2.take b25.1.toNat++d8D (b25.2.length-b25.1.toNat) (Key.mk 0 (⟨#[]⟩:ByteArray):Key)) 0 b25.1).bind fun y27 =>
 some (.done (.inr y27)))
 else (none))
 else (some (.next (x1.1,wr .i64 (x1.2+1)))))
 else (some (.done (.inl x1.1)))
def a4R (s:List Key):Option (List Key) :=
 bif decide ((s.length:Int)<2)
 then (some s)
 else ((j7 a7H ((s.length:Int).toNat+1) (s,1)).bind fun b28 =>
 w9 (fun x29 =>
 some x29) (fun y30 =>
 some y30) b28)
def a5B (s:List Key):Option (List Key) :=
 bif (s.length:Int)==(s.length:Int)&&(s.length:Int)==(s.length:Int)
 then (some s)
 else (none)
noncomputable def c3r (e3:Api_TypeNode)(x4:(List Key)×Int):Option (Fl ((List Key)×Int) (List Key)) :=
 bif decide (x4.2<(e3.Fields.length:Int))
 then ((idx e3.Fields x4.2).bind fun e5 =>
 (k9 (x4.1.length+([e5.Key_]:List Key).length) 24).bind fun _ =>
 some (.next (x4.1++([e5.Key_]:List Key),wr .i64 (x4.2+1))))
 else (some (.done x4.1))
noncomputable def c2V (t:Api_Type)(nodes:List Int)(x1:(List Key)×Int):Option (Fl ((List Key)×Int) (List Key)) :=
 bif decide (x1.2<(nodes.length:Int))
 then ((idx nodes x1.2).bind fun e2 =>
 (idx t.Nodes e2).bind fun e3 =>
 (j7 (c3r e3) ((e3.Fields.length:Int).toNat+1) (x1.1,0)).bind fun b7 =>
 some (.next (b7,wr .i64 (x1.2+1))))
 else (some (.done x1.1))
noncomputable def b8w (t:Api_Type)(nodes:List Int):Option (List Key) :=
 (j7 (c2V t nodes) ((nodes.length:Int).toNat+1) ([],0)).bind fun b8 =>
 (b76 b8 (fun z9 z10 =>
 (a3w z9 z10).bind fun r11 =>
 some r11)).bind fun r12 =>
 (a4R r12.2).bind fun r13 =>
 (a5B r13).bind fun r14 =>
 some r14
def d0W (n_0:Api_TypeNode)(k:Key)(x1:Int):Option (Fl Int (Sum Unit Int)) :=
 bif decide (x1<(n_0.Fields.length:Int))
 then ((idx n_0.Fields x1).bind fun e2 =>
 bif a2p e2.Key_ k
 then (some (.done (.inr e2.Node)))
 else (some (.next (wr .i64 (x1+1)))))
 else (some (.done (.inl ())))
def c1e (n_0:Api_TypeNode)(k:Key):Option Int :=
 (j7 (d0W n_0 k) ((n_0.Fields.length:Int).toNat+1) 0).bind fun b3 =>
 w9 (fun _ =>
 bif k.Kind==0
 then (some n_0.Rest.1)
 else (bif k.Kind==1
 then (some n_0.Rest.2)
 else (none))) (fun y5 =>
 some y5) b3
def c2h (n_0:Api_TypeNode)(k:Key)(x1:Int):Option (Fl Int (Sum Unit Bool)) :=
 bif decide (x1<(n_0.Fields.length:Int))
 then ((idx n_0.Fields x1).bind fun e2 =>
 bif a2p e2.Key_ k
 then (some (.done (.inr (!e2.Optional))))
 else (some (.next (wr .i64 (x1+1)))))
 else (some (.done (.inl ())))
def b1s (n_0:Api_TypeNode)(k:Key):Option Bool :=
 (j7 (c2h n_0 k) ((n_0.Fields.length:Int).toNat+1) 0).bind fun b3 =>
 w9 (fun _ =>
 some false) (fun y5 =>
 some y5) b3
def c1x (d:Api_Type)(t:Api_Line)(a3_3:Key)(x1:Int×Int×((List Int)×(List Int)×Bool)):Option (Fl (Int×Int×((List Int)×(List Int)×Bool)) (Int×((List Int)×(List Int)×Bool))) :=
 bif decide (x1.2.1<(t.Pos.length:Int))
 then ((idx t.Pos x1.2.1).bind fun e2 =>
 (idx d.Nodes e2).bind fun e3 =>
 (c1e e3 a3_3).bind fun r4 =>
 (k9 (x1.2.2.1.length+([r4]:List Int).length) 8).bind fun _ =>
 (idx d.Nodes e2).bind fun e6 =>
 (b1s e6 a3_3).bind fun r7 =>
 bif r7
 then (some (.next (1,wr .i64 (x1.2.1+1),(x1.2.2.1++([r4]:List Int),x1.2.2.2.1,x1.2.2.2.2))))
 else (some (.next (x1.1,wr .i64 (x1.2.1+1),(x1.2.2.1++([r4]:List Int),x1.2.2.2.1,x1.2.2.2.2)))))
 else (some (.done (x1.1,(x1.2.2.1,x1.2.2.2.1,x1.2.2.2.2))))
def c1Q (d:Api_Type)(t:Api_Line)(a2_2:Int)(a3_3:Key)(a4_4:List Record_place)(x9:Int×Bool×Int×((List Int)×(List Int)×Bool)):Option (Fl (Int×Bool×Int×((List Int)×(List Int)×Bool)) (Int×Bool×((List Int)×(List Int)×Bool))) :=
 bif decide (x9.2.2.1<(a4_4.length:Int))
 then ((idx a4_4 x9.2.2.1).bind fun _ =>
 (a4_4[x9.2.2.1.toNat]?).bind fun e11 =>
 bif e11.key != a2_2
 then (some (.next (x9.1,x9.2.1,wr .i64 (x9.2.2.1+1),(x9.2.2.2.1,x9.2.2.2.2.1,x9.2.2.2.2.2))))
 else (bif e11.absent
 then (some (.next (x9.1,true,wr .i64 (x9.2.2.1+1),(x9.2.2.2.1,x9.2.2.2.2.1,x9.2.2.2.2.2))))
 else ((idx t.Neg x9.2.2.1).bind fun e12 =>
 (idx d.Nodes e12).bind fun e13 =>
 (c1e e13 a3_3).bind fun r14 =>
 (k9 (x9.2.2.2.2.1.length+([r14]:List Int).length) 8).bind fun _ =>
 some (.next (1,x9.2.1,wr .i64 (x9.2.2.1+1),(x9.2.2.2.1,x9.2.2.2.2.1++([r14]:List Int),x9.2.2.2.2.2))))))
 else (some (.done (x9.1,x9.2.1,(x9.2.2.2.1,x9.2.2.2.2.1,x9.2.2.2.2.2))))
def b6x (d:Api_Type)(t:Api_Line)(a2_2:Int)(a3_3:Key)(a4_4:List Record_place):Option (Int×Api_Goal×Bool) :=
 (j7 (c1x d t a3_3) ((t.Pos.length:Int).toNat+1) (2,0,([],[],false))).bind fun b8 =>
 (j7 (c1Q d t a2_2 a3_3 a4_4) ((a4_4.length:Int).toNat+1) (b8.1,false,0,(b8.2.1,b8.2.2.1,b8.2.2.2))).bind fun b16 =>
 bif b16.2.1
 then (some (0,Api_Goal.mk ([]:List Int) ([]:List Int) false,b16.1==2))
 else ((a3S (Api_Goal.mk b16.2.2.1 b16.2.2.2.1 b16.2.2.2.2)).bind fun r17 =>
 (a8a b16.2.2.1 b16.2.2.2.1).bind fun r18 =>
 some (b16.1,r17,!r18))
def c4I (d:Api_Type)(t:Api_Line)(a2_2:List Key)(a3_3:List Record_place)(x2:Int×((List Key)×(List Int)×(List Api_Goal)×(List Int)×(List Int)×Bool×(List Int)×(List Int)×Bool×(List Api_SomeKey))×((List Key)×(List Int)×(List Api_Goal)×(List Int)×(List Int)×Bool×(List Int)×(List Int)×Bool×(List Api_SomeKey))):Option (Fl (Int×((List Key)×(List Int)×(List Api_Goal)×(List Int)×(List Int)×Bool×(List Int)×(List Int)×Bool×(List Api_SomeKey))×((List Key)×(List Int)×(List Api_Goal)×(List Int)×(List Int)×Bool×(List Int)×(List Int)×Bool×(List Api_SomeKey))) (Sum (((List Key)×(List Int)×(List Api_Goal)×(List Int)×(List Int)×Bool×(List Int)×(List Int)×Bool×(List Api_SomeKey))×((List Key)×(List Int)×(List Api_Goal)×(List Int)×(List Int)×Bool×(List Int)×(List Int)×Bool×(List Api_SomeKey))) (Bool×((List Key)×(List Int)×(List Api_Goal)×(List Int)×(List Int)×Bool×(List Int)×(List Int)×Bool×(List Api_SomeKey))×((List Key)×(List Int)×(List Api_Goal)×(List Int)×(List Int)×Bool×(List Int)×(List Int)×Bool×(List Api_SomeKey))))) :=
 bif decide (x2.1<(a2_2.length:Int))
 then ((idx a2_2 x2.1).bind fun e3 =>
 (b6x d t x2.1 e3 a3_3).bind fun r4 =>
 bif !r4.2.2
 then (some (.done (.inr (false,(x2.2.2.1,x2.2.2.2.1,x2.2.2.2.2.1,x2.2.2.2.2.2.1,x2.2.2.2.2.2.2.1,x2.2.2.2.2.2.2.2.1,x2.2.2.2.2.2.2.2.2.1,x2.2.2.2.2.2.2.2.2.2.1,x2.2.2.2.2.2.2.2.2.2.2.1,x2.2.2.2.2.2.2.2.2.2.2.2),(x2.2.2.1,x2.2.2.2.1,x2.2.2.2.2.1,x2.2.2.2.2.2.1,x2.2.2.2.2.2.2.1,x2.2.2.2.2.2.2.2.1,x2.2.2.2.2.2.2.2.2.1,x2.2.2.2.2.2.2.2.2.2.1,x2.2.2.2.2.2.2.2.2.2.2.1,x2.2.2.2.2.2.2.2.2.2.2.2)))))
 else ((k9 (x2.2.2.2.1.length+([r4.1]:List Int).length) 8).bind fun _ =>
 (k9 (x2.2.2.2.2.1.length+([r4.2.1]:List Api_Goal).length) 56).bind fun _ =>
 some (.next (wr .i64 (x2.1+1),(x2.2.1.1,x2.2.1.2.1,x2.2.1.2.2.1,x2.2.1.2.2.2.1,x2.2.1.2.2.2.2.1,x2.2.1.2.2.2.2.2.1,x2.2.1.2.2.2.2.2.2.1,x2.2.1.2.2.2.2.2.2.2.1,x2.2.1.2.2.2.2.2.2.2.2.1,x2.2.1.2.2.2.2.2.2.2.2.2),(x2.2.2.1,x2.2.2.2.1++([r4.1]:List Int),x2.2.2.2.2.1++([r4.2.1]:List Api_Goal),x2.2.2.2.2.2.1,x2.2.2.2.2.2.2.1,x2.2.2.2.2.2.2.2.1,x2.2.2.2.2.2.2.2.2.1,x2.2.2.2.2.2.2.2.2.2.1,x2.2.2.2.2.2.2.2.2.2.2.1,x2.2.2.2.2.2.2.2.2.2.2.2)))))
 else (some (.done (.inl ((x2.2.1.1,x2.2.1.2.1,x2.2.1.2.2.1,x2.2.1.2.2.2.1,x2.2.1.2.2.2.2.1,x2.2.1.2.2.2.2.2.1,x2.2.1.2.2.2.2.2.2.1,x2.2.1.2.2.2.2.2.2.2.1,x2.2.1.2.2.2.2.2.2.2.2.1,x2.2.1.2.2.2.2.2.2.2.2.2),(x2.2.2.1,x2.2.2.2.1,x2.2.2.2.2.1,x2.2.2.2.2.2.1,x2.2.2.2.2.2.2.1,x2.2.2.2.2.2.2.2.1,x2.2.2.2.2.2.2.2.2.1,x2.2.2.2.2.2.2.2.2.2.1,x2.2.2.2.2.2.2.2.2.2.2.1,x2.2.2.2.2.2.2.2.2.2.2.2)))))
def c3X (d:Api_Type)(t:Api_Line)(x10:Int×((List Key)×(List Int)×(List Api_Goal)×(List Int)×(List Int)×Bool×(List Int)×(List Int)×Bool×(List Api_SomeKey))):Option (Fl (Int×((List Key)×(List Int)×(List Api_Goal)×(List Int)×(List Int)×Bool×(List Int)×(List Int)×Bool×(List Api_SomeKey))) ((List Key)×(List Int)×(List Api_Goal)×(List Int)×(List Int)×Bool×(List Int)×(List Int)×Bool×(List Api_SomeKey))) :=
 bif decide (x10.1<(t.Pos.length:Int))
 then ((idx t.Pos x10.1).bind fun e11 =>
 (idx d.Nodes e11).bind fun e12 =>
 (k9 (x10.2.2.2.2.1.length+([e12.Rest.1]:List Int).length) 8).bind fun _ =>
 (idx d.Nodes e11).bind fun e14 =>
 (k9 (x10.2.2.2.2.2.2.2.1.length+([e14.Rest.2]:List Int).length) 8).bind fun _ =>
 some (.next (wr .i64 (x10.1+1),(x10.2.1,x10.2.2.1,x10.2.2.2.1,x10.2.2.2.2.1++([e12.Rest.1]:List Int),x10.2.2.2.2.2.1,x10.2.2.2.2.2.2.1,x10.2.2.2.2.2.2.2.1++([e14.Rest.2]:List Int),x10.2.2.2.2.2.2.2.2.1,x10.2.2.2.2.2.2.2.2.2.1,x10.2.2.2.2.2.2.2.2.2.2))))
 else (some (.done (x10.2.1,x10.2.2.1,x10.2.2.2.1,x10.2.2.2.2.1,x10.2.2.2.2.2.1,x10.2.2.2.2.2.2.1,x10.2.2.2.2.2.2.2.1,x10.2.2.2.2.2.2.2.2.1,x10.2.2.2.2.2.2.2.2.2.1,x10.2.2.2.2.2.2.2.2.2.2)))
def c4V (d:Api_Type)(t:Api_Line)(a3_3:List Record_place)(x19:Int×Api_Shape×((List Key)×(List Int)×(List Api_Goal)×(List Int)×(List Int)×Bool×(List Int)×(List Int)×Bool×(List Api_SomeKey))):Option (Fl (Int×Api_Shape×((List Key)×(List Int)×(List Api_Goal)×(List Int)×(List Int)×Bool×(List Int)×(List Int)×Bool×(List Api_SomeKey))) (Sum (Api_Shape×((List Key)×(List Int)×(List Api_Goal)×(List Int)×(List Int)×Bool×(List Int)×(List Int)×Bool×(List Api_SomeKey))) (Bool×Api_Shape×((List Key)×(List Int)×(List Api_Goal)×(List Int)×(List Int)×Bool×(List Int)×(List Int)×Bool×(List Api_SomeKey))))) :=
 bif decide (x19.1<(a3_3.length:Int))
 then ((idx a3_3 x19.1).bind fun _ =>
 (a3_3[x19.1.toNat]?).bind fun e21 =>
 bif decide (0<=e21.key)
 then (some (.next (wr .i64 (x19.1+1),x19.2.1,(x19.2.2.1,x19.2.2.2.1,x19.2.2.2.2.1,x19.2.2.2.2.2.1,x19.2.2.2.2.2.2.1,x19.2.2.2.2.2.2.2.1,x19.2.2.2.2.2.2.2.2.1,x19.2.2.2.2.2.2.2.2.2.1,x19.2.2.2.2.2.2.2.2.2.2.1,x19.2.2.2.2.2.2.2.2.2.2.2))))
 else (((idx t.Neg x19.1).bind fun e22 =>
 (idx d.Nodes e22).bind fun e23 =>
 bif e21.kind==0
 then (some e23.Rest.1)
 else (bif e21.kind==1
 then (some e23.Rest.2)
 else (none))).bind fun b24 =>
 (bif e21.kind==0
 then ((a2C x19.2.2.2.2.2.1 b24).bind fun r25 =>
 some r25)
 else (bif e21.kind==1
 then ((a2C x19.2.2.2.2.2.2.2.2.1 b24).bind fun r26 =>
 some r26)
 else (none))).bind fun b27 =>
 bif b27
 then (some (.done (.inr (false,Api_Shape.mk x19.2.2.1 x19.2.2.2.1 x19.2.2.2.2.1 (Api_Goal.mk x19.2.2.2.2.2.1 x19.2.2.2.2.2.2.1 x19.2.2.2.2.2.2.2.1,Api_Goal.mk x19.2.2.2.2.2.2.2.2.1 x19.2.2.2.2.2.2.2.2.2.1 x19.2.2.2.2.2.2.2.2.2.2.1) x19.2.2.2.2.2.2.2.2.2.2.2,(x19.2.2.1,x19.2.2.2.1,x19.2.2.2.2.1,x19.2.2.2.2.2.1,x19.2.2.2.2.2.2.1,x19.2.2.2.2.2.2.2.1,x19.2.2.2.2.2.2.2.2.1,x19.2.2.2.2.2.2.2.2.2.1,x19.2.2.2.2.2.2.2.2.2.2.1,x19.2.2.2.2.2.2.2.2.2.2.2)))))
 else ((k9 (x19.2.2.2.2.2.2.2.2.2.2.2.length+([Api_SomeKey.mk e21.kind (Api_Goal.mk ([]:List Int) ([b24]:List Int) false)]:List Api_SomeKey).length) 64).bind fun _ =>
 some (.next (wr .i64 (x19.1+1),x19.2.1,(x19.2.2.1,x19.2.2.2.1,x19.2.2.2.2.1,x19.2.2.2.2.2.1,x19.2.2.2.2.2.2.1,x19.2.2.2.2.2.2.2.1,x19.2.2.2.2.2.2.2.2.1,x19.2.2.2.2.2.2.2.2.2.1,x19.2.2.2.2.2.2.2.2.2.2.1,x19.2.2.2.2.2.2.2.2.2.2.2++([Api_SomeKey.mk e21.kind (Api_Goal.mk ([]:List Int) ([b24]:List Int) false)]:List Api_SomeKey)))))))
 else (some (.done (.inl (x19.2.1,(x19.2.2.1,x19.2.2.2.1,x19.2.2.2.2.1,x19.2.2.2.2.2.1,x19.2.2.2.2.2.2.1,x19.2.2.2.2.2.2.2.1,x19.2.2.2.2.2.2.2.2.1,x19.2.2.2.2.2.2.2.2.2.1,x19.2.2.2.2.2.2.2.2.2.2.1,x19.2.2.2.2.2.2.2.2.2.2.2)))))
def b9z (d:Api_Type)(t:Api_Line)(a2_2:List Key)(a3_3:List Record_place):Option (Api_Shape×Bool) :=
 (V7 24 a2_2).bind fun r1 =>
 (j7 (c4I d t a2_2 a3_3) ((a2_2.length:Int).toNat+1) (0,(([]:List Key),([]:List Int),([]:List Api_Goal),([]:List Int),([]:List Int),false,([]:List Int),([]:List Int),false,([]:List Api_SomeKey)),(r1,[],[],[],[],false,[],[],false,[]))).bind fun (b7:Sum (((List Key)×(List Int)×(List Api_Goal)×(List Int)×(List Int)×Bool×(List Int)×(List Int)×Bool×(List Api_SomeKey))×((List Key)×(List Int)×(List Api_Goal)×(List Int)×(List Int)×Bool×(List Int)×(List Int)×Bool×(List Api_SomeKey))) (Bool×((List Key)×(List Int)×(List Api_Goal)×(List Int)×(List Int)×Bool×(List Int)×(List Int)×Bool×(List Api_SomeKey))×((List Key)×(List Int)×(List Api_Goal)×(List Int)×(List Int)×Bool×(List Int)×(List Int)×Bool×(List Api_SomeKey)))) =>
 w9 (fun x8 =>
 (j7 (c3X d t) ((t.Pos.length:Int).toNat+1) (0,(x8.2.1,x8.2.2.1,x8.2.2.2.1,x8.2.2.2.2.1,x8.2.2.2.2.2.1,x8.2.2.2.2.2.2.1,x8.2.2.2.2.2.2.2.1,x8.2.2.2.2.2.2.2.2.1,x8.2.2.2.2.2.2.2.2.2.1,x8.2.2.2.2.2.2.2.2.2.2))).bind fun b16 =>
 (a3S (Api_Goal.mk b16.2.2.2.1 b16.2.2.2.2.1 b16.2.2.2.2.2.1)).bind fun r17 =>
 (a3S (Api_Goal.mk b16.2.2.2.2.2.2.1 b16.2.2.2.2.2.2.2.1 b16.2.2.2.2.2.2.2.2.1)).bind fun r18 =>
 (j7 (c4V d t a3_3) ((a3_3.length:Int).toNat+1) (0,Api_Shape.mk x8.1.1 x8.1.2.1 x8.1.2.2.1 (Api_Goal.mk x8.1.2.2.2.1 x8.1.2.2.2.2.1 x8.1.2.2.2.2.2.1,Api_Goal.mk x8.1.2.2.2.2.2.2.1 x8.1.2.2.2.2.2.2.2.1 x8.1.2.2.2.2.2.2.2.2.1) x8.1.2.2.2.2.2.2.2.2.2,(b16.1,b16.2.1,b16.2.2.1,r17.Pos,r17.Neg,r17.Lists,r18.Pos,r18.Neg,r18.Lists,b16.2.2.2.2.2.2.2.2.2))).bind fun (b29:Sum (Api_Shape×((List Key)×(List Int)×(List Api_Goal)×(List Int)×(List Int)×Bool×(List Int)×(List Int)×Bool×(List Api_SomeKey))) (Bool×Api_Shape×((List Key)×(List Int)×(List Api_Goal)×(List Int)×(List Int)×Bool×(List Int)×(List Int)×Bool×(List Api_SomeKey)))) =>
 w9 (fun x30 =>
 some (Api_Shape.mk x30.2.1 x30.2.2.1 x30.2.2.2.1 (Api_Goal.mk x30.2.2.2.2.1 x30.2.2.2.2.2.1 x30.2.2.2.2.2.2.1,Api_Goal.mk x30.2.2.2.2.2.2.2.1 x30.2.2.2.2.2.2.2.2.1 x30.2.2.2.2.2.2.2.2.2.1) x30.2.2.2.2.2.2.2.2.2.2,true)) (fun y31 =>
 some (y31.2.1,y31.1)) b29) (fun y9 =>
 some (Api_Shape.mk y9.2.1.1 y9.2.1.2.1 y9.2.1.2.2.1 (Api_Goal.mk y9.2.1.2.2.2.1 y9.2.1.2.2.2.2.1 y9.2.1.2.2.2.2.2.1,Api_Goal.mk y9.2.1.2.2.2.2.2.2.1 y9.2.1.2.2.2.2.2.2.2.1 y9.2.1.2.2.2.2.2.2.2.2.1) y9.2.1.2.2.2.2.2.2.2.2.2,y9.1)) b7
def a8N (i:Int)(a1_1:Api_Type):Option Bool :=
 (idx a1_1.Nodes i).bind fun e1 =>
 some (e1.Kind==2)
def c2t (t:Api_Type)(n_1:Api_TypeNode)(keys:List Key)(x1:(List Record_place)×Int):Option (Fl ((List Record_place)×Int) (List Record_place)) :=
 bif decide (x1.2<(keys.length:Int))
 then ((idx keys x1.2).bind fun e2 =>
 (c1e n_1 e2).bind fun r3 =>
 (a8N r3 t).bind fun r4 =>
 (bif !r4
 then ((k9 (x1.1.length+([Record_place.mk x1.2 false 0]:List Record_place).length) 24).bind fun _ =>
 some (x1.1++([Record_place.mk x1.2 false 0]:List Record_place)))
 else (some x1.1)).bind fun b6 =>
 (b1s n_1 e2).bind fun r7 =>
 bif r7
 then ((k9 (b6.length+([Record_place.mk x1.2 true 0]:List Record_place).length) 24).bind fun _ =>
 some (.next (b6++([Record_place.mk x1.2 true 0]:List Record_place),wr .i64 (x1.2+1))))
 else (some (.next (b6,wr .i64 (x1.2+1)))))
 else (some (.done x1.1))
def c2L (t:Api_Type)(n_1:Api_TypeNode)(x10:(List Record_place)×Int):Option (Fl ((List Record_place)×Int) (List Record_place)) :=
 bif decide (x10.2<2)
 then ((bif x10.2==0
 then (some (x10.2,n_1.Rest.1))
 else (bif x10.2==1
 then (some (x10.2,n_1.Rest.2))
 else (none))).bind fun b11 =>
 (a8N b11.2 t).bind fun r12 =>
 bif !r12
 then ((k9 (x10.1.length+([Record_place.mk (-1) false b11.1]:List Record_place).length) 24).bind fun _ =>
 some (.next (x10.1++([Record_place.mk (-1) false b11.1]:List Record_place),wr .i64 (x10.2+1))))
 else (some (.next (x10.1,wr .i64 (x10.2+1)))))
 else (some (.done x10.1))
def b8t (t:Api_Type)(n_1:Api_TypeNode)(keys:List Key):Option (List Record_place) :=
 (j7 (c2t t n_1 keys) ((keys.length:Int).toNat+1) ([],0)).bind fun b9 =>
 (j7 (c2L t n_1) ((2:Int).toNat+1) (b9,0)).bind fun b14 =>
 some b14
def c0d (k:Int)(a1_1:Api_Line)(a2_2:Api_Type)(a3_3:List Key)(r6:List Record_place)(rec_record_Shapes_1:Int->Api_Line->Api_Type->(List Key)->(List Record_place)->(List Api_Shape)->Unit->Option ((List Record_place)×(List Api_Shape)))(x7:(List Record_place)×Int×(List Record_place)×(List Api_Shape)):Option (Fl ((List Record_place)×Int×(List Record_place)×(List Api_Shape)) ((List Record_place)×(List Record_place)×(List Api_Shape))) :=
 bif decide (x7.2.1<(r6.length:Int))
 then ((idx x7.1 x7.2.1).bind fun _ =>
 (x7.1[x7.2.1.toNat]?).bind fun e9 =>
 (idx x7.2.2.1 k).bind fun _ =>
 (x7.2.2.1[k.toNat]?).bind fun _ =>
 (rec_record_Shapes_1 (wr .i64 (k+1)) a1_1 a2_2 a3_3 (x7.2.2.1.set k.toNat e9) x7.2.2.2 ()).bind fun r12 =>
 some (.next (x7.1,wr .i64 (x7.2.1+1),r12.1,r12.2)))
 else (some (.done (x7.1,x7.2.2.1,x7.2.2.2)))
def c1Y (_:Nat)(rec_record_Shapes_1:Int->Api_Line->Api_Type->(List Key)->(List Record_place)->(List Api_Shape)->Unit->Option ((List Record_place)×(List Api_Shape)))(k:Int)(a1_1:Api_Line)(a2_2:Api_Type)(a3_3:List Key)(a4_4:List Record_place)(a5_5:List Api_Shape)(_:Unit):Option ((List Record_place)×(List Api_Shape)) :=
 bif k==(a1_1.Neg.length:Int)
 then ((b9z a2_2 a1_1 a3_3 a4_4).bind fun r1 =>
 (bif r1.2
 then ((k9 (a5_5.length+([r1.1]:List Api_Shape).length) 208).bind fun _ =>
 some (a5_5++([r1.1]:List Api_Shape)))
 else (some a5_5)).bind fun b3 =>
 some (a4_4,b3))
 else ((idx a1_1.Neg k).bind fun e4 =>
 (idx a2_2.Nodes e4).bind fun e5 =>
 (b8t a2_2 e5 a3_3).bind fun r6 =>
 (j7 (c0d k a1_1 a2_2 a3_3 r6 rec_record_Shapes_1) ((r6.length:Int).toNat+1) (r6,0,a4_4,a5_5)).bind fun b13 =>
 some (b13.2.1,b13.2.2))
def a8R:Nat->Int->Api_Line->Api_Type->(List Key)->(List Record_place)->(List Api_Shape)->Unit->Option ((List Record_place)×(List Api_Shape))
 | 0=>fun _ _ _ _ _ _ _=>none
 | n+1=>c1Y n (a8R n)
noncomputable def b8v (n:Nat)(t:Api_Type)(l:Api_Line):Option ((List Api_Shape)×Int) :=
 bif l.Kind != 8
 then (some ([],9))
 else ((K4 n t).bind fun r1 =>
 (bif r1 != 0
 then (some true)
 else ((b47 t l.Pos).bind fun r2 =>
 some (!r2))).bind fun q3 =>
 (bif q3
 then (some true)
 else ((b47 t l.Neg).bind fun r4 =>
 some (!r4))).bind fun q5 =>
 bif q5
 then (some ([],1))
 else ((V7 8 l.Pos).bind fun r6 =>
 (k9 (r6.length+l.Neg.length) 8).bind fun _ =>
 (b8w t (r6++l.Neg)).bind fun r8 =>
 (a6d (l.Neg.length:Int) (l.Neg.length:Int) 24).bind fun m9 =>
 (a8R n 0 l t r8 (d8D m9 (Record_place.mk 0 false 0:Record_place)) ([]) ()).bind fun r10 =>
 some (r10.2,0)))
noncomputable def c5D (e3:Api_Shape)(x4:Int×(Int×Int×ByteArray×(List Val)×(List Key)×(List Ent)×(List ByteArray)×(List Key)×(List Api_Form)×(List Api_Goal))):Option (Fl (Int×(Int×Int×ByteArray×(List Val)×(List Key)×(List Ent)×(List ByteArray)×(List Key)×(List Api_Form)×(List Api_Goal))) (Int×Int×ByteArray×(List Val)×(List Key)×(List Ent)×(List ByteArray)×(List Key)×(List Api_Form)×(List Api_Goal))) :=
 bif decide (x4.1<(e3.Keys.length:Int))
 then ((idx e3.Keys x4.1).bind fun e5 =>
 (idx e3.States x4.1).bind fun e6 =>
 bif e6==1
 then ((k9 (x4.2.2.2.2.2.2.2.2.1.length+([e5]:List Key).length) 24).bind fun _ =>
 (idx e3.Parts x4.1).bind fun e8 =>
 (k9 (x4.2.2.2.2.2.2.2.2.2.2.length+([e8]:List Api_Goal).length) 56).bind fun _ =>
 some (.next (wr .i64 (x4.1+1),(x4.2.1,x4.2.2.1,x4.2.2.2.1,x4.2.2.2.2.1,x4.2.2.2.2.2.1,x4.2.2.2.2.2.2.1,x4.2.2.2.2.2.2.2.1,x4.2.2.2.2.2.2.2.2.1++([e5]:List Key),x4.2.2.2.2.2.2.2.2.2.1,x4.2.2.2.2.2.2.2.2.2.2++([e8]:List Api_Goal)))))
 else (some (.next (wr .i64 (x4.1+1),(x4.2.1,x4.2.2.1,x4.2.2.2.1,x4.2.2.2.2.1,x4.2.2.2.2.2.1,x4.2.2.2.2.2.2.1,x4.2.2.2.2.2.2.2.1,x4.2.2.2.2.2.2.2.2.1,x4.2.2.2.2.2.2.2.2.2.1,x4.2.2.2.2.2.2.2.2.2.2)))))
 else (some (.done (x4.2.1,x4.2.2.1,x4.2.2.2.1,x4.2.2.2.2.1,x4.2.2.2.2.2.1,x4.2.2.2.2.2.2.1,x4.2.2.2.2.2.2.2.1,x4.2.2.2.2.2.2.2.2.1,x4.2.2.2.2.2.2.2.2.2.1,x4.2.2.2.2.2.2.2.2.2.2)))
noncomputable def c5N (n:Nat)(e3:Api_Shape)(x12:(List Key)×Int×(Int×Int×ByteArray×(List Val)×(List Key)×(List Ent)×(List ByteArray)×(List Key)×(List Api_Form)×(List Api_Goal))):Option (Fl ((List Key)×Int×(Int×Int×ByteArray×(List Val)×(List Key)×(List Ent)×(List ByteArray)×(List Key)×(List Api_Form)×(List Api_Goal))) (Int×Int×ByteArray×(List Val)×(List Key)×(List Ent)×(List ByteArray)×(List Key)×(List Api_Form)×(List Api_Goal))) :=
 bif decide (x12.2.1<(e3.Some.length:Int))
 then ((idx e3.Some x12.2.1).bind fun e13 =>
 (a9Y n e13.Kind x12.1).bind fun r14 =>
 (k9 (x12.1.length+([r14]:List Key).length) 24).bind fun _ =>
 ((V7 8 e13.Goal.Pos).bind fun r16 =>
 bif r14.Kind==0
 then ((k9 (r16.length+e3.Rest.1.Pos.length) 8).bind fun _ =>
 (V7 8 e13.Goal.Neg).bind fun r18 =>
 bif r14.Kind==0
 then ((k9 (r18.length+e3.Rest.1.Neg.length) 8).bind fun _ =>
 some (Api_Goal.mk (r16++e3.Rest.1.Pos) (r18++e3.Rest.1.Neg) false))
 else (bif r14.Kind==1
 then ((k9 (r18.length+e3.Rest.2.Neg.length) 8).bind fun _ =>
 some (Api_Goal.mk (r16++e3.Rest.1.Pos) (r18++e3.Rest.2.Neg) false))
 else (none)))
 else (bif r14.Kind==1
 then ((k9 (r16.length+e3.Rest.2.Pos.length) 8).bind fun _ =>
 (V7 8 e13.Goal.Neg).bind fun r22 =>
 bif r14.Kind==0
 then ((k9 (r22.length+e3.Rest.1.Neg.length) 8).bind fun _ =>
 some (Api_Goal.mk (r16++e3.Rest.2.Pos) (r22++e3.Rest.1.Neg) false))
 else (bif r14.Kind==1
 then ((k9 (r22.length+e3.Rest.2.Neg.length) 8).bind fun _ =>
 some (Api_Goal.mk (r16++e3.Rest.2.Pos) (r22++e3.Rest.2.Neg) false))
 else (none)))
 else (none))).bind fun b25 =>
 (k9 (x12.2.2.2.2.2.2.2.2.2.1.length+([r14]:List Key).length) 24).bind fun _ =>
 (a3S b25).bind fun r27 =>
 (k9 (x12.2.2.2.2.2.2.2.2.2.2.2.length+([r27]:List Api_Goal).length) 56).bind fun _ =>
 some (.next (x12.1++([r14]:List Key),wr .i64 (x12.2.1+1),(x12.2.2.1,x12.2.2.2.1,x12.2.2.2.2.1,x12.2.2.2.2.2.1,x12.2.2.2.2.2.2.1,x12.2.2.2.2.2.2.2.1,x12.2.2.2.2.2.2.2.2.1,x12.2.2.2.2.2.2.2.2.2.1++([r14]:List Key),x12.2.2.2.2.2.2.2.2.2.2.1,x12.2.2.2.2.2.2.2.2.2.2.2++([r27]:List Api_Goal)))))
 else (some (.done (x12.2.2.1,x12.2.2.2.1,x12.2.2.2.2.1,x12.2.2.2.2.2.1,x12.2.2.2.2.2.2.1,x12.2.2.2.2.2.2.2.1,x12.2.2.2.2.2.2.2.2.1,x12.2.2.2.2.2.2.2.2.2.1,x12.2.2.2.2.2.2.2.2.2.2.1,x12.2.2.2.2.2.2.2.2.2.2.2)))
noncomputable def c43 (n:Nat)(r1:(List Api_Shape)×Int)(x2:(List Api_Alternative)×Int):Option (Fl ((List Api_Alternative)×Int) (List Api_Alternative)) :=
 bif decide (x2.2<(r1.1.length:Int))
 then ((idx r1.1 x2.2).bind fun e3 =>
 (j7 (c5D e3) ((e3.Keys.length:Int).toNat+1) (0,(0,0,(⟨#[]⟩:ByteArray),[],[],[],[],[],[],[]))).bind fun b10 =>
 (V7 24 e3.Keys).bind fun r11 =>
 (j7 (c5N n e3) ((e3.Some.length:Int).toNat+1) (r11,0,(b10.1,b10.2.1,b10.2.2.1,b10.2.2.2.1,b10.2.2.2.2.1,b10.2.2.2.2.2.1,b10.2.2.2.2.2.2.1,b10.2.2.2.2.2.2.2.1,b10.2.2.2.2.2.2.2.2.1,b10.2.2.2.2.2.2.2.2.2))).bind fun b29 =>
 (k9 (x2.1.length+([Api_Alternative.mk (Val.mk b29.1 b29.2.1 b29.2.2.1 b29.2.2.2.1 b29.2.2.2.2.1 b29.2.2.2.2.2.1 b29.2.2.2.2.2.2.1) b29.2.2.2.2.2.2.2.1 b29.2.2.2.2.2.2.2.2.1 b29.2.2.2.2.2.2.2.2.2]:List Api_Alternative).length) 200).bind fun _ =>
 some (.next (x2.1++([Api_Alternative.mk (Val.mk b29.1 b29.2.1 b29.2.2.1 b29.2.2.2.1 b29.2.2.2.2.1 b29.2.2.2.2.2.1 b29.2.2.2.2.2.2.1) b29.2.2.2.2.2.2.2.1 b29.2.2.2.2.2.2.2.2.1 b29.2.2.2.2.2.2.2.2.2]:List Api_Alternative),wr .i64 (x2.2+1))))
 else (some (.done x2.1))
noncomputable def c18 (n:Nat)(d:Api_Type)(t:Api_Line):Option (List Api_Alternative) :=
 (b8v n d t).bind fun r1 =>
 (j7 (c43 n r1) ((r1.1.length:Int).toNat+1) ([],0)).bind fun b31 =>
 some b31
noncomputable def c5n (r6:(List Api_Box)×Int)(x7:(List Api_Alternative)×Int):Option (Fl ((List Api_Alternative)×Int) (List Api_Alternative)) :=
 bif decide (x7.2<(r6.1.length:Int))
 then ((idx r6.1 x7.2).bind fun e8 =>
 (k9 (x7.1.length+([Api_Alternative.mk (Val.mk 0 0 (⟨#[]⟩:ByteArray) ([]:List Val) ([]:List Key) ([]:List Ent) ([]:List ByteArray)) ([]:List Key) ([]:List Api_Form) e8.Parts]:List Api_Alternative).length) 200).bind fun _ =>
 some (.next (x7.1++([Api_Alternative.mk (Val.mk 0 0 (⟨#[]⟩:ByteArray) ([]:List Val) ([]:List Key) ([]:List Ent) ([]:List ByteArray)) ([]:List Key) ([]:List Api_Form) e8.Parts]:List Api_Alternative),wr .i64 (x7.2+1))))
 else (some (.done x7.1))
noncomputable def c2a (n:Nat)(d:Api_Type)(t:Api_Line):Option (List Api_Alternative) :=
 bif t.Kind==1
 then ((b6P t.Ints).bind fun r1 =>
 some ([Api_Alternative.mk (Val.mk 0 r1.1 (⟨#[]⟩:ByteArray) ([]:List Val) ([]:List Key) ([]:List Ent) ([]:List ByteArray)) ([]:List Key) ([]:List Api_Form) ([]:List Api_Goal)]:List Api_Alternative))
 else ((bif t.Kind==2
 then (some (t.Kind==2))
 else (some (t.Kind==3))).bind fun b2 =>
 bif b2
 then ((bif t.Kind==3
 then (some 0)
 else (some 1)).bind fun (b3:Int) =>
 (b6A n t.Names b3).bind fun r4 =>
 bif !r4.2
 then (some ([]))
 else (some ([Api_Alternative.mk (Val.mk 0 0 r4.1 ([]:List Val) ([]:List Key) ([]:List Ent) ([]:List ByteArray)) ([]:List Key) ([]:List Api_Form) ([]:List Api_Goal)]:List Api_Alternative)))
 else ((bif t.Kind==6
 then (some (t.Kind==6))
 else (some (t.Kind==7))).bind fun b5 =>
 bif b5
 then ((a62 n d t).bind fun r6 =>
 (j7 (c5n r6) ((r6.1.length:Int).toNat+1) ([],0)).bind fun b10 =>
 some b10)
 else (bif t.Kind==8
 then ((c18 n d t).bind fun r11 =>
 some r11)
 else (bif t.Kind==9
 then (none)
 else (some ([Api_Alternative.mk (Val.mk 0 0 (⟨#[]⟩:ByteArray) ([]:List Val) ([]:List Key) ([]:List Ent) ([]:List ByteArray)) ([]:List Key) ([]:List Api_Form) ([]:List Api_Goal)]:List Api_Alternative))))))
noncomputable def c5U (l:Api_Line)(r1:List Api_Alternative)(x2:(List Api_Alternative)×Int):Option (Fl ((List Api_Alternative)×Int) (List Api_Alternative)) :=
 bif decide (x2.2<(r1.length:Int))
 then ((idx r1 x2.2).bind fun e3 =>
 (V7 16 l.Vars).bind fun r4 =>
 (k9 (x2.1.length+([Api_Alternative.mk (Val.mk l.Kind e3.Leaf.Int_ e3.Leaf.Text e3.Leaf.Kids e3.Leaf.Keys e3.Leaf.Entries r4) e3.Keys e3.Forms e3.Subgoals]:List Api_Alternative).length) 200).bind fun _ =>
 some (.next (x2.1++([Api_Alternative.mk (Val.mk l.Kind e3.Leaf.Int_ e3.Leaf.Text e3.Leaf.Kids e3.Leaf.Keys e3.Leaf.Entries r4) e3.Keys e3.Forms e3.Subgoals]:List Api_Alternative),wr .i64 (x2.2+1))))
 else (some (.done x2.1))
noncomputable def c16 (n:Nat)(t:Api_Type)(l:Api_Line):Option (List Api_Alternative) :=
 (c2a n t l).bind fun r1 =>
 (j7 (c5U l r1) ((r1.length:Int).toNat+1) ([],0)).bind fun b6 =>
 some b6
noncomputable def c6I (r4:List Api_Alternative)(x5:(List Solve_Way)×Int):Option (Fl ((List Solve_Way)×Int) (List Solve_Way)) :=
 bif decide (x5.2<(r4.length:Int))
 then ((idx r4 x5.2).bind fun e6 =>
 (k9 (x5.1.length+([Solve_Way.mk e6 ([]:List (List Api_EntryForm))]:List Solve_Way).length) 224).bind fun _ =>
 some (.next (x5.1++([Solve_Way.mk e6 ([]:List (List Api_EntryForm))]:List Solve_Way),wr .i64 (x5.2+1))))
 else (some (.done x5.1))
noncomputable def c6H (e3:Api_Line)(x10:Int):Option (Fl Int Unit) :=
 bif decide (x10<(e3.Neg.length:Int))
 then ((idx e3.Neg x10).bind fun _ =>
 none)
 else (some (.done ()))
noncomputable def c6W (d:Api_Type)(n:Nat)(r1:List Api_Line)(x2:(List Solve_Way)×Int):Option (Fl ((List Solve_Way)×Int) (List Solve_Way)) :=
 bif decide (x2.2<(r1.length:Int))
 then ((idx r1 x2.2).bind fun e3 =>
 bif e3.Kind != 9
 then ((c16 n d e3).bind fun r4 =>
 (j7 (c6I r4) ((r4.length:Int).toNat+1) (x2.1,0)).bind fun b8 =>
 some (.next (b8,wr .i64 (x2.2+1))))
 else ((V7 16 e3.Vars).bind fun r9 =>
 (j7 (c6H e3) ((e3.Neg.length:Int).toNat+1) 0).bind fun _ =>
 (k9 (x2.1.length+([Solve_Way.mk (Api_Alternative.mk (Val.mk 9 e3.Arity (⟨#[]⟩:ByteArray) ([]:List Val) ([]:List Key) ([]:List Ent) r9) ([]:List Key) ([]:List Api_Form) ([]:List Api_Goal)) ([]:List (List Api_EntryForm))]:List Solve_Way).length) 224).bind fun _ =>
 some (.next (x2.1++([Solve_Way.mk (Api_Alternative.mk (Val.mk 9 e3.Arity (⟨#[]⟩:ByteArray) ([]:List Val) ([]:List Key) ([]:List Ent) r9) ([]:List Key) ([]:List Api_Form) ([]:List Api_Goal)) ([]:List (List Api_EntryForm))]:List Solve_Way),wr .i64 (x2.2+1)))))
 else (some (.done x2.1))
noncomputable def c4Q (n:Nat)(d:Api_Type)(t:Api_Goal):Option (List Solve_Way) :=
 (c19 n d t).bind fun r1 =>
 (j7 (c6W d n r1) ((r1.length:Int).toNat+1) ([],0)).bind fun b14 =>
 some b14
def b4S (f:Api_EntryForm):Option (List Api_Goal) :=
 bif f.Fails
 then (some f.Args)
 else ((V7 56 f.Args).bind fun r1 =>
 (k9 (r1.length+([f.Result]:List Api_Goal).length) 56).bind fun _ =>
 some (r1++([f.Result]:List Api_Goal)))
def c1v (e3:List Api_EntryForm)(x4:(List Api_Goal)×Int):Option (Fl ((List Api_Goal)×Int) (List Api_Goal)) :=
 bif decide (x4.2<(e3.length:Int))
 then ((idx e3 x4.2).bind fun e5 =>
 (b4S e5).bind fun r6 =>
 (k9 (x4.1.length+r6.length) 56).bind fun _ =>
 some (.next (x4.1++r6,wr .i64 (x4.2+1))))
 else (some (.done x4.1))
def c1M (w:Solve_Way)(x2:(List Api_Goal)×Int):Option (Fl ((List Api_Goal)×Int) (List Api_Goal)) :=
 bif decide (x2.2<(w.Entries.length:Int))
 then ((idx w.Entries x2.2).bind fun e3 =>
 (j7 (c1v e3) ((e3.length:Int).toNat+1) (x2.1,0)).bind fun b8 =>
 some (.next (b8,wr .i64 (x2.2+1))))
 else (some (.done x2.1))
def b68 (w:Solve_Way):Option (List Api_Goal) :=
 (V7 56 w.Alternative.Subgoals).bind fun r1 =>
 (j7 (c1M w) ((w.Entries.length:Int).toNat+1) (r1,0)).bind fun b9 =>
 some b9
def a6n (s:List Solve_Way)(f:Solve_Way->Option Bool)(x1:Int):Option (Fl Int (Sum Unit Int)) :=
 bif decide (x1<(s.length:Int))
 then ((idx s x1).bind fun e2 =>
 (f e2).bind fun r3 =>
 bif r3
 then (some (.done (.inr x1)))
 else (some (.next (wr .i64 (x1+1)))))
 else (some (.done (.inl ())))
def a27 (s:List Solve_Way)(f:Solve_Way->Option Bool):Option Int :=
 (j7 (a6n s f) ((s.length:Int).toNat+1) 0).bind fun b4 =>
 w9 (fun _ =>
 some (-1)) (fun y6 =>
 some y6) b4
def a2s (s:List Solve_Way)(f:Solve_Way->Option Bool):Option Bool :=
 (a27 s f).bind fun r1 =>
 some (decide (0<=r1))
def b4d (table:(List (ByteArray×(List Solve_Way)))×(List (ByteArray×Int)))(l:List Api_Goal)(x1:Int×Int):Option (Fl (Int×Int) (Sum Int (Int×Bool))) :=
 bif decide (x1.2<(l.length:Int))
 then ((idx l x1.2).bind fun e2 =>
 (b2i e2).bind fun r3 =>
 bif ((a29 table.2 r3).getD (0:Int))==0
 then (some (.done (.inr (0,false))))
 else (some (.next (max x1.1 ((a29 table.2 r3).getD (0:Int)),wr .i64 (x1.2+1)))))
 else (some (.done (.inl x1.1)))
def a5X (table:(List (ByteArray×(List Solve_Way)))×(List (ByteArray×Int)))(l:List Api_Goal):Option (Int×Bool) :=
 (j7 (b4d table l) ((l.length:Int).toNat+1) (0,0)).bind fun (b4:Sum Int (Int×Bool)) =>
 w9 (fun x5 =>
 some (x5,true)) (fun y6 =>
 some (y6.1,y6.2)) b4
def b8Z (table:(List (ByteArray×(List Solve_Way)))×(List (ByteArray×Int)))(l:List Api_EntryForm)(x1:Int×Bool×Int×((List Api_Goal)×Bool×(List Int)×(List Int)×Bool)):Option (Fl (Int×Bool×Int×((List Api_Goal)×Bool×(List Int)×(List Int)×Bool)) (Int×Bool×((List Api_Goal)×Bool×(List Int)×(List Int)×Bool))) :=
 bif decide (x1.2.2.1<(l.length:Int))
 then ((idx l x1.2.2.1).bind fun e2 =>
 (b4S e2).bind fun r3 =>
 (a5X (table.1,table.2) r3).bind fun r4 =>
 (bif r4.2
 then ((bif !x1.2.1
 then (some true)
 else (some (decide (r4.1<x1.1)))).bind fun q5 =>
 some q5)
 else (some false)).bind fun q6 =>
 bif q6
 then (some (.next (r4.1,true,wr .i64 (x1.2.2.1+1),(e2.Args,e2.Fails,e2.Result.Pos,e2.Result.Neg,e2.Result.Lists))))
 else (some (.next (x1.1,x1.2.1,wr .i64 (x1.2.2.1+1),(x1.2.2.2.1,x1.2.2.2.2.1,x1.2.2.2.2.2.1,x1.2.2.2.2.2.2.1,x1.2.2.2.2.2.2.2)))))
 else (some (.done (x1.1,x1.2.1,(x1.2.2.2.1,x1.2.2.2.2.1,x1.2.2.2.2.2.1,x1.2.2.2.2.2.2.1,x1.2.2.2.2.2.2.2))))
def b3i (table:(List (ByteArray×(List Solve_Way)))×(List (ByteArray×Int)))(l:List Api_EntryForm):Option (Api_EntryForm×Int×Bool) :=
 (j7 (b8Z table l) ((l.length:Int).toNat+1) (0,false,0,(([]:List Api_Goal),false,([]:List Int),([]:List Int),false))).bind fun b7 =>
 some (Api_EntryForm.mk b7.2.2.1 b7.2.2.2.1 (Api_Goal.mk b7.2.2.2.2.1 b7.2.2.2.2.2.1 b7.2.2.2.2.2.2),b7.1,b7.2.1)
def b57 (table:(List (ByteArray×(List Solve_Way)))×(List (ByteArray×Int)))(w:Solve_Way)(x2:Int×Int):Option (Fl (Int×Int) (Sum Int Int)) :=
 bif decide (x2.2<(w.Entries.length:Int))
 then ((idx w.Entries x2.2).bind fun e3 =>
 (b3i (table.1,table.2) e3).bind fun r4 =>
 bif !r4.2.2
 then (some (.done (.inr 0)))
 else (some (.next (max x2.1 r4.2.1,wr .i64 (x2.2+1)))))
 else (some (.done (.inl x2.1)))
def b0E (table:(List (ByteArray×(List Solve_Way)))×(List (ByteArray×Int)))(w:Solve_Way):Option Int :=
 (a5X (table.1,table.2) w.Alternative.Subgoals).bind fun r1 =>
 bif !r1.2
 then (some 0)
 else ((j7 (b57 table w) ((w.Entries.length:Int).toNat+1) (r1.1,0)).bind fun b5 =>
 w9 (fun x6 =>
 some (wr .i64 (x6+1))) (fun y7 =>
 some y7) b5)
def a9J (w:Solve_Way)(a1_1:(List (ByteArray×(List Solve_Way)))×(List (ByteArray×Int))):Option (Bool×Unit) :=
 (b0E (a1_1.1,a1_1.2) w).bind fun r1 =>
 some (decide (0<r1),())
def b7m (table:(List (ByteArray×(List Solve_Way)))×(List (ByteArray×Int)))(order:List ByteArray)(x1:(List ByteArray)×Int):Option (Fl ((List ByteArray)×Int) (List ByteArray)) :=
 bif decide (x1.2<(order.length:Int))
 then ((idx order x1.2).bind fun e2 =>
 bif decide (0<((a29 table.2 e2).getD (0:Int)))
 then (some (.next (x1.1,wr .i64 (x1.2+1))))
 else ((a2s ((a29 table.1 e2).getD ([]:List Solve_Way)) (fun z3 =>
 (a9J z3 (table.1,table.2)).bind fun r4 =>
 some r4.1)).bind fun r5 =>
 bif r5
 then ((k9 (x1.1.length+([e2]:List ByteArray).length) 16).bind fun _ =>
 some (.next (x1.1++([e2]:List ByteArray),wr .i64 (x1.2+1))))
 else (some (.next (x1.1,wr .i64 (x1.2+1))))))
 else (some (.done x1.1))
def b8g (height:Int)(b7:List ByteArray)(x10:Int×(List (ByteArray×Int))):Option (Fl (Int×(List (ByteArray×Int))) (Unit×(List (ByteArray×Int)))) :=
 bif decide (x10.1<(b7.length:Int))
 then ((idx b7 x10.1).bind fun e11 =>
 some (.next (wr .i64 (x10.1+1),a5j x10.2 e11 height)))
 else (some (.done ((),x10.2)))
def b1G (table:(List (ByteArray×(List Solve_Way)))×(List (ByteArray×Int)))(order:List ByteArray)(height:Int):Option ((Bool×Unit)×(List (ByteArray×(List Solve_Way)))×(List (ByteArray×Int))) :=
 (j7 (b7m table order) ((order.length:Int).toNat+1) ([],0)).bind fun b7 =>
 (j7 (b8g height b7) ((b7.length:Int).toNat+1) (0,table.2)).bind fun b12 =>
 some ((decide (0<(b7.length:Int)),()),table.1,b12.2)
noncomputable def c2u (r6:List Solve_Way)(x8:(List Api_Goal)×Int):Option (Fl ((List Api_Goal)×Int) (List Api_Goal)) :=
 bif decide (x8.2<(r6.length:Int))
 then ((idx r6 x8.2).bind fun e9 =>
 (b68 e9).bind fun r10 =>
 (k9 (x8.1.length+r10.length) 56).bind fun _ =>
 some (.next (x8.1++r10,wr .i64 (x8.2+1))))
 else (some (.done x8.1))
noncomputable def c2k (d:Api_Type)(n:Nat)(x1:(List Api_Goal)×(List ByteArray)×((List (ByteArray×(List Solve_Way)))×(List (ByteArray×Int)))):Option (Fl ((List Api_Goal)×(List ByteArray)×((List (ByteArray×(List Solve_Way)))×(List (ByteArray×Int)))) ((List ByteArray)×((List (ByteArray×(List Solve_Way)))×(List (ByteArray×Int))))) :=
 bif decide (0<(x1.1.length:Int))
 then ((idx x1.1 (wr .i64 ((x1.1.length:Int)-1))).bind fun _ =>
 (x1.1[(wr .i64 ((x1.1.length:Int)-1)).toNat]?).bind fun e3 =>
 (cut x1.1 0 (wr .i64 ((x1.1.length:Int)-1))).bind fun y4 =>
 (b2i e3).bind fun r5 =>
 bif (a29 x1.2.2.1 r5).isSome
 then (some (.next (y4,x1.2.1,(x1.2.2.1,x1.2.2.2))))
 else ((c4Q n d e3).bind fun r6 =>
 (k9 (x1.2.1.length+([r5]:List ByteArray).length) 16).bind fun _ =>
 (j7 (c2u r6) ((r6.length:Int).toNat+1) (y4,0)).bind fun b12 =>
 some (.next (b12,x1.2.1++([r5]:List ByteArray),(a5j x1.2.2.1 r5 r6,x1.2.2.2)))))
 else (some (.done (x1.2.1,(x1.2.2.1,x1.2.2.2))))
noncomputable def c22 (b13:(List ByteArray)×((List (ByteArray×(List Solve_Way)))×(List (ByteArray×Int))))(x14:Int×((List (ByteArray×(List Solve_Way)))×(List (ByteArray×Int)))):Option (Fl (Int×((List (ByteArray×(List Solve_Way)))×(List (ByteArray×Int)))) ((List (ByteArray×(List Solve_Way)))×(List (ByteArray×Int)))) :=
 (b1G (x14.2.1,x14.2.2) b13.1 x14.1).bind fun r15 =>
 bif r15.1.1
 then (some (.next (wr .i64 (x14.1+1),(r15.2.1,r15.2.2))))
 else (some (.done (r15.2.1,r15.2.2)))
noncomputable def b8x (n:Nat)(d:Api_Type)(t:Api_Goal):Option ((List (ByteArray×(List Solve_Way)))×(List (ByteArray×Int))) :=
 (j7 (c2k d n) n (([t]:List Api_Goal),[],(([]:List (ByteArray×(List Solve_Way))),([]:List (ByteArray×Int))))).bind fun b13 =>
 (j7 (c22 b13) n (1,(b13.2.1,b13.2.2))).bind fun b16 =>
 some (b16.1,b16.2)
noncomputable def b1t (n:Nat)(t:Api_Type)(g:Api_Goal):Option Int :=
 (K4 n t).bind fun r1 =>
 (bif r1 != 0
 then (some true)
 else ((b5f t g).bind fun r2 =>
 some (!r2))).bind fun q3 =>
 bif q3
 then (some 0)
 else ((b8x n t g).bind fun r4 =>
 (b2i g).bind fun r5 =>
 some ((a29 r4.2 r5).getD (0:Int)))
noncomputable def b4s (n:Nat)(t:Api_Type)(g:Api_Goal):Option Bool :=
 (b1t n t g).bind fun r1 =>
 some (r1 != 0)
noncomputable def b1D (n:Nat)(s:Api_Type)(t:Api_Type):Option Bool :=
 (b2N n s t).bind fun r1 =>
 (b4s n r1.1 r1.2).bind fun r2 =>
 some (!r2)
noncomputable def b1z (n:Nat)(c:Api_Constraint)(a1_1:List Api_Binding):Option Bool :=
 (a6v n c.Lower a1_1).bind fun r1 =>
 (a6v n c.Upper a1_1).bind fun r2 =>
 (b1D n r1 r2).bind fun r3 =>
 some (!r3)
noncomputable def a9d (n:Nat)(l:List Api_Constraint)(s:List Api_Binding):Option Bool :=
 (a08 l (fun z1 =>
 (b1z n z1 s).bind fun r2 =>
 some r2)).bind fun r3 =>
 some (!r3)
noncomputable def c4Z (t:List ByteArray)(a2_2:List Api_Type)(x2:Int×Int):Option (Fl (Int×Int) (Sum Int ((List (List Int))×Int))) :=
 bif decide (x2.2<(t.length:Int))
 then (bif decide (256<(wr .i64 (x2.1*(a2_2.length:Int))))
 then (some (.done (.inr ([],2))))
 else (some (.next (wr .i64 (x2.1*(a2_2.length:Int)),wr .i64 (x2.2+1)))))
 else (some (.done (.inl x2.1)))
noncomputable def c5d (a2_2:List Api_Type)(x8:(List Int)×Int×Int):Option (Fl ((List Int)×Int×Int) (List Int)) :=
 bif decide (0<=x8.2.2)
 then ((b3w x8.2.1 (a2_2.length:Int)).bind fun d9 =>
 (idx x8.1 x8.2.2).bind fun _ =>
 (x8.1[x8.2.2.toNat]?).bind fun _ =>
 (b4j .i64 x8.2.1 (a2_2.length:Int)).bind fun d12 =>
 some (.next (x8.1.set x8.2.2.toNat d9,d12,wr .i64 (x8.2.2-1))))
 else (some (.done x8.1))
noncomputable def c53 (t:List ByteArray)(a2_2:List Api_Type)(b13:List Int)(x14:(List Api_Binding)×Int):Option (Fl ((List Api_Binding)×Int) (List Api_Binding)) :=
 bif decide (x14.2<(b13.length:Int))
 then ((idx b13 x14.2).bind fun e15 =>
 (idx t x14.2).bind fun e16 =>
 (idx a2_2 e15).bind fun e17 =>
 (k9 (x14.1.length+([Api_Binding.mk e16 e17]:List Api_Binding).length) 48).bind fun _ =>
 some (.next (x14.1++([Api_Binding.mk e16 e17]:List Api_Binding),wr .i64 (x14.2+1))))
 else (some (.done x14.1))
noncomputable def c5T (d:List Api_Constraint)(t:List ByteArray)(a2_2:List Api_Type)(x4:Int)(n:Nat)(x6:(List (List Int))×Int):Option (Fl ((List (List Int))×Int) (List (List Int))) :=
 bif decide (x6.2<x4)
 then ((a6d (t.length:Int) (t.length:Int) 8).bind fun m7 =>
 (j7 (c5d a2_2) ((wr .i64 ((t.length:Int)-1)).toNat+2) (d8D m7 (0:Int),x6.2,wr .i64 ((t.length:Int)-1))).bind fun b13 =>
 (j7 (c53 t a2_2 b13) ((b13.length:Int).toNat+1) ([],0)).bind fun b19 =>
 (a9d n d b19).bind fun r20 =>
 bif r20
 then ((k9 (x6.1.length+([b13]:List (List Int)).length) 24).bind fun _ =>
 some (.next (x6.1++([b13]:List (List Int)),wr .i64 (x6.2+1))))
 else (some (.next (x6.1,wr .i64 (x6.2+1)))))
 else (some (.done x6.1))
noncomputable def c15 (n:Nat)(d:List Api_Constraint)(t:List ByteArray)(a2_2:List Api_Type):Option ((List (List Int))×Int) :=
 (b2G t).bind fun r1 =>
 bif r1 != 0
 then (some ([],r1))
 else ((j7 (c4Z t a2_2) ((t.length:Int).toNat+1) (1,0)).bind fun b3 =>
 w9 (fun x4 =>
 (j7 (c5T d t a2_2 x4 n) (x4.toNat+1) ([],0)).bind fun b22 =>
 some (b22,0)) (fun y5 =>
 some (y5.1,y5.2)) b3)
noncomputable def a4O (n:Nat):Option Bool :=
 (b8s n ([Api_Range.mk 0 9]:List Api_Range)).bind fun r1 =>
 (a1y (⟨#[65]⟩:ByteArray)).bind fun r2 =>
 (a6a).bind fun r3 =>
 (b2A).bind fun r4 =>
 (c15 n ([Api_Constraint.mk r2 r1]:List Api_Constraint) ([(⟨#[65]⟩:ByteArray)]:List ByteArray) ([r3,r4,r1]:List Api_Type)).bind fun r5 =>
 (bif r5.2==0
 then (some ((r5.1.length:Int)==2))
 else (some false)).bind fun q6 =>
 (bif q6
 then ((idx r5.1 0).bind fun _ =>
 (r5.1[(0:Int).toNat]?).bind fun e8 =>
 (idx e8 0).bind fun e9 =>
 some (e9==0))
 else (some false)).bind fun q10 =>
 (bif q10
 then ((idx r5.1 1).bind fun _ =>
 (r5.1[(1:Int).toNat]?).bind fun e12 =>
 (idx e12 0).bind fun e13 =>
 some (e13==2))
 else (some false)).bind fun q14 =>
 bif q14
 then ((a9d n ([Api_Constraint.mk r2 r1]:List Api_Constraint) ([Api_Binding.mk (⟨#[65]⟩:ByteArray) r1]:List Api_Binding)).bind fun r15 =>
 some r15)
 else (some false)
def j5 (s:Semtypebase_Source)(n_1:Int):Option (Int×Semtypebase_Source) :=
 (bif decide (n_1<1)
 then (some true)
 else (some (decide ((s.L.length:Int)<=s.At)))).bind fun q1 =>
 bif q1
 then (some (0,s))
 else ((idx s.L s.At).bind fun e2 =>
 (b3w e2 n_1).bind fun d3 =>
 bif decide (d3<0)
 then (some (wr .i64 (d3+n_1),Semtypebase_Source.mk s.L (wr .i64 (s.At+1))))
 else (some (d3,Semtypebase_Source.mk s.L (wr .i64 (s.At+1)))))
def V8 (s:Semtypebase_Source):Option (ByteArray×Semtypebase_Source) :=
 (j5 s 4).bind fun r1 =>
 (idx ([(⟨#[97]⟩:ByteArray),(⟨#[98]⟩:ByteArray),(⟨#[111,107]⟩:ByteArray),(⟨#[101,114,114,111,114]⟩:ByteArray)]:List ByteArray) r1.1).bind fun _ =>
 (([(⟨#[97]⟩:ByteArray),(⟨#[98]⟩:ByteArray),(⟨#[111,107]⟩:ByteArray),(⟨#[101,114,114,111,114]⟩:ByteArray)]:List ByteArray)[r1.1.toNat]?).bind fun e3 =>
 some (e3,r1.2)
def X9 (s:Semtypebase_Source):Option (ByteArray×Semtypebase_Source) :=
 (j5 s 4).bind fun r1 =>
 (idx ([(⟨#[]⟩:ByteArray),(⟨#[115]⟩:ByteArray),(⟨#[120,32,121]⟩:ByteArray),(⟨#[97]⟩:ByteArray)]:List ByteArray) r1.1).bind fun _ =>
 (([(⟨#[]⟩:ByteArray),(⟨#[115]⟩:ByteArray),(⟨#[120,32,121]⟩:ByteArray),(⟨#[97]⟩:ByteArray)]:List ByteArray)[r1.1.toNat]?).bind fun e3 =>
 some (e3,r1.2)
def K9 (s:Semtypebase_Source):Option (ByteArray×Semtypebase_Source) :=
 (j5 s 3).bind fun r1 =>
 (idx ([(⟨#[65]⟩:ByteArray),(⟨#[66]⟩:ByteArray),(⟨#[67]⟩:ByteArray)]:List ByteArray) r1.1).bind fun _ =>
 (([(⟨#[65]⟩:ByteArray),(⟨#[66]⟩:ByteArray),(⟨#[67]⟩:ByteArray)]:List ByteArray)[r1.1.toNat]?).bind fun e3 =>
 some (e3,r1.2)
def a1b (from_:Int)(n_3:Int)(x1:Int×(List Int)×Semtypebase_Source):Option (Fl (Int×(List Int)×Semtypebase_Source) ((List Int)×Semtypebase_Source)) :=
 bif decide (0<x1.1)
 then ((j5 x1.2.2 (wr .i64 (n_3-from_))).bind fun r2 =>
 (k9 (x1.2.1.length+([wr .i64 (from_+r2.1)]:List Int).length) 8).bind fun _ =>
 some (.next (wr .i64 (x1.1-1),x1.2.1++([wr .i64 (from_+r2.1)]:List Int),r2.2)))
 else (some (.done (x1.2.1,x1.2.2)))
def v7 (s:Semtypebase_Source)(many:Int)(from_:Int)(n_3:Int):Option ((List Int)×Semtypebase_Source) :=
 (j7 (a1b from_ n_3) (many.toNat+2) (many,[],s)).bind fun b4 =>
 some (b4.1,b4.2)
def W9 (n_1:Int)(x3:Int×Semtypebase_Source×(Int×Int×Int×ByteArray×(List Int)×(List Api_Field)×Int×Int)):Option (Fl (Int×Semtypebase_Source×(Int×Int×Int×ByteArray×(List Int)×(List Api_Field)×Int×Int)) (Semtypebase_Source×(Int×Int×Int×ByteArray×(List Int)×(List Api_Field)×Int×Int))) :=
 bif decide (x3.1<3)
 then (((j5 x3.2.1 2).bind fun r4 =>
 bif r4.1==1
 then ((idx ([Key.mk 0 (⟨#[97]⟩:ByteArray),Key.mk 0 (⟨#[98]⟩:ByteArray),Key.mk 1 (⟨#[115]⟩:ByteArray)]:List Key) x3.1).bind fun e5 =>
 (j5 r4.2 n_1).bind fun r6 =>
 (j5 r6.2 2).bind fun r7 =>
 (k9 (x3.2.2.2.2.2.2.2.1.length+([Api_Field.mk e5 r6.1 (r7.1==1)]:List Api_Field).length) 40).bind fun _ =>
 some (r7.2,(x3.2.2.1,x3.2.2.2.1,x3.2.2.2.2.1,x3.2.2.2.2.2.1,x3.2.2.2.2.2.2.1,x3.2.2.2.2.2.2.2.1++([Api_Field.mk e5 r6.1 (r7.1==1)]:List Api_Field),x3.2.2.2.2.2.2.2.2.1,x3.2.2.2.2.2.2.2.2.2)))
 else (some (r4.2,(x3.2.2.1,x3.2.2.2.1,x3.2.2.2.2.1,x3.2.2.2.2.2.1,x3.2.2.2.2.2.2.1,x3.2.2.2.2.2.2.2.1,x3.2.2.2.2.2.2.2.2.1,x3.2.2.2.2.2.2.2.2.2)))).bind fun b9 =>
 some (.next (wr .i64 (x3.1+1),b9.1,(b9.2.1,b9.2.2.1,b9.2.2.2.1,b9.2.2.2.2.1,b9.2.2.2.2.2.1,b9.2.2.2.2.2.2.1,b9.2.2.2.2.2.2.2.1,b9.2.2.2.2.2.2.2.2))))
 else (some (.done (x3.2.1,(x3.2.2.1,x3.2.2.2.1,x3.2.2.2.2.1,x3.2.2.2.2.2.1,x3.2.2.2.2.2.2.1,x3.2.2.2.2.2.2.2.1,x3.2.2.2.2.2.2.2.2.1,x3.2.2.2.2.2.2.2.2.2))))
def a1R (s:Semtypebase_Source)(n_1:Int):Option (Api_TypeNode×Semtypebase_Source) :=
 (j5 s n_1).bind fun r1 =>
 (j5 r1.2 n_1).bind fun r2 =>
 (j7 (W9 n_1) ((3:Int).toNat+1) (0,r2.2,(13,0,0,(⟨#[]⟩:ByteArray),[],[],r1.1,r2.1))).bind fun b10 =>
 some (Api_TypeNode.mk b10.2.1 b10.2.2.1 b10.2.2.2.1 b10.2.2.2.2.1 b10.2.2.2.2.2.1 b10.2.2.2.2.2.2.1 (b10.2.2.2.2.2.2.2.1,b10.2.2.2.2.2.2.2.2),b10.1)
def a2B (d:Semtypebase_Source)(t:Int)(a2_2:Int):Option (Api_TypeNode×Semtypebase_Source) :=
 (bif t==(wr .i64 (a2_2-1))
 then (some 14)
 else (some 18)).bind fun (b1:Int) =>
 (j5 d b1).bind fun r2 =>
 bif r2.1==0
 then ((j5 r2.2 5).bind fun r3 =>
 (idx ([(-9223372036854775808),0,1,2,9223372036854775807]:List Int) r3.1).bind fun _ =>
 (([(-9223372036854775808),0,1,2,9223372036854775807]:List Int)[r3.1.toNat]?).bind fun e5 =>
 (j5 r3.2 (wr .i64 (5-r3.1))).bind fun r6 =>
 (idx ([(-9223372036854775808),0,1,2,9223372036854775807]:List Int) (wr .i64 (r3.1+r6.1))).bind fun _ =>
 (([(-9223372036854775808),0,1,2,9223372036854775807]:List Int)[(wr .i64 (r3.1+r6.1)).toNat]?).bind fun e8 =>
 some (Api_TypeNode.mk 3 e5 e8 (⟨#[]⟩:ByteArray) ([]:List Int) ([]:List Api_Field) (0,0),r6.2))
 else (bif r2.1==1
 then ((V8 r2.2).bind fun r9 =>
 some (Api_TypeNode.mk 6 0 0 r9.1 ([]:List Int) ([]:List Api_Field) (0,0),r9.2))
 else (bif r2.1==2
 then (some (Api_TypeNode.mk 7 0 0 (⟨#[]⟩:ByteArray) ([]:List Int) ([]:List Api_Field) (0,0),r2.2))
 else (bif r2.1==3
 then ((X9 r2.2).bind fun r10 =>
 some (Api_TypeNode.mk 4 0 0 r10.1 ([]:List Int) ([]:List Api_Field) (0,0),r10.2))
 else (bif r2.1==4
 then ((j5 r2.2 4).bind fun r11 =>
 (idx ([5,8,11,15]:List Int) r11.1).bind fun _ =>
 (([5,8,11,15]:List Int)[r11.1.toNat]?).bind fun e13 =>
 some (Api_TypeNode.mk e13 0 0 (⟨#[]⟩:ByteArray) ([]:List Int) ([]:List Api_Field) (0,0),r11.2))
 else (bif r2.1==5
 then (some (Api_TypeNode.mk 9 0 0 (⟨#[]⟩:ByteArray) ([]:List Int) ([]:List Api_Field) (0,0),r2.2))
 else (bif r2.1==6
 then ((j5 r2.2 2).bind fun r14 =>
 (idx ([2,1]:List Int) r14.1).bind fun _ =>
 (([2,1]:List Int)[r14.1.toNat]?).bind fun e16 =>
 some (Api_TypeNode.mk e16 0 0 (⟨#[]⟩:ByteArray) ([]:List Int) ([]:List Api_Field) (0,0),r14.2))
 else (bif r2.1==7
 then ((K9 r2.2).bind fun r17 =>
 some (Api_TypeNode.mk 19 0 0 r17.1 ([]:List Int) ([]:List Api_Field) (0,0),r17.2))
 else ((bif r2.1==8
 then (some (r2.1==8))
 else (some (r2.1==9))).bind fun b18 =>
 bif b18
 then ((j5 r2.2 3).bind fun r19 =>
 (v7 r19.2 r19.1 0 a2_2).bind fun r20 =>
 some (Api_TypeNode.mk 10 0 0 (⟨#[]⟩:ByteArray) r20.1 ([]:List Api_Field) (0,0),r20.2))
 else (bif r2.1==10
 then ((v7 r2.2 2 0 a2_2).bind fun r21 =>
 some (Api_TypeNode.mk 12 0 0 (⟨#[]⟩:ByteArray) r21.1 ([]:List Api_Field) (0,0),r21.2))
 else (bif r2.1==11
 then ((a1R r2.2 a2_2).bind fun r22 =>
 some (r22.1,r22.2))
 else ((bif r2.1==12
 then (some (r2.1==12))
 else (some (r2.1==13))).bind fun b23 =>
 bif b23
 then ((j5 r2.2 3).bind fun r24 =>
 (v7 r24.2 (wr .i64 (1+r24.1)) 0 a2_2).bind fun r25 =>
 some (Api_TypeNode.mk 14 0 0 (⟨#[]⟩:ByteArray) r25.1 ([]:List Api_Field) (0,0),r25.2))
 else (bif r2.1==14
 then ((v7 r2.2 1 (wr .i64 (t+1)) a2_2).bind fun r26 =>
 some (Api_TypeNode.mk 18 0 0 (⟨#[]⟩:ByteArray) r26.1 ([]:List Api_Field) (0,0),r26.2))
 else (bif r2.1==15
 then ((v7 r2.2 2 (wr .i64 (t+1)) a2_2).bind fun r27 =>
 some (Api_TypeNode.mk 17 0 0 (⟨#[]⟩:ByteArray) r27.1 ([]:List Api_Field) (0,0),r27.2))
 else ((j5 r2.2 2).bind fun r28 =>
 (v7 r28.2 (wr .i64 (2+r28.1)) (wr .i64 (t+1)) a2_2).bind fun r29 =>
 some (Api_TypeNode.mk 16 0 0 (⟨#[]⟩:ByteArray) r29.1 ([]:List Api_Field) (0,0),r29.2)))))))))))))))
def a0O (n_1:Int)(x1:Int×Semtypebase_Source×((List Api_TypeNode)×Int)):Option (Fl (Int×Semtypebase_Source×((List Api_TypeNode)×Int)) (Semtypebase_Source×((List Api_TypeNode)×Int))) :=
 bif decide (x1.1<(max n_1 1))
 then ((a2B x1.2.1 x1.1 (max n_1 1)).bind fun r2 =>
 (k9 (x1.2.2.1.length+([r2.1]:List Api_TypeNode).length) 104).bind fun _ =>
 some (.next (wr .i64 (x1.1+1),r2.2,(x1.2.2.1++([r2.1]:List Api_TypeNode),x1.2.2.2))))
 else (some (.done (x1.2.1,(x1.2.2.1,x1.2.2.2))))
def a1x (s:Semtypebase_Source)(n_1:Int):Option (Api_Type×Semtypebase_Source) :=
 (j7 (a0O n_1) ((max n_1 1).toNat+1) (0,s,([],0))).bind fun b4 =>
 some (Api_Type.mk b4.2.1 b4.2.2,b4.1)
def a14 (s:Semtypebase_Source):Option (Int×Semtypebase_Source) :=
 (j5 s 10).bind fun r1 =>
 (idx ([0,1,(-1),2,3,(-2),7,(-9223372036854775808),9223372036854775807,10]:List Int) r1.1).bind fun _ =>
 (([0,1,(-1),2,3,(-2),7,(-9223372036854775808),9223372036854775807,10]:List Int)[r1.1.toNat]?).bind fun e3 =>
 some (e3,r1.2)
def a80 (n_0:Int):Option Val :=
 some (Val.mk 1 n_0 (⟨#[]⟩:ByteArray) ([]:List Val) ([]:List Key) ([]:List Ent) ([]:List ByteArray))
def a5W (s:ByteArray):Option Val :=
 some (Val.mk 3 0 s ([]:List Val) ([]:List Key) ([]:List Ent) ([]:List ByteArray))
def a4U (s:ByteArray):Option Val :=
 some (Val.mk 2 0 s ([]:List Val) ([]:List Key) ([]:List Ent) ([]:List ByteArray))
def a9b (n_0:Int):Option Val :=
 some (Val.mk 4 n_0 (⟨#[]⟩:ByteArray) ([]:List Val) ([]:List Key) ([]:List Ent) ([]:List ByteArray))
def a0c:Option Val :=
 some (Val.mk 5 0 (⟨#[]⟩:ByteArray) ([]:List Val) ([]:List Key) ([]:List Ent) ([]:List ByteArray))
def a1k (l:List Val):Option (List Val) :=
 (k9 (0+l.length) 128).bind fun _ =>
 some l
def a3v (l:List Val):Option Val :=
 (a1k l).bind fun r1 =>
 some (Val.mk 6 0 (⟨#[]⟩:ByteArray) r1 ([]:List Key) ([]:List Ent) ([]:List ByteArray))
def V4 (s:Semtypebase_Source):Option (Val×Semtypebase_Source) :=
 (j5 s 6).bind fun r1 =>
 bif r1.1==0
 then ((a14 r1.2).bind fun r2 =>
 (a80 r2.1).bind fun r3 =>
 some (r3,r2.2))
 else (bif r1.1==1
 then ((V8 r1.2).bind fun r4 =>
 (a5W r4.1).bind fun r5 =>
 some (r5,r4.2))
 else (bif r1.1==2
 then ((X9 r1.2).bind fun r6 =>
 (a4U r6.1).bind fun r7 =>
 some (r7,r6.2))
 else (bif r1.1==3
 then ((j5 r1.2 3).bind fun r8 =>
 (a9b r8.1).bind fun r9 =>
 some (r9,r8.2))
 else (bif r1.1==4
 then ((a0c).bind fun r10 =>
 some (r10,r1.2))
 else ((a3v ([]:List Val)).bind fun r11 =>
 some (r11,r1.2))))))
def a2r (c:Int):Option Bool :=
 (bif decide (97<=c)
 then (some (decide (c<=122)))
 else (some false)).bind fun q1 =>
 some q1
def a3p (c:Int):Option Bool :=
 (bif decide (48<=c)
 then (some (decide (c<=57)))
 else (some false)).bind fun q1 =>
 some q1
def a5e (s:ByteArray)(x5:Int):Option (Fl Int (Sum Unit Bool)) :=
 bif decide (x5<(s.size:Int))
 then ((a5M s x5).bind fun e6 =>
 (a2r (e6.toNat:Int)).bind fun r7 =>
 (bif !r7
 then ((a5M s x5).bind fun e8 =>
 (a3p (e8.toNat:Int)).bind fun r9 =>
 some (!r9))
 else (some false)).bind fun q10 =>
 (bif q10
 then ((a5M s x5).bind fun e11 =>
 some ((e11.toNat:Int) != 95))
 else (some false)).bind fun q12 =>
 bif q12
 then (some (.done (.inr false)))
 else (some (.next (wr .i64 (x5+1)))))
 else (some (.done (.inl ())))
def a1V (s:ByteArray):Option Bool :=
 (bif decide ((s.size:Int)<1)
 then (some true)
 else (some (decide (16<(s.size:Int))))).bind fun q1 =>
 (bif q1
 then (some true)
 else ((a5M s 0).bind fun e2 =>
 (a2r (e2.toNat:Int)).bind fun r3 =>
 some (!r3))).bind fun q4 =>
 bif q4
 then (some false)
 else ((j7 (a5e s) ((s.size:Int).toNat+1) 1).bind fun b13 =>
 w9 (fun _ =>
 some true) (fun y15 =>
 some y15) b13)
def a1s (k:Key):Option Bool :=
 (bif k.Kind==0
 then ((a1V k.Text).bind fun r1 =>
 some r1)
 else (some false)).bind fun q2 =>
 (bif q2
 then (some true)
 else ((bif k.Kind==1
 then (some (decide ((k.Text.size:Int)<=64)))
 else (some false)).bind fun q3 =>
 some q3)).bind fun q4 =>
 some q4
def a2o (a:Int)(b:Int):Option Int :=
 bif decide (a<b)
 then (some (-1))
 else (bif decide (b<a)
 then (some 1)
 else (some 0))
def a1i (a:ByteArray)(b:ByteArray):Option Int :=
 bif a2d a b
 then (some (-1))
 else (bif !(a2d a b||J4 a b)
 then (some 1)
 else (some 0))
def W6 (a:Key)(b:Key):Option Int :=
 bif a.Kind != b.Kind
 then ((a2o a.Kind b.Kind).bind fun r1 =>
 some r1)
 else ((a1i a.Text b.Text).bind fun r2 =>
 some r2)
def a1T (d:List Key)(x1:Int×(Int×Int×ByteArray×(List Val)×(List Key)×(List Ent)×(List ByteArray))):Option (Fl (Int×(Int×Int×ByteArray×(List Val)×(List Key)×(List Ent)×(List ByteArray))) (Sum (Int×Int×ByteArray×(List Val)×(List Key)×(List Ent)×(List ByteArray)) (Int×(Int×Int×ByteArray×(List Val)×(List Key)×(List Ent)×(List ByteArray))))) :=
 bif decide (x1.1<(d.length:Int))
 then ((idx d x1.1).bind fun e2 =>
 (a1s e2).bind fun r3 =>
 bif !r3
 then (some (.done (.inr (1,(0,0,(⟨#[]⟩:ByteArray),[],[],[],[])))))
 else (some (.next (wr .i64 (x1.1+1),(x1.2.1,x1.2.2.1,x1.2.2.2.1,x1.2.2.2.2.1,x1.2.2.2.2.2.1,x1.2.2.2.2.2.2.1,x1.2.2.2.2.2.2.2)))))
 else (some (.done (.inl (x1.2.1,x1.2.2.1,x1.2.2.2.1,x1.2.2.2.2.1,x1.2.2.2.2.2.1,x1.2.2.2.2.2.2.1,x1.2.2.2.2.2.2.2))))
def a4S (d:List Key)(x7:Int×(Int×Int×ByteArray×(List Val)×(List Key)×(List Ent)×(List ByteArray))×(Int×Int×ByteArray×(List Val)×(List Key)×(List Ent)×(List ByteArray)))(x8:Int):Option (Fl Int Int) :=
 (bif decide (x8<(x7.2.2.2.2.2.2.1.length:Int))
 then ((idx x7.2.2.2.2.2.2.1 x8).bind fun e9 =>
 (idx d x7.1).bind fun e10 =>
 (W6 e9 e10).bind fun r11 =>
 some (decide (r11<0)))
 else (some false)).bind fun q12 =>
 bif q12
 then (some (.next (wr .i64 (x8+1))))
 else (some (.done x8))
def a1h (d:List Key)(t:List Val)(x7:Int×(Int×Int×ByteArray×(List Val)×(List Key)×(List Ent)×(List ByteArray))×(Int×Int×ByteArray×(List Val)×(List Key)×(List Ent)×(List ByteArray))):Option (Fl (Int×(Int×Int×ByteArray×(List Val)×(List Key)×(List Ent)×(List ByteArray))×(Int×Int×ByteArray×(List Val)×(List Key)×(List Ent)×(List ByteArray))) (Sum ((Int×Int×ByteArray×(List Val)×(List Key)×(List Ent)×(List ByteArray))×(Int×Int×ByteArray×(List Val)×(List Key)×(List Ent)×(List ByteArray))) (Int×(Int×Int×ByteArray×(List Val)×(List Key)×(List Ent)×(List ByteArray))×(Int×Int×ByteArray×(List Val)×(List Key)×(List Ent)×(List ByteArray))))) :=
 bif decide (x7.1<(d.length:Int))
 then ((j7 (a4S d x7) ((x7.2.2.2.2.2.2.1.length:Int).toNat+1) 0).bind fun b13 =>
 (bif decide (b13<(x7.2.2.2.2.2.2.1.length:Int))
 then ((idx x7.2.2.2.2.2.2.1 b13).bind fun e14 =>
 (idx d x7.1).bind fun e15 =>
 some (a2p e14 e15))
 else (some false)).bind fun q16 =>
 bif q16
 then (some (.done (.inr (6,(0,0,(⟨#[]⟩:ByteArray),[],[],[],[]),(x7.2.2.1,x7.2.2.2.1,x7.2.2.2.2.1,x7.2.2.2.2.2.1,x7.2.2.2.2.2.2.1,x7.2.2.2.2.2.2.2.1,x7.2.2.2.2.2.2.2.2)))))
 else ((cut x7.2.2.2.2.2.2.1 0 b13).bind fun y17 =>
 (k9 (0+y17.length) 24).bind fun _ =>
 (cut x7.2.2.2.2.2.1 0 b13).bind fun y19 =>
 (a1k y19).bind fun r20 =>
 (idx d x7.1).bind fun e21 =>
 (k9 (y17.length+([e21]:List Key).length) 24).bind fun _ =>
 (cut x7.2.2.2.2.2.2.1 b13 (x7.2.2.2.2.2.2.1.length:Int)).bind fun y23 =>
 (k9 ((y17++([e21]:List Key)).length+y23.length) 24).bind fun _ =>
 (idx t x7.1).bind fun e25 =>
 (k9 (r20.length+([e25]:List Val).length) 128).bind fun _ =>
 (cut x7.2.2.2.2.2.1 b13 (x7.2.2.2.2.2.1.length:Int)).bind fun y27 =>
 (k9 ((r20++([e25]:List Val)).length+y27.length) 128).bind fun _ =>
 some (.next (wr .i64 (x7.1+1),(x7.2.1.1,x7.2.1.2.1,x7.2.1.2.2.1,x7.2.1.2.2.2.1,x7.2.1.2.2.2.2.1,x7.2.1.2.2.2.2.2.1,x7.2.1.2.2.2.2.2.2),(x7.2.2.1,x7.2.2.2.1,x7.2.2.2.2.1,(r20++([e25]:List Val))++y27,(y17++([e21]:List Key))++y23,x7.2.2.2.2.2.2.2.1,x7.2.2.2.2.2.2.2.2)))))
 else (some (.done (.inl ((x7.2.1.1,x7.2.1.2.1,x7.2.1.2.2.1,x7.2.1.2.2.2.1,x7.2.1.2.2.2.2.1,x7.2.1.2.2.2.2.2.1,x7.2.1.2.2.2.2.2.2),(x7.2.2.1,x7.2.2.2.1,x7.2.2.2.2.1,x7.2.2.2.2.2.1,x7.2.2.2.2.2.2.1,x7.2.2.2.2.2.2.2.1,x7.2.2.2.2.2.2.2.2)))))
def a2b (d:List Key)(t:List Val):Option (Val×Int) :=
 bif (d.length:Int) != (t.length:Int)
 then (some (Val.mk 0 0 (⟨#[]⟩:ByteArray) ([]:List Val) ([]:List Key) ([]:List Ent) ([]:List ByteArray),1))
 else ((j7 (a1T d) ((d.length:Int).toNat+1) (0,(0,0,(⟨#[]⟩:ByteArray),[],[],[],[]))).bind fun (b4:Sum (Int×Int×ByteArray×(List Val)×(List Key)×(List Ent)×(List ByteArray)) (Int×(Int×Int×ByteArray×(List Val)×(List Key)×(List Ent)×(List ByteArray)))) =>
 w9 (fun x5 =>
 (j7 (a1h d t) ((d.length:Int).toNat+1) (0,(x5.1,x5.2.1,x5.2.2.1,x5.2.2.2.1,x5.2.2.2.2.1,x5.2.2.2.2.2.1,x5.2.2.2.2.2.2),(8,0,(⟨#[]⟩:ByteArray),([]:List Val),([]:List Key),[],[]))).bind fun (b29:Sum ((Int×Int×ByteArray×(List Val)×(List Key)×(List Ent)×(List ByteArray))×(Int×Int×ByteArray×(List Val)×(List Key)×(List Ent)×(List ByteArray))) (Int×(Int×Int×ByteArray×(List Val)×(List Key)×(List Ent)×(List ByteArray))×(Int×Int×ByteArray×(List Val)×(List Key)×(List Ent)×(List ByteArray)))) =>
 w9 (fun x30 =>
 some (Val.mk x30.2.1 x30.2.2.1 x30.2.2.2.1 x30.2.2.2.2.1 x30.2.2.2.2.2.1 x30.2.2.2.2.2.2.1 x30.2.2.2.2.2.2.2,0)) (fun y31 =>
 some (Val.mk y31.2.1.1 y31.2.1.2.1 y31.2.1.2.2.1 y31.2.1.2.2.2.1 y31.2.1.2.2.2.2.1 y31.2.1.2.2.2.2.2.1 y31.2.1.2.2.2.2.2.2,y31.1)) b29) (fun y6 =>
 some (Val.mk y6.2.1 y6.2.2.1 y6.2.2.2.1 y6.2.2.2.2.1 y6.2.2.2.2.2.1 y6.2.2.2.2.2.2.1 y6.2.2.2.2.2.2.2,y6.1)) b4)
def a0u (a:Int)(b:Int):Option Int :=
 (a2o a b).bind fun r1 =>
 some r1
def a7Q (d:Val)(t:Val)(x5:Int):Option (Fl Int (Sum Unit Int)) :=
 bif decide (x5<(d.Keys.length:Int))
 then ((idx d.Keys x5).bind fun e6 =>
 (idx t.Keys x5).bind fun e7 =>
 (W6 e6 e7).bind fun r8 =>
 bif r8 != 0
 then (some (.done (.inr r8)))
 else (some (.next (wr .i64 (x5+1)))))
 else (some (.done (.inl ())))
def a7L (d:Val)(t:Val)(rec_semtyperef1_CompareEntries:Ent->Ent->Option Int)(x14:Int):Option (Fl Int (Sum Unit Int)) :=
 bif decide (x14<(d.Entries.length:Int))
 then ((idx d.Entries x14).bind fun e15 =>
 (idx t.Entries x14).bind fun e16 =>
 (rec_semtyperef1_CompareEntries e15 e16).bind fun r17 =>
 bif r17 != 0
 then (some (.done (.inr r17)))
 else (some (.next (wr .i64 (x14+1)))))
 else (some (.done (.inl ())))
def a7K (d:Val)(t:Val)(x22:Int):Option (Fl Int (Sum Unit Int)) :=
 bif decide (x22<(d.Labels.length:Int))
 then ((idx d.Labels x22).bind fun e23 =>
 (idx t.Labels x22).bind fun e24 =>
 (a1i e23 e24).bind fun r25 =>
 bif r25 != 0
 then (some (.done (.inr r25)))
 else (some (.next (wr .i64 (x22+1)))))
 else (some (.done (.inl ())))
def a8r (a:List Val)(b:List Val)(rec_semtyperef1_Compare:Val->Val->Option Int)(x2:Int):Option (Fl Int (Sum Unit Int)) :=
 bif decide (x2<(a.length:Int))
 then ((idx a x2).bind fun e3 =>
 (idx b x2).bind fun e4 =>
 (rec_semtyperef1_Compare e3 e4).bind fun r5 =>
 bif r5 != 0
 then (some (.done (.inr r5)))
 else (some (.next (wr .i64 (x2+1)))))
 else (some (.done (.inl ())))
def a5q (_:Nat)(_:Val->Val->Option Int)(rec_semtyperef1_values:(List Val)->(List Val)->Option Int)(rec_semtyperef1_CompareEntries:Ent->Ent->Option Int)(d:Val)(t:Val):Option Int :=
 bif d.Kind != t.Kind
 then ((a0u d.Kind t.Kind).bind fun r1 =>
 some r1)
 else (bif d.Int_ != t.Int_
 then ((a2o d.Int_ t.Int_).bind fun r2 =>
 some r2)
 else (bif !(J4 d.Text t.Text)
 then ((a1i d.Text t.Text).bind fun r3 =>
 some r3)
 else (bif (d.Keys.length:Int) != (t.Keys.length:Int)
 then ((a0u (d.Keys.length:Int) (t.Keys.length:Int)).bind fun r4 =>
 some r4)
 else ((j7 (a7Q d t) ((d.Keys.length:Int).toNat+1) 0).bind fun b9 =>
 w9 (fun _ =>
 (rec_semtyperef1_values d.Kids t.Kids).bind fun r12 =>
 bif r12 != 0
 then (some r12)
 else (bif (d.Entries.length:Int) != (t.Entries.length:Int)
 then ((a0u (d.Entries.length:Int) (t.Entries.length:Int)).bind fun r13 =>
 some r13)
 else ((j7 (a7L d t rec_semtyperef1_CompareEntries) ((d.Entries.length:Int).toNat+1) 0).bind fun b18 =>
 w9 (fun _ =>
 bif (d.Labels.length:Int) != (t.Labels.length:Int)
 then ((a0u (d.Labels.length:Int) (t.Labels.length:Int)).bind fun r21 =>
 some r21)
 else ((j7 (a7K d t) ((d.Labels.length:Int).toNat+1) 0).bind fun b26 =>
 w9 (fun _ =>
 some 0) (fun y28 =>
 some y28) b26)) (fun y20 =>
 some y20) b18))) (fun y11 =>
 some y11) b9))))
def a5E (_:Nat)(rec_semtyperef1_Compare:Val->Val->Option Int)(_:(List Val)->(List Val)->Option Int)(_:Ent->Ent->Option Int)(a:List Val)(b:List Val):Option Int :=
 bif (a.length:Int) != (b.length:Int)
 then ((a0u (a.length:Int) (b.length:Int)).bind fun r1 =>
 some r1)
 else ((j7 (a8r a b rec_semtyperef1_Compare) ((a.length:Int).toNat+1) 0).bind fun b6 =>
 w9 (fun _ =>
 some 0) (fun y8 =>
 some y8) b6)
def a2N (_:Nat)(rec_semtyperef1_Compare:Val->Val->Option Int)(rec_semtyperef1_values:(List Val)->(List Val)->Option Int)(_:Ent->Ent->Option Int)(a:Ent)(b:Ent):Option Int :=
 (rec_semtyperef1_values a.Args b.Args).bind fun r1 =>
 bif r1 != 0
 then (some r1)
 else (bif a.Fails != b.Fails
 then (bif a.Fails
 then (some (-1))
 else (some 1))
 else ((rec_semtyperef1_Compare a.Result b.Result).bind fun r2 =>
 some r2))
def Q8:Nat->(Val->Val->Option Int)×((List Val)->(List Val)->Option Int)×(Ent->Ent->Option Int)
 | 0=>(fun _ _=>none,fun _ _=>none,fun _ _=>none)
 | n+1=>(a5q n ((Q8 n).1) ((Q8 n).2.1) ((Q8 n).2.2),a5E n ((Q8 n).1) ((Q8 n).2.1) ((Q8 n).2.2),a2N n ((Q8 n).1) ((Q8 n).2.1) ((Q8 n).2.2))
def a0r (n:Nat):Val->Val->Option Int:=(Q8 n).1
def a2Y (n:Nat):(List Val)->(List Val)->Option Int:=(Q8 n).2.1
def Q1 (n:Nat):Ent->Ent->Option Int:=(Q8 n).2.2
def a3r (n:Nat)(a:Val)(b:Val):Option Bool :=
 (a0r n a b).bind fun r1 =>
 some (r1==0)
def a2Q (l:List Ent)(x1:(List Ent)×Int)(n:Nat)(x2:Int):Option (Fl Int Int) :=
 (bif decide (x2<(x1.1.length:Int))
 then ((idx x1.1 x2).bind fun e3 =>
 (idx l x1.2).bind fun _ =>
 (l[x1.2.toNat]?).bind fun e5 =>
 (Q1 n e3 e5).bind fun r6 =>
 some (decide (r6<0)))
 else (some false)).bind fun q7 =>
 bif q7
 then (some (.next (wr .i64 (x2+1))))
 else (some (.done x2))
def a0i (l:List Ent)(n:Nat)(x1:(List Ent)×Int):Option (Fl ((List Ent)×Int) (List Ent)) :=
 bif decide (x1.2<(l.length:Int))
 then (((j7 (a2Q l x1 n) ((x1.1.length:Int).toNat+1) 0).bind fun b8 =>
 (bif decide (b8<(x1.1.length:Int))
 then ((idx x1.1 b8).bind fun e9 =>
 (idx l x1.2).bind fun _ =>
 (l[x1.2.toNat]?).bind fun e11 =>
 (Q1 n e9 e11).bind fun r12 =>
 some (r12==0))
 else (some false)).bind fun q13 =>
 bif q13
 then (some x1.1)
 else ((cut x1.1 0 b8).bind fun y14 =>
 (k9 (0+y14.length) 160).bind fun _ =>
 (idx l x1.2).bind fun _ =>
 (l[x1.2.toNat]?).bind fun e17 =>
 (k9 (y14.length+([e17]:List Ent).length) 160).bind fun _ =>
 (cut x1.1 b8 (x1.1.length:Int)).bind fun y19 =>
 (k9 ((y14++([e17]:List Ent)).length+y19.length) 160).bind fun _ =>
 some ((y14++([e17]:List Ent))++y19))).bind fun b21 =>
 some (.next (b21,wr .i64 (x1.2+1))))
 else (some (.done x1.1))
def a4p (n:Nat)(l:List Ent):Option (List Ent) :=
 (j7 (a0i l n) ((l.length:Int).toNat+1) (([]:List Ent),0)).bind fun b22 =>
 some b22
def a0I (arity:Int)(l:List Ent)(n:Nat)(x2:Int×(Int×Int×ByteArray×(List Val)×(List Key)×(List Ent)×(List ByteArray))):Option (Fl (Int×(Int×Int×ByteArray×(List Val)×(List Key)×(List Ent)×(List ByteArray))) (Sum (Int×Int×ByteArray×(List Val)×(List Key)×(List Ent)×(List ByteArray)) (Int×(Int×Int×ByteArray×(List Val)×(List Key)×(List Ent)×(List ByteArray))))) :=
 bif decide (x2.1<(l.length:Int))
 then ((idx l x2.1).bind fun _ =>
 (l[x2.1.toNat]?).bind fun e4 =>
 (bif (e4.Args.length:Int) != arity
 then (some true)
 else ((idx l x2.1).bind fun _ =>
 (l[x2.1.toNat]?).bind fun e6 =>
 (bif e6.Fails
 then ((idx l x2.1).bind fun _ =>
 (l[x2.1.toNat]?).bind fun e8 =>
 (a3r n e8.Result (Val.mk 0 0 (⟨#[]⟩:ByteArray) ([]:List Val) ([]:List Key) ([]:List Ent) ([]:List ByteArray))).bind fun r9 =>
 some (!r9))
 else (some false)).bind fun q10 =>
 some q10)).bind fun q11 =>
 bif q11
 then (some (.done (.inr (1,(0,0,(⟨#[]⟩:ByteArray),[],[],[],[])))))
 else (some (.next (wr .i64 (x2.1+1),(x2.2.1,x2.2.2.1,x2.2.2.2.1,x2.2.2.2.2.1,x2.2.2.2.2.2.1,x2.2.2.2.2.2.2.1,x2.2.2.2.2.2.2.2)))))
 else (some (.done (.inl (x2.2.1,x2.2.2.1,x2.2.2.2.1,x2.2.2.2.2.1,x2.2.2.2.2.2.1,x2.2.2.2.2.2.2.1,x2.2.2.2.2.2.2.2))))
def a2e (n:Nat)(arity:Int)(l:List Ent):Option (Val×Int) :=
 (bif decide (arity<0)
 then (some true)
 else (some (decide (4<arity)))).bind fun q1 =>
 bif q1
 then (some (Val.mk 0 0 (⟨#[]⟩:ByteArray) ([]:List Val) ([]:List Key) ([]:List Ent) ([]:List ByteArray),1))
 else ((j7 (a0I arity l n) ((l.length:Int).toNat+1) (0,(0,0,(⟨#[]⟩:ByteArray),[],[],[],[]))).bind fun (b12:Sum (Int×Int×ByteArray×(List Val)×(List Key)×(List Ent)×(List ByteArray)) (Int×(Int×Int×ByteArray×(List Val)×(List Key)×(List Ent)×(List ByteArray)))) =>
 w9 (fun _ =>
 (a4p n l).bind fun r15 =>
 some (Val.mk 9 arity (⟨#[]⟩:ByteArray) ([]:List Val) ([]:List Key) r15 ([]:List ByteArray),0)) (fun y14 =>
 some (Val.mk y14.2.1 y14.2.2.1 y14.2.2.2.1 y14.2.2.2.2.1 y14.2.2.2.2.2.1 y14.2.2.2.2.2.2.1 y14.2.2.2.2.2.2.2,y14.1)) b12)
def a3e (l:List ByteArray)(x1:(List ByteArray)×Int)(x2:Int):Option (Fl Int Int) :=
 (bif decide (x2<(x1.1.length:Int))
 then ((idx x1.1 x2).bind fun e3 =>
 (idx l x1.2).bind fun e4 =>
 some (a2d e3 e4))
 else (some false)).bind fun q5 =>
 bif q5
 then (some (.next (wr .i64 (x2+1))))
 else (some (.done x2))
def a0A (l:List ByteArray)(x1:(List ByteArray)×Int):Option (Fl ((List ByteArray)×Int) (List ByteArray)) :=
 bif decide (x1.2<(l.length:Int))
 then (((j7 (a3e l x1) ((x1.1.length:Int).toNat+1) 0).bind fun b6 =>
 (bif decide (b6<(x1.1.length:Int))
 then ((idx x1.1 b6).bind fun e7 =>
 (idx l x1.2).bind fun e8 =>
 some (J4 e7 e8))
 else (some false)).bind fun q9 =>
 bif q9
 then (some x1.1)
 else ((cut x1.1 0 b6).bind fun y10 =>
 (k9 (0+y10.length) 16).bind fun _ =>
 (idx l x1.2).bind fun e12 =>
 (k9 (y10.length+([e12]:List ByteArray).length) 16).bind fun _ =>
 (cut x1.1 b6 (x1.1.length:Int)).bind fun y14 =>
 (k9 ((y10++([e12]:List ByteArray)).length+y14.length) 16).bind fun _ =>
 some ((y10++([e12]:List ByteArray))++y14))).bind fun b16 =>
 some (.next (b16,wr .i64 (x1.2+1))))
 else (some (.done x1.1))
def a0e (l:List ByteArray):Option (List ByteArray) :=
 (j7 (a0A l) ((l.length:Int).toNat+1) (([]:List ByteArray),0)).bind fun b17 =>
 some b17
def a42 (v:Val)(names:List ByteArray):Option Val :=
 (a0e names).bind fun r1 =>
 some (Val.mk v.Kind v.Int_ v.Text v.Kids v.Keys v.Entries r1)
def a5P (head:Val)(tail:Val):Option Val :=
 some (Val.mk 7 0 (⟨#[]⟩:ByteArray) ([head,tail]:List Val) ([]:List Key) ([]:List Ent) ([]:List ByteArray))
def a05 (s:Semtypebase_Source):Option ((List ByteArray)×Semtypebase_Source) :=
 (j5 s 3).bind fun r1 =>
 (bif r1.1==1
 then ((K9 r1.2).bind fun r2 =>
 (k9 (0+([r2.1]:List ByteArray).length) 16).bind fun _ =>
 (j5 r2.2 2).bind fun r4 =>
 bif r4.1==1
 then ((K9 r4.2).bind fun r5 =>
 (k9 (([r2.1]:List ByteArray).length+([r5.1]:List ByteArray).length) 16).bind fun _ =>
 some (([r2.1]:List ByteArray)++([r5.1]:List ByteArray),r5.2))
 else (some (([r2.1]:List ByteArray),r4.2)))
 else (some ([],r1.2))).bind fun b7 =>
 (a0e b7.1).bind fun r8 =>
 some (r8,b7.2)
def a2S (s:Semtypebase_Source):Option (Key×Semtypebase_Source) :=
 (j5 s 2).bind fun r1 =>
 bif r1.1==0
 then ((V8 r1.2).bind fun r2 =>
 some (Key.mk 0 r2.1,r2.2))
 else ((X9 r1.2).bind fun r3 =>
 some (Key.mk 1 r3.1,r3.2))
def a1C (t:Int)(rec_semtypebase_Source_Value:Semtypebase_Source->Int->Option (Val×Semtypebase_Source))(x4:(List Val)×Int×Semtypebase_Source):Option (Fl ((List Val)×Int×Semtypebase_Source) ((List Val)×Semtypebase_Source)) :=
 bif decide (0<x4.2.1)
 then ((rec_semtypebase_Source_Value x4.2.2 (wr .i64 (t-1))).bind fun r5 =>
 (k9 (x4.1.length+([r5.1]:List Val).length) 128).bind fun _ =>
 some (.next (x4.1++([r5.1]:List Val),wr .i64 (x4.2.1-1),r5.2)))
 else (some (.done (x4.1,x4.2.2)))
def a1B (t:Int)(rec_semtypebase_Source_Value:Semtypebase_Source->Int->Option (Val×Semtypebase_Source))(x20:(List Key)×(List Val)×Int×Semtypebase_Source):Option (Fl ((List Key)×(List Val)×Int×Semtypebase_Source) ((List Key)×(List Val)×Semtypebase_Source)) :=
 bif decide (0<x20.2.2.1)
 then ((a2S x20.2.2.2).bind fun r21 =>
 (k9 (x20.1.length+([r21.1]:List Key).length) 24).bind fun _ =>
 (rec_semtypebase_Source_Value r21.2 (wr .i64 (t-1))).bind fun r23 =>
 (k9 (x20.2.1.length+([r23.1]:List Val).length) 128).bind fun _ =>
 some (.next (x20.1++([r21.1]:List Key),x20.2.1++([r23.1]:List Val),wr .i64 (x20.2.2.1-1),r23.2)))
 else (some (.done (x20.1,x20.2.1,x20.2.2.2)))
def a1A (t:Int)(r27:Int×Semtypebase_Source)(rec_semtypebase_Source_entry:Semtypebase_Source->Int->Int->Option (Ent×Semtypebase_Source))(x29:(List Ent)×Int×Semtypebase_Source):Option (Fl ((List Ent)×Int×Semtypebase_Source) ((List Ent)×Semtypebase_Source)) :=
 bif decide (0<x29.2.1)
 then ((rec_semtypebase_Source_entry x29.2.2 r27.1 (wr .i64 (t-1))).bind fun r30 =>
 (k9 (x29.1.length+([r30.1]:List Ent).length) 160).bind fun _ =>
 some (.next (x29.1++([r30.1]:List Ent),wr .i64 (x29.2.1-1),r30.2)))
 else (some (.done (x29.1,x29.2.2)))
def a1z (height:Int)(rec_semtypebase_Source_Value:Semtypebase_Source->Int->Option (Val×Semtypebase_Source))(x1:Int×Semtypebase_Source×((List Val)×Bool×Int×Int×ByteArray×(List Val)×(List Key)×(List Ent)×(List ByteArray))):Option (Fl (Int×Semtypebase_Source×((List Val)×Bool×Int×Int×ByteArray×(List Val)×(List Key)×(List Ent)×(List ByteArray))) (Semtypebase_Source×((List Val)×Bool×Int×Int×ByteArray×(List Val)×(List Key)×(List Ent)×(List ByteArray)))) :=
 bif decide (0<x1.1)
 then ((rec_semtypebase_Source_Value x1.2.1 height).bind fun r2 =>
 (k9 (x1.2.2.1.length+([r2.1]:List Val).length) 128).bind fun _ =>
 some (.next (wr .i64 (x1.1-1),r2.2,(x1.2.2.1++([r2.1]:List Val),x1.2.2.2.1,x1.2.2.2.2.1,x1.2.2.2.2.2.1,x1.2.2.2.2.2.2.1,x1.2.2.2.2.2.2.2.1,x1.2.2.2.2.2.2.2.2.1,x1.2.2.2.2.2.2.2.2.2.1,x1.2.2.2.2.2.2.2.2.2.2))))
 else (some (.done (x1.2.1,(x1.2.2.1,x1.2.2.2.1,x1.2.2.2.2.1,x1.2.2.2.2.2.1,x1.2.2.2.2.2.2.1,x1.2.2.2.2.2.2.2.1,x1.2.2.2.2.2.2.2.2.1,x1.2.2.2.2.2.2.2.2.2.1,x1.2.2.2.2.2.2.2.2.2.2))))
def a3i (_:Nat)(_:Semtypebase_Source->Int->Option (Val×Semtypebase_Source))(rec_semtypebase_Source_value:Semtypebase_Source->Int->Option (Val×Semtypebase_Source))(_:Semtypebase_Source->Int->Int->Option (Ent×Semtypebase_Source))(s:Semtypebase_Source)(height:Int):Option (Val×Semtypebase_Source) :=
 (rec_semtypebase_Source_value s height).bind fun r1 =>
 (a05 r1.2).bind fun r2 =>
 some (Val.mk r1.1.Kind r1.1.Int_ r1.1.Text r1.1.Kids r1.1.Keys r1.1.Entries r2.1,r2.2)
def a0R (n:Nat)(rec_semtypebase_Source_Value:Semtypebase_Source->Int->Option (Val×Semtypebase_Source))(_:Semtypebase_Source->Int->Option (Val×Semtypebase_Source))(rec_semtypebase_Source_entry:Semtypebase_Source->Int->Int->Option (Ent×Semtypebase_Source))(d:Semtypebase_Source)(t:Int):Option (Val×Semtypebase_Source) :=
 bif decide (t<=1)
 then ((V4 d).bind fun r1 =>
 some (r1.1,r1.2))
 else ((j5 d 6).bind fun r2 =>
 (bif r2.1==1
 then ((j5 r2.2 4).bind fun r3 =>
 (j7 (a1C t rec_semtypebase_Source_Value) (r3.1.toNat+2) ([],r3.1,r3.2)).bind fun b7 =>
 (a3v b7.1).bind fun r8 =>
 some (.inr (b7.2,(r8.Kind,r8.Int_,r8.Text,r8.Kids,r8.Keys,r8.Entries,r8.Labels))))
 else (bif r2.1==2
 then ((a0c).bind fun r9 =>
 (bif decide (2<t)
 then ((j5 r2.2 2).bind fun r10 =>
 some (r10.1==1,r10.2))
 else (some (false,r2.2))).bind fun b11 =>
 (bif b11.1
 then ((rec_semtypebase_Source_Value b11.2 (wr .i64 (t-2))).bind fun r12 =>
 (a0c).bind fun r13 =>
 (a5P r12.1 r13).bind fun r14 =>
 some (r12.2,r14))
 else (some (b11.2,r9))).bind fun b15 =>
 (a05 b15.1).bind fun r16 =>
 (rec_semtypebase_Source_Value r16.2 (wr .i64 (t-1))).bind fun r17 =>
 (a5P r17.1 (Val.mk b15.2.Kind b15.2.Int_ b15.2.Text b15.2.Kids b15.2.Keys b15.2.Entries r16.1)).bind fun r18 =>
 some (.inr (r17.2,(r18.Kind,r18.Int_,r18.Text,r18.Kids,r18.Keys,r18.Entries,r18.Labels))))
 else (bif r2.1==3
 then ((j5 r2.2 3).bind fun r19 =>
 (j7 (a1B t rec_semtypebase_Source_Value) (r19.1.toNat+2) ([],[],r19.1,r19.2)).bind fun b25 =>
 (a2b b25.1 b25.2.1).bind fun r26 =>
 bif r26.2==0
 then (some (.inr (b25.2.2,(r26.1.Kind,r26.1.Int_,r26.1.Text,r26.1.Kids,r26.1.Keys,r26.1.Entries,r26.1.Labels))))
 else (some (.inl (b25.2.2,(0,0,(⟨#[]⟩:ByteArray),([]:List Val),([]:List Key),([]:List Ent),([]:List ByteArray))))))
 else (bif r2.1==4
 then ((j5 r2.2 3).bind fun r27 =>
 (j5 r27.2 3).bind fun r28 =>
 (j7 (a1A t r27 rec_semtypebase_Source_entry) (r28.1.toNat+2) ([],r28.1,r28.2)).bind fun b32 =>
 (a2e n r27.1 b32.1).bind fun r33 =>
 bif r33.2==0
 then (some (.inr (b32.2,(r33.1.Kind,r33.1.Int_,r33.1.Text,r33.1.Kids,r33.1.Keys,r33.1.Entries,r33.1.Labels))))
 else (some (.inl (b32.2,(0,0,(⟨#[]⟩:ByteArray),([]:List Val),([]:List Key),([]:List Ent),([]:List ByteArray))))))
 else (some (.inl (r2.2,(0,0,(⟨#[]⟩:ByteArray),([]:List Val),([]:List Key),([]:List Ent),([]:List ByteArray))))))))).bind fun (b34:Sum (Semtypebase_Source×(Int×Int×ByteArray×(List Val)×(List Key)×(List Ent)×(List ByteArray))) (Semtypebase_Source×(Int×Int×ByteArray×(List Val)×(List Key)×(List Ent)×(List ByteArray)))) =>
 w9 (fun x35 =>
 (V4 x35.1).bind fun r37 =>
 some (r37.1,r37.2)) (fun y36 =>
 some (Val.mk y36.2.1 y36.2.2.1 y36.2.2.2.1 y36.2.2.2.2.1 y36.2.2.2.2.2.1 y36.2.2.2.2.2.2.1 y36.2.2.2.2.2.2.2,y36.1)) b34)
def a3m (_:Nat)(rec_semtypebase_Source_Value:Semtypebase_Source->Int->Option (Val×Semtypebase_Source))(_:Semtypebase_Source->Int->Option (Val×Semtypebase_Source))(_:Semtypebase_Source->Int->Int->Option (Ent×Semtypebase_Source))(s:Semtypebase_Source)(n_1:Int)(height:Int):Option (Ent×Semtypebase_Source) :=
 (j7 (a1z height rec_semtypebase_Source_Value) (n_1.toNat+2) (n_1,s,([],false,0,0,(⟨#[]⟩:ByteArray),[],[],[],[]))).bind fun b4 =>
 (j5 b4.1 4).bind fun r5 =>
 bif r5.1==1
 then (some (Ent.mk b4.2.1 true (Val.mk b4.2.2.2.1 b4.2.2.2.2.1 b4.2.2.2.2.2.1 b4.2.2.2.2.2.2.1 b4.2.2.2.2.2.2.2.1 b4.2.2.2.2.2.2.2.2.1 b4.2.2.2.2.2.2.2.2.2),r5.2))
 else ((rec_semtypebase_Source_Value r5.2 height).bind fun r6 =>
 some (Ent.mk b4.2.1 b4.2.2.1 r6.1,r6.2))
def j9:Nat->(Semtypebase_Source->Int->Option (Val×Semtypebase_Source))×(Semtypebase_Source->Int->Option (Val×Semtypebase_Source))×(Semtypebase_Source->Int->Int->Option (Ent×Semtypebase_Source))
 | 0=>(fun _ _=>none,fun _ _=>none,fun _ _ _=>none)
 | n+1=>(a3i n ((j9 n).1) ((j9 n).2.1) ((j9 n).2.2),a0R n ((j9 n).1) ((j9 n).2.1) ((j9 n).2.2),a3m n ((j9 n).1) ((j9 n).2.1) ((j9 n).2.2))
def a2h (n:Nat):Semtypebase_Source->Int->Option (Val×Semtypebase_Source):=(j9 n).1
def b2u (n:Nat):Semtypebase_Source->Int->Option (Val×Semtypebase_Source):=(j9 n).2.1
def b3n (n:Nat):Semtypebase_Source->Int->Int->Option (Ent×Semtypebase_Source):=(j9 n).2.2
def a3x (c:Int):Option Bool :=
 (bif decide (65<=c)
 then (some (decide (c<=90)))
 else (some false)).bind fun q1 =>
 some q1
def a3Q (s:ByteArray)(x5:Int):Option (Fl Int (Sum Unit Bool)) :=
 bif decide (x5<(s.size:Int))
 then ((a5M s x5).bind fun e6 =>
 (a2r (e6.toNat:Int)).bind fun r7 =>
 (bif !r7
 then ((a5M s x5).bind fun e8 =>
 (a3x (e8.toNat:Int)).bind fun r9 =>
 some (!r9))
 else (some false)).bind fun q10 =>
 (bif q10
 then ((a5M s x5).bind fun e11 =>
 (a3p (e11.toNat:Int)).bind fun r12 =>
 some (!r12))
 else (some false)).bind fun q13 =>
 (bif q13
 then ((a5M s x5).bind fun e14 =>
 some ((e14.toNat:Int) != 95))
 else (some false)).bind fun q15 =>
 bif q15
 then (some (.done (.inr false)))
 else (some (.next (wr .i64 (x5+1)))))
 else (some (.done (.inl ())))
def a1K (s:ByteArray):Option Bool :=
 (bif decide ((s.size:Int)<1)
 then (some true)
 else (some (decide (16<(s.size:Int))))).bind fun q1 =>
 (bif q1
 then (some true)
 else ((a5M s 0).bind fun e2 =>
 (a3x (e2.toNat:Int)).bind fun r3 =>
 some (!r3))).bind fun q4 =>
 bif q4
 then (some false)
 else ((j7 (a3Q s) ((s.size:Int).toNat+1) 1).bind fun b16 =>
 w9 (fun _ =>
 some true) (fun y18 =>
 some y18) b16)
def a4r (d:Val)(x1:Int):Option (Fl Int (Sum Unit Bool)) :=
 bif decide (x1<(d.Labels.length:Int))
 then ((idx d.Labels x1).bind fun e2 =>
 (a1K e2).bind fun r3 =>
 (bif !r3
 then (some true)
 else ((bif decide (0<x1)
 then ((idx d.Labels (wr .i64 (x1-1))).bind fun e4 =>
 (idx d.Labels x1).bind fun e5 =>
 some (!(a2d e4 e5)))
 else (some false)).bind fun q6 =>
 some q6)).bind fun q7 =>
 bif q7
 then (some (.done (.inr false)))
 else (some (.next (wr .i64 (x1+1)))))
 else (some (.done (.inl ())))
def a4s (d:Val)(x31:Int):Option (Fl Int (Sum Unit Bool)) :=
 bif decide (x31<(d.Keys.length:Int))
 then ((idx d.Keys x31).bind fun e32 =>
 (a1s e32).bind fun r33 =>
 (bif !r33
 then (some true)
 else ((bif decide (0<x31)
 then ((idx d.Keys (wr .i64 (x31-1))).bind fun e34 =>
 (idx d.Keys x31).bind fun e35 =>
 (W6 e34 e35).bind fun r36 =>
 some (decide (0<=r36)))
 else (some false)).bind fun q37 =>
 some q37)).bind fun q38 =>
 bif q38
 then (some (.done (.inr false)))
 else (some (.next (wr .i64 (x31+1)))))
 else (some (.done (.inl ())))
def a4k (d:Val)(n:Nat)(x43:Int):Option (Fl Int (Sum Unit Bool)) :=
 bif decide (x43<(d.Entries.length:Int))
 then ((idx d.Entries x43).bind fun e44 =>
 (bif (e44.Args.length:Int) != d.Int_
 then (some true)
 else ((bif e44.Fails
 then ((a3r n e44.Result (Val.mk 0 0 (⟨#[]⟩:ByteArray) ([]:List Val) ([]:List Key) ([]:List Ent) ([]:List ByteArray))).bind fun r45 =>
 some (!r45))
 else (some false)).bind fun q46 =>
 some q46)).bind fun q47 =>
 (bif q47
 then (some true)
 else ((bif decide (0<x43)
 then ((idx d.Entries (wr .i64 (x43-1))).bind fun e48 =>
 (Q1 n e48 e44).bind fun r49 =>
 some (decide (0<=r49)))
 else (some false)).bind fun q50 =>
 some q50)).bind fun q51 =>
 bif q51
 then (some (.done (.inr false)))
 else (some (.next (wr .i64 (x43+1)))))
 else (some (.done (.inl ())))
def a5N (n:Nat)(d:Val):Option Bool :=
 (j7 (a4r d) ((d.Labels.length:Int).toNat+1) 0).bind fun b8 =>
 w9 (fun _ =>
 (bif d.Kind==1
 then (some true)
 else (some (d.Kind==4))).bind fun q11 =>
 (bif q11
 then (some true)
 else (some (d.Kind==9))).bind fun q12 =>
 (bif d.Kind==2
 then (some true)
 else (some (d.Kind==3))).bind fun q13 =>
 (bif d.Kind==6
 then (some true)
 else (some (d.Kind==7))).bind fun q14 =>
 (bif q14
 then (some true)
 else (some (d.Kind==8))).bind fun q15 =>
 (bif !q12
 then (some (d.Int_ != 0))
 else (some false)).bind fun q16 =>
 (bif q16
 then (some true)
 else ((bif !q13
 then (some (!(J4 d.Text (⟨#[]⟩:ByteArray))))
 else (some false)).bind fun q17 =>
 some q17)).bind fun q18 =>
 (bif q18
 then (some true)
 else ((bif !q15
 then (some (decide (0<(d.Kids.length:Int))))
 else (some false)).bind fun q19 =>
 some q19)).bind fun q20 =>
 (bif q20
 then (some true)
 else ((bif d.Kind != 8
 then (some (decide (0<(d.Keys.length:Int))))
 else (some false)).bind fun q21 =>
 some q21)).bind fun q22 =>
 (bif q22
 then (some true)
 else ((bif d.Kind != 9
 then (some (decide (0<(d.Entries.length:Int))))
 else (some false)).bind fun q23 =>
 some q23)).bind fun q24 =>
 bif q24
 then (some false)
 else ((bif d.Kind==1
 then (some (d.Kind==1))
 else (some (d.Kind==5))).bind fun b25 =>
 bif b25
 then (some true)
 else (bif d.Kind==2
 then (some (decide ((d.Text.size:Int)<=64)))
 else (bif d.Kind==3
 then ((a1V d.Text).bind fun r26 =>
 some r26)
 else (bif d.Kind==4
 then (some (decide (0<=d.Int_)))
 else (bif d.Kind==6
 then (some (decide ((d.Kids.length:Int)<=4)))
 else (bif d.Kind==7
 then ((bif (d.Kids.length:Int)==2
 then ((idx d.Kids 1).bind fun e27 =>
 (bif e27.Kind==5
 then (some true)
 else ((idx d.Kids 1).bind fun e28 =>
 some (e28.Kind==7))).bind fun q29 =>
 some q29)
 else (some false)).bind fun q30 =>
 some q30)
 else (bif d.Kind==8
 then ((j7 (a4s d) ((d.Keys.length:Int).toNat+1) 0).bind fun b39 =>
 w9 (fun _ =>
 some ((d.Keys.length:Int)==(d.Kids.length:Int))) (fun y41 =>
 some y41) b39)
 else (bif d.Kind==9
 then ((bif decide (d.Int_<0)
 then (some true)
 else (some (decide (4<d.Int_)))).bind fun q42 =>
 bif q42
 then (some false)
 else ((j7 (a4k d n) ((d.Entries.length:Int).toNat+1) 0).bind fun b52 =>
 w9 (fun _ =>
 some true) (fun y54 =>
 some y54) b52))
 else (some false)))))))))) (fun y10 =>
 some y10) b8
def a3B (v:Val)(rec_semtyperef1_Valid:Val->Option Bool)(x2:Int):Option (Fl Int (Sum Unit Bool)) :=
 bif decide (x2<(v.Kids.length:Int))
 then ((idx v.Kids x2).bind fun e3 =>
 (rec_semtyperef1_Valid e3).bind fun r4 =>
 bif !r4
 then (some (.done (.inr false)))
 else (some (.next (wr .i64 (x2+1)))))
 else (some (.done (.inl ())))
def a3C (rec_semtyperef1_Valid:Val->Option Bool)(e9:Ent)(x10:Int):Option (Fl Int (Sum Unit Bool)) :=
 bif decide (x10<(e9.Args.length:Int))
 then ((idx e9.Args x10).bind fun e11 =>
 (rec_semtyperef1_Valid e11).bind fun r12 =>
 bif !r12
 then (some (.done (.inr false)))
 else (some (.next (wr .i64 (x10+1)))))
 else (some (.done (.inl ())))
def a3H (v:Val)(rec_semtyperef1_Valid:Val->Option Bool)(x8:Int):Option (Fl Int (Sum Unit Bool)) :=
 bif decide (x8<(v.Entries.length:Int))
 then ((idx v.Entries x8).bind fun e9 =>
 (j7 (a3C rec_semtyperef1_Valid e9) ((e9.Args.length:Int).toNat+1) 0).bind fun b13 =>
 w9 (fun _ =>
 (bif !e9.Fails
 then ((rec_semtyperef1_Valid e9.Result).bind fun r16 =>
 some (!r16))
 else (some false)).bind fun q17 =>
 bif q17
 then (some (.done (.inr false)))
 else (some (.next (wr .i64 (x8+1))))) (fun y15 =>
 some (.done (.inr y15))) b13)
 else (some (.done (.inl ())))
def a6w (n:Nat)(rec_semtyperef1_Valid:Val->Option Bool)(v:Val):Option Bool :=
 (a5N n v).bind fun r1 =>
 bif !r1
 then (some false)
 else ((j7 (a3B v rec_semtyperef1_Valid) ((v.Kids.length:Int).toNat+1) 0).bind fun b5 =>
 w9 (fun _ =>
 (j7 (a3H v rec_semtyperef1_Valid) ((v.Entries.length:Int).toNat+1) 0).bind fun b18 =>
 w9 (fun _ =>
 some true) (fun y20 =>
 some y20) b18) (fun y7 =>
 some y7) b5)
def X5:Nat->Val->Option Bool
 | 0=>fun _=>none
 | n+1=>a6w n (X5 n)
def a0Q (t:Api_Type)(a3_3:Int)(e4:Api_TypeNode)(rec_semtypebase_Source_Near:Semtypebase_Source->Api_Type->Int->Int->Option (Val×Semtypebase_Source))(x21:Int×Semtypebase_Source×(Int×Int×ByteArray×(List Val)×(List Key)×(List Ent)×(List ByteArray))):Option (Fl (Int×Semtypebase_Source×(Int×Int×ByteArray×(List Val)×(List Key)×(List Ent)×(List ByteArray))) (Semtypebase_Source×(Int×Int×ByteArray×(List Val)×(List Key)×(List Ent)×(List ByteArray)))) :=
 bif decide (x21.1<(e4.Kids.length:Int))
 then ((idx e4.Kids x21.1).bind fun e22 =>
 (rec_semtypebase_Source_Near x21.2.1 t e22 (wr .i64 (a3_3-1))).bind fun r23 =>
 (k9 (x21.2.2.2.2.2.1.length+([r23.1]:List Val).length) 128).bind fun _ =>
 some (.next (wr .i64 (x21.1+1),r23.2,(x21.2.2.1,x21.2.2.2.1,x21.2.2.2.2.1,x21.2.2.2.2.2.1++([r23.1]:List Val),x21.2.2.2.2.2.2.1,x21.2.2.2.2.2.2.2.1,x21.2.2.2.2.2.2.2.2))))
 else (some (.done (x21.2.1,(x21.2.2.1,x21.2.2.2.1,x21.2.2.2.2.1,x21.2.2.2.2.2.1,x21.2.2.2.2.2.2.1,x21.2.2.2.2.2.2.2.1,x21.2.2.2.2.2.2.2.2))))
def W4 (t:Api_Type)(e4:Api_TypeNode)(x40:Int×Val):Option (Fl (Int×Val) Val) :=
 bif decide (x40.1<(e4.Kids.length:Int))
 then (((idx e4.Kids x40.1).bind fun e41 =>
 (idx t.Nodes e41).bind fun e42 =>
 bif e42.Kind==19
 then ((k9 (0+x40.2.Labels.length) 16).bind fun _ =>
 (idx e4.Kids x40.1).bind fun e44 =>
 (idx t.Nodes e44).bind fun e45 =>
 (k9 (x40.2.Labels.length+([e45.Text]:List ByteArray).length) 16).bind fun _ =>
 (a0e (x40.2.Labels++([e45.Text]:List ByteArray))).bind fun r47 =>
 some (Val.mk x40.2.Kind x40.2.Int_ x40.2.Text x40.2.Kids x40.2.Keys x40.2.Entries r47))
 else (some x40.2)).bind fun b48 =>
 some (.next (wr .i64 (x40.1+1),b48)))
 else (some (.done x40.2))
def V3 (t:Api_Type)(a2_2:Api_TypeNode)(a3_3:Int)(rec_semtypebase_Source_Near:Semtypebase_Source->Api_Type->Int->Int->Option (Val×Semtypebase_Source))(x3:Int×Semtypebase_Source×((List Val)×Bool×Int×Int×ByteArray×(List Val)×(List Key)×(List Ent)×(List ByteArray))):Option (Fl (Int×Semtypebase_Source×((List Val)×Bool×Int×Int×ByteArray×(List Val)×(List Key)×(List Ent)×(List ByteArray))) (Semtypebase_Source×((List Val)×Bool×Int×Int×ByteArray×(List Val)×(List Key)×(List Ent)×(List ByteArray)))) :=
 bif decide (x3.1<(wr .i64 ((a2_2.Kids.length:Int)-1)))
 then ((idx a2_2.Kids x3.1).bind fun e4 =>
 (rec_semtypebase_Source_Near x3.2.1 t e4 (wr .i64 (a3_3-1))).bind fun r5 =>
 (k9 (x3.2.2.1.length+([r5.1]:List Val).length) 128).bind fun _ =>
 some (.next (wr .i64 (x3.1+1),r5.2,(x3.2.2.1++([r5.1]:List Val),x3.2.2.2.1,x3.2.2.2.2.1,x3.2.2.2.2.2.1,x3.2.2.2.2.2.2.1,x3.2.2.2.2.2.2.2.1,x3.2.2.2.2.2.2.2.2.1,x3.2.2.2.2.2.2.2.2.2.1,x3.2.2.2.2.2.2.2.2.2.2))))
 else (some (.done (x3.2.1,(x3.2.2.1,x3.2.2.2.1,x3.2.2.2.2.1,x3.2.2.2.2.2.1,x3.2.2.2.2.2.2.1,x3.2.2.2.2.2.2.2.1,x3.2.2.2.2.2.2.2.2.1,x3.2.2.2.2.2.2.2.2.2.1,x3.2.2.2.2.2.2.2.2.2.2))))
def W7 (t:Api_Type)(a2_2:Api_TypeNode)(a3_3:Int)(rec_semtypebase_Source_Near:Semtypebase_Source->Api_Type->Int->Int->Option (Val×Semtypebase_Source))(x2:(List Ent)×Int×Semtypebase_Source):Option (Fl ((List Ent)×Int×Semtypebase_Source) ((List Ent)×Semtypebase_Source)) :=
 bif decide (0<x2.2.1)
 then ((j7 (V3 t a2_2 a3_3 rec_semtypebase_Source_Near) ((wr .i64 ((a2_2.Kids.length:Int)-1)).toNat+1) (0,x2.2.2,([],false,0,0,(⟨#[]⟩:ByteArray),[],[],[],[]))).bind fun b7 =>
 (j5 b7.1 6).bind fun r8 =>
 (bif r8.1==1
 then (some (r8.2,(b7.2.1,true,b7.2.2.2.1,b7.2.2.2.2.1,b7.2.2.2.2.2.1,b7.2.2.2.2.2.2.1,b7.2.2.2.2.2.2.2.1,b7.2.2.2.2.2.2.2.2.1,b7.2.2.2.2.2.2.2.2.2)))
 else ((idx a2_2.Kids (wr .i64 ((a2_2.Kids.length:Int)-1))).bind fun e9 =>
 (rec_semtypebase_Source_Near r8.2 t e9 (wr .i64 (a3_3-1))).bind fun r10 =>
 some (r10.2,(b7.2.1,b7.2.2.1,r10.1.Kind,r10.1.Int_,r10.1.Text,r10.1.Kids,r10.1.Keys,r10.1.Entries,r10.1.Labels)))).bind fun b11 =>
 (k9 (x2.1.length+([Ent.mk b11.2.1 b11.2.2.1 (Val.mk b11.2.2.2.1 b11.2.2.2.2.1 b11.2.2.2.2.2.1 b11.2.2.2.2.2.2.1 b11.2.2.2.2.2.2.2.1 b11.2.2.2.2.2.2.2.2.1 b11.2.2.2.2.2.2.2.2.2)]:List Ent).length) 160).bind fun _ =>
 some (.next (x2.1++([Ent.mk b11.2.1 b11.2.2.1 (Val.mk b11.2.2.2.1 b11.2.2.2.2.1 b11.2.2.2.2.2.1 b11.2.2.2.2.2.2.1 b11.2.2.2.2.2.2.2.1 b11.2.2.2.2.2.2.2.2.1 b11.2.2.2.2.2.2.2.2.2)]:List Ent),wr .i64 (x2.2.1-1),b11.1)))
 else (some (.done (x2.1,x2.2.2)))
def a0q (t:Api_Type)(a2_2:Api_TypeNode)(a3_3:Int)(rec_semtypebase_Source_Near:Semtypebase_Source->Api_Type->Int->Int->Option (Val×Semtypebase_Source))(x1:(List Key)×(List Val)×Int×Semtypebase_Source):Option (Fl ((List Key)×(List Val)×Int×Semtypebase_Source) ((List Key)×(List Val)×Semtypebase_Source)) :=
 bif decide (x1.2.2.1<(a2_2.Fields.length:Int))
 then ((((idx a2_2.Fields x1.2.2.1).bind fun e2 =>
 bif e2.Optional
 then ((j5 x1.2.2.2 2).bind fun r3 =>
 some (r3.1==1,r3.2))
 else (some (false,x1.2.2.2))).bind fun b4 =>
 bif b4.1
 then (some (x1.1,x1.2.1,b4.2))
 else ((idx a2_2.Fields x1.2.2.1).bind fun e5 =>
 (k9 (x1.1.length+([e5.Key_]:List Key).length) 24).bind fun _ =>
 (idx a2_2.Fields x1.2.2.1).bind fun e7 =>
 (rec_semtypebase_Source_Near b4.2 t e7.Node (wr .i64 (a3_3-1))).bind fun r8 =>
 (k9 (x1.2.1.length+([r8.1]:List Val).length) 128).bind fun _ =>
 some (x1.1++([e5.Key_]:List Key),x1.2.1++([r8.1]:List Val),r8.2))).bind fun b10 =>
 some (.next (b10.1,b10.2.1,wr .i64 (x1.2.2.1+1),b10.2.2)))
 else (some (.done (x1.1,x1.2.1,x1.2.2.2)))
def a3G (n:Nat)(_:Semtypebase_Source->Api_Type->Int->Int->Option (Val×Semtypebase_Source))(rec_semtypebase_Source_near:Semtypebase_Source->Api_Type->Int->Int->Option (Val×Semtypebase_Source))(_:Semtypebase_Source->Api_Type->Api_TypeNode->Int->Option (Val×Semtypebase_Source))(_:Semtypebase_Source->Api_Type->Api_TypeNode->Int->Option (Val×Semtypebase_Source))(s:Semtypebase_Source)(t:Api_Type)(k:Int)(height:Int):Option (Val×Semtypebase_Source) :=
 (rec_semtypebase_Source_near s t k height).bind fun r1 =>
 (X5 n r1.1).bind fun r2 =>
 bif !r2
 then ((V4 r1.2).bind fun r3 =>
 some (r3.1,r3.2))
 else (some (r1.1,r1.2))
def a01 (n:Nat)(rec_semtypebase_Source_Near:Semtypebase_Source->Api_Type->Int->Int->Option (Val×Semtypebase_Source))(rec_semtypebase_Source_near:Semtypebase_Source->Api_Type->Int->Int->Option (Val×Semtypebase_Source))(rec_semtypebase_Source_nearFunction:Semtypebase_Source->Api_Type->Api_TypeNode->Int->Option (Val×Semtypebase_Source))(rec_semtypebase_Source_nearMap:Semtypebase_Source->Api_Type->Api_TypeNode->Int->Option (Val×Semtypebase_Source))(d:Semtypebase_Source)(t:Api_Type)(a2_2:Int)(a3_3:Int):Option (Val×Semtypebase_Source) :=
 (bif decide (a3_3<=0)
 then (some true)
 else (some (decide (a2_2<0)))).bind fun q1 =>
 (bif q1
 then (some true)
 else (some (decide ((t.Nodes.length:Int)<=a2_2)))).bind fun q2 =>
 bif q2
 then ((V4 d).bind fun r3 =>
 some (r3.1,r3.2))
 else ((idx t.Nodes a2_2).bind fun e4 =>
 bif e4.Kind==3
 then ((b4j .i64 e4.Hi 2).bind fun d5 =>
 (b4j .i64 e4.Lo 2).bind fun d6 =>
 (j5 d 3).bind fun r7 =>
 (idx ([e4.Lo,e4.Hi,wr .i64 (e4.Lo+(wr .i64 (d5-d6)))]:List Int) r7.1).bind fun _ =>
 (([e4.Lo,e4.Hi,wr .i64 (e4.Lo+(wr .i64 (d5-d6)))]:List Int)[r7.1.toNat]?).bind fun e9 =>
 (a80 e9).bind fun r10 =>
 some (r10,r7.2))
 else (bif e4.Kind==4
 then ((a4U e4.Text).bind fun r11 =>
 some (r11,d))
 else (bif e4.Kind==5
 then ((X9 d).bind fun r12 =>
 (a4U r12.1).bind fun r13 =>
 some (r13,r12.2))
 else (bif e4.Kind==6
 then ((a5W e4.Text).bind fun r14 =>
 some (r14,d))
 else (bif e4.Kind==7
 then ((V8 d).bind fun r15 =>
 (a5W r15.1).bind fun r16 =>
 some (r16,r15.2))
 else (bif e4.Kind==8
 then ((j5 d 2).bind fun r17 =>
 (a9b r17.1).bind fun r18 =>
 some (r18,r17.2))
 else (bif e4.Kind==9
 then ((a0c).bind fun r19 =>
 some (r19,d))
 else ((bif e4.Kind==10
 then (some (e4.Kind==10))
 else (some (e4.Kind==12))).bind fun b20 =>
 bif b20
 then ((j7 (a0Q t a3_3 e4 rec_semtypebase_Source_Near) ((e4.Kids.length:Int).toNat+1) (0,d,(0,0,(⟨#[]⟩:ByteArray),[],[],[],[]))).bind fun b25 =>
 (bif e4.Kind==12
 then ((idx b25.2.2.2.2.1 1).bind fun _ =>
 (b25.2.2.2.2.1[(1:Int).toNat]?).bind fun e27 =>
 bif e27.Kind != 7
 then ((a0c).bind fun r28 =>
 (idx b25.2.2.2.2.1 1).bind fun _ =>
 (b25.2.2.2.2.1[(1:Int).toNat]?).bind fun _ =>
 some (7,b25.2.2.1,b25.2.2.2.1,b25.2.2.2.2.1.set ((1:Int).toNat) r28,b25.2.2.2.2.2.1,b25.2.2.2.2.2.2.1,b25.2.2.2.2.2.2.2))
 else (some (7,b25.2.2.1,b25.2.2.2.1,b25.2.2.2.2.1,b25.2.2.2.2.2.1,b25.2.2.2.2.2.2.1,b25.2.2.2.2.2.2.2)))
 else (some (6,b25.2.2.1,b25.2.2.2.1,b25.2.2.2.2.1,b25.2.2.2.2.2.1,b25.2.2.2.2.2.2.1,b25.2.2.2.2.2.2.2))).bind fun b31 =>
 some (Val.mk b31.1 b31.2.1 b31.2.2.1 b31.2.2.2.1 b31.2.2.2.2.1 b31.2.2.2.2.2.1 b31.2.2.2.2.2.2,b25.1))
 else (bif e4.Kind==13
 then ((rec_semtypebase_Source_nearMap d t e4 a3_3).bind fun r32 =>
 some (r32.1,r32.2))
 else (bif e4.Kind==14
 then ((rec_semtypebase_Source_nearFunction d t e4 a3_3).bind fun r33 =>
 some (r33.1,r33.2))
 else (bif e4.Kind==16
 then ((j5 d (e4.Kids.length:Int)).bind fun r34 =>
 (idx e4.Kids r34.1).bind fun e35 =>
 (rec_semtypebase_Source_near r34.2 t e35 a3_3).bind fun r36 =>
 some (r36.1,r36.2))
 else (bif e4.Kind==17
 then ((j5 d (e4.Kids.length:Int)).bind fun r37 =>
 (idx e4.Kids r37.1).bind fun e38 =>
 (rec_semtypebase_Source_near r37.2 t e38 a3_3).bind fun r39 =>
 (j7 (W4 t e4) ((e4.Kids.length:Int).toNat+1) (0,r39.1)).bind fun b49 =>
 some (b49,r39.2))
 else (bif e4.Kind==19
 then ((V4 d).bind fun r50 =>
 (a42 r50.1 ([e4.Text]:List ByteArray)).bind fun r51 =>
 some (r51,r50.2))
 else ((a2h n d 2).bind fun r52 =>
 some (r52.1,r52.2)))))))))))))))
def a1M (n:Nat)(rec_semtypebase_Source_Near:Semtypebase_Source->Api_Type->Int->Int->Option (Val×Semtypebase_Source))(_:Semtypebase_Source->Api_Type->Int->Int->Option (Val×Semtypebase_Source))(_:Semtypebase_Source->Api_Type->Api_TypeNode->Int->Option (Val×Semtypebase_Source))(_:Semtypebase_Source->Api_Type->Api_TypeNode->Int->Option (Val×Semtypebase_Source))(d:Semtypebase_Source)(t:Api_Type)(a2_2:Api_TypeNode)(a3_3:Int):Option (Val×Semtypebase_Source) :=
 (j5 d 3).bind fun r1 =>
 (j7 (W7 t a2_2 a3_3 rec_semtypebase_Source_Near) (r1.1.toNat+2) ([],r1.1,r1.2)).bind fun b13 =>
 (a2e n (wr .i64 ((a2_2.Kids.length:Int)-1)) b13.1).bind fun r14 =>
 bif r14.2 != 0
 then ((a0c).bind fun r15 =>
 some (r15,b13.2))
 else (some (r14.1,b13.2))
def a2M (_:Nat)(rec_semtypebase_Source_Near:Semtypebase_Source->Api_Type->Int->Int->Option (Val×Semtypebase_Source))(_:Semtypebase_Source->Api_Type->Int->Int->Option (Val×Semtypebase_Source))(_:Semtypebase_Source->Api_Type->Api_TypeNode->Int->Option (Val×Semtypebase_Source))(_:Semtypebase_Source->Api_Type->Api_TypeNode->Int->Option (Val×Semtypebase_Source))(d:Semtypebase_Source)(t:Api_Type)(a2_2:Api_TypeNode)(a3_3:Int):Option (Val×Semtypebase_Source) :=
 (j7 (a0q t a2_2 a3_3 rec_semtypebase_Source_Near) ((a2_2.Fields.length:Int).toNat+1) ([],[],0,d)).bind fun b11 =>
 (j5 b11.2.2 2).bind fun r12 =>
 (bif r12.1==1
 then ((j5 r12.2 2).bind fun r13 =>
 (k9 (b11.1.length+([Key.mk r13.1 (⟨#[111,116,104,101,114]⟩:ByteArray)]:List Key).length) 24).bind fun _ =>
 bif r13.1==0
 then ((rec_semtypebase_Source_Near r13.2 t a2_2.Rest.1 (wr .i64 (a3_3-1))).bind fun r15 =>
 (k9 (b11.2.1.length+([r15.1]:List Val).length) 128).bind fun _ =>
 some (b11.1++([Key.mk r13.1 (⟨#[111,116,104,101,114]⟩:ByteArray)]:List Key),b11.2.1++([r15.1]:List Val),r15.2))
 else (bif r13.1==1
 then ((rec_semtypebase_Source_Near r13.2 t a2_2.Rest.2 (wr .i64 (a3_3-1))).bind fun r17 =>
 (k9 (b11.2.1.length+([r17.1]:List Val).length) 128).bind fun _ =>
 some (b11.1++([Key.mk r13.1 (⟨#[111,116,104,101,114]⟩:ByteArray)]:List Key),b11.2.1++([r17.1]:List Val),r17.2))
 else (none)))
 else (some (b11.1,b11.2.1,r12.2))).bind fun b19 =>
 (a2b b19.1 b19.2.1).bind fun r20 =>
 bif r20.2 != 0
 then ((a0c).bind fun r21 =>
 some (r21,b19.2.2))
 else (some (r20.1,b19.2.2))
def j6:Nat->(Semtypebase_Source->Api_Type->Int->Int->Option (Val×Semtypebase_Source))×(Semtypebase_Source->Api_Type->Int->Int->Option (Val×Semtypebase_Source))×(Semtypebase_Source->Api_Type->Api_TypeNode->Int->Option (Val×Semtypebase_Source))×(Semtypebase_Source->Api_Type->Api_TypeNode->Int->Option (Val×Semtypebase_Source))
 | 0=>(fun _ _ _ _=>none,fun _ _ _ _=>none,fun _ _ _ _=>none,fun _ _ _ _=>none)
 | n+1=>(a3G n ((j6 n).1) ((j6 n).2.1) ((j6 n).2.2.1) ((j6 n).2.2.2),a01 n ((j6 n).1) ((j6 n).2.1) ((j6 n).2.2.1) ((j6 n).2.2.2),a1M n ((j6 n).1) ((j6 n).2.1) ((j6 n).2.2.1) ((j6 n).2.2.2),a2M n ((j6 n).1) ((j6 n).2.1) ((j6 n).2.2.1) ((j6 n).2.2.2))
def a2D (n:Nat):Semtypebase_Source->Api_Type->Int->Int->Option (Val×Semtypebase_Source):=(j6 n).1
def b3Q (n:Nat):Semtypebase_Source->Api_Type->Int->Int->Option (Val×Semtypebase_Source):=(j6 n).2.1
def a8C (n:Nat):Semtypebase_Source->Api_Type->Api_TypeNode->Int->Option (Val×Semtypebase_Source):=(j6 n).2.2.1
def b1c (n:Nat):Semtypebase_Source->Api_Type->Api_TypeNode->Int->Option (Val×Semtypebase_Source):=(j6 n).2.2.2
def a4G (n:Nat)(l:List Int)(m:List Int):Option (Api_Type×Val) :=
 (j5 (Semtypebase_Source.mk l 0) 7).bind fun r1 =>
 (a1x r1.2 (wr .i64 (1+r1.1))).bind fun r2 =>
 (j5 (Semtypebase_Source.mk m 0) (r2.1.Nodes.length:Int)).bind fun r3 =>
 (a2D n r3.2 r2.1 r3.1 4).bind fun r4 =>
 some (r2.1,r4.1)
def a1E (t:Api_Type)(x2:(List Api_Constraint)×Int×Semtypebase_Source):Option (Fl ((List Api_Constraint)×Int×Semtypebase_Source) ((List Api_Constraint)×Semtypebase_Source)) :=
 bif decide (0<x2.2.1)
 then ((j5 x2.2.2 (t.Nodes.length:Int)).bind fun r3 =>
 (j5 r3.2 (t.Nodes.length:Int)).bind fun r4 =>
 (j5 r4.2 3).bind fun r5 =>
 (bif r5.1==0
 then ((K9 r5.2).bind fun r6 =>
 (a1y r6.1).bind fun r7 =>
 some (r6.2,r7))
 else (some (r5.2,Api_Type.mk t.Nodes r3.1))).bind fun b8 =>
 (j5 b8.1 3).bind fun r9 =>
 (bif r9.1==0
 then ((K9 r9.2).bind fun r10 =>
 (a1y r10.1).bind fun r11 =>
 some (r10.2,r11))
 else (some (r9.2,Api_Type.mk t.Nodes r4.1))).bind fun b12 =>
 (k9 (x2.1.length+([Api_Constraint.mk b8.2 b12.2]:List Api_Constraint).length) 64).bind fun _ =>
 some (.next (x2.1++([Api_Constraint.mk b8.2 b12.2]:List Api_Constraint),wr .i64 (x2.2.1-1),b12.1)))
 else (some (.done (x2.1,x2.2.2)))
def a2i (t:Api_Type)(l:List Int):Option (List Api_Constraint) :=
 (j5 (Semtypebase_Source.mk l 0) 3).bind fun r1 =>
 (j7 (a1E t) (r1.1.toNat+2) ([],r1.1,r1.2)).bind fun b14 =>
 some b14.1
def a34 (n:Nat)(t:Api_Type)(name:ByteArray):Option Bool :=
 (K4 n t).bind fun r1 =>
 bif r1 != 0
 then (some false)
 else ((idx t.Nodes t.Root).bind fun e2 =>
 (bif e2.Kind==19
 then (some (J4 e2.Text name))
 else (some false)).bind fun q3 =>
 some q3)
def a4L (n:Nat)(l:List Api_Type):Option Api_Type :=
 bif (l.length:Int)==0
 then ((b2A).bind fun r1 =>
 some r1)
 else ((a6f n 17 l).bind fun r2 =>
 some r2)
def a4P (l:List Api_Constraint)(name:ByteArray)(n:Nat)(x1:(List Api_Type)×(List Api_Type)×Int):Option (Fl ((List Api_Type)×(List Api_Type)×Int) ((List Api_Type)×(List Api_Type))) :=
 bif decide (x1.2.2<(l.length:Int))
 then ((idx l x1.2.2).bind fun e2 =>
 (a34 n e2.Lower name).bind fun r3 =>
 (a34 n e2.Upper name).bind fun r4 =>
 (bif r3
 then (some r4)
 else (some false)).bind fun q5 =>
 bif q5
 then (some (.next (x1.1,x1.2.1,wr .i64 (x1.2.2+1))))
 else (bif r4
 then ((k9 (x1.1.length+([e2.Lower]:List Api_Type).length) 32).bind fun _ =>
 some (.next (x1.1++([e2.Lower]:List Api_Type),x1.2.1,wr .i64 (x1.2.2+1))))
 else (bif r3
 then ((k9 (x1.2.1.length+([e2.Upper]:List Api_Type).length) 32).bind fun _ =>
 some (.next (x1.1,x1.2.1++([e2.Upper]:List Api_Type),wr .i64 (x1.2.2+1))))
 else (some (.next (x1.1,x1.2.1,wr .i64 (x1.2.2+1)))))))
 else (some (.done (x1.1,x1.2.1)))
def a8Q (n:Nat)(l:List Api_Constraint)(name:ByteArray):Option (Api_Type×Api_Type) :=
 (j7 (a4P l name n) ((l.length:Int).toNat+1) ([],[],0)).bind fun b8 =>
 (a5s n b8.1).bind fun r9 =>
 (a4L n b8.2).bind fun r10 =>
 some (r9,r10)
def a0v (t:Api_Type)(k:Int):Option Bool :=
 (bif decide (0<=k)
 then (some (decide (k<(t.Nodes.length:Int))))
 else (some false)).bind fun q1 =>
 some q1
def a4m (d:Api_Type)(t:Api_TypeNode)(x1:Int):Option (Fl Int (Sum Unit Bool)) :=
 bif decide (x1<(t.Kids.length:Int))
 then ((idx t.Kids x1).bind fun e2 =>
 (a0v d e2).bind fun r3 =>
 bif !r3
 then (some (.done (.inr false)))
 else (some (.next (wr .i64 (x1+1)))))
 else (some (.done (.inl ())))
def a4l (d:Api_Type)(t:Api_TypeNode)(x24:Int):Option (Fl Int (Sum Unit Bool)) :=
 bif decide (x24<(t.Fields.length:Int))
 then ((idx t.Fields x24).bind fun e25 =>
 (a0v d e25.Node).bind fun r26 =>
 (bif !r26
 then (some true)
 else ((a1s e25.Key_).bind fun r27 =>
 some (!r27))).bind fun q28 =>
 (bif q28
 then (some true)
 else ((bif decide (0<x24)
 then ((idx t.Fields (wr .i64 (x24-1))).bind fun e29 =>
 (W6 e29.Key_ e25.Key_).bind fun r30 =>
 some (decide (0<=r30)))
 else (some false)).bind fun q31 =>
 some q31)).bind fun q32 =>
 bif q32
 then (some (.done (.inr false)))
 else (some (.next (wr .i64 (x24+1)))))
 else (some (.done (.inl ())))
def a5Z (d:Api_Type)(t:Api_TypeNode):Option Bool :=
 (j7 (a4m d t) ((t.Kids.length:Int).toNat+1) 0).bind fun b4 =>
 w9 (fun _ =>
 (bif t.Kind==4
 then (some true)
 else (some (t.Kind==6))).bind fun q7 =>
 (bif q7
 then (some true)
 else (some (t.Kind==19))).bind fun q8 =>
 (bif !(t.Kind==3)
 then ((bif t.Lo != 0
 then (some true)
 else (some (t.Hi != 0))).bind fun q9 =>
 some q9)
 else (some false)).bind fun q10 =>
 (bif q10
 then (some true)
 else ((bif !q8
 then (some (!(J4 t.Text (⟨#[]⟩:ByteArray))))
 else (some false)).bind fun q11 =>
 some q11)).bind fun q12 =>
 bif q12
 then (some false)
 else ((bif t.Kind != 13
 then ((bif decide (0<(t.Fields.length:Int))
 then (some true)
 else (some (!(a7W t.Rest (0,0))))).bind fun q13 =>
 some q13)
 else (some false)).bind fun q14 =>
 bif q14
 then (some false)
 else (bif t.Kind==3
 then ((bif (t.Kids.length:Int)==0
 then (some (decide (t.Lo<=t.Hi)))
 else (some false)).bind fun q15 =>
 some q15)
 else (bif t.Kind==4
 then ((bif (t.Kids.length:Int)==0
 then (some (decide ((t.Text.size:Int)<=64)))
 else (some false)).bind fun q16 =>
 some q16)
 else (bif t.Kind==6
 then ((bif (t.Kids.length:Int)==0
 then ((a1V t.Text).bind fun r17 =>
 some r17)
 else (some false)).bind fun q18 =>
 some q18)
 else (bif t.Kind==19
 then ((bif (t.Kids.length:Int)==0
 then ((a1K t.Text).bind fun r19 =>
 some r19)
 else (some false)).bind fun q20 =>
 some q20)
 else ((bif t.Kind==1
 then (some (t.Kind==1))
 else (bif t.Kind==2
 then (some (t.Kind==2))
 else (bif t.Kind==5
 then (some (t.Kind==5))
 else (bif t.Kind==7
 then (some (t.Kind==7))
 else (bif t.Kind==8
 then (some (t.Kind==8))
 else (bif t.Kind==9
 then (some (t.Kind==9))
 else (bif t.Kind==11
 then (some (t.Kind==11))
 else (some (t.Kind==15))))))))).bind fun b21 =>
 bif b21
 then (some ((t.Kids.length:Int)==0))
 else (bif t.Kind==10
 then (some (decide ((t.Kids.length:Int)<=4)))
 else (bif t.Kind==12
 then (some ((t.Kids.length:Int)==2))
 else (bif t.Kind==14
 then ((bif decide (1<=(t.Kids.length:Int))
 then (some (decide ((t.Kids.length:Int)<=5)))
 else (some false)).bind fun q22 =>
 some q22)
 else ((bif t.Kind==16
 then (some (t.Kind==16))
 else (some (t.Kind==17))).bind fun b23 =>
 bif b23
 then (some (decide (1<=(t.Kids.length:Int))))
 else (bif t.Kind==18
 then (some ((t.Kids.length:Int)==1))
 else (bif t.Kind==13
 then ((j7 (a4l d t) ((t.Fields.length:Int).toNat+1) 0).bind fun b33 =>
 w9 (fun _ =>
 (bif (t.Kids.length:Int)==0
 then ((a0v d t.Rest.1).bind fun r36 =>
 some r36)
 else (some false)).bind fun q37 =>
 (bif q37
 then ((a0v d t.Rest.2).bind fun r38 =>
 some r38)
 else (some false)).bind fun q39 =>
 some q39) (fun y35 =>
 some y35) b33)
 else (some false)))))))))))))) (fun y6 =>
 some y6) b4
def a4q (n_0:Api_TypeNode):Option Bool :=
 (bif n_0.Kind==16
 then (some true)
 else (some (n_0.Kind==17))).bind fun q1 =>
 (bif q1
 then (some true)
 else (some (n_0.Kind==18))).bind fun q2 =>
 some q2
def a16 (d:Api_Type)(x2:Int):Option (Fl Int (Sum Unit Int)) :=
 bif decide (x2<(d.Nodes.length:Int))
 then ((idx d.Nodes x2).bind fun e3 =>
 (a5Z d e3).bind fun r4 =>
 bif !r4
 then (some (.done (.inr 1)))
 else (some (.next (wr .i64 (x2+1)))))
 else (some (.done (.inl ())))
def K2 (d:Api_Type)(x10:(List Bool)×Int)(x11:(List Bool)×Bool×Int):Option (Fl ((List Bool)×Bool×Int) ((List Bool)×Bool)) :=
 (idx d.Nodes x10.2).bind fun e12 =>
 (a4q e12).bind fun r13 =>
 (bif r13
 then ((idx d.Nodes x10.2).bind fun e14 =>
 some (decide (x11.2.2<(e14.Kids.length:Int))))
 else (some false)).bind fun q15 =>
 bif q15
 then ((bif x11.2.1
 then ((idx d.Nodes x10.2).bind fun e16 =>
 (idx e16.Kids x11.2.2).bind fun e17 =>
 (idx x11.1 e17).bind fun _ =>
 (x11.1[e17.toNat]?).bind fun e19 =>
 some e19)
 else (some false)).bind fun q20 =>
 some (.next (x11.1,q20,wr .i64 (x11.2.2+1))))
 else (some (.done (x11.1,x11.2.1)))
def X1 (d:Api_Type)(n:Nat)(x10:(List Bool)×Int):Option (Fl ((List Bool)×Int) (List Bool)) :=
 bif decide (x10.2<(d.Nodes.length:Int))
 then ((j7 (K2 d x10) n (x10.1,true,0)).bind fun b21 =>
 (idx b21.1 x10.2).bind fun _ =>
 (b21.1[x10.2.toNat]?).bind fun e23 =>
 (bif e23
 then (some true)
 else (some b21.2)).bind fun q24 =>
 (idx b21.1 x10.2).bind fun _ =>
 (b21.1[x10.2.toNat]?).bind fun _ =>
 some (.next (b21.1.set x10.2.toNat q24,wr .i64 (x10.2+1))))
 else (some (.done x10.1))
def X2 (d:Api_Type)(n:Nat)(x9:(List Bool)×Int):Option (Fl ((List Bool)×Int) (List Bool)) :=
 bif decide (x9.2<(d.Nodes.length:Int))
 then ((j7 (X1 d n) ((d.Nodes.length:Int).toNat+1) (x9.1,0)).bind fun b27 =>
 some (.next (b27,wr .i64 (x9.2+1))))
 else (some (.done x9.1))
def a03 (x29:(List Bool)×Int):Option (Fl ((List Bool)×Int) (Sum (List Bool) (Int×(List Bool)))) :=
 bif decide (x29.2<(x29.1.length:Int))
 then ((idx x29.1 x29.2).bind fun _ =>
 (x29.1[x29.2.toNat]?).bind fun e31 =>
 bif !e31
 then (some (.done (.inr (3,x29.1))))
 else (some (.next (x29.1,wr .i64 (x29.2+1)))))
 else (some (.done (.inl x29.1)))
def a0o (n:Nat)(d:Api_Type):Option Int :=
 (a0v d d.Root).bind fun r1 =>
 bif !r1
 then (some 1)
 else ((j7 (a16 d) ((d.Nodes.length:Int).toNat+1) 0).bind fun b5 =>
 w9 (fun _ =>
 (a6d (d.Nodes.length:Int) (d.Nodes.length:Int) 1).bind fun m8 =>
 (j7 (X2 d n) ((d.Nodes.length:Int).toNat+1) (d8D m8 (false:Bool),0)).bind fun b28 =>
 (j7 a03 ((b28.length:Int).toNat+1) (b28,0)).bind fun b32 =>
 w9 (fun _ =>
 some 0) (fun y34 =>
 some y34.1) b32) (fun y7 =>
 some y7) b5)
def a1U (n:Nat)(t:Api_Type)(name:ByteArray):Option Bool :=
 (a0o n t).bind fun r1 =>
 (bif r1==0
 then ((idx t.Nodes t.Root).bind fun e2 =>
 some (e2.Kind==19))
 else (some false)).bind fun q3 =>
 (bif q3
 then ((idx t.Nodes t.Root).bind fun e4 =>
 some (J4 e4.Text name))
 else (some false)).bind fun q5 =>
 some q5
def a4T (v:Val)(k:Key)(x1:Int):Option (Fl Int (Sum Unit Int)) :=
 bif decide (x1<(v.Keys.length:Int))
 then ((idx v.Keys x1).bind fun e2 =>
 bif a2p e2 k
 then (some (.done (.inr x1)))
 else (some (.next (wr .i64 (x1+1)))))
 else (some (.done (.inl ())))
def a6I (v:Val)(k:Key):Option Int :=
 (j7 (a4T v k) ((v.Keys.length:Int).toNat+1) 0).bind fun b3 =>
 w9 (fun _ =>
 some (-1)) (fun y5 =>
 some y5) b3
def a3I (n_0:Api_TypeNode)(k:Key)(x1:Int):Option (Fl Int (Sum Unit Int)) :=
 bif decide (x1<(n_0.Fields.length:Int))
 then ((idx n_0.Fields x1).bind fun e2 =>
 bif a2p e2.Key_ k
 then (some (.done (.inr x1)))
 else (some (.next (wr .i64 (x1+1)))))
 else (some (.done (.inl ())))
def a2n (n_0:Api_TypeNode)(k:Key):Option Int :=
 (j7 (a3I n_0 k) ((n_0.Fields.length:Int).toNat+1) 0).bind fun b3 =>
 w9 (fun _ =>
 some (-1)) (fun y5 =>
 some y5) b3
def a2y (v:Val)(t:Api_Type)(n_2:Api_TypeNode)(rec_semtyperef7_members:(List Val)->Api_Type->(List Int)->Option Bool)(rec_semtyperef7_member:Val->Api_Type->Int->Option Bool)(x1:Int):Option (Fl Int (Sum Unit Bool)) :=
 bif decide (x1<(v.Entries.length:Int))
 then ((idx v.Entries x1).bind fun e2 =>
 (cut n_2.Kids 0 (wr .i64 ((n_2.Kids.length:Int)-1))).bind fun y3 =>
 (rec_semtyperef7_members e2.Args t y3).bind fun r4 =>
 (bif r4
 then ((bif e2.Fails
 then (some true)
 else ((idx n_2.Kids (wr .i64 ((n_2.Kids.length:Int)-1))).bind fun e5 =>
 (rec_semtyperef7_member e2.Result t e5).bind fun r6 =>
 some (!r6))).bind fun q7 =>
 some q7)
 else (some false)).bind fun q8 =>
 bif q8
 then (some (.done (.inr false)))
 else (some (.next (wr .i64 (x1+1)))))
 else (some (.done (.inl ())))
def a2U (d:Val)(a2_2:Api_TypeNode)(x1:Int):Option (Fl Int (Sum Unit Bool)) :=
 bif decide (x1<(a2_2.Fields.length:Int))
 then ((idx a2_2.Fields x1).bind fun e2 =>
 (bif !e2.Optional
 then ((idx a2_2.Fields x1).bind fun e3 =>
 (a6I d e3.Key_).bind fun r4 =>
 some (decide (r4<0)))
 else (some false)).bind fun q5 =>
 bif q5
 then (some (.done (.inr false)))
 else (some (.next (wr .i64 (x1+1)))))
 else (some (.done (.inl ())))
def a1I (d:Val)(t:Api_Type)(a2_2:Api_TypeNode)(rec_semtyperef7_member:Val->Api_Type->Int->Option Bool)(x9:Int):Option (Fl Int (Sum Unit Bool)) :=
 bif decide (x9<(d.Keys.length:Int))
 then ((idx d.Keys x9).bind fun e10 =>
 (a2n a2_2 e10).bind fun r11 =>
 ((idx d.Keys x9).bind fun e12 =>
 bif e12.Kind==0
 then (some a2_2.Rest.1)
 else (bif e12.Kind==1
 then (some a2_2.Rest.2)
 else (none))).bind fun b13 =>
 (bif decide (0<=r11)
 then ((idx a2_2.Fields r11).bind fun e14 =>
 some e14.Node)
 else (some b13)).bind fun b15 =>
 (idx d.Kids x9).bind fun e16 =>
 (rec_semtyperef7_member e16 t b15).bind fun r17 =>
 bif !r17
 then (some (.done (.inr false)))
 else (some (.next (wr .i64 (x9+1)))))
 else (some (.done (.inl ())))
def a1Y (d:Val)(t:Api_Type)(e1:Api_TypeNode)(rec_semtyperef7_member:Val->Api_Type->Int->Option Bool)(x14:Int):Option (Fl Int (Sum Unit Bool)) :=
 bif decide (x14<(e1.Kids.length:Int))
 then ((idx e1.Kids x14).bind fun e15 =>
 (rec_semtyperef7_member d t e15).bind fun r16 =>
 bif r16
 then (some (.done (.inr true)))
 else (some (.next (wr .i64 (x14+1)))))
 else (some (.done (.inl ())))
def a07 (d:Val)(t:Api_Type)(e1:Api_TypeNode)(rec_semtyperef7_member:Val->Api_Type->Int->Option Bool)(x20:Int):Option (Fl Int (Sum Unit Bool)) :=
 bif decide (x20<(e1.Kids.length:Int))
 then ((idx e1.Kids x20).bind fun e21 =>
 (rec_semtyperef7_member d t e21).bind fun r22 =>
 bif !r22
 then (some (.done (.inr false)))
 else (some (.next (wr .i64 (x20+1)))))
 else (some (.done (.inl ())))
def a12 (d:Val)(e1:Api_TypeNode)(x28:Int):Option (Fl Int (Sum Unit Bool)) :=
 bif decide (x28<(d.Labels.length:Int))
 then ((idx d.Labels x28).bind fun e29 =>
 bif J4 e29 e1.Text
 then (some (.done (.inr true)))
 else (some (.next (wr .i64 (x28+1)))))
 else (some (.done (.inl ())))
def a1H (l:List Val)(t:Api_Type)(nodes:List Int)(rec_semtyperef7_member:Val->Api_Type->Int->Option Bool)(x1:Int):Option (Fl Int (Sum Unit Bool)) :=
 bif decide (x1<(l.length:Int))
 then ((idx l x1).bind fun e2 =>
 (idx nodes x1).bind fun e3 =>
 (rec_semtyperef7_member e2 t e3).bind fun r4 =>
 bif !r4
 then (some (.done (.inr false)))
 else (some (.next (wr .i64 (x1+1)))))
 else (some (.done (.inl ())))
def a4X (_:Nat)(_:Val->Api_Type->Api_TypeNode->Option Bool)(_:Val->Api_Type->Api_TypeNode->Option Bool)(rec_semtyperef7_member:Val->Api_Type->Int->Option Bool)(rec_semtyperef7_members:(List Val)->Api_Type->(List Int)->Option Bool)(v:Val)(t:Api_Type)(n_2:Api_TypeNode):Option Bool :=
 bif v.Int_ != (wr .i64 ((n_2.Kids.length:Int)-1))
 then (some false)
 else ((j7 (a2y v t n_2 rec_semtyperef7_members rec_semtyperef7_member) ((v.Entries.length:Int).toNat+1) 0).bind fun b9 =>
 w9 (fun _ =>
 some true) (fun y11 =>
 some y11) b9)
def a5k (_:Nat)(_:Val->Api_Type->Api_TypeNode->Option Bool)(_:Val->Api_Type->Api_TypeNode->Option Bool)(rec_semtyperef7_member:Val->Api_Type->Int->Option Bool)(_:(List Val)->Api_Type->(List Int)->Option Bool)(d:Val)(t:Api_Type)(a2_2:Api_TypeNode):Option Bool :=
 (j7 (a2U d a2_2) ((a2_2.Fields.length:Int).toNat+1) 0).bind fun b6 =>
 w9 (fun _ =>
 (j7 (a1I d t a2_2 rec_semtyperef7_member) ((d.Keys.length:Int).toNat+1) 0).bind fun b18 =>
 w9 (fun _ =>
 some true) (fun y20 =>
 some y20) b18) (fun y8 =>
 some y8) b6
def a5H (_:Nat)(rec_semtyperef7_function:Val->Api_Type->Api_TypeNode->Option Bool)(rec_semtyperef7_mapping:Val->Api_Type->Api_TypeNode->Option Bool)(rec_semtyperef7_member:Val->Api_Type->Int->Option Bool)(rec_semtyperef7_members:(List Val)->Api_Type->(List Int)->Option Bool)(d:Val)(t:Api_Type)(a2_2:Int):Option Bool :=
 (idx t.Nodes a2_2).bind fun e1 =>
 bif e1.Kind==2
 then (some true)
 else (bif e1.Kind==3
 then ((bif d.Kind==1
 then (some (decide (e1.Lo<=d.Int_)))
 else (some false)).bind fun q2 =>
 (bif q2
 then (some (decide (d.Int_<=e1.Hi)))
 else (some false)).bind fun q3 =>
 some q3)
 else (bif e1.Kind==4
 then ((bif d.Kind==2
 then (some (J4 d.Text e1.Text))
 else (some false)).bind fun q4 =>
 some q4)
 else (bif e1.Kind==5
 then (some (d.Kind==2))
 else (bif e1.Kind==6
 then ((bif d.Kind==3
 then (some (J4 d.Text e1.Text))
 else (some false)).bind fun q5 =>
 some q5)
 else (bif e1.Kind==7
 then (some (d.Kind==3))
 else (bif e1.Kind==8
 then (some (d.Kind==4))
 else (bif e1.Kind==9
 then (some (d.Kind==5))
 else (bif e1.Kind==11
 then (some (d.Kind==6))
 else (bif e1.Kind==15
 then (some (d.Kind==9))
 else (bif e1.Kind==10
 then ((bif d.Kind==6
 then ((rec_semtyperef7_members d.Kids t e1.Kids).bind fun r6 =>
 some r6)
 else (some false)).bind fun q7 =>
 some q7)
 else (bif e1.Kind==12
 then ((bif d.Kind==7
 then ((rec_semtyperef7_members d.Kids t e1.Kids).bind fun r8 =>
 some r8)
 else (some false)).bind fun q9 =>
 some q9)
 else (bif e1.Kind==13
 then ((bif d.Kind==8
 then ((rec_semtyperef7_mapping d t e1).bind fun r10 =>
 some r10)
 else (some false)).bind fun q11 =>
 some q11)
 else (bif e1.Kind==14
 then ((bif d.Kind==9
 then ((rec_semtyperef7_function d t e1).bind fun r12 =>
 some r12)
 else (some false)).bind fun q13 =>
 some q13)
 else (bif e1.Kind==16
 then ((j7 (a1Y d t e1 rec_semtyperef7_member) ((e1.Kids.length:Int).toNat+1) 0).bind fun b17 =>
 w9 (fun _ =>
 some false) (fun y19 =>
 some y19) b17)
 else (bif e1.Kind==17
 then ((j7 (a07 d t e1 rec_semtyperef7_member) ((e1.Kids.length:Int).toNat+1) 0).bind fun b23 =>
 w9 (fun _ =>
 some true) (fun y25 =>
 some y25) b23)
 else (bif e1.Kind==18
 then ((idx e1.Kids 0).bind fun e26 =>
 (rec_semtyperef7_member d t e26).bind fun r27 =>
 some (!r27))
 else (bif e1.Kind==19
 then ((j7 (a12 d e1) ((d.Labels.length:Int).toNat+1) 0).bind fun b30 =>
 w9 (fun _ =>
 some false) (fun y32 =>
 some y32) b30)
 else (some false))))))))))))))))))
def a1X (_:Nat)(_:Val->Api_Type->Api_TypeNode->Option Bool)(_:Val->Api_Type->Api_TypeNode->Option Bool)(rec_semtyperef7_member:Val->Api_Type->Int->Option Bool)(_:(List Val)->Api_Type->(List Int)->Option Bool)(l:List Val)(t:Api_Type)(nodes:List Int):Option Bool :=
 bif (l.length:Int) != (nodes.length:Int)
 then (some false)
 else ((j7 (a1H l t nodes rec_semtyperef7_member) ((l.length:Int).toNat+1) 0).bind fun b5 =>
 w9 (fun _ =>
 some true) (fun y7 =>
 some y7) b5)
def v8:Nat->(Val->Api_Type->Api_TypeNode->Option Bool)×(Val->Api_Type->Api_TypeNode->Option Bool)×(Val->Api_Type->Int->Option Bool)×((List Val)->Api_Type->(List Int)->Option Bool)
 | 0=>(fun _ _ _=>none,fun _ _ _=>none,fun _ _ _=>none,fun _ _ _=>none)
 | n+1=>(a4X n ((v8 n).1) ((v8 n).2.1) ((v8 n).2.2.1) ((v8 n).2.2.2),a5k n ((v8 n).1) ((v8 n).2.1) ((v8 n).2.2.1) ((v8 n).2.2.2),a5H n ((v8 n).1) ((v8 n).2.1) ((v8 n).2.2.1) ((v8 n).2.2.2),a1X n ((v8 n).1) ((v8 n).2.1) ((v8 n).2.2.1) ((v8 n).2.2.2))
def a0N (n:Nat):Val->Api_Type->Api_TypeNode->Option Bool:=(v8 n).1
def a0X (n:Nat):Val->Api_Type->Api_TypeNode->Option Bool:=(v8 n).2.1
def Z5 (n:Nat):Val->Api_Type->Int->Option Bool:=(v8 n).2.2.1
def a0s (n:Nat):(List Val)->Api_Type->(List Int)->Option Bool:=(v8 n).2.2.2
def a5F (n:Nat)(v:Val)(t:Api_Type)(k:Int):Option Bool :=
 (X5 n v).bind fun r1 =>
 (bif r1
 then ((a0o n t).bind fun r2 =>
 some (r2==0))
 else (some false)).bind fun q3 =>
 (bif q3
 then ((a0v t k).bind fun r4 =>
 some r4)
 else (some false)).bind fun q5 =>
 (bif q5
 then ((Z5 n v t k).bind fun r6 =>
 some r6)
 else (some false)).bind fun q7 =>
 some q7
def a1j (n:Nat)(v:Val)(t:Api_Type):Option Bool :=
 (a5F n v t t.Root).bind fun r1 =>
 some r1
noncomputable def a0G (n:Nat)(r4:Api_Type×Val)(r5:List Api_Constraint)(e8:ByteArray)(x10:Bool×Bool×Int):Option (Fl (Bool×Bool×Int) (Bool×Bool)) :=
 bif decide (x10.2.2<(r5.length:Int))
 then (((idx r5 x10.2.2).bind fun e11 =>
 (a1U n e11.Lower e8).bind fun r12 =>
 (idx r5 x10.2.2).bind fun e13 =>
 (a1U n e13.Upper e8).bind fun r14 =>
 (bif r12
 then (some (!r14))
 else (some false)).bind fun q15 =>
 (bif q15
 then ((bif x10.2.1
 then ((idx r5 x10.2.2).bind fun e16 =>
 (a1j n r4.2 e16.Upper).bind fun r17 =>
 some r17)
 else (some false)).bind fun q18 =>
 some q18)
 else (some x10.2.1)).bind fun b19 =>
 (bif r14
 then (some (!r12))
 else (some false)).bind fun q20 =>
 bif q20
 then ((bif x10.1
 then (some true)
 else ((idx r5 x10.2.2).bind fun e21 =>
 (a1j n r4.2 e21.Lower).bind fun r22 =>
 some r22)).bind fun q23 =>
 some (q23,b19))
 else (some (x10.1,b19))).bind fun b24 =>
 some (.next (b24.1,b24.2,wr .i64 (x10.2.2+1))))
 else (some (.done (x10.1,x10.2.1)))
noncomputable def a2k (n:Nat)(d:List Int)(t:List Int)(a2_2:Int):Option Bool :=
 (bif decide (16<(d.length:Int))
 then (some true)
 else ((a4B ([t]:List (List Int))).bind fun r1 =>
 some (!r1))).bind fun b2 =>
 bif b2
 then ((a4O n).bind fun r3 =>
 some r3)
 else ((a4G n d t).bind fun r4 =>
 (a2i r4.1 t).bind fun r5 =>
 (b3w (wr .i64 a2_2) 3).bind fun d6 =>
 (idx ([(⟨#[65]⟩:ByteArray),(⟨#[66]⟩:ByteArray),(⟨#[67]⟩:ByteArray)]:List ByteArray) d6).bind fun _ =>
 (([(⟨#[65]⟩:ByteArray),(⟨#[66]⟩:ByteArray),(⟨#[67]⟩:ByteArray)]:List ByteArray)[d6.toNat]?).bind fun e8 =>
 (a8Q n r5 e8).bind fun r9 =>
 (j7 (a0G n r4 r5 e8) ((r5.length:Int).toNat+1) (false,true,0)).bind fun b25 =>
 (a1j n r4.2 r9.1).bind fun r26 =>
 (bif r26==b25.1
 then ((a1j n r4.2 r9.2).bind fun r27 =>
 some (r27==b25.2))
 else (some false)).bind fun q28 =>
 (bif q28
 then ((a4O n).bind fun r29 =>
 some r29)
 else (some false)).bind fun q30 =>
 some q30)
end Go.Qx
end
section
open List renaming cons_append->d80,drop_eq_getElem_cons->d8S,foldl_cons->e0f,getElem?_eq_getElem->d8n,length_cons->d8v,mem_cons->d8A
open Nat renaming le_refl->d8r
open Option renaming bind_some->d8l
namespace Go.Pl
open Go Go.RowKit Go.Sx Go.Qx
theorem Q9 (x:Int):wr .i64 x=w64 x:=rfl
theorem a1l {α:Type}(b:Bool)(x y:α):(bif b then x else y)=if b=true then x else y:=by cases b<;>rfl
theorem a56 {α:Type}(o:Option α):(Option.bind o fun x=>some x)=o:=by cases o<;>rfl
theorem V0 {α:Type}(l:List α):((l.length:Int)).toNat=l.length:=by omega
theorem c46 (s:ByteArray):((s.size:Int)).toNat=s.size:=by omega
theorem W2 {x:Int}(h1 : -9223372036854775808<=x)(h2:x<=9223372036854775807):w64 x=x:=by
 unfold w64
 rw [IntKind.wrap_i64]
 omega
theorem Z9 {α:Type}{xs:List α}{i:Nat}{x:α}(h:xs[i]?=some x):idx xs (i:Int)=some x:=by
 unfold idx
 rw [if_pos (by omega)]
 simpa using h
theorem W8 {n bytes:Nat}(h:n*bytes<=140737488355328):k9 n bytes=some ():=by unfold k9; rw [if_pos h]
theorem c0p {σ α St β:Type}{step:St->Option (Fl St β)}(xs:List α)(pack:σ->Nat->St)(F:σ->α->σ)(I:Nat->σ->Prop)(D:σ->β)
 (hstep:∀ i s x,xs[i]?=some x->I i s->step (pack s i)=some (.next (pack (F s x) (i+1)))/\I (i+1) (F s x))
 (hend:∀ s,I xs.length s->step (pack s xs.length)=some (.done (D s))) (s0:σ) (h0:I 0 s0) (k:Nat) (hk:xs.length+1<=k) :
 j7 step k (pack s0 0)=some (D (xs.foldl F s0)):=by
 have key:∀ (n i:Nat) (s:σ) (k:Nat),i+n=xs.length->n+1<=k->I i s->j7 step k (pack s i)=some (D ((xs.drop i).foldl F s)):=by
  intro n
  induction n with
  | zero =>
    intro i s k hi hk hI
    have e:i=xs.length:=by omega
    subst e
    obtain ⟨k,rfl⟩:∃ m,k=m+1:=⟨k-1,by omega⟩
    simp [j7,hend s hI]
  | succ n ih =>
    intro i s k hi hk hI
    have hlt:i<xs.length:=by omega
    obtain ⟨k,rfl⟩:∃ m,k=m+1:=⟨k-1,by omega⟩
    obtain ⟨h1,h2⟩:=hstep i s xs[i] (d8n hlt) hI
    rw [d8S hlt,e0f]
    simp only [j7,h1,d8l]
    exact ih (i+1) _ k (by omega) (by omega) h2
 have:=key xs.length 0 s0 k (by omega) hk h0
 simpa using this
def a3f (s:ByteArray):Nat:=s.size+1
def K3:List ByteArray->Nat
 | []=>0
 | s::r=>a3f s+K3 r
def a6o (k:Key):Nat:=1+a3f k.Text+1
def Z1:List Key->Nat
 | []=>0
 | s::r=>a6o s+Z1 r
mutual
def Z4:Val->Nat
 | .mk _ _ t kids keys ents labs=>1+1+a3f t+(Z0 kids+1)+(Z1 keys+1)+(Y3 ents+1)+(K3 labs+1)+1
def Z0:List Val->Nat
 | []=>0
 | x::r=>Z4 x+Z0 r
def a6G:Ent->Nat
 | .mk args _ res=>(Z0 args+1)+1+Z4 res+1
def Y3:List Ent->Nat
 | []=>0
 | x::r=>a6G x+Y3 r
end
theorem a2J (v:Val):Z4 v=1+1+a3f v.Text+(Z0 v.Kids+1)+(Z1 v.Keys+1)+(Y3 v.Entries+1)+(K3 v.Labels+1)+1:=by
 cases v; simp only [Z4,Val.Text,Val.Kids,Val.Keys,Val.Entries,Val.Labels]
theorem a2L (v:Ent):a6G v=(Z0 v.Args+1)+1+Z4 v.Result+1:=by
 cases v; simp only [a6G,Ent.Args,Ent.Result]
theorem a1P {x:Val}:∀ {l:List Val},x∈l->Z4 x<=Z0 l
 | y::r,h=>by
   simp only [Z0]
   rcases d8A.1 h with rfl | h
   ·omega
   ·have:=a1P h; omega
theorem a1N {x:Ent}:∀ {l:List Ent},x∈l->a6G x<=Y3 l
 | y::r,h=>by
   simp only [Y3]
   rcases d8A.1 h with rfl | h
   ·omega
   ·have:=a1N h; omega
theorem a7v:∀ (l:List Val),l.length<=Z0 l
 | []=>d8r _
 | x::r=>by have:=a7v r; have:=a2J x; simp only [Z0,d8v]; omega
theorem a5G:∀ (l:List Ent),l.length<=Y3 l
 | []=>d8r _
 | x::r=>by have:=a5G r; have:=a2L x; simp only [Y3,d8v]; omega
theorem a9u:∀ (l:List Key),l.length<=Z1 l
 | []=>d8r _
 | x::r=>by have:=a9u r; simp only [Z1,a6o,d8v]; omega
theorem a6V:∀ (l:List ByteArray),l.length<=K3 l
 | []=>d8r _
 | x::r=>by have:=a6V r; simp only [K3,a3f,d8v]; omega
theorem a3J (l m:List Val):Z0 (l++m)=Z0 l+Z0 m:=by
 induction l with
 | nil=>simp [Z0]
 | cons x r ih=>simp only [d80,Z0,ih]; omega
theorem b0Q (v:Val):8<=Z4 v:=by rw [a2J]; unfold a3f; omega
end Go.Pl
namespace Go.Pl
open Go Go.RowKit Go.Sx Go.Qx
end Go.Pl
end
section
open Bool renaming false_eq_true->d81
open List renaming append_assoc->d8E,cons_append->d80,drop_eq_getElem_cons->d8S,flatMap_cons->d9W,getElem?_eq_getElem->d8n,getElem_mem->d8B
open Nat renaming le_refl->d8r
open Option renaming bind_some->d8l
namespace Go.Pl
open Go Go.RowKit Go.Sx Go.Qx
def tn (x y:Int):Int:=if x=0 then y else x
def cI (x y:Int):Int:=if x<y then -1 else if y<x then 1 else 0
def lx:List Int->List Int->Int
 | [],[]=>0
 | [],_::_ => -1
 | _::_,[]=>1
 | x::xs,y::ys=>tn (cI x y) (lx xs ys)
theorem a91 (x y z:Int):tn (tn x y) z=tn x (tn y z):=by unfold tn; split<;>simp_all
theorem b64 (x:Int):tn x 0=x:=by unfold tn; split<;>simp_all
theorem b0j (x:Int):tn 0 x=x:=by simp [tn]
theorem a4V (x y:Int):(x<y/\cI x y = -1)\/(y<x/\cI x y=1)\/(x=y/\cI x y=0):=by
 unfold cI
 by_cases h:x<y
 ·left; simp [h]
 ·by_cases h2:y<x
  ·right; left; simp [h,h2]
  ·right; right; simp [h,h2]; omega
theorem c0Q:∀ a b:List Int,lx b a = - lx a b
 | [],[]=>by simp [lx]
 | [],_::_=>by simp [lx]
 | _::_,[]=>by simp [lx]
 | x::xs,y::ys=>by
   have:=c0Q xs ys
   rcases a4V x y with ⟨h1,h⟩ | ⟨h1,h⟩ | ⟨h1,h⟩<;>rcases a4V y x with ⟨h2,k⟩ | ⟨h2,k⟩ | ⟨h2,k⟩<;>simp [lx,h,k,tn]<;>omega
theorem d5Q:∀ a:List Int,lx a a=0:=by intro a; have:=c0Q a a; omega
def cBs:List UInt8->List UInt8->Int
 | [],[]=>0
 | [],_::_ => -1
 | _::_,[]=>1
 | x::xs,y::ys=>tn (cI x.toNat y.toNat) (cBs xs ys)
def eBs:List UInt8->List Int
 | []=>[0]
 | x::r=>((x.toNat:Int)+1)::eBs r
theorem d5k (x y:Int):cI (x+1) (y+1)=cI x y:=by
 unfold cI
 by_cases h:x<y
 ·rw [if_pos (by omega),if_pos h]
 ·rw [if_neg (by omega),if_neg h]
  by_cases h2:y<x
  ·rw [if_pos (by omega),if_pos h2]
  ·rw [if_neg (by omega),if_neg h2]
theorem d6s:∀ (a b:List UInt8) (r s:List Int),lx (eBs a++r) (eBs b++s)=tn (cBs a b) (lx r s)
 | [],[],r,s=>by simp [eBs,lx,cBs,cI,b0j]
 | [],y::ys,r,s=>by
   have:cI 0 ((y.toNat:Int)+1) = -1:=by unfold cI; rw [if_pos (by omega)]
   simp [eBs,lx,cBs,this,tn]
 | x::xs,[],r,s=>by
   have:cI ((x.toNat:Int)+1) 0=1:=by unfold cI; rw [if_neg (by omega),if_pos (by omega)]
   simp [eBs,lx,cBs,this,tn]
 | x::xs,y::ys,r,s=>by
   simp only [eBs,d80,lx,cBs,d5k,d6s xs ys,a91]
def cS (a b:ByteArray):Int:=cBs a.data.toList b.data.toList
def eS (a:ByteArray):List Int:=eBs a.data.toList
theorem pfS (a b:ByteArray)(r s:List Int):lx (eS a++r) (eS b++s)=tn (cS a b) (lx r s):=d6s _ _ r s
def cK (a b:Key):Int:=tn (cI a.Kind b.Kind) (cS a.Text b.Text)
def eK (a:Key):List Int:=a.Kind::eS a.Text
theorem pfK (a b:Key)(r s:List Int):lx (eK a++r) (eK b++s)=tn (cK a b) (lx r s):=by
 simp only [eK,d80,lx,pfS,cK,a91]
def cL {α:Type}(c:α->α->Int):List α->List α->Int
 | [],_=>0
 | _::_,[]=>0
 | x::xs,y::ys=>tn (c x y) (cL c xs ys)
def cN {α:Type}(c:α->α->Int)(xs ys:List α):Int:=tn (cI (xs.length:Int) (ys.length:Int)) (cL c xs ys)
def eN {α:Type}(e:α->List Int)(xs:List α):List Int:=(xs.length:Int)::xs.flatMap e
theorem pfL {α:Type}{c:α->α->Int}{e:α->List Int}:∀ (xs ys:List α) (r s:List Int),(∀ x∈xs,∀ y r s,lx (e x++r) (e y++s)=tn (c x y) (lx r s))->xs.length=ys.length ->
 lx (xs.flatMap e++r) (ys.flatMap e++s)=tn (cL c xs ys) (lx r s)
 | [],[],r,s,_,_=>by simp [cL,b0j]
 | [],_::_,_,_,_,h=>by simp at h
 | _::_,[],_,_,_,h=>by simp at h
 | x::xs,y::ys,r,s,hc,h=>by
   simp only [d9W,d8E,cL]
   rw [hc x (by simp),pfL xs ys r s (fun z hz=>hc z (by simp [hz])) (by simpa using h),a91]
theorem pfN {α:Type}{c:α->α->Int}{e:α->List Int}(xs ys:List α)(r s:List Int)(hc:∀ x∈xs,∀ y r s,lx (e x++r) (e y++s)=tn (c x y) (lx r s)) :
 lx (eN e xs++r) (eN e ys++s)=tn (cN c xs ys) (lx r s):=by
 simp only [eN,d80,lx,cN,a91]
 rcases a4V (xs.length:Int) (ys.length:Int) with ⟨_,h⟩ | ⟨_,h⟩ | ⟨h1,h⟩
 ·simp [h,tn]
 ·simp [h,tn]
 ·rw [h,b0j,b0j,pfL xs ys r s hc (by omega)]
def bI (b:Bool):Int:=if b then 0 else 1
mutual
def cV:Val->Val->Int
 | .mk k n t kids keys ents labs,b=>tn (cI k b.Kind) (tn (cI n b.Int_) (tn (cS t b.Text) (tn (cN cK keys b.Keys) (tn (tn (cI (kids.length:Int) (b.Kids.length:Int)) (cVs kids b.Kids)) (tn (tn (cI (ents.length:Int) (b.Entries.length:Int)) (cEs ents b.Entries)) (cN cS labs b.Labels))))))
def cVs:List Val->List Val->Int
 | [],_=>0
 | _::_,[]=>0
 | x::xs,y::ys=>tn (cV x y) (cVs xs ys)
def cE:Ent->Ent->Int
 | .mk args f res,b=>tn (tn (cI (args.length:Int) (b.Args.length:Int)) (cVs args b.Args)) (tn (cI (bI f) (bI b.Fails)) (cV res b.Result))
def cEs:List Ent->List Ent->Int
 | [],_=>0
 | _::_,[]=>0
 | x::xs,y::ys=>tn (cE x y) (cEs xs ys)
end
theorem c8B:∀ xs ys:List Val,cVs xs ys=cL cV xs ys
 | [],_=>by simp [cVs,cL]
 | _::_,[]=>by simp [cVs,cL]
 | x::xs,y::ys=>by simp only [cVs,cL,c8B xs ys]
theorem d1U:∀ xs ys:List Ent,cEs xs ys=cL cE xs ys
 | [],_=>by simp [cEs,cL]
 | _::_,[]=>by simp [cEs,cL]
 | x::xs,y::ys=>by simp only [cEs,cL,d1U xs ys]
theorem d4i (a b:Val):cV a b=tn (cI a.Kind b.Kind) (tn (cI a.Int_ b.Int_) (tn (cS a.Text b.Text) (tn (cN cK a.Keys b.Keys) (tn (cN cV a.Kids b.Kids) (tn (cN cE a.Entries b.Entries) (cN cS a.Labels b.Labels)))))):=by
 cases a; simp only [cV,c8B,d1U,cN,Val.Kind,Val.Int_,Val.Text,Val.Keys,Val.Kids,Val.Entries,Val.Labels]
theorem d4w (a b:Ent):cE a b=tn (cN cV a.Args b.Args) (tn (cI (bI a.Fails) (bI b.Fails)) (cV a.Result b.Result)):=by
 cases a; simp only [cE,c8B,cN,Ent.Args,Ent.Fails,Ent.Result]
mutual
def eV:Val->List Int
 | .mk k n t kids keys ents labs=>k::n::(eS t++(eN eK keys++(((kids.length:Int)::eVs kids)++(((ents.length:Int)::eEs ents)++eN eS labs))))
def eVs:List Val->List Int
 | []=>[]
 | x::xs=>eV x++eVs xs
def eE:Ent->List Int
 | .mk args f res=>((args.length:Int)::eVs args)++(bI f::eV res)
def eEs:List Ent->List Int
 | []=>[]
 | x::xs=>eE x++eEs xs
end
theorem c8a:∀ xs:List Val,eVs xs=xs.flatMap eV
 | []=>by simp [eVs]
 | x::xs=>by simp only [eVs,d9W,c8a xs]
theorem d1E:∀ xs:List Ent,eEs xs=xs.flatMap eE
 | []=>by simp [eEs]
 | x::xs=>by simp only [eEs,d9W,d1E xs]
theorem d4s (a:Val):eV a=a.Kind::a.Int_::(eS a.Text++(eN eK a.Keys++(eN eV a.Kids++(eN eE a.Entries++eN eS a.Labels)))):=by
 cases a; simp only [eV,c8a,d1E,eN,Val.Kind,Val.Int_,Val.Text,Val.Keys,Val.Kids,Val.Entries,Val.Labels]
theorem d4q (a:Ent):eE a=eN eV a.Args++(bI a.Fails::eV a.Result):=by
 cases a; simp only [eE,c8a,eN,Ent.Args,Ent.Fails,Ent.Result]
theorem d19:∀ n:Nat,(∀ a:Val,Z4 a<=n->∀ b r s,lx (eV a++r) (eV b++s)=tn (cV a b) (lx r s))/\(∀ a:Ent,a6G a<=n->∀ b r s,lx (eE a++r) (eE b++s)=tn (cE a b) (lx r s)):=by
 intro n
 induction n with
 | zero=>exact ⟨fun a h=>by have:=b0Q a; omega,fun a h=>by have:=a2L a; omega⟩
 | succ n ih =>
   refine ⟨fun a h b r s=>?_,fun a h b r s=>?_⟩
   ·have hb:=a2J a
    rw [d4s a,d4s b,d4i]
    simp only [d80,d8E,lx,a91]
    rw [pfS,pfN a.Keys b.Keys _ _ (fun x _ y r s=>pfK x y r s),pfN a.Kids b.Kids _ _ (fun x hx=>ih.1 x (by have:=a1P hx; omega)),
     pfN a.Entries b.Entries _ _ (fun x hx=>ih.2 x (by have:=a1N hx; omega)),pfN a.Labels b.Labels _ _ (fun x _ y r s=>pfS x y r s)]
   ·have hb:=a2L a
    rw [d4q a,d4q b,d4w]
    simp only [d8E,a91]
    rw [pfN a.Args b.Args _ _ (fun x hx=>ih.1 x (by have:=a1P hx; omega))]
    simp only [d80,lx]
    rw [ih.1 a.Result (by omega)]
theorem d7z (a b:Val):cV a b=lx (eV a) (eV b):=by
 have:=(d19 (Z4 a)).1 a (d8r _) b [] []
 simpa [lx,b64] using this.symm
theorem d5B (a:Val):cV a a=0:=by rw [d7z]; exact d5Q _
end Go.Pl
namespace Go.Pl
open Go Go.RowKit Go.Sx Go.Qx
theorem d0Z (a b:Int):a4A a b=some (cI a b):=by
 unfold a4A a78
 simp only [a1l,bne_self_eq_false,d8l,d81,if_false]
 rcases a4V a b with ⟨h,e⟩ | ⟨h,e⟩ | ⟨h,e⟩
 ·rw [if_pos (by simpa using h),e]
 ·rw [if_neg (by simp; omega),if_pos (by simpa using h),e]
 ·rw [if_neg (by simp; omega),if_neg (by simp; omega),e]
theorem b2K (a b:Int):a2o a b=some (cI a b):=by
 unfold a2o
 simp only [a1l]
 rcases a4V a b with ⟨h,e⟩ | ⟨h,e⟩ | ⟨h,e⟩
 ·rw [if_pos (by simpa using h),e]
 ·rw [if_neg (by simp; omega),if_pos (by simpa using h),e]
 ·rw [if_neg (by simp; omega),if_neg (by simp; omega),e]
theorem c0i (a b:Int):a0u a b=some (cI a b):=by
 unfold a0u; rw [b2K]; rfl
theorem d0l:∀ a b:List UInt8,Lib.compareBytes a b=cBs a b
 | [],[]=>rfl
 | [],_::_=>rfl
 | _::_,[]=>rfl
 | x::xs,y::ys=>by
   have ih:=d0l xs ys
   simp only [Lib.compareBytes,cBs,UInt8.lt_iff_toNat_lt]
   rcases a4V (x.toNat:Int) (y.toNat:Int) with ⟨h,e⟩ | ⟨h,e⟩ | ⟨h,e⟩
   ·rw [if_pos (by omega),e]; rfl
   ·rw [if_neg (by omega),if_pos (by omega),e]; rfl
   ·rw [if_neg (by omega),if_neg (by omega),e,b0j,ih]
theorem d0M (a b:ByteArray):a4H a b=some (cS a b):=by
 unfold a4H a17 c9o c0q
 rw [d0l]; rfl
theorem c6a:∀ a b:List UInt8,(Op.bytesLess a b=true/\cBs a b = -1/\a≠b)\/(Op.bytesLess a b=false/\cBs a b=0/\a=b)\/(Op.bytesLess a b=false/\cBs a b=1/\a≠b)
 | [],[]=>by simp [Op.bytesLess,cBs]
 | [],_::_=>by simp [Op.bytesLess,cBs]
 | _::_,[]=>by simp [Op.bytesLess,cBs]
 | x::xs,y::ys=>by
   have ih:=c6a xs ys
   simp only [Op.bytesLess,cBs]
   rcases a4V (x.toNat:Int) (y.toNat:Int) with ⟨h,e⟩ | ⟨h,e⟩ | ⟨h,e⟩
   ·have h1:x<y:=UInt8.lt_iff_toNat_lt.2 (by omega)
    have h2:x≠y:=by intro h3; subst h3; omega
    simp [e,h1,h2,tn]
   ·have h1:¬ x<y:=fun h3=>by have:=UInt8.lt_iff_toNat_lt.1 h3; omega
    have h2:x≠y:=by intro h3; subst h3; omega
    simp [e,h1,h2,tn]
   ·have h2:x=y:=UInt8.toNat_inj.1 (by omega)
    subst h2
    have h1:¬ x<x:=fun h3=>by have:=UInt8.lt_iff_toNat_lt.1 h3; omega
    simpa [e,h1,tn] using ih
theorem a8w (a b:ByteArray):(a2d a b=true/\J4 a b=false/\cS a b = -1)\/(a2d a b=false/\J4 a b=true/\cS a b=0)\/(a2d a b=false/\J4 a b=false/\cS a b=1):=by
 unfold a2d J4 cS
 rw [Lib.toList_data,Lib.toList_data]
 rcases c6a a.data.toList b.data.toList with ⟨h,e,n⟩ | ⟨h,e,n⟩ | ⟨h,e,n⟩
 ·left; exact ⟨h,by simpa using n,e⟩
 ·right; left; exact ⟨h,by simpa using n,e⟩
 ·right; right; exact ⟨h,by simpa using n,e⟩
theorem b4V (a b:ByteArray):a1i a b=some (cS a b):=by
 unfold a1i
 rcases a8w a b with ⟨h,k,e⟩ | ⟨h,k,e⟩ | ⟨h,k,e⟩<;>simp [h,k,e]
theorem d0K {x y:Int}{o:Option Int}(h:o=some y):(bif (x != 0) then some x else o)=some (tn x y):=by
 rw [a1l]
 unfold tn
 by_cases hx:x=0
 ·subst hx; simp [h]
 ·simp [hx]
theorem d0D {a b y:Int}{o:Option Int}(h:o=some y):(bif (a != b) then some (cI a b) else o)=some (tn (cI a b) y):=by
 rw [a1l]
 unfold tn
 rcases a4V a b with ⟨p,e⟩ | ⟨p,e⟩ | ⟨p,e⟩
 ·have:a≠b:=by omega
  simp [this,e]
 ·have:a≠b:=by omega
  simp [this,e]
 ·simp [p,h]
  subst p
  intro h2; rw [e] at h2; exact absurd rfl h2
theorem d7Q {a b:ByteArray}{y:Int}{o:Option Int}(h:o=some y):(bif (!J4 a b) then ((a1i a b).bind fun r=>some r) else o)=some (tn (cS a b) y):=by
 rw [a1l,b4V,h]
 rcases a8w a b with ⟨_,p,e⟩ | ⟨_,p,e⟩ | ⟨_,p,e⟩<;>simp [p,e,tn]
theorem c9y (a b:Key):a3w a b=some (cK a b):=by
 unfold a3w
 rw [d0Z]
 simp only [d8l]
 exact d0K (by rw [d0M]; rfl)
theorem b0p (a b:Key):W6 a b=some (cK a b):=by
 unfold W6
 rw [b2K]
 exact d0D (by rw [b4V]; rfl)
theorem d3O {α:Type}{step:Int->Option (Fl Int (Sum Unit Int))}{rc:α->α->Option Int}{c:α->α->Int}(xs ys:List α)(hlen:xs.length=ys.length)
 (hst:∀ q,step q=bif decide (q<(xs.length:Int)) then (idx xs q).bind fun x=>(idx ys q).bind fun y=>(rc x y).bind fun r =>
   bif r != 0 then some (.done (.inr r)) else some (.next (wr .i64 (q+1))) else some (.done (.inl ())))
 (hrc:∀ x∈xs,∀ y,rc x y=some (c x y)) (hl:xs.length<=4194304) :
 ∃ o,j7 step (xs.length+1) 0=some o/\((o=.inl ()/\cL c xs ys=0)\/(o=.inr (cL c xs ys)/\cL c xs ys≠0)):=by
 have key:∀ (n i k:Nat),i+n=xs.length->n+1<=k ->
  ∃ o,j7 step k (i:Int)=some o/\((o=.inl ()/\cL c (xs.drop i) (ys.drop i)=0)\/(o=.inr (cL c (xs.drop i) (ys.drop i))/\cL c (xs.drop i) (ys.drop i)≠0)):=by
  intro n
  induction n with
  | zero =>
    intro i k hi hk
    obtain ⟨k,rfl⟩:∃ m,k=m+1:=⟨k-1,by omega⟩
    refine ⟨.inl (),?_,.inl ⟨rfl,?_⟩⟩
    ·simp only [j7,hst,a1l]
     rw [if_neg (by simp; omega)]
     rfl
    ·rw [List.drop_eq_nil_of_le (by omega)]; simp [cL]
  | succ n ih =>
    intro i k hi hk
    obtain ⟨k,rfl⟩:∃ m,k=m+1:=⟨k-1,by omega⟩
    have hx:i<xs.length:=by omega
    have hy:i<ys.length:=by omega
    rw [d8S hx,d8S hy]
    have e:step (i:Int)=if (c xs[i] ys[i] != 0)=true then some (.done (.inr (c xs[i] ys[i]))) else some (.next (w64 ((i:Int)+1))):=by
     rw [hst]
     simp only [a1l,Q9]
     rw [if_pos (by simp; omega),Z9 (d8n hx),Z9 (d8n hy)]
     simp only [d8l]
     rw [hrc _ (d8B hx)]
     rfl
    simp only [j7,e,cL]
    by_cases h0:c xs[i] ys[i]=0
    ·rw [h0,b0j,W2 (x:=(i:Int)+1) (by omega) (by omega)]
     obtain ⟨o,ho,hp⟩:=ih (i+1) k (by omega) (by omega)
     refine ⟨o,?_,hp⟩
     simpa using ho
    ·have ht:tn (c xs[i] ys[i]) (cL c (xs.drop (i+1)) (ys.drop (i+1)))=c xs[i] ys[i]:=by simp [tn,h0]
     rw [ht]
     refine ⟨.inr (c xs[i] ys[i]),?_,.inr ⟨rfl,h0⟩⟩
     simp [h0]
 obtain ⟨o,h1,h2⟩:=key xs.length 0 (xs.length+1) (by omega) (d8r _)
 exact ⟨o,by simpa using h1,by simpa using h2⟩
theorem d5t {α:Type}{step:Int->Option (Fl Int (Sum Unit Int))}{rc:α->α->Option Int}{c:α->α->Int}(xs ys:List α)(hlen:xs.length=ys.length)
 (hst:∀ q,step q=bif decide (q<(xs.length:Int)) then (idx xs q).bind fun x=>(idx ys q).bind fun y=>(rc x y).bind fun r =>
   bif r != 0 then some (.done (.inr r)) else some (.next (wr .i64 (q+1))) else some (.done (.inl ())))
 (hrc:∀ x∈xs,∀ y,rc x y=some (c x y)) (hl:xs.length<=4194304) {f:Unit->Option Int} {z:Int} (hf:∀ q,f q=some z) :
 ((j7 step (((xs.length:Int)).toNat+1) 0).bind fun b=>w9 f (fun r=>some r) b)=some (tn (cL c xs ys) z):=by
 obtain ⟨o,h1,h2⟩:=d3O xs ys hlen hst hrc hl
 rw [V0,h1]
 rcases h2 with ⟨rfl,h⟩ | ⟨rfl,h⟩
 ·simp [w9,hf,h,tn]
 ·simp [w9,h,tn]
theorem c0X {α:Type}{step:Int->Option (Fl Int (Sum Unit Int))}{rc:α->α->Option Int}{c:α->α->Int}(xs ys:List α)
 (hst:∀ q,step q=bif decide (q<(xs.length:Int)) then (idx xs q).bind fun x=>(idx ys q).bind fun y=>(rc x y).bind fun r =>
   bif r != 0 then some (.done (.inr r)) else some (.next (wr .i64 (q+1))) else some (.done (.inl ())))
 (hrc:∀ x∈xs,∀ y,rc x y=some (c x y)) (hl:xs.length<=4194304) {f:Unit->Option Int} {z:Int} (hf:∀ q,f q=some z) :
 (bif ((xs.length:Int) != (ys.length:Int)) then ((a0u (xs.length:Int) (ys.length:Int)).bind fun r=>some r) else
   ((j7 step (((xs.length:Int)).toNat+1) 0).bind fun b=>w9 f (fun r=>some r) b))=some (tn (cN c xs ys) z):=by
 rw [a1l,c0i]
 simp only [d8l,cN]
 rcases a4V (xs.length:Int) (ys.length:Int) with ⟨p,e⟩ | ⟨p,e⟩ | ⟨p,e⟩
 ·have:((xs.length:Int) != (ys.length:Int))=true:=by simp; omega
  rw [if_pos this,e]; rfl
 ·have:((xs.length:Int) != (ys.length:Int))=true:=by simp; omega
  rw [if_pos this,e]; rfl
 ·rw [if_neg (by simp; omega),d5t xs ys (by omega) hst hrc hl hf,e,b0j]
theorem a5o:∀ (k:Nat),
 (∀ a b,2*Z4 a<=k->Z4 a<=4194304->a0r k a b=some (cV a b)) /\
 (∀ xs ys,2*Z0 xs+1<=k->Z0 xs<=4194304->a2Y k xs ys=some (cN cV xs ys)) /\
 (∀ a b,2*a6G a<=k->a6G a<=4194304->Q1 k a b=some (cE a b))
 | 0=>⟨fun v _ h=>by have:=b0Q v; omega,fun _ _ h=>by omega,fun v _ h=>by have:=a2L v; omega⟩
 | k+1=>by
   obtain ⟨i1,i2,i3⟩:=a5o k
   refine ⟨?_,?_,?_⟩
   ·intro a b h hb
    show a5q k (a0r k) (a2Y k) (Q1 k) a b=_
    have hbe:=a2J a
    have hk:=a9u a.Keys
    have hs:=a6V a.Labels
    have he:=a5G a.Entries
    unfold a5q
    rw [d4i,c0i,b2K]
    simp only [d8l]
    refine d0D (d0D (d7Q ?_))
    refine c0X (step:=a7Q a b) a.Keys b.Keys (rc:=W6) (c:=cK) (fun q=>rfl) (fun x _ y=>b0p x y) (by omega) ?_
    intro _
    rw [i2 a.Kids b.Kids (by omega) (by omega)]
    simp only [d8l]
    refine d0K ?_
    refine c0X (step:=a7L a b (Q1 k)) a.Entries b.Entries (rc:=Q1 k) (c:=cE) (fun q=>rfl) (fun x hx y=>i3 x y (by have:=a1N hx; omega) (by have:=a1N hx; omega)) (by omega) ?_
    intro _
    have:=c0X (step:=a7K a b) a.Labels b.Labels (rc:=a1i) (c:=cS) (z:=0) (fun q=>rfl) (fun x _ y=>b4V x y) (by omega) (f:=fun _=>some 0) (fun _=>rfl)
    rw [b64] at this
    exact this
   ·intro xs ys h hb
    show a5E k (a0r k) (a2Y k) (Q1 k) xs ys=_
    have hl:=a7v xs
    unfold a5E
    rw [c0X (step:=a8r xs ys (a0r k)) xs ys (rc:=a0r k) (c:=cV) (z:=0) (fun q=>rfl) (fun x hx y=>i1 x y (by have:=a1P hx; omega) (by have:=a1P hx; omega)) (by omega) (fun _=>rfl),b64]
   ·intro a b h hb
    show a2N k (a0r k) (a2Y k) (Q1 k) a b=_
    have hbe:=a2L a
    unfold a2N
    rw [d4w,i2 a.Args b.Args (by omega) (by omega),i1 a.Result b.Result (by omega) (by omega)]
    simp only [d8l]
    refine d0K ?_
    cases a.Fails<;>cases b.Fails<;>simp [bI,cI,tn]
end Go.Pl
end
section
open Bool renaming and_eq_true->d8p,false_eq_true->d81,not_true->d9m,true_and->d9B
open Int renaming toNat_natCast->d8M
open List renaming all_cons->d9v,all_eq_true->d8q,getElem?_cons_succ->d9p,getElem?_eq_getElem->d8n,getElem?_eq_some_iff->d8o,getElem_mem->d8B,getElem_of_mem->d9b,length_cons->d8v
open Nat renaming le_refl->d8r
open Option renaming bind_some->d8l
namespace Go.Pl
open Go Go.RowKit Go.Sx Go.Qx
theorem c2O {step:Int->Option (Fl Int (Sum Unit Bool))}(n:Nat)(p:Nat->Bool)
 (hst:∀ i:Nat,i<n->step (i:Int)=some (if p i=true then .next ((i+1:Nat):Int) else .done (.inr false)))
 (hend:∀ i:Nat,n<=i->step (i:Int)=some (.done (.inl ()))) (i0:Nat) (b:Bool) (hb:b=true↔∀ i,i0<=i->i<n->p i=true) :
 (j7 step (n+1) (i0:Int)).bind (w9 (fun _=>some true) (fun r=>some r))=some b:=by
 have fin:∀ (i k:Nat),n<=i->(∀ j,i0<=j->j<i->j<n->p j=true)->(j7 step (k+1) (i:Int)).bind (w9 (fun _=>some true) (fun r=>some r))=some b:=by
  intro i k h1 h4
  simp only [j7,hend i h1,d8l,w9]
  have:b=true:=hb.2 fun j a c=>h4 j a (by omega) c
  rw [this]
 have key:∀ (m i k:Nat),n<=i+m->m+1<=k->i0<=i->(∀ j,i0<=j->j<i->j<n->p j=true)->(j7 step k (i:Int)).bind (w9 (fun _=>some true) (fun r=>some r))=some b:=by
  intro m
  induction m with
  | zero =>
    intro i k h1 h2 h3 h4
    obtain ⟨k,rfl⟩:∃ m,k=m+1:=⟨k-1,by omega⟩
    exact fin i k (by omega) h4
  | succ m ih =>
    intro i k h1 h2 h3 h4
    obtain ⟨k,rfl⟩:∃ m,k=m+1:=⟨k-1,by omega⟩
    by_cases hlt:i<n
    ·simp only [j7,hst i hlt]
     cases hp:p i
     ·simp only [d81,if_false,d8l,w9]
      have:b=false:=by
       cases b
       ·rfl
       ·have:=hb.1 rfl i h3 hlt
        rw [hp] at this; cases this
      rw [this]
     ·simp only [if_true,d8l]
      refine ih (i+1) k (by omega) (by omega) (by omega) (fun j a c d=>?_)
      by_cases e:j<i
      ·exact h4 j a e d
      ·have:j=i:=by omega
       subst this; exact hp
    ·exact fin i k (by omega) h4
 exact key n i0 (n+1) (by omega) (by omega) (d8r _) (fun j a c=>by omega)
theorem Y1 (i:Nat)(h:i<=4611686018427387904):w64 ((i:Int)+1)=((i+1:Nat):Int):=by rw [W2 (by omega) (by omega)]; rfl
theorem a9O (b:Bool)(x:Int):(bif (!b) then some (Fl.done (Sum.inr false)) else some (Fl.next x))=some (if b=true then Fl.next x else (Fl.done (Sum.inr false):Fl Int (Sum Unit Bool))):=by cases b<;>rfl
def asc {α:Type}(c:α->α->Int):List α->Bool
 | x::y::r=>decide (c x y<0)&&asc c (y::r)
 | _=>true
theorem c04 {α:Type}(c:α->α->Int):∀ xs:List α,asc c xs=true↔∀ i,1<=i->(hi:i<xs.length)->c xs[i-1] xs[i]<0
 | []=>by simp [asc]
 | [x]=>by
   simp only [asc,true_iff]
   intro i h1 hi
   simp at hi; omega
 | x::y::r=>by
   have ih:=c04 c (y::r)
   simp only [asc,d8p,decide_eq_true_eq,ih]
   constructor
   ·intro ⟨h1,h2⟩ i hi hl
    obtain ⟨i,rfl⟩:∃ m,i=m+1:=⟨i-1,by omega⟩
    cases i with
    | zero=>exact h1
    | succ i=>exact h2 (i+1) (by omega) (by simpa using hl)
   ·intro h
    refine ⟨h 1 (by omega) (by simp),fun i hi hl=>?_⟩
    obtain ⟨i,rfl⟩:∃ m,i=m+1:=⟨i-1,by omega⟩
    have:=h (i+2) (by omega) (by simpa using hl)
    simpa using this
def a6u (c:UInt8):Bool:=decide (97<=(c.toNat:Int))&&decide ((c.toNat:Int)<=122)
def upC (c:UInt8):Bool:=decide (65<=(c.toNat:Int))&&decide ((c.toNat:Int)<=90)
def a7E (c:UInt8):Bool:=decide (48<=(c.toNat:Int))&&decide ((c.toNat:Int)<=57)
def b6z (f g:UInt8->Bool)(s:ByteArray):Bool :=
 match s.data.toList with
 | []=>false
 | c::r=>decide (r.length<=15)&&f c&&r.all g
def a5V (s:ByteArray):Bool:=b6z upC (fun c=>a6u c||upC c||a7E c||(c.toNat:Int)==95) s
def a4J (s:ByteArray):Bool:=b6z a6u (fun c=>a6u c||a7E c||(c.toNat:Int)==95) s
theorem c8n (c:UInt8):a4y (c.toNat:Int)=some (a6u c):=by
 unfold a4y a6u
 cases decide (97<=(c.toNat:Int))<;>simp
theorem d4c (c:UInt8):a6e (c.toNat:Int)=some (upC c):=by
 unfold a6e upC
 cases decide (65<=(c.toNat:Int))<;>simp
theorem d2E (c:UInt8):a6c (c.toNat:Int)=some (a7E c):=by
 unfold a6c a7E
 cases decide (48<=(c.toNat:Int))<;>simp
theorem b2j {s:ByteArray}{i:Nat}{c:UInt8}(h:s.data.toList[i]?=some c):a5M s (i:Int)=some c:=by
 unfold a5M
 rw [if_pos (by omega)]
 obtain ⟨hi,e⟩:=d8o.1 h
 have hs:i<s.size:=by simpa using hi
 show s[((i:Int)).toNat]?=some c
 rw [d8M,getElem?_pos s i hs]
 show some s.data[i]=some c
 simpa using e
theorem b9G (s:ByteArray):s.size=s.data.toList.length:=by simp
theorem c94 {a1 a2:Int->Option Bool}{f g:UInt8->Bool}(h1:∀ c:UInt8,a1 (c.toNat:Int)=some (f c))(h2:∀ c:UInt8,a2 (c.toNat:Int)=some (g c))(s:ByteArray):a67 s a1 a2=some (b6z f g s):=by
 unfold a67 b6z
 simp only [a1l,c46]
 have hsz:=b9G s
 cases hs:s.data.toList with
 | nil =>
   rw [hs] at hsz
   rw [hsz]
   simp
 | cons c r =>
   rw [hs] at hsz
   simp only [d8v] at hsz
   have e1:decide ((s.size:Int)<1)=false:=by simp; omega
   rw [e1]
   simp only [d81,if_false,d8l]
   by_cases hb:16<(s.size:Int)
   ·rw [if_pos (by simpa using hb)]
    have:decide (r.length<=15)=false:=by simp; omega
    rw [this]; rfl
   ·rw [if_neg (by simpa using hb)]
    have e2:decide (r.length<=15)=true:=by simp; omega
    have e3:a5M s 0=some c:=b2j (i:=0) (by rw [hs]; rfl)
    rw [e2,e3]
    simp only [d8l,h1,d9B]
    cases f c
    ·rfl
    ·simp only [d9m,d81,if_false,d9B]
     refine c2O s.size (fun i=>match s.data.toList[i]? with | some x=>g x | none=>true) ?_ ?_ 1 (r.all g) ?_
     ·intro i hi
      have hi':i<s.data.toList.length:=by rw [hs]; simp; omega
      unfold a8T
      rw [a1l,if_pos (by simp; omega),b2j (d8n hi')]
      simp only [d8l,h2]
      rw [d8n hi',Q9,Y1 i (by omega)]
      exact a9O _ _
     ·intro i hi
      unfold a8T
      rw [a1l,if_neg (by simp; omega)]
     ·rw [hs,d8q]
      constructor
      ·intro h i h1 hi
       obtain ⟨i,rfl⟩:∃ m,i=m+1:=⟨i-1,by omega⟩
       have hr:i<r.length:=by omega
       simp only [d9p,d8n hr]
       exact h _ (d8B hr)
      ·intro h x hx
       obtain ⟨i,hi,rfl⟩:=d9b hx
       have:=h (i+1) (by omega) (by omega)
       simpa only [d9p,d8n hi] using this
theorem d2e (s:ByteArray):a2K s=some (a5V s):=by
 unfold a2K
 simp only [a56]
 rw [c94 d4c (g:=fun c=>a6u c||upC c||a7E c||(c.toNat:Int)==95) (fun c=>by
  unfold a69
  rw [c8n,d4c,d2E]
  simp only [d8l]
  cases a6u c<;>cases upC c<;>cases a7E c<;>simp)]
 rfl
theorem d0u (s:ByteArray):a6W s=some (a4J s):=by
 unfold a6W
 simp only [a56]
 rw [c94 c8n (g:=fun c=>a6u c||a7E c||(c.toNat:Int)==95) (fun c=>by
  unfold b0c
  rw [c8n,d2E]
  simp only [d8l]
  cases a6u c<;>cases a7E c<;>simp)]
 rfl
def a1S (l:List ByteArray):Bool:=asc cS l&&l.all a5V
def X7 (k:Key):Bool:=if k.Kind=0 then a4J k.Text else if k.Kind=1 then decide ((k.Text.size:Int)<=64) else false
def b4J (v:Val):Bool:=v.Keys.length==v.Kids.length&&(asc cK v.Keys&&v.Keys.all X7)
abbrev a7l:Val:=Val.mk 0 0 (⟨#[]⟩) ([]:List Val) ([]:List Key) ([]:List Ent) ([]:List ByteArray)
def a3E (n:Int)(e:Ent):Bool:=(e.Args.length:Int)==n&&(!e.Fails||cV e.Result a7l==0)
def c4E (v:Val):Bool:=decide (0<=v.Int_)&&decide (v.Int_<=4)&&(asc cE v.Entries&&v.Entries.all (a3E v.Int_))
theorem c9u (k:Key):a30 k=some (X7 k):=by
 unfold a30 X7
 rw [d0u]
 simp only [a1l,beq_iff_eq,a56]
 by_cases h:k.Kind=0
 ·simp [h]
 ·by_cases h1:k.Kind=1
  ·simp [h1]
  ·simp [h,h1]
def a4f (v:Val):Bool :=
 (v.Kind==1||v.Kind==4||v.Kind==9||v.Int_==0)&&(v.Kind==2||v.Kind==3||J4 v.Text ⟨#[]⟩) &&
 (v.Kind==6||v.Kind==7||v.Kind==8||v.Kids.isEmpty)&&(v.Kind==8||v.Keys.isEmpty)&&(v.Kind==9||v.Entries.isEmpty)
def b9Q (l:List Val):Bool :=
 match l with
 | [_,t]=>t.Kind==5||t.Kind==7
 | _=>false
def a6j (v:Val):Bool :=
 if v.Kind=1 then true else if v.Kind=2 then decide ((v.Text.size:Int)<=64) else if v.Kind=3 then a4J v.Text else if v.Kind=4 then decide (0<=v.Int_) else
 if v.Kind=5 then true else if v.Kind=6 then decide (v.Kids.length<=4) else if v.Kind=7 then b9Q v.Kids else if v.Kind=8 then b4J v else if v.Kind=9 then c4E v else false
def a3n (v:Val):Bool:=a1S v.Labels&&(a4f v&&a6j v)
theorem c59 {α:Type}(l:List α):decide (0<(l.length:Int))=!l.isEmpty:=by cases l<;>simp
mutual
def vOK:Val->Bool
 | .mk k n t kids keys ents labs=>a3n (.mk k n t kids keys ents labs)&&(a1p kids&&a5D ents)
def a1p:List Val->Bool
 | []=>true
 | x::r=>vOK x&&a1p r
def eOK:Ent->Bool
 | .mk args fails res=>a1p args&&(fails||vOK res)
def a5D:List Ent->Bool
 | []=>true
 | x::r=>eOK x&&a5D r
end
theorem c8H (v:Val):vOK v=(a3n v&&(a1p v.Kids&&a5D v.Entries)):=by cases v; simp only [vOK,Val.Kids,Val.Entries]
theorem b91 (e:Ent):eOK e=(a1p e.Args&&(e.Fails||vOK e.Result)):=by cases e; simp only [eOK,Ent.Args,Ent.Fails,Ent.Result]
theorem a54:∀ l:List Val,a1p l=l.all vOK
 | []=>by simp [a1p]
 | x::r=>by simp only [a1p,d9v,a54 r]
theorem a6O:∀ l:List Ent,a5D l=l.all eOK
 | []=>by simp [a5D]
 | x::r=>by simp only [a5D,d9v,a6O r]
end Go.Pl
end
section
open Bool renaming and_eq_true->d8p,false_eq_true->d81,true_and->d9B
open Int renaming toNat_natCast->d8M
open List renaming all_cons->d9v,cons_append->d80,drop_eq_getElem_cons->d8S,foldl_cons->e0f,getElem?_eq_getElem->d8n,getElem?_eq_none_iff->d9H,getElem?_eq_some_iff->d8o,length->d98,length_append->d8t,length_cons->d8v,length_singleton->d9t,mem_append->d8y,mem_append_left->d9M,mem_append_right->d9G,mem_of_getElem?->d8x,mem_singleton->d9o,takeWhile_append_dropWhile->d9q
open Nat renaming le_refl->d8r
open Option renaming bind_some->d8l
namespace Go.Pl
open Go Go.RowKit Go.Sx Go.Qx
def a0t {α:Type}(p:α->Bool)(x:α)(out:List α):List α:=out.takeWhile p++[x]++out.dropWhile p
theorem c55 {α:Type}(p:α->Bool):∀ l:List α,l.take (l.takeWhile p).length=l.takeWhile p
 | []=>rfl
 | x::r=>by
   by_cases h:p x=true
   ·simp [h,c55 p r]
   ·simp [h]
theorem c45 {α:Type}(p:α->Bool):∀ l:List α,l.drop (l.takeWhile p).length=l.dropWhile p
 | []=>rfl
 | x::r=>by
   by_cases h:p x=true
   ·simp [h,c45 p r]
   ·simp [h]
theorem b6o {α:Type}(p:α->Bool):∀ l:List α,(l.takeWhile p).length<=l.length
 | []=>d8r _
 | x::r=>by
   have:=b6o p r
   by_cases h:p x=true
   ·simp [h,this]
   ·simp [h]
theorem c7A {α:Type}(p:α->Bool):∀ (l:List α),l[(l.takeWhile p).length]?=(l.dropWhile p).head?
 | []=>rfl
 | x::r=>by
   have:=c7A p r
   by_cases h:p x=true
   ·simp [h,this]
   ·simp [h]
theorem c9d {α:Type}{step:Int->Option (Fl Int Int)}(out:List α)(p:α->Bool)
 (hst:∀ (i:Nat) (x:α),out[i]?=some x->step (i:Int)=some (if p x=true then .next ((i+1:Nat):Int) else .done (i:Int)))
 (hend:step (out.length:Int)=some (.done (out.length:Int))):j7 step (out.length+1) 0=some ((out.takeWhile p).length:Int):=by
 have key:∀ (m i k:Nat),i+m=out.length->m+1<=k->j7 step k (i:Int)=some (((i+((out.drop i).takeWhile p).length:Nat)):Int):=by
  intro m
  induction m with
  | zero =>
    intro i k h1 h2
    obtain ⟨k,rfl⟩:∃ m,k=m+1:=⟨k-1,by omega⟩
    have e:i=out.length:=by omega
    subst e
    simp [j7,hend]
  | succ m ih =>
    intro i k h1 h2
    obtain ⟨k,rfl⟩:∃ m,k=m+1:=⟨k-1,by omega⟩
    have hlt:i<out.length:=by omega
    have hs:=hst i out[i] (d8n hlt)
    rw [d8S hlt,List.takeWhile_cons]
    by_cases hp:p out[i]=true
    ·rw [if_pos hp] at hs
     simp only [j7,hs,d8l,ih (i+1) k (by omega) (by omega),hp,if_true,d8v]
     congr 2
     omega
    ·rw [if_neg hp] at hs
     simp [j7,hs,hp]
 have:=key out.length 0 (out.length+1) (by omega) (d8r _)
 simpa using this
theorem a1d {α σ τ β:Type}{step:σ->Option (Fl σ (Sum τ β))}(xs:List α)(p:α->Bool)(pk:Nat->σ)(d:τ)(b:β)
 (hst:∀ (i:Nat) (x:α),xs[i]?=some x->step (pk i)=some (if p x=true then .next (pk (i+1)) else .done (.inr b)))
 (hend:step (pk xs.length)=some (.done (.inl d))):j7 step (xs.length+1) (pk 0)=some (if xs.all p=true then .inl d else .inr b):=by
 have key:∀ (m i k:Nat),i+m=xs.length->m+1<=k->j7 step k (pk i)=some (if (xs.drop i).all p=true then .inl d else .inr b):=by
  intro m
  induction m with
  | zero =>
    intro i k h1 h2
    obtain ⟨k,rfl⟩:∃ m,k=m+1:=⟨k-1,by omega⟩
    have e:i=xs.length:=by omega
    subst e
    simp [j7,hend]
  | succ m ih =>
    intro i k h1 h2
    obtain ⟨k,rfl⟩:∃ m,k=m+1:=⟨k-1,by omega⟩
    have hlt:i<xs.length:=by omega
    have hs:=hst i xs[i] (d8n hlt)
    rw [d8S hlt,d9v]
    by_cases hp:p xs[i]=true
    ·rw [if_pos hp] at hs
     simp only [j7,hs,d8l,ih (i+1) k (by omega) (by omega),hp,d9B]
    ·rw [if_neg hp] at hs
     simp [j7,hs,hp]
 have:=key xs.length 0 (xs.length+1) (by omega) (d8r _)
 simpa using this
theorem c02 {α:Type}(c:α->α->Int)(hanti:∀ a b,c b a = - c a b)(x:α):∀ out:List α,asc c out=true->(∀ y,(out.dropWhile (fun y=>decide (c y x<0))).head?=some y->c y x≠0) ->
 asc c (a0t (fun y=>decide (c y x<0)) x out)=true
 | [],_,_=>by simp [a0t,asc]
 | y::r,h,hne=>by
   by_cases hp:c y x<0
   ·have ih:=c02 c hanti x r (by cases r with | nil=>simp [asc] | cons z r=>simp [asc] at h; exact h.2) (by
     intro z hz
     refine hne z ?_
     simpa [hp] using hz)
    have e:a0t (fun y=>decide (c y x<0)) x (y::r)=y::a0t (fun y=>decide (c y x<0)) x r:=by simp [a0t,hp]
    rw [e]
    cases r with
    | nil=>simp [a0t,asc,hp]
    | cons z r =>
      simp only [asc,d8p,decide_eq_true_eq] at h
      by_cases hz:c z x<0
      ·have e2:a0t (fun y=>decide (c y x<0)) x (z::r)=z::a0t (fun y=>decide (c y x<0)) x r:=by simp [a0t,hz]
       rw [e2] at ih ⊢
       simp only [asc,d8p,decide_eq_true_eq]
       exact ⟨h.1,ih⟩
      ·have e2:a0t (fun y=>decide (c y x<0)) x (z::r)=x::z::r:=by simp [a0t,hz]
       rw [e2] at ih ⊢
       simp only [asc,d8p,decide_eq_true_eq] at ih ⊢
       exact ⟨hp,ih⟩
   ·have e:a0t (fun y=>decide (c y x<0)) x (y::r)=x::y::r:=by simp [a0t,hp]
    have hy:=hne y (by simp [hp])
    have ha:=hanti y x
    rw [e]
    simp only [asc,d8p,decide_eq_true_eq]
    exact ⟨by omega,h⟩
theorem b9q {α:Type}{p:α->Bool}{x y:α}{out:List α}(h:y∈a0t p x out):y=x\/y∈out:=by
 have e:=d9q (p:=p) (l:=out)
 simp only [a0t,d8y,d9o] at h
 rcases h with (h | h) | h
 ·exact .inr (by rw [<- e]; exact d9M _ h)
 ·exact .inl h
 ·exact .inr (by rw [<- e]; exact d9G _ h)
theorem a7b {α:Type}(p:α->Bool)(x:α)(out:List α):(a0t p x out).length=out.length+1:=by
 have e:=congrArg d98 (d9q (p:=p) (l:=out))
 simp only [d8t] at e
 simp only [a0t,d8t,d9t]
 omega
theorem c89 {α:Type}(l:List α){k:Nat}(h:k<=l.length):cut l 0 (k:Int)=some (l.take k):=by
 unfold cut
 rw [if_pos ⟨by omega,by omega,by omega⟩]
 simp
theorem c84 {α:Type}(l:List α){k:Nat}(h:k<=l.length):cut l (k:Int) (l.length:Int)=some (l.drop k):=by
 unfold cut
 rw [if_pos ⟨by omega,by omega,by omega⟩]
 simp
theorem d2t {α β:Type}(out:List α)(x:α)(p:α->Bool)(b:Nat)(hb:b<=1024)(hl:out.length<=4194304)(f:List α->Option β) :
 ((cut out 0 ((out.takeWhile p).length:Int)).bind fun u=>(k9 (0+u.length) b).bind fun _ =>
   (k9 (u.length+[x].length) b).bind fun _=>(cut out ((out.takeWhile p).length:Int) (out.length:Int)).bind fun w =>
   (k9 ((u++[x]).length+w.length) b).bind fun _=>f ((u++[x])++w))=f (a0t p x out):=by
 have hk:=b6o p out
 have rm:∀ n,n<=4194305->k9 n b=some ():=fun n hn=>W8 (by
  have:n*b<=4194305*1024:=Nat.mul_le_mul hn hb
  omega)
 rw [c89 out hk,c84 out hk,c55,c45]
 have hl2:=a7b p x out
 simp only [a0t,d8t,d9t] at hl2
 simp only [d8l]
 rw [rm _ (by simp; omega),rm _ (by simp; omega),rm _ (by simp only [d8t,d9t]; omega)]
 rfl
theorem d4D (a b:Ent):cE a b=lx (eE a) (eE b):=by
 have:=(d19 (a6G a)).2 a (d8r _) b [] []
 simpa [lx,b64] using this.symm
theorem c91 (a b:Ent):cE b a = - cE a b:=by rw [d4D,d4D]; exact c0Q _ _
def a3M (out:List Ent)(x:Ent):List Ent :=
 match (out.dropWhile (fun y=>decide (cE y x<0))).head? with
 | some y=>if cE y x=0 then out else a0t (fun y=>decide (cE y x<0)) x out
 | none=>a0t (fun y=>decide (cE y x<0)) x out
theorem b1H (a b:List Ent):Y3 (a++b)=Y3 a+Y3 b:=by
 induction a with
 | nil=>simp [Y3]
 | cons x r ih=>simp only [d80,Y3,ih]; omega
theorem c14 (p:Ent->Bool)(x:Ent)(out:List Ent):Y3 (a0t p x out)=Y3 out+a6G x:=by
 have e:=congrArg Y3 (d9q (p:=p) (l:=out))
 rw [b1H] at e
 simp only [a0t,b1H,Y3]
 omega
theorem d1T (out:List Ent)(x:Ent):Y3 (a3M out x)<=Y3 out+a6G x:=by
 unfold a3M
 split
 ·split
  ·omega
  ·rw [c14]; omega
 ·rw [c14]; omega
theorem d2U (out:List Ent)(x:Ent):(a3M out x).length<=out.length+1:=by
 unfold a3M
 split
 ·split
  ·omega
  ·rw [a7b]; omega
 ·rw [a7b]; omega
theorem c8r {out:List Ent}{x y:Ent}(h:y∈a3M out x):y=x\/y∈out:=by
 unfold a3M at h
 split at h
 ·split at h
  ·exact .inr h
  ·exact b9q h
 ·exact b9q h
theorem d3N (out:List Ent)(x:Ent)(h:asc cE out=true):asc cE (a3M out x)=true:=by
 unfold a3M
 split
 ·rename_i y hy
  split
  ·exact h
  ·rename_i hne
   refine c02 cE c91 x out h (fun z hz=>?_)
   rw [hy] at hz
   cases hz
   exact hne
 ·rename_i hy
  refine c02 cE c91 x out h (fun z hz=>?_)
  rw [hy] at hz; cases hz
theorem c8s (fuel:Nat)(es out:List Ent)(i:Nat)(x:Ent)(hx:es[i]?=some x)(hf:∀ e∈out,2*a6G e<=fuel)(hb:∀ e∈out,a6G e<=4194304)(hl:out.length<=4194304)(hi:i<=4194304) :
 a0i es fuel (out,(i:Int))=some (.next (a3M out x,((i+1:Nat):Int))):=by
 have hlt:i<es.length:=(d8o.1 hx).1
 have hix:idx es (i:Int)=some x:=Z9 hx
 have hcmp:∀ e∈out,Q1 fuel e x=some (cE e x):=fun e he=>(a5o fuel).2.2 e x (hf e he) (hb e he)
 unfold a0i
 simp only [V0]
 rw [c9d (step:=a2Q es (out,(i:Int)) fuel) out (fun y=>decide (cE y x<0)) ?_ ?_]
 ·simp only [a1l,Q9]
  rw [if_pos (by simp; omega)]
  simp only [d8l,hix,d8M,hx]
  have hk:=b6o (fun y=>decide (cE y x<0)) out
  have hat:=c7A (fun y=>decide (cE y x<0)) out
  have go:((cut out 0 ((out.takeWhile (fun y=>decide (cE y x<0))).length:Int)).bind fun u=>(k9 (0+u.length) 160).bind fun _ =>
   (k9 (u.length+[x].length) 160).bind fun _=>(cut out ((out.takeWhile (fun y=>decide (cE y x<0))).length:Int) (out.length:Int)).bind fun w =>
   (k9 ((u++[x]).length+w.length) 160).bind fun _=>some ((u++[x])++w))=some (a0t (fun y=>decide (cE y x<0)) x out) :=
   d2t out x _ 160 (by omega) hl (fun l=>some l)
  rw [Y1 i (by omega)]
  have fin:∀ (b:Bool) (r:List Ent),(if b=true then some out else some r)=some (a3M out x)->(Option.bind (if b=true then some out else some r) fun b18=>some (Fl.next (b18,((i+1:Nat):Int)):Fl (List Ent×Int) (List Ent)))=some (.next (a3M out x,((i+1:Nat):Int))):=by
   intro b r h
   rw [h]; rfl
  rw [go]
  unfold a3M at fin ⊢
  cases hh:(out.dropWhile (fun y=>decide (cE y x<0))).head? with
  | none =>
    rw [hh] at hat
    have hge:=d9H.1 hat
    rw [if_neg (by simp; omega)]
    rfl
  | some y =>
    rw [hh] at hat
    have hlt2:=(d8o.1 hat).1
    rw [if_pos (by simp; omega),Z9 hat]
    simp only [d8l]
    rw [hcmp y (d8x hat)]
    simp only [d8l]
    by_cases h0:cE y x=0
    ·rw [if_pos (by simp [h0]),if_pos h0]
     rfl
    ·rw [if_neg (by simp [h0]),if_neg h0]
     rfl
 ·intro j y hy
  have hj:j<out.length:=(d8o.1 hy).1
  unfold a2Q
  simp only [a1l,Q9]
  rw [if_pos (by simp; omega),Z9 hy,hix]
  simp only [d8l,d8M,hx]
  rw [hcmp y (d8x hy)]
  simp only [d8l,Y1 j (by omega)]
  by_cases h:cE y x<0<;>simp [h]
 ·unfold a2Q
  simp
theorem a9S:∀ (es out:List Ent),Y3 (es.foldl a3M out)<=Y3 out+Y3 es
 | [],out=>by simp [Y3]
 | x::r,out=>by
   have h1:=a9S r (a3M out x)
   have h2:=d1T out x
   simp only [e0f,Y3]
   omega
theorem b1e {y:Ent}:∀ (es out:List Ent),y∈es.foldl a3M out->y∈out\/y∈es
 | [],_,h=>.inl h
 | x::r,out,h=>by
   rcases b1e r (a3M out x) h with h | h
   ·rcases c8r h with rfl | h
    ·exact .inr (by simp)
    ·exact .inl h
   ·exact .inr (by simp [h])
theorem b8z:∀ (es out:List Ent),asc cE out=true->asc cE (es.foldl a3M out)=true
 | [],_,h=>h
 | x::r,out,h=>b8z r (a3M out x) (d3N out x h)
theorem d0E (fuel:Nat)(es:List Ent)(hf:2*Y3 es<=fuel)(hb:Y3 es<=4194304):a4p fuel es=some (es.foldl a3M []):=by
 have hlen:=a5G es
 unfold a4p
 have key:=c0p (σ:=List Ent) (step:=a0i es fuel) es (fun s i=>(s,(i:Int))) a3M (fun i s=>s.length<=i/\(∀ e∈s,e∈es)) (fun s=>s)
  ?_ ?_ [] ⟨by simp,by simp⟩ _ (d8r _)
 ·have e:j7 (a0i es fuel) (es.length+1) (([]:List Ent),0)=j7 (a0i es fuel) (es.length+1) (([]:List Ent),((0:Nat):Int)):=rfl
  rw [V0,e,key]
  rfl
 ·intro i s x hx ⟨hI,hm⟩
  have hi:i<es.length:=(d8o.1 hx).1
  refine ⟨c8s fuel es s i x hx (fun e he=>by have:=a1N (hm e he); omega) (fun e he=>by have:=a1N (hm e he); omega) (by omega) (by omega),?_,?_⟩
  ·have:=d2U s x; omega
  ·intro e he
   rcases c8r he with rfl | he
   ·exact d8x hx
   ·exact hm e he
 ·intro s _
  unfold a0i
  simp
def c0K (n:Int)(es:List Ent):Val:=Val.mk 9 n (⟨#[]⟩) ([]:List Val) ([]:List Key) es ([]:List ByteArray)
abbrev b9t:Type:=Int×Int×ByteArray×(List Val)×(List Key)×(List Ent)×(List ByteArray)
abbrev a2g:b9t:=(0,0,(⟨#[]⟩:ByteArray),[],[],[],[])
theorem b4n (fuel:Nat)(n:Int)(es:List Ent)(hf:2*Y3 es<=fuel)(hb:Y3 es<=4194304) :
 a2e fuel n es=some (if 0<=n/\n<=4/\es.all (a3E n)=true then (c0K n (es.foldl a3M []),0) else (a7l,1)):=by
 have hlen:=a5G es
 unfold a2e
 simp only [V0]
 by_cases h1:n<0
 ·have e1:decide (n<0)=true:=by simpa using h1
  rw [e1,if_neg (by omega)]; rfl
 by_cases h2:4<n
 ·have e1:decide (n<0)=false:=by simpa using h1
  have e2:decide (4<n)=true:=by simpa using h2
  rw [e1,e2,if_neg (by omega)]; rfl
 have e1:decide (n<0)=false:=by simpa using h1
 have e2:decide (4<n)=false:=by simpa using h2
 rw [e1,e2,d0E fuel es hf hb]
 have key:=a1d (step:=a0I n es fuel) es (a3E n) (fun i=>((i:Int),a2g)) a2g (1,a2g) ?_ ?_
 ·have e:j7 (a0I n es fuel) (es.length+1) (0,(0,0,(⟨#[]⟩:ByteArray),[],[],[],[]))=j7 (a0I n es fuel) (es.length+1) (((0:Nat):Int),a2g):=rfl
  rw [e,key]
  by_cases ha:es.all (a3E n)=true
  ·rw [if_pos ha,if_pos ⟨by omega,by omega,ha⟩]
   rfl
  ·rw [if_neg ha,if_neg (fun h=>ha h.2.2)]
   rfl
 ·intro i x hx
  have hi:i<es.length:=(d8o.1 hx).1
  have hm:=a1N (d8x hx)
  have hbe:=a2L x
  unfold a0I a3r
  simp only [a1l,Q9]
  rw [if_pos (by simp; omega),Z9 hx]
  simp only [d8l,d8M,hx]
  rw [show Val.mk 0 0 (⟨#[]⟩:ByteArray) ([]:List Val) ([]:List Key) ([]:List Ent) ([]:List ByteArray)=a7l from rfl,(a5o fuel).1 x.Result a7l (by omega) (by omega),Y1 i (by omega)]
  unfold a3E
  by_cases hl:(x.Args.length:Int)=n
  ·have e1:((x.Args.length:Int) != n)=false:=by simp [hl]
   have e2:((x.Args.length:Int)==n)=true:=by simp [hl]
   rw [e1,e2]
   simp only [d81,if_false,d8l,d9B]
   cases x.Fails
   ·simp
   ·by_cases h0:cV x.Result a7l=0<;>simp [h0]
  ·have e1:((x.Args.length:Int) != n)=true:=by simp [hl]
   have e2:((x.Args.length:Int)==n)=false:=by simp [hl]
   rw [e1,e2]
   simp
 ·unfold a0I
  simp
end Go.Pl
end
section
open Bool renaming false_eq_true->d81,not_true->d9m,true_and->d9B
open List renaming all_eq_true->d8q,cons_append->d80,drop_eq_getElem_cons->d8S,getElem?_cons_succ->d9p,getElem?_eq_getElem->d8n,getElem?_eq_none_iff->d9H,getElem?_eq_some_iff->d8o,getElem_mem->d8B,getElem_of_mem->d9b,length_append->d8t,length_cons->d8v,length_drop->d83,length_singleton->d9t,length_take->d8G,mem_append->d8y,mem_singleton->d9o,takeWhile_append_dropWhile->d9q,take_append_drop->d88
open Nat renaming le_refl->d8r
open Option renaming bind_some->d8l,map_some->d85
namespace Go.Pl
open Go Go.RowKit Go.Sx Go.Qx
theorem b7s (c:UInt8):a2r (c.toNat:Int)=some (a6u c):=by
 unfold a2r a6u
 cases decide (97<=(c.toNat:Int))<;>simp
theorem c3W (c:UInt8):a3p (c.toNat:Int)=some (a7E c):=by
 unfold a3p a7E
 cases decide (48<=(c.toNat:Int))<;>simp
theorem b5r (s:ByteArray):a1V s=some (a4J s):=by
 unfold a1V a4J b6z
 simp only [a1l,c46]
 have hsz:=b9G s
 cases hs:s.data.toList with
 | nil =>
   rw [hs] at hsz
   rw [hsz]
   simp
 | cons c r =>
   rw [hs] at hsz
   simp only [d8v] at hsz
   have e1:decide ((s.size:Int)<1)=false:=by simp; omega
   rw [e1]
   simp only [d81,if_false,d8l]
   by_cases hb:16<(s.size:Int)
   ·rw [if_pos (by simpa using hb)]
    have:decide (r.length<=15)=false:=by simp; omega
    rw [this]; rfl
   ·rw [if_neg (by simpa using hb)]
    have e2:decide (r.length<=15)=true:=by simp; omega
    have e3:a5M s 0=some c:=b2j (i:=0) (by rw [hs]; rfl)
    rw [e2,e3]
    simp only [d8l,b7s,d9B]
    cases a6u c
    ·rfl
    ·simp only [d9m,d81,if_false,d9B]
     refine c2O s.size (fun i=>match s.data.toList[i]? with | some x=>(a6u x||a7E x||(x.toNat:Int)==95) | none=>true) ?_ ?_ 1 _ ?_
     ·intro i hi
      have hi':i<s.data.toList.length:=by rw [hs]; simp; omega
      unfold a5e
      simp only [a1l,Q9]
      rw [if_pos (by simp; omega),b2j (d8n hi')]
      simp only [d8l,b7s,c3W]
      rw [d8n hi',Y1 i (by omega)]
      generalize s.data.toList[i]=x
      have hn:((x.toNat:Int) != 95)=!((x.toNat:Int)==95):=rfl
      rw [hn]
      show _=some (if (a6u x||a7E x||(x.toNat:Int)==95)=true then _ else _)
      cases a6u x<;>cases a7E x<;>cases (x.toNat:Int)==95<;>rfl
     ·intro i hi
      unfold a5e
      rw [a1l,if_neg (by simp; omega)]
     ·rw [hs,d8q]
      constructor
      ·intro h i h1 hi
       obtain ⟨i,rfl⟩:∃ m,i=m+1:=⟨i-1,by omega⟩
       have hr:i<r.length:=by omega
       simp only [d9p,d8n hr]
       exact h _ (d8B hr)
      ·intro h x hx
       obtain ⟨i,hi,rfl⟩:=d9b hx
       have:=h (i+1) (by omega) (by omega)
       simpa only [d9p,d8n hi] using this
theorem b8d (k:Key):a1s k=some (X7 k):=by
 unfold a1s X7
 rw [b5r]
 by_cases h:k.Kind=0
 ·cases a4J k.Text<;>simp [h]
 ·by_cases h1:k.Kind=1
  ·simp [h1]
  ·have e0:(k.Kind==0)=false:=by simpa using h
   have e1:(k.Kind==1)=false:=by simpa using h1
   rw [e0,e1,if_neg h,if_neg h1]
   rfl
theorem d4W (a b:Key):cK a b=lx (eK a) (eK b):=by
 have:=pfK a b [] []
 simpa [lx,b64] using this.symm
theorem d4Z (a b:Key):cK b a = - cK a b:=by rw [d4W,d4W]; exact c0Q _ _
def a1q (a b:Key):Bool:=a2p a b
theorem d2L (a b:Key):a1q a b=((a.Kind==b.Kind)&&J4 a.Text b.Text):=by unfold a1q a2p; simp
theorem d2O (a b:Key):a1q a b=true↔cK a b=0:=by
 rw [d2L]
 unfold cK
 rcases a4V a.Kind b.Kind with ⟨h,e⟩ | ⟨h,e⟩ | ⟨h,e⟩
 ·have:(a.Kind==b.Kind)=false:=by simp; omega
  simp [this,e,tn]
 ·have:(a.Kind==b.Kind)=false:=by simp; omega
  simp [this,e,tn]
 ·rw [h]
  rw [h] at e
  rcases a8w a.Text b.Text with ⟨_,p,q⟩ | ⟨_,p,q⟩ | ⟨_,p,q⟩<;>simp [p,q,e,tn]
abbrev a2c (k:Key):Key->Bool:=fun y=>decide (cK y k<0)
def b9u (s:List Val×List Key)(x:Key×Val):Option (List Val×List Key) :=
 if ((s.2.dropWhile (a2c x.1)).head?.map fun y=>a1q y x.1)=some true then none
 else some (s.1.take (s.2.takeWhile (a2c x.1)).length++[x.2]++s.1.drop (s.2.takeWhile (a2c x.1)).length,a0t (a2c x.1) x.1 s.2)
def a6b:List (Key×Val)->List Val×List Key->Option (List Val×List Key)
 | [],s=>some s
 | x::r,s=>(b9u s x).bind (a6b r)
abbrev a79 (s:List Val×List Key):b9t:=(8,0,(⟨#[]⟩:ByteArray),s.1,s.2,[],[])
theorem d3u (keys:List Key)(l:List Val)(i:Nat)(k:Key)(x:Val)(hk:keys[i]?=some k)(hx:l[i]?=some x)(s:List Val×List Key)(hs:s.1.length=s.2.length)(hl:s.2.length<=4194304)(hi:i<=4194304) :
 ∃ y,a1h keys l ((i:Int),a2g,a79 s)=some (match b9u s (k,x) with | some t=>.next (((i+1:Nat):Int),a2g,a79 t) | none=>.done (.inr (6,a2g,y))):=by
 refine ⟨a79 s,?_⟩
 have hlt:i<keys.length:=(d8o.1 hk).1
 have hik:idx keys (i:Int)=some k:=Z9 hk
 have hix:idx l (i:Int)=some x:=Z9 hx
 unfold a1h
 simp only [V0]
 rw [c9d (step:=a4S keys ((i:Int),a2g,a79 s)) s.2 (a2c k) ?_ ?_]
 ·simp only [a1l,Q9]
  rw [if_pos (by simp; omega)]
  simp only [d8l,hik,hix]
  have hp:=b6o (a2c k) s.2
  have hat:=c7A (a2c k) s.2
  have rmk:∀ n,n<=4194305->k9 n 24=some ():=fun n hn=>W8 (by omega)
  have rmv:∀ n,n<=4194305->k9 n 128=some ():=fun n hn=>W8 (by omega)
  have h1:=a7b (a2c k) k s.2
  simp only [a0t,d8t,d9t] at h1
  have go:((cut s.2 0 ((s.2.takeWhile (a2c k)).length:Int)).bind fun u=>(k9 (0+u.length) 24).bind fun _ =>
   (cut s.1 0 ((s.2.takeWhile (a2c k)).length:Int)).bind fun u2=>(a1k u2).bind fun r2 =>
   (k9 (u.length+[k].length) 24).bind fun _=>(cut s.2 ((s.2.takeWhile (a2c k)).length:Int) (s.2.length:Int)).bind fun w =>
   (k9 ((u++[k]).length+w.length) 24).bind fun _=>(k9 (r2.length+[x].length) 128).bind fun _ =>
   (cut s.1 ((s.2.takeWhile (a2c k)).length:Int) (s.1.length:Int)).bind fun w2=>(k9 ((r2++[x]).length+w2.length) 128).bind fun _ =>
   some (Fl.next (w64 ((i:Int)+1),a2g,a79 ((r2++[x])++w2,(u++[k])++w))))=some (Fl.next (((i+1:Nat):Int),a2g,a79 (s.1.take (s.2.takeWhile (a2c k)).length++[x]++s.1.drop (s.2.takeWhile (a2c k)).length,a0t (a2c k) k s.2)):Fl (Int×b9t×b9t) (Sum (b9t×b9t) (Int×b9t×b9t))):=by
   have ht:(s.1.take (s.2.takeWhile (a2c k)).length).length<=4194304:=by rw [d8G]; omega
   have hd:(s.1.take (s.2.takeWhile (a2c k)).length).length+(s.1.drop (s.2.takeWhile (a2c k)).length).length=s.1.length:=by rw [d8G,d83]; omega
   rw [c89 s.2 hp,c84 s.2 hp,c89 s.1 (by omega),c84 s.1 (by omega),c55,c45]
   unfold a1k
   simp only [d8l]
   rw [rmk _ (by simp; omega),rmv _ (by simp; omega)]
   simp only [d8l]
   rw [rmk _ (by simp; omega),rmk _ (by simp only [d8t,d9t]; omega),rmv _ (by simp; omega),rmv _ (by simp only [d8t,d9t]; omega),Y1 i (by omega)]
   rfl
  unfold b9u
  cases hh:(s.2.dropWhile (a2c k)).head? with
  | none =>
    rw [hh] at hat
    have hge:=d9H.1 hat
    rw [if_neg (by simp; omega),if_neg (by simp)]
    exact go
  | some y =>
    rw [hh] at hat
    have hlt2:=(d8o.1 hat).1
    rw [if_pos (by simp; omega),Z9 hat]
    simp only [d8l,d85]
    cases hq:a1q y k
    ·unfold a1q at hq
     rw [hq,if_neg (by simp),if_neg (by simp)]
     exact go
    ·unfold a1q at hq
     rw [hq,if_pos rfl,if_pos rfl]
 ·intro j y hy
  have hj:j<s.2.length:=(d8o.1 hy).1
  unfold a4S
  simp only [a1l,Q9]
  rw [if_pos (by simp; omega),Z9 hy,hik]
  simp only [d8l,b0p,Y1 j (by omega)]
  by_cases h:cK y k<0<;>simp [h]
 ·unfold a4S
  simp
theorem c9g {s t:List Val×List Key}{x:Key×Val}(h:b9u s x=some t)(hs:s.1.length=s.2.length):t.1.length=t.2.length/\t.2.length=s.2.length+1:=by
 unfold b9u at h
 split at h
 ·cases h
 ·cases h
  have h1:=a7b (a2c x.1) x.1 s.2
  have hp:=b6o (a2c x.1) s.2
  refine ⟨?_,h1⟩
  rw [h1]
  simp only [d8t,d9t,d8G,d83]
  omega
theorem d29 (keys:List Key)(l:List Val)(hkl:keys.length=l.length)(hl:keys.length<=4194304) :
 ∃ y,j7 (a1h keys l) (keys.length+1) (0,a2g,a79 ([],[]))=some (match a6b (keys.zip l) ([],[]) with | some t=>.inl (a2g,a79 t) | none=>.inr (6,a2g,y)):=by
 have key:∀ (m i k:Nat) (s:List Val×List Key),i+m=keys.length->m+1<=k->s.1.length=s.2.length->s.2.length<=i ->
  ∃ y,j7 (a1h keys l) k ((i:Int),a2g,a79 s)=some (match a6b ((keys.drop i).zip (l.drop i)) s with | some t=>.inl (a2g,a79 t) | none=>.inr (6,a2g,y)):=by
  intro m
  induction m with
  | zero =>
    intro i k s h1 h2 hs hn
    obtain ⟨k,rfl⟩:∃ m,k=m+1:=⟨k-1,by omega⟩
    have e:i=keys.length:=by omega
    subst e
    rw [List.drop_length,List.zip_nil_left]
    have:a1h keys l ((keys.length:Int),a2g,a79 s)=some (.done (.inl (a2g,a79 s))):=by
     unfold a1h
     simp
    exact ⟨a2g,by simp only [j7,this,a6b,d8l]⟩
  | succ m ih =>
    intro i k s h1 h2 hs hn
    obtain ⟨k,rfl⟩:∃ m,k=m+1:=⟨k-1,by omega⟩
    have hlt:i<keys.length:=by omega
    have hlt2:i<l.length:=by omega
    rw [d8S hlt,d8S hlt2,List.zip_cons_cons]
    obtain ⟨y,hy⟩:=d3u keys l i _ _ (d8n hlt) (d8n hlt2) s hs (by omega) (by omega)
    simp only [j7,hy,a6b]
    cases hi:b9u s (keys[i],l[i]) with
    | none=>exact ⟨y,by simp⟩
    | some t =>
      obtain ⟨h3,h4⟩:=c9g hi hs
      simp only [d8l]
      exact ih (i+1) k t (by omega) (by omega) h3 (by omega)
 obtain ⟨y,hy⟩:=key keys.length 0 (keys.length+1) ([],[]) (by omega) (d8r _) rfl (d8r _)
 exact ⟨y,by simpa using hy⟩
def b43 (s:List Val×List Key):Val:=Val.mk 8 0 (⟨#[]⟩) s.1 s.2 ([]:List Ent) ([]:List ByteArray)
theorem c3D (keys:List Key)(l:List Val)(hl:keys.length<=4194304) :
 a2b keys l=some (if keys.length=l.length/\keys.all X7=true then (match a6b (keys.zip l) ([],[]) with | some t=>((b43 t,0):Val×Int) | none=>(a7l,6)) else (a7l,1)):=by
 unfold a2b
 simp only [V0]
 by_cases hkl:keys.length=l.length
 ·have e1:((keys.length:Int) != (l.length:Int))=false:=by simp; omega
  rw [e1]
  have k1:=a1d (step:=a1T keys) keys X7 (fun i=>((i:Int),a2g)) a2g (1,a2g) ?_ ?_
  ·obtain ⟨y,hy⟩:=d29 keys l hkl hl
   have e2:j7 (a1T keys) (keys.length+1) (0,(0,0,(⟨#[]⟩:ByteArray),[],[],[],[]))=j7 (a1T keys) (keys.length+1) (((0:Nat):Int),a2g):=rfl
   rw [e2,k1]
   by_cases ha:keys.all X7=true
   ·rw [if_pos ha,if_pos ⟨hkl,ha⟩]
    simp only [d8l,w9,cond_false]
    rw [hy]
    cases a6b (keys.zip l) ([],[])<;>rfl
   ·rw [if_neg ha,if_neg (fun h=>ha h.2)]
    rfl
  ·intro i x hx
   have hi:i<keys.length:=(d8o.1 hx).1
   unfold a1T
   simp only [a1l,Q9]
   rw [if_pos (by simp; omega),Z9 hx]
   simp only [d8l,b8d,Y1 i (by omega)]
   cases X7 x<;>rfl
  ·unfold a1T
   simp
 ·have e1:((keys.length:Int) != (l.length:Int))=true:=by simp; omega
  rw [e1,if_neg (fun h=>hkl h.1)]
  rfl
theorem a6U (a b:List Key):Z1 (a++b)=Z1 a+Z1 b:=by
 induction a with
 | nil=>simp [Z1]
 | cons x r ih=>simp only [d80,Z1,ih]; omega
theorem d0V {s t:List Val×List Key}{x:Key×Val}(h:b9u s x=some t)(ha:asc cK s.2=true) :
 asc cK t.2=true/\(∀ y∈t.2,y=x.1\/y∈s.2)/\(∀ y∈t.1,y=x.2\/y∈s.1)/\Z0 t.1=Z0 s.1+Z4 x.2/\Z1 t.2=Z1 s.2+a6o x.1:=by
 unfold b9u at h
 split at h
 ·cases h
 ·rename_i hne
  cases h
  refine ⟨c02 cK d4Z x.1 s.2 ha ?_,fun y hy=>b9q hy,fun y hy=>?_,?_,?_⟩
  ·intro y hy h0
   rw [hy] at hne
   simp only [d85] at hne
   exact hne (congrArg some ((d2O y x.1).2 h0))
  ·simp only [d8y,d9o] at hy
   rcases hy with (hy | hy) | hy
   ·exact .inr (List.mem_of_mem_take hy)
   ·exact .inl hy
   ·exact .inr (List.mem_of_mem_drop hy)
  ·have e:=congrArg Z0 (d88 (s.2.takeWhile (a2c x.1)).length s.1)
   rw [a3J] at e
   simp only [a3J,Z0]
   omega
  ·have e:=congrArg Z1 (d9q (p:=a2c x.1) (l:=s.2))
   rw [a6U] at e
   simp only [a0t,a6U,Z1]
   omega
def b7n:List (Key×Val)->Nat
 | []=>0
 | x::r=>a6o x.1+Z4 x.2+b7n r
theorem b3h:∀ (xs:List (Key×Val)) (s t:List Val×List Key),a6b xs s=some t->asc cK s.2=true->s.1.length=s.2.length ->
 asc cK t.2=true/\t.1.length=t.2.length/\t.2.length=s.2.length+xs.length/\(∀ y∈t.2,y∈s.2\/∃ x∈xs,y=x.1)/\(∀ y∈t.1,y∈s.1\/∃ x∈xs,y=x.2)/\Z0 t.1+Z1 t.2=Z0 s.1+Z1 s.2+b7n xs
 | [],s,t,h,ha,hl=>by
   cases h
   exact ⟨ha,hl,rfl,fun y hy=>.inl hy,fun y hy=>.inl hy,rfl⟩
 | x::r,s,t,h,ha,hl=>by
   simp only [a6b] at h
   obtain ⟨u,hu,h⟩:=Option.bind_eq_some_iff.1 h
   obtain ⟨k1,k2,k3,k4,k5⟩:=d0V hu ha
   obtain ⟨l1,l2⟩:=c9g hu hl
   obtain ⟨m1,m2,m3,m4,m5,m6⟩:=b3h r u t h k1 l1
   refine ⟨m1,m2,by rw [m3,l2,d8v]; omega,fun y hy=>?_,fun y hy=>?_,by simp only [b7n]; omega⟩
   ·rcases m4 y hy with hy | ⟨z,hz,rfl⟩
    ·rcases k2 y hy with rfl | hy
     ·exact .inr ⟨x,by simp,rfl⟩
     ·exact .inl hy
    ·exact .inr ⟨z,by simp [hz],rfl⟩
   ·rcases m5 y hy with hy | ⟨z,hz,rfl⟩
    ·rcases k3 y hy with rfl | hy
     ·exact .inr ⟨x,by simp,rfl⟩
     ·exact .inl hy
    ·exact .inr ⟨z,by simp [hz],rfl⟩
end Go.Pl
namespace Go.Pl
open Go Go.RowKit Go.Sx Go.Qx
theorem c6f (c:UInt8):a3x (c.toNat:Int)=some (upC c):=by
 unfold a3x upC
 cases decide (65<=(c.toNat:Int))<;>simp
theorem c31 (s:ByteArray):a1K s=some (a5V s):=by
 unfold a1K a5V b6z
 simp only [a1l,c46]
 have hsz:=b9G s
 cases hs:s.data.toList with
 | nil =>
   rw [hs] at hsz
   rw [hsz]
   simp
 | cons c r =>
   rw [hs] at hsz
   simp only [d8v] at hsz
   have e1:decide ((s.size:Int)<1)=false:=by simp; omega
   rw [e1]
   simp only [d81,if_false,d8l]
   by_cases hb:16<(s.size:Int)
   ·rw [if_pos (by simpa using hb)]
    have:decide (r.length<=15)=false:=by simp; omega
    rw [this]; rfl
   ·rw [if_neg (by simpa using hb)]
    have e2:decide (r.length<=15)=true:=by simp; omega
    have e3:a5M s 0=some c:=b2j (i:=0) (by rw [hs]; rfl)
    rw [e2,e3]
    simp only [d8l,c6f,d9B]
    cases upC c
    ·rfl
    ·simp only [d9m,d81,if_false,d9B]
     refine c2O s.size (fun i=>match s.data.toList[i]? with | some x=>(a6u x||upC x||a7E x||(x.toNat:Int)==95) | none=>true) ?_ ?_ 1 _ ?_
     ·intro i hi
      have hi':i<s.data.toList.length:=by rw [hs]; simp; omega
      unfold a3Q
      simp only [a1l,Q9]
      rw [if_pos (by simp; omega),b2j (d8n hi')]
      simp only [d8l,b7s,c3W,c6f]
      rw [d8n hi',Y1 i (by omega)]
      generalize s.data.toList[i]=x
      have hn:((x.toNat:Int) != 95)=!((x.toNat:Int)==95):=rfl
      rw [hn]
      show _=some (if (a6u x||upC x||a7E x||(x.toNat:Int)==95)=true then _ else _)
      cases a6u x<;>cases upC x<;>cases a7E x<;>cases (x.toNat:Int)==95<;>rfl
     ·intro i hi
      unfold a3Q
      rw [a1l,if_neg (by simp; omega)]
     ·rw [hs,d8q]
      constructor
      ·intro h i h1 hi
       obtain ⟨i,rfl⟩:∃ m,i=m+1:=⟨i-1,by omega⟩
       have hr:i<r.length:=by omega
       simp only [d9p,d8n hr]
       exact h _ (d8B hr)
      ·intro h x hx
       obtain ⟨i,hi,rfl⟩:=d9b hx
       have:=h (i+1) (by omega) (by omega)
       simpa only [d9p,d8n hi] using this
end Go.Pl
end
section
open Bool renaming and_eq_true->d8p,eq_iff_iff->d9g
open Int renaming toNat_natCast->d8M
open List renaming all_append->d9U,all_eq_true->d8q,getElem?_eq_getElem->d8n,getElem_mem->d8B,of_mem_zip->e0h
open Nat renaming add_mul->d8W,mul_le_mul_right->d8J,zero_add->d8Q
open Option renaming bind_some->d8l
namespace Go.Pl
open Go Go.RowKit Go.Sx Go.Qx
theorem a71:J4 (⟨#[]⟩:ByteArray) ⟨#[]⟩=true:=by simp [J4]
theorem d5j (n:Int):vOK (Val.mk 1 n (⟨#[]⟩) [] [] [] [])=true:=by simp [vOK,a1p,a5D,a3n,a1S,asc,a4f,a6j,a71,Val.Kind,Val.Int_,Val.Text,Val.Kids,Val.Keys,Val.Entries,Val.Labels]
theorem d5w (s:ByteArray):vOK (Val.mk 2 0 s [] [] [] [])=decide ((s.size:Int)<=64):=by rw [d9g]; simp [vOK,a1p,a5D,a3n,a1S,asc,a4f,a6j,Val.Kind,Val.Int_,Val.Text,Val.Kids,Val.Keys,Val.Entries,Val.Labels]; exact decide_eq_true_iff
theorem d3B (s:ByteArray):vOK (Val.mk 3 0 s [] [] [] [])=a4J s:=by simp [vOK,a1p,a5D,a3n,a1S,asc,a4f,a6j,Val.Kind,Val.Int_,Val.Text,Val.Kids,Val.Keys,Val.Entries,Val.Labels]
theorem d5u (n:Int):vOK (Val.mk 4 n (⟨#[]⟩) [] [] [] [])=decide (0<=n):=by rw [d9g]; simp [vOK,a1p,a5D,a3n,a1S,asc,a4f,a6j,a71,Val.Kind,Val.Int_,Val.Text,Val.Kids,Val.Keys,Val.Entries,Val.Labels]; exact decide_eq_true_iff
theorem c0Y:vOK (Val.mk 5 0 (⟨#[]⟩) [] [] [] [])=true:=by simp [vOK,a1p,a5D,a3n,a1S,asc,a4f,a6j,a71,Val.Kind,Val.Int_,Val.Text,Val.Kids,Val.Keys,Val.Entries,Val.Labels]
theorem c6s (l:List Val):vOK (Val.mk 6 0 (⟨#[]⟩) l [] [] [])=(decide (l.length<=4)&&a1p l):=by rw [d9g]; simp [vOK,a5D,a3n,a1S,asc,a4f,a6j,a71,Val.Kind,Val.Int_,Val.Text,Val.Kids,Val.Keys,Val.Entries,Val.Labels]; intro _; exact decide_eq_true_iff
theorem c8M (x t:Val):vOK (Val.mk 7 0 (⟨#[]⟩) [x,t] [] [] [])=((t.Kind==5||t.Kind==7)&&(vOK x&&vOK t)):=by simp [vOK,a1p,a5D,a3n,a1S,asc,a4f,a6j,b9Q,a71,Val.Kind,Val.Int_,Val.Text,Val.Kids,Val.Keys,Val.Entries,Val.Labels]
theorem d43 (t:List Val×List Key):vOK (b43 t)=(b4J (b43 t)&&a1p t.1):=by simp [b43,vOK,a5D,a3n,a1S,asc,a4f,a6j,a71,Val.Kind,Val.Int_,Val.Text,Val.Kids,Val.Keys,Val.Entries,Val.Labels]
theorem d5Y (n:Int)(es:List Ent):vOK (c0K n es)=(c4E (c0K n es)&&a5D es):=by simp [c0K,vOK,a1p,a3n,a1S,asc,a4f,a6j,a71,Val.Kind,Val.Int_,Val.Text,Val.Kids,Val.Keys,Val.Entries,Val.Labels]
def a7m (v:Val)(l:List ByteArray):Val:=Val.mk v.Kind v.Int_ v.Text v.Kids v.Keys v.Entries l
theorem b0m {v:Val}{l:List ByteArray}(h:vOK v=true)(hl:a1S l=true):vOK (a7m v l)=true:=by
 cases v
 simp only [vOK,a3n,d8p,a7m,Val.Kind,Val.Int_,Val.Text,Val.Kids,Val.Keys,Val.Entries,Val.Labels] at h ⊢
 exact ⟨⟨hl,h.1.2⟩,h.2⟩
theorem a6T (v:Val)(l:List ByteArray):Z4 (a7m v l)<=Z4 v+K3 l:=by
 rw [a2J,a2J v]
 simp only [a7m,Val.Text,Val.Kids,Val.Keys,Val.Entries,Val.Labels]
 omega
theorem a2T:(⟨#[]⟩:ByteArray).size=0:=rfl
theorem W3 (k n:Int)(t:ByteArray)(kids:List Val)(keys:List Key)(es:List Ent):Z4 (Val.mk k n t kids keys es [])=8+t.size+Z0 kids+Z1 keys+Y3 es:=by
 simp only [Z4,a3f,K3]; omega
structure OS (L:List Int)(s:Semtypebase_Source):Prop where
 l:s.L=L
 lo:0<=s.At
 hi:s.At<=(L.length:Int)
section
variable {L:List Int}
theorem Q4 (hL:L.length<=4194304){s:Semtypebase_Source}(h:OS L s){n:Int}(h1:1<=n)(h2:n<=1000):∃ x t,j5 s n=some (x,t)/\OS L t/\0<=x/\x<n:=by
 obtain ⟨hl,lo,hi⟩:=h
 unfold j5
 have e1:decide (n<1)=false:=by simp; omega
 rw [e1,hl]
 by_cases he:(L.length:Int)<=s.At
 ·have e2:decide ((L.length:Int)<=s.At)=true:=by simpa using he
  rw [e2]
  exact ⟨0,s,rfl,⟨hl,lo,hi⟩,by omega,by omega⟩
 ·have e2:decide ((L.length:Int)<=s.At)=false:=by simpa using he
  rw [e2]
  simp only [cond_false,d8l]
  have hlt:s.At.toNat<L.length:=by omega
  have e:idx L s.At=some L[s.At.toNat]:=by
   have:=Z9 (d8n hlt)
   rwa [show ((s.At.toNat:Nat):Int)=s.At by omega] at this
  rw [e]
  simp only [d8l]
  have hq:b3w L[s.At.toNat] n=some (L[s.At.toNat].tmod n):=by unfold b3w; rw [if_neg (by omega)]
  rw [hq]
  simp only [d8l,Q9]
  have b1:=Int.tmod_lt_of_pos L[s.At.toNat] (show 0<n by omega)
  have b2:=Int.lt_tmod_of_pos L[s.At.toNat] (show 0<n by omega)
  have hw:w64 (s.At+1)=s.At+1:=W2 (by omega) (by omega)
  have hos:OS L (Semtypebase_Source.mk L (w64 (s.At+1))):=⟨rfl,by show 0<=w64 (s.At+1); omega,by show w64 (s.At+1)<=_; omega⟩
  by_cases hn:L[s.At.toNat].tmod n<0
  ·rw [a1l,if_pos (by simpa using hn),W2 (x:=L[s.At.toNat].tmod n+n) (by omega) (by omega)]
   exact ⟨_,_,rfl,hos,by omega,by omega⟩
  ·rw [a1l,if_neg (by simpa using hn)]
   exact ⟨_,_,rfl,hos,by omega,by omega⟩
theorem b6J {α:Type}(l:List α){x:Int}(h0:0<=x)(h1:x<(l.length:Int)):∃ t,idx l x=some t/\l[x.toNat]?=some t/\t∈l:=by
 have hlt:x.toNat<l.length:=by omega
 have:=Z9 (d8n hlt)
 rw [show ((x.toNat:Nat):Int)=x by omega] at this
 exact ⟨_,this,d8n hlt,d8B hlt⟩
abbrev b4I:List ByteArray:=[⟨#[65]⟩,⟨#[66]⟩,⟨#[67]⟩]
abbrev c9w:List ByteArray:=[⟨#[97]⟩,⟨#[98]⟩,⟨#[111,107]⟩,⟨#[101,114,114,111,114]⟩]
abbrev c9s:List ByteArray:=[⟨#[]⟩,⟨#[115]⟩,⟨#[120,32,121]⟩,⟨#[97]⟩]
theorem b77 (hL:L.length<=4194304){s:Semtypebase_Source}(h:OS L s):∃ x t,K9 s=some (x,t)/\OS L t/\x∈b4I:=by
 obtain ⟨n,t,e,ht,a,b⟩:=Q4 hL h (n:=3) (by omega) (by omega)
 obtain ⟨x,ex,eg,hx⟩:=b6J b4I a (by simpa using b)
 exact ⟨x,t,by unfold K9; rw [e]; simp only [d8l]; rw [ex,eg]; rfl,ht,hx⟩
theorem b0t (hL:L.length<=4194304){s:Semtypebase_Source}(h:OS L s):∃ x t,V8 s=some (x,t)/\OS L t/\x∈c9w:=by
 obtain ⟨n,t,e,ht,a,b⟩:=Q4 hL h (n:=4) (by omega) (by omega)
 obtain ⟨x,ex,eg,hx⟩:=b6J c9w a (by simpa using b)
 exact ⟨x,t,by unfold V8; rw [e]; simp only [d8l]; rw [ex,eg]; rfl,ht,hx⟩
theorem c1c (hL:L.length<=4194304){s:Semtypebase_Source}(h:OS L s):∃ x t,X9 s=some (x,t)/\OS L t/\x∈c9s:=by
 obtain ⟨n,t,e,ht,a,b⟩:=Q4 hL h (n:=4) (by omega) (by omega)
 obtain ⟨x,ex,eg,hx⟩:=b6J c9s a (by simpa using b)
 exact ⟨x,t,by unfold X9; rw [e]; simp only [d8l]; rw [ex,eg]; rfl,ht,hx⟩
theorem d2a (hL:L.length<=4194304){s:Semtypebase_Source}(h:OS L s):∃ x t,a14 s=some (x,t)/\OS L t:=by
 obtain ⟨n,t,e,ht,a,b⟩:=Q4 hL h (n:=10) (by omega) (by omega)
 obtain ⟨x,ex,eg,hx⟩:=b6J ([0,1,(-1),2,3,(-2),7,(-9223372036854775808),9223372036854775807,10]:List Int) a (by simpa using b)
 exact ⟨x,t,by unfold a14; rw [e]; simp only [d8l]; rw [ex,eg]; rfl,ht⟩
def chk (o:Option (List ByteArray)):Bool :=
 match o with
 | some l=>a1S l&&decide (K3 l<=4)
 | none=>false
theorem b9I {o:Option (List ByteArray)}(h:chk o=true):∃ l,o=some l/\a1S l=true/\K3 l<=4:=by
 cases o with
 | none=>cases h
 | some l=>simp only [chk,d8p,decide_eq_true_eq] at h; exact ⟨l,rfl,h⟩
theorem d5O:chk (a0e ([]:List ByteArray))=true:=by kernel_rfl
theorem d5q:b4I.all (fun x=>chk (a0e [x]))=true:=by kernel_rfl
theorem d5l:b4I.all (fun x=>b4I.all (fun y=>chk (a0e ([x]++[y]))))=true:=by kernel_rfl
theorem b1U (hL:L.length<=4194304){s:Semtypebase_Source}(h:OS L s):∃ l t,a05 s=some (l,t)/\OS L t/\a1S l=true/\K3 l<=4:=by
 obtain ⟨n,t,e,ht,_,_⟩:=Q4 hL h (n:=3) (by omega) (by omega)
 unfold a05
 rw [e]
 simp only [d8l]
 cases hn:n==1
 ·simp only [cond_false,d8l]
  obtain ⟨l,el,h1,h2⟩:=b9I d5O
  exact ⟨l,t,by rw [el]; rfl,ht,h1,h2⟩
 ·simp only [cond_true,d8l]
  obtain ⟨x,t2,e2,ht2,hx⟩:=b77 hL ht
  obtain ⟨m,t3,e3,ht3,_,_⟩:=Q4 hL ht2 (n:=2) (by omega) (by omega)
  rw [e2]
  simp only [d8l]
  rw [W8 (by simp),e3]
  simp only [d8l]
  cases hm:m==1
  ·simp only [cond_false,d8l]
   obtain ⟨l,el,h1,h2⟩:=b9I (d8q.1 d5q x hx)
   exact ⟨l,t3,by rw [el]; rfl,ht3,h1,h2⟩
  ·simp only [cond_true,d8l]
   obtain ⟨y,t4,e4,ht4,hy⟩:=b77 hL ht3
   rw [e4]
   simp only [d8l]
   rw [W8 (by simp)]
   obtain ⟨l,el,h1,h2⟩:=b9I (d8q.1 (d8q.1 d5l x hx) y hy)
   exact ⟨l,t4,by simp only [d8l]; rw [el]; rfl,ht4,h1,h2⟩
theorem b2c:c9w.all (fun x=>a4J x&&decide (x.size<=5))=true:=by kernel_rfl
theorem b1L:c9s.all (fun x=>decide (x.size<=5))=true:=by kernel_rfl
theorem b7d (hL:L.length<=4194304){s:Semtypebase_Source}(h:OS L s):∃ v t,V4 s=some (v,t)/\OS L t/\vOK v=true/\Z4 v<=16:=by
 obtain ⟨n,t,e,ht,_,_⟩:=Q4 hL h (n:=6) (by omega) (by omega)
 unfold V4
 rw [e]
 simp only [d8l]
 cases n==0
 ·simp only [cond_false,d8l]
  cases n==1
  ·simp only [cond_false,d8l]
   cases n==2
   ·simp only [cond_false,d8l]
    cases n==3
    ·simp only [cond_false,d8l]
     cases n==4
     ·simp only [cond_false,d8l]
      unfold a3v a1k
      rw [W8 (by simp)]
      exact ⟨_,t,rfl,ht,by rw [c6s]; rfl,by rw [W3]; simp [a2T,Z0,Z1,Y3]⟩
     ·simp only [cond_true,d8l]
      exact ⟨_,t,rfl,ht,c0Y,by rw [W3]; simp [a2T,Z0,Z1,Y3]⟩
    ·simp only [cond_true,d8l]
     obtain ⟨x,t2,e2,ht2,h0,_⟩:=Q4 hL ht (n:=3) (by omega) (by omega)
     rw [e2]
     exact ⟨_,t2,rfl,ht2,by rw [d5u]; simpa using h0,by rw [W3]; simp [a2T,Z0,Z1,Y3]⟩
   ·simp only [cond_true,d8l]
    obtain ⟨x,t2,e2,ht2,hx⟩:=c1c hL ht
    have hw:=d8q.1 b1L x hx
    simp only [decide_eq_true_eq] at hw
    rw [e2]
    exact ⟨_,t2,rfl,ht2,by rw [d5w]; simp; omega,by rw [W3]; simp only [Z0,Z1,Y3]; omega⟩
  ·simp only [cond_true,d8l]
   obtain ⟨x,t2,e2,ht2,hx⟩:=b0t hL ht
   have hw:=d8q.1 b2c x hx
   simp only [d8p,decide_eq_true_eq] at hw
   rw [e2]
   exact ⟨_,t2,rfl,ht2,by rw [d3B]; exact hw.1,by rw [W3]; simp only [Z0,Z1,Y3]; omega⟩
 ·simp only [cond_true,d8l]
  obtain ⟨x,t2,e2,ht2⟩:=d2a hL ht
  rw [e2]
  exact ⟨_,t2,rfl,ht2,d5j x,by rw [W3]; simp [a2T,Z0,Z1,Y3]⟩
theorem d5c (hL:L.length<=4194304){s:Semtypebase_Source}(h:OS L s):∃ k t,a2S s=some (k,t)/\OS L t/\X7 k=true/\a6o k<=8:=by
 obtain ⟨n,t,e,ht,_,_⟩:=Q4 hL h (n:=2) (by omega) (by omega)
 unfold a2S
 rw [e]
 simp only [d8l]
 cases n==0
 ·simp only [cond_false,d8l]
  obtain ⟨x,t2,e2,ht2,hx⟩:=c1c hL ht
  have hw:=d8q.1 b1L x hx
  simp only [decide_eq_true_eq] at hw
  rw [e2]
  refine ⟨_,t2,rfl,ht2,?_,?_⟩
  ·simp [X7]; omega
  ·simp only [a6o,a3f]; omega
 ·simp only [cond_true,d8l]
  obtain ⟨x,t2,e2,ht2,hx⟩:=b0t hL ht
  have hw:=d8q.1 b2c x hx
  simp only [d8p,decide_eq_true_eq] at hw
  rw [e2]
  refine ⟨_,t2,rfl,ht2,?_,?_⟩
  ·simpa [X7] using hw.1
  ·simp only [a6o,a3f]; omega
theorem a8j {γ σ τ:Type}{step:σ->Option (Fl σ τ)}(pack:γ->Int->Semtypebase_Source->σ)(out:γ->Semtypebase_Source->τ)(Inv:Nat->γ->Prop)(J:Nat)
 (hst:∀ (j n:Nat) (g:γ) (s:Semtypebase_Source),j<J->n<=J->Inv j g->OS L s->∃ g' s',step (pack g ((n+1:Nat):Int) s)=some (.next (pack g' (n:Int) s'))/\OS L s'/\Inv (j+1) g')
 (hend:∀ g s,step (pack g 0 s)=some (.done (out g s))) :
 ∀ (n j k:Nat) (g:γ) (s:Semtypebase_Source),j+n<=J->n+1<=k->Inv j g->OS L s->∃ g' s',j7 step k (pack g (n:Int) s)=some (out g' s')/\OS L s'/\Inv (j+n) g':=by
 intro n
 induction n with
 | zero =>
   intro j k g s _ hk hI hs
   obtain ⟨k,rfl⟩:∃ m,k=m+1:=⟨k-1,by omega⟩
   exact ⟨g,s,by have:=hend g s; simp [j7,this],hs,hI⟩
 | succ n ih =>
   intro j k g s hJ hk hI hs
   obtain ⟨k,rfl⟩:∃ m,k=m+1:=⟨k-1,by omega⟩
   obtain ⟨g1,s1,e,hs1,hI1⟩:=hst j n g s (by omega) (by omega) hI hs
   obtain ⟨g2,s2,e2,hs2,hI2⟩:=ih (j+1) k g1 s1 (by omega) (by omega) hI1 hs1
   refine ⟨g2,s2,?_,hs2,by rw [show j+(n+1)=j+1+n by omega]; exact hI2⟩
   simp only [j7,e,d8l]
   exact e2
def hb:Nat->Nat
 | 0=>32
 | h+1=>64+8*hb h
theorem d4R {h:Nat}(hh:h<=2):hb h<=2624:=by
 match h,hh with
 | 0,_=>decide
 | 1,_=>decide
 | 2,_=>decide
theorem d1W (h:Nat):32<=hb h:=by cases h<;>simp [hb]; omega
def c7H (b:Nat)(v:Val):Prop:=vOK v=true/\Z4 v<=b
end
end Go.Pl
namespace Go.Pl
open Go Go.RowKit Go.Sx Go.Qx
theorem b70 (a b:List Val):a1p (a++b)=(a1p a&&a1p b):=by rw [a54,a54,a54,d9U]
theorem b9w:∀ (ks:List Key) (vs:List Val),b7n (ks.zip vs)<=Z1 ks+Z0 vs
 | [],_=>by simp [b7n]
 | _::_,[]=>by simp [b7n]
 | k::r,v::q=>by have:=b9w r q; simp only [List.zip_cons_cons,b7n,Z1,Z0]; omega
theorem c1g (n:Nat)(h:n<=1000)(b:Nat)(hb:b<=1024):k9 n b=some ():=W8 (by
 have:n*b<=1000*1024:=Nat.mul_le_mul h hb
 omega)
section
variable {L:List Int}
theorem d1R (hL:L.length<=4194304){rv:Semtypebase_Source->Int->Option (Val×Semtypebase_Source)}{b:Nat}{h:Int}(hv:∀ s,OS L s->∃ v t,rv s h=some (v,t)/\OS L t/\c7H b v)
 (hb:b<=100000) (hb8:8<=b) (rx:Semtypebase_Source->Int->Option (Val×Semtypebase_Source)) (ry:Semtypebase_Source->Int->Int->Option (Ent×Semtypebase_Source)) (fuel:Nat) {n:Nat} (hn:n<=4) {s:Semtypebase_Source} (hs:OS L s) :
 ∃ e t,a3m fuel rv rx ry s (n:Int) h=some (e,t)/\OS L t/\eOK e=true/\a3E (n:Int) e=true/\a6G e<=n*b+b+3:=by
 obtain ⟨g,s1,e1,hs1,h1,h2,h3⟩:=a8j (L:=L) (step:=a1z h rv) (fun (g:List Val) (m:Int) (s:Semtypebase_Source)=>(m,s,(g,false,0,0,(⟨#[]⟩:ByteArray),([]:List Val),([]:List Key),([]:List Ent),([]:List ByteArray))))
  (fun (g:List Val) (s:Semtypebase_Source)=>(s,(g,false,0,0,(⟨#[]⟩:ByteArray),([]:List Val),([]:List Key),([]:List Ent),([]:List ByteArray)))) (fun j g=>g.length=j/\a1p g=true/\Z0 g<=j*b) 4
  (by
    intro j m g s hj hm ⟨i1,i2,i3⟩ hs
    obtain ⟨v,t,e,ht,k1,k2⟩:=hv s hs
    refine ⟨g++[v],t,?_,ht,by simp [i1],by rw [b70,i2]; simp [a1p,k1],?_⟩
    ·unfold a1z
     simp only [a1l,Q9]
     rw [if_pos (decide_eq_true (by omega)),e]
     simp only [d8l]
     rw [c1g _ (by simp; omega) _ (by omega),W2 (by omega) (by omega)]
     simp only [d8l]
     rw [show ((m+1:Nat):Int)-1=(m:Int) by omega]
    ·rw [a3J]
     simp only [Z0,d8W]
     omega)
  (by
    intro g s
    unfold a1z
    simp) n 0 (n+2) [] s (by omega) (by omega) ⟨rfl,rfl,by simp [Z0]⟩ hs
 obtain ⟨x,t,e2,ht,_,_⟩:=Q4 hL hs1 (n:=4) (by omega) (by omega)
 rw [d8Q] at h1 h3
 unfold a3m
 rw [show ((n:Int)).toNat=n by omega,e1]
 simp only [d8l]
 rw [e2]
 simp only [d8l]
 cases x==1
 ·simp only [cond_false]
  obtain ⟨v,t2,e3,ht2,k1,k2⟩:=hv t ht
  rw [e3]
  refine ⟨_,t2,rfl,ht2,by rw [b91]; simp only [Ent.Args,Ent.Fails,Ent.Result]; rw [h2,k1]; rfl,?_,?_⟩
  ·simp [a3E,Ent.Args,Ent.Fails,h1]
  ·rw [a2L]
   simp only [Ent.Args,Ent.Result]
   omega
 ·simp only [cond_true]
  refine ⟨_,t,rfl,ht,by rw [b91]; simp only [Ent.Args,Ent.Fails]; rw [h2]; rfl,?_,?_⟩
  ·simp [a3E,Ent.Args,Ent.Fails,Ent.Result,h1,d5B]
  ·rw [a2L]
   simp only [Ent.Args,Ent.Result]
   have:Z4 (Val.mk 0 0 (⟨#[]⟩) [] [] [] [])=8:=by rw [W3]; rfl
   omega
theorem b4v {x:Int}{b:Int}(h0:0<=x)(h1:x<b):∃ n:Nat,x=(n:Int)/\(n:Int)<b:=⟨x.toNat,by omega,by omega⟩
theorem d18 (hL:L.length<=4194304){rv:Semtypebase_Source->Int->Option (Val×Semtypebase_Source)}{re:Semtypebase_Source->Int->Int->Option (Ent×Semtypebase_Source)}{h:Nat}(hh:h<=2)
 (hv:∀ s,OS L s->∃ v t,rv s ((h:Int)+1)=some (v,t)/\OS L t/\c7H (hb h) v)
 (hv2:1<=h->∀ s,OS L s->∃ v t,rv s (h:Int)=some (v,t)/\OS L t/\c7H (hb h) v)
 (he:∀ n:Nat,n<=4->∀ s,OS L s->∃ e t,re s (n:Int) ((h:Int)+1)=some (e,t)/\OS L t/\eOK e=true/\a3E (n:Int) e=true/\a6G e<=n*hb h+hb h+3)
 (rx:Semtypebase_Source->Int->Option (Val×Semtypebase_Source)) {fuel:Nat} (hf:40000<=fuel) {s:Semtypebase_Source} (hs:OS L s) :
 ∃ v t,a0R fuel rv rx re s ((h:Int)+2)=some (v,t)/\OS L t/\vOK v=true/\Z4 v+8<=hb (h+1):=by
 have hb1:=d4R hh
 have hb2:=d1W h
 have hbs:hb (h+1)=64+8*hb h:=rfl
 have w1:w64 ((h:Int)+2-1)=(h:Int)+1:=by rw [W2 (by omega) (by omega)]; omega
 have w2:w64 ((h:Int)+2-2)=(h:Int):=by rw [W2 (by omega) (by omega)]; omega
 have wn:∀ m:Nat,m<=10->w64 (((m+1:Nat):Int)-1)=(m:Int):=fun m hm=>by rw [W2 (by omega) (by omega)]; omega
 have lf:∀ s,OS L s->∃ v t,V4 s=some (v,t)/\OS L t/\vOK v=true/\Z4 v+8<=hb (h+1):=fun s hs=>by
  obtain ⟨v,t,e,ht,h1,h2⟩:=b7d hL hs
  exact ⟨v,t,e,ht,h1,by omega⟩
 obtain ⟨c,t,e,ht,_,_⟩:=Q4 hL hs (n:=6) (by omega) (by omega)
 unfold a0R
 have e0:decide ((h:Int)+2<=1)=false:=by simp; omega
 rw [e0,e]
 simp only [d8l,cond_false,Q9,w1,w2]
 cases c==1
 ·simp only [cond_false,d8l,w9]
  cases c==2
  ·simp only [cond_false,d8l,w9]
   cases c==3
   ·simp only [cond_false,d8l,w9]
    cases c==4
    ·simp only [cond_false,d8l,w9]
     obtain ⟨v,t2,e2,h2⟩:=lf t ht
     rw [e2]
     exact ⟨v,t2,rfl,h2⟩
    ·simp only [cond_true,d8l,w9]
     obtain ⟨x,t2,e2,ht2,x0,x1⟩:=Q4 hL ht (n:=3) (by omega) (by omega)
     obtain ⟨y,t3,e3,ht3,y0,y1⟩:=Q4 hL ht2 (n:=3) (by omega) (by omega)
     obtain ⟨n,rfl,hn⟩:=b4v x0 x1
     obtain ⟨m,rfl,hm⟩:=b4v y0 y1
     rw [e2]
     simp only [d8l]
     rw [e3]
     simp only [d8l]
     have hnb:n*hb h<=2*hb h:=d8J _ (by omega)
     obtain ⟨g,s1,e4,hs1,i1,i2,i3,i4⟩:=a8j (L:=L) (step:=a1A ((h:Int)+2) ((n:Int),t2) re) (fun (g:List Ent) (m:Int) (s:Semtypebase_Source)=>(g,m,s)) (fun (g:List Ent) (s:Semtypebase_Source)=>(g,s)) (fun j g=>g.length=j/\a5D g=true/\g.all (a3E (n:Int))=true/\Y3 g<=j*(3*hb h+3)) 4
      (by
        intro j m g s hj hm ⟨i1,i2,i3,i4⟩ hs
        obtain ⟨v,t,e,ht,k1,k2,k3⟩:=he n (by omega) s hs
        refine ⟨g++[v],t,?_,ht,by simp [i1],by rw [a6O,d9U,<- a6O,i2]; simp [k1],by rw [d9U,i3]; simp [k2],?_⟩
        ·unfold a1A
         simp only [a1l,Q9]
         rw [if_pos (decide_eq_true (by omega)),w1,e]
         simp only [d8l]
         rw [c1g _ (by simp; omega) _ (by omega),wn m (by omega)]
         rfl
        ·rw [b1H]
         simp only [Y3,d8W]
         omega)
      (by
        intro g s
        unfold a1A
        simp) m 0 (m+2) [] t3 (by omega) (by omega) ⟨rfl,rfl,rfl,by simp [Y3]⟩ ht3
     simp only [d8l,d8M]
     rw [e4]
     simp only [d8l]
     rw [d8Q] at i1 i4
     have hmb:m*(3*hb h+3)<=2*(3*hb h+3):=d8J _ (by omega)
     rw [b4n fuel (n:Int) g (by omega) (by omega),if_pos ⟨by omega,by omega,i3⟩]
     simp only [d8l]
     simp only [show ((0:Int)==0)=true from rfl,cond_true,d8l,w9]
     refine ⟨c0K (n:Int) (g.foldl a3M []),s1,rfl,hs1,?_,?_⟩
     ·rw [d5Y]
      have a1:(g.foldl a3M []).all (a3E (n:Int))=true:=d8q.2 fun y hy=>by
       rcases b1e g [] hy with hy | hy
       ·simp at hy
       ·exact d8q.1 i3 y hy
      have a2:a5D (g.foldl a3M [])=true:=by
       rw [a6O]
       rw [a6O] at i2
       exact d8q.2 fun y hy=>by
        rcases b1e g [] hy with hy | hy
        ·simp at hy
        ·exact d8q.1 i2 y hy
      rw [a2]
      simp only [c4E,c0K,Val.Int_,Val.Entries]
      rw [a1,b8z g [] rfl]
      simp only [Bool.and_true,d8p]
      exact ⟨decide_eq_true (by omega),decide_eq_true (by omega)⟩
     ·have:=a9S g []
      simp only [c0K,W3,a2T,Z0,Z1]
      simp only [Y3] at this
      omega
   ·simp only [cond_true,d8l,w9]
    obtain ⟨y,t3,e3,ht3,y0,y1⟩:=Q4 hL ht (n:=3) (by omega) (by omega)
    obtain ⟨m,rfl,hm⟩:=b4v y0 y1
    rw [e3]
    simp only [d8l]
    obtain ⟨g,s1,e4,hs1,i1,i2,i3,i4,i5,i6⟩:=a8j (L:=L) (step:=a1B ((h:Int)+2) rv) (fun (g:List Key×List Val) (m:Int) (s:Semtypebase_Source)=>(g.1,g.2,m,s)) (fun (g:List Key×List Val) (s:Semtypebase_Source)=>(g.1,g.2,s)) (fun j g=>g.1.length=j/\g.2.length=j/\g.1.all X7=true/\a1p g.2=true/\Z0 g.2<=j*hb h/\Z1 g.1<=j*8) 4
     (by
       intro j m g s hj hm ⟨i1,i2,i3,i4,i5,i6⟩ hs
       obtain ⟨k,t,e,ht,k1,k2⟩:=d5c hL hs
       obtain ⟨v,t2,e2,ht2,l1,l2⟩:=hv t ht
       refine ⟨(g.1++[k],g.2++[v]),t2,?_,ht2,by simp [i1],by simp [i2],by rw [d9U,i3]; simp [k1],by rw [b70,i4]; simp [a1p,l1],?_,?_⟩
       ·unfold a1B
        simp only [a1l,Q9]
        rw [if_pos (decide_eq_true (by omega)),e,w1]
        simp only [d8l]
        rw [c1g _ (by simp; omega) _ (by omega),e2]
        simp only [d8l]
        rw [c1g _ (by simp; omega) _ (by omega),wn m (by omega)]
        rfl
       ·rw [a3J]
        simp only [Z0,d8W]
        omega
       ·rw [a6U]
        simp only [Z1,d8W]
        omega)
     (by
       intro g s
       unfold a1B
       simp) m 0 (m+2) ([],[]) t3 (by omega) (by omega) ⟨rfl,rfl,rfl,rfl,by simp [Z0],by simp [Z1]⟩ ht3
    simp only [d8M]
    rw [e4]
    simp only [d8l]
    rw [d8Q] at i1 i2 i5 i6
    have hmb:m*hb h<=2*hb h:=d8J _ (by omega)
    rw [c3D g.1 g.2 (by omega),if_pos ⟨by omega,i3⟩]
    simp only [d8l]
    cases hx:a6b (g.1.zip g.2) ([],[]) with
    | none =>
      simp only [show ((6:Int)==0)=false from rfl,cond_false,d8l,w9]
      obtain ⟨v,t2,e2,h2⟩:=lf _ hs1
      rw [e2]
      exact ⟨v,t2,rfl,h2⟩
    | some u =>
      simp only
      simp only [show ((0:Int)==0)=true from rfl,cond_true,d8l,w9]
      obtain ⟨m1,m2,m3,m4,m5,m6⟩:=b3h _ _ _ hx rfl rfl
      have hz:=b9w g.1 g.2
      simp only [Z0,Z1] at m6
      refine ⟨b43 u,s1,rfl,hs1,?_,?_⟩
      ·rw [d43]
       have a1:u.2.all X7=true:=d8q.2 fun y hy=>by
        rcases m4 y hy with hy | ⟨x,hx,rfl⟩
        ·simp at hy
        ·exact d8q.1 i3 _ (e0h hx).1
       have a2:a1p u.1=true:=by
        rw [a54]
        rw [a54] at i4
        exact d8q.2 fun y hy=>by
         rcases m5 y hy with hy | ⟨x,hx,rfl⟩
         ·simp at hy
         ·exact d8q.1 i4 _ (e0h hx).2
       rw [a2]
       simp only [b4J,b43,Val.Keys,Val.Kids]
       rw [a1,m1,m2]
       simp
      ·simp only [b43,W3,a2T,Y3]
       omega
  ·simp only [cond_true,d8l,w9]
   have fin:∀ (tl v:Val),vOK tl=true->(tl.Kind=5\/tl.Kind=7)->Z4 tl<=24+hb h->c7H (hb h) v ->
    vOK (Val.mk 7 0 (⟨#[]⟩) [v,tl] [] [] [])=true/\Z4 (Val.mk 7 0 (⟨#[]⟩) [v,tl] [] [] [])+8<=hb (h+1):=by
    intro tl v ho hk hbt ⟨k1,k2⟩
    refine ⟨?_,?_⟩
    ·rw [c8M,k1,ho]
     rcases hk with hk | hk<;>simp [hk]
    ·rw [W3]
     simp only [a2T,Z0,Z1,Y3]
     omega
   have nilB:Z4 (Val.mk 5 0 (⟨#[]⟩) [] [] [] [])=8:=by rw [W3]; rfl
   unfold a0c a5P
   simp only [d8l]
   by_cases h2:1<=h
   ·have e5:decide (2<(h:Int)+2)=true:=by simp; omega
    obtain ⟨x,t2,e2,ht2,_,_⟩:=Q4 hL ht (n:=2) (by omega) (by omega)
    rw [e5,e2]
    simp only [d8l,cond_true]
    cases x==1
    ·simp only [d8l,cond_false]
     obtain ⟨l,t3,e3,ht3,l1,l2⟩:=b1U hL ht2
     rw [e3]
     simp only [d8l]
     obtain ⟨v,t5,e5,ht5,k5⟩:=hv t3 ht3
     rw [e5]
     exact ⟨_,t5,rfl,ht5,fin (a7m (Val.mk 5 0 (⟨#[]⟩) [] [] [] []) l) v (b0m c0Y l1) (.inl rfl) (by have:=a6T (Val.mk 5 0 (⟨#[]⟩) [] [] [] []) l; omega) k5⟩
    ·simp only [d8l,cond_true]
     obtain ⟨v,t3,e3,ht3,k1,k2⟩:=hv2 h2 t2 ht2
     rw [e3]
     simp only [d8l]
     obtain ⟨l,t4,e4,ht4,l1,l2⟩:=b1U hL ht3
     have ho:vOK (Val.mk 7 0 (⟨#[]⟩) [v,Val.mk 5 0 (⟨#[]⟩) [] [] [] []] [] [] [])=true:=by rw [c8M,k1,c0Y]; rfl
     have hbb:Z4 (Val.mk 7 0 (⟨#[]⟩) [v,Val.mk 5 0 (⟨#[]⟩) [] [] [] []] [] [] [])<=16+hb h:=by
      rw [W3]
      simp only [a2T,Z0,Z1,Y3,nilB]
      omega
     rw [e4]
     simp only [d8l]
     obtain ⟨v5,t5,e5,ht5,k5⟩:=hv t4 ht4
     rw [e5]
     exact ⟨_,t5,rfl,ht5,fin (a7m (Val.mk 7 0 (⟨#[]⟩) [v,Val.mk 5 0 (⟨#[]⟩) [] [] [] []] [] [] []) l) v5 (b0m ho l1) (.inr rfl) (by have:=a6T (Val.mk 7 0 (⟨#[]⟩) [v,Val.mk 5 0 (⟨#[]⟩) [] [] [] []] [] [] []) l; omega) k5⟩
   ·have e5:decide (2<(h:Int)+2)=false:=by simp; omega
    rw [e5]
    simp only [d8l,cond_false]
    obtain ⟨l,t3,e3,ht3,l1,l2⟩:=b1U hL ht
    rw [e3]
    simp only [d8l]
    obtain ⟨v,t5,e5,ht5,k5⟩:=hv t3 ht3
    rw [e5]
    exact ⟨_,t5,rfl,ht5,fin (a7m (Val.mk 5 0 (⟨#[]⟩) [] [] [] []) l) v (b0m c0Y l1) (.inl rfl) (by have:=a6T (Val.mk 5 0 (⟨#[]⟩) [] [] [] []) l; omega) k5⟩
 ·simp only [cond_true,d8l,w9]
  obtain ⟨y,t3,e3,ht3,y0,y1⟩:=Q4 hL ht (n:=4) (by omega) (by omega)
  obtain ⟨m,rfl,hm⟩:=b4v y0 y1
  rw [e3]
  simp only [d8l]
  obtain ⟨g,s1,e4,hs1,i1,i2,i3⟩:=a8j (L:=L) (step:=a1C ((h:Int)+2) rv) (fun (g:List Val) (m:Int) (s:Semtypebase_Source)=>(g,m,s)) (fun (g:List Val) (s:Semtypebase_Source)=>(g,s)) (fun j g=>g.length=j/\a1p g=true/\Z0 g<=j*hb h) 4
   (by
     intro j m g s hj hm ⟨i1,i2,i3⟩ hs
     obtain ⟨v,t,e,ht,k1,k2⟩:=hv s hs
     refine ⟨g++[v],t,?_,ht,by simp [i1],by rw [b70,i2]; simp [a1p,k1],?_⟩
     ·unfold a1C
      simp only [a1l,Q9]
      rw [if_pos (decide_eq_true (by omega)),w1,e]
      simp only [d8l]
      rw [c1g _ (by simp; omega) _ (by omega),wn m (by omega)]
      rfl
     ·rw [a3J]
      simp only [Z0,d8W]
      omega)
   (by
     intro g s
     unfold a1C
     simp) m 0 (m+2) [] t3 (by omega) (by omega) ⟨rfl,rfl,by simp [Z0]⟩ ht3
  simp only [d8M]
  rw [e4]
  simp only [d8l]
  rw [d8Q] at i1 i3
  have hmb:m*hb h<=3*hb h:=d8J _ (by omega)
  unfold a3v a1k
  rw [c1g _ (by simp; omega) _ (by omega)]
  refine ⟨Val.mk 6 0 (⟨#[]⟩) g [] [] [],s1,rfl,hs1,?_,?_⟩
  ·rw [c6s,i2]
   simp
   omega
  ·rw [W3]
   simp only [a2T,Z1,Y3]
   omega
theorem d5V (hL:L.length<=4194304):∀ (h k:Nat),h<=3->50000+3*h<=k->∀ s,OS L s->∃ v t,(j9 k).1 s ((h:Int)+1)=some (v,t)/\OS L t/\c7H (hb h) v:=by
 intro h
 induction h using Nat.strongRecOn with
 | ind h ih =>
   intro k hh hk s hs
   obtain ⟨k,rfl⟩:∃ m,k=m+2:=⟨k-2,by omega⟩
   have key:∃ v t,(j9 (k+1)).2.1 s ((h:Int)+1)=some (v,t)/\OS L t/\vOK v=true/\Z4 v+8<=hb h:=by
    show ∃ v t,a0R k (j9 k).1 (j9 k).2.1 (j9 k).2.2 s ((h:Int)+1)=some (v,t)/\_
    cases h with
    | zero =>
      obtain ⟨v,t,e,ht,h1,h2⟩:=b7d hL hs
      refine ⟨v,t,?_,ht,h1,by simp only [hb]; omega⟩
      unfold a0R
      have e0:decide (((0:Nat):Int)+1<=1)=true:=rfl
      rw [e0,e]
      rfl
    | succ h =>
      have:=d18 hL (h:=h) (by omega) (rv:=(j9 k).1) (re:=(j9 k).2.2) (fun s hs=>ih h (by omega) k (by omega) (by omega) s hs)
       (fun h1 s hs=>by
         obtain ⟨h,rfl⟩:∃ m,h=m+1:=⟨h-1,by omega⟩
         obtain ⟨v,t,e,ht,k1,k2⟩:=ih h (by omega) k (by omega) (by omega) s hs
         exact ⟨v,t,e,ht,k1,by simp only [hb]; omega⟩)
       (fun n hn s hs=>by
         obtain ⟨p,rfl⟩:∃ m,k=m+1:=⟨k-1,by omega⟩
         have hb1:=d4R (show h<=2 by omega)
         have hb2:=d1W h
         exact d1R hL (rv:=(j9 p).1) (b:=hb h) (fun s hs=>ih h (by omega) p (by omega) (by omega) s hs) (by omega) (by omega) (j9 p).2.1 (j9 p).2.2 p hn hs)
       (j9 k).2.1 (fuel:=k) (by omega) hs
      rw [show (((h+1:Nat):Int))+1=(h:Int)+2 by omega]
      exact this
   obtain ⟨v,t,e,ht,h1,h2⟩:=key
   obtain ⟨l,t2,e2,ht2,l1,l2⟩:=b1U hL ht
   show ∃ v t,a3i (k+1) (j9 (k+1)).1 (j9 (k+1)).2.1 (j9 (k+1)).2.2 s ((h:Int)+1)=some (v,t)/\_
   unfold a3i
   rw [e]
   simp only [d8l]
   rw [e2]
   have:=a6T v l
   exact ⟨a7m v l,t2,rfl,ht2,b0m h1 l1,by omega⟩
end
end Go.Pl
end

/- Part 3. -/
import Derived.Test.YtldcbllenafgjaaGreatDoorK2
import Derived.KernelRfl
import Derived.Lib.Bytealg
section
namespace Go.Qx
open Go Go.RowKit Go.Sx
set_option maxRecDepth 100000
structure Api_Field where
 Key_:Key
 Node:Int
 Optional:Bool
structure Api_TypeNode where
 Kind:Int
 Lo:Int
 Hi:Int
 Text:ByteArray
 Kids:List Int
 Fields:List Api_Field
 Rest:Int×Int
structure Api_Type where
 Nodes:List Api_TypeNode
 Root:Int
structure Api_Goal where
 Pos:List Int
 Neg:List Int
 Lists:Bool
structure Semtypebase_Source where
 L:List Int
 At:Int
structure Api_Names where
 Cofinite:Bool
 List_:List ByteArray
structure Api_Range where
 Lo:Int
 Hi:Int
structure Api_Line where
 Kind:Int
 Arity:Int
 Ints:List Api_Range
 Names:Api_Names
 Pos:List Int
 Neg:List Int
 Vars:List ByteArray
 NotVars:List ByteArray
structure Core_Sort where
 Kind:Int
 Arity:Int
structure Core_pair where
 pos:List Int
 neg:List Int
 finalPos:List Int
 finalNeg:List Int
structure Value_used where
 number:Bool
 text_:Bool
 kids:Bool
 keys:Bool
 entries:Bool
structure Literals_normal where
 Names:Api_Names
def b3l (x y:Int×Int):Bool:=((x.1==y.1)&&((x.2==y.2)&&true))
def a6y (x y:Key):Bool:=((x.Kind==y.Kind)&&((Z6 x.Text y.Text)&&true))
def a2O (l:List (List Int))(x1:Int):Option (Fl Int (Sum Unit Bool)) :=
 bif decide (x1<(l.length:Int))
 then (Option.bind (idx l x1) fun e2 =>
 bif decide (80<(e2.length:Int))
 then (some (.done (.inr false)))
 else (some (.next (wr .i64 (x1+1)))))
 else (some (.done (.inl ())))
def a54 (l:List (List Int)):Option Bool :=
 Option.bind (iter (a2O l) ((l.length:Int).toNat+1) 0) fun b3 =>
 onEnd (fun _ =>
 some true) (fun y5 =>
 some y5) b3
def a5H (d:Api_TypeNode):Option Bool :=
 Option.bind (bif d.Kind==3
 then (some (true,false,false,false))
 else (Option.bind (bif d.Kind==4
 then (some (d.Kind==4))
 else (bif d.Kind==6
 then (some (d.Kind==6))
 else (some (d.Kind==19)))) fun b1 =>
 bif b1
 then (some (false,true,false,false))
 else (Option.bind (bif d.Kind==10
 then (some (d.Kind==10))
 else (bif d.Kind==12
 then (some (d.Kind==12))
 else (bif d.Kind==14
 then (some (d.Kind==14))
 else (bif d.Kind==16
 then (some (d.Kind==16))
 else (bif d.Kind==17
 then (some (d.Kind==17))
 else (some (d.Kind==18))))))) fun b2 =>
 bif b2
 then (some (false,false,true,false))
 else (bif d.Kind==13
 then (some (false,false,false,true))
 else (some (false,false,false,false)))))) fun b3 =>
 Option.bind (bif b3.1
 then (some true)
 else (Option.bind (bif d.Lo==0
 then (some (d.Hi==0))
 else (some false)) fun q4 =>
 some q4)) fun q5 =>
 Option.bind (bif q5
 then (Option.bind (bif b3.2.1
 then (some true)
 else (some (Z6 d.Text (⟨#[]⟩:ByteArray)))) fun q6 =>
 some q6)
 else (some false)) fun q7 =>
 Option.bind (bif q7
 then (Option.bind (bif b3.2.2.1
 then (some true)
 else (some ((d.Kids.length:Int)==0))) fun q8 =>
 some q8)
 else (some false)) fun q9 =>
 Option.bind (bif q9
 then (Option.bind (bif b3.2.2.2
 then (some true)
 else (Option.bind (bif (d.Fields.length:Int)==0
 then (some (b3l d.Rest (0,0)))
 else (some false)) fun q10 =>
 some q10)) fun q11 =>
 some q11)
 else (some false)) fun q12 =>
 some q12
def a9Q (s:ByteArray)(other:Int->Option Bool)(x5:Int):Option (Fl Int (Sum Unit Bool)) :=
 bif decide (x5<(s.size:Int))
 then (Option.bind (a6X s x5) fun e6 =>
 Option.bind (other (e6.toNat:Int)) fun r7 =>
 bif !r7
 then (some (.done (.inr false)))
 else (some (.next (wr .i64 (x5+1)))))
 else (some (.done (.inl ())))
def a7X (s:ByteArray)(first:Int->Option Bool)(other:Int->Option Bool):Option Bool :=
 Option.bind (bif decide ((s.size:Int)<1)
 then (some true)
 else (some (decide (16<(s.size:Int))))) fun q1 =>
 Option.bind (bif q1
 then (some true)
 else (Option.bind (a6X s 0) fun e2 =>
 Option.bind (first (e2.toNat:Int)) fun r3 =>
 some (!r3))) fun q4 =>
 bif q4
 then (some false)
 else (Option.bind (iter (a9Q s other) ((s.size:Int).toNat+1) 1) fun b8 =>
 onEnd (fun _ =>
 some true) (fun y10 =>
 some y10) b8)
def a5u (c:Int):Option Bool :=
 Option.bind (bif decide (97<=c)
 then (some (decide (c<=122)))
 else (some false)) fun q1 =>
 some q1
def a67 (c:Int):Option Bool :=
 Option.bind (bif decide (48<=c)
 then (some (decide (c<=57)))
 else (some false)) fun q1 =>
 some q1
def b0k (c:Int):Option Bool :=
 Option.bind (a5u c) fun r1 =>
 Option.bind (bif r1
 then (some true)
 else (Option.bind (a67 c) fun r2 =>
 some r2)) fun q3 =>
 Option.bind (bif q3
 then (some true)
 else (some (c==95))) fun q4 =>
 some q4
def a6o (s:ByteArray):Option Bool :=
 Option.bind (a7X s (fun z1 =>
 Option.bind (a5u z1) fun r2 =>
 some r2) (fun z3 =>
 Option.bind (b0k z3) fun r4 =>
 some r4)) fun r5 =>
 some r5
def a63 (c:Int):Option Bool :=
 Option.bind (bif decide (65<=c)
 then (some (decide (c<=90)))
 else (some false)) fun q1 =>
 some q1
def a7U (c:Int):Option Bool :=
 Option.bind (a5u c) fun r1 =>
 Option.bind (bif r1
 then (some true)
 else (Option.bind (a63 c) fun r2 =>
 some r2)) fun q3 =>
 Option.bind (bif q3
 then (some true)
 else (Option.bind (a67 c) fun r4 =>
 some r4)) fun q5 =>
 Option.bind (bif q5
 then (some true)
 else (some (c==95))) fun q6 =>
 some q6
def a3t (s:ByteArray):Option Bool :=
 Option.bind (a7X s (fun z1 =>
 Option.bind (a63 z1) fun r2 =>
 some r2) (fun z3 =>
 Option.bind (a7U z3) fun r4 =>
 some r4)) fun r5 =>
 some r5
def a4H (k:Key):Option Bool :=
 bif k.Kind==0
 then (Option.bind (a6o k.Text) fun r1 =>
 some r1)
 else (bif k.Kind==1
 then (some (decide ((k.Text.size:Int)<=64)))
 else (some false))
def a8R (x:Int):Option Bool :=
 some (x != x)
def a0Q (x:Int)(y:Int):Option Int :=
 Option.bind (a8R x) fun r1 =>
 Option.bind (a8R y) fun r2 =>
 bif r1
 then (bif r2
 then (some 0)
 else (some (-1)))
 else (bif r2
 then (some 1)
 else (bif decide (x<y)
 then (some (-1))
 else (bif decide (y<x)
 then (some 1)
 else (some 0))))
def a21 (a:ByteArray)(b:ByteArray):Option Int :=
 Option.bind (c56 a b) fun r1 =>
 some r1
def a0p (a:ByteArray)(b:ByteArray):Option Int :=
 Option.bind (a21 a b) fun r1 =>
 some r1
def a0g (a:Key)(b:Key):Option Int :=
 Option.bind (a0Q a.Kind b.Kind) fun r1 =>
 bif r1 != 0
 then (some r1)
 else (Option.bind (a0p a.Text b.Text) fun r2 =>
 some r2)
def a3o (l:List Api_Field)(x1:Int):Option (Fl Int (Sum Unit Bool)) :=
 bif decide (x1<(l.length:Int))
 then (Option.bind (idx l x1) fun e2 =>
 Option.bind (a4H e2.Key_) fun r3 =>
 Option.bind (bif !r3
 then (some true)
 else (Option.bind (bif decide (0<x1)
 then (Option.bind (idx l (wr .i64 (x1-1))) fun e4 =>
 Option.bind (a0g e4.Key_ e2.Key_) fun r5 =>
 some (decide (0<=r5)))
 else (some false)) fun q6 =>
 some q6)) fun q7 =>
 bif q7
 then (some (.done (.inr false)))
 else (some (.next (wr .i64 (x1+1)))))
 else (some (.done (.inl ())))
def a4t (l:List Api_Field):Option Bool :=
 Option.bind (iter (a3o l) ((l.length:Int).toNat+1) 0) fun b8 =>
 onEnd (fun _ =>
 some true) (fun y10 =>
 some y10) b8
def a5z (d:Api_TypeNode):Option Bool :=
 Option.bind (bif d.Kind==1
 then (some (d.Kind==1))
 else (bif d.Kind==2
 then (some (d.Kind==2))
 else (bif d.Kind==5
 then (some (d.Kind==5))
 else (bif d.Kind==7
 then (some (d.Kind==7))
 else (bif d.Kind==8
 then (some (d.Kind==8))
 else (bif d.Kind==9
 then (some (d.Kind==9))
 else (bif d.Kind==11
 then (some (d.Kind==11))
 else (some (d.Kind==15))))))))) fun b1 =>
 bif b1
 then (some true)
 else (bif d.Kind==3
 then (some (decide (d.Lo<=d.Hi)))
 else (bif d.Kind==4
 then (some (decide ((d.Text.size:Int)<=64)))
 else (bif d.Kind==6
 then (Option.bind (a6o d.Text) fun r2 =>
 some r2)
 else (bif d.Kind==19
 then (Option.bind (a3t d.Text) fun r3 =>
 some r3)
 else (bif d.Kind==10
 then (some (decide ((d.Kids.length:Int)<=4)))
 else (bif d.Kind==12
 then (some ((d.Kids.length:Int)==2))
 else (bif d.Kind==13
 then (Option.bind (a4t d.Fields) fun r4 =>
 some r4)
 else (bif d.Kind==14
 then (Option.bind (bif decide (1<=(d.Kids.length:Int))
 then (some (decide ((d.Kids.length:Int)<=5)))
 else (some false)) fun q5 =>
 some q5)
 else (Option.bind (bif d.Kind==16
 then (some (d.Kind==16))
 else (some (d.Kind==17))) fun b6 =>
 bif b6
 then (some (decide (1<=(d.Kids.length:Int))))
 else (bif d.Kind==18
 then (some ((d.Kids.length:Int)==1))
 else (some false)))))))))))
def a29 (n_0:Api_TypeNode)(x2:(List Int)×Int):Option (Fl ((List Int)×Int) (List Int)) :=
 bif decide (x2.2<(n_0.Fields.length:Int))
 then (Option.bind (idx n_0.Fields x2.2) fun e3 =>
 Option.bind (Z8 (x2.1.length+([e3.Node]:List Int).length) 8) fun _ =>
 some (.next (x2.1++([e3.Node]:List Int),wr .i64 (x2.2+1))))
 else (some (.done x2.1))
def a79 (n_0:Api_TypeNode):Option (List Int) :=
 Option.bind (a0y 8 n_0.Kids) fun r1 =>
 Option.bind (iter (a29 n_0) ((n_0.Fields.length:Int).toNat+1) (r1,0)) fun b5 =>
 bif n_0.Kind==13
 then (Option.bind (Z8 (b5.length+([n_0.Rest.1,n_0.Rest.2]:List Int).length) 8) fun _ =>
 some (b5++([n_0.Rest.1,n_0.Rest.2]:List Int)))
 else (some b5)
def a5y (kind:Int):Option Bool :=
 Option.bind (bif kind==16
 then (some true)
 else (some (kind==17))) fun q1 =>
 Option.bind (bif q1
 then (some true)
 else (some (kind==18))) fun q2 =>
 some q2
def Y8 (a2_2:Api_Type)(e10:Api_TypeNode)(rec_typeexpr_contractive_1:Int->(List Int)->Api_Type->Unit->Option (Bool×(List Int)))(x11:Int×(List Int)):Option (Fl (Int×(List Int)) (Sum (List Int) (Bool×(List Int)))) :=
 bif decide (x11.1<(e10.Kids.length:Int))
 then (Option.bind (idx e10.Kids x11.1) fun e12 =>
 Option.bind (rec_typeexpr_contractive_1 e12 x11.2 a2_2 ()) fun r13 =>
 bif !r13.1
 then (some (.done (.inr (false,r13.2))))
 else (some (.next (wr .i64 (x11.1+1),r13.2))))
 else (some (.done (.inl x11.2)))
def a4R (_:Nat)(rec_typeexpr_contractive_1:Int->(List Int)->Api_Type->Unit->Option (Bool×(List Int)))(i:Int)(a1_1:List Int)(a2_2:Api_Type)(_:Unit):Option (Bool×(List Int)) :=
 Option.bind (idx a1_1 i) fun _ =>
 Option.bind (a1_1[i.toNat]?) fun e2 =>
 Option.bind (bif e2 != 0
 then (some true)
 else (Option.bind (idx a2_2.Nodes i) fun e3 =>
 Option.bind (a5y e3.Kind) fun r4 =>
 some (!r4))) fun q5 =>
 bif q5
 then (Option.bind (idx a1_1 i) fun _ =>
 Option.bind (a1_1[i.toNat]?) fun e7 =>
 some (e7 != 1,a1_1))
 else (Option.bind (idx a1_1 i) fun _ =>
 Option.bind (a1_1[i.toNat]?) fun _ =>
 Option.bind (idx a2_2.Nodes i) fun e10 =>
 Option.bind (iter (Y8 a2_2 e10 rec_typeexpr_contractive_1) ((e10.Kids.length:Int).toNat+1) (0,a1_1.set i.toNat 1)) fun (b14:Sum (List Int) (Bool×(List Int))) =>
 onEnd (fun x15 =>
 Option.bind (idx x15 i) fun _ =>
 Option.bind (x15[i.toNat]?) fun _ =>
 some (true,x15.set i.toNat 2)) (fun y16 =>
 some (y16.1,y16.2)) b14)
def Q6:Nat->Int->(List Int)->Api_Type->Unit->Option (Bool×(List Int))
 | 0=>fun _ _ _ _=>none
 | n+1=>a4R n (Q6 n)
def Q9 (t:Api_Type)(n:Nat)(x2:Int×(List Int)):Option (Fl (Int×(List Int)) (Sum (List Int) (Bool×(List Int)))) :=
 bif decide (x2.1<(t.Nodes.length:Int))
 then (Option.bind (Q6 n x2.1 x2.2 t ()) fun r3 =>
 bif !r3.1
 then (some (.done (.inr (false,r3.2))))
 else (some (.next (wr .i64 (x2.1+1),r3.2))))
 else (some (.done (.inl x2.2)))
def a4C (n:Nat)(t:Api_Type):Option Bool :=
 Option.bind (b3R (t.Nodes.length:Int) (t.Nodes.length:Int) 8) fun m1 =>
 Option.bind (iter (Q9 t n) ((t.Nodes.length:Int).toNat+1) (0,List.replicate m1 (0:Int))) fun (b4:Sum (List Int) (Bool×(List Int))) =>
 onEnd (fun _ =>
 some true) (fun y6 =>
 some y6.1) b4
def a3C (t:Api_Type)(r7:List Int)(x8:Int):Option (Fl Int (Sum Unit Int)) :=
 bif decide (x8<(r7.length:Int))
 then (Option.bind (idx r7 x8) fun e9 =>
 Option.bind (bif decide (e9<0)
 then (some true)
 else (some (decide ((t.Nodes.length:Int)<=e9)))) fun q10 =>
 bif q10
 then (some (.done (.inr 1)))
 else (some (.next (wr .i64 (x8+1)))))
 else (some (.done (.inl ())))
def a3G (t:Api_Type)(x2:Int):Option (Fl Int (Sum Unit Int)) :=
 bif decide (x2<(t.Nodes.length:Int))
 then (Option.bind (idx t.Nodes x2) fun e3 =>
 Option.bind (a5H e3) fun r4 =>
 Option.bind (bif !r4
 then (some true)
 else (Option.bind (a5z e3) fun r5 =>
 some (!r5))) fun q6 =>
 bif q6
 then (some (.done (.inr 1)))
 else (Option.bind (a79 e3) fun r7 =>
 Option.bind (iter (a3C t r7) ((r7.length:Int).toNat+1) 0) fun b11 =>
 onEnd (fun _ =>
 some (.next (wr .i64 (x2+1)))) (fun y13 =>
 some (.done (.inr y13))) b11))
 else (some (.done (.inl ())))
def a0A (n:Nat)(t:Api_Type):Option Int :=
 Option.bind (bif decide (t.Root<0)
 then (some true)
 else (some (decide ((t.Nodes.length:Int)<=t.Root)))) fun q1 =>
 bif q1
 then (some 1)
 else (Option.bind (iter (a3G t) ((t.Nodes.length:Int).toNat+1) 0) fun b14 =>
 onEnd (fun _ =>
 Option.bind (a4C n t) fun r17 =>
 bif !r17
 then (some 3)
 else (some 0)) (fun y16 =>
 some y16) b14)
def a6a (t:Api_Type)(g:Api_Goal)(r1:List Int)(x3:Int):Option (Fl Int (Sum Unit Bool)) :=
 bif decide (x3<((r1++g.Neg).length:Int))
 then (Option.bind (idx (r1++g.Neg) x3) fun e4 =>
 Option.bind (bif decide (e4<0)
 then (some true)
 else (some (decide ((t.Nodes.length:Int)<=e4)))) fun q5 =>
 bif q5
 then (some (.done (.inr false)))
 else (some (.next (wr .i64 (x3+1)))))
 else (some (.done (.inl ())))
def a5L (t:Api_Type)(g:Api_Goal):Option Bool :=
 Option.bind (a0y 8 g.Pos) fun r1 =>
 Option.bind (Z8 (r1.length+g.Neg.length) 8) fun _ =>
 Option.bind (iter (a6a t g r1) (((r1++g.Neg).length:Int).toNat+1) 0) fun b6 =>
 onEnd (fun _ =>
 some true) (fun y8 =>
 some y8) b6
def a0v (x1:(List Int)×Int)(x16:(Int×Int)×List Int):Option (Fl ((Int×Int)×List Int) (Int×List Int)) :=
 bif decide (x16.1.2<((x16.2.drop x1.2.toNat).length:Int))
 then (Option.bind (idx (x16.2.drop x1.2.toNat) x16.1.2) fun _ =>
 Option.bind (x16.2[(x1.2.toNat+x16.1.2.toNat)]?) fun e18 =>
 Option.bind (idx (x16.2.drop x1.2.toNat) (wr .i64 (x16.1.2-1))) fun _ =>
 Option.bind (x16.2[(x1.2.toNat+(wr .i64 (x16.1.2-1)).toNat)]?) fun e20 =>
 bif e18 != e20
 then (Option.bind (idx (x16.2.drop x1.2.toNat) x16.1.2) fun _ =>
 Option.bind (x16.2[(x1.2.toNat+x16.1.2.toNat)]?) fun e22 =>
 Option.bind (idx x16.2 x16.1.1) fun _ =>
 Option.bind (x16.2[x16.1.1.toNat]?) fun _ =>
 some (.next ((wr .i64 (x16.1.1+1),wr .i64 (x16.1.2+1)),x16.2.set x16.1.1.toNat e22)))
 else (some (.next ((x16.1.1,wr .i64 (x16.1.2+1)),x16.2))))
 else (some (.done (x16.1.1,x16.2)))
def a1n (x1:(List Int)×Int):Option (Fl ((List Int)×Int) (Sum (List Int) (List Int))) :=
 bif decide (x1.2<(x1.1.length:Int))
 then (Option.bind (idx x1.1 x1.2) fun _ =>
 Option.bind (x1.1[x1.2.toNat]?) fun e3 =>
 Option.bind (idx x1.1 (wr .i64 (x1.2-1))) fun _ =>
 Option.bind (x1.1[(wr .i64 (x1.2-1)).toNat]?) fun e5 =>
 bif e3==e5
 then (Option.bind (idx x1.1 x1.2) fun _ =>
 Option.bind (iter (a0v x1) (((x1.1.drop x1.2.toNat).length:Int).toNat+1) ((x1.2,1),x1.1)) fun b25 =>
 Option.bind (idx b25.2 b25.1) fun _ =>
 bif Nat.blt b25.1.toNat b25.2.length
 then (Option.bind (cut (b25.2.take b25.1.toNat++List.replicate (b25.2.length-b25.1.toNat) (0:Int)) 0 b25.1) fun y27 =>
 some (.done (.inr y27)))
 else (none))
 else (some (.next (x1.1,wr .i64 (x1.2+1)))))
 else (some (.done (.inl x1.1)))
def a3I (s:List Int):Option (List Int) :=
 bif decide ((s.length:Int)<2)
 then (some s)
 else (Option.bind (iter a1n ((s.length:Int).toNat+1) (s,1)) fun b28 =>
 onEnd (fun x29 =>
 some x29) (fun y30 =>
 some y30) b28)
def a7j (s:List Int):Option (List Int) :=
 bif (s.length:Int)==(s.length:Int)&&(s.length:Int)==(s.length:Int)
 then (some s)
 else (none)
def a5N (l:List Int):Option (List Int) :=
 Option.bind (a0y 8 l) fun r1 =>
 Option.bind (c3Y r1) fun r2 =>
 Option.bind (a3I r2.2) fun r3 =>
 Option.bind (a7j r3) fun r4 =>
 some r4
def a5B (p:Core_pair):Option ((List Int)×(List Int)×(List Int)×(List Int)) :=
 Option.bind (a0y 8 p.pos) fun r1 =>
 Option.bind (a0y 8 p.neg) fun r2 =>
 Option.bind (a0y 8 p.finalPos) fun r3 =>
 Option.bind (a0y 8 p.finalNeg) fun r4 =>
 some (r1,r2,r3,r4)
def a1P (p:Core_pair)(kids:List Int)(positive:Bool)(x1:(List Core_pair)×Int):Option (Fl ((List Core_pair)×Int) (List Core_pair)) :=
 bif decide (x1.2<(kids.length:Int))
 then (Option.bind (idx kids x1.2) fun e2 =>
 Option.bind (a5B p) fun r3 =>
 Option.bind (bif positive
 then (Option.bind (Z8 (r3.1.length+([e2]:List Int).length) 8) fun _ =>
 some (r3.1++([e2]:List Int),r3.2.1,r3.2.2.1,r3.2.2.2))
 else (Option.bind (Z8 (r3.2.1.length+([e2]:List Int).length) 8) fun _ =>
 some (r3.1,r3.2.1++([e2]:List Int),r3.2.2.1,r3.2.2.2))) fun b6 =>
 Option.bind (Z8 (x1.1.length+([Core_pair.mk b6.1 b6.2.1 b6.2.2.1 b6.2.2.2]:List Core_pair).length) 96) fun _ =>
 some (.next (x1.1++([Core_pair.mk b6.1 b6.2.1 b6.2.2.1 b6.2.2.2]:List Core_pair),wr .i64 (x1.2+1))))
 else (some (.done x1.1))
def a1W (p:Core_pair)(kids:List Int)(positive:Bool):Option (List Core_pair) :=
 Option.bind (iter (a1P p kids positive) ((kids.length:Int).toNat+1) ([],0)) fun b8 =>
 some b8
def a4g (d:(List Int)×(List Int)×(List Int)×(List Int))(t:Api_Type):Option (List Core_pair) :=
 bif decide (0<=(wr .i64 ((d.1.length:Int)-1)))
 then (Option.bind (idx d.1 (wr .i64 ((d.1.length:Int)-1))) fun _ =>
 Option.bind (d.1[(wr .i64 ((d.1.length:Int)-1)).toNat]?) fun e2 =>
 Option.bind (idx t.Nodes e2) fun e3 =>
 Option.bind (cut d.1 0 (wr .i64 ((d.1.length:Int)-1))) fun y4 =>
 Option.bind (bif e3.Kind==2
 then (some (.inl (y4,d.2.1,d.2.2.1,d.2.2.2)))
 else (bif e3.Kind==1
 then (some (.inr ([],(y4,d.2.1,d.2.2.1,d.2.2.2))))
 else (bif e3.Kind==17
 then (Option.bind (Z8 (y4.length+e3.Kids.length) 8) fun _ =>
 some (.inl (y4++e3.Kids,d.2.1,d.2.2.1,d.2.2.2)))
 else (bif e3.Kind==18
 then (Option.bind (idx e3.Kids 0) fun e6 =>
 Option.bind (Z8 (d.2.1.length+([e6]:List Int).length) 8) fun _ =>
 some (.inl (y4,d.2.1++([e6]:List Int),d.2.2.1,d.2.2.2)))
 else (bif e3.Kind==16
 then (Option.bind (a1W (Core_pair.mk y4 d.2.1 d.2.2.1 d.2.2.2) e3.Kids true) fun r8 =>
 some (.inr (r8,(y4,d.2.1,d.2.2.1,d.2.2.2))))
 else (Option.bind (Z8 (d.2.2.1.length+([e2]:List Int).length) 8) fun _ =>
 some (.inl (y4,d.2.1,d.2.2.1++([e2]:List Int),d.2.2.2)))))))) fun b10 =>
 onEnd (fun x11 =>
 some ([Core_pair.mk x11.1 x11.2.1 x11.2.2.1 x11.2.2.2]:List Core_pair)) (fun y12 =>
 some y12.1) b10)
 else (Option.bind (idx d.2.1 (wr .i64 ((d.2.1.length:Int)-1))) fun _ =>
 Option.bind (d.2.1[(wr .i64 ((d.2.1.length:Int)-1)).toNat]?) fun e14 =>
 Option.bind (idx t.Nodes e14) fun e15 =>
 Option.bind (cut d.2.1 0 (wr .i64 ((d.2.1.length:Int)-1))) fun y16 =>
 Option.bind (bif e15.Kind==1
 then (some (.inl (d.1,y16,d.2.2.1,d.2.2.2)))
 else (bif e15.Kind==2
 then (some (.inr ([],(d.1,y16,d.2.2.1,d.2.2.2))))
 else (bif e15.Kind==16
 then (Option.bind (Z8 (y16.length+e15.Kids.length) 8) fun _ =>
 some (.inl (d.1,y16++e15.Kids,d.2.2.1,d.2.2.2)))
 else (bif e15.Kind==18
 then (Option.bind (idx e15.Kids 0) fun e18 =>
 Option.bind (Z8 (d.1.length+([e18]:List Int).length) 8) fun _ =>
 some (.inl (d.1++([e18]:List Int),y16,d.2.2.1,d.2.2.2)))
 else (bif e15.Kind==17
 then (Option.bind (a1W (Core_pair.mk d.1 y16 d.2.2.1 d.2.2.2) e15.Kids false) fun r20 =>
 some (.inr (r20,(d.1,y16,d.2.2.1,d.2.2.2))))
 else (Option.bind (Z8 (d.2.2.2.length+([e14]:List Int).length) 8) fun _ =>
 some (.inl (d.1,y16,d.2.2.1,d.2.2.2++([e14]:List Int))))))))) fun b22 =>
 onEnd (fun x23 =>
 some ([Core_pair.mk x23.1 x23.2.1 x23.2.2.1 x23.2.2.2]:List Core_pair)) (fun y24 =>
 some y24.1) b22)
def a7e (g:Api_Goal):Option Api_Goal :=
 Option.bind (a5N g.Pos) fun r1 =>
 Option.bind (a5N g.Neg) fun r2 =>
 some (Api_Goal.mk r1 r2 g.Lists)
def b2T (g:Api_Goal):Option ByteArray:=Option.bind (a7e g) fun g=>Option.bind (a7T 43 g.Pos (bif g.Lists then [108] else [])) fun b=>Option.bind (a7T 45 g.Neg b) fun b=>some ⟨b.toArray⟩
def X8 (d:Api_Type)(t:Api_Goal)(x3:(List Core_pair)×(List (ByteArray×Bool))×(List Api_Goal)):Option (Fl ((List Core_pair)×(List (ByteArray×Bool))×(List Api_Goal)) ((List (ByteArray×Bool))×(List Api_Goal))) :=
 bif decide (0<(x3.1.length:Int))
 then (Option.bind (idx x3.1 (wr .i64 ((x3.1.length:Int)-1))) fun _ =>
 Option.bind (x3.1[(wr .i64 ((x3.1.length:Int)-1)).toNat]?) fun e5 =>
 Option.bind (a5B e5) fun r6 =>
 Option.bind (cut x3.1 0 (wr .i64 ((x3.1.length:Int)-1))) fun y7 =>
 bif decide (0<(wr .i64 ((r6.1.length:Int)+(r6.2.1.length:Int))))
 then (Option.bind (a4g (r6.1,r6.2.1,r6.2.2.1,r6.2.2.2) d) fun r8 =>
 Option.bind (Z8 (y7.length+r8.length) 96) fun _ =>
 some (.next (y7++r8,x3.2.1,x3.2.2)))
 else (Option.bind (a7e (Api_Goal.mk r6.2.2.1 r6.2.2.2 t.Lists)) fun r10 =>
 Option.bind (b2T r10) fun r11 =>
 bif !((a4V x3.2.1 r11).getD false)
 then (Option.bind (Z8 (x3.2.2.length+([r10]:List Api_Goal).length) 56) fun _ =>
 some (.next (y7,a8s x3.2.1 r11 true,x3.2.2++([r10]:List Api_Goal))))
 else (some (.next (y7,x3.2.1,x3.2.2)))))
 else (some (.done (x3.2.1,x3.2.2)))
def a7m (n:Nat)(d:Api_Type)(t:Api_Goal):Option (List Api_Goal) :=
 Option.bind (a5N t.Pos) fun r1 =>
 Option.bind (a5N t.Neg) fun r2 =>
 Option.bind (iter (X8 d t) n (([Core_pair.mk r1 r2 ([]:List Int) ([]:List Int)]:List Core_pair),([]:List (ByteArray×Bool)),[])) fun b13 =>
 some b13.2
def V7 (x1:(List ByteArray)×Int)(x16:(Int×Int)×List ByteArray):Option (Fl ((Int×Int)×List ByteArray) (Int×List ByteArray)) :=
 bif decide (x16.1.2<((x16.2.drop x1.2.toNat).length:Int))
 then (Option.bind (idx (x16.2.drop x1.2.toNat) x16.1.2) fun _ =>
 Option.bind (x16.2[(x1.2.toNat+x16.1.2.toNat)]?) fun e18 =>
 Option.bind (idx (x16.2.drop x1.2.toNat) (wr .i64 (x16.1.2-1))) fun _ =>
 Option.bind (x16.2[(x1.2.toNat+(wr .i64 (x16.1.2-1)).toNat)]?) fun e20 =>
 bif !(Z6 e18 e20)
 then (Option.bind (idx (x16.2.drop x1.2.toNat) x16.1.2) fun _ =>
 Option.bind (x16.2[(x1.2.toNat+x16.1.2.toNat)]?) fun e22 =>
 Option.bind (idx x16.2 x16.1.1) fun _ =>
 Option.bind (x16.2[x16.1.1.toNat]?) fun _ =>
 some (.next ((wr .i64 (x16.1.1+1),wr .i64 (x16.1.2+1)),x16.2.set x16.1.1.toNat e22)))
 else (some (.next ((x16.1.1,wr .i64 (x16.1.2+1)),x16.2))))
 else (some (.done (x16.1.1,x16.2)))
def a0j (x1:(List ByteArray)×Int):Option (Fl ((List ByteArray)×Int) (Sum (List ByteArray) (List ByteArray))) :=
 bif decide (x1.2<(x1.1.length:Int))
 then (Option.bind (idx x1.1 x1.2) fun _ =>
 Option.bind (x1.1[x1.2.toNat]?) fun e3 =>
 Option.bind (idx x1.1 (wr .i64 (x1.2-1))) fun _ =>
 Option.bind (x1.1[(wr .i64 (x1.2-1)).toNat]?) fun e5 =>
 bif Z6 e3 e5
 then (Option.bind (idx x1.1 x1.2) fun _ =>
 Option.bind (iter (V7 x1) (((x1.1.drop x1.2.toNat).length:Int).toNat+1) ((x1.2,1),x1.1)) fun b25 =>
 Option.bind (idx b25.2 b25.1) fun _ =>
 bif Nat.blt b25.1.toNat b25.2.length
 then (Option.bind (cut (b25.2.take b25.1.toNat++List.replicate (b25.2.length-b25.1.toNat) ((⟨#[]⟩:ByteArray):ByteArray)) 0 b25.1) fun y27 =>
 some (.done (.inr y27)))
 else (none))
 else (some (.next (x1.1,wr .i64 (x1.2+1)))))
 else (some (.done (.inl x1.1)))
def V2 (s:List ByteArray):Option (List ByteArray) :=
 bif decide ((s.length:Int)<2)
 then (some s)
 else (Option.bind (iter a0j ((s.length:Int).toNat+1) (s,1)) fun b28 =>
 onEnd (fun x29 =>
 some x29) (fun y30 =>
 some y30) b28)
def a1v (s:List ByteArray):Option (List ByteArray) :=
 bif (s.length:Int)==(s.length:Int)&&(s.length:Int)==(s.length:Int)
 then (some s)
 else (none)
def a5t (t:Api_Type)(nodes:List Int)(x1:(List ByteArray)×Int):Option (Fl ((List ByteArray)×Int) (List ByteArray)) :=
 bif decide (x1.2<(nodes.length:Int))
 then (Option.bind (idx nodes x1.2) fun e2 =>
 Option.bind (idx t.Nodes e2) fun e3 =>
 bif e3.Kind==19
 then (Option.bind (idx t.Nodes e2) fun e4 =>
 Option.bind (Z8 (x1.1.length+([e4.Text]:List ByteArray).length) 16) fun _ =>
 some (.next (x1.1++([e4.Text]:List ByteArray),wr .i64 (x1.2+1))))
 else (some (.next (x1.1,wr .i64 (x1.2+1)))))
 else (some (.done x1.1))
def a9z (t:Api_Type)(nodes:List Int):Option (List ByteArray) :=
 Option.bind (iter (a5t t nodes) ((nodes.length:Int).toNat+1) ([],0)) fun b6 =>
 Option.bind (b2W b6) fun r7 =>
 Option.bind (V2 r7.2) fun r8 =>
 Option.bind (a1v r8) fun r9 =>
 some r9
def a17 (s:List Int)(f:Int->Option Bool)(x1:Int):Option (Fl Int (Sum Unit Int)) :=
 bif decide (x1<(s.length:Int))
 then (Option.bind (idx s x1) fun e2 =>
 Option.bind (f e2) fun r3 =>
 bif r3
 then (some (.done (.inr x1)))
 else (some (.next (wr .i64 (x1+1)))))
 else (some (.done (.inl ())))
def a4W (s:List Int)(f:Int->Option Bool):Option Int :=
 Option.bind (iter (a17 s f) ((s.length:Int).toNat+1) 0) fun b4 =>
 onEnd (fun _ =>
 some (-1)) (fun y6 =>
 some y6) b4
def Z9 (s:List Int)(f:Int->Option Bool):Option Bool :=
 Option.bind (a4W s f) fun r1 =>
 some (decide (0<=r1))
def a3p (s:List Int)(v:Int)(x1:Int):Option (Fl Int (Sum Unit Int)) :=
 bif decide (x1<(s.length:Int))
 then (Option.bind (idx s x1) fun e2 =>
 bif v==e2
 then (some (.done (.inr x1)))
 else (some (.next (wr .i64 (x1+1)))))
 else (some (.done (.inl ())))
def a6N (s:List Int)(v:Int):Option Int :=
 Option.bind (iter (a3p s v) ((s.length:Int).toNat+1) 0) fun b3 =>
 onEnd (fun _ =>
 some (-1)) (fun y5 =>
 some y5) b3
def a3l (s:List Int)(v:Int):Option Bool :=
 Option.bind (a6N s v) fun r1 =>
 some (decide (0<=r1))
def a9S (x:Int)(a1_1:List Int):Option Bool :=
 Option.bind (a3l a1_1 x) fun r1 =>
 some r1
def a8M (a:List Int)(b:List Int):Option Bool :=
 Option.bind (Z9 a (fun z1 =>
 Option.bind (a9S z1 b) fun r2 =>
 some r2)) fun r3 =>
 some r3
def a0T (s:List ByteArray)(f:ByteArray->Option Bool)(x1:Int):Option (Fl Int (Sum Unit Int)) :=
 bif decide (x1<(s.length:Int))
 then (Option.bind (idx s x1) fun e2 =>
 Option.bind (f e2) fun r3 =>
 bif r3
 then (some (.done (.inr x1)))
 else (some (.next (wr .i64 (x1+1)))))
 else (some (.done (.inl ())))
def a2Q (s:List ByteArray)(f:ByteArray->Option Bool):Option Int :=
 Option.bind (iter (a0T s f) ((s.length:Int).toNat+1) 0) fun b4 =>
 onEnd (fun _ =>
 some (-1)) (fun y6 =>
 some y6) b4
def a0R (s:List ByteArray)(f:ByteArray->Option Bool):Option Bool :=
 Option.bind (a2Q s f) fun r1 =>
 some (decide (0<=r1))
def a1z (s:List ByteArray)(v:ByteArray)(x1:Int):Option (Fl Int (Sum Unit Int)) :=
 bif decide (x1<(s.length:Int))
 then (Option.bind (idx s x1) fun e2 =>
 bif Z6 v e2
 then (some (.done (.inr x1)))
 else (some (.next (wr .i64 (x1+1)))))
 else (some (.done (.inl ())))
def a4c (s:List ByteArray)(v:ByteArray):Option Int :=
 Option.bind (iter (a1z s v) ((s.length:Int).toNat+1) 0) fun b3 =>
 onEnd (fun _ =>
 some (-1)) (fun y5 =>
 some y5) b3
def K9 (s:List ByteArray)(v:ByteArray):Option Bool :=
 Option.bind (a4c s v) fun r1 =>
 some (decide (0<=r1))
def a7D (x:ByteArray)(a1_1:List ByteArray):Option Bool :=
 Option.bind (K9 a1_1 x) fun r1 =>
 some r1
def a40 (a:List ByteArray)(b:List ByteArray):Option Bool :=
 Option.bind (a0R a (fun z1 =>
 Option.bind (a7D z1 b) fun r2 =>
 some r2)) fun r3 =>
 some r3
def c4V (x1:(List Core_Sort)×Int):Option (Fl ((List Core_Sort)×Int) (List Core_Sort)) :=
 bif decide (x1.2<=4)
 then (Option.bind (Z8 (x1.1.length+([Core_Sort.mk 6 x1.2,Core_Sort.mk 9 x1.2]:List Core_Sort).length) 16) fun _ =>
 some (.next (x1.1++([Core_Sort.mk 6 x1.2,Core_Sort.mk 9 x1.2]:List Core_Sort),wr .i64 (x1.2+1))))
 else (some (.done x1.1))
def b7o:Option (List Core_Sort) :=
 Option.bind (iter c4V ((4:Int).toNat+2) (([Core_Sort.mk 1 0,Core_Sort.mk 2 0,Core_Sort.mk 3 0,Core_Sort.mk 4 0,Core_Sort.mk 5 0,Core_Sort.mk 7 0,Core_Sort.mk 8 0]:List Core_Sort),0)) fun b3 =>
 some b3
def a6p (d:Core_Sort)(t:Api_TypeNode):Option Bool :=
 bif t.Kind==3
 then (some (d.Kind==1))
 else (Option.bind (bif t.Kind==4
 then (some (t.Kind==4))
 else (some (t.Kind==5))) fun b1 =>
 bif b1
 then (some (d.Kind==2))
 else (Option.bind (bif t.Kind==6
 then (some (t.Kind==6))
 else (some (t.Kind==7))) fun b2 =>
 bif b2
 then (some (d.Kind==3))
 else (bif t.Kind==8
 then (some (d.Kind==4))
 else (bif t.Kind==9
 then (some (d.Kind==5))
 else (bif t.Kind==12
 then (some (d.Kind==7))
 else (bif t.Kind==13
 then (some (d.Kind==8))
 else (bif t.Kind==11
 then (some (d.Kind==6))
 else (bif t.Kind==10
 then (Option.bind (bif d.Kind==6
 then (some (d.Arity==(t.Kids.length:Int)))
 else (some false)) fun q3 =>
 some q3)
 else (bif t.Kind==15
 then (some (d.Kind==9))
 else (bif t.Kind==14
 then (Option.bind (bif d.Kind==9
 then (some (d.Arity==(wr .i64 ((t.Kids.length:Int)-1))))
 else (some false)) fun q4 =>
 some q4)
 else (some false)))))))))))
def a4O (i:Int)(a1_1:Api_Type)(a2_2:Core_Sort):Option Bool :=
 Option.bind (idx a1_1.Nodes i) fun e1 =>
 Option.bind (bif e1.Kind != 19
 then (Option.bind (idx a1_1.Nodes i) fun e2 =>
 Option.bind (a6p a2_2 e2) fun r3 =>
 some (!r3))
 else (some false)) fun q4 =>
 some q4
def a75 (s:Core_Sort)(t:Api_Type)(e:Api_Goal):Option Bool :=
 Option.bind (bif e.Lists
 then (some (s.Kind != 5))
 else (some false)) fun q1 =>
 Option.bind (bif q1
 then (some (s.Kind != 7))
 else (some false)) fun q2 =>
 bif q2
 then (some false)
 else (Option.bind (Z9 e.Pos (fun z3 =>
 Option.bind (a4O z3 t s) fun r4 =>
 some r4)) fun r5 =>
 some (!r5))
def b1x:Option (List Api_Range) :=
 some ([Api_Range.mk (-9223372036854775808) 9223372036854775807]:List Api_Range)
def a5C (x:Int):Option Bool :=
 some (x != x)
def a10 (x:Int)(y:Int):Option Int :=
 Option.bind (a5C x) fun r1 =>
 Option.bind (a5C y) fun r2 =>
 bif r1
 then (bif r2
 then (some 0)
 else (some (-1)))
 else (bif r2
 then (some 1)
 else (bif decide (x<y)
 then (some (-1))
 else (bif decide (y<x)
 then (some 1)
 else (some 0))))
def a2V (a:Api_Range)(b:Api_Range):Option Int :=
 Option.bind (a10 a.Lo b.Lo) fun r1 =>
 some r1
noncomputable def a1y (d:List Api_Range)(x1:(List Api_Range)×Int):Option (Fl ((List Api_Range)×Int) (List Api_Range)) :=
 bif decide (x1.2<(d.length:Int))
 then (Option.bind (idx d x1.2) fun e2 =>
 bif decide (e2.Lo<=e2.Hi)
 then (Option.bind (Z8 (x1.1.length+([e2]:List Api_Range).length) 16) fun _ =>
 some (.next (x1.1++([e2]:List Api_Range),wr .i64 (x1.2+1))))
 else (some (.next (x1.1,wr .i64 (x1.2+1)))))
 else (some (.done x1.1))
noncomputable def a0H (r8:Unit×List Api_Range)(x9:(List Api_Range)×(List Api_Range)×Int):Option (Fl ((List Api_Range)×(List Api_Range)×Int) ((List Api_Range)×(List Api_Range))) :=
 bif decide (x9.2.2<(r8.2.length:Int))
 then (Option.bind (idx x9.2.1 x9.2.2) fun _ =>
 Option.bind (x9.2.1[x9.2.2.toNat]?) fun e11 =>
 Option.bind (bif decide (0<=(wr .i64 ((x9.1.length:Int)-1)))
 then (Option.bind (idx x9.1 (wr .i64 ((x9.1.length:Int)-1))) fun _ =>
 Option.bind (x9.1[(wr .i64 ((x9.1.length:Int)-1)).toNat]?) fun e13 =>
 Option.bind (bif e13.Hi==9223372036854775807
 then (some true)
 else (Option.bind (idx x9.1 (wr .i64 ((x9.1.length:Int)-1))) fun _ =>
 Option.bind (x9.1[(wr .i64 ((x9.1.length:Int)-1)).toNat]?) fun e15 =>
 some (decide (e11.Lo<=(wr .i64 (e15.Hi+1)))))) fun q16 =>
 some q16)
 else (some false)) fun q17 =>
 bif q17
 then (Option.bind (idx x9.1 (wr .i64 ((x9.1.length:Int)-1))) fun _ =>
 Option.bind (x9.1[(wr .i64 ((x9.1.length:Int)-1)).toNat]?) fun e19 =>
 Option.bind (idx x9.1 (wr .i64 ((x9.1.length:Int)-1))) fun _ =>
 Option.bind (x9.1[(wr .i64 ((x9.1.length:Int)-1)).toNat]?) fun e21 =>
 some (.next (x9.1.set ((wr .i64 ((x9.1.length:Int)-1)).toNat) (Api_Range.mk e21.Lo (max e19.Hi e11.Hi)),x9.2.1,wr .i64 (x9.2.2+1))))
 else (Option.bind (Z8 (x9.1.length+([e11]:List Api_Range).length) 16) fun _ =>
 some (.next (x9.1++([e11]:List Api_Range),x9.2.1,wr .i64 (x9.2.2+1)))))
 else (some (.done (x9.1,x9.2.1)))
noncomputable def a0X (d:List Api_Range):Option (List Api_Range) :=
 Option.bind (iter (a1y d) ((d.length:Int).toNat+1) ([],0)) fun b4 =>
 Option.bind (b7O b4 (fun z5 z6 =>
 Option.bind (a2V z5 z6) fun r7 =>
 some r7)) fun r8 =>
 Option.bind (iter (a0H r8) ((r8.2.length:Int).toNat+1) ([],r8.2,0)) fun b23 =>
 some b23.1
noncomputable def a0F (e3:Api_Range)(r4:List Api_Range)(x5:(List Api_Range)×Int):Option (Fl ((List Api_Range)×Int) (List Api_Range)) :=
 bif decide (x5.2<(r4.length:Int))
 then (Option.bind (idx r4 x5.2) fun e6 =>
 Option.bind (Z8 (x5.1.length+([Api_Range.mk (max e3.Lo e6.Lo) (min e3.Hi e6.Hi)]:List Api_Range).length) 16) fun _ =>
 some (.next (x5.1++([Api_Range.mk (max e3.Lo e6.Lo) (min e3.Hi e6.Hi)]:List Api_Range),wr .i64 (x5.2+1))))
 else (some (.done x5.1))
noncomputable def a1w (b:List Api_Range)(r1:List Api_Range)(x2:(List Api_Range)×Int):Option (Fl ((List Api_Range)×Int) (List Api_Range)) :=
 bif decide (x2.2<(r1.length:Int))
 then (Option.bind (idx r1 x2.2) fun e3 =>
 Option.bind (a0X b) fun r4 =>
 Option.bind (iter (a0F e3 r4) ((r4.length:Int).toNat+1) (x2.1,0)) fun b8 =>
 some (.next (b8,wr .i64 (x2.2+1))))
 else (some (.done x2.1))
noncomputable def a3R (a:List Api_Range)(b:List Api_Range):Option (List Api_Range) :=
 Option.bind (a0X a) fun r1 =>
 Option.bind (iter (a1w b r1) ((r1.length:Int).toNat+1) ([],0)) fun b9 =>
 Option.bind (a0X b9) fun r10 =>
 some r10
noncomputable def a2k (r1:List Api_Range)(x2:(List Api_Range)×Int×Int):Option (Fl ((List Api_Range)×Int×Int) (Sum ((List Api_Range)×Int) (List Api_Range))) :=
 bif decide (x2.2.2<(r1.length:Int))
 then (Option.bind (idx r1 x2.2.2) fun e3 =>
 Option.bind (bif decide (x2.2.1<e3.Lo)
 then (Option.bind (Z8 (x2.1.length+([Api_Range.mk x2.2.1 (wr .i64 (e3.Lo-1))]:List Api_Range).length) 16) fun _ =>
 some (x2.1++([Api_Range.mk x2.2.1 (wr .i64 (e3.Lo-1))]:List Api_Range)))
 else (some x2.1)) fun b5 =>
 bif e3.Hi==9223372036854775807
 then (some (.done (.inr b5)))
 else (some (.next (b5,wr .i64 (e3.Hi+1),wr .i64 (x2.2.2+1)))))
 else (some (.done (.inl (x2.1,x2.2.1))))
noncomputable def a5a (a:List Api_Range):Option (List Api_Range) :=
 Option.bind (a0X a) fun r1 =>
 Option.bind (iter (a2k r1) ((r1.length:Int).toNat+1) ([],(-9223372036854775808),0)) fun b6 =>
 onEnd (fun x7 =>
 Option.bind (Z8 (x7.1.length+([Api_Range.mk x7.2 9223372036854775807]:List Api_Range).length) 16) fun _ =>
 some (x7.1++([Api_Range.mk x7.2 9223372036854775807]:List Api_Range))) (fun y8 =>
 some y8) b6
noncomputable def a68 (t:Api_Type)(e:Api_Goal)(x2:(List Api_Range)×Int):Option (Fl ((List Api_Range)×Int) (List Api_Range)) :=
 bif decide (x2.2<(e.Pos.length:Int))
 then (Option.bind (idx e.Pos x2.2) fun e3 =>
 Option.bind (idx t.Nodes e3) fun e4 =>
 bif e4.Kind==3
 then (Option.bind (a3R x2.1 ([Api_Range.mk e4.Lo e4.Hi]:List Api_Range)) fun r5 =>
 some (.next (r5,wr .i64 (x2.2+1))))
 else (some (.next (x2.1,wr .i64 (x2.2+1)))))
 else (some (.done x2.1))
noncomputable def a69 (t:Api_Type)(e:Api_Goal)(x7:(List Api_Range)×Int):Option (Fl ((List Api_Range)×Int) (List Api_Range)) :=
 bif decide (x7.2<(e.Neg.length:Int))
 then (Option.bind (idx e.Neg x7.2) fun e8 =>
 Option.bind (idx t.Nodes e8) fun e9 =>
 bif e9.Kind==3
 then (Option.bind (a5a ([Api_Range.mk e9.Lo e9.Hi]:List Api_Range)) fun r10 =>
 Option.bind (a3R x7.1 r10) fun r11 =>
 some (.next (r11,wr .i64 (x7.2+1))))
 else (some (.next (x7.1,wr .i64 (x7.2+1)))))
 else (some (.done x7.1))
noncomputable def b2O (t:Api_Type)(e:Api_Goal):Option (List Api_Range) :=
 Option.bind (b1x) fun r1 =>
 Option.bind (iter (a68 t e) ((e.Pos.length:Int).toNat+1) (r1,0)) fun b6 =>
 Option.bind (iter (a69 t e) ((e.Neg.length:Int).toNat+1) (b6,0)) fun b12 =>
 some b12
def a1D (s:Api_Names):Option Literals_normal :=
 Option.bind (a0y 16 s.List_) fun r1 =>
 Option.bind (b2W r1) fun r2 =>
 Option.bind (V2 r2.2) fun r3 =>
 Option.bind (a1v r3) fun r4 =>
 some (Literals_normal.mk (Api_Names.mk s.Cofinite r4))
def a3b (l:List ByteArray):Option Api_Names :=
 Option.bind (a1D (Api_Names.mk true l)) fun r1 =>
 some r1.Names
def a23 (l:List ByteArray):Option Api_Names :=
 Option.bind (a1D (Api_Names.mk false l)) fun r1 =>
 some r1.Names
def a4n (n_0:Literals_normal)(other:Literals_normal):Option (List ByteArray) :=
 Option.bind (a0y 16 n_0.Names.List_) fun r1 =>
 Option.bind (Z8 (r1.length+other.Names.List_.length) 16) fun _ =>
 some (r1++other.Names.List_)
def a6Q (x:ByteArray):Option Bool :=
 some (!(Z6 x x))
def a7s (x:ByteArray)(y:ByteArray):Option Bool :=
 Option.bind (a6Q x) fun r1 =>
 Option.bind (bif r1
 then (Option.bind (a6Q y) fun r2 =>
 some (!r2))
 else (some false)) fun q3 =>
 Option.bind (bif q3
 then (some true)
 else (some (a2M x y))) fun q4 =>
 some q4
def a5g (x:ByteArray):Option Bool :=
 some (!(Z6 x x))
def Q5 (x:List ByteArray)(target:ByteArray)(x1:Int×Int):Option (Fl (Int×Int) Int) :=
 bif decide (x1.1<x1.2)
 then (Option.bind (c13 .u64 (wr .u64 (wr .i64 (x1.1+x1.2))) 1) fun d2 =>
 Option.bind (idx x (wr .i64 d2)) fun e3 =>
 Option.bind (a7s e3 target) fun r4 =>
 bif r4
 then (some (.next (wr .i64 ((wr .i64 d2)+1),x1.2)))
 else (some (.next (x1.1,wr .i64 d2))))
 else (some (.done x1.1))
def a0S (n:Nat)(x:List ByteArray)(target:ByteArray):Option (Int×Bool) :=
 Option.bind (iter (Q5 x target) n (0,(x.length:Int))) fun b5 =>
 Option.bind (bif decide (b5<(x.length:Int))
 then (Option.bind (idx x b5) fun e6 =>
 Option.bind (bif Z6 e6 target
 then (some true)
 else (Option.bind (idx x b5) fun e7 =>
 Option.bind (a5g e7) fun r8 =>
 Option.bind (bif r8
 then (Option.bind (a5g target) fun r9 =>
 some r9)
 else (some false)) fun q10 =>
 some q10)) fun q11 =>
 some q11)
 else (some false)) fun q12 =>
 some (b5,q12)
def a3r (n:Nat)(n_0:Literals_normal)(name:ByteArray):Option Bool :=
 Option.bind (a0S n n_0.Names.List_ name) fun r1 =>
 some r1.2
def a2X (n_0:Literals_normal)(other:Literals_normal)(n:Nat)(x1:(List ByteArray)×Int):Option (Fl ((List ByteArray)×Int) (List ByteArray)) :=
 bif decide (x1.2<(n_0.Names.List_.length:Int))
 then (Option.bind (idx n_0.Names.List_ x1.2) fun e2 =>
 Option.bind (a3r n other e2) fun r3 =>
 bif !r3
 then (Option.bind (Z8 (x1.1.length+([e2]:List ByteArray).length) 16) fun _ =>
 some (.next (x1.1++([e2]:List ByteArray),wr .i64 (x1.2+1))))
 else (some (.next (x1.1,wr .i64 (x1.2+1)))))
 else (some (.done x1.1))
def a2s (n:Nat)(n_0:Literals_normal)(other:Literals_normal):Option (List ByteArray) :=
 Option.bind (iter (a2X n_0 other n) ((n_0.Names.List_.length:Int).toNat+1) ([],0)) fun b5 =>
 some b5
def a2y (r1:Literals_normal)(r2:Literals_normal)(n:Nat)(x10:(List ByteArray)×Int):Option (Fl ((List ByteArray)×Int) (List ByteArray)) :=
 bif decide (x10.2<(r1.Names.List_.length:Int))
 then (Option.bind (idx r1.Names.List_ x10.2) fun e11 =>
 Option.bind (a3r n r2 e11) fun r12 =>
 bif r12
 then (Option.bind (Z8 (x10.1.length+([e11]:List ByteArray).length) 16) fun _ =>
 some (.next (x10.1++([e11]:List ByteArray),wr .i64 (x10.2+1))))
 else (some (.next (x10.1,wr .i64 (x10.2+1)))))
 else (some (.done x10.1))
def a3V (n:Nat)(a:Api_Names)(b:Api_Names):Option Api_Names :=
 Option.bind (a1D a) fun r1 =>
 Option.bind (a1D b) fun r2 =>
 Option.bind (bif r1.Names.Cofinite
 then (some r2.Names.Cofinite)
 else (some false)) fun q3 =>
 bif q3
 then (Option.bind (a4n r1 r2) fun r4 =>
 Option.bind (a3b r4) fun r5 =>
 some r5)
 else (bif r1.Names.Cofinite
 then (Option.bind (a2s n r2 r1) fun r6 =>
 Option.bind (a23 r6) fun r7 =>
 some r7)
 else (bif r2.Names.Cofinite
 then (Option.bind (a2s n r1 r2) fun r8 =>
 Option.bind (a23 r8) fun r9 =>
 some r9)
 else (Option.bind (iter (a2y r1 r2 n) ((r1.Names.List_.length:Int).toNat+1) ([],0)) fun b14 =>
 Option.bind (a23 b14) fun r15 =>
 some r15)))
def a57 (t:Api_Type)(e:Api_Goal)(kind:Int)(n:Nat)(x2:Int×Api_Names):Option (Fl (Int×Api_Names) Api_Names) :=
 bif decide (x2.1<(e.Pos.length:Int))
 then (Option.bind (idx e.Pos x2.1) fun e3 =>
 Option.bind (idx t.Nodes e3) fun e4 =>
 bif e4.Kind==kind
 then (Option.bind (a23 ([e4.Text]:List ByteArray)) fun r5 =>
 Option.bind (a3V n x2.2 r5) fun r6 =>
 some (.next (wr .i64 (x2.1+1),r6)))
 else (some (.next (wr .i64 (x2.1+1),x2.2))))
 else (some (.done x2.2))
def a6h (t:Api_Type)(e:Api_Goal)(kind:Int)(n:Nat)(x8:Int×Api_Names):Option (Fl (Int×Api_Names) Api_Names) :=
 bif decide (x8.1<(e.Neg.length:Int))
 then (Option.bind (idx e.Neg x8.1) fun e9 =>
 Option.bind (idx t.Nodes e9) fun e10 =>
 bif e10.Kind==kind
 then (Option.bind (a3b ([e10.Text]:List ByteArray)) fun r11 =>
 Option.bind (a3V n x8.2 r11) fun r12 =>
 some (.next (wr .i64 (x8.1+1),r12)))
 else (some (.next (wr .i64 (x8.1+1),x8.2))))
 else (some (.done x8.2))
def a8H (n:Nat)(t:Api_Type)(e:Api_Goal)(kind:Int):Option Api_Names :=
 Option.bind (a3b ([]:List ByteArray)) fun r1 =>
 Option.bind (iter (a57 t e kind n) ((e.Pos.length:Int).toNat+1) (0,r1)) fun b7 =>
 Option.bind (iter (a6h t e kind n) ((e.Neg.length:Int).toNat+1) (0,b7)) fun b13 =>
 some b13
def b5S (i:Int)(a1_1:Api_Type)(a2_2:Int):Option Bool :=
 Option.bind (idx a1_1.Nodes i) fun e1 =>
 some (e1.Kind==a2_2)
def a6A (t:Api_Type)(nodes:List Int)(kind:Int):Option Bool :=
 Option.bind (Z9 nodes (fun z1 =>
 Option.bind (b5S z1 t kind) fun r2 =>
 some r2)) fun r3 =>
 some r3
def a7n (s:Core_Sort)(t:Api_Type)(nodes:List Int)(kind:Int)(x1:(List Int)×Int):Option (Fl ((List Int)×Int) (List Int)) :=
 bif decide (x1.2<(nodes.length:Int))
 then (Option.bind (idx nodes x1.2) fun e2 =>
 Option.bind (idx t.Nodes e2) fun e3 =>
 Option.bind (bif e3.Kind==kind
 then (Option.bind (idx t.Nodes e2) fun e4 =>
 Option.bind (a6p s e4) fun r5 =>
 some r5)
 else (some false)) fun q6 =>
 bif q6
 then (Option.bind (Z8 (x1.1.length+([e2]:List Int).length) 8) fun _ =>
 some (.next (x1.1++([e2]:List Int),wr .i64 (x1.2+1))))
 else (some (.next (x1.1,wr .i64 (x1.2+1)))))
 else (some (.done x1.1))
def a7H (s:Core_Sort)(t:Api_Type)(nodes:List Int)(kind:Int):Option (List Int) :=
 Option.bind (iter (a7n s t nodes kind) ((nodes.length:Int).toNat+1) ([],0)) fun b8 =>
 some b8
noncomputable def a9F (n:Nat)(d:Api_Type)(t:Api_Goal)(a2_2:Core_Sort):Option (Api_Line×Bool) :=
 Option.bind (a75 a2_2 d t) fun r1 =>
 bif !r1
 then (some (Api_Line.mk a2_2.Kind a2_2.Arity ([]:List Api_Range) (Api_Names.mk false ([]:List ByteArray)) ([]:List Int) ([]:List Int) ([]:List ByteArray) ([]:List ByteArray),false))
 else (Option.bind (bif a2_2.Kind==1
 then (Option.bind (b2O d t) fun r2 =>
 some (.inr (decide (0<(r2.length:Int)),(a2_2.Kind,a2_2.Arity,r2,false,([]:List ByteArray),([]:List Int),([]:List Int),([]:List ByteArray),([]:List ByteArray)),(a2_2.Kind,a2_2.Arity,r2,false,([]:List ByteArray),([]:List Int),([]:List Int),([]:List ByteArray),([]:List ByteArray)))))
 else (bif a2_2.Kind==2
 then (Option.bind (a8H n d t 4) fun r3 =>
 Option.bind (a6A d t.Neg 5) fun r4 =>
 bif !r4
 then (bif r3.Cofinite
 then (some (.inr (true,(a2_2.Kind,a2_2.Arity,([]:List Api_Range),r3.Cofinite,r3.List_,([]:List Int),([]:List Int),([]:List ByteArray),([]:List ByteArray)),(a2_2.Kind,a2_2.Arity,([]:List Api_Range),r3.Cofinite,r3.List_,([]:List Int),([]:List Int),([]:List ByteArray),([]:List ByteArray)))))
 else (some (.inr (decide (0<(r3.List_.length:Int)),(a2_2.Kind,a2_2.Arity,([]:List Api_Range),r3.Cofinite,r3.List_,([]:List Int),([]:List Int),([]:List ByteArray),([]:List ByteArray)),(a2_2.Kind,a2_2.Arity,([]:List Api_Range),r3.Cofinite,r3.List_,([]:List Int),([]:List Int),([]:List ByteArray),([]:List ByteArray))))))
 else (some (.inr (false,(a2_2.Kind,a2_2.Arity,([]:List Api_Range),r3.Cofinite,r3.List_,([]:List Int),([]:List Int),([]:List ByteArray),([]:List ByteArray)),(a2_2.Kind,a2_2.Arity,([]:List Api_Range),r3.Cofinite,r3.List_,([]:List Int),([]:List Int),([]:List ByteArray),([]:List ByteArray))))))
 else (bif a2_2.Kind==3
 then (Option.bind (a8H n d t 6) fun r5 =>
 Option.bind (a6A d t.Neg 7) fun r6 =>
 bif !r6
 then (bif r5.Cofinite
 then (some (.inr (true,(a2_2.Kind,a2_2.Arity,([]:List Api_Range),r5.Cofinite,r5.List_,([]:List Int),([]:List Int),([]:List ByteArray),([]:List ByteArray)),(a2_2.Kind,a2_2.Arity,([]:List Api_Range),r5.Cofinite,r5.List_,([]:List Int),([]:List Int),([]:List ByteArray),([]:List ByteArray)))))
 else (some (.inr (decide (0<(r5.List_.length:Int)),(a2_2.Kind,a2_2.Arity,([]:List Api_Range),r5.Cofinite,r5.List_,([]:List Int),([]:List Int),([]:List ByteArray),([]:List ByteArray)),(a2_2.Kind,a2_2.Arity,([]:List Api_Range),r5.Cofinite,r5.List_,([]:List Int),([]:List Int),([]:List ByteArray),([]:List ByteArray))))))
 else (some (.inr (false,(a2_2.Kind,a2_2.Arity,([]:List Api_Range),r5.Cofinite,r5.List_,([]:List Int),([]:List Int),([]:List ByteArray),([]:List ByteArray)),(a2_2.Kind,a2_2.Arity,([]:List Api_Range),r5.Cofinite,r5.List_,([]:List Int),([]:List Int),([]:List ByteArray),([]:List ByteArray))))))
 else (bif a2_2.Kind==4
 then (Option.bind (a6A d t.Neg 8) fun r7 =>
 some (.inr (!r7,(a2_2.Kind,a2_2.Arity,([]:List Api_Range),false,([]:List ByteArray),([]:List Int),([]:List Int),([]:List ByteArray),([]:List ByteArray)),(a2_2.Kind,a2_2.Arity,([]:List Api_Range),false,([]:List ByteArray),([]:List Int),([]:List Int),([]:List ByteArray),([]:List ByteArray)))))
 else (bif a2_2.Kind==5
 then (Option.bind (a6A d t.Neg 9) fun r8 =>
 some (.inr (!r8,(a2_2.Kind,a2_2.Arity,([]:List Api_Range),false,([]:List ByteArray),([]:List Int),([]:List Int),([]:List ByteArray),([]:List ByteArray)),(a2_2.Kind,a2_2.Arity,([]:List Api_Range),false,([]:List ByteArray),([]:List Int),([]:List Int),([]:List ByteArray),([]:List ByteArray)))))
 else (bif a2_2.Kind==6
 then (some (.inl (10,11,(0,0,([]:List Api_Range),false,([]:List ByteArray),([]:List Int),([]:List Int),([]:List ByteArray),([]:List ByteArray)),(a2_2.Kind,a2_2.Arity,([]:List Api_Range),false,([]:List ByteArray),([]:List Int),([]:List Int),([]:List ByteArray),([]:List ByteArray)))))
 else (bif a2_2.Kind==7
 then (some (.inl (12,0,(0,0,([]:List Api_Range),false,([]:List ByteArray),([]:List Int),([]:List Int),([]:List ByteArray),([]:List ByteArray)),(a2_2.Kind,a2_2.Arity,([]:List Api_Range),false,([]:List ByteArray),([]:List Int),([]:List Int),([]:List ByteArray),([]:List ByteArray)))))
 else (bif a2_2.Kind==8
 then (some (.inl (13,0,(0,0,([]:List Api_Range),false,([]:List ByteArray),([]:List Int),([]:List Int),([]:List ByteArray),([]:List ByteArray)),(a2_2.Kind,a2_2.Arity,([]:List Api_Range),false,([]:List ByteArray),([]:List Int),([]:List Int),([]:List ByteArray),([]:List ByteArray)))))
 else (bif a2_2.Kind==9
 then (some (.inl (14,15,(0,0,([]:List Api_Range),false,([]:List ByteArray),([]:List Int),([]:List Int),([]:List ByteArray),([]:List ByteArray)),(a2_2.Kind,a2_2.Arity,([]:List Api_Range),false,([]:List ByteArray),([]:List Int),([]:List Int),([]:List ByteArray),([]:List ByteArray)))))
 else (some (.inl (0,0,(0,0,([]:List Api_Range),false,([]:List ByteArray),([]:List Int),([]:List Int),([]:List ByteArray),([]:List ByteArray)),(a2_2.Kind,a2_2.Arity,([]:List Api_Range),false,([]:List ByteArray),([]:List Int),([]:List Int),([]:List ByteArray),([]:List ByteArray)))))))))))))) fun (b9:Sum (Int×Int×(Int×Int×(List Api_Range)×Bool×(List ByteArray)×(List Int)×(List Int)×(List ByteArray)×(List ByteArray))×(Int×Int×(List Api_Range)×Bool×(List ByteArray)×(List Int)×(List Int)×(List ByteArray)×(List ByteArray))) (Bool×(Int×Int×(List Api_Range)×Bool×(List ByteArray)×(List Int)×(List Int)×(List ByteArray)×(List ByteArray))×(Int×Int×(List Api_Range)×Bool×(List ByteArray)×(List Int)×(List Int)×(List ByteArray)×(List ByteArray)))) =>
 onEnd (fun x10 =>
 Option.bind (a7H a2_2 d t.Pos x10.1) fun r12 =>
 Option.bind (a7H a2_2 d t.Neg x10.1) fun r13 =>
 bif x10.2.1==0
 then (some (Api_Line.mk x10.2.2.2.1 x10.2.2.2.2.1 x10.2.2.2.2.2.1 (Api_Names.mk x10.2.2.2.2.2.2.1 x10.2.2.2.2.2.2.2.1) r12 r13 x10.2.2.2.2.2.2.2.2.2.2.1 x10.2.2.2.2.2.2.2.2.2.2.2,true))
 else (Option.bind (a6A d t.Neg x10.2.1) fun r14 =>
 some (Api_Line.mk x10.2.2.2.1 x10.2.2.2.2.1 x10.2.2.2.2.2.1 (Api_Names.mk x10.2.2.2.2.2.2.1 x10.2.2.2.2.2.2.2.1) r12 r13 x10.2.2.2.2.2.2.2.2.2.2.1 x10.2.2.2.2.2.2.2.2.2.2.2,!r14))) (fun y11 =>
 some (Api_Line.mk y11.2.1.1 y11.2.1.2.1 y11.2.1.2.2.1 (Api_Names.mk y11.2.1.2.2.2.1 y11.2.1.2.2.2.2.1) y11.2.1.2.2.2.2.2.1 y11.2.1.2.2.2.2.2.2.1 y11.2.1.2.2.2.2.2.2.2.1 y11.2.1.2.2.2.2.2.2.2.2,y11.1)) b9)
noncomputable def a4M (d:Api_Type)(n:Nat)(e6:Api_Goal)(r7:List ByteArray)(r8:List ByteArray)(r12:List Core_Sort)(x13:(List Api_Line)×Int):Option (Fl ((List Api_Line)×Int) (List Api_Line)) :=
 bif decide (x13.2<(r12.length:Int))
 then (Option.bind (idx r12 x13.2) fun e14 =>
 Option.bind (a9F n d e6 e14) fun r15 =>
 bif r15.2
 then (Option.bind (a0y 16 r7) fun r16 =>
 Option.bind (a0y 16 r8) fun r17 =>
 Option.bind (Z8 (x13.1.length+([Api_Line.mk r15.1.Kind r15.1.Arity r15.1.Ints r15.1.Names r15.1.Pos r15.1.Neg r16 r17]:List Api_Line).length) 168) fun _ =>
 some (.next (x13.1++([Api_Line.mk r15.1.Kind r15.1.Arity r15.1.Ints r15.1.Names r15.1.Pos r15.1.Neg r16 r17]:List Api_Line),wr .i64 (x13.2+1))))
 else (some (.next (x13.1,wr .i64 (x13.2+1)))))
 else (some (.done x13.1))
noncomputable def a6i (d:Api_Type)(n:Nat)(r4:List Api_Goal)(x5:(List Api_Line)×Int):Option (Fl ((List Api_Line)×Int) (List Api_Line)) :=
 bif decide (x5.2<(r4.length:Int))
 then (Option.bind (idx r4 x5.2) fun e6 =>
 Option.bind (a9z d e6.Pos) fun r7 =>
 Option.bind (a9z d e6.Neg) fun r8 =>
 Option.bind (a8M e6.Pos e6.Neg) fun r9 =>
 Option.bind (bif r9
 then (some true)
 else (Option.bind (a40 r7 r8) fun r10 =>
 some r10)) fun q11 =>
 bif q11
 then (some (.next (x5.1,wr .i64 (x5.2+1))))
 else (Option.bind (b7o) fun r12 =>
 Option.bind (iter (a4M d n e6 r7 r8 r12) ((r12.length:Int).toNat+1) (x5.1,0)) fun b19 =>
 some (.next (b19,wr .i64 (x5.2+1)))))
 else (some (.done x5.1))
noncomputable def a7d (n:Nat)(d:Api_Type)(t:Api_Goal):Option (List Api_Line) :=
 Option.bind (a0A n d) fun r1 =>
 Option.bind (bif r1 != 0
 then (some true)
 else (Option.bind (a5L d t) fun r2 =>
 some (!r2))) fun q3 =>
 bif q3
 then (some ([]))
 else (Option.bind (a7m n d t) fun r4 =>
 Option.bind (iter (a6i d n r4) ((r4.length:Int).toNat+1) ([],0)) fun b20 =>
 some b20)
def a16 (n_0:Int):Option Val :=
 some (Val.mk 1 n_0 (⟨#[]⟩:ByteArray) ([]:List Val) ([]:List Key) ([]:List Ent) ([]:List ByteArray))
def a8f (kind:Int):Option (Value_used×Bool) :=
 Option.bind (bif kind==1
 then (some (kind==1))
 else (some (kind==4))) fun b1 =>
 bif b1
 then (some (Value_used.mk true false false false false,true))
 else (Option.bind (bif kind==2
 then (some (kind==2))
 else (some (kind==3))) fun b2 =>
 bif b2
 then (some (Value_used.mk false true false false false,true))
 else (bif kind==5
 then (some (Value_used.mk false false false false false,true))
 else (Option.bind (bif kind==6
 then (some (kind==6))
 else (some (kind==7))) fun b3 =>
 bif b3
 then (some (Value_used.mk false false true false false,true))
 else (bif kind==8
 then (some (Value_used.mk false false true true false,true))
 else (bif kind==9
 then (some (Value_used.mk true false false false true,true))
 else (some (Value_used.mk false false false false false,false)))))))
def a7k (l:List ByteArray)(compare:ByteArray->ByteArray->Option Int)(x1:Int):Option (Fl Int (Sum Unit Bool)) :=
 bif decide (x1<(l.length:Int))
 then (Option.bind (idx l (wr .i64 (x1-1))) fun e2 =>
 Option.bind (idx l x1) fun e3 =>
 Option.bind (compare e2 e3) fun r4 =>
 bif decide (0<=r4)
 then (some (.done (.inr false)))
 else (some (.next (wr .i64 (x1+1)))))
 else (some (.done (.inl ())))
def a5T (l:List ByteArray)(compare:ByteArray->ByteArray->Option Int):Option Bool :=
 Option.bind (iter (a7k l compare) ((l.length:Int).toNat+1) 1) fun b5 =>
 onEnd (fun _ =>
 some true) (fun y7 =>
 some y7) b5
def a9J (l:List ByteArray)(x5:Int):Option (Fl Int (Sum Unit Bool)) :=
 bif decide (x5<(l.length:Int))
 then (Option.bind (idx l x5) fun e6 =>
 Option.bind (a3t e6) fun r7 =>
 bif !r7
 then (some (.done (.inr false)))
 else (some (.next (wr .i64 (x5+1)))))
 else (some (.done (.inl ())))
def a5X (l:List ByteArray):Option Bool :=
 Option.bind (a5T l (fun z1 z2 =>
 Option.bind (a0p z1 z2) fun r3 =>
 some r3)) fun r4 =>
 bif !r4
 then (some false)
 else (Option.bind (iter (a9J l) ((l.length:Int).toNat+1) 0) fun b8 =>
 onEnd (fun _ =>
 some true) (fun y10 =>
 some y10) b8)
def a61 (l:List Key)(compare:Key->Key->Option Int)(x1:Int):Option (Fl Int (Sum Unit Bool)) :=
 bif decide (x1<(l.length:Int))
 then (Option.bind (idx l (wr .i64 (x1-1))) fun e2 =>
 Option.bind (idx l x1) fun e3 =>
 Option.bind (compare e2 e3) fun r4 =>
 bif decide (0<=r4)
 then (some (.done (.inr false)))
 else (some (.next (wr .i64 (x1+1)))))
 else (some (.done (.inl ())))
def a5s (l:List Key)(compare:Key->Key->Option Int):Option Bool :=
 Option.bind (iter (a61 l compare) ((l.length:Int).toNat+1) 1) fun b5 =>
 onEnd (fun _ =>
 some true) (fun y7 =>
 some y7) b5
def b2e (v:Val)(x6:Int):Option (Fl Int (Sum Unit Bool)) :=
 bif decide (x6<(v.Keys.length:Int))
 then (Option.bind (idx v.Keys x6) fun e7 =>
 Option.bind (a4H e7) fun r8 =>
 bif !r8
 then (some (.done (.inr false)))
 else (some (.next (wr .i64 (x6+1)))))
 else (some (.done (.inl ())))
def a8k (v:Val):Option Bool :=
 Option.bind (bif (v.Keys.length:Int) != (v.Kids.length:Int)
 then (some true)
 else (Option.bind (a5s v.Keys (fun z1 z2 =>
 Option.bind (a0g z1 z2) fun r3 =>
 some r3)) fun r4 =>
 some (!r4))) fun q5 =>
 bif q5
 then (some false)
 else (Option.bind (iter (b2e v) ((v.Keys.length:Int).toNat+1) 0) fun b9 =>
 onEnd (fun _ =>
 some true) (fun y11 =>
 some y11) b9)
def a6k (l:List Ent)(compare:Ent->Ent->Option Int)(x1:Int):Option (Fl Int (Sum Unit Bool)) :=
 bif decide (x1<(l.length:Int))
 then (Option.bind (idx l (wr .i64 (x1-1))) fun e2 =>
 Option.bind (idx l x1) fun e3 =>
 Option.bind (compare e2 e3) fun r4 =>
 bif decide (0<=r4)
 then (some (.done (.inr false)))
 else (some (.next (wr .i64 (x1+1)))))
 else (some (.done (.inl ())))
def a4r (l:List Ent)(compare:Ent->Ent->Option Int):Option Bool :=
 Option.bind (iter (a6k l compare) ((l.length:Int).toNat+1) 1) fun b5 =>
 onEnd (fun _ =>
 some true) (fun y7 =>
 some y7) b5
def a5l (a:List Val)(b:List Val)(compare:Val->Val->Option Int)(x2:Int):Option (Fl Int (Sum Unit Int)) :=
 bif decide (x2<(a.length:Int))
 then (Option.bind (idx a x2) fun e3 =>
 Option.bind (idx b x2) fun e4 =>
 Option.bind (compare e3 e4) fun r5 =>
 bif r5 != 0
 then (some (.done (.inr r5)))
 else (some (.next (wr .i64 (x2+1)))))
 else (some (.done (.inl ())))
def a3u (a:List Val)(b:List Val)(compare:Val->Val->Option Int):Option Int :=
 Option.bind (a0Q (a.length:Int) (b.length:Int)) fun r1 =>
 bif r1 != 0
 then (some r1)
 else (Option.bind (iter (a5l a b compare) ((a.length:Int).toNat+1) 0) fun b6 =>
 onEnd (fun _ =>
 some 0) (fun y8 =>
 some y8) b6)
def a5U (a:List Key)(b:List Key)(compare:Key->Key->Option Int)(x2:Int):Option (Fl Int (Sum Unit Int)) :=
 bif decide (x2<(a.length:Int))
 then (Option.bind (idx a x2) fun e3 =>
 Option.bind (idx b x2) fun e4 =>
 Option.bind (compare e3 e4) fun r5 =>
 bif r5 != 0
 then (some (.done (.inr r5)))
 else (some (.next (wr .i64 (x2+1)))))
 else (some (.done (.inl ())))
def a4e (a:List Key)(b:List Key)(compare:Key->Key->Option Int):Option Int :=
 Option.bind (a0Q (a.length:Int) (b.length:Int)) fun r1 =>
 bif r1 != 0
 then (some r1)
 else (Option.bind (iter (a5U a b compare) ((a.length:Int).toNat+1) 0) fun b6 =>
 onEnd (fun _ =>
 some 0) (fun y8 =>
 some y8) b6)
def a5k (a:List Ent)(b:List Ent)(compare:Ent->Ent->Option Int)(x2:Int):Option (Fl Int (Sum Unit Int)) :=
 bif decide (x2<(a.length:Int))
 then (Option.bind (idx a x2) fun e3 =>
 Option.bind (idx b x2) fun e4 =>
 Option.bind (compare e3 e4) fun r5 =>
 bif r5 != 0
 then (some (.done (.inr r5)))
 else (some (.next (wr .i64 (x2+1)))))
 else (some (.done (.inl ())))
def a3x (a:List Ent)(b:List Ent)(compare:Ent->Ent->Option Int):Option Int :=
 Option.bind (a0Q (a.length:Int) (b.length:Int)) fun r1 =>
 bif r1 != 0
 then (some r1)
 else (Option.bind (iter (a5k a b compare) ((a.length:Int).toNat+1) 0) fun b6 =>
 onEnd (fun _ =>
 some 0) (fun y8 =>
 some y8) b6)
def a6z (a:List ByteArray)(b:List ByteArray)(compare:ByteArray->ByteArray->Option Int)(x2:Int):Option (Fl Int (Sum Unit Int)) :=
 bif decide (x2<(a.length:Int))
 then (Option.bind (idx a x2) fun e3 =>
 Option.bind (idx b x2) fun e4 =>
 Option.bind (compare e3 e4) fun r5 =>
 bif r5 != 0
 then (some (.done (.inr r5)))
 else (some (.next (wr .i64 (x2+1)))))
 else (some (.done (.inl ())))
def a4v (a:List ByteArray)(b:List ByteArray)(compare:ByteArray->ByteArray->Option Int):Option Int :=
 Option.bind (a0Q (a.length:Int) (b.length:Int)) fun r1 =>
 bif r1 != 0
 then (some r1)
 else (Option.bind (iter (a6z a b compare) ((a.length:Int).toNat+1) 0) fun b6 =>
 onEnd (fun _ =>
 some 0) (fun y8 =>
 some y8) b6)
def a9A (_:Nat)(_:Val->Val->Option Int)(rec_value_compareEntries:Ent->Ent->Option Int)(rec_value_compareValues:(List Val)->(List Val)->Option Int)(a:Val)(b:Val):Option Int :=
 Option.bind (a0Q a.Kind b.Kind) fun r1 =>
 bif r1 != 0
 then (some r1)
 else (Option.bind (a10 a.Int_ b.Int_) fun r2 =>
 bif r2 != 0
 then (some r2)
 else (Option.bind (a0p a.Text b.Text) fun r3 =>
 bif r3 != 0
 then (some r3)
 else (Option.bind (a4e a.Keys b.Keys (fun z4 z5 =>
 Option.bind (a0g z4 z5) fun r6 =>
 some r6)) fun r7 =>
 bif r7 != 0
 then (some r7)
 else (Option.bind (rec_value_compareValues a.Kids b.Kids) fun r8 =>
 bif r8 != 0
 then (some r8)
 else (Option.bind (a3x a.Entries b.Entries (fun z9 z10 =>
 Option.bind (rec_value_compareEntries z9 z10) fun r11 =>
 some r11)) fun r12 =>
 bif r12 != 0
 then (some r12)
 else (Option.bind (a4v a.Labels b.Labels (fun z13 z14 =>
 Option.bind (a0p z13 z14) fun r15 =>
 some r15)) fun r16 =>
 some r16))))))
def a5S (_:Nat)(rec_value_Compare:Val->Val->Option Int)(_:Ent->Ent->Option Int)(rec_value_compareValues:(List Val)->(List Val)->Option Int)(a:Ent)(b:Ent):Option Int :=
 Option.bind (rec_value_compareValues a.Args b.Args) fun r1 =>
 bif r1 != 0
 then (some r1)
 else (bif a.Fails != b.Fails
 then (bif a.Fails
 then (some (-1))
 else (some 1))
 else (Option.bind (rec_value_Compare a.Result b.Result) fun r2 =>
 some r2))
def a6r (_:Nat)(rec_value_Compare:Val->Val->Option Int)(_:Ent->Ent->Option Int)(_:(List Val)->(List Val)->Option Int)(a:List Val)(b:List Val):Option Int :=
 Option.bind (a3u a b (fun z1 z2 =>
 Option.bind (rec_value_Compare z1 z2) fun r3 =>
 some r3)) fun r4 =>
 some r4
def V4:Nat->(Val->Val->Option Int)×(Ent->Ent->Option Int)×((List Val)->(List Val)->Option Int)
 | 0=>(fun _ _=>none,fun _ _=>none,fun _ _=>none)
 | n+1=>(a9A n ((V4 n).1) ((V4 n).2.1) ((V4 n).2.2),a5S n ((V4 n).1) ((V4 n).2.1) ((V4 n).2.2),a6r n ((V4 n).1) ((V4 n).2.1) ((V4 n).2.2))
def a3g (n:Nat):Val->Val->Option Int:=(V4 n).1
def V6 (n:Nat):Ent->Ent->Option Int:=(V4 n).2.1
def a3q (n:Nat):(List Val)->(List Val)->Option Int:=(V4 n).2.2
def b5M (n:Nat)(a:Val)(b:Val):Option Bool :=
 Option.bind (a3g n a b) fun r1 =>
 some (r1==0)
def b3C (n:Nat)(v:Val):Option Bool :=
 Option.bind (b5M n v (Val.mk 0 0 (⟨#[]⟩:ByteArray) ([]:List Val) ([]:List Key) ([]:List Ent) ([]:List ByteArray))) fun r1 =>
 some r1
def a4P (n:Nat)(e:Ent)(arity:Int):Option Bool :=
 Option.bind (bif (e.Args.length:Int)==arity
 then (Option.bind (bif !e.Fails
 then (some true)
 else (Option.bind (b3C n e.Result) fun r1 =>
 some r1)) fun q2 =>
 some q2)
 else (some false)) fun q3 =>
 some q3
def a8C (v:Val)(n:Nat)(x7:Int):Option (Fl Int (Sum Unit Bool)) :=
 bif decide (x7<(v.Entries.length:Int))
 then (Option.bind (idx v.Entries x7) fun e8 =>
 Option.bind (a4P n e8 v.Int_) fun r9 =>
 bif !r9
 then (some (.done (.inr false)))
 else (some (.next (wr .i64 (x7+1)))))
 else (some (.done (.inl ())))
def a5f (n:Nat)(v:Val):Option Bool :=
 Option.bind (bif decide (v.Int_<0)
 then (some true)
 else (some (decide (4<v.Int_)))) fun q1 =>
 Option.bind (bif q1
 then (some true)
 else (Option.bind (a4r v.Entries (fun z2 z3 =>
 Option.bind (V6 n z2 z3) fun r4 =>
 some r4)) fun r5 =>
 some (!r5))) fun q6 =>
 bif q6
 then (some false)
 else (Option.bind (iter (a8C v n) ((v.Entries.length:Int).toNat+1) 0) fun b10 =>
 onEnd (fun _ =>
 some true) (fun y12 =>
 some y12) b10)
def a7o (n:Nat)(d:Val):Option Bool :=
 Option.bind (a8f d.Kind) fun r1 =>
 Option.bind (bif !r1.2
 then (some true)
 else (Option.bind (a5X d.Labels) fun r2 =>
 some (!r2))) fun q3 =>
 bif q3
 then (some false)
 else (Option.bind (bif !r1.1.number
 then (some (d.Int_ != 0))
 else (some false)) fun q4 =>
 Option.bind (bif q4
 then (some true)
 else (Option.bind (bif !r1.1.text_
 then (some (!(Z6 d.Text (⟨#[]⟩:ByteArray))))
 else (some false)) fun q5 =>
 some q5)) fun q6 =>
 Option.bind (bif q6
 then (some true)
 else (Option.bind (bif !r1.1.kids
 then (some (decide (0<(d.Kids.length:Int))))
 else (some false)) fun q7 =>
 some q7)) fun q8 =>
 Option.bind (bif q8
 then (some true)
 else (Option.bind (bif !r1.1.keys
 then (some (decide (0<(d.Keys.length:Int))))
 else (some false)) fun q9 =>
 some q9)) fun q10 =>
 Option.bind (bif q10
 then (some true)
 else (Option.bind (bif !r1.1.entries
 then (some (decide (0<(d.Entries.length:Int))))
 else (some false)) fun q11 =>
 some q11)) fun q12 =>
 bif q12
 then (some false)
 else (bif d.Kind==2
 then (some (decide ((d.Text.size:Int)<=64)))
 else (bif d.Kind==3
 then (Option.bind (a6o d.Text) fun r13 =>
 some r13)
 else (bif d.Kind==4
 then (some (decide (0<=d.Int_)))
 else (bif d.Kind==6
 then (some (decide ((d.Kids.length:Int)<=4)))
 else (bif d.Kind==7
 then (Option.bind (bif (d.Kids.length:Int)==2
 then (Option.bind (idx d.Kids 1) fun e14 =>
 Option.bind (bif e14.Kind==5
 then (some true)
 else (Option.bind (idx d.Kids 1) fun e15 =>
 some (e15.Kind==7))) fun q16 =>
 some q16)
 else (some false)) fun q17 =>
 some q17)
 else (bif d.Kind==8
 then (Option.bind (a8k d) fun r18 =>
 some r18)
 else (bif d.Kind==9
 then (Option.bind (a5f n d) fun r19 =>
 some r19)
 else (some true)))))))))
def a71 (v:Val)(x2:(List Val)×Int):Option (Fl ((List Val)×Int) (List Val)) :=
 bif decide (x2.2<(v.Entries.length:Int))
 then (Option.bind (idx v.Entries x2.2) fun e3 =>
 Option.bind (Z8 (x2.1.length+e3.Args.length) 128) fun _ =>
 bif !e3.Fails
 then (Option.bind (Z8 ((x2.1++e3.Args).length+([e3.Result]:List Val).length) 128) fun _ =>
 some (.next ((x2.1++e3.Args)++([e3.Result]:List Val),wr .i64 (x2.2+1))))
 else (some (.next (x2.1++e3.Args,wr .i64 (x2.2+1)))))
 else (some (.done x2.1))
def b0X (v:Val):Option (List Val) :=
 Option.bind (a0y 128 v.Kids) fun r1 =>
 Option.bind (iter (a71 v) ((v.Entries.length:Int).toNat+1) (r1,0)) fun b6 =>
 some b6
def b1u (r2:List Val)(rec_value_validTree:Val->Option Bool)(x3:Int):Option (Fl Int (Sum Unit Bool)) :=
 bif decide (x3<(r2.length:Int))
 then (Option.bind (idx r2 x3) fun e4 =>
 Option.bind (rec_value_validTree e4) fun r5 =>
 bif !r5
 then (some (.done (.inr false)))
 else (some (.next (wr .i64 (x3+1)))))
 else (some (.done (.inl ())))
def a8t (n:Nat)(rec_value_validTree:Val->Option Bool)(v:Val):Option Bool :=
 Option.bind (a7o n v) fun r1 =>
 bif !r1
 then (some false)
 else (Option.bind (b0X v) fun r2 =>
 Option.bind (iter (b1u r2 rec_value_validTree) ((r2.length:Int).toNat+1) 0) fun b6 =>
 onEnd (fun _ =>
 some true) (fun y8 =>
 some y8) b6)
def a2S:Nat->Val->Option Bool
 | 0=>fun _=>none
 | n+1=>a8t n (a2S n)
def a6c (n:Nat)(v:Val):Option Int :=
 Option.bind (a2S n v) fun r1 =>
 bif !r1
 then (some 1)
 else (some 0)
def c1i (kind:Int):Option Int :=
 bif kind==5
 then (some 2)
 else (bif kind==7
 then (some 3)
 else (bif kind==8
 then (some 4)
 else (bif kind==9
 then (some 5)
 else (bif kind==11
 then (some 6)
 else (some 9)))))
def a1e (s:List Key)(v:Key)(x1:Int):Option (Fl Int (Sum Unit Int)) :=
 bif decide (x1<(s.length:Int))
 then (Option.bind (idx s x1) fun e2 =>
 bif a6y v e2
 then (some (.done (.inr x1)))
 else (some (.next (wr .i64 (x1+1)))))
 else (some (.done (.inl ())))
def a3w (s:List Key)(v:Key):Option Int :=
 Option.bind (iter (a1e s v) ((s.length:Int).toNat+1) 0) fun b3 =>
 onEnd (fun _ =>
 some (-1)) (fun y5 =>
 some y5) b3
def a1d (s:List Key)(v:Key):Option Bool :=
 Option.bind (a3w s v) fun r1 =>
 some (decide (0<=r1))
def b2N (n_0:Api_TypeNode)(k:Key)(x1:Int):Option (Fl Int (Sum Unit Int)) :=
 bif decide (x1<(n_0.Fields.length:Int))
 then (Option.bind (idx n_0.Fields x1) fun e2 =>
 bif a6y e2.Key_ k
 then (some (.done (.inr e2.Node)))
 else (some (.next (wr .i64 (x1+1)))))
 else (some (.done (.inl ())))
def c0K (n_0:Api_TypeNode)(k:Key):Option Int :=
 Option.bind (iter (b2N n_0 k) ((n_0.Fields.length:Int).toNat+1) 0) fun b3 =>
 onEnd (fun _ =>
 bif k.Kind==0
 then (some n_0.Rest.1)
 else (bif k.Kind==1
 then (some n_0.Rest.2)
 else (none))) (fun y5 =>
 some y5) b3
def a8J (l:List Val)(t:Api_Type)(nodes:List Int)(rec_core_Has:Val->Api_Type->Int->Option Bool)(x1:Int):Option (Fl Int (Sum Unit Bool)) :=
 bif decide (x1<(l.length:Int))
 then (Option.bind (idx l x1) fun e2 =>
 Option.bind (idx nodes x1) fun e3 =>
 Option.bind (rec_core_Has e2 t e3) fun r4 =>
 bif !r4
 then (some (.done (.inr false)))
 else (some (.next (wr .i64 (x1+1)))))
 else (some (.done (.inl ())))
def a44 (v:Val)(t:Api_Type)(n_2:Api_TypeNode)(rec_core_EntryAllowed:Ent->Api_Type->Api_TypeNode->Option Bool)(x1:Int):Option (Fl Int (Sum Unit Bool)) :=
 bif decide (x1<(v.Entries.length:Int))
 then (Option.bind (idx v.Entries x1) fun e2 =>
 Option.bind (rec_core_EntryAllowed e2 t n_2) fun r3 =>
 bif !r3
 then (some (.done (.inr false)))
 else (some (.next (wr .i64 (x1+1)))))
 else (some (.done (.inl ())))
def a8d (v:Val)(n_2:Api_TypeNode)(x1:Int):Option (Fl Int (Sum Unit Bool)) :=
 bif decide (x1<(n_2.Fields.length:Int))
 then (Option.bind (idx n_2.Fields x1) fun e2 =>
 Option.bind (bif !e2.Optional
 then (Option.bind (a1d v.Keys e2.Key_) fun r3 =>
 some (!r3))
 else (some false)) fun q4 =>
 bif q4
 then (some (.done (.inr false)))
 else (some (.next (wr .i64 (x1+1)))))
 else (some (.done (.inl ())))
def a6n (v:Val)(t:Api_Type)(n_2:Api_TypeNode)(rec_core_Has:Val->Api_Type->Int->Option Bool)(x8:Int):Option (Fl Int (Sum Unit Bool)) :=
 bif decide (x8<(v.Keys.length:Int))
 then (Option.bind (idx v.Keys x8) fun e9 =>
 Option.bind (idx v.Kids x8) fun e10 =>
 Option.bind (c0K n_2 e9) fun r11 =>
 Option.bind (rec_core_Has e10 t r11) fun r12 =>
 bif !r12
 then (some (.done (.inr false)))
 else (some (.next (wr .i64 (x8+1)))))
 else (some (.done (.inl ())))
def a9s (_:Nat)(_:(List Val)->Api_Type->(List Int)->Option Bool)(_:Ent->Api_Type->Api_TypeNode->Option Bool)(_:Val->Api_Type->Api_TypeNode->Option Bool)(rec_core_Has:Val->Api_Type->Int->Option Bool)(_:Int->Val->Api_Type->Option Bool)(_:Int->Val->Api_Type->Option Bool)(_:Val->Api_Type->Api_TypeNode->Option Bool)(l:List Val)(t:Api_Type)(nodes:List Int):Option Bool :=
 bif (l.length:Int) != (nodes.length:Int)
 then (some false)
 else (Option.bind (iter (a8J l t nodes rec_core_Has) ((l.length:Int).toNat+1) 0) fun b5 =>
 onEnd (fun _ =>
 some true) (fun y7 =>
 some y7) b5)
def a7i (_:Nat)(rec_core_all:(List Val)->Api_Type->(List Int)->Option Bool)(_:Ent->Api_Type->Api_TypeNode->Option Bool)(_:Val->Api_Type->Api_TypeNode->Option Bool)(rec_core_Has:Val->Api_Type->Int->Option Bool)(_:Int->Val->Api_Type->Option Bool)(_:Int->Val->Api_Type->Option Bool)(_:Val->Api_Type->Api_TypeNode->Option Bool)(e:Ent)(t:Api_Type)(n_2:Api_TypeNode):Option Bool :=
 Option.bind (cut n_2.Kids 0 (wr .i64 ((n_2.Kids.length:Int)-1))) fun y1 =>
 Option.bind (rec_core_all e.Args t y1) fun r2 =>
 Option.bind (bif !r2
 then (some true)
 else (Option.bind (bif !e.Fails
 then (Option.bind (idx n_2.Kids (wr .i64 ((n_2.Kids.length:Int)-1))) fun e3 =>
 Option.bind (rec_core_Has e.Result t e3) fun r4 =>
 some r4)
 else (some false)) fun q5 =>
 some q5)) fun q6 =>
 some q6
def a7P (_:Nat)(_:(List Val)->Api_Type->(List Int)->Option Bool)(rec_core_EntryAllowed:Ent->Api_Type->Api_TypeNode->Option Bool)(_:Val->Api_Type->Api_TypeNode->Option Bool)(_:Val->Api_Type->Int->Option Bool)(_:Int->Val->Api_Type->Option Bool)(_:Int->Val->Api_Type->Option Bool)(_:Val->Api_Type->Api_TypeNode->Option Bool)(v:Val)(t:Api_Type)(n_2:Api_TypeNode):Option Bool :=
 bif v.Int_ != (wr .i64 ((n_2.Kids.length:Int)-1))
 then (some false)
 else (Option.bind (iter (a44 v t n_2 rec_core_EntryAllowed) ((v.Entries.length:Int).toNat+1) 0) fun b4 =>
 onEnd (fun _ =>
 some true) (fun y6 =>
 some y6) b4)
def b8q (_:Nat)(rec_core_all:(List Val)->Api_Type->(List Int)->Option Bool)(_:Ent->Api_Type->Api_TypeNode->Option Bool)(rec_core_functionHas:Val->Api_Type->Api_TypeNode->Option Bool)(rec_core_Has:Val->Api_Type->Int->Option Bool)(rec_core_Has_1:Int->Val->Api_Type->Option Bool)(rec_core_Has_2:Int->Val->Api_Type->Option Bool)(rec_core_mapHas:Val->Api_Type->Api_TypeNode->Option Bool)(d:Val)(t:Api_Type)(a2_2:Int):Option Bool :=
 Option.bind (idx t.Nodes a2_2) fun e1 =>
 bif e1.Kind==2
 then (some true)
 else (bif e1.Kind==3
 then (Option.bind (bif d.Kind==1
 then (some (decide (e1.Lo<=d.Int_)))
 else (some false)) fun q2 =>
 Option.bind (bif q2
 then (some (decide (d.Int_<=e1.Hi)))
 else (some false)) fun q3 =>
 some q3)
 else (bif e1.Kind==4
 then (Option.bind (bif d.Kind==2
 then (some (Z6 d.Text e1.Text))
 else (some false)) fun q4 =>
 some q4)
 else (bif e1.Kind==6
 then (Option.bind (bif d.Kind==3
 then (some (Z6 d.Text e1.Text))
 else (some false)) fun q5 =>
 some q5)
 else (Option.bind (bif e1.Kind==5
 then (some (e1.Kind==5))
 else (bif e1.Kind==7
 then (some (e1.Kind==7))
 else (bif e1.Kind==8
 then (some (e1.Kind==8))
 else (bif e1.Kind==9
 then (some (e1.Kind==9))
 else (bif e1.Kind==11
 then (some (e1.Kind==11))
 else (some (e1.Kind==15))))))) fun b6 =>
 bif b6
 then (Option.bind (c1i e1.Kind) fun r7 =>
 some (d.Kind==r7))
 else (bif e1.Kind==10
 then (Option.bind (bif d.Kind==6
 then (Option.bind (rec_core_all d.Kids t e1.Kids) fun r8 =>
 some r8)
 else (some false)) fun q9 =>
 some q9)
 else (bif e1.Kind==12
 then (Option.bind (bif d.Kind==7
 then (Option.bind (rec_core_all d.Kids t e1.Kids) fun r10 =>
 some r10)
 else (some false)) fun q11 =>
 some q11)
 else (bif e1.Kind==13
 then (Option.bind (bif d.Kind==8
 then (Option.bind (rec_core_mapHas d t e1) fun r12 =>
 some r12)
 else (some false)) fun q13 =>
 some q13)
 else (bif e1.Kind==14
 then (Option.bind (bif d.Kind==9
 then (Option.bind (rec_core_functionHas d t e1) fun r14 =>
 some r14)
 else (some false)) fun q15 =>
 some q15)
 else (bif e1.Kind==16
 then (Option.bind (Z9 e1.Kids (fun z16 =>
 Option.bind (rec_core_Has_1 z16 d t) fun r17 =>
 some r17)) fun r18 =>
 some r18)
 else (bif e1.Kind==17
 then (Option.bind (Z9 e1.Kids (fun z19 =>
 Option.bind (rec_core_Has_2 z19 d t) fun r20 =>
 some r20)) fun r21 =>
 some (!r21))
 else (bif e1.Kind==18
 then (Option.bind (idx e1.Kids 0) fun e22 =>
 Option.bind (rec_core_Has d t e22) fun r23 =>
 some (!r23))
 else (bif e1.Kind==19
 then (Option.bind (K9 d.Labels e1.Text) fun r24 =>
 some r24)
 else (some false)))))))))))))
def b3Y (_:Nat)(_:(List Val)->Api_Type->(List Int)->Option Bool)(_:Ent->Api_Type->Api_TypeNode->Option Bool)(_:Val->Api_Type->Api_TypeNode->Option Bool)(rec_core_Has:Val->Api_Type->Int->Option Bool)(_:Int->Val->Api_Type->Option Bool)(_:Int->Val->Api_Type->Option Bool)(_:Val->Api_Type->Api_TypeNode->Option Bool)(k:Int)(a1_1:Val)(a2_2:Api_Type):Option Bool :=
 Option.bind (rec_core_Has a1_1 a2_2 k) fun r1 =>
 some r1
def b3p (_:Nat)(_:(List Val)->Api_Type->(List Int)->Option Bool)(_:Ent->Api_Type->Api_TypeNode->Option Bool)(_:Val->Api_Type->Api_TypeNode->Option Bool)(rec_core_Has:Val->Api_Type->Int->Option Bool)(_:Int->Val->Api_Type->Option Bool)(_:Int->Val->Api_Type->Option Bool)(_:Val->Api_Type->Api_TypeNode->Option Bool)(k:Int)(a1_1:Val)(a2_2:Api_Type):Option Bool :=
 Option.bind (rec_core_Has a1_1 a2_2 k) fun r1 =>
 some (!r1)
def b1J (_:Nat)(_:(List Val)->Api_Type->(List Int)->Option Bool)(_:Ent->Api_Type->Api_TypeNode->Option Bool)(_:Val->Api_Type->Api_TypeNode->Option Bool)(rec_core_Has:Val->Api_Type->Int->Option Bool)(_:Int->Val->Api_Type->Option Bool)(_:Int->Val->Api_Type->Option Bool)(_:Val->Api_Type->Api_TypeNode->Option Bool)(v:Val)(t:Api_Type)(n_2:Api_TypeNode):Option Bool :=
 Option.bind (iter (a8d v n_2) ((n_2.Fields.length:Int).toNat+1) 0) fun b5 =>
 onEnd (fun _ =>
 Option.bind (iter (a6n v t n_2 rec_core_Has) ((v.Keys.length:Int).toNat+1) 0) fun b13 =>
 onEnd (fun _ =>
 some true) (fun y15 =>
 some y15) b13) (fun y7 =>
 some y7) b5
def j7:Nat->((List Val)->Api_Type->(List Int)->Option Bool)×(Ent->Api_Type->Api_TypeNode->Option Bool)×(Val->Api_Type->Api_TypeNode->Option Bool)×(Val->Api_Type->Int->Option Bool)×(Int->Val->Api_Type->Option Bool)×(Int->Val->Api_Type->Option Bool)×(Val->Api_Type->Api_TypeNode->Option Bool)
 | 0=>(fun _ _ _=>none,fun _ _ _=>none,fun _ _ _=>none,fun _ _ _=>none,fun _ _ _=>none,fun _ _ _=>none,fun _ _ _=>none)
 | n+1=>(a9s n ((j7 n).1) ((j7 n).2.1) ((j7 n).2.2.1) ((j7 n).2.2.2.1) ((j7 n).2.2.2.2.1) ((j7 n).2.2.2.2.2.1) ((j7 n).2.2.2.2.2.2),a7i n ((j7 n).1) ((j7 n).2.1) ((j7 n).2.2.1) ((j7 n).2.2.2.1) ((j7 n).2.2.2.2.1) ((j7 n).2.2.2.2.2.1) ((j7 n).2.2.2.2.2.2),a7P n ((j7 n).1) ((j7 n).2.1) ((j7 n).2.2.1) ((j7 n).2.2.2.1) ((j7 n).2.2.2.2.1) ((j7 n).2.2.2.2.2.1) ((j7 n).2.2.2.2.2.2),b8q n ((j7 n).1) ((j7 n).2.1) ((j7 n).2.2.1) ((j7 n).2.2.2.1) ((j7 n).2.2.2.2.1) ((j7 n).2.2.2.2.2.1) ((j7 n).2.2.2.2.2.2),b3Y n ((j7 n).1) ((j7 n).2.1) ((j7 n).2.2.1) ((j7 n).2.2.2.1) ((j7 n).2.2.2.2.1) ((j7 n).2.2.2.2.2.1) ((j7 n).2.2.2.2.2.2),b3p n ((j7 n).1) ((j7 n).2.1) ((j7 n).2.2.1) ((j7 n).2.2.2.1) ((j7 n).2.2.2.2.1) ((j7 n).2.2.2.2.2.1) ((j7 n).2.2.2.2.2.2),b1J n ((j7 n).1) ((j7 n).2.1) ((j7 n).2.2.1) ((j7 n).2.2.2.1) ((j7 n).2.2.2.2.1) ((j7 n).2.2.2.2.2.1) ((j7 n).2.2.2.2.2.2))
def a5P (n:Nat):(List Val)->Api_Type->(List Int)->Option Bool:=(j7 n).1
def X0 (n:Nat):Ent->Api_Type->Api_TypeNode->Option Bool:=(j7 n).2.1
def a0s (n:Nat):Val->Api_Type->Api_TypeNode->Option Bool:=(j7 n).2.2.1
def a0d (n:Nat):Val->Api_Type->Int->Option Bool:=(j7 n).2.2.2.1
def a3B (n:Nat):Int->Val->Api_Type->Option Bool:=(j7 n).2.2.2.2.1
def a3D (n:Nat):Int->Val->Api_Type->Option Bool:=(j7 n).2.2.2.2.2.1
def a2K (n:Nat):Val->Api_Type->Api_TypeNode->Option Bool:=(j7 n).2.2.2.2.2.2
def b1P (n:Nat)(i:Int)(a1_1:Val)(a2_2:Api_Type):Option Bool :=
 Option.bind (a0d n a1_1 a2_2 i) fun r1 =>
 some (!r1)
def b1O (n:Nat)(i:Int)(a1_1:Val)(a2_2:Api_Type):Option Bool :=
 Option.bind (a0d n a1_1 a2_2 i) fun r1 =>
 some r1
def a8D (n:Nat)(v:Val)(t:Api_Type)(pos:List Int)(neg:List Int):Option Bool :=
 Option.bind (Z9 pos (fun z1 =>
 Option.bind (b1P n z1 v t) fun r2 =>
 some r2)) fun r3 =>
 Option.bind (bif !r3
 then (Option.bind (Z9 neg (fun z4 =>
 Option.bind (b1O n z4 v t) fun r5 =>
 some r5)) fun r6 =>
 some (!r6))
 else (some false)) fun q7 =>
 some q7
def a4Z (n:Nat)(v:Val)(t:Api_Type)(g:Api_Goal):Option Bool :=
 Option.bind (a6c n v) fun r1 =>
 Option.bind (bif r1 != 0
 then (some true)
 else (Option.bind (a0A n t) fun r2 =>
 some (r2 != 0))) fun q3 =>
 Option.bind (bif q3
 then (some true)
 else (Option.bind (a5L t g) fun r4 =>
 some (!r4))) fun q5 =>
 bif q5
 then (some false)
 else (Option.bind (bif g.Lists
 then (some (v.Kind != 5))
 else (some false)) fun q6 =>
 Option.bind (bif q6
 then (some (v.Kind != 7))
 else (some false)) fun q7 =>
 bif q7
 then (some false)
 else (Option.bind (a8D n v t g.Pos g.Neg) fun r8 =>
 some r8))
def a9w (g:Api_Goal):Option Api_Goal :=
 Option.bind (a7e g) fun r1 =>
 some r1
noncomputable def a24 (n:Nat):Option Bool :=
 Option.bind (a7d n (Api_Type.mk ([Api_TypeNode.mk 16 0 0 (⟨#[]⟩:ByteArray) ([1,2]:List Int) ([]:List Api_Field) (0,0),Api_TypeNode.mk 3 0 9 (⟨#[]⟩:ByteArray) ([]:List Int) ([]:List Api_Field) (0,0),Api_TypeNode.mk 9 0 0 (⟨#[]⟩:ByteArray) ([]:List Int) ([]:List Api_Field) (0,0)]:List Api_TypeNode) 0) (Api_Goal.mk ([0]:List Int) ([]:List Int) false)) fun r1 =>
 Option.bind (bif decide (0<(r1.length:Int))
 then (Option.bind (a16 3) fun r2 =>
 Option.bind (a4Z n r2 (Api_Type.mk ([Api_TypeNode.mk 16 0 0 (⟨#[]⟩:ByteArray) ([1,2]:List Int) ([]:List Api_Field) (0,0),Api_TypeNode.mk 3 0 9 (⟨#[]⟩:ByteArray) ([]:List Int) ([]:List Api_Field) (0,0),Api_TypeNode.mk 9 0 0 (⟨#[]⟩:ByteArray) ([]:List Int) ([]:List Api_Field) (0,0)]:List Api_TypeNode) 0) (Api_Goal.mk ([0]:List Int) ([]:List Int) false)) fun r3 =>
 some r3)
 else (some false)) fun q4 =>
 Option.bind (bif q4
 then (Option.bind (a16 10) fun r5 =>
 Option.bind (a4Z n r5 (Api_Type.mk ([Api_TypeNode.mk 16 0 0 (⟨#[]⟩:ByteArray) ([1,2]:List Int) ([]:List Api_Field) (0,0),Api_TypeNode.mk 3 0 9 (⟨#[]⟩:ByteArray) ([]:List Int) ([]:List Api_Field) (0,0),Api_TypeNode.mk 9 0 0 (⟨#[]⟩:ByteArray) ([]:List Int) ([]:List Api_Field) (0,0)]:List Api_TypeNode) 0) (Api_Goal.mk ([0]:List Int) ([]:List Int) false)) fun r6 =>
 some (!r6))
 else (some false)) fun q7 =>
 bif q7
 then (Option.bind (a9w (Api_Goal.mk ([2,1,2]:List Int) ([]:List Int) false)) fun r8 =>
 some ((r8.Pos.length:Int)==2))
 else (some false)
def z8 (s:Semtypebase_Source)(n_1:Int):Option (Int×Semtypebase_Source) :=
 Option.bind (bif decide (n_1<1)
 then (some true)
 else (some (decide ((s.L.length:Int)<=s.At)))) fun q1 =>
 bif q1
 then (some (0,s))
 else (Option.bind (idx s.L s.At) fun e2 =>
 Option.bind (c2i e2 n_1) fun d3 =>
 bif decide (d3<0)
 then (some (wr .i64 (d3+n_1),Semtypebase_Source.mk s.L (wr .i64 (s.At+1))))
 else (some (d3,Semtypebase_Source.mk s.L (wr .i64 (s.At+1)))))
def V9 (s:Semtypebase_Source):Option (ByteArray×Semtypebase_Source) :=
 Option.bind (z8 s 4) fun r1 =>
 Option.bind (idx ([(⟨#[97]⟩:ByteArray),(⟨#[98]⟩:ByteArray),(⟨#[111,107]⟩:ByteArray),(⟨#[101,114,114,111,114]⟩:ByteArray)]:List ByteArray) r1.1) fun _ =>
 Option.bind (([(⟨#[97]⟩:ByteArray),(⟨#[98]⟩:ByteArray),(⟨#[111,107]⟩:ByteArray),(⟨#[101,114,114,111,114]⟩:ByteArray)]:List ByteArray)[r1.1.toNat]?) fun e3 =>
 some (e3,r1.2)
def a0m (s:Semtypebase_Source):Option (ByteArray×Semtypebase_Source) :=
 Option.bind (z8 s 4) fun r1 =>
 Option.bind (idx ([(⟨#[]⟩:ByteArray),(⟨#[115]⟩:ByteArray),(⟨#[120,32,121]⟩:ByteArray),(⟨#[97]⟩:ByteArray)]:List ByteArray) r1.1) fun _ =>
 Option.bind (([(⟨#[]⟩:ByteArray),(⟨#[115]⟩:ByteArray),(⟨#[120,32,121]⟩:ByteArray),(⟨#[97]⟩:ByteArray)]:List ByteArray)[r1.1.toNat]?) fun e3 =>
 some (e3,r1.2)
def a0O (s:Semtypebase_Source):Option (ByteArray×Semtypebase_Source) :=
 Option.bind (z8 s 3) fun r1 =>
 Option.bind (idx ([(⟨#[65]⟩:ByteArray),(⟨#[66]⟩:ByteArray),(⟨#[67]⟩:ByteArray)]:List ByteArray) r1.1) fun _ =>
 Option.bind (([(⟨#[65]⟩:ByteArray),(⟨#[66]⟩:ByteArray),(⟨#[67]⟩:ByteArray)]:List ByteArray)[r1.1.toNat]?) fun e3 =>
 some (e3,r1.2)
def a1A (from_:Int)(n_3:Int)(x1:Int×(List Int)×Semtypebase_Source):Option (Fl (Int×(List Int)×Semtypebase_Source) ((List Int)×Semtypebase_Source)) :=
 bif decide (0<x1.1)
 then (Option.bind (z8 x1.2.2 (wr .i64 (n_3-from_))) fun r2 =>
 Option.bind (Z8 (x1.2.1.length+([wr .i64 (from_+r2.1)]:List Int).length) 8) fun _ =>
 some (.next (wr .i64 (x1.1-1),x1.2.1++([wr .i64 (from_+r2.1)]:List Int),r2.2)))
 else (some (.done (x1.2.1,x1.2.2)))
def k9 (s:Semtypebase_Source)(many:Int)(from_:Int)(n_3:Int):Option ((List Int)×Semtypebase_Source) :=
 Option.bind (iter (a1A from_ n_3) (many.toNat+2) (many,[],s)) fun b4 =>
 some (b4.1,b4.2)
def X1 (n_1:Int)(x3:Int×Semtypebase_Source×(Int×Int×Int×ByteArray×(List Int)×(List Api_Field)×Int×Int)):Option (Fl (Int×Semtypebase_Source×(Int×Int×Int×ByteArray×(List Int)×(List Api_Field)×Int×Int)) (Semtypebase_Source×(Int×Int×Int×ByteArray×(List Int)×(List Api_Field)×Int×Int))) :=
 bif decide (x3.1<3)
 then (Option.bind (Option.bind (z8 x3.2.1 2) fun r4 =>
 bif r4.1==1
 then (Option.bind (idx ([Key.mk 0 (⟨#[97]⟩:ByteArray),Key.mk 0 (⟨#[98]⟩:ByteArray),Key.mk 1 (⟨#[115]⟩:ByteArray)]:List Key) x3.1) fun e5 =>
 Option.bind (z8 r4.2 n_1) fun r6 =>
 Option.bind (z8 r6.2 2) fun r7 =>
 Option.bind (Z8 (x3.2.2.2.2.2.2.2.1.length+([Api_Field.mk e5 r6.1 (r7.1==1)]:List Api_Field).length) 40) fun _ =>
 some (r7.2,(x3.2.2.1,x3.2.2.2.1,x3.2.2.2.2.1,x3.2.2.2.2.2.1,x3.2.2.2.2.2.2.1,x3.2.2.2.2.2.2.2.1++([Api_Field.mk e5 r6.1 (r7.1==1)]:List Api_Field),x3.2.2.2.2.2.2.2.2.1,x3.2.2.2.2.2.2.2.2.2)))
 else (some (r4.2,(x3.2.2.1,x3.2.2.2.1,x3.2.2.2.2.1,x3.2.2.2.2.2.1,x3.2.2.2.2.2.2.1,x3.2.2.2.2.2.2.2.1,x3.2.2.2.2.2.2.2.2.1,x3.2.2.2.2.2.2.2.2.2)))) fun b9 =>
 some (.next (wr .i64 (x3.1+1),b9.1,(b9.2.1,b9.2.2.1,b9.2.2.2.1,b9.2.2.2.2.1,b9.2.2.2.2.2.1,b9.2.2.2.2.2.2.1,b9.2.2.2.2.2.2.2.1,b9.2.2.2.2.2.2.2.2))))
 else (some (.done (x3.2.1,(x3.2.2.1,x3.2.2.2.1,x3.2.2.2.2.1,x3.2.2.2.2.2.1,x3.2.2.2.2.2.2.1,x3.2.2.2.2.2.2.2.1,x3.2.2.2.2.2.2.2.2.1,x3.2.2.2.2.2.2.2.2.2))))
def a2p (s:Semtypebase_Source)(n_1:Int):Option (Api_TypeNode×Semtypebase_Source) :=
 Option.bind (z8 s n_1) fun r1 =>
 Option.bind (z8 r1.2 n_1) fun r2 =>
 Option.bind (iter (X1 n_1) ((3:Int).toNat+1) (0,r2.2,(13,0,0,(⟨#[]⟩:ByteArray),[],[],r1.1,r2.1))) fun b10 =>
 some (Api_TypeNode.mk b10.2.1 b10.2.2.1 b10.2.2.2.1 b10.2.2.2.2.1 b10.2.2.2.2.2.1 b10.2.2.2.2.2.2.1 (b10.2.2.2.2.2.2.2.1,b10.2.2.2.2.2.2.2.2),b10.1)
def a3i (d:Semtypebase_Source)(t:Int)(a2_2:Int):Option (Api_TypeNode×Semtypebase_Source) :=
 Option.bind (bif t==(wr .i64 (a2_2-1))
 then (some 14)
 else (some 18)) fun b1 =>
 Option.bind (z8 d b1) fun r2 =>
 bif r2.1==0
 then (Option.bind (z8 r2.2 5) fun r3 =>
 Option.bind (idx ([(-9223372036854775808),0,1,2,9223372036854775807]:List Int) r3.1) fun _ =>
 Option.bind (([(-9223372036854775808),0,1,2,9223372036854775807]:List Int)[r3.1.toNat]?) fun e5 =>
 Option.bind (z8 r3.2 (wr .i64 (5-r3.1))) fun r6 =>
 Option.bind (idx ([(-9223372036854775808),0,1,2,9223372036854775807]:List Int) (wr .i64 (r3.1+r6.1))) fun _ =>
 Option.bind (([(-9223372036854775808),0,1,2,9223372036854775807]:List Int)[(wr .i64 (r3.1+r6.1)).toNat]?) fun e8 =>
 some (Api_TypeNode.mk 3 e5 e8 (⟨#[]⟩:ByteArray) ([]:List Int) ([]:List Api_Field) (0,0),r6.2))
 else (bif r2.1==1
 then (Option.bind (V9 r2.2) fun r9 =>
 some (Api_TypeNode.mk 6 0 0 r9.1 ([]:List Int) ([]:List Api_Field) (0,0),r9.2))
 else (bif r2.1==2
 then (some (Api_TypeNode.mk 7 0 0 (⟨#[]⟩:ByteArray) ([]:List Int) ([]:List Api_Field) (0,0),r2.2))
 else (bif r2.1==3
 then (Option.bind (a0m r2.2) fun r10 =>
 some (Api_TypeNode.mk 4 0 0 r10.1 ([]:List Int) ([]:List Api_Field) (0,0),r10.2))
 else (bif r2.1==4
 then (Option.bind (z8 r2.2 4) fun r11 =>
 Option.bind (idx ([5,8,11,15]:List Int) r11.1) fun _ =>
 Option.bind (([5,8,11,15]:List Int)[r11.1.toNat]?) fun e13 =>
 some (Api_TypeNode.mk e13 0 0 (⟨#[]⟩:ByteArray) ([]:List Int) ([]:List Api_Field) (0,0),r11.2))
 else (bif r2.1==5
 then (some (Api_TypeNode.mk 9 0 0 (⟨#[]⟩:ByteArray) ([]:List Int) ([]:List Api_Field) (0,0),r2.2))
 else (bif r2.1==6
 then (Option.bind (z8 r2.2 2) fun r14 =>
 Option.bind (idx ([2,1]:List Int) r14.1) fun _ =>
 Option.bind (([2,1]:List Int)[r14.1.toNat]?) fun e16 =>
 some (Api_TypeNode.mk e16 0 0 (⟨#[]⟩:ByteArray) ([]:List Int) ([]:List Api_Field) (0,0),r14.2))
 else (bif r2.1==7
 then (Option.bind (a0O r2.2) fun r17 =>
 some (Api_TypeNode.mk 19 0 0 r17.1 ([]:List Int) ([]:List Api_Field) (0,0),r17.2))
 else (Option.bind (bif r2.1==8
 then (some (r2.1==8))
 else (some (r2.1==9))) fun b18 =>
 bif b18
 then (Option.bind (z8 r2.2 3) fun r19 =>
 Option.bind (k9 r19.2 r19.1 0 a2_2) fun r20 =>
 some (Api_TypeNode.mk 10 0 0 (⟨#[]⟩:ByteArray) r20.1 ([]:List Api_Field) (0,0),r20.2))
 else (bif r2.1==10
 then (Option.bind (k9 r2.2 2 0 a2_2) fun r21 =>
 some (Api_TypeNode.mk 12 0 0 (⟨#[]⟩:ByteArray) r21.1 ([]:List Api_Field) (0,0),r21.2))
 else (bif r2.1==11
 then (Option.bind (a2p r2.2 a2_2) fun r22 =>
 some (r22.1,r22.2))
 else (Option.bind (bif r2.1==12
 then (some (r2.1==12))
 else (some (r2.1==13))) fun b23 =>
 bif b23
 then (Option.bind (z8 r2.2 3) fun r24 =>
 Option.bind (k9 r24.2 (wr .i64 (1+r24.1)) 0 a2_2) fun r25 =>
 some (Api_TypeNode.mk 14 0 0 (⟨#[]⟩:ByteArray) r25.1 ([]:List Api_Field) (0,0),r25.2))
 else (bif r2.1==14
 then (Option.bind (k9 r2.2 1 (wr .i64 (t+1)) a2_2) fun r26 =>
 some (Api_TypeNode.mk 18 0 0 (⟨#[]⟩:ByteArray) r26.1 ([]:List Api_Field) (0,0),r26.2))
 else (bif r2.1==15
 then (Option.bind (k9 r2.2 2 (wr .i64 (t+1)) a2_2) fun r27 =>
 some (Api_TypeNode.mk 17 0 0 (⟨#[]⟩:ByteArray) r27.1 ([]:List Api_Field) (0,0),r27.2))
 else (Option.bind (z8 r2.2 2) fun r28 =>
 Option.bind (k9 r28.2 (wr .i64 (2+r28.1)) (wr .i64 (t+1)) a2_2) fun r29 =>
 some (Api_TypeNode.mk 16 0 0 (⟨#[]⟩:ByteArray) r29.1 ([]:List Api_Field) (0,0),r29.2)))))))))))))))
def a08 (n_1:Int)(x1:Int×Semtypebase_Source×((List Api_TypeNode)×Int)):Option (Fl (Int×Semtypebase_Source×((List Api_TypeNode)×Int)) (Semtypebase_Source×((List Api_TypeNode)×Int))) :=
 bif decide (x1.1<(max n_1 1))
 then (Option.bind (a3i x1.2.1 x1.1 (max n_1 1)) fun r2 =>
 Option.bind (Z8 (x1.2.2.1.length+([r2.1]:List Api_TypeNode).length) 104) fun _ =>
 some (.next (wr .i64 (x1.1+1),r2.2,(x1.2.2.1++([r2.1]:List Api_TypeNode),x1.2.2.2))))
 else (some (.done (x1.2.1,(x1.2.2.1,x1.2.2.2))))
def a1U (s:Semtypebase_Source)(n_1:Int):Option (Api_Type×Semtypebase_Source) :=
 Option.bind (iter (a08 n_1) ((max n_1 1).toNat+1) (0,s,([],0))) fun b4 =>
 some (Api_Type.mk b4.2.1 b4.2.2,b4.1)
def a0u (s:Semtypebase_Source):Option (Int×Semtypebase_Source) :=
 Option.bind (z8 s 10) fun r1 =>
 Option.bind (idx ([0,1,(-1),2,3,(-2),7,(-9223372036854775808),9223372036854775807,10]:List Int) r1.1) fun _ =>
 Option.bind (([0,1,(-1),2,3,(-2),7,(-9223372036854775808),9223372036854775807,10]:List Int)[r1.1.toNat]?) fun e3 =>
 some (e3,r1.2)
def a3v (s:ByteArray):Option Val :=
 some (Val.mk 3 0 s ([]:List Val) ([]:List Key) ([]:List Ent) ([]:List ByteArray))
def a2t (s:ByteArray):Option Val :=
 some (Val.mk 2 0 s ([]:List Val) ([]:List Key) ([]:List Ent) ([]:List ByteArray))
def a5J (n_0:Int):Option Val :=
 some (Val.mk 4 n_0 (⟨#[]⟩:ByteArray) ([]:List Val) ([]:List Key) ([]:List Ent) ([]:List ByteArray))
def W4:Option Val :=
 some (Val.mk 5 0 (⟨#[]⟩:ByteArray) ([]:List Val) ([]:List Key) ([]:List Ent) ([]:List ByteArray))
def a1G (l:List Val):Option (List Val) :=
 Option.bind (Z8 (0+l.length) 128) fun _ =>
 some l
def a1Y (l:List Val):Option Val :=
 Option.bind (a1G l) fun r1 =>
 some (Val.mk 6 0 (⟨#[]⟩:ByteArray) r1 ([]:List Key) ([]:List Ent) ([]:List ByteArray))
def J0 (s:Semtypebase_Source):Option (Val×Semtypebase_Source) :=
 Option.bind (z8 s 6) fun r1 =>
 bif r1.1==0
 then (Option.bind (a0u r1.2) fun r2 =>
 Option.bind (a16 r2.1) fun r3 =>
 some (r3,r2.2))
 else (bif r1.1==1
 then (Option.bind (V9 r1.2) fun r4 =>
 Option.bind (a3v r4.1) fun r5 =>
 some (r5,r4.2))
 else (bif r1.1==2
 then (Option.bind (a0m r1.2) fun r6 =>
 Option.bind (a2t r6.1) fun r7 =>
 some (r7,r6.2))
 else (bif r1.1==3
 then (Option.bind (z8 r1.2 3) fun r8 =>
 Option.bind (a5J r8.1) fun r9 =>
 some (r9,r8.2))
 else (bif r1.1==4
 then (Option.bind (W4) fun r10 =>
 some (r10,r1.2))
 else (Option.bind (a1Y ([]:List Val)) fun r11 =>
 some (r11,r1.2))))))
def a27 (c:Int):Option Bool :=
 Option.bind (bif decide (97<=c)
 then (some (decide (c<=122)))
 else (some false)) fun q1 =>
 some q1
def a4f (c:Int):Option Bool :=
 Option.bind (bif decide (48<=c)
 then (some (decide (c<=57)))
 else (some false)) fun q1 =>
 some q1
def a6f (s:ByteArray)(x5:Int):Option (Fl Int (Sum Unit Bool)) :=
 bif decide (x5<(s.size:Int))
 then (Option.bind (a6X s x5) fun e6 =>
 Option.bind (a27 (e6.toNat:Int)) fun r7 =>
 Option.bind (bif !r7
 then (Option.bind (a6X s x5) fun e8 =>
 Option.bind (a4f (e8.toNat:Int)) fun r9 =>
 some (!r9))
 else (some false)) fun q10 =>
 Option.bind (bif q10
 then (Option.bind (a6X s x5) fun e11 =>
 some ((e11.toNat:Int) != 95))
 else (some false)) fun q12 =>
 bif q12
 then (some (.done (.inr false)))
 else (some (.next (wr .i64 (x5+1)))))
 else (some (.done (.inl ())))
def a2u (s:ByteArray):Option Bool :=
 Option.bind (bif decide ((s.size:Int)<1)
 then (some true)
 else (some (decide (16<(s.size:Int))))) fun q1 =>
 Option.bind (bif q1
 then (some true)
 else (Option.bind (a6X s 0) fun e2 =>
 Option.bind (a27 (e2.toNat:Int)) fun r3 =>
 some (!r3))) fun q4 =>
 bif q4
 then (some false)
 else (Option.bind (iter (a6f s) ((s.size:Int).toNat+1) 1) fun b13 =>
 onEnd (fun _ =>
 some true) (fun y15 =>
 some y15) b13)
def a1Q (k:Key):Option Bool :=
 Option.bind (bif k.Kind==0
 then (Option.bind (a2u k.Text) fun r1 =>
 some r1)
 else (some false)) fun q2 =>
 Option.bind (bif q2
 then (some true)
 else (Option.bind (bif k.Kind==1
 then (some (decide ((k.Text.size:Int)<=64)))
 else (some false)) fun q3 =>
 some q3)) fun q4 =>
 some q4
def a3c (a:Int)(b:Int):Option Int :=
 bif decide (a<b)
 then (some (-1))
 else (bif decide (b<a)
 then (some 1)
 else (some 0))
def a1B (a:ByteArray)(b:ByteArray):Option Int :=
 bif a2M a b
 then (some (-1))
 else (bif !(a2M a b||Z6 a b)
 then (some 1)
 else (some 0))
def W7 (a:Key)(b:Key):Option Int :=
 bif a.Kind != b.Kind
 then (Option.bind (a3c a.Kind b.Kind) fun r1 =>
 some r1)
 else (Option.bind (a1B a.Text b.Text) fun r2 =>
 some r2)
def a1C (d:List Key)(x1:Int×(Int×Int×ByteArray×(List Val)×(List Key)×(List Ent)×(List ByteArray))):Option (Fl (Int×(Int×Int×ByteArray×(List Val)×(List Key)×(List Ent)×(List ByteArray))) (Sum (Int×Int×ByteArray×(List Val)×(List Key)×(List Ent)×(List ByteArray)) (Int×(Int×Int×ByteArray×(List Val)×(List Key)×(List Ent)×(List ByteArray))))) :=
 bif decide (x1.1<(d.length:Int))
 then (Option.bind (idx d x1.1) fun e2 =>
 Option.bind (a1Q e2) fun r3 =>
 bif !r3
 then (some (.done (.inr (1,(0,0,(⟨#[]⟩:ByteArray),[],[],[],[])))))
 else (some (.next (wr .i64 (x1.1+1),(x1.2.1,x1.2.2.1,x1.2.2.2.1,x1.2.2.2.2.1,x1.2.2.2.2.2.1,x1.2.2.2.2.2.2.1,x1.2.2.2.2.2.2.2)))))
 else (some (.done (.inl (x1.2.1,x1.2.2.1,x1.2.2.2.1,x1.2.2.2.2.1,x1.2.2.2.2.2.1,x1.2.2.2.2.2.2.1,x1.2.2.2.2.2.2.2))))
def a5D (d:List Key)(x7:Int×(Int×Int×ByteArray×(List Val)×(List Key)×(List Ent)×(List ByteArray))×(Int×Int×ByteArray×(List Val)×(List Key)×(List Ent)×(List ByteArray)))(x8:Int):Option (Fl Int Int) :=
 Option.bind (bif decide (x8<(x7.2.2.2.2.2.2.1.length:Int))
 then (Option.bind (idx x7.2.2.2.2.2.2.1 x8) fun e9 =>
 Option.bind (idx d x7.1) fun e10 =>
 Option.bind (W7 e9 e10) fun r11 =>
 some (decide (r11<0)))
 else (some false)) fun q12 =>
 bif q12
 then (some (.next (wr .i64 (x8+1))))
 else (some (.done x8))
def a0V (d:List Key)(t:List Val)(x7:Int×(Int×Int×ByteArray×(List Val)×(List Key)×(List Ent)×(List ByteArray))×(Int×Int×ByteArray×(List Val)×(List Key)×(List Ent)×(List ByteArray))):Option (Fl (Int×(Int×Int×ByteArray×(List Val)×(List Key)×(List Ent)×(List ByteArray))×(Int×Int×ByteArray×(List Val)×(List Key)×(List Ent)×(List ByteArray))) (Sum ((Int×Int×ByteArray×(List Val)×(List Key)×(List Ent)×(List ByteArray))×(Int×Int×ByteArray×(List Val)×(List Key)×(List Ent)×(List ByteArray))) (Int×(Int×Int×ByteArray×(List Val)×(List Key)×(List Ent)×(List ByteArray))×(Int×Int×ByteArray×(List Val)×(List Key)×(List Ent)×(List ByteArray))))) :=
 bif decide (x7.1<(d.length:Int))
 then (Option.bind (iter (a5D d x7) ((x7.2.2.2.2.2.2.1.length:Int).toNat+1) 0) fun b13 =>
 Option.bind (bif decide (b13<(x7.2.2.2.2.2.2.1.length:Int))
 then (Option.bind (idx x7.2.2.2.2.2.2.1 b13) fun e14 =>
 Option.bind (idx d x7.1) fun e15 =>
 some (a6y e14 e15))
 else (some false)) fun q16 =>
 bif q16
 then (some (.done (.inr (6,(0,0,(⟨#[]⟩:ByteArray),[],[],[],[]),(x7.2.2.1,x7.2.2.2.1,x7.2.2.2.2.1,x7.2.2.2.2.2.1,x7.2.2.2.2.2.2.1,x7.2.2.2.2.2.2.2.1,x7.2.2.2.2.2.2.2.2)))))
 else (Option.bind (cut x7.2.2.2.2.2.2.1 0 b13) fun y17 =>
 Option.bind (Z8 (0+y17.length) 24) fun _ =>
 Option.bind (cut x7.2.2.2.2.2.1 0 b13) fun y19 =>
 Option.bind (a1G y19) fun r20 =>
 Option.bind (idx d x7.1) fun e21 =>
 Option.bind (Z8 (y17.length+([e21]:List Key).length) 24) fun _ =>
 Option.bind (cut x7.2.2.2.2.2.2.1 b13 (x7.2.2.2.2.2.2.1.length:Int)) fun y23 =>
 Option.bind (Z8 ((y17++([e21]:List Key)).length+y23.length) 24) fun _ =>
 Option.bind (idx t x7.1) fun e25 =>
 Option.bind (Z8 (r20.length+([e25]:List Val).length) 128) fun _ =>
 Option.bind (cut x7.2.2.2.2.2.1 b13 (x7.2.2.2.2.2.1.length:Int)) fun y27 =>
 Option.bind (Z8 ((r20++([e25]:List Val)).length+y27.length) 128) fun _ =>
 some (.next (wr .i64 (x7.1+1),(x7.2.1.1,x7.2.1.2.1,x7.2.1.2.2.1,x7.2.1.2.2.2.1,x7.2.1.2.2.2.2.1,x7.2.1.2.2.2.2.2.1,x7.2.1.2.2.2.2.2.2),(x7.2.2.1,x7.2.2.2.1,x7.2.2.2.2.1,(r20++([e25]:List Val))++y27,(y17++([e21]:List Key))++y23,x7.2.2.2.2.2.2.2.1,x7.2.2.2.2.2.2.2.2)))))
 else (some (.done (.inl ((x7.2.1.1,x7.2.1.2.1,x7.2.1.2.2.1,x7.2.1.2.2.2.1,x7.2.1.2.2.2.2.1,x7.2.1.2.2.2.2.2.1,x7.2.1.2.2.2.2.2.2),(x7.2.2.1,x7.2.2.2.1,x7.2.2.2.2.1,x7.2.2.2.2.2.1,x7.2.2.2.2.2.2.1,x7.2.2.2.2.2.2.2.1,x7.2.2.2.2.2.2.2.2)))))
def a1r (d:List Key)(t:List Val):Option (Val×Int) :=
 bif (d.length:Int) != (t.length:Int)
 then (some (Val.mk 0 0 (⟨#[]⟩:ByteArray) ([]:List Val) ([]:List Key) ([]:List Ent) ([]:List ByteArray),1))
 else (Option.bind (iter (a1C d) ((d.length:Int).toNat+1) (0,(0,0,(⟨#[]⟩:ByteArray),[],[],[],[]))) fun (b4:Sum (Int×Int×ByteArray×(List Val)×(List Key)×(List Ent)×(List ByteArray)) (Int×(Int×Int×ByteArray×(List Val)×(List Key)×(List Ent)×(List ByteArray)))) =>
 onEnd (fun x5 =>
 Option.bind (iter (a0V d t) ((d.length:Int).toNat+1) (0,(x5.1,x5.2.1,x5.2.2.1,x5.2.2.2.1,x5.2.2.2.2.1,x5.2.2.2.2.2.1,x5.2.2.2.2.2.2),(8,0,(⟨#[]⟩:ByteArray),([]:List Val),([]:List Key),[],[]))) fun (b29:Sum ((Int×Int×ByteArray×(List Val)×(List Key)×(List Ent)×(List ByteArray))×(Int×Int×ByteArray×(List Val)×(List Key)×(List Ent)×(List ByteArray))) (Int×(Int×Int×ByteArray×(List Val)×(List Key)×(List Ent)×(List ByteArray))×(Int×Int×ByteArray×(List Val)×(List Key)×(List Ent)×(List ByteArray)))) =>
 onEnd (fun x30 =>
 some (Val.mk x30.2.1 x30.2.2.1 x30.2.2.2.1 x30.2.2.2.2.1 x30.2.2.2.2.2.1 x30.2.2.2.2.2.2.1 x30.2.2.2.2.2.2.2,0)) (fun y31 =>
 some (Val.mk y31.2.1.1 y31.2.1.2.1 y31.2.1.2.2.1 y31.2.1.2.2.2.1 y31.2.1.2.2.2.2.1 y31.2.1.2.2.2.2.2.1 y31.2.1.2.2.2.2.2.2,y31.1)) b29) (fun y6 =>
 some (Val.mk y6.2.1 y6.2.2.1 y6.2.2.2.1 y6.2.2.2.2.1 y6.2.2.2.2.2.1 y6.2.2.2.2.2.2.1 y6.2.2.2.2.2.2.2,y6.1)) b4)
def a0D (a:Int)(b:Int):Option Int :=
 Option.bind (a3c a b) fun r1 =>
 some r1
def a8G (d:Val)(t:Val)(x5:Int):Option (Fl Int (Sum Unit Int)) :=
 bif decide (x5<(d.Keys.length:Int))
 then (Option.bind (idx d.Keys x5) fun e6 =>
 Option.bind (idx t.Keys x5) fun e7 =>
 Option.bind (W7 e6 e7) fun r8 =>
 bif r8 != 0
 then (some (.done (.inr r8)))
 else (some (.next (wr .i64 (x5+1)))))
 else (some (.done (.inl ())))
def a8y (d:Val)(t:Val)(rec_semtyperef1_CompareEntries:Ent->Ent->Option Int)(x14:Int):Option (Fl Int (Sum Unit Int)) :=
 bif decide (x14<(d.Entries.length:Int))
 then (Option.bind (idx d.Entries x14) fun e15 =>
 Option.bind (idx t.Entries x14) fun e16 =>
 Option.bind (rec_semtyperef1_CompareEntries e15 e16) fun r17 =>
 bif r17 != 0
 then (some (.done (.inr r17)))
 else (some (.next (wr .i64 (x14+1)))))
 else (some (.done (.inl ())))
def a8A (d:Val)(t:Val)(x22:Int):Option (Fl Int (Sum Unit Int)) :=
 bif decide (x22<(d.Labels.length:Int))
 then (Option.bind (idx d.Labels x22) fun e23 =>
 Option.bind (idx t.Labels x22) fun e24 =>
 Option.bind (a1B e23 e24) fun r25 =>
 bif r25 != 0
 then (some (.done (.inr r25)))
 else (some (.next (wr .i64 (x22+1)))))
 else (some (.done (.inl ())))
def a86 (a:List Val)(b:List Val)(rec_semtyperef1_Compare:Val->Val->Option Int)(x2:Int):Option (Fl Int (Sum Unit Int)) :=
 bif decide (x2<(a.length:Int))
 then (Option.bind (idx a x2) fun e3 =>
 Option.bind (idx b x2) fun e4 =>
 Option.bind (rec_semtyperef1_Compare e3 e4) fun r5 =>
 bif r5 != 0
 then (some (.done (.inr r5)))
 else (some (.next (wr .i64 (x2+1)))))
 else (some (.done (.inl ())))
def a58 (_:Nat)(_:Val->Val->Option Int)(rec_semtyperef1_values:(List Val)->(List Val)->Option Int)(rec_semtyperef1_CompareEntries:Ent->Ent->Option Int)(d:Val)(t:Val):Option Int :=
 bif d.Kind != t.Kind
 then (Option.bind (a0D d.Kind t.Kind) fun r1 =>
 some r1)
 else (bif d.Int_ != t.Int_
 then (Option.bind (a3c d.Int_ t.Int_) fun r2 =>
 some r2)
 else (bif !(Z6 d.Text t.Text)
 then (Option.bind (a1B d.Text t.Text) fun r3 =>
 some r3)
 else (bif (d.Keys.length:Int) != (t.Keys.length:Int)
 then (Option.bind (a0D (d.Keys.length:Int) (t.Keys.length:Int)) fun r4 =>
 some r4)
 else (Option.bind (iter (a8G d t) ((d.Keys.length:Int).toNat+1) 0) fun b9 =>
 onEnd (fun _ =>
 Option.bind (rec_semtyperef1_values d.Kids t.Kids) fun r12 =>
 bif r12 != 0
 then (some r12)
 else (bif (d.Entries.length:Int) != (t.Entries.length:Int)
 then (Option.bind (a0D (d.Entries.length:Int) (t.Entries.length:Int)) fun r13 =>
 some r13)
 else (Option.bind (iter (a8y d t rec_semtyperef1_CompareEntries) ((d.Entries.length:Int).toNat+1) 0) fun b18 =>
 onEnd (fun _ =>
 bif (d.Labels.length:Int) != (t.Labels.length:Int)
 then (Option.bind (a0D (d.Labels.length:Int) (t.Labels.length:Int)) fun r21 =>
 some r21)
 else (Option.bind (iter (a8A d t) ((d.Labels.length:Int).toNat+1) 0) fun b26 =>
 onEnd (fun _ =>
 some 0) (fun y28 =>
 some y28) b26)) (fun y20 =>
 some y20) b18))) (fun y11 =>
 some y11) b9))))
def a6R (_:Nat)(rec_semtyperef1_Compare:Val->Val->Option Int)(_:(List Val)->(List Val)->Option Int)(_:Ent->Ent->Option Int)(a:List Val)(b:List Val):Option Int :=
 bif (a.length:Int) != (b.length:Int)
 then (Option.bind (a0D (a.length:Int) (b.length:Int)) fun r1 =>
 some r1)
 else (Option.bind (iter (a86 a b rec_semtyperef1_Compare) ((a.length:Int).toNat+1) 0) fun b6 =>
 onEnd (fun _ =>
 some 0) (fun y8 =>
 some y8) b6)
def a3y (_:Nat)(rec_semtyperef1_Compare:Val->Val->Option Int)(rec_semtyperef1_values:(List Val)->(List Val)->Option Int)(_:Ent->Ent->Option Int)(a:Ent)(b:Ent):Option Int :=
 Option.bind (rec_semtyperef1_values a.Args b.Args) fun r1 =>
 bif r1 != 0
 then (some r1)
 else (bif a.Fails != b.Fails
 then (bif a.Fails
 then (some (-1))
 else (some 1))
 else (Option.bind (rec_semtyperef1_Compare a.Result b.Result) fun r2 =>
 some r2))
def Q0:Nat->(Val->Val->Option Int)×((List Val)->(List Val)->Option Int)×(Ent->Ent->Option Int)
 | 0=>(fun _ _=>none,fun _ _=>none,fun _ _=>none)
 | n+1=>(a58 n ((Q0 n).1) ((Q0 n).2.1) ((Q0 n).2.2),a6R n ((Q0 n).1) ((Q0 n).2.1) ((Q0 n).2.2),a3y n ((Q0 n).1) ((Q0 n).2.1) ((Q0 n).2.2))
def a0B (n:Nat):Val->Val->Option Int:=(Q0 n).1
def a3P (n:Nat):(List Val)->(List Val)->Option Int:=(Q0 n).2.1
def Y4 (n:Nat):Ent->Ent->Option Int:=(Q0 n).2.2
def a4k (n:Nat)(a:Val)(b:Val):Option Bool :=
 Option.bind (a0B n a b) fun r1 =>
 some (r1==0)
def a3F (l:List Ent)(x1:(List Ent)×Int)(n:Nat)(x2:Int):Option (Fl Int Int) :=
 Option.bind (bif decide (x2<(x1.1.length:Int))
 then (Option.bind (idx x1.1 x2) fun e3 =>
 Option.bind (idx l x1.2) fun _ =>
 Option.bind (l[x1.2.toNat]?) fun e5 =>
 Option.bind (Y4 n e3 e5) fun r6 =>
 some (decide (r6<0)))
 else (some false)) fun q7 =>
 bif q7
 then (some (.next (wr .i64 (x2+1))))
 else (some (.done x2))
def a0t (l:List Ent)(n:Nat)(x1:(List Ent)×Int):Option (Fl ((List Ent)×Int) (List Ent)) :=
 bif decide (x1.2<(l.length:Int))
 then (Option.bind (Option.bind (iter (a3F l x1 n) ((x1.1.length:Int).toNat+1) 0) fun b8 =>
 Option.bind (bif decide (b8<(x1.1.length:Int))
 then (Option.bind (idx x1.1 b8) fun e9 =>
 Option.bind (idx l x1.2) fun _ =>
 Option.bind (l[x1.2.toNat]?) fun e11 =>
 Option.bind (Y4 n e9 e11) fun r12 =>
 some (r12==0))
 else (some false)) fun q13 =>
 bif q13
 then (some x1.1)
 else (Option.bind (cut x1.1 0 b8) fun y14 =>
 Option.bind (Z8 (0+y14.length) 160) fun _ =>
 Option.bind (idx l x1.2) fun _ =>
 Option.bind (l[x1.2.toNat]?) fun e17 =>
 Option.bind (Z8 (y14.length+([e17]:List Ent).length) 160) fun _ =>
 Option.bind (cut x1.1 b8 (x1.1.length:Int)) fun y19 =>
 Option.bind (Z8 ((y14++([e17]:List Ent)).length+y19.length) 160) fun _ =>
 some ((y14++([e17]:List Ent))++y19))) fun b21 =>
 some (.next (b21,wr .i64 (x1.2+1))))
 else (some (.done x1.1))
def a49 (n:Nat)(l:List Ent):Option (List Ent) :=
 Option.bind (iter (a0t l n) ((l.length:Int).toNat+1) (([]:List Ent),0)) fun b22 =>
 some b22
def a0l (arity:Int)(l:List Ent)(n:Nat)(x2:Int×(Int×Int×ByteArray×(List Val)×(List Key)×(List Ent)×(List ByteArray))):Option (Fl (Int×(Int×Int×ByteArray×(List Val)×(List Key)×(List Ent)×(List ByteArray))) (Sum (Int×Int×ByteArray×(List Val)×(List Key)×(List Ent)×(List ByteArray)) (Int×(Int×Int×ByteArray×(List Val)×(List Key)×(List Ent)×(List ByteArray))))) :=
 bif decide (x2.1<(l.length:Int))
 then (Option.bind (idx l x2.1) fun _ =>
 Option.bind (l[x2.1.toNat]?) fun e4 =>
 Option.bind (bif (e4.Args.length:Int) != arity
 then (some true)
 else (Option.bind (idx l x2.1) fun _ =>
 Option.bind (l[x2.1.toNat]?) fun e6 =>
 Option.bind (bif e6.Fails
 then (Option.bind (idx l x2.1) fun _ =>
 Option.bind (l[x2.1.toNat]?) fun e8 =>
 Option.bind (a4k n e8.Result (Val.mk 0 0 (⟨#[]⟩:ByteArray) ([]:List Val) ([]:List Key) ([]:List Ent) ([]:List ByteArray))) fun r9 =>
 some (!r9))
 else (some false)) fun q10 =>
 some q10)) fun q11 =>
 bif q11
 then (some (.done (.inr (1,(0,0,(⟨#[]⟩:ByteArray),[],[],[],[])))))
 else (some (.next (wr .i64 (x2.1+1),(x2.2.1,x2.2.2.1,x2.2.2.2.1,x2.2.2.2.2.1,x2.2.2.2.2.2.1,x2.2.2.2.2.2.2.1,x2.2.2.2.2.2.2.2)))))
 else (some (.done (.inl (x2.2.1,x2.2.2.1,x2.2.2.2.1,x2.2.2.2.2.1,x2.2.2.2.2.2.1,x2.2.2.2.2.2.2.1,x2.2.2.2.2.2.2.2))))
def a04 (n:Nat)(arity:Int)(l:List Ent):Option (Val×Int) :=
 Option.bind (bif decide (arity<0)
 then (some true)
 else (some (decide (4<arity)))) fun q1 =>
 bif q1
 then (some (Val.mk 0 0 (⟨#[]⟩:ByteArray) ([]:List Val) ([]:List Key) ([]:List Ent) ([]:List ByteArray),1))
 else (Option.bind (iter (a0l arity l n) ((l.length:Int).toNat+1) (0,(0,0,(⟨#[]⟩:ByteArray),[],[],[],[]))) fun (b12:Sum (Int×Int×ByteArray×(List Val)×(List Key)×(List Ent)×(List ByteArray)) (Int×(Int×Int×ByteArray×(List Val)×(List Key)×(List Ent)×(List ByteArray)))) =>
 onEnd (fun _ =>
 Option.bind (a49 n l) fun r15 =>
 some (Val.mk 9 arity (⟨#[]⟩:ByteArray) ([]:List Val) ([]:List Key) r15 ([]:List ByteArray),0)) (fun y14 =>
 some (Val.mk y14.2.1 y14.2.2.1 y14.2.2.2.1 y14.2.2.2.2.1 y14.2.2.2.2.2.1 y14.2.2.2.2.2.2.1 y14.2.2.2.2.2.2.2,y14.1)) b12)
def a3Z (l:List ByteArray)(x1:(List ByteArray)×Int)(x2:Int):Option (Fl Int Int) :=
 Option.bind (bif decide (x2<(x1.1.length:Int))
 then (Option.bind (idx x1.1 x2) fun e3 =>
 Option.bind (idx l x1.2) fun e4 =>
 some (a2M e3 e4))
 else (some false)) fun q5 =>
 bif q5
 then (some (.next (wr .i64 (x2+1))))
 else (some (.done x2))
def a0P (l:List ByteArray)(x1:(List ByteArray)×Int):Option (Fl ((List ByteArray)×Int) (List ByteArray)) :=
 bif decide (x1.2<(l.length:Int))
 then (Option.bind (Option.bind (iter (a3Z l x1) ((x1.1.length:Int).toNat+1) 0) fun b6 =>
 Option.bind (bif decide (b6<(x1.1.length:Int))
 then (Option.bind (idx x1.1 b6) fun e7 =>
 Option.bind (idx l x1.2) fun e8 =>
 some (Z6 e7 e8))
 else (some false)) fun q9 =>
 bif q9
 then (some x1.1)
 else (Option.bind (cut x1.1 0 b6) fun y10 =>
 Option.bind (Z8 (0+y10.length) 16) fun _ =>
 Option.bind (idx l x1.2) fun e12 =>
 Option.bind (Z8 (y10.length+([e12]:List ByteArray).length) 16) fun _ =>
 Option.bind (cut x1.1 b6 (x1.1.length:Int)) fun y14 =>
 Option.bind (Z8 ((y10++([e12]:List ByteArray)).length+y14.length) 16) fun _ =>
 some ((y10++([e12]:List ByteArray))++y14))) fun b16 =>
 some (.next (b16,wr .i64 (x1.2+1))))
 else (some (.done x1.1))
def a0n (l:List ByteArray):Option (List ByteArray) :=
 Option.bind (iter (a0P l) ((l.length:Int).toNat+1) (([]:List ByteArray),0)) fun b17 =>
 some b17
def a3E (v:Val)(names:List ByteArray):Option Val :=
 Option.bind (a0n names) fun r1 =>
 some (Val.mk v.Kind v.Int_ v.Text v.Kids v.Keys v.Entries r1)
def a4Q (head:Val)(tail:Val):Option Val :=
 some (Val.mk 7 0 (⟨#[]⟩:ByteArray) ([head,tail]:List Val) ([]:List Key) ([]:List Ent) ([]:List ByteArray))
def a1t (s:Semtypebase_Source):Option ((List ByteArray)×Semtypebase_Source) :=
 Option.bind (z8 s 3) fun r1 =>
 Option.bind (bif r1.1==1
 then (Option.bind (a0O r1.2) fun r2 =>
 Option.bind (Z8 (0+([r2.1]:List ByteArray).length) 16) fun _ =>
 Option.bind (z8 r2.2 2) fun r4 =>
 bif r4.1==1
 then (Option.bind (a0O r4.2) fun r5 =>
 Option.bind (Z8 (([r2.1]:List ByteArray).length+([r5.1]:List ByteArray).length) 16) fun _ =>
 some (([r2.1]:List ByteArray)++([r5.1]:List ByteArray),r5.2))
 else (some (([r2.1]:List ByteArray),r4.2)))
 else (some ([],r1.2))) fun b7 =>
 Option.bind (a0n b7.1) fun r8 =>
 some (r8,b7.2)
def a3M (s:Semtypebase_Source):Option (Key×Semtypebase_Source) :=
 Option.bind (z8 s 2) fun r1 =>
 bif r1.1==0
 then (Option.bind (V9 r1.2) fun r2 =>
 some (Key.mk 0 r2.1,r2.2))
 else (Option.bind (a0m r1.2) fun r3 =>
 some (Key.mk 1 r3.1,r3.2))
def a14 (t:Int)(rec_semtypebase_Source_Value:Semtypebase_Source->Int->Option (Val×Semtypebase_Source))(x4:(List Val)×Int×Semtypebase_Source):Option (Fl ((List Val)×Int×Semtypebase_Source) ((List Val)×Semtypebase_Source)) :=
 bif decide (0<x4.2.1)
 then (Option.bind (rec_semtypebase_Source_Value x4.2.2 (wr .i64 (t-1))) fun r5 =>
 Option.bind (Z8 (x4.1.length+([r5.1]:List Val).length) 128) fun _ =>
 some (.next (x4.1++([r5.1]:List Val),wr .i64 (x4.2.1-1),r5.2)))
 else (some (.done (x4.1,x4.2.2)))
def a13 (t:Int)(rec_semtypebase_Source_Value:Semtypebase_Source->Int->Option (Val×Semtypebase_Source))(x20:(List Key)×(List Val)×Int×Semtypebase_Source):Option (Fl ((List Key)×(List Val)×Int×Semtypebase_Source) ((List Key)×(List Val)×Semtypebase_Source)) :=
 bif decide (0<x20.2.2.1)
 then (Option.bind (a3M x20.2.2.2) fun r21 =>
 Option.bind (Z8 (x20.1.length+([r21.1]:List Key).length) 24) fun _ =>
 Option.bind (rec_semtypebase_Source_Value r21.2 (wr .i64 (t-1))) fun r23 =>
 Option.bind (Z8 (x20.2.1.length+([r23.1]:List Val).length) 128) fun _ =>
 some (.next (x20.1++([r21.1]:List Key),x20.2.1++([r23.1]:List Val),wr .i64 (x20.2.2.1-1),r23.2)))
 else (some (.done (x20.1,x20.2.1,x20.2.2.2)))
def a15 (t:Int)(r27:Int×Semtypebase_Source)(rec_semtypebase_Source_entry:Semtypebase_Source->Int->Int->Option (Ent×Semtypebase_Source))(x29:(List Ent)×Int×Semtypebase_Source):Option (Fl ((List Ent)×Int×Semtypebase_Source) ((List Ent)×Semtypebase_Source)) :=
 bif decide (0<x29.2.1)
 then (Option.bind (rec_semtypebase_Source_entry x29.2.2 r27.1 (wr .i64 (t-1))) fun r30 =>
 Option.bind (Z8 (x29.1.length+([r30.1]:List Ent).length) 160) fun _ =>
 some (.next (x29.1++([r30.1]:List Ent),wr .i64 (x29.2.1-1),r30.2)))
 else (some (.done (x29.1,x29.2.2)))
def a12 (height:Int)(rec_semtypebase_Source_Value:Semtypebase_Source->Int->Option (Val×Semtypebase_Source))(x1:Int×Semtypebase_Source×((List Val)×Bool×Int×Int×ByteArray×(List Val)×(List Key)×(List Ent)×(List ByteArray))):Option (Fl (Int×Semtypebase_Source×((List Val)×Bool×Int×Int×ByteArray×(List Val)×(List Key)×(List Ent)×(List ByteArray))) (Semtypebase_Source×((List Val)×Bool×Int×Int×ByteArray×(List Val)×(List Key)×(List Ent)×(List ByteArray)))) :=
 bif decide (0<x1.1)
 then (Option.bind (rec_semtypebase_Source_Value x1.2.1 height) fun r2 =>
 Option.bind (Z8 (x1.2.2.1.length+([r2.1]:List Val).length) 128) fun _ =>
 some (.next (wr .i64 (x1.1-1),r2.2,(x1.2.2.1++([r2.1]:List Val),x1.2.2.2.1,x1.2.2.2.2.1,x1.2.2.2.2.2.1,x1.2.2.2.2.2.2.1,x1.2.2.2.2.2.2.2.1,x1.2.2.2.2.2.2.2.2.1,x1.2.2.2.2.2.2.2.2.2.1,x1.2.2.2.2.2.2.2.2.2.2))))
 else (some (.done (x1.2.1,(x1.2.2.1,x1.2.2.2.1,x1.2.2.2.2.1,x1.2.2.2.2.2.1,x1.2.2.2.2.2.2.1,x1.2.2.2.2.2.2.2.1,x1.2.2.2.2.2.2.2.2.1,x1.2.2.2.2.2.2.2.2.2.1,x1.2.2.2.2.2.2.2.2.2.2))))
def a1b (_:Nat)(_:Semtypebase_Source->Int->Option (Val×Semtypebase_Source))(rec_semtypebase_Source_value:Semtypebase_Source->Int->Option (Val×Semtypebase_Source))(_:Semtypebase_Source->Int->Int->Option (Ent×Semtypebase_Source))(s:Semtypebase_Source)(height:Int):Option (Val×Semtypebase_Source) :=
 Option.bind (rec_semtypebase_Source_value s height) fun r1 =>
 Option.bind (a1t r1.2) fun r2 =>
 some (Val.mk r1.1.Kind r1.1.Int_ r1.1.Text r1.1.Kids r1.1.Keys r1.1.Entries r2.1,r2.2)
def W5 (n:Nat)(rec_semtypebase_Source_Value:Semtypebase_Source->Int->Option (Val×Semtypebase_Source))(_:Semtypebase_Source->Int->Option (Val×Semtypebase_Source))(rec_semtypebase_Source_entry:Semtypebase_Source->Int->Int->Option (Ent×Semtypebase_Source))(d:Semtypebase_Source)(t:Int):Option (Val×Semtypebase_Source) :=
 bif decide (t<=1)
 then (Option.bind (J0 d) fun r1 =>
 some (r1.1,r1.2))
 else (Option.bind (z8 d 6) fun r2 =>
 Option.bind (bif r2.1==1
 then (Option.bind (z8 r2.2 4) fun r3 =>
 Option.bind (iter (a14 t rec_semtypebase_Source_Value) (r3.1.toNat+2) ([],r3.1,r3.2)) fun b7 =>
 Option.bind (a1Y b7.1) fun r8 =>
 some (.inr (b7.2,(r8.Kind,r8.Int_,r8.Text,r8.Kids,r8.Keys,r8.Entries,r8.Labels))))
 else (bif r2.1==2
 then (Option.bind (W4) fun r9 =>
 Option.bind (bif decide (2<t)
 then (Option.bind (z8 r2.2 2) fun r10 =>
 some (r10.1==1,r10.2))
 else (some (false,r2.2))) fun b11 =>
 Option.bind (bif b11.1
 then (Option.bind (rec_semtypebase_Source_Value b11.2 (wr .i64 (t-2))) fun r12 =>
 Option.bind (W4) fun r13 =>
 Option.bind (a4Q r12.1 r13) fun r14 =>
 some (r12.2,r14))
 else (some (b11.2,r9))) fun b15 =>
 Option.bind (a1t b15.1) fun r16 =>
 Option.bind (rec_semtypebase_Source_Value r16.2 (wr .i64 (t-1))) fun r17 =>
 Option.bind (a4Q r17.1 (Val.mk b15.2.Kind b15.2.Int_ b15.2.Text b15.2.Kids b15.2.Keys b15.2.Entries r16.1)) fun r18 =>
 some (.inr (r17.2,(r18.Kind,r18.Int_,r18.Text,r18.Kids,r18.Keys,r18.Entries,r18.Labels))))
 else (bif r2.1==3
 then (Option.bind (z8 r2.2 3) fun r19 =>
 Option.bind (iter (a13 t rec_semtypebase_Source_Value) (r19.1.toNat+2) ([],[],r19.1,r19.2)) fun b25 =>
 Option.bind (a1r b25.1 b25.2.1) fun r26 =>
 bif r26.2==0
 then (some (.inr (b25.2.2,(r26.1.Kind,r26.1.Int_,r26.1.Text,r26.1.Kids,r26.1.Keys,r26.1.Entries,r26.1.Labels))))
 else (some (.inl (b25.2.2,(0,0,(⟨#[]⟩:ByteArray),([]:List Val),([]:List Key),([]:List Ent),([]:List ByteArray))))))
 else (bif r2.1==4
 then (Option.bind (z8 r2.2 3) fun r27 =>
 Option.bind (z8 r27.2 3) fun r28 =>
 Option.bind (iter (a15 t r27 rec_semtypebase_Source_entry) (r28.1.toNat+2) ([],r28.1,r28.2)) fun b32 =>
 Option.bind (a04 n r27.1 b32.1) fun r33 =>
 bif r33.2==0
 then (some (.inr (b32.2,(r33.1.Kind,r33.1.Int_,r33.1.Text,r33.1.Kids,r33.1.Keys,r33.1.Entries,r33.1.Labels))))
 else (some (.inl (b32.2,(0,0,(⟨#[]⟩:ByteArray),([]:List Val),([]:List Key),([]:List Ent),([]:List ByteArray))))))
 else (some (.inl (r2.2,(0,0,(⟨#[]⟩:ByteArray),([]:List Val),([]:List Key),([]:List Ent),([]:List ByteArray))))))))) fun (b34:Sum (Semtypebase_Source×(Int×Int×ByteArray×(List Val)×(List Key)×(List Ent)×(List ByteArray))) (Semtypebase_Source×(Int×Int×ByteArray×(List Val)×(List Key)×(List Ent)×(List ByteArray)))) =>
 onEnd (fun x35 =>
 Option.bind (J0 x35.1) fun r37 =>
 some (r37.1,r37.2)) (fun y36 =>
 some (Val.mk y36.2.1 y36.2.2.1 y36.2.2.2.1 y36.2.2.2.2.1 y36.2.2.2.2.2.1 y36.2.2.2.2.2.2.1 y36.2.2.2.2.2.2.2,y36.1)) b34)
def a4d (_:Nat)(rec_semtypebase_Source_Value:Semtypebase_Source->Int->Option (Val×Semtypebase_Source))(_:Semtypebase_Source->Int->Option (Val×Semtypebase_Source))(_:Semtypebase_Source->Int->Int->Option (Ent×Semtypebase_Source))(s:Semtypebase_Source)(n_1:Int)(height:Int):Option (Ent×Semtypebase_Source) :=
 Option.bind (iter (a12 height rec_semtypebase_Source_Value) (n_1.toNat+2) (n_1,s,([],false,0,0,(⟨#[]⟩:ByteArray),[],[],[],[]))) fun b4 =>
 Option.bind (z8 b4.1 4) fun r5 =>
 bif r5.1==1
 then (some (Ent.mk b4.2.1 true (Val.mk b4.2.2.2.1 b4.2.2.2.2.1 b4.2.2.2.2.2.1 b4.2.2.2.2.2.2.1 b4.2.2.2.2.2.2.2.1 b4.2.2.2.2.2.2.2.2.1 b4.2.2.2.2.2.2.2.2.2),r5.2))
 else (Option.bind (rec_semtypebase_Source_Value r5.2 height) fun r6 =>
 some (Ent.mk b4.2.1 b4.2.2.1 r6.1,r6.2))
def y9:Nat->(Semtypebase_Source->Int->Option (Val×Semtypebase_Source))×(Semtypebase_Source->Int->Option (Val×Semtypebase_Source))×(Semtypebase_Source->Int->Int->Option (Ent×Semtypebase_Source))
 | 0=>(fun _ _=>none,fun _ _=>none,fun _ _ _=>none)
 | n+1=>(a1b n ((y9 n).1) ((y9 n).2.1) ((y9 n).2.2),W5 n ((y9 n).1) ((y9 n).2.1) ((y9 n).2.2),a4d n ((y9 n).1) ((y9 n).2.1) ((y9 n).2.2))
def a1F (n:Nat):Semtypebase_Source->Int->Option (Val×Semtypebase_Source):=(y9 n).1
def b3h (n:Nat):Semtypebase_Source->Int->Option (Val×Semtypebase_Source):=(y9 n).2.1
def b3U (n:Nat):Semtypebase_Source->Int->Int->Option (Ent×Semtypebase_Source):=(y9 n).2.2
def a4i (c:Int):Option Bool :=
 Option.bind (bif decide (65<=c)
 then (some (decide (c<=90)))
 else (some false)) fun q1 =>
 some q1
def a4w (s:ByteArray)(x5:Int):Option (Fl Int (Sum Unit Bool)) :=
 bif decide (x5<(s.size:Int))
 then (Option.bind (a6X s x5) fun e6 =>
 Option.bind (a27 (e6.toNat:Int)) fun r7 =>
 Option.bind (bif !r7
 then (Option.bind (a6X s x5) fun e8 =>
 Option.bind (a4i (e8.toNat:Int)) fun r9 =>
 some (!r9))
 else (some false)) fun q10 =>
 Option.bind (bif q10
 then (Option.bind (a6X s x5) fun e11 =>
 Option.bind (a4f (e11.toNat:Int)) fun r12 =>
 some (!r12))
 else (some false)) fun q13 =>
 Option.bind (bif q13
 then (Option.bind (a6X s x5) fun e14 =>
 some ((e14.toNat:Int) != 95))
 else (some false)) fun q15 =>
 bif q15
 then (some (.done (.inr false)))
 else (some (.next (wr .i64 (x5+1)))))
 else (some (.done (.inl ())))
def a2g (s:ByteArray):Option Bool :=
 Option.bind (bif decide ((s.size:Int)<1)
 then (some true)
 else (some (decide (16<(s.size:Int))))) fun q1 =>
 Option.bind (bif q1
 then (some true)
 else (Option.bind (a6X s 0) fun e2 =>
 Option.bind (a4i (e2.toNat:Int)) fun r3 =>
 some (!r3))) fun q4 =>
 bif q4
 then (some false)
 else (Option.bind (iter (a4w s) ((s.size:Int).toNat+1) 1) fun b16 =>
 onEnd (fun _ =>
 some true) (fun y18 =>
 some y18) b16)
def a47 (d:Val)(x1:Int):Option (Fl Int (Sum Unit Bool)) :=
 bif decide (x1<(d.Labels.length:Int))
 then (Option.bind (idx d.Labels x1) fun e2 =>
 Option.bind (a2g e2) fun r3 =>
 Option.bind (bif !r3
 then (some true)
 else (Option.bind (bif decide (0<x1)
 then (Option.bind (idx d.Labels (wr .i64 (x1-1))) fun e4 =>
 Option.bind (idx d.Labels x1) fun e5 =>
 some (!(a2M e4 e5)))
 else (some false)) fun q6 =>
 some q6)) fun q7 =>
 bif q7
 then (some (.done (.inr false)))
 else (some (.next (wr .i64 (x1+1)))))
 else (some (.done (.inl ())))
def a5b (d:Val)(x31:Int):Option (Fl Int (Sum Unit Bool)) :=
 bif decide (x31<(d.Keys.length:Int))
 then (Option.bind (idx d.Keys x31) fun e32 =>
 Option.bind (a1Q e32) fun r33 =>
 Option.bind (bif !r33
 then (some true)
 else (Option.bind (bif decide (0<x31)
 then (Option.bind (idx d.Keys (wr .i64 (x31-1))) fun e34 =>
 Option.bind (idx d.Keys x31) fun e35 =>
 Option.bind (W7 e34 e35) fun r36 =>
 some (decide (0<=r36)))
 else (some false)) fun q37 =>
 some q37)) fun q38 =>
 bif q38
 then (some (.done (.inr false)))
 else (some (.next (wr .i64 (x31+1)))))
 else (some (.done (.inl ())))
def a5e (d:Val)(n:Nat)(x43:Int):Option (Fl Int (Sum Unit Bool)) :=
 bif decide (x43<(d.Entries.length:Int))
 then (Option.bind (idx d.Entries x43) fun e44 =>
 Option.bind (bif (e44.Args.length:Int) != d.Int_
 then (some true)
 else (Option.bind (bif e44.Fails
 then (Option.bind (a4k n e44.Result (Val.mk 0 0 (⟨#[]⟩:ByteArray) ([]:List Val) ([]:List Key) ([]:List Ent) ([]:List ByteArray))) fun r45 =>
 some (!r45))
 else (some false)) fun q46 =>
 some q46)) fun q47 =>
 Option.bind (bif q47
 then (some true)
 else (Option.bind (bif decide (0<x43)
 then (Option.bind (idx d.Entries (wr .i64 (x43-1))) fun e48 =>
 Option.bind (Y4 n e48 e44) fun r49 =>
 some (decide (0<=r49)))
 else (some false)) fun q50 =>
 some q50)) fun q51 =>
 bif q51
 then (some (.done (.inr false)))
 else (some (.next (wr .i64 (x43+1)))))
 else (some (.done (.inl ())))
def a6T (n:Nat)(d:Val):Option Bool :=
 Option.bind (iter (a47 d) ((d.Labels.length:Int).toNat+1) 0) fun b8 =>
 onEnd (fun _ =>
 Option.bind (bif d.Kind==1
 then (some true)
 else (some (d.Kind==4))) fun q11 =>
 Option.bind (bif q11
 then (some true)
 else (some (d.Kind==9))) fun q12 =>
 Option.bind (bif d.Kind==2
 then (some true)
 else (some (d.Kind==3))) fun q13 =>
 Option.bind (bif d.Kind==6
 then (some true)
 else (some (d.Kind==7))) fun q14 =>
 Option.bind (bif q14
 then (some true)
 else (some (d.Kind==8))) fun q15 =>
 Option.bind (bif !q12
 then (some (d.Int_ != 0))
 else (some false)) fun q16 =>
 Option.bind (bif q16
 then (some true)
 else (Option.bind (bif !q13
 then (some (!(Z6 d.Text (⟨#[]⟩:ByteArray))))
 else (some false)) fun q17 =>
 some q17)) fun q18 =>
 Option.bind (bif q18
 then (some true)
 else (Option.bind (bif !q15
 then (some (decide (0<(d.Kids.length:Int))))
 else (some false)) fun q19 =>
 some q19)) fun q20 =>
 Option.bind (bif q20
 then (some true)
 else (Option.bind (bif d.Kind != 8
 then (some (decide (0<(d.Keys.length:Int))))
 else (some false)) fun q21 =>
 some q21)) fun q22 =>
 Option.bind (bif q22
 then (some true)
 else (Option.bind (bif d.Kind != 9
 then (some (decide (0<(d.Entries.length:Int))))
 else (some false)) fun q23 =>
 some q23)) fun q24 =>
 bif q24
 then (some false)
 else (Option.bind (bif d.Kind==1
 then (some (d.Kind==1))
 else (some (d.Kind==5))) fun b25 =>
 bif b25
 then (some true)
 else (bif d.Kind==2
 then (some (decide ((d.Text.size:Int)<=64)))
 else (bif d.Kind==3
 then (Option.bind (a2u d.Text) fun r26 =>
 some r26)
 else (bif d.Kind==4
 then (some (decide (0<=d.Int_)))
 else (bif d.Kind==6
 then (some (decide ((d.Kids.length:Int)<=4)))
 else (bif d.Kind==7
 then (Option.bind (bif (d.Kids.length:Int)==2
 then (Option.bind (idx d.Kids 1) fun e27 =>
 Option.bind (bif e27.Kind==5
 then (some true)
 else (Option.bind (idx d.Kids 1) fun e28 =>
 some (e28.Kind==7))) fun q29 =>
 some q29)
 else (some false)) fun q30 =>
 some q30)
 else (bif d.Kind==8
 then (Option.bind (iter (a5b d) ((d.Keys.length:Int).toNat+1) 0) fun b39 =>
 onEnd (fun _ =>
 some ((d.Keys.length:Int)==(d.Kids.length:Int))) (fun y41 =>
 some y41) b39)
 else (bif d.Kind==9
 then (Option.bind (bif decide (d.Int_<0)
 then (some true)
 else (some (decide (4<d.Int_)))) fun q42 =>
 bif q42
 then (some false)
 else (Option.bind (iter (a5e d n) ((d.Entries.length:Int).toNat+1) 0) fun b52 =>
 onEnd (fun _ =>
 some true) (fun y54 =>
 some y54) b52))
 else (some false)))))))))) (fun y10 =>
 some y10) b8
def a4y (v:Val)(rec_semtyperef1_Valid:Val->Option Bool)(x2:Int):Option (Fl Int (Sum Unit Bool)) :=
 bif decide (x2<(v.Kids.length:Int))
 then (Option.bind (idx v.Kids x2) fun e3 =>
 Option.bind (rec_semtyperef1_Valid e3) fun r4 =>
 bif !r4
 then (some (.done (.inr false)))
 else (some (.next (wr .i64 (x2+1)))))
 else (some (.done (.inl ())))
def a4A (rec_semtyperef1_Valid:Val->Option Bool)(e9:Ent)(x10:Int):Option (Fl Int (Sum Unit Bool)) :=
 bif decide (x10<(e9.Args.length:Int))
 then (Option.bind (idx e9.Args x10) fun e11 =>
 Option.bind (rec_semtyperef1_Valid e11) fun r12 =>
 bif !r12
 then (some (.done (.inr false)))
 else (some (.next (wr .i64 (x10+1)))))
 else (some (.done (.inl ())))
def a4q (v:Val)(rec_semtyperef1_Valid:Val->Option Bool)(x8:Int):Option (Fl Int (Sum Unit Bool)) :=
 bif decide (x8<(v.Entries.length:Int))
 then (Option.bind (idx v.Entries x8) fun e9 =>
 Option.bind (iter (a4A rec_semtyperef1_Valid e9) ((e9.Args.length:Int).toNat+1) 0) fun b13 =>
 onEnd (fun _ =>
 Option.bind (bif !e9.Fails
 then (Option.bind (rec_semtyperef1_Valid e9.Result) fun r16 =>
 some (!r16))
 else (some false)) fun q17 =>
 bif q17
 then (some (.done (.inr false)))
 else (some (.next (wr .i64 (x8+1))))) (fun y15 =>
 some (.done (.inr y15))) b13)
 else (some (.done (.inl ())))
def a7f (n:Nat)(rec_semtyperef1_Valid:Val->Option Bool)(v:Val):Option Bool :=
 Option.bind (a6T n v) fun r1 =>
 bif !r1
 then (some false)
 else (Option.bind (iter (a4y v rec_semtyperef1_Valid) ((v.Kids.length:Int).toNat+1) 0) fun b5 =>
 onEnd (fun _ =>
 Option.bind (iter (a4q v rec_semtyperef1_Valid) ((v.Entries.length:Int).toNat+1) 0) fun b18 =>
 onEnd (fun _ =>
 some true) (fun y20 =>
 some y20) b18) (fun y7 =>
 some y7) b5)
def a0h:Nat->Val->Option Bool
 | 0=>fun _=>none
 | n+1=>a7f n (a0h n)
def a1a (t:Api_Type)(a3_3:Int)(e4:Api_TypeNode)(rec_semtypebase_Source_Near:Semtypebase_Source->Api_Type->Int->Int->Option (Val×Semtypebase_Source))(x21:Int×Semtypebase_Source×(Int×Int×ByteArray×(List Val)×(List Key)×(List Ent)×(List ByteArray))):Option (Fl (Int×Semtypebase_Source×(Int×Int×ByteArray×(List Val)×(List Key)×(List Ent)×(List ByteArray))) (Semtypebase_Source×(Int×Int×ByteArray×(List Val)×(List Key)×(List Ent)×(List ByteArray)))) :=
 bif decide (x21.1<(e4.Kids.length:Int))
 then (Option.bind (idx e4.Kids x21.1) fun e22 =>
 Option.bind (rec_semtypebase_Source_Near x21.2.1 t e22 (wr .i64 (a3_3-1))) fun r23 =>
 Option.bind (Z8 (x21.2.2.2.2.2.1.length+([r23.1]:List Val).length) 128) fun _ =>
 some (.next (wr .i64 (x21.1+1),r23.2,(x21.2.2.1,x21.2.2.2.1,x21.2.2.2.2.1,x21.2.2.2.2.2.1++([r23.1]:List Val),x21.2.2.2.2.2.2.1,x21.2.2.2.2.2.2.2.1,x21.2.2.2.2.2.2.2.2))))
 else (some (.done (x21.2.1,(x21.2.2.1,x21.2.2.2.1,x21.2.2.2.2.1,x21.2.2.2.2.2.1,x21.2.2.2.2.2.2.1,x21.2.2.2.2.2.2.2.1,x21.2.2.2.2.2.2.2.2))))
def J7 (t:Api_Type)(e4:Api_TypeNode)(x40:Int×Val):Option (Fl (Int×Val) Val) :=
 bif decide (x40.1<(e4.Kids.length:Int))
 then (Option.bind (Option.bind (idx e4.Kids x40.1) fun e41 =>
 Option.bind (idx t.Nodes e41) fun e42 =>
 bif e42.Kind==19
 then (Option.bind (Z8 (0+x40.2.Labels.length) 16) fun _ =>
 Option.bind (idx e4.Kids x40.1) fun e44 =>
 Option.bind (idx t.Nodes e44) fun e45 =>
 Option.bind (Z8 (x40.2.Labels.length+([e45.Text]:List ByteArray).length) 16) fun _ =>
 Option.bind (a0n (x40.2.Labels++([e45.Text]:List ByteArray))) fun r47 =>
 some (Val.mk x40.2.Kind x40.2.Int_ x40.2.Text x40.2.Kids x40.2.Keys x40.2.Entries r47))
 else (some x40.2)) fun b48 =>
 some (.next (wr .i64 (x40.1+1),b48)))
 else (some (.done x40.2))
def K8 (t:Api_Type)(a2_2:Api_TypeNode)(a3_3:Int)(rec_semtypebase_Source_Near:Semtypebase_Source->Api_Type->Int->Int->Option (Val×Semtypebase_Source))(x3:Int×Semtypebase_Source×((List Val)×Bool×Int×Int×ByteArray×(List Val)×(List Key)×(List Ent)×(List ByteArray))):Option (Fl (Int×Semtypebase_Source×((List Val)×Bool×Int×Int×ByteArray×(List Val)×(List Key)×(List Ent)×(List ByteArray))) (Semtypebase_Source×((List Val)×Bool×Int×Int×ByteArray×(List Val)×(List Key)×(List Ent)×(List ByteArray)))) :=
 bif decide (x3.1<(wr .i64 ((a2_2.Kids.length:Int)-1)))
 then (Option.bind (idx a2_2.Kids x3.1) fun e4 =>
 Option.bind (rec_semtypebase_Source_Near x3.2.1 t e4 (wr .i64 (a3_3-1))) fun r5 =>
 Option.bind (Z8 (x3.2.2.1.length+([r5.1]:List Val).length) 128) fun _ =>
 some (.next (wr .i64 (x3.1+1),r5.2,(x3.2.2.1++([r5.1]:List Val),x3.2.2.2.1,x3.2.2.2.2.1,x3.2.2.2.2.2.1,x3.2.2.2.2.2.2.1,x3.2.2.2.2.2.2.2.1,x3.2.2.2.2.2.2.2.2.1,x3.2.2.2.2.2.2.2.2.2.1,x3.2.2.2.2.2.2.2.2.2.2))))
 else (some (.done (x3.2.1,(x3.2.2.1,x3.2.2.2.1,x3.2.2.2.2.1,x3.2.2.2.2.2.1,x3.2.2.2.2.2.2.1,x3.2.2.2.2.2.2.2.1,x3.2.2.2.2.2.2.2.2.1,x3.2.2.2.2.2.2.2.2.2.1,x3.2.2.2.2.2.2.2.2.2.2))))
def W9 (t:Api_Type)(a2_2:Api_TypeNode)(a3_3:Int)(rec_semtypebase_Source_Near:Semtypebase_Source->Api_Type->Int->Int->Option (Val×Semtypebase_Source))(x2:(List Ent)×Int×Semtypebase_Source):Option (Fl ((List Ent)×Int×Semtypebase_Source) ((List Ent)×Semtypebase_Source)) :=
 bif decide (0<x2.2.1)
 then (Option.bind (iter (K8 t a2_2 a3_3 rec_semtypebase_Source_Near) ((wr .i64 ((a2_2.Kids.length:Int)-1)).toNat+1) (0,x2.2.2,([],false,0,0,(⟨#[]⟩:ByteArray),[],[],[],[]))) fun b7 =>
 Option.bind (z8 b7.1 6) fun r8 =>
 Option.bind (bif r8.1==1
 then (some (r8.2,(b7.2.1,true,b7.2.2.2.1,b7.2.2.2.2.1,b7.2.2.2.2.2.1,b7.2.2.2.2.2.2.1,b7.2.2.2.2.2.2.2.1,b7.2.2.2.2.2.2.2.2.1,b7.2.2.2.2.2.2.2.2.2)))
 else (Option.bind (idx a2_2.Kids (wr .i64 ((a2_2.Kids.length:Int)-1))) fun e9 =>
 Option.bind (rec_semtypebase_Source_Near r8.2 t e9 (wr .i64 (a3_3-1))) fun r10 =>
 some (r10.2,(b7.2.1,b7.2.2.1,r10.1.Kind,r10.1.Int_,r10.1.Text,r10.1.Kids,r10.1.Keys,r10.1.Entries,r10.1.Labels)))) fun b11 =>
 Option.bind (Z8 (x2.1.length+([Ent.mk b11.2.1 b11.2.2.1 (Val.mk b11.2.2.2.1 b11.2.2.2.2.1 b11.2.2.2.2.2.1 b11.2.2.2.2.2.2.1 b11.2.2.2.2.2.2.2.1 b11.2.2.2.2.2.2.2.2.1 b11.2.2.2.2.2.2.2.2.2)]:List Ent).length) 160) fun _ =>
 some (.next (x2.1++([Ent.mk b11.2.1 b11.2.2.1 (Val.mk b11.2.2.2.1 b11.2.2.2.2.1 b11.2.2.2.2.2.1 b11.2.2.2.2.2.2.1 b11.2.2.2.2.2.2.2.1 b11.2.2.2.2.2.2.2.2.1 b11.2.2.2.2.2.2.2.2.2)]:List Ent),wr .i64 (x2.2.1-1),b11.1)))
 else (some (.done (x2.1,x2.2.2)))
def a0x (t:Api_Type)(a2_2:Api_TypeNode)(a3_3:Int)(rec_semtypebase_Source_Near:Semtypebase_Source->Api_Type->Int->Int->Option (Val×Semtypebase_Source))(x1:(List Key)×(List Val)×Int×Semtypebase_Source):Option (Fl ((List Key)×(List Val)×Int×Semtypebase_Source) ((List Key)×(List Val)×Semtypebase_Source)) :=
 bif decide (x1.2.2.1<(a2_2.Fields.length:Int))
 then (Option.bind (Option.bind (Option.bind (idx a2_2.Fields x1.2.2.1) fun e2 =>
 bif e2.Optional
 then (Option.bind (z8 x1.2.2.2 2) fun r3 =>
 some (r3.1==1,r3.2))
 else (some (false,x1.2.2.2))) fun b4 =>
 bif b4.1
 then (some (x1.1,x1.2.1,b4.2))
 else (Option.bind (idx a2_2.Fields x1.2.2.1) fun e5 =>
 Option.bind (Z8 (x1.1.length+([e5.Key_]:List Key).length) 24) fun _ =>
 Option.bind (idx a2_2.Fields x1.2.2.1) fun e7 =>
 Option.bind (rec_semtypebase_Source_Near b4.2 t e7.Node (wr .i64 (a3_3-1))) fun r8 =>
 Option.bind (Z8 (x1.2.1.length+([r8.1]:List Val).length) 128) fun _ =>
 some (x1.1++([e5.Key_]:List Key),x1.2.1++([r8.1]:List Val),r8.2))) fun b10 =>
 some (.next (b10.1,b10.2.1,wr .i64 (x1.2.2.1+1),b10.2.2)))
 else (some (.done (x1.1,x1.2.1,x1.2.2.2)))
def a1q (n:Nat)(_:Semtypebase_Source->Api_Type->Int->Int->Option (Val×Semtypebase_Source))(rec_semtypebase_Source_near:Semtypebase_Source->Api_Type->Int->Int->Option (Val×Semtypebase_Source))(_:Semtypebase_Source->Api_Type->Api_TypeNode->Int->Option (Val×Semtypebase_Source))(_:Semtypebase_Source->Api_Type->Api_TypeNode->Int->Option (Val×Semtypebase_Source))(s:Semtypebase_Source)(t:Api_Type)(k:Int)(height:Int):Option (Val×Semtypebase_Source) :=
 Option.bind (rec_semtypebase_Source_near s t k height) fun r1 =>
 Option.bind (a0h n r1.1) fun r2 =>
 bif !r2
 then (Option.bind (J0 r1.2) fun r3 =>
 some (r3.1,r3.2))
 else (some (r1.1,r1.2))
def X7 (n:Nat)(rec_semtypebase_Source_Near:Semtypebase_Source->Api_Type->Int->Int->Option (Val×Semtypebase_Source))(rec_semtypebase_Source_near:Semtypebase_Source->Api_Type->Int->Int->Option (Val×Semtypebase_Source))(rec_semtypebase_Source_nearFunction:Semtypebase_Source->Api_Type->Api_TypeNode->Int->Option (Val×Semtypebase_Source))(rec_semtypebase_Source_nearMap:Semtypebase_Source->Api_Type->Api_TypeNode->Int->Option (Val×Semtypebase_Source))(d:Semtypebase_Source)(t:Api_Type)(a2_2:Int)(a3_3:Int):Option (Val×Semtypebase_Source) :=
 Option.bind (bif decide (a3_3<=0)
 then (some true)
 else (some (decide (a2_2<0)))) fun q1 =>
 Option.bind (bif q1
 then (some true)
 else (some (decide ((t.Nodes.length:Int)<=a2_2)))) fun q2 =>
 bif q2
 then (Option.bind (J0 d) fun r3 =>
 some (r3.1,r3.2))
 else (Option.bind (idx t.Nodes a2_2) fun e4 =>
 bif e4.Kind==3
 then (Option.bind (b7C .i64 e4.Hi 2) fun d5 =>
 Option.bind (b7C .i64 e4.Lo 2) fun d6 =>
 Option.bind (z8 d 3) fun r7 =>
 Option.bind (idx ([e4.Lo,e4.Hi,wr .i64 (e4.Lo+(wr .i64 (d5-d6)))]:List Int) r7.1) fun _ =>
 Option.bind (([e4.Lo,e4.Hi,wr .i64 (e4.Lo+(wr .i64 (d5-d6)))]:List Int)[r7.1.toNat]?) fun e9 =>
 Option.bind (a16 e9) fun r10 =>
 some (r10,r7.2))
 else (bif e4.Kind==4
 then (Option.bind (a2t e4.Text) fun r11 =>
 some (r11,d))
 else (bif e4.Kind==5
 then (Option.bind (a0m d) fun r12 =>
 Option.bind (a2t r12.1) fun r13 =>
 some (r13,r12.2))
 else (bif e4.Kind==6
 then (Option.bind (a3v e4.Text) fun r14 =>
 some (r14,d))
 else (bif e4.Kind==7
 then (Option.bind (V9 d) fun r15 =>
 Option.bind (a3v r15.1) fun r16 =>
 some (r16,r15.2))
 else (bif e4.Kind==8
 then (Option.bind (z8 d 2) fun r17 =>
 Option.bind (a5J r17.1) fun r18 =>
 some (r18,r17.2))
 else (bif e4.Kind==9
 then (Option.bind (W4) fun r19 =>
 some (r19,d))
 else (Option.bind (bif e4.Kind==10
 then (some (e4.Kind==10))
 else (some (e4.Kind==12))) fun b20 =>
 bif b20
 then (Option.bind (iter (a1a t a3_3 e4 rec_semtypebase_Source_Near) ((e4.Kids.length:Int).toNat+1) (0,d,(0,0,(⟨#[]⟩:ByteArray),[],[],[],[]))) fun b25 =>
 Option.bind (bif e4.Kind==12
 then (Option.bind (idx b25.2.2.2.2.1 1) fun _ =>
 Option.bind (b25.2.2.2.2.1[(1:Int).toNat]?) fun e27 =>
 bif e27.Kind != 7
 then (Option.bind (W4) fun r28 =>
 Option.bind (idx b25.2.2.2.2.1 1) fun _ =>
 Option.bind (b25.2.2.2.2.1[(1:Int).toNat]?) fun _ =>
 some (7,b25.2.2.1,b25.2.2.2.1,b25.2.2.2.2.1.set ((1:Int).toNat) r28,b25.2.2.2.2.2.1,b25.2.2.2.2.2.2.1,b25.2.2.2.2.2.2.2))
 else (some (7,b25.2.2.1,b25.2.2.2.1,b25.2.2.2.2.1,b25.2.2.2.2.2.1,b25.2.2.2.2.2.2.1,b25.2.2.2.2.2.2.2)))
 else (some (6,b25.2.2.1,b25.2.2.2.1,b25.2.2.2.2.1,b25.2.2.2.2.2.1,b25.2.2.2.2.2.2.1,b25.2.2.2.2.2.2.2))) fun b31 =>
 some (Val.mk b31.1 b31.2.1 b31.2.2.1 b31.2.2.2.1 b31.2.2.2.2.1 b31.2.2.2.2.2.1 b31.2.2.2.2.2.2,b25.1))
 else (bif e4.Kind==13
 then (Option.bind (rec_semtypebase_Source_nearMap d t e4 a3_3) fun r32 =>
 some (r32.1,r32.2))
 else (bif e4.Kind==14
 then (Option.bind (rec_semtypebase_Source_nearFunction d t e4 a3_3) fun r33 =>
 some (r33.1,r33.2))
 else (bif e4.Kind==16
 then (Option.bind (z8 d (e4.Kids.length:Int)) fun r34 =>
 Option.bind (idx e4.Kids r34.1) fun e35 =>
 Option.bind (rec_semtypebase_Source_near r34.2 t e35 a3_3) fun r36 =>
 some (r36.1,r36.2))
 else (bif e4.Kind==17
 then (Option.bind (z8 d (e4.Kids.length:Int)) fun r37 =>
 Option.bind (idx e4.Kids r37.1) fun e38 =>
 Option.bind (rec_semtypebase_Source_near r37.2 t e38 a3_3) fun r39 =>
 Option.bind (iter (J7 t e4) ((e4.Kids.length:Int).toNat+1) (0,r39.1)) fun b49 =>
 some (b49,r39.2))
 else (bif e4.Kind==19
 then (Option.bind (J0 d) fun r50 =>
 Option.bind (a3E r50.1 ([e4.Text]:List ByteArray)) fun r51 =>
 some (r51,r50.2))
 else (Option.bind (a1F n d 2) fun r52 =>
 some (r52.1,r52.2)))))))))))))))
def X9 (n:Nat)(rec_semtypebase_Source_Near:Semtypebase_Source->Api_Type->Int->Int->Option (Val×Semtypebase_Source))(_:Semtypebase_Source->Api_Type->Int->Int->Option (Val×Semtypebase_Source))(_:Semtypebase_Source->Api_Type->Api_TypeNode->Int->Option (Val×Semtypebase_Source))(_:Semtypebase_Source->Api_Type->Api_TypeNode->Int->Option (Val×Semtypebase_Source))(d:Semtypebase_Source)(t:Api_Type)(a2_2:Api_TypeNode)(a3_3:Int):Option (Val×Semtypebase_Source) :=
 Option.bind (z8 d 3) fun r1 =>
 Option.bind (iter (W9 t a2_2 a3_3 rec_semtypebase_Source_Near) (r1.1.toNat+2) ([],r1.1,r1.2)) fun b13 =>
 Option.bind (a04 n (wr .i64 ((a2_2.Kids.length:Int)-1)) b13.1) fun r14 =>
 bif r14.2 != 0
 then (Option.bind (W4) fun r15 =>
 some (r15,b13.2))
 else (some (r14.1,b13.2))
def a0I (_:Nat)(rec_semtypebase_Source_Near:Semtypebase_Source->Api_Type->Int->Int->Option (Val×Semtypebase_Source))(_:Semtypebase_Source->Api_Type->Int->Int->Option (Val×Semtypebase_Source))(_:Semtypebase_Source->Api_Type->Api_TypeNode->Int->Option (Val×Semtypebase_Source))(_:Semtypebase_Source->Api_Type->Api_TypeNode->Int->Option (Val×Semtypebase_Source))(d:Semtypebase_Source)(t:Api_Type)(a2_2:Api_TypeNode)(a3_3:Int):Option (Val×Semtypebase_Source) :=
 Option.bind (iter (a0x t a2_2 a3_3 rec_semtypebase_Source_Near) ((a2_2.Fields.length:Int).toNat+1) ([],[],0,d)) fun b11 =>
 Option.bind (z8 b11.2.2 2) fun r12 =>
 Option.bind (bif r12.1==1
 then (Option.bind (z8 r12.2 2) fun r13 =>
 Option.bind (Z8 (b11.1.length+([Key.mk r13.1 (⟨#[111,116,104,101,114]⟩:ByteArray)]:List Key).length) 24) fun _ =>
 bif r13.1==0
 then (Option.bind (rec_semtypebase_Source_Near r13.2 t a2_2.Rest.1 (wr .i64 (a3_3-1))) fun r15 =>
 Option.bind (Z8 (b11.2.1.length+([r15.1]:List Val).length) 128) fun _ =>
 some (b11.1++([Key.mk r13.1 (⟨#[111,116,104,101,114]⟩:ByteArray)]:List Key),b11.2.1++([r15.1]:List Val),r15.2))
 else (bif r13.1==1
 then (Option.bind (rec_semtypebase_Source_Near r13.2 t a2_2.Rest.2 (wr .i64 (a3_3-1))) fun r17 =>
 Option.bind (Z8 (b11.2.1.length+([r17.1]:List Val).length) 128) fun _ =>
 some (b11.1++([Key.mk r13.1 (⟨#[111,116,104,101,114]⟩:ByteArray)]:List Key),b11.2.1++([r17.1]:List Val),r17.2))
 else (none)))
 else (some (b11.1,b11.2.1,r12.2))) fun b19 =>
 Option.bind (a1r b19.1 b19.2.1) fun r20 =>
 bif r20.2 != 0
 then (Option.bind (W4) fun r21 =>
 some (r21,b19.2.2))
 else (some (r20.1,b19.2.2))
def z7:Nat->(Semtypebase_Source->Api_Type->Int->Int->Option (Val×Semtypebase_Source))×(Semtypebase_Source->Api_Type->Int->Int->Option (Val×Semtypebase_Source))×(Semtypebase_Source->Api_Type->Api_TypeNode->Int->Option (Val×Semtypebase_Source))×(Semtypebase_Source->Api_Type->Api_TypeNode->Int->Option (Val×Semtypebase_Source))
 | 0=>(fun _ _ _ _=>none,fun _ _ _ _=>none,fun _ _ _ _=>none,fun _ _ _ _=>none)
 | n+1=>(a1q n ((z7 n).1) ((z7 n).2.1) ((z7 n).2.2.1) ((z7 n).2.2.2),X7 n ((z7 n).1) ((z7 n).2.1) ((z7 n).2.2.1) ((z7 n).2.2.2),X9 n ((z7 n).1) ((z7 n).2.1) ((z7 n).2.2.1) ((z7 n).2.2.2),a0I n ((z7 n).1) ((z7 n).2.1) ((z7 n).2.2.1) ((z7 n).2.2.2))
def a3j (n:Nat):Semtypebase_Source->Api_Type->Int->Int->Option (Val×Semtypebase_Source):=(z7 n).1
def b4d (n:Nat):Semtypebase_Source->Api_Type->Int->Int->Option (Val×Semtypebase_Source):=(z7 n).2.1
def a9n (n:Nat):Semtypebase_Source->Api_Type->Api_TypeNode->Int->Option (Val×Semtypebase_Source):=(z7 n).2.2.1
def b1Q (n:Nat):Semtypebase_Source->Api_Type->Api_TypeNode->Int->Option (Val×Semtypebase_Source):=(z7 n).2.2.2
def a52 (n:Nat)(l:List Int)(m:List Int):Option (Api_Type×Val) :=
 Option.bind (z8 (Semtypebase_Source.mk l 0) 7) fun r1 =>
 Option.bind (a1U r1.2 (wr .i64 (1+r1.1))) fun r2 =>
 Option.bind (z8 (Semtypebase_Source.mk m 0) (r2.1.Nodes.length:Int)) fun r3 =>
 Option.bind (a3j n r3.2 r2.1 r3.1 4) fun r4 =>
 some (r2.1,r4.1)
def a3s (l:List Int)(k:Int)(x1:Int):Option (Fl Int Int) :=
 Option.bind (bif decide (x1<(l.length:Int))
 then (Option.bind (idx l x1) fun e2 =>
 some (decide (e2<k)))
 else (some false)) fun q3 =>
 bif q3
 then (some (.next (wr .i64 (x1+1))))
 else (some (.done x1))
def a6K (l:List Int)(k:Int):Option (List Int) :=
 Option.bind (iter (a3s l k) ((l.length:Int).toNat+1) 0) fun b4 =>
 Option.bind (bif decide (b4<(l.length:Int))
 then (Option.bind (idx l b4) fun e5 =>
 some (e5==k))
 else (some false)) fun q6 =>
 bif q6
 then (some l)
 else (Option.bind (cut l 0 b4) fun y7 =>
 Option.bind (Z8 (0+y7.length) 8) fun _ =>
 Option.bind (Z8 (y7.length+([k]:List Int).length) 8) fun _ =>
 Option.bind (cut l b4 (l.length:Int)) fun y10 =>
 Option.bind (Z8 ((y7++([k]:List Int)).length+y10.length) 8) fun _ =>
 some ((y7++([k]:List Int))++y10))
def a19 (l:List Int)(x1:(List Int)×Int):Option (Fl ((List Int)×Int) (List Int)) :=
 bif decide (x1.2<(l.length:Int))
 then (Option.bind (idx l x1.2) fun e2 =>
 Option.bind (a6K x1.1 e2) fun r3 =>
 some (.next (r3,wr .i64 (x1.2+1))))
 else (some (.done x1.1))
def a4Y (l:List Int):Option (List Int) :=
 Option.bind (iter (a19 l) ((l.length:Int).toNat+1) (([]:List Int),0)) fun b4 =>
 some b4
def a5E (g:Api_Goal):Option Api_Goal :=
 Option.bind (a4Y g.Pos) fun r1 =>
 Option.bind (a4Y g.Neg) fun r2 =>
 some (Api_Goal.mk r1 r2 g.Lists)
def a09 (t:Api_Type)(x2:Int×Semtypebase_Source×((List Int)×(List Int)×Bool)):Option (Fl (Int×Semtypebase_Source×((List Int)×(List Int)×Bool)) (Semtypebase_Source×((List Int)×(List Int)×Bool))) :=
 bif decide (0<x2.1)
 then (Option.bind (z8 x2.2.1 (t.Nodes.length:Int)) fun r3 =>
 Option.bind (Z8 (x2.2.2.1.length+([r3.1]:List Int).length) 8) fun _ =>
 some (.next (wr .i64 (x2.1-1),r3.2,(x2.2.2.1++([r3.1]:List Int),x2.2.2.2.1,x2.2.2.2.2))))
 else (some (.done (x2.2.1,(x2.2.2.1,x2.2.2.2.1,x2.2.2.2.2))))
def a1c (t:Api_Type)(x7:Int×Semtypebase_Source×((List Int)×(List Int)×Bool)):Option (Fl (Int×Semtypebase_Source×((List Int)×(List Int)×Bool)) (Semtypebase_Source×((List Int)×(List Int)×Bool))) :=
 bif decide (0<x7.1)
 then (Option.bind (z8 x7.2.1 (t.Nodes.length:Int)) fun r8 =>
 Option.bind (Z8 (x7.2.2.2.1.length+([r8.1]:List Int).length) 8) fun _ =>
 some (.next (wr .i64 (x7.1-1),r8.2,(x7.2.2.1,x7.2.2.2.1++([r8.1]:List Int),x7.2.2.2.2))))
 else (some (.done (x7.2.1,(x7.2.2.1,x7.2.2.2.1,x7.2.2.2.2))))
def a3h (s:Semtypebase_Source)(t:Api_Type):Option (Api_Goal×Semtypebase_Source) :=
 Option.bind (z8 s 2) fun r1 =>
 Option.bind (iter (a09 t) ((wr .i64 (1+r1.1)).toNat+2) (wr .i64 (1+r1.1),r1.2,([],[],false))) fun b5 =>
 Option.bind (z8 b5.1 3) fun r6 =>
 Option.bind (iter (a1c t) (r6.1.toNat+2) (r6.1,r6.2,(b5.2.1,b5.2.2.1,b5.2.2.2))) fun b10 =>
 Option.bind (z8 b10.1 8) fun r11 =>
 Option.bind (a5E (Api_Goal.mk b10.2.1 b10.2.2.1 (r11.1==1))) fun r12 =>
 some (r12,r11.2)
def a0C (t:Api_Type)(k:Int):Option Bool :=
 Option.bind (bif decide (0<=k)
 then (some (decide (k<(t.Nodes.length:Int))))
 else (some false)) fun q1 =>
 some q1
def a5h (d:Api_Type)(t:Api_TypeNode)(x1:Int):Option (Fl Int (Sum Unit Bool)) :=
 bif decide (x1<(t.Kids.length:Int))
 then (Option.bind (idx t.Kids x1) fun e2 =>
 Option.bind (a0C d e2) fun r3 =>
 bif !r3
 then (some (.done (.inr false)))
 else (some (.next (wr .i64 (x1+1)))))
 else (some (.done (.inl ())))
def a42 (d:Api_Type)(t:Api_TypeNode)(x24:Int):Option (Fl Int (Sum Unit Bool)) :=
 bif decide (x24<(t.Fields.length:Int))
 then (Option.bind (idx t.Fields x24) fun e25 =>
 Option.bind (a0C d e25.Node) fun r26 =>
 Option.bind (bif !r26
 then (some true)
 else (Option.bind (a1Q e25.Key_) fun r27 =>
 some (!r27))) fun q28 =>
 Option.bind (bif q28
 then (some true)
 else (Option.bind (bif decide (0<x24)
 then (Option.bind (idx t.Fields (wr .i64 (x24-1))) fun e29 =>
 Option.bind (W7 e29.Key_ e25.Key_) fun r30 =>
 some (decide (0<=r30)))
 else (some false)) fun q31 =>
 some q31)) fun q32 =>
 bif q32
 then (some (.done (.inr false)))
 else (some (.next (wr .i64 (x24+1)))))
 else (some (.done (.inl ())))
def a6F (d:Api_Type)(t:Api_TypeNode):Option Bool :=
 Option.bind (iter (a5h d t) ((t.Kids.length:Int).toNat+1) 0) fun b4 =>
 onEnd (fun _ =>
 Option.bind (bif t.Kind==4
 then (some true)
 else (some (t.Kind==6))) fun q7 =>
 Option.bind (bif q7
 then (some true)
 else (some (t.Kind==19))) fun q8 =>
 Option.bind (bif !(t.Kind==3)
 then (Option.bind (bif t.Lo != 0
 then (some true)
 else (some (t.Hi != 0))) fun q9 =>
 some q9)
 else (some false)) fun q10 =>
 Option.bind (bif q10
 then (some true)
 else (Option.bind (bif !q8
 then (some (!(Z6 t.Text (⟨#[]⟩:ByteArray))))
 else (some false)) fun q11 =>
 some q11)) fun q12 =>
 bif q12
 then (some false)
 else (Option.bind (bif t.Kind != 13
 then (Option.bind (bif decide (0<(t.Fields.length:Int))
 then (some true)
 else (some (!(b3l t.Rest (0,0))))) fun q13 =>
 some q13)
 else (some false)) fun q14 =>
 bif q14
 then (some false)
 else (bif t.Kind==3
 then (Option.bind (bif (t.Kids.length:Int)==0
 then (some (decide (t.Lo<=t.Hi)))
 else (some false)) fun q15 =>
 some q15)
 else (bif t.Kind==4
 then (Option.bind (bif (t.Kids.length:Int)==0
 then (some (decide ((t.Text.size:Int)<=64)))
 else (some false)) fun q16 =>
 some q16)
 else (bif t.Kind==6
 then (Option.bind (bif (t.Kids.length:Int)==0
 then (Option.bind (a2u t.Text) fun r17 =>
 some r17)
 else (some false)) fun q18 =>
 some q18)
 else (bif t.Kind==19
 then (Option.bind (bif (t.Kids.length:Int)==0
 then (Option.bind (a2g t.Text) fun r19 =>
 some r19)
 else (some false)) fun q20 =>
 some q20)
 else (Option.bind (bif t.Kind==1
 then (some (t.Kind==1))
 else (bif t.Kind==2
 then (some (t.Kind==2))
 else (bif t.Kind==5
 then (some (t.Kind==5))
 else (bif t.Kind==7
 then (some (t.Kind==7))
 else (bif t.Kind==8
 then (some (t.Kind==8))
 else (bif t.Kind==9
 then (some (t.Kind==9))
 else (bif t.Kind==11
 then (some (t.Kind==11))
 else (some (t.Kind==15))))))))) fun b21 =>
 bif b21
 then (some ((t.Kids.length:Int)==0))
 else (bif t.Kind==10
 then (some (decide ((t.Kids.length:Int)<=4)))
 else (bif t.Kind==12
 then (some ((t.Kids.length:Int)==2))
 else (bif t.Kind==14
 then (Option.bind (bif decide (1<=(t.Kids.length:Int))
 then (some (decide ((t.Kids.length:Int)<=5)))
 else (some false)) fun q22 =>
 some q22)
 else (Option.bind (bif t.Kind==16
 then (some (t.Kind==16))
 else (some (t.Kind==17))) fun b23 =>
 bif b23
 then (some (decide (1<=(t.Kids.length:Int))))
 else (bif t.Kind==18
 then (some ((t.Kids.length:Int)==1))
 else (bif t.Kind==13
 then (Option.bind (iter (a42 d t) ((t.Fields.length:Int).toNat+1) 0) fun b33 =>
 onEnd (fun _ =>
 Option.bind (bif (t.Kids.length:Int)==0
 then (Option.bind (a0C d t.Rest.1) fun r36 =>
 some r36)
 else (some false)) fun q37 =>
 Option.bind (bif q37
 then (Option.bind (a0C d t.Rest.2) fun r38 =>
 some r38)
 else (some false)) fun q39 =>
 some q39) (fun y35 =>
 some y35) b33)
 else (some false)))))))))))))) (fun y6 =>
 some y6) b4
def a43 (n_0:Api_TypeNode):Option Bool :=
 Option.bind (bif n_0.Kind==16
 then (some true)
 else (some (n_0.Kind==17))) fun q1 =>
 Option.bind (bif q1
 then (some true)
 else (some (n_0.Kind==18))) fun q2 =>
 some q2
def a2I (d:Api_Type)(x2:Int):Option (Fl Int (Sum Unit Int)) :=
 bif decide (x2<(d.Nodes.length:Int))
 then (Option.bind (idx d.Nodes x2) fun e3 =>
 Option.bind (a6F d e3) fun r4 =>
 bif !r4
 then (some (.done (.inr 1)))
 else (some (.next (wr .i64 (x2+1)))))
 else (some (.done (.inl ())))
def K0 (d:Api_Type)(x10:(List Bool)×Int)(x11:(List Bool)×Bool×Int):Option (Fl ((List Bool)×Bool×Int) ((List Bool)×Bool)) :=
 Option.bind (idx d.Nodes x10.2) fun e12 =>
 Option.bind (a43 e12) fun r13 =>
 Option.bind (bif r13
 then (Option.bind (idx d.Nodes x10.2) fun e14 =>
 some (decide (x11.2.2<(e14.Kids.length:Int))))
 else (some false)) fun q15 =>
 bif q15
 then (Option.bind (bif x11.2.1
 then (Option.bind (idx d.Nodes x10.2) fun e16 =>
 Option.bind (idx e16.Kids x11.2.2) fun e17 =>
 Option.bind (idx x11.1 e17) fun _ =>
 Option.bind (x11.1[e17.toNat]?) fun e19 =>
 some e19)
 else (some false)) fun q20 =>
 some (.next (x11.1,q20,wr .i64 (x11.2.2+1))))
 else (some (.done (x11.1,x11.2.1)))
def X4 (d:Api_Type)(n:Nat)(x10:(List Bool)×Int):Option (Fl ((List Bool)×Int) (List Bool)) :=
 bif decide (x10.2<(d.Nodes.length:Int))
 then (Option.bind (iter (K0 d x10) n (x10.1,true,0)) fun b21 =>
 Option.bind (idx b21.1 x10.2) fun _ =>
 Option.bind (b21.1[x10.2.toNat]?) fun e23 =>
 Option.bind (bif e23
 then (some true)
 else (some b21.2)) fun q24 =>
 Option.bind (idx b21.1 x10.2) fun _ =>
 Option.bind (b21.1[x10.2.toNat]?) fun _ =>
 some (.next (b21.1.set x10.2.toNat q24,wr .i64 (x10.2+1))))
 else (some (.done x10.1))
def X6 (d:Api_Type)(n:Nat)(x9:(List Bool)×Int):Option (Fl ((List Bool)×Int) (List Bool)) :=
 bif decide (x9.2<(d.Nodes.length:Int))
 then (Option.bind (iter (X4 d n) ((d.Nodes.length:Int).toNat+1) (x9.1,0)) fun b27 =>
 some (.next (b27,wr .i64 (x9.2+1))))
 else (some (.done x9.1))
def a1o (x29:(List Bool)×Int):Option (Fl ((List Bool)×Int) (Sum (List Bool) (Int×(List Bool)))) :=
 bif decide (x29.2<(x29.1.length:Int))
 then (Option.bind (idx x29.1 x29.2) fun _ =>
 Option.bind (x29.1[x29.2.toNat]?) fun e31 =>
 bif !e31
 then (some (.done (.inr (3,x29.1))))
 else (some (.next (x29.1,wr .i64 (x29.2+1)))))
 else (some (.done (.inl x29.1)))
def a1g (n:Nat)(d:Api_Type):Option Int :=
 Option.bind (a0C d d.Root) fun r1 =>
 bif !r1
 then (some 1)
 else (Option.bind (iter (a2I d) ((d.Nodes.length:Int).toNat+1) 0) fun b5 =>
 onEnd (fun _ =>
 Option.bind (b3R (d.Nodes.length:Int) (d.Nodes.length:Int) 1) fun m8 =>
 Option.bind (iter (X6 d n) ((d.Nodes.length:Int).toNat+1) (List.replicate m8 (false:Bool),0)) fun b28 =>
 Option.bind (iter a1o ((b28.length:Int).toNat+1) (b28,0)) fun b32 =>
 onEnd (fun _ =>
 some 0) (fun y34 =>
 some y34.1) b32) (fun y7 =>
 some y7) b5)
def a2l (t:Api_Type)(g:Api_Goal)(x3:Int):Option (Fl Int (Sum Unit Bool)) :=
 bif decide (x3<((g.Pos++g.Neg).length:Int))
 then (Option.bind (idx (g.Pos++g.Neg) x3) fun e4 =>
 Option.bind (a0C t e4) fun r5 =>
 bif !r5
 then (some (.done (.inr false)))
 else (some (.next (wr .i64 (x3+1)))))
 else (some (.done (.inl ())))
def a48 (t:Api_Type)(g:Api_Goal):Option Bool :=
 Option.bind (Z8 (0+g.Pos.length) 8) fun _ =>
 Option.bind (Z8 (g.Pos.length+g.Neg.length) 8) fun _ =>
 Option.bind (iter (a2l t g) (((g.Pos++g.Neg).length:Int).toNat+1) 0) fun b6 =>
 onEnd (fun _ =>
 some true) (fun y8 =>
 some y8) b6
def a5I (v:Val)(k:Key)(x1:Int):Option (Fl Int (Sum Unit Int)) :=
 bif decide (x1<(v.Keys.length:Int))
 then (Option.bind (idx v.Keys x1) fun e2 =>
 bif a6y e2 k
 then (some (.done (.inr x1)))
 else (some (.next (wr .i64 (x1+1)))))
 else (some (.done (.inl ())))
def a7p (v:Val)(k:Key):Option Int :=
 Option.bind (iter (a5I v k) ((v.Keys.length:Int).toNat+1) 0) fun b3 =>
 onEnd (fun _ =>
 some (-1)) (fun y5 =>
 some y5) b3
def a4B (n_0:Api_TypeNode)(k:Key)(x1:Int):Option (Fl Int (Sum Unit Int)) :=
 bif decide (x1<(n_0.Fields.length:Int))
 then (Option.bind (idx n_0.Fields x1) fun e2 =>
 bif a6y e2.Key_ k
 then (some (.done (.inr x1)))
 else (some (.next (wr .i64 (x1+1)))))
 else (some (.done (.inl ())))
def a3a (n_0:Api_TypeNode)(k:Key):Option Int :=
 Option.bind (iter (a4B n_0 k) ((n_0.Fields.length:Int).toNat+1) 0) fun b3 =>
 onEnd (fun _ =>
 some (-1)) (fun y5 =>
 some y5) b3
def a3m (v:Val)(t:Api_Type)(n_2:Api_TypeNode)(rec_semtyperef7_members:(List Val)->Api_Type->(List Int)->Option Bool)(rec_semtyperef7_member:Val->Api_Type->Int->Option Bool)(x1:Int):Option (Fl Int (Sum Unit Bool)) :=
 bif decide (x1<(v.Entries.length:Int))
 then (Option.bind (idx v.Entries x1) fun e2 =>
 Option.bind (cut n_2.Kids 0 (wr .i64 ((n_2.Kids.length:Int)-1))) fun y3 =>
 Option.bind (rec_semtyperef7_members e2.Args t y3) fun r4 =>
 Option.bind (bif r4
 then (Option.bind (bif e2.Fails
 then (some true)
 else (Option.bind (idx n_2.Kids (wr .i64 ((n_2.Kids.length:Int)-1))) fun e5 =>
 Option.bind (rec_semtyperef7_member e2.Result t e5) fun r6 =>
 some (!r6))) fun q7 =>
 some q7)
 else (some false)) fun q8 =>
 bif q8
 then (some (.done (.inr false)))
 else (some (.next (wr .i64 (x1+1)))))
 else (some (.done (.inl ())))
def a3N (d:Val)(a2_2:Api_TypeNode)(x1:Int):Option (Fl Int (Sum Unit Bool)) :=
 bif decide (x1<(a2_2.Fields.length:Int))
 then (Option.bind (idx a2_2.Fields x1) fun e2 =>
 Option.bind (bif !e2.Optional
 then (Option.bind (idx a2_2.Fields x1) fun e3 =>
 Option.bind (a7p d e3.Key_) fun r4 =>
 some (decide (r4<0)))
 else (some false)) fun q5 =>
 bif q5
 then (some (.done (.inr false)))
 else (some (.next (wr .i64 (x1+1)))))
 else (some (.done (.inl ())))
def a2d (d:Val)(t:Api_Type)(a2_2:Api_TypeNode)(rec_semtyperef7_member:Val->Api_Type->Int->Option Bool)(x9:Int):Option (Fl Int (Sum Unit Bool)) :=
 bif decide (x9<(d.Keys.length:Int))
 then (Option.bind (idx d.Keys x9) fun e10 =>
 Option.bind (a3a a2_2 e10) fun r11 =>
 Option.bind (Option.bind (idx d.Keys x9) fun e12 =>
 bif e12.Kind==0
 then (some a2_2.Rest.1)
 else (bif e12.Kind==1
 then (some a2_2.Rest.2)
 else (none))) fun b13 =>
 Option.bind (bif decide (0<=r11)
 then (Option.bind (idx a2_2.Fields r11) fun e14 =>
 some e14.Node)
 else (some b13)) fun b15 =>
 Option.bind (idx d.Kids x9) fun e16 =>
 Option.bind (rec_semtyperef7_member e16 t b15) fun r17 =>
 bif !r17
 then (some (.done (.inr false)))
 else (some (.next (wr .i64 (x9+1)))))
 else (some (.done (.inl ())))
def a2B (d:Val)(t:Api_Type)(e1:Api_TypeNode)(rec_semtyperef7_member:Val->Api_Type->Int->Option Bool)(x14:Int):Option (Fl Int (Sum Unit Bool)) :=
 bif decide (x14<(e1.Kids.length:Int))
 then (Option.bind (idx e1.Kids x14) fun e15 =>
 Option.bind (rec_semtyperef7_member d t e15) fun r16 =>
 bif r16
 then (some (.done (.inr true)))
 else (some (.next (wr .i64 (x14+1)))))
 else (some (.done (.inl ())))
def a1x (d:Val)(t:Api_Type)(e1:Api_TypeNode)(rec_semtyperef7_member:Val->Api_Type->Int->Option Bool)(x20:Int):Option (Fl Int (Sum Unit Bool)) :=
 bif decide (x20<(e1.Kids.length:Int))
 then (Option.bind (idx e1.Kids x20) fun e21 =>
 Option.bind (rec_semtyperef7_member d t e21) fun r22 =>
 bif !r22
 then (some (.done (.inr false)))
 else (some (.next (wr .i64 (x20+1)))))
 else (some (.done (.inl ())))
def a2A (d:Val)(e1:Api_TypeNode)(x28:Int):Option (Fl Int (Sum Unit Bool)) :=
 bif decide (x28<(d.Labels.length:Int))
 then (Option.bind (idx d.Labels x28) fun e29 =>
 bif Z6 e29 e1.Text
 then (some (.done (.inr true)))
 else (some (.next (wr .i64 (x28+1)))))
 else (some (.done (.inl ())))
def a2i (l:List Val)(t:Api_Type)(nodes:List Int)(rec_semtyperef7_member:Val->Api_Type->Int->Option Bool)(x1:Int):Option (Fl Int (Sum Unit Bool)) :=
 bif decide (x1<(l.length:Int))
 then (Option.bind (idx l x1) fun e2 =>
 Option.bind (idx nodes x1) fun e3 =>
 Option.bind (rec_semtyperef7_member e2 t e3) fun r4 =>
 bif !r4
 then (some (.done (.inr false)))
 else (some (.next (wr .i64 (x1+1)))))
 else (some (.done (.inl ())))
def a5O (_:Nat)(_:Val->Api_Type->Api_TypeNode->Option Bool)(_:Val->Api_Type->Api_TypeNode->Option Bool)(rec_semtyperef7_member:Val->Api_Type->Int->Option Bool)(rec_semtyperef7_members:(List Val)->Api_Type->(List Int)->Option Bool)(v:Val)(t:Api_Type)(n_2:Api_TypeNode):Option Bool :=
 bif v.Int_ != (wr .i64 ((n_2.Kids.length:Int)-1))
 then (some false)
 else (Option.bind (iter (a3m v t n_2 rec_semtyperef7_members rec_semtyperef7_member) ((v.Entries.length:Int).toNat+1) 0) fun b9 =>
 onEnd (fun _ =>
 some true) (fun y11 =>
 some y11) b9)
def a6e (_:Nat)(_:Val->Api_Type->Api_TypeNode->Option Bool)(_:Val->Api_Type->Api_TypeNode->Option Bool)(rec_semtyperef7_member:Val->Api_Type->Int->Option Bool)(_:(List Val)->Api_Type->(List Int)->Option Bool)(d:Val)(t:Api_Type)(a2_2:Api_TypeNode):Option Bool :=
 Option.bind (iter (a3N d a2_2) ((a2_2.Fields.length:Int).toNat+1) 0) fun b6 =>
 onEnd (fun _ =>
 Option.bind (iter (a2d d t a2_2 rec_semtyperef7_member) ((d.Keys.length:Int).toNat+1) 0) fun b18 =>
 onEnd (fun _ =>
 some true) (fun y20 =>
 some y20) b18) (fun y8 =>
 some y8) b6
def a6W (_:Nat)(rec_semtyperef7_function:Val->Api_Type->Api_TypeNode->Option Bool)(rec_semtyperef7_mapping:Val->Api_Type->Api_TypeNode->Option Bool)(rec_semtyperef7_member:Val->Api_Type->Int->Option Bool)(rec_semtyperef7_members:(List Val)->Api_Type->(List Int)->Option Bool)(d:Val)(t:Api_Type)(a2_2:Int):Option Bool :=
 Option.bind (idx t.Nodes a2_2) fun e1 =>
 bif e1.Kind==2
 then (some true)
 else (bif e1.Kind==3
 then (Option.bind (bif d.Kind==1
 then (some (decide (e1.Lo<=d.Int_)))
 else (some false)) fun q2 =>
 Option.bind (bif q2
 then (some (decide (d.Int_<=e1.Hi)))
 else (some false)) fun q3 =>
 some q3)
 else (bif e1.Kind==4
 then (Option.bind (bif d.Kind==2
 then (some (Z6 d.Text e1.Text))
 else (some false)) fun q4 =>
 some q4)
 else (bif e1.Kind==5
 then (some (d.Kind==2))
 else (bif e1.Kind==6
 then (Option.bind (bif d.Kind==3
 then (some (Z6 d.Text e1.Text))
 else (some false)) fun q5 =>
 some q5)
 else (bif e1.Kind==7
 then (some (d.Kind==3))
 else (bif e1.Kind==8
 then (some (d.Kind==4))
 else (bif e1.Kind==9
 then (some (d.Kind==5))
 else (bif e1.Kind==11
 then (some (d.Kind==6))
 else (bif e1.Kind==15
 then (some (d.Kind==9))
 else (bif e1.Kind==10
 then (Option.bind (bif d.Kind==6
 then (Option.bind (rec_semtyperef7_members d.Kids t e1.Kids) fun r6 =>
 some r6)
 else (some false)) fun q7 =>
 some q7)
 else (bif e1.Kind==12
 then (Option.bind (bif d.Kind==7
 then (Option.bind (rec_semtyperef7_members d.Kids t e1.Kids) fun r8 =>
 some r8)
 else (some false)) fun q9 =>
 some q9)
 else (bif e1.Kind==13
 then (Option.bind (bif d.Kind==8
 then (Option.bind (rec_semtyperef7_mapping d t e1) fun r10 =>
 some r10)
 else (some false)) fun q11 =>
 some q11)
 else (bif e1.Kind==14
 then (Option.bind (bif d.Kind==9
 then (Option.bind (rec_semtyperef7_function d t e1) fun r12 =>
 some r12)
 else (some false)) fun q13 =>
 some q13)
 else (bif e1.Kind==16
 then (Option.bind (iter (a2B d t e1 rec_semtyperef7_member) ((e1.Kids.length:Int).toNat+1) 0) fun b17 =>
 onEnd (fun _ =>
 some false) (fun y19 =>
 some y19) b17)
 else (bif e1.Kind==17
 then (Option.bind (iter (a1x d t e1 rec_semtyperef7_member) ((e1.Kids.length:Int).toNat+1) 0) fun b23 =>
 onEnd (fun _ =>
 some true) (fun y25 =>
 some y25) b23)
 else (bif e1.Kind==18
 then (Option.bind (idx e1.Kids 0) fun e26 =>
 Option.bind (rec_semtyperef7_member d t e26) fun r27 =>
 some (!r27))
 else (bif e1.Kind==19
 then (Option.bind (iter (a2A d e1) ((d.Labels.length:Int).toNat+1) 0) fun b30 =>
 onEnd (fun _ =>
 some false) (fun y32 =>
 some y32) b30)
 else (some false))))))))))))))))))
def a2w (_:Nat)(_:Val->Api_Type->Api_TypeNode->Option Bool)(_:Val->Api_Type->Api_TypeNode->Option Bool)(rec_semtyperef7_member:Val->Api_Type->Int->Option Bool)(_:(List Val)->Api_Type->(List Int)->Option Bool)(l:List Val)(t:Api_Type)(nodes:List Int):Option Bool :=
 bif (l.length:Int) != (nodes.length:Int)
 then (some false)
 else (Option.bind (iter (a2i l t nodes rec_semtyperef7_member) ((l.length:Int).toNat+1) 0) fun b5 =>
 onEnd (fun _ =>
 some true) (fun y7 =>
 some y7) b5)
def v7:Nat->(Val->Api_Type->Api_TypeNode->Option Bool)×(Val->Api_Type->Api_TypeNode->Option Bool)×(Val->Api_Type->Int->Option Bool)×((List Val)->Api_Type->(List Int)->Option Bool)
 | 0=>(fun _ _ _=>none,fun _ _ _=>none,fun _ _ _=>none,fun _ _ _=>none)
 | n+1=>(a5O n ((v7 n).1) ((v7 n).2.1) ((v7 n).2.2.1) ((v7 n).2.2.2),a6e n ((v7 n).1) ((v7 n).2.1) ((v7 n).2.2.1) ((v7 n).2.2.2),a6W n ((v7 n).1) ((v7 n).2.1) ((v7 n).2.2.1) ((v7 n).2.2.2),a2w n ((v7 n).1) ((v7 n).2.1) ((v7 n).2.2.1) ((v7 n).2.2.2))
def a06 (n:Nat):Val->Api_Type->Api_TypeNode->Option Bool:=(v7 n).1
def a1j (n:Nat):Val->Api_Type->Api_TypeNode->Option Bool:=(v7 n).2.1
def v8 (n:Nat):Val->Api_Type->Int->Option Bool:=(v7 n).2.2.1
def a0z (n:Nat):(List Val)->Api_Type->(List Int)->Option Bool:=(v7 n).2.2.2
def a35 (v:Val)(t:Api_Type)(g:Api_Goal)(n:Nat)(x1:Int):Option (Fl Int (Sum Unit Bool)) :=
 bif decide (x1<(g.Pos.length:Int))
 then (Option.bind (idx g.Pos x1) fun e2 =>
 Option.bind (v8 n v t e2) fun r3 =>
 bif !r3
 then (some (.done (.inr false)))
 else (some (.next (wr .i64 (x1+1)))))
 else (some (.done (.inl ())))
def a3Y (v:Val)(t:Api_Type)(g:Api_Goal)(n:Nat)(x7:Int):Option (Fl Int (Sum Unit Bool)) :=
 bif decide (x7<(g.Neg.length:Int))
 then (Option.bind (idx g.Neg x7) fun e8 =>
 Option.bind (v8 n v t e8) fun r9 =>
 bif r9
 then (some (.done (.inr false)))
 else (some (.next (wr .i64 (x7+1)))))
 else (some (.done (.inl ())))
def a7R (n:Nat)(v:Val)(t:Api_Type)(g:Api_Goal):Option Bool :=
 Option.bind (iter (a35 v t g n) ((g.Pos.length:Int).toNat+1) 0) fun b4 =>
 onEnd (fun _ =>
 Option.bind (iter (a3Y v t g n) ((g.Neg.length:Int).toNat+1) 0) fun b10 =>
 onEnd (fun _ =>
 Option.bind (bif !g.Lists
 then (some true)
 else (some (v.Kind==5))) fun q13 =>
 Option.bind (bif q13
 then (some true)
 else (some (v.Kind==7))) fun q14 =>
 some q14) (fun y12 =>
 some y12) b10) (fun y6 =>
 some y6) b4
def a0W (n:Nat)(v:Val)(t:Api_Type)(g:Api_Goal):Option Bool :=
 Option.bind (a0h n v) fun r1 =>
 Option.bind (bif r1
 then (Option.bind (a1g n t) fun r2 =>
 some (r2==0))
 else (some false)) fun q3 =>
 Option.bind (bif q3
 then (Option.bind (a48 t g) fun r4 =>
 some r4)
 else (some false)) fun q5 =>
 Option.bind (bif q5
 then (Option.bind (a7R n v t g) fun r6 =>
 some r6)
 else (some false)) fun q7 =>
 some q7
def a4s (s:List Api_Range)(n_1:Int)(x1:Int):Option (Fl Int (Sum Unit Bool)) :=
 bif decide (x1<(s.length:Int))
 then (Option.bind (idx s x1) fun e2 =>
 Option.bind (bif decide (e2.Lo<=n_1)
 then (some (decide (n_1<=e2.Hi)))
 else (some false)) fun q3 =>
 bif q3
 then (some (.done (.inr true)))
 else (some (.next (wr .i64 (x1+1)))))
 else (some (.done (.inl ())))
def a5Z (s:List Api_Range)(n_1:Int):Option Bool :=
 Option.bind (iter (a4s s n_1) ((s.length:Int).toNat+1) 0) fun b4 =>
 onEnd (fun _ =>
 some false) (fun y6 =>
 some y6) b4
def a5Y (s:Api_Names)(name:ByteArray):Option Bool :=
 Option.bind (K9 s.List_ name) fun r1 =>
 some (r1 != s.Cofinite)
def a93 (v:Val)(l:Api_Line):Option Bool :=
 bif v.Kind != l.Kind
 then (some false)
 else (bif l.Kind==1
 then (Option.bind (a5Z l.Ints v.Int_) fun r1 =>
 some r1)
 else (Option.bind (bif l.Kind==2
 then (some (l.Kind==2))
 else (some (l.Kind==3))) fun b2 =>
 bif b2
 then (Option.bind (a5Y l.Names v.Text) fun r3 =>
 some r3)
 else (bif l.Kind==6
 then (some ((v.Kids.length:Int)==l.Arity))
 else (bif l.Kind==9
 then (some (v.Int_==l.Arity))
 else (some true)))))
def a5x (d:Val)(a2_2:Api_Line)(x8:Int):Option (Fl Int (Sum Unit Bool)) :=
 bif decide (x8<(a2_2.Vars.length:Int))
 then (Option.bind (idx a2_2.Vars x8) fun e9 =>
 Option.bind (K9 d.Labels e9) fun r10 =>
 bif !r10
 then (some (.done (.inr false)))
 else (some (.next (wr .i64 (x8+1)))))
 else (some (.done (.inl ())))
def a7W (n:Nat)(d:Val)(t:Api_Type)(a2_2:Api_Line):Option Bool :=
 Option.bind (a6c n d) fun r1 =>
 Option.bind (bif r1 != 0
 then (some true)
 else (Option.bind (a0A n t) fun r2 =>
 some (r2 != 0))) fun q3 =>
 Option.bind (bif q3
 then (some true)
 else (Option.bind (a5L t (Api_Goal.mk a2_2.Pos a2_2.Neg false)) fun r4 =>
 some (!r4))) fun q5 =>
 Option.bind (bif q5
 then (some true)
 else (Option.bind (a93 d a2_2) fun r6 =>
 some (!r6))) fun q7 =>
 bif q7
 then (some false)
 else (Option.bind (iter (a5x d a2_2) ((a2_2.Vars.length:Int).toNat+1) 0) fun b11 =>
 onEnd (fun _ =>
 Option.bind (a40 a2_2.NotVars d.Labels) fun r14 =>
 bif r14
 then (some false)
 else (Option.bind (bif a2_2.Kind==6
 then (some (a2_2.Kind==6))
 else (bif a2_2.Kind==7
 then (some (a2_2.Kind==7))
 else (bif a2_2.Kind==8
 then (some (a2_2.Kind==8))
 else (some (a2_2.Kind==9))))) fun b15 =>
 bif b15
 then (Option.bind (a8D n d t a2_2.Pos a2_2.Neg) fun r16 =>
 some r16)
 else (some true))) (fun y13 =>
 some y13) b11)
def a3k (v:Val)(name:ByteArray)(x1:Int):Option (Fl Int (Sum Unit Bool)) :=
 bif decide (x1<(v.Labels.length:Int))
 then (Option.bind (idx v.Labels x1) fun e2 =>
 bif Z6 e2 name
 then (some (.done (.inr true)))
 else (some (.next (wr .i64 (x1+1)))))
 else (some (.done (.inl ())))
def a2N (v:Val)(name:ByteArray):Option Bool :=
 Option.bind (iter (a3k v name) ((v.Labels.length:Int).toNat+1) 0) fun b3 =>
 onEnd (fun _ =>
 some false) (fun y5 =>
 some y5) b3
def a30 (s:List Api_Range)(n_1:Int)(x1:Int):Option (Fl Int (Sum Unit Bool)) :=
 bif decide (x1<(s.length:Int))
 then (Option.bind (idx s x1) fun e2 =>
 Option.bind (bif decide (e2.Lo<=n_1)
 then (Option.bind (idx s x1) fun e3 =>
 some (decide (n_1<=e3.Hi)))
 else (some false)) fun q4 =>
 bif q4
 then (some (.done (.inr true)))
 else (some (.next (wr .i64 (x1+1)))))
 else (some (.done (.inl ())))
def a5A (s:List Api_Range)(n_1:Int):Option Bool :=
 Option.bind (iter (a30 s n_1) ((s.length:Int).toNat+1) 0) fun b5 =>
 onEnd (fun _ =>
 some false) (fun y7 =>
 some y7) b5
def a4o (l:List ByteArray)(s:ByteArray)(x1:Int):Option (Fl Int (Sum Unit Bool)) :=
 bif decide (x1<(l.length:Int))
 then (Option.bind (idx l x1) fun e2 =>
 bif Z6 e2 s
 then (some (.done (.inr true)))
 else (some (.next (wr .i64 (x1+1)))))
 else (some (.done (.inl ())))
def a8o (l:List ByteArray)(s:ByteArray):Option Bool :=
 Option.bind (iter (a4o l s) ((l.length:Int).toNat+1) 0) fun b3 =>
 onEnd (fun _ =>
 some false) (fun y5 =>
 some y5) b3
def a5d (s:Api_Names)(name:ByteArray):Option Bool :=
 Option.bind (a8o s.List_ name) fun r1 =>
 some (r1 != s.Cofinite)
def a2z (d:Val)(a2_2:Api_Line)(x1:Int):Option (Fl Int (Sum Unit Bool)) :=
 bif decide (x1<(a2_2.Vars.length:Int))
 then (Option.bind (idx a2_2.Vars x1) fun e2 =>
 Option.bind (a2N d e2) fun r3 =>
 bif !r3
 then (some (.done (.inr false)))
 else (some (.next (wr .i64 (x1+1)))))
 else (some (.done (.inl ())))
def a2D (d:Val)(a2_2:Api_Line)(x7:Int):Option (Fl Int (Sum Unit Bool)) :=
 bif decide (x7<(a2_2.NotVars.length:Int))
 then (Option.bind (idx a2_2.NotVars x7) fun e8 =>
 Option.bind (a2N d e8) fun r9 =>
 bif r9
 then (some (.done (.inr false)))
 else (some (.next (wr .i64 (x7+1)))))
 else (some (.done (.inl ())))
def a3T (n:Nat)(d:Val)(t:Api_Type)(a2_2:Api_Line):Option Bool :=
 bif d.Kind != a2_2.Kind
 then (some false)
 else (Option.bind (iter (a2z d a2_2) ((a2_2.Vars.length:Int).toNat+1) 0) fun b4 =>
 onEnd (fun _ =>
 Option.bind (iter (a2D d a2_2) ((a2_2.NotVars.length:Int).toNat+1) 0) fun b10 =>
 onEnd (fun _ =>
 bif d.Kind==1
 then (Option.bind (a5A a2_2.Ints d.Int_) fun r13 =>
 some r13)
 else (Option.bind (bif d.Kind==2
 then (some (d.Kind==2))
 else (some (d.Kind==3))) fun b14 =>
 bif b14
 then (Option.bind (a5d a2_2.Names d.Text) fun r15 =>
 some r15)
 else (bif d.Kind==6
 then (Option.bind (bif (d.Kids.length:Int)==a2_2.Arity
 then (Option.bind (a0W n d t (Api_Goal.mk a2_2.Pos a2_2.Neg false)) fun r16 =>
 some r16)
 else (some false)) fun q17 =>
 some q17)
 else (bif d.Kind==9
 then (Option.bind (bif d.Int_==a2_2.Arity
 then (Option.bind (a0W n d t (Api_Goal.mk a2_2.Pos a2_2.Neg false)) fun r18 =>
 some r18)
 else (some false)) fun q19 =>
 some q19)
 else (Option.bind (bif d.Kind==7
 then (some (d.Kind==7))
 else (some (d.Kind==8))) fun b20 =>
 bif b20
 then (Option.bind (a0W n d t (Api_Goal.mk a2_2.Pos a2_2.Neg false)) fun r21 =>
 some r21)
 else (some true)))))) (fun y12 =>
 some y12) b10) (fun y6 =>
 some y6) b4)
noncomputable def X5 (n:Nat)(r3:Api_Type×Val)(r5:List Api_Line)(x7:Bool×Int):Option (Fl (Bool×Int) (Sum Bool Bool)) :=
 bif decide (x7.2<(r5.length:Int))
 then (Option.bind (idx r5 x7.2) fun e8 =>
 Option.bind (a3T n r3.2 r3.1 e8) fun r9 =>
 Option.bind (idx r5 x7.2) fun e10 =>
 Option.bind (a7W n r3.2 r3.1 e10) fun r11 =>
 bif r11 != r9
 then (some (.done (.inr false)))
 else (Option.bind (bif x7.1
 then (some true)
 else (some r9)) fun q12 =>
 some (.next (q12,wr .i64 (x7.2+1)))))
 else (some (.done (.inl x7.1)))
noncomputable def a1h (n:Nat)(d:List Int)(t:List Int)(a2_2:List Int):Option Bool :=
 Option.bind (a54 ([d,t,a2_2]:List (List Int))) fun r1 =>
 bif !r1
 then (Option.bind (a24 n) fun r2 =>
 some r2)
 else (Option.bind (a52 n d t) fun r3 =>
 Option.bind (a3h (Semtypebase_Source.mk a2_2 0) r3.1) fun r4 =>
 Option.bind (a7d n r3.1 r4.1) fun r5 =>
 bif decide (2000<(r5.length:Int))
 then (Option.bind (a24 n) fun r6 =>
 some r6)
 else (Option.bind (iter (X5 n r3 r5) ((r5.length:Int).toNat+1) (false,0)) fun b13 =>
 onEnd (fun x14 =>
 Option.bind (a0W n r3.2 r3.1 r4.1) fun r16 =>
 Option.bind (bif x14==r16
 then (Option.bind (a24 n) fun r17 =>
 some r17)
 else (some false)) fun q18 =>
 some q18) (fun y15 =>
 some y15) b13))
end Go.Qx
end
section
namespace Go.Pl
open Go Go.RowKit Go.Sx Go.Qx
theorem Z2 (x:Int):wr .i64 x=w64 x:=rfl
theorem W0 {α:Type}(b:Bool)(x y:α):(bif b then x else y)=if b=true then x else y:=by cases b<;>rfl
theorem K1 {α:Type}(o:Option α):(Option.bind o fun x=>some x)=o:=by cases o<;>rfl
theorem Z5 {α:Type}(l:List α):((l.length:Int)).toNat=l.length:=by omega
theorem c37 (s:ByteArray):((s.size:Int)).toNat=s.size:=by omega
theorem Q7 {x:Int}(h1 : -9223372036854775808<=x)(h2:x<=9223372036854775807):w64 x=x:=by
 unfold w64
 rw [IntKind.wrap_i64]
 omega
theorem j6 {α:Type}{xs:List α}{i:Nat}{x:α}(h:xs[i]?=some x):idx xs (i:Int)=some x:=by
 unfold idx
 rw [if_pos (by omega)]
 simpa using h
theorem Y0 {n bytes:Nat}(h:n*bytes<=140737488355328):Z8 n bytes=some ():=by unfold Z8; rw [if_pos h]
theorem a2x {σ α St β:Type}{step:St->Option (Fl St β)}(xs:List α)(pack:σ->Nat->St)(F:σ->α->σ)(I:Nat->σ->Prop)(D:σ->β)
 (hstep:∀ i s x,xs[i]?=some x->I i s->step (pack s i)=some (.next (pack (F s x) (i+1)))/\I (i+1) (F s x))
 (hend:∀ s,I xs.length s->step (pack s xs.length)=some (.done (D s))) (s0:σ) (h0:I 0 s0) (k:Nat) (hk:xs.length+1<=k) :
 iter step k (pack s0 0)=some (D (xs.foldl F s0)):=by
 have key:∀ (n i:Nat) (s:σ) (k:Nat),i+n=xs.length->n+1<=k->I i s->iter step k (pack s i)=some (D ((xs.drop i).foldl F s)):=by
  intro n
  induction n with
  | zero =>
    intro i s k hi hk hI
    have e:i=xs.length:=by omega
    subst e
    obtain ⟨k,rfl⟩:∃ m,k=m+1:=⟨k-1,by omega⟩
    simp [iter,hend s hI]
  | succ n ih =>
    intro i s k hi hk hI
    have hlt:i<xs.length:=by omega
    obtain ⟨k,rfl⟩:∃ m,k=m+1:=⟨k-1,by omega⟩
    obtain ⟨h1,h2⟩:=hstep i s xs[i] (List.getElem?_eq_getElem hlt) hI
    rw [List.drop_eq_getElem_cons hlt,List.foldl_cons]
    simp only [iter,h1,Option.bind_some]
    exact ih (i+1) _ k (by omega) (by omega) h2
 have:=key xs.length 0 s0 k (by omega) hk h0
 simpa using this
def a34 (s:ByteArray):Nat:=s.size+1
def K2:List ByteArray->Nat
 | []=>0
 | s::r=>a34 s+K2 r
def a7b (k:Key):Nat:=1+a34 k.Text+1
def w8:List Key->Nat
 | []=>0
 | s::r=>a7b s+w8 r
mutual
def k7:Val->Nat
 | .mk _ _ t kids keys ents labs=>1+1+a34 t+(k8 kids+1)+(w8 keys+1)+(Z1 ents+1)+(K2 labs+1)+1
def k8:List Val->Nat
 | []=>0
 | x::r=>k7 x+k8 r
def a4x:Ent->Nat
 | .mk args _ res=>(k8 args+1)+1+k7 res+1
def Z1:List Ent->Nat
 | []=>0
 | x::r=>a4x x+Z1 r
end
theorem a1k (v:Val):k7 v=1+1+a34 v.Text+(k8 v.Kids+1)+(w8 v.Keys+1)+(Z1 v.Entries+1)+(K2 v.Labels+1)+1:=by
 cases v; simp only [k7,Val.Text,Val.Kids,Val.Keys,Val.Entries,Val.Labels]
theorem a1E (v:Ent):a4x v=(k8 v.Args+1)+1+k7 v.Result+1:=by
 cases v; simp only [a4x,Ent.Args,Ent.Result]
theorem a1s {x:Val}:∀ {l:List Val},x∈l->k7 x<=k8 l
 | y::r,h=>by
   simp only [k8]
   rcases List.mem_cons.1 h with rfl | h
   ·omega
   ·have:=a1s h; omega
theorem a0e {x:Ent}:∀ {l:List Ent},x∈l->a4x x<=Z1 l
 | y::r,h=>by
   simp only [Z1]
   rcases List.mem_cons.1 h with rfl | h
   ·omega
   ·have:=a0e h; omega
theorem a2P:∀ (l:List Val),l.length<=k8 l
 | []=>Nat.le_refl _
 | x::r=>by have:=a2P r; have:=a1k x; simp only [k8,List.length_cons]; omega
theorem a3A:∀ (l:List Ent),l.length<=Z1 l
 | []=>Nat.le_refl _
 | x::r=>by have:=a3A r; have:=a1E x; simp only [Z1,List.length_cons]; omega
theorem a6j:∀ (l:List Key),l.length<=w8 l
 | []=>Nat.le_refl _
 | x::r=>by have:=a6j r; simp only [w8,a7b,List.length_cons]; omega
theorem a3Q:∀ (l:List ByteArray),l.length<=K2 l
 | []=>Nat.le_refl _
 | x::r=>by have:=a3Q r; simp only [K2,a34,List.length_cons]; omega
theorem a1R (l m:List Val):k8 (l++m)=k8 l+k8 m:=by
 induction l with
 | nil=>simp [k8]
 | cons x r ih=>simp only [List.cons_append,k8,ih]; omega
theorem a9c (v:Val):8<=k7 v:=by rw [a1k]; unfold a34; omega
end Go.Pl
namespace Go.Pl
open Go Go.RowKit Go.Sx Go.Qx
def a7Z (e:Ent):List Val:=e.Args++(if e.Fails then [] else [e.Result])
def a9G (v:Val):List Val:=v.Kids++v.Entries.flatMap a7Z
theorem c7H (e:Ent):k8 (a7Z e)<a4x e:=by
 rw [a1E,a7Z,a1R]
 cases e.Fails<;>simp [k8]<;>omega
theorem b98:∀ l:List Ent,k8 (l.flatMap a7Z)<=Z1 l
 | []=>by simp [k8]
 | e::r=>by
   have h1:=b98 r
   have h2:=c7H e
   simp only [List.flatMap_cons,a1R,Z1]
   omega
theorem c9d (v:Val):k8 (a9G v)<k7 v:=by
 have:=b98 v.Entries
 rw [a1k,a9G,a1R]
 omega
theorem b9j {α β:Type}(f:β->List α):∀ (l:List β) (s:List α),l.foldl (fun s x=>s++f x) s=s++l.flatMap f
 | [],s=>by simp
 | x::r,s=>by simp only [List.foldl_cons,b9j f r,List.flatMap_cons,List.append_assoc]
theorem d1w (v:Val)(h:k7 v<=4194304):b0X v=some (a9G v):=by
 have hb:=a1k v
 have hk:=a2P v.Kids
 unfold b0X a0y
 rw [Y0 (by simp; omega)]
 simp only [Option.bind_some,Z5,K1]
 have hlen:=a3A v.Entries
 have hloop:iter (a71 v) (v.Entries.length+1) (v.Kids,0)=some (v.Entries.foldl (fun s e=>s++a7Z e) v.Kids):=by
  refine a2x (σ:=List Val) v.Entries (fun s i=>(s,(i:Int))) (fun s e=>s++a7Z e) (fun i s=>s=v.Kids++(v.Entries.take i).flatMap a7Z) (fun s=>s)
   ?_ ?_ v.Kids (by simp) _ (Nat.le_refl _)
  ·intro i s e he hI
   have hi:i<v.Entries.length:=(List.getElem?_eq_some_iff.1 he).1
   have hmem:e∈v.Entries:=List.mem_of_getElem? he
   have h1:=a0e hmem
   have h2:=a1E e
   have h3:=a2P e.Args
   have hs:s.length+e.Args.length+1<=8388608:=by
    have:k8 s<=k7 v:=by
     rw [hI,a1R]
     have h5:=b98 (v.Entries.take i)
     have h6:Z1 (v.Entries.take i)<=Z1 v.Entries:=by
      have:=List.take_append_drop i v.Entries
      have h7:∀ a b:List Ent,Z1 (a++b)=Z1 a+Z1 b:=by
       intro a b
       induction a with
       | nil=>simp [Z1]
       | cons x r ih=>simp only [List.cons_append,Z1,ih]; omega
      have h8:=h7 (v.Entries.take i) (v.Entries.drop i)
      rw [this] at h8
      omega
     omega
    have:=a2P s
    omega
   refine ⟨?_,?_⟩
   ·unfold a71
    simp only [W0,Z2]
    rw [if_pos (by simp; omega),j6 he]
    simp only [Option.bind_some]
    rw [Y0 (by omega)]
    simp only [Option.bind_some]
    have hw:w64 ((i:Int)+1)=((i+1:Nat):Int):=by rw [Q7 (by omega) (by omega)]; rfl
    cases hf:e.Fails
    ·rw [if_pos (by simp),Y0 (by simp only [List.length_append,List.length_cons,List.length_nil]; omega)]
     simp [a7Z,hf,hw]
    ·rw [if_neg (by simp)]
     simp [a7Z,hf,hw]
   ·rw [hI,List.take_add_one,he]
    simp
  ·intro s _
   unfold a71
   simp
 rw [hloop]
 simp only [b9j,a9G]
theorem a1i {α:Type}{l:List α}{i:Nat}{x:α}(h:l[i]?=some x):l.take (i+1)=l.take i++[x]:=by
 rw [List.take_add_one,h]; rfl
end Go.Pl
end
section
namespace Go.Pl
open Go Go.RowKit Go.Sx Go.Qx
def tn (x y:Int):Int:=if x=0 then y else x
def cI (x y:Int):Int:=if x<y then -1 else if y<x then 1 else 0
def lx:List Int->List Int->Int
 | [],[]=>0
 | [],_::_ => -1
 | _::_,[]=>1
 | x::xs,y::ys=>tn (cI x y) (lx xs ys)
theorem b0M (x y z:Int):tn (tn x y) z=tn x (tn y z):=by unfold tn; split<;>simp_all
theorem b0L (x:Int):tn x 0=x:=by unfold tn; split<;>simp_all
theorem a9a (x:Int):tn 0 x=x:=by simp [tn]
theorem K7 (x y:Int):(x<y/\cI x y = -1)\/(y<x/\cI x y=1)\/(x=y/\cI x y=0):=by
 unfold cI
 by_cases h:x<y
 ·left; simp [h]
 ·by_cases h2:y<x
  ·right; left; simp [h,h2]
  ·right; right; simp [h,h2]; omega
theorem b6X:∀ a b:List Int,lx b a = - lx a b
 | [],[]=>by simp [lx]
 | [],_::_=>by simp [lx]
 | _::_,[]=>by simp [lx]
 | x::xs,y::ys=>by
   have:=b6X xs ys
   rcases K7 x y with ⟨h1,h⟩ | ⟨h1,h⟩ | ⟨h1,h⟩<;>rcases K7 y x with ⟨h2,k⟩ | ⟨h2,k⟩ | ⟨h2,k⟩<;>simp [lx,h,k,tn]<;>omega
theorem c1x:∀ a b c:List Int,lx a b<=0->lx b c<=0->lx a c<=0
 | [],_,[],_,_=>by simp [lx]
 | [],_,_::_,_,_=>by simp [lx]
 | _::_,[],_,h,_=>by simp [lx] at h
 | _::_,_::_,[],_,h=>by simp [lx] at h
 | x::xs,y::ys,z::zs,h1,h2=>by
   have:=c1x xs ys zs
   rcases K7 x y with ⟨p1,h⟩ | ⟨p1,h⟩ | ⟨p1,h⟩<;>rcases K7 y z with ⟨p2,k⟩ | ⟨p2,k⟩ | ⟨p2,k⟩ <;>
    rcases K7 x z with ⟨p3,l⟩ | ⟨p3,l⟩ | ⟨p3,l⟩<;>simp [lx,h,k,l,tn] at h1 h2 ⊢<;>first | omega | (exact this (by omega) (by omega))
theorem d3x:∀ a:List Int,lx a a=0:=by intro a; have:=b6X a a; omega
def cBs:List UInt8->List UInt8->Int
 | [],[]=>0
 | [],_::_ => -1
 | _::_,[]=>1
 | x::xs,y::ys=>tn (cI x.toNat y.toNat) (cBs xs ys)
def eBs:List UInt8->List Int
 | []=>[0]
 | x::r=>((x.toNat:Int)+1)::eBs r
theorem d3n (x y:Int):cI (x+1) (y+1)=cI x y:=by
 unfold cI
 by_cases h:x<y
 ·rw [if_pos (by omega),if_pos h]
 ·rw [if_neg (by omega),if_neg h]
  by_cases h2:y<x
  ·rw [if_pos (by omega),if_pos h2]
  ·rw [if_neg (by omega),if_neg h2]
theorem d4Z:∀ (a b:List UInt8) (r s:List Int),lx (eBs a++r) (eBs b++s)=tn (cBs a b) (lx r s)
 | [],[],r,s=>by simp [eBs,lx,cBs,cI,a9a]
 | [],y::ys,r,s=>by
   have:cI 0 ((y.toNat:Int)+1) = -1:=by unfold cI; rw [if_pos (by omega)]
   simp [eBs,lx,cBs,this,tn]
 | x::xs,[],r,s=>by
   have:cI ((x.toNat:Int)+1) 0=1:=by unfold cI; rw [if_neg (by omega),if_pos (by omega)]
   simp [eBs,lx,cBs,this,tn]
 | x::xs,y::ys,r,s=>by
   simp only [eBs,List.cons_append,lx,cBs,d3n,d4Z xs ys,b0M]
def cS (a b:ByteArray):Int:=cBs a.data.toList b.data.toList
def eS (a:ByteArray):List Int:=eBs a.data.toList
theorem pfS (a b:ByteArray)(r s:List Int):lx (eS a++r) (eS b++s)=tn (cS a b) (lx r s):=d4Z _ _ r s
def cK (a b:Key):Int:=tn (cI a.Kind b.Kind) (cS a.Text b.Text)
def eK (a:Key):List Int:=a.Kind::eS a.Text
theorem pfK (a b:Key)(r s:List Int):lx (eK a++r) (eK b++s)=tn (cK a b) (lx r s):=by
 simp only [eK,List.cons_append,lx,pfS,cK,b0M]
def cL {α:Type}(c:α->α->Int):List α->List α->Int
 | [],_=>0
 | _::_,[]=>0
 | x::xs,y::ys=>tn (c x y) (cL c xs ys)
def cN {α:Type}(c:α->α->Int)(xs ys:List α):Int:=tn (cI (xs.length:Int) (ys.length:Int)) (cL c xs ys)
def eN {α:Type}(e:α->List Int)(xs:List α):List Int:=(xs.length:Int)::xs.flatMap e
theorem pfL {α:Type}{c:α->α->Int}{e:α->List Int}:∀ (xs ys:List α) (r s:List Int),(∀ x∈xs,∀ y r s,lx (e x++r) (e y++s)=tn (c x y) (lx r s))->xs.length=ys.length ->
 lx (xs.flatMap e++r) (ys.flatMap e++s)=tn (cL c xs ys) (lx r s)
 | [],[],r,s,_,_=>by simp [cL,a9a]
 | [],_::_,_,_,_,h=>by simp at h
 | _::_,[],_,_,_,h=>by simp at h
 | x::xs,y::ys,r,s,hc,h=>by
   simp only [List.flatMap_cons,List.append_assoc,cL]
   rw [hc x (by simp),pfL xs ys r s (fun z hz=>hc z (by simp [hz])) (by simpa using h),b0M]
theorem pfN {α:Type}{c:α->α->Int}{e:α->List Int}(xs ys:List α)(r s:List Int)(hc:∀ x∈xs,∀ y r s,lx (e x++r) (e y++s)=tn (c x y) (lx r s)) :
 lx (eN e xs++r) (eN e ys++s)=tn (cN c xs ys) (lx r s):=by
 simp only [eN,List.cons_append,lx,cN,b0M]
 rcases K7 (xs.length:Int) (ys.length:Int) with ⟨_,h⟩ | ⟨_,h⟩ | ⟨h1,h⟩
 ·simp [h,tn]
 ·simp [h,tn]
 ·rw [h,a9a,a9a,pfL xs ys r s hc (by omega)]
def bI (b:Bool):Int:=if b then 0 else 1
mutual
def cV:Val->Val->Int
 | .mk k n t kids keys ents labs,b=>tn (cI k b.Kind) (tn (cI n b.Int_) (tn (cS t b.Text) (tn (cN cK keys b.Keys) (tn (tn (cI (kids.length:Int) (b.Kids.length:Int)) (cVs kids b.Kids)) (tn (tn (cI (ents.length:Int) (b.Entries.length:Int)) (cEs ents b.Entries)) (cN cS labs b.Labels))))))
def cVs:List Val->List Val->Int
 | [],_=>0
 | _::_,[]=>0
 | x::xs,y::ys=>tn (cV x y) (cVs xs ys)
def cE:Ent->Ent->Int
 | .mk args f res,b=>tn (tn (cI (args.length:Int) (b.Args.length:Int)) (cVs args b.Args)) (tn (cI (bI f) (bI b.Fails)) (cV res b.Result))
def cEs:List Ent->List Ent->Int
 | [],_=>0
 | _::_,[]=>0
 | x::xs,y::ys=>tn (cE x y) (cEs xs ys)
end
theorem c5W:∀ xs ys:List Val,cVs xs ys=cL cV xs ys
 | [],_=>by simp [cVs,cL]
 | _::_,[]=>by simp [cVs,cL]
 | x::xs,y::ys=>by simp only [cVs,cL,c5W xs ys]
theorem c9Q:∀ xs ys:List Ent,cEs xs ys=cL cE xs ys
 | [],_=>by simp [cEs,cL]
 | _::_,[]=>by simp [cEs,cL]
 | x::xs,y::ys=>by simp only [cEs,cL,c9Q xs ys]
theorem c8K (a b:Val):cV a b=tn (cI a.Kind b.Kind) (tn (cI a.Int_ b.Int_) (tn (cS a.Text b.Text) (tn (cN cK a.Keys b.Keys) (tn (cN cV a.Kids b.Kids) (tn (cN cE a.Entries b.Entries) (cN cS a.Labels b.Labels)))))):=by
 cases a; simp only [cV,c5W,c9Q,cN,Val.Kind,Val.Int_,Val.Text,Val.Keys,Val.Kids,Val.Entries,Val.Labels]
theorem c9g (a b:Ent):cE a b=tn (cN cV a.Args b.Args) (tn (cI (bI a.Fails) (bI b.Fails)) (cV a.Result b.Result)):=by
 cases a; simp only [cE,c5W,cN,Ent.Args,Ent.Fails,Ent.Result]
mutual
def eV:Val->List Int
 | .mk k n t kids keys ents labs=>k::n::(eS t++(eN eK keys++(((kids.length:Int)::eVs kids)++(((ents.length:Int)::eEs ents)++eN eS labs))))
def eVs:List Val->List Int
 | []=>[]
 | x::xs=>eV x++eVs xs
def eE:Ent->List Int
 | .mk args f res=>((args.length:Int)::eVs args)++(bI f::eV res)
def eEs:List Ent->List Int
 | []=>[]
 | x::xs=>eE x++eEs xs
end
theorem c5A:∀ xs:List Val,eVs xs=xs.flatMap eV
 | []=>by simp [eVs]
 | x::xs=>by simp only [eVs,List.flatMap_cons,c5A xs]
theorem d0e:∀ xs:List Ent,eEs xs=xs.flatMap eE
 | []=>by simp [eEs]
 | x::xs=>by simp only [eEs,List.flatMap_cons,d0e xs]
theorem d2E (a:Val):eV a=a.Kind::a.Int_::(eS a.Text++(eN eK a.Keys++(eN eV a.Kids++(eN eE a.Entries++eN eS a.Labels)))):=by
 cases a; simp only [eV,c5A,d0e,eN,Val.Kind,Val.Int_,Val.Text,Val.Keys,Val.Kids,Val.Entries,Val.Labels]
theorem d2A (a:Ent):eE a=eN eV a.Args++(bI a.Fails::eV a.Result):=by
 cases a; simp only [eE,c5A,eN,Ent.Args,Ent.Fails,Ent.Result]
theorem d0F:∀ n:Nat,(∀ a:Val,k7 a<=n->∀ b r s,lx (eV a++r) (eV b++s)=tn (cV a b) (lx r s))/\(∀ a:Ent,a4x a<=n->∀ b r s,lx (eE a++r) (eE b++s)=tn (cE a b) (lx r s)):=by
 intro n
 induction n with
 | zero=>exact ⟨fun a h=>by have:=a9c a; omega,fun a h=>by have:=a1E a; omega⟩
 | succ n ih =>
   refine ⟨fun a h b r s=>?_,fun a h b r s=>?_⟩
   ·have hb:=a1k a
    rw [d2E a,d2E b,c8K]
    simp only [List.cons_append,List.append_assoc,lx,b0M]
    rw [pfS,pfN a.Keys b.Keys _ _ (fun x _ y r s=>pfK x y r s),pfN a.Kids b.Kids _ _ (fun x hx=>ih.1 x (by have:=a1s hx; omega)),
     pfN a.Entries b.Entries _ _ (fun x hx=>ih.2 x (by have:=a0e hx; omega)),pfN a.Labels b.Labels _ _ (fun x _ y r s=>pfS x y r s)]
   ·have hb:=a1E a
    rw [d2A a,d2A b,c9g]
    simp only [List.append_assoc,b0M]
    rw [pfN a.Args b.Args _ _ (fun x hx=>ih.1 x (by have:=a1s hx; omega))]
    simp only [List.cons_append,lx]
    rw [ih.1 a.Result (by omega)]
theorem d5o (a b:Val):cV a b=lx (eV a) (eV b):=by
 have:=(d0F (k7 a)).1 a (Nat.le_refl _) b [] []
 simpa [lx,b0L] using this.symm
theorem d3g (a:Val):cV a a=0:=by rw [d5o]; exact d3x _
end Go.Pl
namespace Go.Pl
open Go Go.RowKit Go.Sx Go.Qx
theorem b7r (a b:Int):a0Q a b=some (cI a b):=by
 unfold a0Q a8R
 simp only [W0,bne_self_eq_false,Option.bind_some,Bool.false_eq_true,if_false]
 rcases K7 a b with ⟨h,e⟩ | ⟨h,e⟩ | ⟨h,e⟩
 ·rw [if_pos (by simpa using h),e]
 ·rw [if_neg (by simp; omega),if_pos (by simpa using h),e]
 ·rw [if_neg (by simp; omega),if_neg (by simp; omega),e]
theorem c60 (a b:Int):a10 a b=some (cI a b):=by
 unfold a10 a5C
 simp only [W0,bne_self_eq_false,Option.bind_some,Bool.false_eq_true,if_false]
 rcases K7 a b with ⟨h,e⟩ | ⟨h,e⟩ | ⟨h,e⟩
 ·rw [if_pos (by simpa using h),e]
 ·rw [if_neg (by simp; omega),if_pos (by simpa using h),e]
 ·rw [if_neg (by simp; omega),if_neg (by simp; omega),e]
theorem b3I (a b:Int):a3c a b=some (cI a b):=by
 unfold a3c
 simp only [W0]
 rcases K7 a b with ⟨h,e⟩ | ⟨h,e⟩ | ⟨h,e⟩
 ·rw [if_pos (by simpa using h),e]
 ·rw [if_neg (by simp; omega),if_pos (by simpa using h),e]
 ·rw [if_neg (by simp; omega),if_neg (by simp; omega),e]
theorem b9W (a b:Int):a0D a b=some (cI a b):=by
 unfold a0D; rw [b3I]; rfl
theorem c8w:∀ a b:List UInt8,Lib.compareBytes a b=cBs a b
 | [],[]=>rfl
 | [],_::_=>rfl
 | _::_,[]=>rfl
 | x::xs,y::ys=>by
   have ih:=c8w xs ys
   simp only [Lib.compareBytes,cBs,UInt8.lt_iff_toNat_lt]
   rcases K7 (x.toNat:Int) (y.toNat:Int) with ⟨h,e⟩ | ⟨h,e⟩ | ⟨h,e⟩
   ·rw [if_pos (by omega),e]; rfl
   ·rw [if_neg (by omega),if_pos (by omega),e]; rfl
   ·rw [if_neg (by omega),if_neg (by omega),e,a9a,ih]
theorem b2w (a b:ByteArray):a0p a b=some (cS a b):=by
 unfold a0p a21 c56 b9D
 rw [c8w]; rfl
theorem b9N:∀ a b:List UInt8,(Op.bytesLess a b=true/\cBs a b = -1/\a≠b)\/(Op.bytesLess a b=false/\cBs a b=0/\a=b)\/(Op.bytesLess a b=false/\cBs a b=1/\a≠b)
 | [],[]=>by simp [Op.bytesLess,cBs]
 | [],_::_=>by simp [Op.bytesLess,cBs]
 | _::_,[]=>by simp [Op.bytesLess,cBs]
 | x::xs,y::ys=>by
   have ih:=b9N xs ys
   simp only [Op.bytesLess,cBs]
   rcases K7 (x.toNat:Int) (y.toNat:Int) with ⟨h,e⟩ | ⟨h,e⟩ | ⟨h,e⟩
   ·have h1:x<y:=UInt8.lt_iff_toNat_lt.2 (by omega)
    have h2:x≠y:=by intro h3; subst h3; omega
    simp [e,h1,h2,tn]
   ·have h1:¬ x<y:=fun h3=>by have:=UInt8.lt_iff_toNat_lt.1 h3; omega
    have h2:x≠y:=by intro h3; subst h3; omega
    simp [e,h1,h2,tn]
   ·have h2:x=y:=UInt8.toNat_inj.1 (by omega)
    subst h2
    have h1:¬ x<x:=fun h3=>by have:=UInt8.lt_iff_toNat_lt.1 h3; omega
    simpa [e,h1,tn] using ih
theorem a87 (a b:ByteArray):(a2M a b=true/\Z6 a b=false/\cS a b = -1)\/(a2M a b=false/\Z6 a b=true/\cS a b=0)\/(a2M a b=false/\Z6 a b=false/\cS a b=1):=by
 unfold a2M Z6 cS
 rw [Lib.toList_data,Lib.toList_data]
 rcases b9N a.data.toList b.data.toList with ⟨h,e,n⟩ | ⟨h,e,n⟩ | ⟨h,e,n⟩
 ·left; exact ⟨h,by simpa using n,e⟩
 ·right; left; exact ⟨h,by simpa using n,e⟩
 ·right; right; exact ⟨h,by simpa using n,e⟩
theorem b5n (a b:ByteArray):a1B a b=some (cS a b):=by
 unfold a1B
 rcases a87 a b with ⟨h,k,e⟩ | ⟨h,k,e⟩ | ⟨h,k,e⟩<;>simp [h,k,e]
theorem b0Z {x y:Int}{o:Option Int}(h:o=some y):(bif (x != 0) then some x else o)=some (tn x y):=by
 rw [W0]
 unfold tn
 by_cases hx:x=0
 ·subst hx; simp [h]
 ·simp [hx]
theorem c8L {a b y:Int}{o:Option Int}(h:o=some y):(bif (a != b) then some (cI a b) else o)=some (tn (cI a b) y):=by
 rw [W0]
 unfold tn
 rcases K7 a b with ⟨p,e⟩ | ⟨p,e⟩ | ⟨p,e⟩
 ·have:a≠b:=by omega
  simp [this,e]
 ·have:a≠b:=by omega
  simp [this,e]
 ·simp [p,h]
  subst p
  intro h2; rw [e] at h2; exact absurd rfl h2
theorem d5H {a b:ByteArray}{y:Int}{o:Option Int}(h:o=some y):(bif (!Z6 a b) then (Option.bind (a1B a b) fun r=>some r) else o)=some (tn (cS a b) y):=by
 rw [W0,b5n,h]
 rcases a87 a b with ⟨_,p,e⟩ | ⟨_,p,e⟩ | ⟨_,p,e⟩<;>simp [p,e,tn]
theorem b5I (a b:Key):a0g a b=some (cK a b):=by
 unfold a0g
 rw [b7r]
 simp only [Option.bind_some]
 exact b0Z (by rw [b2w]; rfl)
theorem b0U (a b:Key):W7 a b=some (cK a b):=by
 unfold W7
 rw [b3I]
 exact c8L (by rw [b5n]; rfl)
theorem d1Y {α:Type}{step:Int->Option (Fl Int (Sum Unit Int))}{rc:α->α->Option Int}{c:α->α->Int}(xs ys:List α)(hlen:xs.length=ys.length)
 (hst:∀ q,step q=bif decide (q<(xs.length:Int)) then Option.bind (idx xs q) fun x=>Option.bind (idx ys q) fun y=>Option.bind (rc x y) fun r =>
   bif r != 0 then some (.done (.inr r)) else some (.next (wr .i64 (q+1))) else some (.done (.inl ())))
 (hrc:∀ x∈xs,∀ y,rc x y=some (c x y)) (hl:xs.length<=4194304) :
 ∃ o,iter step (xs.length+1) 0=some o/\((o=.inl ()/\cL c xs ys=0)\/(o=.inr (cL c xs ys)/\cL c xs ys≠0)):=by
 have key:∀ (n i k:Nat),i+n=xs.length->n+1<=k ->
  ∃ o,iter step k (i:Int)=some o/\((o=.inl ()/\cL c (xs.drop i) (ys.drop i)=0)\/(o=.inr (cL c (xs.drop i) (ys.drop i))/\cL c (xs.drop i) (ys.drop i)≠0)):=by
  intro n
  induction n with
  | zero =>
    intro i k hi hk
    obtain ⟨k,rfl⟩:∃ m,k=m+1:=⟨k-1,by omega⟩
    refine ⟨.inl (),?_,.inl ⟨rfl,?_⟩⟩
    ·simp only [iter,hst,W0]
     rw [if_neg (by simp; omega)]
     rfl
    ·rw [List.drop_eq_nil_of_le (by omega)]; simp [cL]
  | succ n ih =>
    intro i k hi hk
    obtain ⟨k,rfl⟩:∃ m,k=m+1:=⟨k-1,by omega⟩
    have hx:i<xs.length:=by omega
    have hy:i<ys.length:=by omega
    rw [List.drop_eq_getElem_cons hx,List.drop_eq_getElem_cons hy]
    have e:step (i:Int)=if (c xs[i] ys[i] != 0)=true then some (.done (.inr (c xs[i] ys[i]))) else some (.next (w64 ((i:Int)+1))):=by
     rw [hst]
     simp only [W0,Z2]
     rw [if_pos (by simp; omega),j6 (List.getElem?_eq_getElem hx),j6 (List.getElem?_eq_getElem hy)]
     simp only [Option.bind_some]
     rw [hrc _ (List.getElem_mem hx)]
     rfl
    simp only [iter,e,cL]
    by_cases h0:c xs[i] ys[i]=0
    ·rw [h0,a9a,Q7 (x:=(i:Int)+1) (by omega) (by omega)]
     obtain ⟨o,ho,hp⟩:=ih (i+1) k (by omega) (by omega)
     refine ⟨o,?_,hp⟩
     simpa using ho
    ·have ht:tn (c xs[i] ys[i]) (cL c (xs.drop (i+1)) (ys.drop (i+1)))=c xs[i] ys[i]:=by simp [tn,h0]
     rw [ht]
     refine ⟨.inr (c xs[i] ys[i]),?_,.inr ⟨rfl,h0⟩⟩
     simp [h0]
 obtain ⟨o,h1,h2⟩:=key xs.length 0 (xs.length+1) (by omega) (Nat.le_refl _)
 exact ⟨o,by simpa using h1,by simpa using h2⟩
theorem c7X {α:Type}{step:Int->Option (Fl Int (Sum Unit Int))}{rc:α->α->Option Int}{c:α->α->Int}(xs ys:List α)(hlen:xs.length=ys.length)
 (hst:∀ q,step q=bif decide (q<(xs.length:Int)) then Option.bind (idx xs q) fun x=>Option.bind (idx ys q) fun y=>Option.bind (rc x y) fun r =>
   bif r != 0 then some (.done (.inr r)) else some (.next (wr .i64 (q+1))) else some (.done (.inl ())))
 (hrc:∀ x∈xs,∀ y,rc x y=some (c x y)) (hl:xs.length<=4194304) {f:Unit->Option Int} {z:Int} (hf:∀ q,f q=some z) :
 (Option.bind (iter step (((xs.length:Int)).toNat+1) 0) fun b=>onEnd f (fun r=>some r) b)=some (tn (cL c xs ys) z):=by
 obtain ⟨o,h1,h2⟩:=d1Y xs ys hlen hst hrc hl
 rw [Z5,h1]
 rcases h2 with ⟨rfl,h⟩ | ⟨rfl,h⟩
 ·simp [onEnd,hf,h,tn]
 ·simp [onEnd,h,tn]
theorem b8c {α:Type}{step:Int->Option (Fl Int (Sum Unit Int))}{rc:α->α->Option Int}{c:α->α->Int}(xs ys:List α)
 (hst:∀ q,step q=bif decide (q<(xs.length:Int)) then Option.bind (idx xs q) fun x=>Option.bind (idx ys q) fun y=>Option.bind (rc x y) fun r =>
   bif r != 0 then some (.done (.inr r)) else some (.next (wr .i64 (q+1))) else some (.done (.inl ())))
 (hrc:∀ x∈xs,∀ y,rc x y=some (c x y)) (hl:xs.length<=4194304) :
 (Option.bind (a0Q (xs.length:Int) (ys.length:Int)) fun r7=>bif r7 != 0 then some r7 else
   (Option.bind (iter step (((xs.length:Int)).toNat+1) 0) fun b=>onEnd (fun _=>some 0) (fun r=>some r) b))=some (cN c xs ys):=by
 rw [b7r]
 simp only [Option.bind_some,cN]
 rcases K7 (xs.length:Int) (ys.length:Int) with ⟨_,e⟩ | ⟨_,e⟩ | ⟨p,e⟩
 ·simp [e,tn]
 ·simp [e,tn]
 ·rw [c7X xs ys (by omega) hst hrc hl (z:=0) (fun _=>rfl),b0L,e]
  simp [tn]
theorem c0L {α:Type}{step:Int->Option (Fl Int (Sum Unit Int))}{rc:α->α->Option Int}{c:α->α->Int}(xs ys:List α)
 (hst:∀ q,step q=bif decide (q<(xs.length:Int)) then Option.bind (idx xs q) fun x=>Option.bind (idx ys q) fun y=>Option.bind (rc x y) fun r =>
   bif r != 0 then some (.done (.inr r)) else some (.next (wr .i64 (q+1))) else some (.done (.inl ())))
 (hrc:∀ x∈xs,∀ y,rc x y=some (c x y)) (hl:xs.length<=4194304) {f:Unit->Option Int} {z:Int} (hf:∀ q,f q=some z) :
 (bif ((xs.length:Int) != (ys.length:Int)) then (Option.bind (a0D (xs.length:Int) (ys.length:Int)) fun r=>some r) else
   (Option.bind (iter step (((xs.length:Int)).toNat+1) 0) fun b=>onEnd f (fun r=>some r) b))=some (tn (cN c xs ys) z):=by
 rw [W0,b9W]
 simp only [Option.bind_some,cN]
 rcases K7 (xs.length:Int) (ys.length:Int) with ⟨p,e⟩ | ⟨p,e⟩ | ⟨p,e⟩
 ·have:((xs.length:Int) != (ys.length:Int))=true:=by simp; omega
  rw [if_pos this,e]; rfl
 ·have:((xs.length:Int) != (ys.length:Int))=true:=by simp; omega
  rw [if_pos this,e]; rfl
 ·rw [if_neg (by simp; omega),c7X xs ys (by omega) hst hrc hl hf,e,a9a]
theorem b7H:∀ (k:Nat),
 (∀ a b,2*k7 a<=k->k7 a<=4194304->a3g k a b=some (cV a b)) /\
 (∀ xs ys,2*k8 xs+1<=k->k8 xs<=4194304->a3q k xs ys=some (cN cV xs ys)) /\
 (∀ a b,2*a4x a<=k->a4x a<=4194304->V6 k a b=some (cE a b))
 | 0=>⟨fun v _ h=>by have:=a9c v; omega,fun _ _ h=>by omega,fun v _ h=>by have:=a1E v; omega⟩
 | k+1=>by
   obtain ⟨i1,i2,i3⟩:=b7H k
   refine ⟨?_,?_,?_⟩
   ·intro a b h hb
    show a9A k (a3g k) (V6 k) (a3q k) a b=_
    have hbe:=a1k a
    have hk:=a6j a.Keys
    have hs:=a3Q a.Labels
    have he:=a3A a.Entries
    unfold a9A
    simp only [K1]
    rw [c8K,b7r,c60,b2w]
    simp only [Option.bind_some]
    refine b0Z (b0Z (b0Z ?_))
    unfold a4e
    rw [b8c (step:=a5U a.Keys b.Keys fun x y=>a0g x y) a.Keys b.Keys (rc:=a0g) (c:=cK) (fun q=>rfl) (fun x _ y=>b5I x y) (by omega)]
    simp only [Option.bind_some]
    refine b0Z ?_
    rw [i2 a.Kids b.Kids (by omega) (by omega)]
    simp only [Option.bind_some]
    refine b0Z ?_
    unfold a3x
    rw [b8c (step:=a5k a.Entries b.Entries fun x y=>V6 k x y) a.Entries b.Entries (rc:=V6 k) (c:=cE) (fun q=>rfl) (fun x hx y=>i3 x y (by have:=a0e hx; omega) (by have:=a0e hx; omega)) (by omega)]
    simp only [Option.bind_some]
    refine b0Z ?_
    unfold a4v
    rw [b8c (step:=a6z a.Labels b.Labels fun x y=>a0p x y) a.Labels b.Labels (rc:=a0p) (c:=cS) (fun q=>rfl) (fun x _ y=>b2w x y) (by omega)]
   ·intro xs ys h hb
    show a6r k (a3g k) (V6 k) (a3q k) xs ys=_
    have hl:=a2P xs
    unfold a6r a3u
    simp only [K1]
    rw [b8c (step:=a5l xs ys fun x y=>a3g k x y) xs ys (rc:=a3g k) (c:=cV) (fun q=>rfl) (fun x hx y=>i1 x y (by have:=a1s hx; omega) (by have:=a1s hx; omega)) (by omega)]
   ·intro a b h hb
    show a5S k (a3g k) (V6 k) (a3q k) a b=_
    have hbe:=a1E a
    unfold a5S
    rw [c9g,i2 a.Args b.Args (by omega) (by omega),i1 a.Result b.Result (by omega) (by omega)]
    simp only [Option.bind_some]
    refine b0Z ?_
    cases a.Fails<;>cases b.Fails<;>simp [bI,cI,tn]
theorem a59:∀ (k:Nat),
 (∀ a b,2*k7 a<=k->k7 a<=4194304->a0B k a b=some (cV a b)) /\
 (∀ xs ys,2*k8 xs+1<=k->k8 xs<=4194304->a3P k xs ys=some (cN cV xs ys)) /\
 (∀ a b,2*a4x a<=k->a4x a<=4194304->Y4 k a b=some (cE a b))
 | 0=>⟨fun v _ h=>by have:=a9c v; omega,fun _ _ h=>by omega,fun v _ h=>by have:=a1E v; omega⟩
 | k+1=>by
   obtain ⟨i1,i2,i3⟩:=a59 k
   refine ⟨?_,?_,?_⟩
   ·intro a b h hb
    show a58 k (a0B k) (a3P k) (Y4 k) a b=_
    have hbe:=a1k a
    have hk:=a6j a.Keys
    have hs:=a3Q a.Labels
    have he:=a3A a.Entries
    unfold a58
    rw [c8K,b9W,b3I]
    simp only [Option.bind_some]
    refine c8L (c8L (d5H ?_))
    refine c0L (step:=a8G a b) a.Keys b.Keys (rc:=W7) (c:=cK) (fun q=>rfl) (fun x _ y=>b0U x y) (by omega) ?_
    intro _
    rw [i2 a.Kids b.Kids (by omega) (by omega)]
    simp only [Option.bind_some]
    refine b0Z ?_
    refine c0L (step:=a8y a b (Y4 k)) a.Entries b.Entries (rc:=Y4 k) (c:=cE) (fun q=>rfl) (fun x hx y=>i3 x y (by have:=a0e hx; omega) (by have:=a0e hx; omega)) (by omega) ?_
    intro _
    have:=c0L (step:=a8A a b) a.Labels b.Labels (rc:=a1B) (c:=cS) (z:=0) (fun q=>rfl) (fun x _ y=>b5n x y) (by omega) (f:=fun _=>some 0) (fun _=>rfl)
    rw [b0L] at this
    exact this
   ·intro xs ys h hb
    show a6R k (a0B k) (a3P k) (Y4 k) xs ys=_
    have hl:=a2P xs
    unfold a6R
    rw [c0L (step:=a86 xs ys (a0B k)) xs ys (rc:=a0B k) (c:=cV) (z:=0) (fun q=>rfl) (fun x hx y=>i1 x y (by have:=a1s hx; omega) (by have:=a1s hx; omega)) (by omega) (fun _=>rfl),b0L]
   ·intro a b h hb
    show a3y k (a0B k) (a3P k) (Y4 k) a b=_
    have hbe:=a1E a
    unfold a3y
    rw [c9g,i2 a.Args b.Args (by omega) (by omega),i1 a.Result b.Result (by omega) (by omega)]
    simp only [Option.bind_some]
    refine b0Z ?_
    cases a.Fails<;>cases b.Fails<;>simp [bI,cI,tn]
end Go.Pl
end
section
namespace Go.Pl
open Go Go.RowKit Go.Sx Go.Qx
theorem b3F {step:Int->Option (Fl Int (Sum Unit Bool))}(n:Nat)(p:Nat->Bool)
 (hst:∀ i:Nat,i<n->step (i:Int)=some (if p i=true then .next ((i+1:Nat):Int) else .done (.inr false)))
 (hend:∀ i:Nat,n<=i->step (i:Int)=some (.done (.inl ()))) (i0:Nat) (b:Bool) (hb:b=true↔∀ i,i0<=i->i<n->p i=true) :
 Option.bind (iter step (n+1) (i0:Int)) (onEnd (fun _=>some true) (fun r=>some r))=some b:=by
 have fin:∀ (i k:Nat),n<=i->(∀ j,i0<=j->j<i->j<n->p j=true)->Option.bind (iter step (k+1) (i:Int)) (onEnd (fun _=>some true) (fun r=>some r))=some b:=by
  intro i k h1 h4
  simp only [iter,hend i h1,Option.bind_some,onEnd]
  have:b=true:=hb.2 fun j a c=>h4 j a (by omega) c
  rw [this]
 have key:∀ (m i k:Nat),n<=i+m->m+1<=k->i0<=i->(∀ j,i0<=j->j<i->j<n->p j=true)->Option.bind (iter step k (i:Int)) (onEnd (fun _=>some true) (fun r=>some r))=some b:=by
  intro m
  induction m with
  | zero =>
    intro i k h1 h2 h3 h4
    obtain ⟨k,rfl⟩:∃ m,k=m+1:=⟨k-1,by omega⟩
    exact fin i k (by omega) h4
  | succ m ih =>
    intro i k h1 h2 h3 h4
    obtain ⟨k,rfl⟩:∃ m,k=m+1:=⟨k-1,by omega⟩
    by_cases hlt:i<n
    ·simp only [iter,hst i hlt]
     cases hp:p i
     ·simp only [Bool.false_eq_true,if_false,Option.bind_some,onEnd]
      have:b=false:=by
       cases b
       ·rfl
       ·have:=hb.1 rfl i h3 hlt
        rw [hp] at this; cases this
      rw [this]
     ·simp only [if_true,Option.bind_some]
      refine ih (i+1) k (by omega) (by omega) (by omega) (fun j a c d=>?_)
      by_cases e:j<i
      ·exact h4 j a e d
      ·have:j=i:=by omega
       subst this; exact hp
    ·exact fin i k (by omega) h4
 exact key n i0 (n+1) (by omega) (by omega) (Nat.le_refl _) (fun j a c=>by omega)
theorem j8 (i:Nat)(h:i<=4611686018427387904):w64 ((i:Int)+1)=((i+1:Nat):Int):=by rw [Q7 (by omega) (by omega)]; rfl
theorem a4I (b:Bool)(x:Int):(bif (!b) then some (Fl.done (Sum.inr false)) else some (Fl.next x))=some (if b=true then Fl.next x else (Fl.done (Sum.inr false):Fl Int (Sum Unit Bool))):=by cases b<;>rfl
theorem c27 {α:Type}{step:Int->Option (Fl Int (Sum Unit Bool))}{rc:α->Option Bool}{p:α->Bool}(xs:List α)
 (hst:∀ q,step q=bif decide (q<(xs.length:Int)) then Option.bind (idx xs q) fun x=>Option.bind (rc x) fun r =>
   bif !r then some (.done (.inr false)) else some (.next (wr .i64 (q+1))) else some (.done (.inl ())))
 (hrc:∀ x∈xs,rc x=some (p x)) (hl:xs.length<=4194304) :
 (Option.bind (iter step (((xs.length:Int)).toNat+1) 0) fun b=>onEnd (fun _=>some true) (fun r=>some r) b)=some (xs.all p):=by
 rw [Z5]
 refine b3F xs.length (fun i=>match xs[i]? with | some x=>p x | none=>true) ?_ ?_ 0 (xs.all p) ?_
 ·intro i hi
  rw [hst,W0,if_pos (by simp; omega),j6 (List.getElem?_eq_getElem hi)]
  simp only [Option.bind_some]
  rw [hrc _ (List.getElem_mem hi),List.getElem?_eq_getElem hi]
  simp only [Option.bind_some,Z2,j8 i (by omega)]
  exact a4I _ _
 ·intro i hi
  rw [hst,W0,if_neg (by simp; omega)]
 ·rw [List.all_eq_true]
  constructor
  ·intro h i _ hi
   rw [List.getElem?_eq_getElem hi]
   exact h _ (List.getElem_mem hi)
  ·intro h x hx
   obtain ⟨i,hi,rfl⟩:=List.getElem_of_mem hx
   have:=h i (by omega) hi
   rwa [List.getElem?_eq_getElem hi] at this
def asc {α:Type}(c:α->α->Int):List α->Bool
 | x::y::r=>decide (c x y<0)&&asc c (y::r)
 | _=>true
theorem b6O {α:Type}(c:α->α->Int):∀ xs:List α,asc c xs=true↔∀ i,1<=i->(hi:i<xs.length)->c xs[i-1] xs[i]<0
 | []=>by simp [asc]
 | [x]=>by
   simp only [asc,true_iff]
   intro i h1 hi
   simp at hi; omega
 | x::y::r=>by
   have ih:=b6O c (y::r)
   simp only [asc,Bool.and_eq_true,decide_eq_true_eq,ih]
   constructor
   ·intro ⟨h1,h2⟩ i hi hl
    obtain ⟨i,rfl⟩:∃ m,i=m+1:=⟨i-1,by omega⟩
    cases i with
    | zero=>exact h1
    | succ i=>exact h2 (i+1) (by omega) (by simpa using hl)
   ·intro h
    refine ⟨h 1 (by omega) (by simp),fun i hi hl=>?_⟩
    obtain ⟨i,rfl⟩:∃ m,i=m+1:=⟨i-1,by omega⟩
    have:=h (i+2) (by omega) (by simpa using hl)
    simpa using this
theorem c7c {α:Type}{step:Int->Option (Fl Int (Sum Unit Bool))}{rc:α->α->Option Int}{c:α->α->Int}(xs:List α)
 (hst:∀ q,step q=bif decide (q<(xs.length:Int)) then Option.bind (idx xs (wr .i64 (q-1))) fun x=>Option.bind (idx xs q) fun y=>Option.bind (rc x y) fun r =>
   bif decide (0<=r) then some (.done (.inr false)) else some (.next (wr .i64 (q+1))) else some (.done (.inl ())))
 (hrc:∀ x∈xs,∀ y,rc x y=some (c x y)) (hl:xs.length<=4194304) :
 (Option.bind (iter step (((xs.length:Int)).toNat+1) 1) fun b=>onEnd (fun _=>some true) (fun r=>some r) b)=some (asc c xs):=by
 rw [Z5]
 have hp:∀ i,1<=i->∀ hi:i<xs.length,step (i:Int)=some (if decide (c xs[i-1] xs[i]<0)=true then .next ((i+1:Nat):Int) else .done (.inr false)):=by
  intro i h1 hi
  have hw:w64 ((i:Int)-1)=((i-1:Nat):Int):=by rw [Q7 (by omega) (by omega)]; omega
  rw [hst]
  simp only [W0,Z2]
  rw [if_pos (by simp; omega),hw,j6 (List.getElem?_eq_getElem (by omega:i-1<xs.length)),j6 (List.getElem?_eq_getElem hi)]
  simp only [Option.bind_some]
  rw [hrc _ (List.getElem_mem _)]
  simp only [Option.bind_some,j8 i (by omega)]
  by_cases h:c xs[i-1] xs[i]<0
  ·rw [if_neg (by simp; omega),if_pos (by simpa using h)]
  ·rw [if_pos (by simp; omega),if_neg (by simpa using h)]
 have hend:∀ i:Nat,xs.length<=i->step (i:Int)=some (.done (.inl ())):=by
  intro i hi
  rw [hst,W0,if_neg (by simp; omega)]
 let step':Int->Option (Fl Int (Sum Unit Bool)):=fun q=>if q=0/\0<xs.length then some (.next 1) else step q
 have e:∀ (k i:Nat),1<=i->iter step' k (i:Int)=iter step k (i:Int):=by
  intro k
  induction k with
  | zero=>intro i _; rfl
  | succ k ih =>
    intro i h1
    have e1:step' (i:Int)=step (i:Int):=by simp only [step']; rw [if_neg (by omega)]
    simp only [iter,e1]
    by_cases hi:i<xs.length
    ·rw [hp i h1 hi]
     by_cases h:decide (c xs[i-1] xs[i]<0)=true
     ·rw [if_pos h]; exact ih (i+1) (by omega)
     ·rw [if_neg h]; rfl
    ·rw [hend i (by omega)]; rfl
 have e':=e (xs.length+1) 1 (by omega)
 rw [show ((1:Nat):Int)=1 from rfl] at e'
 rw [<- e']
 refine b3F xs.length (fun i=>if h:1<=i/\i<xs.length then decide (c xs[i-1] (xs[i]'h.2)<0) else true) ?_ ?_ 1 (asc c xs) ?_
 ·intro i hi
  cases i with
  | zero =>
    simp only [step']
    rw [if_pos ⟨rfl,hi⟩]
    rfl
  | succ i =>
    have e1:step' ((i+1:Nat):Int)=step ((i+1:Nat):Int):=by simp only [step']; rw [if_neg (by omega)]
    rw [e1,hp (i+1) (by omega) hi,dif_pos ⟨by omega,hi⟩]
 ·intro i hi
  have e1:step' (i:Int)=step (i:Int):=by simp only [step']; rw [if_neg (by omega)]
  rw [e1,hend i hi]
 ·rw [b6O]
  constructor
  ·intro h i h1 hi
   rw [dif_pos ⟨h1,hi⟩]; simpa using h i h1 hi
  ·intro h i h1 hi
   have:=h i h1 hi
   rw [dif_pos ⟨h1,hi⟩] at this; simpa using this
def a7h (c:UInt8):Bool:=decide (97<=(c.toNat:Int))&&decide ((c.toNat:Int)<=122)
def upC (c:UInt8):Bool:=decide (65<=(c.toNat:Int))&&decide ((c.toNat:Int)<=90)
def a8q (c:UInt8):Bool:=decide (48<=(c.toNat:Int))&&decide ((c.toNat:Int)<=57)
def b6d (f g:UInt8->Bool)(s:ByteArray):Bool :=
 match s.data.toList with
 | []=>false
 | c::r=>decide (r.length<=15)&&f c&&r.all g
def a6O (s:ByteArray):Bool:=b6d upC (fun c=>a7h c||upC c||a8q c||(c.toNat:Int)==95) s
def a41 (s:ByteArray):Bool:=b6d a7h (fun c=>a7h c||a8q c||(c.toNat:Int)==95) s
theorem c6F (c:UInt8):a5u (c.toNat:Int)=some (a7h c):=by
 unfold a5u a7h
 cases decide (97<=(c.toNat:Int))<;>simp
theorem d2V (c:UInt8):a63 (c.toNat:Int)=some (upC c):=by
 unfold a63 upC
 cases decide (65<=(c.toNat:Int))<;>simp
theorem d0L (c:UInt8):a67 (c.toNat:Int)=some (a8q c):=by
 unfold a67 a8q
 cases decide (48<=(c.toNat:Int))<;>simp
theorem b2X {s:ByteArray}{i:Nat}{c:UInt8}(h:s.data.toList[i]?=some c):a6X s (i:Int)=some c:=by
 unfold a6X
 rw [if_pos (by omega)]
 obtain ⟨hi,e⟩:=List.getElem?_eq_some_iff.1 h
 have hs:i<s.size:=by simpa using hi
 show s[((i:Int)).toNat]?=some c
 rw [Int.toNat_natCast,getElem?_pos s i hs]
 show some s.data[i]=some c
 simpa using e
theorem b9Y (s:ByteArray):s.size=s.data.toList.length:=by simp
theorem c8e {a1 a2:Int->Option Bool}{f g:UInt8->Bool}(h1:∀ c:UInt8,a1 (c.toNat:Int)=some (f c))(h2:∀ c:UInt8,a2 (c.toNat:Int)=some (g c))(s:ByteArray):a7X s a1 a2=some (b6d f g s):=by
 unfold a7X b6d
 simp only [W0,c37]
 have hsz:=b9Y s
 cases hs:s.data.toList with
 | nil =>
   rw [hs] at hsz
   rw [hsz]
   simp
 | cons c r =>
   rw [hs] at hsz
   simp only [List.length_cons] at hsz
   have e1:decide ((s.size:Int)<1)=false:=by simp; omega
   rw [e1]
   simp only [Bool.false_eq_true,if_false,Option.bind_some]
   by_cases hb:16<(s.size:Int)
   ·rw [if_pos (by simpa using hb)]
    have:decide (r.length<=15)=false:=by simp; omega
    rw [this]; rfl
   ·rw [if_neg (by simpa using hb)]
    have e2:decide (r.length<=15)=true:=by simp; omega
    have e3:a6X s 0=some c:=b2X (i:=0) (by rw [hs]; rfl)
    rw [e2,e3]
    simp only [Option.bind_some,h1,Bool.true_and]
    cases f c
    ·rfl
    ·simp only [Bool.not_true,Bool.false_eq_true,if_false,Bool.true_and]
     refine b3F s.size (fun i=>match s.data.toList[i]? with | some x=>g x | none=>true) ?_ ?_ 1 (r.all g) ?_
     ·intro i hi
      have hi':i<s.data.toList.length:=by rw [hs]; simp; omega
      unfold a9Q
      rw [W0,if_pos (by simp; omega),b2X (List.getElem?_eq_getElem hi')]
      simp only [Option.bind_some,h2]
      rw [List.getElem?_eq_getElem hi',Z2,j8 i (by omega)]
      exact a4I _ _
     ·intro i hi
      unfold a9Q
      rw [W0,if_neg (by simp; omega)]
     ·rw [hs,List.all_eq_true]
      constructor
      ·intro h i h1 hi
       obtain ⟨i,rfl⟩:∃ m,i=m+1:=⟨i-1,by omega⟩
       have hr:i<r.length:=by omega
       simp only [List.getElem?_cons_succ,List.getElem?_eq_getElem hr]
       exact h _ (List.getElem_mem hr)
      ·intro h x hx
       obtain ⟨i,hi,rfl⟩:=List.getElem_of_mem hx
       have:=h (i+1) (by omega) (by omega)
       simpa only [List.getElem?_cons_succ,List.getElem?_eq_getElem hi] using this
theorem c95 (s:ByteArray):a3t s=some (a6O s):=by
 unfold a3t
 simp only [K1]
 rw [c8e d2V (g:=fun c=>a7h c||upC c||a8q c||(c.toNat:Int)==95) (fun c=>by
  unfold a7U
  rw [c6F,d2V,d0L]
  simp only [Option.bind_some]
  cases a7h c<;>cases upC c<;>cases a8q c<;>simp)]
 rfl
theorem c3S (s:ByteArray):a6o s=some (a41 s):=by
 unfold a6o
 simp only [K1]
 rw [c8e c6F (g:=fun c=>a7h c||a8q c||(c.toNat:Int)==95) (fun c=>by
  unfold b0k
  rw [c6F,d0L]
  simp only [Option.bind_some]
  cases a7h c<;>cases a8q c<;>simp)]
 rfl
def a1m (l:List ByteArray):Bool:=asc cS l&&l.all a6O
def a0c (k:Key):Bool:=if k.Kind=0 then a41 k.Text else if k.Kind=1 then decide ((k.Text.size:Int)<=64) else false
def a9N (v:Val):Bool:=v.Keys.length==v.Kids.length&&(asc cK v.Keys&&v.Keys.all a0c)
abbrev a7r:Val:=Val.mk 0 0 (⟨#[]⟩) ([]:List Val) ([]:List Key) ([]:List Ent) ([]:List ByteArray)
def a3n (n:Int)(e:Ent):Bool:=(e.Args.length:Int)==n&&(!e.Fails||cV e.Result a7r==0)
def b2y (v:Val):Bool:=decide (0<=v.Int_)&&decide (v.Int_<=4)&&(asc cE v.Entries&&v.Entries.all (a3n v.Int_))
theorem d05 (l:List ByteArray)(hl:l.length<=4194304):a5X l=some (a1m l):=by
 unfold a5X a5T a1m
 simp only [K1]
 rw [c7c (step:=a7k l fun x y=>a0p x y) (rc:=a0p) (c:=cS) l (fun q=>rfl) (fun x _ y=>b2w x y) hl]
 simp only [Option.bind_some]
 rw [c27 (step:=a9J l) (rc:=a3t) (p:=a6O) l (fun q=>rfl) (fun x _=>c95 x) hl]
 cases asc cS l<;>simp
theorem c3g (k:Key):a4H k=some (a0c k):=by
 unfold a4H a0c
 rw [c3S]
 simp only [W0,beq_iff_eq,K1]
 by_cases h:k.Kind=0
 ·simp [h]
 ·by_cases h1:k.Kind=1
  ·simp [h1]
  ·simp [h,h1]
theorem d4N (v:Val)(hl:k7 v<=4194304):a8k v=some (a9N v):=by
 have hb:=a1k v
 have hk:=a6j v.Keys
 unfold a8k a5s a9N
 simp only [K1]
 rw [c7c (step:=a61 v.Keys fun x y=>a0g x y) (rc:=a0g) (c:=cK) v.Keys (fun q=>rfl) (fun x _ y=>b5I x y) (by omega)]
 simp only [Option.bind_some]
 rw [c27 (step:=b2e v) (rc:=a4H) (p:=a0c) v.Keys (fun q=>rfl) (fun x _=>c3g x) (by omega)]
 by_cases h:v.Keys.length=v.Kids.length
 ·rw [W0,if_neg (by simp; omega)]
  simp only [h,beq_self_eq_true,Bool.true_and]
  cases asc cK v.Keys<;>simp
 ·rw [W0,if_pos (by simp; omega)]
  have:(v.Keys.length==v.Kids.length)=false:=by simpa using h
  rw [this]; rfl
theorem d4v (fuel:Nat)(e:Ent)(n:Int)(hf:2*a4x e<=fuel)(hb:a4x e<=4194304):a4P fuel e n=some (a3n n e):=by
 have he:=a1E e
 unfold a4P b3C b5M a3n
 simp only [K1]
 rw [(b7H fuel).1 e.Result a7r (by omega) (by omega)]
 simp only [Option.bind_some]
 cases (e.Args.length:Int)==n<;>cases e.Fails<;>simp
theorem d4h (fuel:Nat)(v:Val)(hf:2*k7 v<=fuel+2)(hb:k7 v<=4194304):a5f fuel v=some (b2y v):=by
 have he:=a1k v
 have hk:=a3A v.Entries
 unfold a5f a4r b2y
 simp only [K1]
 rw [c7c (step:=a6k v.Entries fun x y=>V6 fuel x y) (rc:=V6 fuel) (c:=cE) v.Entries (fun q=>rfl) (fun x hx y=>(b7H fuel).2.2 x y (by have:=a0e hx; omega) (by have:=a0e hx; omega)) (by omega)]
 simp only [Option.bind_some]
 rw [c27 (step:=a8C v fuel) (rc:=fun x=>a4P fuel x v.Int_) (p:=a3n v.Int_) v.Entries (fun q=>rfl) (fun x hx=>d4v fuel x _ (by have:=a0e hx; omega) (by have:=a0e hx; omega)) (by omega)]
 by_cases h1:v.Int_<0
 ·have e1:decide (0<=v.Int_)=false:=by simp; omega
  rw [e1]; simp [h1]
 ·have e1:decide (0<=v.Int_)=true:=by simp; omega
  by_cases h2:4<v.Int_
  ·have e2:decide (v.Int_<=4)=false:=by simp; omega
   rw [e1,e2]; simp [h1,h2]
  ·have e2:decide (v.Int_<=4)=true:=by simp; omega
   rw [e1,e2]
   simp only [h1,h2,decide_false,cond_false,Option.bind_some,Bool.true_and]
   cases asc cE v.Entries<;>simp
def a4a (v:Val):Bool :=
 (v.Kind==1||v.Kind==4||v.Kind==9||v.Int_==0)&&(v.Kind==2||v.Kind==3||Z6 v.Text ⟨#[]⟩) &&
 (v.Kind==6||v.Kind==7||v.Kind==8||v.Kids.isEmpty)&&(v.Kind==8||v.Keys.isEmpty)&&(v.Kind==9||v.Entries.isEmpty)
def b1f (l:List Val):Bool :=
 match l with
 | [_,t]=>t.Kind==5||t.Kind==7
 | _=>false
def a4j (v:Val):Bool :=
 if v.Kind=1 then true else if v.Kind=2 then decide ((v.Text.size:Int)<=64) else if v.Kind=3 then a41 v.Text else if v.Kind=4 then decide (0<=v.Int_) else
 if v.Kind=5 then true else if v.Kind=6 then decide (v.Kids.length<=4) else if v.Kind=7 then b1f v.Kids else if v.Kind=8 then a9N v else if v.Kind=9 then b2y v else false
def a2e (v:Val):Bool:=a1m v.Labels&&(a4a v&&a4j v)
theorem b9A {α:Type}(l:List α):decide (0<(l.length:Int))=!l.isEmpty:=by cases l<;>simp
theorem d3o (fuel:Nat)(v:Val)(hf:2*k7 v<=fuel+2)(hb:k7 v<=4194304):a7o fuel v=some (a2e v):=by
 have he:=a1k v
 have hs:=a3Q v.Labels
 unfold a7o a2e
 simp only [K1]
 rw [d05 v.Labels (by omega),d4N v hb,d4h fuel v hf hb,c3S]
 simp only [Option.bind_some,b9A]
 by_cases hk:v.Kind=1\/v.Kind=2\/v.Kind=3\/v.Kind=4\/v.Kind=5\/v.Kind=6\/v.Kind=7\/v.Kind=8\/v.Kind=9
 ·have ku:∀ b u,a8f v.Kind=some (u,b)->True:=fun _ _ _=>trivial
  clear ku
  unfold a4a a4j
  generalize a1m v.Labels=l
  generalize Z6 v.Text ⟨#[]⟩=t
  generalize v.Keys.isEmpty=y
  generalize v.Entries.isEmpty=e
  generalize a9N v=m
  generalize b2y v=f
  generalize a41 v.Text=a
  generalize decide ((v.Text.size:Int)<=64)=z
  have hi:(v.Int_ != 0)=!(v.Int_==0):=rfl
  have h6:decide ((v.Kids.length:Int)<=4)=decide (v.Kids.length<=4):=by
   by_cases h:v.Kids.length<=4
   ·simp [h]; omega
   ·simp [h]; omega
  rw [hi,h6]
  have h7:(bif (v.Kids.length:Int)==2 then Option.bind (idx v.Kids 1) fun x227=>(bif x227.Kind==5 then some true else Option.bind (idx v.Kids 1) fun x255=>some (x255.Kind==7)) else some false)=some (b1f v.Kids):=by
   unfold b1f
   match v.Kids with
   | []=>rfl
   | [_]=>rfl
   | [x,t] =>
     have e2:((([x,t]:List Val).length:Int)==2)=true:=rfl
     rw [e2]
     have:idx [x,t] 1=some t:=rfl
     simp only [this,Option.bind_some,cond_true]
     cases t.Kind==5<;>rfl
   | _::_::_::r =>
     rw [W0,if_neg (by simp; omega)]
  rw [h7]
  generalize b1f v.Kids=c
  generalize v.Kids.isEmpty=d
  generalize (v.Int_==0)=i
  generalize decide (0<=v.Int_)=p
  generalize decide (v.Kids.length<=4)=n
  rcases hk with h | h | h | h | h | h | h | h | h<;>rw [h]<;>cases l<;>simp [a8f]<;>cases i<;>cases t<;>cases d<;>cases y<;>cases e<;>simp
 ·have:a8f v.Kind=some (Value_used.mk false false false false false,false):=by
   unfold a8f
   simp only [not_or] at hk
   obtain ⟨h1,h2,h3,h4,h5,h6,h7,h8,h9⟩:=hk
   have ef:∀ k:Int,¬ v.Kind=k->(v.Kind==k)=false:=fun k h=>by simpa using h
   rw [ef 1 h1,ef 2 h2,ef 3 h3,ef 4 h4,ef 5 h5,ef 6 h6,ef 7 h7,ef 8 h8,ef 9 h9]
   rfl
  rw [this]
  have hkk:a4j v=false:=by
   simp only [not_or] at hk
   obtain ⟨h1,h2,h3,h4,h5,h6,h7,h8,h9⟩:=hk
   simp [a4j,h1,h2,h3,h4,h5,h6,h7,h8,h9]
  rw [hkk]
  simp
mutual
def vOK:Val->Bool
 | .mk k n t kids keys ents labs=>a2e (.mk k n t kids keys ents labs)&&(a1K kids&&a5p ents)
def a1K:List Val->Bool
 | []=>true
 | x::r=>vOK x&&a1K r
def eOK:Ent->Bool
 | .mk args fails res=>a1K args&&(fails||vOK res)
def a5p:List Ent->Bool
 | []=>true
 | x::r=>eOK x&&a5p r
end
theorem b9F (v:Val):vOK v=(a2e v&&(a1K v.Kids&&a5p v.Entries)):=by cases v; simp only [vOK,Val.Kids,Val.Entries]
theorem b6j (e:Ent):eOK e=(a1K e.Args&&(e.Fails||vOK e.Result)):=by cases e; simp only [eOK,Ent.Args,Ent.Fails,Ent.Result]
theorem a4U:∀ l:List Val,a1K l=l.all vOK
 | []=>by simp [a1K]
 | x::r=>by simp only [a1K,List.all_cons,a4U r]
theorem a84:∀ l:List Ent,a5p l=l.all eOK
 | []=>by simp [a5p]
 | x::r=>by simp only [a5p,List.all_cons,a84 r]
theorem c4v:∀ l:List Ent,a5p l=(l.flatMap a7Z).all vOK
 | []=>by simp [a5p]
 | x::r=>by
   simp only [a5p,List.flatMap_cons,List.all_append,c4v r,b6j,a7Z,a4U]
   cases x.Fails<;>simp
theorem d0u (v:Val):vOK v=(a2e v&&(a9G v).all vOK):=by
 rw [b9F,a9G,List.all_append,a4U,c4v]
theorem c78:∀ (k:Nat) (v:Val),2*k7 v<=k->k7 v<=4194304->a2S k v=some (vOK v)
 | 0,v,h,_=>by have:=a9c v; omega
 | k+1,v,h,hb=>by
   have hp:=c9d v
   have hl:=a2P (a9G v)
   show a8t k (a2S k) v=_
   unfold a8t
   rw [d3o k v (by omega) hb,d1w v hb,d0u]
   simp only [Option.bind_some]
   rw [c27 (step:=b1u (a9G v) (a2S k)) (rc:=a2S k) (p:=vOK) (a9G v) (fun q=>rfl) (fun x hx=>c78 k x (by have:=a1s hx; omega) (by have:=a1s hx; omega)) (by omega)]
   cases a2e v<;>simp
theorem c1h (k:Nat)(v:Val)(h:2*k7 v<=k)(hb:k7 v<=4194304):a6c k v=some (if vOK v then 0 else 1):=by
 unfold a6c
 rw [c78 k v h hb]
 cases vOK v<;>rfl
end Go.Pl
end
section
namespace Go.Pl
open Go Go.RowKit Go.Sx Go.Qx
def a0k {α:Type}(p:α->Bool)(x:α)(out:List α):List α:=out.takeWhile p++[x]++out.dropWhile p
theorem c4h {α:Type}(p:α->Bool):∀ l:List α,l.take (l.takeWhile p).length=l.takeWhile p
 | []=>rfl
 | x::r=>by
   by_cases h:p x=true
   ·simp [h,c4h p r]
   ·simp [h]
theorem c3z {α:Type}(p:α->Bool):∀ l:List α,l.drop (l.takeWhile p).length=l.dropWhile p
 | []=>rfl
 | x::r=>by
   by_cases h:p x=true
   ·simp [h,c3z p r]
   ·simp [h]
theorem b3z {α:Type}(p:α->Bool):∀ l:List α,(l.takeWhile p).length<=l.length
 | []=>Nat.le_refl _
 | x::r=>by
   have:=b3z p r
   by_cases h:p x=true
   ·simp [h,this]
   ·simp [h]
theorem c3o {α:Type}(p:α->Bool):∀ (l:List α),l[(l.takeWhile p).length]?=(l.dropWhile p).head?
 | []=>rfl
 | x::r=>by
   have:=c3o p r
   by_cases h:p x=true
   ·simp [h,this]
   ·simp [h]
theorem c2X {α:Type}{step:Int->Option (Fl Int Int)}(out:List α)(p:α->Bool)
 (hst:∀ (i:Nat) (x:α),out[i]?=some x->step (i:Int)=some (if p x=true then .next ((i+1:Nat):Int) else .done (i:Int)))
 (hend:step (out.length:Int)=some (.done (out.length:Int))):iter step (out.length+1) 0=some ((out.takeWhile p).length:Int):=by
 have key:∀ (m i k:Nat),i+m=out.length->m+1<=k->iter step k (i:Int)=some (((i+((out.drop i).takeWhile p).length:Nat)):Int):=by
  intro m
  induction m with
  | zero =>
    intro i k h1 h2
    obtain ⟨k,rfl⟩:∃ m,k=m+1:=⟨k-1,by omega⟩
    have e:i=out.length:=by omega
    subst e
    simp [iter,hend]
  | succ m ih =>
    intro i k h1 h2
    obtain ⟨k,rfl⟩:∃ m,k=m+1:=⟨k-1,by omega⟩
    have hlt:i<out.length:=by omega
    have hs:=hst i out[i] (List.getElem?_eq_getElem hlt)
    rw [List.drop_eq_getElem_cons hlt,List.takeWhile_cons]
    by_cases hp:p out[i]=true
    ·rw [if_pos hp] at hs
     simp only [iter,hs,Option.bind_some,ih (i+1) k (by omega) (by omega),hp,if_true,List.length_cons]
     congr 2
     omega
    ·rw [if_neg hp] at hs
     simp [iter,hs,hp]
 have:=key out.length 0 (out.length+1) (by omega) (Nat.le_refl _)
 simpa using this
theorem X3 {α σ τ β:Type}{step:σ->Option (Fl σ (Sum τ β))}(xs:List α)(p:α->Bool)(pk:Nat->σ)(d:τ)(b:β)
 (hst:∀ (i:Nat) (x:α),xs[i]?=some x->step (pk i)=some (if p x=true then .next (pk (i+1)) else .done (.inr b)))
 (hend:step (pk xs.length)=some (.done (.inl d))):iter step (xs.length+1) (pk 0)=some (if xs.all p=true then .inl d else .inr b):=by
 have key:∀ (m i k:Nat),i+m=xs.length->m+1<=k->iter step k (pk i)=some (if (xs.drop i).all p=true then .inl d else .inr b):=by
  intro m
  induction m with
  | zero =>
    intro i k h1 h2
    obtain ⟨k,rfl⟩:∃ m,k=m+1:=⟨k-1,by omega⟩
    have e:i=xs.length:=by omega
    subst e
    simp [iter,hend]
  | succ m ih =>
    intro i k h1 h2
    obtain ⟨k,rfl⟩:∃ m,k=m+1:=⟨k-1,by omega⟩
    have hlt:i<xs.length:=by omega
    have hs:=hst i xs[i] (List.getElem?_eq_getElem hlt)
    rw [List.drop_eq_getElem_cons hlt,List.all_cons]
    by_cases hp:p xs[i]=true
    ·rw [if_pos hp] at hs
     simp only [iter,hs,Option.bind_some,ih (i+1) k (by omega) (by omega),hp,Bool.true_and]
    ·rw [if_neg hp] at hs
     simp [iter,hs,hp]
 have:=key xs.length 0 (xs.length+1) (by omega) (Nat.le_refl _)
 simpa using this
theorem b2R {α:Type}(c:α->α->Int)(hanti:∀ a b,c b a = - c a b)(x:α):∀ out:List α,asc c out=true->(∀ y,(out.dropWhile (fun y=>decide (c y x<0))).head?=some y->c y x≠0) ->
 asc c (a0k (fun y=>decide (c y x<0)) x out)=true
 | [],_,_=>by simp [a0k,asc]
 | y::r,h,hne=>by
   by_cases hp:c y x<0
   ·have ih:=b2R c hanti x r (by cases r with | nil=>simp [asc] | cons z r=>simp [asc] at h; exact h.2) (by
     intro z hz
     refine hne z ?_
     simpa [hp] using hz)
    have e:a0k (fun y=>decide (c y x<0)) x (y::r)=y::a0k (fun y=>decide (c y x<0)) x r:=by simp [a0k,hp]
    rw [e]
    cases r with
    | nil=>simp [a0k,asc,hp]
    | cons z r =>
      simp only [asc,Bool.and_eq_true,decide_eq_true_eq] at h
      by_cases hz:c z x<0
      ·have e2:a0k (fun y=>decide (c y x<0)) x (z::r)=z::a0k (fun y=>decide (c y x<0)) x r:=by simp [a0k,hz]
       rw [e2] at ih ⊢
       simp only [asc,Bool.and_eq_true,decide_eq_true_eq]
       exact ⟨h.1,ih⟩
      ·have e2:a0k (fun y=>decide (c y x<0)) x (z::r)=x::z::r:=by simp [a0k,hz]
       rw [e2] at ih ⊢
       simp only [asc,Bool.and_eq_true,decide_eq_true_eq] at ih ⊢
       exact ⟨hp,ih⟩
   ·have e:a0k (fun y=>decide (c y x<0)) x (y::r)=x::y::r:=by simp [a0k,hp]
    have hy:=hne y (by simp [hp])
    have ha:=hanti y x
    rw [e]
    simp only [asc,Bool.and_eq_true,decide_eq_true_eq]
    exact ⟨by omega,h⟩
theorem b4F {α:Type}{p:α->Bool}{x y:α}{out:List α}(h:y∈a0k p x out):y=x\/y∈out:=by
 have e:=List.takeWhile_append_dropWhile (p:=p) (l:=out)
 simp only [a0k,List.mem_append,List.mem_singleton] at h
 rcases h with (h | h) | h
 ·exact .inr (by rw [<- e]; exact List.mem_append_left _ h)
 ·exact .inl h
 ·exact .inr (by rw [<- e]; exact List.mem_append_right _ h)
theorem a7O {α:Type}(p:α->Bool)(x:α)(out:List α):(a0k p x out).length=out.length+1:=by
 have e:=congrArg List.length (List.takeWhile_append_dropWhile (p:=p) (l:=out))
 simp only [List.length_append] at e
 simp only [a0k,List.length_append,List.length_singleton]
 omega
theorem c22 {α:Type}(l:List α){k:Nat}(h:k<=l.length):cut l 0 (k:Int)=some (l.take k):=by
 unfold cut
 rw [if_pos ⟨by omega,by omega,by omega⟩]
 simp
theorem c6R {α:Type}(l:List α){k:Nat}(h:k<=l.length):cut l (k:Int) (l.length:Int)=some (l.drop k):=by
 unfold cut
 rw [if_pos ⟨by omega,by omega,by omega⟩]
 simp
theorem c5Z {α β:Type}(out:List α)(x:α)(p:α->Bool)(b:Nat)(hb:b<=1024)(hl:out.length<=4194304)(f:List α->Option β) :
 (Option.bind (cut out 0 ((out.takeWhile p).length:Int)) fun u=>Option.bind (Z8 (0+u.length) b) fun _ =>
   Option.bind (Z8 (u.length+[x].length) b) fun _=>Option.bind (cut out ((out.takeWhile p).length:Int) (out.length:Int)) fun w =>
   Option.bind (Z8 ((u++[x]).length+w.length) b) fun _=>f ((u++[x])++w))=f (a0k p x out):=by
 have hk:=b3z p out
 have rm:∀ n,n<=4194305->Z8 n b=some ():=fun n hn=>Y0 (by
  have:n*b<=4194305*1024:=Nat.mul_le_mul hn hb
  omega)
 rw [c22 out hk,c6R out hk,c4h,c3z]
 have hl2:=a7O p x out
 simp only [a0k,List.length_append,List.length_singleton] at hl2
 simp only [Option.bind_some]
 rw [rm _ (by simp; omega),rm _ (by simp; omega),rm _ (by simp only [List.length_append,List.length_singleton]; omega)]
 rfl
theorem d25 (a b:Ent):cE a b=lx (eE a) (eE b):=by
 have:=(d0F (a4x a)).2 a (Nat.le_refl _) b [] []
 simpa [lx,b0L] using this.symm
theorem c7T (a b:Ent):cE b a = - cE a b:=by rw [d25,d25]; exact b6X _ _
def a4p (out:List Ent)(x:Ent):List Ent :=
 match (out.dropWhile (fun y=>decide (cE y x<0))).head? with
 | some y=>if cE y x=0 then out else a0k (fun y=>decide (cE y x<0)) x out
 | none=>a0k (fun y=>decide (cE y x<0)) x out
theorem b2M (a b:List Ent):Z1 (a++b)=Z1 a+Z1 b:=by
 induction a with
 | nil=>simp [Z1]
 | cons x r ih=>simp only [List.cons_append,Z1,ih]; omega
theorem c1j (p:Ent->Bool)(x:Ent)(out:List Ent):Z1 (a0k p x out)=Z1 out+a4x x:=by
 have e:=congrArg Z1 (List.takeWhile_append_dropWhile (p:=p) (l:=out))
 rw [b2M] at e
 simp only [a0k,b2M,Z1]
 omega
theorem c9Z (out:List Ent)(x:Ent):Z1 (a4p out x)<=Z1 out+a4x x:=by
 unfold a4p
 split
 ·split
  ·omega
  ·rw [c1j]; omega
 ·rw [c1j]; omega
theorem d1u (out:List Ent)(x:Ent):(a4p out x).length<=out.length+1:=by
 unfold a4p
 split
 ·split
  ·omega
  ·rw [a7O]; omega
 ·rw [a7O]; omega
theorem c7j {out:List Ent}{x y:Ent}(h:y∈a4p out x):y=x\/y∈out:=by
 unfold a4p at h
 split at h
 ·split at h
  ·exact .inr h
  ·exact b4F h
 ·exact b4F h
theorem d1Z (out:List Ent)(x:Ent)(h:asc cE out=true):asc cE (a4p out x)=true:=by
 unfold a4p
 split
 ·rename_i y hy
  split
  ·exact h
  ·rename_i hne
   refine b2R cE c7T x out h (fun z hz=>?_)
   rw [hy] at hz
   cases hz
   exact hne
 ·rename_i hy
  refine b2R cE c7T x out h (fun z hz=>?_)
  rw [hy] at hz; cases hz
theorem c7m (fuel:Nat)(es out:List Ent)(i:Nat)(x:Ent)(hx:es[i]?=some x)(hf:∀ e∈out,2*a4x e<=fuel)(hb:∀ e∈out,a4x e<=4194304)(hl:out.length<=4194304)(hi:i<=4194304) :
 a0t es fuel (out,(i:Int))=some (.next (a4p out x,((i+1:Nat):Int))):=by
 have hlt:i<es.length:=(List.getElem?_eq_some_iff.1 hx).1
 have hix:idx es (i:Int)=some x:=j6 hx
 have hcmp:∀ e∈out,Y4 fuel e x=some (cE e x):=fun e he=>(a59 fuel).2.2 e x (hf e he) (hb e he)
 unfold a0t
 simp only [Z5]
 rw [c2X (step:=a3F es (out,(i:Int)) fuel) out (fun y=>decide (cE y x<0)) ?_ ?_]
 ·simp only [W0,Z2]
  rw [if_pos (by simp; omega)]
  simp only [Option.bind_some,hix,Int.toNat_natCast,hx]
  have hk:=b3z (fun y=>decide (cE y x<0)) out
  have hat:=c3o (fun y=>decide (cE y x<0)) out
  have go:(Option.bind (cut out 0 ((out.takeWhile (fun y=>decide (cE y x<0))).length:Int)) fun u=>Option.bind (Z8 (0+u.length) 160) fun _ =>
   Option.bind (Z8 (u.length+[x].length) 160) fun _=>Option.bind (cut out ((out.takeWhile (fun y=>decide (cE y x<0))).length:Int) (out.length:Int)) fun w =>
   Option.bind (Z8 ((u++[x]).length+w.length) 160) fun _=>some ((u++[x])++w))=some (a0k (fun y=>decide (cE y x<0)) x out) :=
   c5Z out x _ 160 (by omega) hl (fun l=>some l)
  rw [j8 i (by omega)]
  have fin:∀ (b:Bool) (r:List Ent),(if b=true then some out else some r)=some (a4p out x)->(Option.bind (if b=true then some out else some r) fun b18=>some (Fl.next (b18,((i+1:Nat):Int)):Fl (List Ent×Int) (List Ent)))=some (.next (a4p out x,((i+1:Nat):Int))):=by
   intro b r h
   rw [h]; rfl
  rw [go]
  unfold a4p at fin ⊢
  cases hh:(out.dropWhile (fun y=>decide (cE y x<0))).head? with
  | none =>
    rw [hh] at hat
    have hge:=List.getElem?_eq_none_iff.1 hat
    rw [if_neg (by simp; omega)]
    rfl
  | some y =>
    rw [hh] at hat
    have hlt2:=(List.getElem?_eq_some_iff.1 hat).1
    rw [if_pos (by simp; omega),j6 hat]
    simp only [Option.bind_some]
    rw [hcmp y (List.mem_of_getElem? hat)]
    simp only [Option.bind_some]
    by_cases h0:cE y x=0
    ·rw [if_pos (by simp [h0]),if_pos h0]
     rfl
    ·rw [if_neg (by simp [h0]),if_neg h0]
     rfl
 ·intro j y hy
  have hj:j<out.length:=(List.getElem?_eq_some_iff.1 hy).1
  unfold a3F
  simp only [W0,Z2]
  rw [if_pos (by simp; omega),j6 hy,hix]
  simp only [Option.bind_some,Int.toNat_natCast,hx]
  rw [hcmp y (List.mem_of_getElem? hy)]
  simp only [Option.bind_some,j8 j (by omega)]
  by_cases h:cE y x<0<;>simp [h]
 ·unfold a3F
  simp
theorem b0q:∀ (es out:List Ent),Z1 (es.foldl a4p out)<=Z1 out+Z1 es
 | [],out=>by simp [Z1]
 | x::r,out=>by
   have h1:=b0q r (a4p out x)
   have h2:=c9Z out x
   simp only [List.foldl_cons,Z1]
   omega
theorem b2b {y:Ent}:∀ (es out:List Ent),y∈es.foldl a4p out->y∈out\/y∈es
 | [],_,h=>.inl h
 | x::r,out,h=>by
   rcases b2b r (a4p out x) h with h | h
   ·rcases c7j h with rfl | h
    ·exact .inr (by simp)
    ·exact .inl h
   ·exact .inr (by simp [h])
theorem b8v:∀ (es out:List Ent),asc cE out=true->asc cE (es.foldl a4p out)=true
 | [],_,h=>h
 | x::r,out,h=>b8v r (a4p out x) (d1Z out x h)
theorem c8I (fuel:Nat)(es:List Ent)(hf:2*Z1 es<=fuel)(hb:Z1 es<=4194304):a49 fuel es=some (es.foldl a4p []):=by
 have hlen:=a3A es
 unfold a49
 have key:=a2x (σ:=List Ent) (step:=a0t es fuel) es (fun s i=>(s,(i:Int))) a4p (fun i s=>s.length<=i/\(∀ e∈s,e∈es)) (fun s=>s)
  ?_ ?_ [] ⟨by simp,by simp⟩ _ (Nat.le_refl _)
 ·have e:iter (a0t es fuel) (es.length+1) (([]:List Ent),0)=iter (a0t es fuel) (es.length+1) (([]:List Ent),((0:Nat):Int)):=rfl
  rw [Z5,e,key]
  rfl
 ·intro i s x hx ⟨hI,hm⟩
  have hi:i<es.length:=(List.getElem?_eq_some_iff.1 hx).1
  refine ⟨c7m fuel es s i x hx (fun e he=>by have:=a0e (hm e he); omega) (fun e he=>by have:=a0e (hm e he); omega) (by omega) (by omega),?_,?_⟩
  ·have:=d1u s x; omega
  ·intro e he
   rcases c7j he with rfl | he
   ·exact List.mem_of_getElem? hx
   ·exact hm e he
 ·intro s _
  unfold a0t
  simp
def c0j (n:Int)(es:List Ent):Val:=Val.mk 9 n (⟨#[]⟩) ([]:List Val) ([]:List Key) es ([]:List ByteArray)
abbrev b9k:Type:=Int×Int×ByteArray×(List Val)×(List Key)×(List Ent)×(List ByteArray)
abbrev a2Z:b9k:=(0,0,(⟨#[]⟩:ByteArray),[],[],[],[])
theorem b4K (fuel:Nat)(n:Int)(es:List Ent)(hf:2*Z1 es<=fuel)(hb:Z1 es<=4194304) :
 a04 fuel n es=some (if 0<=n/\n<=4/\es.all (a3n n)=true then (c0j n (es.foldl a4p []),0) else (a7r,1)):=by
 have hlen:=a3A es
 unfold a04
 simp only [Z5]
 by_cases h1:n<0
 ·have e1:decide (n<0)=true:=by simpa using h1
  rw [e1,if_neg (by omega)]; rfl
 by_cases h2:4<n
 ·have e1:decide (n<0)=false:=by simpa using h1
  have e2:decide (4<n)=true:=by simpa using h2
  rw [e1,e2,if_neg (by omega)]; rfl
 have e1:decide (n<0)=false:=by simpa using h1
 have e2:decide (4<n)=false:=by simpa using h2
 rw [e1,e2,c8I fuel es hf hb]
 have key:=X3 (step:=a0l n es fuel) es (a3n n) (fun i=>((i:Int),a2Z)) a2Z (1,a2Z) ?_ ?_
 ·have e:iter (a0l n es fuel) (es.length+1) (0,(0,0,(⟨#[]⟩:ByteArray),[],[],[],[]))=iter (a0l n es fuel) (es.length+1) (((0:Nat):Int),a2Z):=rfl
  rw [e,key]
  by_cases ha:es.all (a3n n)=true
  ·rw [if_pos ha,if_pos ⟨by omega,by omega,ha⟩]
   rfl
  ·rw [if_neg ha,if_neg (fun h=>ha h.2.2)]
   rfl
 ·intro i x hx
  have hi:i<es.length:=(List.getElem?_eq_some_iff.1 hx).1
  have hm:=a0e (List.mem_of_getElem? hx)
  have hbe:=a1E x
  unfold a0l a4k
  simp only [W0,Z2]
  rw [if_pos (by simp; omega),j6 hx]
  simp only [Option.bind_some,Int.toNat_natCast,hx]
  rw [show Val.mk 0 0 (⟨#[]⟩:ByteArray) ([]:List Val) ([]:List Key) ([]:List Ent) ([]:List ByteArray)=a7r from rfl,(a59 fuel).1 x.Result a7r (by omega) (by omega),j8 i (by omega)]
  unfold a3n
  by_cases hl:(x.Args.length:Int)=n
  ·have e1:((x.Args.length:Int) != n)=false:=by simp [hl]
   have e2:((x.Args.length:Int)==n)=true:=by simp [hl]
   rw [e1,e2]
   simp only [Bool.false_eq_true,if_false,Option.bind_some,Bool.true_and]
   cases x.Fails
   ·simp
   ·by_cases h0:cV x.Result a7r=0<;>simp [h0]
  ·have e1:((x.Args.length:Int) != n)=true:=by simp [hl]
   have e2:((x.Args.length:Int)==n)=false:=by simp [hl]
   rw [e1,e2]
   simp
 ·unfold a0l
  simp
end Go.Pl
end
section
namespace Go.Pl
open Go Go.RowKit Go.Sx Go.Qx
theorem b7A (c:UInt8):a27 (c.toNat:Int)=some (a7h c):=by
 unfold a27 a7h
 cases decide (97<=(c.toNat:Int))<;>simp
theorem c3j (c:UInt8):a4f (c.toNat:Int)=some (a8q c):=by
 unfold a4f a8q
 cases decide (48<=(c.toNat:Int))<;>simp
theorem b41 (s:ByteArray):a2u s=some (a41 s):=by
 unfold a2u a41 b6d
 simp only [W0,c37]
 have hsz:=b9Y s
 cases hs:s.data.toList with
 | nil =>
   rw [hs] at hsz
   rw [hsz]
   simp
 | cons c r =>
   rw [hs] at hsz
   simp only [List.length_cons] at hsz
   have e1:decide ((s.size:Int)<1)=false:=by simp; omega
   rw [e1]
   simp only [Bool.false_eq_true,if_false,Option.bind_some]
   by_cases hb:16<(s.size:Int)
   ·rw [if_pos (by simpa using hb)]
    have:decide (r.length<=15)=false:=by simp; omega
    rw [this]; rfl
   ·rw [if_neg (by simpa using hb)]
    have e2:decide (r.length<=15)=true:=by simp; omega
    have e3:a6X s 0=some c:=b2X (i:=0) (by rw [hs]; rfl)
    rw [e2,e3]
    simp only [Option.bind_some,b7A,Bool.true_and]
    cases a7h c
    ·rfl
    ·simp only [Bool.not_true,Bool.false_eq_true,if_false,Bool.true_and]
     refine b3F s.size (fun i=>match s.data.toList[i]? with | some x=>(a7h x||a8q x||(x.toNat:Int)==95) | none=>true) ?_ ?_ 1 _ ?_
     ·intro i hi
      have hi':i<s.data.toList.length:=by rw [hs]; simp; omega
      unfold a6f
      simp only [W0,Z2]
      rw [if_pos (by simp; omega),b2X (List.getElem?_eq_getElem hi')]
      simp only [Option.bind_some,b7A,c3j]
      rw [List.getElem?_eq_getElem hi',j8 i (by omega)]
      generalize s.data.toList[i]=x
      have hn:((x.toNat:Int) != 95)=!((x.toNat:Int)==95):=rfl
      rw [hn]
      show _=some (if (a7h x||a8q x||(x.toNat:Int)==95)=true then _ else _)
      cases a7h x<;>cases a8q x<;>cases (x.toNat:Int)==95<;>rfl
     ·intro i hi
      unfold a6f
      rw [W0,if_neg (by simp; omega)]
     ·rw [hs,List.all_eq_true]
      constructor
      ·intro h i h1 hi
       obtain ⟨i,rfl⟩:∃ m,i=m+1:=⟨i-1,by omega⟩
       have hr:i<r.length:=by omega
       simp only [List.getElem?_cons_succ,List.getElem?_eq_getElem hr]
       exact h _ (List.getElem_mem hr)
      ·intro h x hx
       obtain ⟨i,hi,rfl⟩:=List.getElem_of_mem hx
       have:=h (i+1) (by omega) (by omega)
       simpa only [List.getElem?_cons_succ,List.getElem?_eq_getElem hi] using this
theorem b8o (k:Key):a1Q k=some (a0c k):=by
 unfold a1Q a0c
 rw [b41]
 by_cases h:k.Kind=0
 ·cases a41 k.Text<;>simp [h]
 ·by_cases h1:k.Kind=1
  ·simp [h1]
  ·have e0:(k.Kind==0)=false:=by simpa using h
   have e1:(k.Kind==1)=false:=by simpa using h1
   rw [e0,e1,if_neg h,if_neg h1]
   rfl
theorem c9a (a b:Key):cK a b=lx (eK a) (eK b):=by
 have:=pfK a b [] []
 simpa [lx,b0L] using this.symm
theorem c3E (a b:Key):cK b a = - cK a b:=by rw [c9a,c9a]; exact b6X _ _
def a05 (a b:Key):Bool:=a6y a b
theorem c9R (a b:Key):a05 a b=((a.Kind==b.Kind)&&Z6 a.Text b.Text):=by unfold a05 a6y; simp
theorem b97 (a b:Key):a05 a b=true↔cK a b=0:=by
 rw [c9R]
 unfold cK
 rcases K7 a.Kind b.Kind with ⟨h,e⟩ | ⟨h,e⟩ | ⟨h,e⟩
 ·have:(a.Kind==b.Kind)=false:=by simp; omega
  simp [this,e,tn]
 ·have:(a.Kind==b.Kind)=false:=by simp; omega
  simp [this,e,tn]
 ·rw [h]
  rw [h] at e
  rcases a87 a.Text b.Text with ⟨_,p,q⟩ | ⟨_,p,q⟩ | ⟨_,p,q⟩<;>simp [p,q,e,tn]
abbrev a2T (k:Key):Key->Bool:=fun y=>decide (cK y k<0)
def b89 (s:List Val×List Key)(x:Key×Val):Option (List Val×List Key) :=
 if ((s.2.dropWhile (a2T x.1)).head?.map fun y=>a05 y x.1)=some true then none
 else some (s.1.take (s.2.takeWhile (a2T x.1)).length++[x.2]++s.1.drop (s.2.takeWhile (a2T x.1)).length,a0k (a2T x.1) x.1 s.2)
def a62:List (Key×Val)->List Val×List Key->Option (List Val×List Key)
 | [],s=>some s
 | x::r,s=>(b89 s x).bind (a62 r)
abbrev a8P (s:List Val×List Key):b9k:=(8,0,(⟨#[]⟩:ByteArray),s.1,s.2,[],[])
theorem d1j (keys:List Key)(l:List Val)(i:Nat)(k:Key)(x:Val)(hk:keys[i]?=some k)(hx:l[i]?=some x)(s:List Val×List Key)(hs:s.1.length=s.2.length)(hl:s.2.length<=4194304)(hi:i<=4194304) :
 ∃ y,a0V keys l ((i:Int),a2Z,a8P s)=some (match b89 s (k,x) with | some t=>.next (((i+1:Nat):Int),a2Z,a8P t) | none=>.done (.inr (6,a2Z,y))):=by
 refine ⟨a8P s,?_⟩
 have hlt:i<keys.length:=(List.getElem?_eq_some_iff.1 hk).1
 have hik:idx keys (i:Int)=some k:=j6 hk
 have hix:idx l (i:Int)=some x:=j6 hx
 unfold a0V
 simp only [Z5]
 rw [c2X (step:=a5D keys ((i:Int),a2Z,a8P s)) s.2 (a2T k) ?_ ?_]
 ·simp only [W0,Z2]
  rw [if_pos (by simp; omega)]
  simp only [Option.bind_some,hik,hix]
  have hp:=b3z (a2T k) s.2
  have hat:=c3o (a2T k) s.2
  have rmk:∀ n,n<=4194305->Z8 n 24=some ():=fun n hn=>Y0 (by omega)
  have rmv:∀ n,n<=4194305->Z8 n 128=some ():=fun n hn=>Y0 (by omega)
  have h1:=a7O (a2T k) k s.2
  simp only [a0k,List.length_append,List.length_singleton] at h1
  have go:(Option.bind (cut s.2 0 ((s.2.takeWhile (a2T k)).length:Int)) fun u=>Option.bind (Z8 (0+u.length) 24) fun _ =>
   Option.bind (cut s.1 0 ((s.2.takeWhile (a2T k)).length:Int)) fun u2=>Option.bind (a1G u2) fun r2 =>
   Option.bind (Z8 (u.length+[k].length) 24) fun _=>Option.bind (cut s.2 ((s.2.takeWhile (a2T k)).length:Int) (s.2.length:Int)) fun w =>
   Option.bind (Z8 ((u++[k]).length+w.length) 24) fun _=>Option.bind (Z8 (r2.length+[x].length) 128) fun _ =>
   Option.bind (cut s.1 ((s.2.takeWhile (a2T k)).length:Int) (s.1.length:Int)) fun w2=>Option.bind (Z8 ((r2++[x]).length+w2.length) 128) fun _ =>
   some (Fl.next (w64 ((i:Int)+1),a2Z,a8P ((r2++[x])++w2,(u++[k])++w))))=some (Fl.next (((i+1:Nat):Int),a2Z,a8P (s.1.take (s.2.takeWhile (a2T k)).length++[x]++s.1.drop (s.2.takeWhile (a2T k)).length,a0k (a2T k) k s.2)):Fl (Int×b9k×b9k) (Sum (b9k×b9k) (Int×b9k×b9k))):=by
   have ht:(s.1.take (s.2.takeWhile (a2T k)).length).length<=4194304:=by rw [List.length_take]; omega
   have hd:(s.1.take (s.2.takeWhile (a2T k)).length).length+(s.1.drop (s.2.takeWhile (a2T k)).length).length=s.1.length:=by rw [List.length_take,List.length_drop]; omega
   rw [c22 s.2 hp,c6R s.2 hp,c22 s.1 (by omega),c6R s.1 (by omega),c4h,c3z]
   unfold a1G
   simp only [Option.bind_some]
   rw [rmk _ (by simp; omega),rmv _ (by simp; omega)]
   simp only [Option.bind_some]
   rw [rmk _ (by simp; omega),rmk _ (by simp only [List.length_append,List.length_singleton]; omega),rmv _ (by simp; omega),rmv _ (by simp only [List.length_append,List.length_singleton]; omega),j8 i (by omega)]
   rfl
  unfold b89
  cases hh:(s.2.dropWhile (a2T k)).head? with
  | none =>
    rw [hh] at hat
    have hge:=List.getElem?_eq_none_iff.1 hat
    rw [if_neg (by simp; omega),if_neg (by simp)]
    exact go
  | some y =>
    rw [hh] at hat
    have hlt2:=(List.getElem?_eq_some_iff.1 hat).1
    rw [if_pos (by simp; omega),j6 hat]
    simp only [Option.bind_some,Option.map_some]
    cases hq:a05 y k
    ·unfold a05 at hq
     rw [hq,if_neg (by simp),if_neg (by simp)]
     exact go
    ·unfold a05 at hq
     rw [hq,if_pos rfl,if_pos rfl]
 ·intro j y hy
  have hj:j<s.2.length:=(List.getElem?_eq_some_iff.1 hy).1
  unfold a5D
  simp only [W0,Z2]
  rw [if_pos (by simp; omega),j6 hy,hik]
  simp only [Option.bind_some,b0U,j8 j (by omega)]
  by_cases h:cK y k<0<;>simp [h]
 ·unfold a5D
  simp
theorem c57 {s t:List Val×List Key}{x:Key×Val}(h:b89 s x=some t)(hs:s.1.length=s.2.length):t.1.length=t.2.length/\t.2.length=s.2.length+1:=by
 unfold b89 at h
 split at h
 ·cases h
 ·cases h
  have h1:=a7O (a2T x.1) x.1 s.2
  have hp:=b3z (a2T x.1) s.2
  refine ⟨?_,h1⟩
  rw [h1]
  simp only [List.length_append,List.length_singleton,List.length_take,List.length_drop]
  omega
theorem d11 (keys:List Key)(l:List Val)(hkl:keys.length=l.length)(hl:keys.length<=4194304) :
 ∃ y,iter (a0V keys l) (keys.length+1) (0,a2Z,a8P ([],[]))=some (match a62 (keys.zip l) ([],[]) with | some t=>.inl (a2Z,a8P t) | none=>.inr (6,a2Z,y)):=by
 have key:∀ (m i k:Nat) (s:List Val×List Key),i+m=keys.length->m+1<=k->s.1.length=s.2.length->s.2.length<=i ->
  ∃ y,iter (a0V keys l) k ((i:Int),a2Z,a8P s)=some (match a62 ((keys.drop i).zip (l.drop i)) s with | some t=>.inl (a2Z,a8P t) | none=>.inr (6,a2Z,y)):=by
  intro m
  induction m with
  | zero =>
    intro i k s h1 h2 hs hn
    obtain ⟨k,rfl⟩:∃ m,k=m+1:=⟨k-1,by omega⟩
    have e:i=keys.length:=by omega
    subst e
    rw [List.drop_length,List.zip_nil_left]
    have:a0V keys l ((keys.length:Int),a2Z,a8P s)=some (.done (.inl (a2Z,a8P s))):=by
     unfold a0V
     simp
    exact ⟨a2Z,by simp only [iter,this,a62,Option.bind_some]⟩
  | succ m ih =>
    intro i k s h1 h2 hs hn
    obtain ⟨k,rfl⟩:∃ m,k=m+1:=⟨k-1,by omega⟩
    have hlt:i<keys.length:=by omega
    have hlt2:i<l.length:=by omega
    rw [List.drop_eq_getElem_cons hlt,List.drop_eq_getElem_cons hlt2,List.zip_cons_cons]
    obtain ⟨y,hy⟩:=d1j keys l i _ _ (List.getElem?_eq_getElem hlt) (List.getElem?_eq_getElem hlt2) s hs (by omega) (by omega)
    simp only [iter,hy,a62]
    cases hi:b89 s (keys[i],l[i]) with
    | none=>exact ⟨y,by simp⟩
    | some t =>
      obtain ⟨h3,h4⟩:=c57 hi hs
      simp only [Option.bind_some]
      exact ih (i+1) k t (by omega) (by omega) h3 (by omega)
 obtain ⟨y,hy⟩:=key keys.length 0 (keys.length+1) ([],[]) (by omega) (Nat.le_refl _) rfl (Nat.le_refl _)
 exact ⟨y,by simpa using hy⟩
def b43 (s:List Val×List Key):Val:=Val.mk 8 0 (⟨#[]⟩) s.1 s.2 ([]:List Ent) ([]:List ByteArray)
theorem c2C (keys:List Key)(l:List Val)(hl:keys.length<=4194304) :
 a1r keys l=some (if keys.length=l.length/\keys.all a0c=true then (match a62 (keys.zip l) ([],[]) with | some t=>((b43 t,0):Val×Int) | none=>(a7r,6)) else (a7r,1)):=by
 unfold a1r
 simp only [Z5]
 by_cases hkl:keys.length=l.length
 ·have e1:((keys.length:Int) != (l.length:Int))=false:=by simp; omega
  rw [e1]
  have k1:=X3 (step:=a1C keys) keys a0c (fun i=>((i:Int),a2Z)) a2Z (1,a2Z) ?_ ?_
  ·obtain ⟨y,hy⟩:=d11 keys l hkl hl
   have e2:iter (a1C keys) (keys.length+1) (0,(0,0,(⟨#[]⟩:ByteArray),[],[],[],[]))=iter (a1C keys) (keys.length+1) (((0:Nat):Int),a2Z):=rfl
   rw [e2,k1]
   by_cases ha:keys.all a0c=true
   ·rw [if_pos ha,if_pos ⟨hkl,ha⟩]
    simp only [Option.bind_some,onEnd,cond_false]
    rw [hy]
    cases a62 (keys.zip l) ([],[])<;>rfl
   ·rw [if_neg ha,if_neg (fun h=>ha h.2)]
    rfl
  ·intro i x hx
   have hi:i<keys.length:=(List.getElem?_eq_some_iff.1 hx).1
   unfold a1C
   simp only [W0,Z2]
   rw [if_pos (by simp; omega),j6 hx]
   simp only [Option.bind_some,b8o,j8 i (by omega)]
   cases a0c x<;>rfl
  ·unfold a1C
   simp
 ·have e1:((keys.length:Int) != (l.length:Int))=true:=by simp; omega
  rw [e1,if_neg (fun h=>hkl h.1)]
  rfl
theorem a7V (a b:List Key):w8 (a++b)=w8 a+w8 b:=by
 induction a with
 | nil=>simp [w8]
 | cons x r ih=>simp only [List.cons_append,w8,ih]; omega
theorem c9D {s t:List Val×List Key}{x:Key×Val}(h:b89 s x=some t)(ha:asc cK s.2=true) :
 asc cK t.2=true/\(∀ y∈t.2,y=x.1\/y∈s.2)/\(∀ y∈t.1,y=x.2\/y∈s.1)/\k8 t.1=k8 s.1+k7 x.2/\w8 t.2=w8 s.2+a7b x.1:=by
 unfold b89 at h
 split at h
 ·cases h
 ·rename_i hne
  cases h
  refine ⟨b2R cK c3E x.1 s.2 ha ?_,fun y hy=>b4F hy,fun y hy=>?_,?_,?_⟩
  ·intro y hy h0
   rw [hy] at hne
   simp only [Option.map_some] at hne
   exact hne (congrArg some ((b97 y x.1).2 h0))
  ·simp only [List.mem_append,List.mem_singleton] at hy
   rcases hy with (hy | hy) | hy
   ·exact .inr (List.mem_of_mem_take hy)
   ·exact .inl hy
   ·exact .inr (List.mem_of_mem_drop hy)
  ·have e:=congrArg k8 (List.take_append_drop (s.2.takeWhile (a2T x.1)).length s.1)
   rw [a1R] at e
   simp only [a1R,k8]
   omega
  ·have e:=congrArg w8 (List.takeWhile_append_dropWhile (p:=a2T x.1) (l:=s.2))
   rw [a7V] at e
   simp only [a0k,a7V,w8]
   omega
def b8m:List (Key×Val)->Nat
 | []=>0
 | x::r=>a7b x.1+k7 x.2+b8m r
theorem b4b:∀ (xs:List (Key×Val)) (s t:List Val×List Key),a62 xs s=some t->asc cK s.2=true->s.1.length=s.2.length ->
 asc cK t.2=true/\t.1.length=t.2.length/\t.2.length=s.2.length+xs.length/\(∀ y∈t.2,y∈s.2\/∃ x∈xs,y=x.1)/\(∀ y∈t.1,y∈s.1\/∃ x∈xs,y=x.2)/\k8 t.1+w8 t.2=k8 s.1+w8 s.2+b8m xs
 | [],s,t,h,ha,hl=>by
   cases h
   exact ⟨ha,hl,rfl,fun y hy=>.inl hy,fun y hy=>.inl hy,rfl⟩
 | x::r,s,t,h,ha,hl=>by
   simp only [a62] at h
   obtain ⟨u,hu,h⟩:=Option.bind_eq_some_iff.1 h
   obtain ⟨k1,k2,k3,k4,k5⟩:=c9D hu ha
   obtain ⟨l1,l2⟩:=c57 hu hl
   obtain ⟨m1,m2,m3,m4,m5,m6⟩:=b4b r u t h k1 l1
   refine ⟨m1,m2,by rw [m3,l2,List.length_cons]; omega,fun y hy=>?_,fun y hy=>?_,by simp only [b8m]; omega⟩
   ·rcases m4 y hy with hy | ⟨z,hz,rfl⟩
    ·rcases k2 y hy with rfl | hy
     ·exact .inr ⟨x,by simp,rfl⟩
     ·exact .inl hy
    ·exact .inr ⟨z,by simp [hz],rfl⟩
   ·rcases m5 y hy with hy | ⟨z,hz,rfl⟩
    ·rcases k3 y hy with rfl | hy
     ·exact .inr ⟨x,by simp,rfl⟩
     ·exact .inl hy
    ·exact .inr ⟨z,by simp [hz],rfl⟩
end Go.Pl
namespace Go.Pl
open Go Go.RowKit Go.Sx Go.Qx
theorem c4n (c:UInt8):a4i (c.toNat:Int)=some (upC c):=by
 unfold a4i upC
 cases decide (65<=(c.toNat:Int))<;>simp
theorem c2D (s:ByteArray):a2g s=some (a6O s):=by
 unfold a2g a6O b6d
 simp only [W0,c37]
 have hsz:=b9Y s
 cases hs:s.data.toList with
 | nil =>
   rw [hs] at hsz
   rw [hsz]
   simp
 | cons c r =>
   rw [hs] at hsz
   simp only [List.length_cons] at hsz
   have e1:decide ((s.size:Int)<1)=false:=by simp; omega
   rw [e1]
   simp only [Bool.false_eq_true,if_false,Option.bind_some]
   by_cases hb:16<(s.size:Int)
   ·rw [if_pos (by simpa using hb)]
    have:decide (r.length<=15)=false:=by simp; omega
    rw [this]; rfl
   ·rw [if_neg (by simpa using hb)]
    have e2:decide (r.length<=15)=true:=by simp; omega
    have e3:a6X s 0=some c:=b2X (i:=0) (by rw [hs]; rfl)
    rw [e2,e3]
    simp only [Option.bind_some,c4n,Bool.true_and]
    cases upC c
    ·rfl
    ·simp only [Bool.not_true,Bool.false_eq_true,if_false,Bool.true_and]
     refine b3F s.size (fun i=>match s.data.toList[i]? with | some x=>(a7h x||upC x||a8q x||(x.toNat:Int)==95) | none=>true) ?_ ?_ 1 _ ?_
     ·intro i hi
      have hi':i<s.data.toList.length:=by rw [hs]; simp; omega
      unfold a4w
      simp only [W0,Z2]
      rw [if_pos (by simp; omega),b2X (List.getElem?_eq_getElem hi')]
      simp only [Option.bind_some,b7A,c3j,c4n]
      rw [List.getElem?_eq_getElem hi',j8 i (by omega)]
      generalize s.data.toList[i]=x
      have hn:((x.toNat:Int) != 95)=!((x.toNat:Int)==95):=rfl
      rw [hn]
      show _=some (if (a7h x||upC x||a8q x||(x.toNat:Int)==95)=true then _ else _)
      cases a7h x<;>cases upC x<;>cases a8q x<;>cases (x.toNat:Int)==95<;>rfl
     ·intro i hi
      unfold a4w
      rw [W0,if_neg (by simp; omega)]
     ·rw [hs,List.all_eq_true]
      constructor
      ·intro h i h1 hi
       obtain ⟨i,rfl⟩:∃ m,i=m+1:=⟨i-1,by omega⟩
       have hr:i<r.length:=by omega
       simp only [List.getElem?_cons_succ,List.getElem?_eq_getElem hr]
       exact h _ (List.getElem_mem hr)
      ·intro h x hx
       obtain ⟨i,hi,rfl⟩:=List.getElem_of_mem hx
       have:=h (i+1) (by omega) (by omega)
       simpa only [List.getElem?_cons_succ,List.getElem?_eq_getElem hi] using this
end Go.Pl
end
section
namespace Go.Pl
open Go Go.RowKit Go.Sx Go.Qx
theorem a8x:Z6 (⟨#[]⟩:ByteArray) ⟨#[]⟩=true:=by simp [Z6]
theorem c4d (n:Int):vOK (Val.mk 1 n (⟨#[]⟩) [] [] [] [])=true:=by simp [vOK,a1K,a5p,a2e,a1m,asc,a4a,a4j,a8x,Val.Kind,Val.Int_,Val.Text,Val.Kids,Val.Keys,Val.Entries,Val.Labels]
theorem d3D (s:ByteArray):vOK (Val.mk 2 0 s [] [] [] [])=decide ((s.size:Int)<=64):=by rw [Bool.eq_iff_iff]; simp [vOK,a1K,a5p,a2e,a1m,asc,a4a,a4j,Val.Kind,Val.Int_,Val.Text,Val.Kids,Val.Keys,Val.Entries,Val.Labels]; exact decide_eq_true_iff
theorem d2q (s:ByteArray):vOK (Val.mk 3 0 s [] [] [] [])=a41 s:=by simp [vOK,a1K,a5p,a2e,a1m,asc,a4a,a4j,Val.Kind,Val.Int_,Val.Text,Val.Kids,Val.Keys,Val.Entries,Val.Labels]
theorem d3s (n:Int):vOK (Val.mk 4 n (⟨#[]⟩) [] [] [] [])=decide (0<=n):=by rw [Bool.eq_iff_iff]; simp [vOK,a1K,a5p,a2e,a1m,asc,a4a,a4j,a8x,Val.Kind,Val.Int_,Val.Text,Val.Kids,Val.Keys,Val.Entries,Val.Labels]; exact decide_eq_true_iff
theorem c0y:vOK (Val.mk 5 0 (⟨#[]⟩) [] [] [] [])=true:=by simp [vOK,a1K,a5p,a2e,a1m,asc,a4a,a4j,a8x,Val.Kind,Val.Int_,Val.Text,Val.Kids,Val.Keys,Val.Entries,Val.Labels]
theorem c4L (l:List Val):vOK (Val.mk 6 0 (⟨#[]⟩) l [] [] [])=(decide (l.length<=4)&&a1K l):=by rw [Bool.eq_iff_iff]; simp [vOK,a5p,a2e,a1m,asc,a4a,a4j,a8x,Val.Kind,Val.Int_,Val.Text,Val.Kids,Val.Keys,Val.Entries,Val.Labels]; intro _; exact decide_eq_true_iff
theorem c5S (x t:Val):vOK (Val.mk 7 0 (⟨#[]⟩) [x,t] [] [] [])=((t.Kind==5||t.Kind==7)&&(vOK x&&vOK t)):=by simp [vOK,a1K,a5p,a2e,a1m,asc,a4a,a4j,b1f,a8x,Val.Kind,Val.Int_,Val.Text,Val.Kids,Val.Keys,Val.Entries,Val.Labels]
theorem d3d (t:List Val×List Key):vOK (b43 t)=(a9N (b43 t)&&a1K t.1):=by simp [b43,vOK,a5p,a2e,a1m,asc,a4a,a4j,a8x,Val.Kind,Val.Int_,Val.Text,Val.Kids,Val.Keys,Val.Entries,Val.Labels]
theorem d3v (n:Int)(es:List Ent):vOK (c0j n es)=(b2y (c0j n es)&&a5p es):=by simp [c0j,vOK,a1K,a2e,a1m,asc,a4a,a4j,a8x,Val.Kind,Val.Int_,Val.Text,Val.Kids,Val.Keys,Val.Entries,Val.Labels]
def a8c (v:Val)(l:List ByteArray):Val:=Val.mk v.Kind v.Int_ v.Text v.Kids v.Keys v.Entries l
theorem b0V {v:Val}{l:List ByteArray}(h:vOK v=true)(hl:a1m l=true):vOK (a8c v l)=true:=by
 cases v
 simp only [vOK,a2e,Bool.and_eq_true,a8c,Val.Kind,Val.Int_,Val.Text,Val.Kids,Val.Keys,Val.Entries,Val.Labels] at h ⊢
 exact ⟨⟨hl,h.1.2⟩,h.2⟩
theorem a7L (v:Val)(l:List ByteArray):k7 (a8c v l)<=k7 v+K2 l:=by
 rw [a1k,a1k v]
 simp only [a8c,Val.Text,Val.Kids,Val.Keys,Val.Entries,Val.Labels]
 omega
theorem a2U:(⟨#[]⟩:ByteArray).size=0:=rfl
theorem V3 (k n:Int)(t:ByteArray)(kids:List Val)(keys:List Key)(es:List Ent):k7 (Val.mk k n t kids keys es [])=8+t.size+k8 kids+w8 keys+Z1 es:=by
 simp only [k7,a34,K2]; omega
structure OS (L:List Int)(s:Semtypebase_Source):Prop where
 l:s.L=L
 lo:0<=s.At
 hi:s.At<=(L.length:Int)
section
variable {L:List Int}
theorem Y5 (hL:L.length<=4194304){s:Semtypebase_Source}(h:OS L s){n:Int}(h1:1<=n)(h2:n<=1000):∃ x t,z8 s n=some (x,t)/\OS L t/\0<=x/\x<n:=by
 obtain ⟨hl,lo,hi⟩:=h
 unfold z8
 have e1:decide (n<1)=false:=by simp; omega
 rw [e1,hl]
 by_cases he:(L.length:Int)<=s.At
 ·have e2:decide ((L.length:Int)<=s.At)=true:=by simpa using he
  rw [e2]
  exact ⟨0,s,rfl,⟨hl,lo,hi⟩,by omega,by omega⟩
 ·have e2:decide ((L.length:Int)<=s.At)=false:=by simpa using he
  rw [e2]
  simp only [cond_false,Option.bind_some]
  have hlt:s.At.toNat<L.length:=by omega
  have e:idx L s.At=some L[s.At.toNat]:=by
   have:=j6 (List.getElem?_eq_getElem hlt)
   rwa [show ((s.At.toNat:Nat):Int)=s.At by omega] at this
  rw [e]
  simp only [Option.bind_some]
  have hq:c2i L[s.At.toNat] n=some (L[s.At.toNat].tmod n):=by unfold c2i; rw [if_neg (by omega)]
  rw [hq]
  simp only [Option.bind_some,Z2]
  have b1:=Int.tmod_lt_of_pos L[s.At.toNat] (show 0<n by omega)
  have b2:=Int.lt_tmod_of_pos L[s.At.toNat] (show 0<n by omega)
  have hw:w64 (s.At+1)=s.At+1:=Q7 (by omega) (by omega)
  have hos:OS L (Semtypebase_Source.mk L (w64 (s.At+1))):=⟨rfl,by show 0<=w64 (s.At+1); omega,by show w64 (s.At+1)<=_; omega⟩
  by_cases hn:L[s.At.toNat].tmod n<0
  ·rw [W0,if_pos (by simpa using hn),Q7 (x:=L[s.At.toNat].tmod n+n) (by omega) (by omega)]
   exact ⟨_,_,rfl,hos,by omega,by omega⟩
  ·rw [W0,if_neg (by simpa using hn)]
   exact ⟨_,_,rfl,hos,by omega,by omega⟩
theorem b6f {α:Type}(l:List α){x:Int}(h0:0<=x)(h1:x<(l.length:Int)):∃ t,idx l x=some t/\l[x.toNat]?=some t/\t∈l:=by
 have hlt:x.toNat<l.length:=by omega
 have:=j6 (List.getElem?_eq_getElem hlt)
 rw [show ((x.toNat:Nat):Int)=x by omega] at this
 exact ⟨_,this,List.getElem?_eq_getElem hlt,List.getElem_mem hlt⟩
abbrev c0V:List ByteArray:=[⟨#[65]⟩,⟨#[66]⟩,⟨#[67]⟩]
abbrev c69:List ByteArray:=[⟨#[97]⟩,⟨#[98]⟩,⟨#[111,107]⟩,⟨#[101,114,114,111,114]⟩]
abbrev c7k:List ByteArray:=[⟨#[]⟩,⟨#[115]⟩,⟨#[120,32,121]⟩,⟨#[97]⟩]
theorem c2a (hL:L.length<=4194304){s:Semtypebase_Source}(h:OS L s):∃ x t,a0O s=some (x,t)/\OS L t/\x∈c0V:=by
 obtain ⟨n,t,e,ht,a,b⟩:=Y5 hL h (n:=3) (by omega) (by omega)
 obtain ⟨x,ex,eg,hx⟩:=b6f c0V a (by simpa using b)
 exact ⟨x,t,by unfold a0O; rw [e]; simp only [Option.bind_some]; rw [ex,eg]; rfl,ht,hx⟩
theorem b0T (hL:L.length<=4194304){s:Semtypebase_Source}(h:OS L s):∃ x t,V9 s=some (x,t)/\OS L t/\x∈c69:=by
 obtain ⟨n,t,e,ht,a,b⟩:=Y5 hL h (n:=4) (by omega) (by omega)
 obtain ⟨x,ex,eg,hx⟩:=b6f c69 a (by simpa using b)
 exact ⟨x,t,by unfold V9; rw [e]; simp only [Option.bind_some]; rw [ex,eg]; rfl,ht,hx⟩
theorem c0D (hL:L.length<=4194304){s:Semtypebase_Source}(h:OS L s):∃ x t,a0m s=some (x,t)/\OS L t/\x∈c7k:=by
 obtain ⟨n,t,e,ht,a,b⟩:=Y5 hL h (n:=4) (by omega) (by omega)
 obtain ⟨x,ex,eg,hx⟩:=b6f c7k a (by simpa using b)
 exact ⟨x,t,by unfold a0m; rw [e]; simp only [Option.bind_some]; rw [ex,eg]; rfl,ht,hx⟩
theorem d0O (hL:L.length<=4194304){s:Semtypebase_Source}(h:OS L s):∃ x t,a0u s=some (x,t)/\OS L t:=by
 obtain ⟨n,t,e,ht,a,b⟩:=Y5 hL h (n:=10) (by omega) (by omega)
 obtain ⟨x,ex,eg,hx⟩:=b6f ([0,1,(-1),2,3,(-2),7,(-9223372036854775808),9223372036854775807,10]:List Int) a (by simpa using b)
 exact ⟨x,t,by unfold a0u; rw [e]; simp only [Option.bind_some]; rw [ex,eg]; rfl,ht⟩
def chk (o:Option (List ByteArray)):Bool :=
 match o with
 | some l=>a1m l&&decide (K2 l<=4)
 | none=>false
theorem b9R {o:Option (List ByteArray)}(h:chk o=true):∃ l,o=some l/\a1m l=true/\K2 l<=4:=by
 cases o with
 | none=>cases h
 | some l=>simp only [chk,Bool.and_eq_true,decide_eq_true_eq] at h; exact ⟨l,rfl,h⟩
theorem d3l:chk (a0n ([]:List ByteArray))=true:=by kernel_rfl
theorem d3h:c0V.all (fun x=>chk (a0n [x]))=true:=by kernel_rfl
theorem d3R:c0V.all (fun x=>c0V.all (fun y=>chk (a0n ([x]++[y]))))=true:=by kernel_rfl
theorem b2C (hL:L.length<=4194304){s:Semtypebase_Source}(h:OS L s):∃ l t,a1t s=some (l,t)/\OS L t/\a1m l=true/\K2 l<=4:=by
 obtain ⟨n,t,e,ht,_,_⟩:=Y5 hL h (n:=3) (by omega) (by omega)
 unfold a1t
 rw [e]
 simp only [Option.bind_some]
 cases hn:n==1
 ·simp only [cond_false,Option.bind_some]
  obtain ⟨l,el,h1,h2⟩:=b9R d3l
  exact ⟨l,t,by rw [el]; rfl,ht,h1,h2⟩
 ·simp only [cond_true,Option.bind_some]
  obtain ⟨x,t2,e2,ht2,hx⟩:=c2a hL ht
  obtain ⟨m,t3,e3,ht3,_,_⟩:=Y5 hL ht2 (n:=2) (by omega) (by omega)
  rw [e2]
  simp only [Option.bind_some]
  rw [Y0 (by simp),e3]
  simp only [Option.bind_some]
  cases hm:m==1
  ·simp only [cond_false,Option.bind_some]
   obtain ⟨l,el,h1,h2⟩:=b9R (List.all_eq_true.1 d3h x hx)
   exact ⟨l,t3,by rw [el]; rfl,ht3,h1,h2⟩
  ·simp only [cond_true,Option.bind_some]
   obtain ⟨y,t4,e4,ht4,hy⟩:=c2a hL ht3
   rw [e4]
   simp only [Option.bind_some]
   rw [Y0 (by simp)]
   obtain ⟨l,el,h1,h2⟩:=b9R (List.all_eq_true.1 (List.all_eq_true.1 d3R x hx) y hy)
   exact ⟨l,t4,by simp only [Option.bind_some]; rw [el]; rfl,ht4,h1,h2⟩
theorem b2h:c69.all (fun x=>a41 x&&decide (x.size<=5))=true:=by kernel_rfl
theorem b2I:c7k.all (fun x=>decide (x.size<=5))=true:=by kernel_rfl
theorem b50 (hL:L.length<=4194304){s:Semtypebase_Source}(h:OS L s):∃ v t,J0 s=some (v,t)/\OS L t/\vOK v=true/\k7 v<=16:=by
 obtain ⟨n,t,e,ht,_,_⟩:=Y5 hL h (n:=6) (by omega) (by omega)
 unfold J0
 rw [e]
 simp only [Option.bind_some]
 cases n==0
 ·simp only [cond_false,Option.bind_some]
  cases n==1
  ·simp only [cond_false,Option.bind_some]
   cases n==2
   ·simp only [cond_false,Option.bind_some]
    cases n==3
    ·simp only [cond_false,Option.bind_some]
     cases n==4
     ·simp only [cond_false,Option.bind_some]
      unfold a1Y a1G
      rw [Y0 (by simp)]
      exact ⟨_,t,rfl,ht,by rw [c4L]; rfl,by rw [V3]; simp [a2U,k8,w8,Z1]⟩
     ·simp only [cond_true,Option.bind_some]
      exact ⟨_,t,rfl,ht,c0y,by rw [V3]; simp [a2U,k8,w8,Z1]⟩
    ·simp only [cond_true,Option.bind_some]
     obtain ⟨x,t2,e2,ht2,h0,_⟩:=Y5 hL ht (n:=3) (by omega) (by omega)
     rw [e2]
     exact ⟨_,t2,rfl,ht2,by rw [d3s]; simpa using h0,by rw [V3]; simp [a2U,k8,w8,Z1]⟩
   ·simp only [cond_true,Option.bind_some]
    obtain ⟨x,t2,e2,ht2,hx⟩:=c0D hL ht
    have hw:=List.all_eq_true.1 b2I x hx
    simp only [decide_eq_true_eq] at hw
    rw [e2]
    exact ⟨_,t2,rfl,ht2,by rw [d3D]; simp; omega,by rw [V3]; simp only [k8,w8,Z1]; omega⟩
  ·simp only [cond_true,Option.bind_some]
   obtain ⟨x,t2,e2,ht2,hx⟩:=b0T hL ht
   have hw:=List.all_eq_true.1 b2h x hx
   simp only [Bool.and_eq_true,decide_eq_true_eq] at hw
   rw [e2]
   exact ⟨_,t2,rfl,ht2,by rw [d2q]; exact hw.1,by rw [V3]; simp only [k8,w8,Z1]; omega⟩
 ·simp only [cond_true,Option.bind_some]
  obtain ⟨x,t2,e2,ht2⟩:=d0O hL ht
  rw [e2]
  exact ⟨_,t2,rfl,ht2,c4d x,by rw [V3]; simp [a2U,k8,w8,Z1]⟩
theorem d3e (hL:L.length<=4194304){s:Semtypebase_Source}(h:OS L s):∃ k t,a3M s=some (k,t)/\OS L t/\a0c k=true/\a7b k<=8:=by
 obtain ⟨n,t,e,ht,_,_⟩:=Y5 hL h (n:=2) (by omega) (by omega)
 unfold a3M
 rw [e]
 simp only [Option.bind_some]
 cases n==0
 ·simp only [cond_false,Option.bind_some]
  obtain ⟨x,t2,e2,ht2,hx⟩:=c0D hL ht
  have hw:=List.all_eq_true.1 b2I x hx
  simp only [decide_eq_true_eq] at hw
  rw [e2]
  refine ⟨_,t2,rfl,ht2,?_,?_⟩
  ·simp [a0c]; omega
  ·simp only [a7b,a34]; omega
 ·simp only [cond_true,Option.bind_some]
  obtain ⟨x,t2,e2,ht2,hx⟩:=b0T hL ht
  have hw:=List.all_eq_true.1 b2h x hx
  simp only [Bool.and_eq_true,decide_eq_true_eq] at hw
  rw [e2]
  refine ⟨_,t2,rfl,ht2,?_,?_⟩
  ·simpa [a0c] using hw.1
  ·simp only [a7b,a34]; omega
theorem a7I {γ σ τ:Type}{step:σ->Option (Fl σ τ)}(pack:γ->Int->Semtypebase_Source->σ)(out:γ->Semtypebase_Source->τ)(Inv:Nat->γ->Prop)(J:Nat)
 (hst:∀ (j n:Nat) (g:γ) (s:Semtypebase_Source),j<J->n<=J->Inv j g->OS L s->∃ g' s',step (pack g ((n+1:Nat):Int) s)=some (.next (pack g' (n:Int) s'))/\OS L s'/\Inv (j+1) g')
 (hend:∀ g s,step (pack g 0 s)=some (.done (out g s))) :
 ∀ (n j k:Nat) (g:γ) (s:Semtypebase_Source),j+n<=J->n+1<=k->Inv j g->OS L s->∃ g' s',iter step k (pack g (n:Int) s)=some (out g' s')/\OS L s'/\Inv (j+n) g':=by
 intro n
 induction n with
 | zero =>
   intro j k g s _ hk hI hs
   obtain ⟨k,rfl⟩:∃ m,k=m+1:=⟨k-1,by omega⟩
   exact ⟨g,s,by have:=hend g s; simp [iter,this],hs,hI⟩
 | succ n ih =>
   intro j k g s hJ hk hI hs
   obtain ⟨k,rfl⟩:∃ m,k=m+1:=⟨k-1,by omega⟩
   obtain ⟨g1,s1,e,hs1,hI1⟩:=hst j n g s (by omega) (by omega) hI hs
   obtain ⟨g2,s2,e2,hs2,hI2⟩:=ih (j+1) k g1 s1 (by omega) (by omega) hI1 hs1
   refine ⟨g2,s2,?_,hs2,by rw [show j+(n+1)=j+1+n by omega]; exact hI2⟩
   simp only [iter,e,Option.bind_some]
   exact e2
def hb:Nat->Nat
 | 0=>32
 | h+1=>64+8*hb h
theorem d2Y {h:Nat}(hh:h<=2):hb h<=2624:=by
 match h,hh with
 | 0,_=>decide
 | 1,_=>decide
 | 2,_=>decide
theorem d0a (h:Nat):32<=hb h:=by cases h<;>simp [hb]; omega
def c51 (b:Nat)(v:Val):Prop:=vOK v=true/\k7 v<=b
end
end Go.Pl
namespace Go.Pl
open Go Go.RowKit Go.Sx Go.Qx
theorem b7d (a b:List Val):a1K (a++b)=(a1K a&&a1K b):=by rw [a4U,a4U,a4U,List.all_append]
theorem b9E:∀ (ks:List Key) (vs:List Val),b8m (ks.zip vs)<=w8 ks+k8 vs
 | [],_=>by simp [b8m]
 | _::_,[]=>by simp [b8m]
 | k::r,v::q=>by have:=b9E r q; simp only [List.zip_cons_cons,b8m,w8,k8]; omega
theorem b4L (n:Nat)(h:n<=1000)(b:Nat)(hb:b<=1024):Z8 n b=some ():=Y0 (by
 have:n*b<=1000*1024:=Nat.mul_le_mul h hb
 omega)
section
variable {L:List Int}
theorem d0Y (hL:L.length<=4194304){rv:Semtypebase_Source->Int->Option (Val×Semtypebase_Source)}{b:Nat}{h:Int}(hv:∀ s,OS L s->∃ v t,rv s h=some (v,t)/\OS L t/\c51 b v)
 (hb:b<=100000) (hb8:8<=b) (rx:Semtypebase_Source->Int->Option (Val×Semtypebase_Source)) (ry:Semtypebase_Source->Int->Int->Option (Ent×Semtypebase_Source)) (fuel:Nat) {n:Nat} (hn:n<=4) {s:Semtypebase_Source} (hs:OS L s) :
 ∃ e t,a4d fuel rv rx ry s (n:Int) h=some (e,t)/\OS L t/\eOK e=true/\a3n (n:Int) e=true/\a4x e<=n*b+b+3:=by
 obtain ⟨g,s1,e1,hs1,h1,h2,h3⟩:=a7I (L:=L) (step:=a12 h rv) (fun (g:List Val) (m:Int) (s:Semtypebase_Source)=>(m,s,(g,false,0,0,(⟨#[]⟩:ByteArray),([]:List Val),([]:List Key),([]:List Ent),([]:List ByteArray))))
  (fun (g:List Val) (s:Semtypebase_Source)=>(s,(g,false,0,0,(⟨#[]⟩:ByteArray),([]:List Val),([]:List Key),([]:List Ent),([]:List ByteArray)))) (fun j g=>g.length=j/\a1K g=true/\k8 g<=j*b) 4
  (by
    intro j m g s hj hm ⟨i1,i2,i3⟩ hs
    obtain ⟨v,t,e,ht,k1,k2⟩:=hv s hs
    refine ⟨g++[v],t,?_,ht,by simp [i1],by rw [b7d,i2]; simp [a1K,k1],?_⟩
    ·unfold a12
     simp only [W0,Z2]
     rw [if_pos (decide_eq_true (by omega)),e]
     simp only [Option.bind_some]
     rw [b4L _ (by simp; omega) _ (by omega),Q7 (by omega) (by omega)]
     simp only [Option.bind_some]
     rw [show ((m+1:Nat):Int)-1=(m:Int) by omega]
    ·rw [a1R]
     simp only [k8,Nat.add_mul]
     omega)
  (by
    intro g s
    unfold a12
    simp) n 0 (n+2) [] s (by omega) (by omega) ⟨rfl,rfl,by simp [k8]⟩ hs
 obtain ⟨x,t,e2,ht,_,_⟩:=Y5 hL hs1 (n:=4) (by omega) (by omega)
 rw [Nat.zero_add] at h1 h3
 unfold a4d
 rw [show ((n:Int)).toNat=n by omega,e1]
 simp only [Option.bind_some]
 rw [e2]
 simp only [Option.bind_some]
 cases x==1
 ·simp only [cond_false]
  obtain ⟨v,t2,e3,ht2,k1,k2⟩:=hv t ht
  rw [e3]
  refine ⟨_,t2,rfl,ht2,by rw [b6j]; simp only [Ent.Args,Ent.Fails,Ent.Result]; rw [h2,k1]; rfl,?_,?_⟩
  ·simp [a3n,Ent.Args,Ent.Fails,h1]
  ·rw [a1E]
   simp only [Ent.Args,Ent.Result]
   omega
 ·simp only [cond_true]
  refine ⟨_,t,rfl,ht,by rw [b6j]; simp only [Ent.Args,Ent.Fails]; rw [h2]; rfl,?_,?_⟩
  ·simp [a3n,Ent.Args,Ent.Fails,Ent.Result,h1,d3g]
  ·rw [a1E]
   simp only [Ent.Args,Ent.Result]
   have:k7 (Val.mk 0 0 (⟨#[]⟩) [] [] [] [])=8:=by rw [V3]; rfl
   omega
theorem b4G {x:Int}{b:Int}(h0:0<=x)(h1:x<b):∃ n:Nat,x=(n:Int)/\(n:Int)<b:=⟨x.toNat,by omega,by omega⟩
theorem d0c (hL:L.length<=4194304){rv:Semtypebase_Source->Int->Option (Val×Semtypebase_Source)}{re:Semtypebase_Source->Int->Int->Option (Ent×Semtypebase_Source)}{h:Nat}(hh:h<=2)
 (hv:∀ s,OS L s->∃ v t,rv s ((h:Int)+1)=some (v,t)/\OS L t/\c51 (hb h) v)
 (hv2:1<=h->∀ s,OS L s->∃ v t,rv s (h:Int)=some (v,t)/\OS L t/\c51 (hb h) v)
 (he:∀ n:Nat,n<=4->∀ s,OS L s->∃ e t,re s (n:Int) ((h:Int)+1)=some (e,t)/\OS L t/\eOK e=true/\a3n (n:Int) e=true/\a4x e<=n*hb h+hb h+3)
 (rx:Semtypebase_Source->Int->Option (Val×Semtypebase_Source)) {fuel:Nat} (hf:40000<=fuel) {s:Semtypebase_Source} (hs:OS L s) :
 ∃ v t,W5 fuel rv rx re s ((h:Int)+2)=some (v,t)/\OS L t/\vOK v=true/\k7 v+8<=hb (h+1):=by
 have hb1:=d2Y hh
 have hb2:=d0a h
 have hbs:hb (h+1)=64+8*hb h:=rfl
 have w1:w64 ((h:Int)+2-1)=(h:Int)+1:=by rw [Q7 (by omega) (by omega)]; omega
 have w2:w64 ((h:Int)+2-2)=(h:Int):=by rw [Q7 (by omega) (by omega)]; omega
 have wn:∀ m:Nat,m<=10->w64 (((m+1:Nat):Int)-1)=(m:Int):=fun m hm=>by rw [Q7 (by omega) (by omega)]; omega
 have lf:∀ s,OS L s->∃ v t,J0 s=some (v,t)/\OS L t/\vOK v=true/\k7 v+8<=hb (h+1):=fun s hs=>by
  obtain ⟨v,t,e,ht,h1,h2⟩:=b50 hL hs
  exact ⟨v,t,e,ht,h1,by omega⟩
 obtain ⟨c,t,e,ht,_,_⟩:=Y5 hL hs (n:=6) (by omega) (by omega)
 unfold W5
 have e0:decide ((h:Int)+2<=1)=false:=by simp; omega
 rw [e0,e]
 simp only [Option.bind_some,cond_false,Z2,w1,w2]
 cases c==1
 ·simp only [cond_false,Option.bind_some,onEnd]
  cases c==2
  ·simp only [cond_false,Option.bind_some,onEnd]
   cases c==3
   ·simp only [cond_false,Option.bind_some,onEnd]
    cases c==4
    ·simp only [cond_false,Option.bind_some,onEnd]
     obtain ⟨v,t2,e2,h2⟩:=lf t ht
     rw [e2]
     exact ⟨v,t2,rfl,h2⟩
    ·simp only [cond_true,Option.bind_some,onEnd]
     obtain ⟨x,t2,e2,ht2,x0,x1⟩:=Y5 hL ht (n:=3) (by omega) (by omega)
     obtain ⟨y,t3,e3,ht3,y0,y1⟩:=Y5 hL ht2 (n:=3) (by omega) (by omega)
     obtain ⟨n,rfl,hn⟩:=b4G x0 x1
     obtain ⟨m,rfl,hm⟩:=b4G y0 y1
     rw [e2]
     simp only [Option.bind_some]
     rw [e3]
     simp only [Option.bind_some]
     have hnb:n*hb h<=2*hb h:=Nat.mul_le_mul_right _ (by omega)
     obtain ⟨g,s1,e4,hs1,i1,i2,i3,i4⟩:=a7I (L:=L) (step:=a15 ((h:Int)+2) ((n:Int),t2) re) (fun (g:List Ent) (m:Int) (s:Semtypebase_Source)=>(g,m,s)) (fun (g:List Ent) (s:Semtypebase_Source)=>(g,s)) (fun j g=>g.length=j/\a5p g=true/\g.all (a3n (n:Int))=true/\Z1 g<=j*(3*hb h+3)) 4
      (by
        intro j m g s hj hm ⟨i1,i2,i3,i4⟩ hs
        obtain ⟨v,t,e,ht,k1,k2,k3⟩:=he n (by omega) s hs
        refine ⟨g++[v],t,?_,ht,by simp [i1],by rw [a84,List.all_append,<- a84,i2]; simp [k1],by rw [List.all_append,i3]; simp [k2],?_⟩
        ·unfold a15
         simp only [W0,Z2]
         rw [if_pos (decide_eq_true (by omega)),w1,e]
         simp only [Option.bind_some]
         rw [b4L _ (by simp; omega) _ (by omega),wn m (by omega)]
         rfl
        ·rw [b2M]
         simp only [Z1,Nat.add_mul]
         omega)
      (by
        intro g s
        unfold a15
        simp) m 0 (m+2) [] t3 (by omega) (by omega) ⟨rfl,rfl,rfl,by simp [Z1]⟩ ht3
     simp only [Option.bind_some,Int.toNat_natCast]
     rw [e4]
     simp only [Option.bind_some]
     rw [Nat.zero_add] at i1 i4
     have hmb:m*(3*hb h+3)<=2*(3*hb h+3):=Nat.mul_le_mul_right _ (by omega)
     rw [b4K fuel (n:Int) g (by omega) (by omega),if_pos ⟨by omega,by omega,i3⟩]
     simp only [Option.bind_some]
     simp only [show ((0:Int)==0)=true from rfl,cond_true,Option.bind_some,onEnd]
     refine ⟨c0j (n:Int) (g.foldl a4p []),s1,rfl,hs1,?_,?_⟩
     ·rw [d3v]
      have a1:(g.foldl a4p []).all (a3n (n:Int))=true:=List.all_eq_true.2 fun y hy=>by
       rcases b2b g [] hy with hy | hy
       ·simp at hy
       ·exact List.all_eq_true.1 i3 y hy
      have a2:a5p (g.foldl a4p [])=true:=by
       rw [a84]
       rw [a84] at i2
       exact List.all_eq_true.2 fun y hy=>by
        rcases b2b g [] hy with hy | hy
        ·simp at hy
        ·exact List.all_eq_true.1 i2 y hy
      rw [a2]
      simp only [b2y,c0j,Val.Int_,Val.Entries]
      rw [a1,b8v g [] rfl]
      simp only [Bool.and_true,Bool.and_eq_true]
      exact ⟨decide_eq_true (by omega),decide_eq_true (by omega)⟩
     ·have:=b0q g []
      simp only [c0j,V3,a2U,k8,w8]
      simp only [Z1] at this
      omega
   ·simp only [cond_true,Option.bind_some,onEnd]
    obtain ⟨y,t3,e3,ht3,y0,y1⟩:=Y5 hL ht (n:=3) (by omega) (by omega)
    obtain ⟨m,rfl,hm⟩:=b4G y0 y1
    rw [e3]
    simp only [Option.bind_some]
    obtain ⟨g,s1,e4,hs1,i1,i2,i3,i4,i5,i6⟩:=a7I (L:=L) (step:=a13 ((h:Int)+2) rv) (fun (g:List Key×List Val) (m:Int) (s:Semtypebase_Source)=>(g.1,g.2,m,s)) (fun (g:List Key×List Val) (s:Semtypebase_Source)=>(g.1,g.2,s)) (fun j g=>g.1.length=j/\g.2.length=j/\g.1.all a0c=true/\a1K g.2=true/\k8 g.2<=j*hb h/\w8 g.1<=j*8) 4
     (by
       intro j m g s hj hm ⟨i1,i2,i3,i4,i5,i6⟩ hs
       obtain ⟨k,t,e,ht,k1,k2⟩:=d3e hL hs
       obtain ⟨v,t2,e2,ht2,l1,l2⟩:=hv t ht
       refine ⟨(g.1++[k],g.2++[v]),t2,?_,ht2,by simp [i1],by simp [i2],by rw [List.all_append,i3]; simp [k1],by rw [b7d,i4]; simp [a1K,l1],?_,?_⟩
       ·unfold a13
        simp only [W0,Z2]
        rw [if_pos (decide_eq_true (by omega)),e,w1]
        simp only [Option.bind_some]
        rw [b4L _ (by simp; omega) _ (by omega),e2]
        simp only [Option.bind_some]
        rw [b4L _ (by simp; omega) _ (by omega),wn m (by omega)]
        rfl
       ·rw [a1R]
        simp only [k8,Nat.add_mul]
        omega
       ·rw [a7V]
        simp only [w8,Nat.add_mul]
        omega)
     (by
       intro g s
       unfold a13
       simp) m 0 (m+2) ([],[]) t3 (by omega) (by omega) ⟨rfl,rfl,rfl,rfl,by simp [k8],by simp [w8]⟩ ht3
    simp only [Int.toNat_natCast]
    rw [e4]
    simp only [Option.bind_some]
    rw [Nat.zero_add] at i1 i2 i5 i6
    have hmb:m*hb h<=2*hb h:=Nat.mul_le_mul_right _ (by omega)
    rw [c2C g.1 g.2 (by omega),if_pos ⟨by omega,i3⟩]
    simp only [Option.bind_some]
    cases hx:a62 (g.1.zip g.2) ([],[]) with
    | none =>
      simp only [show ((6:Int)==0)=false from rfl,cond_false,Option.bind_some,onEnd]
      obtain ⟨v,t2,e2,h2⟩:=lf _ hs1
      rw [e2]
      exact ⟨v,t2,rfl,h2⟩
    | some u =>
      simp only
      simp only [show ((0:Int)==0)=true from rfl,cond_true,Option.bind_some,onEnd]
      obtain ⟨m1,m2,m3,m4,m5,m6⟩:=b4b _ _ _ hx rfl rfl
      have hz:=b9E g.1 g.2
      simp only [k8,w8] at m6
      refine ⟨b43 u,s1,rfl,hs1,?_,?_⟩
      ·rw [d3d]
       have a1:u.2.all a0c=true:=List.all_eq_true.2 fun y hy=>by
        rcases m4 y hy with hy | ⟨x,hx,rfl⟩
        ·simp at hy
        ·exact List.all_eq_true.1 i3 _ (List.of_mem_zip hx).1
       have a2:a1K u.1=true:=by
        rw [a4U]
        rw [a4U] at i4
        exact List.all_eq_true.2 fun y hy=>by
         rcases m5 y hy with hy | ⟨x,hx,rfl⟩
         ·simp at hy
         ·exact List.all_eq_true.1 i4 _ (List.of_mem_zip hx).2
       rw [a2]
       simp only [a9N,b43,Val.Keys,Val.Kids]
       rw [a1,m1,m2]
       simp
      ·simp only [b43,V3,a2U,Z1]
       omega
  ·simp only [cond_true,Option.bind_some,onEnd]
   have fin:∀ (tl v:Val),vOK tl=true->(tl.Kind=5\/tl.Kind=7)->k7 tl<=24+hb h->c51 (hb h) v ->
    vOK (Val.mk 7 0 (⟨#[]⟩) [v,tl] [] [] [])=true/\k7 (Val.mk 7 0 (⟨#[]⟩) [v,tl] [] [] [])+8<=hb (h+1):=by
    intro tl v ho hk hbt ⟨k1,k2⟩
    refine ⟨?_,?_⟩
    ·rw [c5S,k1,ho]
     rcases hk with hk | hk<;>simp [hk]
    ·rw [V3]
     simp only [a2U,k8,w8,Z1]
     omega
   have nilB:k7 (Val.mk 5 0 (⟨#[]⟩) [] [] [] [])=8:=by rw [V3]; rfl
   unfold W4 a4Q
   simp only [Option.bind_some]
   by_cases h2:1<=h
   ·have e5:decide (2<(h:Int)+2)=true:=by simp; omega
    obtain ⟨x,t2,e2,ht2,_,_⟩:=Y5 hL ht (n:=2) (by omega) (by omega)
    rw [e5,e2]
    simp only [Option.bind_some,cond_true]
    cases x==1
    ·simp only [Option.bind_some,cond_false]
     obtain ⟨l,t3,e3,ht3,l1,l2⟩:=b2C hL ht2
     rw [e3]
     simp only [Option.bind_some]
     obtain ⟨v,t5,e5,ht5,k5⟩:=hv t3 ht3
     rw [e5]
     exact ⟨_,t5,rfl,ht5,fin (a8c (Val.mk 5 0 (⟨#[]⟩) [] [] [] []) l) v (b0V c0y l1) (.inl rfl) (by have:=a7L (Val.mk 5 0 (⟨#[]⟩) [] [] [] []) l; omega) k5⟩
    ·simp only [Option.bind_some,cond_true]
     obtain ⟨v,t3,e3,ht3,k1,k2⟩:=hv2 h2 t2 ht2
     rw [e3]
     simp only [Option.bind_some]
     obtain ⟨l,t4,e4,ht4,l1,l2⟩:=b2C hL ht3
     have ho:vOK (Val.mk 7 0 (⟨#[]⟩) [v,Val.mk 5 0 (⟨#[]⟩) [] [] [] []] [] [] [])=true:=by rw [c5S,k1,c0y]; rfl
     have hbb:k7 (Val.mk 7 0 (⟨#[]⟩) [v,Val.mk 5 0 (⟨#[]⟩) [] [] [] []] [] [] [])<=16+hb h:=by
      rw [V3]
      simp only [a2U,k8,w8,Z1,nilB]
      omega
     rw [e4]
     simp only [Option.bind_some]
     obtain ⟨v5,t5,e5,ht5,k5⟩:=hv t4 ht4
     rw [e5]
     exact ⟨_,t5,rfl,ht5,fin (a8c (Val.mk 7 0 (⟨#[]⟩) [v,Val.mk 5 0 (⟨#[]⟩) [] [] [] []] [] [] []) l) v5 (b0V ho l1) (.inr rfl) (by have:=a7L (Val.mk 7 0 (⟨#[]⟩) [v,Val.mk 5 0 (⟨#[]⟩) [] [] [] []] [] [] []) l; omega) k5⟩
   ·have e5:decide (2<(h:Int)+2)=false:=by simp; omega
    rw [e5]
    simp only [Option.bind_some,cond_false]
    obtain ⟨l,t3,e3,ht3,l1,l2⟩:=b2C hL ht
    rw [e3]
    simp only [Option.bind_some]
    obtain ⟨v,t5,e5,ht5,k5⟩:=hv t3 ht3
    rw [e5]
    exact ⟨_,t5,rfl,ht5,fin (a8c (Val.mk 5 0 (⟨#[]⟩) [] [] [] []) l) v (b0V c0y l1) (.inl rfl) (by have:=a7L (Val.mk 5 0 (⟨#[]⟩) [] [] [] []) l; omega) k5⟩
 ·simp only [cond_true,Option.bind_some,onEnd]
  obtain ⟨y,t3,e3,ht3,y0,y1⟩:=Y5 hL ht (n:=4) (by omega) (by omega)
  obtain ⟨m,rfl,hm⟩:=b4G y0 y1
  rw [e3]
  simp only [Option.bind_some]
  obtain ⟨g,s1,e4,hs1,i1,i2,i3⟩:=a7I (L:=L) (step:=a14 ((h:Int)+2) rv) (fun (g:List Val) (m:Int) (s:Semtypebase_Source)=>(g,m,s)) (fun (g:List Val) (s:Semtypebase_Source)=>(g,s)) (fun j g=>g.length=j/\a1K g=true/\k8 g<=j*hb h) 4
   (by
     intro j m g s hj hm ⟨i1,i2,i3⟩ hs
     obtain ⟨v,t,e,ht,k1,k2⟩:=hv s hs
     refine ⟨g++[v],t,?_,ht,by simp [i1],by rw [b7d,i2]; simp [a1K,k1],?_⟩
     ·unfold a14
      simp only [W0,Z2]
      rw [if_pos (decide_eq_true (by omega)),w1,e]
      simp only [Option.bind_some]
      rw [b4L _ (by simp; omega) _ (by omega),wn m (by omega)]
      rfl
     ·rw [a1R]
      simp only [k8,Nat.add_mul]
      omega)
   (by
     intro g s
     unfold a14
     simp) m 0 (m+2) [] t3 (by omega) (by omega) ⟨rfl,rfl,by simp [k8]⟩ ht3
  simp only [Int.toNat_natCast]
  rw [e4]
  simp only [Option.bind_some]
  rw [Nat.zero_add] at i1 i3
  have hmb:m*hb h<=3*hb h:=Nat.mul_le_mul_right _ (by omega)
  unfold a1Y a1G
  rw [b4L _ (by simp; omega) _ (by omega)]
  refine ⟨Val.mk 6 0 (⟨#[]⟩) g [] [] [],s1,rfl,hs1,?_,?_⟩
  ·rw [c4L,i2]
   simp
   omega
  ·rw [V3]
   simp only [a2U,w8,Z1]
   omega
theorem d3i (hL:L.length<=4194304):∀ (h k:Nat),h<=3->50000+3*h<=k->∀ s,OS L s->∃ v t,(y9 k).1 s ((h:Int)+1)=some (v,t)/\OS L t/\c51 (hb h) v:=by
 intro h
 induction h using Nat.strongRecOn with
 | ind h ih =>
   intro k hh hk s hs
   obtain ⟨k,rfl⟩:∃ m,k=m+2:=⟨k-2,by omega⟩
   have key:∃ v t,(y9 (k+1)).2.1 s ((h:Int)+1)=some (v,t)/\OS L t/\vOK v=true/\k7 v+8<=hb h:=by
    show ∃ v t,W5 k (y9 k).1 (y9 k).2.1 (y9 k).2.2 s ((h:Int)+1)=some (v,t)/\_
    cases h with
    | zero =>
      obtain ⟨v,t,e,ht,h1,h2⟩:=b50 hL hs
      refine ⟨v,t,?_,ht,h1,by simp only [hb]; omega⟩
      unfold W5
      have e0:decide (((0:Nat):Int)+1<=1)=true:=rfl
      rw [e0,e]
      rfl
    | succ h =>
      have:=d0c hL (h:=h) (by omega) (rv:=(y9 k).1) (re:=(y9 k).2.2) (fun s hs=>ih h (by omega) k (by omega) (by omega) s hs)
       (fun h1 s hs=>by
         obtain ⟨h,rfl⟩:∃ m,h=m+1:=⟨h-1,by omega⟩
         obtain ⟨v,t,e,ht,k1,k2⟩:=ih h (by omega) k (by omega) (by omega) s hs
         exact ⟨v,t,e,ht,k1,by simp only [hb]; omega⟩)
       (fun n hn s hs=>by
         obtain ⟨p,rfl⟩:∃ m,k=m+1:=⟨k-1,by omega⟩
         have hb1:=d2Y (show h<=2 by omega)
         have hb2:=d0a h
         exact d0Y hL (rv:=(y9 p).1) (b:=hb h) (fun s hs=>ih h (by omega) p (by omega) (by omega) s hs) (by omega) (by omega) (y9 p).2.1 (y9 p).2.2 p hn hs)
       (y9 k).2.1 (fuel:=k) (by omega) hs
      rw [show (((h+1:Nat):Int))+1=(h:Int)+2 by omega]
      exact this
   obtain ⟨v,t,e,ht,h1,h2⟩:=key
   obtain ⟨l,t2,e2,ht2,l1,l2⟩:=b2C hL ht
   show ∃ v t,a1b (k+1) (y9 (k+1)).1 (y9 (k+1)).2.1 (y9 (k+1)).2.2 s ((h:Int)+1)=some (v,t)/\_
   unfold a1b
   rw [e]
   simp only [Option.bind_some]
   rw [e2]
   have:=a7L v l
   exact ⟨a8c v l,t2,rfl,ht2,b0V h1 l1,by omega⟩
end
end Go.Pl
end
section
namespace Go.Pl
open Go Go.RowKit Go.Sx Go.Qx
def b4S {α:Type}(c:α->α->Int)(q:α->Bool)(l:List α)(i:Nat):Bool :=
 match l[i]? with
 | some x=>q x&&(match i with
   | 0=>true
   | j+1=>match l[j]? with
     | some y=>decide (c y x<0)
     | none=>true)
 | none=>true
theorem c6N {α:Type}(c:α->α->Int)(q:α->Bool)(l:List α):(List.range l.length).all (b4S c q l)=(asc c l&&l.all q):=by
 rw [Bool.eq_iff_iff,Bool.and_eq_true,b6O,List.all_eq_true,List.all_eq_true]
 constructor
 ·intro h
  refine ⟨fun i h1 hi=>?_,fun x hx=>?_⟩
  ·obtain ⟨j,rfl⟩:∃ m,i=m+1:=⟨i-1,by omega⟩
   have:=h (j+1) (by simpa using hi)
   unfold b4S at this
   rw [List.getElem?_eq_getElem hi] at this
   simp only [Bool.and_eq_true] at this
   have h2:=this.2
   rw [List.getElem?_eq_getElem (show j<l.length by omega)] at h2
   simpa using h2
  ·obtain ⟨i,hi,rfl⟩:=List.getElem_of_mem hx
   have:=h i (by simpa using hi)
   unfold b4S at this
   rw [List.getElem?_eq_getElem hi] at this
   simp only [Bool.and_eq_true] at this
   exact this.1
 ·intro ⟨h1,h2⟩ i hi
  have hi:i<l.length:=by simpa using hi
  unfold b4S
  rw [List.getElem?_eq_getElem hi]
  simp only [Bool.and_eq_true]
  refine ⟨h2 _ (List.getElem_mem hi),?_⟩
  cases i with
  | zero=>rfl
  | succ j =>
    simp only
    rw [List.getElem?_eq_getElem (show j<l.length by omega)]
    have:=h1 (j+1) (by omega) hi
    simpa using this
theorem c0P {α β:Type}{step:Int->Option (Fl Int (Sum Unit β))}(c:α->α->Int)(q:α->Bool)(l:List α)(b:β)
 (hst:∀ (i:Nat) (x:α),l[i]?=some x->step (i:Int)=some (if b4S c q l i=true then .next ((i+1:Nat):Int) else .done (.inr b)))
 (hend:step (l.length:Int)=some (.done (.inl ()))):iter step (l.length+1) 0=some (if (asc c l&&l.all q)=true then .inl () else .inr b):=by
 have:=X3 (step:=step) (List.range l.length) (b4S c q l) (fun i=>(i:Int)) () b (fun i x hx=>by
  have hi:i<l.length:=by have:=(List.getElem?_eq_some_iff.1 hx).1; simpa using this
  have e:x=i:=by
   rw [List.getElem?_range hi] at hx
   cases hx; rfl
  subst e
  exact hst x _ (List.getElem?_eq_getElem hi)) (by rw [List.length_range]; exact hend)
 rw [List.length_range,c6N] at this
 exact this
theorem b6m {α:Type}(c:α->α->Int)(q:α->Bool)(l:List α)(i:Nat)(x:α)(hx:l[i]?=some x)(hl:l.length<=4194304){o:Option (Fl Int (Sum Unit Bool))}
 (h0:q x=false->o=some (.done (.inr false)))
 (h1:q x=true->i=0->o=some (.next (w64 ((i:Int)+1))))
 (h2:q x=true->∀ j y,i=j+1->l[j]?=some y->idx l (w64 ((i:Int)-1))=some y->o=some (if c y x<0 then .next (w64 ((i:Int)+1)) else .done (.inr false))) :
 o=some (if b4S c q l i=true then .next ((i+1:Nat):Int) else .done (.inr false)):=by
 have hi:i<l.length:=(List.getElem?_eq_some_iff.1 hx).1
 have hw:=j8 i (by omega)
 unfold b4S
 rw [hx]
 cases hq:q x
 ·rw [h0 hq]; simp [hq]
 ·cases i with
  | zero=>rw [h1 hq rfl,hw]; simp [hq]
  | succ j =>
    have hy:=List.getElem?_eq_getElem (show j<l.length by omega)
    have hj:w64 (((j+1:Nat):Int)-1)=(j:Int):=by rw [Q7 (by omega) (by omega)]; omega
    rw [h2 hq j _ rfl hy (by rw [hj]; exact j6 hy),hw]
    simp only [hy]
    by_cases hc:c l[j] x<0<;>simp [hq,hc]
theorem d07 (a b:ByteArray):a2M a b=decide (cS a b<0):=by
 rcases a87 a b with ⟨h,_,e⟩ | ⟨h,_,e⟩ | ⟨h,_,e⟩<;>simp [h,e]
theorem c64 (i:Nat):decide (0<(((i+1:Nat)):Int))=true:=decide_eq_true (by omega)
theorem c7w (l:List Val):(bif ((l.length:Int)==2) then Option.bind (idx l 1) fun x=>Option.bind (bif (x.Kind==5) then some true else Option.bind (idx l 1) fun y=>some (y.Kind==7)) fun q=>some q else some false)=some (b1f l):=by
 unfold b1f
 match l with
 | []=>rfl
 | [_]=>rfl
 | [x,t] =>
   have e2:((([x,t]:List Val).length:Int)==2)=true:=rfl
   rw [e2]
   have:idx [x,t] 1=some t:=rfl
   simp only [cond_true,this,Option.bind_some]
   cases t.Kind==5<;>rfl
 | _::_::_::r =>
   rename_i a b c
   have:((((a::b::c::r:List Val)).length:Int)==2)=false:=by simp; omega
   rw [this]; rfl
theorem c7v (fuel:Nat)(v:Val)(hf:2*k7 v<=fuel+2)(hb:k7 v<=4194304):a6T fuel v=some (a2e v):=by
 have he:=a1k v
 have hs:=a3Q v.Labels
 have hk:=a6j v.Keys
 have hn:=a3A v.Entries
 have l1:iter (a47 v) (v.Labels.length+1) 0=some (if (asc cS v.Labels&&v.Labels.all a6O)=true then .inl () else .inr false):=by
  refine c0P cS a6O v.Labels false ?_ ?_
  ·intro i x hx
   have hi:i<v.Labels.length:=(List.getElem?_eq_some_iff.1 hx).1
   unfold a47
   simp only [W0,Z2]
   rw [if_pos (by simp; omega),j6 hx]
   simp only [Option.bind_some,c2D]
   refine b6m cS a6O v.Labels i x hx (by omega) (fun h=>by rw [h]; rfl) (fun h h0=>by subst h0; rw [h]; rfl) (fun h j y hj hy hiy=>?_)
   subst hj
   rw [h,hiy,c64]
   simp only [Bool.not_true,Bool.false_eq_true,if_false,if_true,Option.bind_some]
   rw [d07]
   by_cases hc:cS y x<0<;>simp [hc]
  ·unfold a47
   simp
 have l2:iter (a5b v) (v.Keys.length+1) 0=some (if (asc cK v.Keys&&v.Keys.all a0c)=true then .inl () else .inr false):=by
  refine c0P cK a0c v.Keys false ?_ ?_
  ·intro i x hx
   have hi:i<v.Keys.length:=(List.getElem?_eq_some_iff.1 hx).1
   unfold a5b
   simp only [W0,Z2]
   rw [if_pos (by simp; omega),j6 hx]
   simp only [Option.bind_some,b8o]
   refine b6m cK a0c v.Keys i x hx (by omega) (fun h=>by rw [h]; rfl) (fun h h0=>by subst h0; rw [h]; rfl) (fun h j y hj hy hiy=>?_)
   subst hj
   rw [h,hiy,c64]
   simp only [Bool.not_true,Bool.false_eq_true,if_false,if_true,Option.bind_some,b0U]
   by_cases hc:cK y x<0
   ·have:¬ 0<=cK y x:=by omega
    simp [hc,this]
   ·have:0<=cK y x:=by omega
    simp [hc,this]
  ·unfold a5b
   simp
 have l3:iter (a5e v fuel) (v.Entries.length+1) 0=some (if (asc cE v.Entries&&v.Entries.all (a3n v.Int_))=true then .inl () else .inr false):=by
  refine c0P cE (a3n v.Int_) v.Entries false ?_ ?_
  ·intro i x hx
   have hi:i<v.Entries.length:=(List.getElem?_eq_some_iff.1 hx).1
   have hm:=a0e (List.mem_of_getElem? hx)
   have hbe:=a1E x
   unfold a5e a4k
   simp only [W0,Z2]
   rw [if_pos (by simp; omega),j6 hx]
   simp only [Option.bind_some]
   rw [show Val.mk 0 0 (⟨#[]⟩:ByteArray) ([]:List Val) ([]:List Key) ([]:List Ent) ([]:List ByteArray)=a7r from rfl,(a59 fuel).1 x.Result a7r (by omega) (by omega)]
   simp only [Option.bind_some]
   have hq:(Option.bind (if ((x.Args.length:Int) != v.Int_)=true then some true else Option.bind (if x.Fails=true then some (!(cV x.Result a7r==0)) else some false) fun q=>some q) fun q=>some q)=some (!(a3n v.Int_ x)):=by
    unfold a3n
    have e0:((x.Args.length:Int) != v.Int_)=!((x.Args.length:Int)==v.Int_):=rfl
    rw [e0]
    cases ((x.Args.length:Int)==v.Int_)<;>cases x.Fails<;>cases (cV x.Result a7r==0)<;>rfl
   rw [K1] at hq
   simp only [K1] at hq ⊢
   rw [hq]
   simp only [Option.bind_some]
   refine b6m cE (a3n v.Int_) v.Entries i x hx (by omega) (fun h=>by rw [h]; rfl) (fun h h0=>by subst h0; rw [h]; rfl) (fun h j y hj hy hiy=>?_)
   subst hj
   have hmy:=a0e (List.mem_of_getElem? hy)
   have hc:Y4 fuel y x=some (cE y x):=(a59 fuel).2.2 y x (by omega) (by omega)
   rw [h,hiy,c64]
   simp only [Bool.not_true,Bool.false_eq_true,if_false,if_true,Option.bind_some,hc]
   by_cases hc:cE y x<0
   ·have:¬ 0<=cE y x:=by omega
    simp [hc,this]
   ·have:0<=cE y x:=by omega
    simp [hc,this]
  ·unfold a5e
   simp
 unfold a6T
 simp only [Z5,K1]
 rw [l1,l2,l3,b41]
 have hcons:=c7w v.Kids
 simp only [K1] at hcons
 rw [hcons]
 simp only [Option.bind_some,b9A]
 unfold a2e a1m
 cases hlab:(asc cS v.Labels&&v.Labels.all a6O)
 ·rfl
 have h6:decide ((v.Kids.length:Int)<=4)=decide (v.Kids.length<=4):=by
  by_cases h:v.Kids.length<=4
  ·simp [h]; omega
  ·simp [h]; omega
 have hm:a9N v=(decide (v.Keys.length=v.Kids.length)&&(asc cK v.Keys&&v.Keys.all a0c)):=by
  unfold a9N
  by_cases h:v.Keys.length=v.Kids.length<;>simp [h]
 have hm2:((v.Keys.length:Int)==(v.Kids.length:Int))=decide (v.Keys.length=v.Kids.length):=by
  by_cases h:v.Keys.length=v.Kids.length
  ·simp [h]
  ·simp [h]; omega
 have hfu:b2y v=(!decide (v.Int_<0)&&!decide (4<v.Int_)&&(asc cE v.Entries&&v.Entries.all (a3n v.Int_))):=by
  unfold b2y
  by_cases h1:v.Int_<0<;>by_cases h2:4<v.Int_
  ·omega
  ·have:¬ 0<=v.Int_:=by omega
   simp [h1,this]
  ·have:¬ v.Int_<=4:=by omega
   simp [h2,this]
  ·have a:0<=v.Int_:=by omega
   have b:v.Int_<=4:=by omega
   simp [h1,h2,a,b]
 have hi:(v.Int_ != 0)=!(v.Int_==0):=rfl
 rw [hm2,hi,h6]
 simp only [onEnd,if_true]
 unfold a4a a4j
 rw [hm,hfu]
 generalize (asc cE v.Entries&&v.Entries.all (a3n v.Int_))=f
 generalize (asc cK v.Keys&&v.Keys.all a0c)=k
 generalize decide (v.Keys.length=v.Kids.length)=m
 generalize decide (v.Int_<0)=p
 generalize decide (4<v.Int_)=r
 generalize Z6 v.Text ⟨#[]⟩=t
 generalize v.Keys.isEmpty=y
 generalize v.Entries.isEmpty=e
 generalize v.Kids.isEmpty=d
 generalize (v.Int_==0)=i
 generalize a41 v.Text=a
 generalize decide ((v.Text.size:Int)<=64)=z
 generalize b1f v.Kids=c
 generalize decide (0<=v.Int_)=g
 generalize decide (v.Kids.length<=4)=n
 by_cases hk:v.Kind=1\/v.Kind=2\/v.Kind=3\/v.Kind=4\/v.Kind=5\/v.Kind=6\/v.Kind=7\/v.Kind=8\/v.Kind=9
 ·rcases hk with h | h | h | h | h | h | h | h | h<;>rw [h]<;>cases i<;>cases t<;>cases d<;>cases y<;>cases e<;>simp
  all_goals first
   | rfl
   | (cases k<;>cases m<;>simp)
   | (cases p<;>cases r<;>cases f<;>simp)
 ·simp only [not_or] at hk
  obtain ⟨h1,h2,h3,h4,h5,h6',h7,h8,h9⟩:=hk
  have e1:(v.Kind==1)=false:=by simpa using h1
  have e2:(v.Kind==2)=false:=by simpa using h2
  have e3:(v.Kind==3)=false:=by simpa using h3
  have e4:(v.Kind==4)=false:=by simpa using h4
  have e5:(v.Kind==5)=false:=by simpa using h5
  have e6:(v.Kind==6)=false:=by simpa using h6'
  have e7:(v.Kind==7)=false:=by simpa using h7
  have e8:(v.Kind==8)=false:=by simpa using h8
  have e9:(v.Kind==9)=false:=by simpa using h9
  simp only [bne,e1,e2,e3,e4,e5,e6,e7,e8,e9,if_neg h1,if_neg h2,if_neg h3,if_neg h4,if_neg h5,if_neg h6',if_neg h7,if_neg h8,if_neg h9]
  cases i<;>cases t<;>cases d<;>cases y<;>cases e<;>rfl
theorem b3g:∀ (k:Nat) (v:Val),2*k7 v<=k->k7 v<=4194304->a0h k v=some (vOK v)
 | 0,v,h,_=>by have:=a9c v; omega
 | k+1,v,h,hb=>by
   have he:=a1k v
   have hv:=a2P v.Kids
   have hn:=a3A v.Entries
   have hrec:∀ x,k7 x<k7 v->a0h k x=some (vOK x):=fun x hx=>b3g k x (by omega) (by omega)
   show a7f k (a0h k) v=_
   unfold a7f
   rw [c7v k v (by omega) hb,b9F,a4U,a84]
   simp only [Option.bind_some,Z5]
   have l1:iter (a4y v (a0h k)) (v.Kids.length+1) 0=some (if v.Kids.all vOK=true then .inl () else .inr false):=by
    refine X3 v.Kids vOK (fun i=>(i:Int)) () false ?_ ?_
    ·intro i x hx
     have hi:i<v.Kids.length:=(List.getElem?_eq_some_iff.1 hx).1
     have hm:=a1s (List.mem_of_getElem? hx)
     unfold a4y
     simp only [Z2]
     rw [show decide ((i:Int)<(v.Kids.length:Int))=true by simp; omega,j6 hx]
     simp only [cond_true,Option.bind_some]
     rw [hrec x (by omega),j8 i (by omega)]
     exact a4I _ _
    ·unfold a4y
     simp
   have l2:iter (a4q v (a0h k)) (v.Entries.length+1) 0=some (if v.Entries.all eOK=true then .inl () else .inr false):=by
    refine X3 v.Entries eOK (fun i=>(i:Int)) () false ?_ ?_
    ·intro i x hx
     have hi:i<v.Entries.length:=(List.getElem?_eq_some_iff.1 hx).1
     have hm:=a0e (List.mem_of_getElem? hx)
     have hbe:=a1E x
     have hal:=a2P x.Args
     unfold a4q
     simp only [Z2,Z5]
     rw [show decide ((i:Int)<(v.Entries.length:Int))=true by simp; omega,j6 hx]
     simp only [cond_true,Option.bind_some]
     have l3:iter (a4A (a0h k) x) (x.Args.length+1) 0=some (if x.Args.all vOK=true then .inl () else .inr false):=by
      refine X3 x.Args vOK (fun i=>(i:Int)) () false ?_ ?_
      ·intro j y hy
       have hj:j<x.Args.length:=(List.getElem?_eq_some_iff.1 hy).1
       have hmy:=a1s (List.mem_of_getElem? hy)
       unfold a4A
       simp only [Z2]
       rw [show decide ((j:Int)<(x.Args.length:Int))=true by simp; omega,j6 hy]
       simp only [cond_true,Option.bind_some]
       rw [hrec y (by omega),j8 j (by omega)]
       exact a4I _ _
      ·unfold a4A
       simp
     rw [l3,hrec x.Result (by omega),b6j,a4U,j8 i (by omega)]
     simp only [Option.bind_some]
     cases x.Args.all vOK<;>cases x.Fails<;>cases vOK x.Result<;>rfl
    ·unfold a4q
     simp
   rw [l1,l2]
   cases a2e v<;>cases v.Kids.all vOK<;>cases v.Entries.all eOK<;>rfl
end Go.Pl
end

/- Part 3. -/
import Derived.Test.YtlhfnodjomobiaaGreatDoorK2
import Derived.KernelRfl
import Derived.Lib.Bytealg
section
namespace Go.Qx
open Go Go.RowKit Go.Sx
set_option maxRecDepth 100000
structure Api_Goal where
 Pos:List Int
 Neg:List Int
 Lists:Bool
structure Api_Field where
 Key_:Key
 Node:Int
 Optional:Bool
structure Api_TypeNode where
 Kind:Int
 Lo:Int
 Hi:Int
 Text:ByteArray
 Kids:List Int
 Fields:List Api_Field
 Rest:Int×Int
structure Api_Type where
 Nodes:List Api_TypeNode
 Root:Int
structure Api_Form where
 Args:List Int
 Fails:Bool
 Result:Int
structure Api_Alternative where
 Leaf:Val
 Keys:List Key
 Forms:List Api_Form
 Subgoals:List Api_Goal
structure Semtypebase_Source where
 L:List Int
 At:Int
structure Api_Names where
 Cofinite:Bool
 List_:List ByteArray
structure Api_Range where
 Lo:Int
 Hi:Int
structure Api_Line where
 Kind:Int
 Arity:Int
 Ints:List Api_Range
 Names:Api_Names
 Pos:List Int
 Neg:List Int
 Vars:List ByteArray
 NotVars:List ByteArray
structure Core_Sort where
 Kind:Int
 Arity:Int
structure Api_Box where
 Parts:List Api_Goal
structure Core_pair where
 pos:List Int
 neg:List Int
 finalPos:List Int
 finalNeg:List Int
structure Value_used where
 number:Bool
 text_:Bool
 kids:Bool
 keys:Bool
 entries:Bool
structure Literals_normal where
 Names:Api_Names
def b0G (x y:Int×Int):Bool:=((x.1==y.1)&&((x.2==y.2)&&true))
def a4T (x y:Key):Bool:=((x.Kind==y.Kind)&&((J5 x.Text y.Text)&&true))
def a1t (l:List (List Int))(x1:Int):Option (Fl Int (Sum Unit Bool)) :=
 bif decide (x1<(l.length:Int))
 then (Option.bind (idx l x1) fun e2 =>
 bif decide (80<(e2.length:Int))
 then (some (.done (.inr false)))
 else (some (.next (wr .i64 (x1+1)))))
 else (some (.done (.inl ())))
def a3N (l:List (List Int)):Option Bool :=
 Option.bind (y9 (a1t l) ((l.length:Int).toNat+1) 0) fun b3 =>
 j9 (fun _ =>
 some true) (fun y5 =>
 some y5) b3
def a3F (d:Api_TypeNode):Option Bool :=
 Option.bind (bif d.Kind==3
 then (some (true,false,false,false))
 else (Option.bind (bif d.Kind==4
 then (some (d.Kind==4))
 else (bif d.Kind==6
 then (some (d.Kind==6))
 else (some (d.Kind==19)))) fun b1 =>
 bif b1
 then (some (false,true,false,false))
 else (Option.bind (bif d.Kind==10
 then (some (d.Kind==10))
 else (bif d.Kind==12
 then (some (d.Kind==12))
 else (bif d.Kind==14
 then (some (d.Kind==14))
 else (bif d.Kind==16
 then (some (d.Kind==16))
 else (bif d.Kind==17
 then (some (d.Kind==17))
 else (some (d.Kind==18))))))) fun b2 =>
 bif b2
 then (some (false,false,true,false))
 else (bif d.Kind==13
 then (some (false,false,false,true))
 else (some (false,false,false,false)))))) fun b3 =>
 Option.bind (bif b3.1
 then (some true)
 else (Option.bind (bif d.Lo==0
 then (some (d.Hi==0))
 else (some false)) fun q4 =>
 some q4)) fun q5 =>
 Option.bind (bif q5
 then (Option.bind (bif b3.2.1
 then (some true)
 else (some (J5 d.Text (⟨#[]⟩:ByteArray)))) fun q6 =>
 some q6)
 else (some false)) fun q7 =>
 Option.bind (bif q7
 then (Option.bind (bif b3.2.2.1
 then (some true)
 else (some ((d.Kids.length:Int)==0))) fun q8 =>
 some q8)
 else (some false)) fun q9 =>
 Option.bind (bif q9
 then (Option.bind (bif b3.2.2.2
 then (some true)
 else (Option.bind (bif (d.Fields.length:Int)==0
 then (some (b0G d.Rest (0,0)))
 else (some false)) fun q10 =>
 some q10)) fun q11 =>
 some q11)
 else (some false)) fun q12 =>
 some q12
def a7J (s:ByteArray)(other:Int->Option Bool)(x5:Int):Option (Fl Int (Sum Unit Bool)) :=
 bif decide (x5<(s.size:Int))
 then (Option.bind (a4E s x5) fun e6 =>
 Option.bind (other (e6.toNat:Int)) fun r7 =>
 bif !r7
 then (some (.done (.inr false)))
 else (some (.next (wr .i64 (x5+1)))))
 else (some (.done (.inl ())))
def a5z (s:ByteArray)(first:Int->Option Bool)(other:Int->Option Bool):Option Bool :=
 Option.bind (bif decide ((s.size:Int)<1)
 then (some true)
 else (some (decide (16<(s.size:Int))))) fun q1 =>
 Option.bind (bif q1
 then (some true)
 else (Option.bind (a4E s 0) fun e2 =>
 Option.bind (first (e2.toNat:Int)) fun r3 =>
 some (!r3))) fun q4 =>
 bif q4
 then (some false)
 else (Option.bind (y9 (a7J s other) ((s.size:Int).toNat+1) 1) fun b8 =>
 j9 (fun _ =>
 some true) (fun y10 =>
 some y10) b8)
def a3z (c:Int):Option Bool :=
 Option.bind (bif decide (97<=c)
 then (some (decide (c<=122)))
 else (some false)) fun q1 =>
 some q1
def a4M (c:Int):Option Bool :=
 Option.bind (bif decide (48<=c)
 then (some (decide (c<=57)))
 else (some false)) fun q1 =>
 some q1
def a8F (c:Int):Option Bool :=
 Option.bind (a3z c) fun r1 =>
 Option.bind (bif r1
 then (some true)
 else (Option.bind (a4M c) fun r2 =>
 some r2)) fun q3 =>
 Option.bind (bif q3
 then (some true)
 else (some (c==95))) fun q4 =>
 some q4
def a4j (s:ByteArray):Option Bool :=
 Option.bind (a5z s (fun z1 =>
 Option.bind (a3z z1) fun r2 =>
 some r2) (fun z3 =>
 Option.bind (a8F z3) fun r4 =>
 some r4)) fun r5 =>
 some r5
def a4L (c:Int):Option Bool :=
 Option.bind (bif decide (65<=c)
 then (some (decide (c<=90)))
 else (some false)) fun q1 =>
 some q1
def a5v (c:Int):Option Bool :=
 Option.bind (a3z c) fun r1 =>
 Option.bind (bif r1
 then (some true)
 else (Option.bind (a4L c) fun r2 =>
 some r2)) fun q3 =>
 Option.bind (bif q3
 then (some true)
 else (Option.bind (a4M c) fun r4 =>
 some r4)) fun q5 =>
 Option.bind (bif q5
 then (some true)
 else (some (c==95))) fun q6 =>
 some q6
def a27 (s:ByteArray):Option Bool :=
 Option.bind (a5z s (fun z1 =>
 Option.bind (a4L z1) fun r2 =>
 some r2) (fun z3 =>
 Option.bind (a5v z3) fun r4 =>
 some r4)) fun r5 =>
 some r5
def a36 (k:Key):Option Bool :=
 bif k.Kind==0
 then (Option.bind (a4j k.Text) fun r1 =>
 some r1)
 else (bif k.Kind==1
 then (some (decide ((k.Text.size:Int)<=64)))
 else (some false))
def a6w (x:Int):Option Bool :=
 some (x != x)
def a0E (x:Int)(y:Int):Option Int :=
 Option.bind (a6w x) fun r1 =>
 Option.bind (a6w y) fun r2 =>
 bif r1
 then (bif r2
 then (some 0)
 else (some (-1)))
 else (bif r2
 then (some 1)
 else (bif decide (x<y)
 then (some (-1))
 else (bif decide (y<x)
 then (some 1)
 else (some 0))))
def a1L (a:ByteArray)(b:ByteArray):Option Int :=
 Option.bind (c4I a b) fun r1 =>
 some r1
def a1Q (a:ByteArray)(b:ByteArray):Option Int :=
 Option.bind (a1L a b) fun r1 =>
 some r1
def a11 (a:Key)(b:Key):Option Int :=
 Option.bind (a0E a.Kind b.Kind) fun r1 =>
 bif r1 != 0
 then (some r1)
 else (Option.bind (a1Q a.Text b.Text) fun r2 =>
 some r2)
def a16 (l:List Api_Field)(x1:Int):Option (Fl Int (Sum Unit Bool)) :=
 bif decide (x1<(l.length:Int))
 then (Option.bind (idx l x1) fun e2 =>
 Option.bind (a36 e2.Key_) fun r3 =>
 Option.bind (bif !r3
 then (some true)
 else (Option.bind (bif decide (0<x1)
 then (Option.bind (idx l (wr .i64 (x1-1))) fun e4 =>
 Option.bind (a11 e4.Key_ e2.Key_) fun r5 =>
 some (decide (0<=r5)))
 else (some false)) fun q6 =>
 some q6)) fun q7 =>
 bif q7
 then (some (.done (.inr false)))
 else (some (.next (wr .i64 (x1+1)))))
 else (some (.done (.inl ())))
def a2Q (l:List Api_Field):Option Bool :=
 Option.bind (y9 (a16 l) ((l.length:Int).toNat+1) 0) fun b8 =>
 j9 (fun _ =>
 some true) (fun y10 =>
 some y10) b8
def a3C (d:Api_TypeNode):Option Bool :=
 Option.bind (bif d.Kind==1
 then (some (d.Kind==1))
 else (bif d.Kind==2
 then (some (d.Kind==2))
 else (bif d.Kind==5
 then (some (d.Kind==5))
 else (bif d.Kind==7
 then (some (d.Kind==7))
 else (bif d.Kind==8
 then (some (d.Kind==8))
 else (bif d.Kind==9
 then (some (d.Kind==9))
 else (bif d.Kind==11
 then (some (d.Kind==11))
 else (some (d.Kind==15))))))))) fun b1 =>
 bif b1
 then (some true)
 else (bif d.Kind==3
 then (some (decide (d.Lo<=d.Hi)))
 else (bif d.Kind==4
 then (some (decide ((d.Text.size:Int)<=64)))
 else (bif d.Kind==6
 then (Option.bind (a4j d.Text) fun r2 =>
 some r2)
 else (bif d.Kind==19
 then (Option.bind (a27 d.Text) fun r3 =>
 some r3)
 else (bif d.Kind==10
 then (some (decide ((d.Kids.length:Int)<=4)))
 else (bif d.Kind==12
 then (some ((d.Kids.length:Int)==2))
 else (bif d.Kind==13
 then (Option.bind (a2Q d.Fields) fun r4 =>
 some r4)
 else (bif d.Kind==14
 then (Option.bind (bif decide (1<=(d.Kids.length:Int))
 then (some (decide ((d.Kids.length:Int)<=5)))
 else (some false)) fun q5 =>
 some q5)
 else (Option.bind (bif d.Kind==16
 then (some (d.Kind==16))
 else (some (d.Kind==17))) fun b6 =>
 bif b6
 then (some (decide (1<=(d.Kids.length:Int))))
 else (bif d.Kind==18
 then (some ((d.Kids.length:Int)==1))
 else (some false)))))))))))
def a1V (n_0:Api_TypeNode)(x2:(List Int)×Int):Option (Fl ((List Int)×Int) (List Int)) :=
 bif decide (x2.2<(n_0.Fields.length:Int))
 then (Option.bind (idx n_0.Fields x2.2) fun e3 =>
 Option.bind (Z1 (x2.1.length+([e3.Node]:List Int).length) 8) fun _ =>
 some (.next (x2.1++([e3.Node]:List Int),wr .i64 (x2.2+1))))
 else (some (.done x2.1))
def a5L (n_0:Api_TypeNode):Option (List Int) :=
 Option.bind (a0l 8 n_0.Kids) fun r1 =>
 Option.bind (y9 (a1V n_0) ((n_0.Fields.length:Int).toNat+1) (r1,0)) fun b5 =>
 bif n_0.Kind==13
 then (Option.bind (Z1 (b5.length+([n_0.Rest.1,n_0.Rest.2]:List Int).length) 8) fun _ =>
 some (b5++([n_0.Rest.1,n_0.Rest.2]:List Int)))
 else (some b5)
def a3G (kind:Int):Option Bool :=
 Option.bind (bif kind==16
 then (some true)
 else (some (kind==17))) fun q1 =>
 Option.bind (bif q1
 then (some true)
 else (some (kind==18))) fun q2 =>
 some q2
def Y7 (a2_2:Api_Type)(e10:Api_TypeNode)(rec_typeexpr_contractive_1:Int->(List Int)->Api_Type->Unit->Option (Bool×(List Int)))(x11:Int×(List Int)):Option (Fl (Int×(List Int)) (Sum (List Int) (Bool×(List Int)))) :=
 bif decide (x11.1<(e10.Kids.length:Int))
 then (Option.bind (idx e10.Kids x11.1) fun e12 =>
 Option.bind (rec_typeexpr_contractive_1 e12 x11.2 a2_2 ()) fun r13 =>
 bif !r13.1
 then (some (.done (.inr (false,r13.2))))
 else (some (.next (wr .i64 (x11.1+1),r13.2))))
 else (some (.done (.inl x11.2)))
def a3f (_:Nat)(rec_typeexpr_contractive_1:Int->(List Int)->Api_Type->Unit->Option (Bool×(List Int)))(i:Int)(a1_1:List Int)(a2_2:Api_Type)(_:Unit):Option (Bool×(List Int)) :=
 Option.bind (idx a1_1 i) fun _ =>
 Option.bind (a1_1[i.toNat]?) fun e2 =>
 Option.bind (bif e2 != 0
 then (some true)
 else (Option.bind (idx a2_2.Nodes i) fun e3 =>
 Option.bind (a3G e3.Kind) fun r4 =>
 some (!r4))) fun q5 =>
 bif q5
 then (Option.bind (idx a1_1 i) fun _ =>
 Option.bind (a1_1[i.toNat]?) fun e7 =>
 some (e7 != 1,a1_1))
 else (Option.bind (idx a1_1 i) fun _ =>
 Option.bind (a1_1[i.toNat]?) fun _ =>
 Option.bind (idx a2_2.Nodes i) fun e10 =>
 Option.bind (y9 (Y7 a2_2 e10 rec_typeexpr_contractive_1) ((e10.Kids.length:Int).toNat+1) (0,a1_1.set i.toNat 1)) fun (b14:Sum (List Int) (Bool×(List Int))) =>
 j9 (fun x15 =>
 Option.bind (idx x15 i) fun _ =>
 Option.bind (x15[i.toNat]?) fun _ =>
 some (true,x15.set i.toNat 2)) (fun y16 =>
 some (y16.1,y16.2)) b14)
def Q2:Nat->Int->(List Int)->Api_Type->Unit->Option (Bool×(List Int))
 | 0=>fun _ _ _ _=>none
 | n+1=>a3f n (Q2 n)
def Q3 (t:Api_Type)(n:Nat)(x2:Int×(List Int)):Option (Fl (Int×(List Int)) (Sum (List Int) (Bool×(List Int)))) :=
 bif decide (x2.1<(t.Nodes.length:Int))
 then (Option.bind (Q2 n x2.1 x2.2 t ()) fun r3 =>
 bif !r3.1
 then (some (.done (.inr (false,r3.2))))
 else (some (.next (wr .i64 (x2.1+1),r3.2))))
 else (some (.done (.inl x2.2)))
def a2N (n:Nat)(t:Api_Type):Option Bool :=
 Option.bind (a7y (t.Nodes.length:Int) (t.Nodes.length:Int) 8) fun m1 =>
 Option.bind (y9 (Q3 t n) ((t.Nodes.length:Int).toNat+1) (0,List.replicate m1 (0:Int))) fun (b4:Sum (List Int) (Bool×(List Int))) =>
 j9 (fun _ =>
 some true) (fun y6 =>
 some y6.1) b4
def a2l (t:Api_Type)(r7:List Int)(x8:Int):Option (Fl Int (Sum Unit Int)) :=
 bif decide (x8<(r7.length:Int))
 then (Option.bind (idx r7 x8) fun e9 =>
 Option.bind (bif decide (e9<0)
 then (some true)
 else (some (decide ((t.Nodes.length:Int)<=e9)))) fun q10 =>
 bif q10
 then (some (.done (.inr 1)))
 else (some (.next (wr .i64 (x8+1)))))
 else (some (.done (.inl ())))
def a2d (t:Api_Type)(x2:Int):Option (Fl Int (Sum Unit Int)) :=
 bif decide (x2<(t.Nodes.length:Int))
 then (Option.bind (idx t.Nodes x2) fun e3 =>
 Option.bind (a3F e3) fun r4 =>
 Option.bind (bif !r4
 then (some true)
 else (Option.bind (a3C e3) fun r5 =>
 some (!r5))) fun q6 =>
 bif q6
 then (some (.done (.inr 1)))
 else (Option.bind (a5L e3) fun r7 =>
 Option.bind (y9 (a2l t r7) ((r7.length:Int).toNat+1) 0) fun b11 =>
 j9 (fun _ =>
 some (.next (wr .i64 (x2+1)))) (fun y13 =>
 some (.done (.inr y13))) b11))
 else (some (.done (.inl ())))
def W2 (n:Nat)(t:Api_Type):Option Int :=
 Option.bind (bif decide (t.Root<0)
 then (some true)
 else (some (decide ((t.Nodes.length:Int)<=t.Root)))) fun q1 =>
 bif q1
 then (some 1)
 else (Option.bind (y9 (a2d t) ((t.Nodes.length:Int).toNat+1) 0) fun b14 =>
 j9 (fun _ =>
 Option.bind (a2N n t) fun r17 =>
 bif !r17
 then (some 3)
 else (some 0)) (fun y16 =>
 some y16) b14)
def a4f (t:Api_Type)(g:Api_Goal)(r1:List Int)(x3:Int):Option (Fl Int (Sum Unit Bool)) :=
 bif decide (x3<((r1++g.Neg).length:Int))
 then (Option.bind (idx (r1++g.Neg) x3) fun e4 =>
 Option.bind (bif decide (e4<0)
 then (some true)
 else (some (decide ((t.Nodes.length:Int)<=e4)))) fun q5 =>
 bif q5
 then (some (.done (.inr false)))
 else (some (.next (wr .i64 (x3+1)))))
 else (some (.done (.inl ())))
def a4U (t:Api_Type)(g:Api_Goal):Option Bool :=
 Option.bind (a0l 8 g.Pos) fun r1 =>
 Option.bind (Z1 (r1.length+g.Neg.length) 8) fun _ =>
 Option.bind (y9 (a4f t g r1) (((r1++g.Neg).length:Int).toNat+1) 0) fun b6 =>
 j9 (fun _ =>
 some true) (fun y8 =>
 some y8) b6
def b0j (x1:(List Int)×Int)(x16:(Int×Int)×List Int):Option (Fl ((Int×Int)×List Int) (Int×List Int)) :=
 bif decide (x16.1.2<((x16.2.drop x1.2.toNat).length:Int))
 then (Option.bind (idx (x16.2.drop x1.2.toNat) x16.1.2) fun _ =>
 Option.bind (x16.2[(x1.2.toNat+x16.1.2.toNat)]?) fun e18 =>
 Option.bind (idx (x16.2.drop x1.2.toNat) (wr .i64 (x16.1.2-1))) fun _ =>
 Option.bind (x16.2[(x1.2.toNat+(wr .i64 (x16.1.2-1)).toNat)]?) fun e20 =>
 bif e18 != e20
 then (Option.bind (idx (x16.2.drop x1.2.toNat) x16.1.2) fun _ =>
 Option.bind (x16.2[(x1.2.toNat+x16.1.2.toNat)]?) fun e22 =>
 Option.bind (idx x16.2 x16.1.1) fun _ =>
 Option.bind (x16.2[x16.1.1.toNat]?) fun _ =>
 some (.next ((wr .i64 (x16.1.1+1),wr .i64 (x16.1.2+1)),x16.2.set x16.1.1.toNat e22)))
 else (some (.next ((x16.1.1,wr .i64 (x16.1.2+1)),x16.2))))
 else (some (.done (x16.1.1,x16.2)))
def a95 (x1:(List Int)×Int):Option (Fl ((List Int)×Int) (Sum (List Int) (List Int))) :=
 bif decide (x1.2<(x1.1.length:Int))
 then (Option.bind (idx x1.1 x1.2) fun _ =>
 Option.bind (x1.1[x1.2.toNat]?) fun e3 =>
 Option.bind (idx x1.1 (wr .i64 (x1.2-1))) fun _ =>
 Option.bind (x1.1[(wr .i64 (x1.2-1)).toNat]?) fun e5 =>
 bif e3==e5
 then (Option.bind (idx x1.1 x1.2) fun _ =>
 Option.bind (y9 (b0j x1) (((x1.1.drop x1.2.toNat).length:Int).toNat+1) ((x1.2,1),x1.1)) fun b25 =>
 Option.bind (idx b25.2 b25.1) fun _ =>
 bif Nat.blt b25.1.toNat b25.2.length
 then (Option.bind (cut (b25.2.take b25.1.toNat++List.replicate (b25.2.length-b25.1.toNat) (0:Int)) 0 b25.1) fun y27 =>
 some (.done (.inr y27)))
 else (none))
 else (some (.next (x1.1,wr .i64 (x1.2+1)))))
 else (some (.done (.inl x1.1)))
def a6i (s:List Int):Option (List Int) :=
 bif decide ((s.length:Int)<2)
 then (some s)
 else (Option.bind (y9 a95 ((s.length:Int).toNat+1) (s,1)) fun b28 =>
 j9 (fun x29 =>
 some x29) (fun y30 =>
 some y30) b28)
def a71 (s:List Int):Option (List Int) :=
 bif (s.length:Int)==(s.length:Int)&&(s.length:Int)==(s.length:Int)
 then (some s)
 else (none)
def a6r (l:List Int):Option (List Int) :=
 Option.bind (a0l 8 l) fun r1 =>
 Option.bind (c6e r1) fun r2 =>
 Option.bind (a6i r2.2) fun r3 =>
 Option.bind (a71 r3) fun r4 =>
 some r4
def a7D (p:Core_pair):Option ((List Int)×(List Int)×(List Int)×(List Int)) :=
 Option.bind (a0l 8 p.pos) fun r1 =>
 Option.bind (a0l 8 p.neg) fun r2 =>
 Option.bind (a0l 8 p.finalPos) fun r3 =>
 Option.bind (a0l 8 p.finalNeg) fun r4 =>
 some (r1,r2,r3,r4)
def b5m (p:Core_pair)(kids:List Int)(positive:Bool)(x1:(List Core_pair)×Int):Option (Fl ((List Core_pair)×Int) (List Core_pair)) :=
 bif decide (x1.2<(kids.length:Int))
 then (Option.bind (idx kids x1.2) fun e2 =>
 Option.bind (a7D p) fun r3 =>
 Option.bind (bif positive
 then (Option.bind (Z1 (r3.1.length+([e2]:List Int).length) 8) fun _ =>
 some (r3.1++([e2]:List Int),r3.2.1,r3.2.2.1,r3.2.2.2))
 else (Option.bind (Z1 (r3.2.1.length+([e2]:List Int).length) 8) fun _ =>
 some (r3.1,r3.2.1++([e2]:List Int),r3.2.2.1,r3.2.2.2))) fun b6 =>
 Option.bind (Z1 (x1.1.length+([Core_pair.mk b6.1 b6.2.1 b6.2.2.1 b6.2.2.2]:List Core_pair).length) 96) fun _ =>
 some (.next (x1.1++([Core_pair.mk b6.1 b6.2.1 b6.2.2.1 b6.2.2.2]:List Core_pair),wr .i64 (x1.2+1))))
 else (some (.done x1.1))
def a58 (p:Core_pair)(kids:List Int)(positive:Bool):Option (List Core_pair) :=
 Option.bind (y9 (b5m p kids positive) ((kids.length:Int).toNat+1) ([],0)) fun b8 =>
 some b8
def a9V (d:(List Int)×(List Int)×(List Int)×(List Int))(t:Api_Type):Option (List Core_pair) :=
 bif decide (0<=(wr .i64 ((d.1.length:Int)-1)))
 then (Option.bind (idx d.1 (wr .i64 ((d.1.length:Int)-1))) fun _ =>
 Option.bind (d.1[(wr .i64 ((d.1.length:Int)-1)).toNat]?) fun e2 =>
 Option.bind (idx t.Nodes e2) fun e3 =>
 Option.bind (cut d.1 0 (wr .i64 ((d.1.length:Int)-1))) fun y4 =>
 Option.bind (bif e3.Kind==2
 then (some (.inl (y4,d.2.1,d.2.2.1,d.2.2.2)))
 else (bif e3.Kind==1
 then (some (.inr ([],(y4,d.2.1,d.2.2.1,d.2.2.2))))
 else (bif e3.Kind==17
 then (Option.bind (Z1 (y4.length+e3.Kids.length) 8) fun _ =>
 some (.inl (y4++e3.Kids,d.2.1,d.2.2.1,d.2.2.2)))
 else (bif e3.Kind==18
 then (Option.bind (idx e3.Kids 0) fun e6 =>
 Option.bind (Z1 (d.2.1.length+([e6]:List Int).length) 8) fun _ =>
 some (.inl (y4,d.2.1++([e6]:List Int),d.2.2.1,d.2.2.2)))
 else (bif e3.Kind==16
 then (Option.bind (a58 (Core_pair.mk y4 d.2.1 d.2.2.1 d.2.2.2) e3.Kids true) fun r8 =>
 some (.inr (r8,(y4,d.2.1,d.2.2.1,d.2.2.2))))
 else (Option.bind (Z1 (d.2.2.1.length+([e2]:List Int).length) 8) fun _ =>
 some (.inl (y4,d.2.1,d.2.2.1++([e2]:List Int),d.2.2.2)))))))) fun b10 =>
 j9 (fun x11 =>
 some ([Core_pair.mk x11.1 x11.2.1 x11.2.2.1 x11.2.2.2]:List Core_pair)) (fun y12 =>
 some y12.1) b10)
 else (Option.bind (idx d.2.1 (wr .i64 ((d.2.1.length:Int)-1))) fun _ =>
 Option.bind (d.2.1[(wr .i64 ((d.2.1.length:Int)-1)).toNat]?) fun e14 =>
 Option.bind (idx t.Nodes e14) fun e15 =>
 Option.bind (cut d.2.1 0 (wr .i64 ((d.2.1.length:Int)-1))) fun y16 =>
 Option.bind (bif e15.Kind==1
 then (some (.inl (d.1,y16,d.2.2.1,d.2.2.2)))
 else (bif e15.Kind==2
 then (some (.inr ([],(d.1,y16,d.2.2.1,d.2.2.2))))
 else (bif e15.Kind==16
 then (Option.bind (Z1 (y16.length+e15.Kids.length) 8) fun _ =>
 some (.inl (d.1,y16++e15.Kids,d.2.2.1,d.2.2.2)))
 else (bif e15.Kind==18
 then (Option.bind (idx e15.Kids 0) fun e18 =>
 Option.bind (Z1 (d.1.length+([e18]:List Int).length) 8) fun _ =>
 some (.inl (d.1++([e18]:List Int),y16,d.2.2.1,d.2.2.2)))
 else (bif e15.Kind==17
 then (Option.bind (a58 (Core_pair.mk d.1 y16 d.2.2.1 d.2.2.2) e15.Kids false) fun r20 =>
 some (.inr (r20,(d.1,y16,d.2.2.1,d.2.2.2))))
 else (Option.bind (Z1 (d.2.2.2.length+([e14]:List Int).length) 8) fun _ =>
 some (.inl (d.1,y16,d.2.2.1,d.2.2.2++([e14]:List Int))))))))) fun b22 =>
 j9 (fun x23 =>
 some ([Core_pair.mk x23.1 x23.2.1 x23.2.2.1 x23.2.2.2]:List Core_pair)) (fun y24 =>
 some y24.1) b22)
def a8O (g:Api_Goal):Option Api_Goal :=
 Option.bind (a6r g.Pos) fun r1 =>
 Option.bind (a6r g.Neg) fun r2 =>
 some (Api_Goal.mk r1 r2 g.Lists)
def c2t (g:Api_Goal):Option ByteArray:=Option.bind (a8O g) fun g=>Option.bind (b1j 43 g.Pos (bif g.Lists then [108] else [])) fun b=>Option.bind (b1j 45 g.Neg b) fun b=>some ⟨b.toArray⟩
def b7r (d:Api_Type)(t:Api_Goal)(x3:(List Core_pair)×(List (ByteArray×Bool))×(List Api_Goal)):Option (Fl ((List Core_pair)×(List (ByteArray×Bool))×(List Api_Goal)) ((List (ByteArray×Bool))×(List Api_Goal))) :=
 bif decide (0<(x3.1.length:Int))
 then (Option.bind (idx x3.1 (wr .i64 ((x3.1.length:Int)-1))) fun _ =>
 Option.bind (x3.1[(wr .i64 ((x3.1.length:Int)-1)).toNat]?) fun e5 =>
 Option.bind (a7D e5) fun r6 =>
 Option.bind (cut x3.1 0 (wr .i64 ((x3.1.length:Int)-1))) fun y7 =>
 bif decide (0<(wr .i64 ((r6.1.length:Int)+(r6.2.1.length:Int))))
 then (Option.bind (a9V (r6.1,r6.2.1,r6.2.2.1,r6.2.2.2) d) fun r8 =>
 Option.bind (Z1 (y7.length+r8.length) 96) fun _ =>
 some (.next (y7++r8,x3.2.1,x3.2.2)))
 else (Option.bind (a8O (Api_Goal.mk r6.2.2.1 r6.2.2.2 t.Lists)) fun r10 =>
 Option.bind (c2t r10) fun r11 =>
 bif !((a8J x3.2.1 r11).getD false)
 then (Option.bind (Z1 (x3.2.2.length+([r10]:List Api_Goal).length) 56) fun _ =>
 some (.next (y7,a9C x3.2.1 r11 true,x3.2.2++([r10]:List Api_Goal))))
 else (some (.next (y7,x3.2.1,x3.2.2)))))
 else (some (.done (x3.2.1,x3.2.2)))
def b2a (n:Nat)(d:Api_Type)(t:Api_Goal):Option (List Api_Goal) :=
 Option.bind (a6r t.Pos) fun r1 =>
 Option.bind (a6r t.Neg) fun r2 =>
 Option.bind (y9 (b7r d t) n (([Core_pair.mk r1 r2 ([]:List Int) ([]:List Int)]:List Core_pair),([]:List (ByteArray×Bool)),[])) fun b13 =>
 some b13.2
def a68 (x1:(List ByteArray)×Int)(x16:(Int×Int)×List ByteArray):Option (Fl ((Int×Int)×List ByteArray) (Int×List ByteArray)) :=
 bif decide (x16.1.2<((x16.2.drop x1.2.toNat).length:Int))
 then (Option.bind (idx (x16.2.drop x1.2.toNat) x16.1.2) fun _ =>
 Option.bind (x16.2[(x1.2.toNat+x16.1.2.toNat)]?) fun e18 =>
 Option.bind (idx (x16.2.drop x1.2.toNat) (wr .i64 (x16.1.2-1))) fun _ =>
 Option.bind (x16.2[(x1.2.toNat+(wr .i64 (x16.1.2-1)).toNat)]?) fun e20 =>
 bif !(J5 e18 e20)
 then (Option.bind (idx (x16.2.drop x1.2.toNat) x16.1.2) fun _ =>
 Option.bind (x16.2[(x1.2.toNat+x16.1.2.toNat)]?) fun e22 =>
 Option.bind (idx x16.2 x16.1.1) fun _ =>
 Option.bind (x16.2[x16.1.1.toNat]?) fun _ =>
 some (.next ((wr .i64 (x16.1.1+1),wr .i64 (x16.1.2+1)),x16.2.set x16.1.1.toNat e22)))
 else (some (.next ((x16.1.1,wr .i64 (x16.1.2+1)),x16.2))))
 else (some (.done (x16.1.1,x16.2)))
def a61 (x1:(List ByteArray)×Int):Option (Fl ((List ByteArray)×Int) (Sum (List ByteArray) (List ByteArray))) :=
 bif decide (x1.2<(x1.1.length:Int))
 then (Option.bind (idx x1.1 x1.2) fun _ =>
 Option.bind (x1.1[x1.2.toNat]?) fun e3 =>
 Option.bind (idx x1.1 (wr .i64 (x1.2-1))) fun _ =>
 Option.bind (x1.1[(wr .i64 (x1.2-1)).toNat]?) fun e5 =>
 bif J5 e3 e5
 then (Option.bind (idx x1.1 x1.2) fun _ =>
 Option.bind (y9 (a68 x1) (((x1.1.drop x1.2.toNat).length:Int).toNat+1) ((x1.2,1),x1.1)) fun b25 =>
 Option.bind (idx b25.2 b25.1) fun _ =>
 bif Nat.blt b25.1.toNat b25.2.length
 then (Option.bind (cut (b25.2.take b25.1.toNat++List.replicate (b25.2.length-b25.1.toNat) ((⟨#[]⟩:ByteArray):ByteArray)) 0 b25.1) fun y27 =>
 some (.done (.inr y27)))
 else (none))
 else (some (.next (x1.1,wr .i64 (x1.2+1)))))
 else (some (.done (.inl x1.1)))
def a0V (s:List ByteArray):Option (List ByteArray) :=
 bif decide ((s.length:Int)<2)
 then (some s)
 else (Option.bind (y9 a61 ((s.length:Int).toNat+1) (s,1)) fun b28 =>
 j9 (fun x29 =>
 some x29) (fun y30 =>
 some y30) b28)
def a1D (s:List ByteArray):Option (List ByteArray) :=
 bif (s.length:Int)==(s.length:Int)&&(s.length:Int)==(s.length:Int)
 then (some s)
 else (none)
def c2Z (t:Api_Type)(nodes:List Int)(x1:(List ByteArray)×Int):Option (Fl ((List ByteArray)×Int) (List ByteArray)) :=
 bif decide (x1.2<(nodes.length:Int))
 then (Option.bind (idx nodes x1.2) fun e2 =>
 Option.bind (idx t.Nodes e2) fun e3 =>
 bif e3.Kind==19
 then (Option.bind (idx t.Nodes e2) fun e4 =>
 Option.bind (Z1 (x1.1.length+([e4.Text]:List ByteArray).length) 16) fun _ =>
 some (.next (x1.1++([e4.Text]:List ByteArray),wr .i64 (x1.2+1))))
 else (some (.next (x1.1,wr .i64 (x1.2+1)))))
 else (some (.done x1.1))
def b5q (t:Api_Type)(nodes:List Int):Option (List ByteArray) :=
 Option.bind (y9 (c2Z t nodes) ((nodes.length:Int).toNat+1) ([],0)) fun b6 =>
 Option.bind (b8K b6) fun r7 =>
 Option.bind (a0V r7.2) fun r8 =>
 Option.bind (a1D r8) fun r9 =>
 some r9
def a82 (s:List Int)(f:Int->Option Bool)(x1:Int):Option (Fl Int (Sum Unit Int)) :=
 bif decide (x1<(s.length:Int))
 then (Option.bind (idx s x1) fun e2 =>
 Option.bind (f e2) fun r3 =>
 bif r3
 then (some (.done (.inr x1)))
 else (some (.next (wr .i64 (x1+1)))))
 else (some (.done (.inl ())))
def a5D (s:List Int)(f:Int->Option Bool):Option Int :=
 Option.bind (y9 (a82 s f) ((s.length:Int).toNat+1) 0) fun b4 =>
 j9 (fun _ =>
 some (-1)) (fun y6 =>
 some y6) b4
def J7 (s:List Int)(f:Int->Option Bool):Option Bool :=
 Option.bind (a5D s f) fun r1 =>
 some (decide (0<=r1))
def b1R (s:List Int)(v:Int)(x1:Int):Option (Fl Int (Sum Unit Int)) :=
 bif decide (x1<(s.length:Int))
 then (Option.bind (idx s x1) fun e2 =>
 bif v==e2
 then (some (.done (.inr x1)))
 else (some (.next (wr .i64 (x1+1)))))
 else (some (.done (.inl ())))
def a7u (s:List Int)(v:Int):Option Int :=
 Option.bind (y9 (b1R s v) ((s.length:Int).toNat+1) 0) fun b3 =>
 j9 (fun _ =>
 some (-1)) (fun y5 =>
 some y5) b3
def a56 (s:List Int)(v:Int):Option Bool :=
 Option.bind (a7u s v) fun r1 =>
 some (decide (0<=r1))
def b2c (x:Int)(a1_1:List Int):Option Bool :=
 Option.bind (a56 a1_1 x) fun r1 =>
 some r1
def a9G (a:List Int)(b:List Int):Option Bool :=
 Option.bind (J7 a (fun z1 =>
 Option.bind (b2c z1 b) fun r2 =>
 some r2)) fun r3 =>
 some r3
def a6l (s:List ByteArray)(f:ByteArray->Option Bool)(x1:Int):Option (Fl Int (Sum Unit Int)) :=
 bif decide (x1<(s.length:Int))
 then (Option.bind (idx s x1) fun e2 =>
 Option.bind (f e2) fun r3 =>
 bif r3
 then (some (.done (.inr x1)))
 else (some (.next (wr .i64 (x1+1)))))
 else (some (.done (.inl ())))
def a3O (s:List ByteArray)(f:ByteArray->Option Bool):Option Int :=
 Option.bind (y9 (a6l s f) ((s.length:Int).toNat+1) 0) fun b4 =>
 j9 (fun _ =>
 some (-1)) (fun y6 =>
 some y6) b4
def a2X (s:List ByteArray)(f:ByteArray->Option Bool):Option Bool :=
 Option.bind (a3O s f) fun r1 =>
 some (decide (0<=r1))
def a7V (s:List ByteArray)(v:ByteArray)(x1:Int):Option (Fl Int (Sum Unit Int)) :=
 bif decide (x1<(s.length:Int))
 then (Option.bind (idx s x1) fun e2 =>
 bif J5 v e2
 then (some (.done (.inr x1)))
 else (some (.next (wr .i64 (x1+1)))))
 else (some (.done (.inl ())))
def a4Q (s:List ByteArray)(v:ByteArray):Option Int :=
 Option.bind (y9 (a7V s v) ((s.length:Int).toNat+1) 0) fun b3 =>
 j9 (fun _ =>
 some (-1)) (fun y5 =>
 some y5) b3
def a13 (s:List ByteArray)(v:ByteArray):Option Bool :=
 Option.bind (a4Q s v) fun r1 =>
 some (decide (0<=r1))
def a86 (x:ByteArray)(a1_1:List ByteArray):Option Bool :=
 Option.bind (a13 a1_1 x) fun r1 =>
 some r1
def b0I (a:List ByteArray)(b:List ByteArray):Option Bool :=
 Option.bind (a2X a (fun z1 =>
 Option.bind (a86 z1 b) fun r2 =>
 some r2)) fun r3 =>
 some r3
def c3v (x1:(List Core_Sort)×Int):Option (Fl ((List Core_Sort)×Int) (List Core_Sort)) :=
 bif decide (x1.2<=4)
 then (Option.bind (Z1 (x1.1.length+([Core_Sort.mk 6 x1.2,Core_Sort.mk 9 x1.2]:List Core_Sort).length) 16) fun _ =>
 some (.next (x1.1++([Core_Sort.mk 6 x1.2,Core_Sort.mk 9 x1.2]:List Core_Sort),wr .i64 (x1.2+1))))
 else (some (.done x1.1))
def c1p:Option (List Core_Sort) :=
 Option.bind (y9 c3v ((4:Int).toNat+2) (([Core_Sort.mk 1 0,Core_Sort.mk 2 0,Core_Sort.mk 3 0,Core_Sort.mk 4 0,Core_Sort.mk 5 0,Core_Sort.mk 7 0,Core_Sort.mk 8 0]:List Core_Sort),0)) fun b3 =>
 some b3
def a8c (d:Core_Sort)(t:Api_TypeNode):Option Bool :=
 bif t.Kind==3
 then (some (d.Kind==1))
 else (Option.bind (bif t.Kind==4
 then (some (t.Kind==4))
 else (some (t.Kind==5))) fun b1 =>
 bif b1
 then (some (d.Kind==2))
 else (Option.bind (bif t.Kind==6
 then (some (t.Kind==6))
 else (some (t.Kind==7))) fun b2 =>
 bif b2
 then (some (d.Kind==3))
 else (bif t.Kind==8
 then (some (d.Kind==4))
 else (bif t.Kind==9
 then (some (d.Kind==5))
 else (bif t.Kind==12
 then (some (d.Kind==7))
 else (bif t.Kind==13
 then (some (d.Kind==8))
 else (bif t.Kind==11
 then (some (d.Kind==6))
 else (bif t.Kind==10
 then (Option.bind (bif d.Kind==6
 then (some (d.Arity==(t.Kids.length:Int)))
 else (some false)) fun q3 =>
 some q3)
 else (bif t.Kind==15
 then (some (d.Kind==9))
 else (bif t.Kind==14
 then (Option.bind (bif d.Kind==9
 then (some (d.Arity==(wr .i64 ((t.Kids.length:Int)-1))))
 else (some false)) fun q4 =>
 some q4)
 else (some false)))))))))))
def b0W (i:Int)(a1_1:Api_Type)(a2_2:Core_Sort):Option Bool :=
 Option.bind (idx a1_1.Nodes i) fun e1 =>
 Option.bind (bif e1.Kind != 19
 then (Option.bind (idx a1_1.Nodes i) fun e2 =>
 Option.bind (a8c a2_2 e2) fun r3 =>
 some (!r3))
 else (some false)) fun q4 =>
 some q4
def b4r (s:Core_Sort)(t:Api_Type)(e:Api_Goal):Option Bool :=
 Option.bind (bif e.Lists
 then (some (s.Kind != 5))
 else (some false)) fun q1 =>
 Option.bind (bif q1
 then (some (s.Kind != 7))
 else (some false)) fun q2 =>
 bif q2
 then (some false)
 else (Option.bind (J7 e.Pos (fun z3 =>
 Option.bind (b0W z3 t s) fun r4 =>
 some r4)) fun r5 =>
 some (!r5))
def b6g:Option (List Api_Range) :=
 some ([Api_Range.mk (-9223372036854775808) 9223372036854775807]:List Api_Range)
def a7E (x:Int):Option Bool :=
 some (x != x)
def a6e (x:Int)(y:Int):Option Int :=
 Option.bind (a7E x) fun r1 =>
 Option.bind (a7E y) fun r2 =>
 bif r1
 then (bif r2
 then (some 0)
 else (some (-1)))
 else (bif r2
 then (some 1)
 else (bif decide (x<y)
 then (some (-1))
 else (bif decide (y<x)
 then (some 1)
 else (some 0))))
def a7d (a:Api_Range)(b:Api_Range):Option Int :=
 Option.bind (a6e a.Lo b.Lo) fun r1 =>
 some r1
noncomputable def b35 (d:List Api_Range)(x1:(List Api_Range)×Int):Option (Fl ((List Api_Range)×Int) (List Api_Range)) :=
 bif decide (x1.2<(d.length:Int))
 then (Option.bind (idx d x1.2) fun e2 =>
 bif decide (e2.Lo<=e2.Hi)
 then (Option.bind (Z1 (x1.1.length+([e2]:List Api_Range).length) 16) fun _ =>
 some (.next (x1.1++([e2]:List Api_Range),wr .i64 (x1.2+1))))
 else (some (.next (x1.1,wr .i64 (x1.2+1)))))
 else (some (.done x1.1))
noncomputable def b3T (r8:Unit×List Api_Range)(x9:(List Api_Range)×(List Api_Range)×Int):Option (Fl ((List Api_Range)×(List Api_Range)×Int) ((List Api_Range)×(List Api_Range))) :=
 bif decide (x9.2.2<(r8.2.length:Int))
 then (Option.bind (idx x9.2.1 x9.2.2) fun _ =>
 Option.bind (x9.2.1[x9.2.2.toNat]?) fun e11 =>
 Option.bind (bif decide (0<=(wr .i64 ((x9.1.length:Int)-1)))
 then (Option.bind (idx x9.1 (wr .i64 ((x9.1.length:Int)-1))) fun _ =>
 Option.bind (x9.1[(wr .i64 ((x9.1.length:Int)-1)).toNat]?) fun e13 =>
 Option.bind (bif e13.Hi==9223372036854775807
 then (some true)
 else (Option.bind (idx x9.1 (wr .i64 ((x9.1.length:Int)-1))) fun _ =>
 Option.bind (x9.1[(wr .i64 ((x9.1.length:Int)-1)).toNat]?) fun e15 =>
 some (decide (e11.Lo<=(wr .i64 (e15.Hi+1)))))) fun q16 =>
 some q16)
 else (some false)) fun q17 =>
 bif q17
 then (Option.bind (idx x9.1 (wr .i64 ((x9.1.length:Int)-1))) fun _ =>
 Option.bind (x9.1[(wr .i64 ((x9.1.length:Int)-1)).toNat]?) fun e19 =>
 Option.bind (idx x9.1 (wr .i64 ((x9.1.length:Int)-1))) fun _ =>
 Option.bind (x9.1[(wr .i64 ((x9.1.length:Int)-1)).toNat]?) fun e21 =>
 some (.next (x9.1.set ((wr .i64 ((x9.1.length:Int)-1)).toNat) (Api_Range.mk e21.Lo (max e19.Hi e11.Hi)),x9.2.1,wr .i64 (x9.2.2+1))))
 else (Option.bind (Z1 (x9.1.length+([e11]:List Api_Range).length) 16) fun _ =>
 some (.next (x9.1++([e11]:List Api_Range),x9.2.1,wr .i64 (x9.2.2+1)))))
 else (some (.done (x9.1,x9.2.1)))
noncomputable def a2n (d:List Api_Range):Option (List Api_Range) :=
 Option.bind (y9 (b35 d) ((d.length:Int).toNat+1) ([],0)) fun b4 =>
 Option.bind (c0P b4 (fun z5 z6 =>
 Option.bind (a7d z5 z6) fun r7 =>
 some r7)) fun r8 =>
 Option.bind (y9 (b3T r8) ((r8.2.length:Int).toNat+1) ([],r8.2,0)) fun b23 =>
 some b23.1
noncomputable def b4T (e3:Api_Range)(r4:List Api_Range)(x5:(List Api_Range)×Int):Option (Fl ((List Api_Range)×Int) (List Api_Range)) :=
 bif decide (x5.2<(r4.length:Int))
 then (Option.bind (idx r4 x5.2) fun e6 =>
 Option.bind (Z1 (x5.1.length+([Api_Range.mk (max e3.Lo e6.Lo) (min e3.Hi e6.Hi)]:List Api_Range).length) 16) fun _ =>
 some (.next (x5.1++([Api_Range.mk (max e3.Lo e6.Lo) (min e3.Hi e6.Hi)]:List Api_Range),wr .i64 (x5.2+1))))
 else (some (.done x5.1))
noncomputable def b3Q (b:List Api_Range)(r1:List Api_Range)(x2:(List Api_Range)×Int):Option (Fl ((List Api_Range)×Int) (List Api_Range)) :=
 bif decide (x2.2<(r1.length:Int))
 then (Option.bind (idx r1 x2.2) fun e3 =>
 Option.bind (a2n b) fun r4 =>
 Option.bind (y9 (b4T e3 r4) ((r4.length:Int).toNat+1) (x2.1,0)) fun b8 =>
 some (.next (b8,wr .i64 (x2.2+1))))
 else (some (.done x2.1))
noncomputable def a5B (a:List Api_Range)(b:List Api_Range):Option (List Api_Range) :=
 Option.bind (a2n a) fun r1 =>
 Option.bind (y9 (b3Q b r1) ((r1.length:Int).toNat+1) ([],0)) fun b9 =>
 Option.bind (a2n b9) fun r10 =>
 some r10
noncomputable def b3s (r1:List Api_Range)(x2:(List Api_Range)×Int×Int):Option (Fl ((List Api_Range)×Int×Int) (Sum ((List Api_Range)×Int) (List Api_Range))) :=
 bif decide (x2.2.2<(r1.length:Int))
 then (Option.bind (idx r1 x2.2.2) fun e3 =>
 Option.bind (bif decide (x2.2.1<e3.Lo)
 then (Option.bind (Z1 (x2.1.length+([Api_Range.mk x2.2.1 (wr .i64 (e3.Lo-1))]:List Api_Range).length) 16) fun _ =>
 some (x2.1++([Api_Range.mk x2.2.1 (wr .i64 (e3.Lo-1))]:List Api_Range)))
 else (some x2.1)) fun b5 =>
 bif e3.Hi==9223372036854775807
 then (some (.done (.inr b5)))
 else (some (.next (b5,wr .i64 (e3.Hi+1),wr .i64 (x2.2.2+1)))))
 else (some (.done (.inl (x2.1,x2.2.1))))
noncomputable def a73 (a:List Api_Range):Option (List Api_Range) :=
 Option.bind (a2n a) fun r1 =>
 Option.bind (y9 (b3s r1) ((r1.length:Int).toNat+1) ([],(-9223372036854775808),0)) fun b6 =>
 j9 (fun x7 =>
 Option.bind (Z1 (x7.1.length+([Api_Range.mk x7.2 9223372036854775807]:List Api_Range).length) 16) fun _ =>
 some (x7.1++([Api_Range.mk x7.2 9223372036854775807]:List Api_Range))) (fun y8 =>
 some y8) b6
noncomputable def c29 (t:Api_Type)(e:Api_Goal)(x2:(List Api_Range)×Int):Option (Fl ((List Api_Range)×Int) (List Api_Range)) :=
 bif decide (x2.2<(e.Pos.length:Int))
 then (Option.bind (idx e.Pos x2.2) fun e3 =>
 Option.bind (idx t.Nodes e3) fun e4 =>
 bif e4.Kind==3
 then (Option.bind (a5B x2.1 ([Api_Range.mk e4.Lo e4.Hi]:List Api_Range)) fun r5 =>
 some (.next (r5,wr .i64 (x2.2+1))))
 else (some (.next (x2.1,wr .i64 (x2.2+1)))))
 else (some (.done x2.1))
noncomputable def c3c (t:Api_Type)(e:Api_Goal)(x7:(List Api_Range)×Int):Option (Fl ((List Api_Range)×Int) (List Api_Range)) :=
 bif decide (x7.2<(e.Neg.length:Int))
 then (Option.bind (idx e.Neg x7.2) fun e8 =>
 Option.bind (idx t.Nodes e8) fun e9 =>
 bif e9.Kind==3
 then (Option.bind (a73 ([Api_Range.mk e9.Lo e9.Hi]:List Api_Range)) fun r10 =>
 Option.bind (a5B x7.1 r10) fun r11 =>
 some (.next (r11,wr .i64 (x7.2+1))))
 else (some (.next (x7.1,wr .i64 (x7.2+1)))))
 else (some (.done x7.1))
noncomputable def c0W (t:Api_Type)(e:Api_Goal):Option (List Api_Range) :=
 Option.bind (b6g) fun r1 =>
 Option.bind (y9 (c29 t e) ((e.Pos.length:Int).toNat+1) (r1,0)) fun b6 =>
 Option.bind (y9 (c3c t e) ((e.Neg.length:Int).toNat+1) (b6,0)) fun b12 =>
 some b12
def a2p (s:Api_Names):Option Literals_normal :=
 Option.bind (a0l 16 s.List_) fun r1 =>
 Option.bind (b8K r1) fun r2 =>
 Option.bind (a0V r2.2) fun r3 =>
 Option.bind (a1D r3) fun r4 =>
 some (Literals_normal.mk (Api_Names.mk s.Cofinite r4))
def a3V (l:List ByteArray):Option Api_Names :=
 Option.bind (a2p (Api_Names.mk true l)) fun r1 =>
 some r1.Names
def a3D (l:List ByteArray):Option Api_Names :=
 Option.bind (a2p (Api_Names.mk false l)) fun r1 =>
 some r1.Names
def a7F (n_0:Literals_normal)(other:Literals_normal):Option (List ByteArray) :=
 Option.bind (a0l 16 n_0.Names.List_) fun r1 =>
 Option.bind (Z1 (r1.length+other.Names.List_.length) 16) fun _ =>
 some (r1++other.Names.List_)
def a6B (x:ByteArray):Option Bool :=
 some (!(J5 x x))
def b2l (x:ByteArray)(y:ByteArray):Option Bool :=
 Option.bind (a6B x) fun r1 =>
 Option.bind (bif r1
 then (Option.bind (a6B y) fun r2 =>
 some (!r2))
 else (some false)) fun q3 =>
 Option.bind (bif q3
 then (some true)
 else (some (a1U x y))) fun q4 =>
 some q4
def a4X (x:ByteArray):Option Bool :=
 some (!(J5 x x))
def a5k (x:List ByteArray)(target:ByteArray)(x1:Int×Int):Option (Fl (Int×Int) Int) :=
 bif decide (x1.1<x1.2)
 then (Option.bind (c4K .u64 (wr .u64 (wr .i64 (x1.1+x1.2))) 1) fun d2 =>
 Option.bind (idx x (wr .i64 d2)) fun e3 =>
 Option.bind (b2l e3 target) fun r4 =>
 bif r4
 then (some (.next (wr .i64 ((wr .i64 d2)+1),x1.2)))
 else (some (.next (x1.1,wr .i64 d2))))
 else (some (.done x1.1))
def a2W (n:Nat)(x:List ByteArray)(target:ByteArray):Option (Int×Bool) :=
 Option.bind (y9 (a5k x target) n (0,(x.length:Int))) fun b5 =>
 Option.bind (bif decide (b5<(x.length:Int))
 then (Option.bind (idx x b5) fun e6 =>
 Option.bind (bif J5 e6 target
 then (some true)
 else (Option.bind (idx x b5) fun e7 =>
 Option.bind (a4X e7) fun r8 =>
 Option.bind (bif r8
 then (Option.bind (a4X target) fun r9 =>
 some r9)
 else (some false)) fun q10 =>
 some q10)) fun q11 =>
 some q11)
 else (some false)) fun q12 =>
 some (b5,q12)
def a40 (n:Nat)(n_0:Literals_normal)(name:ByteArray):Option Bool :=
 Option.bind (a2W n n_0.Names.List_ name) fun r1 =>
 some r1.2
def b02 (n_0:Literals_normal)(other:Literals_normal)(n:Nat)(x1:(List ByteArray)×Int):Option (Fl ((List ByteArray)×Int) (List ByteArray)) :=
 bif decide (x1.2<(n_0.Names.List_.length:Int))
 then (Option.bind (idx n_0.Names.List_ x1.2) fun e2 =>
 Option.bind (a40 n other e2) fun r3 =>
 bif !r3
 then (Option.bind (Z1 (x1.1.length+([e2]:List ByteArray).length) 16) fun _ =>
 some (.next (x1.1++([e2]:List ByteArray),wr .i64 (x1.2+1))))
 else (some (.next (x1.1,wr .i64 (x1.2+1)))))
 else (some (.done x1.1))
def a30 (n:Nat)(n_0:Literals_normal)(other:Literals_normal):Option (List ByteArray) :=
 Option.bind (y9 (b02 n_0 other n) ((n_0.Names.List_.length:Int).toNat+1) ([],0)) fun b5 =>
 some b5
def b3U (r1:Literals_normal)(r2:Literals_normal)(n:Nat)(x10:(List ByteArray)×Int):Option (Fl ((List ByteArray)×Int) (List ByteArray)) :=
 bif decide (x10.2<(r1.Names.List_.length:Int))
 then (Option.bind (idx r1.Names.List_ x10.2) fun e11 =>
 Option.bind (a40 n r2 e11) fun r12 =>
 bif r12
 then (Option.bind (Z1 (x10.1.length+([e11]:List ByteArray).length) 16) fun _ =>
 some (.next (x10.1++([e11]:List ByteArray),wr .i64 (x10.2+1))))
 else (some (.next (x10.1,wr .i64 (x10.2+1)))))
 else (some (.done x10.1))
def a5i (n:Nat)(a:Api_Names)(b:Api_Names):Option Api_Names :=
 Option.bind (a2p a) fun r1 =>
 Option.bind (a2p b) fun r2 =>
 Option.bind (bif r1.Names.Cofinite
 then (some r2.Names.Cofinite)
 else (some false)) fun q3 =>
 bif q3
 then (Option.bind (a7F r1 r2) fun r4 =>
 Option.bind (a3V r4) fun r5 =>
 some r5)
 else (bif r1.Names.Cofinite
 then (Option.bind (a30 n r2 r1) fun r6 =>
 Option.bind (a3D r6) fun r7 =>
 some r7)
 else (bif r2.Names.Cofinite
 then (Option.bind (a30 n r1 r2) fun r8 =>
 Option.bind (a3D r8) fun r9 =>
 some r9)
 else (Option.bind (y9 (b3U r1 r2 n) ((r1.Names.List_.length:Int).toNat+1) ([],0)) fun b14 =>
 Option.bind (a3D b14) fun r15 =>
 some r15)))
def c12 (t:Api_Type)(e:Api_Goal)(kind:Int)(n:Nat)(x2:Int×Api_Names):Option (Fl (Int×Api_Names) Api_Names) :=
 bif decide (x2.1<(e.Pos.length:Int))
 then (Option.bind (idx e.Pos x2.1) fun e3 =>
 Option.bind (idx t.Nodes e3) fun e4 =>
 bif e4.Kind==kind
 then (Option.bind (a3D ([e4.Text]:List ByteArray)) fun r5 =>
 Option.bind (a5i n x2.2 r5) fun r6 =>
 some (.next (wr .i64 (x2.1+1),r6)))
 else (some (.next (wr .i64 (x2.1+1),x2.2))))
 else (some (.done x2.2))
def c1V (t:Api_Type)(e:Api_Goal)(kind:Int)(n:Nat)(x8:Int×Api_Names):Option (Fl (Int×Api_Names) Api_Names) :=
 bif decide (x8.1<(e.Neg.length:Int))
 then (Option.bind (idx e.Neg x8.1) fun e9 =>
 Option.bind (idx t.Nodes e9) fun e10 =>
 bif e10.Kind==kind
 then (Option.bind (a3V ([e10.Text]:List ByteArray)) fun r11 =>
 Option.bind (a5i n x8.2 r11) fun r12 =>
 some (.next (wr .i64 (x8.1+1),r12)))
 else (some (.next (wr .i64 (x8.1+1),x8.2))))
 else (some (.done x8.2))
def b2V (n:Nat)(t:Api_Type)(e:Api_Goal)(kind:Int):Option Api_Names :=
 Option.bind (a3V ([]:List ByteArray)) fun r1 =>
 Option.bind (y9 (c12 t e kind n) ((e.Pos.length:Int).toNat+1) (0,r1)) fun b7 =>
 Option.bind (y9 (c1V t e kind n) ((e.Neg.length:Int).toNat+1) (0,b7)) fun b13 =>
 some b13
def b9e (i:Int)(a1_1:Api_Type)(a2_2:Int):Option Bool :=
 Option.bind (idx a1_1.Nodes i) fun e1 =>
 some (e1.Kind==a2_2)
def a6M (t:Api_Type)(nodes:List Int)(kind:Int):Option Bool :=
 Option.bind (J7 nodes (fun z1 =>
 Option.bind (b9e z1 t kind) fun r2 =>
 some r2)) fun r3 =>
 some r3
def c1a (s:Core_Sort)(t:Api_Type)(nodes:List Int)(kind:Int)(x1:(List Int)×Int):Option (Fl ((List Int)×Int) (List Int)) :=
 bif decide (x1.2<(nodes.length:Int))
 then (Option.bind (idx nodes x1.2) fun e2 =>
 Option.bind (idx t.Nodes e2) fun e3 =>
 Option.bind (bif e3.Kind==kind
 then (Option.bind (idx t.Nodes e2) fun e4 =>
 Option.bind (a8c s e4) fun r5 =>
 some r5)
 else (some false)) fun q6 =>
 bif q6
 then (Option.bind (Z1 (x1.1.length+([e2]:List Int).length) 8) fun _ =>
 some (.next (x1.1++([e2]:List Int),wr .i64 (x1.2+1))))
 else (some (.next (x1.1,wr .i64 (x1.2+1)))))
 else (some (.done x1.1))
def b0Q (s:Core_Sort)(t:Api_Type)(nodes:List Int)(kind:Int):Option (List Int) :=
 Option.bind (y9 (c1a s t nodes kind) ((nodes.length:Int).toNat+1) ([],0)) fun b8 =>
 some b8
noncomputable def c0J (n:Nat)(d:Api_Type)(t:Api_Goal)(a2_2:Core_Sort):Option (Api_Line×Bool) :=
 Option.bind (b4r a2_2 d t) fun r1 =>
 bif !r1
 then (some (Api_Line.mk a2_2.Kind a2_2.Arity ([]:List Api_Range) (Api_Names.mk false ([]:List ByteArray)) ([]:List Int) ([]:List Int) ([]:List ByteArray) ([]:List ByteArray),false))
 else (Option.bind (bif a2_2.Kind==1
 then (Option.bind (c0W d t) fun r2 =>
 some (.inr (decide (0<(r2.length:Int)),(a2_2.Kind,a2_2.Arity,r2,false,([]:List ByteArray),([]:List Int),([]:List Int),([]:List ByteArray),([]:List ByteArray)),(a2_2.Kind,a2_2.Arity,r2,false,([]:List ByteArray),([]:List Int),([]:List Int),([]:List ByteArray),([]:List ByteArray)))))
 else (bif a2_2.Kind==2
 then (Option.bind (b2V n d t 4) fun r3 =>
 Option.bind (a6M d t.Neg 5) fun r4 =>
 bif !r4
 then (bif r3.Cofinite
 then (some (.inr (true,(a2_2.Kind,a2_2.Arity,([]:List Api_Range),r3.Cofinite,r3.List_,([]:List Int),([]:List Int),([]:List ByteArray),([]:List ByteArray)),(a2_2.Kind,a2_2.Arity,([]:List Api_Range),r3.Cofinite,r3.List_,([]:List Int),([]:List Int),([]:List ByteArray),([]:List ByteArray)))))
 else (some (.inr (decide (0<(r3.List_.length:Int)),(a2_2.Kind,a2_2.Arity,([]:List Api_Range),r3.Cofinite,r3.List_,([]:List Int),([]:List Int),([]:List ByteArray),([]:List ByteArray)),(a2_2.Kind,a2_2.Arity,([]:List Api_Range),r3.Cofinite,r3.List_,([]:List Int),([]:List Int),([]:List ByteArray),([]:List ByteArray))))))
 else (some (.inr (false,(a2_2.Kind,a2_2.Arity,([]:List Api_Range),r3.Cofinite,r3.List_,([]:List Int),([]:List Int),([]:List ByteArray),([]:List ByteArray)),(a2_2.Kind,a2_2.Arity,([]:List Api_Range),r3.Cofinite,r3.List_,([]:List Int),([]:List Int),([]:List ByteArray),([]:List ByteArray))))))
 else (bif a2_2.Kind==3
 then (Option.bind (b2V n d t 6) fun r5 =>
 Option.bind (a6M d t.Neg 7) fun r6 =>
 bif !r6
 then (bif r5.Cofinite
 then (some (.inr (true,(a2_2.Kind,a2_2.Arity,([]:List Api_Range),r5.Cofinite,r5.List_,([]:List Int),([]:List Int),([]:List ByteArray),([]:List ByteArray)),(a2_2.Kind,a2_2.Arity,([]:List Api_Range),r5.Cofinite,r5.List_,([]:List Int),([]:List Int),([]:List ByteArray),([]:List ByteArray)))))
 else (some (.inr (decide (0<(r5.List_.length:Int)),(a2_2.Kind,a2_2.Arity,([]:List Api_Range),r5.Cofinite,r5.List_,([]:List Int),([]:List Int),([]:List ByteArray),([]:List ByteArray)),(a2_2.Kind,a2_2.Arity,([]:List Api_Range),r5.Cofinite,r5.List_,([]:List Int),([]:List Int),([]:List ByteArray),([]:List ByteArray))))))
 else (some (.inr (false,(a2_2.Kind,a2_2.Arity,([]:List Api_Range),r5.Cofinite,r5.List_,([]:List Int),([]:List Int),([]:List ByteArray),([]:List ByteArray)),(a2_2.Kind,a2_2.Arity,([]:List Api_Range),r5.Cofinite,r5.List_,([]:List Int),([]:List Int),([]:List ByteArray),([]:List ByteArray))))))
 else (bif a2_2.Kind==4
 then (Option.bind (a6M d t.Neg 8) fun r7 =>
 some (.inr (!r7,(a2_2.Kind,a2_2.Arity,([]:List Api_Range),false,([]:List ByteArray),([]:List Int),([]:List Int),([]:List ByteArray),([]:List ByteArray)),(a2_2.Kind,a2_2.Arity,([]:List Api_Range),false,([]:List ByteArray),([]:List Int),([]:List Int),([]:List ByteArray),([]:List ByteArray)))))
 else (bif a2_2.Kind==5
 then (Option.bind (a6M d t.Neg 9) fun r8 =>
 some (.inr (!r8,(a2_2.Kind,a2_2.Arity,([]:List Api_Range),false,([]:List ByteArray),([]:List Int),([]:List Int),([]:List ByteArray),([]:List ByteArray)),(a2_2.Kind,a2_2.Arity,([]:List Api_Range),false,([]:List ByteArray),([]:List Int),([]:List Int),([]:List ByteArray),([]:List ByteArray)))))
 else (bif a2_2.Kind==6
 then (some (.inl (10,11,(0,0,([]:List Api_Range),false,([]:List ByteArray),([]:List Int),([]:List Int),([]:List ByteArray),([]:List ByteArray)),(a2_2.Kind,a2_2.Arity,([]:List Api_Range),false,([]:List ByteArray),([]:List Int),([]:List Int),([]:List ByteArray),([]:List ByteArray)))))
 else (bif a2_2.Kind==7
 then (some (.inl (12,0,(0,0,([]:List Api_Range),false,([]:List ByteArray),([]:List Int),([]:List Int),([]:List ByteArray),([]:List ByteArray)),(a2_2.Kind,a2_2.Arity,([]:List Api_Range),false,([]:List ByteArray),([]:List Int),([]:List Int),([]:List ByteArray),([]:List ByteArray)))))
 else (bif a2_2.Kind==8
 then (some (.inl (13,0,(0,0,([]:List Api_Range),false,([]:List ByteArray),([]:List Int),([]:List Int),([]:List ByteArray),([]:List ByteArray)),(a2_2.Kind,a2_2.Arity,([]:List Api_Range),false,([]:List ByteArray),([]:List Int),([]:List Int),([]:List ByteArray),([]:List ByteArray)))))
 else (bif a2_2.Kind==9
 then (some (.inl (14,15,(0,0,([]:List Api_Range),false,([]:List ByteArray),([]:List Int),([]:List Int),([]:List ByteArray),([]:List ByteArray)),(a2_2.Kind,a2_2.Arity,([]:List Api_Range),false,([]:List ByteArray),([]:List Int),([]:List Int),([]:List ByteArray),([]:List ByteArray)))))
 else (some (.inl (0,0,(0,0,([]:List Api_Range),false,([]:List ByteArray),([]:List Int),([]:List Int),([]:List ByteArray),([]:List ByteArray)),(a2_2.Kind,a2_2.Arity,([]:List Api_Range),false,([]:List ByteArray),([]:List Int),([]:List Int),([]:List ByteArray),([]:List ByteArray)))))))))))))) fun (b9:Sum (Int×Int×(Int×Int×(List Api_Range)×Bool×(List ByteArray)×(List Int)×(List Int)×(List ByteArray)×(List ByteArray))×(Int×Int×(List Api_Range)×Bool×(List ByteArray)×(List Int)×(List Int)×(List ByteArray)×(List ByteArray))) (Bool×(Int×Int×(List Api_Range)×Bool×(List ByteArray)×(List Int)×(List Int)×(List ByteArray)×(List ByteArray))×(Int×Int×(List Api_Range)×Bool×(List ByteArray)×(List Int)×(List Int)×(List ByteArray)×(List ByteArray)))) =>
 j9 (fun x10 =>
 Option.bind (b0Q a2_2 d t.Pos x10.1) fun r12 =>
 Option.bind (b0Q a2_2 d t.Neg x10.1) fun r13 =>
 bif x10.2.1==0
 then (some (Api_Line.mk x10.2.2.2.1 x10.2.2.2.2.1 x10.2.2.2.2.2.1 (Api_Names.mk x10.2.2.2.2.2.2.1 x10.2.2.2.2.2.2.2.1) r12 r13 x10.2.2.2.2.2.2.2.2.2.2.1 x10.2.2.2.2.2.2.2.2.2.2.2,true))
 else (Option.bind (a6M d t.Neg x10.2.1) fun r14 =>
 some (Api_Line.mk x10.2.2.2.1 x10.2.2.2.2.1 x10.2.2.2.2.2.1 (Api_Names.mk x10.2.2.2.2.2.2.1 x10.2.2.2.2.2.2.2.1) r12 r13 x10.2.2.2.2.2.2.2.2.2.2.1 x10.2.2.2.2.2.2.2.2.2.2.2,!r14))) (fun y11 =>
 some (Api_Line.mk y11.2.1.1 y11.2.1.2.1 y11.2.1.2.2.1 (Api_Names.mk y11.2.1.2.2.2.1 y11.2.1.2.2.2.2.1) y11.2.1.2.2.2.2.2.1 y11.2.1.2.2.2.2.2.2.1 y11.2.1.2.2.2.2.2.2.2.1 y11.2.1.2.2.2.2.2.2.2.2,y11.1)) b9)
noncomputable def c1Z (d:Api_Type)(n:Nat)(e6:Api_Goal)(r7:List ByteArray)(r8:List ByteArray)(r12:List Core_Sort)(x13:(List Api_Line)×Int):Option (Fl ((List Api_Line)×Int) (List Api_Line)) :=
 bif decide (x13.2<(r12.length:Int))
 then (Option.bind (idx r12 x13.2) fun e14 =>
 Option.bind (c0J n d e6 e14) fun r15 =>
 bif r15.2
 then (Option.bind (a0l 16 r7) fun r16 =>
 Option.bind (a0l 16 r8) fun r17 =>
 Option.bind (Z1 (x13.1.length+([Api_Line.mk r15.1.Kind r15.1.Arity r15.1.Ints r15.1.Names r15.1.Pos r15.1.Neg r16 r17]:List Api_Line).length) 168) fun _ =>
 some (.next (x13.1++([Api_Line.mk r15.1.Kind r15.1.Arity r15.1.Ints r15.1.Names r15.1.Pos r15.1.Neg r16 r17]:List Api_Line),wr .i64 (x13.2+1))))
 else (some (.next (x13.1,wr .i64 (x13.2+1)))))
 else (some (.done x13.1))
noncomputable def c1C (d:Api_Type)(n:Nat)(r4:List Api_Goal)(x5:(List Api_Line)×Int):Option (Fl ((List Api_Line)×Int) (List Api_Line)) :=
 bif decide (x5.2<(r4.length:Int))
 then (Option.bind (idx r4 x5.2) fun e6 =>
 Option.bind (b5q d e6.Pos) fun r7 =>
 Option.bind (b5q d e6.Neg) fun r8 =>
 Option.bind (a9G e6.Pos e6.Neg) fun r9 =>
 Option.bind (bif r9
 then (some true)
 else (Option.bind (b0I r7 r8) fun r10 =>
 some r10)) fun q11 =>
 bif q11
 then (some (.next (x5.1,wr .i64 (x5.2+1))))
 else (Option.bind (c1p) fun r12 =>
 Option.bind (y9 (c1Z d n e6 r7 r8 r12) ((r12.length:Int).toNat+1) (x5.1,0)) fun b19 =>
 some (.next (b19,wr .i64 (x5.2+1)))))
 else (some (.done x5.1))
noncomputable def b9j (n:Nat)(d:Api_Type)(t:Api_Goal):Option (List Api_Line) :=
 Option.bind (W2 n d) fun r1 =>
 Option.bind (bif r1 != 0
 then (some true)
 else (Option.bind (a4U d t) fun r2 =>
 some (!r2))) fun q3 =>
 bif q3
 then (some ([]))
 else (Option.bind (b2a n d t) fun r4 =>
 Option.bind (y9 (c1C d n r4) ((r4.length:Int).toNat+1) ([],0)) fun b20 =>
 some b20)
def c1l (t:Api_Type)(nodes:List Int)(kind:Int)(width:Int)(x1:(List (List Int))×Int):Option (Fl ((List (List Int))×Int) (Sum (List (List Int)) ((List (List Int))×Bool))) :=
 bif decide (x1.2<(nodes.length:Int))
 then (Option.bind (idx nodes x1.2) fun e2 =>
 Option.bind (bif decide (e2<0)
 then (some true)
 else (some (decide ((t.Nodes.length:Int)<=e2)))) fun q3 =>
 Option.bind (bif q3
 then (some true)
 else (Option.bind (idx t.Nodes e2) fun e4 =>
 some (e4.Kind != kind))) fun q5 =>
 Option.bind (bif q5
 then (some true)
 else (Option.bind (idx t.Nodes e2) fun e6 =>
 some ((e6.Kids.length:Int) != width))) fun q7 =>
 bif q7
 then (some (.done (.inr ([],false))))
 else (Option.bind (idx t.Nodes e2) fun e8 =>
 Option.bind (Z1 (x1.1.length+([e8.Kids]:List (List Int)).length) 24) fun _ =>
 some (.next (x1.1++([e8.Kids]:List (List Int)),wr .i64 (x1.2+1)))))
 else (some (.done (.inl x1.1)))
def b0Z (t:Api_Type)(nodes:List Int)(kind:Int)(width:Int):Option ((List (List Int))×Bool) :=
 Option.bind (y9 (c1l t nodes kind width) ((nodes.length:Int).toNat+1) ([],0)) fun b10 =>
 j9 (fun x11 =>
 some (x11,true)) (fun y12 =>
 some (y12.1,y12.2)) b10
def a8r (s:List (List Int))(f:(List Int)->Option Bool)(x1:Int):Option (Fl Int (Sum Unit Int)) :=
 bif decide (x1<(s.length:Int))
 then (Option.bind (idx s x1) fun e2 =>
 Option.bind (f e2) fun r3 =>
 bif r3
 then (some (.done (.inr x1)))
 else (some (.next (wr .i64 (x1+1)))))
 else (some (.done (.inl ())))
def a5d (s:List (List Int))(f:(List Int)->Option Bool):Option Int :=
 Option.bind (y9 (a8r s f) ((s.length:Int).toNat+1) 0) fun b4 =>
 j9 (fun _ =>
 some (-1)) (fun y6 =>
 some y6) b4
def a4c (s:List (List Int))(f:(List Int)->Option Bool):Option Bool :=
 Option.bind (a5d s f) fun r1 =>
 some (decide (0<=r1))
def b4y (r:List Int)(a1_1:Int):Option Bool :=
 some ((r.length:Int) != a1_1)
def b1c (width:Int)(rows:List (List Int)):Option Bool :=
 Option.bind (a4c rows (fun z1 =>
 Option.bind (b4y z1 width) fun r2 =>
 some r2)) fun r3 =>
 some (!r3)
def c2m (t:List (List Int))(x1:Int×(List Api_Goal)×(List Api_Goal))(x2:Int×((List Int)×(List Int)×Bool)):Option (Fl (Int×((List Int)×(List Int)×Bool)) ((List Int)×(List Int)×Bool)) :=
 bif decide (x2.1<(t.length:Int))
 then (Option.bind (idx t x2.1) fun e3 =>
 Option.bind (idx e3 x1.1) fun e4 =>
 Option.bind (Z1 (x2.2.1.length+([e4]:List Int).length) 8) fun _ =>
 some (.next (wr .i64 (x2.1+1),(x2.2.1++([e4]:List Int),x2.2.2.1,x2.2.2.2))))
 else (some (.done (x2.2.1,x2.2.2.1,x2.2.2.2)))
def c13 (a2_2:List (List Int))(a3_3:List (List Int))(a4_4:List Int)(x1:Int×(List Api_Goal)×(List Api_Goal))(x7:Int×((List Int)×(List Int)×Bool)):Option (Fl (Int×((List Int)×(List Int)×Bool)) ((List Int)×(List Int)×Bool)) :=
 bif decide (x7.1<(a2_2.length:Int))
 then (Option.bind (idx a2_2 x7.1) fun e8 =>
 Option.bind (idx a3_3 x7.1) fun e9 =>
 Option.bind (idx a4_4 x7.1) fun _ =>
 Option.bind (a4_4[x7.1.toNat]?) fun e11 =>
 Option.bind (idx e9 e11) fun e12 =>
 bif e12==x1.1
 then (Option.bind (idx e8 x1.1) fun e13 =>
 Option.bind (Z1 (x7.2.2.1.length+([e13]:List Int).length) 8) fun _ =>
 some (.next (wr .i64 (x7.1+1),(x7.2.1,x7.2.2.1++([e13]:List Int),x7.2.2.2))))
 else (some (.next (wr .i64 (x7.1+1),(x7.2.1,x7.2.2.1,x7.2.2.2)))))
 else (some (.done (x7.2.1,x7.2.2.1,x7.2.2.2)))
def c1O (d:Int)(t:List (List Int))(a2_2:List (List Int))(a3_3:List (List Int))(a4_4:List Int)(x1:Int×(List Api_Goal)×(List Api_Goal)):Option (Fl (Int×(List Api_Goal)×(List Api_Goal)) (Sum ((List Api_Goal)×(List Api_Goal)) (Bool×(List Api_Goal)×(List Api_Goal)))) :=
 bif decide (x1.1<d)
 then (Option.bind (y9 (c2m t x1) ((t.length:Int).toNat+1) (0,([],[],false))) fun b6 =>
 Option.bind (y9 (c13 a2_2 a3_3 a4_4 x1) ((a2_2.length:Int).toNat+1) (0,(b6.1,b6.2.1,b6.2.2))) fun b15 =>
 Option.bind (a9G b15.1 b15.2.1) fun r16 =>
 bif r16
 then (some (.done (.inr (false,x1.2.2,x1.2.2))))
 else (Option.bind (a8O (Api_Goal.mk b15.1 b15.2.1 b15.2.2)) fun r17 =>
 Option.bind (Z1 (x1.2.2.length+([r17]:List Api_Goal).length) 56) fun _ =>
 some (.next (wr .i64 (x1.1+1),x1.2.1,x1.2.2++([r17]:List Api_Goal)))))
 else (some (.done (.inl (x1.2.1,x1.2.2))))
def b9n (d:Int)(t:List (List Int))(a2_2:List (List Int))(a3_3:List (List Int))(a4_4:List Int):Option (Api_Box×Bool) :=
 Option.bind (y9 (c1O d t a2_2 a3_3 a4_4) (d.toNat+1) (0,([]:List Api_Goal),[])) fun (b19:Sum ((List Api_Goal)×(List Api_Goal)) (Bool×(List Api_Goal)×(List Api_Goal))) =>
 j9 (fun x20 =>
 some (Api_Box.mk x20.2,true)) (fun y21 =>
 some (Api_Box.mk y21.2.1,y21.1)) b19
def b7T (digits:List Int)(options:List (List Int))(x11:Int×List Int):Option (Fl (Int×List Int) (Sum (Unit×List Int) (Bool×List Int))) :=
 bif decide (x11.1<(digits.length:Int))
 then (Option.bind (idx x11.2 x11.1) fun _ =>
 Option.bind (x11.2[x11.1.toNat]?) fun e13 =>
 Option.bind (idx x11.2 x11.1) fun _ =>
 Option.bind (x11.2[x11.1.toNat]?) fun _ =>
 Option.bind (idx (x11.2.set x11.1.toNat (wr .i64 (e13+1))) x11.1) fun _ =>
 Option.bind ((x11.2.set x11.1.toNat (wr .i64 (e13+1)))[x11.1.toNat]?) fun e17 =>
 Option.bind (idx options x11.1) fun e18 =>
 bif decide (e17<(e18.length:Int))
 then (some (.done (.inr (true,x11.2.set x11.1.toNat (wr .i64 (e13+1))))))
 else (Option.bind (idx (x11.2.set x11.1.toNat (wr .i64 (e13+1))) x11.1) fun _ =>
 Option.bind ((x11.2.set x11.1.toNat (wr .i64 (e13+1)))[x11.1.toNat]?) fun _ =>
 some (.next (wr .i64 (x11.1+1),(x11.2.set x11.1.toNat (wr .i64 (e13+1))).set x11.1.toNat 0))))
 else (some (.done (.inl ((),x11.2))))
def b2p (digits:List Int)(options:List (List Int)):Option (Bool×List Int) :=
 Option.bind (y9 (b7T digits options) ((digits.length:Int).toNat+1) (0,digits)) fun (b21:Sum (Unit×List Int) (Bool×List Int)) =>
 j9 (fun x22 =>
 some (false,x22.2)) (fun y23 =>
 some (y23.1,y23.2)) b21
def b9P (a3_3:Int->Option Bool)(x7:Int×List (List Int))(e8:List Int)(x9:Int×List (List Int)):Option (Fl (Int×List (List Int)) (Unit×List (List Int))) :=
 bif decide (x9.1<(e8.length:Int))
 then (Option.bind (idx e8 x9.1) fun e10 =>
 Option.bind (a3_3 e10) fun r11 =>
 bif r11
 then (Option.bind (idx x9.2 x7.1) fun _ =>
 Option.bind (x9.2[x7.1.toNat]?) fun e13 =>
 Option.bind (Z1 (e13.length+([x9.1]:List Int).length) 8) fun _ =>
 Option.bind (idx x9.2 x7.1) fun _ =>
 Option.bind (x9.2[x7.1.toNat]?) fun _ =>
 bif Nat.beq (x7.1.toNat+2) (x7.1.toNat+2)
 then (some (.next (wr .i64 (x9.1+1),x9.2.set x7.1.toNat (e13++([x9.1]:List Int)))))
 else (none))
 else (some (.next (wr .i64 (x9.1+1),x9.2))))
 else (some (.done ((),x9.2)))
def b9I (a2_2:List (List Int))(a3_3:Int->Option Bool)(x7:Int×List (List Int)):Option (Fl (Int×List (List Int)) (Sum (Unit×List (List Int)) ((List Api_Box)×List (List Int)))) :=
 bif decide (x7.1<(a2_2.length:Int))
 then (Option.bind (idx a2_2 x7.1) fun e8 =>
 Option.bind (y9 (b9P a3_3 x7 e8) ((e8.length:Int).toNat+1) (0,x7.2)) fun b17 =>
 Option.bind (idx b17.2 x7.1) fun _ =>
 Option.bind (b17.2[x7.1.toNat]?) fun e19 =>
 bif (e19.length:Int)==0
 then (some (.done (.inr ([],b17.2))))
 else (some (.next (wr .i64 (x7.1+1),b17.2))))
 else (some (.done (.inl ((),x7.2))))
def b96 (d:Int)(t:List (List Int))(a2_2:List (List Int))(x21:Unit×List (List Int))(x24:(List Int)×(List Api_Box)):Option (Fl ((List Int)×(List Api_Box)) ((List Api_Box)×(List Int))) :=
 Option.bind (b9n d t a2_2 x21.2 x24.1) fun r25 =>
 Option.bind (bif r25.2
 then (Option.bind (Z1 (x24.2.length+([r25.1]:List Api_Box).length) 24) fun _ =>
 some (x24.2++([r25.1]:List Api_Box)))
 else (some x24.2)) fun b27 =>
 Option.bind (b2p x24.1 x21.2) fun r28 =>
 bif !r28.1
 then (some (.done (b27,r28.2)))
 else (some (.next (r28.2,b27)))
def b6i (n:Nat)(d:Int)(t:List (List Int))(a2_2:List (List Int))(a3_3:Int->Option Bool):Option (List Api_Box) :=
 Option.bind (bif decide (d<0)
 then (some true)
 else (some (decide (4<d)))) fun q1 =>
 Option.bind (bif q1
 then (some true)
 else (Option.bind (b1c d t) fun r2 =>
 some (!r2))) fun q3 =>
 Option.bind (bif q3
 then (some true)
 else (Option.bind (b1c d a2_2) fun r4 =>
 some (!r4))) fun q5 =>
 bif q5
 then (some ([]))
 else (Option.bind (a7y (a2_2.length:Int) (a2_2.length:Int) 24) fun m6 =>
 Option.bind (y9 (b9I a2_2 a3_3) ((a2_2.length:Int).toNat+1) (0,List.replicate m6 ([]:List Int))) fun (b20:Sum (Unit×List (List Int)) ((List Api_Box)×List (List Int))) =>
 j9 (fun x21 =>
 Option.bind (a7y (a2_2.length:Int) (a2_2.length:Int) 8) fun m23 =>
 Option.bind (y9 (b96 d t a2_2 x21) n (List.replicate m23 (0:Int),[])) fun b29 =>
 some b29.1) (fun y22 =>
 some y22.1) b20)
def a7b (i:Int)(a1_1:Api_Type):Option Bool :=
 Option.bind (idx a1_1.Nodes i) fun e1 =>
 some (e1.Kind != 2)
def b4O (r10:List Api_Box)(x11:Int):Option (Fl Int Unit) :=
 bif decide (x11<(r10.length:Int))
 then (Option.bind (idx r10 x11) fun e12 =>
 Option.bind (idx e12.Parts 1) fun _ =>
 none)
 else (some (.done ()))
def a87 (n:Nat)(d:Api_Type)(t:Api_Line):Option ((List Api_Box)×Int) :=
 Option.bind (bif t.Kind==6
 then (some (.inl (10,t.Arity)))
 else (bif t.Kind==7
 then (some (.inl (12,2)))
 else (some (.inr ([],9))))) fun b1 =>
 j9 (fun x2 =>
 Option.bind (W2 n d) fun r4 =>
 bif r4 != 0
 then (some (([]:List Api_Box),1))
 else (Option.bind (b0Z d t.Pos x2.1 x2.2) fun r5 =>
 Option.bind (b0Z d t.Neg x2.1 x2.2) fun r6 =>
 Option.bind (bif !r5.2
 then (some true)
 else (some (!r6.2))) fun q7 =>
 bif q7
 then (some (([]:List Api_Box),1))
 else (Option.bind (b6i n x2.2 r5.1 r6.1 (fun z8 =>
 Option.bind (a7b z8 d) fun r9 =>
 some r9)) fun r10 =>
 Option.bind (bif t.Kind==7
 then (Option.bind (y9 (b4O r10) ((r10.length:Int).toNat+1) 0) fun _ =>
 some ())
 else (some ())) fun _ =>
 some (r10,0)))) (fun y3 =>
 some (y3.1,y3.2)) b1
def c1I (r4:(List Api_Box)×Int)(x5:(List Api_Alternative)×Int):Option (Fl ((List Api_Alternative)×Int) (List Api_Alternative)) :=
 bif decide (x5.2<(r4.1.length:Int))
 then (Option.bind (idx r4.1 x5.2) fun e6 =>
 Option.bind (Z1 (x5.1.length+([Api_Alternative.mk (Val.mk 0 0 (⟨#[]⟩:ByteArray) ([]:List Val) ([]:List Key) ([]:List Ent) ([]:List ByteArray)) ([]:List Key) ([]:List Api_Form) e6.Parts]:List Api_Alternative).length) 200) fun _ =>
 some (.next (x5.1++([Api_Alternative.mk (Val.mk 0 0 (⟨#[]⟩:ByteArray) ([]:List Val) ([]:List Key) ([]:List Ent) ([]:List ByteArray)) ([]:List Key) ([]:List Api_Form) e6.Parts]:List Api_Alternative),wr .i64 (x5.2+1))))
 else (some (.done x5.1))
def b9f (n:Nat)(d:Api_Type)(t:Api_Line):Option (List Api_Alternative) :=
 bif t.Kind==1
 then (none)
 else (Option.bind (bif t.Kind==2
 then (some (t.Kind==2))
 else (some (t.Kind==3))) fun b1 =>
 bif b1
 then (Option.bind (bif t.Kind==3
 then (some 0)
 else (some 1)) fun (_:Int) =>
 none)
 else (Option.bind (bif t.Kind==6
 then (some (t.Kind==6))
 else (some (t.Kind==7))) fun b3 =>
 bif b3
 then (Option.bind (a87 n d t) fun r4 =>
 Option.bind (y9 (c1I r4) ((r4.1.length:Int).toNat+1) ([],0)) fun b8 =>
 some b8)
 else (bif t.Kind==8
 then (none)
 else (bif t.Kind==9
 then (none)
 else (some ([Api_Alternative.mk (Val.mk 0 0 (⟨#[]⟩:ByteArray) ([]:List Val) ([]:List Key) ([]:List Ent) ([]:List ByteArray)) ([]:List Key) ([]:List Api_Form) ([]:List Api_Goal)]:List Api_Alternative))))))
def c1Q (l:Api_Line)(r1:List Api_Alternative)(x2:(List Api_Alternative)×Int):Option (Fl ((List Api_Alternative)×Int) (List Api_Alternative)) :=
 bif decide (x2.2<(r1.length:Int))
 then (Option.bind (idx r1 x2.2) fun e3 =>
 Option.bind (a0l 16 l.Vars) fun r4 =>
 Option.bind (Z1 (x2.1.length+([Api_Alternative.mk (Val.mk l.Kind e3.Leaf.Int_ e3.Leaf.Text e3.Leaf.Kids e3.Leaf.Keys e3.Leaf.Entries r4) e3.Keys e3.Forms e3.Subgoals]:List Api_Alternative).length) 200) fun _ =>
 some (.next (x2.1++([Api_Alternative.mk (Val.mk l.Kind e3.Leaf.Int_ e3.Leaf.Text e3.Leaf.Kids e3.Leaf.Keys e3.Leaf.Entries r4) e3.Keys e3.Forms e3.Subgoals]:List Api_Alternative),wr .i64 (x2.2+1))))
 else (some (.done x2.1))
def b9d (n:Nat)(t:Api_Type)(l:Api_Line):Option (List Api_Alternative) :=
 Option.bind (b9f n t l) fun r1 =>
 Option.bind (y9 (c1Q l r1) ((r1.length:Int).toNat+1) ([],0)) fun b6 =>
 some b6
noncomputable def b5a (t:Api_Type)(n:Nat)(r4:List Api_Line)(x5:(List Api_Alternative)×Int):Option (Fl ((List Api_Alternative)×Int) (List Api_Alternative)) :=
 bif decide (x5.2<(r4.length:Int))
 then (Option.bind (idx r4 x5.2) fun e6 =>
 Option.bind (b9d n t e6) fun r7 =>
 Option.bind (Z1 (x5.1.length+r7.length) 200) fun _ =>
 some (.next (x5.1++r7,wr .i64 (x5.2+1))))
 else (some (.done x5.1))
noncomputable def a06 (n:Nat)(t:Api_Type)(g:Api_Goal):Option (List Api_Alternative) :=
 Option.bind (W2 n t) fun r1 =>
 Option.bind (bif r1 != 0
 then (some true)
 else (Option.bind (a4U t g) fun r2 =>
 some (!r2))) fun q3 =>
 bif q3
 then (some ([]))
 else (Option.bind (b9j n t g) fun r4 =>
 Option.bind (y9 (b5a t n r4) ((r4.length:Int).toNat+1) ([],0)) fun b9 =>
 some b9)
def K6:Option Val :=
 some (Val.mk 5 0 (⟨#[]⟩:ByteArray) ([]:List Val) ([]:List Key) ([]:List Ent) ([]:List ByteArray))
def a0M (l:List Val):Option (List Val) :=
 Option.bind (Z1 (0+l.length) 128) fun _ =>
 some l
def a1X (l:List Val):Option Val :=
 Option.bind (a0M l) fun r1 =>
 some (Val.mk 6 0 (⟨#[]⟩:ByteArray) r1 ([]:List Key) ([]:List Ent) ([]:List ByteArray))
def c0w (kind:Int):Option (Value_used×Bool) :=
 Option.bind (bif kind==1
 then (some (kind==1))
 else (some (kind==4))) fun b1 =>
 bif b1
 then (some (Value_used.mk true false false false false,true))
 else (Option.bind (bif kind==2
 then (some (kind==2))
 else (some (kind==3))) fun b2 =>
 bif b2
 then (some (Value_used.mk false true false false false,true))
 else (bif kind==5
 then (some (Value_used.mk false false false false false,true))
 else (Option.bind (bif kind==6
 then (some (kind==6))
 else (some (kind==7))) fun b3 =>
 bif b3
 then (some (Value_used.mk false false true false false,true))
 else (bif kind==8
 then (some (Value_used.mk false false true true false,true))
 else (bif kind==9
 then (some (Value_used.mk true false false false true,true))
 else (some (Value_used.mk false false false false false,false)))))))
def b0g (l:List ByteArray)(compare:ByteArray->ByteArray->Option Int)(x1:Int):Option (Fl Int (Sum Unit Bool)) :=
 bif decide (x1<(l.length:Int))
 then (Option.bind (idx l (wr .i64 (x1-1))) fun e2 =>
 Option.bind (idx l x1) fun e3 =>
 Option.bind (compare e2 e3) fun r4 =>
 bif decide (0<=r4)
 then (some (.done (.inr false)))
 else (some (.next (wr .i64 (x1+1)))))
 else (some (.done (.inl ())))
def a6t (l:List ByteArray)(compare:ByteArray->ByteArray->Option Int):Option Bool :=
 Option.bind (y9 (b0g l compare) ((l.length:Int).toNat+1) 1) fun b5 =>
 j9 (fun _ =>
 some true) (fun y7 =>
 some y7) b5
def b5G (l:List ByteArray)(x5:Int):Option (Fl Int (Sum Unit Bool)) :=
 bif decide (x5<(l.length:Int))
 then (Option.bind (idx l x5) fun e6 =>
 Option.bind (a27 e6) fun r7 =>
 bif !r7
 then (some (.done (.inr false)))
 else (some (.next (wr .i64 (x5+1)))))
 else (some (.done (.inl ())))
def a9T (l:List ByteArray):Option Bool :=
 Option.bind (a6t l (fun z1 z2 =>
 Option.bind (a1Q z1 z2) fun r3 =>
 some r3)) fun r4 =>
 bif !r4
 then (some false)
 else (Option.bind (y9 (b5G l) ((l.length:Int).toNat+1) 0) fun b8 =>
 j9 (fun _ =>
 some true) (fun y10 =>
 some y10) b8)
def a9H (l:List Key)(compare:Key->Key->Option Int)(x1:Int):Option (Fl Int (Sum Unit Bool)) :=
 bif decide (x1<(l.length:Int))
 then (Option.bind (idx l (wr .i64 (x1-1))) fun e2 =>
 Option.bind (idx l x1) fun e3 =>
 Option.bind (compare e2 e3) fun r4 =>
 bif decide (0<=r4)
 then (some (.done (.inr false)))
 else (some (.next (wr .i64 (x1+1)))))
 else (some (.done (.inl ())))
def a57 (l:List Key)(compare:Key->Key->Option Int):Option Bool :=
 Option.bind (y9 (a9H l compare) ((l.length:Int).toNat+1) 1) fun b5 =>
 j9 (fun _ =>
 some true) (fun y7 =>
 some y7) b5
def b89 (v:Val)(x6:Int):Option (Fl Int (Sum Unit Bool)) :=
 bif decide (x6<(v.Keys.length:Int))
 then (Option.bind (idx v.Keys x6) fun e7 =>
 Option.bind (a36 e7) fun r8 =>
 bif !r8
 then (some (.done (.inr false)))
 else (some (.next (wr .i64 (x6+1)))))
 else (some (.done (.inl ())))
def b3R (v:Val):Option Bool :=
 Option.bind (bif (v.Keys.length:Int) != (v.Kids.length:Int)
 then (some true)
 else (Option.bind (a57 v.Keys (fun z1 z2 =>
 Option.bind (a11 z1 z2) fun r3 =>
 some r3)) fun r4 =>
 some (!r4))) fun q5 =>
 bif q5
 then (some false)
 else (Option.bind (y9 (b89 v) ((v.Keys.length:Int).toNat+1) 0) fun b9 =>
 j9 (fun _ =>
 some true) (fun y11 =>
 some y11) b9)
def a8E (l:List Ent)(compare:Ent->Ent->Option Int)(x1:Int):Option (Fl Int (Sum Unit Bool)) :=
 bif decide (x1<(l.length:Int))
 then (Option.bind (idx l (wr .i64 (x1-1))) fun e2 =>
 Option.bind (idx l x1) fun e3 =>
 Option.bind (compare e2 e3) fun r4 =>
 bif decide (0<=r4)
 then (some (.done (.inr false)))
 else (some (.next (wr .i64 (x1+1)))))
 else (some (.done (.inl ())))
def a42 (l:List Ent)(compare:Ent->Ent->Option Int):Option Bool :=
 Option.bind (y9 (a8E l compare) ((l.length:Int).toNat+1) 1) fun b5 =>
 j9 (fun _ =>
 some true) (fun y7 =>
 some y7) b5
def a65 (a:List Val)(b:List Val)(compare:Val->Val->Option Int)(x2:Int):Option (Fl Int (Sum Unit Int)) :=
 bif decide (x2<(a.length:Int))
 then (Option.bind (idx a x2) fun e3 =>
 Option.bind (idx b x2) fun e4 =>
 Option.bind (compare e3 e4) fun r5 =>
 bif r5 != 0
 then (some (.done (.inr r5)))
 else (some (.next (wr .i64 (x2+1)))))
 else (some (.done (.inl ())))
def a4g (a:List Val)(b:List Val)(compare:Val->Val->Option Int):Option Int :=
 Option.bind (a0E (a.length:Int) (b.length:Int)) fun r1 =>
 bif r1 != 0
 then (some r1)
 else (Option.bind (y9 (a65 a b compare) ((a.length:Int).toNat+1) 0) fun b6 =>
 j9 (fun _ =>
 some 0) (fun y8 =>
 some y8) b6)
def a7O (a:List Key)(b:List Key)(compare:Key->Key->Option Int)(x2:Int):Option (Fl Int (Sum Unit Int)) :=
 bif decide (x2<(a.length:Int))
 then (Option.bind (idx a x2) fun e3 =>
 Option.bind (idx b x2) fun e4 =>
 Option.bind (compare e3 e4) fun r5 =>
 bif r5 != 0
 then (some (.done (.inr r5)))
 else (some (.next (wr .i64 (x2+1)))))
 else (some (.done (.inl ())))
def a4I (a:List Key)(b:List Key)(compare:Key->Key->Option Int):Option Int :=
 Option.bind (a0E (a.length:Int) (b.length:Int)) fun r1 =>
 bif r1 != 0
 then (some r1)
 else (Option.bind (y9 (a7O a b compare) ((a.length:Int).toNat+1) 0) fun b6 =>
 j9 (fun _ =>
 some 0) (fun y8 =>
 some y8) b6)
def a67 (a:List Ent)(b:List Ent)(compare:Ent->Ent->Option Int)(x2:Int):Option (Fl Int (Sum Unit Int)) :=
 bif decide (x2<(a.length:Int))
 then (Option.bind (idx a x2) fun e3 =>
 Option.bind (idx b x2) fun e4 =>
 Option.bind (compare e3 e4) fun r5 =>
 bif r5 != 0
 then (some (.done (.inr r5)))
 else (some (.next (wr .i64 (x2+1)))))
 else (some (.done (.inl ())))
def a3W (a:List Ent)(b:List Ent)(compare:Ent->Ent->Option Int):Option Int :=
 Option.bind (a0E (a.length:Int) (b.length:Int)) fun r1 =>
 bif r1 != 0
 then (some r1)
 else (Option.bind (y9 (a67 a b compare) ((a.length:Int).toNat+1) 0) fun b6 =>
 j9 (fun _ =>
 some 0) (fun y8 =>
 some y8) b6)
def a8u (a:List ByteArray)(b:List ByteArray)(compare:ByteArray->ByteArray->Option Int)(x2:Int):Option (Fl Int (Sum Unit Int)) :=
 bif decide (x2<(a.length:Int))
 then (Option.bind (idx a x2) fun e3 =>
 Option.bind (idx b x2) fun e4 =>
 Option.bind (compare e3 e4) fun r5 =>
 bif r5 != 0
 then (some (.done (.inr r5)))
 else (some (.next (wr .i64 (x2+1)))))
 else (some (.done (.inl ())))
def a48 (a:List ByteArray)(b:List ByteArray)(compare:ByteArray->ByteArray->Option Int):Option Int :=
 Option.bind (a0E (a.length:Int) (b.length:Int)) fun r1 =>
 bif r1 != 0
 then (some r1)
 else (Option.bind (y9 (a8u a b compare) ((a.length:Int).toNat+1) 0) fun b6 =>
 j9 (fun _ =>
 some 0) (fun y8 =>
 some y8) b6)
def c0Z (_:Nat)(_:Val->Val->Option Int)(rec_value_compareEntries:Ent->Ent->Option Int)(rec_value_compareValues:(List Val)->(List Val)->Option Int)(a:Val)(b:Val):Option Int :=
 Option.bind (a0E a.Kind b.Kind) fun r1 =>
 bif r1 != 0
 then (some r1)
 else (Option.bind (a6e a.Int_ b.Int_) fun r2 =>
 bif r2 != 0
 then (some r2)
 else (Option.bind (a1Q a.Text b.Text) fun r3 =>
 bif r3 != 0
 then (some r3)
 else (Option.bind (a4I a.Keys b.Keys (fun z4 z5 =>
 Option.bind (a11 z4 z5) fun r6 =>
 some r6)) fun r7 =>
 bif r7 != 0
 then (some r7)
 else (Option.bind (rec_value_compareValues a.Kids b.Kids) fun r8 =>
 bif r8 != 0
 then (some r8)
 else (Option.bind (a3W a.Entries b.Entries (fun z9 z10 =>
 Option.bind (rec_value_compareEntries z9 z10) fun r11 =>
 some r11)) fun r12 =>
 bif r12 != 0
 then (some r12)
 else (Option.bind (a48 a.Labels b.Labels (fun z13 z14 =>
 Option.bind (a1Q z13 z14) fun r15 =>
 some r15)) fun r16 =>
 some r16))))))
def b2D (_:Nat)(rec_value_Compare:Val->Val->Option Int)(_:Ent->Ent->Option Int)(rec_value_compareValues:(List Val)->(List Val)->Option Int)(a:Ent)(b:Ent):Option Int :=
 Option.bind (rec_value_compareValues a.Args b.Args) fun r1 =>
 bif r1 != 0
 then (some r1)
 else (bif a.Fails != b.Fails
 then (bif a.Fails
 then (some (-1))
 else (some 1))
 else (Option.bind (rec_value_Compare a.Result b.Result) fun r2 =>
 some r2))
def b4a (_:Nat)(rec_value_Compare:Val->Val->Option Int)(_:Ent->Ent->Option Int)(_:(List Val)->(List Val)->Option Int)(a:List Val)(b:List Val):Option Int :=
 Option.bind (a4g a b (fun z1 z2 =>
 Option.bind (rec_value_Compare z1 z2) fun r3 =>
 some r3)) fun r4 =>
 some r4
def K2:Nat->(Val->Val->Option Int)×(Ent->Ent->Option Int)×((List Val)->(List Val)->Option Int)
 | 0=>(fun _ _=>none,fun _ _=>none,fun _ _=>none)
 | n+1=>(c0Z n ((K2 n).1) ((K2 n).2.1) ((K2 n).2.2),b2D n ((K2 n).1) ((K2 n).2.1) ((K2 n).2.2),b4a n ((K2 n).1) ((K2 n).2.1) ((K2 n).2.2))
def b6c (n:Nat):Val->Val->Option Int:=(K2 n).1
def a7p (n:Nat):Ent->Ent->Option Int:=(K2 n).2.1
def b6F (n:Nat):(List Val)->(List Val)->Option Int:=(K2 n).2.2
def b9q (n:Nat)(a:Val)(b:Val):Option Bool :=
 Option.bind (b6c n a b) fun r1 =>
 some (r1==0)
def b79 (n:Nat)(v:Val):Option Bool :=
 Option.bind (b9q n v (Val.mk 0 0 (⟨#[]⟩:ByteArray) ([]:List Val) ([]:List Key) ([]:List Ent) ([]:List ByteArray))) fun r1 =>
 some r1
def b1t (n:Nat)(e:Ent)(arity:Int):Option Bool :=
 Option.bind (bif (e.Args.length:Int)==arity
 then (Option.bind (bif !e.Fails
 then (some true)
 else (Option.bind (b79 n e.Result) fun r1 =>
 some r1)) fun q2 =>
 some q2)
 else (some false)) fun q3 =>
 some q3
def b3m (v:Val)(n:Nat)(x7:Int):Option (Fl Int (Sum Unit Bool)) :=
 bif decide (x7<(v.Entries.length:Int))
 then (Option.bind (idx v.Entries x7) fun e8 =>
 Option.bind (b1t n e8 v.Int_) fun r9 =>
 bif !r9
 then (some (.done (.inr false)))
 else (some (.next (wr .i64 (x7+1)))))
 else (some (.done (.inl ())))
def a74 (n:Nat)(v:Val):Option Bool :=
 Option.bind (bif decide (v.Int_<0)
 then (some true)
 else (some (decide (4<v.Int_)))) fun q1 =>
 Option.bind (bif q1
 then (some true)
 else (Option.bind (a42 v.Entries (fun z2 z3 =>
 Option.bind (a7p n z2 z3) fun r4 =>
 some r4)) fun r5 =>
 some (!r5))) fun q6 =>
 bif q6
 then (some false)
 else (Option.bind (y9 (b3m v n) ((v.Entries.length:Int).toNat+1) 0) fun b10 =>
 j9 (fun _ =>
 some true) (fun y12 =>
 some y12) b10)
def b2i (n:Nat)(d:Val):Option Bool :=
 Option.bind (c0w d.Kind) fun r1 =>
 Option.bind (bif !r1.2
 then (some true)
 else (Option.bind (a9T d.Labels) fun r2 =>
 some (!r2))) fun q3 =>
 bif q3
 then (some false)
 else (Option.bind (bif !r1.1.number
 then (some (d.Int_ != 0))
 else (some false)) fun q4 =>
 Option.bind (bif q4
 then (some true)
 else (Option.bind (bif !r1.1.text_
 then (some (!(J5 d.Text (⟨#[]⟩:ByteArray))))
 else (some false)) fun q5 =>
 some q5)) fun q6 =>
 Option.bind (bif q6
 then (some true)
 else (Option.bind (bif !r1.1.kids
 then (some (decide (0<(d.Kids.length:Int))))
 else (some false)) fun q7 =>
 some q7)) fun q8 =>
 Option.bind (bif q8
 then (some true)
 else (Option.bind (bif !r1.1.keys
 then (some (decide (0<(d.Keys.length:Int))))
 else (some false)) fun q9 =>
 some q9)) fun q10 =>
 Option.bind (bif q10
 then (some true)
 else (Option.bind (bif !r1.1.entries
 then (some (decide (0<(d.Entries.length:Int))))
 else (some false)) fun q11 =>
 some q11)) fun q12 =>
 bif q12
 then (some false)
 else (bif d.Kind==2
 then (some (decide ((d.Text.size:Int)<=64)))
 else (bif d.Kind==3
 then (Option.bind (a4j d.Text) fun r13 =>
 some r13)
 else (bif d.Kind==4
 then (some (decide (0<=d.Int_)))
 else (bif d.Kind==6
 then (some (decide ((d.Kids.length:Int)<=4)))
 else (bif d.Kind==7
 then (Option.bind (bif (d.Kids.length:Int)==2
 then (Option.bind (idx d.Kids 1) fun e14 =>
 Option.bind (bif e14.Kind==5
 then (some true)
 else (Option.bind (idx d.Kids 1) fun e15 =>
 some (e15.Kind==7))) fun q16 =>
 some q16)
 else (some false)) fun q17 =>
 some q17)
 else (bif d.Kind==8
 then (Option.bind (b3R d) fun r18 =>
 some r18)
 else (bif d.Kind==9
 then (Option.bind (a74 n d) fun r19 =>
 some r19)
 else (some true)))))))))
def c2a (v:Val)(x2:(List Val)×Int):Option (Fl ((List Val)×Int) (List Val)) :=
 bif decide (x2.2<(v.Entries.length:Int))
 then (Option.bind (idx v.Entries x2.2) fun e3 =>
 Option.bind (Z1 (x2.1.length+e3.Args.length) 128) fun _ =>
 bif !e3.Fails
 then (Option.bind (Z1 ((x2.1++e3.Args).length+([e3.Result]:List Val).length) 128) fun _ =>
 some (.next ((x2.1++e3.Args)++([e3.Result]:List Val),wr .i64 (x2.2+1))))
 else (some (.next (x2.1++e3.Args,wr .i64 (x2.2+1)))))
 else (some (.done x2.1))
def b9c (v:Val):Option (List Val) :=
 Option.bind (a0l 128 v.Kids) fun r1 =>
 Option.bind (y9 (c2a v) ((v.Entries.length:Int).toNat+1) (r1,0)) fun b6 =>
 some b6
def b7A (r2:List Val)(rec_value_validTree:Val->Option Bool)(x3:Int):Option (Fl Int (Sum Unit Bool)) :=
 bif decide (x3<(r2.length:Int))
 then (Option.bind (idx r2 x3) fun e4 =>
 Option.bind (rec_value_validTree e4) fun r5 =>
 bif !r5
 then (some (.done (.inr false)))
 else (some (.next (wr .i64 (x3+1)))))
 else (some (.done (.inl ())))
def b9b (n:Nat)(rec_value_validTree:Val->Option Bool)(v:Val):Option Bool :=
 Option.bind (b2i n v) fun r1 =>
 bif !r1
 then (some false)
 else (Option.bind (b9c v) fun r2 =>
 Option.bind (y9 (b7A r2 rec_value_validTree) ((r2.length:Int).toNat+1) 0) fun b6 =>
 j9 (fun _ =>
 some true) (fun y8 =>
 some y8) b6)
def a7A:Nat->Val->Option Bool
 | 0=>fun _=>none
 | n+1=>b9b n (a7A n)
def a5P (n:Nat)(v:Val):Option Int :=
 Option.bind (a7A n v) fun r1 =>
 bif !r1
 then (some 1)
 else (some 0)
def b9o (kind:Int):Option Int :=
 bif kind==5
 then (some 2)
 else (bif kind==7
 then (some 3)
 else (bif kind==8
 then (some 4)
 else (bif kind==9
 then (some 5)
 else (bif kind==11
 then (some 6)
 else (some 9)))))
def a6X (s:List Key)(v:Key)(x1:Int):Option (Fl Int (Sum Unit Int)) :=
 bif decide (x1<(s.length:Int))
 then (Option.bind (idx s x1) fun e2 =>
 bif a4T v e2
 then (some (.done (.inr x1)))
 else (some (.next (wr .i64 (x1+1)))))
 else (some (.done (.inl ())))
def a3Z (s:List Key)(v:Key):Option Int :=
 Option.bind (y9 (a6X s v) ((s.length:Int).toNat+1) 0) fun b3 =>
 j9 (fun _ =>
 some (-1)) (fun y5 =>
 some y5) b3
def a3v (s:List Key)(v:Key):Option Bool :=
 Option.bind (a3Z s v) fun r1 =>
 some (decide (0<=r1))
def c7c (n_0:Api_TypeNode)(k:Key)(x1:Int):Option (Fl Int (Sum Unit Int)) :=
 bif decide (x1<(n_0.Fields.length:Int))
 then (Option.bind (idx n_0.Fields x1) fun e2 =>
 bif a4T e2.Key_ k
 then (some (.done (.inr e2.Node)))
 else (some (.next (wr .i64 (x1+1)))))
 else (some (.done (.inl ())))
def c57 (n_0:Api_TypeNode)(k:Key):Option Int :=
 Option.bind (y9 (c7c n_0 k) ((n_0.Fields.length:Int).toNat+1) 0) fun b3 =>
 j9 (fun _ =>
 bif k.Kind==0
 then (some n_0.Rest.1)
 else (bif k.Kind==1
 then (some n_0.Rest.2)
 else (none))) (fun y5 =>
 some y5) b3
def c5F (l:List Val)(t:Api_Type)(nodes:List Int)(rec_core_Has:Val->Api_Type->Int->Option Bool)(x1:Int):Option (Fl Int (Sum Unit Bool)) :=
 bif decide (x1<(l.length:Int))
 then (Option.bind (idx l x1) fun e2 =>
 Option.bind (idx nodes x1) fun e3 =>
 Option.bind (rec_core_Has e2 t e3) fun r4 =>
 bif !r4
 then (some (.done (.inr false)))
 else (some (.next (wr .i64 (x1+1)))))
 else (some (.done (.inl ())))
def b6K (v:Val)(t:Api_Type)(n_2:Api_TypeNode)(rec_core_EntryAllowed:Ent->Api_Type->Api_TypeNode->Option Bool)(x1:Int):Option (Fl Int (Sum Unit Bool)) :=
 bif decide (x1<(v.Entries.length:Int))
 then (Option.bind (idx v.Entries x1) fun e2 =>
 Option.bind (rec_core_EntryAllowed e2 t n_2) fun r3 =>
 bif !r3
 then (some (.done (.inr false)))
 else (some (.next (wr .i64 (x1+1)))))
 else (some (.done (.inl ())))
def c2d (v:Val)(n_2:Api_TypeNode)(x1:Int):Option (Fl Int (Sum Unit Bool)) :=
 bif decide (x1<(n_2.Fields.length:Int))
 then (Option.bind (idx n_2.Fields x1) fun e2 =>
 Option.bind (bif !e2.Optional
 then (Option.bind (a3v v.Keys e2.Key_) fun r3 =>
 some (!r3))
 else (some false)) fun q4 =>
 bif q4
 then (some (.done (.inr false)))
 else (some (.next (wr .i64 (x1+1)))))
 else (some (.done (.inl ())))
def c1F (v:Val)(t:Api_Type)(n_2:Api_TypeNode)(rec_core_Has:Val->Api_Type->Int->Option Bool)(x8:Int):Option (Fl Int (Sum Unit Bool)) :=
 bif decide (x8<(v.Keys.length:Int))
 then (Option.bind (idx v.Keys x8) fun e9 =>
 Option.bind (idx v.Kids x8) fun e10 =>
 Option.bind (c57 n_2 e9) fun r11 =>
 Option.bind (rec_core_Has e10 t r11) fun r12 =>
 bif !r12
 then (some (.done (.inr false)))
 else (some (.next (wr .i64 (x8+1)))))
 else (some (.done (.inl ())))
def c7f (_:Nat)(_:(List Val)->Api_Type->(List Int)->Option Bool)(_:Ent->Api_Type->Api_TypeNode->Option Bool)(_:Val->Api_Type->Api_TypeNode->Option Bool)(rec_core_Has:Val->Api_Type->Int->Option Bool)(_:Int->Val->Api_Type->Option Bool)(_:Int->Val->Api_Type->Option Bool)(_:Val->Api_Type->Api_TypeNode->Option Bool)(l:List Val)(t:Api_Type)(nodes:List Int):Option Bool :=
 bif (l.length:Int) != (nodes.length:Int)
 then (some false)
 else (Option.bind (y9 (c5F l t nodes rec_core_Has) ((l.length:Int).toNat+1) 0) fun b5 =>
 j9 (fun _ =>
 some true) (fun y7 =>
 some y7) b5)
def b6p (_:Nat)(rec_core_all:(List Val)->Api_Type->(List Int)->Option Bool)(_:Ent->Api_Type->Api_TypeNode->Option Bool)(_:Val->Api_Type->Api_TypeNode->Option Bool)(rec_core_Has:Val->Api_Type->Int->Option Bool)(_:Int->Val->Api_Type->Option Bool)(_:Int->Val->Api_Type->Option Bool)(_:Val->Api_Type->Api_TypeNode->Option Bool)(e:Ent)(t:Api_Type)(n_2:Api_TypeNode):Option Bool :=
 Option.bind (cut n_2.Kids 0 (wr .i64 ((n_2.Kids.length:Int)-1))) fun y1 =>
 Option.bind (rec_core_all e.Args t y1) fun r2 =>
 Option.bind (bif !r2
 then (some true)
 else (Option.bind (bif !e.Fails
 then (Option.bind (idx n_2.Kids (wr .i64 ((n_2.Kids.length:Int)-1))) fun e3 =>
 Option.bind (rec_core_Has e.Result t e3) fun r4 =>
 some r4)
 else (some false)) fun q5 =>
 some q5)) fun q6 =>
 some q6
def b7e (_:Nat)(_:(List Val)->Api_Type->(List Int)->Option Bool)(rec_core_EntryAllowed:Ent->Api_Type->Api_TypeNode->Option Bool)(_:Val->Api_Type->Api_TypeNode->Option Bool)(_:Val->Api_Type->Int->Option Bool)(_:Int->Val->Api_Type->Option Bool)(_:Int->Val->Api_Type->Option Bool)(_:Val->Api_Type->Api_TypeNode->Option Bool)(v:Val)(t:Api_Type)(n_2:Api_TypeNode):Option Bool :=
 bif v.Int_ != (wr .i64 ((n_2.Kids.length:Int)-1))
 then (some false)
 else (Option.bind (y9 (b6K v t n_2 rec_core_EntryAllowed) ((v.Entries.length:Int).toNat+1) 0) fun b4 =>
 j9 (fun _ =>
 some true) (fun y6 =>
 some y6) b4)
def c6F (_:Nat)(rec_core_all:(List Val)->Api_Type->(List Int)->Option Bool)(_:Ent->Api_Type->Api_TypeNode->Option Bool)(rec_core_functionHas:Val->Api_Type->Api_TypeNode->Option Bool)(rec_core_Has:Val->Api_Type->Int->Option Bool)(rec_core_Has_1:Int->Val->Api_Type->Option Bool)(rec_core_Has_2:Int->Val->Api_Type->Option Bool)(rec_core_mapHas:Val->Api_Type->Api_TypeNode->Option Bool)(d:Val)(t:Api_Type)(a2_2:Int):Option Bool :=
 Option.bind (idx t.Nodes a2_2) fun e1 =>
 bif e1.Kind==2
 then (some true)
 else (bif e1.Kind==3
 then (Option.bind (bif d.Kind==1
 then (some (decide (e1.Lo<=d.Int_)))
 else (some false)) fun q2 =>
 Option.bind (bif q2
 then (some (decide (d.Int_<=e1.Hi)))
 else (some false)) fun q3 =>
 some q3)
 else (bif e1.Kind==4
 then (Option.bind (bif d.Kind==2
 then (some (J5 d.Text e1.Text))
 else (some false)) fun q4 =>
 some q4)
 else (bif e1.Kind==6
 then (Option.bind (bif d.Kind==3
 then (some (J5 d.Text e1.Text))
 else (some false)) fun q5 =>
 some q5)
 else (Option.bind (bif e1.Kind==5
 then (some (e1.Kind==5))
 else (bif e1.Kind==7
 then (some (e1.Kind==7))
 else (bif e1.Kind==8
 then (some (e1.Kind==8))
 else (bif e1.Kind==9
 then (some (e1.Kind==9))
 else (bif e1.Kind==11
 then (some (e1.Kind==11))
 else (some (e1.Kind==15))))))) fun b6 =>
 bif b6
 then (Option.bind (b9o e1.Kind) fun r7 =>
 some (d.Kind==r7))
 else (bif e1.Kind==10
 then (Option.bind (bif d.Kind==6
 then (Option.bind (rec_core_all d.Kids t e1.Kids) fun r8 =>
 some r8)
 else (some false)) fun q9 =>
 some q9)
 else (bif e1.Kind==12
 then (Option.bind (bif d.Kind==7
 then (Option.bind (rec_core_all d.Kids t e1.Kids) fun r10 =>
 some r10)
 else (some false)) fun q11 =>
 some q11)
 else (bif e1.Kind==13
 then (Option.bind (bif d.Kind==8
 then (Option.bind (rec_core_mapHas d t e1) fun r12 =>
 some r12)
 else (some false)) fun q13 =>
 some q13)
 else (bif e1.Kind==14
 then (Option.bind (bif d.Kind==9
 then (Option.bind (rec_core_functionHas d t e1) fun r14 =>
 some r14)
 else (some false)) fun q15 =>
 some q15)
 else (bif e1.Kind==16
 then (Option.bind (J7 e1.Kids (fun z16 =>
 Option.bind (rec_core_Has_1 z16 d t) fun r17 =>
 some r17)) fun r18 =>
 some r18)
 else (bif e1.Kind==17
 then (Option.bind (J7 e1.Kids (fun z19 =>
 Option.bind (rec_core_Has_2 z19 d t) fun r20 =>
 some r20)) fun r21 =>
 some (!r21))
 else (bif e1.Kind==18
 then (Option.bind (idx e1.Kids 0) fun e22 =>
 Option.bind (rec_core_Has d t e22) fun r23 =>
 some (!r23))
 else (bif e1.Kind==19
 then (Option.bind (a13 d.Labels e1.Text) fun r24 =>
 some r24)
 else (some false)))))))))))))
def c4z (_:Nat)(_:(List Val)->Api_Type->(List Int)->Option Bool)(_:Ent->Api_Type->Api_TypeNode->Option Bool)(_:Val->Api_Type->Api_TypeNode->Option Bool)(rec_core_Has:Val->Api_Type->Int->Option Bool)(_:Int->Val->Api_Type->Option Bool)(_:Int->Val->Api_Type->Option Bool)(_:Val->Api_Type->Api_TypeNode->Option Bool)(k:Int)(a1_1:Val)(a2_2:Api_Type):Option Bool :=
 Option.bind (rec_core_Has a1_1 a2_2 k) fun r1 =>
 some r1
def c4l (_:Nat)(_:(List Val)->Api_Type->(List Int)->Option Bool)(_:Ent->Api_Type->Api_TypeNode->Option Bool)(_:Val->Api_Type->Api_TypeNode->Option Bool)(rec_core_Has:Val->Api_Type->Int->Option Bool)(_:Int->Val->Api_Type->Option Bool)(_:Int->Val->Api_Type->Option Bool)(_:Val->Api_Type->Api_TypeNode->Option Bool)(k:Int)(a1_1:Val)(a2_2:Api_Type):Option Bool :=
 Option.bind (rec_core_Has a1_1 a2_2 k) fun r1 =>
 some (!r1)
def c21 (_:Nat)(_:(List Val)->Api_Type->(List Int)->Option Bool)(_:Ent->Api_Type->Api_TypeNode->Option Bool)(_:Val->Api_Type->Api_TypeNode->Option Bool)(rec_core_Has:Val->Api_Type->Int->Option Bool)(_:Int->Val->Api_Type->Option Bool)(_:Int->Val->Api_Type->Option Bool)(_:Val->Api_Type->Api_TypeNode->Option Bool)(v:Val)(t:Api_Type)(n_2:Api_TypeNode):Option Bool :=
 Option.bind (y9 (c2d v n_2) ((n_2.Fields.length:Int).toNat+1) 0) fun b5 =>
 j9 (fun _ =>
 Option.bind (y9 (c1F v t n_2 rec_core_Has) ((v.Keys.length:Int).toNat+1) 0) fun b13 =>
 j9 (fun _ =>
 some true) (fun y15 =>
 some y15) b13) (fun y7 =>
 some y7) b5
def j7:Nat->((List Val)->Api_Type->(List Int)->Option Bool)×(Ent->Api_Type->Api_TypeNode->Option Bool)×(Val->Api_Type->Api_TypeNode->Option Bool)×(Val->Api_Type->Int->Option Bool)×(Int->Val->Api_Type->Option Bool)×(Int->Val->Api_Type->Option Bool)×(Val->Api_Type->Api_TypeNode->Option Bool)
 | 0=>(fun _ _ _=>none,fun _ _ _=>none,fun _ _ _=>none,fun _ _ _=>none,fun _ _ _=>none,fun _ _ _=>none,fun _ _ _=>none)
 | n+1=>(c7f n ((j7 n).1) ((j7 n).2.1) ((j7 n).2.2.1) ((j7 n).2.2.2.1) ((j7 n).2.2.2.2.1) ((j7 n).2.2.2.2.2.1) ((j7 n).2.2.2.2.2.2),b6p n ((j7 n).1) ((j7 n).2.1) ((j7 n).2.2.1) ((j7 n).2.2.2.1) ((j7 n).2.2.2.2.1) ((j7 n).2.2.2.2.2.1) ((j7 n).2.2.2.2.2.2),b7e n ((j7 n).1) ((j7 n).2.1) ((j7 n).2.2.1) ((j7 n).2.2.2.1) ((j7 n).2.2.2.2.1) ((j7 n).2.2.2.2.2.1) ((j7 n).2.2.2.2.2.2),c6F n ((j7 n).1) ((j7 n).2.1) ((j7 n).2.2.1) ((j7 n).2.2.2.1) ((j7 n).2.2.2.2.1) ((j7 n).2.2.2.2.2.1) ((j7 n).2.2.2.2.2.2),c4z n ((j7 n).1) ((j7 n).2.1) ((j7 n).2.2.1) ((j7 n).2.2.2.1) ((j7 n).2.2.2.2.1) ((j7 n).2.2.2.2.2.1) ((j7 n).2.2.2.2.2.2),c4l n ((j7 n).1) ((j7 n).2.1) ((j7 n).2.2.1) ((j7 n).2.2.2.1) ((j7 n).2.2.2.2.1) ((j7 n).2.2.2.2.2.1) ((j7 n).2.2.2.2.2.2),c21 n ((j7 n).1) ((j7 n).2.1) ((j7 n).2.2.1) ((j7 n).2.2.2.1) ((j7 n).2.2.2.2.1) ((j7 n).2.2.2.2.2.1) ((j7 n).2.2.2.2.2.2))
def c9q (n:Nat):(List Val)->Api_Type->(List Int)->Option Bool:=(j7 n).1
def b8V (n:Nat):Ent->Api_Type->Api_TypeNode->Option Bool:=(j7 n).2.1
def b9E (n:Nat):Val->Api_Type->Api_TypeNode->Option Bool:=(j7 n).2.2.1
def b9R (n:Nat):Val->Api_Type->Int->Option Bool:=(j7 n).2.2.2.1
def c67 (n:Nat):Int->Val->Api_Type->Option Bool:=(j7 n).2.2.2.2.1
def c6t (n:Nat):Int->Val->Api_Type->Option Bool:=(j7 n).2.2.2.2.2.1
def c5J (n:Nat):Val->Api_Type->Api_TypeNode->Option Bool:=(j7 n).2.2.2.2.2.2
def b6d (n:Nat)(i:Int)(a1_1:Val)(a2_2:Api_Type):Option Bool :=
 Option.bind (b9R n a1_1 a2_2 i) fun r1 =>
 some (!r1)
def b6f (n:Nat)(i:Int)(a1_1:Val)(a2_2:Api_Type):Option Bool :=
 Option.bind (b9R n a1_1 a2_2 i) fun r1 =>
 some r1
def b9i (n:Nat)(v:Val)(t:Api_Type)(pos:List Int)(neg:List Int):Option Bool :=
 Option.bind (J7 pos (fun z1 =>
 Option.bind (b6d n z1 v t) fun r2 =>
 some r2)) fun r3 =>
 Option.bind (bif !r3
 then (Option.bind (J7 neg (fun z4 =>
 Option.bind (b6f n z4 v t) fun r5 =>
 some r5)) fun r6 =>
 some (!r6))
 else (some false)) fun q7 =>
 some q7
def b0E (n:Nat)(v:Val)(t:Api_Type)(g:Api_Goal):Option Bool :=
 Option.bind (a5P n v) fun r1 =>
 Option.bind (bif r1 != 0
 then (some true)
 else (Option.bind (W2 n t) fun r2 =>
 some (r2 != 0))) fun q3 =>
 Option.bind (bif q3
 then (some true)
 else (Option.bind (a4U t g) fun r4 =>
 some (!r4))) fun q5 =>
 bif q5
 then (some false)
 else (Option.bind (bif g.Lists
 then (some (v.Kind != 5))
 else (some false)) fun q6 =>
 Option.bind (bif q6
 then (some (v.Kind != 7))
 else (some false)) fun q7 =>
 bif q7
 then (some false)
 else (Option.bind (b9i n v t g.Pos g.Neg) fun r8 =>
 some r8))
def b9Y (v:List Val)(t:Api_Type)(b:Api_Box)(n:Nat)(x1:Int):Option (Fl Int (Sum Unit Bool)) :=
 bif decide (x1<(v.length:Int))
 then (Option.bind (idx v x1) fun e2 =>
 Option.bind (idx b.Parts x1) fun e3 =>
 Option.bind (b0E n e2 t e3) fun r4 =>
 bif !r4
 then (some (.done (.inr false)))
 else (some (.next (wr .i64 (x1+1)))))
 else (some (.done (.inl ())))
def b6h (n:Nat)(v:List Val)(t:Api_Type)(b:Api_Box):Option Bool :=
 bif (v.length:Int) != (b.Parts.length:Int)
 then (some false)
 else (Option.bind (y9 (b9Y v t b n) ((v.length:Int).toNat+1) 0) fun b5 =>
 j9 (fun _ =>
 some true) (fun y7 =>
 some y7) b5)
def a4P (s:List Val)(f:Val->Option Bool)(x1:Int):Option (Fl Int (Sum Unit Int)) :=
 bif decide (x1<(s.length:Int))
 then (Option.bind (idx s x1) fun e2 =>
 Option.bind (f e2) fun r3 =>
 bif r3
 then (some (.done (.inr x1)))
 else (some (.next (wr .i64 (x1+1)))))
 else (some (.done (.inl ())))
def a2m (s:List Val)(f:Val->Option Bool):Option Int :=
 Option.bind (y9 (a4P s f) ((s.length:Int).toNat+1) 0) fun b4 =>
 j9 (fun _ =>
 some (-1)) (fun y6 =>
 some y6) b4
def b7U (n:Nat)(k:Val)(a1_1:Api_Type)(a2_2:Api_Goal):Option Bool :=
 Option.bind (b0E n k a1_1 a2_2) fun r1 =>
 some r1
def c3p (t:Api_Type)(a:Api_Alternative)(v:Val)(n:Nat)(x3:(List Val)×Int):Option (Fl ((List Val)×Int) (Sum (List Val) ((List Val)×Bool))) :=
 bif decide (x3.2<(a.Subgoals.length:Int))
 then (Option.bind (idx a.Subgoals x3.2) fun e4 =>
 Option.bind (a2m v.Kids (fun z5 =>
 Option.bind (b7U n z5 t e4) fun r6 =>
 some r6)) fun r7 =>
 bif decide (r7<0)
 then (some (.done (.inr ([],false))))
 else (Option.bind (idx v.Kids r7) fun e8 =>
 Option.bind (Z1 (x3.1.length+([e8]:List Val).length) 128) fun _ =>
 some (.next (x3.1++([e8]:List Val),wr .i64 (x3.2+1)))))
 else (some (.done (.inl x3.1)))
def c0Y (n:Nat)(t:Api_Type)(a:Api_Alternative)(v:Val):Option ((List Val)×Bool) :=
 Option.bind (bif v.Kind==6
 then (some (v.Kind==6))
 else (some (v.Kind==7))) fun b1 =>
 bif b1
 then (Option.bind (b6h n v.Kids t (Api_Box.mk a.Subgoals)) fun r2 =>
 bif !r2
 then (some (([]:List Val),false))
 else (some (v.Kids,true)))
 else (bif v.Kind==8
 then (Option.bind (y9 (c3p t a v n) ((a.Subgoals.length:Int).toNat+1) ([],0)) fun b10 =>
 j9 (fun x11 =>
 some (x11,true)) (fun y12 =>
 some (y12.1,y12.2)) b10)
 else (bif v.Kind==9
 then (none)
 else (some (([]:List Val),(a.Subgoals.length:Int)==0))))
def b8S (l:List Val)(rec_value_clone:Val->Option Val)(x1:(List Val)×Int):Option (Fl ((List Val)×Int) (List Val)) :=
 bif decide (x1.2<(l.length:Int))
 then (Option.bind (idx l x1.2) fun e2 =>
 Option.bind (rec_value_clone e2) fun r3 =>
 Option.bind (Z1 (x1.1.length+([r3]:List Val).length) 128) fun _ =>
 some (.next (x1.1++([r3]:List Val),wr .i64 (x1.2+1))))
 else (some (.done x1.1))
def b4o (l:List Ent)(rec_value_cloneAll:(List Val)->Option (List Val))(rec_value_clone:Val->Option Val)(x1:(List Ent)×Int):Option (Fl ((List Ent)×Int) (List Ent)) :=
 bif decide (x1.2<(l.length:Int))
 then (Option.bind (idx l x1.2) fun _ =>
 Option.bind (l[x1.2.toNat]?) fun e3 =>
 Option.bind (rec_value_cloneAll e3.Args) fun r4 =>
 Option.bind (rec_value_clone e3.Result) fun r5 =>
 Option.bind (Z1 (x1.1.length+([Ent.mk r4 e3.Fails r5]:List Ent).length) 160) fun _ =>
 some (.next (x1.1++([Ent.mk r4 e3.Fails r5]:List Ent),wr .i64 (x1.2+1))))
 else (some (.done x1.1))
def c3g (_:Nat)(_:Val->Option Val)(rec_value_cloneAll:(List Val)->Option (List Val))(rec_value_cloneEntries:(List Ent)->Option (List Ent))(v:Val):Option Val :=
 Option.bind (rec_value_cloneAll v.Kids) fun r1 =>
 Option.bind (a0l 24 v.Keys) fun r2 =>
 Option.bind (a0l 16 v.Labels) fun r3 =>
 Option.bind (rec_value_cloneEntries v.Entries) fun r4 =>
 some (Val.mk v.Kind v.Int_ v.Text r1 r2 r4 r3)
def c0j (_:Nat)(rec_value_clone:Val->Option Val)(_:(List Val)->Option (List Val))(_:(List Ent)->Option (List Ent))(l:List Val):Option (List Val) :=
 Option.bind (y9 (b8S l rec_value_clone) ((l.length:Int).toNat+1) ([],0)) fun b5 =>
 some b5
def b5N (_:Nat)(rec_value_clone:Val->Option Val)(rec_value_cloneAll:(List Val)->Option (List Val))(_:(List Ent)->Option (List Ent))(l:List Ent):Option (List Ent) :=
 Option.bind (y9 (b4o l rec_value_cloneAll rec_value_clone) ((l.length:Int).toNat+1) ([],0)) fun b7 =>
 some b7
def W0:Nat->(Val->Option Val)×((List Val)->Option (List Val))×((List Ent)->Option (List Ent))
 | 0=>(fun _=>none,fun _=>none,fun _=>none)
 | n+1=>(c3g n ((W0 n).1) ((W0 n).2.1) ((W0 n).2.2),c0j n ((W0 n).1) ((W0 n).2.1) ((W0 n).2.2),b5N n ((W0 n).1) ((W0 n).2.1) ((W0 n).2.2))
def b9t (n:Nat):Val->Option Val:=(W0 n).1
def b4F (n:Nat):(List Val)->Option (List Val):=(W0 n).2.1
def b7D (n:Nat):(List Ent)->Option (List Ent):=(W0 n).2.2
def a6G (n:Nat)(v:Val)(names:List ByteArray):Option Val :=
 Option.bind (b9t n v) fun r1 =>
 Option.bind (a0l 16 names) fun r2 =>
 Option.bind (b8K r2) fun r3 =>
 Option.bind (a0V r3.2) fun r4 =>
 Option.bind (a1D r4) fun r5 =>
 some (Val.mk r1.Kind r1.Int_ r1.Text r1.Kids r1.Keys r1.Entries r5)
def c3m (n:Nat)(r6:(List Val)×Bool)(x7:(List Val)×Int):Option (Fl ((List Val)×Int) (List Val)) :=
 bif decide (x7.2<(r6.1.length:Int))
 then (Option.bind (idx r6.1 x7.2) fun e8 =>
 Option.bind (a6G n e8 e8.Labels) fun r9 =>
 Option.bind (Z1 (x7.1.length+([r9]:List Val).length) 128) fun _ =>
 some (.next (x7.1++([r9]:List Val),wr .i64 (x7.2+1))))
 else (some (.done x7.1))
def c3f (t:Api_Type)(l:List Api_Alternative)(v:Val)(n:Nat)(x4:Int):Option (Fl Int (Sum Unit (Int×(List Val)×Bool))) :=
 bif decide (x4<(l.length:Int))
 then (Option.bind (idx l x4) fun e5 =>
 bif e5.Leaf.Kind != v.Kind
 then (some (.next (wr .i64 (x4+1))))
 else (Option.bind (c0Y n t e5 v) fun r6 =>
 bif r6.2
 then (Option.bind (y9 (c3m n r6) ((r6.1.length:Int).toNat+1) ([],0)) fun b11 =>
 some (.done (.inr (x4,b11,true))))
 else (some (.next (wr .i64 (x4+1))))))
 else (some (.done (.inl ())))
def c0I (n:Nat)(t:Api_Type)(l:List Api_Alternative)(v:Val):Option (Int×(List Val)×Bool) :=
 Option.bind (a5P n v) fun r1 =>
 Option.bind (bif r1 != 0
 then (some true)
 else (Option.bind (W2 n t) fun r2 =>
 some (r2 != 0))) fun q3 =>
 bif q3
 then (some (0,[],false))
 else (Option.bind (y9 (c3f t l v n) ((l.length:Int).toNat+1) 0) fun b12 =>
 j9 (fun _ =>
 some (0,[],false)) (fun y14 =>
 some (y14.1,y14.2.1,y14.2.2)) b12)
def b2K (n:Nat)(l:List Val):Option Val :=
 Option.bind (b4F n l) fun r1 =>
 some (Val.mk 6 0 (⟨#[]⟩:ByteArray) r1 ([]:List Key) ([]:List Ent) ([]:List ByteArray))
def c2H (n:Nat)(d:Api_Alternative)(t:List Val):Option (Val×Int) :=
 bif (t.length:Int) != (d.Subgoals.length:Int)
 then (some (Val.mk 0 0 (⟨#[]⟩:ByteArray) ([]:List Val) ([]:List Key) ([]:List Ent) ([]:List ByteArray),1))
 else (Option.bind (bif d.Leaf.Kind==6
 then (Option.bind (b2K n t) fun r1 =>
 some (.inl ((0,0,(⟨#[]⟩:ByteArray),[],[],[],[]),(r1.Kind,r1.Int_,r1.Text,r1.Kids,r1.Keys,r1.Entries,r1.Labels))))
 else (bif d.Leaf.Kind==7
 then (Option.bind (b2K n t) fun r2 =>
 some (.inl ((0,0,(⟨#[]⟩:ByteArray),[],[],[],[]),(7,r2.Int_,r2.Text,r2.Kids,r2.Keys,r2.Entries,r2.Labels))))
 else (bif d.Leaf.Kind==8
 then (bif (d.Keys.length:Int) != (t.length:Int)
 then (some (.inr (1,(0,0,(⟨#[]⟩:ByteArray),[],[],[],[]),(0,0,(⟨#[]⟩:ByteArray),([]:List Val),([]:List Key),([]:List Ent),([]:List ByteArray)))))
 else (none))
 else (bif d.Leaf.Kind==9
 then (none)
 else (Option.bind (a6G n d.Leaf ([]:List ByteArray)) fun r3 =>
 some (.inl ((0,0,(⟨#[]⟩:ByteArray),[],[],[],[]),(r3.Kind,r3.Int_,r3.Text,r3.Kids,r3.Keys,r3.Entries,r3.Labels)))))))) fun (b4:Sum ((Int×Int×ByteArray×(List Val)×(List Key)×(List Ent)×(List ByteArray))×(Int×Int×ByteArray×(List Val)×(List Key)×(List Ent)×(List ByteArray))) (Int×(Int×Int×ByteArray×(List Val)×(List Key)×(List Ent)×(List ByteArray))×(Int×Int×ByteArray×(List Val)×(List Key)×(List Ent)×(List ByteArray)))) =>
 j9 (fun x5 =>
 Option.bind (a0l 16 d.Leaf.Labels) fun r7 =>
 Option.bind (a5P n (Val.mk x5.2.1 x5.2.2.1 x5.2.2.2.1 x5.2.2.2.2.1 x5.2.2.2.2.2.1 x5.2.2.2.2.2.2.1 r7)) fun r8 =>
 bif r8 != 0
 then (some (Val.mk 0 0 (⟨#[]⟩:ByteArray) ([]:List Val) ([]:List Key) ([]:List Ent) ([]:List ByteArray),1))
 else (some (Val.mk x5.2.1 x5.2.2.1 x5.2.2.2.1 x5.2.2.2.2.1 x5.2.2.2.2.2.1 x5.2.2.2.2.2.2.1 r7,0))) (fun y6 =>
 some (Val.mk y6.2.1.1 y6.2.1.2.1 y6.2.1.2.2.1 y6.2.1.2.2.2.1 y6.2.1.2.2.2.2.1 y6.2.1.2.2.2.2.2.1 y6.2.1.2.2.2.2.2.2,y6.1)) b4)
def a2B (c:Int):Option Bool :=
 Option.bind (bif decide (65<=c)
 then (some (decide (c<=90)))
 else (some false)) fun q1 =>
 some q1
def a1Y (c:Int):Option Bool :=
 Option.bind (bif decide (97<=c)
 then (some (decide (c<=122)))
 else (some false)) fun q1 =>
 some q1
def a2G (c:Int):Option Bool :=
 Option.bind (bif decide (48<=c)
 then (some (decide (c<=57)))
 else (some false)) fun q1 =>
 some q1
def a2O (s:ByteArray)(x5:Int):Option (Fl Int (Sum Unit Bool)) :=
 bif decide (x5<(s.size:Int))
 then (Option.bind (a4E s x5) fun e6 =>
 Option.bind (a1Y (e6.toNat:Int)) fun r7 =>
 Option.bind (bif !r7
 then (Option.bind (a4E s x5) fun e8 =>
 Option.bind (a2B (e8.toNat:Int)) fun r9 =>
 some (!r9))
 else (some false)) fun q10 =>
 Option.bind (bif q10
 then (Option.bind (a4E s x5) fun e11 =>
 Option.bind (a2G (e11.toNat:Int)) fun r12 =>
 some (!r12))
 else (some false)) fun q13 =>
 Option.bind (bif q13
 then (Option.bind (a4E s x5) fun e14 =>
 some ((e14.toNat:Int) != 95))
 else (some false)) fun q15 =>
 bif q15
 then (some (.done (.inr false)))
 else (some (.next (wr .i64 (x5+1)))))
 else (some (.done (.inl ())))
def a1m (s:ByteArray):Option Bool :=
 Option.bind (bif decide ((s.size:Int)<1)
 then (some true)
 else (some (decide (16<(s.size:Int))))) fun q1 =>
 Option.bind (bif q1
 then (some true)
 else (Option.bind (a4E s 0) fun e2 =>
 Option.bind (a2B (e2.toNat:Int)) fun r3 =>
 some (!r3))) fun q4 =>
 bif q4
 then (some false)
 else (Option.bind (y9 (a2O s) ((s.size:Int).toNat+1) 1) fun b16 =>
 j9 (fun _ =>
 some true) (fun y18 =>
 some y18) b16)
def a38 (s:ByteArray)(x5:Int):Option (Fl Int (Sum Unit Bool)) :=
 bif decide (x5<(s.size:Int))
 then (Option.bind (a4E s x5) fun e6 =>
 Option.bind (a1Y (e6.toNat:Int)) fun r7 =>
 Option.bind (bif !r7
 then (Option.bind (a4E s x5) fun e8 =>
 Option.bind (a2G (e8.toNat:Int)) fun r9 =>
 some (!r9))
 else (some false)) fun q10 =>
 Option.bind (bif q10
 then (Option.bind (a4E s x5) fun e11 =>
 some ((e11.toNat:Int) != 95))
 else (some false)) fun q12 =>
 bif q12
 then (some (.done (.inr false)))
 else (some (.next (wr .i64 (x5+1)))))
 else (some (.done (.inl ())))
def a1u (s:ByteArray):Option Bool :=
 Option.bind (bif decide ((s.size:Int)<1)
 then (some true)
 else (some (decide (16<(s.size:Int))))) fun q1 =>
 Option.bind (bif q1
 then (some true)
 else (Option.bind (a4E s 0) fun e2 =>
 Option.bind (a1Y (e2.toNat:Int)) fun r3 =>
 some (!r3))) fun q4 =>
 bif q4
 then (some false)
 else (Option.bind (y9 (a38 s) ((s.size:Int).toNat+1) 1) fun b13 =>
 j9 (fun _ =>
 some true) (fun y15 =>
 some y15) b13)
def a0X (k:Key):Option Bool :=
 Option.bind (bif k.Kind==0
 then (Option.bind (a1u k.Text) fun r1 =>
 some r1)
 else (some false)) fun q2 =>
 Option.bind (bif q2
 then (some true)
 else (Option.bind (bif k.Kind==1
 then (some (decide ((k.Text.size:Int)<=64)))
 else (some false)) fun q3 =>
 some q3)) fun q4 =>
 some q4
def a1Z (a:Int)(b:Int):Option Int :=
 bif decide (a<b)
 then (some (-1))
 else (bif decide (b<a)
 then (some 1)
 else (some 0))
def a0P (a:ByteArray)(b:ByteArray):Option Int :=
 bif a1U a b
 then (some (-1))
 else (bif !(a1U a b||J5 a b)
 then (some 1)
 else (some 0))
def V2 (a:Key)(b:Key):Option Int :=
 bif a.Kind != b.Kind
 then (Option.bind (a1Z a.Kind b.Kind) fun r1 =>
 some r1)
 else (Option.bind (a0P a.Text b.Text) fun r2 =>
 some r2)
def a0c (a:Int)(b:Int):Option Int :=
 Option.bind (a1Z a b) fun r1 =>
 some r1
def a6h (d:Val)(t:Val)(x5:Int):Option (Fl Int (Sum Unit Int)) :=
 bif decide (x5<(d.Keys.length:Int))
 then (Option.bind (idx d.Keys x5) fun e6 =>
 Option.bind (idx t.Keys x5) fun e7 =>
 Option.bind (V2 e6 e7) fun r8 =>
 bif r8 != 0
 then (some (.done (.inr r8)))
 else (some (.next (wr .i64 (x5+1)))))
 else (some (.done (.inl ())))
def a6k (d:Val)(t:Val)(rec_semtyperef1_CompareEntries:Ent->Ent->Option Int)(x14:Int):Option (Fl Int (Sum Unit Int)) :=
 bif decide (x14<(d.Entries.length:Int))
 then (Option.bind (idx d.Entries x14) fun e15 =>
 Option.bind (idx t.Entries x14) fun e16 =>
 Option.bind (rec_semtyperef1_CompareEntries e15 e16) fun r17 =>
 bif r17 != 0
 then (some (.done (.inr r17)))
 else (some (.next (wr .i64 (x14+1)))))
 else (some (.done (.inl ())))
def a6n (d:Val)(t:Val)(x22:Int):Option (Fl Int (Sum Unit Int)) :=
 bif decide (x22<(d.Labels.length:Int))
 then (Option.bind (idx d.Labels x22) fun e23 =>
 Option.bind (idx t.Labels x22) fun e24 =>
 Option.bind (a0P e23 e24) fun r25 =>
 bif r25 != 0
 then (some (.done (.inr r25)))
 else (some (.next (wr .i64 (x22+1)))))
 else (some (.done (.inl ())))
def a6Q (a:List Val)(b:List Val)(rec_semtyperef1_Compare:Val->Val->Option Int)(x2:Int):Option (Fl Int (Sum Unit Int)) :=
 bif decide (x2<(a.length:Int))
 then (Option.bind (idx a x2) fun e3 =>
 Option.bind (idx b x2) fun e4 =>
 Option.bind (rec_semtyperef1_Compare e3 e4) fun r5 =>
 bif r5 != 0
 then (some (.done (.inr r5)))
 else (some (.next (wr .i64 (x2+1)))))
 else (some (.done (.inl ())))
def a4b (_:Nat)(_:Val->Val->Option Int)(rec_semtyperef1_values:(List Val)->(List Val)->Option Int)(rec_semtyperef1_CompareEntries:Ent->Ent->Option Int)(d:Val)(t:Val):Option Int :=
 bif d.Kind != t.Kind
 then (Option.bind (a0c d.Kind t.Kind) fun r1 =>
 some r1)
 else (bif d.Int_ != t.Int_
 then (Option.bind (a1Z d.Int_ t.Int_) fun r2 =>
 some r2)
 else (bif !(J5 d.Text t.Text)
 then (Option.bind (a0P d.Text t.Text) fun r3 =>
 some r3)
 else (bif (d.Keys.length:Int) != (t.Keys.length:Int)
 then (Option.bind (a0c (d.Keys.length:Int) (t.Keys.length:Int)) fun r4 =>
 some r4)
 else (Option.bind (y9 (a6h d t) ((d.Keys.length:Int).toNat+1) 0) fun b9 =>
 j9 (fun _ =>
 Option.bind (rec_semtyperef1_values d.Kids t.Kids) fun r12 =>
 bif r12 != 0
 then (some r12)
 else (bif (d.Entries.length:Int) != (t.Entries.length:Int)
 then (Option.bind (a0c (d.Entries.length:Int) (t.Entries.length:Int)) fun r13 =>
 some r13)
 else (Option.bind (y9 (a6k d t rec_semtyperef1_CompareEntries) ((d.Entries.length:Int).toNat+1) 0) fun b18 =>
 j9 (fun _ =>
 bif (d.Labels.length:Int) != (t.Labels.length:Int)
 then (Option.bind (a0c (d.Labels.length:Int) (t.Labels.length:Int)) fun r21 =>
 some r21)
 else (Option.bind (y9 (a6n d t) ((d.Labels.length:Int).toNat+1) 0) fun b26 =>
 j9 (fun _ =>
 some 0) (fun y28 =>
 some y28) b26)) (fun y20 =>
 some y20) b18))) (fun y11 =>
 some y11) b9))))
def a4y (_:Nat)(rec_semtyperef1_Compare:Val->Val->Option Int)(_:(List Val)->(List Val)->Option Int)(_:Ent->Ent->Option Int)(a:List Val)(b:List Val):Option Int :=
 bif (a.length:Int) != (b.length:Int)
 then (Option.bind (a0c (a.length:Int) (b.length:Int)) fun r1 =>
 some r1)
 else (Option.bind (y9 (a6Q a b rec_semtyperef1_Compare) ((a.length:Int).toNat+1) 0) fun b6 =>
 j9 (fun _ =>
 some 0) (fun y8 =>
 some y8) b6)
def a2c (_:Nat)(rec_semtyperef1_Compare:Val->Val->Option Int)(rec_semtyperef1_values:(List Val)->(List Val)->Option Int)(_:Ent->Ent->Option Int)(a:Ent)(b:Ent):Option Int :=
 Option.bind (rec_semtyperef1_values a.Args b.Args) fun r1 =>
 bif r1 != 0
 then (some r1)
 else (bif a.Fails != b.Fails
 then (bif a.Fails
 then (some (-1))
 else (some 1))
 else (Option.bind (rec_semtyperef1_Compare a.Result b.Result) fun r2 =>
 some r2))
def Y8:Nat->(Val->Val->Option Int)×((List Val)->(List Val)->Option Int)×(Ent->Ent->Option Int)
 | 0=>(fun _ _=>none,fun _ _=>none,fun _ _=>none)
 | n+1=>(a4b n ((Y8 n).1) ((Y8 n).2.1) ((Y8 n).2.2),a4y n ((Y8 n).1) ((Y8 n).2.1) ((Y8 n).2.2),a2c n ((Y8 n).1) ((Y8 n).2.1) ((Y8 n).2.2))
def X9 (n:Nat):Val->Val->Option Int:=(Y8 n).1
def a2q (n:Nat):(List Val)->(List Val)->Option Int:=(Y8 n).2.1
def Z7 (n:Nat):Ent->Ent->Option Int:=(Y8 n).2.2
def a2C (n:Nat)(a:Val)(b:Val):Option Bool :=
 Option.bind (X9 n a b) fun r1 =>
 some (r1==0)
def a3q (d:Val)(x1:Int):Option (Fl Int (Sum Unit Bool)) :=
 bif decide (x1<(d.Labels.length:Int))
 then (Option.bind (idx d.Labels x1) fun e2 =>
 Option.bind (a1m e2) fun r3 =>
 Option.bind (bif !r3
 then (some true)
 else (Option.bind (bif decide (0<x1)
 then (Option.bind (idx d.Labels (wr .i64 (x1-1))) fun e4 =>
 Option.bind (idx d.Labels x1) fun e5 =>
 some (!(a1U e4 e5)))
 else (some false)) fun q6 =>
 some q6)) fun q7 =>
 bif q7
 then (some (.done (.inr false)))
 else (some (.next (wr .i64 (x1+1)))))
 else (some (.done (.inl ())))
def a3s (d:Val)(x31:Int):Option (Fl Int (Sum Unit Bool)) :=
 bif decide (x31<(d.Keys.length:Int))
 then (Option.bind (idx d.Keys x31) fun e32 =>
 Option.bind (a0X e32) fun r33 =>
 Option.bind (bif !r33
 then (some true)
 else (Option.bind (bif decide (0<x31)
 then (Option.bind (idx d.Keys (wr .i64 (x31-1))) fun e34 =>
 Option.bind (idx d.Keys x31) fun e35 =>
 Option.bind (V2 e34 e35) fun r36 =>
 some (decide (0<=r36)))
 else (some false)) fun q37 =>
 some q37)) fun q38 =>
 bif q38
 then (some (.done (.inr false)))
 else (some (.next (wr .i64 (x31+1)))))
 else (some (.done (.inl ())))
def a3n (d:Val)(n:Nat)(x43:Int):Option (Fl Int (Sum Unit Bool)) :=
 bif decide (x43<(d.Entries.length:Int))
 then (Option.bind (idx d.Entries x43) fun e44 =>
 Option.bind (bif (e44.Args.length:Int) != d.Int_
 then (some true)
 else (Option.bind (bif e44.Fails
 then (Option.bind (a2C n e44.Result (Val.mk 0 0 (⟨#[]⟩:ByteArray) ([]:List Val) ([]:List Key) ([]:List Ent) ([]:List ByteArray))) fun r45 =>
 some (!r45))
 else (some false)) fun q46 =>
 some q46)) fun q47 =>
 Option.bind (bif q47
 then (some true)
 else (Option.bind (bif decide (0<x43)
 then (Option.bind (idx d.Entries (wr .i64 (x43-1))) fun e48 =>
 Option.bind (Z7 n e48 e44) fun r49 =>
 some (decide (0<=r49)))
 else (some false)) fun q50 =>
 some q50)) fun q51 =>
 bif q51
 then (some (.done (.inr false)))
 else (some (.next (wr .i64 (x43+1)))))
 else (some (.done (.inl ())))
def a4x (n:Nat)(d:Val):Option Bool :=
 Option.bind (y9 (a3q d) ((d.Labels.length:Int).toNat+1) 0) fun b8 =>
 j9 (fun _ =>
 Option.bind (bif d.Kind==1
 then (some true)
 else (some (d.Kind==4))) fun q11 =>
 Option.bind (bif q11
 then (some true)
 else (some (d.Kind==9))) fun q12 =>
 Option.bind (bif d.Kind==2
 then (some true)
 else (some (d.Kind==3))) fun q13 =>
 Option.bind (bif d.Kind==6
 then (some true)
 else (some (d.Kind==7))) fun q14 =>
 Option.bind (bif q14
 then (some true)
 else (some (d.Kind==8))) fun q15 =>
 Option.bind (bif !q12
 then (some (d.Int_ != 0))
 else (some false)) fun q16 =>
 Option.bind (bif q16
 then (some true)
 else (Option.bind (bif !q13
 then (some (!(J5 d.Text (⟨#[]⟩:ByteArray))))
 else (some false)) fun q17 =>
 some q17)) fun q18 =>
 Option.bind (bif q18
 then (some true)
 else (Option.bind (bif !q15
 then (some (decide (0<(d.Kids.length:Int))))
 else (some false)) fun q19 =>
 some q19)) fun q20 =>
 Option.bind (bif q20
 then (some true)
 else (Option.bind (bif d.Kind != 8
 then (some (decide (0<(d.Keys.length:Int))))
 else (some false)) fun q21 =>
 some q21)) fun q22 =>
 Option.bind (bif q22
 then (some true)
 else (Option.bind (bif d.Kind != 9
 then (some (decide (0<(d.Entries.length:Int))))
 else (some false)) fun q23 =>
 some q23)) fun q24 =>
 bif q24
 then (some false)
 else (Option.bind (bif d.Kind==1
 then (some (d.Kind==1))
 else (some (d.Kind==5))) fun b25 =>
 bif b25
 then (some true)
 else (bif d.Kind==2
 then (some (decide ((d.Text.size:Int)<=64)))
 else (bif d.Kind==3
 then (Option.bind (a1u d.Text) fun r26 =>
 some r26)
 else (bif d.Kind==4
 then (some (decide (0<=d.Int_)))
 else (bif d.Kind==6
 then (some (decide ((d.Kids.length:Int)<=4)))
 else (bif d.Kind==7
 then (Option.bind (bif (d.Kids.length:Int)==2
 then (Option.bind (idx d.Kids 1) fun e27 =>
 Option.bind (bif e27.Kind==5
 then (some true)
 else (Option.bind (idx d.Kids 1) fun e28 =>
 some (e28.Kind==7))) fun q29 =>
 some q29)
 else (some false)) fun q30 =>
 some q30)
 else (bif d.Kind==8
 then (Option.bind (y9 (a3s d) ((d.Keys.length:Int).toNat+1) 0) fun b39 =>
 j9 (fun _ =>
 some ((d.Keys.length:Int)==(d.Kids.length:Int))) (fun y41 =>
 some y41) b39)
 else (bif d.Kind==9
 then (Option.bind (bif decide (d.Int_<0)
 then (some true)
 else (some (decide (4<d.Int_)))) fun q42 =>
 bif q42
 then (some false)
 else (Option.bind (y9 (a3n d n) ((d.Entries.length:Int).toNat+1) 0) fun b52 =>
 j9 (fun _ =>
 some true) (fun y54 =>
 some y54) b52))
 else (some false)))))))))) (fun y10 =>
 some y10) b8
def a2K (v:Val)(rec_semtyperef1_Valid:Val->Option Bool)(x2:Int):Option (Fl Int (Sum Unit Bool)) :=
 bif decide (x2<(v.Kids.length:Int))
 then (Option.bind (idx v.Kids x2) fun e3 =>
 Option.bind (rec_semtyperef1_Valid e3) fun r4 =>
 bif !r4
 then (some (.done (.inr false)))
 else (some (.next (wr .i64 (x2+1)))))
 else (some (.done (.inl ())))
def a2R (rec_semtyperef1_Valid:Val->Option Bool)(e9:Ent)(x10:Int):Option (Fl Int (Sum Unit Bool)) :=
 bif decide (x10<(e9.Args.length:Int))
 then (Option.bind (idx e9.Args x10) fun e11 =>
 Option.bind (rec_semtyperef1_Valid e11) fun r12 =>
 bif !r12
 then (some (.done (.inr false)))
 else (some (.next (wr .i64 (x10+1)))))
 else (some (.done (.inl ())))
def a2L (v:Val)(rec_semtyperef1_Valid:Val->Option Bool)(x8:Int):Option (Fl Int (Sum Unit Bool)) :=
 bif decide (x8<(v.Entries.length:Int))
 then (Option.bind (idx v.Entries x8) fun e9 =>
 Option.bind (y9 (a2R rec_semtyperef1_Valid e9) ((e9.Args.length:Int).toNat+1) 0) fun b13 =>
 j9 (fun _ =>
 Option.bind (bif !e9.Fails
 then (Option.bind (rec_semtyperef1_Valid e9.Result) fun r16 =>
 some (!r16))
 else (some false)) fun q17 =>
 bif q17
 then (some (.done (.inr false)))
 else (some (.next (wr .i64 (x8+1))))) (fun y15 =>
 some (.done (.inr y15))) b13)
 else (some (.done (.inl ())))
def a4Z (n:Nat)(rec_semtyperef1_Valid:Val->Option Bool)(v:Val):Option Bool :=
 Option.bind (a4x n v) fun r1 =>
 bif !r1
 then (some false)
 else (Option.bind (y9 (a2K v rec_semtyperef1_Valid) ((v.Kids.length:Int).toNat+1) 0) fun b5 =>
 j9 (fun _ =>
 Option.bind (y9 (a2L v rec_semtyperef1_Valid) ((v.Entries.length:Int).toNat+1) 0) fun b18 =>
 j9 (fun _ =>
 some true) (fun y20 =>
 some y20) b18) (fun y7 =>
 some y7) b5)
def W5:Nat->Val->Option Bool
 | 0=>fun _=>none
 | n+1=>a4Z n (W5 n)
def W6 (t:Api_Type)(k:Int):Option Bool :=
 Option.bind (bif decide (0<=k)
 then (some (decide (k<(t.Nodes.length:Int))))
 else (some false)) fun q1 =>
 some q1
def a3k (d:Api_Type)(t:Api_TypeNode)(x1:Int):Option (Fl Int (Sum Unit Bool)) :=
 bif decide (x1<(t.Kids.length:Int))
 then (Option.bind (idx t.Kids x1) fun e2 =>
 Option.bind (W6 d e2) fun r3 =>
 bif !r3
 then (some (.done (.inr false)))
 else (some (.next (wr .i64 (x1+1)))))
 else (some (.done (.inl ())))
def a3m (d:Api_Type)(t:Api_TypeNode)(x24:Int):Option (Fl Int (Sum Unit Bool)) :=
 bif decide (x24<(t.Fields.length:Int))
 then (Option.bind (idx t.Fields x24) fun e25 =>
 Option.bind (W6 d e25.Node) fun r26 =>
 Option.bind (bif !r26
 then (some true)
 else (Option.bind (a0X e25.Key_) fun r27 =>
 some (!r27))) fun q28 =>
 Option.bind (bif q28
 then (some true)
 else (Option.bind (bif decide (0<x24)
 then (Option.bind (idx t.Fields (wr .i64 (x24-1))) fun e29 =>
 Option.bind (V2 e29.Key_ e25.Key_) fun r30 =>
 some (decide (0<=r30)))
 else (some false)) fun q31 =>
 some q31)) fun q32 =>
 bif q32
 then (some (.done (.inr false)))
 else (some (.next (wr .i64 (x24+1)))))
 else (some (.done (.inl ())))
def a4C (d:Api_Type)(t:Api_TypeNode):Option Bool :=
 Option.bind (y9 (a3k d t) ((t.Kids.length:Int).toNat+1) 0) fun b4 =>
 j9 (fun _ =>
 Option.bind (bif t.Kind==4
 then (some true)
 else (some (t.Kind==6))) fun q7 =>
 Option.bind (bif q7
 then (some true)
 else (some (t.Kind==19))) fun q8 =>
 Option.bind (bif !(t.Kind==3)
 then (Option.bind (bif t.Lo != 0
 then (some true)
 else (some (t.Hi != 0))) fun q9 =>
 some q9)
 else (some false)) fun q10 =>
 Option.bind (bif q10
 then (some true)
 else (Option.bind (bif !q8
 then (some (!(J5 t.Text (⟨#[]⟩:ByteArray))))
 else (some false)) fun q11 =>
 some q11)) fun q12 =>
 bif q12
 then (some false)
 else (Option.bind (bif t.Kind != 13
 then (Option.bind (bif decide (0<(t.Fields.length:Int))
 then (some true)
 else (some (!(b0G t.Rest (0,0))))) fun q13 =>
 some q13)
 else (some false)) fun q14 =>
 bif q14
 then (some false)
 else (bif t.Kind==3
 then (Option.bind (bif (t.Kids.length:Int)==0
 then (some (decide (t.Lo<=t.Hi)))
 else (some false)) fun q15 =>
 some q15)
 else (bif t.Kind==4
 then (Option.bind (bif (t.Kids.length:Int)==0
 then (some (decide ((t.Text.size:Int)<=64)))
 else (some false)) fun q16 =>
 some q16)
 else (bif t.Kind==6
 then (Option.bind (bif (t.Kids.length:Int)==0
 then (Option.bind (a1u t.Text) fun r17 =>
 some r17)
 else (some false)) fun q18 =>
 some q18)
 else (bif t.Kind==19
 then (Option.bind (bif (t.Kids.length:Int)==0
 then (Option.bind (a1m t.Text) fun r19 =>
 some r19)
 else (some false)) fun q20 =>
 some q20)
 else (Option.bind (bif t.Kind==1
 then (some (t.Kind==1))
 else (bif t.Kind==2
 then (some (t.Kind==2))
 else (bif t.Kind==5
 then (some (t.Kind==5))
 else (bif t.Kind==7
 then (some (t.Kind==7))
 else (bif t.Kind==8
 then (some (t.Kind==8))
 else (bif t.Kind==9
 then (some (t.Kind==9))
 else (bif t.Kind==11
 then (some (t.Kind==11))
 else (some (t.Kind==15))))))))) fun b21 =>
 bif b21
 then (some ((t.Kids.length:Int)==0))
 else (bif t.Kind==10
 then (some (decide ((t.Kids.length:Int)<=4)))
 else (bif t.Kind==12
 then (some ((t.Kids.length:Int)==2))
 else (bif t.Kind==14
 then (Option.bind (bif decide (1<=(t.Kids.length:Int))
 then (some (decide ((t.Kids.length:Int)<=5)))
 else (some false)) fun q22 =>
 some q22)
 else (Option.bind (bif t.Kind==16
 then (some (t.Kind==16))
 else (some (t.Kind==17))) fun b23 =>
 bif b23
 then (some (decide (1<=(t.Kids.length:Int))))
 else (bif t.Kind==18
 then (some ((t.Kids.length:Int)==1))
 else (bif t.Kind==13
 then (Option.bind (y9 (a3m d t) ((t.Fields.length:Int).toNat+1) 0) fun b33 =>
 j9 (fun _ =>
 Option.bind (bif (t.Kids.length:Int)==0
 then (Option.bind (W6 d t.Rest.1) fun r36 =>
 some r36)
 else (some false)) fun q37 =>
 Option.bind (bif q37
 then (Option.bind (W6 d t.Rest.2) fun r38 =>
 some r38)
 else (some false)) fun q39 =>
 some q39) (fun y35 =>
 some y35) b33)
 else (some false)))))))))))))) (fun y6 =>
 some y6) b4
def a3r (n_0:Api_TypeNode):Option Bool :=
 Option.bind (bif n_0.Kind==16
 then (some true)
 else (some (n_0.Kind==17))) fun q1 =>
 Option.bind (bif q1
 then (some true)
 else (some (n_0.Kind==18))) fun q2 =>
 some q2
def a1G (d:Api_Type)(x2:Int):Option (Fl Int (Sum Unit Int)) :=
 bif decide (x2<(d.Nodes.length:Int))
 then (Option.bind (idx d.Nodes x2) fun e3 =>
 Option.bind (a4C d e3) fun r4 =>
 bif !r4
 then (some (.done (.inr 1)))
 else (some (.next (wr .i64 (x2+1)))))
 else (some (.done (.inl ())))
def J1 (d:Api_Type)(x10:(List Bool)×Int)(x11:(List Bool)×Bool×Int):Option (Fl ((List Bool)×Bool×Int) ((List Bool)×Bool)) :=
 Option.bind (idx d.Nodes x10.2) fun e12 =>
 Option.bind (a3r e12) fun r13 =>
 Option.bind (bif r13
 then (Option.bind (idx d.Nodes x10.2) fun e14 =>
 some (decide (x11.2.2<(e14.Kids.length:Int))))
 else (some false)) fun q15 =>
 bif q15
 then (Option.bind (bif x11.2.1
 then (Option.bind (idx d.Nodes x10.2) fun e16 =>
 Option.bind (idx e16.Kids x11.2.2) fun e17 =>
 Option.bind (idx x11.1 e17) fun _ =>
 Option.bind (x11.1[e17.toNat]?) fun e19 =>
 some e19)
 else (some false)) fun q20 =>
 some (.next (x11.1,q20,wr .i64 (x11.2.2+1))))
 else (some (.done (x11.1,x11.2.1)))
def V7 (d:Api_Type)(n:Nat)(x10:(List Bool)×Int):Option (Fl ((List Bool)×Int) (List Bool)) :=
 bif decide (x10.2<(d.Nodes.length:Int))
 then (Option.bind (y9 (J1 d x10) n (x10.1,true,0)) fun b21 =>
 Option.bind (idx b21.1 x10.2) fun _ =>
 Option.bind (b21.1[x10.2.toNat]?) fun e23 =>
 Option.bind (bif e23
 then (some true)
 else (some b21.2)) fun q24 =>
 Option.bind (idx b21.1 x10.2) fun _ =>
 Option.bind (b21.1[x10.2.toNat]?) fun _ =>
 some (.next (b21.1.set x10.2.toNat q24,wr .i64 (x10.2+1))))
 else (some (.done x10.1))
def V6 (d:Api_Type)(n:Nat)(x9:(List Bool)×Int):Option (Fl ((List Bool)×Int) (List Bool)) :=
 bif decide (x9.2<(d.Nodes.length:Int))
 then (Option.bind (y9 (V7 d n) ((d.Nodes.length:Int).toNat+1) (x9.1,0)) fun b27 =>
 some (.next (b27,wr .i64 (x9.2+1))))
 else (some (.done x9.1))
def a0F (x29:(List Bool)×Int):Option (Fl ((List Bool)×Int) (Sum (List Bool) (Int×(List Bool)))) :=
 bif decide (x29.2<(x29.1.length:Int))
 then (Option.bind (idx x29.1 x29.2) fun _ =>
 Option.bind (x29.1[x29.2.toNat]?) fun e31 =>
 bif !e31
 then (some (.done (.inr (3,x29.1))))
 else (some (.next (x29.1,wr .i64 (x29.2+1)))))
 else (some (.done (.inl x29.1)))
def a0B (n:Nat)(d:Api_Type):Option Int :=
 Option.bind (W6 d d.Root) fun r1 =>
 bif !r1
 then (some 1)
 else (Option.bind (y9 (a1G d) ((d.Nodes.length:Int).toNat+1) 0) fun b5 =>
 j9 (fun _ =>
 Option.bind (a7y (d.Nodes.length:Int) (d.Nodes.length:Int) 1) fun m8 =>
 Option.bind (y9 (V6 d n) ((d.Nodes.length:Int).toNat+1) (List.replicate m8 (false:Bool),0)) fun b28 =>
 Option.bind (y9 a0F ((b28.length:Int).toNat+1) (b28,0)) fun b32 =>
 j9 (fun _ =>
 some 0) (fun y34 =>
 some y34.1) b32) (fun y7 =>
 some y7) b5)
def b7y (v:Val)(k:Key)(x1:Int):Option (Fl Int (Sum Unit Int)) :=
 bif decide (x1<(v.Keys.length:Int))
 then (Option.bind (idx v.Keys x1) fun e2 =>
 bif a4T e2 k
 then (some (.done (.inr x1)))
 else (some (.next (wr .i64 (x1+1)))))
 else (some (.done (.inl ())))
def b2q (v:Val)(k:Key):Option Int :=
 Option.bind (y9 (b7y v k) ((v.Keys.length:Int).toNat+1) 0) fun b3 =>
 j9 (fun _ =>
 some (-1)) (fun y5 =>
 some y5) b3
def b4X (n_0:Api_TypeNode)(k:Key)(x1:Int):Option (Fl Int (Sum Unit Int)) :=
 bif decide (x1<(n_0.Fields.length:Int))
 then (Option.bind (idx n_0.Fields x1) fun e2 =>
 bif a4T e2.Key_ k
 then (some (.done (.inr x1)))
 else (some (.next (wr .i64 (x1+1)))))
 else (some (.done (.inl ())))
def a9U (n_0:Api_TypeNode)(k:Key):Option Int :=
 Option.bind (y9 (b4X n_0 k) ((n_0.Fields.length:Int).toNat+1) 0) fun b3 =>
 j9 (fun _ =>
 some (-1)) (fun y5 =>
 some y5) b3
def b1I (v:Val)(t:Api_Type)(n_2:Api_TypeNode)(rec_semtyperef7_members:(List Val)->Api_Type->(List Int)->Option Bool)(rec_semtyperef7_member:Val->Api_Type->Int->Option Bool)(x1:Int):Option (Fl Int (Sum Unit Bool)) :=
 bif decide (x1<(v.Entries.length:Int))
 then (Option.bind (idx v.Entries x1) fun e2 =>
 Option.bind (cut n_2.Kids 0 (wr .i64 ((n_2.Kids.length:Int)-1))) fun y3 =>
 Option.bind (rec_semtyperef7_members e2.Args t y3) fun r4 =>
 Option.bind (bif r4
 then (Option.bind (bif e2.Fails
 then (some true)
 else (Option.bind (idx n_2.Kids (wr .i64 ((n_2.Kids.length:Int)-1))) fun e5 =>
 Option.bind (rec_semtyperef7_member e2.Result t e5) fun r6 =>
 some (!r6))) fun q7 =>
 some q7)
 else (some false)) fun q8 =>
 bif q8
 then (some (.done (.inr false)))
 else (some (.next (wr .i64 (x1+1)))))
 else (some (.done (.inl ())))
def b3l (d:Val)(a2_2:Api_TypeNode)(x1:Int):Option (Fl Int (Sum Unit Bool)) :=
 bif decide (x1<(a2_2.Fields.length:Int))
 then (Option.bind (idx a2_2.Fields x1) fun e2 =>
 Option.bind (bif !e2.Optional
 then (Option.bind (idx a2_2.Fields x1) fun e3 =>
 Option.bind (b2q d e3.Key_) fun r4 =>
 some (decide (r4<0)))
 else (some false)) fun q5 =>
 bif q5
 then (some (.done (.inr false)))
 else (some (.next (wr .i64 (x1+1)))))
 else (some (.done (.inl ())))
def b2J (d:Val)(t:Api_Type)(a2_2:Api_TypeNode)(rec_semtyperef7_member:Val->Api_Type->Int->Option Bool)(x9:Int):Option (Fl Int (Sum Unit Bool)) :=
 bif decide (x9<(d.Keys.length:Int))
 then (Option.bind (idx d.Keys x9) fun e10 =>
 Option.bind (a9U a2_2 e10) fun r11 =>
 Option.bind (Option.bind (idx d.Keys x9) fun e12 =>
 bif e12.Kind==0
 then (some a2_2.Rest.1)
 else (bif e12.Kind==1
 then (some a2_2.Rest.2)
 else (none))) fun b13 =>
 Option.bind (bif decide (0<=r11)
 then (Option.bind (idx a2_2.Fields r11) fun e14 =>
 some e14.Node)
 else (some b13)) fun b15 =>
 Option.bind (idx d.Kids x9) fun e16 =>
 Option.bind (rec_semtyperef7_member e16 t b15) fun r17 =>
 bif !r17
 then (some (.done (.inr false)))
 else (some (.next (wr .i64 (x9+1)))))
 else (some (.done (.inl ())))
def b4D (d:Val)(t:Api_Type)(e1:Api_TypeNode)(rec_semtyperef7_member:Val->Api_Type->Int->Option Bool)(x14:Int):Option (Fl Int (Sum Unit Bool)) :=
 bif decide (x14<(e1.Kids.length:Int))
 then (Option.bind (idx e1.Kids x14) fun e15 =>
 Option.bind (rec_semtyperef7_member d t e15) fun r16 =>
 bif r16
 then (some (.done (.inr true)))
 else (some (.next (wr .i64 (x14+1)))))
 else (some (.done (.inl ())))
def b4q (d:Val)(t:Api_Type)(e1:Api_TypeNode)(rec_semtyperef7_member:Val->Api_Type->Int->Option Bool)(x20:Int):Option (Fl Int (Sum Unit Bool)) :=
 bif decide (x20<(e1.Kids.length:Int))
 then (Option.bind (idx e1.Kids x20) fun e21 =>
 Option.bind (rec_semtyperef7_member d t e21) fun r22 =>
 bif !r22
 then (some (.done (.inr false)))
 else (some (.next (wr .i64 (x20+1)))))
 else (some (.done (.inl ())))
def b4P (d:Val)(e1:Api_TypeNode)(x28:Int):Option (Fl Int (Sum Unit Bool)) :=
 bif decide (x28<(d.Labels.length:Int))
 then (Option.bind (idx d.Labels x28) fun e29 =>
 bif J5 e29 e1.Text
 then (some (.done (.inr true)))
 else (some (.next (wr .i64 (x28+1)))))
 else (some (.done (.inl ())))
def b2I (l:List Val)(t:Api_Type)(nodes:List Int)(rec_semtyperef7_member:Val->Api_Type->Int->Option Bool)(x1:Int):Option (Fl Int (Sum Unit Bool)) :=
 bif decide (x1<(l.length:Int))
 then (Option.bind (idx l x1) fun e2 =>
 Option.bind (idx nodes x1) fun e3 =>
 Option.bind (rec_semtyperef7_member e2 t e3) fun r4 =>
 bif !r4
 then (some (.done (.inr false)))
 else (some (.next (wr .i64 (x1+1)))))
 else (some (.done (.inl ())))
def b2X (_:Nat)(_:Val->Api_Type->Api_TypeNode->Option Bool)(_:Val->Api_Type->Api_TypeNode->Option Bool)(rec_semtyperef7_member:Val->Api_Type->Int->Option Bool)(rec_semtyperef7_members:(List Val)->Api_Type->(List Int)->Option Bool)(v:Val)(t:Api_Type)(n_2:Api_TypeNode):Option Bool :=
 bif v.Int_ != (wr .i64 ((n_2.Kids.length:Int)-1))
 then (some false)
 else (Option.bind (y9 (b1I v t n_2 rec_semtyperef7_members rec_semtyperef7_member) ((v.Entries.length:Int).toNat+1) 0) fun b9 =>
 j9 (fun _ =>
 some true) (fun y11 =>
 some y11) b9)
def b4l (_:Nat)(_:Val->Api_Type->Api_TypeNode->Option Bool)(_:Val->Api_Type->Api_TypeNode->Option Bool)(rec_semtyperef7_member:Val->Api_Type->Int->Option Bool)(_:(List Val)->Api_Type->(List Int)->Option Bool)(d:Val)(t:Api_Type)(a2_2:Api_TypeNode):Option Bool :=
 Option.bind (y9 (b3l d a2_2) ((a2_2.Fields.length:Int).toNat+1) 0) fun b6 =>
 j9 (fun _ =>
 Option.bind (y9 (b2J d t a2_2 rec_semtyperef7_member) ((d.Keys.length:Int).toNat+1) 0) fun b18 =>
 j9 (fun _ =>
 some true) (fun y20 =>
 some y20) b18) (fun y8 =>
 some y8) b6
def b5Y (_:Nat)(rec_semtyperef7_function:Val->Api_Type->Api_TypeNode->Option Bool)(rec_semtyperef7_mapping:Val->Api_Type->Api_TypeNode->Option Bool)(rec_semtyperef7_member:Val->Api_Type->Int->Option Bool)(rec_semtyperef7_members:(List Val)->Api_Type->(List Int)->Option Bool)(d:Val)(t:Api_Type)(a2_2:Int):Option Bool :=
 Option.bind (idx t.Nodes a2_2) fun e1 =>
 bif e1.Kind==2
 then (some true)
 else (bif e1.Kind==3
 then (Option.bind (bif d.Kind==1
 then (some (decide (e1.Lo<=d.Int_)))
 else (some false)) fun q2 =>
 Option.bind (bif q2
 then (some (decide (d.Int_<=e1.Hi)))
 else (some false)) fun q3 =>
 some q3)
 else (bif e1.Kind==4
 then (Option.bind (bif d.Kind==2
 then (some (J5 d.Text e1.Text))
 else (some false)) fun q4 =>
 some q4)
 else (bif e1.Kind==5
 then (some (d.Kind==2))
 else (bif e1.Kind==6
 then (Option.bind (bif d.Kind==3
 then (some (J5 d.Text e1.Text))
 else (some false)) fun q5 =>
 some q5)
 else (bif e1.Kind==7
 then (some (d.Kind==3))
 else (bif e1.Kind==8
 then (some (d.Kind==4))
 else (bif e1.Kind==9
 then (some (d.Kind==5))
 else (bif e1.Kind==11
 then (some (d.Kind==6))
 else (bif e1.Kind==15
 then (some (d.Kind==9))
 else (bif e1.Kind==10
 then (Option.bind (bif d.Kind==6
 then (Option.bind (rec_semtyperef7_members d.Kids t e1.Kids) fun r6 =>
 some r6)
 else (some false)) fun q7 =>
 some q7)
 else (bif e1.Kind==12
 then (Option.bind (bif d.Kind==7
 then (Option.bind (rec_semtyperef7_members d.Kids t e1.Kids) fun r8 =>
 some r8)
 else (some false)) fun q9 =>
 some q9)
 else (bif e1.Kind==13
 then (Option.bind (bif d.Kind==8
 then (Option.bind (rec_semtyperef7_mapping d t e1) fun r10 =>
 some r10)
 else (some false)) fun q11 =>
 some q11)
 else (bif e1.Kind==14
 then (Option.bind (bif d.Kind==9
 then (Option.bind (rec_semtyperef7_function d t e1) fun r12 =>
 some r12)
 else (some false)) fun q13 =>
 some q13)
 else (bif e1.Kind==16
 then (Option.bind (y9 (b4D d t e1 rec_semtyperef7_member) ((e1.Kids.length:Int).toNat+1) 0) fun b17 =>
 j9 (fun _ =>
 some false) (fun y19 =>
 some y19) b17)
 else (bif e1.Kind==17
 then (Option.bind (y9 (b4q d t e1 rec_semtyperef7_member) ((e1.Kids.length:Int).toNat+1) 0) fun b23 =>
 j9 (fun _ =>
 some true) (fun y25 =>
 some y25) b23)
 else (bif e1.Kind==18
 then (Option.bind (idx e1.Kids 0) fun e26 =>
 Option.bind (rec_semtyperef7_member d t e26) fun r27 =>
 some (!r27))
 else (bif e1.Kind==19
 then (Option.bind (y9 (b4P d e1) ((d.Labels.length:Int).toNat+1) 0) fun b30 =>
 j9 (fun _ =>
 some false) (fun y32 =>
 some y32) b30)
 else (some false))))))))))))))))))
def b3X (_:Nat)(_:Val->Api_Type->Api_TypeNode->Option Bool)(_:Val->Api_Type->Api_TypeNode->Option Bool)(rec_semtyperef7_member:Val->Api_Type->Int->Option Bool)(_:(List Val)->Api_Type->(List Int)->Option Bool)(l:List Val)(t:Api_Type)(nodes:List Int):Option Bool :=
 bif (l.length:Int) != (nodes.length:Int)
 then (some false)
 else (Option.bind (y9 (b2I l t nodes rec_semtyperef7_member) ((l.length:Int).toNat+1) 0) fun b5 =>
 j9 (fun _ =>
 some true) (fun y7 =>
 some y7) b5)
def k8:Nat->(Val->Api_Type->Api_TypeNode->Option Bool)×(Val->Api_Type->Api_TypeNode->Option Bool)×(Val->Api_Type->Int->Option Bool)×((List Val)->Api_Type->(List Int)->Option Bool)
 | 0=>(fun _ _ _=>none,fun _ _ _=>none,fun _ _ _=>none,fun _ _ _=>none)
 | n+1=>(b2X n ((k8 n).1) ((k8 n).2.1) ((k8 n).2.2.1) ((k8 n).2.2.2),b4l n ((k8 n).1) ((k8 n).2.1) ((k8 n).2.2.1) ((k8 n).2.2.2),b5Y n ((k8 n).1) ((k8 n).2.1) ((k8 n).2.2.1) ((k8 n).2.2.2),b3X n ((k8 n).1) ((k8 n).2.1) ((k8 n).2.2.1) ((k8 n).2.2.2))
def b5u (n:Nat):Val->Api_Type->Api_TypeNode->Option Bool:=(k8 n).1
def b6R (n:Nat):Val->Api_Type->Api_TypeNode->Option Bool:=(k8 n).2.1
def a80 (n:Nat):Val->Api_Type->Int->Option Bool:=(k8 n).2.2.1
def b6G (n:Nat):(List Val)->Api_Type->(List Int)->Option Bool:=(k8 n).2.2.2
def a7z (n:Nat)(v:Val)(t:Api_Type)(k:Int):Option Bool :=
 Option.bind (W5 n v) fun r1 =>
 Option.bind (bif r1
 then (Option.bind (a0B n t) fun r2 =>
 some (r2==0))
 else (some false)) fun q3 =>
 Option.bind (bif q3
 then (Option.bind (W6 t k) fun r4 =>
 some r4)
 else (some false)) fun q5 =>
 Option.bind (bif q5
 then (Option.bind (a80 n v t k) fun r6 =>
 some r6)
 else (some false)) fun q7 =>
 some q7
def a8Z (n:Nat)(v:Val)(t:Api_Type):Option Bool :=
 Option.bind (a7z n v t t.Root) fun r1 =>
 some r1
noncomputable def a1B (n:Nat):Option Bool :=
 Option.bind (a06 n (Api_Type.mk ([Api_TypeNode.mk 10 0 0 (⟨#[]⟩:ByteArray) ([1,1]:List Int) ([]:List Api_Field) (0,0),Api_TypeNode.mk 9 0 0 (⟨#[]⟩:ByteArray) ([]:List Int) ([]:List Api_Field) (0,0)]:List Api_TypeNode) 0) (Api_Goal.mk ([0]:List Int) ([]:List Int) false)) fun r1 =>
 Option.bind (K6) fun r2 =>
 Option.bind (K6) fun r3 =>
 Option.bind (a1X ([r2,r3]:List Val)) fun r4 =>
 Option.bind (c0I n (Api_Type.mk ([Api_TypeNode.mk 10 0 0 (⟨#[]⟩:ByteArray) ([1,1]:List Int) ([]:List Api_Field) (0,0),Api_TypeNode.mk 9 0 0 (⟨#[]⟩:ByteArray) ([]:List Int) ([]:List Api_Field) (0,0)]:List Api_TypeNode) 0) r1 r4) fun r5 =>
 Option.bind (bif !r5.2.2
 then (some true)
 else (some (decide (r5.1<0)))) fun q6 =>
 Option.bind (bif q6
 then (some true)
 else (some (decide ((r1.length:Int)<=r5.1)))) fun q7 =>
 bif q7
 then (some false)
 else (Option.bind (idx r1 r5.1) fun e8 =>
 Option.bind (c2H n e8 r5.2.1) fun r9 =>
 Option.bind (bif r9.2==0
 then (Option.bind (a8Z n r9.1 (Api_Type.mk ([Api_TypeNode.mk 10 0 0 (⟨#[]⟩:ByteArray) ([1,1]:List Int) ([]:List Api_Field) (0,0),Api_TypeNode.mk 9 0 0 (⟨#[]⟩:ByteArray) ([]:List Int) ([]:List Api_Field) (0,0)]:List Api_TypeNode) 0)) fun r10 =>
 some r10)
 else (some false)) fun q11 =>
 some q11)
def y2 (s:Semtypebase_Source)(n_1:Int):Option (Int×Semtypebase_Source) :=
 Option.bind (bif decide (n_1<1)
 then (some true)
 else (some (decide ((s.L.length:Int)<=s.At)))) fun q1 =>
 bif q1
 then (some (0,s))
 else (Option.bind (idx s.L s.At) fun e2 =>
 Option.bind (b9O e2 n_1) fun d3 =>
 bif decide (d3<0)
 then (some (wr .i64 (d3+n_1),Semtypebase_Source.mk s.L (wr .i64 (s.At+1))))
 else (some (d3,Semtypebase_Source.mk s.L (wr .i64 (s.At+1)))))
def K4 (s:Semtypebase_Source):Option (ByteArray×Semtypebase_Source) :=
 Option.bind (y2 s 4) fun r1 =>
 Option.bind (idx ([(⟨#[97]⟩:ByteArray),(⟨#[98]⟩:ByteArray),(⟨#[111,107]⟩:ByteArray),(⟨#[101,114,114,111,114]⟩:ByteArray)]:List ByteArray) r1.1) fun _ =>
 Option.bind (([(⟨#[97]⟩:ByteArray),(⟨#[98]⟩:ByteArray),(⟨#[111,107]⟩:ByteArray),(⟨#[101,114,114,111,114]⟩:ByteArray)]:List ByteArray)[r1.1.toNat]?) fun e3 =>
 some (e3,r1.2)
def W9 (s:Semtypebase_Source):Option (ByteArray×Semtypebase_Source) :=
 Option.bind (y2 s 4) fun r1 =>
 Option.bind (idx ([(⟨#[]⟩:ByteArray),(⟨#[115]⟩:ByteArray),(⟨#[120,32,121]⟩:ByteArray),(⟨#[97]⟩:ByteArray)]:List ByteArray) r1.1) fun _ =>
 Option.bind (([(⟨#[]⟩:ByteArray),(⟨#[115]⟩:ByteArray),(⟨#[120,32,121]⟩:ByteArray),(⟨#[97]⟩:ByteArray)]:List ByteArray)[r1.1.toNat]?) fun e3 =>
 some (e3,r1.2)
def a0f (s:Semtypebase_Source):Option (ByteArray×Semtypebase_Source) :=
 Option.bind (y2 s 3) fun r1 =>
 Option.bind (idx ([(⟨#[65]⟩:ByteArray),(⟨#[66]⟩:ByteArray),(⟨#[67]⟩:ByteArray)]:List ByteArray) r1.1) fun _ =>
 Option.bind (([(⟨#[65]⟩:ByteArray),(⟨#[66]⟩:ByteArray),(⟨#[67]⟩:ByteArray)]:List ByteArray)[r1.1.toNat]?) fun e3 =>
 some (e3,r1.2)
def a0L (from_:Int)(n_3:Int)(x1:Int×(List Int)×Semtypebase_Source):Option (Fl (Int×(List Int)×Semtypebase_Source) ((List Int)×Semtypebase_Source)) :=
 bif decide (0<x1.1)
 then (Option.bind (y2 x1.2.2 (wr .i64 (n_3-from_))) fun r2 =>
 Option.bind (Z1 (x1.2.1.length+([wr .i64 (from_+r2.1)]:List Int).length) 8) fun _ =>
 some (.next (wr .i64 (x1.1-1),x1.2.1++([wr .i64 (from_+r2.1)]:List Int),r2.2)))
 else (some (.done (x1.2.1,x1.2.2)))
def k7 (s:Semtypebase_Source)(many:Int)(from_:Int)(n_3:Int):Option ((List Int)×Semtypebase_Source) :=
 Option.bind (y9 (a0L from_ n_3) (many.toNat+2) (many,[],s)) fun b4 =>
 some (b4.1,b4.2)
def V4 (n_1:Int)(x3:Int×Semtypebase_Source×(Int×Int×Int×ByteArray×(List Int)×(List Api_Field)×Int×Int)):Option (Fl (Int×Semtypebase_Source×(Int×Int×Int×ByteArray×(List Int)×(List Api_Field)×Int×Int)) (Semtypebase_Source×(Int×Int×Int×ByteArray×(List Int)×(List Api_Field)×Int×Int))) :=
 bif decide (x3.1<3)
 then (Option.bind (Option.bind (y2 x3.2.1 2) fun r4 =>
 bif r4.1==1
 then (Option.bind (idx ([Key.mk 0 (⟨#[97]⟩:ByteArray),Key.mk 0 (⟨#[98]⟩:ByteArray),Key.mk 1 (⟨#[115]⟩:ByteArray)]:List Key) x3.1) fun e5 =>
 Option.bind (y2 r4.2 n_1) fun r6 =>
 Option.bind (y2 r6.2 2) fun r7 =>
 Option.bind (Z1 (x3.2.2.2.2.2.2.2.1.length+([Api_Field.mk e5 r6.1 (r7.1==1)]:List Api_Field).length) 40) fun _ =>
 some (r7.2,(x3.2.2.1,x3.2.2.2.1,x3.2.2.2.2.1,x3.2.2.2.2.2.1,x3.2.2.2.2.2.2.1,x3.2.2.2.2.2.2.2.1++([Api_Field.mk e5 r6.1 (r7.1==1)]:List Api_Field),x3.2.2.2.2.2.2.2.2.1,x3.2.2.2.2.2.2.2.2.2)))
 else (some (r4.2,(x3.2.2.1,x3.2.2.2.1,x3.2.2.2.2.1,x3.2.2.2.2.2.1,x3.2.2.2.2.2.2.1,x3.2.2.2.2.2.2.2.1,x3.2.2.2.2.2.2.2.2.1,x3.2.2.2.2.2.2.2.2.2)))) fun b9 =>
 some (.next (wr .i64 (x3.1+1),b9.1,(b9.2.1,b9.2.2.1,b9.2.2.2.1,b9.2.2.2.2.1,b9.2.2.2.2.2.1,b9.2.2.2.2.2.2.1,b9.2.2.2.2.2.2.2.1,b9.2.2.2.2.2.2.2.2))))
 else (some (.done (x3.2.1,(x3.2.2.1,x3.2.2.2.1,x3.2.2.2.2.1,x3.2.2.2.2.2.1,x3.2.2.2.2.2.2.1,x3.2.2.2.2.2.2.2.1,x3.2.2.2.2.2.2.2.2.1,x3.2.2.2.2.2.2.2.2.2))))
def a1n (s:Semtypebase_Source)(n_1:Int):Option (Api_TypeNode×Semtypebase_Source) :=
 Option.bind (y2 s n_1) fun r1 =>
 Option.bind (y2 r1.2 n_1) fun r2 =>
 Option.bind (y9 (V4 n_1) ((3:Int).toNat+1) (0,r2.2,(13,0,0,(⟨#[]⟩:ByteArray),[],[],r1.1,r2.1))) fun b10 =>
 some (Api_TypeNode.mk b10.2.1 b10.2.2.1 b10.2.2.2.1 b10.2.2.2.2.1 b10.2.2.2.2.2.1 b10.2.2.2.2.2.2.1 (b10.2.2.2.2.2.2.2.1,b10.2.2.2.2.2.2.2.2),b10.1)
def a14 (d:Semtypebase_Source)(t:Int)(a2_2:Int):Option (Api_TypeNode×Semtypebase_Source) :=
 Option.bind (bif t==(wr .i64 (a2_2-1))
 then (some 14)
 else (some 18)) fun b1 =>
 Option.bind (y2 d b1) fun r2 =>
 bif r2.1==0
 then (Option.bind (y2 r2.2 5) fun r3 =>
 Option.bind (idx ([(-9223372036854775808),0,1,2,9223372036854775807]:List Int) r3.1) fun _ =>
 Option.bind (([(-9223372036854775808),0,1,2,9223372036854775807]:List Int)[r3.1.toNat]?) fun e5 =>
 Option.bind (y2 r3.2 (wr .i64 (5-r3.1))) fun r6 =>
 Option.bind (idx ([(-9223372036854775808),0,1,2,9223372036854775807]:List Int) (wr .i64 (r3.1+r6.1))) fun _ =>
 Option.bind (([(-9223372036854775808),0,1,2,9223372036854775807]:List Int)[(wr .i64 (r3.1+r6.1)).toNat]?) fun e8 =>
 some (Api_TypeNode.mk 3 e5 e8 (⟨#[]⟩:ByteArray) ([]:List Int) ([]:List Api_Field) (0,0),r6.2))
 else (bif r2.1==1
 then (Option.bind (K4 r2.2) fun r9 =>
 some (Api_TypeNode.mk 6 0 0 r9.1 ([]:List Int) ([]:List Api_Field) (0,0),r9.2))
 else (bif r2.1==2
 then (some (Api_TypeNode.mk 7 0 0 (⟨#[]⟩:ByteArray) ([]:List Int) ([]:List Api_Field) (0,0),r2.2))
 else (bif r2.1==3
 then (Option.bind (W9 r2.2) fun r10 =>
 some (Api_TypeNode.mk 4 0 0 r10.1 ([]:List Int) ([]:List Api_Field) (0,0),r10.2))
 else (bif r2.1==4
 then (Option.bind (y2 r2.2 4) fun r11 =>
 Option.bind (idx ([5,8,11,15]:List Int) r11.1) fun _ =>
 Option.bind (([5,8,11,15]:List Int)[r11.1.toNat]?) fun e13 =>
 some (Api_TypeNode.mk e13 0 0 (⟨#[]⟩:ByteArray) ([]:List Int) ([]:List Api_Field) (0,0),r11.2))
 else (bif r2.1==5
 then (some (Api_TypeNode.mk 9 0 0 (⟨#[]⟩:ByteArray) ([]:List Int) ([]:List Api_Field) (0,0),r2.2))
 else (bif r2.1==6
 then (Option.bind (y2 r2.2 2) fun r14 =>
 Option.bind (idx ([2,1]:List Int) r14.1) fun _ =>
 Option.bind (([2,1]:List Int)[r14.1.toNat]?) fun e16 =>
 some (Api_TypeNode.mk e16 0 0 (⟨#[]⟩:ByteArray) ([]:List Int) ([]:List Api_Field) (0,0),r14.2))
 else (bif r2.1==7
 then (Option.bind (a0f r2.2) fun r17 =>
 some (Api_TypeNode.mk 19 0 0 r17.1 ([]:List Int) ([]:List Api_Field) (0,0),r17.2))
 else (Option.bind (bif r2.1==8
 then (some (r2.1==8))
 else (some (r2.1==9))) fun b18 =>
 bif b18
 then (Option.bind (y2 r2.2 3) fun r19 =>
 Option.bind (k7 r19.2 r19.1 0 a2_2) fun r20 =>
 some (Api_TypeNode.mk 10 0 0 (⟨#[]⟩:ByteArray) r20.1 ([]:List Api_Field) (0,0),r20.2))
 else (bif r2.1==10
 then (Option.bind (k7 r2.2 2 0 a2_2) fun r21 =>
 some (Api_TypeNode.mk 12 0 0 (⟨#[]⟩:ByteArray) r21.1 ([]:List Api_Field) (0,0),r21.2))
 else (bif r2.1==11
 then (Option.bind (a1n r2.2 a2_2) fun r22 =>
 some (r22.1,r22.2))
 else (Option.bind (bif r2.1==12
 then (some (r2.1==12))
 else (some (r2.1==13))) fun b23 =>
 bif b23
 then (Option.bind (y2 r2.2 3) fun r24 =>
 Option.bind (k7 r24.2 (wr .i64 (1+r24.1)) 0 a2_2) fun r25 =>
 some (Api_TypeNode.mk 14 0 0 (⟨#[]⟩:ByteArray) r25.1 ([]:List Api_Field) (0,0),r25.2))
 else (bif r2.1==14
 then (Option.bind (k7 r2.2 1 (wr .i64 (t+1)) a2_2) fun r26 =>
 some (Api_TypeNode.mk 18 0 0 (⟨#[]⟩:ByteArray) r26.1 ([]:List Api_Field) (0,0),r26.2))
 else (bif r2.1==15
 then (Option.bind (k7 r2.2 2 (wr .i64 (t+1)) a2_2) fun r27 =>
 some (Api_TypeNode.mk 17 0 0 (⟨#[]⟩:ByteArray) r27.1 ([]:List Api_Field) (0,0),r27.2))
 else (Option.bind (y2 r2.2 2) fun r28 =>
 Option.bind (k7 r28.2 (wr .i64 (2+r28.1)) (wr .i64 (t+1)) a2_2) fun r29 =>
 some (Api_TypeNode.mk 16 0 0 (⟨#[]⟩:ByteArray) r29.1 ([]:List Api_Field) (0,0),r29.2)))))))))))))))
def a0y (n_1:Int)(x1:Int×Semtypebase_Source×((List Api_TypeNode)×Int)):Option (Fl (Int×Semtypebase_Source×((List Api_TypeNode)×Int)) (Semtypebase_Source×((List Api_TypeNode)×Int))) :=
 bif decide (x1.1<(max n_1 1))
 then (Option.bind (a14 x1.2.1 x1.1 (max n_1 1)) fun r2 =>
 Option.bind (Z1 (x1.2.2.1.length+([r2.1]:List Api_TypeNode).length) 104) fun _ =>
 some (.next (wr .i64 (x1.1+1),r2.2,(x1.2.2.1++([r2.1]:List Api_TypeNode),x1.2.2.2))))
 else (some (.done (x1.2.1,(x1.2.2.1,x1.2.2.2))))
def a01 (s:Semtypebase_Source)(n_1:Int):Option (Api_Type×Semtypebase_Source) :=
 Option.bind (y9 (a0y n_1) ((max n_1 1).toNat+1) (0,s,([],0))) fun b4 =>
 some (Api_Type.mk b4.2.1 b4.2.2,b4.1)
def a1E (s:Semtypebase_Source):Option (Int×Semtypebase_Source) :=
 Option.bind (y2 s 10) fun r1 =>
 Option.bind (idx ([0,1,(-1),2,3,(-2),7,(-9223372036854775808),9223372036854775807,10]:List Int) r1.1) fun _ =>
 Option.bind (([0,1,(-1),2,3,(-2),7,(-9223372036854775808),9223372036854775807,10]:List Int)[r1.1.toNat]?) fun e3 =>
 some (e3,r1.2)
def a7I (n_0:Int):Option Val :=
 some (Val.mk 1 n_0 (⟨#[]⟩:ByteArray) ([]:List Val) ([]:List Key) ([]:List Ent) ([]:List ByteArray))
def a4m (s:ByteArray):Option Val :=
 some (Val.mk 3 0 s ([]:List Val) ([]:List Key) ([]:List Ent) ([]:List ByteArray))
def a3E (s:ByteArray):Option Val :=
 some (Val.mk 2 0 s ([]:List Val) ([]:List Key) ([]:List Ent) ([]:List ByteArray))
def a7l (n_0:Int):Option Val :=
 some (Val.mk 4 n_0 (⟨#[]⟩:ByteArray) ([]:List Val) ([]:List Key) ([]:List Ent) ([]:List ByteArray))
def K0 (s:Semtypebase_Source):Option (Val×Semtypebase_Source) :=
 Option.bind (y2 s 6) fun r1 =>
 bif r1.1==0
 then (Option.bind (a1E r1.2) fun r2 =>
 Option.bind (a7I r2.1) fun r3 =>
 some (r3,r2.2))
 else (bif r1.1==1
 then (Option.bind (K4 r1.2) fun r4 =>
 Option.bind (a4m r4.1) fun r5 =>
 some (r5,r4.2))
 else (bif r1.1==2
 then (Option.bind (W9 r1.2) fun r6 =>
 Option.bind (a3E r6.1) fun r7 =>
 some (r7,r6.2))
 else (bif r1.1==3
 then (Option.bind (y2 r1.2 3) fun r8 =>
 Option.bind (a7l r8.1) fun r9 =>
 some (r9,r8.2))
 else (bif r1.1==4
 then (Option.bind (K6) fun r10 =>
 some (r10,r1.2))
 else (Option.bind (a1X ([]:List Val)) fun r11 =>
 some (r11,r1.2))))))
def a1s (d:List Key)(x1:Int×(Int×Int×ByteArray×(List Val)×(List Key)×(List Ent)×(List ByteArray))):Option (Fl (Int×(Int×Int×ByteArray×(List Val)×(List Key)×(List Ent)×(List ByteArray))) (Sum (Int×Int×ByteArray×(List Val)×(List Key)×(List Ent)×(List ByteArray)) (Int×(Int×Int×ByteArray×(List Val)×(List Key)×(List Ent)×(List ByteArray))))) :=
 bif decide (x1.1<(d.length:Int))
 then (Option.bind (idx d x1.1) fun e2 =>
 Option.bind (a0X e2) fun r3 =>
 bif !r3
 then (some (.done (.inr (1,(0,0,(⟨#[]⟩:ByteArray),[],[],[],[])))))
 else (some (.next (wr .i64 (x1.1+1),(x1.2.1,x1.2.2.1,x1.2.2.2.1,x1.2.2.2.2.1,x1.2.2.2.2.2.1,x1.2.2.2.2.2.2.1,x1.2.2.2.2.2.2.2)))))
 else (some (.done (.inl (x1.2.1,x1.2.2.1,x1.2.2.2.1,x1.2.2.2.2.1,x1.2.2.2.2.2.1,x1.2.2.2.2.2.2.1,x1.2.2.2.2.2.2.2))))
def a3I (d:List Key)(x7:Int×(Int×Int×ByteArray×(List Val)×(List Key)×(List Ent)×(List ByteArray))×(Int×Int×ByteArray×(List Val)×(List Key)×(List Ent)×(List ByteArray)))(x8:Int):Option (Fl Int Int) :=
 Option.bind (bif decide (x8<(x7.2.2.2.2.2.2.1.length:Int))
 then (Option.bind (idx x7.2.2.2.2.2.2.1 x8) fun e9 =>
 Option.bind (idx d x7.1) fun e10 =>
 Option.bind (V2 e9 e10) fun r11 =>
 some (decide (r11<0)))
 else (some false)) fun q12 =>
 bif q12
 then (some (.next (wr .i64 (x8+1))))
 else (some (.done x8))
def a0N (d:List Key)(t:List Val)(x7:Int×(Int×Int×ByteArray×(List Val)×(List Key)×(List Ent)×(List ByteArray))×(Int×Int×ByteArray×(List Val)×(List Key)×(List Ent)×(List ByteArray))):Option (Fl (Int×(Int×Int×ByteArray×(List Val)×(List Key)×(List Ent)×(List ByteArray))×(Int×Int×ByteArray×(List Val)×(List Key)×(List Ent)×(List ByteArray))) (Sum ((Int×Int×ByteArray×(List Val)×(List Key)×(List Ent)×(List ByteArray))×(Int×Int×ByteArray×(List Val)×(List Key)×(List Ent)×(List ByteArray))) (Int×(Int×Int×ByteArray×(List Val)×(List Key)×(List Ent)×(List ByteArray))×(Int×Int×ByteArray×(List Val)×(List Key)×(List Ent)×(List ByteArray))))) :=
 bif decide (x7.1<(d.length:Int))
 then (Option.bind (y9 (a3I d x7) ((x7.2.2.2.2.2.2.1.length:Int).toNat+1) 0) fun b13 =>
 Option.bind (bif decide (b13<(x7.2.2.2.2.2.2.1.length:Int))
 then (Option.bind (idx x7.2.2.2.2.2.2.1 b13) fun e14 =>
 Option.bind (idx d x7.1) fun e15 =>
 some (a4T e14 e15))
 else (some false)) fun q16 =>
 bif q16
 then (some (.done (.inr (6,(0,0,(⟨#[]⟩:ByteArray),[],[],[],[]),(x7.2.2.1,x7.2.2.2.1,x7.2.2.2.2.1,x7.2.2.2.2.2.1,x7.2.2.2.2.2.2.1,x7.2.2.2.2.2.2.2.1,x7.2.2.2.2.2.2.2.2)))))
 else (Option.bind (cut x7.2.2.2.2.2.2.1 0 b13) fun y17 =>
 Option.bind (Z1 (0+y17.length) 24) fun _ =>
 Option.bind (cut x7.2.2.2.2.2.1 0 b13) fun y19 =>
 Option.bind (a0M y19) fun r20 =>
 Option.bind (idx d x7.1) fun e21 =>
 Option.bind (Z1 (y17.length+([e21]:List Key).length) 24) fun _ =>
 Option.bind (cut x7.2.2.2.2.2.2.1 b13 (x7.2.2.2.2.2.2.1.length:Int)) fun y23 =>
 Option.bind (Z1 ((y17++([e21]:List Key)).length+y23.length) 24) fun _ =>
 Option.bind (idx t x7.1) fun e25 =>
 Option.bind (Z1 (r20.length+([e25]:List Val).length) 128) fun _ =>
 Option.bind (cut x7.2.2.2.2.2.1 b13 (x7.2.2.2.2.2.1.length:Int)) fun y27 =>
 Option.bind (Z1 ((r20++([e25]:List Val)).length+y27.length) 128) fun _ =>
 some (.next (wr .i64 (x7.1+1),(x7.2.1.1,x7.2.1.2.1,x7.2.1.2.2.1,x7.2.1.2.2.2.1,x7.2.1.2.2.2.2.1,x7.2.1.2.2.2.2.2.1,x7.2.1.2.2.2.2.2.2),(x7.2.2.1,x7.2.2.2.1,x7.2.2.2.2.1,(r20++([e25]:List Val))++y27,(y17++([e21]:List Key))++y23,x7.2.2.2.2.2.2.2.1,x7.2.2.2.2.2.2.2.2)))))
 else (some (.done (.inl ((x7.2.1.1,x7.2.1.2.1,x7.2.1.2.2.1,x7.2.1.2.2.2.1,x7.2.1.2.2.2.2.1,x7.2.1.2.2.2.2.2.1,x7.2.1.2.2.2.2.2.2),(x7.2.2.1,x7.2.2.2.1,x7.2.2.2.2.1,x7.2.2.2.2.2.1,x7.2.2.2.2.2.2.1,x7.2.2.2.2.2.2.2.1,x7.2.2.2.2.2.2.2.2)))))
def a1S (d:List Key)(t:List Val):Option (Val×Int) :=
 bif (d.length:Int) != (t.length:Int)
 then (some (Val.mk 0 0 (⟨#[]⟩:ByteArray) ([]:List Val) ([]:List Key) ([]:List Ent) ([]:List ByteArray),1))
 else (Option.bind (y9 (a1s d) ((d.length:Int).toNat+1) (0,(0,0,(⟨#[]⟩:ByteArray),[],[],[],[]))) fun (b4:Sum (Int×Int×ByteArray×(List Val)×(List Key)×(List Ent)×(List ByteArray)) (Int×(Int×Int×ByteArray×(List Val)×(List Key)×(List Ent)×(List ByteArray)))) =>
 j9 (fun x5 =>
 Option.bind (y9 (a0N d t) ((d.length:Int).toNat+1) (0,(x5.1,x5.2.1,x5.2.2.1,x5.2.2.2.1,x5.2.2.2.2.1,x5.2.2.2.2.2.1,x5.2.2.2.2.2.2),(8,0,(⟨#[]⟩:ByteArray),([]:List Val),([]:List Key),[],[]))) fun (b29:Sum ((Int×Int×ByteArray×(List Val)×(List Key)×(List Ent)×(List ByteArray))×(Int×Int×ByteArray×(List Val)×(List Key)×(List Ent)×(List ByteArray))) (Int×(Int×Int×ByteArray×(List Val)×(List Key)×(List Ent)×(List ByteArray))×(Int×Int×ByteArray×(List Val)×(List Key)×(List Ent)×(List ByteArray)))) =>
 j9 (fun x30 =>
 some (Val.mk x30.2.1 x30.2.2.1 x30.2.2.2.1 x30.2.2.2.2.1 x30.2.2.2.2.2.1 x30.2.2.2.2.2.2.1 x30.2.2.2.2.2.2.2,0)) (fun y31 =>
 some (Val.mk y31.2.1.1 y31.2.1.2.1 y31.2.1.2.2.1 y31.2.1.2.2.2.1 y31.2.1.2.2.2.2.1 y31.2.1.2.2.2.2.2.1 y31.2.1.2.2.2.2.2.2,y31.1)) b29) (fun y6 =>
 some (Val.mk y6.2.1 y6.2.2.1 y6.2.2.2.1 y6.2.2.2.2.1 y6.2.2.2.2.2.1 y6.2.2.2.2.2.2.1 y6.2.2.2.2.2.2.2,y6.1)) b4)
def a2e (l:List Ent)(x1:(List Ent)×Int)(n:Nat)(x2:Int):Option (Fl Int Int) :=
 Option.bind (bif decide (x2<(x1.1.length:Int))
 then (Option.bind (idx x1.1 x2) fun e3 =>
 Option.bind (idx l x1.2) fun _ =>
 Option.bind (l[x1.2.toNat]?) fun e5 =>
 Option.bind (Z7 n e3 e5) fun r6 =>
 some (decide (r6<0)))
 else (some false)) fun q7 =>
 bif q7
 then (some (.next (wr .i64 (x2+1))))
 else (some (.done x2))
def X3 (l:List Ent)(n:Nat)(x1:(List Ent)×Int):Option (Fl ((List Ent)×Int) (List Ent)) :=
 bif decide (x1.2<(l.length:Int))
 then (Option.bind (Option.bind (y9 (a2e l x1 n) ((x1.1.length:Int).toNat+1) 0) fun b8 =>
 Option.bind (bif decide (b8<(x1.1.length:Int))
 then (Option.bind (idx x1.1 b8) fun e9 =>
 Option.bind (idx l x1.2) fun _ =>
 Option.bind (l[x1.2.toNat]?) fun e11 =>
 Option.bind (Z7 n e9 e11) fun r12 =>
 some (r12==0))
 else (some false)) fun q13 =>
 bif q13
 then (some x1.1)
 else (Option.bind (cut x1.1 0 b8) fun y14 =>
 Option.bind (Z1 (0+y14.length) 160) fun _ =>
 Option.bind (idx l x1.2) fun _ =>
 Option.bind (l[x1.2.toNat]?) fun e17 =>
 Option.bind (Z1 (y14.length+([e17]:List Ent).length) 160) fun _ =>
 Option.bind (cut x1.1 b8 (x1.1.length:Int)) fun y19 =>
 Option.bind (Z1 ((y14++([e17]:List Ent)).length+y19.length) 160) fun _ =>
 some ((y14++([e17]:List Ent))++y19))) fun b21 =>
 some (.next (b21,wr .i64 (x1.2+1))))
 else (some (.done x1.1))
def a3t (n:Nat)(l:List Ent):Option (List Ent) :=
 Option.bind (y9 (X3 l n) ((l.length:Int).toNat+1) (([]:List Ent),0)) fun b22 =>
 some b22
def a0q (arity:Int)(l:List Ent)(n:Nat)(x2:Int×(Int×Int×ByteArray×(List Val)×(List Key)×(List Ent)×(List ByteArray))):Option (Fl (Int×(Int×Int×ByteArray×(List Val)×(List Key)×(List Ent)×(List ByteArray))) (Sum (Int×Int×ByteArray×(List Val)×(List Key)×(List Ent)×(List ByteArray)) (Int×(Int×Int×ByteArray×(List Val)×(List Key)×(List Ent)×(List ByteArray))))) :=
 bif decide (x2.1<(l.length:Int))
 then (Option.bind (idx l x2.1) fun _ =>
 Option.bind (l[x2.1.toNat]?) fun e4 =>
 Option.bind (bif (e4.Args.length:Int) != arity
 then (some true)
 else (Option.bind (idx l x2.1) fun _ =>
 Option.bind (l[x2.1.toNat]?) fun e6 =>
 Option.bind (bif e6.Fails
 then (Option.bind (idx l x2.1) fun _ =>
 Option.bind (l[x2.1.toNat]?) fun e8 =>
 Option.bind (a2C n e8.Result (Val.mk 0 0 (⟨#[]⟩:ByteArray) ([]:List Val) ([]:List Key) ([]:List Ent) ([]:List ByteArray))) fun r9 =>
 some (!r9))
 else (some false)) fun q10 =>
 some q10)) fun q11 =>
 bif q11
 then (some (.done (.inr (1,(0,0,(⟨#[]⟩:ByteArray),[],[],[],[])))))
 else (some (.next (wr .i64 (x2.1+1),(x2.2.1,x2.2.2.1,x2.2.2.2.1,x2.2.2.2.2.1,x2.2.2.2.2.2.1,x2.2.2.2.2.2.2.1,x2.2.2.2.2.2.2.2)))))
 else (some (.done (.inl (x2.2.1,x2.2.2.1,x2.2.2.2.1,x2.2.2.2.2.1,x2.2.2.2.2.2.1,x2.2.2.2.2.2.2.1,x2.2.2.2.2.2.2.2))))
def a1M (n:Nat)(arity:Int)(l:List Ent):Option (Val×Int) :=
 Option.bind (bif decide (arity<0)
 then (some true)
 else (some (decide (4<arity)))) fun q1 =>
 bif q1
 then (some (Val.mk 0 0 (⟨#[]⟩:ByteArray) ([]:List Val) ([]:List Key) ([]:List Ent) ([]:List ByteArray),1))
 else (Option.bind (y9 (a0q arity l n) ((l.length:Int).toNat+1) (0,(0,0,(⟨#[]⟩:ByteArray),[],[],[],[]))) fun (b12:Sum (Int×Int×ByteArray×(List Val)×(List Key)×(List Ent)×(List ByteArray)) (Int×(Int×Int×ByteArray×(List Val)×(List Key)×(List Ent)×(List ByteArray)))) =>
 j9 (fun _ =>
 Option.bind (a3t n l) fun r15 =>
 some (Val.mk 9 arity (⟨#[]⟩:ByteArray) ([]:List Val) ([]:List Key) r15 ([]:List ByteArray),0)) (fun y14 =>
 some (Val.mk y14.2.1 y14.2.2.1 y14.2.2.2.1 y14.2.2.2.2.1 y14.2.2.2.2.2.1 y14.2.2.2.2.2.2.1 y14.2.2.2.2.2.2.2,y14.1)) b12)
def a2u (l:List ByteArray)(x1:(List ByteArray)×Int)(x2:Int):Option (Fl Int Int) :=
 Option.bind (bif decide (x2<(x1.1.length:Int))
 then (Option.bind (idx x1.1 x2) fun e3 =>
 Option.bind (idx l x1.2) fun e4 =>
 some (a1U e3 e4))
 else (some false)) fun q5 =>
 bif q5
 then (some (.next (wr .i64 (x2+1))))
 else (some (.done x2))
def a0g (l:List ByteArray)(x1:(List ByteArray)×Int):Option (Fl ((List ByteArray)×Int) (List ByteArray)) :=
 bif decide (x1.2<(l.length:Int))
 then (Option.bind (Option.bind (y9 (a2u l x1) ((x1.1.length:Int).toNat+1) 0) fun b6 =>
 Option.bind (bif decide (b6<(x1.1.length:Int))
 then (Option.bind (idx x1.1 b6) fun e7 =>
 Option.bind (idx l x1.2) fun e8 =>
 some (J5 e7 e8))
 else (some false)) fun q9 =>
 bif q9
 then (some x1.1)
 else (Option.bind (cut x1.1 0 b6) fun y10 =>
 Option.bind (Z1 (0+y10.length) 16) fun _ =>
 Option.bind (idx l x1.2) fun e12 =>
 Option.bind (Z1 (y10.length+([e12]:List ByteArray).length) 16) fun _ =>
 Option.bind (cut x1.1 b6 (x1.1.length:Int)) fun y14 =>
 Option.bind (Z1 ((y10++([e12]:List ByteArray)).length+y14.length) 16) fun _ =>
 some ((y10++([e12]:List ByteArray))++y14))) fun b16 =>
 some (.next (b16,wr .i64 (x1.2+1))))
 else (some (.done x1.1))
def X2 (l:List ByteArray):Option (List ByteArray) :=
 Option.bind (y9 (a0g l) ((l.length:Int).toNat+1) (([]:List ByteArray),0)) fun b17 =>
 some b17
def a3R (v:Val)(names:List ByteArray):Option Val :=
 Option.bind (X2 names) fun r1 =>
 some (Val.mk v.Kind v.Int_ v.Text v.Kids v.Keys v.Entries r1)
def a4s (head:Val)(tail:Val):Option Val :=
 some (Val.mk 7 0 (⟨#[]⟩:ByteArray) ([head,tail]:List Val) ([]:List Key) ([]:List Ent) ([]:List ByteArray))
def a0D (s:Semtypebase_Source):Option ((List ByteArray)×Semtypebase_Source) :=
 Option.bind (y2 s 3) fun r1 =>
 Option.bind (bif r1.1==1
 then (Option.bind (a0f r1.2) fun r2 =>
 Option.bind (Z1 (0+([r2.1]:List ByteArray).length) 16) fun _ =>
 Option.bind (y2 r2.2 2) fun r4 =>
 bif r4.1==1
 then (Option.bind (a0f r4.2) fun r5 =>
 Option.bind (Z1 (([r2.1]:List ByteArray).length+([r5.1]:List ByteArray).length) 16) fun _ =>
 some (([r2.1]:List ByteArray)++([r5.1]:List ByteArray),r5.2))
 else (some (([r2.1]:List ByteArray),r4.2)))
 else (some ([],r1.2))) fun b7 =>
 Option.bind (X2 b7.1) fun r8 =>
 some (r8,b7.2)
def a2k (s:Semtypebase_Source):Option (Key×Semtypebase_Source) :=
 Option.bind (y2 s 2) fun r1 =>
 bif r1.1==0
 then (Option.bind (K4 r1.2) fun r2 =>
 some (Key.mk 0 r2.1,r2.2))
 else (Option.bind (W9 r1.2) fun r3 =>
 some (Key.mk 1 r3.1,r3.2))
def a08 (t:Int)(rec_semtypebase_Source_Value:Semtypebase_Source->Int->Option (Val×Semtypebase_Source))(x4:(List Val)×Int×Semtypebase_Source):Option (Fl ((List Val)×Int×Semtypebase_Source) ((List Val)×Semtypebase_Source)) :=
 bif decide (0<x4.2.1)
 then (Option.bind (rec_semtypebase_Source_Value x4.2.2 (wr .i64 (t-1))) fun r5 =>
 Option.bind (Z1 (x4.1.length+([r5.1]:List Val).length) 128) fun _ =>
 some (.next (x4.1++([r5.1]:List Val),wr .i64 (x4.2.1-1),r5.2)))
 else (some (.done (x4.1,x4.2.2)))
def a09 (t:Int)(rec_semtypebase_Source_Value:Semtypebase_Source->Int->Option (Val×Semtypebase_Source))(x20:(List Key)×(List Val)×Int×Semtypebase_Source):Option (Fl ((List Key)×(List Val)×Int×Semtypebase_Source) ((List Key)×(List Val)×Semtypebase_Source)) :=
 bif decide (0<x20.2.2.1)
 then (Option.bind (a2k x20.2.2.2) fun r21 =>
 Option.bind (Z1 (x20.1.length+([r21.1]:List Key).length) 24) fun _ =>
 Option.bind (rec_semtypebase_Source_Value r21.2 (wr .i64 (t-1))) fun r23 =>
 Option.bind (Z1 (x20.2.1.length+([r23.1]:List Val).length) 128) fun _ =>
 some (.next (x20.1++([r21.1]:List Key),x20.2.1++([r23.1]:List Val),wr .i64 (x20.2.2.1-1),r23.2)))
 else (some (.done (x20.1,x20.2.1,x20.2.2.2)))
def a07 (t:Int)(r27:Int×Semtypebase_Source)(rec_semtypebase_Source_entry:Semtypebase_Source->Int->Int->Option (Ent×Semtypebase_Source))(x29:(List Ent)×Int×Semtypebase_Source):Option (Fl ((List Ent)×Int×Semtypebase_Source) ((List Ent)×Semtypebase_Source)) :=
 bif decide (0<x29.2.1)
 then (Option.bind (rec_semtypebase_Source_entry x29.2.2 r27.1 (wr .i64 (t-1))) fun r30 =>
 Option.bind (Z1 (x29.1.length+([r30.1]:List Ent).length) 160) fun _ =>
 some (.next (x29.1++([r30.1]:List Ent),wr .i64 (x29.2.1-1),r30.2)))
 else (some (.done (x29.1,x29.2.2)))
def a1b (height:Int)(rec_semtypebase_Source_Value:Semtypebase_Source->Int->Option (Val×Semtypebase_Source))(x1:Int×Semtypebase_Source×((List Val)×Bool×Int×Int×ByteArray×(List Val)×(List Key)×(List Ent)×(List ByteArray))):Option (Fl (Int×Semtypebase_Source×((List Val)×Bool×Int×Int×ByteArray×(List Val)×(List Key)×(List Ent)×(List ByteArray))) (Semtypebase_Source×((List Val)×Bool×Int×Int×ByteArray×(List Val)×(List Key)×(List Ent)×(List ByteArray)))) :=
 bif decide (0<x1.1)
 then (Option.bind (rec_semtypebase_Source_Value x1.2.1 height) fun r2 =>
 Option.bind (Z1 (x1.2.2.1.length+([r2.1]:List Val).length) 128) fun _ =>
 some (.next (wr .i64 (x1.1-1),r2.2,(x1.2.2.1++([r2.1]:List Val),x1.2.2.2.1,x1.2.2.2.2.1,x1.2.2.2.2.2.1,x1.2.2.2.2.2.2.1,x1.2.2.2.2.2.2.2.1,x1.2.2.2.2.2.2.2.2.1,x1.2.2.2.2.2.2.2.2.2.1,x1.2.2.2.2.2.2.2.2.2.2))))
 else (some (.done (x1.2.1,(x1.2.2.1,x1.2.2.2.1,x1.2.2.2.2.1,x1.2.2.2.2.2.1,x1.2.2.2.2.2.2.1,x1.2.2.2.2.2.2.2.1,x1.2.2.2.2.2.2.2.2.1,x1.2.2.2.2.2.2.2.2.2.1,x1.2.2.2.2.2.2.2.2.2.2))))
def a2z (_:Nat)(_:Semtypebase_Source->Int->Option (Val×Semtypebase_Source))(rec_semtypebase_Source_value:Semtypebase_Source->Int->Option (Val×Semtypebase_Source))(_:Semtypebase_Source->Int->Int->Option (Ent×Semtypebase_Source))(s:Semtypebase_Source)(height:Int):Option (Val×Semtypebase_Source) :=
 Option.bind (rec_semtypebase_Source_value s height) fun r1 =>
 Option.bind (a0D r1.2) fun r2 =>
 some (Val.mk r1.1.Kind r1.1.Int_ r1.1.Text r1.1.Kids r1.1.Keys r1.1.Entries r2.1,r2.2)
def a0x (n:Nat)(rec_semtypebase_Source_Value:Semtypebase_Source->Int->Option (Val×Semtypebase_Source))(_:Semtypebase_Source->Int->Option (Val×Semtypebase_Source))(rec_semtypebase_Source_entry:Semtypebase_Source->Int->Int->Option (Ent×Semtypebase_Source))(d:Semtypebase_Source)(t:Int):Option (Val×Semtypebase_Source) :=
 bif decide (t<=1)
 then (Option.bind (K0 d) fun r1 =>
 some (r1.1,r1.2))
 else (Option.bind (y2 d 6) fun r2 =>
 Option.bind (bif r2.1==1
 then (Option.bind (y2 r2.2 4) fun r3 =>
 Option.bind (y9 (a08 t rec_semtypebase_Source_Value) (r3.1.toNat+2) ([],r3.1,r3.2)) fun b7 =>
 Option.bind (a1X b7.1) fun r8 =>
 some (.inr (b7.2,(r8.Kind,r8.Int_,r8.Text,r8.Kids,r8.Keys,r8.Entries,r8.Labels))))
 else (bif r2.1==2
 then (Option.bind (K6) fun r9 =>
 Option.bind (bif decide (2<t)
 then (Option.bind (y2 r2.2 2) fun r10 =>
 some (r10.1==1,r10.2))
 else (some (false,r2.2))) fun b11 =>
 Option.bind (bif b11.1
 then (Option.bind (rec_semtypebase_Source_Value b11.2 (wr .i64 (t-2))) fun r12 =>
 Option.bind (K6) fun r13 =>
 Option.bind (a4s r12.1 r13) fun r14 =>
 some (r12.2,r14))
 else (some (b11.2,r9))) fun b15 =>
 Option.bind (a0D b15.1) fun r16 =>
 Option.bind (rec_semtypebase_Source_Value r16.2 (wr .i64 (t-1))) fun r17 =>
 Option.bind (a4s r17.1 (Val.mk b15.2.Kind b15.2.Int_ b15.2.Text b15.2.Kids b15.2.Keys b15.2.Entries r16.1)) fun r18 =>
 some (.inr (r17.2,(r18.Kind,r18.Int_,r18.Text,r18.Kids,r18.Keys,r18.Entries,r18.Labels))))
 else (bif r2.1==3
 then (Option.bind (y2 r2.2 3) fun r19 =>
 Option.bind (y9 (a09 t rec_semtypebase_Source_Value) (r19.1.toNat+2) ([],[],r19.1,r19.2)) fun b25 =>
 Option.bind (a1S b25.1 b25.2.1) fun r26 =>
 bif r26.2==0
 then (some (.inr (b25.2.2,(r26.1.Kind,r26.1.Int_,r26.1.Text,r26.1.Kids,r26.1.Keys,r26.1.Entries,r26.1.Labels))))
 else (some (.inl (b25.2.2,(0,0,(⟨#[]⟩:ByteArray),([]:List Val),([]:List Key),([]:List Ent),([]:List ByteArray))))))
 else (bif r2.1==4
 then (Option.bind (y2 r2.2 3) fun r27 =>
 Option.bind (y2 r27.2 3) fun r28 =>
 Option.bind (y9 (a07 t r27 rec_semtypebase_Source_entry) (r28.1.toNat+2) ([],r28.1,r28.2)) fun b32 =>
 Option.bind (a1M n r27.1 b32.1) fun r33 =>
 bif r33.2==0
 then (some (.inr (b32.2,(r33.1.Kind,r33.1.Int_,r33.1.Text,r33.1.Kids,r33.1.Keys,r33.1.Entries,r33.1.Labels))))
 else (some (.inl (b32.2,(0,0,(⟨#[]⟩:ByteArray),([]:List Val),([]:List Key),([]:List Ent),([]:List ByteArray))))))
 else (some (.inl (r2.2,(0,0,(⟨#[]⟩:ByteArray),([]:List Val),([]:List Key),([]:List Ent),([]:List ByteArray))))))))) fun (b34:Sum (Semtypebase_Source×(Int×Int×ByteArray×(List Val)×(List Key)×(List Ent)×(List ByteArray))) (Semtypebase_Source×(Int×Int×ByteArray×(List Val)×(List Key)×(List Ent)×(List ByteArray)))) =>
 j9 (fun x35 =>
 Option.bind (K0 x35.1) fun r37 =>
 some (r37.1,r37.2)) (fun y36 =>
 some (Val.mk y36.2.1 y36.2.2.1 y36.2.2.2.1 y36.2.2.2.2.1 y36.2.2.2.2.2.1 y36.2.2.2.2.2.2.1 y36.2.2.2.2.2.2.2,y36.1)) b34)
def a2x (_:Nat)(rec_semtypebase_Source_Value:Semtypebase_Source->Int->Option (Val×Semtypebase_Source))(_:Semtypebase_Source->Int->Option (Val×Semtypebase_Source))(_:Semtypebase_Source->Int->Int->Option (Ent×Semtypebase_Source))(s:Semtypebase_Source)(n_1:Int)(height:Int):Option (Ent×Semtypebase_Source) :=
 Option.bind (y9 (a1b height rec_semtypebase_Source_Value) (n_1.toNat+2) (n_1,s,([],false,0,0,(⟨#[]⟩:ByteArray),[],[],[],[]))) fun b4 =>
 Option.bind (y2 b4.1 4) fun r5 =>
 bif r5.1==1
 then (some (Ent.mk b4.2.1 true (Val.mk b4.2.2.2.1 b4.2.2.2.2.1 b4.2.2.2.2.2.1 b4.2.2.2.2.2.2.1 b4.2.2.2.2.2.2.2.1 b4.2.2.2.2.2.2.2.2.1 b4.2.2.2.2.2.2.2.2.2),r5.2))
 else (Option.bind (rec_semtypebase_Source_Value r5.2 height) fun r6 =>
 some (Ent.mk b4.2.1 b4.2.2.1 r6.1,r6.2))
def j6:Nat->(Semtypebase_Source->Int->Option (Val×Semtypebase_Source))×(Semtypebase_Source->Int->Option (Val×Semtypebase_Source))×(Semtypebase_Source->Int->Int->Option (Ent×Semtypebase_Source))
 | 0=>(fun _ _=>none,fun _ _=>none,fun _ _ _=>none)
 | n+1=>(a2z n ((j6 n).1) ((j6 n).2.1) ((j6 n).2.2),a0x n ((j6 n).1) ((j6 n).2.1) ((j6 n).2.2),a2x n ((j6 n).1) ((j6 n).2.1) ((j6 n).2.2))
def a1T (n:Nat):Semtypebase_Source->Int->Option (Val×Semtypebase_Source):=(j6 n).1
def b1o (n:Nat):Semtypebase_Source->Int->Option (Val×Semtypebase_Source):=(j6 n).2.1
def b09 (n:Nat):Semtypebase_Source->Int->Int->Option (Ent×Semtypebase_Source):=(j6 n).2.2
def a0z (t:Api_Type)(a3_3:Int)(e4:Api_TypeNode)(rec_semtypebase_Source_Near:Semtypebase_Source->Api_Type->Int->Int->Option (Val×Semtypebase_Source))(x21:Int×Semtypebase_Source×(Int×Int×ByteArray×(List Val)×(List Key)×(List Ent)×(List ByteArray))):Option (Fl (Int×Semtypebase_Source×(Int×Int×ByteArray×(List Val)×(List Key)×(List Ent)×(List ByteArray))) (Semtypebase_Source×(Int×Int×ByteArray×(List Val)×(List Key)×(List Ent)×(List ByteArray)))) :=
 bif decide (x21.1<(e4.Kids.length:Int))
 then (Option.bind (idx e4.Kids x21.1) fun e22 =>
 Option.bind (rec_semtypebase_Source_Near x21.2.1 t e22 (wr .i64 (a3_3-1))) fun r23 =>
 Option.bind (Z1 (x21.2.2.2.2.2.1.length+([r23.1]:List Val).length) 128) fun _ =>
 some (.next (wr .i64 (x21.1+1),r23.2,(x21.2.2.1,x21.2.2.2.1,x21.2.2.2.2.1,x21.2.2.2.2.2.1++([r23.1]:List Val),x21.2.2.2.2.2.2.1,x21.2.2.2.2.2.2.2.1,x21.2.2.2.2.2.2.2.2))))
 else (some (.done (x21.2.1,(x21.2.2.1,x21.2.2.2.1,x21.2.2.2.2.1,x21.2.2.2.2.2.1,x21.2.2.2.2.2.2.1,x21.2.2.2.2.2.2.2.1,x21.2.2.2.2.2.2.2.2))))
def V0 (t:Api_Type)(e4:Api_TypeNode)(x40:Int×Val):Option (Fl (Int×Val) Val) :=
 bif decide (x40.1<(e4.Kids.length:Int))
 then (Option.bind (Option.bind (idx e4.Kids x40.1) fun e41 =>
 Option.bind (idx t.Nodes e41) fun e42 =>
 bif e42.Kind==19
 then (Option.bind (Z1 (0+x40.2.Labels.length) 16) fun _ =>
 Option.bind (idx e4.Kids x40.1) fun e44 =>
 Option.bind (idx t.Nodes e44) fun e45 =>
 Option.bind (Z1 (x40.2.Labels.length+([e45.Text]:List ByteArray).length) 16) fun _ =>
 Option.bind (X2 (x40.2.Labels++([e45.Text]:List ByteArray))) fun r47 =>
 some (Val.mk x40.2.Kind x40.2.Int_ x40.2.Text x40.2.Kids x40.2.Keys x40.2.Entries r47))
 else (some x40.2)) fun b48 =>
 some (.next (wr .i64 (x40.1+1),b48)))
 else (some (.done x40.2))
def J8 (t:Api_Type)(a2_2:Api_TypeNode)(a3_3:Int)(rec_semtypebase_Source_Near:Semtypebase_Source->Api_Type->Int->Int->Option (Val×Semtypebase_Source))(x3:Int×Semtypebase_Source×((List Val)×Bool×Int×Int×ByteArray×(List Val)×(List Key)×(List Ent)×(List ByteArray))):Option (Fl (Int×Semtypebase_Source×((List Val)×Bool×Int×Int×ByteArray×(List Val)×(List Key)×(List Ent)×(List ByteArray))) (Semtypebase_Source×((List Val)×Bool×Int×Int×ByteArray×(List Val)×(List Key)×(List Ent)×(List ByteArray)))) :=
 bif decide (x3.1<(wr .i64 ((a2_2.Kids.length:Int)-1)))
 then (Option.bind (idx a2_2.Kids x3.1) fun e4 =>
 Option.bind (rec_semtypebase_Source_Near x3.2.1 t e4 (wr .i64 (a3_3-1))) fun r5 =>
 Option.bind (Z1 (x3.2.2.1.length+([r5.1]:List Val).length) 128) fun _ =>
 some (.next (wr .i64 (x3.1+1),r5.2,(x3.2.2.1++([r5.1]:List Val),x3.2.2.2.1,x3.2.2.2.2.1,x3.2.2.2.2.2.1,x3.2.2.2.2.2.2.1,x3.2.2.2.2.2.2.2.1,x3.2.2.2.2.2.2.2.2.1,x3.2.2.2.2.2.2.2.2.2.1,x3.2.2.2.2.2.2.2.2.2.2))))
 else (some (.done (x3.2.1,(x3.2.2.1,x3.2.2.2.1,x3.2.2.2.2.1,x3.2.2.2.2.2.1,x3.2.2.2.2.2.2.1,x3.2.2.2.2.2.2.2.1,x3.2.2.2.2.2.2.2.2.1,x3.2.2.2.2.2.2.2.2.2.1,x3.2.2.2.2.2.2.2.2.2.2))))
def V3 (t:Api_Type)(a2_2:Api_TypeNode)(a3_3:Int)(rec_semtypebase_Source_Near:Semtypebase_Source->Api_Type->Int->Int->Option (Val×Semtypebase_Source))(x2:(List Ent)×Int×Semtypebase_Source):Option (Fl ((List Ent)×Int×Semtypebase_Source) ((List Ent)×Semtypebase_Source)) :=
 bif decide (0<x2.2.1)
 then (Option.bind (y9 (J8 t a2_2 a3_3 rec_semtypebase_Source_Near) ((wr .i64 ((a2_2.Kids.length:Int)-1)).toNat+1) (0,x2.2.2,([],false,0,0,(⟨#[]⟩:ByteArray),[],[],[],[]))) fun b7 =>
 Option.bind (y2 b7.1 6) fun r8 =>
 Option.bind (bif r8.1==1
 then (some (r8.2,(b7.2.1,true,b7.2.2.2.1,b7.2.2.2.2.1,b7.2.2.2.2.2.1,b7.2.2.2.2.2.2.1,b7.2.2.2.2.2.2.2.1,b7.2.2.2.2.2.2.2.2.1,b7.2.2.2.2.2.2.2.2.2)))
 else (Option.bind (idx a2_2.Kids (wr .i64 ((a2_2.Kids.length:Int)-1))) fun e9 =>
 Option.bind (rec_semtypebase_Source_Near r8.2 t e9 (wr .i64 (a3_3-1))) fun r10 =>
 some (r10.2,(b7.2.1,b7.2.2.1,r10.1.Kind,r10.1.Int_,r10.1.Text,r10.1.Kids,r10.1.Keys,r10.1.Entries,r10.1.Labels)))) fun b11 =>
 Option.bind (Z1 (x2.1.length+([Ent.mk b11.2.1 b11.2.2.1 (Val.mk b11.2.2.2.1 b11.2.2.2.2.1 b11.2.2.2.2.2.1 b11.2.2.2.2.2.2.1 b11.2.2.2.2.2.2.2.1 b11.2.2.2.2.2.2.2.2.1 b11.2.2.2.2.2.2.2.2.2)]:List Ent).length) 160) fun _ =>
 some (.next (x2.1++([Ent.mk b11.2.1 b11.2.2.1 (Val.mk b11.2.2.2.1 b11.2.2.2.2.1 b11.2.2.2.2.2.1 b11.2.2.2.2.2.2.1 b11.2.2.2.2.2.2.2.1 b11.2.2.2.2.2.2.2.2.1 b11.2.2.2.2.2.2.2.2.2)]:List Ent),wr .i64 (x2.2.1-1),b11.1)))
 else (some (.done (x2.1,x2.2.2)))
def X8 (t:Api_Type)(a2_2:Api_TypeNode)(a3_3:Int)(rec_semtypebase_Source_Near:Semtypebase_Source->Api_Type->Int->Int->Option (Val×Semtypebase_Source))(x1:(List Key)×(List Val)×Int×Semtypebase_Source):Option (Fl ((List Key)×(List Val)×Int×Semtypebase_Source) ((List Key)×(List Val)×Semtypebase_Source)) :=
 bif decide (x1.2.2.1<(a2_2.Fields.length:Int))
 then (Option.bind (Option.bind (Option.bind (idx a2_2.Fields x1.2.2.1) fun e2 =>
 bif e2.Optional
 then (Option.bind (y2 x1.2.2.2 2) fun r3 =>
 some (r3.1==1,r3.2))
 else (some (false,x1.2.2.2))) fun b4 =>
 bif b4.1
 then (some (x1.1,x1.2.1,b4.2))
 else (Option.bind (idx a2_2.Fields x1.2.2.1) fun e5 =>
 Option.bind (Z1 (x1.1.length+([e5.Key_]:List Key).length) 24) fun _ =>
 Option.bind (idx a2_2.Fields x1.2.2.1) fun e7 =>
 Option.bind (rec_semtypebase_Source_Near b4.2 t e7.Node (wr .i64 (a3_3-1))) fun r8 =>
 Option.bind (Z1 (x1.2.1.length+([r8.1]:List Val).length) 128) fun _ =>
 some (x1.1++([e5.Key_]:List Key),x1.2.1++([r8.1]:List Val),r8.2))) fun b10 =>
 some (.next (b10.1,b10.2.1,wr .i64 (x1.2.2.1+1),b10.2.2)))
 else (some (.done (x1.1,x1.2.1,x1.2.2.2)))
def a2U (n:Nat)(_:Semtypebase_Source->Api_Type->Int->Int->Option (Val×Semtypebase_Source))(rec_semtypebase_Source_near:Semtypebase_Source->Api_Type->Int->Int->Option (Val×Semtypebase_Source))(_:Semtypebase_Source->Api_Type->Api_TypeNode->Int->Option (Val×Semtypebase_Source))(_:Semtypebase_Source->Api_Type->Api_TypeNode->Int->Option (Val×Semtypebase_Source))(s:Semtypebase_Source)(t:Api_Type)(k:Int)(height:Int):Option (Val×Semtypebase_Source) :=
 Option.bind (rec_semtypebase_Source_near s t k height) fun r1 =>
 Option.bind (W5 n r1.1) fun r2 =>
 bif !r2
 then (Option.bind (K0 r1.2) fun r3 =>
 some (r3.1,r3.2))
 else (some (r1.1,r1.2))
def a0G (n:Nat)(rec_semtypebase_Source_Near:Semtypebase_Source->Api_Type->Int->Int->Option (Val×Semtypebase_Source))(rec_semtypebase_Source_near:Semtypebase_Source->Api_Type->Int->Int->Option (Val×Semtypebase_Source))(rec_semtypebase_Source_nearFunction:Semtypebase_Source->Api_Type->Api_TypeNode->Int->Option (Val×Semtypebase_Source))(rec_semtypebase_Source_nearMap:Semtypebase_Source->Api_Type->Api_TypeNode->Int->Option (Val×Semtypebase_Source))(d:Semtypebase_Source)(t:Api_Type)(a2_2:Int)(a3_3:Int):Option (Val×Semtypebase_Source) :=
 Option.bind (bif decide (a3_3<=0)
 then (some true)
 else (some (decide (a2_2<0)))) fun q1 =>
 Option.bind (bif q1
 then (some true)
 else (some (decide ((t.Nodes.length:Int)<=a2_2)))) fun q2 =>
 bif q2
 then (Option.bind (K0 d) fun r3 =>
 some (r3.1,r3.2))
 else (Option.bind (idx t.Nodes a2_2) fun e4 =>
 bif e4.Kind==3
 then (Option.bind (b5o .i64 e4.Hi 2) fun d5 =>
 Option.bind (b5o .i64 e4.Lo 2) fun d6 =>
 Option.bind (y2 d 3) fun r7 =>
 Option.bind (idx ([e4.Lo,e4.Hi,wr .i64 (e4.Lo+(wr .i64 (d5-d6)))]:List Int) r7.1) fun _ =>
 Option.bind (([e4.Lo,e4.Hi,wr .i64 (e4.Lo+(wr .i64 (d5-d6)))]:List Int)[r7.1.toNat]?) fun e9 =>
 Option.bind (a7I e9) fun r10 =>
 some (r10,r7.2))
 else (bif e4.Kind==4
 then (Option.bind (a3E e4.Text) fun r11 =>
 some (r11,d))
 else (bif e4.Kind==5
 then (Option.bind (W9 d) fun r12 =>
 Option.bind (a3E r12.1) fun r13 =>
 some (r13,r12.2))
 else (bif e4.Kind==6
 then (Option.bind (a4m e4.Text) fun r14 =>
 some (r14,d))
 else (bif e4.Kind==7
 then (Option.bind (K4 d) fun r15 =>
 Option.bind (a4m r15.1) fun r16 =>
 some (r16,r15.2))
 else (bif e4.Kind==8
 then (Option.bind (y2 d 2) fun r17 =>
 Option.bind (a7l r17.1) fun r18 =>
 some (r18,r17.2))
 else (bif e4.Kind==9
 then (Option.bind (K6) fun r19 =>
 some (r19,d))
 else (Option.bind (bif e4.Kind==10
 then (some (e4.Kind==10))
 else (some (e4.Kind==12))) fun b20 =>
 bif b20
 then (Option.bind (y9 (a0z t a3_3 e4 rec_semtypebase_Source_Near) ((e4.Kids.length:Int).toNat+1) (0,d,(0,0,(⟨#[]⟩:ByteArray),[],[],[],[]))) fun b25 =>
 Option.bind (bif e4.Kind==12
 then (Option.bind (idx b25.2.2.2.2.1 1) fun _ =>
 Option.bind (b25.2.2.2.2.1[(1:Int).toNat]?) fun e27 =>
 bif e27.Kind != 7
 then (Option.bind (K6) fun r28 =>
 Option.bind (idx b25.2.2.2.2.1 1) fun _ =>
 Option.bind (b25.2.2.2.2.1[(1:Int).toNat]?) fun _ =>
 some (7,b25.2.2.1,b25.2.2.2.1,b25.2.2.2.2.1.set ((1:Int).toNat) r28,b25.2.2.2.2.2.1,b25.2.2.2.2.2.2.1,b25.2.2.2.2.2.2.2))
 else (some (7,b25.2.2.1,b25.2.2.2.1,b25.2.2.2.2.1,b25.2.2.2.2.2.1,b25.2.2.2.2.2.2.1,b25.2.2.2.2.2.2.2)))
 else (some (6,b25.2.2.1,b25.2.2.2.1,b25.2.2.2.2.1,b25.2.2.2.2.2.1,b25.2.2.2.2.2.2.1,b25.2.2.2.2.2.2.2))) fun b31 =>
 some (Val.mk b31.1 b31.2.1 b31.2.2.1 b31.2.2.2.1 b31.2.2.2.2.1 b31.2.2.2.2.2.1 b31.2.2.2.2.2.2,b25.1))
 else (bif e4.Kind==13
 then (Option.bind (rec_semtypebase_Source_nearMap d t e4 a3_3) fun r32 =>
 some (r32.1,r32.2))
 else (bif e4.Kind==14
 then (Option.bind (rec_semtypebase_Source_nearFunction d t e4 a3_3) fun r33 =>
 some (r33.1,r33.2))
 else (bif e4.Kind==16
 then (Option.bind (y2 d (e4.Kids.length:Int)) fun r34 =>
 Option.bind (idx e4.Kids r34.1) fun e35 =>
 Option.bind (rec_semtypebase_Source_near r34.2 t e35 a3_3) fun r36 =>
 some (r36.1,r36.2))
 else (bif e4.Kind==17
 then (Option.bind (y2 d (e4.Kids.length:Int)) fun r37 =>
 Option.bind (idx e4.Kids r37.1) fun e38 =>
 Option.bind (rec_semtypebase_Source_near r37.2 t e38 a3_3) fun r39 =>
 Option.bind (y9 (V0 t e4) ((e4.Kids.length:Int).toNat+1) (0,r39.1)) fun b49 =>
 some (b49,r39.2))
 else (bif e4.Kind==19
 then (Option.bind (K0 d) fun r50 =>
 Option.bind (a3R r50.1 ([e4.Text]:List ByteArray)) fun r51 =>
 some (r51,r50.2))
 else (Option.bind (a1T n d 2) fun r52 =>
 some (r52.1,r52.2)))))))))))))))
def a1i (n:Nat)(rec_semtypebase_Source_Near:Semtypebase_Source->Api_Type->Int->Int->Option (Val×Semtypebase_Source))(_:Semtypebase_Source->Api_Type->Int->Int->Option (Val×Semtypebase_Source))(_:Semtypebase_Source->Api_Type->Api_TypeNode->Int->Option (Val×Semtypebase_Source))(_:Semtypebase_Source->Api_Type->Api_TypeNode->Int->Option (Val×Semtypebase_Source))(d:Semtypebase_Source)(t:Api_Type)(a2_2:Api_TypeNode)(a3_3:Int):Option (Val×Semtypebase_Source) :=
 Option.bind (y2 d 3) fun r1 =>
 Option.bind (y9 (V3 t a2_2 a3_3 rec_semtypebase_Source_Near) (r1.1.toNat+2) ([],r1.1,r1.2)) fun b13 =>
 Option.bind (a1M n (wr .i64 ((a2_2.Kids.length:Int)-1)) b13.1) fun r14 =>
 bif r14.2 != 0
 then (Option.bind (K6) fun r15 =>
 some (r15,b13.2))
 else (some (r14.1,b13.2))
def a19 (_:Nat)(rec_semtypebase_Source_Near:Semtypebase_Source->Api_Type->Int->Int->Option (Val×Semtypebase_Source))(_:Semtypebase_Source->Api_Type->Int->Int->Option (Val×Semtypebase_Source))(_:Semtypebase_Source->Api_Type->Api_TypeNode->Int->Option (Val×Semtypebase_Source))(_:Semtypebase_Source->Api_Type->Api_TypeNode->Int->Option (Val×Semtypebase_Source))(d:Semtypebase_Source)(t:Api_Type)(a2_2:Api_TypeNode)(a3_3:Int):Option (Val×Semtypebase_Source) :=
 Option.bind (y9 (X8 t a2_2 a3_3 rec_semtypebase_Source_Near) ((a2_2.Fields.length:Int).toNat+1) ([],[],0,d)) fun b11 =>
 Option.bind (y2 b11.2.2 2) fun r12 =>
 Option.bind (bif r12.1==1
 then (Option.bind (y2 r12.2 2) fun r13 =>
 Option.bind (Z1 (b11.1.length+([Key.mk r13.1 (⟨#[111,116,104,101,114]⟩:ByteArray)]:List Key).length) 24) fun _ =>
 bif r13.1==0
 then (Option.bind (rec_semtypebase_Source_Near r13.2 t a2_2.Rest.1 (wr .i64 (a3_3-1))) fun r15 =>
 Option.bind (Z1 (b11.2.1.length+([r15.1]:List Val).length) 128) fun _ =>
 some (b11.1++([Key.mk r13.1 (⟨#[111,116,104,101,114]⟩:ByteArray)]:List Key),b11.2.1++([r15.1]:List Val),r15.2))
 else (bif r13.1==1
 then (Option.bind (rec_semtypebase_Source_Near r13.2 t a2_2.Rest.2 (wr .i64 (a3_3-1))) fun r17 =>
 Option.bind (Z1 (b11.2.1.length+([r17.1]:List Val).length) 128) fun _ =>
 some (b11.1++([Key.mk r13.1 (⟨#[111,116,104,101,114]⟩:ByteArray)]:List Key),b11.2.1++([r17.1]:List Val),r17.2))
 else (none)))
 else (some (b11.1,b11.2.1,r12.2))) fun b19 =>
 Option.bind (a1S b19.1 b19.2.1) fun r20 =>
 bif r20.2 != 0
 then (Option.bind (K6) fun r21 =>
 some (r21,b19.2.2))
 else (some (r20.1,b19.2.2))
def z7:Nat->(Semtypebase_Source->Api_Type->Int->Int->Option (Val×Semtypebase_Source))×(Semtypebase_Source->Api_Type->Int->Int->Option (Val×Semtypebase_Source))×(Semtypebase_Source->Api_Type->Api_TypeNode->Int->Option (Val×Semtypebase_Source))×(Semtypebase_Source->Api_Type->Api_TypeNode->Int->Option (Val×Semtypebase_Source))
 | 0=>(fun _ _ _ _=>none,fun _ _ _ _=>none,fun _ _ _ _=>none,fun _ _ _ _=>none)
 | n+1=>(a2U n ((z7 n).1) ((z7 n).2.1) ((z7 n).2.2.1) ((z7 n).2.2.2),a0G n ((z7 n).1) ((z7 n).2.1) ((z7 n).2.2.1) ((z7 n).2.2.2),a1i n ((z7 n).1) ((z7 n).2.1) ((z7 n).2.2.1) ((z7 n).2.2.2),a19 n ((z7 n).1) ((z7 n).2.1) ((z7 n).2.2.1) ((z7 n).2.2.2))
def a15 (n:Nat):Semtypebase_Source->Api_Type->Int->Int->Option (Val×Semtypebase_Source):=(z7 n).1
def b1O (n:Nat):Semtypebase_Source->Api_Type->Int->Int->Option (Val×Semtypebase_Source):=(z7 n).2.1
def a63 (n:Nat):Semtypebase_Source->Api_Type->Api_TypeNode->Int->Option (Val×Semtypebase_Source):=(z7 n).2.2.1
def a9r (n:Nat):Semtypebase_Source->Api_Type->Api_TypeNode->Int->Option (Val×Semtypebase_Source):=(z7 n).2.2.2
def a3K (n:Nat)(l:List Int)(m:List Int):Option (Api_Type×Val) :=
 Option.bind (y2 (Semtypebase_Source.mk l 0) 7) fun r1 =>
 Option.bind (a01 r1.2 (wr .i64 (1+r1.1))) fun r2 =>
 Option.bind (y2 (Semtypebase_Source.mk m 0) (r2.1.Nodes.length:Int)) fun r3 =>
 Option.bind (a15 n r3.2 r2.1 r3.1 4) fun r4 =>
 some (r2.1,r4.1)
def a1k (t:Api_Type)(g:Api_Goal)(x3:Int):Option (Fl Int (Sum Unit Bool)) :=
 bif decide (x3<((g.Pos++g.Neg).length:Int))
 then (Option.bind (idx (g.Pos++g.Neg) x3) fun e4 =>
 Option.bind (W6 t e4) fun r5 =>
 bif !r5
 then (some (.done (.inr false)))
 else (some (.next (wr .i64 (x3+1)))))
 else (some (.done (.inl ())))
def a3p (t:Api_Type)(g:Api_Goal):Option Bool :=
 Option.bind (Z1 (0+g.Pos.length) 8) fun _ =>
 Option.bind (Z1 (g.Pos.length+g.Neg.length) 8) fun _ =>
 Option.bind (y9 (a1k t g) (((g.Pos++g.Neg).length:Int).toNat+1) 0) fun b6 =>
 j9 (fun _ =>
 some true) (fun y8 =>
 some y8) b6
noncomputable def a1x (n:Nat)(l:List Int)(g:Api_Goal)(raw:Api_Type):Option Bool :=
 Option.bind (a3N ([l]:List (List Int))) fun r1 =>
 Option.bind (bif !r1
 then (some true)
 else (some (decide (6<(g.Pos.length:Int))))) fun q2 =>
 Option.bind (bif q2
 then (some true)
 else (some (decide (6<(g.Neg.length:Int))))) fun q3 =>
 Option.bind (bif q3
 then (some true)
 else (some (decide (20<(raw.Nodes.length:Int))))) fun q4 =>
 bif q4
 then (Option.bind (a1B n) fun r5 =>
 some r5)
 else (Option.bind (a3K n l ([]:List Int)) fun r6 =>
 Option.bind (Option.bind (a3p r6.1 g) fun r7 =>
 bif !r7
 then (Option.bind (a06 n r6.1 g) fun r8 =>
 some (decide (0<(r8.length:Int))))
 else (some false)) fun b9 =>
 bif b9
 then (some false)
 else (Option.bind (a0B n raw) fun r10 =>
 bif r10==0
 then (Option.bind (Option.bind (a1B n) fun r11 =>
 some r11) fun q12 =>
 some q12)
 else (Option.bind (a06 n raw g) fun r13 =>
 Option.bind (bif (r13.length:Int)==0
 then (Option.bind (a1B n) fun r14 =>
 some r14)
 else (some false)) fun q15 =>
 some q15)))
end Go.Qx
end
section
namespace Go.Pl
open Go Go.RowKit Go.Sx Go.Qx
theorem J9 (x:Int):wr .i64 x=w64 x:=rfl
theorem a0O {α:Type}(b:Bool)(x y:α):(bif b then x else y)=if b=true then x else y:=by cases b<;>rfl
theorem a5e {α:Type}(o:Option α):(Option.bind o fun x=>some x)=o:=by cases o<;>rfl
theorem X7 {α:Type}(l:List α):((l.length:Int)).toNat=l.length:=by omega
theorem c1P (s:ByteArray):((s.size:Int)).toNat=s.size:=by omega
theorem W8 {x:Int}(h1 : -9223372036854775808<=x)(h2:x<=9223372036854775807):w64 x=x:=by
 unfold w64
 rw [IntKind.wrap_i64]
 omega
theorem Y5 {α:Type}{xs:List α}{i:Nat}{x:α}(h:xs[i]?=some x):idx xs (i:Int)=some x:=by
 unfold idx
 rw [if_pos (by omega)]
 simpa using h
theorem W4 {n bytes:Nat}(h:n*bytes<=140737488355328):Z1 n bytes=some ():=by unfold Z1; rw [if_pos h]
theorem b7Y {σ α St β:Type}{step:St->Option (Fl St β)}(xs:List α)(pack:σ->Nat->St)(F:σ->α->σ)(I:Nat->σ->Prop)(D:σ->β)
 (hstep:∀ i s x,xs[i]?=some x->I i s->step (pack s i)=some (.next (pack (F s x) (i+1)))/\I (i+1) (F s x))
 (hend:∀ s,I xs.length s->step (pack s xs.length)=some (.done (D s))) (s0:σ) (h0:I 0 s0) (k:Nat) (hk:xs.length+1<=k) :
 y9 step k (pack s0 0)=some (D (xs.foldl F s0)):=by
 have key:∀ (n i:Nat) (s:σ) (k:Nat),i+n=xs.length->n+1<=k->I i s->y9 step k (pack s i)=some (D ((xs.drop i).foldl F s)):=by
  intro n
  induction n with
  | zero =>
    intro i s k hi hk hI
    have e:i=xs.length:=by omega
    subst e
    obtain ⟨k,rfl⟩:∃ m,k=m+1:=⟨k-1,by omega⟩
    simp [y9,hend s hI]
  | succ n ih =>
    intro i s k hi hk hI
    have hlt:i<xs.length:=by omega
    obtain ⟨k,rfl⟩:∃ m,k=m+1:=⟨k-1,by omega⟩
    obtain ⟨h1,h2⟩:=hstep i s xs[i] (List.getElem?_eq_getElem hlt) hI
    rw [List.drop_eq_getElem_cons hlt,List.foldl_cons]
    simp only [y9,h1,Option.bind_some]
    exact ih (i+1) _ k (by omega) (by omega) h2
 have:=key xs.length 0 s0 k (by omega) hk h0
 simpa using this
def a0Z (s:ByteArray):Nat:=s.size+1
def J2:List ByteArray->Nat
 | []=>0
 | s::r=>a0Z s+J2 r
def a2v (k:Key):Nat:=1+a0Z k.Text+1
def k9:List Key->Nat
 | []=>0
 | s::r=>a2v s+k9 r
mutual
def Z9:Val->Nat
 | .mk _ _ t kids keys ents labs=>1+1+a0Z t+(v7 kids+1)+(k9 keys+1)+(Z3 ents+1)+(J2 labs+1)+1
def v7:List Val->Nat
 | []=>0
 | x::r=>Z9 x+v7 r
def a5b:Ent->Nat
 | .mk args _ res=>(v7 args+1)+1+Z9 res+1
def Z3:List Ent->Nat
 | []=>0
 | x::r=>a5b x+Z3 r
end
theorem a5C (v:Val):Z9 v=1+1+a0Z v.Text+(v7 v.Kids+1)+(k9 v.Keys+1)+(Z3 v.Entries+1)+(J2 v.Labels+1)+1:=by
 cases v; simp only [Z9,Val.Text,Val.Kids,Val.Keys,Val.Entries,Val.Labels]
theorem a3b (v:Ent):a5b v=(v7 v.Args+1)+1+Z9 v.Result+1:=by
 cases v; simp only [a5b,Ent.Args,Ent.Result]
theorem a4t {x:Val}:∀ {l:List Val},x∈l->Z9 x<=v7 l
 | y::r,h=>by
   simp only [v7]
   rcases List.mem_cons.1 h with rfl | h
   ·omega
   ·have:=a4t h; omega
theorem a2f {x:Ent}:∀ {l:List Ent},x∈l->a5b x<=Z3 l
 | y::r,h=>by
   simp only [Z3]
   rcases List.mem_cons.1 h with rfl | h
   ·omega
   ·have:=a2f h; omega
theorem b0f:∀ (l:List Val),l.length<=v7 l
 | []=>Nat.le_refl _
 | x::r=>by have:=b0f r; have:=a5C x; simp only [v7,List.length_cons]; omega
theorem a5K:∀ (l:List Ent),l.length<=Z3 l
 | []=>Nat.le_refl _
 | x::r=>by have:=a5K r; have:=a3b x; simp only [Z3,List.length_cons]; omega
theorem b0M:∀ (l:List Key),l.length<=k9 l
 | []=>Nat.le_refl _
 | x::r=>by have:=b0M r; simp only [k9,a2v,List.length_cons]; omega
theorem a7s:∀ (l:List ByteArray),l.length<=J2 l
 | []=>Nat.le_refl _
 | x::r=>by have:=a7s r; simp only [J2,a0Z,List.length_cons]; omega
theorem a2S (l m:List Val):v7 (l++m)=v7 l+v7 m:=by
 induction l with
 | nil=>simp [v7]
 | cons x r ih=>simp only [List.cons_append,v7,ih]; omega
theorem b7o (v:Val):8<=Z9 v:=by rw [a5C]; unfold a0Z; omega
end Go.Pl
namespace Go.Pl
open Go Go.RowKit Go.Sx Go.Qx
end Go.Pl
end
section
namespace Go.Pl
open Go Go.RowKit Go.Sx Go.Qx
def tn (x y:Int):Int:=if x=0 then y else x
def cI (x y:Int):Int:=if x<y then -1 else if y<x then 1 else 0
def lx:List Int->List Int->Int
 | [],[]=>0
 | [],_::_ => -1
 | _::_,[]=>1
 | x::xs,y::ys=>tn (cI x y) (lx xs ys)
theorem a8i (x y z:Int):tn (tn x y) z=tn x (tn y z):=by unfold tn; split<;>simp_all
theorem b4w (x:Int):tn x 0=x:=by unfold tn; split<;>simp_all
theorem a8q (x:Int):tn 0 x=x:=by simp [tn]
theorem a3P (x y:Int):(x<y/\cI x y = -1)\/(y<x/\cI x y=1)\/(x=y/\cI x y=0):=by
 unfold cI
 by_cases h:x<y
 ·left; simp [h]
 ·by_cases h2:y<x
  ·right; left; simp [h,h2]
  ·right; right; simp [h,h2]; omega
theorem b8k:∀ a b:List Int,lx b a = - lx a b
 | [],[]=>by simp [lx]
 | [],_::_=>by simp [lx]
 | _::_,[]=>by simp [lx]
 | x::xs,y::ys=>by
   have:=b8k xs ys
   rcases a3P x y with ⟨h1,h⟩ | ⟨h1,h⟩ | ⟨h1,h⟩<;>rcases a3P y x with ⟨h2,k⟩ | ⟨h2,k⟩ | ⟨h2,k⟩<;>simp [lx,h,k,tn]<;>omega
theorem d0m:∀ a:List Int,lx a a=0:=by intro a; have:=b8k a a; omega
def cBs:List UInt8->List UInt8->Int
 | [],[]=>0
 | [],_::_ => -1
 | _::_,[]=>1
 | x::xs,y::ys=>tn (cI x.toNat y.toNat) (cBs xs ys)
def eBs:List UInt8->List Int
 | []=>[0]
 | x::r=>((x.toNat:Int)+1)::eBs r
theorem d0c (x y:Int):cI (x+1) (y+1)=cI x y:=by
 unfold cI
 by_cases h:x<y
 ·rw [if_pos (by omega),if_pos h]
 ·rw [if_neg (by omega),if_neg h]
  by_cases h2:y<x
  ·rw [if_pos (by omega),if_pos h2]
  ·rw [if_neg (by omega),if_neg h2]
theorem d02:∀ (a b:List UInt8) (r s:List Int),lx (eBs a++r) (eBs b++s)=tn (cBs a b) (lx r s)
 | [],[],r,s=>by simp [eBs,lx,cBs,cI,a8q]
 | [],y::ys,r,s=>by
   have:cI 0 ((y.toNat:Int)+1) = -1:=by unfold cI; rw [if_pos (by omega)]
   simp [eBs,lx,cBs,this,tn]
 | x::xs,[],r,s=>by
   have:cI ((x.toNat:Int)+1) 0=1:=by unfold cI; rw [if_neg (by omega),if_pos (by omega)]
   simp [eBs,lx,cBs,this,tn]
 | x::xs,y::ys,r,s=>by
   simp only [eBs,List.cons_append,lx,cBs,d0c,d02 xs ys,a8i]
def cS (a b:ByteArray):Int:=cBs a.data.toList b.data.toList
def eS (a:ByteArray):List Int:=eBs a.data.toList
theorem pfS (a b:ByteArray)(r s:List Int):lx (eS a++r) (eS b++s)=tn (cS a b) (lx r s):=d02 _ _ r s
def cK (a b:Key):Int:=tn (cI a.Kind b.Kind) (cS a.Text b.Text)
def eK (a:Key):List Int:=a.Kind::eS a.Text
theorem pfK (a b:Key)(r s:List Int):lx (eK a++r) (eK b++s)=tn (cK a b) (lx r s):=by
 simp only [eK,List.cons_append,lx,pfS,cK,a8i]
def cL {α:Type}(c:α->α->Int):List α->List α->Int
 | [],_=>0
 | _::_,[]=>0
 | x::xs,y::ys=>tn (c x y) (cL c xs ys)
def cN {α:Type}(c:α->α->Int)(xs ys:List α):Int:=tn (cI (xs.length:Int) (ys.length:Int)) (cL c xs ys)
def eN {α:Type}(e:α->List Int)(xs:List α):List Int:=(xs.length:Int)::xs.flatMap e
theorem pfL {α:Type}{c:α->α->Int}{e:α->List Int}:∀ (xs ys:List α) (r s:List Int),(∀ x∈xs,∀ y r s,lx (e x++r) (e y++s)=tn (c x y) (lx r s))->xs.length=ys.length ->
 lx (xs.flatMap e++r) (ys.flatMap e++s)=tn (cL c xs ys) (lx r s)
 | [],[],r,s,_,_=>by simp [cL,a8q]
 | [],_::_,_,_,_,h=>by simp at h
 | _::_,[],_,_,_,h=>by simp at h
 | x::xs,y::ys,r,s,hc,h=>by
   simp only [List.flatMap_cons,List.append_assoc,cL]
   rw [hc x (by simp),pfL xs ys r s (fun z hz=>hc z (by simp [hz])) (by simpa using h),a8i]
theorem pfN {α:Type}{c:α->α->Int}{e:α->List Int}(xs ys:List α)(r s:List Int)(hc:∀ x∈xs,∀ y r s,lx (e x++r) (e y++s)=tn (c x y) (lx r s)) :
 lx (eN e xs++r) (eN e ys++s)=tn (cN c xs ys) (lx r s):=by
 simp only [eN,List.cons_append,lx,cN,a8i]
 rcases a3P (xs.length:Int) (ys.length:Int) with ⟨_,h⟩ | ⟨_,h⟩ | ⟨h1,h⟩
 ·simp [h,tn]
 ·simp [h,tn]
 ·rw [h,a8q,a8q,pfL xs ys r s hc (by omega)]
def bI (b:Bool):Int:=if b then 0 else 1
mutual
def cV:Val->Val->Int
 | .mk k n t kids keys ents labs,b=>tn (cI k b.Kind) (tn (cI n b.Int_) (tn (cS t b.Text) (tn (cN cK keys b.Keys) (tn (tn (cI (kids.length:Int) (b.Kids.length:Int)) (cVs kids b.Kids)) (tn (tn (cI (ents.length:Int) (b.Entries.length:Int)) (cEs ents b.Entries)) (cN cS labs b.Labels))))))
def cVs:List Val->List Val->Int
 | [],_=>0
 | _::_,[]=>0
 | x::xs,y::ys=>tn (cV x y) (cVs xs ys)
def cE:Ent->Ent->Int
 | .mk args f res,b=>tn (tn (cI (args.length:Int) (b.Args.length:Int)) (cVs args b.Args)) (tn (cI (bI f) (bI b.Fails)) (cV res b.Result))
def cEs:List Ent->List Ent->Int
 | [],_=>0
 | _::_,[]=>0
 | x::xs,y::ys=>tn (cE x y) (cEs xs ys)
end
theorem c4P:∀ xs ys:List Val,cVs xs ys=cL cV xs ys
 | [],_=>by simp [cVs,cL]
 | _::_,[]=>by simp [cVs,cL]
 | x::xs,y::ys=>by simp only [cVs,cL,c4P xs ys]
theorem c7t:∀ xs ys:List Ent,cEs xs ys=cL cE xs ys
 | [],_=>by simp [cEs,cL]
 | _::_,[]=>by simp [cEs,cL]
 | x::xs,y::ys=>by simp only [cEs,cL,c7t xs ys]
theorem c9t (a b:Val):cV a b=tn (cI a.Kind b.Kind) (tn (cI a.Int_ b.Int_) (tn (cS a.Text b.Text) (tn (cN cK a.Keys b.Keys) (tn (cN cV a.Kids b.Kids) (tn (cN cE a.Entries b.Entries) (cN cS a.Labels b.Labels)))))):=by
 cases a; simp only [cV,c4P,c7t,cN,Val.Kind,Val.Int_,Val.Text,Val.Keys,Val.Kids,Val.Entries,Val.Labels]
theorem c93 (a b:Ent):cE a b=tn (cN cV a.Args b.Args) (tn (cI (bI a.Fails) (bI b.Fails)) (cV a.Result b.Result)):=by
 cases a; simp only [cE,c4P,cN,Ent.Args,Ent.Fails,Ent.Result]
mutual
def eV:Val->List Int
 | .mk k n t kids keys ents labs=>k::n::(eS t++(eN eK keys++(((kids.length:Int)::eVs kids)++(((ents.length:Int)::eEs ents)++eN eS labs))))
def eVs:List Val->List Int
 | []=>[]
 | x::xs=>eV x++eVs xs
def eE:Ent->List Int
 | .mk args f res=>((args.length:Int)::eVs args)++(bI f::eV res)
def eEs:List Ent->List Int
 | []=>[]
 | x::xs=>eE x++eEs xs
end
theorem c3V:∀ xs:List Val,eVs xs=xs.flatMap eV
 | []=>by simp [eVs]
 | x::xs=>by simp only [eVs,List.flatMap_cons,c3V xs]
theorem c7y:∀ xs:List Ent,eEs xs=xs.flatMap eE
 | []=>by simp [eEs]
 | x::xs=>by simp only [eEs,List.flatMap_cons,c7y xs]
theorem c9N (a:Val):eV a=a.Kind::a.Int_::(eS a.Text++(eN eK a.Keys++(eN eV a.Kids++(eN eE a.Entries++eN eS a.Labels)))):=by
 cases a; simp only [eV,c3V,c7y,eN,Val.Kind,Val.Int_,Val.Text,Val.Keys,Val.Kids,Val.Entries,Val.Labels]
theorem c9V (a:Ent):eE a=eN eV a.Args++(bI a.Fails::eV a.Result):=by
 cases a; simp only [eE,c3V,eN,Ent.Args,Ent.Fails,Ent.Result]
theorem c7z:∀ n:Nat,(∀ a:Val,Z9 a<=n->∀ b r s,lx (eV a++r) (eV b++s)=tn (cV a b) (lx r s))/\(∀ a:Ent,a5b a<=n->∀ b r s,lx (eE a++r) (eE b++s)=tn (cE a b) (lx r s)):=by
 intro n
 induction n with
 | zero=>exact ⟨fun a h=>by have:=b7o a; omega,fun a h=>by have:=a3b a; omega⟩
 | succ n ih =>
   refine ⟨fun a h b r s=>?_,fun a h b r s=>?_⟩
   ·have hb:=a5C a
    rw [c9N a,c9N b,c9t]
    simp only [List.cons_append,List.append_assoc,lx,a8i]
    rw [pfS,pfN a.Keys b.Keys _ _ (fun x _ y r s=>pfK x y r s),pfN a.Kids b.Kids _ _ (fun x hx=>ih.1 x (by have:=a4t hx; omega)),
     pfN a.Entries b.Entries _ _ (fun x hx=>ih.2 x (by have:=a2f hx; omega)),pfN a.Labels b.Labels _ _ (fun x _ y r s=>pfS x y r s)]
   ·have hb:=a3b a
    rw [c9V a,c9V b,c93]
    simp only [List.append_assoc,a8i]
    rw [pfN a.Args b.Args _ _ (fun x hx=>ih.1 x (by have:=a4t hx; omega))]
    simp only [List.cons_append,lx]
    rw [ih.1 a.Result (by omega)]
theorem d2x (a b:Val):cV a b=lx (eV a) (eV b):=by
 have:=(c7z (Z9 a)).1 a (Nat.le_refl _) b [] []
 simpa [lx,b4w] using this.symm
theorem d0A (a:Val):cV a a=0:=by rw [d2x]; exact d0m _
end Go.Pl
namespace Go.Pl
open Go Go.RowKit Go.Sx Go.Qx
theorem c6q (a b:Int):a0E a b=some (cI a b):=by
 unfold a0E a6w
 simp only [a0O,bne_self_eq_false,Option.bind_some,Bool.false_eq_true,if_false]
 rcases a3P a b with ⟨h,e⟩ | ⟨h,e⟩ | ⟨h,e⟩
 ·rw [if_pos (by simpa using h),e]
 ·rw [if_neg (by simp; omega),if_pos (by simpa using h),e]
 ·rw [if_neg (by simp; omega),if_neg (by simp; omega),e]
theorem b1q (a b:Int):a1Z a b=some (cI a b):=by
 unfold a1Z
 simp only [a0O]
 rcases a3P a b with ⟨h,e⟩ | ⟨h,e⟩ | ⟨h,e⟩
 ·rw [if_pos (by simpa using h),e]
 ·rw [if_neg (by simp; omega),if_pos (by simpa using h),e]
 ·rw [if_neg (by simp; omega),if_neg (by simp; omega),e]
theorem b7J (a b:Int):a0c a b=some (cI a b):=by
 unfold a0c; rw [b1q]; rfl
theorem c5S:∀ a b:List UInt8,Lib.compareBytes a b=cBs a b
 | [],[]=>rfl
 | [],_::_=>rfl
 | _::_,[]=>rfl
 | x::xs,y::ys=>by
   have ih:=c5S xs ys
   simp only [Lib.compareBytes,cBs,UInt8.lt_iff_toNat_lt]
   rcases a3P (x.toNat:Int) (y.toNat:Int) with ⟨h,e⟩ | ⟨h,e⟩ | ⟨h,e⟩
   ·rw [if_pos (by omega),e]; rfl
   ·rw [if_neg (by omega),if_pos (by omega),e]; rfl
   ·rw [if_neg (by omega),if_neg (by omega),e,a8q,ih]
theorem c6s (a b:ByteArray):a1Q a b=some (cS a b):=by
 unfold a1Q a1L c4I b7z
 rw [c5S]; rfl
theorem c2O:∀ a b:List UInt8,(Op.bytesLess a b=true/\cBs a b = -1/\a≠b)\/(Op.bytesLess a b=false/\cBs a b=0/\a=b)\/(Op.bytesLess a b=false/\cBs a b=1/\a≠b)
 | [],[]=>by simp [Op.bytesLess,cBs]
 | [],_::_=>by simp [Op.bytesLess,cBs]
 | _::_,[]=>by simp [Op.bytesLess,cBs]
 | x::xs,y::ys=>by
   have ih:=c2O xs ys
   simp only [Op.bytesLess,cBs]
   rcases a3P (x.toNat:Int) (y.toNat:Int) with ⟨h,e⟩ | ⟨h,e⟩ | ⟨h,e⟩
   ·have h1:x<y:=UInt8.lt_iff_toNat_lt.2 (by omega)
    have h2:x≠y:=by intro h3; subst h3; omega
    simp [e,h1,h2,tn]
   ·have h1:¬ x<y:=fun h3=>by have:=UInt8.lt_iff_toNat_lt.1 h3; omega
    have h2:x≠y:=by intro h3; subst h3; omega
    simp [e,h1,h2,tn]
   ·have h2:x=y:=UInt8.toNat_inj.1 (by omega)
    subst h2
    have h1:¬ x<x:=fun h3=>by have:=UInt8.lt_iff_toNat_lt.1 h3; omega
    simpa [e,h1,tn] using ih
theorem a6V (a b:ByteArray):(a1U a b=true/\J5 a b=false/\cS a b = -1)\/(a1U a b=false/\J5 a b=true/\cS a b=0)\/(a1U a b=false/\J5 a b=false/\cS a b=1):=by
 unfold a1U J5 cS
 rw [Lib.toList_data,Lib.toList_data]
 rcases c2O a.data.toList b.data.toList with ⟨h,e,n⟩ | ⟨h,e,n⟩ | ⟨h,e,n⟩
 ·left; exact ⟨h,by simpa using n,e⟩
 ·right; left; exact ⟨h,by simpa using n,e⟩
 ·right; right; exact ⟨h,by simpa using n,e⟩
theorem b2s (a b:ByteArray):a0P a b=some (cS a b):=by
 unfold a0P
 rcases a6V a b with ⟨h,k,e⟩ | ⟨h,k,e⟩ | ⟨h,k,e⟩<;>simp [h,k,e]
theorem c6U {x y:Int}{o:Option Int}(h:o=some y):(bif (x != 0) then some x else o)=some (tn x y):=by
 rw [a0O]
 unfold tn
 by_cases hx:x=0
 ·subst hx; simp [h]
 ·simp [hx]
theorem c7d {a b y:Int}{o:Option Int}(h:o=some y):(bif (a != b) then some (cI a b) else o)=some (tn (cI a b) y):=by
 rw [a0O]
 unfold tn
 rcases a3P a b with ⟨p,e⟩ | ⟨p,e⟩ | ⟨p,e⟩
 ·have:a≠b:=by omega
  simp [this,e]
 ·have:a≠b:=by omega
  simp [this,e]
 ·simp [p,h]
  subst p
  intro h2; rw [e] at h2; exact absurd rfl h2
theorem d2B {a b:ByteArray}{y:Int}{o:Option Int}(h:o=some y):(bif (!J5 a b) then (Option.bind (a0P a b) fun r=>some r) else o)=some (tn (cS a b) y):=by
 rw [a0O,b2s,h]
 rcases a6V a b with ⟨_,p,e⟩ | ⟨_,p,e⟩ | ⟨_,p,e⟩<;>simp [p,e,tn]
theorem c5t (a b:Key):a11 a b=some (cK a b):=by
 unfold a11
 rw [c6q]
 simp only [Option.bind_some]
 exact c6U (by rw [c6s]; rfl)
theorem a8Q (a b:Key):V2 a b=some (cK a b):=by
 unfold V2
 rw [b1q]
 exact c7d (by rw [b2s]; rfl)
theorem c9f {α:Type}{step:Int->Option (Fl Int (Sum Unit Int))}{rc:α->α->Option Int}{c:α->α->Int}(xs ys:List α)(hlen:xs.length=ys.length)
 (hst:∀ q,step q=bif decide (q<(xs.length:Int)) then Option.bind (idx xs q) fun x=>Option.bind (idx ys q) fun y=>Option.bind (rc x y) fun r =>
   bif r != 0 then some (.done (.inr r)) else some (.next (wr .i64 (q+1))) else some (.done (.inl ())))
 (hrc:∀ x∈xs,∀ y,rc x y=some (c x y)) (hl:xs.length<=4194304) :
 ∃ o,y9 step (xs.length+1) 0=some o/\((o=.inl ()/\cL c xs ys=0)\/(o=.inr (cL c xs ys)/\cL c xs ys≠0)):=by
 have key:∀ (n i k:Nat),i+n=xs.length->n+1<=k ->
  ∃ o,y9 step k (i:Int)=some o/\((o=.inl ()/\cL c (xs.drop i) (ys.drop i)=0)\/(o=.inr (cL c (xs.drop i) (ys.drop i))/\cL c (xs.drop i) (ys.drop i)≠0)):=by
  intro n
  induction n with
  | zero =>
    intro i k hi hk
    obtain ⟨k,rfl⟩:∃ m,k=m+1:=⟨k-1,by omega⟩
    refine ⟨.inl (),?_,.inl ⟨rfl,?_⟩⟩
    ·simp only [y9,hst,a0O]
     rw [if_neg (by simp; omega)]
     rfl
    ·rw [List.drop_eq_nil_of_le (by omega)]; simp [cL]
  | succ n ih =>
    intro i k hi hk
    obtain ⟨k,rfl⟩:∃ m,k=m+1:=⟨k-1,by omega⟩
    have hx:i<xs.length:=by omega
    have hy:i<ys.length:=by omega
    rw [List.drop_eq_getElem_cons hx,List.drop_eq_getElem_cons hy]
    have e:step (i:Int)=if (c xs[i] ys[i] != 0)=true then some (.done (.inr (c xs[i] ys[i]))) else some (.next (w64 ((i:Int)+1))):=by
     rw [hst]
     simp only [a0O,J9]
     rw [if_pos (by simp; omega),Y5 (List.getElem?_eq_getElem hx),Y5 (List.getElem?_eq_getElem hy)]
     simp only [Option.bind_some]
     rw [hrc _ (List.getElem_mem hx)]
     rfl
    simp only [y9,e,cL]
    by_cases h0:c xs[i] ys[i]=0
    ·rw [h0,a8q,W8 (x:=(i:Int)+1) (by omega) (by omega)]
     obtain ⟨o,ho,hp⟩:=ih (i+1) k (by omega) (by omega)
     refine ⟨o,?_,hp⟩
     simpa using ho
    ·have ht:tn (c xs[i] ys[i]) (cL c (xs.drop (i+1)) (ys.drop (i+1)))=c xs[i] ys[i]:=by simp [tn,h0]
     rw [ht]
     refine ⟨.inr (c xs[i] ys[i]),?_,.inr ⟨rfl,h0⟩⟩
     simp [h0]
 obtain ⟨o,h1,h2⟩:=key xs.length 0 (xs.length+1) (by omega) (Nat.le_refl _)
 exact ⟨o,by simpa using h1,by simpa using h2⟩
theorem d0j {α:Type}{step:Int->Option (Fl Int (Sum Unit Int))}{rc:α->α->Option Int}{c:α->α->Int}(xs ys:List α)(hlen:xs.length=ys.length)
 (hst:∀ q,step q=bif decide (q<(xs.length:Int)) then Option.bind (idx xs q) fun x=>Option.bind (idx ys q) fun y=>Option.bind (rc x y) fun r =>
   bif r != 0 then some (.done (.inr r)) else some (.next (wr .i64 (q+1))) else some (.done (.inl ())))
 (hrc:∀ x∈xs,∀ y,rc x y=some (c x y)) (hl:xs.length<=4194304) {f:Unit->Option Int} {z:Int} (hf:∀ q,f q=some z) :
 (Option.bind (y9 step (((xs.length:Int)).toNat+1) 0) fun b=>j9 f (fun r=>some r) b)=some (tn (cL c xs ys) z):=by
 obtain ⟨o,h1,h2⟩:=c9f xs ys hlen hst hrc hl
 rw [X7,h1]
 rcases h2 with ⟨rfl,h⟩ | ⟨rfl,h⟩
 ·simp [j9,hf,h,tn]
 ·simp [j9,h,tn]
theorem b8f {α:Type}{step:Int->Option (Fl Int (Sum Unit Int))}{rc:α->α->Option Int}{c:α->α->Int}(xs ys:List α)
 (hst:∀ q,step q=bif decide (q<(xs.length:Int)) then Option.bind (idx xs q) fun x=>Option.bind (idx ys q) fun y=>Option.bind (rc x y) fun r =>
   bif r != 0 then some (.done (.inr r)) else some (.next (wr .i64 (q+1))) else some (.done (.inl ())))
 (hrc:∀ x∈xs,∀ y,rc x y=some (c x y)) (hl:xs.length<=4194304) {f:Unit->Option Int} {z:Int} (hf:∀ q,f q=some z) :
 (bif ((xs.length:Int) != (ys.length:Int)) then (Option.bind (a0c (xs.length:Int) (ys.length:Int)) fun r=>some r) else
   (Option.bind (y9 step (((xs.length:Int)).toNat+1) 0) fun b=>j9 f (fun r=>some r) b))=some (tn (cN c xs ys) z):=by
 rw [a0O,b7J]
 simp only [Option.bind_some,cN]
 rcases a3P (xs.length:Int) (ys.length:Int) with ⟨p,e⟩ | ⟨p,e⟩ | ⟨p,e⟩
 ·have:((xs.length:Int) != (ys.length:Int))=true:=by simp; omega
  rw [if_pos this,e]; rfl
 ·have:((xs.length:Int) != (ys.length:Int))=true:=by simp; omega
  rw [if_pos this,e]; rfl
 ·rw [if_neg (by simp; omega),d0j xs ys (by omega) hst hrc hl hf,e,a8q]
theorem a4h:∀ (k:Nat),
 (∀ a b,2*Z9 a<=k->Z9 a<=4194304->X9 k a b=some (cV a b)) /\
 (∀ xs ys,2*v7 xs+1<=k->v7 xs<=4194304->a2q k xs ys=some (cN cV xs ys)) /\
 (∀ a b,2*a5b a<=k->a5b a<=4194304->Z7 k a b=some (cE a b))
 | 0=>⟨fun v _ h=>by have:=b7o v; omega,fun _ _ h=>by omega,fun v _ h=>by have:=a3b v; omega⟩
 | k+1=>by
   obtain ⟨i1,i2,i3⟩:=a4h k
   refine ⟨?_,?_,?_⟩
   ·intro a b h hb
    show a4b k (X9 k) (a2q k) (Z7 k) a b=_
    have hbe:=a5C a
    have hk:=b0M a.Keys
    have hs:=a7s a.Labels
    have he:=a5K a.Entries
    unfold a4b
    rw [c9t,b7J,b1q]
    simp only [Option.bind_some]
    refine c7d (c7d (d2B ?_))
    refine b8f (step:=a6h a b) a.Keys b.Keys (rc:=V2) (c:=cK) (fun q=>rfl) (fun x _ y=>a8Q x y) (by omega) ?_
    intro _
    rw [i2 a.Kids b.Kids (by omega) (by omega)]
    simp only [Option.bind_some]
    refine c6U ?_
    refine b8f (step:=a6k a b (Z7 k)) a.Entries b.Entries (rc:=Z7 k) (c:=cE) (fun q=>rfl) (fun x hx y=>i3 x y (by have:=a2f hx; omega) (by have:=a2f hx; omega)) (by omega) ?_
    intro _
    have:=b8f (step:=a6n a b) a.Labels b.Labels (rc:=a0P) (c:=cS) (z:=0) (fun q=>rfl) (fun x _ y=>b2s x y) (by omega) (f:=fun _=>some 0) (fun _=>rfl)
    rw [b4w] at this
    exact this
   ·intro xs ys h hb
    show a4y k (X9 k) (a2q k) (Z7 k) xs ys=_
    have hl:=b0f xs
    unfold a4y
    rw [b8f (step:=a6Q xs ys (X9 k)) xs ys (rc:=X9 k) (c:=cV) (z:=0) (fun q=>rfl) (fun x hx y=>i1 x y (by have:=a4t hx; omega) (by have:=a4t hx; omega)) (by omega) (fun _=>rfl),b4w]
   ·intro a b h hb
    show a2c k (X9 k) (a2q k) (Z7 k) a b=_
    have hbe:=a3b a
    unfold a2c
    rw [c93,i2 a.Args b.Args (by omega) (by omega),i1 a.Result b.Result (by omega) (by omega)]
    simp only [Option.bind_some]
    refine c6U ?_
    cases a.Fails<;>cases b.Fails<;>simp [bI,cI,tn]
end Go.Pl
end
section
namespace Go.Pl
open Go Go.RowKit Go.Sx Go.Qx
theorem b9w {step:Int->Option (Fl Int (Sum Unit Bool))}(n:Nat)(p:Nat->Bool)
 (hst:∀ i:Nat,i<n->step (i:Int)=some (if p i=true then .next ((i+1:Nat):Int) else .done (.inr false)))
 (hend:∀ i:Nat,n<=i->step (i:Int)=some (.done (.inl ()))) (i0:Nat) (b:Bool) (hb:b=true↔∀ i,i0<=i->i<n->p i=true) :
 Option.bind (y9 step (n+1) (i0:Int)) (j9 (fun _=>some true) (fun r=>some r))=some b:=by
 have fin:∀ (i k:Nat),n<=i->(∀ j,i0<=j->j<i->j<n->p j=true)->Option.bind (y9 step (k+1) (i:Int)) (j9 (fun _=>some true) (fun r=>some r))=some b:=by
  intro i k h1 h4
  simp only [y9,hend i h1,Option.bind_some,j9]
  have:b=true:=hb.2 fun j a c=>h4 j a (by omega) c
  rw [this]
 have key:∀ (m i k:Nat),n<=i+m->m+1<=k->i0<=i->(∀ j,i0<=j->j<i->j<n->p j=true)->Option.bind (y9 step k (i:Int)) (j9 (fun _=>some true) (fun r=>some r))=some b:=by
  intro m
  induction m with
  | zero =>
    intro i k h1 h2 h3 h4
    obtain ⟨k,rfl⟩:∃ m,k=m+1:=⟨k-1,by omega⟩
    exact fin i k (by omega) h4
  | succ m ih =>
    intro i k h1 h2 h3 h4
    obtain ⟨k,rfl⟩:∃ m,k=m+1:=⟨k-1,by omega⟩
    by_cases hlt:i<n
    ·simp only [y9,hst i hlt]
     cases hp:p i
     ·simp only [Bool.false_eq_true,if_false,Option.bind_some,j9]
      have:b=false:=by
       cases b
       ·rfl
       ·have:=hb.1 rfl i h3 hlt
        rw [hp] at this; cases this
      rw [this]
     ·simp only [if_true,Option.bind_some]
      refine ih (i+1) k (by omega) (by omega) (by omega) (fun j a c d=>?_)
      by_cases e:j<i
      ·exact h4 j a e d
      ·have:j=i:=by omega
       subst this; exact hp
    ·exact fin i k (by omega) h4
 exact key n i0 (n+1) (by omega) (by omega) (Nat.le_refl _) (fun j a c=>by omega)
theorem Y3 (i:Nat)(h:i<=4611686018427387904):w64 ((i:Int)+1)=((i+1:Nat):Int):=by rw [W8 (by omega) (by omega)]; rfl
theorem b4m (b:Bool)(x:Int):(bif (!b) then some (Fl.done (Sum.inr false)) else some (Fl.next x))=some (if b=true then Fl.next x else (Fl.done (Sum.inr false):Fl Int (Sum Unit Bool))):=by cases b<;>rfl
def asc {α:Type}(c:α->α->Int):List α->Bool
 | x::y::r=>decide (c x y<0)&&asc c (y::r)
 | _=>true
theorem b8I {α:Type}(c:α->α->Int):∀ xs:List α,asc c xs=true↔∀ i,1<=i->(hi:i<xs.length)->c xs[i-1] xs[i]<0
 | []=>by simp [asc]
 | [x]=>by
   simp only [asc,true_iff]
   intro i h1 hi
   simp at hi; omega
 | x::y::r=>by
   have ih:=b8I c (y::r)
   simp only [asc,Bool.and_eq_true,decide_eq_true_eq,ih]
   constructor
   ·intro ⟨h1,h2⟩ i hi hl
    obtain ⟨i,rfl⟩:∃ m,i=m+1:=⟨i-1,by omega⟩
    cases i with
    | zero=>exact h1
    | succ i=>exact h2 (i+1) (by omega) (by simpa using hl)
   ·intro h
    refine ⟨h 1 (by omega) (by simp),fun i hi hl=>?_⟩
    obtain ⟨i,rfl⟩:∃ m,i=m+1:=⟨i-1,by omega⟩
    have:=h (i+2) (by omega) (by simpa using hl)
    simpa using this
def a4Y (c:UInt8):Bool:=decide (97<=(c.toNat:Int))&&decide ((c.toNat:Int)<=122)
def upC (c:UInt8):Bool:=decide (65<=(c.toNat:Int))&&decide ((c.toNat:Int)<=90)
def a59 (c:UInt8):Bool:=decide (48<=(c.toNat:Int))&&decide ((c.toNat:Int)<=57)
def b3G (f g:UInt8->Bool)(s:ByteArray):Bool :=
 match s.data.toList with
 | []=>false
 | c::r=>decide (r.length<=15)&&f c&&r.all g
def a49 (s:ByteArray):Bool:=b3G upC (fun c=>a4Y c||upC c||a59 c||(c.toNat:Int)==95) s
def a3M (s:ByteArray):Bool:=b3G a4Y (fun c=>a4Y c||a59 c||(c.toNat:Int)==95) s
theorem c5b (c:UInt8):a3z (c.toNat:Int)=some (a4Y c):=by
 unfold a3z a4Y
 cases decide (97<=(c.toNat:Int))<;>simp
theorem c9M (c:UInt8):a4L (c.toNat:Int)=some (upC c):=by
 unfold a4L upC
 cases decide (65<=(c.toNat:Int))<;>simp
theorem c8c (c:UInt8):a4M (c.toNat:Int)=some (a59 c):=by
 unfold a4M a59
 cases decide (48<=(c.toNat:Int))<;>simp
theorem b0x {s:ByteArray}{i:Nat}{c:UInt8}(h:s.data.toList[i]?=some c):a4E s (i:Int)=some c:=by
 unfold a4E
 rw [if_pos (by omega)]
 obtain ⟨hi,e⟩:=List.getElem?_eq_some_iff.1 h
 have hs:i<s.size:=by simpa using hi
 show s[((i:Int)).toNat]?=some c
 rw [Int.toNat_natCast,getElem?_pos s i hs]
 show some s.data[i]=some c
 simpa using e
theorem b61 (s:ByteArray):s.size=s.data.toList.length:=by simp
theorem c6i {a1 a2:Int->Option Bool}{f g:UInt8->Bool}(h1:∀ c:UInt8,a1 (c.toNat:Int)=some (f c))(h2:∀ c:UInt8,a2 (c.toNat:Int)=some (g c))(s:ByteArray):a5z s a1 a2=some (b3G f g s):=by
 unfold a5z b3G
 simp only [a0O,c1P]
 have hsz:=b61 s
 cases hs:s.data.toList with
 | nil =>
   rw [hs] at hsz
   rw [hsz]
   simp
 | cons c r =>
   rw [hs] at hsz
   simp only [List.length_cons] at hsz
   have e1:decide ((s.size:Int)<1)=false:=by simp; omega
   rw [e1]
   simp only [Bool.false_eq_true,if_false,Option.bind_some]
   by_cases hb:16<(s.size:Int)
   ·rw [if_pos (by simpa using hb)]
    have:decide (r.length<=15)=false:=by simp; omega
    rw [this]; rfl
   ·rw [if_neg (by simpa using hb)]
    have e2:decide (r.length<=15)=true:=by simp; omega
    have e3:a4E s 0=some c:=b0x (i:=0) (by rw [hs]; rfl)
    rw [e2,e3]
    simp only [Option.bind_some,h1,Bool.true_and]
    cases f c
    ·rfl
    ·simp only [Bool.not_true,Bool.false_eq_true,if_false,Bool.true_and]
     refine b9w s.size (fun i=>match s.data.toList[i]? with | some x=>g x | none=>true) ?_ ?_ 1 (r.all g) ?_
     ·intro i hi
      have hi':i<s.data.toList.length:=by rw [hs]; simp; omega
      unfold a7J
      rw [a0O,if_pos (by simp; omega),b0x (List.getElem?_eq_getElem hi')]
      simp only [Option.bind_some,h2]
      rw [List.getElem?_eq_getElem hi',J9,Y3 i (by omega)]
      exact b4m _ _
     ·intro i hi
      unfold a7J
      rw [a0O,if_neg (by simp; omega)]
     ·rw [hs,List.all_eq_true]
      constructor
      ·intro h i h1 hi
       obtain ⟨i,rfl⟩:∃ m,i=m+1:=⟨i-1,by omega⟩
       have hr:i<r.length:=by omega
       simp only [List.getElem?_cons_succ,List.getElem?_eq_getElem hr]
       exact h _ (List.getElem_mem hr)
      ·intro h x hx
       obtain ⟨i,hi,rfl⟩:=List.getElem_of_mem hx
       have:=h (i+1) (by omega) (by omega)
       simpa only [List.getElem?_cons_succ,List.getElem?_eq_getElem hi] using this
theorem d1j (s:ByteArray):a27 s=some (a49 s):=by
 unfold a27
 simp only [a5e]
 rw [c6i c9M (g:=fun c=>a4Y c||upC c||a59 c||(c.toNat:Int)==95) (fun c=>by
  unfold a5v
  rw [c5b,c9M,c8c]
  simp only [Option.bind_some]
  cases a4Y c<;>cases upC c<;>cases a59 c<;>simp)]
 rfl
theorem c5X (s:ByteArray):a4j s=some (a3M s):=by
 unfold a4j
 simp only [a5e]
 rw [c6i c5b (g:=fun c=>a4Y c||a59 c||(c.toNat:Int)==95) (fun c=>by
  unfold a8F
  rw [c5b,c8c]
  simp only [Option.bind_some]
  cases a4Y c<;>cases a59 c<;>simp)]
 rfl
def a1r (l:List ByteArray):Bool:=asc cS l&&l.all a49
def a0b (k:Key):Bool:=if k.Kind=0 then a3M k.Text else if k.Kind=1 then decide ((k.Text.size:Int)<=64) else false
def c00 (v:Val):Bool:=v.Keys.length==v.Kids.length&&(asc cK v.Keys&&v.Keys.all a0b)
abbrev a5T:Val:=Val.mk 0 0 (⟨#[]⟩) ([]:List Val) ([]:List Key) ([]:List Ent) ([]:List ByteArray)
def a2I (n:Int)(e:Ent):Bool:=(e.Args.length:Int)==n&&(!e.Fails||cV e.Result a5T==0)
def c0u (v:Val):Bool:=decide (0<=v.Int_)&&decide (v.Int_<=4)&&(asc cE v.Entries&&v.Entries.all (a2I v.Int_))
theorem c5f (k:Key):a36 k=some (a0b k):=by
 unfold a36 a0b
 rw [c5X]
 simp only [a0O,beq_iff_eq,a5e]
 by_cases h:k.Kind=0
 ·simp [h]
 ·by_cases h1:k.Kind=1
  ·simp [h1]
  ·simp [h,h1]
def a3i (v:Val):Bool :=
 (v.Kind==1||v.Kind==4||v.Kind==9||v.Int_==0)&&(v.Kind==2||v.Kind==3||J5 v.Text ⟨#[]⟩) &&
 (v.Kind==6||v.Kind==7||v.Kind==8||v.Kids.isEmpty)&&(v.Kind==8||v.Keys.isEmpty)&&(v.Kind==9||v.Entries.isEmpty)
def b67 (l:List Val):Bool :=
 match l with
 | [_,t]=>t.Kind==5||t.Kind==7
 | _=>false
def a5q (v:Val):Bool :=
 if v.Kind=1 then true else if v.Kind=2 then decide ((v.Text.size:Int)<=64) else if v.Kind=3 then a3M v.Text else if v.Kind=4 then decide (0<=v.Int_) else
 if v.Kind=5 then true else if v.Kind=6 then decide (v.Kids.length<=4) else if v.Kind=7 then b67 v.Kids else if v.Kind=8 then c00 v else if v.Kind=9 then c0u v else false
def a3g (v:Val):Bool:=a1r v.Labels&&(a3i v&&a5q v)
theorem c2D {α:Type}(l:List α):decide (0<(l.length:Int))=!l.isEmpty:=by cases l<;>simp
mutual
def vOK:Val->Bool
 | .mk k n t kids keys ents labs=>a3g (.mk k n t kids keys ents labs)&&(a1I kids&&a5h ents)
def a1I:List Val->Bool
 | []=>true
 | x::r=>vOK x&&a1I r
def eOK:Ent->Bool
 | .mk args fails res=>a1I args&&(fails||vOK res)
def a5h:List Ent->Bool
 | []=>true
 | x::r=>eOK x&&a5h r
end
theorem d0V (v:Val):vOK v=(a3g v&&(a1I v.Kids&&a5h v.Entries)):=by cases v; simp only [vOK,Val.Kids,Val.Entries]
theorem c4T (e:Ent):eOK e=(a1I e.Args&&(e.Fails||vOK e.Result)):=by cases e; simp only [eOK,Ent.Args,Ent.Fails,Ent.Result]
theorem a5n:∀ l:List Val,a1I l=l.all vOK
 | []=>by simp [a1I]
 | x::r=>by simp only [a1I,List.all_cons,a5n r]
theorem a8M:∀ l:List Ent,a5h l=l.all eOK
 | []=>by simp [a5h]
 | x::r=>by simp only [a5h,List.all_cons,a8M r]
end Go.Pl
end
section
namespace Go.Pl
open Go Go.RowKit Go.Sx Go.Qx
def a0a {α:Type}(p:α->Bool)(x:α)(out:List α):List α:=out.takeWhile p++[x]++out.dropWhile p
theorem c2f {α:Type}(p:α->Bool):∀ l:List α,l.take (l.takeWhile p).length=l.takeWhile p
 | []=>rfl
 | x::r=>by
   by_cases h:p x=true
   ·simp [h,c2f p r]
   ·simp [h]
theorem c2s {α:Type}(p:α->Bool):∀ l:List α,l.drop (l.takeWhile p).length=l.dropWhile p
 | []=>rfl
 | x::r=>by
   by_cases h:p x=true
   ·simp [h,c2s p r]
   ·simp [h]
theorem b4Q {α:Type}(p:α->Bool):∀ l:List α,(l.takeWhile p).length<=l.length
 | []=>Nat.le_refl _
 | x::r=>by
   have:=b4Q p r
   by_cases h:p x=true
   ·simp [h,this]
   ·simp [h]
theorem c3I {α:Type}(p:α->Bool):∀ (l:List α),l[(l.takeWhile p).length]?=(l.dropWhile p).head?
 | []=>rfl
 | x::r=>by
   have:=c3I p r
   by_cases h:p x=true
   ·simp [h,this]
   ·simp [h]
theorem c4i {α:Type}{step:Int->Option (Fl Int Int)}(out:List α)(p:α->Bool)
 (hst:∀ (i:Nat) (x:α),out[i]?=some x->step (i:Int)=some (if p x=true then .next ((i+1:Nat):Int) else .done (i:Int)))
 (hend:step (out.length:Int)=some (.done (out.length:Int))):y9 step (out.length+1) 0=some ((out.takeWhile p).length:Int):=by
 have key:∀ (m i k:Nat),i+m=out.length->m+1<=k->y9 step k (i:Int)=some (((i+((out.drop i).takeWhile p).length:Nat)):Int):=by
  intro m
  induction m with
  | zero =>
    intro i k h1 h2
    obtain ⟨k,rfl⟩:∃ m,k=m+1:=⟨k-1,by omega⟩
    have e:i=out.length:=by omega
    subst e
    simp [y9,hend]
  | succ m ih =>
    intro i k h1 h2
    obtain ⟨k,rfl⟩:∃ m,k=m+1:=⟨k-1,by omega⟩
    have hlt:i<out.length:=by omega
    have hs:=hst i out[i] (List.getElem?_eq_getElem hlt)
    rw [List.drop_eq_getElem_cons hlt,List.takeWhile_cons]
    by_cases hp:p out[i]=true
    ·rw [if_pos hp] at hs
     simp only [y9,hs,Option.bind_some,ih (i+1) k (by omega) (by omega),hp,if_true,List.length_cons]
     congr 2
     omega
    ·rw [if_neg hp] at hs
     simp [y9,hs,hp]
 have:=key out.length 0 (out.length+1) (by omega) (Nat.le_refl _)
 simpa using this
theorem a1O {α σ τ β:Type}{step:σ->Option (Fl σ (Sum τ β))}(xs:List α)(p:α->Bool)(pk:Nat->σ)(d:τ)(b:β)
 (hst:∀ (i:Nat) (x:α),xs[i]?=some x->step (pk i)=some (if p x=true then .next (pk (i+1)) else .done (.inr b)))
 (hend:step (pk xs.length)=some (.done (.inl d))):y9 step (xs.length+1) (pk 0)=some (if xs.all p=true then .inl d else .inr b):=by
 have key:∀ (m i k:Nat),i+m=xs.length->m+1<=k->y9 step k (pk i)=some (if (xs.drop i).all p=true then .inl d else .inr b):=by
  intro m
  induction m with
  | zero =>
    intro i k h1 h2
    obtain ⟨k,rfl⟩:∃ m,k=m+1:=⟨k-1,by omega⟩
    have e:i=xs.length:=by omega
    subst e
    simp [y9,hend]
  | succ m ih =>
    intro i k h1 h2
    obtain ⟨k,rfl⟩:∃ m,k=m+1:=⟨k-1,by omega⟩
    have hlt:i<xs.length:=by omega
    have hs:=hst i xs[i] (List.getElem?_eq_getElem hlt)
    rw [List.drop_eq_getElem_cons hlt,List.all_cons]
    by_cases hp:p xs[i]=true
    ·rw [if_pos hp] at hs
     simp only [y9,hs,Option.bind_some,ih (i+1) k (by omega) (by omega),hp,Bool.true_and]
    ·rw [if_neg hp] at hs
     simp [y9,hs,hp]
 have:=key xs.length 0 (xs.length+1) (by omega) (Nat.le_refl _)
 simpa using this
theorem b8w {α:Type}(c:α->α->Int)(hanti:∀ a b,c b a = - c a b)(x:α):∀ out:List α,asc c out=true->(∀ y,(out.dropWhile (fun y=>decide (c y x<0))).head?=some y->c y x≠0) ->
 asc c (a0a (fun y=>decide (c y x<0)) x out)=true
 | [],_,_=>by simp [a0a,asc]
 | y::r,h,hne=>by
   by_cases hp:c y x<0
   ·have ih:=b8w c hanti x r (by cases r with | nil=>simp [asc] | cons z r=>simp [asc] at h; exact h.2) (by
     intro z hz
     refine hne z ?_
     simpa [hp] using hz)
    have e:a0a (fun y=>decide (c y x<0)) x (y::r)=y::a0a (fun y=>decide (c y x<0)) x r:=by simp [a0a,hp]
    rw [e]
    cases r with
    | nil=>simp [a0a,asc,hp]
    | cons z r =>
      simp only [asc,Bool.and_eq_true,decide_eq_true_eq] at h
      by_cases hz:c z x<0
      ·have e2:a0a (fun y=>decide (c y x<0)) x (z::r)=z::a0a (fun y=>decide (c y x<0)) x r:=by simp [a0a,hz]
       rw [e2] at ih ⊢
       simp only [asc,Bool.and_eq_true,decide_eq_true_eq]
       exact ⟨h.1,ih⟩
      ·have e2:a0a (fun y=>decide (c y x<0)) x (z::r)=x::z::r:=by simp [a0a,hz]
       rw [e2] at ih ⊢
       simp only [asc,Bool.and_eq_true,decide_eq_true_eq] at ih ⊢
       exact ⟨hp,ih⟩
   ·have e:a0a (fun y=>decide (c y x<0)) x (y::r)=x::y::r:=by simp [a0a,hp]
    have hy:=hne y (by simp [hp])
    have ha:=hanti y x
    rw [e]
    simp only [asc,Bool.and_eq_true,decide_eq_true_eq]
    exact ⟨by omega,h⟩
theorem b6Z {α:Type}{p:α->Bool}{x y:α}{out:List α}(h:y∈a0a p x out):y=x\/y∈out:=by
 have e:=List.takeWhile_append_dropWhile (p:=p) (l:=out)
 simp only [a0a,List.mem_append,List.mem_singleton] at h
 rcases h with (h | h) | h
 ·exact .inr (by rw [<- e]; exact List.mem_append_left _ h)
 ·exact .inl h
 ·exact .inr (by rw [<- e]; exact List.mem_append_right _ h)
theorem a5A {α:Type}(p:α->Bool)(x:α)(out:List α):(a0a p x out).length=out.length+1:=by
 have e:=congrArg List.length (List.takeWhile_append_dropWhile (p:=p) (l:=out))
 simp only [List.length_append] at e
 simp only [a0a,List.length_append,List.length_singleton]
 omega
theorem c37 {α:Type}(l:List α){k:Nat}(h:k<=l.length):cut l 0 (k:Int)=some (l.take k):=by
 unfold cut
 rw [if_pos ⟨by omega,by omega,by omega⟩]
 simp
theorem c5l {α:Type}(l:List α){k:Nat}(h:k<=l.length):cut l (k:Int) (l.length:Int)=some (l.drop k):=by
 unfold cut
 rw [if_pos ⟨by omega,by omega,by omega⟩]
 simp
theorem c7j {α β:Type}(out:List α)(x:α)(p:α->Bool)(b:Nat)(hb:b<=1024)(hl:out.length<=4194304)(f:List α->Option β) :
 (Option.bind (cut out 0 ((out.takeWhile p).length:Int)) fun u=>Option.bind (Z1 (0+u.length) b) fun _ =>
   Option.bind (Z1 (u.length+[x].length) b) fun _=>Option.bind (cut out ((out.takeWhile p).length:Int) (out.length:Int)) fun w =>
   Option.bind (Z1 ((u++[x]).length+w.length) b) fun _=>f ((u++[x])++w))=f (a0a p x out):=by
 have hk:=b4Q p out
 have rm:∀ n,n<=4194305->Z1 n b=some ():=fun n hn=>W4 (by
  have:n*b<=4194305*1024:=Nat.mul_le_mul hn hb
  omega)
 rw [c37 out hk,c5l out hk,c2f,c2s]
 have hl2:=a5A p x out
 simp only [a0a,List.length_append,List.length_singleton] at hl2
 simp only [Option.bind_some]
 rw [rm _ (by simp; omega),rm _ (by simp; omega),rm _ (by simp only [List.length_append,List.length_singleton]; omega)]
 rfl
theorem c9Q (a b:Ent):cE a b=lx (eE a) (eE b):=by
 have:=(c7z (a5b a)).2 a (Nat.le_refl _) b [] []
 simpa [lx,b4w] using this.symm
theorem c5R (a b:Ent):cE b a = - cE a b:=by rw [c9Q,c9Q]; exact b8k _ _
def a2J (out:List Ent)(x:Ent):List Ent :=
 match (out.dropWhile (fun y=>decide (cE y x<0))).head? with
 | some y=>if cE y x=0 then out else a0a (fun y=>decide (cE y x<0)) x out
 | none=>a0a (fun y=>decide (cE y x<0)) x out
theorem b0d (a b:List Ent):Z3 (a++b)=Z3 a+Z3 b:=by
 induction a with
 | nil=>simp [Z3]
 | cons x r ih=>simp only [List.cons_append,Z3,ih]; omega
theorem b9l (p:Ent->Bool)(x:Ent)(out:List Ent):Z3 (a0a p x out)=Z3 out+a5b x:=by
 have e:=congrArg Z3 (List.takeWhile_append_dropWhile (p:=p) (l:=out))
 rw [b0d] at e
 simp only [a0a,b0d,Z3]
 omega
theorem c7F (out:List Ent)(x:Ent):Z3 (a2J out x)<=Z3 out+a5b x:=by
 unfold a2J
 split
 ·split
  ·omega
  ·rw [b9l]; omega
 ·rw [b9l]; omega
theorem c9h (out:List Ent)(x:Ent):(a2J out x).length<=out.length+1:=by
 unfold a2J
 split
 ·split
  ·omega
  ·rw [a5A]; omega
 ·rw [a5A]; omega
theorem c4e {out:List Ent}{x y:Ent}(h:y∈a2J out x):y=x\/y∈out:=by
 unfold a2J at h
 split at h
 ·split at h
  ·exact .inr h
  ·exact b6Z h
 ·exact b6Z h
theorem c8w (out:List Ent)(x:Ent)(h:asc cE out=true):asc cE (a2J out x)=true:=by
 unfold a2J
 split
 ·rename_i y hy
  split
  ·exact h
  ·rename_i hne
   refine b8w cE c5R x out h (fun z hz=>?_)
   rw [hy] at hz
   cases hz
   exact hne
 ·rename_i hy
  refine b8w cE c5R x out h (fun z hz=>?_)
  rw [hy] at hz; cases hz
theorem c3K (fuel:Nat)(es out:List Ent)(i:Nat)(x:Ent)(hx:es[i]?=some x)(hf:∀ e∈out,2*a5b e<=fuel)(hb:∀ e∈out,a5b e<=4194304)(hl:out.length<=4194304)(hi:i<=4194304) :
 X3 es fuel (out,(i:Int))=some (.next (a2J out x,((i+1:Nat):Int))):=by
 have hlt:i<es.length:=(List.getElem?_eq_some_iff.1 hx).1
 have hix:idx es (i:Int)=some x:=Y5 hx
 have hcmp:∀ e∈out,Z7 fuel e x=some (cE e x):=fun e he=>(a4h fuel).2.2 e x (hf e he) (hb e he)
 unfold X3
 simp only [X7]
 rw [c4i (step:=a2e es (out,(i:Int)) fuel) out (fun y=>decide (cE y x<0)) ?_ ?_]
 ·simp only [a0O,J9]
  rw [if_pos (by simp; omega)]
  simp only [Option.bind_some,hix,Int.toNat_natCast,hx]
  have hk:=b4Q (fun y=>decide (cE y x<0)) out
  have hat:=c3I (fun y=>decide (cE y x<0)) out
  have go:(Option.bind (cut out 0 ((out.takeWhile (fun y=>decide (cE y x<0))).length:Int)) fun u=>Option.bind (Z1 (0+u.length) 160) fun _ =>
   Option.bind (Z1 (u.length+[x].length) 160) fun _=>Option.bind (cut out ((out.takeWhile (fun y=>decide (cE y x<0))).length:Int) (out.length:Int)) fun w =>
   Option.bind (Z1 ((u++[x]).length+w.length) 160) fun _=>some ((u++[x])++w))=some (a0a (fun y=>decide (cE y x<0)) x out) :=
   c7j out x _ 160 (by omega) hl (fun l=>some l)
  rw [Y3 i (by omega)]
  have fin:∀ (b:Bool) (r:List Ent),(if b=true then some out else some r)=some (a2J out x)->(Option.bind (if b=true then some out else some r) fun b18=>some (Fl.next (b18,((i+1:Nat):Int)):Fl (List Ent×Int) (List Ent)))=some (.next (a2J out x,((i+1:Nat):Int))):=by
   intro b r h
   rw [h]; rfl
  rw [go]
  unfold a2J at fin ⊢
  cases hh:(out.dropWhile (fun y=>decide (cE y x<0))).head? with
  | none =>
    rw [hh] at hat
    have hge:=List.getElem?_eq_none_iff.1 hat
    rw [if_neg (by simp; omega)]
    rfl
  | some y =>
    rw [hh] at hat
    have hlt2:=(List.getElem?_eq_some_iff.1 hat).1
    rw [if_pos (by simp; omega),Y5 hat]
    simp only [Option.bind_some]
    rw [hcmp y (List.mem_of_getElem? hat)]
    simp only [Option.bind_some]
    by_cases h0:cE y x=0
    ·rw [if_pos (by simp [h0]),if_pos h0]
     rfl
    ·rw [if_neg (by simp [h0]),if_neg h0]
     rfl
 ·intro j y hy
  have hj:j<out.length:=(List.getElem?_eq_some_iff.1 hy).1
  unfold a2e
  simp only [a0O,J9]
  rw [if_pos (by simp; omega),Y5 hy,hix]
  simp only [Option.bind_some,Int.toNat_natCast,hx]
  rw [hcmp y (List.mem_of_getElem? hy)]
  simp only [Option.bind_some,Y3 j (by omega)]
  by_cases h:cE y x<0<;>simp [h]
 ·unfold a2e
  simp
theorem a8f:∀ (es out:List Ent),Z3 (es.foldl a2J out)<=Z3 out+Z3 es
 | [],out=>by simp [Z3]
 | x::r,out=>by
   have h1:=a8f r (a2J out x)
   have h2:=c7F out x
   simp only [List.foldl_cons,Z3]
   omega
theorem a9M {y:Ent}:∀ (es out:List Ent),y∈es.foldl a2J out->y∈out\/y∈es
 | [],_,h=>.inl h
 | x::r,out,h=>by
   rcases a9M r (a2J out x) h with h | h
   ·rcases c4e h with rfl | h
    ·exact .inr (by simp)
    ·exact .inl h
   ·exact .inr (by simp [h])
theorem b6e:∀ (es out:List Ent),asc cE out=true->asc cE (es.foldl a2J out)=true
 | [],_,h=>h
 | x::r,out,h=>b6e r (a2J out x) (c8w out x h)
theorem c6T (fuel:Nat)(es:List Ent)(hf:2*Z3 es<=fuel)(hb:Z3 es<=4194304):a3t fuel es=some (es.foldl a2J []):=by
 have hlen:=a5K es
 unfold a3t
 have key:=b7Y (σ:=List Ent) (step:=X3 es fuel) es (fun s i=>(s,(i:Int))) a2J (fun i s=>s.length<=i/\(∀ e∈s,e∈es)) (fun s=>s)
  ?_ ?_ [] ⟨by simp,by simp⟩ _ (Nat.le_refl _)
 ·have e:y9 (X3 es fuel) (es.length+1) (([]:List Ent),0)=y9 (X3 es fuel) (es.length+1) (([]:List Ent),((0:Nat):Int)):=rfl
  rw [X7,e,key]
  rfl
 ·intro i s x hx ⟨hI,hm⟩
  have hi:i<es.length:=(List.getElem?_eq_some_iff.1 hx).1
  refine ⟨c3K fuel es s i x hx (fun e he=>by have:=a2f (hm e he); omega) (fun e he=>by have:=a2f (hm e he); omega) (by omega) (by omega),?_,?_⟩
  ·have:=c9h s x; omega
  ·intro e he
   rcases c4e he with rfl | he
   ·exact List.mem_of_getElem? hx
   ·exact hm e he
 ·intro s _
  unfold X3
  simp
def b7M (n:Int)(es:List Ent):Val:=Val.mk 9 n (⟨#[]⟩) ([]:List Val) ([]:List Key) es ([]:List ByteArray)
abbrev b7n:Type:=Int×Int×ByteArray×(List Val)×(List Key)×(List Ent)×(List ByteArray)
abbrev a1P:b7n:=(0,0,(⟨#[]⟩:ByteArray),[],[],[],[])
theorem b2d (fuel:Nat)(n:Int)(es:List Ent)(hf:2*Z3 es<=fuel)(hb:Z3 es<=4194304) :
 a1M fuel n es=some (if 0<=n/\n<=4/\es.all (a2I n)=true then (b7M n (es.foldl a2J []),0) else (a5T,1)):=by
 have hlen:=a5K es
 unfold a1M
 simp only [X7]
 by_cases h1:n<0
 ·have e1:decide (n<0)=true:=by simpa using h1
  rw [e1,if_neg (by omega)]; rfl
 by_cases h2:4<n
 ·have e1:decide (n<0)=false:=by simpa using h1
  have e2:decide (4<n)=true:=by simpa using h2
  rw [e1,e2,if_neg (by omega)]; rfl
 have e1:decide (n<0)=false:=by simpa using h1
 have e2:decide (4<n)=false:=by simpa using h2
 rw [e1,e2,c6T fuel es hf hb]
 have key:=a1O (step:=a0q n es fuel) es (a2I n) (fun i=>((i:Int),a1P)) a1P (1,a1P) ?_ ?_
 ·have e:y9 (a0q n es fuel) (es.length+1) (0,(0,0,(⟨#[]⟩:ByteArray),[],[],[],[]))=y9 (a0q n es fuel) (es.length+1) (((0:Nat):Int),a1P):=rfl
  rw [e,key]
  by_cases ha:es.all (a2I n)=true
  ·rw [if_pos ha,if_pos ⟨by omega,by omega,ha⟩]
   rfl
  ·rw [if_neg ha,if_neg (fun h=>ha h.2.2)]
   rfl
 ·intro i x hx
  have hi:i<es.length:=(List.getElem?_eq_some_iff.1 hx).1
  have hm:=a2f (List.mem_of_getElem? hx)
  have hbe:=a3b x
  unfold a0q a2C
  simp only [a0O,J9]
  rw [if_pos (by simp; omega),Y5 hx]
  simp only [Option.bind_some,Int.toNat_natCast,hx]
  rw [show Val.mk 0 0 (⟨#[]⟩:ByteArray) ([]:List Val) ([]:List Key) ([]:List Ent) ([]:List ByteArray)=a5T from rfl,(a4h fuel).1 x.Result a5T (by omega) (by omega),Y3 i (by omega)]
  unfold a2I
  by_cases hl:(x.Args.length:Int)=n
  ·have e1:((x.Args.length:Int) != n)=false:=by simp [hl]
   have e2:((x.Args.length:Int)==n)=true:=by simp [hl]
   rw [e1,e2]
   simp only [Bool.false_eq_true,if_false,Option.bind_some,Bool.true_and]
   cases x.Fails
   ·simp
   ·by_cases h0:cV x.Result a5T=0<;>simp [h0]
  ·have e1:((x.Args.length:Int) != n)=true:=by simp [hl]
   have e2:((x.Args.length:Int)==n)=false:=by simp [hl]
   rw [e1,e2]
   simp
 ·unfold a0q
  simp
end Go.Pl
end
section
namespace Go.Pl
open Go Go.RowKit Go.Sx Go.Qx
theorem b5h (c:UInt8):a1Y (c.toNat:Int)=some (a4Y c):=by
 unfold a1Y a4Y
 cases decide (97<=(c.toNat:Int))<;>simp
theorem c0K (c:UInt8):a2G (c.toNat:Int)=some (a59 c):=by
 unfold a2G a59
 cases decide (48<=(c.toNat:Int))<;>simp
theorem b2H (s:ByteArray):a1u s=some (a3M s):=by
 unfold a1u a3M b3G
 simp only [a0O,c1P]
 have hsz:=b61 s
 cases hs:s.data.toList with
 | nil =>
   rw [hs] at hsz
   rw [hsz]
   simp
 | cons c r =>
   rw [hs] at hsz
   simp only [List.length_cons] at hsz
   have e1:decide ((s.size:Int)<1)=false:=by simp; omega
   rw [e1]
   simp only [Bool.false_eq_true,if_false,Option.bind_some]
   by_cases hb:16<(s.size:Int)
   ·rw [if_pos (by simpa using hb)]
    have:decide (r.length<=15)=false:=by simp; omega
    rw [this]; rfl
   ·rw [if_neg (by simpa using hb)]
    have e2:decide (r.length<=15)=true:=by simp; omega
    have e3:a4E s 0=some c:=b0x (i:=0) (by rw [hs]; rfl)
    rw [e2,e3]
    simp only [Option.bind_some,b5h,Bool.true_and]
    cases a4Y c
    ·rfl
    ·simp only [Bool.not_true,Bool.false_eq_true,if_false,Bool.true_and]
     refine b9w s.size (fun i=>match s.data.toList[i]? with | some x=>(a4Y x||a59 x||(x.toNat:Int)==95) | none=>true) ?_ ?_ 1 _ ?_
     ·intro i hi
      have hi':i<s.data.toList.length:=by rw [hs]; simp; omega
      unfold a38
      simp only [a0O,J9]
      rw [if_pos (by simp; omega),b0x (List.getElem?_eq_getElem hi')]
      simp only [Option.bind_some,b5h,c0K]
      rw [List.getElem?_eq_getElem hi',Y3 i (by omega)]
      generalize s.data.toList[i]=x
      have hn:((x.toNat:Int) != 95)=!((x.toNat:Int)==95):=rfl
      rw [hn]
      show _=some (if (a4Y x||a59 x||(x.toNat:Int)==95)=true then _ else _)
      cases a4Y x<;>cases a59 x<;>cases (x.toNat:Int)==95<;>rfl
     ·intro i hi
      unfold a38
      rw [a0O,if_neg (by simp; omega)]
     ·rw [hs,List.all_eq_true]
      constructor
      ·intro h i h1 hi
       obtain ⟨i,rfl⟩:∃ m,i=m+1:=⟨i-1,by omega⟩
       have hr:i<r.length:=by omega
       simp only [List.getElem?_cons_succ,List.getElem?_eq_getElem hr]
       exact h _ (List.getElem_mem hr)
      ·intro h x hx
       obtain ⟨i,hi,rfl⟩:=List.getElem_of_mem hx
       have:=h (i+1) (by omega) (by omega)
       simpa only [List.getElem?_cons_succ,List.getElem?_eq_getElem hi] using this
theorem b55 (k:Key):a0X k=some (a0b k):=by
 unfold a0X a0b
 rw [b2H]
 by_cases h:k.Kind=0
 ·cases a3M k.Text<;>simp [h]
 ·by_cases h1:k.Kind=1
  ·simp [h1]
  ·have e0:(k.Kind==0)=false:=by simpa using h
   have e1:(k.Kind==1)=false:=by simpa using h1
   rw [e0,e1,if_neg h,if_neg h1]
   rfl
theorem c9v (a b:Key):cK a b=lx (eK a) (eK b):=by
 have:=pfK a b [] []
 simpa [lx,b4w] using this.symm
theorem d0v (a b:Key):cK b a = - cK a b:=by rw [c9v,c9v]; exact b8k _ _
def b5R (a b:Key):Bool:=a4T a b
theorem c7o (a b:Key):b5R a b=((a.Kind==b.Kind)&&J5 a.Text b.Text):=by unfold b5R a4T; simp
theorem c7s (a b:Key):b5R a b=true↔cK a b=0:=by
 rw [c7o]
 unfold cK
 rcases a3P a.Kind b.Kind with ⟨h,e⟩ | ⟨h,e⟩ | ⟨h,e⟩
 ·have:(a.Kind==b.Kind)=false:=by simp; omega
  simp [this,e,tn]
 ·have:(a.Kind==b.Kind)=false:=by simp; omega
  simp [this,e,tn]
 ·rw [h]
  rw [h] at e
  rcases a6V a.Text b.Text with ⟨_,p,q⟩ | ⟨_,p,q⟩ | ⟨_,p,q⟩<;>simp [p,q,e,tn]
abbrev a1N (k:Key):Key->Bool:=fun y=>decide (cK y k<0)
def b7C (s:List Val×List Key)(x:Key×Val):Option (List Val×List Key) :=
 if ((s.2.dropWhile (a1N x.1)).head?.map fun y=>b5R y x.1)=some true then none
 else some (s.1.take (s.2.takeWhile (a1N x.1)).length++[x.2]++s.1.drop (s.2.takeWhile (a1N x.1)).length,a0a (a1N x.1) x.1 s.2)
def a4N:List (Key×Val)->List Val×List Key->Option (List Val×List Key)
 | [],s=>some s
 | x::r,s=>(b7C s x).bind (a4N r)
abbrev a6x (s:List Val×List Key):b7n:=(8,0,(⟨#[]⟩:ByteArray),s.1,s.2,[],[])
theorem c8D (keys:List Key)(l:List Val)(i:Nat)(k:Key)(x:Val)(hk:keys[i]?=some k)(hx:l[i]?=some x)(s:List Val×List Key)(hs:s.1.length=s.2.length)(hl:s.2.length<=4194304)(hi:i<=4194304) :
 ∃ y,a0N keys l ((i:Int),a1P,a6x s)=some (match b7C s (k,x) with | some t=>.next (((i+1:Nat):Int),a1P,a6x t) | none=>.done (.inr (6,a1P,y))):=by
 refine ⟨a6x s,?_⟩
 have hlt:i<keys.length:=(List.getElem?_eq_some_iff.1 hk).1
 have hik:idx keys (i:Int)=some k:=Y5 hk
 have hix:idx l (i:Int)=some x:=Y5 hx
 unfold a0N
 simp only [X7]
 rw [c4i (step:=a3I keys ((i:Int),a1P,a6x s)) s.2 (a1N k) ?_ ?_]
 ·simp only [a0O,J9]
  rw [if_pos (by simp; omega)]
  simp only [Option.bind_some,hik,hix]
  have hp:=b4Q (a1N k) s.2
  have hat:=c3I (a1N k) s.2
  have rmk:∀ n,n<=4194305->Z1 n 24=some ():=fun n hn=>W4 (by omega)
  have rmv:∀ n,n<=4194305->Z1 n 128=some ():=fun n hn=>W4 (by omega)
  have h1:=a5A (a1N k) k s.2
  simp only [a0a,List.length_append,List.length_singleton] at h1
  have go:(Option.bind (cut s.2 0 ((s.2.takeWhile (a1N k)).length:Int)) fun u=>Option.bind (Z1 (0+u.length) 24) fun _ =>
   Option.bind (cut s.1 0 ((s.2.takeWhile (a1N k)).length:Int)) fun u2=>Option.bind (a0M u2) fun r2 =>
   Option.bind (Z1 (u.length+[k].length) 24) fun _=>Option.bind (cut s.2 ((s.2.takeWhile (a1N k)).length:Int) (s.2.length:Int)) fun w =>
   Option.bind (Z1 ((u++[k]).length+w.length) 24) fun _=>Option.bind (Z1 (r2.length+[x].length) 128) fun _ =>
   Option.bind (cut s.1 ((s.2.takeWhile (a1N k)).length:Int) (s.1.length:Int)) fun w2=>Option.bind (Z1 ((r2++[x]).length+w2.length) 128) fun _ =>
   some (Fl.next (w64 ((i:Int)+1),a1P,a6x ((r2++[x])++w2,(u++[k])++w))))=some (Fl.next (((i+1:Nat):Int),a1P,a6x (s.1.take (s.2.takeWhile (a1N k)).length++[x]++s.1.drop (s.2.takeWhile (a1N k)).length,a0a (a1N k) k s.2)):Fl (Int×b7n×b7n) (Sum (b7n×b7n) (Int×b7n×b7n))):=by
   have ht:(s.1.take (s.2.takeWhile (a1N k)).length).length<=4194304:=by rw [List.length_take]; omega
   have hd:(s.1.take (s.2.takeWhile (a1N k)).length).length+(s.1.drop (s.2.takeWhile (a1N k)).length).length=s.1.length:=by rw [List.length_take,List.length_drop]; omega
   rw [c37 s.2 hp,c5l s.2 hp,c37 s.1 (by omega),c5l s.1 (by omega),c2f,c2s]
   unfold a0M
   simp only [Option.bind_some]
   rw [rmk _ (by simp; omega),rmv _ (by simp; omega)]
   simp only [Option.bind_some]
   rw [rmk _ (by simp; omega),rmk _ (by simp only [List.length_append,List.length_singleton]; omega),rmv _ (by simp; omega),rmv _ (by simp only [List.length_append,List.length_singleton]; omega),Y3 i (by omega)]
   rfl
  unfold b7C
  cases hh:(s.2.dropWhile (a1N k)).head? with
  | none =>
    rw [hh] at hat
    have hge:=List.getElem?_eq_none_iff.1 hat
    rw [if_neg (by simp; omega),if_neg (by simp)]
    exact go
  | some y =>
    rw [hh] at hat
    have hlt2:=(List.getElem?_eq_some_iff.1 hat).1
    rw [if_pos (by simp; omega),Y5 hat]
    simp only [Option.bind_some,Option.map_some]
    cases hq:b5R y k
    ·unfold b5R at hq
     rw [hq,if_neg (by simp),if_neg (by simp)]
     exact go
    ·unfold b5R at hq
     rw [hq,if_pos rfl,if_pos rfl]
 ·intro j y hy
  have hj:j<s.2.length:=(List.getElem?_eq_some_iff.1 hy).1
  unfold a3I
  simp only [a0O,J9]
  rw [if_pos (by simp; omega),Y5 hy,hik]
  simp only [Option.bind_some,a8Q,Y3 j (by omega)]
  by_cases h:cK y k<0<;>simp [h]
 ·unfold a3I
  simp
theorem c4F {s t:List Val×List Key}{x:Key×Val}(h:b7C s x=some t)(hs:s.1.length=s.2.length):t.1.length=t.2.length/\t.2.length=s.2.length+1:=by
 unfold b7C at h
 split at h
 ·cases h
 ·cases h
  have h1:=a5A (a1N x.1) x.1 s.2
  have hp:=b4Q (a1N x.1) s.2
  refine ⟨?_,h1⟩
  rw [h1]
  simp only [List.length_append,List.length_singleton,List.length_take,List.length_drop]
  omega
theorem c86 (keys:List Key)(l:List Val)(hkl:keys.length=l.length)(hl:keys.length<=4194304) :
 ∃ y,y9 (a0N keys l) (keys.length+1) (0,a1P,a6x ([],[]))=some (match a4N (keys.zip l) ([],[]) with | some t=>.inl (a1P,a6x t) | none=>.inr (6,a1P,y)):=by
 have key:∀ (m i k:Nat) (s:List Val×List Key),i+m=keys.length->m+1<=k->s.1.length=s.2.length->s.2.length<=i ->
  ∃ y,y9 (a0N keys l) k ((i:Int),a1P,a6x s)=some (match a4N ((keys.drop i).zip (l.drop i)) s with | some t=>.inl (a1P,a6x t) | none=>.inr (6,a1P,y)):=by
  intro m
  induction m with
  | zero =>
    intro i k s h1 h2 hs hn
    obtain ⟨k,rfl⟩:∃ m,k=m+1:=⟨k-1,by omega⟩
    have e:i=keys.length:=by omega
    subst e
    rw [List.drop_length,List.zip_nil_left]
    have:a0N keys l ((keys.length:Int),a1P,a6x s)=some (.done (.inl (a1P,a6x s))):=by
     unfold a0N
     simp
    exact ⟨a1P,by simp only [y9,this,a4N,Option.bind_some]⟩
  | succ m ih =>
    intro i k s h1 h2 hs hn
    obtain ⟨k,rfl⟩:∃ m,k=m+1:=⟨k-1,by omega⟩
    have hlt:i<keys.length:=by omega
    have hlt2:i<l.length:=by omega
    rw [List.drop_eq_getElem_cons hlt,List.drop_eq_getElem_cons hlt2,List.zip_cons_cons]
    obtain ⟨y,hy⟩:=c8D keys l i _ _ (List.getElem?_eq_getElem hlt) (List.getElem?_eq_getElem hlt2) s hs (by omega) (by omega)
    simp only [y9,hy,a4N]
    cases hi:b7C s (keys[i],l[i]) with
    | none=>exact ⟨y,by simp⟩
    | some t =>
      obtain ⟨h3,h4⟩:=c4F hi hs
      simp only [Option.bind_some]
      exact ih (i+1) k t (by omega) (by omega) h3 (by omega)
 obtain ⟨y,hy⟩:=key keys.length 0 (keys.length+1) ([],[]) (by omega) (Nat.le_refl _) rfl (Nat.le_refl _)
 exact ⟨y,by simpa using hy⟩
def b2E (s:List Val×List Key):Val:=Val.mk 8 0 (⟨#[]⟩) s.1 s.2 ([]:List Ent) ([]:List ByteArray)
theorem c0B (keys:List Key)(l:List Val)(hl:keys.length<=4194304) :
 a1S keys l=some (if keys.length=l.length/\keys.all a0b=true then (match a4N (keys.zip l) ([],[]) with | some t=>((b2E t,0):Val×Int) | none=>(a5T,6)) else (a5T,1)):=by
 unfold a1S
 simp only [X7]
 by_cases hkl:keys.length=l.length
 ·have e1:((keys.length:Int) != (l.length:Int))=false:=by simp; omega
  rw [e1]
  have k1:=a1O (step:=a1s keys) keys a0b (fun i=>((i:Int),a1P)) a1P (1,a1P) ?_ ?_
  ·obtain ⟨y,hy⟩:=c86 keys l hkl hl
   have e2:y9 (a1s keys) (keys.length+1) (0,(0,0,(⟨#[]⟩:ByteArray),[],[],[],[]))=y9 (a1s keys) (keys.length+1) (((0:Nat):Int),a1P):=rfl
   rw [e2,k1]
   by_cases ha:keys.all a0b=true
   ·rw [if_pos ha,if_pos ⟨hkl,ha⟩]
    simp only [Option.bind_some,j9,cond_false]
    rw [hy]
    cases a4N (keys.zip l) ([],[])<;>rfl
   ·rw [if_neg ha,if_neg (fun h=>ha h.2)]
    rfl
  ·intro i x hx
   have hi:i<keys.length:=(List.getElem?_eq_some_iff.1 hx).1
   unfold a1s
   simp only [a0O,J9]
   rw [if_pos (by simp; omega),Y5 hx]
   simp only [Option.bind_some,b55,Y3 i (by omega)]
   cases a0b x<;>rfl
  ·unfold a1s
   simp
 ·have e1:((keys.length:Int) != (l.length:Int))=true:=by simp; omega
  rw [e1,if_neg (fun h=>hkl h.1)]
  rfl
theorem a5l (a b:List Key):k9 (a++b)=k9 a+k9 b:=by
 induction a with
 | nil=>simp [k9]
 | cons x r ih=>simp only [List.cons_append,k9,ih]; omega
theorem c7e {s t:List Val×List Key}{x:Key×Val}(h:b7C s x=some t)(ha:asc cK s.2=true) :
 asc cK t.2=true/\(∀ y∈t.2,y=x.1\/y∈s.2)/\(∀ y∈t.1,y=x.2\/y∈s.1)/\v7 t.1=v7 s.1+Z9 x.2/\k9 t.2=k9 s.2+a2v x.1:=by
 unfold b7C at h
 split at h
 ·cases h
 ·rename_i hne
  cases h
  refine ⟨b8w cK d0v x.1 s.2 ha ?_,fun y hy=>b6Z hy,fun y hy=>?_,?_,?_⟩
  ·intro y hy h0
   rw [hy] at hne
   simp only [Option.map_some] at hne
   exact hne (congrArg some ((c7s y x.1).2 h0))
  ·simp only [List.mem_append,List.mem_singleton] at hy
   rcases hy with (hy | hy) | hy
   ·exact .inr (List.mem_of_mem_take hy)
   ·exact .inl hy
   ·exact .inr (List.mem_of_mem_drop hy)
  ·have e:=congrArg v7 (List.take_append_drop (s.2.takeWhile (a1N x.1)).length s.1)
   rw [a2S] at e
   simp only [a2S,v7]
   omega
  ·have e:=congrArg k9 (List.takeWhile_append_dropWhile (p:=a1N x.1) (l:=s.2))
   rw [a5l] at e
   simp only [a0a,a5l,k9]
   omega
def b5l:List (Key×Val)->Nat
 | []=>0
 | x::r=>a2v x.1+Z9 x.2+b5l r
theorem b06:∀ (xs:List (Key×Val)) (s t:List Val×List Key),a4N xs s=some t->asc cK s.2=true->s.1.length=s.2.length ->
 asc cK t.2=true/\t.1.length=t.2.length/\t.2.length=s.2.length+xs.length/\(∀ y∈t.2,y∈s.2\/∃ x∈xs,y=x.1)/\(∀ y∈t.1,y∈s.1\/∃ x∈xs,y=x.2)/\v7 t.1+k9 t.2=v7 s.1+k9 s.2+b5l xs
 | [],s,t,h,ha,hl=>by
   cases h
   exact ⟨ha,hl,rfl,fun y hy=>.inl hy,fun y hy=>.inl hy,rfl⟩
 | x::r,s,t,h,ha,hl=>by
   simp only [a4N] at h
   obtain ⟨u,hu,h⟩:=Option.bind_eq_some_iff.1 h
   obtain ⟨k1,k2,k3,k4,k5⟩:=c7e hu ha
   obtain ⟨l1,l2⟩:=c4F hu hl
   obtain ⟨m1,m2,m3,m4,m5,m6⟩:=b06 r u t h k1 l1
   refine ⟨m1,m2,by rw [m3,l2,List.length_cons]; omega,fun y hy=>?_,fun y hy=>?_,by simp only [b5l]; omega⟩
   ·rcases m4 y hy with hy | ⟨z,hz,rfl⟩
    ·rcases k2 y hy with rfl | hy
     ·exact .inr ⟨x,by simp,rfl⟩
     ·exact .inl hy
    ·exact .inr ⟨z,by simp [hz],rfl⟩
   ·rcases m5 y hy with hy | ⟨z,hz,rfl⟩
    ·rcases k3 y hy with rfl | hy
     ·exact .inr ⟨x,by simp,rfl⟩
     ·exact .inl hy
    ·exact .inr ⟨z,by simp [hz],rfl⟩
end Go.Pl
namespace Go.Pl
open Go Go.RowKit Go.Sx Go.Qx
theorem c2w (c:UInt8):a2B (c.toNat:Int)=some (upC c):=by
 unfold a2B upC
 cases decide (65<=(c.toNat:Int))<;>simp
theorem c01 (s:ByteArray):a1m s=some (a49 s):=by
 unfold a1m a49 b3G
 simp only [a0O,c1P]
 have hsz:=b61 s
 cases hs:s.data.toList with
 | nil =>
   rw [hs] at hsz
   rw [hsz]
   simp
 | cons c r =>
   rw [hs] at hsz
   simp only [List.length_cons] at hsz
   have e1:decide ((s.size:Int)<1)=false:=by simp; omega
   rw [e1]
   simp only [Bool.false_eq_true,if_false,Option.bind_some]
   by_cases hb:16<(s.size:Int)
   ·rw [if_pos (by simpa using hb)]
    have:decide (r.length<=15)=false:=by simp; omega
    rw [this]; rfl
   ·rw [if_neg (by simpa using hb)]
    have e2:decide (r.length<=15)=true:=by simp; omega
    have e3:a4E s 0=some c:=b0x (i:=0) (by rw [hs]; rfl)
    rw [e2,e3]
    simp only [Option.bind_some,c2w,Bool.true_and]
    cases upC c
    ·rfl
    ·simp only [Bool.not_true,Bool.false_eq_true,if_false,Bool.true_and]
     refine b9w s.size (fun i=>match s.data.toList[i]? with | some x=>(a4Y x||upC x||a59 x||(x.toNat:Int)==95) | none=>true) ?_ ?_ 1 _ ?_
     ·intro i hi
      have hi':i<s.data.toList.length:=by rw [hs]; simp; omega
      unfold a2O
      simp only [a0O,J9]
      rw [if_pos (by simp; omega),b0x (List.getElem?_eq_getElem hi')]
      simp only [Option.bind_some,b5h,c0K,c2w]
      rw [List.getElem?_eq_getElem hi',Y3 i (by omega)]
      generalize s.data.toList[i]=x
      have hn:((x.toNat:Int) != 95)=!((x.toNat:Int)==95):=rfl
      rw [hn]
      show _=some (if (a4Y x||upC x||a59 x||(x.toNat:Int)==95)=true then _ else _)
      cases a4Y x<;>cases upC x<;>cases a59 x<;>cases (x.toNat:Int)==95<;>rfl
     ·intro i hi
      unfold a2O
      rw [a0O,if_neg (by simp; omega)]
     ·rw [hs,List.all_eq_true]
      constructor
      ·intro h i h1 hi
       obtain ⟨i,rfl⟩:∃ m,i=m+1:=⟨i-1,by omega⟩
       have hr:i<r.length:=by omega
       simp only [List.getElem?_cons_succ,List.getElem?_eq_getElem hr]
       exact h _ (List.getElem_mem hr)
      ·intro h x hx
       obtain ⟨i,hi,rfl⟩:=List.getElem_of_mem hx
       have:=h (i+1) (by omega) (by omega)
       simpa only [List.getElem?_cons_succ,List.getElem?_eq_getElem hi] using this
end Go.Pl
end
section
namespace Go.Pl
open Go Go.RowKit Go.Sx Go.Qx
theorem a6s:J5 (⟨#[]⟩:ByteArray) ⟨#[]⟩=true:=by simp [J5]
theorem d0S (n:Int):vOK (Val.mk 1 n (⟨#[]⟩) [] [] [] [])=true:=by simp [vOK,a1I,a5h,a3g,a1r,asc,a3i,a5q,a6s,Val.Kind,Val.Int_,Val.Text,Val.Kids,Val.Keys,Val.Entries,Val.Labels]
theorem d0I (s:ByteArray):vOK (Val.mk 2 0 s [] [] [] [])=decide ((s.size:Int)<=64):=by rw [Bool.eq_iff_iff]; simp [vOK,a1I,a5h,a3g,a1r,asc,a3i,a5q,Val.Kind,Val.Int_,Val.Text,Val.Kids,Val.Keys,Val.Entries,Val.Labels]; exact decide_eq_true_iff
theorem c8u (s:ByteArray):vOK (Val.mk 3 0 s [] [] [] [])=a3M s:=by simp [vOK,a1I,a5h,a3g,a1r,asc,a3i,a5q,Val.Kind,Val.Int_,Val.Text,Val.Kids,Val.Keys,Val.Entries,Val.Labels]
theorem d0P (n:Int):vOK (Val.mk 4 n (⟨#[]⟩) [] [] [] [])=decide (0<=n):=by rw [Bool.eq_iff_iff]; simp [vOK,a1I,a5h,a3g,a1r,asc,a3i,a5q,a6s,Val.Kind,Val.Int_,Val.Text,Val.Kids,Val.Keys,Val.Entries,Val.Labels]; exact decide_eq_true_iff
theorem b8m:vOK (Val.mk 5 0 (⟨#[]⟩) [] [] [] [])=true:=by simp [vOK,a1I,a5h,a3g,a1r,asc,a3i,a5q,a6s,Val.Kind,Val.Int_,Val.Text,Val.Kids,Val.Keys,Val.Entries,Val.Labels]
theorem c2z (l:List Val):vOK (Val.mk 6 0 (⟨#[]⟩) l [] [] [])=(decide (l.length<=4)&&a1I l):=by rw [Bool.eq_iff_iff]; simp [vOK,a5h,a3g,a1r,asc,a3i,a5q,a6s,Val.Kind,Val.Int_,Val.Text,Val.Kids,Val.Keys,Val.Entries,Val.Labels]; intro _; exact decide_eq_true_iff
theorem c4c (x t:Val):vOK (Val.mk 7 0 (⟨#[]⟩) [x,t] [] [] [])=((t.Kind==5||t.Kind==7)&&(vOK x&&vOK t)):=by simp [vOK,a1I,a5h,a3g,a1r,asc,a3i,a5q,b67,a6s,Val.Kind,Val.Int_,Val.Text,Val.Kids,Val.Keys,Val.Entries,Val.Labels]
theorem d0y (t:List Val×List Key):vOK (b2E t)=(c00 (b2E t)&&a1I t.1):=by simp [b2E,vOK,a5h,a3g,a1r,asc,a3i,a5q,a6s,Val.Kind,Val.Int_,Val.Text,Val.Kids,Val.Keys,Val.Entries,Val.Labels]
theorem d0z (n:Int)(es:List Ent):vOK (b7M n es)=(c0u (b7M n es)&&a5h es):=by simp [b7M,vOK,a1I,a3g,a1r,asc,a3i,a5q,a6s,Val.Kind,Val.Int_,Val.Text,Val.Kids,Val.Keys,Val.Entries,Val.Labels]
def a5S (v:Val)(l:List ByteArray):Val:=Val.mk v.Kind v.Int_ v.Text v.Kids v.Keys v.Entries l
theorem a8R {v:Val}{l:List ByteArray}(h:vOK v=true)(hl:a1r l=true):vOK (a5S v l)=true:=by
 cases v
 simp only [vOK,a3g,Bool.and_eq_true,a5S,Val.Kind,Val.Int_,Val.Text,Val.Kids,Val.Keys,Val.Entries,Val.Labels] at h ⊢
 exact ⟨⟨hl,h.1.2⟩,h.2⟩
theorem a5y (v:Val)(l:List ByteArray):Z9 (a5S v l)<=Z9 v+J2 l:=by
 rw [a5C,a5C v]
 simp only [a5S,Val.Text,Val.Kids,Val.Keys,Val.Entries,Val.Labels]
 omega
theorem a2j:(⟨#[]⟩:ByteArray).size=0:=rfl
theorem K8 (k n:Int)(t:ByteArray)(kids:List Val)(keys:List Key)(es:List Ent):Z9 (Val.mk k n t kids keys es [])=8+t.size+v7 kids+k9 keys+Z3 es:=by
 simp only [Z9,a0Z,J2]; omega
structure OS (L:List Int)(s:Semtypebase_Source):Prop where
 l:s.L=L
 lo:0<=s.At
 hi:s.At<=(L.length:Int)
section
variable {L:List Int}
theorem Q1 (hL:L.length<=4194304){s:Semtypebase_Source}(h:OS L s){n:Int}(h1:1<=n)(h2:n<=1000):∃ x t,y2 s n=some (x,t)/\OS L t/\0<=x/\x<n:=by
 obtain ⟨hl,lo,hi⟩:=h
 unfold y2
 have e1:decide (n<1)=false:=by simp; omega
 rw [e1,hl]
 by_cases he:(L.length:Int)<=s.At
 ·have e2:decide ((L.length:Int)<=s.At)=true:=by simpa using he
  rw [e2]
  exact ⟨0,s,rfl,⟨hl,lo,hi⟩,by omega,by omega⟩
 ·have e2:decide ((L.length:Int)<=s.At)=false:=by simpa using he
  rw [e2]
  simp only [cond_false,Option.bind_some]
  have hlt:s.At.toNat<L.length:=by omega
  have e:idx L s.At=some L[s.At.toNat]:=by
   have:=Y5 (List.getElem?_eq_getElem hlt)
   rwa [show ((s.At.toNat:Nat):Int)=s.At by omega] at this
  rw [e]
  simp only [Option.bind_some]
  have hq:b9O L[s.At.toNat] n=some (L[s.At.toNat].tmod n):=by unfold b9O; rw [if_neg (by omega)]
  rw [hq]
  simp only [Option.bind_some,J9]
  have b1:=Int.tmod_lt_of_pos L[s.At.toNat] (show 0<n by omega)
  have b2:=Int.lt_tmod_of_pos L[s.At.toNat] (show 0<n by omega)
  have hw:w64 (s.At+1)=s.At+1:=W8 (by omega) (by omega)
  have hos:OS L (Semtypebase_Source.mk L (w64 (s.At+1))):=⟨rfl,by show 0<=w64 (s.At+1); omega,by show w64 (s.At+1)<=_; omega⟩
  by_cases hn:L[s.At.toNat].tmod n<0
  ·rw [a0O,if_pos (by simpa using hn),W8 (x:=L[s.At.toNat].tmod n+n) (by omega) (by omega)]
   exact ⟨_,_,rfl,hos,by omega,by omega⟩
  ·rw [a0O,if_neg (by simpa using hn)]
   exact ⟨_,_,rfl,hos,by omega,by omega⟩
theorem b4N {α:Type}(l:List α){x:Int}(h0:0<=x)(h1:x<(l.length:Int)):∃ t,idx l x=some t/\l[x.toNat]?=some t/\t∈l:=by
 have hlt:x.toNat<l.length:=by omega
 have:=Y5 (List.getElem?_eq_getElem hlt)
 rw [show ((x.toNat:Nat):Int)=x by omega] at this
 exact ⟨_,this,List.getElem?_eq_getElem hlt,List.getElem_mem hlt⟩
abbrev b8d:List ByteArray:=[⟨#[65]⟩,⟨#[66]⟩,⟨#[67]⟩]
abbrev c4w:List ByteArray:=[⟨#[97]⟩,⟨#[98]⟩,⟨#[111,107]⟩,⟨#[101,114,114,111,114]⟩]
abbrev c4b:List ByteArray:=[⟨#[]⟩,⟨#[115]⟩,⟨#[120,32,121]⟩,⟨#[97]⟩]
theorem b9G (hL:L.length<=4194304){s:Semtypebase_Source}(h:OS L s):∃ x t,a0f s=some (x,t)/\OS L t/\x∈b8d:=by
 obtain ⟨n,t,e,ht,a,b⟩:=Q1 hL h (n:=3) (by omega) (by omega)
 obtain ⟨x,ex,eg,hx⟩:=b4N b8d a (by simpa using b)
 exact ⟨x,t,by unfold a0f; rw [e]; simp only [Option.bind_some]; rw [ex,eg]; rfl,ht,hx⟩
theorem a8P (hL:L.length<=4194304){s:Semtypebase_Source}(h:OS L s):∃ x t,K4 s=some (x,t)/\OS L t/\x∈c4w:=by
 obtain ⟨n,t,e,ht,a,b⟩:=Q1 hL h (n:=4) (by omega) (by omega)
 obtain ⟨x,ex,eg,hx⟩:=b4N c4w a (by simpa using b)
 exact ⟨x,t,by unfold K4; rw [e]; simp only [Option.bind_some]; rw [ex,eg]; rfl,ht,hx⟩
theorem b8v (hL:L.length<=4194304){s:Semtypebase_Source}(h:OS L s):∃ x t,W9 s=some (x,t)/\OS L t/\x∈c4b:=by
 obtain ⟨n,t,e,ht,a,b⟩:=Q1 hL h (n:=4) (by omega) (by omega)
 obtain ⟨x,ex,eg,hx⟩:=b4N c4b a (by simpa using b)
 exact ⟨x,t,by unfold W9; rw [e]; simp only [Option.bind_some]; rw [ex,eg]; rfl,ht,hx⟩
theorem c7n (hL:L.length<=4194304){s:Semtypebase_Source}(h:OS L s):∃ x t,a1E s=some (x,t)/\OS L t:=by
 obtain ⟨n,t,e,ht,a,b⟩:=Q1 hL h (n:=10) (by omega) (by omega)
 obtain ⟨x,ex,eg,hx⟩:=b4N ([0,1,(-1),2,3,(-2),7,(-9223372036854775808),9223372036854775807,10]:List Int) a (by simpa using b)
 exact ⟨x,t,by unfold a1E; rw [e]; simp only [Option.bind_some]; rw [ex,eg]; rfl,ht⟩
def chk (o:Option (List ByteArray)):Bool :=
 match o with
 | some l=>a1r l&&decide (J2 l<=4)
 | none=>false
theorem b7N {o:Option (List ByteArray)}(h:chk o=true):∃ l,o=some l/\a1r l=true/\J2 l<=4:=by
 cases o with
 | none=>cases h
 | some l=>simp only [chk,Bool.and_eq_true,decide_eq_true_eq] at h; exact ⟨l,rfl,h⟩
theorem d0a:chk (X2 ([]:List ByteArray))=true:=by kernel_rfl
theorem d0R:b8d.all (fun x=>chk (X2 [x]))=true:=by kernel_rfl
theorem d0d:b8d.all (fun x=>b8d.all (fun y=>chk (X2 ([x]++[y]))))=true:=by kernel_rfl
theorem b0k (hL:L.length<=4194304){s:Semtypebase_Source}(h:OS L s):∃ l t,a0D s=some (l,t)/\OS L t/\a1r l=true/\J2 l<=4:=by
 obtain ⟨n,t,e,ht,_,_⟩:=Q1 hL h (n:=3) (by omega) (by omega)
 unfold a0D
 rw [e]
 simp only [Option.bind_some]
 cases hn:n==1
 ·simp only [cond_false,Option.bind_some]
  obtain ⟨l,el,h1,h2⟩:=b7N d0a
  exact ⟨l,t,by rw [el]; rfl,ht,h1,h2⟩
 ·simp only [cond_true,Option.bind_some]
  obtain ⟨x,t2,e2,ht2,hx⟩:=b9G hL ht
  obtain ⟨m,t3,e3,ht3,_,_⟩:=Q1 hL ht2 (n:=2) (by omega) (by omega)
  rw [e2]
  simp only [Option.bind_some]
  rw [W4 (by simp),e3]
  simp only [Option.bind_some]
  cases hm:m==1
  ·simp only [cond_false,Option.bind_some]
   obtain ⟨l,el,h1,h2⟩:=b7N (List.all_eq_true.1 d0R x hx)
   exact ⟨l,t3,by rw [el]; rfl,ht3,h1,h2⟩
  ·simp only [cond_true,Option.bind_some]
   obtain ⟨y,t4,e4,ht4,hy⟩:=b9G hL ht3
   rw [e4]
   simp only [Option.bind_some]
   rw [W4 (by simp)]
   obtain ⟨l,el,h1,h2⟩:=b7N (List.all_eq_true.1 (List.all_eq_true.1 d0d x hx) y hy)
   exact ⟨l,t4,by simp only [Option.bind_some]; rw [el]; rfl,ht4,h1,h2⟩
theorem b0l:c4w.all (fun x=>a3M x&&decide (x.size<=5))=true:=by kernel_rfl
theorem b0n:c4b.all (fun x=>decide (x.size<=5))=true:=by kernel_rfl
theorem b3z (hL:L.length<=4194304){s:Semtypebase_Source}(h:OS L s):∃ v t,K0 s=some (v,t)/\OS L t/\vOK v=true/\Z9 v<=16:=by
 obtain ⟨n,t,e,ht,_,_⟩:=Q1 hL h (n:=6) (by omega) (by omega)
 unfold K0
 rw [e]
 simp only [Option.bind_some]
 cases n==0
 ·simp only [cond_false,Option.bind_some]
  cases n==1
  ·simp only [cond_false,Option.bind_some]
   cases n==2
   ·simp only [cond_false,Option.bind_some]
    cases n==3
    ·simp only [cond_false,Option.bind_some]
     cases n==4
     ·simp only [cond_false,Option.bind_some]
      unfold a1X a0M
      rw [W4 (by simp)]
      exact ⟨_,t,rfl,ht,by rw [c2z]; rfl,by rw [K8]; simp [a2j,v7,k9,Z3]⟩
     ·simp only [cond_true,Option.bind_some]
      exact ⟨_,t,rfl,ht,b8m,by rw [K8]; simp [a2j,v7,k9,Z3]⟩
    ·simp only [cond_true,Option.bind_some]
     obtain ⟨x,t2,e2,ht2,h0,_⟩:=Q1 hL ht (n:=3) (by omega) (by omega)
     rw [e2]
     exact ⟨_,t2,rfl,ht2,by rw [d0P]; simpa using h0,by rw [K8]; simp [a2j,v7,k9,Z3]⟩
   ·simp only [cond_true,Option.bind_some]
    obtain ⟨x,t2,e2,ht2,hx⟩:=b8v hL ht
    have hw:=List.all_eq_true.1 b0n x hx
    simp only [decide_eq_true_eq] at hw
    rw [e2]
    exact ⟨_,t2,rfl,ht2,by rw [d0I]; simp; omega,by rw [K8]; simp only [v7,k9,Z3]; omega⟩
  ·simp only [cond_true,Option.bind_some]
   obtain ⟨x,t2,e2,ht2,hx⟩:=a8P hL ht
   have hw:=List.all_eq_true.1 b0l x hx
   simp only [Bool.and_eq_true,decide_eq_true_eq] at hw
   rw [e2]
   exact ⟨_,t2,rfl,ht2,by rw [c8u]; exact hw.1,by rw [K8]; simp only [v7,k9,Z3]; omega⟩
 ·simp only [cond_true,Option.bind_some]
  obtain ⟨x,t2,e2,ht2⟩:=c7n hL ht
  rw [e2]
  exact ⟨_,t2,rfl,ht2,d0S x,by rw [K8]; simp [a2j,v7,k9,Z3]⟩
theorem d0t (hL:L.length<=4194304){s:Semtypebase_Source}(h:OS L s):∃ k t,a2k s=some (k,t)/\OS L t/\a0b k=true/\a2v k<=8:=by
 obtain ⟨n,t,e,ht,_,_⟩:=Q1 hL h (n:=2) (by omega) (by omega)
 unfold a2k
 rw [e]
 simp only [Option.bind_some]
 cases n==0
 ·simp only [cond_false,Option.bind_some]
  obtain ⟨x,t2,e2,ht2,hx⟩:=b8v hL ht
  have hw:=List.all_eq_true.1 b0n x hx
  simp only [decide_eq_true_eq] at hw
  rw [e2]
  refine ⟨_,t2,rfl,ht2,?_,?_⟩
  ·simp [a0b]; omega
  ·simp only [a2v,a0Z]; omega
 ·simp only [cond_true,Option.bind_some]
  obtain ⟨x,t2,e2,ht2,hx⟩:=a8P hL ht
  have hw:=List.all_eq_true.1 b0l x hx
  simp only [Bool.and_eq_true,decide_eq_true_eq] at hw
  rw [e2]
  refine ⟨_,t2,rfl,ht2,?_,?_⟩
  ·simpa [a0b] using hw.1
  ·simp only [a2v,a0Z]; omega
theorem a8d {γ σ τ:Type}{step:σ->Option (Fl σ τ)}(pack:γ->Int->Semtypebase_Source->σ)(out:γ->Semtypebase_Source->τ)(Inv:Nat->γ->Prop)(J:Nat)
 (hst:∀ (j n:Nat) (g:γ) (s:Semtypebase_Source),j<J->n<=J->Inv j g->OS L s->∃ g' s',step (pack g ((n+1:Nat):Int) s)=some (.next (pack g' (n:Int) s'))/\OS L s'/\Inv (j+1) g')
 (hend:∀ g s,step (pack g 0 s)=some (.done (out g s))) :
 ∀ (n j k:Nat) (g:γ) (s:Semtypebase_Source),j+n<=J->n+1<=k->Inv j g->OS L s->∃ g' s',y9 step k (pack g (n:Int) s)=some (out g' s')/\OS L s'/\Inv (j+n) g':=by
 intro n
 induction n with
 | zero =>
   intro j k g s _ hk hI hs
   obtain ⟨k,rfl⟩:∃ m,k=m+1:=⟨k-1,by omega⟩
   exact ⟨g,s,by have:=hend g s; simp [y9,this],hs,hI⟩
 | succ n ih =>
   intro j k g s hJ hk hI hs
   obtain ⟨k,rfl⟩:∃ m,k=m+1:=⟨k-1,by omega⟩
   obtain ⟨g1,s1,e,hs1,hI1⟩:=hst j n g s (by omega) (by omega) hI hs
   obtain ⟨g2,s2,e2,hs2,hI2⟩:=ih (j+1) k g1 s1 (by omega) (by omega) hI1 hs1
   refine ⟨g2,s2,?_,hs2,by rw [show j+(n+1)=j+1+n by omega]; exact hI2⟩
   simp only [y9,e,Option.bind_some]
   exact e2
def hb:Nat->Nat
 | 0=>32
 | h+1=>64+8*hb h
theorem c9Z {h:Nat}(hh:h<=2):hb h<=2624:=by
 match h,hh with
 | 0,_=>decide
 | 1,_=>decide
 | 2,_=>decide
theorem c8a (h:Nat):32<=hb h:=by cases h<;>simp [hb]; omega
def c4C (b:Nat)(v:Val):Prop:=vOK v=true/\Z9 v<=b
end
end Go.Pl
namespace Go.Pl
open Go Go.RowKit Go.Sx Go.Qx
theorem b5T (a b:List Val):a1I (a++b)=(a1I a&&a1I b):=by rw [a5n,a5n,a5n,List.all_append]
theorem b74:∀ (ks:List Key) (vs:List Val),b5l (ks.zip vs)<=k9 ks+v7 vs
 | [],_=>by simp [b5l]
 | _::_,[]=>by simp [b5l]
 | k::r,v::q=>by have:=b74 r q; simp only [List.zip_cons_cons,b5l,k9,v7]; omega
theorem b8D (n:Nat)(h:n<=1000)(b:Nat)(hb:b<=1024):Z1 n b=some ():=W4 (by
 have:n*b<=1000*1024:=Nat.mul_le_mul h hb
 omega)
section
variable {L:List Int}
theorem c7X (hL:L.length<=4194304){rv:Semtypebase_Source->Int->Option (Val×Semtypebase_Source)}{b:Nat}{h:Int}(hv:∀ s,OS L s->∃ v t,rv s h=some (v,t)/\OS L t/\c4C b v)
 (hb:b<=100000) (hb8:8<=b) (rx:Semtypebase_Source->Int->Option (Val×Semtypebase_Source)) (ry:Semtypebase_Source->Int->Int->Option (Ent×Semtypebase_Source)) (fuel:Nat) {n:Nat} (hn:n<=4) {s:Semtypebase_Source} (hs:OS L s) :
 ∃ e t,a2x fuel rv rx ry s (n:Int) h=some (e,t)/\OS L t/\eOK e=true/\a2I (n:Int) e=true/\a5b e<=n*b+b+3:=by
 obtain ⟨g,s1,e1,hs1,h1,h2,h3⟩:=a8d (L:=L) (step:=a1b h rv) (fun (g:List Val) (m:Int) (s:Semtypebase_Source)=>(m,s,(g,false,0,0,(⟨#[]⟩:ByteArray),([]:List Val),([]:List Key),([]:List Ent),([]:List ByteArray))))
  (fun (g:List Val) (s:Semtypebase_Source)=>(s,(g,false,0,0,(⟨#[]⟩:ByteArray),([]:List Val),([]:List Key),([]:List Ent),([]:List ByteArray)))) (fun j g=>g.length=j/\a1I g=true/\v7 g<=j*b) 4
  (by
    intro j m g s hj hm ⟨i1,i2,i3⟩ hs
    obtain ⟨v,t,e,ht,k1,k2⟩:=hv s hs
    refine ⟨g++[v],t,?_,ht,by simp [i1],by rw [b5T,i2]; simp [a1I,k1],?_⟩
    ·unfold a1b
     simp only [a0O,J9]
     rw [if_pos (decide_eq_true (by omega)),e]
     simp only [Option.bind_some]
     rw [b8D _ (by simp; omega) _ (by omega),W8 (by omega) (by omega)]
     simp only [Option.bind_some]
     rw [show ((m+1:Nat):Int)-1=(m:Int) by omega]
    ·rw [a2S]
     simp only [v7,Nat.add_mul]
     omega)
  (by
    intro g s
    unfold a1b
    simp) n 0 (n+2) [] s (by omega) (by omega) ⟨rfl,rfl,by simp [v7]⟩ hs
 obtain ⟨x,t,e2,ht,_,_⟩:=Q1 hL hs1 (n:=4) (by omega) (by omega)
 rw [Nat.zero_add] at h1 h3
 unfold a2x
 rw [show ((n:Int)).toNat=n by omega,e1]
 simp only [Option.bind_some]
 rw [e2]
 simp only [Option.bind_some]
 cases x==1
 ·simp only [cond_false]
  obtain ⟨v,t2,e3,ht2,k1,k2⟩:=hv t ht
  rw [e3]
  refine ⟨_,t2,rfl,ht2,by rw [c4T]; simp only [Ent.Args,Ent.Fails,Ent.Result]; rw [h2,k1]; rfl,?_,?_⟩
  ·simp [a2I,Ent.Args,Ent.Fails,h1]
  ·rw [a3b]
   simp only [Ent.Args,Ent.Result]
   omega
 ·simp only [cond_true]
  refine ⟨_,t,rfl,ht,by rw [c4T]; simp only [Ent.Args,Ent.Fails]; rw [h2]; rfl,?_,?_⟩
  ·simp [a2I,Ent.Args,Ent.Fails,Ent.Result,h1,d0A]
  ·rw [a3b]
   simp only [Ent.Args,Ent.Result]
   have:Z9 (Val.mk 0 0 (⟨#[]⟩) [] [] [] [])=8:=by rw [K8]; rfl
   omega
theorem b2e {x:Int}{b:Int}(h0:0<=x)(h1:x<b):∃ n:Nat,x=(n:Int)/\(n:Int)<b:=⟨x.toNat,by omega,by omega⟩
theorem c77 (hL:L.length<=4194304){rv:Semtypebase_Source->Int->Option (Val×Semtypebase_Source)}{re:Semtypebase_Source->Int->Int->Option (Ent×Semtypebase_Source)}{h:Nat}(hh:h<=2)
 (hv:∀ s,OS L s->∃ v t,rv s ((h:Int)+1)=some (v,t)/\OS L t/\c4C (hb h) v)
 (hv2:1<=h->∀ s,OS L s->∃ v t,rv s (h:Int)=some (v,t)/\OS L t/\c4C (hb h) v)
 (he:∀ n:Nat,n<=4->∀ s,OS L s->∃ e t,re s (n:Int) ((h:Int)+1)=some (e,t)/\OS L t/\eOK e=true/\a2I (n:Int) e=true/\a5b e<=n*hb h+hb h+3)
 (rx:Semtypebase_Source->Int->Option (Val×Semtypebase_Source)) {fuel:Nat} (hf:40000<=fuel) {s:Semtypebase_Source} (hs:OS L s) :
 ∃ v t,a0x fuel rv rx re s ((h:Int)+2)=some (v,t)/\OS L t/\vOK v=true/\Z9 v+8<=hb (h+1):=by
 have hb1:=c9Z hh
 have hb2:=c8a h
 have hbs:hb (h+1)=64+8*hb h:=rfl
 have w1:w64 ((h:Int)+2-1)=(h:Int)+1:=by rw [W8 (by omega) (by omega)]; omega
 have w2:w64 ((h:Int)+2-2)=(h:Int):=by rw [W8 (by omega) (by omega)]; omega
 have wn:∀ m:Nat,m<=10->w64 (((m+1:Nat):Int)-1)=(m:Int):=fun m hm=>by rw [W8 (by omega) (by omega)]; omega
 have lf:∀ s,OS L s->∃ v t,K0 s=some (v,t)/\OS L t/\vOK v=true/\Z9 v+8<=hb (h+1):=fun s hs=>by
  obtain ⟨v,t,e,ht,h1,h2⟩:=b3z hL hs
  exact ⟨v,t,e,ht,h1,by omega⟩
 obtain ⟨c,t,e,ht,_,_⟩:=Q1 hL hs (n:=6) (by omega) (by omega)
 unfold a0x
 have e0:decide ((h:Int)+2<=1)=false:=by simp; omega
 rw [e0,e]
 simp only [Option.bind_some,cond_false,J9,w1,w2]
 cases c==1
 ·simp only [cond_false,Option.bind_some,j9]
  cases c==2
  ·simp only [cond_false,Option.bind_some,j9]
   cases c==3
   ·simp only [cond_false,Option.bind_some,j9]
    cases c==4
    ·simp only [cond_false,Option.bind_some,j9]
     obtain ⟨v,t2,e2,h2⟩:=lf t ht
     rw [e2]
     exact ⟨v,t2,rfl,h2⟩
    ·simp only [cond_true,Option.bind_some,j9]
     obtain ⟨x,t2,e2,ht2,x0,x1⟩:=Q1 hL ht (n:=3) (by omega) (by omega)
     obtain ⟨y,t3,e3,ht3,y0,y1⟩:=Q1 hL ht2 (n:=3) (by omega) (by omega)
     obtain ⟨n,rfl,hn⟩:=b2e x0 x1
     obtain ⟨m,rfl,hm⟩:=b2e y0 y1
     rw [e2]
     simp only [Option.bind_some]
     rw [e3]
     simp only [Option.bind_some]
     have hnb:n*hb h<=2*hb h:=Nat.mul_le_mul_right _ (by omega)
     obtain ⟨g,s1,e4,hs1,i1,i2,i3,i4⟩:=a8d (L:=L) (step:=a07 ((h:Int)+2) ((n:Int),t2) re) (fun (g:List Ent) (m:Int) (s:Semtypebase_Source)=>(g,m,s)) (fun (g:List Ent) (s:Semtypebase_Source)=>(g,s)) (fun j g=>g.length=j/\a5h g=true/\g.all (a2I (n:Int))=true/\Z3 g<=j*(3*hb h+3)) 4
      (by
        intro j m g s hj hm ⟨i1,i2,i3,i4⟩ hs
        obtain ⟨v,t,e,ht,k1,k2,k3⟩:=he n (by omega) s hs
        refine ⟨g++[v],t,?_,ht,by simp [i1],by rw [a8M,List.all_append,<- a8M,i2]; simp [k1],by rw [List.all_append,i3]; simp [k2],?_⟩
        ·unfold a07
         simp only [a0O,J9]
         rw [if_pos (decide_eq_true (by omega)),w1,e]
         simp only [Option.bind_some]
         rw [b8D _ (by simp; omega) _ (by omega),wn m (by omega)]
         rfl
        ·rw [b0d]
         simp only [Z3,Nat.add_mul]
         omega)
      (by
        intro g s
        unfold a07
        simp) m 0 (m+2) [] t3 (by omega) (by omega) ⟨rfl,rfl,rfl,by simp [Z3]⟩ ht3
     simp only [Option.bind_some,Int.toNat_natCast]
     rw [e4]
     simp only [Option.bind_some]
     rw [Nat.zero_add] at i1 i4
     have hmb:m*(3*hb h+3)<=2*(3*hb h+3):=Nat.mul_le_mul_right _ (by omega)
     rw [b2d fuel (n:Int) g (by omega) (by omega),if_pos ⟨by omega,by omega,i3⟩]
     simp only [Option.bind_some]
     simp only [show ((0:Int)==0)=true from rfl,cond_true,Option.bind_some,j9]
     refine ⟨b7M (n:Int) (g.foldl a2J []),s1,rfl,hs1,?_,?_⟩
     ·rw [d0z]
      have a1:(g.foldl a2J []).all (a2I (n:Int))=true:=List.all_eq_true.2 fun y hy=>by
       rcases a9M g [] hy with hy | hy
       ·simp at hy
       ·exact List.all_eq_true.1 i3 y hy
      have a2:a5h (g.foldl a2J [])=true:=by
       rw [a8M]
       rw [a8M] at i2
       exact List.all_eq_true.2 fun y hy=>by
        rcases a9M g [] hy with hy | hy
        ·simp at hy
        ·exact List.all_eq_true.1 i2 y hy
      rw [a2]
      simp only [c0u,b7M,Val.Int_,Val.Entries]
      rw [a1,b6e g [] rfl]
      simp only [Bool.and_true,Bool.and_eq_true]
      exact ⟨decide_eq_true (by omega),decide_eq_true (by omega)⟩
     ·have:=a8f g []
      simp only [b7M,K8,a2j,v7,k9]
      simp only [Z3] at this
      omega
   ·simp only [cond_true,Option.bind_some,j9]
    obtain ⟨y,t3,e3,ht3,y0,y1⟩:=Q1 hL ht (n:=3) (by omega) (by omega)
    obtain ⟨m,rfl,hm⟩:=b2e y0 y1
    rw [e3]
    simp only [Option.bind_some]
    obtain ⟨g,s1,e4,hs1,i1,i2,i3,i4,i5,i6⟩:=a8d (L:=L) (step:=a09 ((h:Int)+2) rv) (fun (g:List Key×List Val) (m:Int) (s:Semtypebase_Source)=>(g.1,g.2,m,s)) (fun (g:List Key×List Val) (s:Semtypebase_Source)=>(g.1,g.2,s)) (fun j g=>g.1.length=j/\g.2.length=j/\g.1.all a0b=true/\a1I g.2=true/\v7 g.2<=j*hb h/\k9 g.1<=j*8) 4
     (by
       intro j m g s hj hm ⟨i1,i2,i3,i4,i5,i6⟩ hs
       obtain ⟨k,t,e,ht,k1,k2⟩:=d0t hL hs
       obtain ⟨v,t2,e2,ht2,l1,l2⟩:=hv t ht
       refine ⟨(g.1++[k],g.2++[v]),t2,?_,ht2,by simp [i1],by simp [i2],by rw [List.all_append,i3]; simp [k1],by rw [b5T,i4]; simp [a1I,l1],?_,?_⟩
       ·unfold a09
        simp only [a0O,J9]
        rw [if_pos (decide_eq_true (by omega)),e,w1]
        simp only [Option.bind_some]
        rw [b8D _ (by simp; omega) _ (by omega),e2]
        simp only [Option.bind_some]
        rw [b8D _ (by simp; omega) _ (by omega),wn m (by omega)]
        rfl
       ·rw [a2S]
        simp only [v7,Nat.add_mul]
        omega
       ·rw [a5l]
        simp only [k9,Nat.add_mul]
        omega)
     (by
       intro g s
       unfold a09
       simp) m 0 (m+2) ([],[]) t3 (by omega) (by omega) ⟨rfl,rfl,rfl,rfl,by simp [v7],by simp [k9]⟩ ht3
    simp only [Int.toNat_natCast]
    rw [e4]
    simp only [Option.bind_some]
    rw [Nat.zero_add] at i1 i2 i5 i6
    have hmb:m*hb h<=2*hb h:=Nat.mul_le_mul_right _ (by omega)
    rw [c0B g.1 g.2 (by omega),if_pos ⟨by omega,i3⟩]
    simp only [Option.bind_some]
    cases hx:a4N (g.1.zip g.2) ([],[]) with
    | none =>
      simp only [show ((6:Int)==0)=false from rfl,cond_false,Option.bind_some,j9]
      obtain ⟨v,t2,e2,h2⟩:=lf _ hs1
      rw [e2]
      exact ⟨v,t2,rfl,h2⟩
    | some u =>
      simp only
      simp only [show ((0:Int)==0)=true from rfl,cond_true,Option.bind_some,j9]
      obtain ⟨m1,m2,m3,m4,m5,m6⟩:=b06 _ _ _ hx rfl rfl
      have hz:=b74 g.1 g.2
      simp only [v7,k9] at m6
      refine ⟨b2E u,s1,rfl,hs1,?_,?_⟩
      ·rw [d0y]
       have a1:u.2.all a0b=true:=List.all_eq_true.2 fun y hy=>by
        rcases m4 y hy with hy | ⟨x,hx,rfl⟩
        ·simp at hy
        ·exact List.all_eq_true.1 i3 _ (List.of_mem_zip hx).1
       have a2:a1I u.1=true:=by
        rw [a5n]
        rw [a5n] at i4
        exact List.all_eq_true.2 fun y hy=>by
         rcases m5 y hy with hy | ⟨x,hx,rfl⟩
         ·simp at hy
         ·exact List.all_eq_true.1 i4 _ (List.of_mem_zip hx).2
       rw [a2]
       simp only [c00,b2E,Val.Keys,Val.Kids]
       rw [a1,m1,m2]
       simp
      ·simp only [b2E,K8,a2j,Z3]
       omega
  ·simp only [cond_true,Option.bind_some,j9]
   have fin:∀ (tl v:Val),vOK tl=true->(tl.Kind=5\/tl.Kind=7)->Z9 tl<=24+hb h->c4C (hb h) v ->
    vOK (Val.mk 7 0 (⟨#[]⟩) [v,tl] [] [] [])=true/\Z9 (Val.mk 7 0 (⟨#[]⟩) [v,tl] [] [] [])+8<=hb (h+1):=by
    intro tl v ho hk hbt ⟨k1,k2⟩
    refine ⟨?_,?_⟩
    ·rw [c4c,k1,ho]
     rcases hk with hk | hk<;>simp [hk]
    ·rw [K8]
     simp only [a2j,v7,k9,Z3]
     omega
   have nilB:Z9 (Val.mk 5 0 (⟨#[]⟩) [] [] [] [])=8:=by rw [K8]; rfl
   unfold K6 a4s
   simp only [Option.bind_some]
   by_cases h2:1<=h
   ·have e5:decide (2<(h:Int)+2)=true:=by simp; omega
    obtain ⟨x,t2,e2,ht2,_,_⟩:=Q1 hL ht (n:=2) (by omega) (by omega)
    rw [e5,e2]
    simp only [Option.bind_some,cond_true]
    cases x==1
    ·simp only [Option.bind_some,cond_false]
     obtain ⟨l,t3,e3,ht3,l1,l2⟩:=b0k hL ht2
     rw [e3]
     simp only [Option.bind_some]
     obtain ⟨v,t5,e5,ht5,k5⟩:=hv t3 ht3
     rw [e5]
     exact ⟨_,t5,rfl,ht5,fin (a5S (Val.mk 5 0 (⟨#[]⟩) [] [] [] []) l) v (a8R b8m l1) (.inl rfl) (by have:=a5y (Val.mk 5 0 (⟨#[]⟩) [] [] [] []) l; omega) k5⟩
    ·simp only [Option.bind_some,cond_true]
     obtain ⟨v,t3,e3,ht3,k1,k2⟩:=hv2 h2 t2 ht2
     rw [e3]
     simp only [Option.bind_some]
     obtain ⟨l,t4,e4,ht4,l1,l2⟩:=b0k hL ht3
     have ho:vOK (Val.mk 7 0 (⟨#[]⟩) [v,Val.mk 5 0 (⟨#[]⟩) [] [] [] []] [] [] [])=true:=by rw [c4c,k1,b8m]; rfl
     have hbb:Z9 (Val.mk 7 0 (⟨#[]⟩) [v,Val.mk 5 0 (⟨#[]⟩) [] [] [] []] [] [] [])<=16+hb h:=by
      rw [K8]
      simp only [a2j,v7,k9,Z3,nilB]
      omega
     rw [e4]
     simp only [Option.bind_some]
     obtain ⟨v5,t5,e5,ht5,k5⟩:=hv t4 ht4
     rw [e5]
     exact ⟨_,t5,rfl,ht5,fin (a5S (Val.mk 7 0 (⟨#[]⟩) [v,Val.mk 5 0 (⟨#[]⟩) [] [] [] []] [] [] []) l) v5 (a8R ho l1) (.inr rfl) (by have:=a5y (Val.mk 7 0 (⟨#[]⟩) [v,Val.mk 5 0 (⟨#[]⟩) [] [] [] []] [] [] []) l; omega) k5⟩
   ·have e5:decide (2<(h:Int)+2)=false:=by simp; omega
    rw [e5]
    simp only [Option.bind_some,cond_false]
    obtain ⟨l,t3,e3,ht3,l1,l2⟩:=b0k hL ht
    rw [e3]
    simp only [Option.bind_some]
    obtain ⟨v,t5,e5,ht5,k5⟩:=hv t3 ht3
    rw [e5]
    exact ⟨_,t5,rfl,ht5,fin (a5S (Val.mk 5 0 (⟨#[]⟩) [] [] [] []) l) v (a8R b8m l1) (.inl rfl) (by have:=a5y (Val.mk 5 0 (⟨#[]⟩) [] [] [] []) l; omega) k5⟩
 ·simp only [cond_true,Option.bind_some,j9]
  obtain ⟨y,t3,e3,ht3,y0,y1⟩:=Q1 hL ht (n:=4) (by omega) (by omega)
  obtain ⟨m,rfl,hm⟩:=b2e y0 y1
  rw [e3]
  simp only [Option.bind_some]
  obtain ⟨g,s1,e4,hs1,i1,i2,i3⟩:=a8d (L:=L) (step:=a08 ((h:Int)+2) rv) (fun (g:List Val) (m:Int) (s:Semtypebase_Source)=>(g,m,s)) (fun (g:List Val) (s:Semtypebase_Source)=>(g,s)) (fun j g=>g.length=j/\a1I g=true/\v7 g<=j*hb h) 4
   (by
     intro j m g s hj hm ⟨i1,i2,i3⟩ hs
     obtain ⟨v,t,e,ht,k1,k2⟩:=hv s hs
     refine ⟨g++[v],t,?_,ht,by simp [i1],by rw [b5T,i2]; simp [a1I,k1],?_⟩
     ·unfold a08
      simp only [a0O,J9]
      rw [if_pos (decide_eq_true (by omega)),w1,e]
      simp only [Option.bind_some]
      rw [b8D _ (by simp; omega) _ (by omega),wn m (by omega)]
      rfl
     ·rw [a2S]
      simp only [v7,Nat.add_mul]
      omega)
   (by
     intro g s
     unfold a08
     simp) m 0 (m+2) [] t3 (by omega) (by omega) ⟨rfl,rfl,by simp [v7]⟩ ht3
  simp only [Int.toNat_natCast]
  rw [e4]
  simp only [Option.bind_some]
  rw [Nat.zero_add] at i1 i3
  have hmb:m*hb h<=3*hb h:=Nat.mul_le_mul_right _ (by omega)
  unfold a1X a0M
  rw [b8D _ (by simp; omega) _ (by omega)]
  refine ⟨Val.mk 6 0 (⟨#[]⟩) g [] [] [],s1,rfl,hs1,?_,?_⟩
  ·rw [c2z,i2]
   simp
   omega
  ·rw [K8]
   simp only [a2j,k9,Z3]
   omega
theorem d0B (hL:L.length<=4194304):∀ (h k:Nat),h<=3->50000+3*h<=k->∀ s,OS L s->∃ v t,(j6 k).1 s ((h:Int)+1)=some (v,t)/\OS L t/\c4C (hb h) v:=by
 intro h
 induction h using Nat.strongRecOn with
 | ind h ih =>
   intro k hh hk s hs
   obtain ⟨k,rfl⟩:∃ m,k=m+2:=⟨k-2,by omega⟩
   have key:∃ v t,(j6 (k+1)).2.1 s ((h:Int)+1)=some (v,t)/\OS L t/\vOK v=true/\Z9 v+8<=hb h:=by
    show ∃ v t,a0x k (j6 k).1 (j6 k).2.1 (j6 k).2.2 s ((h:Int)+1)=some (v,t)/\_
    cases h with
    | zero =>
      obtain ⟨v,t,e,ht,h1,h2⟩:=b3z hL hs
      refine ⟨v,t,?_,ht,h1,by simp only [hb]; omega⟩
      unfold a0x
      have e0:decide (((0:Nat):Int)+1<=1)=true:=rfl
      rw [e0,e]
      rfl
    | succ h =>
      have:=c77 hL (h:=h) (by omega) (rv:=(j6 k).1) (re:=(j6 k).2.2) (fun s hs=>ih h (by omega) k (by omega) (by omega) s hs)
       (fun h1 s hs=>by
         obtain ⟨h,rfl⟩:∃ m,h=m+1:=⟨h-1,by omega⟩
         obtain ⟨v,t,e,ht,k1,k2⟩:=ih h (by omega) k (by omega) (by omega) s hs
         exact ⟨v,t,e,ht,k1,by simp only [hb]; omega⟩)
       (fun n hn s hs=>by
         obtain ⟨p,rfl⟩:∃ m,k=m+1:=⟨k-1,by omega⟩
         have hb1:=c9Z (show h<=2 by omega)
         have hb2:=c8a h
         exact c7X hL (rv:=(j6 p).1) (b:=hb h) (fun s hs=>ih h (by omega) p (by omega) (by omega) s hs) (by omega) (by omega) (j6 p).2.1 (j6 p).2.2 p hn hs)
       (j6 k).2.1 (fuel:=k) (by omega) hs
      rw [show (((h+1:Nat):Int))+1=(h:Int)+2 by omega]
      exact this
   obtain ⟨v,t,e,ht,h1,h2⟩:=key
   obtain ⟨l,t2,e2,ht2,l1,l2⟩:=b0k hL ht
   show ∃ v t,a2z (k+1) (j6 (k+1)).1 (j6 (k+1)).2.1 (j6 (k+1)).2.2 s ((h:Int)+1)=some (v,t)/\_
   unfold a2z
   rw [e]
   simp only [Option.bind_some]
   rw [e2]
   have:=a5y v l
   exact ⟨a5S v l,t2,rfl,ht2,a8R h1 l1,by omega⟩
end
end Go.Pl
end
section
namespace Go.Pl
open Go Go.RowKit Go.Sx Go.Qx
def b3i {α:Type}(c:α->α->Int)(q:α->Bool)(l:List α)(i:Nat):Bool :=
 match l[i]? with
 | some x=>q x&&(match i with
   | 0=>true
   | j+1=>match l[j]? with
     | some y=>decide (c y x<0)
     | none=>true)
 | none=>true
theorem c5a {α:Type}(c:α->α->Int)(q:α->Bool)(l:List α):(List.range l.length).all (b3i c q l)=(asc c l&&l.all q):=by
 rw [Bool.eq_iff_iff,Bool.and_eq_true,b8I,List.all_eq_true,List.all_eq_true]
 constructor
 ·intro h
  refine ⟨fun i h1 hi=>?_,fun x hx=>?_⟩
  ·obtain ⟨j,rfl⟩:∃ m,i=m+1:=⟨i-1,by omega⟩
   have:=h (j+1) (by simpa using hi)
   unfold b3i at this
   rw [List.getElem?_eq_getElem hi] at this
   simp only [Bool.and_eq_true] at this
   have h2:=this.2
   rw [List.getElem?_eq_getElem (show j<l.length by omega)] at h2
   simpa using h2
  ·obtain ⟨i,hi,rfl⟩:=List.getElem_of_mem hx
   have:=h i (by simpa using hi)
   unfold b3i at this
   rw [List.getElem?_eq_getElem hi] at this
   simp only [Bool.and_eq_true] at this
   exact this.1
 ·intro ⟨h1,h2⟩ i hi
  have hi:i<l.length:=by simpa using hi
  unfold b3i
  rw [List.getElem?_eq_getElem hi]
  simp only [Bool.and_eq_true]
  refine ⟨h2 _ (List.getElem_mem hi),?_⟩
  cases i with
  | zero=>rfl
  | succ j =>
    simp only
    rw [List.getElem?_eq_getElem (show j<l.length by omega)]
    have:=h1 (j+1) (by omega) hi
    simpa using this
theorem b8g {α β:Type}{step:Int->Option (Fl Int (Sum Unit β))}(c:α->α->Int)(q:α->Bool)(l:List α)(b:β)
 (hst:∀ (i:Nat) (x:α),l[i]?=some x->step (i:Int)=some (if b3i c q l i=true then .next ((i+1:Nat):Int) else .done (.inr b)))
 (hend:step (l.length:Int)=some (.done (.inl ()))):y9 step (l.length+1) 0=some (if (asc c l&&l.all q)=true then .inl () else .inr b):=by
 have:=a1O (step:=step) (List.range l.length) (b3i c q l) (fun i=>(i:Int)) () b (fun i x hx=>by
  have hi:i<l.length:=by have:=(List.getElem?_eq_some_iff.1 hx).1; simpa using this
  have e:x=i:=by
   rw [List.getElem?_range hi] at hx
   cases hx; rfl
  subst e
  exact hst x _ (List.getElem?_eq_getElem hi)) (by rw [List.length_range]; exact hend)
 rw [List.length_range,c5a] at this
 exact this
theorem b4z {α:Type}(c:α->α->Int)(q:α->Bool)(l:List α)(i:Nat)(x:α)(hx:l[i]?=some x)(hl:l.length<=4194304){o:Option (Fl Int (Sum Unit Bool))}
 (h0:q x=false->o=some (.done (.inr false)))
 (h1:q x=true->i=0->o=some (.next (w64 ((i:Int)+1))))
 (h2:q x=true->∀ j y,i=j+1->l[j]?=some y->idx l (w64 ((i:Int)-1))=some y->o=some (if c y x<0 then .next (w64 ((i:Int)+1)) else .done (.inr false))) :
 o=some (if b3i c q l i=true then .next ((i+1:Nat):Int) else .done (.inr false)):=by
 have hi:i<l.length:=(List.getElem?_eq_some_iff.1 hx).1
 have hw:=Y3 i (by omega)
 unfold b3i
 rw [hx]
 cases hq:q x
 ·rw [h0 hq]; simp [hq]
 ·cases i with
  | zero=>rw [h1 hq rfl,hw]; simp [hq]
  | succ j =>
    have hy:=List.getElem?_eq_getElem (show j<l.length by omega)
    have hj:w64 (((j+1:Nat):Int)-1)=(j:Int):=by rw [W8 (by omega) (by omega)]; omega
    rw [h2 hq j _ rfl hy (by rw [hj]; exact Y5 hy),hw]
    simp only [hy]
    by_cases hc:c l[j] x<0<;>simp [hq,hc]
theorem c79 (a b:ByteArray):a1U a b=decide (cS a b<0):=by
 rcases a6V a b with ⟨h,_,e⟩ | ⟨h,_,e⟩ | ⟨h,_,e⟩<;>simp [h,e]
theorem c4V (i:Nat):decide (0<(((i+1:Nat)):Int))=true:=decide_eq_true (by omega)
theorem c5O (l:List Val):(bif ((l.length:Int)==2) then Option.bind (idx l 1) fun x=>Option.bind (bif (x.Kind==5) then some true else Option.bind (idx l 1) fun y=>some (y.Kind==7)) fun q=>some q else some false)=some (b67 l):=by
 unfold b67
 match l with
 | []=>rfl
 | [_]=>rfl
 | [x,t] =>
   have e2:((([x,t]:List Val).length:Int)==2)=true:=rfl
   rw [e2]
   have:idx [x,t] 1=some t:=rfl
   simp only [cond_true,this,Option.bind_some]
   cases t.Kind==5<;>rfl
 | _::_::_::r =>
   rename_i a b c
   have:((((a::b::c::r:List Val)).length:Int)==2)=false:=by simp; omega
   rw [this]; rfl
theorem c5A (fuel:Nat)(v:Val)(hf:2*Z9 v<=fuel+2)(hb:Z9 v<=4194304):a4x fuel v=some (a3g v):=by
 have he:=a5C v
 have hs:=a7s v.Labels
 have hk:=b0M v.Keys
 have hn:=a5K v.Entries
 have l1:y9 (a3q v) (v.Labels.length+1) 0=some (if (asc cS v.Labels&&v.Labels.all a49)=true then .inl () else .inr false):=by
  refine b8g cS a49 v.Labels false ?_ ?_
  ·intro i x hx
   have hi:i<v.Labels.length:=(List.getElem?_eq_some_iff.1 hx).1
   unfold a3q
   simp only [a0O,J9]
   rw [if_pos (by simp; omega),Y5 hx]
   simp only [Option.bind_some,c01]
   refine b4z cS a49 v.Labels i x hx (by omega) (fun h=>by rw [h]; rfl) (fun h h0=>by subst h0; rw [h]; rfl) (fun h j y hj hy hiy=>?_)
   subst hj
   rw [h,hiy,c4V]
   simp only [Bool.not_true,Bool.false_eq_true,if_false,if_true,Option.bind_some]
   rw [c79]
   by_cases hc:cS y x<0<;>simp [hc]
  ·unfold a3q
   simp
 have l2:y9 (a3s v) (v.Keys.length+1) 0=some (if (asc cK v.Keys&&v.Keys.all a0b)=true then .inl () else .inr false):=by
  refine b8g cK a0b v.Keys false ?_ ?_
  ·intro i x hx
   have hi:i<v.Keys.length:=(List.getElem?_eq_some_iff.1 hx).1
   unfold a3s
   simp only [a0O,J9]
   rw [if_pos (by simp; omega),Y5 hx]
   simp only [Option.bind_some,b55]
   refine b4z cK a0b v.Keys i x hx (by omega) (fun h=>by rw [h]; rfl) (fun h h0=>by subst h0; rw [h]; rfl) (fun h j y hj hy hiy=>?_)
   subst hj
   rw [h,hiy,c4V]
   simp only [Bool.not_true,Bool.false_eq_true,if_false,if_true,Option.bind_some,a8Q]
   by_cases hc:cK y x<0
   ·have:¬ 0<=cK y x:=by omega
    simp [hc,this]
   ·have:0<=cK y x:=by omega
    simp [hc,this]
  ·unfold a3s
   simp
 have l3:y9 (a3n v fuel) (v.Entries.length+1) 0=some (if (asc cE v.Entries&&v.Entries.all (a2I v.Int_))=true then .inl () else .inr false):=by
  refine b8g cE (a2I v.Int_) v.Entries false ?_ ?_
  ·intro i x hx
   have hi:i<v.Entries.length:=(List.getElem?_eq_some_iff.1 hx).1
   have hm:=a2f (List.mem_of_getElem? hx)
   have hbe:=a3b x
   unfold a3n a2C
   simp only [a0O,J9]
   rw [if_pos (by simp; omega),Y5 hx]
   simp only [Option.bind_some]
   rw [show Val.mk 0 0 (⟨#[]⟩:ByteArray) ([]:List Val) ([]:List Key) ([]:List Ent) ([]:List ByteArray)=a5T from rfl,(a4h fuel).1 x.Result a5T (by omega) (by omega)]
   simp only [Option.bind_some]
   have hq:(Option.bind (if ((x.Args.length:Int) != v.Int_)=true then some true else Option.bind (if x.Fails=true then some (!(cV x.Result a5T==0)) else some false) fun q=>some q) fun q=>some q)=some (!(a2I v.Int_ x)):=by
    unfold a2I
    have e0:((x.Args.length:Int) != v.Int_)=!((x.Args.length:Int)==v.Int_):=rfl
    rw [e0]
    cases ((x.Args.length:Int)==v.Int_)<;>cases x.Fails<;>cases (cV x.Result a5T==0)<;>rfl
   rw [a5e] at hq
   simp only [a5e] at hq ⊢
   rw [hq]
   simp only [Option.bind_some]
   refine b4z cE (a2I v.Int_) v.Entries i x hx (by omega) (fun h=>by rw [h]; rfl) (fun h h0=>by subst h0; rw [h]; rfl) (fun h j y hj hy hiy=>?_)
   subst hj
   have hmy:=a2f (List.mem_of_getElem? hy)
   have hc:Z7 fuel y x=some (cE y x):=(a4h fuel).2.2 y x (by omega) (by omega)
   rw [h,hiy,c4V]
   simp only [Bool.not_true,Bool.false_eq_true,if_false,if_true,Option.bind_some,hc]
   by_cases hc:cE y x<0
   ·have:¬ 0<=cE y x:=by omega
    simp [hc,this]
   ·have:0<=cE y x:=by omega
    simp [hc,this]
  ·unfold a3n
   simp
 unfold a4x
 simp only [X7,a5e]
 rw [l1,l2,l3,b2H]
 have hcons:=c5O v.Kids
 simp only [a5e] at hcons
 rw [hcons]
 simp only [Option.bind_some,c2D]
 unfold a3g a1r
 cases hlab:(asc cS v.Labels&&v.Labels.all a49)
 ·rfl
 have h6:decide ((v.Kids.length:Int)<=4)=decide (v.Kids.length<=4):=by
  by_cases h:v.Kids.length<=4
  ·simp [h]; omega
  ·simp [h]; omega
 have hm:c00 v=(decide (v.Keys.length=v.Kids.length)&&(asc cK v.Keys&&v.Keys.all a0b)):=by
  unfold c00
  by_cases h:v.Keys.length=v.Kids.length<;>simp [h]
 have hm2:((v.Keys.length:Int)==(v.Kids.length:Int))=decide (v.Keys.length=v.Kids.length):=by
  by_cases h:v.Keys.length=v.Kids.length
  ·simp [h]
  ·simp [h]; omega
 have hfu:c0u v=(!decide (v.Int_<0)&&!decide (4<v.Int_)&&(asc cE v.Entries&&v.Entries.all (a2I v.Int_))):=by
  unfold c0u
  by_cases h1:v.Int_<0<;>by_cases h2:4<v.Int_
  ·omega
  ·have:¬ 0<=v.Int_:=by omega
   simp [h1,this]
  ·have:¬ v.Int_<=4:=by omega
   simp [h2,this]
  ·have a:0<=v.Int_:=by omega
   have b:v.Int_<=4:=by omega
   simp [h1,h2,a,b]
 have hi:(v.Int_ != 0)=!(v.Int_==0):=rfl
 rw [hm2,hi,h6]
 simp only [j9,if_true]
 unfold a3i a5q
 rw [hm,hfu]
 generalize (asc cE v.Entries&&v.Entries.all (a2I v.Int_))=f
 generalize (asc cK v.Keys&&v.Keys.all a0b)=k
 generalize decide (v.Keys.length=v.Kids.length)=m
 generalize decide (v.Int_<0)=p
 generalize decide (4<v.Int_)=r
 generalize J5 v.Text ⟨#[]⟩=t
 generalize v.Keys.isEmpty=y
 generalize v.Entries.isEmpty=e
 generalize v.Kids.isEmpty=d
 generalize (v.Int_==0)=i
 generalize a3M v.Text=a
 generalize decide ((v.Text.size:Int)<=64)=z
 generalize b67 v.Kids=c
 generalize decide (0<=v.Int_)=g
 generalize decide (v.Kids.length<=4)=n
 by_cases hk:v.Kind=1\/v.Kind=2\/v.Kind=3\/v.Kind=4\/v.Kind=5\/v.Kind=6\/v.Kind=7\/v.Kind=8\/v.Kind=9
 ·rcases hk with h | h | h | h | h | h | h | h | h<;>rw [h]<;>cases i<;>cases t<;>cases d<;>cases y<;>cases e<;>simp
  all_goals first
   | rfl
   | (cases k<;>cases m<;>simp)
   | (cases p<;>cases r<;>cases f<;>simp)
 ·simp only [not_or] at hk
  obtain ⟨h1,h2,h3,h4,h5,h6',h7,h8,h9⟩:=hk
  have e1:(v.Kind==1)=false:=by simpa using h1
  have e2:(v.Kind==2)=false:=by simpa using h2
  have e3:(v.Kind==3)=false:=by simpa using h3
  have e4:(v.Kind==4)=false:=by simpa using h4
  have e5:(v.Kind==5)=false:=by simpa using h5
  have e6:(v.Kind==6)=false:=by simpa using h6'
  have e7:(v.Kind==7)=false:=by simpa using h7
  have e8:(v.Kind==8)=false:=by simpa using h8
  have e9:(v.Kind==9)=false:=by simpa using h9
  simp only [bne,e1,e2,e3,e4,e5,e6,e7,e8,e9,if_neg h1,if_neg h2,if_neg h3,if_neg h4,if_neg h5,if_neg h6',if_neg h7,if_neg h8,if_neg h9]
  cases i<;>cases t<;>cases d<;>cases y<;>cases e<;>rfl
theorem b76:∀ (k:Nat) (v:Val),2*Z9 v<=k->Z9 v<=4194304->W5 k v=some (vOK v)
 | 0,v,h,_=>by have:=b7o v; omega
 | k+1,v,h,hb=>by
   have he:=a5C v
   have hv:=b0f v.Kids
   have hn:=a5K v.Entries
   have hrec:∀ x,Z9 x<Z9 v->W5 k x=some (vOK x):=fun x hx=>b76 k x (by omega) (by omega)
   show a4Z k (W5 k) v=_
   unfold a4Z
   rw [c5A k v (by omega) hb,d0V,a5n,a8M]
   simp only [Option.bind_some,X7]
   have l1:y9 (a2K v (W5 k)) (v.Kids.length+1) 0=some (if v.Kids.all vOK=true then .inl () else .inr false):=by
    refine a1O v.Kids vOK (fun i=>(i:Int)) () false ?_ ?_
    ·intro i x hx
     have hi:i<v.Kids.length:=(List.getElem?_eq_some_iff.1 hx).1
     have hm:=a4t (List.mem_of_getElem? hx)
     unfold a2K
     simp only [J9]
     rw [show decide ((i:Int)<(v.Kids.length:Int))=true by simp; omega,Y5 hx]
     simp only [cond_true,Option.bind_some]
     rw [hrec x (by omega),Y3 i (by omega)]
     exact b4m _ _
    ·unfold a2K
     simp
   have l2:y9 (a2L v (W5 k)) (v.Entries.length+1) 0=some (if v.Entries.all eOK=true then .inl () else .inr false):=by
    refine a1O v.Entries eOK (fun i=>(i:Int)) () false ?_ ?_
    ·intro i x hx
     have hi:i<v.Entries.length:=(List.getElem?_eq_some_iff.1 hx).1
     have hm:=a2f (List.mem_of_getElem? hx)
     have hbe:=a3b x
     have hal:=b0f x.Args
     unfold a2L
     simp only [J9,X7]
     rw [show decide ((i:Int)<(v.Entries.length:Int))=true by simp; omega,Y5 hx]
     simp only [cond_true,Option.bind_some]
     have l3:y9 (a2R (W5 k) x) (x.Args.length+1) 0=some (if x.Args.all vOK=true then .inl () else .inr false):=by
      refine a1O x.Args vOK (fun i=>(i:Int)) () false ?_ ?_
      ·intro j y hy
       have hj:j<x.Args.length:=(List.getElem?_eq_some_iff.1 hy).1
       have hmy:=a4t (List.mem_of_getElem? hy)
       unfold a2R
       simp only [J9]
       rw [show decide ((j:Int)<(x.Args.length:Int))=true by simp; omega,Y5 hy]
       simp only [cond_true,Option.bind_some]
       rw [hrec y (by omega),Y3 j (by omega)]
       exact b4m _ _
      ·unfold a2R
       simp
     rw [l3,hrec x.Result (by omega),c4T,a5n,Y3 i (by omega)]
     simp only [Option.bind_some]
     cases x.Args.all vOK<;>cases x.Fails<;>cases vOK x.Result<;>rfl
    ·unfold a2L
     simp
   rw [l1,l2]
   cases a3g v<;>cases v.Kids.all vOK<;>cases v.Entries.all eOK<;>rfl
end Go.Pl
end

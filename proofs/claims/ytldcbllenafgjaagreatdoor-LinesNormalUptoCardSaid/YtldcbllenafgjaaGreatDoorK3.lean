/- Part 3. -/
import Derived.Test.YtldcbllenafgjaaGreatDoorK2
import Derived.KernelRfl
import Derived.Lib.Bytealg
section
namespace Go.Qx
open Go Go.RowKit Go.Sx
set_option maxRecDepth 100000
structure Api_Field where
 Key_:Key
 Node:Int
 Optional:Bool
structure Api_TypeNode where
 Kind:Int
 Lo:Int
 Hi:Int
 Text:ByteArray
 Kids:List Int
 Fields:List Api_Field
 Rest:Int×Int
structure Api_Type where
 Nodes:List Api_TypeNode
 Root:Int
structure Api_Goal where
 Pos:List Int
 Neg:List Int
 Lists:Bool
structure Semtypebase_Source where
 L:List Int
 At:Int
structure Api_Names where
 Cofinite:Bool
 List_:List ByteArray
structure Api_Range where
 Lo:Int
 Hi:Int
structure Api_Line where
 Kind:Int
 Arity:Int
 Ints:List Api_Range
 Names:Api_Names
 Pos:List Int
 Neg:List Int
 Vars:List ByteArray
 NotVars:List ByteArray
structure Core_Sort where
 Kind:Int
 Arity:Int
structure Core_pair where
 pos:List Int
 neg:List Int
 finalPos:List Int
 finalNeg:List Int
structure Value_used where
 number:Bool
 text_:Bool
 kids:Bool
 keys:Bool
 entries:Bool
structure Literals_normal where
 Names:Api_Names
def b5F (x y:Int×Int):Bool:=((x.1==y.1)&&((x.2==y.2)&&true))
def a5Q (x y:Key):Bool:=((x.Kind==y.Kind)&&((Y0 x.Text y.Text)&&true))
def a2O (l:List (List Int))(x1:Int):Option (Fl Int (Sum Unit Bool)) :=
 bif decide (x1<(l.length:Int))
 then (Option.bind (idx l x1) fun e2 =>
 bif decide (80<(e2.length:Int))
 then (some (.done (.inr false)))
 else (some (.next (wr .i64 (x1+1)))))
 else (some (.done (.inl ())))
def a5C (l:List (List Int)):Option Bool :=
 Option.bind (iter (a2O l) ((l.length:Int).toNat+1) 0) fun b3 =>
 onEnd (fun _ =>
 some true) (fun y5 =>
 some y5) b3
def a5f (d:Api_TypeNode):Option Bool :=
 Option.bind (bif d.Kind==3
 then (some (true,false,false,false))
 else (Option.bind (bif d.Kind==4
 then (some (d.Kind==4))
 else (bif d.Kind==6
 then (some (d.Kind==6))
 else (some (d.Kind==19)))) fun b1 =>
 bif b1
 then (some (false,true,false,false))
 else (Option.bind (bif d.Kind==10
 then (some (d.Kind==10))
 else (bif d.Kind==12
 then (some (d.Kind==12))
 else (bif d.Kind==14
 then (some (d.Kind==14))
 else (bif d.Kind==16
 then (some (d.Kind==16))
 else (bif d.Kind==17
 then (some (d.Kind==17))
 else (some (d.Kind==18))))))) fun b2 =>
 bif b2
 then (some (false,false,true,false))
 else (bif d.Kind==13
 then (some (false,false,false,true))
 else (some (false,false,false,false)))))) fun b3 =>
 Option.bind (bif b3.1
 then (some true)
 else (Option.bind (bif d.Lo==0
 then (some (d.Hi==0))
 else (some false)) fun q4 =>
 some q4)) fun q5 =>
 Option.bind (bif q5
 then (Option.bind (bif b3.2.1
 then (some true)
 else (some (Y0 d.Text (⟨#[]⟩:ByteArray)))) fun q6 =>
 some q6)
 else (some false)) fun q7 =>
 Option.bind (bif q7
 then (Option.bind (bif b3.2.2.1
 then (some true)
 else (some ((d.Kids.length:Int)==0))) fun q8 =>
 some q8)
 else (some false)) fun q9 =>
 Option.bind (bif q9
 then (Option.bind (bif b3.2.2.2
 then (some true)
 else (Option.bind (bif (d.Fields.length:Int)==0
 then (some (b5F d.Rest (0,0)))
 else (some false)) fun q10 =>
 some q10)) fun q11 =>
 some q11)
 else (some false)) fun q12 =>
 some q12
def a9F (s:ByteArray)(other:Int->Option Bool)(x5:Int):Option (Fl Int (Sum Unit Bool)) :=
 bif decide (x5<(s.size:Int))
 then (Option.bind (a6i s x5) fun e6 =>
 Option.bind (other (e6.toNat:Int)) fun r7 =>
 bif !r7
 then (some (.done (.inr false)))
 else (some (.next (wr .i64 (x5+1)))))
 else (some (.done (.inl ())))
def a7o (s:ByteArray)(first:Int->Option Bool)(other:Int->Option Bool):Option Bool :=
 Option.bind (bif decide ((s.size:Int)<1)
 then (some true)
 else (some (decide (16<(s.size:Int))))) fun q1 =>
 Option.bind (bif q1
 then (some true)
 else (Option.bind (a6i s 0) fun e2 =>
 Option.bind (first (e2.toNat:Int)) fun r3 =>
 some (!r3))) fun q4 =>
 bif q4
 then (some false)
 else (Option.bind (iter (a9F s other) ((s.size:Int).toNat+1) 1) fun b8 =>
 onEnd (fun _ =>
 some true) (fun y10 =>
 some y10) b8)
def a5b (c:Int):Option Bool :=
 Option.bind (bif decide (97<=c)
 then (some (decide (c<=122)))
 else (some false)) fun q1 =>
 some q1
def a6A (c:Int):Option Bool :=
 Option.bind (bif decide (48<=c)
 then (some (decide (c<=57)))
 else (some false)) fun q1 =>
 some q1
def b0a (c:Int):Option Bool :=
 Option.bind (a5b c) fun r1 =>
 Option.bind (bif r1
 then (some true)
 else (Option.bind (a6A c) fun r2 =>
 some r2)) fun q3 =>
 Option.bind (bif q3
 then (some true)
 else (some (c==95))) fun q4 =>
 some q4
def a5E (s:ByteArray):Option Bool :=
 Option.bind (a7o s (fun z1 =>
 Option.bind (a5b z1) fun r2 =>
 some r2) (fun z3 =>
 Option.bind (b0a z3) fun r4 =>
 some r4)) fun r5 =>
 some r5
def a6B (c:Int):Option Bool :=
 Option.bind (bif decide (65<=c)
 then (some (decide (c<=90)))
 else (some false)) fun q1 =>
 some q1
def a7d (c:Int):Option Bool :=
 Option.bind (a5b c) fun r1 =>
 Option.bind (bif r1
 then (some true)
 else (Option.bind (a6B c) fun r2 =>
 some r2)) fun q3 =>
 Option.bind (bif q3
 then (some true)
 else (Option.bind (a6A c) fun r4 =>
 some r4)) fun q5 =>
 Option.bind (bif q5
 then (some true)
 else (some (c==95))) fun q6 =>
 some q6
def a3p (s:ByteArray):Option Bool :=
 Option.bind (a7o s (fun z1 =>
 Option.bind (a6B z1) fun r2 =>
 some r2) (fun z3 =>
 Option.bind (a7d z3) fun r4 =>
 some r4)) fun r5 =>
 some r5
def a4v (k:Key):Option Bool :=
 bif k.Kind==0
 then (Option.bind (a5E k.Text) fun r1 =>
 some r1)
 else (bif k.Kind==1
 then (some (decide ((k.Text.size:Int)<=64)))
 else (some false))
def a8r (x:Int):Option Bool :=
 some (x != x)
def a0F (x:Int)(y:Int):Option Int :=
 Option.bind (a8r x) fun r1 =>
 Option.bind (a8r y) fun r2 =>
 bif r1
 then (bif r2
 then (some 0)
 else (some (-1)))
 else (bif r2
 then (some 1)
 else (bif decide (x<y)
 then (some (-1))
 else (bif decide (y<x)
 then (some 1)
 else (some 0))))
def a2F (a:ByteArray)(b:ByteArray):Option Int :=
 Option.bind (c55 a b) fun r1 =>
 some r1
def a0i (a:ByteArray)(b:ByteArray):Option Int :=
 Option.bind (a2F a b) fun r1 =>
 some r1
def X8 (a:Key)(b:Key):Option Int :=
 Option.bind (a0F a.Kind b.Kind) fun r1 =>
 bif r1 != 0
 then (some r1)
 else (Option.bind (a0i a.Text b.Text) fun r2 =>
 some r2)
def a3e (l:List Api_Field)(x1:Int):Option (Fl Int (Sum Unit Bool)) :=
 bif decide (x1<(l.length:Int))
 then (Option.bind (idx l x1) fun e2 =>
 Option.bind (a4v e2.Key_) fun r3 =>
 Option.bind (bif !r3
 then (some true)
 else (Option.bind (bif decide (0<x1)
 then (Option.bind (idx l (wr .i64 (x1-1))) fun e4 =>
 Option.bind (X8 e4.Key_ e2.Key_) fun r5 =>
 some (decide (0<=r5)))
 else (some false)) fun q6 =>
 some q6)) fun q7 =>
 bif q7
 then (some (.done (.inr false)))
 else (some (.next (wr .i64 (x1+1)))))
 else (some (.done (.inl ())))
def a4i (l:List Api_Field):Option Bool :=
 Option.bind (iter (a3e l) ((l.length:Int).toNat+1) 0) fun b8 =>
 onEnd (fun _ =>
 some true) (fun y10 =>
 some y10) b8
def a5m (d:Api_TypeNode):Option Bool :=
 Option.bind (bif d.Kind==1
 then (some (d.Kind==1))
 else (bif d.Kind==2
 then (some (d.Kind==2))
 else (bif d.Kind==5
 then (some (d.Kind==5))
 else (bif d.Kind==7
 then (some (d.Kind==7))
 else (bif d.Kind==8
 then (some (d.Kind==8))
 else (bif d.Kind==9
 then (some (d.Kind==9))
 else (bif d.Kind==11
 then (some (d.Kind==11))
 else (some (d.Kind==15))))))))) fun b1 =>
 bif b1
 then (some true)
 else (bif d.Kind==3
 then (some (decide (d.Lo<=d.Hi)))
 else (bif d.Kind==4
 then (some (decide ((d.Text.size:Int)<=64)))
 else (bif d.Kind==6
 then (Option.bind (a5E d.Text) fun r2 =>
 some r2)
 else (bif d.Kind==19
 then (Option.bind (a3p d.Text) fun r3 =>
 some r3)
 else (bif d.Kind==10
 then (some (decide ((d.Kids.length:Int)<=4)))
 else (bif d.Kind==12
 then (some ((d.Kids.length:Int)==2))
 else (bif d.Kind==13
 then (Option.bind (a4i d.Fields) fun r4 =>
 some r4)
 else (bif d.Kind==14
 then (Option.bind (bif decide (1<=(d.Kids.length:Int))
 then (some (decide ((d.Kids.length:Int)<=5)))
 else (some false)) fun q5 =>
 some q5)
 else (Option.bind (bif d.Kind==16
 then (some (d.Kind==16))
 else (some (d.Kind==17))) fun b6 =>
 bif b6
 then (some (decide (1<=(d.Kids.length:Int))))
 else (bif d.Kind==18
 then (some ((d.Kids.length:Int)==1))
 else (some false)))))))))))
def a2Z (n_0:Api_TypeNode)(x2:(List Int)×Int):Option (Fl ((List Int)×Int) (List Int)) :=
 bif decide (x2.2<(n_0.Fields.length:Int))
 then (Option.bind (idx n_0.Fields x2.2) fun e3 =>
 Option.bind (Z4 (x2.1.length+([e3.Node]:List Int).length) 8) fun _ =>
 some (.next (x2.1++([e3.Node]:List Int),wr .i64 (x2.2+1))))
 else (some (.done x2.1))
def a7J (n_0:Api_TypeNode):Option (List Int) :=
 Option.bind (a0n 8 n_0.Kids) fun r1 =>
 Option.bind (iter (a2Z n_0) ((n_0.Fields.length:Int).toNat+1) (r1,0)) fun b5 =>
 bif n_0.Kind==13
 then (Option.bind (Z4 (b5.length+([n_0.Rest.1,n_0.Rest.2]:List Int).length) 8) fun _ =>
 some (b5++([n_0.Rest.1,n_0.Rest.2]:List Int)))
 else (some b5)
def a5p (kind:Int):Option Bool :=
 Option.bind (bif kind==16
 then (some true)
 else (some (kind==17))) fun q1 =>
 Option.bind (bif q1
 then (some true)
 else (some (kind==18))) fun q2 =>
 some q2
def Y9 (a2_2:Api_Type)(e10:Api_TypeNode)(rec_typeexpr_contractive_1:Int->(List Int)->Api_Type->Unit->Option (Bool×(List Int)))(x11:Int×(List Int)):Option (Fl (Int×(List Int)) (Sum (List Int) (Bool×(List Int)))) :=
 bif decide (x11.1<(e10.Kids.length:Int))
 then (Option.bind (idx e10.Kids x11.1) fun e12 =>
 Option.bind (rec_typeexpr_contractive_1 e12 x11.2 a2_2 ()) fun r13 =>
 bif !r13.1
 then (some (.done (.inr (false,r13.2))))
 else (some (.next (wr .i64 (x11.1+1),r13.2))))
 else (some (.done (.inl x11.2)))
def a4I (_:Nat)(rec_typeexpr_contractive_1:Int->(List Int)->Api_Type->Unit->Option (Bool×(List Int)))(i:Int)(a1_1:List Int)(a2_2:Api_Type)(_:Unit):Option (Bool×(List Int)) :=
 Option.bind (idx a1_1 i) fun _ =>
 Option.bind (a1_1[i.toNat]?) fun e2 =>
 Option.bind (bif e2 != 0
 then (some true)
 else (Option.bind (idx a2_2.Nodes i) fun e3 =>
 Option.bind (a5p e3.Kind) fun r4 =>
 some (!r4))) fun q5 =>
 bif q5
 then (Option.bind (idx a1_1 i) fun _ =>
 Option.bind (a1_1[i.toNat]?) fun e7 =>
 some (e7 != 1,a1_1))
 else (Option.bind (idx a1_1 i) fun _ =>
 Option.bind (a1_1[i.toNat]?) fun _ =>
 Option.bind (idx a2_2.Nodes i) fun e10 =>
 Option.bind (iter (Y9 a2_2 e10 rec_typeexpr_contractive_1) ((e10.Kids.length:Int).toNat+1) (0,a1_1.set i.toNat 1)) fun (b14:Sum (List Int) (Bool×(List Int))) =>
 onEnd (fun x15 =>
 Option.bind (idx x15 i) fun _ =>
 Option.bind (x15[i.toNat]?) fun _ =>
 some (true,x15.set i.toNat 2)) (fun y16 =>
 some (y16.1,y16.2)) b14)
def Q7:Nat->Int->(List Int)->Api_Type->Unit->Option (Bool×(List Int))
 | 0=>fun _ _ _ _=>none
 | n+1=>a4I n (Q7 n)
def J0 (t:Api_Type)(n:Nat)(x2:Int×(List Int)):Option (Fl (Int×(List Int)) (Sum (List Int) (Bool×(List Int)))) :=
 bif decide (x2.1<(t.Nodes.length:Int))
 then (Option.bind (Q7 n x2.1 x2.2 t ()) fun r3 =>
 bif !r3.1
 then (some (.done (.inr (false,r3.2))))
 else (some (.next (wr .i64 (x2.1+1),r3.2))))
 else (some (.done (.inl x2.2)))
def a4m (n:Nat)(t:Api_Type):Option Bool :=
 Option.bind (c1q (t.Nodes.length:Int) (t.Nodes.length:Int) 8) fun m1 =>
 Option.bind (iter (J0 t n) ((t.Nodes.length:Int).toNat+1) (0,List.replicate m1 (0:Int))) fun (b4:Sum (List Int) (Bool×(List Int))) =>
 onEnd (fun _ =>
 some true) (fun y6 =>
 some y6.1) b4
def a3x (t:Api_Type)(r7:List Int)(x8:Int):Option (Fl Int (Sum Unit Int)) :=
 bif decide (x8<(r7.length:Int))
 then (Option.bind (idx r7 x8) fun e9 =>
 Option.bind (bif decide (e9<0)
 then (some true)
 else (some (decide ((t.Nodes.length:Int)<=e9)))) fun q10 =>
 bif q10
 then (some (.done (.inr 1)))
 else (some (.next (wr .i64 (x8+1)))))
 else (some (.done (.inl ())))
def a3G (t:Api_Type)(x2:Int):Option (Fl Int (Sum Unit Int)) :=
 bif decide (x2<(t.Nodes.length:Int))
 then (Option.bind (idx t.Nodes x2) fun e3 =>
 Option.bind (a5f e3) fun r4 =>
 Option.bind (bif !r4
 then (some true)
 else (Option.bind (a5m e3) fun r5 =>
 some (!r5))) fun q6 =>
 bif q6
 then (some (.done (.inr 1)))
 else (Option.bind (a7J e3) fun r7 =>
 Option.bind (iter (a3x t r7) ((r7.length:Int).toNat+1) 0) fun b11 =>
 onEnd (fun _ =>
 some (.next (wr .i64 (x2+1)))) (fun y13 =>
 some (.done (.inr y13))) b11))
 else (some (.done (.inl ())))
def a09 (n:Nat)(t:Api_Type):Option Int :=
 Option.bind (bif decide (t.Root<0)
 then (some true)
 else (some (decide ((t.Nodes.length:Int)<=t.Root)))) fun q1 =>
 bif q1
 then (some 1)
 else (Option.bind (iter (a3G t) ((t.Nodes.length:Int).toNat+1) 0) fun b14 =>
 onEnd (fun _ =>
 Option.bind (a4m n t) fun r17 =>
 bif !r17
 then (some 3)
 else (some 0)) (fun y16 =>
 some y16) b14)
def a57 (t:Api_Type)(g:Api_Goal)(r1:List Int)(x3:Int):Option (Fl Int (Sum Unit Bool)) :=
 bif decide (x3<((r1++g.Neg).length:Int))
 then (Option.bind (idx (r1++g.Neg) x3) fun e4 =>
 Option.bind (bif decide (e4<0)
 then (some true)
 else (some (decide ((t.Nodes.length:Int)<=e4)))) fun q5 =>
 bif q5
 then (some (.done (.inr false)))
 else (some (.next (wr .i64 (x3+1)))))
 else (some (.done (.inl ())))
def a71 (t:Api_Type)(g:Api_Goal):Option Bool :=
 Option.bind (a0n 8 g.Pos) fun r1 =>
 Option.bind (Z4 (r1.length+g.Neg.length) 8) fun _ =>
 Option.bind (iter (a57 t g r1) (((r1++g.Neg).length:Int).toNat+1) 0) fun b6 =>
 onEnd (fun _ =>
 some true) (fun y8 =>
 some y8) b6
def a0l (x1:(List Int)×Int)(x16:(Int×Int)×List Int):Option (Fl ((Int×Int)×List Int) (Int×List Int)) :=
 bif decide (x16.1.2<((x16.2.drop x1.2.toNat).length:Int))
 then (Option.bind (idx (x16.2.drop x1.2.toNat) x16.1.2) fun _ =>
 Option.bind (x16.2[(x1.2.toNat+x16.1.2.toNat)]?) fun e18 =>
 Option.bind (idx (x16.2.drop x1.2.toNat) (wr .i64 (x16.1.2-1))) fun _ =>
 Option.bind (x16.2[(x1.2.toNat+(wr .i64 (x16.1.2-1)).toNat)]?) fun e20 =>
 bif e18 != e20
 then (Option.bind (idx (x16.2.drop x1.2.toNat) x16.1.2) fun _ =>
 Option.bind (x16.2[(x1.2.toNat+x16.1.2.toNat)]?) fun e22 =>
 Option.bind (idx x16.2 x16.1.1) fun _ =>
 Option.bind (x16.2[x16.1.1.toNat]?) fun _ =>
 some (.next ((wr .i64 (x16.1.1+1),wr .i64 (x16.1.2+1)),x16.2.set x16.1.1.toNat e22)))
 else (some (.next ((x16.1.1,wr .i64 (x16.1.2+1)),x16.2))))
 else (some (.done (x16.1.1,x16.2)))
def a1i (x1:(List Int)×Int):Option (Fl ((List Int)×Int) (Sum (List Int) (List Int))) :=
 bif decide (x1.2<(x1.1.length:Int))
 then (Option.bind (idx x1.1 x1.2) fun _ =>
 Option.bind (x1.1[x1.2.toNat]?) fun e3 =>
 Option.bind (idx x1.1 (wr .i64 (x1.2-1))) fun _ =>
 Option.bind (x1.1[(wr .i64 (x1.2-1)).toNat]?) fun e5 =>
 bif e3==e5
 then (Option.bind (idx x1.1 x1.2) fun _ =>
 Option.bind (iter (a0l x1) (((x1.1.drop x1.2.toNat).length:Int).toNat+1) ((x1.2,1),x1.1)) fun b25 =>
 Option.bind (idx b25.2 b25.1) fun _ =>
 bif Nat.blt b25.1.toNat b25.2.length
 then (Option.bind (cut (b25.2.take b25.1.toNat++List.replicate (b25.2.length-b25.1.toNat) (0:Int)) 0 b25.1) fun y27 =>
 some (.done (.inr y27)))
 else (none))
 else (some (.next (x1.1,wr .i64 (x1.2+1)))))
 else (some (.done (.inl x1.1)))
def a3y (s:List Int):Option (List Int) :=
 bif decide ((s.length:Int)<2)
 then (some s)
 else (Option.bind (iter a1i ((s.length:Int).toNat+1) (s,1)) fun b28 =>
 onEnd (fun x29 =>
 some x29) (fun y30 =>
 some y30) b28)
def a6Q (s:List Int):Option (List Int) :=
 bif (s.length:Int)==(s.length:Int)&&(s.length:Int)==(s.length:Int)
 then (some s)
 else (none)
def a5q (l:List Int):Option (List Int) :=
 Option.bind (a0n 8 l) fun r1 =>
 Option.bind (c20 r1) fun r2 =>
 Option.bind (a3y r2.2) fun r3 =>
 Option.bind (a6Q r3) fun r4 =>
 some r4
def a5j (p:Core_pair):Option ((List Int)×(List Int)×(List Int)×(List Int)) :=
 Option.bind (a0n 8 p.pos) fun r1 =>
 Option.bind (a0n 8 p.neg) fun r2 =>
 Option.bind (a0n 8 p.finalPos) fun r3 =>
 Option.bind (a0n 8 p.finalNeg) fun r4 =>
 some (r1,r2,r3,r4)
def a1I (p:Core_pair)(kids:List Int)(positive:Bool)(x1:(List Core_pair)×Int):Option (Fl ((List Core_pair)×Int) (List Core_pair)) :=
 bif decide (x1.2<(kids.length:Int))
 then (Option.bind (idx kids x1.2) fun e2 =>
 Option.bind (a5j p) fun r3 =>
 Option.bind (bif positive
 then (Option.bind (Z4 (r3.1.length+([e2]:List Int).length) 8) fun _ =>
 some (r3.1++([e2]:List Int),r3.2.1,r3.2.2.1,r3.2.2.2))
 else (Option.bind (Z4 (r3.2.1.length+([e2]:List Int).length) 8) fun _ =>
 some (r3.1,r3.2.1++([e2]:List Int),r3.2.2.1,r3.2.2.2))) fun b6 =>
 Option.bind (Z4 (x1.1.length+([Core_pair.mk b6.1 b6.2.1 b6.2.2.1 b6.2.2.2]:List Core_pair).length) 96) fun _ =>
 some (.next (x1.1++([Core_pair.mk b6.1 b6.2.1 b6.2.2.1 b6.2.2.2]:List Core_pair),wr .i64 (x1.2+1))))
 else (some (.done x1.1))
def a1W (p:Core_pair)(kids:List Int)(positive:Bool):Option (List Core_pair) :=
 Option.bind (iter (a1I p kids positive) ((kids.length:Int).toNat+1) ([],0)) fun b8 =>
 some b8
def a38 (d:(List Int)×(List Int)×(List Int)×(List Int))(t:Api_Type):Option (List Core_pair) :=
 bif decide (0<=(wr .i64 ((d.1.length:Int)-1)))
 then (Option.bind (idx d.1 (wr .i64 ((d.1.length:Int)-1))) fun _ =>
 Option.bind (d.1[(wr .i64 ((d.1.length:Int)-1)).toNat]?) fun e2 =>
 Option.bind (idx t.Nodes e2) fun e3 =>
 Option.bind (cut d.1 0 (wr .i64 ((d.1.length:Int)-1))) fun y4 =>
 Option.bind (bif e3.Kind==2
 then (some (.inl (y4,d.2.1,d.2.2.1,d.2.2.2)))
 else (bif e3.Kind==1
 then (some (.inr ([],(y4,d.2.1,d.2.2.1,d.2.2.2))))
 else (bif e3.Kind==17
 then (Option.bind (Z4 (y4.length+e3.Kids.length) 8) fun _ =>
 some (.inl (y4++e3.Kids,d.2.1,d.2.2.1,d.2.2.2)))
 else (bif e3.Kind==18
 then (Option.bind (idx e3.Kids 0) fun e6 =>
 Option.bind (Z4 (d.2.1.length+([e6]:List Int).length) 8) fun _ =>
 some (.inl (y4,d.2.1++([e6]:List Int),d.2.2.1,d.2.2.2)))
 else (bif e3.Kind==16
 then (Option.bind (a1W (Core_pair.mk y4 d.2.1 d.2.2.1 d.2.2.2) e3.Kids true) fun r8 =>
 some (.inr (r8,(y4,d.2.1,d.2.2.1,d.2.2.2))))
 else (Option.bind (Z4 (d.2.2.1.length+([e2]:List Int).length) 8) fun _ =>
 some (.inl (y4,d.2.1,d.2.2.1++([e2]:List Int),d.2.2.2)))))))) fun b10 =>
 onEnd (fun x11 =>
 some ([Core_pair.mk x11.1 x11.2.1 x11.2.2.1 x11.2.2.2]:List Core_pair)) (fun y12 =>
 some y12.1) b10)
 else (Option.bind (idx d.2.1 (wr .i64 ((d.2.1.length:Int)-1))) fun _ =>
 Option.bind (d.2.1[(wr .i64 ((d.2.1.length:Int)-1)).toNat]?) fun e14 =>
 Option.bind (idx t.Nodes e14) fun e15 =>
 Option.bind (cut d.2.1 0 (wr .i64 ((d.2.1.length:Int)-1))) fun y16 =>
 Option.bind (bif e15.Kind==1
 then (some (.inl (d.1,y16,d.2.2.1,d.2.2.2)))
 else (bif e15.Kind==2
 then (some (.inr ([],(d.1,y16,d.2.2.1,d.2.2.2))))
 else (bif e15.Kind==16
 then (Option.bind (Z4 (y16.length+e15.Kids.length) 8) fun _ =>
 some (.inl (d.1,y16++e15.Kids,d.2.2.1,d.2.2.2)))
 else (bif e15.Kind==18
 then (Option.bind (idx e15.Kids 0) fun e18 =>
 Option.bind (Z4 (d.1.length+([e18]:List Int).length) 8) fun _ =>
 some (.inl (d.1++([e18]:List Int),y16,d.2.2.1,d.2.2.2)))
 else (bif e15.Kind==17
 then (Option.bind (a1W (Core_pair.mk d.1 y16 d.2.2.1 d.2.2.2) e15.Kids false) fun r20 =>
 some (.inr (r20,(d.1,y16,d.2.2.1,d.2.2.2))))
 else (Option.bind (Z4 (d.2.2.2.length+([e14]:List Int).length) 8) fun _ =>
 some (.inl (d.1,y16,d.2.2.1,d.2.2.2++([e14]:List Int))))))))) fun b22 =>
 onEnd (fun x23 =>
 some ([Core_pair.mk x23.1 x23.2.1 x23.2.2.1 x23.2.2.2]:List Core_pair)) (fun y24 =>
 some y24.1) b22)
def a6L (g:Api_Goal):Option Api_Goal :=
 Option.bind (a5q g.Pos) fun r1 =>
 Option.bind (a5q g.Neg) fun r2 =>
 some (Api_Goal.mk r1 r2 g.Lists)
def b2u (g:Api_Goal):Option ByteArray:=Option.bind (a6L g) fun g=>Option.bind (a7n 43 g.Pos (bif g.Lists then [108] else [])) fun b=>Option.bind (a7n 45 g.Neg b) fun b=>some ⟨b.toArray⟩
def X1 (d:Api_Type)(t:Api_Goal)(x3:(List Core_pair)×(List (ByteArray×Bool))×(List Api_Goal)):Option (Fl ((List Core_pair)×(List (ByteArray×Bool))×(List Api_Goal)) ((List (ByteArray×Bool))×(List Api_Goal))) :=
 bif decide (0<(x3.1.length:Int))
 then (Option.bind (idx x3.1 (wr .i64 ((x3.1.length:Int)-1))) fun _ =>
 Option.bind (x3.1[(wr .i64 ((x3.1.length:Int)-1)).toNat]?) fun e5 =>
 Option.bind (a5j e5) fun r6 =>
 Option.bind (cut x3.1 0 (wr .i64 ((x3.1.length:Int)-1))) fun y7 =>
 bif decide (0<(wr .i64 ((r6.1.length:Int)+(r6.2.1.length:Int))))
 then (Option.bind (a38 (r6.1,r6.2.1,r6.2.2.1,r6.2.2.2) d) fun r8 =>
 Option.bind (Z4 (y7.length+r8.length) 96) fun _ =>
 some (.next (y7++r8,x3.2.1,x3.2.2)))
 else (Option.bind (a6L (Api_Goal.mk r6.2.2.1 r6.2.2.2 t.Lists)) fun r10 =>
 Option.bind (b2u r10) fun r11 =>
 bif !((a4N x3.2.1 r11).getD false)
 then (Option.bind (Z4 (x3.2.2.length+([r10]:List Api_Goal).length) 56) fun _ =>
 some (.next (y7,a7Y x3.2.1 r11 true,x3.2.2++([r10]:List Api_Goal))))
 else (some (.next (y7,x3.2.1,x3.2.2)))))
 else (some (.done (x3.2.1,x3.2.2)))
def a6V (n:Nat)(d:Api_Type)(t:Api_Goal):Option (List Api_Goal) :=
 Option.bind (a5q t.Pos) fun r1 =>
 Option.bind (a5q t.Neg) fun r2 =>
 Option.bind (iter (X1 d t) n (([Core_pair.mk r1 r2 ([]:List Int) ([]:List Int)]:List Core_pair),([]:List (ByteArray×Bool)),[])) fun b13 =>
 some b13.2
def V5 (x1:(List ByteArray)×Int)(x16:(Int×Int)×List ByteArray):Option (Fl ((Int×Int)×List ByteArray) (Int×List ByteArray)) :=
 bif decide (x16.1.2<((x16.2.drop x1.2.toNat).length:Int))
 then (Option.bind (idx (x16.2.drop x1.2.toNat) x16.1.2) fun _ =>
 Option.bind (x16.2[(x1.2.toNat+x16.1.2.toNat)]?) fun e18 =>
 Option.bind (idx (x16.2.drop x1.2.toNat) (wr .i64 (x16.1.2-1))) fun _ =>
 Option.bind (x16.2[(x1.2.toNat+(wr .i64 (x16.1.2-1)).toNat)]?) fun e20 =>
 bif !(Y0 e18 e20)
 then (Option.bind (idx (x16.2.drop x1.2.toNat) x16.1.2) fun _ =>
 Option.bind (x16.2[(x1.2.toNat+x16.1.2.toNat)]?) fun e22 =>
 Option.bind (idx x16.2 x16.1.1) fun _ =>
 Option.bind (x16.2[x16.1.1.toNat]?) fun _ =>
 some (.next ((wr .i64 (x16.1.1+1),wr .i64 (x16.1.2+1)),x16.2.set x16.1.1.toNat e22)))
 else (some (.next ((x16.1.1,wr .i64 (x16.1.2+1)),x16.2))))
 else (some (.done (x16.1.1,x16.2)))
def a0a (x1:(List ByteArray)×Int):Option (Fl ((List ByteArray)×Int) (Sum (List ByteArray) (List ByteArray))) :=
 bif decide (x1.2<(x1.1.length:Int))
 then (Option.bind (idx x1.1 x1.2) fun _ =>
 Option.bind (x1.1[x1.2.toNat]?) fun e3 =>
 Option.bind (idx x1.1 (wr .i64 (x1.2-1))) fun _ =>
 Option.bind (x1.1[(wr .i64 (x1.2-1)).toNat]?) fun e5 =>
 bif Y0 e3 e5
 then (Option.bind (idx x1.1 x1.2) fun _ =>
 Option.bind (iter (V5 x1) (((x1.1.drop x1.2.toNat).length:Int).toNat+1) ((x1.2,1),x1.1)) fun b25 =>
 Option.bind (idx b25.2 b25.1) fun _ =>
 bif Nat.blt b25.1.toNat b25.2.length
 then (Option.bind (cut (b25.2.take b25.1.toNat++List.replicate (b25.2.length-b25.1.toNat) ((⟨#[]⟩:ByteArray):ByteArray)) 0 b25.1) fun y27 =>
 some (.done (.inr y27)))
 else (none))
 else (some (.next (x1.1,wr .i64 (x1.2+1)))))
 else (some (.done (.inl x1.1)))
def K9 (s:List ByteArray):Option (List ByteArray) :=
 bif decide ((s.length:Int)<2)
 then (some s)
 else (Option.bind (iter a0a ((s.length:Int).toNat+1) (s,1)) fun b28 =>
 onEnd (fun x29 =>
 some x29) (fun y30 =>
 some y30) b28)
def a1g (s:List ByteArray):Option (List ByteArray) :=
 bif (s.length:Int)==(s.length:Int)&&(s.length:Int)==(s.length:Int)
 then (some s)
 else (none)
def a5a (t:Api_Type)(nodes:List Int)(x1:(List ByteArray)×Int):Option (Fl ((List ByteArray)×Int) (List ByteArray)) :=
 bif decide (x1.2<(nodes.length:Int))
 then (Option.bind (idx nodes x1.2) fun e2 =>
 Option.bind (idx t.Nodes e2) fun e3 =>
 bif e3.Kind==19
 then (Option.bind (idx t.Nodes e2) fun e4 =>
 Option.bind (Z4 (x1.1.length+([e4.Text]:List ByteArray).length) 16) fun _ =>
 some (.next (x1.1++([e4.Text]:List ByteArray),wr .i64 (x1.2+1))))
 else (some (.next (x1.1,wr .i64 (x1.2+1)))))
 else (some (.done x1.1))
def a9w (t:Api_Type)(nodes:List Int):Option (List ByteArray) :=
 Option.bind (iter (a5a t nodes) ((nodes.length:Int).toNat+1) ([],0)) fun b6 =>
 Option.bind (b2z b6) fun r7 =>
 Option.bind (K9 r7.2) fun r8 =>
 Option.bind (a1g r8) fun r9 =>
 some r9
def a1Z (s:List Int)(f:Int->Option Bool)(x1:Int):Option (Fl Int (Sum Unit Int)) :=
 bif decide (x1<(s.length:Int))
 then (Option.bind (idx s x1) fun e2 =>
 Option.bind (f e2) fun r3 =>
 bif r3
 then (some (.done (.inr x1)))
 else (some (.next (wr .i64 (x1+1)))))
 else (some (.done (.inl ())))
def a4L (s:List Int)(f:Int->Option Bool):Option Int :=
 Option.bind (iter (a1Z s f) ((s.length:Int).toNat+1) 0) fun b4 =>
 onEnd (fun _ =>
 some (-1)) (fun y6 =>
 some y6) b4
def Z5 (s:List Int)(f:Int->Option Bool):Option Bool :=
 Option.bind (a4L s f) fun r1 =>
 some (decide (0<=r1))
def a3d (s:List Int)(v:Int)(x1:Int):Option (Fl Int (Sum Unit Int)) :=
 bif decide (x1<(s.length:Int))
 then (Option.bind (idx s x1) fun e2 =>
 bif v==e2
 then (some (.done (.inr x1)))
 else (some (.next (wr .i64 (x1+1)))))
 else (some (.done (.inl ())))
def a6x (s:List Int)(v:Int):Option Int :=
 Option.bind (iter (a3d s v) ((s.length:Int).toNat+1) 0) fun b3 =>
 onEnd (fun _ =>
 some (-1)) (fun y5 =>
 some y5) b3
def a3c (s:List Int)(v:Int):Option Bool :=
 Option.bind (a6x s v) fun r1 =>
 some (decide (0<=r1))
def a9E (x:Int)(a1_1:List Int):Option Bool :=
 Option.bind (a3c a1_1 x) fun r1 =>
 some r1
def a8s (a:List Int)(b:List Int):Option Bool :=
 Option.bind (Z5 a (fun z1 =>
 Option.bind (a9E z1 b) fun r2 =>
 some r2)) fun r3 =>
 some r3
def a0E (s:List ByteArray)(f:ByteArray->Option Bool)(x1:Int):Option (Fl Int (Sum Unit Int)) :=
 bif decide (x1<(s.length:Int))
 then (Option.bind (idx s x1) fun e2 =>
 Option.bind (f e2) fun r3 =>
 bif r3
 then (some (.done (.inr x1)))
 else (some (.next (wr .i64 (x1+1)))))
 else (some (.done (.inl ())))
def a2Q (s:List ByteArray)(f:ByteArray->Option Bool):Option Int :=
 Option.bind (iter (a0E s f) ((s.length:Int).toNat+1) 0) fun b4 =>
 onEnd (fun _ =>
 some (-1)) (fun y6 =>
 some y6) b4
def a0H (s:List ByteArray)(f:ByteArray->Option Bool):Option Bool :=
 Option.bind (a2Q s f) fun r1 =>
 some (decide (0<=r1))
def a1q (s:List ByteArray)(v:ByteArray)(x1:Int):Option (Fl Int (Sum Unit Int)) :=
 bif decide (x1<(s.length:Int))
 then (Option.bind (idx s x1) fun e2 =>
 bif Y0 v e2
 then (some (.done (.inr x1)))
 else (some (.next (wr .i64 (x1+1)))))
 else (some (.done (.inl ())))
def a30 (s:List ByteArray)(v:ByteArray):Option Int :=
 Option.bind (iter (a1q s v) ((s.length:Int).toNat+1) 0) fun b3 =>
 onEnd (fun _ =>
 some (-1)) (fun y5 =>
 some y5) b3
def a0p (s:List ByteArray)(v:ByteArray):Option Bool :=
 Option.bind (a30 s v) fun r1 =>
 some (decide (0<=r1))
def a7r (x:ByteArray)(a1_1:List ByteArray):Option Bool :=
 Option.bind (a0p a1_1 x) fun r1 =>
 some r1
def a6c (a:List ByteArray)(b:List ByteArray):Option Bool :=
 Option.bind (a0H a (fun z1 =>
 Option.bind (a7r z1 b) fun r2 =>
 some r2)) fun r3 =>
 some r3
def c31 (x1:(List Core_Sort)×Int):Option (Fl ((List Core_Sort)×Int) (List Core_Sort)) :=
 bif decide (x1.2<=4)
 then (Option.bind (Z4 (x1.1.length+([Core_Sort.mk 6 x1.2,Core_Sort.mk 9 x1.2]:List Core_Sort).length) 16) fun _ =>
 some (.next (x1.1++([Core_Sort.mk 6 x1.2,Core_Sort.mk 9 x1.2]:List Core_Sort),wr .i64 (x1.2+1))))
 else (some (.done x1.1))
def b6J:Option (List Core_Sort) :=
 Option.bind (iter c31 ((4:Int).toNat+2) (([Core_Sort.mk 1 0,Core_Sort.mk 2 0,Core_Sort.mk 3 0,Core_Sort.mk 4 0,Core_Sort.mk 5 0,Core_Sort.mk 7 0,Core_Sort.mk 8 0]:List Core_Sort),0)) fun b3 =>
 some b3
def a52 (d:Core_Sort)(t:Api_TypeNode):Option Bool :=
 bif t.Kind==3
 then (some (d.Kind==1))
 else (Option.bind (bif t.Kind==4
 then (some (t.Kind==4))
 else (some (t.Kind==5))) fun b1 =>
 bif b1
 then (some (d.Kind==2))
 else (Option.bind (bif t.Kind==6
 then (some (t.Kind==6))
 else (some (t.Kind==7))) fun b2 =>
 bif b2
 then (some (d.Kind==3))
 else (bif t.Kind==8
 then (some (d.Kind==4))
 else (bif t.Kind==9
 then (some (d.Kind==5))
 else (bif t.Kind==12
 then (some (d.Kind==7))
 else (bif t.Kind==13
 then (some (d.Kind==8))
 else (bif t.Kind==11
 then (some (d.Kind==6))
 else (bif t.Kind==10
 then (Option.bind (bif d.Kind==6
 then (some (d.Arity==(t.Kids.length:Int)))
 else (some false)) fun q3 =>
 some q3)
 else (bif t.Kind==15
 then (some (d.Kind==9))
 else (bif t.Kind==14
 then (Option.bind (bif d.Kind==9
 then (some (d.Arity==(wr .i64 ((t.Kids.length:Int)-1))))
 else (some false)) fun q4 =>
 some q4)
 else (some false)))))))))))
def a4O (i:Int)(a1_1:Api_Type)(a2_2:Core_Sort):Option Bool :=
 Option.bind (idx a1_1.Nodes i) fun e1 =>
 Option.bind (bif e1.Kind != 19
 then (Option.bind (idx a1_1.Nodes i) fun e2 =>
 Option.bind (a52 a2_2 e2) fun r3 =>
 some (!r3))
 else (some false)) fun q4 =>
 some q4
def a7E (s:Core_Sort)(t:Api_Type)(e:Api_Goal):Option Bool :=
 Option.bind (bif e.Lists
 then (some (s.Kind != 5))
 else (some false)) fun q1 =>
 Option.bind (bif q1
 then (some (s.Kind != 7))
 else (some false)) fun q2 =>
 bif q2
 then (some false)
 else (Option.bind (Z5 e.Pos (fun z3 =>
 Option.bind (a4O z3 t s) fun r4 =>
 some r4)) fun r5 =>
 some (!r5))
def b1f:Option (List Api_Range) :=
 some ([Api_Range.mk (-9223372036854775808) 9223372036854775807]:List Api_Range)
def a5d (x:Int):Option Bool :=
 some (x != x)
def a1S (x:Int)(y:Int):Option Int :=
 Option.bind (a5d x) fun r1 =>
 Option.bind (a5d y) fun r2 =>
 bif r1
 then (bif r2
 then (some 0)
 else (some (-1)))
 else (bif r2
 then (some 1)
 else (bif decide (x<y)
 then (some (-1))
 else (bif decide (y<x)
 then (some 1)
 else (some 0))))
def a2U (a:Api_Range)(b:Api_Range):Option Int :=
 Option.bind (a1S a.Lo b.Lo) fun r1 =>
 some r1
noncomputable def a1n (d:List Api_Range)(x1:(List Api_Range)×Int):Option (Fl ((List Api_Range)×Int) (List Api_Range)) :=
 bif decide (x1.2<(d.length:Int))
 then (Option.bind (idx d x1.2) fun e2 =>
 bif decide (e2.Lo<=e2.Hi)
 then (Option.bind (Z4 (x1.1.length+([e2]:List Api_Range).length) 16) fun _ =>
 some (.next (x1.1++([e2]:List Api_Range),wr .i64 (x1.2+1))))
 else (some (.next (x1.1,wr .i64 (x1.2+1)))))
 else (some (.done x1.1))
noncomputable def a0z (r8:Unit×List Api_Range)(x9:(List Api_Range)×(List Api_Range)×Int):Option (Fl ((List Api_Range)×(List Api_Range)×Int) ((List Api_Range)×(List Api_Range))) :=
 bif decide (x9.2.2<(r8.2.length:Int))
 then (Option.bind (idx x9.2.1 x9.2.2) fun _ =>
 Option.bind (x9.2.1[x9.2.2.toNat]?) fun e11 =>
 Option.bind (bif decide (0<=(wr .i64 ((x9.1.length:Int)-1)))
 then (Option.bind (idx x9.1 (wr .i64 ((x9.1.length:Int)-1))) fun _ =>
 Option.bind (x9.1[(wr .i64 ((x9.1.length:Int)-1)).toNat]?) fun e13 =>
 Option.bind (bif e13.Hi==9223372036854775807
 then (some true)
 else (Option.bind (idx x9.1 (wr .i64 ((x9.1.length:Int)-1))) fun _ =>
 Option.bind (x9.1[(wr .i64 ((x9.1.length:Int)-1)).toNat]?) fun e15 =>
 some (decide (e11.Lo<=(wr .i64 (e15.Hi+1)))))) fun q16 =>
 some q16)
 else (some false)) fun q17 =>
 bif q17
 then (Option.bind (idx x9.1 (wr .i64 ((x9.1.length:Int)-1))) fun _ =>
 Option.bind (x9.1[(wr .i64 ((x9.1.length:Int)-1)).toNat]?) fun e19 =>
 Option.bind (idx x9.1 (wr .i64 ((x9.1.length:Int)-1))) fun _ =>
 Option.bind (x9.1[(wr .i64 ((x9.1.length:Int)-1)).toNat]?) fun e21 =>
 some (.next (x9.1.set ((wr .i64 ((x9.1.length:Int)-1)).toNat) (Api_Range.mk e21.Lo (max e19.Hi e11.Hi)),x9.2.1,wr .i64 (x9.2.2+1))))
 else (Option.bind (Z4 (x9.1.length+([e11]:List Api_Range).length) 16) fun _ =>
 some (.next (x9.1++([e11]:List Api_Range),x9.2.1,wr .i64 (x9.2.2+1)))))
 else (some (.done (x9.1,x9.2.1)))
noncomputable def a0K (d:List Api_Range):Option (List Api_Range) :=
 Option.bind (iter (a1n d) ((d.length:Int).toNat+1) ([],0)) fun b4 =>
 Option.bind (b6v b4 (fun z5 z6 =>
 Option.bind (a2U z5 z6) fun r7 =>
 some r7)) fun r8 =>
 Option.bind (iter (a0z r8) ((r8.2.length:Int).toNat+1) ([],r8.2,0)) fun b23 =>
 some b23.1
noncomputable def a0B (e3:Api_Range)(r4:List Api_Range)(x5:(List Api_Range)×Int):Option (Fl ((List Api_Range)×Int) (List Api_Range)) :=
 bif decide (x5.2<(r4.length:Int))
 then (Option.bind (idx r4 x5.2) fun e6 =>
 Option.bind (Z4 (x5.1.length+([Api_Range.mk (max e3.Lo e6.Lo) (min e3.Hi e6.Hi)]:List Api_Range).length) 16) fun _ =>
 some (.next (x5.1++([Api_Range.mk (max e3.Lo e6.Lo) (min e3.Hi e6.Hi)]:List Api_Range),wr .i64 (x5.2+1))))
 else (some (.done x5.1))
noncomputable def a1p (b:List Api_Range)(r1:List Api_Range)(x2:(List Api_Range)×Int):Option (Fl ((List Api_Range)×Int) (List Api_Range)) :=
 bif decide (x2.2<(r1.length:Int))
 then (Option.bind (idx r1 x2.2) fun e3 =>
 Option.bind (a0K b) fun r4 =>
 Option.bind (iter (a0B e3 r4) ((r4.length:Int).toNat+1) (x2.1,0)) fun b8 =>
 some (.next (b8,wr .i64 (x2.2+1))))
 else (some (.done x2.1))
noncomputable def a3J (a:List Api_Range)(b:List Api_Range):Option (List Api_Range) :=
 Option.bind (a0K a) fun r1 =>
 Option.bind (iter (a1p b r1) ((r1.length:Int).toNat+1) ([],0)) fun b9 =>
 Option.bind (a0K b9) fun r10 =>
 some r10
noncomputable def a2e (r1:List Api_Range)(x2:(List Api_Range)×Int×Int):Option (Fl ((List Api_Range)×Int×Int) (Sum ((List Api_Range)×Int) (List Api_Range))) :=
 bif decide (x2.2.2<(r1.length:Int))
 then (Option.bind (idx r1 x2.2.2) fun e3 =>
 Option.bind (bif decide (x2.2.1<e3.Lo)
 then (Option.bind (Z4 (x2.1.length+([Api_Range.mk x2.2.1 (wr .i64 (e3.Lo-1))]:List Api_Range).length) 16) fun _ =>
 some (x2.1++([Api_Range.mk x2.2.1 (wr .i64 (e3.Lo-1))]:List Api_Range)))
 else (some x2.1)) fun b5 =>
 bif e3.Hi==9223372036854775807
 then (some (.done (.inr b5)))
 else (some (.next (b5,wr .i64 (e3.Hi+1),wr .i64 (x2.2.2+1)))))
 else (some (.done (.inl (x2.1,x2.2.1))))
noncomputable def a4U (a:List Api_Range):Option (List Api_Range) :=
 Option.bind (a0K a) fun r1 =>
 Option.bind (iter (a2e r1) ((r1.length:Int).toNat+1) ([],(-9223372036854775808),0)) fun b6 =>
 onEnd (fun x7 =>
 Option.bind (Z4 (x7.1.length+([Api_Range.mk x7.2 9223372036854775807]:List Api_Range).length) 16) fun _ =>
 some (x7.1++([Api_Range.mk x7.2 9223372036854775807]:List Api_Range))) (fun y8 =>
 some y8) b6
noncomputable def a6G (t:Api_Type)(e:Api_Goal)(x2:(List Api_Range)×Int):Option (Fl ((List Api_Range)×Int) (List Api_Range)) :=
 bif decide (x2.2<(e.Pos.length:Int))
 then (Option.bind (idx e.Pos x2.2) fun e3 =>
 Option.bind (idx t.Nodes e3) fun e4 =>
 bif e4.Kind==3
 then (Option.bind (a3J x2.1 ([Api_Range.mk e4.Lo e4.Hi]:List Api_Range)) fun r5 =>
 some (.next (r5,wr .i64 (x2.2+1))))
 else (some (.next (x2.1,wr .i64 (x2.2+1)))))
 else (some (.done x2.1))
noncomputable def a6H (t:Api_Type)(e:Api_Goal)(x7:(List Api_Range)×Int):Option (Fl ((List Api_Range)×Int) (List Api_Range)) :=
 bif decide (x7.2<(e.Neg.length:Int))
 then (Option.bind (idx e.Neg x7.2) fun e8 =>
 Option.bind (idx t.Nodes e8) fun e9 =>
 bif e9.Kind==3
 then (Option.bind (a4U ([Api_Range.mk e9.Lo e9.Hi]:List Api_Range)) fun r10 =>
 Option.bind (a3J x7.1 r10) fun r11 =>
 some (.next (r11,wr .i64 (x7.2+1))))
 else (some (.next (x7.1,wr .i64 (x7.2+1)))))
 else (some (.done x7.1))
noncomputable def b2d (t:Api_Type)(e:Api_Goal):Option (List Api_Range) :=
 Option.bind (b1f) fun r1 =>
 Option.bind (iter (a6G t e) ((e.Pos.length:Int).toNat+1) (r1,0)) fun b6 =>
 Option.bind (iter (a6H t e) ((e.Neg.length:Int).toNat+1) (b6,0)) fun b12 =>
 some b12
def a1s (s:Api_Names):Option Literals_normal :=
 Option.bind (a0n 16 s.List_) fun r1 =>
 Option.bind (b2z r1) fun r2 =>
 Option.bind (K9 r2.2) fun r3 =>
 Option.bind (a1g r3) fun r4 =>
 some (Literals_normal.mk (Api_Names.mk s.Cofinite r4))
def a2W (l:List ByteArray):Option Api_Names :=
 Option.bind (a1s (Api_Names.mk true l)) fun r1 =>
 some r1.Names
def a2E (l:List ByteArray):Option Api_Names :=
 Option.bind (a1s (Api_Names.mk false l)) fun r1 =>
 some r1.Names
def a4e (n_0:Literals_normal)(other:Literals_normal):Option (List ByteArray) :=
 Option.bind (a0n 16 n_0.Names.List_) fun r1 =>
 Option.bind (Z4 (r1.length+other.Names.List_.length) 16) fun _ =>
 some (r1++other.Names.List_)
def a6n (x:ByteArray):Option Bool :=
 some (!(Y0 x x))
def a60 (x:ByteArray)(y:ByteArray):Option Bool :=
 Option.bind (a6n x) fun r1 =>
 Option.bind (bif r1
 then (Option.bind (a6n y) fun r2 =>
 some (!r2))
 else (some false)) fun q3 =>
 Option.bind (bif q3
 then (some true)
 else (some (a2g x y))) fun q4 =>
 some q4
def a4R (x:ByteArray):Option Bool :=
 some (!(Y0 x x))
def Q5 (x:List ByteArray)(target:ByteArray)(x1:Int×Int):Option (Fl (Int×Int) Int) :=
 bif decide (x1.1<x1.2)
 then (Option.bind (c0H .u64 (wr .u64 (wr .i64 (x1.1+x1.2))) 1) fun d2 =>
 Option.bind (idx x (wr .i64 d2)) fun e3 =>
 Option.bind (a60 e3 target) fun r4 =>
 bif r4
 then (some (.next (wr .i64 ((wr .i64 d2)+1),x1.2)))
 else (some (.next (x1.1,wr .i64 d2))))
 else (some (.done x1.1))
def a0G (n:Nat)(x:List ByteArray)(target:ByteArray):Option (Int×Bool) :=
 Option.bind (iter (Q5 x target) n (0,(x.length:Int))) fun b5 =>
 Option.bind (bif decide (b5<(x.length:Int))
 then (Option.bind (idx x b5) fun e6 =>
 Option.bind (bif Y0 e6 target
 then (some true)
 else (Option.bind (idx x b5) fun e7 =>
 Option.bind (a4R e7) fun r8 =>
 Option.bind (bif r8
 then (Option.bind (a4R target) fun r9 =>
 some r9)
 else (some false)) fun q10 =>
 some q10)) fun q11 =>
 some q11)
 else (some false)) fun q12 =>
 some (b5,q12)
def a3l (n:Nat)(n_0:Literals_normal)(name:ByteArray):Option Bool :=
 Option.bind (a0G n n_0.Names.List_ name) fun r1 =>
 some r1.2
def a2R (n_0:Literals_normal)(other:Literals_normal)(n:Nat)(x1:(List ByteArray)×Int):Option (Fl ((List ByteArray)×Int) (List ByteArray)) :=
 bif decide (x1.2<(n_0.Names.List_.length:Int))
 then (Option.bind (idx n_0.Names.List_ x1.2) fun e2 =>
 Option.bind (a3l n other e2) fun r3 =>
 bif !r3
 then (Option.bind (Z4 (x1.1.length+([e2]:List ByteArray).length) 16) fun _ =>
 some (.next (x1.1++([e2]:List ByteArray),wr .i64 (x1.2+1))))
 else (some (.next (x1.1,wr .i64 (x1.2+1)))))
 else (some (.done x1.1))
def a2w (n:Nat)(n_0:Literals_normal)(other:Literals_normal):Option (List ByteArray) :=
 Option.bind (iter (a2R n_0 other n) ((n_0.Names.List_.length:Int).toNat+1) ([],0)) fun b5 =>
 some b5
def a2o (r1:Literals_normal)(r2:Literals_normal)(n:Nat)(x10:(List ByteArray)×Int):Option (Fl ((List ByteArray)×Int) (List ByteArray)) :=
 bif decide (x10.2<(r1.Names.List_.length:Int))
 then (Option.bind (idx r1.Names.List_ x10.2) fun e11 =>
 Option.bind (a3l n r2 e11) fun r12 =>
 bif r12
 then (Option.bind (Z4 (x10.1.length+([e11]:List ByteArray).length) 16) fun _ =>
 some (.next (x10.1++([e11]:List ByteArray),wr .i64 (x10.2+1))))
 else (some (.next (x10.1,wr .i64 (x10.2+1)))))
 else (some (.done x10.1))
def a3M (n:Nat)(a:Api_Names)(b:Api_Names):Option Api_Names :=
 Option.bind (a1s a) fun r1 =>
 Option.bind (a1s b) fun r2 =>
 Option.bind (bif r1.Names.Cofinite
 then (some r2.Names.Cofinite)
 else (some false)) fun q3 =>
 bif q3
 then (Option.bind (a4e r1 r2) fun r4 =>
 Option.bind (a2W r4) fun r5 =>
 some r5)
 else (bif r1.Names.Cofinite
 then (Option.bind (a2w n r2 r1) fun r6 =>
 Option.bind (a2E r6) fun r7 =>
 some r7)
 else (bif r2.Names.Cofinite
 then (Option.bind (a2w n r1 r2) fun r8 =>
 Option.bind (a2E r8) fun r9 =>
 some r9)
 else (Option.bind (iter (a2o r1 r2 n) ((r1.Names.List_.length:Int).toNat+1) ([],0)) fun b14 =>
 Option.bind (a2E b14) fun r15 =>
 some r15)))
def a5T (t:Api_Type)(e:Api_Goal)(kind:Int)(n:Nat)(x2:Int×Api_Names):Option (Fl (Int×Api_Names) Api_Names) :=
 bif decide (x2.1<(e.Pos.length:Int))
 then (Option.bind (idx e.Pos x2.1) fun e3 =>
 Option.bind (idx t.Nodes e3) fun e4 =>
 bif e4.Kind==kind
 then (Option.bind (a2E ([e4.Text]:List ByteArray)) fun r5 =>
 Option.bind (a3M n x2.2 r5) fun r6 =>
 some (.next (wr .i64 (x2.1+1),r6)))
 else (some (.next (wr .i64 (x2.1+1),x2.2))))
 else (some (.done x2.2))
def a5V (t:Api_Type)(e:Api_Goal)(kind:Int)(n:Nat)(x8:Int×Api_Names):Option (Fl (Int×Api_Names) Api_Names) :=
 bif decide (x8.1<(e.Neg.length:Int))
 then (Option.bind (idx e.Neg x8.1) fun e9 =>
 Option.bind (idx t.Nodes e9) fun e10 =>
 bif e10.Kind==kind
 then (Option.bind (a2W ([e10.Text]:List ByteArray)) fun r11 =>
 Option.bind (a3M n x8.2 r11) fun r12 =>
 some (.next (wr .i64 (x8.1+1),r12)))
 else (some (.next (wr .i64 (x8.1+1),x8.2))))
 else (some (.done x8.2))
def a8l (n:Nat)(t:Api_Type)(e:Api_Goal)(kind:Int):Option Api_Names :=
 Option.bind (a2W ([]:List ByteArray)) fun r1 =>
 Option.bind (iter (a5T t e kind n) ((e.Pos.length:Int).toNat+1) (0,r1)) fun b7 =>
 Option.bind (iter (a5V t e kind n) ((e.Neg.length:Int).toNat+1) (0,b7)) fun b13 =>
 some b13
def b5c (i:Int)(a1_1:Api_Type)(a2_2:Int):Option Bool :=
 Option.bind (idx a1_1.Nodes i) fun e1 =>
 some (e1.Kind==a2_2)
def a6a (t:Api_Type)(nodes:List Int)(kind:Int):Option Bool :=
 Option.bind (Z5 nodes (fun z1 =>
 Option.bind (b5c z1 t kind) fun r2 =>
 some r2)) fun r3 =>
 some r3
def a6X (s:Core_Sort)(t:Api_Type)(nodes:List Int)(kind:Int)(x1:(List Int)×Int):Option (Fl ((List Int)×Int) (List Int)) :=
 bif decide (x1.2<(nodes.length:Int))
 then (Option.bind (idx nodes x1.2) fun e2 =>
 Option.bind (idx t.Nodes e2) fun e3 =>
 Option.bind (bif e3.Kind==kind
 then (Option.bind (idx t.Nodes e2) fun e4 =>
 Option.bind (a52 s e4) fun r5 =>
 some r5)
 else (some false)) fun q6 =>
 bif q6
 then (Option.bind (Z4 (x1.1.length+([e2]:List Int).length) 8) fun _ =>
 some (.next (x1.1++([e2]:List Int),wr .i64 (x1.2+1))))
 else (some (.next (x1.1,wr .i64 (x1.2+1)))))
 else (some (.done x1.1))
def a7b (s:Core_Sort)(t:Api_Type)(nodes:List Int)(kind:Int):Option (List Int) :=
 Option.bind (iter (a6X s t nodes kind) ((nodes.length:Int).toNat+1) ([],0)) fun b8 =>
 some b8
noncomputable def a9t (n:Nat)(d:Api_Type)(t:Api_Goal)(a2_2:Core_Sort):Option (Api_Line×Bool) :=
 Option.bind (a7E a2_2 d t) fun r1 =>
 bif !r1
 then (some (Api_Line.mk a2_2.Kind a2_2.Arity ([]:List Api_Range) (Api_Names.mk false ([]:List ByteArray)) ([]:List Int) ([]:List Int) ([]:List ByteArray) ([]:List ByteArray),false))
 else (Option.bind (bif a2_2.Kind==1
 then (Option.bind (b2d d t) fun r2 =>
 some (.inr (decide (0<(r2.length:Int)),(a2_2.Kind,a2_2.Arity,r2,false,([]:List ByteArray),([]:List Int),([]:List Int),([]:List ByteArray),([]:List ByteArray)),(a2_2.Kind,a2_2.Arity,r2,false,([]:List ByteArray),([]:List Int),([]:List Int),([]:List ByteArray),([]:List ByteArray)))))
 else (bif a2_2.Kind==2
 then (Option.bind (a8l n d t 4) fun r3 =>
 Option.bind (a6a d t.Neg 5) fun r4 =>
 bif !r4
 then (bif r3.Cofinite
 then (some (.inr (true,(a2_2.Kind,a2_2.Arity,([]:List Api_Range),r3.Cofinite,r3.List_,([]:List Int),([]:List Int),([]:List ByteArray),([]:List ByteArray)),(a2_2.Kind,a2_2.Arity,([]:List Api_Range),r3.Cofinite,r3.List_,([]:List Int),([]:List Int),([]:List ByteArray),([]:List ByteArray)))))
 else (some (.inr (decide (0<(r3.List_.length:Int)),(a2_2.Kind,a2_2.Arity,([]:List Api_Range),r3.Cofinite,r3.List_,([]:List Int),([]:List Int),([]:List ByteArray),([]:List ByteArray)),(a2_2.Kind,a2_2.Arity,([]:List Api_Range),r3.Cofinite,r3.List_,([]:List Int),([]:List Int),([]:List ByteArray),([]:List ByteArray))))))
 else (some (.inr (false,(a2_2.Kind,a2_2.Arity,([]:List Api_Range),r3.Cofinite,r3.List_,([]:List Int),([]:List Int),([]:List ByteArray),([]:List ByteArray)),(a2_2.Kind,a2_2.Arity,([]:List Api_Range),r3.Cofinite,r3.List_,([]:List Int),([]:List Int),([]:List ByteArray),([]:List ByteArray))))))
 else (bif a2_2.Kind==3
 then (Option.bind (a8l n d t 6) fun r5 =>
 Option.bind (a6a d t.Neg 7) fun r6 =>
 bif !r6
 then (bif r5.Cofinite
 then (some (.inr (true,(a2_2.Kind,a2_2.Arity,([]:List Api_Range),r5.Cofinite,r5.List_,([]:List Int),([]:List Int),([]:List ByteArray),([]:List ByteArray)),(a2_2.Kind,a2_2.Arity,([]:List Api_Range),r5.Cofinite,r5.List_,([]:List Int),([]:List Int),([]:List ByteArray),([]:List ByteArray)))))
 else (some (.inr (decide (0<(r5.List_.length:Int)),(a2_2.Kind,a2_2.Arity,([]:List Api_Range),r5.Cofinite,r5.List_,([]:List Int),([]:List Int),([]:List ByteArray),([]:List ByteArray)),(a2_2.Kind,a2_2.Arity,([]:List Api_Range),r5.Cofinite,r5.List_,([]:List Int),([]:List Int),([]:List ByteArray),([]:List ByteArray))))))
 else (some (.inr (false,(a2_2.Kind,a2_2.Arity,([]:List Api_Range),r5.Cofinite,r5.List_,([]:List Int),([]:List Int),([]:List ByteArray),([]:List ByteArray)),(a2_2.Kind,a2_2.Arity,([]:List Api_Range),r5.Cofinite,r5.List_,([]:List Int),([]:List Int),([]:List ByteArray),([]:List ByteArray))))))
 else (bif a2_2.Kind==4
 then (Option.bind (a6a d t.Neg 8) fun r7 =>
 some (.inr (!r7,(a2_2.Kind,a2_2.Arity,([]:List Api_Range),false,([]:List ByteArray),([]:List Int),([]:List Int),([]:List ByteArray),([]:List ByteArray)),(a2_2.Kind,a2_2.Arity,([]:List Api_Range),false,([]:List ByteArray),([]:List Int),([]:List Int),([]:List ByteArray),([]:List ByteArray)))))
 else (bif a2_2.Kind==5
 then (Option.bind (a6a d t.Neg 9) fun r8 =>
 some (.inr (!r8,(a2_2.Kind,a2_2.Arity,([]:List Api_Range),false,([]:List ByteArray),([]:List Int),([]:List Int),([]:List ByteArray),([]:List ByteArray)),(a2_2.Kind,a2_2.Arity,([]:List Api_Range),false,([]:List ByteArray),([]:List Int),([]:List Int),([]:List ByteArray),([]:List ByteArray)))))
 else (bif a2_2.Kind==6
 then (some (.inl (10,11,(0,0,([]:List Api_Range),false,([]:List ByteArray),([]:List Int),([]:List Int),([]:List ByteArray),([]:List ByteArray)),(a2_2.Kind,a2_2.Arity,([]:List Api_Range),false,([]:List ByteArray),([]:List Int),([]:List Int),([]:List ByteArray),([]:List ByteArray)))))
 else (bif a2_2.Kind==7
 then (some (.inl (12,0,(0,0,([]:List Api_Range),false,([]:List ByteArray),([]:List Int),([]:List Int),([]:List ByteArray),([]:List ByteArray)),(a2_2.Kind,a2_2.Arity,([]:List Api_Range),false,([]:List ByteArray),([]:List Int),([]:List Int),([]:List ByteArray),([]:List ByteArray)))))
 else (bif a2_2.Kind==8
 then (some (.inl (13,0,(0,0,([]:List Api_Range),false,([]:List ByteArray),([]:List Int),([]:List Int),([]:List ByteArray),([]:List ByteArray)),(a2_2.Kind,a2_2.Arity,([]:List Api_Range),false,([]:List ByteArray),([]:List Int),([]:List Int),([]:List ByteArray),([]:List ByteArray)))))
 else (bif a2_2.Kind==9
 then (some (.inl (14,15,(0,0,([]:List Api_Range),false,([]:List ByteArray),([]:List Int),([]:List Int),([]:List ByteArray),([]:List ByteArray)),(a2_2.Kind,a2_2.Arity,([]:List Api_Range),false,([]:List ByteArray),([]:List Int),([]:List Int),([]:List ByteArray),([]:List ByteArray)))))
 else (some (.inl (0,0,(0,0,([]:List Api_Range),false,([]:List ByteArray),([]:List Int),([]:List Int),([]:List ByteArray),([]:List ByteArray)),(a2_2.Kind,a2_2.Arity,([]:List Api_Range),false,([]:List ByteArray),([]:List Int),([]:List Int),([]:List ByteArray),([]:List ByteArray)))))))))))))) fun (b9:Sum (Int×Int×(Int×Int×(List Api_Range)×Bool×(List ByteArray)×(List Int)×(List Int)×(List ByteArray)×(List ByteArray))×(Int×Int×(List Api_Range)×Bool×(List ByteArray)×(List Int)×(List Int)×(List ByteArray)×(List ByteArray))) (Bool×(Int×Int×(List Api_Range)×Bool×(List ByteArray)×(List Int)×(List Int)×(List ByteArray)×(List ByteArray))×(Int×Int×(List Api_Range)×Bool×(List ByteArray)×(List Int)×(List Int)×(List ByteArray)×(List ByteArray)))) =>
 onEnd (fun x10 =>
 Option.bind (a7b a2_2 d t.Pos x10.1) fun r12 =>
 Option.bind (a7b a2_2 d t.Neg x10.1) fun r13 =>
 bif x10.2.1==0
 then (some (Api_Line.mk x10.2.2.2.1 x10.2.2.2.2.1 x10.2.2.2.2.2.1 (Api_Names.mk x10.2.2.2.2.2.2.1 x10.2.2.2.2.2.2.2.1) r12 r13 x10.2.2.2.2.2.2.2.2.2.2.1 x10.2.2.2.2.2.2.2.2.2.2.2,true))
 else (Option.bind (a6a d t.Neg x10.2.1) fun r14 =>
 some (Api_Line.mk x10.2.2.2.1 x10.2.2.2.2.1 x10.2.2.2.2.2.1 (Api_Names.mk x10.2.2.2.2.2.2.1 x10.2.2.2.2.2.2.2.1) r12 r13 x10.2.2.2.2.2.2.2.2.2.2.1 x10.2.2.2.2.2.2.2.2.2.2.2,!r14))) (fun y11 =>
 some (Api_Line.mk y11.2.1.1 y11.2.1.2.1 y11.2.1.2.2.1 (Api_Names.mk y11.2.1.2.2.2.1 y11.2.1.2.2.2.2.1) y11.2.1.2.2.2.2.2.1 y11.2.1.2.2.2.2.2.2.1 y11.2.1.2.2.2.2.2.2.2.1 y11.2.1.2.2.2.2.2.2.2.2,y11.1)) b9)
noncomputable def a4x (d:Api_Type)(n:Nat)(e6:Api_Goal)(r7:List ByteArray)(r8:List ByteArray)(r12:List Core_Sort)(x13:(List Api_Line)×Int):Option (Fl ((List Api_Line)×Int) (List Api_Line)) :=
 bif decide (x13.2<(r12.length:Int))
 then (Option.bind (idx r12 x13.2) fun e14 =>
 Option.bind (a9t n d e6 e14) fun r15 =>
 bif r15.2
 then (Option.bind (a0n 16 r7) fun r16 =>
 Option.bind (a0n 16 r8) fun r17 =>
 Option.bind (Z4 (x13.1.length+([Api_Line.mk r15.1.Kind r15.1.Arity r15.1.Ints r15.1.Names r15.1.Pos r15.1.Neg r16 r17]:List Api_Line).length) 168) fun _ =>
 some (.next (x13.1++([Api_Line.mk r15.1.Kind r15.1.Arity r15.1.Ints r15.1.Names r15.1.Pos r15.1.Neg r16 r17]:List Api_Line),wr .i64 (x13.2+1))))
 else (some (.next (x13.1,wr .i64 (x13.2+1)))))
 else (some (.done x13.1))
noncomputable def a5P (d:Api_Type)(n:Nat)(r4:List Api_Goal)(x5:(List Api_Line)×Int):Option (Fl ((List Api_Line)×Int) (List Api_Line)) :=
 bif decide (x5.2<(r4.length:Int))
 then (Option.bind (idx r4 x5.2) fun e6 =>
 Option.bind (a9w d e6.Pos) fun r7 =>
 Option.bind (a9w d e6.Neg) fun r8 =>
 Option.bind (a8s e6.Pos e6.Neg) fun r9 =>
 Option.bind (bif r9
 then (some true)
 else (Option.bind (a6c r7 r8) fun r10 =>
 some r10)) fun q11 =>
 bif q11
 then (some (.next (x5.1,wr .i64 (x5.2+1))))
 else (Option.bind (b6J) fun r12 =>
 Option.bind (iter (a4x d n e6 r7 r8 r12) ((r12.length:Int).toNat+1) (x5.1,0)) fun b19 =>
 some (.next (b19,wr .i64 (x5.2+1)))))
 else (some (.done x5.1))
noncomputable def a6J (n:Nat)(d:Api_Type)(t:Api_Goal):Option (List Api_Line) :=
 Option.bind (a09 n d) fun r1 =>
 Option.bind (bif r1 != 0
 then (some true)
 else (Option.bind (a71 d t) fun r2 =>
 some (!r2))) fun q3 =>
 bif q3
 then (some ([]))
 else (Option.bind (a6V n d t) fun r4 =>
 Option.bind (iter (a5P d n r4) ((r4.length:Int).toNat+1) ([],0)) fun b20 =>
 some b20)
def a1Y (n_0:Int):Option Val :=
 some (Val.mk 1 n_0 (⟨#[]⟩:ByteArray) ([]:List Val) ([]:List Key) ([]:List Ent) ([]:List ByteArray))
def a7u (kind:Int):Option (Value_used×Bool) :=
 Option.bind (bif kind==1
 then (some (kind==1))
 else (some (kind==4))) fun b1 =>
 bif b1
 then (some (Value_used.mk true false false false false,true))
 else (Option.bind (bif kind==2
 then (some (kind==2))
 else (some (kind==3))) fun b2 =>
 bif b2
 then (some (Value_used.mk false true false false false,true))
 else (bif kind==5
 then (some (Value_used.mk false false false false false,true))
 else (Option.bind (bif kind==6
 then (some (kind==6))
 else (some (kind==7))) fun b3 =>
 bif b3
 then (some (Value_used.mk false false true false false,true))
 else (bif kind==8
 then (some (Value_used.mk false false true true false,true))
 else (bif kind==9
 then (some (Value_used.mk true false false false true,true))
 else (some (Value_used.mk false false false false false,false)))))))
def a6Z (l:List ByteArray)(compare:ByteArray->ByteArray->Option Int)(x1:Int):Option (Fl Int (Sum Unit Bool)) :=
 bif decide (x1<(l.length:Int))
 then (Option.bind (idx l (wr .i64 (x1-1))) fun e2 =>
 Option.bind (idx l x1) fun e3 =>
 Option.bind (compare e2 e3) fun r4 =>
 bif decide (0<=r4)
 then (some (.done (.inr false)))
 else (some (.next (wr .i64 (x1+1)))))
 else (some (.done (.inl ())))
def a5u (l:List ByteArray)(compare:ByteArray->ByteArray->Option Int):Option Bool :=
 Option.bind (iter (a6Z l compare) ((l.length:Int).toNat+1) 1) fun b5 =>
 onEnd (fun _ =>
 some true) (fun y7 =>
 some y7) b5
def a9x (l:List ByteArray)(x5:Int):Option (Fl Int (Sum Unit Bool)) :=
 bif decide (x5<(l.length:Int))
 then (Option.bind (idx l x5) fun e6 =>
 Option.bind (a3p e6) fun r7 =>
 bif !r7
 then (some (.done (.inr false)))
 else (some (.next (wr .i64 (x5+1)))))
 else (some (.done (.inl ())))
def a5A (l:List ByteArray):Option Bool :=
 Option.bind (a5u l (fun z1 z2 =>
 Option.bind (a0i z1 z2) fun r3 =>
 some r3)) fun r4 =>
 bif !r4
 then (some false)
 else (Option.bind (iter (a9x l) ((l.length:Int).toNat+1) 0) fun b8 =>
 onEnd (fun _ =>
 some true) (fun y10 =>
 some y10) b8)
def a6z (l:List Key)(compare:Key->Key->Option Int)(x1:Int):Option (Fl Int (Sum Unit Bool)) :=
 bif decide (x1<(l.length:Int))
 then (Option.bind (idx l (wr .i64 (x1-1))) fun e2 =>
 Option.bind (idx l x1) fun e3 =>
 Option.bind (compare e2 e3) fun r4 =>
 bif decide (0<=r4)
 then (some (.done (.inr false)))
 else (some (.next (wr .i64 (x1+1)))))
 else (some (.done (.inl ())))
def a44 (l:List Key)(compare:Key->Key->Option Int):Option Bool :=
 Option.bind (iter (a6z l compare) ((l.length:Int).toNat+1) 1) fun b5 =>
 onEnd (fun _ =>
 some true) (fun y7 =>
 some y7) b5
def b1D (v:Val)(x6:Int):Option (Fl Int (Sum Unit Bool)) :=
 bif decide (x6<(v.Keys.length:Int))
 then (Option.bind (idx v.Keys x6) fun e7 =>
 Option.bind (a4v e7) fun r8 =>
 bif !r8
 then (some (.done (.inr false)))
 else (some (.next (wr .i64 (x6+1)))))
 else (some (.done (.inl ())))
def a7M (v:Val):Option Bool :=
 Option.bind (bif (v.Keys.length:Int) != (v.Kids.length:Int)
 then (some true)
 else (Option.bind (a44 v.Keys (fun z1 z2 =>
 Option.bind (X8 z1 z2) fun r3 =>
 some r3)) fun r4 =>
 some (!r4))) fun q5 =>
 bif q5
 then (some false)
 else (Option.bind (iter (b1D v) ((v.Keys.length:Int).toNat+1) 0) fun b9 =>
 onEnd (fun _ =>
 some true) (fun y11 =>
 some y11) b9)
def a5F (l:List Ent)(compare:Ent->Ent->Option Int)(x1:Int):Option (Fl Int (Sum Unit Bool)) :=
 bif decide (x1<(l.length:Int))
 then (Option.bind (idx l (wr .i64 (x1-1))) fun e2 =>
 Option.bind (idx l x1) fun e3 =>
 Option.bind (compare e2 e3) fun r4 =>
 bif decide (0<=r4)
 then (some (.done (.inr false)))
 else (some (.next (wr .i64 (x1+1)))))
 else (some (.done (.inl ())))
def a4q (l:List Ent)(compare:Ent->Ent->Option Int):Option Bool :=
 Option.bind (iter (a5F l compare) ((l.length:Int).toNat+1) 1) fun b5 =>
 onEnd (fun _ =>
 some true) (fun y7 =>
 some y7) b5
def a40 (a:List Val)(b:List Val)(compare:Val->Val->Option Int)(x2:Int):Option (Fl Int (Sum Unit Int)) :=
 bif decide (x2<(a.length:Int))
 then (Option.bind (idx a x2) fun e3 =>
 Option.bind (idx b x2) fun e4 =>
 Option.bind (compare e3 e4) fun r5 =>
 bif r5 != 0
 then (some (.done (.inr r5)))
 else (some (.next (wr .i64 (x2+1)))))
 else (some (.done (.inl ())))
def a3q (a:List Val)(b:List Val)(compare:Val->Val->Option Int):Option Int :=
 Option.bind (a0F (a.length:Int) (b.length:Int)) fun r1 =>
 bif r1 != 0
 then (some r1)
 else (Option.bind (iter (a40 a b compare) ((a.length:Int).toNat+1) 0) fun b6 =>
 onEnd (fun _ =>
 some 0) (fun y8 =>
 some y8) b6)
def a5y (a:List Key)(b:List Key)(compare:Key->Key->Option Int)(x2:Int):Option (Fl Int (Sum Unit Int)) :=
 bif decide (x2<(a.length:Int))
 then (Option.bind (idx a x2) fun e3 =>
 Option.bind (idx b x2) fun e4 =>
 Option.bind (compare e3 e4) fun r5 =>
 bif r5 != 0
 then (some (.done (.inr r5)))
 else (some (.next (wr .i64 (x2+1)))))
 else (some (.done (.inl ())))
def a3W (a:List Key)(b:List Key)(compare:Key->Key->Option Int):Option Int :=
 Option.bind (a0F (a.length:Int) (b.length:Int)) fun r1 =>
 bif r1 != 0
 then (some r1)
 else (Option.bind (iter (a5y a b compare) ((a.length:Int).toNat+1) 0) fun b6 =>
 onEnd (fun _ =>
 some 0) (fun y8 =>
 some y8) b6)
def a41 (a:List Ent)(b:List Ent)(compare:Ent->Ent->Option Int)(x2:Int):Option (Fl Int (Sum Unit Int)) :=
 bif decide (x2<(a.length:Int))
 then (Option.bind (idx a x2) fun e3 =>
 Option.bind (idx b x2) fun e4 =>
 Option.bind (compare e3 e4) fun r5 =>
 bif r5 != 0
 then (some (.done (.inr r5)))
 else (some (.next (wr .i64 (x2+1)))))
 else (some (.done (.inl ())))
def a3o (a:List Ent)(b:List Ent)(compare:Ent->Ent->Option Int):Option Int :=
 Option.bind (a0F (a.length:Int) (b.length:Int)) fun r1 =>
 bif r1 != 0
 then (some r1)
 else (Option.bind (iter (a41 a b compare) ((a.length:Int).toNat+1) 0) fun b6 =>
 onEnd (fun _ =>
 some 0) (fun y8 =>
 some y8) b6)
def a5N (a:List ByteArray)(b:List ByteArray)(compare:ByteArray->ByteArray->Option Int)(x2:Int):Option (Fl Int (Sum Unit Int)) :=
 bif decide (x2<(a.length:Int))
 then (Option.bind (idx a x2) fun e3 =>
 Option.bind (idx b x2) fun e4 =>
 Option.bind (compare e3 e4) fun r5 =>
 bif r5 != 0
 then (some (.done (.inr r5)))
 else (some (.next (wr .i64 (x2+1)))))
 else (some (.done (.inl ())))
def a4g (a:List ByteArray)(b:List ByteArray)(compare:ByteArray->ByteArray->Option Int):Option Int :=
 Option.bind (a0F (a.length:Int) (b.length:Int)) fun r1 =>
 bif r1 != 0
 then (some r1)
 else (Option.bind (iter (a5N a b compare) ((a.length:Int).toNat+1) 0) fun b6 =>
 onEnd (fun _ =>
 some 0) (fun y8 =>
 some y8) b6)
def a9h (_:Nat)(_:Val->Val->Option Int)(rec_value_compareEntries:Ent->Ent->Option Int)(rec_value_compareValues:(List Val)->(List Val)->Option Int)(a:Val)(b:Val):Option Int :=
 Option.bind (a0F a.Kind b.Kind) fun r1 =>
 bif r1 != 0
 then (some r1)
 else (Option.bind (a1S a.Int_ b.Int_) fun r2 =>
 bif r2 != 0
 then (some r2)
 else (Option.bind (a0i a.Text b.Text) fun r3 =>
 bif r3 != 0
 then (some r3)
 else (Option.bind (a3W a.Keys b.Keys (fun z4 z5 =>
 Option.bind (X8 z4 z5) fun r6 =>
 some r6)) fun r7 =>
 bif r7 != 0
 then (some r7)
 else (Option.bind (rec_value_compareValues a.Kids b.Kids) fun r8 =>
 bif r8 != 0
 then (some r8)
 else (Option.bind (a3o a.Entries b.Entries (fun z9 z10 =>
 Option.bind (rec_value_compareEntries z9 z10) fun r11 =>
 some r11)) fun r12 =>
 bif r12 != 0
 then (some r12)
 else (Option.bind (a4g a.Labels b.Labels (fun z13 z14 =>
 Option.bind (a0i z13 z14) fun r15 =>
 some r15)) fun r16 =>
 some r16))))))
def a5r (_:Nat)(rec_value_Compare:Val->Val->Option Int)(_:Ent->Ent->Option Int)(rec_value_compareValues:(List Val)->(List Val)->Option Int)(a:Ent)(b:Ent):Option Int :=
 Option.bind (rec_value_compareValues a.Args b.Args) fun r1 =>
 bif r1 != 0
 then (some r1)
 else (bif a.Fails != b.Fails
 then (bif a.Fails
 then (some (-1))
 else (some 1))
 else (Option.bind (rec_value_Compare a.Result b.Result) fun r2 =>
 some r2))
def a5L (_:Nat)(rec_value_Compare:Val->Val->Option Int)(_:Ent->Ent->Option Int)(_:(List Val)->(List Val)->Option Int)(a:List Val)(b:List Val):Option Int :=
 Option.bind (a3q a b (fun z1 z2 =>
 Option.bind (rec_value_Compare z1 z2) fun r3 =>
 some r3)) fun r4 =>
 some r4
def V0:Nat->(Val->Val->Option Int)×(Ent->Ent->Option Int)×((List Val)->(List Val)->Option Int)
 | 0=>(fun _ _=>none,fun _ _=>none,fun _ _=>none)
 | n+1=>(a9h n ((V0 n).1) ((V0 n).2.1) ((V0 n).2.2),a5r n ((V0 n).1) ((V0 n).2.1) ((V0 n).2.2),a5L n ((V0 n).1) ((V0 n).2.1) ((V0 n).2.2))
def a3a (n:Nat):Val->Val->Option Int:=(V0 n).1
def V4 (n:Nat):Ent->Ent->Option Int:=(V0 n).2.1
def a3j (n:Nat):(List Val)->(List Val)->Option Int:=(V0 n).2.2
def b4f (n:Nat)(a:Val)(b:Val):Option Bool :=
 Option.bind (a3a n a b) fun r1 =>
 some (r1==0)
def b3t (n:Nat)(v:Val):Option Bool :=
 Option.bind (b4f n v (Val.mk 0 0 (⟨#[]⟩:ByteArray) ([]:List Val) ([]:List Key) ([]:List Ent) ([]:List ByteArray))) fun r1 =>
 some r1
def a4G (n:Nat)(e:Ent)(arity:Int):Option Bool :=
 Option.bind (bif (e.Args.length:Int)==arity
 then (Option.bind (bif !e.Fails
 then (some true)
 else (Option.bind (b3t n e.Result) fun r1 =>
 some r1)) fun q2 =>
 some q2)
 else (some false)) fun q3 =>
 some q3
def a8d (v:Val)(n:Nat)(x7:Int):Option (Fl Int (Sum Unit Bool)) :=
 bif decide (x7<(v.Entries.length:Int))
 then (Option.bind (idx v.Entries x7) fun e8 =>
 Option.bind (a4G n e8 v.Int_) fun r9 =>
 bif !r9
 then (some (.done (.inr false)))
 else (some (.next (wr .i64 (x7+1)))))
 else (some (.done (.inl ())))
def a4Q (n:Nat)(v:Val):Option Bool :=
 Option.bind (bif decide (v.Int_<0)
 then (some true)
 else (some (decide (4<v.Int_)))) fun q1 =>
 Option.bind (bif q1
 then (some true)
 else (Option.bind (a4q v.Entries (fun z2 z3 =>
 Option.bind (V4 n z2 z3) fun r4 =>
 some r4)) fun r5 =>
 some (!r5))) fun q6 =>
 bif q6
 then (some false)
 else (Option.bind (iter (a8d v n) ((v.Entries.length:Int).toNat+1) 0) fun b10 =>
 onEnd (fun _ =>
 some true) (fun y12 =>
 some y12) b10)
def a6W (n:Nat)(d:Val):Option Bool :=
 Option.bind (a7u d.Kind) fun r1 =>
 Option.bind (bif !r1.2
 then (some true)
 else (Option.bind (a5A d.Labels) fun r2 =>
 some (!r2))) fun q3 =>
 bif q3
 then (some false)
 else (Option.bind (bif !r1.1.number
 then (some (d.Int_ != 0))
 else (some false)) fun q4 =>
 Option.bind (bif q4
 then (some true)
 else (Option.bind (bif !r1.1.text_
 then (some (!(Y0 d.Text (⟨#[]⟩:ByteArray))))
 else (some false)) fun q5 =>
 some q5)) fun q6 =>
 Option.bind (bif q6
 then (some true)
 else (Option.bind (bif !r1.1.kids
 then (some (decide (0<(d.Kids.length:Int))))
 else (some false)) fun q7 =>
 some q7)) fun q8 =>
 Option.bind (bif q8
 then (some true)
 else (Option.bind (bif !r1.1.keys
 then (some (decide (0<(d.Keys.length:Int))))
 else (some false)) fun q9 =>
 some q9)) fun q10 =>
 Option.bind (bif q10
 then (some true)
 else (Option.bind (bif !r1.1.entries
 then (some (decide (0<(d.Entries.length:Int))))
 else (some false)) fun q11 =>
 some q11)) fun q12 =>
 bif q12
 then (some false)
 else (bif d.Kind==2
 then (some (decide ((d.Text.size:Int)<=64)))
 else (bif d.Kind==3
 then (Option.bind (a5E d.Text) fun r13 =>
 some r13)
 else (bif d.Kind==4
 then (some (decide (0<=d.Int_)))
 else (bif d.Kind==6
 then (some (decide ((d.Kids.length:Int)<=4)))
 else (bif d.Kind==7
 then (Option.bind (bif (d.Kids.length:Int)==2
 then (Option.bind (idx d.Kids 1) fun e14 =>
 Option.bind (bif e14.Kind==5
 then (some true)
 else (Option.bind (idx d.Kids 1) fun e15 =>
 some (e15.Kind==7))) fun q16 =>
 some q16)
 else (some false)) fun q17 =>
 some q17)
 else (bif d.Kind==8
 then (Option.bind (a7M d) fun r18 =>
 some r18)
 else (bif d.Kind==9
 then (Option.bind (a4Q n d) fun r19 =>
 some r19)
 else (some true)))))))))
def a7C (v:Val)(x2:(List Val)×Int):Option (Fl ((List Val)×Int) (List Val)) :=
 bif decide (x2.2<(v.Entries.length:Int))
 then (Option.bind (idx v.Entries x2.2) fun e3 =>
 Option.bind (Z4 (x2.1.length+e3.Args.length) 128) fun _ =>
 bif !e3.Fails
 then (Option.bind (Z4 ((x2.1++e3.Args).length+([e3.Result]:List Val).length) 128) fun _ =>
 some (.next ((x2.1++e3.Args)++([e3.Result]:List Val),wr .i64 (x2.2+1))))
 else (some (.next (x2.1++e3.Args,wr .i64 (x2.2+1)))))
 else (some (.done x2.1))
def b0u (v:Val):Option (List Val) :=
 Option.bind (a0n 128 v.Kids) fun r1 =>
 Option.bind (iter (a7C v) ((v.Entries.length:Int).toNat+1) (r1,0)) fun b6 =>
 some b6
def b0Z (r2:List Val)(rec_value_validTree:Val->Option Bool)(x3:Int):Option (Fl Int (Sum Unit Bool)) :=
 bif decide (x3<(r2.length:Int))
 then (Option.bind (idx r2 x3) fun e4 =>
 Option.bind (rec_value_validTree e4) fun r5 =>
 bif !r5
 then (some (.done (.inr false)))
 else (some (.next (wr .i64 (x3+1)))))
 else (some (.done (.inl ())))
def a7V (n:Nat)(rec_value_validTree:Val->Option Bool)(v:Val):Option Bool :=
 Option.bind (a6W n v) fun r1 =>
 bif !r1
 then (some false)
 else (Option.bind (b0u v) fun r2 =>
 Option.bind (iter (b0Z r2 rec_value_validTree) ((r2.length:Int).toNat+1) 0) fun b6 =>
 onEnd (fun _ =>
 some true) (fun y8 =>
 some y8) b6)
def a2P:Nat->Val->Option Bool
 | 0=>fun _=>none
 | n+1=>a7V n (a2P n)
def a7x (n:Nat)(v:Val):Option Int :=
 Option.bind (a2P n v) fun r1 =>
 bif !r1
 then (some 1)
 else (some 0)
def c0i (kind:Int):Option Int :=
 bif kind==5
 then (some 2)
 else (bif kind==7
 then (some 3)
 else (bif kind==8
 then (some 4)
 else (bif kind==9
 then (some 5)
 else (bif kind==11
 then (some 6)
 else (some 9)))))
def a03 (s:List Key)(v:Key)(x1:Int):Option (Fl Int (Sum Unit Int)) :=
 bif decide (x1<(s.length:Int))
 then (Option.bind (idx s x1) fun e2 =>
 bif a5Q v e2
 then (some (.done (.inr x1)))
 else (some (.next (wr .i64 (x1+1)))))
 else (some (.done (.inl ())))
def a3s (s:List Key)(v:Key):Option Int :=
 Option.bind (iter (a03 s v) ((s.length:Int).toNat+1) 0) fun b3 =>
 onEnd (fun _ =>
 some (-1)) (fun y5 =>
 some y5) b3
def a04 (s:List Key)(v:Key):Option Bool :=
 Option.bind (a3s s v) fun r1 =>
 some (decide (0<=r1))
def b1O (n_0:Api_TypeNode)(k:Key)(x1:Int):Option (Fl Int (Sum Unit Int)) :=
 bif decide (x1<(n_0.Fields.length:Int))
 then (Option.bind (idx n_0.Fields x1) fun e2 =>
 bif a5Q e2.Key_ k
 then (some (.done (.inr e2.Node)))
 else (some (.next (wr .i64 (x1+1)))))
 else (some (.done (.inl ())))
def b9A (n_0:Api_TypeNode)(k:Key):Option Int :=
 Option.bind (iter (b1O n_0 k) ((n_0.Fields.length:Int).toNat+1) 0) fun b3 =>
 onEnd (fun _ =>
 bif k.Kind==0
 then (some n_0.Rest.1)
 else (bif k.Kind==1
 then (some n_0.Rest.2)
 else (none))) (fun y5 =>
 some y5) b3
def a74 (l:List Val)(t:Api_Type)(nodes:List Int)(rec_core_Has:Val->Api_Type->Int->Option Bool)(x1:Int):Option (Fl Int (Sum Unit Bool)) :=
 bif decide (x1<(l.length:Int))
 then (Option.bind (idx l x1) fun e2 =>
 Option.bind (idx nodes x1) fun e3 =>
 Option.bind (rec_core_Has e2 t e3) fun r4 =>
 bif !r4
 then (some (.done (.inr false)))
 else (some (.next (wr .i64 (x1+1)))))
 else (some (.done (.inl ())))
def a4P (v:Val)(t:Api_Type)(n_2:Api_TypeNode)(rec_core_EntryAllowed:Ent->Api_Type->Api_TypeNode->Option Bool)(x1:Int):Option (Fl Int (Sum Unit Bool)) :=
 bif decide (x1<(v.Entries.length:Int))
 then (Option.bind (idx v.Entries x1) fun e2 =>
 Option.bind (rec_core_EntryAllowed e2 t n_2) fun r3 =>
 bif !r3
 then (some (.done (.inr false)))
 else (some (.next (wr .i64 (x1+1)))))
 else (some (.done (.inl ())))
def a7O (v:Val)(n_2:Api_TypeNode)(x1:Int):Option (Fl Int (Sum Unit Bool)) :=
 bif decide (x1<(n_2.Fields.length:Int))
 then (Option.bind (idx n_2.Fields x1) fun e2 =>
 Option.bind (bif !e2.Optional
 then (Option.bind (a04 v.Keys e2.Key_) fun r3 =>
 some (!r3))
 else (some false)) fun q4 =>
 bif q4
 then (some (.done (.inr false)))
 else (some (.next (wr .i64 (x1+1)))))
 else (some (.done (.inl ())))
def a5O (v:Val)(t:Api_Type)(n_2:Api_TypeNode)(rec_core_Has:Val->Api_Type->Int->Option Bool)(x8:Int):Option (Fl Int (Sum Unit Bool)) :=
 bif decide (x8<(v.Keys.length:Int))
 then (Option.bind (idx v.Keys x8) fun e9 =>
 Option.bind (idx v.Kids x8) fun e10 =>
 Option.bind (b9A n_2 e9) fun r11 =>
 Option.bind (rec_core_Has e10 t r11) fun r12 =>
 bif !r12
 then (some (.done (.inr false)))
 else (some (.next (wr .i64 (x8+1)))))
 else (some (.done (.inl ())))
def a86 (_:Nat)(_:(List Val)->Api_Type->(List Int)->Option Bool)(_:Ent->Api_Type->Api_TypeNode->Option Bool)(_:Val->Api_Type->Api_TypeNode->Option Bool)(rec_core_Has:Val->Api_Type->Int->Option Bool)(_:Int->Val->Api_Type->Option Bool)(_:Int->Val->Api_Type->Option Bool)(_:Val->Api_Type->Api_TypeNode->Option Bool)(l:List Val)(t:Api_Type)(nodes:List Int):Option Bool :=
 bif (l.length:Int) != (nodes.length:Int)
 then (some false)
 else (Option.bind (iter (a74 l t nodes rec_core_Has) ((l.length:Int).toNat+1) 0) fun b5 =>
 onEnd (fun _ =>
 some true) (fun y7 =>
 some y7) b5)
def a6P (_:Nat)(rec_core_all:(List Val)->Api_Type->(List Int)->Option Bool)(_:Ent->Api_Type->Api_TypeNode->Option Bool)(_:Val->Api_Type->Api_TypeNode->Option Bool)(rec_core_Has:Val->Api_Type->Int->Option Bool)(_:Int->Val->Api_Type->Option Bool)(_:Int->Val->Api_Type->Option Bool)(_:Val->Api_Type->Api_TypeNode->Option Bool)(e:Ent)(t:Api_Type)(n_2:Api_TypeNode):Option Bool :=
 Option.bind (cut n_2.Kids 0 (wr .i64 ((n_2.Kids.length:Int)-1))) fun y1 =>
 Option.bind (rec_core_all e.Args t y1) fun r2 =>
 Option.bind (bif !r2
 then (some true)
 else (Option.bind (bif !e.Fails
 then (Option.bind (idx n_2.Kids (wr .i64 ((n_2.Kids.length:Int)-1))) fun e3 =>
 Option.bind (rec_core_Has e.Result t e3) fun r4 =>
 some r4)
 else (some false)) fun q5 =>
 some q5)) fun q6 =>
 some q6
def a7m (_:Nat)(_:(List Val)->Api_Type->(List Int)->Option Bool)(rec_core_EntryAllowed:Ent->Api_Type->Api_TypeNode->Option Bool)(_:Val->Api_Type->Api_TypeNode->Option Bool)(_:Val->Api_Type->Int->Option Bool)(_:Int->Val->Api_Type->Option Bool)(_:Int->Val->Api_Type->Option Bool)(_:Val->Api_Type->Api_TypeNode->Option Bool)(v:Val)(t:Api_Type)(n_2:Api_TypeNode):Option Bool :=
 bif v.Int_ != (wr .i64 ((n_2.Kids.length:Int)-1))
 then (some false)
 else (Option.bind (iter (a4P v t n_2 rec_core_EntryAllowed) ((v.Entries.length:Int).toNat+1) 0) fun b4 =>
 onEnd (fun _ =>
 some true) (fun y6 =>
 some y6) b4)
def b6m (_:Nat)(rec_core_all:(List Val)->Api_Type->(List Int)->Option Bool)(_:Ent->Api_Type->Api_TypeNode->Option Bool)(rec_core_functionHas:Val->Api_Type->Api_TypeNode->Option Bool)(rec_core_Has:Val->Api_Type->Int->Option Bool)(rec_core_Has_1:Int->Val->Api_Type->Option Bool)(rec_core_Has_2:Int->Val->Api_Type->Option Bool)(rec_core_mapHas:Val->Api_Type->Api_TypeNode->Option Bool)(d:Val)(t:Api_Type)(a2_2:Int):Option Bool :=
 Option.bind (idx t.Nodes a2_2) fun e1 =>
 bif e1.Kind==2
 then (some true)
 else (bif e1.Kind==3
 then (Option.bind (bif d.Kind==1
 then (some (decide (e1.Lo<=d.Int_)))
 else (some false)) fun q2 =>
 Option.bind (bif q2
 then (some (decide (d.Int_<=e1.Hi)))
 else (some false)) fun q3 =>
 some q3)
 else (bif e1.Kind==4
 then (Option.bind (bif d.Kind==2
 then (some (Y0 d.Text e1.Text))
 else (some false)) fun q4 =>
 some q4)
 else (bif e1.Kind==6
 then (Option.bind (bif d.Kind==3
 then (some (Y0 d.Text e1.Text))
 else (some false)) fun q5 =>
 some q5)
 else (Option.bind (bif e1.Kind==5
 then (some (e1.Kind==5))
 else (bif e1.Kind==7
 then (some (e1.Kind==7))
 else (bif e1.Kind==8
 then (some (e1.Kind==8))
 else (bif e1.Kind==9
 then (some (e1.Kind==9))
 else (bif e1.Kind==11
 then (some (e1.Kind==11))
 else (some (e1.Kind==15))))))) fun b6 =>
 bif b6
 then (Option.bind (c0i e1.Kind) fun r7 =>
 some (d.Kind==r7))
 else (bif e1.Kind==10
 then (Option.bind (bif d.Kind==6
 then (Option.bind (rec_core_all d.Kids t e1.Kids) fun r8 =>
 some r8)
 else (some false)) fun q9 =>
 some q9)
 else (bif e1.Kind==12
 then (Option.bind (bif d.Kind==7
 then (Option.bind (rec_core_all d.Kids t e1.Kids) fun r10 =>
 some r10)
 else (some false)) fun q11 =>
 some q11)
 else (bif e1.Kind==13
 then (Option.bind (bif d.Kind==8
 then (Option.bind (rec_core_mapHas d t e1) fun r12 =>
 some r12)
 else (some false)) fun q13 =>
 some q13)
 else (bif e1.Kind==14
 then (Option.bind (bif d.Kind==9
 then (Option.bind (rec_core_functionHas d t e1) fun r14 =>
 some r14)
 else (some false)) fun q15 =>
 some q15)
 else (bif e1.Kind==16
 then (Option.bind (Z5 e1.Kids (fun z16 =>
 Option.bind (rec_core_Has_1 z16 d t) fun r17 =>
 some r17)) fun r18 =>
 some r18)
 else (bif e1.Kind==17
 then (Option.bind (Z5 e1.Kids (fun z19 =>
 Option.bind (rec_core_Has_2 z19 d t) fun r20 =>
 some r20)) fun r21 =>
 some (!r21))
 else (bif e1.Kind==18
 then (Option.bind (idx e1.Kids 0) fun e22 =>
 Option.bind (rec_core_Has d t e22) fun r23 =>
 some (!r23))
 else (bif e1.Kind==19
 then (Option.bind (a0p d.Labels e1.Text) fun r24 =>
 some r24)
 else (some false)))))))))))))
def b2Z (_:Nat)(_:(List Val)->Api_Type->(List Int)->Option Bool)(_:Ent->Api_Type->Api_TypeNode->Option Bool)(_:Val->Api_Type->Api_TypeNode->Option Bool)(rec_core_Has:Val->Api_Type->Int->Option Bool)(_:Int->Val->Api_Type->Option Bool)(_:Int->Val->Api_Type->Option Bool)(_:Val->Api_Type->Api_TypeNode->Option Bool)(k:Int)(a1_1:Val)(a2_2:Api_Type):Option Bool :=
 Option.bind (rec_core_Has a1_1 a2_2 k) fun r1 =>
 some r1
def b3m (_:Nat)(_:(List Val)->Api_Type->(List Int)->Option Bool)(_:Ent->Api_Type->Api_TypeNode->Option Bool)(_:Val->Api_Type->Api_TypeNode->Option Bool)(rec_core_Has:Val->Api_Type->Int->Option Bool)(_:Int->Val->Api_Type->Option Bool)(_:Int->Val->Api_Type->Option Bool)(_:Val->Api_Type->Api_TypeNode->Option Bool)(k:Int)(a1_1:Val)(a2_2:Api_Type):Option Bool :=
 Option.bind (rec_core_Has a1_1 a2_2 k) fun r1 =>
 some (!r1)
def b1p (_:Nat)(_:(List Val)->Api_Type->(List Int)->Option Bool)(_:Ent->Api_Type->Api_TypeNode->Option Bool)(_:Val->Api_Type->Api_TypeNode->Option Bool)(rec_core_Has:Val->Api_Type->Int->Option Bool)(_:Int->Val->Api_Type->Option Bool)(_:Int->Val->Api_Type->Option Bool)(_:Val->Api_Type->Api_TypeNode->Option Bool)(v:Val)(t:Api_Type)(n_2:Api_TypeNode):Option Bool :=
 Option.bind (iter (a7O v n_2) ((n_2.Fields.length:Int).toNat+1) 0) fun b5 =>
 onEnd (fun _ =>
 Option.bind (iter (a5O v t n_2 rec_core_Has) ((v.Keys.length:Int).toNat+1) 0) fun b13 =>
 onEnd (fun _ =>
 some true) (fun y15 =>
 some y15) b13) (fun y7 =>
 some y7) b5
def j7:Nat->((List Val)->Api_Type->(List Int)->Option Bool)×(Ent->Api_Type->Api_TypeNode->Option Bool)×(Val->Api_Type->Api_TypeNode->Option Bool)×(Val->Api_Type->Int->Option Bool)×(Int->Val->Api_Type->Option Bool)×(Int->Val->Api_Type->Option Bool)×(Val->Api_Type->Api_TypeNode->Option Bool)
 | 0=>(fun _ _ _=>none,fun _ _ _=>none,fun _ _ _=>none,fun _ _ _=>none,fun _ _ _=>none,fun _ _ _=>none,fun _ _ _=>none)
 | n+1=>(a86 n ((j7 n).1) ((j7 n).2.1) ((j7 n).2.2.1) ((j7 n).2.2.2.1) ((j7 n).2.2.2.2.1) ((j7 n).2.2.2.2.2.1) ((j7 n).2.2.2.2.2.2),a6P n ((j7 n).1) ((j7 n).2.1) ((j7 n).2.2.1) ((j7 n).2.2.2.1) ((j7 n).2.2.2.2.1) ((j7 n).2.2.2.2.2.1) ((j7 n).2.2.2.2.2.2),a7m n ((j7 n).1) ((j7 n).2.1) ((j7 n).2.2.1) ((j7 n).2.2.2.1) ((j7 n).2.2.2.2.1) ((j7 n).2.2.2.2.2.1) ((j7 n).2.2.2.2.2.2),b6m n ((j7 n).1) ((j7 n).2.1) ((j7 n).2.2.1) ((j7 n).2.2.2.1) ((j7 n).2.2.2.2.1) ((j7 n).2.2.2.2.2.1) ((j7 n).2.2.2.2.2.2),b2Z n ((j7 n).1) ((j7 n).2.1) ((j7 n).2.2.1) ((j7 n).2.2.2.1) ((j7 n).2.2.2.2.1) ((j7 n).2.2.2.2.2.1) ((j7 n).2.2.2.2.2.2),b3m n ((j7 n).1) ((j7 n).2.1) ((j7 n).2.2.1) ((j7 n).2.2.2.1) ((j7 n).2.2.2.2.1) ((j7 n).2.2.2.2.2.1) ((j7 n).2.2.2.2.2.2),b1p n ((j7 n).1) ((j7 n).2.1) ((j7 n).2.2.1) ((j7 n).2.2.2.1) ((j7 n).2.2.2.2.1) ((j7 n).2.2.2.2.2.1) ((j7 n).2.2.2.2.2.2))
def a5v (n:Nat):(List Val)->Api_Type->(List Int)->Option Bool:=(j7 n).1
def W5 (n:Nat):Ent->Api_Type->Api_TypeNode->Option Bool:=(j7 n).2.1
def a0j (n:Nat):Val->Api_Type->Api_TypeNode->Option Bool:=(j7 n).2.2.1
def X5 (n:Nat):Val->Api_Type->Int->Option Bool:=(j7 n).2.2.2.1
def a3z (n:Nat):Int->Val->Api_Type->Option Bool:=(j7 n).2.2.2.2.1
def a3u (n:Nat):Int->Val->Api_Type->Option Bool:=(j7 n).2.2.2.2.2.1
def a2D (n:Nat):Val->Api_Type->Api_TypeNode->Option Bool:=(j7 n).2.2.2.2.2.2
def b1y (n:Nat)(i:Int)(a1_1:Val)(a2_2:Api_Type):Option Bool :=
 Option.bind (X5 n a1_1 a2_2 i) fun r1 =>
 some (!r1)
def b1d (n:Nat)(i:Int)(a1_1:Val)(a2_2:Api_Type):Option Bool :=
 Option.bind (X5 n a1_1 a2_2 i) fun r1 =>
 some r1
def b0r (n:Nat)(v:Val)(t:Api_Type)(pos:List Int)(neg:List Int):Option Bool :=
 Option.bind (Z5 pos (fun z1 =>
 Option.bind (b1y n z1 v t) fun r2 =>
 some r2)) fun r3 =>
 Option.bind (bif !r3
 then (Option.bind (Z5 neg (fun z4 =>
 Option.bind (b1d n z4 v t) fun r5 =>
 some r5)) fun r6 =>
 some (!r6))
 else (some false)) fun q7 =>
 some q7
def a4M (n:Nat)(v:Val)(t:Api_Type)(g:Api_Goal):Option Bool :=
 Option.bind (a7x n v) fun r1 =>
 Option.bind (bif r1 != 0
 then (some true)
 else (Option.bind (a09 n t) fun r2 =>
 some (r2 != 0))) fun q3 =>
 Option.bind (bif q3
 then (some true)
 else (Option.bind (a71 t g) fun r4 =>
 some (!r4))) fun q5 =>
 bif q5
 then (some false)
 else (Option.bind (bif g.Lists
 then (some (v.Kind != 5))
 else (some false)) fun q6 =>
 Option.bind (bif q6
 then (some (v.Kind != 7))
 else (some false)) fun q7 =>
 bif q7
 then (some false)
 else (Option.bind (b0r n v t g.Pos g.Neg) fun r8 =>
 some r8))
def a9b (g:Api_Goal):Option Api_Goal :=
 Option.bind (a6L g) fun r1 =>
 some r1
noncomputable def a23 (n:Nat):Option Bool :=
 Option.bind (a6J n (Api_Type.mk ([Api_TypeNode.mk 16 0 0 (⟨#[]⟩:ByteArray) ([1,2]:List Int) ([]:List Api_Field) (0,0),Api_TypeNode.mk 3 0 9 (⟨#[]⟩:ByteArray) ([]:List Int) ([]:List Api_Field) (0,0),Api_TypeNode.mk 9 0 0 (⟨#[]⟩:ByteArray) ([]:List Int) ([]:List Api_Field) (0,0)]:List Api_TypeNode) 0) (Api_Goal.mk ([0]:List Int) ([]:List Int) false)) fun r1 =>
 Option.bind (bif decide (0<(r1.length:Int))
 then (Option.bind (a1Y 3) fun r2 =>
 Option.bind (a4M n r2 (Api_Type.mk ([Api_TypeNode.mk 16 0 0 (⟨#[]⟩:ByteArray) ([1,2]:List Int) ([]:List Api_Field) (0,0),Api_TypeNode.mk 3 0 9 (⟨#[]⟩:ByteArray) ([]:List Int) ([]:List Api_Field) (0,0),Api_TypeNode.mk 9 0 0 (⟨#[]⟩:ByteArray) ([]:List Int) ([]:List Api_Field) (0,0)]:List Api_TypeNode) 0) (Api_Goal.mk ([0]:List Int) ([]:List Int) false)) fun r3 =>
 some r3)
 else (some false)) fun q4 =>
 Option.bind (bif q4
 then (Option.bind (a1Y 10) fun r5 =>
 Option.bind (a4M n r5 (Api_Type.mk ([Api_TypeNode.mk 16 0 0 (⟨#[]⟩:ByteArray) ([1,2]:List Int) ([]:List Api_Field) (0,0),Api_TypeNode.mk 3 0 9 (⟨#[]⟩:ByteArray) ([]:List Int) ([]:List Api_Field) (0,0),Api_TypeNode.mk 9 0 0 (⟨#[]⟩:ByteArray) ([]:List Int) ([]:List Api_Field) (0,0)]:List Api_TypeNode) 0) (Api_Goal.mk ([0]:List Int) ([]:List Int) false)) fun r6 =>
 some (!r6))
 else (some false)) fun q7 =>
 bif q7
 then (Option.bind (a9b (Api_Goal.mk ([2,1,2]:List Int) ([]:List Int) false)) fun r8 =>
 some ((r8.Pos.length:Int)==2))
 else (some false)
def z8 (s:Semtypebase_Source)(n_1:Int):Option (Int×Semtypebase_Source) :=
 Option.bind (bif decide (n_1<1)
 then (some true)
 else (some (decide ((s.L.length:Int)<=s.At)))) fun q1 =>
 bif q1
 then (some (0,s))
 else (Option.bind (idx s.L s.At) fun e2 =>
 Option.bind (c0Y e2 n_1) fun d3 =>
 bif decide (d3<0)
 then (some (wr .i64 (d3+n_1),Semtypebase_Source.mk s.L (wr .i64 (s.At+1))))
 else (some (d3,Semtypebase_Source.mk s.L (wr .i64 (s.At+1)))))
def V6 (s:Semtypebase_Source):Option (ByteArray×Semtypebase_Source) :=
 Option.bind (z8 s 4) fun r1 =>
 Option.bind (idx ([(⟨#[97]⟩:ByteArray),(⟨#[98]⟩:ByteArray),(⟨#[111,107]⟩:ByteArray),(⟨#[101,114,114,111,114]⟩:ByteArray)]:List ByteArray) r1.1) fun _ =>
 Option.bind (([(⟨#[97]⟩:ByteArray),(⟨#[98]⟩:ByteArray),(⟨#[111,107]⟩:ByteArray),(⟨#[101,114,114,111,114]⟩:ByteArray)]:List ByteArray)[r1.1.toNat]?) fun e3 =>
 some (e3,r1.2)
def a0d (s:Semtypebase_Source):Option (ByteArray×Semtypebase_Source) :=
 Option.bind (z8 s 4) fun r1 =>
 Option.bind (idx ([(⟨#[]⟩:ByteArray),(⟨#[115]⟩:ByteArray),(⟨#[120,32,121]⟩:ByteArray),(⟨#[97]⟩:ByteArray)]:List ByteArray) r1.1) fun _ =>
 Option.bind (([(⟨#[]⟩:ByteArray),(⟨#[115]⟩:ByteArray),(⟨#[120,32,121]⟩:ByteArray),(⟨#[97]⟩:ByteArray)]:List ByteArray)[r1.1.toNat]?) fun e3 =>
 some (e3,r1.2)
def a0D (s:Semtypebase_Source):Option (ByteArray×Semtypebase_Source) :=
 Option.bind (z8 s 3) fun r1 =>
 Option.bind (idx ([(⟨#[65]⟩:ByteArray),(⟨#[66]⟩:ByteArray),(⟨#[67]⟩:ByteArray)]:List ByteArray) r1.1) fun _ =>
 Option.bind (([(⟨#[65]⟩:ByteArray),(⟨#[66]⟩:ByteArray),(⟨#[67]⟩:ByteArray)]:List ByteArray)[r1.1.toNat]?) fun e3 =>
 some (e3,r1.2)
def a1r (from_:Int)(n_3:Int)(x1:Int×(List Int)×Semtypebase_Source):Option (Fl (Int×(List Int)×Semtypebase_Source) ((List Int)×Semtypebase_Source)) :=
 bif decide (0<x1.1)
 then (Option.bind (z8 x1.2.2 (wr .i64 (n_3-from_))) fun r2 =>
 Option.bind (Z4 (x1.2.1.length+([wr .i64 (from_+r2.1)]:List Int).length) 8) fun _ =>
 some (.next (wr .i64 (x1.1-1),x1.2.1++([wr .i64 (from_+r2.1)]:List Int),r2.2)))
 else (some (.done (x1.2.1,x1.2.2)))
def k9 (s:Semtypebase_Source)(many:Int)(from_:Int)(n_3:Int):Option ((List Int)×Semtypebase_Source) :=
 Option.bind (iter (a1r from_ n_3) (many.toNat+2) (many,[],s)) fun b4 =>
 some (b4.1,b4.2)
def W7 (n_1:Int)(x3:Int×Semtypebase_Source×(Int×Int×Int×ByteArray×(List Int)×(List Api_Field)×Int×Int)):Option (Fl (Int×Semtypebase_Source×(Int×Int×Int×ByteArray×(List Int)×(List Api_Field)×Int×Int)) (Semtypebase_Source×(Int×Int×Int×ByteArray×(List Int)×(List Api_Field)×Int×Int))) :=
 bif decide (x3.1<3)
 then (Option.bind (Option.bind (z8 x3.2.1 2) fun r4 =>
 bif r4.1==1
 then (Option.bind (idx ([Key.mk 0 (⟨#[97]⟩:ByteArray),Key.mk 0 (⟨#[98]⟩:ByteArray),Key.mk 1 (⟨#[115]⟩:ByteArray)]:List Key) x3.1) fun e5 =>
 Option.bind (z8 r4.2 n_1) fun r6 =>
 Option.bind (z8 r6.2 2) fun r7 =>
 Option.bind (Z4 (x3.2.2.2.2.2.2.2.1.length+([Api_Field.mk e5 r6.1 (r7.1==1)]:List Api_Field).length) 40) fun _ =>
 some (r7.2,(x3.2.2.1,x3.2.2.2.1,x3.2.2.2.2.1,x3.2.2.2.2.2.1,x3.2.2.2.2.2.2.1,x3.2.2.2.2.2.2.2.1++([Api_Field.mk e5 r6.1 (r7.1==1)]:List Api_Field),x3.2.2.2.2.2.2.2.2.1,x3.2.2.2.2.2.2.2.2.2)))
 else (some (r4.2,(x3.2.2.1,x3.2.2.2.1,x3.2.2.2.2.1,x3.2.2.2.2.2.1,x3.2.2.2.2.2.2.1,x3.2.2.2.2.2.2.2.1,x3.2.2.2.2.2.2.2.2.1,x3.2.2.2.2.2.2.2.2.2)))) fun b9 =>
 some (.next (wr .i64 (x3.1+1),b9.1,(b9.2.1,b9.2.2.1,b9.2.2.2.1,b9.2.2.2.2.1,b9.2.2.2.2.2.1,b9.2.2.2.2.2.2.1,b9.2.2.2.2.2.2.2.1,b9.2.2.2.2.2.2.2.2))))
 else (some (.done (x3.2.1,(x3.2.2.1,x3.2.2.2.1,x3.2.2.2.2.1,x3.2.2.2.2.2.1,x3.2.2.2.2.2.2.1,x3.2.2.2.2.2.2.2.1,x3.2.2.2.2.2.2.2.2.1,x3.2.2.2.2.2.2.2.2.2))))
def a2i (s:Semtypebase_Source)(n_1:Int):Option (Api_TypeNode×Semtypebase_Source) :=
 Option.bind (z8 s n_1) fun r1 =>
 Option.bind (z8 r1.2 n_1) fun r2 =>
 Option.bind (iter (W7 n_1) ((3:Int).toNat+1) (0,r2.2,(13,0,0,(⟨#[]⟩:ByteArray),[],[],r1.1,r2.1))) fun b10 =>
 some (Api_TypeNode.mk b10.2.1 b10.2.2.1 b10.2.2.2.1 b10.2.2.2.2.1 b10.2.2.2.2.2.1 b10.2.2.2.2.2.2.1 (b10.2.2.2.2.2.2.2.1,b10.2.2.2.2.2.2.2.2),b10.1)
def a3i (d:Semtypebase_Source)(t:Int)(a2_2:Int):Option (Api_TypeNode×Semtypebase_Source) :=
 Option.bind (bif t==(wr .i64 (a2_2-1))
 then (some 14)
 else (some 18)) fun b1 =>
 Option.bind (z8 d b1) fun r2 =>
 bif r2.1==0
 then (Option.bind (z8 r2.2 5) fun r3 =>
 Option.bind (idx ([(-9223372036854775808),0,1,2,9223372036854775807]:List Int) r3.1) fun _ =>
 Option.bind (([(-9223372036854775808),0,1,2,9223372036854775807]:List Int)[r3.1.toNat]?) fun e5 =>
 Option.bind (z8 r3.2 (wr .i64 (5-r3.1))) fun r6 =>
 Option.bind (idx ([(-9223372036854775808),0,1,2,9223372036854775807]:List Int) (wr .i64 (r3.1+r6.1))) fun _ =>
 Option.bind (([(-9223372036854775808),0,1,2,9223372036854775807]:List Int)[(wr .i64 (r3.1+r6.1)).toNat]?) fun e8 =>
 some (Api_TypeNode.mk 3 e5 e8 (⟨#[]⟩:ByteArray) ([]:List Int) ([]:List Api_Field) (0,0),r6.2))
 else (bif r2.1==1
 then (Option.bind (V6 r2.2) fun r9 =>
 some (Api_TypeNode.mk 6 0 0 r9.1 ([]:List Int) ([]:List Api_Field) (0,0),r9.2))
 else (bif r2.1==2
 then (some (Api_TypeNode.mk 7 0 0 (⟨#[]⟩:ByteArray) ([]:List Int) ([]:List Api_Field) (0,0),r2.2))
 else (bif r2.1==3
 then (Option.bind (a0d r2.2) fun r10 =>
 some (Api_TypeNode.mk 4 0 0 r10.1 ([]:List Int) ([]:List Api_Field) (0,0),r10.2))
 else (bif r2.1==4
 then (Option.bind (z8 r2.2 4) fun r11 =>
 Option.bind (idx ([5,8,11,15]:List Int) r11.1) fun _ =>
 Option.bind (([5,8,11,15]:List Int)[r11.1.toNat]?) fun e13 =>
 some (Api_TypeNode.mk e13 0 0 (⟨#[]⟩:ByteArray) ([]:List Int) ([]:List Api_Field) (0,0),r11.2))
 else (bif r2.1==5
 then (some (Api_TypeNode.mk 9 0 0 (⟨#[]⟩:ByteArray) ([]:List Int) ([]:List Api_Field) (0,0),r2.2))
 else (bif r2.1==6
 then (Option.bind (z8 r2.2 2) fun r14 =>
 Option.bind (idx ([2,1]:List Int) r14.1) fun _ =>
 Option.bind (([2,1]:List Int)[r14.1.toNat]?) fun e16 =>
 some (Api_TypeNode.mk e16 0 0 (⟨#[]⟩:ByteArray) ([]:List Int) ([]:List Api_Field) (0,0),r14.2))
 else (bif r2.1==7
 then (Option.bind (a0D r2.2) fun r17 =>
 some (Api_TypeNode.mk 19 0 0 r17.1 ([]:List Int) ([]:List Api_Field) (0,0),r17.2))
 else (Option.bind (bif r2.1==8
 then (some (r2.1==8))
 else (some (r2.1==9))) fun b18 =>
 bif b18
 then (Option.bind (z8 r2.2 3) fun r19 =>
 Option.bind (k9 r19.2 r19.1 0 a2_2) fun r20 =>
 some (Api_TypeNode.mk 10 0 0 (⟨#[]⟩:ByteArray) r20.1 ([]:List Api_Field) (0,0),r20.2))
 else (bif r2.1==10
 then (Option.bind (k9 r2.2 2 0 a2_2) fun r21 =>
 some (Api_TypeNode.mk 12 0 0 (⟨#[]⟩:ByteArray) r21.1 ([]:List Api_Field) (0,0),r21.2))
 else (bif r2.1==11
 then (Option.bind (a2i r2.2 a2_2) fun r22 =>
 some (r22.1,r22.2))
 else (Option.bind (bif r2.1==12
 then (some (r2.1==12))
 else (some (r2.1==13))) fun b23 =>
 bif b23
 then (Option.bind (z8 r2.2 3) fun r24 =>
 Option.bind (k9 r24.2 (wr .i64 (1+r24.1)) 0 a2_2) fun r25 =>
 some (Api_TypeNode.mk 14 0 0 (⟨#[]⟩:ByteArray) r25.1 ([]:List Api_Field) (0,0),r25.2))
 else (bif r2.1==14
 then (Option.bind (k9 r2.2 1 (wr .i64 (t+1)) a2_2) fun r26 =>
 some (Api_TypeNode.mk 18 0 0 (⟨#[]⟩:ByteArray) r26.1 ([]:List Api_Field) (0,0),r26.2))
 else (bif r2.1==15
 then (Option.bind (k9 r2.2 2 (wr .i64 (t+1)) a2_2) fun r27 =>
 some (Api_TypeNode.mk 17 0 0 (⟨#[]⟩:ByteArray) r27.1 ([]:List Api_Field) (0,0),r27.2))
 else (Option.bind (z8 r2.2 2) fun r28 =>
 Option.bind (k9 r28.2 (wr .i64 (2+r28.1)) (wr .i64 (t+1)) a2_2) fun r29 =>
 some (Api_TypeNode.mk 16 0 0 (⟨#[]⟩:ByteArray) r29.1 ([]:List Api_Field) (0,0),r29.2)))))))))))))))
def a0X (n_1:Int)(x1:Int×Semtypebase_Source×((List Api_TypeNode)×Int)):Option (Fl (Int×Semtypebase_Source×((List Api_TypeNode)×Int)) (Semtypebase_Source×((List Api_TypeNode)×Int))) :=
 bif decide (x1.1<(max n_1 1))
 then (Option.bind (a3i x1.2.1 x1.1 (max n_1 1)) fun r2 =>
 Option.bind (Z4 (x1.2.2.1.length+([r2.1]:List Api_TypeNode).length) 104) fun _ =>
 some (.next (wr .i64 (x1.1+1),r2.2,(x1.2.2.1++([r2.1]:List Api_TypeNode),x1.2.2.2))))
 else (some (.done (x1.2.1,(x1.2.2.1,x1.2.2.2))))
def a1N (s:Semtypebase_Source)(n_1:Int):Option (Api_Type×Semtypebase_Source) :=
 Option.bind (iter (a0X n_1) ((max n_1 1).toNat+1) (0,s,([],0))) fun b4 =>
 some (Api_Type.mk b4.2.1 b4.2.2,b4.1)
def a0m (s:Semtypebase_Source):Option (Int×Semtypebase_Source) :=
 Option.bind (z8 s 10) fun r1 =>
 Option.bind (idx ([0,1,(-1),2,3,(-2),7,(-9223372036854775808),9223372036854775807,10]:List Int) r1.1) fun _ =>
 Option.bind (([0,1,(-1),2,3,(-2),7,(-9223372036854775808),9223372036854775807,10]:List Int)[r1.1.toNat]?) fun e3 =>
 some (e3,r1.2)
def a3r (s:ByteArray):Option Val :=
 some (Val.mk 3 0 s ([]:List Val) ([]:List Key) ([]:List Ent) ([]:List ByteArray))
def a2p (s:ByteArray):Option Val :=
 some (Val.mk 2 0 s ([]:List Val) ([]:List Key) ([]:List Ent) ([]:List ByteArray))
def a5g (n_0:Int):Option Val :=
 some (Val.mk 4 n_0 (⟨#[]⟩:ByteArray) ([]:List Val) ([]:List Key) ([]:List Ent) ([]:List ByteArray))
def V9:Option Val :=
 some (Val.mk 5 0 (⟨#[]⟩:ByteArray) ([]:List Val) ([]:List Key) ([]:List Ent) ([]:List ByteArray))
def a1u (l:List Val):Option (List Val) :=
 Option.bind (Z4 (0+l.length) 128) fun _ =>
 some l
def a1V (l:List Val):Option Val :=
 Option.bind (a1u l) fun r1 =>
 some (Val.mk 6 0 (⟨#[]⟩:ByteArray) r1 ([]:List Key) ([]:List Ent) ([]:List ByteArray))
def Q9 (s:Semtypebase_Source):Option (Val×Semtypebase_Source) :=
 Option.bind (z8 s 6) fun r1 =>
 bif r1.1==0
 then (Option.bind (a0m r1.2) fun r2 =>
 Option.bind (a1Y r2.1) fun r3 =>
 some (r3,r2.2))
 else (bif r1.1==1
 then (Option.bind (V6 r1.2) fun r4 =>
 Option.bind (a3r r4.1) fun r5 =>
 some (r5,r4.2))
 else (bif r1.1==2
 then (Option.bind (a0d r1.2) fun r6 =>
 Option.bind (a2p r6.1) fun r7 =>
 some (r7,r6.2))
 else (bif r1.1==3
 then (Option.bind (z8 r1.2 3) fun r8 =>
 Option.bind (a5g r8.1) fun r9 =>
 some (r9,r8.2))
 else (bif r1.1==4
 then (Option.bind (V9) fun r10 =>
 some (r10,r1.2))
 else (Option.bind (a1V ([]:List Val)) fun r11 =>
 some (r11,r1.2))))))
def a21 (c:Int):Option Bool :=
 Option.bind (bif decide (97<=c)
 then (some (decide (c<=122)))
 else (some false)) fun q1 =>
 some q1
def a32 (c:Int):Option Bool :=
 Option.bind (bif decide (48<=c)
 then (some (decide (c<=57)))
 else (some false)) fun q1 =>
 some q1
def a5H (s:ByteArray)(x5:Int):Option (Fl Int (Sum Unit Bool)) :=
 bif decide (x5<(s.size:Int))
 then (Option.bind (a6i s x5) fun e6 =>
 Option.bind (a21 (e6.toNat:Int)) fun r7 =>
 Option.bind (bif !r7
 then (Option.bind (a6i s x5) fun e8 =>
 Option.bind (a32 (e8.toNat:Int)) fun r9 =>
 some (!r9))
 else (some false)) fun q10 =>
 Option.bind (bif q10
 then (Option.bind (a6i s x5) fun e11 =>
 some ((e11.toNat:Int) != 95))
 else (some false)) fun q12 =>
 bif q12
 then (some (.done (.inr false)))
 else (some (.next (wr .i64 (x5+1)))))
 else (some (.done (.inl ())))
def a3I (s:ByteArray):Option Bool :=
 Option.bind (bif decide ((s.size:Int)<1)
 then (some true)
 else (some (decide (16<(s.size:Int))))) fun q1 =>
 Option.bind (bif q1
 then (some true)
 else (Option.bind (a6i s 0) fun e2 =>
 Option.bind (a21 (e2.toNat:Int)) fun r3 =>
 some (!r3))) fun q4 =>
 bif q4
 then (some false)
 else (Option.bind (iter (a5H s) ((s.size:Int).toNat+1) 1) fun b13 =>
 onEnd (fun _ =>
 some true) (fun y15 =>
 some y15) b13)
def a2I (k:Key):Option Bool :=
 Option.bind (bif k.Kind==0
 then (Option.bind (a3I k.Text) fun r1 =>
 some r1)
 else (some false)) fun q2 =>
 Option.bind (bif q2
 then (some true)
 else (Option.bind (bif k.Kind==1
 then (some (decide ((k.Text.size:Int)<=64)))
 else (some false)) fun q3 =>
 some q3)) fun q4 =>
 some q4
def a2Y (a:Int)(b:Int):Option Int :=
 bif decide (a<b)
 then (some (-1))
 else (bif decide (b<a)
 then (some 1)
 else (some 0))
def a1w (a:ByteArray)(b:ByteArray):Option Int :=
 bif a2g a b
 then (some (-1))
 else (bif !(a2g a b||Y0 a b)
 then (some 1)
 else (some 0))
def a0e (a:Key)(b:Key):Option Int :=
 bif a.Kind != b.Kind
 then (Option.bind (a2Y a.Kind b.Kind) fun r1 =>
 some r1)
 else (Option.bind (a1w a.Text b.Text) fun r2 =>
 some r2)
def a1t (d:List Key)(x1:Int×(Int×Int×ByteArray×(List Val)×(List Key)×(List Ent)×(List ByteArray))):Option (Fl (Int×(Int×Int×ByteArray×(List Val)×(List Key)×(List Ent)×(List ByteArray))) (Sum (Int×Int×ByteArray×(List Val)×(List Key)×(List Ent)×(List ByteArray)) (Int×(Int×Int×ByteArray×(List Val)×(List Key)×(List Ent)×(List ByteArray))))) :=
 bif decide (x1.1<(d.length:Int))
 then (Option.bind (idx d x1.1) fun e2 =>
 Option.bind (a2I e2) fun r3 =>
 bif !r3
 then (some (.done (.inr (1,(0,0,(⟨#[]⟩:ByteArray),[],[],[],[])))))
 else (some (.next (wr .i64 (x1.1+1),(x1.2.1,x1.2.2.1,x1.2.2.2.1,x1.2.2.2.2.1,x1.2.2.2.2.2.1,x1.2.2.2.2.2.2.1,x1.2.2.2.2.2.2.2)))))
 else (some (.done (.inl (x1.2.1,x1.2.2.1,x1.2.2.2.1,x1.2.2.2.2.1,x1.2.2.2.2.2.1,x1.2.2.2.2.2.2.1,x1.2.2.2.2.2.2.2))))
def a5c (d:List Key)(x7:Int×(Int×Int×ByteArray×(List Val)×(List Key)×(List Ent)×(List ByteArray))×(Int×Int×ByteArray×(List Val)×(List Key)×(List Ent)×(List ByteArray)))(x8:Int):Option (Fl Int Int) :=
 Option.bind (bif decide (x8<(x7.2.2.2.2.2.2.1.length:Int))
 then (Option.bind (idx x7.2.2.2.2.2.2.1 x8) fun e9 =>
 Option.bind (idx d x7.1) fun e10 =>
 Option.bind (a0e e9 e10) fun r11 =>
 some (decide (r11<0)))
 else (some false)) fun q12 =>
 bif q12
 then (some (.next (wr .i64 (x8+1))))
 else (some (.done x8))
def a0J (d:List Key)(t:List Val)(x7:Int×(Int×Int×ByteArray×(List Val)×(List Key)×(List Ent)×(List ByteArray))×(Int×Int×ByteArray×(List Val)×(List Key)×(List Ent)×(List ByteArray))):Option (Fl (Int×(Int×Int×ByteArray×(List Val)×(List Key)×(List Ent)×(List ByteArray))×(Int×Int×ByteArray×(List Val)×(List Key)×(List Ent)×(List ByteArray))) (Sum ((Int×Int×ByteArray×(List Val)×(List Key)×(List Ent)×(List ByteArray))×(Int×Int×ByteArray×(List Val)×(List Key)×(List Ent)×(List ByteArray))) (Int×(Int×Int×ByteArray×(List Val)×(List Key)×(List Ent)×(List ByteArray))×(Int×Int×ByteArray×(List Val)×(List Key)×(List Ent)×(List ByteArray))))) :=
 bif decide (x7.1<(d.length:Int))
 then (Option.bind (iter (a5c d x7) ((x7.2.2.2.2.2.2.1.length:Int).toNat+1) 0) fun b13 =>
 Option.bind (bif decide (b13<(x7.2.2.2.2.2.2.1.length:Int))
 then (Option.bind (idx x7.2.2.2.2.2.2.1 b13) fun e14 =>
 Option.bind (idx d x7.1) fun e15 =>
 some (a5Q e14 e15))
 else (some false)) fun q16 =>
 bif q16
 then (some (.done (.inr (6,(0,0,(⟨#[]⟩:ByteArray),[],[],[],[]),(x7.2.2.1,x7.2.2.2.1,x7.2.2.2.2.1,x7.2.2.2.2.2.1,x7.2.2.2.2.2.2.1,x7.2.2.2.2.2.2.2.1,x7.2.2.2.2.2.2.2.2)))))
 else (Option.bind (cut x7.2.2.2.2.2.2.1 0 b13) fun y17 =>
 Option.bind (Z4 (0+y17.length) 24) fun _ =>
 Option.bind (cut x7.2.2.2.2.2.1 0 b13) fun y19 =>
 Option.bind (a1u y19) fun r20 =>
 Option.bind (idx d x7.1) fun e21 =>
 Option.bind (Z4 (y17.length+([e21]:List Key).length) 24) fun _ =>
 Option.bind (cut x7.2.2.2.2.2.2.1 b13 (x7.2.2.2.2.2.2.1.length:Int)) fun y23 =>
 Option.bind (Z4 ((y17++([e21]:List Key)).length+y23.length) 24) fun _ =>
 Option.bind (idx t x7.1) fun e25 =>
 Option.bind (Z4 (r20.length+([e25]:List Val).length) 128) fun _ =>
 Option.bind (cut x7.2.2.2.2.2.1 b13 (x7.2.2.2.2.2.1.length:Int)) fun y27 =>
 Option.bind (Z4 ((r20++([e25]:List Val)).length+y27.length) 128) fun _ =>
 some (.next (wr .i64 (x7.1+1),(x7.2.1.1,x7.2.1.2.1,x7.2.1.2.2.1,x7.2.1.2.2.2.1,x7.2.1.2.2.2.2.1,x7.2.1.2.2.2.2.2.1,x7.2.1.2.2.2.2.2.2),(x7.2.2.1,x7.2.2.2.1,x7.2.2.2.2.1,(r20++([e25]:List Val))++y27,(y17++([e21]:List Key))++y23,x7.2.2.2.2.2.2.2.1,x7.2.2.2.2.2.2.2.2)))))
 else (some (.done (.inl ((x7.2.1.1,x7.2.1.2.1,x7.2.1.2.2.1,x7.2.1.2.2.2.1,x7.2.1.2.2.2.2.1,x7.2.1.2.2.2.2.2.1,x7.2.1.2.2.2.2.2.2),(x7.2.2.1,x7.2.2.2.1,x7.2.2.2.2.1,x7.2.2.2.2.2.1,x7.2.2.2.2.2.2.1,x7.2.2.2.2.2.2.2.1,x7.2.2.2.2.2.2.2.2)))))
def a1e (d:List Key)(t:List Val):Option (Val×Int) :=
 bif (d.length:Int) != (t.length:Int)
 then (some (Val.mk 0 0 (⟨#[]⟩:ByteArray) ([]:List Val) ([]:List Key) ([]:List Ent) ([]:List ByteArray),1))
 else (Option.bind (iter (a1t d) ((d.length:Int).toNat+1) (0,(0,0,(⟨#[]⟩:ByteArray),[],[],[],[]))) fun (b4:Sum (Int×Int×ByteArray×(List Val)×(List Key)×(List Ent)×(List ByteArray)) (Int×(Int×Int×ByteArray×(List Val)×(List Key)×(List Ent)×(List ByteArray)))) =>
 onEnd (fun x5 =>
 Option.bind (iter (a0J d t) ((d.length:Int).toNat+1) (0,(x5.1,x5.2.1,x5.2.2.1,x5.2.2.2.1,x5.2.2.2.2.1,x5.2.2.2.2.2.1,x5.2.2.2.2.2.2),(8,0,(⟨#[]⟩:ByteArray),([]:List Val),([]:List Key),[],[]))) fun (b29:Sum ((Int×Int×ByteArray×(List Val)×(List Key)×(List Ent)×(List ByteArray))×(Int×Int×ByteArray×(List Val)×(List Key)×(List Ent)×(List ByteArray))) (Int×(Int×Int×ByteArray×(List Val)×(List Key)×(List Ent)×(List ByteArray))×(Int×Int×ByteArray×(List Val)×(List Key)×(List Ent)×(List ByteArray)))) =>
 onEnd (fun x30 =>
 some (Val.mk x30.2.1 x30.2.2.1 x30.2.2.2.1 x30.2.2.2.2.1 x30.2.2.2.2.2.1 x30.2.2.2.2.2.2.1 x30.2.2.2.2.2.2.2,0)) (fun y31 =>
 some (Val.mk y31.2.1.1 y31.2.1.2.1 y31.2.1.2.2.1 y31.2.1.2.2.2.1 y31.2.1.2.2.2.2.1 y31.2.1.2.2.2.2.2.1 y31.2.1.2.2.2.2.2.2,y31.1)) b29) (fun y6 =>
 some (Val.mk y6.2.1 y6.2.2.1 y6.2.2.2.1 y6.2.2.2.2.1 y6.2.2.2.2.2.1 y6.2.2.2.2.2.2.1 y6.2.2.2.2.2.2.2,y6.1)) b4)
def a0r (a:Int)(b:Int):Option Int :=
 Option.bind (a2Y a b) fun r1 =>
 some r1
def a72 (d:Val)(t:Val)(x5:Int):Option (Fl Int (Sum Unit Int)) :=
 bif decide (x5<(d.Keys.length:Int))
 then (Option.bind (idx d.Keys x5) fun e6 =>
 Option.bind (idx t.Keys x5) fun e7 =>
 Option.bind (a0e e6 e7) fun r8 =>
 bif r8 != 0
 then (some (.done (.inr r8)))
 else (some (.next (wr .i64 (x5+1)))))
 else (some (.done (.inl ())))
def a8c (d:Val)(t:Val)(rec_semtyperef1_CompareEntries:Ent->Ent->Option Int)(x14:Int):Option (Fl Int (Sum Unit Int)) :=
 bif decide (x14<(d.Entries.length:Int))
 then (Option.bind (idx d.Entries x14) fun e15 =>
 Option.bind (idx t.Entries x14) fun e16 =>
 Option.bind (rec_semtyperef1_CompareEntries e15 e16) fun r17 =>
 bif r17 != 0
 then (some (.done (.inr r17)))
 else (some (.next (wr .i64 (x14+1)))))
 else (some (.done (.inl ())))
def a78 (d:Val)(t:Val)(x22:Int):Option (Fl Int (Sum Unit Int)) :=
 bif decide (x22<(d.Labels.length:Int))
 then (Option.bind (idx d.Labels x22) fun e23 =>
 Option.bind (idx t.Labels x22) fun e24 =>
 Option.bind (a1w e23 e24) fun r25 =>
 bif r25 != 0
 then (some (.done (.inr r25)))
 else (some (.next (wr .i64 (x22+1)))))
 else (some (.done (.inl ())))
def a8P (a:List Val)(b:List Val)(rec_semtyperef1_Compare:Val->Val->Option Int)(x2:Int):Option (Fl Int (Sum Unit Int)) :=
 bif decide (x2<(a.length:Int))
 then (Option.bind (idx a x2) fun e3 =>
 Option.bind (idx b x2) fun e4 =>
 Option.bind (rec_semtyperef1_Compare e3 e4) fun r5 =>
 bif r5 != 0
 then (some (.done (.inr r5)))
 else (some (.next (wr .i64 (x2+1)))))
 else (some (.done (.inl ())))
def a5Y (_:Nat)(_:Val->Val->Option Int)(rec_semtyperef1_values:(List Val)->(List Val)->Option Int)(rec_semtyperef1_CompareEntries:Ent->Ent->Option Int)(d:Val)(t:Val):Option Int :=
 bif d.Kind != t.Kind
 then (Option.bind (a0r d.Kind t.Kind) fun r1 =>
 some r1)
 else (bif d.Int_ != t.Int_
 then (Option.bind (a2Y d.Int_ t.Int_) fun r2 =>
 some r2)
 else (bif !(Y0 d.Text t.Text)
 then (Option.bind (a1w d.Text t.Text) fun r3 =>
 some r3)
 else (bif (d.Keys.length:Int) != (t.Keys.length:Int)
 then (Option.bind (a0r (d.Keys.length:Int) (t.Keys.length:Int)) fun r4 =>
 some r4)
 else (Option.bind (iter (a72 d t) ((d.Keys.length:Int).toNat+1) 0) fun b9 =>
 onEnd (fun _ =>
 Option.bind (rec_semtyperef1_values d.Kids t.Kids) fun r12 =>
 bif r12 != 0
 then (some r12)
 else (bif (d.Entries.length:Int) != (t.Entries.length:Int)
 then (Option.bind (a0r (d.Entries.length:Int) (t.Entries.length:Int)) fun r13 =>
 some r13)
 else (Option.bind (iter (a8c d t rec_semtyperef1_CompareEntries) ((d.Entries.length:Int).toNat+1) 0) fun b18 =>
 onEnd (fun _ =>
 bif (d.Labels.length:Int) != (t.Labels.length:Int)
 then (Option.bind (a0r (d.Labels.length:Int) (t.Labels.length:Int)) fun r21 =>
 some r21)
 else (Option.bind (iter (a78 d t) ((d.Labels.length:Int).toNat+1) 0) fun b26 =>
 onEnd (fun _ =>
 some 0) (fun y28 =>
 some y28) b26)) (fun y20 =>
 some y20) b18))) (fun y11 =>
 some y11) b9))))
def a6g (_:Nat)(rec_semtyperef1_Compare:Val->Val->Option Int)(_:(List Val)->(List Val)->Option Int)(_:Ent->Ent->Option Int)(a:List Val)(b:List Val):Option Int :=
 bif (a.length:Int) != (b.length:Int)
 then (Option.bind (a0r (a.length:Int) (b.length:Int)) fun r1 =>
 some r1)
 else (Option.bind (iter (a8P a b rec_semtyperef1_Compare) ((a.length:Int).toNat+1) 0) fun b6 =>
 onEnd (fun _ =>
 some 0) (fun y8 =>
 some y8) b6)
def a3n (_:Nat)(rec_semtyperef1_Compare:Val->Val->Option Int)(rec_semtyperef1_values:(List Val)->(List Val)->Option Int)(_:Ent->Ent->Option Int)(a:Ent)(b:Ent):Option Int :=
 Option.bind (rec_semtyperef1_values a.Args b.Args) fun r1 =>
 bif r1 != 0
 then (some r1)
 else (bif a.Fails != b.Fails
 then (bif a.Fails
 then (some (-1))
 else (some 1))
 else (Option.bind (rec_semtyperef1_Compare a.Result b.Result) fun r2 =>
 some r2))
def Q1:Nat->(Val->Val->Option Int)×((List Val)->(List Val)->Option Int)×(Ent->Ent->Option Int)
 | 0=>(fun _ _=>none,fun _ _=>none,fun _ _=>none)
 | n+1=>(a5Y n ((Q1 n).1) ((Q1 n).2.1) ((Q1 n).2.2),a6g n ((Q1 n).1) ((Q1 n).2.1) ((Q1 n).2.2),a3n n ((Q1 n).1) ((Q1 n).2.1) ((Q1 n).2.2))
def a0q (n:Nat):Val->Val->Option Int:=(Q1 n).1
def a3N (n:Nat):(List Val)->(List Val)->Option Int:=(Q1 n).2.1
def Y4 (n:Nat):Ent->Ent->Option Int:=(Q1 n).2.2
def a33 (n:Nat)(a:Val)(b:Val):Option Bool :=
 Option.bind (a0q n a b) fun r1 =>
 some (r1==0)
def a3v (l:List Ent)(x1:(List Ent)×Int)(n:Nat)(x2:Int):Option (Fl Int Int) :=
 Option.bind (bif decide (x2<(x1.1.length:Int))
 then (Option.bind (idx x1.1 x2) fun e3 =>
 Option.bind (idx l x1.2) fun _ =>
 Option.bind (l[x1.2.toNat]?) fun e5 =>
 Option.bind (Y4 n e3 e5) fun r6 =>
 some (decide (r6<0)))
 else (some false)) fun q7 =>
 bif q7
 then (some (.next (wr .i64 (x2+1))))
 else (some (.done x2))
def a0k (l:List Ent)(n:Nat)(x1:(List Ent)×Int):Option (Fl ((List Ent)×Int) (List Ent)) :=
 bif decide (x1.2<(l.length:Int))
 then (Option.bind (Option.bind (iter (a3v l x1 n) ((x1.1.length:Int).toNat+1) 0) fun b8 =>
 Option.bind (bif decide (b8<(x1.1.length:Int))
 then (Option.bind (idx x1.1 b8) fun e9 =>
 Option.bind (idx l x1.2) fun _ =>
 Option.bind (l[x1.2.toNat]?) fun e11 =>
 Option.bind (Y4 n e9 e11) fun r12 =>
 some (r12==0))
 else (some false)) fun q13 =>
 bif q13
 then (some x1.1)
 else (Option.bind (cut x1.1 0 b8) fun y14 =>
 Option.bind (Z4 (0+y14.length) 160) fun _ =>
 Option.bind (idx l x1.2) fun _ =>
 Option.bind (l[x1.2.toNat]?) fun e17 =>
 Option.bind (Z4 (y14.length+([e17]:List Ent).length) 160) fun _ =>
 Option.bind (cut x1.1 b8 (x1.1.length:Int)) fun y19 =>
 Option.bind (Z4 ((y14++([e17]:List Ent)).length+y19.length) 160) fun _ =>
 some ((y14++([e17]:List Ent))++y19))) fun b21 =>
 some (.next (b21,wr .i64 (x1.2+1))))
 else (some (.done x1.1))
def a4T (n:Nat)(l:List Ent):Option (List Ent) :=
 Option.bind (iter (a0k l n) ((l.length:Int).toNat+1) (([]:List Ent),0)) fun b22 =>
 some b22
def a0f (arity:Int)(l:List Ent)(n:Nat)(x2:Int×(Int×Int×ByteArray×(List Val)×(List Key)×(List Ent)×(List ByteArray))):Option (Fl (Int×(Int×Int×ByteArray×(List Val)×(List Key)×(List Ent)×(List ByteArray))) (Sum (Int×Int×ByteArray×(List Val)×(List Key)×(List Ent)×(List ByteArray)) (Int×(Int×Int×ByteArray×(List Val)×(List Key)×(List Ent)×(List ByteArray))))) :=
 bif decide (x2.1<(l.length:Int))
 then (Option.bind (idx l x2.1) fun _ =>
 Option.bind (l[x2.1.toNat]?) fun e4 =>
 Option.bind (bif (e4.Args.length:Int) != arity
 then (some true)
 else (Option.bind (idx l x2.1) fun _ =>
 Option.bind (l[x2.1.toNat]?) fun e6 =>
 Option.bind (bif e6.Fails
 then (Option.bind (idx l x2.1) fun _ =>
 Option.bind (l[x2.1.toNat]?) fun e8 =>
 Option.bind (a33 n e8.Result (Val.mk 0 0 (⟨#[]⟩:ByteArray) ([]:List Val) ([]:List Key) ([]:List Ent) ([]:List ByteArray))) fun r9 =>
 some (!r9))
 else (some false)) fun q10 =>
 some q10)) fun q11 =>
 bif q11
 then (some (.done (.inr (1,(0,0,(⟨#[]⟩:ByteArray),[],[],[],[])))))
 else (some (.next (wr .i64 (x2.1+1),(x2.2.1,x2.2.2.1,x2.2.2.2.1,x2.2.2.2.2.1,x2.2.2.2.2.2.1,x2.2.2.2.2.2.2.1,x2.2.2.2.2.2.2.2)))))
 else (some (.done (.inl (x2.2.1,x2.2.2.1,x2.2.2.2.1,x2.2.2.2.2.1,x2.2.2.2.2.2.1,x2.2.2.2.2.2.2.1,x2.2.2.2.2.2.2.2))))
def a0R (n:Nat)(arity:Int)(l:List Ent):Option (Val×Int) :=
 Option.bind (bif decide (arity<0)
 then (some true)
 else (some (decide (4<arity)))) fun q1 =>
 bif q1
 then (some (Val.mk 0 0 (⟨#[]⟩:ByteArray) ([]:List Val) ([]:List Key) ([]:List Ent) ([]:List ByteArray),1))
 else (Option.bind (iter (a0f arity l n) ((l.length:Int).toNat+1) (0,(0,0,(⟨#[]⟩:ByteArray),[],[],[],[]))) fun (b12:Sum (Int×Int×ByteArray×(List Val)×(List Key)×(List Ent)×(List ByteArray)) (Int×(Int×Int×ByteArray×(List Val)×(List Key)×(List Ent)×(List ByteArray)))) =>
 onEnd (fun _ =>
 Option.bind (a4T n l) fun r15 =>
 some (Val.mk 9 arity (⟨#[]⟩:ByteArray) ([]:List Val) ([]:List Key) r15 ([]:List ByteArray),0)) (fun y14 =>
 some (Val.mk y14.2.1 y14.2.2.1 y14.2.2.2.1 y14.2.2.2.2.1 y14.2.2.2.2.2.1 y14.2.2.2.2.2.2.1 y14.2.2.2.2.2.2.2,y14.1)) b12)
def a3S (l:List ByteArray)(x1:(List ByteArray)×Int)(x2:Int):Option (Fl Int Int) :=
 Option.bind (bif decide (x2<(x1.1.length:Int))
 then (Option.bind (idx x1.1 x2) fun e3 =>
 Option.bind (idx l x1.2) fun e4 =>
 some (a2g e3 e4))
 else (some false)) fun q5 =>
 bif q5
 then (some (.next (wr .i64 (x2+1))))
 else (some (.done x2))
def a0w (l:List ByteArray)(x1:(List ByteArray)×Int):Option (Fl ((List ByteArray)×Int) (List ByteArray)) :=
 bif decide (x1.2<(l.length:Int))
 then (Option.bind (Option.bind (iter (a3S l x1) ((x1.1.length:Int).toNat+1) 0) fun b6 =>
 Option.bind (bif decide (b6<(x1.1.length:Int))
 then (Option.bind (idx x1.1 b6) fun e7 =>
 Option.bind (idx l x1.2) fun e8 =>
 some (Y0 e7 e8))
 else (some false)) fun q9 =>
 bif q9
 then (some x1.1)
 else (Option.bind (cut x1.1 0 b6) fun y10 =>
 Option.bind (Z4 (0+y10.length) 16) fun _ =>
 Option.bind (idx l x1.2) fun e12 =>
 Option.bind (Z4 (y10.length+([e12]:List ByteArray).length) 16) fun _ =>
 Option.bind (cut x1.1 b6 (x1.1.length:Int)) fun y14 =>
 Option.bind (Z4 ((y10++([e12]:List ByteArray)).length+y14.length) 16) fun _ =>
 some ((y10++([e12]:List ByteArray))++y14))) fun b16 =>
 some (.next (b16,wr .i64 (x1.2+1))))
 else (some (.done x1.1))
def a0h (l:List ByteArray):Option (List ByteArray) :=
 Option.bind (iter (a0w l) ((l.length:Int).toNat+1) (([]:List ByteArray),0)) fun b17 =>
 some b17
def a3E (v:Val)(names:List ByteArray):Option Val :=
 Option.bind (a0h names) fun r1 =>
 some (Val.mk v.Kind v.Int_ v.Text v.Kids v.Keys v.Entries r1)
def a4J (head:Val)(tail:Val):Option Val :=
 some (Val.mk 7 0 (⟨#[]⟩:ByteArray) ([head,tail]:List Val) ([]:List Key) ([]:List Ent) ([]:List ByteArray))
def a1m (s:Semtypebase_Source):Option ((List ByteArray)×Semtypebase_Source) :=
 Option.bind (z8 s 3) fun r1 =>
 Option.bind (bif r1.1==1
 then (Option.bind (a0D r1.2) fun r2 =>
 Option.bind (Z4 (0+([r2.1]:List ByteArray).length) 16) fun _ =>
 Option.bind (z8 r2.2 2) fun r4 =>
 bif r4.1==1
 then (Option.bind (a0D r4.2) fun r5 =>
 Option.bind (Z4 (([r2.1]:List ByteArray).length+([r5.1]:List ByteArray).length) 16) fun _ =>
 some (([r2.1]:List ByteArray)++([r5.1]:List ByteArray),r5.2))
 else (some (([r2.1]:List ByteArray),r4.2)))
 else (some ([],r1.2))) fun b7 =>
 Option.bind (a0h b7.1) fun r8 =>
 some (r8,b7.2)
def a3F (s:Semtypebase_Source):Option (Key×Semtypebase_Source) :=
 Option.bind (z8 s 2) fun r1 =>
 bif r1.1==0
 then (Option.bind (V6 r1.2) fun r2 =>
 some (Key.mk 0 r2.1,r2.2))
 else (Option.bind (a0d r1.2) fun r3 =>
 some (Key.mk 1 r3.1,r3.2))
def a1X (t:Int)(rec_semtypebase_Source_Value:Semtypebase_Source->Int->Option (Val×Semtypebase_Source))(x4:(List Val)×Int×Semtypebase_Source):Option (Fl ((List Val)×Int×Semtypebase_Source) ((List Val)×Semtypebase_Source)) :=
 bif decide (0<x4.2.1)
 then (Option.bind (rec_semtypebase_Source_Value x4.2.2 (wr .i64 (t-1))) fun r5 =>
 Option.bind (Z4 (x4.1.length+([r5.1]:List Val).length) 128) fun _ =>
 some (.next (x4.1++([r5.1]:List Val),wr .i64 (x4.2.1-1),r5.2)))
 else (some (.done (x4.1,x4.2.2)))
def a10 (t:Int)(rec_semtypebase_Source_Value:Semtypebase_Source->Int->Option (Val×Semtypebase_Source))(x20:(List Key)×(List Val)×Int×Semtypebase_Source):Option (Fl ((List Key)×(List Val)×Int×Semtypebase_Source) ((List Key)×(List Val)×Semtypebase_Source)) :=
 bif decide (0<x20.2.2.1)
 then (Option.bind (a3F x20.2.2.2) fun r21 =>
 Option.bind (Z4 (x20.1.length+([r21.1]:List Key).length) 24) fun _ =>
 Option.bind (rec_semtypebase_Source_Value r21.2 (wr .i64 (t-1))) fun r23 =>
 Option.bind (Z4 (x20.2.1.length+([r23.1]:List Val).length) 128) fun _ =>
 some (.next (x20.1++([r21.1]:List Key),x20.2.1++([r23.1]:List Val),wr .i64 (x20.2.2.1-1),r23.2)))
 else (some (.done (x20.1,x20.2.1,x20.2.2.2)))
def a11 (t:Int)(r27:Int×Semtypebase_Source)(rec_semtypebase_Source_entry:Semtypebase_Source->Int->Int->Option (Ent×Semtypebase_Source))(x29:(List Ent)×Int×Semtypebase_Source):Option (Fl ((List Ent)×Int×Semtypebase_Source) ((List Ent)×Semtypebase_Source)) :=
 bif decide (0<x29.2.1)
 then (Option.bind (rec_semtypebase_Source_entry x29.2.2 r27.1 (wr .i64 (t-1))) fun r30 =>
 Option.bind (Z4 (x29.1.length+([r30.1]:List Ent).length) 160) fun _ =>
 some (.next (x29.1++([r30.1]:List Ent),wr .i64 (x29.2.1-1),r30.2)))
 else (some (.done (x29.1,x29.2.2)))
def a12 (height:Int)(rec_semtypebase_Source_Value:Semtypebase_Source->Int->Option (Val×Semtypebase_Source))(x1:Int×Semtypebase_Source×((List Val)×Bool×Int×Int×ByteArray×(List Val)×(List Key)×(List Ent)×(List ByteArray))):Option (Fl (Int×Semtypebase_Source×((List Val)×Bool×Int×Int×ByteArray×(List Val)×(List Key)×(List Ent)×(List ByteArray))) (Semtypebase_Source×((List Val)×Bool×Int×Int×ByteArray×(List Val)×(List Key)×(List Ent)×(List ByteArray)))) :=
 bif decide (0<x1.1)
 then (Option.bind (rec_semtypebase_Source_Value x1.2.1 height) fun r2 =>
 Option.bind (Z4 (x1.2.2.1.length+([r2.1]:List Val).length) 128) fun _ =>
 some (.next (wr .i64 (x1.1-1),r2.2,(x1.2.2.1++([r2.1]:List Val),x1.2.2.2.1,x1.2.2.2.2.1,x1.2.2.2.2.2.1,x1.2.2.2.2.2.2.1,x1.2.2.2.2.2.2.2.1,x1.2.2.2.2.2.2.2.2.1,x1.2.2.2.2.2.2.2.2.2.1,x1.2.2.2.2.2.2.2.2.2.2))))
 else (some (.done (x1.2.1,(x1.2.2.1,x1.2.2.2.1,x1.2.2.2.2.1,x1.2.2.2.2.2.1,x1.2.2.2.2.2.2.1,x1.2.2.2.2.2.2.2.1,x1.2.2.2.2.2.2.2.2.1,x1.2.2.2.2.2.2.2.2.2.1,x1.2.2.2.2.2.2.2.2.2.2))))
def a02 (_:Nat)(_:Semtypebase_Source->Int->Option (Val×Semtypebase_Source))(rec_semtypebase_Source_value:Semtypebase_Source->Int->Option (Val×Semtypebase_Source))(_:Semtypebase_Source->Int->Int->Option (Ent×Semtypebase_Source))(s:Semtypebase_Source)(height:Int):Option (Val×Semtypebase_Source) :=
 Option.bind (rec_semtypebase_Source_value s height) fun r1 =>
 Option.bind (a1m r1.2) fun r2 =>
 some (Val.mk r1.1.Kind r1.1.Int_ r1.1.Text r1.1.Kids r1.1.Keys r1.1.Entries r2.1,r2.2)
def W4 (n:Nat)(rec_semtypebase_Source_Value:Semtypebase_Source->Int->Option (Val×Semtypebase_Source))(_:Semtypebase_Source->Int->Option (Val×Semtypebase_Source))(rec_semtypebase_Source_entry:Semtypebase_Source->Int->Int->Option (Ent×Semtypebase_Source))(d:Semtypebase_Source)(t:Int):Option (Val×Semtypebase_Source) :=
 bif decide (t<=1)
 then (Option.bind (Q9 d) fun r1 =>
 some (r1.1,r1.2))
 else (Option.bind (z8 d 6) fun r2 =>
 Option.bind (bif r2.1==1
 then (Option.bind (z8 r2.2 4) fun r3 =>
 Option.bind (iter (a1X t rec_semtypebase_Source_Value) (r3.1.toNat+2) ([],r3.1,r3.2)) fun b7 =>
 Option.bind (a1V b7.1) fun r8 =>
 some (.inr (b7.2,(r8.Kind,r8.Int_,r8.Text,r8.Kids,r8.Keys,r8.Entries,r8.Labels))))
 else (bif r2.1==2
 then (Option.bind (V9) fun r9 =>
 Option.bind (bif decide (2<t)
 then (Option.bind (z8 r2.2 2) fun r10 =>
 some (r10.1==1,r10.2))
 else (some (false,r2.2))) fun b11 =>
 Option.bind (bif b11.1
 then (Option.bind (rec_semtypebase_Source_Value b11.2 (wr .i64 (t-2))) fun r12 =>
 Option.bind (V9) fun r13 =>
 Option.bind (a4J r12.1 r13) fun r14 =>
 some (r12.2,r14))
 else (some (b11.2,r9))) fun b15 =>
 Option.bind (a1m b15.1) fun r16 =>
 Option.bind (rec_semtypebase_Source_Value r16.2 (wr .i64 (t-1))) fun r17 =>
 Option.bind (a4J r17.1 (Val.mk b15.2.Kind b15.2.Int_ b15.2.Text b15.2.Kids b15.2.Keys b15.2.Entries r16.1)) fun r18 =>
 some (.inr (r17.2,(r18.Kind,r18.Int_,r18.Text,r18.Kids,r18.Keys,r18.Entries,r18.Labels))))
 else (bif r2.1==3
 then (Option.bind (z8 r2.2 3) fun r19 =>
 Option.bind (iter (a10 t rec_semtypebase_Source_Value) (r19.1.toNat+2) ([],[],r19.1,r19.2)) fun b25 =>
 Option.bind (a1e b25.1 b25.2.1) fun r26 =>
 bif r26.2==0
 then (some (.inr (b25.2.2,(r26.1.Kind,r26.1.Int_,r26.1.Text,r26.1.Kids,r26.1.Keys,r26.1.Entries,r26.1.Labels))))
 else (some (.inl (b25.2.2,(0,0,(⟨#[]⟩:ByteArray),([]:List Val),([]:List Key),([]:List Ent),([]:List ByteArray))))))
 else (bif r2.1==4
 then (Option.bind (z8 r2.2 3) fun r27 =>
 Option.bind (z8 r27.2 3) fun r28 =>
 Option.bind (iter (a11 t r27 rec_semtypebase_Source_entry) (r28.1.toNat+2) ([],r28.1,r28.2)) fun b32 =>
 Option.bind (a0R n r27.1 b32.1) fun r33 =>
 bif r33.2==0
 then (some (.inr (b32.2,(r33.1.Kind,r33.1.Int_,r33.1.Text,r33.1.Kids,r33.1.Keys,r33.1.Entries,r33.1.Labels))))
 else (some (.inl (b32.2,(0,0,(⟨#[]⟩:ByteArray),([]:List Val),([]:List Key),([]:List Ent),([]:List ByteArray))))))
 else (some (.inl (r2.2,(0,0,(⟨#[]⟩:ByteArray),([]:List Val),([]:List Key),([]:List Ent),([]:List ByteArray))))))))) fun (b34:Sum (Semtypebase_Source×(Int×Int×ByteArray×(List Val)×(List Key)×(List Ent)×(List ByteArray))) (Semtypebase_Source×(Int×Int×ByteArray×(List Val)×(List Key)×(List Ent)×(List ByteArray)))) =>
 onEnd (fun x35 =>
 Option.bind (Q9 x35.1) fun r37 =>
 some (r37.1,r37.2)) (fun y36 =>
 some (Val.mk y36.2.1 y36.2.2.1 y36.2.2.2.1 y36.2.2.2.2.1 y36.2.2.2.2.2.1 y36.2.2.2.2.2.2.1 y36.2.2.2.2.2.2.2,y36.1)) b34)
def a3Y (_:Nat)(rec_semtypebase_Source_Value:Semtypebase_Source->Int->Option (Val×Semtypebase_Source))(_:Semtypebase_Source->Int->Option (Val×Semtypebase_Source))(_:Semtypebase_Source->Int->Int->Option (Ent×Semtypebase_Source))(s:Semtypebase_Source)(n_1:Int)(height:Int):Option (Ent×Semtypebase_Source) :=
 Option.bind (iter (a12 height rec_semtypebase_Source_Value) (n_1.toNat+2) (n_1,s,([],false,0,0,(⟨#[]⟩:ByteArray),[],[],[],[]))) fun b4 =>
 Option.bind (z8 b4.1 4) fun r5 =>
 bif r5.1==1
 then (some (Ent.mk b4.2.1 true (Val.mk b4.2.2.2.1 b4.2.2.2.2.1 b4.2.2.2.2.2.1 b4.2.2.2.2.2.2.1 b4.2.2.2.2.2.2.2.1 b4.2.2.2.2.2.2.2.2.1 b4.2.2.2.2.2.2.2.2.2),r5.2))
 else (Option.bind (rec_semtypebase_Source_Value r5.2 height) fun r6 =>
 some (Ent.mk b4.2.1 b4.2.2.1 r6.1,r6.2))
def y9:Nat->(Semtypebase_Source->Int->Option (Val×Semtypebase_Source))×(Semtypebase_Source->Int->Option (Val×Semtypebase_Source))×(Semtypebase_Source->Int->Int->Option (Ent×Semtypebase_Source))
 | 0=>(fun _ _=>none,fun _ _=>none,fun _ _ _=>none)
 | n+1=>(a02 n ((y9 n).1) ((y9 n).2.1) ((y9 n).2.2),W4 n ((y9 n).1) ((y9 n).2.1) ((y9 n).2.2),a3Y n ((y9 n).1) ((y9 n).2.1) ((y9 n).2.2))
def a1z (n:Nat):Semtypebase_Source->Int->Option (Val×Semtypebase_Source):=(y9 n).1
def b2K (n:Nat):Semtypebase_Source->Int->Option (Val×Semtypebase_Source):=(y9 n).2.1
def b3v (n:Nat):Semtypebase_Source->Int->Int->Option (Ent×Semtypebase_Source):=(y9 n).2.2
def a4c (c:Int):Option Bool :=
 Option.bind (bif decide (65<=c)
 then (some (decide (c<=90)))
 else (some false)) fun q1 =>
 some q1
def a4j (s:ByteArray)(x5:Int):Option (Fl Int (Sum Unit Bool)) :=
 bif decide (x5<(s.size:Int))
 then (Option.bind (a6i s x5) fun e6 =>
 Option.bind (a21 (e6.toNat:Int)) fun r7 =>
 Option.bind (bif !r7
 then (Option.bind (a6i s x5) fun e8 =>
 Option.bind (a4c (e8.toNat:Int)) fun r9 =>
 some (!r9))
 else (some false)) fun q10 =>
 Option.bind (bif q10
 then (Option.bind (a6i s x5) fun e11 =>
 Option.bind (a32 (e11.toNat:Int)) fun r12 =>
 some (!r12))
 else (some false)) fun q13 =>
 Option.bind (bif q13
 then (Option.bind (a6i s x5) fun e14 =>
 some ((e14.toNat:Int) != 95))
 else (some false)) fun q15 =>
 bif q15
 then (some (.done (.inr false)))
 else (some (.next (wr .i64 (x5+1)))))
 else (some (.done (.inl ())))
def a17 (s:ByteArray):Option Bool :=
 Option.bind (bif decide ((s.size:Int)<1)
 then (some true)
 else (some (decide (16<(s.size:Int))))) fun q1 =>
 Option.bind (bif q1
 then (some true)
 else (Option.bind (a6i s 0) fun e2 =>
 Option.bind (a4c (e2.toNat:Int)) fun r3 =>
 some (!r3))) fun q4 =>
 bif q4
 then (some false)
 else (Option.bind (iter (a4j s) ((s.size:Int).toNat+1) 1) fun b16 =>
 onEnd (fun _ =>
 some true) (fun y18 =>
 some y18) b16)
def a4X (d:Val)(x1:Int):Option (Fl Int (Sum Unit Bool)) :=
 bif decide (x1<(d.Labels.length:Int))
 then (Option.bind (idx d.Labels x1) fun e2 =>
 Option.bind (a17 e2) fun r3 =>
 Option.bind (bif !r3
 then (some true)
 else (Option.bind (bif decide (0<x1)
 then (Option.bind (idx d.Labels (wr .i64 (x1-1))) fun e4 =>
 Option.bind (idx d.Labels x1) fun e5 =>
 some (!(a2g e4 e5)))
 else (some false)) fun q6 =>
 some q6)) fun q7 =>
 bif q7
 then (some (.done (.inr false)))
 else (some (.next (wr .i64 (x1+1)))))
 else (some (.done (.inl ())))
def a4V (d:Val)(x31:Int):Option (Fl Int (Sum Unit Bool)) :=
 bif decide (x31<(d.Keys.length:Int))
 then (Option.bind (idx d.Keys x31) fun e32 =>
 Option.bind (a2I e32) fun r33 =>
 Option.bind (bif !r33
 then (some true)
 else (Option.bind (bif decide (0<x31)
 then (Option.bind (idx d.Keys (wr .i64 (x31-1))) fun e34 =>
 Option.bind (idx d.Keys x31) fun e35 =>
 Option.bind (a0e e34 e35) fun r36 =>
 some (decide (0<=r36)))
 else (some false)) fun q37 =>
 some q37)) fun q38 =>
 bif q38
 then (some (.done (.inr false)))
 else (some (.next (wr .i64 (x31+1)))))
 else (some (.done (.inl ())))
def a4S (d:Val)(n:Nat)(x43:Int):Option (Fl Int (Sum Unit Bool)) :=
 bif decide (x43<(d.Entries.length:Int))
 then (Option.bind (idx d.Entries x43) fun e44 =>
 Option.bind (bif (e44.Args.length:Int) != d.Int_
 then (some true)
 else (Option.bind (bif e44.Fails
 then (Option.bind (a33 n e44.Result (Val.mk 0 0 (⟨#[]⟩:ByteArray) ([]:List Val) ([]:List Key) ([]:List Ent) ([]:List ByteArray))) fun r45 =>
 some (!r45))
 else (some false)) fun q46 =>
 some q46)) fun q47 =>
 Option.bind (bif q47
 then (some true)
 else (Option.bind (bif decide (0<x43)
 then (Option.bind (idx d.Entries (wr .i64 (x43-1))) fun e48 =>
 Option.bind (Y4 n e48 e44) fun r49 =>
 some (decide (0<=r49)))
 else (some false)) fun q50 =>
 some q50)) fun q51 =>
 bif q51
 then (some (.done (.inr false)))
 else (some (.next (wr .i64 (x43+1)))))
 else (some (.done (.inl ())))
def a6v (n:Nat)(d:Val):Option Bool :=
 Option.bind (iter (a4X d) ((d.Labels.length:Int).toNat+1) 0) fun b8 =>
 onEnd (fun _ =>
 Option.bind (bif d.Kind==1
 then (some true)
 else (some (d.Kind==4))) fun q11 =>
 Option.bind (bif q11
 then (some true)
 else (some (d.Kind==9))) fun q12 =>
 Option.bind (bif d.Kind==2
 then (some true)
 else (some (d.Kind==3))) fun q13 =>
 Option.bind (bif d.Kind==6
 then (some true)
 else (some (d.Kind==7))) fun q14 =>
 Option.bind (bif q14
 then (some true)
 else (some (d.Kind==8))) fun q15 =>
 Option.bind (bif !q12
 then (some (d.Int_ != 0))
 else (some false)) fun q16 =>
 Option.bind (bif q16
 then (some true)
 else (Option.bind (bif !q13
 then (some (!(Y0 d.Text (⟨#[]⟩:ByteArray))))
 else (some false)) fun q17 =>
 some q17)) fun q18 =>
 Option.bind (bif q18
 then (some true)
 else (Option.bind (bif !q15
 then (some (decide (0<(d.Kids.length:Int))))
 else (some false)) fun q19 =>
 some q19)) fun q20 =>
 Option.bind (bif q20
 then (some true)
 else (Option.bind (bif d.Kind != 8
 then (some (decide (0<(d.Keys.length:Int))))
 else (some false)) fun q21 =>
 some q21)) fun q22 =>
 Option.bind (bif q22
 then (some true)
 else (Option.bind (bif d.Kind != 9
 then (some (decide (0<(d.Entries.length:Int))))
 else (some false)) fun q23 =>
 some q23)) fun q24 =>
 bif q24
 then (some false)
 else (Option.bind (bif d.Kind==1
 then (some (d.Kind==1))
 else (some (d.Kind==5))) fun b25 =>
 bif b25
 then (some true)
 else (bif d.Kind==2
 then (some (decide ((d.Text.size:Int)<=64)))
 else (bif d.Kind==3
 then (Option.bind (a3I d.Text) fun r26 =>
 some r26)
 else (bif d.Kind==4
 then (some (decide (0<=d.Int_)))
 else (bif d.Kind==6
 then (some (decide ((d.Kids.length:Int)<=4)))
 else (bif d.Kind==7
 then (Option.bind (bif (d.Kids.length:Int)==2
 then (Option.bind (idx d.Kids 1) fun e27 =>
 Option.bind (bif e27.Kind==5
 then (some true)
 else (Option.bind (idx d.Kids 1) fun e28 =>
 some (e28.Kind==7))) fun q29 =>
 some q29)
 else (some false)) fun q30 =>
 some q30)
 else (bif d.Kind==8
 then (Option.bind (iter (a4V d) ((d.Keys.length:Int).toNat+1) 0) fun b39 =>
 onEnd (fun _ =>
 some ((d.Keys.length:Int)==(d.Kids.length:Int))) (fun y41 =>
 some y41) b39)
 else (bif d.Kind==9
 then (Option.bind (bif decide (d.Int_<0)
 then (some true)
 else (some (decide (4<d.Int_)))) fun q42 =>
 bif q42
 then (some false)
 else (Option.bind (iter (a4S d n) ((d.Entries.length:Int).toNat+1) 0) fun b52 =>
 onEnd (fun _ =>
 some true) (fun y54 =>
 some y54) b52))
 else (some false)))))))))) (fun y10 =>
 some y10) b8
def a4p (v:Val)(rec_semtyperef1_Valid:Val->Option Bool)(x2:Int):Option (Fl Int (Sum Unit Bool)) :=
 bif decide (x2<(v.Kids.length:Int))
 then (Option.bind (idx v.Kids x2) fun e3 =>
 Option.bind (rec_semtyperef1_Valid e3) fun r4 =>
 bif !r4
 then (some (.done (.inr false)))
 else (some (.next (wr .i64 (x2+1)))))
 else (some (.done (.inl ())))
def a4l (rec_semtyperef1_Valid:Val->Option Bool)(e9:Ent)(x10:Int):Option (Fl Int (Sum Unit Bool)) :=
 bif decide (x10<(e9.Args.length:Int))
 then (Option.bind (idx e9.Args x10) fun e11 =>
 Option.bind (rec_semtyperef1_Valid e11) fun r12 =>
 bif !r12
 then (some (.done (.inr false)))
 else (some (.next (wr .i64 (x10+1)))))
 else (some (.done (.inl ())))
def a4r (v:Val)(rec_semtyperef1_Valid:Val->Option Bool)(x8:Int):Option (Fl Int (Sum Unit Bool)) :=
 bif decide (x8<(v.Entries.length:Int))
 then (Option.bind (idx v.Entries x8) fun e9 =>
 Option.bind (iter (a4l rec_semtyperef1_Valid e9) ((e9.Args.length:Int).toNat+1) 0) fun b13 =>
 onEnd (fun _ =>
 Option.bind (bif !e9.Fails
 then (Option.bind (rec_semtyperef1_Valid e9.Result) fun r16 =>
 some (!r16))
 else (some false)) fun q17 =>
 bif q17
 then (some (.done (.inr false)))
 else (some (.next (wr .i64 (x8+1))))) (fun y15 =>
 some (.done (.inr y15))) b13)
 else (some (.done (.inl ())))
def a6R (n:Nat)(rec_semtyperef1_Valid:Val->Option Bool)(v:Val):Option Bool :=
 Option.bind (a6v n v) fun r1 =>
 bif !r1
 then (some false)
 else (Option.bind (iter (a4p v rec_semtyperef1_Valid) ((v.Kids.length:Int).toNat+1) 0) fun b5 =>
 onEnd (fun _ =>
 Option.bind (iter (a4r v rec_semtyperef1_Valid) ((v.Entries.length:Int).toNat+1) 0) fun b18 =>
 onEnd (fun _ =>
 some true) (fun y20 =>
 some y20) b18) (fun y7 =>
 some y7) b5)
def a0s:Nat->Val->Option Bool
 | 0=>fun _=>none
 | n+1=>a6R n (a0s n)
def a0Y (t:Api_Type)(a3_3:Int)(e4:Api_TypeNode)(rec_semtypebase_Source_Near:Semtypebase_Source->Api_Type->Int->Int->Option (Val×Semtypebase_Source))(x21:Int×Semtypebase_Source×(Int×Int×ByteArray×(List Val)×(List Key)×(List Ent)×(List ByteArray))):Option (Fl (Int×Semtypebase_Source×(Int×Int×ByteArray×(List Val)×(List Key)×(List Ent)×(List ByteArray))) (Semtypebase_Source×(Int×Int×ByteArray×(List Val)×(List Key)×(List Ent)×(List ByteArray)))) :=
 bif decide (x21.1<(e4.Kids.length:Int))
 then (Option.bind (idx e4.Kids x21.1) fun e22 =>
 Option.bind (rec_semtypebase_Source_Near x21.2.1 t e22 (wr .i64 (a3_3-1))) fun r23 =>
 Option.bind (Z4 (x21.2.2.2.2.2.1.length+([r23.1]:List Val).length) 128) fun _ =>
 some (.next (wr .i64 (x21.1+1),r23.2,(x21.2.2.1,x21.2.2.2.1,x21.2.2.2.2.1,x21.2.2.2.2.2.1++([r23.1]:List Val),x21.2.2.2.2.2.2.1,x21.2.2.2.2.2.2.2.1,x21.2.2.2.2.2.2.2.2))))
 else (some (.done (x21.2.1,(x21.2.2.1,x21.2.2.2.1,x21.2.2.2.2.1,x21.2.2.2.2.2.1,x21.2.2.2.2.2.2.1,x21.2.2.2.2.2.2.2.1,x21.2.2.2.2.2.2.2.2))))
def J7 (t:Api_Type)(e4:Api_TypeNode)(x40:Int×Val):Option (Fl (Int×Val) Val) :=
 bif decide (x40.1<(e4.Kids.length:Int))
 then (Option.bind (Option.bind (idx e4.Kids x40.1) fun e41 =>
 Option.bind (idx t.Nodes e41) fun e42 =>
 bif e42.Kind==19
 then (Option.bind (Z4 (0+x40.2.Labels.length) 16) fun _ =>
 Option.bind (idx e4.Kids x40.1) fun e44 =>
 Option.bind (idx t.Nodes e44) fun e45 =>
 Option.bind (Z4 (x40.2.Labels.length+([e45.Text]:List ByteArray).length) 16) fun _ =>
 Option.bind (a0h (x40.2.Labels++([e45.Text]:List ByteArray))) fun r47 =>
 some (Val.mk x40.2.Kind x40.2.Int_ x40.2.Text x40.2.Kids x40.2.Keys x40.2.Entries r47))
 else (some x40.2)) fun b48 =>
 some (.next (wr .i64 (x40.1+1),b48)))
 else (some (.done x40.2))
def K7 (t:Api_Type)(a2_2:Api_TypeNode)(a3_3:Int)(rec_semtypebase_Source_Near:Semtypebase_Source->Api_Type->Int->Int->Option (Val×Semtypebase_Source))(x3:Int×Semtypebase_Source×((List Val)×Bool×Int×Int×ByteArray×(List Val)×(List Key)×(List Ent)×(List ByteArray))):Option (Fl (Int×Semtypebase_Source×((List Val)×Bool×Int×Int×ByteArray×(List Val)×(List Key)×(List Ent)×(List ByteArray))) (Semtypebase_Source×((List Val)×Bool×Int×Int×ByteArray×(List Val)×(List Key)×(List Ent)×(List ByteArray)))) :=
 bif decide (x3.1<(wr .i64 ((a2_2.Kids.length:Int)-1)))
 then (Option.bind (idx a2_2.Kids x3.1) fun e4 =>
 Option.bind (rec_semtypebase_Source_Near x3.2.1 t e4 (wr .i64 (a3_3-1))) fun r5 =>
 Option.bind (Z4 (x3.2.2.1.length+([r5.1]:List Val).length) 128) fun _ =>
 some (.next (wr .i64 (x3.1+1),r5.2,(x3.2.2.1++([r5.1]:List Val),x3.2.2.2.1,x3.2.2.2.2.1,x3.2.2.2.2.2.1,x3.2.2.2.2.2.2.1,x3.2.2.2.2.2.2.2.1,x3.2.2.2.2.2.2.2.2.1,x3.2.2.2.2.2.2.2.2.2.1,x3.2.2.2.2.2.2.2.2.2.2))))
 else (some (.done (x3.2.1,(x3.2.2.1,x3.2.2.2.1,x3.2.2.2.2.1,x3.2.2.2.2.2.1,x3.2.2.2.2.2.2.1,x3.2.2.2.2.2.2.2.1,x3.2.2.2.2.2.2.2.2.1,x3.2.2.2.2.2.2.2.2.2.1,x3.2.2.2.2.2.2.2.2.2.2))))
def W6 (t:Api_Type)(a2_2:Api_TypeNode)(a3_3:Int)(rec_semtypebase_Source_Near:Semtypebase_Source->Api_Type->Int->Int->Option (Val×Semtypebase_Source))(x2:(List Ent)×Int×Semtypebase_Source):Option (Fl ((List Ent)×Int×Semtypebase_Source) ((List Ent)×Semtypebase_Source)) :=
 bif decide (0<x2.2.1)
 then (Option.bind (iter (K7 t a2_2 a3_3 rec_semtypebase_Source_Near) ((wr .i64 ((a2_2.Kids.length:Int)-1)).toNat+1) (0,x2.2.2,([],false,0,0,(⟨#[]⟩:ByteArray),[],[],[],[]))) fun b7 =>
 Option.bind (z8 b7.1 6) fun r8 =>
 Option.bind (bif r8.1==1
 then (some (r8.2,(b7.2.1,true,b7.2.2.2.1,b7.2.2.2.2.1,b7.2.2.2.2.2.1,b7.2.2.2.2.2.2.1,b7.2.2.2.2.2.2.2.1,b7.2.2.2.2.2.2.2.2.1,b7.2.2.2.2.2.2.2.2.2)))
 else (Option.bind (idx a2_2.Kids (wr .i64 ((a2_2.Kids.length:Int)-1))) fun e9 =>
 Option.bind (rec_semtypebase_Source_Near r8.2 t e9 (wr .i64 (a3_3-1))) fun r10 =>
 some (r10.2,(b7.2.1,b7.2.2.1,r10.1.Kind,r10.1.Int_,r10.1.Text,r10.1.Kids,r10.1.Keys,r10.1.Entries,r10.1.Labels)))) fun b11 =>
 Option.bind (Z4 (x2.1.length+([Ent.mk b11.2.1 b11.2.2.1 (Val.mk b11.2.2.2.1 b11.2.2.2.2.1 b11.2.2.2.2.2.1 b11.2.2.2.2.2.2.1 b11.2.2.2.2.2.2.2.1 b11.2.2.2.2.2.2.2.2.1 b11.2.2.2.2.2.2.2.2.2)]:List Ent).length) 160) fun _ =>
 some (.next (x2.1++([Ent.mk b11.2.1 b11.2.2.1 (Val.mk b11.2.2.2.1 b11.2.2.2.2.1 b11.2.2.2.2.2.1 b11.2.2.2.2.2.2.1 b11.2.2.2.2.2.2.2.1 b11.2.2.2.2.2.2.2.2.1 b11.2.2.2.2.2.2.2.2.2)]:List Ent),wr .i64 (x2.2.1-1),b11.1)))
 else (some (.done (x2.1,x2.2.2)))
def a0o (t:Api_Type)(a2_2:Api_TypeNode)(a3_3:Int)(rec_semtypebase_Source_Near:Semtypebase_Source->Api_Type->Int->Int->Option (Val×Semtypebase_Source))(x1:(List Key)×(List Val)×Int×Semtypebase_Source):Option (Fl ((List Key)×(List Val)×Int×Semtypebase_Source) ((List Key)×(List Val)×Semtypebase_Source)) :=
 bif decide (x1.2.2.1<(a2_2.Fields.length:Int))
 then (Option.bind (Option.bind (Option.bind (idx a2_2.Fields x1.2.2.1) fun e2 =>
 bif e2.Optional
 then (Option.bind (z8 x1.2.2.2 2) fun r3 =>
 some (r3.1==1,r3.2))
 else (some (false,x1.2.2.2))) fun b4 =>
 bif b4.1
 then (some (x1.1,x1.2.1,b4.2))
 else (Option.bind (idx a2_2.Fields x1.2.2.1) fun e5 =>
 Option.bind (Z4 (x1.1.length+([e5.Key_]:List Key).length) 24) fun _ =>
 Option.bind (idx a2_2.Fields x1.2.2.1) fun e7 =>
 Option.bind (rec_semtypebase_Source_Near b4.2 t e7.Node (wr .i64 (a3_3-1))) fun r8 =>
 Option.bind (Z4 (x1.2.1.length+([r8.1]:List Val).length) 128) fun _ =>
 some (x1.1++([e5.Key_]:List Key),x1.2.1++([r8.1]:List Val),r8.2))) fun b10 =>
 some (.next (b10.1,b10.2.1,wr .i64 (x1.2.2.1+1),b10.2.2)))
 else (some (.done (x1.1,x1.2.1,x1.2.2.2)))
def a1f (n:Nat)(_:Semtypebase_Source->Api_Type->Int->Int->Option (Val×Semtypebase_Source))(rec_semtypebase_Source_near:Semtypebase_Source->Api_Type->Int->Int->Option (Val×Semtypebase_Source))(_:Semtypebase_Source->Api_Type->Api_TypeNode->Int->Option (Val×Semtypebase_Source))(_:Semtypebase_Source->Api_Type->Api_TypeNode->Int->Option (Val×Semtypebase_Source))(s:Semtypebase_Source)(t:Api_Type)(k:Int)(height:Int):Option (Val×Semtypebase_Source) :=
 Option.bind (rec_semtypebase_Source_near s t k height) fun r1 =>
 Option.bind (a0s n r1.1) fun r2 =>
 bif !r2
 then (Option.bind (Q9 r1.2) fun r3 =>
 some (r3.1,r3.2))
 else (some (r1.1,r1.2))
def W8 (n:Nat)(rec_semtypebase_Source_Near:Semtypebase_Source->Api_Type->Int->Int->Option (Val×Semtypebase_Source))(rec_semtypebase_Source_near:Semtypebase_Source->Api_Type->Int->Int->Option (Val×Semtypebase_Source))(rec_semtypebase_Source_nearFunction:Semtypebase_Source->Api_Type->Api_TypeNode->Int->Option (Val×Semtypebase_Source))(rec_semtypebase_Source_nearMap:Semtypebase_Source->Api_Type->Api_TypeNode->Int->Option (Val×Semtypebase_Source))(d:Semtypebase_Source)(t:Api_Type)(a2_2:Int)(a3_3:Int):Option (Val×Semtypebase_Source) :=
 Option.bind (bif decide (a3_3<=0)
 then (some true)
 else (some (decide (a2_2<0)))) fun q1 =>
 Option.bind (bif q1
 then (some true)
 else (some (decide ((t.Nodes.length:Int)<=a2_2)))) fun q2 =>
 bif q2
 then (Option.bind (Q9 d) fun r3 =>
 some (r3.1,r3.2))
 else (Option.bind (idx t.Nodes a2_2) fun e4 =>
 bif e4.Kind==3
 then (Option.bind (b7e .i64 e4.Hi 2) fun d5 =>
 Option.bind (b7e .i64 e4.Lo 2) fun d6 =>
 Option.bind (z8 d 3) fun r7 =>
 Option.bind (idx ([e4.Lo,e4.Hi,wr .i64 (e4.Lo+(wr .i64 (d5-d6)))]:List Int) r7.1) fun _ =>
 Option.bind (([e4.Lo,e4.Hi,wr .i64 (e4.Lo+(wr .i64 (d5-d6)))]:List Int)[r7.1.toNat]?) fun e9 =>
 Option.bind (a1Y e9) fun r10 =>
 some (r10,r7.2))
 else (bif e4.Kind==4
 then (Option.bind (a2p e4.Text) fun r11 =>
 some (r11,d))
 else (bif e4.Kind==5
 then (Option.bind (a0d d) fun r12 =>
 Option.bind (a2p r12.1) fun r13 =>
 some (r13,r12.2))
 else (bif e4.Kind==6
 then (Option.bind (a3r e4.Text) fun r14 =>
 some (r14,d))
 else (bif e4.Kind==7
 then (Option.bind (V6 d) fun r15 =>
 Option.bind (a3r r15.1) fun r16 =>
 some (r16,r15.2))
 else (bif e4.Kind==8
 then (Option.bind (z8 d 2) fun r17 =>
 Option.bind (a5g r17.1) fun r18 =>
 some (r18,r17.2))
 else (bif e4.Kind==9
 then (Option.bind (V9) fun r19 =>
 some (r19,d))
 else (Option.bind (bif e4.Kind==10
 then (some (e4.Kind==10))
 else (some (e4.Kind==12))) fun b20 =>
 bif b20
 then (Option.bind (iter (a0Y t a3_3 e4 rec_semtypebase_Source_Near) ((e4.Kids.length:Int).toNat+1) (0,d,(0,0,(⟨#[]⟩:ByteArray),[],[],[],[]))) fun b25 =>
 Option.bind (bif e4.Kind==12
 then (Option.bind (idx b25.2.2.2.2.1 1) fun _ =>
 Option.bind (b25.2.2.2.2.1[(1:Int).toNat]?) fun e27 =>
 bif e27.Kind != 7
 then (Option.bind (V9) fun r28 =>
 Option.bind (idx b25.2.2.2.2.1 1) fun _ =>
 Option.bind (b25.2.2.2.2.1[(1:Int).toNat]?) fun _ =>
 some (7,b25.2.2.1,b25.2.2.2.1,b25.2.2.2.2.1.set ((1:Int).toNat) r28,b25.2.2.2.2.2.1,b25.2.2.2.2.2.2.1,b25.2.2.2.2.2.2.2))
 else (some (7,b25.2.2.1,b25.2.2.2.1,b25.2.2.2.2.1,b25.2.2.2.2.2.1,b25.2.2.2.2.2.2.1,b25.2.2.2.2.2.2.2)))
 else (some (6,b25.2.2.1,b25.2.2.2.1,b25.2.2.2.2.1,b25.2.2.2.2.2.1,b25.2.2.2.2.2.2.1,b25.2.2.2.2.2.2.2))) fun b31 =>
 some (Val.mk b31.1 b31.2.1 b31.2.2.1 b31.2.2.2.1 b31.2.2.2.2.1 b31.2.2.2.2.2.1 b31.2.2.2.2.2.2,b25.1))
 else (bif e4.Kind==13
 then (Option.bind (rec_semtypebase_Source_nearMap d t e4 a3_3) fun r32 =>
 some (r32.1,r32.2))
 else (bif e4.Kind==14
 then (Option.bind (rec_semtypebase_Source_nearFunction d t e4 a3_3) fun r33 =>
 some (r33.1,r33.2))
 else (bif e4.Kind==16
 then (Option.bind (z8 d (e4.Kids.length:Int)) fun r34 =>
 Option.bind (idx e4.Kids r34.1) fun e35 =>
 Option.bind (rec_semtypebase_Source_near r34.2 t e35 a3_3) fun r36 =>
 some (r36.1,r36.2))
 else (bif e4.Kind==17
 then (Option.bind (z8 d (e4.Kids.length:Int)) fun r37 =>
 Option.bind (idx e4.Kids r37.1) fun e38 =>
 Option.bind (rec_semtypebase_Source_near r37.2 t e38 a3_3) fun r39 =>
 Option.bind (iter (J7 t e4) ((e4.Kids.length:Int).toNat+1) (0,r39.1)) fun b49 =>
 some (b49,r39.2))
 else (bif e4.Kind==19
 then (Option.bind (Q9 d) fun r50 =>
 Option.bind (a3E r50.1 ([e4.Text]:List ByteArray)) fun r51 =>
 some (r51,r50.2))
 else (Option.bind (a1z n d 2) fun r52 =>
 some (r52.1,r52.2)))))))))))))))
def X0 (n:Nat)(rec_semtypebase_Source_Near:Semtypebase_Source->Api_Type->Int->Int->Option (Val×Semtypebase_Source))(_:Semtypebase_Source->Api_Type->Int->Int->Option (Val×Semtypebase_Source))(_:Semtypebase_Source->Api_Type->Api_TypeNode->Int->Option (Val×Semtypebase_Source))(_:Semtypebase_Source->Api_Type->Api_TypeNode->Int->Option (Val×Semtypebase_Source))(d:Semtypebase_Source)(t:Api_Type)(a2_2:Api_TypeNode)(a3_3:Int):Option (Val×Semtypebase_Source) :=
 Option.bind (z8 d 3) fun r1 =>
 Option.bind (iter (W6 t a2_2 a3_3 rec_semtypebase_Source_Near) (r1.1.toNat+2) ([],r1.1,r1.2)) fun b13 =>
 Option.bind (a0R n (wr .i64 ((a2_2.Kids.length:Int)-1)) b13.1) fun r14 =>
 bif r14.2 != 0
 then (Option.bind (V9) fun r15 =>
 some (r15,b13.2))
 else (some (r14.1,b13.2))
def a0t (_:Nat)(rec_semtypebase_Source_Near:Semtypebase_Source->Api_Type->Int->Int->Option (Val×Semtypebase_Source))(_:Semtypebase_Source->Api_Type->Int->Int->Option (Val×Semtypebase_Source))(_:Semtypebase_Source->Api_Type->Api_TypeNode->Int->Option (Val×Semtypebase_Source))(_:Semtypebase_Source->Api_Type->Api_TypeNode->Int->Option (Val×Semtypebase_Source))(d:Semtypebase_Source)(t:Api_Type)(a2_2:Api_TypeNode)(a3_3:Int):Option (Val×Semtypebase_Source) :=
 Option.bind (iter (a0o t a2_2 a3_3 rec_semtypebase_Source_Near) ((a2_2.Fields.length:Int).toNat+1) ([],[],0,d)) fun b11 =>
 Option.bind (z8 b11.2.2 2) fun r12 =>
 Option.bind (bif r12.1==1
 then (Option.bind (z8 r12.2 2) fun r13 =>
 Option.bind (Z4 (b11.1.length+([Key.mk r13.1 (⟨#[111,116,104,101,114]⟩:ByteArray)]:List Key).length) 24) fun _ =>
 bif r13.1==0
 then (Option.bind (rec_semtypebase_Source_Near r13.2 t a2_2.Rest.1 (wr .i64 (a3_3-1))) fun r15 =>
 Option.bind (Z4 (b11.2.1.length+([r15.1]:List Val).length) 128) fun _ =>
 some (b11.1++([Key.mk r13.1 (⟨#[111,116,104,101,114]⟩:ByteArray)]:List Key),b11.2.1++([r15.1]:List Val),r15.2))
 else (bif r13.1==1
 then (Option.bind (rec_semtypebase_Source_Near r13.2 t a2_2.Rest.2 (wr .i64 (a3_3-1))) fun r17 =>
 Option.bind (Z4 (b11.2.1.length+([r17.1]:List Val).length) 128) fun _ =>
 some (b11.1++([Key.mk r13.1 (⟨#[111,116,104,101,114]⟩:ByteArray)]:List Key),b11.2.1++([r17.1]:List Val),r17.2))
 else (none)))
 else (some (b11.1,b11.2.1,r12.2))) fun b19 =>
 Option.bind (a1e b19.1 b19.2.1) fun r20 =>
 bif r20.2 != 0
 then (Option.bind (V9) fun r21 =>
 some (r21,b19.2.2))
 else (some (r20.1,b19.2.2))
def z7:Nat->(Semtypebase_Source->Api_Type->Int->Int->Option (Val×Semtypebase_Source))×(Semtypebase_Source->Api_Type->Int->Int->Option (Val×Semtypebase_Source))×(Semtypebase_Source->Api_Type->Api_TypeNode->Int->Option (Val×Semtypebase_Source))×(Semtypebase_Source->Api_Type->Api_TypeNode->Int->Option (Val×Semtypebase_Source))
 | 0=>(fun _ _ _ _=>none,fun _ _ _ _=>none,fun _ _ _ _=>none,fun _ _ _ _=>none)
 | n+1=>(a1f n ((z7 n).1) ((z7 n).2.1) ((z7 n).2.2.1) ((z7 n).2.2.2),W8 n ((z7 n).1) ((z7 n).2.1) ((z7 n).2.2.1) ((z7 n).2.2.2),X0 n ((z7 n).1) ((z7 n).2.1) ((z7 n).2.2.1) ((z7 n).2.2.2),a0t n ((z7 n).1) ((z7 n).2.1) ((z7 n).2.2.1) ((z7 n).2.2.2))
def a3b (n:Nat):Semtypebase_Source->Api_Type->Int->Int->Option (Val×Semtypebase_Source):=(z7 n).1
def b3E (n:Nat):Semtypebase_Source->Api_Type->Int->Int->Option (Val×Semtypebase_Source):=(z7 n).2.1
def a8Y (n:Nat):Semtypebase_Source->Api_Type->Api_TypeNode->Int->Option (Val×Semtypebase_Source):=(z7 n).2.2.1
def b1B (n:Nat):Semtypebase_Source->Api_Type->Api_TypeNode->Int->Option (Val×Semtypebase_Source):=(z7 n).2.2.2
def a5z (n:Nat)(l:List Int)(m:List Int):Option (Api_Type×Val) :=
 Option.bind (z8 (Semtypebase_Source.mk l 0) 7) fun r1 =>
 Option.bind (a1N r1.2 (wr .i64 (1+r1.1))) fun r2 =>
 Option.bind (z8 (Semtypebase_Source.mk m 0) (r2.1.Nodes.length:Int)) fun r3 =>
 Option.bind (a3b n r3.2 r2.1 r3.1 4) fun r4 =>
 some (r2.1,r4.1)
def a3k (l:List Int)(k:Int)(x1:Int):Option (Fl Int Int) :=
 Option.bind (bif decide (x1<(l.length:Int))
 then (Option.bind (idx l x1) fun e2 =>
 some (decide (e2<k)))
 else (some false)) fun q3 =>
 bif q3
 then (some (.next (wr .i64 (x1+1))))
 else (some (.done x1))
def a6f (l:List Int)(k:Int):Option (List Int) :=
 Option.bind (iter (a3k l k) ((l.length:Int).toNat+1) 0) fun b4 =>
 Option.bind (bif decide (b4<(l.length:Int))
 then (Option.bind (idx l b4) fun e5 =>
 some (e5==k))
 else (some false)) fun q6 =>
 bif q6
 then (some l)
 else (Option.bind (cut l 0 b4) fun y7 =>
 Option.bind (Z4 (0+y7.length) 8) fun _ =>
 Option.bind (Z4 (y7.length+([k]:List Int).length) 8) fun _ =>
 Option.bind (cut l b4 (l.length:Int)) fun y10 =>
 Option.bind (Z4 ((y7++([k]:List Int)).length+y10.length) 8) fun _ =>
 some ((y7++([k]:List Int))++y10))
def a15 (l:List Int)(x1:(List Int)×Int):Option (Fl ((List Int)×Int) (List Int)) :=
 bif decide (x1.2<(l.length:Int))
 then (Option.bind (idx l x1.2) fun e2 =>
 Option.bind (a6f x1.1 e2) fun r3 =>
 some (.next (r3,wr .i64 (x1.2+1))))
 else (some (.done x1.1))
def a4y (l:List Int):Option (List Int) :=
 Option.bind (iter (a15 l) ((l.length:Int).toNat+1) (([]:List Int),0)) fun b4 =>
 some b4
def a5i (g:Api_Goal):Option Api_Goal :=
 Option.bind (a4y g.Pos) fun r1 =>
 Option.bind (a4y g.Neg) fun r2 =>
 some (Api_Goal.mk r1 r2 g.Lists)
def a00 (t:Api_Type)(x2:Int×Semtypebase_Source×((List Int)×(List Int)×Bool)):Option (Fl (Int×Semtypebase_Source×((List Int)×(List Int)×Bool)) (Semtypebase_Source×((List Int)×(List Int)×Bool))) :=
 bif decide (0<x2.1)
 then (Option.bind (z8 x2.2.1 (t.Nodes.length:Int)) fun r3 =>
 Option.bind (Z4 (x2.2.2.1.length+([r3.1]:List Int).length) 8) fun _ =>
 some (.next (wr .i64 (x2.1-1),r3.2,(x2.2.2.1++([r3.1]:List Int),x2.2.2.2.1,x2.2.2.2.2))))
 else (some (.done (x2.2.1,(x2.2.2.1,x2.2.2.2.1,x2.2.2.2.2))))
def a0Z (t:Api_Type)(x7:Int×Semtypebase_Source×((List Int)×(List Int)×Bool)):Option (Fl (Int×Semtypebase_Source×((List Int)×(List Int)×Bool)) (Semtypebase_Source×((List Int)×(List Int)×Bool))) :=
 bif decide (0<x7.1)
 then (Option.bind (z8 x7.2.1 (t.Nodes.length:Int)) fun r8 =>
 Option.bind (Z4 (x7.2.2.2.1.length+([r8.1]:List Int).length) 8) fun _ =>
 some (.next (wr .i64 (x7.1-1),r8.2,(x7.2.2.1,x7.2.2.2.1++([r8.1]:List Int),x7.2.2.2.2))))
 else (some (.done (x7.2.1,(x7.2.2.1,x7.2.2.2.1,x7.2.2.2.2))))
def a3f (s:Semtypebase_Source)(t:Api_Type):Option (Api_Goal×Semtypebase_Source) :=
 Option.bind (z8 s 2) fun r1 =>
 Option.bind (iter (a00 t) ((wr .i64 (1+r1.1)).toNat+2) (wr .i64 (1+r1.1),r1.2,([],[],false))) fun b5 =>
 Option.bind (z8 b5.1 3) fun r6 =>
 Option.bind (iter (a0Z t) (r6.1.toNat+2) (r6.1,r6.2,(b5.2.1,b5.2.2.1,b5.2.2.2))) fun b10 =>
 Option.bind (z8 b10.1 8) fun r11 =>
 Option.bind (a5i (Api_Goal.mk b10.2.1 b10.2.2.1 (r11.1==1))) fun r12 =>
 some (r12,r11.2)
def a5l (v:Val)(k:Key)(x1:Int):Option (Fl Int (Sum Unit Int)) :=
 bif decide (x1<(v.Keys.length:Int))
 then (Option.bind (idx v.Keys x1) fun e2 =>
 bif a5Q e2 k
 then (some (.done (.inr x1)))
 else (some (.next (wr .i64 (x1+1)))))
 else (some (.done (.inl ())))
def a9y (v:Val)(k:Key):Option Int :=
 Option.bind (iter (a5l v k) ((v.Keys.length:Int).toNat+1) 0) fun b3 =>
 onEnd (fun _ =>
 some (-1)) (fun y5 =>
 some y5) b3
def a4d (n_0:Api_TypeNode)(k:Key)(x1:Int):Option (Fl Int (Sum Unit Int)) :=
 bif decide (x1<(n_0.Fields.length:Int))
 then (Option.bind (idx n_0.Fields x1) fun e2 =>
 bif a5Q e2.Key_ k
 then (some (.done (.inr x1)))
 else (some (.next (wr .i64 (x1+1)))))
 else (some (.done (.inl ())))
def a4a (n_0:Api_TypeNode)(k:Key):Option Int :=
 Option.bind (iter (a4d n_0 k) ((n_0.Fields.length:Int).toNat+1) 0) fun b3 =>
 onEnd (fun _ =>
 some (-1)) (fun y5 =>
 some y5) b3
def a3g (v:Val)(t:Api_Type)(n_2:Api_TypeNode)(rec_semtyperef7_members:(List Val)->Api_Type->(List Int)->Option Bool)(rec_semtyperef7_member:Val->Api_Type->Int->Option Bool)(x1:Int):Option (Fl Int (Sum Unit Bool)) :=
 bif decide (x1<(v.Entries.length:Int))
 then (Option.bind (idx v.Entries x1) fun e2 =>
 Option.bind (cut n_2.Kids 0 (wr .i64 ((n_2.Kids.length:Int)-1))) fun y3 =>
 Option.bind (rec_semtyperef7_members e2.Args t y3) fun r4 =>
 Option.bind (bif r4
 then (Option.bind (bif e2.Fails
 then (some true)
 else (Option.bind (idx n_2.Kids (wr .i64 ((n_2.Kids.length:Int)-1))) fun e5 =>
 Option.bind (rec_semtyperef7_member e2.Result t e5) fun r6 =>
 some (!r6))) fun q7 =>
 some q7)
 else (some false)) fun q8 =>
 bif q8
 then (some (.done (.inr false)))
 else (some (.next (wr .i64 (x1+1)))))
 else (some (.done (.inl ())))
def a3A (d:Val)(a2_2:Api_TypeNode)(x1:Int):Option (Fl Int (Sum Unit Bool)) :=
 bif decide (x1<(a2_2.Fields.length:Int))
 then (Option.bind (idx a2_2.Fields x1) fun e2 =>
 Option.bind (bif !e2.Optional
 then (Option.bind (idx a2_2.Fields x1) fun e3 =>
 Option.bind (a9y d e3.Key_) fun r4 =>
 some (decide (r4<0)))
 else (some false)) fun q5 =>
 bif q5
 then (some (.done (.inr false)))
 else (some (.next (wr .i64 (x1+1)))))
 else (some (.done (.inl ())))
def a2f (d:Val)(t:Api_Type)(a2_2:Api_TypeNode)(rec_semtyperef7_member:Val->Api_Type->Int->Option Bool)(x9:Int):Option (Fl Int (Sum Unit Bool)) :=
 bif decide (x9<(d.Keys.length:Int))
 then (Option.bind (idx d.Keys x9) fun e10 =>
 Option.bind (a4a a2_2 e10) fun r11 =>
 Option.bind (Option.bind (idx d.Keys x9) fun e12 =>
 bif e12.Kind==0
 then (some a2_2.Rest.1)
 else (bif e12.Kind==1
 then (some a2_2.Rest.2)
 else (none))) fun b13 =>
 Option.bind (bif decide (0<=r11)
 then (Option.bind (idx a2_2.Fields r11) fun e14 =>
 some e14.Node)
 else (some b13)) fun b15 =>
 Option.bind (idx d.Kids x9) fun e16 =>
 Option.bind (rec_semtyperef7_member e16 t b15) fun r17 =>
 bif !r17
 then (some (.done (.inr false)))
 else (some (.next (wr .i64 (x9+1)))))
 else (some (.done (.inl ())))
def a2x (d:Val)(t:Api_Type)(e1:Api_TypeNode)(rec_semtyperef7_member:Val->Api_Type->Int->Option Bool)(x14:Int):Option (Fl Int (Sum Unit Bool)) :=
 bif decide (x14<(e1.Kids.length:Int))
 then (Option.bind (idx e1.Kids x14) fun e15 =>
 Option.bind (rec_semtyperef7_member d t e15) fun r16 =>
 bif r16
 then (some (.done (.inr true)))
 else (some (.next (wr .i64 (x14+1)))))
 else (some (.done (.inl ())))
def a1o (d:Val)(t:Api_Type)(e1:Api_TypeNode)(rec_semtyperef7_member:Val->Api_Type->Int->Option Bool)(x20:Int):Option (Fl Int (Sum Unit Bool)) :=
 bif decide (x20<(e1.Kids.length:Int))
 then (Option.bind (idx e1.Kids x20) fun e21 =>
 Option.bind (rec_semtyperef7_member d t e21) fun r22 =>
 bif !r22
 then (some (.done (.inr false)))
 else (some (.next (wr .i64 (x20+1)))))
 else (some (.done (.inl ())))
def a2n (d:Val)(e1:Api_TypeNode)(x28:Int):Option (Fl Int (Sum Unit Bool)) :=
 bif decide (x28<(d.Labels.length:Int))
 then (Option.bind (idx d.Labels x28) fun e29 =>
 bif Y0 e29 e1.Text
 then (some (.done (.inr true)))
 else (some (.next (wr .i64 (x28+1)))))
 else (some (.done (.inl ())))
def a2b (l:List Val)(t:Api_Type)(nodes:List Int)(rec_semtyperef7_member:Val->Api_Type->Int->Option Bool)(x1:Int):Option (Fl Int (Sum Unit Bool)) :=
 bif decide (x1<(l.length:Int))
 then (Option.bind (idx l x1) fun e2 =>
 Option.bind (idx nodes x1) fun e3 =>
 Option.bind (rec_semtyperef7_member e2 t e3) fun r4 =>
 bif !r4
 then (some (.done (.inr false)))
 else (some (.next (wr .i64 (x1+1)))))
 else (some (.done (.inl ())))
def a5s (_:Nat)(_:Val->Api_Type->Api_TypeNode->Option Bool)(_:Val->Api_Type->Api_TypeNode->Option Bool)(rec_semtyperef7_member:Val->Api_Type->Int->Option Bool)(rec_semtyperef7_members:(List Val)->Api_Type->(List Int)->Option Bool)(v:Val)(t:Api_Type)(n_2:Api_TypeNode):Option Bool :=
 bif v.Int_ != (wr .i64 ((n_2.Kids.length:Int)-1))
 then (some false)
 else (Option.bind (iter (a3g v t n_2 rec_semtyperef7_members rec_semtyperef7_member) ((v.Entries.length:Int).toNat+1) 0) fun b9 =>
 onEnd (fun _ =>
 some true) (fun y11 =>
 some y11) b9)
def a5S (_:Nat)(_:Val->Api_Type->Api_TypeNode->Option Bool)(_:Val->Api_Type->Api_TypeNode->Option Bool)(rec_semtyperef7_member:Val->Api_Type->Int->Option Bool)(_:(List Val)->Api_Type->(List Int)->Option Bool)(d:Val)(t:Api_Type)(a2_2:Api_TypeNode):Option Bool :=
 Option.bind (iter (a3A d a2_2) ((a2_2.Fields.length:Int).toNat+1) 0) fun b6 =>
 onEnd (fun _ =>
 Option.bind (iter (a2f d t a2_2 rec_semtyperef7_member) ((d.Keys.length:Int).toNat+1) 0) fun b18 =>
 onEnd (fun _ =>
 some true) (fun y20 =>
 some y20) b18) (fun y8 =>
 some y8) b6
def a6o (_:Nat)(rec_semtyperef7_function:Val->Api_Type->Api_TypeNode->Option Bool)(rec_semtyperef7_mapping:Val->Api_Type->Api_TypeNode->Option Bool)(rec_semtyperef7_member:Val->Api_Type->Int->Option Bool)(rec_semtyperef7_members:(List Val)->Api_Type->(List Int)->Option Bool)(d:Val)(t:Api_Type)(a2_2:Int):Option Bool :=
 Option.bind (idx t.Nodes a2_2) fun e1 =>
 bif e1.Kind==2
 then (some true)
 else (bif e1.Kind==3
 then (Option.bind (bif d.Kind==1
 then (some (decide (e1.Lo<=d.Int_)))
 else (some false)) fun q2 =>
 Option.bind (bif q2
 then (some (decide (d.Int_<=e1.Hi)))
 else (some false)) fun q3 =>
 some q3)
 else (bif e1.Kind==4
 then (Option.bind (bif d.Kind==2
 then (some (Y0 d.Text e1.Text))
 else (some false)) fun q4 =>
 some q4)
 else (bif e1.Kind==5
 then (some (d.Kind==2))
 else (bif e1.Kind==6
 then (Option.bind (bif d.Kind==3
 then (some (Y0 d.Text e1.Text))
 else (some false)) fun q5 =>
 some q5)
 else (bif e1.Kind==7
 then (some (d.Kind==3))
 else (bif e1.Kind==8
 then (some (d.Kind==4))
 else (bif e1.Kind==9
 then (some (d.Kind==5))
 else (bif e1.Kind==11
 then (some (d.Kind==6))
 else (bif e1.Kind==15
 then (some (d.Kind==9))
 else (bif e1.Kind==10
 then (Option.bind (bif d.Kind==6
 then (Option.bind (rec_semtyperef7_members d.Kids t e1.Kids) fun r6 =>
 some r6)
 else (some false)) fun q7 =>
 some q7)
 else (bif e1.Kind==12
 then (Option.bind (bif d.Kind==7
 then (Option.bind (rec_semtyperef7_members d.Kids t e1.Kids) fun r8 =>
 some r8)
 else (some false)) fun q9 =>
 some q9)
 else (bif e1.Kind==13
 then (Option.bind (bif d.Kind==8
 then (Option.bind (rec_semtyperef7_mapping d t e1) fun r10 =>
 some r10)
 else (some false)) fun q11 =>
 some q11)
 else (bif e1.Kind==14
 then (Option.bind (bif d.Kind==9
 then (Option.bind (rec_semtyperef7_function d t e1) fun r12 =>
 some r12)
 else (some false)) fun q13 =>
 some q13)
 else (bif e1.Kind==16
 then (Option.bind (iter (a2x d t e1 rec_semtyperef7_member) ((e1.Kids.length:Int).toNat+1) 0) fun b17 =>
 onEnd (fun _ =>
 some false) (fun y19 =>
 some y19) b17)
 else (bif e1.Kind==17
 then (Option.bind (iter (a1o d t e1 rec_semtyperef7_member) ((e1.Kids.length:Int).toNat+1) 0) fun b23 =>
 onEnd (fun _ =>
 some true) (fun y25 =>
 some y25) b23)
 else (bif e1.Kind==18
 then (Option.bind (idx e1.Kids 0) fun e26 =>
 Option.bind (rec_semtyperef7_member d t e26) fun r27 =>
 some (!r27))
 else (bif e1.Kind==19
 then (Option.bind (iter (a2n d e1) ((d.Labels.length:Int).toNat+1) 0) fun b30 =>
 onEnd (fun _ =>
 some false) (fun y32 =>
 some y32) b30)
 else (some false))))))))))))))))))
def a2z (_:Nat)(_:Val->Api_Type->Api_TypeNode->Option Bool)(_:Val->Api_Type->Api_TypeNode->Option Bool)(rec_semtyperef7_member:Val->Api_Type->Int->Option Bool)(_:(List Val)->Api_Type->(List Int)->Option Bool)(l:List Val)(t:Api_Type)(nodes:List Int):Option Bool :=
 bif (l.length:Int) != (nodes.length:Int)
 then (some false)
 else (Option.bind (iter (a2b l t nodes rec_semtyperef7_member) ((l.length:Int).toNat+1) 0) fun b5 =>
 onEnd (fun _ =>
 some true) (fun y7 =>
 some y7) b5)
def v7:Nat->(Val->Api_Type->Api_TypeNode->Option Bool)×(Val->Api_Type->Api_TypeNode->Option Bool)×(Val->Api_Type->Int->Option Bool)×((List Val)->Api_Type->(List Int)->Option Bool)
 | 0=>(fun _ _ _=>none,fun _ _ _=>none,fun _ _ _=>none,fun _ _ _=>none)
 | n+1=>(a5s n ((v7 n).1) ((v7 n).2.1) ((v7 n).2.2.1) ((v7 n).2.2.2),a5S n ((v7 n).1) ((v7 n).2.1) ((v7 n).2.2.1) ((v7 n).2.2.2),a6o n ((v7 n).1) ((v7 n).2.1) ((v7 n).2.2.1) ((v7 n).2.2.2),a2z n ((v7 n).1) ((v7 n).2.1) ((v7 n).2.2.1) ((v7 n).2.2.2))
def a1B (n:Nat):Val->Api_Type->Api_TypeNode->Option Bool:=(v7 n).1
def a16 (n:Nat):Val->Api_Type->Api_TypeNode->Option Bool:=(v7 n).2.1
def Z0 (n:Nat):Val->Api_Type->Int->Option Bool:=(v7 n).2.2.1
def a1a (n:Nat):(List Val)->Api_Type->(List Int)->Option Bool:=(v7 n).2.2.2
def a2m (l:List Int)(x1:Int):Option (Fl Int (Sum Unit Bool)) :=
 bif decide (x1<(l.length:Int))
 then (Option.bind (idx l (wr .i64 (x1-1))) fun e2 =>
 Option.bind (idx l x1) fun e3 =>
 bif decide (e3<=e2)
 then (some (.done (.inr false)))
 else (some (.next (wr .i64 (x1+1)))))
 else (some (.done (.inl ())))
def a1x (l:List Int):Option Bool :=
 Option.bind (iter (a2m l) ((l.length:Int).toNat+1) 1) fun b4 =>
 onEnd (fun _ =>
 some true) (fun y6 =>
 some y6) b4
def a2G (l:List ByteArray)(x1:Int):Option (Fl Int (Sum Unit Bool)) :=
 bif decide (x1<(l.length:Int))
 then (Option.bind (idx l x1) fun e2 =>
 Option.bind (a17 e2) fun r3 =>
 Option.bind (bif !r3
 then (some true)
 else (Option.bind (bif decide (0<x1)
 then (Option.bind (idx l (wr .i64 (x1-1))) fun e4 =>
 Option.bind (idx l x1) fun e5 =>
 some (!(a2g e4 e5)))
 else (some false)) fun q6 =>
 some q6)) fun q7 =>
 bif q7
 then (some (.done (.inr false)))
 else (some (.next (wr .i64 (x1+1)))))
 else (some (.done (.inl ())))
def a07 (l:List ByteArray):Option Bool :=
 Option.bind (iter (a2G l) ((l.length:Int).toNat+1) 0) fun b8 =>
 onEnd (fun _ =>
 some true) (fun y10 =>
 some y10) b8
def a1d (n_0:Api_TypeNode)(l:Api_Line):Option Bool :=
 bif l.Kind==6
 then (Option.bind (bif n_0.Kind==10
 then (some ((n_0.Kids.length:Int)==l.Arity))
 else (some false)) fun q1 =>
 some q1)
 else (bif l.Kind==7
 then (some (n_0.Kind==12))
 else (bif l.Kind==8
 then (some (n_0.Kind==13))
 else (bif l.Kind==9
 then (Option.bind (bif n_0.Kind==14
 then (some ((n_0.Kids.length:Int)==(wr .i64 (l.Arity+1))))
 else (some false)) fun q2 =>
 some q2)
 else (some false))))
def a01 (s:List Api_Range)(x1:Int):Option (Fl Int (Sum Unit Bool)) :=
 bif decide (x1<(s.length:Int))
 then (Option.bind (idx s x1) fun e2 =>
 Option.bind (idx s x1) fun e3 =>
 Option.bind (bif decide (e3.Hi<e2.Lo)
 then (some true)
 else (Option.bind (bif decide (0<x1)
 then (Option.bind (idx s (wr .i64 (x1-1))) fun e4 =>
 Option.bind (bif e4.Hi==9223372036854775807
 then (some true)
 else (Option.bind (idx s x1) fun e5 =>
 Option.bind (idx s (wr .i64 (x1-1))) fun e6 =>
 some (decide (e5.Lo<=(wr .i64 (e6.Hi+1)))))) fun q7 =>
 some q7)
 else (some false)) fun q8 =>
 some q8)) fun q9 =>
 bif q9
 then (some (.done (.inr false)))
 else (some (.next (wr .i64 (x1+1)))))
 else (some (.done (.inl ())))
def a1P (s:List Api_Range):Option Bool :=
 Option.bind (iter (a01 s) ((s.length:Int).toNat+1) 0) fun b10 =>
 onEnd (fun _ =>
 some true) (fun y12 =>
 some y12) b10
def a1l (s:Api_Names)(x1:Int):Option (Fl Int (Sum Unit Bool)) :=
 bif decide (x1<(s.List_.length:Int))
 then (Option.bind (idx s.List_ (wr .i64 (x1-1))) fun e2 =>
 Option.bind (idx s.List_ x1) fun e3 =>
 bif !(a2g e2 e3)
 then (some (.done (.inr false)))
 else (some (.next (wr .i64 (x1+1)))))
 else (some (.done (.inl ())))
def a05 (s:Api_Names):Option Bool :=
 Option.bind (iter (a1l s) ((s.List_.length:Int).toNat+1) 1) fun b4 =>
 onEnd (fun _ =>
 some true) (fun y6 =>
 some y6) b4
def a2q (t:Api_Line)(x10:Int)(x11:Int):Option (Fl Int (Sum Unit Bool)) :=
 bif decide (x11<(t.NotVars.length:Int))
 then (Option.bind (idx t.Vars x10) fun e12 =>
 Option.bind (idx t.NotVars x11) fun e13 =>
 bif Y0 e12 e13
 then (some (.done (.inr false)))
 else (some (.next (wr .i64 (x11+1)))))
 else (some (.done (.inl ())))
def a2u (t:Api_Line)(x10:Int):Option (Fl Int (Sum Unit Bool)) :=
 bif decide (x10<(t.Vars.length:Int))
 then (Option.bind (iter (a2q t x10) ((t.NotVars.length:Int).toNat+1) 0) fun b14 =>
 onEnd (fun _ =>
 some (.next (wr .i64 (x10+1)))) (fun y16 =>
 some (.done (.inr y16))) b14)
 else (some (.done (.inl ())))
def a2r (t:Api_Line)(x24:Int)(x25:Int):Option (Fl Int (Sum Unit Bool)) :=
 bif decide (x25<(t.Neg.length:Int))
 then (Option.bind (idx t.Pos x24) fun e26 =>
 Option.bind (idx t.Neg x25) fun e27 =>
 bif e26==e27
 then (some (.done (.inr false)))
 else (some (.next (wr .i64 (x25+1)))))
 else (some (.done (.inl ())))
def a2t (t:Api_Line)(x24:Int):Option (Fl Int (Sum Unit Bool)) :=
 bif decide (x24<(t.Pos.length:Int))
 then (Option.bind (iter (a2r t x24) ((t.Neg.length:Int).toNat+1) 0) fun b28 =>
 onEnd (fun _ =>
 some (.next (wr .i64 (x24+1)))) (fun y30 =>
 some (.done (.inr y30))) b28)
 else (some (.done (.inl ())))
def a2v (d:Api_Type)(t:Api_Line)(x36:Int):Option (Fl Int (Sum Unit Bool)) :=
 bif decide (x36<((t.Pos++t.Neg).length:Int))
 then (Option.bind (idx (t.Pos++t.Neg) x36) fun e37 =>
 Option.bind (bif decide (e37<0)
 then (some true)
 else (Option.bind (idx (t.Pos++t.Neg) x36) fun e38 =>
 some (decide ((d.Nodes.length:Int)<=e38)))) fun q39 =>
 Option.bind (bif q39
 then (some true)
 else (Option.bind (idx (t.Pos++t.Neg) x36) fun e40 =>
 Option.bind (idx d.Nodes e40) fun e41 =>
 Option.bind (a1d e41 t) fun r42 =>
 some (!r42))) fun q43 =>
 bif q43
 then (some (.done (.inr false)))
 else (some (.next (wr .i64 (x36+1)))))
 else (some (.done (.inl ())))
def a5h (d:Api_Type)(t:Api_Line):Option Bool :=
 Option.bind (bif decide (t.Kind<1)
 then (some true)
 else (some (decide (9<t.Kind)))) fun q1 =>
 Option.bind (bif q1
 then (some true)
 else (Option.bind (a1x t.Pos) fun r2 =>
 some (!r2))) fun q3 =>
 Option.bind (bif q3
 then (some true)
 else (Option.bind (a1x t.Neg) fun r4 =>
 some (!r4))) fun q5 =>
 Option.bind (bif q5
 then (some true)
 else (Option.bind (a07 t.Vars) fun r6 =>
 some (!r6))) fun q7 =>
 Option.bind (bif q7
 then (some true)
 else (Option.bind (a07 t.NotVars) fun r8 =>
 some (!r8))) fun q9 =>
 bif q9
 then (some false)
 else (Option.bind (iter (a2u t) ((t.Vars.length:Int).toNat+1) 0) fun b17 =>
 onEnd (fun _ =>
 Option.bind (bif t.Kind != 6
 then (some (t.Kind != 9))
 else (some false)) fun q20 =>
 Option.bind (bif q20
 then (some (t.Arity != 0))
 else (some false)) fun q21 =>
 Option.bind (bif q21
 then (some true)
 else (Option.bind (bif decide (t.Kind<6)
 then (some (decide (0<(wr .i64 ((t.Pos.length:Int)+(t.Neg.length:Int))))))
 else (some false)) fun q22 =>
 some q22)) fun q23 =>
 bif q23
 then (some false)
 else (Option.bind (iter (a2t t) ((t.Pos.length:Int).toNat+1) 0) fun b31 =>
 onEnd (fun _ =>
 Option.bind (Z4 (0+t.Pos.length) 8) fun _ =>
 Option.bind (Z4 (t.Pos.length+t.Neg.length) 8) fun _ =>
 Option.bind (iter (a2v d t) (((t.Pos++t.Neg).length:Int).toNat+1) 0) fun b44 =>
 onEnd (fun _ =>
 Option.bind (bif decide (0<(t.Ints.length:Int))
 then (Option.bind (a1P t.Ints) fun r47 =>
 some r47)
 else (some false)) fun q48 =>
 Option.bind (a05 t.Names) fun r49 =>
 Option.bind (bif r49
 then (Option.bind (bif t.Names.Cofinite
 then (some true)
 else (some (decide (0<(t.Names.List_.length:Int))))) fun q50 =>
 some q50)
 else (some false)) fun q51 =>
 Option.bind (bif (t.Kind==1)==q48
 then (Option.bind (bif t.Kind==1
 then (some true)
 else (some ((t.Ints.length:Int)==0))) fun q52 =>
 some q52)
 else (some false)) fun q53 =>
 Option.bind (bif q53
 then (Option.bind (bif t.Kind==2
 then (some true)
 else (some (t.Kind==3))) fun q54 =>
 some (q54==q51))
 else (some false)) fun q55 =>
 Option.bind (bif q55
 then (Option.bind (bif q51
 then (some true)
 else (some ((t.Names.List_.length:Int)==0))) fun q56 =>
 some q56)
 else (some false)) fun q57 =>
 some q57) (fun y46 =>
 some y46) b44) (fun y33 =>
 some y33) b31)) (fun y19 =>
 some y19) b17)
noncomputable def a0V (r3:Api_Type×Val)(r5:List Api_Line)(x7:Int):Option (Fl Int (Sum Unit Bool)) :=
 bif decide (x7<(r5.length:Int))
 then (Option.bind (idx r5 x7) fun e8 =>
 Option.bind (a5h r3.1 e8) fun r9 =>
 bif !r9
 then (some (.done (.inr false)))
 else (some (.next (wr .i64 (x7+1)))))
 else (some (.done (.inl ())))
noncomputable def a0N (n:Nat)(l:List Int)(m:List Int):Option Bool :=
 Option.bind (a5C ([l,m]:List (List Int))) fun r1 =>
 bif !r1
 then (Option.bind (a23 n) fun r2 =>
 some r2)
 else (Option.bind (a5z n l ([]:List Int)) fun r3 =>
 Option.bind (a3f (Semtypebase_Source.mk m 0) r3.1) fun r4 =>
 Option.bind (a6J n r3.1 r4.1) fun r5 =>
 bif decide (2000<(r5.length:Int))
 then (Option.bind (a23 n) fun r6 =>
 some r6)
 else (Option.bind (iter (a0V r3 r5) ((r5.length:Int).toNat+1) 0) fun b10 =>
 onEnd (fun _ =>
 Option.bind (a23 n) fun r13 =>
 some r13) (fun y12 =>
 some y12) b10))
end Go.Qx
end
section
namespace Go.Pl
open Go Go.RowKit Go.Sx Go.Qx
theorem Y1 (x:Int):wr .i64 x=w64 x:=rfl
theorem V8 {α:Type}(b:Bool)(x y:α):(bif b then x else y)=if b=true then x else y:=by cases b<;>rfl
theorem V2 {α:Type}(o:Option α):(Option.bind o fun x=>some x)=o:=by cases o<;>rfl
theorem Y2 {α:Type}(l:List α):((l.length:Int)).toNat=l.length:=by omega
theorem c21 (s:ByteArray):((s.size:Int)).toNat=s.size:=by omega
theorem Q8 {x:Int}(h1 : -9223372036854775808<=x)(h2:x<=9223372036854775807):w64 x=x:=by
 unfold w64
 rw [IntKind.wrap_i64]
 omega
theorem j5 {α:Type}{xs:List α}{i:Nat}{x:α}(h:xs[i]?=some x):idx xs (i:Int)=some x:=by
 unfold idx
 rw [if_pos (by omega)]
 simpa using h
theorem Z6 {n bytes:Nat}(h:n*bytes<=140737488355328):Z4 n bytes=some ():=by unfold Z4; rw [if_pos h]
theorem a27 {σ α St β:Type}{step:St->Option (Fl St β)}(xs:List α)(pack:σ->Nat->St)(F:σ->α->σ)(I:Nat->σ->Prop)(D:σ->β)
 (hstep:∀ i s x,xs[i]?=some x->I i s->step (pack s i)=some (.next (pack (F s x) (i+1)))/\I (i+1) (F s x))
 (hend:∀ s,I xs.length s->step (pack s xs.length)=some (.done (D s))) (s0:σ) (h0:I 0 s0) (k:Nat) (hk:xs.length+1<=k) :
 iter step k (pack s0 0)=some (D (xs.foldl F s0)):=by
 have key:∀ (n i:Nat) (s:σ) (k:Nat),i+n=xs.length->n+1<=k->I i s->iter step k (pack s i)=some (D ((xs.drop i).foldl F s)):=by
  intro n
  induction n with
  | zero =>
    intro i s k hi hk hI
    have e:i=xs.length:=by omega
    subst e
    obtain ⟨k,rfl⟩:∃ m,k=m+1:=⟨k-1,by omega⟩
    simp [iter,hend s hI]
  | succ n ih =>
    intro i s k hi hk hI
    have hlt:i<xs.length:=by omega
    obtain ⟨k,rfl⟩:∃ m,k=m+1:=⟨k-1,by omega⟩
    obtain ⟨h1,h2⟩:=hstep i s xs[i] (List.getElem?_eq_getElem hlt) hI
    rw [List.drop_eq_getElem_cons hlt,List.foldl_cons]
    simp only [iter,h1,Option.bind_some]
    exact ih (i+1) _ k (by omega) (by omega) h2
 have:=key xs.length 0 s0 k (by omega) hk h0
 simpa using this
def a3R (s:ByteArray):Nat:=s.size+1
def K0:List ByteArray->Nat
 | []=>0
 | s::r=>a3R s+K0 r
def a6I (k:Key):Nat:=1+a3R k.Text+1
def v8:List Key->Nat
 | []=>0
 | s::r=>a6I s+v8 r
mutual
def j9:Val->Nat
 | .mk _ _ t kids keys ents labs=>1+1+a3R t+(k7 kids+1)+(v8 keys+1)+(w9 ents+1)+(K0 labs+1)+1
def k7:List Val->Nat
 | []=>0
 | x::r=>j9 x+k7 r
def a4n:Ent->Nat
 | .mk args _ res=>(k7 args+1)+1+j9 res+1
def w9:List Ent->Nat
 | []=>0
 | x::r=>a4n x+w9 r
end
theorem a1y (v:Val):j9 v=1+1+a3R v.Text+(k7 v.Kids+1)+(v8 v.Keys+1)+(w9 v.Entries+1)+(K0 v.Labels+1)+1:=by
 cases v; simp only [j9,Val.Text,Val.Kids,Val.Keys,Val.Entries,Val.Labels]
theorem a1v (v:Ent):a4n v=(k7 v.Args+1)+1+j9 v.Result+1:=by
 cases v; simp only [a4n,Ent.Args,Ent.Result]
theorem a1j {x:Val}:∀ {l:List Val},x∈l->j9 x<=k7 l
 | y::r,h=>by
   simp only [k7]
   rcases List.mem_cons.1 h with rfl | h
   ·omega
   ·have:=a1j h; omega
theorem X6 {x:Ent}:∀ {l:List Ent},x∈l->a4n x<=w9 l
 | y::r,h=>by
   simp only [w9]
   rcases List.mem_cons.1 h with rfl | h
   ·omega
   ·have:=X6 h; omega
theorem a2L:∀ (l:List Val),l.length<=k7 l
 | []=>Nat.le_refl _
 | x::r=>by have:=a2L r; have:=a1y x; simp only [k7,List.length_cons]; omega
theorem a3w:∀ (l:List Ent),l.length<=w9 l
 | []=>Nat.le_refl _
 | x::r=>by have:=a3w r; have:=a1v x; simp only [w9,List.length_cons]; omega
theorem a56:∀ (l:List Key),l.length<=v8 l
 | []=>Nat.le_refl _
 | x::r=>by have:=a56 r; simp only [v8,a6I,List.length_cons]; omega
theorem a4H:∀ (l:List ByteArray),l.length<=K0 l
 | []=>Nat.le_refl _
 | x::r=>by have:=a4H r; simp only [K0,a3R,List.length_cons]; omega
theorem a1H (l m:List Val):k7 (l++m)=k7 l+k7 m:=by
 induction l with
 | nil=>simp [k7]
 | cons x r ih=>simp only [List.cons_append,k7,ih]; omega
theorem a8J (v:Val):8<=j9 v:=by rw [a1y]; unfold a3R; omega
end Go.Pl
namespace Go.Pl
open Go Go.RowKit Go.Sx Go.Qx
def a65 (e:Ent):List Val:=e.Args++(if e.Fails then [] else [e.Result])
def a9r (v:Val):List Val:=v.Kids++v.Entries.flatMap a65
theorem c6y (e:Ent):k7 (a65 e)<a4n e:=by
 rw [a1v,a65,a1H]
 cases e.Fails<;>simp [k7]<;>omega
theorem b8W:∀ l:List Ent,k7 (l.flatMap a65)<=w9 l
 | []=>by simp [k7]
 | e::r=>by
   have h1:=b8W r
   have h2:=c6y e
   simp only [List.flatMap_cons,a1H,w9]
   omega
theorem c8g (v:Val):k7 (a9r v)<j9 v:=by
 have:=b8W v.Entries
 rw [a1y,a9r,a1H]
 omega
theorem b8w {α β:Type}(f:β->List α):∀ (l:List β) (s:List α),l.foldl (fun s x=>s++f x) s=s++l.flatMap f
 | [],s=>by simp
 | x::r,s=>by simp only [List.foldl_cons,b8w f r,List.flatMap_cons,List.append_assoc]
theorem d1g (v:Val)(h:j9 v<=4194304):b0u v=some (a9r v):=by
 have hb:=a1y v
 have hk:=a2L v.Kids
 unfold b0u a0n
 rw [Z6 (by simp; omega)]
 simp only [Option.bind_some,Y2,V2]
 have hlen:=a3w v.Entries
 have hloop:iter (a7C v) (v.Entries.length+1) (v.Kids,0)=some (v.Entries.foldl (fun s e=>s++a65 e) v.Kids):=by
  refine a27 (σ:=List Val) v.Entries (fun s i=>(s,(i:Int))) (fun s e=>s++a65 e) (fun i s=>s=v.Kids++(v.Entries.take i).flatMap a65) (fun s=>s)
   ?_ ?_ v.Kids (by simp) _ (Nat.le_refl _)
  ·intro i s e he hI
   have hi:i<v.Entries.length:=(List.getElem?_eq_some_iff.1 he).1
   have hmem:e∈v.Entries:=List.mem_of_getElem? he
   have h1:=X6 hmem
   have h2:=a1v e
   have h3:=a2L e.Args
   have hs:s.length+e.Args.length+1<=8388608:=by
    have:k7 s<=j9 v:=by
     rw [hI,a1H]
     have h5:=b8W (v.Entries.take i)
     have h6:w9 (v.Entries.take i)<=w9 v.Entries:=by
      have:=List.take_append_drop i v.Entries
      have h7:∀ a b:List Ent,w9 (a++b)=w9 a+w9 b:=by
       intro a b
       induction a with
       | nil=>simp [w9]
       | cons x r ih=>simp only [List.cons_append,w9,ih]; omega
      have h8:=h7 (v.Entries.take i) (v.Entries.drop i)
      rw [this] at h8
      omega
     omega
    have:=a2L s
    omega
   refine ⟨?_,?_⟩
   ·unfold a7C
    simp only [V8,Y1]
    rw [if_pos (by simp; omega),j5 he]
    simp only [Option.bind_some]
    rw [Z6 (by omega)]
    simp only [Option.bind_some]
    have hw:w64 ((i:Int)+1)=((i+1:Nat):Int):=by rw [Q8 (by omega) (by omega)]; rfl
    cases hf:e.Fails
    ·rw [if_pos (by simp),Z6 (by simp only [List.length_append,List.length_cons,List.length_nil]; omega)]
     simp [a65,hf,hw]
    ·rw [if_neg (by simp)]
     simp [a65,hf,hw]
   ·rw [hI,List.take_add_one,he]
    simp
  ·intro s _
   unfold a7C
   simp
 rw [hloop]
 simp only [b8w,a9r]
theorem a08 {α:Type}{l:List α}{i:Nat}{x:α}(h:l[i]?=some x):l.take (i+1)=l.take i++[x]:=by
 rw [List.take_add_one,h]; rfl
end Go.Pl
end
section
namespace Go.Pl
open Go Go.RowKit Go.Sx Go.Qx
def tn (x y:Int):Int:=if x=0 then y else x
def cI (x y:Int):Int:=if x<y then -1 else if y<x then 1 else 0
def lx:List Int->List Int->Int
 | [],[]=>0
 | [],_::_ => -1
 | _::_,[]=>1
 | x::xs,y::ys=>tn (cI x y) (lx xs ys)
theorem b0p (x y z:Int):tn (tn x y) z=tn x (tn y z):=by unfold tn; split<;>simp_all
theorem a93 (x:Int):tn x 0=x:=by unfold tn; split<;>simp_all
theorem a8H (x:Int):tn 0 x=x:=by simp [tn]
theorem K4 (x y:Int):(x<y/\cI x y = -1)\/(y<x/\cI x y=1)\/(x=y/\cI x y=0):=by
 unfold cI
 by_cases h:x<y
 ·left; simp [h]
 ·by_cases h2:y<x
  ·right; left; simp [h,h2]
  ·right; right; simp [h,h2]; omega
theorem b6e:∀ a b:List Int,lx b a = - lx a b
 | [],[]=>by simp [lx]
 | [],_::_=>by simp [lx]
 | _::_,[]=>by simp [lx]
 | x::xs,y::ys=>by
   have:=b6e xs ys
   rcases K4 x y with ⟨h1,h⟩ | ⟨h1,h⟩ | ⟨h1,h⟩<;>rcases K4 y x with ⟨h2,k⟩ | ⟨h2,k⟩ | ⟨h2,k⟩<;>simp [lx,h,k,tn]<;>omega
theorem c0x:∀ a b c:List Int,lx a b<=0->lx b c<=0->lx a c<=0
 | [],_,[],_,_=>by simp [lx]
 | [],_,_::_,_,_=>by simp [lx]
 | _::_,[],_,h,_=>by simp [lx] at h
 | _::_,_::_,[],_,h=>by simp [lx] at h
 | x::xs,y::ys,z::zs,h1,h2=>by
   have:=c0x xs ys zs
   rcases K4 x y with ⟨p1,h⟩ | ⟨p1,h⟩ | ⟨p1,h⟩<;>rcases K4 y z with ⟨p2,k⟩ | ⟨p2,k⟩ | ⟨p2,k⟩ <;>
    rcases K4 x z with ⟨p3,l⟩ | ⟨p3,l⟩ | ⟨p3,l⟩<;>simp [lx,h,k,l,tn] at h1 h2 ⊢<;>first | omega | (exact this (by omega) (by omega))
theorem d2R:∀ a:List Int,lx a a=0:=by intro a; have:=b6e a a; omega
def cBs:List UInt8->List UInt8->Int
 | [],[]=>0
 | [],_::_ => -1
 | _::_,[]=>1
 | x::xs,y::ys=>tn (cI x.toNat y.toNat) (cBs xs ys)
def eBs:List UInt8->List Int
 | []=>[0]
 | x::r=>((x.toNat:Int)+1)::eBs r
theorem d2E (x y:Int):cI (x+1) (y+1)=cI x y:=by
 unfold cI
 by_cases h:x<y
 ·rw [if_pos (by omega),if_pos h]
 ·rw [if_neg (by omega),if_neg h]
  by_cases h2:y<x
  ·rw [if_pos (by omega),if_pos h2]
  ·rw [if_neg (by omega),if_neg h2]
theorem d22:∀ (a b:List UInt8) (r s:List Int),lx (eBs a++r) (eBs b++s)=tn (cBs a b) (lx r s)
 | [],[],r,s=>by simp [eBs,lx,cBs,cI,a8H]
 | [],y::ys,r,s=>by
   have:cI 0 ((y.toNat:Int)+1) = -1:=by unfold cI; rw [if_pos (by omega)]
   simp [eBs,lx,cBs,this,tn]
 | x::xs,[],r,s=>by
   have:cI ((x.toNat:Int)+1) 0=1:=by unfold cI; rw [if_neg (by omega),if_pos (by omega)]
   simp [eBs,lx,cBs,this,tn]
 | x::xs,y::ys,r,s=>by
   simp only [eBs,List.cons_append,lx,cBs,d2E,d22 xs ys,b0p]
def cS (a b:ByteArray):Int:=cBs a.data.toList b.data.toList
def eS (a:ByteArray):List Int:=eBs a.data.toList
theorem pfS (a b:ByteArray)(r s:List Int):lx (eS a++r) (eS b++s)=tn (cS a b) (lx r s):=d22 _ _ r s
def cK (a b:Key):Int:=tn (cI a.Kind b.Kind) (cS a.Text b.Text)
def eK (a:Key):List Int:=a.Kind::eS a.Text
theorem pfK (a b:Key)(r s:List Int):lx (eK a++r) (eK b++s)=tn (cK a b) (lx r s):=by
 simp only [eK,List.cons_append,lx,pfS,cK,b0p]
def cL {α:Type}(c:α->α->Int):List α->List α->Int
 | [],_=>0
 | _::_,[]=>0
 | x::xs,y::ys=>tn (c x y) (cL c xs ys)
def cN {α:Type}(c:α->α->Int)(xs ys:List α):Int:=tn (cI (xs.length:Int) (ys.length:Int)) (cL c xs ys)
def eN {α:Type}(e:α->List Int)(xs:List α):List Int:=(xs.length:Int)::xs.flatMap e
theorem pfL {α:Type}{c:α->α->Int}{e:α->List Int}:∀ (xs ys:List α) (r s:List Int),(∀ x∈xs,∀ y r s,lx (e x++r) (e y++s)=tn (c x y) (lx r s))->xs.length=ys.length ->
 lx (xs.flatMap e++r) (ys.flatMap e++s)=tn (cL c xs ys) (lx r s)
 | [],[],r,s,_,_=>by simp [cL,a8H]
 | [],_::_,_,_,_,h=>by simp at h
 | _::_,[],_,_,_,h=>by simp at h
 | x::xs,y::ys,r,s,hc,h=>by
   simp only [List.flatMap_cons,List.append_assoc,cL]
   rw [hc x (by simp),pfL xs ys r s (fun z hz=>hc z (by simp [hz])) (by simpa using h),b0p]
theorem pfN {α:Type}{c:α->α->Int}{e:α->List Int}(xs ys:List α)(r s:List Int)(hc:∀ x∈xs,∀ y r s,lx (e x++r) (e y++s)=tn (c x y) (lx r s)) :
 lx (eN e xs++r) (eN e ys++s)=tn (cN c xs ys) (lx r s):=by
 simp only [eN,List.cons_append,lx,cN,b0p]
 rcases K4 (xs.length:Int) (ys.length:Int) with ⟨_,h⟩ | ⟨_,h⟩ | ⟨h1,h⟩
 ·simp [h,tn]
 ·simp [h,tn]
 ·rw [h,a8H,a8H,pfL xs ys r s hc (by omega)]
def bI (b:Bool):Int:=if b then 0 else 1
mutual
def cV:Val->Val->Int
 | .mk k n t kids keys ents labs,b=>tn (cI k b.Kind) (tn (cI n b.Int_) (tn (cS t b.Text) (tn (cN cK keys b.Keys) (tn (tn (cI (kids.length:Int) (b.Kids.length:Int)) (cVs kids b.Kids)) (tn (tn (cI (ents.length:Int) (b.Entries.length:Int)) (cEs ents b.Entries)) (cN cS labs b.Labels))))))
def cVs:List Val->List Val->Int
 | [],_=>0
 | _::_,[]=>0
 | x::xs,y::ys=>tn (cV x y) (cVs xs ys)
def cE:Ent->Ent->Int
 | .mk args f res,b=>tn (tn (cI (args.length:Int) (b.Args.length:Int)) (cVs args b.Args)) (tn (cI (bI f) (bI b.Fails)) (cV res b.Result))
def cEs:List Ent->List Ent->Int
 | [],_=>0
 | _::_,[]=>0
 | x::xs,y::ys=>tn (cE x y) (cEs xs ys)
end
theorem c4O:∀ xs ys:List Val,cVs xs ys=cL cV xs ys
 | [],_=>by simp [cVs,cL]
 | _::_,[]=>by simp [cVs,cL]
 | x::xs,y::ys=>by simp only [cVs,cL,c4O xs ys]
theorem c9e:∀ xs ys:List Ent,cEs xs ys=cL cE xs ys
 | [],_=>by simp [cEs,cL]
 | _::_,[]=>by simp [cEs,cL]
 | x::xs,y::ys=>by simp only [cEs,cL,c9e xs ys]
theorem c7U (a b:Val):cV a b=tn (cI a.Kind b.Kind) (tn (cI a.Int_ b.Int_) (tn (cS a.Text b.Text) (tn (cN cK a.Keys b.Keys) (tn (cN cV a.Kids b.Kids) (tn (cN cE a.Entries b.Entries) (cN cS a.Labels b.Labels)))))):=by
 cases a; simp only [cV,c4O,c9e,cN,Val.Kind,Val.Int_,Val.Text,Val.Keys,Val.Kids,Val.Entries,Val.Labels]
theorem c8h (a b:Ent):cE a b=tn (cN cV a.Args b.Args) (tn (cI (bI a.Fails) (bI b.Fails)) (cV a.Result b.Result)):=by
 cases a; simp only [cE,c4O,cN,Ent.Args,Ent.Fails,Ent.Result]
mutual
def eV:Val->List Int
 | .mk k n t kids keys ents labs=>k::n::(eS t++(eN eK keys++(((kids.length:Int)::eVs kids)++(((ents.length:Int)::eEs ents)++eN eS labs))))
def eVs:List Val->List Int
 | []=>[]
 | x::xs=>eV x++eVs xs
def eE:Ent->List Int
 | .mk args f res=>((args.length:Int)::eVs args)++(bI f::eV res)
def eEs:List Ent->List Int
 | []=>[]
 | x::xs=>eE x++eEs xs
end
theorem c4Z:∀ xs:List Val,eVs xs=xs.flatMap eV
 | []=>by simp [eVs]
 | x::xs=>by simp only [eVs,List.flatMap_cons,c4Z xs]
theorem c8R:∀ xs:List Ent,eEs xs=xs.flatMap eE
 | []=>by simp [eEs]
 | x::xs=>by simp only [eEs,List.flatMap_cons,c8R xs]
theorem d1W (a:Val):eV a=a.Kind::a.Int_::(eS a.Text++(eN eK a.Keys++(eN eV a.Kids++(eN eE a.Entries++eN eS a.Labels)))):=by
 cases a; simp only [eV,c4Z,c8R,eN,Val.Kind,Val.Int_,Val.Text,Val.Keys,Val.Kids,Val.Entries,Val.Labels]
theorem d1z (a:Ent):eE a=eN eV a.Args++(bI a.Fails::eV a.Result):=by
 cases a; simp only [eE,c4Z,eN,Ent.Args,Ent.Fails,Ent.Result]
theorem c8B:∀ n:Nat,(∀ a:Val,j9 a<=n->∀ b r s,lx (eV a++r) (eV b++s)=tn (cV a b) (lx r s))/\(∀ a:Ent,a4n a<=n->∀ b r s,lx (eE a++r) (eE b++s)=tn (cE a b) (lx r s)):=by
 intro n
 induction n with
 | zero=>exact ⟨fun a h=>by have:=a8J a; omega,fun a h=>by have:=a1v a; omega⟩
 | succ n ih =>
   refine ⟨fun a h b r s=>?_,fun a h b r s=>?_⟩
   ·have hb:=a1y a
    rw [d1W a,d1W b,c7U]
    simp only [List.cons_append,List.append_assoc,lx,b0p]
    rw [pfS,pfN a.Keys b.Keys _ _ (fun x _ y r s=>pfK x y r s),pfN a.Kids b.Kids _ _ (fun x hx=>ih.1 x (by have:=a1j hx; omega)),
     pfN a.Entries b.Entries _ _ (fun x hx=>ih.2 x (by have:=X6 hx; omega)),pfN a.Labels b.Labels _ _ (fun x _ y r s=>pfS x y r s)]
   ·have hb:=a1v a
    rw [d1z a,d1z b,c8h]
    simp only [List.append_assoc,b0p]
    rw [pfN a.Args b.Args _ _ (fun x hx=>ih.1 x (by have:=a1j hx; omega))]
    simp only [List.cons_append,lx]
    rw [ih.1 a.Result (by omega)]
theorem d4r (a b:Val):cV a b=lx (eV a) (eV b):=by
 have:=(c8B (j9 a)).1 a (Nat.le_refl _) b [] []
 simpa [lx,a93] using this.symm
theorem d2e (a:Val):cV a a=0:=by rw [d4r]; exact d2R _
end Go.Pl
namespace Go.Pl
open Go Go.RowKit Go.Sx Go.Qx
theorem b6E (a b:Int):a0F a b=some (cI a b):=by
 unfold a0F a8r
 simp only [V8,bne_self_eq_false,Option.bind_some,Bool.false_eq_true,if_false]
 rcases K4 a b with ⟨h,e⟩ | ⟨h,e⟩ | ⟨h,e⟩
 ·rw [if_pos (by simpa using h),e]
 ·rw [if_neg (by simp; omega),if_pos (by simpa using h),e]
 ·rw [if_neg (by simp; omega),if_neg (by simp; omega),e]
theorem c5W (a b:Int):a1S a b=some (cI a b):=by
 unfold a1S a5d
 simp only [V8,bne_self_eq_false,Option.bind_some,Bool.false_eq_true,if_false]
 rcases K4 a b with ⟨h,e⟩ | ⟨h,e⟩ | ⟨h,e⟩
 ·rw [if_pos (by simpa using h),e]
 ·rw [if_neg (by simp; omega),if_pos (by simpa using h),e]
 ·rw [if_neg (by simp; omega),if_neg (by simp; omega),e]
theorem b2J (a b:Int):a2Y a b=some (cI a b):=by
 unfold a2Y
 simp only [V8]
 rcases K4 a b with ⟨h,e⟩ | ⟨h,e⟩ | ⟨h,e⟩
 ·rw [if_pos (by simpa using h),e]
 ·rw [if_neg (by simp; omega),if_pos (by simpa using h),e]
 ·rw [if_neg (by simp; omega),if_neg (by simp; omega),e]
theorem b83 (a b:Int):a0r a b=some (cI a b):=by
 unfold a0r; rw [b2J]; rfl
theorem c6J:∀ a b:List UInt8,Lib.compareBytes a b=cBs a b
 | [],[]=>rfl
 | [],_::_=>rfl
 | _::_,[]=>rfl
 | x::xs,y::ys=>by
   have ih:=c6J xs ys
   simp only [Lib.compareBytes,cBs,UInt8.lt_iff_toNat_lt]
   rcases K4 (x.toNat:Int) (y.toNat:Int) with ⟨h,e⟩ | ⟨h,e⟩ | ⟨h,e⟩
   ·rw [if_pos (by omega),e]; rfl
   ·rw [if_neg (by omega),if_pos (by omega),e]; rfl
   ·rw [if_neg (by omega),if_neg (by omega),e,a8H,ih]
theorem b2c (a b:ByteArray):a0i a b=some (cS a b):=by
 unfold a0i a2F c55 b8p
 rw [c6J]; rfl
theorem b9d:∀ a b:List UInt8,(Op.bytesLess a b=true/\cBs a b = -1/\a≠b)\/(Op.bytesLess a b=false/\cBs a b=0/\a=b)\/(Op.bytesLess a b=false/\cBs a b=1/\a≠b)
 | [],[]=>by simp [Op.bytesLess,cBs]
 | [],_::_=>by simp [Op.bytesLess,cBs]
 | _::_,[]=>by simp [Op.bytesLess,cBs]
 | x::xs,y::ys=>by
   have ih:=b9d xs ys
   simp only [Op.bytesLess,cBs]
   rcases K4 (x.toNat:Int) (y.toNat:Int) with ⟨h,e⟩ | ⟨h,e⟩ | ⟨h,e⟩
   ·have h1:x<y:=UInt8.lt_iff_toNat_lt.2 (by omega)
    have h2:x≠y:=by intro h3; subst h3; omega
    simp [e,h1,h2,tn]
   ·have h1:¬ x<y:=fun h3=>by have:=UInt8.lt_iff_toNat_lt.1 h3; omega
    have h2:x≠y:=by intro h3; subst h3; omega
    simp [e,h1,h2,tn]
   ·have h2:x=y:=UInt8.toNat_inj.1 (by omega)
    subst h2
    have h1:¬ x<x:=fun h3=>by have:=UInt8.lt_iff_toNat_lt.1 h3; omega
    simpa [e,h1,tn] using ih
theorem a8N (a b:ByteArray):(a2g a b=true/\Y0 a b=false/\cS a b = -1)\/(a2g a b=false/\Y0 a b=true/\cS a b=0)\/(a2g a b=false/\Y0 a b=false/\cS a b=1):=by
 unfold a2g Y0 cS
 rw [Lib.toList_data,Lib.toList_data]
 rcases b9d a.data.toList b.data.toList with ⟨h,e,n⟩ | ⟨h,e,n⟩ | ⟨h,e,n⟩
 ·left; exact ⟨h,by simpa using n,e⟩
 ·right; left; exact ⟨h,by simpa using n,e⟩
 ·right; right; exact ⟨h,by simpa using n,e⟩
theorem b4O (a b:ByteArray):a1w a b=some (cS a b):=by
 unfold a1w
 rcases a8N a b with ⟨h,k,e⟩ | ⟨h,k,e⟩ | ⟨h,k,e⟩<;>simp [h,k,e]
theorem b0x {x y:Int}{o:Option Int}(h:o=some y):(bif (x != 0) then some x else o)=some (tn x y):=by
 rw [V8]
 unfold tn
 by_cases hx:x=0
 ·subst hx; simp [h]
 ·simp [hx]
theorem c8j {a b y:Int}{o:Option Int}(h:o=some y):(bif (a != b) then some (cI a b) else o)=some (tn (cI a b) y):=by
 rw [V8]
 unfold tn
 rcases K4 a b with ⟨p,e⟩ | ⟨p,e⟩ | ⟨p,e⟩
 ·have:a≠b:=by omega
  simp [this,e]
 ·have:a≠b:=by omega
  simp [this,e]
 ·simp [p,h]
  subst p
  intro h2; rw [e] at h2; exact absurd rfl h2
theorem d4O {a b:ByteArray}{y:Int}{o:Option Int}(h:o=some y):(bif (!Y0 a b) then (Option.bind (a1w a b) fun r=>some r) else o)=some (tn (cS a b) y):=by
 rw [V8,b4O,h]
 rcases a8N a b with ⟨_,p,e⟩ | ⟨_,p,e⟩ | ⟨_,p,e⟩<;>simp [p,e,tn]
theorem b4B (a b:Key):X8 a b=some (cK a b):=by
 unfold X8
 rw [b6E]
 simp only [Option.bind_some]
 exact b0x (by rw [b2c]; rfl)
theorem b4c (a b:Key):a0e a b=some (cK a b):=by
 unfold a0e
 rw [b2J]
 exact c8j (by rw [b4O]; rfl)
theorem c99 {α:Type}{step:Int->Option (Fl Int (Sum Unit Int))}{rc:α->α->Option Int}{c:α->α->Int}(xs ys:List α)(hlen:xs.length=ys.length)
 (hst:∀ q,step q=bif decide (q<(xs.length:Int)) then Option.bind (idx xs q) fun x=>Option.bind (idx ys q) fun y=>Option.bind (rc x y) fun r =>
   bif r != 0 then some (.done (.inr r)) else some (.next (wr .i64 (q+1))) else some (.done (.inl ())))
 (hrc:∀ x∈xs,∀ y,rc x y=some (c x y)) (hl:xs.length<=4194304) :
 ∃ o,iter step (xs.length+1) 0=some o/\((o=.inl ()/\cL c xs ys=0)\/(o=.inr (cL c xs ys)/\cL c xs ys≠0)):=by
 have key:∀ (n i k:Nat),i+n=xs.length->n+1<=k ->
  ∃ o,iter step k (i:Int)=some o/\((o=.inl ()/\cL c (xs.drop i) (ys.drop i)=0)\/(o=.inr (cL c (xs.drop i) (ys.drop i))/\cL c (xs.drop i) (ys.drop i)≠0)):=by
  intro n
  induction n with
  | zero =>
    intro i k hi hk
    obtain ⟨k,rfl⟩:∃ m,k=m+1:=⟨k-1,by omega⟩
    refine ⟨.inl (),?_,.inl ⟨rfl,?_⟩⟩
    ·simp only [iter,hst,V8]
     rw [if_neg (by simp; omega)]
     rfl
    ·rw [List.drop_eq_nil_of_le (by omega)]; simp [cL]
  | succ n ih =>
    intro i k hi hk
    obtain ⟨k,rfl⟩:∃ m,k=m+1:=⟨k-1,by omega⟩
    have hx:i<xs.length:=by omega
    have hy:i<ys.length:=by omega
    rw [List.drop_eq_getElem_cons hx,List.drop_eq_getElem_cons hy]
    have e:step (i:Int)=if (c xs[i] ys[i] != 0)=true then some (.done (.inr (c xs[i] ys[i]))) else some (.next (w64 ((i:Int)+1))):=by
     rw [hst]
     simp only [V8,Y1]
     rw [if_pos (by simp; omega),j5 (List.getElem?_eq_getElem hx),j5 (List.getElem?_eq_getElem hy)]
     simp only [Option.bind_some]
     rw [hrc _ (List.getElem_mem hx)]
     rfl
    simp only [iter,e,cL]
    by_cases h0:c xs[i] ys[i]=0
    ·rw [h0,a8H,Q8 (x:=(i:Int)+1) (by omega) (by omega)]
     obtain ⟨o,ho,hp⟩:=ih (i+1) k (by omega) (by omega)
     refine ⟨o,?_,hp⟩
     simpa using ho
    ·have ht:tn (c xs[i] ys[i]) (cL c (xs.drop (i+1)) (ys.drop (i+1)))=c xs[i] ys[i]:=by simp [tn,h0]
     rw [ht]
     refine ⟨.inr (c xs[i] ys[i]),?_,.inr ⟨rfl,h0⟩⟩
     simp [h0]
 obtain ⟨o,h1,h2⟩:=key xs.length 0 (xs.length+1) (by omega) (Nat.le_refl _)
 exact ⟨o,by simpa using h1,by simpa using h2⟩
theorem c6M {α:Type}{step:Int->Option (Fl Int (Sum Unit Int))}{rc:α->α->Option Int}{c:α->α->Int}(xs ys:List α)(hlen:xs.length=ys.length)
 (hst:∀ q,step q=bif decide (q<(xs.length:Int)) then Option.bind (idx xs q) fun x=>Option.bind (idx ys q) fun y=>Option.bind (rc x y) fun r =>
   bif r != 0 then some (.done (.inr r)) else some (.next (wr .i64 (q+1))) else some (.done (.inl ())))
 (hrc:∀ x∈xs,∀ y,rc x y=some (c x y)) (hl:xs.length<=4194304) {f:Unit->Option Int} {z:Int} (hf:∀ q,f q=some z) :
 (Option.bind (iter step (((xs.length:Int)).toNat+1) 0) fun b=>onEnd f (fun r=>some r) b)=some (tn (cL c xs ys) z):=by
 obtain ⟨o,h1,h2⟩:=c99 xs ys hlen hst hrc hl
 rw [Y2,h1]
 rcases h2 with ⟨rfl,h⟩ | ⟨rfl,h⟩
 ·simp [onEnd,hf,h,tn]
 ·simp [onEnd,h,tn]
theorem b6z {α:Type}{step:Int->Option (Fl Int (Sum Unit Int))}{rc:α->α->Option Int}{c:α->α->Int}(xs ys:List α)
 (hst:∀ q,step q=bif decide (q<(xs.length:Int)) then Option.bind (idx xs q) fun x=>Option.bind (idx ys q) fun y=>Option.bind (rc x y) fun r =>
   bif r != 0 then some (.done (.inr r)) else some (.next (wr .i64 (q+1))) else some (.done (.inl ())))
 (hrc:∀ x∈xs,∀ y,rc x y=some (c x y)) (hl:xs.length<=4194304) :
 (Option.bind (a0F (xs.length:Int) (ys.length:Int)) fun r7=>bif r7 != 0 then some r7 else
   (Option.bind (iter step (((xs.length:Int)).toNat+1) 0) fun b=>onEnd (fun _=>some 0) (fun r=>some r) b))=some (cN c xs ys):=by
 rw [b6E]
 simp only [Option.bind_some,cN]
 rcases K4 (xs.length:Int) (ys.length:Int) with ⟨_,e⟩ | ⟨_,e⟩ | ⟨p,e⟩
 ·simp [e,tn]
 ·simp [e,tn]
 ·rw [c6M xs ys (by omega) hst hrc hl (z:=0) (fun _=>rfl),a93,e]
  simp [tn]
theorem b9o {α:Type}{step:Int->Option (Fl Int (Sum Unit Int))}{rc:α->α->Option Int}{c:α->α->Int}(xs ys:List α)
 (hst:∀ q,step q=bif decide (q<(xs.length:Int)) then Option.bind (idx xs q) fun x=>Option.bind (idx ys q) fun y=>Option.bind (rc x y) fun r =>
   bif r != 0 then some (.done (.inr r)) else some (.next (wr .i64 (q+1))) else some (.done (.inl ())))
 (hrc:∀ x∈xs,∀ y,rc x y=some (c x y)) (hl:xs.length<=4194304) {f:Unit->Option Int} {z:Int} (hf:∀ q,f q=some z) :
 (bif ((xs.length:Int) != (ys.length:Int)) then (Option.bind (a0r (xs.length:Int) (ys.length:Int)) fun r=>some r) else
   (Option.bind (iter step (((xs.length:Int)).toNat+1) 0) fun b=>onEnd f (fun r=>some r) b))=some (tn (cN c xs ys) z):=by
 rw [V8,b83]
 simp only [Option.bind_some,cN]
 rcases K4 (xs.length:Int) (ys.length:Int) with ⟨p,e⟩ | ⟨p,e⟩ | ⟨p,e⟩
 ·have:((xs.length:Int) != (ys.length:Int))=true:=by simp; omega
  rw [if_pos this,e]; rfl
 ·have:((xs.length:Int) != (ys.length:Int))=true:=by simp; omega
  rw [if_pos this,e]; rfl
 ·rw [if_neg (by simp; omega),c6M xs ys (by omega) hst hrc hl hf,e,a8H]
theorem b6M:∀ (k:Nat),
 (∀ a b,2*j9 a<=k->j9 a<=4194304->a3a k a b=some (cV a b)) /\
 (∀ xs ys,2*k7 xs+1<=k->k7 xs<=4194304->a3j k xs ys=some (cN cV xs ys)) /\
 (∀ a b,2*a4n a<=k->a4n a<=4194304->V4 k a b=some (cE a b))
 | 0=>⟨fun v _ h=>by have:=a8J v; omega,fun _ _ h=>by omega,fun v _ h=>by have:=a1v v; omega⟩
 | k+1=>by
   obtain ⟨i1,i2,i3⟩:=b6M k
   refine ⟨?_,?_,?_⟩
   ·intro a b h hb
    show a9h k (a3a k) (V4 k) (a3j k) a b=_
    have hbe:=a1y a
    have hk:=a56 a.Keys
    have hs:=a4H a.Labels
    have he:=a3w a.Entries
    unfold a9h
    simp only [V2]
    rw [c7U,b6E,c5W,b2c]
    simp only [Option.bind_some]
    refine b0x (b0x (b0x ?_))
    unfold a3W
    rw [b6z (step:=a5y a.Keys b.Keys fun x y=>X8 x y) a.Keys b.Keys (rc:=X8) (c:=cK) (fun q=>rfl) (fun x _ y=>b4B x y) (by omega)]
    simp only [Option.bind_some]
    refine b0x ?_
    rw [i2 a.Kids b.Kids (by omega) (by omega)]
    simp only [Option.bind_some]
    refine b0x ?_
    unfold a3o
    rw [b6z (step:=a41 a.Entries b.Entries fun x y=>V4 k x y) a.Entries b.Entries (rc:=V4 k) (c:=cE) (fun q=>rfl) (fun x hx y=>i3 x y (by have:=X6 hx; omega) (by have:=X6 hx; omega)) (by omega)]
    simp only [Option.bind_some]
    refine b0x ?_
    unfold a4g
    rw [b6z (step:=a5N a.Labels b.Labels fun x y=>a0i x y) a.Labels b.Labels (rc:=a0i) (c:=cS) (fun q=>rfl) (fun x _ y=>b2c x y) (by omega)]
   ·intro xs ys h hb
    show a5L k (a3a k) (V4 k) (a3j k) xs ys=_
    have hl:=a2L xs
    unfold a5L a3q
    simp only [V2]
    rw [b6z (step:=a40 xs ys fun x y=>a3a k x y) xs ys (rc:=a3a k) (c:=cV) (fun q=>rfl) (fun x hx y=>i1 x y (by have:=a1j hx; omega) (by have:=a1j hx; omega)) (by omega)]
   ·intro a b h hb
    show a5r k (a3a k) (V4 k) (a3j k) a b=_
    have hbe:=a1v a
    unfold a5r
    rw [c8h,i2 a.Args b.Args (by omega) (by omega),i1 a.Result b.Result (by omega) (by omega)]
    simp only [Option.bind_some]
    refine b0x ?_
    cases a.Fails<;>cases b.Fails<;>simp [bI,cI,tn]
theorem a5I:∀ (k:Nat),
 (∀ a b,2*j9 a<=k->j9 a<=4194304->a0q k a b=some (cV a b)) /\
 (∀ xs ys,2*k7 xs+1<=k->k7 xs<=4194304->a3N k xs ys=some (cN cV xs ys)) /\
 (∀ a b,2*a4n a<=k->a4n a<=4194304->Y4 k a b=some (cE a b))
 | 0=>⟨fun v _ h=>by have:=a8J v; omega,fun _ _ h=>by omega,fun v _ h=>by have:=a1v v; omega⟩
 | k+1=>by
   obtain ⟨i1,i2,i3⟩:=a5I k
   refine ⟨?_,?_,?_⟩
   ·intro a b h hb
    show a5Y k (a0q k) (a3N k) (Y4 k) a b=_
    have hbe:=a1y a
    have hk:=a56 a.Keys
    have hs:=a4H a.Labels
    have he:=a3w a.Entries
    unfold a5Y
    rw [c7U,b83,b2J]
    simp only [Option.bind_some]
    refine c8j (c8j (d4O ?_))
    refine b9o (step:=a72 a b) a.Keys b.Keys (rc:=a0e) (c:=cK) (fun q=>rfl) (fun x _ y=>b4c x y) (by omega) ?_
    intro _
    rw [i2 a.Kids b.Kids (by omega) (by omega)]
    simp only [Option.bind_some]
    refine b0x ?_
    refine b9o (step:=a8c a b (Y4 k)) a.Entries b.Entries (rc:=Y4 k) (c:=cE) (fun q=>rfl) (fun x hx y=>i3 x y (by have:=X6 hx; omega) (by have:=X6 hx; omega)) (by omega) ?_
    intro _
    have:=b9o (step:=a78 a b) a.Labels b.Labels (rc:=a1w) (c:=cS) (z:=0) (fun q=>rfl) (fun x _ y=>b4O x y) (by omega) (f:=fun _=>some 0) (fun _=>rfl)
    rw [a93] at this
    exact this
   ·intro xs ys h hb
    show a6g k (a0q k) (a3N k) (Y4 k) xs ys=_
    have hl:=a2L xs
    unfold a6g
    rw [b9o (step:=a8P xs ys (a0q k)) xs ys (rc:=a0q k) (c:=cV) (z:=0) (fun q=>rfl) (fun x hx y=>i1 x y (by have:=a1j hx; omega) (by have:=a1j hx; omega)) (by omega) (fun _=>rfl),a93]
   ·intro a b h hb
    show a3n k (a0q k) (a3N k) (Y4 k) a b=_
    have hbe:=a1v a
    unfold a3n
    rw [c8h,i2 a.Args b.Args (by omega) (by omega),i1 a.Result b.Result (by omega) (by omega)]
    simp only [Option.bind_some]
    refine b0x ?_
    cases a.Fails<;>cases b.Fails<;>simp [bI,cI,tn]
end Go.Pl
end
section
namespace Go.Pl
open Go Go.RowKit Go.Sx Go.Qx
theorem b3d {step:Int->Option (Fl Int (Sum Unit Bool))}(n:Nat)(p:Nat->Bool)
 (hst:∀ i:Nat,i<n->step (i:Int)=some (if p i=true then .next ((i+1:Nat):Int) else .done (.inr false)))
 (hend:∀ i:Nat,n<=i->step (i:Int)=some (.done (.inl ()))) (i0:Nat) (b:Bool) (hb:b=true↔∀ i,i0<=i->i<n->p i=true) :
 Option.bind (iter step (n+1) (i0:Int)) (onEnd (fun _=>some true) (fun r=>some r))=some b:=by
 have fin:∀ (i k:Nat),n<=i->(∀ j,i0<=j->j<i->j<n->p j=true)->Option.bind (iter step (k+1) (i:Int)) (onEnd (fun _=>some true) (fun r=>some r))=some b:=by
  intro i k h1 h4
  simp only [iter,hend i h1,Option.bind_some,onEnd]
  have:b=true:=hb.2 fun j a c=>h4 j a (by omega) c
  rw [this]
 have key:∀ (m i k:Nat),n<=i+m->m+1<=k->i0<=i->(∀ j,i0<=j->j<i->j<n->p j=true)->Option.bind (iter step k (i:Int)) (onEnd (fun _=>some true) (fun r=>some r))=some b:=by
  intro m
  induction m with
  | zero =>
    intro i k h1 h2 h3 h4
    obtain ⟨k,rfl⟩:∃ m,k=m+1:=⟨k-1,by omega⟩
    exact fin i k (by omega) h4
  | succ m ih =>
    intro i k h1 h2 h3 h4
    obtain ⟨k,rfl⟩:∃ m,k=m+1:=⟨k-1,by omega⟩
    by_cases hlt:i<n
    ·simp only [iter,hst i hlt]
     cases hp:p i
     ·simp only [Bool.false_eq_true,if_false,Option.bind_some,onEnd]
      have:b=false:=by
       cases b
       ·rfl
       ·have:=hb.1 rfl i h3 hlt
        rw [hp] at this; cases this
      rw [this]
     ·simp only [if_true,Option.bind_some]
      refine ih (i+1) k (by omega) (by omega) (by omega) (fun j a c d=>?_)
      by_cases e:j<i
      ·exact h4 j a e d
      ·have:j=i:=by omega
       subst this; exact hp
    ·exact fin i k (by omega) h4
 exact key n i0 (n+1) (by omega) (by omega) (Nat.le_refl _) (fun j a c=>by omega)
theorem k8 (i:Nat)(h:i<=4611686018427387904):w64 ((i:Int)+1)=((i+1:Nat):Int):=by rw [Q8 (by omega) (by omega)]; rfl
theorem a6K (b:Bool)(x:Int):(bif (!b) then some (Fl.done (Sum.inr false)) else some (Fl.next x))=some (if b=true then Fl.next x else (Fl.done (Sum.inr false):Fl Int (Sum Unit Bool))):=by cases b<;>rfl
theorem c1e {α:Type}{step:Int->Option (Fl Int (Sum Unit Bool))}{rc:α->Option Bool}{p:α->Bool}(xs:List α)
 (hst:∀ q,step q=bif decide (q<(xs.length:Int)) then Option.bind (idx xs q) fun x=>Option.bind (rc x) fun r =>
   bif !r then some (.done (.inr false)) else some (.next (wr .i64 (q+1))) else some (.done (.inl ())))
 (hrc:∀ x∈xs,rc x=some (p x)) (hl:xs.length<=4194304) :
 (Option.bind (iter step (((xs.length:Int)).toNat+1) 0) fun b=>onEnd (fun _=>some true) (fun r=>some r) b)=some (xs.all p):=by
 rw [Y2]
 refine b3d xs.length (fun i=>match xs[i]? with | some x=>p x | none=>true) ?_ ?_ 0 (xs.all p) ?_
 ·intro i hi
  rw [hst,V8,if_pos (by simp; omega),j5 (List.getElem?_eq_getElem hi)]
  simp only [Option.bind_some]
  rw [hrc _ (List.getElem_mem hi),List.getElem?_eq_getElem hi]
  simp only [Option.bind_some,Y1,k8 i (by omega)]
  exact a6K _ _
 ·intro i hi
  rw [hst,V8,if_neg (by simp; omega)]
 ·rw [List.all_eq_true]
  constructor
  ·intro h i _ hi
   rw [List.getElem?_eq_getElem hi]
   exact h _ (List.getElem_mem hi)
  ·intro h x hx
   obtain ⟨i,hi,rfl⟩:=List.getElem_of_mem hx
   have:=h i (by omega) hi
   rwa [List.getElem?_eq_getElem hi] at this
def asc {α:Type}(c:α->α->Int):List α->Bool
 | x::y::r=>decide (c x y<0)&&asc c (y::r)
 | _=>true
theorem b5u {α:Type}(c:α->α->Int):∀ xs:List α,asc c xs=true↔∀ i,1<=i->(hi:i<xs.length)->c xs[i-1] xs[i]<0
 | []=>by simp [asc]
 | [x]=>by
   simp only [asc,true_iff]
   intro i h1 hi
   simp at hi; omega
 | x::y::r=>by
   have ih:=b5u c (y::r)
   simp only [asc,Bool.and_eq_true,decide_eq_true_eq,ih]
   constructor
   ·intro ⟨h1,h2⟩ i hi hl
    obtain ⟨i,rfl⟩:∃ m,i=m+1:=⟨i-1,by omega⟩
    cases i with
    | zero=>exact h1
    | succ i=>exact h2 (i+1) (by omega) (by simpa using hl)
   ·intro h
    refine ⟨h 1 (by omega) (by simp),fun i hi hl=>?_⟩
    obtain ⟨i,rfl⟩:∃ m,i=m+1:=⟨i-1,by omega⟩
    have:=h (i+2) (by omega) (by simpa using hl)
    simpa using this
theorem c5P {α:Type}{step:Int->Option (Fl Int (Sum Unit Bool))}{rc:α->α->Option Int}{c:α->α->Int}(xs:List α)
 (hst:∀ q,step q=bif decide (q<(xs.length:Int)) then Option.bind (idx xs (wr .i64 (q-1))) fun x=>Option.bind (idx xs q) fun y=>Option.bind (rc x y) fun r =>
   bif decide (0<=r) then some (.done (.inr false)) else some (.next (wr .i64 (q+1))) else some (.done (.inl ())))
 (hrc:∀ x∈xs,∀ y,rc x y=some (c x y)) (hl:xs.length<=4194304) :
 (Option.bind (iter step (((xs.length:Int)).toNat+1) 1) fun b=>onEnd (fun _=>some true) (fun r=>some r) b)=some (asc c xs):=by
 rw [Y2]
 have hp:∀ i,1<=i->∀ hi:i<xs.length,step (i:Int)=some (if decide (c xs[i-1] xs[i]<0)=true then .next ((i+1:Nat):Int) else .done (.inr false)):=by
  intro i h1 hi
  have hw:w64 ((i:Int)-1)=((i-1:Nat):Int):=by rw [Q8 (by omega) (by omega)]; omega
  rw [hst]
  simp only [V8,Y1]
  rw [if_pos (by simp; omega),hw,j5 (List.getElem?_eq_getElem (by omega:i-1<xs.length)),j5 (List.getElem?_eq_getElem hi)]
  simp only [Option.bind_some]
  rw [hrc _ (List.getElem_mem _)]
  simp only [Option.bind_some,k8 i (by omega)]
  by_cases h:c xs[i-1] xs[i]<0
  ·rw [if_neg (by simp; omega),if_pos (by simpa using h)]
  ·rw [if_pos (by simp; omega),if_neg (by simpa using h)]
 have hend:∀ i:Nat,xs.length<=i->step (i:Int)=some (.done (.inl ())):=by
  intro i hi
  rw [hst,V8,if_neg (by simp; omega)]
 let step':Int->Option (Fl Int (Sum Unit Bool)):=fun q=>if q=0/\0<xs.length then some (.next 1) else step q
 have e:∀ (k i:Nat),1<=i->iter step' k (i:Int)=iter step k (i:Int):=by
  intro k
  induction k with
  | zero=>intro i _; rfl
  | succ k ih =>
    intro i h1
    have e1:step' (i:Int)=step (i:Int):=by simp only [step']; rw [if_neg (by omega)]
    simp only [iter,e1]
    by_cases hi:i<xs.length
    ·rw [hp i h1 hi]
     by_cases h:decide (c xs[i-1] xs[i]<0)=true
     ·rw [if_pos h]; exact ih (i+1) (by omega)
     ·rw [if_neg h]; rfl
    ·rw [hend i (by omega)]; rfl
 have e':=e (xs.length+1) 1 (by omega)
 rw [show ((1:Nat):Int)=1 from rfl] at e'
 rw [<- e']
 refine b3d xs.length (fun i=>if h:1<=i/\i<xs.length then decide (c xs[i-1] (xs[i]'h.2)<0) else true) ?_ ?_ 1 (asc c xs) ?_
 ·intro i hi
  cases i with
  | zero =>
    simp only [step']
    rw [if_pos ⟨rfl,hi⟩]
    rfl
  | succ i =>
    have e1:step' ((i+1:Nat):Int)=step ((i+1:Nat):Int):=by simp only [step']; rw [if_neg (by omega)]
    rw [e1,hp (i+1) (by omega) hi,dif_pos ⟨by omega,hi⟩]
 ·intro i hi
  have e1:step' (i:Int)=step (i:Int):=by simp only [step']; rw [if_neg (by omega)]
  rw [e1,hend i hi]
 ·rw [b5u]
  constructor
  ·intro h i h1 hi
   rw [dif_pos ⟨h1,hi⟩]; simpa using h i h1 hi
  ·intro h i h1 hi
   have:=h i h1 hi
   rw [dif_pos ⟨h1,hi⟩] at this; simpa using this
def a6N (c:UInt8):Bool:=decide (97<=(c.toNat:Int))&&decide ((c.toNat:Int)<=122)
def upC (c:UInt8):Bool:=decide (65<=(c.toNat:Int))&&decide ((c.toNat:Int)<=90)
def a7T (c:UInt8):Bool:=decide (48<=(c.toNat:Int))&&decide ((c.toNat:Int)<=57)
def b5q (f g:UInt8->Bool)(s:ByteArray):Bool :=
 match s.data.toList with
 | []=>false
 | c::r=>decide (r.length<=15)&&f c&&r.all g
def a6j (s:ByteArray):Bool:=b5q upC (fun c=>a6N c||upC c||a7T c||(c.toNat:Int)==95) s
def a5k (s:ByteArray):Bool:=b5q a6N (fun c=>a6N c||a7T c||(c.toNat:Int)==95) s
theorem c5M (c:UInt8):a5b (c.toNat:Int)=some (a6N c):=by
 unfold a5b a6N
 cases decide (97<=(c.toNat:Int))<;>simp
theorem d1G (c:UInt8):a6B (c.toNat:Int)=some (upC c):=by
 unfold a6B upC
 cases decide (65<=(c.toNat:Int))<;>simp
theorem c8A (c:UInt8):a6A (c.toNat:Int)=some (a7T c):=by
 unfold a6A a7T
 cases decide (48<=(c.toNat:Int))<;>simp
theorem b2y {s:ByteArray}{i:Nat}{c:UInt8}(h:s.data.toList[i]?=some c):a6i s (i:Int)=some c:=by
 unfold a6i
 rw [if_pos (by omega)]
 obtain ⟨hi,e⟩:=List.getElem?_eq_some_iff.1 h
 have hs:i<s.size:=by simpa using hi
 show s[((i:Int)).toNat]?=some c
 rw [Int.toNat_natCast,getElem?_pos s i hs]
 show some s.data[i]=some c
 simpa using e
theorem b9c (s:ByteArray):s.size=s.data.toList.length:=by simp
theorem c7j {a1 a2:Int->Option Bool}{f g:UInt8->Bool}(h1:∀ c:UInt8,a1 (c.toNat:Int)=some (f c))(h2:∀ c:UInt8,a2 (c.toNat:Int)=some (g c))(s:ByteArray):a7o s a1 a2=some (b5q f g s):=by
 unfold a7o b5q
 simp only [V8,c21]
 have hsz:=b9c s
 cases hs:s.data.toList with
 | nil =>
   rw [hs] at hsz
   rw [hsz]
   simp
 | cons c r =>
   rw [hs] at hsz
   simp only [List.length_cons] at hsz
   have e1:decide ((s.size:Int)<1)=false:=by simp; omega
   rw [e1]
   simp only [Bool.false_eq_true,if_false,Option.bind_some]
   by_cases hb:16<(s.size:Int)
   ·rw [if_pos (by simpa using hb)]
    have:decide (r.length<=15)=false:=by simp; omega
    rw [this]; rfl
   ·rw [if_neg (by simpa using hb)]
    have e2:decide (r.length<=15)=true:=by simp; omega
    have e3:a6i s 0=some c:=b2y (i:=0) (by rw [hs]; rfl)
    rw [e2,e3]
    simp only [Option.bind_some,h1,Bool.true_and]
    cases f c
    ·rfl
    ·simp only [Bool.not_true,Bool.false_eq_true,if_false,Bool.true_and]
     refine b3d s.size (fun i=>match s.data.toList[i]? with | some x=>g x | none=>true) ?_ ?_ 1 (r.all g) ?_
     ·intro i hi
      have hi':i<s.data.toList.length:=by rw [hs]; simp; omega
      unfold a9F
      rw [V8,if_pos (by simp; omega),b2y (List.getElem?_eq_getElem hi')]
      simp only [Option.bind_some,h2]
      rw [List.getElem?_eq_getElem hi',Y1,k8 i (by omega)]
      exact a6K _ _
     ·intro i hi
      unfold a9F
      rw [V8,if_neg (by simp; omega)]
     ·rw [hs,List.all_eq_true]
      constructor
      ·intro h i h1 hi
       obtain ⟨i,rfl⟩:∃ m,i=m+1:=⟨i-1,by omega⟩
       have hr:i<r.length:=by omega
       simp only [List.getElem?_cons_succ,List.getElem?_eq_getElem hr]
       exact h _ (List.getElem_mem hr)
      ·intro h x hx
       obtain ⟨i,hi,rfl⟩:=List.getElem_of_mem hx
       have:=h (i+1) (by omega) (by omega)
       simpa only [List.getElem?_cons_succ,List.getElem?_eq_getElem hi] using this
theorem c9I (s:ByteArray):a3p s=some (a6j s):=by
 unfold a3p
 simp only [V2]
 rw [c7j d1G (g:=fun c=>a6N c||upC c||a7T c||(c.toNat:Int)==95) (fun c=>by
  unfold a7d
  rw [c5M,d1G,c8A]
  simp only [Option.bind_some]
  cases a6N c<;>cases upC c<;>cases a7T c<;>simp)]
 rfl
theorem c2U (s:ByteArray):a5E s=some (a5k s):=by
 unfold a5E
 simp only [V2]
 rw [c7j c5M (g:=fun c=>a6N c||a7T c||(c.toNat:Int)==95) (fun c=>by
  unfold b0a
  rw [c5M,c8A]
  simp only [Option.bind_some]
  cases a6N c<;>cases a7T c<;>simp)]
 rfl
def a1c (l:List ByteArray):Bool:=asc cS l&&l.all a6j
def a0U (k:Key):Bool:=if k.Kind=0 then a5k k.Text else if k.Kind=1 then decide ((k.Text.size:Int)<=64) else false
def a9B (v:Val):Bool:=v.Keys.length==v.Kids.length&&(asc cK v.Keys&&v.Keys.all a0U)
abbrev a61:Val:=Val.mk 0 0 (⟨#[]⟩) ([]:List Val) ([]:List Key) ([]:List Ent) ([]:List ByteArray)
def a3h (n:Int)(e:Ent):Bool:=(e.Args.length:Int)==n&&(!e.Fails||cV e.Result a61==0)
def b1L (v:Val):Bool:=decide (0<=v.Int_)&&decide (v.Int_<=4)&&(asc cE v.Entries&&v.Entries.all (a3h v.Int_))
theorem c9F (l:List ByteArray)(hl:l.length<=4194304):a5A l=some (a1c l):=by
 unfold a5A a5u a1c
 simp only [V2]
 rw [c5P (step:=a6Z l fun x y=>a0i x y) (rc:=a0i) (c:=cS) l (fun q=>rfl) (fun x _ y=>b2c x y) hl]
 simp only [Option.bind_some]
 rw [c1e (step:=a9x l) (rc:=a3p) (p:=a6j) l (fun q=>rfl) (fun x _=>c9I x) hl]
 cases asc cS l<;>simp
theorem c1y (k:Key):a4v k=some (a0U k):=by
 unfold a4v a0U
 rw [c2U]
 simp only [V8,beq_iff_eq,V2]
 by_cases h:k.Kind=0
 ·simp [h]
 ·by_cases h1:k.Kind=1
  ·simp [h1]
  ·simp [h,h1]
theorem d3f (v:Val)(hl:j9 v<=4194304):a7M v=some (a9B v):=by
 have hb:=a1y v
 have hk:=a56 v.Keys
 unfold a7M a44 a9B
 simp only [V2]
 rw [c5P (step:=a6z v.Keys fun x y=>X8 x y) (rc:=X8) (c:=cK) v.Keys (fun q=>rfl) (fun x _ y=>b4B x y) (by omega)]
 simp only [Option.bind_some]
 rw [c1e (step:=b1D v) (rc:=a4v) (p:=a0U) v.Keys (fun q=>rfl) (fun x _=>c1y x) (by omega)]
 by_cases h:v.Keys.length=v.Kids.length
 ·rw [V8,if_neg (by simp; omega)]
  simp only [h,beq_self_eq_true,Bool.true_and]
  cases asc cK v.Keys<;>simp
 ·rw [V8,if_pos (by simp; omega)]
  have:(v.Keys.length==v.Kids.length)=false:=by simpa using h
  rw [this]; rfl
theorem d3d (fuel:Nat)(e:Ent)(n:Int)(hf:2*a4n e<=fuel)(hb:a4n e<=4194304):a4G fuel e n=some (a3h n e):=by
 have he:=a1v e
 unfold a4G b3t b4f a3h
 simp only [V2]
 rw [(b6M fuel).1 e.Result a61 (by omega) (by omega)]
 simp only [Option.bind_some]
 cases (e.Args.length:Int)==n<;>cases e.Fails<;>simp
theorem d3S (fuel:Nat)(v:Val)(hf:2*j9 v<=fuel+2)(hb:j9 v<=4194304):a4Q fuel v=some (b1L v):=by
 have he:=a1y v
 have hk:=a3w v.Entries
 unfold a4Q a4q b1L
 simp only [V2]
 rw [c5P (step:=a5F v.Entries fun x y=>V4 fuel x y) (rc:=V4 fuel) (c:=cE) v.Entries (fun q=>rfl) (fun x hx y=>(b6M fuel).2.2 x y (by have:=X6 hx; omega) (by have:=X6 hx; omega)) (by omega)]
 simp only [Option.bind_some]
 rw [c1e (step:=a8d v fuel) (rc:=fun x=>a4G fuel x v.Int_) (p:=a3h v.Int_) v.Entries (fun q=>rfl) (fun x hx=>d3d fuel x _ (by have:=X6 hx; omega) (by have:=X6 hx; omega)) (by omega)]
 by_cases h1:v.Int_<0
 ·have e1:decide (0<=v.Int_)=false:=by simp; omega
  rw [e1]; simp [h1]
 ·have e1:decide (0<=v.Int_)=true:=by simp; omega
  by_cases h2:4<v.Int_
  ·have e2:decide (v.Int_<=4)=false:=by simp; omega
   rw [e1,e2]; simp [h1,h2]
  ·have e2:decide (v.Int_<=4)=true:=by simp; omega
   rw [e1,e2]
   simp only [h1,h2,decide_false,cond_false,Option.bind_some,Bool.true_and]
   cases asc cE v.Entries<;>simp
def a3U (v:Val):Bool :=
 (v.Kind==1||v.Kind==4||v.Kind==9||v.Int_==0)&&(v.Kind==2||v.Kind==3||Y0 v.Text ⟨#[]⟩) &&
 (v.Kind==6||v.Kind==7||v.Kind==8||v.Kids.isEmpty)&&(v.Kind==8||v.Keys.isEmpty)&&(v.Kind==9||v.Entries.isEmpty)
def b0K (l:List Val):Bool :=
 match l with
 | [_,t]=>t.Kind==5||t.Kind==7
 | _=>false
def a36 (v:Val):Bool :=
 if v.Kind=1 then true else if v.Kind=2 then decide ((v.Text.size:Int)<=64) else if v.Kind=3 then a5k v.Text else if v.Kind=4 then decide (0<=v.Int_) else
 if v.Kind=5 then true else if v.Kind=6 then decide (v.Kids.length<=4) else if v.Kind=7 then b0K v.Kids else if v.Kind=8 then a9B v else if v.Kind=9 then b1L v else false
def a18 (v:Val):Bool:=a1c v.Labels&&(a3U v&&a36 v)
theorem c3n {α:Type}(l:List α):decide (0<(l.length:Int))=!l.isEmpty:=by cases l<;>simp
theorem d2U (fuel:Nat)(v:Val)(hf:2*j9 v<=fuel+2)(hb:j9 v<=4194304):a6W fuel v=some (a18 v):=by
 have he:=a1y v
 have hs:=a4H v.Labels
 unfold a6W a18
 simp only [V2]
 rw [c9F v.Labels (by omega),d3f v hb,d3S fuel v hf hb,c2U]
 simp only [Option.bind_some,c3n]
 by_cases hk:v.Kind=1\/v.Kind=2\/v.Kind=3\/v.Kind=4\/v.Kind=5\/v.Kind=6\/v.Kind=7\/v.Kind=8\/v.Kind=9
 ·have ku:∀ b u,a7u v.Kind=some (u,b)->True:=fun _ _ _=>trivial
  clear ku
  unfold a3U a36
  generalize a1c v.Labels=l
  generalize Y0 v.Text ⟨#[]⟩=t
  generalize v.Keys.isEmpty=y
  generalize v.Entries.isEmpty=e
  generalize a9B v=m
  generalize b1L v=f
  generalize a5k v.Text=a
  generalize decide ((v.Text.size:Int)<=64)=z
  have hi:(v.Int_ != 0)=!(v.Int_==0):=rfl
  have h6:decide ((v.Kids.length:Int)<=4)=decide (v.Kids.length<=4):=by
   by_cases h:v.Kids.length<=4
   ·simp [h]; omega
   ·simp [h]; omega
  rw [hi,h6]
  have h7:(bif (v.Kids.length:Int)==2 then Option.bind (idx v.Kids 1) fun x227=>(bif x227.Kind==5 then some true else Option.bind (idx v.Kids 1) fun x255=>some (x255.Kind==7)) else some false)=some (b0K v.Kids):=by
   unfold b0K
   match v.Kids with
   | []=>rfl
   | [_]=>rfl
   | [x,t] =>
     have e2:((([x,t]:List Val).length:Int)==2)=true:=rfl
     rw [e2]
     have:idx [x,t] 1=some t:=rfl
     simp only [this,Option.bind_some,cond_true]
     cases t.Kind==5<;>rfl
   | _::_::_::r =>
     rw [V8,if_neg (by simp; omega)]
  rw [h7]
  generalize b0K v.Kids=c
  generalize v.Kids.isEmpty=d
  generalize (v.Int_==0)=i
  generalize decide (0<=v.Int_)=p
  generalize decide (v.Kids.length<=4)=n
  rcases hk with h | h | h | h | h | h | h | h | h<;>rw [h]<;>cases l<;>simp [a7u]<;>cases i<;>cases t<;>cases d<;>cases y<;>cases e<;>simp
 ·have:a7u v.Kind=some (Value_used.mk false false false false false,false):=by
   unfold a7u
   simp only [not_or] at hk
   obtain ⟨h1,h2,h3,h4,h5,h6,h7,h8,h9⟩:=hk
   have ef:∀ k:Int,¬ v.Kind=k->(v.Kind==k)=false:=fun k h=>by simpa using h
   rw [ef 1 h1,ef 2 h2,ef 3 h3,ef 4 h4,ef 5 h5,ef 6 h6,ef 7 h7,ef 8 h8,ef 9 h9]
   rfl
  rw [this]
  have hkk:a36 v=false:=by
   simp only [not_or] at hk
   obtain ⟨h1,h2,h3,h4,h5,h6,h7,h8,h9⟩:=hk
   simp [a36,h1,h2,h3,h4,h5,h6,h7,h8,h9]
  rw [hkk]
  simp
mutual
def vOK:Val->Bool
 | .mk k n t kids keys ents labs=>a18 (.mk k n t kids keys ents labs)&&(a1G kids&&a43 ents)
def a1G:List Val->Bool
 | []=>true
 | x::r=>vOK x&&a1G r
def eOK:Ent->Bool
 | .mk args fails res=>a1G args&&(fails||vOK res)
def a43:List Ent->Bool
 | []=>true
 | x::r=>eOK x&&a43 r
end
theorem b8N (v:Val):vOK v=(a18 v&&(a1G v.Kids&&a43 v.Entries)):=by cases v; simp only [vOK,Val.Kids,Val.Entries]
theorem b5Q (e:Ent):eOK e=(a1G e.Args&&(e.Fails||vOK e.Result)):=by cases e; simp only [eOK,Ent.Args,Ent.Fails,Ent.Result]
theorem a4F:∀ l:List Val,a1G l=l.all vOK
 | []=>by simp [a1G]
 | x::r=>by simp only [a1G,List.all_cons,a4F r]
theorem a8t:∀ l:List Ent,a43 l=l.all eOK
 | []=>by simp [a43]
 | x::r=>by simp only [a43,List.all_cons,a8t r]
theorem c3H:∀ l:List Ent,a43 l=(l.flatMap a65).all vOK
 | []=>by simp [a43]
 | x::r=>by
   simp only [a43,List.flatMap_cons,List.all_append,c3H r,b5Q,a65,a4F]
   cases x.Fails<;>simp
theorem c9l (v:Val):vOK v=(a18 v&&(a9r v).all vOK):=by
 rw [b8N,a9r,List.all_append,a4F,c3H]
theorem c7k:∀ (k:Nat) (v:Val),2*j9 v<=k->j9 v<=4194304->a2P k v=some (vOK v)
 | 0,v,h,_=>by have:=a8J v; omega
 | k+1,v,h,hb=>by
   have hp:=c8g v
   have hl:=a2L (a9r v)
   show a7V k (a2P k) v=_
   unfold a7V
   rw [d2U k v (by omega) hb,d1g v hb,c9l]
   simp only [Option.bind_some]
   rw [c1e (step:=b0Z (a9r v) (a2P k)) (rc:=a2P k) (p:=vOK) (a9r v) (fun q=>rfl) (fun x hx=>c7k k x (by have:=a1j hx; omega) (by have:=a1j hx; omega)) (by omega)]
   cases a18 v<;>simp
theorem c6b (k:Nat)(v:Val)(h:2*j9 v<=k)(hb:j9 v<=4194304):a7x k v=some (if vOK v then 0 else 1):=by
 unfold a7x
 rw [c7k k v h hb]
 cases vOK v<;>rfl
end Go.Pl
end
section
namespace Go.Pl
open Go Go.RowKit Go.Sx Go.Qx
def a0b {α:Type}(p:α->Bool)(x:α)(out:List α):List α:=out.takeWhile p++[x]++out.dropWhile p
theorem c25 {α:Type}(p:α->Bool):∀ l:List α,l.take (l.takeWhile p).length=l.takeWhile p
 | []=>rfl
 | x::r=>by
   by_cases h:p x=true
   ·simp [h,c25 p r]
   ·simp [h]
theorem c2N {α:Type}(p:α->Bool):∀ l:List α,l.drop (l.takeWhile p).length=l.dropWhile p
 | []=>rfl
 | x::r=>by
   by_cases h:p x=true
   ·simp [h,c2N p r]
   ·simp [h]
theorem b3h {α:Type}(p:α->Bool):∀ l:List α,(l.takeWhile p).length<=l.length
 | []=>Nat.le_refl _
 | x::r=>by
   have:=b3h p r
   by_cases h:p x=true
   ·simp [h,this]
   ·simp [h]
theorem c2k {α:Type}(p:α->Bool):∀ (l:List α),l[(l.takeWhile p).length]?=(l.dropWhile p).head?
 | []=>rfl
 | x::r=>by
   have:=c2k p r
   by_cases h:p x=true
   ·simp [h,this]
   ·simp [h]
theorem c1h {α:Type}{step:Int->Option (Fl Int Int)}(out:List α)(p:α->Bool)
 (hst:∀ (i:Nat) (x:α),out[i]?=some x->step (i:Int)=some (if p x=true then .next ((i+1:Nat):Int) else .done (i:Int)))
 (hend:step (out.length:Int)=some (.done (out.length:Int))):iter step (out.length+1) 0=some ((out.takeWhile p).length:Int):=by
 have key:∀ (m i k:Nat),i+m=out.length->m+1<=k->iter step k (i:Int)=some (((i+((out.drop i).takeWhile p).length:Nat)):Int):=by
  intro m
  induction m with
  | zero =>
    intro i k h1 h2
    obtain ⟨k,rfl⟩:∃ m,k=m+1:=⟨k-1,by omega⟩
    have e:i=out.length:=by omega
    subst e
    simp [iter,hend]
  | succ m ih =>
    intro i k h1 h2
    obtain ⟨k,rfl⟩:∃ m,k=m+1:=⟨k-1,by omega⟩
    have hlt:i<out.length:=by omega
    have hs:=hst i out[i] (List.getElem?_eq_getElem hlt)
    rw [List.drop_eq_getElem_cons hlt,List.takeWhile_cons]
    by_cases hp:p out[i]=true
    ·rw [if_pos hp] at hs
     simp only [iter,hs,Option.bind_some,ih (i+1) k (by omega) (by omega),hp,if_true,List.length_cons]
     congr 2
     omega
    ·rw [if_neg hp] at hs
     simp [iter,hs,hp]
 have:=key out.length 0 (out.length+1) (by omega) (Nat.le_refl _)
 simpa using this
theorem a0P {α σ τ β:Type}{step:σ->Option (Fl σ (Sum τ β))}(xs:List α)(p:α->Bool)(pk:Nat->σ)(d:τ)(b:β)
 (hst:∀ (i:Nat) (x:α),xs[i]?=some x->step (pk i)=some (if p x=true then .next (pk (i+1)) else .done (.inr b)))
 (hend:step (pk xs.length)=some (.done (.inl d))):iter step (xs.length+1) (pk 0)=some (if xs.all p=true then .inl d else .inr b):=by
 have key:∀ (m i k:Nat),i+m=xs.length->m+1<=k->iter step k (pk i)=some (if (xs.drop i).all p=true then .inl d else .inr b):=by
  intro m
  induction m with
  | zero =>
    intro i k h1 h2
    obtain ⟨k,rfl⟩:∃ m,k=m+1:=⟨k-1,by omega⟩
    have e:i=xs.length:=by omega
    subst e
    simp [iter,hend]
  | succ m ih =>
    intro i k h1 h2
    obtain ⟨k,rfl⟩:∃ m,k=m+1:=⟨k-1,by omega⟩
    have hlt:i<xs.length:=by omega
    have hs:=hst i xs[i] (List.getElem?_eq_getElem hlt)
    rw [List.drop_eq_getElem_cons hlt,List.all_cons]
    by_cases hp:p xs[i]=true
    ·rw [if_pos hp] at hs
     simp only [iter,hs,Option.bind_some,ih (i+1) k (by omega) (by omega),hp,Bool.true_and]
    ·rw [if_neg hp] at hs
     simp [iter,hs,hp]
 have:=key xs.length 0 (xs.length+1) (by omega) (Nat.le_refl _)
 simpa using this
theorem b2p {α:Type}(c:α->α->Int)(hanti:∀ a b,c b a = - c a b)(x:α):∀ out:List α,asc c out=true->(∀ y,(out.dropWhile (fun y=>decide (c y x<0))).head?=some y->c y x≠0) ->
 asc c (a0b (fun y=>decide (c y x<0)) x out)=true
 | [],_,_=>by simp [a0b,asc]
 | y::r,h,hne=>by
   by_cases hp:c y x<0
   ·have ih:=b2p c hanti x r (by cases r with | nil=>simp [asc] | cons z r=>simp [asc] at h; exact h.2) (by
     intro z hz
     refine hne z ?_
     simpa [hp] using hz)
    have e:a0b (fun y=>decide (c y x<0)) x (y::r)=y::a0b (fun y=>decide (c y x<0)) x r:=by simp [a0b,hp]
    rw [e]
    cases r with
    | nil=>simp [a0b,asc,hp]
    | cons z r =>
      simp only [asc,Bool.and_eq_true,decide_eq_true_eq] at h
      by_cases hz:c z x<0
      ·have e2:a0b (fun y=>decide (c y x<0)) x (z::r)=z::a0b (fun y=>decide (c y x<0)) x r:=by simp [a0b,hz]
       rw [e2] at ih ⊢
       simp only [asc,Bool.and_eq_true,decide_eq_true_eq]
       exact ⟨h.1,ih⟩
      ·have e2:a0b (fun y=>decide (c y x<0)) x (z::r)=x::z::r:=by simp [a0b,hz]
       rw [e2] at ih ⊢
       simp only [asc,Bool.and_eq_true,decide_eq_true_eq] at ih ⊢
       exact ⟨hp,ih⟩
   ·have e:a0b (fun y=>decide (c y x<0)) x (y::r)=x::y::r:=by simp [a0b,hp]
    have hy:=hne y (by simp [hp])
    have ha:=hanti y x
    rw [e]
    simp only [asc,Bool.and_eq_true,decide_eq_true_eq]
    exact ⟨by omega,h⟩
theorem b3R {α:Type}{p:α->Bool}{x y:α}{out:List α}(h:y∈a0b p x out):y=x\/y∈out:=by
 have e:=List.takeWhile_append_dropWhile (p:=p) (l:=out)
 simp only [a0b,List.mem_append,List.mem_singleton] at h
 rcases h with (h | h) | h
 ·exact .inr (by rw [<- e]; exact List.mem_append_left _ h)
 ·exact .inl h
 ·exact .inr (by rw [<- e]; exact List.mem_append_right _ h)
theorem a7t {α:Type}(p:α->Bool)(x:α)(out:List α):(a0b p x out).length=out.length+1:=by
 have e:=congrArg List.length (List.takeWhile_append_dropWhile (p:=p) (l:=out))
 simp only [List.length_append] at e
 simp only [a0b,List.length_append,List.length_singleton]
 omega
theorem c1G {α:Type}(l:List α){k:Nat}(h:k<=l.length):cut l 0 (k:Int)=some (l.take k):=by
 unfold cut
 rw [if_pos ⟨by omega,by omega,by omega⟩]
 simp
theorem c4s {α:Type}(l:List α){k:Nat}(h:k<=l.length):cut l (k:Int) (l.length:Int)=some (l.drop k):=by
 unfold cut
 rw [if_pos ⟨by omega,by omega,by omega⟩]
 simp
theorem c5D {α β:Type}(out:List α)(x:α)(p:α->Bool)(b:Nat)(hb:b<=1024)(hl:out.length<=4194304)(f:List α->Option β) :
 (Option.bind (cut out 0 ((out.takeWhile p).length:Int)) fun u=>Option.bind (Z4 (0+u.length) b) fun _ =>
   Option.bind (Z4 (u.length+[x].length) b) fun _=>Option.bind (cut out ((out.takeWhile p).length:Int) (out.length:Int)) fun w =>
   Option.bind (Z4 ((u++[x]).length+w.length) b) fun _=>f ((u++[x])++w))=f (a0b p x out):=by
 have hk:=b3h p out
 have rm:∀ n,n<=4194305->Z4 n b=some ():=fun n hn=>Z6 (by
  have:n*b<=4194305*1024:=Nat.mul_le_mul hn hb
  omega)
 rw [c1G out hk,c4s out hk,c25,c2N]
 have hl2:=a7t p x out
 simp only [a0b,List.length_append,List.length_singleton] at hl2
 simp only [Option.bind_some]
 rw [rm _ (by simp; omega),rm _ (by simp; omega),rm _ (by simp only [List.length_append,List.length_singleton]; omega)]
 rfl
theorem d1Q (a b:Ent):cE a b=lx (eE a) (eE b):=by
 have:=(c8B (a4n a)).2 a (Nat.le_refl _) b [] []
 simpa [lx,a93] using this.symm
theorem c6I (a b:Ent):cE b a = - cE a b:=by rw [d1Q,d1Q]; exact b6e _ _
def a4o (out:List Ent)(x:Ent):List Ent :=
 match (out.dropWhile (fun y=>decide (cE y x<0))).head? with
 | some y=>if cE y x=0 then out else a0b (fun y=>decide (cE y x<0)) x out
 | none=>a0b (fun y=>decide (cE y x<0)) x out
theorem b1P (a b:List Ent):w9 (a++b)=w9 a+w9 b:=by
 induction a with
 | nil=>simp [w9]
 | cons x r ih=>simp only [List.cons_append,w9,ih]; omega
theorem c0k (p:Ent->Bool)(x:Ent)(out:List Ent):w9 (a0b p x out)=w9 out+a4n x:=by
 have e:=congrArg w9 (List.takeWhile_append_dropWhile (p:=p) (l:=out))
 rw [b1P] at e
 simp only [a0b,b1P,w9]
 omega
theorem c9J (out:List Ent)(x:Ent):w9 (a4o out x)<=w9 out+a4n x:=by
 unfold a4o
 split
 ·split
  ·omega
  ·rw [c0k]; omega
 ·rw [c0k]; omega
theorem d06 (out:List Ent)(x:Ent):(a4o out x).length<=out.length+1:=by
 unfold a4o
 split
 ·split
  ·omega
  ·rw [a7t]; omega
 ·rw [a7t]; omega
theorem c5T {out:List Ent}{x y:Ent}(h:y∈a4o out x):y=x\/y∈out:=by
 unfold a4o at h
 split at h
 ·split at h
  ·exact .inr h
  ·exact b3R h
 ·exact b3R h
theorem d0C (out:List Ent)(x:Ent)(h:asc cE out=true):asc cE (a4o out x)=true:=by
 unfold a4o
 split
 ·rename_i y hy
  split
  ·exact h
  ·rename_i hne
   refine b2p cE c6I x out h (fun z hz=>?_)
   rw [hy] at hz
   cases hz
   exact hne
 ·rename_i hy
  refine b2p cE c6I x out h (fun z hz=>?_)
  rw [hy] at hz; cases hz
theorem c4H (fuel:Nat)(es out:List Ent)(i:Nat)(x:Ent)(hx:es[i]?=some x)(hf:∀ e∈out,2*a4n e<=fuel)(hb:∀ e∈out,a4n e<=4194304)(hl:out.length<=4194304)(hi:i<=4194304) :
 a0k es fuel (out,(i:Int))=some (.next (a4o out x,((i+1:Nat):Int))):=by
 have hlt:i<es.length:=(List.getElem?_eq_some_iff.1 hx).1
 have hix:idx es (i:Int)=some x:=j5 hx
 have hcmp:∀ e∈out,Y4 fuel e x=some (cE e x):=fun e he=>(a5I fuel).2.2 e x (hf e he) (hb e he)
 unfold a0k
 simp only [Y2]
 rw [c1h (step:=a3v es (out,(i:Int)) fuel) out (fun y=>decide (cE y x<0)) ?_ ?_]
 ·simp only [V8,Y1]
  rw [if_pos (by simp; omega)]
  simp only [Option.bind_some,hix,Int.toNat_natCast,hx]
  have hk:=b3h (fun y=>decide (cE y x<0)) out
  have hat:=c2k (fun y=>decide (cE y x<0)) out
  have go:(Option.bind (cut out 0 ((out.takeWhile (fun y=>decide (cE y x<0))).length:Int)) fun u=>Option.bind (Z4 (0+u.length) 160) fun _ =>
   Option.bind (Z4 (u.length+[x].length) 160) fun _=>Option.bind (cut out ((out.takeWhile (fun y=>decide (cE y x<0))).length:Int) (out.length:Int)) fun w =>
   Option.bind (Z4 ((u++[x]).length+w.length) 160) fun _=>some ((u++[x])++w))=some (a0b (fun y=>decide (cE y x<0)) x out) :=
   c5D out x _ 160 (by omega) hl (fun l=>some l)
  rw [k8 i (by omega)]
  have fin:∀ (b:Bool) (r:List Ent),(if b=true then some out else some r)=some (a4o out x)->(Option.bind (if b=true then some out else some r) fun b18=>some (Fl.next (b18,((i+1:Nat):Int)):Fl (List Ent×Int) (List Ent)))=some (.next (a4o out x,((i+1:Nat):Int))):=by
   intro b r h
   rw [h]; rfl
  rw [go]
  unfold a4o at fin ⊢
  cases hh:(out.dropWhile (fun y=>decide (cE y x<0))).head? with
  | none =>
    rw [hh] at hat
    have hge:=List.getElem?_eq_none_iff.1 hat
    rw [if_neg (by simp; omega)]
    rfl
  | some y =>
    rw [hh] at hat
    have hlt2:=(List.getElem?_eq_some_iff.1 hat).1
    rw [if_pos (by simp; omega),j5 hat]
    simp only [Option.bind_some]
    rw [hcmp y (List.mem_of_getElem? hat)]
    simp only [Option.bind_some]
    by_cases h0:cE y x=0
    ·rw [if_pos (by simp [h0]),if_pos h0]
     rfl
    ·rw [if_neg (by simp [h0]),if_neg h0]
     rfl
 ·intro j y hy
  have hj:j<out.length:=(List.getElem?_eq_some_iff.1 hy).1
  unfold a3v
  simp only [V8,Y1]
  rw [if_pos (by simp; omega),j5 hy,hix]
  simp only [Option.bind_some,Int.toNat_natCast,hx]
  rw [hcmp y (List.mem_of_getElem? hy)]
  simp only [Option.bind_some,k8 j (by omega)]
  by_cases h:cE y x<0<;>simp [h]
 ·unfold a3v
  simp
theorem a9T:∀ (es out:List Ent),w9 (es.foldl a4o out)<=w9 out+w9 es
 | [],out=>by simp [w9]
 | x::r,out=>by
   have h1:=a9T r (a4o out x)
   have h2:=c9J out x
   simp only [List.foldl_cons,w9]
   omega
theorem b09 {y:Ent}:∀ (es out:List Ent),y∈es.foldl a4o out->y∈out\/y∈es
 | [],_,h=>.inl h
 | x::r,out,h=>by
   rcases b09 r (a4o out x) h with h | h
   ·rcases c5T h with rfl | h
    ·exact .inr (by simp)
    ·exact .inl h
   ·exact .inr (by simp [h])
theorem b7v:∀ (es out:List Ent),asc cE out=true->asc cE (es.foldl a4o out)=true
 | [],_,h=>h
 | x::r,out,h=>b7v r (a4o out x) (d0C out x h)
theorem c7V (fuel:Nat)(es:List Ent)(hf:2*w9 es<=fuel)(hb:w9 es<=4194304):a4T fuel es=some (es.foldl a4o []):=by
 have hlen:=a3w es
 unfold a4T
 have key:=a27 (σ:=List Ent) (step:=a0k es fuel) es (fun s i=>(s,(i:Int))) a4o (fun i s=>s.length<=i/\(∀ e∈s,e∈es)) (fun s=>s)
  ?_ ?_ [] ⟨by simp,by simp⟩ _ (Nat.le_refl _)
 ·have e:iter (a0k es fuel) (es.length+1) (([]:List Ent),0)=iter (a0k es fuel) (es.length+1) (([]:List Ent),((0:Nat):Int)):=rfl
  rw [Y2,e,key]
  rfl
 ·intro i s x hx ⟨hI,hm⟩
  have hi:i<es.length:=(List.getElem?_eq_some_iff.1 hx).1
  refine ⟨c4H fuel es s i x hx (fun e he=>by have:=X6 (hm e he); omega) (fun e he=>by have:=X6 (hm e he); omega) (by omega) (by omega),?_,?_⟩
  ·have:=d06 s x; omega
  ·intro e he
   rcases c5T he with rfl | he
   ·exact List.mem_of_getElem? hx
   ·exact hm e he
 ·intro s _
  unfold a0k
  simp
def b8i (n:Int)(es:List Ent):Val:=Val.mk 9 n (⟨#[]⟩) ([]:List Val) ([]:List Key) es ([]:List ByteArray)
abbrev b8D:Type:=Int×Int×ByteArray×(List Val)×(List Key)×(List Ent)×(List ByteArray)
abbrev a2N:b8D:=(0,0,(⟨#[]⟩:ByteArray),[],[],[],[])
theorem b3Q (fuel:Nat)(n:Int)(es:List Ent)(hf:2*w9 es<=fuel)(hb:w9 es<=4194304) :
 a0R fuel n es=some (if 0<=n/\n<=4/\es.all (a3h n)=true then (b8i n (es.foldl a4o []),0) else (a61,1)):=by
 have hlen:=a3w es
 unfold a0R
 simp only [Y2]
 by_cases h1:n<0
 ·have e1:decide (n<0)=true:=by simpa using h1
  rw [e1,if_neg (by omega)]; rfl
 by_cases h2:4<n
 ·have e1:decide (n<0)=false:=by simpa using h1
  have e2:decide (4<n)=true:=by simpa using h2
  rw [e1,e2,if_neg (by omega)]; rfl
 have e1:decide (n<0)=false:=by simpa using h1
 have e2:decide (4<n)=false:=by simpa using h2
 rw [e1,e2,c7V fuel es hf hb]
 have key:=a0P (step:=a0f n es fuel) es (a3h n) (fun i=>((i:Int),a2N)) a2N (1,a2N) ?_ ?_
 ·have e:iter (a0f n es fuel) (es.length+1) (0,(0,0,(⟨#[]⟩:ByteArray),[],[],[],[]))=iter (a0f n es fuel) (es.length+1) (((0:Nat):Int),a2N):=rfl
  rw [e,key]
  by_cases ha:es.all (a3h n)=true
  ·rw [if_pos ha,if_pos ⟨by omega,by omega,ha⟩]
   rfl
  ·rw [if_neg ha,if_neg (fun h=>ha h.2.2)]
   rfl
 ·intro i x hx
  have hi:i<es.length:=(List.getElem?_eq_some_iff.1 hx).1
  have hm:=X6 (List.mem_of_getElem? hx)
  have hbe:=a1v x
  unfold a0f a33
  simp only [V8,Y1]
  rw [if_pos (by simp; omega),j5 hx]
  simp only [Option.bind_some,Int.toNat_natCast,hx]
  rw [show Val.mk 0 0 (⟨#[]⟩:ByteArray) ([]:List Val) ([]:List Key) ([]:List Ent) ([]:List ByteArray)=a61 from rfl,(a5I fuel).1 x.Result a61 (by omega) (by omega),k8 i (by omega)]
  unfold a3h
  by_cases hl:(x.Args.length:Int)=n
  ·have e1:((x.Args.length:Int) != n)=false:=by simp [hl]
   have e2:((x.Args.length:Int)==n)=true:=by simp [hl]
   rw [e1,e2]
   simp only [Bool.false_eq_true,if_false,Option.bind_some,Bool.true_and]
   cases x.Fails
   ·simp
   ·by_cases h0:cV x.Result a61=0<;>simp [h0]
  ·have e1:((x.Args.length:Int) != n)=true:=by simp [hl]
   have e2:((x.Args.length:Int)==n)=false:=by simp [hl]
   rw [e1,e2]
   simp
 ·unfold a0f
  simp
end Go.Pl
end
section
namespace Go.Pl
open Go Go.RowKit Go.Sx Go.Qx
theorem b6r (c:UInt8):a21 (c.toNat:Int)=some (a6N c):=by
 unfold a21 a6N
 cases decide (97<=(c.toNat:Int))<;>simp
theorem c1w (c:UInt8):a32 (c.toNat:Int)=some (a7T c):=by
 unfold a32 a7T
 cases decide (48<=(c.toNat:Int))<;>simp
theorem c0m (s:ByteArray):a3I s=some (a5k s):=by
 unfold a3I a5k b5q
 simp only [V8,c21]
 have hsz:=b9c s
 cases hs:s.data.toList with
 | nil =>
   rw [hs] at hsz
   rw [hsz]
   simp
 | cons c r =>
   rw [hs] at hsz
   simp only [List.length_cons] at hsz
   have e1:decide ((s.size:Int)<1)=false:=by simp; omega
   rw [e1]
   simp only [Bool.false_eq_true,if_false,Option.bind_some]
   by_cases hb:16<(s.size:Int)
   ·rw [if_pos (by simpa using hb)]
    have:decide (r.length<=15)=false:=by simp; omega
    rw [this]; rfl
   ·rw [if_neg (by simpa using hb)]
    have e2:decide (r.length<=15)=true:=by simp; omega
    have e3:a6i s 0=some c:=b2y (i:=0) (by rw [hs]; rfl)
    rw [e2,e3]
    simp only [Option.bind_some,b6r,Bool.true_and]
    cases a6N c
    ·rfl
    ·simp only [Bool.not_true,Bool.false_eq_true,if_false,Bool.true_and]
     refine b3d s.size (fun i=>match s.data.toList[i]? with | some x=>(a6N x||a7T x||(x.toNat:Int)==95) | none=>true) ?_ ?_ 1 _ ?_
     ·intro i hi
      have hi':i<s.data.toList.length:=by rw [hs]; simp; omega
      unfold a5H
      simp only [V8,Y1]
      rw [if_pos (by simp; omega),b2y (List.getElem?_eq_getElem hi')]
      simp only [Option.bind_some,b6r,c1w]
      rw [List.getElem?_eq_getElem hi',k8 i (by omega)]
      generalize s.data.toList[i]=x
      have hn:((x.toNat:Int) != 95)=!((x.toNat:Int)==95):=rfl
      rw [hn]
      show _=some (if (a6N x||a7T x||(x.toNat:Int)==95)=true then _ else _)
      cases a6N x<;>cases a7T x<;>cases (x.toNat:Int)==95<;>rfl
     ·intro i hi
      unfold a5H
      rw [V8,if_neg (by simp; omega)]
     ·rw [hs,List.all_eq_true]
      constructor
      ·intro h i h1 hi
       obtain ⟨i,rfl⟩:∃ m,i=m+1:=⟨i-1,by omega⟩
       have hr:i<r.length:=by omega
       simp only [List.getElem?_cons_succ,List.getElem?_eq_getElem hr]
       exact h _ (List.getElem_mem hr)
      ·intro h x hx
       obtain ⟨i,hi,rfl⟩:=List.getElem_of_mem hx
       have:=h (i+1) (by omega) (by omega)
       simpa only [List.getElem?_cons_succ,List.getElem?_eq_getElem hi] using this
theorem c1L (k:Key):a2I k=some (a0U k):=by
 unfold a2I a0U
 rw [c0m]
 by_cases h:k.Kind=0
 ·cases a5k k.Text<;>simp [h]
 ·by_cases h1:k.Kind=1
  ·simp [h1]
  ·have e0:(k.Kind==0)=false:=by simpa using h
   have e1:(k.Kind==1)=false:=by simpa using h1
   rw [e0,e1,if_neg h,if_neg h1]
   rfl
theorem c8r (a b:Key):cK a b=lx (eK a) (eK b):=by
 have:=pfK a b [] []
 simpa [lx,a93] using this.symm
theorem c2L (a b:Key):cK b a = - cK a b:=by rw [c8r,c8r]; exact b6e _ _
def a0T (a b:Key):Bool:=a5Q a b
theorem c9K (a b:Key):a0T a b=((a.Kind==b.Kind)&&Y0 a.Text b.Text):=by unfold a0T a5Q; simp
theorem b89 (a b:Key):a0T a b=true↔cK a b=0:=by
 rw [c9K]
 unfold cK
 rcases K4 a.Kind b.Kind with ⟨h,e⟩ | ⟨h,e⟩ | ⟨h,e⟩
 ·have:(a.Kind==b.Kind)=false:=by simp; omega
  simp [this,e,tn]
 ·have:(a.Kind==b.Kind)=false:=by simp; omega
  simp [this,e,tn]
 ·rw [h]
  rw [h] at e
  rcases a8N a.Text b.Text with ⟨_,p,q⟩ | ⟨_,p,q⟩ | ⟨_,p,q⟩<;>simp [p,q,e,tn]
abbrev a2K (k:Key):Key->Bool:=fun y=>decide (cK y k<0)
def b8P (s:List Val×List Key)(x:Key×Val):Option (List Val×List Key) :=
 if ((s.2.dropWhile (a2K x.1)).head?.map fun y=>a0T y x.1)=some true then none
 else some (s.1.take (s.2.takeWhile (a2K x.1)).length++[x.2]++s.1.drop (s.2.takeWhile (a2K x.1)).length,a0b (a2K x.1) x.1 s.2)
def a6E:List (Key×Val)->List Val×List Key->Option (List Val×List Key)
 | [],s=>some s
 | x::r,s=>(b8P s x).bind (a6E r)
abbrev a8p (s:List Val×List Key):b8D:=(8,0,(⟨#[]⟩:ByteArray),s.1,s.2,[],[])
theorem d0G (keys:List Key)(l:List Val)(i:Nat)(k:Key)(x:Val)(hk:keys[i]?=some k)(hx:l[i]?=some x)(s:List Val×List Key)(hs:s.1.length=s.2.length)(hl:s.2.length<=4194304)(hi:i<=4194304) :
 ∃ y,a0J keys l ((i:Int),a2N,a8p s)=some (match b8P s (k,x) with | some t=>.next (((i+1:Nat):Int),a2N,a8p t) | none=>.done (.inr (6,a2N,y))):=by
 refine ⟨a8p s,?_⟩
 have hlt:i<keys.length:=(List.getElem?_eq_some_iff.1 hk).1
 have hik:idx keys (i:Int)=some k:=j5 hk
 have hix:idx l (i:Int)=some x:=j5 hx
 unfold a0J
 simp only [Y2]
 rw [c1h (step:=a5c keys ((i:Int),a2N,a8p s)) s.2 (a2K k) ?_ ?_]
 ·simp only [V8,Y1]
  rw [if_pos (by simp; omega)]
  simp only [Option.bind_some,hik,hix]
  have hp:=b3h (a2K k) s.2
  have hat:=c2k (a2K k) s.2
  have rmk:∀ n,n<=4194305->Z4 n 24=some ():=fun n hn=>Z6 (by omega)
  have rmv:∀ n,n<=4194305->Z4 n 128=some ():=fun n hn=>Z6 (by omega)
  have h1:=a7t (a2K k) k s.2
  simp only [a0b,List.length_append,List.length_singleton] at h1
  have go:(Option.bind (cut s.2 0 ((s.2.takeWhile (a2K k)).length:Int)) fun u=>Option.bind (Z4 (0+u.length) 24) fun _ =>
   Option.bind (cut s.1 0 ((s.2.takeWhile (a2K k)).length:Int)) fun u2=>Option.bind (a1u u2) fun r2 =>
   Option.bind (Z4 (u.length+[k].length) 24) fun _=>Option.bind (cut s.2 ((s.2.takeWhile (a2K k)).length:Int) (s.2.length:Int)) fun w =>
   Option.bind (Z4 ((u++[k]).length+w.length) 24) fun _=>Option.bind (Z4 (r2.length+[x].length) 128) fun _ =>
   Option.bind (cut s.1 ((s.2.takeWhile (a2K k)).length:Int) (s.1.length:Int)) fun w2=>Option.bind (Z4 ((r2++[x]).length+w2.length) 128) fun _ =>
   some (Fl.next (w64 ((i:Int)+1),a2N,a8p ((r2++[x])++w2,(u++[k])++w))))=some (Fl.next (((i+1:Nat):Int),a2N,a8p (s.1.take (s.2.takeWhile (a2K k)).length++[x]++s.1.drop (s.2.takeWhile (a2K k)).length,a0b (a2K k) k s.2)):Fl (Int×b8D×b8D) (Sum (b8D×b8D) (Int×b8D×b8D))):=by
   have ht:(s.1.take (s.2.takeWhile (a2K k)).length).length<=4194304:=by rw [List.length_take]; omega
   have hd:(s.1.take (s.2.takeWhile (a2K k)).length).length+(s.1.drop (s.2.takeWhile (a2K k)).length).length=s.1.length:=by rw [List.length_take,List.length_drop]; omega
   rw [c1G s.2 hp,c4s s.2 hp,c1G s.1 (by omega),c4s s.1 (by omega),c25,c2N]
   unfold a1u
   simp only [Option.bind_some]
   rw [rmk _ (by simp; omega),rmv _ (by simp; omega)]
   simp only [Option.bind_some]
   rw [rmk _ (by simp; omega),rmk _ (by simp only [List.length_append,List.length_singleton]; omega),rmv _ (by simp; omega),rmv _ (by simp only [List.length_append,List.length_singleton]; omega),k8 i (by omega)]
   rfl
  unfold b8P
  cases hh:(s.2.dropWhile (a2K k)).head? with
  | none =>
    rw [hh] at hat
    have hge:=List.getElem?_eq_none_iff.1 hat
    rw [if_neg (by simp; omega),if_neg (by simp)]
    exact go
  | some y =>
    rw [hh] at hat
    have hlt2:=(List.getElem?_eq_some_iff.1 hat).1
    rw [if_pos (by simp; omega),j5 hat]
    simp only [Option.bind_some,Option.map_some]
    cases hq:a0T y k
    ·unfold a0T at hq
     rw [hq,if_neg (by simp),if_neg (by simp)]
     exact go
    ·unfold a0T at hq
     rw [hq,if_pos rfl,if_pos rfl]
 ·intro j y hy
  have hj:j<s.2.length:=(List.getElem?_eq_some_iff.1 hy).1
  unfold a5c
  simp only [V8,Y1]
  rw [if_pos (by simp; omega),j5 hy,hik]
  simp only [Option.bind_some,b4c,k8 j (by omega)]
  by_cases h:cK y k<0<;>simp [h]
 ·unfold a5c
  simp
theorem c4q {s t:List Val×List Key}{x:Key×Val}(h:b8P s x=some t)(hs:s.1.length=s.2.length):t.1.length=t.2.length/\t.2.length=s.2.length+1:=by
 unfold b8P at h
 split at h
 ·cases h
 ·cases h
  have h1:=a7t (a2K x.1) x.1 s.2
  have hp:=b3h (a2K x.1) s.2
  refine ⟨?_,h1⟩
  rw [h1]
  simp only [List.length_append,List.length_singleton,List.length_take,List.length_drop]
  omega
theorem d0i (keys:List Key)(l:List Val)(hkl:keys.length=l.length)(hl:keys.length<=4194304) :
 ∃ y,iter (a0J keys l) (keys.length+1) (0,a2N,a8p ([],[]))=some (match a6E (keys.zip l) ([],[]) with | some t=>.inl (a2N,a8p t) | none=>.inr (6,a2N,y)):=by
 have key:∀ (m i k:Nat) (s:List Val×List Key),i+m=keys.length->m+1<=k->s.1.length=s.2.length->s.2.length<=i ->
  ∃ y,iter (a0J keys l) k ((i:Int),a2N,a8p s)=some (match a6E ((keys.drop i).zip (l.drop i)) s with | some t=>.inl (a2N,a8p t) | none=>.inr (6,a2N,y)):=by
  intro m
  induction m with
  | zero =>
    intro i k s h1 h2 hs hn
    obtain ⟨k,rfl⟩:∃ m,k=m+1:=⟨k-1,by omega⟩
    have e:i=keys.length:=by omega
    subst e
    rw [List.drop_length,List.zip_nil_left]
    have:a0J keys l ((keys.length:Int),a2N,a8p s)=some (.done (.inl (a2N,a8p s))):=by
     unfold a0J
     simp
    exact ⟨a2N,by simp only [iter,this,a6E,Option.bind_some]⟩
  | succ m ih =>
    intro i k s h1 h2 hs hn
    obtain ⟨k,rfl⟩:∃ m,k=m+1:=⟨k-1,by omega⟩
    have hlt:i<keys.length:=by omega
    have hlt2:i<l.length:=by omega
    rw [List.drop_eq_getElem_cons hlt,List.drop_eq_getElem_cons hlt2,List.zip_cons_cons]
    obtain ⟨y,hy⟩:=d0G keys l i _ _ (List.getElem?_eq_getElem hlt) (List.getElem?_eq_getElem hlt2) s hs (by omega) (by omega)
    simp only [iter,hy,a6E]
    cases hi:b8P s (keys[i],l[i]) with
    | none=>exact ⟨y,by simp⟩
    | some t =>
      obtain ⟨h3,h4⟩:=c4q hi hs
      simp only [Option.bind_some]
      exact ih (i+1) k t (by omega) (by omega) h3 (by omega)
 obtain ⟨y,hy⟩:=key keys.length 0 (keys.length+1) ([],[]) (by omega) (Nat.le_refl _) rfl (Nat.le_refl _)
 exact ⟨y,by simpa using hy⟩
def b4z (s:List Val×List Key):Val:=Val.mk 8 0 (⟨#[]⟩) s.1 s.2 ([]:List Ent) ([]:List ByteArray)
theorem c1P (keys:List Key)(l:List Val)(hl:keys.length<=4194304) :
 a1e keys l=some (if keys.length=l.length/\keys.all a0U=true then (match a6E (keys.zip l) ([],[]) with | some t=>((b4z t,0):Val×Int) | none=>(a61,6)) else (a61,1)):=by
 unfold a1e
 simp only [Y2]
 by_cases hkl:keys.length=l.length
 ·have e1:((keys.length:Int) != (l.length:Int))=false:=by simp; omega
  rw [e1]
  have k1:=a0P (step:=a1t keys) keys a0U (fun i=>((i:Int),a2N)) a2N (1,a2N) ?_ ?_
  ·obtain ⟨y,hy⟩:=d0i keys l hkl hl
   have e2:iter (a1t keys) (keys.length+1) (0,(0,0,(⟨#[]⟩:ByteArray),[],[],[],[]))=iter (a1t keys) (keys.length+1) (((0:Nat):Int),a2N):=rfl
   rw [e2,k1]
   by_cases ha:keys.all a0U=true
   ·rw [if_pos ha,if_pos ⟨hkl,ha⟩]
    simp only [Option.bind_some,onEnd,cond_false]
    rw [hy]
    cases a6E (keys.zip l) ([],[])<;>rfl
   ·rw [if_neg ha,if_neg (fun h=>ha h.2)]
    rfl
  ·intro i x hx
   have hi:i<keys.length:=(List.getElem?_eq_some_iff.1 hx).1
   unfold a1t
   simp only [V8,Y1]
   rw [if_pos (by simp; omega),j5 hx]
   simp only [Option.bind_some,c1L,k8 i (by omega)]
   cases a0U x<;>rfl
  ·unfold a1t
   simp
 ·have e1:((keys.length:Int) != (l.length:Int))=true:=by simp; omega
  rw [e1,if_neg (fun h=>hkl h.1)]
  rfl
theorem a7c (a b:List Key):v8 (a++b)=v8 a+v8 b:=by
 induction a with
 | nil=>simp [v8]
 | cons x r ih=>simp only [List.cons_append,v8,ih]; omega
theorem c8n {s t:List Val×List Key}{x:Key×Val}(h:b8P s x=some t)(ha:asc cK s.2=true) :
 asc cK t.2=true/\(∀ y∈t.2,y=x.1\/y∈s.2)/\(∀ y∈t.1,y=x.2\/y∈s.1)/\k7 t.1=k7 s.1+j9 x.2/\v8 t.2=v8 s.2+a6I x.1:=by
 unfold b8P at h
 split at h
 ·cases h
 ·rename_i hne
  cases h
  refine ⟨b2p cK c2L x.1 s.2 ha ?_,fun y hy=>b3R hy,fun y hy=>?_,?_,?_⟩
  ·intro y hy h0
   rw [hy] at hne
   simp only [Option.map_some] at hne
   exact hne (congrArg some ((b89 y x.1).2 h0))
  ·simp only [List.mem_append,List.mem_singleton] at hy
   rcases hy with (hy | hy) | hy
   ·exact .inr (List.mem_of_mem_take hy)
   ·exact .inl hy
   ·exact .inr (List.mem_of_mem_drop hy)
  ·have e:=congrArg k7 (List.take_append_drop (s.2.takeWhile (a2K x.1)).length s.1)
   rw [a1H] at e
   simp only [a1H,k7]
   omega
  ·have e:=congrArg v8 (List.takeWhile_append_dropWhile (p:=a2K x.1) (l:=s.2))
   rw [a7c] at e
   simp only [a0b,a7c,v8]
   omega
def b6Y:List (Key×Val)->Nat
 | []=>0
 | x::r=>a6I x.1+j9 x.2+b6Y r
theorem b2R:∀ (xs:List (Key×Val)) (s t:List Val×List Key),a6E xs s=some t->asc cK s.2=true->s.1.length=s.2.length ->
 asc cK t.2=true/\t.1.length=t.2.length/\t.2.length=s.2.length+xs.length/\(∀ y∈t.2,y∈s.2\/∃ x∈xs,y=x.1)/\(∀ y∈t.1,y∈s.1\/∃ x∈xs,y=x.2)/\k7 t.1+v8 t.2=k7 s.1+v8 s.2+b6Y xs
 | [],s,t,h,ha,hl=>by
   cases h
   exact ⟨ha,hl,rfl,fun y hy=>.inl hy,fun y hy=>.inl hy,rfl⟩
 | x::r,s,t,h,ha,hl=>by
   simp only [a6E] at h
   obtain ⟨u,hu,h⟩:=Option.bind_eq_some_iff.1 h
   obtain ⟨k1,k2,k3,k4,k5⟩:=c8n hu ha
   obtain ⟨l1,l2⟩:=c4q hu hl
   obtain ⟨m1,m2,m3,m4,m5,m6⟩:=b2R r u t h k1 l1
   refine ⟨m1,m2,by rw [m3,l2,List.length_cons]; omega,fun y hy=>?_,fun y hy=>?_,by simp only [b6Y]; omega⟩
   ·rcases m4 y hy with hy | ⟨z,hz,rfl⟩
    ·rcases k2 y hy with rfl | hy
     ·exact .inr ⟨x,by simp,rfl⟩
     ·exact .inl hy
    ·exact .inr ⟨z,by simp [hz],rfl⟩
   ·rcases m5 y hy with hy | ⟨z,hz,rfl⟩
    ·rcases k3 y hy with rfl | hy
     ·exact .inr ⟨x,by simp,rfl⟩
     ·exact .inl hy
    ·exact .inr ⟨z,by simp [hz],rfl⟩
end Go.Pl
namespace Go.Pl
open Go Go.RowKit Go.Sx Go.Qx
theorem c3B (c:UInt8):a4c (c.toNat:Int)=some (upC c):=by
 unfold a4c upC
 cases decide (65<=(c.toNat:Int))<;>simp
theorem c1D (s:ByteArray):a17 s=some (a6j s):=by
 unfold a17 a6j b5q
 simp only [V8,c21]
 have hsz:=b9c s
 cases hs:s.data.toList with
 | nil =>
   rw [hs] at hsz
   rw [hsz]
   simp
 | cons c r =>
   rw [hs] at hsz
   simp only [List.length_cons] at hsz
   have e1:decide ((s.size:Int)<1)=false:=by simp; omega
   rw [e1]
   simp only [Bool.false_eq_true,if_false,Option.bind_some]
   by_cases hb:16<(s.size:Int)
   ·rw [if_pos (by simpa using hb)]
    have:decide (r.length<=15)=false:=by simp; omega
    rw [this]; rfl
   ·rw [if_neg (by simpa using hb)]
    have e2:decide (r.length<=15)=true:=by simp; omega
    have e3:a6i s 0=some c:=b2y (i:=0) (by rw [hs]; rfl)
    rw [e2,e3]
    simp only [Option.bind_some,c3B,Bool.true_and]
    cases upC c
    ·rfl
    ·simp only [Bool.not_true,Bool.false_eq_true,if_false,Bool.true_and]
     refine b3d s.size (fun i=>match s.data.toList[i]? with | some x=>(a6N x||upC x||a7T x||(x.toNat:Int)==95) | none=>true) ?_ ?_ 1 _ ?_
     ·intro i hi
      have hi':i<s.data.toList.length:=by rw [hs]; simp; omega
      unfold a4j
      simp only [V8,Y1]
      rw [if_pos (by simp; omega),b2y (List.getElem?_eq_getElem hi')]
      simp only [Option.bind_some,b6r,c1w,c3B]
      rw [List.getElem?_eq_getElem hi',k8 i (by omega)]
      generalize s.data.toList[i]=x
      have hn:((x.toNat:Int) != 95)=!((x.toNat:Int)==95):=rfl
      rw [hn]
      show _=some (if (a6N x||upC x||a7T x||(x.toNat:Int)==95)=true then _ else _)
      cases a6N x<;>cases upC x<;>cases a7T x<;>cases (x.toNat:Int)==95<;>rfl
     ·intro i hi
      unfold a4j
      rw [V8,if_neg (by simp; omega)]
     ·rw [hs,List.all_eq_true]
      constructor
      ·intro h i h1 hi
       obtain ⟨i,rfl⟩:∃ m,i=m+1:=⟨i-1,by omega⟩
       have hr:i<r.length:=by omega
       simp only [List.getElem?_cons_succ,List.getElem?_eq_getElem hr]
       exact h _ (List.getElem_mem hr)
      ·intro h x hx
       obtain ⟨i,hi,rfl⟩:=List.getElem_of_mem hx
       have:=h (i+1) (by omega) (by omega)
       simpa only [List.getElem?_cons_succ,List.getElem?_eq_getElem hi] using this
end Go.Pl
end
section
namespace Go.Pl
open Go Go.RowKit Go.Sx Go.Qx
theorem a73:Y0 (⟨#[]⟩:ByteArray) ⟨#[]⟩=true:=by simp [Y0]
theorem c2x (n:Int):vOK (Val.mk 1 n (⟨#[]⟩) [] [] [] [])=true:=by simp [vOK,a1G,a43,a18,a1c,asc,a3U,a36,a73,Val.Kind,Val.Int_,Val.Text,Val.Kids,Val.Keys,Val.Entries,Val.Labels]
theorem d2w (s:ByteArray):vOK (Val.mk 2 0 s [] [] [] [])=decide ((s.size:Int)<=64):=by rw [Bool.eq_iff_iff]; simp [vOK,a1G,a43,a18,a1c,asc,a3U,a36,Val.Kind,Val.Int_,Val.Text,Val.Kids,Val.Keys,Val.Entries,Val.Labels]; exact decide_eq_true_iff
theorem d0T (s:ByteArray):vOK (Val.mk 3 0 s [] [] [] [])=a5k s:=by simp [vOK,a1G,a43,a18,a1c,asc,a3U,a36,Val.Kind,Val.Int_,Val.Text,Val.Kids,Val.Keys,Val.Entries,Val.Labels]
theorem d2y (n:Int):vOK (Val.mk 4 n (⟨#[]⟩) [] [] [] [])=decide (0<=n):=by rw [Bool.eq_iff_iff]; simp [vOK,a1G,a43,a18,a1c,asc,a3U,a36,a73,Val.Kind,Val.Int_,Val.Text,Val.Kids,Val.Keys,Val.Entries,Val.Labels]; exact decide_eq_true_iff
theorem b9G:vOK (Val.mk 5 0 (⟨#[]⟩) [] [] [] [])=true:=by simp [vOK,a1G,a43,a18,a1c,asc,a3U,a36,a73,Val.Kind,Val.Int_,Val.Text,Val.Kids,Val.Keys,Val.Entries,Val.Labels]
theorem c3G (l:List Val):vOK (Val.mk 6 0 (⟨#[]⟩) l [] [] [])=(decide (l.length<=4)&&a1G l):=by rw [Bool.eq_iff_iff]; simp [vOK,a43,a18,a1c,asc,a3U,a36,a73,Val.Kind,Val.Int_,Val.Text,Val.Kids,Val.Keys,Val.Entries,Val.Labels]; intro _; exact decide_eq_true_iff
theorem c5J (x t:Val):vOK (Val.mk 7 0 (⟨#[]⟩) [x,t] [] [] [])=((t.Kind==5||t.Kind==7)&&(vOK x&&vOK t)):=by simp [vOK,a1G,a43,a18,a1c,asc,a3U,a36,b0K,a73,Val.Kind,Val.Int_,Val.Text,Val.Kids,Val.Keys,Val.Entries,Val.Labels]
theorem d2q (t:List Val×List Key):vOK (b4z t)=(a9B (b4z t)&&a1G t.1):=by simp [b4z,vOK,a43,a18,a1c,asc,a3U,a36,a73,Val.Kind,Val.Int_,Val.Text,Val.Kids,Val.Keys,Val.Entries,Val.Labels]
theorem d2L (n:Int)(es:List Ent):vOK (b8i n es)=(b1L (b8i n es)&&a43 es):=by simp [b8i,vOK,a1G,a18,a1c,asc,a3U,a36,a73,Val.Kind,Val.Int_,Val.Text,Val.Kids,Val.Keys,Val.Entries,Val.Labels]
def a7G (v:Val)(l:List ByteArray):Val:=Val.mk v.Kind v.Int_ v.Text v.Kids v.Keys v.Entries l
theorem b0v {v:Val}{l:List ByteArray}(h:vOK v=true)(hl:a1c l=true):vOK (a7G v l)=true:=by
 cases v
 simp only [vOK,a18,Bool.and_eq_true,a7G,Val.Kind,Val.Int_,Val.Text,Val.Kids,Val.Keys,Val.Entries,Val.Labels] at h ⊢
 exact ⟨⟨hl,h.1.2⟩,h.2⟩
theorem a7j (v:Val)(l:List ByteArray):j9 (a7G v l)<=j9 v+K0 l:=by
 rw [a1y,a1y v]
 simp only [a7G,Val.Text,Val.Kids,Val.Keys,Val.Entries,Val.Labels]
 omega
theorem a2H:(⟨#[]⟩:ByteArray).size=0:=rfl
theorem K8 (k n:Int)(t:ByteArray)(kids:List Val)(keys:List Key)(es:List Ent):j9 (Val.mk k n t kids keys es [])=8+t.size+k7 kids+v8 keys+w9 es:=by
 simp only [j9,a3R,K0]; omega
structure OS (L:List Int)(s:Semtypebase_Source):Prop where
 l:s.L=L
 lo:0<=s.At
 hi:s.At<=(L.length:Int)
section
variable {L:List Int}
theorem Y6 (hL:L.length<=4194304){s:Semtypebase_Source}(h:OS L s){n:Int}(h1:1<=n)(h2:n<=1000):∃ x t,z8 s n=some (x,t)/\OS L t/\0<=x/\x<n:=by
 obtain ⟨hl,lo,hi⟩:=h
 unfold z8
 have e1:decide (n<1)=false:=by simp; omega
 rw [e1,hl]
 by_cases he:(L.length:Int)<=s.At
 ·have e2:decide ((L.length:Int)<=s.At)=true:=by simpa using he
  rw [e2]
  exact ⟨0,s,rfl,⟨hl,lo,hi⟩,by omega,by omega⟩
 ·have e2:decide ((L.length:Int)<=s.At)=false:=by simpa using he
  rw [e2]
  simp only [cond_false,Option.bind_some]
  have hlt:s.At.toNat<L.length:=by omega
  have e:idx L s.At=some L[s.At.toNat]:=by
   have:=j5 (List.getElem?_eq_getElem hlt)
   rwa [show ((s.At.toNat:Nat):Int)=s.At by omega] at this
  rw [e]
  simp only [Option.bind_some]
  have hq:c0Y L[s.At.toNat] n=some (L[s.At.toNat].tmod n):=by unfold c0Y; rw [if_neg (by omega)]
  rw [hq]
  simp only [Option.bind_some,Y1]
  have b1:=Int.tmod_lt_of_pos L[s.At.toNat] (show 0<n by omega)
  have b2:=Int.lt_tmod_of_pos L[s.At.toNat] (show 0<n by omega)
  have hw:w64 (s.At+1)=s.At+1:=Q8 (by omega) (by omega)
  have hos:OS L (Semtypebase_Source.mk L (w64 (s.At+1))):=⟨rfl,by show 0<=w64 (s.At+1); omega,by show w64 (s.At+1)<=_; omega⟩
  by_cases hn:L[s.At.toNat].tmod n<0
  ·rw [V8,if_pos (by simpa using hn),Q8 (x:=L[s.At.toNat].tmod n+n) (by omega) (by omega)]
   exact ⟨_,_,rfl,hos,by omega,by omega⟩
  ·rw [V8,if_neg (by simpa using hn)]
   exact ⟨_,_,rfl,hos,by omega,by omega⟩
theorem b5z {α:Type}(l:List α){x:Int}(h0:0<=x)(h1:x<(l.length:Int)):∃ t,idx l x=some t/\l[x.toNat]?=some t/\t∈l:=by
 have hlt:x.toNat<l.length:=by omega
 have:=j5 (List.getElem?_eq_getElem hlt)
 rw [show ((x.toNat:Nat):Int)=x by omega] at this
 exact ⟨_,this,List.getElem?_eq_getElem hlt,List.getElem_mem hlt⟩
abbrev b9x:List ByteArray:=[⟨#[65]⟩,⟨#[66]⟩,⟨#[67]⟩]
abbrev c5m:List ByteArray:=[⟨#[97]⟩,⟨#[98]⟩,⟨#[111,107]⟩,⟨#[101,114,114,111,114]⟩]
abbrev c5z:List ByteArray:=[⟨#[]⟩,⟨#[115]⟩,⟨#[120,32,121]⟩,⟨#[97]⟩]
theorem c0X (hL:L.length<=4194304){s:Semtypebase_Source}(h:OS L s):∃ x t,a0D s=some (x,t)/\OS L t/\x∈b9x:=by
 obtain ⟨n,t,e,ht,a,b⟩:=Y6 hL h (n:=3) (by omega) (by omega)
 obtain ⟨x,ex,eg,hx⟩:=b5z b9x a (by simpa using b)
 exact ⟨x,t,by unfold a0D; rw [e]; simp only [Option.bind_some]; rw [ex,eg]; rfl,ht,hx⟩
theorem b0w (hL:L.length<=4194304){s:Semtypebase_Source}(h:OS L s):∃ x t,V6 s=some (x,t)/\OS L t/\x∈c5m:=by
 obtain ⟨n,t,e,ht,a,b⟩:=Y6 hL h (n:=4) (by omega) (by omega)
 obtain ⟨x,ex,eg,hx⟩:=b5z c5m a (by simpa using b)
 exact ⟨x,t,by unfold V6; rw [e]; simp only [Option.bind_some]; rw [ex,eg]; rfl,ht,hx⟩
theorem b9s (hL:L.length<=4194304){s:Semtypebase_Source}(h:OS L s):∃ x t,a0d s=some (x,t)/\OS L t/\x∈c5z:=by
 obtain ⟨n,t,e,ht,a,b⟩:=Y6 hL h (n:=4) (by omega) (by omega)
 obtain ⟨x,ex,eg,hx⟩:=b5z c5z a (by simpa using b)
 exact ⟨x,t,by unfold a0d; rw [e]; simp only [Option.bind_some]; rw [ex,eg]; rfl,ht,hx⟩
theorem c8I (hL:L.length<=4194304){s:Semtypebase_Source}(h:OS L s):∃ x t,a0m s=some (x,t)/\OS L t:=by
 obtain ⟨n,t,e,ht,a,b⟩:=Y6 hL h (n:=10) (by omega) (by omega)
 obtain ⟨x,ex,eg,hx⟩:=b5z ([0,1,(-1),2,3,(-2),7,(-9223372036854775808),9223372036854775807,10]:List Int) a (by simpa using b)
 exact ⟨x,t,by unfold a0m; rw [e]; simp only [Option.bind_some]; rw [ex,eg]; rfl,ht⟩
def chk (o:Option (List ByteArray)):Bool :=
 match o with
 | some l=>a1c l&&decide (K0 l<=4)
 | none=>false
theorem b8g {o:Option (List ByteArray)}(h:chk o=true):∃ l,o=some l/\a1c l=true/\K0 l<=4:=by
 cases o with
 | none=>cases h
 | some l=>simp only [chk,Bool.and_eq_true,decide_eq_true_eq] at h; exact ⟨l,rfl,h⟩
theorem d2K:chk (a0h ([]:List ByteArray))=true:=by kernel_rfl
theorem d2o:b9x.all (fun x=>chk (a0h [x]))=true:=by kernel_rfl
theorem d2u:b9x.all (fun x=>b9x.all (fun y=>chk (a0h ([x]++[y]))))=true:=by kernel_rfl
theorem b1V (hL:L.length<=4194304){s:Semtypebase_Source}(h:OS L s):∃ l t,a1m s=some (l,t)/\OS L t/\a1c l=true/\K0 l<=4:=by
 obtain ⟨n,t,e,ht,_,_⟩:=Y6 hL h (n:=3) (by omega) (by omega)
 unfold a1m
 rw [e]
 simp only [Option.bind_some]
 cases hn:n==1
 ·simp only [cond_false,Option.bind_some]
  obtain ⟨l,el,h1,h2⟩:=b8g d2K
  exact ⟨l,t,by rw [el]; rfl,ht,h1,h2⟩
 ·simp only [cond_true,Option.bind_some]
  obtain ⟨x,t2,e2,ht2,hx⟩:=c0X hL ht
  obtain ⟨m,t3,e3,ht3,_,_⟩:=Y6 hL ht2 (n:=2) (by omega) (by omega)
  rw [e2]
  simp only [Option.bind_some]
  rw [Z6 (by simp),e3]
  simp only [Option.bind_some]
  cases hm:m==1
  ·simp only [cond_false,Option.bind_some]
   obtain ⟨l,el,h1,h2⟩:=b8g (List.all_eq_true.1 d2o x hx)
   exact ⟨l,t3,by rw [el]; rfl,ht3,h1,h2⟩
  ·simp only [cond_true,Option.bind_some]
   obtain ⟨y,t4,e4,ht4,hy⟩:=c0X hL ht3
   rw [e4]
   simp only [Option.bind_some]
   rw [Z6 (by simp)]
   obtain ⟨l,el,h1,h2⟩:=b8g (List.all_eq_true.1 (List.all_eq_true.1 d2u x hx) y hy)
   exact ⟨l,t4,by simp only [Option.bind_some]; rw [el]; rfl,ht4,h1,h2⟩
theorem b1Y:c5m.all (fun x=>a5k x&&decide (x.size<=5))=true:=by kernel_rfl
theorem b1G:c5z.all (fun x=>decide (x.size<=5))=true:=by kernel_rfl
theorem b5S (hL:L.length<=4194304){s:Semtypebase_Source}(h:OS L s):∃ v t,Q9 s=some (v,t)/\OS L t/\vOK v=true/\j9 v<=16:=by
 obtain ⟨n,t,e,ht,_,_⟩:=Y6 hL h (n:=6) (by omega) (by omega)
 unfold Q9
 rw [e]
 simp only [Option.bind_some]
 cases n==0
 ·simp only [cond_false,Option.bind_some]
  cases n==1
  ·simp only [cond_false,Option.bind_some]
   cases n==2
   ·simp only [cond_false,Option.bind_some]
    cases n==3
    ·simp only [cond_false,Option.bind_some]
     cases n==4
     ·simp only [cond_false,Option.bind_some]
      unfold a1V a1u
      rw [Z6 (by simp)]
      exact ⟨_,t,rfl,ht,by rw [c3G]; rfl,by rw [K8]; simp [a2H,k7,v8,w9]⟩
     ·simp only [cond_true,Option.bind_some]
      exact ⟨_,t,rfl,ht,b9G,by rw [K8]; simp [a2H,k7,v8,w9]⟩
    ·simp only [cond_true,Option.bind_some]
     obtain ⟨x,t2,e2,ht2,h0,_⟩:=Y6 hL ht (n:=3) (by omega) (by omega)
     rw [e2]
     exact ⟨_,t2,rfl,ht2,by rw [d2y]; simpa using h0,by rw [K8]; simp [a2H,k7,v8,w9]⟩
   ·simp only [cond_true,Option.bind_some]
    obtain ⟨x,t2,e2,ht2,hx⟩:=b9s hL ht
    have hw:=List.all_eq_true.1 b1G x hx
    simp only [decide_eq_true_eq] at hw
    rw [e2]
    exact ⟨_,t2,rfl,ht2,by rw [d2w]; simp; omega,by rw [K8]; simp only [k7,v8,w9]; omega⟩
  ·simp only [cond_true,Option.bind_some]
   obtain ⟨x,t2,e2,ht2,hx⟩:=b0w hL ht
   have hw:=List.all_eq_true.1 b1Y x hx
   simp only [Bool.and_eq_true,decide_eq_true_eq] at hw
   rw [e2]
   exact ⟨_,t2,rfl,ht2,by rw [d0T]; exact hw.1,by rw [K8]; simp only [k7,v8,w9]; omega⟩
 ·simp only [cond_true,Option.bind_some]
  obtain ⟨x,t2,e2,ht2⟩:=c8I hL ht
  rw [e2]
  exact ⟨_,t2,rfl,ht2,c2x x,by rw [K8]; simp [a2H,k7,v8,w9]⟩
theorem d2B (hL:L.length<=4194304){s:Semtypebase_Source}(h:OS L s):∃ k t,a3F s=some (k,t)/\OS L t/\a0U k=true/\a6I k<=8:=by
 obtain ⟨n,t,e,ht,_,_⟩:=Y6 hL h (n:=2) (by omega) (by omega)
 unfold a3F
 rw [e]
 simp only [Option.bind_some]
 cases n==0
 ·simp only [cond_false,Option.bind_some]
  obtain ⟨x,t2,e2,ht2,hx⟩:=b9s hL ht
  have hw:=List.all_eq_true.1 b1G x hx
  simp only [decide_eq_true_eq] at hw
  rw [e2]
  refine ⟨_,t2,rfl,ht2,?_,?_⟩
  ·simp [a0U]; omega
  ·simp only [a6I,a3R]; omega
 ·simp only [cond_true,Option.bind_some]
  obtain ⟨x,t2,e2,ht2,hx⟩:=b0w hL ht
  have hw:=List.all_eq_true.1 b1Y x hx
  simp only [Bool.and_eq_true,decide_eq_true_eq] at hw
  rw [e2]
  refine ⟨_,t2,rfl,ht2,?_,?_⟩
  ·simpa [a0U] using hw.1
  ·simp only [a6I,a3R]; omega
theorem a7l {γ σ τ:Type}{step:σ->Option (Fl σ τ)}(pack:γ->Int->Semtypebase_Source->σ)(out:γ->Semtypebase_Source->τ)(Inv:Nat->γ->Prop)(J:Nat)
 (hst:∀ (j n:Nat) (g:γ) (s:Semtypebase_Source),j<J->n<=J->Inv j g->OS L s->∃ g' s',step (pack g ((n+1:Nat):Int) s)=some (.next (pack g' (n:Int) s'))/\OS L s'/\Inv (j+1) g')
 (hend:∀ g s,step (pack g 0 s)=some (.done (out g s))) :
 ∀ (n j k:Nat) (g:γ) (s:Semtypebase_Source),j+n<=J->n+1<=k->Inv j g->OS L s->∃ g' s',iter step k (pack g (n:Int) s)=some (out g' s')/\OS L s'/\Inv (j+n) g':=by
 intro n
 induction n with
 | zero =>
   intro j k g s _ hk hI hs
   obtain ⟨k,rfl⟩:∃ m,k=m+1:=⟨k-1,by omega⟩
   exact ⟨g,s,by have:=hend g s; simp [iter,this],hs,hI⟩
 | succ n ih =>
   intro j k g s hJ hk hI hs
   obtain ⟨k,rfl⟩:∃ m,k=m+1:=⟨k-1,by omega⟩
   obtain ⟨g1,s1,e,hs1,hI1⟩:=hst j n g s (by omega) (by omega) hI hs
   obtain ⟨g2,s2,e2,hs2,hI2⟩:=ih (j+1) k g1 s1 (by omega) (by omega) hI1 hs1
   refine ⟨g2,s2,?_,hs2,by rw [show j+(n+1)=j+1+n by omega]; exact hI2⟩
   simp only [iter,e,Option.bind_some]
   exact e2
def hb:Nat->Nat
 | 0=>32
 | h+1=>64+8*hb h
theorem d1T {h:Nat}(hh:h<=2):hb h<=2624:=by
 match h,hh with
 | 0,_=>decide
 | 1,_=>decide
 | 2,_=>decide
theorem c82 (h:Nat):32<=hb h:=by cases h<;>simp [hb]; omega
def c44 (b:Nat)(v:Val):Prop:=vOK v=true/\j9 v<=b
end
end Go.Pl
namespace Go.Pl
open Go Go.RowKit Go.Sx Go.Qx
theorem b68 (a b:List Val):a1G (a++b)=(a1G a&&a1G b):=by rw [a4F,a4F,a4F,List.all_append]
theorem b8r:∀ (ks:List Key) (vs:List Val),b6Y (ks.zip vs)<=v8 ks+k7 vs
 | [],_=>by simp [b6Y]
 | _::_,[]=>by simp [b6Y]
 | k::r,v::q=>by have:=b8r r q; simp only [List.zip_cons_cons,b6Y,v8,k7]; omega
theorem b3W (n:Nat)(h:n<=1000)(b:Nat)(hb:b<=1024):Z4 n b=some ():=Z6 (by
 have:n*b<=1000*1024:=Nat.mul_le_mul h hb
 omega)
section
variable {L:List Int}
theorem c8z (hL:L.length<=4194304){rv:Semtypebase_Source->Int->Option (Val×Semtypebase_Source)}{b:Nat}{h:Int}(hv:∀ s,OS L s->∃ v t,rv s h=some (v,t)/\OS L t/\c44 b v)
 (hb:b<=100000) (hb8:8<=b) (rx:Semtypebase_Source->Int->Option (Val×Semtypebase_Source)) (ry:Semtypebase_Source->Int->Int->Option (Ent×Semtypebase_Source)) (fuel:Nat) {n:Nat} (hn:n<=4) {s:Semtypebase_Source} (hs:OS L s) :
 ∃ e t,a3Y fuel rv rx ry s (n:Int) h=some (e,t)/\OS L t/\eOK e=true/\a3h (n:Int) e=true/\a4n e<=n*b+b+3:=by
 obtain ⟨g,s1,e1,hs1,h1,h2,h3⟩:=a7l (L:=L) (step:=a12 h rv) (fun (g:List Val) (m:Int) (s:Semtypebase_Source)=>(m,s,(g,false,0,0,(⟨#[]⟩:ByteArray),([]:List Val),([]:List Key),([]:List Ent),([]:List ByteArray))))
  (fun (g:List Val) (s:Semtypebase_Source)=>(s,(g,false,0,0,(⟨#[]⟩:ByteArray),([]:List Val),([]:List Key),([]:List Ent),([]:List ByteArray)))) (fun j g=>g.length=j/\a1G g=true/\k7 g<=j*b) 4
  (by
    intro j m g s hj hm ⟨i1,i2,i3⟩ hs
    obtain ⟨v,t,e,ht,k1,k2⟩:=hv s hs
    refine ⟨g++[v],t,?_,ht,by simp [i1],by rw [b68,i2]; simp [a1G,k1],?_⟩
    ·unfold a12
     simp only [V8,Y1]
     rw [if_pos (decide_eq_true (by omega)),e]
     simp only [Option.bind_some]
     rw [b3W _ (by simp; omega) _ (by omega),Q8 (by omega) (by omega)]
     simp only [Option.bind_some]
     rw [show ((m+1:Nat):Int)-1=(m:Int) by omega]
    ·rw [a1H]
     simp only [k7,Nat.add_mul]
     omega)
  (by
    intro g s
    unfold a12
    simp) n 0 (n+2) [] s (by omega) (by omega) ⟨rfl,rfl,by simp [k7]⟩ hs
 obtain ⟨x,t,e2,ht,_,_⟩:=Y6 hL hs1 (n:=4) (by omega) (by omega)
 rw [Nat.zero_add] at h1 h3
 unfold a3Y
 rw [show ((n:Int)).toNat=n by omega,e1]
 simp only [Option.bind_some]
 rw [e2]
 simp only [Option.bind_some]
 cases x==1
 ·simp only [cond_false]
  obtain ⟨v,t2,e3,ht2,k1,k2⟩:=hv t ht
  rw [e3]
  refine ⟨_,t2,rfl,ht2,by rw [b5Q]; simp only [Ent.Args,Ent.Fails,Ent.Result]; rw [h2,k1]; rfl,?_,?_⟩
  ·simp [a3h,Ent.Args,Ent.Fails,h1]
  ·rw [a1v]
   simp only [Ent.Args,Ent.Result]
   omega
 ·simp only [cond_true]
  refine ⟨_,t,rfl,ht,by rw [b5Q]; simp only [Ent.Args,Ent.Fails]; rw [h2]; rfl,?_,?_⟩
  ·simp [a3h,Ent.Args,Ent.Fails,Ent.Result,h1,d2e]
  ·rw [a1v]
   simp only [Ent.Args,Ent.Result]
   have:j9 (Val.mk 0 0 (⟨#[]⟩) [] [] [] [])=8:=by rw [K8]; rfl
   omega
theorem b3U {x:Int}{b:Int}(h0:0<=x)(h1:x<b):∃ n:Nat,x=(n:Int)/\(n:Int)<b:=⟨x.toNat,by omega,by omega⟩
theorem c80 (hL:L.length<=4194304){rv:Semtypebase_Source->Int->Option (Val×Semtypebase_Source)}{re:Semtypebase_Source->Int->Int->Option (Ent×Semtypebase_Source)}{h:Nat}(hh:h<=2)
 (hv:∀ s,OS L s->∃ v t,rv s ((h:Int)+1)=some (v,t)/\OS L t/\c44 (hb h) v)
 (hv2:1<=h->∀ s,OS L s->∃ v t,rv s (h:Int)=some (v,t)/\OS L t/\c44 (hb h) v)
 (he:∀ n:Nat,n<=4->∀ s,OS L s->∃ e t,re s (n:Int) ((h:Int)+1)=some (e,t)/\OS L t/\eOK e=true/\a3h (n:Int) e=true/\a4n e<=n*hb h+hb h+3)
 (rx:Semtypebase_Source->Int->Option (Val×Semtypebase_Source)) {fuel:Nat} (hf:40000<=fuel) {s:Semtypebase_Source} (hs:OS L s) :
 ∃ v t,W4 fuel rv rx re s ((h:Int)+2)=some (v,t)/\OS L t/\vOK v=true/\j9 v+8<=hb (h+1):=by
 have hb1:=d1T hh
 have hb2:=c82 h
 have hbs:hb (h+1)=64+8*hb h:=rfl
 have w1:w64 ((h:Int)+2-1)=(h:Int)+1:=by rw [Q8 (by omega) (by omega)]; omega
 have w2:w64 ((h:Int)+2-2)=(h:Int):=by rw [Q8 (by omega) (by omega)]; omega
 have wn:∀ m:Nat,m<=10->w64 (((m+1:Nat):Int)-1)=(m:Int):=fun m hm=>by rw [Q8 (by omega) (by omega)]; omega
 have lf:∀ s,OS L s->∃ v t,Q9 s=some (v,t)/\OS L t/\vOK v=true/\j9 v+8<=hb (h+1):=fun s hs=>by
  obtain ⟨v,t,e,ht,h1,h2⟩:=b5S hL hs
  exact ⟨v,t,e,ht,h1,by omega⟩
 obtain ⟨c,t,e,ht,_,_⟩:=Y6 hL hs (n:=6) (by omega) (by omega)
 unfold W4
 have e0:decide ((h:Int)+2<=1)=false:=by simp; omega
 rw [e0,e]
 simp only [Option.bind_some,cond_false,Y1,w1,w2]
 cases c==1
 ·simp only [cond_false,Option.bind_some,onEnd]
  cases c==2
  ·simp only [cond_false,Option.bind_some,onEnd]
   cases c==3
   ·simp only [cond_false,Option.bind_some,onEnd]
    cases c==4
    ·simp only [cond_false,Option.bind_some,onEnd]
     obtain ⟨v,t2,e2,h2⟩:=lf t ht
     rw [e2]
     exact ⟨v,t2,rfl,h2⟩
    ·simp only [cond_true,Option.bind_some,onEnd]
     obtain ⟨x,t2,e2,ht2,x0,x1⟩:=Y6 hL ht (n:=3) (by omega) (by omega)
     obtain ⟨y,t3,e3,ht3,y0,y1⟩:=Y6 hL ht2 (n:=3) (by omega) (by omega)
     obtain ⟨n,rfl,hn⟩:=b3U x0 x1
     obtain ⟨m,rfl,hm⟩:=b3U y0 y1
     rw [e2]
     simp only [Option.bind_some]
     rw [e3]
     simp only [Option.bind_some]
     have hnb:n*hb h<=2*hb h:=Nat.mul_le_mul_right _ (by omega)
     obtain ⟨g,s1,e4,hs1,i1,i2,i3,i4⟩:=a7l (L:=L) (step:=a11 ((h:Int)+2) ((n:Int),t2) re) (fun (g:List Ent) (m:Int) (s:Semtypebase_Source)=>(g,m,s)) (fun (g:List Ent) (s:Semtypebase_Source)=>(g,s)) (fun j g=>g.length=j/\a43 g=true/\g.all (a3h (n:Int))=true/\w9 g<=j*(3*hb h+3)) 4
      (by
        intro j m g s hj hm ⟨i1,i2,i3,i4⟩ hs
        obtain ⟨v,t,e,ht,k1,k2,k3⟩:=he n (by omega) s hs
        refine ⟨g++[v],t,?_,ht,by simp [i1],by rw [a8t,List.all_append,<- a8t,i2]; simp [k1],by rw [List.all_append,i3]; simp [k2],?_⟩
        ·unfold a11
         simp only [V8,Y1]
         rw [if_pos (decide_eq_true (by omega)),w1,e]
         simp only [Option.bind_some]
         rw [b3W _ (by simp; omega) _ (by omega),wn m (by omega)]
         rfl
        ·rw [b1P]
         simp only [w9,Nat.add_mul]
         omega)
      (by
        intro g s
        unfold a11
        simp) m 0 (m+2) [] t3 (by omega) (by omega) ⟨rfl,rfl,rfl,by simp [w9]⟩ ht3
     simp only [Option.bind_some,Int.toNat_natCast]
     rw [e4]
     simp only [Option.bind_some]
     rw [Nat.zero_add] at i1 i4
     have hmb:m*(3*hb h+3)<=2*(3*hb h+3):=Nat.mul_le_mul_right _ (by omega)
     rw [b3Q fuel (n:Int) g (by omega) (by omega),if_pos ⟨by omega,by omega,i3⟩]
     simp only [Option.bind_some]
     simp only [show ((0:Int)==0)=true from rfl,cond_true,Option.bind_some,onEnd]
     refine ⟨b8i (n:Int) (g.foldl a4o []),s1,rfl,hs1,?_,?_⟩
     ·rw [d2L]
      have a1:(g.foldl a4o []).all (a3h (n:Int))=true:=List.all_eq_true.2 fun y hy=>by
       rcases b09 g [] hy with hy | hy
       ·simp at hy
       ·exact List.all_eq_true.1 i3 y hy
      have a2:a43 (g.foldl a4o [])=true:=by
       rw [a8t]
       rw [a8t] at i2
       exact List.all_eq_true.2 fun y hy=>by
        rcases b09 g [] hy with hy | hy
        ·simp at hy
        ·exact List.all_eq_true.1 i2 y hy
      rw [a2]
      simp only [b1L,b8i,Val.Int_,Val.Entries]
      rw [a1,b7v g [] rfl]
      simp only [Bool.and_true,Bool.and_eq_true]
      exact ⟨decide_eq_true (by omega),decide_eq_true (by omega)⟩
     ·have:=a9T g []
      simp only [b8i,K8,a2H,k7,v8]
      simp only [w9] at this
      omega
   ·simp only [cond_true,Option.bind_some,onEnd]
    obtain ⟨y,t3,e3,ht3,y0,y1⟩:=Y6 hL ht (n:=3) (by omega) (by omega)
    obtain ⟨m,rfl,hm⟩:=b3U y0 y1
    rw [e3]
    simp only [Option.bind_some]
    obtain ⟨g,s1,e4,hs1,i1,i2,i3,i4,i5,i6⟩:=a7l (L:=L) (step:=a10 ((h:Int)+2) rv) (fun (g:List Key×List Val) (m:Int) (s:Semtypebase_Source)=>(g.1,g.2,m,s)) (fun (g:List Key×List Val) (s:Semtypebase_Source)=>(g.1,g.2,s)) (fun j g=>g.1.length=j/\g.2.length=j/\g.1.all a0U=true/\a1G g.2=true/\k7 g.2<=j*hb h/\v8 g.1<=j*8) 4
     (by
       intro j m g s hj hm ⟨i1,i2,i3,i4,i5,i6⟩ hs
       obtain ⟨k,t,e,ht,k1,k2⟩:=d2B hL hs
       obtain ⟨v,t2,e2,ht2,l1,l2⟩:=hv t ht
       refine ⟨(g.1++[k],g.2++[v]),t2,?_,ht2,by simp [i1],by simp [i2],by rw [List.all_append,i3]; simp [k1],by rw [b68,i4]; simp [a1G,l1],?_,?_⟩
       ·unfold a10
        simp only [V8,Y1]
        rw [if_pos (decide_eq_true (by omega)),e,w1]
        simp only [Option.bind_some]
        rw [b3W _ (by simp; omega) _ (by omega),e2]
        simp only [Option.bind_some]
        rw [b3W _ (by simp; omega) _ (by omega),wn m (by omega)]
        rfl
       ·rw [a1H]
        simp only [k7,Nat.add_mul]
        omega
       ·rw [a7c]
        simp only [v8,Nat.add_mul]
        omega)
     (by
       intro g s
       unfold a10
       simp) m 0 (m+2) ([],[]) t3 (by omega) (by omega) ⟨rfl,rfl,rfl,rfl,by simp [k7],by simp [v8]⟩ ht3
    simp only [Int.toNat_natCast]
    rw [e4]
    simp only [Option.bind_some]
    rw [Nat.zero_add] at i1 i2 i5 i6
    have hmb:m*hb h<=2*hb h:=Nat.mul_le_mul_right _ (by omega)
    rw [c1P g.1 g.2 (by omega),if_pos ⟨by omega,i3⟩]
    simp only [Option.bind_some]
    cases hx:a6E (g.1.zip g.2) ([],[]) with
    | none =>
      simp only [show ((6:Int)==0)=false from rfl,cond_false,Option.bind_some,onEnd]
      obtain ⟨v,t2,e2,h2⟩:=lf _ hs1
      rw [e2]
      exact ⟨v,t2,rfl,h2⟩
    | some u =>
      simp only
      simp only [show ((0:Int)==0)=true from rfl,cond_true,Option.bind_some,onEnd]
      obtain ⟨m1,m2,m3,m4,m5,m6⟩:=b2R _ _ _ hx rfl rfl
      have hz:=b8r g.1 g.2
      simp only [k7,v8] at m6
      refine ⟨b4z u,s1,rfl,hs1,?_,?_⟩
      ·rw [d2q]
       have a1:u.2.all a0U=true:=List.all_eq_true.2 fun y hy=>by
        rcases m4 y hy with hy | ⟨x,hx,rfl⟩
        ·simp at hy
        ·exact List.all_eq_true.1 i3 _ (List.of_mem_zip hx).1
       have a2:a1G u.1=true:=by
        rw [a4F]
        rw [a4F] at i4
        exact List.all_eq_true.2 fun y hy=>by
         rcases m5 y hy with hy | ⟨x,hx,rfl⟩
         ·simp at hy
         ·exact List.all_eq_true.1 i4 _ (List.of_mem_zip hx).2
       rw [a2]
       simp only [a9B,b4z,Val.Keys,Val.Kids]
       rw [a1,m1,m2]
       simp
      ·simp only [b4z,K8,a2H,w9]
       omega
  ·simp only [cond_true,Option.bind_some,onEnd]
   have fin:∀ (tl v:Val),vOK tl=true->(tl.Kind=5\/tl.Kind=7)->j9 tl<=24+hb h->c44 (hb h) v ->
    vOK (Val.mk 7 0 (⟨#[]⟩) [v,tl] [] [] [])=true/\j9 (Val.mk 7 0 (⟨#[]⟩) [v,tl] [] [] [])+8<=hb (h+1):=by
    intro tl v ho hk hbt ⟨k1,k2⟩
    refine ⟨?_,?_⟩
    ·rw [c5J,k1,ho]
     rcases hk with hk | hk<;>simp [hk]
    ·rw [K8]
     simp only [a2H,k7,v8,w9]
     omega
   have nilB:j9 (Val.mk 5 0 (⟨#[]⟩) [] [] [] [])=8:=by rw [K8]; rfl
   unfold V9 a4J
   simp only [Option.bind_some]
   by_cases h2:1<=h
   ·have e5:decide (2<(h:Int)+2)=true:=by simp; omega
    obtain ⟨x,t2,e2,ht2,_,_⟩:=Y6 hL ht (n:=2) (by omega) (by omega)
    rw [e5,e2]
    simp only [Option.bind_some,cond_true]
    cases x==1
    ·simp only [Option.bind_some,cond_false]
     obtain ⟨l,t3,e3,ht3,l1,l2⟩:=b1V hL ht2
     rw [e3]
     simp only [Option.bind_some]
     obtain ⟨v,t5,e5,ht5,k5⟩:=hv t3 ht3
     rw [e5]
     exact ⟨_,t5,rfl,ht5,fin (a7G (Val.mk 5 0 (⟨#[]⟩) [] [] [] []) l) v (b0v b9G l1) (.inl rfl) (by have:=a7j (Val.mk 5 0 (⟨#[]⟩) [] [] [] []) l; omega) k5⟩
    ·simp only [Option.bind_some,cond_true]
     obtain ⟨v,t3,e3,ht3,k1,k2⟩:=hv2 h2 t2 ht2
     rw [e3]
     simp only [Option.bind_some]
     obtain ⟨l,t4,e4,ht4,l1,l2⟩:=b1V hL ht3
     have ho:vOK (Val.mk 7 0 (⟨#[]⟩) [v,Val.mk 5 0 (⟨#[]⟩) [] [] [] []] [] [] [])=true:=by rw [c5J,k1,b9G]; rfl
     have hbb:j9 (Val.mk 7 0 (⟨#[]⟩) [v,Val.mk 5 0 (⟨#[]⟩) [] [] [] []] [] [] [])<=16+hb h:=by
      rw [K8]
      simp only [a2H,k7,v8,w9,nilB]
      omega
     rw [e4]
     simp only [Option.bind_some]
     obtain ⟨v5,t5,e5,ht5,k5⟩:=hv t4 ht4
     rw [e5]
     exact ⟨_,t5,rfl,ht5,fin (a7G (Val.mk 7 0 (⟨#[]⟩) [v,Val.mk 5 0 (⟨#[]⟩) [] [] [] []] [] [] []) l) v5 (b0v ho l1) (.inr rfl) (by have:=a7j (Val.mk 7 0 (⟨#[]⟩) [v,Val.mk 5 0 (⟨#[]⟩) [] [] [] []] [] [] []) l; omega) k5⟩
   ·have e5:decide (2<(h:Int)+2)=false:=by simp; omega
    rw [e5]
    simp only [Option.bind_some,cond_false]
    obtain ⟨l,t3,e3,ht3,l1,l2⟩:=b1V hL ht
    rw [e3]
    simp only [Option.bind_some]
    obtain ⟨v,t5,e5,ht5,k5⟩:=hv t3 ht3
    rw [e5]
    exact ⟨_,t5,rfl,ht5,fin (a7G (Val.mk 5 0 (⟨#[]⟩) [] [] [] []) l) v (b0v b9G l1) (.inl rfl) (by have:=a7j (Val.mk 5 0 (⟨#[]⟩) [] [] [] []) l; omega) k5⟩
 ·simp only [cond_true,Option.bind_some,onEnd]
  obtain ⟨y,t3,e3,ht3,y0,y1⟩:=Y6 hL ht (n:=4) (by omega) (by omega)
  obtain ⟨m,rfl,hm⟩:=b3U y0 y1
  rw [e3]
  simp only [Option.bind_some]
  obtain ⟨g,s1,e4,hs1,i1,i2,i3⟩:=a7l (L:=L) (step:=a1X ((h:Int)+2) rv) (fun (g:List Val) (m:Int) (s:Semtypebase_Source)=>(g,m,s)) (fun (g:List Val) (s:Semtypebase_Source)=>(g,s)) (fun j g=>g.length=j/\a1G g=true/\k7 g<=j*hb h) 4
   (by
     intro j m g s hj hm ⟨i1,i2,i3⟩ hs
     obtain ⟨v,t,e,ht,k1,k2⟩:=hv s hs
     refine ⟨g++[v],t,?_,ht,by simp [i1],by rw [b68,i2]; simp [a1G,k1],?_⟩
     ·unfold a1X
      simp only [V8,Y1]
      rw [if_pos (decide_eq_true (by omega)),w1,e]
      simp only [Option.bind_some]
      rw [b3W _ (by simp; omega) _ (by omega),wn m (by omega)]
      rfl
     ·rw [a1H]
      simp only [k7,Nat.add_mul]
      omega)
   (by
     intro g s
     unfold a1X
     simp) m 0 (m+2) [] t3 (by omega) (by omega) ⟨rfl,rfl,by simp [k7]⟩ ht3
  simp only [Int.toNat_natCast]
  rw [e4]
  simp only [Option.bind_some]
  rw [Nat.zero_add] at i1 i3
  have hmb:m*hb h<=3*hb h:=Nat.mul_le_mul_right _ (by omega)
  unfold a1V a1u
  rw [b3W _ (by simp; omega) _ (by omega)]
  refine ⟨Val.mk 6 0 (⟨#[]⟩) g [] [] [],s1,rfl,hs1,?_,?_⟩
  ·rw [c3G,i2]
   simp
   omega
  ·rw [K8]
   simp only [a2H,v8,w9]
   omega
theorem d2N (hL:L.length<=4194304):∀ (h k:Nat),h<=3->50000+3*h<=k->∀ s,OS L s->∃ v t,(y9 k).1 s ((h:Int)+1)=some (v,t)/\OS L t/\c44 (hb h) v:=by
 intro h
 induction h using Nat.strongRecOn with
 | ind h ih =>
   intro k hh hk s hs
   obtain ⟨k,rfl⟩:∃ m,k=m+2:=⟨k-2,by omega⟩
   have key:∃ v t,(y9 (k+1)).2.1 s ((h:Int)+1)=some (v,t)/\OS L t/\vOK v=true/\j9 v+8<=hb h:=by
    show ∃ v t,W4 k (y9 k).1 (y9 k).2.1 (y9 k).2.2 s ((h:Int)+1)=some (v,t)/\_
    cases h with
    | zero =>
      obtain ⟨v,t,e,ht,h1,h2⟩:=b5S hL hs
      refine ⟨v,t,?_,ht,h1,by simp only [hb]; omega⟩
      unfold W4
      have e0:decide (((0:Nat):Int)+1<=1)=true:=rfl
      rw [e0,e]
      rfl
    | succ h =>
      have:=c80 hL (h:=h) (by omega) (rv:=(y9 k).1) (re:=(y9 k).2.2) (fun s hs=>ih h (by omega) k (by omega) (by omega) s hs)
       (fun h1 s hs=>by
         obtain ⟨h,rfl⟩:∃ m,h=m+1:=⟨h-1,by omega⟩
         obtain ⟨v,t,e,ht,k1,k2⟩:=ih h (by omega) k (by omega) (by omega) s hs
         exact ⟨v,t,e,ht,k1,by simp only [hb]; omega⟩)
       (fun n hn s hs=>by
         obtain ⟨p,rfl⟩:∃ m,k=m+1:=⟨k-1,by omega⟩
         have hb1:=d1T (show h<=2 by omega)
         have hb2:=c82 h
         exact c8z hL (rv:=(y9 p).1) (b:=hb h) (fun s hs=>ih h (by omega) p (by omega) (by omega) s hs) (by omega) (by omega) (y9 p).2.1 (y9 p).2.2 p hn hs)
       (y9 k).2.1 (fuel:=k) (by omega) hs
      rw [show (((h+1:Nat):Int))+1=(h:Int)+2 by omega]
      exact this
   obtain ⟨v,t,e,ht,h1,h2⟩:=key
   obtain ⟨l,t2,e2,ht2,l1,l2⟩:=b1V hL ht
   show ∃ v t,a02 (k+1) (y9 (k+1)).1 (y9 (k+1)).2.1 (y9 (k+1)).2.2 s ((h:Int)+1)=some (v,t)/\_
   unfold a02
   rw [e]
   simp only [Option.bind_some]
   rw [e2]
   have:=a7j v l
   exact ⟨a7G v l,t2,rfl,ht2,b0v h1 l1,by omega⟩
end
end Go.Pl
end
section
namespace Go.Pl
open Go Go.RowKit Go.Sx Go.Qx
def b5b {α:Type}(c:α->α->Int)(q:α->Bool)(l:List α)(i:Nat):Bool :=
 match l[i]? with
 | some x=>q x&&(match i with
   | 0=>true
   | j+1=>match l[j]? with
     | some y=>decide (c y x<0)
     | none=>true)
 | none=>true
theorem c4w {α:Type}(c:α->α->Int)(q:α->Bool)(l:List α):(List.range l.length).all (b5b c q l)=(asc c l&&l.all q):=by
 rw [Bool.eq_iff_iff,Bool.and_eq_true,b5u,List.all_eq_true,List.all_eq_true]
 constructor
 ·intro h
  refine ⟨fun i h1 hi=>?_,fun x hx=>?_⟩
  ·obtain ⟨j,rfl⟩:∃ m,i=m+1:=⟨i-1,by omega⟩
   have:=h (j+1) (by simpa using hi)
   unfold b5b at this
   rw [List.getElem?_eq_getElem hi] at this
   simp only [Bool.and_eq_true] at this
   have h2:=this.2
   rw [List.getElem?_eq_getElem (show j<l.length by omega)] at h2
   simpa using h2
  ·obtain ⟨i,hi,rfl⟩:=List.getElem_of_mem hx
   have:=h i (by simpa using hi)
   unfold b5b at this
   rw [List.getElem?_eq_getElem hi] at this
   simp only [Bool.and_eq_true] at this
   exact this.1
 ·intro ⟨h1,h2⟩ i hi
  have hi:i<l.length:=by simpa using hi
  unfold b5b
  rw [List.getElem?_eq_getElem hi]
  simp only [Bool.and_eq_true]
  refine ⟨h2 _ (List.getElem_mem hi),?_⟩
  cases i with
  | zero=>rfl
  | succ j =>
    simp only
    rw [List.getElem?_eq_getElem (show j<l.length by omega)]
    have:=h1 (j+1) (by omega) hi
    simpa using this
theorem b9k {α β:Type}{step:Int->Option (Fl Int (Sum Unit β))}(c:α->α->Int)(q:α->Bool)(l:List α)(b:β)
 (hst:∀ (i:Nat) (x:α),l[i]?=some x->step (i:Int)=some (if b5b c q l i=true then .next ((i+1:Nat):Int) else .done (.inr b)))
 (hend:step (l.length:Int)=some (.done (.inl ()))):iter step (l.length+1) 0=some (if (asc c l&&l.all q)=true then .inl () else .inr b):=by
 have:=a0P (step:=step) (List.range l.length) (b5b c q l) (fun i=>(i:Int)) () b (fun i x hx=>by
  have hi:i<l.length:=by have:=(List.getElem?_eq_some_iff.1 hx).1; simpa using this
  have e:x=i:=by
   rw [List.getElem?_range hi] at hx
   cases hx; rfl
  subst e
  exact hst x _ (List.getElem?_eq_getElem hi)) (by rw [List.length_range]; exact hend)
 rw [List.length_range,c4w] at this
 exact this
theorem b9t {α:Type}(c:α->α->Int)(q:α->Bool)(l:List α)(i:Nat)(x:α)(hx:l[i]?=some x)(hl:l.length<=4194304){o:Option (Fl Int (Sum Unit Bool))}
 (h0:q x=false->o=some (.done (.inr false)))
 (h1:q x=true->i=0->o=some (.next (w64 ((i:Int)+1))))
 (h2:q x=true->∀ j y,i=j+1->l[j]?=some y->idx l (w64 ((i:Int)-1))=some y->o=some (if c y x<0 then .next (w64 ((i:Int)+1)) else .done (.inr false))) :
 o=some (if b5b c q l i=true then .next ((i+1:Nat):Int) else .done (.inr false)):=by
 have hi:i<l.length:=(List.getElem?_eq_some_iff.1 hx).1
 have hw:=k8 i (by omega)
 unfold b5b
 rw [hx]
 cases hq:q x
 ·rw [h0 hq]; simp [hq]
 ·cases i with
  | zero=>rw [h1 hq rfl,hw]; simp [hq]
  | succ j =>
    have hy:=List.getElem?_eq_getElem (show j<l.length by omega)
    have hj:w64 (((j+1:Nat):Int)-1)=(j:Int):=by rw [Q8 (by omega) (by omega)]; omega
    rw [h2 hq j _ rfl hy (by rw [hj]; exact j5 hy),hw]
    simp only [hy]
    by_cases hc:c l[j] x<0<;>simp [hq,hc]
theorem c8J (a b:ByteArray):a2g a b=decide (cS a b<0):=by
 rcases a8N a b with ⟨h,_,e⟩ | ⟨h,_,e⟩ | ⟨h,_,e⟩<;>simp [h,e]
theorem c72 (i:Nat):decide (0<(((i+1:Nat)):Int))=true:=decide_eq_true (by omega)
theorem c6d (l:List Val):(bif ((l.length:Int)==2) then Option.bind (idx l 1) fun x=>Option.bind (bif (x.Kind==5) then some true else Option.bind (idx l 1) fun y=>some (y.Kind==7)) fun q=>some q else some false)=some (b0K l):=by
 unfold b0K
 match l with
 | []=>rfl
 | [_]=>rfl
 | [x,t] =>
   have e2:((([x,t]:List Val).length:Int)==2)=true:=rfl
   rw [e2]
   have:idx [x,t] 1=some t:=rfl
   simp only [cond_true,this,Option.bind_some]
   cases t.Kind==5<;>rfl
 | _::_::_::r =>
   rename_i a b c
   have:((((a::b::c::r:List Val)).length:Int)==2)=false:=by simp; omega
   rw [this]; rfl
theorem c6f (fuel:Nat)(v:Val)(hf:2*j9 v<=fuel+2)(hb:j9 v<=4194304):a6v fuel v=some (a18 v):=by
 have he:=a1y v
 have hs:=a4H v.Labels
 have hk:=a56 v.Keys
 have hn:=a3w v.Entries
 have l1:iter (a4X v) (v.Labels.length+1) 0=some (if (asc cS v.Labels&&v.Labels.all a6j)=true then .inl () else .inr false):=by
  refine b9k cS a6j v.Labels false ?_ ?_
  ·intro i x hx
   have hi:i<v.Labels.length:=(List.getElem?_eq_some_iff.1 hx).1
   unfold a4X
   simp only [V8,Y1]
   rw [if_pos (by simp; omega),j5 hx]
   simp only [Option.bind_some,c1D]
   refine b9t cS a6j v.Labels i x hx (by omega) (fun h=>by rw [h]; rfl) (fun h h0=>by subst h0; rw [h]; rfl) (fun h j y hj hy hiy=>?_)
   subst hj
   rw [h,hiy,c72]
   simp only [Bool.not_true,Bool.false_eq_true,if_false,if_true,Option.bind_some]
   rw [c8J]
   by_cases hc:cS y x<0<;>simp [hc]
  ·unfold a4X
   simp
 have l2:iter (a4V v) (v.Keys.length+1) 0=some (if (asc cK v.Keys&&v.Keys.all a0U)=true then .inl () else .inr false):=by
  refine b9k cK a0U v.Keys false ?_ ?_
  ·intro i x hx
   have hi:i<v.Keys.length:=(List.getElem?_eq_some_iff.1 hx).1
   unfold a4V
   simp only [V8,Y1]
   rw [if_pos (by simp; omega),j5 hx]
   simp only [Option.bind_some,c1L]
   refine b9t cK a0U v.Keys i x hx (by omega) (fun h=>by rw [h]; rfl) (fun h h0=>by subst h0; rw [h]; rfl) (fun h j y hj hy hiy=>?_)
   subst hj
   rw [h,hiy,c72]
   simp only [Bool.not_true,Bool.false_eq_true,if_false,if_true,Option.bind_some,b4c]
   by_cases hc:cK y x<0
   ·have:¬ 0<=cK y x:=by omega
    simp [hc,this]
   ·have:0<=cK y x:=by omega
    simp [hc,this]
  ·unfold a4V
   simp
 have l3:iter (a4S v fuel) (v.Entries.length+1) 0=some (if (asc cE v.Entries&&v.Entries.all (a3h v.Int_))=true then .inl () else .inr false):=by
  refine b9k cE (a3h v.Int_) v.Entries false ?_ ?_
  ·intro i x hx
   have hi:i<v.Entries.length:=(List.getElem?_eq_some_iff.1 hx).1
   have hm:=X6 (List.mem_of_getElem? hx)
   have hbe:=a1v x
   unfold a4S a33
   simp only [V8,Y1]
   rw [if_pos (by simp; omega),j5 hx]
   simp only [Option.bind_some]
   rw [show Val.mk 0 0 (⟨#[]⟩:ByteArray) ([]:List Val) ([]:List Key) ([]:List Ent) ([]:List ByteArray)=a61 from rfl,(a5I fuel).1 x.Result a61 (by omega) (by omega)]
   simp only [Option.bind_some]
   have hq:(Option.bind (if ((x.Args.length:Int) != v.Int_)=true then some true else Option.bind (if x.Fails=true then some (!(cV x.Result a61==0)) else some false) fun q=>some q) fun q=>some q)=some (!(a3h v.Int_ x)):=by
    unfold a3h
    have e0:((x.Args.length:Int) != v.Int_)=!((x.Args.length:Int)==v.Int_):=rfl
    rw [e0]
    cases ((x.Args.length:Int)==v.Int_)<;>cases x.Fails<;>cases (cV x.Result a61==0)<;>rfl
   rw [V2] at hq
   simp only [V2] at hq ⊢
   rw [hq]
   simp only [Option.bind_some]
   refine b9t cE (a3h v.Int_) v.Entries i x hx (by omega) (fun h=>by rw [h]; rfl) (fun h h0=>by subst h0; rw [h]; rfl) (fun h j y hj hy hiy=>?_)
   subst hj
   have hmy:=X6 (List.mem_of_getElem? hy)
   have hc:Y4 fuel y x=some (cE y x):=(a5I fuel).2.2 y x (by omega) (by omega)
   rw [h,hiy,c72]
   simp only [Bool.not_true,Bool.false_eq_true,if_false,if_true,Option.bind_some,hc]
   by_cases hc:cE y x<0
   ·have:¬ 0<=cE y x:=by omega
    simp [hc,this]
   ·have:0<=cE y x:=by omega
    simp [hc,this]
  ·unfold a4S
   simp
 unfold a6v
 simp only [Y2,V2]
 rw [l1,l2,l3,c0m]
 have hcons:=c6d v.Kids
 simp only [V2] at hcons
 rw [hcons]
 simp only [Option.bind_some,c3n]
 unfold a18 a1c
 cases hlab:(asc cS v.Labels&&v.Labels.all a6j)
 ·rfl
 have h6:decide ((v.Kids.length:Int)<=4)=decide (v.Kids.length<=4):=by
  by_cases h:v.Kids.length<=4
  ·simp [h]; omega
  ·simp [h]; omega
 have hm:a9B v=(decide (v.Keys.length=v.Kids.length)&&(asc cK v.Keys&&v.Keys.all a0U)):=by
  unfold a9B
  by_cases h:v.Keys.length=v.Kids.length<;>simp [h]
 have hm2:((v.Keys.length:Int)==(v.Kids.length:Int))=decide (v.Keys.length=v.Kids.length):=by
  by_cases h:v.Keys.length=v.Kids.length
  ·simp [h]
  ·simp [h]; omega
 have hfu:b1L v=(!decide (v.Int_<0)&&!decide (4<v.Int_)&&(asc cE v.Entries&&v.Entries.all (a3h v.Int_))):=by
  unfold b1L
  by_cases h1:v.Int_<0<;>by_cases h2:4<v.Int_
  ·omega
  ·have:¬ 0<=v.Int_:=by omega
   simp [h1,this]
  ·have:¬ v.Int_<=4:=by omega
   simp [h2,this]
  ·have a:0<=v.Int_:=by omega
   have b:v.Int_<=4:=by omega
   simp [h1,h2,a,b]
 have hi:(v.Int_ != 0)=!(v.Int_==0):=rfl
 rw [hm2,hi,h6]
 simp only [onEnd,if_true]
 unfold a3U a36
 rw [hm,hfu]
 generalize (asc cE v.Entries&&v.Entries.all (a3h v.Int_))=f
 generalize (asc cK v.Keys&&v.Keys.all a0U)=k
 generalize decide (v.Keys.length=v.Kids.length)=m
 generalize decide (v.Int_<0)=p
 generalize decide (4<v.Int_)=r
 generalize Y0 v.Text ⟨#[]⟩=t
 generalize v.Keys.isEmpty=y
 generalize v.Entries.isEmpty=e
 generalize v.Kids.isEmpty=d
 generalize (v.Int_==0)=i
 generalize a5k v.Text=a
 generalize decide ((v.Text.size:Int)<=64)=z
 generalize b0K v.Kids=c
 generalize decide (0<=v.Int_)=g
 generalize decide (v.Kids.length<=4)=n
 by_cases hk:v.Kind=1\/v.Kind=2\/v.Kind=3\/v.Kind=4\/v.Kind=5\/v.Kind=6\/v.Kind=7\/v.Kind=8\/v.Kind=9
 ·rcases hk with h | h | h | h | h | h | h | h | h<;>rw [h]<;>cases i<;>cases t<;>cases d<;>cases y<;>cases e<;>simp
  all_goals first
   | rfl
   | (cases k<;>cases m<;>simp)
   | (cases p<;>cases r<;>cases f<;>simp)
 ·simp only [not_or] at hk
  obtain ⟨h1,h2,h3,h4,h5,h6',h7,h8,h9⟩:=hk
  have e1:(v.Kind==1)=false:=by simpa using h1
  have e2:(v.Kind==2)=false:=by simpa using h2
  have e3:(v.Kind==3)=false:=by simpa using h3
  have e4:(v.Kind==4)=false:=by simpa using h4
  have e5:(v.Kind==5)=false:=by simpa using h5
  have e6:(v.Kind==6)=false:=by simpa using h6'
  have e7:(v.Kind==7)=false:=by simpa using h7
  have e8:(v.Kind==8)=false:=by simpa using h8
  have e9:(v.Kind==9)=false:=by simpa using h9
  simp only [bne,e1,e2,e3,e4,e5,e6,e7,e8,e9,if_neg h1,if_neg h2,if_neg h3,if_neg h4,if_neg h5,if_neg h6',if_neg h7,if_neg h8,if_neg h9]
  cases i<;>cases t<;>cases d<;>cases y<;>cases e<;>rfl
theorem b81:∀ (k:Nat) (v:Val),2*j9 v<=k->j9 v<=4194304->a0s k v=some (vOK v)
 | 0,v,h,_=>by have:=a8J v; omega
 | k+1,v,h,hb=>by
   have he:=a1y v
   have hv:=a2L v.Kids
   have hn:=a3w v.Entries
   have hrec:∀ x,j9 x<j9 v->a0s k x=some (vOK x):=fun x hx=>b81 k x (by omega) (by omega)
   show a6R k (a0s k) v=_
   unfold a6R
   rw [c6f k v (by omega) hb,b8N,a4F,a8t]
   simp only [Option.bind_some,Y2]
   have l1:iter (a4p v (a0s k)) (v.Kids.length+1) 0=some (if v.Kids.all vOK=true then .inl () else .inr false):=by
    refine a0P v.Kids vOK (fun i=>(i:Int)) () false ?_ ?_
    ·intro i x hx
     have hi:i<v.Kids.length:=(List.getElem?_eq_some_iff.1 hx).1
     have hm:=a1j (List.mem_of_getElem? hx)
     unfold a4p
     simp only [Y1]
     rw [show decide ((i:Int)<(v.Kids.length:Int))=true by simp; omega,j5 hx]
     simp only [cond_true,Option.bind_some]
     rw [hrec x (by omega),k8 i (by omega)]
     exact a6K _ _
    ·unfold a4p
     simp
   have l2:iter (a4r v (a0s k)) (v.Entries.length+1) 0=some (if v.Entries.all eOK=true then .inl () else .inr false):=by
    refine a0P v.Entries eOK (fun i=>(i:Int)) () false ?_ ?_
    ·intro i x hx
     have hi:i<v.Entries.length:=(List.getElem?_eq_some_iff.1 hx).1
     have hm:=X6 (List.mem_of_getElem? hx)
     have hbe:=a1v x
     have hal:=a2L x.Args
     unfold a4r
     simp only [Y1,Y2]
     rw [show decide ((i:Int)<(v.Entries.length:Int))=true by simp; omega,j5 hx]
     simp only [cond_true,Option.bind_some]
     have l3:iter (a4l (a0s k) x) (x.Args.length+1) 0=some (if x.Args.all vOK=true then .inl () else .inr false):=by
      refine a0P x.Args vOK (fun i=>(i:Int)) () false ?_ ?_
      ·intro j y hy
       have hj:j<x.Args.length:=(List.getElem?_eq_some_iff.1 hy).1
       have hmy:=a1j (List.mem_of_getElem? hy)
       unfold a4l
       simp only [Y1]
       rw [show decide ((j:Int)<(x.Args.length:Int))=true by simp; omega,j5 hy]
       simp only [cond_true,Option.bind_some]
       rw [hrec y (by omega),k8 j (by omega)]
       exact a6K _ _
      ·unfold a4l
       simp
     rw [l3,hrec x.Result (by omega),b5Q,a4F,k8 i (by omega)]
     simp only [Option.bind_some]
     cases x.Args.all vOK<;>cases x.Fails<;>cases vOK x.Result<;>rfl
    ·unfold a4r
     simp
   rw [l1,l2]
   cases a18 v<;>cases v.Kids.all vOK<;>cases v.Entries.all eOK<;>rfl
end Go.Pl
end

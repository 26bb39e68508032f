/- Part 3. -/
import Derived.Test.YtmcfcgaiecgdhaaGreatK2
import Derived.KernelRfl
import Derived.Lib.Bytealg
section
namespace Go.Qx
open Go Go.RowKit Go.Sx
set_option maxRecDepth 100000
structure Api_Field where
 Key_:Key
 Node:Int
 Optional:Bool
structure Api_TypeNode where
 Kind:Int
 Lo:Int
 Hi:Int
 Text:ByteArray
 Kids:List Int
 Fields:List Api_Field
 Rest:Int×Int
structure Api_Type where
 Nodes:List Api_TypeNode
 Root:Int
structure Api_Names where
 Cofinite:Bool
 List_:List ByteArray
structure Api_Range where
 Lo:Int
 Hi:Int
structure Api_Line where
 Kind:Int
 Arity:Int
 Ints:List Api_Range
 Names:Api_Names
 Pos:List Int
 Neg:List Int
 Vars:List ByteArray
 NotVars:List ByteArray
structure Semtypebase_Source where
 L:List Int
 At:Int
structure Api_Goal where
 Pos:List Int
 Neg:List Int
 Lists:Bool
structure Api_SomeKey where
 Kind:Int
 Goal:Api_Goal
structure Api_Shape where
 Keys:List Key
 States:List Int
 Parts:List Api_Goal
 Rest:Api_Goal×Api_Goal
 Some:List Api_SomeKey
structure Record_place where
 key:Int
 absent:Bool
 kind:Int
structure Value_used where
 number:Bool
 text_:Bool
 kids:Bool
 keys:Bool
 entries:Bool
def b2n (x y:Int×Int):Bool:=((x.1==y.1)&&((x.2==y.2)&&true))
def a3B (x y:Key):Bool:=((x.Kind==y.Kind)&&((Y6 x.Text y.Text)&&true))
def a2o (l:List (List Int))(x1:Int):Option (Fl Int (Sum Unit Bool)) :=
 bif decide (x1<(l.length:Int))
 then (Option.bind (idx l x1) fun e2 =>
 bif decide (80<(e2.length:Int))
 then (some (.done (.inr false)))
 else (some (.next (wr .i64 (x1+1)))))
 else (some (.done (.inl ())))
def a5v (l:List (List Int)):Option Bool :=
 Option.bind (z7 (a2o l) ((l.length:Int).toNat+1) 0) fun b3 =>
 j9 (fun _ =>
 some true) (fun y5 =>
 some y5) b3
def a5B (d:Api_TypeNode):Option Bool :=
 Option.bind (bif d.Kind==3
 then (some (true,false,false,false))
 else (Option.bind (bif d.Kind==4
 then (some (d.Kind==4))
 else (bif d.Kind==6
 then (some (d.Kind==6))
 else (some (d.Kind==19)))) fun b1 =>
 bif b1
 then (some (false,true,false,false))
 else (Option.bind (bif d.Kind==10
 then (some (d.Kind==10))
 else (bif d.Kind==12
 then (some (d.Kind==12))
 else (bif d.Kind==14
 then (some (d.Kind==14))
 else (bif d.Kind==16
 then (some (d.Kind==16))
 else (bif d.Kind==17
 then (some (d.Kind==17))
 else (some (d.Kind==18))))))) fun b2 =>
 bif b2
 then (some (false,false,true,false))
 else (bif d.Kind==13
 then (some (false,false,false,true))
 else (some (false,false,false,false)))))) fun b3 =>
 Option.bind (bif b3.1
 then (some true)
 else (Option.bind (bif d.Lo==0
 then (some (d.Hi==0))
 else (some false)) fun q4 =>
 some q4)) fun q5 =>
 Option.bind (bif q5
 then (Option.bind (bif b3.2.1
 then (some true)
 else (some (Y6 d.Text (⟨#[]⟩:ByteArray)))) fun q6 =>
 some q6)
 else (some false)) fun q7 =>
 Option.bind (bif q7
 then (Option.bind (bif b3.2.2.1
 then (some true)
 else (some ((d.Kids.length:Int)==0))) fun q8 =>
 some q8)
 else (some false)) fun q9 =>
 Option.bind (bif q9
 then (Option.bind (bif b3.2.2.2
 then (some true)
 else (Option.bind (bif (d.Fields.length:Int)==0
 then (some (b2n d.Rest (0,0)))
 else (some false)) fun q10 =>
 some q10)) fun q11 =>
 some q11)
 else (some false)) fun q12 =>
 some q12
def a88 (s:ByteArray)(other:Int->Option Bool)(x5:Int):Option (Fl Int (Sum Unit Bool)) :=
 bif decide (x5<(s.size:Int))
 then (Option.bind (a4i s x5) fun e6 =>
 Option.bind (other (e6.toNat:Int)) fun r7 =>
 bif !r7
 then (some (.done (.inr false)))
 else (some (.next (wr .i64 (x5+1)))))
 else (some (.done (.inl ())))
def a68 (s:ByteArray)(first:Int->Option Bool)(other:Int->Option Bool):Option Bool :=
 Option.bind (bif decide ((s.size:Int)<1)
 then (some true)
 else (some (decide (16<(s.size:Int))))) fun q1 =>
 Option.bind (bif q1
 then (some true)
 else (Option.bind (a4i s 0) fun e2 =>
 Option.bind (first (e2.toNat:Int)) fun r3 =>
 some (!r3))) fun q4 =>
 bif q4
 then (some false)
 else (Option.bind (z7 (a88 s other) ((s.size:Int).toNat+1) 1) fun b8 =>
 j9 (fun _ =>
 some true) (fun y10 =>
 some y10) b8)
def a5j (c:Int):Option Bool :=
 Option.bind (bif decide (97<=c)
 then (some (decide (c<=122)))
 else (some false)) fun q1 =>
 some q1
def a6L (c:Int):Option Bool :=
 Option.bind (bif decide (48<=c)
 then (some (decide (c<=57)))
 else (some false)) fun q1 =>
 some q1
def b0i (c:Int):Option Bool :=
 Option.bind (a5j c) fun r1 =>
 Option.bind (bif r1
 then (some true)
 else (Option.bind (a6L c) fun r2 =>
 some r2)) fun q3 =>
 Option.bind (bif q3
 then (some true)
 else (some (c==95))) fun q4 =>
 some q4
def a5W (s:ByteArray):Option Bool :=
 Option.bind (a68 s (fun z1 =>
 Option.bind (a5j z1) fun r2 =>
 some r2) (fun z3 =>
 Option.bind (b0i z3) fun r4 =>
 some r4)) fun r5 =>
 some r5
def a6M (c:Int):Option Bool :=
 Option.bind (bif decide (65<=c)
 then (some (decide (c<=90)))
 else (some false)) fun q1 =>
 some q1
def a7h (c:Int):Option Bool :=
 Option.bind (a5j c) fun r1 =>
 Option.bind (bif r1
 then (some true)
 else (Option.bind (a6M c) fun r2 =>
 some r2)) fun q3 =>
 Option.bind (bif q3
 then (some true)
 else (Option.bind (a6L c) fun r4 =>
 some r4)) fun q5 =>
 Option.bind (bif q5
 then (some true)
 else (some (c==95))) fun q6 =>
 some q6
def a4J (s:ByteArray):Option Bool :=
 Option.bind (a68 s (fun z1 =>
 Option.bind (a6M z1) fun r2 =>
 some r2) (fun z3 =>
 Option.bind (a7h z3) fun r4 =>
 some r4)) fun r5 =>
 some r5
def a3b (k:Key):Option Bool :=
 bif k.Kind==0
 then (Option.bind (a5W k.Text) fun r1 =>
 some r1)
 else (bif k.Kind==1
 then (some (decide ((k.Text.size:Int)<=64)))
 else (some false))
def a8h (x:Int):Option Bool :=
 some (x != x)
def a1e (x:Int)(y:Int):Option Int :=
 Option.bind (a8h x) fun r1 =>
 Option.bind (a8h y) fun r2 =>
 bif r1
 then (bif r2
 then (some 0)
 else (some (-1)))
 else (bif r2
 then (some 1)
 else (bif decide (x<y)
 then (some (-1))
 else (bif decide (y<x)
 then (some 1)
 else (some 0))))
def a2F (a:ByteArray)(b:ByteArray):Option Int :=
 Option.bind (c5B a b) fun r1 =>
 some r1
def a2B (a:ByteArray)(b:ByteArray):Option Int :=
 Option.bind (a2F a b) fun r1 =>
 some r1
def V2 (a:Key)(b:Key):Option Int :=
 Option.bind (a1e a.Kind b.Kind) fun r1 =>
 bif r1 != 0
 then (some r1)
 else (Option.bind (a2B a.Text b.Text) fun r2 =>
 some r2)
def a23 (l:List Api_Field)(x1:Int):Option (Fl Int (Sum Unit Bool)) :=
 bif decide (x1<(l.length:Int))
 then (Option.bind (idx l x1) fun e2 =>
 Option.bind (a3b e2.Key_) fun r3 =>
 Option.bind (bif !r3
 then (some true)
 else (Option.bind (bif decide (0<x1)
 then (Option.bind (idx l (wr .i64 (x1-1))) fun e4 =>
 Option.bind (V2 e4.Key_ e2.Key_) fun r5 =>
 some (decide (0<=r5)))
 else (some false)) fun q6 =>
 some q6)) fun q7 =>
 bif q7
 then (some (.done (.inr false)))
 else (some (.next (wr .i64 (x1+1)))))
 else (some (.done (.inl ())))
def a4q (l:List Api_Field):Option Bool :=
 Option.bind (z7 (a23 l) ((l.length:Int).toNat+1) 0) fun b8 =>
 j9 (fun _ =>
 some true) (fun y10 =>
 some y10) b8
def a5w (d:Api_TypeNode):Option Bool :=
 Option.bind (bif d.Kind==1
 then (some (d.Kind==1))
 else (bif d.Kind==2
 then (some (d.Kind==2))
 else (bif d.Kind==5
 then (some (d.Kind==5))
 else (bif d.Kind==7
 then (some (d.Kind==7))
 else (bif d.Kind==8
 then (some (d.Kind==8))
 else (bif d.Kind==9
 then (some (d.Kind==9))
 else (bif d.Kind==11
 then (some (d.Kind==11))
 else (some (d.Kind==15))))))))) fun b1 =>
 bif b1
 then (some true)
 else (bif d.Kind==3
 then (some (decide (d.Lo<=d.Hi)))
 else (bif d.Kind==4
 then (some (decide ((d.Text.size:Int)<=64)))
 else (bif d.Kind==6
 then (Option.bind (a5W d.Text) fun r2 =>
 some r2)
 else (bif d.Kind==19
 then (Option.bind (a4J d.Text) fun r3 =>
 some r3)
 else (bif d.Kind==10
 then (some (decide ((d.Kids.length:Int)<=4)))
 else (bif d.Kind==12
 then (some ((d.Kids.length:Int)==2))
 else (bif d.Kind==13
 then (Option.bind (a4q d.Fields) fun r4 =>
 some r4)
 else (bif d.Kind==14
 then (Option.bind (bif decide (1<=(d.Kids.length:Int))
 then (some (decide ((d.Kids.length:Int)<=5)))
 else (some false)) fun q5 =>
 some q5)
 else (Option.bind (bif d.Kind==16
 then (some (d.Kind==16))
 else (some (d.Kind==17))) fun b6 =>
 bif b6
 then (some (decide (1<=(d.Kids.length:Int))))
 else (bif d.Kind==18
 then (some ((d.Kids.length:Int)==1))
 else (some false)))))))))))
def a2R (n_0:Api_TypeNode)(x2:(List Int)×Int):Option (Fl ((List Int)×Int) (List Int)) :=
 bif decide (x2.2<(n_0.Fields.length:Int))
 then (Option.bind (idx n_0.Fields x2.2) fun e3 =>
 Option.bind (w5 (x2.1.length+([e3.Node]:List Int).length) 8) fun _ =>
 some (.next (x2.1++([e3.Node]:List Int),wr .i64 (x2.2+1))))
 else (some (.done x2.1))
def a7J (n_0:Api_TypeNode):Option (List Int) :=
 Option.bind (a0o 8 n_0.Kids) fun r1 =>
 Option.bind (z7 (a2R n_0) ((n_0.Fields.length:Int).toNat+1) (r1,0)) fun b5 =>
 bif n_0.Kind==13
 then (Option.bind (w5 (b5.length+([n_0.Rest.1,n_0.Rest.2]:List Int).length) 8) fun _ =>
 some (b5++([n_0.Rest.1,n_0.Rest.2]:List Int)))
 else (some b5)
def a5l (kind:Int):Option Bool :=
 Option.bind (bif kind==16
 then (some true)
 else (some (kind==17))) fun q1 =>
 Option.bind (bif q1
 then (some true)
 else (some (kind==18))) fun q2 =>
 some q2
def Y9 (a2_2:Api_Type)(e10:Api_TypeNode)(rec_typeexpr_contractive_1:Int->(List Int)->Api_Type->Unit->Option (Bool×(List Int)))(x11:Int×(List Int)):Option (Fl (Int×(List Int)) (Sum (List Int) (Bool×(List Int)))) :=
 bif decide (x11.1<(e10.Kids.length:Int))
 then (Option.bind (idx e10.Kids x11.1) fun e12 =>
 Option.bind (rec_typeexpr_contractive_1 e12 x11.2 a2_2 ()) fun r13 =>
 bif !r13.1
 then (some (.done (.inr (false,r13.2))))
 else (some (.next (wr .i64 (x11.1+1),r13.2))))
 else (some (.done (.inl x11.2)))
def a4D (_:Nat)(rec_typeexpr_contractive_1:Int->(List Int)->Api_Type->Unit->Option (Bool×(List Int)))(i:Int)(a1_1:List Int)(a2_2:Api_Type)(_:Unit):Option (Bool×(List Int)) :=
 Option.bind (idx a1_1 i) fun _ =>
 Option.bind (a1_1[i.toNat]?) fun e2 =>
 Option.bind (bif e2 != 0
 then (some true)
 else (Option.bind (idx a2_2.Nodes i) fun e3 =>
 Option.bind (a5l e3.Kind) fun r4 =>
 some (!r4))) fun q5 =>
 bif q5
 then (Option.bind (idx a1_1 i) fun _ =>
 Option.bind (a1_1[i.toNat]?) fun e7 =>
 some (e7 != 1,a1_1))
 else (Option.bind (idx a1_1 i) fun _ =>
 Option.bind (a1_1[i.toNat]?) fun _ =>
 Option.bind (idx a2_2.Nodes i) fun e10 =>
 Option.bind (z7 (Y9 a2_2 e10 rec_typeexpr_contractive_1) ((e10.Kids.length:Int).toNat+1) (0,a1_1.set i.toNat 1)) fun (b14:Sum (List Int) (Bool×(List Int))) =>
 j9 (fun x15 =>
 Option.bind (idx x15 i) fun _ =>
 Option.bind (x15[i.toNat]?) fun _ =>
 some (true,x15.set i.toNat 2)) (fun y16 =>
 some (y16.1,y16.2)) b14)
def Q5:Nat->Int->(List Int)->Api_Type->Unit->Option (Bool×(List Int))
 | 0=>fun _ _ _ _=>none
 | n+1=>a4D n (Q5 n)
def Q7 (t:Api_Type)(n:Nat)(x2:Int×(List Int)):Option (Fl (Int×(List Int)) (Sum (List Int) (Bool×(List Int)))) :=
 bif decide (x2.1<(t.Nodes.length:Int))
 then (Option.bind (Q5 n x2.1 x2.2 t ()) fun r3 =>
 bif !r3.1
 then (some (.done (.inr (false,r3.2))))
 else (some (.next (wr .i64 (x2.1+1),r3.2))))
 else (some (.done (.inl x2.2)))
def a4l (n:Nat)(t:Api_Type):Option Bool :=
 Option.bind (a6H (t.Nodes.length:Int) (t.Nodes.length:Int) 8) fun m1 =>
 Option.bind (z7 (Q7 t n) ((t.Nodes.length:Int).toNat+1) (0,List.replicate m1 (0:Int))) fun (b4:Sum (List Int) (Bool×(List Int))) =>
 j9 (fun _ =>
 some true) (fun y6 =>
 some y6.1) b4
def a3r (t:Api_Type)(r7:List Int)(x8:Int):Option (Fl Int (Sum Unit Int)) :=
 bif decide (x8<(r7.length:Int))
 then (Option.bind (idx r7 x8) fun e9 =>
 Option.bind (bif decide (e9<0)
 then (some true)
 else (some (decide ((t.Nodes.length:Int)<=e9)))) fun q10 =>
 bif q10
 then (some (.done (.inr 1)))
 else (some (.next (wr .i64 (x8+1)))))
 else (some (.done (.inl ())))
def a3i (t:Api_Type)(x2:Int):Option (Fl Int (Sum Unit Int)) :=
 bif decide (x2<(t.Nodes.length:Int))
 then (Option.bind (idx t.Nodes x2) fun e3 =>
 Option.bind (a5B e3) fun r4 =>
 Option.bind (bif !r4
 then (some true)
 else (Option.bind (a5w e3) fun r5 =>
 some (!r5))) fun q6 =>
 bif q6
 then (some (.done (.inr 1)))
 else (Option.bind (a7J e3) fun r7 =>
 Option.bind (z7 (a3r t r7) ((r7.length:Int).toNat+1) 0) fun b11 =>
 j9 (fun _ =>
 some (.next (wr .i64 (x2+1)))) (fun y13 =>
 some (.done (.inr y13))) b11))
 else (some (.done (.inl ())))
def a0t (n:Nat)(t:Api_Type):Option Int :=
 Option.bind (bif decide (t.Root<0)
 then (some true)
 else (some (decide ((t.Nodes.length:Int)<=t.Root)))) fun q1 =>
 bif q1
 then (some 1)
 else (Option.bind (z7 (a3i t) ((t.Nodes.length:Int).toNat+1) 0) fun b14 =>
 j9 (fun _ =>
 Option.bind (a4l n t) fun r17 =>
 bif !r17
 then (some 3)
 else (some 0)) (fun y16 =>
 some y16) b14)
def a1R (s:List Int)(f:Int->Option Bool)(x1:Int):Option (Fl Int (Sum Unit Int)) :=
 bif decide (x1<(s.length:Int))
 then (Option.bind (idx s x1) fun e2 =>
 Option.bind (f e2) fun r3 =>
 bif r3
 then (some (.done (.inr x1)))
 else (some (.next (wr .i64 (x1+1)))))
 else (some (.done (.inl ())))
def a4F (s:List Int)(f:Int->Option Bool):Option Int :=
 Option.bind (z7 (a1R s f) ((s.length:Int).toNat+1) 0) fun b4 =>
 j9 (fun _ =>
 some (-1)) (fun y6 =>
 some y6) b4
def Y1 (s:List Int)(f:Int->Option Bool):Option Bool :=
 Option.bind (a4F s f) fun r1 =>
 some (decide (0<=r1))
def b1h (i:Int)(a1_1:Api_Type):Option Bool :=
 Option.bind (bif decide (i<0)
 then (some true)
 else (some (decide ((a1_1.Nodes.length:Int)<=i)))) fun q1 =>
 Option.bind (bif q1
 then (some true)
 else (Option.bind (idx a1_1.Nodes i) fun e2 =>
 some (e2.Kind != 13))) fun q3 =>
 some q3
def a7V (t:Api_Type)(nodes:List Int):Option Bool :=
 Option.bind (Y1 nodes (fun z1 =>
 Option.bind (b1h z1 t) fun r2 =>
 some r2)) fun r3 =>
 some (!r3)
def K7 (x1:(List Key)×Int)(x16:(Int×Int)×List Key):Option (Fl ((Int×Int)×List Key) (Int×List Key)) :=
 bif decide (x16.1.2<((x16.2.drop x1.2.toNat).length:Int))
 then (Option.bind (idx (x16.2.drop x1.2.toNat) x16.1.2) fun _ =>
 Option.bind (x16.2[(x1.2.toNat+x16.1.2.toNat)]?) fun e18 =>
 Option.bind (idx (x16.2.drop x1.2.toNat) (wr .i64 (x16.1.2-1))) fun _ =>
 Option.bind (x16.2[(x1.2.toNat+(wr .i64 (x16.1.2-1)).toNat)]?) fun e20 =>
 bif !(a3B e18 e20)
 then (Option.bind (idx (x16.2.drop x1.2.toNat) x16.1.2) fun _ =>
 Option.bind (x16.2[(x1.2.toNat+x16.1.2.toNat)]?) fun e22 =>
 Option.bind (idx x16.2 x16.1.1) fun _ =>
 Option.bind (x16.2[x16.1.1.toNat]?) fun _ =>
 some (.next ((wr .i64 (x16.1.1+1),wr .i64 (x16.1.2+1)),x16.2.set x16.1.1.toNat e22)))
 else (some (.next ((x16.1.1,wr .i64 (x16.1.2+1)),x16.2))))
 else (some (.done (x16.1.1,x16.2)))
def X4 (x1:(List Key)×Int):Option (Fl ((List Key)×Int) (Sum (List Key) (List Key))) :=
 bif decide (x1.2<(x1.1.length:Int))
 then (Option.bind (idx x1.1 x1.2) fun _ =>
 Option.bind (x1.1[x1.2.toNat]?) fun e3 =>
 Option.bind (idx x1.1 (wr .i64 (x1.2-1))) fun _ =>
 Option.bind (x1.1[(wr .i64 (x1.2-1)).toNat]?) fun e5 =>
 bif a3B e3 e5
 then (Option.bind (idx x1.1 x1.2) fun _ =>
 Option.bind (z7 (K7 x1) (((x1.1.drop x1.2.toNat).length:Int).toNat+1) ((x1.2,1),x1.1)) fun b25 =>
 Option.bind (idx b25.2 b25.1) fun _ =>
 bif Nat.blt b25.1.toNat b25.2.length
 then (Option.bind (cut (b25.2.take b25.1.toNat++List.replicate (b25.2.length-b25.1.toNat) (Key.mk 0 (⟨#[]⟩:ByteArray):Key)) 0 b25.1) fun y27 =>
 some (.done (.inr y27)))
 else (none))
 else (some (.next (x1.1,wr .i64 (x1.2+1)))))
 else (some (.done (.inl x1.1)))
def a1h (s:List Key):Option (List Key) :=
 bif decide ((s.length:Int)<2)
 then (some s)
 else (Option.bind (z7 X4 ((s.length:Int).toNat+1) (s,1)) fun b28 =>
 j9 (fun x29 =>
 some x29) (fun y30 =>
 some y30) b28)
def a3v (s:List Key):Option (List Key) :=
 bif (s.length:Int)==(s.length:Int)&&(s.length:Int)==(s.length:Int)
 then (some s)
 else (none)
noncomputable def a4S (e3:Api_TypeNode)(x4:(List Key)×Int):Option (Fl ((List Key)×Int) (List Key)) :=
 bif decide (x4.2<(e3.Fields.length:Int))
 then (Option.bind (idx e3.Fields x4.2) fun e5 =>
 Option.bind (w5 (x4.1.length+([e5.Key_]:List Key).length) 24) fun _ =>
 some (.next (x4.1++([e5.Key_]:List Key),wr .i64 (x4.2+1))))
 else (some (.done x4.1))
noncomputable def a4N (t:Api_Type)(nodes:List Int)(x1:(List Key)×Int):Option (Fl ((List Key)×Int) (List Key)) :=
 bif decide (x1.2<(nodes.length:Int))
 then (Option.bind (idx nodes x1.2) fun e2 =>
 Option.bind (idx t.Nodes e2) fun e3 =>
 Option.bind (z7 (a4S e3) ((e3.Fields.length:Int).toNat+1) (x1.1,0)) fun b7 =>
 some (.next (b7,wr .i64 (x1.2+1))))
 else (some (.done x1.1))
noncomputable def a5i (t:Api_Type)(nodes:List Int):Option (List Key) :=
 Option.bind (z7 (a4N t nodes) ((nodes.length:Int).toNat+1) ([],0)) fun b8 =>
 Option.bind (a6Y b8 (fun z9 z10 =>
 Option.bind (V2 z9 z10) fun r11 =>
 some r11)) fun r12 =>
 Option.bind (a1h r12.2) fun r13 =>
 Option.bind (a3v r13) fun r14 =>
 some r14
def b1z (n_0:Api_TypeNode)(k:Key)(x1:Int):Option (Fl Int (Sum Unit Int)) :=
 bif decide (x1<(n_0.Fields.length:Int))
 then (Option.bind (idx n_0.Fields x1) fun e2 =>
 bif a3B e2.Key_ k
 then (some (.done (.inr e2.Node)))
 else (some (.next (wr .i64 (x1+1)))))
 else (some (.done (.inl ())))
def a7H (n_0:Api_TypeNode)(k:Key):Option Int :=
 Option.bind (z7 (b1z n_0 k) ((n_0.Fields.length:Int).toNat+1) 0) fun b3 =>
 j9 (fun _ =>
 bif k.Kind==0
 then (some n_0.Rest.1)
 else (bif k.Kind==1
 then (some n_0.Rest.2)
 else (none))) (fun y5 =>
 some y5) b3
def a2e (n_0:Api_TypeNode)(k:Key)(x1:Int):Option (Fl Int (Sum Unit Bool)) :=
 bif decide (x1<(n_0.Fields.length:Int))
 then (Option.bind (idx n_0.Fields x1) fun e2 =>
 bif a3B e2.Key_ k
 then (some (.done (.inr (!e2.Optional))))
 else (some (.next (wr .i64 (x1+1)))))
 else (some (.done (.inl ())))
def a3U (n_0:Api_TypeNode)(k:Key):Option Bool :=
 Option.bind (z7 (a2e n_0 k) ((n_0.Fields.length:Int).toNat+1) 0) fun b3 =>
 j9 (fun _ =>
 some false) (fun y5 =>
 some y5) b3
def a0m (x1:(List Int)×Int)(x16:(Int×Int)×List Int):Option (Fl ((Int×Int)×List Int) (Int×List Int)) :=
 bif decide (x16.1.2<((x16.2.drop x1.2.toNat).length:Int))
 then (Option.bind (idx (x16.2.drop x1.2.toNat) x16.1.2) fun _ =>
 Option.bind (x16.2[(x1.2.toNat+x16.1.2.toNat)]?) fun e18 =>
 Option.bind (idx (x16.2.drop x1.2.toNat) (wr .i64 (x16.1.2-1))) fun _ =>
 Option.bind (x16.2[(x1.2.toNat+(wr .i64 (x16.1.2-1)).toNat)]?) fun e20 =>
 bif e18 != e20
 then (Option.bind (idx (x16.2.drop x1.2.toNat) x16.1.2) fun _ =>
 Option.bind (x16.2[(x1.2.toNat+x16.1.2.toNat)]?) fun e22 =>
 Option.bind (idx x16.2 x16.1.1) fun _ =>
 Option.bind (x16.2[x16.1.1.toNat]?) fun _ =>
 some (.next ((wr .i64 (x16.1.1+1),wr .i64 (x16.1.2+1)),x16.2.set x16.1.1.toNat e22)))
 else (some (.next ((x16.1.1,wr .i64 (x16.1.2+1)),x16.2))))
 else (some (.done (x16.1.1,x16.2)))
def a1b (x1:(List Int)×Int):Option (Fl ((List Int)×Int) (Sum (List Int) (List Int))) :=
 bif decide (x1.2<(x1.1.length:Int))
 then (Option.bind (idx x1.1 x1.2) fun _ =>
 Option.bind (x1.1[x1.2.toNat]?) fun e3 =>
 Option.bind (idx x1.1 (wr .i64 (x1.2-1))) fun _ =>
 Option.bind (x1.1[(wr .i64 (x1.2-1)).toNat]?) fun e5 =>
 bif e3==e5
 then (Option.bind (idx x1.1 x1.2) fun _ =>
 Option.bind (z7 (a0m x1) (((x1.1.drop x1.2.toNat).length:Int).toNat+1) ((x1.2,1),x1.1)) fun b25 =>
 Option.bind (idx b25.2 b25.1) fun _ =>
 bif Nat.blt b25.1.toNat b25.2.length
 then (Option.bind (cut (b25.2.take b25.1.toNat++List.replicate (b25.2.length-b25.1.toNat) (0:Int)) 0 b25.1) fun y27 =>
 some (.done (.inr y27)))
 else (none))
 else (some (.next (x1.1,wr .i64 (x1.2+1)))))
 else (some (.done (.inl x1.1)))
def a3l (s:List Int):Option (List Int) :=
 bif decide ((s.length:Int)<2)
 then (some s)
 else (Option.bind (z7 a1b ((s.length:Int).toNat+1) (s,1)) fun b28 =>
 j9 (fun x29 =>
 some x29) (fun y30 =>
 some y30) b28)
def a6V (s:List Int):Option (List Int) :=
 bif (s.length:Int)==(s.length:Int)&&(s.length:Int)==(s.length:Int)
 then (some s)
 else (none)
def a8b (l:List Int):Option (List Int) :=
 Option.bind (a0o 8 l) fun r1 =>
 Option.bind (c3c r1) fun r2 =>
 Option.bind (a3l r2.2) fun r3 =>
 Option.bind (a6V r3) fun r4 =>
 some r4
def a6P (g:Api_Goal):Option Api_Goal :=
 Option.bind (a8b g.Pos) fun r1 =>
 Option.bind (a8b g.Neg) fun r2 =>
 some (Api_Goal.mk r1 r2 g.Lists)
def a2W (s:List Int)(v:Int)(x1:Int):Option (Fl Int (Sum Unit Int)) :=
 bif decide (x1<(s.length:Int))
 then (Option.bind (idx s x1) fun e2 =>
 bif v==e2
 then (some (.done (.inr x1)))
 else (some (.next (wr .i64 (x1+1)))))
 else (some (.done (.inl ())))
def a6l (s:List Int)(v:Int):Option Int :=
 Option.bind (z7 (a2W s v) ((s.length:Int).toNat+1) 0) fun b3 =>
 j9 (fun _ =>
 some (-1)) (fun y5 =>
 some y5) b3
def a0J (s:List Int)(v:Int):Option Bool :=
 Option.bind (a6l s v) fun r1 =>
 some (decide (0<=r1))
def a8W (x:Int)(a1_1:List Int):Option Bool :=
 Option.bind (a0J a1_1 x) fun r1 =>
 some r1
def a8i (a:List Int)(b:List Int):Option Bool :=
 Option.bind (Y1 a (fun z1 =>
 Option.bind (a8W z1 b) fun r2 =>
 some r2)) fun r3 =>
 some r3
def a31 (d:Api_Type)(t:Api_Line)(a3_3:Key)(x1:Int×Int×((List Int)×(List Int)×Bool)):Option (Fl (Int×Int×((List Int)×(List Int)×Bool)) (Int×((List Int)×(List Int)×Bool))) :=
 bif decide (x1.2.1<(t.Pos.length:Int))
 then (Option.bind (idx t.Pos x1.2.1) fun e2 =>
 Option.bind (idx d.Nodes e2) fun e3 =>
 Option.bind (a7H e3 a3_3) fun r4 =>
 Option.bind (w5 (x1.2.2.1.length+([r4]:List Int).length) 8) fun _ =>
 Option.bind (idx d.Nodes e2) fun e6 =>
 Option.bind (a3U e6 a3_3) fun r7 =>
 bif r7
 then (some (.next (1,wr .i64 (x1.2.1+1),(x1.2.2.1++([r4]:List Int),x1.2.2.2.1,x1.2.2.2.2))))
 else (some (.next (x1.1,wr .i64 (x1.2.1+1),(x1.2.2.1++([r4]:List Int),x1.2.2.2.1,x1.2.2.2.2)))))
 else (some (.done (x1.1,(x1.2.2.1,x1.2.2.2.1,x1.2.2.2.2))))
def a32 (d:Api_Type)(t:Api_Line)(a2_2:Int)(a3_3:Key)(a4_4:List Record_place)(x9:Int×Bool×Int×((List Int)×(List Int)×Bool)):Option (Fl (Int×Bool×Int×((List Int)×(List Int)×Bool)) (Int×Bool×((List Int)×(List Int)×Bool))) :=
 bif decide (x9.2.2.1<(a4_4.length:Int))
 then (Option.bind (idx a4_4 x9.2.2.1) fun _ =>
 Option.bind (a4_4[x9.2.2.1.toNat]?) fun e11 =>
 bif e11.key != a2_2
 then (some (.next (x9.1,x9.2.1,wr .i64 (x9.2.2.1+1),(x9.2.2.2.1,x9.2.2.2.2.1,x9.2.2.2.2.2))))
 else (bif e11.absent
 then (some (.next (x9.1,true,wr .i64 (x9.2.2.1+1),(x9.2.2.2.1,x9.2.2.2.2.1,x9.2.2.2.2.2))))
 else (Option.bind (idx t.Neg x9.2.2.1) fun e12 =>
 Option.bind (idx d.Nodes e12) fun e13 =>
 Option.bind (a7H e13 a3_3) fun r14 =>
 Option.bind (w5 (x9.2.2.2.2.1.length+([r14]:List Int).length) 8) fun _ =>
 some (.next (1,x9.2.1,wr .i64 (x9.2.2.1+1),(x9.2.2.2.1,x9.2.2.2.2.1++([r14]:List Int),x9.2.2.2.2.2))))))
 else (some (.done (x9.1,x9.2.1,(x9.2.2.2.1,x9.2.2.2.2.1,x9.2.2.2.2.2))))
def a7K (d:Api_Type)(t:Api_Line)(a2_2:Int)(a3_3:Key)(a4_4:List Record_place):Option (Int×Api_Goal×Bool) :=
 Option.bind (z7 (a31 d t a3_3) ((t.Pos.length:Int).toNat+1) (2,0,([],[],false))) fun b8 =>
 Option.bind (z7 (a32 d t a2_2 a3_3 a4_4) ((a4_4.length:Int).toNat+1) (b8.1,false,0,(b8.2.1,b8.2.2.1,b8.2.2.2))) fun b16 =>
 bif b16.2.1
 then (some (0,Api_Goal.mk ([]:List Int) ([]:List Int) false,b16.1==2))
 else (Option.bind (a6P (Api_Goal.mk b16.2.2.1 b16.2.2.2.1 b16.2.2.2.2)) fun r17 =>
 Option.bind (a8i b16.2.2.1 b16.2.2.2.1) fun r18 =>
 some (b16.1,r17,!r18))
def a3M (d:Api_Type)(t:Api_Line)(a2_2:List Key)(a3_3:List Record_place)(x2:Int×((List Key)×(List Int)×(List Api_Goal)×(List Int)×(List Int)×Bool×(List Int)×(List Int)×Bool×(List Api_SomeKey))×((List Key)×(List Int)×(List Api_Goal)×(List Int)×(List Int)×Bool×(List Int)×(List Int)×Bool×(List Api_SomeKey))):Option (Fl (Int×((List Key)×(List Int)×(List Api_Goal)×(List Int)×(List Int)×Bool×(List Int)×(List Int)×Bool×(List Api_SomeKey))×((List Key)×(List Int)×(List Api_Goal)×(List Int)×(List Int)×Bool×(List Int)×(List Int)×Bool×(List Api_SomeKey))) (Sum (((List Key)×(List Int)×(List Api_Goal)×(List Int)×(List Int)×Bool×(List Int)×(List Int)×Bool×(List Api_SomeKey))×((List Key)×(List Int)×(List Api_Goal)×(List Int)×(List Int)×Bool×(List Int)×(List Int)×Bool×(List Api_SomeKey))) (Bool×((List Key)×(List Int)×(List Api_Goal)×(List Int)×(List Int)×Bool×(List Int)×(List Int)×Bool×(List Api_SomeKey))×((List Key)×(List Int)×(List Api_Goal)×(List Int)×(List Int)×Bool×(List Int)×(List Int)×Bool×(List Api_SomeKey))))) :=
 bif decide (x2.1<(a2_2.length:Int))
 then (Option.bind (idx a2_2 x2.1) fun e3 =>
 Option.bind (a7K d t x2.1 e3 a3_3) fun r4 =>
 bif !r4.2.2
 then (some (.done (.inr (false,(x2.2.2.1,x2.2.2.2.1,x2.2.2.2.2.1,x2.2.2.2.2.2.1,x2.2.2.2.2.2.2.1,x2.2.2.2.2.2.2.2.1,x2.2.2.2.2.2.2.2.2.1,x2.2.2.2.2.2.2.2.2.2.1,x2.2.2.2.2.2.2.2.2.2.2.1,x2.2.2.2.2.2.2.2.2.2.2.2),(x2.2.2.1,x2.2.2.2.1,x2.2.2.2.2.1,x2.2.2.2.2.2.1,x2.2.2.2.2.2.2.1,x2.2.2.2.2.2.2.2.1,x2.2.2.2.2.2.2.2.2.1,x2.2.2.2.2.2.2.2.2.2.1,x2.2.2.2.2.2.2.2.2.2.2.1,x2.2.2.2.2.2.2.2.2.2.2.2)))))
 else (Option.bind (w5 (x2.2.2.2.1.length+([r4.1]:List Int).length) 8) fun _ =>
 Option.bind (w5 (x2.2.2.2.2.1.length+([r4.2.1]:List Api_Goal).length) 56) fun _ =>
 some (.next (wr .i64 (x2.1+1),(x2.2.1.1,x2.2.1.2.1,x2.2.1.2.2.1,x2.2.1.2.2.2.1,x2.2.1.2.2.2.2.1,x2.2.1.2.2.2.2.2.1,x2.2.1.2.2.2.2.2.2.1,x2.2.1.2.2.2.2.2.2.2.1,x2.2.1.2.2.2.2.2.2.2.2.1,x2.2.1.2.2.2.2.2.2.2.2.2),(x2.2.2.1,x2.2.2.2.1++([r4.1]:List Int),x2.2.2.2.2.1++([r4.2.1]:List Api_Goal),x2.2.2.2.2.2.1,x2.2.2.2.2.2.2.1,x2.2.2.2.2.2.2.2.1,x2.2.2.2.2.2.2.2.2.1,x2.2.2.2.2.2.2.2.2.2.1,x2.2.2.2.2.2.2.2.2.2.2.1,x2.2.2.2.2.2.2.2.2.2.2.2)))))
 else (some (.done (.inl ((x2.2.1.1,x2.2.1.2.1,x2.2.1.2.2.1,x2.2.1.2.2.2.1,x2.2.1.2.2.2.2.1,x2.2.1.2.2.2.2.2.1,x2.2.1.2.2.2.2.2.2.1,x2.2.1.2.2.2.2.2.2.2.1,x2.2.1.2.2.2.2.2.2.2.2.1,x2.2.1.2.2.2.2.2.2.2.2.2),(x2.2.2.1,x2.2.2.2.1,x2.2.2.2.2.1,x2.2.2.2.2.2.1,x2.2.2.2.2.2.2.1,x2.2.2.2.2.2.2.2.1,x2.2.2.2.2.2.2.2.2.1,x2.2.2.2.2.2.2.2.2.2.1,x2.2.2.2.2.2.2.2.2.2.2.1,x2.2.2.2.2.2.2.2.2.2.2.2)))))
def a3C (d:Api_Type)(t:Api_Line)(x10:Int×((List Key)×(List Int)×(List Api_Goal)×(List Int)×(List Int)×Bool×(List Int)×(List Int)×Bool×(List Api_SomeKey))):Option (Fl (Int×((List Key)×(List Int)×(List Api_Goal)×(List Int)×(List Int)×Bool×(List Int)×(List Int)×Bool×(List Api_SomeKey))) ((List Key)×(List Int)×(List Api_Goal)×(List Int)×(List Int)×Bool×(List Int)×(List Int)×Bool×(List Api_SomeKey))) :=
 bif decide (x10.1<(t.Pos.length:Int))
 then (Option.bind (idx t.Pos x10.1) fun e11 =>
 Option.bind (idx d.Nodes e11) fun e12 =>
 Option.bind (w5 (x10.2.2.2.2.1.length+([e12.Rest.1]:List Int).length) 8) fun _ =>
 Option.bind (idx d.Nodes e11) fun e14 =>
 Option.bind (w5 (x10.2.2.2.2.2.2.2.1.length+([e14.Rest.2]:List Int).length) 8) fun _ =>
 some (.next (wr .i64 (x10.1+1),(x10.2.1,x10.2.2.1,x10.2.2.2.1,x10.2.2.2.2.1++([e12.Rest.1]:List Int),x10.2.2.2.2.2.1,x10.2.2.2.2.2.2.1,x10.2.2.2.2.2.2.2.1++([e14.Rest.2]:List Int),x10.2.2.2.2.2.2.2.2.1,x10.2.2.2.2.2.2.2.2.2.1,x10.2.2.2.2.2.2.2.2.2.2))))
 else (some (.done (x10.2.1,x10.2.2.1,x10.2.2.2.1,x10.2.2.2.2.1,x10.2.2.2.2.2.1,x10.2.2.2.2.2.2.1,x10.2.2.2.2.2.2.2.1,x10.2.2.2.2.2.2.2.2.1,x10.2.2.2.2.2.2.2.2.2.1,x10.2.2.2.2.2.2.2.2.2.2)))
def a3F (d:Api_Type)(t:Api_Line)(a3_3:List Record_place)(x19:Int×Api_Shape×((List Key)×(List Int)×(List Api_Goal)×(List Int)×(List Int)×Bool×(List Int)×(List Int)×Bool×(List Api_SomeKey))):Option (Fl (Int×Api_Shape×((List Key)×(List Int)×(List Api_Goal)×(List Int)×(List Int)×Bool×(List Int)×(List Int)×Bool×(List Api_SomeKey))) (Sum (Api_Shape×((List Key)×(List Int)×(List Api_Goal)×(List Int)×(List Int)×Bool×(List Int)×(List Int)×Bool×(List Api_SomeKey))) (Bool×Api_Shape×((List Key)×(List Int)×(List Api_Goal)×(List Int)×(List Int)×Bool×(List Int)×(List Int)×Bool×(List Api_SomeKey))))) :=
 bif decide (x19.1<(a3_3.length:Int))
 then (Option.bind (idx a3_3 x19.1) fun _ =>
 Option.bind (a3_3[x19.1.toNat]?) fun e21 =>
 bif decide (0<=e21.key)
 then (some (.next (wr .i64 (x19.1+1),x19.2.1,(x19.2.2.1,x19.2.2.2.1,x19.2.2.2.2.1,x19.2.2.2.2.2.1,x19.2.2.2.2.2.2.1,x19.2.2.2.2.2.2.2.1,x19.2.2.2.2.2.2.2.2.1,x19.2.2.2.2.2.2.2.2.2.1,x19.2.2.2.2.2.2.2.2.2.2.1,x19.2.2.2.2.2.2.2.2.2.2.2))))
 else (Option.bind (Option.bind (idx t.Neg x19.1) fun e22 =>
 Option.bind (idx d.Nodes e22) fun e23 =>
 bif e21.kind==0
 then (some e23.Rest.1)
 else (bif e21.kind==1
 then (some e23.Rest.2)
 else (none))) fun b24 =>
 Option.bind (bif e21.kind==0
 then (Option.bind (a0J x19.2.2.2.2.2.1 b24) fun r25 =>
 some r25)
 else (bif e21.kind==1
 then (Option.bind (a0J x19.2.2.2.2.2.2.2.2.1 b24) fun r26 =>
 some r26)
 else (none))) fun b27 =>
 bif b27
 then (some (.done (.inr (false,Api_Shape.mk x19.2.2.1 x19.2.2.2.1 x19.2.2.2.2.1 (Api_Goal.mk x19.2.2.2.2.2.1 x19.2.2.2.2.2.2.1 x19.2.2.2.2.2.2.2.1,Api_Goal.mk x19.2.2.2.2.2.2.2.2.1 x19.2.2.2.2.2.2.2.2.2.1 x19.2.2.2.2.2.2.2.2.2.2.1) x19.2.2.2.2.2.2.2.2.2.2.2,(x19.2.2.1,x19.2.2.2.1,x19.2.2.2.2.1,x19.2.2.2.2.2.1,x19.2.2.2.2.2.2.1,x19.2.2.2.2.2.2.2.1,x19.2.2.2.2.2.2.2.2.1,x19.2.2.2.2.2.2.2.2.2.1,x19.2.2.2.2.2.2.2.2.2.2.1,x19.2.2.2.2.2.2.2.2.2.2.2)))))
 else (Option.bind (w5 (x19.2.2.2.2.2.2.2.2.2.2.2.length+([Api_SomeKey.mk e21.kind (Api_Goal.mk ([]:List Int) ([b24]:List Int) false)]:List Api_SomeKey).length) 64) fun _ =>
 some (.next (wr .i64 (x19.1+1),x19.2.1,(x19.2.2.1,x19.2.2.2.1,x19.2.2.2.2.1,x19.2.2.2.2.2.1,x19.2.2.2.2.2.2.1,x19.2.2.2.2.2.2.2.1,x19.2.2.2.2.2.2.2.2.1,x19.2.2.2.2.2.2.2.2.2.1,x19.2.2.2.2.2.2.2.2.2.2.1,x19.2.2.2.2.2.2.2.2.2.2.2++([Api_SomeKey.mk e21.kind (Api_Goal.mk ([]:List Int) ([b24]:List Int) false)]:List Api_SomeKey)))))))
 else (some (.done (.inl (x19.2.1,(x19.2.2.1,x19.2.2.2.1,x19.2.2.2.2.1,x19.2.2.2.2.2.1,x19.2.2.2.2.2.2.1,x19.2.2.2.2.2.2.2.1,x19.2.2.2.2.2.2.2.2.1,x19.2.2.2.2.2.2.2.2.2.1,x19.2.2.2.2.2.2.2.2.2.2.1,x19.2.2.2.2.2.2.2.2.2.2.2)))))
def a9j (d:Api_Type)(t:Api_Line)(a2_2:List Key)(a3_3:List Record_place):Option (Api_Shape×Bool) :=
 Option.bind (a0o 24 a2_2) fun r1 =>
 Option.bind (z7 (a3M d t a2_2 a3_3) ((a2_2.length:Int).toNat+1) (0,(([]:List Key),([]:List Int),([]:List Api_Goal),([]:List Int),([]:List Int),false,([]:List Int),([]:List Int),false,([]:List Api_SomeKey)),(r1,[],[],[],[],false,[],[],false,[]))) fun (b7:Sum (((List Key)×(List Int)×(List Api_Goal)×(List Int)×(List Int)×Bool×(List Int)×(List Int)×Bool×(List Api_SomeKey))×((List Key)×(List Int)×(List Api_Goal)×(List Int)×(List Int)×Bool×(List Int)×(List Int)×Bool×(List Api_SomeKey))) (Bool×((List Key)×(List Int)×(List Api_Goal)×(List Int)×(List Int)×Bool×(List Int)×(List Int)×Bool×(List Api_SomeKey))×((List Key)×(List Int)×(List Api_Goal)×(List Int)×(List Int)×Bool×(List Int)×(List Int)×Bool×(List Api_SomeKey)))) =>
 j9 (fun x8 =>
 Option.bind (z7 (a3C d t) ((t.Pos.length:Int).toNat+1) (0,(x8.2.1,x8.2.2.1,x8.2.2.2.1,x8.2.2.2.2.1,x8.2.2.2.2.2.1,x8.2.2.2.2.2.2.1,x8.2.2.2.2.2.2.2.1,x8.2.2.2.2.2.2.2.2.1,x8.2.2.2.2.2.2.2.2.2.1,x8.2.2.2.2.2.2.2.2.2.2))) fun b16 =>
 Option.bind (a6P (Api_Goal.mk b16.2.2.2.1 b16.2.2.2.2.1 b16.2.2.2.2.2.1)) fun r17 =>
 Option.bind (a6P (Api_Goal.mk b16.2.2.2.2.2.2.1 b16.2.2.2.2.2.2.2.1 b16.2.2.2.2.2.2.2.2.1)) fun r18 =>
 Option.bind (z7 (a3F d t a3_3) ((a3_3.length:Int).toNat+1) (0,Api_Shape.mk x8.1.1 x8.1.2.1 x8.1.2.2.1 (Api_Goal.mk x8.1.2.2.2.1 x8.1.2.2.2.2.1 x8.1.2.2.2.2.2.1,Api_Goal.mk x8.1.2.2.2.2.2.2.1 x8.1.2.2.2.2.2.2.2.1 x8.1.2.2.2.2.2.2.2.2.1) x8.1.2.2.2.2.2.2.2.2.2,(b16.1,b16.2.1,b16.2.2.1,r17.Pos,r17.Neg,r17.Lists,r18.Pos,r18.Neg,r18.Lists,b16.2.2.2.2.2.2.2.2.2))) fun (b29:Sum (Api_Shape×((List Key)×(List Int)×(List Api_Goal)×(List Int)×(List Int)×Bool×(List Int)×(List Int)×Bool×(List Api_SomeKey))) (Bool×Api_Shape×((List Key)×(List Int)×(List Api_Goal)×(List Int)×(List Int)×Bool×(List Int)×(List Int)×Bool×(List Api_SomeKey)))) =>
 j9 (fun x30 =>
 some (Api_Shape.mk x30.2.1 x30.2.2.1 x30.2.2.2.1 (Api_Goal.mk x30.2.2.2.2.1 x30.2.2.2.2.2.1 x30.2.2.2.2.2.2.1,Api_Goal.mk x30.2.2.2.2.2.2.2.1 x30.2.2.2.2.2.2.2.2.1 x30.2.2.2.2.2.2.2.2.2.1) x30.2.2.2.2.2.2.2.2.2.2,true)) (fun y31 =>
 some (y31.2.1,y31.1)) b29) (fun y9 =>
 some (Api_Shape.mk y9.2.1.1 y9.2.1.2.1 y9.2.1.2.2.1 (Api_Goal.mk y9.2.1.2.2.2.1 y9.2.1.2.2.2.2.1 y9.2.1.2.2.2.2.2.1,Api_Goal.mk y9.2.1.2.2.2.2.2.2.1 y9.2.1.2.2.2.2.2.2.2.1 y9.2.1.2.2.2.2.2.2.2.2.1) y9.2.1.2.2.2.2.2.2.2.2.2,y9.1)) b7
def a1d (i:Int)(a1_1:Api_Type):Option Bool :=
 Option.bind (idx a1_1.Nodes i) fun e1 =>
 some (e1.Kind==2)
def a0R (t:Api_Type)(n_1:Api_TypeNode)(keys:List Key)(x1:(List Record_place)×Int):Option (Fl ((List Record_place)×Int) (List Record_place)) :=
 bif decide (x1.2<(keys.length:Int))
 then (Option.bind (idx keys x1.2) fun e2 =>
 Option.bind (a7H n_1 e2) fun r3 =>
 Option.bind (a1d r3 t) fun r4 =>
 Option.bind (bif !r4
 then (Option.bind (w5 (x1.1.length+([Record_place.mk x1.2 false 0]:List Record_place).length) 24) fun _ =>
 some (x1.1++([Record_place.mk x1.2 false 0]:List Record_place)))
 else (some x1.1)) fun b6 =>
 Option.bind (a3U n_1 e2) fun r7 =>
 bif r7
 then (Option.bind (w5 (b6.length+([Record_place.mk x1.2 true 0]:List Record_place).length) 24) fun _ =>
 some (.next (b6++([Record_place.mk x1.2 true 0]:List Record_place),wr .i64 (x1.2+1))))
 else (some (.next (b6,wr .i64 (x1.2+1)))))
 else (some (.done x1.1))
def a0h (t:Api_Type)(n_1:Api_TypeNode)(x10:(List Record_place)×Int):Option (Fl ((List Record_place)×Int) (List Record_place)) :=
 bif decide (x10.2<2)
 then (Option.bind (bif x10.2==0
 then (some (x10.2,n_1.Rest.1))
 else (bif x10.2==1
 then (some (x10.2,n_1.Rest.2))
 else (none))) fun b11 =>
 Option.bind (a1d b11.2 t) fun r12 =>
 bif !r12
 then (Option.bind (w5 (x10.1.length+([Record_place.mk (-1) false b11.1]:List Record_place).length) 24) fun _ =>
 some (.next (x10.1++([Record_place.mk (-1) false b11.1]:List Record_place),wr .i64 (x10.2+1))))
 else (some (.next (x10.1,wr .i64 (x10.2+1)))))
 else (some (.done x10.1))
def a5h (t:Api_Type)(n_1:Api_TypeNode)(keys:List Key):Option (List Record_place) :=
 Option.bind (z7 (a0R t n_1 keys) ((keys.length:Int).toNat+1) ([],0)) fun b9 =>
 Option.bind (z7 (a0h t n_1) ((2:Int).toNat+1) (b9,0)) fun b14 =>
 some b14
def a3z (k:Int)(a1_1:Api_Line)(a2_2:Api_Type)(a3_3:List Key)(r6:List Record_place)(rec_record_Shapes_1:Int->Api_Line->Api_Type->(List Key)->(List Record_place)->(List Api_Shape)->Unit->Option ((List Record_place)×(List Api_Shape)))(x7:(List Record_place)×Int×(List Record_place)×(List Api_Shape)):Option (Fl ((List Record_place)×Int×(List Record_place)×(List Api_Shape)) ((List Record_place)×(List Record_place)×(List Api_Shape))) :=
 bif decide (x7.2.1<(r6.length:Int))
 then (Option.bind (idx x7.1 x7.2.1) fun _ =>
 Option.bind (x7.1[x7.2.1.toNat]?) fun e9 =>
 Option.bind (idx x7.2.2.1 k) fun _ =>
 Option.bind (x7.2.2.1[k.toNat]?) fun _ =>
 Option.bind (rec_record_Shapes_1 (wr .i64 (k+1)) a1_1 a2_2 a3_3 (x7.2.2.1.set k.toNat e9) x7.2.2.2 ()) fun r12 =>
 some (.next (x7.1,wr .i64 (x7.2.1+1),r12.1,r12.2)))
 else (some (.done (x7.1,x7.2.2.1,x7.2.2.2)))
def a38 (_:Nat)(rec_record_Shapes_1:Int->Api_Line->Api_Type->(List Key)->(List Record_place)->(List Api_Shape)->Unit->Option ((List Record_place)×(List Api_Shape)))(k:Int)(a1_1:Api_Line)(a2_2:Api_Type)(a3_3:List Key)(a4_4:List Record_place)(a5_5:List Api_Shape)(_:Unit):Option ((List Record_place)×(List Api_Shape)) :=
 bif k==(a1_1.Neg.length:Int)
 then (Option.bind (a9j a2_2 a1_1 a3_3 a4_4) fun r1 =>
 Option.bind (bif r1.2
 then (Option.bind (w5 (a5_5.length+([r1.1]:List Api_Shape).length) 208) fun _ =>
 some (a5_5++([r1.1]:List Api_Shape)))
 else (some a5_5)) fun b3 =>
 some (a4_4,b3))
 else (Option.bind (idx a1_1.Neg k) fun e4 =>
 Option.bind (idx a2_2.Nodes e4) fun e5 =>
 Option.bind (a5h a2_2 e5 a3_3) fun r6 =>
 Option.bind (z7 (a3z k a1_1 a2_2 a3_3 r6 rec_record_Shapes_1) ((r6.length:Int).toNat+1) (r6,0,a4_4,a5_5)) fun b13 =>
 some (b13.2.1,b13.2.2))
def a0G:Nat->Int->Api_Line->Api_Type->(List Key)->(List Record_place)->(List Api_Shape)->Unit->Option ((List Record_place)×(List Api_Shape))
 | 0=>fun _ _ _ _ _ _ _=>none
 | n+1=>a38 n (a0G n)
noncomputable def a3R (n:Nat)(t:Api_Type)(l:Api_Line):Option ((List Api_Shape)×Int) :=
 bif l.Kind != 8
 then (some ([],9))
 else (Option.bind (a0t n t) fun r1 =>
 Option.bind (bif r1 != 0
 then (some true)
 else (Option.bind (a7V t l.Pos) fun r2 =>
 some (!r2))) fun q3 =>
 Option.bind (bif q3
 then (some true)
 else (Option.bind (a7V t l.Neg) fun r4 =>
 some (!r4))) fun q5 =>
 bif q5
 then (some ([],1))
 else (Option.bind (a0o 8 l.Pos) fun r6 =>
 Option.bind (w5 (r6.length+l.Neg.length) 8) fun _ =>
 Option.bind (a5i t (r6++l.Neg)) fun r8 =>
 Option.bind (a6H (l.Neg.length:Int) (l.Neg.length:Int) 24) fun m9 =>
 Option.bind (a0G n 0 l t r8 (List.replicate m9 (Record_place.mk 0 false 0:Record_place)) ([]) ()) fun r10 =>
 some (r10.2,0)))
def X7:Option Val :=
 some (Val.mk 5 0 (⟨#[]⟩:ByteArray) ([]:List Val) ([]:List Key) ([]:List Ent) ([]:List ByteArray))
def a2L (c:Int):Option Bool :=
 Option.bind (bif decide (97<=c)
 then (some (decide (c<=122)))
 else (some false)) fun q1 =>
 some q1
def a4c (c:Int):Option Bool :=
 Option.bind (bif decide (48<=c)
 then (some (decide (c<=57)))
 else (some false)) fun q1 =>
 some q1
def a58 (s:ByteArray)(x5:Int):Option (Fl Int (Sum Unit Bool)) :=
 bif decide (x5<(s.size:Int))
 then (Option.bind (a4i s x5) fun e6 =>
 Option.bind (a2L (e6.toNat:Int)) fun r7 =>
 Option.bind (bif !r7
 then (Option.bind (a4i s x5) fun e8 =>
 Option.bind (a4c (e8.toNat:Int)) fun r9 =>
 some (!r9))
 else (some false)) fun q10 =>
 Option.bind (bif q10
 then (Option.bind (a4i s x5) fun e11 =>
 some ((e11.toNat:Int) != 95))
 else (some false)) fun q12 =>
 bif q12
 then (some (.done (.inr false)))
 else (some (.next (wr .i64 (x5+1)))))
 else (some (.done (.inl ())))
def a2g (s:ByteArray):Option Bool :=
 Option.bind (bif decide ((s.size:Int)<1)
 then (some true)
 else (some (decide (16<(s.size:Int))))) fun q1 =>
 Option.bind (bif q1
 then (some true)
 else (Option.bind (a4i s 0) fun e2 =>
 Option.bind (a2L (e2.toNat:Int)) fun r3 =>
 some (!r3))) fun q4 =>
 bif q4
 then (some false)
 else (Option.bind (z7 (a58 s) ((s.size:Int).toNat+1) 1) fun b13 =>
 j9 (fun _ =>
 some true) (fun y15 =>
 some y15) b13)
def a1r (k:Key):Option Bool :=
 Option.bind (bif k.Kind==0
 then (Option.bind (a2g k.Text) fun r1 =>
 some r1)
 else (some false)) fun q2 =>
 Option.bind (bif q2
 then (some true)
 else (Option.bind (bif k.Kind==1
 then (some (decide ((k.Text.size:Int)<=64)))
 else (some false)) fun q3 =>
 some q3)) fun q4 =>
 some q4
def a1n (l:List Val):Option (List Val) :=
 Option.bind (w5 (0+l.length) 128) fun _ =>
 some l
def a2M (a:Int)(b:Int):Option Int :=
 bif decide (a<b)
 then (some (-1))
 else (bif decide (b<a)
 then (some 1)
 else (some 0))
def a1q (a:ByteArray)(b:ByteArray):Option Int :=
 bif a26 a b
 then (some (-1))
 else (bif !(a26 a b||Y6 a b)
 then (some 1)
 else (some 0))
def J4 (a:Key)(b:Key):Option Int :=
 bif a.Kind != b.Kind
 then (Option.bind (a2M a.Kind b.Kind) fun r1 =>
 some r1)
 else (Option.bind (a1q a.Text b.Text) fun r2 =>
 some r2)
def a2h (d:List Key)(x1:Int×(Int×Int×ByteArray×(List Val)×(List Key)×(List Ent)×(List ByteArray))):Option (Fl (Int×(Int×Int×ByteArray×(List Val)×(List Key)×(List Ent)×(List ByteArray))) (Sum (Int×Int×ByteArray×(List Val)×(List Key)×(List Ent)×(List ByteArray)) (Int×(Int×Int×ByteArray×(List Val)×(List Key)×(List Ent)×(List ByteArray))))) :=
 bif decide (x1.1<(d.length:Int))
 then (Option.bind (idx d x1.1) fun e2 =>
 Option.bind (a1r e2) fun r3 =>
 bif !r3
 then (some (.done (.inr (1,(0,0,(⟨#[]⟩:ByteArray),[],[],[],[])))))
 else (some (.next (wr .i64 (x1.1+1),(x1.2.1,x1.2.2.1,x1.2.2.2.1,x1.2.2.2.2.1,x1.2.2.2.2.2.1,x1.2.2.2.2.2.2.1,x1.2.2.2.2.2.2.2)))))
 else (some (.done (.inl (x1.2.1,x1.2.2.1,x1.2.2.2.1,x1.2.2.2.2.1,x1.2.2.2.2.2.1,x1.2.2.2.2.2.2.1,x1.2.2.2.2.2.2.2))))
def a5s (d:List Key)(x7:Int×(Int×Int×ByteArray×(List Val)×(List Key)×(List Ent)×(List ByteArray))×(Int×Int×ByteArray×(List Val)×(List Key)×(List Ent)×(List ByteArray)))(x8:Int):Option (Fl Int Int) :=
 Option.bind (bif decide (x8<(x7.2.2.2.2.2.2.1.length:Int))
 then (Option.bind (idx x7.2.2.2.2.2.2.1 x8) fun e9 =>
 Option.bind (idx d x7.1) fun e10 =>
 Option.bind (J4 e9 e10) fun r11 =>
 some (decide (r11<0)))
 else (some false)) fun q12 =>
 bif q12
 then (some (.next (wr .i64 (x8+1))))
 else (some (.done x8))
def a1o (d:List Key)(t:List Val)(x7:Int×(Int×Int×ByteArray×(List Val)×(List Key)×(List Ent)×(List ByteArray))×(Int×Int×ByteArray×(List Val)×(List Key)×(List Ent)×(List ByteArray))):Option (Fl (Int×(Int×Int×ByteArray×(List Val)×(List Key)×(List Ent)×(List ByteArray))×(Int×Int×ByteArray×(List Val)×(List Key)×(List Ent)×(List ByteArray))) (Sum ((Int×Int×ByteArray×(List Val)×(List Key)×(List Ent)×(List ByteArray))×(Int×Int×ByteArray×(List Val)×(List Key)×(List Ent)×(List ByteArray))) (Int×(Int×Int×ByteArray×(List Val)×(List Key)×(List Ent)×(List ByteArray))×(Int×Int×ByteArray×(List Val)×(List Key)×(List Ent)×(List ByteArray))))) :=
 bif decide (x7.1<(d.length:Int))
 then (Option.bind (z7 (a5s d x7) ((x7.2.2.2.2.2.2.1.length:Int).toNat+1) 0) fun b13 =>
 Option.bind (bif decide (b13<(x7.2.2.2.2.2.2.1.length:Int))
 then (Option.bind (idx x7.2.2.2.2.2.2.1 b13) fun e14 =>
 Option.bind (idx d x7.1) fun e15 =>
 some (a3B e14 e15))
 else (some false)) fun q16 =>
 bif q16
 then (some (.done (.inr (6,(0,0,(⟨#[]⟩:ByteArray),[],[],[],[]),(x7.2.2.1,x7.2.2.2.1,x7.2.2.2.2.1,x7.2.2.2.2.2.1,x7.2.2.2.2.2.2.1,x7.2.2.2.2.2.2.2.1,x7.2.2.2.2.2.2.2.2)))))
 else (Option.bind (cut x7.2.2.2.2.2.2.1 0 b13) fun y17 =>
 Option.bind (w5 (0+y17.length) 24) fun _ =>
 Option.bind (cut x7.2.2.2.2.2.1 0 b13) fun y19 =>
 Option.bind (a1n y19) fun r20 =>
 Option.bind (idx d x7.1) fun e21 =>
 Option.bind (w5 (y17.length+([e21]:List Key).length) 24) fun _ =>
 Option.bind (cut x7.2.2.2.2.2.2.1 b13 (x7.2.2.2.2.2.2.1.length:Int)) fun y23 =>
 Option.bind (w5 ((y17++([e21]:List Key)).length+y23.length) 24) fun _ =>
 Option.bind (idx t x7.1) fun e25 =>
 Option.bind (w5 (r20.length+([e25]:List Val).length) 128) fun _ =>
 Option.bind (cut x7.2.2.2.2.2.1 b13 (x7.2.2.2.2.2.1.length:Int)) fun y27 =>
 Option.bind (w5 ((r20++([e25]:List Val)).length+y27.length) 128) fun _ =>
 some (.next (wr .i64 (x7.1+1),(x7.2.1.1,x7.2.1.2.1,x7.2.1.2.2.1,x7.2.1.2.2.2.1,x7.2.1.2.2.2.2.1,x7.2.1.2.2.2.2.2.1,x7.2.1.2.2.2.2.2.2),(x7.2.2.1,x7.2.2.2.1,x7.2.2.2.2.1,(r20++([e25]:List Val))++y27,(y17++([e21]:List Key))++y23,x7.2.2.2.2.2.2.2.1,x7.2.2.2.2.2.2.2.2)))))
 else (some (.done (.inl ((x7.2.1.1,x7.2.1.2.1,x7.2.1.2.2.1,x7.2.1.2.2.2.1,x7.2.1.2.2.2.2.1,x7.2.1.2.2.2.2.2.1,x7.2.1.2.2.2.2.2.2),(x7.2.2.1,x7.2.2.2.1,x7.2.2.2.2.1,x7.2.2.2.2.2.1,x7.2.2.2.2.2.2.1,x7.2.2.2.2.2.2.2.1,x7.2.2.2.2.2.2.2.2)))))
def a0H (d:List Key)(t:List Val):Option (Val×Int) :=
 bif (d.length:Int) != (t.length:Int)
 then (some (Val.mk 0 0 (⟨#[]⟩:ByteArray) ([]:List Val) ([]:List Key) ([]:List Ent) ([]:List ByteArray),1))
 else (Option.bind (z7 (a2h d) ((d.length:Int).toNat+1) (0,(0,0,(⟨#[]⟩:ByteArray),[],[],[],[]))) fun (b4:Sum (Int×Int×ByteArray×(List Val)×(List Key)×(List Ent)×(List ByteArray)) (Int×(Int×Int×ByteArray×(List Val)×(List Key)×(List Ent)×(List ByteArray)))) =>
 j9 (fun x5 =>
 Option.bind (z7 (a1o d t) ((d.length:Int).toNat+1) (0,(x5.1,x5.2.1,x5.2.2.1,x5.2.2.2.1,x5.2.2.2.2.1,x5.2.2.2.2.2.1,x5.2.2.2.2.2.2),(8,0,(⟨#[]⟩:ByteArray),([]:List Val),([]:List Key),[],[]))) fun (b29:Sum ((Int×Int×ByteArray×(List Val)×(List Key)×(List Ent)×(List ByteArray))×(Int×Int×ByteArray×(List Val)×(List Key)×(List Ent)×(List ByteArray))) (Int×(Int×Int×ByteArray×(List Val)×(List Key)×(List Ent)×(List ByteArray))×(Int×Int×ByteArray×(List Val)×(List Key)×(List Ent)×(List ByteArray)))) =>
 j9 (fun x30 =>
 some (Val.mk x30.2.1 x30.2.2.1 x30.2.2.2.1 x30.2.2.2.2.1 x30.2.2.2.2.2.1 x30.2.2.2.2.2.2.1 x30.2.2.2.2.2.2.2,0)) (fun y31 =>
 some (Val.mk y31.2.1.1 y31.2.1.2.1 y31.2.1.2.2.1 y31.2.1.2.2.2.1 y31.2.1.2.2.2.2.1 y31.2.1.2.2.2.2.2.1 y31.2.1.2.2.2.2.2.2,y31.1)) b29) (fun y6 =>
 some (Val.mk y6.2.1 y6.2.2.1 y6.2.2.2.1 y6.2.2.2.2.1 y6.2.2.2.2.2.1 y6.2.2.2.2.2.2.1 y6.2.2.2.2.2.2.2,y6.1)) b4)
def c2o (kind:Int):Option (Value_used×Bool) :=
 Option.bind (bif kind==1
 then (some (kind==1))
 else (some (kind==4))) fun b1 =>
 bif b1
 then (some (Value_used.mk true false false false false,true))
 else (Option.bind (bif kind==2
 then (some (kind==2))
 else (some (kind==3))) fun b2 =>
 bif b2
 then (some (Value_used.mk false true false false false,true))
 else (bif kind==5
 then (some (Value_used.mk false false false false false,true))
 else (Option.bind (bif kind==6
 then (some (kind==6))
 else (some (kind==7))) fun b3 =>
 bif b3
 then (some (Value_used.mk false false true false false,true))
 else (bif kind==8
 then (some (Value_used.mk false false true true false,true))
 else (bif kind==9
 then (some (Value_used.mk true false false false true,true))
 else (some (Value_used.mk false false false false false,false)))))))
def b1H (l:List ByteArray)(compare:ByteArray->ByteArray->Option Int)(x1:Int):Option (Fl Int (Sum Unit Bool)) :=
 bif decide (x1<(l.length:Int))
 then (Option.bind (idx l (wr .i64 (x1-1))) fun e2 =>
 Option.bind (idx l x1) fun e3 =>
 Option.bind (compare e2 e3) fun r4 =>
 bif decide (0<=r4)
 then (some (.done (.inr false)))
 else (some (.next (wr .i64 (x1+1)))))
 else (some (.done (.inl ())))
def a8d (l:List ByteArray)(compare:ByteArray->ByteArray->Option Int):Option Bool :=
 Option.bind (z7 (b1H l compare) ((l.length:Int).toNat+1) 1) fun b5 =>
 j9 (fun _ =>
 some true) (fun y7 =>
 some y7) b5
def b6J (l:List ByteArray)(x5:Int):Option (Fl Int (Sum Unit Bool)) :=
 bif decide (x5<(l.length:Int))
 then (Option.bind (idx l x5) fun e6 =>
 Option.bind (a4J e6) fun r7 =>
 bif !r7
 then (some (.done (.inr false)))
 else (some (.next (wr .i64 (x5+1)))))
 else (some (.done (.inl ())))
def b1l (l:List ByteArray):Option Bool :=
 Option.bind (a8d l (fun z1 z2 =>
 Option.bind (a2B z1 z2) fun r3 =>
 some r3)) fun r4 =>
 bif !r4
 then (some false)
 else (Option.bind (z7 (b6J l) ((l.length:Int).toNat+1) 0) fun b8 =>
 j9 (fun _ =>
 some true) (fun y10 =>
 some y10) b8)
def b1d (l:List Key)(compare:Key->Key->Option Int)(x1:Int):Option (Fl Int (Sum Unit Bool)) :=
 bif decide (x1<(l.length:Int))
 then (Option.bind (idx l (wr .i64 (x1-1))) fun e2 =>
 Option.bind (idx l x1) fun e3 =>
 Option.bind (compare e2 e3) fun r4 =>
 bif decide (0<=r4)
 then (some (.done (.inr false)))
 else (some (.next (wr .i64 (x1+1)))))
 else (some (.done (.inl ())))
def a7N (l:List Key)(compare:Key->Key->Option Int):Option Bool :=
 Option.bind (z7 (b1d l compare) ((l.length:Int).toNat+1) 1) fun b5 =>
 j9 (fun _ =>
 some true) (fun y7 =>
 some y7) b5
def b9O (v:Val)(x6:Int):Option (Fl Int (Sum Unit Bool)) :=
 bif decide (x6<(v.Keys.length:Int))
 then (Option.bind (idx v.Keys x6) fun e7 =>
 Option.bind (a3b e7) fun r8 =>
 bif !r8
 then (some (.done (.inr false)))
 else (some (.next (wr .i64 (x6+1)))))
 else (some (.done (.inl ())))
def b4V (v:Val):Option Bool :=
 Option.bind (bif (v.Keys.length:Int) != (v.Kids.length:Int)
 then (some true)
 else (Option.bind (a7N v.Keys (fun z1 z2 =>
 Option.bind (V2 z1 z2) fun r3 =>
 some r3)) fun r4 =>
 some (!r4))) fun q5 =>
 bif q5
 then (some false)
 else (Option.bind (z7 (b9O v) ((v.Keys.length:Int).toNat+1) 0) fun b9 =>
 j9 (fun _ =>
 some true) (fun y11 =>
 some y11) b9)
def b0f (l:List Ent)(compare:Ent->Ent->Option Int)(x1:Int):Option (Fl Int (Sum Unit Bool)) :=
 bif decide (x1<(l.length:Int))
 then (Option.bind (idx l (wr .i64 (x1-1))) fun e2 =>
 Option.bind (idx l x1) fun e3 =>
 Option.bind (compare e2 e3) fun r4 =>
 bif decide (0<=r4)
 then (some (.done (.inr false)))
 else (some (.next (wr .i64 (x1+1)))))
 else (some (.done (.inl ())))
def a63 (l:List Ent)(compare:Ent->Ent->Option Int):Option Bool :=
 Option.bind (z7 (b0f l compare) ((l.length:Int).toNat+1) 1) fun b5 =>
 j9 (fun _ =>
 some true) (fun y7 =>
 some y7) b5
def a8O (a:List Val)(b:List Val)(compare:Val->Val->Option Int)(x2:Int):Option (Fl Int (Sum Unit Int)) :=
 bif decide (x2<(a.length:Int))
 then (Option.bind (idx a x2) fun e3 =>
 Option.bind (idx b x2) fun e4 =>
 Option.bind (compare e3 e4) fun r5 =>
 bif r5 != 0
 then (some (.done (.inr r5)))
 else (some (.next (wr .i64 (x2+1)))))
 else (some (.done (.inl ())))
def a6b (a:List Val)(b:List Val)(compare:Val->Val->Option Int):Option Int :=
 Option.bind (a1e (a.length:Int) (b.length:Int)) fun r1 =>
 bif r1 != 0
 then (some r1)
 else (Option.bind (z7 (a8O a b compare) ((a.length:Int).toNat+1) 0) fun b6 =>
 j9 (fun _ =>
 some 0) (fun y8 =>
 some y8) b6)
def a82 (x:Int):Option Bool :=
 some (x != x)
def b1k (x:Int)(y:Int):Option Int :=
 Option.bind (a82 x) fun r1 =>
 Option.bind (a82 y) fun r2 =>
 bif r1
 then (bif r2
 then (some 0)
 else (some (-1)))
 else (bif r2
 then (some 1)
 else (bif decide (x<y)
 then (some (-1))
 else (bif decide (y<x)
 then (some 1)
 else (some 0))))
def a9A (a:List Key)(b:List Key)(compare:Key->Key->Option Int)(x2:Int):Option (Fl Int (Sum Unit Int)) :=
 bif decide (x2<(a.length:Int))
 then (Option.bind (idx a x2) fun e3 =>
 Option.bind (idx b x2) fun e4 =>
 Option.bind (compare e3 e4) fun r5 =>
 bif r5 != 0
 then (some (.done (.inr r5)))
 else (some (.next (wr .i64 (x2+1)))))
 else (some (.done (.inl ())))
def a6N (a:List Key)(b:List Key)(compare:Key->Key->Option Int):Option Int :=
 Option.bind (a1e (a.length:Int) (b.length:Int)) fun r1 =>
 bif r1 != 0
 then (some r1)
 else (Option.bind (z7 (a9A a b compare) ((a.length:Int).toNat+1) 0) fun b6 =>
 j9 (fun _ =>
 some 0) (fun y8 =>
 some y8) b6)
def a8I (a:List Ent)(b:List Ent)(compare:Ent->Ent->Option Int)(x2:Int):Option (Fl Int (Sum Unit Int)) :=
 bif decide (x2<(a.length:Int))
 then (Option.bind (idx a x2) fun e3 =>
 Option.bind (idx b x2) fun e4 =>
 Option.bind (compare e3 e4) fun r5 =>
 bif r5 != 0
 then (some (.done (.inr r5)))
 else (some (.next (wr .i64 (x2+1)))))
 else (some (.done (.inl ())))
def a5Y (a:List Ent)(b:List Ent)(compare:Ent->Ent->Option Int):Option Int :=
 Option.bind (a1e (a.length:Int) (b.length:Int)) fun r1 =>
 bif r1 != 0
 then (some r1)
 else (Option.bind (z7 (a8I a b compare) ((a.length:Int).toNat+1) 0) fun b6 =>
 j9 (fun _ =>
 some 0) (fun y8 =>
 some y8) b6)
def a97 (a:List ByteArray)(b:List ByteArray)(compare:ByteArray->ByteArray->Option Int)(x2:Int):Option (Fl Int (Sum Unit Int)) :=
 bif decide (x2<(a.length:Int))
 then (Option.bind (idx a x2) fun e3 =>
 Option.bind (idx b x2) fun e4 =>
 Option.bind (compare e3 e4) fun r5 =>
 bif r5 != 0
 then (some (.done (.inr r5)))
 else (some (.next (wr .i64 (x2+1)))))
 else (some (.done (.inl ())))
def a6Z (a:List ByteArray)(b:List ByteArray)(compare:ByteArray->ByteArray->Option Int):Option Int :=
 Option.bind (a1e (a.length:Int) (b.length:Int)) fun r1 =>
 bif r1 != 0
 then (some r1)
 else (Option.bind (z7 (a97 a b compare) ((a.length:Int).toNat+1) 0) fun b6 =>
 j9 (fun _ =>
 some 0) (fun y8 =>
 some y8) b6)
def c1q (_:Nat)(_:Val->Val->Option Int)(rec_value_compareEntries:Ent->Ent->Option Int)(rec_value_compareValues:(List Val)->(List Val)->Option Int)(a:Val)(b:Val):Option Int :=
 Option.bind (a1e a.Kind b.Kind) fun r1 =>
 bif r1 != 0
 then (some r1)
 else (Option.bind (b1k a.Int_ b.Int_) fun r2 =>
 bif r2 != 0
 then (some r2)
 else (Option.bind (a2B a.Text b.Text) fun r3 =>
 bif r3 != 0
 then (some r3)
 else (Option.bind (a6N a.Keys b.Keys (fun z4 z5 =>
 Option.bind (V2 z4 z5) fun r6 =>
 some r6)) fun r7 =>
 bif r7 != 0
 then (some r7)
 else (Option.bind (rec_value_compareValues a.Kids b.Kids) fun r8 =>
 bif r8 != 0
 then (some r8)
 else (Option.bind (a5Y a.Entries b.Entries (fun z9 z10 =>
 Option.bind (rec_value_compareEntries z9 z10) fun r11 =>
 some r11)) fun r12 =>
 bif r12 != 0
 then (some r12)
 else (Option.bind (a6Z a.Labels b.Labels (fun z13 z14 =>
 Option.bind (a2B z13 z14) fun r15 =>
 some r15)) fun r16 =>
 some r16))))))
def b4f (_:Nat)(rec_value_Compare:Val->Val->Option Int)(_:Ent->Ent->Option Int)(rec_value_compareValues:(List Val)->(List Val)->Option Int)(a:Ent)(b:Ent):Option Int :=
 Option.bind (rec_value_compareValues a.Args b.Args) fun r1 =>
 bif r1 != 0
 then (some r1)
 else (bif a.Fails != b.Fails
 then (bif a.Fails
 then (some (-1))
 else (some 1))
 else (Option.bind (rec_value_Compare a.Result b.Result) fun r2 =>
 some r2))
def b5t (_:Nat)(rec_value_Compare:Val->Val->Option Int)(_:Ent->Ent->Option Int)(_:(List Val)->(List Val)->Option Int)(a:List Val)(b:List Val):Option Int :=
 Option.bind (a6b a b (fun z1 z2 =>
 Option.bind (rec_value_Compare z1 z2) fun r3 =>
 some r3)) fun r4 =>
 some r4
def V0:Nat->(Val->Val->Option Int)×(Ent->Ent->Option Int)×((List Val)->(List Val)->Option Int)
 | 0=>(fun _ _=>none,fun _ _=>none,fun _ _=>none)
 | n+1=>(c1q n ((V0 n).1) ((V0 n).2.1) ((V0 n).2.2),b4f n ((V0 n).1) ((V0 n).2.1) ((V0 n).2.2),b5t n ((V0 n).1) ((V0 n).2.1) ((V0 n).2.2))
def b7b (n:Nat):Val->Val->Option Int:=(V0 n).1
def a85 (n:Nat):Ent->Ent->Option Int:=(V0 n).2.1
def b7u (n:Nat):(List Val)->(List Val)->Option Int:=(V0 n).2.2
def c0l (n:Nat)(a:Val)(b:Val):Option Bool :=
 Option.bind (b7b n a b) fun r1 =>
 some (r1==0)
def b8E (n:Nat)(v:Val):Option Bool :=
 Option.bind (c0l n v (Val.mk 0 0 (⟨#[]⟩:ByteArray) ([]:List Val) ([]:List Key) ([]:List Ent) ([]:List ByteArray))) fun r1 =>
 some r1
def b2x (n:Nat)(e:Ent)(arity:Int):Option Bool :=
 Option.bind (bif (e.Args.length:Int)==arity
 then (Option.bind (bif !e.Fails
 then (some true)
 else (Option.bind (b8E n e.Result) fun r1 =>
 some r1)) fun q2 =>
 some q2)
 else (some false)) fun q3 =>
 some q3
def b4K (v:Val)(n:Nat)(x7:Int):Option (Fl Int (Sum Unit Bool)) :=
 bif decide (x7<(v.Entries.length:Int))
 then (Option.bind (idx v.Entries x7) fun e8 =>
 Option.bind (b2x n e8 v.Int_) fun r9 =>
 bif !r9
 then (some (.done (.inr false)))
 else (some (.next (wr .i64 (x7+1)))))
 else (some (.done (.inl ())))
def a9E (n:Nat)(v:Val):Option Bool :=
 Option.bind (bif decide (v.Int_<0)
 then (some true)
 else (some (decide (4<v.Int_)))) fun q1 =>
 Option.bind (bif q1
 then (some true)
 else (Option.bind (a63 v.Entries (fun z2 z3 =>
 Option.bind (a85 n z2 z3) fun r4 =>
 some r4)) fun r5 =>
 some (!r5))) fun q6 =>
 bif q6
 then (some false)
 else (Option.bind (z7 (b4K v n) ((v.Entries.length:Int).toNat+1) 0) fun b10 =>
 j9 (fun _ =>
 some true) (fun y12 =>
 some y12) b10)
def b3x (n:Nat)(d:Val):Option Bool :=
 Option.bind (c2o d.Kind) fun r1 =>
 Option.bind (bif !r1.2
 then (some true)
 else (Option.bind (b1l d.Labels) fun r2 =>
 some (!r2))) fun q3 =>
 bif q3
 then (some false)
 else (Option.bind (bif !r1.1.number
 then (some (d.Int_ != 0))
 else (some false)) fun q4 =>
 Option.bind (bif q4
 then (some true)
 else (Option.bind (bif !r1.1.text_
 then (some (!(Y6 d.Text (⟨#[]⟩:ByteArray))))
 else (some false)) fun q5 =>
 some q5)) fun q6 =>
 Option.bind (bif q6
 then (some true)
 else (Option.bind (bif !r1.1.kids
 then (some (decide (0<(d.Kids.length:Int))))
 else (some false)) fun q7 =>
 some q7)) fun q8 =>
 Option.bind (bif q8
 then (some true)
 else (Option.bind (bif !r1.1.keys
 then (some (decide (0<(d.Keys.length:Int))))
 else (some false)) fun q9 =>
 some q9)) fun q10 =>
 Option.bind (bif q10
 then (some true)
 else (Option.bind (bif !r1.1.entries
 then (some (decide (0<(d.Entries.length:Int))))
 else (some false)) fun q11 =>
 some q11)) fun q12 =>
 bif q12
 then (some false)
 else (bif d.Kind==2
 then (some (decide ((d.Text.size:Int)<=64)))
 else (bif d.Kind==3
 then (Option.bind (a5W d.Text) fun r13 =>
 some r13)
 else (bif d.Kind==4
 then (some (decide (0<=d.Int_)))
 else (bif d.Kind==6
 then (some (decide ((d.Kids.length:Int)<=4)))
 else (bif d.Kind==7
 then (Option.bind (bif (d.Kids.length:Int)==2
 then (Option.bind (idx d.Kids 1) fun e14 =>
 Option.bind (bif e14.Kind==5
 then (some true)
 else (Option.bind (idx d.Kids 1) fun e15 =>
 some (e15.Kind==7))) fun q16 =>
 some q16)
 else (some false)) fun q17 =>
 some q17)
 else (bif d.Kind==8
 then (Option.bind (b4V d) fun r18 =>
 some r18)
 else (bif d.Kind==9
 then (Option.bind (a9E n d) fun r19 =>
 some r19)
 else (some true)))))))))
def c2I (v:Val)(x2:(List Val)×Int):Option (Fl ((List Val)×Int) (List Val)) :=
 bif decide (x2.2<(v.Entries.length:Int))
 then (Option.bind (idx v.Entries x2.2) fun e3 =>
 Option.bind (w5 (x2.1.length+e3.Args.length) 128) fun _ =>
 bif !e3.Fails
 then (Option.bind (w5 ((x2.1++e3.Args).length+([e3.Result]:List Val).length) 128) fun _ =>
 some (.next ((x2.1++e3.Args)++([e3.Result]:List Val),wr .i64 (x2.2+1))))
 else (some (.next (x2.1++e3.Args,wr .i64 (x2.2+1)))))
 else (some (.done x2.1))
def c0m (v:Val):Option (List Val) :=
 Option.bind (a0o 128 v.Kids) fun r1 =>
 Option.bind (z7 (c2I v) ((v.Entries.length:Int).toNat+1) (r1,0)) fun b6 =>
 some b6
def b8Q (r2:List Val)(rec_value_validTree:Val->Option Bool)(x3:Int):Option (Fl Int (Sum Unit Bool)) :=
 bif decide (x3<(r2.length:Int))
 then (Option.bind (idx r2 x3) fun e4 =>
 Option.bind (rec_value_validTree e4) fun r5 =>
 bif !r5
 then (some (.done (.inr false)))
 else (some (.next (wr .i64 (x3+1)))))
 else (some (.done (.inl ())))
def b96 (n:Nat)(rec_value_validTree:Val->Option Bool)(v:Val):Option Bool :=
 Option.bind (b3x n v) fun r1 =>
 bif !r1
 then (some false)
 else (Option.bind (c0m v) fun r2 =>
 Option.bind (z7 (b8Q r2 rec_value_validTree) ((r2.length:Int).toNat+1) 0) fun b6 =>
 j9 (fun _ =>
 some true) (fun y8 =>
 some y8) b6)
def a9q:Nat->Val->Option Bool
 | 0=>fun _=>none
 | n+1=>b96 n (a9q n)
def a9X (n:Nat)(v:Val):Option Int :=
 Option.bind (a9q n v) fun r1 =>
 bif !r1
 then (some 1)
 else (some 0)
def a6e (s:Api_Shape):Option Bool :=
 Option.bind (bif (s.Keys.length:Int)==(s.States.length:Int)
 then (some ((s.Keys.length:Int)==(s.Parts.length:Int)))
 else (some false)) fun q1 =>
 some q1
def c15 (s:Api_Shape)(x3:(List Api_Goal)×Int):Option (Fl ((List Api_Goal)×Int) (List Api_Goal)) :=
 bif decide (x3.2<(s.Some.length:Int))
 then (Option.bind (idx s.Some x3.2) fun e4 =>
 Option.bind (w5 (x3.1.length+([e4.Goal]:List Api_Goal).length) 56) fun _ =>
 some (.next (x3.1++([e4.Goal]:List Api_Goal),wr .i64 (x3.2+1))))
 else (some (.done x3.1))
def b8Z (s:Api_Shape):Option (List Api_Goal) :=
 Option.bind (a0o 56 s.Parts) fun r1 =>
 Option.bind (w5 (r1.length+([s.Rest.1,s.Rest.2]:List Api_Goal).length) 56) fun _ =>
 Option.bind (z7 (c15 s) ((s.Some.length:Int).toNat+1) (r1++([s.Rest.1,s.Rest.2]:List Api_Goal),0)) fun b6 =>
 some b6
def c2L (t:Api_Type)(g:Api_Goal)(r1:List Int)(x3:Int):Option (Fl Int (Sum Unit Bool)) :=
 bif decide (x3<((r1++g.Neg).length:Int))
 then (Option.bind (idx (r1++g.Neg) x3) fun e4 =>
 Option.bind (bif decide (e4<0)
 then (some true)
 else (some (decide ((t.Nodes.length:Int)<=e4)))) fun q5 =>
 bif q5
 then (some (.done (.inr false)))
 else (some (.next (wr .i64 (x3+1)))))
 else (some (.done (.inl ())))
def b4s (t:Api_Type)(g:Api_Goal):Option Bool :=
 Option.bind (a0o 8 g.Pos) fun r1 =>
 Option.bind (w5 (r1.length+g.Neg.length) 8) fun _ =>
 Option.bind (z7 (c2L t g r1) (((r1++g.Neg).length:Int).toNat+1) 0) fun b6 =>
 j9 (fun _ =>
 some true) (fun y8 =>
 some y8) b6
def a00 (s:List Key)(v:Key)(x1:Int):Option (Fl Int (Sum Unit Int)) :=
 bif decide (x1<(s.length:Int))
 then (Option.bind (idx s x1) fun e2 =>
 bif a3B v e2
 then (some (.done (.inr x1)))
 else (some (.next (wr .i64 (x1+1)))))
 else (some (.done (.inl ())))
def a1s (s:List Key)(v:Key):Option Int :=
 Option.bind (z7 (a00 s v) ((s.length:Int).toNat+1) 0) fun b3 =>
 j9 (fun _ =>
 some (-1)) (fun y5 =>
 some y5) b3
def c0e (kind:Int):Option Int :=
 bif kind==5
 then (some 2)
 else (bif kind==7
 then (some 3)
 else (bif kind==8
 then (some 4)
 else (bif kind==9
 then (some 5)
 else (bif kind==11
 then (some 6)
 else (some 9)))))
def V4 (s:List Key)(v:Key):Option Bool :=
 Option.bind (a1s s v) fun r1 =>
 some (decide (0<=r1))
def a1l (s:List ByteArray)(v:ByteArray)(x1:Int):Option (Fl Int (Sum Unit Int)) :=
 bif decide (x1<(s.length:Int))
 then (Option.bind (idx s x1) fun e2 =>
 bif Y6 v e2
 then (some (.done (.inr x1)))
 else (some (.next (wr .i64 (x1+1)))))
 else (some (.done (.inl ())))
def a3T (s:List ByteArray)(v:ByteArray):Option Int :=
 Option.bind (z7 (a1l s v) ((s.length:Int).toNat+1) 0) fun b3 =>
 j9 (fun _ =>
 some (-1)) (fun y5 =>
 some y5) b3
def a1m (s:List ByteArray)(v:ByteArray):Option Bool :=
 Option.bind (a3T s v) fun r1 =>
 some (decide (0<=r1))
def a72 (l:List Val)(t:Api_Type)(nodes:List Int)(rec_core_Has:Val->Api_Type->Int->Option Bool)(x1:Int):Option (Fl Int (Sum Unit Bool)) :=
 bif decide (x1<(l.length:Int))
 then (Option.bind (idx l x1) fun e2 =>
 Option.bind (idx nodes x1) fun e3 =>
 Option.bind (rec_core_Has e2 t e3) fun r4 =>
 bif !r4
 then (some (.done (.inr false)))
 else (some (.next (wr .i64 (x1+1)))))
 else (some (.done (.inl ())))
def a43 (v:Val)(t:Api_Type)(n_2:Api_TypeNode)(rec_core_EntryAllowed:Ent->Api_Type->Api_TypeNode->Option Bool)(x1:Int):Option (Fl Int (Sum Unit Bool)) :=
 bif decide (x1<(v.Entries.length:Int))
 then (Option.bind (idx v.Entries x1) fun e2 =>
 Option.bind (rec_core_EntryAllowed e2 t n_2) fun r3 =>
 bif !r3
 then (some (.done (.inr false)))
 else (some (.next (wr .i64 (x1+1)))))
 else (some (.done (.inl ())))
def a7F (v:Val)(n_2:Api_TypeNode)(x1:Int):Option (Fl Int (Sum Unit Bool)) :=
 bif decide (x1<(n_2.Fields.length:Int))
 then (Option.bind (idx n_2.Fields x1) fun e2 =>
 Option.bind (bif !e2.Optional
 then (Option.bind (V4 v.Keys e2.Key_) fun r3 =>
 some (!r3))
 else (some false)) fun q4 =>
 bif q4
 then (some (.done (.inr false)))
 else (some (.next (wr .i64 (x1+1)))))
 else (some (.done (.inl ())))
def a5X (v:Val)(t:Api_Type)(n_2:Api_TypeNode)(rec_core_Has:Val->Api_Type->Int->Option Bool)(x8:Int):Option (Fl Int (Sum Unit Bool)) :=
 bif decide (x8<(v.Keys.length:Int))
 then (Option.bind (idx v.Keys x8) fun e9 =>
 Option.bind (idx v.Kids x8) fun e10 =>
 Option.bind (a7H n_2 e9) fun r11 =>
 Option.bind (rec_core_Has e10 t r11) fun r12 =>
 bif !r12
 then (some (.done (.inr false)))
 else (some (.next (wr .i64 (x8+1)))))
 else (some (.done (.inl ())))
def a8R (_:Nat)(_:(List Val)->Api_Type->(List Int)->Option Bool)(_:Ent->Api_Type->Api_TypeNode->Option Bool)(_:Val->Api_Type->Api_TypeNode->Option Bool)(rec_core_Has:Val->Api_Type->Int->Option Bool)(_:Int->Val->Api_Type->Option Bool)(_:Int->Val->Api_Type->Option Bool)(_:Val->Api_Type->Api_TypeNode->Option Bool)(l:List Val)(t:Api_Type)(nodes:List Int):Option Bool :=
 bif (l.length:Int) != (nodes.length:Int)
 then (some false)
 else (Option.bind (z7 (a72 l t nodes rec_core_Has) ((l.length:Int).toNat+1) 0) fun b5 =>
 j9 (fun _ =>
 some true) (fun y7 =>
 some y7) b5)
def a6T (_:Nat)(rec_core_all:(List Val)->Api_Type->(List Int)->Option Bool)(_:Ent->Api_Type->Api_TypeNode->Option Bool)(_:Val->Api_Type->Api_TypeNode->Option Bool)(rec_core_Has:Val->Api_Type->Int->Option Bool)(_:Int->Val->Api_Type->Option Bool)(_:Int->Val->Api_Type->Option Bool)(_:Val->Api_Type->Api_TypeNode->Option Bool)(e:Ent)(t:Api_Type)(n_2:Api_TypeNode):Option Bool :=
 Option.bind (cut n_2.Kids 0 (wr .i64 ((n_2.Kids.length:Int)-1))) fun y1 =>
 Option.bind (rec_core_all e.Args t y1) fun r2 =>
 Option.bind (bif !r2
 then (some true)
 else (Option.bind (bif !e.Fails
 then (Option.bind (idx n_2.Kids (wr .i64 ((n_2.Kids.length:Int)-1))) fun e3 =>
 Option.bind (rec_core_Has e.Result t e3) fun r4 =>
 some r4)
 else (some false)) fun q5 =>
 some q5)) fun q6 =>
 some q6
def a7f (_:Nat)(_:(List Val)->Api_Type->(List Int)->Option Bool)(rec_core_EntryAllowed:Ent->Api_Type->Api_TypeNode->Option Bool)(_:Val->Api_Type->Api_TypeNode->Option Bool)(_:Val->Api_Type->Int->Option Bool)(_:Int->Val->Api_Type->Option Bool)(_:Int->Val->Api_Type->Option Bool)(_:Val->Api_Type->Api_TypeNode->Option Bool)(v:Val)(t:Api_Type)(n_2:Api_TypeNode):Option Bool :=
 bif v.Int_ != (wr .i64 ((n_2.Kids.length:Int)-1))
 then (some false)
 else (Option.bind (z7 (a43 v t n_2 rec_core_EntryAllowed) ((v.Entries.length:Int).toNat+1) 0) fun b4 =>
 j9 (fun _ =>
 some true) (fun y6 =>
 some y6) b4)
def b6Y (_:Nat)(rec_core_all:(List Val)->Api_Type->(List Int)->Option Bool)(_:Ent->Api_Type->Api_TypeNode->Option Bool)(rec_core_functionHas:Val->Api_Type->Api_TypeNode->Option Bool)(rec_core_Has:Val->Api_Type->Int->Option Bool)(rec_core_Has_1:Int->Val->Api_Type->Option Bool)(rec_core_Has_2:Int->Val->Api_Type->Option Bool)(rec_core_mapHas:Val->Api_Type->Api_TypeNode->Option Bool)(d:Val)(t:Api_Type)(a2_2:Int):Option Bool :=
 Option.bind (idx t.Nodes a2_2) fun e1 =>
 bif e1.Kind==2
 then (some true)
 else (bif e1.Kind==3
 then (Option.bind (bif d.Kind==1
 then (some (decide (e1.Lo<=d.Int_)))
 else (some false)) fun q2 =>
 Option.bind (bif q2
 then (some (decide (d.Int_<=e1.Hi)))
 else (some false)) fun q3 =>
 some q3)
 else (bif e1.Kind==4
 then (Option.bind (bif d.Kind==2
 then (some (Y6 d.Text e1.Text))
 else (some false)) fun q4 =>
 some q4)
 else (bif e1.Kind==6
 then (Option.bind (bif d.Kind==3
 then (some (Y6 d.Text e1.Text))
 else (some false)) fun q5 =>
 some q5)
 else (Option.bind (bif e1.Kind==5
 then (some (e1.Kind==5))
 else (bif e1.Kind==7
 then (some (e1.Kind==7))
 else (bif e1.Kind==8
 then (some (e1.Kind==8))
 else (bif e1.Kind==9
 then (some (e1.Kind==9))
 else (bif e1.Kind==11
 then (some (e1.Kind==11))
 else (some (e1.Kind==15))))))) fun b6 =>
 bif b6
 then (Option.bind (c0e e1.Kind) fun r7 =>
 some (d.Kind==r7))
 else (bif e1.Kind==10
 then (Option.bind (bif d.Kind==6
 then (Option.bind (rec_core_all d.Kids t e1.Kids) fun r8 =>
 some r8)
 else (some false)) fun q9 =>
 some q9)
 else (bif e1.Kind==12
 then (Option.bind (bif d.Kind==7
 then (Option.bind (rec_core_all d.Kids t e1.Kids) fun r10 =>
 some r10)
 else (some false)) fun q11 =>
 some q11)
 else (bif e1.Kind==13
 then (Option.bind (bif d.Kind==8
 then (Option.bind (rec_core_mapHas d t e1) fun r12 =>
 some r12)
 else (some false)) fun q13 =>
 some q13)
 else (bif e1.Kind==14
 then (Option.bind (bif d.Kind==9
 then (Option.bind (rec_core_functionHas d t e1) fun r14 =>
 some r14)
 else (some false)) fun q15 =>
 some q15)
 else (bif e1.Kind==16
 then (Option.bind (Y1 e1.Kids (fun z16 =>
 Option.bind (rec_core_Has_1 z16 d t) fun r17 =>
 some r17)) fun r18 =>
 some r18)
 else (bif e1.Kind==17
 then (Option.bind (Y1 e1.Kids (fun z19 =>
 Option.bind (rec_core_Has_2 z19 d t) fun r20 =>
 some r20)) fun r21 =>
 some (!r21))
 else (bif e1.Kind==18
 then (Option.bind (idx e1.Kids 0) fun e22 =>
 Option.bind (rec_core_Has d t e22) fun r23 =>
 some (!r23))
 else (bif e1.Kind==19
 then (Option.bind (a1m d.Labels e1.Text) fun r24 =>
 some r24)
 else (some false)))))))))))))
def b2z (_:Nat)(_:(List Val)->Api_Type->(List Int)->Option Bool)(_:Ent->Api_Type->Api_TypeNode->Option Bool)(_:Val->Api_Type->Api_TypeNode->Option Bool)(rec_core_Has:Val->Api_Type->Int->Option Bool)(_:Int->Val->Api_Type->Option Bool)(_:Int->Val->Api_Type->Option Bool)(_:Val->Api_Type->Api_TypeNode->Option Bool)(k:Int)(a1_1:Val)(a2_2:Api_Type):Option Bool :=
 Option.bind (rec_core_Has a1_1 a2_2 k) fun r1 =>
 some r1
def b2D (_:Nat)(_:(List Val)->Api_Type->(List Int)->Option Bool)(_:Ent->Api_Type->Api_TypeNode->Option Bool)(_:Val->Api_Type->Api_TypeNode->Option Bool)(rec_core_Has:Val->Api_Type->Int->Option Bool)(_:Int->Val->Api_Type->Option Bool)(_:Int->Val->Api_Type->Option Bool)(_:Val->Api_Type->Api_TypeNode->Option Bool)(k:Int)(a1_1:Val)(a2_2:Api_Type):Option Bool :=
 Option.bind (rec_core_Has a1_1 a2_2 k) fun r1 =>
 some (!r1)
def b1a (_:Nat)(_:(List Val)->Api_Type->(List Int)->Option Bool)(_:Ent->Api_Type->Api_TypeNode->Option Bool)(_:Val->Api_Type->Api_TypeNode->Option Bool)(rec_core_Has:Val->Api_Type->Int->Option Bool)(_:Int->Val->Api_Type->Option Bool)(_:Int->Val->Api_Type->Option Bool)(_:Val->Api_Type->Api_TypeNode->Option Bool)(v:Val)(t:Api_Type)(n_2:Api_TypeNode):Option Bool :=
 Option.bind (z7 (a7F v n_2) ((n_2.Fields.length:Int).toNat+1) 0) fun b5 =>
 j9 (fun _ =>
 Option.bind (z7 (a5X v t n_2 rec_core_Has) ((v.Keys.length:Int).toNat+1) 0) fun b13 =>
 j9 (fun _ =>
 some true) (fun y15 =>
 some y15) b13) (fun y7 =>
 some y7) b5
def j8:Nat->((List Val)->Api_Type->(List Int)->Option Bool)×(Ent->Api_Type->Api_TypeNode->Option Bool)×(Val->Api_Type->Api_TypeNode->Option Bool)×(Val->Api_Type->Int->Option Bool)×(Int->Val->Api_Type->Option Bool)×(Int->Val->Api_Type->Option Bool)×(Val->Api_Type->Api_TypeNode->Option Bool)
 | 0=>(fun _ _ _=>none,fun _ _ _=>none,fun _ _ _=>none,fun _ _ _=>none,fun _ _ _=>none,fun _ _ _=>none,fun _ _ _=>none)
 | n+1=>(a8R n ((j8 n).1) ((j8 n).2.1) ((j8 n).2.2.1) ((j8 n).2.2.2.1) ((j8 n).2.2.2.2.1) ((j8 n).2.2.2.2.2.1) ((j8 n).2.2.2.2.2.2),a6T n ((j8 n).1) ((j8 n).2.1) ((j8 n).2.2.1) ((j8 n).2.2.2.1) ((j8 n).2.2.2.2.1) ((j8 n).2.2.2.2.2.1) ((j8 n).2.2.2.2.2.2),a7f n ((j8 n).1) ((j8 n).2.1) ((j8 n).2.2.1) ((j8 n).2.2.2.1) ((j8 n).2.2.2.2.1) ((j8 n).2.2.2.2.2.1) ((j8 n).2.2.2.2.2.2),b6Y n ((j8 n).1) ((j8 n).2.1) ((j8 n).2.2.1) ((j8 n).2.2.2.1) ((j8 n).2.2.2.2.1) ((j8 n).2.2.2.2.2.1) ((j8 n).2.2.2.2.2.2),b2z n ((j8 n).1) ((j8 n).2.1) ((j8 n).2.2.1) ((j8 n).2.2.2.1) ((j8 n).2.2.2.2.1) ((j8 n).2.2.2.2.2.1) ((j8 n).2.2.2.2.2.2),b2D n ((j8 n).1) ((j8 n).2.1) ((j8 n).2.2.1) ((j8 n).2.2.2.1) ((j8 n).2.2.2.2.1) ((j8 n).2.2.2.2.2.1) ((j8 n).2.2.2.2.2.2),b1a n ((j8 n).1) ((j8 n).2.1) ((j8 n).2.2.1) ((j8 n).2.2.2.1) ((j8 n).2.2.2.2.1) ((j8 n).2.2.2.2.2.1) ((j8 n).2.2.2.2.2.2))
def a5G (n:Nat):(List Val)->Api_Type->(List Int)->Option Bool:=(j8 n).1
def W7 (n:Nat):Ent->Api_Type->Api_TypeNode->Option Bool:=(j8 n).2.1
def a0k (n:Nat):Val->Api_Type->Api_TypeNode->Option Bool:=(j8 n).2.2.1
def X9 (n:Nat):Val->Api_Type->Int->Option Bool:=(j8 n).2.2.2.1
def a3o (n:Nat):Int->Val->Api_Type->Option Bool:=(j8 n).2.2.2.2.1
def a3q (n:Nat):Int->Val->Api_Type->Option Bool:=(j8 n).2.2.2.2.2.1
def a2y (n:Nat):Val->Api_Type->Api_TypeNode->Option Bool:=(j8 n).2.2.2.2.2.2
def b7g (n:Nat)(i:Int)(a1_1:Val)(a2_2:Api_Type):Option Bool :=
 Option.bind (X9 n a1_1 a2_2 i) fun r1 =>
 some (!r1)
def b7d (n:Nat)(i:Int)(a1_1:Val)(a2_2:Api_Type):Option Bool :=
 Option.bind (X9 n a1_1 a2_2 i) fun r1 =>
 some r1
def c0d (n:Nat)(v:Val)(t:Api_Type)(pos:List Int)(neg:List Int):Option Bool :=
 Option.bind (Y1 pos (fun z1 =>
 Option.bind (b7g n z1 v t) fun r2 =>
 some r2)) fun r3 =>
 Option.bind (bif !r3
 then (Option.bind (Y1 neg (fun z4 =>
 Option.bind (b7d n z4 v t) fun r5 =>
 some r5)) fun r6 =>
 some (!r6))
 else (some false)) fun q7 =>
 some q7
def a59 (n:Nat)(v:Val)(t:Api_Type)(g:Api_Goal):Option Bool :=
 Option.bind (a9X n v) fun r1 =>
 Option.bind (bif r1 != 0
 then (some true)
 else (Option.bind (a0t n t) fun r2 =>
 some (r2 != 0))) fun q3 =>
 Option.bind (bif q3
 then (some true)
 else (Option.bind (b4s t g) fun r4 =>
 some (!r4))) fun q5 =>
 bif q5
 then (some false)
 else (Option.bind (bif g.Lists
 then (some (v.Kind != 5))
 else (some false)) fun q6 =>
 Option.bind (bif q6
 then (some (v.Kind != 7))
 else (some false)) fun q7 =>
 bif q7
 then (some false)
 else (Option.bind (c0d n v t g.Pos g.Neg) fun r8 =>
 some r8))
def b5l (n:Nat)(v:Val)(t:Api_Type)(key:Key)(state:Int)(part:Api_Goal):Option Bool :=
 Option.bind (a1s v.Keys key) fun r1 =>
 bif state==0
 then (some (decide (r1<0)))
 else (bif state==1
 then (Option.bind (bif decide (0<=r1)
 then (Option.bind (idx v.Kids r1) fun e2 =>
 Option.bind (a59 n e2 t part) fun r3 =>
 some r3)
 else (some false)) fun q4 =>
 some q4)
 else (bif state==2
 then (Option.bind (bif decide (r1<0)
 then (some true)
 else (Option.bind (idx v.Kids r1) fun e5 =>
 Option.bind (a59 n e5 t part) fun r6 =>
 some r6)) fun q7 =>
 some q7)
 else (some false)))
def b9V (v:Val)(t:Api_Type)(listed:List Key)(want:Api_SomeKey)(n:Nat)(x1:Int):Option (Fl Int (Sum Unit Bool)) :=
 bif decide (x1<(v.Keys.length:Int))
 then (Option.bind (idx v.Keys x1) fun e2 =>
 Option.bind (bif e2.Kind==want.Kind
 then (Option.bind (V4 listed e2) fun r3 =>
 some (!r3))
 else (some false)) fun q4 =>
 Option.bind (bif q4
 then (Option.bind (idx v.Kids x1) fun e5 =>
 Option.bind (a59 n e5 t want.Goal) fun r6 =>
 some r6)
 else (some false)) fun q7 =>
 bif q7
 then (some (.done (.inr true)))
 else (some (.next (wr .i64 (x1+1)))))
 else (some (.done (.inl ())))
def b50 (n:Nat)(v:Val)(t:Api_Type)(listed:List Key)(want:Api_SomeKey):Option Bool :=
 Option.bind (z7 (b9V v t listed want n) ((v.Keys.length:Int).toNat+1) 0) fun b8 =>
 j9 (fun _ =>
 some false) (fun y10 =>
 some y10) b8
def c0a (t:Api_Type)(r7:List Api_Goal)(x8:Int):Option (Fl Int (Sum Unit Bool)) :=
 bif decide (x8<(r7.length:Int))
 then (Option.bind (idx r7 x8) fun e9 =>
 Option.bind (b4s t e9) fun r10 =>
 bif !r10
 then (some (.done (.inr false)))
 else (some (.next (wr .i64 (x8+1)))))
 else (some (.done (.inl ())))
def b9R (d:Val)(t:Api_Type)(a2_2:Api_Shape)(n:Nat)(x14:Int):Option (Fl Int (Sum Unit Bool)) :=
 bif decide (x14<(a2_2.Keys.length:Int))
 then (Option.bind (idx a2_2.Keys x14) fun e15 =>
 Option.bind (idx a2_2.States x14) fun e16 =>
 Option.bind (idx a2_2.Parts x14) fun e17 =>
 Option.bind (b5l n d t e15 e16 e17) fun r18 =>
 bif !r18
 then (some (.done (.inr false)))
 else (some (.next (wr .i64 (x14+1)))))
 else (some (.done (.inl ())))
def b94 (d:Val)(t:Api_Type)(a2_2:Api_Shape)(n:Nat)(x22:Int):Option (Fl Int (Sum Unit Bool)) :=
 bif decide (x22<(d.Keys.length:Int))
 then (Option.bind (idx d.Keys x22) fun e23 =>
 Option.bind (V4 a2_2.Keys e23) fun r24 =>
 Option.bind (bif !r24
 then (Option.bind (idx d.Kids x22) fun e25 =>
 bif e23.Kind==0
 then (Option.bind (a59 n e25 t a2_2.Rest.1) fun r26 =>
 some (!r26))
 else (bif e23.Kind==1
 then (Option.bind (a59 n e25 t a2_2.Rest.2) fun r27 =>
 some (!r27))
 else (none)))
 else (some false)) fun q28 =>
 bif q28
 then (some (.done (.inr false)))
 else (some (.next (wr .i64 (x22+1)))))
 else (some (.done (.inl ())))
def b99 (d:Val)(t:Api_Type)(a2_2:Api_Shape)(n:Nat)(x32:Int):Option (Fl Int (Sum Unit Bool)) :=
 bif decide (x32<(a2_2.Some.length:Int))
 then (Option.bind (idx a2_2.Some x32) fun e33 =>
 Option.bind (b50 n d t a2_2.Keys e33) fun r34 =>
 bif !r34
 then (some (.done (.inr false)))
 else (some (.next (wr .i64 (x32+1)))))
 else (some (.done (.inl ())))
def b5g (n:Nat)(d:Val)(t:Api_Type)(a2_2:Api_Shape):Option Bool :=
 Option.bind (a9X n d) fun r1 =>
 Option.bind (bif r1 != 0
 then (some true)
 else (some (d.Kind != 8))) fun q2 =>
 Option.bind (bif q2
 then (some true)
 else (Option.bind (a0t n t) fun r3 =>
 some (r3 != 0))) fun q4 =>
 Option.bind (bif q4
 then (some true)
 else (Option.bind (a6e a2_2) fun r5 =>
 some (!r5))) fun q6 =>
 bif q6
 then (some false)
 else (Option.bind (b8Z a2_2) fun r7 =>
 Option.bind (z7 (c0a t r7) ((r7.length:Int).toNat+1) 0) fun b11 =>
 j9 (fun _ =>
 Option.bind (z7 (b9R d t a2_2 n) ((a2_2.Keys.length:Int).toNat+1) 0) fun b19 =>
 j9 (fun _ =>
 Option.bind (z7 (b94 d t a2_2 n) ((d.Keys.length:Int).toNat+1) 0) fun b29 =>
 j9 (fun _ =>
 Option.bind (z7 (b99 d t a2_2 n) ((a2_2.Some.length:Int).toNat+1) 0) fun b35 =>
 j9 (fun _ =>
 some true) (fun y37 =>
 some y37) b35) (fun y31 =>
 some y31) b29) (fun y21 =>
 some y21) b19) (fun y13 =>
 some y13) b11)
noncomputable def b5O (n:Nat)(r1:(List Api_Shape)×Int)(r3:Val×Int)(x4:Bool×Int):Option (Fl (Bool×Int) Bool) :=
 bif decide (x4.2<(r1.1.length:Int))
 then (Option.bind (bif x4.1
 then (some true)
 else (Option.bind (idx r1.1 x4.2) fun e5 =>
 Option.bind (b5g n r3.1 (Api_Type.mk ([Api_TypeNode.mk 2 0 0 (⟨#[]⟩:ByteArray) ([]:List Int) ([]:List Api_Field) (0,0),Api_TypeNode.mk 13 0 0 (⟨#[]⟩:ByteArray) ([]:List Int) ([]:List Api_Field) (0,0)]:List Api_TypeNode) 0) e5) fun r6 =>
 some r6)) fun q7 =>
 some (.next (q7,wr .i64 (x4.2+1))))
 else (some (.done x4.1))
noncomputable def a1p (n:Nat):Option Bool :=
 Option.bind (a3R n (Api_Type.mk ([Api_TypeNode.mk 2 0 0 (⟨#[]⟩:ByteArray) ([]:List Int) ([]:List Api_Field) (0,0),Api_TypeNode.mk 13 0 0 (⟨#[]⟩:ByteArray) ([]:List Int) ([]:List Api_Field) (0,0)]:List Api_TypeNode) 0) (Api_Line.mk 8 0 ([]:List Api_Range) (Api_Names.mk false ([]:List ByteArray)) ([1]:List Int) ([]:List Int) ([]:List ByteArray) ([]:List ByteArray))) fun r1 =>
 Option.bind (X7) fun r2 =>
 Option.bind (a0H ([Key.mk 0 (⟨#[97]⟩:ByteArray)]:List Key) ([r2]:List Val)) fun r3 =>
 Option.bind (z7 (b5O n r1 r3) ((r1.1.length:Int).toNat+1) (false,0)) fun b8 =>
 Option.bind (bif r1.2==0
 then (some (r3.2==0))
 else (some false)) fun q9 =>
 Option.bind (bif q9
 then (some b8)
 else (some false)) fun q10 =>
 some q10
def z8 (s:Semtypebase_Source)(n_1:Int):Option (Int×Semtypebase_Source) :=
 Option.bind (bif decide (n_1<1)
 then (some true)
 else (some (decide ((s.L.length:Int)<=s.At)))) fun q1 =>
 bif q1
 then (some (0,s))
 else (Option.bind (idx s.L s.At) fun e2 =>
 Option.bind (b4Q e2 n_1) fun d3 =>
 bif decide (d3<0)
 then (some (wr .i64 (d3+n_1),Semtypebase_Source.mk s.L (wr .i64 (s.At+1))))
 else (some (d3,Semtypebase_Source.mk s.L (wr .i64 (s.At+1)))))
def V6 (s:Semtypebase_Source):Option (ByteArray×Semtypebase_Source) :=
 Option.bind (z8 s 4) fun r1 =>
 Option.bind (idx ([(⟨#[97]⟩:ByteArray),(⟨#[98]⟩:ByteArray),(⟨#[111,107]⟩:ByteArray),(⟨#[101,114,114,111,114]⟩:ByteArray)]:List ByteArray) r1.1) fun _ =>
 Option.bind (([(⟨#[97]⟩:ByteArray),(⟨#[98]⟩:ByteArray),(⟨#[111,107]⟩:ByteArray),(⟨#[101,114,114,111,114]⟩:ByteArray)]:List ByteArray)[r1.1.toNat]?) fun e3 =>
 some (e3,r1.2)
def a0e (s:Semtypebase_Source):Option (ByteArray×Semtypebase_Source) :=
 Option.bind (z8 s 4) fun r1 =>
 Option.bind (idx ([(⟨#[]⟩:ByteArray),(⟨#[115]⟩:ByteArray),(⟨#[120,32,121]⟩:ByteArray),(⟨#[97]⟩:ByteArray)]:List ByteArray) r1.1) fun _ =>
 Option.bind (([(⟨#[]⟩:ByteArray),(⟨#[115]⟩:ByteArray),(⟨#[120,32,121]⟩:ByteArray),(⟨#[97]⟩:ByteArray)]:List ByteArray)[r1.1.toNat]?) fun e3 =>
 some (e3,r1.2)
def a0x (s:Semtypebase_Source):Option (ByteArray×Semtypebase_Source) :=
 Option.bind (z8 s 3) fun r1 =>
 Option.bind (idx ([(⟨#[65]⟩:ByteArray),(⟨#[66]⟩:ByteArray),(⟨#[67]⟩:ByteArray)]:List ByteArray) r1.1) fun _ =>
 Option.bind (([(⟨#[65]⟩:ByteArray),(⟨#[66]⟩:ByteArray),(⟨#[67]⟩:ByteArray)]:List ByteArray)[r1.1.toNat]?) fun e3 =>
 some (e3,r1.2)
def a1k (from_:Int)(n_3:Int)(x1:Int×(List Int)×Semtypebase_Source):Option (Fl (Int×(List Int)×Semtypebase_Source) ((List Int)×Semtypebase_Source)) :=
 bif decide (0<x1.1)
 then (Option.bind (z8 x1.2.2 (wr .i64 (n_3-from_))) fun r2 =>
 Option.bind (w5 (x1.2.1.length+([wr .i64 (from_+r2.1)]:List Int).length) 8) fun _ =>
 some (.next (wr .i64 (x1.1-1),x1.2.1++([wr .i64 (from_+r2.1)]:List Int),r2.2)))
 else (some (.done (x1.2.1,x1.2.2)))
def w3 (s:Semtypebase_Source)(many:Int)(from_:Int)(n_3:Int):Option ((List Int)×Semtypebase_Source) :=
 Option.bind (z7 (a1k from_ n_3) (many.toNat+2) (many,[],s)) fun b4 =>
 some (b4.1,b4.2)
def X0 (n_1:Int)(x3:Int×Semtypebase_Source×(Int×Int×Int×ByteArray×(List Int)×(List Api_Field)×Int×Int)):Option (Fl (Int×Semtypebase_Source×(Int×Int×Int×ByteArray×(List Int)×(List Api_Field)×Int×Int)) (Semtypebase_Source×(Int×Int×Int×ByteArray×(List Int)×(List Api_Field)×Int×Int))) :=
 bif decide (x3.1<3)
 then (Option.bind (Option.bind (z8 x3.2.1 2) fun r4 =>
 bif r4.1==1
 then (Option.bind (idx ([Key.mk 0 (⟨#[97]⟩:ByteArray),Key.mk 0 (⟨#[98]⟩:ByteArray),Key.mk 1 (⟨#[115]⟩:ByteArray)]:List Key) x3.1) fun e5 =>
 Option.bind (z8 r4.2 n_1) fun r6 =>
 Option.bind (z8 r6.2 2) fun r7 =>
 Option.bind (w5 (x3.2.2.2.2.2.2.2.1.length+([Api_Field.mk e5 r6.1 (r7.1==1)]:List Api_Field).length) 40) fun _ =>
 some (r7.2,(x3.2.2.1,x3.2.2.2.1,x3.2.2.2.2.1,x3.2.2.2.2.2.1,x3.2.2.2.2.2.2.1,x3.2.2.2.2.2.2.2.1++([Api_Field.mk e5 r6.1 (r7.1==1)]:List Api_Field),x3.2.2.2.2.2.2.2.2.1,x3.2.2.2.2.2.2.2.2.2)))
 else (some (r4.2,(x3.2.2.1,x3.2.2.2.1,x3.2.2.2.2.1,x3.2.2.2.2.2.1,x3.2.2.2.2.2.2.1,x3.2.2.2.2.2.2.2.1,x3.2.2.2.2.2.2.2.2.1,x3.2.2.2.2.2.2.2.2.2)))) fun b9 =>
 some (.next (wr .i64 (x3.1+1),b9.1,(b9.2.1,b9.2.2.1,b9.2.2.2.1,b9.2.2.2.2.1,b9.2.2.2.2.2.1,b9.2.2.2.2.2.2.1,b9.2.2.2.2.2.2.2.1,b9.2.2.2.2.2.2.2.2))))
 else (some (.done (x3.2.1,(x3.2.2.1,x3.2.2.2.1,x3.2.2.2.2.1,x3.2.2.2.2.2.1,x3.2.2.2.2.2.2.1,x3.2.2.2.2.2.2.2.1,x3.2.2.2.2.2.2.2.2.1,x3.2.2.2.2.2.2.2.2.2))))
def a2c (s:Semtypebase_Source)(n_1:Int):Option (Api_TypeNode×Semtypebase_Source) :=
 Option.bind (z8 s n_1) fun r1 =>
 Option.bind (z8 r1.2 n_1) fun r2 =>
 Option.bind (z7 (X0 n_1) ((3:Int).toNat+1) (0,r2.2,(13,0,0,(⟨#[]⟩:ByteArray),[],[],r1.1,r2.1))) fun b10 =>
 some (Api_TypeNode.mk b10.2.1 b10.2.2.1 b10.2.2.2.1 b10.2.2.2.2.1 b10.2.2.2.2.2.1 b10.2.2.2.2.2.2.1 (b10.2.2.2.2.2.2.2.1,b10.2.2.2.2.2.2.2.2),b10.1)
def a2U (d:Semtypebase_Source)(t:Int)(a2_2:Int):Option (Api_TypeNode×Semtypebase_Source) :=
 Option.bind (bif t==(wr .i64 (a2_2-1))
 then (some 14)
 else (some 18)) fun b1 =>
 Option.bind (z8 d b1) fun r2 =>
 bif r2.1==0
 then (Option.bind (z8 r2.2 5) fun r3 =>
 Option.bind (idx ([(-9223372036854775808),0,1,2,9223372036854775807]:List Int) r3.1) fun _ =>
 Option.bind (([(-9223372036854775808),0,1,2,9223372036854775807]:List Int)[r3.1.toNat]?) fun e5 =>
 Option.bind (z8 r3.2 (wr .i64 (5-r3.1))) fun r6 =>
 Option.bind (idx ([(-9223372036854775808),0,1,2,9223372036854775807]:List Int) (wr .i64 (r3.1+r6.1))) fun _ =>
 Option.bind (([(-9223372036854775808),0,1,2,9223372036854775807]:List Int)[(wr .i64 (r3.1+r6.1)).toNat]?) fun e8 =>
 some (Api_TypeNode.mk 3 e5 e8 (⟨#[]⟩:ByteArray) ([]:List Int) ([]:List Api_Field) (0,0),r6.2))
 else (bif r2.1==1
 then (Option.bind (V6 r2.2) fun r9 =>
 some (Api_TypeNode.mk 6 0 0 r9.1 ([]:List Int) ([]:List Api_Field) (0,0),r9.2))
 else (bif r2.1==2
 then (some (Api_TypeNode.mk 7 0 0 (⟨#[]⟩:ByteArray) ([]:List Int) ([]:List Api_Field) (0,0),r2.2))
 else (bif r2.1==3
 then (Option.bind (a0e r2.2) fun r10 =>
 some (Api_TypeNode.mk 4 0 0 r10.1 ([]:List Int) ([]:List Api_Field) (0,0),r10.2))
 else (bif r2.1==4
 then (Option.bind (z8 r2.2 4) fun r11 =>
 Option.bind (idx ([5,8,11,15]:List Int) r11.1) fun _ =>
 Option.bind (([5,8,11,15]:List Int)[r11.1.toNat]?) fun e13 =>
 some (Api_TypeNode.mk e13 0 0 (⟨#[]⟩:ByteArray) ([]:List Int) ([]:List Api_Field) (0,0),r11.2))
 else (bif r2.1==5
 then (some (Api_TypeNode.mk 9 0 0 (⟨#[]⟩:ByteArray) ([]:List Int) ([]:List Api_Field) (0,0),r2.2))
 else (bif r2.1==6
 then (Option.bind (z8 r2.2 2) fun r14 =>
 Option.bind (idx ([2,1]:List Int) r14.1) fun _ =>
 Option.bind (([2,1]:List Int)[r14.1.toNat]?) fun e16 =>
 some (Api_TypeNode.mk e16 0 0 (⟨#[]⟩:ByteArray) ([]:List Int) ([]:List Api_Field) (0,0),r14.2))
 else (bif r2.1==7
 then (Option.bind (a0x r2.2) fun r17 =>
 some (Api_TypeNode.mk 19 0 0 r17.1 ([]:List Int) ([]:List Api_Field) (0,0),r17.2))
 else (Option.bind (bif r2.1==8
 then (some (r2.1==8))
 else (some (r2.1==9))) fun b18 =>
 bif b18
 then (Option.bind (z8 r2.2 3) fun r19 =>
 Option.bind (w3 r19.2 r19.1 0 a2_2) fun r20 =>
 some (Api_TypeNode.mk 10 0 0 (⟨#[]⟩:ByteArray) r20.1 ([]:List Api_Field) (0,0),r20.2))
 else (bif r2.1==10
 then (Option.bind (w3 r2.2 2 0 a2_2) fun r21 =>
 some (Api_TypeNode.mk 12 0 0 (⟨#[]⟩:ByteArray) r21.1 ([]:List Api_Field) (0,0),r21.2))
 else (bif r2.1==11
 then (Option.bind (a2c r2.2 a2_2) fun r22 =>
 some (r22.1,r22.2))
 else (Option.bind (bif r2.1==12
 then (some (r2.1==12))
 else (some (r2.1==13))) fun b23 =>
 bif b23
 then (Option.bind (z8 r2.2 3) fun r24 =>
 Option.bind (w3 r24.2 (wr .i64 (1+r24.1)) 0 a2_2) fun r25 =>
 some (Api_TypeNode.mk 14 0 0 (⟨#[]⟩:ByteArray) r25.1 ([]:List Api_Field) (0,0),r25.2))
 else (bif r2.1==14
 then (Option.bind (w3 r2.2 1 (wr .i64 (t+1)) a2_2) fun r26 =>
 some (Api_TypeNode.mk 18 0 0 (⟨#[]⟩:ByteArray) r26.1 ([]:List Api_Field) (0,0),r26.2))
 else (bif r2.1==15
 then (Option.bind (w3 r2.2 2 (wr .i64 (t+1)) a2_2) fun r27 =>
 some (Api_TypeNode.mk 17 0 0 (⟨#[]⟩:ByteArray) r27.1 ([]:List Api_Field) (0,0),r27.2))
 else (Option.bind (z8 r2.2 2) fun r28 =>
 Option.bind (w3 r28.2 (wr .i64 (2+r28.1)) (wr .i64 (t+1)) a2_2) fun r29 =>
 some (Api_TypeNode.mk 16 0 0 (⟨#[]⟩:ByteArray) r29.1 ([]:List Api_Field) (0,0),r29.2)))))))))))))))
def a0Z (n_1:Int)(x1:Int×Semtypebase_Source×((List Api_TypeNode)×Int)):Option (Fl (Int×Semtypebase_Source×((List Api_TypeNode)×Int)) (Semtypebase_Source×((List Api_TypeNode)×Int))) :=
 bif decide (x1.1<(max n_1 1))
 then (Option.bind (a2U x1.2.1 x1.1 (max n_1 1)) fun r2 =>
 Option.bind (w5 (x1.2.2.1.length+([r2.1]:List Api_TypeNode).length) 104) fun _ =>
 some (.next (wr .i64 (x1.1+1),r2.2,(x1.2.2.1++([r2.1]:List Api_TypeNode),x1.2.2.2))))
 else (some (.done (x1.2.1,(x1.2.2.1,x1.2.2.2))))
def a2V (s:Semtypebase_Source)(n_1:Int):Option (((List Api_TypeNode)×Int)×Semtypebase_Source) :=
 Option.bind (z7 (a0Z n_1) ((max n_1 1).toNat+1) (0,s,([],0))) fun b4 =>
 some ((b4.2.1,b4.2.2),b4.1)
def a1v (r2:((List Api_TypeNode)×Int)×Semtypebase_Source)(x6:Int×Semtypebase_Source×(Int×Int×Int×ByteArray×(List Int)×(List Api_Field)×Int×Int)):Option (Fl (Int×Semtypebase_Source×(Int×Int×Int×ByteArray×(List Int)×(List Api_Field)×Int×Int)) (Semtypebase_Source×(Int×Int×Int×ByteArray×(List Int)×(List Api_Field)×Int×Int))) :=
 bif decide (x6.1<2)
 then (Option.bind (Option.bind (z8 x6.2.1 2) fun r7 =>
 bif r7.1==1
 then (Option.bind (idx ([(⟨#[97]⟩:ByteArray),(⟨#[98]⟩:ByteArray)]:List ByteArray) x6.1) fun _ =>
 Option.bind (([(⟨#[97]⟩:ByteArray),(⟨#[98]⟩:ByteArray)]:List ByteArray)[x6.1.toNat]?) fun e9 =>
 Option.bind (z8 r7.2 (r2.1.1.length:Int)) fun r10 =>
 Option.bind (z8 r10.2 2) fun r11 =>
 Option.bind (w5 (x6.2.2.2.2.2.2.2.1.length+([Api_Field.mk (Key.mk 0 e9) r10.1 (r11.1==1)]:List Api_Field).length) 40) fun _ =>
 some (r11.2,(x6.2.2.1,x6.2.2.2.1,x6.2.2.2.2.1,x6.2.2.2.2.2.1,x6.2.2.2.2.2.2.1,x6.2.2.2.2.2.2.2.1++([Api_Field.mk (Key.mk 0 e9) r10.1 (r11.1==1)]:List Api_Field),x6.2.2.2.2.2.2.2.2.1,x6.2.2.2.2.2.2.2.2.2)))
 else (some (r7.2,(x6.2.2.1,x6.2.2.2.1,x6.2.2.2.2.1,x6.2.2.2.2.2.1,x6.2.2.2.2.2.2.1,x6.2.2.2.2.2.2.2.1,x6.2.2.2.2.2.2.2.2.1,x6.2.2.2.2.2.2.2.2.2)))) fun b13 =>
 some (.next (wr .i64 (x6.1+1),b13.1,(b13.2.1,b13.2.2.1,b13.2.2.2.1,b13.2.2.2.2.1,b13.2.2.2.2.2.1,b13.2.2.2.2.2.2.1,b13.2.2.2.2.2.2.2.1,b13.2.2.2.2.2.2.2.2))))
 else (some (.done (x6.2.1,(x6.2.2.1,x6.2.2.2.1,x6.2.2.2.2.1,x6.2.2.2.2.2.1,x6.2.2.2.2.2.2.1,x6.2.2.2.2.2.2.2.1,x6.2.2.2.2.2.2.2.2.1,x6.2.2.2.2.2.2.2.2.2))))
def a1y (r2:((List Api_TypeNode)×Int)×Semtypebase_Source)(x3:Int×((List Api_TypeNode)×Int)×Semtypebase_Source×(Int×Int×(List Api_Range)×Bool×(List ByteArray)×(List Int)×(List Int)×(List ByteArray)×(List ByteArray))):Option (Fl (Int×((List Api_TypeNode)×Int)×Semtypebase_Source×(Int×Int×(List Api_Range)×Bool×(List ByteArray)×(List Int)×(List Int)×(List ByteArray)×(List ByteArray))) (((List Api_TypeNode)×Int)×Semtypebase_Source×(Int×Int×(List Api_Range)×Bool×(List ByteArray)×(List Int)×(List Int)×(List ByteArray)×(List ByteArray)))) :=
 bif decide (x3.1<3)
 then (Option.bind (Option.bind (z8 x3.2.2.1 (r2.1.1.length:Int)) fun r4 =>
 Option.bind (z8 r4.2 (r2.1.1.length:Int)) fun r5 =>
 Option.bind (z7 (a1v r2) ((2:Int).toNat+1) (0,r5.2,(13,0,0,(⟨#[]⟩:ByteArray),[],[],r4.1,r5.1))) fun b14 =>
 Option.bind (w5 (x3.2.1.1.length+([Api_TypeNode.mk b14.2.1 b14.2.2.1 b14.2.2.2.1 b14.2.2.2.2.1 b14.2.2.2.2.2.1 b14.2.2.2.2.2.2.1 (b14.2.2.2.2.2.2.2.1,b14.2.2.2.2.2.2.2.2)]:List Api_TypeNode).length) 104) fun _ =>
 Option.bind (z8 b14.1 3) fun r16 =>
 Option.bind (bif r16.1==0
 then (Option.bind (w5 (x3.2.2.2.2.2.2.2.2.1.length+([wr .i64 ((r2.1.1.length:Int)+x3.1)]:List Int).length) 8) fun _ =>
 some (x3.2.2.2.1,x3.2.2.2.2.1,x3.2.2.2.2.2.1,x3.2.2.2.2.2.2.1,x3.2.2.2.2.2.2.2.1,x3.2.2.2.2.2.2.2.2.1++([wr .i64 ((r2.1.1.length:Int)+x3.1)]:List Int),x3.2.2.2.2.2.2.2.2.2.1,x3.2.2.2.2.2.2.2.2.2.2.1,x3.2.2.2.2.2.2.2.2.2.2.2))
 else (some (x3.2.2.2.1,x3.2.2.2.2.1,x3.2.2.2.2.2.1,x3.2.2.2.2.2.2.1,x3.2.2.2.2.2.2.2.1,x3.2.2.2.2.2.2.2.2.1,x3.2.2.2.2.2.2.2.2.2.1,x3.2.2.2.2.2.2.2.2.2.2.1,x3.2.2.2.2.2.2.2.2.2.2.2))) fun b18 =>
 bif r16.1==1
 then (Option.bind (w5 (b18.2.2.2.2.2.2.1.length+([wr .i64 ((r2.1.1.length:Int)+x3.1)]:List Int).length) 8) fun _ =>
 some ((x3.2.1.1++([Api_TypeNode.mk b14.2.1 b14.2.2.1 b14.2.2.2.1 b14.2.2.2.2.1 b14.2.2.2.2.2.1 b14.2.2.2.2.2.2.1 (b14.2.2.2.2.2.2.2.1,b14.2.2.2.2.2.2.2.2)]:List Api_TypeNode),x3.2.1.2),r16.2,(b18.1,b18.2.1,b18.2.2.1,b18.2.2.2.1,b18.2.2.2.2.1,b18.2.2.2.2.2.1,b18.2.2.2.2.2.2.1++([wr .i64 ((r2.1.1.length:Int)+x3.1)]:List Int),b18.2.2.2.2.2.2.2.1,b18.2.2.2.2.2.2.2.2)))
 else (some ((x3.2.1.1++([Api_TypeNode.mk b14.2.1 b14.2.2.1 b14.2.2.2.1 b14.2.2.2.2.1 b14.2.2.2.2.2.1 b14.2.2.2.2.2.2.1 (b14.2.2.2.2.2.2.2.1,b14.2.2.2.2.2.2.2.2)]:List Api_TypeNode),x3.2.1.2),r16.2,(b18.1,b18.2.1,b18.2.2.1,b18.2.2.2.1,b18.2.2.2.2.1,b18.2.2.2.2.2.1,b18.2.2.2.2.2.2.1,b18.2.2.2.2.2.2.2.1,b18.2.2.2.2.2.2.2.2)))) fun b20 =>
 some (.next (wr .i64 (x3.1+1),(b20.1.1,b20.1.2),b20.2.1,(b20.2.2.1,b20.2.2.2.1,b20.2.2.2.2.1,b20.2.2.2.2.2.1,b20.2.2.2.2.2.2.1,b20.2.2.2.2.2.2.2.1,b20.2.2.2.2.2.2.2.2.1,b20.2.2.2.2.2.2.2.2.2.1,b20.2.2.2.2.2.2.2.2.2.2))))
 else (some (.done ((x3.2.1.1,x3.2.1.2),x3.2.2.1,(x3.2.2.2.1,x3.2.2.2.2.1,x3.2.2.2.2.2.1,x3.2.2.2.2.2.2.1,x3.2.2.2.2.2.2.2.1,x3.2.2.2.2.2.2.2.2.1,x3.2.2.2.2.2.2.2.2.2.1,x3.2.2.2.2.2.2.2.2.2.2.1,x3.2.2.2.2.2.2.2.2.2.2.2))))
def a5M (d:List Int)(t:List Int):Option (Api_Type×Api_Line) :=
 Option.bind (z8 (Semtypebase_Source.mk d 0) 4) fun r1 =>
 Option.bind (a2V r1.2 (wr .i64 (1+r1.1))) fun r2 =>
 Option.bind (z7 (a1y r2) ((3:Int).toNat+1) (0,(r2.1.1,r2.1.2),Semtypebase_Source.mk t 0,(8,0,[],false,[],[],[],[],[]))) fun b21 =>
 some (Api_Type.mk b21.1.1 b21.1.2,Api_Line.mk b21.2.2.1 b21.2.2.2.1 b21.2.2.2.2.1 (Api_Names.mk b21.2.2.2.2.2.1 b21.2.2.2.2.2.2.1) b21.2.2.2.2.2.2.2.1 b21.2.2.2.2.2.2.2.2.1 b21.2.2.2.2.2.2.2.2.2.1 b21.2.2.2.2.2.2.2.2.2.2)
def a29 (l:List Int)(k:Int)(x1:Int):Option (Fl Int Int) :=
 Option.bind (bif decide (x1<(l.length:Int))
 then (Option.bind (idx l x1) fun e2 =>
 some (decide (e2<k)))
 else (some false)) fun q3 =>
 bif q3
 then (some (.next (wr .i64 (x1+1))))
 else (some (.done x1))
def a6p (l:List Int)(k:Int):Option (List Int) :=
 Option.bind (z7 (a29 l k) ((l.length:Int).toNat+1) 0) fun b4 =>
 Option.bind (bif decide (b4<(l.length:Int))
 then (Option.bind (idx l b4) fun e5 =>
 some (e5==k))
 else (some false)) fun q6 =>
 bif q6
 then (some l)
 else (Option.bind (cut l 0 b4) fun y7 =>
 Option.bind (w5 (0+y7.length) 8) fun _ =>
 Option.bind (w5 (y7.length+([k]:List Int).length) 8) fun _ =>
 Option.bind (cut l b4 (l.length:Int)) fun y10 =>
 Option.bind (w5 ((y7++([k]:List Int)).length+y10.length) 8) fun _ =>
 some ((y7++([k]:List Int))++y10))
def a1U (l:List Int)(x1:(List Int)×Int):Option (Fl ((List Int)×Int) (List Int)) :=
 bif decide (x1.2<(l.length:Int))
 then (Option.bind (idx l x1.2) fun e2 =>
 Option.bind (a6p x1.1 e2) fun r3 =>
 some (.next (r3,wr .i64 (x1.2+1))))
 else (some (.done x1.1))
def a4I (l:List Int):Option (List Int) :=
 Option.bind (z7 (a1U l) ((l.length:Int).toNat+1) (([]:List Int),0)) fun b4 =>
 some b4
def a5o (g:Api_Goal):Option Api_Goal :=
 Option.bind (a4I g.Pos) fun r1 =>
 Option.bind (a4I g.Neg) fun r2 =>
 some (Api_Goal.mk r1 r2 g.Lists)
def a2z (a:List Int)(b:List Int)(x1:Int):Option (Fl Int (Sum Unit Bool)) :=
 bif decide (x1<(a.length:Int))
 then (Option.bind (idx a x1) fun e2 =>
 Option.bind (idx b x1) fun e3 =>
 bif e2 != e3
 then (some (.done (.inr false)))
 else (some (.next (wr .i64 (x1+1)))))
 else (some (.done (.inl ())))
def a2i (a:List Int)(b:List Int):Option Bool :=
 bif (a.length:Int) != (b.length:Int)
 then (some false)
 else (Option.bind (z7 (a2z a b) ((a.length:Int).toNat+1) 0) fun b4 =>
 j9 (fun _ =>
 some true) (fun y6 =>
 some y6) b4)
def a3m (a:Api_Goal)(b:Api_Goal):Option Bool :=
 Option.bind (bif a.Lists==b.Lists
 then (Option.bind (a2i a.Pos b.Pos) fun r1 =>
 some r1)
 else (some false)) fun q2 =>
 Option.bind (bif q2
 then (Option.bind (a2i a.Neg b.Neg) fun r3 =>
 some r3)
 else (some false)) fun q4 =>
 some q4
def a0v (t:Api_Type)(k:Int):Option Bool :=
 Option.bind (bif decide (0<=k)
 then (some (decide (k<(t.Nodes.length:Int))))
 else (some false)) fun q1 =>
 some q1
def a17 (t:Api_Type)(g:Api_Goal)(x3:Int):Option (Fl Int (Sum Unit Bool)) :=
 bif decide (x3<((g.Pos++g.Neg).length:Int))
 then (Option.bind (idx (g.Pos++g.Neg) x3) fun e4 =>
 Option.bind (a0v t e4) fun r5 =>
 bif !r5
 then (some (.done (.inr false)))
 else (some (.next (wr .i64 (x3+1)))))
 else (some (.done (.inl ())))
def a27 (t:Api_Type)(g:Api_Goal):Option Bool :=
 Option.bind (w5 (0+g.Pos.length) 8) fun _ =>
 Option.bind (w5 (g.Pos.length+g.Neg.length) 8) fun _ =>
 Option.bind (z7 (a17 t g) (((g.Pos++g.Neg).length:Int).toNat+1) 0) fun b6 =>
 j9 (fun _ =>
 some true) (fun y8 =>
 some y8) b6
def a05 (t:Api_Type)(g:Api_Goal):Option Bool :=
 Option.bind (a5o g) fun r1 =>
 Option.bind (a3m g r1) fun r2 =>
 Option.bind (bif r2
 then (Option.bind (a27 t g) fun r3 =>
 some r3)
 else (some false)) fun q4 =>
 some q4
def a3L (l:List Key)(k:Key)(x1:Int):Option (Fl Int (Sum Unit Int)) :=
 bif decide (x1<(l.length:Int))
 then (Option.bind (idx l x1) fun e2 =>
 bif a3B e2 k
 then (some (.done (.inr x1)))
 else (some (.next (wr .i64 (x1+1)))))
 else (some (.done (.inl ())))
def a0f (l:List Key)(k:Key):Option Int :=
 Option.bind (z7 (a3L l k) ((l.length:Int).toNat+1) 0) fun b3 =>
 j9 (fun _ =>
 some (-1)) (fun y5 =>
 some y5) b3
def a10 (a2_2:Api_Shape)(e10:Api_TypeNode)(x11:Int):Option (Fl Int (Sum Unit Bool)) :=
 bif decide (x11<(e10.Fields.length:Int))
 then (Option.bind (idx e10.Fields x11) fun e12 =>
 Option.bind (a0f a2_2.Keys e12.Key_) fun r13 =>
 bif decide (r13<0)
 then (some (.done (.inr false)))
 else (some (.next (wr .i64 (x11+1)))))
 else (some (.done (.inl ())))
def a1W (d:Api_Type)(t:Api_Line)(a2_2:Api_Shape)(x8:Int):Option (Fl Int (Sum Unit Bool)) :=
 bif decide (x8<((t.Pos++t.Neg).length:Int))
 then (Option.bind (idx (t.Pos++t.Neg) x8) fun e9 =>
 Option.bind (idx d.Nodes e9) fun e10 =>
 Option.bind (z7 (a10 a2_2 e10) ((e10.Fields.length:Int).toNat+1) 0) fun b14 =>
 j9 (fun _ =>
 some (.next (wr .i64 (x8+1)))) (fun y16 =>
 some (.done (.inr y16))) b14)
 else (some (.done (.inl ())))
def a15 (a2_2:Api_Shape)(x20:Int)(e23:Api_TypeNode)(x24:Bool×Int):Option (Fl (Bool×Int) Bool) :=
 bif decide (x24.2<(e23.Fields.length:Int))
 then (Option.bind (bif x24.1
 then (some true)
 else (Option.bind (idx e23.Fields x24.2) fun e25 =>
 Option.bind (idx a2_2.Keys x20) fun e26 =>
 some (a3B e25.Key_ e26))) fun q27 =>
 some (.next (q27,wr .i64 (x24.2+1))))
 else (some (.done x24.1))
def a14 (d:Api_Type)(t:Api_Line)(a2_2:Api_Shape)(x20:Int)(x21:Bool×Int):Option (Fl (Bool×Int) Bool) :=
 bif decide (x21.2<((t.Pos++t.Neg).length:Int))
 then (Option.bind (idx (t.Pos++t.Neg) x21.2) fun e22 =>
 Option.bind (idx d.Nodes e22) fun e23 =>
 Option.bind (z7 (a15 a2_2 x20 e23) ((e23.Fields.length:Int).toNat+1) (x21.1,0)) fun b28 =>
 some (.next (b28,wr .i64 (x21.2+1))))
 else (some (.done x21.1))
def a16 (d:Api_Type)(t:Api_Line)(a2_2:Api_Shape)(x20:Int):Option (Fl Int (Sum Unit Bool)) :=
 bif decide (x20<(a2_2.Keys.length:Int))
 then (Option.bind (z7 (a14 d t a2_2 x20) (((t.Pos++t.Neg).length:Int).toNat+1) (false,0)) fun b29 =>
 Option.bind (idx a2_2.States x20) fun e30 =>
 Option.bind (bif e30==0
 then (Option.bind (idx a2_2.Parts x20) fun e31 =>
 Option.bind (bif decide (0<(e31.Pos.length:Int))
 then (some true)
 else (Option.bind (idx a2_2.Parts x20) fun e32 =>
 some (decide (0<(e32.Neg.length:Int))))) fun q33 =>
 Option.bind (bif q33
 then (some true)
 else (Option.bind (idx a2_2.Parts x20) fun e34 =>
 some e34.Lists)) fun q35 =>
 some q35)
 else (some false)) fun q36 =>
 Option.bind (bif !b29
 then (some true)
 else (some q36)) fun q37 =>
 Option.bind (bif q37
 then (some true)
 else (Option.bind (idx a2_2.Parts x20) fun e38 =>
 Option.bind (a05 d e38) fun r39 =>
 some (!r39))) fun q40 =>
 Option.bind (bif q40
 then (some true)
 else (Option.bind (bif decide (0<x20)
 then (Option.bind (idx a2_2.Keys (wr .i64 (x20-1))) fun e41 =>
 Option.bind (idx a2_2.Keys x20) fun e42 =>
 Option.bind (J4 e41 e42) fun r43 =>
 some (decide (0<=r43)))
 else (some false)) fun q44 =>
 some q44)) fun q45 =>
 bif q45
 then (some (.done (.inr false)))
 else (some (.next (wr .i64 (x20+1)))))
 else (some (.done (.inl ())))
def a18 (d:Api_Type)(a2_2:Api_Shape)(x49:Int):Option (Fl Int (Sum Unit Bool)) :=
 bif decide (x49<(a2_2.Some.length:Int))
 then (Option.bind (idx a2_2.Some x49) fun e50 =>
 Option.bind (bif e50.Kind != 0
 then (Option.bind (idx a2_2.Some x49) fun e51 =>
 some (e51.Kind != 1))
 else (some false)) fun q52 =>
 Option.bind (bif q52
 then (some true)
 else (Option.bind (idx a2_2.Some x49) fun e53 =>
 Option.bind (a05 d e53.Goal) fun r54 =>
 some (!r54))) fun q55 =>
 bif q55
 then (some (.done (.inr false)))
 else (some (.next (wr .i64 (x49+1)))))
 else (some (.done (.inl ())))
def a4Y (d:Api_Type)(t:Api_Line)(a2_2:Api_Shape):Option Bool :=
 Option.bind (bif (a2_2.States.length:Int) != (a2_2.Keys.length:Int)
 then (some true)
 else (some ((a2_2.Parts.length:Int) != (a2_2.Keys.length:Int)))) fun q1 =>
 Option.bind (bif q1
 then (some true)
 else (Option.bind (a05 d a2_2.Rest.1) fun r2 =>
 some (!r2))) fun q3 =>
 Option.bind (bif q3
 then (some true)
 else (Option.bind (a05 d a2_2.Rest.2) fun r4 =>
 some (!r4))) fun q5 =>
 bif q5
 then (some false)
 else (Option.bind (w5 (0+t.Pos.length) 8) fun _ =>
 Option.bind (w5 (t.Pos.length+t.Neg.length) 8) fun _ =>
 Option.bind (z7 (a1W d t a2_2) (((t.Pos++t.Neg).length:Int).toNat+1) 0) fun b17 =>
 j9 (fun _ =>
 Option.bind (z7 (a16 d t a2_2) ((a2_2.Keys.length:Int).toNat+1) 0) fun b46 =>
 j9 (fun _ =>
 Option.bind (z7 (a18 d a2_2) ((a2_2.Some.length:Int).toNat+1) 0) fun b56 =>
 j9 (fun _ =>
 some true) (fun y58 =>
 some y58) b56) (fun y48 =>
 some y48) b46) (fun y19 =>
 some y19) b17)
def a2u (s:Semtypebase_Source):Option (Int×Semtypebase_Source) :=
 Option.bind (z8 s 10) fun r1 =>
 Option.bind (idx ([0,1,(-1),2,3,(-2),7,(-9223372036854775808),9223372036854775807,10]:List Int) r1.1) fun _ =>
 Option.bind (([0,1,(-1),2,3,(-2),7,(-9223372036854775808),9223372036854775807,10]:List Int)[r1.1.toNat]?) fun e3 =>
 some (e3,r1.2)
def a89 (n_0:Int):Option Val :=
 some (Val.mk 1 n_0 (⟨#[]⟩:ByteArray) ([]:List Val) ([]:List Key) ([]:List Ent) ([]:List ByteArray))
def a6y (s:ByteArray):Option Val :=
 some (Val.mk 3 0 s ([]:List Val) ([]:List Key) ([]:List Ent) ([]:List ByteArray))
def a5q (s:ByteArray):Option Val :=
 some (Val.mk 2 0 s ([]:List Val) ([]:List Key) ([]:List Ent) ([]:List ByteArray))
def a8Q (n_0:Int):Option Val :=
 some (Val.mk 4 n_0 (⟨#[]⟩:ByteArray) ([]:List Val) ([]:List Key) ([]:List Ent) ([]:List ByteArray))
def a4d (l:List Val):Option Val :=
 Option.bind (a1n l) fun r1 =>
 some (Val.mk 6 0 (⟨#[]⟩:ByteArray) r1 ([]:List Key) ([]:List Ent) ([]:List ByteArray))
def K8 (s:Semtypebase_Source):Option (Val×Semtypebase_Source) :=
 Option.bind (z8 s 6) fun r1 =>
 bif r1.1==0
 then (Option.bind (a2u r1.2) fun r2 =>
 Option.bind (a89 r2.1) fun r3 =>
 some (r3,r2.2))
 else (bif r1.1==1
 then (Option.bind (V6 r1.2) fun r4 =>
 Option.bind (a6y r4.1) fun r5 =>
 some (r5,r4.2))
 else (bif r1.1==2
 then (Option.bind (a0e r1.2) fun r6 =>
 Option.bind (a5q r6.1) fun r7 =>
 some (r7,r6.2))
 else (bif r1.1==3
 then (Option.bind (z8 r1.2 3) fun r8 =>
 Option.bind (a8Q r8.1) fun r9 =>
 some (r9,r8.2))
 else (bif r1.1==4
 then (Option.bind (X7) fun r10 =>
 some (r10,r1.2))
 else (Option.bind (a4d ([]:List Val)) fun r11 =>
 some (r11,r1.2))))))
def a0u (a:Int)(b:Int):Option Int :=
 Option.bind (a2M a b) fun r1 =>
 some r1
def a7Y (d:Val)(t:Val)(x5:Int):Option (Fl Int (Sum Unit Int)) :=
 bif decide (x5<(d.Keys.length:Int))
 then (Option.bind (idx d.Keys x5) fun e6 =>
 Option.bind (idx t.Keys x5) fun e7 =>
 Option.bind (J4 e6 e7) fun r8 =>
 bif r8 != 0
 then (some (.done (.inr r8)))
 else (some (.next (wr .i64 (x5+1)))))
 else (some (.done (.inl ())))
def a7W (d:Val)(t:Val)(rec_semtyperef1_CompareEntries:Ent->Ent->Option Int)(x14:Int):Option (Fl Int (Sum Unit Int)) :=
 bif decide (x14<(d.Entries.length:Int))
 then (Option.bind (idx d.Entries x14) fun e15 =>
 Option.bind (idx t.Entries x14) fun e16 =>
 Option.bind (rec_semtyperef1_CompareEntries e15 e16) fun r17 =>
 bif r17 != 0
 then (some (.done (.inr r17)))
 else (some (.next (wr .i64 (x14+1)))))
 else (some (.done (.inl ())))
def a79 (d:Val)(t:Val)(x22:Int):Option (Fl Int (Sum Unit Int)) :=
 bif decide (x22<(d.Labels.length:Int))
 then (Option.bind (idx d.Labels x22) fun e23 =>
 Option.bind (idx t.Labels x22) fun e24 =>
 Option.bind (a1q e23 e24) fun r25 =>
 bif r25 != 0
 then (some (.done (.inr r25)))
 else (some (.next (wr .i64 (x22+1)))))
 else (some (.done (.inl ())))
def a8y (a:List Val)(b:List Val)(rec_semtyperef1_Compare:Val->Val->Option Int)(x2:Int):Option (Fl Int (Sum Unit Int)) :=
 bif decide (x2<(a.length:Int))
 then (Option.bind (idx a x2) fun e3 =>
 Option.bind (idx b x2) fun e4 =>
 Option.bind (rec_semtyperef1_Compare e3 e4) fun r5 =>
 bif r5 != 0
 then (some (.done (.inr r5)))
 else (some (.next (wr .i64 (x2+1)))))
 else (some (.done (.inl ())))
def a6a (_:Nat)(_:Val->Val->Option Int)(rec_semtyperef1_values:(List Val)->(List Val)->Option Int)(rec_semtyperef1_CompareEntries:Ent->Ent->Option Int)(d:Val)(t:Val):Option Int :=
 bif d.Kind != t.Kind
 then (Option.bind (a0u d.Kind t.Kind) fun r1 =>
 some r1)
 else (bif d.Int_ != t.Int_
 then (Option.bind (a2M d.Int_ t.Int_) fun r2 =>
 some r2)
 else (bif !(Y6 d.Text t.Text)
 then (Option.bind (a1q d.Text t.Text) fun r3 =>
 some r3)
 else (bif (d.Keys.length:Int) != (t.Keys.length:Int)
 then (Option.bind (a0u (d.Keys.length:Int) (t.Keys.length:Int)) fun r4 =>
 some r4)
 else (Option.bind (z7 (a7Y d t) ((d.Keys.length:Int).toNat+1) 0) fun b9 =>
 j9 (fun _ =>
 Option.bind (rec_semtyperef1_values d.Kids t.Kids) fun r12 =>
 bif r12 != 0
 then (some r12)
 else (bif (d.Entries.length:Int) != (t.Entries.length:Int)
 then (Option.bind (a0u (d.Entries.length:Int) (t.Entries.length:Int)) fun r13 =>
 some r13)
 else (Option.bind (z7 (a7W d t rec_semtyperef1_CompareEntries) ((d.Entries.length:Int).toNat+1) 0) fun b18 =>
 j9 (fun _ =>
 bif (d.Labels.length:Int) != (t.Labels.length:Int)
 then (Option.bind (a0u (d.Labels.length:Int) (t.Labels.length:Int)) fun r21 =>
 some r21)
 else (Option.bind (z7 (a79 d t) ((d.Labels.length:Int).toNat+1) 0) fun b26 =>
 j9 (fun _ =>
 some 0) (fun y28 =>
 some y28) b26)) (fun y20 =>
 some y20) b18))) (fun y11 =>
 some y11) b9))))
def a6i (_:Nat)(rec_semtyperef1_Compare:Val->Val->Option Int)(_:(List Val)->(List Val)->Option Int)(_:Ent->Ent->Option Int)(a:List Val)(b:List Val):Option Int :=
 bif (a.length:Int) != (b.length:Int)
 then (Option.bind (a0u (a.length:Int) (b.length:Int)) fun r1 =>
 some r1)
 else (Option.bind (z7 (a8y a b rec_semtyperef1_Compare) ((a.length:Int).toNat+1) 0) fun b6 =>
 j9 (fun _ =>
 some 0) (fun y8 =>
 some y8) b6)
def a3a (_:Nat)(rec_semtyperef1_Compare:Val->Val->Option Int)(rec_semtyperef1_values:(List Val)->(List Val)->Option Int)(_:Ent->Ent->Option Int)(a:Ent)(b:Ent):Option Int :=
 Option.bind (rec_semtyperef1_values a.Args b.Args) fun r1 =>
 bif r1 != 0
 then (some r1)
 else (bif a.Fails != b.Fails
 then (bif a.Fails
 then (some (-1))
 else (some 1))
 else (Option.bind (rec_semtyperef1_Compare a.Result b.Result) fun r2 =>
 some r2))
def Q0:Nat->(Val->Val->Option Int)×((List Val)->(List Val)->Option Int)×(Ent->Ent->Option Int)
 | 0=>(fun _ _=>none,fun _ _=>none,fun _ _=>none)
 | n+1=>(a6a n ((Q0 n).1) ((Q0 n).2.1) ((Q0 n).2.2),a6i n ((Q0 n).1) ((Q0 n).2.1) ((Q0 n).2.2),a3a n ((Q0 n).1) ((Q0 n).2.1) ((Q0 n).2.2))
def a0r (n:Nat):Val->Val->Option Int:=(Q0 n).1
def a3y (n:Nat):(List Val)->(List Val)->Option Int:=(Q0 n).2.1
def Z9 (n:Nat):Ent->Ent->Option Int:=(Q0 n).2.2
def a02 (n:Nat)(a:Val)(b:Val):Option Bool :=
 Option.bind (a0r n a b) fun r1 =>
 some (r1==0)
def a3k (l:List Ent)(x1:(List Ent)×Int)(n:Nat)(x2:Int):Option (Fl Int Int) :=
 Option.bind (bif decide (x2<(x1.1.length:Int))
 then (Option.bind (idx x1.1 x2) fun e3 =>
 Option.bind (idx l x1.2) fun _ =>
 Option.bind (l[x1.2.toNat]?) fun e5 =>
 Option.bind (Z9 n e3 e5) fun r6 =>
 some (decide (r6<0)))
 else (some false)) fun q7 =>
 bif q7
 then (some (.next (wr .i64 (x2+1))))
 else (some (.done x2))
def a0i (l:List Ent)(n:Nat)(x1:(List Ent)×Int):Option (Fl ((List Ent)×Int) (List Ent)) :=
 bif decide (x1.2<(l.length:Int))
 then (Option.bind (Option.bind (z7 (a3k l x1 n) ((x1.1.length:Int).toNat+1) 0) fun b8 =>
 Option.bind (bif decide (b8<(x1.1.length:Int))
 then (Option.bind (idx x1.1 b8) fun e9 =>
 Option.bind (idx l x1.2) fun _ =>
 Option.bind (l[x1.2.toNat]?) fun e11 =>
 Option.bind (Z9 n e9 e11) fun r12 =>
 some (r12==0))
 else (some false)) fun q13 =>
 bif q13
 then (some x1.1)
 else (Option.bind (cut x1.1 0 b8) fun y14 =>
 Option.bind (w5 (0+y14.length) 160) fun _ =>
 Option.bind (idx l x1.2) fun _ =>
 Option.bind (l[x1.2.toNat]?) fun e17 =>
 Option.bind (w5 (y14.length+([e17]:List Ent).length) 160) fun _ =>
 Option.bind (cut x1.1 b8 (x1.1.length:Int)) fun y19 =>
 Option.bind (w5 ((y14++([e17]:List Ent)).length+y19.length) 160) fun _ =>
 some ((y14++([e17]:List Ent))++y19))) fun b21 =>
 some (.next (b21,wr .i64 (x1.2+1))))
 else (some (.done x1.1))
def a4V (n:Nat)(l:List Ent):Option (List Ent) :=
 Option.bind (z7 (a0i l n) ((l.length:Int).toNat+1) (([]:List Ent),0)) fun b22 =>
 some b22
def a0L (arity:Int)(l:List Ent)(n:Nat)(x2:Int×(Int×Int×ByteArray×(List Val)×(List Key)×(List Ent)×(List ByteArray))):Option (Fl (Int×(Int×Int×ByteArray×(List Val)×(List Key)×(List Ent)×(List ByteArray))) (Sum (Int×Int×ByteArray×(List Val)×(List Key)×(List Ent)×(List ByteArray)) (Int×(Int×Int×ByteArray×(List Val)×(List Key)×(List Ent)×(List ByteArray))))) :=
 bif decide (x2.1<(l.length:Int))
 then (Option.bind (idx l x2.1) fun _ =>
 Option.bind (l[x2.1.toNat]?) fun e4 =>
 Option.bind (bif (e4.Args.length:Int) != arity
 then (some true)
 else (Option.bind (idx l x2.1) fun _ =>
 Option.bind (l[x2.1.toNat]?) fun e6 =>
 Option.bind (bif e6.Fails
 then (Option.bind (idx l x2.1) fun _ =>
 Option.bind (l[x2.1.toNat]?) fun e8 =>
 Option.bind (a02 n e8.Result (Val.mk 0 0 (⟨#[]⟩:ByteArray) ([]:List Val) ([]:List Key) ([]:List Ent) ([]:List ByteArray))) fun r9 =>
 some (!r9))
 else (some false)) fun q10 =>
 some q10)) fun q11 =>
 bif q11
 then (some (.done (.inr (1,(0,0,(⟨#[]⟩:ByteArray),[],[],[],[])))))
 else (some (.next (wr .i64 (x2.1+1),(x2.2.1,x2.2.2.1,x2.2.2.2.1,x2.2.2.2.2.1,x2.2.2.2.2.2.1,x2.2.2.2.2.2.2.1,x2.2.2.2.2.2.2.2)))))
 else (some (.done (.inl (x2.2.1,x2.2.2.1,x2.2.2.2.1,x2.2.2.2.2.1,x2.2.2.2.2.2.1,x2.2.2.2.2.2.2.1,x2.2.2.2.2.2.2.2))))
def a2G (n:Nat)(arity:Int)(l:List Ent):Option (Val×Int) :=
 Option.bind (bif decide (arity<0)
 then (some true)
 else (some (decide (4<arity)))) fun q1 =>
 bif q1
 then (some (Val.mk 0 0 (⟨#[]⟩:ByteArray) ([]:List Val) ([]:List Key) ([]:List Ent) ([]:List ByteArray),1))
 else (Option.bind (z7 (a0L arity l n) ((l.length:Int).toNat+1) (0,(0,0,(⟨#[]⟩:ByteArray),[],[],[],[]))) fun (b12:Sum (Int×Int×ByteArray×(List Val)×(List Key)×(List Ent)×(List ByteArray)) (Int×(Int×Int×ByteArray×(List Val)×(List Key)×(List Ent)×(List ByteArray)))) =>
 j9 (fun _ =>
 Option.bind (a4V n l) fun r15 =>
 some (Val.mk 9 arity (⟨#[]⟩:ByteArray) ([]:List Val) ([]:List Key) r15 ([]:List ByteArray),0)) (fun y14 =>
 some (Val.mk y14.2.1 y14.2.2.1 y14.2.2.2.1 y14.2.2.2.2.1 y14.2.2.2.2.2.1 y14.2.2.2.2.2.2.1 y14.2.2.2.2.2.2.2,y14.1)) b12)
def a3G (l:List ByteArray)(x1:(List ByteArray)×Int)(x2:Int):Option (Fl Int Int) :=
 Option.bind (bif decide (x2<(x1.1.length:Int))
 then (Option.bind (idx x1.1 x2) fun e3 =>
 Option.bind (idx l x1.2) fun e4 =>
 some (a26 e3 e4))
 else (some false)) fun q5 =>
 bif q5
 then (some (.next (wr .i64 (x2+1))))
 else (some (.done x2))
def a0A (l:List ByteArray)(x1:(List ByteArray)×Int):Option (Fl ((List ByteArray)×Int) (List ByteArray)) :=
 bif decide (x1.2<(l.length:Int))
 then (Option.bind (Option.bind (z7 (a3G l x1) ((x1.1.length:Int).toNat+1) 0) fun b6 =>
 Option.bind (bif decide (b6<(x1.1.length:Int))
 then (Option.bind (idx x1.1 b6) fun e7 =>
 Option.bind (idx l x1.2) fun e8 =>
 some (Y6 e7 e8))
 else (some false)) fun q9 =>
 bif q9
 then (some x1.1)
 else (Option.bind (cut x1.1 0 b6) fun y10 =>
 Option.bind (w5 (0+y10.length) 16) fun _ =>
 Option.bind (idx l x1.2) fun e12 =>
 Option.bind (w5 (y10.length+([e12]:List ByteArray).length) 16) fun _ =>
 Option.bind (cut x1.1 b6 (x1.1.length:Int)) fun y14 =>
 Option.bind (w5 ((y10++([e12]:List ByteArray)).length+y14.length) 16) fun _ =>
 some ((y10++([e12]:List ByteArray))++y14))) fun b16 =>
 some (.next (b16,wr .i64 (x1.2+1))))
 else (some (.done x1.1))
def a0g (l:List ByteArray):Option (List ByteArray) :=
 Option.bind (z7 (a0A l) ((l.length:Int).toNat+1) (([]:List ByteArray),0)) fun b17 =>
 some b17
def a5E (v:Val)(names:List ByteArray):Option Val :=
 Option.bind (a0g names) fun r1 =>
 some (Val.mk v.Kind v.Int_ v.Text v.Kids v.Keys v.Entries r1)
def a6m (head:Val)(tail:Val):Option Val :=
 some (Val.mk 7 0 (⟨#[]⟩:ByteArray) ([head,tail]:List Val) ([]:List Key) ([]:List Ent) ([]:List ByteArray))
def a1g (s:Semtypebase_Source):Option ((List ByteArray)×Semtypebase_Source) :=
 Option.bind (z8 s 3) fun r1 =>
 Option.bind (bif r1.1==1
 then (Option.bind (a0x r1.2) fun r2 =>
 Option.bind (w5 (0+([r2.1]:List ByteArray).length) 16) fun _ =>
 Option.bind (z8 r2.2 2) fun r4 =>
 bif r4.1==1
 then (Option.bind (a0x r4.2) fun r5 =>
 Option.bind (w5 (([r2.1]:List ByteArray).length+([r5.1]:List ByteArray).length) 16) fun _ =>
 some (([r2.1]:List ByteArray)++([r5.1]:List ByteArray),r5.2))
 else (some (([r2.1]:List ByteArray),r4.2)))
 else (some ([],r1.2))) fun b7 =>
 Option.bind (a0g b7.1) fun r8 =>
 some (r8,b7.2)
def a3t (s:Semtypebase_Source):Option (Key×Semtypebase_Source) :=
 Option.bind (z8 s 2) fun r1 =>
 bif r1.1==0
 then (Option.bind (V6 r1.2) fun r2 =>
 some (Key.mk 0 r2.1,r2.2))
 else (Option.bind (a0e r1.2) fun r3 =>
 some (Key.mk 1 r3.1,r3.2))
def a1Q (t:Int)(rec_semtypebase_Source_Value:Semtypebase_Source->Int->Option (Val×Semtypebase_Source))(x4:(List Val)×Int×Semtypebase_Source):Option (Fl ((List Val)×Int×Semtypebase_Source) ((List Val)×Semtypebase_Source)) :=
 bif decide (0<x4.2.1)
 then (Option.bind (rec_semtypebase_Source_Value x4.2.2 (wr .i64 (t-1))) fun r5 =>
 Option.bind (w5 (x4.1.length+([r5.1]:List Val).length) 128) fun _ =>
 some (.next (x4.1++([r5.1]:List Val),wr .i64 (x4.2.1-1),r5.2)))
 else (some (.done (x4.1,x4.2.2)))
def a1S (t:Int)(rec_semtypebase_Source_Value:Semtypebase_Source->Int->Option (Val×Semtypebase_Source))(x20:(List Key)×(List Val)×Int×Semtypebase_Source):Option (Fl ((List Key)×(List Val)×Int×Semtypebase_Source) ((List Key)×(List Val)×Semtypebase_Source)) :=
 bif decide (0<x20.2.2.1)
 then (Option.bind (a3t x20.2.2.2) fun r21 =>
 Option.bind (w5 (x20.1.length+([r21.1]:List Key).length) 24) fun _ =>
 Option.bind (rec_semtypebase_Source_Value r21.2 (wr .i64 (t-1))) fun r23 =>
 Option.bind (w5 (x20.2.1.length+([r23.1]:List Val).length) 128) fun _ =>
 some (.next (x20.1++([r21.1]:List Key),x20.2.1++([r23.1]:List Val),wr .i64 (x20.2.2.1-1),r23.2)))
 else (some (.done (x20.1,x20.2.1,x20.2.2.2)))
def a1O (t:Int)(r27:Int×Semtypebase_Source)(rec_semtypebase_Source_entry:Semtypebase_Source->Int->Int->Option (Ent×Semtypebase_Source))(x29:(List Ent)×Int×Semtypebase_Source):Option (Fl ((List Ent)×Int×Semtypebase_Source) ((List Ent)×Semtypebase_Source)) :=
 bif decide (0<x29.2.1)
 then (Option.bind (rec_semtypebase_Source_entry x29.2.2 r27.1 (wr .i64 (t-1))) fun r30 =>
 Option.bind (w5 (x29.1.length+([r30.1]:List Ent).length) 160) fun _ =>
 some (.next (x29.1++([r30.1]:List Ent),wr .i64 (x29.2.1-1),r30.2)))
 else (some (.done (x29.1,x29.2.2)))
def a1P (height:Int)(rec_semtypebase_Source_Value:Semtypebase_Source->Int->Option (Val×Semtypebase_Source))(x1:Int×Semtypebase_Source×((List Val)×Bool×Int×Int×ByteArray×(List Val)×(List Key)×(List Ent)×(List ByteArray))):Option (Fl (Int×Semtypebase_Source×((List Val)×Bool×Int×Int×ByteArray×(List Val)×(List Key)×(List Ent)×(List ByteArray))) (Semtypebase_Source×((List Val)×Bool×Int×Int×ByteArray×(List Val)×(List Key)×(List Ent)×(List ByteArray)))) :=
 bif decide (0<x1.1)
 then (Option.bind (rec_semtypebase_Source_Value x1.2.1 height) fun r2 =>
 Option.bind (w5 (x1.2.2.1.length+([r2.1]:List Val).length) 128) fun _ =>
 some (.next (wr .i64 (x1.1-1),r2.2,(x1.2.2.1++([r2.1]:List Val),x1.2.2.2.1,x1.2.2.2.2.1,x1.2.2.2.2.2.1,x1.2.2.2.2.2.2.1,x1.2.2.2.2.2.2.2.1,x1.2.2.2.2.2.2.2.2.1,x1.2.2.2.2.2.2.2.2.2.1,x1.2.2.2.2.2.2.2.2.2.2))))
 else (some (.done (x1.2.1,(x1.2.2.1,x1.2.2.2.1,x1.2.2.2.2.1,x1.2.2.2.2.2.1,x1.2.2.2.2.2.2.1,x1.2.2.2.2.2.2.2.1,x1.2.2.2.2.2.2.2.2.1,x1.2.2.2.2.2.2.2.2.2.1,x1.2.2.2.2.2.2.2.2.2.2))))
def a3Y (_:Nat)(_:Semtypebase_Source->Int->Option (Val×Semtypebase_Source))(rec_semtypebase_Source_value:Semtypebase_Source->Int->Option (Val×Semtypebase_Source))(_:Semtypebase_Source->Int->Int->Option (Ent×Semtypebase_Source))(s:Semtypebase_Source)(height:Int):Option (Val×Semtypebase_Source) :=
 Option.bind (rec_semtypebase_Source_value s height) fun r1 =>
 Option.bind (a1g r1.2) fun r2 =>
 some (Val.mk r1.1.Kind r1.1.Int_ r1.1.Text r1.1.Kids r1.1.Keys r1.1.Entries r2.1,r2.2)
def a0X (n:Nat)(rec_semtypebase_Source_Value:Semtypebase_Source->Int->Option (Val×Semtypebase_Source))(_:Semtypebase_Source->Int->Option (Val×Semtypebase_Source))(rec_semtypebase_Source_entry:Semtypebase_Source->Int->Int->Option (Ent×Semtypebase_Source))(d:Semtypebase_Source)(t:Int):Option (Val×Semtypebase_Source) :=
 bif decide (t<=1)
 then (Option.bind (K8 d) fun r1 =>
 some (r1.1,r1.2))
 else (Option.bind (z8 d 6) fun r2 =>
 Option.bind (bif r2.1==1
 then (Option.bind (z8 r2.2 4) fun r3 =>
 Option.bind (z7 (a1Q t rec_semtypebase_Source_Value) (r3.1.toNat+2) ([],r3.1,r3.2)) fun b7 =>
 Option.bind (a4d b7.1) fun r8 =>
 some (.inr (b7.2,(r8.Kind,r8.Int_,r8.Text,r8.Kids,r8.Keys,r8.Entries,r8.Labels))))
 else (bif r2.1==2
 then (Option.bind (X7) fun r9 =>
 Option.bind (bif decide (2<t)
 then (Option.bind (z8 r2.2 2) fun r10 =>
 some (r10.1==1,r10.2))
 else (some (false,r2.2))) fun b11 =>
 Option.bind (bif b11.1
 then (Option.bind (rec_semtypebase_Source_Value b11.2 (wr .i64 (t-2))) fun r12 =>
 Option.bind (X7) fun r13 =>
 Option.bind (a6m r12.1 r13) fun r14 =>
 some (r12.2,r14))
 else (some (b11.2,r9))) fun b15 =>
 Option.bind (a1g b15.1) fun r16 =>
 Option.bind (rec_semtypebase_Source_Value r16.2 (wr .i64 (t-1))) fun r17 =>
 Option.bind (a6m r17.1 (Val.mk b15.2.Kind b15.2.Int_ b15.2.Text b15.2.Kids b15.2.Keys b15.2.Entries r16.1)) fun r18 =>
 some (.inr (r17.2,(r18.Kind,r18.Int_,r18.Text,r18.Kids,r18.Keys,r18.Entries,r18.Labels))))
 else (bif r2.1==3
 then (Option.bind (z8 r2.2 3) fun r19 =>
 Option.bind (z7 (a1S t rec_semtypebase_Source_Value) (r19.1.toNat+2) ([],[],r19.1,r19.2)) fun b25 =>
 Option.bind (a0H b25.1 b25.2.1) fun r26 =>
 bif r26.2==0
 then (some (.inr (b25.2.2,(r26.1.Kind,r26.1.Int_,r26.1.Text,r26.1.Kids,r26.1.Keys,r26.1.Entries,r26.1.Labels))))
 else (some (.inl (b25.2.2,(0,0,(⟨#[]⟩:ByteArray),([]:List Val),([]:List Key),([]:List Ent),([]:List ByteArray))))))
 else (bif r2.1==4
 then (Option.bind (z8 r2.2 3) fun r27 =>
 Option.bind (z8 r27.2 3) fun r28 =>
 Option.bind (z7 (a1O t r27 rec_semtypebase_Source_entry) (r28.1.toNat+2) ([],r28.1,r28.2)) fun b32 =>
 Option.bind (a2G n r27.1 b32.1) fun r33 =>
 bif r33.2==0
 then (some (.inr (b32.2,(r33.1.Kind,r33.1.Int_,r33.1.Text,r33.1.Kids,r33.1.Keys,r33.1.Entries,r33.1.Labels))))
 else (some (.inl (b32.2,(0,0,(⟨#[]⟩:ByteArray),([]:List Val),([]:List Key),([]:List Ent),([]:List ByteArray))))))
 else (some (.inl (r2.2,(0,0,(⟨#[]⟩:ByteArray),([]:List Val),([]:List Key),([]:List Ent),([]:List ByteArray))))))))) fun (b34:Sum (Semtypebase_Source×(Int×Int×ByteArray×(List Val)×(List Key)×(List Ent)×(List ByteArray))) (Semtypebase_Source×(Int×Int×ByteArray×(List Val)×(List Key)×(List Ent)×(List ByteArray)))) =>
 j9 (fun x35 =>
 Option.bind (K8 x35.1) fun r37 =>
 some (r37.1,r37.2)) (fun y36 =>
 some (Val.mk y36.2.1 y36.2.2.1 y36.2.2.2.1 y36.2.2.2.2.1 y36.2.2.2.2.2.1 y36.2.2.2.2.2.2.1 y36.2.2.2.2.2.2.2,y36.1)) b34)
def a3Q (_:Nat)(rec_semtypebase_Source_Value:Semtypebase_Source->Int->Option (Val×Semtypebase_Source))(_:Semtypebase_Source->Int->Option (Val×Semtypebase_Source))(_:Semtypebase_Source->Int->Int->Option (Ent×Semtypebase_Source))(s:Semtypebase_Source)(n_1:Int)(height:Int):Option (Ent×Semtypebase_Source) :=
 Option.bind (z7 (a1P height rec_semtypebase_Source_Value) (n_1.toNat+2) (n_1,s,([],false,0,0,(⟨#[]⟩:ByteArray),[],[],[],[]))) fun b4 =>
 Option.bind (z8 b4.1 4) fun r5 =>
 bif r5.1==1
 then (some (Ent.mk b4.2.1 true (Val.mk b4.2.2.2.1 b4.2.2.2.2.1 b4.2.2.2.2.2.1 b4.2.2.2.2.2.2.1 b4.2.2.2.2.2.2.2.1 b4.2.2.2.2.2.2.2.2.1 b4.2.2.2.2.2.2.2.2.2),r5.2))
 else (Option.bind (rec_semtypebase_Source_Value r5.2 height) fun r6 =>
 some (Ent.mk b4.2.1 b4.2.2.1 r6.1,r6.2))
def j7:Nat->(Semtypebase_Source->Int->Option (Val×Semtypebase_Source))×(Semtypebase_Source->Int->Option (Val×Semtypebase_Source))×(Semtypebase_Source->Int->Int->Option (Ent×Semtypebase_Source))
 | 0=>(fun _ _=>none,fun _ _=>none,fun _ _ _=>none)
 | n+1=>(a3Y n ((j7 n).1) ((j7 n).2.1) ((j7 n).2.2),a0X n ((j7 n).1) ((j7 n).2.1) ((j7 n).2.2),a3Q n ((j7 n).1) ((j7 n).2.1) ((j7 n).2.2))
def a2H (n:Nat):Semtypebase_Source->Int->Option (Val×Semtypebase_Source):=(j7 n).1
def b2H (n:Nat):Semtypebase_Source->Int->Option (Val×Semtypebase_Source):=(j7 n).2.1
def b2X (n:Nat):Semtypebase_Source->Int->Int->Option (Ent×Semtypebase_Source):=(j7 n).2.2
def a35 (c:Int):Option Bool :=
 Option.bind (bif decide (65<=c)
 then (some (decide (c<=90)))
 else (some false)) fun q1 =>
 some q1
def a4h (s:ByteArray)(x5:Int):Option (Fl Int (Sum Unit Bool)) :=
 bif decide (x5<(s.size:Int))
 then (Option.bind (a4i s x5) fun e6 =>
 Option.bind (a2L (e6.toNat:Int)) fun r7 =>
 Option.bind (bif !r7
 then (Option.bind (a4i s x5) fun e8 =>
 Option.bind (a35 (e8.toNat:Int)) fun r9 =>
 some (!r9))
 else (some false)) fun q10 =>
 Option.bind (bif q10
 then (Option.bind (a4i s x5) fun e11 =>
 Option.bind (a4c (e11.toNat:Int)) fun r12 =>
 some (!r12))
 else (some false)) fun q13 =>
 Option.bind (bif q13
 then (Option.bind (a4i s x5) fun e14 =>
 some ((e14.toNat:Int) != 95))
 else (some false)) fun q15 =>
 bif q15
 then (some (.done (.inr false)))
 else (some (.next (wr .i64 (x5+1)))))
 else (some (.done (.inl ())))
def a1Z (s:ByteArray):Option Bool :=
 Option.bind (bif decide ((s.size:Int)<1)
 then (some true)
 else (some (decide (16<(s.size:Int))))) fun q1 =>
 Option.bind (bif q1
 then (some true)
 else (Option.bind (a4i s 0) fun e2 =>
 Option.bind (a35 (e2.toNat:Int)) fun r3 =>
 some (!r3))) fun q4 =>
 bif q4
 then (some false)
 else (Option.bind (z7 (a4h s) ((s.size:Int).toNat+1) 1) fun b16 =>
 j9 (fun _ =>
 some true) (fun y18 =>
 some y18) b16)
def a42 (d:Val)(x1:Int):Option (Fl Int (Sum Unit Bool)) :=
 bif decide (x1<(d.Labels.length:Int))
 then (Option.bind (idx d.Labels x1) fun e2 =>
 Option.bind (a1Z e2) fun r3 =>
 Option.bind (bif !r3
 then (some true)
 else (Option.bind (bif decide (0<x1)
 then (Option.bind (idx d.Labels (wr .i64 (x1-1))) fun e4 =>
 Option.bind (idx d.Labels x1) fun e5 =>
 some (!(a26 e4 e5)))
 else (some false)) fun q6 =>
 some q6)) fun q7 =>
 bif q7
 then (some (.done (.inr false)))
 else (some (.next (wr .i64 (x1+1)))))
 else (some (.done (.inl ())))
def a4X (d:Val)(x31:Int):Option (Fl Int (Sum Unit Bool)) :=
 bif decide (x31<(d.Keys.length:Int))
 then (Option.bind (idx d.Keys x31) fun e32 =>
 Option.bind (a1r e32) fun r33 =>
 Option.bind (bif !r33
 then (some true)
 else (Option.bind (bif decide (0<x31)
 then (Option.bind (idx d.Keys (wr .i64 (x31-1))) fun e34 =>
 Option.bind (idx d.Keys x31) fun e35 =>
 Option.bind (J4 e34 e35) fun r36 =>
 some (decide (0<=r36)))
 else (some false)) fun q37 =>
 some q37)) fun q38 =>
 bif q38
 then (some (.done (.inr false)))
 else (some (.next (wr .i64 (x31+1)))))
 else (some (.done (.inl ())))
def a4T (d:Val)(n:Nat)(x43:Int):Option (Fl Int (Sum Unit Bool)) :=
 bif decide (x43<(d.Entries.length:Int))
 then (Option.bind (idx d.Entries x43) fun e44 =>
 Option.bind (bif (e44.Args.length:Int) != d.Int_
 then (some true)
 else (Option.bind (bif e44.Fails
 then (Option.bind (a02 n e44.Result (Val.mk 0 0 (⟨#[]⟩:ByteArray) ([]:List Val) ([]:List Key) ([]:List Ent) ([]:List ByteArray))) fun r45 =>
 some (!r45))
 else (some false)) fun q46 =>
 some q46)) fun q47 =>
 Option.bind (bif q47
 then (some true)
 else (Option.bind (bif decide (0<x43)
 then (Option.bind (idx d.Entries (wr .i64 (x43-1))) fun e48 =>
 Option.bind (Z9 n e48 e44) fun r49 =>
 some (decide (0<=r49)))
 else (some false)) fun q50 =>
 some q50)) fun q51 =>
 bif q51
 then (some (.done (.inr false)))
 else (some (.next (wr .i64 (x43+1)))))
 else (some (.done (.inl ())))
def a6u (n:Nat)(d:Val):Option Bool :=
 Option.bind (z7 (a42 d) ((d.Labels.length:Int).toNat+1) 0) fun b8 =>
 j9 (fun _ =>
 Option.bind (bif d.Kind==1
 then (some true)
 else (some (d.Kind==4))) fun q11 =>
 Option.bind (bif q11
 then (some true)
 else (some (d.Kind==9))) fun q12 =>
 Option.bind (bif d.Kind==2
 then (some true)
 else (some (d.Kind==3))) fun q13 =>
 Option.bind (bif d.Kind==6
 then (some true)
 else (some (d.Kind==7))) fun q14 =>
 Option.bind (bif q14
 then (some true)
 else (some (d.Kind==8))) fun q15 =>
 Option.bind (bif !q12
 then (some (d.Int_ != 0))
 else (some false)) fun q16 =>
 Option.bind (bif q16
 then (some true)
 else (Option.bind (bif !q13
 then (some (!(Y6 d.Text (⟨#[]⟩:ByteArray))))
 else (some false)) fun q17 =>
 some q17)) fun q18 =>
 Option.bind (bif q18
 then (some true)
 else (Option.bind (bif !q15
 then (some (decide (0<(d.Kids.length:Int))))
 else (some false)) fun q19 =>
 some q19)) fun q20 =>
 Option.bind (bif q20
 then (some true)
 else (Option.bind (bif d.Kind != 8
 then (some (decide (0<(d.Keys.length:Int))))
 else (some false)) fun q21 =>
 some q21)) fun q22 =>
 Option.bind (bif q22
 then (some true)
 else (Option.bind (bif d.Kind != 9
 then (some (decide (0<(d.Entries.length:Int))))
 else (some false)) fun q23 =>
 some q23)) fun q24 =>
 bif q24
 then (some false)
 else (Option.bind (bif d.Kind==1
 then (some (d.Kind==1))
 else (some (d.Kind==5))) fun b25 =>
 bif b25
 then (some true)
 else (bif d.Kind==2
 then (some (decide ((d.Text.size:Int)<=64)))
 else (bif d.Kind==3
 then (Option.bind (a2g d.Text) fun r26 =>
 some r26)
 else (bif d.Kind==4
 then (some (decide (0<=d.Int_)))
 else (bif d.Kind==6
 then (some (decide ((d.Kids.length:Int)<=4)))
 else (bif d.Kind==7
 then (Option.bind (bif (d.Kids.length:Int)==2
 then (Option.bind (idx d.Kids 1) fun e27 =>
 Option.bind (bif e27.Kind==5
 then (some true)
 else (Option.bind (idx d.Kids 1) fun e28 =>
 some (e28.Kind==7))) fun q29 =>
 some q29)
 else (some false)) fun q30 =>
 some q30)
 else (bif d.Kind==8
 then (Option.bind (z7 (a4X d) ((d.Keys.length:Int).toNat+1) 0) fun b39 =>
 j9 (fun _ =>
 some ((d.Keys.length:Int)==(d.Kids.length:Int))) (fun y41 =>
 some y41) b39)
 else (bif d.Kind==9
 then (Option.bind (bif decide (d.Int_<0)
 then (some true)
 else (some (decide (4<d.Int_)))) fun q42 =>
 bif q42
 then (some false)
 else (Option.bind (z7 (a4T d n) ((d.Entries.length:Int).toNat+1) 0) fun b52 =>
 j9 (fun _ =>
 some true) (fun y54 =>
 some y54) b52))
 else (some false)))))))))) (fun y10 =>
 some y10) b8
def a4t (v:Val)(rec_semtyperef1_Valid:Val->Option Bool)(x2:Int):Option (Fl Int (Sum Unit Bool)) :=
 bif decide (x2<(v.Kids.length:Int))
 then (Option.bind (idx v.Kids x2) fun e3 =>
 Option.bind (rec_semtyperef1_Valid e3) fun r4 =>
 bif !r4
 then (some (.done (.inr false)))
 else (some (.next (wr .i64 (x2+1)))))
 else (some (.done (.inl ())))
def a4f (rec_semtyperef1_Valid:Val->Option Bool)(e9:Ent)(x10:Int):Option (Fl Int (Sum Unit Bool)) :=
 bif decide (x10<(e9.Args.length:Int))
 then (Option.bind (idx e9.Args x10) fun e11 =>
 Option.bind (rec_semtyperef1_Valid e11) fun r12 =>
 bif !r12
 then (some (.done (.inr false)))
 else (some (.next (wr .i64 (x10+1)))))
 else (some (.done (.inl ())))
def a4k (v:Val)(rec_semtyperef1_Valid:Val->Option Bool)(x8:Int):Option (Fl Int (Sum Unit Bool)) :=
 bif decide (x8<(v.Entries.length:Int))
 then (Option.bind (idx v.Entries x8) fun e9 =>
 Option.bind (z7 (a4f rec_semtyperef1_Valid e9) ((e9.Args.length:Int).toNat+1) 0) fun b13 =>
 j9 (fun _ =>
 Option.bind (bif !e9.Fails
 then (Option.bind (rec_semtyperef1_Valid e9.Result) fun r16 =>
 some (!r16))
 else (some false)) fun q17 =>
 bif q17
 then (some (.done (.inr false)))
 else (some (.next (wr .i64 (x8+1))))) (fun y15 =>
 some (.done (.inr y15))) b13)
 else (some (.done (.inl ())))
def a6S (n:Nat)(rec_semtyperef1_Valid:Val->Option Bool)(v:Val):Option Bool :=
 Option.bind (a6u n v) fun r1 =>
 bif !r1
 then (some false)
 else (Option.bind (z7 (a4t v rec_semtyperef1_Valid) ((v.Kids.length:Int).toNat+1) 0) fun b5 =>
 j9 (fun _ =>
 Option.bind (z7 (a4k v rec_semtyperef1_Valid) ((v.Entries.length:Int).toNat+1) 0) fun b18 =>
 j9 (fun _ =>
 some true) (fun y20 =>
 some y20) b18) (fun y7 =>
 some y7) b5)
def a0d:Nat->Val->Option Bool
 | 0=>fun _=>none
 | n+1=>a6S n (a0d n)
def a0Y (t:Api_Type)(a3_3:Int)(e4:Api_TypeNode)(rec_semtypebase_Source_Near:Semtypebase_Source->Api_Type->Int->Int->Option (Val×Semtypebase_Source))(x21:Int×Semtypebase_Source×(Int×Int×ByteArray×(List Val)×(List Key)×(List Ent)×(List ByteArray))):Option (Fl (Int×Semtypebase_Source×(Int×Int×ByteArray×(List Val)×(List Key)×(List Ent)×(List ByteArray))) (Semtypebase_Source×(Int×Int×ByteArray×(List Val)×(List Key)×(List Ent)×(List ByteArray)))) :=
 bif decide (x21.1<(e4.Kids.length:Int))
 then (Option.bind (idx e4.Kids x21.1) fun e22 =>
 Option.bind (rec_semtypebase_Source_Near x21.2.1 t e22 (wr .i64 (a3_3-1))) fun r23 =>
 Option.bind (w5 (x21.2.2.2.2.2.1.length+([r23.1]:List Val).length) 128) fun _ =>
 some (.next (wr .i64 (x21.1+1),r23.2,(x21.2.2.1,x21.2.2.2.1,x21.2.2.2.2.1,x21.2.2.2.2.2.1++([r23.1]:List Val),x21.2.2.2.2.2.2.1,x21.2.2.2.2.2.2.2.1,x21.2.2.2.2.2.2.2.2))))
 else (some (.done (x21.2.1,(x21.2.2.1,x21.2.2.2.1,x21.2.2.2.2.1,x21.2.2.2.2.2.1,x21.2.2.2.2.2.2.1,x21.2.2.2.2.2.2.2.1,x21.2.2.2.2.2.2.2.2))))
def W5 (t:Api_Type)(e4:Api_TypeNode)(x40:Int×Val):Option (Fl (Int×Val) Val) :=
 bif decide (x40.1<(e4.Kids.length:Int))
 then (Option.bind (Option.bind (idx e4.Kids x40.1) fun e41 =>
 Option.bind (idx t.Nodes e41) fun e42 =>
 bif e42.Kind==19
 then (Option.bind (w5 (0+x40.2.Labels.length) 16) fun _ =>
 Option.bind (idx e4.Kids x40.1) fun e44 =>
 Option.bind (idx t.Nodes e44) fun e45 =>
 Option.bind (w5 (x40.2.Labels.length+([e45.Text]:List ByteArray).length) 16) fun _ =>
 Option.bind (a0g (x40.2.Labels++([e45.Text]:List ByteArray))) fun r47 =>
 some (Val.mk x40.2.Kind x40.2.Int_ x40.2.Text x40.2.Kids x40.2.Keys x40.2.Entries r47))
 else (some x40.2)) fun b48 =>
 some (.next (wr .i64 (x40.1+1),b48)))
 else (some (.done x40.2))
def K3 (t:Api_Type)(a2_2:Api_TypeNode)(a3_3:Int)(rec_semtypebase_Source_Near:Semtypebase_Source->Api_Type->Int->Int->Option (Val×Semtypebase_Source))(x3:Int×Semtypebase_Source×((List Val)×Bool×Int×Int×ByteArray×(List Val)×(List Key)×(List Ent)×(List ByteArray))):Option (Fl (Int×Semtypebase_Source×((List Val)×Bool×Int×Int×ByteArray×(List Val)×(List Key)×(List Ent)×(List ByteArray))) (Semtypebase_Source×((List Val)×Bool×Int×Int×ByteArray×(List Val)×(List Key)×(List Ent)×(List ByteArray)))) :=
 bif decide (x3.1<(wr .i64 ((a2_2.Kids.length:Int)-1)))
 then (Option.bind (idx a2_2.Kids x3.1) fun e4 =>
 Option.bind (rec_semtypebase_Source_Near x3.2.1 t e4 (wr .i64 (a3_3-1))) fun r5 =>
 Option.bind (w5 (x3.2.2.1.length+([r5.1]:List Val).length) 128) fun _ =>
 some (.next (wr .i64 (x3.1+1),r5.2,(x3.2.2.1++([r5.1]:List Val),x3.2.2.2.1,x3.2.2.2.2.1,x3.2.2.2.2.2.1,x3.2.2.2.2.2.2.1,x3.2.2.2.2.2.2.2.1,x3.2.2.2.2.2.2.2.2.1,x3.2.2.2.2.2.2.2.2.2.1,x3.2.2.2.2.2.2.2.2.2.2))))
 else (some (.done (x3.2.1,(x3.2.2.1,x3.2.2.2.1,x3.2.2.2.2.1,x3.2.2.2.2.2.1,x3.2.2.2.2.2.2.1,x3.2.2.2.2.2.2.2.1,x3.2.2.2.2.2.2.2.2.1,x3.2.2.2.2.2.2.2.2.2.1,x3.2.2.2.2.2.2.2.2.2.2))))
def W6 (t:Api_Type)(a2_2:Api_TypeNode)(a3_3:Int)(rec_semtypebase_Source_Near:Semtypebase_Source->Api_Type->Int->Int->Option (Val×Semtypebase_Source))(x2:(List Ent)×Int×Semtypebase_Source):Option (Fl ((List Ent)×Int×Semtypebase_Source) ((List Ent)×Semtypebase_Source)) :=
 bif decide (0<x2.2.1)
 then (Option.bind (z7 (K3 t a2_2 a3_3 rec_semtypebase_Source_Near) ((wr .i64 ((a2_2.Kids.length:Int)-1)).toNat+1) (0,x2.2.2,([],false,0,0,(⟨#[]⟩:ByteArray),[],[],[],[]))) fun b7 =>
 Option.bind (z8 b7.1 6) fun r8 =>
 Option.bind (bif r8.1==1
 then (some (r8.2,(b7.2.1,true,b7.2.2.2.1,b7.2.2.2.2.1,b7.2.2.2.2.2.1,b7.2.2.2.2.2.2.1,b7.2.2.2.2.2.2.2.1,b7.2.2.2.2.2.2.2.2.1,b7.2.2.2.2.2.2.2.2.2)))
 else (Option.bind (idx a2_2.Kids (wr .i64 ((a2_2.Kids.length:Int)-1))) fun e9 =>
 Option.bind (rec_semtypebase_Source_Near r8.2 t e9 (wr .i64 (a3_3-1))) fun r10 =>
 some (r10.2,(b7.2.1,b7.2.2.1,r10.1.Kind,r10.1.Int_,r10.1.Text,r10.1.Kids,r10.1.Keys,r10.1.Entries,r10.1.Labels)))) fun b11 =>
 Option.bind (w5 (x2.1.length+([Ent.mk b11.2.1 b11.2.2.1 (Val.mk b11.2.2.2.1 b11.2.2.2.2.1 b11.2.2.2.2.2.1 b11.2.2.2.2.2.2.1 b11.2.2.2.2.2.2.2.1 b11.2.2.2.2.2.2.2.2.1 b11.2.2.2.2.2.2.2.2.2)]:List Ent).length) 160) fun _ =>
 some (.next (x2.1++([Ent.mk b11.2.1 b11.2.2.1 (Val.mk b11.2.2.2.1 b11.2.2.2.2.1 b11.2.2.2.2.2.1 b11.2.2.2.2.2.2.1 b11.2.2.2.2.2.2.2.1 b11.2.2.2.2.2.2.2.2.1 b11.2.2.2.2.2.2.2.2.2)]:List Ent),wr .i64 (x2.2.1-1),b11.1)))
 else (some (.done (x2.1,x2.2.2)))
def a0n (t:Api_Type)(a2_2:Api_TypeNode)(a3_3:Int)(rec_semtypebase_Source_Near:Semtypebase_Source->Api_Type->Int->Int->Option (Val×Semtypebase_Source))(x1:(List Key)×(List Val)×Int×Semtypebase_Source):Option (Fl ((List Key)×(List Val)×Int×Semtypebase_Source) ((List Key)×(List Val)×Semtypebase_Source)) :=
 bif decide (x1.2.2.1<(a2_2.Fields.length:Int))
 then (Option.bind (Option.bind (Option.bind (idx a2_2.Fields x1.2.2.1) fun e2 =>
 bif e2.Optional
 then (Option.bind (z8 x1.2.2.2 2) fun r3 =>
 some (r3.1==1,r3.2))
 else (some (false,x1.2.2.2))) fun b4 =>
 bif b4.1
 then (some (x1.1,x1.2.1,b4.2))
 else (Option.bind (idx a2_2.Fields x1.2.2.1) fun e5 =>
 Option.bind (w5 (x1.1.length+([e5.Key_]:List Key).length) 24) fun _ =>
 Option.bind (idx a2_2.Fields x1.2.2.1) fun e7 =>
 Option.bind (rec_semtypebase_Source_Near b4.2 t e7.Node (wr .i64 (a3_3-1))) fun r8 =>
 Option.bind (w5 (x1.2.1.length+([r8.1]:List Val).length) 128) fun _ =>
 some (x1.1++([e5.Key_]:List Key),x1.2.1++([r8.1]:List Val),r8.2))) fun b10 =>
 some (.next (b10.1,b10.2.1,wr .i64 (x1.2.2.1+1),b10.2.2)))
 else (some (.done (x1.1,x1.2.1,x1.2.2.2)))
def a4e (n:Nat)(_:Semtypebase_Source->Api_Type->Int->Int->Option (Val×Semtypebase_Source))(rec_semtypebase_Source_near:Semtypebase_Source->Api_Type->Int->Int->Option (Val×Semtypebase_Source))(_:Semtypebase_Source->Api_Type->Api_TypeNode->Int->Option (Val×Semtypebase_Source))(_:Semtypebase_Source->Api_Type->Api_TypeNode->Int->Option (Val×Semtypebase_Source))(s:Semtypebase_Source)(t:Api_Type)(k:Int)(height:Int):Option (Val×Semtypebase_Source) :=
 Option.bind (rec_semtypebase_Source_near s t k height) fun r1 =>
 Option.bind (a0d n r1.1) fun r2 =>
 bif !r2
 then (Option.bind (K8 r1.2) fun r3 =>
 some (r3.1,r3.2))
 else (some (r1.1,r1.2))
def a08 (n:Nat)(rec_semtypebase_Source_Near:Semtypebase_Source->Api_Type->Int->Int->Option (Val×Semtypebase_Source))(rec_semtypebase_Source_near:Semtypebase_Source->Api_Type->Int->Int->Option (Val×Semtypebase_Source))(rec_semtypebase_Source_nearFunction:Semtypebase_Source->Api_Type->Api_TypeNode->Int->Option (Val×Semtypebase_Source))(rec_semtypebase_Source_nearMap:Semtypebase_Source->Api_Type->Api_TypeNode->Int->Option (Val×Semtypebase_Source))(d:Semtypebase_Source)(t:Api_Type)(a2_2:Int)(a3_3:Int):Option (Val×Semtypebase_Source) :=
 Option.bind (bif decide (a3_3<=0)
 then (some true)
 else (some (decide (a2_2<0)))) fun q1 =>
 Option.bind (bif q1
 then (some true)
 else (some (decide ((t.Nodes.length:Int)<=a2_2)))) fun q2 =>
 bif q2
 then (Option.bind (K8 d) fun r3 =>
 some (r3.1,r3.2))
 else (Option.bind (idx t.Nodes a2_2) fun e4 =>
 bif e4.Kind==3
 then (Option.bind (b6E .i64 e4.Hi 2) fun d5 =>
 Option.bind (b6E .i64 e4.Lo 2) fun d6 =>
 Option.bind (z8 d 3) fun r7 =>
 Option.bind (idx ([e4.Lo,e4.Hi,wr .i64 (e4.Lo+(wr .i64 (d5-d6)))]:List Int) r7.1) fun _ =>
 Option.bind (([e4.Lo,e4.Hi,wr .i64 (e4.Lo+(wr .i64 (d5-d6)))]:List Int)[r7.1.toNat]?) fun e9 =>
 Option.bind (a89 e9) fun r10 =>
 some (r10,r7.2))
 else (bif e4.Kind==4
 then (Option.bind (a5q e4.Text) fun r11 =>
 some (r11,d))
 else (bif e4.Kind==5
 then (Option.bind (a0e d) fun r12 =>
 Option.bind (a5q r12.1) fun r13 =>
 some (r13,r12.2))
 else (bif e4.Kind==6
 then (Option.bind (a6y e4.Text) fun r14 =>
 some (r14,d))
 else (bif e4.Kind==7
 then (Option.bind (V6 d) fun r15 =>
 Option.bind (a6y r15.1) fun r16 =>
 some (r16,r15.2))
 else (bif e4.Kind==8
 then (Option.bind (z8 d 2) fun r17 =>
 Option.bind (a8Q r17.1) fun r18 =>
 some (r18,r17.2))
 else (bif e4.Kind==9
 then (Option.bind (X7) fun r19 =>
 some (r19,d))
 else (Option.bind (bif e4.Kind==10
 then (some (e4.Kind==10))
 else (some (e4.Kind==12))) fun b20 =>
 bif b20
 then (Option.bind (z7 (a0Y t a3_3 e4 rec_semtypebase_Source_Near) ((e4.Kids.length:Int).toNat+1) (0,d,(0,0,(⟨#[]⟩:ByteArray),[],[],[],[]))) fun b25 =>
 Option.bind (bif e4.Kind==12
 then (Option.bind (idx b25.2.2.2.2.1 1) fun _ =>
 Option.bind (b25.2.2.2.2.1[(1:Int).toNat]?) fun e27 =>
 bif e27.Kind != 7
 then (Option.bind (X7) fun r28 =>
 Option.bind (idx b25.2.2.2.2.1 1) fun _ =>
 Option.bind (b25.2.2.2.2.1[(1:Int).toNat]?) fun _ =>
 some (7,b25.2.2.1,b25.2.2.2.1,b25.2.2.2.2.1.set ((1:Int).toNat) r28,b25.2.2.2.2.2.1,b25.2.2.2.2.2.2.1,b25.2.2.2.2.2.2.2))
 else (some (7,b25.2.2.1,b25.2.2.2.1,b25.2.2.2.2.1,b25.2.2.2.2.2.1,b25.2.2.2.2.2.2.1,b25.2.2.2.2.2.2.2)))
 else (some (6,b25.2.2.1,b25.2.2.2.1,b25.2.2.2.2.1,b25.2.2.2.2.2.1,b25.2.2.2.2.2.2.1,b25.2.2.2.2.2.2.2))) fun b31 =>
 some (Val.mk b31.1 b31.2.1 b31.2.2.1 b31.2.2.2.1 b31.2.2.2.2.1 b31.2.2.2.2.2.1 b31.2.2.2.2.2.2,b25.1))
 else (bif e4.Kind==13
 then (Option.bind (rec_semtypebase_Source_nearMap d t e4 a3_3) fun r32 =>
 some (r32.1,r32.2))
 else (bif e4.Kind==14
 then (Option.bind (rec_semtypebase_Source_nearFunction d t e4 a3_3) fun r33 =>
 some (r33.1,r33.2))
 else (bif e4.Kind==16
 then (Option.bind (z8 d (e4.Kids.length:Int)) fun r34 =>
 Option.bind (idx e4.Kids r34.1) fun e35 =>
 Option.bind (rec_semtypebase_Source_near r34.2 t e35 a3_3) fun r36 =>
 some (r36.1,r36.2))
 else (bif e4.Kind==17
 then (Option.bind (z8 d (e4.Kids.length:Int)) fun r37 =>
 Option.bind (idx e4.Kids r37.1) fun e38 =>
 Option.bind (rec_semtypebase_Source_near r37.2 t e38 a3_3) fun r39 =>
 Option.bind (z7 (W5 t e4) ((e4.Kids.length:Int).toNat+1) (0,r39.1)) fun b49 =>
 some (b49,r39.2))
 else (bif e4.Kind==19
 then (Option.bind (K8 d) fun r50 =>
 Option.bind (a5E r50.1 ([e4.Text]:List ByteArray)) fun r51 =>
 some (r51,r50.2))
 else (Option.bind (a2H n d 2) fun r52 =>
 some (r52.1,r52.2)))))))))))))))
def a12 (n:Nat)(rec_semtypebase_Source_Near:Semtypebase_Source->Api_Type->Int->Int->Option (Val×Semtypebase_Source))(_:Semtypebase_Source->Api_Type->Int->Int->Option (Val×Semtypebase_Source))(_:Semtypebase_Source->Api_Type->Api_TypeNode->Int->Option (Val×Semtypebase_Source))(_:Semtypebase_Source->Api_Type->Api_TypeNode->Int->Option (Val×Semtypebase_Source))(d:Semtypebase_Source)(t:Api_Type)(a2_2:Api_TypeNode)(a3_3:Int):Option (Val×Semtypebase_Source) :=
 Option.bind (z8 d 3) fun r1 =>
 Option.bind (z7 (W6 t a2_2 a3_3 rec_semtypebase_Source_Near) (r1.1.toNat+2) ([],r1.1,r1.2)) fun b13 =>
 Option.bind (a2G n (wr .i64 ((a2_2.Kids.length:Int)-1)) b13.1) fun r14 =>
 bif r14.2 != 0
 then (Option.bind (X7) fun r15 =>
 some (r15,b13.2))
 else (some (r14.1,b13.2))
def a3e (_:Nat)(rec_semtypebase_Source_Near:Semtypebase_Source->Api_Type->Int->Int->Option (Val×Semtypebase_Source))(_:Semtypebase_Source->Api_Type->Int->Int->Option (Val×Semtypebase_Source))(_:Semtypebase_Source->Api_Type->Api_TypeNode->Int->Option (Val×Semtypebase_Source))(_:Semtypebase_Source->Api_Type->Api_TypeNode->Int->Option (Val×Semtypebase_Source))(d:Semtypebase_Source)(t:Api_Type)(a2_2:Api_TypeNode)(a3_3:Int):Option (Val×Semtypebase_Source) :=
 Option.bind (z7 (a0n t a2_2 a3_3 rec_semtypebase_Source_Near) ((a2_2.Fields.length:Int).toNat+1) ([],[],0,d)) fun b11 =>
 Option.bind (z8 b11.2.2 2) fun r12 =>
 Option.bind (bif r12.1==1
 then (Option.bind (z8 r12.2 2) fun r13 =>
 Option.bind (w5 (b11.1.length+([Key.mk r13.1 (⟨#[111,116,104,101,114]⟩:ByteArray)]:List Key).length) 24) fun _ =>
 bif r13.1==0
 then (Option.bind (rec_semtypebase_Source_Near r13.2 t a2_2.Rest.1 (wr .i64 (a3_3-1))) fun r15 =>
 Option.bind (w5 (b11.2.1.length+([r15.1]:List Val).length) 128) fun _ =>
 some (b11.1++([Key.mk r13.1 (⟨#[111,116,104,101,114]⟩:ByteArray)]:List Key),b11.2.1++([r15.1]:List Val),r15.2))
 else (bif r13.1==1
 then (Option.bind (rec_semtypebase_Source_Near r13.2 t a2_2.Rest.2 (wr .i64 (a3_3-1))) fun r17 =>
 Option.bind (w5 (b11.2.1.length+([r17.1]:List Val).length) 128) fun _ =>
 some (b11.1++([Key.mk r13.1 (⟨#[111,116,104,101,114]⟩:ByteArray)]:List Key),b11.2.1++([r17.1]:List Val),r17.2))
 else (none)))
 else (some (b11.1,b11.2.1,r12.2))) fun b19 =>
 Option.bind (a0H b19.1 b19.2.1) fun r20 =>
 bif r20.2 != 0
 then (Option.bind (X7) fun r21 =>
 some (r21,b19.2.2))
 else (some (r20.1,b19.2.2))
def y2:Nat->(Semtypebase_Source->Api_Type->Int->Int->Option (Val×Semtypebase_Source))×(Semtypebase_Source->Api_Type->Int->Int->Option (Val×Semtypebase_Source))×(Semtypebase_Source->Api_Type->Api_TypeNode->Int->Option (Val×Semtypebase_Source))×(Semtypebase_Source->Api_Type->Api_TypeNode->Int->Option (Val×Semtypebase_Source))
 | 0=>(fun _ _ _ _=>none,fun _ _ _ _=>none,fun _ _ _ _=>none,fun _ _ _ _=>none)
 | n+1=>(a4e n ((y2 n).1) ((y2 n).2.1) ((y2 n).2.2.1) ((y2 n).2.2.2),a08 n ((y2 n).1) ((y2 n).2.1) ((y2 n).2.2.1) ((y2 n).2.2.2),a12 n ((y2 n).1) ((y2 n).2.1) ((y2 n).2.2.1) ((y2 n).2.2.2),a3e n ((y2 n).1) ((y2 n).2.1) ((y2 n).2.2.1) ((y2 n).2.2.2))
def a20 (n:Nat):Semtypebase_Source->Api_Type->Int->Int->Option (Val×Semtypebase_Source):=(y2 n).1
def b3l (n:Nat):Semtypebase_Source->Api_Type->Int->Int->Option (Val×Semtypebase_Source):=(y2 n).2.1
def a8L (n:Nat):Semtypebase_Source->Api_Type->Api_TypeNode->Int->Option (Val×Semtypebase_Source):=(y2 n).2.2.1
def b1b (n:Nat):Semtypebase_Source->Api_Type->Api_TypeNode->Int->Option (Val×Semtypebase_Source):=(y2 n).2.2.2
def a4W (d:Api_Type)(t:Api_TypeNode)(x1:Int):Option (Fl Int (Sum Unit Bool)) :=
 bif decide (x1<(t.Kids.length:Int))
 then (Option.bind (idx t.Kids x1) fun e2 =>
 Option.bind (a0v d e2) fun r3 =>
 bif !r3
 then (some (.done (.inr false)))
 else (some (.next (wr .i64 (x1+1)))))
 else (some (.done (.inl ())))
def a4U (d:Api_Type)(t:Api_TypeNode)(x24:Int):Option (Fl Int (Sum Unit Bool)) :=
 bif decide (x24<(t.Fields.length:Int))
 then (Option.bind (idx t.Fields x24) fun e25 =>
 Option.bind (a0v d e25.Node) fun r26 =>
 Option.bind (bif !r26
 then (some true)
 else (Option.bind (a1r e25.Key_) fun r27 =>
 some (!r27))) fun q28 =>
 Option.bind (bif q28
 then (some true)
 else (Option.bind (bif decide (0<x24)
 then (Option.bind (idx t.Fields (wr .i64 (x24-1))) fun e29 =>
 Option.bind (J4 e29.Key_ e25.Key_) fun r30 =>
 some (decide (0<=r30)))
 else (some false)) fun q31 =>
 some q31)) fun q32 =>
 bif q32
 then (some (.done (.inr false)))
 else (some (.next (wr .i64 (x24+1)))))
 else (some (.done (.inl ())))
def a6F (d:Api_Type)(t:Api_TypeNode):Option Bool :=
 Option.bind (z7 (a4W d t) ((t.Kids.length:Int).toNat+1) 0) fun b4 =>
 j9 (fun _ =>
 Option.bind (bif t.Kind==4
 then (some true)
 else (some (t.Kind==6))) fun q7 =>
 Option.bind (bif q7
 then (some true)
 else (some (t.Kind==19))) fun q8 =>
 Option.bind (bif !(t.Kind==3)
 then (Option.bind (bif t.Lo != 0
 then (some true)
 else (some (t.Hi != 0))) fun q9 =>
 some q9)
 else (some false)) fun q10 =>
 Option.bind (bif q10
 then (some true)
 else (Option.bind (bif !q8
 then (some (!(Y6 t.Text (⟨#[]⟩:ByteArray))))
 else (some false)) fun q11 =>
 some q11)) fun q12 =>
 bif q12
 then (some false)
 else (Option.bind (bif t.Kind != 13
 then (Option.bind (bif decide (0<(t.Fields.length:Int))
 then (some true)
 else (some (!(b2n t.Rest (0,0))))) fun q13 =>
 some q13)
 else (some false)) fun q14 =>
 bif q14
 then (some false)
 else (bif t.Kind==3
 then (Option.bind (bif (t.Kids.length:Int)==0
 then (some (decide (t.Lo<=t.Hi)))
 else (some false)) fun q15 =>
 some q15)
 else (bif t.Kind==4
 then (Option.bind (bif (t.Kids.length:Int)==0
 then (some (decide ((t.Text.size:Int)<=64)))
 else (some false)) fun q16 =>
 some q16)
 else (bif t.Kind==6
 then (Option.bind (bif (t.Kids.length:Int)==0
 then (Option.bind (a2g t.Text) fun r17 =>
 some r17)
 else (some false)) fun q18 =>
 some q18)
 else (bif t.Kind==19
 then (Option.bind (bif (t.Kids.length:Int)==0
 then (Option.bind (a1Z t.Text) fun r19 =>
 some r19)
 else (some false)) fun q20 =>
 some q20)
 else (Option.bind (bif t.Kind==1
 then (some (t.Kind==1))
 else (bif t.Kind==2
 then (some (t.Kind==2))
 else (bif t.Kind==5
 then (some (t.Kind==5))
 else (bif t.Kind==7
 then (some (t.Kind==7))
 else (bif t.Kind==8
 then (some (t.Kind==8))
 else (bif t.Kind==9
 then (some (t.Kind==9))
 else (bif t.Kind==11
 then (some (t.Kind==11))
 else (some (t.Kind==15))))))))) fun b21 =>
 bif b21
 then (some ((t.Kids.length:Int)==0))
 else (bif t.Kind==10
 then (some (decide ((t.Kids.length:Int)<=4)))
 else (bif t.Kind==12
 then (some ((t.Kids.length:Int)==2))
 else (bif t.Kind==14
 then (Option.bind (bif decide (1<=(t.Kids.length:Int))
 then (some (decide ((t.Kids.length:Int)<=5)))
 else (some false)) fun q22 =>
 some q22)
 else (Option.bind (bif t.Kind==16
 then (some (t.Kind==16))
 else (some (t.Kind==17))) fun b23 =>
 bif b23
 then (some (decide (1<=(t.Kids.length:Int))))
 else (bif t.Kind==18
 then (some ((t.Kids.length:Int)==1))
 else (bif t.Kind==13
 then (Option.bind (z7 (a4U d t) ((t.Fields.length:Int).toNat+1) 0) fun b33 =>
 j9 (fun _ =>
 Option.bind (bif (t.Kids.length:Int)==0
 then (Option.bind (a0v d t.Rest.1) fun r36 =>
 some r36)
 else (some false)) fun q37 =>
 Option.bind (bif q37
 then (Option.bind (a0v d t.Rest.2) fun r38 =>
 some r38)
 else (some false)) fun q39 =>
 some q39) (fun y35 =>
 some y35) b33)
 else (some false)))))))))))))) (fun y6 =>
 some y6) b4
def a4Z (n_0:Api_TypeNode):Option Bool :=
 Option.bind (bif n_0.Kind==16
 then (some true)
 else (some (n_0.Kind==17))) fun q1 =>
 Option.bind (bif q1
 then (some true)
 else (some (n_0.Kind==18))) fun q2 =>
 some q2
def a2s (d:Api_Type)(x2:Int):Option (Fl Int (Sum Unit Int)) :=
 bif decide (x2<(d.Nodes.length:Int))
 then (Option.bind (idx d.Nodes x2) fun e3 =>
 Option.bind (a6F d e3) fun r4 =>
 bif !r4
 then (some (.done (.inr 1)))
 else (some (.next (wr .i64 (x2+1)))))
 else (some (.done (.inl ())))
def J5 (d:Api_Type)(x10:(List Bool)×Int)(x11:(List Bool)×Bool×Int):Option (Fl ((List Bool)×Bool×Int) ((List Bool)×Bool)) :=
 Option.bind (idx d.Nodes x10.2) fun e12 =>
 Option.bind (a4Z e12) fun r13 =>
 Option.bind (bif r13
 then (Option.bind (idx d.Nodes x10.2) fun e14 =>
 some (decide (x11.2.2<(e14.Kids.length:Int))))
 else (some false)) fun q15 =>
 bif q15
 then (Option.bind (bif x11.2.1
 then (Option.bind (idx d.Nodes x10.2) fun e16 =>
 Option.bind (idx e16.Kids x11.2.2) fun e17 =>
 Option.bind (idx x11.1 e17) fun _ =>
 Option.bind (x11.1[e17.toNat]?) fun e19 =>
 some e19)
 else (some false)) fun q20 =>
 some (.next (x11.1,q20,wr .i64 (x11.2.2+1))))
 else (some (.done (x11.1,x11.2.1)))
def X1 (d:Api_Type)(n:Nat)(x10:(List Bool)×Int):Option (Fl ((List Bool)×Int) (List Bool)) :=
 bif decide (x10.2<(d.Nodes.length:Int))
 then (Option.bind (z7 (J5 d x10) n (x10.1,true,0)) fun b21 =>
 Option.bind (idx b21.1 x10.2) fun _ =>
 Option.bind (b21.1[x10.2.toNat]?) fun e23 =>
 Option.bind (bif e23
 then (some true)
 else (some b21.2)) fun q24 =>
 Option.bind (idx b21.1 x10.2) fun _ =>
 Option.bind (b21.1[x10.2.toNat]?) fun _ =>
 some (.next (b21.1.set x10.2.toNat q24,wr .i64 (x10.2+1))))
 else (some (.done x10.1))
def X2 (d:Api_Type)(n:Nat)(x9:(List Bool)×Int):Option (Fl ((List Bool)×Int) (List Bool)) :=
 bif decide (x9.2<(d.Nodes.length:Int))
 then (Option.bind (z7 (X1 d n) ((d.Nodes.length:Int).toNat+1) (x9.1,0)) fun b27 =>
 some (.next (b27,wr .i64 (x9.2+1))))
 else (some (.done x9.1))
def a07 (x29:(List Bool)×Int):Option (Fl ((List Bool)×Int) (Sum (List Bool) (Int×(List Bool)))) :=
 bif decide (x29.2<(x29.1.length:Int))
 then (Option.bind (idx x29.1 x29.2) fun _ =>
 Option.bind (x29.1[x29.2.toNat]?) fun e31 =>
 bif !e31
 then (some (.done (.inr (3,x29.1))))
 else (some (.next (x29.1,wr .i64 (x29.2+1)))))
 else (some (.done (.inl x29.1)))
def a01 (n:Nat)(d:Api_Type):Option Int :=
 Option.bind (a0v d d.Root) fun r1 =>
 bif !r1
 then (some 1)
 else (Option.bind (z7 (a2s d) ((d.Nodes.length:Int).toNat+1) 0) fun b5 =>
 j9 (fun _ =>
 Option.bind (a6H (d.Nodes.length:Int) (d.Nodes.length:Int) 1) fun m8 =>
 Option.bind (z7 (X2 d n) ((d.Nodes.length:Int).toNat+1) (List.replicate m8 (false:Bool),0)) fun b28 =>
 Option.bind (z7 a07 ((b28.length:Int).toNat+1) (b28,0)) fun b32 =>
 j9 (fun _ =>
 some 0) (fun y34 =>
 some y34.1) b32) (fun y7 =>
 some y7) b5)
def a5t (v:Val)(k:Key)(x1:Int):Option (Fl Int (Sum Unit Int)) :=
 bif decide (x1<(v.Keys.length:Int))
 then (Option.bind (idx v.Keys x1) fun e2 =>
 bif a3B e2 k
 then (some (.done (.inr x1)))
 else (some (.next (wr .i64 (x1+1)))))
 else (some (.done (.inl ())))
def a64 (v:Val)(k:Key):Option Int :=
 Option.bind (z7 (a5t v k) ((v.Keys.length:Int).toNat+1) 0) fun b3 =>
 j9 (fun _ =>
 some (-1)) (fun y5 =>
 some y5) b3
def a4j (n_0:Api_TypeNode)(k:Key)(x1:Int):Option (Fl Int (Sum Unit Int)) :=
 bif decide (x1<(n_0.Fields.length:Int))
 then (Option.bind (idx n_0.Fields x1) fun e2 =>
 bif a3B e2.Key_ k
 then (some (.done (.inr x1)))
 else (some (.next (wr .i64 (x1+1)))))
 else (some (.done (.inl ())))
def a2O (n_0:Api_TypeNode)(k:Key):Option Int :=
 Option.bind (z7 (a4j n_0 k) ((n_0.Fields.length:Int).toNat+1) 0) fun b3 =>
 j9 (fun _ =>
 some (-1)) (fun y5 =>
 some y5) b3
def a2Z (v:Val)(t:Api_Type)(n_2:Api_TypeNode)(rec_semtyperef7_members:(List Val)->Api_Type->(List Int)->Option Bool)(rec_semtyperef7_member:Val->Api_Type->Int->Option Bool)(x1:Int):Option (Fl Int (Sum Unit Bool)) :=
 bif decide (x1<(v.Entries.length:Int))
 then (Option.bind (idx v.Entries x1) fun e2 =>
 Option.bind (cut n_2.Kids 0 (wr .i64 ((n_2.Kids.length:Int)-1))) fun y3 =>
 Option.bind (rec_semtyperef7_members e2.Args t y3) fun r4 =>
 Option.bind (bif r4
 then (Option.bind (bif e2.Fails
 then (some true)
 else (Option.bind (idx n_2.Kids (wr .i64 ((n_2.Kids.length:Int)-1))) fun e5 =>
 Option.bind (rec_semtyperef7_member e2.Result t e5) fun r6 =>
 some (!r6))) fun q7 =>
 some q7)
 else (some false)) fun q8 =>
 bif q8
 then (some (.done (.inr false)))
 else (some (.next (wr .i64 (x1+1)))))
 else (some (.done (.inl ())))
def a3p (d:Val)(a2_2:Api_TypeNode)(x1:Int):Option (Fl Int (Sum Unit Bool)) :=
 bif decide (x1<(a2_2.Fields.length:Int))
 then (Option.bind (idx a2_2.Fields x1) fun e2 =>
 Option.bind (bif !e2.Optional
 then (Option.bind (idx a2_2.Fields x1) fun e3 =>
 Option.bind (a64 d e3.Key_) fun r4 =>
 some (decide (r4<0)))
 else (some false)) fun q5 =>
 bif q5
 then (some (.done (.inr false)))
 else (some (.next (wr .i64 (x1+1)))))
 else (some (.done (.inl ())))
def a1X (d:Val)(t:Api_Type)(a2_2:Api_TypeNode)(rec_semtyperef7_member:Val->Api_Type->Int->Option Bool)(x9:Int):Option (Fl Int (Sum Unit Bool)) :=
 bif decide (x9<(d.Keys.length:Int))
 then (Option.bind (idx d.Keys x9) fun e10 =>
 Option.bind (a2O a2_2 e10) fun r11 =>
 Option.bind (Option.bind (idx d.Keys x9) fun e12 =>
 bif e12.Kind==0
 then (some a2_2.Rest.1)
 else (bif e12.Kind==1
 then (some a2_2.Rest.2)
 else (none))) fun b13 =>
 Option.bind (bif decide (0<=r11)
 then (Option.bind (idx a2_2.Fields r11) fun e14 =>
 some e14.Node)
 else (some b13)) fun b15 =>
 Option.bind (idx d.Kids x9) fun e16 =>
 Option.bind (rec_semtyperef7_member e16 t b15) fun r17 =>
 bif !r17
 then (some (.done (.inr false)))
 else (some (.next (wr .i64 (x9+1)))))
 else (some (.done (.inl ())))
def a2n (d:Val)(t:Api_Type)(e1:Api_TypeNode)(rec_semtyperef7_member:Val->Api_Type->Int->Option Bool)(x14:Int):Option (Fl Int (Sum Unit Bool)) :=
 bif decide (x14<(e1.Kids.length:Int))
 then (Option.bind (idx e1.Kids x14) fun e15 =>
 Option.bind (rec_semtyperef7_member d t e15) fun r16 =>
 bif r16
 then (some (.done (.inr true)))
 else (some (.next (wr .i64 (x14+1)))))
 else (some (.done (.inl ())))
def a1j (d:Val)(t:Api_Type)(e1:Api_TypeNode)(rec_semtyperef7_member:Val->Api_Type->Int->Option Bool)(x20:Int):Option (Fl Int (Sum Unit Bool)) :=
 bif decide (x20<(e1.Kids.length:Int))
 then (Option.bind (idx e1.Kids x20) fun e21 =>
 Option.bind (rec_semtyperef7_member d t e21) fun r22 =>
 bif !r22
 then (some (.done (.inr false)))
 else (some (.next (wr .i64 (x20+1)))))
 else (some (.done (.inl ())))
def a2p (d:Val)(e1:Api_TypeNode)(x28:Int):Option (Fl Int (Sum Unit Bool)) :=
 bif decide (x28<(d.Labels.length:Int))
 then (Option.bind (idx d.Labels x28) fun e29 =>
 bif Y6 e29 e1.Text
 then (some (.done (.inr true)))
 else (some (.next (wr .i64 (x28+1)))))
 else (some (.done (.inl ())))
def a1Y (l:List Val)(t:Api_Type)(nodes:List Int)(rec_semtyperef7_member:Val->Api_Type->Int->Option Bool)(x1:Int):Option (Fl Int (Sum Unit Bool)) :=
 bif decide (x1<(l.length:Int))
 then (Option.bind (idx l x1) fun e2 =>
 Option.bind (idx nodes x1) fun e3 =>
 Option.bind (rec_semtyperef7_member e2 t e3) fun r4 =>
 bif !r4
 then (some (.done (.inr false)))
 else (some (.next (wr .i64 (x1+1)))))
 else (some (.done (.inl ())))
def a5F (_:Nat)(_:Val->Api_Type->Api_TypeNode->Option Bool)(_:Val->Api_Type->Api_TypeNode->Option Bool)(rec_semtyperef7_member:Val->Api_Type->Int->Option Bool)(rec_semtyperef7_members:(List Val)->Api_Type->(List Int)->Option Bool)(v:Val)(t:Api_Type)(n_2:Api_TypeNode):Option Bool :=
 bif v.Int_ != (wr .i64 ((n_2.Kids.length:Int)-1))
 then (some false)
 else (Option.bind (z7 (a2Z v t n_2 rec_semtyperef7_members rec_semtyperef7_member) ((v.Entries.length:Int).toNat+1) 0) fun b9 =>
 j9 (fun _ =>
 some true) (fun y11 =>
 some y11) b9)
def a56 (_:Nat)(_:Val->Api_Type->Api_TypeNode->Option Bool)(_:Val->Api_Type->Api_TypeNode->Option Bool)(rec_semtyperef7_member:Val->Api_Type->Int->Option Bool)(_:(List Val)->Api_Type->(List Int)->Option Bool)(d:Val)(t:Api_Type)(a2_2:Api_TypeNode):Option Bool :=
 Option.bind (z7 (a3p d a2_2) ((a2_2.Fields.length:Int).toNat+1) 0) fun b6 =>
 j9 (fun _ =>
 Option.bind (z7 (a1X d t a2_2 rec_semtyperef7_member) ((d.Keys.length:Int).toNat+1) 0) fun b18 =>
 j9 (fun _ =>
 some true) (fun y20 =>
 some y20) b18) (fun y8 =>
 some y8) b6
def a6w (_:Nat)(rec_semtyperef7_function:Val->Api_Type->Api_TypeNode->Option Bool)(rec_semtyperef7_mapping:Val->Api_Type->Api_TypeNode->Option Bool)(rec_semtyperef7_member:Val->Api_Type->Int->Option Bool)(rec_semtyperef7_members:(List Val)->Api_Type->(List Int)->Option Bool)(d:Val)(t:Api_Type)(a2_2:Int):Option Bool :=
 Option.bind (idx t.Nodes a2_2) fun e1 =>
 bif e1.Kind==2
 then (some true)
 else (bif e1.Kind==3
 then (Option.bind (bif d.Kind==1
 then (some (decide (e1.Lo<=d.Int_)))
 else (some false)) fun q2 =>
 Option.bind (bif q2
 then (some (decide (d.Int_<=e1.Hi)))
 else (some false)) fun q3 =>
 some q3)
 else (bif e1.Kind==4
 then (Option.bind (bif d.Kind==2
 then (some (Y6 d.Text e1.Text))
 else (some false)) fun q4 =>
 some q4)
 else (bif e1.Kind==5
 then (some (d.Kind==2))
 else (bif e1.Kind==6
 then (Option.bind (bif d.Kind==3
 then (some (Y6 d.Text e1.Text))
 else (some false)) fun q5 =>
 some q5)
 else (bif e1.Kind==7
 then (some (d.Kind==3))
 else (bif e1.Kind==8
 then (some (d.Kind==4))
 else (bif e1.Kind==9
 then (some (d.Kind==5))
 else (bif e1.Kind==11
 then (some (d.Kind==6))
 else (bif e1.Kind==15
 then (some (d.Kind==9))
 else (bif e1.Kind==10
 then (Option.bind (bif d.Kind==6
 then (Option.bind (rec_semtyperef7_members d.Kids t e1.Kids) fun r6 =>
 some r6)
 else (some false)) fun q7 =>
 some q7)
 else (bif e1.Kind==12
 then (Option.bind (bif d.Kind==7
 then (Option.bind (rec_semtyperef7_members d.Kids t e1.Kids) fun r8 =>
 some r8)
 else (some false)) fun q9 =>
 some q9)
 else (bif e1.Kind==13
 then (Option.bind (bif d.Kind==8
 then (Option.bind (rec_semtyperef7_mapping d t e1) fun r10 =>
 some r10)
 else (some false)) fun q11 =>
 some q11)
 else (bif e1.Kind==14
 then (Option.bind (bif d.Kind==9
 then (Option.bind (rec_semtyperef7_function d t e1) fun r12 =>
 some r12)
 else (some false)) fun q13 =>
 some q13)
 else (bif e1.Kind==16
 then (Option.bind (z7 (a2n d t e1 rec_semtyperef7_member) ((e1.Kids.length:Int).toNat+1) 0) fun b17 =>
 j9 (fun _ =>
 some false) (fun y19 =>
 some y19) b17)
 else (bif e1.Kind==17
 then (Option.bind (z7 (a1j d t e1 rec_semtyperef7_member) ((e1.Kids.length:Int).toNat+1) 0) fun b23 =>
 j9 (fun _ =>
 some true) (fun y25 =>
 some y25) b23)
 else (bif e1.Kind==18
 then (Option.bind (idx e1.Kids 0) fun e26 =>
 Option.bind (rec_semtyperef7_member d t e26) fun r27 =>
 some (!r27))
 else (bif e1.Kind==19
 then (Option.bind (z7 (a2p d e1) ((d.Labels.length:Int).toNat+1) 0) fun b30 =>
 j9 (fun _ =>
 some false) (fun y32 =>
 some y32) b30)
 else (some false))))))))))))))))))
def a2r (_:Nat)(_:Val->Api_Type->Api_TypeNode->Option Bool)(_:Val->Api_Type->Api_TypeNode->Option Bool)(rec_semtyperef7_member:Val->Api_Type->Int->Option Bool)(_:(List Val)->Api_Type->(List Int)->Option Bool)(l:List Val)(t:Api_Type)(nodes:List Int):Option Bool :=
 bif (l.length:Int) != (nodes.length:Int)
 then (some false)
 else (Option.bind (z7 (a1Y l t nodes rec_semtyperef7_member) ((l.length:Int).toNat+1) 0) fun b5 =>
 j9 (fun _ =>
 some true) (fun y7 =>
 some y7) b5)
def w6:Nat->(Val->Api_Type->Api_TypeNode->Option Bool)×(Val->Api_Type->Api_TypeNode->Option Bool)×(Val->Api_Type->Int->Option Bool)×((List Val)->Api_Type->(List Int)->Option Bool)
 | 0=>(fun _ _ _=>none,fun _ _ _=>none,fun _ _ _=>none,fun _ _ _=>none)
 | n+1=>(a5F n ((w6 n).1) ((w6 n).2.1) ((w6 n).2.2.1) ((w6 n).2.2.2),a56 n ((w6 n).1) ((w6 n).2.1) ((w6 n).2.2.1) ((w6 n).2.2.2),a6w n ((w6 n).1) ((w6 n).2.1) ((w6 n).2.2.1) ((w6 n).2.2.2),a2r n ((w6 n).1) ((w6 n).2.1) ((w6 n).2.2.1) ((w6 n).2.2.2))
def a0S (n:Nat):Val->Api_Type->Api_TypeNode->Option Bool:=(w6 n).1
def a03 (n:Nat):Val->Api_Type->Api_TypeNode->Option Bool:=(w6 n).2.1
def w8 (n:Nat):Val->Api_Type->Int->Option Bool:=(w6 n).2.2.1
def a0s (n:Nat):(List Val)->Api_Type->(List Int)->Option Bool:=(w6 n).2.2.2
def a3D (v:Val)(t:Api_Type)(g:Api_Goal)(n:Nat)(x1:Int):Option (Fl Int (Sum Unit Bool)) :=
 bif decide (x1<(g.Pos.length:Int))
 then (Option.bind (idx g.Pos x1) fun e2 =>
 Option.bind (w8 n v t e2) fun r3 =>
 bif !r3
 then (some (.done (.inr false)))
 else (some (.next (wr .i64 (x1+1)))))
 else (some (.done (.inl ())))
def a3I (v:Val)(t:Api_Type)(g:Api_Goal)(n:Nat)(x7:Int):Option (Fl Int (Sum Unit Bool)) :=
 bif decide (x7<(g.Neg.length:Int))
 then (Option.bind (idx g.Neg x7) fun e8 =>
 Option.bind (w8 n v t e8) fun r9 =>
 bif r9
 then (some (.done (.inr false)))
 else (some (.next (wr .i64 (x7+1)))))
 else (some (.done (.inl ())))
def a7i (n:Nat)(v:Val)(t:Api_Type)(g:Api_Goal):Option Bool :=
 Option.bind (z7 (a3D v t g n) ((g.Pos.length:Int).toNat+1) 0) fun b4 =>
 j9 (fun _ =>
 Option.bind (z7 (a3I v t g n) ((g.Neg.length:Int).toNat+1) 0) fun b10 =>
 j9 (fun _ =>
 Option.bind (bif !g.Lists
 then (some true)
 else (some (v.Kind==5))) fun q13 =>
 Option.bind (bif q13
 then (some true)
 else (some (v.Kind==7))) fun q14 =>
 some q14) (fun y12 =>
 some y12) b10) (fun y6 =>
 some y6) b4
def K6 (n:Nat)(v:Val)(t:Api_Type)(g:Api_Goal):Option Bool :=
 Option.bind (a0d n v) fun r1 =>
 Option.bind (bif r1
 then (Option.bind (a01 n t) fun r2 =>
 some (r2==0))
 else (some false)) fun q3 =>
 Option.bind (bif q3
 then (Option.bind (a27 t g) fun r4 =>
 some r4)
 else (some false)) fun q5 =>
 Option.bind (bif q5
 then (Option.bind (a7i n v t g) fun r6 =>
 some r6)
 else (some false)) fun q7 =>
 some q7
def b6y (x1:(List Int)×Int):Option (Fl ((List Int)×Int) (List Int)) :=
 bif decide (x1.2<256)
 then (Option.bind (w5 (x1.1.length+([wr .u8 x1.2]:List Int).length) 1) fun _ =>
 some (.next (x1.1++([wr .u8 x1.2]:List Int),wr .i64 (x1.2+1))))
 else (some (.done x1.1))
def a7U:Option ByteArray :=
 Option.bind (z7 b6y ((256:Int).toNat+1) ([],0)) fun b3 =>
 some (b2y b3)
def a4s (l:List ByteArray)(s:ByteArray)(x1:Int):Option (Fl Int (Sum Unit Bool)) :=
 bif decide (x1<(l.length:Int))
 then (Option.bind (idx l x1) fun e2 =>
 bif Y6 e2 s
 then (some (.done (.inr true)))
 else (some (.next (wr .i64 (x1+1)))))
 else (some (.done (.inl ())))
def a5K (l:List ByteArray)(s:ByteArray):Option Bool :=
 Option.bind (z7 (a4s l s) ((l.length:Int).toNat+1) 0) fun b3 =>
 j9 (fun _ =>
 some false) (fun y5 =>
 some y5) b3
def b7s (x2:(List Int)×Int)(b3:ByteArray)(x4:(List Int)×Int):Option (Fl ((List Int)×Int) ((List Int)×Int)) :=
 Option.bind (bif decide (x4.2<(b3.size:Int))
 then (Option.bind (a4i b3 x4.2) fun e5 =>
 Option.bind (idx x4.1 x2.2) fun _ =>
 Option.bind (x4.1[x2.2.toNat]?) fun e7 =>
 some ((e5.toNat:Int) != e7))
 else (some false)) fun q8 =>
 bif q8
 then (some (.next (x4.1,wr .i64 (x4.2+1))))
 else (some (.done (x4.1,x4.2)))
def b7J (t:ByteArray)(a2_2:ByteArray)(x2:(List Int)×Int):Option (Fl ((List Int)×Int) (Sum (List Int) ((List Int)×(List Int)))) :=
 bif decide (0<=x2.2)
 then (Option.bind (bif x2.2==0
 then (some t)
 else (some a2_2)) fun b3 =>
 Option.bind (z7 (b7s x2 b3) ((b3.size:Int).toNat+1) (x2.1,0)) fun b9 =>
 bif decide ((wr .i64 (b9.2+1))<(b3.size:Int))
 then (Option.bind (a4i b3 (wr .i64 (b9.2+1))) fun e10 =>
 Option.bind (idx b9.1 x2.2) fun _ =>
 Option.bind (b9.1[x2.2.toNat]?) fun _ =>
 some (.done (.inr (b9.1.set x2.2.toNat (e10.toNat:Int),b9.1.set x2.2.toNat (e10.toNat:Int)))))
 else (Option.bind (a4i b3 0) fun e13 =>
 Option.bind (idx b9.1 x2.2) fun _ =>
 Option.bind (b9.1[x2.2.toNat]?) fun _ =>
 some (.next (b9.1.set x2.2.toNat (e13.toNat:Int),wr .i64 (x2.2-1)))))
 else (some (.done (.inl x2.1)))
def b7L (a2_2:ByteArray)(x17:List Int)(x20:List Int):Option (Fl (List Int) (List Int)) :=
 bif decide ((x20.length:Int)<(wr .i64 ((x17.length:Int)+1)))
 then (Option.bind (a4i a2_2 0) fun e21 =>
 Option.bind (w5 (x20.length+([(e21.toNat:Int)]:List Int).length) 1) fun _ =>
 some (.next (x20++([(e21.toNat:Int)]:List Int))))
 else (some (.done x20))
def a4H (d:List Int)(t:ByteArray)(a2_2:ByteArray):Option (List Int) :=
 Option.bind (w5 (0+d.length) 1) fun _ =>
 Option.bind (z7 (b7J t a2_2) ((wr .i64 ((d.length:Int)-1)).toNat+2) (d,wr .i64 ((d.length:Int)-1))) fun b16 =>
 j9 (fun x17 =>
 Option.bind (a4i t 0) fun e19 =>
 Option.bind (z7 (b7L a2_2 x17) ((wr .i64 ((x17.length:Int)+1)).toNat+1) ([(e19.toNat:Int)]:List Int)) fun b23 =>
 some b23) (fun y18 =>
 some y18.1) b16
def a0P (used:List ByteArray)(b2:ByteArray×ByteArray×(List Int))(x3:List Int):Option (Fl (List Int) (List Int)) :=
 Option.bind (a5K used (b2y x3)) fun r4 =>
 bif r4
 then (Option.bind (a4H x3 b2.1 b2.2.1) fun r5 =>
 some (.next r5))
 else (some (.done x3))
def a5L (n:Nat)(kind:Int)(used:List ByteArray):Option ByteArray :=
 Option.bind (bif kind==1
 then (Option.bind (a7U) fun r1 =>
 some (r1,r1,[]))
 else (some ((⟨#[97,98,99,100,101,102,103,104,105,106,107,108,109,110,111,112,113,114,115,116,117,118,119,120,121,122]⟩:ByteArray),(⟨#[48,49,50,51,52,53,54,55,56,57,95,97,98,99,100,101,102,103,104,105,106,107,108,109,110,111,112,113,114,115,116,117,118,119,120,121,122]⟩:ByteArray),([97]:List Int)))) fun b2 =>
 Option.bind (z7 (a0P used b2) n b2.2.2) fun b6 =>
 some (b2y b6)
def a1F (kind:Int)(used:List Key)(x2:(List ByteArray)×Int):Option (Fl ((List ByteArray)×Int) (List ByteArray)) :=
 bif decide (x2.2<(used.length:Int))
 then (Option.bind (Option.bind (idx used x2.2) fun e3 =>
 bif e3.Kind==kind
 then (Option.bind (idx used x2.2) fun e4 =>
 Option.bind (w5 (x2.1.length+([e4.Text]:List ByteArray).length) 16) fun _ =>
 some (x2.1++([e4.Text]:List ByteArray)))
 else (some x2.1)) fun b6 =>
 some (.next (b6,wr .i64 (x2.2+1))))
 else (some (.done x2.1))
def a4r (n:Nat)(kind:Int)(used:List Key):Option Key :=
 Option.bind (bif kind != 0
 then (some (kind != 1))
 else (some false)) fun q1 =>
 bif q1
 then (some (Key.mk 0 (⟨#[]⟩:ByteArray)))
 else (Option.bind (z7 (a1F kind used) ((used.length:Int).toNat+1) ([],0)) fun b7 =>
 Option.bind (a5L n kind b7) fun r8 =>
 some (Key.mk kind r8))
def J3 (s:List Api_SomeKey)(f:Api_SomeKey->Option Bool)(x1:Int):Option (Fl Int (Sum Unit Int)) :=
 bif decide (x1<(s.length:Int))
 then (Option.bind (idx s x1) fun e2 =>
 Option.bind (f e2) fun r3 =>
 bif r3
 then (some (.done (.inr x1)))
 else (some (.next (wr .i64 (x1+1)))))
 else (some (.done (.inl ())))
def a0U (s:List Api_SomeKey)(f:Api_SomeKey->Option Bool):Option Int :=
 Option.bind (z7 (J3 s f) ((s.length:Int).toNat+1) 0) fun b4 =>
 j9 (fun _ =>
 some (-1)) (fun y6 =>
 some y6) b4
def a0p (s:List Api_SomeKey)(f:Api_SomeKey->Option Bool):Option Bool :=
 Option.bind (a0U s f) fun r1 =>
 some (decide (0<=r1))
def a3h (k:Api_SomeKey):Option Bool :=
 Option.bind (bif k.Kind != 0
 then (some (k.Kind != 1))
 else (some false)) fun q1 =>
 some q1
def a34 (s:Api_Shape)(x4:Int):Option (Fl Int (Sum Unit Bool)) :=
 bif decide (x4<(s.Keys.length:Int))
 then (Option.bind (idx s.Keys x4) fun e5 =>
 Option.bind (a3b e5) fun r6 =>
 Option.bind (bif !r6
 then (some true)
 else (Option.bind (bif decide (0<x4)
 then (Option.bind (idx s.Keys (wr .i64 (x4-1))) fun e7 =>
 Option.bind (V2 e7 e5) fun r8 =>
 some (decide (0<=r8)))
 else (some false)) fun q9 =>
 some q9)) fun q10 =>
 bif q10
 then (some (.done (.inr false)))
 else (some (.next (wr .i64 (x4+1)))))
 else (some (.done (.inl ())))
def a7E (s:Api_Shape)(parts:List Val)(some_2:List Val):Option Bool :=
 Option.bind (a6e s) fun r1 =>
 Option.bind (bif !r1
 then (some true)
 else (some ((parts.length:Int) != (s.Keys.length:Int)))) fun q2 =>
 Option.bind (bif q2
 then (some true)
 else (some ((some_2.length:Int) != (s.Some.length:Int)))) fun q3 =>
 bif q3
 then (some false)
 else (Option.bind (z7 (a34 s) ((s.Keys.length:Int).toNat+1) 0) fun b11 =>
 j9 (fun _ =>
 Option.bind (a0p s.Some (fun z14 =>
 Option.bind (a3h z14) fun r15 =>
 some r15)) fun r16 =>
 some (!r16)) (fun y13 =>
 some y13) b11)
def c16 (kind:Int)(m1:Nat)(x2:(List Int)×Int):Option (Fl ((List Int)×Int) (List Int)) :=
 bif decide (x2.2<((List.replicate m1 (0:Int)).length:Int))
 then (bif kind==1
 then (Option.bind (idx x2.1 x2.2) fun _ =>
 Option.bind (x2.1[x2.2.toNat]?) fun _ =>
 some (.next (x2.1.set x2.2.toNat 0,wr .i64 (x2.2+1))))
 else (bif x2.2==0
 then (Option.bind (idx x2.1 x2.2) fun _ =>
 Option.bind (x2.1[x2.2.toNat]?) fun _ =>
 some (.next (x2.1.set x2.2.toNat 97,wr .i64 (x2.2+1))))
 else (Option.bind (idx x2.1 x2.2) fun _ =>
 Option.bind (x2.1[x2.2.toNat]?) fun _ =>
 some (.next (x2.1.set x2.2.toNat 48,wr .i64 (x2.2+1))))))
 else (some (.done x2.1))
def a2E (kind:Int)(length:Int):Option (List Int) :=
 Option.bind (a6H length length 1) fun m1 =>
 Option.bind (z7 (c16 kind m1) (((List.replicate m1 (0:Int)).length:Int).toNat+1) (List.replicate m1 (0:Int),0)) fun b9 =>
 some b9
def b3R (kind:Int)(position:Int)(c:Int):Option (Int×Bool) :=
 bif kind==1
 then (some (wr .u8 (c+1),decide (c<255)))
 else (bif c==122
 then (some (0,false))
 else (Option.bind (bif decide (0<position)
 then (some (c==57))
 else (some false)) fun q1 =>
 bif q1
 then (some (95,true))
 else (Option.bind (bif decide (0<position)
 then (some (c==95))
 else (some false)) fun q2 =>
 bif q2
 then (some (97,true))
 else (some (wr .u8 (c+1),true)))))
def c3X (kind:Int)(x2:(List Int)×(List Int)×Int):Option (Fl ((List Int)×(List Int)×Int) (Sum ((List Int)×(List Int)) (List Int))) :=
 bif decide (0<=x2.2.2)
 then (Option.bind (idx x2.1 x2.2.2) fun _ =>
 Option.bind (x2.1[x2.2.2.toNat]?) fun e4 =>
 Option.bind (b3R kind x2.2.2 e4) fun r5 =>
 bif r5.2
 then (Option.bind (idx x2.1 x2.2.2) fun _ =>
 Option.bind (x2.1[x2.2.2.toNat]?) fun _ =>
 some (.done (.inr (x2.1.set x2.2.2.toNat r5.1))))
 else (Option.bind (idx x2.2.1 x2.2.2) fun _ =>
 Option.bind (x2.2.1[x2.2.2.toNat]?) fun e9 =>
 Option.bind (idx x2.1 x2.2.2) fun _ =>
 Option.bind (x2.1[x2.2.2.toNat]?) fun _ =>
 some (.next (x2.1.set x2.2.2.toNat e9,x2.2.1,wr .i64 (x2.2.2-1)))))
 else (some (.done (.inl (x2.1,x2.2.1))))
def a83 (kind:Int)(b:List Int):Option (List Int) :=
 Option.bind (a2E kind (b.length:Int)) fun r1 =>
 Option.bind (z7 (c3X kind) ((wr .i64 ((b.length:Int)-1)).toNat+2) (b,r1,wr .i64 ((b.length:Int)-1))) fun b12 =>
 j9 (fun x13 =>
 Option.bind (a2E kind (wr .i64 ((x13.1.length:Int)+1))) fun r15 =>
 some r15) (fun y14 =>
 some y14) b12
def a33 (kind:Int)(used:List Key)(x2:(List (ByteArray×Bool))×Int):Option (Fl ((List (ByteArray×Bool))×Int) (List (ByteArray×Bool))) :=
 bif decide (x2.2<(used.length:Int))
 then (Option.bind (idx used x2.2) fun e3 =>
 bif e3.Kind==kind
 then (some (.next (a7R x2.1 e3.Text true,wr .i64 (x2.2+1))))
 else (some (.next (x2.1,wr .i64 (x2.2+1)))))
 else (some (.done x2.1))
def a37 (kind:Int)(x8:(List (ByteArray×Bool))×(List Int)):Option (Fl ((List (ByteArray×Bool))×(List Int)) ((List (ByteArray×Bool))×(List Int))) :=
 bif (a49 x8.1 (b2y x8.2)).getD false
 then (Option.bind (a83 kind x8.2) fun r9 =>
 some (.next (x8.1,r9)))
 else (some (.done (x8.1,x8.2)))
def a7G (n:Nat)(kind:Int)(used:List Key):Option Key :=
 Option.bind (bif kind != 0
 then (some (kind != 1))
 else (some false)) fun q1 =>
 bif q1
 then (some (Key.mk 0 (⟨#[]⟩:ByteArray)))
 else (Option.bind (z7 (a33 kind used) ((used.length:Int).toNat+1) (([]:List (ByteArray×Bool)),0)) fun b4 =>
 Option.bind (a2E kind 0) fun r5 =>
 Option.bind (bif kind==0
 then (Option.bind (a2E kind 1) fun r6 =>
 some r6)
 else (some r5)) fun b7 =>
 Option.bind (z7 (a37 kind) n (b4,b7)) fun b10 =>
 some (Key.mk kind (b2y b10.2)))
def a2x (a:Int)(b:Int)(a2_2:List Key):Option Int :=
 Option.bind (idx a2_2 a) fun e1 =>
 Option.bind (idx a2_2 b) fun e2 =>
 Option.bind (V2 e1 e2) fun r3 =>
 some r3
def a5O (l:List Val)(rec_value_clone:Val->Option Val)(x1:(List Val)×Int):Option (Fl ((List Val)×Int) (List Val)) :=
 bif decide (x1.2<(l.length:Int))
 then (Option.bind (idx l x1.2) fun e2 =>
 Option.bind (rec_value_clone e2) fun r3 =>
 Option.bind (w5 (x1.1.length+([r3]:List Val).length) 128) fun _ =>
 some (.next (x1.1++([r3]:List Val),wr .i64 (x1.2+1))))
 else (some (.done x1.1))
def a3J (l:List Ent)(rec_value_cloneAll:(List Val)->Option (List Val))(rec_value_clone:Val->Option Val)(x1:(List Ent)×Int):Option (Fl ((List Ent)×Int) (List Ent)) :=
 bif decide (x1.2<(l.length:Int))
 then (Option.bind (idx l x1.2) fun _ =>
 Option.bind (l[x1.2.toNat]?) fun e3 =>
 Option.bind (rec_value_cloneAll e3.Args) fun r4 =>
 Option.bind (rec_value_clone e3.Result) fun r5 =>
 Option.bind (w5 (x1.1.length+([Ent.mk r4 e3.Fails r5]:List Ent).length) 160) fun _ =>
 some (.next (x1.1++([Ent.mk r4 e3.Fails r5]:List Ent),wr .i64 (x1.2+1))))
 else (some (.done x1.1))
def b0Z (_:Nat)(_:Val->Option Val)(rec_value_cloneAll:(List Val)->Option (List Val))(rec_value_cloneEntries:(List Ent)->Option (List Ent))(v:Val):Option Val :=
 Option.bind (rec_value_cloneAll v.Kids) fun r1 =>
 Option.bind (a0o 24 v.Keys) fun r2 =>
 Option.bind (a0o 16 v.Labels) fun r3 =>
 Option.bind (rec_value_cloneEntries v.Entries) fun r4 =>
 some (Val.mk v.Kind v.Int_ v.Text r1 r2 r4 r3)
def a8r (_:Nat)(rec_value_clone:Val->Option Val)(_:(List Val)->Option (List Val))(_:(List Ent)->Option (List Ent))(l:List Val):Option (List Val) :=
 Option.bind (z7 (a5O l rec_value_clone) ((l.length:Int).toNat+1) ([],0)) fun b5 =>
 some b5
def a6t (_:Nat)(rec_value_clone:Val->Option Val)(rec_value_cloneAll:(List Val)->Option (List Val))(_:(List Ent)->Option (List Ent))(l:List Ent):Option (List Ent) :=
 Option.bind (z7 (a3J l rec_value_cloneAll rec_value_clone) ((l.length:Int).toNat+1) ([],0)) fun b7 =>
 some b7
def Z2:Nat->(Val->Option Val)×((List Val)->Option (List Val))×((List Ent)->Option (List Ent))
 | 0=>(fun _=>none,fun _=>none,fun _=>none)
 | n+1=>(b0Z n ((Z2 n).1) ((Z2 n).2.1) ((Z2 n).2.2),a8r n ((Z2 n).1) ((Z2 n).2.1) ((Z2 n).2.2),a6t n ((Z2 n).1) ((Z2 n).2.1) ((Z2 n).2.2))
def a7X (n:Nat):Val->Option Val:=(Z2 n).1
def c2T (n:Nat):(List Val)->Option (List Val):=(Z2 n).2.1
def b8i (n:Nat):(List Ent)->Option (List Ent):=(Z2 n).2.2
noncomputable def a6d (d:List Key)(x1:Int×(Int×Int×ByteArray×(List Val)×(List Key)×(List Ent)×(List ByteArray))):Option (Fl (Int×(Int×Int×ByteArray×(List Val)×(List Key)×(List Ent)×(List ByteArray))) (Sum (Int×Int×ByteArray×(List Val)×(List Key)×(List Ent)×(List ByteArray)) (Int×(Int×Int×ByteArray×(List Val)×(List Key)×(List Ent)×(List ByteArray))))) :=
 bif decide (x1.1<(d.length:Int))
 then (Option.bind (idx d x1.1) fun e2 =>
 Option.bind (a3b e2) fun r3 =>
 bif !r3
 then (some (.done (.inr (1,(0,0,(⟨#[]⟩:ByteArray),[],[],[],[])))))
 else (some (.next (wr .i64 (x1.1+1),(x1.2.1,x1.2.2.1,x1.2.2.2.1,x1.2.2.2.2.1,x1.2.2.2.2.2.1,x1.2.2.2.2.2.2.1,x1.2.2.2.2.2.2.2)))))
 else (some (.done (.inl (x1.2.1,x1.2.2.1,x1.2.2.2.1,x1.2.2.2.2.1,x1.2.2.2.2.2.1,x1.2.2.2.2.2.2.1,x1.2.2.2.2.2.2.2))))
noncomputable def a4Q (d:List Key)(x7:(List Int)×Int):Option (Fl ((List Int)×Int) (List Int)) :=
 bif decide (x7.2<(d.length:Int))
 then (Option.bind (w5 (x7.1.length+([x7.2]:List Int).length) 8) fun _ =>
 some (.next (x7.1++([x7.2]:List Int),wr .i64 (x7.2+1))))
 else (some (.done x7.1))
noncomputable def a3w (d:List Key)(t:List Val)(r13:Unit×List Int)(n:Nat)(x14:Int×(Int×Int×ByteArray×(List Val)×(List Key)×(List Ent)×(List ByteArray))×(Int×Int×ByteArray×(List Val)×(List Key)×(List Ent)×(List ByteArray))):Option (Fl (Int×(Int×Int×ByteArray×(List Val)×(List Key)×(List Ent)×(List ByteArray))×(Int×Int×ByteArray×(List Val)×(List Key)×(List Ent)×(List ByteArray))) (Sum ((Int×Int×ByteArray×(List Val)×(List Key)×(List Ent)×(List ByteArray))×(Int×Int×ByteArray×(List Val)×(List Key)×(List Ent)×(List ByteArray))) (Int×(Int×Int×ByteArray×(List Val)×(List Key)×(List Ent)×(List ByteArray))×(Int×Int×ByteArray×(List Val)×(List Key)×(List Ent)×(List ByteArray))))) :=
 bif decide (x14.1<(r13.2.length:Int))
 then (Option.bind (idx r13.2 x14.1) fun e15 =>
 Option.bind (bif decide (0<(x14.2.2.2.2.2.2.1.length:Int))
 then (Option.bind (idx x14.2.2.2.2.2.2.1 (wr .i64 ((x14.2.2.2.2.2.2.1.length:Int)-1))) fun _ =>
 Option.bind (x14.2.2.2.2.2.2.1[(wr .i64 ((x14.2.2.2.2.2.2.1.length:Int)-1)).toNat]?) fun e17 =>
 Option.bind (idx d e15) fun e18 =>
 some (a3B e17 e18))
 else (some false)) fun q19 =>
 bif q19
 then (some (.done (.inr (6,(0,0,(⟨#[]⟩:ByteArray),[],[],[],[]),(x14.2.2.1,x14.2.2.2.1,x14.2.2.2.2.1,x14.2.2.2.2.2.1,x14.2.2.2.2.2.2.1,x14.2.2.2.2.2.2.2.1,x14.2.2.2.2.2.2.2.2)))))
 else (Option.bind (idx d e15) fun e20 =>
 Option.bind (w5 (x14.2.2.2.2.2.2.1.length+([e20]:List Key).length) 24) fun _ =>
 Option.bind (idx t e15) fun e22 =>
 Option.bind (a7X n e22) fun r23 =>
 Option.bind (w5 (x14.2.2.2.2.2.1.length+([r23]:List Val).length) 128) fun _ =>
 some (.next (wr .i64 (x14.1+1),(x14.2.1.1,x14.2.1.2.1,x14.2.1.2.2.1,x14.2.1.2.2.2.1,x14.2.1.2.2.2.2.1,x14.2.1.2.2.2.2.2.1,x14.2.1.2.2.2.2.2.2),(x14.2.2.1,x14.2.2.2.1,x14.2.2.2.2.1,x14.2.2.2.2.2.1++([r23]:List Val),x14.2.2.2.2.2.2.1++([e20]:List Key),x14.2.2.2.2.2.2.2.1,x14.2.2.2.2.2.2.2.2)))))
 else (some (.done (.inl ((x14.2.1.1,x14.2.1.2.1,x14.2.1.2.2.1,x14.2.1.2.2.2.1,x14.2.1.2.2.2.2.1,x14.2.1.2.2.2.2.2.1,x14.2.1.2.2.2.2.2.2),(x14.2.2.1,x14.2.2.2.1,x14.2.2.2.2.1,x14.2.2.2.2.2.1,x14.2.2.2.2.2.2.1,x14.2.2.2.2.2.2.2.1,x14.2.2.2.2.2.2.2.2)))))
noncomputable def b0z (n:Nat)(d:List Key)(t:List Val):Option (Val×Int) :=
 bif (d.length:Int) != (t.length:Int)
 then (some (Val.mk 0 0 (⟨#[]⟩:ByteArray) ([]:List Val) ([]:List Key) ([]:List Ent) ([]:List ByteArray),1))
 else (Option.bind (z7 (a6d d) ((d.length:Int).toNat+1) (0,(0,0,(⟨#[]⟩:ByteArray),[],[],[],[]))) fun (b4:Sum (Int×Int×ByteArray×(List Val)×(List Key)×(List Ent)×(List ByteArray)) (Int×(Int×Int×ByteArray×(List Val)×(List Key)×(List Ent)×(List ByteArray)))) =>
 j9 (fun x5 =>
 Option.bind (z7 (a4Q d) ((d.length:Int).toNat+1) ([],0)) fun b9 =>
 Option.bind ((a6Y (α:=Int)) b9 (fun z10 z11 =>
 Option.bind (a2x z10 z11 d) fun r12 =>
 some r12)) fun r13 =>
 Option.bind (z7 (a3w d t r13 n) ((r13.2.length:Int).toNat+1) (0,(x5.1,x5.2.1,x5.2.2.1,x5.2.2.2.1,x5.2.2.2.2.1,x5.2.2.2.2.2.1,x5.2.2.2.2.2.2),(8,0,(⟨#[]⟩:ByteArray),[],[],[],[]))) fun (b25:Sum ((Int×Int×ByteArray×(List Val)×(List Key)×(List Ent)×(List ByteArray))×(Int×Int×ByteArray×(List Val)×(List Key)×(List Ent)×(List ByteArray))) (Int×(Int×Int×ByteArray×(List Val)×(List Key)×(List Ent)×(List ByteArray))×(Int×Int×ByteArray×(List Val)×(List Key)×(List Ent)×(List ByteArray)))) =>
 j9 (fun x26 =>
 some (Val.mk x26.2.1 x26.2.2.1 x26.2.2.2.1 x26.2.2.2.2.1 x26.2.2.2.2.2.1 x26.2.2.2.2.2.2.1 x26.2.2.2.2.2.2.2,0)) (fun y27 =>
 some (Val.mk y27.2.1.1 y27.2.1.2.1 y27.2.1.2.2.1 y27.2.1.2.2.2.1 y27.2.1.2.2.2.2.1 y27.2.1.2.2.2.2.2.1 y27.2.1.2.2.2.2.2.2,y27.1)) b25) (fun y6 =>
 some (Val.mk y6.2.1 y6.2.2.1 y6.2.2.2.1 y6.2.2.2.2.1 y6.2.2.2.2.2.1 y6.2.2.2.2.2.2.1 y6.2.2.2.2.2.2.2,y6.1)) b4)
noncomputable def a4C (t:Api_Shape)(a2_2:List Val)(x2:(List Key)×(List Val)×Int):Option (Fl ((List Key)×(List Val)×Int) ((List Key)×(List Val))) :=
 bif decide (x2.2.2<(t.Keys.length:Int))
 then (Option.bind (idx t.Keys x2.2.2) fun e3 =>
 Option.bind (idx t.States x2.2.2) fun e4 =>
 bif e4==1
 then (Option.bind (w5 (x2.1.length+([e3]:List Key).length) 24) fun _ =>
 Option.bind (idx a2_2 x2.2.2) fun e6 =>
 Option.bind (w5 (x2.2.1.length+([e6]:List Val).length) 128) fun _ =>
 some (.next (x2.1++([e3]:List Key),x2.2.1++([e6]:List Val),wr .i64 (x2.2.2+1))))
 else (some (.next (x2.1,x2.2.1,wr .i64 (x2.2.2+1)))))
 else (some (.done (x2.1,x2.2.1)))
noncomputable def a4R (t:Api_Shape)(a3_3:List Val)(n:Nat)(x10:(List Key)×(List Val)×(List Key)×Int):Option (Fl ((List Key)×(List Val)×(List Key)×Int) ((List Key)×(List Val))) :=
 bif decide (x10.2.2.2<(t.Some.length:Int))
 then (Option.bind (idx t.Some x10.2.2.2) fun e11 =>
 Option.bind (a7G n e11.Kind x10.2.2.1) fun r12 =>
 Option.bind (w5 (x10.2.2.1.length+([r12]:List Key).length) 24) fun _ =>
 Option.bind (w5 (x10.1.length+([r12]:List Key).length) 24) fun _ =>
 Option.bind (idx a3_3 x10.2.2.2) fun e15 =>
 Option.bind (w5 (x10.2.1.length+([e15]:List Val).length) 128) fun _ =>
 some (.next (x10.1++([r12]:List Key),x10.2.1++([e15]:List Val),x10.2.2.1++([r12]:List Key),wr .i64 (x10.2.2.2+1))))
 else (some (.done (x10.1,x10.2.1)))
noncomputable def a3V (n:Nat)(_:Api_Type)(t:Api_Shape)(a2_2:List Val)(a3_3:List Val):Option (Val×Int) :=
 Option.bind (a7E t a2_2 a3_3) fun r1 =>
 bif !r1
 then (some (Val.mk 0 0 (⟨#[]⟩:ByteArray) ([]:List Val) ([]:List Key) ([]:List Ent) ([]:List ByteArray),1))
 else (Option.bind (z7 (a4C t a2_2) ((t.Keys.length:Int).toNat+1) ([],[],0)) fun b8 =>
 Option.bind (a0o 24 t.Keys) fun r9 =>
 Option.bind (z7 (a4R t a3_3 n) ((t.Some.length:Int).toNat+1) (b8.1,b8.2,r9,0)) fun b17 =>
 Option.bind (b0z n b17.1 b17.2) fun r18 =>
 some (r18.1,r18.2))
def a1J (d:Val)(t:Api_Type)(a2_2:Api_Shape)(n:Nat)(x1:Int):Option (Fl Int (Sum Unit Bool)) :=
 bif decide (x1<(a2_2.Keys.length:Int))
 then (Option.bind (idx a2_2.Keys x1) fun e2 =>
 Option.bind (a0f d.Keys e2) fun r3 =>
 Option.bind (idx a2_2.States x1) fun e4 =>
 Option.bind (bif decide (e4<0)
 then (some true)
 else (some (decide (2<e4)))) fun q5 =>
 Option.bind (bif q5
 then (some true)
 else (Option.bind (bif decide (r3<0)
 then (some (e4==1))
 else (some false)) fun q6 =>
 some q6)) fun q7 =>
 Option.bind (bif q7
 then (some true)
 else (Option.bind (bif decide (0<=r3)
 then (some (e4==0))
 else (some false)) fun q8 =>
 some q8)) fun q9 =>
 bif q9
 then (some (.done (.inr false)))
 else (Option.bind (bif decide (0<=r3)
 then (Option.bind (idx d.Kids r3) fun e10 =>
 Option.bind (idx a2_2.Parts x1) fun e11 =>
 Option.bind (K6 n e10 t e11) fun r12 =>
 some (!r12))
 else (some false)) fun q13 =>
 bif q13
 then (some (.done (.inr false)))
 else (some (.next (wr .i64 (x1+1))))))
 else (some (.done (.inl ())))
def a1E (d:Val)(t:Api_Type)(a2_2:Api_Shape)(n:Nat)(x17:Int):Option (Fl Int (Sum Unit Bool)) :=
 bif decide (x17<(d.Keys.length:Int))
 then (Option.bind (idx d.Keys x17) fun e18 =>
 Option.bind (a0f a2_2.Keys e18) fun r19 =>
 Option.bind (bif decide (r19<0)
 then (Option.bind (idx d.Kids x17) fun e20 =>
 Option.bind (idx d.Keys x17) fun e21 =>
 bif e21.Kind==0
 then (Option.bind (K6 n e20 t a2_2.Rest.1) fun r22 =>
 some (!r22))
 else (bif e21.Kind==1
 then (Option.bind (K6 n e20 t a2_2.Rest.2) fun r23 =>
 some (!r23))
 else (none)))
 else (some false)) fun q24 =>
 bif q24
 then (some (.done (.inr false)))
 else (some (.next (wr .i64 (x17+1)))))
 else (some (.done (.inl ())))
def a1D (d:Val)(t:Api_Type)(a2_2:Api_Shape)(n:Nat)(x28:Int)(x29:Bool×Int):Option (Fl (Bool×Int) Bool) :=
 bif decide (x29.2<(d.Keys.length:Int))
 then (Option.bind (bif x29.1
 then (some true)
 else (Option.bind (idx d.Keys x29.2) fun e30 =>
 Option.bind (a0f a2_2.Keys e30) fun r31 =>
 Option.bind (bif decide (r31<0)
 then (Option.bind (idx d.Keys x29.2) fun e32 =>
 Option.bind (idx a2_2.Some x28) fun e33 =>
 some (e32.Kind==e33.Kind))
 else (some false)) fun q34 =>
 Option.bind (bif q34
 then (Option.bind (idx d.Kids x29.2) fun e35 =>
 Option.bind (idx a2_2.Some x28) fun e36 =>
 Option.bind (K6 n e35 t e36.Goal) fun r37 =>
 some r37)
 else (some false)) fun q38 =>
 some q38)) fun q39 =>
 some (.next (q39,wr .i64 (x29.2+1))))
 else (some (.done x29.1))
def a1H (d:Val)(t:Api_Type)(a2_2:Api_Shape)(n:Nat)(x28:Int):Option (Fl Int (Sum Unit Bool)) :=
 bif decide (x28<(a2_2.Some.length:Int))
 then (Option.bind (z7 (a1D d t a2_2 n x28) ((d.Keys.length:Int).toNat+1) (false,0)) fun b40 =>
 bif !b40
 then (some (.done (.inr false)))
 else (some (.next (wr .i64 (x28+1)))))
 else (some (.done (.inl ())))
def a2A (n:Nat)(d:Val)(t:Api_Type)(a2_2:Api_Shape):Option Bool :=
 bif d.Kind != 8
 then (some false)
 else (Option.bind (z7 (a1J d t a2_2 n) ((a2_2.Keys.length:Int).toNat+1) 0) fun b14 =>
 j9 (fun _ =>
 Option.bind (z7 (a1E d t a2_2 n) ((d.Keys.length:Int).toNat+1) 0) fun b25 =>
 j9 (fun _ =>
 Option.bind (z7 (a1H d t a2_2 n) ((a2_2.Some.length:Int).toNat+1) 0) fun b41 =>
 j9 (fun _ =>
 some true) (fun y43 =>
 some y43) b41) (fun y27 =>
 some y27) b25) (fun y16 =>
 some y16) b14)
noncomputable def W9 (n:Nat)(r3:Api_Type×Api_Line)(e11:Api_Shape)(x14:(List Val)×Bool×(List Key)×(List Val)×Int×Semtypebase_Source):Option (Fl ((List Val)×Bool×(List Key)×(List Val)×Int×Semtypebase_Source) ((List Val)×Bool×(List Key)×(List Val)×Semtypebase_Source)) :=
 bif decide (x14.2.2.2.2.1<(e11.Keys.length:Int))
 then (Option.bind (Option.bind (z8 x14.2.2.2.2.2 (r3.1.Nodes.length:Int)) fun r15 =>
 Option.bind (a20 n r15.2 r3.1 r15.1 2) fun r16 =>
 Option.bind (w5 (x14.1.length+([r16.1]:List Val).length) 128) fun _ =>
 Option.bind (idx e11.States x14.2.2.2.2.1) fun e18 =>
 bif e18==1
 then (Option.bind (bif x14.2.1
 then (Option.bind (idx e11.Parts x14.2.2.2.2.1) fun e19 =>
 Option.bind (K6 n r16.1 r3.1 e19) fun r20 =>
 some r20)
 else (some false)) fun q21 =>
 Option.bind (idx e11.Keys x14.2.2.2.2.1) fun e22 =>
 Option.bind (w5 (x14.2.2.1.length+([e22]:List Key).length) 24) fun _ =>
 Option.bind (w5 (x14.2.2.2.1.length+([r16.1]:List Val).length) 128) fun _ =>
 some (x14.1++([r16.1]:List Val),q21,x14.2.2.1++([e22]:List Key),x14.2.2.2.1++([r16.1]:List Val),r16.2))
 else (some (x14.1++([r16.1]:List Val),x14.2.1,x14.2.2.1,x14.2.2.2.1,r16.2))) fun b25 =>
 some (.next (b25.1,b25.2.1,b25.2.2.1,b25.2.2.2.1,wr .i64 (x14.2.2.2.2.1+1),b25.2.2.2.2)))
 else (some (.done (x14.1,x14.2.1,x14.2.2.1,x14.2.2.2.1,x14.2.2.2.2.2)))
noncomputable def W8 (n:Nat)(r3:Api_Type×Api_Line)(e11:Api_Shape)(x27:(List Val)×Bool×(List Key)×(List Val)×(List Key)×Int×Semtypebase_Source):Option (Fl ((List Val)×Bool×(List Key)×(List Val)×(List Key)×Int×Semtypebase_Source) ((List Val)×Bool×(List Key)×(List Val)×Semtypebase_Source)) :=
 bif decide (x27.2.2.2.2.2.1<(e11.Some.length:Int))
 then (Option.bind (z8 x27.2.2.2.2.2.2 (r3.1.Nodes.length:Int)) fun r28 =>
 Option.bind (a20 n r28.2 r3.1 r28.1 2) fun r29 =>
 Option.bind (w5 (x27.1.length+([r29.1]:List Val).length) 128) fun _ =>
 Option.bind (bif x27.2.1
 then (Option.bind (idx e11.Some x27.2.2.2.2.2.1) fun e31 =>
 Option.bind (K6 n r29.1 r3.1 e31.Goal) fun r32 =>
 some r32)
 else (some false)) fun q33 =>
 Option.bind (bif q33
 then (Option.bind (idx e11.Some x27.2.2.2.2.2.1) fun e34 =>
 bif e34.Kind==0
 then (Option.bind (K6 n r29.1 r3.1 e11.Rest.1) fun r35 =>
 some r35)
 else (bif e34.Kind==1
 then (Option.bind (K6 n r29.1 r3.1 e11.Rest.2) fun r36 =>
 some r36)
 else (none)))
 else (some false)) fun q37 =>
 Option.bind (idx e11.Some x27.2.2.2.2.2.1) fun e38 =>
 Option.bind (a4r n e38.Kind x27.2.2.2.2.1) fun r39 =>
 Option.bind (w5 (x27.2.2.2.2.1.length+([r39]:List Key).length) 24) fun _ =>
 Option.bind (w5 (x27.2.2.1.length+([r39]:List Key).length) 24) fun _ =>
 Option.bind (w5 (x27.2.2.2.1.length+([r29.1]:List Val).length) 128) fun _ =>
 some (.next (x27.1++([r29.1]:List Val),q37,x27.2.2.1++([r39]:List Key),x27.2.2.2.1++([r29.1]:List Val),x27.2.2.2.2.1++([r39]:List Key),wr .i64 (x27.2.2.2.2.2.1+1),r29.2)))
 else (some (.done (x27.1,x27.2.1,x27.2.2.1,x27.2.2.2.1,x27.2.2.2.2.2.2)))
noncomputable def a0V (n:Nat)(d:List Int)(t:List Int)(a2_2:List Int)(a3_3:Int):Option Bool :=
 Option.bind (a5v ([d,t,a2_2]:List (List Int))) fun r1 =>
 bif !r1
 then (Option.bind (a1p n) fun r2 =>
 some r2)
 else (Option.bind (a5M d t) fun r3 =>
 Option.bind (a3R n r3.1 r3.2) fun r4 =>
 Option.bind (bif r4.2 != 0
 then (some true)
 else (some ((r4.1.length:Int)==0))) fun q5 =>
 Option.bind (bif q5
 then (some true)
 else (some (decide (2000<(r4.1.length:Int))))) fun q6 =>
 bif q6
 then (Option.bind (bif r4.2==0
 then (Option.bind (a1p n) fun r7 =>
 some r7)
 else (some false)) fun q8 =>
 some q8)
 else (Option.bind (b4Q (wr .u64 a3_3) (wr .u64 (r4.1.length:Int))) fun d9 =>
 Option.bind (idx r4.1 (wr .i64 d9)) fun _ =>
 Option.bind (r4.1[(wr .i64 d9).toNat]?) fun e11 =>
 Option.bind (a4Y r3.1 r3.2 e11) fun r12 =>
 bif !r12
 then (some false)
 else (Option.bind (w5 (0+e11.Keys.length) 24) fun _ =>
 Option.bind (z7 (W9 n r3 e11) ((e11.Keys.length:Int).toNat+1) ([],true,[],[],0,Semtypebase_Source.mk a2_2 0)) fun b26 =>
 Option.bind (z7 (W8 n r3 e11) ((e11.Some.length:Int).toNat+1) ([],b26.2.1,b26.2.2.1,b26.2.2.2.1,e11.Keys,0,b26.2.2.2.2)) fun b43 =>
 Option.bind (a3V n r3.1 e11 b26.1 b43.1) fun r44 =>
 Option.bind (a0H b43.2.2.1 b43.2.2.2.1) fun r45 =>
 Option.bind (bif r44.2 != 0
 then (some true)
 else (some (r45.2 != 0))) fun q46 =>
 Option.bind (bif q46
 then (some true)
 else (Option.bind (a02 n r44.1 r45.1) fun r47 =>
 some (!r47))) fun q48 =>
 bif q48
 then (some false)
 else (Option.bind (w5 (b26.1.length+([r44.1]:List Val).length) 128) fun _ =>
 Option.bind (a3V n r3.1 e11 (b26.1++([r44.1]:List Val)) b43.1) fun r50 =>
 Option.bind (bif !b43.2.1
 then (some true)
 else (Option.bind (a2A n r44.1 r3.1 e11) fun r51 =>
 some r51)) fun q52 =>
 Option.bind (bif q52
 then (some (r50.2==1))
 else (some false)) fun q53 =>
 Option.bind (bif q53
 then (Option.bind (a1p n) fun r54 =>
 some r54)
 else (some false)) fun q55 =>
 some q55))))
end Go.Qx
end
section
namespace Go.Pl
open Go Go.RowKit Go.Sx Go.Qx
theorem k8 (x:Int):wr .i64 x=w64 x:=rfl
theorem X6 {α:Type}(b:Bool)(x y:α):(bif b then x else y)=if b=true then x else y:=by cases b<;>rfl
theorem a3N {α:Type}(o:Option α):(Option.bind o fun x=>some x)=o:=by cases o<;>rfl
theorem w7 {α:Type}(l:List α):((l.length:Int)).toNat=l.length:=by omega
theorem c24 (s:ByteArray):((s.size:Int)).toNat=s.size:=by omega
theorem K5 {x:Int}(h1 : -9223372036854775808<=x)(h2:x<=9223372036854775807):w64 x=x:=by
 unfold w64
 rw [IntKind.wrap_i64]
 omega
theorem y4 {α:Type}{xs:List α}{i:Nat}{x:α}(h:xs[i]?=some x):idx xs (i:Int)=some x:=by
 unfold idx
 rw [if_pos (by omega)]
 simpa using h
theorem v7 {n bytes:Nat}(h:n*bytes<=140737488355328):w5 n bytes=some ():=by unfold w5; rw [if_pos h]
theorem a2T {σ α St β:Type}{step:St->Option (Fl St β)}(xs:List α)(pack:σ->Nat->St)(F:σ->α->σ)(I:Nat->σ->Prop)(D:σ->β)
 (hstep:∀ i s x,xs[i]?=some x->I i s->step (pack s i)=some (.next (pack (F s x) (i+1)))/\I (i+1) (F s x))
 (hend:∀ s,I xs.length s->step (pack s xs.length)=some (.done (D s))) (s0:σ) (h0:I 0 s0) (k:Nat) (hk:xs.length+1<=k) :
 z7 step k (pack s0 0)=some (D (xs.foldl F s0)):=by
 have key:∀ (n i:Nat) (s:σ) (k:Nat),i+n=xs.length->n+1<=k->I i s->z7 step k (pack s i)=some (D ((xs.drop i).foldl F s)):=by
  intro n
  induction n with
  | zero =>
    intro i s k hi hk hI
    have e:i=xs.length:=by omega
    subst e
    obtain ⟨k,rfl⟩:∃ m,k=m+1:=⟨k-1,by omega⟩
    simp [z7,hend s hI]
  | succ n ih =>
    intro i s k hi hk hI
    have hlt:i<xs.length:=by omega
    obtain ⟨k,rfl⟩:∃ m,k=m+1:=⟨k-1,by omega⟩
    obtain ⟨h1,h2⟩:=hstep i s xs[i] (List.getElem?_eq_getElem hlt) hI
    rw [List.drop_eq_getElem_cons hlt,List.foldl_cons]
    simp only [z7,h1,Option.bind_some]
    exact ih (i+1) _ k (by omega) (by omega) h2
 have:=key xs.length 0 s0 k (by omega) hk h0
 simpa using this
def a3g (s:ByteArray):Nat:=s.size+1
def J7:List ByteArray->Nat
 | []=>0
 | s::r=>a3g s+J7 r
def a5g (k:Key):Nat:=1+a3g k.Text+1
def w4:List Key->Nat
 | []=>0
 | s::r=>a5g s+w4 r
mutual
def w9:Val->Nat
 | .mk _ _ t kids keys ents labs=>1+1+a3g t+(v8 kids+1)+(w4 keys+1)+(Z3 ents+1)+(J7 labs+1)+1
def v8:List Val->Nat
 | []=>0
 | x::r=>w9 x+v8 r
def a65:Ent->Nat
 | .mk args _ res=>(v8 args+1)+1+w9 res+1
def Z3:List Ent->Nat
 | []=>0
 | x::r=>a65 x+Z3 r
end
theorem a3P (v:Val):w9 v=1+1+a3g v.Text+(v8 v.Kids+1)+(w4 v.Keys+1)+(Z3 v.Entries+1)+(J7 v.Labels+1)+1:=by
 cases v; simp only [w9,Val.Text,Val.Kids,Val.Keys,Val.Entries,Val.Labels]
theorem a3c (v:Ent):a65 v=(v8 v.Args+1)+1+w9 v.Result+1:=by
 cases v; simp only [a65,Ent.Args,Ent.Result]
theorem a2D {x:Val}:∀ {l:List Val},x∈l->w9 x<=v8 l
 | y::r,h=>by
   simp only [v8]
   rcases List.mem_cons.1 h with rfl | h
   ·omega
   ·have:=a2D h; omega
theorem a2a {x:Ent}:∀ {l:List Ent},x∈l->a65 x<=Z3 l
 | y::r,h=>by
   simp only [Z3]
   rcases List.mem_cons.1 h with rfl | h
   ·omega
   ·have:=a2a h; omega
theorem a6G:∀ (l:List Val),l.length<=v8 l
 | []=>Nat.le_refl _
 | x::r=>by have:=a6G r; have:=a3P x; simp only [v8,List.length_cons]; omega
theorem a5r:∀ (l:List Ent),l.length<=Z3 l
 | []=>Nat.le_refl _
 | x::r=>by have:=a5r r; have:=a3c x; simp only [Z3,List.length_cons]; omega
theorem a7d:∀ (l:List Key),l.length<=w4 l
 | []=>Nat.le_refl _
 | x::r=>by have:=a7d r; simp only [w4,a5g,List.length_cons]; omega
theorem a5R:∀ (l:List ByteArray),l.length<=J7 l
 | []=>Nat.le_refl _
 | x::r=>by have:=a5R r; simp only [J7,a3g,List.length_cons]; omega
theorem a4n (l m:List Val):v8 (l++m)=v8 l+v8 m:=by
 induction l with
 | nil=>simp [v8]
 | cons x r ih=>simp only [List.cons_append,v8,ih]; omega
theorem b0C (v:Val):8<=w9 v:=by rw [a3P]; unfold a3g; omega
end Go.Pl
namespace Go.Pl
open Go Go.RowKit Go.Sx Go.Qx
theorem a2q {α:Type}{l:List α}{i:Nat}{x:α}(h:l[i]?=some x):l.take (i+1)=l.take i++[x]:=by
 rw [List.take_add_one,h]; rfl
end Go.Pl
end
section
namespace Go.Pl
open Go Go.RowKit Go.Sx Go.Qx
def tn (x y:Int):Int:=if x=0 then y else x
def cI (x y:Int):Int:=if x<y then -1 else if y<x then 1 else 0
def lx:List Int->List Int->Int
 | [],[]=>0
 | [],_::_ => -1
 | _::_,[]=>1
 | x::xs,y::ys=>tn (cI x y) (lx xs ys)
theorem a94 (x y z:Int):tn (tn x y) z=tn x (tn y z):=by unfold tn; split<;>simp_all
theorem b1U (x:Int):tn x 0=x:=by unfold tn; split<;>simp_all
theorem a9S (x:Int):tn 0 x=x:=by simp [tn]
theorem a0a (x y:Int):(x<y/\cI x y = -1)\/(y<x/\cI x y=1)\/(x=y/\cI x y=0):=by
 unfold cI
 by_cases h:x<y
 ·left; simp [h]
 ·by_cases h2:y<x
  ·right; left; simp [h,h2]
  ·right; right; simp [h,h2]; omega
theorem b5H:∀ a b:List Int,lx b a = - lx a b
 | [],[]=>by simp [lx]
 | [],_::_=>by simp [lx]
 | _::_,[]=>by simp [lx]
 | x::xs,y::ys=>by
   have:=b5H xs ys
   rcases a0a x y with ⟨h1,h⟩ | ⟨h1,h⟩ | ⟨h1,h⟩<;>rcases a0a y x with ⟨h2,k⟩ | ⟨h2,k⟩ | ⟨h2,k⟩<;>simp [lx,h,k,tn]<;>omega
theorem c1g:∀ a b c:List Int,lx a b<=0->lx b c<=0->lx a c<=0
 | [],_,[],_,_=>by simp [lx]
 | [],_,_::_,_,_=>by simp [lx]
 | _::_,[],_,h,_=>by simp [lx] at h
 | _::_,_::_,[],_,h=>by simp [lx] at h
 | x::xs,y::ys,z::zs,h1,h2=>by
   have:=c1g xs ys zs
   rcases a0a x y with ⟨p1,h⟩ | ⟨p1,h⟩ | ⟨p1,h⟩<;>rcases a0a y z with ⟨p2,k⟩ | ⟨p2,k⟩ | ⟨p2,k⟩ <;>
    rcases a0a x z with ⟨p3,l⟩ | ⟨p3,l⟩ | ⟨p3,l⟩<;>simp [lx,h,k,l,tn] at h1 h2 ⊢<;>first | omega | (exact this (by omega) (by omega))
theorem c6Y:∀ a:List Int,lx a a=0:=by intro a; have:=b5H a a; omega
def cBs:List UInt8->List UInt8->Int
 | [],[]=>0
 | [],_::_ => -1
 | _::_,[]=>1
 | x::xs,y::ys=>tn (cI x.toNat y.toNat) (cBs xs ys)
def eBs:List UInt8->List Int
 | []=>[0]
 | x::r=>((x.toNat:Int)+1)::eBs r
theorem d1s (x y:Int):cI (x+1) (y+1)=cI x y:=by
 unfold cI
 by_cases h:x<y
 ·rw [if_pos (by omega),if_pos h]
 ·rw [if_neg (by omega),if_neg h]
  by_cases h2:y<x
  ·rw [if_pos (by omega),if_pos h2]
  ·rw [if_neg (by omega),if_neg h2]
theorem d2y:∀ (a b:List UInt8) (r s:List Int),lx (eBs a++r) (eBs b++s)=tn (cBs a b) (lx r s)
 | [],[],r,s=>by simp [eBs,lx,cBs,cI,a9S]
 | [],y::ys,r,s=>by
   have:cI 0 ((y.toNat:Int)+1) = -1:=by unfold cI; rw [if_pos (by omega)]
   simp [eBs,lx,cBs,this,tn]
 | x::xs,[],r,s=>by
   have:cI ((x.toNat:Int)+1) 0=1:=by unfold cI; rw [if_neg (by omega),if_pos (by omega)]
   simp [eBs,lx,cBs,this,tn]
 | x::xs,y::ys,r,s=>by
   simp only [eBs,List.cons_append,lx,cBs,d1s,d2y xs ys,a94]
def cS (a b:ByteArray):Int:=cBs a.data.toList b.data.toList
def eS (a:ByteArray):List Int:=eBs a.data.toList
theorem pfS (a b:ByteArray)(r s:List Int):lx (eS a++r) (eS b++s)=tn (cS a b) (lx r s):=d2y _ _ r s
def cK (a b:Key):Int:=tn (cI a.Kind b.Kind) (cS a.Text b.Text)
def eK (a:Key):List Int:=a.Kind::eS a.Text
theorem pfK (a b:Key)(r s:List Int):lx (eK a++r) (eK b++s)=tn (cK a b) (lx r s):=by
 simp only [eK,List.cons_append,lx,pfS,cK,a94]
def cL {α:Type}(c:α->α->Int):List α->List α->Int
 | [],_=>0
 | _::_,[]=>0
 | x::xs,y::ys=>tn (c x y) (cL c xs ys)
def cN {α:Type}(c:α->α->Int)(xs ys:List α):Int:=tn (cI (xs.length:Int) (ys.length:Int)) (cL c xs ys)
def eN {α:Type}(e:α->List Int)(xs:List α):List Int:=(xs.length:Int)::xs.flatMap e
theorem pfL {α:Type}{c:α->α->Int}{e:α->List Int}:∀ (xs ys:List α) (r s:List Int),(∀ x∈xs,∀ y r s,lx (e x++r) (e y++s)=tn (c x y) (lx r s))->xs.length=ys.length ->
 lx (xs.flatMap e++r) (ys.flatMap e++s)=tn (cL c xs ys) (lx r s)
 | [],[],r,s,_,_=>by simp [cL,a9S]
 | [],_::_,_,_,_,h=>by simp at h
 | _::_,[],_,_,_,h=>by simp at h
 | x::xs,y::ys,r,s,hc,h=>by
   simp only [List.flatMap_cons,List.append_assoc,cL]
   rw [hc x (by simp),pfL xs ys r s (fun z hz=>hc z (by simp [hz])) (by simpa using h),a94]
theorem pfN {α:Type}{c:α->α->Int}{e:α->List Int}(xs ys:List α)(r s:List Int)(hc:∀ x∈xs,∀ y r s,lx (e x++r) (e y++s)=tn (c x y) (lx r s)) :
 lx (eN e xs++r) (eN e ys++s)=tn (cN c xs ys) (lx r s):=by
 simp only [eN,List.cons_append,lx,cN,a94]
 rcases a0a (xs.length:Int) (ys.length:Int) with ⟨_,h⟩ | ⟨_,h⟩ | ⟨h1,h⟩
 ·simp [h,tn]
 ·simp [h,tn]
 ·rw [h,a9S,a9S,pfL xs ys r s hc (by omega)]
def bI (b:Bool):Int:=if b then 0 else 1
mutual
def cV:Val->Val->Int
 | .mk k n t kids keys ents labs,b=>tn (cI k b.Kind) (tn (cI n b.Int_) (tn (cS t b.Text) (tn (cN cK keys b.Keys) (tn (tn (cI (kids.length:Int) (b.Kids.length:Int)) (cVs kids b.Kids)) (tn (tn (cI (ents.length:Int) (b.Entries.length:Int)) (cEs ents b.Entries)) (cN cS labs b.Labels))))))
def cVs:List Val->List Val->Int
 | [],_=>0
 | _::_,[]=>0
 | x::xs,y::ys=>tn (cV x y) (cVs xs ys)
def cE:Ent->Ent->Int
 | .mk args f res,b=>tn (tn (cI (args.length:Int) (b.Args.length:Int)) (cVs args b.Args)) (tn (cI (bI f) (bI b.Fails)) (cV res b.Result))
def cEs:List Ent->List Ent->Int
 | [],_=>0
 | _::_,[]=>0
 | x::xs,y::ys=>tn (cE x y) (cEs xs ys)
end
theorem c5I:∀ xs ys:List Val,cVs xs ys=cL cV xs ys
 | [],_=>by simp [cVs,cL]
 | _::_,[]=>by simp [cVs,cL]
 | x::xs,y::ys=>by simp only [cVs,cL,c5I xs ys]
theorem c9z:∀ xs ys:List Ent,cEs xs ys=cL cE xs ys
 | [],_=>by simp [cEs,cL]
 | _::_,[]=>by simp [cEs,cL]
 | x::xs,y::ys=>by simp only [cEs,cL,c9z xs ys]
theorem d0Y (a b:Val):cV a b=tn (cI a.Kind b.Kind) (tn (cI a.Int_ b.Int_) (tn (cS a.Text b.Text) (tn (cN cK a.Keys b.Keys) (tn (cN cV a.Kids b.Kids) (tn (cN cE a.Entries b.Entries) (cN cS a.Labels b.Labels)))))):=by
 cases a; simp only [cV,c5I,c9z,cN,Val.Kind,Val.Int_,Val.Text,Val.Keys,Val.Kids,Val.Entries,Val.Labels]
theorem d0X (a b:Ent):cE a b=tn (cN cV a.Args b.Args) (tn (cI (bI a.Fails) (bI b.Fails)) (cV a.Result b.Result)):=by
 cases a; simp only [cE,c5I,cN,Ent.Args,Ent.Fails,Ent.Result]
mutual
def eV:Val->List Int
 | .mk k n t kids keys ents labs=>k::n::(eS t++(eN eK keys++(((kids.length:Int)::eVs kids)++(((ents.length:Int)::eEs ents)++eN eS labs))))
def eVs:List Val->List Int
 | []=>[]
 | x::xs=>eV x++eVs xs
def eE:Ent->List Int
 | .mk args f res=>((args.length:Int)::eVs args)++(bI f::eV res)
def eEs:List Ent->List Int
 | []=>[]
 | x::xs=>eE x++eEs xs
end
theorem c4P:∀ xs:List Val,eVs xs=xs.flatMap eV
 | []=>by simp [eVs]
 | x::xs=>by simp only [eVs,List.flatMap_cons,c4P xs]
theorem c8W:∀ xs:List Ent,eEs xs=xs.flatMap eE
 | []=>by simp [eEs]
 | x::xs=>by simp only [eEs,List.flatMap_cons,c8W xs]
theorem d1p (a:Val):eV a=a.Kind::a.Int_::(eS a.Text++(eN eK a.Keys++(eN eV a.Kids++(eN eE a.Entries++eN eS a.Labels)))):=by
 cases a; simp only [eV,c4P,c8W,eN,Val.Kind,Val.Int_,Val.Text,Val.Keys,Val.Kids,Val.Entries,Val.Labels]
theorem d01 (a:Ent):eE a=eN eV a.Args++(bI a.Fails::eV a.Result):=by
 cases a; simp only [eE,c4P,eN,Ent.Args,Ent.Fails,Ent.Result]
theorem c8b:∀ n:Nat,(∀ a:Val,w9 a<=n->∀ b r s,lx (eV a++r) (eV b++s)=tn (cV a b) (lx r s))/\(∀ a:Ent,a65 a<=n->∀ b r s,lx (eE a++r) (eE b++s)=tn (cE a b) (lx r s)):=by
 intro n
 induction n with
 | zero=>exact ⟨fun a h=>by have:=b0C a; omega,fun a h=>by have:=a3c a; omega⟩
 | succ n ih =>
   refine ⟨fun a h b r s=>?_,fun a h b r s=>?_⟩
   ·have hb:=a3P a
    rw [d1p a,d1p b,d0Y]
    simp only [List.cons_append,List.append_assoc,lx,a94]
    rw [pfS,pfN a.Keys b.Keys _ _ (fun x _ y r s=>pfK x y r s),pfN a.Kids b.Kids _ _ (fun x hx=>ih.1 x (by have:=a2D hx; omega)),
     pfN a.Entries b.Entries _ _ (fun x hx=>ih.2 x (by have:=a2a hx; omega)),pfN a.Labels b.Labels _ _ (fun x _ y r s=>pfS x y r s)]
   ·have hb:=a3c a
    rw [d01 a,d01 b,d0X]
    simp only [List.append_assoc,a94]
    rw [pfN a.Args b.Args _ _ (fun x hx=>ih.1 x (by have:=a2D hx; omega))]
    simp only [List.cons_append,lx]
    rw [ih.1 a.Result (by omega)]
theorem d34 (a b:Val):cV a b=lx (eV a) (eV b):=by
 have:=(c8b (w9 a)).1 a (Nat.le_refl _) b [] []
 simpa [lx,b1U] using this.symm
theorem c6z (a:Val):cV a a=0:=by rw [d34]; exact c6Y _
end Go.Pl
namespace Go.Pl
open Go Go.RowKit Go.Sx Go.Qx
theorem c7U (a b:Int):a1e a b=some (cI a b):=by
 unfold a1e a8h
 simp only [X6,bne_self_eq_false,Option.bind_some,Bool.false_eq_true,if_false]
 rcases a0a a b with ⟨h,e⟩ | ⟨h,e⟩ | ⟨h,e⟩
 ·rw [if_pos (by simpa using h),e]
 ·rw [if_neg (by simp; omega),if_pos (by simpa using h),e]
 ·rw [if_neg (by simp; omega),if_neg (by simp; omega),e]
theorem b2k (a b:Int):a2M a b=some (cI a b):=by
 unfold a2M
 simp only [X6]
 rcases a0a a b with ⟨h,e⟩ | ⟨h,e⟩ | ⟨h,e⟩
 ·rw [if_pos (by simpa using h),e]
 ·rw [if_neg (by simp; omega),if_pos (by simpa using h),e]
 ·rw [if_neg (by simp; omega),if_neg (by simp; omega),e]
theorem b7Y (a b:Int):a0u a b=some (cI a b):=by
 unfold a0u; rw [b2k]; rfl
theorem c6P:∀ a b:List UInt8,Lib.compareBytes a b=cBs a b
 | [],[]=>rfl
 | [],_::_=>rfl
 | _::_,[]=>rfl
 | x::xs,y::ys=>by
   have ih:=c6P xs ys
   simp only [Lib.compareBytes,cBs,UInt8.lt_iff_toNat_lt]
   rcases a0a (x.toNat:Int) (y.toNat:Int) with ⟨h,e⟩ | ⟨h,e⟩ | ⟨h,e⟩
   ·rw [if_pos (by omega),e]; rfl
   ·rw [if_neg (by omega),if_pos (by omega),e]; rfl
   ·rw [if_neg (by omega),if_neg (by omega),e,a9S,ih]
theorem c66 (a b:ByteArray):a2B a b=some (cS a b):=by
 unfold a2B a2F c5B b85
 rw [c6P]; rfl
theorem b8o:∀ a b:List UInt8,(Op.bytesLess a b=true/\cBs a b = -1/\a≠b)\/(Op.bytesLess a b=false/\cBs a b=0/\a=b)\/(Op.bytesLess a b=false/\cBs a b=1/\a≠b)
 | [],[]=>by simp [Op.bytesLess,cBs]
 | [],_::_=>by simp [Op.bytesLess,cBs]
 | _::_,[]=>by simp [Op.bytesLess,cBs]
 | x::xs,y::ys=>by
   have ih:=b8o xs ys
   simp only [Op.bytesLess,cBs]
   rcases a0a (x.toNat:Int) (y.toNat:Int) with ⟨h,e⟩ | ⟨h,e⟩ | ⟨h,e⟩
   ·have h1:x<y:=UInt8.lt_iff_toNat_lt.2 (by omega)
    have h2:x≠y:=by intro h3; subst h3; omega
    simp [e,h1,h2,tn]
   ·have h1:¬ x<y:=fun h3=>by have:=UInt8.lt_iff_toNat_lt.1 h3; omega
    have h2:x≠y:=by intro h3; subst h3; omega
    simp [e,h1,h2,tn]
   ·have h2:x=y:=UInt8.toNat_inj.1 (by omega)
    subst h2
    have h1:¬ x<x:=fun h3=>by have:=UInt8.lt_iff_toNat_lt.1 h3; omega
    simpa [e,h1,tn] using ih
theorem a8G (a b:ByteArray):(a26 a b=true/\Y6 a b=false/\cS a b = -1)\/(a26 a b=false/\Y6 a b=true/\cS a b=0)\/(a26 a b=false/\Y6 a b=false/\cS a b=1):=by
 unfold a26 Y6 cS
 rw [Lib.toList_data,Lib.toList_data]
 rcases b8o a.data.toList b.data.toList with ⟨h,e,n⟩ | ⟨h,e,n⟩ | ⟨h,e,n⟩
 ·left; exact ⟨h,by simpa using n,e⟩
 ·right; left; exact ⟨h,by simpa using n,e⟩
 ·right; right; exact ⟨h,by simpa using n,e⟩
theorem b3X (a b:ByteArray):a1q a b=some (cS a b):=by
 unfold a1q
 rcases a8G a b with ⟨h,k,e⟩ | ⟨h,k,e⟩ | ⟨h,k,e⟩<;>simp [h,k,e]
theorem c7H {x y:Int}{o:Option Int}(h:o=some y):(bif (x != 0) then some x else o)=some (tn x y):=by
 rw [X6]
 unfold tn
 by_cases hx:x=0
 ·subst hx; simp [h]
 ·simp [hx]
theorem c7z {a b y:Int}{o:Option Int}(h:o=some y):(bif (a != b) then some (cI a b) else o)=some (tn (cI a b) y):=by
 rw [X6]
 unfold tn
 rcases a0a a b with ⟨p,e⟩ | ⟨p,e⟩ | ⟨p,e⟩
 ·have:a≠b:=by omega
  simp [this,e]
 ·have:a≠b:=by omega
  simp [this,e]
 ·simp [p,h]
  subst p
  intro h2; rw [e] at h2; exact absurd rfl h2
theorem d3U {a b:ByteArray}{y:Int}{o:Option Int}(h:o=some y):(bif (!Y6 a b) then (Option.bind (a1q a b) fun r=>some r) else o)=some (tn (cS a b) y):=by
 rw [X6,b3X,h]
 rcases a8G a b with ⟨_,p,e⟩ | ⟨_,p,e⟩ | ⟨_,p,e⟩<;>simp [p,e,tn]
theorem b0l (a b:Key):V2 a b=some (cK a b):=by
 unfold V2
 rw [c7U]
 simp only [Option.bind_some]
 exact c7H (by rw [c66]; rfl)
theorem a78 (a b:Key):J4 a b=some (cK a b):=by
 unfold J4
 rw [b2k]
 exact c7z (by rw [b3X]; rfl)
theorem d0I {α:Type}{step:Int->Option (Fl Int (Sum Unit Int))}{rc:α->α->Option Int}{c:α->α->Int}(xs ys:List α)(hlen:xs.length=ys.length)
 (hst:∀ q,step q=bif decide (q<(xs.length:Int)) then Option.bind (idx xs q) fun x=>Option.bind (idx ys q) fun y=>Option.bind (rc x y) fun r =>
   bif r != 0 then some (.done (.inr r)) else some (.next (wr .i64 (q+1))) else some (.done (.inl ())))
 (hrc:∀ x∈xs,∀ y,rc x y=some (c x y)) (hl:xs.length<=4194304) :
 ∃ o,z7 step (xs.length+1) 0=some o/\((o=.inl ()/\cL c xs ys=0)\/(o=.inr (cL c xs ys)/\cL c xs ys≠0)):=by
 have key:∀ (n i k:Nat),i+n=xs.length->n+1<=k ->
  ∃ o,z7 step k (i:Int)=some o/\((o=.inl ()/\cL c (xs.drop i) (ys.drop i)=0)\/(o=.inr (cL c (xs.drop i) (ys.drop i))/\cL c (xs.drop i) (ys.drop i)≠0)):=by
  intro n
  induction n with
  | zero =>
    intro i k hi hk
    obtain ⟨k,rfl⟩:∃ m,k=m+1:=⟨k-1,by omega⟩
    refine ⟨.inl (),?_,.inl ⟨rfl,?_⟩⟩
    ·simp only [z7,hst,X6]
     rw [if_neg (by simp; omega)]
     rfl
    ·rw [List.drop_eq_nil_of_le (by omega)]; simp [cL]
  | succ n ih =>
    intro i k hi hk
    obtain ⟨k,rfl⟩:∃ m,k=m+1:=⟨k-1,by omega⟩
    have hx:i<xs.length:=by omega
    have hy:i<ys.length:=by omega
    rw [List.drop_eq_getElem_cons hx,List.drop_eq_getElem_cons hy]
    have e:step (i:Int)=if (c xs[i] ys[i] != 0)=true then some (.done (.inr (c xs[i] ys[i]))) else some (.next (w64 ((i:Int)+1))):=by
     rw [hst]
     simp only [X6,k8]
     rw [if_pos (by simp; omega),y4 (List.getElem?_eq_getElem hx),y4 (List.getElem?_eq_getElem hy)]
     simp only [Option.bind_some]
     rw [hrc _ (List.getElem_mem hx)]
     rfl
    simp only [z7,e,cL]
    by_cases h0:c xs[i] ys[i]=0
    ·rw [h0,a9S,K5 (x:=(i:Int)+1) (by omega) (by omega)]
     obtain ⟨o,ho,hp⟩:=ih (i+1) k (by omega) (by omega)
     refine ⟨o,?_,hp⟩
     simpa using ho
    ·have ht:tn (c xs[i] ys[i]) (cL c (xs.drop (i+1)) (ys.drop (i+1)))=c xs[i] ys[i]:=by simp [tn,h0]
     rw [ht]
     refine ⟨.inr (c xs[i] ys[i]),?_,.inr ⟨rfl,h0⟩⟩
     simp [h0]
 obtain ⟨o,h1,h2⟩:=key xs.length 0 (xs.length+1) (by omega) (Nat.le_refl _)
 exact ⟨o,by simpa using h1,by simpa using h2⟩
theorem d1V {α:Type}{step:Int->Option (Fl Int (Sum Unit Int))}{rc:α->α->Option Int}{c:α->α->Int}(xs ys:List α)(hlen:xs.length=ys.length)
 (hst:∀ q,step q=bif decide (q<(xs.length:Int)) then Option.bind (idx xs q) fun x=>Option.bind (idx ys q) fun y=>Option.bind (rc x y) fun r =>
   bif r != 0 then some (.done (.inr r)) else some (.next (wr .i64 (q+1))) else some (.done (.inl ())))
 (hrc:∀ x∈xs,∀ y,rc x y=some (c x y)) (hl:xs.length<=4194304) {f:Unit->Option Int} {z:Int} (hf:∀ q,f q=some z) :
 (Option.bind (z7 step (((xs.length:Int)).toNat+1) 0) fun b=>j9 f (fun r=>some r) b)=some (tn (cL c xs ys) z):=by
 obtain ⟨o,h1,h2⟩:=d0I xs ys hlen hst hrc hl
 rw [w7,h1]
 rcases h2 with ⟨rfl,h⟩ | ⟨rfl,h⟩
 ·simp [j9,hf,h,tn]
 ·simp [j9,h,tn]
theorem b9l {α:Type}{step:Int->Option (Fl Int (Sum Unit Int))}{rc:α->α->Option Int}{c:α->α->Int}(xs ys:List α)
 (hst:∀ q,step q=bif decide (q<(xs.length:Int)) then Option.bind (idx xs q) fun x=>Option.bind (idx ys q) fun y=>Option.bind (rc x y) fun r =>
   bif r != 0 then some (.done (.inr r)) else some (.next (wr .i64 (q+1))) else some (.done (.inl ())))
 (hrc:∀ x∈xs,∀ y,rc x y=some (c x y)) (hl:xs.length<=4194304) {f:Unit->Option Int} {z:Int} (hf:∀ q,f q=some z) :
 (bif ((xs.length:Int) != (ys.length:Int)) then (Option.bind (a0u (xs.length:Int) (ys.length:Int)) fun r=>some r) else
   (Option.bind (z7 step (((xs.length:Int)).toNat+1) 0) fun b=>j9 f (fun r=>some r) b))=some (tn (cN c xs ys) z):=by
 rw [X6,b7Y]
 simp only [Option.bind_some,cN]
 rcases a0a (xs.length:Int) (ys.length:Int) with ⟨p,e⟩ | ⟨p,e⟩ | ⟨p,e⟩
 ·have:((xs.length:Int) != (ys.length:Int))=true:=by simp; omega
  rw [if_pos this,e]; rfl
 ·have:((xs.length:Int) != (ys.length:Int))=true:=by simp; omega
  rw [if_pos this,e]; rfl
 ·rw [if_neg (by simp; omega),d1V xs ys (by omega) hst hrc hl hf,e,a9S]
theorem a4x:∀ (k:Nat),
 (∀ a b,2*w9 a<=k->w9 a<=4194304->a0r k a b=some (cV a b)) /\
 (∀ xs ys,2*v8 xs+1<=k->v8 xs<=4194304->a3y k xs ys=some (cN cV xs ys)) /\
 (∀ a b,2*a65 a<=k->a65 a<=4194304->Z9 k a b=some (cE a b))
 | 0=>⟨fun v _ h=>by have:=b0C v; omega,fun _ _ h=>by omega,fun v _ h=>by have:=a3c v; omega⟩
 | k+1=>by
   obtain ⟨i1,i2,i3⟩:=a4x k
   refine ⟨?_,?_,?_⟩
   ·intro a b h hb
    show a6a k (a0r k) (a3y k) (Z9 k) a b=_
    have hbe:=a3P a
    have hk:=a7d a.Keys
    have hs:=a5R a.Labels
    have he:=a5r a.Entries
    unfold a6a
    rw [d0Y,b7Y,b2k]
    simp only [Option.bind_some]
    refine c7z (c7z (d3U ?_))
    refine b9l (step:=a7Y a b) a.Keys b.Keys (rc:=J4) (c:=cK) (fun q=>rfl) (fun x _ y=>a78 x y) (by omega) ?_
    intro _
    rw [i2 a.Kids b.Kids (by omega) (by omega)]
    simp only [Option.bind_some]
    refine c7H ?_
    refine b9l (step:=a7W a b (Z9 k)) a.Entries b.Entries (rc:=Z9 k) (c:=cE) (fun q=>rfl) (fun x hx y=>i3 x y (by have:=a2a hx; omega) (by have:=a2a hx; omega)) (by omega) ?_
    intro _
    have:=b9l (step:=a79 a b) a.Labels b.Labels (rc:=a1q) (c:=cS) (z:=0) (fun q=>rfl) (fun x _ y=>b3X x y) (by omega) (f:=fun _=>some 0) (fun _=>rfl)
    rw [b1U] at this
    exact this
   ·intro xs ys h hb
    show a6i k (a0r k) (a3y k) (Z9 k) xs ys=_
    have hl:=a6G xs
    unfold a6i
    rw [b9l (step:=a8y xs ys (a0r k)) xs ys (rc:=a0r k) (c:=cV) (z:=0) (fun q=>rfl) (fun x hx y=>i1 x y (by have:=a2D hx; omega) (by have:=a2D hx; omega)) (by omega) (fun _=>rfl),b1U]
   ·intro a b h hb
    show a3a k (a0r k) (a3y k) (Z9 k) a b=_
    have hbe:=a3c a
    unfold a3a
    rw [d0X,i2 a.Args b.Args (by omega) (by omega),i1 a.Result b.Result (by omega) (by omega)]
    simp only [Option.bind_some]
    refine c7H ?_
    cases a.Fails<;>cases b.Fails<;>simp [bI,cI,tn]
end Go.Pl
end
section
namespace Go.Pl
open Go Go.RowKit Go.Sx Go.Qx
theorem c09 {step:Int->Option (Fl Int (Sum Unit Bool))}(n:Nat)(p:Nat->Bool)
 (hst:∀ i:Nat,i<n->step (i:Int)=some (if p i=true then .next ((i+1:Nat):Int) else .done (.inr false)))
 (hend:∀ i:Nat,n<=i->step (i:Int)=some (.done (.inl ()))) (i0:Nat) (b:Bool) (hb:b=true↔∀ i,i0<=i->i<n->p i=true) :
 Option.bind (z7 step (n+1) (i0:Int)) (j9 (fun _=>some true) (fun r=>some r))=some b:=by
 have fin:∀ (i k:Nat),n<=i->(∀ j,i0<=j->j<i->j<n->p j=true)->Option.bind (z7 step (k+1) (i:Int)) (j9 (fun _=>some true) (fun r=>some r))=some b:=by
  intro i k h1 h4
  simp only [z7,hend i h1,Option.bind_some,j9]
  have:b=true:=hb.2 fun j a c=>h4 j a (by omega) c
  rw [this]
 have key:∀ (m i k:Nat),n<=i+m->m+1<=k->i0<=i->(∀ j,i0<=j->j<i->j<n->p j=true)->Option.bind (z7 step k (i:Int)) (j9 (fun _=>some true) (fun r=>some r))=some b:=by
  intro m
  induction m with
  | zero =>
    intro i k h1 h2 h3 h4
    obtain ⟨k,rfl⟩:∃ m,k=m+1:=⟨k-1,by omega⟩
    exact fin i k (by omega) h4
  | succ m ih =>
    intro i k h1 h2 h3 h4
    obtain ⟨k,rfl⟩:∃ m,k=m+1:=⟨k-1,by omega⟩
    by_cases hlt:i<n
    ·simp only [z7,hst i hlt]
     cases hp:p i
     ·simp only [Bool.false_eq_true,if_false,Option.bind_some,j9]
      have:b=false:=by
       cases b
       ·rfl
       ·have:=hb.1 rfl i h3 hlt
        rw [hp] at this; cases this
      rw [this]
     ·simp only [if_true,Option.bind_some]
      refine ih (i+1) k (by omega) (by omega) (by omega) (fun j a c d=>?_)
      by_cases e:j<i
      ·exact h4 j a e d
      ·have:j=i:=by omega
       subst this; exact hp
    ·exact fin i k (by omega) h4
 exact key n i0 (n+1) (by omega) (by omega) (Nat.le_refl _) (fun j a c=>by omega)
theorem j5 (i:Nat)(h:i<=4611686018427387904):w64 ((i:Int)+1)=((i+1:Nat):Int):=by rw [K5 (by omega) (by omega)]; rfl
theorem a4w (b:Bool)(x:Int):(bif (!b) then some (Fl.done (Sum.inr false)) else some (Fl.next x))=some (if b=true then Fl.next x else (Fl.done (Sum.inr false):Fl Int (Sum Unit Bool))):=by cases b<;>rfl
def asc {α:Type}(c:α->α->Int):List α->Bool
 | x::y::r=>decide (c x y<0)&&asc c (y::r)
 | _=>true
theorem b1Y {α:Type}(c:α->α->Int):∀ xs:List α,asc c xs=true↔∀ i,1<=i->(hi:i<xs.length)->c xs[i-1] xs[i]<0
 | []=>by simp [asc]
 | [x]=>by
   simp only [asc,true_iff]
   intro i h1 hi
   simp at hi; omega
 | x::y::r=>by
   have ih:=b1Y c (y::r)
   simp only [asc,Bool.and_eq_true,decide_eq_true_eq,ih]
   constructor
   ·intro ⟨h1,h2⟩ i hi hl
    obtain ⟨i,rfl⟩:∃ m,i=m+1:=⟨i-1,by omega⟩
    cases i with
    | zero=>exact h1
    | succ i=>exact h2 (i+1) (by omega) (by simpa using hl)
   ·intro h
    refine ⟨h 1 (by omega) (by simp),fun i hi hl=>?_⟩
    obtain ⟨i,rfl⟩:∃ m,i=m+1:=⟨i-1,by omega⟩
    have:=h (i+2) (by omega) (by simpa using hl)
    simpa using this
def a6U (c:UInt8):Bool:=decide (97<=(c.toNat:Int))&&decide ((c.toNat:Int)<=122)
def upC (c:UInt8):Bool:=decide (65<=(c.toNat:Int))&&decide ((c.toNat:Int)<=90)
def a7S (c:UInt8):Bool:=decide (48<=(c.toNat:Int))&&decide ((c.toNat:Int)<=57)
def b2v (f g:UInt8->Bool)(s:ByteArray):Bool :=
 match s.data.toList with
 | []=>false
 | c::r=>decide (r.length<=15)&&f c&&r.all g
def a61 (s:ByteArray):Bool:=b2v upC (fun c=>a6U c||upC c||a7S c||(c.toNat:Int)==95) s
def a4K (s:ByteArray):Bool:=b2v a6U (fun c=>a6U c||a7S c||(c.toNat:Int)==95) s
theorem c4O (c:UInt8):a5j (c.toNat:Int)=some (a6U c):=by
 unfold a5j a6U
 cases decide (97<=(c.toNat:Int))<;>simp
theorem d05 (c:UInt8):a6M (c.toNat:Int)=some (upC c):=by
 unfold a6M upC
 cases decide (65<=(c.toNat:Int))<;>simp
theorem c8c (c:UInt8):a6L (c.toNat:Int)=some (a7S c):=by
 unfold a6L a7S
 cases decide (48<=(c.toNat:Int))<;>simp
theorem b1S {s:ByteArray}{i:Nat}{c:UInt8}(h:s.data.toList[i]?=some c):a4i s (i:Int)=some c:=by
 unfold a4i
 rw [if_pos (by omega)]
 obtain ⟨hi,e⟩:=List.getElem?_eq_some_iff.1 h
 have hs:i<s.size:=by simpa using hi
 show s[((i:Int)).toNat]?=some c
 rw [Int.toNat_natCast,getElem?_pos s i hs]
 show some s.data[i]=some c
 simpa using e
theorem b3K (s:ByteArray):s.size=s.data.toList.length:=by simp
theorem c6w {a1 a2:Int->Option Bool}{f g:UInt8->Bool}(h1:∀ c:UInt8,a1 (c.toNat:Int)=some (f c))(h2:∀ c:UInt8,a2 (c.toNat:Int)=some (g c))(s:ByteArray):a68 s a1 a2=some (b2v f g s):=by
 unfold a68 b2v
 simp only [X6,c24]
 have hsz:=b3K s
 cases hs:s.data.toList with
 | nil =>
   rw [hs] at hsz
   rw [hsz]
   simp
 | cons c r =>
   rw [hs] at hsz
   simp only [List.length_cons] at hsz
   have e1:decide ((s.size:Int)<1)=false:=by simp; omega
   rw [e1]
   simp only [Bool.false_eq_true,if_false,Option.bind_some]
   by_cases hb:16<(s.size:Int)
   ·rw [if_pos (by simpa using hb)]
    have:decide (r.length<=15)=false:=by simp; omega
    rw [this]; rfl
   ·rw [if_neg (by simpa using hb)]
    have e2:decide (r.length<=15)=true:=by simp; omega
    have e3:a4i s 0=some c:=b1S (i:=0) (by rw [hs]; rfl)
    rw [e2,e3]
    simp only [Option.bind_some,h1,Bool.true_and]
    cases f c
    ·rfl
    ·simp only [Bool.not_true,Bool.false_eq_true,if_false,Bool.true_and]
     refine c09 s.size (fun i=>match s.data.toList[i]? with | some x=>g x | none=>true) ?_ ?_ 1 (r.all g) ?_
     ·intro i hi
      have hi':i<s.data.toList.length:=by rw [hs]; simp; omega
      unfold a88
      rw [X6,if_pos (by simp; omega),b1S (List.getElem?_eq_getElem hi')]
      simp only [Option.bind_some,h2]
      rw [List.getElem?_eq_getElem hi',k8,j5 i (by omega)]
      exact a4w _ _
     ·intro i hi
      unfold a88
      rw [X6,if_neg (by simp; omega)]
     ·rw [hs,List.all_eq_true]
      constructor
      ·intro h i h1 hi
       obtain ⟨i,rfl⟩:∃ m,i=m+1:=⟨i-1,by omega⟩
       have hr:i<r.length:=by omega
       simp only [List.getElem?_cons_succ,List.getElem?_eq_getElem hr]
       exact h _ (List.getElem_mem hr)
      ·intro h x hx
       obtain ⟨i,hi,rfl⟩:=List.getElem_of_mem hx
       have:=h (i+1) (by omega) (by omega)
       simpa only [List.getElem?_cons_succ,List.getElem?_eq_getElem hi] using this
theorem d2E (s:ByteArray):a4J s=some (a61 s):=by
 unfold a4J
 simp only [a3N]
 rw [c6w d05 (g:=fun c=>a6U c||upC c||a7S c||(c.toNat:Int)==95) (fun c=>by
  unfold a7h
  rw [c4O,d05,c8c]
  simp only [Option.bind_some]
  cases a6U c<;>cases upC c<;>cases a7S c<;>simp)]
 rfl
theorem c60 (s:ByteArray):a5W s=some (a4K s):=by
 unfold a5W
 simp only [a3N]
 rw [c6w c4O (g:=fun c=>a6U c||a7S c||(c.toNat:Int)==95) (fun c=>by
  unfold b0i
  rw [c4O,c8c]
  simp only [Option.bind_some]
  cases a6U c<;>cases a7S c<;>simp)]
 rfl
def a2f (l:List ByteArray):Bool:=asc cS l&&l.all a61
def Z8 (k:Key):Bool:=if k.Kind=0 then a4K k.Text else if k.Kind=1 then decide ((k.Text.size:Int)<=64) else false
def b1J (v:Val):Bool:=v.Keys.length==v.Kids.length&&(asc cK v.Keys&&v.Keys.all Z8)
abbrev a5y:Val:=Val.mk 0 0 (⟨#[]⟩) ([]:List Val) ([]:List Key) ([]:List Ent) ([]:List ByteArray)
def a4m (n:Int)(e:Ent):Bool:=(e.Args.length:Int)==n&&(!e.Fails||cV e.Result a5y==0)
def c1H (v:Val):Bool:=decide (0<=v.Int_)&&decide (v.Int_<=4)&&(asc cE v.Entries&&v.Entries.all (a4m v.Int_))
theorem c4S (k:Key):a3b k=some (Z8 k):=by
 unfold a3b Z8
 rw [c60]
 simp only [X6,beq_iff_eq,a3N]
 by_cases h:k.Kind=0
 ·simp [h]
 ·by_cases h1:k.Kind=1
  ·simp [h1]
  ·simp [h,h1]
def a4L (v:Val):Bool :=
 (v.Kind==1||v.Kind==4||v.Kind==9||v.Int_==0)&&(v.Kind==2||v.Kind==3||Y6 v.Text ⟨#[]⟩) &&
 (v.Kind==6||v.Kind==7||v.Kind==8||v.Kids.isEmpty)&&(v.Kind==8||v.Keys.isEmpty)&&(v.Kind==9||v.Entries.isEmpty)
def b80 (l:List Val):Bool :=
 match l with
 | [_,t]=>t.Kind==5||t.Kind==7
 | _=>false
def a6J (v:Val):Bool :=
 if v.Kind=1 then true else if v.Kind=2 then decide ((v.Text.size:Int)<=64) else if v.Kind=3 then a4K v.Text else if v.Kind=4 then decide (0<=v.Int_) else
 if v.Kind=5 then true else if v.Kind=6 then decide (v.Kids.length<=4) else if v.Kind=7 then b80 v.Kids else if v.Kind=8 then b1J v else if v.Kind=9 then c1H v else false
def a4b (v:Val):Bool:=a2f v.Labels&&(a4L v&&a6J v)
theorem c3H {α:Type}(l:List α):decide (0<(l.length:Int))=!l.isEmpty:=by cases l<;>simp
mutual
def vOK:Val->Bool
 | .mk k n t kids keys ents labs=>a4b (.mk k n t kids keys ents labs)&&(a06 kids&&a6x ents)
def a06:List Val->Bool
 | []=>true
 | x::r=>vOK x&&a06 r
def eOK:Ent->Bool
 | .mk args fails res=>a06 args&&(fails||vOK res)
def a6x:List Ent->Bool
 | []=>true
 | x::r=>eOK x&&a6x r
end
theorem c5z (v:Val):vOK v=(a4b v&&(a06 v.Kids&&a6x v.Entries)):=by cases v; simp only [vOK,Val.Kids,Val.Entries]
theorem b7X (e:Ent):eOK e=(a06 e.Args&&(e.Fails||vOK e.Result)):=by cases e; simp only [eOK,Ent.Args,Ent.Fails,Ent.Result]
theorem a3W:∀ l:List Val,a06 l=l.all vOK
 | []=>by simp [a06]
 | x::r=>by simp only [a06,List.all_cons,a3W r]
theorem a8w:∀ l:List Ent,a6x l=l.all eOK
 | []=>by simp [a6x]
 | x::r=>by simp only [a6x,List.all_cons,a8w r]
end Go.Pl
end
section
namespace Go.Pl
open Go Go.RowKit Go.Sx Go.Qx
def a0b {α:Type}(p:α->Bool)(x:α)(out:List α):List α:=out.takeWhile p++[x]++out.dropWhile p
theorem b9o {α:Type}(p:α->Bool):∀ l:List α,l.take (l.takeWhile p).length=l.takeWhile p
 | []=>rfl
 | x::r=>by
   by_cases h:p x=true
   ·simp [h,b9o p r]
   ·simp [h]
theorem b9c {α:Type}(p:α->Bool):∀ l:List α,l.drop (l.takeWhile p).length=l.dropWhile p
 | []=>rfl
 | x::r=>by
   by_cases h:p x=true
   ·simp [h,b9c p r]
   ·simp [h]
theorem b0Q {α:Type}(p:α->Bool):∀ l:List α,(l.takeWhile p).length<=l.length
 | []=>Nat.le_refl _
 | x::r=>by
   have:=b0Q p r
   by_cases h:p x=true
   ·simp [h,this]
   ·simp [h]
theorem c1R {α:Type}(p:α->Bool):∀ (l:List α),l[(l.takeWhile p).length]?=(l.dropWhile p).head?
 | []=>rfl
 | x::r=>by
   have:=c1R p r
   by_cases h:p x=true
   ·simp [h,this]
   ·simp [h]
theorem c1G {α:Type}{step:Int->Option (Fl Int Int)}(out:List α)(p:α->Bool)
 (hst:∀ (i:Nat) (x:α),out[i]?=some x->step (i:Int)=some (if p x=true then .next ((i+1:Nat):Int) else .done (i:Int)))
 (hend:step (out.length:Int)=some (.done (out.length:Int))):z7 step (out.length+1) 0=some ((out.takeWhile p).length:Int):=by
 have key:∀ (m i k:Nat),i+m=out.length->m+1<=k->z7 step k (i:Int)=some (((i+((out.drop i).takeWhile p).length:Nat)):Int):=by
  intro m
  induction m with
  | zero =>
    intro i k h1 h2
    obtain ⟨k,rfl⟩:∃ m,k=m+1:=⟨k-1,by omega⟩
    have e:i=out.length:=by omega
    subst e
    simp [z7,hend]
  | succ m ih =>
    intro i k h1 h2
    obtain ⟨k,rfl⟩:∃ m,k=m+1:=⟨k-1,by omega⟩
    have hlt:i<out.length:=by omega
    have hs:=hst i out[i] (List.getElem?_eq_getElem hlt)
    rw [List.drop_eq_getElem_cons hlt,List.takeWhile_cons]
    by_cases hp:p out[i]=true
    ·rw [if_pos hp] at hs
     simp only [z7,hs,Option.bind_some,ih (i+1) k (by omega) (by omega),hp,if_true,List.length_cons]
     congr 2
     omega
    ·rw [if_neg hp] at hs
     simp [z7,hs,hp]
 have:=key out.length 0 (out.length+1) (by omega) (Nat.le_refl _)
 simpa using this
theorem K9 {α σ τ β:Type}{step:σ->Option (Fl σ (Sum τ β))}(xs:List α)(p:α->Bool)(pk:Nat->σ)(d:τ)(b:β)
 (hst:∀ (i:Nat) (x:α),xs[i]?=some x->step (pk i)=some (if p x=true then .next (pk (i+1)) else .done (.inr b)))
 (hend:step (pk xs.length)=some (.done (.inl d))):z7 step (xs.length+1) (pk 0)=some (if xs.all p=true then .inl d else .inr b):=by
 have key:∀ (m i k:Nat),i+m=xs.length->m+1<=k->z7 step k (pk i)=some (if (xs.drop i).all p=true then .inl d else .inr b):=by
  intro m
  induction m with
  | zero =>
    intro i k h1 h2
    obtain ⟨k,rfl⟩:∃ m,k=m+1:=⟨k-1,by omega⟩
    have e:i=xs.length:=by omega
    subst e
    simp [z7,hend]
  | succ m ih =>
    intro i k h1 h2
    obtain ⟨k,rfl⟩:∃ m,k=m+1:=⟨k-1,by omega⟩
    have hlt:i<xs.length:=by omega
    have hs:=hst i xs[i] (List.getElem?_eq_getElem hlt)
    rw [List.drop_eq_getElem_cons hlt,List.all_cons]
    by_cases hp:p xs[i]=true
    ·rw [if_pos hp] at hs
     simp only [z7,hs,Option.bind_some,ih (i+1) k (by omega) (by omega),hp,Bool.true_and]
    ·rw [if_neg hp] at hs
     simp [z7,hs,hp]
 have:=key xs.length 0 (xs.length+1) (by omega) (Nat.le_refl _)
 simpa using this
theorem b1V {α:Type}(c:α->α->Int)(hanti:∀ a b,c b a = - c a b)(x:α):∀ out:List α,asc c out=true->(∀ y,(out.dropWhile (fun y=>decide (c y x<0))).head?=some y->c y x≠0) ->
 asc c (a0b (fun y=>decide (c y x<0)) x out)=true
 | [],_,_=>by simp [a0b,asc]
 | y::r,h,hne=>by
   by_cases hp:c y x<0
   ·have ih:=b1V c hanti x r (by cases r with | nil=>simp [asc] | cons z r=>simp [asc] at h; exact h.2) (by
     intro z hz
     refine hne z ?_
     simpa [hp] using hz)
    have e:a0b (fun y=>decide (c y x<0)) x (y::r)=y::a0b (fun y=>decide (c y x<0)) x r:=by simp [a0b,hp]
    rw [e]
    cases r with
    | nil=>simp [a0b,asc,hp]
    | cons z r =>
      simp only [asc,Bool.and_eq_true,decide_eq_true_eq] at h
      by_cases hz:c z x<0
      ·have e2:a0b (fun y=>decide (c y x<0)) x (z::r)=z::a0b (fun y=>decide (c y x<0)) x r:=by simp [a0b,hz]
       rw [e2] at ih ⊢
       simp only [asc,Bool.and_eq_true,decide_eq_true_eq]
       exact ⟨h.1,ih⟩
      ·have e2:a0b (fun y=>decide (c y x<0)) x (z::r)=x::z::r:=by simp [a0b,hz]
       rw [e2] at ih ⊢
       simp only [asc,Bool.and_eq_true,decide_eq_true_eq] at ih ⊢
       exact ⟨hp,ih⟩
   ·have e:a0b (fun y=>decide (c y x<0)) x (y::r)=x::y::r:=by simp [a0b,hp]
    have hy:=hne y (by simp [hp])
    have ha:=hanti y x
    rw [e]
    simp only [asc,Bool.and_eq_true,decide_eq_true_eq]
    exact ⟨by omega,h⟩
theorem b3Q {α:Type}{p:α->Bool}{x y:α}{out:List α}(h:y∈a0b p x out):y=x\/y∈out:=by
 have e:=List.takeWhile_append_dropWhile (p:=p) (l:=out)
 simp only [a0b,List.mem_append,List.mem_singleton] at h
 rcases h with (h | h) | h
 ·exact .inr (by rw [<- e]; exact List.mem_append_left _ h)
 ·exact .inl h
 ·exact .inr (by rw [<- e]; exact List.mem_append_right _ h)
theorem a7b {α:Type}(p:α->Bool)(x:α)(out:List α):(a0b p x out).length=out.length+1:=by
 have e:=congrArg List.length (List.takeWhile_append_dropWhile (p:=p) (l:=out))
 simp only [List.length_append] at e
 simp only [a0b,List.length_append,List.length_singleton]
 omega
theorem c1w {α:Type}(l:List α){k:Nat}(h:k<=l.length):cut l 0 (k:Int)=some (l.take k):=by
 unfold cut
 rw [if_pos ⟨by omega,by omega,by omega⟩]
 simp
theorem c5R {α:Type}(l:List α){k:Nat}(h:k<=l.length):cut l (k:Int) (l.length:Int)=some (l.drop k):=by
 unfold cut
 rw [if_pos ⟨by omega,by omega,by omega⟩]
 simp
theorem c5V {α β:Type}(out:List α)(x:α)(p:α->Bool)(b:Nat)(hb:b<=1024)(hl:out.length<=4194304)(f:List α->Option β) :
 (Option.bind (cut out 0 ((out.takeWhile p).length:Int)) fun u=>Option.bind (w5 (0+u.length) b) fun _ =>
   Option.bind (w5 (u.length+[x].length) b) fun _=>Option.bind (cut out ((out.takeWhile p).length:Int) (out.length:Int)) fun w =>
   Option.bind (w5 ((u++[x]).length+w.length) b) fun _=>f ((u++[x])++w))=f (a0b p x out):=by
 have hk:=b0Q p out
 have rm:∀ n,n<=4194305->w5 n b=some ():=fun n hn=>v7 (by
  have:n*b<=4194305*1024:=Nat.mul_le_mul hn hb
  omega)
 rw [c1w out hk,c5R out hk,b9o,b9c]
 have hl2:=a7b p x out
 simp only [a0b,List.length_append,List.length_singleton] at hl2
 simp only [Option.bind_some]
 rw [rm _ (by simp; omega),rm _ (by simp; omega),rm _ (by simp only [List.length_append,List.length_singleton]; omega)]
 rfl
theorem d04 (a b:Ent):cE a b=lx (eE a) (eE b):=by
 have:=(c8b (a65 a)).2 a (Nat.le_refl _) b [] []
 simpa [lx,b1U] using this.symm
theorem c6U (a b:Ent):cE b a = - cE a b:=by rw [d04,d04]; exact b5H _ _
def a4o (out:List Ent)(x:Ent):List Ent :=
 match (out.dropWhile (fun y=>decide (cE y x<0))).head? with
 | some y=>if cE y x=0 then out else a0b (fun y=>decide (cE y x<0)) x out
 | none=>a0b (fun y=>decide (cE y x<0)) x out
theorem b1x (a b:List Ent):Z3 (a++b)=Z3 a+Z3 b:=by
 induction a with
 | nil=>simp [Z3]
 | cons x r ih=>simp only [List.cons_append,Z3,ih]; omega
theorem c0n (p:Ent->Bool)(x:Ent)(out:List Ent):Z3 (a0b p x out)=Z3 out+a65 x:=by
 have e:=congrArg Z3 (List.takeWhile_append_dropWhile (p:=p) (l:=out))
 rw [b1x] at e
 simp only [a0b,b1x,Z3]
 omega
theorem c8T (out:List Ent)(x:Ent):Z3 (a4o out x)<=Z3 out+a65 x:=by
 unfold a4o
 split
 ·split
  ·omega
  ·rw [c0n]; omega
 ·rw [c0n]; omega
theorem c9C (out:List Ent)(x:Ent):(a4o out x).length<=out.length+1:=by
 unfold a4o
 split
 ·split
  ·omega
  ·rw [a7b]; omega
 ·rw [a7b]; omega
theorem c5m {out:List Ent}{x y:Ent}(h:y∈a4o out x):y=x\/y∈out:=by
 unfold a4o at h
 split at h
 ·split at h
  ·exact .inr h
  ·exact b3Q h
 ·exact b3Q h
theorem d0l (out:List Ent)(x:Ent)(h:asc cE out=true):asc cE (a4o out x)=true:=by
 unfold a4o
 split
 ·rename_i y hy
  split
  ·exact h
  ·rename_i hne
   refine b1V cE c6U x out h (fun z hz=>?_)
   rw [hy] at hz
   cases hz
   exact hne
 ·rename_i hy
  refine b1V cE c6U x out h (fun z hz=>?_)
  rw [hy] at hz; cases hz
theorem c5w (fuel:Nat)(es out:List Ent)(i:Nat)(x:Ent)(hx:es[i]?=some x)(hf:∀ e∈out,2*a65 e<=fuel)(hb:∀ e∈out,a65 e<=4194304)(hl:out.length<=4194304)(hi:i<=4194304) :
 a0i es fuel (out,(i:Int))=some (.next (a4o out x,((i+1:Nat):Int))):=by
 have hlt:i<es.length:=(List.getElem?_eq_some_iff.1 hx).1
 have hix:idx es (i:Int)=some x:=y4 hx
 have hcmp:∀ e∈out,Z9 fuel e x=some (cE e x):=fun e he=>(a4x fuel).2.2 e x (hf e he) (hb e he)
 unfold a0i
 simp only [w7]
 rw [c1G (step:=a3k es (out,(i:Int)) fuel) out (fun y=>decide (cE y x<0)) ?_ ?_]
 ·simp only [X6,k8]
  rw [if_pos (by simp; omega)]
  simp only [Option.bind_some,hix,Int.toNat_natCast,hx]
  have hk:=b0Q (fun y=>decide (cE y x<0)) out
  have hat:=c1R (fun y=>decide (cE y x<0)) out
  have go:(Option.bind (cut out 0 ((out.takeWhile (fun y=>decide (cE y x<0))).length:Int)) fun u=>Option.bind (w5 (0+u.length) 160) fun _ =>
   Option.bind (w5 (u.length+[x].length) 160) fun _=>Option.bind (cut out ((out.takeWhile (fun y=>decide (cE y x<0))).length:Int) (out.length:Int)) fun w =>
   Option.bind (w5 ((u++[x]).length+w.length) 160) fun _=>some ((u++[x])++w))=some (a0b (fun y=>decide (cE y x<0)) x out) :=
   c5V out x _ 160 (by omega) hl (fun l=>some l)
  rw [j5 i (by omega)]
  have fin:∀ (b:Bool) (r:List Ent),(if b=true then some out else some r)=some (a4o out x)->(Option.bind (if b=true then some out else some r) fun b18=>some (Fl.next (b18,((i+1:Nat):Int)):Fl (List Ent×Int) (List Ent)))=some (.next (a4o out x,((i+1:Nat):Int))):=by
   intro b r h
   rw [h]; rfl
  rw [go]
  unfold a4o at fin ⊢
  cases hh:(out.dropWhile (fun y=>decide (cE y x<0))).head? with
  | none =>
    rw [hh] at hat
    have hge:=List.getElem?_eq_none_iff.1 hat
    rw [if_neg (by simp; omega)]
    rfl
  | some y =>
    rw [hh] at hat
    have hlt2:=(List.getElem?_eq_some_iff.1 hat).1
    rw [if_pos (by simp; omega),y4 hat]
    simp only [Option.bind_some]
    rw [hcmp y (List.mem_of_getElem? hat)]
    simp only [Option.bind_some]
    by_cases h0:cE y x=0
    ·rw [if_pos (by simp [h0]),if_pos h0]
     rfl
    ·rw [if_neg (by simp [h0]),if_neg h0]
     rfl
 ·intro j y hy
  have hj:j<out.length:=(List.getElem?_eq_some_iff.1 hy).1
  unfold a3k
  simp only [X6,k8]
  rw [if_pos (by simp; omega),y4 hy,hix]
  simp only [Option.bind_some,Int.toNat_natCast,hx]
  rw [hcmp y (List.mem_of_getElem? hy)]
  simp only [Option.bind_some,j5 j (by omega)]
  by_cases h:cE y x<0<;>simp [h]
 ·unfold a3k
  simp
theorem a9W:∀ (es out:List Ent),Z3 (es.foldl a4o out)<=Z3 out+Z3 es
 | [],out=>by simp [Z3]
 | x::r,out=>by
   have h1:=a9W r (a4o out x)
   have h2:=c8T out x
   simp only [List.foldl_cons,Z3]
   omega
theorem b1i {y:Ent}:∀ (es out:List Ent),y∈es.foldl a4o out->y∈out\/y∈es
 | [],_,h=>.inl h
 | x::r,out,h=>by
   rcases b1i r (a4o out x) h with h | h
   ·rcases c5m h with rfl | h
    ·exact .inr (by simp)
    ·exact .inl h
   ·exact .inr (by simp [h])
theorem b7c:∀ (es out:List Ent),asc cE out=true->asc cE (es.foldl a4o out)=true
 | [],_,h=>h
 | x::r,out,h=>b7c r (a4o out x) (d0l out x h)
theorem c7J (fuel:Nat)(es:List Ent)(hf:2*Z3 es<=fuel)(hb:Z3 es<=4194304):a4V fuel es=some (es.foldl a4o []):=by
 have hlen:=a5r es
 unfold a4V
 have key:=a2T (σ:=List Ent) (step:=a0i es fuel) es (fun s i=>(s,(i:Int))) a4o (fun i s=>s.length<=i/\(∀ e∈s,e∈es)) (fun s=>s)
  ?_ ?_ [] ⟨by simp,by simp⟩ _ (Nat.le_refl _)
 ·have e:z7 (a0i es fuel) (es.length+1) (([]:List Ent),0)=z7 (a0i es fuel) (es.length+1) (([]:List Ent),((0:Nat):Int)):=rfl
  rw [w7,e,key]
  rfl
 ·intro i s x hx ⟨hI,hm⟩
  have hi:i<es.length:=(List.getElem?_eq_some_iff.1 hx).1
  refine ⟨c5w fuel es s i x hx (fun e he=>by have:=a2a (hm e he); omega) (fun e he=>by have:=a2a (hm e he); omega) (by omega) (by omega),?_,?_⟩
  ·have:=c9C s x; omega
  ·intro e he
   rcases c5m he with rfl | he
   ·exact List.mem_of_getElem? hx
   ·exact hm e he
 ·intro s _
  unfold a0i
  simp
def b8O (n:Int)(es:List Ent):Val:=Val.mk 9 n (⟨#[]⟩) ([]:List Val) ([]:List Key) es ([]:List ByteArray)
abbrev b8X:Type:=Int×Int×ByteArray×(List Val)×(List Key)×(List Ent)×(List ByteArray)
abbrev K4:b8X:=(0,0,(⟨#[]⟩:ByteArray),[],[],[],[])
theorem b3I (fuel:Nat)(n:Int)(es:List Ent)(hf:2*Z3 es<=fuel)(hb:Z3 es<=4194304) :
 a2G fuel n es=some (if 0<=n/\n<=4/\es.all (a4m n)=true then (b8O n (es.foldl a4o []),0) else (a5y,1)):=by
 have hlen:=a5r es
 unfold a2G
 simp only [w7]
 by_cases h1:n<0
 ·have e1:decide (n<0)=true:=by simpa using h1
  rw [e1,if_neg (by omega)]; rfl
 by_cases h2:4<n
 ·have e1:decide (n<0)=false:=by simpa using h1
  have e2:decide (4<n)=true:=by simpa using h2
  rw [e1,e2,if_neg (by omega)]; rfl
 have e1:decide (n<0)=false:=by simpa using h1
 have e2:decide (4<n)=false:=by simpa using h2
 rw [e1,e2,c7J fuel es hf hb]
 have key:=K9 (step:=a0L n es fuel) es (a4m n) (fun i=>((i:Int),K4)) K4 (1,K4) ?_ ?_
 ·have e:z7 (a0L n es fuel) (es.length+1) (0,(0,0,(⟨#[]⟩:ByteArray),[],[],[],[]))=z7 (a0L n es fuel) (es.length+1) (((0:Nat):Int),K4):=rfl
  rw [e,key]
  by_cases ha:es.all (a4m n)=true
  ·rw [if_pos ha,if_pos ⟨by omega,by omega,ha⟩]
   rfl
  ·rw [if_neg ha,if_neg (fun h=>ha h.2.2)]
   rfl
 ·intro i x hx
  have hi:i<es.length:=(List.getElem?_eq_some_iff.1 hx).1
  have hm:=a2a (List.mem_of_getElem? hx)
  have hbe:=a3c x
  unfold a0L a02
  simp only [X6,k8]
  rw [if_pos (by simp; omega),y4 hx]
  simp only [Option.bind_some,Int.toNat_natCast,hx]
  rw [show Val.mk 0 0 (⟨#[]⟩:ByteArray) ([]:List Val) ([]:List Key) ([]:List Ent) ([]:List ByteArray)=a5y from rfl,(a4x fuel).1 x.Result a5y (by omega) (by omega),j5 i (by omega)]
  unfold a4m
  by_cases hl:(x.Args.length:Int)=n
  ·have e1:((x.Args.length:Int) != n)=false:=by simp [hl]
   have e2:((x.Args.length:Int)==n)=true:=by simp [hl]
   rw [e1,e2]
   simp only [Bool.false_eq_true,if_false,Option.bind_some,Bool.true_and]
   cases x.Fails
   ·simp
   ·by_cases h0:cV x.Result a5y=0<;>simp [h0]
  ·have e1:((x.Args.length:Int) != n)=true:=by simp [hl]
   have e2:((x.Args.length:Int)==n)=false:=by simp [hl]
   rw [e1,e2]
   simp
 ·unfold a0L
  simp
end Go.Pl
end
section
namespace Go.Pl
open Go Go.RowKit Go.Sx Go.Qx
theorem b60 (c:UInt8):a2L (c.toNat:Int)=some (a6U c):=by
 unfold a2L a6U
 cases decide (97<=(c.toNat:Int))<;>simp
theorem c2u (c:UInt8):a4c (c.toNat:Int)=some (a7S c):=by
 unfold a4c a7S
 cases decide (48<=(c.toNat:Int))<;>simp
theorem b3S (s:ByteArray):a2g s=some (a4K s):=by
 unfold a2g a4K b2v
 simp only [X6,c24]
 have hsz:=b3K s
 cases hs:s.data.toList with
 | nil =>
   rw [hs] at hsz
   rw [hsz]
   simp
 | cons c r =>
   rw [hs] at hsz
   simp only [List.length_cons] at hsz
   have e1:decide ((s.size:Int)<1)=false:=by simp; omega
   rw [e1]
   simp only [Bool.false_eq_true,if_false,Option.bind_some]
   by_cases hb:16<(s.size:Int)
   ·rw [if_pos (by simpa using hb)]
    have:decide (r.length<=15)=false:=by simp; omega
    rw [this]; rfl
   ·rw [if_neg (by simpa using hb)]
    have e2:decide (r.length<=15)=true:=by simp; omega
    have e3:a4i s 0=some c:=b1S (i:=0) (by rw [hs]; rfl)
    rw [e2,e3]
    simp only [Option.bind_some,b60,Bool.true_and]
    cases a6U c
    ·rfl
    ·simp only [Bool.not_true,Bool.false_eq_true,if_false,Bool.true_and]
     refine c09 s.size (fun i=>match s.data.toList[i]? with | some x=>(a6U x||a7S x||(x.toNat:Int)==95) | none=>true) ?_ ?_ 1 _ ?_
     ·intro i hi
      have hi':i<s.data.toList.length:=by rw [hs]; simp; omega
      unfold a58
      simp only [X6,k8]
      rw [if_pos (by simp; omega),b1S (List.getElem?_eq_getElem hi')]
      simp only [Option.bind_some,b60,c2u]
      rw [List.getElem?_eq_getElem hi',j5 i (by omega)]
      generalize s.data.toList[i]=x
      have hn:((x.toNat:Int) != 95)=!((x.toNat:Int)==95):=rfl
      rw [hn]
      show _=some (if (a6U x||a7S x||(x.toNat:Int)==95)=true then _ else _)
      cases a6U x<;>cases a7S x<;>cases (x.toNat:Int)==95<;>rfl
     ·intro i hi
      unfold a58
      rw [X6,if_neg (by simp; omega)]
     ·rw [hs,List.all_eq_true]
      constructor
      ·intro h i h1 hi
       obtain ⟨i,rfl⟩:∃ m,i=m+1:=⟨i-1,by omega⟩
       have hr:i<r.length:=by omega
       simp only [List.getElem?_cons_succ,List.getElem?_eq_getElem hr]
       exact h _ (List.getElem_mem hr)
      ·intro h x hx
       obtain ⟨i,hi,rfl⟩:=List.getElem_of_mem hx
       have:=h (i+1) (by omega) (by omega)
       simpa only [List.getElem?_cons_succ,List.getElem?_eq_getElem hi] using this
theorem b6B (k:Key):a1r k=some (Z8 k):=by
 unfold a1r Z8
 rw [b3S]
 by_cases h:k.Kind=0
 ·cases a4K k.Text<;>simp [h]
 ·by_cases h1:k.Kind=1
  ·simp [h1]
  ·have e0:(k.Kind==0)=false:=by simpa using h
   have e1:(k.Kind==1)=false:=by simpa using h1
   rw [e0,e1,if_neg h,if_neg h1]
   rfl
theorem c37 (a b:Key):cK a b=lx (eK a) (eK b):=by
 have:=pfK a b [] []
 simpa [lx,b1U] using this.symm
theorem a3E (a b:Key):cK b a = - cK a b:=by rw [c37,c37]; exact b5H _ _
def Z7 (a b:Key):Bool:=a3B a b
theorem c8P (a b:Key):Z7 a b=((a.Kind==b.Kind)&&Y6 a.Text b.Text):=by unfold Z7 a3B; simp
theorem a5C (a b:Key):Z7 a b=true↔cK a b=0:=by
 rw [c8P]
 unfold cK
 rcases a0a a.Kind b.Kind with ⟨h,e⟩ | ⟨h,e⟩ | ⟨h,e⟩
 ·have:(a.Kind==b.Kind)=false:=by simp; omega
  simp [this,e,tn]
 ·have:(a.Kind==b.Kind)=false:=by simp; omega
  simp [this,e,tn]
 ·rw [h]
  rw [h] at e
  rcases a8G a.Text b.Text with ⟨_,p,q⟩ | ⟨_,p,q⟩ | ⟨_,p,q⟩<;>simp [p,q,e,tn]
abbrev a1a (k:Key):Key->Bool:=fun y=>decide (cK y k<0)
def a9J (s:List Val×List Key)(x:Key×Val):Option (List Val×List Key) :=
 if ((s.2.dropWhile (a1a x.1)).head?.map fun y=>Z7 y x.1)=some true then none
 else some (s.1.take (s.2.takeWhile (a1a x.1)).length++[x.2]++s.1.drop (s.2.takeWhile (a1a x.1)).length,a0b (a1a x.1) x.1 s.2)
def a1G:List (Key×Val)->List Val×List Key->Option (List Val×List Key)
 | [],s=>some s
 | x::r,s=>(a9J s x).bind (a1G r)
abbrev a2X (s:List Val×List Key):b8X:=(8,0,(⟨#[]⟩:ByteArray),s.1,s.2,[],[])
theorem c9D (keys:List Key)(l:List Val)(i:Nat)(k:Key)(x:Val)(hk:keys[i]?=some k)(hx:l[i]?=some x)(s:List Val×List Key)(hs:s.1.length=s.2.length)(hl:s.2.length<=4194304)(hi:i<=4194304) :
 ∃ y,a1o keys l ((i:Int),K4,a2X s)=some (match a9J s (k,x) with | some t=>.next (((i+1:Nat):Int),K4,a2X t) | none=>.done (.inr (6,K4,y))):=by
 refine ⟨a2X s,?_⟩
 have hlt:i<keys.length:=(List.getElem?_eq_some_iff.1 hk).1
 have hik:idx keys (i:Int)=some k:=y4 hk
 have hix:idx l (i:Int)=some x:=y4 hx
 unfold a1o
 simp only [w7]
 rw [c1G (step:=a5s keys ((i:Int),K4,a2X s)) s.2 (a1a k) ?_ ?_]
 ·simp only [X6,k8]
  rw [if_pos (by simp; omega)]
  simp only [Option.bind_some,hik,hix]
  have hp:=b0Q (a1a k) s.2
  have hat:=c1R (a1a k) s.2
  have rmk:∀ n,n<=4194305->w5 n 24=some ():=fun n hn=>v7 (by omega)
  have rmv:∀ n,n<=4194305->w5 n 128=some ():=fun n hn=>v7 (by omega)
  have h1:=a7b (a1a k) k s.2
  simp only [a0b,List.length_append,List.length_singleton] at h1
  have go:(Option.bind (cut s.2 0 ((s.2.takeWhile (a1a k)).length:Int)) fun u=>Option.bind (w5 (0+u.length) 24) fun _ =>
   Option.bind (cut s.1 0 ((s.2.takeWhile (a1a k)).length:Int)) fun u2=>Option.bind (a1n u2) fun r2 =>
   Option.bind (w5 (u.length+[k].length) 24) fun _=>Option.bind (cut s.2 ((s.2.takeWhile (a1a k)).length:Int) (s.2.length:Int)) fun w =>
   Option.bind (w5 ((u++[k]).length+w.length) 24) fun _=>Option.bind (w5 (r2.length+[x].length) 128) fun _ =>
   Option.bind (cut s.1 ((s.2.takeWhile (a1a k)).length:Int) (s.1.length:Int)) fun w2=>Option.bind (w5 ((r2++[x]).length+w2.length) 128) fun _ =>
   some (Fl.next (w64 ((i:Int)+1),K4,a2X ((r2++[x])++w2,(u++[k])++w))))=some (Fl.next (((i+1:Nat):Int),K4,a2X (s.1.take (s.2.takeWhile (a1a k)).length++[x]++s.1.drop (s.2.takeWhile (a1a k)).length,a0b (a1a k) k s.2)):Fl (Int×b8X×b8X) (Sum (b8X×b8X) (Int×b8X×b8X))):=by
   have ht:(s.1.take (s.2.takeWhile (a1a k)).length).length<=4194304:=by rw [List.length_take]; omega
   have hd:(s.1.take (s.2.takeWhile (a1a k)).length).length+(s.1.drop (s.2.takeWhile (a1a k)).length).length=s.1.length:=by rw [List.length_take,List.length_drop]; omega
   rw [c1w s.2 hp,c5R s.2 hp,c1w s.1 (by omega),c5R s.1 (by omega),b9o,b9c]
   unfold a1n
   simp only [Option.bind_some]
   rw [rmk _ (by simp; omega),rmv _ (by simp; omega)]
   simp only [Option.bind_some]
   rw [rmk _ (by simp; omega),rmk _ (by simp only [List.length_append,List.length_singleton]; omega),rmv _ (by simp; omega),rmv _ (by simp only [List.length_append,List.length_singleton]; omega),j5 i (by omega)]
   rfl
  unfold a9J
  cases hh:(s.2.dropWhile (a1a k)).head? with
  | none =>
    rw [hh] at hat
    have hge:=List.getElem?_eq_none_iff.1 hat
    rw [if_neg (by simp; omega),if_neg (by simp)]
    exact go
  | some y =>
    rw [hh] at hat
    have hlt2:=(List.getElem?_eq_some_iff.1 hat).1
    rw [if_pos (by simp; omega),y4 hat]
    simp only [Option.bind_some,Option.map_some]
    cases hq:Z7 y k
    ·unfold Z7 at hq
     rw [hq,if_neg (by simp),if_neg (by simp)]
     exact go
    ·unfold Z7 at hq
     rw [hq,if_pos rfl,if_pos rfl]
 ·intro j y hy
  have hj:j<s.2.length:=(List.getElem?_eq_some_iff.1 hy).1
  unfold a5s
  simp only [X6,k8]
  rw [if_pos (by simp; omega),y4 hy,hik]
  simp only [Option.bind_some,a78,j5 j (by omega)]
  by_cases h:cK y k<0<;>simp [h]
 ·unfold a5s
  simp
theorem c0V {s t:List Val×List Key}{x:Key×Val}(h:a9J s x=some t)(hs:s.1.length=s.2.length):t.1.length=t.2.length/\t.2.length=s.2.length+1:=by
 unfold a9J at h
 split at h
 ·cases h
 ·cases h
  have h1:=a7b (a1a x.1) x.1 s.2
  have hp:=b0Q (a1a x.1) s.2
  refine ⟨?_,h1⟩
  rw [h1]
  simp only [List.length_append,List.length_singleton,List.length_take,List.length_drop]
  omega
theorem c9V (keys:List Key)(l:List Val)(hkl:keys.length=l.length)(hl:keys.length<=4194304) :
 ∃ y,z7 (a1o keys l) (keys.length+1) (0,K4,a2X ([],[]))=some (match a1G (keys.zip l) ([],[]) with | some t=>.inl (K4,a2X t) | none=>.inr (6,K4,y)):=by
 have key:∀ (m i k:Nat) (s:List Val×List Key),i+m=keys.length->m+1<=k->s.1.length=s.2.length->s.2.length<=i ->
  ∃ y,z7 (a1o keys l) k ((i:Int),K4,a2X s)=some (match a1G ((keys.drop i).zip (l.drop i)) s with | some t=>.inl (K4,a2X t) | none=>.inr (6,K4,y)):=by
  intro m
  induction m with
  | zero =>
    intro i k s h1 h2 hs hn
    obtain ⟨k,rfl⟩:∃ m,k=m+1:=⟨k-1,by omega⟩
    have e:i=keys.length:=by omega
    subst e
    rw [List.drop_length,List.zip_nil_left]
    have:a1o keys l ((keys.length:Int),K4,a2X s)=some (.done (.inl (K4,a2X s))):=by
     unfold a1o
     simp
    exact ⟨K4,by simp only [z7,this,a1G,Option.bind_some]⟩
  | succ m ih =>
    intro i k s h1 h2 hs hn
    obtain ⟨k,rfl⟩:∃ m,k=m+1:=⟨k-1,by omega⟩
    have hlt:i<keys.length:=by omega
    have hlt2:i<l.length:=by omega
    rw [List.drop_eq_getElem_cons hlt,List.drop_eq_getElem_cons hlt2,List.zip_cons_cons]
    obtain ⟨y,hy⟩:=c9D keys l i _ _ (List.getElem?_eq_getElem hlt) (List.getElem?_eq_getElem hlt2) s hs (by omega) (by omega)
    simp only [z7,hy,a1G]
    cases hi:a9J s (keys[i],l[i]) with
    | none=>exact ⟨y,by simp⟩
    | some t =>
      obtain ⟨h3,h4⟩:=c0V hi hs
      simp only [Option.bind_some]
      exact ih (i+1) k t (by omega) (by omega) h3 (by omega)
 obtain ⟨y,hy⟩:=key keys.length 0 (keys.length+1) ([],[]) (by omega) (Nat.le_refl _) rfl (Nat.le_refl _)
 exact ⟨y,by simpa using hy⟩
def a1N (s:List Val×List Key):Val:=Val.mk 8 0 (⟨#[]⟩) s.1 s.2 ([]:List Ent) ([]:List ByteArray)
theorem b6C (keys:List Key)(l:List Val)(hl:keys.length<=4194304) :
 a0H keys l=some (if keys.length=l.length/\keys.all Z8=true then (match a1G (keys.zip l) ([],[]) with | some t=>((a1N t,0):Val×Int) | none=>(a5y,6)) else (a5y,1)):=by
 unfold a0H
 simp only [w7]
 by_cases hkl:keys.length=l.length
 ·have e1:((keys.length:Int) != (l.length:Int))=false:=by simp; omega
  rw [e1]
  have k1:=K9 (step:=a2h keys) keys Z8 (fun i=>((i:Int),K4)) K4 (1,K4) ?_ ?_
  ·obtain ⟨y,hy⟩:=c9V keys l hkl hl
   have e2:z7 (a2h keys) (keys.length+1) (0,(0,0,(⟨#[]⟩:ByteArray),[],[],[],[]))=z7 (a2h keys) (keys.length+1) (((0:Nat):Int),K4):=rfl
   rw [e2,k1]
   by_cases ha:keys.all Z8=true
   ·rw [if_pos ha,if_pos ⟨hkl,ha⟩]
    simp only [Option.bind_some,j9,cond_false]
    rw [hy]
    cases a1G (keys.zip l) ([],[])<;>rfl
   ·rw [if_neg ha,if_neg (fun h=>ha h.2)]
    rfl
  ·intro i x hx
   have hi:i<keys.length:=(List.getElem?_eq_some_iff.1 hx).1
   unfold a2h
   simp only [X6,k8]
   rw [if_pos (by simp; omega),y4 hx]
   simp only [Option.bind_some,b6B,j5 i (by omega)]
   cases Z8 x<;>rfl
  ·unfold a2h
   simp
 ·have e1:((keys.length:Int) != (l.length:Int))=true:=by simp; omega
  rw [e1,if_neg (fun h=>hkl h.1)]
  rfl
theorem a7p (a b:List Key):w4 (a++b)=w4 a+w4 b:=by
 induction a with
 | nil=>simp [w4]
 | cons x r ih=>simp only [List.cons_append,w4,ih]; omega
theorem c2j {s t:List Val×List Key}{x:Key×Val}(h:a9J s x=some t)(ha:asc cK s.2=true) :
 asc cK t.2=true/\(∀ y∈t.2,y=x.1\/y∈s.2)/\(∀ y∈t.1,y=x.2\/y∈s.1)/\v8 t.1=v8 s.1+w9 x.2/\w4 t.2=w4 s.2+a5g x.1:=by
 unfold a9J at h
 split at h
 ·cases h
 ·rename_i hne
  cases h
  refine ⟨b1V cK a3E x.1 s.2 ha ?_,fun y hy=>b3Q hy,fun y hy=>?_,?_,?_⟩
  ·intro y hy h0
   rw [hy] at hne
   simp only [Option.map_some] at hne
   exact hne (congrArg some ((a5C y x.1).2 h0))
  ·simp only [List.mem_append,List.mem_singleton] at hy
   rcases hy with (hy | hy) | hy
   ·exact .inr (List.mem_of_mem_take hy)
   ·exact .inl hy
   ·exact .inr (List.mem_of_mem_drop hy)
  ·have e:=congrArg v8 (List.take_append_drop (s.2.takeWhile (a1a x.1)).length s.1)
   rw [a4n] at e
   simp only [a4n,v8]
   omega
  ·have e:=congrArg w4 (List.takeWhile_append_dropWhile (p:=a1a x.1) (l:=s.2))
   rw [a7p] at e
   simp only [a0b,a7p,w4]
   omega
def b6T:List (Key×Val)->Nat
 | []=>0
 | x::r=>a5g x.1+w9 x.2+b6T r
theorem a8U:∀ (xs:List (Key×Val)) (s t:List Val×List Key),a1G xs s=some t->asc cK s.2=true->s.1.length=s.2.length ->
 asc cK t.2=true/\t.1.length=t.2.length/\t.2.length=s.2.length+xs.length/\(∀ y∈t.2,y∈s.2\/∃ x∈xs,y=x.1)/\(∀ y∈t.1,y∈s.1\/∃ x∈xs,y=x.2)/\v8 t.1+w4 t.2=v8 s.1+w4 s.2+b6T xs
 | [],s,t,h,ha,hl=>by
   cases h
   exact ⟨ha,hl,rfl,fun y hy=>.inl hy,fun y hy=>.inl hy,rfl⟩
 | x::r,s,t,h,ha,hl=>by
   simp only [a1G] at h
   obtain ⟨u,hu,h⟩:=Option.bind_eq_some_iff.1 h
   obtain ⟨k1,k2,k3,k4,k5⟩:=c2j hu ha
   obtain ⟨l1,l2⟩:=c0V hu hl
   obtain ⟨m1,m2,m3,m4,m5,m6⟩:=a8U r u t h k1 l1
   refine ⟨m1,m2,by rw [m3,l2,List.length_cons]; omega,fun y hy=>?_,fun y hy=>?_,by simp only [b6T]; omega⟩
   ·rcases m4 y hy with hy | ⟨z,hz,rfl⟩
    ·rcases k2 y hy with rfl | hy
     ·exact .inr ⟨x,by simp,rfl⟩
     ·exact .inl hy
    ·exact .inr ⟨z,by simp [hz],rfl⟩
   ·rcases m5 y hy with hy | ⟨z,hz,rfl⟩
    ·rcases k3 y hy with rfl | hy
     ·exact .inr ⟨x,by simp,rfl⟩
     ·exact .inl hy
    ·exact .inr ⟨z,by simp [hz],rfl⟩
end Go.Pl
namespace Go.Pl
open Go Go.RowKit Go.Sx Go.Qx
theorem c3R (c:UInt8):a35 (c.toNat:Int)=some (upC c):=by
 unfold a35 upC
 cases decide (65<=(c.toNat:Int))<;>simp
theorem c14 (s:ByteArray):a1Z s=some (a61 s):=by
 unfold a1Z a61 b2v
 simp only [X6,c24]
 have hsz:=b3K s
 cases hs:s.data.toList with
 | nil =>
   rw [hs] at hsz
   rw [hsz]
   simp
 | cons c r =>
   rw [hs] at hsz
   simp only [List.length_cons] at hsz
   have e1:decide ((s.size:Int)<1)=false:=by simp; omega
   rw [e1]
   simp only [Bool.false_eq_true,if_false,Option.bind_some]
   by_cases hb:16<(s.size:Int)
   ·rw [if_pos (by simpa using hb)]
    have:decide (r.length<=15)=false:=by simp; omega
    rw [this]; rfl
   ·rw [if_neg (by simpa using hb)]
    have e2:decide (r.length<=15)=true:=by simp; omega
    have e3:a4i s 0=some c:=b1S (i:=0) (by rw [hs]; rfl)
    rw [e2,e3]
    simp only [Option.bind_some,c3R,Bool.true_and]
    cases upC c
    ·rfl
    ·simp only [Bool.not_true,Bool.false_eq_true,if_false,Bool.true_and]
     refine c09 s.size (fun i=>match s.data.toList[i]? with | some x=>(a6U x||upC x||a7S x||(x.toNat:Int)==95) | none=>true) ?_ ?_ 1 _ ?_
     ·intro i hi
      have hi':i<s.data.toList.length:=by rw [hs]; simp; omega
      unfold a4h
      simp only [X6,k8]
      rw [if_pos (by simp; omega),b1S (List.getElem?_eq_getElem hi')]
      simp only [Option.bind_some,b60,c2u,c3R]
      rw [List.getElem?_eq_getElem hi',j5 i (by omega)]
      generalize s.data.toList[i]=x
      have hn:((x.toNat:Int) != 95)=!((x.toNat:Int)==95):=rfl
      rw [hn]
      show _=some (if (a6U x||upC x||a7S x||(x.toNat:Int)==95)=true then _ else _)
      cases a6U x<;>cases upC x<;>cases a7S x<;>cases (x.toNat:Int)==95<;>rfl
     ·intro i hi
      unfold a4h
      rw [X6,if_neg (by simp; omega)]
     ·rw [hs,List.all_eq_true]
      constructor
      ·intro h i h1 hi
       obtain ⟨i,rfl⟩:∃ m,i=m+1:=⟨i-1,by omega⟩
       have hr:i<r.length:=by omega
       simp only [List.getElem?_cons_succ,List.getElem?_eq_getElem hr]
       exact h _ (List.getElem_mem hr)
      ·intro h x hx
       obtain ⟨i,hi,rfl⟩:=List.getElem_of_mem hx
       have:=h (i+1) (by omega) (by omega)
       simpa only [List.getElem?_cons_succ,List.getElem?_eq_getElem hi] using this
end Go.Pl
end
section
namespace Go.Pl
open Go Go.RowKit Go.Sx Go.Qx
theorem a7k:Y6 (⟨#[]⟩:ByteArray) ⟨#[]⟩=true:=by simp [Y6]
theorem d1U (n:Int):vOK (Val.mk 1 n (⟨#[]⟩) [] [] [] [])=true:=by simp [vOK,a06,a6x,a4b,a2f,asc,a4L,a6J,a7k,Val.Kind,Val.Int_,Val.Text,Val.Kids,Val.Keys,Val.Entries,Val.Labels]
theorem d2t (s:ByteArray):vOK (Val.mk 2 0 s [] [] [] [])=decide ((s.size:Int)<=64):=by rw [Bool.eq_iff_iff]; simp [vOK,a06,a6x,a4b,a2f,asc,a4L,a6J,Val.Kind,Val.Int_,Val.Text,Val.Kids,Val.Keys,Val.Entries,Val.Labels]; exact decide_eq_true_iff
theorem d0P (s:ByteArray):vOK (Val.mk 3 0 s [] [] [] [])=a4K s:=by simp [vOK,a06,a6x,a4b,a2f,asc,a4L,a6J,Val.Kind,Val.Int_,Val.Text,Val.Kids,Val.Keys,Val.Entries,Val.Labels]
theorem d11 (n:Int):vOK (Val.mk 4 n (⟨#[]⟩) [] [] [] [])=decide (0<=n):=by rw [Bool.eq_iff_iff]; simp [vOK,a06,a6x,a4b,a2f,asc,a4L,a6J,a7k,Val.Kind,Val.Int_,Val.Text,Val.Kids,Val.Keys,Val.Entries,Val.Labels]; exact decide_eq_true_iff
theorem b9f:vOK (Val.mk 5 0 (⟨#[]⟩) [] [] [] [])=true:=by simp [vOK,a06,a6x,a4b,a2f,asc,a4L,a6J,a7k,Val.Kind,Val.Int_,Val.Text,Val.Kids,Val.Keys,Val.Entries,Val.Labels]
theorem c3v (l:List Val):vOK (Val.mk 6 0 (⟨#[]⟩) l [] [] [])=(decide (l.length<=4)&&a06 l):=by rw [Bool.eq_iff_iff]; simp [vOK,a6x,a4b,a2f,asc,a4L,a6J,a7k,Val.Kind,Val.Int_,Val.Text,Val.Kids,Val.Keys,Val.Entries,Val.Labels]; intro _; exact decide_eq_true_iff
theorem c5Z (x t:Val):vOK (Val.mk 7 0 (⟨#[]⟩) [x,t] [] [] [])=((t.Kind==5||t.Kind==7)&&(vOK x&&vOK t)):=by simp [vOK,a06,a6x,a4b,a2f,asc,a4L,a6J,b80,a7k,Val.Kind,Val.Int_,Val.Text,Val.Kids,Val.Keys,Val.Entries,Val.Labels]
theorem c6K (t:List Val×List Key):vOK (a1N t)=(b1J (a1N t)&&a06 t.1):=by simp [a1N,vOK,a6x,a4b,a2f,asc,a4L,a6J,a7k,Val.Kind,Val.Int_,Val.Text,Val.Kids,Val.Keys,Val.Entries,Val.Labels]
theorem d1M (n:Int)(es:List Ent):vOK (b8O n es)=(c1H (b8O n es)&&a6x es):=by simp [b8O,vOK,a06,a4b,a2f,asc,a4L,a6J,a7k,Val.Kind,Val.Int_,Val.Text,Val.Kids,Val.Keys,Val.Entries,Val.Labels]
def a7w (v:Val)(l:List ByteArray):Val:=Val.mk v.Kind v.Int_ v.Text v.Kids v.Keys v.Entries l
theorem b0n {v:Val}{l:List ByteArray}(h:vOK v=true)(hl:a2f l=true):vOK (a7w v l)=true:=by
 cases v
 simp only [vOK,a4b,Bool.and_eq_true,a7w,Val.Kind,Val.Int_,Val.Text,Val.Kids,Val.Keys,Val.Entries,Val.Labels] at h ⊢
 exact ⟨⟨hl,h.1.2⟩,h.2⟩
theorem a67 (v:Val)(l:List ByteArray):w9 (a7w v l)<=w9 v+J7 l:=by
 rw [a3P,a3P v]
 simp only [a7w,Val.Text,Val.Kids,Val.Keys,Val.Entries,Val.Labels]
 omega
theorem a2Y:(⟨#[]⟩:ByteArray).size=0:=rfl
theorem V3 (k n:Int)(t:ByteArray)(kids:List Val)(keys:List Key)(es:List Ent):w9 (Val.mk k n t kids keys es [])=8+t.size+v8 kids+w4 keys+Z3 es:=by
 simp only [w9,a3g,J7]; omega
structure OS (L:List Int)(s:Semtypebase_Source):Prop where
 l:s.L=L
 lo:0<=s.At
 hi:s.At<=(L.length:Int)
section
variable {L:List Int}
theorem Y0 (hL:L.length<=4194304){s:Semtypebase_Source}(h:OS L s){n:Int}(h1:1<=n)(h2:n<=1000):∃ x t,z8 s n=some (x,t)/\OS L t/\0<=x/\x<n:=by
 obtain ⟨hl,lo,hi⟩:=h
 unfold z8
 have e1:decide (n<1)=false:=by simp; omega
 rw [e1,hl]
 by_cases he:(L.length:Int)<=s.At
 ·have e2:decide ((L.length:Int)<=s.At)=true:=by simpa using he
  rw [e2]
  exact ⟨0,s,rfl,⟨hl,lo,hi⟩,by omega,by omega⟩
 ·have e2:decide ((L.length:Int)<=s.At)=false:=by simpa using he
  rw [e2]
  simp only [cond_false,Option.bind_some]
  have hlt:s.At.toNat<L.length:=by omega
  have e:idx L s.At=some L[s.At.toNat]:=by
   have:=y4 (List.getElem?_eq_getElem hlt)
   rwa [show ((s.At.toNat:Nat):Int)=s.At by omega] at this
  rw [e]
  simp only [Option.bind_some]
  have hq:b4Q L[s.At.toNat] n=some (L[s.At.toNat].tmod n):=by unfold b4Q; rw [if_neg (by omega)]
  rw [hq]
  simp only [Option.bind_some,k8]
  have b1:=Int.tmod_lt_of_pos L[s.At.toNat] (show 0<n by omega)
  have b2:=Int.lt_tmod_of_pos L[s.At.toNat] (show 0<n by omega)
  have hw:w64 (s.At+1)=s.At+1:=K5 (by omega) (by omega)
  have hos:OS L (Semtypebase_Source.mk L (w64 (s.At+1))):=⟨rfl,by show 0<=w64 (s.At+1); omega,by show w64 (s.At+1)<=_; omega⟩
  by_cases hn:L[s.At.toNat].tmod n<0
  ·rw [X6,if_pos (by simpa using hn),K5 (x:=L[s.At.toNat].tmod n+n) (by omega) (by omega)]
   exact ⟨_,_,rfl,hos,by omega,by omega⟩
  ·rw [X6,if_neg (by simpa using hn)]
   exact ⟨_,_,rfl,hos,by omega,by omega⟩
theorem b5k {α:Type}(l:List α){x:Int}(h0:0<=x)(h1:x<(l.length:Int)):∃ t,idx l x=some t/\l[x.toNat]?=some t/\t∈l:=by
 have hlt:x.toNat<l.length:=by omega
 have:=y4 (List.getElem?_eq_getElem hlt)
 rw [show ((x.toNat:Nat):Int)=x by omega] at this
 exact ⟨_,this,List.getElem?_eq_getElem hlt,List.getElem_mem hlt⟩
abbrev b9q:List ByteArray:=[⟨#[65]⟩,⟨#[66]⟩,⟨#[67]⟩]
abbrev c4U:List ByteArray:=[⟨#[97]⟩,⟨#[98]⟩,⟨#[111,107]⟩,⟨#[101,114,114,111,114]⟩]
abbrev c5n:List ByteArray:=[⟨#[]⟩,⟨#[115]⟩,⟨#[120,32,121]⟩,⟨#[97]⟩]
theorem c1h (hL:L.length<=4194304){s:Semtypebase_Source}(h:OS L s):∃ x t,a0x s=some (x,t)/\OS L t/\x∈b9q:=by
 obtain ⟨n,t,e,ht,a,b⟩:=Y0 hL h (n:=3) (by omega) (by omega)
 obtain ⟨x,ex,eg,hx⟩:=b5k b9q a (by simpa using b)
 exact ⟨x,t,by unfold a0x; rw [e]; simp only [Option.bind_some]; rw [ex,eg]; rfl,ht,hx⟩
theorem b0m (hL:L.length<=4194304){s:Semtypebase_Source}(h:OS L s):∃ x t,V6 s=some (x,t)/\OS L t/\x∈c4U:=by
 obtain ⟨n,t,e,ht,a,b⟩:=Y0 hL h (n:=4) (by omega) (by omega)
 obtain ⟨x,ex,eg,hx⟩:=b5k c4U a (by simpa using b)
 exact ⟨x,t,by unfold V6; rw [e]; simp only [Option.bind_some]; rw [ex,eg]; rfl,ht,hx⟩
theorem b9n (hL:L.length<=4194304){s:Semtypebase_Source}(h:OS L s):∃ x t,a0e s=some (x,t)/\OS L t/\x∈c5n:=by
 obtain ⟨n,t,e,ht,a,b⟩:=Y0 hL h (n:=4) (by omega) (by omega)
 obtain ⟨x,ex,eg,hx⟩:=b5k c5n a (by simpa using b)
 exact ⟨x,t,by unfold a0e; rw [e]; simp only [Option.bind_some]; rw [ex,eg]; rfl,ht,hx⟩
theorem c8F (hL:L.length<=4194304){s:Semtypebase_Source}(h:OS L s):∃ x t,a2u s=some (x,t)/\OS L t:=by
 obtain ⟨n,t,e,ht,a,b⟩:=Y0 hL h (n:=10) (by omega) (by omega)
 obtain ⟨x,ex,eg,hx⟩:=b5k ([0,1,(-1),2,3,(-2),7,(-9223372036854775808),9223372036854775807,10]:List Int) a (by simpa using b)
 exact ⟨x,t,by unfold a2u; rw [e]; simp only [Option.bind_some]; rw [ex,eg]; rfl,ht⟩
def chk (o:Option (List ByteArray)):Bool :=
 match o with
 | some l=>a2f l&&decide (J7 l<=4)
 | none=>false
theorem b79 {o:Option (List ByteArray)}(h:chk o=true):∃ l,o=some l/\a2f l=true/\J7 l<=4:=by
 cases o with
 | none=>cases h
 | some l=>simp only [chk,Bool.and_eq_true,decide_eq_true_eq] at h; exact ⟨l,rfl,h⟩
theorem d1C:chk (a0g ([]:List ByteArray))=true:=by kernel_rfl
theorem d1K:b9q.all (fun x=>chk (a0g [x]))=true:=by kernel_rfl
theorem d2c:b9q.all (fun x=>b9q.all (fun y=>chk (a0g ([x]++[y]))))=true:=by kernel_rfl
theorem b1L (hL:L.length<=4194304){s:Semtypebase_Source}(h:OS L s):∃ l t,a1g s=some (l,t)/\OS L t/\a2f l=true/\J7 l<=4:=by
 obtain ⟨n,t,e,ht,_,_⟩:=Y0 hL h (n:=3) (by omega) (by omega)
 unfold a1g
 rw [e]
 simp only [Option.bind_some]
 cases hn:n==1
 ·simp only [cond_false,Option.bind_some]
  obtain ⟨l,el,h1,h2⟩:=b79 d1C
  exact ⟨l,t,by rw [el]; rfl,ht,h1,h2⟩
 ·simp only [cond_true,Option.bind_some]
  obtain ⟨x,t2,e2,ht2,hx⟩:=c1h hL ht
  obtain ⟨m,t3,e3,ht3,_,_⟩:=Y0 hL ht2 (n:=2) (by omega) (by omega)
  rw [e2]
  simp only [Option.bind_some]
  rw [v7 (by simp),e3]
  simp only [Option.bind_some]
  cases hm:m==1
  ·simp only [cond_false,Option.bind_some]
   obtain ⟨l,el,h1,h2⟩:=b79 (List.all_eq_true.1 d1K x hx)
   exact ⟨l,t3,by rw [el]; rfl,ht3,h1,h2⟩
  ·simp only [cond_true,Option.bind_some]
   obtain ⟨y,t4,e4,ht4,hy⟩:=c1h hL ht3
   rw [e4]
   simp only [Option.bind_some]
   rw [v7 (by simp)]
   obtain ⟨l,el,h1,h2⟩:=b79 (List.all_eq_true.1 (List.all_eq_true.1 d2c x hx) y hy)
   exact ⟨l,t4,by simp only [Option.bind_some]; rw [el]; rfl,ht4,h1,h2⟩
theorem b1F:c4U.all (fun x=>a4K x&&decide (x.size<=5))=true:=by kernel_rfl
theorem b1A:c5n.all (fun x=>decide (x.size<=5))=true:=by kernel_rfl
theorem b5K (hL:L.length<=4194304){s:Semtypebase_Source}(h:OS L s):∃ v t,K8 s=some (v,t)/\OS L t/\vOK v=true/\w9 v<=16:=by
 obtain ⟨n,t,e,ht,_,_⟩:=Y0 hL h (n:=6) (by omega) (by omega)
 unfold K8
 rw [e]
 simp only [Option.bind_some]
 cases n==0
 ·simp only [cond_false,Option.bind_some]
  cases n==1
  ·simp only [cond_false,Option.bind_some]
   cases n==2
   ·simp only [cond_false,Option.bind_some]
    cases n==3
    ·simp only [cond_false,Option.bind_some]
     cases n==4
     ·simp only [cond_false,Option.bind_some]
      unfold a4d a1n
      rw [v7 (by simp)]
      exact ⟨_,t,rfl,ht,by rw [c3v]; rfl,by rw [V3]; simp [a2Y,v8,w4,Z3]⟩
     ·simp only [cond_true,Option.bind_some]
      exact ⟨_,t,rfl,ht,b9f,by rw [V3]; simp [a2Y,v8,w4,Z3]⟩
    ·simp only [cond_true,Option.bind_some]
     obtain ⟨x,t2,e2,ht2,h0,_⟩:=Y0 hL ht (n:=3) (by omega) (by omega)
     rw [e2]
     exact ⟨_,t2,rfl,ht2,by rw [d11]; simpa using h0,by rw [V3]; simp [a2Y,v8,w4,Z3]⟩
   ·simp only [cond_true,Option.bind_some]
    obtain ⟨x,t2,e2,ht2,hx⟩:=b9n hL ht
    have hw:=List.all_eq_true.1 b1A x hx
    simp only [decide_eq_true_eq] at hw
    rw [e2]
    exact ⟨_,t2,rfl,ht2,by rw [d2t]; simp; omega,by rw [V3]; simp only [v8,w4,Z3]; omega⟩
  ·simp only [cond_true,Option.bind_some]
   obtain ⟨x,t2,e2,ht2,hx⟩:=b0m hL ht
   have hw:=List.all_eq_true.1 b1F x hx
   simp only [Bool.and_eq_true,decide_eq_true_eq] at hw
   rw [e2]
   exact ⟨_,t2,rfl,ht2,by rw [d0P]; exact hw.1,by rw [V3]; simp only [v8,w4,Z3]; omega⟩
 ·simp only [cond_true,Option.bind_some]
  obtain ⟨x,t2,e2,ht2⟩:=c8F hL ht
  rw [e2]
  exact ⟨_,t2,rfl,ht2,d1U x,by rw [V3]; simp [a2Y,v8,w4,Z3]⟩
theorem d2j (hL:L.length<=4194304){s:Semtypebase_Source}(h:OS L s):∃ k t,a3t s=some (k,t)/\OS L t/\Z8 k=true/\a5g k<=8:=by
 obtain ⟨n,t,e,ht,_,_⟩:=Y0 hL h (n:=2) (by omega) (by omega)
 unfold a3t
 rw [e]
 simp only [Option.bind_some]
 cases n==0
 ·simp only [cond_false,Option.bind_some]
  obtain ⟨x,t2,e2,ht2,hx⟩:=b9n hL ht
  have hw:=List.all_eq_true.1 b1A x hx
  simp only [decide_eq_true_eq] at hw
  rw [e2]
  refine ⟨_,t2,rfl,ht2,?_,?_⟩
  ·simp [Z8]; omega
  ·simp only [a5g,a3g]; omega
 ·simp only [cond_true,Option.bind_some]
  obtain ⟨x,t2,e2,ht2,hx⟩:=b0m hL ht
  have hw:=List.all_eq_true.1 b1F x hx
  simp only [Bool.and_eq_true,decide_eq_true_eq] at hw
  rw [e2]
  refine ⟨_,t2,rfl,ht2,?_,?_⟩
  ·simpa [Z8] using hw.1
  ·simp only [a5g,a3g]; omega
theorem b0e {γ σ τ:Type}{step:σ->Option (Fl σ τ)}(pack:γ->Int->Semtypebase_Source->σ)(out:γ->Semtypebase_Source->τ)(Inv:Nat->γ->Prop)(J:Nat)
 (hst:∀ (j n:Nat) (g:γ) (s:Semtypebase_Source),j<J->n<=J->Inv j g->OS L s->∃ g' s',step (pack g ((n+1:Nat):Int) s)=some (.next (pack g' (n:Int) s'))/\OS L s'/\Inv (j+1) g')
 (hend:∀ g s,step (pack g 0 s)=some (.done (out g s))) :
 ∀ (n j k:Nat) (g:γ) (s:Semtypebase_Source),j+n<=J->n+1<=k->Inv j g->OS L s->∃ g' s',z7 step k (pack g (n:Int) s)=some (out g' s')/\OS L s'/\Inv (j+n) g':=by
 intro n
 induction n with
 | zero =>
   intro j k g s _ hk hI hs
   obtain ⟨k,rfl⟩:∃ m,k=m+1:=⟨k-1,by omega⟩
   exact ⟨g,s,by have:=hend g s; simp [z7,this],hs,hI⟩
 | succ n ih =>
   intro j k g s hJ hk hI hs
   obtain ⟨k,rfl⟩:∃ m,k=m+1:=⟨k-1,by omega⟩
   obtain ⟨g1,s1,e,hs1,hI1⟩:=hst j n g s (by omega) (by omega) hI hs
   obtain ⟨g2,s2,e2,hs2,hI2⟩:=ih (j+1) k g1 s1 (by omega) (by omega) hI1 hs1
   refine ⟨g2,s2,?_,hs2,by rw [show j+(n+1)=j+1+n by omega]; exact hI2⟩
   simp only [z7,e,Option.bind_some]
   exact e2
def hb:Nat->Nat
 | 0=>32
 | h+1=>64+8*hb h
theorem d0Z {h:Nat}(hh:h<=2):hb h<=2624:=by
 match h,hh with
 | 0,_=>decide
 | 1,_=>decide
 | 2,_=>decide
theorem c8N (h:Nat):32<=hb h:=by cases h<;>simp [hb]; omega
def c46 (b:Nat)(v:Val):Prop:=vOK v=true/\w9 v<=b
end
end Go.Pl
namespace Go.Pl
open Go Go.RowKit Go.Sx Go.Qx
theorem b6c (a b:List Val):a06 (a++b)=(a06 a&&a06 b):=by rw [a3W,a3W,a3W,List.all_append]
theorem b3y:∀ (ks:List Key) (vs:List Val),b6T (ks.zip vs)<=w4 ks+v8 vs
 | [],_=>by simp [b6T]
 | _::_,[]=>by simp [b6T]
 | k::r,v::q=>by have:=b3y r q; simp only [List.zip_cons_cons,b6T,w4,v8]; omega
theorem b9D (n:Nat)(h:n<=1000)(b:Nat)(hb:b<=1024):w5 n b=some ():=v7 (by
 have:n*b<=1000*1024:=Nat.mul_le_mul h hb
 omega)
section
variable {L:List Int}
theorem c8g (hL:L.length<=4194304){rv:Semtypebase_Source->Int->Option (Val×Semtypebase_Source)}{b:Nat}{h:Int}(hv:∀ s,OS L s->∃ v t,rv s h=some (v,t)/\OS L t/\c46 b v)
 (hb:b<=100000) (hb8:8<=b) (rx:Semtypebase_Source->Int->Option (Val×Semtypebase_Source)) (ry:Semtypebase_Source->Int->Int->Option (Ent×Semtypebase_Source)) (fuel:Nat) {n:Nat} (hn:n<=4) {s:Semtypebase_Source} (hs:OS L s) :
 ∃ e t,a3Q fuel rv rx ry s (n:Int) h=some (e,t)/\OS L t/\eOK e=true/\a4m (n:Int) e=true/\a65 e<=n*b+b+3:=by
 obtain ⟨g,s1,e1,hs1,h1,h2,h3⟩:=b0e (L:=L) (step:=a1P h rv) (fun (g:List Val) (m:Int) (s:Semtypebase_Source)=>(m,s,(g,false,0,0,(⟨#[]⟩:ByteArray),([]:List Val),([]:List Key),([]:List Ent),([]:List ByteArray))))
  (fun (g:List Val) (s:Semtypebase_Source)=>(s,(g,false,0,0,(⟨#[]⟩:ByteArray),([]:List Val),([]:List Key),([]:List Ent),([]:List ByteArray)))) (fun j g=>g.length=j/\a06 g=true/\v8 g<=j*b) 4
  (by
    intro j m g s hj hm ⟨i1,i2,i3⟩ hs
    obtain ⟨v,t,e,ht,k1,k2⟩:=hv s hs
    refine ⟨g++[v],t,?_,ht,by simp [i1],by rw [b6c,i2]; simp [a06,k1],?_⟩
    ·unfold a1P
     simp only [X6,k8]
     rw [if_pos (decide_eq_true (by omega)),e]
     simp only [Option.bind_some]
     rw [b9D _ (by simp; omega) _ (by omega),K5 (by omega) (by omega)]
     simp only [Option.bind_some]
     rw [show ((m+1:Nat):Int)-1=(m:Int) by omega]
    ·rw [a4n]
     simp only [v8,Nat.add_mul]
     omega)
  (by
    intro g s
    unfold a1P
    simp) n 0 (n+2) [] s (by omega) (by omega) ⟨rfl,rfl,by simp [v8]⟩ hs
 obtain ⟨x,t,e2,ht,_,_⟩:=Y0 hL hs1 (n:=4) (by omega) (by omega)
 rw [Nat.zero_add] at h1 h3
 unfold a3Q
 rw [show ((n:Int)).toNat=n by omega,e1]
 simp only [Option.bind_some]
 rw [e2]
 simp only [Option.bind_some]
 cases x==1
 ·simp only [cond_false]
  obtain ⟨v,t2,e3,ht2,k1,k2⟩:=hv t ht
  rw [e3]
  refine ⟨_,t2,rfl,ht2,by rw [b7X]; simp only [Ent.Args,Ent.Fails,Ent.Result]; rw [h2,k1]; rfl,?_,?_⟩
  ·simp [a4m,Ent.Args,Ent.Fails,h1]
  ·rw [a3c]
   simp only [Ent.Args,Ent.Result]
   omega
 ·simp only [cond_true]
  refine ⟨_,t,rfl,ht,by rw [b7X]; simp only [Ent.Args,Ent.Fails]; rw [h2]; rfl,?_,?_⟩
  ·simp [a4m,Ent.Args,Ent.Fails,Ent.Result,h1,c6z]
  ·rw [a3c]
   simp only [Ent.Args,Ent.Result]
   have:w9 (Val.mk 0 0 (⟨#[]⟩) [] [] [] [])=8:=by rw [V3]; rfl
   omega
theorem b3B {x:Int}{b:Int}(h0:0<=x)(h1:x<b):∃ n:Nat,x=(n:Int)/\(n:Int)<b:=⟨x.toNat,by omega,by omega⟩
theorem c9w (hL:L.length<=4194304){rv:Semtypebase_Source->Int->Option (Val×Semtypebase_Source)}{re:Semtypebase_Source->Int->Int->Option (Ent×Semtypebase_Source)}{h:Nat}(hh:h<=2)
 (hv:∀ s,OS L s->∃ v t,rv s ((h:Int)+1)=some (v,t)/\OS L t/\c46 (hb h) v)
 (hv2:1<=h->∀ s,OS L s->∃ v t,rv s (h:Int)=some (v,t)/\OS L t/\c46 (hb h) v)
 (he:∀ n:Nat,n<=4->∀ s,OS L s->∃ e t,re s (n:Int) ((h:Int)+1)=some (e,t)/\OS L t/\eOK e=true/\a4m (n:Int) e=true/\a65 e<=n*hb h+hb h+3)
 (rx:Semtypebase_Source->Int->Option (Val×Semtypebase_Source)) {fuel:Nat} (hf:40000<=fuel) {s:Semtypebase_Source} (hs:OS L s) :
 ∃ v t,a0X fuel rv rx re s ((h:Int)+2)=some (v,t)/\OS L t/\vOK v=true/\w9 v+8<=hb (h+1):=by
 have hb1:=d0Z hh
 have hb2:=c8N h
 have hbs:hb (h+1)=64+8*hb h:=rfl
 have w1:w64 ((h:Int)+2-1)=(h:Int)+1:=by rw [K5 (by omega) (by omega)]; omega
 have w2:w64 ((h:Int)+2-2)=(h:Int):=by rw [K5 (by omega) (by omega)]; omega
 have wn:∀ m:Nat,m<=10->w64 (((m+1:Nat):Int)-1)=(m:Int):=fun m hm=>by rw [K5 (by omega) (by omega)]; omega
 have lf:∀ s,OS L s->∃ v t,K8 s=some (v,t)/\OS L t/\vOK v=true/\w9 v+8<=hb (h+1):=fun s hs=>by
  obtain ⟨v,t,e,ht,h1,h2⟩:=b5K hL hs
  exact ⟨v,t,e,ht,h1,by omega⟩
 obtain ⟨c,t,e,ht,_,_⟩:=Y0 hL hs (n:=6) (by omega) (by omega)
 unfold a0X
 have e0:decide ((h:Int)+2<=1)=false:=by simp; omega
 rw [e0,e]
 simp only [Option.bind_some,cond_false,k8,w1,w2]
 cases c==1
 ·simp only [cond_false,Option.bind_some,j9]
  cases c==2
  ·simp only [cond_false,Option.bind_some,j9]
   cases c==3
   ·simp only [cond_false,Option.bind_some,j9]
    cases c==4
    ·simp only [cond_false,Option.bind_some,j9]
     obtain ⟨v,t2,e2,h2⟩:=lf t ht
     rw [e2]
     exact ⟨v,t2,rfl,h2⟩
    ·simp only [cond_true,Option.bind_some,j9]
     obtain ⟨x,t2,e2,ht2,x0,x1⟩:=Y0 hL ht (n:=3) (by omega) (by omega)
     obtain ⟨y,t3,e3,ht3,y0,y1⟩:=Y0 hL ht2 (n:=3) (by omega) (by omega)
     obtain ⟨n,rfl,hn⟩:=b3B x0 x1
     obtain ⟨m,rfl,hm⟩:=b3B y0 y1
     rw [e2]
     simp only [Option.bind_some]
     rw [e3]
     simp only [Option.bind_some]
     have hnb:n*hb h<=2*hb h:=Nat.mul_le_mul_right _ (by omega)
     obtain ⟨g,s1,e4,hs1,i1,i2,i3,i4⟩:=b0e (L:=L) (step:=a1O ((h:Int)+2) ((n:Int),t2) re) (fun (g:List Ent) (m:Int) (s:Semtypebase_Source)=>(g,m,s)) (fun (g:List Ent) (s:Semtypebase_Source)=>(g,s)) (fun j g=>g.length=j/\a6x g=true/\g.all (a4m (n:Int))=true/\Z3 g<=j*(3*hb h+3)) 4
      (by
        intro j m g s hj hm ⟨i1,i2,i3,i4⟩ hs
        obtain ⟨v,t,e,ht,k1,k2,k3⟩:=he n (by omega) s hs
        refine ⟨g++[v],t,?_,ht,by simp [i1],by rw [a8w,List.all_append,<- a8w,i2]; simp [k1],by rw [List.all_append,i3]; simp [k2],?_⟩
        ·unfold a1O
         simp only [X6,k8]
         rw [if_pos (decide_eq_true (by omega)),w1,e]
         simp only [Option.bind_some]
         rw [b9D _ (by simp; omega) _ (by omega),wn m (by omega)]
         rfl
        ·rw [b1x]
         simp only [Z3,Nat.add_mul]
         omega)
      (by
        intro g s
        unfold a1O
        simp) m 0 (m+2) [] t3 (by omega) (by omega) ⟨rfl,rfl,rfl,by simp [Z3]⟩ ht3
     simp only [Option.bind_some,Int.toNat_natCast]
     rw [e4]
     simp only [Option.bind_some]
     rw [Nat.zero_add] at i1 i4
     have hmb:m*(3*hb h+3)<=2*(3*hb h+3):=Nat.mul_le_mul_right _ (by omega)
     rw [b3I fuel (n:Int) g (by omega) (by omega),if_pos ⟨by omega,by omega,i3⟩]
     simp only [Option.bind_some]
     simp only [show ((0:Int)==0)=true from rfl,cond_true,Option.bind_some,j9]
     refine ⟨b8O (n:Int) (g.foldl a4o []),s1,rfl,hs1,?_,?_⟩
     ·rw [d1M]
      have a1:(g.foldl a4o []).all (a4m (n:Int))=true:=List.all_eq_true.2 fun y hy=>by
       rcases b1i g [] hy with hy | hy
       ·simp at hy
       ·exact List.all_eq_true.1 i3 y hy
      have a2:a6x (g.foldl a4o [])=true:=by
       rw [a8w]
       rw [a8w] at i2
       exact List.all_eq_true.2 fun y hy=>by
        rcases b1i g [] hy with hy | hy
        ·simp at hy
        ·exact List.all_eq_true.1 i2 y hy
      rw [a2]
      simp only [c1H,b8O,Val.Int_,Val.Entries]
      rw [a1,b7c g [] rfl]
      simp only [Bool.and_true,Bool.and_eq_true]
      exact ⟨decide_eq_true (by omega),decide_eq_true (by omega)⟩
     ·have:=a9W g []
      simp only [b8O,V3,a2Y,v8,w4]
      simp only [Z3] at this
      omega
   ·simp only [cond_true,Option.bind_some,j9]
    obtain ⟨y,t3,e3,ht3,y0,y1⟩:=Y0 hL ht (n:=3) (by omega) (by omega)
    obtain ⟨m,rfl,hm⟩:=b3B y0 y1
    rw [e3]
    simp only [Option.bind_some]
    obtain ⟨g,s1,e4,hs1,i1,i2,i3,i4,i5,i6⟩:=b0e (L:=L) (step:=a1S ((h:Int)+2) rv) (fun (g:List Key×List Val) (m:Int) (s:Semtypebase_Source)=>(g.1,g.2,m,s)) (fun (g:List Key×List Val) (s:Semtypebase_Source)=>(g.1,g.2,s)) (fun j g=>g.1.length=j/\g.2.length=j/\g.1.all Z8=true/\a06 g.2=true/\v8 g.2<=j*hb h/\w4 g.1<=j*8) 4
     (by
       intro j m g s hj hm ⟨i1,i2,i3,i4,i5,i6⟩ hs
       obtain ⟨k,t,e,ht,k1,k2⟩:=d2j hL hs
       obtain ⟨v,t2,e2,ht2,l1,l2⟩:=hv t ht
       refine ⟨(g.1++[k],g.2++[v]),t2,?_,ht2,by simp [i1],by simp [i2],by rw [List.all_append,i3]; simp [k1],by rw [b6c,i4]; simp [a06,l1],?_,?_⟩
       ·unfold a1S
        simp only [X6,k8]
        rw [if_pos (decide_eq_true (by omega)),e,w1]
        simp only [Option.bind_some]
        rw [b9D _ (by simp; omega) _ (by omega),e2]
        simp only [Option.bind_some]
        rw [b9D _ (by simp; omega) _ (by omega),wn m (by omega)]
        rfl
       ·rw [a4n]
        simp only [v8,Nat.add_mul]
        omega
       ·rw [a7p]
        simp only [w4,Nat.add_mul]
        omega)
     (by
       intro g s
       unfold a1S
       simp) m 0 (m+2) ([],[]) t3 (by omega) (by omega) ⟨rfl,rfl,rfl,rfl,by simp [v8],by simp [w4]⟩ ht3
    simp only [Int.toNat_natCast]
    rw [e4]
    simp only [Option.bind_some]
    rw [Nat.zero_add] at i1 i2 i5 i6
    have hmb:m*hb h<=2*hb h:=Nat.mul_le_mul_right _ (by omega)
    rw [b6C g.1 g.2 (by omega),if_pos ⟨by omega,i3⟩]
    simp only [Option.bind_some]
    cases hx:a1G (g.1.zip g.2) ([],[]) with
    | none =>
      simp only [show ((6:Int)==0)=false from rfl,cond_false,Option.bind_some,j9]
      obtain ⟨v,t2,e2,h2⟩:=lf _ hs1
      rw [e2]
      exact ⟨v,t2,rfl,h2⟩
    | some u =>
      simp only
      simp only [show ((0:Int)==0)=true from rfl,cond_true,Option.bind_some,j9]
      obtain ⟨m1,m2,m3,m4,m5,m6⟩:=a8U _ _ _ hx rfl rfl
      have hz:=b3y g.1 g.2
      simp only [v8,w4] at m6
      refine ⟨a1N u,s1,rfl,hs1,?_,?_⟩
      ·rw [c6K]
       have a1:u.2.all Z8=true:=List.all_eq_true.2 fun y hy=>by
        rcases m4 y hy with hy | ⟨x,hx,rfl⟩
        ·simp at hy
        ·exact List.all_eq_true.1 i3 _ (List.of_mem_zip hx).1
       have a2:a06 u.1=true:=by
        rw [a3W]
        rw [a3W] at i4
        exact List.all_eq_true.2 fun y hy=>by
         rcases m5 y hy with hy | ⟨x,hx,rfl⟩
         ·simp at hy
         ·exact List.all_eq_true.1 i4 _ (List.of_mem_zip hx).2
       rw [a2]
       simp only [b1J,a1N,Val.Keys,Val.Kids]
       rw [a1,m1,m2]
       simp
      ·simp only [a1N,V3,a2Y,Z3]
       omega
  ·simp only [cond_true,Option.bind_some,j9]
   have fin:∀ (tl v:Val),vOK tl=true->(tl.Kind=5\/tl.Kind=7)->w9 tl<=24+hb h->c46 (hb h) v ->
    vOK (Val.mk 7 0 (⟨#[]⟩) [v,tl] [] [] [])=true/\w9 (Val.mk 7 0 (⟨#[]⟩) [v,tl] [] [] [])+8<=hb (h+1):=by
    intro tl v ho hk hbt ⟨k1,k2⟩
    refine ⟨?_,?_⟩
    ·rw [c5Z,k1,ho]
     rcases hk with hk | hk<;>simp [hk]
    ·rw [V3]
     simp only [a2Y,v8,w4,Z3]
     omega
   have nilB:w9 (Val.mk 5 0 (⟨#[]⟩) [] [] [] [])=8:=by rw [V3]; rfl
   unfold X7 a6m
   simp only [Option.bind_some]
   by_cases h2:1<=h
   ·have e5:decide (2<(h:Int)+2)=true:=by simp; omega
    obtain ⟨x,t2,e2,ht2,_,_⟩:=Y0 hL ht (n:=2) (by omega) (by omega)
    rw [e5,e2]
    simp only [Option.bind_some,cond_true]
    cases x==1
    ·simp only [Option.bind_some,cond_false]
     obtain ⟨l,t3,e3,ht3,l1,l2⟩:=b1L hL ht2
     rw [e3]
     simp only [Option.bind_some]
     obtain ⟨v,t5,e5,ht5,k5⟩:=hv t3 ht3
     rw [e5]
     exact ⟨_,t5,rfl,ht5,fin (a7w (Val.mk 5 0 (⟨#[]⟩) [] [] [] []) l) v (b0n b9f l1) (.inl rfl) (by have:=a67 (Val.mk 5 0 (⟨#[]⟩) [] [] [] []) l; omega) k5⟩
    ·simp only [Option.bind_some,cond_true]
     obtain ⟨v,t3,e3,ht3,k1,k2⟩:=hv2 h2 t2 ht2
     rw [e3]
     simp only [Option.bind_some]
     obtain ⟨l,t4,e4,ht4,l1,l2⟩:=b1L hL ht3
     have ho:vOK (Val.mk 7 0 (⟨#[]⟩) [v,Val.mk 5 0 (⟨#[]⟩) [] [] [] []] [] [] [])=true:=by rw [c5Z,k1,b9f]; rfl
     have hbb:w9 (Val.mk 7 0 (⟨#[]⟩) [v,Val.mk 5 0 (⟨#[]⟩) [] [] [] []] [] [] [])<=16+hb h:=by
      rw [V3]
      simp only [a2Y,v8,w4,Z3,nilB]
      omega
     rw [e4]
     simp only [Option.bind_some]
     obtain ⟨v5,t5,e5,ht5,k5⟩:=hv t4 ht4
     rw [e5]
     exact ⟨_,t5,rfl,ht5,fin (a7w (Val.mk 7 0 (⟨#[]⟩) [v,Val.mk 5 0 (⟨#[]⟩) [] [] [] []] [] [] []) l) v5 (b0n ho l1) (.inr rfl) (by have:=a67 (Val.mk 7 0 (⟨#[]⟩) [v,Val.mk 5 0 (⟨#[]⟩) [] [] [] []] [] [] []) l; omega) k5⟩
   ·have e5:decide (2<(h:Int)+2)=false:=by simp; omega
    rw [e5]
    simp only [Option.bind_some,cond_false]
    obtain ⟨l,t3,e3,ht3,l1,l2⟩:=b1L hL ht
    rw [e3]
    simp only [Option.bind_some]
    obtain ⟨v,t5,e5,ht5,k5⟩:=hv t3 ht3
    rw [e5]
    exact ⟨_,t5,rfl,ht5,fin (a7w (Val.mk 5 0 (⟨#[]⟩) [] [] [] []) l) v (b0n b9f l1) (.inl rfl) (by have:=a67 (Val.mk 5 0 (⟨#[]⟩) [] [] [] []) l; omega) k5⟩
 ·simp only [cond_true,Option.bind_some,j9]
  obtain ⟨y,t3,e3,ht3,y0,y1⟩:=Y0 hL ht (n:=4) (by omega) (by omega)
  obtain ⟨m,rfl,hm⟩:=b3B y0 y1
  rw [e3]
  simp only [Option.bind_some]
  obtain ⟨g,s1,e4,hs1,i1,i2,i3⟩:=b0e (L:=L) (step:=a1Q ((h:Int)+2) rv) (fun (g:List Val) (m:Int) (s:Semtypebase_Source)=>(g,m,s)) (fun (g:List Val) (s:Semtypebase_Source)=>(g,s)) (fun j g=>g.length=j/\a06 g=true/\v8 g<=j*hb h) 4
   (by
     intro j m g s hj hm ⟨i1,i2,i3⟩ hs
     obtain ⟨v,t,e,ht,k1,k2⟩:=hv s hs
     refine ⟨g++[v],t,?_,ht,by simp [i1],by rw [b6c,i2]; simp [a06,k1],?_⟩
     ·unfold a1Q
      simp only [X6,k8]
      rw [if_pos (decide_eq_true (by omega)),w1,e]
      simp only [Option.bind_some]
      rw [b9D _ (by simp; omega) _ (by omega),wn m (by omega)]
      rfl
     ·rw [a4n]
      simp only [v8,Nat.add_mul]
      omega)
   (by
     intro g s
     unfold a1Q
     simp) m 0 (m+2) [] t3 (by omega) (by omega) ⟨rfl,rfl,by simp [v8]⟩ ht3
  simp only [Int.toNat_natCast]
  rw [e4]
  simp only [Option.bind_some]
  rw [Nat.zero_add] at i1 i3
  have hmb:m*hb h<=3*hb h:=Nat.mul_le_mul_right _ (by omega)
  unfold a4d a1n
  rw [b9D _ (by simp; omega) _ (by omega)]
  refine ⟨Val.mk 6 0 (⟨#[]⟩) g [] [] [],s1,rfl,hs1,?_,?_⟩
  ·rw [c3v,i2]
   simp
   omega
  ·rw [V3]
   simp only [a2Y,w4,Z3]
   omega
theorem d1F (hL:L.length<=4194304):∀ (h k:Nat),h<=3->50000+3*h<=k->∀ s,OS L s->∃ v t,(j7 k).1 s ((h:Int)+1)=some (v,t)/\OS L t/\c46 (hb h) v:=by
 intro h
 induction h using Nat.strongRecOn with
 | ind h ih =>
   intro k hh hk s hs
   obtain ⟨k,rfl⟩:∃ m,k=m+2:=⟨k-2,by omega⟩
   have key:∃ v t,(j7 (k+1)).2.1 s ((h:Int)+1)=some (v,t)/\OS L t/\vOK v=true/\w9 v+8<=hb h:=by
    show ∃ v t,a0X k (j7 k).1 (j7 k).2.1 (j7 k).2.2 s ((h:Int)+1)=some (v,t)/\_
    cases h with
    | zero =>
      obtain ⟨v,t,e,ht,h1,h2⟩:=b5K hL hs
      refine ⟨v,t,?_,ht,h1,by simp only [hb]; omega⟩
      unfold a0X
      have e0:decide (((0:Nat):Int)+1<=1)=true:=rfl
      rw [e0,e]
      rfl
    | succ h =>
      have:=c9w hL (h:=h) (by omega) (rv:=(j7 k).1) (re:=(j7 k).2.2) (fun s hs=>ih h (by omega) k (by omega) (by omega) s hs)
       (fun h1 s hs=>by
         obtain ⟨h,rfl⟩:∃ m,h=m+1:=⟨h-1,by omega⟩
         obtain ⟨v,t,e,ht,k1,k2⟩:=ih h (by omega) k (by omega) (by omega) s hs
         exact ⟨v,t,e,ht,k1,by simp only [hb]; omega⟩)
       (fun n hn s hs=>by
         obtain ⟨p,rfl⟩:∃ m,k=m+1:=⟨k-1,by omega⟩
         have hb1:=d0Z (show h<=2 by omega)
         have hb2:=c8N h
         exact c8g hL (rv:=(j7 p).1) (b:=hb h) (fun s hs=>ih h (by omega) p (by omega) (by omega) s hs) (by omega) (by omega) (j7 p).2.1 (j7 p).2.2 p hn hs)
       (j7 k).2.1 (fuel:=k) (by omega) hs
      rw [show (((h+1:Nat):Int))+1=(h:Int)+2 by omega]
      exact this
   obtain ⟨v,t,e,ht,h1,h2⟩:=key
   obtain ⟨l,t2,e2,ht2,l1,l2⟩:=b1L hL ht
   show ∃ v t,a3Y (k+1) (j7 (k+1)).1 (j7 (k+1)).2.1 (j7 (k+1)).2.2 s ((h:Int)+1)=some (v,t)/\_
   unfold a3Y
   rw [e]
   simp only [Option.bind_some]
   rw [e2]
   have:=a67 v l
   exact ⟨a7w v l,t2,rfl,ht2,b0n h1 l1,by omega⟩
end
end Go.Pl
end

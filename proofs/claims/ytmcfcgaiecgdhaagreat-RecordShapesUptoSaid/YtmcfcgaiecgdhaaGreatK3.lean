/- Part 3. -/
import Derived.Test.YtmcfcgaiecgdhaaGreatK2
import Derived.KernelRfl
import Derived.Lib.Bytealg
section
namespace Go.Qx
open Go Go.RowKit Go.Sx
set_option maxRecDepth 100000
structure Api_Field where
 Key_:Key
 Node:Int
 Optional:Bool
structure Api_TypeNode where
 Kind:Int
 Lo:Int
 Hi:Int
 Text:ByteArray
 Kids:List Int
 Fields:List Api_Field
 Rest:Int×Int
structure Api_Type where
 Nodes:List Api_TypeNode
 Root:Int
structure Api_Names where
 Cofinite:Bool
 List_:List ByteArray
structure Api_Range where
 Lo:Int
 Hi:Int
structure Api_Line where
 Kind:Int
 Arity:Int
 Ints:List Api_Range
 Names:Api_Names
 Pos:List Int
 Neg:List Int
 Vars:List ByteArray
 NotVars:List ByteArray
structure Semtypebase_Source where
 L:List Int
 At:Int
structure Api_Goal where
 Pos:List Int
 Neg:List Int
 Lists:Bool
structure Api_SomeKey where
 Kind:Int
 Goal:Api_Goal
structure Api_Shape where
 Keys:List Key
 States:List Int
 Parts:List Api_Goal
 Rest:Api_Goal×Api_Goal
 Some:List Api_SomeKey
structure Record_place where
 key:Int
 absent:Bool
 kind:Int
structure Value_used where
 number:Bool
 text_:Bool
 kids:Bool
 keys:Bool
 entries:Bool
def b1M (x y:Int×Int):Bool:=((x.1==y.1)&&((x.2==y.2)&&true))
def a3P (x y:Key):Bool:=((x.Kind==y.Kind)&&((Q4 x.Text y.Text)&&true))
def a2k (l:List (List Int))(x1:Int):Option (Fl Int (Sum Unit Bool)) :=
 bif decide (x1<(l.length:Int))
 then (Option.bind (idx l x1) fun e2 =>
 bif decide (80<(e2.length:Int))
 then (some (.done (.inr false)))
 else (some (.next (wr .i64 (x1+1)))))
 else (some (.done (.inl ())))
def a5b (l:List (List Int)):Option Bool :=
 Option.bind (z7 (a2k l) ((l.length:Int).toNat+1) 0) fun b3 =>
 j9 (fun _ =>
 some true) (fun y5 =>
 some y5) b3
def a5d (d:Api_TypeNode):Option Bool :=
 Option.bind (bif d.Kind==3
 then (some (true,false,false,false))
 else (Option.bind (bif d.Kind==4
 then (some (d.Kind==4))
 else (bif d.Kind==6
 then (some (d.Kind==6))
 else (some (d.Kind==19)))) fun b1 =>
 bif b1
 then (some (false,true,false,false))
 else (Option.bind (bif d.Kind==10
 then (some (d.Kind==10))
 else (bif d.Kind==12
 then (some (d.Kind==12))
 else (bif d.Kind==14
 then (some (d.Kind==14))
 else (bif d.Kind==16
 then (some (d.Kind==16))
 else (bif d.Kind==17
 then (some (d.Kind==17))
 else (some (d.Kind==18))))))) fun b2 =>
 bif b2
 then (some (false,false,true,false))
 else (bif d.Kind==13
 then (some (false,false,false,true))
 else (some (false,false,false,false)))))) fun b3 =>
 Option.bind (bif b3.1
 then (some true)
 else (Option.bind (bif d.Lo==0
 then (some (d.Hi==0))
 else (some false)) fun q4 =>
 some q4)) fun q5 =>
 Option.bind (bif q5
 then (Option.bind (bif b3.2.1
 then (some true)
 else (some (Q4 d.Text (⟨#[]⟩:ByteArray)))) fun q6 =>
 some q6)
 else (some false)) fun q7 =>
 Option.bind (bif q7
 then (Option.bind (bif b3.2.2.1
 then (some true)
 else (some ((d.Kids.length:Int)==0))) fun q8 =>
 some q8)
 else (some false)) fun q9 =>
 Option.bind (bif q9
 then (Option.bind (bif b3.2.2.2
 then (some true)
 else (Option.bind (bif (d.Fields.length:Int)==0
 then (some (b1M d.Rest (0,0)))
 else (some false)) fun q10 =>
 some q10)) fun q11 =>
 some q11)
 else (some false)) fun q12 =>
 some q12
def a8P (s:ByteArray)(other:Int->Option Bool)(x5:Int):Option (Fl Int (Sum Unit Bool)) :=
 bif decide (x5<(s.size:Int))
 then (Option.bind (a6c s x5) fun e6 =>
 Option.bind (other (e6.toNat:Int)) fun r7 =>
 bif !r7
 then (some (.done (.inr false)))
 else (some (.next (wr .i64 (x5+1)))))
 else (some (.done (.inl ())))
def a62 (s:ByteArray)(first:Int->Option Bool)(other:Int->Option Bool):Option Bool :=
 Option.bind (bif decide ((s.size:Int)<1)
 then (some true)
 else (some (decide (16<(s.size:Int))))) fun q1 =>
 Option.bind (bif q1
 then (some true)
 else (Option.bind (a6c s 0) fun e2 =>
 Option.bind (first (e2.toNat:Int)) fun r3 =>
 some (!r3))) fun q4 =>
 bif q4
 then (some false)
 else (Option.bind (z7 (a8P s other) ((s.size:Int).toNat+1) 1) fun b8 =>
 j9 (fun _ =>
 some true) (fun y10 =>
 some y10) b8)
def a43 (c:Int):Option Bool :=
 Option.bind (bif decide (97<=c)
 then (some (decide (c<=122)))
 else (some false)) fun q1 =>
 some q1
def a6r (c:Int):Option Bool :=
 Option.bind (bif decide (48<=c)
 then (some (decide (c<=57)))
 else (some false)) fun q1 =>
 some q1
def a9D (c:Int):Option Bool :=
 Option.bind (a43 c) fun r1 =>
 Option.bind (bif r1
 then (some true)
 else (Option.bind (a6r c) fun r2 =>
 some r2)) fun q3 =>
 Option.bind (bif q3
 then (some true)
 else (some (c==95))) fun q4 =>
 some q4
def a5G (s:ByteArray):Option Bool :=
 Option.bind (a62 s (fun z1 =>
 Option.bind (a43 z1) fun r2 =>
 some r2) (fun z3 =>
 Option.bind (a9D z3) fun r4 =>
 some r4)) fun r5 =>
 some r5
def a6s (c:Int):Option Bool :=
 Option.bind (bif decide (65<=c)
 then (some (decide (c<=90)))
 else (some false)) fun q1 =>
 some q1
def a6S (c:Int):Option Bool :=
 Option.bind (a43 c) fun r1 =>
 Option.bind (bif r1
 then (some true)
 else (Option.bind (a6s c) fun r2 =>
 some r2)) fun q3 =>
 Option.bind (bif q3
 then (some true)
 else (Option.bind (a6r c) fun r4 =>
 some r4)) fun q5 =>
 Option.bind (bif q5
 then (some true)
 else (some (c==95))) fun q6 =>
 some q6
def a23 (s:ByteArray):Option Bool :=
 Option.bind (a62 s (fun z1 =>
 Option.bind (a6s z1) fun r2 =>
 some r2) (fun z3 =>
 Option.bind (a6S z3) fun r4 =>
 some r4)) fun r5 =>
 some r5
def a4p (k:Key):Option Bool :=
 bif k.Kind==0
 then (Option.bind (a5G k.Text) fun r1 =>
 some r1)
 else (bif k.Kind==1
 then (some (decide ((k.Text.size:Int)<=64)))
 else (some false))
def a7Z (x:Int):Option Bool :=
 some (x != x)
def a0G (x:Int)(y:Int):Option Int :=
 Option.bind (a7Z x) fun r1 =>
 Option.bind (a7Z y) fun r2 =>
 bif r1
 then (bif r2
 then (some 0)
 else (some (-1)))
 else (bif r2
 then (some 1)
 else (bif decide (x<y)
 then (some (-1))
 else (bif decide (y<x)
 then (some 1)
 else (some 0))))
def a2r (a:ByteArray)(b:ByteArray):Option Int :=
 Option.bind (c3G a b) fun r1 =>
 some r1
def a0f (a:ByteArray)(b:ByteArray):Option Int :=
 Option.bind (a2r a b) fun r1 =>
 some r1
def K3 (a:Key)(b:Key):Option Int :=
 Option.bind (a0G a.Kind b.Kind) fun r1 =>
 bif r1 != 0
 then (some r1)
 else (Option.bind (a0f a.Text b.Text) fun r2 =>
 some r2)
def a2W (l:List Api_Field)(x1:Int):Option (Fl Int (Sum Unit Bool)) :=
 bif decide (x1<(l.length:Int))
 then (Option.bind (idx l x1) fun e2 =>
 Option.bind (a4p e2.Key_) fun r3 =>
 Option.bind (bif !r3
 then (some true)
 else (Option.bind (bif decide (0<x1)
 then (Option.bind (idx l (wr .i64 (x1-1))) fun e4 =>
 Option.bind (K3 e4.Key_ e2.Key_) fun r5 =>
 some (decide (0<=r5)))
 else (some false)) fun q6 =>
 some q6)) fun q7 =>
 bif q7
 then (some (.done (.inr false)))
 else (some (.next (wr .i64 (x1+1)))))
 else (some (.done (.inl ())))
def a36 (l:List Api_Field):Option Bool :=
 Option.bind (z7 (a2W l) ((l.length:Int).toNat+1) 0) fun b8 =>
 j9 (fun _ =>
 some true) (fun y10 =>
 some y10) b8
def a5i (d:Api_TypeNode):Option Bool :=
 Option.bind (bif d.Kind==1
 then (some (d.Kind==1))
 else (bif d.Kind==2
 then (some (d.Kind==2))
 else (bif d.Kind==5
 then (some (d.Kind==5))
 else (bif d.Kind==7
 then (some (d.Kind==7))
 else (bif d.Kind==8
 then (some (d.Kind==8))
 else (bif d.Kind==9
 then (some (d.Kind==9))
 else (bif d.Kind==11
 then (some (d.Kind==11))
 else (some (d.Kind==15))))))))) fun b1 =>
 bif b1
 then (some true)
 else (bif d.Kind==3
 then (some (decide (d.Lo<=d.Hi)))
 else (bif d.Kind==4
 then (some (decide ((d.Text.size:Int)<=64)))
 else (bif d.Kind==6
 then (Option.bind (a5G d.Text) fun r2 =>
 some r2)
 else (bif d.Kind==19
 then (Option.bind (a23 d.Text) fun r3 =>
 some r3)
 else (bif d.Kind==10
 then (some (decide ((d.Kids.length:Int)<=4)))
 else (bif d.Kind==12
 then (some ((d.Kids.length:Int)==2))
 else (bif d.Kind==13
 then (Option.bind (a36 d.Fields) fun r4 =>
 some r4)
 else (bif d.Kind==14
 then (Option.bind (bif decide (1<=(d.Kids.length:Int))
 then (some (decide ((d.Kids.length:Int)<=5)))
 else (some false)) fun q5 =>
 some q5)
 else (Option.bind (bif d.Kind==16
 then (some (d.Kind==16))
 else (some (d.Kind==17))) fun b6 =>
 bif b6
 then (some (decide (1<=(d.Kids.length:Int))))
 else (bif d.Kind==18
 then (some ((d.Kids.length:Int)==1))
 else (some false)))))))))))
def a2C (n_0:Api_TypeNode)(x2:(List Int)×Int):Option (Fl ((List Int)×Int) (List Int)) :=
 bif decide (x2.2<(n_0.Fields.length:Int))
 then (Option.bind (idx n_0.Fields x2.2) fun e3 =>
 Option.bind (Z4 (x2.1.length+([e3.Node]:List Int).length) 8) fun _ =>
 some (.next (x2.1++([e3.Node]:List Int),wr .i64 (x2.2+1))))
 else (some (.done x2.1))
def a7z (n_0:Api_TypeNode):Option (List Int) :=
 Option.bind (a0U 8 n_0.Kids) fun r1 =>
 Option.bind (z7 (a2C n_0) ((n_0.Fields.length:Int).toNat+1) (r1,0)) fun b5 =>
 bif n_0.Kind==13
 then (Option.bind (Z4 (b5.length+([n_0.Rest.1,n_0.Rest.2]:List Int).length) 8) fun _ =>
 some (b5++([n_0.Rest.1,n_0.Rest.2]:List Int)))
 else (some b5)
def a5a (kind:Int):Option Bool :=
 Option.bind (bif kind==16
 then (some true)
 else (some (kind==17))) fun q1 =>
 Option.bind (bif q1
 then (some true)
 else (some (kind==18))) fun q2 =>
 some q2
def Y6 (a2_2:Api_Type)(e10:Api_TypeNode)(rec_typeexpr_contractive_1:Int->(List Int)->Api_Type->Unit->Option (Bool×(List Int)))(x11:Int×(List Int)):Option (Fl (Int×(List Int)) (Sum (List Int) (Bool×(List Int)))) :=
 bif decide (x11.1<(e10.Kids.length:Int))
 then (Option.bind (idx e10.Kids x11.1) fun e12 =>
 Option.bind (rec_typeexpr_contractive_1 e12 x11.2 a2_2 ()) fun r13 =>
 bif !r13.1
 then (some (.done (.inr (false,r13.2))))
 else (some (.next (wr .i64 (x11.1+1),r13.2))))
 else (some (.done (.inl x11.2)))
def a4y (_:Nat)(rec_typeexpr_contractive_1:Int->(List Int)->Api_Type->Unit->Option (Bool×(List Int)))(i:Int)(a1_1:List Int)(a2_2:Api_Type)(_:Unit):Option (Bool×(List Int)) :=
 Option.bind (idx a1_1 i) fun _ =>
 Option.bind (a1_1[i.toNat]?) fun e2 =>
 Option.bind (bif e2 != 0
 then (some true)
 else (Option.bind (idx a2_2.Nodes i) fun e3 =>
 Option.bind (a5a e3.Kind) fun r4 =>
 some (!r4))) fun q5 =>
 bif q5
 then (Option.bind (idx a1_1 i) fun _ =>
 Option.bind (a1_1[i.toNat]?) fun e7 =>
 some (e7 != 1,a1_1))
 else (Option.bind (idx a1_1 i) fun _ =>
 Option.bind (a1_1[i.toNat]?) fun _ =>
 Option.bind (idx a2_2.Nodes i) fun e10 =>
 Option.bind (z7 (Y6 a2_2 e10 rec_typeexpr_contractive_1) ((e10.Kids.length:Int).toNat+1) (0,a1_1.set i.toNat 1)) fun (b14:Sum (List Int) (Bool×(List Int))) =>
 j9 (fun x15 =>
 Option.bind (idx x15 i) fun _ =>
 Option.bind (x15[i.toNat]?) fun _ =>
 some (true,x15.set i.toNat 2)) (fun y16 =>
 some (y16.1,y16.2)) b14)
def Q3:Nat->Int->(List Int)->Api_Type->Unit->Option (Bool×(List Int))
 | 0=>fun _ _ _ _=>none
 | n+1=>a4y n (Q3 n)
def Q7 (t:Api_Type)(n:Nat)(x2:Int×(List Int)):Option (Fl (Int×(List Int)) (Sum (List Int) (Bool×(List Int)))) :=
 bif decide (x2.1<(t.Nodes.length:Int))
 then (Option.bind (Q3 n x2.1 x2.2 t ()) fun r3 =>
 bif !r3.1
 then (some (.done (.inr (false,r3.2))))
 else (some (.next (wr .i64 (x2.1+1),r3.2))))
 else (some (.done (.inl x2.2)))
def a4f (n:Nat)(t:Api_Type):Option Bool :=
 Option.bind (a6R (t.Nodes.length:Int) (t.Nodes.length:Int) 8) fun m1 =>
 Option.bind (z7 (Q7 t n) ((t.Nodes.length:Int).toNat+1) (0,List.replicate m1 (0:Int))) fun (b4:Sum (List Int) (Bool×(List Int))) =>
 j9 (fun _ =>
 some true) (fun y6 =>
 some y6.1) b4
def a3g (t:Api_Type)(r7:List Int)(x8:Int):Option (Fl Int (Sum Unit Int)) :=
 bif decide (x8<(r7.length:Int))
 then (Option.bind (idx r7 x8) fun e9 =>
 Option.bind (bif decide (e9<0)
 then (some true)
 else (some (decide ((t.Nodes.length:Int)<=e9)))) fun q10 =>
 bif q10
 then (some (.done (.inr 1)))
 else (some (.next (wr .i64 (x8+1)))))
 else (some (.done (.inl ())))
def a27 (t:Api_Type)(x2:Int):Option (Fl Int (Sum Unit Int)) :=
 bif decide (x2<(t.Nodes.length:Int))
 then (Option.bind (idx t.Nodes x2) fun e3 =>
 Option.bind (a5d e3) fun r4 =>
 Option.bind (bif !r4
 then (some true)
 else (Option.bind (a5i e3) fun r5 =>
 some (!r5))) fun q6 =>
 bif q6
 then (some (.done (.inr 1)))
 else (Option.bind (a7z e3) fun r7 =>
 Option.bind (z7 (a3g t r7) ((r7.length:Int).toNat+1) 0) fun b11 =>
 j9 (fun _ =>
 some (.next (wr .i64 (x2+1)))) (fun y13 =>
 some (.done (.inr y13))) b11))
 else (some (.done (.inl ())))
def a0o (n:Nat)(t:Api_Type):Option Int :=
 Option.bind (bif decide (t.Root<0)
 then (some true)
 else (some (decide ((t.Nodes.length:Int)<=t.Root)))) fun q1 =>
 bif q1
 then (some 1)
 else (Option.bind (z7 (a27 t) ((t.Nodes.length:Int).toNat+1) 0) fun b14 =>
 j9 (fun _ =>
 Option.bind (a4f n t) fun r17 =>
 bif !r17
 then (some 3)
 else (some 0)) (fun y16 =>
 some y16) b14)
def a1I (s:List Int)(f:Int->Option Bool)(x1:Int):Option (Fl Int (Sum Unit Int)) :=
 bif decide (x1<(s.length:Int))
 then (Option.bind (idx s x1) fun e2 =>
 Option.bind (f e2) fun r3 =>
 bif r3
 then (some (.done (.inr x1)))
 else (some (.next (wr .i64 (x1+1)))))
 else (some (.done (.inl ())))
def a4E (s:List Int)(f:Int->Option Bool):Option Int :=
 Option.bind (z7 (a1I s f) ((s.length:Int).toNat+1) 0) fun b4 =>
 j9 (fun _ =>
 some (-1)) (fun y6 =>
 some y6) b4
def Y0 (s:List Int)(f:Int->Option Bool):Option Bool :=
 Option.bind (a4E s f) fun r1 =>
 some (decide (0<=r1))
def b0N (i:Int)(a1_1:Api_Type):Option Bool :=
 Option.bind (bif decide (i<0)
 then (some true)
 else (some (decide ((a1_1.Nodes.length:Int)<=i)))) fun q1 =>
 Option.bind (bif q1
 then (some true)
 else (Option.bind (idx a1_1.Nodes i) fun e2 =>
 some (e2.Kind != 13))) fun q3 =>
 some q3
def a7K (t:Api_Type)(nodes:List Int):Option Bool :=
 Option.bind (Y0 nodes (fun z1 =>
 Option.bind (b0N z1 t) fun r2 =>
 some r2)) fun r3 =>
 some (!r3)
def K5 (x1:(List Key)×Int)(x16:(Int×Int)×List Key):Option (Fl ((Int×Int)×List Key) (Int×List Key)) :=
 bif decide (x16.1.2<((x16.2.drop x1.2.toNat).length:Int))
 then (Option.bind (idx (x16.2.drop x1.2.toNat) x16.1.2) fun _ =>
 Option.bind (x16.2[(x1.2.toNat+x16.1.2.toNat)]?) fun e18 =>
 Option.bind (idx (x16.2.drop x1.2.toNat) (wr .i64 (x16.1.2-1))) fun _ =>
 Option.bind (x16.2[(x1.2.toNat+(wr .i64 (x16.1.2-1)).toNat)]?) fun e20 =>
 bif !(a3P e18 e20)
 then (Option.bind (idx (x16.2.drop x1.2.toNat) x16.1.2) fun _ =>
 Option.bind (x16.2[(x1.2.toNat+x16.1.2.toNat)]?) fun e22 =>
 Option.bind (idx x16.2 x16.1.1) fun _ =>
 Option.bind (x16.2[x16.1.1.toNat]?) fun _ =>
 some (.next ((wr .i64 (x16.1.1+1),wr .i64 (x16.1.2+1)),x16.2.set x16.1.1.toNat e22)))
 else (some (.next ((x16.1.1,wr .i64 (x16.1.2+1)),x16.2))))
 else (some (.done (x16.1.1,x16.2)))
def X1 (x1:(List Key)×Int):Option (Fl ((List Key)×Int) (Sum (List Key) (List Key))) :=
 bif decide (x1.2<(x1.1.length:Int))
 then (Option.bind (idx x1.1 x1.2) fun _ =>
 Option.bind (x1.1[x1.2.toNat]?) fun e3 =>
 Option.bind (idx x1.1 (wr .i64 (x1.2-1))) fun _ =>
 Option.bind (x1.1[(wr .i64 (x1.2-1)).toNat]?) fun e5 =>
 bif a3P e3 e5
 then (Option.bind (idx x1.1 x1.2) fun _ =>
 Option.bind (z7 (K5 x1) (((x1.1.drop x1.2.toNat).length:Int).toNat+1) ((x1.2,1),x1.1)) fun b25 =>
 Option.bind (idx b25.2 b25.1) fun _ =>
 bif Nat.blt b25.1.toNat b25.2.length
 then (Option.bind (cut (b25.2.take b25.1.toNat++List.replicate (b25.2.length-b25.1.toNat) (Key.mk 0 (⟨#[]⟩:ByteArray):Key)) 0 b25.1) fun y27 =>
 some (.done (.inr y27)))
 else (none))
 else (some (.next (x1.1,wr .i64 (x1.2+1)))))
 else (some (.done (.inl x1.1)))
def a07 (s:List Key):Option (List Key) :=
 bif decide ((s.length:Int)<2)
 then (some s)
 else (Option.bind (z7 X1 ((s.length:Int).toNat+1) (s,1)) fun b28 =>
 j9 (fun x29 =>
 some x29) (fun y30 =>
 some y30) b28)
def a3q (s:List Key):Option (List Key) :=
 bif (s.length:Int)==(s.length:Int)&&(s.length:Int)==(s.length:Int)
 then (some s)
 else (none)
noncomputable def a4u (e3:Api_TypeNode)(x4:(List Key)×Int):Option (Fl ((List Key)×Int) (List Key)) :=
 bif decide (x4.2<(e3.Fields.length:Int))
 then (Option.bind (idx e3.Fields x4.2) fun e5 =>
 Option.bind (Z4 (x4.1.length+([e5.Key_]:List Key).length) 24) fun _ =>
 some (.next (x4.1++([e5.Key_]:List Key),wr .i64 (x4.2+1))))
 else (some (.done x4.1))
noncomputable def a4v (t:Api_Type)(nodes:List Int)(x1:(List Key)×Int):Option (Fl ((List Key)×Int) (List Key)) :=
 bif decide (x1.2<(nodes.length:Int))
 then (Option.bind (idx nodes x1.2) fun e2 =>
 Option.bind (idx t.Nodes e2) fun e3 =>
 Option.bind (z7 (a4u e3) ((e3.Fields.length:Int).toNat+1) (x1.1,0)) fun b7 =>
 some (.next (b7,wr .i64 (x1.2+1))))
 else (some (.done x1.1))
noncomputable def a44 (t:Api_Type)(nodes:List Int):Option (List Key) :=
 Option.bind (z7 (a4v t nodes) ((nodes.length:Int).toNat+1) ([],0)) fun b8 =>
 Option.bind (b5u b8 (fun z9 z10 =>
 Option.bind (K3 z9 z10) fun r11 =>
 some r11)) fun r12 =>
 Option.bind (a07 r12.2) fun r13 =>
 Option.bind (a3q r13) fun r14 =>
 some r14
def b1q (n_0:Api_TypeNode)(k:Key)(x1:Int):Option (Fl Int (Sum Unit Int)) :=
 bif decide (x1<(n_0.Fields.length:Int))
 then (Option.bind (idx n_0.Fields x1) fun e2 =>
 bif a3P e2.Key_ k
 then (some (.done (.inr e2.Node)))
 else (some (.next (wr .i64 (x1+1)))))
 else (some (.done (.inl ())))
def a7q (n_0:Api_TypeNode)(k:Key):Option Int :=
 Option.bind (z7 (b1q n_0 k) ((n_0.Fields.length:Int).toNat+1) 0) fun b3 =>
 j9 (fun _ =>
 bif k.Kind==0
 then (some n_0.Rest.1)
 else (bif k.Kind==1
 then (some n_0.Rest.2)
 else (none))) (fun y5 =>
 some y5) b3
def a18 (n_0:Api_TypeNode)(k:Key)(x1:Int):Option (Fl Int (Sum Unit Bool)) :=
 bif decide (x1<(n_0.Fields.length:Int))
 then (Option.bind (idx n_0.Fields x1) fun e2 =>
 bif a3P e2.Key_ k
 then (some (.done (.inr (!e2.Optional))))
 else (some (.next (wr .i64 (x1+1)))))
 else (some (.done (.inl ())))
def a3K (n_0:Api_TypeNode)(k:Key):Option Bool :=
 Option.bind (z7 (a18 n_0 k) ((n_0.Fields.length:Int).toNat+1) 0) fun b3 =>
 j9 (fun _ =>
 some false) (fun y5 =>
 some y5) b3
def a0k (x1:(List Int)×Int)(x16:(Int×Int)×List Int):Option (Fl ((Int×Int)×List Int) (Int×List Int)) :=
 bif decide (x16.1.2<((x16.2.drop x1.2.toNat).length:Int))
 then (Option.bind (idx (x16.2.drop x1.2.toNat) x16.1.2) fun _ =>
 Option.bind (x16.2[(x1.2.toNat+x16.1.2.toNat)]?) fun e18 =>
 Option.bind (idx (x16.2.drop x1.2.toNat) (wr .i64 (x16.1.2-1))) fun _ =>
 Option.bind (x16.2[(x1.2.toNat+(wr .i64 (x16.1.2-1)).toNat)]?) fun e20 =>
 bif e18 != e20
 then (Option.bind (idx (x16.2.drop x1.2.toNat) x16.1.2) fun _ =>
 Option.bind (x16.2[(x1.2.toNat+x16.1.2.toNat)]?) fun e22 =>
 Option.bind (idx x16.2 x16.1.1) fun _ =>
 Option.bind (x16.2[x16.1.1.toNat]?) fun _ =>
 some (.next ((wr .i64 (x16.1.1+1),wr .i64 (x16.1.2+1)),x16.2.set x16.1.1.toNat e22)))
 else (some (.next ((x16.1.1,wr .i64 (x16.1.2+1)),x16.2))))
 else (some (.done (x16.1.1,x16.2)))
def a1b (x1:(List Int)×Int):Option (Fl ((List Int)×Int) (Sum (List Int) (List Int))) :=
 bif decide (x1.2<(x1.1.length:Int))
 then (Option.bind (idx x1.1 x1.2) fun _ =>
 Option.bind (x1.1[x1.2.toNat]?) fun e3 =>
 Option.bind (idx x1.1 (wr .i64 (x1.2-1))) fun _ =>
 Option.bind (x1.1[(wr .i64 (x1.2-1)).toNat]?) fun e5 =>
 bif e3==e5
 then (Option.bind (idx x1.1 x1.2) fun _ =>
 Option.bind (z7 (a0k x1) (((x1.1.drop x1.2.toNat).length:Int).toNat+1) ((x1.2,1),x1.1)) fun b25 =>
 Option.bind (idx b25.2 b25.1) fun _ =>
 bif Nat.blt b25.1.toNat b25.2.length
 then (Option.bind (cut (b25.2.take b25.1.toNat++List.replicate (b25.2.length-b25.1.toNat) (0:Int)) 0 b25.1) fun y27 =>
 some (.done (.inr y27)))
 else (none))
 else (some (.next (x1.1,wr .i64 (x1.2+1)))))
 else (some (.done (.inl x1.1)))
def a3m (s:List Int):Option (List Int) :=
 bif decide ((s.length:Int)<2)
 then (some s)
 else (Option.bind (z7 a1b ((s.length:Int).toNat+1) (s,1)) fun b28 =>
 j9 (fun x29 =>
 some x29) (fun y30 =>
 some y30) b28)
def a6F (s:List Int):Option (List Int) :=
 bif (s.length:Int)==(s.length:Int)&&(s.length:Int)==(s.length:Int)
 then (some s)
 else (none)
def a7P (l:List Int):Option (List Int) :=
 Option.bind (a0U 8 l) fun r1 =>
 Option.bind (c1I r1) fun r2 =>
 Option.bind (a3m r2.2) fun r3 =>
 Option.bind (a6F r3) fun r4 =>
 some r4
def a6y (g:Api_Goal):Option Api_Goal :=
 Option.bind (a7P g.Pos) fun r1 =>
 Option.bind (a7P g.Neg) fun r2 =>
 some (Api_Goal.mk r1 r2 g.Lists)
def a2O (s:List Int)(v:Int)(x1:Int):Option (Fl Int (Sum Unit Int)) :=
 bif decide (x1<(s.length:Int))
 then (Option.bind (idx s x1) fun e2 =>
 bif v==e2
 then (some (.done (.inr x1)))
 else (some (.next (wr .i64 (x1+1)))))
 else (some (.done (.inl ())))
def a6i (s:List Int)(v:Int):Option Int :=
 Option.bind (z7 (a2O s v) ((s.length:Int).toNat+1) 0) fun b3 =>
 j9 (fun _ =>
 some (-1)) (fun y5 =>
 some y5) b3
def a0I (s:List Int)(v:Int):Option Bool :=
 Option.bind (a6i s v) fun r1 =>
 some (decide (0<=r1))
def a87 (x:Int)(a1_1:List Int):Option Bool :=
 Option.bind (a0I a1_1 x) fun r1 =>
 some r1
def a72 (a:List Int)(b:List Int):Option Bool :=
 Option.bind (Y0 a (fun z1 =>
 Option.bind (a87 z1 b) fun r2 =>
 some r2)) fun r3 =>
 some r3
def a3R (d:Api_Type)(t:Api_Line)(a3_3:Key)(x1:Int×Int×((List Int)×(List Int)×Bool)):Option (Fl (Int×Int×((List Int)×(List Int)×Bool)) (Int×((List Int)×(List Int)×Bool))) :=
 bif decide (x1.2.1<(t.Pos.length:Int))
 then (Option.bind (idx t.Pos x1.2.1) fun e2 =>
 Option.bind (idx d.Nodes e2) fun e3 =>
 Option.bind (a7q e3 a3_3) fun r4 =>
 Option.bind (Z4 (x1.2.2.1.length+([r4]:List Int).length) 8) fun _ =>
 Option.bind (idx d.Nodes e2) fun e6 =>
 Option.bind (a3K e6 a3_3) fun r7 =>
 bif r7
 then (some (.next (1,wr .i64 (x1.2.1+1),(x1.2.2.1++([r4]:List Int),x1.2.2.2.1,x1.2.2.2.2))))
 else (some (.next (x1.1,wr .i64 (x1.2.1+1),(x1.2.2.1++([r4]:List Int),x1.2.2.2.1,x1.2.2.2.2)))))
 else (some (.done (x1.1,(x1.2.2.1,x1.2.2.2.1,x1.2.2.2.2))))
def a3Q (d:Api_Type)(t:Api_Line)(a2_2:Int)(a3_3:Key)(a4_4:List Record_place)(x9:Int×Bool×Int×((List Int)×(List Int)×Bool)):Option (Fl (Int×Bool×Int×((List Int)×(List Int)×Bool)) (Int×Bool×((List Int)×(List Int)×Bool))) :=
 bif decide (x9.2.2.1<(a4_4.length:Int))
 then (Option.bind (idx a4_4 x9.2.2.1) fun _ =>
 Option.bind (a4_4[x9.2.2.1.toNat]?) fun e11 =>
 bif e11.key != a2_2
 then (some (.next (x9.1,x9.2.1,wr .i64 (x9.2.2.1+1),(x9.2.2.2.1,x9.2.2.2.2.1,x9.2.2.2.2.2))))
 else (bif e11.absent
 then (some (.next (x9.1,true,wr .i64 (x9.2.2.1+1),(x9.2.2.2.1,x9.2.2.2.2.1,x9.2.2.2.2.2))))
 else (Option.bind (idx t.Neg x9.2.2.1) fun e12 =>
 Option.bind (idx d.Nodes e12) fun e13 =>
 Option.bind (a7q e13 a3_3) fun r14 =>
 Option.bind (Z4 (x9.2.2.2.2.1.length+([r14]:List Int).length) 8) fun _ =>
 some (.next (1,x9.2.1,wr .i64 (x9.2.2.1+1),(x9.2.2.2.1,x9.2.2.2.2.1++([r14]:List Int),x9.2.2.2.2.2))))))
 else (some (.done (x9.1,x9.2.1,(x9.2.2.2.1,x9.2.2.2.2.1,x9.2.2.2.2.2))))
def a7t (d:Api_Type)(t:Api_Line)(a2_2:Int)(a3_3:Key)(a4_4:List Record_place):Option (Int×Api_Goal×Bool) :=
 Option.bind (z7 (a3R d t a3_3) ((t.Pos.length:Int).toNat+1) (2,0,([],[],false))) fun b8 =>
 Option.bind (z7 (a3Q d t a2_2 a3_3 a4_4) ((a4_4.length:Int).toNat+1) (b8.1,false,0,(b8.2.1,b8.2.2.1,b8.2.2.2))) fun b16 =>
 bif b16.2.1
 then (some (0,Api_Goal.mk ([]:List Int) ([]:List Int) false,b16.1==2))
 else (Option.bind (a6y (Api_Goal.mk b16.2.2.1 b16.2.2.2.1 b16.2.2.2.2)) fun r17 =>
 Option.bind (a72 b16.2.2.1 b16.2.2.2.1) fun r18 =>
 some (b16.1,r17,!r18))
def a3r (d:Api_Type)(t:Api_Line)(a2_2:List Key)(a3_3:List Record_place)(x2:Int×((List Key)×(List Int)×(List Api_Goal)×(List Int)×(List Int)×Bool×(List Int)×(List Int)×Bool×(List Api_SomeKey))×((List Key)×(List Int)×(List Api_Goal)×(List Int)×(List Int)×Bool×(List Int)×(List Int)×Bool×(List Api_SomeKey))):Option (Fl (Int×((List Key)×(List Int)×(List Api_Goal)×(List Int)×(List Int)×Bool×(List Int)×(List Int)×Bool×(List Api_SomeKey))×((List Key)×(List Int)×(List Api_Goal)×(List Int)×(List Int)×Bool×(List Int)×(List Int)×Bool×(List Api_SomeKey))) (Sum (((List Key)×(List Int)×(List Api_Goal)×(List Int)×(List Int)×Bool×(List Int)×(List Int)×Bool×(List Api_SomeKey))×((List Key)×(List Int)×(List Api_Goal)×(List Int)×(List Int)×Bool×(List Int)×(List Int)×Bool×(List Api_SomeKey))) (Bool×((List Key)×(List Int)×(List Api_Goal)×(List Int)×(List Int)×Bool×(List Int)×(List Int)×Bool×(List Api_SomeKey))×((List Key)×(List Int)×(List Api_Goal)×(List Int)×(List Int)×Bool×(List Int)×(List Int)×Bool×(List Api_SomeKey))))) :=
 bif decide (x2.1<(a2_2.length:Int))
 then (Option.bind (idx a2_2 x2.1) fun e3 =>
 Option.bind (a7t d t x2.1 e3 a3_3) fun r4 =>
 bif !r4.2.2
 then (some (.done (.inr (false,(x2.2.2.1,x2.2.2.2.1,x2.2.2.2.2.1,x2.2.2.2.2.2.1,x2.2.2.2.2.2.2.1,x2.2.2.2.2.2.2.2.1,x2.2.2.2.2.2.2.2.2.1,x2.2.2.2.2.2.2.2.2.2.1,x2.2.2.2.2.2.2.2.2.2.2.1,x2.2.2.2.2.2.2.2.2.2.2.2),(x2.2.2.1,x2.2.2.2.1,x2.2.2.2.2.1,x2.2.2.2.2.2.1,x2.2.2.2.2.2.2.1,x2.2.2.2.2.2.2.2.1,x2.2.2.2.2.2.2.2.2.1,x2.2.2.2.2.2.2.2.2.2.1,x2.2.2.2.2.2.2.2.2.2.2.1,x2.2.2.2.2.2.2.2.2.2.2.2)))))
 else (Option.bind (Z4 (x2.2.2.2.1.length+([r4.1]:List Int).length) 8) fun _ =>
 Option.bind (Z4 (x2.2.2.2.2.1.length+([r4.2.1]:List Api_Goal).length) 56) fun _ =>
 some (.next (wr .i64 (x2.1+1),(x2.2.1.1,x2.2.1.2.1,x2.2.1.2.2.1,x2.2.1.2.2.2.1,x2.2.1.2.2.2.2.1,x2.2.1.2.2.2.2.2.1,x2.2.1.2.2.2.2.2.2.1,x2.2.1.2.2.2.2.2.2.2.1,x2.2.1.2.2.2.2.2.2.2.2.1,x2.2.1.2.2.2.2.2.2.2.2.2),(x2.2.2.1,x2.2.2.2.1++([r4.1]:List Int),x2.2.2.2.2.1++([r4.2.1]:List Api_Goal),x2.2.2.2.2.2.1,x2.2.2.2.2.2.2.1,x2.2.2.2.2.2.2.2.1,x2.2.2.2.2.2.2.2.2.1,x2.2.2.2.2.2.2.2.2.2.1,x2.2.2.2.2.2.2.2.2.2.2.1,x2.2.2.2.2.2.2.2.2.2.2.2)))))
 else (some (.done (.inl ((x2.2.1.1,x2.2.1.2.1,x2.2.1.2.2.1,x2.2.1.2.2.2.1,x2.2.1.2.2.2.2.1,x2.2.1.2.2.2.2.2.1,x2.2.1.2.2.2.2.2.2.1,x2.2.1.2.2.2.2.2.2.2.1,x2.2.1.2.2.2.2.2.2.2.2.1,x2.2.1.2.2.2.2.2.2.2.2.2),(x2.2.2.1,x2.2.2.2.1,x2.2.2.2.2.1,x2.2.2.2.2.2.1,x2.2.2.2.2.2.2.1,x2.2.2.2.2.2.2.2.1,x2.2.2.2.2.2.2.2.2.1,x2.2.2.2.2.2.2.2.2.2.1,x2.2.2.2.2.2.2.2.2.2.2.1,x2.2.2.2.2.2.2.2.2.2.2.2)))))
def a3t (d:Api_Type)(t:Api_Line)(x10:Int×((List Key)×(List Int)×(List Api_Goal)×(List Int)×(List Int)×Bool×(List Int)×(List Int)×Bool×(List Api_SomeKey))):Option (Fl (Int×((List Key)×(List Int)×(List Api_Goal)×(List Int)×(List Int)×Bool×(List Int)×(List Int)×Bool×(List Api_SomeKey))) ((List Key)×(List Int)×(List Api_Goal)×(List Int)×(List Int)×Bool×(List Int)×(List Int)×Bool×(List Api_SomeKey))) :=
 bif decide (x10.1<(t.Pos.length:Int))
 then (Option.bind (idx t.Pos x10.1) fun e11 =>
 Option.bind (idx d.Nodes e11) fun e12 =>
 Option.bind (Z4 (x10.2.2.2.2.1.length+([e12.Rest.1]:List Int).length) 8) fun _ =>
 Option.bind (idx d.Nodes e11) fun e14 =>
 Option.bind (Z4 (x10.2.2.2.2.2.2.2.1.length+([e14.Rest.2]:List Int).length) 8) fun _ =>
 some (.next (wr .i64 (x10.1+1),(x10.2.1,x10.2.2.1,x10.2.2.2.1,x10.2.2.2.2.1++([e12.Rest.1]:List Int),x10.2.2.2.2.2.1,x10.2.2.2.2.2.2.1,x10.2.2.2.2.2.2.2.1++([e14.Rest.2]:List Int),x10.2.2.2.2.2.2.2.2.1,x10.2.2.2.2.2.2.2.2.2.1,x10.2.2.2.2.2.2.2.2.2.2))))
 else (some (.done (x10.2.1,x10.2.2.1,x10.2.2.2.1,x10.2.2.2.2.1,x10.2.2.2.2.2.1,x10.2.2.2.2.2.2.1,x10.2.2.2.2.2.2.2.1,x10.2.2.2.2.2.2.2.2.1,x10.2.2.2.2.2.2.2.2.2.1,x10.2.2.2.2.2.2.2.2.2.2)))
def a3x (d:Api_Type)(t:Api_Line)(a3_3:List Record_place)(x19:Int×Api_Shape×((List Key)×(List Int)×(List Api_Goal)×(List Int)×(List Int)×Bool×(List Int)×(List Int)×Bool×(List Api_SomeKey))):Option (Fl (Int×Api_Shape×((List Key)×(List Int)×(List Api_Goal)×(List Int)×(List Int)×Bool×(List Int)×(List Int)×Bool×(List Api_SomeKey))) (Sum (Api_Shape×((List Key)×(List Int)×(List Api_Goal)×(List Int)×(List Int)×Bool×(List Int)×(List Int)×Bool×(List Api_SomeKey))) (Bool×Api_Shape×((List Key)×(List Int)×(List Api_Goal)×(List Int)×(List Int)×Bool×(List Int)×(List Int)×Bool×(List Api_SomeKey))))) :=
 bif decide (x19.1<(a3_3.length:Int))
 then (Option.bind (idx a3_3 x19.1) fun _ =>
 Option.bind (a3_3[x19.1.toNat]?) fun e21 =>
 bif decide (0<=e21.key)
 then (some (.next (wr .i64 (x19.1+1),x19.2.1,(x19.2.2.1,x19.2.2.2.1,x19.2.2.2.2.1,x19.2.2.2.2.2.1,x19.2.2.2.2.2.2.1,x19.2.2.2.2.2.2.2.1,x19.2.2.2.2.2.2.2.2.1,x19.2.2.2.2.2.2.2.2.2.1,x19.2.2.2.2.2.2.2.2.2.2.1,x19.2.2.2.2.2.2.2.2.2.2.2))))
 else (Option.bind (Option.bind (idx t.Neg x19.1) fun e22 =>
 Option.bind (idx d.Nodes e22) fun e23 =>
 bif e21.kind==0
 then (some e23.Rest.1)
 else (bif e21.kind==1
 then (some e23.Rest.2)
 else (none))) fun b24 =>
 Option.bind (bif e21.kind==0
 then (Option.bind (a0I x19.2.2.2.2.2.1 b24) fun r25 =>
 some r25)
 else (bif e21.kind==1
 then (Option.bind (a0I x19.2.2.2.2.2.2.2.2.1 b24) fun r26 =>
 some r26)
 else (none))) fun b27 =>
 bif b27
 then (some (.done (.inr (false,Api_Shape.mk x19.2.2.1 x19.2.2.2.1 x19.2.2.2.2.1 (Api_Goal.mk x19.2.2.2.2.2.1 x19.2.2.2.2.2.2.1 x19.2.2.2.2.2.2.2.1,Api_Goal.mk x19.2.2.2.2.2.2.2.2.1 x19.2.2.2.2.2.2.2.2.2.1 x19.2.2.2.2.2.2.2.2.2.2.1) x19.2.2.2.2.2.2.2.2.2.2.2,(x19.2.2.1,x19.2.2.2.1,x19.2.2.2.2.1,x19.2.2.2.2.2.1,x19.2.2.2.2.2.2.1,x19.2.2.2.2.2.2.2.1,x19.2.2.2.2.2.2.2.2.1,x19.2.2.2.2.2.2.2.2.2.1,x19.2.2.2.2.2.2.2.2.2.2.1,x19.2.2.2.2.2.2.2.2.2.2.2)))))
 else (Option.bind (Z4 (x19.2.2.2.2.2.2.2.2.2.2.2.length+([Api_SomeKey.mk e21.kind (Api_Goal.mk ([]:List Int) ([b24]:List Int) false)]:List Api_SomeKey).length) 64) fun _ =>
 some (.next (wr .i64 (x19.1+1),x19.2.1,(x19.2.2.1,x19.2.2.2.1,x19.2.2.2.2.1,x19.2.2.2.2.2.1,x19.2.2.2.2.2.2.1,x19.2.2.2.2.2.2.2.1,x19.2.2.2.2.2.2.2.2.1,x19.2.2.2.2.2.2.2.2.2.1,x19.2.2.2.2.2.2.2.2.2.2.1,x19.2.2.2.2.2.2.2.2.2.2.2++([Api_SomeKey.mk e21.kind (Api_Goal.mk ([]:List Int) ([b24]:List Int) false)]:List Api_SomeKey)))))))
 else (some (.done (.inl (x19.2.1,(x19.2.2.1,x19.2.2.2.1,x19.2.2.2.2.1,x19.2.2.2.2.2.1,x19.2.2.2.2.2.2.1,x19.2.2.2.2.2.2.2.1,x19.2.2.2.2.2.2.2.2.1,x19.2.2.2.2.2.2.2.2.2.1,x19.2.2.2.2.2.2.2.2.2.2.1,x19.2.2.2.2.2.2.2.2.2.2.2)))))
def a89 (d:Api_Type)(t:Api_Line)(a2_2:List Key)(a3_3:List Record_place):Option (Api_Shape×Bool) :=
 Option.bind (a0U 24 a2_2) fun r1 =>
 Option.bind (z7 (a3r d t a2_2 a3_3) ((a2_2.length:Int).toNat+1) (0,(([]:List Key),([]:List Int),([]:List Api_Goal),([]:List Int),([]:List Int),false,([]:List Int),([]:List Int),false,([]:List Api_SomeKey)),(r1,[],[],[],[],false,[],[],false,[]))) fun (b7:Sum (((List Key)×(List Int)×(List Api_Goal)×(List Int)×(List Int)×Bool×(List Int)×(List Int)×Bool×(List Api_SomeKey))×((List Key)×(List Int)×(List Api_Goal)×(List Int)×(List Int)×Bool×(List Int)×(List Int)×Bool×(List Api_SomeKey))) (Bool×((List Key)×(List Int)×(List Api_Goal)×(List Int)×(List Int)×Bool×(List Int)×(List Int)×Bool×(List Api_SomeKey))×((List Key)×(List Int)×(List Api_Goal)×(List Int)×(List Int)×Bool×(List Int)×(List Int)×Bool×(List Api_SomeKey)))) =>
 j9 (fun x8 =>
 Option.bind (z7 (a3t d t) ((t.Pos.length:Int).toNat+1) (0,(x8.2.1,x8.2.2.1,x8.2.2.2.1,x8.2.2.2.2.1,x8.2.2.2.2.2.1,x8.2.2.2.2.2.2.1,x8.2.2.2.2.2.2.2.1,x8.2.2.2.2.2.2.2.2.1,x8.2.2.2.2.2.2.2.2.2.1,x8.2.2.2.2.2.2.2.2.2.2))) fun b16 =>
 Option.bind (a6y (Api_Goal.mk b16.2.2.2.1 b16.2.2.2.2.1 b16.2.2.2.2.2.1)) fun r17 =>
 Option.bind (a6y (Api_Goal.mk b16.2.2.2.2.2.2.1 b16.2.2.2.2.2.2.2.1 b16.2.2.2.2.2.2.2.2.1)) fun r18 =>
 Option.bind (z7 (a3x d t a3_3) ((a3_3.length:Int).toNat+1) (0,Api_Shape.mk x8.1.1 x8.1.2.1 x8.1.2.2.1 (Api_Goal.mk x8.1.2.2.2.1 x8.1.2.2.2.2.1 x8.1.2.2.2.2.2.1,Api_Goal.mk x8.1.2.2.2.2.2.2.1 x8.1.2.2.2.2.2.2.2.1 x8.1.2.2.2.2.2.2.2.2.1) x8.1.2.2.2.2.2.2.2.2.2,(b16.1,b16.2.1,b16.2.2.1,r17.Pos,r17.Neg,r17.Lists,r18.Pos,r18.Neg,r18.Lists,b16.2.2.2.2.2.2.2.2.2))) fun (b29:Sum (Api_Shape×((List Key)×(List Int)×(List Api_Goal)×(List Int)×(List Int)×Bool×(List Int)×(List Int)×Bool×(List Api_SomeKey))) (Bool×Api_Shape×((List Key)×(List Int)×(List Api_Goal)×(List Int)×(List Int)×Bool×(List Int)×(List Int)×Bool×(List Api_SomeKey)))) =>
 j9 (fun x30 =>
 some (Api_Shape.mk x30.2.1 x30.2.2.1 x30.2.2.2.1 (Api_Goal.mk x30.2.2.2.2.1 x30.2.2.2.2.2.1 x30.2.2.2.2.2.2.1,Api_Goal.mk x30.2.2.2.2.2.2.2.1 x30.2.2.2.2.2.2.2.2.1 x30.2.2.2.2.2.2.2.2.2.1) x30.2.2.2.2.2.2.2.2.2.2,true)) (fun y31 =>
 some (y31.2.1,y31.1)) b29) (fun y9 =>
 some (Api_Shape.mk y9.2.1.1 y9.2.1.2.1 y9.2.1.2.2.1 (Api_Goal.mk y9.2.1.2.2.2.1 y9.2.1.2.2.2.2.1 y9.2.1.2.2.2.2.2.1,Api_Goal.mk y9.2.1.2.2.2.2.2.2.1 y9.2.1.2.2.2.2.2.2.2.1 y9.2.1.2.2.2.2.2.2.2.2.1) y9.2.1.2.2.2.2.2.2.2.2.2,y9.1)) b7
def a1c (i:Int)(a1_1:Api_Type):Option Bool :=
 Option.bind (idx a1_1.Nodes i) fun e1 =>
 some (e1.Kind==2)
def a0O (t:Api_Type)(n_1:Api_TypeNode)(keys:List Key)(x1:(List Record_place)×Int):Option (Fl ((List Record_place)×Int) (List Record_place)) :=
 bif decide (x1.2<(keys.length:Int))
 then (Option.bind (idx keys x1.2) fun e2 =>
 Option.bind (a7q n_1 e2) fun r3 =>
 Option.bind (a1c r3 t) fun r4 =>
 Option.bind (bif !r4
 then (Option.bind (Z4 (x1.1.length+([Record_place.mk x1.2 false 0]:List Record_place).length) 24) fun _ =>
 some (x1.1++([Record_place.mk x1.2 false 0]:List Record_place)))
 else (some x1.1)) fun b6 =>
 Option.bind (a3K n_1 e2) fun r7 =>
 bif r7
 then (Option.bind (Z4 (b6.length+([Record_place.mk x1.2 true 0]:List Record_place).length) 24) fun _ =>
 some (.next (b6++([Record_place.mk x1.2 true 0]:List Record_place),wr .i64 (x1.2+1))))
 else (some (.next (b6,wr .i64 (x1.2+1)))))
 else (some (.done x1.1))
def a0i (t:Api_Type)(n_1:Api_TypeNode)(x10:(List Record_place)×Int):Option (Fl ((List Record_place)×Int) (List Record_place)) :=
 bif decide (x10.2<2)
 then (Option.bind (bif x10.2==0
 then (some (x10.2,n_1.Rest.1))
 else (bif x10.2==1
 then (some (x10.2,n_1.Rest.2))
 else (none))) fun b11 =>
 Option.bind (a1c b11.2 t) fun r12 =>
 bif !r12
 then (Option.bind (Z4 (x10.1.length+([Record_place.mk (-1) false b11.1]:List Record_place).length) 24) fun _ =>
 some (.next (x10.1++([Record_place.mk (-1) false b11.1]:List Record_place),wr .i64 (x10.2+1))))
 else (some (.next (x10.1,wr .i64 (x10.2+1)))))
 else (some (.done x10.1))
def a47 (t:Api_Type)(n_1:Api_TypeNode)(keys:List Key):Option (List Record_place) :=
 Option.bind (z7 (a0O t n_1 keys) ((keys.length:Int).toNat+1) ([],0)) fun b9 =>
 Option.bind (z7 (a0i t n_1) ((2:Int).toNat+1) (b9,0)) fun b14 =>
 some b14
def a3n (k:Int)(a1_1:Api_Line)(a2_2:Api_Type)(a3_3:List Key)(r6:List Record_place)(rec_record_Shapes_1:Int->Api_Line->Api_Type->(List Key)->(List Record_place)->(List Api_Shape)->Unit->Option ((List Record_place)×(List Api_Shape)))(x7:(List Record_place)×Int×(List Record_place)×(List Api_Shape)):Option (Fl ((List Record_place)×Int×(List Record_place)×(List Api_Shape)) ((List Record_place)×(List Record_place)×(List Api_Shape))) :=
 bif decide (x7.2.1<(r6.length:Int))
 then (Option.bind (idx x7.1 x7.2.1) fun _ =>
 Option.bind (x7.1[x7.2.1.toNat]?) fun e9 =>
 Option.bind (idx x7.2.2.1 k) fun _ =>
 Option.bind (x7.2.2.1[k.toNat]?) fun _ =>
 Option.bind (rec_record_Shapes_1 (wr .i64 (k+1)) a1_1 a2_2 a3_3 (x7.2.2.1.set k.toNat e9) x7.2.2.2 ()) fun r12 =>
 some (.next (x7.1,wr .i64 (x7.2.1+1),r12.1,r12.2)))
 else (some (.done (x7.1,x7.2.2.1,x7.2.2.2)))
def a30 (_:Nat)(rec_record_Shapes_1:Int->Api_Line->Api_Type->(List Key)->(List Record_place)->(List Api_Shape)->Unit->Option ((List Record_place)×(List Api_Shape)))(k:Int)(a1_1:Api_Line)(a2_2:Api_Type)(a3_3:List Key)(a4_4:List Record_place)(a5_5:List Api_Shape)(_:Unit):Option ((List Record_place)×(List Api_Shape)) :=
 bif k==(a1_1.Neg.length:Int)
 then (Option.bind (a89 a2_2 a1_1 a3_3 a4_4) fun r1 =>
 Option.bind (bif r1.2
 then (Option.bind (Z4 (a5_5.length+([r1.1]:List Api_Shape).length) 208) fun _ =>
 some (a5_5++([r1.1]:List Api_Shape)))
 else (some a5_5)) fun b3 =>
 some (a4_4,b3))
 else (Option.bind (idx a1_1.Neg k) fun e4 =>
 Option.bind (idx a2_2.Nodes e4) fun e5 =>
 Option.bind (a47 a2_2 e5 a3_3) fun r6 =>
 Option.bind (z7 (a3n k a1_1 a2_2 a3_3 r6 rec_record_Shapes_1) ((r6.length:Int).toNat+1) (r6,0,a4_4,a5_5)) fun b13 =>
 some (b13.2.1,b13.2.2))
def a0E:Nat->Int->Api_Line->Api_Type->(List Key)->(List Record_place)->(List Api_Shape)->Unit->Option ((List Record_place)×(List Api_Shape))
 | 0=>fun _ _ _ _ _ _ _=>none
 | n+1=>a30 n (a0E n)
noncomputable def a3D (n:Nat)(t:Api_Type)(l:Api_Line):Option ((List Api_Shape)×Int) :=
 bif l.Kind != 8
 then (some ([],9))
 else (Option.bind (a0o n t) fun r1 =>
 Option.bind (bif r1 != 0
 then (some true)
 else (Option.bind (a7K t l.Pos) fun r2 =>
 some (!r2))) fun q3 =>
 Option.bind (bif q3
 then (some true)
 else (Option.bind (a7K t l.Neg) fun r4 =>
 some (!r4))) fun q5 =>
 bif q5
 then (some ([],1))
 else (Option.bind (a0U 8 l.Pos) fun r6 =>
 Option.bind (Z4 (r6.length+l.Neg.length) 8) fun _ =>
 Option.bind (a44 t (r6++l.Neg)) fun r8 =>
 Option.bind (a6R (l.Neg.length:Int) (l.Neg.length:Int) 24) fun m9 =>
 Option.bind (a0E n 0 l t r8 (List.replicate m9 (Record_place.mk 0 false 0:Record_place)) ([]) ()) fun r10 =>
 some (r10.2,0)))
def X4:Option Val :=
 some (Val.mk 5 0 (⟨#[]⟩:ByteArray) ([]:List Val) ([]:List Key) ([]:List Ent) ([]:List ByteArray))
def a2E (c:Int):Option Bool :=
 Option.bind (bif decide (97<=c)
 then (some (decide (c<=122)))
 else (some false)) fun q1 =>
 some q1
def a31 (c:Int):Option Bool :=
 Option.bind (bif decide (48<=c)
 then (some (decide (c<=57)))
 else (some false)) fun q1 =>
 some q1
def a5V (s:ByteArray)(x5:Int):Option (Fl Int (Sum Unit Bool)) :=
 bif decide (x5<(s.size:Int))
 then (Option.bind (a6c s x5) fun e6 =>
 Option.bind (a2E (e6.toNat:Int)) fun r7 =>
 Option.bind (bif !r7
 then (Option.bind (a6c s x5) fun e8 =>
 Option.bind (a31 (e8.toNat:Int)) fun r9 =>
 some (!r9))
 else (some false)) fun q10 =>
 Option.bind (bif q10
 then (Option.bind (a6c s x5) fun e11 =>
 some ((e11.toNat:Int) != 95))
 else (some false)) fun q12 =>
 bif q12
 then (some (.done (.inr false)))
 else (some (.next (wr .i64 (x5+1)))))
 else (some (.done (.inl ())))
def a2b (s:ByteArray):Option Bool :=
 Option.bind (bif decide ((s.size:Int)<1)
 then (some true)
 else (some (decide (16<(s.size:Int))))) fun q1 =>
 Option.bind (bif q1
 then (some true)
 else (Option.bind (a6c s 0) fun e2 =>
 Option.bind (a2E (e2.toNat:Int)) fun r3 =>
 some (!r3))) fun q4 =>
 bif q4
 then (some false)
 else (Option.bind (z7 (a5V s) ((s.size:Int).toNat+1) 1) fun b13 =>
 j9 (fun _ =>
 some true) (fun y15 =>
 some y15) b13)
def a1v (k:Key):Option Bool :=
 Option.bind (bif k.Kind==0
 then (Option.bind (a2b k.Text) fun r1 =>
 some r1)
 else (some false)) fun q2 =>
 Option.bind (bif q2
 then (some true)
 else (Option.bind (bif k.Kind==1
 then (some (decide ((k.Text.size:Int)<=64)))
 else (some false)) fun q3 =>
 some q3)) fun q4 =>
 some q4
def a1l (l:List Val):Option (List Val) :=
 Option.bind (Z4 (0+l.length) 128) fun _ =>
 some l
def a2J (a:Int)(b:Int):Option Int :=
 bif decide (a<b)
 then (some (-1))
 else (bif decide (b<a)
 then (some 1)
 else (some 0))
def a1m (a:ByteArray)(b:ByteArray):Option Int :=
 bif a2S a b
 then (some (-1))
 else (bif !(a2S a b||Q4 a b)
 then (some 1)
 else (some 0))
def J5 (a:Key)(b:Key):Option Int :=
 bif a.Kind != b.Kind
 then (Option.bind (a2J a.Kind b.Kind) fun r1 =>
 some r1)
 else (Option.bind (a1m a.Text b.Text) fun r2 =>
 some r2)
def a2j (d:List Key)(x1:Int×(Int×Int×ByteArray×(List Val)×(List Key)×(List Ent)×(List ByteArray))):Option (Fl (Int×(Int×Int×ByteArray×(List Val)×(List Key)×(List Ent)×(List ByteArray))) (Sum (Int×Int×ByteArray×(List Val)×(List Key)×(List Ent)×(List ByteArray)) (Int×(Int×Int×ByteArray×(List Val)×(List Key)×(List Ent)×(List ByteArray))))) :=
 bif decide (x1.1<(d.length:Int))
 then (Option.bind (idx d x1.1) fun e2 =>
 Option.bind (a1v e2) fun r3 =>
 bif !r3
 then (some (.done (.inr (1,(0,0,(⟨#[]⟩:ByteArray),[],[],[],[])))))
 else (some (.next (wr .i64 (x1.1+1),(x1.2.1,x1.2.2.1,x1.2.2.2.1,x1.2.2.2.2.1,x1.2.2.2.2.2.1,x1.2.2.2.2.2.2.1,x1.2.2.2.2.2.2.2)))))
 else (some (.done (.inl (x1.2.1,x1.2.2.1,x1.2.2.2.1,x1.2.2.2.2.1,x1.2.2.2.2.2.1,x1.2.2.2.2.2.2.1,x1.2.2.2.2.2.2.2))))
def a5c (d:List Key)(x7:Int×(Int×Int×ByteArray×(List Val)×(List Key)×(List Ent)×(List ByteArray))×(Int×Int×ByteArray×(List Val)×(List Key)×(List Ent)×(List ByteArray)))(x8:Int):Option (Fl Int Int) :=
 Option.bind (bif decide (x8<(x7.2.2.2.2.2.2.1.length:Int))
 then (Option.bind (idx x7.2.2.2.2.2.2.1 x8) fun e9 =>
 Option.bind (idx d x7.1) fun e10 =>
 Option.bind (J5 e9 e10) fun r11 =>
 some (decide (r11<0)))
 else (some false)) fun q12 =>
 bif q12
 then (some (.next (wr .i64 (x8+1))))
 else (some (.done x8))
def a1n (d:List Key)(t:List Val)(x7:Int×(Int×Int×ByteArray×(List Val)×(List Key)×(List Ent)×(List ByteArray))×(Int×Int×ByteArray×(List Val)×(List Key)×(List Ent)×(List ByteArray))):Option (Fl (Int×(Int×Int×ByteArray×(List Val)×(List Key)×(List Ent)×(List ByteArray))×(Int×Int×ByteArray×(List Val)×(List Key)×(List Ent)×(List ByteArray))) (Sum ((Int×Int×ByteArray×(List Val)×(List Key)×(List Ent)×(List ByteArray))×(Int×Int×ByteArray×(List Val)×(List Key)×(List Ent)×(List ByteArray))) (Int×(Int×Int×ByteArray×(List Val)×(List Key)×(List Ent)×(List ByteArray))×(Int×Int×ByteArray×(List Val)×(List Key)×(List Ent)×(List ByteArray))))) :=
 bif decide (x7.1<(d.length:Int))
 then (Option.bind (z7 (a5c d x7) ((x7.2.2.2.2.2.2.1.length:Int).toNat+1) 0) fun b13 =>
 Option.bind (bif decide (b13<(x7.2.2.2.2.2.2.1.length:Int))
 then (Option.bind (idx x7.2.2.2.2.2.2.1 b13) fun e14 =>
 Option.bind (idx d x7.1) fun e15 =>
 some (a3P e14 e15))
 else (some false)) fun q16 =>
 bif q16
 then (some (.done (.inr (6,(0,0,(⟨#[]⟩:ByteArray),[],[],[],[]),(x7.2.2.1,x7.2.2.2.1,x7.2.2.2.2.1,x7.2.2.2.2.2.1,x7.2.2.2.2.2.2.1,x7.2.2.2.2.2.2.2.1,x7.2.2.2.2.2.2.2.2)))))
 else (Option.bind (cut x7.2.2.2.2.2.2.1 0 b13) fun y17 =>
 Option.bind (Z4 (0+y17.length) 24) fun _ =>
 Option.bind (cut x7.2.2.2.2.2.1 0 b13) fun y19 =>
 Option.bind (a1l y19) fun r20 =>
 Option.bind (idx d x7.1) fun e21 =>
 Option.bind (Z4 (y17.length+([e21]:List Key).length) 24) fun _ =>
 Option.bind (cut x7.2.2.2.2.2.2.1 b13 (x7.2.2.2.2.2.2.1.length:Int)) fun y23 =>
 Option.bind (Z4 ((y17++([e21]:List Key)).length+y23.length) 24) fun _ =>
 Option.bind (idx t x7.1) fun e25 =>
 Option.bind (Z4 (r20.length+([e25]:List Val).length) 128) fun _ =>
 Option.bind (cut x7.2.2.2.2.2.1 b13 (x7.2.2.2.2.2.1.length:Int)) fun y27 =>
 Option.bind (Z4 ((r20++([e25]:List Val)).length+y27.length) 128) fun _ =>
 some (.next (wr .i64 (x7.1+1),(x7.2.1.1,x7.2.1.2.1,x7.2.1.2.2.1,x7.2.1.2.2.2.1,x7.2.1.2.2.2.2.1,x7.2.1.2.2.2.2.2.1,x7.2.1.2.2.2.2.2.2),(x7.2.2.1,x7.2.2.2.1,x7.2.2.2.2.1,(r20++([e25]:List Val))++y27,(y17++([e21]:List Key))++y23,x7.2.2.2.2.2.2.2.1,x7.2.2.2.2.2.2.2.2)))))
 else (some (.done (.inl ((x7.2.1.1,x7.2.1.2.1,x7.2.1.2.2.1,x7.2.1.2.2.2.1,x7.2.1.2.2.2.2.1,x7.2.1.2.2.2.2.2.1,x7.2.1.2.2.2.2.2.2),(x7.2.2.1,x7.2.2.2.1,x7.2.2.2.2.1,x7.2.2.2.2.2.1,x7.2.2.2.2.2.2.1,x7.2.2.2.2.2.2.2.1,x7.2.2.2.2.2.2.2.2)))))
def a1H (d:List Key)(t:List Val):Option (Val×Int) :=
 bif (d.length:Int) != (t.length:Int)
 then (some (Val.mk 0 0 (⟨#[]⟩:ByteArray) ([]:List Val) ([]:List Key) ([]:List Ent) ([]:List ByteArray),1))
 else (Option.bind (z7 (a2j d) ((d.length:Int).toNat+1) (0,(0,0,(⟨#[]⟩:ByteArray),[],[],[],[]))) fun (b4:Sum (Int×Int×ByteArray×(List Val)×(List Key)×(List Ent)×(List ByteArray)) (Int×(Int×Int×ByteArray×(List Val)×(List Key)×(List Ent)×(List ByteArray)))) =>
 j9 (fun x5 =>
 Option.bind (z7 (a1n d t) ((d.length:Int).toNat+1) (0,(x5.1,x5.2.1,x5.2.2.1,x5.2.2.2.1,x5.2.2.2.2.1,x5.2.2.2.2.2.1,x5.2.2.2.2.2.2),(8,0,(⟨#[]⟩:ByteArray),([]:List Val),([]:List Key),[],[]))) fun (b29:Sum ((Int×Int×ByteArray×(List Val)×(List Key)×(List Ent)×(List ByteArray))×(Int×Int×ByteArray×(List Val)×(List Key)×(List Ent)×(List ByteArray))) (Int×(Int×Int×ByteArray×(List Val)×(List Key)×(List Ent)×(List ByteArray))×(Int×Int×ByteArray×(List Val)×(List Key)×(List Ent)×(List ByteArray)))) =>
 j9 (fun x30 =>
 some (Val.mk x30.2.1 x30.2.2.1 x30.2.2.2.1 x30.2.2.2.2.1 x30.2.2.2.2.2.1 x30.2.2.2.2.2.2.1 x30.2.2.2.2.2.2.2,0)) (fun y31 =>
 some (Val.mk y31.2.1.1 y31.2.1.2.1 y31.2.1.2.2.1 y31.2.1.2.2.2.1 y31.2.1.2.2.2.2.1 y31.2.1.2.2.2.2.2.1 y31.2.1.2.2.2.2.2.2,y31.1)) b29) (fun y6 =>
 some (Val.mk y6.2.1 y6.2.2.1 y6.2.2.2.1 y6.2.2.2.2.1 y6.2.2.2.2.2.1 y6.2.2.2.2.2.2.1 y6.2.2.2.2.2.2.2,y6.1)) b4)
def a7s (kind:Int):Option (Value_used×Bool) :=
 Option.bind (bif kind==1
 then (some (kind==1))
 else (some (kind==4))) fun b1 =>
 bif b1
 then (some (Value_used.mk true false false false false,true))
 else (Option.bind (bif kind==2
 then (some (kind==2))
 else (some (kind==3))) fun b2 =>
 bif b2
 then (some (Value_used.mk false true false false false,true))
 else (bif kind==5
 then (some (Value_used.mk false false false false false,true))
 else (Option.bind (bif kind==6
 then (some (kind==6))
 else (some (kind==7))) fun b3 =>
 bif b3
 then (some (Value_used.mk false false true false false,true))
 else (bif kind==8
 then (some (Value_used.mk false false true true false,true))
 else (bif kind==9
 then (some (Value_used.mk true false false false true,true))
 else (some (Value_used.mk false false false false false,false)))))))
def a6L (l:List ByteArray)(compare:ByteArray->ByteArray->Option Int)(x1:Int):Option (Fl Int (Sum Unit Bool)) :=
 bif decide (x1<(l.length:Int))
 then (Option.bind (idx l (wr .i64 (x1-1))) fun e2 =>
 Option.bind (idx l x1) fun e3 =>
 Option.bind (compare e2 e3) fun r4 =>
 bif decide (0<=r4)
 then (some (.done (.inr false)))
 else (some (.next (wr .i64 (x1+1)))))
 else (some (.done (.inl ())))
def a5o (l:List ByteArray)(compare:ByteArray->ByteArray->Option Int):Option Bool :=
 Option.bind (z7 (a6L l compare) ((l.length:Int).toNat+1) 1) fun b5 =>
 j9 (fun _ =>
 some true) (fun y7 =>
 some y7) b5
def a8N (l:List ByteArray)(x5:Int):Option (Fl Int (Sum Unit Bool)) :=
 bif decide (x5<(l.length:Int))
 then (Option.bind (idx l x5) fun e6 =>
 Option.bind (a23 e6) fun r7 =>
 bif !r7
 then (some (.done (.inr false)))
 else (some (.next (wr .i64 (x5+1)))))
 else (some (.done (.inl ())))
def a5v (l:List ByteArray):Option Bool :=
 Option.bind (a5o l (fun z1 z2 =>
 Option.bind (a0f z1 z2) fun r3 =>
 some r3)) fun r4 =>
 bif !r4
 then (some false)
 else (Option.bind (z7 (a8N l) ((l.length:Int).toNat+1) 0) fun b8 =>
 j9 (fun _ =>
 some true) (fun y10 =>
 some y10) b8)
def a6p (l:List Key)(compare:Key->Key->Option Int)(x1:Int):Option (Fl Int (Sum Unit Bool)) :=
 bif decide (x1<(l.length:Int))
 then (Option.bind (idx l (wr .i64 (x1-1))) fun e2 =>
 Option.bind (idx l x1) fun e3 =>
 Option.bind (compare e2 e3) fun r4 =>
 bif decide (0<=r4)
 then (some (.done (.inr false)))
 else (some (.next (wr .i64 (x1+1)))))
 else (some (.done (.inl ())))
def a4Y (l:List Key)(compare:Key->Key->Option Int):Option Bool :=
 Option.bind (z7 (a6p l compare) ((l.length:Int).toNat+1) 1) fun b5 =>
 j9 (fun _ =>
 some true) (fun y7 =>
 some y7) b5
def b04 (v:Val)(x6:Int):Option (Fl Int (Sum Unit Bool)) :=
 bif decide (x6<(v.Keys.length:Int))
 then (Option.bind (idx v.Keys x6) fun e7 =>
 Option.bind (a4p e7) fun r8 =>
 bif !r8
 then (some (.done (.inr false)))
 else (some (.next (wr .i64 (x6+1)))))
 else (some (.done (.inl ())))
def a7A (v:Val):Option Bool :=
 Option.bind (bif (v.Keys.length:Int) != (v.Kids.length:Int)
 then (some true)
 else (Option.bind (a4Y v.Keys (fun z1 z2 =>
 Option.bind (K3 z1 z2) fun r3 =>
 some r3)) fun r4 =>
 some (!r4))) fun q5 =>
 bif q5
 then (some false)
 else (Option.bind (z7 (b04 v) ((v.Keys.length:Int).toNat+1) 0) fun b9 =>
 j9 (fun _ =>
 some true) (fun y11 =>
 some y11) b9)
def a5R (l:List Ent)(compare:Ent->Ent->Option Int)(x1:Int):Option (Fl Int (Sum Unit Bool)) :=
 bif decide (x1<(l.length:Int))
 then (Option.bind (idx l (wr .i64 (x1-1))) fun e2 =>
 Option.bind (idx l x1) fun e3 =>
 Option.bind (compare e2 e3) fun r4 =>
 bif decide (0<=r4)
 then (some (.done (.inr false)))
 else (some (.next (wr .i64 (x1+1)))))
 else (some (.done (.inl ())))
def a4c (l:List Ent)(compare:Ent->Ent->Option Int):Option Bool :=
 Option.bind (z7 (a5R l compare) ((l.length:Int).toNat+1) 1) fun b5 =>
 j9 (fun _ =>
 some true) (fun y7 =>
 some y7) b5
def a4U (a:List Val)(b:List Val)(compare:Val->Val->Option Int)(x2:Int):Option (Fl Int (Sum Unit Int)) :=
 bif decide (x2<(a.length:Int))
 then (Option.bind (idx a x2) fun e3 =>
 Option.bind (idx b x2) fun e4 =>
 Option.bind (compare e3 e4) fun r5 =>
 bif r5 != 0
 then (some (.done (.inr r5)))
 else (some (.next (wr .i64 (x2+1)))))
 else (some (.done (.inl ())))
def a20 (a:List Val)(b:List Val)(compare:Val->Val->Option Int):Option Int :=
 Option.bind (a0G (a.length:Int) (b.length:Int)) fun r1 =>
 bif r1 != 0
 then (some r1)
 else (Option.bind (z7 (a4U a b compare) ((a.length:Int).toNat+1) 0) fun b6 =>
 j9 (fun _ =>
 some 0) (fun y8 =>
 some y8) b6)
def a6J (x:Int):Option Bool :=
 some (x != x)
def a5z (x:Int)(y:Int):Option Int :=
 Option.bind (a6J x) fun r1 =>
 Option.bind (a6J y) fun r2 =>
 bif r1
 then (bif r2
 then (some 0)
 else (some (-1)))
 else (bif r2
 then (some 1)
 else (bif decide (x<y)
 then (some (-1))
 else (bif decide (y<x)
 then (some 1)
 else (some 0))))
def a5u (a:List Key)(b:List Key)(compare:Key->Key->Option Int)(x2:Int):Option (Fl Int (Sum Unit Int)) :=
 bif decide (x2<(a.length:Int))
 then (Option.bind (idx a x2) fun e3 =>
 Option.bind (idx b x2) fun e4 =>
 Option.bind (compare e3 e4) fun r5 =>
 bif r5 != 0
 then (some (.done (.inr r5)))
 else (some (.next (wr .i64 (x2+1)))))
 else (some (.done (.inl ())))
def a3G (a:List Key)(b:List Key)(compare:Key->Key->Option Int):Option Int :=
 Option.bind (a0G (a.length:Int) (b.length:Int)) fun r1 =>
 bif r1 != 0
 then (some r1)
 else (Option.bind (z7 (a5u a b compare) ((a.length:Int).toNat+1) 0) fun b6 =>
 j9 (fun _ =>
 some 0) (fun y8 =>
 some y8) b6)
def a4S (a:List Ent)(b:List Ent)(compare:Ent->Ent->Option Int)(x2:Int):Option (Fl Int (Sum Unit Int)) :=
 bif decide (x2<(a.length:Int))
 then (Option.bind (idx a x2) fun e3 =>
 Option.bind (idx b x2) fun e4 =>
 Option.bind (compare e3 e4) fun r5 =>
 bif r5 != 0
 then (some (.done (.inr r5)))
 else (some (.next (wr .i64 (x2+1)))))
 else (some (.done (.inl ())))
def a26 (a:List Ent)(b:List Ent)(compare:Ent->Ent->Option Int):Option Int :=
 Option.bind (a0G (a.length:Int) (b.length:Int)) fun r1 =>
 bif r1 != 0
 then (some r1)
 else (Option.bind (z7 (a4S a b compare) ((a.length:Int).toNat+1) 0) fun b6 =>
 j9 (fun _ =>
 some 0) (fun y8 =>
 some y8) b6)
def a5M (a:List ByteArray)(b:List ByteArray)(compare:ByteArray->ByteArray->Option Int)(x2:Int):Option (Fl Int (Sum Unit Int)) :=
 bif decide (x2<(a.length:Int))
 then (Option.bind (idx a x2) fun e3 =>
 Option.bind (idx b x2) fun e4 =>
 Option.bind (compare e3 e4) fun r5 =>
 bif r5 != 0
 then (some (.done (.inr r5)))
 else (some (.next (wr .i64 (x2+1)))))
 else (some (.done (.inl ())))
def a4l (a:List ByteArray)(b:List ByteArray)(compare:ByteArray->ByteArray->Option Int):Option Int :=
 Option.bind (a0G (a.length:Int) (b.length:Int)) fun r1 =>
 bif r1 != 0
 then (some r1)
 else (Option.bind (z7 (a5M a b compare) ((a.length:Int).toNat+1) 0) fun b6 =>
 j9 (fun _ =>
 some 0) (fun y8 =>
 some y8) b6)
def a8F (_:Nat)(_:Val->Val->Option Int)(rec_value_compareEntries:Ent->Ent->Option Int)(rec_value_compareValues:(List Val)->(List Val)->Option Int)(a:Val)(b:Val):Option Int :=
 Option.bind (a0G a.Kind b.Kind) fun r1 =>
 bif r1 != 0
 then (some r1)
 else (Option.bind (a5z a.Int_ b.Int_) fun r2 =>
 bif r2 != 0
 then (some r2)
 else (Option.bind (a0f a.Text b.Text) fun r3 =>
 bif r3 != 0
 then (some r3)
 else (Option.bind (a3G a.Keys b.Keys (fun z4 z5 =>
 Option.bind (K3 z4 z5) fun r6 =>
 some r6)) fun r7 =>
 bif r7 != 0
 then (some r7)
 else (Option.bind (rec_value_compareValues a.Kids b.Kids) fun r8 =>
 bif r8 != 0
 then (some r8)
 else (Option.bind (a26 a.Entries b.Entries (fun z9 z10 =>
 Option.bind (rec_value_compareEntries z9 z10) fun r11 =>
 some r11)) fun r12 =>
 bif r12 != 0
 then (some r12)
 else (Option.bind (a4l a.Labels b.Labels (fun z13 z14 =>
 Option.bind (a0f z13 z14) fun r15 =>
 some r15)) fun r16 =>
 some r16))))))
def a5m (_:Nat)(rec_value_Compare:Val->Val->Option Int)(_:Ent->Ent->Option Int)(rec_value_compareValues:(List Val)->(List Val)->Option Int)(a:Ent)(b:Ent):Option Int :=
 Option.bind (rec_value_compareValues a.Args b.Args) fun r1 =>
 bif r1 != 0
 then (some r1)
 else (bif a.Fails != b.Fails
 then (bif a.Fails
 then (some (-1))
 else (some 1))
 else (Option.bind (rec_value_Compare a.Result b.Result) fun r2 =>
 some r2))
def a5E (_:Nat)(rec_value_Compare:Val->Val->Option Int)(_:Ent->Ent->Option Int)(_:(List Val)->(List Val)->Option Int)(a:List Val)(b:List Val):Option Int :=
 Option.bind (a20 a b (fun z1 z2 =>
 Option.bind (rec_value_Compare z1 z2) fun r3 =>
 some r3)) fun r4 =>
 some r4
def K9:Nat->(Val->Val->Option Int)×(Ent->Ent->Option Int)×((List Val)->(List Val)->Option Int)
 | 0=>(fun _ _=>none,fun _ _=>none,fun _ _=>none)
 | n+1=>(a8F n ((K9 n).1) ((K9 n).2.1) ((K9 n).2.2),a5m n ((K9 n).1) ((K9 n).2.1) ((K9 n).2.2),a5E n ((K9 n).1) ((K9 n).2.1) ((K9 n).2.2))
def a2L (n:Nat):Val->Val->Option Int:=(K9 n).1
def V0 (n:Nat):Ent->Ent->Option Int:=(K9 n).2.1
def a2Y (n:Nat):(List Val)->(List Val)->Option Int:=(K9 n).2.2
def b3I (n:Nat)(a:Val)(b:Val):Option Bool :=
 Option.bind (a2L n a b) fun r1 =>
 some (r1==0)
def b2v (n:Nat)(v:Val):Option Bool :=
 Option.bind (b3I n v (Val.mk 0 0 (⟨#[]⟩:ByteArray) ([]:List Val) ([]:List Key) ([]:List Ent) ([]:List ByteArray))) fun r1 =>
 some r1
def a4s (n:Nat)(e:Ent)(arity:Int):Option Bool :=
 Option.bind (bif (e.Args.length:Int)==arity
 then (Option.bind (bif !e.Fails
 then (some true)
 else (Option.bind (b2v n e.Result) fun r1 =>
 some r1)) fun q2 =>
 some q2)
 else (some false)) fun q3 =>
 some q3
def a7V (v:Val)(n:Nat)(x7:Int):Option (Fl Int (Sum Unit Bool)) :=
 bif decide (x7<(v.Entries.length:Int))
 then (Option.bind (idx v.Entries x7) fun e8 =>
 Option.bind (a4s n e8 v.Int_) fun r9 =>
 bif !r9
 then (some (.done (.inr false)))
 else (some (.next (wr .i64 (x7+1)))))
 else (some (.done (.inl ())))
def a4O (n:Nat)(v:Val):Option Bool :=
 Option.bind (bif decide (v.Int_<0)
 then (some true)
 else (some (decide (4<v.Int_)))) fun q1 =>
 Option.bind (bif q1
 then (some true)
 else (Option.bind (a4c v.Entries (fun z2 z3 =>
 Option.bind (V0 n z2 z3) fun r4 =>
 some r4)) fun r5 =>
 some (!r5))) fun q6 =>
 bif q6
 then (some false)
 else (Option.bind (z7 (a7V v n) ((v.Entries.length:Int).toNat+1) 0) fun b10 =>
 j9 (fun _ =>
 some true) (fun y12 =>
 some y12) b10)
def a6I (n:Nat)(d:Val):Option Bool :=
 Option.bind (a7s d.Kind) fun r1 =>
 Option.bind (bif !r1.2
 then (some true)
 else (Option.bind (a5v d.Labels) fun r2 =>
 some (!r2))) fun q3 =>
 bif q3
 then (some false)
 else (Option.bind (bif !r1.1.number
 then (some (d.Int_ != 0))
 else (some false)) fun q4 =>
 Option.bind (bif q4
 then (some true)
 else (Option.bind (bif !r1.1.text_
 then (some (!(Q4 d.Text (⟨#[]⟩:ByteArray))))
 else (some false)) fun q5 =>
 some q5)) fun q6 =>
 Option.bind (bif q6
 then (some true)
 else (Option.bind (bif !r1.1.kids
 then (some (decide (0<(d.Kids.length:Int))))
 else (some false)) fun q7 =>
 some q7)) fun q8 =>
 Option.bind (bif q8
 then (some true)
 else (Option.bind (bif !r1.1.keys
 then (some (decide (0<(d.Keys.length:Int))))
 else (some false)) fun q9 =>
 some q9)) fun q10 =>
 Option.bind (bif q10
 then (some true)
 else (Option.bind (bif !r1.1.entries
 then (some (decide (0<(d.Entries.length:Int))))
 else (some false)) fun q11 =>
 some q11)) fun q12 =>
 bif q12
 then (some false)
 else (bif d.Kind==2
 then (some (decide ((d.Text.size:Int)<=64)))
 else (bif d.Kind==3
 then (Option.bind (a5G d.Text) fun r13 =>
 some r13)
 else (bif d.Kind==4
 then (some (decide (0<=d.Int_)))
 else (bif d.Kind==6
 then (some (decide ((d.Kids.length:Int)<=4)))
 else (bif d.Kind==7
 then (Option.bind (bif (d.Kids.length:Int)==2
 then (Option.bind (idx d.Kids 1) fun e14 =>
 Option.bind (bif e14.Kind==5
 then (some true)
 else (Option.bind (idx d.Kids 1) fun e15 =>
 some (e15.Kind==7))) fun q16 =>
 some q16)
 else (some false)) fun q17 =>
 some q17)
 else (bif d.Kind==8
 then (Option.bind (a7A d) fun r18 =>
 some r18)
 else (bif d.Kind==9
 then (Option.bind (a4O n d) fun r19 =>
 some r19)
 else (some true)))))))))
def a7y (v:Val)(x2:(List Val)×Int):Option (Fl ((List Val)×Int) (List Val)) :=
 bif decide (x2.2<(v.Entries.length:Int))
 then (Option.bind (idx v.Entries x2.2) fun e3 =>
 Option.bind (Z4 (x2.1.length+e3.Args.length) 128) fun _ =>
 bif !e3.Fails
 then (Option.bind (Z4 ((x2.1++e3.Args).length+([e3.Result]:List Val).length) 128) fun _ =>
 some (.next ((x2.1++e3.Args)++([e3.Result]:List Val),wr .i64 (x2.2+1))))
 else (some (.next (x2.1++e3.Args,wr .i64 (x2.2+1)))))
 else (some (.done x2.1))
def a91 (v:Val):Option (List Val) :=
 Option.bind (a0U 128 v.Kids) fun r1 =>
 Option.bind (z7 (a7y v) ((v.Entries.length:Int).toNat+1) (r1,0)) fun b6 =>
 some b6
def b0k (r2:List Val)(rec_value_validTree:Val->Option Bool)(x3:Int):Option (Fl Int (Sum Unit Bool)) :=
 bif decide (x3<(r2.length:Int))
 then (Option.bind (idx r2 x3) fun e4 =>
 Option.bind (rec_value_validTree e4) fun r5 =>
 bif !r5
 then (some (.done (.inr false)))
 else (some (.next (wr .i64 (x3+1)))))
 else (some (.done (.inl ())))
def a7E (n:Nat)(rec_value_validTree:Val->Option Bool)(v:Val):Option Bool :=
 Option.bind (a6I n v) fun r1 =>
 bif !r1
 then (some false)
 else (Option.bind (a91 v) fun r2 =>
 Option.bind (z7 (b0k r2 rec_value_validTree) ((r2.length:Int).toNat+1) 0) fun b6 =>
 j9 (fun _ =>
 some true) (fun y8 =>
 some y8) b6)
def a2z:Nat->Val->Option Bool
 | 0=>fun _=>none
 | n+1=>a7E n (a2z n)
def a5U (n:Nat)(v:Val):Option Int :=
 Option.bind (a2z n v) fun r1 =>
 bif !r1
 then (some 1)
 else (some 0)
def a7r (s:Api_Shape):Option Bool :=
 Option.bind (bif (s.Keys.length:Int)==(s.States.length:Int)
 then (some ((s.Keys.length:Int)==(s.Parts.length:Int)))
 else (some false)) fun q1 =>
 some q1
def a6H (s:Api_Shape)(x3:(List Api_Goal)×Int):Option (Fl ((List Api_Goal)×Int) (List Api_Goal)) :=
 bif decide (x3.2<(s.Some.length:Int))
 then (Option.bind (idx s.Some x3.2) fun e4 =>
 Option.bind (Z4 (x3.1.length+([e4.Goal]:List Api_Goal).length) 56) fun _ =>
 some (.next (x3.1++([e4.Goal]:List Api_Goal),wr .i64 (x3.2+1))))
 else (some (.done x3.1))
def a8Q (s:Api_Shape):Option (List Api_Goal) :=
 Option.bind (a0U 56 s.Parts) fun r1 =>
 Option.bind (Z4 (r1.length+([s.Rest.1,s.Rest.2]:List Api_Goal).length) 56) fun _ =>
 Option.bind (z7 (a6H s) ((s.Some.length:Int).toNat+1) (r1++([s.Rest.1,s.Rest.2]:List Api_Goal),0)) fun b6 =>
 some b6
def a5Q (t:Api_Type)(g:Api_Goal)(r1:List Int)(x3:Int):Option (Fl Int (Sum Unit Bool)) :=
 bif decide (x3<((r1++g.Neg).length:Int))
 then (Option.bind (idx (r1++g.Neg) x3) fun e4 =>
 Option.bind (bif decide (e4<0)
 then (some true)
 else (some (decide ((t.Nodes.length:Int)<=e4)))) fun q5 =>
 bif q5
 then (some (.done (.inr false)))
 else (some (.next (wr .i64 (x3+1)))))
 else (some (.done (.inl ())))
def a7N (t:Api_Type)(g:Api_Goal):Option Bool :=
 Option.bind (a0U 8 g.Pos) fun r1 =>
 Option.bind (Z4 (r1.length+g.Neg.length) 8) fun _ =>
 Option.bind (z7 (a5Q t g r1) (((r1++g.Neg).length:Int).toNat+1) 0) fun b6 =>
 j9 (fun _ =>
 some true) (fun y8 =>
 some y8) b6
def J7 (s:List Key)(v:Key)(x1:Int):Option (Fl Int (Sum Unit Int)) :=
 bif decide (x1<(s.length:Int))
 then (Option.bind (idx s x1) fun e2 =>
 bif a3P v e2
 then (some (.done (.inr x1)))
 else (some (.next (wr .i64 (x1+1)))))
 else (some (.done (.inl ())))
def K8 (s:List Key)(v:Key):Option Int :=
 Option.bind (z7 (J7 s v) ((s.length:Int).toNat+1) 0) fun b3 =>
 j9 (fun _ =>
 some (-1)) (fun y5 =>
 some y5) b3
def b87 (kind:Int):Option Int :=
 bif kind==5
 then (some 2)
 else (bif kind==7
 then (some 3)
 else (bif kind==8
 then (some 4)
 else (bif kind==9
 then (some 5)
 else (bif kind==11
 then (some 6)
 else (some 9)))))
def Q6 (s:List Key)(v:Key):Option Bool :=
 Option.bind (K8 s v) fun r1 =>
 some (decide (0<=r1))
def a1j (s:List ByteArray)(v:ByteArray)(x1:Int):Option (Fl Int (Sum Unit Int)) :=
 bif decide (x1<(s.length:Int))
 then (Option.bind (idx s x1) fun e2 =>
 bif Q4 v e2
 then (some (.done (.inr x1)))
 else (some (.next (wr .i64 (x1+1)))))
 else (some (.done (.inl ())))
def a3I (s:List ByteArray)(v:ByteArray):Option Int :=
 Option.bind (z7 (a1j s v) ((s.length:Int).toNat+1) 0) fun b3 =>
 j9 (fun _ =>
 some (-1)) (fun y5 =>
 some y5) b3
def a1i (s:List ByteArray)(v:ByteArray):Option Bool :=
 Option.bind (a3I s v) fun r1 =>
 some (decide (0<=r1))
def a7L (l:List Val)(t:Api_Type)(nodes:List Int)(rec_core_Has:Val->Api_Type->Int->Option Bool)(x1:Int):Option (Fl Int (Sum Unit Bool)) :=
 bif decide (x1<(l.length:Int))
 then (Option.bind (idx l x1) fun e2 =>
 Option.bind (idx nodes x1) fun e3 =>
 Option.bind (rec_core_Has e2 t e3) fun r4 =>
 bif !r4
 then (some (.done (.inr false)))
 else (some (.next (wr .i64 (x1+1)))))
 else (some (.done (.inl ())))
def a4J (v:Val)(t:Api_Type)(n_2:Api_TypeNode)(rec_core_EntryAllowed:Ent->Api_Type->Api_TypeNode->Option Bool)(x1:Int):Option (Fl Int (Sum Unit Bool)) :=
 bif decide (x1<(v.Entries.length:Int))
 then (Option.bind (idx v.Entries x1) fun e2 =>
 Option.bind (rec_core_EntryAllowed e2 t n_2) fun r3 =>
 bif !r3
 then (some (.done (.inr false)))
 else (some (.next (wr .i64 (x1+1)))))
 else (some (.done (.inl ())))
def a7u (v:Val)(n_2:Api_TypeNode)(x1:Int):Option (Fl Int (Sum Unit Bool)) :=
 bif decide (x1<(n_2.Fields.length:Int))
 then (Option.bind (idx n_2.Fields x1) fun e2 =>
 Option.bind (bif !e2.Optional
 then (Option.bind (Q6 v.Keys e2.Key_) fun r3 =>
 some (!r3))
 else (some false)) fun q4 =>
 bif q4
 then (some (.done (.inr false)))
 else (some (.next (wr .i64 (x1+1)))))
 else (some (.done (.inl ())))
def a5O (v:Val)(t:Api_Type)(n_2:Api_TypeNode)(rec_core_Has:Val->Api_Type->Int->Option Bool)(x8:Int):Option (Fl Int (Sum Unit Bool)) :=
 bif decide (x8<(v.Keys.length:Int))
 then (Option.bind (idx v.Keys x8) fun e9 =>
 Option.bind (idx v.Kids x8) fun e10 =>
 Option.bind (a7q n_2 e9) fun r11 =>
 Option.bind (rec_core_Has e10 t r11) fun r12 =>
 bif !r12
 then (some (.done (.inr false)))
 else (some (.next (wr .i64 (x8+1)))))
 else (some (.done (.inl ())))
def a9b (_:Nat)(_:(List Val)->Api_Type->(List Int)->Option Bool)(_:Ent->Api_Type->Api_TypeNode->Option Bool)(_:Val->Api_Type->Api_TypeNode->Option Bool)(rec_core_Has:Val->Api_Type->Int->Option Bool)(_:Int->Val->Api_Type->Option Bool)(_:Int->Val->Api_Type->Option Bool)(_:Val->Api_Type->Api_TypeNode->Option Bool)(l:List Val)(t:Api_Type)(nodes:List Int):Option Bool :=
 bif (l.length:Int) != (nodes.length:Int)
 then (some false)
 else (Option.bind (z7 (a7L l t nodes rec_core_Has) ((l.length:Int).toNat+1) 0) fun b5 =>
 j9 (fun _ =>
 some true) (fun y7 =>
 some y7) b5)
def a6E (_:Nat)(rec_core_all:(List Val)->Api_Type->(List Int)->Option Bool)(_:Ent->Api_Type->Api_TypeNode->Option Bool)(_:Val->Api_Type->Api_TypeNode->Option Bool)(rec_core_Has:Val->Api_Type->Int->Option Bool)(_:Int->Val->Api_Type->Option Bool)(_:Int->Val->Api_Type->Option Bool)(_:Val->Api_Type->Api_TypeNode->Option Bool)(e:Ent)(t:Api_Type)(n_2:Api_TypeNode):Option Bool :=
 Option.bind (cut n_2.Kids 0 (wr .i64 ((n_2.Kids.length:Int)-1))) fun y1 =>
 Option.bind (rec_core_all e.Args t y1) fun r2 =>
 Option.bind (bif !r2
 then (some true)
 else (Option.bind (bif !e.Fails
 then (Option.bind (idx n_2.Kids (wr .i64 ((n_2.Kids.length:Int)-1))) fun e3 =>
 Option.bind (rec_core_Has e.Result t e3) fun r4 =>
 some r4)
 else (some false)) fun q5 =>
 some q5)) fun q6 =>
 some q6
def a7g (_:Nat)(_:(List Val)->Api_Type->(List Int)->Option Bool)(rec_core_EntryAllowed:Ent->Api_Type->Api_TypeNode->Option Bool)(_:Val->Api_Type->Api_TypeNode->Option Bool)(_:Val->Api_Type->Int->Option Bool)(_:Int->Val->Api_Type->Option Bool)(_:Int->Val->Api_Type->Option Bool)(_:Val->Api_Type->Api_TypeNode->Option Bool)(v:Val)(t:Api_Type)(n_2:Api_TypeNode):Option Bool :=
 bif v.Int_ != (wr .i64 ((n_2.Kids.length:Int)-1))
 then (some false)
 else (Option.bind (z7 (a4J v t n_2 rec_core_EntryAllowed) ((v.Entries.length:Int).toNat+1) 0) fun b4 =>
 j9 (fun _ =>
 some true) (fun y6 =>
 some y6) b4)
def b5L (_:Nat)(rec_core_all:(List Val)->Api_Type->(List Int)->Option Bool)(_:Ent->Api_Type->Api_TypeNode->Option Bool)(rec_core_functionHas:Val->Api_Type->Api_TypeNode->Option Bool)(rec_core_Has:Val->Api_Type->Int->Option Bool)(rec_core_Has_1:Int->Val->Api_Type->Option Bool)(rec_core_Has_2:Int->Val->Api_Type->Option Bool)(rec_core_mapHas:Val->Api_Type->Api_TypeNode->Option Bool)(d:Val)(t:Api_Type)(a2_2:Int):Option Bool :=
 Option.bind (idx t.Nodes a2_2) fun e1 =>
 bif e1.Kind==2
 then (some true)
 else (bif e1.Kind==3
 then (Option.bind (bif d.Kind==1
 then (some (decide (e1.Lo<=d.Int_)))
 else (some false)) fun q2 =>
 Option.bind (bif q2
 then (some (decide (d.Int_<=e1.Hi)))
 else (some false)) fun q3 =>
 some q3)
 else (bif e1.Kind==4
 then (Option.bind (bif d.Kind==2
 then (some (Q4 d.Text e1.Text))
 else (some false)) fun q4 =>
 some q4)
 else (bif e1.Kind==6
 then (Option.bind (bif d.Kind==3
 then (some (Q4 d.Text e1.Text))
 else (some false)) fun q5 =>
 some q5)
 else (Option.bind (bif e1.Kind==5
 then (some (e1.Kind==5))
 else (bif e1.Kind==7
 then (some (e1.Kind==7))
 else (bif e1.Kind==8
 then (some (e1.Kind==8))
 else (bif e1.Kind==9
 then (some (e1.Kind==9))
 else (bif e1.Kind==11
 then (some (e1.Kind==11))
 else (some (e1.Kind==15))))))) fun b6 =>
 bif b6
 then (Option.bind (b87 e1.Kind) fun r7 =>
 some (d.Kind==r7))
 else (bif e1.Kind==10
 then (Option.bind (bif d.Kind==6
 then (Option.bind (rec_core_all d.Kids t e1.Kids) fun r8 =>
 some r8)
 else (some false)) fun q9 =>
 some q9)
 else (bif e1.Kind==12
 then (Option.bind (bif d.Kind==7
 then (Option.bind (rec_core_all d.Kids t e1.Kids) fun r10 =>
 some r10)
 else (some false)) fun q11 =>
 some q11)
 else (bif e1.Kind==13
 then (Option.bind (bif d.Kind==8
 then (Option.bind (rec_core_mapHas d t e1) fun r12 =>
 some r12)
 else (some false)) fun q13 =>
 some q13)
 else (bif e1.Kind==14
 then (Option.bind (bif d.Kind==9
 then (Option.bind (rec_core_functionHas d t e1) fun r14 =>
 some r14)
 else (some false)) fun q15 =>
 some q15)
 else (bif e1.Kind==16
 then (Option.bind (Y0 e1.Kids (fun z16 =>
 Option.bind (rec_core_Has_1 z16 d t) fun r17 =>
 some r17)) fun r18 =>
 some r18)
 else (bif e1.Kind==17
 then (Option.bind (Y0 e1.Kids (fun z19 =>
 Option.bind (rec_core_Has_2 z19 d t) fun r20 =>
 some r20)) fun r21 =>
 some (!r21))
 else (bif e1.Kind==18
 then (Option.bind (idx e1.Kids 0) fun e22 =>
 Option.bind (rec_core_Has d t e22) fun r23 =>
 some (!r23))
 else (bif e1.Kind==19
 then (Option.bind (a1i d.Labels e1.Text) fun r24 =>
 some r24)
 else (some false)))))))))))))
def b2A (_:Nat)(_:(List Val)->Api_Type->(List Int)->Option Bool)(_:Ent->Api_Type->Api_TypeNode->Option Bool)(_:Val->Api_Type->Api_TypeNode->Option Bool)(rec_core_Has:Val->Api_Type->Int->Option Bool)(_:Int->Val->Api_Type->Option Bool)(_:Int->Val->Api_Type->Option Bool)(_:Val->Api_Type->Api_TypeNode->Option Bool)(k:Int)(a1_1:Val)(a2_2:Api_Type):Option Bool :=
 Option.bind (rec_core_Has a1_1 a2_2 k) fun r1 =>
 some r1
def b1Y (_:Nat)(_:(List Val)->Api_Type->(List Int)->Option Bool)(_:Ent->Api_Type->Api_TypeNode->Option Bool)(_:Val->Api_Type->Api_TypeNode->Option Bool)(rec_core_Has:Val->Api_Type->Int->Option Bool)(_:Int->Val->Api_Type->Option Bool)(_:Int->Val->Api_Type->Option Bool)(_:Val->Api_Type->Api_TypeNode->Option Bool)(k:Int)(a1_1:Val)(a2_2:Api_Type):Option Bool :=
 Option.bind (rec_core_Has a1_1 a2_2 k) fun r1 =>
 some (!r1)
def b0J (_:Nat)(_:(List Val)->Api_Type->(List Int)->Option Bool)(_:Ent->Api_Type->Api_TypeNode->Option Bool)(_:Val->Api_Type->Api_TypeNode->Option Bool)(rec_core_Has:Val->Api_Type->Int->Option Bool)(_:Int->Val->Api_Type->Option Bool)(_:Int->Val->Api_Type->Option Bool)(_:Val->Api_Type->Api_TypeNode->Option Bool)(v:Val)(t:Api_Type)(n_2:Api_TypeNode):Option Bool :=
 Option.bind (z7 (a7u v n_2) ((n_2.Fields.length:Int).toNat+1) 0) fun b5 =>
 j9 (fun _ =>
 Option.bind (z7 (a5O v t n_2 rec_core_Has) ((v.Keys.length:Int).toNat+1) 0) fun b13 =>
 j9 (fun _ =>
 some true) (fun y15 =>
 some y15) b13) (fun y7 =>
 some y7) b5
def j8:Nat->((List Val)->Api_Type->(List Int)->Option Bool)×(Ent->Api_Type->Api_TypeNode->Option Bool)×(Val->Api_Type->Api_TypeNode->Option Bool)×(Val->Api_Type->Int->Option Bool)×(Int->Val->Api_Type->Option Bool)×(Int->Val->Api_Type->Option Bool)×(Val->Api_Type->Api_TypeNode->Option Bool)
 | 0=>(fun _ _ _=>none,fun _ _ _=>none,fun _ _ _=>none,fun _ _ _=>none,fun _ _ _=>none,fun _ _ _=>none,fun _ _ _=>none)
 | n+1=>(a9b n ((j8 n).1) ((j8 n).2.1) ((j8 n).2.2.1) ((j8 n).2.2.2.1) ((j8 n).2.2.2.2.1) ((j8 n).2.2.2.2.2.1) ((j8 n).2.2.2.2.2.2),a6E n ((j8 n).1) ((j8 n).2.1) ((j8 n).2.2.1) ((j8 n).2.2.2.1) ((j8 n).2.2.2.2.1) ((j8 n).2.2.2.2.2.1) ((j8 n).2.2.2.2.2.2),a7g n ((j8 n).1) ((j8 n).2.1) ((j8 n).2.2.1) ((j8 n).2.2.2.1) ((j8 n).2.2.2.2.1) ((j8 n).2.2.2.2.2.1) ((j8 n).2.2.2.2.2.2),b5L n ((j8 n).1) ((j8 n).2.1) ((j8 n).2.2.1) ((j8 n).2.2.2.1) ((j8 n).2.2.2.2.1) ((j8 n).2.2.2.2.2.1) ((j8 n).2.2.2.2.2.2),b2A n ((j8 n).1) ((j8 n).2.1) ((j8 n).2.2.1) ((j8 n).2.2.2.1) ((j8 n).2.2.2.2.1) ((j8 n).2.2.2.2.2.1) ((j8 n).2.2.2.2.2.2),b1Y n ((j8 n).1) ((j8 n).2.1) ((j8 n).2.2.1) ((j8 n).2.2.2.1) ((j8 n).2.2.2.2.1) ((j8 n).2.2.2.2.2.1) ((j8 n).2.2.2.2.2.2),b0J n ((j8 n).1) ((j8 n).2.1) ((j8 n).2.2.1) ((j8 n).2.2.2.1) ((j8 n).2.2.2.2.1) ((j8 n).2.2.2.2.2.1) ((j8 n).2.2.2.2.2.2))
def a5n (n:Nat):(List Val)->Api_Type->(List Int)->Option Bool:=(j8 n).1
def W6 (n:Nat):Ent->Api_Type->Api_TypeNode->Option Bool:=(j8 n).2.1
def a0h (n:Nat):Val->Api_Type->Api_TypeNode->Option Bool:=(j8 n).2.2.1
def X6 (n:Nat):Val->Api_Type->Int->Option Bool:=(j8 n).2.2.2.1
def a3d (n:Nat):Int->Val->Api_Type->Option Bool:=(j8 n).2.2.2.2.1
def a3f (n:Nat):Int->Val->Api_Type->Option Bool:=(j8 n).2.2.2.2.2.1
def a2q (n:Nat):Val->Api_Type->Api_TypeNode->Option Bool:=(j8 n).2.2.2.2.2.2
def b0B (n:Nat)(i:Int)(a1_1:Val)(a2_2:Api_Type):Option Bool :=
 Option.bind (X6 n a1_1 a2_2 i) fun r1 =>
 some (!r1)
def b0W (n:Nat)(i:Int)(a1_1:Val)(a2_2:Api_Type):Option Bool :=
 Option.bind (X6 n a1_1 a2_2 i) fun r1 =>
 some r1
def b3X (n:Nat)(v:Val)(t:Api_Type)(pos:List Int)(neg:List Int):Option Bool :=
 Option.bind (Y0 pos (fun z1 =>
 Option.bind (b0B n z1 v t) fun r2 =>
 some r2)) fun r3 =>
 Option.bind (bif !r3
 then (Option.bind (Y0 neg (fun z4 =>
 Option.bind (b0W n z4 v t) fun r5 =>
 some r5)) fun r6 =>
 some (!r6))
 else (some false)) fun q7 =>
 some q7
def a2A (n:Nat)(v:Val)(t:Api_Type)(g:Api_Goal):Option Bool :=
 Option.bind (a5U n v) fun r1 =>
 Option.bind (bif r1 != 0
 then (some true)
 else (Option.bind (a0o n t) fun r2 =>
 some (r2 != 0))) fun q3 =>
 Option.bind (bif q3
 then (some true)
 else (Option.bind (a7N t g) fun r4 =>
 some (!r4))) fun q5 =>
 bif q5
 then (some false)
 else (Option.bind (bif g.Lists
 then (some (v.Kind != 5))
 else (some false)) fun q6 =>
 Option.bind (bif q6
 then (some (v.Kind != 7))
 else (some false)) fun q7 =>
 bif q7
 then (some false)
 else (Option.bind (b3X n v t g.Pos g.Neg) fun r8 =>
 some r8))
def a7l (n:Nat)(v:Val)(t:Api_Type)(key:Key)(state:Int)(part:Api_Goal):Option Bool :=
 Option.bind (K8 v.Keys key) fun r1 =>
 bif state==0
 then (some (decide (r1<0)))
 else (bif state==1
 then (Option.bind (bif decide (0<=r1)
 then (Option.bind (idx v.Kids r1) fun e2 =>
 Option.bind (a2A n e2 t part) fun r3 =>
 some r3)
 else (some false)) fun q4 =>
 some q4)
 else (bif state==2
 then (Option.bind (bif decide (r1<0)
 then (some true)
 else (Option.bind (idx v.Kids r1) fun e5 =>
 Option.bind (a2A n e5 t part) fun r6 =>
 some r6)) fun q7 =>
 some q7)
 else (some false)))
def a3O (v:Val)(t:Api_Type)(listed:List Key)(want:Api_SomeKey)(n:Nat)(x1:Int):Option (Fl Int (Sum Unit Bool)) :=
 bif decide (x1<(v.Keys.length:Int))
 then (Option.bind (idx v.Keys x1) fun e2 =>
 Option.bind (bif e2.Kind==want.Kind
 then (Option.bind (Q6 listed e2) fun r3 =>
 some (!r3))
 else (some false)) fun q4 =>
 Option.bind (bif q4
 then (Option.bind (idx v.Kids x1) fun e5 =>
 Option.bind (a2A n e5 t want.Goal) fun r6 =>
 some r6)
 else (some false)) fun q7 =>
 bif q7
 then (some (.done (.inr true)))
 else (some (.next (wr .i64 (x1+1)))))
 else (some (.done (.inl ())))
def a7k (n:Nat)(v:Val)(t:Api_Type)(listed:List Key)(want:Api_SomeKey):Option Bool :=
 Option.bind (z7 (a3O v t listed want n) ((v.Keys.length:Int).toNat+1) 0) fun b8 =>
 j9 (fun _ =>
 some false) (fun y10 =>
 some y10) b8
def a3W (t:Api_Type)(r7:List Api_Goal)(x8:Int):Option (Fl Int (Sum Unit Bool)) :=
 bif decide (x8<(r7.length:Int))
 then (Option.bind (idx r7 x8) fun e9 =>
 Option.bind (a7N t e9) fun r10 =>
 bif !r10
 then (some (.done (.inr false)))
 else (some (.next (wr .i64 (x8+1)))))
 else (some (.done (.inl ())))
def a3S (d:Val)(t:Api_Type)(a2_2:Api_Shape)(n:Nat)(x14:Int):Option (Fl Int (Sum Unit Bool)) :=
 bif decide (x14<(a2_2.Keys.length:Int))
 then (Option.bind (idx a2_2.Keys x14) fun e15 =>
 Option.bind (idx a2_2.States x14) fun e16 =>
 Option.bind (idx a2_2.Parts x14) fun e17 =>
 Option.bind (a7l n d t e15 e16 e17) fun r18 =>
 bif !r18
 then (some (.done (.inr false)))
 else (some (.next (wr .i64 (x14+1)))))
 else (some (.done (.inl ())))
def a3Y (d:Val)(t:Api_Type)(a2_2:Api_Shape)(n:Nat)(x22:Int):Option (Fl Int (Sum Unit Bool)) :=
 bif decide (x22<(d.Keys.length:Int))
 then (Option.bind (idx d.Keys x22) fun e23 =>
 Option.bind (Q6 a2_2.Keys e23) fun r24 =>
 Option.bind (bif !r24
 then (Option.bind (idx d.Kids x22) fun e25 =>
 bif e23.Kind==0
 then (Option.bind (a2A n e25 t a2_2.Rest.1) fun r26 =>
 some (!r26))
 else (bif e23.Kind==1
 then (Option.bind (a2A n e25 t a2_2.Rest.2) fun r27 =>
 some (!r27))
 else (none)))
 else (some false)) fun q28 =>
 bif q28
 then (some (.done (.inr false)))
 else (some (.next (wr .i64 (x22+1)))))
 else (some (.done (.inl ())))
def a32 (d:Val)(t:Api_Type)(a2_2:Api_Shape)(n:Nat)(x32:Int):Option (Fl Int (Sum Unit Bool)) :=
 bif decide (x32<(a2_2.Some.length:Int))
 then (Option.bind (idx a2_2.Some x32) fun e33 =>
 Option.bind (a7k n d t a2_2.Keys e33) fun r34 =>
 bif !r34
 then (some (.done (.inr false)))
 else (some (.next (wr .i64 (x32+1)))))
 else (some (.done (.inl ())))
def a2i (n:Nat)(d:Val)(t:Api_Type)(a2_2:Api_Shape):Option Bool :=
 Option.bind (a5U n d) fun r1 =>
 Option.bind (bif r1 != 0
 then (some true)
 else (some (d.Kind != 8))) fun q2 =>
 Option.bind (bif q2
 then (some true)
 else (Option.bind (a0o n t) fun r3 =>
 some (r3 != 0))) fun q4 =>
 Option.bind (bif q4
 then (some true)
 else (Option.bind (a7r a2_2) fun r5 =>
 some (!r5))) fun q6 =>
 bif q6
 then (some false)
 else (Option.bind (a8Q a2_2) fun r7 =>
 Option.bind (z7 (a3W t r7) ((r7.length:Int).toNat+1) 0) fun b11 =>
 j9 (fun _ =>
 Option.bind (z7 (a3S d t a2_2 n) ((a2_2.Keys.length:Int).toNat+1) 0) fun b19 =>
 j9 (fun _ =>
 Option.bind (z7 (a3Y d t a2_2 n) ((d.Keys.length:Int).toNat+1) 0) fun b29 =>
 j9 (fun _ =>
 Option.bind (z7 (a32 d t a2_2 n) ((a2_2.Some.length:Int).toNat+1) 0) fun b35 =>
 j9 (fun _ =>
 some true) (fun y37 =>
 some y37) b35) (fun y31 =>
 some y31) b29) (fun y21 =>
 some y21) b19) (fun y13 =>
 some y13) b11)
noncomputable def b42 (n:Nat)(r1:(List Api_Shape)×Int)(r3:Val×Int)(x4:Bool×Int):Option (Fl (Bool×Int) Bool) :=
 bif decide (x4.2<(r1.1.length:Int))
 then (Option.bind (bif x4.1
 then (some true)
 else (Option.bind (idx r1.1 x4.2) fun e5 =>
 Option.bind (a2i n r3.1 (Api_Type.mk ([Api_TypeNode.mk 2 0 0 (⟨#[]⟩:ByteArray) ([]:List Int) ([]:List Api_Field) (0,0),Api_TypeNode.mk 13 0 0 (⟨#[]⟩:ByteArray) ([]:List Int) ([]:List Api_Field) (0,0)]:List Api_TypeNode) 0) e5) fun r6 =>
 some r6)) fun q7 =>
 some (.next (q7,wr .i64 (x4.2+1))))
 else (some (.done x4.1))
noncomputable def a1p (n:Nat):Option Bool :=
 Option.bind (a3D n (Api_Type.mk ([Api_TypeNode.mk 2 0 0 (⟨#[]⟩:ByteArray) ([]:List Int) ([]:List Api_Field) (0,0),Api_TypeNode.mk 13 0 0 (⟨#[]⟩:ByteArray) ([]:List Int) ([]:List Api_Field) (0,0)]:List Api_TypeNode) 0) (Api_Line.mk 8 0 ([]:List Api_Range) (Api_Names.mk false ([]:List ByteArray)) ([1]:List Int) ([]:List Int) ([]:List ByteArray) ([]:List ByteArray))) fun r1 =>
 Option.bind (X4) fun r2 =>
 Option.bind (a1H ([Key.mk 0 (⟨#[97]⟩:ByteArray)]:List Key) ([r2]:List Val)) fun r3 =>
 Option.bind (z7 (b42 n r1 r3) ((r1.1.length:Int).toNat+1) (false,0)) fun b8 =>
 Option.bind (bif r1.2==0
 then (some (r3.2==0))
 else (some false)) fun q9 =>
 Option.bind (bif q9
 then (some b8)
 else (some false)) fun q10 =>
 some q10
def z8 (s:Semtypebase_Source)(n_1:Int):Option (Int×Semtypebase_Source) :=
 Option.bind (bif decide (n_1<1)
 then (some true)
 else (some (decide ((s.L.length:Int)<=s.At)))) fun q1 =>
 bif q1
 then (some (0,s))
 else (Option.bind (idx s.L s.At) fun e2 =>
 Option.bind (b9J e2 n_1) fun d3 =>
 bif decide (d3<0)
 then (some (wr .i64 (d3+n_1),Semtypebase_Source.mk s.L (wr .i64 (s.At+1))))
 else (some (d3,Semtypebase_Source.mk s.L (wr .i64 (s.At+1)))))
def V2 (s:Semtypebase_Source):Option (ByteArray×Semtypebase_Source) :=
 Option.bind (z8 s 4) fun r1 =>
 Option.bind (idx ([(⟨#[97]⟩:ByteArray),(⟨#[98]⟩:ByteArray),(⟨#[111,107]⟩:ByteArray),(⟨#[101,114,114,111,114]⟩:ByteArray)]:List ByteArray) r1.1) fun _ =>
 Option.bind (([(⟨#[97]⟩:ByteArray),(⟨#[98]⟩:ByteArray),(⟨#[111,107]⟩:ByteArray),(⟨#[101,114,114,111,114]⟩:ByteArray)]:List ByteArray)[r1.1.toNat]?) fun e3 =>
 some (e3,r1.2)
def a0b (s:Semtypebase_Source):Option (ByteArray×Semtypebase_Source) :=
 Option.bind (z8 s 4) fun r1 =>
 Option.bind (idx ([(⟨#[]⟩:ByteArray),(⟨#[115]⟩:ByteArray),(⟨#[120,32,121]⟩:ByteArray),(⟨#[97]⟩:ByteArray)]:List ByteArray) r1.1) fun _ =>
 Option.bind (([(⟨#[]⟩:ByteArray),(⟨#[115]⟩:ByteArray),(⟨#[120,32,121]⟩:ByteArray),(⟨#[97]⟩:ByteArray)]:List ByteArray)[r1.1.toNat]?) fun e3 =>
 some (e3,r1.2)
def a0x (s:Semtypebase_Source):Option (ByteArray×Semtypebase_Source) :=
 Option.bind (z8 s 3) fun r1 =>
 Option.bind (idx ([(⟨#[65]⟩:ByteArray),(⟨#[66]⟩:ByteArray),(⟨#[67]⟩:ByteArray)]:List ByteArray) r1.1) fun _ =>
 Option.bind (([(⟨#[65]⟩:ByteArray),(⟨#[66]⟩:ByteArray),(⟨#[67]⟩:ByteArray)]:List ByteArray)[r1.1.toNat]?) fun e3 =>
 some (e3,r1.2)
def a1h (from_:Int)(n_3:Int)(x1:Int×(List Int)×Semtypebase_Source):Option (Fl (Int×(List Int)×Semtypebase_Source) ((List Int)×Semtypebase_Source)) :=
 bif decide (0<x1.1)
 then (Option.bind (z8 x1.2.2 (wr .i64 (n_3-from_))) fun r2 =>
 Option.bind (Z4 (x1.2.1.length+([wr .i64 (from_+r2.1)]:List Int).length) 8) fun _ =>
 some (.next (wr .i64 (x1.1-1),x1.2.1++([wr .i64 (from_+r2.1)]:List Int),r2.2)))
 else (some (.done (x1.2.1,x1.2.2)))
def w3 (s:Semtypebase_Source)(many:Int)(from_:Int)(n_3:Int):Option ((List Int)×Semtypebase_Source) :=
 Option.bind (z7 (a1h from_ n_3) (many.toNat+2) (many,[],s)) fun b4 =>
 some (b4.1,b4.2)
def W7 (n_1:Int)(x3:Int×Semtypebase_Source×(Int×Int×Int×ByteArray×(List Int)×(List Api_Field)×Int×Int)):Option (Fl (Int×Semtypebase_Source×(Int×Int×Int×ByteArray×(List Int)×(List Api_Field)×Int×Int)) (Semtypebase_Source×(Int×Int×Int×ByteArray×(List Int)×(List Api_Field)×Int×Int))) :=
 bif decide (x3.1<3)
 then (Option.bind (Option.bind (z8 x3.2.1 2) fun r4 =>
 bif r4.1==1
 then (Option.bind (idx ([Key.mk 0 (⟨#[97]⟩:ByteArray),Key.mk 0 (⟨#[98]⟩:ByteArray),Key.mk 1 (⟨#[115]⟩:ByteArray)]:List Key) x3.1) fun e5 =>
 Option.bind (z8 r4.2 n_1) fun r6 =>
 Option.bind (z8 r6.2 2) fun r7 =>
 Option.bind (Z4 (x3.2.2.2.2.2.2.2.1.length+([Api_Field.mk e5 r6.1 (r7.1==1)]:List Api_Field).length) 40) fun _ =>
 some (r7.2,(x3.2.2.1,x3.2.2.2.1,x3.2.2.2.2.1,x3.2.2.2.2.2.1,x3.2.2.2.2.2.2.1,x3.2.2.2.2.2.2.2.1++([Api_Field.mk e5 r6.1 (r7.1==1)]:List Api_Field),x3.2.2.2.2.2.2.2.2.1,x3.2.2.2.2.2.2.2.2.2)))
 else (some (r4.2,(x3.2.2.1,x3.2.2.2.1,x3.2.2.2.2.1,x3.2.2.2.2.2.1,x3.2.2.2.2.2.2.1,x3.2.2.2.2.2.2.2.1,x3.2.2.2.2.2.2.2.2.1,x3.2.2.2.2.2.2.2.2.2)))) fun b9 =>
 some (.next (wr .i64 (x3.1+1),b9.1,(b9.2.1,b9.2.2.1,b9.2.2.2.1,b9.2.2.2.2.1,b9.2.2.2.2.2.1,b9.2.2.2.2.2.2.1,b9.2.2.2.2.2.2.2.1,b9.2.2.2.2.2.2.2.2))))
 else (some (.done (x3.2.1,(x3.2.2.1,x3.2.2.2.1,x3.2.2.2.2.1,x3.2.2.2.2.2.1,x3.2.2.2.2.2.2.1,x3.2.2.2.2.2.2.2.1,x3.2.2.2.2.2.2.2.2.1,x3.2.2.2.2.2.2.2.2.2))))
def a16 (s:Semtypebase_Source)(n_1:Int):Option (Api_TypeNode×Semtypebase_Source) :=
 Option.bind (z8 s n_1) fun r1 =>
 Option.bind (z8 r1.2 n_1) fun r2 =>
 Option.bind (z7 (W7 n_1) ((3:Int).toNat+1) (0,r2.2,(13,0,0,(⟨#[]⟩:ByteArray),[],[],r1.1,r2.1))) fun b10 =>
 some (Api_TypeNode.mk b10.2.1 b10.2.2.1 b10.2.2.2.1 b10.2.2.2.2.1 b10.2.2.2.2.2.1 b10.2.2.2.2.2.2.1 (b10.2.2.2.2.2.2.2.1,b10.2.2.2.2.2.2.2.2),b10.1)
def a2N (d:Semtypebase_Source)(t:Int)(a2_2:Int):Option (Api_TypeNode×Semtypebase_Source) :=
 Option.bind (bif t==(wr .i64 (a2_2-1))
 then (some 14)
 else (some 18)) fun b1 =>
 Option.bind (z8 d b1) fun r2 =>
 bif r2.1==0
 then (Option.bind (z8 r2.2 5) fun r3 =>
 Option.bind (idx ([(-9223372036854775808),0,1,2,9223372036854775807]:List Int) r3.1) fun _ =>
 Option.bind (([(-9223372036854775808),0,1,2,9223372036854775807]:List Int)[r3.1.toNat]?) fun e5 =>
 Option.bind (z8 r3.2 (wr .i64 (5-r3.1))) fun r6 =>
 Option.bind (idx ([(-9223372036854775808),0,1,2,9223372036854775807]:List Int) (wr .i64 (r3.1+r6.1))) fun _ =>
 Option.bind (([(-9223372036854775808),0,1,2,9223372036854775807]:List Int)[(wr .i64 (r3.1+r6.1)).toNat]?) fun e8 =>
 some (Api_TypeNode.mk 3 e5 e8 (⟨#[]⟩:ByteArray) ([]:List Int) ([]:List Api_Field) (0,0),r6.2))
 else (bif r2.1==1
 then (Option.bind (V2 r2.2) fun r9 =>
 some (Api_TypeNode.mk 6 0 0 r9.1 ([]:List Int) ([]:List Api_Field) (0,0),r9.2))
 else (bif r2.1==2
 then (some (Api_TypeNode.mk 7 0 0 (⟨#[]⟩:ByteArray) ([]:List Int) ([]:List Api_Field) (0,0),r2.2))
 else (bif r2.1==3
 then (Option.bind (a0b r2.2) fun r10 =>
 some (Api_TypeNode.mk 4 0 0 r10.1 ([]:List Int) ([]:List Api_Field) (0,0),r10.2))
 else (bif r2.1==4
 then (Option.bind (z8 r2.2 4) fun r11 =>
 Option.bind (idx ([5,8,11,15]:List Int) r11.1) fun _ =>
 Option.bind (([5,8,11,15]:List Int)[r11.1.toNat]?) fun e13 =>
 some (Api_TypeNode.mk e13 0 0 (⟨#[]⟩:ByteArray) ([]:List Int) ([]:List Api_Field) (0,0),r11.2))
 else (bif r2.1==5
 then (some (Api_TypeNode.mk 9 0 0 (⟨#[]⟩:ByteArray) ([]:List Int) ([]:List Api_Field) (0,0),r2.2))
 else (bif r2.1==6
 then (Option.bind (z8 r2.2 2) fun r14 =>
 Option.bind (idx ([2,1]:List Int) r14.1) fun _ =>
 Option.bind (([2,1]:List Int)[r14.1.toNat]?) fun e16 =>
 some (Api_TypeNode.mk e16 0 0 (⟨#[]⟩:ByteArray) ([]:List Int) ([]:List Api_Field) (0,0),r14.2))
 else (bif r2.1==7
 then (Option.bind (a0x r2.2) fun r17 =>
 some (Api_TypeNode.mk 19 0 0 r17.1 ([]:List Int) ([]:List Api_Field) (0,0),r17.2))
 else (Option.bind (bif r2.1==8
 then (some (r2.1==8))
 else (some (r2.1==9))) fun b18 =>
 bif b18
 then (Option.bind (z8 r2.2 3) fun r19 =>
 Option.bind (w3 r19.2 r19.1 0 a2_2) fun r20 =>
 some (Api_TypeNode.mk 10 0 0 (⟨#[]⟩:ByteArray) r20.1 ([]:List Api_Field) (0,0),r20.2))
 else (bif r2.1==10
 then (Option.bind (w3 r2.2 2 0 a2_2) fun r21 =>
 some (Api_TypeNode.mk 12 0 0 (⟨#[]⟩:ByteArray) r21.1 ([]:List Api_Field) (0,0),r21.2))
 else (bif r2.1==11
 then (Option.bind (a16 r2.2 a2_2) fun r22 =>
 some (r22.1,r22.2))
 else (Option.bind (bif r2.1==12
 then (some (r2.1==12))
 else (some (r2.1==13))) fun b23 =>
 bif b23
 then (Option.bind (z8 r2.2 3) fun r24 =>
 Option.bind (w3 r24.2 (wr .i64 (1+r24.1)) 0 a2_2) fun r25 =>
 some (Api_TypeNode.mk 14 0 0 (⟨#[]⟩:ByteArray) r25.1 ([]:List Api_Field) (0,0),r25.2))
 else (bif r2.1==14
 then (Option.bind (w3 r2.2 1 (wr .i64 (t+1)) a2_2) fun r26 =>
 some (Api_TypeNode.mk 18 0 0 (⟨#[]⟩:ByteArray) r26.1 ([]:List Api_Field) (0,0),r26.2))
 else (bif r2.1==15
 then (Option.bind (w3 r2.2 2 (wr .i64 (t+1)) a2_2) fun r27 =>
 some (Api_TypeNode.mk 17 0 0 (⟨#[]⟩:ByteArray) r27.1 ([]:List Api_Field) (0,0),r27.2))
 else (Option.bind (z8 r2.2 2) fun r28 =>
 Option.bind (w3 r28.2 (wr .i64 (2+r28.1)) (wr .i64 (t+1)) a2_2) fun r29 =>
 some (Api_TypeNode.mk 16 0 0 (⟨#[]⟩:ByteArray) r29.1 ([]:List Api_Field) (0,0),r29.2)))))))))))))))
def a0W (n_1:Int)(x1:Int×Semtypebase_Source×((List Api_TypeNode)×Int)):Option (Fl (Int×Semtypebase_Source×((List Api_TypeNode)×Int)) (Semtypebase_Source×((List Api_TypeNode)×Int))) :=
 bif decide (x1.1<(max n_1 1))
 then (Option.bind (a2N x1.2.1 x1.1 (max n_1 1)) fun r2 =>
 Option.bind (Z4 (x1.2.2.1.length+([r2.1]:List Api_TypeNode).length) 104) fun _ =>
 some (.next (wr .i64 (x1.1+1),r2.2,(x1.2.2.1++([r2.1]:List Api_TypeNode),x1.2.2.2))))
 else (some (.done (x1.2.1,(x1.2.2.1,x1.2.2.2))))
def a2R (s:Semtypebase_Source)(n_1:Int):Option (((List Api_TypeNode)×Int)×Semtypebase_Source) :=
 Option.bind (z7 (a0W n_1) ((max n_1 1).toNat+1) (0,s,([],0))) fun b4 =>
 some ((b4.2.1,b4.2.2),b4.1)
def a1y (r2:((List Api_TypeNode)×Int)×Semtypebase_Source)(x6:Int×Semtypebase_Source×(Int×Int×Int×ByteArray×(List Int)×(List Api_Field)×Int×Int)):Option (Fl (Int×Semtypebase_Source×(Int×Int×Int×ByteArray×(List Int)×(List Api_Field)×Int×Int)) (Semtypebase_Source×(Int×Int×Int×ByteArray×(List Int)×(List Api_Field)×Int×Int))) :=
 bif decide (x6.1<2)
 then (Option.bind (Option.bind (z8 x6.2.1 2) fun r7 =>
 bif r7.1==1
 then (Option.bind (idx ([(⟨#[97]⟩:ByteArray),(⟨#[98]⟩:ByteArray)]:List ByteArray) x6.1) fun _ =>
 Option.bind (([(⟨#[97]⟩:ByteArray),(⟨#[98]⟩:ByteArray)]:List ByteArray)[x6.1.toNat]?) fun e9 =>
 Option.bind (z8 r7.2 (r2.1.1.length:Int)) fun r10 =>
 Option.bind (z8 r10.2 2) fun r11 =>
 Option.bind (Z4 (x6.2.2.2.2.2.2.2.1.length+([Api_Field.mk (Key.mk 0 e9) r10.1 (r11.1==1)]:List Api_Field).length) 40) fun _ =>
 some (r11.2,(x6.2.2.1,x6.2.2.2.1,x6.2.2.2.2.1,x6.2.2.2.2.2.1,x6.2.2.2.2.2.2.1,x6.2.2.2.2.2.2.2.1++([Api_Field.mk (Key.mk 0 e9) r10.1 (r11.1==1)]:List Api_Field),x6.2.2.2.2.2.2.2.2.1,x6.2.2.2.2.2.2.2.2.2)))
 else (some (r7.2,(x6.2.2.1,x6.2.2.2.1,x6.2.2.2.2.1,x6.2.2.2.2.2.1,x6.2.2.2.2.2.2.1,x6.2.2.2.2.2.2.2.1,x6.2.2.2.2.2.2.2.2.1,x6.2.2.2.2.2.2.2.2.2)))) fun b13 =>
 some (.next (wr .i64 (x6.1+1),b13.1,(b13.2.1,b13.2.2.1,b13.2.2.2.1,b13.2.2.2.2.1,b13.2.2.2.2.2.1,b13.2.2.2.2.2.2.1,b13.2.2.2.2.2.2.2.1,b13.2.2.2.2.2.2.2.2))))
 else (some (.done (x6.2.1,(x6.2.2.1,x6.2.2.2.1,x6.2.2.2.2.1,x6.2.2.2.2.2.1,x6.2.2.2.2.2.2.1,x6.2.2.2.2.2.2.2.1,x6.2.2.2.2.2.2.2.2.1,x6.2.2.2.2.2.2.2.2.2))))
def a1x (r2:((List Api_TypeNode)×Int)×Semtypebase_Source)(x3:Int×((List Api_TypeNode)×Int)×Semtypebase_Source×(Int×Int×(List Api_Range)×Bool×(List ByteArray)×(List Int)×(List Int)×(List ByteArray)×(List ByteArray))):Option (Fl (Int×((List Api_TypeNode)×Int)×Semtypebase_Source×(Int×Int×(List Api_Range)×Bool×(List ByteArray)×(List Int)×(List Int)×(List ByteArray)×(List ByteArray))) (((List Api_TypeNode)×Int)×Semtypebase_Source×(Int×Int×(List Api_Range)×Bool×(List ByteArray)×(List Int)×(List Int)×(List ByteArray)×(List ByteArray)))) :=
 bif decide (x3.1<3)
 then (Option.bind (Option.bind (z8 x3.2.2.1 (r2.1.1.length:Int)) fun r4 =>
 Option.bind (z8 r4.2 (r2.1.1.length:Int)) fun r5 =>
 Option.bind (z7 (a1y r2) ((2:Int).toNat+1) (0,r5.2,(13,0,0,(⟨#[]⟩:ByteArray),[],[],r4.1,r5.1))) fun b14 =>
 Option.bind (Z4 (x3.2.1.1.length+([Api_TypeNode.mk b14.2.1 b14.2.2.1 b14.2.2.2.1 b14.2.2.2.2.1 b14.2.2.2.2.2.1 b14.2.2.2.2.2.2.1 (b14.2.2.2.2.2.2.2.1,b14.2.2.2.2.2.2.2.2)]:List Api_TypeNode).length) 104) fun _ =>
 Option.bind (z8 b14.1 3) fun r16 =>
 Option.bind (bif r16.1==0
 then (Option.bind (Z4 (x3.2.2.2.2.2.2.2.2.1.length+([wr .i64 ((r2.1.1.length:Int)+x3.1)]:List Int).length) 8) fun _ =>
 some (x3.2.2.2.1,x3.2.2.2.2.1,x3.2.2.2.2.2.1,x3.2.2.2.2.2.2.1,x3.2.2.2.2.2.2.2.1,x3.2.2.2.2.2.2.2.2.1++([wr .i64 ((r2.1.1.length:Int)+x3.1)]:List Int),x3.2.2.2.2.2.2.2.2.2.1,x3.2.2.2.2.2.2.2.2.2.2.1,x3.2.2.2.2.2.2.2.2.2.2.2))
 else (some (x3.2.2.2.1,x3.2.2.2.2.1,x3.2.2.2.2.2.1,x3.2.2.2.2.2.2.1,x3.2.2.2.2.2.2.2.1,x3.2.2.2.2.2.2.2.2.1,x3.2.2.2.2.2.2.2.2.2.1,x3.2.2.2.2.2.2.2.2.2.2.1,x3.2.2.2.2.2.2.2.2.2.2.2))) fun b18 =>
 bif r16.1==1
 then (Option.bind (Z4 (b18.2.2.2.2.2.2.1.length+([wr .i64 ((r2.1.1.length:Int)+x3.1)]:List Int).length) 8) fun _ =>
 some ((x3.2.1.1++([Api_TypeNode.mk b14.2.1 b14.2.2.1 b14.2.2.2.1 b14.2.2.2.2.1 b14.2.2.2.2.2.1 b14.2.2.2.2.2.2.1 (b14.2.2.2.2.2.2.2.1,b14.2.2.2.2.2.2.2.2)]:List Api_TypeNode),x3.2.1.2),r16.2,(b18.1,b18.2.1,b18.2.2.1,b18.2.2.2.1,b18.2.2.2.2.1,b18.2.2.2.2.2.1,b18.2.2.2.2.2.2.1++([wr .i64 ((r2.1.1.length:Int)+x3.1)]:List Int),b18.2.2.2.2.2.2.2.1,b18.2.2.2.2.2.2.2.2)))
 else (some ((x3.2.1.1++([Api_TypeNode.mk b14.2.1 b14.2.2.1 b14.2.2.2.1 b14.2.2.2.2.1 b14.2.2.2.2.2.1 b14.2.2.2.2.2.2.1 (b14.2.2.2.2.2.2.2.1,b14.2.2.2.2.2.2.2.2)]:List Api_TypeNode),x3.2.1.2),r16.2,(b18.1,b18.2.1,b18.2.2.1,b18.2.2.2.1,b18.2.2.2.2.1,b18.2.2.2.2.2.1,b18.2.2.2.2.2.2.1,b18.2.2.2.2.2.2.2.1,b18.2.2.2.2.2.2.2.2)))) fun b20 =>
 some (.next (wr .i64 (x3.1+1),(b20.1.1,b20.1.2),b20.2.1,(b20.2.2.1,b20.2.2.2.1,b20.2.2.2.2.1,b20.2.2.2.2.2.1,b20.2.2.2.2.2.2.1,b20.2.2.2.2.2.2.2.1,b20.2.2.2.2.2.2.2.2.1,b20.2.2.2.2.2.2.2.2.2.1,b20.2.2.2.2.2.2.2.2.2.2))))
 else (some (.done ((x3.2.1.1,x3.2.1.2),x3.2.2.1,(x3.2.2.2.1,x3.2.2.2.2.1,x3.2.2.2.2.2.1,x3.2.2.2.2.2.2.1,x3.2.2.2.2.2.2.2.1,x3.2.2.2.2.2.2.2.2.1,x3.2.2.2.2.2.2.2.2.2.1,x3.2.2.2.2.2.2.2.2.2.2.1,x3.2.2.2.2.2.2.2.2.2.2.2))))
def a5y (d:List Int)(t:List Int):Option (Api_Type×Api_Line) :=
 Option.bind (z8 (Semtypebase_Source.mk d 0) 4) fun r1 =>
 Option.bind (a2R r1.2 (wr .i64 (1+r1.1))) fun r2 =>
 Option.bind (z7 (a1x r2) ((3:Int).toNat+1) (0,(r2.1.1,r2.1.2),Semtypebase_Source.mk t 0,(8,0,[],false,[],[],[],[],[]))) fun b21 =>
 some (Api_Type.mk b21.1.1 b21.1.2,Api_Line.mk b21.2.2.1 b21.2.2.2.1 b21.2.2.2.2.1 (Api_Names.mk b21.2.2.2.2.2.1 b21.2.2.2.2.2.2.1) b21.2.2.2.2.2.2.2.1 b21.2.2.2.2.2.2.2.2.1 b21.2.2.2.2.2.2.2.2.2.1 b21.2.2.2.2.2.2.2.2.2.2)
def a2o (s:Semtypebase_Source):Option (Int×Semtypebase_Source) :=
 Option.bind (z8 s 10) fun r1 =>
 Option.bind (idx ([0,1,(-1),2,3,(-2),7,(-9223372036854775808),9223372036854775807,10]:List Int) r1.1) fun _ =>
 Option.bind (([0,1,(-1),2,3,(-2),7,(-9223372036854775808),9223372036854775807,10]:List Int)[r1.1.toNat]?) fun e3 =>
 some (e3,r1.2)
def a8R (n_0:Int):Option Val :=
 some (Val.mk 1 n_0 (⟨#[]⟩:ByteArray) ([]:List Val) ([]:List Key) ([]:List Ent) ([]:List ByteArray))
def a5Z (s:ByteArray):Option Val :=
 some (Val.mk 3 0 s ([]:List Val) ([]:List Key) ([]:List Ent) ([]:List ByteArray))
def a5j (s:ByteArray):Option Val :=
 some (Val.mk 2 0 s ([]:List Val) ([]:List Key) ([]:List Ent) ([]:List ByteArray))
def a8G (n_0:Int):Option Val :=
 some (Val.mk 4 n_0 (⟨#[]⟩:ByteArray) ([]:List Val) ([]:List Key) ([]:List Ent) ([]:List ByteArray))
def a3T (l:List Val):Option Val :=
 Option.bind (a1l l) fun r1 =>
 some (Val.mk 6 0 (⟨#[]⟩:ByteArray) r1 ([]:List Key) ([]:List Ent) ([]:List ByteArray))
def K6 (s:Semtypebase_Source):Option (Val×Semtypebase_Source) :=
 Option.bind (z8 s 6) fun r1 =>
 bif r1.1==0
 then (Option.bind (a2o r1.2) fun r2 =>
 Option.bind (a8R r2.1) fun r3 =>
 some (r3,r2.2))
 else (bif r1.1==1
 then (Option.bind (V2 r1.2) fun r4 =>
 Option.bind (a5Z r4.1) fun r5 =>
 some (r5,r4.2))
 else (bif r1.1==2
 then (Option.bind (a0b r1.2) fun r6 =>
 Option.bind (a5j r6.1) fun r7 =>
 some (r7,r6.2))
 else (bif r1.1==3
 then (Option.bind (z8 r1.2 3) fun r8 =>
 Option.bind (a8G r8.1) fun r9 =>
 some (r9,r8.2))
 else (bif r1.1==4
 then (Option.bind (X4) fun r10 =>
 some (r10,r1.2))
 else (Option.bind (a3T ([]:List Val)) fun r11 =>
 some (r11,r1.2))))))
def a0p (a:Int)(b:Int):Option Int :=
 Option.bind (a2J a b) fun r1 =>
 some r1
def a7T (d:Val)(t:Val)(x5:Int):Option (Fl Int (Sum Unit Int)) :=
 bif decide (x5<(d.Keys.length:Int))
 then (Option.bind (idx d.Keys x5) fun e6 =>
 Option.bind (idx t.Keys x5) fun e7 =>
 Option.bind (J5 e6 e7) fun r8 =>
 bif r8 != 0
 then (some (.done (.inr r8)))
 else (some (.next (wr .i64 (x5+1)))))
 else (some (.done (.inl ())))
def a7W (d:Val)(t:Val)(rec_semtyperef1_CompareEntries:Ent->Ent->Option Int)(x14:Int):Option (Fl Int (Sum Unit Int)) :=
 bif decide (x14<(d.Entries.length:Int))
 then (Option.bind (idx d.Entries x14) fun e15 =>
 Option.bind (idx t.Entries x14) fun e16 =>
 Option.bind (rec_semtyperef1_CompareEntries e15 e16) fun r17 =>
 bif r17 != 0
 then (some (.done (.inr r17)))
 else (some (.next (wr .i64 (x14+1)))))
 else (some (.done (.inl ())))
def a7S (d:Val)(t:Val)(x22:Int):Option (Fl Int (Sum Unit Int)) :=
 bif decide (x22<(d.Labels.length:Int))
 then (Option.bind (idx d.Labels x22) fun e23 =>
 Option.bind (idx t.Labels x22) fun e24 =>
 Option.bind (a1m e23 e24) fun r25 =>
 bif r25 != 0
 then (some (.done (.inr r25)))
 else (some (.next (wr .i64 (x22+1)))))
 else (some (.done (.inl ())))
def a8s (a:List Val)(b:List Val)(rec_semtyperef1_Compare:Val->Val->Option Int)(x2:Int):Option (Fl Int (Sum Unit Int)) :=
 bif decide (x2<(a.length:Int))
 then (Option.bind (idx a x2) fun e3 =>
 Option.bind (idx b x2) fun e4 =>
 Option.bind (rec_semtyperef1_Compare e3 e4) fun r5 =>
 bif r5 != 0
 then (some (.done (.inr r5)))
 else (some (.next (wr .i64 (x2+1)))))
 else (some (.done (.inl ())))
def a5P (_:Nat)(_:Val->Val->Option Int)(rec_semtyperef1_values:(List Val)->(List Val)->Option Int)(rec_semtyperef1_CompareEntries:Ent->Ent->Option Int)(d:Val)(t:Val):Option Int :=
 bif d.Kind != t.Kind
 then (Option.bind (a0p d.Kind t.Kind) fun r1 =>
 some r1)
 else (bif d.Int_ != t.Int_
 then (Option.bind (a2J d.Int_ t.Int_) fun r2 =>
 some r2)
 else (bif !(Q4 d.Text t.Text)
 then (Option.bind (a1m d.Text t.Text) fun r3 =>
 some r3)
 else (bif (d.Keys.length:Int) != (t.Keys.length:Int)
 then (Option.bind (a0p (d.Keys.length:Int) (t.Keys.length:Int)) fun r4 =>
 some r4)
 else (Option.bind (z7 (a7T d t) ((d.Keys.length:Int).toNat+1) 0) fun b9 =>
 j9 (fun _ =>
 Option.bind (rec_semtyperef1_values d.Kids t.Kids) fun r12 =>
 bif r12 != 0
 then (some r12)
 else (bif (d.Entries.length:Int) != (t.Entries.length:Int)
 then (Option.bind (a0p (d.Entries.length:Int) (t.Entries.length:Int)) fun r13 =>
 some r13)
 else (Option.bind (z7 (a7W d t rec_semtyperef1_CompareEntries) ((d.Entries.length:Int).toNat+1) 0) fun b18 =>
 j9 (fun _ =>
 bif (d.Labels.length:Int) != (t.Labels.length:Int)
 then (Option.bind (a0p (d.Labels.length:Int) (t.Labels.length:Int)) fun r21 =>
 some r21)
 else (Option.bind (z7 (a7S d t) ((d.Labels.length:Int).toNat+1) 0) fun b26 =>
 j9 (fun _ =>
 some 0) (fun y28 =>
 some y28) b26)) (fun y20 =>
 some y20) b18))) (fun y11 =>
 some y11) b9))))
def a6g (_:Nat)(rec_semtyperef1_Compare:Val->Val->Option Int)(_:(List Val)->(List Val)->Option Int)(_:Ent->Ent->Option Int)(a:List Val)(b:List Val):Option Int :=
 bif (a.length:Int) != (b.length:Int)
 then (Option.bind (a0p (a.length:Int) (b.length:Int)) fun r1 =>
 some r1)
 else (Option.bind (z7 (a8s a b rec_semtyperef1_Compare) ((a.length:Int).toNat+1) 0) fun b6 =>
 j9 (fun _ =>
 some 0) (fun y8 =>
 some y8) b6)
def a21 (_:Nat)(rec_semtyperef1_Compare:Val->Val->Option Int)(rec_semtyperef1_values:(List Val)->(List Val)->Option Int)(_:Ent->Ent->Option Int)(a:Ent)(b:Ent):Option Int :=
 Option.bind (rec_semtyperef1_values a.Args b.Args) fun r1 =>
 bif r1 != 0
 then (some r1)
 else (bif a.Fails != b.Fails
 then (bif a.Fails
 then (some (-1))
 else (some 1))
 else (Option.bind (rec_semtyperef1_Compare a.Result b.Result) fun r2 =>
 some r2))
def Y7:Nat->(Val->Val->Option Int)×((List Val)->(List Val)->Option Int)×(Ent->Ent->Option Int)
 | 0=>(fun _ _=>none,fun _ _=>none,fun _ _=>none)
 | n+1=>(a5P n ((Y7 n).1) ((Y7 n).2.1) ((Y7 n).2.2),a6g n ((Y7 n).1) ((Y7 n).2.1) ((Y7 n).2.2),a21 n ((Y7 n).1) ((Y7 n).2.1) ((Y7 n).2.2))
def a0m (n:Nat):Val->Val->Option Int:=(Y7 n).1
def a3p (n:Nat):(List Val)->(List Val)->Option Int:=(Y7 n).2.1
def Z8 (n:Nat):Ent->Ent->Option Int:=(Y7 n).2.2
def a3Z (n:Nat)(a:Val)(b:Val):Option Bool :=
 Option.bind (a0m n a b) fun r1 =>
 some (r1==0)
def a29 (l:List Ent)(x1:(List Ent)×Int)(n:Nat)(x2:Int):Option (Fl Int Int) :=
 Option.bind (bif decide (x2<(x1.1.length:Int))
 then (Option.bind (idx x1.1 x2) fun e3 =>
 Option.bind (idx l x1.2) fun _ =>
 Option.bind (l[x1.2.toNat]?) fun e5 =>
 Option.bind (Z8 n e3 e5) fun r6 =>
 some (decide (r6<0)))
 else (some false)) fun q7 =>
 bif q7
 then (some (.next (wr .i64 (x2+1))))
 else (some (.done x2))
def a0j (l:List Ent)(n:Nat)(x1:(List Ent)×Int):Option (Fl ((List Ent)×Int) (List Ent)) :=
 bif decide (x1.2<(l.length:Int))
 then (Option.bind (Option.bind (z7 (a29 l x1 n) ((x1.1.length:Int).toNat+1) 0) fun b8 =>
 Option.bind (bif decide (b8<(x1.1.length:Int))
 then (Option.bind (idx x1.1 b8) fun e9 =>
 Option.bind (idx l x1.2) fun _ =>
 Option.bind (l[x1.2.toNat]?) fun e11 =>
 Option.bind (Z8 n e9 e11) fun r12 =>
 some (r12==0))
 else (some false)) fun q13 =>
 bif q13
 then (some x1.1)
 else (Option.bind (cut x1.1 0 b8) fun y14 =>
 Option.bind (Z4 (0+y14.length) 160) fun _ =>
 Option.bind (idx l x1.2) fun _ =>
 Option.bind (l[x1.2.toNat]?) fun e17 =>
 Option.bind (Z4 (y14.length+([e17]:List Ent).length) 160) fun _ =>
 Option.bind (cut x1.1 b8 (x1.1.length:Int)) fun y19 =>
 Option.bind (Z4 ((y14++([e17]:List Ent)).length+y19.length) 160) fun _ =>
 some ((y14++([e17]:List Ent))++y19))) fun b21 =>
 some (.next (b21,wr .i64 (x1.2+1))))
 else (some (.done x1.1))
def a4K (n:Nat)(l:List Ent):Option (List Ent) :=
 Option.bind (z7 (a0j l n) ((l.length:Int).toNat+1) (([]:List Ent),0)) fun b22 =>
 some b22
def a0M (arity:Int)(l:List Ent)(n:Nat)(x2:Int×(Int×Int×ByteArray×(List Val)×(List Key)×(List Ent)×(List ByteArray))):Option (Fl (Int×(Int×Int×ByteArray×(List Val)×(List Key)×(List Ent)×(List ByteArray))) (Sum (Int×Int×ByteArray×(List Val)×(List Key)×(List Ent)×(List ByteArray)) (Int×(Int×Int×ByteArray×(List Val)×(List Key)×(List Ent)×(List ByteArray))))) :=
 bif decide (x2.1<(l.length:Int))
 then (Option.bind (idx l x2.1) fun _ =>
 Option.bind (l[x2.1.toNat]?) fun e4 =>
 Option.bind (bif (e4.Args.length:Int) != arity
 then (some true)
 else (Option.bind (idx l x2.1) fun _ =>
 Option.bind (l[x2.1.toNat]?) fun e6 =>
 Option.bind (bif e6.Fails
 then (Option.bind (idx l x2.1) fun _ =>
 Option.bind (l[x2.1.toNat]?) fun e8 =>
 Option.bind (a3Z n e8.Result (Val.mk 0 0 (⟨#[]⟩:ByteArray) ([]:List Val) ([]:List Key) ([]:List Ent) ([]:List ByteArray))) fun r9 =>
 some (!r9))
 else (some false)) fun q10 =>
 some q10)) fun q11 =>
 bif q11
 then (some (.done (.inr (1,(0,0,(⟨#[]⟩:ByteArray),[],[],[],[])))))
 else (some (.next (wr .i64 (x2.1+1),(x2.2.1,x2.2.2.1,x2.2.2.2.1,x2.2.2.2.2.1,x2.2.2.2.2.2.1,x2.2.2.2.2.2.2.1,x2.2.2.2.2.2.2.2)))))
 else (some (.done (.inl (x2.2.1,x2.2.2.1,x2.2.2.2.1,x2.2.2.2.2.1,x2.2.2.2.2.2.1,x2.2.2.2.2.2.2.1,x2.2.2.2.2.2.2.2))))
def a2w (n:Nat)(arity:Int)(l:List Ent):Option (Val×Int) :=
 Option.bind (bif decide (arity<0)
 then (some true)
 else (some (decide (4<arity)))) fun q1 =>
 bif q1
 then (some (Val.mk 0 0 (⟨#[]⟩:ByteArray) ([]:List Val) ([]:List Key) ([]:List Ent) ([]:List ByteArray),1))
 else (Option.bind (z7 (a0M arity l n) ((l.length:Int).toNat+1) (0,(0,0,(⟨#[]⟩:ByteArray),[],[],[],[]))) fun (b12:Sum (Int×Int×ByteArray×(List Val)×(List Key)×(List Ent)×(List ByteArray)) (Int×(Int×Int×ByteArray×(List Val)×(List Key)×(List Ent)×(List ByteArray)))) =>
 j9 (fun _ =>
 Option.bind (a4K n l) fun r15 =>
 some (Val.mk 9 arity (⟨#[]⟩:ByteArray) ([]:List Val) ([]:List Key) r15 ([]:List ByteArray),0)) (fun y14 =>
 some (Val.mk y14.2.1 y14.2.2.1 y14.2.2.2.1 y14.2.2.2.2.1 y14.2.2.2.2.2.1 y14.2.2.2.2.2.2.1 y14.2.2.2.2.2.2.2,y14.1)) b12)
def a3z (l:List ByteArray)(x1:(List ByteArray)×Int)(x2:Int):Option (Fl Int Int) :=
 Option.bind (bif decide (x2<(x1.1.length:Int))
 then (Option.bind (idx x1.1 x2) fun e3 =>
 Option.bind (idx l x1.2) fun e4 =>
 some (a2S e3 e4))
 else (some false)) fun q5 =>
 bif q5
 then (some (.next (wr .i64 (x2+1))))
 else (some (.done x2))
def a0t (l:List ByteArray)(x1:(List ByteArray)×Int):Option (Fl ((List ByteArray)×Int) (List ByteArray)) :=
 bif decide (x1.2<(l.length:Int))
 then (Option.bind (Option.bind (z7 (a3z l x1) ((x1.1.length:Int).toNat+1) 0) fun b6 =>
 Option.bind (bif decide (b6<(x1.1.length:Int))
 then (Option.bind (idx x1.1 b6) fun e7 =>
 Option.bind (idx l x1.2) fun e8 =>
 some (Q4 e7 e8))
 else (some false)) fun q9 =>
 bif q9
 then (some x1.1)
 else (Option.bind (cut x1.1 0 b6) fun y10 =>
 Option.bind (Z4 (0+y10.length) 16) fun _ =>
 Option.bind (idx l x1.2) fun e12 =>
 Option.bind (Z4 (y10.length+([e12]:List ByteArray).length) 16) fun _ =>
 Option.bind (cut x1.1 b6 (x1.1.length:Int)) fun y14 =>
 Option.bind (Z4 ((y10++([e12]:List ByteArray)).length+y14.length) 16) fun _ =>
 some ((y10++([e12]:List ByteArray))++y14))) fun b16 =>
 some (.next (b16,wr .i64 (x1.2+1))))
 else (some (.done x1.1))
def a0d (l:List ByteArray):Option (List ByteArray) :=
 Option.bind (z7 (a0t l) ((l.length:Int).toNat+1) (([]:List ByteArray),0)) fun b17 =>
 some b17
def a5s (v:Val)(names:List ByteArray):Option Val :=
 Option.bind (a0d names) fun r1 =>
 some (Val.mk v.Kind v.Int_ v.Text v.Kids v.Keys v.Entries r1)
def a6a (head:Val)(tail:Val):Option Val :=
 some (Val.mk 7 0 (⟨#[]⟩:ByteArray) ([head,tail]:List Val) ([]:List Key) ([]:List Ent) ([]:List ByteArray))
def a1a (s:Semtypebase_Source):Option ((List ByteArray)×Semtypebase_Source) :=
 Option.bind (z8 s 3) fun r1 =>
 Option.bind (bif r1.1==1
 then (Option.bind (a0x r1.2) fun r2 =>
 Option.bind (Z4 (0+([r2.1]:List ByteArray).length) 16) fun _ =>
 Option.bind (z8 r2.2 2) fun r4 =>
 bif r4.1==1
 then (Option.bind (a0x r4.2) fun r5 =>
 Option.bind (Z4 (([r2.1]:List ByteArray).length+([r5.1]:List ByteArray).length) 16) fun _ =>
 some (([r2.1]:List ByteArray)++([r5.1]:List ByteArray),r5.2))
 else (some (([r2.1]:List ByteArray),r4.2)))
 else (some ([],r1.2))) fun b7 =>
 Option.bind (a0d b7.1) fun r8 =>
 some (r8,b7.2)
def a3e (s:Semtypebase_Source):Option (Key×Semtypebase_Source) :=
 Option.bind (z8 s 2) fun r1 =>
 bif r1.1==0
 then (Option.bind (V2 r1.2) fun r2 =>
 some (Key.mk 0 r2.1,r2.2))
 else (Option.bind (a0b r1.2) fun r3 =>
 some (Key.mk 1 r3.1,r3.2))
def a1L (t:Int)(rec_semtypebase_Source_Value:Semtypebase_Source->Int->Option (Val×Semtypebase_Source))(x4:(List Val)×Int×Semtypebase_Source):Option (Fl ((List Val)×Int×Semtypebase_Source) ((List Val)×Semtypebase_Source)) :=
 bif decide (0<x4.2.1)
 then (Option.bind (rec_semtypebase_Source_Value x4.2.2 (wr .i64 (t-1))) fun r5 =>
 Option.bind (Z4 (x4.1.length+([r5.1]:List Val).length) 128) fun _ =>
 some (.next (x4.1++([r5.1]:List Val),wr .i64 (x4.2.1-1),r5.2)))
 else (some (.done (x4.1,x4.2.2)))
def a1K (t:Int)(rec_semtypebase_Source_Value:Semtypebase_Source->Int->Option (Val×Semtypebase_Source))(x20:(List Key)×(List Val)×Int×Semtypebase_Source):Option (Fl ((List Key)×(List Val)×Int×Semtypebase_Source) ((List Key)×(List Val)×Semtypebase_Source)) :=
 bif decide (0<x20.2.2.1)
 then (Option.bind (a3e x20.2.2.2) fun r21 =>
 Option.bind (Z4 (x20.1.length+([r21.1]:List Key).length) 24) fun _ =>
 Option.bind (rec_semtypebase_Source_Value r21.2 (wr .i64 (t-1))) fun r23 =>
 Option.bind (Z4 (x20.2.1.length+([r23.1]:List Val).length) 128) fun _ =>
 some (.next (x20.1++([r21.1]:List Key),x20.2.1++([r23.1]:List Val),wr .i64 (x20.2.2.1-1),r23.2)))
 else (some (.done (x20.1,x20.2.1,x20.2.2.2)))
def a1M (t:Int)(r27:Int×Semtypebase_Source)(rec_semtypebase_Source_entry:Semtypebase_Source->Int->Int->Option (Ent×Semtypebase_Source))(x29:(List Ent)×Int×Semtypebase_Source):Option (Fl ((List Ent)×Int×Semtypebase_Source) ((List Ent)×Semtypebase_Source)) :=
 bif decide (0<x29.2.1)
 then (Option.bind (rec_semtypebase_Source_entry x29.2.2 r27.1 (wr .i64 (t-1))) fun r30 =>
 Option.bind (Z4 (x29.1.length+([r30.1]:List Ent).length) 160) fun _ =>
 some (.next (x29.1++([r30.1]:List Ent),wr .i64 (x29.2.1-1),r30.2)))
 else (some (.done (x29.1,x29.2.2)))
def a1J (height:Int)(rec_semtypebase_Source_Value:Semtypebase_Source->Int->Option (Val×Semtypebase_Source))(x1:Int×Semtypebase_Source×((List Val)×Bool×Int×Int×ByteArray×(List Val)×(List Key)×(List Ent)×(List ByteArray))):Option (Fl (Int×Semtypebase_Source×((List Val)×Bool×Int×Int×ByteArray×(List Val)×(List Key)×(List Ent)×(List ByteArray))) (Semtypebase_Source×((List Val)×Bool×Int×Int×ByteArray×(List Val)×(List Key)×(List Ent)×(List ByteArray)))) :=
 bif decide (0<x1.1)
 then (Option.bind (rec_semtypebase_Source_Value x1.2.1 height) fun r2 =>
 Option.bind (Z4 (x1.2.2.1.length+([r2.1]:List Val).length) 128) fun _ =>
 some (.next (wr .i64 (x1.1-1),r2.2,(x1.2.2.1++([r2.1]:List Val),x1.2.2.2.1,x1.2.2.2.2.1,x1.2.2.2.2.2.1,x1.2.2.2.2.2.2.1,x1.2.2.2.2.2.2.2.1,x1.2.2.2.2.2.2.2.2.1,x1.2.2.2.2.2.2.2.2.2.1,x1.2.2.2.2.2.2.2.2.2.2))))
 else (some (.done (x1.2.1,(x1.2.2.1,x1.2.2.2.1,x1.2.2.2.2.1,x1.2.2.2.2.2.1,x1.2.2.2.2.2.2.1,x1.2.2.2.2.2.2.2.1,x1.2.2.2.2.2.2.2.2.1,x1.2.2.2.2.2.2.2.2.2.1,x1.2.2.2.2.2.2.2.2.2.2))))
def a3E (_:Nat)(_:Semtypebase_Source->Int->Option (Val×Semtypebase_Source))(rec_semtypebase_Source_value:Semtypebase_Source->Int->Option (Val×Semtypebase_Source))(_:Semtypebase_Source->Int->Int->Option (Ent×Semtypebase_Source))(s:Semtypebase_Source)(height:Int):Option (Val×Semtypebase_Source) :=
 Option.bind (rec_semtypebase_Source_value s height) fun r1 =>
 Option.bind (a1a r1.2) fun r2 =>
 some (Val.mk r1.1.Kind r1.1.Int_ r1.1.Text r1.1.Kids r1.1.Keys r1.1.Entries r2.1,r2.2)
def a0X (n:Nat)(rec_semtypebase_Source_Value:Semtypebase_Source->Int->Option (Val×Semtypebase_Source))(_:Semtypebase_Source->Int->Option (Val×Semtypebase_Source))(rec_semtypebase_Source_entry:Semtypebase_Source->Int->Int->Option (Ent×Semtypebase_Source))(d:Semtypebase_Source)(t:Int):Option (Val×Semtypebase_Source) :=
 bif decide (t<=1)
 then (Option.bind (K6 d) fun r1 =>
 some (r1.1,r1.2))
 else (Option.bind (z8 d 6) fun r2 =>
 Option.bind (bif r2.1==1
 then (Option.bind (z8 r2.2 4) fun r3 =>
 Option.bind (z7 (a1L t rec_semtypebase_Source_Value) (r3.1.toNat+2) ([],r3.1,r3.2)) fun b7 =>
 Option.bind (a3T b7.1) fun r8 =>
 some (.inr (b7.2,(r8.Kind,r8.Int_,r8.Text,r8.Kids,r8.Keys,r8.Entries,r8.Labels))))
 else (bif r2.1==2
 then (Option.bind (X4) fun r9 =>
 Option.bind (bif decide (2<t)
 then (Option.bind (z8 r2.2 2) fun r10 =>
 some (r10.1==1,r10.2))
 else (some (false,r2.2))) fun b11 =>
 Option.bind (bif b11.1
 then (Option.bind (rec_semtypebase_Source_Value b11.2 (wr .i64 (t-2))) fun r12 =>
 Option.bind (X4) fun r13 =>
 Option.bind (a6a r12.1 r13) fun r14 =>
 some (r12.2,r14))
 else (some (b11.2,r9))) fun b15 =>
 Option.bind (a1a b15.1) fun r16 =>
 Option.bind (rec_semtypebase_Source_Value r16.2 (wr .i64 (t-1))) fun r17 =>
 Option.bind (a6a r17.1 (Val.mk b15.2.Kind b15.2.Int_ b15.2.Text b15.2.Kids b15.2.Keys b15.2.Entries r16.1)) fun r18 =>
 some (.inr (r17.2,(r18.Kind,r18.Int_,r18.Text,r18.Kids,r18.Keys,r18.Entries,r18.Labels))))
 else (bif r2.1==3
 then (Option.bind (z8 r2.2 3) fun r19 =>
 Option.bind (z7 (a1K t rec_semtypebase_Source_Value) (r19.1.toNat+2) ([],[],r19.1,r19.2)) fun b25 =>
 Option.bind (a1H b25.1 b25.2.1) fun r26 =>
 bif r26.2==0
 then (some (.inr (b25.2.2,(r26.1.Kind,r26.1.Int_,r26.1.Text,r26.1.Kids,r26.1.Keys,r26.1.Entries,r26.1.Labels))))
 else (some (.inl (b25.2.2,(0,0,(⟨#[]⟩:ByteArray),([]:List Val),([]:List Key),([]:List Ent),([]:List ByteArray))))))
 else (bif r2.1==4
 then (Option.bind (z8 r2.2 3) fun r27 =>
 Option.bind (z8 r27.2 3) fun r28 =>
 Option.bind (z7 (a1M t r27 rec_semtypebase_Source_entry) (r28.1.toNat+2) ([],r28.1,r28.2)) fun b32 =>
 Option.bind (a2w n r27.1 b32.1) fun r33 =>
 bif r33.2==0
 then (some (.inr (b32.2,(r33.1.Kind,r33.1.Int_,r33.1.Text,r33.1.Kids,r33.1.Keys,r33.1.Entries,r33.1.Labels))))
 else (some (.inl (b32.2,(0,0,(⟨#[]⟩:ByteArray),([]:List Val),([]:List Key),([]:List Ent),([]:List ByteArray))))))
 else (some (.inl (r2.2,(0,0,(⟨#[]⟩:ByteArray),([]:List Val),([]:List Key),([]:List Ent),([]:List ByteArray))))))))) fun (b34:Sum (Semtypebase_Source×(Int×Int×ByteArray×(List Val)×(List Key)×(List Ent)×(List ByteArray))) (Semtypebase_Source×(Int×Int×ByteArray×(List Val)×(List Key)×(List Ent)×(List ByteArray)))) =>
 j9 (fun x35 =>
 Option.bind (K6 x35.1) fun r37 =>
 some (r37.1,r37.2)) (fun y36 =>
 some (Val.mk y36.2.1 y36.2.2.1 y36.2.2.2.1 y36.2.2.2.2.1 y36.2.2.2.2.2.1 y36.2.2.2.2.2.2.1 y36.2.2.2.2.2.2.2,y36.1)) b34)
def a3H (_:Nat)(rec_semtypebase_Source_Value:Semtypebase_Source->Int->Option (Val×Semtypebase_Source))(_:Semtypebase_Source->Int->Option (Val×Semtypebase_Source))(_:Semtypebase_Source->Int->Int->Option (Ent×Semtypebase_Source))(s:Semtypebase_Source)(n_1:Int)(height:Int):Option (Ent×Semtypebase_Source) :=
 Option.bind (z7 (a1J height rec_semtypebase_Source_Value) (n_1.toNat+2) (n_1,s,([],false,0,0,(⟨#[]⟩:ByteArray),[],[],[],[]))) fun b4 =>
 Option.bind (z8 b4.1 4) fun r5 =>
 bif r5.1==1
 then (some (Ent.mk b4.2.1 true (Val.mk b4.2.2.2.1 b4.2.2.2.2.1 b4.2.2.2.2.2.1 b4.2.2.2.2.2.2.1 b4.2.2.2.2.2.2.2.1 b4.2.2.2.2.2.2.2.2.1 b4.2.2.2.2.2.2.2.2.2),r5.2))
 else (Option.bind (rec_semtypebase_Source_Value r5.2 height) fun r6 =>
 some (Ent.mk b4.2.1 b4.2.2.1 r6.1,r6.2))
def j7:Nat->(Semtypebase_Source->Int->Option (Val×Semtypebase_Source))×(Semtypebase_Source->Int->Option (Val×Semtypebase_Source))×(Semtypebase_Source->Int->Int->Option (Ent×Semtypebase_Source))
 | 0=>(fun _ _=>none,fun _ _=>none,fun _ _ _=>none)
 | n+1=>(a3E n ((j7 n).1) ((j7 n).2.1) ((j7 n).2.2),a0X n ((j7 n).1) ((j7 n).2.1) ((j7 n).2.2),a3H n ((j7 n).1) ((j7 n).2.1) ((j7 n).2.2))
def a2y (n:Nat):Semtypebase_Source->Int->Option (Val×Semtypebase_Source):=(j7 n).1
def b2p (n:Nat):Semtypebase_Source->Int->Option (Val×Semtypebase_Source):=(j7 n).2.1
def b2B (n:Nat):Semtypebase_Source->Int->Int->Option (Ent×Semtypebase_Source):=(j7 n).2.2
def a3V (c:Int):Option Bool :=
 Option.bind (bif decide (65<=c)
 then (some (decide (c<=90)))
 else (some false)) fun q1 =>
 some q1
def a4e (s:ByteArray)(x5:Int):Option (Fl Int (Sum Unit Bool)) :=
 bif decide (x5<(s.size:Int))
 then (Option.bind (a6c s x5) fun e6 =>
 Option.bind (a2E (e6.toNat:Int)) fun r7 =>
 Option.bind (bif !r7
 then (Option.bind (a6c s x5) fun e8 =>
 Option.bind (a3V (e8.toNat:Int)) fun r9 =>
 some (!r9))
 else (some false)) fun q10 =>
 Option.bind (bif q10
 then (Option.bind (a6c s x5) fun e11 =>
 Option.bind (a31 (e11.toNat:Int)) fun r12 =>
 some (!r12))
 else (some false)) fun q13 =>
 Option.bind (bif q13
 then (Option.bind (a6c s x5) fun e14 =>
 some ((e14.toNat:Int) != 95))
 else (some false)) fun q15 =>
 bif q15
 then (some (.done (.inr false)))
 else (some (.next (wr .i64 (x5+1)))))
 else (some (.done (.inl ())))
def a1Q (s:ByteArray):Option Bool :=
 Option.bind (bif decide ((s.size:Int)<1)
 then (some true)
 else (some (decide (16<(s.size:Int))))) fun q1 =>
 Option.bind (bif q1
 then (some true)
 else (Option.bind (a6c s 0) fun e2 =>
 Option.bind (a3V (e2.toNat:Int)) fun r3 =>
 some (!r3))) fun q4 =>
 bif q4
 then (some false)
 else (Option.bind (z7 (a4e s) ((s.size:Int).toNat+1) 1) fun b16 =>
 j9 (fun _ =>
 some true) (fun y18 =>
 some y18) b16)
def a4H (d:Val)(x1:Int):Option (Fl Int (Sum Unit Bool)) :=
 bif decide (x1<(d.Labels.length:Int))
 then (Option.bind (idx d.Labels x1) fun e2 =>
 Option.bind (a1Q e2) fun r3 =>
 Option.bind (bif !r3
 then (some true)
 else (Option.bind (bif decide (0<x1)
 then (Option.bind (idx d.Labels (wr .i64 (x1-1))) fun e4 =>
 Option.bind (idx d.Labels x1) fun e5 =>
 some (!(a2S e4 e5)))
 else (some false)) fun q6 =>
 some q6)) fun q7 =>
 bif q7
 then (some (.done (.inr false)))
 else (some (.next (wr .i64 (x1+1)))))
 else (some (.done (.inl ())))
def a4L (d:Val)(x31:Int):Option (Fl Int (Sum Unit Bool)) :=
 bif decide (x31<(d.Keys.length:Int))
 then (Option.bind (idx d.Keys x31) fun e32 =>
 Option.bind (a1v e32) fun r33 =>
 Option.bind (bif !r33
 then (some true)
 else (Option.bind (bif decide (0<x31)
 then (Option.bind (idx d.Keys (wr .i64 (x31-1))) fun e34 =>
 Option.bind (idx d.Keys x31) fun e35 =>
 Option.bind (J5 e34 e35) fun r36 =>
 some (decide (0<=r36)))
 else (some false)) fun q37 =>
 some q37)) fun q38 =>
 bif q38
 then (some (.done (.inr false)))
 else (some (.next (wr .i64 (x31+1)))))
 else (some (.done (.inl ())))
def a4M (d:Val)(n:Nat)(x43:Int):Option (Fl Int (Sum Unit Bool)) :=
 bif decide (x43<(d.Entries.length:Int))
 then (Option.bind (idx d.Entries x43) fun e44 =>
 Option.bind (bif (e44.Args.length:Int) != d.Int_
 then (some true)
 else (Option.bind (bif e44.Fails
 then (Option.bind (a3Z n e44.Result (Val.mk 0 0 (⟨#[]⟩:ByteArray) ([]:List Val) ([]:List Key) ([]:List Ent) ([]:List ByteArray))) fun r45 =>
 some (!r45))
 else (some false)) fun q46 =>
 some q46)) fun q47 =>
 Option.bind (bif q47
 then (some true)
 else (Option.bind (bif decide (0<x43)
 then (Option.bind (idx d.Entries (wr .i64 (x43-1))) fun e48 =>
 Option.bind (Z8 n e48 e44) fun r49 =>
 some (decide (0<=r49)))
 else (some false)) fun q50 =>
 some q50)) fun q51 =>
 bif q51
 then (some (.done (.inr false)))
 else (some (.next (wr .i64 (x43+1)))))
 else (some (.done (.inl ())))
def a6f (n:Nat)(d:Val):Option Bool :=
 Option.bind (z7 (a4H d) ((d.Labels.length:Int).toNat+1) 0) fun b8 =>
 j9 (fun _ =>
 Option.bind (bif d.Kind==1
 then (some true)
 else (some (d.Kind==4))) fun q11 =>
 Option.bind (bif q11
 then (some true)
 else (some (d.Kind==9))) fun q12 =>
 Option.bind (bif d.Kind==2
 then (some true)
 else (some (d.Kind==3))) fun q13 =>
 Option.bind (bif d.Kind==6
 then (some true)
 else (some (d.Kind==7))) fun q14 =>
 Option.bind (bif q14
 then (some true)
 else (some (d.Kind==8))) fun q15 =>
 Option.bind (bif !q12
 then (some (d.Int_ != 0))
 else (some false)) fun q16 =>
 Option.bind (bif q16
 then (some true)
 else (Option.bind (bif !q13
 then (some (!(Q4 d.Text (⟨#[]⟩:ByteArray))))
 else (some false)) fun q17 =>
 some q17)) fun q18 =>
 Option.bind (bif q18
 then (some true)
 else (Option.bind (bif !q15
 then (some (decide (0<(d.Kids.length:Int))))
 else (some false)) fun q19 =>
 some q19)) fun q20 =>
 Option.bind (bif q20
 then (some true)
 else (Option.bind (bif d.Kind != 8
 then (some (decide (0<(d.Keys.length:Int))))
 else (some false)) fun q21 =>
 some q21)) fun q22 =>
 Option.bind (bif q22
 then (some true)
 else (Option.bind (bif d.Kind != 9
 then (some (decide (0<(d.Entries.length:Int))))
 else (some false)) fun q23 =>
 some q23)) fun q24 =>
 bif q24
 then (some false)
 else (Option.bind (bif d.Kind==1
 then (some (d.Kind==1))
 else (some (d.Kind==5))) fun b25 =>
 bif b25
 then (some true)
 else (bif d.Kind==2
 then (some (decide ((d.Text.size:Int)<=64)))
 else (bif d.Kind==3
 then (Option.bind (a2b d.Text) fun r26 =>
 some r26)
 else (bif d.Kind==4
 then (some (decide (0<=d.Int_)))
 else (bif d.Kind==6
 then (some (decide ((d.Kids.length:Int)<=4)))
 else (bif d.Kind==7
 then (Option.bind (bif (d.Kids.length:Int)==2
 then (Option.bind (idx d.Kids 1) fun e27 =>
 Option.bind (bif e27.Kind==5
 then (some true)
 else (Option.bind (idx d.Kids 1) fun e28 =>
 some (e28.Kind==7))) fun q29 =>
 some q29)
 else (some false)) fun q30 =>
 some q30)
 else (bif d.Kind==8
 then (Option.bind (z7 (a4L d) ((d.Keys.length:Int).toNat+1) 0) fun b39 =>
 j9 (fun _ =>
 some ((d.Keys.length:Int)==(d.Kids.length:Int))) (fun y41 =>
 some y41) b39)
 else (bif d.Kind==9
 then (Option.bind (bif decide (d.Int_<0)
 then (some true)
 else (some (decide (4<d.Int_)))) fun q42 =>
 bif q42
 then (some false)
 else (Option.bind (z7 (a4M d n) ((d.Entries.length:Int).toNat+1) 0) fun b52 =>
 j9 (fun _ =>
 some true) (fun y54 =>
 some y54) b52))
 else (some false)))))))))) (fun y10 =>
 some y10) b8
def a4g (v:Val)(rec_semtyperef1_Valid:Val->Option Bool)(x2:Int):Option (Fl Int (Sum Unit Bool)) :=
 bif decide (x2<(v.Kids.length:Int))
 then (Option.bind (idx v.Kids x2) fun e3 =>
 Option.bind (rec_semtyperef1_Valid e3) fun r4 =>
 bif !r4
 then (some (.done (.inr false)))
 else (some (.next (wr .i64 (x2+1)))))
 else (some (.done (.inl ())))
def a4b (rec_semtyperef1_Valid:Val->Option Bool)(e9:Ent)(x10:Int):Option (Fl Int (Sum Unit Bool)) :=
 bif decide (x10<(e9.Args.length:Int))
 then (Option.bind (idx e9.Args x10) fun e11 =>
 Option.bind (rec_semtyperef1_Valid e11) fun r12 =>
 bif !r12
 then (some (.done (.inr false)))
 else (some (.next (wr .i64 (x10+1)))))
 else (some (.done (.inl ())))
def a4j (v:Val)(rec_semtyperef1_Valid:Val->Option Bool)(x8:Int):Option (Fl Int (Sum Unit Bool)) :=
 bif decide (x8<(v.Entries.length:Int))
 then (Option.bind (idx v.Entries x8) fun e9 =>
 Option.bind (z7 (a4b rec_semtyperef1_Valid e9) ((e9.Args.length:Int).toNat+1) 0) fun b13 =>
 j9 (fun _ =>
 Option.bind (bif !e9.Fails
 then (Option.bind (rec_semtyperef1_Valid e9.Result) fun r16 =>
 some (!r16))
 else (some false)) fun q17 =>
 bif q17
 then (some (.done (.inr false)))
 else (some (.next (wr .i64 (x8+1))))) (fun y15 =>
 some (.done (.inr y15))) b13)
 else (some (.done (.inl ())))
def a6z (n:Nat)(rec_semtyperef1_Valid:Val->Option Bool)(v:Val):Option Bool :=
 Option.bind (a6f n v) fun r1 =>
 bif !r1
 then (some false)
 else (Option.bind (z7 (a4g v rec_semtyperef1_Valid) ((v.Kids.length:Int).toNat+1) 0) fun b5 =>
 j9 (fun _ =>
 Option.bind (z7 (a4j v rec_semtyperef1_Valid) ((v.Entries.length:Int).toNat+1) 0) fun b18 =>
 j9 (fun _ =>
 some true) (fun y20 =>
 some y20) b18) (fun y7 =>
 some y7) b5)
def X9:Nat->Val->Option Bool
 | 0=>fun _=>none
 | n+1=>a6z n (X9 n)
def a0T (t:Api_Type)(a3_3:Int)(e4:Api_TypeNode)(rec_semtypebase_Source_Near:Semtypebase_Source->Api_Type->Int->Int->Option (Val×Semtypebase_Source))(x21:Int×Semtypebase_Source×(Int×Int×ByteArray×(List Val)×(List Key)×(List Ent)×(List ByteArray))):Option (Fl (Int×Semtypebase_Source×(Int×Int×ByteArray×(List Val)×(List Key)×(List Ent)×(List ByteArray))) (Semtypebase_Source×(Int×Int×ByteArray×(List Val)×(List Key)×(List Ent)×(List ByteArray)))) :=
 bif decide (x21.1<(e4.Kids.length:Int))
 then (Option.bind (idx e4.Kids x21.1) fun e22 =>
 Option.bind (rec_semtypebase_Source_Near x21.2.1 t e22 (wr .i64 (a3_3-1))) fun r23 =>
 Option.bind (Z4 (x21.2.2.2.2.2.1.length+([r23.1]:List Val).length) 128) fun _ =>
 some (.next (wr .i64 (x21.1+1),r23.2,(x21.2.2.1,x21.2.2.2.1,x21.2.2.2.2.1,x21.2.2.2.2.2.1++([r23.1]:List Val),x21.2.2.2.2.2.2.1,x21.2.2.2.2.2.2.2.1,x21.2.2.2.2.2.2.2.2))))
 else (some (.done (x21.2.1,(x21.2.2.1,x21.2.2.2.1,x21.2.2.2.2.1,x21.2.2.2.2.2.1,x21.2.2.2.2.2.2.1,x21.2.2.2.2.2.2.2.1,x21.2.2.2.2.2.2.2.2))))
def W2 (t:Api_Type)(e4:Api_TypeNode)(x40:Int×Val):Option (Fl (Int×Val) Val) :=
 bif decide (x40.1<(e4.Kids.length:Int))
 then (Option.bind (Option.bind (idx e4.Kids x40.1) fun e41 =>
 Option.bind (idx t.Nodes e41) fun e42 =>
 bif e42.Kind==19
 then (Option.bind (Z4 (0+x40.2.Labels.length) 16) fun _ =>
 Option.bind (idx e4.Kids x40.1) fun e44 =>
 Option.bind (idx t.Nodes e44) fun e45 =>
 Option.bind (Z4 (x40.2.Labels.length+([e45.Text]:List ByteArray).length) 16) fun _ =>
 Option.bind (a0d (x40.2.Labels++([e45.Text]:List ByteArray))) fun r47 =>
 some (Val.mk x40.2.Kind x40.2.Int_ x40.2.Text x40.2.Kids x40.2.Keys x40.2.Entries r47))
 else (some x40.2)) fun b48 =>
 some (.next (wr .i64 (x40.1+1),b48)))
 else (some (.done x40.2))
def K4 (t:Api_Type)(a2_2:Api_TypeNode)(a3_3:Int)(rec_semtypebase_Source_Near:Semtypebase_Source->Api_Type->Int->Int->Option (Val×Semtypebase_Source))(x3:Int×Semtypebase_Source×((List Val)×Bool×Int×Int×ByteArray×(List Val)×(List Key)×(List Ent)×(List ByteArray))):Option (Fl (Int×Semtypebase_Source×((List Val)×Bool×Int×Int×ByteArray×(List Val)×(List Key)×(List Ent)×(List ByteArray))) (Semtypebase_Source×((List Val)×Bool×Int×Int×ByteArray×(List Val)×(List Key)×(List Ent)×(List ByteArray)))) :=
 bif decide (x3.1<(wr .i64 ((a2_2.Kids.length:Int)-1)))
 then (Option.bind (idx a2_2.Kids x3.1) fun e4 =>
 Option.bind (rec_semtypebase_Source_Near x3.2.1 t e4 (wr .i64 (a3_3-1))) fun r5 =>
 Option.bind (Z4 (x3.2.2.1.length+([r5.1]:List Val).length) 128) fun _ =>
 some (.next (wr .i64 (x3.1+1),r5.2,(x3.2.2.1++([r5.1]:List Val),x3.2.2.2.1,x3.2.2.2.2.1,x3.2.2.2.2.2.1,x3.2.2.2.2.2.2.1,x3.2.2.2.2.2.2.2.1,x3.2.2.2.2.2.2.2.2.1,x3.2.2.2.2.2.2.2.2.2.1,x3.2.2.2.2.2.2.2.2.2.2))))
 else (some (.done (x3.2.1,(x3.2.2.1,x3.2.2.2.1,x3.2.2.2.2.1,x3.2.2.2.2.2.1,x3.2.2.2.2.2.2.1,x3.2.2.2.2.2.2.2.1,x3.2.2.2.2.2.2.2.2.1,x3.2.2.2.2.2.2.2.2.2.1,x3.2.2.2.2.2.2.2.2.2.2))))
def W5 (t:Api_Type)(a2_2:Api_TypeNode)(a3_3:Int)(rec_semtypebase_Source_Near:Semtypebase_Source->Api_Type->Int->Int->Option (Val×Semtypebase_Source))(x2:(List Ent)×Int×Semtypebase_Source):Option (Fl ((List Ent)×Int×Semtypebase_Source) ((List Ent)×Semtypebase_Source)) :=
 bif decide (0<x2.2.1)
 then (Option.bind (z7 (K4 t a2_2 a3_3 rec_semtypebase_Source_Near) ((wr .i64 ((a2_2.Kids.length:Int)-1)).toNat+1) (0,x2.2.2,([],false,0,0,(⟨#[]⟩:ByteArray),[],[],[],[]))) fun b7 =>
 Option.bind (z8 b7.1 6) fun r8 =>
 Option.bind (bif r8.1==1
 then (some (r8.2,(b7.2.1,true,b7.2.2.2.1,b7.2.2.2.2.1,b7.2.2.2.2.2.1,b7.2.2.2.2.2.2.1,b7.2.2.2.2.2.2.2.1,b7.2.2.2.2.2.2.2.2.1,b7.2.2.2.2.2.2.2.2.2)))
 else (Option.bind (idx a2_2.Kids (wr .i64 ((a2_2.Kids.length:Int)-1))) fun e9 =>
 Option.bind (rec_semtypebase_Source_Near r8.2 t e9 (wr .i64 (a3_3-1))) fun r10 =>
 some (r10.2,(b7.2.1,b7.2.2.1,r10.1.Kind,r10.1.Int_,r10.1.Text,r10.1.Kids,r10.1.Keys,r10.1.Entries,r10.1.Labels)))) fun b11 =>
 Option.bind (Z4 (x2.1.length+([Ent.mk b11.2.1 b11.2.2.1 (Val.mk b11.2.2.2.1 b11.2.2.2.2.1 b11.2.2.2.2.2.1 b11.2.2.2.2.2.2.1 b11.2.2.2.2.2.2.2.1 b11.2.2.2.2.2.2.2.2.1 b11.2.2.2.2.2.2.2.2.2)]:List Ent).length) 160) fun _ =>
 some (.next (x2.1++([Ent.mk b11.2.1 b11.2.2.1 (Val.mk b11.2.2.2.1 b11.2.2.2.2.1 b11.2.2.2.2.2.1 b11.2.2.2.2.2.2.1 b11.2.2.2.2.2.2.2.1 b11.2.2.2.2.2.2.2.2.1 b11.2.2.2.2.2.2.2.2.2)]:List Ent),wr .i64 (x2.2.1-1),b11.1)))
 else (some (.done (x2.1,x2.2.2)))
def a0l (t:Api_Type)(a2_2:Api_TypeNode)(a3_3:Int)(rec_semtypebase_Source_Near:Semtypebase_Source->Api_Type->Int->Int->Option (Val×Semtypebase_Source))(x1:(List Key)×(List Val)×Int×Semtypebase_Source):Option (Fl ((List Key)×(List Val)×Int×Semtypebase_Source) ((List Key)×(List Val)×Semtypebase_Source)) :=
 bif decide (x1.2.2.1<(a2_2.Fields.length:Int))
 then (Option.bind (Option.bind (Option.bind (idx a2_2.Fields x1.2.2.1) fun e2 =>
 bif e2.Optional
 then (Option.bind (z8 x1.2.2.2 2) fun r3 =>
 some (r3.1==1,r3.2))
 else (some (false,x1.2.2.2))) fun b4 =>
 bif b4.1
 then (some (x1.1,x1.2.1,b4.2))
 else (Option.bind (idx a2_2.Fields x1.2.2.1) fun e5 =>
 Option.bind (Z4 (x1.1.length+([e5.Key_]:List Key).length) 24) fun _ =>
 Option.bind (idx a2_2.Fields x1.2.2.1) fun e7 =>
 Option.bind (rec_semtypebase_Source_Near b4.2 t e7.Node (wr .i64 (a3_3-1))) fun r8 =>
 Option.bind (Z4 (x1.2.1.length+([r8.1]:List Val).length) 128) fun _ =>
 some (x1.1++([e5.Key_]:List Key),x1.2.1++([r8.1]:List Val),r8.2))) fun b10 =>
 some (.next (b10.1,b10.2.1,wr .i64 (x1.2.2.1+1),b10.2.2)))
 else (some (.done (x1.1,x1.2.1,x1.2.2.2)))
def a33 (n:Nat)(_:Semtypebase_Source->Api_Type->Int->Int->Option (Val×Semtypebase_Source))(rec_semtypebase_Source_near:Semtypebase_Source->Api_Type->Int->Int->Option (Val×Semtypebase_Source))(_:Semtypebase_Source->Api_Type->Api_TypeNode->Int->Option (Val×Semtypebase_Source))(_:Semtypebase_Source->Api_Type->Api_TypeNode->Int->Option (Val×Semtypebase_Source))(s:Semtypebase_Source)(t:Api_Type)(k:Int)(height:Int):Option (Val×Semtypebase_Source) :=
 Option.bind (rec_semtypebase_Source_near s t k height) fun r1 =>
 Option.bind (X9 n r1.1) fun r2 =>
 bif !r2
 then (Option.bind (K6 r1.2) fun r3 =>
 some (r3.1,r3.2))
 else (some (r1.1,r1.2))
def a1e (n:Nat)(rec_semtypebase_Source_Near:Semtypebase_Source->Api_Type->Int->Int->Option (Val×Semtypebase_Source))(rec_semtypebase_Source_near:Semtypebase_Source->Api_Type->Int->Int->Option (Val×Semtypebase_Source))(rec_semtypebase_Source_nearFunction:Semtypebase_Source->Api_Type->Api_TypeNode->Int->Option (Val×Semtypebase_Source))(rec_semtypebase_Source_nearMap:Semtypebase_Source->Api_Type->Api_TypeNode->Int->Option (Val×Semtypebase_Source))(d:Semtypebase_Source)(t:Api_Type)(a2_2:Int)(a3_3:Int):Option (Val×Semtypebase_Source) :=
 Option.bind (bif decide (a3_3<=0)
 then (some true)
 else (some (decide (a2_2<0)))) fun q1 =>
 Option.bind (bif q1
 then (some true)
 else (some (decide ((t.Nodes.length:Int)<=a2_2)))) fun q2 =>
 bif q2
 then (Option.bind (K6 d) fun r3 =>
 some (r3.1,r3.2))
 else (Option.bind (idx t.Nodes a2_2) fun e4 =>
 bif e4.Kind==3
 then (Option.bind (b5P .i64 e4.Hi 2) fun d5 =>
 Option.bind (b5P .i64 e4.Lo 2) fun d6 =>
 Option.bind (z8 d 3) fun r7 =>
 Option.bind (idx ([e4.Lo,e4.Hi,wr .i64 (e4.Lo+(wr .i64 (d5-d6)))]:List Int) r7.1) fun _ =>
 Option.bind (([e4.Lo,e4.Hi,wr .i64 (e4.Lo+(wr .i64 (d5-d6)))]:List Int)[r7.1.toNat]?) fun e9 =>
 Option.bind (a8R e9) fun r10 =>
 some (r10,r7.2))
 else (bif e4.Kind==4
 then (Option.bind (a5j e4.Text) fun r11 =>
 some (r11,d))
 else (bif e4.Kind==5
 then (Option.bind (a0b d) fun r12 =>
 Option.bind (a5j r12.1) fun r13 =>
 some (r13,r12.2))
 else (bif e4.Kind==6
 then (Option.bind (a5Z e4.Text) fun r14 =>
 some (r14,d))
 else (bif e4.Kind==7
 then (Option.bind (V2 d) fun r15 =>
 Option.bind (a5Z r15.1) fun r16 =>
 some (r16,r15.2))
 else (bif e4.Kind==8
 then (Option.bind (z8 d 2) fun r17 =>
 Option.bind (a8G r17.1) fun r18 =>
 some (r18,r17.2))
 else (bif e4.Kind==9
 then (Option.bind (X4) fun r19 =>
 some (r19,d))
 else (Option.bind (bif e4.Kind==10
 then (some (e4.Kind==10))
 else (some (e4.Kind==12))) fun b20 =>
 bif b20
 then (Option.bind (z7 (a0T t a3_3 e4 rec_semtypebase_Source_Near) ((e4.Kids.length:Int).toNat+1) (0,d,(0,0,(⟨#[]⟩:ByteArray),[],[],[],[]))) fun b25 =>
 Option.bind (bif e4.Kind==12
 then (Option.bind (idx b25.2.2.2.2.1 1) fun _ =>
 Option.bind (b25.2.2.2.2.1[(1:Int).toNat]?) fun e27 =>
 bif e27.Kind != 7
 then (Option.bind (X4) fun r28 =>
 Option.bind (idx b25.2.2.2.2.1 1) fun _ =>
 Option.bind (b25.2.2.2.2.1[(1:Int).toNat]?) fun _ =>
 some (7,b25.2.2.1,b25.2.2.2.1,b25.2.2.2.2.1.set ((1:Int).toNat) r28,b25.2.2.2.2.2.1,b25.2.2.2.2.2.2.1,b25.2.2.2.2.2.2.2))
 else (some (7,b25.2.2.1,b25.2.2.2.1,b25.2.2.2.2.1,b25.2.2.2.2.2.1,b25.2.2.2.2.2.2.1,b25.2.2.2.2.2.2.2)))
 else (some (6,b25.2.2.1,b25.2.2.2.1,b25.2.2.2.2.1,b25.2.2.2.2.2.1,b25.2.2.2.2.2.2.1,b25.2.2.2.2.2.2.2))) fun b31 =>
 some (Val.mk b31.1 b31.2.1 b31.2.2.1 b31.2.2.2.1 b31.2.2.2.2.1 b31.2.2.2.2.2.1 b31.2.2.2.2.2.2,b25.1))
 else (bif e4.Kind==13
 then (Option.bind (rec_semtypebase_Source_nearMap d t e4 a3_3) fun r32 =>
 some (r32.1,r32.2))
 else (bif e4.Kind==14
 then (Option.bind (rec_semtypebase_Source_nearFunction d t e4 a3_3) fun r33 =>
 some (r33.1,r33.2))
 else (bif e4.Kind==16
 then (Option.bind (z8 d (e4.Kids.length:Int)) fun r34 =>
 Option.bind (idx e4.Kids r34.1) fun e35 =>
 Option.bind (rec_semtypebase_Source_near r34.2 t e35 a3_3) fun r36 =>
 some (r36.1,r36.2))
 else (bif e4.Kind==17
 then (Option.bind (z8 d (e4.Kids.length:Int)) fun r37 =>
 Option.bind (idx e4.Kids r37.1) fun e38 =>
 Option.bind (rec_semtypebase_Source_near r37.2 t e38 a3_3) fun r39 =>
 Option.bind (z7 (W2 t e4) ((e4.Kids.length:Int).toNat+1) (0,r39.1)) fun b49 =>
 some (b49,r39.2))
 else (bif e4.Kind==19
 then (Option.bind (K6 d) fun r50 =>
 Option.bind (a5s r50.1 ([e4.Text]:List ByteArray)) fun r51 =>
 some (r51,r50.2))
 else (Option.bind (a2y n d 2) fun r52 =>
 some (r52.1,r52.2)))))))))))))))
def a10 (n:Nat)(rec_semtypebase_Source_Near:Semtypebase_Source->Api_Type->Int->Int->Option (Val×Semtypebase_Source))(_:Semtypebase_Source->Api_Type->Int->Int->Option (Val×Semtypebase_Source))(_:Semtypebase_Source->Api_Type->Api_TypeNode->Int->Option (Val×Semtypebase_Source))(_:Semtypebase_Source->Api_Type->Api_TypeNode->Int->Option (Val×Semtypebase_Source))(d:Semtypebase_Source)(t:Api_Type)(a2_2:Api_TypeNode)(a3_3:Int):Option (Val×Semtypebase_Source) :=
 Option.bind (z8 d 3) fun r1 =>
 Option.bind (z7 (W5 t a2_2 a3_3 rec_semtypebase_Source_Near) (r1.1.toNat+2) ([],r1.1,r1.2)) fun b13 =>
 Option.bind (a2w n (wr .i64 ((a2_2.Kids.length:Int)-1)) b13.1) fun r14 =>
 bif r14.2 != 0
 then (Option.bind (X4) fun r15 =>
 some (r15,b13.2))
 else (some (r14.1,b13.2))
def a24 (_:Nat)(rec_semtypebase_Source_Near:Semtypebase_Source->Api_Type->Int->Int->Option (Val×Semtypebase_Source))(_:Semtypebase_Source->Api_Type->Int->Int->Option (Val×Semtypebase_Source))(_:Semtypebase_Source->Api_Type->Api_TypeNode->Int->Option (Val×Semtypebase_Source))(_:Semtypebase_Source->Api_Type->Api_TypeNode->Int->Option (Val×Semtypebase_Source))(d:Semtypebase_Source)(t:Api_Type)(a2_2:Api_TypeNode)(a3_3:Int):Option (Val×Semtypebase_Source) :=
 Option.bind (z7 (a0l t a2_2 a3_3 rec_semtypebase_Source_Near) ((a2_2.Fields.length:Int).toNat+1) ([],[],0,d)) fun b11 =>
 Option.bind (z8 b11.2.2 2) fun r12 =>
 Option.bind (bif r12.1==1
 then (Option.bind (z8 r12.2 2) fun r13 =>
 Option.bind (Z4 (b11.1.length+([Key.mk r13.1 (⟨#[111,116,104,101,114]⟩:ByteArray)]:List Key).length) 24) fun _ =>
 bif r13.1==0
 then (Option.bind (rec_semtypebase_Source_Near r13.2 t a2_2.Rest.1 (wr .i64 (a3_3-1))) fun r15 =>
 Option.bind (Z4 (b11.2.1.length+([r15.1]:List Val).length) 128) fun _ =>
 some (b11.1++([Key.mk r13.1 (⟨#[111,116,104,101,114]⟩:ByteArray)]:List Key),b11.2.1++([r15.1]:List Val),r15.2))
 else (bif r13.1==1
 then (Option.bind (rec_semtypebase_Source_Near r13.2 t a2_2.Rest.2 (wr .i64 (a3_3-1))) fun r17 =>
 Option.bind (Z4 (b11.2.1.length+([r17.1]:List Val).length) 128) fun _ =>
 some (b11.1++([Key.mk r13.1 (⟨#[111,116,104,101,114]⟩:ByteArray)]:List Key),b11.2.1++([r17.1]:List Val),r17.2))
 else (none)))
 else (some (b11.1,b11.2.1,r12.2))) fun b19 =>
 Option.bind (a1H b19.1 b19.2.1) fun r20 =>
 bif r20.2 != 0
 then (Option.bind (X4) fun r21 =>
 some (r21,b19.2.2))
 else (some (r20.1,b19.2.2))
def y2:Nat->(Semtypebase_Source->Api_Type->Int->Int->Option (Val×Semtypebase_Source))×(Semtypebase_Source->Api_Type->Int->Int->Option (Val×Semtypebase_Source))×(Semtypebase_Source->Api_Type->Api_TypeNode->Int->Option (Val×Semtypebase_Source))×(Semtypebase_Source->Api_Type->Api_TypeNode->Int->Option (Val×Semtypebase_Source))
 | 0=>(fun _ _ _ _=>none,fun _ _ _ _=>none,fun _ _ _ _=>none,fun _ _ _ _=>none)
 | n+1=>(a33 n ((y2 n).1) ((y2 n).2.1) ((y2 n).2.2.1) ((y2 n).2.2.2),a1e n ((y2 n).1) ((y2 n).2.1) ((y2 n).2.2.1) ((y2 n).2.2.2),a10 n ((y2 n).1) ((y2 n).2.1) ((y2 n).2.2.1) ((y2 n).2.2.2),a24 n ((y2 n).1) ((y2 n).2.1) ((y2 n).2.2.1) ((y2 n).2.2.2))
def a4X (n:Nat):Semtypebase_Source->Api_Type->Int->Int->Option (Val×Semtypebase_Source):=(y2 n).1
def b2G (n:Nat):Semtypebase_Source->Api_Type->Int->Int->Option (Val×Semtypebase_Source):=(y2 n).2.1
def a8D (n:Nat):Semtypebase_Source->Api_Type->Api_TypeNode->Int->Option (Val×Semtypebase_Source):=(y2 n).2.2.1
def b0Y (n:Nat):Semtypebase_Source->Api_Type->Api_TypeNode->Int->Option (Val×Semtypebase_Source):=(y2 n).2.2.2
def a2Z (l:List Int)(k:Int)(x1:Int):Option (Fl Int Int) :=
 Option.bind (bif decide (x1<(l.length:Int))
 then (Option.bind (idx l x1) fun e2 =>
 some (decide (e2<k)))
 else (some false)) fun q3 =>
 bif q3
 then (some (.next (wr .i64 (x1+1))))
 else (some (.done x1))
def a59 (l:List Int)(k:Int):Option (List Int) :=
 Option.bind (z7 (a2Z l k) ((l.length:Int).toNat+1) 0) fun b4 =>
 Option.bind (bif decide (b4<(l.length:Int))
 then (Option.bind (idx l b4) fun e5 =>
 some (e5==k))
 else (some false)) fun q6 =>
 bif q6
 then (some l)
 else (Option.bind (cut l 0 b4) fun y7 =>
 Option.bind (Z4 (0+y7.length) 8) fun _ =>
 Option.bind (Z4 (y7.length+([k]:List Int).length) 8) fun _ =>
 Option.bind (cut l b4 (l.length:Int)) fun y10 =>
 Option.bind (Z4 ((y7++([k]:List Int)).length+y10.length) 8) fun _ =>
 some ((y7++([k]:List Int))++y10))
def a1O (l:List Int)(x1:(List Int)×Int):Option (Fl ((List Int)×Int) (List Int)) :=
 bif decide (x1.2<(l.length:Int))
 then (Option.bind (idx l x1.2) fun e2 =>
 Option.bind (a59 x1.1 e2) fun r3 =>
 some (.next (r3,wr .i64 (x1.2+1))))
 else (some (.done x1.1))
def a4C (l:List Int):Option (List Int) :=
 Option.bind (z7 (a1O l) ((l.length:Int).toNat+1) (([]:List Int),0)) fun b4 =>
 some b4
def a5e (g:Api_Goal):Option Api_Goal :=
 Option.bind (a4C g.Pos) fun r1 =>
 Option.bind (a4C g.Neg) fun r2 =>
 some (Api_Goal.mk r1 r2 g.Lists)
def a2t (a:List Int)(b:List Int)(x1:Int):Option (Fl Int (Sum Unit Bool)) :=
 bif decide (x1<(a.length:Int))
 then (Option.bind (idx a x1) fun e2 =>
 Option.bind (idx b x1) fun e3 =>
 bif e2 != e3
 then (some (.done (.inr false)))
 else (some (.next (wr .i64 (x1+1)))))
 else (some (.done (.inl ())))
def a2c (a:List Int)(b:List Int):Option Bool :=
 bif (a.length:Int) != (b.length:Int)
 then (some false)
 else (Option.bind (z7 (a2t a b) ((a.length:Int).toNat+1) 0) fun b4 =>
 j9 (fun _ =>
 some true) (fun y6 =>
 some y6) b4)
def a3h (a:Api_Goal)(b:Api_Goal):Option Bool :=
 Option.bind (bif a.Lists==b.Lists
 then (Option.bind (a2c a.Pos b.Pos) fun r1 =>
 some r1)
 else (some false)) fun q2 =>
 Option.bind (bif q2
 then (Option.bind (a2c a.Neg b.Neg) fun r3 =>
 some r3)
 else (some false)) fun q4 =>
 some q4
def a0q (t:Api_Type)(k:Int):Option Bool :=
 Option.bind (bif decide (0<=k)
 then (some (decide (k<(t.Nodes.length:Int))))
 else (some false)) fun q1 =>
 some q1
def a1T (t:Api_Type)(g:Api_Goal)(x3:Int):Option (Fl Int (Sum Unit Bool)) :=
 bif decide (x3<((g.Pos++g.Neg).length:Int))
 then (Option.bind (idx (g.Pos++g.Neg) x3) fun e4 =>
 Option.bind (a0q t e4) fun r5 =>
 bif !r5
 then (some (.done (.inr false)))
 else (some (.next (wr .i64 (x3+1)))))
 else (some (.done (.inl ())))
def a2X (t:Api_Type)(g:Api_Goal):Option Bool :=
 Option.bind (Z4 (0+g.Pos.length) 8) fun _ =>
 Option.bind (Z4 (g.Pos.length+g.Neg.length) 8) fun _ =>
 Option.bind (z7 (a1T t g) (((g.Pos++g.Neg).length:Int).toNat+1) 0) fun b6 =>
 j9 (fun _ =>
 some true) (fun y8 =>
 some y8) b6
def a00 (t:Api_Type)(g:Api_Goal):Option Bool :=
 Option.bind (a5e g) fun r1 =>
 Option.bind (a3h g r1) fun r2 =>
 Option.bind (bif r2
 then (Option.bind (a2X t g) fun r3 =>
 some r3)
 else (some false)) fun q4 =>
 some q4
def a3v (l:List Key)(k:Key)(x1:Int):Option (Fl Int (Sum Unit Int)) :=
 bif decide (x1<(l.length:Int))
 then (Option.bind (idx l x1) fun e2 =>
 bif a3P e2 k
 then (some (.done (.inr x1)))
 else (some (.next (wr .i64 (x1+1)))))
 else (some (.done (.inl ())))
def a0c (l:List Key)(k:Key):Option Int :=
 Option.bind (z7 (a3v l k) ((l.length:Int).toNat+1) 0) fun b3 =>
 j9 (fun _ =>
 some (-1)) (fun y5 =>
 some y5) b3
def a1W (a2_2:Api_Shape)(e10:Api_TypeNode)(x11:Int):Option (Fl Int (Sum Unit Bool)) :=
 bif decide (x11<(e10.Fields.length:Int))
 then (Option.bind (idx e10.Fields x11) fun e12 =>
 Option.bind (a0c a2_2.Keys e12.Key_) fun r13 =>
 bif decide (r13<0)
 then (some (.done (.inr false)))
 else (some (.next (wr .i64 (x11+1)))))
 else (some (.done (.inl ())))
def a1Z (d:Api_Type)(t:Api_Line)(a2_2:Api_Shape)(x8:Int):Option (Fl Int (Sum Unit Bool)) :=
 bif decide (x8<((t.Pos++t.Neg).length:Int))
 then (Option.bind (idx (t.Pos++t.Neg) x8) fun e9 =>
 Option.bind (idx d.Nodes e9) fun e10 =>
 Option.bind (z7 (a1W a2_2 e10) ((e10.Fields.length:Int).toNat+1) 0) fun b14 =>
 j9 (fun _ =>
 some (.next (wr .i64 (x8+1)))) (fun y16 =>
 some (.done (.inr y16))) b14)
 else (some (.done (.inl ())))
def a1R (a2_2:Api_Shape)(x20:Int)(e23:Api_TypeNode)(x24:Bool×Int):Option (Fl (Bool×Int) Bool) :=
 bif decide (x24.2<(e23.Fields.length:Int))
 then (Option.bind (bif x24.1
 then (some true)
 else (Option.bind (idx e23.Fields x24.2) fun e25 =>
 Option.bind (idx a2_2.Keys x20) fun e26 =>
 some (a3P e25.Key_ e26))) fun q27 =>
 some (.next (q27,wr .i64 (x24.2+1))))
 else (some (.done x24.1))
def a1U (d:Api_Type)(t:Api_Line)(a2_2:Api_Shape)(x20:Int)(x21:Bool×Int):Option (Fl (Bool×Int) Bool) :=
 bif decide (x21.2<((t.Pos++t.Neg).length:Int))
 then (Option.bind (idx (t.Pos++t.Neg) x21.2) fun e22 =>
 Option.bind (idx d.Nodes e22) fun e23 =>
 Option.bind (z7 (a1R a2_2 x20 e23) ((e23.Fields.length:Int).toNat+1) (x21.1,0)) fun b28 =>
 some (.next (b28,wr .i64 (x21.2+1))))
 else (some (.done x21.1))
def a11 (d:Api_Type)(t:Api_Line)(a2_2:Api_Shape)(x20:Int):Option (Fl Int (Sum Unit Bool)) :=
 bif decide (x20<(a2_2.Keys.length:Int))
 then (Option.bind (z7 (a1U d t a2_2 x20) (((t.Pos++t.Neg).length:Int).toNat+1) (false,0)) fun b29 =>
 Option.bind (idx a2_2.States x20) fun e30 =>
 Option.bind (bif e30==0
 then (Option.bind (idx a2_2.Parts x20) fun e31 =>
 Option.bind (bif decide (0<(e31.Pos.length:Int))
 then (some true)
 else (Option.bind (idx a2_2.Parts x20) fun e32 =>
 some (decide (0<(e32.Neg.length:Int))))) fun q33 =>
 Option.bind (bif q33
 then (some true)
 else (Option.bind (idx a2_2.Parts x20) fun e34 =>
 some e34.Lists)) fun q35 =>
 some q35)
 else (some false)) fun q36 =>
 Option.bind (bif !b29
 then (some true)
 else (some q36)) fun q37 =>
 Option.bind (bif q37
 then (some true)
 else (Option.bind (idx a2_2.Parts x20) fun e38 =>
 Option.bind (a00 d e38) fun r39 =>
 some (!r39))) fun q40 =>
 Option.bind (bif q40
 then (some true)
 else (Option.bind (bif decide (0<x20)
 then (Option.bind (idx a2_2.Keys (wr .i64 (x20-1))) fun e41 =>
 Option.bind (idx a2_2.Keys x20) fun e42 =>
 Option.bind (J5 e41 e42) fun r43 =>
 some (decide (0<=r43)))
 else (some false)) fun q44 =>
 some q44)) fun q45 =>
 bif q45
 then (some (.done (.inr false)))
 else (some (.next (wr .i64 (x20+1)))))
 else (some (.done (.inl ())))
def a1Y (d:Api_Type)(a2_2:Api_Shape)(x49:Int):Option (Fl Int (Sum Unit Bool)) :=
 bif decide (x49<(a2_2.Some.length:Int))
 then (Option.bind (idx a2_2.Some x49) fun e50 =>
 Option.bind (bif e50.Kind != 0
 then (Option.bind (idx a2_2.Some x49) fun e51 =>
 some (e51.Kind != 1))
 else (some false)) fun q52 =>
 Option.bind (bif q52
 then (some true)
 else (Option.bind (idx a2_2.Some x49) fun e53 =>
 Option.bind (a00 d e53.Goal) fun r54 =>
 some (!r54))) fun q55 =>
 bif q55
 then (some (.done (.inr false)))
 else (some (.next (wr .i64 (x49+1)))))
 else (some (.done (.inl ())))
def a4Q (d:Api_Type)(t:Api_Line)(a2_2:Api_Shape):Option Bool :=
 Option.bind (bif (a2_2.States.length:Int) != (a2_2.Keys.length:Int)
 then (some true)
 else (some ((a2_2.Parts.length:Int) != (a2_2.Keys.length:Int)))) fun q1 =>
 Option.bind (bif q1
 then (some true)
 else (Option.bind (a00 d a2_2.Rest.1) fun r2 =>
 some (!r2))) fun q3 =>
 Option.bind (bif q3
 then (some true)
 else (Option.bind (a00 d a2_2.Rest.2) fun r4 =>
 some (!r4))) fun q5 =>
 bif q5
 then (some false)
 else (Option.bind (Z4 (0+t.Pos.length) 8) fun _ =>
 Option.bind (Z4 (t.Pos.length+t.Neg.length) 8) fun _ =>
 Option.bind (z7 (a1Z d t a2_2) (((t.Pos++t.Neg).length:Int).toNat+1) 0) fun b17 =>
 j9 (fun _ =>
 Option.bind (z7 (a11 d t a2_2) ((a2_2.Keys.length:Int).toNat+1) 0) fun b46 =>
 j9 (fun _ =>
 Option.bind (z7 (a1Y d a2_2) ((a2_2.Some.length:Int).toNat+1) 0) fun b56 =>
 j9 (fun _ =>
 some true) (fun y58 =>
 some y58) b56) (fun y48 =>
 some y48) b46) (fun y19 =>
 some y19) b17)
def a4P (d:Api_Type)(t:Api_TypeNode)(x1:Int):Option (Fl Int (Sum Unit Bool)) :=
 bif decide (x1<(t.Kids.length:Int))
 then (Option.bind (idx t.Kids x1) fun e2 =>
 Option.bind (a0q d e2) fun r3 =>
 bif !r3
 then (some (.done (.inr false)))
 else (some (.next (wr .i64 (x1+1)))))
 else (some (.done (.inl ())))
def a4I (d:Api_Type)(t:Api_TypeNode)(x24:Int):Option (Fl Int (Sum Unit Bool)) :=
 bif decide (x24<(t.Fields.length:Int))
 then (Option.bind (idx t.Fields x24) fun e25 =>
 Option.bind (a0q d e25.Node) fun r26 =>
 Option.bind (bif !r26
 then (some true)
 else (Option.bind (a1v e25.Key_) fun r27 =>
 some (!r27))) fun q28 =>
 Option.bind (bif q28
 then (some true)
 else (Option.bind (bif decide (0<x24)
 then (Option.bind (idx t.Fields (wr .i64 (x24-1))) fun e29 =>
 Option.bind (J5 e29.Key_ e25.Key_) fun r30 =>
 some (decide (0<=r30)))
 else (some false)) fun q31 =>
 some q31)) fun q32 =>
 bif q32
 then (some (.done (.inr false)))
 else (some (.next (wr .i64 (x24+1)))))
 else (some (.done (.inl ())))
def a54 (d:Api_Type)(t:Api_TypeNode):Option Bool :=
 Option.bind (z7 (a4P d t) ((t.Kids.length:Int).toNat+1) 0) fun b4 =>
 j9 (fun _ =>
 Option.bind (bif t.Kind==4
 then (some true)
 else (some (t.Kind==6))) fun q7 =>
 Option.bind (bif q7
 then (some true)
 else (some (t.Kind==19))) fun q8 =>
 Option.bind (bif !(t.Kind==3)
 then (Option.bind (bif t.Lo != 0
 then (some true)
 else (some (t.Hi != 0))) fun q9 =>
 some q9)
 else (some false)) fun q10 =>
 Option.bind (bif q10
 then (some true)
 else (Option.bind (bif !q8
 then (some (!(Q4 t.Text (⟨#[]⟩:ByteArray))))
 else (some false)) fun q11 =>
 some q11)) fun q12 =>
 bif q12
 then (some false)
 else (Option.bind (bif t.Kind != 13
 then (Option.bind (bif decide (0<(t.Fields.length:Int))
 then (some true)
 else (some (!(b1M t.Rest (0,0))))) fun q13 =>
 some q13)
 else (some false)) fun q14 =>
 bif q14
 then (some false)
 else (bif t.Kind==3
 then (Option.bind (bif (t.Kids.length:Int)==0
 then (some (decide (t.Lo<=t.Hi)))
 else (some false)) fun q15 =>
 some q15)
 else (bif t.Kind==4
 then (Option.bind (bif (t.Kids.length:Int)==0
 then (some (decide ((t.Text.size:Int)<=64)))
 else (some false)) fun q16 =>
 some q16)
 else (bif t.Kind==6
 then (Option.bind (bif (t.Kids.length:Int)==0
 then (Option.bind (a2b t.Text) fun r17 =>
 some r17)
 else (some false)) fun q18 =>
 some q18)
 else (bif t.Kind==19
 then (Option.bind (bif (t.Kids.length:Int)==0
 then (Option.bind (a1Q t.Text) fun r19 =>
 some r19)
 else (some false)) fun q20 =>
 some q20)
 else (Option.bind (bif t.Kind==1
 then (some (t.Kind==1))
 else (bif t.Kind==2
 then (some (t.Kind==2))
 else (bif t.Kind==5
 then (some (t.Kind==5))
 else (bif t.Kind==7
 then (some (t.Kind==7))
 else (bif t.Kind==8
 then (some (t.Kind==8))
 else (bif t.Kind==9
 then (some (t.Kind==9))
 else (bif t.Kind==11
 then (some (t.Kind==11))
 else (some (t.Kind==15))))))))) fun b21 =>
 bif b21
 then (some ((t.Kids.length:Int)==0))
 else (bif t.Kind==10
 then (some (decide ((t.Kids.length:Int)<=4)))
 else (bif t.Kind==12
 then (some ((t.Kids.length:Int)==2))
 else (bif t.Kind==14
 then (Option.bind (bif decide (1<=(t.Kids.length:Int))
 then (some (decide ((t.Kids.length:Int)<=5)))
 else (some false)) fun q22 =>
 some q22)
 else (Option.bind (bif t.Kind==16
 then (some (t.Kind==16))
 else (some (t.Kind==17))) fun b23 =>
 bif b23
 then (some (decide (1<=(t.Kids.length:Int))))
 else (bif t.Kind==18
 then (some ((t.Kids.length:Int)==1))
 else (bif t.Kind==13
 then (Option.bind (z7 (a4I d t) ((t.Fields.length:Int).toNat+1) 0) fun b33 =>
 j9 (fun _ =>
 Option.bind (bif (t.Kids.length:Int)==0
 then (Option.bind (a0q d t.Rest.1) fun r36 =>
 some r36)
 else (some false)) fun q37 =>
 Option.bind (bif q37
 then (Option.bind (a0q d t.Rest.2) fun r38 =>
 some r38)
 else (some false)) fun q39 =>
 some q39) (fun y35 =>
 some y35) b33)
 else (some false)))))))))))))) (fun y6 =>
 some y6) b4
def a4N (n_0:Api_TypeNode):Option Bool :=
 Option.bind (bif n_0.Kind==16
 then (some true)
 else (some (n_0.Kind==17))) fun q1 =>
 Option.bind (bif q1
 then (some true)
 else (some (n_0.Kind==18))) fun q2 =>
 some q2
def a2m (d:Api_Type)(x2:Int):Option (Fl Int (Sum Unit Int)) :=
 bif decide (x2<(d.Nodes.length:Int))
 then (Option.bind (idx d.Nodes x2) fun e3 =>
 Option.bind (a54 d e3) fun r4 =>
 bif !r4
 then (some (.done (.inr 1)))
 else (some (.next (wr .i64 (x2+1)))))
 else (some (.done (.inl ())))
def J6 (d:Api_Type)(x10:(List Bool)×Int)(x11:(List Bool)×Bool×Int):Option (Fl ((List Bool)×Bool×Int) ((List Bool)×Bool)) :=
 Option.bind (idx d.Nodes x10.2) fun e12 =>
 Option.bind (a4N e12) fun r13 =>
 Option.bind (bif r13
 then (Option.bind (idx d.Nodes x10.2) fun e14 =>
 some (decide (x11.2.2<(e14.Kids.length:Int))))
 else (some false)) fun q15 =>
 bif q15
 then (Option.bind (bif x11.2.1
 then (Option.bind (idx d.Nodes x10.2) fun e16 =>
 Option.bind (idx e16.Kids x11.2.2) fun e17 =>
 Option.bind (idx x11.1 e17) fun _ =>
 Option.bind (x11.1[e17.toNat]?) fun e19 =>
 some e19)
 else (some false)) fun q20 =>
 some (.next (x11.1,q20,wr .i64 (x11.2.2+1))))
 else (some (.done (x11.1,x11.2.1)))
def X0 (d:Api_Type)(n:Nat)(x10:(List Bool)×Int):Option (Fl ((List Bool)×Int) (List Bool)) :=
 bif decide (x10.2<(d.Nodes.length:Int))
 then (Option.bind (z7 (J6 d x10) n (x10.1,true,0)) fun b21 =>
 Option.bind (idx b21.1 x10.2) fun _ =>
 Option.bind (b21.1[x10.2.toNat]?) fun e23 =>
 Option.bind (bif e23
 then (some true)
 else (some b21.2)) fun q24 =>
 Option.bind (idx b21.1 x10.2) fun _ =>
 Option.bind (b21.1[x10.2.toNat]?) fun _ =>
 some (.next (b21.1.set x10.2.toNat q24,wr .i64 (x10.2+1))))
 else (some (.done x10.1))
def W8 (d:Api_Type)(n:Nat)(x9:(List Bool)×Int):Option (Fl ((List Bool)×Int) (List Bool)) :=
 bif decide (x9.2<(d.Nodes.length:Int))
 then (Option.bind (z7 (X0 d n) ((d.Nodes.length:Int).toNat+1) (x9.1,0)) fun b27 =>
 some (.next (b27,wr .i64 (x9.2+1))))
 else (some (.done x9.1))
def a08 (x29:(List Bool)×Int):Option (Fl ((List Bool)×Int) (Sum (List Bool) (Int×(List Bool)))) :=
 bif decide (x29.2<(x29.1.length:Int))
 then (Option.bind (idx x29.1 x29.2) fun _ =>
 Option.bind (x29.1[x29.2.toNat]?) fun e31 =>
 bif !e31
 then (some (.done (.inr (3,x29.1))))
 else (some (.next (x29.1,wr .i64 (x29.2+1)))))
 else (some (.done (.inl x29.1)))
def a0Z (n:Nat)(d:Api_Type):Option Int :=
 Option.bind (a0q d d.Root) fun r1 =>
 bif !r1
 then (some 1)
 else (Option.bind (z7 (a2m d) ((d.Nodes.length:Int).toNat+1) 0) fun b5 =>
 j9 (fun _ =>
 Option.bind (a6R (d.Nodes.length:Int) (d.Nodes.length:Int) 1) fun m8 =>
 Option.bind (z7 (W8 d n) ((d.Nodes.length:Int).toNat+1) (List.replicate m8 (false:Bool),0)) fun b28 =>
 Option.bind (z7 a08 ((b28.length:Int).toNat+1) (b28,0)) fun b32 =>
 j9 (fun _ =>
 some 0) (fun y34 =>
 some y34.1) b32) (fun y7 =>
 some y7) b5)
def a49 (v:Val)(k:Key)(x1:Int):Option (Fl Int (Sum Unit Int)) :=
 bif decide (x1<(v.Keys.length:Int))
 then (Option.bind (idx v.Keys x1) fun e2 =>
 bif a3P e2 k
 then (some (.done (.inr x1)))
 else (some (.next (wr .i64 (x1+1)))))
 else (some (.done (.inl ())))
def a6K (v:Val)(k:Key):Option Int :=
 Option.bind (z7 (a49 v k) ((v.Keys.length:Int).toNat+1) 0) fun b3 =>
 j9 (fun _ =>
 some (-1)) (fun y5 =>
 some y5) b3
def a4k (n_0:Api_TypeNode)(k:Key)(x1:Int):Option (Fl Int (Sum Unit Int)) :=
 bif decide (x1<(n_0.Fields.length:Int))
 then (Option.bind (idx n_0.Fields x1) fun e2 =>
 bif a3P e2.Key_ k
 then (some (.done (.inr x1)))
 else (some (.next (wr .i64 (x1+1)))))
 else (some (.done (.inl ())))
def a2G (n_0:Api_TypeNode)(k:Key):Option Int :=
 Option.bind (z7 (a4k n_0 k) ((n_0.Fields.length:Int).toNat+1) 0) fun b3 =>
 j9 (fun _ =>
 some (-1)) (fun y5 =>
 some y5) b3
def a2P (v:Val)(t:Api_Type)(n_2:Api_TypeNode)(rec_semtyperef7_members:(List Val)->Api_Type->(List Int)->Option Bool)(rec_semtyperef7_member:Val->Api_Type->Int->Option Bool)(x1:Int):Option (Fl Int (Sum Unit Bool)) :=
 bif decide (x1<(v.Entries.length:Int))
 then (Option.bind (idx v.Entries x1) fun e2 =>
 Option.bind (cut n_2.Kids 0 (wr .i64 ((n_2.Kids.length:Int)-1))) fun y3 =>
 Option.bind (rec_semtyperef7_members e2.Args t y3) fun r4 =>
 Option.bind (bif r4
 then (Option.bind (bif e2.Fails
 then (some true)
 else (Option.bind (idx n_2.Kids (wr .i64 ((n_2.Kids.length:Int)-1))) fun e5 =>
 Option.bind (rec_semtyperef7_member e2.Result t e5) fun r6 =>
 some (!r6))) fun q7 =>
 some q7)
 else (some false)) fun q8 =>
 bif q8
 then (some (.done (.inr false)))
 else (some (.next (wr .i64 (x1+1)))))
 else (some (.done (.inl ())))
def a3l (d:Val)(a2_2:Api_TypeNode)(x1:Int):Option (Fl Int (Sum Unit Bool)) :=
 bif decide (x1<(a2_2.Fields.length:Int))
 then (Option.bind (idx a2_2.Fields x1) fun e2 =>
 Option.bind (bif !e2.Optional
 then (Option.bind (idx a2_2.Fields x1) fun e3 =>
 Option.bind (a6K d e3.Key_) fun r4 =>
 some (decide (r4<0)))
 else (some false)) fun q5 =>
 bif q5
 then (some (.done (.inr false)))
 else (some (.next (wr .i64 (x1+1)))))
 else (some (.done (.inl ())))
def a12 (d:Val)(t:Api_Type)(a2_2:Api_TypeNode)(rec_semtyperef7_member:Val->Api_Type->Int->Option Bool)(x9:Int):Option (Fl Int (Sum Unit Bool)) :=
 bif decide (x9<(d.Keys.length:Int))
 then (Option.bind (idx d.Keys x9) fun e10 =>
 Option.bind (a2G a2_2 e10) fun r11 =>
 Option.bind (Option.bind (idx d.Keys x9) fun e12 =>
 bif e12.Kind==0
 then (some a2_2.Rest.1)
 else (bif e12.Kind==1
 then (some a2_2.Rest.2)
 else (none))) fun b13 =>
 Option.bind (bif decide (0<=r11)
 then (Option.bind (idx a2_2.Fields r11) fun e14 =>
 some e14.Node)
 else (some b13)) fun b15 =>
 Option.bind (idx d.Kids x9) fun e16 =>
 Option.bind (rec_semtyperef7_member e16 t b15) fun r17 =>
 bif !r17
 then (some (.done (.inr false)))
 else (some (.next (wr .i64 (x9+1)))))
 else (some (.done (.inl ())))
def a19 (d:Val)(t:Api_Type)(e1:Api_TypeNode)(rec_semtyperef7_member:Val->Api_Type->Int->Option Bool)(x14:Int):Option (Fl Int (Sum Unit Bool)) :=
 bif decide (x14<(e1.Kids.length:Int))
 then (Option.bind (idx e1.Kids x14) fun e15 =>
 Option.bind (rec_semtyperef7_member d t e15) fun r16 =>
 bif r16
 then (some (.done (.inr true)))
 else (some (.next (wr .i64 (x14+1)))))
 else (some (.done (.inl ())))
def a1f (d:Val)(t:Api_Type)(e1:Api_TypeNode)(rec_semtyperef7_member:Val->Api_Type->Int->Option Bool)(x20:Int):Option (Fl Int (Sum Unit Bool)) :=
 bif decide (x20<(e1.Kids.length:Int))
 then (Option.bind (idx e1.Kids x20) fun e21 =>
 Option.bind (rec_semtyperef7_member d t e21) fun r22 =>
 bif !r22
 then (some (.done (.inr false)))
 else (some (.next (wr .i64 (x20+1)))))
 else (some (.done (.inl ())))
def a2f (d:Val)(e1:Api_TypeNode)(x28:Int):Option (Fl Int (Sum Unit Bool)) :=
 bif decide (x28<(d.Labels.length:Int))
 then (Option.bind (idx d.Labels x28) fun e29 =>
 bif Q4 e29 e1.Text
 then (some (.done (.inr true)))
 else (some (.next (wr .i64 (x28+1)))))
 else (some (.done (.inl ())))
def a1X (l:List Val)(t:Api_Type)(nodes:List Int)(rec_semtyperef7_member:Val->Api_Type->Int->Option Bool)(x1:Int):Option (Fl Int (Sum Unit Bool)) :=
 bif decide (x1<(l.length:Int))
 then (Option.bind (idx l x1) fun e2 =>
 Option.bind (idx nodes x1) fun e3 =>
 Option.bind (rec_semtyperef7_member e2 t e3) fun r4 =>
 bif !r4
 then (some (.done (.inr false)))
 else (some (.next (wr .i64 (x1+1)))))
 else (some (.done (.inl ())))
def a5p (_:Nat)(_:Val->Api_Type->Api_TypeNode->Option Bool)(_:Val->Api_Type->Api_TypeNode->Option Bool)(rec_semtyperef7_member:Val->Api_Type->Int->Option Bool)(rec_semtyperef7_members:(List Val)->Api_Type->(List Int)->Option Bool)(v:Val)(t:Api_Type)(n_2:Api_TypeNode):Option Bool :=
 bif v.Int_ != (wr .i64 ((n_2.Kids.length:Int)-1))
 then (some false)
 else (Option.bind (z7 (a2P v t n_2 rec_semtyperef7_members rec_semtyperef7_member) ((v.Entries.length:Int).toNat+1) 0) fun b9 =>
 j9 (fun _ =>
 some true) (fun y11 =>
 some y11) b9)
def a5B (_:Nat)(_:Val->Api_Type->Api_TypeNode->Option Bool)(_:Val->Api_Type->Api_TypeNode->Option Bool)(rec_semtyperef7_member:Val->Api_Type->Int->Option Bool)(_:(List Val)->Api_Type->(List Int)->Option Bool)(d:Val)(t:Api_Type)(a2_2:Api_TypeNode):Option Bool :=
 Option.bind (z7 (a3l d a2_2) ((a2_2.Fields.length:Int).toNat+1) 0) fun b6 =>
 j9 (fun _ =>
 Option.bind (z7 (a12 d t a2_2 rec_semtyperef7_member) ((d.Keys.length:Int).toNat+1) 0) fun b18 =>
 j9 (fun _ =>
 some true) (fun y20 =>
 some y20) b18) (fun y8 =>
 some y8) b6
def a6l (_:Nat)(rec_semtyperef7_function:Val->Api_Type->Api_TypeNode->Option Bool)(rec_semtyperef7_mapping:Val->Api_Type->Api_TypeNode->Option Bool)(rec_semtyperef7_member:Val->Api_Type->Int->Option Bool)(rec_semtyperef7_members:(List Val)->Api_Type->(List Int)->Option Bool)(d:Val)(t:Api_Type)(a2_2:Int):Option Bool :=
 Option.bind (idx t.Nodes a2_2) fun e1 =>
 bif e1.Kind==2
 then (some true)
 else (bif e1.Kind==3
 then (Option.bind (bif d.Kind==1
 then (some (decide (e1.Lo<=d.Int_)))
 else (some false)) fun q2 =>
 Option.bind (bif q2
 then (some (decide (d.Int_<=e1.Hi)))
 else (some false)) fun q3 =>
 some q3)
 else (bif e1.Kind==4
 then (Option.bind (bif d.Kind==2
 then (some (Q4 d.Text e1.Text))
 else (some false)) fun q4 =>
 some q4)
 else (bif e1.Kind==5
 then (some (d.Kind==2))
 else (bif e1.Kind==6
 then (Option.bind (bif d.Kind==3
 then (some (Q4 d.Text e1.Text))
 else (some false)) fun q5 =>
 some q5)
 else (bif e1.Kind==7
 then (some (d.Kind==3))
 else (bif e1.Kind==8
 then (some (d.Kind==4))
 else (bif e1.Kind==9
 then (some (d.Kind==5))
 else (bif e1.Kind==11
 then (some (d.Kind==6))
 else (bif e1.Kind==15
 then (some (d.Kind==9))
 else (bif e1.Kind==10
 then (Option.bind (bif d.Kind==6
 then (Option.bind (rec_semtyperef7_members d.Kids t e1.Kids) fun r6 =>
 some r6)
 else (some false)) fun q7 =>
 some q7)
 else (bif e1.Kind==12
 then (Option.bind (bif d.Kind==7
 then (Option.bind (rec_semtyperef7_members d.Kids t e1.Kids) fun r8 =>
 some r8)
 else (some false)) fun q9 =>
 some q9)
 else (bif e1.Kind==13
 then (Option.bind (bif d.Kind==8
 then (Option.bind (rec_semtyperef7_mapping d t e1) fun r10 =>
 some r10)
 else (some false)) fun q11 =>
 some q11)
 else (bif e1.Kind==14
 then (Option.bind (bif d.Kind==9
 then (Option.bind (rec_semtyperef7_function d t e1) fun r12 =>
 some r12)
 else (some false)) fun q13 =>
 some q13)
 else (bif e1.Kind==16
 then (Option.bind (z7 (a19 d t e1 rec_semtyperef7_member) ((e1.Kids.length:Int).toNat+1) 0) fun b17 =>
 j9 (fun _ =>
 some false) (fun y19 =>
 some y19) b17)
 else (bif e1.Kind==17
 then (Option.bind (z7 (a1f d t e1 rec_semtyperef7_member) ((e1.Kids.length:Int).toNat+1) 0) fun b23 =>
 j9 (fun _ =>
 some true) (fun y25 =>
 some y25) b23)
 else (bif e1.Kind==18
 then (Option.bind (idx e1.Kids 0) fun e26 =>
 Option.bind (rec_semtyperef7_member d t e26) fun r27 =>
 some (!r27))
 else (bif e1.Kind==19
 then (Option.bind (z7 (a2f d e1) ((d.Labels.length:Int).toNat+1) 0) fun b30 =>
 j9 (fun _ =>
 some false) (fun y32 =>
 some y32) b30)
 else (some false))))))))))))))))))
def a2d (_:Nat)(_:Val->Api_Type->Api_TypeNode->Option Bool)(_:Val->Api_Type->Api_TypeNode->Option Bool)(rec_semtyperef7_member:Val->Api_Type->Int->Option Bool)(_:(List Val)->Api_Type->(List Int)->Option Bool)(l:List Val)(t:Api_Type)(nodes:List Int):Option Bool :=
 bif (l.length:Int) != (nodes.length:Int)
 then (some false)
 else (Option.bind (z7 (a1X l t nodes rec_semtyperef7_member) ((l.length:Int).toNat+1) 0) fun b5 =>
 j9 (fun _ =>
 some true) (fun y7 =>
 some y7) b5)
def w6:Nat->(Val->Api_Type->Api_TypeNode->Option Bool)×(Val->Api_Type->Api_TypeNode->Option Bool)×(Val->Api_Type->Int->Option Bool)×((List Val)->Api_Type->(List Int)->Option Bool)
 | 0=>(fun _ _ _=>none,fun _ _ _=>none,fun _ _ _=>none,fun _ _ _=>none)
 | n+1=>(a5p n ((w6 n).1) ((w6 n).2.1) ((w6 n).2.2.1) ((w6 n).2.2.2),a5B n ((w6 n).1) ((w6 n).2.1) ((w6 n).2.2.1) ((w6 n).2.2.2),a6l n ((w6 n).1) ((w6 n).2.1) ((w6 n).2.2.1) ((w6 n).2.2.2),a2d n ((w6 n).1) ((w6 n).2.1) ((w6 n).2.2.1) ((w6 n).2.2.2))
def a0R (n:Nat):Val->Api_Type->Api_TypeNode->Option Bool:=(w6 n).1
def a01 (n:Nat):Val->Api_Type->Api_TypeNode->Option Bool:=(w6 n).2.1
def w5 (n:Nat):Val->Api_Type->Int->Option Bool:=(w6 n).2.2.1
def a0n (n:Nat):(List Val)->Api_Type->(List Int)->Option Bool:=(w6 n).2.2.2
def a3w (v:Val)(t:Api_Type)(g:Api_Goal)(n:Nat)(x1:Int):Option (Fl Int (Sum Unit Bool)) :=
 bif decide (x1<(g.Pos.length:Int))
 then (Option.bind (idx g.Pos x1) fun e2 =>
 Option.bind (w5 n v t e2) fun r3 =>
 bif !r3
 then (some (.done (.inr false)))
 else (some (.next (wr .i64 (x1+1)))))
 else (some (.done (.inl ())))
def a3A (v:Val)(t:Api_Type)(g:Api_Goal)(n:Nat)(x7:Int):Option (Fl Int (Sum Unit Bool)) :=
 bif decide (x7<(g.Neg.length:Int))
 then (Option.bind (idx g.Neg x7) fun e8 =>
 Option.bind (w5 n v t e8) fun r9 =>
 bif r9
 then (some (.done (.inr false)))
 else (some (.next (wr .i64 (x7+1)))))
 else (some (.done (.inl ())))
def a6T (n:Nat)(v:Val)(t:Api_Type)(g:Api_Goal):Option Bool :=
 Option.bind (z7 (a3w v t g n) ((g.Pos.length:Int).toNat+1) 0) fun b4 =>
 j9 (fun _ =>
 Option.bind (z7 (a3A v t g n) ((g.Neg.length:Int).toNat+1) 0) fun b10 =>
 j9 (fun _ =>
 Option.bind (bif !g.Lists
 then (some true)
 else (some (v.Kind==5))) fun q13 =>
 Option.bind (bif q13
 then (some true)
 else (some (v.Kind==7))) fun q14 =>
 some q14) (fun y12 =>
 some y12) b10) (fun y6 =>
 some y6) b4
def X2 (n:Nat)(v:Val)(t:Api_Type)(g:Api_Goal):Option Bool :=
 Option.bind (X9 n v) fun r1 =>
 Option.bind (bif r1
 then (Option.bind (a0Z n t) fun r2 =>
 some (r2==0))
 else (some false)) fun q3 =>
 Option.bind (bif q3
 then (Option.bind (a2X t g) fun r4 =>
 some r4)
 else (some false)) fun q5 =>
 Option.bind (bif q5
 then (Option.bind (a6T n v t g) fun r6 =>
 some r6)
 else (some false)) fun q7 =>
 some q7
def a1C (d:Val)(t:Api_Type)(a2_2:Api_Shape)(n:Nat)(x1:Int):Option (Fl Int (Sum Unit Bool)) :=
 bif decide (x1<(a2_2.Keys.length:Int))
 then (Option.bind (idx a2_2.Keys x1) fun e2 =>
 Option.bind (a0c d.Keys e2) fun r3 =>
 Option.bind (idx a2_2.States x1) fun e4 =>
 Option.bind (bif decide (e4<0)
 then (some true)
 else (some (decide (2<e4)))) fun q5 =>
 Option.bind (bif q5
 then (some true)
 else (Option.bind (bif decide (r3<0)
 then (some (e4==1))
 else (some false)) fun q6 =>
 some q6)) fun q7 =>
 Option.bind (bif q7
 then (some true)
 else (Option.bind (bif decide (0<=r3)
 then (some (e4==0))
 else (some false)) fun q8 =>
 some q8)) fun q9 =>
 bif q9
 then (some (.done (.inr false)))
 else (Option.bind (bif decide (0<=r3)
 then (Option.bind (idx d.Kids r3) fun e10 =>
 Option.bind (idx a2_2.Parts x1) fun e11 =>
 Option.bind (X2 n e10 t e11) fun r12 =>
 some (!r12))
 else (some false)) fun q13 =>
 bif q13
 then (some (.done (.inr false)))
 else (some (.next (wr .i64 (x1+1))))))
 else (some (.done (.inl ())))
def a1D (d:Val)(t:Api_Type)(a2_2:Api_Shape)(n:Nat)(x17:Int):Option (Fl Int (Sum Unit Bool)) :=
 bif decide (x17<(d.Keys.length:Int))
 then (Option.bind (idx d.Keys x17) fun e18 =>
 Option.bind (a0c a2_2.Keys e18) fun r19 =>
 Option.bind (bif decide (r19<0)
 then (Option.bind (idx d.Kids x17) fun e20 =>
 Option.bind (idx d.Keys x17) fun e21 =>
 bif e21.Kind==0
 then (Option.bind (X2 n e20 t a2_2.Rest.1) fun r22 =>
 some (!r22))
 else (bif e21.Kind==1
 then (Option.bind (X2 n e20 t a2_2.Rest.2) fun r23 =>
 some (!r23))
 else (none)))
 else (some false)) fun q24 =>
 bif q24
 then (some (.done (.inr false)))
 else (some (.next (wr .i64 (x17+1)))))
 else (some (.done (.inl ())))
def a1B (d:Val)(t:Api_Type)(a2_2:Api_Shape)(n:Nat)(x28:Int)(x29:Bool×Int):Option (Fl (Bool×Int) Bool) :=
 bif decide (x29.2<(d.Keys.length:Int))
 then (Option.bind (bif x29.1
 then (some true)
 else (Option.bind (idx d.Keys x29.2) fun e30 =>
 Option.bind (a0c a2_2.Keys e30) fun r31 =>
 Option.bind (bif decide (r31<0)
 then (Option.bind (idx d.Keys x29.2) fun e32 =>
 Option.bind (idx a2_2.Some x28) fun e33 =>
 some (e32.Kind==e33.Kind))
 else (some false)) fun q34 =>
 Option.bind (bif q34
 then (Option.bind (idx d.Kids x29.2) fun e35 =>
 Option.bind (idx a2_2.Some x28) fun e36 =>
 Option.bind (X2 n e35 t e36.Goal) fun r37 =>
 some r37)
 else (some false)) fun q38 =>
 some q38)) fun q39 =>
 some (.next (q39,wr .i64 (x29.2+1))))
 else (some (.done x29.1))
def a1A (d:Val)(t:Api_Type)(a2_2:Api_Shape)(n:Nat)(x28:Int):Option (Fl Int (Sum Unit Bool)) :=
 bif decide (x28<(a2_2.Some.length:Int))
 then (Option.bind (z7 (a1B d t a2_2 n x28) ((d.Keys.length:Int).toNat+1) (false,0)) fun b40 =>
 bif !b40
 then (some (.done (.inr false)))
 else (some (.next (wr .i64 (x28+1)))))
 else (some (.done (.inl ())))
def a0e (n:Nat)(d:Val)(t:Api_Type)(a2_2:Api_Shape):Option Bool :=
 bif d.Kind != 8
 then (some false)
 else (Option.bind (z7 (a1C d t a2_2 n) ((a2_2.Keys.length:Int).toNat+1) 0) fun b14 =>
 j9 (fun _ =>
 Option.bind (z7 (a1D d t a2_2 n) ((d.Keys.length:Int).toNat+1) 0) fun b25 =>
 j9 (fun _ =>
 Option.bind (z7 (a1A d t a2_2 n) ((a2_2.Some.length:Int).toNat+1) 0) fun b41 =>
 j9 (fun _ =>
 some true) (fun y43 =>
 some y43) b41) (fun y27 =>
 some y27) b25) (fun y16 =>
 some y16) b14)
noncomputable def a0D (n:Nat)(r3:Api_Type×Api_Line)(r4:(List Api_Shape)×Int)(r9:Val×Semtypebase_Source)(x10:Bool×Int):Option (Fl (Bool×Int) (Sum Bool Bool)) :=
 bif decide (x10.2<(r4.1.length:Int))
 then (Option.bind (idx r4.1 x10.2) fun e11 =>
 Option.bind (a4Q r3.1 r3.2 e11) fun r12 =>
 Option.bind (bif !r12
 then (some true)
 else (Option.bind (idx r4.1 x10.2) fun e13 =>
 Option.bind (a2i n r9.1 r3.1 e13) fun r14 =>
 Option.bind (idx r4.1 x10.2) fun e15 =>
 Option.bind (a0e n r9.1 r3.1 e15) fun r16 =>
 some (r14 != r16))) fun q17 =>
 bif q17
 then (some (.done (.inr false)))
 else (Option.bind (bif x10.1
 then (some true)
 else (Option.bind (idx r4.1 x10.2) fun e18 =>
 Option.bind (a0e n r9.1 r3.1 e18) fun r19 =>
 some r19)) fun q20 =>
 some (.next (q20,wr .i64 (x10.2+1)))))
 else (some (.done (.inl x10.1)))
noncomputable def a05 (n:Nat)(d:List Int)(t:List Int)(a2_2:List Int):Option Bool :=
 Option.bind (a5b ([d,t,a2_2]:List (List Int))) fun r1 =>
 bif !r1
 then (Option.bind (a1p n) fun r2 =>
 some r2)
 else (Option.bind (a5y d t) fun r3 =>
 Option.bind (a3D n r3.1 r3.2) fun r4 =>
 Option.bind (bif r4.2 != 0
 then (some true)
 else (some (decide (2000<(r4.1.length:Int))))) fun q5 =>
 bif q5
 then (Option.bind (bif r4.2==0
 then (Option.bind (a1p n) fun r6 =>
 some r6)
 else (some false)) fun q7 =>
 some q7)
 else (Option.bind (z8 (Semtypebase_Source.mk a2_2 0) 3) fun r8 =>
 Option.bind (a4X n r8.2 r3.1 (wr .i64 ((wr .i64 ((r3.1.Nodes.length:Int)-1))-r8.1)) 3) fun r9 =>
 Option.bind (z7 (a0D n r3 r4 r9) ((r4.1.length:Int).toNat+1) (false,0)) fun b21 =>
 j9 (fun x22 =>
 Option.bind (bif r9.1.Kind==8
 then (Option.bind (X2 n r9.1 r3.1 (Api_Goal.mk r3.2.Pos r3.2.Neg false)) fun r24 =>
 some r24)
 else (some false)) fun q25 =>
 Option.bind (bif x22==q25
 then (Option.bind (a1p n) fun r26 =>
 some r26)
 else (some false)) fun q27 =>
 some q27) (fun y23 =>
 some y23) b21))
end Go.Qx
end
section
namespace Go.Pl
open Go Go.RowKit Go.Sx Go.Qx
theorem v7 (x:Int):wr .i64 x=w64 x:=rfl
theorem V6 {α:Type}(b:Bool)(x y:α):(bif b then x else y)=if b=true then x else y:=by cases b<;>rfl
theorem a0Y {α:Type}(o:Option α):(Option.bind o fun x=>some x)=o:=by cases o<;>rfl
theorem w4 {α:Type}(l:List α):((l.length:Int)).toNat=l.length:=by omega
theorem c03 (s:ByteArray):((s.size:Int)).toNat=s.size:=by omega
theorem K2 {x:Int}(h1 : -9223372036854775808<=x)(h2:x<=9223372036854775807):w64 x=x:=by
 unfold w64
 rw [IntKind.wrap_i64]
 omega
theorem y4 {α:Type}{xs:List α}{i:Nat}{x:α}(h:xs[i]?=some x):idx xs (i:Int)=some x:=by
 unfold idx
 rw [if_pos (by omega)]
 simpa using h
theorem Z2 {n bytes:Nat}(h:n*bytes<=140737488355328):Z4 n bytes=some ():=by unfold Z4; rw [if_pos h]
theorem a2K {σ α St β:Type}{step:St->Option (Fl St β)}(xs:List α)(pack:σ->Nat->St)(F:σ->α->σ)(I:Nat->σ->Prop)(D:σ->β)
 (hstep:∀ i s x,xs[i]?=some x->I i s->step (pack s i)=some (.next (pack (F s x) (i+1)))/\I (i+1) (F s x))
 (hend:∀ s,I xs.length s->step (pack s xs.length)=some (.done (D s))) (s0:σ) (h0:I 0 s0) (k:Nat) (hk:xs.length+1<=k) :
 z7 step k (pack s0 0)=some (D (xs.foldl F s0)):=by
 have key:∀ (n i:Nat) (s:σ) (k:Nat),i+n=xs.length->n+1<=k->I i s->z7 step k (pack s i)=some (D ((xs.drop i).foldl F s)):=by
  intro n
  induction n with
  | zero =>
    intro i s k hi hk hI
    have e:i=xs.length:=by omega
    subst e
    obtain ⟨k,rfl⟩:∃ m,k=m+1:=⟨k-1,by omega⟩
    simp [z7,hend s hI]
  | succ n ih =>
    intro i s k hi hk hI
    have hlt:i<xs.length:=by omega
    obtain ⟨k,rfl⟩:∃ m,k=m+1:=⟨k-1,by omega⟩
    obtain ⟨h1,h2⟩:=hstep i s xs[i] (List.getElem?_eq_getElem hlt) hI
    rw [List.drop_eq_getElem_cons hlt,List.foldl_cons]
    simp only [z7,h1,Option.bind_some]
    exact ih (i+1) _ k (by omega) (by omega) h2
 have:=key xs.length 0 s0 k (by omega) hk h0
 simpa using this
def a3u (s:ByteArray):Nat:=s.size+1
def J8:List ByteArray->Nat
 | []=>0
 | s::r=>a3u s+J8 r
def a6x (k:Key):Nat:=1+a3u k.Text+1
def w7:List Key->Nat
 | []=>0
 | s::r=>a6x s+w7 r
mutual
def k8:Val->Nat
 | .mk _ _ t kids keys ents labs=>1+1+a3u t+(v8 kids+1)+(w7 keys+1)+(Z0 ents+1)+(J8 labs+1)+1
def v8:List Val->Nat
 | []=>0
 | x::r=>k8 x+v8 r
def a35:Ent->Nat
 | .mk args _ res=>(v8 args+1)+1+k8 res+1
def Z0:List Ent->Nat
 | []=>0
 | x::r=>a35 x+Z0 r
end
theorem a02 (v:Val):k8 v=1+1+a3u v.Text+(v8 v.Kids+1)+(w7 v.Keys+1)+(Z0 v.Entries+1)+(J8 v.Labels+1)+1:=by
 cases v; simp only [k8,Val.Text,Val.Kids,Val.Keys,Val.Entries,Val.Labels]
theorem a1k (v:Ent):a35 v=(v8 v.Args+1)+1+k8 v.Result+1:=by
 cases v; simp only [a35,Ent.Args,Ent.Result]
theorem a0N {x:Val}:∀ {l:List Val},x∈l->k8 x<=v8 l
 | y::r,h=>by
   simp only [v8]
   rcases List.mem_cons.1 h with rfl | h
   ·omega
   ·have:=a0N h; omega
theorem X7 {x:Ent}:∀ {l:List Ent},x∈l->a35 x<=Z0 l
 | y::r,h=>by
   simp only [Z0]
   rcases List.mem_cons.1 h with rfl | h
   ·omega
   ·have:=X7 h; omega
theorem a15:∀ (l:List Val),l.length<=v8 l
 | []=>Nat.le_refl _
 | x::r=>by have:=a15 r; have:=a02 x; simp only [v8,List.length_cons]; omega
theorem a3k:∀ (l:List Ent),l.length<=Z0 l
 | []=>Nat.le_refl _
 | x::r=>by have:=a3k r; have:=a1k x; simp only [Z0,List.length_cons]; omega
theorem a5D:∀ (l:List Key),l.length<=w7 l
 | []=>Nat.le_refl _
 | x::r=>by have:=a5D r; simp only [w7,a6x,List.length_cons]; omega
theorem a4t:∀ (l:List ByteArray),l.length<=J8 l
 | []=>Nat.le_refl _
 | x::r=>by have:=a4t r; simp only [J8,a3u,List.length_cons]; omega
theorem a1s (l m:List Val):v8 (l++m)=v8 l+v8 m:=by
 induction l with
 | nil=>simp [v8]
 | cons x r ih=>simp only [List.cons_append,v8,ih]; omega
theorem a8q (v:Val):8<=k8 v:=by rw [a02]; unfold a3u; omega
end Go.Pl
namespace Go.Pl
open Go Go.RowKit Go.Sx Go.Qx
def a67 (e:Ent):List Val:=e.Args++(if e.Fails then [] else [e.Result])
def a86 (v:Val):List Val:=v.Kids++v.Entries.flatMap a67
theorem c4D (e:Ent):v8 (a67 e)<a35 e:=by
 rw [a1k,a67,a1s]
 cases e.Fails<;>simp [v8]<;>omega
theorem b7W:∀ l:List Ent,v8 (l.flatMap a67)<=Z0 l
 | []=>by simp [v8]
 | e::r=>by
   have h1:=b7W r
   have h2:=c4D e
   simp only [List.flatMap_cons,a1s,Z0]
   omega
theorem c6p (v:Val):v8 (a86 v)<k8 v:=by
 have:=b7W v.Entries
 rw [a02,a86,a1s]
 omega
theorem c2f {α β:Type}(f:β->List α):∀ (l:List β) (s:List α),l.foldl (fun s x=>s++f x) s=s++l.flatMap f
 | [],s=>by simp
 | x::r,s=>by simp only [List.foldl_cons,c2f f r,List.flatMap_cons,List.append_assoc]
theorem c75 (v:Val)(h:k8 v<=4194304):a91 v=some (a86 v):=by
 have hb:=a02 v
 have hk:=a15 v.Kids
 unfold a91 a0U
 rw [Z2 (by simp; omega)]
 simp only [Option.bind_some,w4,a0Y]
 have hlen:=a3k v.Entries
 have hloop:z7 (a7y v) (v.Entries.length+1) (v.Kids,0)=some (v.Entries.foldl (fun s e=>s++a67 e) v.Kids):=by
  refine a2K (σ:=List Val) v.Entries (fun s i=>(s,(i:Int))) (fun s e=>s++a67 e) (fun i s=>s=v.Kids++(v.Entries.take i).flatMap a67) (fun s=>s)
   ?_ ?_ v.Kids (by simp) _ (Nat.le_refl _)
  ·intro i s e he hI
   have hi:i<v.Entries.length:=(List.getElem?_eq_some_iff.1 he).1
   have hmem:e∈v.Entries:=List.mem_of_getElem? he
   have h1:=X7 hmem
   have h2:=a1k e
   have h3:=a15 e.Args
   have hs:s.length+e.Args.length+1<=8388608:=by
    have:v8 s<=k8 v:=by
     rw [hI,a1s]
     have h5:=b7W (v.Entries.take i)
     have h6:Z0 (v.Entries.take i)<=Z0 v.Entries:=by
      have:=List.take_append_drop i v.Entries
      have h7:∀ a b:List Ent,Z0 (a++b)=Z0 a+Z0 b:=by
       intro a b
       induction a with
       | nil=>simp [Z0]
       | cons x r ih=>simp only [List.cons_append,Z0,ih]; omega
      have h8:=h7 (v.Entries.take i) (v.Entries.drop i)
      rw [this] at h8
      omega
     omega
    have:=a15 s
    omega
   refine ⟨?_,?_⟩
   ·unfold a7y
    simp only [V6,v7]
    rw [if_pos (by simp; omega),y4 he]
    simp only [Option.bind_some]
    rw [Z2 (by omega)]
    simp only [Option.bind_some]
    have hw:w64 ((i:Int)+1)=((i+1:Nat):Int):=by rw [K2 (by omega) (by omega)]; rfl
    cases hf:e.Fails
    ·rw [if_pos (by simp),Z2 (by simp only [List.length_append,List.length_cons,List.length_nil]; omega)]
     simp [a67,hf,hw]
    ·rw [if_neg (by simp)]
     simp [a67,hf,hw]
   ·rw [hI,List.take_add_one,he]
    simp
  ·intro s _
   unfold a7y
   simp
 rw [hloop]
 simp only [c2f,a86]
theorem a69 {α:Type}{l:List α}{i:Nat}{x:α}(h:l[i]?=some x):l.take (i+1)=l.take i++[x]:=by
 rw [List.take_add_one,h]; rfl
end Go.Pl
end
section
namespace Go.Pl
open Go Go.RowKit Go.Sx Go.Qx
def tn (x y:Int):Int:=if x=0 then y else x
def cI (x y:Int):Int:=if x<y then -1 else if y<x then 1 else 0
def lx:List Int->List Int->Int
 | [],[]=>0
 | [],_::_ => -1
 | _::_,[]=>1
 | x::xs,y::ys=>tn (cI x y) (lx xs ys)
theorem a9G (x y z:Int):tn (tn x y) z=tn x (tn y z):=by unfold tn; split<;>simp_all
theorem a9N (x:Int):tn x 0=x:=by unfold tn; split<;>simp_all
theorem a9U (x:Int):tn 0 x=x:=by simp [tn]
theorem W4 (x y:Int):(x<y/\cI x y = -1)\/(y<x/\cI x y=1)\/(x=y/\cI x y=0):=by
 unfold cI
 by_cases h:x<y
 ·left; simp [h]
 ·by_cases h2:y<x
  ·right; left; simp [h,h2]
  ·right; right; simp [h,h2]; omega
theorem b4R:∀ a b:List Int,lx b a = - lx a b
 | [],[]=>by simp [lx]
 | [],_::_=>by simp [lx]
 | _::_,[]=>by simp [lx]
 | x::xs,y::ys=>by
   have:=b4R xs ys
   rcases W4 x y with ⟨h1,h⟩ | ⟨h1,h⟩ | ⟨h1,h⟩<;>rcases W4 y x with ⟨h2,k⟩ | ⟨h2,k⟩ | ⟨h2,k⟩<;>simp [lx,h,k,tn]<;>omega
theorem b9s:∀ a b c:List Int,lx a b<=0->lx b c<=0->lx a c<=0
 | [],_,[],_,_=>by simp [lx]
 | [],_,_::_,_,_=>by simp [lx]
 | _::_,[],_,h,_=>by simp [lx] at h
 | _::_,_::_,[],_,h=>by simp [lx] at h
 | x::xs,y::ys,z::zs,h1,h2=>by
   have:=b9s xs ys zs
   rcases W4 x y with ⟨p1,h⟩ | ⟨p1,h⟩ | ⟨p1,h⟩<;>rcases W4 y z with ⟨p2,k⟩ | ⟨p2,k⟩ | ⟨p2,k⟩ <;>
    rcases W4 x z with ⟨p3,l⟩ | ⟨p3,l⟩ | ⟨p3,l⟩<;>simp [lx,h,k,l,tn] at h1 h2 ⊢<;>first | omega | (exact this (by omega) (by omega))
theorem c4T:∀ a:List Int,lx a a=0:=by intro a; have:=b4R a a; omega
def cBs:List UInt8->List UInt8->Int
 | [],[]=>0
 | [],_::_ => -1
 | _::_,[]=>1
 | x::xs,y::ys=>tn (cI x.toNat y.toNat) (cBs xs ys)
def eBs:List UInt8->List Int
 | []=>[0]
 | x::r=>((x.toNat:Int)+1)::eBs r
theorem d0B (x y:Int):cI (x+1) (y+1)=cI x y:=by
 unfold cI
 by_cases h:x<y
 ·rw [if_pos (by omega),if_pos h]
 ·rw [if_neg (by omega),if_neg h]
  by_cases h2:y<x
  ·rw [if_pos (by omega),if_pos h2]
  ·rw [if_neg (by omega),if_neg h2]
theorem d1K:∀ (a b:List UInt8) (r s:List Int),lx (eBs a++r) (eBs b++s)=tn (cBs a b) (lx r s)
 | [],[],r,s=>by simp [eBs,lx,cBs,cI,a9U]
 | [],y::ys,r,s=>by
   have:cI 0 ((y.toNat:Int)+1) = -1:=by unfold cI; rw [if_pos (by omega)]
   simp [eBs,lx,cBs,this,tn]
 | x::xs,[],r,s=>by
   have:cI ((x.toNat:Int)+1) 0=1:=by unfold cI; rw [if_neg (by omega),if_pos (by omega)]
   simp [eBs,lx,cBs,this,tn]
 | x::xs,y::ys,r,s=>by
   simp only [eBs,List.cons_append,lx,cBs,d0B,d1K xs ys,a9G]
def cS (a b:ByteArray):Int:=cBs a.data.toList b.data.toList
def eS (a:ByteArray):List Int:=eBs a.data.toList
theorem pfS (a b:ByteArray)(r s:List Int):lx (eS a++r) (eS b++s)=tn (cS a b) (lx r s):=d1K _ _ r s
def cK (a b:Key):Int:=tn (cI a.Kind b.Kind) (cS a.Text b.Text)
def eK (a:Key):List Int:=a.Kind::eS a.Text
theorem pfK (a b:Key)(r s:List Int):lx (eK a++r) (eK b++s)=tn (cK a b) (lx r s):=by
 simp only [eK,List.cons_append,lx,pfS,cK,a9G]
def cL {α:Type}(c:α->α->Int):List α->List α->Int
 | [],_=>0
 | _::_,[]=>0
 | x::xs,y::ys=>tn (c x y) (cL c xs ys)
def cN {α:Type}(c:α->α->Int)(xs ys:List α):Int:=tn (cI (xs.length:Int) (ys.length:Int)) (cL c xs ys)
def eN {α:Type}(e:α->List Int)(xs:List α):List Int:=(xs.length:Int)::xs.flatMap e
theorem pfL {α:Type}{c:α->α->Int}{e:α->List Int}:∀ (xs ys:List α) (r s:List Int),(∀ x∈xs,∀ y r s,lx (e x++r) (e y++s)=tn (c x y) (lx r s))->xs.length=ys.length ->
 lx (xs.flatMap e++r) (ys.flatMap e++s)=tn (cL c xs ys) (lx r s)
 | [],[],r,s,_,_=>by simp [cL,a9U]
 | [],_::_,_,_,_,h=>by simp at h
 | _::_,[],_,_,_,h=>by simp at h
 | x::xs,y::ys,r,s,hc,h=>by
   simp only [List.flatMap_cons,List.append_assoc,cL]
   rw [hc x (by simp),pfL xs ys r s (fun z hz=>hc z (by simp [hz])) (by simpa using h),a9G]
theorem pfN {α:Type}{c:α->α->Int}{e:α->List Int}(xs ys:List α)(r s:List Int)(hc:∀ x∈xs,∀ y r s,lx (e x++r) (e y++s)=tn (c x y) (lx r s)) :
 lx (eN e xs++r) (eN e ys++s)=tn (cN c xs ys) (lx r s):=by
 simp only [eN,List.cons_append,lx,cN,a9G]
 rcases W4 (xs.length:Int) (ys.length:Int) with ⟨_,h⟩ | ⟨_,h⟩ | ⟨h1,h⟩
 ·simp [h,tn]
 ·simp [h,tn]
 ·rw [h,a9U,a9U,pfL xs ys r s hc (by omega)]
def bI (b:Bool):Int:=if b then 0 else 1
mutual
def cV:Val->Val->Int
 | .mk k n t kids keys ents labs,b=>tn (cI k b.Kind) (tn (cI n b.Int_) (tn (cS t b.Text) (tn (cN cK keys b.Keys) (tn (tn (cI (kids.length:Int) (b.Kids.length:Int)) (cVs kids b.Kids)) (tn (tn (cI (ents.length:Int) (b.Entries.length:Int)) (cEs ents b.Entries)) (cN cS labs b.Labels))))))
def cVs:List Val->List Val->Int
 | [],_=>0
 | _::_,[]=>0
 | x::xs,y::ys=>tn (cV x y) (cVs xs ys)
def cE:Ent->Ent->Int
 | .mk args f res,b=>tn (tn (cI (args.length:Int) (b.Args.length:Int)) (cVs args b.Args)) (tn (cI (bI f) (bI b.Fails)) (cV res b.Result))
def cEs:List Ent->List Ent->Int
 | [],_=>0
 | _::_,[]=>0
 | x::xs,y::ys=>tn (cE x y) (cEs xs ys)
end
theorem c4i:∀ xs ys:List Val,cVs xs ys=cL cV xs ys
 | [],_=>by simp [cVs,cL]
 | _::_,[]=>by simp [cVs,cL]
 | x::xs,y::ys=>by simp only [cVs,cL,c4i xs ys]
theorem c6L:∀ xs ys:List Ent,cEs xs ys=cL cE xs ys
 | [],_=>by simp [cEs,cL]
 | _::_,[]=>by simp [cEs,cL]
 | x::xs,y::ys=>by simp only [cEs,cL,c6L xs ys]
theorem c58 (a b:Val):cV a b=tn (cI a.Kind b.Kind) (tn (cI a.Int_ b.Int_) (tn (cS a.Text b.Text) (tn (cN cK a.Keys b.Keys) (tn (cN cV a.Kids b.Kids) (tn (cN cE a.Entries b.Entries) (cN cS a.Labels b.Labels)))))):=by
 cases a; simp only [cV,c4i,c6L,cN,Val.Kind,Val.Int_,Val.Text,Val.Keys,Val.Kids,Val.Entries,Val.Labels]
theorem c5C (a b:Ent):cE a b=tn (cN cV a.Args b.Args) (tn (cI (bI a.Fails) (bI b.Fails)) (cV a.Result b.Result)):=by
 cases a; simp only [cE,c4i,cN,Ent.Args,Ent.Fails,Ent.Result]
mutual
def eV:Val->List Int
 | .mk k n t kids keys ents labs=>k::n::(eS t++(eN eK keys++(((kids.length:Int)::eVs kids)++(((ents.length:Int)::eEs ents)++eN eS labs))))
def eVs:List Val->List Int
 | []=>[]
 | x::xs=>eV x++eVs xs
def eE:Ent->List Int
 | .mk args f res=>((args.length:Int)::eVs args)++(bI f::eV res)
def eEs:List Ent->List Int
 | []=>[]
 | x::xs=>eE x++eEs xs
end
theorem c4c:∀ xs:List Val,eVs xs=xs.flatMap eV
 | []=>by simp [eVs]
 | x::xs=>by simp only [eVs,List.flatMap_cons,c4c xs]
theorem c7G:∀ xs:List Ent,eEs xs=xs.flatMap eE
 | []=>by simp [eEs]
 | x::xs=>by simp only [eEs,List.flatMap_cons,c7G xs]
theorem c9x (a:Val):eV a=a.Kind::a.Int_::(eS a.Text++(eN eK a.Keys++(eN eV a.Kids++(eN eE a.Entries++eN eS a.Labels)))):=by
 cases a; simp only [eV,c4c,c7G,eN,Val.Kind,Val.Int_,Val.Text,Val.Keys,Val.Kids,Val.Entries,Val.Labels]
theorem c9u (a:Ent):eE a=eN eV a.Args++(bI a.Fails::eV a.Result):=by
 cases a; simp only [eE,c4c,eN,Ent.Args,Ent.Fails,Ent.Result]
theorem c7B:∀ n:Nat,(∀ a:Val,k8 a<=n->∀ b r s,lx (eV a++r) (eV b++s)=tn (cV a b) (lx r s))/\(∀ a:Ent,a35 a<=n->∀ b r s,lx (eE a++r) (eE b++s)=tn (cE a b) (lx r s)):=by
 intro n
 induction n with
 | zero=>exact ⟨fun a h=>by have:=a8q a; omega,fun a h=>by have:=a1k a; omega⟩
 | succ n ih =>
   refine ⟨fun a h b r s=>?_,fun a h b r s=>?_⟩
   ·have hb:=a02 a
    rw [c9x a,c9x b,c58]
    simp only [List.cons_append,List.append_assoc,lx,a9G]
    rw [pfS,pfN a.Keys b.Keys _ _ (fun x _ y r s=>pfK x y r s),pfN a.Kids b.Kids _ _ (fun x hx=>ih.1 x (by have:=a0N hx; omega)),
     pfN a.Entries b.Entries _ _ (fun x hx=>ih.2 x (by have:=X7 hx; omega)),pfN a.Labels b.Labels _ _ (fun x _ y r s=>pfS x y r s)]
   ·have hb:=a1k a
    rw [c9u a,c9u b,c5C]
    simp only [List.append_assoc,a9G]
    rw [pfN a.Args b.Args _ _ (fun x hx=>ih.1 x (by have:=a0N hx; omega))]
    simp only [List.cons_append,lx]
    rw [ih.1 a.Result (by omega)]
theorem d2r (a b:Val):cV a b=lx (eV a) (eV b):=by
 have:=(c7B (k8 a)).1 a (Nat.le_refl _) b [] []
 simpa [lx,a9N] using this.symm
theorem d0b (a:Val):cV a a=0:=by rw [d2r]; exact c4T _
end Go.Pl
namespace Go.Pl
open Go Go.RowKit Go.Sx Go.Qx
theorem b50 (a b:Int):a0G a b=some (cI a b):=by
 unfold a0G a7Z
 simp only [V6,bne_self_eq_false,Option.bind_some,Bool.false_eq_true,if_false]
 rcases W4 a b with ⟨h,e⟩ | ⟨h,e⟩ | ⟨h,e⟩
 ·rw [if_pos (by simpa using h),e]
 ·rw [if_neg (by simp; omega),if_pos (by simpa using h),e]
 ·rw [if_neg (by simp; omega),if_neg (by simp; omega),e]
theorem c28 (a b:Int):a5z a b=some (cI a b):=by
 unfold a5z a6J
 simp only [V6,bne_self_eq_false,Option.bind_some,Bool.false_eq_true,if_false]
 rcases W4 a b with ⟨h,e⟩ | ⟨h,e⟩ | ⟨h,e⟩
 ·rw [if_pos (by simpa using h),e]
 ·rw [if_neg (by simp; omega),if_pos (by simpa using h),e]
 ·rw [if_neg (by simp; omega),if_neg (by simp; omega),e]
theorem b2E (a b:Int):a2J a b=some (cI a b):=by
 unfold a2J
 simp only [V6]
 rcases W4 a b with ⟨h,e⟩ | ⟨h,e⟩ | ⟨h,e⟩
 ·rw [if_pos (by simpa using h),e]
 ·rw [if_neg (by simp; omega),if_pos (by simpa using h),e]
 ·rw [if_neg (by simp; omega),if_neg (by simp; omega),e]
theorem b7A (a b:Int):a0p a b=some (cI a b):=by
 unfold a0p; rw [b2E]; rfl
theorem c44:∀ a b:List UInt8,Lib.compareBytes a b=cBs a b
 | [],[]=>rfl
 | [],_::_=>rfl
 | _::_,[]=>rfl
 | x::xs,y::ys=>by
   have ih:=c44 xs ys
   simp only [Lib.compareBytes,cBs,UInt8.lt_iff_toNat_lt]
   rcases W4 (x.toNat:Int) (y.toNat:Int) with ⟨h,e⟩ | ⟨h,e⟩ | ⟨h,e⟩
   ·rw [if_pos (by omega),e]; rfl
   ·rw [if_neg (by omega),if_pos (by omega),e]; rfl
   ·rw [if_neg (by omega),if_neg (by omega),e,a9U,ih]
theorem b1d (a b:ByteArray):a0f a b=some (cS a b):=by
 unfold a0f a2r c3G b7j
 rw [c44]; rfl
theorem b7Y:∀ a b:List UInt8,(Op.bytesLess a b=true/\cBs a b = -1/\a≠b)\/(Op.bytesLess a b=false/\cBs a b=0/\a=b)\/(Op.bytesLess a b=false/\cBs a b=1/\a≠b)
 | [],[]=>by simp [Op.bytesLess,cBs]
 | [],_::_=>by simp [Op.bytesLess,cBs]
 | _::_,[]=>by simp [Op.bytesLess,cBs]
 | x::xs,y::ys=>by
   have ih:=b7Y xs ys
   simp only [Op.bytesLess,cBs]
   rcases W4 (x.toNat:Int) (y.toNat:Int) with ⟨h,e⟩ | ⟨h,e⟩ | ⟨h,e⟩
   ·have h1:x<y:=UInt8.lt_iff_toNat_lt.2 (by omega)
    have h2:x≠y:=by intro h3; subst h3; omega
    simp [e,h1,h2,tn]
   ·have h1:¬ x<y:=fun h3=>by have:=UInt8.lt_iff_toNat_lt.1 h3; omega
    have h2:x≠y:=by intro h3; subst h3; omega
    simp [e,h1,h2,tn]
   ·have h2:x=y:=UInt8.toNat_inj.1 (by omega)
    subst h2
    have h1:¬ x<x:=fun h3=>by have:=UInt8.lt_iff_toNat_lt.1 h3; omega
    simpa [e,h1,tn] using ih
theorem a8x (a b:ByteArray):(a2S a b=true/\Q4 a b=false/\cS a b = -1)\/(a2S a b=false/\Q4 a b=true/\cS a b=0)\/(a2S a b=false/\Q4 a b=false/\cS a b=1):=by
 unfold a2S Q4 cS
 rw [Lib.toList_data,Lib.toList_data]
 rcases b7Y a.data.toList b.data.toList with ⟨h,e,n⟩ | ⟨h,e,n⟩ | ⟨h,e,n⟩
 ·left; exact ⟨h,by simpa using n,e⟩
 ·right; left; exact ⟨h,by simpa using n,e⟩
 ·right; right; exact ⟨h,by simpa using n,e⟩
theorem b3x (a b:ByteArray):a1m a b=some (cS a b):=by
 unfold a1m
 rcases a8x a b with ⟨h,k,e⟩ | ⟨h,k,e⟩ | ⟨h,k,e⟩<;>simp [h,k,e]
theorem a97 {x y:Int}{o:Option Int}(h:o=some y):(bif (x != 0) then some x else o)=some (tn x y):=by
 rw [V6]
 unfold tn
 by_cases hx:x=0
 ·subst hx; simp [h]
 ·simp [hx]
theorem c5U {a b y:Int}{o:Option Int}(h:o=some y):(bif (a != b) then some (cI a b) else o)=some (tn (cI a b) y):=by
 rw [V6]
 unfold tn
 rcases W4 a b with ⟨p,e⟩ | ⟨p,e⟩ | ⟨p,e⟩
 ·have:a≠b:=by omega
  simp [this,e]
 ·have:a≠b:=by omega
  simp [this,e]
 ·simp [p,h]
  subst p
  intro h2; rw [e] at h2; exact absurd rfl h2
theorem d2s {a b:ByteArray}{y:Int}{o:Option Int}(h:o=some y):(bif (!Q4 a b) then (Option.bind (a1m a b) fun r=>some r) else o)=some (tn (cS a b) y):=by
 rw [V6,b3x,h]
 rcases a8x a b with ⟨_,p,e⟩ | ⟨_,p,e⟩ | ⟨_,p,e⟩<;>simp [p,e,tn]
theorem a92 (a b:Key):K3 a b=some (cK a b):=by
 unfold K3
 rw [b50]
 simp only [Option.bind_some]
 exact a97 (by rw [b1d]; rfl)
theorem a7O (a b:Key):J5 a b=some (cK a b):=by
 unfold J5
 rw [b2E]
 exact c5U (by rw [b3x]; rfl)
theorem c8r {α:Type}{step:Int->Option (Fl Int (Sum Unit Int))}{rc:α->α->Option Int}{c:α->α->Int}(xs ys:List α)(hlen:xs.length=ys.length)
 (hst:∀ q,step q=bif decide (q<(xs.length:Int)) then Option.bind (idx xs q) fun x=>Option.bind (idx ys q) fun y=>Option.bind (rc x y) fun r =>
   bif r != 0 then some (.done (.inr r)) else some (.next (wr .i64 (q+1))) else some (.done (.inl ())))
 (hrc:∀ x∈xs,∀ y,rc x y=some (c x y)) (hl:xs.length<=4194304) :
 ∃ o,z7 step (xs.length+1) 0=some o/\((o=.inl ()/\cL c xs ys=0)\/(o=.inr (cL c xs ys)/\cL c xs ys≠0)):=by
 have key:∀ (n i k:Nat),i+n=xs.length->n+1<=k ->
  ∃ o,z7 step k (i:Int)=some o/\((o=.inl ()/\cL c (xs.drop i) (ys.drop i)=0)\/(o=.inr (cL c (xs.drop i) (ys.drop i))/\cL c (xs.drop i) (ys.drop i)≠0)):=by
  intro n
  induction n with
  | zero =>
    intro i k hi hk
    obtain ⟨k,rfl⟩:∃ m,k=m+1:=⟨k-1,by omega⟩
    refine ⟨.inl (),?_,.inl ⟨rfl,?_⟩⟩
    ·simp only [z7,hst,V6]
     rw [if_neg (by simp; omega)]
     rfl
    ·rw [List.drop_eq_nil_of_le (by omega)]; simp [cL]
  | succ n ih =>
    intro i k hi hk
    obtain ⟨k,rfl⟩:∃ m,k=m+1:=⟨k-1,by omega⟩
    have hx:i<xs.length:=by omega
    have hy:i<ys.length:=by omega
    rw [List.drop_eq_getElem_cons hx,List.drop_eq_getElem_cons hy]
    have e:step (i:Int)=if (c xs[i] ys[i] != 0)=true then some (.done (.inr (c xs[i] ys[i]))) else some (.next (w64 ((i:Int)+1))):=by
     rw [hst]
     simp only [V6,v7]
     rw [if_pos (by simp; omega),y4 (List.getElem?_eq_getElem hx),y4 (List.getElem?_eq_getElem hy)]
     simp only [Option.bind_some]
     rw [hrc _ (List.getElem_mem hx)]
     rfl
    simp only [z7,e,cL]
    by_cases h0:c xs[i] ys[i]=0
    ·rw [h0,a9U,K2 (x:=(i:Int)+1) (by omega) (by omega)]
     obtain ⟨o,ho,hp⟩:=ih (i+1) k (by omega) (by omega)
     refine ⟨o,?_,hp⟩
     simpa using ho
    ·have ht:tn (c xs[i] ys[i]) (cL c (xs.drop (i+1)) (ys.drop (i+1)))=c xs[i] ys[i]:=by simp [tn,h0]
     rw [ht]
     refine ⟨.inr (c xs[i] ys[i]),?_,.inr ⟨rfl,h0⟩⟩
     simp [h0]
 obtain ⟨o,h1,h2⟩:=key xs.length 0 (xs.length+1) (by omega) (Nat.le_refl _)
 exact ⟨o,by simpa using h1,by simpa using h2⟩
theorem c5g {α:Type}{step:Int->Option (Fl Int (Sum Unit Int))}{rc:α->α->Option Int}{c:α->α->Int}(xs ys:List α)(hlen:xs.length=ys.length)
 (hst:∀ q,step q=bif decide (q<(xs.length:Int)) then Option.bind (idx xs q) fun x=>Option.bind (idx ys q) fun y=>Option.bind (rc x y) fun r =>
   bif r != 0 then some (.done (.inr r)) else some (.next (wr .i64 (q+1))) else some (.done (.inl ())))
 (hrc:∀ x∈xs,∀ y,rc x y=some (c x y)) (hl:xs.length<=4194304) {f:Unit->Option Int} {z:Int} (hf:∀ q,f q=some z) :
 (Option.bind (z7 step (((xs.length:Int)).toNat+1) 0) fun b=>j9 f (fun r=>some r) b)=some (tn (cL c xs ys) z):=by
 obtain ⟨o,h1,h2⟩:=c8r xs ys hlen hst hrc hl
 rw [w4,h1]
 rcases h2 with ⟨rfl,h⟩ | ⟨rfl,h⟩
 ·simp [j9,hf,h,tn]
 ·simp [j9,h,tn]
theorem b6e {α:Type}{step:Int->Option (Fl Int (Sum Unit Int))}{rc:α->α->Option Int}{c:α->α->Int}(xs ys:List α)
 (hst:∀ q,step q=bif decide (q<(xs.length:Int)) then Option.bind (idx xs q) fun x=>Option.bind (idx ys q) fun y=>Option.bind (rc x y) fun r =>
   bif r != 0 then some (.done (.inr r)) else some (.next (wr .i64 (q+1))) else some (.done (.inl ())))
 (hrc:∀ x∈xs,∀ y,rc x y=some (c x y)) (hl:xs.length<=4194304) :
 (Option.bind (a0G (xs.length:Int) (ys.length:Int)) fun r7=>bif r7 != 0 then some r7 else
   (Option.bind (z7 step (((xs.length:Int)).toNat+1) 0) fun b=>j9 (fun _=>some 0) (fun r=>some r) b))=some (cN c xs ys):=by
 rw [b50]
 simp only [Option.bind_some,cN]
 rcases W4 (xs.length:Int) (ys.length:Int) with ⟨_,e⟩ | ⟨_,e⟩ | ⟨p,e⟩
 ·simp [e,tn]
 ·simp [e,tn]
 ·rw [c5g xs ys (by omega) hst hrc hl (z:=0) (fun _=>rfl),a9N,e]
  simp [tn]
theorem b8c {α:Type}{step:Int->Option (Fl Int (Sum Unit Int))}{rc:α->α->Option Int}{c:α->α->Int}(xs ys:List α)
 (hst:∀ q,step q=bif decide (q<(xs.length:Int)) then Option.bind (idx xs q) fun x=>Option.bind (idx ys q) fun y=>Option.bind (rc x y) fun r =>
   bif r != 0 then some (.done (.inr r)) else some (.next (wr .i64 (q+1))) else some (.done (.inl ())))
 (hrc:∀ x∈xs,∀ y,rc x y=some (c x y)) (hl:xs.length<=4194304) {f:Unit->Option Int} {z:Int} (hf:∀ q,f q=some z) :
 (bif ((xs.length:Int) != (ys.length:Int)) then (Option.bind (a0p (xs.length:Int) (ys.length:Int)) fun r=>some r) else
   (Option.bind (z7 step (((xs.length:Int)).toNat+1) 0) fun b=>j9 f (fun r=>some r) b))=some (tn (cN c xs ys) z):=by
 rw [V6,b7A]
 simp only [Option.bind_some,cN]
 rcases W4 (xs.length:Int) (ys.length:Int) with ⟨p,e⟩ | ⟨p,e⟩ | ⟨p,e⟩
 ·have:((xs.length:Int) != (ys.length:Int))=true:=by simp; omega
  rw [if_pos this,e]; rfl
 ·have:((xs.length:Int) != (ys.length:Int))=true:=by simp; omega
  rw [if_pos this,e]; rfl
 ·rw [if_neg (by simp; omega),c5g xs ys (by omega) hst hrc hl hf,e,a9U]
theorem b6a:∀ (k:Nat),
 (∀ a b,2*k8 a<=k->k8 a<=4194304->a2L k a b=some (cV a b)) /\
 (∀ xs ys,2*v8 xs+1<=k->v8 xs<=4194304->a2Y k xs ys=some (cN cV xs ys)) /\
 (∀ a b,2*a35 a<=k->a35 a<=4194304->V0 k a b=some (cE a b))
 | 0=>⟨fun v _ h=>by have:=a8q v; omega,fun _ _ h=>by omega,fun v _ h=>by have:=a1k v; omega⟩
 | k+1=>by
   obtain ⟨i1,i2,i3⟩:=b6a k
   refine ⟨?_,?_,?_⟩
   ·intro a b h hb
    show a8F k (a2L k) (V0 k) (a2Y k) a b=_
    have hbe:=a02 a
    have hk:=a5D a.Keys
    have hs:=a4t a.Labels
    have he:=a3k a.Entries
    unfold a8F
    simp only [a0Y]
    rw [c58,b50,c28,b1d]
    simp only [Option.bind_some]
    refine a97 (a97 (a97 ?_))
    unfold a3G
    rw [b6e (step:=a5u a.Keys b.Keys fun x y=>K3 x y) a.Keys b.Keys (rc:=K3) (c:=cK) (fun q=>rfl) (fun x _ y=>a92 x y) (by omega)]
    simp only [Option.bind_some]
    refine a97 ?_
    rw [i2 a.Kids b.Kids (by omega) (by omega)]
    simp only [Option.bind_some]
    refine a97 ?_
    unfold a26
    rw [b6e (step:=a4S a.Entries b.Entries fun x y=>V0 k x y) a.Entries b.Entries (rc:=V0 k) (c:=cE) (fun q=>rfl) (fun x hx y=>i3 x y (by have:=X7 hx; omega) (by have:=X7 hx; omega)) (by omega)]
    simp only [Option.bind_some]
    refine a97 ?_
    unfold a4l
    rw [b6e (step:=a5M a.Labels b.Labels fun x y=>a0f x y) a.Labels b.Labels (rc:=a0f) (c:=cS) (fun q=>rfl) (fun x _ y=>b1d x y) (by omega)]
   ·intro xs ys h hb
    show a5E k (a2L k) (V0 k) (a2Y k) xs ys=_
    have hl:=a15 xs
    unfold a5E a20
    simp only [a0Y]
    rw [b6e (step:=a4U xs ys fun x y=>a2L k x y) xs ys (rc:=a2L k) (c:=cV) (fun q=>rfl) (fun x hx y=>i1 x y (by have:=a0N hx; omega) (by have:=a0N hx; omega)) (by omega)]
   ·intro a b h hb
    show a5m k (a2L k) (V0 k) (a2Y k) a b=_
    have hbe:=a1k a
    unfold a5m
    rw [c5C,i2 a.Args b.Args (by omega) (by omega),i1 a.Result b.Result (by omega) (by omega)]
    simp only [Option.bind_some]
    refine a97 ?_
    cases a.Fails<;>cases b.Fails<;>simp [bI,cI,tn]
theorem a5L:∀ (k:Nat),
 (∀ a b,2*k8 a<=k->k8 a<=4194304->a0m k a b=some (cV a b)) /\
 (∀ xs ys,2*v8 xs+1<=k->v8 xs<=4194304->a3p k xs ys=some (cN cV xs ys)) /\
 (∀ a b,2*a35 a<=k->a35 a<=4194304->Z8 k a b=some (cE a b))
 | 0=>⟨fun v _ h=>by have:=a8q v; omega,fun _ _ h=>by omega,fun v _ h=>by have:=a1k v; omega⟩
 | k+1=>by
   obtain ⟨i1,i2,i3⟩:=a5L k
   refine ⟨?_,?_,?_⟩
   ·intro a b h hb
    show a5P k (a0m k) (a3p k) (Z8 k) a b=_
    have hbe:=a02 a
    have hk:=a5D a.Keys
    have hs:=a4t a.Labels
    have he:=a3k a.Entries
    unfold a5P
    rw [c58,b7A,b2E]
    simp only [Option.bind_some]
    refine c5U (c5U (d2s ?_))
    refine b8c (step:=a7T a b) a.Keys b.Keys (rc:=J5) (c:=cK) (fun q=>rfl) (fun x _ y=>a7O x y) (by omega) ?_
    intro _
    rw [i2 a.Kids b.Kids (by omega) (by omega)]
    simp only [Option.bind_some]
    refine a97 ?_
    refine b8c (step:=a7W a b (Z8 k)) a.Entries b.Entries (rc:=Z8 k) (c:=cE) (fun q=>rfl) (fun x hx y=>i3 x y (by have:=X7 hx; omega) (by have:=X7 hx; omega)) (by omega) ?_
    intro _
    have:=b8c (step:=a7S a b) a.Labels b.Labels (rc:=a1m) (c:=cS) (z:=0) (fun q=>rfl) (fun x _ y=>b3x x y) (by omega) (f:=fun _=>some 0) (fun _=>rfl)
    rw [a9N] at this
    exact this
   ·intro xs ys h hb
    show a6g k (a0m k) (a3p k) (Z8 k) xs ys=_
    have hl:=a15 xs
    unfold a6g
    rw [b8c (step:=a8s xs ys (a0m k)) xs ys (rc:=a0m k) (c:=cV) (z:=0) (fun q=>rfl) (fun x hx y=>i1 x y (by have:=a0N hx; omega) (by have:=a0N hx; omega)) (by omega) (fun _=>rfl),a9N]
   ·intro a b h hb
    show a21 k (a0m k) (a3p k) (Z8 k) a b=_
    have hbe:=a1k a
    unfold a21
    rw [c5C,i2 a.Args b.Args (by omega) (by omega),i1 a.Result b.Result (by omega) (by omega)]
    simp only [Option.bind_some]
    refine a97 ?_
    cases a.Fails<;>cases b.Fails<;>simp [bI,cI,tn]
end Go.Pl
end
section
namespace Go.Pl
open Go Go.RowKit Go.Sx Go.Qx
theorem b2n {step:Int->Option (Fl Int (Sum Unit Bool))}(n:Nat)(p:Nat->Bool)
 (hst:∀ i:Nat,i<n->step (i:Int)=some (if p i=true then .next ((i+1:Nat):Int) else .done (.inr false)))
 (hend:∀ i:Nat,n<=i->step (i:Int)=some (.done (.inl ()))) (i0:Nat) (b:Bool) (hb:b=true↔∀ i,i0<=i->i<n->p i=true) :
 Option.bind (z7 step (n+1) (i0:Int)) (j9 (fun _=>some true) (fun r=>some r))=some b:=by
 have fin:∀ (i k:Nat),n<=i->(∀ j,i0<=j->j<i->j<n->p j=true)->Option.bind (z7 step (k+1) (i:Int)) (j9 (fun _=>some true) (fun r=>some r))=some b:=by
  intro i k h1 h4
  simp only [z7,hend i h1,Option.bind_some,j9]
  have:b=true:=hb.2 fun j a c=>h4 j a (by omega) c
  rw [this]
 have key:∀ (m i k:Nat),n<=i+m->m+1<=k->i0<=i->(∀ j,i0<=j->j<i->j<n->p j=true)->Option.bind (z7 step k (i:Int)) (j9 (fun _=>some true) (fun r=>some r))=some b:=by
  intro m
  induction m with
  | zero =>
    intro i k h1 h2 h3 h4
    obtain ⟨k,rfl⟩:∃ m,k=m+1:=⟨k-1,by omega⟩
    exact fin i k (by omega) h4
  | succ m ih =>
    intro i k h1 h2 h3 h4
    obtain ⟨k,rfl⟩:∃ m,k=m+1:=⟨k-1,by omega⟩
    by_cases hlt:i<n
    ·simp only [z7,hst i hlt]
     cases hp:p i
     ·simp only [Bool.false_eq_true,if_false,Option.bind_some,j9]
      have:b=false:=by
       cases b
       ·rfl
       ·have:=hb.1 rfl i h3 hlt
        rw [hp] at this; cases this
      rw [this]
     ·simp only [if_true,Option.bind_some]
      refine ih (i+1) k (by omega) (by omega) (by omega) (fun j a c d=>?_)
      by_cases e:j<i
      ·exact h4 j a e d
      ·have:j=i:=by omega
       subst this; exact hp
    ·exact fin i k (by omega) h4
 exact key n i0 (n+1) (by omega) (by omega) (Nat.le_refl _) (fun j a c=>by omega)
theorem j5 (i:Nat)(h:i<=4611686018427387904):w64 ((i:Int)+1)=((i+1:Nat):Int):=by rw [K2 (by omega) (by omega)]; rfl
theorem a3B (b:Bool)(x:Int):(bif (!b) then some (Fl.done (Sum.inr false)) else some (Fl.next x))=some (if b=true then Fl.next x else (Fl.done (Sum.inr false):Fl Int (Sum Unit Bool))):=by cases b<;>rfl
theorem c0b {α:Type}{step:Int->Option (Fl Int (Sum Unit Bool))}{rc:α->Option Bool}{p:α->Bool}(xs:List α)
 (hst:∀ q,step q=bif decide (q<(xs.length:Int)) then Option.bind (idx xs q) fun x=>Option.bind (rc x) fun r =>
   bif !r then some (.done (.inr false)) else some (.next (wr .i64 (q+1))) else some (.done (.inl ())))
 (hrc:∀ x∈xs,rc x=some (p x)) (hl:xs.length<=4194304) :
 (Option.bind (z7 step (((xs.length:Int)).toNat+1) 0) fun b=>j9 (fun _=>some true) (fun r=>some r) b)=some (xs.all p):=by
 rw [w4]
 refine b2n xs.length (fun i=>match xs[i]? with | some x=>p x | none=>true) ?_ ?_ 0 (xs.all p) ?_
 ·intro i hi
  rw [hst,V6,if_pos (by simp; omega),y4 (List.getElem?_eq_getElem hi)]
  simp only [Option.bind_some]
  rw [hrc _ (List.getElem_mem hi),List.getElem?_eq_getElem hi]
  simp only [Option.bind_some,v7,j5 i (by omega)]
  exact a3B _ _
 ·intro i hi
  rw [hst,V6,if_neg (by simp; omega)]
 ·rw [List.all_eq_true]
  constructor
  ·intro h i _ hi
   rw [List.getElem?_eq_getElem hi]
   exact h _ (List.getElem_mem hi)
  ·intro h x hx
   obtain ⟨i,hi,rfl⟩:=List.getElem_of_mem hx
   have:=h i (by omega) hi
   rwa [List.getElem?_eq_getElem hi] at this
def asc {α:Type}(c:α->α->Int):List α->Bool
 | x::y::r=>decide (c x y<0)&&asc c (y::r)
 | _=>true
theorem b1v {α:Type}(c:α->α->Int):∀ xs:List α,asc c xs=true↔∀ i,1<=i->(hi:i<xs.length)->c xs[i-1] xs[i]<0
 | []=>by simp [asc]
 | [x]=>by
   simp only [asc,true_iff]
   intro i h1 hi
   simp at hi; omega
 | x::y::r=>by
   have ih:=b1v c (y::r)
   simp only [asc,Bool.and_eq_true,decide_eq_true_eq,ih]
   constructor
   ·intro ⟨h1,h2⟩ i hi hl
    obtain ⟨i,rfl⟩:∃ m,i=m+1:=⟨i-1,by omega⟩
    cases i with
    | zero=>exact h1
    | succ i=>exact h2 (i+1) (by omega) (by simpa using hl)
   ·intro h
    refine ⟨h 1 (by omega) (by simp),fun i hi hl=>?_⟩
    obtain ⟨i,rfl⟩:∃ m,i=m+1:=⟨i-1,by omega⟩
    have:=h (i+2) (by omega) (by simpa using hl)
    simpa using this
theorem c4d {α:Type}{step:Int->Option (Fl Int (Sum Unit Bool))}{rc:α->α->Option Int}{c:α->α->Int}(xs:List α)
 (hst:∀ q,step q=bif decide (q<(xs.length:Int)) then Option.bind (idx xs (wr .i64 (q-1))) fun x=>Option.bind (idx xs q) fun y=>Option.bind (rc x y) fun r =>
   bif decide (0<=r) then some (.done (.inr false)) else some (.next (wr .i64 (q+1))) else some (.done (.inl ())))
 (hrc:∀ x∈xs,∀ y,rc x y=some (c x y)) (hl:xs.length<=4194304) :
 (Option.bind (z7 step (((xs.length:Int)).toNat+1) 1) fun b=>j9 (fun _=>some true) (fun r=>some r) b)=some (asc c xs):=by
 rw [w4]
 have hp:∀ i,1<=i->∀ hi:i<xs.length,step (i:Int)=some (if decide (c xs[i-1] xs[i]<0)=true then .next ((i+1:Nat):Int) else .done (.inr false)):=by
  intro i h1 hi
  have hw:w64 ((i:Int)-1)=((i-1:Nat):Int):=by rw [K2 (by omega) (by omega)]; omega
  rw [hst]
  simp only [V6,v7]
  rw [if_pos (by simp; omega),hw,y4 (List.getElem?_eq_getElem (by omega:i-1<xs.length)),y4 (List.getElem?_eq_getElem hi)]
  simp only [Option.bind_some]
  rw [hrc _ (List.getElem_mem _)]
  simp only [Option.bind_some,j5 i (by omega)]
  by_cases h:c xs[i-1] xs[i]<0
  ·rw [if_neg (by simp; omega),if_pos (by simpa using h)]
  ·rw [if_pos (by simp; omega),if_neg (by simpa using h)]
 have hend:∀ i:Nat,xs.length<=i->step (i:Int)=some (.done (.inl ())):=by
  intro i hi
  rw [hst,V6,if_neg (by simp; omega)]
 let step':Int->Option (Fl Int (Sum Unit Bool)):=fun q=>if q=0/\0<xs.length then some (.next 1) else step q
 have e:∀ (k i:Nat),1<=i->z7 step' k (i:Int)=z7 step k (i:Int):=by
  intro k
  induction k with
  | zero=>intro i _; rfl
  | succ k ih =>
    intro i h1
    have e1:step' (i:Int)=step (i:Int):=by simp only [step']; rw [if_neg (by omega)]
    simp only [z7,e1]
    by_cases hi:i<xs.length
    ·rw [hp i h1 hi]
     by_cases h:decide (c xs[i-1] xs[i]<0)=true
     ·rw [if_pos h]; exact ih (i+1) (by omega)
     ·rw [if_neg h]; rfl
    ·rw [hend i (by omega)]; rfl
 have e':=e (xs.length+1) 1 (by omega)
 rw [show ((1:Nat):Int)=1 from rfl] at e'
 rw [<- e']
 refine b2n xs.length (fun i=>if h:1<=i/\i<xs.length then decide (c xs[i-1] (xs[i]'h.2)<0) else true) ?_ ?_ 1 (asc c xs) ?_
 ·intro i hi
  cases i with
  | zero =>
    simp only [step']
    rw [if_pos ⟨rfl,hi⟩]
    rfl
  | succ i =>
    have e1:step' ((i+1:Nat):Int)=step ((i+1:Nat):Int):=by simp only [step']; rw [if_neg (by omega)]
    rw [e1,hp (i+1) (by omega) hi,dif_pos ⟨by omega,hi⟩]
 ·intro i hi
  have e1:step' (i:Int)=step (i:Int):=by simp only [step']; rw [if_neg (by omega)]
  rw [e1,hend i hi]
 ·rw [b1v]
  constructor
  ·intro h i h1 hi
   rw [dif_pos ⟨h1,hi⟩]; simpa using h i h1 hi
  ·intro h i h1 hi
   have:=h i h1 hi
   rw [dif_pos ⟨h1,hi⟩] at this; simpa using this
def a6D (c:UInt8):Bool:=decide (97<=(c.toNat:Int))&&decide ((c.toNat:Int)<=122)
def upC (c:UInt8):Bool:=decide (65<=(c.toNat:Int))&&decide ((c.toNat:Int)<=90)
def a7H (c:UInt8):Bool:=decide (48<=(c.toNat:Int))&&decide ((c.toNat:Int)<=57)
def b4s (f g:UInt8->Bool)(s:ByteArray):Bool :=
 match s.data.toList with
 | []=>false
 | c::r=>decide (r.length<=15)&&f c&&r.all g
def a6e (s:ByteArray):Bool:=b4s upC (fun c=>a6D c||upC c||a7H c||(c.toNat:Int)==95) s
def a4D (s:ByteArray):Bool:=b4s a6D (fun c=>a6D c||a7H c||(c.toNat:Int)==95) s
theorem c30 (c:UInt8):a43 (c.toNat:Int)=some (a6D c):=by
 unfold a43 a6D
 cases decide (97<=(c.toNat:Int))<;>simp
theorem c9H (c:UInt8):a6s (c.toNat:Int)=some (upC c):=by
 unfold a6s upC
 cases decide (65<=(c.toNat:Int))<;>simp
theorem c7w (c:UInt8):a6r (c.toNat:Int)=some (a7H c):=by
 unfold a6r a7H
 cases decide (48<=(c.toNat:Int))<;>simp
theorem b1B {s:ByteArray}{i:Nat}{c:UInt8}(h:s.data.toList[i]?=some c):a6c s (i:Int)=some c:=by
 unfold a6c
 rw [if_pos (by omega)]
 obtain ⟨hi,e⟩:=List.getElem?_eq_some_iff.1 h
 have hs:i<s.size:=by simpa using hi
 show s[((i:Int)).toNat]?=some c
 rw [Int.toNat_natCast,getElem?_pos s i hs]
 show some s.data[i]=some c
 simpa using e
theorem b7t (s:ByteArray):s.size=s.data.toList.length:=by simp
theorem c4Q {a1 a2:Int->Option Bool}{f g:UInt8->Bool}(h1:∀ c:UInt8,a1 (c.toNat:Int)=some (f c))(h2:∀ c:UInt8,a2 (c.toNat:Int)=some (g c))(s:ByteArray):a62 s a1 a2=some (b4s f g s):=by
 unfold a62 b4s
 simp only [V6,c03]
 have hsz:=b7t s
 cases hs:s.data.toList with
 | nil =>
   rw [hs] at hsz
   rw [hsz]
   simp
 | cons c r =>
   rw [hs] at hsz
   simp only [List.length_cons] at hsz
   have e1:decide ((s.size:Int)<1)=false:=by simp; omega
   rw [e1]
   simp only [Bool.false_eq_true,if_false,Option.bind_some]
   by_cases hb:16<(s.size:Int)
   ·rw [if_pos (by simpa using hb)]
    have:decide (r.length<=15)=false:=by simp; omega
    rw [this]; rfl
   ·rw [if_neg (by simpa using hb)]
    have e2:decide (r.length<=15)=true:=by simp; omega
    have e3:a6c s 0=some c:=b1B (i:=0) (by rw [hs]; rfl)
    rw [e2,e3]
    simp only [Option.bind_some,h1,Bool.true_and]
    cases f c
    ·rfl
    ·simp only [Bool.not_true,Bool.false_eq_true,if_false,Bool.true_and]
     refine b2n s.size (fun i=>match s.data.toList[i]? with | some x=>g x | none=>true) ?_ ?_ 1 (r.all g) ?_
     ·intro i hi
      have hi':i<s.data.toList.length:=by rw [hs]; simp; omega
      unfold a8P
      rw [V6,if_pos (by simp; omega),b1B (List.getElem?_eq_getElem hi')]
      simp only [Option.bind_some,h2]
      rw [List.getElem?_eq_getElem hi',v7,j5 i (by omega)]
      exact a3B _ _
     ·intro i hi
      unfold a8P
      rw [V6,if_neg (by simp; omega)]
     ·rw [hs,List.all_eq_true]
      constructor
      ·intro h i h1 hi
       obtain ⟨i,rfl⟩:∃ m,i=m+1:=⟨i-1,by omega⟩
       have hr:i<r.length:=by omega
       simp only [List.getElem?_cons_succ,List.getElem?_eq_getElem hr]
       exact h _ (List.getElem_mem hr)
      ·intro h x hx
       obtain ⟨i,hi,rfl⟩:=List.getElem_of_mem hx
       have:=h (i+1) (by omega) (by omega)
       simpa only [List.getElem?_cons_succ,List.getElem?_eq_getElem hi] using this
theorem c7q (s:ByteArray):a23 s=some (a6e s):=by
 unfold a23
 simp only [a0Y]
 rw [c4Q c9H (g:=fun c=>a6D c||upC c||a7H c||(c.toNat:Int)==95) (fun c=>by
  unfold a6S
  rw [c30,c9H,c7w]
  simp only [Option.bind_some]
  cases a6D c<;>cases upC c<;>cases a7H c<;>simp)]
 rfl
theorem c04 (s:ByteArray):a5G s=some (a4D s):=by
 unfold a5G
 simp only [a0Y]
 rw [c4Q c30 (g:=fun c=>a6D c||a7H c||(c.toNat:Int)==95) (fun c=>by
  unfold a9D
  rw [c30,c7w]
  simp only [Option.bind_some]
  cases a6D c<;>cases a7H c<;>simp)]
 rfl
def a04 (l:List ByteArray):Bool:=asc cS l&&l.all a6e
def Y9 (k:Key):Bool:=if k.Kind=0 then a4D k.Text else if k.Kind=1 then decide ((k.Text.size:Int)<=64) else false
def a75 (v:Val):Bool:=v.Keys.length==v.Kids.length&&(asc cK v.Keys&&v.Keys.all Y9)
abbrev a6G:Val:=Val.mk 0 0 (⟨#[]⟩) ([]:List Val) ([]:List Key) ([]:List Ent) ([]:List ByteArray)
def a2V (n:Int)(e:Ent):Bool:=(e.Args.length:Int)==n&&(!e.Fails||cV e.Result a6G==0)
def b3j (v:Val):Bool:=decide (0<=v.Int_)&&decide (v.Int_<=4)&&(asc cE v.Entries&&v.Entries.all (a2V v.Int_))
theorem c7E (l:List ByteArray)(hl:l.length<=4194304):a5v l=some (a04 l):=by
 unfold a5v a5o a04
 simp only [a0Y]
 rw [c4d (step:=a6L l fun x y=>a0f x y) (rc:=a0f) (c:=cS) l (fun q=>rfl) (fun x _ y=>b1d x y) hl]
 simp only [Option.bind_some]
 rw [c0b (step:=a8N l) (rc:=a23) (p:=a6e) l (fun q=>rfl) (fun x _=>c7q x) hl]
 cases asc cS l<;>simp
theorem c6P (k:Key):a4p k=some (Y9 k):=by
 unfold a4p Y9
 rw [c04]
 simp only [V6,beq_iff_eq,a0Y]
 by_cases h:k.Kind=0
 ·simp [h]
 ·by_cases h1:k.Kind=1
  ·simp [h1]
  ·simp [h,h1]
theorem d1A (v:Val)(hl:k8 v<=4194304):a7A v=some (a75 v):=by
 have hb:=a02 v
 have hk:=a5D v.Keys
 unfold a7A a4Y a75
 simp only [a0Y]
 rw [c4d (step:=a6p v.Keys fun x y=>K3 x y) (rc:=K3) (c:=cK) v.Keys (fun q=>rfl) (fun x _ y=>a92 x y) (by omega)]
 simp only [Option.bind_some]
 rw [c0b (step:=b04 v) (rc:=a4p) (p:=Y9) v.Keys (fun q=>rfl) (fun x _=>c6P x) (by omega)]
 by_cases h:v.Keys.length=v.Kids.length
 ·rw [V6,if_neg (by simp; omega)]
  simp only [h,beq_self_eq_true,Bool.true_and]
  cases asc cK v.Keys<;>simp
 ·rw [V6,if_pos (by simp; omega)]
  have:(v.Keys.length==v.Kids.length)=false:=by simpa using h
  rw [this]; rfl
theorem d1e (fuel:Nat)(e:Ent)(n:Int)(hf:2*a35 e<=fuel)(hb:a35 e<=4194304):a4s fuel e n=some (a2V n e):=by
 have he:=a1k e
 unfold a4s b2v b3I a2V
 simp only [a0Y]
 rw [(b6a fuel).1 e.Result a6G (by omega) (by omega)]
 simp only [Option.bind_some]
 cases (e.Args.length:Int)==n<;>cases e.Fails<;>simp
theorem d0Z (fuel:Nat)(v:Val)(hf:2*k8 v<=fuel+2)(hb:k8 v<=4194304):a4O fuel v=some (b3j v):=by
 have he:=a02 v
 have hk:=a3k v.Entries
 unfold a4O a4c b3j
 simp only [a0Y]
 rw [c4d (step:=a5R v.Entries fun x y=>V0 fuel x y) (rc:=V0 fuel) (c:=cE) v.Entries (fun q=>rfl) (fun x hx y=>(b6a fuel).2.2 x y (by have:=X7 hx; omega) (by have:=X7 hx; omega)) (by omega)]
 simp only [Option.bind_some]
 rw [c0b (step:=a7V v fuel) (rc:=fun x=>a4s fuel x v.Int_) (p:=a2V v.Int_) v.Entries (fun q=>rfl) (fun x hx=>d1e fuel x _ (by have:=X7 hx; omega) (by have:=X7 hx; omega)) (by omega)]
 by_cases h1:v.Int_<0
 ·have e1:decide (0<=v.Int_)=false:=by simp; omega
  rw [e1]; simp [h1]
 ·have e1:decide (0<=v.Int_)=true:=by simp; omega
  by_cases h2:4<v.Int_
  ·have e2:decide (v.Int_<=4)=false:=by simp; omega
   rw [e1,e2]; simp [h1,h2]
  ·have e2:decide (v.Int_<=4)=true:=by simp; omega
   rw [e1,e2]
   simp only [h1,h2,decide_false,cond_false,Option.bind_some,Bool.true_and]
   cases asc cE v.Entries<;>simp
def a3J (v:Val):Bool :=
 (v.Kind==1||v.Kind==4||v.Kind==9||v.Int_==0)&&(v.Kind==2||v.Kind==3||Q4 v.Text ⟨#[]⟩) &&
 (v.Kind==6||v.Kind==7||v.Kind==8||v.Kids.isEmpty)&&(v.Kind==8||v.Keys.isEmpty)&&(v.Kind==9||v.Entries.isEmpty)
def b0m (l:List Val):Bool :=
 match l with
 | [_,t]=>t.Kind==5||t.Kind==7
 | _=>false
def a4G (v:Val):Bool :=
 if v.Kind=1 then true else if v.Kind=2 then decide ((v.Text.size:Int)<=64) else if v.Kind=3 then a4D v.Text else if v.Kind=4 then decide (0<=v.Int_) else
 if v.Kind=5 then true else if v.Kind=6 then decide (v.Kids.length<=4) else if v.Kind=7 then b0m v.Kids else if v.Kind=8 then a75 v else if v.Kind=9 then b3j v else false
def a2e (v:Val):Bool:=a04 v.Labels&&(a3J v&&a4G v)
theorem b67 {α:Type}(l:List α):decide (0<(l.length:Int))=!l.isEmpty:=by cases l<;>simp
theorem c95 (fuel:Nat)(v:Val)(hf:2*k8 v<=fuel+2)(hb:k8 v<=4194304):a6I fuel v=some (a2e v):=by
 have he:=a02 v
 have hs:=a4t v.Labels
 unfold a6I a2e
 simp only [a0Y]
 rw [c7E v.Labels (by omega),d1A v hb,d0Z fuel v hf hb,c04]
 simp only [Option.bind_some,b67]
 by_cases hk:v.Kind=1\/v.Kind=2\/v.Kind=3\/v.Kind=4\/v.Kind=5\/v.Kind=6\/v.Kind=7\/v.Kind=8\/v.Kind=9
 ·have ku:∀ b u,a7s v.Kind=some (u,b)->True:=fun _ _ _=>trivial
  clear ku
  unfold a3J a4G
  generalize a04 v.Labels=l
  generalize Q4 v.Text ⟨#[]⟩=t
  generalize v.Keys.isEmpty=y
  generalize v.Entries.isEmpty=e
  generalize a75 v=m
  generalize b3j v=f
  generalize a4D v.Text=a
  generalize decide ((v.Text.size:Int)<=64)=z
  have hi:(v.Int_ != 0)=!(v.Int_==0):=rfl
  have h6:decide ((v.Kids.length:Int)<=4)=decide (v.Kids.length<=4):=by
   by_cases h:v.Kids.length<=4
   ·simp [h]; omega
   ·simp [h]; omega
  rw [hi,h6]
  have h7:(bif (v.Kids.length:Int)==2 then Option.bind (idx v.Kids 1) fun x227=>(bif x227.Kind==5 then some true else Option.bind (idx v.Kids 1) fun x255=>some (x255.Kind==7)) else some false)=some (b0m v.Kids):=by
   unfold b0m
   match v.Kids with
   | []=>rfl
   | [_]=>rfl
   | [x,t] =>
     have e2:((([x,t]:List Val).length:Int)==2)=true:=rfl
     rw [e2]
     have:idx [x,t] 1=some t:=rfl
     simp only [this,Option.bind_some,cond_true]
     cases t.Kind==5<;>rfl
   | _::_::_::r =>
     rw [V6,if_neg (by simp; omega)]
  rw [h7]
  generalize b0m v.Kids=c
  generalize v.Kids.isEmpty=d
  generalize (v.Int_==0)=i
  generalize decide (0<=v.Int_)=p
  generalize decide (v.Kids.length<=4)=n
  rcases hk with h | h | h | h | h | h | h | h | h<;>rw [h]<;>cases l<;>simp [a7s]<;>cases i<;>cases t<;>cases d<;>cases y<;>cases e<;>simp
 ·have:a7s v.Kind=some (Value_used.mk false false false false false,false):=by
   unfold a7s
   simp only [not_or] at hk
   obtain ⟨h1,h2,h3,h4,h5,h6,h7,h8,h9⟩:=hk
   have ef:∀ k:Int,¬ v.Kind=k->(v.Kind==k)=false:=fun k h=>by simpa using h
   rw [ef 1 h1,ef 2 h2,ef 3 h3,ef 4 h4,ef 5 h5,ef 6 h6,ef 7 h7,ef 8 h8,ef 9 h9]
   rfl
  rw [this]
  have hkk:a4G v=false:=by
   simp only [not_or] at hk
   obtain ⟨h1,h2,h3,h4,h5,h6,h7,h8,h9⟩:=hk
   simp [a4G,h1,h2,h3,h4,h5,h6,h7,h8,h9]
  rw [hkk]
  simp
mutual
def vOK:Val->Bool
 | .mk k n t kids keys ents labs=>a2e (.mk k n t kids keys ents labs)&&(a1o kids&&a4Z ents)
def a1o:List Val->Bool
 | []=>true
 | x::r=>vOK x&&a1o r
def eOK:Ent->Bool
 | .mk args fails res=>a1o args&&(fails||vOK res)
def a4Z:List Ent->Bool
 | []=>true
 | x::r=>eOK x&&a4Z r
end
theorem b7B (v:Val):vOK v=(a2e v&&(a1o v.Kids&&a4Z v.Entries)):=by cases v; simp only [vOK,Val.Kids,Val.Entries]
theorem b4q (e:Ent):eOK e=(a1o e.Args&&(e.Fails||vOK e.Result)):=by cases e; simp only [eOK,Ent.Args,Ent.Fails,Ent.Result]
theorem a4B:∀ l:List Val,a1o l=l.all vOK
 | []=>by simp [a1o]
 | x::r=>by simp only [a1o,List.all_cons,a4B r]
theorem a8c:∀ l:List Ent,a4Z l=l.all eOK
 | []=>by simp [a4Z]
 | x::r=>by simp only [a4Z,List.all_cons,a8c r]
theorem c1U:∀ l:List Ent,a4Z l=(l.flatMap a67).all vOK
 | []=>by simp [a4Z]
 | x::r=>by
   simp only [a4Z,List.flatMap_cons,List.all_append,c1U r,b4q,a67,a4B]
   cases x.Fails<;>simp
theorem c7W (v:Val):vOK v=(a2e v&&(a86 v).all vOK):=by
 rw [b7B,a86,List.all_append,a4B,c1U]
theorem c5r:∀ (k:Nat) (v:Val),2*k8 v<=k->k8 v<=4194304->a2z k v=some (vOK v)
 | 0,v,h,_=>by have:=a8q v; omega
 | k+1,v,h,hb=>by
   have hp:=c6p v
   have hl:=a15 (a86 v)
   show a7E k (a2z k) v=_
   unfold a7E
   rw [c95 k v (by omega) hb,c75 v hb,c7W]
   simp only [Option.bind_some]
   rw [c0b (step:=b0k (a86 v) (a2z k)) (rc:=a2z k) (p:=vOK) (a86 v) (fun q=>rfl) (fun x hx=>c5r k x (by have:=a0N hx; omega) (by have:=a0N hx; omega)) (by omega)]
   cases a2e v<;>simp
theorem b3U (k:Nat)(v:Val)(h:2*k8 v<=k)(hb:k8 v<=4194304):a5U k v=some (if vOK v then 0 else 1):=by
 unfold a5U
 rw [c5r k v h hb]
 cases vOK v<;>rfl
end Go.Pl
end
section
namespace Go.Pl
open Go Go.RowKit Go.Sx Go.Qx
def a0a {α:Type}(p:α->Bool)(x:α)(out:List α):List α:=out.takeWhile p++[x]++out.dropWhile p
theorem c1k {α:Type}(p:α->Bool):∀ l:List α,l.take (l.takeWhile p).length=l.takeWhile p
 | []=>rfl
 | x::r=>by
   by_cases h:p x=true
   ·simp [h,c1k p r]
   ·simp [h]
theorem c1A {α:Type}(p:α->Bool):∀ l:List α,l.drop (l.takeWhile p).length=l.dropWhile p
 | []=>rfl
 | x::r=>by
   by_cases h:p x=true
   ·simp [h,c1A p r]
   ·simp [h]
theorem b1F {α:Type}(p:α->Bool):∀ l:List α,(l.takeWhile p).length<=l.length
 | []=>Nat.le_refl _
 | x::r=>by
   have:=b1F p r
   by_cases h:p x=true
   ·simp [h,this]
   ·simp [h]
theorem c0T {α:Type}(p:α->Bool):∀ (l:List α),l[(l.takeWhile p).length]?=(l.dropWhile p).head?
 | []=>rfl
 | x::r=>by
   have:=c0T p r
   by_cases h:p x=true
   ·simp [h,this]
   ·simp [h]
theorem c0E {α:Type}{step:Int->Option (Fl Int Int)}(out:List α)(p:α->Bool)
 (hst:∀ (i:Nat) (x:α),out[i]?=some x->step (i:Int)=some (if p x=true then .next ((i+1:Nat):Int) else .done (i:Int)))
 (hend:step (out.length:Int)=some (.done (out.length:Int))):z7 step (out.length+1) 0=some ((out.takeWhile p).length:Int):=by
 have key:∀ (m i k:Nat),i+m=out.length->m+1<=k->z7 step k (i:Int)=some (((i+((out.drop i).takeWhile p).length:Nat)):Int):=by
  intro m
  induction m with
  | zero =>
    intro i k h1 h2
    obtain ⟨k,rfl⟩:∃ m,k=m+1:=⟨k-1,by omega⟩
    have e:i=out.length:=by omega
    subst e
    simp [z7,hend]
  | succ m ih =>
    intro i k h1 h2
    obtain ⟨k,rfl⟩:∃ m,k=m+1:=⟨k-1,by omega⟩
    have hlt:i<out.length:=by omega
    have hs:=hst i out[i] (List.getElem?_eq_getElem hlt)
    rw [List.drop_eq_getElem_cons hlt,List.takeWhile_cons]
    by_cases hp:p out[i]=true
    ·rw [if_pos hp] at hs
     simp only [z7,hs,Option.bind_some,ih (i+1) k (by omega) (by omega),hp,if_true,List.length_cons]
     congr 2
     omega
    ·rw [if_neg hp] at hs
     simp [z7,hs,hp]
 have:=key out.length 0 (out.length+1) (by omega) (Nat.le_refl _)
 simpa using this
theorem J4 {α σ τ β:Type}{step:σ->Option (Fl σ (Sum τ β))}(xs:List α)(p:α->Bool)(pk:Nat->σ)(d:τ)(b:β)
 (hst:∀ (i:Nat) (x:α),xs[i]?=some x->step (pk i)=some (if p x=true then .next (pk (i+1)) else .done (.inr b)))
 (hend:step (pk xs.length)=some (.done (.inl d))):z7 step (xs.length+1) (pk 0)=some (if xs.all p=true then .inl d else .inr b):=by
 have key:∀ (m i k:Nat),i+m=xs.length->m+1<=k->z7 step k (pk i)=some (if (xs.drop i).all p=true then .inl d else .inr b):=by
  intro m
  induction m with
  | zero =>
    intro i k h1 h2
    obtain ⟨k,rfl⟩:∃ m,k=m+1:=⟨k-1,by omega⟩
    have e:i=xs.length:=by omega
    subst e
    simp [z7,hend]
  | succ m ih =>
    intro i k h1 h2
    obtain ⟨k,rfl⟩:∃ m,k=m+1:=⟨k-1,by omega⟩
    have hlt:i<xs.length:=by omega
    have hs:=hst i xs[i] (List.getElem?_eq_getElem hlt)
    rw [List.drop_eq_getElem_cons hlt,List.all_cons]
    by_cases hp:p xs[i]=true
    ·rw [if_pos hp] at hs
     simp only [z7,hs,Option.bind_some,ih (i+1) k (by omega) (by omega),hp,Bool.true_and]
    ·rw [if_neg hp] at hs
     simp [z7,hs,hp]
 have:=key xs.length 0 (xs.length+1) (by omega) (Nat.le_refl _)
 simpa using this
theorem b1z {α:Type}(c:α->α->Int)(hanti:∀ a b,c b a = - c a b)(x:α):∀ out:List α,asc c out=true->(∀ y,(out.dropWhile (fun y=>decide (c y x<0))).head?=some y->c y x≠0) ->
 asc c (a0a (fun y=>decide (c y x<0)) x out)=true
 | [],_,_=>by simp [a0a,asc]
 | y::r,h,hne=>by
   by_cases hp:c y x<0
   ·have ih:=b1z c hanti x r (by cases r with | nil=>simp [asc] | cons z r=>simp [asc] at h; exact h.2) (by
     intro z hz
     refine hne z ?_
     simpa [hp] using hz)
    have e:a0a (fun y=>decide (c y x<0)) x (y::r)=y::a0a (fun y=>decide (c y x<0)) x r:=by simp [a0a,hp]
    rw [e]
    cases r with
    | nil=>simp [a0a,asc,hp]
    | cons z r =>
      simp only [asc,Bool.and_eq_true,decide_eq_true_eq] at h
      by_cases hz:c z x<0
      ·have e2:a0a (fun y=>decide (c y x<0)) x (z::r)=z::a0a (fun y=>decide (c y x<0)) x r:=by simp [a0a,hz]
       rw [e2] at ih ⊢
       simp only [asc,Bool.and_eq_true,decide_eq_true_eq]
       exact ⟨h.1,ih⟩
      ·have e2:a0a (fun y=>decide (c y x<0)) x (z::r)=x::z::r:=by simp [a0a,hz]
       rw [e2] at ih ⊢
       simp only [asc,Bool.and_eq_true,decide_eq_true_eq] at ih ⊢
       exact ⟨hp,ih⟩
   ·have e:a0a (fun y=>decide (c y x<0)) x (y::r)=x::y::r:=by simp [a0a,hp]
    have hy:=hne y (by simp [hp])
    have ha:=hanti y x
    rw [e]
    simp only [asc,Bool.and_eq_true,decide_eq_true_eq]
    exact ⟨by omega,h⟩
theorem b3k {α:Type}{p:α->Bool}{x y:α}{out:List α}(h:y∈a0a p x out):y=x\/y∈out:=by
 have e:=List.takeWhile_append_dropWhile (p:=p) (l:=out)
 simp only [a0a,List.mem_append,List.mem_singleton] at h
 rcases h with (h | h) | h
 ·exact .inr (by rw [<- e]; exact List.mem_append_left _ h)
 ·exact .inl h
 ·exact .inr (by rw [<- e]; exact List.mem_append_right _ h)
theorem a6P {α:Type}(p:α->Bool)(x:α)(out:List α):(a0a p x out).length=out.length+1:=by
 have e:=congrArg List.length (List.takeWhile_append_dropWhile (p:=p) (l:=out))
 simp only [List.length_append] at e
 simp only [a0a,List.length_append,List.length_singleton]
 omega
theorem b9Y {α:Type}(l:List α){k:Nat}(h:k<=l.length):cut l 0 (k:Int)=some (l.take k):=by
 unfold cut
 rw [if_pos ⟨by omega,by omega,by omega⟩]
 simp
theorem c3Q {α:Type}(l:List α){k:Nat}(h:k<=l.length):cut l (k:Int) (l.length:Int)=some (l.drop k):=by
 unfold cut
 rw [if_pos ⟨by omega,by omega,by omega⟩]
 simp
theorem c3Z {α β:Type}(out:List α)(x:α)(p:α->Bool)(b:Nat)(hb:b<=1024)(hl:out.length<=4194304)(f:List α->Option β) :
 (Option.bind (cut out 0 ((out.takeWhile p).length:Int)) fun u=>Option.bind (Z4 (0+u.length) b) fun _ =>
   Option.bind (Z4 (u.length+[x].length) b) fun _=>Option.bind (cut out ((out.takeWhile p).length:Int) (out.length:Int)) fun w =>
   Option.bind (Z4 ((u++[x]).length+w.length) b) fun _=>f ((u++[x])++w))=f (a0a p x out):=by
 have hk:=b1F p out
 have rm:∀ n,n<=4194305->Z4 n b=some ():=fun n hn=>Z2 (by
  have:n*b<=4194305*1024:=Nat.mul_le_mul hn hb
  omega)
 rw [b9Y out hk,c3Q out hk,c1k,c1A]
 have hl2:=a6P p x out
 simp only [a0a,List.length_append,List.length_singleton] at hl2
 simp only [Option.bind_some]
 rw [rm _ (by simp; omega),rm _ (by simp; omega),rm _ (by simp only [List.length_append,List.length_singleton]; omega)]
 rfl
theorem c9r (a b:Ent):cE a b=lx (eE a) (eE b):=by
 have:=(c7B (a35 a)).2 a (Nat.le_refl _) b [] []
 simpa [lx,a9N] using this.symm
theorem c4V (a b:Ent):cE b a = - cE a b:=by rw [c9r,c9r]; exact b4R _ _
def a38 (out:List Ent)(x:Ent):List Ent :=
 match (out.dropWhile (fun y=>decide (cE y x<0))).head? with
 | some y=>if cE y x=0 then out else a0a (fun y=>decide (cE y x<0)) x out
 | none=>a0a (fun y=>decide (cE y x<0)) x out
theorem b1s (a b:List Ent):Z0 (a++b)=Z0 a+Z0 b:=by
 induction a with
 | nil=>simp [Z0]
 | cons x r ih=>simp only [List.cons_append,Z0,ih]; omega
theorem b83 (p:Ent->Bool)(x:Ent)(out:List Ent):Z0 (a0a p x out)=Z0 out+a35 x:=by
 have e:=congrArg Z0 (List.takeWhile_append_dropWhile (p:=p) (l:=out))
 rw [b1s] at e
 simp only [a0a,b1s,Z0]
 omega
theorem c6J (out:List Ent)(x:Ent):Z0 (a38 out x)<=Z0 out+a35 x:=by
 unfold a38
 split
 ·split
  ·omega
  ·rw [b83]; omega
 ·rw [b83]; omega
theorem c9f (out:List Ent)(x:Ent):(a38 out x).length<=out.length+1:=by
 unfold a38
 split
 ·split
  ·omega
  ·rw [a6P]; omega
 ·rw [a6P]; omega
theorem c2T {out:List Ent}{x y:Ent}(h:y∈a38 out x):y=x\/y∈out:=by
 unfold a38 at h
 split at h
 ·split at h
  ·exact .inr h
  ·exact b3k h
 ·exact b3k h
theorem c72 (out:List Ent)(x:Ent)(h:asc cE out=true):asc cE (a38 out x)=true:=by
 unfold a38
 split
 ·rename_i y hy
  split
  ·exact h
  ·rename_i hne
   refine b1z cE c4V x out h (fun z hz=>?_)
   rw [hy] at hz
   cases hz
   exact hne
 ·rename_i hy
  refine b1z cE c4V x out h (fun z hz=>?_)
  rw [hy] at hz; cases hz
theorem c36 (fuel:Nat)(es out:List Ent)(i:Nat)(x:Ent)(hx:es[i]?=some x)(hf:∀ e∈out,2*a35 e<=fuel)(hb:∀ e∈out,a35 e<=4194304)(hl:out.length<=4194304)(hi:i<=4194304) :
 a0j es fuel (out,(i:Int))=some (.next (a38 out x,((i+1:Nat):Int))):=by
 have hlt:i<es.length:=(List.getElem?_eq_some_iff.1 hx).1
 have hix:idx es (i:Int)=some x:=y4 hx
 have hcmp:∀ e∈out,Z8 fuel e x=some (cE e x):=fun e he=>(a5L fuel).2.2 e x (hf e he) (hb e he)
 unfold a0j
 simp only [w4]
 rw [c0E (step:=a29 es (out,(i:Int)) fuel) out (fun y=>decide (cE y x<0)) ?_ ?_]
 ·simp only [V6,v7]
  rw [if_pos (by simp; omega)]
  simp only [Option.bind_some,hix,Int.toNat_natCast,hx]
  have hk:=b1F (fun y=>decide (cE y x<0)) out
  have hat:=c0T (fun y=>decide (cE y x<0)) out
  have go:(Option.bind (cut out 0 ((out.takeWhile (fun y=>decide (cE y x<0))).length:Int)) fun u=>Option.bind (Z4 (0+u.length) 160) fun _ =>
   Option.bind (Z4 (u.length+[x].length) 160) fun _=>Option.bind (cut out ((out.takeWhile (fun y=>decide (cE y x<0))).length:Int) (out.length:Int)) fun w =>
   Option.bind (Z4 ((u++[x]).length+w.length) 160) fun _=>some ((u++[x])++w))=some (a0a (fun y=>decide (cE y x<0)) x out) :=
   c3Z out x _ 160 (by omega) hl (fun l=>some l)
  rw [j5 i (by omega)]
  have fin:∀ (b:Bool) (r:List Ent),(if b=true then some out else some r)=some (a38 out x)->(Option.bind (if b=true then some out else some r) fun b18=>some (Fl.next (b18,((i+1:Nat):Int)):Fl (List Ent×Int) (List Ent)))=some (.next (a38 out x,((i+1:Nat):Int))):=by
   intro b r h
   rw [h]; rfl
  rw [go]
  unfold a38 at fin ⊢
  cases hh:(out.dropWhile (fun y=>decide (cE y x<0))).head? with
  | none =>
    rw [hh] at hat
    have hge:=List.getElem?_eq_none_iff.1 hat
    rw [if_neg (by simp; omega)]
    rfl
  | some y =>
    rw [hh] at hat
    have hlt2:=(List.getElem?_eq_some_iff.1 hat).1
    rw [if_pos (by simp; omega),y4 hat]
    simp only [Option.bind_some]
    rw [hcmp y (List.mem_of_getElem? hat)]
    simp only [Option.bind_some]
    by_cases h0:cE y x=0
    ·rw [if_pos (by simp [h0]),if_pos h0]
     rfl
    ·rw [if_neg (by simp [h0]),if_neg h0]
     rfl
 ·intro j y hy
  have hj:j<out.length:=(List.getElem?_eq_some_iff.1 hy).1
  unfold a29
  simp only [V6,v7]
  rw [if_pos (by simp; omega),y4 hy,hix]
  simp only [Option.bind_some,Int.toNat_natCast,hx]
  rw [hcmp y (List.mem_of_getElem? hy)]
  simp only [Option.bind_some,j5 j (by omega)]
  by_cases h:cE y x<0<;>simp [h]
 ·unfold a29
  simp
theorem a9r:∀ (es out:List Ent),Z0 (es.foldl a38 out)<=Z0 out+Z0 es
 | [],out=>by simp [Z0]
 | x::r,out=>by
   have h1:=a9r r (a38 out x)
   have h2:=c6J out x
   simp only [List.foldl_cons,Z0]
   omega
theorem b00 {y:Ent}:∀ (es out:List Ent),y∈es.foldl a38 out->y∈out\/y∈es
 | [],_,h=>.inl h
 | x::r,out,h=>by
   rcases b00 r (a38 out x) h with h | h
   ·rcases c2T h with rfl | h
    ·exact .inr (by simp)
    ·exact .inl h
   ·exact .inr (by simp [h])
theorem b6w:∀ (es out:List Ent),asc cE out=true->asc cE (es.foldl a38 out)=true
 | [],_,h=>h
 | x::r,out,h=>b6w r (a38 out x) (c72 out x h)
theorem c6t (fuel:Nat)(es:List Ent)(hf:2*Z0 es<=fuel)(hb:Z0 es<=4194304):a4K fuel es=some (es.foldl a38 []):=by
 have hlen:=a3k es
 unfold a4K
 have key:=a2K (σ:=List Ent) (step:=a0j es fuel) es (fun s i=>(s,(i:Int))) a38 (fun i s=>s.length<=i/\(∀ e∈s,e∈es)) (fun s=>s)
  ?_ ?_ [] ⟨by simp,by simp⟩ _ (Nat.le_refl _)
 ·have e:z7 (a0j es fuel) (es.length+1) (([]:List Ent),0)=z7 (a0j es fuel) (es.length+1) (([]:List Ent),((0:Nat):Int)):=rfl
  rw [w4,e,key]
  rfl
 ·intro i s x hx ⟨hI,hm⟩
  have hi:i<es.length:=(List.getElem?_eq_some_iff.1 hx).1
  refine ⟨c36 fuel es s i x hx (fun e he=>by have:=X7 (hm e he); omega) (fun e he=>by have:=X7 (hm e he); omega) (by omega) (by omega),?_,?_⟩
  ·have:=c9f s x; omega
  ·intro e he
   rcases c2T he with rfl | he
   ·exact List.mem_of_getElem? hx
   ·exact hm e he
 ·intro s _
  unfold a0j
  simp
def b7g (n:Int)(es:List Ent):Val:=Val.mk 9 n (⟨#[]⟩) ([]:List Val) ([]:List Key) es ([]:List ByteArray)
abbrev b7O:Type:=Int×Int×ByteArray×(List Val)×(List Key)×(List Ent)×(List ByteArray)
abbrev a2s:b7O:=(0,0,(⟨#[]⟩:ByteArray),[],[],[],[])
theorem b3l (fuel:Nat)(n:Int)(es:List Ent)(hf:2*Z0 es<=fuel)(hb:Z0 es<=4194304) :
 a2w fuel n es=some (if 0<=n/\n<=4/\es.all (a2V n)=true then (b7g n (es.foldl a38 []),0) else (a6G,1)):=by
 have hlen:=a3k es
 unfold a2w
 simp only [w4]
 by_cases h1:n<0
 ·have e1:decide (n<0)=true:=by simpa using h1
  rw [e1,if_neg (by omega)]; rfl
 by_cases h2:4<n
 ·have e1:decide (n<0)=false:=by simpa using h1
  have e2:decide (4<n)=true:=by simpa using h2
  rw [e1,e2,if_neg (by omega)]; rfl
 have e1:decide (n<0)=false:=by simpa using h1
 have e2:decide (4<n)=false:=by simpa using h2
 rw [e1,e2,c6t fuel es hf hb]
 have key:=J4 (step:=a0M n es fuel) es (a2V n) (fun i=>((i:Int),a2s)) a2s (1,a2s) ?_ ?_
 ·have e:z7 (a0M n es fuel) (es.length+1) (0,(0,0,(⟨#[]⟩:ByteArray),[],[],[],[]))=z7 (a0M n es fuel) (es.length+1) (((0:Nat):Int),a2s):=rfl
  rw [e,key]
  by_cases ha:es.all (a2V n)=true
  ·rw [if_pos ha,if_pos ⟨by omega,by omega,ha⟩]
   rfl
  ·rw [if_neg ha,if_neg (fun h=>ha h.2.2)]
   rfl
 ·intro i x hx
  have hi:i<es.length:=(List.getElem?_eq_some_iff.1 hx).1
  have hm:=X7 (List.mem_of_getElem? hx)
  have hbe:=a1k x
  unfold a0M a3Z
  simp only [V6,v7]
  rw [if_pos (by simp; omega),y4 hx]
  simp only [Option.bind_some,Int.toNat_natCast,hx]
  rw [show Val.mk 0 0 (⟨#[]⟩:ByteArray) ([]:List Val) ([]:List Key) ([]:List Ent) ([]:List ByteArray)=a6G from rfl,(a5L fuel).1 x.Result a6G (by omega) (by omega),j5 i (by omega)]
  unfold a2V
  by_cases hl:(x.Args.length:Int)=n
  ·have e1:((x.Args.length:Int) != n)=false:=by simp [hl]
   have e2:((x.Args.length:Int)==n)=true:=by simp [hl]
   rw [e1,e2]
   simp only [Bool.false_eq_true,if_false,Option.bind_some,Bool.true_and]
   cases x.Fails
   ·simp
   ·by_cases h0:cV x.Result a6G=0<;>simp [h0]
  ·have e1:((x.Args.length:Int) != n)=true:=by simp [hl]
   have e2:((x.Args.length:Int)==n)=false:=by simp [hl]
   rw [e1,e2]
   simp
 ·unfold a0M
  simp
end Go.Pl
end
section
namespace Go.Pl
open Go Go.RowKit Go.Sx Go.Qx
theorem b5x (c:UInt8):a2E (c.toNat:Int)=some (a6D c):=by
 unfold a2E a6D
 cases decide (97<=(c.toNat:Int))<;>simp
theorem c0k (c:UInt8):a31 (c.toNat:Int)=some (a7H c):=by
 unfold a31 a7H
 cases decide (48<=(c.toNat:Int))<;>simp
theorem b3w (s:ByteArray):a2b s=some (a4D s):=by
 unfold a2b a4D b4s
 simp only [V6,c03]
 have hsz:=b7t s
 cases hs:s.data.toList with
 | nil =>
   rw [hs] at hsz
   rw [hsz]
   simp
 | cons c r =>
   rw [hs] at hsz
   simp only [List.length_cons] at hsz
   have e1:decide ((s.size:Int)<1)=false:=by simp; omega
   rw [e1]
   simp only [Bool.false_eq_true,if_false,Option.bind_some]
   by_cases hb:16<(s.size:Int)
   ·rw [if_pos (by simpa using hb)]
    have:decide (r.length<=15)=false:=by simp; omega
    rw [this]; rfl
   ·rw [if_neg (by simpa using hb)]
    have e2:decide (r.length<=15)=true:=by simp; omega
    have e3:a6c s 0=some c:=b1B (i:=0) (by rw [hs]; rfl)
    rw [e2,e3]
    simp only [Option.bind_some,b5x,Bool.true_and]
    cases a6D c
    ·rfl
    ·simp only [Bool.not_true,Bool.false_eq_true,if_false,Bool.true_and]
     refine b2n s.size (fun i=>match s.data.toList[i]? with | some x=>(a6D x||a7H x||(x.toNat:Int)==95) | none=>true) ?_ ?_ 1 _ ?_
     ·intro i hi
      have hi':i<s.data.toList.length:=by rw [hs]; simp; omega
      unfold a5V
      simp only [V6,v7]
      rw [if_pos (by simp; omega),b1B (List.getElem?_eq_getElem hi')]
      simp only [Option.bind_some,b5x,c0k]
      rw [List.getElem?_eq_getElem hi',j5 i (by omega)]
      generalize s.data.toList[i]=x
      have hn:((x.toNat:Int) != 95)=!((x.toNat:Int)==95):=rfl
      rw [hn]
      show _=some (if (a6D x||a7H x||(x.toNat:Int)==95)=true then _ else _)
      cases a6D x<;>cases a7H x<;>cases (x.toNat:Int)==95<;>rfl
     ·intro i hi
      unfold a5V
      rw [V6,if_neg (by simp; omega)]
     ·rw [hs,List.all_eq_true]
      constructor
      ·intro h i h1 hi
       obtain ⟨i,rfl⟩:∃ m,i=m+1:=⟨i-1,by omega⟩
       have hr:i<r.length:=by omega
       simp only [List.getElem?_cons_succ,List.getElem?_eq_getElem hr]
       exact h _ (List.getElem_mem hr)
      ·intro h x hx
       obtain ⟨i,hi,rfl⟩:=List.getElem_of_mem hx
       have:=h (i+1) (by omega) (by omega)
       simpa only [List.getElem?_cons_succ,List.getElem?_eq_getElem hi] using this
theorem b5B (k:Key):a1v k=some (Y9 k):=by
 unfold a1v Y9
 rw [b3w]
 by_cases h:k.Kind=0
 ·cases a4D k.Text<;>simp [h]
 ·by_cases h1:k.Kind=1
  ·simp [h1]
  ·have e0:(k.Kind==0)=false:=by simpa using h
   have e1:(k.Kind==1)=false:=by simpa using h1
   rw [e0,e1,if_neg h,if_neg h1]
   rfl
theorem c2v (a b:Key):cK a b=lx (eK a) (eK b):=by
 have:=pfK a b [] []
 simpa [lx,a9N] using this.symm
theorem a8t (a b:Key):cK b a = - cK a b:=by rw [c2v,c2v]; exact b4R _ _
def Z3 (a b:Key):Bool:=a3P a b
theorem c6O (a b:Key):Z3 a b=((a.Kind==b.Kind)&&Q4 a.Text b.Text):=by unfold Z3 a3P; simp
theorem a8u (a b:Key):Z3 a b=true↔cK a b=0:=by
 rw [c6O]
 unfold cK
 rcases W4 a.Kind b.Kind with ⟨h,e⟩ | ⟨h,e⟩ | ⟨h,e⟩
 ·have:(a.Kind==b.Kind)=false:=by simp; omega
  simp [this,e,tn]
 ·have:(a.Kind==b.Kind)=false:=by simp; omega
  simp [this,e,tn]
 ·rw [h]
  rw [h] at e
  rcases a8x a.Text b.Text with ⟨_,p,q⟩ | ⟨_,p,q⟩ | ⟨_,p,q⟩<;>simp [p,q,e,tn]
abbrev a2x (k:Key):Key->Bool:=fun y=>decide (cK y k<0)
def b7U (s:List Val×List Key)(x:Key×Val):Option (List Val×List Key) :=
 if ((s.2.dropWhile (a2x x.1)).head?.map fun y=>Z3 y x.1)=some true then none
 else some (s.1.take (s.2.takeWhile (a2x x.1)).length++[x.2]++s.1.drop (s.2.takeWhile (a2x x.1)).length,a0a (a2x x.1) x.1 s.2)
def a6w:List (Key×Val)->List Val×List Key->Option (List Val×List Key)
 | [],s=>some s
 | x::r,s=>(b7U s x).bind (a6w r)
abbrev a74 (s:List Val×List Key):b7O:=(8,0,(⟨#[]⟩:ByteArray),s.1,s.2,[],[])
theorem c8N (keys:List Key)(l:List Val)(i:Nat)(k:Key)(x:Val)(hk:keys[i]?=some k)(hx:l[i]?=some x)(s:List Val×List Key)(hs:s.1.length=s.2.length)(hl:s.2.length<=4194304)(hi:i<=4194304) :
 ∃ y,a1n keys l ((i:Int),a2s,a74 s)=some (match b7U s (k,x) with | some t=>.next (((i+1:Nat):Int),a2s,a74 t) | none=>.done (.inr (6,a2s,y))):=by
 refine ⟨a74 s,?_⟩
 have hlt:i<keys.length:=(List.getElem?_eq_some_iff.1 hk).1
 have hik:idx keys (i:Int)=some k:=y4 hk
 have hix:idx l (i:Int)=some x:=y4 hx
 unfold a1n
 simp only [w4]
 rw [c0E (step:=a5c keys ((i:Int),a2s,a74 s)) s.2 (a2x k) ?_ ?_]
 ·simp only [V6,v7]
  rw [if_pos (by simp; omega)]
  simp only [Option.bind_some,hik,hix]
  have hp:=b1F (a2x k) s.2
  have hat:=c0T (a2x k) s.2
  have rmk:∀ n,n<=4194305->Z4 n 24=some ():=fun n hn=>Z2 (by omega)
  have rmv:∀ n,n<=4194305->Z4 n 128=some ():=fun n hn=>Z2 (by omega)
  have h1:=a6P (a2x k) k s.2
  simp only [a0a,List.length_append,List.length_singleton] at h1
  have go:(Option.bind (cut s.2 0 ((s.2.takeWhile (a2x k)).length:Int)) fun u=>Option.bind (Z4 (0+u.length) 24) fun _ =>
   Option.bind (cut s.1 0 ((s.2.takeWhile (a2x k)).length:Int)) fun u2=>Option.bind (a1l u2) fun r2 =>
   Option.bind (Z4 (u.length+[k].length) 24) fun _=>Option.bind (cut s.2 ((s.2.takeWhile (a2x k)).length:Int) (s.2.length:Int)) fun w =>
   Option.bind (Z4 ((u++[k]).length+w.length) 24) fun _=>Option.bind (Z4 (r2.length+[x].length) 128) fun _ =>
   Option.bind (cut s.1 ((s.2.takeWhile (a2x k)).length:Int) (s.1.length:Int)) fun w2=>Option.bind (Z4 ((r2++[x]).length+w2.length) 128) fun _ =>
   some (Fl.next (w64 ((i:Int)+1),a2s,a74 ((r2++[x])++w2,(u++[k])++w))))=some (Fl.next (((i+1:Nat):Int),a2s,a74 (s.1.take (s.2.takeWhile (a2x k)).length++[x]++s.1.drop (s.2.takeWhile (a2x k)).length,a0a (a2x k) k s.2)):Fl (Int×b7O×b7O) (Sum (b7O×b7O) (Int×b7O×b7O))):=by
   have ht:(s.1.take (s.2.takeWhile (a2x k)).length).length<=4194304:=by rw [List.length_take]; omega
   have hd:(s.1.take (s.2.takeWhile (a2x k)).length).length+(s.1.drop (s.2.takeWhile (a2x k)).length).length=s.1.length:=by rw [List.length_take,List.length_drop]; omega
   rw [b9Y s.2 hp,c3Q s.2 hp,b9Y s.1 (by omega),c3Q s.1 (by omega),c1k,c1A]
   unfold a1l
   simp only [Option.bind_some]
   rw [rmk _ (by simp; omega),rmv _ (by simp; omega)]
   simp only [Option.bind_some]
   rw [rmk _ (by simp; omega),rmk _ (by simp only [List.length_append,List.length_singleton]; omega),rmv _ (by simp; omega),rmv _ (by simp only [List.length_append,List.length_singleton]; omega),j5 i (by omega)]
   rfl
  unfold b7U
  cases hh:(s.2.dropWhile (a2x k)).head? with
  | none =>
    rw [hh] at hat
    have hge:=List.getElem?_eq_none_iff.1 hat
    rw [if_neg (by simp; omega),if_neg (by simp)]
    exact go
  | some y =>
    rw [hh] at hat
    have hlt2:=(List.getElem?_eq_some_iff.1 hat).1
    rw [if_pos (by simp; omega),y4 hat]
    simp only [Option.bind_some,Option.map_some]
    cases hq:Z3 y k
    ·unfold Z3 at hq
     rw [hq,if_neg (by simp),if_neg (by simp)]
     exact go
    ·unfold Z3 at hq
     rw [hq,if_pos rfl,if_pos rfl]
 ·intro j y hy
  have hj:j<s.2.length:=(List.getElem?_eq_some_iff.1 hy).1
  unfold a5c
  simp only [V6,v7]
  rw [if_pos (by simp; omega),y4 hy,hik]
  simp only [Option.bind_some,a7O,j5 j (by omega)]
  by_cases h:cK y k<0<;>simp [h]
 ·unfold a5c
  simp
theorem c3v {s t:List Val×List Key}{x:Key×Val}(h:b7U s x=some t)(hs:s.1.length=s.2.length):t.1.length=t.2.length/\t.2.length=s.2.length+1:=by
 unfold b7U at h
 split at h
 ·cases h
 ·cases h
  have h1:=a6P (a2x x.1) x.1 s.2
  have hp:=b1F (a2x x.1) s.2
  refine ⟨?_,h1⟩
  rw [h1]
  simp only [List.length_append,List.length_singleton,List.length_take,List.length_drop]
  omega
theorem c8a (keys:List Key)(l:List Val)(hkl:keys.length=l.length)(hl:keys.length<=4194304) :
 ∃ y,z7 (a1n keys l) (keys.length+1) (0,a2s,a74 ([],[]))=some (match a6w (keys.zip l) ([],[]) with | some t=>.inl (a2s,a74 t) | none=>.inr (6,a2s,y)):=by
 have key:∀ (m i k:Nat) (s:List Val×List Key),i+m=keys.length->m+1<=k->s.1.length=s.2.length->s.2.length<=i ->
  ∃ y,z7 (a1n keys l) k ((i:Int),a2s,a74 s)=some (match a6w ((keys.drop i).zip (l.drop i)) s with | some t=>.inl (a2s,a74 t) | none=>.inr (6,a2s,y)):=by
  intro m
  induction m with
  | zero =>
    intro i k s h1 h2 hs hn
    obtain ⟨k,rfl⟩:∃ m,k=m+1:=⟨k-1,by omega⟩
    have e:i=keys.length:=by omega
    subst e
    rw [List.drop_length,List.zip_nil_left]
    have:a1n keys l ((keys.length:Int),a2s,a74 s)=some (.done (.inl (a2s,a74 s))):=by
     unfold a1n
     simp
    exact ⟨a2s,by simp only [z7,this,a6w,Option.bind_some]⟩
  | succ m ih =>
    intro i k s h1 h2 hs hn
    obtain ⟨k,rfl⟩:∃ m,k=m+1:=⟨k-1,by omega⟩
    have hlt:i<keys.length:=by omega
    have hlt2:i<l.length:=by omega
    rw [List.drop_eq_getElem_cons hlt,List.drop_eq_getElem_cons hlt2,List.zip_cons_cons]
    obtain ⟨y,hy⟩:=c8N keys l i _ _ (List.getElem?_eq_getElem hlt) (List.getElem?_eq_getElem hlt2) s hs (by omega) (by omega)
    simp only [z7,hy,a6w]
    cases hi:b7U s (keys[i],l[i]) with
    | none=>exact ⟨y,by simp⟩
    | some t =>
      obtain ⟨h3,h4⟩:=c3v hi hs
      simp only [Option.bind_some]
      exact ih (i+1) k t (by omega) (by omega) h3 (by omega)
 obtain ⟨y,hy⟩:=key keys.length 0 (keys.length+1) ([],[]) (by omega) (Nat.le_refl _) rfl (Nat.le_refl _)
 exact ⟨y,by simpa using hy⟩
def b3J (s:List Val×List Key):Val:=Val.mk 8 0 (⟨#[]⟩) s.1 s.2 ([]:List Ent) ([]:List ByteArray)
theorem c0V (keys:List Key)(l:List Val)(hl:keys.length<=4194304) :
 a1H keys l=some (if keys.length=l.length/\keys.all Y9=true then (match a6w (keys.zip l) ([],[]) with | some t=>((b3J t,0):Val×Int) | none=>(a6G,6)) else (a6G,1)):=by
 unfold a1H
 simp only [w4]
 by_cases hkl:keys.length=l.length
 ·have e1:((keys.length:Int) != (l.length:Int))=false:=by simp; omega
  rw [e1]
  have k1:=J4 (step:=a2j keys) keys Y9 (fun i=>((i:Int),a2s)) a2s (1,a2s) ?_ ?_
  ·obtain ⟨y,hy⟩:=c8a keys l hkl hl
   have e2:z7 (a2j keys) (keys.length+1) (0,(0,0,(⟨#[]⟩:ByteArray),[],[],[],[]))=z7 (a2j keys) (keys.length+1) (((0:Nat):Int),a2s):=rfl
   rw [e2,k1]
   by_cases ha:keys.all Y9=true
   ·rw [if_pos ha,if_pos ⟨hkl,ha⟩]
    simp only [Option.bind_some,j9,cond_false]
    rw [hy]
    cases a6w (keys.zip l) ([],[])<;>rfl
   ·rw [if_neg ha,if_neg (fun h=>ha h.2)]
    rfl
  ·intro i x hx
   have hi:i<keys.length:=(List.getElem?_eq_some_iff.1 hx).1
   unfold a2j
   simp only [V6,v7]
   rw [if_pos (by simp; omega),y4 hx]
   simp only [Option.bind_some,b5B,j5 i (by omega)]
   cases Y9 x<;>rfl
  ·unfold a2j
   simp
 ·have e1:((keys.length:Int) != (l.length:Int))=true:=by simp; omega
  rw [e1,if_neg (fun h=>hkl h.1)]
  rfl
theorem a68 (a b:List Key):w7 (a++b)=w7 a+w7 b:=by
 induction a with
 | nil=>simp [w7]
 | cons x r ih=>simp only [List.cons_append,w7,ih]; omega
theorem c5S {s t:List Val×List Key}{x:Key×Val}(h:b7U s x=some t)(ha:asc cK s.2=true) :
 asc cK t.2=true/\(∀ y∈t.2,y=x.1\/y∈s.2)/\(∀ y∈t.1,y=x.2\/y∈s.1)/\v8 t.1=v8 s.1+k8 x.2/\w7 t.2=w7 s.2+a6x x.1:=by
 unfold b7U at h
 split at h
 ·cases h
 ·rename_i hne
  cases h
  refine ⟨b1z cK a8t x.1 s.2 ha ?_,fun y hy=>b3k hy,fun y hy=>?_,?_,?_⟩
  ·intro y hy h0
   rw [hy] at hne
   simp only [Option.map_some] at hne
   exact hne (congrArg some ((a8u y x.1).2 h0))
  ·simp only [List.mem_append,List.mem_singleton] at hy
   rcases hy with (hy | hy) | hy
   ·exact .inr (List.mem_of_mem_take hy)
   ·exact .inl hy
   ·exact .inr (List.mem_of_mem_drop hy)
  ·have e:=congrArg v8 (List.take_append_drop (s.2.takeWhile (a2x x.1)).length s.1)
   rw [a1s] at e
   simp only [a1s,v8]
   omega
  ·have e:=congrArg w7 (List.takeWhile_append_dropWhile (p:=a2x x.1) (l:=s.2))
   rw [a68] at e
   simp only [a0a,a68,w7]
   omega
def b5O:List (Key×Val)->Nat
 | []=>0
 | x::r=>a6x x.1+k8 x.2+b5O r
theorem b2q:∀ (xs:List (Key×Val)) (s t:List Val×List Key),a6w xs s=some t->asc cK s.2=true->s.1.length=s.2.length ->
 asc cK t.2=true/\t.1.length=t.2.length/\t.2.length=s.2.length+xs.length/\(∀ y∈t.2,y∈s.2\/∃ x∈xs,y=x.1)/\(∀ y∈t.1,y∈s.1\/∃ x∈xs,y=x.2)/\v8 t.1+w7 t.2=v8 s.1+w7 s.2+b5O xs
 | [],s,t,h,ha,hl=>by
   cases h
   exact ⟨ha,hl,rfl,fun y hy=>.inl hy,fun y hy=>.inl hy,rfl⟩
 | x::r,s,t,h,ha,hl=>by
   simp only [a6w] at h
   obtain ⟨u,hu,h⟩:=Option.bind_eq_some_iff.1 h
   obtain ⟨k1,k2,k3,k4,k5⟩:=c5S hu ha
   obtain ⟨l1,l2⟩:=c3v hu hl
   obtain ⟨m1,m2,m3,m4,m5,m6⟩:=b2q r u t h k1 l1
   refine ⟨m1,m2,by rw [m3,l2,List.length_cons]; omega,fun y hy=>?_,fun y hy=>?_,by simp only [b5O]; omega⟩
   ·rcases m4 y hy with hy | ⟨z,hz,rfl⟩
    ·rcases k2 y hy with rfl | hy
     ·exact .inr ⟨x,by simp,rfl⟩
     ·exact .inl hy
    ·exact .inr ⟨z,by simp [hz],rfl⟩
   ·rcases m5 y hy with hy | ⟨z,hz,rfl⟩
    ·rcases k3 y hy with rfl | hy
     ·exact .inr ⟨x,by simp,rfl⟩
     ·exact .inl hy
    ·exact .inr ⟨z,by simp [hz],rfl⟩
end Go.Pl
namespace Go.Pl
open Go Go.RowKit Go.Sx Go.Qx
theorem c1Y (c:UInt8):a3V (c.toNat:Int)=some (upC c):=by
 unfold a3V upC
 cases decide (65<=(c.toNat:Int))<;>simp
theorem b91 (s:ByteArray):a1Q s=some (a6e s):=by
 unfold a1Q a6e b4s
 simp only [V6,c03]
 have hsz:=b7t s
 cases hs:s.data.toList with
 | nil =>
   rw [hs] at hsz
   rw [hsz]
   simp
 | cons c r =>
   rw [hs] at hsz
   simp only [List.length_cons] at hsz
   have e1:decide ((s.size:Int)<1)=false:=by simp; omega
   rw [e1]
   simp only [Bool.false_eq_true,if_false,Option.bind_some]
   by_cases hb:16<(s.size:Int)
   ·rw [if_pos (by simpa using hb)]
    have:decide (r.length<=15)=false:=by simp; omega
    rw [this]; rfl
   ·rw [if_neg (by simpa using hb)]
    have e2:decide (r.length<=15)=true:=by simp; omega
    have e3:a6c s 0=some c:=b1B (i:=0) (by rw [hs]; rfl)
    rw [e2,e3]
    simp only [Option.bind_some,c1Y,Bool.true_and]
    cases upC c
    ·rfl
    ·simp only [Bool.not_true,Bool.false_eq_true,if_false,Bool.true_and]
     refine b2n s.size (fun i=>match s.data.toList[i]? with | some x=>(a6D x||upC x||a7H x||(x.toNat:Int)==95) | none=>true) ?_ ?_ 1 _ ?_
     ·intro i hi
      have hi':i<s.data.toList.length:=by rw [hs]; simp; omega
      unfold a4e
      simp only [V6,v7]
      rw [if_pos (by simp; omega),b1B (List.getElem?_eq_getElem hi')]
      simp only [Option.bind_some,b5x,c0k,c1Y]
      rw [List.getElem?_eq_getElem hi',j5 i (by omega)]
      generalize s.data.toList[i]=x
      have hn:((x.toNat:Int) != 95)=!((x.toNat:Int)==95):=rfl
      rw [hn]
      show _=some (if (a6D x||upC x||a7H x||(x.toNat:Int)==95)=true then _ else _)
      cases a6D x<;>cases upC x<;>cases a7H x<;>cases (x.toNat:Int)==95<;>rfl
     ·intro i hi
      unfold a4e
      rw [V6,if_neg (by simp; omega)]
     ·rw [hs,List.all_eq_true]
      constructor
      ·intro h i h1 hi
       obtain ⟨i,rfl⟩:∃ m,i=m+1:=⟨i-1,by omega⟩
       have hr:i<r.length:=by omega
       simp only [List.getElem?_cons_succ,List.getElem?_eq_getElem hr]
       exact h _ (List.getElem_mem hr)
      ·intro h x hx
       obtain ⟨i,hi,rfl⟩:=List.getElem_of_mem hx
       have:=h (i+1) (by omega) (by omega)
       simpa only [List.getElem?_cons_succ,List.getElem?_eq_getElem hi] using this
end Go.Pl
end
section
namespace Go.Pl
open Go Go.RowKit Go.Sx Go.Qx
theorem a6Z:Q4 (⟨#[]⟩:ByteArray) ⟨#[]⟩=true:=by simp [Q4]
theorem d0F (n:Int):vOK (Val.mk 1 n (⟨#[]⟩) [] [] [] [])=true:=by simp [vOK,a1o,a4Z,a2e,a04,asc,a3J,a4G,a6Z,Val.Kind,Val.Int_,Val.Text,Val.Kids,Val.Keys,Val.Entries,Val.Labels]
theorem c9U (s:ByteArray):vOK (Val.mk 2 0 s [] [] [] [])=decide ((s.size:Int)<=64):=by rw [Bool.eq_iff_iff]; simp [vOK,a1o,a4Z,a2e,a04,asc,a3J,a4G,Val.Kind,Val.Int_,Val.Text,Val.Kids,Val.Keys,Val.Entries,Val.Labels]; exact decide_eq_true_iff
theorem c82 (s:ByteArray):vOK (Val.mk 3 0 s [] [] [] [])=a4D s:=by simp [vOK,a1o,a4Z,a2e,a04,asc,a3J,a4G,Val.Kind,Val.Int_,Val.Text,Val.Kids,Val.Keys,Val.Entries,Val.Labels]
theorem d0d (n:Int):vOK (Val.mk 4 n (⟨#[]⟩) [] [] [] [])=decide (0<=n):=by rw [Bool.eq_iff_iff]; simp [vOK,a1o,a4Z,a2e,a04,asc,a3J,a4G,a6Z,Val.Kind,Val.Int_,Val.Text,Val.Kids,Val.Keys,Val.Entries,Val.Labels]; exact decide_eq_true_iff
theorem b8u:vOK (Val.mk 5 0 (⟨#[]⟩) [] [] [] [])=true:=by simp [vOK,a1o,a4Z,a2e,a04,asc,a3J,a4G,a6Z,Val.Kind,Val.Int_,Val.Text,Val.Kids,Val.Keys,Val.Entries,Val.Labels]
theorem c1W (l:List Val):vOK (Val.mk 6 0 (⟨#[]⟩) l [] [] [])=(decide (l.length<=4)&&a1o l):=by rw [Bool.eq_iff_iff]; simp [vOK,a4Z,a2e,a04,asc,a3J,a4G,a6Z,Val.Kind,Val.Int_,Val.Text,Val.Kids,Val.Keys,Val.Entries,Val.Labels]; intro _; exact decide_eq_true_iff
theorem c2Y (x t:Val):vOK (Val.mk 7 0 (⟨#[]⟩) [x,t] [] [] [])=((t.Kind==5||t.Kind==7)&&(vOK x&&vOK t)):=by simp [vOK,a1o,a4Z,a2e,a04,asc,a3J,a4G,b0m,a6Z,Val.Kind,Val.Int_,Val.Text,Val.Kids,Val.Keys,Val.Entries,Val.Labels]
theorem c93 (t:List Val×List Key):vOK (b3J t)=(a75 (b3J t)&&a1o t.1):=by simp [b3J,vOK,a4Z,a2e,a04,asc,a3J,a4G,a6Z,Val.Kind,Val.Int_,Val.Text,Val.Kids,Val.Keys,Val.Entries,Val.Labels]
theorem d0e (n:Int)(es:List Ent):vOK (b7g n es)=(b3j (b7g n es)&&a4Z es):=by simp [b7g,vOK,a1o,a2e,a04,asc,a3J,a4G,a6Z,Val.Kind,Val.Int_,Val.Text,Val.Kids,Val.Keys,Val.Entries,Val.Labels]
def a7C (v:Val)(l:List ByteArray):Val:=Val.mk v.Kind v.Int_ v.Text v.Kids v.Keys v.Entries l
theorem a93 {v:Val}{l:List ByteArray}(h:vOK v=true)(hl:a04 l=true):vOK (a7C v l)=true:=by
 cases v
 simp only [vOK,a2e,Bool.and_eq_true,a7C,Val.Kind,Val.Int_,Val.Text,Val.Kids,Val.Keys,Val.Entries,Val.Labels] at h ⊢
 exact ⟨⟨hl,h.1.2⟩,h.2⟩
theorem a61 (v:Val)(l:List ByteArray):k8 (a7C v l)<=k8 v+J8 l:=by
 rw [a02,a02 v]
 simp only [a7C,Val.Text,Val.Kids,Val.Keys,Val.Entries,Val.Labels]
 omega
theorem a3j:(⟨#[]⟩:ByteArray).size=0:=rfl
theorem V7 (k n:Int)(t:ByteArray)(kids:List Val)(keys:List Key)(es:List Ent):k8 (Val.mk k n t kids keys es [])=8+t.size+v8 kids+w7 keys+Z0 es:=by
 simp only [k8,a3u,J8]; omega
structure OS (L:List Int)(s:Semtypebase_Source):Prop where
 l:s.L=L
 lo:0<=s.At
 hi:s.At<=(L.length:Int)
section
variable {L:List Int}
theorem Z9 (hL:L.length<=4194304){s:Semtypebase_Source}(h:OS L s){n:Int}(h1:1<=n)(h2:n<=1000):∃ x t,z8 s n=some (x,t)/\OS L t/\0<=x/\x<n:=by
 obtain ⟨hl,lo,hi⟩:=h
 unfold z8
 have e1:decide (n<1)=false:=by simp; omega
 rw [e1,hl]
 by_cases he:(L.length:Int)<=s.At
 ·have e2:decide ((L.length:Int)<=s.At)=true:=by simpa using he
  rw [e2]
  exact ⟨0,s,rfl,⟨hl,lo,hi⟩,by omega,by omega⟩
 ·have e2:decide ((L.length:Int)<=s.At)=false:=by simpa using he
  rw [e2]
  simp only [cond_false,Option.bind_some]
  have hlt:s.At.toNat<L.length:=by omega
  have e:idx L s.At=some L[s.At.toNat]:=by
   have:=y4 (List.getElem?_eq_getElem hlt)
   rwa [show ((s.At.toNat:Nat):Int)=s.At by omega] at this
  rw [e]
  simp only [Option.bind_some]
  have hq:b9J L[s.At.toNat] n=some (L[s.At.toNat].tmod n):=by unfold b9J; rw [if_neg (by omega)]
  rw [hq]
  simp only [Option.bind_some,v7]
  have b1:=Int.tmod_lt_of_pos L[s.At.toNat] (show 0<n by omega)
  have b2:=Int.lt_tmod_of_pos L[s.At.toNat] (show 0<n by omega)
  have hw:w64 (s.At+1)=s.At+1:=K2 (by omega) (by omega)
  have hos:OS L (Semtypebase_Source.mk L (w64 (s.At+1))):=⟨rfl,by show 0<=w64 (s.At+1); omega,by show w64 (s.At+1)<=_; omega⟩
  by_cases hn:L[s.At.toNat].tmod n<0
  ·rw [V6,if_pos (by simpa using hn),K2 (x:=L[s.At.toNat].tmod n+n) (by omega) (by omega)]
   exact ⟨_,_,rfl,hos,by omega,by omega⟩
  ·rw [V6,if_neg (by simpa using hn)]
   exact ⟨_,_,rfl,hos,by omega,by omega⟩
theorem b47 {α:Type}(l:List α){x:Int}(h0:0<=x)(h1:x<(l.length:Int)):∃ t,idx l x=some t/\l[x.toNat]?=some t/\t∈l:=by
 have hlt:x.toNat<l.length:=by omega
 have:=y4 (List.getElem?_eq_getElem hlt)
 rw [show ((x.toNat:Nat):Int)=x by omega] at this
 exact ⟨_,this,List.getElem?_eq_getElem hlt,List.getElem_mem hlt⟩
abbrev b8s:List ByteArray:=[⟨#[65]⟩,⟨#[66]⟩,⟨#[67]⟩]
abbrev c3j:List ByteArray:=[⟨#[97]⟩,⟨#[98]⟩,⟨#[111,107]⟩,⟨#[101,114,114,111,114]⟩]
abbrev c3i:List ByteArray:=[⟨#[]⟩,⟨#[115]⟩,⟨#[120,32,121]⟩,⟨#[97]⟩]
theorem b9m (hL:L.length<=4194304){s:Semtypebase_Source}(h:OS L s):∃ x t,a0x s=some (x,t)/\OS L t/\x∈b8s:=by
 obtain ⟨n,t,e,ht,a,b⟩:=Z9 hL h (n:=3) (by omega) (by omega)
 obtain ⟨x,ex,eg,hx⟩:=b47 b8s a (by simpa using b)
 exact ⟨x,t,by unfold a0x; rw [e]; simp only [Option.bind_some]; rw [ex,eg]; rfl,ht,hx⟩
theorem a9Z (hL:L.length<=4194304){s:Semtypebase_Source}(h:OS L s):∃ x t,V2 s=some (x,t)/\OS L t/\x∈c3j:=by
 obtain ⟨n,t,e,ht,a,b⟩:=Z9 hL h (n:=4) (by omega) (by omega)
 obtain ⟨x,ex,eg,hx⟩:=b47 c3j a (by simpa using b)
 exact ⟨x,t,by unfold V2; rw [e]; simp only [Option.bind_some]; rw [ex,eg]; rfl,ht,hx⟩
theorem b8g (hL:L.length<=4194304){s:Semtypebase_Source}(h:OS L s):∃ x t,a0b s=some (x,t)/\OS L t/\x∈c3i:=by
 obtain ⟨n,t,e,ht,a,b⟩:=Z9 hL h (n:=4) (by omega) (by omega)
 obtain ⟨x,ex,eg,hx⟩:=b47 c3i a (by simpa using b)
 exact ⟨x,t,by unfold a0b; rw [e]; simp only [Option.bind_some]; rw [ex,eg]; rfl,ht,hx⟩
theorem c7d (hL:L.length<=4194304){s:Semtypebase_Source}(h:OS L s):∃ x t,a2o s=some (x,t)/\OS L t:=by
 obtain ⟨n,t,e,ht,a,b⟩:=Z9 hL h (n:=10) (by omega) (by omega)
 obtain ⟨x,ex,eg,hx⟩:=b47 ([0,1,(-1),2,3,(-2),7,(-9223372036854775808),9223372036854775807,10]:List Int) a (by simpa using b)
 exact ⟨x,t,by unfold a2o; rw [e]; simp only [Option.bind_some]; rw [ex,eg]; rfl,ht⟩
def chk (o:Option (List ByteArray)):Bool :=
 match o with
 | some l=>a04 l&&decide (J8 l<=4)
 | none=>false
theorem b7p {o:Option (List ByteArray)}(h:chk o=true):∃ l,o=some l/\a04 l=true/\J8 l<=4:=by
 cases o with
 | none=>cases h
 | some l=>simp only [chk,Bool.and_eq_true,decide_eq_true_eq] at h; exact ⟨l,rfl,h⟩
theorem d0H:chk (a0d ([]:List ByteArray))=true:=by kernel_rfl
theorem d0K:b8s.all (fun x=>chk (a0d [x]))=true:=by kernel_rfl
theorem c99:b8s.all (fun x=>b8s.all (fun y=>chk (a0d ([x]++[y]))))=true:=by kernel_rfl
theorem b1h (hL:L.length<=4194304){s:Semtypebase_Source}(h:OS L s):∃ l t,a1a s=some (l,t)/\OS L t/\a04 l=true/\J8 l<=4:=by
 obtain ⟨n,t,e,ht,_,_⟩:=Z9 hL h (n:=3) (by omega) (by omega)
 unfold a1a
 rw [e]
 simp only [Option.bind_some]
 cases hn:n==1
 ·simp only [cond_false,Option.bind_some]
  obtain ⟨l,el,h1,h2⟩:=b7p d0H
  exact ⟨l,t,by rw [el]; rfl,ht,h1,h2⟩
 ·simp only [cond_true,Option.bind_some]
  obtain ⟨x,t2,e2,ht2,hx⟩:=b9m hL ht
  obtain ⟨m,t3,e3,ht3,_,_⟩:=Z9 hL ht2 (n:=2) (by omega) (by omega)
  rw [e2]
  simp only [Option.bind_some]
  rw [Z2 (by simp),e3]
  simp only [Option.bind_some]
  cases hm:m==1
  ·simp only [cond_false,Option.bind_some]
   obtain ⟨l,el,h1,h2⟩:=b7p (List.all_eq_true.1 d0K x hx)
   exact ⟨l,t3,by rw [el]; rfl,ht3,h1,h2⟩
  ·simp only [cond_true,Option.bind_some]
   obtain ⟨y,t4,e4,ht4,hy⟩:=b9m hL ht3
   rw [e4]
   simp only [Option.bind_some]
   rw [Z2 (by simp)]
   obtain ⟨l,el,h1,h2⟩:=b7p (List.all_eq_true.1 (List.all_eq_true.1 c99 x hx) y hy)
   exact ⟨l,t4,by simp only [Option.bind_some]; rw [el]; rfl,ht4,h1,h2⟩
theorem b08:c3j.all (fun x=>a4D x&&decide (x.size<=5))=true:=by kernel_rfl
theorem b1p:c3i.all (fun x=>decide (x.size<=5))=true:=by kernel_rfl
theorem b4L (hL:L.length<=4194304){s:Semtypebase_Source}(h:OS L s):∃ v t,K6 s=some (v,t)/\OS L t/\vOK v=true/\k8 v<=16:=by
 obtain ⟨n,t,e,ht,_,_⟩:=Z9 hL h (n:=6) (by omega) (by omega)
 unfold K6
 rw [e]
 simp only [Option.bind_some]
 cases n==0
 ·simp only [cond_false,Option.bind_some]
  cases n==1
  ·simp only [cond_false,Option.bind_some]
   cases n==2
   ·simp only [cond_false,Option.bind_some]
    cases n==3
    ·simp only [cond_false,Option.bind_some]
     cases n==4
     ·simp only [cond_false,Option.bind_some]
      unfold a3T a1l
      rw [Z2 (by simp)]
      exact ⟨_,t,rfl,ht,by rw [c1W]; rfl,by rw [V7]; simp [a3j,v8,w7,Z0]⟩
     ·simp only [cond_true,Option.bind_some]
      exact ⟨_,t,rfl,ht,b8u,by rw [V7]; simp [a3j,v8,w7,Z0]⟩
    ·simp only [cond_true,Option.bind_some]
     obtain ⟨x,t2,e2,ht2,h0,_⟩:=Z9 hL ht (n:=3) (by omega) (by omega)
     rw [e2]
     exact ⟨_,t2,rfl,ht2,by rw [d0d]; simpa using h0,by rw [V7]; simp [a3j,v8,w7,Z0]⟩
   ·simp only [cond_true,Option.bind_some]
    obtain ⟨x,t2,e2,ht2,hx⟩:=b8g hL ht
    have hw:=List.all_eq_true.1 b1p x hx
    simp only [decide_eq_true_eq] at hw
    rw [e2]
    exact ⟨_,t2,rfl,ht2,by rw [c9U]; simp; omega,by rw [V7]; simp only [v8,w7,Z0]; omega⟩
  ·simp only [cond_true,Option.bind_some]
   obtain ⟨x,t2,e2,ht2,hx⟩:=a9Z hL ht
   have hw:=List.all_eq_true.1 b08 x hx
   simp only [Bool.and_eq_true,decide_eq_true_eq] at hw
   rw [e2]
   exact ⟨_,t2,rfl,ht2,by rw [c82]; exact hw.1,by rw [V7]; simp only [v8,w7,Z0]; omega⟩
 ·simp only [cond_true,Option.bind_some]
  obtain ⟨x,t2,e2,ht2⟩:=c7d hL ht
  rw [e2]
  exact ⟨_,t2,rfl,ht2,d0F x,by rw [V7]; simp [a3j,v8,w7,Z0]⟩
theorem d0o (hL:L.length<=4194304){s:Semtypebase_Source}(h:OS L s):∃ k t,a3e s=some (k,t)/\OS L t/\Y9 k=true/\a6x k<=8:=by
 obtain ⟨n,t,e,ht,_,_⟩:=Z9 hL h (n:=2) (by omega) (by omega)
 unfold a3e
 rw [e]
 simp only [Option.bind_some]
 cases n==0
 ·simp only [cond_false,Option.bind_some]
  obtain ⟨x,t2,e2,ht2,hx⟩:=b8g hL ht
  have hw:=List.all_eq_true.1 b1p x hx
  simp only [decide_eq_true_eq] at hw
  rw [e2]
  refine ⟨_,t2,rfl,ht2,?_,?_⟩
  ·simp [Y9]; omega
  ·simp only [a6x,a3u]; omega
 ·simp only [cond_true,Option.bind_some]
  obtain ⟨x,t2,e2,ht2,hx⟩:=a9Z hL ht
  have hw:=List.all_eq_true.1 b08 x hx
  simp only [Bool.and_eq_true,decide_eq_true_eq] at hw
  rw [e2]
  refine ⟨_,t2,rfl,ht2,?_,?_⟩
  ·simpa [Y9] using hw.1
  ·simp only [a6x,a3u]; omega
theorem a9X {γ σ τ:Type}{step:σ->Option (Fl σ τ)}(pack:γ->Int->Semtypebase_Source->σ)(out:γ->Semtypebase_Source->τ)(Inv:Nat->γ->Prop)(J:Nat)
 (hst:∀ (j n:Nat) (g:γ) (s:Semtypebase_Source),j<J->n<=J->Inv j g->OS L s->∃ g' s',step (pack g ((n+1:Nat):Int) s)=some (.next (pack g' (n:Int) s'))/\OS L s'/\Inv (j+1) g')
 (hend:∀ g s,step (pack g 0 s)=some (.done (out g s))) :
 ∀ (n j k:Nat) (g:γ) (s:Semtypebase_Source),j+n<=J->n+1<=k->Inv j g->OS L s->∃ g' s',z7 step k (pack g (n:Int) s)=some (out g' s')/\OS L s'/\Inv (j+n) g':=by
 intro n
 induction n with
 | zero =>
   intro j k g s _ hk hI hs
   obtain ⟨k,rfl⟩:∃ m,k=m+1:=⟨k-1,by omega⟩
   exact ⟨g,s,by have:=hend g s; simp [z7,this],hs,hI⟩
 | succ n ih =>
   intro j k g s hJ hk hI hs
   obtain ⟨k,rfl⟩:∃ m,k=m+1:=⟨k-1,by omega⟩
   obtain ⟨g1,s1,e,hs1,hI1⟩:=hst j n g s (by omega) (by omega) hI hs
   obtain ⟨g2,s2,e2,hs2,hI2⟩:=ih (j+1) k g1 s1 (by omega) (by omega) hI1 hs1
   refine ⟨g2,s2,?_,hs2,by rw [show j+(n+1)=j+1+n by omega]; exact hI2⟩
   simp only [z7,e,Option.bind_some]
   exact e2
def hb:Nat->Nat
 | 0=>32
 | h+1=>64+8*hb h
theorem c9w {h:Nat}(hh:h<=2):hb h<=2624:=by
 match h,hh with
 | 0,_=>decide
 | 1,_=>decide
 | 2,_=>decide
theorem c6D (h:Nat):32<=hb h:=by cases h<;>simp [hb]; omega
def c3Y (b:Nat)(v:Val):Prop:=vOK v=true/\k8 v<=b
end
end Go.Pl
namespace Go.Pl
open Go Go.RowKit Go.Sx Go.Qx
theorem b5I (a b:List Val):a1o (a++b)=(a1o a&&a1o b):=by rw [a4B,a4B,a4B,List.all_append]
theorem b7K:∀ (ks:List Key) (vs:List Val),b5O (ks.zip vs)<=w7 ks+v8 vs
 | [],_=>by simp [b5O]
 | _::_,[]=>by simp [b5O]
 | k::r,v::q=>by have:=b7K r q; simp only [List.zip_cons_cons,b5O,w7,v8]; omega
theorem b8m (n:Nat)(h:n<=1000)(b:Nat)(hb:b<=1024):Z4 n b=some ():=Z2 (by
 have:n*b<=1000*1024:=Nat.mul_le_mul h hb
 omega)
section
variable {L:List Int}
theorem c6Q (hL:L.length<=4194304){rv:Semtypebase_Source->Int->Option (Val×Semtypebase_Source)}{b:Nat}{h:Int}(hv:∀ s,OS L s->∃ v t,rv s h=some (v,t)/\OS L t/\c3Y b v)
 (hb:b<=100000) (hb8:8<=b) (rx:Semtypebase_Source->Int->Option (Val×Semtypebase_Source)) (ry:Semtypebase_Source->Int->Int->Option (Ent×Semtypebase_Source)) (fuel:Nat) {n:Nat} (hn:n<=4) {s:Semtypebase_Source} (hs:OS L s) :
 ∃ e t,a3H fuel rv rx ry s (n:Int) h=some (e,t)/\OS L t/\eOK e=true/\a2V (n:Int) e=true/\a35 e<=n*b+b+3:=by
 obtain ⟨g,s1,e1,hs1,h1,h2,h3⟩:=a9X (L:=L) (step:=a1J h rv) (fun (g:List Val) (m:Int) (s:Semtypebase_Source)=>(m,s,(g,false,0,0,(⟨#[]⟩:ByteArray),([]:List Val),([]:List Key),([]:List Ent),([]:List ByteArray))))
  (fun (g:List Val) (s:Semtypebase_Source)=>(s,(g,false,0,0,(⟨#[]⟩:ByteArray),([]:List Val),([]:List Key),([]:List Ent),([]:List ByteArray)))) (fun j g=>g.length=j/\a1o g=true/\v8 g<=j*b) 4
  (by
    intro j m g s hj hm ⟨i1,i2,i3⟩ hs
    obtain ⟨v,t,e,ht,k1,k2⟩:=hv s hs
    refine ⟨g++[v],t,?_,ht,by simp [i1],by rw [b5I,i2]; simp [a1o,k1],?_⟩
    ·unfold a1J
     simp only [V6,v7]
     rw [if_pos (decide_eq_true (by omega)),e]
     simp only [Option.bind_some]
     rw [b8m _ (by simp; omega) _ (by omega),K2 (by omega) (by omega)]
     simp only [Option.bind_some]
     rw [show ((m+1:Nat):Int)-1=(m:Int) by omega]
    ·rw [a1s]
     simp only [v8,Nat.add_mul]
     omega)
  (by
    intro g s
    unfold a1J
    simp) n 0 (n+2) [] s (by omega) (by omega) ⟨rfl,rfl,by simp [v8]⟩ hs
 obtain ⟨x,t,e2,ht,_,_⟩:=Z9 hL hs1 (n:=4) (by omega) (by omega)
 rw [Nat.zero_add] at h1 h3
 unfold a3H
 rw [show ((n:Int)).toNat=n by omega,e1]
 simp only [Option.bind_some]
 rw [e2]
 simp only [Option.bind_some]
 cases x==1
 ·simp only [cond_false]
  obtain ⟨v,t2,e3,ht2,k1,k2⟩:=hv t ht
  rw [e3]
  refine ⟨_,t2,rfl,ht2,by rw [b4q]; simp only [Ent.Args,Ent.Fails,Ent.Result]; rw [h2,k1]; rfl,?_,?_⟩
  ·simp [a2V,Ent.Args,Ent.Fails,h1]
  ·rw [a1k]
   simp only [Ent.Args,Ent.Result]
   omega
 ·simp only [cond_true]
  refine ⟨_,t,rfl,ht,by rw [b4q]; simp only [Ent.Args,Ent.Fails]; rw [h2]; rfl,?_,?_⟩
  ·simp [a2V,Ent.Args,Ent.Fails,Ent.Result,h1,d0b]
  ·rw [a1k]
   simp only [Ent.Args,Ent.Result]
   have:k8 (Val.mk 0 0 (⟨#[]⟩) [] [] [] [])=8:=by rw [V7]; rfl
   omega
theorem b3g {x:Int}{b:Int}(h0:0<=x)(h1:x<b):∃ n:Nat,x=(n:Int)/\(n:Int)<b:=⟨x.toNat,by omega,by omega⟩
theorem c7O (hL:L.length<=4194304){rv:Semtypebase_Source->Int->Option (Val×Semtypebase_Source)}{re:Semtypebase_Source->Int->Int->Option (Ent×Semtypebase_Source)}{h:Nat}(hh:h<=2)
 (hv:∀ s,OS L s->∃ v t,rv s ((h:Int)+1)=some (v,t)/\OS L t/\c3Y (hb h) v)
 (hv2:1<=h->∀ s,OS L s->∃ v t,rv s (h:Int)=some (v,t)/\OS L t/\c3Y (hb h) v)
 (he:∀ n:Nat,n<=4->∀ s,OS L s->∃ e t,re s (n:Int) ((h:Int)+1)=some (e,t)/\OS L t/\eOK e=true/\a2V (n:Int) e=true/\a35 e<=n*hb h+hb h+3)
 (rx:Semtypebase_Source->Int->Option (Val×Semtypebase_Source)) {fuel:Nat} (hf:40000<=fuel) {s:Semtypebase_Source} (hs:OS L s) :
 ∃ v t,a0X fuel rv rx re s ((h:Int)+2)=some (v,t)/\OS L t/\vOK v=true/\k8 v+8<=hb (h+1):=by
 have hb1:=c9w hh
 have hb2:=c6D h
 have hbs:hb (h+1)=64+8*hb h:=rfl
 have w1:w64 ((h:Int)+2-1)=(h:Int)+1:=by rw [K2 (by omega) (by omega)]; omega
 have w2:w64 ((h:Int)+2-2)=(h:Int):=by rw [K2 (by omega) (by omega)]; omega
 have wn:∀ m:Nat,m<=10->w64 (((m+1:Nat):Int)-1)=(m:Int):=fun m hm=>by rw [K2 (by omega) (by omega)]; omega
 have lf:∀ s,OS L s->∃ v t,K6 s=some (v,t)/\OS L t/\vOK v=true/\k8 v+8<=hb (h+1):=fun s hs=>by
  obtain ⟨v,t,e,ht,h1,h2⟩:=b4L hL hs
  exact ⟨v,t,e,ht,h1,by omega⟩
 obtain ⟨c,t,e,ht,_,_⟩:=Z9 hL hs (n:=6) (by omega) (by omega)
 unfold a0X
 have e0:decide ((h:Int)+2<=1)=false:=by simp; omega
 rw [e0,e]
 simp only [Option.bind_some,cond_false,v7,w1,w2]
 cases c==1
 ·simp only [cond_false,Option.bind_some,j9]
  cases c==2
  ·simp only [cond_false,Option.bind_some,j9]
   cases c==3
   ·simp only [cond_false,Option.bind_some,j9]
    cases c==4
    ·simp only [cond_false,Option.bind_some,j9]
     obtain ⟨v,t2,e2,h2⟩:=lf t ht
     rw [e2]
     exact ⟨v,t2,rfl,h2⟩
    ·simp only [cond_true,Option.bind_some,j9]
     obtain ⟨x,t2,e2,ht2,x0,x1⟩:=Z9 hL ht (n:=3) (by omega) (by omega)
     obtain ⟨y,t3,e3,ht3,y0,y1⟩:=Z9 hL ht2 (n:=3) (by omega) (by omega)
     obtain ⟨n,rfl,hn⟩:=b3g x0 x1
     obtain ⟨m,rfl,hm⟩:=b3g y0 y1
     rw [e2]
     simp only [Option.bind_some]
     rw [e3]
     simp only [Option.bind_some]
     have hnb:n*hb h<=2*hb h:=Nat.mul_le_mul_right _ (by omega)
     obtain ⟨g,s1,e4,hs1,i1,i2,i3,i4⟩:=a9X (L:=L) (step:=a1M ((h:Int)+2) ((n:Int),t2) re) (fun (g:List Ent) (m:Int) (s:Semtypebase_Source)=>(g,m,s)) (fun (g:List Ent) (s:Semtypebase_Source)=>(g,s)) (fun j g=>g.length=j/\a4Z g=true/\g.all (a2V (n:Int))=true/\Z0 g<=j*(3*hb h+3)) 4
      (by
        intro j m g s hj hm ⟨i1,i2,i3,i4⟩ hs
        obtain ⟨v,t,e,ht,k1,k2,k3⟩:=he n (by omega) s hs
        refine ⟨g++[v],t,?_,ht,by simp [i1],by rw [a8c,List.all_append,<- a8c,i2]; simp [k1],by rw [List.all_append,i3]; simp [k2],?_⟩
        ·unfold a1M
         simp only [V6,v7]
         rw [if_pos (decide_eq_true (by omega)),w1,e]
         simp only [Option.bind_some]
         rw [b8m _ (by simp; omega) _ (by omega),wn m (by omega)]
         rfl
        ·rw [b1s]
         simp only [Z0,Nat.add_mul]
         omega)
      (by
        intro g s
        unfold a1M
        simp) m 0 (m+2) [] t3 (by omega) (by omega) ⟨rfl,rfl,rfl,by simp [Z0]⟩ ht3
     simp only [Option.bind_some,Int.toNat_natCast]
     rw [e4]
     simp only [Option.bind_some]
     rw [Nat.zero_add] at i1 i4
     have hmb:m*(3*hb h+3)<=2*(3*hb h+3):=Nat.mul_le_mul_right _ (by omega)
     rw [b3l fuel (n:Int) g (by omega) (by omega),if_pos ⟨by omega,by omega,i3⟩]
     simp only [Option.bind_some]
     simp only [show ((0:Int)==0)=true from rfl,cond_true,Option.bind_some,j9]
     refine ⟨b7g (n:Int) (g.foldl a38 []),s1,rfl,hs1,?_,?_⟩
     ·rw [d0e]
      have a1:(g.foldl a38 []).all (a2V (n:Int))=true:=List.all_eq_true.2 fun y hy=>by
       rcases b00 g [] hy with hy | hy
       ·simp at hy
       ·exact List.all_eq_true.1 i3 y hy
      have a2:a4Z (g.foldl a38 [])=true:=by
       rw [a8c]
       rw [a8c] at i2
       exact List.all_eq_true.2 fun y hy=>by
        rcases b00 g [] hy with hy | hy
        ·simp at hy
        ·exact List.all_eq_true.1 i2 y hy
      rw [a2]
      simp only [b3j,b7g,Val.Int_,Val.Entries]
      rw [a1,b6w g [] rfl]
      simp only [Bool.and_true,Bool.and_eq_true]
      exact ⟨decide_eq_true (by omega),decide_eq_true (by omega)⟩
     ·have:=a9r g []
      simp only [b7g,V7,a3j,v8,w7]
      simp only [Z0] at this
      omega
   ·simp only [cond_true,Option.bind_some,j9]
    obtain ⟨y,t3,e3,ht3,y0,y1⟩:=Z9 hL ht (n:=3) (by omega) (by omega)
    obtain ⟨m,rfl,hm⟩:=b3g y0 y1
    rw [e3]
    simp only [Option.bind_some]
    obtain ⟨g,s1,e4,hs1,i1,i2,i3,i4,i5,i6⟩:=a9X (L:=L) (step:=a1K ((h:Int)+2) rv) (fun (g:List Key×List Val) (m:Int) (s:Semtypebase_Source)=>(g.1,g.2,m,s)) (fun (g:List Key×List Val) (s:Semtypebase_Source)=>(g.1,g.2,s)) (fun j g=>g.1.length=j/\g.2.length=j/\g.1.all Y9=true/\a1o g.2=true/\v8 g.2<=j*hb h/\w7 g.1<=j*8) 4
     (by
       intro j m g s hj hm ⟨i1,i2,i3,i4,i5,i6⟩ hs
       obtain ⟨k,t,e,ht,k1,k2⟩:=d0o hL hs
       obtain ⟨v,t2,e2,ht2,l1,l2⟩:=hv t ht
       refine ⟨(g.1++[k],g.2++[v]),t2,?_,ht2,by simp [i1],by simp [i2],by rw [List.all_append,i3]; simp [k1],by rw [b5I,i4]; simp [a1o,l1],?_,?_⟩
       ·unfold a1K
        simp only [V6,v7]
        rw [if_pos (decide_eq_true (by omega)),e,w1]
        simp only [Option.bind_some]
        rw [b8m _ (by simp; omega) _ (by omega),e2]
        simp only [Option.bind_some]
        rw [b8m _ (by simp; omega) _ (by omega),wn m (by omega)]
        rfl
       ·rw [a1s]
        simp only [v8,Nat.add_mul]
        omega
       ·rw [a68]
        simp only [w7,Nat.add_mul]
        omega)
     (by
       intro g s
       unfold a1K
       simp) m 0 (m+2) ([],[]) t3 (by omega) (by omega) ⟨rfl,rfl,rfl,rfl,by simp [v8],by simp [w7]⟩ ht3
    simp only [Int.toNat_natCast]
    rw [e4]
    simp only [Option.bind_some]
    rw [Nat.zero_add] at i1 i2 i5 i6
    have hmb:m*hb h<=2*hb h:=Nat.mul_le_mul_right _ (by omega)
    rw [c0V g.1 g.2 (by omega),if_pos ⟨by omega,i3⟩]
    simp only [Option.bind_some]
    cases hx:a6w (g.1.zip g.2) ([],[]) with
    | none =>
      simp only [show ((6:Int)==0)=false from rfl,cond_false,Option.bind_some,j9]
      obtain ⟨v,t2,e2,h2⟩:=lf _ hs1
      rw [e2]
      exact ⟨v,t2,rfl,h2⟩
    | some u =>
      simp only
      simp only [show ((0:Int)==0)=true from rfl,cond_true,Option.bind_some,j9]
      obtain ⟨m1,m2,m3,m4,m5,m6⟩:=b2q _ _ _ hx rfl rfl
      have hz:=b7K g.1 g.2
      simp only [v8,w7] at m6
      refine ⟨b3J u,s1,rfl,hs1,?_,?_⟩
      ·rw [c93]
       have a1:u.2.all Y9=true:=List.all_eq_true.2 fun y hy=>by
        rcases m4 y hy with hy | ⟨x,hx,rfl⟩
        ·simp at hy
        ·exact List.all_eq_true.1 i3 _ (List.of_mem_zip hx).1
       have a2:a1o u.1=true:=by
        rw [a4B]
        rw [a4B] at i4
        exact List.all_eq_true.2 fun y hy=>by
         rcases m5 y hy with hy | ⟨x,hx,rfl⟩
         ·simp at hy
         ·exact List.all_eq_true.1 i4 _ (List.of_mem_zip hx).2
       rw [a2]
       simp only [a75,b3J,Val.Keys,Val.Kids]
       rw [a1,m1,m2]
       simp
      ·simp only [b3J,V7,a3j,Z0]
       omega
  ·simp only [cond_true,Option.bind_some,j9]
   have fin:∀ (tl v:Val),vOK tl=true->(tl.Kind=5\/tl.Kind=7)->k8 tl<=24+hb h->c3Y (hb h) v ->
    vOK (Val.mk 7 0 (⟨#[]⟩) [v,tl] [] [] [])=true/\k8 (Val.mk 7 0 (⟨#[]⟩) [v,tl] [] [] [])+8<=hb (h+1):=by
    intro tl v ho hk hbt ⟨k1,k2⟩
    refine ⟨?_,?_⟩
    ·rw [c2Y,k1,ho]
     rcases hk with hk | hk<;>simp [hk]
    ·rw [V7]
     simp only [a3j,v8,w7,Z0]
     omega
   have nilB:k8 (Val.mk 5 0 (⟨#[]⟩) [] [] [] [])=8:=by rw [V7]; rfl
   unfold X4 a6a
   simp only [Option.bind_some]
   by_cases h2:1<=h
   ·have e5:decide (2<(h:Int)+2)=true:=by simp; omega
    obtain ⟨x,t2,e2,ht2,_,_⟩:=Z9 hL ht (n:=2) (by omega) (by omega)
    rw [e5,e2]
    simp only [Option.bind_some,cond_true]
    cases x==1
    ·simp only [Option.bind_some,cond_false]
     obtain ⟨l,t3,e3,ht3,l1,l2⟩:=b1h hL ht2
     rw [e3]
     simp only [Option.bind_some]
     obtain ⟨v,t5,e5,ht5,k5⟩:=hv t3 ht3
     rw [e5]
     exact ⟨_,t5,rfl,ht5,fin (a7C (Val.mk 5 0 (⟨#[]⟩) [] [] [] []) l) v (a93 b8u l1) (.inl rfl) (by have:=a61 (Val.mk 5 0 (⟨#[]⟩) [] [] [] []) l; omega) k5⟩
    ·simp only [Option.bind_some,cond_true]
     obtain ⟨v,t3,e3,ht3,k1,k2⟩:=hv2 h2 t2 ht2
     rw [e3]
     simp only [Option.bind_some]
     obtain ⟨l,t4,e4,ht4,l1,l2⟩:=b1h hL ht3
     have ho:vOK (Val.mk 7 0 (⟨#[]⟩) [v,Val.mk 5 0 (⟨#[]⟩) [] [] [] []] [] [] [])=true:=by rw [c2Y,k1,b8u]; rfl
     have hbb:k8 (Val.mk 7 0 (⟨#[]⟩) [v,Val.mk 5 0 (⟨#[]⟩) [] [] [] []] [] [] [])<=16+hb h:=by
      rw [V7]
      simp only [a3j,v8,w7,Z0,nilB]
      omega
     rw [e4]
     simp only [Option.bind_some]
     obtain ⟨v5,t5,e5,ht5,k5⟩:=hv t4 ht4
     rw [e5]
     exact ⟨_,t5,rfl,ht5,fin (a7C (Val.mk 7 0 (⟨#[]⟩) [v,Val.mk 5 0 (⟨#[]⟩) [] [] [] []] [] [] []) l) v5 (a93 ho l1) (.inr rfl) (by have:=a61 (Val.mk 7 0 (⟨#[]⟩) [v,Val.mk 5 0 (⟨#[]⟩) [] [] [] []] [] [] []) l; omega) k5⟩
   ·have e5:decide (2<(h:Int)+2)=false:=by simp; omega
    rw [e5]
    simp only [Option.bind_some,cond_false]
    obtain ⟨l,t3,e3,ht3,l1,l2⟩:=b1h hL ht
    rw [e3]
    simp only [Option.bind_some]
    obtain ⟨v,t5,e5,ht5,k5⟩:=hv t3 ht3
    rw [e5]
    exact ⟨_,t5,rfl,ht5,fin (a7C (Val.mk 5 0 (⟨#[]⟩) [] [] [] []) l) v (a93 b8u l1) (.inl rfl) (by have:=a61 (Val.mk 5 0 (⟨#[]⟩) [] [] [] []) l; omega) k5⟩
 ·simp only [cond_true,Option.bind_some,j9]
  obtain ⟨y,t3,e3,ht3,y0,y1⟩:=Z9 hL ht (n:=4) (by omega) (by omega)
  obtain ⟨m,rfl,hm⟩:=b3g y0 y1
  rw [e3]
  simp only [Option.bind_some]
  obtain ⟨g,s1,e4,hs1,i1,i2,i3⟩:=a9X (L:=L) (step:=a1L ((h:Int)+2) rv) (fun (g:List Val) (m:Int) (s:Semtypebase_Source)=>(g,m,s)) (fun (g:List Val) (s:Semtypebase_Source)=>(g,s)) (fun j g=>g.length=j/\a1o g=true/\v8 g<=j*hb h) 4
   (by
     intro j m g s hj hm ⟨i1,i2,i3⟩ hs
     obtain ⟨v,t,e,ht,k1,k2⟩:=hv s hs
     refine ⟨g++[v],t,?_,ht,by simp [i1],by rw [b5I,i2]; simp [a1o,k1],?_⟩
     ·unfold a1L
      simp only [V6,v7]
      rw [if_pos (decide_eq_true (by omega)),w1,e]
      simp only [Option.bind_some]
      rw [b8m _ (by simp; omega) _ (by omega),wn m (by omega)]
      rfl
     ·rw [a1s]
      simp only [v8,Nat.add_mul]
      omega)
   (by
     intro g s
     unfold a1L
     simp) m 0 (m+2) [] t3 (by omega) (by omega) ⟨rfl,rfl,by simp [v8]⟩ ht3
  simp only [Int.toNat_natCast]
  rw [e4]
  simp only [Option.bind_some]
  rw [Nat.zero_add] at i1 i3
  have hmb:m*hb h<=3*hb h:=Nat.mul_le_mul_right _ (by omega)
  unfold a3T a1l
  rw [b8m _ (by simp; omega) _ (by omega)]
  refine ⟨Val.mk 6 0 (⟨#[]⟩) g [] [] [],s1,rfl,hs1,?_,?_⟩
  ·rw [c1W,i2]
   simp
   omega
  ·rw [V7]
   simp only [a3j,w7,Z0]
   omega
theorem c9R (hL:L.length<=4194304):∀ (h k:Nat),h<=3->50000+3*h<=k->∀ s,OS L s->∃ v t,(j7 k).1 s ((h:Int)+1)=some (v,t)/\OS L t/\c3Y (hb h) v:=by
 intro h
 induction h using Nat.strongRecOn with
 | ind h ih =>
   intro k hh hk s hs
   obtain ⟨k,rfl⟩:∃ m,k=m+2:=⟨k-2,by omega⟩
   have key:∃ v t,(j7 (k+1)).2.1 s ((h:Int)+1)=some (v,t)/\OS L t/\vOK v=true/\k8 v+8<=hb h:=by
    show ∃ v t,a0X k (j7 k).1 (j7 k).2.1 (j7 k).2.2 s ((h:Int)+1)=some (v,t)/\_
    cases h with
    | zero =>
      obtain ⟨v,t,e,ht,h1,h2⟩:=b4L hL hs
      refine ⟨v,t,?_,ht,h1,by simp only [hb]; omega⟩
      unfold a0X
      have e0:decide (((0:Nat):Int)+1<=1)=true:=rfl
      rw [e0,e]
      rfl
    | succ h =>
      have:=c7O hL (h:=h) (by omega) (rv:=(j7 k).1) (re:=(j7 k).2.2) (fun s hs=>ih h (by omega) k (by omega) (by omega) s hs)
       (fun h1 s hs=>by
         obtain ⟨h,rfl⟩:∃ m,h=m+1:=⟨h-1,by omega⟩
         obtain ⟨v,t,e,ht,k1,k2⟩:=ih h (by omega) k (by omega) (by omega) s hs
         exact ⟨v,t,e,ht,k1,by simp only [hb]; omega⟩)
       (fun n hn s hs=>by
         obtain ⟨p,rfl⟩:∃ m,k=m+1:=⟨k-1,by omega⟩
         have hb1:=c9w (show h<=2 by omega)
         have hb2:=c6D h
         exact c6Q hL (rv:=(j7 p).1) (b:=hb h) (fun s hs=>ih h (by omega) p (by omega) (by omega) s hs) (by omega) (by omega) (j7 p).2.1 (j7 p).2.2 p hn hs)
       (j7 k).2.1 (fuel:=k) (by omega) hs
      rw [show (((h+1:Nat):Int))+1=(h:Int)+2 by omega]
      exact this
   obtain ⟨v,t,e,ht,h1,h2⟩:=key
   obtain ⟨l,t2,e2,ht2,l1,l2⟩:=b1h hL ht
   show ∃ v t,a3E (k+1) (j7 (k+1)).1 (j7 (k+1)).2.1 (j7 (k+1)).2.2 s ((h:Int)+1)=some (v,t)/\_
   unfold a3E
   rw [e]
   simp only [Option.bind_some]
   rw [e2]
   have:=a61 v l
   exact ⟨a7C v l,t2,rfl,ht2,a93 h1 l1,by omega⟩
end
end Go.Pl
end
section
namespace Go.Pl
open Go Go.RowKit Go.Sx Go.Qx
def b3S {α:Type}(c:α->α->Int)(q:α->Bool)(l:List α)(i:Nat):Bool :=
 match l[i]? with
 | some x=>q x&&(match i with
   | 0=>true
   | j+1=>match l[j]? with
     | some y=>decide (c y x<0)
     | none=>true)
 | none=>true
theorem c35 {α:Type}(c:α->α->Int)(q:α->Bool)(l:List α):(List.range l.length).all (b3S c q l)=(asc c l&&l.all q):=by
 rw [Bool.eq_iff_iff,Bool.and_eq_true,b1v,List.all_eq_true,List.all_eq_true]
 constructor
 ·intro h
  refine ⟨fun i h1 hi=>?_,fun x hx=>?_⟩
  ·obtain ⟨j,rfl⟩:∃ m,i=m+1:=⟨i-1,by omega⟩
   have:=h (j+1) (by simpa using hi)
   unfold b3S at this
   rw [List.getElem?_eq_getElem hi] at this
   simp only [Bool.and_eq_true] at this
   have h2:=this.2
   rw [List.getElem?_eq_getElem (show j<l.length by omega)] at h2
   simpa using h2
  ·obtain ⟨i,hi,rfl⟩:=List.getElem_of_mem hx
   have:=h i (by simpa using hi)
   unfold b3S at this
   rw [List.getElem?_eq_getElem hi] at this
   simp only [Bool.and_eq_true] at this
   exact this.1
 ·intro ⟨h1,h2⟩ i hi
  have hi:i<l.length:=by simpa using hi
  unfold b3S
  rw [List.getElem?_eq_getElem hi]
  simp only [Bool.and_eq_true]
  refine ⟨h2 _ (List.getElem_mem hi),?_⟩
  cases i with
  | zero=>rfl
  | succ j =>
    simp only
    rw [List.getElem?_eq_getElem (show j<l.length by omega)]
    have:=h1 (j+1) (by omega) hi
    simpa using this
theorem b8n {α β:Type}{step:Int->Option (Fl Int (Sum Unit β))}(c:α->α->Int)(q:α->Bool)(l:List α)(b:β)
 (hst:∀ (i:Nat) (x:α),l[i]?=some x->step (i:Int)=some (if b3S c q l i=true then .next ((i+1:Nat):Int) else .done (.inr b)))
 (hend:step (l.length:Int)=some (.done (.inl ()))):z7 step (l.length+1) 0=some (if (asc c l&&l.all q)=true then .inl () else .inr b):=by
 have:=J4 (step:=step) (List.range l.length) (b3S c q l) (fun i=>(i:Int)) () b (fun i x hx=>by
  have hi:i<l.length:=by have:=(List.getElem?_eq_some_iff.1 hx).1; simpa using this
  have e:x=i:=by
   rw [List.getElem?_range hi] at hx
   cases hx; rfl
  subst e
  exact hst x _ (List.getElem?_eq_getElem hi)) (by rw [List.length_range]; exact hend)
 rw [List.length_range,c35] at this
 exact this
theorem b4t {α:Type}(c:α->α->Int)(q:α->Bool)(l:List α)(i:Nat)(x:α)(hx:l[i]?=some x)(hl:l.length<=4194304){o:Option (Fl Int (Sum Unit Bool))}
 (h0:q x=false->o=some (.done (.inr false)))
 (h1:q x=true->i=0->o=some (.next (w64 ((i:Int)+1))))
 (h2:q x=true->∀ j y,i=j+1->l[j]?=some y->idx l (w64 ((i:Int)-1))=some y->o=some (if c y x<0 then .next (w64 ((i:Int)+1)) else .done (.inr false))) :
 o=some (if b3S c q l i=true then .next ((i+1:Nat):Int) else .done (.inr false)):=by
 have hi:i<l.length:=(List.getElem?_eq_some_iff.1 hx).1
 have hw:=j5 i (by omega)
 unfold b3S
 rw [hx]
 cases hq:q x
 ·rw [h0 hq]; simp [hq]
 ·cases i with
  | zero=>rw [h1 hq rfl,hw]; simp [hq]
  | succ j =>
    have hy:=List.getElem?_eq_getElem (show j<l.length by omega)
    have hj:w64 (((j+1:Nat):Int)-1)=(j:Int):=by rw [K2 (by omega) (by omega)]; omega
    rw [h2 hq j _ rfl hy (by rw [hj]; exact y4 hy),hw]
    simp only [hy]
    by_cases hc:c l[j] x<0<;>simp [hq,hc]
theorem c61 (a b:ByteArray):a2S a b=decide (cS a b<0):=by
 rcases a8x a b with ⟨h,_,e⟩ | ⟨h,_,e⟩ | ⟨h,_,e⟩<;>simp [h,e]
theorem c3h (i:Nat):decide (0<(((i+1:Nat)):Int))=true:=decide_eq_true (by omega)
theorem c4C (l:List Val):(bif ((l.length:Int)==2) then Option.bind (idx l 1) fun x=>Option.bind (bif (x.Kind==5) then some true else Option.bind (idx l 1) fun y=>some (y.Kind==7)) fun q=>some q else some false)=some (b0m l):=by
 unfold b0m
 match l with
 | []=>rfl
 | [_]=>rfl
 | [x,t] =>
   have e2:((([x,t]:List Val).length:Int)==2)=true:=rfl
   rw [e2]
   have:idx [x,t] 1=some t:=rfl
   simp only [cond_true,this,Option.bind_some]
   cases t.Kind==5<;>rfl
 | _::_::_::r =>
   rename_i a b c
   have:((((a::b::c::r:List Val)).length:Int)==2)=false:=by simp; omega
   rw [this]; rfl
theorem c4n (fuel:Nat)(v:Val)(hf:2*k8 v<=fuel+2)(hb:k8 v<=4194304):a6f fuel v=some (a2e v):=by
 have he:=a02 v
 have hs:=a4t v.Labels
 have hk:=a5D v.Keys
 have hn:=a3k v.Entries
 have l1:z7 (a4H v) (v.Labels.length+1) 0=some (if (asc cS v.Labels&&v.Labels.all a6e)=true then .inl () else .inr false):=by
  refine b8n cS a6e v.Labels false ?_ ?_
  ·intro i x hx
   have hi:i<v.Labels.length:=(List.getElem?_eq_some_iff.1 hx).1
   unfold a4H
   simp only [V6,v7]
   rw [if_pos (by simp; omega),y4 hx]
   simp only [Option.bind_some,b91]
   refine b4t cS a6e v.Labels i x hx (by omega) (fun h=>by rw [h]; rfl) (fun h h0=>by subst h0; rw [h]; rfl) (fun h j y hj hy hiy=>?_)
   subst hj
   rw [h,hiy,c3h]
   simp only [Bool.not_true,Bool.false_eq_true,if_false,if_true,Option.bind_some]
   rw [c61]
   by_cases hc:cS y x<0<;>simp [hc]
  ·unfold a4H
   simp
 have l2:z7 (a4L v) (v.Keys.length+1) 0=some (if (asc cK v.Keys&&v.Keys.all Y9)=true then .inl () else .inr false):=by
  refine b8n cK Y9 v.Keys false ?_ ?_
  ·intro i x hx
   have hi:i<v.Keys.length:=(List.getElem?_eq_some_iff.1 hx).1
   unfold a4L
   simp only [V6,v7]
   rw [if_pos (by simp; omega),y4 hx]
   simp only [Option.bind_some,b5B]
   refine b4t cK Y9 v.Keys i x hx (by omega) (fun h=>by rw [h]; rfl) (fun h h0=>by subst h0; rw [h]; rfl) (fun h j y hj hy hiy=>?_)
   subst hj
   rw [h,hiy,c3h]
   simp only [Bool.not_true,Bool.false_eq_true,if_false,if_true,Option.bind_some,a7O]
   by_cases hc:cK y x<0
   ·have:¬ 0<=cK y x:=by omega
    simp [hc,this]
   ·have:0<=cK y x:=by omega
    simp [hc,this]
  ·unfold a4L
   simp
 have l3:z7 (a4M v fuel) (v.Entries.length+1) 0=some (if (asc cE v.Entries&&v.Entries.all (a2V v.Int_))=true then .inl () else .inr false):=by
  refine b8n cE (a2V v.Int_) v.Entries false ?_ ?_
  ·intro i x hx
   have hi:i<v.Entries.length:=(List.getElem?_eq_some_iff.1 hx).1
   have hm:=X7 (List.mem_of_getElem? hx)
   have hbe:=a1k x
   unfold a4M a3Z
   simp only [V6,v7]
   rw [if_pos (by simp; omega),y4 hx]
   simp only [Option.bind_some]
   rw [show Val.mk 0 0 (⟨#[]⟩:ByteArray) ([]:List Val) ([]:List Key) ([]:List Ent) ([]:List ByteArray)=a6G from rfl,(a5L fuel).1 x.Result a6G (by omega) (by omega)]
   simp only [Option.bind_some]
   have hq:(Option.bind (if ((x.Args.length:Int) != v.Int_)=true then some true else Option.bind (if x.Fails=true then some (!(cV x.Result a6G==0)) else some false) fun q=>some q) fun q=>some q)=some (!(a2V v.Int_ x)):=by
    unfold a2V
    have e0:((x.Args.length:Int) != v.Int_)=!((x.Args.length:Int)==v.Int_):=rfl
    rw [e0]
    cases ((x.Args.length:Int)==v.Int_)<;>cases x.Fails<;>cases (cV x.Result a6G==0)<;>rfl
   rw [a0Y] at hq
   simp only [a0Y] at hq ⊢
   rw [hq]
   simp only [Option.bind_some]
   refine b4t cE (a2V v.Int_) v.Entries i x hx (by omega) (fun h=>by rw [h]; rfl) (fun h h0=>by subst h0; rw [h]; rfl) (fun h j y hj hy hiy=>?_)
   subst hj
   have hmy:=X7 (List.mem_of_getElem? hy)
   have hc:Z8 fuel y x=some (cE y x):=(a5L fuel).2.2 y x (by omega) (by omega)
   rw [h,hiy,c3h]
   simp only [Bool.not_true,Bool.false_eq_true,if_false,if_true,Option.bind_some,hc]
   by_cases hc:cE y x<0
   ·have:¬ 0<=cE y x:=by omega
    simp [hc,this]
   ·have:0<=cE y x:=by omega
    simp [hc,this]
  ·unfold a4M
   simp
 unfold a6f
 simp only [w4,a0Y]
 rw [l1,l2,l3,b3w]
 have hcons:=c4C v.Kids
 simp only [a0Y] at hcons
 rw [hcons]
 simp only [Option.bind_some,b67]
 unfold a2e a04
 cases hlab:(asc cS v.Labels&&v.Labels.all a6e)
 ·rfl
 have h6:decide ((v.Kids.length:Int)<=4)=decide (v.Kids.length<=4):=by
  by_cases h:v.Kids.length<=4
  ·simp [h]; omega
  ·simp [h]; omega
 have hm:a75 v=(decide (v.Keys.length=v.Kids.length)&&(asc cK v.Keys&&v.Keys.all Y9)):=by
  unfold a75
  by_cases h:v.Keys.length=v.Kids.length<;>simp [h]
 have hm2:((v.Keys.length:Int)==(v.Kids.length:Int))=decide (v.Keys.length=v.Kids.length):=by
  by_cases h:v.Keys.length=v.Kids.length
  ·simp [h]
  ·simp [h]; omega
 have hfu:b3j v=(!decide (v.Int_<0)&&!decide (4<v.Int_)&&(asc cE v.Entries&&v.Entries.all (a2V v.Int_))):=by
  unfold b3j
  by_cases h1:v.Int_<0<;>by_cases h2:4<v.Int_
  ·omega
  ·have:¬ 0<=v.Int_:=by omega
   simp [h1,this]
  ·have:¬ v.Int_<=4:=by omega
   simp [h2,this]
  ·have a:0<=v.Int_:=by omega
   have b:v.Int_<=4:=by omega
   simp [h1,h2,a,b]
 have hi:(v.Int_ != 0)=!(v.Int_==0):=rfl
 rw [hm2,hi,h6]
 simp only [j9,if_true]
 unfold a3J a4G
 rw [hm,hfu]
 generalize (asc cE v.Entries&&v.Entries.all (a2V v.Int_))=f
 generalize (asc cK v.Keys&&v.Keys.all Y9)=k
 generalize decide (v.Keys.length=v.Kids.length)=m
 generalize decide (v.Int_<0)=p
 generalize decide (4<v.Int_)=r
 generalize Q4 v.Text ⟨#[]⟩=t
 generalize v.Keys.isEmpty=y
 generalize v.Entries.isEmpty=e
 generalize v.Kids.isEmpty=d
 generalize (v.Int_==0)=i
 generalize a4D v.Text=a
 generalize decide ((v.Text.size:Int)<=64)=z
 generalize b0m v.Kids=c
 generalize decide (0<=v.Int_)=g
 generalize decide (v.Kids.length<=4)=n
 by_cases hk:v.Kind=1\/v.Kind=2\/v.Kind=3\/v.Kind=4\/v.Kind=5\/v.Kind=6\/v.Kind=7\/v.Kind=8\/v.Kind=9
 ·rcases hk with h | h | h | h | h | h | h | h | h<;>rw [h]<;>cases i<;>cases t<;>cases d<;>cases y<;>cases e<;>simp
  all_goals first
   | rfl
   | (cases k<;>cases m<;>simp)
   | (cases p<;>cases r<;>cases f<;>simp)
 ·simp only [not_or] at hk
  obtain ⟨h1,h2,h3,h4,h5,h6',h7,h8,h9⟩:=hk
  have e1:(v.Kind==1)=false:=by simpa using h1
  have e2:(v.Kind==2)=false:=by simpa using h2
  have e3:(v.Kind==3)=false:=by simpa using h3
  have e4:(v.Kind==4)=false:=by simpa using h4
  have e5:(v.Kind==5)=false:=by simpa using h5
  have e6:(v.Kind==6)=false:=by simpa using h6'
  have e7:(v.Kind==7)=false:=by simpa using h7
  have e8:(v.Kind==8)=false:=by simpa using h8
  have e9:(v.Kind==9)=false:=by simpa using h9
  simp only [bne,e1,e2,e3,e4,e5,e6,e7,e8,e9,if_neg h1,if_neg h2,if_neg h3,if_neg h4,if_neg h5,if_neg h6',if_neg h7,if_neg h8,if_neg h9]
  cases i<;>cases t<;>cases d<;>cases y<;>cases e<;>rfl
theorem b2h:∀ (k:Nat) (v:Val),2*k8 v<=k->k8 v<=4194304->X9 k v=some (vOK v)
 | 0,v,h,_=>by have:=a8q v; omega
 | k+1,v,h,hb=>by
   have he:=a02 v
   have hv:=a15 v.Kids
   have hn:=a3k v.Entries
   have hrec:∀ x,k8 x<k8 v->X9 k x=some (vOK x):=fun x hx=>b2h k x (by omega) (by omega)
   show a6z k (X9 k) v=_
   unfold a6z
   rw [c4n k v (by omega) hb,b7B,a4B,a8c]
   simp only [Option.bind_some,w4]
   have l1:z7 (a4g v (X9 k)) (v.Kids.length+1) 0=some (if v.Kids.all vOK=true then .inl () else .inr false):=by
    refine J4 v.Kids vOK (fun i=>(i:Int)) () false ?_ ?_
    ·intro i x hx
     have hi:i<v.Kids.length:=(List.getElem?_eq_some_iff.1 hx).1
     have hm:=a0N (List.mem_of_getElem? hx)
     unfold a4g
     simp only [v7]
     rw [show decide ((i:Int)<(v.Kids.length:Int))=true by simp; omega,y4 hx]
     simp only [cond_true,Option.bind_some]
     rw [hrec x (by omega),j5 i (by omega)]
     exact a3B _ _
    ·unfold a4g
     simp
   have l2:z7 (a4j v (X9 k)) (v.Entries.length+1) 0=some (if v.Entries.all eOK=true then .inl () else .inr false):=by
    refine J4 v.Entries eOK (fun i=>(i:Int)) () false ?_ ?_
    ·intro i x hx
     have hi:i<v.Entries.length:=(List.getElem?_eq_some_iff.1 hx).1
     have hm:=X7 (List.mem_of_getElem? hx)
     have hbe:=a1k x
     have hal:=a15 x.Args
     unfold a4j
     simp only [v7,w4]
     rw [show decide ((i:Int)<(v.Entries.length:Int))=true by simp; omega,y4 hx]
     simp only [cond_true,Option.bind_some]
     have l3:z7 (a4b (X9 k) x) (x.Args.length+1) 0=some (if x.Args.all vOK=true then .inl () else .inr false):=by
      refine J4 x.Args vOK (fun i=>(i:Int)) () false ?_ ?_
      ·intro j y hy
       have hj:j<x.Args.length:=(List.getElem?_eq_some_iff.1 hy).1
       have hmy:=a0N (List.mem_of_getElem? hy)
       unfold a4b
       simp only [v7]
       rw [show decide ((j:Int)<(x.Args.length:Int))=true by simp; omega,y4 hy]
       simp only [cond_true,Option.bind_some]
       rw [hrec y (by omega),j5 j (by omega)]
       exact a3B _ _
      ·unfold a4b
       simp
     rw [l3,hrec x.Result (by omega),b4q,a4B,j5 i (by omega)]
     simp only [Option.bind_some]
     cases x.Args.all vOK<;>cases x.Fails<;>cases vOK x.Result<;>rfl
    ·unfold a4j
     simp
   rw [l1,l2]
   cases a2e v<;>cases v.Kids.all vOK<;>cases v.Entries.all eOK<;>rfl
end Go.Pl
end

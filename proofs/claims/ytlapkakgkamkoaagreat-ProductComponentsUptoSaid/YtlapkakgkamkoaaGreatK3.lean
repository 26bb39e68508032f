/- Part 3. -/
import Derived.Test.YtlapkakgkamkoaaGreatK2
import Derived.KernelRfl
import Derived.Lib.Bytealg
section
namespace Go.Qx
open Go Go.RowKit Go.Sx
set_option maxRecDepth 100000
structure Api_Field where
 Key_:Key
 Node:Int
 Optional:Bool
structure Api_TypeNode where
 Kind:Int
 Lo:Int
 Hi:Int
 Text:ByteArray
 Kids:List Int
 Fields:List Api_Field
 Rest:Int×Int
structure Api_Type where
 Nodes:List Api_TypeNode
 Root:Int
structure Api_Names where
 Cofinite:Bool
 List_:List ByteArray
structure Api_Range where
 Lo:Int
 Hi:Int
structure Api_Line where
 Kind:Int
 Arity:Int
 Ints:List Api_Range
 Names:Api_Names
 Pos:List Int
 Neg:List Int
 Vars:List ByteArray
 NotVars:List ByteArray
structure Semtypebase_Source where
 L:List Int
 At:Int
structure Api_Goal where
 Pos:List Int
 Neg:List Int
 Lists:Bool
structure Api_Box where
 Parts:List Api_Goal
structure Value_used where
 number:Bool
 text_:Bool
 kids:Bool
 keys:Bool
 entries:Bool
def a7k (x y:Int×Int):Bool:=((x.1==y.1)&&((x.2==y.2)&&true))
def a3n (x y:Key):Bool:=((x.Kind==y.Kind)&&((Q4 x.Text y.Text)&&true))
def a16 (l:List (List Int))(x1:Int):Option (Fl Int (Sum Unit Bool)) :=
 bif decide (x1<(l.length:Int))
 then (Option.bind (idx l x1) fun e2 =>
 bif decide (80<(e2.length:Int))
 then (some (.done (.inr false)))
 else (some (.next (wr .i64 (x1+1)))))
 else (some (.done (.inl ())))
def a4G (l:List (List Int)):Option Bool :=
 Option.bind (y4 (a16 l) ((l.length:Int).toNat+1) 0) fun b3 =>
 k7 (fun _ =>
 some true) (fun y5 =>
 some y5) b3
def a1t (s:List (List Int))(f:(List Int)->Option Bool)(x1:Int):Option (Fl Int (Sum Unit Int)) :=
 bif decide (x1<(s.length:Int))
 then (Option.bind (idx s x1) fun e2 =>
 Option.bind (f e2) fun r3 =>
 bif r3
 then (some (.done (.inr x1)))
 else (some (.next (wr .i64 (x1+1)))))
 else (some (.done (.inl ())))
def a3R (s:List (List Int))(f:(List Int)->Option Bool):Option Int :=
 Option.bind (y4 (a1t s f) ((s.length:Int).toNat+1) 0) fun b4 =>
 k7 (fun _ =>
 some (-1)) (fun y6 =>
 some y6) b4
def a1A (s:List (List Int))(f:(List Int)->Option Bool):Option Bool :=
 Option.bind (a3R s f) fun r1 =>
 some (decide (0<=r1))
def a9e (r:List Int)(a1_1:Int):Option Bool :=
 some ((r.length:Int) != a1_1)
def a5o (width:Int)(rows:List (List Int)):Option Bool :=
 Option.bind (a1A rows (fun z1 =>
 Option.bind (a9e z1 width) fun r2 =>
 some r2)) fun r3 =>
 some (!r3)
def a1J (s:List Int)(f:Int->Option Bool)(x1:Int):Option (Fl Int (Sum Unit Int)) :=
 bif decide (x1<(s.length:Int))
 then (Option.bind (idx s x1) fun e2 =>
 Option.bind (f e2) fun r3 =>
 bif r3
 then (some (.done (.inr x1)))
 else (some (.next (wr .i64 (x1+1)))))
 else (some (.done (.inl ())))
def a4f (s:List Int)(f:Int->Option Bool):Option Int :=
 Option.bind (y4 (a1J s f) ((s.length:Int).toNat+1) 0) fun b4 =>
 k7 (fun _ =>
 some (-1)) (fun y6 =>
 some y6) b4
def Y9 (s:List Int)(f:Int->Option Bool):Option Bool :=
 Option.bind (a4f s f) fun r1 =>
 some (decide (0<=r1))
def a2H (s:List Int)(v:Int)(x1:Int):Option (Fl Int (Sum Unit Int)) :=
 bif decide (x1<(s.length:Int))
 then (Option.bind (idx s x1) fun e2 =>
 bif v==e2
 then (some (.done (.inr x1)))
 else (some (.next (wr .i64 (x1+1)))))
 else (some (.done (.inl ())))
def a5P (s:List Int)(v:Int):Option Int :=
 Option.bind (y4 (a2H s v) ((s.length:Int).toNat+1) 0) fun b3 =>
 k7 (fun _ =>
 some (-1)) (fun y5 =>
 some y5) b3
def a2O (s:List Int)(v:Int):Option Bool :=
 Option.bind (a5P s v) fun r1 =>
 some (decide (0<=r1))
def a8s (x:Int)(a1_1:List Int):Option Bool :=
 Option.bind (a2O a1_1 x) fun r1 =>
 some r1
def a7w (a:List Int)(b:List Int):Option Bool :=
 Option.bind (Y9 a (fun z1 =>
 Option.bind (a8s z1 b) fun r2 =>
 some r2)) fun r3 =>
 some r3
def a0r (x1:(List Int)×Int)(x16:(Int×Int)×List Int):Option (Fl ((Int×Int)×List Int) (Int×List Int)) :=
 bif decide (x16.1.2<((x16.2.drop x1.2.toNat).length:Int))
 then (Option.bind (idx (x16.2.drop x1.2.toNat) x16.1.2) fun _ =>
 Option.bind (x16.2[(x1.2.toNat+x16.1.2.toNat)]?) fun e18 =>
 Option.bind (idx (x16.2.drop x1.2.toNat) (wr .i64 (x16.1.2-1))) fun _ =>
 Option.bind (x16.2[(x1.2.toNat+(wr .i64 (x16.1.2-1)).toNat)]?) fun e20 =>
 bif e18 != e20
 then (Option.bind (idx (x16.2.drop x1.2.toNat) x16.1.2) fun _ =>
 Option.bind (x16.2[(x1.2.toNat+x16.1.2.toNat)]?) fun e22 =>
 Option.bind (idx x16.2 x16.1.1) fun _ =>
 Option.bind (x16.2[x16.1.1.toNat]?) fun _ =>
 some (.next ((wr .i64 (x16.1.1+1),wr .i64 (x16.1.2+1)),x16.2.set x16.1.1.toNat e22)))
 else (some (.next ((x16.1.1,wr .i64 (x16.1.2+1)),x16.2))))
 else (some (.done (x16.1.1,x16.2)))
def a08 (x1:(List Int)×Int):Option (Fl ((List Int)×Int) (Sum (List Int) (List Int))) :=
 bif decide (x1.2<(x1.1.length:Int))
 then (Option.bind (idx x1.1 x1.2) fun _ =>
 Option.bind (x1.1[x1.2.toNat]?) fun e3 =>
 Option.bind (idx x1.1 (wr .i64 (x1.2-1))) fun _ =>
 Option.bind (x1.1[(wr .i64 (x1.2-1)).toNat]?) fun e5 =>
 bif e3==e5
 then (Option.bind (idx x1.1 x1.2) fun _ =>
 Option.bind (y4 (a0r x1) (((x1.1.drop x1.2.toNat).length:Int).toNat+1) ((x1.2,1),x1.1)) fun b25 =>
 Option.bind (idx b25.2 b25.1) fun _ =>
 bif Nat.blt b25.1.toNat b25.2.length
 then (Option.bind (cut (b25.2.take b25.1.toNat++List.replicate (b25.2.length-b25.1.toNat) (0:Int)) 0 b25.1) fun y27 =>
 some (.done (.inr y27)))
 else (none))
 else (some (.next (x1.1,wr .i64 (x1.2+1)))))
 else (some (.done (.inl x1.1)))
def a20 (s:List Int):Option (List Int) :=
 bif decide ((s.length:Int)<2)
 then (some s)
 else (Option.bind (y4 a08 ((s.length:Int).toNat+1) (s,1)) fun b28 =>
 k7 (fun x29 =>
 some x29) (fun y30 =>
 some y30) b28)
def a6d (s:List Int):Option (List Int) :=
 bif (s.length:Int)==(s.length:Int)&&(s.length:Int)==(s.length:Int)
 then (some s)
 else (none)
def a7g (l:List Int):Option (List Int) :=
 Option.bind (a4E 8 l) fun r1 =>
 Option.bind (c0y r1) fun r2 =>
 Option.bind (a20 r2.2) fun r3 =>
 Option.bind (a6d r3) fun r4 =>
 some r4
def a9B (g:Api_Goal):Option Api_Goal :=
 Option.bind (a7g g.Pos) fun r1 =>
 Option.bind (a7g g.Neg) fun r2 =>
 some (Api_Goal.mk r1 r2 g.Lists)
def a5x (t:List (List Int))(x1:Int×(List Api_Goal)×(List Api_Goal))(x2:Int×((List Int)×(List Int)×Bool)):Option (Fl (Int×((List Int)×(List Int)×Bool)) ((List Int)×(List Int)×Bool)) :=
 bif decide (x2.1<(t.length:Int))
 then (Option.bind (idx t x2.1) fun e3 =>
 Option.bind (idx e3 x1.1) fun e4 =>
 Option.bind (Y1 (x2.2.1.length+([e4]:List Int).length) 8) fun _ =>
 some (.next (wr .i64 (x2.1+1),(x2.2.1++([e4]:List Int),x2.2.2.1,x2.2.2.2))))
 else (some (.done (x2.2.1,x2.2.2.1,x2.2.2.2)))
def a5s (a2_2:List (List Int))(a3_3:List (List Int))(a4_4:List Int)(x1:Int×(List Api_Goal)×(List Api_Goal))(x7:Int×((List Int)×(List Int)×Bool)):Option (Fl (Int×((List Int)×(List Int)×Bool)) ((List Int)×(List Int)×Bool)) :=
 bif decide (x7.1<(a2_2.length:Int))
 then (Option.bind (idx a2_2 x7.1) fun e8 =>
 Option.bind (idx a3_3 x7.1) fun e9 =>
 Option.bind (idx a4_4 x7.1) fun _ =>
 Option.bind (a4_4[x7.1.toNat]?) fun e11 =>
 Option.bind (idx e9 e11) fun e12 =>
 bif e12==x1.1
 then (Option.bind (idx e8 x1.1) fun e13 =>
 Option.bind (Y1 (x7.2.2.1.length+([e13]:List Int).length) 8) fun _ =>
 some (.next (wr .i64 (x7.1+1),(x7.2.1,x7.2.2.1++([e13]:List Int),x7.2.2.2))))
 else (some (.next (wr .i64 (x7.1+1),(x7.2.1,x7.2.2.1,x7.2.2.2)))))
 else (some (.done (x7.2.1,x7.2.2.1,x7.2.2.2)))
def a2U (d:Int)(t:List (List Int))(a2_2:List (List Int))(a3_3:List (List Int))(a4_4:List Int)(x1:Int×(List Api_Goal)×(List Api_Goal)):Option (Fl (Int×(List Api_Goal)×(List Api_Goal)) (Sum ((List Api_Goal)×(List Api_Goal)) (Bool×(List Api_Goal)×Unit))) :=
 bif decide (x1.1<d)
 then (Option.bind (y4 (a5x t x1) ((t.length:Int).toNat+1) (0,([],[],false))) fun b6 =>
 Option.bind (y4 (a5s a2_2 a3_3 a4_4 x1) ((a2_2.length:Int).toNat+1) (0,(b6.1,b6.2.1,b6.2.2))) fun b15 =>
 Option.bind (a7w b15.1 b15.2.1) fun r16 =>
 bif r16
 then (some (.done (.inr (false,x1.2.2,()))))
 else (Option.bind (a9B (Api_Goal.mk b15.1 b15.2.1 b15.2.2)) fun r17 =>
 Option.bind (Y1 (x1.2.2.length+([r17]:List Api_Goal).length) 56) fun _ =>
 some (.next (wr .i64 (x1.1+1),x1.2.1,x1.2.2++([r17]:List Api_Goal)))))
 else (some (.done (.inl (x1.2.1,x1.2.2))))
def a9I (d:Int)(t:List (List Int))(a2_2:List (List Int))(a3_3:List (List Int))(a4_4:List Int):Option ((List Api_Goal)×Bool) :=
 Option.bind (y4 (a2U d t a2_2 a3_3 a4_4) (d.toNat+1) (0,[],[])) fun (b19:Sum ((List Api_Goal)×(List Api_Goal)) (Bool×(List Api_Goal)×Unit)) =>
 k7 (fun x20 =>
 some (x20.2,true)) (fun y21 =>
 some (y21.2.1,y21.1)) b19
def a8a (a0:Int)(a1:List (List Int))(a2:List (List Int))(a3:List (List Int))(a4:List Int):Option (Api_Box×Bool) :=
 Option.bind (a9I a0 a1 a2 a3 a4) fun q=>some (Api_Box.mk q.1,q.2)
def a3e (g:Api_Goal):Api_Goal:=Api_Goal.mk g.Pos g.Neg true
def a1M (b:Api_Box):Api_Box:=match b.Parts with
 | d0::d1::r=>Api_Box.mk (d0::a3e d1::r)
 | _=>b
def a57 (b:Api_Box):Bool:=Nat.ble 2 b.Parts.length
def a0d (digits:List Int)(options:List (List Int))(x11:Int×List Int):Option (Fl (Int×List Int) (Sum (Unit×List Int) (Bool×List Int))) :=
 bif decide (x11.1<(digits.length:Int))
 then (Option.bind (idx x11.2 x11.1) fun _ =>
 Option.bind (x11.2[x11.1.toNat]?) fun e13 =>
 Option.bind (idx x11.2 x11.1) fun _ =>
 Option.bind (x11.2[x11.1.toNat]?) fun _ =>
 Option.bind (idx (x11.2.set x11.1.toNat (wr .i64 (e13+1))) x11.1) fun _ =>
 Option.bind ((x11.2.set x11.1.toNat (wr .i64 (e13+1)))[x11.1.toNat]?) fun e17 =>
 Option.bind (idx options x11.1) fun e18 =>
 bif decide (e17<(e18.length:Int))
 then (some (.done (.inr (true,x11.2.set x11.1.toNat (wr .i64 (e13+1))))))
 else (Option.bind (idx (x11.2.set x11.1.toNat (wr .i64 (e13+1))) x11.1) fun _ =>
 Option.bind ((x11.2.set x11.1.toNat (wr .i64 (e13+1)))[x11.1.toNat]?) fun _ =>
 some (.next (wr .i64 (x11.1+1),(x11.2.set x11.1.toNat (wr .i64 (e13+1))).set x11.1.toNat 0))))
 else (some (.done (.inl ((),x11.2))))
def a4H (digits:List Int)(options:List (List Int)):Option (Bool×List Int) :=
 Option.bind (y4 (a0d digits options) ((digits.length:Int).toNat+1) (0,digits)) fun (b21:Sum (Unit×List Int) (Bool×List Int)) =>
 k7 (fun x22 =>
 some (false,x22.2)) (fun y23 =>
 some (y23.1,y23.2)) b21
def a4b (a3_3:Int->Option Bool)(x7:Int×List (List Int))(e8:List Int)(x9:Int×List (List Int)):Option (Fl (Int×List (List Int)) (Unit×List (List Int))) :=
 bif decide (x9.1<(e8.length:Int))
 then (Option.bind (idx e8 x9.1) fun e10 =>
 Option.bind (a3_3 e10) fun r11 =>
 bif r11
 then (Option.bind (idx x9.2 x7.1) fun _ =>
 Option.bind (x9.2[x7.1.toNat]?) fun e13 =>
 Option.bind (Y1 (e13.length+([x9.1]:List Int).length) 8) fun _ =>
 Option.bind (idx x9.2 x7.1) fun _ =>
 Option.bind (x9.2[x7.1.toNat]?) fun _ =>
 bif Nat.beq (x7.1.toNat+2) (x7.1.toNat+2)
 then (some (.next (wr .i64 (x9.1+1),x9.2.set x7.1.toNat (e13++([x9.1]:List Int)))))
 else (none))
 else (some (.next (wr .i64 (x9.1+1),x9.2))))
 else (some (.done ((),x9.2)))
def a12 (a2_2:List (List Int))(a3_3:Int->Option Bool)(x7:Int×List (List Int)):Option (Fl (Int×List (List Int)) (Sum (Unit×List (List Int)) ((List Api_Box)×List (List Int)))) :=
 bif decide (x7.1<(a2_2.length:Int))
 then (Option.bind (idx a2_2 x7.1) fun e8 =>
 Option.bind (y4 (a4b a3_3 x7 e8) ((e8.length:Int).toNat+1) (0,x7.2)) fun b17 =>
 Option.bind (idx b17.2 x7.1) fun _ =>
 Option.bind (b17.2[x7.1.toNat]?) fun e19 =>
 bif (e19.length:Int)==0
 then (some (.done (.inr ([],b17.2))))
 else (some (.next (wr .i64 (x7.1+1),b17.2))))
 else (some (.done (.inl ((),x7.2))))
def a4a (d:Int)(t:List (List Int))(a2_2:List (List Int))(x21:Unit×List (List Int))(x24:(List Int)×(List Api_Box)):Option (Fl ((List Int)×(List Api_Box)) ((List Api_Box)×(List Int))) :=
 Option.bind (a8a d t a2_2 x21.2 x24.1) fun r25 =>
 Option.bind (bif r25.2
 then (Option.bind (Y1 (x24.2.length+([r25.1]:List Api_Box).length) 24) fun _ =>
 some (x24.2++([r25.1]:List Api_Box)))
 else (some x24.2)) fun b27 =>
 Option.bind (a4H x24.1 x21.2) fun r28 =>
 bif !r28.1
 then (some (.done (b27,r28.2)))
 else (some (.next (r28.2,b27)))
def a2C (n:Nat)(d:Int)(t:List (List Int))(a2_2:List (List Int))(a3_3:Int->Option Bool):Option (List Api_Box) :=
 Option.bind (bif decide (d<0)
 then (some true)
 else (some (decide (4<d)))) fun q1 =>
 Option.bind (bif q1
 then (some true)
 else (Option.bind (a5o d t) fun r2 =>
 some (!r2))) fun q3 =>
 Option.bind (bif q3
 then (some true)
 else (Option.bind (a5o d a2_2) fun r4 =>
 some (!r4))) fun q5 =>
 bif q5
 then (some ([]))
 else (Option.bind (a6t (a2_2.length:Int) (a2_2.length:Int) 24) fun m6 =>
 Option.bind (y4 (a12 a2_2 a3_3) ((a2_2.length:Int).toNat+1) (0,List.replicate m6 ([]:List Int))) fun (b20:Sum (Unit×List (List Int)) ((List Api_Box)×List (List Int))) =>
 k7 (fun x21 =>
 Option.bind (a6t (a2_2.length:Int) (a2_2.length:Int) 8) fun m23 =>
 Option.bind (y4 (a4a d t a2_2 x21) n (List.replicate m23 (0:Int),[])) fun b29 =>
 some b29.1) (fun y22 =>
 some y22.1) b20)
def b2v (_:Int):Option Bool :=
 some true
def b56 (n:Nat)(width:Int)(pos:List (List Int))(neg:List (List Int)):Option (List Api_Box) :=
 Option.bind (a2C n width pos neg (fun z1 =>
 Option.bind (b2v z1) fun r2 =>
 some r2)) fun r3 =>
 some r3
def X3:Option Val :=
 some (Val.mk 5 0 (⟨#[]⟩:ByteArray) ([]:List Val) ([]:List Key) ([]:List Ent) ([]:List ByteArray))
def a6U (kind:Int):Option (Value_used×Bool) :=
 Option.bind (bif kind==1
 then (some (kind==1))
 else (some (kind==4))) fun b1 =>
 bif b1
 then (some (Value_used.mk true false false false false,true))
 else (Option.bind (bif kind==2
 then (some (kind==2))
 else (some (kind==3))) fun b2 =>
 bif b2
 then (some (Value_used.mk false true false false false,true))
 else (bif kind==5
 then (some (Value_used.mk false false false false false,true))
 else (Option.bind (bif kind==6
 then (some (kind==6))
 else (some (kind==7))) fun b3 =>
 bif b3
 then (some (Value_used.mk false false true false false,true))
 else (bif kind==8
 then (some (Value_used.mk false false true true false,true))
 else (bif kind==9
 then (some (Value_used.mk true false false false true,true))
 else (some (Value_used.mk false false false false false,false)))))))
def a6h (l:List ByteArray)(compare:ByteArray->ByteArray->Option Int)(x1:Int):Option (Fl Int (Sum Unit Bool)) :=
 bif decide (x1<(l.length:Int))
 then (Option.bind (idx l (wr .i64 (x1-1))) fun e2 =>
 Option.bind (idx l x1) fun e3 =>
 Option.bind (compare e2 e3) fun r4 =>
 bif decide (0<=r4)
 then (some (.done (.inr false)))
 else (some (.next (wr .i64 (x1+1)))))
 else (some (.done (.inl ())))
def a4W (l:List ByteArray)(compare:ByteArray->ByteArray->Option Int):Option Bool :=
 Option.bind (y4 (a6h l compare) ((l.length:Int).toNat+1) 1) fun b5 =>
 k7 (fun _ =>
 some true) (fun y7 =>
 some y7) b5
def a2u (a:ByteArray)(b:ByteArray):Option Int :=
 Option.bind (c3e a b) fun r1 =>
 some r1
def a0i (a:ByteArray)(b:ByteArray):Option Int :=
 Option.bind (a2u a b) fun r1 =>
 some r1
def a8m (s:ByteArray)(other:Int->Option Bool)(x5:Int):Option (Fl Int (Sum Unit Bool)) :=
 bif decide (x5<(s.size:Int))
 then (Option.bind (a5H s x5) fun e6 =>
 Option.bind (other (e6.toNat:Int)) fun r7 =>
 bif !r7
 then (some (.done (.inr false)))
 else (some (.next (wr .i64 (x5+1)))))
 else (some (.done (.inl ())))
def a6J (s:ByteArray)(first:Int->Option Bool)(other:Int->Option Bool):Option Bool :=
 Option.bind (bif decide ((s.size:Int)<1)
 then (some true)
 else (some (decide (16<(s.size:Int))))) fun q1 =>
 Option.bind (bif q1
 then (some true)
 else (Option.bind (a5H s 0) fun e2 =>
 Option.bind (first (e2.toNat:Int)) fun r3 =>
 some (!r3))) fun q4 =>
 bif q4
 then (some false)
 else (Option.bind (y4 (a8m s other) ((s.size:Int).toNat+1) 1) fun b8 =>
 k7 (fun _ =>
 some true) (fun y10 =>
 some y10) b8)
def a5U (c:Int):Option Bool :=
 Option.bind (bif decide (65<=c)
 then (some (decide (c<=90)))
 else (some false)) fun q1 =>
 some q1
def a4D (c:Int):Option Bool :=
 Option.bind (bif decide (97<=c)
 then (some (decide (c<=122)))
 else (some false)) fun q1 =>
 some q1
def a5X (c:Int):Option Bool :=
 Option.bind (bif decide (48<=c)
 then (some (decide (c<=57)))
 else (some false)) fun q1 =>
 some q1
def a6K (c:Int):Option Bool :=
 Option.bind (a4D c) fun r1 =>
 Option.bind (bif r1
 then (some true)
 else (Option.bind (a5U c) fun r2 =>
 some r2)) fun q3 =>
 Option.bind (bif q3
 then (some true)
 else (Option.bind (a5X c) fun r4 =>
 some r4)) fun q5 =>
 Option.bind (bif q5
 then (some true)
 else (some (c==95))) fun q6 =>
 some q6
def a2V (s:ByteArray):Option Bool :=
 Option.bind (a6J s (fun z1 =>
 Option.bind (a5U z1) fun r2 =>
 some r2) (fun z3 =>
 Option.bind (a6K z3) fun r4 =>
 some r4)) fun r5 =>
 some r5
def a8x (l:List ByteArray)(x5:Int):Option (Fl Int (Sum Unit Bool)) :=
 bif decide (x5<(l.length:Int))
 then (Option.bind (idx l x5) fun e6 =>
 Option.bind (a2V e6) fun r7 =>
 bif !r7
 then (some (.done (.inr false)))
 else (some (.next (wr .i64 (x5+1)))))
 else (some (.done (.inl ())))
def a48 (l:List ByteArray):Option Bool :=
 Option.bind (a4W l (fun z1 z2 =>
 Option.bind (a0i z1 z2) fun r3 =>
 some r3)) fun r4 =>
 bif !r4
 then (some false)
 else (Option.bind (y4 (a8x l) ((l.length:Int).toNat+1) 0) fun b8 =>
 k7 (fun _ =>
 some true) (fun y10 =>
 some y10) b8)
def a84 (c:Int):Option Bool :=
 Option.bind (a4D c) fun r1 =>
 Option.bind (bif r1
 then (some true)
 else (Option.bind (a5X c) fun r2 =>
 some r2)) fun q3 =>
 Option.bind (bif q3
 then (some true)
 else (some (c==95))) fun q4 =>
 some q4
def a5l (s:ByteArray):Option Bool :=
 Option.bind (a6J s (fun z1 =>
 Option.bind (a4D z1) fun r2 =>
 some r2) (fun z3 =>
 Option.bind (a84 z3) fun r4 =>
 some r4)) fun r5 =>
 some r5
def a5Z (l:List Key)(compare:Key->Key->Option Int)(x1:Int):Option (Fl Int (Sum Unit Bool)) :=
 bif decide (x1<(l.length:Int))
 then (Option.bind (idx l (wr .i64 (x1-1))) fun e2 =>
 Option.bind (idx l x1) fun e3 =>
 Option.bind (compare e2 e3) fun r4 =>
 bif decide (0<=r4)
 then (some (.done (.inr false)))
 else (some (.next (wr .i64 (x1+1)))))
 else (some (.done (.inl ())))
def a4z (l:List Key)(compare:Key->Key->Option Int):Option Bool :=
 Option.bind (y4 (a5Z l compare) ((l.length:Int).toNat+1) 1) fun b5 =>
 k7 (fun _ =>
 some true) (fun y7 =>
 some y7) b5
def a7B (x:Int):Option Bool :=
 some (x != x)
def a0G (x:Int)(y:Int):Option Int :=
 Option.bind (a7B x) fun r1 =>
 Option.bind (a7B y) fun r2 =>
 bif r1
 then (bif r2
 then (some 0)
 else (some (-1)))
 else (bif r2
 then (some 1)
 else (bif decide (x<y)
 then (some (-1))
 else (bif decide (y<x)
 then (some 1)
 else (some 0))))
def X9 (a:Key)(b:Key):Option Int :=
 Option.bind (a0G a.Kind b.Kind) fun r1 =>
 bif r1 != 0
 then (some r1)
 else (Option.bind (a0i a.Text b.Text) fun r2 =>
 some r2)
def a31 (k:Key):Option Bool :=
 bif k.Kind==0
 then (Option.bind (a5l k.Text) fun r1 =>
 some r1)
 else (bif k.Kind==1
 then (some (decide ((k.Text.size:Int)<=64)))
 else (some false))
def b0B (v:Val)(x6:Int):Option (Fl Int (Sum Unit Bool)) :=
 bif decide (x6<(v.Keys.length:Int))
 then (Option.bind (idx v.Keys x6) fun e7 =>
 Option.bind (a31 e7) fun r8 =>
 bif !r8
 then (some (.done (.inr false)))
 else (some (.next (wr .i64 (x6+1)))))
 else (some (.done (.inl ())))
def a6R (v:Val):Option Bool :=
 Option.bind (bif (v.Keys.length:Int) != (v.Kids.length:Int)
 then (some true)
 else (Option.bind (a4z v.Keys (fun z1 z2 =>
 Option.bind (X9 z1 z2) fun r3 =>
 some r3)) fun r4 =>
 some (!r4))) fun q5 =>
 bif q5
 then (some false)
 else (Option.bind (y4 (b0B v) ((v.Keys.length:Int).toNat+1) 0) fun b9 =>
 k7 (fun _ =>
 some true) (fun y11 =>
 some y11) b9)
def a5m (l:List Ent)(compare:Ent->Ent->Option Int)(x1:Int):Option (Fl Int (Sum Unit Bool)) :=
 bif decide (x1<(l.length:Int))
 then (Option.bind (idx l (wr .i64 (x1-1))) fun e2 =>
 Option.bind (idx l x1) fun e3 =>
 Option.bind (compare e2 e3) fun r4 =>
 bif decide (0<=r4)
 then (some (.done (.inr false)))
 else (some (.next (wr .i64 (x1+1)))))
 else (some (.done (.inl ())))
def a3O (l:List Ent)(compare:Ent->Ent->Option Int):Option Bool :=
 Option.bind (y4 (a5m l compare) ((l.length:Int).toNat+1) 1) fun b5 =>
 k7 (fun _ =>
 some true) (fun y7 =>
 some y7) b5
def a4u (a:List Val)(b:List Val)(compare:Val->Val->Option Int)(x2:Int):Option (Fl Int (Sum Unit Int)) :=
 bif decide (x2<(a.length:Int))
 then (Option.bind (idx a x2) fun e3 =>
 Option.bind (idx b x2) fun e4 =>
 Option.bind (compare e3 e4) fun r5 =>
 bif r5 != 0
 then (some (.done (.inr r5)))
 else (some (.next (wr .i64 (x2+1)))))
 else (some (.done (.inl ())))
def a2W (a:List Val)(b:List Val)(compare:Val->Val->Option Int):Option Int :=
 Option.bind (a0G (a.length:Int) (b.length:Int)) fun r1 =>
 bif r1 != 0
 then (some r1)
 else (Option.bind (y4 (a4u a b compare) ((a.length:Int).toNat+1) 0) fun b6 =>
 k7 (fun _ =>
 some 0) (fun y8 =>
 some y8) b6)
def a6i (x:Int):Option Bool :=
 some (x != x)
def a44 (x:Int)(y:Int):Option Int :=
 Option.bind (a6i x) fun r1 =>
 Option.bind (a6i y) fun r2 =>
 bif r1
 then (bif r2
 then (some 0)
 else (some (-1)))
 else (bif r2
 then (some 1)
 else (bif decide (x<y)
 then (some (-1))
 else (bif decide (y<x)
 then (some 1)
 else (some 0))))
def a42 (a:List Key)(b:List Key)(compare:Key->Key->Option Int)(x2:Int):Option (Fl Int (Sum Unit Int)) :=
 bif decide (x2<(a.length:Int))
 then (Option.bind (idx a x2) fun e3 =>
 Option.bind (idx b x2) fun e4 =>
 Option.bind (compare e3 e4) fun r5 =>
 bif r5 != 0
 then (some (.done (.inr r5)))
 else (some (.next (wr .i64 (x2+1)))))
 else (some (.done (.inl ())))
def a3t (a:List Key)(b:List Key)(compare:Key->Key->Option Int):Option Int :=
 Option.bind (a0G (a.length:Int) (b.length:Int)) fun r1 =>
 bif r1 != 0
 then (some r1)
 else (Option.bind (y4 (a42 a b compare) ((a.length:Int).toNat+1) 0) fun b6 =>
 k7 (fun _ =>
 some 0) (fun y8 =>
 some y8) b6)
def a4w (a:List Ent)(b:List Ent)(compare:Ent->Ent->Option Int)(x2:Int):Option (Fl Int (Sum Unit Int)) :=
 bif decide (x2<(a.length:Int))
 then (Option.bind (idx a x2) fun e3 =>
 Option.bind (idx b x2) fun e4 =>
 Option.bind (compare e3 e4) fun r5 =>
 bif r5 != 0
 then (some (.done (.inr r5)))
 else (some (.next (wr .i64 (x2+1)))))
 else (some (.done (.inl ())))
def a2X (a:List Ent)(b:List Ent)(compare:Ent->Ent->Option Int):Option Int :=
 Option.bind (a0G (a.length:Int) (b.length:Int)) fun r1 =>
 bif r1 != 0
 then (some r1)
 else (Option.bind (y4 (a4w a b compare) ((a.length:Int).toNat+1) 0) fun b6 =>
 k7 (fun _ =>
 some 0) (fun y8 =>
 some y8) b6)
def a5f (a:List ByteArray)(b:List ByteArray)(compare:ByteArray->ByteArray->Option Int)(x2:Int):Option (Fl Int (Sum Unit Int)) :=
 bif decide (x2<(a.length:Int))
 then (Option.bind (idx a x2) fun e3 =>
 Option.bind (idx b x2) fun e4 =>
 Option.bind (compare e3 e4) fun r5 =>
 bif r5 != 0
 then (some (.done (.inr r5)))
 else (some (.next (wr .i64 (x2+1)))))
 else (some (.done (.inl ())))
def a3G (a:List ByteArray)(b:List ByteArray)(compare:ByteArray->ByteArray->Option Int):Option Int :=
 Option.bind (a0G (a.length:Int) (b.length:Int)) fun r1 =>
 bif r1 != 0
 then (some r1)
 else (Option.bind (y4 (a5f a b compare) ((a.length:Int).toNat+1) 0) fun b6 =>
 k7 (fun _ =>
 some 0) (fun y8 =>
 some y8) b6)
def a8c (_:Nat)(_:Val->Val->Option Int)(rec_value_compareEntries:Ent->Ent->Option Int)(rec_value_compareValues:(List Val)->(List Val)->Option Int)(a:Val)(b:Val):Option Int :=
 Option.bind (a0G a.Kind b.Kind) fun r1 =>
 bif r1 != 0
 then (some r1)
 else (Option.bind (a44 a.Int_ b.Int_) fun r2 =>
 bif r2 != 0
 then (some r2)
 else (Option.bind (a0i a.Text b.Text) fun r3 =>
 bif r3 != 0
 then (some r3)
 else (Option.bind (a3t a.Keys b.Keys (fun z4 z5 =>
 Option.bind (X9 z4 z5) fun r6 =>
 some r6)) fun r7 =>
 bif r7 != 0
 then (some r7)
 else (Option.bind (rec_value_compareValues a.Kids b.Kids) fun r8 =>
 bif r8 != 0
 then (some r8)
 else (Option.bind (a2X a.Entries b.Entries (fun z9 z10 =>
 Option.bind (rec_value_compareEntries z9 z10) fun r11 =>
 some r11)) fun r12 =>
 bif r12 != 0
 then (some r12)
 else (Option.bind (a3G a.Labels b.Labels (fun z13 z14 =>
 Option.bind (a0i z13 z14) fun r15 =>
 some r15)) fun r16 =>
 some r16))))))
def a4V (_:Nat)(rec_value_Compare:Val->Val->Option Int)(_:Ent->Ent->Option Int)(rec_value_compareValues:(List Val)->(List Val)->Option Int)(a:Ent)(b:Ent):Option Int :=
 Option.bind (rec_value_compareValues a.Args b.Args) fun r1 =>
 bif r1 != 0
 then (some r1)
 else (bif a.Fails != b.Fails
 then (bif a.Fails
 then (some (-1))
 else (some 1))
 else (Option.bind (rec_value_Compare a.Result b.Result) fun r2 =>
 some r2))
def a5n (_:Nat)(rec_value_Compare:Val->Val->Option Int)(_:Ent->Ent->Option Int)(_:(List Val)->(List Val)->Option Int)(a:List Val)(b:List Val):Option Int :=
 Option.bind (a2W a b (fun z1 z2 =>
 Option.bind (rec_value_Compare z1 z2) fun r3 =>
 some r3)) fun r4 =>
 some r4
def K4:Nat->(Val->Val->Option Int)×(Ent->Ent->Option Int)×((List Val)->(List Val)->Option Int)
 | 0=>(fun _ _=>none,fun _ _=>none,fun _ _=>none)
 | n+1=>(a8c n ((K4 n).1) ((K4 n).2.1) ((K4 n).2.2),a4V n ((K4 n).1) ((K4 n).2.1) ((K4 n).2.2),a5n n ((K4 n).1) ((K4 n).2.1) ((K4 n).2.2))
def a2E (n:Nat):Val->Val->Option Int:=(K4 n).1
def K5 (n:Nat):Ent->Ent->Option Int:=(K4 n).2.1
def a2Q (n:Nat):(List Val)->(List Val)->Option Int:=(K4 n).2.2
def b24 (n:Nat)(a:Val)(b:Val):Option Bool :=
 Option.bind (a2E n a b) fun r1 =>
 some (r1==0)
def b1u (n:Nat)(v:Val):Option Bool :=
 Option.bind (b24 n v (Val.mk 0 0 (⟨#[]⟩:ByteArray) ([]:List Val) ([]:List Key) ([]:List Ent) ([]:List ByteArray))) fun r1 =>
 some r1
def a34 (n:Nat)(e:Ent)(arity:Int):Option Bool :=
 Option.bind (bif (e.Args.length:Int)==arity
 then (Option.bind (bif !e.Fails
 then (some true)
 else (Option.bind (b1u n e.Result) fun r1 =>
 some r1)) fun q2 =>
 some q2)
 else (some false)) fun q3 =>
 some q3
def a7o (v:Val)(n:Nat)(x7:Int):Option (Fl Int (Sum Unit Bool)) :=
 bif decide (x7<(v.Entries.length:Int))
 then (Option.bind (idx v.Entries x7) fun e8 =>
 Option.bind (a34 n e8 v.Int_) fun r9 =>
 bif !r9
 then (some (.done (.inr false)))
 else (some (.next (wr .i64 (x7+1)))))
 else (some (.done (.inl ())))
def a4j (n:Nat)(v:Val):Option Bool :=
 Option.bind (bif decide (v.Int_<0)
 then (some true)
 else (some (decide (4<v.Int_)))) fun q1 =>
 Option.bind (bif q1
 then (some true)
 else (Option.bind (a3O v.Entries (fun z2 z3 =>
 Option.bind (K5 n z2 z3) fun r4 =>
 some r4)) fun r5 =>
 some (!r5))) fun q6 =>
 bif q6
 then (some false)
 else (Option.bind (y4 (a7o v n) ((v.Entries.length:Int).toNat+1) 0) fun b10 =>
 k7 (fun _ =>
 some true) (fun y12 =>
 some y12) b10)
def a6k (n:Nat)(d:Val):Option Bool :=
 Option.bind (a6U d.Kind) fun r1 =>
 Option.bind (bif !r1.2
 then (some true)
 else (Option.bind (a48 d.Labels) fun r2 =>
 some (!r2))) fun q3 =>
 bif q3
 then (some false)
 else (Option.bind (bif !r1.1.number
 then (some (d.Int_ != 0))
 else (some false)) fun q4 =>
 Option.bind (bif q4
 then (some true)
 else (Option.bind (bif !r1.1.text_
 then (some (!(Q4 d.Text (⟨#[]⟩:ByteArray))))
 else (some false)) fun q5 =>
 some q5)) fun q6 =>
 Option.bind (bif q6
 then (some true)
 else (Option.bind (bif !r1.1.kids
 then (some (decide (0<(d.Kids.length:Int))))
 else (some false)) fun q7 =>
 some q7)) fun q8 =>
 Option.bind (bif q8
 then (some true)
 else (Option.bind (bif !r1.1.keys
 then (some (decide (0<(d.Keys.length:Int))))
 else (some false)) fun q9 =>
 some q9)) fun q10 =>
 Option.bind (bif q10
 then (some true)
 else (Option.bind (bif !r1.1.entries
 then (some (decide (0<(d.Entries.length:Int))))
 else (some false)) fun q11 =>
 some q11)) fun q12 =>
 bif q12
 then (some false)
 else (bif d.Kind==2
 then (some (decide ((d.Text.size:Int)<=64)))
 else (bif d.Kind==3
 then (Option.bind (a5l d.Text) fun r13 =>
 some r13)
 else (bif d.Kind==4
 then (some (decide (0<=d.Int_)))
 else (bif d.Kind==6
 then (some (decide ((d.Kids.length:Int)<=4)))
 else (bif d.Kind==7
 then (Option.bind (bif (d.Kids.length:Int)==2
 then (Option.bind (idx d.Kids 1) fun e14 =>
 Option.bind (bif e14.Kind==5
 then (some true)
 else (Option.bind (idx d.Kids 1) fun e15 =>
 some (e15.Kind==7))) fun q16 =>
 some q16)
 else (some false)) fun q17 =>
 some q17)
 else (bif d.Kind==8
 then (Option.bind (a6R d) fun r18 =>
 some r18)
 else (bif d.Kind==9
 then (Option.bind (a4j n d) fun r19 =>
 some r19)
 else (some true)))))))))
def a63 (v:Val)(x2:(List Val)×Int):Option (Fl ((List Val)×Int) (List Val)) :=
 bif decide (x2.2<(v.Entries.length:Int))
 then (Option.bind (idx v.Entries x2.2) fun e3 =>
 Option.bind (Y1 (x2.1.length+e3.Args.length) 128) fun _ =>
 bif !e3.Fails
 then (Option.bind (Y1 ((x2.1++e3.Args).length+([e3.Result]:List Val).length) 128) fun _ =>
 some (.next ((x2.1++e3.Args)++([e3.Result]:List Val),wr .i64 (x2.2+1))))
 else (some (.next (x2.1++e3.Args,wr .i64 (x2.2+1)))))
 else (some (.done x2.1))
def a9F (v:Val):Option (List Val) :=
 Option.bind (a4E 128 v.Kids) fun r1 =>
 Option.bind (y4 (a63 v) ((v.Entries.length:Int).toNat+1) (r1,0)) fun b6 =>
 some b6
def a9X (r2:List Val)(rec_value_validTree:Val->Option Bool)(x3:Int):Option (Fl Int (Sum Unit Bool)) :=
 bif decide (x3<(r2.length:Int))
 then (Option.bind (idx r2 x3) fun e4 =>
 Option.bind (rec_value_validTree e4) fun r5 =>
 bif !r5
 then (some (.done (.inr false)))
 else (some (.next (wr .i64 (x3+1)))))
 else (some (.done (.inl ())))
def a7d (n:Nat)(rec_value_validTree:Val->Option Bool)(v:Val):Option Bool :=
 Option.bind (a6k n v) fun r1 =>
 bif !r1
 then (some false)
 else (Option.bind (a9F v) fun r2 =>
 Option.bind (y4 (a9X r2 rec_value_validTree) ((r2.length:Int).toNat+1) 0) fun b6 =>
 k7 (fun _ =>
 some true) (fun y8 =>
 some y8) b6)
def a2r:Nat->Val->Option Bool
 | 0=>fun _=>none
 | n+1=>a7d n (a2r n)
def a6X (n:Nat)(v:Val):Option Int :=
 Option.bind (a2r n v) fun r1 =>
 bif !r1
 then (some 1)
 else (some 0)
def a4Q (d:Api_TypeNode):Option Bool :=
 Option.bind (bif d.Kind==3
 then (some (true,false,false,false))
 else (Option.bind (bif d.Kind==4
 then (some (d.Kind==4))
 else (bif d.Kind==6
 then (some (d.Kind==6))
 else (some (d.Kind==19)))) fun b1 =>
 bif b1
 then (some (false,true,false,false))
 else (Option.bind (bif d.Kind==10
 then (some (d.Kind==10))
 else (bif d.Kind==12
 then (some (d.Kind==12))
 else (bif d.Kind==14
 then (some (d.Kind==14))
 else (bif d.Kind==16
 then (some (d.Kind==16))
 else (bif d.Kind==17
 then (some (d.Kind==17))
 else (some (d.Kind==18))))))) fun b2 =>
 bif b2
 then (some (false,false,true,false))
 else (bif d.Kind==13
 then (some (false,false,false,true))
 else (some (false,false,false,false)))))) fun b3 =>
 Option.bind (bif b3.1
 then (some true)
 else (Option.bind (bif d.Lo==0
 then (some (d.Hi==0))
 else (some false)) fun q4 =>
 some q4)) fun q5 =>
 Option.bind (bif q5
 then (Option.bind (bif b3.2.1
 then (some true)
 else (some (Q4 d.Text (⟨#[]⟩:ByteArray)))) fun q6 =>
 some q6)
 else (some false)) fun q7 =>
 Option.bind (bif q7
 then (Option.bind (bif b3.2.2.1
 then (some true)
 else (some ((d.Kids.length:Int)==0))) fun q8 =>
 some q8)
 else (some false)) fun q9 =>
 Option.bind (bif q9
 then (Option.bind (bif b3.2.2.2
 then (some true)
 else (Option.bind (bif (d.Fields.length:Int)==0
 then (some (a7k d.Rest (0,0)))
 else (some false)) fun q10 =>
 some q10)) fun q11 =>
 some q11)
 else (some false)) fun q12 =>
 some q12
def a2J (l:List Api_Field)(x1:Int):Option (Fl Int (Sum Unit Bool)) :=
 bif decide (x1<(l.length:Int))
 then (Option.bind (idx l x1) fun e2 =>
 Option.bind (a31 e2.Key_) fun r3 =>
 Option.bind (bif !r3
 then (some true)
 else (Option.bind (bif decide (0<x1)
 then (Option.bind (idx l (wr .i64 (x1-1))) fun e4 =>
 Option.bind (X9 e4.Key_ e2.Key_) fun r5 =>
 some (decide (0<=r5)))
 else (some false)) fun q6 =>
 some q6)) fun q7 =>
 bif q7
 then (some (.done (.inr false)))
 else (some (.next (wr .i64 (x1+1)))))
 else (some (.done (.inl ())))
def a3W (l:List Api_Field):Option Bool :=
 Option.bind (y4 (a2J l) ((l.length:Int).toNat+1) 0) fun b8 =>
 k7 (fun _ =>
 some true) (fun y10 =>
 some y10) b8
def a4K (d:Api_TypeNode):Option Bool :=
 Option.bind (bif d.Kind==1
 then (some (d.Kind==1))
 else (bif d.Kind==2
 then (some (d.Kind==2))
 else (bif d.Kind==5
 then (some (d.Kind==5))
 else (bif d.Kind==7
 then (some (d.Kind==7))
 else (bif d.Kind==8
 then (some (d.Kind==8))
 else (bif d.Kind==9
 then (some (d.Kind==9))
 else (bif d.Kind==11
 then (some (d.Kind==11))
 else (some (d.Kind==15))))))))) fun b1 =>
 bif b1
 then (some true)
 else (bif d.Kind==3
 then (some (decide (d.Lo<=d.Hi)))
 else (bif d.Kind==4
 then (some (decide ((d.Text.size:Int)<=64)))
 else (bif d.Kind==6
 then (Option.bind (a5l d.Text) fun r2 =>
 some r2)
 else (bif d.Kind==19
 then (Option.bind (a2V d.Text) fun r3 =>
 some r3)
 else (bif d.Kind==10
 then (some (decide ((d.Kids.length:Int)<=4)))
 else (bif d.Kind==12
 then (some ((d.Kids.length:Int)==2))
 else (bif d.Kind==13
 then (Option.bind (a3W d.Fields) fun r4 =>
 some r4)
 else (bif d.Kind==14
 then (Option.bind (bif decide (1<=(d.Kids.length:Int))
 then (some (decide ((d.Kids.length:Int)<=5)))
 else (some false)) fun q5 =>
 some q5)
 else (Option.bind (bif d.Kind==16
 then (some (d.Kind==16))
 else (some (d.Kind==17))) fun b6 =>
 bif b6
 then (some (decide (1<=(d.Kids.length:Int))))
 else (bif d.Kind==18
 then (some ((d.Kids.length:Int)==1))
 else (some false)))))))))))
def a2z (n_0:Api_TypeNode)(x2:(List Int)×Int):Option (Fl ((List Int)×Int) (List Int)) :=
 bif decide (x2.2<(n_0.Fields.length:Int))
 then (Option.bind (idx n_0.Fields x2.2) fun e3 =>
 Option.bind (Y1 (x2.1.length+([e3.Node]:List Int).length) 8) fun _ =>
 some (.next (x2.1++([e3.Node]:List Int),wr .i64 (x2.2+1))))
 else (some (.done x2.1))
def a6Y (n_0:Api_TypeNode):Option (List Int) :=
 Option.bind (a4E 8 n_0.Kids) fun r1 =>
 Option.bind (y4 (a2z n_0) ((n_0.Fields.length:Int).toNat+1) (r1,0)) fun b5 =>
 bif n_0.Kind==13
 then (Option.bind (Y1 (b5.length+([n_0.Rest.1,n_0.Rest.2]:List Int).length) 8) fun _ =>
 some (b5++([n_0.Rest.1,n_0.Rest.2]:List Int)))
 else (some b5)
def a4P (kind:Int):Option Bool :=
 Option.bind (bif kind==16
 then (some true)
 else (some (kind==17))) fun q1 =>
 Option.bind (bif q1
 then (some true)
 else (some (kind==18))) fun q2 =>
 some q2
def Y6 (a2_2:Api_Type)(e10:Api_TypeNode)(rec_typeexpr_contractive_1:Int->(List Int)->Api_Type->Unit->Option (Bool×(List Int)))(x11:Int×(List Int)):Option (Fl (Int×(List Int)) (Sum (List Int) (Bool×(List Int)))) :=
 bif decide (x11.1<(e10.Kids.length:Int))
 then (Option.bind (idx e10.Kids x11.1) fun e12 =>
 Option.bind (rec_typeexpr_contractive_1 e12 x11.2 a2_2 ()) fun r13 =>
 bif !r13.1
 then (some (.done (.inr (false,r13.2))))
 else (some (.next (wr .i64 (x11.1+1),r13.2))))
 else (some (.done (.inl x11.2)))
def a39 (_:Nat)(rec_typeexpr_contractive_1:Int->(List Int)->Api_Type->Unit->Option (Bool×(List Int)))(i:Int)(a1_1:List Int)(a2_2:Api_Type)(_:Unit):Option (Bool×(List Int)) :=
 Option.bind (idx a1_1 i) fun _ =>
 Option.bind (a1_1[i.toNat]?) fun e2 =>
 Option.bind (bif e2 != 0
 then (some true)
 else (Option.bind (idx a2_2.Nodes i) fun e3 =>
 Option.bind (a4P e3.Kind) fun r4 =>
 some (!r4))) fun q5 =>
 bif q5
 then (Option.bind (idx a1_1 i) fun _ =>
 Option.bind (a1_1[i.toNat]?) fun e7 =>
 some (e7 != 1,a1_1))
 else (Option.bind (idx a1_1 i) fun _ =>
 Option.bind (a1_1[i.toNat]?) fun _ =>
 Option.bind (idx a2_2.Nodes i) fun e10 =>
 Option.bind (y4 (Y6 a2_2 e10 rec_typeexpr_contractive_1) ((e10.Kids.length:Int).toNat+1) (0,a1_1.set i.toNat 1)) fun (b14:Sum (List Int) (Bool×(List Int))) =>
 k7 (fun x15 =>
 Option.bind (idx x15 i) fun _ =>
 Option.bind (x15[i.toNat]?) fun _ =>
 some (true,x15.set i.toNat 2)) (fun y16 =>
 some (y16.1,y16.2)) b14)
def Q3:Nat->Int->(List Int)->Api_Type->Unit->Option (Bool×(List Int))
 | 0=>fun _ _ _ _=>none
 | n+1=>a39 n (Q3 n)
def Q7 (t:Api_Type)(n:Nat)(x2:Int×(List Int)):Option (Fl (Int×(List Int)) (Sum (List Int) (Bool×(List Int)))) :=
 bif decide (x2.1<(t.Nodes.length:Int))
 then (Option.bind (Q3 n x2.1 x2.2 t ()) fun r3 =>
 bif !r3.1
 then (some (.done (.inr (false,r3.2))))
 else (some (.next (wr .i64 (x2.1+1),r3.2))))
 else (some (.done (.inl x2.2)))
def a3T (n:Nat)(t:Api_Type):Option Bool :=
 Option.bind (a6t (t.Nodes.length:Int) (t.Nodes.length:Int) 8) fun m1 =>
 Option.bind (y4 (Q7 t n) ((t.Nodes.length:Int).toNat+1) (0,List.replicate m1 (0:Int))) fun (b4:Sum (List Int) (Bool×(List Int))) =>
 k7 (fun _ =>
 some true) (fun y6 =>
 some y6.1) b4
def a23 (t:Api_Type)(r7:List Int)(x8:Int):Option (Fl Int (Sum Unit Int)) :=
 bif decide (x8<(r7.length:Int))
 then (Option.bind (idx r7 x8) fun e9 =>
 Option.bind (bif decide (e9<0)
 then (some true)
 else (some (decide ((t.Nodes.length:Int)<=e9)))) fun q10 =>
 bif q10
 then (some (.done (.inr 1)))
 else (some (.next (wr .i64 (x8+1)))))
 else (some (.done (.inl ())))
def a26 (t:Api_Type)(x2:Int):Option (Fl Int (Sum Unit Int)) :=
 bif decide (x2<(t.Nodes.length:Int))
 then (Option.bind (idx t.Nodes x2) fun e3 =>
 Option.bind (a4Q e3) fun r4 =>
 Option.bind (bif !r4
 then (some true)
 else (Option.bind (a4K e3) fun r5 =>
 some (!r5))) fun q6 =>
 bif q6
 then (some (.done (.inr 1)))
 else (Option.bind (a6Y e3) fun r7 =>
 Option.bind (y4 (a23 t r7) ((r7.length:Int).toNat+1) 0) fun b11 =>
 k7 (fun _ =>
 some (.next (wr .i64 (x2+1)))) (fun y13 =>
 some (.done (.inr y13))) b11))
 else (some (.done (.inl ())))
def X7 (n:Nat)(t:Api_Type):Option Int :=
 Option.bind (bif decide (t.Root<0)
 then (some true)
 else (some (decide ((t.Nodes.length:Int)<=t.Root)))) fun q1 =>
 bif q1
 then (some 1)
 else (Option.bind (y4 (a26 t) ((t.Nodes.length:Int).toNat+1) 0) fun b14 =>
 k7 (fun _ =>
 Option.bind (a3T n t) fun r17 =>
 bif !r17
 then (some 3)
 else (some 0)) (fun y16 =>
 some y16) b14)
def a5h (t:Api_Type)(g:Api_Goal)(r1:List Int)(x3:Int):Option (Fl Int (Sum Unit Bool)) :=
 bif decide (x3<((r1++g.Neg).length:Int))
 then (Option.bind (idx (r1++g.Neg) x3) fun e4 =>
 Option.bind (bif decide (e4<0)
 then (some true)
 else (some (decide ((t.Nodes.length:Int)<=e4)))) fun q5 =>
 bif q5
 then (some (.done (.inr false)))
 else (some (.next (wr .i64 (x3+1)))))
 else (some (.done (.inl ())))
def a9E (t:Api_Type)(g:Api_Goal):Option Bool :=
 Option.bind (a4E 8 g.Pos) fun r1 =>
 Option.bind (Y1 (r1.length+g.Neg.length) 8) fun _ =>
 Option.bind (y4 (a5h t g r1) (((r1++g.Neg).length:Int).toNat+1) 0) fun b6 =>
 k7 (fun _ =>
 some true) (fun y8 =>
 some y8) b6
def b8k (kind:Int):Option Int :=
 bif kind==5
 then (some 2)
 else (bif kind==7
 then (some 3)
 else (bif kind==8
 then (some 4)
 else (bif kind==9
 then (some 5)
 else (bif kind==11
 then (some 6)
 else (some 9)))))
def a0U (s:List Key)(v:Key)(x1:Int):Option (Fl Int (Sum Unit Int)) :=
 bif decide (x1<(s.length:Int))
 then (Option.bind (idx s x1) fun e2 =>
 bif a3n v e2
 then (some (.done (.inr x1)))
 else (some (.next (wr .i64 (x1+1)))))
 else (some (.done (.inl ())))
def a2R (s:List Key)(v:Key):Option Int :=
 Option.bind (y4 (a0U s v) ((s.length:Int).toNat+1) 0) fun b3 =>
 k7 (fun _ =>
 some (-1)) (fun y5 =>
 some y5) b3
def a0V (s:List Key)(v:Key):Option Bool :=
 Option.bind (a2R s v) fun r1 =>
 some (decide (0<=r1))
def b0N (n_0:Api_TypeNode)(k:Key)(x1:Int):Option (Fl Int (Sum Unit Int)) :=
 bif decide (x1<(n_0.Fields.length:Int))
 then (Option.bind (idx n_0.Fields x1) fun e2 =>
 bif a3n e2.Key_ k
 then (some (.done (.inr e2.Node)))
 else (some (.next (wr .i64 (x1+1)))))
 else (some (.done (.inl ())))
def b7I (n_0:Api_TypeNode)(k:Key):Option Int :=
 Option.bind (y4 (b0N n_0 k) ((n_0.Fields.length:Int).toNat+1) 0) fun b3 =>
 k7 (fun _ =>
 bif k.Kind==0
 then (some n_0.Rest.1)
 else (bif k.Kind==1
 then (some n_0.Rest.2)
 else (none))) (fun y5 =>
 some y5) b3
def a1h (s:List ByteArray)(v:ByteArray)(x1:Int):Option (Fl Int (Sum Unit Int)) :=
 bif decide (x1<(s.length:Int))
 then (Option.bind (idx s x1) fun e2 =>
 bif Q4 v e2
 then (some (.done (.inr x1)))
 else (some (.next (wr .i64 (x1+1)))))
 else (some (.done (.inl ())))
def a3s (s:List ByteArray)(v:ByteArray):Option Int :=
 Option.bind (y4 (a1h s v) ((s.length:Int).toNat+1) 0) fun b3 =>
 k7 (fun _ =>
 some (-1)) (fun y5 =>
 some y5) b3
def a1g (s:List ByteArray)(v:ByteArray):Option Bool :=
 Option.bind (a3s s v) fun r1 =>
 some (decide (0<=r1))
def a7q (l:List Val)(t:Api_Type)(nodes:List Int)(rec_core_Has:Val->Api_Type->Int->Option Bool)(x1:Int):Option (Fl Int (Sum Unit Bool)) :=
 bif decide (x1<(l.length:Int))
 then (Option.bind (idx l x1) fun e2 =>
 Option.bind (idx nodes x1) fun e3 =>
 Option.bind (rec_core_Has e2 t e3) fun r4 =>
 bif !r4
 then (some (.done (.inr false)))
 else (some (.next (wr .i64 (x1+1)))))
 else (some (.done (.inl ())))
def a4r (v:Val)(t:Api_Type)(n_2:Api_TypeNode)(rec_core_EntryAllowed:Ent->Api_Type->Api_TypeNode->Option Bool)(x1:Int):Option (Fl Int (Sum Unit Bool)) :=
 bif decide (x1<(v.Entries.length:Int))
 then (Option.bind (idx v.Entries x1) fun e2 =>
 Option.bind (rec_core_EntryAllowed e2 t n_2) fun r3 =>
 bif !r3
 then (some (.done (.inr false)))
 else (some (.next (wr .i64 (x1+1)))))
 else (some (.done (.inl ())))
def a6W (v:Val)(n_2:Api_TypeNode)(x1:Int):Option (Fl Int (Sum Unit Bool)) :=
 bif decide (x1<(n_2.Fields.length:Int))
 then (Option.bind (idx n_2.Fields x1) fun e2 =>
 Option.bind (bif !e2.Optional
 then (Option.bind (a0V v.Keys e2.Key_) fun r3 =>
 some (!r3))
 else (some false)) fun q4 =>
 bif q4
 then (some (.done (.inr false)))
 else (some (.next (wr .i64 (x1+1)))))
 else (some (.done (.inl ())))
def a5c (v:Val)(t:Api_Type)(n_2:Api_TypeNode)(rec_core_Has:Val->Api_Type->Int->Option Bool)(x8:Int):Option (Fl Int (Sum Unit Bool)) :=
 bif decide (x8<(v.Keys.length:Int))
 then (Option.bind (idx v.Keys x8) fun e9 =>
 Option.bind (idx v.Kids x8) fun e10 =>
 Option.bind (b7I n_2 e9) fun r11 =>
 Option.bind (rec_core_Has e10 t r11) fun r12 =>
 bif !r12
 then (some (.done (.inr false)))
 else (some (.next (wr .i64 (x8+1)))))
 else (some (.done (.inl ())))
def a8j (_:Nat)(_:(List Val)->Api_Type->(List Int)->Option Bool)(_:Ent->Api_Type->Api_TypeNode->Option Bool)(_:Val->Api_Type->Api_TypeNode->Option Bool)(rec_core_Has:Val->Api_Type->Int->Option Bool)(_:Int->Val->Api_Type->Option Bool)(_:Int->Val->Api_Type->Option Bool)(_:Val->Api_Type->Api_TypeNode->Option Bool)(l:List Val)(t:Api_Type)(nodes:List Int):Option Bool :=
 bif (l.length:Int) != (nodes.length:Int)
 then (some false)
 else (Option.bind (y4 (a7q l t nodes rec_core_Has) ((l.length:Int).toNat+1) 0) fun b5 =>
 k7 (fun _ =>
 some true) (fun y7 =>
 some y7) b5)
def a6g (_:Nat)(rec_core_all:(List Val)->Api_Type->(List Int)->Option Bool)(_:Ent->Api_Type->Api_TypeNode->Option Bool)(_:Val->Api_Type->Api_TypeNode->Option Bool)(rec_core_Has:Val->Api_Type->Int->Option Bool)(_:Int->Val->Api_Type->Option Bool)(_:Int->Val->Api_Type->Option Bool)(_:Val->Api_Type->Api_TypeNode->Option Bool)(e:Ent)(t:Api_Type)(n_2:Api_TypeNode):Option Bool :=
 Option.bind (cut n_2.Kids 0 (wr .i64 ((n_2.Kids.length:Int)-1))) fun y1 =>
 Option.bind (rec_core_all e.Args t y1) fun r2 =>
 Option.bind (bif !r2
 then (some true)
 else (Option.bind (bif !e.Fails
 then (Option.bind (idx n_2.Kids (wr .i64 ((n_2.Kids.length:Int)-1))) fun e3 =>
 Option.bind (rec_core_Has e.Result t e3) fun r4 =>
 some r4)
 else (some false)) fun q5 =>
 some q5)) fun q6 =>
 some q6
def a6L (_:Nat)(_:(List Val)->Api_Type->(List Int)->Option Bool)(rec_core_EntryAllowed:Ent->Api_Type->Api_TypeNode->Option Bool)(_:Val->Api_Type->Api_TypeNode->Option Bool)(_:Val->Api_Type->Int->Option Bool)(_:Int->Val->Api_Type->Option Bool)(_:Int->Val->Api_Type->Option Bool)(_:Val->Api_Type->Api_TypeNode->Option Bool)(v:Val)(t:Api_Type)(n_2:Api_TypeNode):Option Bool :=
 bif v.Int_ != (wr .i64 ((n_2.Kids.length:Int)-1))
 then (some false)
 else (Option.bind (y4 (a4r v t n_2 rec_core_EntryAllowed) ((v.Entries.length:Int).toNat+1) 0) fun b4 =>
 k7 (fun _ =>
 some true) (fun y6 =>
 some y6) b4)
def b5b (_:Nat)(rec_core_all:(List Val)->Api_Type->(List Int)->Option Bool)(_:Ent->Api_Type->Api_TypeNode->Option Bool)(rec_core_functionHas:Val->Api_Type->Api_TypeNode->Option Bool)(rec_core_Has:Val->Api_Type->Int->Option Bool)(rec_core_Has_1:Int->Val->Api_Type->Option Bool)(rec_core_Has_2:Int->Val->Api_Type->Option Bool)(rec_core_mapHas:Val->Api_Type->Api_TypeNode->Option Bool)(d:Val)(t:Api_Type)(a2_2:Int):Option Bool :=
 Option.bind (idx t.Nodes a2_2) fun e1 =>
 bif e1.Kind==2
 then (some true)
 else (bif e1.Kind==3
 then (Option.bind (bif d.Kind==1
 then (some (decide (e1.Lo<=d.Int_)))
 else (some false)) fun q2 =>
 Option.bind (bif q2
 then (some (decide (d.Int_<=e1.Hi)))
 else (some false)) fun q3 =>
 some q3)
 else (bif e1.Kind==4
 then (Option.bind (bif d.Kind==2
 then (some (Q4 d.Text e1.Text))
 else (some false)) fun q4 =>
 some q4)
 else (bif e1.Kind==6
 then (Option.bind (bif d.Kind==3
 then (some (Q4 d.Text e1.Text))
 else (some false)) fun q5 =>
 some q5)
 else (Option.bind (bif e1.Kind==5
 then (some (e1.Kind==5))
 else (bif e1.Kind==7
 then (some (e1.Kind==7))
 else (bif e1.Kind==8
 then (some (e1.Kind==8))
 else (bif e1.Kind==9
 then (some (e1.Kind==9))
 else (bif e1.Kind==11
 then (some (e1.Kind==11))
 else (some (e1.Kind==15))))))) fun b6 =>
 bif b6
 then (Option.bind (b8k e1.Kind) fun r7 =>
 some (d.Kind==r7))
 else (bif e1.Kind==10
 then (Option.bind (bif d.Kind==6
 then (Option.bind (rec_core_all d.Kids t e1.Kids) fun r8 =>
 some r8)
 else (some false)) fun q9 =>
 some q9)
 else (bif e1.Kind==12
 then (Option.bind (bif d.Kind==7
 then (Option.bind (rec_core_all d.Kids t e1.Kids) fun r10 =>
 some r10)
 else (some false)) fun q11 =>
 some q11)
 else (bif e1.Kind==13
 then (Option.bind (bif d.Kind==8
 then (Option.bind (rec_core_mapHas d t e1) fun r12 =>
 some r12)
 else (some false)) fun q13 =>
 some q13)
 else (bif e1.Kind==14
 then (Option.bind (bif d.Kind==9
 then (Option.bind (rec_core_functionHas d t e1) fun r14 =>
 some r14)
 else (some false)) fun q15 =>
 some q15)
 else (bif e1.Kind==16
 then (Option.bind (Y9 e1.Kids (fun z16 =>
 Option.bind (rec_core_Has_1 z16 d t) fun r17 =>
 some r17)) fun r18 =>
 some r18)
 else (bif e1.Kind==17
 then (Option.bind (Y9 e1.Kids (fun z19 =>
 Option.bind (rec_core_Has_2 z19 d t) fun r20 =>
 some r20)) fun r21 =>
 some (!r21))
 else (bif e1.Kind==18
 then (Option.bind (idx e1.Kids 0) fun e22 =>
 Option.bind (rec_core_Has d t e22) fun r23 =>
 some (!r23))
 else (bif e1.Kind==19
 then (Option.bind (a1g d.Labels e1.Text) fun r24 =>
 some r24)
 else (some false)))))))))))))
def b1V (_:Nat)(_:(List Val)->Api_Type->(List Int)->Option Bool)(_:Ent->Api_Type->Api_TypeNode->Option Bool)(_:Val->Api_Type->Api_TypeNode->Option Bool)(rec_core_Has:Val->Api_Type->Int->Option Bool)(_:Int->Val->Api_Type->Option Bool)(_:Int->Val->Api_Type->Option Bool)(_:Val->Api_Type->Api_TypeNode->Option Bool)(k:Int)(a1_1:Val)(a2_2:Api_Type):Option Bool :=
 Option.bind (rec_core_Has a1_1 a2_2 k) fun r1 =>
 some r1
def b1L (_:Nat)(_:(List Val)->Api_Type->(List Int)->Option Bool)(_:Ent->Api_Type->Api_TypeNode->Option Bool)(_:Val->Api_Type->Api_TypeNode->Option Bool)(rec_core_Has:Val->Api_Type->Int->Option Bool)(_:Int->Val->Api_Type->Option Bool)(_:Int->Val->Api_Type->Option Bool)(_:Val->Api_Type->Api_TypeNode->Option Bool)(k:Int)(a1_1:Val)(a2_2:Api_Type):Option Bool :=
 Option.bind (rec_core_Has a1_1 a2_2 k) fun r1 =>
 some (!r1)
def b0A (_:Nat)(_:(List Val)->Api_Type->(List Int)->Option Bool)(_:Ent->Api_Type->Api_TypeNode->Option Bool)(_:Val->Api_Type->Api_TypeNode->Option Bool)(rec_core_Has:Val->Api_Type->Int->Option Bool)(_:Int->Val->Api_Type->Option Bool)(_:Int->Val->Api_Type->Option Bool)(_:Val->Api_Type->Api_TypeNode->Option Bool)(v:Val)(t:Api_Type)(n_2:Api_TypeNode):Option Bool :=
 Option.bind (y4 (a6W v n_2) ((n_2.Fields.length:Int).toNat+1) 0) fun b5 =>
 k7 (fun _ =>
 Option.bind (y4 (a5c v t n_2 rec_core_Has) ((v.Keys.length:Int).toNat+1) 0) fun b13 =>
 k7 (fun _ =>
 some true) (fun y15 =>
 some y15) b13) (fun y7 =>
 some y7) b5
def j8:Nat->((List Val)->Api_Type->(List Int)->Option Bool)×(Ent->Api_Type->Api_TypeNode->Option Bool)×(Val->Api_Type->Api_TypeNode->Option Bool)×(Val->Api_Type->Int->Option Bool)×(Int->Val->Api_Type->Option Bool)×(Int->Val->Api_Type->Option Bool)×(Val->Api_Type->Api_TypeNode->Option Bool)
 | 0=>(fun _ _ _=>none,fun _ _ _=>none,fun _ _ _=>none,fun _ _ _=>none,fun _ _ _=>none,fun _ _ _=>none,fun _ _ _=>none)
 | n+1=>(a8j n ((j8 n).1) ((j8 n).2.1) ((j8 n).2.2.1) ((j8 n).2.2.2.1) ((j8 n).2.2.2.2.1) ((j8 n).2.2.2.2.2.1) ((j8 n).2.2.2.2.2.2),a6g n ((j8 n).1) ((j8 n).2.1) ((j8 n).2.2.1) ((j8 n).2.2.2.1) ((j8 n).2.2.2.2.1) ((j8 n).2.2.2.2.2.1) ((j8 n).2.2.2.2.2.2),a6L n ((j8 n).1) ((j8 n).2.1) ((j8 n).2.2.1) ((j8 n).2.2.2.1) ((j8 n).2.2.2.2.1) ((j8 n).2.2.2.2.2.1) ((j8 n).2.2.2.2.2.2),b5b n ((j8 n).1) ((j8 n).2.1) ((j8 n).2.2.1) ((j8 n).2.2.2.1) ((j8 n).2.2.2.2.1) ((j8 n).2.2.2.2.2.1) ((j8 n).2.2.2.2.2.2),b1V n ((j8 n).1) ((j8 n).2.1) ((j8 n).2.2.1) ((j8 n).2.2.2.1) ((j8 n).2.2.2.2.1) ((j8 n).2.2.2.2.2.1) ((j8 n).2.2.2.2.2.2),b1L n ((j8 n).1) ((j8 n).2.1) ((j8 n).2.2.1) ((j8 n).2.2.2.1) ((j8 n).2.2.2.2.1) ((j8 n).2.2.2.2.2.1) ((j8 n).2.2.2.2.2.2),b0A n ((j8 n).1) ((j8 n).2.1) ((j8 n).2.2.1) ((j8 n).2.2.2.1) ((j8 n).2.2.2.2.1) ((j8 n).2.2.2.2.2.1) ((j8 n).2.2.2.2.2.2))
def a4S (n:Nat):(List Val)->Api_Type->(List Int)->Option Bool:=(j8 n).1
def W1 (n:Nat):Ent->Api_Type->Api_TypeNode->Option Bool:=(j8 n).2.1
def a0p (n:Nat):Val->Api_Type->Api_TypeNode->Option Bool:=(j8 n).2.2.1
def X5 (n:Nat):Val->Api_Type->Int->Option Bool:=(j8 n).2.2.2.1
def a22 (n:Nat):Int->Val->Api_Type->Option Bool:=(j8 n).2.2.2.2.1
def a24 (n:Nat):Int->Val->Api_Type->Option Bool:=(j8 n).2.2.2.2.2.1
def a2j (n:Nat):Val->Api_Type->Api_TypeNode->Option Bool:=(j8 n).2.2.2.2.2.2
def b0t (n:Nat)(i:Int)(a1_1:Val)(a2_2:Api_Type):Option Bool :=
 Option.bind (X5 n a1_1 a2_2 i) fun r1 =>
 some (!r1)
def b0s (n:Nat)(i:Int)(a1_1:Val)(a2_2:Api_Type):Option Bool :=
 Option.bind (X5 n a1_1 a2_2 i) fun r1 =>
 some r1
def a9C (n:Nat)(v:Val)(t:Api_Type)(pos:List Int)(neg:List Int):Option Bool :=
 Option.bind (Y9 pos (fun z1 =>
 Option.bind (b0t n z1 v t) fun r2 =>
 some r2)) fun r3 =>
 Option.bind (bif !r3
 then (Option.bind (Y9 neg (fun z4 =>
 Option.bind (b0s n z4 v t) fun r5 =>
 some r5)) fun r6 =>
 some (!r6))
 else (some false)) fun q7 =>
 some q7
def a6M (n:Nat)(v:Val)(t:Api_Type)(g:Api_Goal):Option Bool :=
 Option.bind (a6X n v) fun r1 =>
 Option.bind (bif r1 != 0
 then (some true)
 else (Option.bind (X7 n t) fun r2 =>
 some (r2 != 0))) fun q3 =>
 Option.bind (bif q3
 then (some true)
 else (Option.bind (a9E t g) fun r4 =>
 some (!r4))) fun q5 =>
 bif q5
 then (some false)
 else (Option.bind (bif g.Lists
 then (some (v.Kind != 5))
 else (some false)) fun q6 =>
 Option.bind (bif q6
 then (some (v.Kind != 7))
 else (some false)) fun q7 =>
 bif q7
 then (some false)
 else (Option.bind (a9C n v t g.Pos g.Neg) fun r8 =>
 some r8))
def a5I (v:List Val)(t:Api_Type)(b:Api_Box)(n:Nat)(x1:Int):Option (Fl Int (Sum Unit Bool)) :=
 bif decide (x1<(v.length:Int))
 then (Option.bind (idx v x1) fun e2 =>
 Option.bind (idx b.Parts x1) fun e3 =>
 Option.bind (a6M n e2 t e3) fun r4 =>
 bif !r4
 then (some (.done (.inr false)))
 else (some (.next (wr .i64 (x1+1)))))
 else (some (.done (.inl ())))
def a5V (n:Nat)(v:List Val)(t:Api_Type)(b:Api_Box):Option Bool :=
 bif (v.length:Int) != (b.Parts.length:Int)
 then (some false)
 else (Option.bind (y4 (a5I v t b n) ((v.length:Int).toNat+1) 0) fun b5 =>
 k7 (fun _ =>
 some true) (fun y7 =>
 some y7) b5)
def a1k (n:Nat):Option Bool :=
 Option.bind (b56 n 2 ([([1,2]:List Int)]:List (List Int)) ([([3,4]:List Int)]:List (List Int))) fun r1 =>
 Option.bind (bif decide (0<(r1.length:Int))
 then (Option.bind (idx r1 0) fun _ =>
 Option.bind (r1[(0:Int).toNat]?) fun e3 =>
 some ((e3.Parts.length:Int)==2))
 else (some false)) fun q4 =>
 bif q4
 then (Option.bind (X3) fun r5 =>
 Option.bind (a5V n ([r5]:List Val) (Api_Type.mk ([Api_TypeNode.mk 9 0 0 (⟨#[]⟩:ByteArray) ([]:List Int) ([]:List Api_Field) (0,0)]:List Api_TypeNode) 0) (Api_Box.mk ([Api_Goal.mk ([0]:List Int) ([]:List Int) false]:List Api_Goal))) fun r6 =>
 some r6)
 else (some false)
def y2 (s:Semtypebase_Source)(n_1:Int):Option (Int×Semtypebase_Source) :=
 Option.bind (bif decide (n_1<1)
 then (some true)
 else (some (decide ((s.L.length:Int)<=s.At)))) fun q1 =>
 bif q1
 then (some (0,s))
 else (Option.bind (idx s.L s.At) fun e2 =>
 Option.bind (b8R e2 n_1) fun d3 =>
 bif decide (d3<0)
 then (some (wr .i64 (d3+n_1),Semtypebase_Source.mk s.L (wr .i64 (s.At+1))))
 else (some (d3,Semtypebase_Source.mk s.L (wr .i64 (s.At+1)))))
def K7 (s:Semtypebase_Source):Option (ByteArray×Semtypebase_Source) :=
 Option.bind (y2 s 4) fun r1 =>
 Option.bind (idx ([(⟨#[97]⟩:ByteArray),(⟨#[98]⟩:ByteArray),(⟨#[111,107]⟩:ByteArray),(⟨#[101,114,114,111,114]⟩:ByteArray)]:List ByteArray) r1.1) fun _ =>
 Option.bind (([(⟨#[97]⟩:ByteArray),(⟨#[98]⟩:ByteArray),(⟨#[111,107]⟩:ByteArray),(⟨#[101,114,114,111,114]⟩:ByteArray)]:List ByteArray)[r1.1.toNat]?) fun e3 =>
 some (e3,r1.2)
def a0c (s:Semtypebase_Source):Option (ByteArray×Semtypebase_Source) :=
 Option.bind (y2 s 4) fun r1 =>
 Option.bind (idx ([(⟨#[]⟩:ByteArray),(⟨#[115]⟩:ByteArray),(⟨#[120,32,121]⟩:ByteArray),(⟨#[97]⟩:ByteArray)]:List ByteArray) r1.1) fun _ =>
 Option.bind (([(⟨#[]⟩:ByteArray),(⟨#[115]⟩:ByteArray),(⟨#[120,32,121]⟩:ByteArray),(⟨#[97]⟩:ByteArray)]:List ByteArray)[r1.1.toNat]?) fun e3 =>
 some (e3,r1.2)
def a0x (s:Semtypebase_Source):Option (ByteArray×Semtypebase_Source) :=
 Option.bind (y2 s 3) fun r1 =>
 Option.bind (idx ([(⟨#[65]⟩:ByteArray),(⟨#[66]⟩:ByteArray),(⟨#[67]⟩:ByteArray)]:List ByteArray) r1.1) fun _ =>
 Option.bind (([(⟨#[65]⟩:ByteArray),(⟨#[66]⟩:ByteArray),(⟨#[67]⟩:ByteArray)]:List ByteArray)[r1.1.toNat]?) fun e3 =>
 some (e3,r1.2)
def a1f (from_:Int)(n_3:Int)(x1:Int×(List Int)×Semtypebase_Source):Option (Fl (Int×(List Int)×Semtypebase_Source) ((List Int)×Semtypebase_Source)) :=
 bif decide (0<x1.1)
 then (Option.bind (y2 x1.2.2 (wr .i64 (n_3-from_))) fun r2 =>
 Option.bind (Y1 (x1.2.1.length+([wr .i64 (from_+r2.1)]:List Int).length) 8) fun _ =>
 some (.next (wr .i64 (x1.1-1),x1.2.1++([wr .i64 (from_+r2.1)]:List Int),r2.2)))
 else (some (.done (x1.2.1,x1.2.2)))
def v7 (s:Semtypebase_Source)(many:Int)(from_:Int)(n_3:Int):Option ((List Int)×Semtypebase_Source) :=
 Option.bind (y4 (a1f from_ n_3) (many.toNat+2) (many,[],s)) fun b4 =>
 some (b4.1,b4.2)
def W2 (n_1:Int)(x3:Int×Semtypebase_Source×(Int×Int×Int×ByteArray×(List Int)×(List Api_Field)×Int×Int)):Option (Fl (Int×Semtypebase_Source×(Int×Int×Int×ByteArray×(List Int)×(List Api_Field)×Int×Int)) (Semtypebase_Source×(Int×Int×Int×ByteArray×(List Int)×(List Api_Field)×Int×Int))) :=
 bif decide (x3.1<3)
 then (Option.bind (Option.bind (y2 x3.2.1 2) fun r4 =>
 bif r4.1==1
 then (Option.bind (idx ([Key.mk 0 (⟨#[97]⟩:ByteArray),Key.mk 0 (⟨#[98]⟩:ByteArray),Key.mk 1 (⟨#[115]⟩:ByteArray)]:List Key) x3.1) fun e5 =>
 Option.bind (y2 r4.2 n_1) fun r6 =>
 Option.bind (y2 r6.2 2) fun r7 =>
 Option.bind (Y1 (x3.2.2.2.2.2.2.2.1.length+([Api_Field.mk e5 r6.1 (r7.1==1)]:List Api_Field).length) 40) fun _ =>
 some (r7.2,(x3.2.2.1,x3.2.2.2.1,x3.2.2.2.2.1,x3.2.2.2.2.2.1,x3.2.2.2.2.2.2.1,x3.2.2.2.2.2.2.2.1++([Api_Field.mk e5 r6.1 (r7.1==1)]:List Api_Field),x3.2.2.2.2.2.2.2.2.1,x3.2.2.2.2.2.2.2.2.2)))
 else (some (r4.2,(x3.2.2.1,x3.2.2.2.1,x3.2.2.2.2.1,x3.2.2.2.2.2.1,x3.2.2.2.2.2.2.1,x3.2.2.2.2.2.2.2.1,x3.2.2.2.2.2.2.2.2.1,x3.2.2.2.2.2.2.2.2.2)))) fun b9 =>
 some (.next (wr .i64 (x3.1+1),b9.1,(b9.2.1,b9.2.2.1,b9.2.2.2.1,b9.2.2.2.2.1,b9.2.2.2.2.2.1,b9.2.2.2.2.2.2.1,b9.2.2.2.2.2.2.2.1,b9.2.2.2.2.2.2.2.2))))
 else (some (.done (x3.2.1,(x3.2.2.1,x3.2.2.2.1,x3.2.2.2.2.1,x3.2.2.2.2.2.1,x3.2.2.2.2.2.2.1,x3.2.2.2.2.2.2.2.1,x3.2.2.2.2.2.2.2.2.1,x3.2.2.2.2.2.2.2.2.2))))
def a10 (s:Semtypebase_Source)(n_1:Int):Option (Api_TypeNode×Semtypebase_Source) :=
 Option.bind (y2 s n_1) fun r1 =>
 Option.bind (y2 r1.2 n_1) fun r2 =>
 Option.bind (y4 (W2 n_1) ((3:Int).toNat+1) (0,r2.2,(13,0,0,(⟨#[]⟩:ByteArray),[],[],r1.1,r2.1))) fun b10 =>
 some (Api_TypeNode.mk b10.2.1 b10.2.2.1 b10.2.2.2.1 b10.2.2.2.2.1 b10.2.2.2.2.2.1 b10.2.2.2.2.2.2.1 (b10.2.2.2.2.2.2.2.1,b10.2.2.2.2.2.2.2.2),b10.1)
def a2M (d:Semtypebase_Source)(t:Int)(a2_2:Int):Option (Api_TypeNode×Semtypebase_Source) :=
 Option.bind (bif t==(wr .i64 (a2_2-1))
 then (some 14)
 else (some 18)) fun (b1:Int) =>
 Option.bind (y2 d b1) fun r2 =>
 bif r2.1==0
 then (Option.bind (y2 r2.2 5) fun r3 =>
 Option.bind (idx ([(-9223372036854775808),0,1,2,9223372036854775807]:List Int) r3.1) fun _ =>
 Option.bind (([(-9223372036854775808),0,1,2,9223372036854775807]:List Int)[r3.1.toNat]?) fun e5 =>
 Option.bind (y2 r3.2 (wr .i64 (5-r3.1))) fun r6 =>
 Option.bind (idx ([(-9223372036854775808),0,1,2,9223372036854775807]:List Int) (wr .i64 (r3.1+r6.1))) fun _ =>
 Option.bind (([(-9223372036854775808),0,1,2,9223372036854775807]:List Int)[(wr .i64 (r3.1+r6.1)).toNat]?) fun e8 =>
 some (Api_TypeNode.mk 3 e5 e8 (⟨#[]⟩:ByteArray) ([]:List Int) ([]:List Api_Field) (0,0),r6.2))
 else (bif r2.1==1
 then (Option.bind (K7 r2.2) fun r9 =>
 some (Api_TypeNode.mk 6 0 0 r9.1 ([]:List Int) ([]:List Api_Field) (0,0),r9.2))
 else (bif r2.1==2
 then (some (Api_TypeNode.mk 7 0 0 (⟨#[]⟩:ByteArray) ([]:List Int) ([]:List Api_Field) (0,0),r2.2))
 else (bif r2.1==3
 then (Option.bind (a0c r2.2) fun r10 =>
 some (Api_TypeNode.mk 4 0 0 r10.1 ([]:List Int) ([]:List Api_Field) (0,0),r10.2))
 else (bif r2.1==4
 then (Option.bind (y2 r2.2 4) fun r11 =>
 Option.bind (idx ([5,8,11,15]:List Int) r11.1) fun _ =>
 Option.bind (([5,8,11,15]:List Int)[r11.1.toNat]?) fun e13 =>
 some (Api_TypeNode.mk e13 0 0 (⟨#[]⟩:ByteArray) ([]:List Int) ([]:List Api_Field) (0,0),r11.2))
 else (bif r2.1==5
 then (some (Api_TypeNode.mk 9 0 0 (⟨#[]⟩:ByteArray) ([]:List Int) ([]:List Api_Field) (0,0),r2.2))
 else (bif r2.1==6
 then (Option.bind (y2 r2.2 2) fun r14 =>
 Option.bind (idx ([2,1]:List Int) r14.1) fun _ =>
 Option.bind (([2,1]:List Int)[r14.1.toNat]?) fun e16 =>
 some (Api_TypeNode.mk e16 0 0 (⟨#[]⟩:ByteArray) ([]:List Int) ([]:List Api_Field) (0,0),r14.2))
 else (bif r2.1==7
 then (Option.bind (a0x r2.2) fun r17 =>
 some (Api_TypeNode.mk 19 0 0 r17.1 ([]:List Int) ([]:List Api_Field) (0,0),r17.2))
 else (Option.bind (bif r2.1==8
 then (some (r2.1==8))
 else (some (r2.1==9))) fun b18 =>
 bif b18
 then (Option.bind (y2 r2.2 3) fun r19 =>
 Option.bind (v7 r19.2 r19.1 0 a2_2) fun r20 =>
 some (Api_TypeNode.mk 10 0 0 (⟨#[]⟩:ByteArray) r20.1 ([]:List Api_Field) (0,0),r20.2))
 else (bif r2.1==10
 then (Option.bind (v7 r2.2 2 0 a2_2) fun r21 =>
 some (Api_TypeNode.mk 12 0 0 (⟨#[]⟩:ByteArray) r21.1 ([]:List Api_Field) (0,0),r21.2))
 else (bif r2.1==11
 then (Option.bind (a10 r2.2 a2_2) fun r22 =>
 some (r22.1,r22.2))
 else (Option.bind (bif r2.1==12
 then (some (r2.1==12))
 else (some (r2.1==13))) fun b23 =>
 bif b23
 then (Option.bind (y2 r2.2 3) fun r24 =>
 Option.bind (v7 r24.2 (wr .i64 (1+r24.1)) 0 a2_2) fun r25 =>
 some (Api_TypeNode.mk 14 0 0 (⟨#[]⟩:ByteArray) r25.1 ([]:List Api_Field) (0,0),r25.2))
 else (bif r2.1==14
 then (Option.bind (v7 r2.2 1 (wr .i64 (t+1)) a2_2) fun r26 =>
 some (Api_TypeNode.mk 18 0 0 (⟨#[]⟩:ByteArray) r26.1 ([]:List Api_Field) (0,0),r26.2))
 else (bif r2.1==15
 then (Option.bind (v7 r2.2 2 (wr .i64 (t+1)) a2_2) fun r27 =>
 some (Api_TypeNode.mk 17 0 0 (⟨#[]⟩:ByteArray) r27.1 ([]:List Api_Field) (0,0),r27.2))
 else (Option.bind (y2 r2.2 2) fun r28 =>
 Option.bind (v7 r28.2 (wr .i64 (2+r28.1)) (wr .i64 (t+1)) a2_2) fun r29 =>
 some (Api_TypeNode.mk 16 0 0 (⟨#[]⟩:ByteArray) r29.1 ([]:List Api_Field) (0,0),r29.2)))))))))))))))
def a0S (n_1:Int)(x1:Int×Semtypebase_Source×((List Api_TypeNode)×Int)):Option (Fl (Int×Semtypebase_Source×((List Api_TypeNode)×Int)) (Semtypebase_Source×((List Api_TypeNode)×Int))) :=
 bif decide (x1.1<(max n_1 1))
 then (Option.bind (a2M x1.2.1 x1.1 (max n_1 1)) fun r2 =>
 Option.bind (Y1 (x1.2.2.1.length+([r2.1]:List Api_TypeNode).length) 104) fun _ =>
 some (.next (wr .i64 (x1.1+1),r2.2,(x1.2.2.1++([r2.1]:List Api_TypeNode),x1.2.2.2))))
 else (some (.done (x1.2.1,(x1.2.2.1,x1.2.2.2))))
def a1D (s:Semtypebase_Source)(n_1:Int):Option (Api_Type×Semtypebase_Source) :=
 Option.bind (y4 (a0S n_1) ((max n_1 1).toNat+1) (0,s,([],0))) fun b4 =>
 some (Api_Type.mk b4.2.1 b4.2.2,b4.1)
def a2i (s:Semtypebase_Source):Option (Int×Semtypebase_Source) :=
 Option.bind (y2 s 10) fun r1 =>
 Option.bind (idx ([0,1,(-1),2,3,(-2),7,(-9223372036854775808),9223372036854775807,10]:List Int) r1.1) fun _ =>
 Option.bind (([0,1,(-1),2,3,(-2),7,(-9223372036854775808),9223372036854775807,10]:List Int)[r1.1.toNat]?) fun e3 =>
 some (e3,r1.2)
def a79 (n_0:Int):Option Val :=
 some (Val.mk 1 n_0 (⟨#[]⟩:ByteArray) ([]:List Val) ([]:List Key) ([]:List Ent) ([]:List ByteArray))
def a5F (s:ByteArray):Option Val :=
 some (Val.mk 3 0 s ([]:List Val) ([]:List Key) ([]:List Ent) ([]:List ByteArray))
def a4O (s:ByteArray):Option Val :=
 some (Val.mk 2 0 s ([]:List Val) ([]:List Key) ([]:List Ent) ([]:List ByteArray))
def a8G (n_0:Int):Option Val :=
 some (Val.mk 4 n_0 (⟨#[]⟩:ByteArray) ([]:List Val) ([]:List Key) ([]:List Ent) ([]:List ByteArray))
def a1j (l:List Val):Option (List Val) :=
 Option.bind (Y1 (0+l.length) 128) fun _ =>
 some l
def a3B (l:List Val):Option Val :=
 Option.bind (a1j l) fun r1 =>
 some (Val.mk 6 0 (⟨#[]⟩:ByteArray) r1 ([]:List Key) ([]:List Ent) ([]:List ByteArray))
def J9 (s:Semtypebase_Source):Option (Val×Semtypebase_Source) :=
 Option.bind (y2 s 6) fun r1 =>
 bif r1.1==0
 then (Option.bind (a2i r1.2) fun r2 =>
 Option.bind (a79 r2.1) fun r3 =>
 some (r3,r2.2))
 else (bif r1.1==1
 then (Option.bind (K7 r1.2) fun r4 =>
 Option.bind (a5F r4.1) fun r5 =>
 some (r5,r4.2))
 else (bif r1.1==2
 then (Option.bind (a0c r1.2) fun r6 =>
 Option.bind (a4O r6.1) fun r7 =>
 some (r7,r6.2))
 else (bif r1.1==3
 then (Option.bind (y2 r1.2 3) fun r8 =>
 Option.bind (a8G r8.1) fun r9 =>
 some (r9,r8.2))
 else (bif r1.1==4
 then (Option.bind (X3) fun r10 =>
 some (r10,r1.2))
 else (Option.bind (a3B ([]:List Val)) fun r11 =>
 some (r11,r1.2))))))
def a2x (c:Int):Option Bool :=
 Option.bind (bif decide (97<=c)
 then (some (decide (c<=122)))
 else (some false)) fun q1 =>
 some q1
def a3C (c:Int):Option Bool :=
 Option.bind (bif decide (48<=c)
 then (some (decide (c<=57)))
 else (some false)) fun q1 =>
 some q1
def a5p (s:ByteArray)(x5:Int):Option (Fl Int (Sum Unit Bool)) :=
 bif decide (x5<(s.size:Int))
 then (Option.bind (a5H s x5) fun e6 =>
 Option.bind (a2x (e6.toNat:Int)) fun r7 =>
 Option.bind (bif !r7
 then (Option.bind (a5H s x5) fun e8 =>
 Option.bind (a3C (e8.toNat:Int)) fun r9 =>
 some (!r9))
 else (some false)) fun q10 =>
 Option.bind (bif q10
 then (Option.bind (a5H s x5) fun e11 =>
 some ((e11.toNat:Int) != 95))
 else (some false)) fun q12 =>
 bif q12
 then (some (.done (.inr false)))
 else (some (.next (wr .i64 (x5+1)))))
 else (some (.done (.inl ())))
def a13 (s:ByteArray):Option Bool :=
 Option.bind (bif decide ((s.size:Int)<1)
 then (some true)
 else (some (decide (16<(s.size:Int))))) fun q1 =>
 Option.bind (bif q1
 then (some true)
 else (Option.bind (a5H s 0) fun e2 =>
 Option.bind (a2x (e2.toNat:Int)) fun r3 =>
 some (!r3))) fun q4 =>
 bif q4
 then (some false)
 else (Option.bind (y4 (a5p s) ((s.size:Int).toNat+1) 1) fun b13 =>
 k7 (fun _ =>
 some true) (fun y15 =>
 some y15) b13)
def a1r (k:Key):Option Bool :=
 Option.bind (bif k.Kind==0
 then (Option.bind (a13 k.Text) fun r1 =>
 some r1)
 else (some false)) fun q2 =>
 Option.bind (bif q2
 then (some true)
 else (Option.bind (bif k.Kind==1
 then (some (decide ((k.Text.size:Int)<=64)))
 else (some false)) fun q3 =>
 some q3)) fun q4 =>
 some q4
def a2y (a:Int)(b:Int):Option Int :=
 bif decide (a<b)
 then (some (-1))
 else (bif decide (b<a)
 then (some 1)
 else (some 0))
def a1i (a:ByteArray)(b:ByteArray):Option Int :=
 bif a2P a b
 then (some (-1))
 else (bif !(a2P a b||Q4 a b)
 then (some 1)
 else (some 0))
def V7 (a:Key)(b:Key):Option Int :=
 bif a.Kind != b.Kind
 then (Option.bind (a2y a.Kind b.Kind) fun r1 =>
 some r1)
 else (Option.bind (a1i a.Text b.Text) fun r2 =>
 some r2)
def a17 (d:List Key)(x1:Int×(Int×Int×ByteArray×(List Val)×(List Key)×(List Ent)×(List ByteArray))):Option (Fl (Int×(Int×Int×ByteArray×(List Val)×(List Key)×(List Ent)×(List ByteArray))) (Sum (Int×Int×ByteArray×(List Val)×(List Key)×(List Ent)×(List ByteArray)) (Int×(Int×Int×ByteArray×(List Val)×(List Key)×(List Ent)×(List ByteArray))))) :=
 bif decide (x1.1<(d.length:Int))
 then (Option.bind (idx d x1.1) fun e2 =>
 Option.bind (a1r e2) fun r3 =>
 bif !r3
 then (some (.done (.inr (1,(0,0,(⟨#[]⟩:ByteArray),[],[],[],[])))))
 else (some (.next (wr .i64 (x1.1+1),(x1.2.1,x1.2.2.1,x1.2.2.2.1,x1.2.2.2.2.1,x1.2.2.2.2.2.1,x1.2.2.2.2.2.2.1,x1.2.2.2.2.2.2.2)))))
 else (some (.done (.inl (x1.2.1,x1.2.2.1,x1.2.2.2.1,x1.2.2.2.2.1,x1.2.2.2.2.2.1,x1.2.2.2.2.2.2.1,x1.2.2.2.2.2.2.2))))
def a4I (d:List Key)(x7:Int×(Int×Int×ByteArray×(List Val)×(List Key)×(List Ent)×(List ByteArray))×(Int×Int×ByteArray×(List Val)×(List Key)×(List Ent)×(List ByteArray)))(x8:Int):Option (Fl Int Int) :=
 Option.bind (bif decide (x8<(x7.2.2.2.2.2.2.1.length:Int))
 then (Option.bind (idx x7.2.2.2.2.2.2.1 x8) fun e9 =>
 Option.bind (idx d x7.1) fun e10 =>
 Option.bind (V7 e9 e10) fun r11 =>
 some (decide (r11<0)))
 else (some false)) fun q12 =>
 bif q12
 then (some (.next (wr .i64 (x8+1))))
 else (some (.done x8))
def a1o (d:List Key)(t:List Val)(x7:Int×(Int×Int×ByteArray×(List Val)×(List Key)×(List Ent)×(List ByteArray))×(Int×Int×ByteArray×(List Val)×(List Key)×(List Ent)×(List ByteArray))):Option (Fl (Int×(Int×Int×ByteArray×(List Val)×(List Key)×(List Ent)×(List ByteArray))×(Int×Int×ByteArray×(List Val)×(List Key)×(List Ent)×(List ByteArray))) (Sum ((Int×Int×ByteArray×(List Val)×(List Key)×(List Ent)×(List ByteArray))×(Int×Int×ByteArray×(List Val)×(List Key)×(List Ent)×(List ByteArray))) (Int×(Int×Int×ByteArray×(List Val)×(List Key)×(List Ent)×(List ByteArray))×(Int×Int×ByteArray×(List Val)×(List Key)×(List Ent)×(List ByteArray))))) :=
 bif decide (x7.1<(d.length:Int))
 then (Option.bind (y4 (a4I d x7) ((x7.2.2.2.2.2.2.1.length:Int).toNat+1) 0) fun b13 =>
 Option.bind (bif decide (b13<(x7.2.2.2.2.2.2.1.length:Int))
 then (Option.bind (idx x7.2.2.2.2.2.2.1 b13) fun e14 =>
 Option.bind (idx d x7.1) fun e15 =>
 some (a3n e14 e15))
 else (some false)) fun q16 =>
 bif q16
 then (some (.done (.inr (6,(0,0,(⟨#[]⟩:ByteArray),[],[],[],[]),(x7.2.2.1,x7.2.2.2.1,x7.2.2.2.2.1,x7.2.2.2.2.2.1,x7.2.2.2.2.2.2.1,x7.2.2.2.2.2.2.2.1,x7.2.2.2.2.2.2.2.2)))))
 else (Option.bind (cut x7.2.2.2.2.2.2.1 0 b13) fun y17 =>
 Option.bind (Y1 (0+y17.length) 24) fun _ =>
 Option.bind (cut x7.2.2.2.2.2.1 0 b13) fun y19 =>
 Option.bind (a1j y19) fun r20 =>
 Option.bind (idx d x7.1) fun e21 =>
 Option.bind (Y1 (y17.length+([e21]:List Key).length) 24) fun _ =>
 Option.bind (cut x7.2.2.2.2.2.2.1 b13 (x7.2.2.2.2.2.2.1.length:Int)) fun y23 =>
 Option.bind (Y1 ((y17++([e21]:List Key)).length+y23.length) 24) fun _ =>
 Option.bind (idx t x7.1) fun e25 =>
 Option.bind (Y1 (r20.length+([e25]:List Val).length) 128) fun _ =>
 Option.bind (cut x7.2.2.2.2.2.1 b13 (x7.2.2.2.2.2.1.length:Int)) fun y27 =>
 Option.bind (Y1 ((r20++([e25]:List Val)).length+y27.length) 128) fun _ =>
 some (.next (wr .i64 (x7.1+1),(x7.2.1.1,x7.2.1.2.1,x7.2.1.2.2.1,x7.2.1.2.2.2.1,x7.2.1.2.2.2.2.1,x7.2.1.2.2.2.2.2.1,x7.2.1.2.2.2.2.2.2),(x7.2.2.1,x7.2.2.2.1,x7.2.2.2.2.1,(r20++([e25]:List Val))++y27,(y17++([e21]:List Key))++y23,x7.2.2.2.2.2.2.2.1,x7.2.2.2.2.2.2.2.2)))))
 else (some (.done (.inl ((x7.2.1.1,x7.2.1.2.1,x7.2.1.2.2.1,x7.2.1.2.2.2.1,x7.2.1.2.2.2.2.1,x7.2.1.2.2.2.2.2.1,x7.2.1.2.2.2.2.2.2),(x7.2.2.1,x7.2.2.2.1,x7.2.2.2.2.1,x7.2.2.2.2.2.1,x7.2.2.2.2.2.2.1,x7.2.2.2.2.2.2.2.1,x7.2.2.2.2.2.2.2.2)))))
def a2k (d:List Key)(t:List Val):Option (Val×Int) :=
 bif (d.length:Int) != (t.length:Int)
 then (some (Val.mk 0 0 (⟨#[]⟩:ByteArray) ([]:List Val) ([]:List Key) ([]:List Ent) ([]:List ByteArray),1))
 else (Option.bind (y4 (a17 d) ((d.length:Int).toNat+1) (0,(0,0,(⟨#[]⟩:ByteArray),[],[],[],[]))) fun (b4:Sum (Int×Int×ByteArray×(List Val)×(List Key)×(List Ent)×(List ByteArray)) (Int×(Int×Int×ByteArray×(List Val)×(List Key)×(List Ent)×(List ByteArray)))) =>
 k7 (fun x5 =>
 Option.bind (y4 (a1o d t) ((d.length:Int).toNat+1) (0,(x5.1,x5.2.1,x5.2.2.1,x5.2.2.2.1,x5.2.2.2.2.1,x5.2.2.2.2.2.1,x5.2.2.2.2.2.2),(8,0,(⟨#[]⟩:ByteArray),([]:List Val),([]:List Key),[],[]))) fun (b29:Sum ((Int×Int×ByteArray×(List Val)×(List Key)×(List Ent)×(List ByteArray))×(Int×Int×ByteArray×(List Val)×(List Key)×(List Ent)×(List ByteArray))) (Int×(Int×Int×ByteArray×(List Val)×(List Key)×(List Ent)×(List ByteArray))×(Int×Int×ByteArray×(List Val)×(List Key)×(List Ent)×(List ByteArray)))) =>
 k7 (fun x30 =>
 some (Val.mk x30.2.1 x30.2.2.1 x30.2.2.2.1 x30.2.2.2.2.1 x30.2.2.2.2.2.1 x30.2.2.2.2.2.2.1 x30.2.2.2.2.2.2.2,0)) (fun y31 =>
 some (Val.mk y31.2.1.1 y31.2.1.2.1 y31.2.1.2.2.1 y31.2.1.2.2.2.1 y31.2.1.2.2.2.2.1 y31.2.1.2.2.2.2.2.1 y31.2.1.2.2.2.2.2.2,y31.1)) b29) (fun y6 =>
 some (Val.mk y6.2.1 y6.2.2.1 y6.2.2.2.1 y6.2.2.2.2.1 y6.2.2.2.2.2.1 y6.2.2.2.2.2.2.1 y6.2.2.2.2.2.2.2,y6.1)) b4)
def a0w (a:Int)(b:Int):Option Int :=
 Option.bind (a2y a b) fun r1 =>
 some r1
def a7r (d:Val)(t:Val)(x5:Int):Option (Fl Int (Sum Unit Int)) :=
 bif decide (x5<(d.Keys.length:Int))
 then (Option.bind (idx d.Keys x5) fun e6 =>
 Option.bind (idx t.Keys x5) fun e7 =>
 Option.bind (V7 e6 e7) fun r8 =>
 bif r8 != 0
 then (some (.done (.inr r8)))
 else (some (.next (wr .i64 (x5+1)))))
 else (some (.done (.inl ())))
def a7i (d:Val)(t:Val)(rec_semtyperef1_CompareEntries:Ent->Ent->Option Int)(x14:Int):Option (Fl Int (Sum Unit Int)) :=
 bif decide (x14<(d.Entries.length:Int))
 then (Option.bind (idx d.Entries x14) fun e15 =>
 Option.bind (idx t.Entries x14) fun e16 =>
 Option.bind (rec_semtyperef1_CompareEntries e15 e16) fun r17 =>
 bif r17 != 0
 then (some (.done (.inr r17)))
 else (some (.next (wr .i64 (x14+1)))))
 else (some (.done (.inl ())))
def a7f (d:Val)(t:Val)(x22:Int):Option (Fl Int (Sum Unit Int)) :=
 bif decide (x22<(d.Labels.length:Int))
 then (Option.bind (idx d.Labels x22) fun e23 =>
 Option.bind (idx t.Labels x22) fun e24 =>
 Option.bind (a1i e23 e24) fun r25 =>
 bif r25 != 0
 then (some (.done (.inr r25)))
 else (some (.next (wr .i64 (x22+1)))))
 else (some (.done (.inl ())))
def a7V (a:List Val)(b:List Val)(rec_semtyperef1_Compare:Val->Val->Option Int)(x2:Int):Option (Fl Int (Sum Unit Int)) :=
 bif decide (x2<(a.length:Int))
 then (Option.bind (idx a x2) fun e3 =>
 Option.bind (idx b x2) fun e4 =>
 Option.bind (rec_semtyperef1_Compare e3 e4) fun r5 =>
 bif r5 != 0
 then (some (.done (.inr r5)))
 else (some (.next (wr .i64 (x2+1)))))
 else (some (.done (.inl ())))
def a5g (_:Nat)(_:Val->Val->Option Int)(rec_semtyperef1_values:(List Val)->(List Val)->Option Int)(rec_semtyperef1_CompareEntries:Ent->Ent->Option Int)(d:Val)(t:Val):Option Int :=
 bif d.Kind != t.Kind
 then (Option.bind (a0w d.Kind t.Kind) fun r1 =>
 some r1)
 else (bif d.Int_ != t.Int_
 then (Option.bind (a2y d.Int_ t.Int_) fun r2 =>
 some r2)
 else (bif !(Q4 d.Text t.Text)
 then (Option.bind (a1i d.Text t.Text) fun r3 =>
 some r3)
 else (bif (d.Keys.length:Int) != (t.Keys.length:Int)
 then (Option.bind (a0w (d.Keys.length:Int) (t.Keys.length:Int)) fun r4 =>
 some r4)
 else (Option.bind (y4 (a7r d t) ((d.Keys.length:Int).toNat+1) 0) fun b9 =>
 k7 (fun _ =>
 Option.bind (rec_semtyperef1_values d.Kids t.Kids) fun r12 =>
 bif r12 != 0
 then (some r12)
 else (bif (d.Entries.length:Int) != (t.Entries.length:Int)
 then (Option.bind (a0w (d.Entries.length:Int) (t.Entries.length:Int)) fun r13 =>
 some r13)
 else (Option.bind (y4 (a7i d t rec_semtyperef1_CompareEntries) ((d.Entries.length:Int).toNat+1) 0) fun b18 =>
 k7 (fun _ =>
 bif (d.Labels.length:Int) != (t.Labels.length:Int)
 then (Option.bind (a0w (d.Labels.length:Int) (t.Labels.length:Int)) fun r21 =>
 some r21)
 else (Option.bind (y4 (a7f d t) ((d.Labels.length:Int).toNat+1) 0) fun b26 =>
 k7 (fun _ =>
 some 0) (fun y28 =>
 some y28) b26)) (fun y20 =>
 some y20) b18))) (fun y11 =>
 some y11) b9))))
def a5J (_:Nat)(rec_semtyperef1_Compare:Val->Val->Option Int)(_:(List Val)->(List Val)->Option Int)(_:Ent->Ent->Option Int)(a:List Val)(b:List Val):Option Int :=
 bif (a.length:Int) != (b.length:Int)
 then (Option.bind (a0w (a.length:Int) (b.length:Int)) fun r1 =>
 some r1)
 else (Option.bind (y4 (a7V a b rec_semtyperef1_Compare) ((a.length:Int).toNat+1) 0) fun b6 =>
 k7 (fun _ =>
 some 0) (fun y8 =>
 some y8) b6)
def a2S (_:Nat)(rec_semtyperef1_Compare:Val->Val->Option Int)(rec_semtyperef1_values:(List Val)->(List Val)->Option Int)(_:Ent->Ent->Option Int)(a:Ent)(b:Ent):Option Int :=
 Option.bind (rec_semtyperef1_values a.Args b.Args) fun r1 =>
 bif r1 != 0
 then (some r1)
 else (bif a.Fails != b.Fails
 then (bif a.Fails
 then (some (-1))
 else (some 1))
 else (Option.bind (rec_semtyperef1_Compare a.Result b.Result) fun r2 =>
 some r2))
def Y8:Nat->(Val->Val->Option Int)×((List Val)->(List Val)->Option Int)×(Ent->Ent->Option Int)
 | 0=>(fun _ _=>none,fun _ _=>none,fun _ _=>none)
 | n+1=>(a5g n ((Y8 n).1) ((Y8 n).2.1) ((Y8 n).2.2),a5J n ((Y8 n).1) ((Y8 n).2.1) ((Y8 n).2.2),a2S n ((Y8 n).1) ((Y8 n).2.1) ((Y8 n).2.2))
def a0t (n:Nat):Val->Val->Option Int:=(Y8 n).1
def a3d (n:Nat):(List Val)->(List Val)->Option Int:=(Y8 n).2.1
def Z9 (n:Nat):Ent->Ent->Option Int:=(Y8 n).2.2
def a3F (n:Nat)(a:Val)(b:Val):Option Bool :=
 Option.bind (a0t n a b) fun r1 =>
 some (r1==0)
def a2Z (l:List Ent)(x1:(List Ent)×Int)(n:Nat)(x2:Int):Option (Fl Int Int) :=
 Option.bind (bif decide (x2<(x1.1.length:Int))
 then (Option.bind (idx x1.1 x2) fun e3 =>
 Option.bind (idx l x1.2) fun _ =>
 Option.bind (l[x1.2.toNat]?) fun e5 =>
 Option.bind (Z9 n e3 e5) fun r6 =>
 some (decide (r6<0)))
 else (some false)) fun q7 =>
 bif q7
 then (some (.next (wr .i64 (x2+1))))
 else (some (.done x2))
def a0l (l:List Ent)(n:Nat)(x1:(List Ent)×Int):Option (Fl ((List Ent)×Int) (List Ent)) :=
 bif decide (x1.2<(l.length:Int))
 then (Option.bind (Option.bind (y4 (a2Z l x1 n) ((x1.1.length:Int).toNat+1) 0) fun b8 =>
 Option.bind (bif decide (b8<(x1.1.length:Int))
 then (Option.bind (idx x1.1 b8) fun e9 =>
 Option.bind (idx l x1.2) fun _ =>
 Option.bind (l[x1.2.toNat]?) fun e11 =>
 Option.bind (Z9 n e9 e11) fun r12 =>
 some (r12==0))
 else (some false)) fun q13 =>
 bif q13
 then (some x1.1)
 else (Option.bind (cut x1.1 0 b8) fun y14 =>
 Option.bind (Y1 (0+y14.length) 160) fun _ =>
 Option.bind (idx l x1.2) fun _ =>
 Option.bind (l[x1.2.toNat]?) fun e17 =>
 Option.bind (Y1 (y14.length+([e17]:List Ent).length) 160) fun _ =>
 Option.bind (cut x1.1 b8 (x1.1.length:Int)) fun y19 =>
 Option.bind (Y1 ((y14++([e17]:List Ent)).length+y19.length) 160) fun _ =>
 some ((y14++([e17]:List Ent))++y19))) fun b21 =>
 some (.next (b21,wr .i64 (x1.2+1))))
 else (some (.done x1.1))
def a4s (n:Nat)(l:List Ent):Option (List Ent) :=
 Option.bind (y4 (a0l l n) ((l.length:Int).toNat+1) (([]:List Ent),0)) fun b22 =>
 some b22
def a0K (arity:Int)(l:List Ent)(n:Nat)(x2:Int×(Int×Int×ByteArray×(List Val)×(List Key)×(List Ent)×(List ByteArray))):Option (Fl (Int×(Int×Int×ByteArray×(List Val)×(List Key)×(List Ent)×(List ByteArray))) (Sum (Int×Int×ByteArray×(List Val)×(List Key)×(List Ent)×(List ByteArray)) (Int×(Int×Int×ByteArray×(List Val)×(List Key)×(List Ent)×(List ByteArray))))) :=
 bif decide (x2.1<(l.length:Int))
 then (Option.bind (idx l x2.1) fun _ =>
 Option.bind (l[x2.1.toNat]?) fun e4 =>
 Option.bind (bif (e4.Args.length:Int) != arity
 then (some true)
 else (Option.bind (idx l x2.1) fun _ =>
 Option.bind (l[x2.1.toNat]?) fun e6 =>
 Option.bind (bif e6.Fails
 then (Option.bind (idx l x2.1) fun _ =>
 Option.bind (l[x2.1.toNat]?) fun e8 =>
 Option.bind (a3F n e8.Result (Val.mk 0 0 (⟨#[]⟩:ByteArray) ([]:List Val) ([]:List Key) ([]:List Ent) ([]:List ByteArray))) fun r9 =>
 some (!r9))
 else (some false)) fun q10 =>
 some q10)) fun q11 =>
 bif q11
 then (some (.done (.inr (1,(0,0,(⟨#[]⟩:ByteArray),[],[],[],[])))))
 else (some (.next (wr .i64 (x2.1+1),(x2.2.1,x2.2.2.1,x2.2.2.2.1,x2.2.2.2.2.1,x2.2.2.2.2.2.1,x2.2.2.2.2.2.2.1,x2.2.2.2.2.2.2.2)))))
 else (some (.done (.inl (x2.2.1,x2.2.2.1,x2.2.2.2.1,x2.2.2.2.2.1,x2.2.2.2.2.2.1,x2.2.2.2.2.2.2.1,x2.2.2.2.2.2.2.2))))
def a2s (n:Nat)(arity:Int)(l:List Ent):Option (Val×Int) :=
 Option.bind (bif decide (arity<0)
 then (some true)
 else (some (decide (4<arity)))) fun q1 =>
 bif q1
 then (some (Val.mk 0 0 (⟨#[]⟩:ByteArray) ([]:List Val) ([]:List Key) ([]:List Ent) ([]:List ByteArray),1))
 else (Option.bind (y4 (a0K arity l n) ((l.length:Int).toNat+1) (0,(0,0,(⟨#[]⟩:ByteArray),[],[],[],[]))) fun (b12:Sum (Int×Int×ByteArray×(List Val)×(List Key)×(List Ent)×(List ByteArray)) (Int×(Int×Int×ByteArray×(List Val)×(List Key)×(List Ent)×(List ByteArray)))) =>
 k7 (fun _ =>
 Option.bind (a4s n l) fun r15 =>
 some (Val.mk 9 arity (⟨#[]⟩:ByteArray) ([]:List Val) ([]:List Key) r15 ([]:List ByteArray),0)) (fun y14 =>
 some (Val.mk y14.2.1 y14.2.2.1 y14.2.2.2.1 y14.2.2.2.2.1 y14.2.2.2.2.2.1 y14.2.2.2.2.2.2.1 y14.2.2.2.2.2.2.2,y14.1)) b12)
def a3j (l:List ByteArray)(x1:(List ByteArray)×Int)(x2:Int):Option (Fl Int Int) :=
 Option.bind (bif decide (x2<(x1.1.length:Int))
 then (Option.bind (idx x1.1 x2) fun e3 =>
 Option.bind (idx l x1.2) fun e4 =>
 some (a2P e3 e4))
 else (some false)) fun q5 =>
 bif q5
 then (some (.next (wr .i64 (x2+1))))
 else (some (.done x2))
def a0y (l:List ByteArray)(x1:(List ByteArray)×Int):Option (Fl ((List ByteArray)×Int) (List ByteArray)) :=
 bif decide (x1.2<(l.length:Int))
 then (Option.bind (Option.bind (y4 (a3j l x1) ((x1.1.length:Int).toNat+1) 0) fun b6 =>
 Option.bind (bif decide (b6<(x1.1.length:Int))
 then (Option.bind (idx x1.1 b6) fun e7 =>
 Option.bind (idx l x1.2) fun e8 =>
 some (Q4 e7 e8))
 else (some false)) fun q9 =>
 bif q9
 then (some x1.1)
 else (Option.bind (cut x1.1 0 b6) fun y10 =>
 Option.bind (Y1 (0+y10.length) 16) fun _ =>
 Option.bind (idx l x1.2) fun e12 =>
 Option.bind (Y1 (y10.length+([e12]:List ByteArray).length) 16) fun _ =>
 Option.bind (cut x1.1 b6 (x1.1.length:Int)) fun y14 =>
 Option.bind (Y1 ((y10++([e12]:List ByteArray)).length+y14.length) 16) fun _ =>
 some ((y10++([e12]:List ByteArray))++y14))) fun b16 =>
 some (.next (b16,wr .i64 (x1.2+1))))
 else (some (.done x1.1))
def a0h (l:List ByteArray):Option (List ByteArray) :=
 Option.bind (y4 (a0y l) ((l.length:Int).toNat+1) (([]:List ByteArray),0)) fun b17 =>
 some b17
def a4Z (v:Val)(names:List ByteArray):Option Val :=
 Option.bind (a0h names) fun r1 =>
 some (Val.mk v.Kind v.Int_ v.Text v.Kids v.Keys v.Entries r1)
def a5Q (head:Val)(tail:Val):Option Val :=
 some (Val.mk 7 0 (⟨#[]⟩:ByteArray) ([head,tail]:List Val) ([]:List Key) ([]:List Ent) ([]:List ByteArray))
def a07 (s:Semtypebase_Source):Option ((List ByteArray)×Semtypebase_Source) :=
 Option.bind (y2 s 3) fun r1 =>
 Option.bind (bif r1.1==1
 then (Option.bind (a0x r1.2) fun r2 =>
 Option.bind (Y1 (0+([r2.1]:List ByteArray).length) 16) fun _ =>
 Option.bind (y2 r2.2 2) fun r4 =>
 bif r4.1==1
 then (Option.bind (a0x r4.2) fun r5 =>
 Option.bind (Y1 (([r2.1]:List ByteArray).length+([r5.1]:List ByteArray).length) 16) fun _ =>
 some (([r2.1]:List ByteArray)++([r5.1]:List ByteArray),r5.2))
 else (some (([r2.1]:List ByteArray),r4.2)))
 else (some ([],r1.2))) fun b7 =>
 Option.bind (a0h b7.1) fun r8 =>
 some (r8,b7.2)
def a27 (s:Semtypebase_Source):Option (Key×Semtypebase_Source) :=
 Option.bind (y2 s 2) fun r1 =>
 bif r1.1==0
 then (Option.bind (K7 r1.2) fun r2 =>
 some (Key.mk 0 r2.1,r2.2))
 else (Option.bind (a0c r1.2) fun r3 =>
 some (Key.mk 1 r3.1,r3.2))
def a1K (t:Int)(rec_semtypebase_Source_Value:Semtypebase_Source->Int->Option (Val×Semtypebase_Source))(x4:(List Val)×Int×Semtypebase_Source):Option (Fl ((List Val)×Int×Semtypebase_Source) ((List Val)×Semtypebase_Source)) :=
 bif decide (0<x4.2.1)
 then (Option.bind (rec_semtypebase_Source_Value x4.2.2 (wr .i64 (t-1))) fun r5 =>
 Option.bind (Y1 (x4.1.length+([r5.1]:List Val).length) 128) fun _ =>
 some (.next (x4.1++([r5.1]:List Val),wr .i64 (x4.2.1-1),r5.2)))
 else (some (.done (x4.1,x4.2.2)))
def a1H (t:Int)(rec_semtypebase_Source_Value:Semtypebase_Source->Int->Option (Val×Semtypebase_Source))(x20:(List Key)×(List Val)×Int×Semtypebase_Source):Option (Fl ((List Key)×(List Val)×Int×Semtypebase_Source) ((List Key)×(List Val)×Semtypebase_Source)) :=
 bif decide (0<x20.2.2.1)
 then (Option.bind (a27 x20.2.2.2) fun r21 =>
 Option.bind (Y1 (x20.1.length+([r21.1]:List Key).length) 24) fun _ =>
 Option.bind (rec_semtypebase_Source_Value r21.2 (wr .i64 (t-1))) fun r23 =>
 Option.bind (Y1 (x20.2.1.length+([r23.1]:List Val).length) 128) fun _ =>
 some (.next (x20.1++([r21.1]:List Key),x20.2.1++([r23.1]:List Val),wr .i64 (x20.2.2.1-1),r23.2)))
 else (some (.done (x20.1,x20.2.1,x20.2.2.2)))
def a1G (t:Int)(r27:Int×Semtypebase_Source)(rec_semtypebase_Source_entry:Semtypebase_Source->Int->Int->Option (Ent×Semtypebase_Source))(x29:(List Ent)×Int×Semtypebase_Source):Option (Fl ((List Ent)×Int×Semtypebase_Source) ((List Ent)×Semtypebase_Source)) :=
 bif decide (0<x29.2.1)
 then (Option.bind (rec_semtypebase_Source_entry x29.2.2 r27.1 (wr .i64 (t-1))) fun r30 =>
 Option.bind (Y1 (x29.1.length+([r30.1]:List Ent).length) 160) fun _ =>
 some (.next (x29.1++([r30.1]:List Ent),wr .i64 (x29.2.1-1),r30.2)))
 else (some (.done (x29.1,x29.2.2)))
def a1I (height:Int)(rec_semtypebase_Source_Value:Semtypebase_Source->Int->Option (Val×Semtypebase_Source))(x1:Int×Semtypebase_Source×((List Val)×Bool×Int×Int×ByteArray×(List Val)×(List Key)×(List Ent)×(List ByteArray))):Option (Fl (Int×Semtypebase_Source×((List Val)×Bool×Int×Int×ByteArray×(List Val)×(List Key)×(List Ent)×(List ByteArray))) (Semtypebase_Source×((List Val)×Bool×Int×Int×ByteArray×(List Val)×(List Key)×(List Ent)×(List ByteArray)))) :=
 bif decide (0<x1.1)
 then (Option.bind (rec_semtypebase_Source_Value x1.2.1 height) fun r2 =>
 Option.bind (Y1 (x1.2.2.1.length+([r2.1]:List Val).length) 128) fun _ =>
 some (.next (wr .i64 (x1.1-1),r2.2,(x1.2.2.1++([r2.1]:List Val),x1.2.2.2.1,x1.2.2.2.2.1,x1.2.2.2.2.2.1,x1.2.2.2.2.2.2.1,x1.2.2.2.2.2.2.2.1,x1.2.2.2.2.2.2.2.2.1,x1.2.2.2.2.2.2.2.2.2.1,x1.2.2.2.2.2.2.2.2.2.2))))
 else (some (.done (x1.2.1,(x1.2.2.1,x1.2.2.2.1,x1.2.2.2.2.1,x1.2.2.2.2.2.1,x1.2.2.2.2.2.2.1,x1.2.2.2.2.2.2.2.1,x1.2.2.2.2.2.2.2.2.1,x1.2.2.2.2.2.2.2.2.2.1,x1.2.2.2.2.2.2.2.2.2.2))))
def a3v (_:Nat)(_:Semtypebase_Source->Int->Option (Val×Semtypebase_Source))(rec_semtypebase_Source_value:Semtypebase_Source->Int->Option (Val×Semtypebase_Source))(_:Semtypebase_Source->Int->Int->Option (Ent×Semtypebase_Source))(s:Semtypebase_Source)(height:Int):Option (Val×Semtypebase_Source) :=
 Option.bind (rec_semtypebase_Source_value s height) fun r1 =>
 Option.bind (a07 r1.2) fun r2 =>
 some (Val.mk r1.1.Kind r1.1.Int_ r1.1.Text r1.1.Kids r1.1.Keys r1.1.Entries r2.1,r2.2)
def a0T (n:Nat)(rec_semtypebase_Source_Value:Semtypebase_Source->Int->Option (Val×Semtypebase_Source))(_:Semtypebase_Source->Int->Option (Val×Semtypebase_Source))(rec_semtypebase_Source_entry:Semtypebase_Source->Int->Int->Option (Ent×Semtypebase_Source))(d:Semtypebase_Source)(t:Int):Option (Val×Semtypebase_Source) :=
 bif decide (t<=1)
 then (Option.bind (J9 d) fun r1 =>
 some (r1.1,r1.2))
 else (Option.bind (y2 d 6) fun r2 =>
 Option.bind (bif r2.1==1
 then (Option.bind (y2 r2.2 4) fun r3 =>
 Option.bind (y4 (a1K t rec_semtypebase_Source_Value) (r3.1.toNat+2) ([],r3.1,r3.2)) fun b7 =>
 Option.bind (a3B b7.1) fun r8 =>
 some (.inr (b7.2,(r8.Kind,r8.Int_,r8.Text,r8.Kids,r8.Keys,r8.Entries,r8.Labels))))
 else (bif r2.1==2
 then (Option.bind (X3) fun r9 =>
 Option.bind (bif decide (2<t)
 then (Option.bind (y2 r2.2 2) fun r10 =>
 some (r10.1==1,r10.2))
 else (some (false,r2.2))) fun b11 =>
 Option.bind (bif b11.1
 then (Option.bind (rec_semtypebase_Source_Value b11.2 (wr .i64 (t-2))) fun r12 =>
 Option.bind (X3) fun r13 =>
 Option.bind (a5Q r12.1 r13) fun r14 =>
 some (r12.2,r14))
 else (some (b11.2,r9))) fun b15 =>
 Option.bind (a07 b15.1) fun r16 =>
 Option.bind (rec_semtypebase_Source_Value r16.2 (wr .i64 (t-1))) fun r17 =>
 Option.bind (a5Q r17.1 (Val.mk b15.2.Kind b15.2.Int_ b15.2.Text b15.2.Kids b15.2.Keys b15.2.Entries r16.1)) fun r18 =>
 some (.inr (r17.2,(r18.Kind,r18.Int_,r18.Text,r18.Kids,r18.Keys,r18.Entries,r18.Labels))))
 else (bif r2.1==3
 then (Option.bind (y2 r2.2 3) fun r19 =>
 Option.bind (y4 (a1H t rec_semtypebase_Source_Value) (r19.1.toNat+2) ([],[],r19.1,r19.2)) fun b25 =>
 Option.bind (a2k b25.1 b25.2.1) fun r26 =>
 bif r26.2==0
 then (some (.inr (b25.2.2,(r26.1.Kind,r26.1.Int_,r26.1.Text,r26.1.Kids,r26.1.Keys,r26.1.Entries,r26.1.Labels))))
 else (some (.inl (b25.2.2,(0,0,(⟨#[]⟩:ByteArray),([]:List Val),([]:List Key),([]:List Ent),([]:List ByteArray))))))
 else (bif r2.1==4
 then (Option.bind (y2 r2.2 3) fun r27 =>
 Option.bind (y2 r27.2 3) fun r28 =>
 Option.bind (y4 (a1G t r27 rec_semtypebase_Source_entry) (r28.1.toNat+2) ([],r28.1,r28.2)) fun b32 =>
 Option.bind (a2s n r27.1 b32.1) fun r33 =>
 bif r33.2==0
 then (some (.inr (b32.2,(r33.1.Kind,r33.1.Int_,r33.1.Text,r33.1.Kids,r33.1.Keys,r33.1.Entries,r33.1.Labels))))
 else (some (.inl (b32.2,(0,0,(⟨#[]⟩:ByteArray),([]:List Val),([]:List Key),([]:List Ent),([]:List ByteArray))))))
 else (some (.inl (r2.2,(0,0,(⟨#[]⟩:ByteArray),([]:List Val),([]:List Key),([]:List Ent),([]:List ByteArray))))))))) fun (b34:Sum (Semtypebase_Source×(Int×Int×ByteArray×(List Val)×(List Key)×(List Ent)×(List ByteArray))) (Semtypebase_Source×(Int×Int×ByteArray×(List Val)×(List Key)×(List Ent)×(List ByteArray)))) =>
 k7 (fun x35 =>
 Option.bind (J9 x35.1) fun r37 =>
 some (r37.1,r37.2)) (fun y36 =>
 some (Val.mk y36.2.1 y36.2.2.1 y36.2.2.2.1 y36.2.2.2.2.1 y36.2.2.2.2.2.1 y36.2.2.2.2.2.2.1 y36.2.2.2.2.2.2.2,y36.1)) b34)
def a3x (_:Nat)(rec_semtypebase_Source_Value:Semtypebase_Source->Int->Option (Val×Semtypebase_Source))(_:Semtypebase_Source->Int->Option (Val×Semtypebase_Source))(_:Semtypebase_Source->Int->Int->Option (Ent×Semtypebase_Source))(s:Semtypebase_Source)(n_1:Int)(height:Int):Option (Ent×Semtypebase_Source) :=
 Option.bind (y4 (a1I height rec_semtypebase_Source_Value) (n_1.toNat+2) (n_1,s,([],false,0,0,(⟨#[]⟩:ByteArray),[],[],[],[]))) fun b4 =>
 Option.bind (y2 b4.1 4) fun r5 =>
 bif r5.1==1
 then (some (Ent.mk b4.2.1 true (Val.mk b4.2.2.2.1 b4.2.2.2.2.1 b4.2.2.2.2.2.1 b4.2.2.2.2.2.2.1 b4.2.2.2.2.2.2.2.1 b4.2.2.2.2.2.2.2.2.1 b4.2.2.2.2.2.2.2.2.2),r5.2))
 else (Option.bind (rec_semtypebase_Source_Value r5.2 height) fun r6 =>
 some (Ent.mk b4.2.1 b4.2.2.1 r6.1,r6.2))
def j5:Nat->(Semtypebase_Source->Int->Option (Val×Semtypebase_Source))×(Semtypebase_Source->Int->Option (Val×Semtypebase_Source))×(Semtypebase_Source->Int->Int->Option (Ent×Semtypebase_Source))
 | 0=>(fun _ _=>none,fun _ _=>none,fun _ _ _=>none)
 | n+1=>(a3v n ((j5 n).1) ((j5 n).2.1) ((j5 n).2.2),a0T n ((j5 n).1) ((j5 n).2.1) ((j5 n).2.2),a3x n ((j5 n).1) ((j5 n).2.1) ((j5 n).2.2))
def a2q (n:Nat):Semtypebase_Source->Int->Option (Val×Semtypebase_Source):=(j5 n).1
def b1N (n:Nat):Semtypebase_Source->Int->Option (Val×Semtypebase_Source):=(j5 n).2.1
def b1B (n:Nat):Semtypebase_Source->Int->Int->Option (Ent×Semtypebase_Source):=(j5 n).2.2
def a3E (c:Int):Option Bool :=
 Option.bind (bif decide (65<=c)
 then (some (decide (c<=90)))
 else (some false)) fun q1 =>
 some q1
def a3Q (s:ByteArray)(x5:Int):Option (Fl Int (Sum Unit Bool)) :=
 bif decide (x5<(s.size:Int))
 then (Option.bind (a5H s x5) fun e6 =>
 Option.bind (a2x (e6.toNat:Int)) fun r7 =>
 Option.bind (bif !r7
 then (Option.bind (a5H s x5) fun e8 =>
 Option.bind (a3E (e8.toNat:Int)) fun r9 =>
 some (!r9))
 else (some false)) fun q10 =>
 Option.bind (bif q10
 then (Option.bind (a5H s x5) fun e11 =>
 Option.bind (a3C (e11.toNat:Int)) fun r12 =>
 some (!r12))
 else (some false)) fun q13 =>
 Option.bind (bif q13
 then (Option.bind (a5H s x5) fun e14 =>
 some ((e14.toNat:Int) != 95))
 else (some false)) fun q15 =>
 bif q15
 then (some (.done (.inr false)))
 else (some (.next (wr .i64 (x5+1)))))
 else (some (.done (.inl ())))
def a1O (s:ByteArray):Option Bool :=
 Option.bind (bif decide ((s.size:Int)<1)
 then (some true)
 else (some (decide (16<(s.size:Int))))) fun q1 =>
 Option.bind (bif q1
 then (some true)
 else (Option.bind (a5H s 0) fun e2 =>
 Option.bind (a3E (e2.toNat:Int)) fun r3 =>
 some (!r3))) fun q4 =>
 bif q4
 then (some false)
 else (Option.bind (y4 (a3Q s) ((s.size:Int).toNat+1) 1) fun b16 =>
 k7 (fun _ =>
 some true) (fun y18 =>
 some y18) b16)
def a4l (d:Val)(x1:Int):Option (Fl Int (Sum Unit Bool)) :=
 bif decide (x1<(d.Labels.length:Int))
 then (Option.bind (idx d.Labels x1) fun e2 =>
 Option.bind (a1O e2) fun r3 =>
 Option.bind (bif !r3
 then (some true)
 else (Option.bind (bif decide (0<x1)
 then (Option.bind (idx d.Labels (wr .i64 (x1-1))) fun e4 =>
 Option.bind (idx d.Labels x1) fun e5 =>
 some (!(a2P e4 e5)))
 else (some false)) fun q6 =>
 some q6)) fun q7 =>
 bif q7
 then (some (.done (.inr false)))
 else (some (.next (wr .i64 (x1+1)))))
 else (some (.done (.inl ())))
def a4n (d:Val)(x31:Int):Option (Fl Int (Sum Unit Bool)) :=
 bif decide (x31<(d.Keys.length:Int))
 then (Option.bind (idx d.Keys x31) fun e32 =>
 Option.bind (a1r e32) fun r33 =>
 Option.bind (bif !r33
 then (some true)
 else (Option.bind (bif decide (0<x31)
 then (Option.bind (idx d.Keys (wr .i64 (x31-1))) fun e34 =>
 Option.bind (idx d.Keys x31) fun e35 =>
 Option.bind (V7 e34 e35) fun r36 =>
 some (decide (0<=r36)))
 else (some false)) fun q37 =>
 some q37)) fun q38 =>
 bif q38
 then (some (.done (.inr false)))
 else (some (.next (wr .i64 (x31+1)))))
 else (some (.done (.inl ())))
def a4m (d:Val)(n:Nat)(x43:Int):Option (Fl Int (Sum Unit Bool)) :=
 bif decide (x43<(d.Entries.length:Int))
 then (Option.bind (idx d.Entries x43) fun e44 =>
 Option.bind (bif (e44.Args.length:Int) != d.Int_
 then (some true)
 else (Option.bind (bif e44.Fails
 then (Option.bind (a3F n e44.Result (Val.mk 0 0 (⟨#[]⟩:ByteArray) ([]:List Val) ([]:List Key) ([]:List Ent) ([]:List ByteArray))) fun r45 =>
 some (!r45))
 else (some false)) fun q46 =>
 some q46)) fun q47 =>
 Option.bind (bif q47
 then (some true)
 else (Option.bind (bif decide (0<x43)
 then (Option.bind (idx d.Entries (wr .i64 (x43-1))) fun e48 =>
 Option.bind (Z9 n e48 e44) fun r49 =>
 some (decide (0<=r49)))
 else (some false)) fun q50 =>
 some q50)) fun q51 =>
 bif q51
 then (some (.done (.inr false)))
 else (some (.next (wr .i64 (x43+1)))))
 else (some (.done (.inl ())))
def a5K (n:Nat)(d:Val):Option Bool :=
 Option.bind (y4 (a4l d) ((d.Labels.length:Int).toNat+1) 0) fun b8 =>
 k7 (fun _ =>
 Option.bind (bif d.Kind==1
 then (some true)
 else (some (d.Kind==4))) fun q11 =>
 Option.bind (bif q11
 then (some true)
 else (some (d.Kind==9))) fun q12 =>
 Option.bind (bif d.Kind==2
 then (some true)
 else (some (d.Kind==3))) fun q13 =>
 Option.bind (bif d.Kind==6
 then (some true)
 else (some (d.Kind==7))) fun q14 =>
 Option.bind (bif q14
 then (some true)
 else (some (d.Kind==8))) fun q15 =>
 Option.bind (bif !q12
 then (some (d.Int_ != 0))
 else (some false)) fun q16 =>
 Option.bind (bif q16
 then (some true)
 else (Option.bind (bif !q13
 then (some (!(Q4 d.Text (⟨#[]⟩:ByteArray))))
 else (some false)) fun q17 =>
 some q17)) fun q18 =>
 Option.bind (bif q18
 then (some true)
 else (Option.bind (bif !q15
 then (some (decide (0<(d.Kids.length:Int))))
 else (some false)) fun q19 =>
 some q19)) fun q20 =>
 Option.bind (bif q20
 then (some true)
 else (Option.bind (bif d.Kind != 8
 then (some (decide (0<(d.Keys.length:Int))))
 else (some false)) fun q21 =>
 some q21)) fun q22 =>
 Option.bind (bif q22
 then (some true)
 else (Option.bind (bif d.Kind != 9
 then (some (decide (0<(d.Entries.length:Int))))
 else (some false)) fun q23 =>
 some q23)) fun q24 =>
 bif q24
 then (some false)
 else (Option.bind (bif d.Kind==1
 then (some (d.Kind==1))
 else (some (d.Kind==5))) fun b25 =>
 bif b25
 then (some true)
 else (bif d.Kind==2
 then (some (decide ((d.Text.size:Int)<=64)))
 else (bif d.Kind==3
 then (Option.bind (a13 d.Text) fun r26 =>
 some r26)
 else (bif d.Kind==4
 then (some (decide (0<=d.Int_)))
 else (bif d.Kind==6
 then (some (decide ((d.Kids.length:Int)<=4)))
 else (bif d.Kind==7
 then (Option.bind (bif (d.Kids.length:Int)==2
 then (Option.bind (idx d.Kids 1) fun e27 =>
 Option.bind (bif e27.Kind==5
 then (some true)
 else (Option.bind (idx d.Kids 1) fun e28 =>
 some (e28.Kind==7))) fun q29 =>
 some q29)
 else (some false)) fun q30 =>
 some q30)
 else (bif d.Kind==8
 then (Option.bind (y4 (a4n d) ((d.Keys.length:Int).toNat+1) 0) fun b39 =>
 k7 (fun _ =>
 some ((d.Keys.length:Int)==(d.Kids.length:Int))) (fun y41 =>
 some y41) b39)
 else (bif d.Kind==9
 then (Option.bind (bif decide (d.Int_<0)
 then (some true)
 else (some (decide (4<d.Int_)))) fun q42 =>
 bif q42
 then (some false)
 else (Option.bind (y4 (a4m d n) ((d.Entries.length:Int).toNat+1) 0) fun b52 =>
 k7 (fun _ =>
 some true) (fun y54 =>
 some y54) b52))
 else (some false)))))))))) (fun y10 =>
 some y10) b8
def a3I (v:Val)(rec_semtyperef1_Valid:Val->Option Bool)(x2:Int):Option (Fl Int (Sum Unit Bool)) :=
 bif decide (x2<(v.Kids.length:Int))
 then (Option.bind (idx v.Kids x2) fun e3 =>
 Option.bind (rec_semtyperef1_Valid e3) fun r4 =>
 bif !r4
 then (some (.done (.inr false)))
 else (some (.next (wr .i64 (x2+1)))))
 else (some (.done (.inl ())))
def a3N (rec_semtyperef1_Valid:Val->Option Bool)(e9:Ent)(x10:Int):Option (Fl Int (Sum Unit Bool)) :=
 bif decide (x10<(e9.Args.length:Int))
 then (Option.bind (idx e9.Args x10) fun e11 =>
 Option.bind (rec_semtyperef1_Valid e11) fun r12 =>
 bif !r12
 then (some (.done (.inr false)))
 else (some (.next (wr .i64 (x10+1)))))
 else (some (.done (.inl ())))
def a3H (v:Val)(rec_semtyperef1_Valid:Val->Option Bool)(x8:Int):Option (Fl Int (Sum Unit Bool)) :=
 bif decide (x8<(v.Entries.length:Int))
 then (Option.bind (idx v.Entries x8) fun e9 =>
 Option.bind (y4 (a3N rec_semtyperef1_Valid e9) ((e9.Args.length:Int).toNat+1) 0) fun b13 =>
 k7 (fun _ =>
 Option.bind (bif !e9.Fails
 then (Option.bind (rec_semtyperef1_Valid e9.Result) fun r16 =>
 some (!r16))
 else (some false)) fun q17 =>
 bif q17
 then (some (.done (.inr false)))
 else (some (.next (wr .i64 (x8+1))))) (fun y15 =>
 some (.done (.inr y15))) b13)
 else (some (.done (.inl ())))
def a6c (n:Nat)(rec_semtyperef1_Valid:Val->Option Bool)(v:Val):Option Bool :=
 Option.bind (a5K n v) fun r1 =>
 bif !r1
 then (some false)
 else (Option.bind (y4 (a3I v rec_semtyperef1_Valid) ((v.Kids.length:Int).toNat+1) 0) fun b5 =>
 k7 (fun _ =>
 Option.bind (y4 (a3H v rec_semtyperef1_Valid) ((v.Entries.length:Int).toNat+1) 0) fun b18 =>
 k7 (fun _ =>
 some true) (fun y20 =>
 some y20) b18) (fun y7 =>
 some y7) b5)
def a0a:Nat->Val->Option Bool
 | 0=>fun _=>none
 | n+1=>a6c n (a0a n)
def a0R (t:Api_Type)(a3_3:Int)(e4:Api_TypeNode)(rec_semtypebase_Source_Near:Semtypebase_Source->Api_Type->Int->Int->Option (Val×Semtypebase_Source))(x21:Int×Semtypebase_Source×(Int×Int×ByteArray×(List Val)×(List Key)×(List Ent)×(List ByteArray))):Option (Fl (Int×Semtypebase_Source×(Int×Int×ByteArray×(List Val)×(List Key)×(List Ent)×(List ByteArray))) (Semtypebase_Source×(Int×Int×ByteArray×(List Val)×(List Key)×(List Ent)×(List ByteArray)))) :=
 bif decide (x21.1<(e4.Kids.length:Int))
 then (Option.bind (idx e4.Kids x21.1) fun e22 =>
 Option.bind (rec_semtypebase_Source_Near x21.2.1 t e22 (wr .i64 (a3_3-1))) fun r23 =>
 Option.bind (Y1 (x21.2.2.2.2.2.1.length+([r23.1]:List Val).length) 128) fun _ =>
 some (.next (wr .i64 (x21.1+1),r23.2,(x21.2.2.1,x21.2.2.2.1,x21.2.2.2.2.1,x21.2.2.2.2.2.1++([r23.1]:List Val),x21.2.2.2.2.2.2.1,x21.2.2.2.2.2.2.2.1,x21.2.2.2.2.2.2.2.2))))
 else (some (.done (x21.2.1,(x21.2.2.1,x21.2.2.2.1,x21.2.2.2.2.1,x21.2.2.2.2.2.1,x21.2.2.2.2.2.2.1,x21.2.2.2.2.2.2.2.1,x21.2.2.2.2.2.2.2.2))))
def V6 (t:Api_Type)(e4:Api_TypeNode)(x40:Int×Val):Option (Fl (Int×Val) Val) :=
 bif decide (x40.1<(e4.Kids.length:Int))
 then (Option.bind (Option.bind (idx e4.Kids x40.1) fun e41 =>
 Option.bind (idx t.Nodes e41) fun e42 =>
 bif e42.Kind==19
 then (Option.bind (Y1 (0+x40.2.Labels.length) 16) fun _ =>
 Option.bind (idx e4.Kids x40.1) fun e44 =>
 Option.bind (idx t.Nodes e44) fun e45 =>
 Option.bind (Y1 (x40.2.Labels.length+([e45.Text]:List ByteArray).length) 16) fun _ =>
 Option.bind (a0h (x40.2.Labels++([e45.Text]:List ByteArray))) fun r47 =>
 some (Val.mk x40.2.Kind x40.2.Int_ x40.2.Text x40.2.Kids x40.2.Keys x40.2.Entries r47))
 else (some x40.2)) fun b48 =>
 some (.next (wr .i64 (x40.1+1),b48)))
 else (some (.done x40.2))
def J7 (t:Api_Type)(a2_2:Api_TypeNode)(a3_3:Int)(rec_semtypebase_Source_Near:Semtypebase_Source->Api_Type->Int->Int->Option (Val×Semtypebase_Source))(x3:Int×Semtypebase_Source×((List Val)×Bool×Int×Int×ByteArray×(List Val)×(List Key)×(List Ent)×(List ByteArray))):Option (Fl (Int×Semtypebase_Source×((List Val)×Bool×Int×Int×ByteArray×(List Val)×(List Key)×(List Ent)×(List ByteArray))) (Semtypebase_Source×((List Val)×Bool×Int×Int×ByteArray×(List Val)×(List Key)×(List Ent)×(List ByteArray)))) :=
 bif decide (x3.1<(wr .i64 ((a2_2.Kids.length:Int)-1)))
 then (Option.bind (idx a2_2.Kids x3.1) fun e4 =>
 Option.bind (rec_semtypebase_Source_Near x3.2.1 t e4 (wr .i64 (a3_3-1))) fun r5 =>
 Option.bind (Y1 (x3.2.2.1.length+([r5.1]:List Val).length) 128) fun _ =>
 some (.next (wr .i64 (x3.1+1),r5.2,(x3.2.2.1++([r5.1]:List Val),x3.2.2.2.1,x3.2.2.2.2.1,x3.2.2.2.2.2.1,x3.2.2.2.2.2.2.1,x3.2.2.2.2.2.2.2.1,x3.2.2.2.2.2.2.2.2.1,x3.2.2.2.2.2.2.2.2.2.1,x3.2.2.2.2.2.2.2.2.2.2))))
 else (some (.done (x3.2.1,(x3.2.2.1,x3.2.2.2.1,x3.2.2.2.2.1,x3.2.2.2.2.2.1,x3.2.2.2.2.2.2.1,x3.2.2.2.2.2.2.2.1,x3.2.2.2.2.2.2.2.2.1,x3.2.2.2.2.2.2.2.2.2.1,x3.2.2.2.2.2.2.2.2.2.2))))
def W0 (t:Api_Type)(a2_2:Api_TypeNode)(a3_3:Int)(rec_semtypebase_Source_Near:Semtypebase_Source->Api_Type->Int->Int->Option (Val×Semtypebase_Source))(x2:(List Ent)×Int×Semtypebase_Source):Option (Fl ((List Ent)×Int×Semtypebase_Source) ((List Ent)×Semtypebase_Source)) :=
 bif decide (0<x2.2.1)
 then (Option.bind (y4 (J7 t a2_2 a3_3 rec_semtypebase_Source_Near) ((wr .i64 ((a2_2.Kids.length:Int)-1)).toNat+1) (0,x2.2.2,([],false,0,0,(⟨#[]⟩:ByteArray),[],[],[],[]))) fun b7 =>
 Option.bind (y2 b7.1 6) fun r8 =>
 Option.bind (bif r8.1==1
 then (some (r8.2,(b7.2.1,true,b7.2.2.2.1,b7.2.2.2.2.1,b7.2.2.2.2.2.1,b7.2.2.2.2.2.2.1,b7.2.2.2.2.2.2.2.1,b7.2.2.2.2.2.2.2.2.1,b7.2.2.2.2.2.2.2.2.2)))
 else (Option.bind (idx a2_2.Kids (wr .i64 ((a2_2.Kids.length:Int)-1))) fun e9 =>
 Option.bind (rec_semtypebase_Source_Near r8.2 t e9 (wr .i64 (a3_3-1))) fun r10 =>
 some (r10.2,(b7.2.1,b7.2.2.1,r10.1.Kind,r10.1.Int_,r10.1.Text,r10.1.Kids,r10.1.Keys,r10.1.Entries,r10.1.Labels)))) fun b11 =>
 Option.bind (Y1 (x2.1.length+([Ent.mk b11.2.1 b11.2.2.1 (Val.mk b11.2.2.2.1 b11.2.2.2.2.1 b11.2.2.2.2.2.1 b11.2.2.2.2.2.2.1 b11.2.2.2.2.2.2.2.1 b11.2.2.2.2.2.2.2.2.1 b11.2.2.2.2.2.2.2.2.2)]:List Ent).length) 160) fun _ =>
 some (.next (x2.1++([Ent.mk b11.2.1 b11.2.2.1 (Val.mk b11.2.2.2.1 b11.2.2.2.2.1 b11.2.2.2.2.2.1 b11.2.2.2.2.2.2.1 b11.2.2.2.2.2.2.2.1 b11.2.2.2.2.2.2.2.2.1 b11.2.2.2.2.2.2.2.2.2)]:List Ent),wr .i64 (x2.2.1-1),b11.1)))
 else (some (.done (x2.1,x2.2.2)))
def a0s (t:Api_Type)(a2_2:Api_TypeNode)(a3_3:Int)(rec_semtypebase_Source_Near:Semtypebase_Source->Api_Type->Int->Int->Option (Val×Semtypebase_Source))(x1:(List Key)×(List Val)×Int×Semtypebase_Source):Option (Fl ((List Key)×(List Val)×Int×Semtypebase_Source) ((List Key)×(List Val)×Semtypebase_Source)) :=
 bif decide (x1.2.2.1<(a2_2.Fields.length:Int))
 then (Option.bind (Option.bind (Option.bind (idx a2_2.Fields x1.2.2.1) fun e2 =>
 bif e2.Optional
 then (Option.bind (y2 x1.2.2.2 2) fun r3 =>
 some (r3.1==1,r3.2))
 else (some (false,x1.2.2.2))) fun b4 =>
 bif b4.1
 then (some (x1.1,x1.2.1,b4.2))
 else (Option.bind (idx a2_2.Fields x1.2.2.1) fun e5 =>
 Option.bind (Y1 (x1.1.length+([e5.Key_]:List Key).length) 24) fun _ =>
 Option.bind (idx a2_2.Fields x1.2.2.1) fun e7 =>
 Option.bind (rec_semtypebase_Source_Near b4.2 t e7.Node (wr .i64 (a3_3-1))) fun r8 =>
 Option.bind (Y1 (x1.2.1.length+([r8.1]:List Val).length) 128) fun _ =>
 some (x1.1++([e5.Key_]:List Key),x1.2.1++([r8.1]:List Val),r8.2))) fun b10 =>
 some (.next (b10.1,b10.2.1,wr .i64 (x1.2.2.1+1),b10.2.2)))
 else (some (.done (x1.1,x1.2.1,x1.2.2.2)))
def a3M (n:Nat)(_:Semtypebase_Source->Api_Type->Int->Int->Option (Val×Semtypebase_Source))(rec_semtypebase_Source_near:Semtypebase_Source->Api_Type->Int->Int->Option (Val×Semtypebase_Source))(_:Semtypebase_Source->Api_Type->Api_TypeNode->Int->Option (Val×Semtypebase_Source))(_:Semtypebase_Source->Api_Type->Api_TypeNode->Int->Option (Val×Semtypebase_Source))(s:Semtypebase_Source)(t:Api_Type)(k:Int)(height:Int):Option (Val×Semtypebase_Source) :=
 Option.bind (rec_semtypebase_Source_near s t k height) fun r1 =>
 Option.bind (a0a n r1.1) fun r2 =>
 bif !r2
 then (Option.bind (J9 r1.2) fun r3 =>
 some (r3.1,r3.2))
 else (some (r1.1,r1.2))
def a09 (n:Nat)(rec_semtypebase_Source_Near:Semtypebase_Source->Api_Type->Int->Int->Option (Val×Semtypebase_Source))(rec_semtypebase_Source_near:Semtypebase_Source->Api_Type->Int->Int->Option (Val×Semtypebase_Source))(rec_semtypebase_Source_nearFunction:Semtypebase_Source->Api_Type->Api_TypeNode->Int->Option (Val×Semtypebase_Source))(rec_semtypebase_Source_nearMap:Semtypebase_Source->Api_Type->Api_TypeNode->Int->Option (Val×Semtypebase_Source))(d:Semtypebase_Source)(t:Api_Type)(a2_2:Int)(a3_3:Int):Option (Val×Semtypebase_Source) :=
 Option.bind (bif decide (a3_3<=0)
 then (some true)
 else (some (decide (a2_2<0)))) fun q1 =>
 Option.bind (bif q1
 then (some true)
 else (some (decide ((t.Nodes.length:Int)<=a2_2)))) fun q2 =>
 bif q2
 then (Option.bind (J9 d) fun r3 =>
 some (r3.1,r3.2))
 else (Option.bind (idx t.Nodes a2_2) fun e4 =>
 bif e4.Kind==3
 then (Option.bind (b4V .i64 e4.Hi 2) fun d5 =>
 Option.bind (b4V .i64 e4.Lo 2) fun d6 =>
 Option.bind (y2 d 3) fun r7 =>
 Option.bind (idx ([e4.Lo,e4.Hi,wr .i64 (e4.Lo+(wr .i64 (d5-d6)))]:List Int) r7.1) fun _ =>
 Option.bind (([e4.Lo,e4.Hi,wr .i64 (e4.Lo+(wr .i64 (d5-d6)))]:List Int)[r7.1.toNat]?) fun e9 =>
 Option.bind (a79 e9) fun r10 =>
 some (r10,r7.2))
 else (bif e4.Kind==4
 then (Option.bind (a4O e4.Text) fun r11 =>
 some (r11,d))
 else (bif e4.Kind==5
 then (Option.bind (a0c d) fun r12 =>
 Option.bind (a4O r12.1) fun r13 =>
 some (r13,r12.2))
 else (bif e4.Kind==6
 then (Option.bind (a5F e4.Text) fun r14 =>
 some (r14,d))
 else (bif e4.Kind==7
 then (Option.bind (K7 d) fun r15 =>
 Option.bind (a5F r15.1) fun r16 =>
 some (r16,r15.2))
 else (bif e4.Kind==8
 then (Option.bind (y2 d 2) fun r17 =>
 Option.bind (a8G r17.1) fun r18 =>
 some (r18,r17.2))
 else (bif e4.Kind==9
 then (Option.bind (X3) fun r19 =>
 some (r19,d))
 else (Option.bind (bif e4.Kind==10
 then (some (e4.Kind==10))
 else (some (e4.Kind==12))) fun b20 =>
 bif b20
 then (Option.bind (y4 (a0R t a3_3 e4 rec_semtypebase_Source_Near) ((e4.Kids.length:Int).toNat+1) (0,d,(0,0,(⟨#[]⟩:ByteArray),[],[],[],[]))) fun b25 =>
 Option.bind (bif e4.Kind==12
 then (Option.bind (idx b25.2.2.2.2.1 1) fun _ =>
 Option.bind (b25.2.2.2.2.1[(1:Int).toNat]?) fun e27 =>
 bif e27.Kind != 7
 then (Option.bind (X3) fun r28 =>
 Option.bind (idx b25.2.2.2.2.1 1) fun _ =>
 Option.bind (b25.2.2.2.2.1[(1:Int).toNat]?) fun _ =>
 some (7,b25.2.2.1,b25.2.2.2.1,b25.2.2.2.2.1.set ((1:Int).toNat) r28,b25.2.2.2.2.2.1,b25.2.2.2.2.2.2.1,b25.2.2.2.2.2.2.2))
 else (some (7,b25.2.2.1,b25.2.2.2.1,b25.2.2.2.2.1,b25.2.2.2.2.2.1,b25.2.2.2.2.2.2.1,b25.2.2.2.2.2.2.2)))
 else (some (6,b25.2.2.1,b25.2.2.2.1,b25.2.2.2.2.1,b25.2.2.2.2.2.1,b25.2.2.2.2.2.2.1,b25.2.2.2.2.2.2.2))) fun b31 =>
 some (Val.mk b31.1 b31.2.1 b31.2.2.1 b31.2.2.2.1 b31.2.2.2.2.1 b31.2.2.2.2.2.1 b31.2.2.2.2.2.2,b25.1))
 else (bif e4.Kind==13
 then (Option.bind (rec_semtypebase_Source_nearMap d t e4 a3_3) fun r32 =>
 some (r32.1,r32.2))
 else (bif e4.Kind==14
 then (Option.bind (rec_semtypebase_Source_nearFunction d t e4 a3_3) fun r33 =>
 some (r33.1,r33.2))
 else (bif e4.Kind==16
 then (Option.bind (y2 d (e4.Kids.length:Int)) fun r34 =>
 Option.bind (idx e4.Kids r34.1) fun e35 =>
 Option.bind (rec_semtypebase_Source_near r34.2 t e35 a3_3) fun r36 =>
 some (r36.1,r36.2))
 else (bif e4.Kind==17
 then (Option.bind (y2 d (e4.Kids.length:Int)) fun r37 =>
 Option.bind (idx e4.Kids r37.1) fun e38 =>
 Option.bind (rec_semtypebase_Source_near r37.2 t e38 a3_3) fun r39 =>
 Option.bind (y4 (V6 t e4) ((e4.Kids.length:Int).toNat+1) (0,r39.1)) fun b49 =>
 some (b49,r39.2))
 else (bif e4.Kind==19
 then (Option.bind (J9 d) fun r50 =>
 Option.bind (a4Z r50.1 ([e4.Text]:List ByteArray)) fun r51 =>
 some (r51,r50.2))
 else (Option.bind (a2q n d 2) fun r52 =>
 some (r52.1,r52.2)))))))))))))))
def a1U (n:Nat)(rec_semtypebase_Source_Near:Semtypebase_Source->Api_Type->Int->Int->Option (Val×Semtypebase_Source))(_:Semtypebase_Source->Api_Type->Int->Int->Option (Val×Semtypebase_Source))(_:Semtypebase_Source->Api_Type->Api_TypeNode->Int->Option (Val×Semtypebase_Source))(_:Semtypebase_Source->Api_Type->Api_TypeNode->Int->Option (Val×Semtypebase_Source))(d:Semtypebase_Source)(t:Api_Type)(a2_2:Api_TypeNode)(a3_3:Int):Option (Val×Semtypebase_Source) :=
 Option.bind (y2 d 3) fun r1 =>
 Option.bind (y4 (W0 t a2_2 a3_3 rec_semtypebase_Source_Near) (r1.1.toNat+2) ([],r1.1,r1.2)) fun b13 =>
 Option.bind (a2s n (wr .i64 ((a2_2.Kids.length:Int)-1)) b13.1) fun r14 =>
 bif r14.2 != 0
 then (Option.bind (X3) fun r15 =>
 some (r15,b13.2))
 else (some (r14.1,b13.2))
def a2T (_:Nat)(rec_semtypebase_Source_Near:Semtypebase_Source->Api_Type->Int->Int->Option (Val×Semtypebase_Source))(_:Semtypebase_Source->Api_Type->Int->Int->Option (Val×Semtypebase_Source))(_:Semtypebase_Source->Api_Type->Api_TypeNode->Int->Option (Val×Semtypebase_Source))(_:Semtypebase_Source->Api_Type->Api_TypeNode->Int->Option (Val×Semtypebase_Source))(d:Semtypebase_Source)(t:Api_Type)(a2_2:Api_TypeNode)(a3_3:Int):Option (Val×Semtypebase_Source) :=
 Option.bind (y4 (a0s t a2_2 a3_3 rec_semtypebase_Source_Near) ((a2_2.Fields.length:Int).toNat+1) ([],[],0,d)) fun b11 =>
 Option.bind (y2 b11.2.2 2) fun r12 =>
 Option.bind (bif r12.1==1
 then (Option.bind (y2 r12.2 2) fun r13 =>
 Option.bind (Y1 (b11.1.length+([Key.mk r13.1 (⟨#[111,116,104,101,114]⟩:ByteArray)]:List Key).length) 24) fun _ =>
 bif r13.1==0
 then (Option.bind (rec_semtypebase_Source_Near r13.2 t a2_2.Rest.1 (wr .i64 (a3_3-1))) fun r15 =>
 Option.bind (Y1 (b11.2.1.length+([r15.1]:List Val).length) 128) fun _ =>
 some (b11.1++([Key.mk r13.1 (⟨#[111,116,104,101,114]⟩:ByteArray)]:List Key),b11.2.1++([r15.1]:List Val),r15.2))
 else (bif r13.1==1
 then (Option.bind (rec_semtypebase_Source_Near r13.2 t a2_2.Rest.2 (wr .i64 (a3_3-1))) fun r17 =>
 Option.bind (Y1 (b11.2.1.length+([r17.1]:List Val).length) 128) fun _ =>
 some (b11.1++([Key.mk r13.1 (⟨#[111,116,104,101,114]⟩:ByteArray)]:List Key),b11.2.1++([r17.1]:List Val),r17.2))
 else (none)))
 else (some (b11.1,b11.2.1,r12.2))) fun b19 =>
 Option.bind (a2k b19.1 b19.2.1) fun r20 =>
 bif r20.2 != 0
 then (Option.bind (X3) fun r21 =>
 some (r21,b19.2.2))
 else (some (r20.1,b19.2.2))
def z7:Nat->(Semtypebase_Source->Api_Type->Int->Int->Option (Val×Semtypebase_Source))×(Semtypebase_Source->Api_Type->Int->Int->Option (Val×Semtypebase_Source))×(Semtypebase_Source->Api_Type->Api_TypeNode->Int->Option (Val×Semtypebase_Source))×(Semtypebase_Source->Api_Type->Api_TypeNode->Int->Option (Val×Semtypebase_Source))
 | 0=>(fun _ _ _ _=>none,fun _ _ _ _=>none,fun _ _ _ _=>none,fun _ _ _ _=>none)
 | n+1=>(a3M n ((z7 n).1) ((z7 n).2.1) ((z7 n).2.2.1) ((z7 n).2.2.2),a09 n ((z7 n).1) ((z7 n).2.1) ((z7 n).2.2.1) ((z7 n).2.2.2),a1U n ((z7 n).1) ((z7 n).2.1) ((z7 n).2.2.1) ((z7 n).2.2.2),a2T n ((z7 n).1) ((z7 n).2.1) ((z7 n).2.2.1) ((z7 n).2.2.2))
def a2K (n:Nat):Semtypebase_Source->Api_Type->Int->Int->Option (Val×Semtypebase_Source):=(z7 n).1
def b2o (n:Nat):Semtypebase_Source->Api_Type->Int->Int->Option (Val×Semtypebase_Source):=(z7 n).2.1
def a70 (n:Nat):Semtypebase_Source->Api_Type->Api_TypeNode->Int->Option (Val×Semtypebase_Source):=(z7 n).2.2.1
def b0f (n:Nat):Semtypebase_Source->Api_Type->Api_TypeNode->Int->Option (Val×Semtypebase_Source):=(z7 n).2.2.2
def a4M (n:Nat)(l:List Int)(m:List Int):Option (Api_Type×Val) :=
 Option.bind (y2 (Semtypebase_Source.mk l 0) 7) fun r1 =>
 Option.bind (a1D r1.2 (wr .i64 (1+r1.1))) fun r2 =>
 Option.bind (y2 (Semtypebase_Source.mk m 0) (r2.1.Nodes.length:Int)) fun r3 =>
 Option.bind (a2K n r3.2 r2.1 r3.1 4) fun r4 =>
 some (r2.1,r4.1)
def a2t (t:Api_Type)(nodes:List Int)(kind:Int)(width:Int)(x1:(List (List Int))×Int):Option (Fl ((List (List Int))×Int) (Sum (List (List Int)) ((List (List Int))×Bool))) :=
 bif decide (x1.2<(nodes.length:Int))
 then (Option.bind (idx nodes x1.2) fun e2 =>
 Option.bind (bif decide (e2<0)
 then (some true)
 else (some (decide ((t.Nodes.length:Int)<=e2)))) fun q3 =>
 Option.bind (bif q3
 then (some true)
 else (Option.bind (idx t.Nodes e2) fun e4 =>
 some (e4.Kind != kind))) fun q5 =>
 Option.bind (bif q5
 then (some true)
 else (Option.bind (idx t.Nodes e2) fun e6 =>
 some ((e6.Kids.length:Int) != width))) fun q7 =>
 bif q7
 then (some (.done (.inr ([],false))))
 else (Option.bind (idx t.Nodes e2) fun e8 =>
 Option.bind (Y1 (x1.1.length+([e8.Kids]:List (List Int)).length) 24) fun _ =>
 some (.next (x1.1++([e8.Kids]:List (List Int)),wr .i64 (x1.2+1)))))
 else (some (.done (.inl x1.1)))
def a3c (t:Api_Type)(nodes:List Int)(kind:Int)(width:Int):Option ((List (List Int))×Bool) :=
 Option.bind (y4 (a2t t nodes kind width) ((nodes.length:Int).toNat+1) ([],0)) fun b10 =>
 k7 (fun x11 =>
 some (x11,true)) (fun y12 =>
 some (y12.1,y12.2)) b10
def a0N (i:Int)(a1_1:Api_Type):Option Bool :=
 Option.bind (idx a1_1.Nodes i) fun e1 =>
 some (e1.Kind != 2)
def a3g (n:Nat)(d:Api_Type)(t:Api_Line):Option ((List Api_Box)×Int) :=
 Option.bind (bif t.Kind==6
 then (some (.inl (10,t.Arity)))
 else (bif t.Kind==7
 then (some (.inl (12,2)))
 else (some (.inr ([],9))))) fun b1 =>
 k7 (fun x2 =>
 Option.bind (X7 n d) fun r4 =>
 bif r4 != 0
 then (some (([]:List Api_Box),1))
 else (Option.bind (a3c d t.Pos x2.1 x2.2) fun r5 =>
 Option.bind (a3c d t.Neg x2.1 x2.2) fun r6 =>
 Option.bind (bif !r5.2
 then (some true)
 else (some (!r6.2))) fun q7 =>
 bif q7
 then (some (([]:List Api_Box),1))
 else (Option.bind (a2C n x2.2 r5.1 r6.1 (fun z8 =>
 Option.bind (a0N z8 d) fun r9 =>
 some r9)) fun r10 =>
 bif t.Kind==7
 then (bif r10.all a57
 then (some (r10.map a1M,0))
 else (none))
 else (some (r10,0))))) (fun y3 =>
 some (y3.1,y3.2)) b1
def a0v (t:Api_Type)(k:Int):Option Bool :=
 Option.bind (bif decide (0<=k)
 then (some (decide (k<(t.Nodes.length:Int))))
 else (some false)) fun q1 =>
 some q1
def a4k (d:Api_Type)(t:Api_TypeNode)(x1:Int):Option (Fl Int (Sum Unit Bool)) :=
 bif decide (x1<(t.Kids.length:Int))
 then (Option.bind (idx t.Kids x1) fun e2 =>
 Option.bind (a0v d e2) fun r3 =>
 bif !r3
 then (some (.done (.inr false)))
 else (some (.next (wr .i64 (x1+1)))))
 else (some (.done (.inl ())))
def a4o (d:Api_Type)(t:Api_TypeNode)(x24:Int):Option (Fl Int (Sum Unit Bool)) :=
 bif decide (x24<(t.Fields.length:Int))
 then (Option.bind (idx t.Fields x24) fun e25 =>
 Option.bind (a0v d e25.Node) fun r26 =>
 Option.bind (bif !r26
 then (some true)
 else (Option.bind (a1r e25.Key_) fun r27 =>
 some (!r27))) fun q28 =>
 Option.bind (bif q28
 then (some true)
 else (Option.bind (bif decide (0<x24)
 then (Option.bind (idx t.Fields (wr .i64 (x24-1))) fun e29 =>
 Option.bind (V7 e29.Key_ e25.Key_) fun r30 =>
 some (decide (0<=r30)))
 else (some false)) fun q31 =>
 some q31)) fun q32 =>
 bif q32
 then (some (.done (.inr false)))
 else (some (.next (wr .i64 (x24+1)))))
 else (some (.done (.inl ())))
def a5D (d:Api_Type)(t:Api_TypeNode):Option Bool :=
 Option.bind (y4 (a4k d t) ((t.Kids.length:Int).toNat+1) 0) fun b4 =>
 k7 (fun _ =>
 Option.bind (bif t.Kind==4
 then (some true)
 else (some (t.Kind==6))) fun q7 =>
 Option.bind (bif q7
 then (some true)
 else (some (t.Kind==19))) fun q8 =>
 Option.bind (bif !(t.Kind==3)
 then (Option.bind (bif t.Lo != 0
 then (some true)
 else (some (t.Hi != 0))) fun q9 =>
 some q9)
 else (some false)) fun q10 =>
 Option.bind (bif q10
 then (some true)
 else (Option.bind (bif !q8
 then (some (!(Q4 t.Text (⟨#[]⟩:ByteArray))))
 else (some false)) fun q11 =>
 some q11)) fun q12 =>
 bif q12
 then (some false)
 else (Option.bind (bif t.Kind != 13
 then (Option.bind (bif decide (0<(t.Fields.length:Int))
 then (some true)
 else (some (!(a7k t.Rest (0,0))))) fun q13 =>
 some q13)
 else (some false)) fun q14 =>
 bif q14
 then (some false)
 else (bif t.Kind==3
 then (Option.bind (bif (t.Kids.length:Int)==0
 then (some (decide (t.Lo<=t.Hi)))
 else (some false)) fun q15 =>
 some q15)
 else (bif t.Kind==4
 then (Option.bind (bif (t.Kids.length:Int)==0
 then (some (decide ((t.Text.size:Int)<=64)))
 else (some false)) fun q16 =>
 some q16)
 else (bif t.Kind==6
 then (Option.bind (bif (t.Kids.length:Int)==0
 then (Option.bind (a13 t.Text) fun r17 =>
 some r17)
 else (some false)) fun q18 =>
 some q18)
 else (bif t.Kind==19
 then (Option.bind (bif (t.Kids.length:Int)==0
 then (Option.bind (a1O t.Text) fun r19 =>
 some r19)
 else (some false)) fun q20 =>
 some q20)
 else (Option.bind (bif t.Kind==1
 then (some (t.Kind==1))
 else (bif t.Kind==2
 then (some (t.Kind==2))
 else (bif t.Kind==5
 then (some (t.Kind==5))
 else (bif t.Kind==7
 then (some (t.Kind==7))
 else (bif t.Kind==8
 then (some (t.Kind==8))
 else (bif t.Kind==9
 then (some (t.Kind==9))
 else (bif t.Kind==11
 then (some (t.Kind==11))
 else (some (t.Kind==15))))))))) fun b21 =>
 bif b21
 then (some ((t.Kids.length:Int)==0))
 else (bif t.Kind==10
 then (some (decide ((t.Kids.length:Int)<=4)))
 else (bif t.Kind==12
 then (some ((t.Kids.length:Int)==2))
 else (bif t.Kind==14
 then (Option.bind (bif decide (1<=(t.Kids.length:Int))
 then (some (decide ((t.Kids.length:Int)<=5)))
 else (some false)) fun q22 =>
 some q22)
 else (Option.bind (bif t.Kind==16
 then (some (t.Kind==16))
 else (some (t.Kind==17))) fun b23 =>
 bif b23
 then (some (decide (1<=(t.Kids.length:Int))))
 else (bif t.Kind==18
 then (some ((t.Kids.length:Int)==1))
 else (bif t.Kind==13
 then (Option.bind (y4 (a4o d t) ((t.Fields.length:Int).toNat+1) 0) fun b33 =>
 k7 (fun _ =>
 Option.bind (bif (t.Kids.length:Int)==0
 then (Option.bind (a0v d t.Rest.1) fun r36 =>
 some r36)
 else (some false)) fun q37 =>
 Option.bind (bif q37
 then (Option.bind (a0v d t.Rest.2) fun r38 =>
 some r38)
 else (some false)) fun q39 =>
 some q39) (fun y35 =>
 some y35) b33)
 else (some false)))))))))))))) (fun y6 =>
 some y6) b4
def a4q (n_0:Api_TypeNode):Option Bool :=
 Option.bind (bif n_0.Kind==16
 then (some true)
 else (some (n_0.Kind==17))) fun q1 =>
 Option.bind (bif q1
 then (some true)
 else (some (n_0.Kind==18))) fun q2 =>
 some q2
def a2h (d:Api_Type)(x2:Int):Option (Fl Int (Sum Unit Int)) :=
 bif decide (x2<(d.Nodes.length:Int))
 then (Option.bind (idx d.Nodes x2) fun e3 =>
 Option.bind (a5D d e3) fun r4 =>
 bif !r4
 then (some (.done (.inr 1)))
 else (some (.next (wr .i64 (x2+1)))))
 else (some (.done (.inl ())))
def J2 (d:Api_Type)(x10:(List Bool)×Int)(x11:(List Bool)×Bool×Int):Option (Fl ((List Bool)×Bool×Int) ((List Bool)×Bool)) :=
 Option.bind (idx d.Nodes x10.2) fun e12 =>
 Option.bind (a4q e12) fun r13 =>
 Option.bind (bif r13
 then (Option.bind (idx d.Nodes x10.2) fun e14 =>
 some (decide (x11.2.2<(e14.Kids.length:Int))))
 else (some false)) fun q15 =>
 bif q15
 then (Option.bind (bif x11.2.1
 then (Option.bind (idx d.Nodes x10.2) fun e16 =>
 Option.bind (idx e16.Kids x11.2.2) fun e17 =>
 Option.bind (idx x11.1 e17) fun _ =>
 Option.bind (x11.1[e17.toNat]?) fun e19 =>
 some e19)
 else (some false)) fun q20 =>
 some (.next (x11.1,q20,wr .i64 (x11.2.2+1))))
 else (some (.done (x11.1,x11.2.1)))
def W4 (d:Api_Type)(n:Nat)(x10:(List Bool)×Int):Option (Fl ((List Bool)×Int) (List Bool)) :=
 bif decide (x10.2<(d.Nodes.length:Int))
 then (Option.bind (y4 (J2 d x10) n (x10.1,true,0)) fun b21 =>
 Option.bind (idx b21.1 x10.2) fun _ =>
 Option.bind (b21.1[x10.2.toNat]?) fun e23 =>
 Option.bind (bif e23
 then (some true)
 else (some b21.2)) fun q24 =>
 Option.bind (idx b21.1 x10.2) fun _ =>
 Option.bind (b21.1[x10.2.toNat]?) fun _ =>
 some (.next (b21.1.set x10.2.toNat q24,wr .i64 (x10.2+1))))
 else (some (.done x10.1))
def W6 (d:Api_Type)(n:Nat)(x9:(List Bool)×Int):Option (Fl ((List Bool)×Int) (List Bool)) :=
 bif decide (x9.2<(d.Nodes.length:Int))
 then (Option.bind (y4 (W4 d n) ((d.Nodes.length:Int).toNat+1) (x9.1,0)) fun b27 =>
 some (.next (b27,wr .i64 (x9.2+1))))
 else (some (.done x9.1))
def a05 (x29:(List Bool)×Int):Option (Fl ((List Bool)×Int) (Sum (List Bool) (Int×(List Bool)))) :=
 bif decide (x29.2<(x29.1.length:Int))
 then (Option.bind (idx x29.1 x29.2) fun _ =>
 Option.bind (x29.1[x29.2.toNat]?) fun e31 =>
 bif !e31
 then (some (.done (.inr (3,x29.1))))
 else (some (.next (x29.1,wr .i64 (x29.2+1)))))
 else (some (.done (.inl x29.1)))
def a0X (n:Nat)(d:Api_Type):Option Int :=
 Option.bind (a0v d d.Root) fun r1 =>
 bif !r1
 then (some 1)
 else (Option.bind (y4 (a2h d) ((d.Nodes.length:Int).toNat+1) 0) fun b5 =>
 k7 (fun _ =>
 Option.bind (a6t (d.Nodes.length:Int) (d.Nodes.length:Int) 1) fun m8 =>
 Option.bind (y4 (W6 d n) ((d.Nodes.length:Int).toNat+1) (List.replicate m8 (false:Bool),0)) fun b28 =>
 Option.bind (y4 a05 ((b28.length:Int).toNat+1) (b28,0)) fun b32 =>
 k7 (fun _ =>
 some 0) (fun y34 =>
 some y34.1) b32) (fun y7 =>
 some y7) b5)
def a1N (t:Api_Type)(g:Api_Goal)(x3:Int):Option (Fl Int (Sum Unit Bool)) :=
 bif decide (x3<((g.Pos++g.Neg).length:Int))
 then (Option.bind (idx (g.Pos++g.Neg) x3) fun e4 =>
 Option.bind (a0v t e4) fun r5 =>
 bif !r5
 then (some (.done (.inr false)))
 else (some (.next (wr .i64 (x3+1)))))
 else (some (.done (.inl ())))
def a4p (t:Api_Type)(g:Api_Goal):Option Bool :=
 Option.bind (Y1 (0+g.Pos.length) 8) fun _ =>
 Option.bind (Y1 (g.Pos.length+g.Neg.length) 8) fun _ =>
 Option.bind (y4 (a1N t g) (((g.Pos++g.Neg).length:Int).toNat+1) 0) fun b6 =>
 k7 (fun _ =>
 some true) (fun y8 =>
 some y8) b6
def W5 (d:Api_Type)(b5:Int×(Int×Int×(List Api_Range)×Bool×(List ByteArray)×(List Int)×(List Int)×(List ByteArray)×(List ByteArray)))(x6:Int×Semtypebase_Source×(Int×Int×(List Api_Range)×Bool×(List ByteArray)×(List Int)×(List Int)×(List ByteArray)×(List ByteArray))):Option (Fl (Int×Semtypebase_Source×(Int×Int×(List Api_Range)×Bool×(List ByteArray)×(List Int)×(List Int)×(List ByteArray)×(List ByteArray))) (Semtypebase_Source×(Int×Int×(List Api_Range)×Bool×(List ByteArray)×(List Int)×(List Int)×(List ByteArray)×(List ByteArray)))) :=
 bif decide (x6.1<(d.Nodes.length:Int))
 then (Option.bind (Option.bind (idx d.Nodes x6.1) fun e7 =>
 Option.bind (bif e7.Kind != b5.1
 then (some true)
 else (Option.bind (bif x6.2.2.1==6
 then (Option.bind (idx d.Nodes x6.1) fun e8 =>
 some ((e8.Kids.length:Int) != x6.2.2.2.1))
 else (some false)) fun q9 =>
 some q9)) fun q10 =>
 bif q10
 then (some (x6.2.1,(x6.2.2.1,x6.2.2.2.1,x6.2.2.2.2.1,x6.2.2.2.2.2.1,x6.2.2.2.2.2.2.1,x6.2.2.2.2.2.2.2.1,x6.2.2.2.2.2.2.2.2.1,x6.2.2.2.2.2.2.2.2.2.1,x6.2.2.2.2.2.2.2.2.2.2)))
 else (Option.bind (y2 x6.2.1 3) fun r11 =>
 Option.bind (bif r11.1==0
 then (Option.bind (Y1 (x6.2.2.2.2.2.2.2.1.length+([x6.1]:List Int).length) 8) fun _ =>
 some (x6.2.2.1,x6.2.2.2.1,x6.2.2.2.2.1,x6.2.2.2.2.2.1,x6.2.2.2.2.2.2.1,x6.2.2.2.2.2.2.2.1++([x6.1]:List Int),x6.2.2.2.2.2.2.2.2.1,x6.2.2.2.2.2.2.2.2.2.1,x6.2.2.2.2.2.2.2.2.2.2))
 else (some (x6.2.2.1,x6.2.2.2.1,x6.2.2.2.2.1,x6.2.2.2.2.2.1,x6.2.2.2.2.2.2.1,x6.2.2.2.2.2.2.2.1,x6.2.2.2.2.2.2.2.2.1,x6.2.2.2.2.2.2.2.2.2.1,x6.2.2.2.2.2.2.2.2.2.2))) fun b13 =>
 bif r11.1==1
 then (Option.bind (Y1 (b13.2.2.2.2.2.2.1.length+([x6.1]:List Int).length) 8) fun _ =>
 some (r11.2,(b13.1,b13.2.1,b13.2.2.1,b13.2.2.2.1,b13.2.2.2.2.1,b13.2.2.2.2.2.1,b13.2.2.2.2.2.2.1++([x6.1]:List Int),b13.2.2.2.2.2.2.2.1,b13.2.2.2.2.2.2.2.2)))
 else (some (r11.2,(b13.1,b13.2.1,b13.2.2.1,b13.2.2.2.1,b13.2.2.2.2.1,b13.2.2.2.2.2.1,b13.2.2.2.2.2.2.1,b13.2.2.2.2.2.2.2.1,b13.2.2.2.2.2.2.2.2))))) fun b15 =>
 some (.next (wr .i64 (x6.1+1),b15.1,(b15.2.1,b15.2.2.1,b15.2.2.2.1,b15.2.2.2.2.1,b15.2.2.2.2.2.1,b15.2.2.2.2.2.2.1,b15.2.2.2.2.2.2.2.1,b15.2.2.2.2.2.2.2.2.1,b15.2.2.2.2.2.2.2.2.2))))
 else (some (.done (x6.2.1,(x6.2.2.1,x6.2.2.2.1,x6.2.2.2.2.1,x6.2.2.2.2.2.1,x6.2.2.2.2.2.2.1,x6.2.2.2.2.2.2.2.1,x6.2.2.2.2.2.2.2.2.1,x6.2.2.2.2.2.2.2.2.2.1,x6.2.2.2.2.2.2.2.2.2.2))))
def a43 (d:Api_Type)(t:Semtypebase_Source):Option (Api_Line×Semtypebase_Source) :=
 Option.bind (y2 t 2) fun r1 =>
 Option.bind (idx ([6,7]:List Int) r1.1) fun _ =>
 Option.bind (([6,7]:List Int)[r1.1.toNat]?) fun e3 =>
 Option.bind (y2 r1.2 3) fun r4 =>
 Option.bind (bif e3==7
 then (some (12,(e3,0,[],false,[],[],[],[],[])))
 else (some (10,(e3,r4.1,[],false,[],[],[],[],[])))) fun b5 =>
 Option.bind (y4 (W5 d b5) ((d.Nodes.length:Int).toNat+1) (0,r4.2,(b5.2.1,b5.2.2.1,b5.2.2.2.1,b5.2.2.2.2.1,b5.2.2.2.2.2.1,b5.2.2.2.2.2.2.1,b5.2.2.2.2.2.2.2.1,b5.2.2.2.2.2.2.2.2.1,b5.2.2.2.2.2.2.2.2.2))) fun b16 =>
 some (Api_Line.mk b16.2.1 b16.2.2.1 b16.2.2.2.1 (Api_Names.mk b16.2.2.2.2.1 b16.2.2.2.2.2.1) b16.2.2.2.2.2.2.1 b16.2.2.2.2.2.2.2.1 b16.2.2.2.2.2.2.2.2.1 b16.2.2.2.2.2.2.2.2.2,b16.1)
def a4R (v:Val)(k:Key)(x1:Int):Option (Fl Int (Sum Unit Int)) :=
 bif decide (x1<(v.Keys.length:Int))
 then (Option.bind (idx v.Keys x1) fun e2 =>
 bif a3n e2 k
 then (some (.done (.inr x1)))
 else (some (.next (wr .i64 (x1+1)))))
 else (some (.done (.inl ())))
def a6j (v:Val)(k:Key):Option Int :=
 Option.bind (y4 (a4R v k) ((v.Keys.length:Int).toNat+1) 0) fun b3 =>
 k7 (fun _ =>
 some (-1)) (fun y5 =>
 some y5) b3
def a3V (n_0:Api_TypeNode)(k:Key)(x1:Int):Option (Fl Int (Sum Unit Int)) :=
 bif decide (x1<(n_0.Fields.length:Int))
 then (Option.bind (idx n_0.Fields x1) fun e2 =>
 bif a3n e2.Key_ k
 then (some (.done (.inr x1)))
 else (some (.next (wr .i64 (x1+1)))))
 else (some (.done (.inl ())))
def a2A (n_0:Api_TypeNode)(k:Key):Option Int :=
 Option.bind (y4 (a3V n_0 k) ((n_0.Fields.length:Int).toNat+1) 0) fun b3 =>
 k7 (fun _ =>
 some (-1)) (fun y5 =>
 some y5) b3
def a2N (v:Val)(t:Api_Type)(n_2:Api_TypeNode)(rec_semtyperef7_members:(List Val)->Api_Type->(List Int)->Option Bool)(rec_semtyperef7_member:Val->Api_Type->Int->Option Bool)(x1:Int):Option (Fl Int (Sum Unit Bool)) :=
 bif decide (x1<(v.Entries.length:Int))
 then (Option.bind (idx v.Entries x1) fun e2 =>
 Option.bind (cut n_2.Kids 0 (wr .i64 ((n_2.Kids.length:Int)-1))) fun y3 =>
 Option.bind (rec_semtyperef7_members e2.Args t y3) fun r4 =>
 Option.bind (bif r4
 then (Option.bind (bif e2.Fails
 then (some true)
 else (Option.bind (idx n_2.Kids (wr .i64 ((n_2.Kids.length:Int)-1))) fun e5 =>
 Option.bind (rec_semtyperef7_member e2.Result t e5) fun r6 =>
 some (!r6))) fun q7 =>
 some q7)
 else (some false)) fun q8 =>
 bif q8
 then (some (.done (.inr false)))
 else (some (.next (wr .i64 (x1+1)))))
 else (some (.done (.inl ())))
def a3b (d:Val)(a2_2:Api_TypeNode)(x1:Int):Option (Fl Int (Sum Unit Bool)) :=
 bif decide (x1<(a2_2.Fields.length:Int))
 then (Option.bind (idx a2_2.Fields x1) fun e2 =>
 Option.bind (bif !e2.Optional
 then (Option.bind (idx a2_2.Fields x1) fun e3 =>
 Option.bind (a6j d e3.Key_) fun r4 =>
 some (decide (r4<0)))
 else (some false)) fun q5 =>
 bif q5
 then (some (.done (.inr false)))
 else (some (.next (wr .i64 (x1+1)))))
 else (some (.done (.inl ())))
def a1W (d:Val)(t:Api_Type)(a2_2:Api_TypeNode)(rec_semtyperef7_member:Val->Api_Type->Int->Option Bool)(x9:Int):Option (Fl Int (Sum Unit Bool)) :=
 bif decide (x9<(d.Keys.length:Int))
 then (Option.bind (idx d.Keys x9) fun e10 =>
 Option.bind (a2A a2_2 e10) fun r11 =>
 Option.bind (Option.bind (idx d.Keys x9) fun e12 =>
 bif e12.Kind==0
 then (some a2_2.Rest.1)
 else (bif e12.Kind==1
 then (some a2_2.Rest.2)
 else (none))) fun b13 =>
 Option.bind (bif decide (0<=r11)
 then (Option.bind (idx a2_2.Fields r11) fun e14 =>
 some e14.Node)
 else (some b13)) fun b15 =>
 Option.bind (idx d.Kids x9) fun e16 =>
 Option.bind (rec_semtyperef7_member e16 t b15) fun r17 =>
 bif !r17
 then (some (.done (.inr false)))
 else (some (.next (wr .i64 (x9+1)))))
 else (some (.done (.inl ())))
def a2d (d:Val)(t:Api_Type)(e1:Api_TypeNode)(rec_semtyperef7_member:Val->Api_Type->Int->Option Bool)(x14:Int):Option (Fl Int (Sum Unit Bool)) :=
 bif decide (x14<(e1.Kids.length:Int))
 then (Option.bind (idx e1.Kids x14) fun e15 =>
 Option.bind (rec_semtyperef7_member d t e15) fun r16 =>
 bif r16
 then (some (.done (.inr true)))
 else (some (.next (wr .i64 (x14+1)))))
 else (some (.done (.inl ())))
def a1c (d:Val)(t:Api_Type)(e1:Api_TypeNode)(rec_semtyperef7_member:Val->Api_Type->Int->Option Bool)(x20:Int):Option (Fl Int (Sum Unit Bool)) :=
 bif decide (x20<(e1.Kids.length:Int))
 then (Option.bind (idx e1.Kids x20) fun e21 =>
 Option.bind (rec_semtyperef7_member d t e21) fun r22 =>
 bif !r22
 then (some (.done (.inr false)))
 else (some (.next (wr .i64 (x20+1)))))
 else (some (.done (.inl ())))
def a19 (d:Val)(e1:Api_TypeNode)(x28:Int):Option (Fl Int (Sum Unit Bool)) :=
 bif decide (x28<(d.Labels.length:Int))
 then (Option.bind (idx d.Labels x28) fun e29 =>
 bif Q4 e29 e1.Text
 then (some (.done (.inr true)))
 else (some (.next (wr .i64 (x28+1)))))
 else (some (.done (.inl ())))
def a1T (l:List Val)(t:Api_Type)(nodes:List Int)(rec_semtyperef7_member:Val->Api_Type->Int->Option Bool)(x1:Int):Option (Fl Int (Sum Unit Bool)) :=
 bif decide (x1<(l.length:Int))
 then (Option.bind (idx l x1) fun e2 =>
 Option.bind (idx nodes x1) fun e3 =>
 Option.bind (rec_semtyperef7_member e2 t e3) fun r4 =>
 bif !r4
 then (some (.done (.inr false)))
 else (some (.next (wr .i64 (x1+1)))))
 else (some (.done (.inl ())))
def a4Y (_:Nat)(_:Val->Api_Type->Api_TypeNode->Option Bool)(_:Val->Api_Type->Api_TypeNode->Option Bool)(rec_semtyperef7_member:Val->Api_Type->Int->Option Bool)(rec_semtyperef7_members:(List Val)->Api_Type->(List Int)->Option Bool)(v:Val)(t:Api_Type)(n_2:Api_TypeNode):Option Bool :=
 bif v.Int_ != (wr .i64 ((n_2.Kids.length:Int)-1))
 then (some false)
 else (Option.bind (y4 (a2N v t n_2 rec_semtyperef7_members rec_semtyperef7_member) ((v.Entries.length:Int).toNat+1) 0) fun b9 =>
 k7 (fun _ =>
 some true) (fun y11 =>
 some y11) b9)
def a5d (_:Nat)(_:Val->Api_Type->Api_TypeNode->Option Bool)(_:Val->Api_Type->Api_TypeNode->Option Bool)(rec_semtyperef7_member:Val->Api_Type->Int->Option Bool)(_:(List Val)->Api_Type->(List Int)->Option Bool)(d:Val)(t:Api_Type)(a2_2:Api_TypeNode):Option Bool :=
 Option.bind (y4 (a3b d a2_2) ((a2_2.Fields.length:Int).toNat+1) 0) fun b6 =>
 k7 (fun _ =>
 Option.bind (y4 (a1W d t a2_2 rec_semtyperef7_member) ((d.Keys.length:Int).toNat+1) 0) fun b18 =>
 k7 (fun _ =>
 some true) (fun y20 =>
 some y20) b18) (fun y8 =>
 some y8) b6
def a5M (_:Nat)(rec_semtyperef7_function:Val->Api_Type->Api_TypeNode->Option Bool)(rec_semtyperef7_mapping:Val->Api_Type->Api_TypeNode->Option Bool)(rec_semtyperef7_member:Val->Api_Type->Int->Option Bool)(rec_semtyperef7_members:(List Val)->Api_Type->(List Int)->Option Bool)(d:Val)(t:Api_Type)(a2_2:Int):Option Bool :=
 Option.bind (idx t.Nodes a2_2) fun e1 =>
 bif e1.Kind==2
 then (some true)
 else (bif e1.Kind==3
 then (Option.bind (bif d.Kind==1
 then (some (decide (e1.Lo<=d.Int_)))
 else (some false)) fun q2 =>
 Option.bind (bif q2
 then (some (decide (d.Int_<=e1.Hi)))
 else (some false)) fun q3 =>
 some q3)
 else (bif e1.Kind==4
 then (Option.bind (bif d.Kind==2
 then (some (Q4 d.Text e1.Text))
 else (some false)) fun q4 =>
 some q4)
 else (bif e1.Kind==5
 then (some (d.Kind==2))
 else (bif e1.Kind==6
 then (Option.bind (bif d.Kind==3
 then (some (Q4 d.Text e1.Text))
 else (some false)) fun q5 =>
 some q5)
 else (bif e1.Kind==7
 then (some (d.Kind==3))
 else (bif e1.Kind==8
 then (some (d.Kind==4))
 else (bif e1.Kind==9
 then (some (d.Kind==5))
 else (bif e1.Kind==11
 then (some (d.Kind==6))
 else (bif e1.Kind==15
 then (some (d.Kind==9))
 else (bif e1.Kind==10
 then (Option.bind (bif d.Kind==6
 then (Option.bind (rec_semtyperef7_members d.Kids t e1.Kids) fun r6 =>
 some r6)
 else (some false)) fun q7 =>
 some q7)
 else (bif e1.Kind==12
 then (Option.bind (bif d.Kind==7
 then (Option.bind (rec_semtyperef7_members d.Kids t e1.Kids) fun r8 =>
 some r8)
 else (some false)) fun q9 =>
 some q9)
 else (bif e1.Kind==13
 then (Option.bind (bif d.Kind==8
 then (Option.bind (rec_semtyperef7_mapping d t e1) fun r10 =>
 some r10)
 else (some false)) fun q11 =>
 some q11)
 else (bif e1.Kind==14
 then (Option.bind (bif d.Kind==9
 then (Option.bind (rec_semtyperef7_function d t e1) fun r12 =>
 some r12)
 else (some false)) fun q13 =>
 some q13)
 else (bif e1.Kind==16
 then (Option.bind (y4 (a2d d t e1 rec_semtyperef7_member) ((e1.Kids.length:Int).toNat+1) 0) fun b17 =>
 k7 (fun _ =>
 some false) (fun y19 =>
 some y19) b17)
 else (bif e1.Kind==17
 then (Option.bind (y4 (a1c d t e1 rec_semtyperef7_member) ((e1.Kids.length:Int).toNat+1) 0) fun b23 =>
 k7 (fun _ =>
 some true) (fun y25 =>
 some y25) b23)
 else (bif e1.Kind==18
 then (Option.bind (idx e1.Kids 0) fun e26 =>
 Option.bind (rec_semtyperef7_member d t e26) fun r27 =>
 some (!r27))
 else (bif e1.Kind==19
 then (Option.bind (y4 (a19 d e1) ((d.Labels.length:Int).toNat+1) 0) fun b30 =>
 k7 (fun _ =>
 some false) (fun y32 =>
 some y32) b30)
 else (some false))))))))))))))))))
def a2e (_:Nat)(_:Val->Api_Type->Api_TypeNode->Option Bool)(_:Val->Api_Type->Api_TypeNode->Option Bool)(rec_semtyperef7_member:Val->Api_Type->Int->Option Bool)(_:(List Val)->Api_Type->(List Int)->Option Bool)(l:List Val)(t:Api_Type)(nodes:List Int):Option Bool :=
 bif (l.length:Int) != (nodes.length:Int)
 then (some false)
 else (Option.bind (y4 (a1T l t nodes rec_semtyperef7_member) ((l.length:Int).toNat+1) 0) fun b5 =>
 k7 (fun _ =>
 some true) (fun y7 =>
 some y7) b5)
def v8:Nat->(Val->Api_Type->Api_TypeNode->Option Bool)×(Val->Api_Type->Api_TypeNode->Option Bool)×(Val->Api_Type->Int->Option Bool)×((List Val)->Api_Type->(List Int)->Option Bool)
 | 0=>(fun _ _ _=>none,fun _ _ _=>none,fun _ _ _=>none,fun _ _ _=>none)
 | n+1=>(a4Y n ((v8 n).1) ((v8 n).2.1) ((v8 n).2.2.1) ((v8 n).2.2.2),a5d n ((v8 n).1) ((v8 n).2.1) ((v8 n).2.2.1) ((v8 n).2.2.2),a5M n ((v8 n).1) ((v8 n).2.1) ((v8 n).2.2.1) ((v8 n).2.2.2),a2e n ((v8 n).1) ((v8 n).2.1) ((v8 n).2.2.1) ((v8 n).2.2.2))
def a0P (n:Nat):Val->Api_Type->Api_TypeNode->Option Bool:=(v8 n).1
def a00 (n:Nat):Val->Api_Type->Api_TypeNode->Option Bool:=(v8 n).2.1
def w4 (n:Nat):Val->Api_Type->Int->Option Bool:=(v8 n).2.2.1
def a0u (n:Nat):(List Val)->Api_Type->(List Int)->Option Bool:=(v8 n).2.2.2
def a3l (v:Val)(t:Api_Type)(g:Api_Goal)(n:Nat)(x1:Int):Option (Fl Int (Sum Unit Bool)) :=
 bif decide (x1<(g.Pos.length:Int))
 then (Option.bind (idx g.Pos x1) fun e2 =>
 Option.bind (w4 n v t e2) fun r3 =>
 bif !r3
 then (some (.done (.inr false)))
 else (some (.next (wr .i64 (x1+1)))))
 else (some (.done (.inl ())))
def a3o (v:Val)(t:Api_Type)(g:Api_Goal)(n:Nat)(x7:Int):Option (Fl Int (Sum Unit Bool)) :=
 bif decide (x7<(g.Neg.length:Int))
 then (Option.bind (idx g.Neg x7) fun e8 =>
 Option.bind (w4 n v t e8) fun r9 =>
 bif r9
 then (some (.done (.inr false)))
 else (some (.next (wr .i64 (x7+1)))))
 else (some (.done (.inl ())))
def a6y (n:Nat)(v:Val)(t:Api_Type)(g:Api_Goal):Option Bool :=
 Option.bind (y4 (a3l v t g n) ((g.Pos.length:Int).toNat+1) 0) fun b4 =>
 k7 (fun _ =>
 Option.bind (y4 (a3o v t g n) ((g.Neg.length:Int).toNat+1) 0) fun b10 =>
 k7 (fun _ =>
 Option.bind (bif !g.Lists
 then (some true)
 else (some (v.Kind==5))) fun q13 =>
 Option.bind (bif q13
 then (some true)
 else (some (v.Kind==7))) fun q14 =>
 some q14) (fun y12 =>
 some y12) b10) (fun y6 =>
 some y6) b4
def a14 (n:Nat)(v:Val)(t:Api_Type)(g:Api_Goal):Option Bool :=
 Option.bind (a0a n v) fun r1 =>
 Option.bind (bif r1
 then (Option.bind (a0X n t) fun r2 =>
 some (r2==0))
 else (some false)) fun q3 =>
 Option.bind (bif q3
 then (Option.bind (a4p t g) fun r4 =>
 some r4)
 else (some false)) fun q5 =>
 Option.bind (bif q5
 then (Option.bind (a6y n v t g) fun r6 =>
 some r6)
 else (some false)) fun q7 =>
 some q7
def a3S (v:List Val)(t:Api_Type)(l:List Api_Goal)(n:Nat)(x1:Int):Option (Fl Int (Sum Unit Bool)) :=
 bif decide (x1<(v.length:Int))
 then (Option.bind (idx v x1) fun e2 =>
 Option.bind (idx l x1) fun e3 =>
 Option.bind (a14 n e2 t e3) fun r4 =>
 bif !r4
 then (some (.done (.inr false)))
 else (some (.next (wr .i64 (x1+1)))))
 else (some (.done (.inl ())))
def a45 (n:Nat)(v:List Val)(t:Api_Type)(l:List Api_Goal):Option Bool :=
 bif (v.length:Int) != (l.length:Int)
 then (some false)
 else (Option.bind (y4 (a3S v t l n) ((v.length:Int).toNat+1) 0) fun b5 =>
 k7 (fun _ =>
 some true) (fun y7 =>
 some y7) b5)
def X0 (n:Nat)(r3:Api_Type×Val)(r5:(List Api_Box)×Int)(x12:Bool×Int):Option (Fl (Bool×Int) (Sum Bool Bool)) :=
 bif decide (x12.2<(r5.1.length:Int))
 then (Option.bind (idx r5.1 x12.2) fun e13 =>
 Option.bind (a45 n r3.2.Kids r3.1 e13.Parts) fun r14 =>
 Option.bind (idx r5.1 x12.2) fun e15 =>
 Option.bind (a5V n r3.2.Kids r3.1 e15) fun r16 =>
 bif r16 != r14
 then (some (.done (.inr false)))
 else (Option.bind (bif x12.1
 then (some true)
 else (some r14)) fun q17 =>
 some (.next (q17,wr .i64 (x12.2+1)))))
 else (some (.done (.inl x12.1)))
def a06 (n:Nat)(d:List Int)(t:List Int)(a2_2:List Int):Option Bool :=
 Option.bind (a4G ([d,t,a2_2]:List (List Int))) fun r1 =>
 bif !r1
 then (Option.bind (a1k n) fun r2 =>
 some r2)
 else (Option.bind (a4M n d t) fun r3 =>
 Option.bind (a43 r3.1 (Semtypebase_Source.mk a2_2 0)) fun r4 =>
 Option.bind (a3g n r3.1 r4.1) fun r5 =>
 Option.bind (bif r5.2 != 0
 then (some true)
 else (some (decide (2000<(r5.1.length:Int))))) fun q6 =>
 bif q6
 then (Option.bind (bif r5.2==0
 then (Option.bind (a1k n) fun r7 =>
 some r7)
 else (some false)) fun q8 =>
 some q8)
 else (Option.bind (bif r3.2.Kind != r4.1.Kind
 then (some true)
 else (Option.bind (bif r3.2.Kind==6
 then (some ((r3.2.Kids.length:Int) != r4.1.Arity))
 else (some false)) fun q9 =>
 some q9)) fun q10 =>
 bif q10
 then (Option.bind (a1k n) fun r11 =>
 some r11)
 else (Option.bind (y4 (X0 n r3 r5) ((r5.1.length:Int).toNat+1) (false,0)) fun b18 =>
 k7 (fun x19 =>
 Option.bind (a14 n r3.2 r3.1 (Api_Goal.mk r4.1.Pos r4.1.Neg false)) fun r21 =>
 Option.bind (bif x19==r21
 then (Option.bind (a1k n) fun r22 =>
 some r22)
 else (some false)) fun q23 =>
 some q23) (fun y20 =>
 some y20) b18)))
end Go.Qx
end
section
namespace Go.Pl
open Go Go.RowKit Go.Sx Go.Qx
theorem Z2 (x:Int):wr .i64 x=w64 x:=rfl
theorem X1 {α:Type}(b:Bool)(x y:α):(bif b then x else y)=if b=true then x else y:=by cases b<;>rfl
theorem W7 {α:Type}(o:Option α):(Option.bind o fun x=>some x)=o:=by cases o<;>rfl
theorem Z5 {α:Type}(l:List α):((l.length:Int)).toNat=l.length:=by omega
theorem c0q (s:ByteArray):((s.size:Int)).toNat=s.size:=by omega
theorem K1 {x:Int}(h1 : -9223372036854775808<=x)(h2:x<=9223372036854775807):w64 x=x:=by
 unfold w64
 rw [IntKind.wrap_i64]
 omega
theorem j6 {α:Type}{xs:List α}{i:Nat}{x:α}(h:xs[i]?=some x):idx xs (i:Int)=some x:=by
 unfold idx
 rw [if_pos (by omega)]
 simpa using h
theorem Q9 {n bytes:Nat}(h:n*bytes<=140737488355328):Y1 n bytes=some ():=by unfold Y1; rw [if_pos h]
theorem b2Q {σ α St β:Type}{step:St->Option (Fl St β)}(xs:List α)(pack:σ->Nat->St)(F:σ->α->σ)(I:Nat->σ->Prop)(D:σ->β)
 (hstep:∀ i s x,xs[i]?=some x->I i s->step (pack s i)=some (.next (pack (F s x) (i+1)))/\I (i+1) (F s x))
 (hend:∀ s,I xs.length s->step (pack s xs.length)=some (.done (D s))) (s0:σ) (h0:I 0 s0) (k:Nat) (hk:xs.length+1<=k) :
 y4 step k (pack s0 0)=some (D (xs.foldl F s0)):=by
 have key:∀ (n i:Nat) (s:σ) (k:Nat),i+n=xs.length->n+1<=k->I i s->y4 step k (pack s i)=some (D ((xs.drop i).foldl F s)):=by
  intro n
  induction n with
  | zero =>
    intro i s k hi hk hI
    have e:i=xs.length:=by omega
    subst e
    obtain ⟨k,rfl⟩:∃ m,k=m+1:=⟨k-1,by omega⟩
    simp [y4,hend s hI]
  | succ n ih =>
    intro i s k hi hk hI
    have hlt:i<xs.length:=by omega
    obtain ⟨k,rfl⟩:∃ m,k=m+1:=⟨k-1,by omega⟩
    obtain ⟨h1,h2⟩:=hstep i s xs[i] (List.getElem?_eq_getElem hlt) hI
    rw [List.drop_eq_getElem_cons hlt,List.foldl_cons]
    simp only [y4,h1,Option.bind_some]
    exact ih (i+1) _ k (by omega) (by omega) h2
 have:=key xs.length 0 s0 k (by omega) hk h0
 simpa using this
def a3m (s:ByteArray):Nat:=s.size+1
def J3:List ByteArray->Nat
 | []=>0
 | s::r=>a3m s+J3 r
def a56 (k:Key):Nat:=1+a3m k.Text+1
def w5:List Key->Nat
 | []=>0
 | s::r=>a56 s+w5 r
mutual
def k8:Val->Nat
 | .mk _ _ t kids keys ents labs=>1+1+a3m t+(k9 kids+1)+(w5 keys+1)+(w9 ents+1)+(J3 labs+1)+1
def k9:List Val->Nat
 | []=>0
 | x::r=>k8 x+k9 r
def a3X:Ent->Nat
 | .mk args _ res=>(k9 args+1)+1+k8 res+1
def w9:List Ent->Nat
 | []=>0
 | x::r=>a3X x+w9 r
end
theorem a03 (v:Val):k8 v=1+1+a3m v.Text+(k9 v.Kids+1)+(w5 v.Keys+1)+(w9 v.Entries+1)+(J3 v.Labels+1)+1:=by
 cases v; simp only [k8,Val.Text,Val.Kids,Val.Keys,Val.Entries,Val.Labels]
theorem a1q (v:Ent):a3X v=(k9 v.Args+1)+1+k8 v.Result+1:=by
 cases v; simp only [a3X,Ent.Args,Ent.Result]
theorem a0M {x:Val}:∀ {l:List Val},x∈l->k8 x<=k9 l
 | y::r,h=>by
   simp only [k9]
   rcases List.mem_cons.1 h with rfl | h
   ·omega
   ·have:=a0M h; omega
theorem X6 {x:Ent}:∀ {l:List Ent},x∈l->a3X x<=w9 l
 | y::r,h=>by
   simp only [w9]
   rcases List.mem_cons.1 h with rfl | h
   ·omega
   ·have:=X6 h; omega
theorem a1Z:∀ (l:List Val),l.length<=k9 l
 | []=>Nat.le_refl _
 | x::r=>by have:=a1Z r; have:=a03 x; simp only [k9,List.length_cons]; omega
theorem a29:∀ (l:List Ent),l.length<=w9 l
 | []=>Nat.le_refl _
 | x::r=>by have:=a29 r; have:=a1q x; simp only [w9,List.length_cons]; omega
theorem a5a:∀ (l:List Key),l.length<=w5 l
 | []=>Nat.le_refl _
 | x::r=>by have:=a5a r; simp only [w5,a56,List.length_cons]; omega
theorem a4d:∀ (l:List ByteArray),l.length<=J3 l
 | []=>Nat.le_refl _
 | x::r=>by have:=a4d r; simp only [J3,a3m,List.length_cons]; omega
theorem a1v (l m:List Val):k9 (l++m)=k9 l+k9 m:=by
 induction l with
 | nil=>simp [k9]
 | cons x r ih=>simp only [List.cons_append,k9,ih]; omega
theorem a7Y (v:Val):8<=k8 v:=by rw [a03]; unfold a3m; omega
end Go.Pl
namespace Go.Pl
open Go Go.RowKit Go.Sx Go.Qx
def a6G (e:Ent):List Val:=e.Args++(if e.Fails then [] else [e.Result])
def a8r (v:Val):List Val:=v.Kids++v.Entries.flatMap a6G
theorem c34 (e:Ent):k9 (a6G e)<a3X e:=by
 rw [a1q,a6G,a1v]
 cases e.Fails<;>simp [k9]<;>omega
theorem b7e:∀ l:List Ent,k9 (l.flatMap a6G)<=w9 l
 | []=>by simp [k9]
 | e::r=>by
   have h1:=b7e r
   have h2:=c34 e
   simp only [List.flatMap_cons,a1v,w9]
   omega
theorem c5I (v:Val):k9 (a8r v)<k8 v:=by
 have:=b7e v.Entries
 rw [a03,a8r,a1v]
 omega
theorem c08 {α β:Type}(f:β->List α):∀ (l:List β) (s:List α),l.foldl (fun s x=>s++f x) s=s++l.flatMap f
 | [],s=>by simp
 | x::r,s=>by simp only [List.foldl_cons,c08 f r,List.flatMap_cons,List.append_assoc]
theorem c76 (v:Val)(h:k8 v<=4194304):a9F v=some (a8r v):=by
 have hb:=a03 v
 have hk:=a1Z v.Kids
 unfold a9F a4E
 rw [Q9 (by simp; omega)]
 simp only [Option.bind_some,Z5,W7]
 have hlen:=a29 v.Entries
 have hloop:y4 (a63 v) (v.Entries.length+1) (v.Kids,0)=some (v.Entries.foldl (fun s e=>s++a6G e) v.Kids):=by
  refine b2Q (σ:=List Val) v.Entries (fun s i=>(s,(i:Int))) (fun s e=>s++a6G e) (fun i s=>s=v.Kids++(v.Entries.take i).flatMap a6G) (fun s=>s)
   ?_ ?_ v.Kids (by simp) _ (Nat.le_refl _)
  ·intro i s e he hI
   have hi:i<v.Entries.length:=(List.getElem?_eq_some_iff.1 he).1
   have hmem:e∈v.Entries:=List.mem_of_getElem? he
   have h1:=X6 hmem
   have h2:=a1q e
   have h3:=a1Z e.Args
   have hs:s.length+e.Args.length+1<=8388608:=by
    have:k9 s<=k8 v:=by
     rw [hI,a1v]
     have h5:=b7e (v.Entries.take i)
     have h6:w9 (v.Entries.take i)<=w9 v.Entries:=by
      have:=List.take_append_drop i v.Entries
      have h7:∀ a b:List Ent,w9 (a++b)=w9 a+w9 b:=by
       intro a b
       induction a with
       | nil=>simp [w9]
       | cons x r ih=>simp only [List.cons_append,w9,ih]; omega
      have h8:=h7 (v.Entries.take i) (v.Entries.drop i)
      rw [this] at h8
      omega
     omega
    have:=a1Z s
    omega
   refine ⟨?_,?_⟩
   ·unfold a63
    simp only [X1,Z2]
    rw [if_pos (by simp; omega),j6 he]
    simp only [Option.bind_some]
    rw [Q9 (by omega)]
    simp only [Option.bind_some]
    have hw:w64 ((i:Int)+1)=((i+1:Nat):Int):=by rw [K1 (by omega) (by omega)]; rfl
    cases hf:e.Fails
    ·rw [if_pos (by simp),Q9 (by simp only [List.length_append,List.length_cons,List.length_nil]; omega)]
     simp [a6G,hf,hw]
    ·rw [if_neg (by simp)]
     simp [a6G,hf,hw]
   ·rw [hI,List.take_add_one,he]
    simp
  ·intro s _
   unfold a63
   simp
 rw [hloop]
 simp only [c08,a8r]
theorem a6I {α:Type}{l:List α}{i:Nat}{x:α}(h:l[i]?=some x):l.take (i+1)=l.take i++[x]:=by
 rw [List.take_add_one,h]; rfl
end Go.Pl
end
section
namespace Go.Pl
open Go Go.RowKit Go.Sx Go.Qx
def tn (x y:Int):Int:=if x=0 then y else x
def cI (x y:Int):Int:=if x<y then -1 else if y<x then 1 else 0
def lx:List Int->List Int->Int
 | [],[]=>0
 | [],_::_ => -1
 | _::_,[]=>1
 | x::xs,y::ys=>tn (cI x y) (lx xs ys)
theorem a9d (x y z:Int):tn (tn x y) z=tn x (tn y z):=by unfold tn; split<;>simp_all
theorem a9r (x:Int):tn x 0=x:=by unfold tn; split<;>simp_all
theorem a80 (x:Int):tn 0 x=x:=by simp [tn]
theorem W9 (x y:Int):(x<y/\cI x y = -1)\/(y<x/\cI x y=1)\/(x=y/\cI x y=0):=by
 unfold cI
 by_cases h:x<y
 ·left; simp [h]
 ·by_cases h2:y<x
  ·right; left; simp [h,h2]
  ·right; right; simp [h,h2]; omega
theorem b35:∀ a b:List Int,lx b a = - lx a b
 | [],[]=>by simp [lx]
 | [],_::_=>by simp [lx]
 | _::_,[]=>by simp [lx]
 | x::xs,y::ys=>by
   have:=b35 xs ys
   rcases W9 x y with ⟨h1,h⟩ | ⟨h1,h⟩ | ⟨h1,h⟩<;>rcases W9 y x with ⟨h2,k⟩ | ⟨h2,k⟩ | ⟨h2,k⟩<;>simp [lx,h,k,tn]<;>omega
theorem b85:∀ a b c:List Int,lx a b<=0->lx b c<=0->lx a c<=0
 | [],_,[],_,_=>by simp [lx]
 | [],_,_::_,_,_=>by simp [lx]
 | _::_,[],_,h,_=>by simp [lx] at h
 | _::_,_::_,[],_,h=>by simp [lx] at h
 | x::xs,y::ys,z::zs,h1,h2=>by
   have:=b85 xs ys zs
   rcases W9 x y with ⟨p1,h⟩ | ⟨p1,h⟩ | ⟨p1,h⟩<;>rcases W9 y z with ⟨p2,k⟩ | ⟨p2,k⟩ | ⟨p2,k⟩ <;>
    rcases W9 x z with ⟨p3,l⟩ | ⟨p3,l⟩ | ⟨p3,l⟩<;>simp [lx,h,k,l,tn] at h1 h2 ⊢<;>first | omega | (exact this (by omega) (by omega))
theorem c9y:∀ a:List Int,lx a a=0:=by intro a; have:=b35 a a; omega
def cBs:List UInt8->List UInt8->Int
 | [],[]=>0
 | [],_::_ => -1
 | _::_,[]=>1
 | x::xs,y::ys=>tn (cI x.toNat y.toNat) (cBs xs ys)
def eBs:List UInt8->List Int
 | []=>[0]
 | x::r=>((x.toNat:Int)+1)::eBs r
theorem c9Z (x y:Int):cI (x+1) (y+1)=cI x y:=by
 unfold cI
 by_cases h:x<y
 ·rw [if_pos (by omega),if_pos h]
 ·rw [if_neg (by omega),if_neg h]
  by_cases h2:y<x
  ·rw [if_pos (by omega),if_pos h2]
  ·rw [if_neg (by omega),if_neg h2]
theorem d07:∀ (a b:List UInt8) (r s:List Int),lx (eBs a++r) (eBs b++s)=tn (cBs a b) (lx r s)
 | [],[],r,s=>by simp [eBs,lx,cBs,cI,a80]
 | [],y::ys,r,s=>by
   have:cI 0 ((y.toNat:Int)+1) = -1:=by unfold cI; rw [if_pos (by omega)]
   simp [eBs,lx,cBs,this,tn]
 | x::xs,[],r,s=>by
   have:cI ((x.toNat:Int)+1) 0=1:=by unfold cI; rw [if_neg (by omega),if_pos (by omega)]
   simp [eBs,lx,cBs,this,tn]
 | x::xs,y::ys,r,s=>by
   simp only [eBs,List.cons_append,lx,cBs,c9Z,d07 xs ys,a9d]
def cS (a b:ByteArray):Int:=cBs a.data.toList b.data.toList
def eS (a:ByteArray):List Int:=eBs a.data.toList
theorem pfS (a b:ByteArray)(r s:List Int):lx (eS a++r) (eS b++s)=tn (cS a b) (lx r s):=d07 _ _ r s
def cK (a b:Key):Int:=tn (cI a.Kind b.Kind) (cS a.Text b.Text)
def eK (a:Key):List Int:=a.Kind::eS a.Text
theorem pfK (a b:Key)(r s:List Int):lx (eK a++r) (eK b++s)=tn (cK a b) (lx r s):=by
 simp only [eK,List.cons_append,lx,pfS,cK,a9d]
def cL {α:Type}(c:α->α->Int):List α->List α->Int
 | [],_=>0
 | _::_,[]=>0
 | x::xs,y::ys=>tn (c x y) (cL c xs ys)
def cN {α:Type}(c:α->α->Int)(xs ys:List α):Int:=tn (cI (xs.length:Int) (ys.length:Int)) (cL c xs ys)
def eN {α:Type}(e:α->List Int)(xs:List α):List Int:=(xs.length:Int)::xs.flatMap e
theorem pfL {α:Type}{c:α->α->Int}{e:α->List Int}:∀ (xs ys:List α) (r s:List Int),(∀ x∈xs,∀ y r s,lx (e x++r) (e y++s)=tn (c x y) (lx r s))->xs.length=ys.length ->
 lx (xs.flatMap e++r) (ys.flatMap e++s)=tn (cL c xs ys) (lx r s)
 | [],[],r,s,_,_=>by simp [cL,a80]
 | [],_::_,_,_,_,h=>by simp at h
 | _::_,[],_,_,_,h=>by simp at h
 | x::xs,y::ys,r,s,hc,h=>by
   simp only [List.flatMap_cons,List.append_assoc,cL]
   rw [hc x (by simp),pfL xs ys r s (fun z hz=>hc z (by simp [hz])) (by simpa using h),a9d]
theorem pfN {α:Type}{c:α->α->Int}{e:α->List Int}(xs ys:List α)(r s:List Int)(hc:∀ x∈xs,∀ y r s,lx (e x++r) (e y++s)=tn (c x y) (lx r s)) :
 lx (eN e xs++r) (eN e ys++s)=tn (cN c xs ys) (lx r s):=by
 simp only [eN,List.cons_append,lx,cN,a9d]
 rcases W9 (xs.length:Int) (ys.length:Int) with ⟨_,h⟩ | ⟨_,h⟩ | ⟨h1,h⟩
 ·simp [h,tn]
 ·simp [h,tn]
 ·rw [h,a80,a80,pfL xs ys r s hc (by omega)]
def bI (b:Bool):Int:=if b then 0 else 1
mutual
def cV:Val->Val->Int
 | .mk k n t kids keys ents labs,b=>tn (cI k b.Kind) (tn (cI n b.Int_) (tn (cS t b.Text) (tn (cN cK keys b.Keys) (tn (tn (cI (kids.length:Int) (b.Kids.length:Int)) (cVs kids b.Kids)) (tn (tn (cI (ents.length:Int) (b.Entries.length:Int)) (cEs ents b.Entries)) (cN cS labs b.Labels))))))
def cVs:List Val->List Val->Int
 | [],_=>0
 | _::_,[]=>0
 | x::xs,y::ys=>tn (cV x y) (cVs xs ys)
def cE:Ent->Ent->Int
 | .mk args f res,b=>tn (tn (cI (args.length:Int) (b.Args.length:Int)) (cVs args b.Args)) (tn (cI (bI f) (bI b.Fails)) (cV res b.Result))
def cEs:List Ent->List Ent->Int
 | [],_=>0
 | _::_,[]=>0
 | x::xs,y::ys=>tn (cE x y) (cEs xs ys)
end
theorem c3b:∀ xs ys:List Val,cVs xs ys=cL cV xs ys
 | [],_=>by simp [cVs,cL]
 | _::_,[]=>by simp [cVs,cL]
 | x::xs,y::ys=>by simp only [cVs,cL,c3b xs ys]
theorem c7a:∀ xs ys:List Ent,cEs xs ys=cL cE xs ys
 | [],_=>by simp [cEs,cL]
 | _::_,[]=>by simp [cEs,cL]
 | x::xs,y::ys=>by simp only [cEs,cL,c7a xs ys]
theorem c5T (a b:Val):cV a b=tn (cI a.Kind b.Kind) (tn (cI a.Int_ b.Int_) (tn (cS a.Text b.Text) (tn (cN cK a.Keys b.Keys) (tn (cN cV a.Kids b.Kids) (tn (cN cE a.Entries b.Entries) (cN cS a.Labels b.Labels)))))):=by
 cases a; simp only [cV,c3b,c7a,cN,Val.Kind,Val.Int_,Val.Text,Val.Keys,Val.Kids,Val.Entries,Val.Labels]
theorem c5q (a b:Ent):cE a b=tn (cN cV a.Args b.Args) (tn (cI (bI a.Fails) (bI b.Fails)) (cV a.Result b.Result)):=by
 cases a; simp only [cE,c3b,cN,Ent.Args,Ent.Fails,Ent.Result]
mutual
def eV:Val->List Int
 | .mk k n t kids keys ents labs=>k::n::(eS t++(eN eK keys++(((kids.length:Int)::eVs kids)++(((ents.length:Int)::eEs ents)++eN eS labs))))
def eVs:List Val->List Int
 | []=>[]
 | x::xs=>eV x++eVs xs
def eE:Ent->List Int
 | .mk args f res=>((args.length:Int)::eVs args)++(bI f::eV res)
def eEs:List Ent->List Int
 | []=>[]
 | x::xs=>eE x++eEs xs
end
theorem c19:∀ xs:List Val,eVs xs=xs.flatMap eV
 | []=>by simp [eVs]
 | x::xs=>by simp only [eVs,List.flatMap_cons,c19 xs]
theorem c7c:∀ xs:List Ent,eEs xs=xs.flatMap eE
 | []=>by simp [eEs]
 | x::xs=>by simp only [eEs,List.flatMap_cons,c7c xs]
theorem c83 (a:Val):eV a=a.Kind::a.Int_::(eS a.Text++(eN eK a.Keys++(eN eV a.Kids++(eN eE a.Entries++eN eS a.Labels)))):=by
 cases a; simp only [eV,c19,c7c,eN,Val.Kind,Val.Int_,Val.Text,Val.Keys,Val.Kids,Val.Entries,Val.Labels]
theorem c85 (a:Ent):eE a=eN eV a.Args++(bI a.Fails::eV a.Result):=by
 cases a; simp only [eE,c19,eN,Ent.Args,Ent.Fails,Ent.Result]
theorem c7b:∀ n:Nat,(∀ a:Val,k8 a<=n->∀ b r s,lx (eV a++r) (eV b++s)=tn (cV a b) (lx r s))/\(∀ a:Ent,a3X a<=n->∀ b r s,lx (eE a++r) (eE b++s)=tn (cE a b) (lx r s)):=by
 intro n
 induction n with
 | zero=>exact ⟨fun a h=>by have:=a7Y a; omega,fun a h=>by have:=a1q a; omega⟩
 | succ n ih =>
   refine ⟨fun a h b r s=>?_,fun a h b r s=>?_⟩
   ·have hb:=a03 a
    rw [c83 a,c83 b,c5T]
    simp only [List.cons_append,List.append_assoc,lx,a9d]
    rw [pfS,pfN a.Keys b.Keys _ _ (fun x _ y r s=>pfK x y r s),pfN a.Kids b.Kids _ _ (fun x hx=>ih.1 x (by have:=a0M hx; omega)),
     pfN a.Entries b.Entries _ _ (fun x hx=>ih.2 x (by have:=X6 hx; omega)),pfN a.Labels b.Labels _ _ (fun x _ y r s=>pfS x y r s)]
   ·have hb:=a1q a
    rw [c85 a,c85 b,c5q]
    simp only [List.append_assoc,a9d]
    rw [pfN a.Args b.Args _ _ (fun x hx=>ih.1 x (by have:=a0M hx; omega))]
    simp only [List.cons_append,lx]
    rw [ih.1 a.Result (by omega)]
theorem d1K (a b:Val):cV a b=lx (eV a) (eV b):=by
 have:=(c7b (k8 a)).1 a (Nat.le_refl _) b [] []
 simpa [lx,a9r] using this.symm
theorem c9x (a:Val):cV a a=0:=by rw [d1K]; exact c9y _
end Go.Pl
namespace Go.Pl
open Go Go.RowKit Go.Sx Go.Qx
theorem b5K (a b:Int):a0G a b=some (cI a b):=by
 unfold a0G a7B
 simp only [X1,bne_self_eq_false,Option.bind_some,Bool.false_eq_true,if_false]
 rcases W9 a b with ⟨h,e⟩ | ⟨h,e⟩ | ⟨h,e⟩
 ·rw [if_pos (by simpa using h),e]
 ·rw [if_neg (by simp; omega),if_pos (by simpa using h),e]
 ·rw [if_neg (by simp; omega),if_neg (by simp; omega),e]
theorem c13 (a b:Int):a44 a b=some (cI a b):=by
 unfold a44 a6i
 simp only [X1,bne_self_eq_false,Option.bind_some,Bool.false_eq_true,if_false]
 rcases W9 a b with ⟨h,e⟩ | ⟨h,e⟩ | ⟨h,e⟩
 ·rw [if_pos (by simpa using h),e]
 ·rw [if_neg (by simp; omega),if_pos (by simpa using h),e]
 ·rw [if_neg (by simp; omega),if_neg (by simp; omega),e]
theorem b1I (a b:Int):a2y a b=some (cI a b):=by
 unfold a2y
 simp only [X1]
 rcases W9 a b with ⟨h,e⟩ | ⟨h,e⟩ | ⟨h,e⟩
 ·rw [if_pos (by simpa using h),e]
 ·rw [if_neg (by simp; omega),if_pos (by simpa using h),e]
 ·rw [if_neg (by simp; omega),if_neg (by simp; omega),e]
theorem b7f (a b:Int):a0w a b=some (cI a b):=by
 unfold a0w; rw [b1I]; rfl
theorem c4w:∀ a b:List UInt8,Lib.compareBytes a b=cBs a b
 | [],[]=>rfl
 | [],_::_=>rfl
 | _::_,[]=>rfl
 | x::xs,y::ys=>by
   have ih:=c4w xs ys
   simp only [Lib.compareBytes,cBs,UInt8.lt_iff_toNat_lt]
   rcases W9 (x.toNat:Int) (y.toNat:Int) with ⟨h,e⟩ | ⟨h,e⟩ | ⟨h,e⟩
   ·rw [if_pos (by omega),e]; rfl
   ·rw [if_neg (by omega),if_pos (by omega),e]; rfl
   ·rw [if_neg (by omega),if_neg (by omega),e,a80,ih]
theorem b0I (a b:ByteArray):a0i a b=some (cS a b):=by
 unfold a0i a2u c3e b6L
 rw [c4w]; rfl
theorem b7i:∀ a b:List UInt8,(Op.bytesLess a b=true/\cBs a b = -1/\a≠b)\/(Op.bytesLess a b=false/\cBs a b=0/\a=b)\/(Op.bytesLess a b=false/\cBs a b=1/\a≠b)
 | [],[]=>by simp [Op.bytesLess,cBs]
 | [],_::_=>by simp [Op.bytesLess,cBs]
 | _::_,[]=>by simp [Op.bytesLess,cBs]
 | x::xs,y::ys=>by
   have ih:=b7i xs ys
   simp only [Op.bytesLess,cBs]
   rcases W9 (x.toNat:Int) (y.toNat:Int) with ⟨h,e⟩ | ⟨h,e⟩ | ⟨h,e⟩
   ·have h1:x<y:=UInt8.lt_iff_toNat_lt.2 (by omega)
    have h2:x≠y:=by intro h3; subst h3; omega
    simp [e,h1,h2,tn]
   ·have h1:¬ x<y:=fun h3=>by have:=UInt8.lt_iff_toNat_lt.1 h3; omega
    have h2:x≠y:=by intro h3; subst h3; omega
    simp [e,h1,h2,tn]
   ·have h2:x=y:=UInt8.toNat_inj.1 (by omega)
    subst h2
    have h1:¬ x<x:=fun h3=>by have:=UInt8.lt_iff_toNat_lt.1 h3; omega
    simpa [e,h1,tn] using ih
theorem a7S (a b:ByteArray):(a2P a b=true/\Q4 a b=false/\cS a b = -1)\/(a2P a b=false/\Q4 a b=true/\cS a b=0)\/(a2P a b=false/\Q4 a b=false/\cS a b=1):=by
 unfold a2P Q4 cS
 rw [Lib.toList_data,Lib.toList_data]
 rcases b7i a.data.toList b.data.toList with ⟨h,e,n⟩ | ⟨h,e,n⟩ | ⟨h,e,n⟩
 ·left; exact ⟨h,by simpa using n,e⟩
 ·right; left; exact ⟨h,by simpa using n,e⟩
 ·right; right; exact ⟨h,by simpa using n,e⟩
theorem b3n (a b:ByteArray):a1i a b=some (cS a b):=by
 unfold a1i
 rcases a7S a b with ⟨h,k,e⟩ | ⟨h,k,e⟩ | ⟨h,k,e⟩<;>simp [h,k,e]
theorem a9y {x y:Int}{o:Option Int}(h:o=some y):(bif (x != 0) then some x else o)=some (tn x y):=by
 rw [X1]
 unfold tn
 by_cases hx:x=0
 ·subst hx; simp [h]
 ·simp [hx]
theorem c5y {a b y:Int}{o:Option Int}(h:o=some y):(bif (a != b) then some (cI a b) else o)=some (tn (cI a b) y):=by
 rw [X1]
 unfold tn
 rcases W9 a b with ⟨p,e⟩ | ⟨p,e⟩ | ⟨p,e⟩
 ·have:a≠b:=by omega
  simp [this,e]
 ·have:a≠b:=by omega
  simp [this,e]
 ·simp [p,h]
  subst p
  intro h2; rw [e] at h2; exact absurd rfl h2
theorem d1E {a b:ByteArray}{y:Int}{o:Option Int}(h:o=some y):(bif (!Q4 a b) then (Option.bind (a1i a b) fun r=>some r) else o)=some (tn (cS a b) y):=by
 rw [X1,b3n,h]
 rcases a7S a b with ⟨_,p,e⟩ | ⟨_,p,e⟩ | ⟨_,p,e⟩<;>simp [p,e,tn]
theorem b3P (a b:Key):X9 a b=some (cK a b):=by
 unfold X9
 rw [b5K]
 simp only [Option.bind_some]
 exact a9y (by rw [b0I]; rfl)
theorem a9G (a b:Key):V7 a b=some (cK a b):=by
 unfold V7
 rw [b1I]
 exact c5y (by rw [b3n]; rfl)
theorem c7Z {α:Type}{step:Int->Option (Fl Int (Sum Unit Int))}{rc:α->α->Option Int}{c:α->α->Int}(xs ys:List α)(hlen:xs.length=ys.length)
 (hst:∀ q,step q=bif decide (q<(xs.length:Int)) then Option.bind (idx xs q) fun x=>Option.bind (idx ys q) fun y=>Option.bind (rc x y) fun r =>
   bif r != 0 then some (.done (.inr r)) else some (.next (wr .i64 (q+1))) else some (.done (.inl ())))
 (hrc:∀ x∈xs,∀ y,rc x y=some (c x y)) (hl:xs.length<=4194304) :
 ∃ o,y4 step (xs.length+1) 0=some o/\((o=.inl ()/\cL c xs ys=0)\/(o=.inr (cL c xs ys)/\cL c xs ys≠0)):=by
 have key:∀ (n i k:Nat),i+n=xs.length->n+1<=k ->
  ∃ o,y4 step k (i:Int)=some o/\((o=.inl ()/\cL c (xs.drop i) (ys.drop i)=0)\/(o=.inr (cL c (xs.drop i) (ys.drop i))/\cL c (xs.drop i) (ys.drop i)≠0)):=by
  intro n
  induction n with
  | zero =>
    intro i k hi hk
    obtain ⟨k,rfl⟩:∃ m,k=m+1:=⟨k-1,by omega⟩
    refine ⟨.inl (),?_,.inl ⟨rfl,?_⟩⟩
    ·simp only [y4,hst,X1]
     rw [if_neg (by simp; omega)]
     rfl
    ·rw [List.drop_eq_nil_of_le (by omega)]; simp [cL]
  | succ n ih =>
    intro i k hi hk
    obtain ⟨k,rfl⟩:∃ m,k=m+1:=⟨k-1,by omega⟩
    have hx:i<xs.length:=by omega
    have hy:i<ys.length:=by omega
    rw [List.drop_eq_getElem_cons hx,List.drop_eq_getElem_cons hy]
    have e:step (i:Int)=if (c xs[i] ys[i] != 0)=true then some (.done (.inr (c xs[i] ys[i]))) else some (.next (w64 ((i:Int)+1))):=by
     rw [hst]
     simp only [X1,Z2]
     rw [if_pos (by simp; omega),j6 (List.getElem?_eq_getElem hx),j6 (List.getElem?_eq_getElem hy)]
     simp only [Option.bind_some]
     rw [hrc _ (List.getElem_mem hx)]
     rfl
    simp only [y4,e,cL]
    by_cases h0:c xs[i] ys[i]=0
    ·rw [h0,a80,K1 (x:=(i:Int)+1) (by omega) (by omega)]
     obtain ⟨o,ho,hp⟩:=ih (i+1) k (by omega) (by omega)
     refine ⟨o,?_,hp⟩
     simpa using ho
    ·have ht:tn (c xs[i] ys[i]) (cL c (xs.drop (i+1)) (ys.drop (i+1)))=c xs[i] ys[i]:=by simp [tn,h0]
     rw [ht]
     refine ⟨.inr (c xs[i] ys[i]),?_,.inr ⟨rfl,h0⟩⟩
     simp [h0]
 obtain ⟨o,h1,h2⟩:=key xs.length 0 (xs.length+1) (by omega) (Nat.le_refl _)
 exact ⟨o,by simpa using h1,by simpa using h2⟩
theorem c4u {α:Type}{step:Int->Option (Fl Int (Sum Unit Int))}{rc:α->α->Option Int}{c:α->α->Int}(xs ys:List α)(hlen:xs.length=ys.length)
 (hst:∀ q,step q=bif decide (q<(xs.length:Int)) then Option.bind (idx xs q) fun x=>Option.bind (idx ys q) fun y=>Option.bind (rc x y) fun r =>
   bif r != 0 then some (.done (.inr r)) else some (.next (wr .i64 (q+1))) else some (.done (.inl ())))
 (hrc:∀ x∈xs,∀ y,rc x y=some (c x y)) (hl:xs.length<=4194304) {f:Unit->Option Int} {z:Int} (hf:∀ q,f q=some z) :
 (Option.bind (y4 step (((xs.length:Int)).toNat+1) 0) fun b=>k7 f (fun r=>some r) b)=some (tn (cL c xs ys) z):=by
 obtain ⟨o,h1,h2⟩:=c7Z xs ys hlen hst hrc hl
 rw [Z5,h1]
 rcases h2 with ⟨rfl,h⟩ | ⟨rfl,h⟩
 ·simp [k7,hf,h,tn]
 ·simp [k7,h,tn]
theorem b5J {α:Type}{step:Int->Option (Fl Int (Sum Unit Int))}{rc:α->α->Option Int}{c:α->α->Int}(xs ys:List α)
 (hst:∀ q,step q=bif decide (q<(xs.length:Int)) then Option.bind (idx xs q) fun x=>Option.bind (idx ys q) fun y=>Option.bind (rc x y) fun r =>
   bif r != 0 then some (.done (.inr r)) else some (.next (wr .i64 (q+1))) else some (.done (.inl ())))
 (hrc:∀ x∈xs,∀ y,rc x y=some (c x y)) (hl:xs.length<=4194304) :
 (Option.bind (a0G (xs.length:Int) (ys.length:Int)) fun r7=>bif r7 != 0 then some r7 else
   (Option.bind (y4 step (((xs.length:Int)).toNat+1) 0) fun b=>k7 (fun _=>some 0) (fun r=>some r) b))=some (cN c xs ys):=by
 rw [b5K]
 simp only [Option.bind_some,cN]
 rcases W9 (xs.length:Int) (ys.length:Int) with ⟨_,e⟩ | ⟨_,e⟩ | ⟨p,e⟩
 ·simp [e,tn]
 ·simp [e,tn]
 ·rw [c4u xs ys (by omega) hst hrc hl (z:=0) (fun _=>rfl),a9r,e]
  simp [tn]
theorem b7H {α:Type}{step:Int->Option (Fl Int (Sum Unit Int))}{rc:α->α->Option Int}{c:α->α->Int}(xs ys:List α)
 (hst:∀ q,step q=bif decide (q<(xs.length:Int)) then Option.bind (idx xs q) fun x=>Option.bind (idx ys q) fun y=>Option.bind (rc x y) fun r =>
   bif r != 0 then some (.done (.inr r)) else some (.next (wr .i64 (q+1))) else some (.done (.inl ())))
 (hrc:∀ x∈xs,∀ y,rc x y=some (c x y)) (hl:xs.length<=4194304) {f:Unit->Option Int} {z:Int} (hf:∀ q,f q=some z) :
 (bif ((xs.length:Int) != (ys.length:Int)) then (Option.bind (a0w (xs.length:Int) (ys.length:Int)) fun r=>some r) else
   (Option.bind (y4 step (((xs.length:Int)).toNat+1) 0) fun b=>k7 f (fun r=>some r) b))=some (tn (cN c xs ys) z):=by
 rw [X1,b7f]
 simp only [Option.bind_some,cN]
 rcases W9 (xs.length:Int) (ys.length:Int) with ⟨p,e⟩ | ⟨p,e⟩ | ⟨p,e⟩
 ·have:((xs.length:Int) != (ys.length:Int))=true:=by simp; omega
  rw [if_pos this,e]; rfl
 ·have:((xs.length:Int) != (ys.length:Int))=true:=by simp; omega
  rw [if_pos this,e]; rfl
 ·rw [if_neg (by simp; omega),c4u xs ys (by omega) hst hrc hl hf,e,a80]
theorem b5o:∀ (k:Nat),
 (∀ a b,2*k8 a<=k->k8 a<=4194304->a2E k a b=some (cV a b)) /\
 (∀ xs ys,2*k9 xs+1<=k->k9 xs<=4194304->a2Q k xs ys=some (cN cV xs ys)) /\
 (∀ a b,2*a3X a<=k->a3X a<=4194304->K5 k a b=some (cE a b))
 | 0=>⟨fun v _ h=>by have:=a7Y v; omega,fun _ _ h=>by omega,fun v _ h=>by have:=a1q v; omega⟩
 | k+1=>by
   obtain ⟨i1,i2,i3⟩:=b5o k
   refine ⟨?_,?_,?_⟩
   ·intro a b h hb
    show a8c k (a2E k) (K5 k) (a2Q k) a b=_
    have hbe:=a03 a
    have hk:=a5a a.Keys
    have hs:=a4d a.Labels
    have he:=a29 a.Entries
    unfold a8c
    simp only [W7]
    rw [c5T,b5K,c13,b0I]
    simp only [Option.bind_some]
    refine a9y (a9y (a9y ?_))
    unfold a3t
    rw [b5J (step:=a42 a.Keys b.Keys fun x y=>X9 x y) a.Keys b.Keys (rc:=X9) (c:=cK) (fun q=>rfl) (fun x _ y=>b3P x y) (by omega)]
    simp only [Option.bind_some]
    refine a9y ?_
    rw [i2 a.Kids b.Kids (by omega) (by omega)]
    simp only [Option.bind_some]
    refine a9y ?_
    unfold a2X
    rw [b5J (step:=a4w a.Entries b.Entries fun x y=>K5 k x y) a.Entries b.Entries (rc:=K5 k) (c:=cE) (fun q=>rfl) (fun x hx y=>i3 x y (by have:=X6 hx; omega) (by have:=X6 hx; omega)) (by omega)]
    simp only [Option.bind_some]
    refine a9y ?_
    unfold a3G
    rw [b5J (step:=a5f a.Labels b.Labels fun x y=>a0i x y) a.Labels b.Labels (rc:=a0i) (c:=cS) (fun q=>rfl) (fun x _ y=>b0I x y) (by omega)]
   ·intro xs ys h hb
    show a5n k (a2E k) (K5 k) (a2Q k) xs ys=_
    have hl:=a1Z xs
    unfold a5n a2W
    simp only [W7]
    rw [b5J (step:=a4u xs ys fun x y=>a2E k x y) xs ys (rc:=a2E k) (c:=cV) (fun q=>rfl) (fun x hx y=>i1 x y (by have:=a0M hx; omega) (by have:=a0M hx; omega)) (by omega)]
   ·intro a b h hb
    show a4V k (a2E k) (K5 k) (a2Q k) a b=_
    have hbe:=a1q a
    unfold a4V
    rw [c5q,i2 a.Args b.Args (by omega) (by omega),i1 a.Result b.Result (by omega) (by omega)]
    simp only [Option.bind_some]
    refine a9y ?_
    cases a.Fails<;>cases b.Fails<;>simp [bI,cI,tn]
theorem a5u:∀ (k:Nat),
 (∀ a b,2*k8 a<=k->k8 a<=4194304->a0t k a b=some (cV a b)) /\
 (∀ xs ys,2*k9 xs+1<=k->k9 xs<=4194304->a3d k xs ys=some (cN cV xs ys)) /\
 (∀ a b,2*a3X a<=k->a3X a<=4194304->Z9 k a b=some (cE a b))
 | 0=>⟨fun v _ h=>by have:=a7Y v; omega,fun _ _ h=>by omega,fun v _ h=>by have:=a1q v; omega⟩
 | k+1=>by
   obtain ⟨i1,i2,i3⟩:=a5u k
   refine ⟨?_,?_,?_⟩
   ·intro a b h hb
    show a5g k (a0t k) (a3d k) (Z9 k) a b=_
    have hbe:=a03 a
    have hk:=a5a a.Keys
    have hs:=a4d a.Labels
    have he:=a29 a.Entries
    unfold a5g
    rw [c5T,b7f,b1I]
    simp only [Option.bind_some]
    refine c5y (c5y (d1E ?_))
    refine b7H (step:=a7r a b) a.Keys b.Keys (rc:=V7) (c:=cK) (fun q=>rfl) (fun x _ y=>a9G x y) (by omega) ?_
    intro _
    rw [i2 a.Kids b.Kids (by omega) (by omega)]
    simp only [Option.bind_some]
    refine a9y ?_
    refine b7H (step:=a7i a b (Z9 k)) a.Entries b.Entries (rc:=Z9 k) (c:=cE) (fun q=>rfl) (fun x hx y=>i3 x y (by have:=X6 hx; omega) (by have:=X6 hx; omega)) (by omega) ?_
    intro _
    have:=b7H (step:=a7f a b) a.Labels b.Labels (rc:=a1i) (c:=cS) (z:=0) (fun q=>rfl) (fun x _ y=>b3n x y) (by omega) (f:=fun _=>some 0) (fun _=>rfl)
    rw [a9r] at this
    exact this
   ·intro xs ys h hb
    show a5J k (a0t k) (a3d k) (Z9 k) xs ys=_
    have hl:=a1Z xs
    unfold a5J
    rw [b7H (step:=a7V xs ys (a0t k)) xs ys (rc:=a0t k) (c:=cV) (z:=0) (fun q=>rfl) (fun x hx y=>i1 x y (by have:=a0M hx; omega) (by have:=a0M hx; omega)) (by omega) (fun _=>rfl),a9r]
   ·intro a b h hb
    show a2S k (a0t k) (a3d k) (Z9 k) a b=_
    have hbe:=a1q a
    unfold a2S
    rw [c5q,i2 a.Args b.Args (by omega) (by omega),i1 a.Result b.Result (by omega) (by omega)]
    simp only [Option.bind_some]
    refine a9y ?_
    cases a.Fails<;>cases b.Fails<;>simp [bI,cI,tn]
end Go.Pl
end
section
namespace Go.Pl
open Go Go.RowKit Go.Sx Go.Qx
theorem b1A {step:Int->Option (Fl Int (Sum Unit Bool))}(n:Nat)(p:Nat->Bool)
 (hst:∀ i:Nat,i<n->step (i:Int)=some (if p i=true then .next ((i+1:Nat):Int) else .done (.inr false)))
 (hend:∀ i:Nat,n<=i->step (i:Int)=some (.done (.inl ()))) (i0:Nat) (b:Bool) (hb:b=true↔∀ i,i0<=i->i<n->p i=true) :
 Option.bind (y4 step (n+1) (i0:Int)) (k7 (fun _=>some true) (fun r=>some r))=some b:=by
 have fin:∀ (i k:Nat),n<=i->(∀ j,i0<=j->j<i->j<n->p j=true)->Option.bind (y4 step (k+1) (i:Int)) (k7 (fun _=>some true) (fun r=>some r))=some b:=by
  intro i k h1 h4
  simp only [y4,hend i h1,Option.bind_some,k7]
  have:b=true:=hb.2 fun j a c=>h4 j a (by omega) c
  rw [this]
 have key:∀ (m i k:Nat),n<=i+m->m+1<=k->i0<=i->(∀ j,i0<=j->j<i->j<n->p j=true)->Option.bind (y4 step k (i:Int)) (k7 (fun _=>some true) (fun r=>some r))=some b:=by
  intro m
  induction m with
  | zero =>
    intro i k h1 h2 h3 h4
    obtain ⟨k,rfl⟩:∃ m,k=m+1:=⟨k-1,by omega⟩
    exact fin i k (by omega) h4
  | succ m ih =>
    intro i k h1 h2 h3 h4
    obtain ⟨k,rfl⟩:∃ m,k=m+1:=⟨k-1,by omega⟩
    by_cases hlt:i<n
    ·simp only [y4,hst i hlt]
     cases hp:p i
     ·simp only [Bool.false_eq_true,if_false,Option.bind_some,k7]
      have:b=false:=by
       cases b
       ·rfl
       ·have:=hb.1 rfl i h3 hlt
        rw [hp] at this; cases this
      rw [this]
     ·simp only [if_true,Option.bind_some]
      refine ih (i+1) k (by omega) (by omega) (by omega) (fun j a c d=>?_)
      by_cases e:j<i
      ·exact h4 j a e d
      ·have:j=i:=by omega
       subst this; exact hp
    ·exact fin i k (by omega) h4
 exact key n i0 (n+1) (by omega) (by omega) (Nat.le_refl _) (fun j a c=>by omega)
theorem j9 (i:Nat)(h:i<=4611686018427387904):w64 ((i:Int)+1)=((i+1:Nat):Int):=by rw [K1 (by omega) (by omega)]; rfl
theorem a2Y (b:Bool)(x:Int):(bif (!b) then some (Fl.done (Sum.inr false)) else some (Fl.next x))=some (if b=true then Fl.next x else (Fl.done (Sum.inr false):Fl Int (Sum Unit Bool))):=by cases b<;>rfl
theorem b9N {α:Type}{step:Int->Option (Fl Int (Sum Unit Bool))}{rc:α->Option Bool}{p:α->Bool}(xs:List α)
 (hst:∀ q,step q=bif decide (q<(xs.length:Int)) then Option.bind (idx xs q) fun x=>Option.bind (rc x) fun r =>
   bif !r then some (.done (.inr false)) else some (.next (wr .i64 (q+1))) else some (.done (.inl ())))
 (hrc:∀ x∈xs,rc x=some (p x)) (hl:xs.length<=4194304) :
 (Option.bind (y4 step (((xs.length:Int)).toNat+1) 0) fun b=>k7 (fun _=>some true) (fun r=>some r) b)=some (xs.all p):=by
 rw [Z5]
 refine b1A xs.length (fun i=>match xs[i]? with | some x=>p x | none=>true) ?_ ?_ 0 (xs.all p) ?_
 ·intro i hi
  rw [hst,X1,if_pos (by simp; omega),j6 (List.getElem?_eq_getElem hi)]
  simp only [Option.bind_some]
  rw [hrc _ (List.getElem_mem hi),List.getElem?_eq_getElem hi]
  simp only [Option.bind_some,Z2,j9 i (by omega)]
  exact a2Y _ _
 ·intro i hi
  rw [hst,X1,if_neg (by simp; omega)]
 ·rw [List.all_eq_true]
  constructor
  ·intro h i _ hi
   rw [List.getElem?_eq_getElem hi]
   exact h _ (List.getElem_mem hi)
  ·intro h x hx
   obtain ⟨i,hi,rfl⟩:=List.getElem_of_mem hx
   have:=h i (by omega) hi
   rwa [List.getElem?_eq_getElem hi] at this
def asc {α:Type}(c:α->α->Int):List α->Bool
 | x::y::r=>decide (c x y<0)&&asc c (y::r)
 | _=>true
theorem b4Q {α:Type}(c:α->α->Int):∀ xs:List α,asc c xs=true↔∀ i,1<=i->(hi:i<xs.length)->c xs[i-1] xs[i]<0
 | []=>by simp [asc]
 | [x]=>by
   simp only [asc,true_iff]
   intro i h1 hi
   simp at hi; omega
 | x::y::r=>by
   have ih:=b4Q c (y::r)
   simp only [asc,Bool.and_eq_true,decide_eq_true_eq,ih]
   constructor
   ·intro ⟨h1,h2⟩ i hi hl
    obtain ⟨i,rfl⟩:∃ m,i=m+1:=⟨i-1,by omega⟩
    cases i with
    | zero=>exact h1
    | succ i=>exact h2 (i+1) (by omega) (by simpa using hl)
   ·intro h
    refine ⟨h 1 (by omega) (by simp),fun i hi hl=>?_⟩
    obtain ⟨i,rfl⟩:∃ m,i=m+1:=⟨i-1,by omega⟩
    have:=h (i+2) (by omega) (by simpa using hl)
    simpa using this
theorem c3h {α:Type}{step:Int->Option (Fl Int (Sum Unit Bool))}{rc:α->α->Option Int}{c:α->α->Int}(xs:List α)
 (hst:∀ q,step q=bif decide (q<(xs.length:Int)) then Option.bind (idx xs (wr .i64 (q-1))) fun x=>Option.bind (idx xs q) fun y=>Option.bind (rc x y) fun r =>
   bif decide (0<=r) then some (.done (.inr false)) else some (.next (wr .i64 (q+1))) else some (.done (.inl ())))
 (hrc:∀ x∈xs,∀ y,rc x y=some (c x y)) (hl:xs.length<=4194304) :
 (Option.bind (y4 step (((xs.length:Int)).toNat+1) 1) fun b=>k7 (fun _=>some true) (fun r=>some r) b)=some (asc c xs):=by
 rw [Z5]
 have hp:∀ i,1<=i->∀ hi:i<xs.length,step (i:Int)=some (if decide (c xs[i-1] xs[i]<0)=true then .next ((i+1:Nat):Int) else .done (.inr false)):=by
  intro i h1 hi
  have hw:w64 ((i:Int)-1)=((i-1:Nat):Int):=by rw [K1 (by omega) (by omega)]; omega
  rw [hst]
  simp only [X1,Z2]
  rw [if_pos (by simp; omega),hw,j6 (List.getElem?_eq_getElem (by omega:i-1<xs.length)),j6 (List.getElem?_eq_getElem hi)]
  simp only [Option.bind_some]
  rw [hrc _ (List.getElem_mem _)]
  simp only [Option.bind_some,j9 i (by omega)]
  by_cases h:c xs[i-1] xs[i]<0
  ·rw [if_neg (by simp; omega),if_pos (by simpa using h)]
  ·rw [if_pos (by simp; omega),if_neg (by simpa using h)]
 have hend:∀ i:Nat,xs.length<=i->step (i:Int)=some (.done (.inl ())):=by
  intro i hi
  rw [hst,X1,if_neg (by simp; omega)]
 let step':Int->Option (Fl Int (Sum Unit Bool)):=fun q=>if q=0/\0<xs.length then some (.next 1) else step q
 have e:∀ (k i:Nat),1<=i->y4 step' k (i:Int)=y4 step k (i:Int):=by
  intro k
  induction k with
  | zero=>intro i _; rfl
  | succ k ih =>
    intro i h1
    have e1:step' (i:Int)=step (i:Int):=by simp only [step']; rw [if_neg (by omega)]
    simp only [y4,e1]
    by_cases hi:i<xs.length
    ·rw [hp i h1 hi]
     by_cases h:decide (c xs[i-1] xs[i]<0)=true
     ·rw [if_pos h]; exact ih (i+1) (by omega)
     ·rw [if_neg h]; rfl
    ·rw [hend i (by omega)]; rfl
 have e':=e (xs.length+1) 1 (by omega)
 rw [show ((1:Nat):Int)=1 from rfl] at e'
 rw [<- e']
 refine b1A xs.length (fun i=>if h:1<=i/\i<xs.length then decide (c xs[i-1] (xs[i]'h.2)<0) else true) ?_ ?_ 1 (asc c xs) ?_
 ·intro i hi
  cases i with
  | zero =>
    simp only [step']
    rw [if_pos ⟨rfl,hi⟩]
    rfl
  | succ i =>
    have e1:step' ((i+1:Nat):Int)=step ((i+1:Nat):Int):=by simp only [step']; rw [if_neg (by omega)]
    rw [e1,hp (i+1) (by omega) hi,dif_pos ⟨by omega,hi⟩]
 ·intro i hi
  have e1:step' (i:Int)=step (i:Int):=by simp only [step']; rw [if_neg (by omega)]
  rw [e1,hend i hi]
 ·rw [b4Q]
  constructor
  ·intro h i h1 hi
   rw [dif_pos ⟨h1,hi⟩]; simpa using h i h1 hi
  ·intro h i h1 hi
   have:=h i h1 hi
   rw [dif_pos ⟨h1,hi⟩] at this; simpa using this
def a6e (c:UInt8):Bool:=decide (97<=(c.toNat:Int))&&decide ((c.toNat:Int)<=122)
def upC (c:UInt8):Bool:=decide (65<=(c.toNat:Int))&&decide ((c.toNat:Int)<=90)
def a7a (c:UInt8):Bool:=decide (48<=(c.toNat:Int))&&decide ((c.toNat:Int)<=57)
def b4u (f g:UInt8->Bool)(s:ByteArray):Bool :=
 match s.data.toList with
 | []=>false
 | c::r=>decide (r.length<=15)&&f c&&r.all g
def a5O (s:ByteArray):Bool:=b4u upC (fun c=>a6e c||upC c||a7a c||(c.toNat:Int)==95) s
def a35 (s:ByteArray):Bool:=b4u a6e (fun c=>a6e c||a7a c||(c.toNat:Int)==95) s
theorem c2W (c:UInt8):a4D (c.toNat:Int)=some (a6e c):=by
 unfold a4D a6e
 cases decide (97<=(c.toNat:Int))<;>simp
theorem c86 (c:UInt8):a5U (c.toNat:Int)=some (upC c):=by
 unfold a5U upC
 cases decide (65<=(c.toNat:Int))<;>simp
theorem c6a (c:UInt8):a5X (c.toNat:Int)=some (a7a c):=by
 unfold a5X a7a
 cases decide (48<=(c.toNat:Int))<;>simp
theorem b06 {s:ByteArray}{i:Nat}{c:UInt8}(h:s.data.toList[i]?=some c):a5H s (i:Int)=some c:=by
 unfold a5H
 rw [if_pos (by omega)]
 obtain ⟨hi,e⟩:=List.getElem?_eq_some_iff.1 h
 have hs:i<s.size:=by simpa using hi
 show s[((i:Int)).toNat]?=some c
 rw [Int.toNat_natCast,getElem?_pos s i hs]
 show some s.data[i]=some c
 simpa using e
theorem b7v (s:ByteArray):s.size=s.data.toList.length:=by simp
theorem c4a {a1 a2:Int->Option Bool}{f g:UInt8->Bool}(h1:∀ c:UInt8,a1 (c.toNat:Int)=some (f c))(h2:∀ c:UInt8,a2 (c.toNat:Int)=some (g c))(s:ByteArray):a6J s a1 a2=some (b4u f g s):=by
 unfold a6J b4u
 simp only [X1,c0q]
 have hsz:=b7v s
 cases hs:s.data.toList with
 | nil =>
   rw [hs] at hsz
   rw [hsz]
   simp
 | cons c r =>
   rw [hs] at hsz
   simp only [List.length_cons] at hsz
   have e1:decide ((s.size:Int)<1)=false:=by simp; omega
   rw [e1]
   simp only [Bool.false_eq_true,if_false,Option.bind_some]
   by_cases hb:16<(s.size:Int)
   ·rw [if_pos (by simpa using hb)]
    have:decide (r.length<=15)=false:=by simp; omega
    rw [this]; rfl
   ·rw [if_neg (by simpa using hb)]
    have e2:decide (r.length<=15)=true:=by simp; omega
    have e3:a5H s 0=some c:=b06 (i:=0) (by rw [hs]; rfl)
    rw [e2,e3]
    simp only [Option.bind_some,h1,Bool.true_and]
    cases f c
    ·rfl
    ·simp only [Bool.not_true,Bool.false_eq_true,if_false,Bool.true_and]
     refine b1A s.size (fun i=>match s.data.toList[i]? with | some x=>g x | none=>true) ?_ ?_ 1 (r.all g) ?_
     ·intro i hi
      have hi':i<s.data.toList.length:=by rw [hs]; simp; omega
      unfold a8m
      rw [X1,if_pos (by simp; omega),b06 (List.getElem?_eq_getElem hi')]
      simp only [Option.bind_some,h2]
      rw [List.getElem?_eq_getElem hi',Z2,j9 i (by omega)]
      exact a2Y _ _
     ·intro i hi
      unfold a8m
      rw [X1,if_neg (by simp; omega)]
     ·rw [hs,List.all_eq_true]
      constructor
      ·intro h i h1 hi
       obtain ⟨i,rfl⟩:∃ m,i=m+1:=⟨i-1,by omega⟩
       have hr:i<r.length:=by omega
       simp only [List.getElem?_cons_succ,List.getElem?_eq_getElem hr]
       exact h _ (List.getElem_mem hr)
      ·intro h x hx
       obtain ⟨i,hi,rfl⟩:=List.getElem_of_mem hx
       have:=h (i+1) (by omega) (by omega)
       simpa only [List.getElem?_cons_succ,List.getElem?_eq_getElem hi] using this
theorem c6M (s:ByteArray):a2V s=some (a5O s):=by
 unfold a2V
 simp only [W7]
 rw [c4a c86 (g:=fun c=>a6e c||upC c||a7a c||(c.toNat:Int)==95) (fun c=>by
  unfold a6K
  rw [c2W,c86,c6a]
  simp only [Option.bind_some]
  cases a6e c<;>cases upC c<;>cases a7a c<;>simp)]
 rfl
theorem c0i (s:ByteArray):a5l s=some (a35 s):=by
 unfold a5l
 simp only [W7]
 rw [c4a c2W (g:=fun c=>a6e c||a7a c||(c.toNat:Int)==95) (fun c=>by
  unfold a84
  rw [c2W,c6a]
  simp only [Option.bind_some]
  cases a6e c<;>cases a7a c<;>simp)]
 rfl
def a0Y (l:List ByteArray):Bool:=asc cS l&&l.all a5O
def X4 (k:Key):Bool:=if k.Kind=0 then a35 k.Text else if k.Kind=1 then decide ((k.Text.size:Int)<=64) else false
def a8p (v:Val):Bool:=v.Keys.length==v.Kids.length&&(asc cK v.Keys&&v.Keys.all X4)
abbrev a6q:Val:=Val.mk 0 0 (⟨#[]⟩) ([]:List Val) ([]:List Key) ([]:List Ent) ([]:List ByteArray)
def a2I (n:Int)(e:Ent):Bool:=(e.Args.length:Int)==n&&(!e.Fails||cV e.Result a6q==0)
def b2N (v:Val):Bool:=decide (0<=v.Int_)&&decide (v.Int_<=4)&&(asc cE v.Entries&&v.Entries.all (a2I v.Int_))
theorem c7h (l:List ByteArray)(hl:l.length<=4194304):a48 l=some (a0Y l):=by
 unfold a48 a4W a0Y
 simp only [W7]
 rw [c3h (step:=a6h l fun x y=>a0i x y) (rc:=a0i) (c:=cS) l (fun q=>rfl) (fun x _ y=>b0I x y) hl]
 simp only [Option.bind_some]
 rw [b9N (step:=a8x l) (rc:=a2V) (p:=a5O) l (fun q=>rfl) (fun x _=>c6M x) hl]
 cases asc cS l<;>simp
theorem c6O (k:Key):a31 k=some (X4 k):=by
 unfold a31 X4
 rw [c0i]
 simp only [X1,beq_iff_eq,W7]
 by_cases h:k.Kind=0
 ·simp [h]
 ·by_cases h1:k.Kind=1
  ·simp [h1]
  ·simp [h,h1]
theorem d0V (v:Val)(hl:k8 v<=4194304):a6R v=some (a8p v):=by
 have hb:=a03 v
 have hk:=a5a v.Keys
 unfold a6R a4z a8p
 simp only [W7]
 rw [c3h (step:=a5Z v.Keys fun x y=>X9 x y) (rc:=X9) (c:=cK) v.Keys (fun q=>rfl) (fun x _ y=>b3P x y) (by omega)]
 simp only [Option.bind_some]
 rw [b9N (step:=b0B v) (rc:=a31) (p:=X4) v.Keys (fun q=>rfl) (fun x _=>c6O x) (by omega)]
 by_cases h:v.Keys.length=v.Kids.length
 ·rw [X1,if_neg (by simp; omega)]
  simp only [h,beq_self_eq_true,Bool.true_and]
  cases asc cK v.Keys<;>simp
 ·rw [X1,if_pos (by simp; omega)]
  have:(v.Keys.length==v.Kids.length)=false:=by simpa using h
  rw [this]; rfl
theorem d0s (fuel:Nat)(e:Ent)(n:Int)(hf:2*a3X e<=fuel)(hb:a3X e<=4194304):a34 fuel e n=some (a2I n e):=by
 have he:=a1q e
 unfold a34 b1u b24 a2I
 simp only [W7]
 rw [(b5o fuel).1 e.Result a6q (by omega) (by omega)]
 simp only [Option.bind_some]
 cases (e.Args.length:Int)==n<;>cases e.Fails<;>simp
theorem d0A (fuel:Nat)(v:Val)(hf:2*k8 v<=fuel+2)(hb:k8 v<=4194304):a4j fuel v=some (b2N v):=by
 have he:=a03 v
 have hk:=a29 v.Entries
 unfold a4j a3O b2N
 simp only [W7]
 rw [c3h (step:=a5m v.Entries fun x y=>K5 fuel x y) (rc:=K5 fuel) (c:=cE) v.Entries (fun q=>rfl) (fun x hx y=>(b5o fuel).2.2 x y (by have:=X6 hx; omega) (by have:=X6 hx; omega)) (by omega)]
 simp only [Option.bind_some]
 rw [b9N (step:=a7o v fuel) (rc:=fun x=>a34 fuel x v.Int_) (p:=a2I v.Int_) v.Entries (fun q=>rfl) (fun x hx=>d0s fuel x _ (by have:=X6 hx; omega) (by have:=X6 hx; omega)) (by omega)]
 by_cases h1:v.Int_<0
 ·have e1:decide (0<=v.Int_)=false:=by simp; omega
  rw [e1]; simp [h1]
 ·have e1:decide (0<=v.Int_)=true:=by simp; omega
  by_cases h2:4<v.Int_
  ·have e2:decide (v.Int_<=4)=false:=by simp; omega
   rw [e1,e2]; simp [h1,h2]
  ·have e2:decide (v.Int_<=4)=true:=by simp; omega
   rw [e1,e2]
   simp only [h1,h2,decide_false,cond_false,Option.bind_some,Bool.true_and]
   cases asc cE v.Entries<;>simp
def a3A (v:Val):Bool :=
 (v.Kind==1||v.Kind==4||v.Kind==9||v.Int_==0)&&(v.Kind==2||v.Kind==3||Q4 v.Text ⟨#[]⟩) &&
 (v.Kind==6||v.Kind==7||v.Kind==8||v.Kids.isEmpty)&&(v.Kind==8||v.Keys.isEmpty)&&(v.Kind==9||v.Entries.isEmpty)
def a7m (l:List Val):Bool :=
 match l with
 | [_,t]=>t.Kind==5||t.Kind==7
 | _=>false
def a3h (v:Val):Bool :=
 if v.Kind=1 then true else if v.Kind=2 then decide ((v.Text.size:Int)<=64) else if v.Kind=3 then a35 v.Text else if v.Kind=4 then decide (0<=v.Int_) else
 if v.Kind=5 then true else if v.Kind=6 then decide (v.Kids.length<=4) else if v.Kind=7 then a7m v.Kids else if v.Kind=8 then a8p v else if v.Kind=9 then b2N v else false
def a1F (v:Val):Bool:=a0Y v.Labels&&(a3A v&&a3h v)
theorem b68 {α:Type}(l:List α):decide (0<(l.length:Int))=!l.isEmpty:=by cases l<;>simp
theorem c9C (fuel:Nat)(v:Val)(hf:2*k8 v<=fuel+2)(hb:k8 v<=4194304):a6k fuel v=some (a1F v):=by
 have he:=a03 v
 have hs:=a4d v.Labels
 unfold a6k a1F
 simp only [W7]
 rw [c7h v.Labels (by omega),d0V v hb,d0A fuel v hf hb,c0i]
 simp only [Option.bind_some,b68]
 by_cases hk:v.Kind=1\/v.Kind=2\/v.Kind=3\/v.Kind=4\/v.Kind=5\/v.Kind=6\/v.Kind=7\/v.Kind=8\/v.Kind=9
 ·have ku:∀ b u,a6U v.Kind=some (u,b)->True:=fun _ _ _=>trivial
  clear ku
  unfold a3A a3h
  generalize a0Y v.Labels=l
  generalize Q4 v.Text ⟨#[]⟩=t
  generalize v.Keys.isEmpty=y
  generalize v.Entries.isEmpty=e
  generalize a8p v=m
  generalize b2N v=f
  generalize a35 v.Text=a
  generalize decide ((v.Text.size:Int)<=64)=z
  have hi:(v.Int_ != 0)=!(v.Int_==0):=rfl
  have h6:decide ((v.Kids.length:Int)<=4)=decide (v.Kids.length<=4):=by
   by_cases h:v.Kids.length<=4
   ·simp [h]; omega
   ·simp [h]; omega
  rw [hi,h6]
  have h7:(bif (v.Kids.length:Int)==2 then Option.bind (idx v.Kids 1) fun x227=>(bif x227.Kind==5 then some true else Option.bind (idx v.Kids 1) fun x255=>some (x255.Kind==7)) else some false)=some (a7m v.Kids):=by
   unfold a7m
   match v.Kids with
   | []=>rfl
   | [_]=>rfl
   | [x,t] =>
     have e2:((([x,t]:List Val).length:Int)==2)=true:=rfl
     rw [e2]
     have:idx [x,t] 1=some t:=rfl
     simp only [this,Option.bind_some,cond_true]
     cases t.Kind==5<;>rfl
   | _::_::_::r =>
     rw [X1,if_neg (by simp; omega)]
  rw [h7]
  generalize a7m v.Kids=c
  generalize v.Kids.isEmpty=d
  generalize (v.Int_==0)=i
  generalize decide (0<=v.Int_)=p
  generalize decide (v.Kids.length<=4)=n
  rcases hk with h | h | h | h | h | h | h | h | h<;>rw [h]<;>cases l<;>simp [a6U]<;>cases i<;>cases t<;>cases d<;>cases y<;>cases e<;>simp
 ·have:a6U v.Kind=some (Value_used.mk false false false false false,false):=by
   unfold a6U
   simp only [not_or] at hk
   obtain ⟨h1,h2,h3,h4,h5,h6,h7,h8,h9⟩:=hk
   have ef:∀ k:Int,¬ v.Kind=k->(v.Kind==k)=false:=fun k h=>by simpa using h
   rw [ef 1 h1,ef 2 h2,ef 3 h3,ef 4 h4,ef 5 h5,ef 6 h6,ef 7 h7,ef 8 h8,ef 9 h9]
   rfl
  rw [this]
  have hkk:a3h v=false:=by
   simp only [not_or] at hk
   obtain ⟨h1,h2,h3,h4,h5,h6,h7,h8,h9⟩:=hk
   simp [a3h,h1,h2,h3,h4,h5,h6,h7,h8,h9]
  rw [hkk]
  simp
mutual
def vOK:Val->Bool
 | .mk k n t kids keys ents labs=>a1F (.mk k n t kids keys ents labs)&&(a1z kids&&a4A ents)
def a1z:List Val->Bool
 | []=>true
 | x::r=>vOK x&&a1z r
def eOK:Ent->Bool
 | .mk args fails res=>a1z args&&(fails||vOK res)
def a4A:List Ent->Bool
 | []=>true
 | x::r=>eOK x&&a4A r
end
theorem b3T (v:Val):vOK v=(a1F v&&(a1z v.Kids&&a4A v.Entries)):=by cases v; simp only [vOK,Val.Kids,Val.Entries]
theorem b4t (e:Ent):eOK e=(a1z e.Args&&(e.Fails||vOK e.Result)):=by cases e; simp only [eOK,Ent.Args,Ent.Fails,Ent.Result]
theorem a4c:∀ l:List Val,a1z l=l.all vOK
 | []=>by simp [a1z]
 | x::r=>by simp only [a1z,List.all_cons,a4c r]
theorem a7O:∀ l:List Ent,a4A l=l.all eOK
 | []=>by simp [a4A]
 | x::r=>by simp only [a4A,List.all_cons,a7O r]
theorem c1s:∀ l:List Ent,a4A l=(l.flatMap a6G).all vOK
 | []=>by simp [a4A]
 | x::r=>by
   simp only [a4A,List.flatMap_cons,List.all_append,c1s r,b4t,a6G,a4c]
   cases x.Fails<;>simp
theorem c55 (v:Val):vOK v=(a1F v&&(a8r v).all vOK):=by
 rw [b3T,a8r,List.all_append,a4c,c1s]
theorem c4D:∀ (k:Nat) (v:Val),2*k8 v<=k->k8 v<=4194304->a2r k v=some (vOK v)
 | 0,v,h,_=>by have:=a7Y v; omega
 | k+1,v,h,hb=>by
   have hp:=c5I v
   have hl:=a1Z (a8r v)
   show a7d k (a2r k) v=_
   unfold a7d
   rw [c9C k v (by omega) hb,c76 v hb,c55]
   simp only [Option.bind_some]
   rw [b9N (step:=a9X (a8r v) (a2r k)) (rc:=a2r k) (p:=vOK) (a8r v) (fun q=>rfl) (fun x hx=>c4D k x (by have:=a0M hx; omega) (by have:=a0M hx; omega)) (by omega)]
   cases a1F v<;>simp
theorem c3R (k:Nat)(v:Val)(h:2*k8 v<=k)(hb:k8 v<=4194304):a6X k v=some (if vOK v then 0 else 1):=by
 unfold a6X
 rw [c4D k v h hb]
 cases vOK v<;>rfl
end Go.Pl
end
section
namespace Go.Pl
open Go Go.RowKit Go.Sx Go.Qx
def a0g {α:Type}(p:α->Bool)(x:α)(out:List α):List α:=out.takeWhile p++[x]++out.dropWhile p
theorem c0v {α:Type}(p:α->Bool):∀ l:List α,l.take (l.takeWhile p).length=l.takeWhile p
 | []=>rfl
 | x::r=>by
   by_cases h:p x=true
   ·simp [h,c0v p r]
   ·simp [h]
theorem c0J {α:Type}(p:α->Bool):∀ l:List α,l.drop (l.takeWhile p).length=l.dropWhile p
 | []=>rfl
 | x::r=>by
   by_cases h:p x=true
   ·simp [h,c0J p r]
   ·simp [h]
theorem b4b {α:Type}(p:α->Bool):∀ l:List α,(l.takeWhile p).length<=l.length
 | []=>Nat.le_refl _
 | x::r=>by
   have:=b4b p r
   by_cases h:p x=true
   ·simp [h,this]
   ·simp [h]
theorem c1J {α:Type}(p:α->Bool):∀ (l:List α),l[(l.takeWhile p).length]?=(l.dropWhile p).head?
 | []=>rfl
 | x::r=>by
   have:=c1J p r
   by_cases h:p x=true
   ·simp [h,this]
   ·simp [h]
theorem c2J {α:Type}{step:Int->Option (Fl Int Int)}(out:List α)(p:α->Bool)
 (hst:∀ (i:Nat) (x:α),out[i]?=some x->step (i:Int)=some (if p x=true then .next ((i+1:Nat):Int) else .done (i:Int)))
 (hend:step (out.length:Int)=some (.done (out.length:Int))):y4 step (out.length+1) 0=some ((out.takeWhile p).length:Int):=by
 have key:∀ (m i k:Nat),i+m=out.length->m+1<=k->y4 step k (i:Int)=some (((i+((out.drop i).takeWhile p).length:Nat)):Int):=by
  intro m
  induction m with
  | zero =>
    intro i k h1 h2
    obtain ⟨k,rfl⟩:∃ m,k=m+1:=⟨k-1,by omega⟩
    have e:i=out.length:=by omega
    subst e
    simp [y4,hend]
  | succ m ih =>
    intro i k h1 h2
    obtain ⟨k,rfl⟩:∃ m,k=m+1:=⟨k-1,by omega⟩
    have hlt:i<out.length:=by omega
    have hs:=hst i out[i] (List.getElem?_eq_getElem hlt)
    rw [List.drop_eq_getElem_cons hlt,List.takeWhile_cons]
    by_cases hp:p out[i]=true
    ·rw [if_pos hp] at hs
     simp only [y4,hs,Option.bind_some,ih (i+1) k (by omega) (by omega),hp,if_true,List.length_cons]
     congr 2
     omega
    ·rw [if_neg hp] at hs
     simp [y4,hs,hp]
 have:=key out.length 0 (out.length+1) (by omega) (Nat.le_refl _)
 simpa using this
theorem W8 {α σ τ β:Type}{step:σ->Option (Fl σ (Sum τ β))}(xs:List α)(p:α->Bool)(pk:Nat->σ)(d:τ)(b:β)
 (hst:∀ (i:Nat) (x:α),xs[i]?=some x->step (pk i)=some (if p x=true then .next (pk (i+1)) else .done (.inr b)))
 (hend:step (pk xs.length)=some (.done (.inl d))):y4 step (xs.length+1) (pk 0)=some (if xs.all p=true then .inl d else .inr b):=by
 have key:∀ (m i k:Nat),i+m=xs.length->m+1<=k->y4 step k (pk i)=some (if (xs.drop i).all p=true then .inl d else .inr b):=by
  intro m
  induction m with
  | zero =>
    intro i k h1 h2
    obtain ⟨k,rfl⟩:∃ m,k=m+1:=⟨k-1,by omega⟩
    have e:i=xs.length:=by omega
    subst e
    simp [y4,hend]
  | succ m ih =>
    intro i k h1 h2
    obtain ⟨k,rfl⟩:∃ m,k=m+1:=⟨k-1,by omega⟩
    have hlt:i<xs.length:=by omega
    have hs:=hst i xs[i] (List.getElem?_eq_getElem hlt)
    rw [List.drop_eq_getElem_cons hlt,List.all_cons]
    by_cases hp:p xs[i]=true
    ·rw [if_pos hp] at hs
     simp only [y4,hs,Option.bind_some,ih (i+1) k (by omega) (by omega),hp,Bool.true_and]
    ·rw [if_neg hp] at hs
     simp [y4,hs,hp]
 have:=key xs.length 0 (xs.length+1) (by omega) (Nat.le_refl _)
 simpa using this
theorem b01 {α:Type}(c:α->α->Int)(hanti:∀ a b,c b a = - c a b)(x:α):∀ out:List α,asc c out=true->(∀ y,(out.dropWhile (fun y=>decide (c y x<0))).head?=some y->c y x≠0) ->
 asc c (a0g (fun y=>decide (c y x<0)) x out)=true
 | [],_,_=>by simp [a0g,asc]
 | y::r,h,hne=>by
   by_cases hp:c y x<0
   ·have ih:=b01 c hanti x r (by cases r with | nil=>simp [asc] | cons z r=>simp [asc] at h; exact h.2) (by
     intro z hz
     refine hne z ?_
     simpa [hp] using hz)
    have e:a0g (fun y=>decide (c y x<0)) x (y::r)=y::a0g (fun y=>decide (c y x<0)) x r:=by simp [a0g,hp]
    rw [e]
    cases r with
    | nil=>simp [a0g,asc,hp]
    | cons z r =>
      simp only [asc,Bool.and_eq_true,decide_eq_true_eq] at h
      by_cases hz:c z x<0
      ·have e2:a0g (fun y=>decide (c y x<0)) x (z::r)=z::a0g (fun y=>decide (c y x<0)) x r:=by simp [a0g,hz]
       rw [e2] at ih ⊢
       simp only [asc,Bool.and_eq_true,decide_eq_true_eq]
       exact ⟨h.1,ih⟩
      ·have e2:a0g (fun y=>decide (c y x<0)) x (z::r)=x::z::r:=by simp [a0g,hz]
       rw [e2] at ih ⊢
       simp only [asc,Bool.and_eq_true,decide_eq_true_eq] at ih ⊢
       exact ⟨hp,ih⟩
   ·have e:a0g (fun y=>decide (c y x<0)) x (y::r)=x::y::r:=by simp [a0g,hp]
    have hy:=hne y (by simp [hp])
    have ha:=hanti y x
    rw [e]
    simp only [asc,Bool.and_eq_true,decide_eq_true_eq]
    exact ⟨by omega,h⟩
theorem b2U {α:Type}{p:α->Bool}{x y:α}{out:List α}(h:y∈a0g p x out):y=x\/y∈out:=by
 have e:=List.takeWhile_append_dropWhile (p:=p) (l:=out)
 simp only [a0g,List.mem_append,List.mem_singleton] at h
 rcases h with (h | h) | h
 ·exact .inr (by rw [<- e]; exact List.mem_append_left _ h)
 ·exact .inl h
 ·exact .inr (by rw [<- e]; exact List.mem_append_right _ h)
theorem a6A {α:Type}(p:α->Bool)(x:α)(out:List α):(a0g p x out).length=out.length+1:=by
 have e:=congrArg List.length (List.takeWhile_append_dropWhile (p:=p) (l:=out))
 simp only [List.length_append] at e
 simp only [a0g,List.length_append,List.length_singleton]
 omega
theorem b9I {α:Type}(l:List α){k:Nat}(h:k<=l.length):cut l 0 (k:Int)=some (l.take k):=by
 unfold cut
 rw [if_pos ⟨by omega,by omega,by omega⟩]
 simp
theorem c2D {α:Type}(l:List α){k:Nat}(h:k<=l.length):cut l (k:Int) (l.length:Int)=some (l.drop k):=by
 unfold cut
 rw [if_pos ⟨by omega,by omega,by omega⟩]
 simp
theorem c67 {α β:Type}(out:List α)(x:α)(p:α->Bool)(b:Nat)(hb:b<=1024)(hl:out.length<=4194304)(f:List α->Option β) :
 (Option.bind (cut out 0 ((out.takeWhile p).length:Int)) fun u=>Option.bind (Y1 (0+u.length) b) fun _ =>
   Option.bind (Y1 (u.length+[x].length) b) fun _=>Option.bind (cut out ((out.takeWhile p).length:Int) (out.length:Int)) fun w =>
   Option.bind (Y1 ((u++[x]).length+w.length) b) fun _=>f ((u++[x])++w))=f (a0g p x out):=by
 have hk:=b4b p out
 have rm:∀ n,n<=4194305->Y1 n b=some ():=fun n hn=>Q9 (by
  have:n*b<=4194305*1024:=Nat.mul_le_mul hn hb
  omega)
 rw [b9I out hk,c2D out hk,c0v,c0J]
 have hl2:=a6A p x out
 simp only [a0g,List.length_append,List.length_singleton] at hl2
 simp only [Option.bind_some]
 rw [rm _ (by simp; omega),rm _ (by simp; omega),rm _ (by simp only [List.length_append,List.length_singleton]; omega)]
 rfl
theorem c87 (a b:Ent):cE a b=lx (eE a) (eE b):=by
 have:=(c7b (a3X a)).2 a (Nat.le_refl _) b [] []
 simpa [lx,a9r] using this.symm
theorem c4z (a b:Ent):cE b a = - cE a b:=by rw [c87,c87]; exact b35 _ _
def a3J (out:List Ent)(x:Ent):List Ent :=
 match (out.dropWhile (fun y=>decide (cE y x<0))).head? with
 | some y=>if cE y x=0 then out else a0g (fun y=>decide (cE y x<0)) x out
 | none=>a0g (fun y=>decide (cE y x<0)) x out
theorem b0M (a b:List Ent):w9 (a++b)=w9 a+w9 b:=by
 induction a with
 | nil=>simp [w9]
 | cons x r ih=>simp only [List.cons_append,w9,ih]; omega
theorem b8m (p:Ent->Bool)(x:Ent)(out:List Ent):w9 (a0g p x out)=w9 out+a3X x:=by
 have e:=congrArg w9 (List.takeWhile_append_dropWhile (p:=p) (l:=out))
 rw [b0M] at e
 simp only [a0g,b0M,w9]
 omega
theorem c6W (out:List Ent)(x:Ent):w9 (a3J out x)<=w9 out+a3X x:=by
 unfold a3J
 split
 ·split
  ·omega
  ·rw [b8m]; omega
 ·rw [b8m]; omega
theorem c8x (out:List Ent)(x:Ent):(a3J out x).length<=out.length+1:=by
 unfold a3J
 split
 ·split
  ·omega
  ·rw [a6A]; omega
 ·rw [a6A]; omega
theorem c17 {out:List Ent}{x y:Ent}(h:y∈a3J out x):y=x\/y∈out:=by
 unfold a3J at h
 split at h
 ·split at h
  ·exact .inr h
  ·exact b2U h
 ·exact b2U h
theorem c8G (out:List Ent)(x:Ent)(h:asc cE out=true):asc cE (a3J out x)=true:=by
 unfold a3J
 split
 ·rename_i y hy
  split
  ·exact h
  ·rename_i hne
   refine b01 cE c4z x out h (fun z hz=>?_)
   rw [hy] at hz
   cases hz
   exact hne
 ·rename_i hy
  refine b01 cE c4z x out h (fun z hz=>?_)
  rw [hy] at hz; cases hz
theorem c2K (fuel:Nat)(es out:List Ent)(i:Nat)(x:Ent)(hx:es[i]?=some x)(hf:∀ e∈out,2*a3X e<=fuel)(hb:∀ e∈out,a3X e<=4194304)(hl:out.length<=4194304)(hi:i<=4194304) :
 a0l es fuel (out,(i:Int))=some (.next (a3J out x,((i+1:Nat):Int))):=by
 have hlt:i<es.length:=(List.getElem?_eq_some_iff.1 hx).1
 have hix:idx es (i:Int)=some x:=j6 hx
 have hcmp:∀ e∈out,Z9 fuel e x=some (cE e x):=fun e he=>(a5u fuel).2.2 e x (hf e he) (hb e he)
 unfold a0l
 simp only [Z5]
 rw [c2J (step:=a2Z es (out,(i:Int)) fuel) out (fun y=>decide (cE y x<0)) ?_ ?_]
 ·simp only [X1,Z2]
  rw [if_pos (by simp; omega)]
  simp only [Option.bind_some,hix,Int.toNat_natCast,hx]
  have hk:=b4b (fun y=>decide (cE y x<0)) out
  have hat:=c1J (fun y=>decide (cE y x<0)) out
  have go:(Option.bind (cut out 0 ((out.takeWhile (fun y=>decide (cE y x<0))).length:Int)) fun u=>Option.bind (Y1 (0+u.length) 160) fun _ =>
   Option.bind (Y1 (u.length+[x].length) 160) fun _=>Option.bind (cut out ((out.takeWhile (fun y=>decide (cE y x<0))).length:Int) (out.length:Int)) fun w =>
   Option.bind (Y1 ((u++[x]).length+w.length) 160) fun _=>some ((u++[x])++w))=some (a0g (fun y=>decide (cE y x<0)) x out) :=
   c67 out x _ 160 (by omega) hl (fun l=>some l)
  rw [j9 i (by omega)]
  have fin:∀ (b:Bool) (r:List Ent),(if b=true then some out else some r)=some (a3J out x)->(Option.bind (if b=true then some out else some r) fun b18=>some (Fl.next (b18,((i+1:Nat):Int)):Fl (List Ent×Int) (List Ent)))=some (.next (a3J out x,((i+1:Nat):Int))):=by
   intro b r h
   rw [h]; rfl
  rw [go]
  unfold a3J at fin ⊢
  cases hh:(out.dropWhile (fun y=>decide (cE y x<0))).head? with
  | none =>
    rw [hh] at hat
    have hge:=List.getElem?_eq_none_iff.1 hat
    rw [if_neg (by simp; omega)]
    rfl
  | some y =>
    rw [hh] at hat
    have hlt2:=(List.getElem?_eq_some_iff.1 hat).1
    rw [if_pos (by simp; omega),j6 hat]
    simp only [Option.bind_some]
    rw [hcmp y (List.mem_of_getElem? hat)]
    simp only [Option.bind_some]
    by_cases h0:cE y x=0
    ·rw [if_pos (by simp [h0]),if_pos h0]
     rfl
    ·rw [if_neg (by simp [h0]),if_neg h0]
     rfl
 ·intro j y hy
  have hj:j<out.length:=(List.getElem?_eq_some_iff.1 hy).1
  unfold a2Z
  simp only [X1,Z2]
  rw [if_pos (by simp; omega),j6 hy,hix]
  simp only [Option.bind_some,Int.toNat_natCast,hx]
  rw [hcmp y (List.mem_of_getElem? hy)]
  simp only [Option.bind_some,j9 j (by omega)]
  by_cases h:cE y x<0<;>simp [h]
 ·unfold a2Z
  simp
theorem a9j:∀ (es out:List Ent),w9 (es.foldl a3J out)<=w9 out+w9 es
 | [],out=>by simp [w9]
 | x::r,out=>by
   have h1:=a9j r (a3J out x)
   have h2:=c6W out x
   simp only [List.foldl_cons,w9]
   omega
theorem b0v {y:Ent}:∀ (es out:List Ent),y∈es.foldl a3J out->y∈out\/y∈es
 | [],_,h=>.inl h
 | x::r,out,h=>by
   rcases b0v r (a3J out x) h with h | h
   ·rcases c17 h with rfl | h
    ·exact .inr (by simp)
    ·exact .inl h
   ·exact .inr (by simp [h])
theorem b55:∀ (es out:List Ent),asc cE out=true->asc cE (es.foldl a3J out)=true
 | [],_,h=>h
 | x::r,out,h=>b55 r (a3J out x) (c8G out x h)
theorem c5R (fuel:Nat)(es:List Ent)(hf:2*w9 es<=fuel)(hb:w9 es<=4194304):a4s fuel es=some (es.foldl a3J []):=by
 have hlen:=a29 es
 unfold a4s
 have key:=b2Q (σ:=List Ent) (step:=a0l es fuel) es (fun s i=>(s,(i:Int))) a3J (fun i s=>s.length<=i/\(∀ e∈s,e∈es)) (fun s=>s)
  ?_ ?_ [] ⟨by simp,by simp⟩ _ (Nat.le_refl _)
 ·have e:y4 (a0l es fuel) (es.length+1) (([]:List Ent),0)=y4 (a0l es fuel) (es.length+1) (([]:List Ent),((0:Nat):Int)):=rfl
  rw [Z5,e,key]
  rfl
 ·intro i s x hx ⟨hI,hm⟩
  have hi:i<es.length:=(List.getElem?_eq_some_iff.1 hx).1
  refine ⟨c2K fuel es s i x hx (fun e he=>by have:=X6 (hm e he); omega) (fun e he=>by have:=X6 (hm e he); omega) (by omega) (by omega),?_,?_⟩
  ·have:=c8x s x; omega
  ·intro e he
   rcases c17 he with rfl | he
   ·exact List.mem_of_getElem? hx
   ·exact hm e he
 ·intro s _
  unfold a0l
  simp
def b6G (n:Int)(es:List Ent):Val:=Val.mk 9 n (⟨#[]⟩) ([]:List Val) ([]:List Key) es ([]:List ByteArray)
abbrev b63:Type:=Int×Int×ByteArray×(List Val)×(List Key)×(List Ent)×(List ByteArray)
abbrev a2n:b63:=(0,0,(⟨#[]⟩:ByteArray),[],[],[],[])
theorem b2O (fuel:Nat)(n:Int)(es:List Ent)(hf:2*w9 es<=fuel)(hb:w9 es<=4194304) :
 a2s fuel n es=some (if 0<=n/\n<=4/\es.all (a2I n)=true then (b6G n (es.foldl a3J []),0) else (a6q,1)):=by
 have hlen:=a29 es
 unfold a2s
 simp only [Z5]
 by_cases h1:n<0
 ·have e1:decide (n<0)=true:=by simpa using h1
  rw [e1,if_neg (by omega)]; rfl
 by_cases h2:4<n
 ·have e1:decide (n<0)=false:=by simpa using h1
  have e2:decide (4<n)=true:=by simpa using h2
  rw [e1,e2,if_neg (by omega)]; rfl
 have e1:decide (n<0)=false:=by simpa using h1
 have e2:decide (4<n)=false:=by simpa using h2
 rw [e1,e2,c5R fuel es hf hb]
 have key:=W8 (step:=a0K n es fuel) es (a2I n) (fun i=>((i:Int),a2n)) a2n (1,a2n) ?_ ?_
 ·have e:y4 (a0K n es fuel) (es.length+1) (0,(0,0,(⟨#[]⟩:ByteArray),[],[],[],[]))=y4 (a0K n es fuel) (es.length+1) (((0:Nat):Int),a2n):=rfl
  rw [e,key]
  by_cases ha:es.all (a2I n)=true
  ·rw [if_pos ha,if_pos ⟨by omega,by omega,ha⟩]
   rfl
  ·rw [if_neg ha,if_neg (fun h=>ha h.2.2)]
   rfl
 ·intro i x hx
  have hi:i<es.length:=(List.getElem?_eq_some_iff.1 hx).1
  have hm:=X6 (List.mem_of_getElem? hx)
  have hbe:=a1q x
  unfold a0K a3F
  simp only [X1,Z2]
  rw [if_pos (by simp; omega),j6 hx]
  simp only [Option.bind_some,Int.toNat_natCast,hx]
  rw [show Val.mk 0 0 (⟨#[]⟩:ByteArray) ([]:List Val) ([]:List Key) ([]:List Ent) ([]:List ByteArray)=a6q from rfl,(a5u fuel).1 x.Result a6q (by omega) (by omega),j9 i (by omega)]
  unfold a2I
  by_cases hl:(x.Args.length:Int)=n
  ·have e1:((x.Args.length:Int) != n)=false:=by simp [hl]
   have e2:((x.Args.length:Int)==n)=true:=by simp [hl]
   rw [e1,e2]
   simp only [Bool.false_eq_true,if_false,Option.bind_some,Bool.true_and]
   cases x.Fails
   ·simp
   ·by_cases h0:cV x.Result a6q=0<;>simp [h0]
  ·have e1:((x.Args.length:Int) != n)=true:=by simp [hl]
   have e2:((x.Args.length:Int)==n)=false:=by simp [hl]
   rw [e1,e2]
   simp
 ·unfold a0K
  simp
end Go.Pl
end
section
namespace Go.Pl
open Go Go.RowKit Go.Sx Go.Qx
theorem b5h (c:UInt8):a2x (c.toNat:Int)=some (a6e c):=by
 unfold a2x a6e
 cases decide (97<=(c.toNat:Int))<;>simp
theorem b9S (c:UInt8):a3C (c.toNat:Int)=some (a7a c):=by
 unfold a3C a7a
 cases decide (48<=(c.toNat:Int))<;>simp
theorem b3G (s:ByteArray):a13 s=some (a35 s):=by
 unfold a13 a35 b4u
 simp only [X1,c0q]
 have hsz:=b7v s
 cases hs:s.data.toList with
 | nil =>
   rw [hs] at hsz
   rw [hsz]
   simp
 | cons c r =>
   rw [hs] at hsz
   simp only [List.length_cons] at hsz
   have e1:decide ((s.size:Int)<1)=false:=by simp; omega
   rw [e1]
   simp only [Bool.false_eq_true,if_false,Option.bind_some]
   by_cases hb:16<(s.size:Int)
   ·rw [if_pos (by simpa using hb)]
    have:decide (r.length<=15)=false:=by simp; omega
    rw [this]; rfl
   ·rw [if_neg (by simpa using hb)]
    have e2:decide (r.length<=15)=true:=by simp; omega
    have e3:a5H s 0=some c:=b06 (i:=0) (by rw [hs]; rfl)
    rw [e2,e3]
    simp only [Option.bind_some,b5h,Bool.true_and]
    cases a6e c
    ·rfl
    ·simp only [Bool.not_true,Bool.false_eq_true,if_false,Bool.true_and]
     refine b1A s.size (fun i=>match s.data.toList[i]? with | some x=>(a6e x||a7a x||(x.toNat:Int)==95) | none=>true) ?_ ?_ 1 _ ?_
     ·intro i hi
      have hi':i<s.data.toList.length:=by rw [hs]; simp; omega
      unfold a5p
      simp only [X1,Z2]
      rw [if_pos (by simp; omega),b06 (List.getElem?_eq_getElem hi')]
      simp only [Option.bind_some,b5h,b9S]
      rw [List.getElem?_eq_getElem hi',j9 i (by omega)]
      generalize s.data.toList[i]=x
      have hn:((x.toNat:Int) != 95)=!((x.toNat:Int)==95):=rfl
      rw [hn]
      show _=some (if (a6e x||a7a x||(x.toNat:Int)==95)=true then _ else _)
      cases a6e x<;>cases a7a x<;>cases (x.toNat:Int)==95<;>rfl
     ·intro i hi
      unfold a5p
      rw [X1,if_neg (by simp; omega)]
     ·rw [hs,List.all_eq_true]
      constructor
      ·intro h i h1 hi
       obtain ⟨i,rfl⟩:∃ m,i=m+1:=⟨i-1,by omega⟩
       have hr:i<r.length:=by omega
       simp only [List.getElem?_cons_succ,List.getElem?_eq_getElem hr]
       exact h _ (List.getElem_mem hr)
      ·intro h x hx
       obtain ⟨i,hi,rfl⟩:=List.getElem_of_mem hx
       have:=h (i+1) (by omega) (by omega)
       simpa only [List.getElem?_cons_succ,List.getElem?_eq_getElem hi] using this
theorem b5T (k:Key):a1r k=some (X4 k):=by
 unfold a1r X4
 rw [b3G]
 by_cases h:k.Kind=0
 ·cases a35 k.Text<;>simp [h]
 ·by_cases h1:k.Kind=1
  ·simp [h1]
  ·have e0:(k.Kind==0)=false:=by simpa using h
   have e1:(k.Kind==1)=false:=by simpa using h1
   rw [e0,e1,if_neg h,if_neg h1]
   rfl
theorem c5z (a b:Key):cK a b=lx (eK a) (eK b):=by
 have:=pfK a b [] []
 simpa [lx,a9r] using this.symm
theorem c0z (a b:Key):cK b a = - cK a b:=by rw [c5z,c5z]; exact b35 _ _
def a0Q (a b:Key):Bool:=a3n a b
theorem c7j (a b:Key):a0Q a b=((a.Kind==b.Kind)&&Q4 a.Text b.Text):=by unfold a0Q a3n; simp
theorem b60 (a b:Key):a0Q a b=true↔cK a b=0:=by
 rw [c7j]
 unfold cK
 rcases W9 a.Kind b.Kind with ⟨h,e⟩ | ⟨h,e⟩ | ⟨h,e⟩
 ·have:(a.Kind==b.Kind)=false:=by simp; omega
  simp [this,e,tn]
 ·have:(a.Kind==b.Kind)=false:=by simp; omega
  simp [this,e,tn]
 ·rw [h]
  rw [h] at e
  rcases a7S a.Text b.Text with ⟨_,p,q⟩ | ⟨_,p,q⟩ | ⟨_,p,q⟩<;>simp [p,q,e,tn]
abbrev a2l (k:Key):Key->Bool:=fun y=>decide (cK y k<0)
def b6B (s:List Val×List Key)(x:Key×Val):Option (List Val×List Key) :=
 if ((s.2.dropWhile (a2l x.1)).head?.map fun y=>a0Q y x.1)=some true then none
 else some (s.1.take (s.2.takeWhile (a2l x.1)).length++[x.2]++s.1.drop (s.2.takeWhile (a2l x.1)).length,a0g (a2l x.1) x.1 s.2)
def a5Y:List (Key×Val)->List Val×List Key->Option (List Val×List Key)
 | [],s=>some s
 | x::r,s=>(b6B s x).bind (a5Y r)
abbrev a7x (s:List Val×List Key):b63:=(8,0,(⟨#[]⟩:ByteArray),s.1,s.2,[],[])
theorem c8n (keys:List Key)(l:List Val)(i:Nat)(k:Key)(x:Val)(hk:keys[i]?=some k)(hx:l[i]?=some x)(s:List Val×List Key)(hs:s.1.length=s.2.length)(hl:s.2.length<=4194304)(hi:i<=4194304) :
 ∃ y,a1o keys l ((i:Int),a2n,a7x s)=some (match b6B s (k,x) with | some t=>.next (((i+1:Nat):Int),a2n,a7x t) | none=>.done (.inr (6,a2n,y))):=by
 refine ⟨a7x s,?_⟩
 have hlt:i<keys.length:=(List.getElem?_eq_some_iff.1 hk).1
 have hik:idx keys (i:Int)=some k:=j6 hk
 have hix:idx l (i:Int)=some x:=j6 hx
 unfold a1o
 simp only [Z5]
 rw [c2J (step:=a4I keys ((i:Int),a2n,a7x s)) s.2 (a2l k) ?_ ?_]
 ·simp only [X1,Z2]
  rw [if_pos (by simp; omega)]
  simp only [Option.bind_some,hik,hix]
  have hp:=b4b (a2l k) s.2
  have hat:=c1J (a2l k) s.2
  have rmk:∀ n,n<=4194305->Y1 n 24=some ():=fun n hn=>Q9 (by omega)
  have rmv:∀ n,n<=4194305->Y1 n 128=some ():=fun n hn=>Q9 (by omega)
  have h1:=a6A (a2l k) k s.2
  simp only [a0g,List.length_append,List.length_singleton] at h1
  have go:(Option.bind (cut s.2 0 ((s.2.takeWhile (a2l k)).length:Int)) fun u=>Option.bind (Y1 (0+u.length) 24) fun _ =>
   Option.bind (cut s.1 0 ((s.2.takeWhile (a2l k)).length:Int)) fun u2=>Option.bind (a1j u2) fun r2 =>
   Option.bind (Y1 (u.length+[k].length) 24) fun _=>Option.bind (cut s.2 ((s.2.takeWhile (a2l k)).length:Int) (s.2.length:Int)) fun w =>
   Option.bind (Y1 ((u++[k]).length+w.length) 24) fun _=>Option.bind (Y1 (r2.length+[x].length) 128) fun _ =>
   Option.bind (cut s.1 ((s.2.takeWhile (a2l k)).length:Int) (s.1.length:Int)) fun w2=>Option.bind (Y1 ((r2++[x]).length+w2.length) 128) fun _ =>
   some (Fl.next (w64 ((i:Int)+1),a2n,a7x ((r2++[x])++w2,(u++[k])++w))))=some (Fl.next (((i+1:Nat):Int),a2n,a7x (s.1.take (s.2.takeWhile (a2l k)).length++[x]++s.1.drop (s.2.takeWhile (a2l k)).length,a0g (a2l k) k s.2)):Fl (Int×b63×b63) (Sum (b63×b63) (Int×b63×b63))):=by
   have ht:(s.1.take (s.2.takeWhile (a2l k)).length).length<=4194304:=by rw [List.length_take]; omega
   have hd:(s.1.take (s.2.takeWhile (a2l k)).length).length+(s.1.drop (s.2.takeWhile (a2l k)).length).length=s.1.length:=by rw [List.length_take,List.length_drop]; omega
   rw [b9I s.2 hp,c2D s.2 hp,b9I s.1 (by omega),c2D s.1 (by omega),c0v,c0J]
   unfold a1j
   simp only [Option.bind_some]
   rw [rmk _ (by simp; omega),rmv _ (by simp; omega)]
   simp only [Option.bind_some]
   rw [rmk _ (by simp; omega),rmk _ (by simp only [List.length_append,List.length_singleton]; omega),rmv _ (by simp; omega),rmv _ (by simp only [List.length_append,List.length_singleton]; omega),j9 i (by omega)]
   rfl
  unfold b6B
  cases hh:(s.2.dropWhile (a2l k)).head? with
  | none =>
    rw [hh] at hat
    have hge:=List.getElem?_eq_none_iff.1 hat
    rw [if_neg (by simp; omega),if_neg (by simp)]
    exact go
  | some y =>
    rw [hh] at hat
    have hlt2:=(List.getElem?_eq_some_iff.1 hat).1
    rw [if_pos (by simp; omega),j6 hat]
    simp only [Option.bind_some,Option.map_some]
    cases hq:a0Q y k
    ·unfold a0Q at hq
     rw [hq,if_neg (by simp),if_neg (by simp)]
     exact go
    ·unfold a0Q at hq
     rw [hq,if_pos rfl,if_pos rfl]
 ·intro j y hy
  have hj:j<s.2.length:=(List.getElem?_eq_some_iff.1 hy).1
  unfold a4I
  simp only [X1,Z2]
  rw [if_pos (by simp; omega),j6 hy,hik]
  simp only [Option.bind_some,a9G,j9 j (by omega)]
  by_cases h:cK y k<0<;>simp [h]
 ·unfold a4I
  simp
theorem c2L {s t:List Val×List Key}{x:Key×Val}(h:b6B s x=some t)(hs:s.1.length=s.2.length):t.1.length=t.2.length/\t.2.length=s.2.length+1:=by
 unfold b6B at h
 split at h
 ·cases h
 ·cases h
  have h1:=a6A (a2l x.1) x.1 s.2
  have hp:=b4b (a2l x.1) s.2
  refine ⟨?_,h1⟩
  rw [h1]
  simp only [List.length_append,List.length_singleton,List.length_take,List.length_drop]
  omega
theorem c8t (keys:List Key)(l:List Val)(hkl:keys.length=l.length)(hl:keys.length<=4194304) :
 ∃ y,y4 (a1o keys l) (keys.length+1) (0,a2n,a7x ([],[]))=some (match a5Y (keys.zip l) ([],[]) with | some t=>.inl (a2n,a7x t) | none=>.inr (6,a2n,y)):=by
 have key:∀ (m i k:Nat) (s:List Val×List Key),i+m=keys.length->m+1<=k->s.1.length=s.2.length->s.2.length<=i ->
  ∃ y,y4 (a1o keys l) k ((i:Int),a2n,a7x s)=some (match a5Y ((keys.drop i).zip (l.drop i)) s with | some t=>.inl (a2n,a7x t) | none=>.inr (6,a2n,y)):=by
  intro m
  induction m with
  | zero =>
    intro i k s h1 h2 hs hn
    obtain ⟨k,rfl⟩:∃ m,k=m+1:=⟨k-1,by omega⟩
    have e:i=keys.length:=by omega
    subst e
    rw [List.drop_length,List.zip_nil_left]
    have:a1o keys l ((keys.length:Int),a2n,a7x s)=some (.done (.inl (a2n,a7x s))):=by
     unfold a1o
     simp
    exact ⟨a2n,by simp only [y4,this,a5Y,Option.bind_some]⟩
  | succ m ih =>
    intro i k s h1 h2 hs hn
    obtain ⟨k,rfl⟩:∃ m,k=m+1:=⟨k-1,by omega⟩
    have hlt:i<keys.length:=by omega
    have hlt2:i<l.length:=by omega
    rw [List.drop_eq_getElem_cons hlt,List.drop_eq_getElem_cons hlt2,List.zip_cons_cons]
    obtain ⟨y,hy⟩:=c8n keys l i _ _ (List.getElem?_eq_getElem hlt) (List.getElem?_eq_getElem hlt2) s hs (by omega) (by omega)
    simp only [y4,hy,a5Y]
    cases hi:b6B s (keys[i],l[i]) with
    | none=>exact ⟨y,by simp⟩
    | some t =>
      obtain ⟨h3,h4⟩:=c2L hi hs
      simp only [Option.bind_some]
      exact ih (i+1) k t (by omega) (by omega) h3 (by omega)
 obtain ⟨y,hy⟩:=key keys.length 0 (keys.length+1) ([],[]) (by omega) (Nat.le_refl _) rfl (Nat.le_refl _)
 exact ⟨y,by simpa using hy⟩
def b3K (s:List Val×List Key):Val:=Val.mk 8 0 (⟨#[]⟩) s.1 s.2 ([]:List Ent) ([]:List ByteArray)
theorem b9j (keys:List Key)(l:List Val)(hl:keys.length<=4194304) :
 a2k keys l=some (if keys.length=l.length/\keys.all X4=true then (match a5Y (keys.zip l) ([],[]) with | some t=>((b3K t,0):Val×Int) | none=>(a6q,6)) else (a6q,1)):=by
 unfold a2k
 simp only [Z5]
 by_cases hkl:keys.length=l.length
 ·have e1:((keys.length:Int) != (l.length:Int))=false:=by simp; omega
  rw [e1]
  have k1:=W8 (step:=a17 keys) keys X4 (fun i=>((i:Int),a2n)) a2n (1,a2n) ?_ ?_
  ·obtain ⟨y,hy⟩:=c8t keys l hkl hl
   have e2:y4 (a17 keys) (keys.length+1) (0,(0,0,(⟨#[]⟩:ByteArray),[],[],[],[]))=y4 (a17 keys) (keys.length+1) (((0:Nat):Int),a2n):=rfl
   rw [e2,k1]
   by_cases ha:keys.all X4=true
   ·rw [if_pos ha,if_pos ⟨hkl,ha⟩]
    simp only [Option.bind_some,k7,cond_false]
    rw [hy]
    cases a5Y (keys.zip l) ([],[])<;>rfl
   ·rw [if_neg ha,if_neg (fun h=>ha h.2)]
    rfl
  ·intro i x hx
   have hi:i<keys.length:=(List.getElem?_eq_some_iff.1 hx).1
   unfold a17
   simp only [X1,Z2]
   rw [if_pos (by simp; omega),j6 hx]
   simp only [Option.bind_some,b5T,j9 i (by omega)]
   cases X4 x<;>rfl
  ·unfold a17
   simp
 ·have e1:((keys.length:Int) != (l.length:Int))=true:=by simp; omega
  rw [e1,if_neg (fun h=>hkl h.1)]
  rfl
theorem a6z (a b:List Key):w5 (a++b)=w5 a+w5 b:=by
 induction a with
 | nil=>simp [w5]
 | cons x r ih=>simp only [List.cons_append,w5,ih]; omega
theorem c5E {s t:List Val×List Key}{x:Key×Val}(h:b6B s x=some t)(ha:asc cK s.2=true) :
 asc cK t.2=true/\(∀ y∈t.2,y=x.1\/y∈s.2)/\(∀ y∈t.1,y=x.2\/y∈s.1)/\k9 t.1=k9 s.1+k8 x.2/\w5 t.2=w5 s.2+a56 x.1:=by
 unfold b6B at h
 split at h
 ·cases h
 ·rename_i hne
  cases h
  refine ⟨b01 cK c0z x.1 s.2 ha ?_,fun y hy=>b2U hy,fun y hy=>?_,?_,?_⟩
  ·intro y hy h0
   rw [hy] at hne
   simp only [Option.map_some] at hne
   exact hne (congrArg some ((b60 y x.1).2 h0))
  ·simp only [List.mem_append,List.mem_singleton] at hy
   rcases hy with (hy | hy) | hy
   ·exact .inr (List.mem_of_mem_take hy)
   ·exact .inl hy
   ·exact .inr (List.mem_of_mem_drop hy)
  ·have e:=congrArg k9 (List.take_append_drop (s.2.takeWhile (a2l x.1)).length s.1)
   rw [a1v] at e
   simp only [a1v,k9]
   omega
  ·have e:=congrArg w5 (List.takeWhile_append_dropWhile (p:=a2l x.1) (l:=s.2))
   rw [a6z] at e
   simp only [a0g,a6z,w5]
   omega
def b50:List (Key×Val)->Nat
 | []=>0
 | x::r=>a56 x.1+k8 x.2+b50 r
theorem b1h:∀ (xs:List (Key×Val)) (s t:List Val×List Key),a5Y xs s=some t->asc cK s.2=true->s.1.length=s.2.length ->
 asc cK t.2=true/\t.1.length=t.2.length/\t.2.length=s.2.length+xs.length/\(∀ y∈t.2,y∈s.2\/∃ x∈xs,y=x.1)/\(∀ y∈t.1,y∈s.1\/∃ x∈xs,y=x.2)/\k9 t.1+w5 t.2=k9 s.1+w5 s.2+b50 xs
 | [],s,t,h,ha,hl=>by
   cases h
   exact ⟨ha,hl,rfl,fun y hy=>.inl hy,fun y hy=>.inl hy,rfl⟩
 | x::r,s,t,h,ha,hl=>by
   simp only [a5Y] at h
   obtain ⟨u,hu,h⟩:=Option.bind_eq_some_iff.1 h
   obtain ⟨k1,k2,k3,k4,k5⟩:=c5E hu ha
   obtain ⟨l1,l2⟩:=c2L hu hl
   obtain ⟨m1,m2,m3,m4,m5,m6⟩:=b1h r u t h k1 l1
   refine ⟨m1,m2,by rw [m3,l2,List.length_cons]; omega,fun y hy=>?_,fun y hy=>?_,by simp only [b50]; omega⟩
   ·rcases m4 y hy with hy | ⟨z,hz,rfl⟩
    ·rcases k2 y hy with rfl | hy
     ·exact .inr ⟨x,by simp,rfl⟩
     ·exact .inl hy
    ·exact .inr ⟨z,by simp [hz],rfl⟩
   ·rcases m5 y hy with hy | ⟨z,hz,rfl⟩
    ·rcases k3 y hy with rfl | hy
     ·exact .inr ⟨x,by simp,rfl⟩
     ·exact .inl hy
    ·exact .inr ⟨z,by simp [hz],rfl⟩
end Go.Pl
namespace Go.Pl
open Go Go.RowKit Go.Sx Go.Qx
theorem c1v (c:UInt8):a3E (c.toNat:Int)=some (upC c):=by
 unfold a3E upC
 cases decide (65<=(c.toNat:Int))<;>simp
theorem b92 (s:ByteArray):a1O s=some (a5O s):=by
 unfold a1O a5O b4u
 simp only [X1,c0q]
 have hsz:=b7v s
 cases hs:s.data.toList with
 | nil =>
   rw [hs] at hsz
   rw [hsz]
   simp
 | cons c r =>
   rw [hs] at hsz
   simp only [List.length_cons] at hsz
   have e1:decide ((s.size:Int)<1)=false:=by simp; omega
   rw [e1]
   simp only [Bool.false_eq_true,if_false,Option.bind_some]
   by_cases hb:16<(s.size:Int)
   ·rw [if_pos (by simpa using hb)]
    have:decide (r.length<=15)=false:=by simp; omega
    rw [this]; rfl
   ·rw [if_neg (by simpa using hb)]
    have e2:decide (r.length<=15)=true:=by simp; omega
    have e3:a5H s 0=some c:=b06 (i:=0) (by rw [hs]; rfl)
    rw [e2,e3]
    simp only [Option.bind_some,c1v,Bool.true_and]
    cases upC c
    ·rfl
    ·simp only [Bool.not_true,Bool.false_eq_true,if_false,Bool.true_and]
     refine b1A s.size (fun i=>match s.data.toList[i]? with | some x=>(a6e x||upC x||a7a x||(x.toNat:Int)==95) | none=>true) ?_ ?_ 1 _ ?_
     ·intro i hi
      have hi':i<s.data.toList.length:=by rw [hs]; simp; omega
      unfold a3Q
      simp only [X1,Z2]
      rw [if_pos (by simp; omega),b06 (List.getElem?_eq_getElem hi')]
      simp only [Option.bind_some,b5h,b9S,c1v]
      rw [List.getElem?_eq_getElem hi',j9 i (by omega)]
      generalize s.data.toList[i]=x
      have hn:((x.toNat:Int) != 95)=!((x.toNat:Int)==95):=rfl
      rw [hn]
      show _=some (if (a6e x||upC x||a7a x||(x.toNat:Int)==95)=true then _ else _)
      cases a6e x<;>cases upC x<;>cases a7a x<;>cases (x.toNat:Int)==95<;>rfl
     ·intro i hi
      unfold a3Q
      rw [X1,if_neg (by simp; omega)]
     ·rw [hs,List.all_eq_true]
      constructor
      ·intro h i h1 hi
       obtain ⟨i,rfl⟩:∃ m,i=m+1:=⟨i-1,by omega⟩
       have hr:i<r.length:=by omega
       simp only [List.getElem?_cons_succ,List.getElem?_eq_getElem hr]
       exact h _ (List.getElem_mem hr)
      ·intro h x hx
       obtain ⟨i,hi,rfl⟩:=List.getElem_of_mem hx
       have:=h (i+1) (by omega) (by omega)
       simpa only [List.getElem?_cons_succ,List.getElem?_eq_getElem hi] using this
end Go.Pl
end
section
namespace Go.Pl
open Go Go.RowKit Go.Sx Go.Qx
theorem a7p:Q4 (⟨#[]⟩:ByteArray) ⟨#[]⟩=true:=by simp [Q4]
theorem c9l (n:Int):vOK (Val.mk 1 n (⟨#[]⟩) [] [] [] [])=true:=by simp [vOK,a1z,a4A,a1F,a0Y,asc,a3A,a3h,a7p,Val.Kind,Val.Int_,Val.Text,Val.Kids,Val.Keys,Val.Entries,Val.Labels]
theorem c9v (s:ByteArray):vOK (Val.mk 2 0 s [] [] [] [])=decide ((s.size:Int)<=64):=by rw [Bool.eq_iff_iff]; simp [vOK,a1z,a4A,a1F,a0Y,asc,a3A,a3h,Val.Kind,Val.Int_,Val.Text,Val.Kids,Val.Keys,Val.Entries,Val.Labels]; exact decide_eq_true_iff
theorem c8d (s:ByteArray):vOK (Val.mk 3 0 s [] [] [] [])=a35 s:=by simp [vOK,a1z,a4A,a1F,a0Y,asc,a3A,a3h,Val.Kind,Val.Int_,Val.Text,Val.Kids,Val.Keys,Val.Entries,Val.Labels]
theorem c96 (n:Int):vOK (Val.mk 4 n (⟨#[]⟩) [] [] [] [])=decide (0<=n):=by rw [Bool.eq_iff_iff]; simp [vOK,a1z,a4A,a1F,a0Y,asc,a3A,a3h,a7p,Val.Kind,Val.Int_,Val.Text,Val.Kids,Val.Keys,Val.Entries,Val.Labels]; exact decide_eq_true_iff
theorem b7z:vOK (Val.mk 5 0 (⟨#[]⟩) [] [] [] [])=true:=by simp [vOK,a1z,a4A,a1F,a0Y,asc,a3A,a3h,a7p,Val.Kind,Val.Int_,Val.Text,Val.Kids,Val.Keys,Val.Entries,Val.Labels]
theorem c1o (l:List Val):vOK (Val.mk 6 0 (⟨#[]⟩) l [] [] [])=(decide (l.length<=4)&&a1z l):=by rw [Bool.eq_iff_iff]; simp [vOK,a4A,a1F,a0Y,asc,a3A,a3h,a7p,Val.Kind,Val.Int_,Val.Text,Val.Kids,Val.Keys,Val.Entries,Val.Labels]; intro _; exact decide_eq_true_iff
theorem c3F (x t:Val):vOK (Val.mk 7 0 (⟨#[]⟩) [x,t] [] [] [])=((t.Kind==5||t.Kind==7)&&(vOK x&&vOK t)):=by simp [vOK,a1z,a4A,a1F,a0Y,asc,a3A,a3h,a7m,a7p,Val.Kind,Val.Int_,Val.Text,Val.Kids,Val.Keys,Val.Entries,Val.Labels]
theorem c9Y (t:List Val×List Key):vOK (b3K t)=(a8p (b3K t)&&a1z t.1):=by simp [b3K,vOK,a4A,a1F,a0Y,asc,a3A,a3h,a7p,Val.Kind,Val.Int_,Val.Text,Val.Kids,Val.Keys,Val.Entries,Val.Labels]
theorem c9V (n:Int)(es:List Ent):vOK (b6G n es)=(b2N (b6G n es)&&a4A es):=by simp [b6G,vOK,a1z,a1F,a0Y,asc,a3A,a3h,a7p,Val.Kind,Val.Int_,Val.Text,Val.Kids,Val.Keys,Val.Entries,Val.Labels]
def a65 (v:Val)(l:List ByteArray):Val:=Val.mk v.Kind v.Int_ v.Text v.Kids v.Keys v.Entries l
theorem a9D {v:Val}{l:List ByteArray}(h:vOK v=true)(hl:a0Y l=true):vOK (a65 v l)=true:=by
 cases v
 simp only [vOK,a1F,Bool.and_eq_true,a65,Val.Kind,Val.Int_,Val.Text,Val.Kids,Val.Keys,Val.Entries,Val.Labels] at h ⊢
 exact ⟨⟨hl,h.1.2⟩,h.2⟩
theorem a6N (v:Val)(l:List ByteArray):k8 (a65 v l)<=k8 v+J3 l:=by
 rw [a03,a03 v]
 simp only [a65,Val.Text,Val.Kids,Val.Keys,Val.Entries,Val.Labels]
 omega
theorem a25:(⟨#[]⟩:ByteArray).size=0:=rfl
theorem V3 (k n:Int)(t:ByteArray)(kids:List Val)(keys:List Key)(es:List Ent):k8 (Val.mk k n t kids keys es [])=8+t.size+k9 kids+w5 keys+w9 es:=by
 simp only [k8,a3m,J3]; omega
structure OS (L:List Int)(s:Semtypebase_Source):Prop where
 l:s.L=L
 lo:0<=s.At
 hi:s.At<=(L.length:Int)
section
variable {L:List Int}
theorem Y2 (hL:L.length<=4194304){s:Semtypebase_Source}(h:OS L s){n:Int}(h1:1<=n)(h2:n<=1000):∃ x t,y2 s n=some (x,t)/\OS L t/\0<=x/\x<n:=by
 obtain ⟨hl,lo,hi⟩:=h
 unfold y2
 have e1:decide (n<1)=false:=by simp; omega
 rw [e1,hl]
 by_cases he:(L.length:Int)<=s.At
 ·have e2:decide ((L.length:Int)<=s.At)=true:=by simpa using he
  rw [e2]
  exact ⟨0,s,rfl,⟨hl,lo,hi⟩,by omega,by omega⟩
 ·have e2:decide ((L.length:Int)<=s.At)=false:=by simpa using he
  rw [e2]
  simp only [cond_false,Option.bind_some]
  have hlt:s.At.toNat<L.length:=by omega
  have e:idx L s.At=some L[s.At.toNat]:=by
   have:=j6 (List.getElem?_eq_getElem hlt)
   rwa [show ((s.At.toNat:Nat):Int)=s.At by omega] at this
  rw [e]
  simp only [Option.bind_some]
  have hq:b8R L[s.At.toNat] n=some (L[s.At.toNat].tmod n):=by unfold b8R; rw [if_neg (by omega)]
  rw [hq]
  simp only [Option.bind_some,Z2]
  have b1:=Int.tmod_lt_of_pos L[s.At.toNat] (show 0<n by omega)
  have b2:=Int.lt_tmod_of_pos L[s.At.toNat] (show 0<n by omega)
  have hw:w64 (s.At+1)=s.At+1:=K1 (by omega) (by omega)
  have hos:OS L (Semtypebase_Source.mk L (w64 (s.At+1))):=⟨rfl,by show 0<=w64 (s.At+1); omega,by show w64 (s.At+1)<=_; omega⟩
  by_cases hn:L[s.At.toNat].tmod n<0
  ·rw [X1,if_pos (by simpa using hn),K1 (x:=L[s.At.toNat].tmod n+n) (by omega) (by omega)]
   exact ⟨_,_,rfl,hos,by omega,by omega⟩
  ·rw [X1,if_neg (by simpa using hn)]
   exact ⟨_,_,rfl,hos,by omega,by omega⟩
theorem b4x {α:Type}(l:List α){x:Int}(h0:0<=x)(h1:x<(l.length:Int)):∃ t,idx l x=some t/\l[x.toNat]?=some t/\t∈l:=by
 have hlt:x.toNat<l.length:=by omega
 have:=j6 (List.getElem?_eq_getElem hlt)
 rw [show ((x.toNat:Nat):Int)=x by omega] at this
 exact ⟨_,this,List.getElem?_eq_getElem hlt,List.getElem_mem hlt⟩
abbrev b7T:List ByteArray:=[⟨#[65]⟩,⟨#[66]⟩,⟨#[67]⟩]
abbrev c3p:List ByteArray:=[⟨#[97]⟩,⟨#[98]⟩,⟨#[111,107]⟩,⟨#[101,114,114,111,114]⟩]
abbrev c3j:List ByteArray:=[⟨#[]⟩,⟨#[115]⟩,⟨#[120,32,121]⟩,⟨#[97]⟩]
theorem b8L (hL:L.length<=4194304){s:Semtypebase_Source}(h:OS L s):∃ x t,a0x s=some (x,t)/\OS L t/\x∈b7T:=by
 obtain ⟨n,t,e,ht,a,b⟩:=Y2 hL h (n:=3) (by omega) (by omega)
 obtain ⟨x,ex,eg,hx⟩:=b4x b7T a (by simpa using b)
 exact ⟨x,t,by unfold a0x; rw [e]; simp only [Option.bind_some]; rw [ex,eg]; rfl,ht,hx⟩
theorem a9z (hL:L.length<=4194304){s:Semtypebase_Source}(h:OS L s):∃ x t,K7 s=some (x,t)/\OS L t/\x∈c3p:=by
 obtain ⟨n,t,e,ht,a,b⟩:=Y2 hL h (n:=4) (by omega) (by omega)
 obtain ⟨x,ex,eg,hx⟩:=b4x c3p a (by simpa using b)
 exact ⟨x,t,by unfold K7; rw [e]; simp only [Option.bind_some]; rw [ex,eg]; rfl,ht,hx⟩
theorem b7W (hL:L.length<=4194304){s:Semtypebase_Source}(h:OS L s):∃ x t,a0c s=some (x,t)/\OS L t/\x∈c3j:=by
 obtain ⟨n,t,e,ht,a,b⟩:=Y2 hL h (n:=4) (by omega) (by omega)
 obtain ⟨x,ex,eg,hx⟩:=b4x c3j a (by simpa using b)
 exact ⟨x,t,by unfold a0c; rw [e]; simp only [Option.bind_some]; rw [ex,eg]; rfl,ht,hx⟩
theorem c7e (hL:L.length<=4194304){s:Semtypebase_Source}(h:OS L s):∃ x t,a2i s=some (x,t)/\OS L t:=by
 obtain ⟨n,t,e,ht,a,b⟩:=Y2 hL h (n:=10) (by omega) (by omega)
 obtain ⟨x,ex,eg,hx⟩:=b4x ([0,1,(-1),2,3,(-2),7,(-9223372036854775808),9223372036854775807,10]:List Int) a (by simpa using b)
 exact ⟨x,t,by unfold a2i; rw [e]; simp only [Option.bind_some]; rw [ex,eg]; rfl,ht⟩
def chk (o:Option (List ByteArray)):Bool :=
 match o with
 | some l=>a0Y l&&decide (J3 l<=4)
 | none=>false
theorem b6R {o:Option (List ByteArray)}(h:chk o=true):∃ l,o=some l/\a0Y l=true/\J3 l<=4:=by
 cases o with
 | none=>cases h
 | some l=>simp only [chk,Bool.and_eq_true,decide_eq_true_eq] at h; exact ⟨l,rfl,h⟩
theorem c9A:chk (a0h ([]:List ByteArray))=true:=by kernel_rfl
theorem c9K:b7T.all (fun x=>chk (a0h [x]))=true:=by kernel_rfl
theorem c9B:b7T.all (fun x=>b7T.all (fun y=>chk (a0h ([x]++[y]))))=true:=by kernel_rfl
theorem b0J (hL:L.length<=4194304){s:Semtypebase_Source}(h:OS L s):∃ l t,a07 s=some (l,t)/\OS L t/\a0Y l=true/\J3 l<=4:=by
 obtain ⟨n,t,e,ht,_,_⟩:=Y2 hL h (n:=3) (by omega) (by omega)
 unfold a07
 rw [e]
 simp only [Option.bind_some]
 cases hn:n==1
 ·simp only [cond_false,Option.bind_some]
  obtain ⟨l,el,h1,h2⟩:=b6R c9A
  exact ⟨l,t,by rw [el]; rfl,ht,h1,h2⟩
 ·simp only [cond_true,Option.bind_some]
  obtain ⟨x,t2,e2,ht2,hx⟩:=b8L hL ht
  obtain ⟨m,t3,e3,ht3,_,_⟩:=Y2 hL ht2 (n:=2) (by omega) (by omega)
  rw [e2]
  simp only [Option.bind_some]
  rw [Q9 (by simp),e3]
  simp only [Option.bind_some]
  cases hm:m==1
  ·simp only [cond_false,Option.bind_some]
   obtain ⟨l,el,h1,h2⟩:=b6R (List.all_eq_true.1 c9K x hx)
   exact ⟨l,t3,by rw [el]; rfl,ht3,h1,h2⟩
  ·simp only [cond_true,Option.bind_some]
   obtain ⟨y,t4,e4,ht4,hy⟩:=b8L hL ht3
   rw [e4]
   simp only [Option.bind_some]
   rw [Q9 (by simp)]
   obtain ⟨l,el,h1,h2⟩:=b6R (List.all_eq_true.1 (List.all_eq_true.1 c9B x hx) y hy)
   exact ⟨l,t4,by simp only [Option.bind_some]; rw [el]; rfl,ht4,h1,h2⟩
theorem b0K:c3p.all (fun x=>a35 x&&decide (x.size<=5))=true:=by kernel_rfl
theorem b0S:c3j.all (fun x=>decide (x.size<=5))=true:=by kernel_rfl
theorem b4N (hL:L.length<=4194304){s:Semtypebase_Source}(h:OS L s):∃ v t,J9 s=some (v,t)/\OS L t/\vOK v=true/\k8 v<=16:=by
 obtain ⟨n,t,e,ht,_,_⟩:=Y2 hL h (n:=6) (by omega) (by omega)
 unfold J9
 rw [e]
 simp only [Option.bind_some]
 cases n==0
 ·simp only [cond_false,Option.bind_some]
  cases n==1
  ·simp only [cond_false,Option.bind_some]
   cases n==2
   ·simp only [cond_false,Option.bind_some]
    cases n==3
    ·simp only [cond_false,Option.bind_some]
     cases n==4
     ·simp only [cond_false,Option.bind_some]
      unfold a3B a1j
      rw [Q9 (by simp)]
      exact ⟨_,t,rfl,ht,by rw [c1o]; rfl,by rw [V3]; simp [a25,k9,w5,w9]⟩
     ·simp only [cond_true,Option.bind_some]
      exact ⟨_,t,rfl,ht,b7z,by rw [V3]; simp [a25,k9,w5,w9]⟩
    ·simp only [cond_true,Option.bind_some]
     obtain ⟨x,t2,e2,ht2,h0,_⟩:=Y2 hL ht (n:=3) (by omega) (by omega)
     rw [e2]
     exact ⟨_,t2,rfl,ht2,by rw [c96]; simpa using h0,by rw [V3]; simp [a25,k9,w5,w9]⟩
   ·simp only [cond_true,Option.bind_some]
    obtain ⟨x,t2,e2,ht2,hx⟩:=b7W hL ht
    have hw:=List.all_eq_true.1 b0S x hx
    simp only [decide_eq_true_eq] at hw
    rw [e2]
    exact ⟨_,t2,rfl,ht2,by rw [c9v]; simp; omega,by rw [V3]; simp only [k9,w5,w9]; omega⟩
  ·simp only [cond_true,Option.bind_some]
   obtain ⟨x,t2,e2,ht2,hx⟩:=a9z hL ht
   have hw:=List.all_eq_true.1 b0K x hx
   simp only [Bool.and_eq_true,decide_eq_true_eq] at hw
   rw [e2]
   exact ⟨_,t2,rfl,ht2,by rw [c8d]; exact hw.1,by rw [V3]; simp only [k9,w5,w9]; omega⟩
 ·simp only [cond_true,Option.bind_some]
  obtain ⟨x,t2,e2,ht2⟩:=c7e hL ht
  rw [e2]
  exact ⟨_,t2,rfl,ht2,c9l x,by rw [V3]; simp [a25,k9,w5,w9]⟩
theorem c9d (hL:L.length<=4194304){s:Semtypebase_Source}(h:OS L s):∃ k t,a27 s=some (k,t)/\OS L t/\X4 k=true/\a56 k<=8:=by
 obtain ⟨n,t,e,ht,_,_⟩:=Y2 hL h (n:=2) (by omega) (by omega)
 unfold a27
 rw [e]
 simp only [Option.bind_some]
 cases n==0
 ·simp only [cond_false,Option.bind_some]
  obtain ⟨x,t2,e2,ht2,hx⟩:=b7W hL ht
  have hw:=List.all_eq_true.1 b0S x hx
  simp only [decide_eq_true_eq] at hw
  rw [e2]
  refine ⟨_,t2,rfl,ht2,?_,?_⟩
  ·simp [X4]; omega
  ·simp only [a56,a3m]; omega
 ·simp only [cond_true,Option.bind_some]
  obtain ⟨x,t2,e2,ht2,hx⟩:=a9z hL ht
  have hw:=List.all_eq_true.1 b0K x hx
  simp only [Bool.and_eq_true,decide_eq_true_eq] at hw
  rw [e2]
  refine ⟨_,t2,rfl,ht2,?_,?_⟩
  ·simpa [X4] using hw.1
  ·simp only [a56,a3m]; omega
theorem a83 {γ σ τ:Type}{step:σ->Option (Fl σ τ)}(pack:γ->Int->Semtypebase_Source->σ)(out:γ->Semtypebase_Source->τ)(Inv:Nat->γ->Prop)(J:Nat)
 (hst:∀ (j n:Nat) (g:γ) (s:Semtypebase_Source),j<J->n<=J->Inv j g->OS L s->∃ g' s',step (pack g ((n+1:Nat):Int) s)=some (.next (pack g' (n:Int) s'))/\OS L s'/\Inv (j+1) g')
 (hend:∀ g s,step (pack g 0 s)=some (.done (out g s))) :
 ∀ (n j k:Nat) (g:γ) (s:Semtypebase_Source),j+n<=J->n+1<=k->Inv j g->OS L s->∃ g' s',y4 step k (pack g (n:Int) s)=some (out g' s')/\OS L s'/\Inv (j+n) g':=by
 intro n
 induction n with
 | zero =>
   intro j k g s _ hk hI hs
   obtain ⟨k,rfl⟩:∃ m,k=m+1:=⟨k-1,by omega⟩
   exact ⟨g,s,by have:=hend g s; simp [y4,this],hs,hI⟩
 | succ n ih =>
   intro j k g s hJ hk hI hs
   obtain ⟨k,rfl⟩:∃ m,k=m+1:=⟨k-1,by omega⟩
   obtain ⟨g1,s1,e,hs1,hI1⟩:=hst j n g s (by omega) (by omega) hI hs
   obtain ⟨g2,s2,e2,hs2,hI2⟩:=ih (j+1) k g1 s1 (by omega) (by omega) hI1 hs1
   refine ⟨g2,s2,?_,hs2,by rw [show j+(n+1)=j+1+n by omega]; exact hI2⟩
   simp only [y4,e,Option.bind_some]
   exact e2
def hb:Nat->Nat
 | 0=>32
 | h+1=>64+8*hb h
theorem c88 {h:Nat}(hh:h<=2):hb h<=2624:=by
 match h,hh with
 | 0,_=>decide
 | 1,_=>decide
 | 2,_=>decide
theorem c6I (h:Nat):32<=hb h:=by cases h<;>simp [hb]; omega
def c3G (b:Nat)(v:Val):Prop:=vOK v=true/\k8 v<=b
end
end Go.Pl
namespace Go.Pl
open Go Go.RowKit Go.Sx Go.Qx
theorem b5B (a b:List Val):a1z (a++b)=(a1z a&&a1z b):=by rw [a4c,a4c,a4c,List.all_append]
theorem b61:∀ (ks:List Key) (vs:List Val),b50 (ks.zip vs)<=w5 ks+k9 vs
 | [],_=>by simp [b50]
 | _::_,[]=>by simp [b50]
 | k::r,v::q=>by have:=b61 r q; simp only [List.zip_cons_cons,b50,w5,k9]; omega
theorem b7S (n:Nat)(h:n<=1000)(b:Nat)(hb:b<=1024):Y1 n b=some ():=Q9 (by
 have:n*b<=1000*1024:=Nat.mul_le_mul h hb
 omega)
section
variable {L:List Int}
theorem c6e (hL:L.length<=4194304){rv:Semtypebase_Source->Int->Option (Val×Semtypebase_Source)}{b:Nat}{h:Int}(hv:∀ s,OS L s->∃ v t,rv s h=some (v,t)/\OS L t/\c3G b v)
 (hb:b<=100000) (hb8:8<=b) (rx:Semtypebase_Source->Int->Option (Val×Semtypebase_Source)) (ry:Semtypebase_Source->Int->Int->Option (Ent×Semtypebase_Source)) (fuel:Nat) {n:Nat} (hn:n<=4) {s:Semtypebase_Source} (hs:OS L s) :
 ∃ e t,a3x fuel rv rx ry s (n:Int) h=some (e,t)/\OS L t/\eOK e=true/\a2I (n:Int) e=true/\a3X e<=n*b+b+3:=by
 obtain ⟨g,s1,e1,hs1,h1,h2,h3⟩:=a83 (L:=L) (step:=a1I h rv) (fun (g:List Val) (m:Int) (s:Semtypebase_Source)=>(m,s,(g,false,0,0,(⟨#[]⟩:ByteArray),([]:List Val),([]:List Key),([]:List Ent),([]:List ByteArray))))
  (fun (g:List Val) (s:Semtypebase_Source)=>(s,(g,false,0,0,(⟨#[]⟩:ByteArray),([]:List Val),([]:List Key),([]:List Ent),([]:List ByteArray)))) (fun j g=>g.length=j/\a1z g=true/\k9 g<=j*b) 4
  (by
    intro j m g s hj hm ⟨i1,i2,i3⟩ hs
    obtain ⟨v,t,e,ht,k1,k2⟩:=hv s hs
    refine ⟨g++[v],t,?_,ht,by simp [i1],by rw [b5B,i2]; simp [a1z,k1],?_⟩
    ·unfold a1I
     simp only [X1,Z2]
     rw [if_pos (decide_eq_true (by omega)),e]
     simp only [Option.bind_some]
     rw [b7S _ (by simp; omega) _ (by omega),K1 (by omega) (by omega)]
     simp only [Option.bind_some]
     rw [show ((m+1:Nat):Int)-1=(m:Int) by omega]
    ·rw [a1v]
     simp only [k9,Nat.add_mul]
     omega)
  (by
    intro g s
    unfold a1I
    simp) n 0 (n+2) [] s (by omega) (by omega) ⟨rfl,rfl,by simp [k9]⟩ hs
 obtain ⟨x,t,e2,ht,_,_⟩:=Y2 hL hs1 (n:=4) (by omega) (by omega)
 rw [Nat.zero_add] at h1 h3
 unfold a3x
 rw [show ((n:Int)).toNat=n by omega,e1]
 simp only [Option.bind_some]
 rw [e2]
 simp only [Option.bind_some]
 cases x==1
 ·simp only [cond_false]
  obtain ⟨v,t2,e3,ht2,k1,k2⟩:=hv t ht
  rw [e3]
  refine ⟨_,t2,rfl,ht2,by rw [b4t]; simp only [Ent.Args,Ent.Fails,Ent.Result]; rw [h2,k1]; rfl,?_,?_⟩
  ·simp [a2I,Ent.Args,Ent.Fails,h1]
  ·rw [a1q]
   simp only [Ent.Args,Ent.Result]
   omega
 ·simp only [cond_true]
  refine ⟨_,t,rfl,ht,by rw [b4t]; simp only [Ent.Args,Ent.Fails]; rw [h2]; rfl,?_,?_⟩
  ·simp [a2I,Ent.Args,Ent.Fails,Ent.Result,h1,c9x]
  ·rw [a1q]
   simp only [Ent.Args,Ent.Result]
   have:k8 (Val.mk 0 0 (⟨#[]⟩) [] [] [] [])=8:=by rw [V3]; rfl
   omega
theorem b2V {x:Int}{b:Int}(h0:0<=x)(h1:x<b):∃ n:Nat,x=(n:Int)/\(n:Int)<b:=⟨x.toNat,by omega,by omega⟩
theorem c6R (hL:L.length<=4194304){rv:Semtypebase_Source->Int->Option (Val×Semtypebase_Source)}{re:Semtypebase_Source->Int->Int->Option (Ent×Semtypebase_Source)}{h:Nat}(hh:h<=2)
 (hv:∀ s,OS L s->∃ v t,rv s ((h:Int)+1)=some (v,t)/\OS L t/\c3G (hb h) v)
 (hv2:1<=h->∀ s,OS L s->∃ v t,rv s (h:Int)=some (v,t)/\OS L t/\c3G (hb h) v)
 (he:∀ n:Nat,n<=4->∀ s,OS L s->∃ e t,re s (n:Int) ((h:Int)+1)=some (e,t)/\OS L t/\eOK e=true/\a2I (n:Int) e=true/\a3X e<=n*hb h+hb h+3)
 (rx:Semtypebase_Source->Int->Option (Val×Semtypebase_Source)) {fuel:Nat} (hf:40000<=fuel) {s:Semtypebase_Source} (hs:OS L s) :
 ∃ v t,a0T fuel rv rx re s ((h:Int)+2)=some (v,t)/\OS L t/\vOK v=true/\k8 v+8<=hb (h+1):=by
 have hb1:=c88 hh
 have hb2:=c6I h
 have hbs:hb (h+1)=64+8*hb h:=rfl
 have w1:w64 ((h:Int)+2-1)=(h:Int)+1:=by rw [K1 (by omega) (by omega)]; omega
 have w2:w64 ((h:Int)+2-2)=(h:Int):=by rw [K1 (by omega) (by omega)]; omega
 have wn:∀ m:Nat,m<=10->w64 (((m+1:Nat):Int)-1)=(m:Int):=fun m hm=>by rw [K1 (by omega) (by omega)]; omega
 have lf:∀ s,OS L s->∃ v t,J9 s=some (v,t)/\OS L t/\vOK v=true/\k8 v+8<=hb (h+1):=fun s hs=>by
  obtain ⟨v,t,e,ht,h1,h2⟩:=b4N hL hs
  exact ⟨v,t,e,ht,h1,by omega⟩
 obtain ⟨c,t,e,ht,_,_⟩:=Y2 hL hs (n:=6) (by omega) (by omega)
 unfold a0T
 have e0:decide ((h:Int)+2<=1)=false:=by simp; omega
 rw [e0,e]
 simp only [Option.bind_some,cond_false,Z2,w1,w2]
 cases c==1
 ·simp only [cond_false,Option.bind_some,k7]
  cases c==2
  ·simp only [cond_false,Option.bind_some,k7]
   cases c==3
   ·simp only [cond_false,Option.bind_some,k7]
    cases c==4
    ·simp only [cond_false,Option.bind_some,k7]
     obtain ⟨v,t2,e2,h2⟩:=lf t ht
     rw [e2]
     exact ⟨v,t2,rfl,h2⟩
    ·simp only [cond_true,Option.bind_some,k7]
     obtain ⟨x,t2,e2,ht2,x0,x1⟩:=Y2 hL ht (n:=3) (by omega) (by omega)
     obtain ⟨y,t3,e3,ht3,y0,y1⟩:=Y2 hL ht2 (n:=3) (by omega) (by omega)
     obtain ⟨n,rfl,hn⟩:=b2V x0 x1
     obtain ⟨m,rfl,hm⟩:=b2V y0 y1
     rw [e2]
     simp only [Option.bind_some]
     rw [e3]
     simp only [Option.bind_some]
     have hnb:n*hb h<=2*hb h:=Nat.mul_le_mul_right _ (by omega)
     obtain ⟨g,s1,e4,hs1,i1,i2,i3,i4⟩:=a83 (L:=L) (step:=a1G ((h:Int)+2) ((n:Int),t2) re) (fun (g:List Ent) (m:Int) (s:Semtypebase_Source)=>(g,m,s)) (fun (g:List Ent) (s:Semtypebase_Source)=>(g,s)) (fun j g=>g.length=j/\a4A g=true/\g.all (a2I (n:Int))=true/\w9 g<=j*(3*hb h+3)) 4
      (by
        intro j m g s hj hm ⟨i1,i2,i3,i4⟩ hs
        obtain ⟨v,t,e,ht,k1,k2,k3⟩:=he n (by omega) s hs
        refine ⟨g++[v],t,?_,ht,by simp [i1],by rw [a7O,List.all_append,<- a7O,i2]; simp [k1],by rw [List.all_append,i3]; simp [k2],?_⟩
        ·unfold a1G
         simp only [X1,Z2]
         rw [if_pos (decide_eq_true (by omega)),w1,e]
         simp only [Option.bind_some]
         rw [b7S _ (by simp; omega) _ (by omega),wn m (by omega)]
         rfl
        ·rw [b0M]
         simp only [w9,Nat.add_mul]
         omega)
      (by
        intro g s
        unfold a1G
        simp) m 0 (m+2) [] t3 (by omega) (by omega) ⟨rfl,rfl,rfl,by simp [w9]⟩ ht3
     simp only [Option.bind_some,Int.toNat_natCast]
     rw [e4]
     simp only [Option.bind_some]
     rw [Nat.zero_add] at i1 i4
     have hmb:m*(3*hb h+3)<=2*(3*hb h+3):=Nat.mul_le_mul_right _ (by omega)
     rw [b2O fuel (n:Int) g (by omega) (by omega),if_pos ⟨by omega,by omega,i3⟩]
     simp only [Option.bind_some]
     simp only [show ((0:Int)==0)=true from rfl,cond_true,Option.bind_some,k7]
     refine ⟨b6G (n:Int) (g.foldl a3J []),s1,rfl,hs1,?_,?_⟩
     ·rw [c9V]
      have a1:(g.foldl a3J []).all (a2I (n:Int))=true:=List.all_eq_true.2 fun y hy=>by
       rcases b0v g [] hy with hy | hy
       ·simp at hy
       ·exact List.all_eq_true.1 i3 y hy
      have a2:a4A (g.foldl a3J [])=true:=by
       rw [a7O]
       rw [a7O] at i2
       exact List.all_eq_true.2 fun y hy=>by
        rcases b0v g [] hy with hy | hy
        ·simp at hy
        ·exact List.all_eq_true.1 i2 y hy
      rw [a2]
      simp only [b2N,b6G,Val.Int_,Val.Entries]
      rw [a1,b55 g [] rfl]
      simp only [Bool.and_true,Bool.and_eq_true]
      exact ⟨decide_eq_true (by omega),decide_eq_true (by omega)⟩
     ·have:=a9j g []
      simp only [b6G,V3,a25,k9,w5]
      simp only [w9] at this
      omega
   ·simp only [cond_true,Option.bind_some,k7]
    obtain ⟨y,t3,e3,ht3,y0,y1⟩:=Y2 hL ht (n:=3) (by omega) (by omega)
    obtain ⟨m,rfl,hm⟩:=b2V y0 y1
    rw [e3]
    simp only [Option.bind_some]
    obtain ⟨g,s1,e4,hs1,i1,i2,i3,i4,i5,i6⟩:=a83 (L:=L) (step:=a1H ((h:Int)+2) rv) (fun (g:List Key×List Val) (m:Int) (s:Semtypebase_Source)=>(g.1,g.2,m,s)) (fun (g:List Key×List Val) (s:Semtypebase_Source)=>(g.1,g.2,s)) (fun j g=>g.1.length=j/\g.2.length=j/\g.1.all X4=true/\a1z g.2=true/\k9 g.2<=j*hb h/\w5 g.1<=j*8) 4
     (by
       intro j m g s hj hm ⟨i1,i2,i3,i4,i5,i6⟩ hs
       obtain ⟨k,t,e,ht,k1,k2⟩:=c9d hL hs
       obtain ⟨v,t2,e2,ht2,l1,l2⟩:=hv t ht
       refine ⟨(g.1++[k],g.2++[v]),t2,?_,ht2,by simp [i1],by simp [i2],by rw [List.all_append,i3]; simp [k1],by rw [b5B,i4]; simp [a1z,l1],?_,?_⟩
       ·unfold a1H
        simp only [X1,Z2]
        rw [if_pos (decide_eq_true (by omega)),e,w1]
        simp only [Option.bind_some]
        rw [b7S _ (by simp; omega) _ (by omega),e2]
        simp only [Option.bind_some]
        rw [b7S _ (by simp; omega) _ (by omega),wn m (by omega)]
        rfl
       ·rw [a1v]
        simp only [k9,Nat.add_mul]
        omega
       ·rw [a6z]
        simp only [w5,Nat.add_mul]
        omega)
     (by
       intro g s
       unfold a1H
       simp) m 0 (m+2) ([],[]) t3 (by omega) (by omega) ⟨rfl,rfl,rfl,rfl,by simp [k9],by simp [w5]⟩ ht3
    simp only [Int.toNat_natCast]
    rw [e4]
    simp only [Option.bind_some]
    rw [Nat.zero_add] at i1 i2 i5 i6
    have hmb:m*hb h<=2*hb h:=Nat.mul_le_mul_right _ (by omega)
    rw [b9j g.1 g.2 (by omega),if_pos ⟨by omega,i3⟩]
    simp only [Option.bind_some]
    cases hx:a5Y (g.1.zip g.2) ([],[]) with
    | none =>
      simp only [show ((6:Int)==0)=false from rfl,cond_false,Option.bind_some,k7]
      obtain ⟨v,t2,e2,h2⟩:=lf _ hs1
      rw [e2]
      exact ⟨v,t2,rfl,h2⟩
    | some u =>
      simp only
      simp only [show ((0:Int)==0)=true from rfl,cond_true,Option.bind_some,k7]
      obtain ⟨m1,m2,m3,m4,m5,m6⟩:=b1h _ _ _ hx rfl rfl
      have hz:=b61 g.1 g.2
      simp only [k9,w5] at m6
      refine ⟨b3K u,s1,rfl,hs1,?_,?_⟩
      ·rw [c9Y]
       have a1:u.2.all X4=true:=List.all_eq_true.2 fun y hy=>by
        rcases m4 y hy with hy | ⟨x,hx,rfl⟩
        ·simp at hy
        ·exact List.all_eq_true.1 i3 _ (List.of_mem_zip hx).1
       have a2:a1z u.1=true:=by
        rw [a4c]
        rw [a4c] at i4
        exact List.all_eq_true.2 fun y hy=>by
         rcases m5 y hy with hy | ⟨x,hx,rfl⟩
         ·simp at hy
         ·exact List.all_eq_true.1 i4 _ (List.of_mem_zip hx).2
       rw [a2]
       simp only [a8p,b3K,Val.Keys,Val.Kids]
       rw [a1,m1,m2]
       simp
      ·simp only [b3K,V3,a25,w9]
       omega
  ·simp only [cond_true,Option.bind_some,k7]
   have fin:∀ (tl v:Val),vOK tl=true->(tl.Kind=5\/tl.Kind=7)->k8 tl<=24+hb h->c3G (hb h) v ->
    vOK (Val.mk 7 0 (⟨#[]⟩) [v,tl] [] [] [])=true/\k8 (Val.mk 7 0 (⟨#[]⟩) [v,tl] [] [] [])+8<=hb (h+1):=by
    intro tl v ho hk hbt ⟨k1,k2⟩
    refine ⟨?_,?_⟩
    ·rw [c3F,k1,ho]
     rcases hk with hk | hk<;>simp [hk]
    ·rw [V3]
     simp only [a25,k9,w5,w9]
     omega
   have nilB:k8 (Val.mk 5 0 (⟨#[]⟩) [] [] [] [])=8:=by rw [V3]; rfl
   unfold X3 a5Q
   simp only [Option.bind_some]
   by_cases h2:1<=h
   ·have e5:decide (2<(h:Int)+2)=true:=by simp; omega
    obtain ⟨x,t2,e2,ht2,_,_⟩:=Y2 hL ht (n:=2) (by omega) (by omega)
    rw [e5,e2]
    simp only [Option.bind_some,cond_true]
    cases x==1
    ·simp only [Option.bind_some,cond_false]
     obtain ⟨l,t3,e3,ht3,l1,l2⟩:=b0J hL ht2
     rw [e3]
     simp only [Option.bind_some]
     obtain ⟨v,t5,e5,ht5,k5⟩:=hv t3 ht3
     rw [e5]
     exact ⟨_,t5,rfl,ht5,fin (a65 (Val.mk 5 0 (⟨#[]⟩) [] [] [] []) l) v (a9D b7z l1) (.inl rfl) (by have:=a6N (Val.mk 5 0 (⟨#[]⟩) [] [] [] []) l; omega) k5⟩
    ·simp only [Option.bind_some,cond_true]
     obtain ⟨v,t3,e3,ht3,k1,k2⟩:=hv2 h2 t2 ht2
     rw [e3]
     simp only [Option.bind_some]
     obtain ⟨l,t4,e4,ht4,l1,l2⟩:=b0J hL ht3
     have ho:vOK (Val.mk 7 0 (⟨#[]⟩) [v,Val.mk 5 0 (⟨#[]⟩) [] [] [] []] [] [] [])=true:=by rw [c3F,k1,b7z]; rfl
     have hbb:k8 (Val.mk 7 0 (⟨#[]⟩) [v,Val.mk 5 0 (⟨#[]⟩) [] [] [] []] [] [] [])<=16+hb h:=by
      rw [V3]
      simp only [a25,k9,w5,w9,nilB]
      omega
     rw [e4]
     simp only [Option.bind_some]
     obtain ⟨v5,t5,e5,ht5,k5⟩:=hv t4 ht4
     rw [e5]
     exact ⟨_,t5,rfl,ht5,fin (a65 (Val.mk 7 0 (⟨#[]⟩) [v,Val.mk 5 0 (⟨#[]⟩) [] [] [] []] [] [] []) l) v5 (a9D ho l1) (.inr rfl) (by have:=a6N (Val.mk 7 0 (⟨#[]⟩) [v,Val.mk 5 0 (⟨#[]⟩) [] [] [] []] [] [] []) l; omega) k5⟩
   ·have e5:decide (2<(h:Int)+2)=false:=by simp; omega
    rw [e5]
    simp only [Option.bind_some,cond_false]
    obtain ⟨l,t3,e3,ht3,l1,l2⟩:=b0J hL ht
    rw [e3]
    simp only [Option.bind_some]
    obtain ⟨v,t5,e5,ht5,k5⟩:=hv t3 ht3
    rw [e5]
    exact ⟨_,t5,rfl,ht5,fin (a65 (Val.mk 5 0 (⟨#[]⟩) [] [] [] []) l) v (a9D b7z l1) (.inl rfl) (by have:=a6N (Val.mk 5 0 (⟨#[]⟩) [] [] [] []) l; omega) k5⟩
 ·simp only [cond_true,Option.bind_some,k7]
  obtain ⟨y,t3,e3,ht3,y0,y1⟩:=Y2 hL ht (n:=4) (by omega) (by omega)
  obtain ⟨m,rfl,hm⟩:=b2V y0 y1
  rw [e3]
  simp only [Option.bind_some]
  obtain ⟨g,s1,e4,hs1,i1,i2,i3⟩:=a83 (L:=L) (step:=a1K ((h:Int)+2) rv) (fun (g:List Val) (m:Int) (s:Semtypebase_Source)=>(g,m,s)) (fun (g:List Val) (s:Semtypebase_Source)=>(g,s)) (fun j g=>g.length=j/\a1z g=true/\k9 g<=j*hb h) 4
   (by
     intro j m g s hj hm ⟨i1,i2,i3⟩ hs
     obtain ⟨v,t,e,ht,k1,k2⟩:=hv s hs
     refine ⟨g++[v],t,?_,ht,by simp [i1],by rw [b5B,i2]; simp [a1z,k1],?_⟩
     ·unfold a1K
      simp only [X1,Z2]
      rw [if_pos (decide_eq_true (by omega)),w1,e]
      simp only [Option.bind_some]
      rw [b7S _ (by simp; omega) _ (by omega),wn m (by omega)]
      rfl
     ·rw [a1v]
      simp only [k9,Nat.add_mul]
      omega)
   (by
     intro g s
     unfold a1K
     simp) m 0 (m+2) [] t3 (by omega) (by omega) ⟨rfl,rfl,by simp [k9]⟩ ht3
  simp only [Int.toNat_natCast]
  rw [e4]
  simp only [Option.bind_some]
  rw [Nat.zero_add] at i1 i3
  have hmb:m*hb h<=3*hb h:=Nat.mul_le_mul_right _ (by omega)
  unfold a3B a1j
  rw [b7S _ (by simp; omega) _ (by omega)]
  refine ⟨Val.mk 6 0 (⟨#[]⟩) g [] [] [],s1,rfl,hs1,?_,?_⟩
  ·rw [c1o,i2]
   simp
   omega
  ·rw [V3]
   simp only [a25,w5,w9]
   omega
theorem c9m (hL:L.length<=4194304):∀ (h k:Nat),h<=3->50000+3*h<=k->∀ s,OS L s->∃ v t,(j5 k).1 s ((h:Int)+1)=some (v,t)/\OS L t/\c3G (hb h) v:=by
 intro h
 induction h using Nat.strongRecOn with
 | ind h ih =>
   intro k hh hk s hs
   obtain ⟨k,rfl⟩:∃ m,k=m+2:=⟨k-2,by omega⟩
   have key:∃ v t,(j5 (k+1)).2.1 s ((h:Int)+1)=some (v,t)/\OS L t/\vOK v=true/\k8 v+8<=hb h:=by
    show ∃ v t,a0T k (j5 k).1 (j5 k).2.1 (j5 k).2.2 s ((h:Int)+1)=some (v,t)/\_
    cases h with
    | zero =>
      obtain ⟨v,t,e,ht,h1,h2⟩:=b4N hL hs
      refine ⟨v,t,?_,ht,h1,by simp only [hb]; omega⟩
      unfold a0T
      have e0:decide (((0:Nat):Int)+1<=1)=true:=rfl
      rw [e0,e]
      rfl
    | succ h =>
      have:=c6R hL (h:=h) (by omega) (rv:=(j5 k).1) (re:=(j5 k).2.2) (fun s hs=>ih h (by omega) k (by omega) (by omega) s hs)
       (fun h1 s hs=>by
         obtain ⟨h,rfl⟩:∃ m,h=m+1:=⟨h-1,by omega⟩
         obtain ⟨v,t,e,ht,k1,k2⟩:=ih h (by omega) k (by omega) (by omega) s hs
         exact ⟨v,t,e,ht,k1,by simp only [hb]; omega⟩)
       (fun n hn s hs=>by
         obtain ⟨p,rfl⟩:∃ m,k=m+1:=⟨k-1,by omega⟩
         have hb1:=c88 (show h<=2 by omega)
         have hb2:=c6I h
         exact c6e hL (rv:=(j5 p).1) (b:=hb h) (fun s hs=>ih h (by omega) p (by omega) (by omega) s hs) (by omega) (by omega) (j5 p).2.1 (j5 p).2.2 p hn hs)
       (j5 k).2.1 (fuel:=k) (by omega) hs
      rw [show (((h+1:Nat):Int))+1=(h:Int)+2 by omega]
      exact this
   obtain ⟨v,t,e,ht,h1,h2⟩:=key
   obtain ⟨l,t2,e2,ht2,l1,l2⟩:=b0J hL ht
   show ∃ v t,a3v (k+1) (j5 (k+1)).1 (j5 (k+1)).2.1 (j5 (k+1)).2.2 s ((h:Int)+1)=some (v,t)/\_
   unfold a3v
   rw [e]
   simp only [Option.bind_some]
   rw [e2]
   have:=a6N v l
   exact ⟨a65 v l,t2,rfl,ht2,a9D h1 l1,by omega⟩
end
end Go.Pl
end
section
namespace Go.Pl
open Go Go.RowKit Go.Sx Go.Qx
def b3k {α:Type}(c:α->α->Int)(q:α->Bool)(l:List α)(i:Nat):Bool :=
 match l[i]? with
 | some x=>q x&&(match i with
   | 0=>true
   | j+1=>match l[j]? with
     | some y=>decide (c y x<0)
     | none=>true)
 | none=>true
theorem c2B {α:Type}(c:α->α->Int)(q:α->Bool)(l:List α):(List.range l.length).all (b3k c q l)=(asc c l&&l.all q):=by
 rw [Bool.eq_iff_iff,Bool.and_eq_true,b4Q,List.all_eq_true,List.all_eq_true]
 constructor
 ·intro h
  refine ⟨fun i h1 hi=>?_,fun x hx=>?_⟩
  ·obtain ⟨j,rfl⟩:∃ m,i=m+1:=⟨i-1,by omega⟩
   have:=h (j+1) (by simpa using hi)
   unfold b3k at this
   rw [List.getElem?_eq_getElem hi] at this
   simp only [Bool.and_eq_true] at this
   have h2:=this.2
   rw [List.getElem?_eq_getElem (show j<l.length by omega)] at h2
   simpa using h2
  ·obtain ⟨i,hi,rfl⟩:=List.getElem_of_mem hx
   have:=h i (by simpa using hi)
   unfold b3k at this
   rw [List.getElem?_eq_getElem hi] at this
   simp only [Bool.and_eq_true] at this
   exact this.1
 ·intro ⟨h1,h2⟩ i hi
  have hi:i<l.length:=by simpa using hi
  unfold b3k
  rw [List.getElem?_eq_getElem hi]
  simp only [Bool.and_eq_true]
  refine ⟨h2 _ (List.getElem_mem hi),?_⟩
  cases i with
  | zero=>rfl
  | succ j =>
    simp only
    rw [List.getElem?_eq_getElem (show j<l.length by omega)]
    have:=h1 (j+1) (by omega) hi
    simpa using this
theorem b7L {α β:Type}{step:Int->Option (Fl Int (Sum Unit β))}(c:α->α->Int)(q:α->Bool)(l:List α)(b:β)
 (hst:∀ (i:Nat) (x:α),l[i]?=some x->step (i:Int)=some (if b3k c q l i=true then .next ((i+1:Nat):Int) else .done (.inr b)))
 (hend:step (l.length:Int)=some (.done (.inl ()))):y4 step (l.length+1) 0=some (if (asc c l&&l.all q)=true then .inl () else .inr b):=by
 have:=W8 (step:=step) (List.range l.length) (b3k c q l) (fun i=>(i:Int)) () b (fun i x hx=>by
  have hi:i<l.length:=by have:=(List.getElem?_eq_some_iff.1 hx).1; simpa using this
  have e:x=i:=by
   rw [List.getElem?_range hi] at hx
   cases hx; rfl
  subst e
  exact hst x _ (List.getElem?_eq_getElem hi)) (by rw [List.length_range]; exact hend)
 rw [List.length_range,c2B] at this
 exact this
theorem b4h {α:Type}(c:α->α->Int)(q:α->Bool)(l:List α)(i:Nat)(x:α)(hx:l[i]?=some x)(hl:l.length<=4194304){o:Option (Fl Int (Sum Unit Bool))}
 (h0:q x=false->o=some (.done (.inr false)))
 (h1:q x=true->i=0->o=some (.next (w64 ((i:Int)+1))))
 (h2:q x=true->∀ j y,i=j+1->l[j]?=some y->idx l (w64 ((i:Int)-1))=some y->o=some (if c y x<0 then .next (w64 ((i:Int)+1)) else .done (.inr false))) :
 o=some (if b3k c q l i=true then .next ((i+1:Nat):Int) else .done (.inr false)):=by
 have hi:i<l.length:=(List.getElem?_eq_some_iff.1 hx).1
 have hw:=j9 i (by omega)
 unfold b3k
 rw [hx]
 cases hq:q x
 ·rw [h0 hq]; simp [hq]
 ·cases i with
  | zero=>rw [h1 hq rfl,hw]; simp [hq]
  | succ j =>
    have hy:=List.getElem?_eq_getElem (show j<l.length by omega)
    have hj:w64 (((j+1:Nat):Int)-1)=(j:Int):=by rw [K1 (by omega) (by omega)]; omega
    rw [h2 hq j _ rfl hy (by rw [hj]; exact j6 hy),hw]
    simp only [hy]
    by_cases hc:c l[j] x<0<;>simp [hq,hc]
theorem c6m (a b:ByteArray):a2P a b=decide (cS a b<0):=by
 rcases a7S a b with ⟨h,_,e⟩ | ⟨h,_,e⟩ | ⟨h,_,e⟩<;>simp [h,e]
theorem c2d (i:Nat):decide (0<(((i+1:Nat)):Int))=true:=decide_eq_true (by omega)
theorem c3K (l:List Val):(bif ((l.length:Int)==2) then Option.bind (idx l 1) fun x=>Option.bind (bif (x.Kind==5) then some true else Option.bind (idx l 1) fun y=>some (y.Kind==7)) fun q=>some q else some false)=some (a7m l):=by
 unfold a7m
 match l with
 | []=>rfl
 | [_]=>rfl
 | [x,t] =>
   have e2:((([x,t]:List Val).length:Int)==2)=true:=rfl
   rw [e2]
   have:idx [x,t] 1=some t:=rfl
   simp only [cond_true,this,Option.bind_some]
   cases t.Kind==5<;>rfl
 | _::_::_::r =>
   rename_i a b c
   have:((((a::b::c::r:List Val)).length:Int)==2)=false:=by simp; omega
   rw [this]; rfl
theorem c3Z (fuel:Nat)(v:Val)(hf:2*k8 v<=fuel+2)(hb:k8 v<=4194304):a5K fuel v=some (a1F v):=by
 have he:=a03 v
 have hs:=a4d v.Labels
 have hk:=a5a v.Keys
 have hn:=a29 v.Entries
 have l1:y4 (a4l v) (v.Labels.length+1) 0=some (if (asc cS v.Labels&&v.Labels.all a5O)=true then .inl () else .inr false):=by
  refine b7L cS a5O v.Labels false ?_ ?_
  ·intro i x hx
   have hi:i<v.Labels.length:=(List.getElem?_eq_some_iff.1 hx).1
   unfold a4l
   simp only [X1,Z2]
   rw [if_pos (by simp; omega),j6 hx]
   simp only [Option.bind_some,b92]
   refine b4h cS a5O v.Labels i x hx (by omega) (fun h=>by rw [h]; rfl) (fun h h0=>by subst h0; rw [h]; rfl) (fun h j y hj hy hiy=>?_)
   subst hj
   rw [h,hiy,c2d]
   simp only [Bool.not_true,Bool.false_eq_true,if_false,if_true,Option.bind_some]
   rw [c6m]
   by_cases hc:cS y x<0<;>simp [hc]
  ·unfold a4l
   simp
 have l2:y4 (a4n v) (v.Keys.length+1) 0=some (if (asc cK v.Keys&&v.Keys.all X4)=true then .inl () else .inr false):=by
  refine b7L cK X4 v.Keys false ?_ ?_
  ·intro i x hx
   have hi:i<v.Keys.length:=(List.getElem?_eq_some_iff.1 hx).1
   unfold a4n
   simp only [X1,Z2]
   rw [if_pos (by simp; omega),j6 hx]
   simp only [Option.bind_some,b5T]
   refine b4h cK X4 v.Keys i x hx (by omega) (fun h=>by rw [h]; rfl) (fun h h0=>by subst h0; rw [h]; rfl) (fun h j y hj hy hiy=>?_)
   subst hj
   rw [h,hiy,c2d]
   simp only [Bool.not_true,Bool.false_eq_true,if_false,if_true,Option.bind_some,a9G]
   by_cases hc:cK y x<0
   ·have:¬ 0<=cK y x:=by omega
    simp [hc,this]
   ·have:0<=cK y x:=by omega
    simp [hc,this]
  ·unfold a4n
   simp
 have l3:y4 (a4m v fuel) (v.Entries.length+1) 0=some (if (asc cE v.Entries&&v.Entries.all (a2I v.Int_))=true then .inl () else .inr false):=by
  refine b7L cE (a2I v.Int_) v.Entries false ?_ ?_
  ·intro i x hx
   have hi:i<v.Entries.length:=(List.getElem?_eq_some_iff.1 hx).1
   have hm:=X6 (List.mem_of_getElem? hx)
   have hbe:=a1q x
   unfold a4m a3F
   simp only [X1,Z2]
   rw [if_pos (by simp; omega),j6 hx]
   simp only [Option.bind_some]
   rw [show Val.mk 0 0 (⟨#[]⟩:ByteArray) ([]:List Val) ([]:List Key) ([]:List Ent) ([]:List ByteArray)=a6q from rfl,(a5u fuel).1 x.Result a6q (by omega) (by omega)]
   simp only [Option.bind_some]
   have hq:(Option.bind (if ((x.Args.length:Int) != v.Int_)=true then some true else Option.bind (if x.Fails=true then some (!(cV x.Result a6q==0)) else some false) fun q=>some q) fun q=>some q)=some (!(a2I v.Int_ x)):=by
    unfold a2I
    have e0:((x.Args.length:Int) != v.Int_)=!((x.Args.length:Int)==v.Int_):=rfl
    rw [e0]
    cases ((x.Args.length:Int)==v.Int_)<;>cases x.Fails<;>cases (cV x.Result a6q==0)<;>rfl
   rw [W7] at hq
   simp only [W7] at hq ⊢
   rw [hq]
   simp only [Option.bind_some]
   refine b4h cE (a2I v.Int_) v.Entries i x hx (by omega) (fun h=>by rw [h]; rfl) (fun h h0=>by subst h0; rw [h]; rfl) (fun h j y hj hy hiy=>?_)
   subst hj
   have hmy:=X6 (List.mem_of_getElem? hy)
   have hc:Z9 fuel y x=some (cE y x):=(a5u fuel).2.2 y x (by omega) (by omega)
   rw [h,hiy,c2d]
   simp only [Bool.not_true,Bool.false_eq_true,if_false,if_true,Option.bind_some,hc]
   by_cases hc:cE y x<0
   ·have:¬ 0<=cE y x:=by omega
    simp [hc,this]
   ·have:0<=cE y x:=by omega
    simp [hc,this]
  ·unfold a4m
   simp
 unfold a5K
 simp only [Z5,W7]
 rw [l1,l2,l3,b3G]
 have hcons:=c3K v.Kids
 simp only [W7] at hcons
 rw [hcons]
 simp only [Option.bind_some,b68]
 unfold a1F a0Y
 cases hlab:(asc cS v.Labels&&v.Labels.all a5O)
 ·rfl
 have h6:decide ((v.Kids.length:Int)<=4)=decide (v.Kids.length<=4):=by
  by_cases h:v.Kids.length<=4
  ·simp [h]; omega
  ·simp [h]; omega
 have hm:a8p v=(decide (v.Keys.length=v.Kids.length)&&(asc cK v.Keys&&v.Keys.all X4)):=by
  unfold a8p
  by_cases h:v.Keys.length=v.Kids.length<;>simp [h]
 have hm2:((v.Keys.length:Int)==(v.Kids.length:Int))=decide (v.Keys.length=v.Kids.length):=by
  by_cases h:v.Keys.length=v.Kids.length
  ·simp [h]
  ·simp [h]; omega
 have hfu:b2N v=(!decide (v.Int_<0)&&!decide (4<v.Int_)&&(asc cE v.Entries&&v.Entries.all (a2I v.Int_))):=by
  unfold b2N
  by_cases h1:v.Int_<0<;>by_cases h2:4<v.Int_
  ·omega
  ·have:¬ 0<=v.Int_:=by omega
   simp [h1,this]
  ·have:¬ v.Int_<=4:=by omega
   simp [h2,this]
  ·have a:0<=v.Int_:=by omega
   have b:v.Int_<=4:=by omega
   simp [h1,h2,a,b]
 have hi:(v.Int_ != 0)=!(v.Int_==0):=rfl
 rw [hm2,hi,h6]
 simp only [k7,if_true]
 unfold a3A a3h
 rw [hm,hfu]
 generalize (asc cE v.Entries&&v.Entries.all (a2I v.Int_))=f
 generalize (asc cK v.Keys&&v.Keys.all X4)=k
 generalize decide (v.Keys.length=v.Kids.length)=m
 generalize decide (v.Int_<0)=p
 generalize decide (4<v.Int_)=r
 generalize Q4 v.Text ⟨#[]⟩=t
 generalize v.Keys.isEmpty=y
 generalize v.Entries.isEmpty=e
 generalize v.Kids.isEmpty=d
 generalize (v.Int_==0)=i
 generalize a35 v.Text=a
 generalize decide ((v.Text.size:Int)<=64)=z
 generalize a7m v.Kids=c
 generalize decide (0<=v.Int_)=g
 generalize decide (v.Kids.length<=4)=n
 by_cases hk:v.Kind=1\/v.Kind=2\/v.Kind=3\/v.Kind=4\/v.Kind=5\/v.Kind=6\/v.Kind=7\/v.Kind=8\/v.Kind=9
 ·rcases hk with h | h | h | h | h | h | h | h | h<;>rw [h]<;>cases i<;>cases t<;>cases d<;>cases y<;>cases e<;>simp
  all_goals first
   | rfl
   | (cases k<;>cases m<;>simp)
   | (cases p<;>cases r<;>cases f<;>simp)
 ·simp only [not_or] at hk
  obtain ⟨h1,h2,h3,h4,h5,h6',h7,h8,h9⟩:=hk
  have e1:(v.Kind==1)=false:=by simpa using h1
  have e2:(v.Kind==2)=false:=by simpa using h2
  have e3:(v.Kind==3)=false:=by simpa using h3
  have e4:(v.Kind==4)=false:=by simpa using h4
  have e5:(v.Kind==5)=false:=by simpa using h5
  have e6:(v.Kind==6)=false:=by simpa using h6'
  have e7:(v.Kind==7)=false:=by simpa using h7
  have e8:(v.Kind==8)=false:=by simpa using h8
  have e9:(v.Kind==9)=false:=by simpa using h9
  simp only [bne,e1,e2,e3,e4,e5,e6,e7,e8,e9,if_neg h1,if_neg h2,if_neg h3,if_neg h4,if_neg h5,if_neg h6',if_neg h7,if_neg h8,if_neg h9]
  cases i<;>cases t<;>cases d<;>cases y<;>cases e<;>rfl
theorem b1E:∀ (k:Nat) (v:Val),2*k8 v<=k->k8 v<=4194304->a0a k v=some (vOK v)
 | 0,v,h,_=>by have:=a7Y v; omega
 | k+1,v,h,hb=>by
   have he:=a03 v
   have hv:=a1Z v.Kids
   have hn:=a29 v.Entries
   have hrec:∀ x,k8 x<k8 v->a0a k x=some (vOK x):=fun x hx=>b1E k x (by omega) (by omega)
   show a6c k (a0a k) v=_
   unfold a6c
   rw [c3Z k v (by omega) hb,b3T,a4c,a7O]
   simp only [Option.bind_some,Z5]
   have l1:y4 (a3I v (a0a k)) (v.Kids.length+1) 0=some (if v.Kids.all vOK=true then .inl () else .inr false):=by
    refine W8 v.Kids vOK (fun i=>(i:Int)) () false ?_ ?_
    ·intro i x hx
     have hi:i<v.Kids.length:=(List.getElem?_eq_some_iff.1 hx).1
     have hm:=a0M (List.mem_of_getElem? hx)
     unfold a3I
     simp only [Z2]
     rw [show decide ((i:Int)<(v.Kids.length:Int))=true by simp; omega,j6 hx]
     simp only [cond_true,Option.bind_some]
     rw [hrec x (by omega),j9 i (by omega)]
     exact a2Y _ _
    ·unfold a3I
     simp
   have l2:y4 (a3H v (a0a k)) (v.Entries.length+1) 0=some (if v.Entries.all eOK=true then .inl () else .inr false):=by
    refine W8 v.Entries eOK (fun i=>(i:Int)) () false ?_ ?_
    ·intro i x hx
     have hi:i<v.Entries.length:=(List.getElem?_eq_some_iff.1 hx).1
     have hm:=X6 (List.mem_of_getElem? hx)
     have hbe:=a1q x
     have hal:=a1Z x.Args
     unfold a3H
     simp only [Z2,Z5]
     rw [show decide ((i:Int)<(v.Entries.length:Int))=true by simp; omega,j6 hx]
     simp only [cond_true,Option.bind_some]
     have l3:y4 (a3N (a0a k) x) (x.Args.length+1) 0=some (if x.Args.all vOK=true then .inl () else .inr false):=by
      refine W8 x.Args vOK (fun i=>(i:Int)) () false ?_ ?_
      ·intro j y hy
       have hj:j<x.Args.length:=(List.getElem?_eq_some_iff.1 hy).1
       have hmy:=a0M (List.mem_of_getElem? hy)
       unfold a3N
       simp only [Z2]
       rw [show decide ((j:Int)<(x.Args.length:Int))=true by simp; omega,j6 hy]
       simp only [cond_true,Option.bind_some]
       rw [hrec y (by omega),j9 j (by omega)]
       exact a2Y _ _
      ·unfold a3N
       simp
     rw [l3,hrec x.Result (by omega),b4t,a4c,j9 i (by omega)]
     simp only [Option.bind_some]
     cases x.Args.all vOK<;>cases x.Fails<;>cases vOK x.Result<;>rfl
    ·unfold a3H
     simp
   rw [l1,l2]
   cases a1F v<;>cases v.Kids.all vOK<;>cases v.Entries.all eOK<;>rfl
end Go.Pl
end

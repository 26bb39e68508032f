/- Part 3. -/
import Derived.Test.YtlapkakgkamkoaaGreatK2
import Derived.KernelRfl
import Derived.Lib.Bytealg
section
namespace Go.Qx
open Go Go.RowKit Go.Sx
set_option maxRecDepth 100000
structure Api_Field where
 Key_:Key
 Node:Int
 Optional:Bool
structure Api_TypeNode where
 Kind:Int
 Lo:Int
 Hi:Int
 Text:ByteArray
 Kids:List Int
 Fields:List Api_Field
 Rest:Int×Int
structure Api_Type where
 Nodes:List Api_TypeNode
 Root:Int
structure Api_Names where
 Cofinite:Bool
 List_:List ByteArray
structure Api_Range where
 Lo:Int
 Hi:Int
structure Api_Line where
 Kind:Int
 Arity:Int
 Ints:List Api_Range
 Names:Api_Names
 Pos:List Int
 Neg:List Int
 Vars:List ByteArray
 NotVars:List ByteArray
structure Semtypebase_Source where
 L:List Int
 At:Int
structure Api_Goal where
 Pos:List Int
 Neg:List Int
 Lists:Bool
structure Api_Box where
 Parts:List Api_Goal
structure Value_used where
 number:Bool
 text_:Bool
 kids:Bool
 keys:Bool
 entries:Bool
def a50 (x y:Int×Int):Bool:=((x.1==y.1)&&((x.2==y.2)&&true))
def a4n (x y:Key):Bool:=((x.Kind==y.Kind)&&((V4 x.Text y.Text)&&true))
def a1B (l:List (List Int))(x1:Int):Option (Fl Int (Sum Unit Bool)) :=
 bif decide (x1<(l.length:Int))
 then (Option.bind (idx l x1) fun e2 =>
 bif decide (80<(e2.length:Int))
 then (some (.done (.inr false)))
 else (some (.next (wr .i64 (x1+1)))))
 else (some (.done (.inl ())))
def a3O (l:List (List Int)):Option Bool :=
 Option.bind (y4 (a1B l) ((l.length:Int).toNat+1) 0) fun b3 =>
 k9 (fun _ =>
 some true) (fun y5 =>
 some y5) b3
def a0W (s:List (List Int))(f:(List Int)->Option Bool)(x1:Int):Option (Fl Int (Sum Unit Int)) :=
 bif decide (x1<(s.length:Int))
 then (Option.bind (idx s x1) fun e2 =>
 Option.bind (f e2) fun r3 =>
 bif r3
 then (some (.done (.inr x1)))
 else (some (.next (wr .i64 (x1+1)))))
 else (some (.done (.inl ())))
def a2S (s:List (List Int))(f:(List Int)->Option Bool):Option Int :=
 Option.bind (y4 (a0W s f) ((s.length:Int).toNat+1) 0) fun b4 =>
 k9 (fun _ =>
 some (-1)) (fun y6 =>
 some y6) b4
def a0Z (s:List (List Int))(f:(List Int)->Option Bool):Option Bool :=
 Option.bind (a2S s f) fun r1 =>
 some (decide (0<=r1))
def a7Z (r:List Int)(a1_1:Int):Option Bool :=
 some ((r.length:Int) != a1_1)
def a4k (width:Int)(rows:List (List Int)):Option Bool :=
 Option.bind (a0Z rows (fun z1 =>
 Option.bind (a7Z z1 width) fun r2 =>
 some r2)) fun r3 =>
 some (!r3)
def a1d (s:List Int)(f:Int->Option Bool)(x1:Int):Option (Fl Int (Sum Unit Int)) :=
 bif decide (x1<(s.length:Int))
 then (Option.bind (idx s x1) fun e2 =>
 Option.bind (f e2) fun r3 =>
 bif r3
 then (some (.done (.inr x1)))
 else (some (.next (wr .i64 (x1+1)))))
 else (some (.done (.inl ())))
def a3f (s:List Int)(f:Int->Option Bool):Option Int :=
 Option.bind (y4 (a1d s f) ((s.length:Int).toNat+1) 0) fun b4 =>
 k9 (fun _ =>
 some (-1)) (fun y6 =>
 some y6) b4
def Q9 (s:List Int)(f:Int->Option Bool):Option Bool :=
 Option.bind (a3f s f) fun r1 =>
 some (decide (0<=r1))
def a16 (s:List Int)(v:Int)(x1:Int):Option (Fl Int (Sum Unit Int)) :=
 bif decide (x1<(s.length:Int))
 then (Option.bind (idx s x1) fun e2 =>
 bif v==e2
 then (some (.done (.inr x1)))
 else (some (.next (wr .i64 (x1+1)))))
 else (some (.done (.inl ())))
def a4A (s:List Int)(v:Int):Option Int :=
 Option.bind (y4 (a16 s v) ((s.length:Int).toNat+1) 0) fun b3 =>
 k9 (fun _ =>
 some (-1)) (fun y5 =>
 some y5) b3
def a15 (s:List Int)(v:Int):Option Bool :=
 Option.bind (a4A s v) fun r1 =>
 some (decide (0<=r1))
def a6Z (x:Int)(a1_1:List Int):Option Bool :=
 Option.bind (a15 a1_1 x) fun r1 =>
 some r1
def a58 (a:List Int)(b:List Int):Option Bool :=
 Option.bind (Q9 a (fun z1 =>
 Option.bind (a6Z z1 b) fun r2 =>
 some r2)) fun r3 =>
 some r3
def a0a (x1:(List Int)×Int)(x16:(Int×Int)×List Int):Option (Fl ((Int×Int)×List Int) (Int×List Int)) :=
 bif decide (x16.1.2<((x16.2.drop x1.2.toNat).length:Int))
 then (Option.bind (idx (x16.2.drop x1.2.toNat) x16.1.2) fun _ =>
 Option.bind (x16.2[(x1.2.toNat+x16.1.2.toNat)]?) fun e18 =>
 Option.bind (idx (x16.2.drop x1.2.toNat) (wr .i64 (x16.1.2-1))) fun _ =>
 Option.bind (x16.2[(x1.2.toNat+(wr .i64 (x16.1.2-1)).toNat)]?) fun e20 =>
 bif e18 != e20
 then (Option.bind (idx (x16.2.drop x1.2.toNat) x16.1.2) fun _ =>
 Option.bind (x16.2[(x1.2.toNat+x16.1.2.toNat)]?) fun e22 =>
 Option.bind (idx x16.2 x16.1.1) fun _ =>
 Option.bind (x16.2[x16.1.1.toNat]?) fun _ =>
 some (.next ((wr .i64 (x16.1.1+1),wr .i64 (x16.1.2+1)),x16.2.set x16.1.1.toNat e22)))
 else (some (.next ((x16.1.1,wr .i64 (x16.1.2+1)),x16.2))))
 else (some (.done (x16.1.1,x16.2)))
def a0J (x1:(List Int)×Int):Option (Fl ((List Int)×Int) (Sum (List Int) (List Int))) :=
 bif decide (x1.2<(x1.1.length:Int))
 then (Option.bind (idx x1.1 x1.2) fun _ =>
 Option.bind (x1.1[x1.2.toNat]?) fun e3 =>
 Option.bind (idx x1.1 (wr .i64 (x1.2-1))) fun _ =>
 Option.bind (x1.1[(wr .i64 (x1.2-1)).toNat]?) fun e5 =>
 bif e3==e5
 then (Option.bind (idx x1.1 x1.2) fun _ =>
 Option.bind (y4 (a0a x1) (((x1.1.drop x1.2.toNat).length:Int).toNat+1) ((x1.2,1),x1.1)) fun b25 =>
 Option.bind (idx b25.2 b25.1) fun _ =>
 bif Nat.blt b25.1.toNat b25.2.length
 then (Option.bind (cut (b25.2.take b25.1.toNat++List.replicate (b25.2.length-b25.1.toNat) (0:Int)) 0 b25.1) fun y27 =>
 some (.done (.inr y27)))
 else (none))
 else (some (.next (x1.1,wr .i64 (x1.2+1)))))
 else (some (.done (.inl x1.1)))
def a2n (s:List Int):Option (List Int) :=
 bif decide ((s.length:Int)<2)
 then (some s)
 else (Option.bind (y4 a0J ((s.length:Int).toNat+1) (s,1)) fun b28 =>
 k9 (fun x29 =>
 some x29) (fun y30 =>
 some y30) b28)
def a4Q (s:List Int):Option (List Int) :=
 bif (s.length:Int)==(s.length:Int)&&(s.length:Int)==(s.length:Int)
 then (some s)
 else (none)
def a5T (l:List Int):Option (List Int) :=
 Option.bind (a4G 8 l) fun r1 =>
 Option.bind (b9s r1) fun r2 =>
 Option.bind (a2n r2.2) fun r3 =>
 Option.bind (a4Q r3) fun r4 =>
 some r4
def a8e (g:Api_Goal):Option Api_Goal :=
 Option.bind (a5T g.Pos) fun r1 =>
 Option.bind (a5T g.Neg) fun r2 =>
 some (Api_Goal.mk r1 r2 g.Lists)
def a36 (t:List (List Int))(x1:Int×(List Api_Goal)×(List Api_Goal))(x2:Int×((List Int)×(List Int)×Bool)):Option (Fl (Int×((List Int)×(List Int)×Bool)) ((List Int)×(List Int)×Bool)) :=
 bif decide (x2.1<(t.length:Int))
 then (Option.bind (idx t x2.1) fun e3 =>
 Option.bind (idx e3 x1.1) fun e4 =>
 Option.bind (Z4 (x2.2.1.length+([e4]:List Int).length) 8) fun _ =>
 some (.next (wr .i64 (x2.1+1),(x2.2.1++([e4]:List Int),x2.2.2.1,x2.2.2.2))))
 else (some (.done (x2.2.1,x2.2.2.1,x2.2.2.2)))
def a37 (a2_2:List (List Int))(a3_3:List (List Int))(a4_4:List Int)(x1:Int×(List Api_Goal)×(List Api_Goal))(x7:Int×((List Int)×(List Int)×Bool)):Option (Fl (Int×((List Int)×(List Int)×Bool)) ((List Int)×(List Int)×Bool)) :=
 bif decide (x7.1<(a2_2.length:Int))
 then (Option.bind (idx a2_2 x7.1) fun e8 =>
 Option.bind (idx a3_3 x7.1) fun e9 =>
 Option.bind (idx a4_4 x7.1) fun _ =>
 Option.bind (a4_4[x7.1.toNat]?) fun e11 =>
 Option.bind (idx e9 e11) fun e12 =>
 bif e12==x1.1
 then (Option.bind (idx e8 x1.1) fun e13 =>
 Option.bind (Z4 (x7.2.2.1.length+([e13]:List Int).length) 8) fun _ =>
 some (.next (wr .i64 (x7.1+1),(x7.2.1,x7.2.2.1++([e13]:List Int),x7.2.2.2))))
 else (some (.next (wr .i64 (x7.1+1),(x7.2.1,x7.2.2.1,x7.2.2.2)))))
 else (some (.done (x7.2.1,x7.2.2.1,x7.2.2.2)))
def a2c (d:Int)(t:List (List Int))(a2_2:List (List Int))(a3_3:List (List Int))(a4_4:List Int)(x1:Int×(List Api_Goal)×(List Api_Goal)):Option (Fl (Int×(List Api_Goal)×(List Api_Goal)) (Sum ((List Api_Goal)×(List Api_Goal)) (Bool×(List Api_Goal)×Unit))) :=
 bif decide (x1.1<d)
 then (Option.bind (y4 (a36 t x1) ((t.length:Int).toNat+1) (0,([],[],false))) fun b6 =>
 Option.bind (y4 (a37 a2_2 a3_3 a4_4 x1) ((a2_2.length:Int).toNat+1) (0,(b6.1,b6.2.1,b6.2.2))) fun b15 =>
 Option.bind (a58 b15.1 b15.2.1) fun r16 =>
 bif r16
 then (some (.done (.inr (false,x1.2.2,()))))
 else (Option.bind (a8e (Api_Goal.mk b15.1 b15.2.1 b15.2.2)) fun r17 =>
 Option.bind (Z4 (x1.2.2.length+([r17]:List Api_Goal).length) 56) fun _ =>
 some (.next (wr .i64 (x1.1+1),x1.2.1,x1.2.2++([r17]:List Api_Goal)))))
 else (some (.done (.inl (x1.2.1,x1.2.2))))
def a8h (d:Int)(t:List (List Int))(a2_2:List (List Int))(a3_3:List (List Int))(a4_4:List Int):Option ((List Api_Goal)×Bool) :=
 Option.bind (y4 (a2c d t a2_2 a3_3 a4_4) (d.toNat+1) (0,[],[])) fun (b19:Sum ((List Api_Goal)×(List Api_Goal)) (Bool×(List Api_Goal)×Unit)) =>
 k9 (fun x20 =>
 some (x20.2,true)) (fun y21 =>
 some (y21.2.1,y21.1)) b19
def a68 (a0:Int)(a1:List (List Int))(a2:List (List Int))(a3:List (List Int))(a4:List Int):Option (Api_Box×Bool) :=
 Option.bind (a8h a0 a1 a2 a3 a4) fun q=>some (Api_Box.mk q.1,q.2)
def b0r (g:Api_Goal):Api_Goal:=Api_Goal.mk g.Pos g.Neg true
def a3h (b:Api_Box):Api_Box:=match b.Parts with
 | d0::d1::r=>Api_Box.mk (d0::b0r d1::r)
 | _=>b
def a4P (b:Api_Box):Bool:=Nat.ble 2 b.Parts.length
def X5 (digits:List Int)(options:List (List Int))(x11:Int×List Int):Option (Fl (Int×List Int) (Sum (Unit×List Int) (Bool×List Int))) :=
 bif decide (x11.1<(digits.length:Int))
 then (Option.bind (idx x11.2 x11.1) fun _ =>
 Option.bind (x11.2[x11.1.toNat]?) fun e13 =>
 Option.bind (idx x11.2 x11.1) fun _ =>
 Option.bind (x11.2[x11.1.toNat]?) fun _ =>
 Option.bind (idx (x11.2.set x11.1.toNat (wr .i64 (e13+1))) x11.1) fun _ =>
 Option.bind ((x11.2.set x11.1.toNat (wr .i64 (e13+1)))[x11.1.toNat]?) fun e17 =>
 Option.bind (idx options x11.1) fun e18 =>
 bif decide (e17<(e18.length:Int))
 then (some (.done (.inr (true,x11.2.set x11.1.toNat (wr .i64 (e13+1))))))
 else (Option.bind (idx (x11.2.set x11.1.toNat (wr .i64 (e13+1))) x11.1) fun _ =>
 Option.bind ((x11.2.set x11.1.toNat (wr .i64 (e13+1)))[x11.1.toNat]?) fun _ =>
 some (.next (wr .i64 (x11.1+1),(x11.2.set x11.1.toNat (wr .i64 (e13+1))).set x11.1.toNat 0))))
 else (some (.done (.inl ((),x11.2))))
def a3G (digits:List Int)(options:List (List Int)):Option (Bool×List Int) :=
 Option.bind (y4 (X5 digits options) ((digits.length:Int).toNat+1) (0,digits)) fun (b21:Sum (Unit×List Int) (Bool×List Int)) =>
 k9 (fun x22 =>
 some (false,x22.2)) (fun y23 =>
 some (y23.1,y23.2)) b21
def a25 (a3_3:Int->Option Bool)(x7:Int×List (List Int))(e8:List Int)(x9:Int×List (List Int)):Option (Fl (Int×List (List Int)) (Unit×List (List Int))) :=
 bif decide (x9.1<(e8.length:Int))
 then (Option.bind (idx e8 x9.1) fun e10 =>
 Option.bind (a3_3 e10) fun r11 =>
 bif r11
 then (Option.bind (idx x9.2 x7.1) fun _ =>
 Option.bind (x9.2[x7.1.toNat]?) fun e13 =>
 Option.bind (Z4 (e13.length+([x9.1]:List Int).length) 8) fun _ =>
 Option.bind (idx x9.2 x7.1) fun _ =>
 Option.bind (x9.2[x7.1.toNat]?) fun _ =>
 bif Nat.beq (x7.1.toNat+2) (x7.1.toNat+2)
 then (some (.next (wr .i64 (x9.1+1),x9.2.set x7.1.toNat (e13++([x9.1]:List Int)))))
 else (none))
 else (some (.next (wr .i64 (x9.1+1),x9.2))))
 else (some (.done ((),x9.2)))
def a1s (a2_2:List (List Int))(a3_3:Int->Option Bool)(x7:Int×List (List Int)):Option (Fl (Int×List (List Int)) (Sum (Unit×List (List Int)) ((List Api_Box)×List (List Int)))) :=
 bif decide (x7.1<(a2_2.length:Int))
 then (Option.bind (idx a2_2 x7.1) fun e8 =>
 Option.bind (y4 (a25 a3_3 x7 e8) ((e8.length:Int).toNat+1) (0,x7.2)) fun b17 =>
 Option.bind (idx b17.2 x7.1) fun _ =>
 Option.bind (b17.2[x7.1.toNat]?) fun e19 =>
 bif (e19.length:Int)==0
 then (some (.done (.inr ([],b17.2))))
 else (some (.next (wr .i64 (x7.1+1),b17.2))))
 else (some (.done (.inl ((),x7.2))))
def a3c (d:Int)(t:List (List Int))(a2_2:List (List Int))(x21:Unit×List (List Int))(x24:(List Int)×(List Api_Box)):Option (Fl ((List Int)×(List Api_Box)) ((List Api_Box)×(List Int))) :=
 Option.bind (a68 d t a2_2 x21.2 x24.1) fun r25 =>
 Option.bind (bif r25.2
 then (Option.bind (Z4 (x24.2.length+([r25.1]:List Api_Box).length) 24) fun _ =>
 some (x24.2++([r25.1]:List Api_Box)))
 else (some x24.2)) fun b27 =>
 Option.bind (a3G x24.1 x21.2) fun r28 =>
 bif !r28.1
 then (some (.done (b27,r28.2)))
 else (some (.next (r28.2,b27)))
def a10 (n:Nat)(d:Int)(t:List (List Int))(a2_2:List (List Int))(a3_3:Int->Option Bool):Option (List Api_Box) :=
 Option.bind (bif decide (d<0)
 then (some true)
 else (some (decide (4<d)))) fun q1 =>
 Option.bind (bif q1
 then (some true)
 else (Option.bind (a4k d t) fun r2 =>
 some (!r2))) fun q3 =>
 Option.bind (bif q3
 then (some true)
 else (Option.bind (a4k d a2_2) fun r4 =>
 some (!r4))) fun q5 =>
 bif q5
 then (some ([]))
 else (Option.bind (a5g (a2_2.length:Int) (a2_2.length:Int) 24) fun m6 =>
 Option.bind (y4 (a1s a2_2 a3_3) ((a2_2.length:Int).toNat+1) (0,List.replicate m6 ([]:List Int))) fun (b20:Sum (Unit×List (List Int)) ((List Api_Box)×List (List Int))) =>
 k9 (fun x21 =>
 Option.bind (a5g (a2_2.length:Int) (a2_2.length:Int) 8) fun m23 =>
 Option.bind (y4 (a3c d t a2_2 x21) n (List.replicate m23 (0:Int),[])) fun b29 =>
 some b29.1) (fun y22 =>
 some y22.1) b20)
def b01 (_:Int):Option Bool :=
 some true
def b4e (n:Nat)(width:Int)(pos:List (List Int))(neg:List (List Int)):Option (List Api_Box) :=
 Option.bind (a10 n width pos neg (fun z1 =>
 Option.bind (b01 z1) fun r2 =>
 some r2)) fun r3 =>
 some r3
def W3:Option Val :=
 some (Val.mk 5 0 (⟨#[]⟩:ByteArray) ([]:List Val) ([]:List Key) ([]:List Ent) ([]:List ByteArray))
def b7T (kind:Int):Option (Value_used×Bool) :=
 Option.bind (bif kind==1
 then (some (kind==1))
 else (some (kind==4))) fun b1 =>
 bif b1
 then (some (Value_used.mk true false false false false,true))
 else (Option.bind (bif kind==2
 then (some (kind==2))
 else (some (kind==3))) fun b2 =>
 bif b2
 then (some (Value_used.mk false true false false false,true))
 else (bif kind==5
 then (some (Value_used.mk false false false false false,true))
 else (Option.bind (bif kind==6
 then (some (kind==6))
 else (some (kind==7))) fun b3 =>
 bif b3
 then (some (Value_used.mk false false true false false,true))
 else (bif kind==8
 then (some (Value_used.mk false false true true false,true))
 else (bif kind==9
 then (some (Value_used.mk true false false false true,true))
 else (some (Value_used.mk false false false false false,false)))))))
def a9z (l:List ByteArray)(compare:ByteArray->ByteArray->Option Int)(x1:Int):Option (Fl Int (Sum Unit Bool)) :=
 bif decide (x1<(l.length:Int))
 then (Option.bind (idx l (wr .i64 (x1-1))) fun e2 =>
 Option.bind (idx l x1) fun e3 =>
 Option.bind (compare e2 e3) fun r4 =>
 bif decide (0<=r4)
 then (some (.done (.inr false)))
 else (some (.next (wr .i64 (x1+1)))))
 else (some (.done (.inl ())))
def a5Y (l:List ByteArray)(compare:ByteArray->ByteArray->Option Int):Option Bool :=
 Option.bind (y4 (a9z l compare) ((l.length:Int).toNat+1) 1) fun b5 =>
 k9 (fun _ =>
 some true) (fun y7 =>
 some y7) b5
def a1Q (a:ByteArray)(b:ByteArray):Option Int :=
 Option.bind (c0t a b) fun r1 =>
 some r1
def a1L (a:ByteArray)(b:ByteArray):Option Int :=
 Option.bind (a1Q a b) fun r1 =>
 some r1
def a7h (s:ByteArray)(other:Int->Option Bool)(x5:Int):Option (Fl Int (Sum Unit Bool)) :=
 bif decide (x5<(s.size:Int))
 then (Option.bind (a4D s x5) fun e6 =>
 Option.bind (other (e6.toNat:Int)) fun r7 =>
 bif !r7
 then (some (.done (.inr false)))
 else (some (.next (wr .i64 (x5+1)))))
 else (some (.done (.inl ())))
def a49 (s:ByteArray)(first:Int->Option Bool)(other:Int->Option Bool):Option Bool :=
 Option.bind (bif decide ((s.size:Int)<1)
 then (some true)
 else (some (decide (16<(s.size:Int))))) fun q1 =>
 Option.bind (bif q1
 then (some true)
 else (Option.bind (a4D s 0) fun e2 =>
 Option.bind (first (e2.toNat:Int)) fun r3 =>
 some (!r3))) fun q4 =>
 bif q4
 then (some false)
 else (Option.bind (y4 (a7h s other) ((s.size:Int).toNat+1) 1) fun b8 =>
 k9 (fun _ =>
 some true) (fun y10 =>
 some y10) b8)
def a4M (c:Int):Option Bool :=
 Option.bind (bif decide (65<=c)
 then (some (decide (c<=90)))
 else (some false)) fun q1 =>
 some q1
def a3z (c:Int):Option Bool :=
 Option.bind (bif decide (97<=c)
 then (some (decide (c<=122)))
 else (some false)) fun q1 =>
 some q1
def a4H (c:Int):Option Bool :=
 Option.bind (bif decide (48<=c)
 then (some (decide (c<=57)))
 else (some false)) fun q1 =>
 some q1
def a5d (c:Int):Option Bool :=
 Option.bind (a3z c) fun r1 =>
 Option.bind (bif r1
 then (some true)
 else (Option.bind (a4M c) fun r2 =>
 some r2)) fun q3 =>
 Option.bind (bif q3
 then (some true)
 else (Option.bind (a4H c) fun r4 =>
 some r4)) fun q5 =>
 Option.bind (bif q5
 then (some true)
 else (some (c==95))) fun q6 =>
 some q6
def a3d (s:ByteArray):Option Bool :=
 Option.bind (a49 s (fun z1 =>
 Option.bind (a4M z1) fun r2 =>
 some r2) (fun z3 =>
 Option.bind (a5d z3) fun r4 =>
 some r4)) fun r5 =>
 some r5
def b3g (l:List ByteArray)(x5:Int):Option (Fl Int (Sum Unit Bool)) :=
 bif decide (x5<(l.length:Int))
 then (Option.bind (idx l x5) fun e6 =>
 Option.bind (a3d e6) fun r7 =>
 bif !r7
 then (some (.done (.inr false)))
 else (some (.next (wr .i64 (x5+1)))))
 else (some (.done (.inl ())))
def a9b (l:List ByteArray):Option Bool :=
 Option.bind (a5Y l (fun z1 z2 =>
 Option.bind (a1L z1 z2) fun r3 =>
 some r3)) fun r4 =>
 bif !r4
 then (some false)
 else (Option.bind (y4 (b3g l) ((l.length:Int).toNat+1) 0) fun b8 =>
 k9 (fun _ =>
 some true) (fun y10 =>
 some y10) b8)
def a7D (c:Int):Option Bool :=
 Option.bind (a3z c) fun r1 =>
 Option.bind (bif r1
 then (some true)
 else (Option.bind (a4H c) fun r2 =>
 some r2)) fun q3 =>
 Option.bind (bif q3
 then (some true)
 else (some (c==95))) fun q4 =>
 some q4
def a39 (s:ByteArray):Option Bool :=
 Option.bind (a49 s (fun z1 =>
 Option.bind (a3z z1) fun r2 =>
 some r2) (fun z3 =>
 Option.bind (a7D z3) fun r4 =>
 some r4)) fun r5 =>
 some r5
def a8T (l:List Key)(compare:Key->Key->Option Int)(x1:Int):Option (Fl Int (Sum Unit Bool)) :=
 bif decide (x1<(l.length:Int))
 then (Option.bind (idx l (wr .i64 (x1-1))) fun e2 =>
 Option.bind (idx l x1) fun e3 =>
 Option.bind (compare e2 e3) fun r4 =>
 bif decide (0<=r4)
 then (some (.done (.inr false)))
 else (some (.next (wr .i64 (x1+1)))))
 else (some (.done (.inl ())))
def a5J (l:List Key)(compare:Key->Key->Option Int):Option Bool :=
 Option.bind (y4 (a8T l compare) ((l.length:Int).toNat+1) 1) fun b5 =>
 k9 (fun _ =>
 some true) (fun y7 =>
 some y7) b5
def a59 (x:Int):Option Bool :=
 some (x != x)
def a0I (x:Int)(y:Int):Option Int :=
 Option.bind (a59 x) fun r1 =>
 Option.bind (a59 y) fun r2 =>
 bif r1
 then (bif r2
 then (some 0)
 else (some (-1)))
 else (bif r2
 then (some 1)
 else (bif decide (x<y)
 then (some (-1))
 else (bif decide (y<x)
 then (some 1)
 else (some 0))))
def a1Z (a:Key)(b:Key):Option Int :=
 Option.bind (a0I a.Kind b.Kind) fun r1 =>
 bif r1 != 0
 then (some r1)
 else (Option.bind (a1L a.Text b.Text) fun r2 =>
 some r2)
def a32 (k:Key):Option Bool :=
 bif k.Kind==0
 then (Option.bind (a39 k.Text) fun r1 =>
 some r1)
 else (bif k.Kind==1
 then (some (decide ((k.Text.size:Int)<=64)))
 else (some false))
def b6r (v:Val)(x6:Int):Option (Fl Int (Sum Unit Bool)) :=
 bif decide (x6<(v.Keys.length:Int))
 then (Option.bind (idx v.Keys x6) fun e7 =>
 Option.bind (a32 e7) fun r8 =>
 bif !r8
 then (some (.done (.inr false)))
 else (some (.next (wr .i64 (x6+1)))))
 else (some (.done (.inl ())))
def b2G (v:Val):Option Bool :=
 Option.bind (bif (v.Keys.length:Int) != (v.Kids.length:Int)
 then (some true)
 else (Option.bind (a5J v.Keys (fun z1 z2 =>
 Option.bind (a1Z z1 z2) fun r3 =>
 some r3)) fun r4 =>
 some (!r4))) fun q5 =>
 bif q5
 then (some false)
 else (Option.bind (y4 (b6r v) ((v.Keys.length:Int).toNat+1) 0) fun b9 =>
 k9 (fun _ =>
 some true) (fun y11 =>
 some y11) b9)
def a7C (l:List Ent)(compare:Ent->Ent->Option Int)(x1:Int):Option (Fl Int (Sum Unit Bool)) :=
 bif decide (x1<(l.length:Int))
 then (Option.bind (idx l (wr .i64 (x1-1))) fun e2 =>
 Option.bind (idx l x1) fun e3 =>
 Option.bind (compare e2 e3) fun r4 =>
 bif decide (0<=r4)
 then (some (.done (.inr false)))
 else (some (.next (wr .i64 (x1+1)))))
 else (some (.done (.inl ())))
def a4V (l:List Ent)(compare:Ent->Ent->Option Int):Option Bool :=
 Option.bind (y4 (a7C l compare) ((l.length:Int).toNat+1) 1) fun b5 =>
 k9 (fun _ =>
 some true) (fun y7 =>
 some y7) b5
def a6x (a:List Val)(b:List Val)(compare:Val->Val->Option Int)(x2:Int):Option (Fl Int (Sum Unit Int)) :=
 bif decide (x2<(a.length:Int))
 then (Option.bind (idx a x2) fun e3 =>
 Option.bind (idx b x2) fun e4 =>
 Option.bind (compare e3 e4) fun r5 =>
 bif r5 != 0
 then (some (.done (.inr r5)))
 else (some (.next (wr .i64 (x2+1)))))
 else (some (.done (.inl ())))
def a31 (a:List Val)(b:List Val)(compare:Val->Val->Option Int):Option Int :=
 Option.bind (a0I (a.length:Int) (b.length:Int)) fun r1 =>
 bif r1 != 0
 then (some r1)
 else (Option.bind (y4 (a6x a b compare) ((a.length:Int).toNat+1) 0) fun b6 =>
 k9 (fun _ =>
 some 0) (fun y8 =>
 some y8) b6)
def a6R (x:Int):Option Bool :=
 some (x != x)
def a9g (x:Int)(y:Int):Option Int :=
 Option.bind (a6R x) fun r1 =>
 Option.bind (a6R y) fun r2 =>
 bif r1
 then (bif r2
 then (some 0)
 else (some (-1)))
 else (bif r2
 then (some 1)
 else (bif decide (x<y)
 then (some (-1))
 else (bif decide (y<x)
 then (some 1)
 else (some 0))))
def a7s (a:List Key)(b:List Key)(compare:Key->Key->Option Int)(x2:Int):Option (Fl Int (Sum Unit Int)) :=
 bif decide (x2<(a.length:Int))
 then (Option.bind (idx a x2) fun e3 =>
 Option.bind (idx b x2) fun e4 =>
 Option.bind (compare e3 e4) fun r5 =>
 bif r5 != 0
 then (some (.done (.inr r5)))
 else (some (.next (wr .i64 (x2+1)))))
 else (some (.done (.inl ())))
def a4I (a:List Key)(b:List Key)(compare:Key->Key->Option Int):Option Int :=
 Option.bind (a0I (a.length:Int) (b.length:Int)) fun r1 =>
 bif r1 != 0
 then (some r1)
 else (Option.bind (y4 (a7s a b compare) ((a.length:Int).toNat+1) 0) fun b6 =>
 k9 (fun _ =>
 some 0) (fun y8 =>
 some y8) b6)
def a6E (a:List Ent)(b:List Ent)(compare:Ent->Ent->Option Int)(x2:Int):Option (Fl Int (Sum Unit Int)) :=
 bif decide (x2<(a.length:Int))
 then (Option.bind (idx a x2) fun e3 =>
 Option.bind (idx b x2) fun e4 =>
 Option.bind (compare e3 e4) fun r5 =>
 bif r5 != 0
 then (some (.done (.inr r5)))
 else (some (.next (wr .i64 (x2+1)))))
 else (some (.done (.inl ())))
def a33 (a:List Ent)(b:List Ent)(compare:Ent->Ent->Option Int):Option Int :=
 Option.bind (a0I (a.length:Int) (b.length:Int)) fun r1 =>
 bif r1 != 0
 then (some r1)
 else (Option.bind (y4 (a6E a b compare) ((a.length:Int).toNat+1) 0) fun b6 =>
 k9 (fun _ =>
 some 0) (fun y8 =>
 some y8) b6)
def a7E (a:List ByteArray)(b:List ByteArray)(compare:ByteArray->ByteArray->Option Int)(x2:Int):Option (Fl Int (Sum Unit Int)) :=
 bif decide (x2<(a.length:Int))
 then (Option.bind (idx a x2) fun e3 =>
 Option.bind (idx b x2) fun e4 =>
 Option.bind (compare e3 e4) fun r5 =>
 bif r5 != 0
 then (some (.done (.inr r5)))
 else (some (.next (wr .i64 (x2+1)))))
 else (some (.done (.inl ())))
def a42 (a:List ByteArray)(b:List ByteArray)(compare:ByteArray->ByteArray->Option Int):Option Int :=
 Option.bind (a0I (a.length:Int) (b.length:Int)) fun r1 =>
 bif r1 != 0
 then (some r1)
 else (Option.bind (y4 (a7E a b compare) ((a.length:Int).toNat+1) 0) fun b6 =>
 k9 (fun _ =>
 some 0) (fun y8 =>
 some y8) b6)
def b8i (_:Nat)(_:Val->Val->Option Int)(rec_value_compareEntries:Ent->Ent->Option Int)(rec_value_compareValues:(List Val)->(List Val)->Option Int)(a:Val)(b:Val):Option Int :=
 Option.bind (a0I a.Kind b.Kind) fun r1 =>
 bif r1 != 0
 then (some r1)
 else (Option.bind (a9g a.Int_ b.Int_) fun r2 =>
 bif r2 != 0
 then (some r2)
 else (Option.bind (a1L a.Text b.Text) fun r3 =>
 bif r3 != 0
 then (some r3)
 else (Option.bind (a4I a.Keys b.Keys (fun z4 z5 =>
 Option.bind (a1Z z4 z5) fun r6 =>
 some r6)) fun r7 =>
 bif r7 != 0
 then (some r7)
 else (Option.bind (rec_value_compareValues a.Kids b.Kids) fun r8 =>
 bif r8 != 0
 then (some r8)
 else (Option.bind (a33 a.Entries b.Entries (fun z9 z10 =>
 Option.bind (rec_value_compareEntries z9 z10) fun r11 =>
 some r11)) fun r12 =>
 bif r12 != 0
 then (some r12)
 else (Option.bind (a42 a.Labels b.Labels (fun z13 z14 =>
 Option.bind (a1L z13 z14) fun r15 =>
 some r15)) fun r16 =>
 some r16))))))
def b1Q (_:Nat)(rec_value_Compare:Val->Val->Option Int)(_:Ent->Ent->Option Int)(rec_value_compareValues:(List Val)->(List Val)->Option Int)(a:Ent)(b:Ent):Option Int :=
 Option.bind (rec_value_compareValues a.Args b.Args) fun r1 =>
 bif r1 != 0
 then (some r1)
 else (bif a.Fails != b.Fails
 then (bif a.Fails
 then (some (-1))
 else (some 1))
 else (Option.bind (rec_value_Compare a.Result b.Result) fun r2 =>
 some r2))
def b2M (_:Nat)(rec_value_Compare:Val->Val->Option Int)(_:Ent->Ent->Option Int)(_:(List Val)->(List Val)->Option Int)(a:List Val)(b:List Val):Option Int :=
 Option.bind (a31 a b (fun z1 z2 =>
 Option.bind (rec_value_Compare z1 z2) fun r3 =>
 some r3)) fun r4 =>
 some r4
def K1:Nat->(Val->Val->Option Int)×(Ent->Ent->Option Int)×((List Val)->(List Val)->Option Int)
 | 0=>(fun _ _=>none,fun _ _=>none,fun _ _=>none)
 | n+1=>(b8i n ((K1 n).1) ((K1 n).2.1) ((K1 n).2.2),b1Q n ((K1 n).1) ((K1 n).2.1) ((K1 n).2.2),b2M n ((K1 n).1) ((K1 n).2.1) ((K1 n).2.2))
def b4b (n:Nat):Val->Val->Option Int:=(K1 n).1
def a7e (n:Nat):Ent->Ent->Option Int:=(K1 n).2.1
def b4v (n:Nat):(List Val)->(List Val)->Option Int:=(K1 n).2.2
def b6C (n:Nat)(a:Val)(b:Val):Option Bool :=
 Option.bind (b4b n a b) fun r1 =>
 some (r1==0)
def b5d (n:Nat)(v:Val):Option Bool :=
 Option.bind (b6C n v (Val.mk 0 0 (⟨#[]⟩:ByteArray) ([]:List Val) ([]:List Key) ([]:List Ent) ([]:List ByteArray))) fun r1 =>
 some r1
def b0c (n:Nat)(e:Ent)(arity:Int):Option Bool :=
 Option.bind (bif (e.Args.length:Int)==arity
 then (Option.bind (bif !e.Fails
 then (some true)
 else (Option.bind (b5d n e.Result) fun r1 =>
 some r1)) fun q2 =>
 some q2)
 else (some false)) fun q3 =>
 some q3
def b1g (v:Val)(n:Nat)(x7:Int):Option (Fl Int (Sum Unit Bool)) :=
 bif decide (x7<(v.Entries.length:Int))
 then (Option.bind (idx v.Entries x7) fun e8 =>
 Option.bind (b0c n e8 v.Int_) fun r9 =>
 bif !r9
 then (some (.done (.inr false)))
 else (some (.next (wr .i64 (x7+1)))))
 else (some (.done (.inl ())))
def a7z (n:Nat)(v:Val):Option Bool :=
 Option.bind (bif decide (v.Int_<0)
 then (some true)
 else (some (decide (4<v.Int_)))) fun q1 =>
 Option.bind (bif q1
 then (some true)
 else (Option.bind (a4V v.Entries (fun z2 z3 =>
 Option.bind (a7e n z2 z3) fun r4 =>
 some r4)) fun r5 =>
 some (!r5))) fun q6 =>
 bif q6
 then (some false)
 else (Option.bind (y4 (b1g v n) ((v.Entries.length:Int).toNat+1) 0) fun b10 =>
 k9 (fun _ =>
 some true) (fun y12 =>
 some y12) b10)
def b06 (n:Nat)(d:Val):Option Bool :=
 Option.bind (b7T d.Kind) fun r1 =>
 Option.bind (bif !r1.2
 then (some true)
 else (Option.bind (a9b d.Labels) fun r2 =>
 some (!r2))) fun q3 =>
 bif q3
 then (some false)
 else (Option.bind (bif !r1.1.number
 then (some (d.Int_ != 0))
 else (some false)) fun q4 =>
 Option.bind (bif q4
 then (some true)
 else (Option.bind (bif !r1.1.text_
 then (some (!(V4 d.Text (⟨#[]⟩:ByteArray))))
 else (some false)) fun q5 =>
 some q5)) fun q6 =>
 Option.bind (bif q6
 then (some true)
 else (Option.bind (bif !r1.1.kids
 then (some (decide (0<(d.Kids.length:Int))))
 else (some false)) fun q7 =>
 some q7)) fun q8 =>
 Option.bind (bif q8
 then (some true)
 else (Option.bind (bif !r1.1.keys
 then (some (decide (0<(d.Keys.length:Int))))
 else (some false)) fun q9 =>
 some q9)) fun q10 =>
 Option.bind (bif q10
 then (some true)
 else (Option.bind (bif !r1.1.entries
 then (some (decide (0<(d.Entries.length:Int))))
 else (some false)) fun q11 =>
 some q11)) fun q12 =>
 bif q12
 then (some false)
 else (bif d.Kind==2
 then (some (decide ((d.Text.size:Int)<=64)))
 else (bif d.Kind==3
 then (Option.bind (a39 d.Text) fun r13 =>
 some r13)
 else (bif d.Kind==4
 then (some (decide (0<=d.Int_)))
 else (bif d.Kind==6
 then (some (decide ((d.Kids.length:Int)<=4)))
 else (bif d.Kind==7
 then (Option.bind (bif (d.Kids.length:Int)==2
 then (Option.bind (idx d.Kids 1) fun e14 =>
 Option.bind (bif e14.Kind==5
 then (some true)
 else (Option.bind (idx d.Kids 1) fun e15 =>
 some (e15.Kind==7))) fun q16 =>
 some q16)
 else (some false)) fun q17 =>
 some q17)
 else (bif d.Kind==8
 then (Option.bind (b2G d) fun r18 =>
 some r18)
 else (bif d.Kind==9
 then (Option.bind (a7z n d) fun r19 =>
 some r19)
 else (some true)))))))))
def b84 (v:Val)(x2:(List Val)×Int):Option (Fl ((List Val)×Int) (List Val)) :=
 bif decide (x2.2<(v.Entries.length:Int))
 then (Option.bind (idx v.Entries x2.2) fun e3 =>
 Option.bind (Z4 (x2.1.length+e3.Args.length) 128) fun _ =>
 bif !e3.Fails
 then (Option.bind (Z4 ((x2.1++e3.Args).length+([e3.Result]:List Val).length) 128) fun _ =>
 some (.next ((x2.1++e3.Args)++([e3.Result]:List Val),wr .i64 (x2.2+1))))
 else (some (.next (x2.1++e3.Args,wr .i64 (x2.2+1)))))
 else (some (.done x2.1))
def b6M (v:Val):Option (List Val) :=
 Option.bind (a4G 128 v.Kids) fun r1 =>
 Option.bind (y4 (b84 v) ((v.Entries.length:Int).toNat+1) (r1,0)) fun b6 =>
 some b6
def b5v (r2:List Val)(rec_value_validTree:Val->Option Bool)(x3:Int):Option (Fl Int (Sum Unit Bool)) :=
 bif decide (x3<(r2.length:Int))
 then (Option.bind (idx r2 x3) fun e4 =>
 Option.bind (rec_value_validTree e4) fun r5 =>
 bif !r5
 then (some (.done (.inr false)))
 else (some (.next (wr .i64 (x3+1)))))
 else (some (.done (.inl ())))
def b6d (n:Nat)(rec_value_validTree:Val->Option Bool)(v:Val):Option Bool :=
 Option.bind (b06 n v) fun r1 =>
 bif !r1
 then (some false)
 else (Option.bind (b6M v) fun r2 =>
 Option.bind (y4 (b5v r2 rec_value_validTree) ((r2.length:Int).toNat+1) 0) fun b6 =>
 k9 (fun _ =>
 some true) (fun y8 =>
 some y8) b6)
def a6U:Nat->Val->Option Bool
 | 0=>fun _=>none
 | n+1=>b6d n (a6U n)
def b2l (n:Nat)(v:Val):Option Int :=
 Option.bind (a6U n v) fun r1 =>
 bif !r1
 then (some 1)
 else (some 0)
def a3P (d:Api_TypeNode):Option Bool :=
 Option.bind (bif d.Kind==3
 then (some (true,false,false,false))
 else (Option.bind (bif d.Kind==4
 then (some (d.Kind==4))
 else (bif d.Kind==6
 then (some (d.Kind==6))
 else (some (d.Kind==19)))) fun b1 =>
 bif b1
 then (some (false,true,false,false))
 else (Option.bind (bif d.Kind==10
 then (some (d.Kind==10))
 else (bif d.Kind==12
 then (some (d.Kind==12))
 else (bif d.Kind==14
 then (some (d.Kind==14))
 else (bif d.Kind==16
 then (some (d.Kind==16))
 else (bif d.Kind==17
 then (some (d.Kind==17))
 else (some (d.Kind==18))))))) fun b2 =>
 bif b2
 then (some (false,false,true,false))
 else (bif d.Kind==13
 then (some (false,false,false,true))
 else (some (false,false,false,false)))))) fun b3 =>
 Option.bind (bif b3.1
 then (some true)
 else (Option.bind (bif d.Lo==0
 then (some (d.Hi==0))
 else (some false)) fun q4 =>
 some q4)) fun q5 =>
 Option.bind (bif q5
 then (Option.bind (bif b3.2.1
 then (some true)
 else (some (V4 d.Text (⟨#[]⟩:ByteArray)))) fun q6 =>
 some q6)
 else (some false)) fun q7 =>
 Option.bind (bif q7
 then (Option.bind (bif b3.2.2.1
 then (some true)
 else (some ((d.Kids.length:Int)==0))) fun q8 =>
 some q8)
 else (some false)) fun q9 =>
 Option.bind (bif q9
 then (Option.bind (bif b3.2.2.2
 then (some true)
 else (Option.bind (bif (d.Fields.length:Int)==0
 then (some (a50 d.Rest (0,0)))
 else (some false)) fun q10 =>
 some q10)) fun q11 =>
 some q11)
 else (some false)) fun q12 =>
 some q12
def a14 (l:List Api_Field)(x1:Int):Option (Fl Int (Sum Unit Bool)) :=
 bif decide (x1<(l.length:Int))
 then (Option.bind (idx l x1) fun e2 =>
 Option.bind (a32 e2.Key_) fun r3 =>
 Option.bind (bif !r3
 then (some true)
 else (Option.bind (bif decide (0<x1)
 then (Option.bind (idx l (wr .i64 (x1-1))) fun e4 =>
 Option.bind (a1Z e4.Key_ e2.Key_) fun r5 =>
 some (decide (0<=r5)))
 else (some false)) fun q6 =>
 some q6)) fun q7 =>
 bif q7
 then (some (.done (.inr false)))
 else (some (.next (wr .i64 (x1+1)))))
 else (some (.done (.inl ())))
def a2P (l:List Api_Field):Option Bool :=
 Option.bind (y4 (a14 l) ((l.length:Int).toNat+1) 0) fun b8 =>
 k9 (fun _ =>
 some true) (fun y10 =>
 some y10) b8
def a3M (d:Api_TypeNode):Option Bool :=
 Option.bind (bif d.Kind==1
 then (some (d.Kind==1))
 else (bif d.Kind==2
 then (some (d.Kind==2))
 else (bif d.Kind==5
 then (some (d.Kind==5))
 else (bif d.Kind==7
 then (some (d.Kind==7))
 else (bif d.Kind==8
 then (some (d.Kind==8))
 else (bif d.Kind==9
 then (some (d.Kind==9))
 else (bif d.Kind==11
 then (some (d.Kind==11))
 else (some (d.Kind==15))))))))) fun b1 =>
 bif b1
 then (some true)
 else (bif d.Kind==3
 then (some (decide (d.Lo<=d.Hi)))
 else (bif d.Kind==4
 then (some (decide ((d.Text.size:Int)<=64)))
 else (bif d.Kind==6
 then (Option.bind (a39 d.Text) fun r2 =>
 some r2)
 else (bif d.Kind==19
 then (Option.bind (a3d d.Text) fun r3 =>
 some r3)
 else (bif d.Kind==10
 then (some (decide ((d.Kids.length:Int)<=4)))
 else (bif d.Kind==12
 then (some ((d.Kids.length:Int)==2))
 else (bif d.Kind==13
 then (Option.bind (a2P d.Fields) fun r4 =>
 some r4)
 else (bif d.Kind==14
 then (Option.bind (bif decide (1<=(d.Kids.length:Int))
 then (some (decide ((d.Kids.length:Int)<=5)))
 else (some false)) fun q5 =>
 some q5)
 else (Option.bind (bif d.Kind==16
 then (some (d.Kind==16))
 else (some (d.Kind==17))) fun b6 =>
 bif b6
 then (some (decide (1<=(d.Kids.length:Int))))
 else (bif d.Kind==18
 then (some ((d.Kids.length:Int)==1))
 else (some false)))))))))))
def a1Y (n_0:Api_TypeNode)(x2:(List Int)×Int):Option (Fl ((List Int)×Int) (List Int)) :=
 bif decide (x2.2<(n_0.Fields.length:Int))
 then (Option.bind (idx n_0.Fields x2.2) fun e3 =>
 Option.bind (Z4 (x2.1.length+([e3.Node]:List Int).length) 8) fun _ =>
 some (.next (x2.1++([e3.Node]:List Int),wr .i64 (x2.2+1))))
 else (some (.done x2.1))
def a5A (n_0:Api_TypeNode):Option (List Int) :=
 Option.bind (a4G 8 n_0.Kids) fun r1 =>
 Option.bind (y4 (a1Y n_0) ((n_0.Fields.length:Int).toNat+1) (r1,0)) fun b5 =>
 bif n_0.Kind==13
 then (Option.bind (Z4 (b5.length+([n_0.Rest.1,n_0.Rest.2]:List Int).length) 8) fun _ =>
 some (b5++([n_0.Rest.1,n_0.Rest.2]:List Int)))
 else (some b5)
def a3Q (kind:Int):Option Bool :=
 Option.bind (bif kind==16
 then (some true)
 else (some (kind==17))) fun q1 =>
 Option.bind (bif q1
 then (some true)
 else (some (kind==18))) fun q2 =>
 some q2
def Z9 (a2_2:Api_Type)(e10:Api_TypeNode)(rec_typeexpr_contractive_1:Int->(List Int)->Api_Type->Unit->Option (Bool×(List Int)))(x11:Int×(List Int)):Option (Fl (Int×(List Int)) (Sum (List Int) (Bool×(List Int)))) :=
 bif decide (x11.1<(e10.Kids.length:Int))
 then (Option.bind (idx e10.Kids x11.1) fun e12 =>
 Option.bind (rec_typeexpr_contractive_1 e12 x11.2 a2_2 ()) fun r13 =>
 bif !r13.1
 then (some (.done (.inr (false,r13.2))))
 else (some (.next (wr .i64 (x11.1+1),r13.2))))
 else (some (.done (.inl x11.2)))
def a24 (_:Nat)(rec_typeexpr_contractive_1:Int->(List Int)->Api_Type->Unit->Option (Bool×(List Int)))(i:Int)(a1_1:List Int)(a2_2:Api_Type)(_:Unit):Option (Bool×(List Int)) :=
 Option.bind (idx a1_1 i) fun _ =>
 Option.bind (a1_1[i.toNat]?) fun e2 =>
 Option.bind (bif e2 != 0
 then (some true)
 else (Option.bind (idx a2_2.Nodes i) fun e3 =>
 Option.bind (a3Q e3.Kind) fun r4 =>
 some (!r4))) fun q5 =>
 bif q5
 then (Option.bind (idx a1_1 i) fun _ =>
 Option.bind (a1_1[i.toNat]?) fun e7 =>
 some (e7 != 1,a1_1))
 else (Option.bind (idx a1_1 i) fun _ =>
 Option.bind (a1_1[i.toNat]?) fun _ =>
 Option.bind (idx a2_2.Nodes i) fun e10 =>
 Option.bind (y4 (Z9 a2_2 e10 rec_typeexpr_contractive_1) ((e10.Kids.length:Int).toNat+1) (0,a1_1.set i.toNat 1)) fun (b14:Sum (List Int) (Bool×(List Int))) =>
 k9 (fun x15 =>
 Option.bind (idx x15 i) fun _ =>
 Option.bind (x15[i.toNat]?) fun _ =>
 some (true,x15.set i.toNat 2)) (fun y16 =>
 some (y16.1,y16.2)) b14)
def Y7:Nat->Int->(List Int)->Api_Type->Unit->Option (Bool×(List Int))
 | 0=>fun _ _ _ _=>none
 | n+1=>a24 n (Y7 n)
def Y9 (t:Api_Type)(n:Nat)(x2:Int×(List Int)):Option (Fl (Int×(List Int)) (Sum (List Int) (Bool×(List Int)))) :=
 bif decide (x2.1<(t.Nodes.length:Int))
 then (Option.bind (Y7 n x2.1 x2.2 t ()) fun r3 =>
 bif !r3.1
 then (some (.done (.inr (false,r3.2))))
 else (some (.next (wr .i64 (x2.1+1),r3.2))))
 else (some (.done (.inl x2.2)))
def a2J (n:Nat)(t:Api_Type):Option Bool :=
 Option.bind (a5g (t.Nodes.length:Int) (t.Nodes.length:Int) 8) fun m1 =>
 Option.bind (y4 (Y9 t n) ((t.Nodes.length:Int).toNat+1) (0,List.replicate m1 (0:Int))) fun (b4:Sum (List Int) (Bool×(List Int))) =>
 k9 (fun _ =>
 some true) (fun y6 =>
 some y6.1) b4
def a2k (t:Api_Type)(r7:List Int)(x8:Int):Option (Fl Int (Sum Unit Int)) :=
 bif decide (x8<(r7.length:Int))
 then (Option.bind (idx r7 x8) fun e9 =>
 Option.bind (bif decide (e9<0)
 then (some true)
 else (some (decide ((t.Nodes.length:Int)<=e9)))) fun q10 =>
 bif q10
 then (some (.done (.inr 1)))
 else (some (.next (wr .i64 (x8+1)))))
 else (some (.done (.inl ())))
def a2j (t:Api_Type)(x2:Int):Option (Fl Int (Sum Unit Int)) :=
 bif decide (x2<(t.Nodes.length:Int))
 then (Option.bind (idx t.Nodes x2) fun e3 =>
 Option.bind (a3P e3) fun r4 =>
 Option.bind (bif !r4
 then (some true)
 else (Option.bind (a3M e3) fun r5 =>
 some (!r5))) fun q6 =>
 bif q6
 then (some (.done (.inr 1)))
 else (Option.bind (a5A e3) fun r7 =>
 Option.bind (y4 (a2k t r7) ((r7.length:Int).toNat+1) 0) fun b11 =>
 k9 (fun _ =>
 some (.next (wr .i64 (x2+1)))) (fun y13 =>
 some (.done (.inr y13))) b11))
 else (some (.done (.inl ())))
def a0E (n:Nat)(t:Api_Type):Option Int :=
 Option.bind (bif decide (t.Root<0)
 then (some true)
 else (some (decide ((t.Nodes.length:Int)<=t.Root)))) fun q1 =>
 bif q1
 then (some 1)
 else (Option.bind (y4 (a2j t) ((t.Nodes.length:Int).toNat+1) 0) fun b14 =>
 k9 (fun _ =>
 Option.bind (a2J n t) fun r17 =>
 bif !r17
 then (some 3)
 else (some 0)) (fun y16 =>
 some y16) b14)
def b9g (t:Api_Type)(g:Api_Goal)(r1:List Int)(x3:Int):Option (Fl Int (Sum Unit Bool)) :=
 bif decide (x3<((r1++g.Neg).length:Int))
 then (Option.bind (idx (r1++g.Neg) x3) fun e4 =>
 Option.bind (bif decide (e4<0)
 then (some true)
 else (some (decide ((t.Nodes.length:Int)<=e4)))) fun q5 =>
 bif q5
 then (some (.done (.inr false)))
 else (some (.next (wr .i64 (x3+1)))))
 else (some (.done (.inl ())))
def b6H (t:Api_Type)(g:Api_Goal):Option Bool :=
 Option.bind (a4G 8 g.Pos) fun r1 =>
 Option.bind (Z4 (r1.length+g.Neg.length) 8) fun _ =>
 Option.bind (y4 (b9g t g r1) (((r1++g.Neg).length:Int).toNat+1) 0) fun b6 =>
 k9 (fun _ =>
 some true) (fun y8 =>
 some y8) b6
def b6F (kind:Int):Option Int :=
 bif kind==5
 then (some 2)
 else (bif kind==7
 then (some 3)
 else (bif kind==8
 then (some 4)
 else (bif kind==9
 then (some 5)
 else (bif kind==11
 then (some 6)
 else (some 9)))))
def a6y (s:List Key)(v:Key)(x1:Int):Option (Fl Int (Sum Unit Int)) :=
 bif decide (x1<(s.length:Int))
 then (Option.bind (idx s x1) fun e2 =>
 bif a4n v e2
 then (some (.done (.inr x1)))
 else (some (.next (wr .i64 (x1+1)))))
 else (some (.done (.inl ())))
def a4b (s:List Key)(v:Key):Option Int :=
 Option.bind (y4 (a6y s v) ((s.length:Int).toNat+1) 0) fun b3 =>
 k9 (fun _ =>
 some (-1)) (fun y5 =>
 some y5) b3
def a3v (s:List Key)(v:Key):Option Bool :=
 Option.bind (a4b s v) fun r1 =>
 some (decide (0<=r1))
def c3X (n_0:Api_TypeNode)(k:Key)(x1:Int):Option (Fl Int (Sum Unit Int)) :=
 bif decide (x1<(n_0.Fields.length:Int))
 then (Option.bind (idx n_0.Fields x1) fun e2 =>
 bif a4n e2.Key_ k
 then (some (.done (.inr e2.Node)))
 else (some (.next (wr .i64 (x1+1)))))
 else (some (.done (.inl ())))
def c2q (n_0:Api_TypeNode)(k:Key):Option Int :=
 Option.bind (y4 (c3X n_0 k) ((n_0.Fields.length:Int).toNat+1) 0) fun b3 =>
 k9 (fun _ =>
 bif k.Kind==0
 then (some n_0.Rest.1)
 else (bif k.Kind==1
 then (some n_0.Rest.2)
 else (none))) (fun y5 =>
 some y5) b3
def a7w (s:List ByteArray)(v:ByteArray)(x1:Int):Option (Fl Int (Sum Unit Int)) :=
 bif decide (x1<(s.length:Int))
 then (Option.bind (idx s x1) fun e2 =>
 bif V4 v e2
 then (some (.done (.inr x1)))
 else (some (.next (wr .i64 (x1+1)))))
 else (some (.done (.inl ())))
def a4L (s:List ByteArray)(v:ByteArray):Option Int :=
 Option.bind (y4 (a7w s v) ((s.length:Int).toNat+1) 0) fun b3 =>
 k9 (fun _ =>
 some (-1)) (fun y5 =>
 some y5) b3
def a3X (s:List ByteArray)(v:ByteArray):Option Bool :=
 Option.bind (a4L s v) fun r1 =>
 some (decide (0<=r1))
def c10 (l:List Val)(t:Api_Type)(nodes:List Int)(rec_core_Has:Val->Api_Type->Int->Option Bool)(x1:Int):Option (Fl Int (Sum Unit Bool)) :=
 bif decide (x1<(l.length:Int))
 then (Option.bind (idx l x1) fun e2 =>
 Option.bind (idx nodes x1) fun e3 =>
 Option.bind (rec_core_Has e2 t e3) fun r4 =>
 bif !r4
 then (some (.done (.inr false)))
 else (some (.next (wr .i64 (x1+1)))))
 else (some (.done (.inl ())))
def b4z (v:Val)(t:Api_Type)(n_2:Api_TypeNode)(rec_core_EntryAllowed:Ent->Api_Type->Api_TypeNode->Option Bool)(x1:Int):Option (Fl Int (Sum Unit Bool)) :=
 bif decide (x1<(v.Entries.length:Int))
 then (Option.bind (idx v.Entries x1) fun e2 =>
 Option.bind (rec_core_EntryAllowed e2 t n_2) fun r3 =>
 bif !r3
 then (some (.done (.inr false)))
 else (some (.next (wr .i64 (x1+1)))))
 else (some (.done (.inl ())))
def b9z (v:Val)(n_2:Api_TypeNode)(x1:Int):Option (Fl Int (Sum Unit Bool)) :=
 bif decide (x1<(n_2.Fields.length:Int))
 then (Option.bind (idx n_2.Fields x1) fun e2 =>
 Option.bind (bif !e2.Optional
 then (Option.bind (a3v v.Keys e2.Key_) fun r3 =>
 some (!r3))
 else (some false)) fun q4 =>
 bif q4
 then (some (.done (.inr false)))
 else (some (.next (wr .i64 (x1+1)))))
 else (some (.done (.inl ())))
def b9x (v:Val)(t:Api_Type)(n_2:Api_TypeNode)(rec_core_Has:Val->Api_Type->Int->Option Bool)(x8:Int):Option (Fl Int (Sum Unit Bool)) :=
 bif decide (x8<(v.Keys.length:Int))
 then (Option.bind (idx v.Keys x8) fun e9 =>
 Option.bind (idx v.Kids x8) fun e10 =>
 Option.bind (c2q n_2 e9) fun r11 =>
 Option.bind (rec_core_Has e10 t r11) fun r12 =>
 bif !r12
 then (some (.done (.inr false)))
 else (some (.next (wr .i64 (x8+1)))))
 else (some (.done (.inl ())))
def c3y (_:Nat)(_:(List Val)->Api_Type->(List Int)->Option Bool)(_:Ent->Api_Type->Api_TypeNode->Option Bool)(_:Val->Api_Type->Api_TypeNode->Option Bool)(rec_core_Has:Val->Api_Type->Int->Option Bool)(_:Int->Val->Api_Type->Option Bool)(_:Int->Val->Api_Type->Option Bool)(_:Val->Api_Type->Api_TypeNode->Option Bool)(l:List Val)(t:Api_Type)(nodes:List Int):Option Bool :=
 bif (l.length:Int) != (nodes.length:Int)
 then (some false)
 else (Option.bind (y4 (c10 l t nodes rec_core_Has) ((l.length:Int).toNat+1) 0) fun b5 =>
 k9 (fun _ =>
 some true) (fun y7 =>
 some y7) b5)
def b4i (_:Nat)(rec_core_all:(List Val)->Api_Type->(List Int)->Option Bool)(_:Ent->Api_Type->Api_TypeNode->Option Bool)(_:Val->Api_Type->Api_TypeNode->Option Bool)(rec_core_Has:Val->Api_Type->Int->Option Bool)(_:Int->Val->Api_Type->Option Bool)(_:Int->Val->Api_Type->Option Bool)(_:Val->Api_Type->Api_TypeNode->Option Bool)(e:Ent)(t:Api_Type)(n_2:Api_TypeNode):Option Bool :=
 Option.bind (cut n_2.Kids 0 (wr .i64 ((n_2.Kids.length:Int)-1))) fun y1 =>
 Option.bind (rec_core_all e.Args t y1) fun r2 =>
 Option.bind (bif !r2
 then (some true)
 else (Option.bind (bif !e.Fails
 then (Option.bind (idx n_2.Kids (wr .i64 ((n_2.Kids.length:Int)-1))) fun e3 =>
 Option.bind (rec_core_Has e.Result t e3) fun r4 =>
 some r4)
 else (some false)) fun q5 =>
 some q5)) fun q6 =>
 some q6
def b46 (_:Nat)(_:(List Val)->Api_Type->(List Int)->Option Bool)(rec_core_EntryAllowed:Ent->Api_Type->Api_TypeNode->Option Bool)(_:Val->Api_Type->Api_TypeNode->Option Bool)(_:Val->Api_Type->Int->Option Bool)(_:Int->Val->Api_Type->Option Bool)(_:Int->Val->Api_Type->Option Bool)(_:Val->Api_Type->Api_TypeNode->Option Bool)(v:Val)(t:Api_Type)(n_2:Api_TypeNode):Option Bool :=
 bif v.Int_ != (wr .i64 ((n_2.Kids.length:Int)-1))
 then (some false)
 else (Option.bind (y4 (b4z v t n_2 rec_core_EntryAllowed) ((v.Entries.length:Int).toNat+1) 0) fun b4 =>
 k9 (fun _ =>
 some true) (fun y6 =>
 some y6) b4)
def c24 (_:Nat)(rec_core_all:(List Val)->Api_Type->(List Int)->Option Bool)(_:Ent->Api_Type->Api_TypeNode->Option Bool)(rec_core_functionHas:Val->Api_Type->Api_TypeNode->Option Bool)(rec_core_Has:Val->Api_Type->Int->Option Bool)(rec_core_Has_1:Int->Val->Api_Type->Option Bool)(rec_core_Has_2:Int->Val->Api_Type->Option Bool)(rec_core_mapHas:Val->Api_Type->Api_TypeNode->Option Bool)(d:Val)(t:Api_Type)(a2_2:Int):Option Bool :=
 Option.bind (idx t.Nodes a2_2) fun e1 =>
 bif e1.Kind==2
 then (some true)
 else (bif e1.Kind==3
 then (Option.bind (bif d.Kind==1
 then (some (decide (e1.Lo<=d.Int_)))
 else (some false)) fun q2 =>
 Option.bind (bif q2
 then (some (decide (d.Int_<=e1.Hi)))
 else (some false)) fun q3 =>
 some q3)
 else (bif e1.Kind==4
 then (Option.bind (bif d.Kind==2
 then (some (V4 d.Text e1.Text))
 else (some false)) fun q4 =>
 some q4)
 else (bif e1.Kind==6
 then (Option.bind (bif d.Kind==3
 then (some (V4 d.Text e1.Text))
 else (some false)) fun q5 =>
 some q5)
 else (Option.bind (bif e1.Kind==5
 then (some (e1.Kind==5))
 else (bif e1.Kind==7
 then (some (e1.Kind==7))
 else (bif e1.Kind==8
 then (some (e1.Kind==8))
 else (bif e1.Kind==9
 then (some (e1.Kind==9))
 else (bif e1.Kind==11
 then (some (e1.Kind==11))
 else (some (e1.Kind==15))))))) fun b6 =>
 bif b6
 then (Option.bind (b6F e1.Kind) fun r7 =>
 some (d.Kind==r7))
 else (bif e1.Kind==10
 then (Option.bind (bif d.Kind==6
 then (Option.bind (rec_core_all d.Kids t e1.Kids) fun r8 =>
 some r8)
 else (some false)) fun q9 =>
 some q9)
 else (bif e1.Kind==12
 then (Option.bind (bif d.Kind==7
 then (Option.bind (rec_core_all d.Kids t e1.Kids) fun r10 =>
 some r10)
 else (some false)) fun q11 =>
 some q11)
 else (bif e1.Kind==13
 then (Option.bind (bif d.Kind==8
 then (Option.bind (rec_core_mapHas d t e1) fun r12 =>
 some r12)
 else (some false)) fun q13 =>
 some q13)
 else (bif e1.Kind==14
 then (Option.bind (bif d.Kind==9
 then (Option.bind (rec_core_functionHas d t e1) fun r14 =>
 some r14)
 else (some false)) fun q15 =>
 some q15)
 else (bif e1.Kind==16
 then (Option.bind (Q9 e1.Kids (fun z16 =>
 Option.bind (rec_core_Has_1 z16 d t) fun r17 =>
 some r17)) fun r18 =>
 some r18)
 else (bif e1.Kind==17
 then (Option.bind (Q9 e1.Kids (fun z19 =>
 Option.bind (rec_core_Has_2 z19 d t) fun r20 =>
 some r20)) fun r21 =>
 some (!r21))
 else (bif e1.Kind==18
 then (Option.bind (idx e1.Kids 0) fun e22 =>
 Option.bind (rec_core_Has d t e22) fun r23 =>
 some (!r23))
 else (bif e1.Kind==19
 then (Option.bind (a3X d.Labels e1.Text) fun r24 =>
 some r24)
 else (some false)))))))))))))
def c0q (_:Nat)(_:(List Val)->Api_Type->(List Int)->Option Bool)(_:Ent->Api_Type->Api_TypeNode->Option Bool)(_:Val->Api_Type->Api_TypeNode->Option Bool)(rec_core_Has:Val->Api_Type->Int->Option Bool)(_:Int->Val->Api_Type->Option Bool)(_:Int->Val->Api_Type->Option Bool)(_:Val->Api_Type->Api_TypeNode->Option Bool)(k:Int)(a1_1:Val)(a2_2:Api_Type):Option Bool :=
 Option.bind (rec_core_Has a1_1 a2_2 k) fun r1 =>
 some r1
def c09 (_:Nat)(_:(List Val)->Api_Type->(List Int)->Option Bool)(_:Ent->Api_Type->Api_TypeNode->Option Bool)(_:Val->Api_Type->Api_TypeNode->Option Bool)(rec_core_Has:Val->Api_Type->Int->Option Bool)(_:Int->Val->Api_Type->Option Bool)(_:Int->Val->Api_Type->Option Bool)(_:Val->Api_Type->Api_TypeNode->Option Bool)(k:Int)(a1_1:Val)(a2_2:Api_Type):Option Bool :=
 Option.bind (rec_core_Has a1_1 a2_2 k) fun r1 =>
 some (!r1)
def b9Y (_:Nat)(_:(List Val)->Api_Type->(List Int)->Option Bool)(_:Ent->Api_Type->Api_TypeNode->Option Bool)(_:Val->Api_Type->Api_TypeNode->Option Bool)(rec_core_Has:Val->Api_Type->Int->Option Bool)(_:Int->Val->Api_Type->Option Bool)(_:Int->Val->Api_Type->Option Bool)(_:Val->Api_Type->Api_TypeNode->Option Bool)(v:Val)(t:Api_Type)(n_2:Api_TypeNode):Option Bool :=
 Option.bind (y4 (b9z v n_2) ((n_2.Fields.length:Int).toNat+1) 0) fun b5 =>
 k9 (fun _ =>
 Option.bind (y4 (b9x v t n_2 rec_core_Has) ((v.Keys.length:Int).toNat+1) 0) fun b13 =>
 k9 (fun _ =>
 some true) (fun y15 =>
 some y15) b13) (fun y7 =>
 some y7) b5
def j7:Nat->((List Val)->Api_Type->(List Int)->Option Bool)×(Ent->Api_Type->Api_TypeNode->Option Bool)×(Val->Api_Type->Api_TypeNode->Option Bool)×(Val->Api_Type->Int->Option Bool)×(Int->Val->Api_Type->Option Bool)×(Int->Val->Api_Type->Option Bool)×(Val->Api_Type->Api_TypeNode->Option Bool)
 | 0=>(fun _ _ _=>none,fun _ _ _=>none,fun _ _ _=>none,fun _ _ _=>none,fun _ _ _=>none,fun _ _ _=>none,fun _ _ _=>none)
 | n+1=>(c3y n ((j7 n).1) ((j7 n).2.1) ((j7 n).2.2.1) ((j7 n).2.2.2.1) ((j7 n).2.2.2.2.1) ((j7 n).2.2.2.2.2.1) ((j7 n).2.2.2.2.2.2),b4i n ((j7 n).1) ((j7 n).2.1) ((j7 n).2.2.1) ((j7 n).2.2.2.1) ((j7 n).2.2.2.2.1) ((j7 n).2.2.2.2.2.1) ((j7 n).2.2.2.2.2.2),b46 n ((j7 n).1) ((j7 n).2.1) ((j7 n).2.2.1) ((j7 n).2.2.2.1) ((j7 n).2.2.2.2.1) ((j7 n).2.2.2.2.2.1) ((j7 n).2.2.2.2.2.2),c24 n ((j7 n).1) ((j7 n).2.1) ((j7 n).2.2.1) ((j7 n).2.2.2.1) ((j7 n).2.2.2.2.1) ((j7 n).2.2.2.2.2.1) ((j7 n).2.2.2.2.2.2),c0q n ((j7 n).1) ((j7 n).2.1) ((j7 n).2.2.1) ((j7 n).2.2.2.1) ((j7 n).2.2.2.2.1) ((j7 n).2.2.2.2.2.1) ((j7 n).2.2.2.2.2.2),c09 n ((j7 n).1) ((j7 n).2.1) ((j7 n).2.2.1) ((j7 n).2.2.2.1) ((j7 n).2.2.2.2.1) ((j7 n).2.2.2.2.2.1) ((j7 n).2.2.2.2.2.2),b9Y n ((j7 n).1) ((j7 n).2.1) ((j7 n).2.2.1) ((j7 n).2.2.2.1) ((j7 n).2.2.2.2.1) ((j7 n).2.2.2.2.2.1) ((j7 n).2.2.2.2.2.2))
def c6I (n:Nat):(List Val)->Api_Type->(List Int)->Option Bool:=(j7 n).1
def b6h (n:Nat):Ent->Api_Type->Api_TypeNode->Option Bool:=(j7 n).2.1
def b6Z (n:Nat):Val->Api_Type->Api_TypeNode->Option Bool:=(j7 n).2.2.1
def b7q (n:Nat):Val->Api_Type->Int->Option Bool:=(j7 n).2.2.2.1
def c3x (n:Nat):Int->Val->Api_Type->Option Bool:=(j7 n).2.2.2.2.1
def c3C (n:Nat):Int->Val->Api_Type->Option Bool:=(j7 n).2.2.2.2.2.1
def c2i (n:Nat):Val->Api_Type->Api_TypeNode->Option Bool:=(j7 n).2.2.2.2.2.2
def b4d (n:Nat)(i:Int)(a1_1:Val)(a2_2:Api_Type):Option Bool :=
 Option.bind (b7q n a1_1 a2_2 i) fun r1 =>
 some (!r1)
def b38 (n:Nat)(i:Int)(a1_1:Val)(a2_2:Api_Type):Option Bool :=
 Option.bind (b7q n a1_1 a2_2 i) fun r1 =>
 some r1
def b6J (n:Nat)(v:Val)(t:Api_Type)(pos:List Int)(neg:List Int):Option Bool :=
 Option.bind (Q9 pos (fun z1 =>
 Option.bind (b4d n z1 v t) fun r2 =>
 some r2)) fun r3 =>
 Option.bind (bif !r3
 then (Option.bind (Q9 neg (fun z4 =>
 Option.bind (b38 n z4 v t) fun r5 =>
 some r5)) fun r6 =>
 some (!r6))
 else (some false)) fun q7 =>
 some q7
def b5B (n:Nat)(v:Val)(t:Api_Type)(g:Api_Goal):Option Bool :=
 Option.bind (b2l n v) fun r1 =>
 Option.bind (bif r1 != 0
 then (some true)
 else (Option.bind (a0E n t) fun r2 =>
 some (r2 != 0))) fun q3 =>
 Option.bind (bif q3
 then (some true)
 else (Option.bind (b6H t g) fun r4 =>
 some (!r4))) fun q5 =>
 bif q5
 then (some false)
 else (Option.bind (bif g.Lists
 then (some (v.Kind != 5))
 else (some false)) fun q6 =>
 Option.bind (bif q6
 then (some (v.Kind != 7))
 else (some false)) fun q7 =>
 bif q7
 then (some false)
 else (Option.bind (b6J n v t g.Pos g.Neg) fun r8 =>
 some r8))
def b7A (v:List Val)(t:Api_Type)(b:Api_Box)(n:Nat)(x1:Int):Option (Fl Int (Sum Unit Bool)) :=
 bif decide (x1<(v.length:Int))
 then (Option.bind (idx v x1) fun e2 =>
 Option.bind (idx b.Parts x1) fun e3 =>
 Option.bind (b5B n e2 t e3) fun r4 =>
 bif !r4
 then (some (.done (.inr false)))
 else (some (.next (wr .i64 (x1+1)))))
 else (some (.done (.inl ())))
def b4a (n:Nat)(v:List Val)(t:Api_Type)(b:Api_Box):Option Bool :=
 bif (v.length:Int) != (b.Parts.length:Int)
 then (some false)
 else (Option.bind (y4 (b7A v t b n) ((v.length:Int).toNat+1) 0) fun b5 =>
 k9 (fun _ =>
 some true) (fun y7 =>
 some y7) b5)
def a2q (n:Nat):Option Bool :=
 Option.bind (b4e n 2 ([([1,2]:List Int)]:List (List Int)) ([([3,4]:List Int)]:List (List Int))) fun r1 =>
 Option.bind (bif decide (0<(r1.length:Int))
 then (Option.bind (idx r1 0) fun _ =>
 Option.bind (r1[(0:Int).toNat]?) fun e3 =>
 some ((e3.Parts.length:Int)==2))
 else (some false)) fun q4 =>
 bif q4
 then (Option.bind (W3) fun r5 =>
 Option.bind (b4a n ([r5]:List Val) (Api_Type.mk ([Api_TypeNode.mk 9 0 0 (⟨#[]⟩:ByteArray) ([]:List Int) ([]:List Api_Field) (0,0)]:List Api_TypeNode) 0) (Api_Box.mk ([Api_Goal.mk ([0]:List Int) ([]:List Int) false]:List Api_Goal))) fun r6 =>
 some r6)
 else (some false)
def y2 (s:Semtypebase_Source)(n_1:Int):Option (Int×Semtypebase_Source) :=
 Option.bind (bif decide (n_1<1)
 then (some true)
 else (some (decide ((s.L.length:Int)<=s.At)))) fun q1 =>
 bif q1
 then (some (0,s))
 else (Option.bind (idx s.L s.At) fun e2 =>
 Option.bind (b7y e2 n_1) fun d3 =>
 bif decide (d3<0)
 then (some (wr .i64 (d3+n_1),Semtypebase_Source.mk s.L (wr .i64 (s.At+1))))
 else (some (d3,Semtypebase_Source.mk s.L (wr .i64 (s.At+1)))))
def K4 (s:Semtypebase_Source):Option (ByteArray×Semtypebase_Source) :=
 Option.bind (y2 s 4) fun r1 =>
 Option.bind (idx ([(⟨#[97]⟩:ByteArray),(⟨#[98]⟩:ByteArray),(⟨#[111,107]⟩:ByteArray),(⟨#[101,114,114,111,114]⟩:ByteArray)]:List ByteArray) r1.1) fun _ =>
 Option.bind (([(⟨#[97]⟩:ByteArray),(⟨#[98]⟩:ByteArray),(⟨#[111,107]⟩:ByteArray),(⟨#[101,114,114,111,114]⟩:ByteArray)]:List ByteArray)[r1.1.toNat]?) fun e3 =>
 some (e3,r1.2)
def W8 (s:Semtypebase_Source):Option (ByteArray×Semtypebase_Source) :=
 Option.bind (y2 s 4) fun r1 =>
 Option.bind (idx ([(⟨#[]⟩:ByteArray),(⟨#[115]⟩:ByteArray),(⟨#[120,32,121]⟩:ByteArray),(⟨#[97]⟩:ByteArray)]:List ByteArray) r1.1) fun _ =>
 Option.bind (([(⟨#[]⟩:ByteArray),(⟨#[115]⟩:ByteArray),(⟨#[120,32,121]⟩:ByteArray),(⟨#[97]⟩:ByteArray)]:List ByteArray)[r1.1.toNat]?) fun e3 =>
 some (e3,r1.2)
def a0n (s:Semtypebase_Source):Option (ByteArray×Semtypebase_Source) :=
 Option.bind (y2 s 3) fun r1 =>
 Option.bind (idx ([(⟨#[65]⟩:ByteArray),(⟨#[66]⟩:ByteArray),(⟨#[67]⟩:ByteArray)]:List ByteArray) r1.1) fun _ =>
 Option.bind (([(⟨#[65]⟩:ByteArray),(⟨#[66]⟩:ByteArray),(⟨#[67]⟩:ByteArray)]:List ByteArray)[r1.1.toNat]?) fun e3 =>
 some (e3,r1.2)
def a0P (from_:Int)(n_3:Int)(x1:Int×(List Int)×Semtypebase_Source):Option (Fl (Int×(List Int)×Semtypebase_Source) ((List Int)×Semtypebase_Source)) :=
 bif decide (0<x1.1)
 then (Option.bind (y2 x1.2.2 (wr .i64 (n_3-from_))) fun r2 =>
 Option.bind (Z4 (x1.2.1.length+([wr .i64 (from_+r2.1)]:List Int).length) 8) fun _ =>
 some (.next (wr .i64 (x1.1-1),x1.2.1++([wr .i64 (from_+r2.1)]:List Int),r2.2)))
 else (some (.done (x1.2.1,x1.2.2)))
def j9 (s:Semtypebase_Source)(many:Int)(from_:Int)(n_3:Int):Option ((List Int)×Semtypebase_Source) :=
 Option.bind (y4 (a0P from_ n_3) (many.toNat+2) (many,[],s)) fun b4 =>
 some (b4.1,b4.2)
def V7 (n_1:Int)(x3:Int×Semtypebase_Source×(Int×Int×Int×ByteArray×(List Int)×(List Api_Field)×Int×Int)):Option (Fl (Int×Semtypebase_Source×(Int×Int×Int×ByteArray×(List Int)×(List Api_Field)×Int×Int)) (Semtypebase_Source×(Int×Int×Int×ByteArray×(List Int)×(List Api_Field)×Int×Int))) :=
 bif decide (x3.1<3)
 then (Option.bind (Option.bind (y2 x3.2.1 2) fun r4 =>
 bif r4.1==1
 then (Option.bind (idx ([Key.mk 0 (⟨#[97]⟩:ByteArray),Key.mk 0 (⟨#[98]⟩:ByteArray),Key.mk 1 (⟨#[115]⟩:ByteArray)]:List Key) x3.1) fun e5 =>
 Option.bind (y2 r4.2 n_1) fun r6 =>
 Option.bind (y2 r6.2 2) fun r7 =>
 Option.bind (Z4 (x3.2.2.2.2.2.2.2.1.length+([Api_Field.mk e5 r6.1 (r7.1==1)]:List Api_Field).length) 40) fun _ =>
 some (r7.2,(x3.2.2.1,x3.2.2.2.1,x3.2.2.2.2.1,x3.2.2.2.2.2.1,x3.2.2.2.2.2.2.1,x3.2.2.2.2.2.2.2.1++([Api_Field.mk e5 r6.1 (r7.1==1)]:List Api_Field),x3.2.2.2.2.2.2.2.2.1,x3.2.2.2.2.2.2.2.2.2)))
 else (some (r4.2,(x3.2.2.1,x3.2.2.2.1,x3.2.2.2.2.1,x3.2.2.2.2.2.1,x3.2.2.2.2.2.2.1,x3.2.2.2.2.2.2.2.1,x3.2.2.2.2.2.2.2.2.1,x3.2.2.2.2.2.2.2.2.2)))) fun b9 =>
 some (.next (wr .i64 (x3.1+1),b9.1,(b9.2.1,b9.2.2.1,b9.2.2.2.1,b9.2.2.2.2.1,b9.2.2.2.2.2.1,b9.2.2.2.2.2.2.1,b9.2.2.2.2.2.2.2.1,b9.2.2.2.2.2.2.2.2))))
 else (some (.done (x3.2.1,(x3.2.2.1,x3.2.2.2.1,x3.2.2.2.2.1,x3.2.2.2.2.2.1,x3.2.2.2.2.2.2.1,x3.2.2.2.2.2.2.2.1,x3.2.2.2.2.2.2.2.2.1,x3.2.2.2.2.2.2.2.2.2))))
def a1q (s:Semtypebase_Source)(n_1:Int):Option (Api_TypeNode×Semtypebase_Source) :=
 Option.bind (y2 s n_1) fun r1 =>
 Option.bind (y2 r1.2 n_1) fun r2 =>
 Option.bind (y4 (V7 n_1) ((3:Int).toNat+1) (0,r2.2,(13,0,0,(⟨#[]⟩:ByteArray),[],[],r1.1,r2.1))) fun b10 =>
 some (Api_TypeNode.mk b10.2.1 b10.2.2.1 b10.2.2.2.1 b10.2.2.2.2.1 b10.2.2.2.2.2.1 b10.2.2.2.2.2.2.1 (b10.2.2.2.2.2.2.2.1,b10.2.2.2.2.2.2.2.2),b10.1)
def a18 (d:Semtypebase_Source)(t:Int)(a2_2:Int):Option (Api_TypeNode×Semtypebase_Source) :=
 Option.bind (bif t==(wr .i64 (a2_2-1))
 then (some 14)
 else (some 18)) fun (b1:Int) =>
 Option.bind (y2 d b1) fun r2 =>
 bif r2.1==0
 then (Option.bind (y2 r2.2 5) fun r3 =>
 Option.bind (idx ([(-9223372036854775808),0,1,2,9223372036854775807]:List Int) r3.1) fun _ =>
 Option.bind (([(-9223372036854775808),0,1,2,9223372036854775807]:List Int)[r3.1.toNat]?) fun e5 =>
 Option.bind (y2 r3.2 (wr .i64 (5-r3.1))) fun r6 =>
 Option.bind (idx ([(-9223372036854775808),0,1,2,9223372036854775807]:List Int) (wr .i64 (r3.1+r6.1))) fun _ =>
 Option.bind (([(-9223372036854775808),0,1,2,9223372036854775807]:List Int)[(wr .i64 (r3.1+r6.1)).toNat]?) fun e8 =>
 some (Api_TypeNode.mk 3 e5 e8 (⟨#[]⟩:ByteArray) ([]:List Int) ([]:List Api_Field) (0,0),r6.2))
 else (bif r2.1==1
 then (Option.bind (K4 r2.2) fun r9 =>
 some (Api_TypeNode.mk 6 0 0 r9.1 ([]:List Int) ([]:List Api_Field) (0,0),r9.2))
 else (bif r2.1==2
 then (some (Api_TypeNode.mk 7 0 0 (⟨#[]⟩:ByteArray) ([]:List Int) ([]:List Api_Field) (0,0),r2.2))
 else (bif r2.1==3
 then (Option.bind (W8 r2.2) fun r10 =>
 some (Api_TypeNode.mk 4 0 0 r10.1 ([]:List Int) ([]:List Api_Field) (0,0),r10.2))
 else (bif r2.1==4
 then (Option.bind (y2 r2.2 4) fun r11 =>
 Option.bind (idx ([5,8,11,15]:List Int) r11.1) fun _ =>
 Option.bind (([5,8,11,15]:List Int)[r11.1.toNat]?) fun e13 =>
 some (Api_TypeNode.mk e13 0 0 (⟨#[]⟩:ByteArray) ([]:List Int) ([]:List Api_Field) (0,0),r11.2))
 else (bif r2.1==5
 then (some (Api_TypeNode.mk 9 0 0 (⟨#[]⟩:ByteArray) ([]:List Int) ([]:List Api_Field) (0,0),r2.2))
 else (bif r2.1==6
 then (Option.bind (y2 r2.2 2) fun r14 =>
 Option.bind (idx ([2,1]:List Int) r14.1) fun _ =>
 Option.bind (([2,1]:List Int)[r14.1.toNat]?) fun e16 =>
 some (Api_TypeNode.mk e16 0 0 (⟨#[]⟩:ByteArray) ([]:List Int) ([]:List Api_Field) (0,0),r14.2))
 else (bif r2.1==7
 then (Option.bind (a0n r2.2) fun r17 =>
 some (Api_TypeNode.mk 19 0 0 r17.1 ([]:List Int) ([]:List Api_Field) (0,0),r17.2))
 else (Option.bind (bif r2.1==8
 then (some (r2.1==8))
 else (some (r2.1==9))) fun b18 =>
 bif b18
 then (Option.bind (y2 r2.2 3) fun r19 =>
 Option.bind (j9 r19.2 r19.1 0 a2_2) fun r20 =>
 some (Api_TypeNode.mk 10 0 0 (⟨#[]⟩:ByteArray) r20.1 ([]:List Api_Field) (0,0),r20.2))
 else (bif r2.1==10
 then (Option.bind (j9 r2.2 2 0 a2_2) fun r21 =>
 some (Api_TypeNode.mk 12 0 0 (⟨#[]⟩:ByteArray) r21.1 ([]:List Api_Field) (0,0),r21.2))
 else (bif r2.1==11
 then (Option.bind (a1q r2.2 a2_2) fun r22 =>
 some (r22.1,r22.2))
 else (Option.bind (bif r2.1==12
 then (some (r2.1==12))
 else (some (r2.1==13))) fun b23 =>
 bif b23
 then (Option.bind (y2 r2.2 3) fun r24 =>
 Option.bind (j9 r24.2 (wr .i64 (1+r24.1)) 0 a2_2) fun r25 =>
 some (Api_TypeNode.mk 14 0 0 (⟨#[]⟩:ByteArray) r25.1 ([]:List Api_Field) (0,0),r25.2))
 else (bif r2.1==14
 then (Option.bind (j9 r2.2 1 (wr .i64 (t+1)) a2_2) fun r26 =>
 some (Api_TypeNode.mk 18 0 0 (⟨#[]⟩:ByteArray) r26.1 ([]:List Api_Field) (0,0),r26.2))
 else (bif r2.1==15
 then (Option.bind (j9 r2.2 2 (wr .i64 (t+1)) a2_2) fun r27 =>
 some (Api_TypeNode.mk 17 0 0 (⟨#[]⟩:ByteArray) r27.1 ([]:List Api_Field) (0,0),r27.2))
 else (Option.bind (y2 r2.2 2) fun r28 =>
 Option.bind (j9 r28.2 (wr .i64 (2+r28.1)) (wr .i64 (t+1)) a2_2) fun r29 =>
 some (Api_TypeNode.mk 16 0 0 (⟨#[]⟩:ByteArray) r29.1 ([]:List Api_Field) (0,0),r29.2)))))))))))))))
def a0z (n_1:Int)(x1:Int×Semtypebase_Source×((List Api_TypeNode)×Int)):Option (Fl (Int×Semtypebase_Source×((List Api_TypeNode)×Int)) (Semtypebase_Source×((List Api_TypeNode)×Int))) :=
 bif decide (x1.1<(max n_1 1))
 then (Option.bind (a18 x1.2.1 x1.1 (max n_1 1)) fun r2 =>
 Option.bind (Z4 (x1.2.2.1.length+([r2.1]:List Api_TypeNode).length) 104) fun _ =>
 some (.next (wr .i64 (x1.1+1),r2.2,(x1.2.2.1++([r2.1]:List Api_TypeNode),x1.2.2.2))))
 else (some (.done (x1.2.1,(x1.2.2.1,x1.2.2.2))))
def a06 (s:Semtypebase_Source)(n_1:Int):Option (Api_Type×Semtypebase_Source) :=
 Option.bind (y4 (a0z n_1) ((max n_1 1).toNat+1) (0,s,([],0))) fun b4 =>
 some (Api_Type.mk b4.2.1 b4.2.2,b4.1)
def a1D (s:Semtypebase_Source):Option (Int×Semtypebase_Source) :=
 Option.bind (y2 s 10) fun r1 =>
 Option.bind (idx ([0,1,(-1),2,3,(-2),7,(-9223372036854775808),9223372036854775807,10]:List Int) r1.1) fun _ =>
 Option.bind (([0,1,(-1),2,3,(-2),7,(-9223372036854775808),9223372036854775807,10]:List Int)[r1.1.toNat]?) fun e3 =>
 some (e3,r1.2)
def a7l (n_0:Int):Option Val :=
 some (Val.mk 1 n_0 (⟨#[]⟩:ByteArray) ([]:List Val) ([]:List Key) ([]:List Ent) ([]:List ByteArray))
def a4q (s:ByteArray):Option Val :=
 some (Val.mk 3 0 s ([]:List Val) ([]:List Key) ([]:List Ent) ([]:List ByteArray))
def a3I (s:ByteArray):Option Val :=
 some (Val.mk 2 0 s ([]:List Val) ([]:List Key) ([]:List Ent) ([]:List ByteArray))
def a7a (n_0:Int):Option Val :=
 some (Val.mk 4 n_0 (⟨#[]⟩:ByteArray) ([]:List Val) ([]:List Key) ([]:List Ent) ([]:List ByteArray))
def a0S (l:List Val):Option (List Val) :=
 Option.bind (Z4 (0+l.length) 128) fun _ =>
 some l
def a2I (l:List Val):Option Val :=
 Option.bind (a0S l) fun r1 =>
 some (Val.mk 6 0 (⟨#[]⟩:ByteArray) r1 ([]:List Key) ([]:List Ent) ([]:List ByteArray))
def J7 (s:Semtypebase_Source):Option (Val×Semtypebase_Source) :=
 Option.bind (y2 s 6) fun r1 =>
 bif r1.1==0
 then (Option.bind (a1D r1.2) fun r2 =>
 Option.bind (a7l r2.1) fun r3 =>
 some (r3,r2.2))
 else (bif r1.1==1
 then (Option.bind (K4 r1.2) fun r4 =>
 Option.bind (a4q r4.1) fun r5 =>
 some (r5,r4.2))
 else (bif r1.1==2
 then (Option.bind (W8 r1.2) fun r6 =>
 Option.bind (a3I r6.1) fun r7 =>
 some (r7,r6.2))
 else (bif r1.1==3
 then (Option.bind (y2 r1.2 3) fun r8 =>
 Option.bind (a7a r8.1) fun r9 =>
 some (r9,r8.2))
 else (bif r1.1==4
 then (Option.bind (W3) fun r10 =>
 some (r10,r1.2))
 else (Option.bind (a2I ([]:List Val)) fun r11 =>
 some (r11,r1.2))))))
def a1V (c:Int):Option Bool :=
 Option.bind (bif decide (97<=c)
 then (some (decide (c<=122)))
 else (some false)) fun q1 =>
 some q1
def a2H (c:Int):Option Bool :=
 Option.bind (bif decide (48<=c)
 then (some (decide (c<=57)))
 else (some false)) fun q1 =>
 some q1
def a4d (s:ByteArray)(x5:Int):Option (Fl Int (Sum Unit Bool)) :=
 bif decide (x5<(s.size:Int))
 then (Option.bind (a4D s x5) fun e6 =>
 Option.bind (a1V (e6.toNat:Int)) fun r7 =>
 Option.bind (bif !r7
 then (Option.bind (a4D s x5) fun e8 =>
 Option.bind (a2H (e8.toNat:Int)) fun r9 =>
 some (!r9))
 else (some false)) fun q10 =>
 Option.bind (bif q10
 then (Option.bind (a4D s x5) fun e11 =>
 some ((e11.toNat:Int) != 95))
 else (some false)) fun q12 =>
 bif q12
 then (some (.done (.inr false)))
 else (some (.next (wr .i64 (x5+1)))))
 else (some (.done (.inl ())))
def a1x (s:ByteArray):Option Bool :=
 Option.bind (bif decide ((s.size:Int)<1)
 then (some true)
 else (some (decide (16<(s.size:Int))))) fun q1 =>
 Option.bind (bif q1
 then (some true)
 else (Option.bind (a4D s 0) fun e2 =>
 Option.bind (a1V (e2.toNat:Int)) fun r3 =>
 some (!r3))) fun q4 =>
 bif q4
 then (some false)
 else (Option.bind (y4 (a4d s) ((s.size:Int).toNat+1) 1) fun b13 =>
 k9 (fun _ =>
 some true) (fun y15 =>
 some y15) b13)
def a05 (k:Key):Option Bool :=
 Option.bind (bif k.Kind==0
 then (Option.bind (a1x k.Text) fun r1 =>
 some r1)
 else (some false)) fun q2 =>
 Option.bind (bif q2
 then (some true)
 else (Option.bind (bif k.Kind==1
 then (some (decide ((k.Text.size:Int)<=64)))
 else (some false)) fun q3 =>
 some q3)) fun q4 =>
 some q4
def a1W (a:Int)(b:Int):Option Int :=
 bif decide (a<b)
 then (some (-1))
 else (bif decide (b<a)
 then (some 1)
 else (some 0))
def a0R (a:ByteArray)(b:ByteArray):Option Int :=
 bif a17 a b
 then (some (-1))
 else (bif !(a17 a b||V4 a b)
 then (some 1)
 else (some 0))
def V3 (a:Key)(b:Key):Option Int :=
 bif a.Kind != b.Kind
 then (Option.bind (a1W a.Kind b.Kind) fun r1 =>
 some r1)
 else (Option.bind (a0R a.Text b.Text) fun r2 =>
 some r2)
def a1w (d:List Key)(x1:Int×(Int×Int×ByteArray×(List Val)×(List Key)×(List Ent)×(List ByteArray))):Option (Fl (Int×(Int×Int×ByteArray×(List Val)×(List Key)×(List Ent)×(List ByteArray))) (Sum (Int×Int×ByteArray×(List Val)×(List Key)×(List Ent)×(List ByteArray)) (Int×(Int×Int×ByteArray×(List Val)×(List Key)×(List Ent)×(List ByteArray))))) :=
 bif decide (x1.1<(d.length:Int))
 then (Option.bind (idx d x1.1) fun e2 =>
 Option.bind (a05 e2) fun r3 =>
 bif !r3
 then (some (.done (.inr (1,(0,0,(⟨#[]⟩:ByteArray),[],[],[],[])))))
 else (some (.next (wr .i64 (x1.1+1),(x1.2.1,x1.2.2.1,x1.2.2.2.1,x1.2.2.2.2.1,x1.2.2.2.2.2.1,x1.2.2.2.2.2.2.1,x1.2.2.2.2.2.2.2)))))
 else (some (.done (.inl (x1.2.1,x1.2.2.1,x1.2.2.2.1,x1.2.2.2.2.1,x1.2.2.2.2.2.1,x1.2.2.2.2.2.2.1,x1.2.2.2.2.2.2.2))))
def a3D (d:List Key)(x7:Int×(Int×Int×ByteArray×(List Val)×(List Key)×(List Ent)×(List ByteArray))×(Int×Int×ByteArray×(List Val)×(List Key)×(List Ent)×(List ByteArray)))(x8:Int):Option (Fl Int Int) :=
 Option.bind (bif decide (x8<(x7.2.2.2.2.2.2.1.length:Int))
 then (Option.bind (idx x7.2.2.2.2.2.2.1 x8) fun e9 =>
 Option.bind (idx d x7.1) fun e10 =>
 Option.bind (V3 e9 e10) fun r11 =>
 some (decide (r11<0)))
 else (some false)) fun q12 =>
 bif q12
 then (some (.next (wr .i64 (x8+1))))
 else (some (.done x8))
def a0U (d:List Key)(t:List Val)(x7:Int×(Int×Int×ByteArray×(List Val)×(List Key)×(List Ent)×(List ByteArray))×(Int×Int×ByteArray×(List Val)×(List Key)×(List Ent)×(List ByteArray))):Option (Fl (Int×(Int×Int×ByteArray×(List Val)×(List Key)×(List Ent)×(List ByteArray))×(Int×Int×ByteArray×(List Val)×(List Key)×(List Ent)×(List ByteArray))) (Sum ((Int×Int×ByteArray×(List Val)×(List Key)×(List Ent)×(List ByteArray))×(Int×Int×ByteArray×(List Val)×(List Key)×(List Ent)×(List ByteArray))) (Int×(Int×Int×ByteArray×(List Val)×(List Key)×(List Ent)×(List ByteArray))×(Int×Int×ByteArray×(List Val)×(List Key)×(List Ent)×(List ByteArray))))) :=
 bif decide (x7.1<(d.length:Int))
 then (Option.bind (y4 (a3D d x7) ((x7.2.2.2.2.2.2.1.length:Int).toNat+1) 0) fun b13 =>
 Option.bind (bif decide (b13<(x7.2.2.2.2.2.2.1.length:Int))
 then (Option.bind (idx x7.2.2.2.2.2.2.1 b13) fun e14 =>
 Option.bind (idx d x7.1) fun e15 =>
 some (a4n e14 e15))
 else (some false)) fun q16 =>
 bif q16
 then (some (.done (.inr (6,(0,0,(⟨#[]⟩:ByteArray),[],[],[],[]),(x7.2.2.1,x7.2.2.2.1,x7.2.2.2.2.1,x7.2.2.2.2.2.1,x7.2.2.2.2.2.2.1,x7.2.2.2.2.2.2.2.1,x7.2.2.2.2.2.2.2.2)))))
 else (Option.bind (cut x7.2.2.2.2.2.2.1 0 b13) fun y17 =>
 Option.bind (Z4 (0+y17.length) 24) fun _ =>
 Option.bind (cut x7.2.2.2.2.2.1 0 b13) fun y19 =>
 Option.bind (a0S y19) fun r20 =>
 Option.bind (idx d x7.1) fun e21 =>
 Option.bind (Z4 (y17.length+([e21]:List Key).length) 24) fun _ =>
 Option.bind (cut x7.2.2.2.2.2.2.1 b13 (x7.2.2.2.2.2.2.1.length:Int)) fun y23 =>
 Option.bind (Z4 ((y17++([e21]:List Key)).length+y23.length) 24) fun _ =>
 Option.bind (idx t x7.1) fun e25 =>
 Option.bind (Z4 (r20.length+([e25]:List Val).length) 128) fun _ =>
 Option.bind (cut x7.2.2.2.2.2.1 b13 (x7.2.2.2.2.2.1.length:Int)) fun y27 =>
 Option.bind (Z4 ((r20++([e25]:List Val)).length+y27.length) 128) fun _ =>
 some (.next (wr .i64 (x7.1+1),(x7.2.1.1,x7.2.1.2.1,x7.2.1.2.2.1,x7.2.1.2.2.2.1,x7.2.1.2.2.2.2.1,x7.2.1.2.2.2.2.2.1,x7.2.1.2.2.2.2.2.2),(x7.2.2.1,x7.2.2.2.1,x7.2.2.2.2.1,(r20++([e25]:List Val))++y27,(y17++([e21]:List Key))++y23,x7.2.2.2.2.2.2.2.1,x7.2.2.2.2.2.2.2.2)))))
 else (some (.done (.inl ((x7.2.1.1,x7.2.1.2.1,x7.2.1.2.2.1,x7.2.1.2.2.2.1,x7.2.1.2.2.2.2.1,x7.2.1.2.2.2.2.2.1,x7.2.1.2.2.2.2.2.2),(x7.2.2.1,x7.2.2.2.1,x7.2.2.2.2.1,x7.2.2.2.2.2.1,x7.2.2.2.2.2.2.1,x7.2.2.2.2.2.2.2.1,x7.2.2.2.2.2.2.2.2)))))
def a1I (d:List Key)(t:List Val):Option (Val×Int) :=
 bif (d.length:Int) != (t.length:Int)
 then (some (Val.mk 0 0 (⟨#[]⟩:ByteArray) ([]:List Val) ([]:List Key) ([]:List Ent) ([]:List ByteArray),1))
 else (Option.bind (y4 (a1w d) ((d.length:Int).toNat+1) (0,(0,0,(⟨#[]⟩:ByteArray),[],[],[],[]))) fun (b4:Sum (Int×Int×ByteArray×(List Val)×(List Key)×(List Ent)×(List ByteArray)) (Int×(Int×Int×ByteArray×(List Val)×(List Key)×(List Ent)×(List ByteArray)))) =>
 k9 (fun x5 =>
 Option.bind (y4 (a0U d t) ((d.length:Int).toNat+1) (0,(x5.1,x5.2.1,x5.2.2.1,x5.2.2.2.1,x5.2.2.2.2.1,x5.2.2.2.2.2.1,x5.2.2.2.2.2.2),(8,0,(⟨#[]⟩:ByteArray),([]:List Val),([]:List Key),[],[]))) fun (b29:Sum ((Int×Int×ByteArray×(List Val)×(List Key)×(List Ent)×(List ByteArray))×(Int×Int×ByteArray×(List Val)×(List Key)×(List Ent)×(List ByteArray))) (Int×(Int×Int×ByteArray×(List Val)×(List Key)×(List Ent)×(List ByteArray))×(Int×Int×ByteArray×(List Val)×(List Key)×(List Ent)×(List ByteArray)))) =>
 k9 (fun x30 =>
 some (Val.mk x30.2.1 x30.2.2.1 x30.2.2.2.1 x30.2.2.2.2.1 x30.2.2.2.2.2.1 x30.2.2.2.2.2.2.1 x30.2.2.2.2.2.2.2,0)) (fun y31 =>
 some (Val.mk y31.2.1.1 y31.2.1.2.1 y31.2.1.2.2.1 y31.2.1.2.2.2.1 y31.2.1.2.2.2.2.1 y31.2.1.2.2.2.2.2.1 y31.2.1.2.2.2.2.2.2,y31.1)) b29) (fun y6 =>
 some (Val.mk y6.2.1 y6.2.2.1 y6.2.2.2.1 y6.2.2.2.2.1 y6.2.2.2.2.2.1 y6.2.2.2.2.2.2.1 y6.2.2.2.2.2.2.2,y6.1)) b4)
def a0e (a:Int)(b:Int):Option Int :=
 Option.bind (a1W a b) fun r1 =>
 some r1
def a5W (d:Val)(t:Val)(x5:Int):Option (Fl Int (Sum Unit Int)) :=
 bif decide (x5<(d.Keys.length:Int))
 then (Option.bind (idx d.Keys x5) fun e6 =>
 Option.bind (idx t.Keys x5) fun e7 =>
 Option.bind (V3 e6 e7) fun r8 =>
 bif r8 != 0
 then (some (.done (.inr r8)))
 else (some (.next (wr .i64 (x5+1)))))
 else (some (.done (.inl ())))
def a5S (d:Val)(t:Val)(rec_semtyperef1_CompareEntries:Ent->Ent->Option Int)(x14:Int):Option (Fl Int (Sum Unit Int)) :=
 bif decide (x14<(d.Entries.length:Int))
 then (Option.bind (idx d.Entries x14) fun e15 =>
 Option.bind (idx t.Entries x14) fun e16 =>
 Option.bind (rec_semtyperef1_CompareEntries e15 e16) fun r17 =>
 bif r17 != 0
 then (some (.done (.inr r17)))
 else (some (.next (wr .i64 (x14+1)))))
 else (some (.done (.inl ())))
def a5V (d:Val)(t:Val)(x22:Int):Option (Fl Int (Sum Unit Int)) :=
 bif decide (x22<(d.Labels.length:Int))
 then (Option.bind (idx d.Labels x22) fun e23 =>
 Option.bind (idx t.Labels x22) fun e24 =>
 Option.bind (a0R e23 e24) fun r25 =>
 bif r25 != 0
 then (some (.done (.inr r25)))
 else (some (.next (wr .i64 (x22+1)))))
 else (some (.done (.inl ())))
def a6p (a:List Val)(b:List Val)(rec_semtyperef1_Compare:Val->Val->Option Int)(x2:Int):Option (Fl Int (Sum Unit Int)) :=
 bif decide (x2<(a.length:Int))
 then (Option.bind (idx a x2) fun e3 =>
 Option.bind (idx b x2) fun e4 =>
 Option.bind (rec_semtyperef1_Compare e3 e4) fun r5 =>
 bif r5 != 0
 then (some (.done (.inr r5)))
 else (some (.next (wr .i64 (x2+1)))))
 else (some (.done (.inl ())))
def a4h (_:Nat)(_:Val->Val->Option Int)(rec_semtyperef1_values:(List Val)->(List Val)->Option Int)(rec_semtyperef1_CompareEntries:Ent->Ent->Option Int)(d:Val)(t:Val):Option Int :=
 bif d.Kind != t.Kind
 then (Option.bind (a0e d.Kind t.Kind) fun r1 =>
 some r1)
 else (bif d.Int_ != t.Int_
 then (Option.bind (a1W d.Int_ t.Int_) fun r2 =>
 some r2)
 else (bif !(V4 d.Text t.Text)
 then (Option.bind (a0R d.Text t.Text) fun r3 =>
 some r3)
 else (bif (d.Keys.length:Int) != (t.Keys.length:Int)
 then (Option.bind (a0e (d.Keys.length:Int) (t.Keys.length:Int)) fun r4 =>
 some r4)
 else (Option.bind (y4 (a5W d t) ((d.Keys.length:Int).toNat+1) 0) fun b9 =>
 k9 (fun _ =>
 Option.bind (rec_semtyperef1_values d.Kids t.Kids) fun r12 =>
 bif r12 != 0
 then (some r12)
 else (bif (d.Entries.length:Int) != (t.Entries.length:Int)
 then (Option.bind (a0e (d.Entries.length:Int) (t.Entries.length:Int)) fun r13 =>
 some r13)
 else (Option.bind (y4 (a5S d t rec_semtyperef1_CompareEntries) ((d.Entries.length:Int).toNat+1) 0) fun b18 =>
 k9 (fun _ =>
 bif (d.Labels.length:Int) != (t.Labels.length:Int)
 then (Option.bind (a0e (d.Labels.length:Int) (t.Labels.length:Int)) fun r21 =>
 some r21)
 else (Option.bind (y4 (a5V d t) ((d.Labels.length:Int).toNat+1) 0) fun b26 =>
 k9 (fun _ =>
 some 0) (fun y28 =>
 some y28) b26)) (fun y20 =>
 some y20) b18))) (fun y11 =>
 some y11) b9))))
def a4C (_:Nat)(rec_semtyperef1_Compare:Val->Val->Option Int)(_:(List Val)->(List Val)->Option Int)(_:Ent->Ent->Option Int)(a:List Val)(b:List Val):Option Int :=
 bif (a.length:Int) != (b.length:Int)
 then (Option.bind (a0e (a.length:Int) (b.length:Int)) fun r1 =>
 some r1)
 else (Option.bind (y4 (a6p a b rec_semtyperef1_Compare) ((a.length:Int).toNat+1) 0) fun b6 =>
 k9 (fun _ =>
 some 0) (fun y8 =>
 some y8) b6)
def a2e (_:Nat)(rec_semtyperef1_Compare:Val->Val->Option Int)(rec_semtyperef1_values:(List Val)->(List Val)->Option Int)(_:Ent->Ent->Option Int)(a:Ent)(b:Ent):Option Int :=
 Option.bind (rec_semtyperef1_values a.Args b.Args) fun r1 =>
 bif r1 != 0
 then (some r1)
 else (bif a.Fails != b.Fails
 then (bif a.Fails
 then (some (-1))
 else (some 1))
 else (Option.bind (rec_semtyperef1_Compare a.Result b.Result) fun r2 =>
 some r2))
def Y2:Nat->(Val->Val->Option Int)×((List Val)->(List Val)->Option Int)×(Ent->Ent->Option Int)
 | 0=>(fun _ _=>none,fun _ _=>none,fun _ _=>none)
 | n+1=>(a4h n ((Y2 n).1) ((Y2 n).2.1) ((Y2 n).2.2),a4C n ((Y2 n).1) ((Y2 n).2.1) ((Y2 n).2.2),a2e n ((Y2 n).1) ((Y2 n).2.1) ((Y2 n).2.2))
def a0d (n:Nat):Val->Val->Option Int:=(Y2 n).1
def a2s (n:Nat):(List Val)->(List Val)->Option Int:=(Y2 n).2.1
def Z3 (n:Nat):Ent->Ent->Option Int:=(Y2 n).2.2
def a2G (n:Nat)(a:Val)(b:Val):Option Bool :=
 Option.bind (a0d n a b) fun r1 =>
 some (r1==0)
def a2o (l:List Ent)(x1:(List Ent)×Int)(n:Nat)(x2:Int):Option (Fl Int Int) :=
 Option.bind (bif decide (x2<(x1.1.length:Int))
 then (Option.bind (idx x1.1 x2) fun e3 =>
 Option.bind (idx l x1.2) fun _ =>
 Option.bind (l[x1.2.toNat]?) fun e5 =>
 Option.bind (Z3 n e3 e5) fun r6 =>
 some (decide (r6<0)))
 else (some false)) fun q7 =>
 bif q7
 then (some (.next (wr .i64 (x2+1))))
 else (some (.done x2))
def X7 (l:List Ent)(n:Nat)(x1:(List Ent)×Int):Option (Fl ((List Ent)×Int) (List Ent)) :=
 bif decide (x1.2<(l.length:Int))
 then (Option.bind (Option.bind (y4 (a2o l x1 n) ((x1.1.length:Int).toNat+1) 0) fun b8 =>
 Option.bind (bif decide (b8<(x1.1.length:Int))
 then (Option.bind (idx x1.1 b8) fun e9 =>
 Option.bind (idx l x1.2) fun _ =>
 Option.bind (l[x1.2.toNat]?) fun e11 =>
 Option.bind (Z3 n e9 e11) fun r12 =>
 some (r12==0))
 else (some false)) fun q13 =>
 bif q13
 then (some x1.1)
 else (Option.bind (cut x1.1 0 b8) fun y14 =>
 Option.bind (Z4 (0+y14.length) 160) fun _ =>
 Option.bind (idx l x1.2) fun _ =>
 Option.bind (l[x1.2.toNat]?) fun e17 =>
 Option.bind (Z4 (y14.length+([e17]:List Ent).length) 160) fun _ =>
 Option.bind (cut x1.1 b8 (x1.1.length:Int)) fun y19 =>
 Option.bind (Z4 ((y14++([e17]:List Ent)).length+y19.length) 160) fun _ =>
 some ((y14++([e17]:List Ent))++y19))) fun b21 =>
 some (.next (b21,wr .i64 (x1.2+1))))
 else (some (.done x1.1))
def a3m (n:Nat)(l:List Ent):Option (List Ent) :=
 Option.bind (y4 (X7 l n) ((l.length:Int).toNat+1) (([]:List Ent),0)) fun b22 =>
 some b22
def a0t (arity:Int)(l:List Ent)(n:Nat)(x2:Int×(Int×Int×ByteArray×(List Val)×(List Key)×(List Ent)×(List ByteArray))):Option (Fl (Int×(Int×Int×ByteArray×(List Val)×(List Key)×(List Ent)×(List ByteArray))) (Sum (Int×Int×ByteArray×(List Val)×(List Key)×(List Ent)×(List ByteArray)) (Int×(Int×Int×ByteArray×(List Val)×(List Key)×(List Ent)×(List ByteArray))))) :=
 bif decide (x2.1<(l.length:Int))
 then (Option.bind (idx l x2.1) fun _ =>
 Option.bind (l[x2.1.toNat]?) fun e4 =>
 Option.bind (bif (e4.Args.length:Int) != arity
 then (some true)
 else (Option.bind (idx l x2.1) fun _ =>
 Option.bind (l[x2.1.toNat]?) fun e6 =>
 Option.bind (bif e6.Fails
 then (Option.bind (idx l x2.1) fun _ =>
 Option.bind (l[x2.1.toNat]?) fun e8 =>
 Option.bind (a2G n e8.Result (Val.mk 0 0 (⟨#[]⟩:ByteArray) ([]:List Val) ([]:List Key) ([]:List Ent) ([]:List ByteArray))) fun r9 =>
 some (!r9))
 else (some false)) fun q10 =>
 some q10)) fun q11 =>
 bif q11
 then (some (.done (.inr (1,(0,0,(⟨#[]⟩:ByteArray),[],[],[],[])))))
 else (some (.next (wr .i64 (x2.1+1),(x2.2.1,x2.2.2.1,x2.2.2.2.1,x2.2.2.2.2.1,x2.2.2.2.2.2.1,x2.2.2.2.2.2.2.1,x2.2.2.2.2.2.2.2)))))
 else (some (.done (.inl (x2.2.1,x2.2.2.1,x2.2.2.2.1,x2.2.2.2.2.1,x2.2.2.2.2.2.1,x2.2.2.2.2.2.2.1,x2.2.2.2.2.2.2.2))))
def a1O (n:Nat)(arity:Int)(l:List Ent):Option (Val×Int) :=
 Option.bind (bif decide (arity<0)
 then (some true)
 else (some (decide (4<arity)))) fun q1 =>
 bif q1
 then (some (Val.mk 0 0 (⟨#[]⟩:ByteArray) ([]:List Val) ([]:List Key) ([]:List Ent) ([]:List ByteArray),1))
 else (Option.bind (y4 (a0t arity l n) ((l.length:Int).toNat+1) (0,(0,0,(⟨#[]⟩:ByteArray),[],[],[],[]))) fun (b12:Sum (Int×Int×ByteArray×(List Val)×(List Key)×(List Ent)×(List ByteArray)) (Int×(Int×Int×ByteArray×(List Val)×(List Key)×(List Ent)×(List ByteArray)))) =>
 k9 (fun _ =>
 Option.bind (a3m n l) fun r15 =>
 some (Val.mk 9 arity (⟨#[]⟩:ByteArray) ([]:List Val) ([]:List Key) r15 ([]:List ByteArray),0)) (fun y14 =>
 some (Val.mk y14.2.1 y14.2.2.1 y14.2.2.2.1 y14.2.2.2.2.1 y14.2.2.2.2.2.1 y14.2.2.2.2.2.2.1 y14.2.2.2.2.2.2.2,y14.1)) b12)
def a2w (l:List ByteArray)(x1:(List ByteArray)×Int)(x2:Int):Option (Fl Int Int) :=
 Option.bind (bif decide (x2<(x1.1.length:Int))
 then (Option.bind (idx x1.1 x2) fun e3 =>
 Option.bind (idx l x1.2) fun e4 =>
 some (a17 e3 e4))
 else (some false)) fun q5 =>
 bif q5
 then (some (.next (wr .i64 (x2+1))))
 else (some (.done x2))
def a0p (l:List ByteArray)(x1:(List ByteArray)×Int):Option (Fl ((List ByteArray)×Int) (List ByteArray)) :=
 bif decide (x1.2<(l.length:Int))
 then (Option.bind (Option.bind (y4 (a2w l x1) ((x1.1.length:Int).toNat+1) 0) fun b6 =>
 Option.bind (bif decide (b6<(x1.1.length:Int))
 then (Option.bind (idx x1.1 b6) fun e7 =>
 Option.bind (idx l x1.2) fun e8 =>
 some (V4 e7 e8))
 else (some false)) fun q9 =>
 bif q9
 then (some x1.1)
 else (Option.bind (cut x1.1 0 b6) fun y10 =>
 Option.bind (Z4 (0+y10.length) 16) fun _ =>
 Option.bind (idx l x1.2) fun e12 =>
 Option.bind (Z4 (y10.length+([e12]:List ByteArray).length) 16) fun _ =>
 Option.bind (cut x1.1 b6 (x1.1.length:Int)) fun y14 =>
 Option.bind (Z4 ((y10++([e12]:List ByteArray)).length+y14.length) 16) fun _ =>
 some ((y10++([e12]:List ByteArray))++y14))) fun b16 =>
 some (.next (b16,wr .i64 (x1.2+1))))
 else (some (.done x1.1))
def X2 (l:List ByteArray):Option (List ByteArray) :=
 Option.bind (y4 (a0p l) ((l.length:Int).toNat+1) (([]:List ByteArray),0)) fun b17 =>
 some b17
def a3T (v:Val)(names:List ByteArray):Option Val :=
 Option.bind (X2 names) fun r1 =>
 some (Val.mk v.Kind v.Int_ v.Text v.Kids v.Keys v.Entries r1)
def a4s (head:Val)(tail:Val):Option Val :=
 some (Val.mk 7 0 (⟨#[]⟩:ByteArray) ([head,tail]:List Val) ([]:List Key) ([]:List Ent) ([]:List ByteArray))
def a0G (s:Semtypebase_Source):Option ((List ByteArray)×Semtypebase_Source) :=
 Option.bind (y2 s 3) fun r1 =>
 Option.bind (bif r1.1==1
 then (Option.bind (a0n r1.2) fun r2 =>
 Option.bind (Z4 (0+([r2.1]:List ByteArray).length) 16) fun _ =>
 Option.bind (y2 r2.2 2) fun r4 =>
 bif r4.1==1
 then (Option.bind (a0n r4.2) fun r5 =>
 Option.bind (Z4 (([r2.1]:List ByteArray).length+([r5.1]:List ByteArray).length) 16) fun _ =>
 some (([r2.1]:List ByteArray)++([r5.1]:List ByteArray),r5.2))
 else (some (([r2.1]:List ByteArray),r4.2)))
 else (some ([],r1.2))) fun b7 =>
 Option.bind (X2 b7.1) fun r8 =>
 some (r8,b7.2)
def a2g (s:Semtypebase_Source):Option (Key×Semtypebase_Source) :=
 Option.bind (y2 s 2) fun r1 =>
 bif r1.1==0
 then (Option.bind (K4 r1.2) fun r2 =>
 some (Key.mk 0 r2.1,r2.2))
 else (Option.bind (W8 r1.2) fun r3 =>
 some (Key.mk 1 r3.1,r3.2))
def a1c (t:Int)(rec_semtypebase_Source_Value:Semtypebase_Source->Int->Option (Val×Semtypebase_Source))(x4:(List Val)×Int×Semtypebase_Source):Option (Fl ((List Val)×Int×Semtypebase_Source) ((List Val)×Semtypebase_Source)) :=
 bif decide (0<x4.2.1)
 then (Option.bind (rec_semtypebase_Source_Value x4.2.2 (wr .i64 (t-1))) fun r5 =>
 Option.bind (Z4 (x4.1.length+([r5.1]:List Val).length) 128) fun _ =>
 some (.next (x4.1++([r5.1]:List Val),wr .i64 (x4.2.1-1),r5.2)))
 else (some (.done (x4.1,x4.2.2)))
def a09 (t:Int)(rec_semtypebase_Source_Value:Semtypebase_Source->Int->Option (Val×Semtypebase_Source))(x20:(List Key)×(List Val)×Int×Semtypebase_Source):Option (Fl ((List Key)×(List Val)×Int×Semtypebase_Source) ((List Key)×(List Val)×Semtypebase_Source)) :=
 bif decide (0<x20.2.2.1)
 then (Option.bind (a2g x20.2.2.2) fun r21 =>
 Option.bind (Z4 (x20.1.length+([r21.1]:List Key).length) 24) fun _ =>
 Option.bind (rec_semtypebase_Source_Value r21.2 (wr .i64 (t-1))) fun r23 =>
 Option.bind (Z4 (x20.2.1.length+([r23.1]:List Val).length) 128) fun _ =>
 some (.next (x20.1++([r21.1]:List Key),x20.2.1++([r23.1]:List Val),wr .i64 (x20.2.2.1-1),r23.2)))
 else (some (.done (x20.1,x20.2.1,x20.2.2.2)))
def a1e (t:Int)(r27:Int×Semtypebase_Source)(rec_semtypebase_Source_entry:Semtypebase_Source->Int->Int->Option (Ent×Semtypebase_Source))(x29:(List Ent)×Int×Semtypebase_Source):Option (Fl ((List Ent)×Int×Semtypebase_Source) ((List Ent)×Semtypebase_Source)) :=
 bif decide (0<x29.2.1)
 then (Option.bind (rec_semtypebase_Source_entry x29.2.2 r27.1 (wr .i64 (t-1))) fun r30 =>
 Option.bind (Z4 (x29.1.length+([r30.1]:List Ent).length) 160) fun _ =>
 some (.next (x29.1++([r30.1]:List Ent),wr .i64 (x29.2.1-1),r30.2)))
 else (some (.done (x29.1,x29.2.2)))
def a1a (height:Int)(rec_semtypebase_Source_Value:Semtypebase_Source->Int->Option (Val×Semtypebase_Source))(x1:Int×Semtypebase_Source×((List Val)×Bool×Int×Int×ByteArray×(List Val)×(List Key)×(List Ent)×(List ByteArray))):Option (Fl (Int×Semtypebase_Source×((List Val)×Bool×Int×Int×ByteArray×(List Val)×(List Key)×(List Ent)×(List ByteArray))) (Semtypebase_Source×((List Val)×Bool×Int×Int×ByteArray×(List Val)×(List Key)×(List Ent)×(List ByteArray)))) :=
 bif decide (0<x1.1)
 then (Option.bind (rec_semtypebase_Source_Value x1.2.1 height) fun r2 =>
 Option.bind (Z4 (x1.2.2.1.length+([r2.1]:List Val).length) 128) fun _ =>
 some (.next (wr .i64 (x1.1-1),r2.2,(x1.2.2.1++([r2.1]:List Val),x1.2.2.2.1,x1.2.2.2.2.1,x1.2.2.2.2.2.1,x1.2.2.2.2.2.2.1,x1.2.2.2.2.2.2.2.1,x1.2.2.2.2.2.2.2.2.1,x1.2.2.2.2.2.2.2.2.2.1,x1.2.2.2.2.2.2.2.2.2.2))))
 else (some (.done (x1.2.1,(x1.2.2.1,x1.2.2.2.1,x1.2.2.2.2.1,x1.2.2.2.2.2.1,x1.2.2.2.2.2.2.1,x1.2.2.2.2.2.2.2.1,x1.2.2.2.2.2.2.2.2.1,x1.2.2.2.2.2.2.2.2.2.1,x1.2.2.2.2.2.2.2.2.2.2))))
def a2A (_:Nat)(_:Semtypebase_Source->Int->Option (Val×Semtypebase_Source))(rec_semtypebase_Source_value:Semtypebase_Source->Int->Option (Val×Semtypebase_Source))(_:Semtypebase_Source->Int->Int->Option (Ent×Semtypebase_Source))(s:Semtypebase_Source)(height:Int):Option (Val×Semtypebase_Source) :=
 Option.bind (rec_semtypebase_Source_value s height) fun r1 =>
 Option.bind (a0G r1.2) fun r2 =>
 some (Val.mk r1.1.Kind r1.1.Int_ r1.1.Text r1.1.Kids r1.1.Keys r1.1.Entries r2.1,r2.2)
def a0x (n:Nat)(rec_semtypebase_Source_Value:Semtypebase_Source->Int->Option (Val×Semtypebase_Source))(_:Semtypebase_Source->Int->Option (Val×Semtypebase_Source))(rec_semtypebase_Source_entry:Semtypebase_Source->Int->Int->Option (Ent×Semtypebase_Source))(d:Semtypebase_Source)(t:Int):Option (Val×Semtypebase_Source) :=
 bif decide (t<=1)
 then (Option.bind (J7 d) fun r1 =>
 some (r1.1,r1.2))
 else (Option.bind (y2 d 6) fun r2 =>
 Option.bind (bif r2.1==1
 then (Option.bind (y2 r2.2 4) fun r3 =>
 Option.bind (y4 (a1c t rec_semtypebase_Source_Value) (r3.1.toNat+2) ([],r3.1,r3.2)) fun b7 =>
 Option.bind (a2I b7.1) fun r8 =>
 some (.inr (b7.2,(r8.Kind,r8.Int_,r8.Text,r8.Kids,r8.Keys,r8.Entries,r8.Labels))))
 else (bif r2.1==2
 then (Option.bind (W3) fun r9 =>
 Option.bind (bif decide (2<t)
 then (Option.bind (y2 r2.2 2) fun r10 =>
 some (r10.1==1,r10.2))
 else (some (false,r2.2))) fun b11 =>
 Option.bind (bif b11.1
 then (Option.bind (rec_semtypebase_Source_Value b11.2 (wr .i64 (t-2))) fun r12 =>
 Option.bind (W3) fun r13 =>
 Option.bind (a4s r12.1 r13) fun r14 =>
 some (r12.2,r14))
 else (some (b11.2,r9))) fun b15 =>
 Option.bind (a0G b15.1) fun r16 =>
 Option.bind (rec_semtypebase_Source_Value r16.2 (wr .i64 (t-1))) fun r17 =>
 Option.bind (a4s r17.1 (Val.mk b15.2.Kind b15.2.Int_ b15.2.Text b15.2.Kids b15.2.Keys b15.2.Entries r16.1)) fun r18 =>
 some (.inr (r17.2,(r18.Kind,r18.Int_,r18.Text,r18.Kids,r18.Keys,r18.Entries,r18.Labels))))
 else (bif r2.1==3
 then (Option.bind (y2 r2.2 3) fun r19 =>
 Option.bind (y4 (a09 t rec_semtypebase_Source_Value) (r19.1.toNat+2) ([],[],r19.1,r19.2)) fun b25 =>
 Option.bind (a1I b25.1 b25.2.1) fun r26 =>
 bif r26.2==0
 then (some (.inr (b25.2.2,(r26.1.Kind,r26.1.Int_,r26.1.Text,r26.1.Kids,r26.1.Keys,r26.1.Entries,r26.1.Labels))))
 else (some (.inl (b25.2.2,(0,0,(⟨#[]⟩:ByteArray),([]:List Val),([]:List Key),([]:List Ent),([]:List ByteArray))))))
 else (bif r2.1==4
 then (Option.bind (y2 r2.2 3) fun r27 =>
 Option.bind (y2 r27.2 3) fun r28 =>
 Option.bind (y4 (a1e t r27 rec_semtypebase_Source_entry) (r28.1.toNat+2) ([],r28.1,r28.2)) fun b32 =>
 Option.bind (a1O n r27.1 b32.1) fun r33 =>
 bif r33.2==0
 then (some (.inr (b32.2,(r33.1.Kind,r33.1.Int_,r33.1.Text,r33.1.Kids,r33.1.Keys,r33.1.Entries,r33.1.Labels))))
 else (some (.inl (b32.2,(0,0,(⟨#[]⟩:ByteArray),([]:List Val),([]:List Key),([]:List Ent),([]:List ByteArray))))))
 else (some (.inl (r2.2,(0,0,(⟨#[]⟩:ByteArray),([]:List Val),([]:List Key),([]:List Ent),([]:List ByteArray))))))))) fun (b34:Sum (Semtypebase_Source×(Int×Int×ByteArray×(List Val)×(List Key)×(List Ent)×(List ByteArray))) (Semtypebase_Source×(Int×Int×ByteArray×(List Val)×(List Key)×(List Ent)×(List ByteArray)))) =>
 k9 (fun x35 =>
 Option.bind (J7 x35.1) fun r37 =>
 some (r37.1,r37.2)) (fun y36 =>
 some (Val.mk y36.2.1 y36.2.2.1 y36.2.2.2.1 y36.2.2.2.2.1 y36.2.2.2.2.2.1 y36.2.2.2.2.2.2.1 y36.2.2.2.2.2.2.2,y36.1)) b34)
def a2C (_:Nat)(rec_semtypebase_Source_Value:Semtypebase_Source->Int->Option (Val×Semtypebase_Source))(_:Semtypebase_Source->Int->Option (Val×Semtypebase_Source))(_:Semtypebase_Source->Int->Int->Option (Ent×Semtypebase_Source))(s:Semtypebase_Source)(n_1:Int)(height:Int):Option (Ent×Semtypebase_Source) :=
 Option.bind (y4 (a1a height rec_semtypebase_Source_Value) (n_1.toNat+2) (n_1,s,([],false,0,0,(⟨#[]⟩:ByteArray),[],[],[],[]))) fun b4 =>
 Option.bind (y2 b4.1 4) fun r5 =>
 bif r5.1==1
 then (some (Ent.mk b4.2.1 true (Val.mk b4.2.2.2.1 b4.2.2.2.2.1 b4.2.2.2.2.2.1 b4.2.2.2.2.2.2.1 b4.2.2.2.2.2.2.2.1 b4.2.2.2.2.2.2.2.2.1 b4.2.2.2.2.2.2.2.2.2),r5.2))
 else (Option.bind (rec_semtypebase_Source_Value r5.2 height) fun r6 =>
 some (Ent.mk b4.2.1 b4.2.2.1 r6.1,r6.2))
def y9:Nat->(Semtypebase_Source->Int->Option (Val×Semtypebase_Source))×(Semtypebase_Source->Int->Option (Val×Semtypebase_Source))×(Semtypebase_Source->Int->Int->Option (Ent×Semtypebase_Source))
 | 0=>(fun _ _=>none,fun _ _=>none,fun _ _ _=>none)
 | n+1=>(a2A n ((y9 n).1) ((y9 n).2.1) ((y9 n).2.2),a0x n ((y9 n).1) ((y9 n).2.1) ((y9 n).2.2),a2C n ((y9 n).1) ((y9 n).2.1) ((y9 n).2.2))
def a1K (n:Nat):Semtypebase_Source->Int->Option (Val×Semtypebase_Source):=(y9 n).1
def a9U (n:Nat):Semtypebase_Source->Int->Option (Val×Semtypebase_Source):=(y9 n).2.1
def b0t (n:Nat):Semtypebase_Source->Int->Int->Option (Ent×Semtypebase_Source):=(y9 n).2.2
def a2E (c:Int):Option Bool :=
 Option.bind (bif decide (65<=c)
 then (some (decide (c<=90)))
 else (some false)) fun q1 =>
 some q1
def a2R (s:ByteArray)(x5:Int):Option (Fl Int (Sum Unit Bool)) :=
 bif decide (x5<(s.size:Int))
 then (Option.bind (a4D s x5) fun e6 =>
 Option.bind (a1V (e6.toNat:Int)) fun r7 =>
 Option.bind (bif !r7
 then (Option.bind (a4D s x5) fun e8 =>
 Option.bind (a2E (e8.toNat:Int)) fun r9 =>
 some (!r9))
 else (some false)) fun q10 =>
 Option.bind (bif q10
 then (Option.bind (a4D s x5) fun e11 =>
 Option.bind (a2H (e11.toNat:Int)) fun r12 =>
 some (!r12))
 else (some false)) fun q13 =>
 Option.bind (bif q13
 then (Option.bind (a4D s x5) fun e14 =>
 some ((e14.toNat:Int) != 95))
 else (some false)) fun q15 =>
 bif q15
 then (some (.done (.inr false)))
 else (some (.next (wr .i64 (x5+1)))))
 else (some (.done (.inl ())))
def a1k (s:ByteArray):Option Bool :=
 Option.bind (bif decide ((s.size:Int)<1)
 then (some true)
 else (some (decide (16<(s.size:Int))))) fun q1 =>
 Option.bind (bif q1
 then (some true)
 else (Option.bind (a4D s 0) fun e2 =>
 Option.bind (a2E (e2.toNat:Int)) fun r3 =>
 some (!r3))) fun q4 =>
 bif q4
 then (some false)
 else (Option.bind (y4 (a2R s) ((s.size:Int).toNat+1) 1) fun b16 =>
 k9 (fun _ =>
 some true) (fun y18 =>
 some y18) b16)
def a3n (d:Val)(x1:Int):Option (Fl Int (Sum Unit Bool)) :=
 bif decide (x1<(d.Labels.length:Int))
 then (Option.bind (idx d.Labels x1) fun e2 =>
 Option.bind (a1k e2) fun r3 =>
 Option.bind (bif !r3
 then (some true)
 else (Option.bind (bif decide (0<x1)
 then (Option.bind (idx d.Labels (wr .i64 (x1-1))) fun e4 =>
 Option.bind (idx d.Labels x1) fun e5 =>
 some (!(a17 e4 e5)))
 else (some false)) fun q6 =>
 some q6)) fun q7 =>
 bif q7
 then (some (.done (.inr false)))
 else (some (.next (wr .i64 (x1+1)))))
 else (some (.done (.inl ())))
def a3o (d:Val)(x31:Int):Option (Fl Int (Sum Unit Bool)) :=
 bif decide (x31<(d.Keys.length:Int))
 then (Option.bind (idx d.Keys x31) fun e32 =>
 Option.bind (a05 e32) fun r33 =>
 Option.bind (bif !r33
 then (some true)
 else (Option.bind (bif decide (0<x31)
 then (Option.bind (idx d.Keys (wr .i64 (x31-1))) fun e34 =>
 Option.bind (idx d.Keys x31) fun e35 =>
 Option.bind (V3 e34 e35) fun r36 =>
 some (decide (0<=r36)))
 else (some false)) fun q37 =>
 some q37)) fun q38 =>
 bif q38
 then (some (.done (.inr false)))
 else (some (.next (wr .i64 (x31+1)))))
 else (some (.done (.inl ())))
def a3r (d:Val)(n:Nat)(x43:Int):Option (Fl Int (Sum Unit Bool)) :=
 bif decide (x43<(d.Entries.length:Int))
 then (Option.bind (idx d.Entries x43) fun e44 =>
 Option.bind (bif (e44.Args.length:Int) != d.Int_
 then (some true)
 else (Option.bind (bif e44.Fails
 then (Option.bind (a2G n e44.Result (Val.mk 0 0 (⟨#[]⟩:ByteArray) ([]:List Val) ([]:List Key) ([]:List Ent) ([]:List ByteArray))) fun r45 =>
 some (!r45))
 else (some false)) fun q46 =>
 some q46)) fun q47 =>
 Option.bind (bif q47
 then (some true)
 else (Option.bind (bif decide (0<x43)
 then (Option.bind (idx d.Entries (wr .i64 (x43-1))) fun e48 =>
 Option.bind (Z3 n e48 e44) fun r49 =>
 some (decide (0<=r49)))
 else (some false)) fun q50 =>
 some q50)) fun q51 =>
 bif q51
 then (some (.done (.inr false)))
 else (some (.next (wr .i64 (x43+1)))))
 else (some (.done (.inl ())))
def a4y (n:Nat)(d:Val):Option Bool :=
 Option.bind (y4 (a3n d) ((d.Labels.length:Int).toNat+1) 0) fun b8 =>
 k9 (fun _ =>
 Option.bind (bif d.Kind==1
 then (some true)
 else (some (d.Kind==4))) fun q11 =>
 Option.bind (bif q11
 then (some true)
 else (some (d.Kind==9))) fun q12 =>
 Option.bind (bif d.Kind==2
 then (some true)
 else (some (d.Kind==3))) fun q13 =>
 Option.bind (bif d.Kind==6
 then (some true)
 else (some (d.Kind==7))) fun q14 =>
 Option.bind (bif q14
 then (some true)
 else (some (d.Kind==8))) fun q15 =>
 Option.bind (bif !q12
 then (some (d.Int_ != 0))
 else (some false)) fun q16 =>
 Option.bind (bif q16
 then (some true)
 else (Option.bind (bif !q13
 then (some (!(V4 d.Text (⟨#[]⟩:ByteArray))))
 else (some false)) fun q17 =>
 some q17)) fun q18 =>
 Option.bind (bif q18
 then (some true)
 else (Option.bind (bif !q15
 then (some (decide (0<(d.Kids.length:Int))))
 else (some false)) fun q19 =>
 some q19)) fun q20 =>
 Option.bind (bif q20
 then (some true)
 else (Option.bind (bif d.Kind != 8
 then (some (decide (0<(d.Keys.length:Int))))
 else (some false)) fun q21 =>
 some q21)) fun q22 =>
 Option.bind (bif q22
 then (some true)
 else (Option.bind (bif d.Kind != 9
 then (some (decide (0<(d.Entries.length:Int))))
 else (some false)) fun q23 =>
 some q23)) fun q24 =>
 bif q24
 then (some false)
 else (Option.bind (bif d.Kind==1
 then (some (d.Kind==1))
 else (some (d.Kind==5))) fun b25 =>
 bif b25
 then (some true)
 else (bif d.Kind==2
 then (some (decide ((d.Text.size:Int)<=64)))
 else (bif d.Kind==3
 then (Option.bind (a1x d.Text) fun r26 =>
 some r26)
 else (bif d.Kind==4
 then (some (decide (0<=d.Int_)))
 else (bif d.Kind==6
 then (some (decide ((d.Kids.length:Int)<=4)))
 else (bif d.Kind==7
 then (Option.bind (bif (d.Kids.length:Int)==2
 then (Option.bind (idx d.Kids 1) fun e27 =>
 Option.bind (bif e27.Kind==5
 then (some true)
 else (Option.bind (idx d.Kids 1) fun e28 =>
 some (e28.Kind==7))) fun q29 =>
 some q29)
 else (some false)) fun q30 =>
 some q30)
 else (bif d.Kind==8
 then (Option.bind (y4 (a3o d) ((d.Keys.length:Int).toNat+1) 0) fun b39 =>
 k9 (fun _ =>
 some ((d.Keys.length:Int)==(d.Kids.length:Int))) (fun y41 =>
 some y41) b39)
 else (bif d.Kind==9
 then (Option.bind (bif decide (d.Int_<0)
 then (some true)
 else (some (decide (4<d.Int_)))) fun q42 =>
 bif q42
 then (some false)
 else (Option.bind (y4 (a3r d n) ((d.Entries.length:Int).toNat+1) 0) fun b52 =>
 k9 (fun _ =>
 some true) (fun y54 =>
 some y54) b52))
 else (some false)))))))))) (fun y10 =>
 some y10) b8
def a2W (v:Val)(rec_semtyperef1_Valid:Val->Option Bool)(x2:Int):Option (Fl Int (Sum Unit Bool)) :=
 bif decide (x2<(v.Kids.length:Int))
 then (Option.bind (idx v.Kids x2) fun e3 =>
 Option.bind (rec_semtyperef1_Valid e3) fun r4 =>
 bif !r4
 then (some (.done (.inr false)))
 else (some (.next (wr .i64 (x2+1)))))
 else (some (.done (.inl ())))
def a2U (rec_semtyperef1_Valid:Val->Option Bool)(e9:Ent)(x10:Int):Option (Fl Int (Sum Unit Bool)) :=
 bif decide (x10<(e9.Args.length:Int))
 then (Option.bind (idx e9.Args x10) fun e11 =>
 Option.bind (rec_semtyperef1_Valid e11) fun r12 =>
 bif !r12
 then (some (.done (.inr false)))
 else (some (.next (wr .i64 (x10+1)))))
 else (some (.done (.inl ())))
def a2K (v:Val)(rec_semtyperef1_Valid:Val->Option Bool)(x8:Int):Option (Fl Int (Sum Unit Bool)) :=
 bif decide (x8<(v.Entries.length:Int))
 then (Option.bind (idx v.Entries x8) fun e9 =>
 Option.bind (y4 (a2U rec_semtyperef1_Valid e9) ((e9.Args.length:Int).toNat+1) 0) fun b13 =>
 k9 (fun _ =>
 Option.bind (bif !e9.Fails
 then (Option.bind (rec_semtyperef1_Valid e9.Result) fun r16 =>
 some (!r16))
 else (some false)) fun q17 =>
 bif q17
 then (some (.done (.inr false)))
 else (some (.next (wr .i64 (x8+1))))) (fun y15 =>
 some (.done (.inr y15))) b13)
 else (some (.done (.inl ())))
def a4R (n:Nat)(rec_semtyperef1_Valid:Val->Option Bool)(v:Val):Option Bool :=
 Option.bind (a4y n v) fun r1 =>
 bif !r1
 then (some false)
 else (Option.bind (y4 (a2W v rec_semtyperef1_Valid) ((v.Kids.length:Int).toNat+1) 0) fun b5 =>
 k9 (fun _ =>
 Option.bind (y4 (a2K v rec_semtyperef1_Valid) ((v.Entries.length:Int).toNat+1) 0) fun b18 =>
 k9 (fun _ =>
 some true) (fun y20 =>
 some y20) b18) (fun y7 =>
 some y7) b5)
def a0g:Nat->Val->Option Bool
 | 0=>fun _=>none
 | n+1=>a4R n (a0g n)
def a0y (t:Api_Type)(a3_3:Int)(e4:Api_TypeNode)(rec_semtypebase_Source_Near:Semtypebase_Source->Api_Type->Int->Int->Option (Val×Semtypebase_Source))(x21:Int×Semtypebase_Source×(Int×Int×ByteArray×(List Val)×(List Key)×(List Ent)×(List ByteArray))):Option (Fl (Int×Semtypebase_Source×(Int×Int×ByteArray×(List Val)×(List Key)×(List Ent)×(List ByteArray))) (Semtypebase_Source×(Int×Int×ByteArray×(List Val)×(List Key)×(List Ent)×(List ByteArray)))) :=
 bif decide (x21.1<(e4.Kids.length:Int))
 then (Option.bind (idx e4.Kids x21.1) fun e22 =>
 Option.bind (rec_semtypebase_Source_Near x21.2.1 t e22 (wr .i64 (a3_3-1))) fun r23 =>
 Option.bind (Z4 (x21.2.2.2.2.2.1.length+([r23.1]:List Val).length) 128) fun _ =>
 some (.next (wr .i64 (x21.1+1),r23.2,(x21.2.2.1,x21.2.2.2.1,x21.2.2.2.2.1,x21.2.2.2.2.2.1++([r23.1]:List Val),x21.2.2.2.2.2.2.1,x21.2.2.2.2.2.2.2.1,x21.2.2.2.2.2.2.2.2))))
 else (some (.done (x21.2.1,(x21.2.2.1,x21.2.2.2.1,x21.2.2.2.2.1,x21.2.2.2.2.2.1,x21.2.2.2.2.2.2.1,x21.2.2.2.2.2.2.2.1,x21.2.2.2.2.2.2.2.2))))
def V2 (t:Api_Type)(e4:Api_TypeNode)(x40:Int×Val):Option (Fl (Int×Val) Val) :=
 bif decide (x40.1<(e4.Kids.length:Int))
 then (Option.bind (Option.bind (idx e4.Kids x40.1) fun e41 =>
 Option.bind (idx t.Nodes e41) fun e42 =>
 bif e42.Kind==19
 then (Option.bind (Z4 (0+x40.2.Labels.length) 16) fun _ =>
 Option.bind (idx e4.Kids x40.1) fun e44 =>
 Option.bind (idx t.Nodes e44) fun e45 =>
 Option.bind (Z4 (x40.2.Labels.length+([e45.Text]:List ByteArray).length) 16) fun _ =>
 Option.bind (X2 (x40.2.Labels++([e45.Text]:List ByteArray))) fun r47 =>
 some (Val.mk x40.2.Kind x40.2.Int_ x40.2.Text x40.2.Kids x40.2.Keys x40.2.Entries r47))
 else (some x40.2)) fun b48 =>
 some (.next (wr .i64 (x40.1+1),b48)))
 else (some (.done x40.2))
def J5 (t:Api_Type)(a2_2:Api_TypeNode)(a3_3:Int)(rec_semtypebase_Source_Near:Semtypebase_Source->Api_Type->Int->Int->Option (Val×Semtypebase_Source))(x3:Int×Semtypebase_Source×((List Val)×Bool×Int×Int×ByteArray×(List Val)×(List Key)×(List Ent)×(List ByteArray))):Option (Fl (Int×Semtypebase_Source×((List Val)×Bool×Int×Int×ByteArray×(List Val)×(List Key)×(List Ent)×(List ByteArray))) (Semtypebase_Source×((List Val)×Bool×Int×Int×ByteArray×(List Val)×(List Key)×(List Ent)×(List ByteArray)))) :=
 bif decide (x3.1<(wr .i64 ((a2_2.Kids.length:Int)-1)))
 then (Option.bind (idx a2_2.Kids x3.1) fun e4 =>
 Option.bind (rec_semtypebase_Source_Near x3.2.1 t e4 (wr .i64 (a3_3-1))) fun r5 =>
 Option.bind (Z4 (x3.2.2.1.length+([r5.1]:List Val).length) 128) fun _ =>
 some (.next (wr .i64 (x3.1+1),r5.2,(x3.2.2.1++([r5.1]:List Val),x3.2.2.2.1,x3.2.2.2.2.1,x3.2.2.2.2.2.1,x3.2.2.2.2.2.2.1,x3.2.2.2.2.2.2.2.1,x3.2.2.2.2.2.2.2.2.1,x3.2.2.2.2.2.2.2.2.2.1,x3.2.2.2.2.2.2.2.2.2.2))))
 else (some (.done (x3.2.1,(x3.2.2.1,x3.2.2.2.1,x3.2.2.2.2.1,x3.2.2.2.2.2.1,x3.2.2.2.2.2.2.1,x3.2.2.2.2.2.2.2.1,x3.2.2.2.2.2.2.2.2.1,x3.2.2.2.2.2.2.2.2.2.1,x3.2.2.2.2.2.2.2.2.2.2))))
def V6 (t:Api_Type)(a2_2:Api_TypeNode)(a3_3:Int)(rec_semtypebase_Source_Near:Semtypebase_Source->Api_Type->Int->Int->Option (Val×Semtypebase_Source))(x2:(List Ent)×Int×Semtypebase_Source):Option (Fl ((List Ent)×Int×Semtypebase_Source) ((List Ent)×Semtypebase_Source)) :=
 bif decide (0<x2.2.1)
 then (Option.bind (y4 (J5 t a2_2 a3_3 rec_semtypebase_Source_Near) ((wr .i64 ((a2_2.Kids.length:Int)-1)).toNat+1) (0,x2.2.2,([],false,0,0,(⟨#[]⟩:ByteArray),[],[],[],[]))) fun b7 =>
 Option.bind (y2 b7.1 6) fun r8 =>
 Option.bind (bif r8.1==1
 then (some (r8.2,(b7.2.1,true,b7.2.2.2.1,b7.2.2.2.2.1,b7.2.2.2.2.2.1,b7.2.2.2.2.2.2.1,b7.2.2.2.2.2.2.2.1,b7.2.2.2.2.2.2.2.2.1,b7.2.2.2.2.2.2.2.2.2)))
 else (Option.bind (idx a2_2.Kids (wr .i64 ((a2_2.Kids.length:Int)-1))) fun e9 =>
 Option.bind (rec_semtypebase_Source_Near r8.2 t e9 (wr .i64 (a3_3-1))) fun r10 =>
 some (r10.2,(b7.2.1,b7.2.2.1,r10.1.Kind,r10.1.Int_,r10.1.Text,r10.1.Kids,r10.1.Keys,r10.1.Entries,r10.1.Labels)))) fun b11 =>
 Option.bind (Z4 (x2.1.length+([Ent.mk b11.2.1 b11.2.2.1 (Val.mk b11.2.2.2.1 b11.2.2.2.2.1 b11.2.2.2.2.2.1 b11.2.2.2.2.2.2.1 b11.2.2.2.2.2.2.2.1 b11.2.2.2.2.2.2.2.2.1 b11.2.2.2.2.2.2.2.2.2)]:List Ent).length) 160) fun _ =>
 some (.next (x2.1++([Ent.mk b11.2.1 b11.2.2.1 (Val.mk b11.2.2.2.1 b11.2.2.2.2.1 b11.2.2.2.2.2.1 b11.2.2.2.2.2.2.1 b11.2.2.2.2.2.2.2.1 b11.2.2.2.2.2.2.2.2.1 b11.2.2.2.2.2.2.2.2.2)]:List Ent),wr .i64 (x2.2.1-1),b11.1)))
 else (some (.done (x2.1,x2.2.2)))
def a0c (t:Api_Type)(a2_2:Api_TypeNode)(a3_3:Int)(rec_semtypebase_Source_Near:Semtypebase_Source->Api_Type->Int->Int->Option (Val×Semtypebase_Source))(x1:(List Key)×(List Val)×Int×Semtypebase_Source):Option (Fl ((List Key)×(List Val)×Int×Semtypebase_Source) ((List Key)×(List Val)×Semtypebase_Source)) :=
 bif decide (x1.2.2.1<(a2_2.Fields.length:Int))
 then (Option.bind (Option.bind (Option.bind (idx a2_2.Fields x1.2.2.1) fun e2 =>
 bif e2.Optional
 then (Option.bind (y2 x1.2.2.2 2) fun r3 =>
 some (r3.1==1,r3.2))
 else (some (false,x1.2.2.2))) fun b4 =>
 bif b4.1
 then (some (x1.1,x1.2.1,b4.2))
 else (Option.bind (idx a2_2.Fields x1.2.2.1) fun e5 =>
 Option.bind (Z4 (x1.1.length+([e5.Key_]:List Key).length) 24) fun _ =>
 Option.bind (idx a2_2.Fields x1.2.2.1) fun e7 =>
 Option.bind (rec_semtypebase_Source_Near b4.2 t e7.Node (wr .i64 (a3_3-1))) fun r8 =>
 Option.bind (Z4 (x1.2.1.length+([r8.1]:List Val).length) 128) fun _ =>
 some (x1.1++([e5.Key_]:List Key),x1.2.1++([r8.1]:List Val),r8.2))) fun b10 =>
 some (.next (b10.1,b10.2.1,wr .i64 (x1.2.2.1+1),b10.2.2)))
 else (some (.done (x1.1,x1.2.1,x1.2.2.2)))
def a2N (n:Nat)(_:Semtypebase_Source->Api_Type->Int->Int->Option (Val×Semtypebase_Source))(rec_semtypebase_Source_near:Semtypebase_Source->Api_Type->Int->Int->Option (Val×Semtypebase_Source))(_:Semtypebase_Source->Api_Type->Api_TypeNode->Int->Option (Val×Semtypebase_Source))(_:Semtypebase_Source->Api_Type->Api_TypeNode->Int->Option (Val×Semtypebase_Source))(s:Semtypebase_Source)(t:Api_Type)(k:Int)(height:Int):Option (Val×Semtypebase_Source) :=
 Option.bind (rec_semtypebase_Source_near s t k height) fun r1 =>
 Option.bind (a0g n r1.1) fun r2 =>
 bif !r2
 then (Option.bind (J7 r1.2) fun r3 =>
 some (r3.1,r3.2))
 else (some (r1.1,r1.2))
def a0F (n:Nat)(rec_semtypebase_Source_Near:Semtypebase_Source->Api_Type->Int->Int->Option (Val×Semtypebase_Source))(rec_semtypebase_Source_near:Semtypebase_Source->Api_Type->Int->Int->Option (Val×Semtypebase_Source))(rec_semtypebase_Source_nearFunction:Semtypebase_Source->Api_Type->Api_TypeNode->Int->Option (Val×Semtypebase_Source))(rec_semtypebase_Source_nearMap:Semtypebase_Source->Api_Type->Api_TypeNode->Int->Option (Val×Semtypebase_Source))(d:Semtypebase_Source)(t:Api_Type)(a2_2:Int)(a3_3:Int):Option (Val×Semtypebase_Source) :=
 Option.bind (bif decide (a3_3<=0)
 then (some true)
 else (some (decide (a2_2<0)))) fun q1 =>
 Option.bind (bif q1
 then (some true)
 else (some (decide ((t.Nodes.length:Int)<=a2_2)))) fun q2 =>
 bif q2
 then (Option.bind (J7 d) fun r3 =>
 some (r3.1,r3.2))
 else (Option.bind (idx t.Nodes a2_2) fun e4 =>
 bif e4.Kind==3
 then (Option.bind (b3E .i64 e4.Hi 2) fun d5 =>
 Option.bind (b3E .i64 e4.Lo 2) fun d6 =>
 Option.bind (y2 d 3) fun r7 =>
 Option.bind (idx ([e4.Lo,e4.Hi,wr .i64 (e4.Lo+(wr .i64 (d5-d6)))]:List Int) r7.1) fun _ =>
 Option.bind (([e4.Lo,e4.Hi,wr .i64 (e4.Lo+(wr .i64 (d5-d6)))]:List Int)[r7.1.toNat]?) fun e9 =>
 Option.bind (a7l e9) fun r10 =>
 some (r10,r7.2))
 else (bif e4.Kind==4
 then (Option.bind (a3I e4.Text) fun r11 =>
 some (r11,d))
 else (bif e4.Kind==5
 then (Option.bind (W8 d) fun r12 =>
 Option.bind (a3I r12.1) fun r13 =>
 some (r13,r12.2))
 else (bif e4.Kind==6
 then (Option.bind (a4q e4.Text) fun r14 =>
 some (r14,d))
 else (bif e4.Kind==7
 then (Option.bind (K4 d) fun r15 =>
 Option.bind (a4q r15.1) fun r16 =>
 some (r16,r15.2))
 else (bif e4.Kind==8
 then (Option.bind (y2 d 2) fun r17 =>
 Option.bind (a7a r17.1) fun r18 =>
 some (r18,r17.2))
 else (bif e4.Kind==9
 then (Option.bind (W3) fun r19 =>
 some (r19,d))
 else (Option.bind (bif e4.Kind==10
 then (some (e4.Kind==10))
 else (some (e4.Kind==12))) fun b20 =>
 bif b20
 then (Option.bind (y4 (a0y t a3_3 e4 rec_semtypebase_Source_Near) ((e4.Kids.length:Int).toNat+1) (0,d,(0,0,(⟨#[]⟩:ByteArray),[],[],[],[]))) fun b25 =>
 Option.bind (bif e4.Kind==12
 then (Option.bind (idx b25.2.2.2.2.1 1) fun _ =>
 Option.bind (b25.2.2.2.2.1[(1:Int).toNat]?) fun e27 =>
 bif e27.Kind != 7
 then (Option.bind (W3) fun r28 =>
 Option.bind (idx b25.2.2.2.2.1 1) fun _ =>
 Option.bind (b25.2.2.2.2.1[(1:Int).toNat]?) fun _ =>
 some (7,b25.2.2.1,b25.2.2.2.1,b25.2.2.2.2.1.set ((1:Int).toNat) r28,b25.2.2.2.2.2.1,b25.2.2.2.2.2.2.1,b25.2.2.2.2.2.2.2))
 else (some (7,b25.2.2.1,b25.2.2.2.1,b25.2.2.2.2.1,b25.2.2.2.2.2.1,b25.2.2.2.2.2.2.1,b25.2.2.2.2.2.2.2)))
 else (some (6,b25.2.2.1,b25.2.2.2.1,b25.2.2.2.2.1,b25.2.2.2.2.2.1,b25.2.2.2.2.2.2.1,b25.2.2.2.2.2.2.2))) fun b31 =>
 some (Val.mk b31.1 b31.2.1 b31.2.2.1 b31.2.2.2.1 b31.2.2.2.2.1 b31.2.2.2.2.2.1 b31.2.2.2.2.2.2,b25.1))
 else (bif e4.Kind==13
 then (Option.bind (rec_semtypebase_Source_nearMap d t e4 a3_3) fun r32 =>
 some (r32.1,r32.2))
 else (bif e4.Kind==14
 then (Option.bind (rec_semtypebase_Source_nearFunction d t e4 a3_3) fun r33 =>
 some (r33.1,r33.2))
 else (bif e4.Kind==16
 then (Option.bind (y2 d (e4.Kids.length:Int)) fun r34 =>
 Option.bind (idx e4.Kids r34.1) fun e35 =>
 Option.bind (rec_semtypebase_Source_near r34.2 t e35 a3_3) fun r36 =>
 some (r36.1,r36.2))
 else (bif e4.Kind==17
 then (Option.bind (y2 d (e4.Kids.length:Int)) fun r37 =>
 Option.bind (idx e4.Kids r37.1) fun e38 =>
 Option.bind (rec_semtypebase_Source_near r37.2 t e38 a3_3) fun r39 =>
 Option.bind (y4 (V2 t e4) ((e4.Kids.length:Int).toNat+1) (0,r39.1)) fun b49 =>
 some (b49,r39.2))
 else (bif e4.Kind==19
 then (Option.bind (J7 d) fun r50 =>
 Option.bind (a3T r50.1 ([e4.Text]:List ByteArray)) fun r51 =>
 some (r51,r50.2))
 else (Option.bind (a1K n d 2) fun r52 =>
 some (r52.1,r52.2)))))))))))))))
def a1g (n:Nat)(rec_semtypebase_Source_Near:Semtypebase_Source->Api_Type->Int->Int->Option (Val×Semtypebase_Source))(_:Semtypebase_Source->Api_Type->Int->Int->Option (Val×Semtypebase_Source))(_:Semtypebase_Source->Api_Type->Api_TypeNode->Int->Option (Val×Semtypebase_Source))(_:Semtypebase_Source->Api_Type->Api_TypeNode->Int->Option (Val×Semtypebase_Source))(d:Semtypebase_Source)(t:Api_Type)(a2_2:Api_TypeNode)(a3_3:Int):Option (Val×Semtypebase_Source) :=
 Option.bind (y2 d 3) fun r1 =>
 Option.bind (y4 (V6 t a2_2 a3_3 rec_semtypebase_Source_Near) (r1.1.toNat+2) ([],r1.1,r1.2)) fun b13 =>
 Option.bind (a1O n (wr .i64 ((a2_2.Kids.length:Int)-1)) b13.1) fun r14 =>
 bif r14.2 != 0
 then (Option.bind (W3) fun r15 =>
 some (r15,b13.2))
 else (some (r14.1,b13.2))
def a2f (_:Nat)(rec_semtypebase_Source_Near:Semtypebase_Source->Api_Type->Int->Int->Option (Val×Semtypebase_Source))(_:Semtypebase_Source->Api_Type->Int->Int->Option (Val×Semtypebase_Source))(_:Semtypebase_Source->Api_Type->Api_TypeNode->Int->Option (Val×Semtypebase_Source))(_:Semtypebase_Source->Api_Type->Api_TypeNode->Int->Option (Val×Semtypebase_Source))(d:Semtypebase_Source)(t:Api_Type)(a2_2:Api_TypeNode)(a3_3:Int):Option (Val×Semtypebase_Source) :=
 Option.bind (y4 (a0c t a2_2 a3_3 rec_semtypebase_Source_Near) ((a2_2.Fields.length:Int).toNat+1) ([],[],0,d)) fun b11 =>
 Option.bind (y2 b11.2.2 2) fun r12 =>
 Option.bind (bif r12.1==1
 then (Option.bind (y2 r12.2 2) fun r13 =>
 Option.bind (Z4 (b11.1.length+([Key.mk r13.1 (⟨#[111,116,104,101,114]⟩:ByteArray)]:List Key).length) 24) fun _ =>
 bif r13.1==0
 then (Option.bind (rec_semtypebase_Source_Near r13.2 t a2_2.Rest.1 (wr .i64 (a3_3-1))) fun r15 =>
 Option.bind (Z4 (b11.2.1.length+([r15.1]:List Val).length) 128) fun _ =>
 some (b11.1++([Key.mk r13.1 (⟨#[111,116,104,101,114]⟩:ByteArray)]:List Key),b11.2.1++([r15.1]:List Val),r15.2))
 else (bif r13.1==1
 then (Option.bind (rec_semtypebase_Source_Near r13.2 t a2_2.Rest.2 (wr .i64 (a3_3-1))) fun r17 =>
 Option.bind (Z4 (b11.2.1.length+([r17.1]:List Val).length) 128) fun _ =>
 some (b11.1++([Key.mk r13.1 (⟨#[111,116,104,101,114]⟩:ByteArray)]:List Key),b11.2.1++([r17.1]:List Val),r17.2))
 else (none)))
 else (some (b11.1,b11.2.1,r12.2))) fun b19 =>
 Option.bind (a1I b19.1 b19.2.1) fun r20 =>
 bif r20.2 != 0
 then (Option.bind (W3) fun r21 =>
 some (r21,b19.2.2))
 else (some (r20.1,b19.2.2))
def z7:Nat->(Semtypebase_Source->Api_Type->Int->Int->Option (Val×Semtypebase_Source))×(Semtypebase_Source->Api_Type->Int->Int->Option (Val×Semtypebase_Source))×(Semtypebase_Source->Api_Type->Api_TypeNode->Int->Option (Val×Semtypebase_Source))×(Semtypebase_Source->Api_Type->Api_TypeNode->Int->Option (Val×Semtypebase_Source))
 | 0=>(fun _ _ _ _=>none,fun _ _ _ _=>none,fun _ _ _ _=>none,fun _ _ _ _=>none)
 | n+1=>(a2N n ((z7 n).1) ((z7 n).2.1) ((z7 n).2.2.1) ((z7 n).2.2.2),a0F n ((z7 n).1) ((z7 n).2.1) ((z7 n).2.2.1) ((z7 n).2.2.2),a1g n ((z7 n).1) ((z7 n).2.1) ((z7 n).2.2.1) ((z7 n).2.2.2),a2f n ((z7 n).1) ((z7 n).2.1) ((z7 n).2.2.1) ((z7 n).2.2.2))
def a2a (n:Nat):Semtypebase_Source->Api_Type->Int->Int->Option (Val×Semtypebase_Source):=(z7 n).1
def b0L (n:Nat):Semtypebase_Source->Api_Type->Int->Int->Option (Val×Semtypebase_Source):=(z7 n).2.1
def a6w (n:Nat):Semtypebase_Source->Api_Type->Api_TypeNode->Int->Option (Val×Semtypebase_Source):=(z7 n).2.2.1
def a81 (n:Nat):Semtypebase_Source->Api_Type->Api_TypeNode->Int->Option (Val×Semtypebase_Source):=(z7 n).2.2.2
def a3J (n:Nat)(l:List Int)(m:List Int):Option (Api_Type×Val) :=
 Option.bind (y2 (Semtypebase_Source.mk l 0) 7) fun r1 =>
 Option.bind (a06 r1.2 (wr .i64 (1+r1.1))) fun r2 =>
 Option.bind (y2 (Semtypebase_Source.mk m 0) (r2.1.Nodes.length:Int)) fun r3 =>
 Option.bind (a2a n r3.2 r2.1 r3.1 4) fun r4 =>
 some (r2.1,r4.1)
def a1J (t:Api_Type)(nodes:List Int)(kind:Int)(width:Int)(x1:(List (List Int))×Int):Option (Fl ((List (List Int))×Int) (Sum (List (List Int)) ((List (List Int))×Bool))) :=
 bif decide (x1.2<(nodes.length:Int))
 then (Option.bind (idx nodes x1.2) fun e2 =>
 Option.bind (bif decide (e2<0)
 then (some true)
 else (some (decide ((t.Nodes.length:Int)<=e2)))) fun q3 =>
 Option.bind (bif q3
 then (some true)
 else (Option.bind (idx t.Nodes e2) fun e4 =>
 some (e4.Kind != kind))) fun q5 =>
 Option.bind (bif q5
 then (some true)
 else (Option.bind (idx t.Nodes e2) fun e6 =>
 some ((e6.Kids.length:Int) != width))) fun q7 =>
 bif q7
 then (some (.done (.inr ([],false))))
 else (Option.bind (idx t.Nodes e2) fun e8 =>
 Option.bind (Z4 (x1.1.length+([e8.Kids]:List (List Int)).length) 24) fun _ =>
 some (.next (x1.1++([e8.Kids]:List (List Int)),wr .i64 (x1.2+1)))))
 else (some (.done (.inl x1.1)))
def a2r (t:Api_Type)(nodes:List Int)(kind:Int)(width:Int):Option ((List (List Int))×Bool) :=
 Option.bind (y4 (a1J t nodes kind width) ((nodes.length:Int).toNat+1) ([],0)) fun b10 =>
 k9 (fun x11 =>
 some (x11,true)) (fun y12 =>
 some (y12.1,y12.2)) b10
def a0u (i:Int)(a1_1:Api_Type):Option Bool :=
 Option.bind (idx a1_1.Nodes i) fun e1 =>
 some (e1.Kind != 2)
def a0Q (n:Nat)(d:Api_Type)(t:Api_Line):Option ((List Api_Box)×Int) :=
 Option.bind (bif t.Kind==6
 then (some (.inl (10,t.Arity)))
 else (bif t.Kind==7
 then (some (.inl (12,2)))
 else (some (.inr ([],9))))) fun b1 =>
 k9 (fun x2 =>
 Option.bind (a0E n d) fun r4 =>
 bif r4 != 0
 then (some (([]:List Api_Box),1))
 else (Option.bind (a2r d t.Pos x2.1 x2.2) fun r5 =>
 Option.bind (a2r d t.Neg x2.1 x2.2) fun r6 =>
 Option.bind (bif !r5.2
 then (some true)
 else (some (!r6.2))) fun q7 =>
 bif q7
 then (some (([]:List Api_Box),1))
 else (Option.bind (a10 n x2.2 r5.1 r6.1 (fun z8 =>
 Option.bind (a0u z8 d) fun r9 =>
 some r9)) fun r10 =>
 bif t.Kind==7
 then (bif r10.all a4P
 then (some (r10.map a3h,0))
 else (none))
 else (some (r10,0))))) (fun y3 =>
 some (y3.1,y3.2)) b1
def a0h (t:Api_Type)(k:Int):Option Bool :=
 Option.bind (bif decide (0<=k)
 then (some (decide (k<(t.Nodes.length:Int))))
 else (some false)) fun q1 =>
 some q1
def a3q (d:Api_Type)(t:Api_TypeNode)(x1:Int):Option (Fl Int (Sum Unit Bool)) :=
 bif decide (x1<(t.Kids.length:Int))
 then (Option.bind (idx t.Kids x1) fun e2 =>
 Option.bind (a0h d e2) fun r3 =>
 bif !r3
 then (some (.done (.inr false)))
 else (some (.next (wr .i64 (x1+1)))))
 else (some (.done (.inl ())))
def a3p (d:Api_Type)(t:Api_TypeNode)(x24:Int):Option (Fl Int (Sum Unit Bool)) :=
 bif decide (x24<(t.Fields.length:Int))
 then (Option.bind (idx t.Fields x24) fun e25 =>
 Option.bind (a0h d e25.Node) fun r26 =>
 Option.bind (bif !r26
 then (some true)
 else (Option.bind (a05 e25.Key_) fun r27 =>
 some (!r27))) fun q28 =>
 Option.bind (bif q28
 then (some true)
 else (Option.bind (bif decide (0<x24)
 then (Option.bind (idx t.Fields (wr .i64 (x24-1))) fun e29 =>
 Option.bind (V3 e29.Key_ e25.Key_) fun r30 =>
 some (decide (0<=r30)))
 else (some false)) fun q31 =>
 some q31)) fun q32 =>
 bif q32
 then (some (.done (.inr false)))
 else (some (.next (wr .i64 (x24+1)))))
 else (some (.done (.inl ())))
def a4r (d:Api_Type)(t:Api_TypeNode):Option Bool :=
 Option.bind (y4 (a3q d t) ((t.Kids.length:Int).toNat+1) 0) fun b4 =>
 k9 (fun _ =>
 Option.bind (bif t.Kind==4
 then (some true)
 else (some (t.Kind==6))) fun q7 =>
 Option.bind (bif q7
 then (some true)
 else (some (t.Kind==19))) fun q8 =>
 Option.bind (bif !(t.Kind==3)
 then (Option.bind (bif t.Lo != 0
 then (some true)
 else (some (t.Hi != 0))) fun q9 =>
 some q9)
 else (some false)) fun q10 =>
 Option.bind (bif q10
 then (some true)
 else (Option.bind (bif !q8
 then (some (!(V4 t.Text (⟨#[]⟩:ByteArray))))
 else (some false)) fun q11 =>
 some q11)) fun q12 =>
 bif q12
 then (some false)
 else (Option.bind (bif t.Kind != 13
 then (Option.bind (bif decide (0<(t.Fields.length:Int))
 then (some true)
 else (some (!(a50 t.Rest (0,0))))) fun q13 =>
 some q13)
 else (some false)) fun q14 =>
 bif q14
 then (some false)
 else (bif t.Kind==3
 then (Option.bind (bif (t.Kids.length:Int)==0
 then (some (decide (t.Lo<=t.Hi)))
 else (some false)) fun q15 =>
 some q15)
 else (bif t.Kind==4
 then (Option.bind (bif (t.Kids.length:Int)==0
 then (some (decide ((t.Text.size:Int)<=64)))
 else (some false)) fun q16 =>
 some q16)
 else (bif t.Kind==6
 then (Option.bind (bif (t.Kids.length:Int)==0
 then (Option.bind (a1x t.Text) fun r17 =>
 some r17)
 else (some false)) fun q18 =>
 some q18)
 else (bif t.Kind==19
 then (Option.bind (bif (t.Kids.length:Int)==0
 then (Option.bind (a1k t.Text) fun r19 =>
 some r19)
 else (some false)) fun q20 =>
 some q20)
 else (Option.bind (bif t.Kind==1
 then (some (t.Kind==1))
 else (bif t.Kind==2
 then (some (t.Kind==2))
 else (bif t.Kind==5
 then (some (t.Kind==5))
 else (bif t.Kind==7
 then (some (t.Kind==7))
 else (bif t.Kind==8
 then (some (t.Kind==8))
 else (bif t.Kind==9
 then (some (t.Kind==9))
 else (bif t.Kind==11
 then (some (t.Kind==11))
 else (some (t.Kind==15))))))))) fun b21 =>
 bif b21
 then (some ((t.Kids.length:Int)==0))
 else (bif t.Kind==10
 then (some (decide ((t.Kids.length:Int)<=4)))
 else (bif t.Kind==12
 then (some ((t.Kids.length:Int)==2))
 else (bif t.Kind==14
 then (Option.bind (bif decide (1<=(t.Kids.length:Int))
 then (some (decide ((t.Kids.length:Int)<=5)))
 else (some false)) fun q22 =>
 some q22)
 else (Option.bind (bif t.Kind==16
 then (some (t.Kind==16))
 else (some (t.Kind==17))) fun b23 =>
 bif b23
 then (some (decide (1<=(t.Kids.length:Int))))
 else (bif t.Kind==18
 then (some ((t.Kids.length:Int)==1))
 else (bif t.Kind==13
 then (Option.bind (y4 (a3p d t) ((t.Fields.length:Int).toNat+1) 0) fun b33 =>
 k9 (fun _ =>
 Option.bind (bif (t.Kids.length:Int)==0
 then (Option.bind (a0h d t.Rest.1) fun r36 =>
 some r36)
 else (some false)) fun q37 =>
 Option.bind (bif q37
 then (Option.bind (a0h d t.Rest.2) fun r38 =>
 some r38)
 else (some false)) fun q39 =>
 some q39) (fun y35 =>
 some y35) b33)
 else (some false)))))))))))))) (fun y6 =>
 some y6) b4
def a3k (n_0:Api_TypeNode):Option Bool :=
 Option.bind (bif n_0.Kind==16
 then (some true)
 else (some (n_0.Kind==17))) fun q1 =>
 Option.bind (bif q1
 then (some true)
 else (some (n_0.Kind==18))) fun q2 =>
 some q2
def a1C (d:Api_Type)(x2:Int):Option (Fl Int (Sum Unit Int)) :=
 bif decide (x2<(d.Nodes.length:Int))
 then (Option.bind (idx d.Nodes x2) fun e3 =>
 Option.bind (a4r d e3) fun r4 =>
 bif !r4
 then (some (.done (.inr 1)))
 else (some (.next (wr .i64 (x2+1)))))
 else (some (.done (.inl ())))
def Q4 (d:Api_Type)(x10:(List Bool)×Int)(x11:(List Bool)×Bool×Int):Option (Fl ((List Bool)×Bool×Int) ((List Bool)×Bool)) :=
 Option.bind (idx d.Nodes x10.2) fun e12 =>
 Option.bind (a3k e12) fun r13 =>
 Option.bind (bif r13
 then (Option.bind (idx d.Nodes x10.2) fun e14 =>
 some (decide (x11.2.2<(e14.Kids.length:Int))))
 else (some false)) fun q15 =>
 bif q15
 then (Option.bind (bif x11.2.1
 then (Option.bind (idx d.Nodes x10.2) fun e16 =>
 Option.bind (idx e16.Kids x11.2.2) fun e17 =>
 Option.bind (idx x11.1 e17) fun _ =>
 Option.bind (x11.1[e17.toNat]?) fun e19 =>
 some e19)
 else (some false)) fun q20 =>
 some (.next (x11.1,q20,wr .i64 (x11.2.2+1))))
 else (some (.done (x11.1,x11.2.1)))
def V9 (d:Api_Type)(n:Nat)(x10:(List Bool)×Int):Option (Fl ((List Bool)×Int) (List Bool)) :=
 bif decide (x10.2<(d.Nodes.length:Int))
 then (Option.bind (y4 (Q4 d x10) n (x10.1,true,0)) fun b21 =>
 Option.bind (idx b21.1 x10.2) fun _ =>
 Option.bind (b21.1[x10.2.toNat]?) fun e23 =>
 Option.bind (bif e23
 then (some true)
 else (some b21.2)) fun q24 =>
 Option.bind (idx b21.1 x10.2) fun _ =>
 Option.bind (b21.1[x10.2.toNat]?) fun _ =>
 some (.next (b21.1.set x10.2.toNat q24,wr .i64 (x10.2+1))))
 else (some (.done x10.1))
def V8 (d:Api_Type)(n:Nat)(x9:(List Bool)×Int):Option (Fl ((List Bool)×Int) (List Bool)) :=
 bif decide (x9.2<(d.Nodes.length:Int))
 then (Option.bind (y4 (V9 d n) ((d.Nodes.length:Int).toNat+1) (x9.1,0)) fun b27 =>
 some (.next (b27,wr .i64 (x9.2+1))))
 else (some (.done x9.1))
def a0K (x29:(List Bool)×Int):Option (Fl ((List Bool)×Int) (Sum (List Bool) (Int×(List Bool)))) :=
 bif decide (x29.2<(x29.1.length:Int))
 then (Option.bind (idx x29.1 x29.2) fun _ =>
 Option.bind (x29.1[x29.2.toNat]?) fun e31 =>
 bif !e31
 then (some (.done (.inr (3,x29.1))))
 else (some (.next (x29.1,wr .i64 (x29.2+1)))))
 else (some (.done (.inl x29.1)))
def a2p (n:Nat)(d:Api_Type):Option Int :=
 Option.bind (a0h d d.Root) fun r1 =>
 bif !r1
 then (some 1)
 else (Option.bind (y4 (a1C d) ((d.Nodes.length:Int).toNat+1) 0) fun b5 =>
 k9 (fun _ =>
 Option.bind (a5g (d.Nodes.length:Int) (d.Nodes.length:Int) 1) fun m8 =>
 Option.bind (y4 (V8 d n) ((d.Nodes.length:Int).toNat+1) (List.replicate m8 (false:Bool),0)) fun b28 =>
 Option.bind (y4 a0K ((b28.length:Int).toNat+1) (b28,0)) fun b32 =>
 k9 (fun _ =>
 some 0) (fun y34 =>
 some y34.1) b32) (fun y7 =>
 some y7) b5)
def a1i (t:Api_Type)(g:Api_Goal)(x3:Int):Option (Fl Int (Sum Unit Bool)) :=
 bif decide (x3<((g.Pos++g.Neg).length:Int))
 then (Option.bind (idx (g.Pos++g.Neg) x3) fun e4 =>
 Option.bind (a0h t e4) fun r5 =>
 bif !r5
 then (some (.done (.inr false)))
 else (some (.next (wr .i64 (x3+1)))))
 else (some (.done (.inl ())))
def a3t (t:Api_Type)(g:Api_Goal):Option Bool :=
 Option.bind (Z4 (0+g.Pos.length) 8) fun _ =>
 Option.bind (Z4 (g.Pos.length+g.Neg.length) 8) fun _ =>
 Option.bind (y4 (a1i t g) (((g.Pos++g.Neg).length:Int).toNat+1) 0) fun b6 =>
 k9 (fun _ =>
 some true) (fun y8 =>
 some y8) b6
def J0 (d:Api_Type)(t:Api_Line)(x8:Bool×Int):Option (Fl (Bool×Int) Bool) :=
 Option.bind (bif x8.1
 then (some (decide (x8.2<((t.Pos++t.Neg).length:Int))))
 else (some false)) fun q9 =>
 bif q9
 then (Option.bind (idx (t.Pos++t.Neg) x8.2) fun e10 =>
 Option.bind (idx d.Nodes e10) fun e11 =>
 Option.bind (bif t.Kind==7
 then (some (e11.Kind==12))
 else (some false)) fun q12 =>
 Option.bind (bif q12
 then (some true)
 else (Option.bind (bif t.Kind==6
 then (some (e11.Kind==10))
 else (some false)) fun q13 =>
 Option.bind (bif q13
 then (some ((e11.Kids.length:Int)==t.Arity))
 else (some false)) fun q14 =>
 some q14)) fun q15 =>
 some (.next (q15,wr .i64 (x8.2+1))))
 else (some (.done x8.1))
def a2b (n:Nat)(d:Api_Type)(t:Api_Line):Option Bool :=
 Option.bind (a0Q n d t) fun r1 =>
 Option.bind (bif t.Kind != 6
 then (some (t.Kind != 7))
 else (some false)) fun q2 =>
 bif q2
 then (some (r1.2==9))
 else (Option.bind (Z4 (0+t.Pos.length) 8) fun _ =>
 Option.bind (Z4 (t.Pos.length+t.Neg.length) 8) fun _ =>
 Option.bind (Option.bind (a2p n d) fun r5 =>
 bif r5==0
 then (Option.bind (a3t d (Api_Goal.mk (t.Pos++t.Neg) ([]:List Int) false)) fun r6 =>
 some r6)
 else (some false)) fun b7 =>
 Option.bind (y4 (J0 d t) (((t.Pos++t.Neg).length:Int).toNat+1) (b7,0)) fun b16 =>
 bif !b16
 then (some (r1.2==1))
 else (some (r1.2==0)))
def a1o (n:Nat)(l:List Int)(x:Api_Line)(raw:Api_Type):Option Bool :=
 Option.bind (a3O ([l]:List (List Int))) fun r1 =>
 Option.bind (bif !r1
 then (some true)
 else (some (decide (6<(x.Pos.length:Int))))) fun q2 =>
 Option.bind (bif q2
 then (some true)
 else (some (decide (6<(x.Neg.length:Int))))) fun q3 =>
 Option.bind (bif q3
 then (some true)
 else (some (decide (30<(raw.Nodes.length:Int))))) fun q4 =>
 bif q4
 then (Option.bind (a2q n) fun r5 =>
 some r5)
 else (Option.bind (a3J n l ([]:List Int)) fun r6 =>
 Option.bind (a2b n r6.1 x) fun r7 =>
 Option.bind (bif r7
 then (Option.bind (a2b n raw x) fun r8 =>
 some r8)
 else (some false)) fun q9 =>
 Option.bind (bif q9
 then (Option.bind (a2q n) fun r10 =>
 some r10)
 else (some false)) fun q11 =>
 some q11)
end Go.Qx
end
section
namespace Go.Pl
open Go Go.RowKit Go.Sx Go.Qx
theorem Y1 (x:Int):wr .i64 x=w64 x:=rfl
theorem a0w {α:Type}(b:Bool)(x y:α):(bif b then x else y)=if b=true then x else y:=by cases b<;>rfl
theorem a3L {α:Type}(o:Option α):(Option.bind o fun x=>some x)=o:=by cases o<;>rfl
theorem J3 {α:Type}(l:List α):((l.length:Int)).toNat=l.length:=by omega
theorem b9d (s:ByteArray):((s.size:Int)).toNat=s.size:=by omega
theorem W1 {x:Int}(h1 : -9223372036854775808<=x)(h2:x<=9223372036854775807):w64 x=x:=by
 unfold w64
 rw [IntKind.wrap_i64]
 omega
theorem k7 {α:Type}{xs:List α}{i:Nat}{x:α}(h:xs[i]?=some x):idx xs (i:Int)=some x:=by
 unfold idx
 rw [if_pos (by omega)]
 simpa using h
theorem J4 {n bytes:Nat}(h:n*bytes<=140737488355328):Z4 n bytes=some ():=by unfold Z4; rw [if_pos h]
theorem b5w {σ α St β:Type}{step:St->Option (Fl St β)}(xs:List α)(pack:σ->Nat->St)(F:σ->α->σ)(I:Nat->σ->Prop)(D:σ->β)
 (hstep:∀ i s x,xs[i]?=some x->I i s->step (pack s i)=some (.next (pack (F s x) (i+1)))/\I (i+1) (F s x))
 (hend:∀ s,I xs.length s->step (pack s xs.length)=some (.done (D s))) (s0:σ) (h0:I 0 s0) (k:Nat) (hk:xs.length+1<=k) :
 y4 step k (pack s0 0)=some (D (xs.foldl F s0)):=by
 have key:∀ (n i:Nat) (s:σ) (k:Nat),i+n=xs.length->n+1<=k->I i s->y4 step k (pack s i)=some (D ((xs.drop i).foldl F s)):=by
  intro n
  induction n with
  | zero =>
    intro i s k hi hk hI
    have e:i=xs.length:=by omega
    subst e
    obtain ⟨k,rfl⟩:∃ m,k=m+1:=⟨k-1,by omega⟩
    simp [y4,hend s hI]
  | succ n ih =>
    intro i s k hi hk hI
    have hlt:i<xs.length:=by omega
    obtain ⟨k,rfl⟩:∃ m,k=m+1:=⟨k-1,by omega⟩
    obtain ⟨h1,h2⟩:=hstep i s xs[i] (List.getElem?_eq_getElem hlt) hI
    rw [List.drop_eq_getElem_cons hlt,List.foldl_cons]
    simp only [y4,h1,Option.bind_some]
    exact ih (i+1) _ k (by omega) (by omega) h2
 have:=key xs.length 0 s0 k (by omega) hk h0
 simpa using this
def a0A (s:ByteArray):Nat:=s.size+1
def Q5:List ByteArray->Nat
 | []=>0
 | s::r=>a0A s+Q5 r
def a2y (k:Key):Nat:=1+a0A k.Text+1
def k8:List Key->Nat
 | []=>0
 | s::r=>a2y s+k8 r
mutual
def Z5:Val->Nat
 | .mk _ _ t kids keys ents labs=>1+1+a0A t+(v7 kids+1)+(k8 keys+1)+(w9 ents+1)+(Q5 labs+1)+1
def v7:List Val->Nat
 | []=>0
 | x::r=>Z5 x+v7 r
def a43:Ent->Nat
 | .mk args _ res=>(v7 args+1)+1+Z5 res+1
def w9:List Ent->Nat
 | []=>0
 | x::r=>a43 x+w9 r
end
theorem a5b (v:Val):Z5 v=1+1+a0A v.Text+(v7 v.Kids+1)+(k8 v.Keys+1)+(w9 v.Entries+1)+(Q5 v.Labels+1)+1:=by
 cases v; simp only [Z5,Val.Text,Val.Kids,Val.Keys,Val.Entries,Val.Labels]
theorem a3i (v:Ent):a43 v=(v7 v.Args+1)+1+Z5 v.Result+1:=by
 cases v; simp only [a43,Ent.Args,Ent.Result]
theorem a4u {x:Val}:∀ {l:List Val},x∈l->Z5 x<=v7 l
 | y::r,h=>by
   simp only [v7]
   rcases List.mem_cons.1 h with rfl | h
   ·omega
   ·have:=a4u h; omega
theorem a2l {x:Ent}:∀ {l:List Ent},x∈l->a43 x<=w9 l
 | y::r,h=>by
   simp only [w9]
   rcases List.mem_cons.1 h with rfl | h
   ·omega
   ·have:=a2l h; omega
theorem a9s:∀ (l:List Val),l.length<=v7 l
 | []=>Nat.le_refl _
 | x::r=>by have:=a9s r; have:=a5b x; simp only [v7,List.length_cons]; omega
theorem a5y:∀ (l:List Ent),l.length<=w9 l
 | []=>Nat.le_refl _
 | x::r=>by have:=a5y r; have:=a3i x; simp only [w9,List.length_cons]; omega
theorem a99:∀ (l:List Key),l.length<=k8 l
 | []=>Nat.le_refl _
 | x::r=>by have:=a99 r; simp only [k8,a2y,List.length_cons]; omega
theorem a6M:∀ (l:List ByteArray),l.length<=Q5 l
 | []=>Nat.le_refl _
 | x::r=>by have:=a6M r; simp only [Q5,a0A,List.length_cons]; omega
theorem a2V (l m:List Val):v7 (l++m)=v7 l+v7 m:=by
 induction l with
 | nil=>simp [v7]
 | cons x r ih=>simp only [List.cons_append,v7,ih]; omega
theorem b5x (v:Val):8<=Z5 v:=by rw [a5b]; unfold a0A; omega
end Go.Pl
namespace Go.Pl
open Go Go.RowKit Go.Sx Go.Qx
theorem a5l {α:Type}{l:List α}{i:Nat}{x:α}(h:l[i]?=some x):l.take (i+1)=l.take i++[x]:=by
 rw [List.take_add_one,h]; rfl
end Go.Pl
end
section
namespace Go.Pl
open Go Go.RowKit Go.Sx Go.Qx
def tn (x y:Int):Int:=if x=0 then y else x
def cI (x y:Int):Int:=if x<y then -1 else if y<x then 1 else 0
def lx:List Int->List Int->Int
 | [],[]=>0
 | [],_::_ => -1
 | _::_,[]=>1
 | x::xs,y::ys=>tn (cI x y) (lx xs ys)
theorem a74 (x y z:Int):tn (tn x y) z=tn x (tn y z):=by unfold tn; split<;>simp_all
theorem b2c (x:Int):tn x 0=x:=by unfold tn; split<;>simp_all
theorem a7X (x:Int):tn 0 x=x:=by simp [tn]
theorem W9 (x y:Int):(x<y/\cI x y = -1)\/(y<x/\cI x y=1)\/(x=y/\cI x y=0):=by
 unfold cI
 by_cases h:x<y
 ·left; simp [h]
 ·by_cases h2:y<x
  ·right; left; simp [h,h2]
  ·right; right; simp [h,h2]; omega
theorem b5L:∀ a b:List Int,lx b a = - lx a b
 | [],[]=>by simp [lx]
 | [],_::_=>by simp [lx]
 | _::_,[]=>by simp [lx]
 | x::xs,y::ys=>by
   have:=b5L xs ys
   rcases W9 x y with ⟨h1,h⟩ | ⟨h1,h⟩ | ⟨h1,h⟩<;>rcases W9 y x with ⟨h2,k⟩ | ⟨h2,k⟩ | ⟨h2,k⟩<;>simp [lx,h,k,tn]<;>omega
theorem c03:∀ a b c:List Int,lx a b<=0->lx b c<=0->lx a c<=0
 | [],_,[],_,_=>by simp [lx]
 | [],_,_::_,_,_=>by simp [lx]
 | _::_,[],_,h,_=>by simp [lx] at h
 | _::_,_::_,[],_,h=>by simp [lx] at h
 | x::xs,y::ys,z::zs,h1,h2=>by
   have:=c03 xs ys zs
   rcases W9 x y with ⟨p1,h⟩ | ⟨p1,h⟩ | ⟨p1,h⟩<;>rcases W9 y z with ⟨p2,k⟩ | ⟨p2,k⟩ | ⟨p2,k⟩ <;>
    rcases W9 x z with ⟨p3,l⟩ | ⟨p3,l⟩ | ⟨p3,l⟩<;>simp [lx,h,k,l,tn] at h1 h2 ⊢<;>first | omega | (exact this (by omega) (by omega))
theorem c7t:∀ a:List Int,lx a a=0:=by intro a; have:=b5L a a; omega
def cBs:List UInt8->List UInt8->Int
 | [],[]=>0
 | [],_::_ => -1
 | _::_,[]=>1
 | x::xs,y::ys=>tn (cI x.toNat y.toNat) (cBs xs ys)
def eBs:List UInt8->List Int
 | []=>[0]
 | x::r=>((x.toNat:Int)+1)::eBs r
theorem c7r (x y:Int):cI (x+1) (y+1)=cI x y:=by
 unfold cI
 by_cases h:x<y
 ·rw [if_pos (by omega),if_pos h]
 ·rw [if_neg (by omega),if_neg h]
  by_cases h2:y<x
  ·rw [if_pos (by omega),if_pos h2]
  ·rw [if_neg (by omega),if_neg h2]
theorem c8f:∀ (a b:List UInt8) (r s:List Int),lx (eBs a++r) (eBs b++s)=tn (cBs a b) (lx r s)
 | [],[],r,s=>by simp [eBs,lx,cBs,cI,a7X]
 | [],y::ys,r,s=>by
   have:cI 0 ((y.toNat:Int)+1) = -1:=by unfold cI; rw [if_pos (by omega)]
   simp [eBs,lx,cBs,this,tn]
 | x::xs,[],r,s=>by
   have:cI ((x.toNat:Int)+1) 0=1:=by unfold cI; rw [if_neg (by omega),if_pos (by omega)]
   simp [eBs,lx,cBs,this,tn]
 | x::xs,y::ys,r,s=>by
   simp only [eBs,List.cons_append,lx,cBs,c7r,c8f xs ys,a74]
def cS (a b:ByteArray):Int:=cBs a.data.toList b.data.toList
def eS (a:ByteArray):List Int:=eBs a.data.toList
theorem pfS (a b:ByteArray)(r s:List Int):lx (eS a++r) (eS b++s)=tn (cS a b) (lx r s):=c8f _ _ r s
def cK (a b:Key):Int:=tn (cI a.Kind b.Kind) (cS a.Text b.Text)
def eK (a:Key):List Int:=a.Kind::eS a.Text
theorem pfK (a b:Key)(r s:List Int):lx (eK a++r) (eK b++s)=tn (cK a b) (lx r s):=by
 simp only [eK,List.cons_append,lx,pfS,cK,a74]
def cL {α:Type}(c:α->α->Int):List α->List α->Int
 | [],_=>0
 | _::_,[]=>0
 | x::xs,y::ys=>tn (c x y) (cL c xs ys)
def cN {α:Type}(c:α->α->Int)(xs ys:List α):Int:=tn (cI (xs.length:Int) (ys.length:Int)) (cL c xs ys)
def eN {α:Type}(e:α->List Int)(xs:List α):List Int:=(xs.length:Int)::xs.flatMap e
theorem pfL {α:Type}{c:α->α->Int}{e:α->List Int}:∀ (xs ys:List α) (r s:List Int),(∀ x∈xs,∀ y r s,lx (e x++r) (e y++s)=tn (c x y) (lx r s))->xs.length=ys.length ->
 lx (xs.flatMap e++r) (ys.flatMap e++s)=tn (cL c xs ys) (lx r s)
 | [],[],r,s,_,_=>by simp [cL,a7X]
 | [],_::_,_,_,_,h=>by simp at h
 | _::_,[],_,_,_,h=>by simp at h
 | x::xs,y::ys,r,s,hc,h=>by
   simp only [List.flatMap_cons,List.append_assoc,cL]
   rw [hc x (by simp),pfL xs ys r s (fun z hz=>hc z (by simp [hz])) (by simpa using h),a74]
theorem pfN {α:Type}{c:α->α->Int}{e:α->List Int}(xs ys:List α)(r s:List Int)(hc:∀ x∈xs,∀ y r s,lx (e x++r) (e y++s)=tn (c x y) (lx r s)) :
 lx (eN e xs++r) (eN e ys++s)=tn (cN c xs ys) (lx r s):=by
 simp only [eN,List.cons_append,lx,cN,a74]
 rcases W9 (xs.length:Int) (ys.length:Int) with ⟨_,h⟩ | ⟨_,h⟩ | ⟨h1,h⟩
 ·simp [h,tn]
 ·simp [h,tn]
 ·rw [h,a7X,a7X,pfL xs ys r s hc (by omega)]
def bI (b:Bool):Int:=if b then 0 else 1
mutual
def cV:Val->Val->Int
 | .mk k n t kids keys ents labs,b=>tn (cI k b.Kind) (tn (cI n b.Int_) (tn (cS t b.Text) (tn (cN cK keys b.Keys) (tn (tn (cI (kids.length:Int) (b.Kids.length:Int)) (cVs kids b.Kids)) (tn (tn (cI (ents.length:Int) (b.Entries.length:Int)) (cEs ents b.Entries)) (cN cS labs b.Labels))))))
def cVs:List Val->List Val->Int
 | [],_=>0
 | _::_,[]=>0
 | x::xs,y::ys=>tn (cV x y) (cVs xs ys)
def cE:Ent->Ent->Int
 | .mk args f res,b=>tn (tn (cI (args.length:Int) (b.Args.length:Int)) (cVs args b.Args)) (tn (cI (bI f) (bI b.Fails)) (cV res b.Result))
def cEs:List Ent->List Ent->Int
 | [],_=>0
 | _::_,[]=>0
 | x::xs,y::ys=>tn (cE x y) (cEs xs ys)
end
theorem c1B:∀ xs ys:List Val,cVs xs ys=cL cV xs ys
 | [],_=>by simp [cVs,cL]
 | _::_,[]=>by simp [cVs,cL]
 | x::xs,y::ys=>by simp only [cVs,cL,c1B xs ys]
theorem c4w:∀ xs ys:List Ent,cEs xs ys=cL cE xs ys
 | [],_=>by simp [cEs,cL]
 | _::_,[]=>by simp [cEs,cL]
 | x::xs,y::ys=>by simp only [cEs,cL,c4w xs ys]
theorem c7h (a b:Val):cV a b=tn (cI a.Kind b.Kind) (tn (cI a.Int_ b.Int_) (tn (cS a.Text b.Text) (tn (cN cK a.Keys b.Keys) (tn (cN cV a.Kids b.Kids) (tn (cN cE a.Entries b.Entries) (cN cS a.Labels b.Labels)))))):=by
 cases a; simp only [cV,c1B,c4w,cN,Val.Kind,Val.Int_,Val.Text,Val.Keys,Val.Kids,Val.Entries,Val.Labels]
theorem c68 (a b:Ent):cE a b=tn (cN cV a.Args b.Args) (tn (cI (bI a.Fails) (bI b.Fails)) (cV a.Result b.Result)):=by
 cases a; simp only [cE,c1B,cN,Ent.Args,Ent.Fails,Ent.Result]
mutual
def eV:Val->List Int
 | .mk k n t kids keys ents labs=>k::n::(eS t++(eN eK keys++(((kids.length:Int)::eVs kids)++(((ents.length:Int)::eEs ents)++eN eS labs))))
def eVs:List Val->List Int
 | []=>[]
 | x::xs=>eV x++eVs xs
def eE:Ent->List Int
 | .mk args f res=>((args.length:Int)::eVs args)++(bI f::eV res)
def eEs:List Ent->List Int
 | []=>[]
 | x::xs=>eE x++eEs xs
end
theorem c0I:∀ xs:List Val,eVs xs=xs.flatMap eV
 | []=>by simp [eVs]
 | x::xs=>by simp only [eVs,List.flatMap_cons,c0I xs]
theorem c4p:∀ xs:List Ent,eEs xs=xs.flatMap eE
 | []=>by simp [eEs]
 | x::xs=>by simp only [eEs,List.flatMap_cons,c4p xs]
theorem c6S (a:Val):eV a=a.Kind::a.Int_::(eS a.Text++(eN eK a.Keys++(eN eV a.Kids++(eN eE a.Entries++eN eS a.Labels)))):=by
 cases a; simp only [eV,c0I,c4p,eN,Val.Kind,Val.Int_,Val.Text,Val.Keys,Val.Kids,Val.Entries,Val.Labels]
theorem c7g (a:Ent):eE a=eN eV a.Args++(bI a.Fails::eV a.Result):=by
 cases a; simp only [eE,c0I,eN,Ent.Args,Ent.Fails,Ent.Result]
theorem c4K:∀ n:Nat,(∀ a:Val,Z5 a<=n->∀ b r s,lx (eV a++r) (eV b++s)=tn (cV a b) (lx r s))/\(∀ a:Ent,a43 a<=n->∀ b r s,lx (eE a++r) (eE b++s)=tn (cE a b) (lx r s)):=by
 intro n
 induction n with
 | zero=>exact ⟨fun a h=>by have:=b5x a; omega,fun a h=>by have:=a3i a; omega⟩
 | succ n ih =>
   refine ⟨fun a h b r s=>?_,fun a h b r s=>?_⟩
   ·have hb:=a5b a
    rw [c6S a,c6S b,c7h]
    simp only [List.cons_append,List.append_assoc,lx,a74]
    rw [pfS,pfN a.Keys b.Keys _ _ (fun x _ y r s=>pfK x y r s),pfN a.Kids b.Kids _ _ (fun x hx=>ih.1 x (by have:=a4u hx; omega)),
     pfN a.Entries b.Entries _ _ (fun x hx=>ih.2 x (by have:=a2l hx; omega)),pfN a.Labels b.Labels _ _ (fun x _ y r s=>pfS x y r s)]
   ·have hb:=a3i a
    rw [c7g a,c7g b,c68]
    simp only [List.append_assoc,a74]
    rw [pfN a.Args b.Args _ _ (fun x hx=>ih.1 x (by have:=a4u hx; omega))]
    simp only [List.cons_append,lx]
    rw [ih.1 a.Result (by omega)]
theorem d0r (a b:Val):cV a b=lx (eV a) (eV b):=by
 have:=(c4K (Z5 a)).1 a (Nat.le_refl _) b [] []
 simpa [lx,b2c] using this.symm
theorem c7A (a:Val):cV a a=0:=by rw [d0r]; exact c7t _
end Go.Pl
namespace Go.Pl
open Go Go.RowKit Go.Sx Go.Qx
theorem c3A (a b:Int):a0I a b=some (cI a b):=by
 unfold a0I a59
 simp only [a0w,bne_self_eq_false,Option.bind_some,Bool.false_eq_true,if_false]
 rcases W9 a b with ⟨h,e⟩ | ⟨h,e⟩ | ⟨h,e⟩
 ·rw [if_pos (by simpa using h),e]
 ·rw [if_neg (by simp; omega),if_pos (by simpa using h),e]
 ·rw [if_neg (by simp; omega),if_neg (by simp; omega),e]
theorem a9X (a b:Int):a1W a b=some (cI a b):=by
 unfold a1W
 simp only [a0w]
 rcases W9 a b with ⟨h,e⟩ | ⟨h,e⟩ | ⟨h,e⟩
 ·rw [if_pos (by simpa using h),e]
 ·rw [if_neg (by simp; omega),if_pos (by simpa using h),e]
 ·rw [if_neg (by simp; omega),if_neg (by simp; omega),e]
theorem b4J (a b:Int):a0e a b=some (cI a b):=by
 unfold a0e; rw [a9X]; rfl
theorem c2H:∀ a b:List UInt8,Lib.compareBytes a b=cBs a b
 | [],[]=>rfl
 | [],_::_=>rfl
 | _::_,[]=>rfl
 | x::xs,y::ys=>by
   have ih:=c2H xs ys
   simp only [Lib.compareBytes,cBs,UInt8.lt_iff_toNat_lt]
   rcases W9 (x.toNat:Int) (y.toNat:Int) with ⟨h,e⟩ | ⟨h,e⟩ | ⟨h,e⟩
   ·rw [if_pos (by omega),e]; rfl
   ·rw [if_neg (by omega),if_pos (by omega),e]; rfl
   ·rw [if_neg (by omega),if_neg (by omega),e,a7X,ih]
theorem c23 (a b:ByteArray):a1L a b=some (cS a b):=by
 unfold a1L a1Q c0t b4H
 rw [c2H]; rfl
theorem b4I:∀ a b:List UInt8,(Op.bytesLess a b=true/\cBs a b = -1/\a≠b)\/(Op.bytesLess a b=false/\cBs a b=0/\a=b)\/(Op.bytesLess a b=false/\cBs a b=1/\a≠b)
 | [],[]=>by simp [Op.bytesLess,cBs]
 | [],_::_=>by simp [Op.bytesLess,cBs]
 | _::_,[]=>by simp [Op.bytesLess,cBs]
 | x::xs,y::ys=>by
   have ih:=b4I xs ys
   simp only [Op.bytesLess,cBs]
   rcases W9 (x.toNat:Int) (y.toNat:Int) with ⟨h,e⟩ | ⟨h,e⟩ | ⟨h,e⟩
   ·have h1:x<y:=UInt8.lt_iff_toNat_lt.2 (by omega)
    have h2:x≠y:=by intro h3; subst h3; omega
    simp [e,h1,h2,tn]
   ·have h1:¬ x<y:=fun h3=>by have:=UInt8.lt_iff_toNat_lt.1 h3; omega
    have h2:x≠y:=by intro h3; subst h3; omega
    simp [e,h1,h2,tn]
   ·have h2:x=y:=UInt8.toNat_inj.1 (by omega)
    subst h2
    have h1:¬ x<x:=fun h3=>by have:=UInt8.lt_iff_toNat_lt.1 h3; omega
    simpa [e,h1,tn] using ih
theorem a6u (a b:ByteArray):(a17 a b=true/\V4 a b=false/\cS a b = -1)\/(a17 a b=false/\V4 a b=true/\cS a b=0)\/(a17 a b=false/\V4 a b=false/\cS a b=1):=by
 unfold a17 V4 cS
 rw [Lib.toList_data,Lib.toList_data]
 rcases b4I a.data.toList b.data.toList with ⟨h,e,n⟩ | ⟨h,e,n⟩ | ⟨h,e,n⟩
 ·left; exact ⟨h,by simpa using n,e⟩
 ·right; left; exact ⟨h,by simpa using n,e⟩
 ·right; right; exact ⟨h,by simpa using n,e⟩
theorem b1O (a b:ByteArray):a0R a b=some (cS a b):=by
 unfold a0R
 rcases a6u a b with ⟨h,k,e⟩ | ⟨h,k,e⟩ | ⟨h,k,e⟩<;>simp [h,k,e]
theorem c3L {x y:Int}{o:Option Int}(h:o=some y):(bif (x != 0) then some x else o)=some (tn x y):=by
 rw [a0w]
 unfold tn
 by_cases hx:x=0
 ·subst hx; simp [h]
 ·simp [hx]
theorem c3F {a b y:Int}{o:Option Int}(h:o=some y):(bif (a != b) then some (cI a b) else o)=some (tn (cI a b) y):=by
 rw [a0w]
 unfold tn
 rcases W9 a b with ⟨p,e⟩ | ⟨p,e⟩ | ⟨p,e⟩
 ·have:a≠b:=by omega
  simp [this,e]
 ·have:a≠b:=by omega
  simp [this,e]
 ·simp [p,h]
  subst p
  intro h2; rw [e] at h2; exact absurd rfl h2
theorem c9L {a b:ByteArray}{y:Int}{o:Option Int}(h:o=some y):(bif (!V4 a b) then (Option.bind (a0R a b) fun r=>some r) else o)=some (tn (cS a b) y):=by
 rw [a0w,b1O,h]
 rcases a6u a b with ⟨_,p,e⟩ | ⟨_,p,e⟩ | ⟨_,p,e⟩<;>simp [p,e,tn]
theorem c2j (a b:Key):a1Z a b=some (cK a b):=by
 unfold a1Z
 rw [c3A]
 simp only [Option.bind_some]
 exact c3L (by rw [c23]; rfl)
theorem a8k (a b:Key):V3 a b=some (cK a b):=by
 unfold V3
 rw [a9X]
 exact c3F (by rw [b1O]; rfl)
theorem c5L {α:Type}{step:Int->Option (Fl Int (Sum Unit Int))}{rc:α->α->Option Int}{c:α->α->Int}(xs ys:List α)(hlen:xs.length=ys.length)
 (hst:∀ q,step q=bif decide (q<(xs.length:Int)) then Option.bind (idx xs q) fun x=>Option.bind (idx ys q) fun y=>Option.bind (rc x y) fun r =>
   bif r != 0 then some (.done (.inr r)) else some (.next (wr .i64 (q+1))) else some (.done (.inl ())))
 (hrc:∀ x∈xs,∀ y,rc x y=some (c x y)) (hl:xs.length<=4194304) :
 ∃ o,y4 step (xs.length+1) 0=some o/\((o=.inl ()/\cL c xs ys=0)\/(o=.inr (cL c xs ys)/\cL c xs ys≠0)):=by
 have key:∀ (n i k:Nat),i+n=xs.length->n+1<=k ->
  ∃ o,y4 step k (i:Int)=some o/\((o=.inl ()/\cL c (xs.drop i) (ys.drop i)=0)\/(o=.inr (cL c (xs.drop i) (ys.drop i))/\cL c (xs.drop i) (ys.drop i)≠0)):=by
  intro n
  induction n with
  | zero =>
    intro i k hi hk
    obtain ⟨k,rfl⟩:∃ m,k=m+1:=⟨k-1,by omega⟩
    refine ⟨.inl (),?_,.inl ⟨rfl,?_⟩⟩
    ·simp only [y4,hst,a0w]
     rw [if_neg (by simp; omega)]
     rfl
    ·rw [List.drop_eq_nil_of_le (by omega)]; simp [cL]
  | succ n ih =>
    intro i k hi hk
    obtain ⟨k,rfl⟩:∃ m,k=m+1:=⟨k-1,by omega⟩
    have hx:i<xs.length:=by omega
    have hy:i<ys.length:=by omega
    rw [List.drop_eq_getElem_cons hx,List.drop_eq_getElem_cons hy]
    have e:step (i:Int)=if (c xs[i] ys[i] != 0)=true then some (.done (.inr (c xs[i] ys[i]))) else some (.next (w64 ((i:Int)+1))):=by
     rw [hst]
     simp only [a0w,Y1]
     rw [if_pos (by simp; omega),k7 (List.getElem?_eq_getElem hx),k7 (List.getElem?_eq_getElem hy)]
     simp only [Option.bind_some]
     rw [hrc _ (List.getElem_mem hx)]
     rfl
    simp only [y4,e,cL]
    by_cases h0:c xs[i] ys[i]=0
    ·rw [h0,a7X,W1 (x:=(i:Int)+1) (by omega) (by omega)]
     obtain ⟨o,ho,hp⟩:=ih (i+1) k (by omega) (by omega)
     refine ⟨o,?_,hp⟩
     simpa using ho
    ·have ht:tn (c xs[i] ys[i]) (cL c (xs.drop (i+1)) (ys.drop (i+1)))=c xs[i] ys[i]:=by simp [tn,h0]
     rw [ht]
     refine ⟨.inr (c xs[i] ys[i]),?_,.inr ⟨rfl,h0⟩⟩
     simp [h0]
 obtain ⟨o,h1,h2⟩:=key xs.length 0 (xs.length+1) (by omega) (Nat.le_refl _)
 exact ⟨o,by simpa using h1,by simpa using h2⟩
theorem c7I {α:Type}{step:Int->Option (Fl Int (Sum Unit Int))}{rc:α->α->Option Int}{c:α->α->Int}(xs ys:List α)(hlen:xs.length=ys.length)
 (hst:∀ q,step q=bif decide (q<(xs.length:Int)) then Option.bind (idx xs q) fun x=>Option.bind (idx ys q) fun y=>Option.bind (rc x y) fun r =>
   bif r != 0 then some (.done (.inr r)) else some (.next (wr .i64 (q+1))) else some (.done (.inl ())))
 (hrc:∀ x∈xs,∀ y,rc x y=some (c x y)) (hl:xs.length<=4194304) {f:Unit->Option Int} {z:Int} (hf:∀ q,f q=some z) :
 (Option.bind (y4 step (((xs.length:Int)).toNat+1) 0) fun b=>k9 f (fun r=>some r) b)=some (tn (cL c xs ys) z):=by
 obtain ⟨o,h1,h2⟩:=c5L xs ys hlen hst hrc hl
 rw [J3,h1]
 rcases h2 with ⟨rfl,h⟩ | ⟨rfl,h⟩
 ·simp [k9,hf,h,tn]
 ·simp [k9,h,tn]
theorem b5W {α:Type}{step:Int->Option (Fl Int (Sum Unit Int))}{rc:α->α->Option Int}{c:α->α->Int}(xs ys:List α)
 (hst:∀ q,step q=bif decide (q<(xs.length:Int)) then Option.bind (idx xs q) fun x=>Option.bind (idx ys q) fun y=>Option.bind (rc x y) fun r =>
   bif r != 0 then some (.done (.inr r)) else some (.next (wr .i64 (q+1))) else some (.done (.inl ())))
 (hrc:∀ x∈xs,∀ y,rc x y=some (c x y)) (hl:xs.length<=4194304) {f:Unit->Option Int} {z:Int} (hf:∀ q,f q=some z) :
 (bif ((xs.length:Int) != (ys.length:Int)) then (Option.bind (a0e (xs.length:Int) (ys.length:Int)) fun r=>some r) else
   (Option.bind (y4 step (((xs.length:Int)).toNat+1) 0) fun b=>k9 f (fun r=>some r) b))=some (tn (cN c xs ys) z):=by
 rw [a0w,b4J]
 simp only [Option.bind_some,cN]
 rcases W9 (xs.length:Int) (ys.length:Int) with ⟨p,e⟩ | ⟨p,e⟩ | ⟨p,e⟩
 ·have:((xs.length:Int) != (ys.length:Int))=true:=by simp; omega
  rw [if_pos this,e]; rfl
 ·have:((xs.length:Int) != (ys.length:Int))=true:=by simp; omega
  rw [if_pos this,e]; rfl
 ·rw [if_neg (by simp; omega),c7I xs ys (by omega) hst hrc hl hf,e,a7X]
theorem a4i:∀ (k:Nat),
 (∀ a b,2*Z5 a<=k->Z5 a<=4194304->a0d k a b=some (cV a b)) /\
 (∀ xs ys,2*v7 xs+1<=k->v7 xs<=4194304->a2s k xs ys=some (cN cV xs ys)) /\
 (∀ a b,2*a43 a<=k->a43 a<=4194304->Z3 k a b=some (cE a b))
 | 0=>⟨fun v _ h=>by have:=b5x v; omega,fun _ _ h=>by omega,fun v _ h=>by have:=a3i v; omega⟩
 | k+1=>by
   obtain ⟨i1,i2,i3⟩:=a4i k
   refine ⟨?_,?_,?_⟩
   ·intro a b h hb
    show a4h k (a0d k) (a2s k) (Z3 k) a b=_
    have hbe:=a5b a
    have hk:=a99 a.Keys
    have hs:=a6M a.Labels
    have he:=a5y a.Entries
    unfold a4h
    rw [c7h,b4J,a9X]
    simp only [Option.bind_some]
    refine c3F (c3F (c9L ?_))
    refine b5W (step:=a5W a b) a.Keys b.Keys (rc:=V3) (c:=cK) (fun q=>rfl) (fun x _ y=>a8k x y) (by omega) ?_
    intro _
    rw [i2 a.Kids b.Kids (by omega) (by omega)]
    simp only [Option.bind_some]
    refine c3L ?_
    refine b5W (step:=a5S a b (Z3 k)) a.Entries b.Entries (rc:=Z3 k) (c:=cE) (fun q=>rfl) (fun x hx y=>i3 x y (by have:=a2l hx; omega) (by have:=a2l hx; omega)) (by omega) ?_
    intro _
    have:=b5W (step:=a5V a b) a.Labels b.Labels (rc:=a0R) (c:=cS) (z:=0) (fun q=>rfl) (fun x _ y=>b1O x y) (by omega) (f:=fun _=>some 0) (fun _=>rfl)
    rw [b2c] at this
    exact this
   ·intro xs ys h hb
    show a4C k (a0d k) (a2s k) (Z3 k) xs ys=_
    have hl:=a9s xs
    unfold a4C
    rw [b5W (step:=a6p xs ys (a0d k)) xs ys (rc:=a0d k) (c:=cV) (z:=0) (fun q=>rfl) (fun x hx y=>i1 x y (by have:=a4u hx; omega) (by have:=a4u hx; omega)) (by omega) (fun _=>rfl),b2c]
   ·intro a b h hb
    show a2e k (a0d k) (a2s k) (Z3 k) a b=_
    have hbe:=a3i a
    unfold a2e
    rw [c68,i2 a.Args b.Args (by omega) (by omega),i1 a.Result b.Result (by omega) (by omega)]
    simp only [Option.bind_some]
    refine c3L ?_
    cases a.Fails<;>cases b.Fails<;>simp [bI,cI,tn]
end Go.Pl
end
section
namespace Go.Pl
open Go Go.RowKit Go.Sx Go.Qx
theorem b7d {step:Int->Option (Fl Int (Sum Unit Bool))}(n:Nat)(p:Nat->Bool)
 (hst:∀ i:Nat,i<n->step (i:Int)=some (if p i=true then .next ((i+1:Nat):Int) else .done (.inr false)))
 (hend:∀ i:Nat,n<=i->step (i:Int)=some (.done (.inl ()))) (i0:Nat) (b:Bool) (hb:b=true↔∀ i,i0<=i->i<n->p i=true) :
 Option.bind (y4 step (n+1) (i0:Int)) (k9 (fun _=>some true) (fun r=>some r))=some b:=by
 have fin:∀ (i k:Nat),n<=i->(∀ j,i0<=j->j<i->j<n->p j=true)->Option.bind (y4 step (k+1) (i:Int)) (k9 (fun _=>some true) (fun r=>some r))=some b:=by
  intro i k h1 h4
  simp only [y4,hend i h1,Option.bind_some,k9]
  have:b=true:=hb.2 fun j a c=>h4 j a (by omega) c
  rw [this]
 have key:∀ (m i k:Nat),n<=i+m->m+1<=k->i0<=i->(∀ j,i0<=j->j<i->j<n->p j=true)->Option.bind (y4 step k (i:Int)) (k9 (fun _=>some true) (fun r=>some r))=some b:=by
  intro m
  induction m with
  | zero =>
    intro i k h1 h2 h3 h4
    obtain ⟨k,rfl⟩:∃ m,k=m+1:=⟨k-1,by omega⟩
    exact fin i k (by omega) h4
  | succ m ih =>
    intro i k h1 h2 h3 h4
    obtain ⟨k,rfl⟩:∃ m,k=m+1:=⟨k-1,by omega⟩
    by_cases hlt:i<n
    ·simp only [y4,hst i hlt]
     cases hp:p i
     ·simp only [Bool.false_eq_true,if_false,Option.bind_some,k9]
      have:b=false:=by
       cases b
       ·rfl
       ·have:=hb.1 rfl i h3 hlt
        rw [hp] at this; cases this
      rw [this]
     ·simp only [if_true,Option.bind_some]
      refine ih (i+1) k (by omega) (by omega) (by omega) (fun j a c d=>?_)
      by_cases e:j<i
      ·exact h4 j a e d
      ·have:j=i:=by omega
       subst this; exact hp
    ·exact fin i k (by omega) h4
 exact key n i0 (n+1) (by omega) (by omega) (Nat.le_refl _) (fun j a c=>by omega)
theorem w7 (i:Nat)(h:i<=4611686018427387904):w64 ((i:Int)+1)=((i+1:Nat):Int):=by rw [W1 (by omega) (by omega)]; rfl
theorem b2w (b:Bool)(x:Int):(bif (!b) then some (Fl.done (Sum.inr false)) else some (Fl.next x))=some (if b=true then Fl.next x else (Fl.done (Sum.inr false):Fl Int (Sum Unit Bool))):=by cases b<;>rfl
def asc {α:Type}(c:α->α->Int):List α->Bool
 | x::y::r=>decide (c x y<0)&&asc c (y::r)
 | _=>true
theorem b6c {α:Type}(c:α->α->Int):∀ xs:List α,asc c xs=true↔∀ i,1<=i->(hi:i<xs.length)->c xs[i-1] xs[i]<0
 | []=>by simp [asc]
 | [x]=>by
   simp only [asc,true_iff]
   intro i h1 hi
   simp at hi; omega
 | x::y::r=>by
   have ih:=b6c c (y::r)
   simp only [asc,Bool.and_eq_true,decide_eq_true_eq,ih]
   constructor
   ·intro ⟨h1,h2⟩ i hi hl
    obtain ⟨i,rfl⟩:∃ m,i=m+1:=⟨i-1,by omega⟩
    cases i with
    | zero=>exact h1
    | succ i=>exact h2 (i+1) (by omega) (by simpa using hl)
   ·intro h
    refine ⟨h 1 (by omega) (by simp),fun i hi hl=>?_⟩
    obtain ⟨i,rfl⟩:∃ m,i=m+1:=⟨i-1,by omega⟩
    have:=h (i+2) (by omega) (by simpa using hl)
    simpa using this
def a4S (c:UInt8):Bool:=decide (97<=(c.toNat:Int))&&decide ((c.toNat:Int)<=122)
def upC (c:UInt8):Bool:=decide (65<=(c.toNat:Int))&&decide ((c.toNat:Int)<=90)
def a5M (c:UInt8):Bool:=decide (48<=(c.toNat:Int))&&decide ((c.toNat:Int)<=57)
def b2F (f g:UInt8->Bool)(s:ByteArray):Bool :=
 match s.data.toList with
 | []=>false
 | c::r=>decide (r.length<=15)&&f c&&r.all g
def a4Y (s:ByteArray):Bool:=b2F upC (fun c=>a4S c||upC c||a5M c||(c.toNat:Int)==95) s
def a3H (s:ByteArray):Bool:=b2F a4S (fun c=>a4S c||a5M c||(c.toNat:Int)==95) s
theorem c1o (c:UInt8):a3z (c.toNat:Int)=some (a4S c):=by
 unfold a3z a4S
 cases decide (97<=(c.toNat:Int))<;>simp
theorem c7a (c:UInt8):a4M (c.toNat:Int)=some (upC c):=by
 unfold a4M upC
 cases decide (65<=(c.toNat:Int))<;>simp
theorem c43 (c:UInt8):a4H (c.toNat:Int)=some (a5M c):=by
 unfold a4H a5M
 cases decide (48<=(c.toNat:Int))<;>simp
theorem a9F {s:ByteArray}{i:Nat}{c:UInt8}(h:s.data.toList[i]?=some c):a4D s (i:Int)=some c:=by
 unfold a4D
 rw [if_pos (by omega)]
 obtain ⟨hi,e⟩:=List.getElem?_eq_some_iff.1 h
 have hs:i<s.size:=by simpa using hi
 show s[((i:Int)).toNat]?=some c
 rw [Int.toNat_natCast,getElem?_pos s i hs]
 show some s.data[i]=some c
 simpa using e
theorem b5u (s:ByteArray):s.size=s.data.toList.length:=by simp
theorem c2y {a1 a2:Int->Option Bool}{f g:UInt8->Bool}(h1:∀ c:UInt8,a1 (c.toNat:Int)=some (f c))(h2:∀ c:UInt8,a2 (c.toNat:Int)=some (g c))(s:ByteArray):a49 s a1 a2=some (b2F f g s):=by
 unfold a49 b2F
 simp only [a0w,b9d]
 have hsz:=b5u s
 cases hs:s.data.toList with
 | nil =>
   rw [hs] at hsz
   rw [hsz]
   simp
 | cons c r =>
   rw [hs] at hsz
   simp only [List.length_cons] at hsz
   have e1:decide ((s.size:Int)<1)=false:=by simp; omega
   rw [e1]
   simp only [Bool.false_eq_true,if_false,Option.bind_some]
   by_cases hb:16<(s.size:Int)
   ·rw [if_pos (by simpa using hb)]
    have:decide (r.length<=15)=false:=by simp; omega
    rw [this]; rfl
   ·rw [if_neg (by simpa using hb)]
    have e2:decide (r.length<=15)=true:=by simp; omega
    have e3:a4D s 0=some c:=a9F (i:=0) (by rw [hs]; rfl)
    rw [e2,e3]
    simp only [Option.bind_some,h1,Bool.true_and]
    cases f c
    ·rfl
    ·simp only [Bool.not_true,Bool.false_eq_true,if_false,Bool.true_and]
     refine b7d s.size (fun i=>match s.data.toList[i]? with | some x=>g x | none=>true) ?_ ?_ 1 (r.all g) ?_
     ·intro i hi
      have hi':i<s.data.toList.length:=by rw [hs]; simp; omega
      unfold a7h
      rw [a0w,if_pos (by simp; omega),a9F (List.getElem?_eq_getElem hi')]
      simp only [Option.bind_some,h2]
      rw [List.getElem?_eq_getElem hi',Y1,w7 i (by omega)]
      exact b2w _ _
     ·intro i hi
      unfold a7h
      rw [a0w,if_neg (by simp; omega)]
     ·rw [hs,List.all_eq_true]
      constructor
      ·intro h i h1 hi
       obtain ⟨i,rfl⟩:∃ m,i=m+1:=⟨i-1,by omega⟩
       have hr:i<r.length:=by omega
       simp only [List.getElem?_cons_succ,List.getElem?_eq_getElem hr]
       exact h _ (List.getElem_mem hr)
      ·intro h x hx
       obtain ⟨i,hi,rfl⟩:=List.getElem_of_mem hx
       have:=h (i+1) (by omega) (by omega)
       simpa only [List.getElem?_cons_succ,List.getElem?_eq_getElem hi] using this
theorem c8u (s:ByteArray):a3d s=some (a4Y s):=by
 unfold a3d
 simp only [a3L]
 rw [c2y c7a (g:=fun c=>a4S c||upC c||a5M c||(c.toNat:Int)==95) (fun c=>by
  unfold a5d
  rw [c1o,c7a,c43]
  simp only [Option.bind_some]
  cases a4S c<;>cases upC c<;>cases a5M c<;>simp)]
 rfl
theorem c2t (s:ByteArray):a39 s=some (a3H s):=by
 unfold a39
 simp only [a3L]
 rw [c2y c1o (g:=fun c=>a4S c||a5M c||(c.toNat:Int)==95) (fun c=>by
  unfold a7D
  rw [c1o,c43]
  simp only [Option.bind_some]
  cases a4S c<;>cases a5M c<;>simp)]
 rfl
def a1r (l:List ByteArray):Bool:=asc cS l&&l.all a4Y
def a0f (k:Key):Bool:=if k.Kind=0 then a3H k.Text else if k.Kind=1 then decide ((k.Text.size:Int)<=64) else false
def b8v (v:Val):Bool:=v.Keys.length==v.Kids.length&&(asc cK v.Keys&&v.Keys.all a0f)
abbrev a5F:Val:=Val.mk 0 0 (⟨#[]⟩) ([]:List Val) ([]:List Key) ([]:List Ent) ([]:List ByteArray)
def a2T (n:Int)(e:Ent):Bool:=(e.Args.length:Int)==n&&(!e.Fails||cV e.Result a5F==0)
def b77 (v:Val):Bool:=decide (0<=v.Int_)&&decide (v.Int_<=4)&&(asc cE v.Entries&&v.Entries.all (a2T v.Int_))
theorem c9k (k:Key):a32 k=some (a0f k):=by
 unfold a32 a0f
 rw [c2t]
 simp only [a0w,beq_iff_eq,a3L]
 by_cases h:k.Kind=0
 ·simp [h]
 ·by_cases h1:k.Kind=1
  ·simp [h1]
  ·simp [h,h1]
def a29 (v:Val):Bool :=
 (v.Kind==1||v.Kind==4||v.Kind==9||v.Int_==0)&&(v.Kind==2||v.Kind==3||V4 v.Text ⟨#[]⟩) &&
 (v.Kind==6||v.Kind==7||v.Kind==8||v.Kids.isEmpty)&&(v.Kind==8||v.Keys.isEmpty)&&(v.Kind==9||v.Entries.isEmpty)
def b4Z (l:List Val):Bool :=
 match l with
 | [_,t]=>t.Kind==5||t.Kind==7
 | _=>false
def a5q (v:Val):Bool :=
 if v.Kind=1 then true else if v.Kind=2 then decide ((v.Text.size:Int)<=64) else if v.Kind=3 then a3H v.Text else if v.Kind=4 then decide (0<=v.Int_) else
 if v.Kind=5 then true else if v.Kind=6 then decide (v.Kids.length<=4) else if v.Kind=7 then b4Z v.Kids else if v.Kind=8 then b8v v else if v.Kind=9 then b77 v else false
def a3b (v:Val):Bool:=a1r v.Labels&&(a29 v&&a5q v)
theorem b9G {α:Type}(l:List α):decide (0<(l.length:Int))=!l.isEmpty:=by cases l<;>simp
mutual
def vOK:Val->Bool
 | .mk k n t kids keys ents labs=>a3b (.mk k n t kids keys ents labs)&&(a1G kids&&a5h ents)
def a1G:List Val->Bool
 | []=>true
 | x::r=>vOK x&&a1G r
def eOK:Ent->Bool
 | .mk args fails res=>a1G args&&(fails||vOK res)
def a5h:List Ent->Bool
 | []=>true
 | x::r=>eOK x&&a5h r
end
theorem c9n (v:Val):vOK v=(a3b v&&(a1G v.Kids&&a5h v.Entries)):=by cases v; simp only [vOK,Val.Kids,Val.Entries]
theorem c1C (e:Ent):eOK e=(a1G e.Args&&(e.Fails||vOK e.Result)):=by cases e; simp only [eOK,Ent.Args,Ent.Fails,Ent.Result]
theorem a45:∀ l:List Val,a1G l=l.all vOK
 | []=>by simp [a1G]
 | x::r=>by simp only [a1G,List.all_cons,a45 r]
theorem a78:∀ l:List Ent,a5h l=l.all eOK
 | []=>by simp [a5h]
 | x::r=>by simp only [a5h,List.all_cons,a78 r]
end Go.Pl
end
section
namespace Go.Pl
open Go Go.RowKit Go.Sx Go.Qx
def X1 {α:Type}(p:α->Bool)(x:α)(out:List α):List α:=out.takeWhile p++[x]++out.dropWhile p
theorem b8K {α:Type}(p:α->Bool):∀ l:List α,l.take (l.takeWhile p).length=l.takeWhile p
 | []=>rfl
 | x::r=>by
   by_cases h:p x=true
   ·simp [h,b8K p r]
   ·simp [h]
theorem b9p {α:Type}(p:α->Bool):∀ l:List α,l.drop (l.takeWhile p).length=l.dropWhile p
 | []=>rfl
 | x::r=>by
   by_cases h:p x=true
   ·simp [h,b9p p r]
   ·simp [h]
theorem b2x {α:Type}(p:α->Bool):∀ l:List α,(l.takeWhile p).length<=l.length
 | []=>Nat.le_refl _
 | x::r=>by
   have:=b2x p r
   by_cases h:p x=true
   ·simp [h,this]
   ·simp [h]
theorem c0e {α:Type}(p:α->Bool):∀ (l:List α),l[(l.takeWhile p).length]?=(l.dropWhile p).head?
 | []=>rfl
 | x::r=>by
   have:=c0e p r
   by_cases h:p x=true
   ·simp [h,this]
   ·simp [h]
theorem c05 {α:Type}{step:Int->Option (Fl Int Int)}(out:List α)(p:α->Bool)
 (hst:∀ (i:Nat) (x:α),out[i]?=some x->step (i:Int)=some (if p x=true then .next ((i+1:Nat):Int) else .done (i:Int)))
 (hend:step (out.length:Int)=some (.done (out.length:Int))):y4 step (out.length+1) 0=some ((out.takeWhile p).length:Int):=by
 have key:∀ (m i k:Nat),i+m=out.length->m+1<=k->y4 step k (i:Int)=some (((i+((out.drop i).takeWhile p).length:Nat)):Int):=by
  intro m
  induction m with
  | zero =>
    intro i k h1 h2
    obtain ⟨k,rfl⟩:∃ m,k=m+1:=⟨k-1,by omega⟩
    have e:i=out.length:=by omega
    subst e
    simp [y4,hend]
  | succ m ih =>
    intro i k h1 h2
    obtain ⟨k,rfl⟩:∃ m,k=m+1:=⟨k-1,by omega⟩
    have hlt:i<out.length:=by omega
    have hs:=hst i out[i] (List.getElem?_eq_getElem hlt)
    rw [List.drop_eq_getElem_cons hlt,List.takeWhile_cons]
    by_cases hp:p out[i]=true
    ·rw [if_pos hp] at hs
     simp only [y4,hs,Option.bind_some,ih (i+1) k (by omega) (by omega),hp,if_true,List.length_cons]
     congr 2
     omega
    ·rw [if_neg hp] at hs
     simp [y4,hs,hp]
 have:=key out.length 0 (out.length+1) (by omega) (Nat.le_refl _)
 simpa using this
theorem a2d {α σ τ β:Type}{step:σ->Option (Fl σ (Sum τ β))}(xs:List α)(p:α->Bool)(pk:Nat->σ)(d:τ)(b:β)
 (hst:∀ (i:Nat) (x:α),xs[i]?=some x->step (pk i)=some (if p x=true then .next (pk (i+1)) else .done (.inr b)))
 (hend:step (pk xs.length)=some (.done (.inl d))):y4 step (xs.length+1) (pk 0)=some (if xs.all p=true then .inl d else .inr b):=by
 have key:∀ (m i k:Nat),i+m=xs.length->m+1<=k->y4 step k (pk i)=some (if (xs.drop i).all p=true then .inl d else .inr b):=by
  intro m
  induction m with
  | zero =>
    intro i k h1 h2
    obtain ⟨k,rfl⟩:∃ m,k=m+1:=⟨k-1,by omega⟩
    have e:i=xs.length:=by omega
    subst e
    simp [y4,hend]
  | succ m ih =>
    intro i k h1 h2
    obtain ⟨k,rfl⟩:∃ m,k=m+1:=⟨k-1,by omega⟩
    have hlt:i<xs.length:=by omega
    have hs:=hst i xs[i] (List.getElem?_eq_getElem hlt)
    rw [List.drop_eq_getElem_cons hlt,List.all_cons]
    by_cases hp:p xs[i]=true
    ·rw [if_pos hp] at hs
     simp only [y4,hs,Option.bind_some,ih (i+1) k (by omega) (by omega),hp,Bool.true_and]
    ·rw [if_neg hp] at hs
     simp [y4,hs,hp]
 have:=key xs.length 0 (xs.length+1) (by omega) (Nat.le_refl _)
 simpa using this
theorem a9K {α:Type}(c:α->α->Int)(hanti:∀ a b,c b a = - c a b)(x:α):∀ out:List α,asc c out=true->(∀ y,(out.dropWhile (fun y=>decide (c y x<0))).head?=some y->c y x≠0) ->
 asc c (X1 (fun y=>decide (c y x<0)) x out)=true
 | [],_,_=>by simp [X1,asc]
 | y::r,h,hne=>by
   by_cases hp:c y x<0
   ·have ih:=a9K c hanti x r (by cases r with | nil=>simp [asc] | cons z r=>simp [asc] at h; exact h.2) (by
     intro z hz
     refine hne z ?_
     simpa [hp] using hz)
    have e:X1 (fun y=>decide (c y x<0)) x (y::r)=y::X1 (fun y=>decide (c y x<0)) x r:=by simp [X1,hp]
    rw [e]
    cases r with
    | nil=>simp [X1,asc,hp]
    | cons z r =>
      simp only [asc,Bool.and_eq_true,decide_eq_true_eq] at h
      by_cases hz:c z x<0
      ·have e2:X1 (fun y=>decide (c y x<0)) x (z::r)=z::X1 (fun y=>decide (c y x<0)) x r:=by simp [X1,hz]
       rw [e2] at ih ⊢
       simp only [asc,Bool.and_eq_true,decide_eq_true_eq]
       exact ⟨h.1,ih⟩
      ·have e2:X1 (fun y=>decide (c y x<0)) x (z::r)=x::z::r:=by simp [X1,hz]
       rw [e2] at ih ⊢
       simp only [asc,Bool.and_eq_true,decide_eq_true_eq] at ih ⊢
       exact ⟨hp,ih⟩
   ·have e:X1 (fun y=>decide (c y x<0)) x (y::r)=x::y::r:=by simp [X1,hp]
    have hy:=hne y (by simp [hp])
    have ha:=hanti y x
    rw [e]
    simp only [asc,Bool.and_eq_true,decide_eq_true_eq]
    exact ⟨by omega,h⟩
theorem b0X {α:Type}{p:α->Bool}{x y:α}{out:List α}(h:y∈X1 p x out):y=x\/y∈out:=by
 have e:=List.takeWhile_append_dropWhile (p:=p) (l:=out)
 simp only [X1,List.mem_append,List.mem_singleton] at h
 rcases h with (h | h) | h
 ·exact .inr (by rw [<- e]; exact List.mem_append_left _ h)
 ·exact .inl h
 ·exact .inr (by rw [<- e]; exact List.mem_append_right _ h)
theorem a5m {α:Type}(p:α->Bool)(x:α)(out:List α):(X1 p x out).length=out.length+1:=by
 have e:=congrArg List.length (List.takeWhile_append_dropWhile (p:=p) (l:=out))
 simp only [List.length_append] at e
 simp only [X1,List.length_append,List.length_singleton]
 omega
theorem b8m {α:Type}(l:List α){k:Nat}(h:k<=l.length):cut l 0 (k:Int)=some (l.take k):=by
 unfold cut
 rw [if_pos ⟨by omega,by omega,by omega⟩]
 simp
theorem c00 {α:Type}(l:List α){k:Nat}(h:k<=l.length):cut l (k:Int) (l.length:Int)=some (l.drop k):=by
 unfold cut
 rw [if_pos ⟨by omega,by omega,by omega⟩]
 simp
theorem c5s {α β:Type}(out:List α)(x:α)(p:α->Bool)(b:Nat)(hb:b<=1024)(hl:out.length<=4194304)(f:List α->Option β) :
 (Option.bind (cut out 0 ((out.takeWhile p).length:Int)) fun u=>Option.bind (Z4 (0+u.length) b) fun _ =>
   Option.bind (Z4 (u.length+[x].length) b) fun _=>Option.bind (cut out ((out.takeWhile p).length:Int) (out.length:Int)) fun w =>
   Option.bind (Z4 ((u++[x]).length+w.length) b) fun _=>f ((u++[x])++w))=f (X1 p x out):=by
 have hk:=b2x p out
 have rm:∀ n,n<=4194305->Z4 n b=some ():=fun n hn=>J4 (by
  have:n*b<=4194305*1024:=Nat.mul_le_mul hn hb
  omega)
 rw [b8m out hk,c00 out hk,b8K,b9p]
 have hl2:=a5m p x out
 simp only [X1,List.length_append,List.length_singleton] at hl2
 simp only [Option.bind_some]
 rw [rm _ (by simp; omega),rm _ (by simp; omega),rm _ (by simp only [List.length_append,List.length_singleton]; omega)]
 rfl
theorem c7b (a b:Ent):cE a b=lx (eE a) (eE b):=by
 have:=(c4K (a43 a)).2 a (Nat.le_refl _) b [] []
 simpa [lx,b2c] using this.symm
theorem c2M (a b:Ent):cE b a = - cE a b:=by rw [c7b,c7b]; exact b5L _ _
def a2L (out:List Ent)(x:Ent):List Ent :=
 match (out.dropWhile (fun y=>decide (cE y x<0))).head? with
 | some y=>if cE y x=0 then out else X1 (fun y=>decide (cE y x<0)) x out
 | none=>X1 (fun y=>decide (cE y x<0)) x out
theorem a9u (a b:List Ent):w9 (a++b)=w9 a+w9 b:=by
 induction a with
 | nil=>simp [w9]
 | cons x r ih=>simp only [List.cons_append,w9,ih]; omega
theorem b6B (p:Ent->Bool)(x:Ent)(out:List Ent):w9 (X1 p x out)=w9 out+a43 x:=by
 have e:=congrArg w9 (List.takeWhile_append_dropWhile (p:=p) (l:=out))
 rw [a9u] at e
 simp only [X1,a9u,w9]
 omega
theorem c5y (out:List Ent)(x:Ent):w9 (a2L out x)<=w9 out+a43 x:=by
 unfold a2L
 split
 ·split
  ·omega
  ·rw [b6B]; omega
 ·rw [b6B]; omega
theorem c6m (out:List Ent)(x:Ent):(a2L out x).length<=out.length+1:=by
 unfold a2L
 split
 ·split
  ·omega
  ·rw [a5m]; omega
 ·rw [a5m]; omega
theorem c1m {out:List Ent}{x y:Ent}(h:y∈a2L out x):y=x\/y∈out:=by
 unfold a2L at h
 split at h
 ·split at h
  ·exact .inr h
  ·exact b0X h
 ·exact b0X h
theorem c5W (out:List Ent)(x:Ent)(h:asc cE out=true):asc cE (a2L out x)=true:=by
 unfold a2L
 split
 ·rename_i y hy
  split
  ·exact h
  ·rename_i hne
   refine a9K cE c2M x out h (fun z hz=>?_)
   rw [hy] at hz
   cases hz
   exact hne
 ·rename_i hy
  refine a9K cE c2M x out h (fun z hz=>?_)
  rw [hy] at hz; cases hz
theorem c0R (fuel:Nat)(es out:List Ent)(i:Nat)(x:Ent)(hx:es[i]?=some x)(hf:∀ e∈out,2*a43 e<=fuel)(hb:∀ e∈out,a43 e<=4194304)(hl:out.length<=4194304)(hi:i<=4194304) :
 X7 es fuel (out,(i:Int))=some (.next (a2L out x,((i+1:Nat):Int))):=by
 have hlt:i<es.length:=(List.getElem?_eq_some_iff.1 hx).1
 have hix:idx es (i:Int)=some x:=k7 hx
 have hcmp:∀ e∈out,Z3 fuel e x=some (cE e x):=fun e he=>(a4i fuel).2.2 e x (hf e he) (hb e he)
 unfold X7
 simp only [J3]
 rw [c05 (step:=a2o es (out,(i:Int)) fuel) out (fun y=>decide (cE y x<0)) ?_ ?_]
 ·simp only [a0w,Y1]
  rw [if_pos (by simp; omega)]
  simp only [Option.bind_some,hix,Int.toNat_natCast,hx]
  have hk:=b2x (fun y=>decide (cE y x<0)) out
  have hat:=c0e (fun y=>decide (cE y x<0)) out
  have go:(Option.bind (cut out 0 ((out.takeWhile (fun y=>decide (cE y x<0))).length:Int)) fun u=>Option.bind (Z4 (0+u.length) 160) fun _ =>
   Option.bind (Z4 (u.length+[x].length) 160) fun _=>Option.bind (cut out ((out.takeWhile (fun y=>decide (cE y x<0))).length:Int) (out.length:Int)) fun w =>
   Option.bind (Z4 ((u++[x]).length+w.length) 160) fun _=>some ((u++[x])++w))=some (X1 (fun y=>decide (cE y x<0)) x out) :=
   c5s out x _ 160 (by omega) hl (fun l=>some l)
  rw [w7 i (by omega)]
  have fin:∀ (b:Bool) (r:List Ent),(if b=true then some out else some r)=some (a2L out x)->(Option.bind (if b=true then some out else some r) fun b18=>some (Fl.next (b18,((i+1:Nat):Int)):Fl (List Ent×Int) (List Ent)))=some (.next (a2L out x,((i+1:Nat):Int))):=by
   intro b r h
   rw [h]; rfl
  rw [go]
  unfold a2L at fin ⊢
  cases hh:(out.dropWhile (fun y=>decide (cE y x<0))).head? with
  | none =>
    rw [hh] at hat
    have hge:=List.getElem?_eq_none_iff.1 hat
    rw [if_neg (by simp; omega)]
    rfl
  | some y =>
    rw [hh] at hat
    have hlt2:=(List.getElem?_eq_some_iff.1 hat).1
    rw [if_pos (by simp; omega),k7 hat]
    simp only [Option.bind_some]
    rw [hcmp y (List.mem_of_getElem? hat)]
    simp only [Option.bind_some]
    by_cases h0:cE y x=0
    ·rw [if_pos (by simp [h0]),if_pos h0]
     rfl
    ·rw [if_neg (by simp [h0]),if_neg h0]
     rfl
 ·intro j y hy
  have hj:j<out.length:=(List.getElem?_eq_some_iff.1 hy).1
  unfold a2o
  simp only [a0w,Y1]
  rw [if_pos (by simp; omega),k7 hy,hix]
  simp only [Option.bind_some,Int.toNat_natCast,hx]
  rw [hcmp y (List.mem_of_getElem? hy)]
  simp only [Option.bind_some,w7 j (by omega)]
  by_cases h:cE y x<0<;>simp [h]
 ·unfold a2o
  simp
theorem a7I:∀ (es out:List Ent),w9 (es.foldl a2L out)<=w9 out+w9 es
 | [],out=>by simp [w9]
 | x::r,out=>by
   have h1:=a7I r (a2L out x)
   have h2:=c5y out x
   simp only [List.foldl_cons,w9]
   omega
theorem a8Y {y:Ent}:∀ (es out:List Ent),y∈es.foldl a2L out->y∈out\/y∈es
 | [],_,h=>.inl h
 | x::r,out,h=>by
   rcases a8Y r (a2L out x) h with h | h
   ·rcases c1m h with rfl | h
    ·exact .inr (by simp)
    ·exact .inl h
   ·exact .inr (by simp [h])
theorem b37:∀ (es out:List Ent),asc cE out=true->asc cE (es.foldl a2L out)=true
 | [],_,h=>h
 | x::r,out,h=>b37 r (a2L out x) (c5W out x h)
theorem c21 (fuel:Nat)(es:List Ent)(hf:2*w9 es<=fuel)(hb:w9 es<=4194304):a3m fuel es=some (es.foldl a2L []):=by
 have hlen:=a5y es
 unfold a3m
 have key:=b5w (σ:=List Ent) (step:=X7 es fuel) es (fun s i=>(s,(i:Int))) a2L (fun i s=>s.length<=i/\(∀ e∈s,e∈es)) (fun s=>s)
  ?_ ?_ [] ⟨by simp,by simp⟩ _ (Nat.le_refl _)
 ·have e:y4 (X7 es fuel) (es.length+1) (([]:List Ent),0)=y4 (X7 es fuel) (es.length+1) (([]:List Ent),((0:Nat):Int)):=rfl
  rw [J3,e,key]
  rfl
 ·intro i s x hx ⟨hI,hm⟩
  have hi:i<es.length:=(List.getElem?_eq_some_iff.1 hx).1
  refine ⟨c0R fuel es s i x hx (fun e he=>by have:=a2l (hm e he); omega) (fun e he=>by have:=a2l (hm e he); omega) (by omega) (by omega),?_,?_⟩
  ·have:=c6m s x; omega
  ·intro e he
   rcases c1m he with rfl | he
   ·exact List.mem_of_getElem? hx
   ·exact hm e he
 ·intro s _
  unfold X7
  simp
def b4S (n:Int)(es:List Ent):Val:=Val.mk 9 n (⟨#[]⟩) ([]:List Val) ([]:List Key) es ([]:List ByteArray)
abbrev b5A:Type:=Int×Int×ByteArray×(List Val)×(List Key)×(List Ent)×(List ByteArray)
abbrev a1H:b5A:=(0,0,(⟨#[]⟩:ByteArray),[],[],[],[])
theorem b0T (fuel:Nat)(n:Int)(es:List Ent)(hf:2*w9 es<=fuel)(hb:w9 es<=4194304) :
 a1O fuel n es=some (if 0<=n/\n<=4/\es.all (a2T n)=true then (b4S n (es.foldl a2L []),0) else (a5F,1)):=by
 have hlen:=a5y es
 unfold a1O
 simp only [J3]
 by_cases h1:n<0
 ·have e1:decide (n<0)=true:=by simpa using h1
  rw [e1,if_neg (by omega)]; rfl
 by_cases h2:4<n
 ·have e1:decide (n<0)=false:=by simpa using h1
  have e2:decide (4<n)=true:=by simpa using h2
  rw [e1,e2,if_neg (by omega)]; rfl
 have e1:decide (n<0)=false:=by simpa using h1
 have e2:decide (4<n)=false:=by simpa using h2
 rw [e1,e2,c21 fuel es hf hb]
 have key:=a2d (step:=a0t n es fuel) es (a2T n) (fun i=>((i:Int),a1H)) a1H (1,a1H) ?_ ?_
 ·have e:y4 (a0t n es fuel) (es.length+1) (0,(0,0,(⟨#[]⟩:ByteArray),[],[],[],[]))=y4 (a0t n es fuel) (es.length+1) (((0:Nat):Int),a1H):=rfl
  rw [e,key]
  by_cases ha:es.all (a2T n)=true
  ·rw [if_pos ha,if_pos ⟨by omega,by omega,ha⟩]
   rfl
  ·rw [if_neg ha,if_neg (fun h=>ha h.2.2)]
   rfl
 ·intro i x hx
  have hi:i<es.length:=(List.getElem?_eq_some_iff.1 hx).1
  have hm:=a2l (List.mem_of_getElem? hx)
  have hbe:=a3i x
  unfold a0t a2G
  simp only [a0w,Y1]
  rw [if_pos (by simp; omega),k7 hx]
  simp only [Option.bind_some,Int.toNat_natCast,hx]
  rw [show Val.mk 0 0 (⟨#[]⟩:ByteArray) ([]:List Val) ([]:List Key) ([]:List Ent) ([]:List ByteArray)=a5F from rfl,(a4i fuel).1 x.Result a5F (by omega) (by omega),w7 i (by omega)]
  unfold a2T
  by_cases hl:(x.Args.length:Int)=n
  ·have e1:((x.Args.length:Int) != n)=false:=by simp [hl]
   have e2:((x.Args.length:Int)==n)=true:=by simp [hl]
   rw [e1,e2]
   simp only [Bool.false_eq_true,if_false,Option.bind_some,Bool.true_and]
   cases x.Fails
   ·simp
   ·by_cases h0:cV x.Result a5F=0<;>simp [h0]
  ·have e1:((x.Args.length:Int) != n)=true:=by simp [hl]
   have e2:((x.Args.length:Int)==n)=false:=by simp [hl]
   rw [e1,e2]
   simp
 ·unfold a0t
  simp
end Go.Pl
end
section
namespace Go.Pl
open Go Go.RowKit Go.Sx Go.Qx
theorem b3O (c:UInt8):a1V (c.toNat:Int)=some (a4S c):=by
 unfold a1V a4S
 cases decide (97<=(c.toNat:Int))<;>simp
theorem b8q (c:UInt8):a2H (c.toNat:Int)=some (a5M c):=by
 unfold a2H a5M
 cases decide (48<=(c.toNat:Int))<;>simp
theorem b1H (s:ByteArray):a1x s=some (a3H s):=by
 unfold a1x a3H b2F
 simp only [a0w,b9d]
 have hsz:=b5u s
 cases hs:s.data.toList with
 | nil =>
   rw [hs] at hsz
   rw [hsz]
   simp
 | cons c r =>
   rw [hs] at hsz
   simp only [List.length_cons] at hsz
   have e1:decide ((s.size:Int)<1)=false:=by simp; omega
   rw [e1]
   simp only [Bool.false_eq_true,if_false,Option.bind_some]
   by_cases hb:16<(s.size:Int)
   ·rw [if_pos (by simpa using hb)]
    have:decide (r.length<=15)=false:=by simp; omega
    rw [this]; rfl
   ·rw [if_neg (by simpa using hb)]
    have e2:decide (r.length<=15)=true:=by simp; omega
    have e3:a4D s 0=some c:=a9F (i:=0) (by rw [hs]; rfl)
    rw [e2,e3]
    simp only [Option.bind_some,b3O,Bool.true_and]
    cases a4S c
    ·rfl
    ·simp only [Bool.not_true,Bool.false_eq_true,if_false,Bool.true_and]
     refine b7d s.size (fun i=>match s.data.toList[i]? with | some x=>(a4S x||a5M x||(x.toNat:Int)==95) | none=>true) ?_ ?_ 1 _ ?_
     ·intro i hi
      have hi':i<s.data.toList.length:=by rw [hs]; simp; omega
      unfold a4d
      simp only [a0w,Y1]
      rw [if_pos (by simp; omega),a9F (List.getElem?_eq_getElem hi')]
      simp only [Option.bind_some,b3O,b8q]
      rw [List.getElem?_eq_getElem hi',w7 i (by omega)]
      generalize s.data.toList[i]=x
      have hn:((x.toNat:Int) != 95)=!((x.toNat:Int)==95):=rfl
      rw [hn]
      show _=some (if (a4S x||a5M x||(x.toNat:Int)==95)=true then _ else _)
      cases a4S x<;>cases a5M x<;>cases (x.toNat:Int)==95<;>rfl
     ·intro i hi
      unfold a4d
      rw [a0w,if_neg (by simp; omega)]
     ·rw [hs,List.all_eq_true]
      constructor
      ·intro h i h1 hi
       obtain ⟨i,rfl⟩:∃ m,i=m+1:=⟨i-1,by omega⟩
       have hr:i<r.length:=by omega
       simp only [List.getElem?_cons_succ,List.getElem?_eq_getElem hr]
       exact h _ (List.getElem_mem hr)
      ·intro h x hx
       obtain ⟨i,hi,rfl⟩:=List.getElem_of_mem hx
       have:=h (i+1) (by omega) (by omega)
       simpa only [List.getElem?_cons_succ,List.getElem?_eq_getElem hi] using this
theorem b3W (k:Key):a05 k=some (a0f k):=by
 unfold a05 a0f
 rw [b1H]
 by_cases h:k.Kind=0
 ·cases a3H k.Text<;>simp [h]
 ·by_cases h1:k.Kind=1
  ·simp [h1]
  ·have e0:(k.Kind==0)=false:=by simpa using h
   have e1:(k.Kind==1)=false:=by simpa using h1
   rw [e0,e1,if_neg h,if_neg h1]
   rfl
theorem c3m (a b:Key):cK a b=lx (eK a) (eK b):=by
 have:=pfK a b [] []
 simpa [lx,b2c] using this.symm
theorem c2A (a b:Key):cK b a = - cK a b:=by rw [c3m,c3m]; exact b5L _ _
def b30 (a b:Key):Bool:=a4n a b
theorem c5o (a b:Key):b30 a b=((a.Kind==b.Kind)&&V4 a.Text b.Text):=by unfold b30 a4n; simp
theorem c4B (a b:Key):b30 a b=true↔cK a b=0:=by
 rw [c5o]
 unfold cK
 rcases W9 a.Kind b.Kind with ⟨h,e⟩ | ⟨h,e⟩ | ⟨h,e⟩
 ·have:(a.Kind==b.Kind)=false:=by simp; omega
  simp [this,e,tn]
 ·have:(a.Kind==b.Kind)=false:=by simp; omega
  simp [this,e,tn]
 ·rw [h]
  rw [h] at e
  rcases a6u a.Text b.Text with ⟨_,p,q⟩ | ⟨_,p,q⟩ | ⟨_,p,q⟩<;>simp [p,q,e,tn]
abbrev a1P (k:Key):Key->Bool:=fun y=>decide (cK y k<0)
def b5m (s:List Val×List Key)(x:Key×Val):Option (List Val×List Key) :=
 if ((s.2.dropWhile (a1P x.1)).head?.map fun y=>b30 y x.1)=some true then none
 else some (s.1.take (s.2.takeWhile (a1P x.1)).length++[x.2]++s.1.drop (s.2.takeWhile (a1P x.1)).length,X1 (a1P x.1) x.1 s.2)
def a4F:List (Key×Val)->List Val×List Key->Option (List Val×List Key)
 | [],s=>some s
 | x::r,s=>(b5m s x).bind (a4F r)
abbrev a57 (s:List Val×List Key):b5A:=(8,0,(⟨#[]⟩:ByteArray),s.1,s.2,[],[])
theorem c6g (keys:List Key)(l:List Val)(i:Nat)(k:Key)(x:Val)(hk:keys[i]?=some k)(hx:l[i]?=some x)(s:List Val×List Key)(hs:s.1.length=s.2.length)(hl:s.2.length<=4194304)(hi:i<=4194304) :
 ∃ y,a0U keys l ((i:Int),a1H,a57 s)=some (match b5m s (k,x) with | some t=>.next (((i+1:Nat):Int),a1H,a57 t) | none=>.done (.inr (6,a1H,y))):=by
 refine ⟨a57 s,?_⟩
 have hlt:i<keys.length:=(List.getElem?_eq_some_iff.1 hk).1
 have hik:idx keys (i:Int)=some k:=k7 hk
 have hix:idx l (i:Int)=some x:=k7 hx
 unfold a0U
 simp only [J3]
 rw [c05 (step:=a3D keys ((i:Int),a1H,a57 s)) s.2 (a1P k) ?_ ?_]
 ·simp only [a0w,Y1]
  rw [if_pos (by simp; omega)]
  simp only [Option.bind_some,hik,hix]
  have hp:=b2x (a1P k) s.2
  have hat:=c0e (a1P k) s.2
  have rmk:∀ n,n<=4194305->Z4 n 24=some ():=fun n hn=>J4 (by omega)
  have rmv:∀ n,n<=4194305->Z4 n 128=some ():=fun n hn=>J4 (by omega)
  have h1:=a5m (a1P k) k s.2
  simp only [X1,List.length_append,List.length_singleton] at h1
  have go:(Option.bind (cut s.2 0 ((s.2.takeWhile (a1P k)).length:Int)) fun u=>Option.bind (Z4 (0+u.length) 24) fun _ =>
   Option.bind (cut s.1 0 ((s.2.takeWhile (a1P k)).length:Int)) fun u2=>Option.bind (a0S u2) fun r2 =>
   Option.bind (Z4 (u.length+[k].length) 24) fun _=>Option.bind (cut s.2 ((s.2.takeWhile (a1P k)).length:Int) (s.2.length:Int)) fun w =>
   Option.bind (Z4 ((u++[k]).length+w.length) 24) fun _=>Option.bind (Z4 (r2.length+[x].length) 128) fun _ =>
   Option.bind (cut s.1 ((s.2.takeWhile (a1P k)).length:Int) (s.1.length:Int)) fun w2=>Option.bind (Z4 ((r2++[x]).length+w2.length) 128) fun _ =>
   some (Fl.next (w64 ((i:Int)+1),a1H,a57 ((r2++[x])++w2,(u++[k])++w))))=some (Fl.next (((i+1:Nat):Int),a1H,a57 (s.1.take (s.2.takeWhile (a1P k)).length++[x]++s.1.drop (s.2.takeWhile (a1P k)).length,X1 (a1P k) k s.2)):Fl (Int×b5A×b5A) (Sum (b5A×b5A) (Int×b5A×b5A))):=by
   have ht:(s.1.take (s.2.takeWhile (a1P k)).length).length<=4194304:=by rw [List.length_take]; omega
   have hd:(s.1.take (s.2.takeWhile (a1P k)).length).length+(s.1.drop (s.2.takeWhile (a1P k)).length).length=s.1.length:=by rw [List.length_take,List.length_drop]; omega
   rw [b8m s.2 hp,c00 s.2 hp,b8m s.1 (by omega),c00 s.1 (by omega),b8K,b9p]
   unfold a0S
   simp only [Option.bind_some]
   rw [rmk _ (by simp; omega),rmv _ (by simp; omega)]
   simp only [Option.bind_some]
   rw [rmk _ (by simp; omega),rmk _ (by simp only [List.length_append,List.length_singleton]; omega),rmv _ (by simp; omega),rmv _ (by simp only [List.length_append,List.length_singleton]; omega),w7 i (by omega)]
   rfl
  unfold b5m
  cases hh:(s.2.dropWhile (a1P k)).head? with
  | none =>
    rw [hh] at hat
    have hge:=List.getElem?_eq_none_iff.1 hat
    rw [if_neg (by simp; omega),if_neg (by simp)]
    exact go
  | some y =>
    rw [hh] at hat
    have hlt2:=(List.getElem?_eq_some_iff.1 hat).1
    rw [if_pos (by simp; omega),k7 hat]
    simp only [Option.bind_some,Option.map_some]
    cases hq:b30 y k
    ·unfold b30 at hq
     rw [hq,if_neg (by simp),if_neg (by simp)]
     exact go
    ·unfold b30 at hq
     rw [hq,if_pos rfl,if_pos rfl]
 ·intro j y hy
  have hj:j<s.2.length:=(List.getElem?_eq_some_iff.1 hy).1
  unfold a3D
  simp only [a0w,Y1]
  rw [if_pos (by simp; omega),k7 hy,hik]
  simp only [Option.bind_some,a8k,w7 j (by omega)]
  by_cases h:cK y k<0<;>simp [h]
 ·unfold a3D
  simp
theorem c0E {s t:List Val×List Key}{x:Key×Val}(h:b5m s x=some t)(hs:s.1.length=s.2.length):t.1.length=t.2.length/\t.2.length=s.2.length+1:=by
 unfold b5m at h
 split at h
 ·cases h
 ·cases h
  have h1:=a5m (a1P x.1) x.1 s.2
  have hp:=b2x (a1P x.1) s.2
  refine ⟨?_,h1⟩
  rw [h1]
  simp only [List.length_append,List.length_singleton,List.length_take,List.length_drop]
  omega
theorem c5U (keys:List Key)(l:List Val)(hkl:keys.length=l.length)(hl:keys.length<=4194304) :
 ∃ y,y4 (a0U keys l) (keys.length+1) (0,a1H,a57 ([],[]))=some (match a4F (keys.zip l) ([],[]) with | some t=>.inl (a1H,a57 t) | none=>.inr (6,a1H,y)):=by
 have key:∀ (m i k:Nat) (s:List Val×List Key),i+m=keys.length->m+1<=k->s.1.length=s.2.length->s.2.length<=i ->
  ∃ y,y4 (a0U keys l) k ((i:Int),a1H,a57 s)=some (match a4F ((keys.drop i).zip (l.drop i)) s with | some t=>.inl (a1H,a57 t) | none=>.inr (6,a1H,y)):=by
  intro m
  induction m with
  | zero =>
    intro i k s h1 h2 hs hn
    obtain ⟨k,rfl⟩:∃ m,k=m+1:=⟨k-1,by omega⟩
    have e:i=keys.length:=by omega
    subst e
    rw [List.drop_length,List.zip_nil_left]
    have:a0U keys l ((keys.length:Int),a1H,a57 s)=some (.done (.inl (a1H,a57 s))):=by
     unfold a0U
     simp
    exact ⟨a1H,by simp only [y4,this,a4F,Option.bind_some]⟩
  | succ m ih =>
    intro i k s h1 h2 hs hn
    obtain ⟨k,rfl⟩:∃ m,k=m+1:=⟨k-1,by omega⟩
    have hlt:i<keys.length:=by omega
    have hlt2:i<l.length:=by omega
    rw [List.drop_eq_getElem_cons hlt,List.drop_eq_getElem_cons hlt2,List.zip_cons_cons]
    obtain ⟨y,hy⟩:=c6g keys l i _ _ (List.getElem?_eq_getElem hlt) (List.getElem?_eq_getElem hlt2) s hs (by omega) (by omega)
    simp only [y4,hy,a4F]
    cases hi:b5m s (keys[i],l[i]) with
    | none=>exact ⟨y,by simp⟩
    | some t =>
      obtain ⟨h3,h4⟩:=c0E hi hs
      simp only [Option.bind_some]
      exact ih (i+1) k t (by omega) (by omega) h3 (by omega)
 obtain ⟨y,hy⟩:=key keys.length 0 (keys.length+1) ([],[]) (by omega) (Nat.le_refl _) rfl (Nat.le_refl _)
 exact ⟨y,by simpa using hy⟩
def b1n (s:List Val×List Key):Val:=Val.mk 8 0 (⟨#[]⟩) s.1 s.2 ([]:List Ent) ([]:List ByteArray)
theorem b8d (keys:List Key)(l:List Val)(hl:keys.length<=4194304) :
 a1I keys l=some (if keys.length=l.length/\keys.all a0f=true then (match a4F (keys.zip l) ([],[]) with | some t=>((b1n t,0):Val×Int) | none=>(a5F,6)) else (a5F,1)):=by
 unfold a1I
 simp only [J3]
 by_cases hkl:keys.length=l.length
 ·have e1:((keys.length:Int) != (l.length:Int))=false:=by simp; omega
  rw [e1]
  have k1:=a2d (step:=a1w keys) keys a0f (fun i=>((i:Int),a1H)) a1H (1,a1H) ?_ ?_
  ·obtain ⟨y,hy⟩:=c5U keys l hkl hl
   have e2:y4 (a1w keys) (keys.length+1) (0,(0,0,(⟨#[]⟩:ByteArray),[],[],[],[]))=y4 (a1w keys) (keys.length+1) (((0:Nat):Int),a1H):=rfl
   rw [e2,k1]
   by_cases ha:keys.all a0f=true
   ·rw [if_pos ha,if_pos ⟨hkl,ha⟩]
    simp only [Option.bind_some,k9,cond_false]
    rw [hy]
    cases a4F (keys.zip l) ([],[])<;>rfl
   ·rw [if_neg ha,if_neg (fun h=>ha h.2)]
    rfl
  ·intro i x hx
   have hi:i<keys.length:=(List.getElem?_eq_some_iff.1 hx).1
   unfold a1w
   simp only [a0w,Y1]
   rw [if_pos (by simp; omega),k7 hx]
   simp only [Option.bind_some,b3W,w7 i (by omega)]
   cases a0f x<;>rfl
  ·unfold a1w
   simp
 ·have e1:((keys.length:Int) != (l.length:Int))=true:=by simp; omega
  rw [e1,if_neg (fun h=>hkl h.1)]
  rfl
theorem a5o (a b:List Key):k8 (a++b)=k8 a+k8 b:=by
 induction a with
 | nil=>simp [k8]
 | cons x r ih=>simp only [List.cons_append,k8,ih]; omega
theorem c3K {s t:List Val×List Key}{x:Key×Val}(h:b5m s x=some t)(ha:asc cK s.2=true) :
 asc cK t.2=true/\(∀ y∈t.2,y=x.1\/y∈s.2)/\(∀ y∈t.1,y=x.2\/y∈s.1)/\v7 t.1=v7 s.1+Z5 x.2/\k8 t.2=k8 s.2+a2y x.1:=by
 unfold b5m at h
 split at h
 ·cases h
 ·rename_i hne
  cases h
  refine ⟨a9K cK c2A x.1 s.2 ha ?_,fun y hy=>b0X hy,fun y hy=>?_,?_,?_⟩
  ·intro y hy h0
   rw [hy] at hne
   simp only [Option.map_some] at hne
   exact hne (congrArg some ((c4B y x.1).2 h0))
  ·simp only [List.mem_append,List.mem_singleton] at hy
   rcases hy with (hy | hy) | hy
   ·exact .inr (List.mem_of_mem_take hy)
   ·exact .inl hy
   ·exact .inr (List.mem_of_mem_drop hy)
  ·have e:=congrArg v7 (List.take_append_drop (s.2.takeWhile (a1P x.1)).length s.1)
   rw [a2V] at e
   simp only [a2V,v7]
   omega
  ·have e:=congrArg k8 (List.takeWhile_append_dropWhile (p:=a1P x.1) (l:=s.2))
   rw [a5o] at e
   simp only [X1,a5o,k8]
   omega
def b3k:List (Key×Val)->Nat
 | []=>0
 | x::r=>a2y x.1+Z5 x.2+b3k r
theorem b0k:∀ (xs:List (Key×Val)) (s t:List Val×List Key),a4F xs s=some t->asc cK s.2=true->s.1.length=s.2.length ->
 asc cK t.2=true/\t.1.length=t.2.length/\t.2.length=s.2.length+xs.length/\(∀ y∈t.2,y∈s.2\/∃ x∈xs,y=x.1)/\(∀ y∈t.1,y∈s.1\/∃ x∈xs,y=x.2)/\v7 t.1+k8 t.2=v7 s.1+k8 s.2+b3k xs
 | [],s,t,h,ha,hl=>by
   cases h
   exact ⟨ha,hl,rfl,fun y hy=>.inl hy,fun y hy=>.inl hy,rfl⟩
 | x::r,s,t,h,ha,hl=>by
   simp only [a4F] at h
   obtain ⟨u,hu,h⟩:=Option.bind_eq_some_iff.1 h
   obtain ⟨k1,k2,k3,k4,k5⟩:=c3K hu ha
   obtain ⟨l1,l2⟩:=c0E hu hl
   obtain ⟨m1,m2,m3,m4,m5,m6⟩:=b0k r u t h k1 l1
   refine ⟨m1,m2,by rw [m3,l2,List.length_cons]; omega,fun y hy=>?_,fun y hy=>?_,by simp only [b3k]; omega⟩
   ·rcases m4 y hy with hy | ⟨z,hz,rfl⟩
    ·rcases k2 y hy with rfl | hy
     ·exact .inr ⟨x,by simp,rfl⟩
     ·exact .inl hy
    ·exact .inr ⟨z,by simp [hz],rfl⟩
   ·rcases m5 y hy with hy | ⟨z,hz,rfl⟩
    ·rcases k3 y hy with rfl | hy
     ·exact .inr ⟨x,by simp,rfl⟩
     ·exact .inl hy
    ·exact .inr ⟨z,by simp [hz],rfl⟩
end Go.Pl
namespace Go.Pl
open Go Go.RowKit Go.Sx Go.Qx
theorem b9V (c:UInt8):a2E (c.toNat:Int)=some (upC c):=by
 unfold a2E upC
 cases decide (65<=(c.toNat:Int))<;>simp
theorem b8F (s:ByteArray):a1k s=some (a4Y s):=by
 unfold a1k a4Y b2F
 simp only [a0w,b9d]
 have hsz:=b5u s
 cases hs:s.data.toList with
 | nil =>
   rw [hs] at hsz
   rw [hsz]
   simp
 | cons c r =>
   rw [hs] at hsz
   simp only [List.length_cons] at hsz
   have e1:decide ((s.size:Int)<1)=false:=by simp; omega
   rw [e1]
   simp only [Bool.false_eq_true,if_false,Option.bind_some]
   by_cases hb:16<(s.size:Int)
   ·rw [if_pos (by simpa using hb)]
    have:decide (r.length<=15)=false:=by simp; omega
    rw [this]; rfl
   ·rw [if_neg (by simpa using hb)]
    have e2:decide (r.length<=15)=true:=by simp; omega
    have e3:a4D s 0=some c:=a9F (i:=0) (by rw [hs]; rfl)
    rw [e2,e3]
    simp only [Option.bind_some,b9V,Bool.true_and]
    cases upC c
    ·rfl
    ·simp only [Bool.not_true,Bool.false_eq_true,if_false,Bool.true_and]
     refine b7d s.size (fun i=>match s.data.toList[i]? with | some x=>(a4S x||upC x||a5M x||(x.toNat:Int)==95) | none=>true) ?_ ?_ 1 _ ?_
     ·intro i hi
      have hi':i<s.data.toList.length:=by rw [hs]; simp; omega
      unfold a2R
      simp only [a0w,Y1]
      rw [if_pos (by simp; omega),a9F (List.getElem?_eq_getElem hi')]
      simp only [Option.bind_some,b3O,b8q,b9V]
      rw [List.getElem?_eq_getElem hi',w7 i (by omega)]
      generalize s.data.toList[i]=x
      have hn:((x.toNat:Int) != 95)=!((x.toNat:Int)==95):=rfl
      rw [hn]
      show _=some (if (a4S x||upC x||a5M x||(x.toNat:Int)==95)=true then _ else _)
      cases a4S x<;>cases upC x<;>cases a5M x<;>cases (x.toNat:Int)==95<;>rfl
     ·intro i hi
      unfold a2R
      rw [a0w,if_neg (by simp; omega)]
     ·rw [hs,List.all_eq_true]
      constructor
      ·intro h i h1 hi
       obtain ⟨i,rfl⟩:∃ m,i=m+1:=⟨i-1,by omega⟩
       have hr:i<r.length:=by omega
       simp only [List.getElem?_cons_succ,List.getElem?_eq_getElem hr]
       exact h _ (List.getElem_mem hr)
      ·intro h x hx
       obtain ⟨i,hi,rfl⟩:=List.getElem_of_mem hx
       have:=h (i+1) (by omega) (by omega)
       simpa only [List.getElem?_cons_succ,List.getElem?_eq_getElem hi] using this
end Go.Pl
end
section
namespace Go.Pl
open Go Go.RowKit Go.Sx Go.Qx
theorem a5U:V4 (⟨#[]⟩:ByteArray) ⟨#[]⟩=true:=by simp [V4]
theorem c78 (n:Int):vOK (Val.mk 1 n (⟨#[]⟩) [] [] [] [])=true:=by simp [vOK,a1G,a5h,a3b,a1r,asc,a29,a5q,a5U,Val.Kind,Val.Int_,Val.Text,Val.Kids,Val.Keys,Val.Entries,Val.Labels]
theorem c7C (s:ByteArray):vOK (Val.mk 2 0 s [] [] [] [])=decide ((s.size:Int)<=64):=by rw [Bool.eq_iff_iff]; simp [vOK,a1G,a5h,a3b,a1r,asc,a29,a5q,Val.Kind,Val.Int_,Val.Text,Val.Kids,Val.Keys,Val.Entries,Val.Labels]; exact decide_eq_true_iff
theorem c5K (s:ByteArray):vOK (Val.mk 3 0 s [] [] [] [])=a3H s:=by simp [vOK,a1G,a5h,a3b,a1r,asc,a29,a5q,Val.Kind,Val.Int_,Val.Text,Val.Kids,Val.Keys,Val.Entries,Val.Labels]
theorem c7N (n:Int):vOK (Val.mk 4 n (⟨#[]⟩) [] [] [] [])=decide (0<=n):=by rw [Bool.eq_iff_iff]; simp [vOK,a1G,a5h,a3b,a1r,asc,a29,a5q,a5U,Val.Kind,Val.Int_,Val.Text,Val.Kids,Val.Keys,Val.Entries,Val.Labels]; exact decide_eq_true_iff
theorem b5Y:vOK (Val.mk 5 0 (⟨#[]⟩) [] [] [] [])=true:=by simp [vOK,a1G,a5h,a3b,a1r,asc,a29,a5q,a5U,Val.Kind,Val.Int_,Val.Text,Val.Kids,Val.Keys,Val.Entries,Val.Labels]
theorem b9S (l:List Val):vOK (Val.mk 6 0 (⟨#[]⟩) l [] [] [])=(decide (l.length<=4)&&a1G l):=by rw [Bool.eq_iff_iff]; simp [vOK,a5h,a3b,a1r,asc,a29,a5q,a5U,Val.Kind,Val.Int_,Val.Text,Val.Kids,Val.Keys,Val.Entries,Val.Labels]; intro _; exact decide_eq_true_iff
theorem c1H (x t:Val):vOK (Val.mk 7 0 (⟨#[]⟩) [x,t] [] [] [])=((t.Kind==5||t.Kind==7)&&(vOK x&&vOK t)):=by simp [vOK,a1G,a5h,a3b,a1r,asc,a29,a5q,b4Z,a5U,Val.Kind,Val.Int_,Val.Text,Val.Kids,Val.Keys,Val.Entries,Val.Labels]
theorem c8b (t:List Val×List Key):vOK (b1n t)=(b8v (b1n t)&&a1G t.1):=by simp [b1n,vOK,a5h,a3b,a1r,asc,a29,a5q,a5U,Val.Kind,Val.Int_,Val.Text,Val.Kids,Val.Keys,Val.Entries,Val.Labels]
theorem c7p (n:Int)(es:List Ent):vOK (b4S n es)=(b77 (b4S n es)&&a5h es):=by simp [b4S,vOK,a1G,a3b,a1r,asc,a29,a5q,a5U,Val.Kind,Val.Int_,Val.Text,Val.Kids,Val.Keys,Val.Entries,Val.Labels]
def a5w (v:Val)(l:List ByteArray):Val:=Val.mk v.Kind v.Int_ v.Text v.Kids v.Keys v.Entries l
theorem a8j {v:Val}{l:List ByteArray}(h:vOK v=true)(hl:a1r l=true):vOK (a5w v l)=true:=by
 cases v
 simp only [vOK,a3b,Bool.and_eq_true,a5w,Val.Kind,Val.Int_,Val.Text,Val.Kids,Val.Keys,Val.Entries,Val.Labels] at h ⊢
 exact ⟨⟨hl,h.1.2⟩,h.2⟩
theorem a5n (v:Val)(l:List ByteArray):Z5 (a5w v l)<=Z5 v+Q5 l:=by
 rw [a5b,a5b v]
 simp only [a5w,Val.Text,Val.Kids,Val.Keys,Val.Entries,Val.Labels]
 omega
theorem a2i:(⟨#[]⟩:ByteArray).size=0:=rfl
theorem K8 (k n:Int)(t:ByteArray)(kids:List Val)(keys:List Key)(es:List Ent):Z5 (Val.mk k n t kids keys es [])=8+t.size+v7 kids+k8 keys+w9 es:=by
 simp only [Z5,a0A,Q5]; omega
structure OS (L:List Int)(s:Semtypebase_Source):Prop where
 l:s.L=L
 lo:0<=s.At
 hi:s.At<=(L.length:Int)
section
variable {L:List Int}
theorem Y6 (hL:L.length<=4194304){s:Semtypebase_Source}(h:OS L s){n:Int}(h1:1<=n)(h2:n<=1000):∃ x t,y2 s n=some (x,t)/\OS L t/\0<=x/\x<n:=by
 obtain ⟨hl,lo,hi⟩:=h
 unfold y2
 have e1:decide (n<1)=false:=by simp; omega
 rw [e1,hl]
 by_cases he:(L.length:Int)<=s.At
 ·have e2:decide ((L.length:Int)<=s.At)=true:=by simpa using he
  rw [e2]
  exact ⟨0,s,rfl,⟨hl,lo,hi⟩,by omega,by omega⟩
 ·have e2:decide ((L.length:Int)<=s.At)=false:=by simpa using he
  rw [e2]
  simp only [cond_false,Option.bind_some]
  have hlt:s.At.toNat<L.length:=by omega
  have e:idx L s.At=some L[s.At.toNat]:=by
   have:=k7 (List.getElem?_eq_getElem hlt)
   rwa [show ((s.At.toNat:Nat):Int)=s.At by omega] at this
  rw [e]
  simp only [Option.bind_some]
  have hq:b7y L[s.At.toNat] n=some (L[s.At.toNat].tmod n):=by unfold b7y; rw [if_neg (by omega)]
  rw [hq]
  simp only [Option.bind_some,Y1]
  have b1:=Int.tmod_lt_of_pos L[s.At.toNat] (show 0<n by omega)
  have b2:=Int.lt_tmod_of_pos L[s.At.toNat] (show 0<n by omega)
  have hw:w64 (s.At+1)=s.At+1:=W1 (by omega) (by omega)
  have hos:OS L (Semtypebase_Source.mk L (w64 (s.At+1))):=⟨rfl,by show 0<=w64 (s.At+1); omega,by show w64 (s.At+1)<=_; omega⟩
  by_cases hn:L[s.At.toNat].tmod n<0
  ·rw [a0w,if_pos (by simpa using hn),W1 (x:=L[s.At.toNat].tmod n+n) (by omega) (by omega)]
   exact ⟨_,_,rfl,hos,by omega,by omega⟩
  ·rw [a0w,if_neg (by simpa using hn)]
   exact ⟨_,_,rfl,hos,by omega,by omega⟩
theorem b2C {α:Type}(l:List α){x:Int}(h0:0<=x)(h1:x<(l.length:Int)):∃ t,idx l x=some t/\l[x.toNat]?=some t/\t∈l:=by
 have hlt:x.toNat<l.length:=by omega
 have:=k7 (List.getElem?_eq_getElem hlt)
 rw [show ((x.toNat:Nat):Int)=x by omega] at this
 exact ⟨_,this,List.getElem?_eq_getElem hlt,List.getElem_mem hlt⟩
abbrev b6a:List ByteArray:=[⟨#[65]⟩,⟨#[66]⟩,⟨#[67]⟩]
abbrev c1x:List ByteArray:=[⟨#[97]⟩,⟨#[98]⟩,⟨#[111,107]⟩,⟨#[101,114,114,111,114]⟩]
abbrev c1n:List ByteArray:=[⟨#[]⟩,⟨#[115]⟩,⟨#[120,32,121]⟩,⟨#[97]⟩]
theorem b7p (hL:L.length<=4194304){s:Semtypebase_Source}(h:OS L s):∃ x t,a0n s=some (x,t)/\OS L t/\x∈b6a:=by
 obtain ⟨n,t,e,ht,a,b⟩:=Y6 hL h (n:=3) (by omega) (by omega)
 obtain ⟨x,ex,eg,hx⟩:=b2C b6a a (by simpa using b)
 exact ⟨x,t,by unfold a0n; rw [e]; simp only [Option.bind_some]; rw [ex,eg]; rfl,ht,hx⟩
theorem a8f (hL:L.length<=4194304){s:Semtypebase_Source}(h:OS L s):∃ x t,K4 s=some (x,t)/\OS L t/\x∈c1x:=by
 obtain ⟨n,t,e,ht,a,b⟩:=Y6 hL h (n:=4) (by omega) (by omega)
 obtain ⟨x,ex,eg,hx⟩:=b2C c1x a (by simpa using b)
 exact ⟨x,t,by unfold K4; rw [e]; simp only [Option.bind_some]; rw [ex,eg]; rfl,ht,hx⟩
theorem b55 (hL:L.length<=4194304){s:Semtypebase_Source}(h:OS L s):∃ x t,W8 s=some (x,t)/\OS L t/\x∈c1n:=by
 obtain ⟨n,t,e,ht,a,b⟩:=Y6 hL h (n:=4) (by omega) (by omega)
 obtain ⟨x,ex,eg,hx⟩:=b2C c1n a (by simpa using b)
 exact ⟨x,t,by unfold W8; rw [e]; simp only [Option.bind_some]; rw [ex,eg]; rfl,ht,hx⟩
theorem c5h (hL:L.length<=4194304){s:Semtypebase_Source}(h:OS L s):∃ x t,a1D s=some (x,t)/\OS L t:=by
 obtain ⟨n,t,e,ht,a,b⟩:=Y6 hL h (n:=10) (by omega) (by omega)
 obtain ⟨x,ex,eg,hx⟩:=b2C ([0,1,(-1),2,3,(-2),7,(-9223372036854775808),9223372036854775807,10]:List Int) a (by simpa using b)
 exact ⟨x,t,by unfold a1D; rw [e]; simp only [Option.bind_some]; rw [ex,eg]; rfl,ht⟩
def chk (o:Option (List ByteArray)):Bool :=
 match o with
 | some l=>a1r l&&decide (Q5 l<=4)
 | none=>false
theorem b5i {o:Option (List ByteArray)}(h:chk o=true):∃ l,o=some l/\a1r l=true/\Q5 l<=4:=by
 cases o with
 | none=>cases h
 | some l=>simp only [chk,Bool.and_eq_true,decide_eq_true_eq] at h; exact ⟨l,rfl,h⟩
theorem c7L:chk (X2 ([]:List ByteArray))=true:=by kernel_rfl
theorem c7P:b6a.all (fun x=>chk (X2 [x]))=true:=by kernel_rfl
theorem c7T:b6a.all (fun x=>b6a.all (fun y=>chk (X2 ([x]++[y]))))=true:=by kernel_rfl
theorem a9t (hL:L.length<=4194304){s:Semtypebase_Source}(h:OS L s):∃ l t,a0G s=some (l,t)/\OS L t/\a1r l=true/\Q5 l<=4:=by
 obtain ⟨n,t,e,ht,_,_⟩:=Y6 hL h (n:=3) (by omega) (by omega)
 unfold a0G
 rw [e]
 simp only [Option.bind_some]
 cases hn:n==1
 ·simp only [cond_false,Option.bind_some]
  obtain ⟨l,el,h1,h2⟩:=b5i c7L
  exact ⟨l,t,by rw [el]; rfl,ht,h1,h2⟩
 ·simp only [cond_true,Option.bind_some]
  obtain ⟨x,t2,e2,ht2,hx⟩:=b7p hL ht
  obtain ⟨m,t3,e3,ht3,_,_⟩:=Y6 hL ht2 (n:=2) (by omega) (by omega)
  rw [e2]
  simp only [Option.bind_some]
  rw [J4 (by simp),e3]
  simp only [Option.bind_some]
  cases hm:m==1
  ·simp only [cond_false,Option.bind_some]
   obtain ⟨l,el,h1,h2⟩:=b5i (List.all_eq_true.1 c7P x hx)
   exact ⟨l,t3,by rw [el]; rfl,ht3,h1,h2⟩
  ·simp only [cond_true,Option.bind_some]
   obtain ⟨y,t4,e4,ht4,hy⟩:=b7p hL ht3
   rw [e4]
   simp only [Option.bind_some]
   rw [J4 (by simp)]
   obtain ⟨l,el,h1,h2⟩:=b5i (List.all_eq_true.1 (List.all_eq_true.1 c7T x hx) y hy)
   exact ⟨l,t4,by simp only [Option.bind_some]; rw [el]; rfl,ht4,h1,h2⟩
theorem a9r:c1x.all (fun x=>a3H x&&decide (x.size<=5))=true:=by kernel_rfl
theorem a9p:c1n.all (fun x=>decide (x.size<=5))=true:=by kernel_rfl
theorem b2g (hL:L.length<=4194304){s:Semtypebase_Source}(h:OS L s):∃ v t,J7 s=some (v,t)/\OS L t/\vOK v=true/\Z5 v<=16:=by
 obtain ⟨n,t,e,ht,_,_⟩:=Y6 hL h (n:=6) (by omega) (by omega)
 unfold J7
 rw [e]
 simp only [Option.bind_some]
 cases n==0
 ·simp only [cond_false,Option.bind_some]
  cases n==1
  ·simp only [cond_false,Option.bind_some]
   cases n==2
   ·simp only [cond_false,Option.bind_some]
    cases n==3
    ·simp only [cond_false,Option.bind_some]
     cases n==4
     ·simp only [cond_false,Option.bind_some]
      unfold a2I a0S
      rw [J4 (by simp)]
      exact ⟨_,t,rfl,ht,by rw [b9S]; rfl,by rw [K8]; simp [a2i,v7,k8,w9]⟩
     ·simp only [cond_true,Option.bind_some]
      exact ⟨_,t,rfl,ht,b5Y,by rw [K8]; simp [a2i,v7,k8,w9]⟩
    ·simp only [cond_true,Option.bind_some]
     obtain ⟨x,t2,e2,ht2,h0,_⟩:=Y6 hL ht (n:=3) (by omega) (by omega)
     rw [e2]
     exact ⟨_,t2,rfl,ht2,by rw [c7N]; simpa using h0,by rw [K8]; simp [a2i,v7,k8,w9]⟩
   ·simp only [cond_true,Option.bind_some]
    obtain ⟨x,t2,e2,ht2,hx⟩:=b55 hL ht
    have hw:=List.all_eq_true.1 a9p x hx
    simp only [decide_eq_true_eq] at hw
    rw [e2]
    exact ⟨_,t2,rfl,ht2,by rw [c7C]; simp; omega,by rw [K8]; simp only [v7,k8,w9]; omega⟩
  ·simp only [cond_true,Option.bind_some]
   obtain ⟨x,t2,e2,ht2,hx⟩:=a8f hL ht
   have hw:=List.all_eq_true.1 a9r x hx
   simp only [Bool.and_eq_true,decide_eq_true_eq] at hw
   rw [e2]
   exact ⟨_,t2,rfl,ht2,by rw [c5K]; exact hw.1,by rw [K8]; simp only [v7,k8,w9]; omega⟩
 ·simp only [cond_true,Option.bind_some]
  obtain ⟨x,t2,e2,ht2⟩:=c5h hL ht
  rw [e2]
  exact ⟨_,t2,rfl,ht2,c78 x,by rw [K8]; simp [a2i,v7,k8,w9]⟩
theorem c7E (hL:L.length<=4194304){s:Semtypebase_Source}(h:OS L s):∃ k t,a2g s=some (k,t)/\OS L t/\a0f k=true/\a2y k<=8:=by
 obtain ⟨n,t,e,ht,_,_⟩:=Y6 hL h (n:=2) (by omega) (by omega)
 unfold a2g
 rw [e]
 simp only [Option.bind_some]
 cases n==0
 ·simp only [cond_false,Option.bind_some]
  obtain ⟨x,t2,e2,ht2,hx⟩:=b55 hL ht
  have hw:=List.all_eq_true.1 a9p x hx
  simp only [decide_eq_true_eq] at hw
  rw [e2]
  refine ⟨_,t2,rfl,ht2,?_,?_⟩
  ·simp [a0f]; omega
  ·simp only [a2y,a0A]; omega
 ·simp only [cond_true,Option.bind_some]
  obtain ⟨x,t2,e2,ht2,hx⟩:=a8f hL ht
  have hw:=List.all_eq_true.1 a9r x hx
  simp only [Bool.and_eq_true,decide_eq_true_eq] at hw
  rw [e2]
  refine ⟨_,t2,rfl,ht2,?_,?_⟩
  ·simpa [a0f] using hw.1
  ·simp only [a2y,a0A]; omega
theorem a79 {γ σ τ:Type}{step:σ->Option (Fl σ τ)}(pack:γ->Int->Semtypebase_Source->σ)(out:γ->Semtypebase_Source->τ)(Inv:Nat->γ->Prop)(J:Nat)
 (hst:∀ (j n:Nat) (g:γ) (s:Semtypebase_Source),j<J->n<=J->Inv j g->OS L s->∃ g' s',step (pack g ((n+1:Nat):Int) s)=some (.next (pack g' (n:Int) s'))/\OS L s'/\Inv (j+1) g')
 (hend:∀ g s,step (pack g 0 s)=some (.done (out g s))) :
 ∀ (n j k:Nat) (g:γ) (s:Semtypebase_Source),j+n<=J->n+1<=k->Inv j g->OS L s->∃ g' s',y4 step k (pack g (n:Int) s)=some (out g' s')/\OS L s'/\Inv (j+n) g':=by
 intro n
 induction n with
 | zero =>
   intro j k g s _ hk hI hs
   obtain ⟨k,rfl⟩:∃ m,k=m+1:=⟨k-1,by omega⟩
   exact ⟨g,s,by have:=hend g s; simp [y4,this],hs,hI⟩
 | succ n ih =>
   intro j k g s hJ hk hI hs
   obtain ⟨k,rfl⟩:∃ m,k=m+1:=⟨k-1,by omega⟩
   obtain ⟨g1,s1,e,hs1,hI1⟩:=hst j n g s (by omega) (by omega) hI hs
   obtain ⟨g2,s2,e2,hs2,hI2⟩:=ih (j+1) k g1 s1 (by omega) (by omega) hI1 hs1
   refine ⟨g2,s2,?_,hs2,by rw [show j+(n+1)=j+1+n by omega]; exact hI2⟩
   simp only [y4,e,Option.bind_some]
   exact e2
def hb:Nat->Nat
 | 0=>32
 | h+1=>64+8*hb h
theorem c7i {h:Nat}(hh:h<=2):hb h<=2624:=by
 match h,hh with
 | 0,_=>decide
 | 1,_=>decide
 | 2,_=>decide
theorem c42 (h:Nat):32<=hb h:=by cases h<;>simp [hb]; omega
def c0r (b:Nat)(v:Val):Prop:=vOK v=true/\Z5 v<=b
end
end Go.Pl
namespace Go.Pl
open Go Go.RowKit Go.Sx Go.Qx
theorem b3y (a b:List Val):a1G (a++b)=(a1G a&&a1G b):=by rw [a45,a45,a45,List.all_append]
theorem b5p:∀ (ks:List Key) (vs:List Val),b3k (ks.zip vs)<=k8 ks+v7 vs
 | [],_=>by simp [b3k]
 | _::_,[]=>by simp [b3k]
 | k::r,v::q=>by have:=b5p r q; simp only [List.zip_cons_cons,b3k,k8,v7]; omega
theorem b5R (n:Nat)(h:n<=1000)(b:Nat)(hb:b<=1024):Z4 n b=some ():=J4 (by
 have:n*b<=1000*1024:=Nat.mul_le_mul h hb
 omega)
section
variable {L:List Int}
theorem c4y (hL:L.length<=4194304){rv:Semtypebase_Source->Int->Option (Val×Semtypebase_Source)}{b:Nat}{h:Int}(hv:∀ s,OS L s->∃ v t,rv s h=some (v,t)/\OS L t/\c0r b v)
 (hb:b<=100000) (hb8:8<=b) (rx:Semtypebase_Source->Int->Option (Val×Semtypebase_Source)) (ry:Semtypebase_Source->Int->Int->Option (Ent×Semtypebase_Source)) (fuel:Nat) {n:Nat} (hn:n<=4) {s:Semtypebase_Source} (hs:OS L s) :
 ∃ e t,a2C fuel rv rx ry s (n:Int) h=some (e,t)/\OS L t/\eOK e=true/\a2T (n:Int) e=true/\a43 e<=n*b+b+3:=by
 obtain ⟨g,s1,e1,hs1,h1,h2,h3⟩:=a79 (L:=L) (step:=a1a h rv) (fun (g:List Val) (m:Int) (s:Semtypebase_Source)=>(m,s,(g,false,0,0,(⟨#[]⟩:ByteArray),([]:List Val),([]:List Key),([]:List Ent),([]:List ByteArray))))
  (fun (g:List Val) (s:Semtypebase_Source)=>(s,(g,false,0,0,(⟨#[]⟩:ByteArray),([]:List Val),([]:List Key),([]:List Ent),([]:List ByteArray)))) (fun j g=>g.length=j/\a1G g=true/\v7 g<=j*b) 4
  (by
    intro j m g s hj hm ⟨i1,i2,i3⟩ hs
    obtain ⟨v,t,e,ht,k1,k2⟩:=hv s hs
    refine ⟨g++[v],t,?_,ht,by simp [i1],by rw [b3y,i2]; simp [a1G,k1],?_⟩
    ·unfold a1a
     simp only [a0w,Y1]
     rw [if_pos (decide_eq_true (by omega)),e]
     simp only [Option.bind_some]
     rw [b5R _ (by simp; omega) _ (by omega),W1 (by omega) (by omega)]
     simp only [Option.bind_some]
     rw [show ((m+1:Nat):Int)-1=(m:Int) by omega]
    ·rw [a2V]
     simp only [v7,Nat.add_mul]
     omega)
  (by
    intro g s
    unfold a1a
    simp) n 0 (n+2) [] s (by omega) (by omega) ⟨rfl,rfl,by simp [v7]⟩ hs
 obtain ⟨x,t,e2,ht,_,_⟩:=Y6 hL hs1 (n:=4) (by omega) (by omega)
 rw [Nat.zero_add] at h1 h3
 unfold a2C
 rw [show ((n:Int)).toNat=n by omega,e1]
 simp only [Option.bind_some]
 rw [e2]
 simp only [Option.bind_some]
 cases x==1
 ·simp only [cond_false]
  obtain ⟨v,t2,e3,ht2,k1,k2⟩:=hv t ht
  rw [e3]
  refine ⟨_,t2,rfl,ht2,by rw [c1C]; simp only [Ent.Args,Ent.Fails,Ent.Result]; rw [h2,k1]; rfl,?_,?_⟩
  ·simp [a2T,Ent.Args,Ent.Fails,h1]
  ·rw [a3i]
   simp only [Ent.Args,Ent.Result]
   omega
 ·simp only [cond_true]
  refine ⟨_,t,rfl,ht,by rw [c1C]; simp only [Ent.Args,Ent.Fails]; rw [h2]; rfl,?_,?_⟩
  ·simp [a2T,Ent.Args,Ent.Fails,Ent.Result,h1,c7A]
  ·rw [a3i]
   simp only [Ent.Args,Ent.Result]
   have:Z5 (Val.mk 0 0 (⟨#[]⟩) [] [] [] [])=8:=by rw [K8]; rfl
   omega
theorem b0W {x:Int}{b:Int}(h0:0<=x)(h1:x<b):∃ n:Nat,x=(n:Int)/\(n:Int)<b:=⟨x.toNat,by omega,by omega⟩
theorem c5i (hL:L.length<=4194304){rv:Semtypebase_Source->Int->Option (Val×Semtypebase_Source)}{re:Semtypebase_Source->Int->Int->Option (Ent×Semtypebase_Source)}{h:Nat}(hh:h<=2)
 (hv:∀ s,OS L s->∃ v t,rv s ((h:Int)+1)=some (v,t)/\OS L t/\c0r (hb h) v)
 (hv2:1<=h->∀ s,OS L s->∃ v t,rv s (h:Int)=some (v,t)/\OS L t/\c0r (hb h) v)
 (he:∀ n:Nat,n<=4->∀ s,OS L s->∃ e t,re s (n:Int) ((h:Int)+1)=some (e,t)/\OS L t/\eOK e=true/\a2T (n:Int) e=true/\a43 e<=n*hb h+hb h+3)
 (rx:Semtypebase_Source->Int->Option (Val×Semtypebase_Source)) {fuel:Nat} (hf:40000<=fuel) {s:Semtypebase_Source} (hs:OS L s) :
 ∃ v t,a0x fuel rv rx re s ((h:Int)+2)=some (v,t)/\OS L t/\vOK v=true/\Z5 v+8<=hb (h+1):=by
 have hb1:=c7i hh
 have hb2:=c42 h
 have hbs:hb (h+1)=64+8*hb h:=rfl
 have w1:w64 ((h:Int)+2-1)=(h:Int)+1:=by rw [W1 (by omega) (by omega)]; omega
 have w2:w64 ((h:Int)+2-2)=(h:Int):=by rw [W1 (by omega) (by omega)]; omega
 have wn:∀ m:Nat,m<=10->w64 (((m+1:Nat):Int)-1)=(m:Int):=fun m hm=>by rw [W1 (by omega) (by omega)]; omega
 have lf:∀ s,OS L s->∃ v t,J7 s=some (v,t)/\OS L t/\vOK v=true/\Z5 v+8<=hb (h+1):=fun s hs=>by
  obtain ⟨v,t,e,ht,h1,h2⟩:=b2g hL hs
  exact ⟨v,t,e,ht,h1,by omega⟩
 obtain ⟨c,t,e,ht,_,_⟩:=Y6 hL hs (n:=6) (by omega) (by omega)
 unfold a0x
 have e0:decide ((h:Int)+2<=1)=false:=by simp; omega
 rw [e0,e]
 simp only [Option.bind_some,cond_false,Y1,w1,w2]
 cases c==1
 ·simp only [cond_false,Option.bind_some,k9]
  cases c==2
  ·simp only [cond_false,Option.bind_some,k9]
   cases c==3
   ·simp only [cond_false,Option.bind_some,k9]
    cases c==4
    ·simp only [cond_false,Option.bind_some,k9]
     obtain ⟨v,t2,e2,h2⟩:=lf t ht
     rw [e2]
     exact ⟨v,t2,rfl,h2⟩
    ·simp only [cond_true,Option.bind_some,k9]
     obtain ⟨x,t2,e2,ht2,x0,x1⟩:=Y6 hL ht (n:=3) (by omega) (by omega)
     obtain ⟨y,t3,e3,ht3,y0,y1⟩:=Y6 hL ht2 (n:=3) (by omega) (by omega)
     obtain ⟨n,rfl,hn⟩:=b0W x0 x1
     obtain ⟨m,rfl,hm⟩:=b0W y0 y1
     rw [e2]
     simp only [Option.bind_some]
     rw [e3]
     simp only [Option.bind_some]
     have hnb:n*hb h<=2*hb h:=Nat.mul_le_mul_right _ (by omega)
     obtain ⟨g,s1,e4,hs1,i1,i2,i3,i4⟩:=a79 (L:=L) (step:=a1e ((h:Int)+2) ((n:Int),t2) re) (fun (g:List Ent) (m:Int) (s:Semtypebase_Source)=>(g,m,s)) (fun (g:List Ent) (s:Semtypebase_Source)=>(g,s)) (fun j g=>g.length=j/\a5h g=true/\g.all (a2T (n:Int))=true/\w9 g<=j*(3*hb h+3)) 4
      (by
        intro j m g s hj hm ⟨i1,i2,i3,i4⟩ hs
        obtain ⟨v,t,e,ht,k1,k2,k3⟩:=he n (by omega) s hs
        refine ⟨g++[v],t,?_,ht,by simp [i1],by rw [a78,List.all_append,<- a78,i2]; simp [k1],by rw [List.all_append,i3]; simp [k2],?_⟩
        ·unfold a1e
         simp only [a0w,Y1]
         rw [if_pos (decide_eq_true (by omega)),w1,e]
         simp only [Option.bind_some]
         rw [b5R _ (by simp; omega) _ (by omega),wn m (by omega)]
         rfl
        ·rw [a9u]
         simp only [w9,Nat.add_mul]
         omega)
      (by
        intro g s
        unfold a1e
        simp) m 0 (m+2) [] t3 (by omega) (by omega) ⟨rfl,rfl,rfl,by simp [w9]⟩ ht3
     simp only [Option.bind_some,Int.toNat_natCast]
     rw [e4]
     simp only [Option.bind_some]
     rw [Nat.zero_add] at i1 i4
     have hmb:m*(3*hb h+3)<=2*(3*hb h+3):=Nat.mul_le_mul_right _ (by omega)
     rw [b0T fuel (n:Int) g (by omega) (by omega),if_pos ⟨by omega,by omega,i3⟩]
     simp only [Option.bind_some]
     simp only [show ((0:Int)==0)=true from rfl,cond_true,Option.bind_some,k9]
     refine ⟨b4S (n:Int) (g.foldl a2L []),s1,rfl,hs1,?_,?_⟩
     ·rw [c7p]
      have a1:(g.foldl a2L []).all (a2T (n:Int))=true:=List.all_eq_true.2 fun y hy=>by
       rcases a8Y g [] hy with hy | hy
       ·simp at hy
       ·exact List.all_eq_true.1 i3 y hy
      have a2:a5h (g.foldl a2L [])=true:=by
       rw [a78]
       rw [a78] at i2
       exact List.all_eq_true.2 fun y hy=>by
        rcases a8Y g [] hy with hy | hy
        ·simp at hy
        ·exact List.all_eq_true.1 i2 y hy
      rw [a2]
      simp only [b77,b4S,Val.Int_,Val.Entries]
      rw [a1,b37 g [] rfl]
      simp only [Bool.and_true,Bool.and_eq_true]
      exact ⟨decide_eq_true (by omega),decide_eq_true (by omega)⟩
     ·have:=a7I g []
      simp only [b4S,K8,a2i,v7,k8]
      simp only [w9] at this
      omega
   ·simp only [cond_true,Option.bind_some,k9]
    obtain ⟨y,t3,e3,ht3,y0,y1⟩:=Y6 hL ht (n:=3) (by omega) (by omega)
    obtain ⟨m,rfl,hm⟩:=b0W y0 y1
    rw [e3]
    simp only [Option.bind_some]
    obtain ⟨g,s1,e4,hs1,i1,i2,i3,i4,i5,i6⟩:=a79 (L:=L) (step:=a09 ((h:Int)+2) rv) (fun (g:List Key×List Val) (m:Int) (s:Semtypebase_Source)=>(g.1,g.2,m,s)) (fun (g:List Key×List Val) (s:Semtypebase_Source)=>(g.1,g.2,s)) (fun j g=>g.1.length=j/\g.2.length=j/\g.1.all a0f=true/\a1G g.2=true/\v7 g.2<=j*hb h/\k8 g.1<=j*8) 4
     (by
       intro j m g s hj hm ⟨i1,i2,i3,i4,i5,i6⟩ hs
       obtain ⟨k,t,e,ht,k1,k2⟩:=c7E hL hs
       obtain ⟨v,t2,e2,ht2,l1,l2⟩:=hv t ht
       refine ⟨(g.1++[k],g.2++[v]),t2,?_,ht2,by simp [i1],by simp [i2],by rw [List.all_append,i3]; simp [k1],by rw [b3y,i4]; simp [a1G,l1],?_,?_⟩
       ·unfold a09
        simp only [a0w,Y1]
        rw [if_pos (decide_eq_true (by omega)),e,w1]
        simp only [Option.bind_some]
        rw [b5R _ (by simp; omega) _ (by omega),e2]
        simp only [Option.bind_some]
        rw [b5R _ (by simp; omega) _ (by omega),wn m (by omega)]
        rfl
       ·rw [a2V]
        simp only [v7,Nat.add_mul]
        omega
       ·rw [a5o]
        simp only [k8,Nat.add_mul]
        omega)
     (by
       intro g s
       unfold a09
       simp) m 0 (m+2) ([],[]) t3 (by omega) (by omega) ⟨rfl,rfl,rfl,rfl,by simp [v7],by simp [k8]⟩ ht3
    simp only [Int.toNat_natCast]
    rw [e4]
    simp only [Option.bind_some]
    rw [Nat.zero_add] at i1 i2 i5 i6
    have hmb:m*hb h<=2*hb h:=Nat.mul_le_mul_right _ (by omega)
    rw [b8d g.1 g.2 (by omega),if_pos ⟨by omega,i3⟩]
    simp only [Option.bind_some]
    cases hx:a4F (g.1.zip g.2) ([],[]) with
    | none =>
      simp only [show ((6:Int)==0)=false from rfl,cond_false,Option.bind_some,k9]
      obtain ⟨v,t2,e2,h2⟩:=lf _ hs1
      rw [e2]
      exact ⟨v,t2,rfl,h2⟩
    | some u =>
      simp only
      simp only [show ((0:Int)==0)=true from rfl,cond_true,Option.bind_some,k9]
      obtain ⟨m1,m2,m3,m4,m5,m6⟩:=b0k _ _ _ hx rfl rfl
      have hz:=b5p g.1 g.2
      simp only [v7,k8] at m6
      refine ⟨b1n u,s1,rfl,hs1,?_,?_⟩
      ·rw [c8b]
       have a1:u.2.all a0f=true:=List.all_eq_true.2 fun y hy=>by
        rcases m4 y hy with hy | ⟨x,hx,rfl⟩
        ·simp at hy
        ·exact List.all_eq_true.1 i3 _ (List.of_mem_zip hx).1
       have a2:a1G u.1=true:=by
        rw [a45]
        rw [a45] at i4
        exact List.all_eq_true.2 fun y hy=>by
         rcases m5 y hy with hy | ⟨x,hx,rfl⟩
         ·simp at hy
         ·exact List.all_eq_true.1 i4 _ (List.of_mem_zip hx).2
       rw [a2]
       simp only [b8v,b1n,Val.Keys,Val.Kids]
       rw [a1,m1,m2]
       simp
      ·simp only [b1n,K8,a2i,w9]
       omega
  ·simp only [cond_true,Option.bind_some,k9]
   have fin:∀ (tl v:Val),vOK tl=true->(tl.Kind=5\/tl.Kind=7)->Z5 tl<=24+hb h->c0r (hb h) v ->
    vOK (Val.mk 7 0 (⟨#[]⟩) [v,tl] [] [] [])=true/\Z5 (Val.mk 7 0 (⟨#[]⟩) [v,tl] [] [] [])+8<=hb (h+1):=by
    intro tl v ho hk hbt ⟨k1,k2⟩
    refine ⟨?_,?_⟩
    ·rw [c1H,k1,ho]
     rcases hk with hk | hk<;>simp [hk]
    ·rw [K8]
     simp only [a2i,v7,k8,w9]
     omega
   have nilB:Z5 (Val.mk 5 0 (⟨#[]⟩) [] [] [] [])=8:=by rw [K8]; rfl
   unfold W3 a4s
   simp only [Option.bind_some]
   by_cases h2:1<=h
   ·have e5:decide (2<(h:Int)+2)=true:=by simp; omega
    obtain ⟨x,t2,e2,ht2,_,_⟩:=Y6 hL ht (n:=2) (by omega) (by omega)
    rw [e5,e2]
    simp only [Option.bind_some,cond_true]
    cases x==1
    ·simp only [Option.bind_some,cond_false]
     obtain ⟨l,t3,e3,ht3,l1,l2⟩:=a9t hL ht2
     rw [e3]
     simp only [Option.bind_some]
     obtain ⟨v,t5,e5,ht5,k5⟩:=hv t3 ht3
     rw [e5]
     exact ⟨_,t5,rfl,ht5,fin (a5w (Val.mk 5 0 (⟨#[]⟩) [] [] [] []) l) v (a8j b5Y l1) (.inl rfl) (by have:=a5n (Val.mk 5 0 (⟨#[]⟩) [] [] [] []) l; omega) k5⟩
    ·simp only [Option.bind_some,cond_true]
     obtain ⟨v,t3,e3,ht3,k1,k2⟩:=hv2 h2 t2 ht2
     rw [e3]
     simp only [Option.bind_some]
     obtain ⟨l,t4,e4,ht4,l1,l2⟩:=a9t hL ht3
     have ho:vOK (Val.mk 7 0 (⟨#[]⟩) [v,Val.mk 5 0 (⟨#[]⟩) [] [] [] []] [] [] [])=true:=by rw [c1H,k1,b5Y]; rfl
     have hbb:Z5 (Val.mk 7 0 (⟨#[]⟩) [v,Val.mk 5 0 (⟨#[]⟩) [] [] [] []] [] [] [])<=16+hb h:=by
      rw [K8]
      simp only [a2i,v7,k8,w9,nilB]
      omega
     rw [e4]
     simp only [Option.bind_some]
     obtain ⟨v5,t5,e5,ht5,k5⟩:=hv t4 ht4
     rw [e5]
     exact ⟨_,t5,rfl,ht5,fin (a5w (Val.mk 7 0 (⟨#[]⟩) [v,Val.mk 5 0 (⟨#[]⟩) [] [] [] []] [] [] []) l) v5 (a8j ho l1) (.inr rfl) (by have:=a5n (Val.mk 7 0 (⟨#[]⟩) [v,Val.mk 5 0 (⟨#[]⟩) [] [] [] []] [] [] []) l; omega) k5⟩
   ·have e5:decide (2<(h:Int)+2)=false:=by simp; omega
    rw [e5]
    simp only [Option.bind_some,cond_false]
    obtain ⟨l,t3,e3,ht3,l1,l2⟩:=a9t hL ht
    rw [e3]
    simp only [Option.bind_some]
    obtain ⟨v,t5,e5,ht5,k5⟩:=hv t3 ht3
    rw [e5]
    exact ⟨_,t5,rfl,ht5,fin (a5w (Val.mk 5 0 (⟨#[]⟩) [] [] [] []) l) v (a8j b5Y l1) (.inl rfl) (by have:=a5n (Val.mk 5 0 (⟨#[]⟩) [] [] [] []) l; omega) k5⟩
 ·simp only [cond_true,Option.bind_some,k9]
  obtain ⟨y,t3,e3,ht3,y0,y1⟩:=Y6 hL ht (n:=4) (by omega) (by omega)
  obtain ⟨m,rfl,hm⟩:=b0W y0 y1
  rw [e3]
  simp only [Option.bind_some]
  obtain ⟨g,s1,e4,hs1,i1,i2,i3⟩:=a79 (L:=L) (step:=a1c ((h:Int)+2) rv) (fun (g:List Val) (m:Int) (s:Semtypebase_Source)=>(g,m,s)) (fun (g:List Val) (s:Semtypebase_Source)=>(g,s)) (fun j g=>g.length=j/\a1G g=true/\v7 g<=j*hb h) 4
   (by
     intro j m g s hj hm ⟨i1,i2,i3⟩ hs
     obtain ⟨v,t,e,ht,k1,k2⟩:=hv s hs
     refine ⟨g++[v],t,?_,ht,by simp [i1],by rw [b3y,i2]; simp [a1G,k1],?_⟩
     ·unfold a1c
      simp only [a0w,Y1]
      rw [if_pos (decide_eq_true (by omega)),w1,e]
      simp only [Option.bind_some]
      rw [b5R _ (by simp; omega) _ (by omega),wn m (by omega)]
      rfl
     ·rw [a2V]
      simp only [v7,Nat.add_mul]
      omega)
   (by
     intro g s
     unfold a1c
     simp) m 0 (m+2) [] t3 (by omega) (by omega) ⟨rfl,rfl,by simp [v7]⟩ ht3
  simp only [Int.toNat_natCast]
  rw [e4]
  simp only [Option.bind_some]
  rw [Nat.zero_add] at i1 i3
  have hmb:m*hb h<=3*hb h:=Nat.mul_le_mul_right _ (by omega)
  unfold a2I a0S
  rw [b5R _ (by simp; omega) _ (by omega)]
  refine ⟨Val.mk 6 0 (⟨#[]⟩) g [] [] [],s1,rfl,hs1,?_,?_⟩
  ·rw [b9S,i2]
   simp
   omega
  ·rw [K8]
   simp only [a2i,k8,w9]
   omega
theorem c7U (hL:L.length<=4194304):∀ (h k:Nat),h<=3->50000+3*h<=k->∀ s,OS L s->∃ v t,(y9 k).1 s ((h:Int)+1)=some (v,t)/\OS L t/\c0r (hb h) v:=by
 intro h
 induction h using Nat.strongRecOn with
 | ind h ih =>
   intro k hh hk s hs
   obtain ⟨k,rfl⟩:∃ m,k=m+2:=⟨k-2,by omega⟩
   have key:∃ v t,(y9 (k+1)).2.1 s ((h:Int)+1)=some (v,t)/\OS L t/\vOK v=true/\Z5 v+8<=hb h:=by
    show ∃ v t,a0x k (y9 k).1 (y9 k).2.1 (y9 k).2.2 s ((h:Int)+1)=some (v,t)/\_
    cases h with
    | zero =>
      obtain ⟨v,t,e,ht,h1,h2⟩:=b2g hL hs
      refine ⟨v,t,?_,ht,h1,by simp only [hb]; omega⟩
      unfold a0x
      have e0:decide (((0:Nat):Int)+1<=1)=true:=rfl
      rw [e0,e]
      rfl
    | succ h =>
      have:=c5i hL (h:=h) (by omega) (rv:=(y9 k).1) (re:=(y9 k).2.2) (fun s hs=>ih h (by omega) k (by omega) (by omega) s hs)
       (fun h1 s hs=>by
         obtain ⟨h,rfl⟩:∃ m,h=m+1:=⟨h-1,by omega⟩
         obtain ⟨v,t,e,ht,k1,k2⟩:=ih h (by omega) k (by omega) (by omega) s hs
         exact ⟨v,t,e,ht,k1,by simp only [hb]; omega⟩)
       (fun n hn s hs=>by
         obtain ⟨p,rfl⟩:∃ m,k=m+1:=⟨k-1,by omega⟩
         have hb1:=c7i (show h<=2 by omega)
         have hb2:=c42 h
         exact c4y hL (rv:=(y9 p).1) (b:=hb h) (fun s hs=>ih h (by omega) p (by omega) (by omega) s hs) (by omega) (by omega) (y9 p).2.1 (y9 p).2.2 p hn hs)
       (y9 k).2.1 (fuel:=k) (by omega) hs
      rw [show (((h+1:Nat):Int))+1=(h:Int)+2 by omega]
      exact this
   obtain ⟨v,t,e,ht,h1,h2⟩:=key
   obtain ⟨l,t2,e2,ht2,l1,l2⟩:=a9t hL ht
   show ∃ v t,a2A (k+1) (y9 (k+1)).1 (y9 (k+1)).2.1 (y9 (k+1)).2.2 s ((h:Int)+1)=some (v,t)/\_
   unfold a2A
   rw [e]
   simp only [Option.bind_some]
   rw [e2]
   have:=a5n v l
   exact ⟨a5w v l,t2,rfl,ht2,a8j h1 l1,by omega⟩
end
end Go.Pl
end
section
namespace Go.Pl
open Go Go.RowKit Go.Sx Go.Qx
def b1L {α:Type}(c:α->α->Int)(q:α->Bool)(l:List α)(i:Nat):Bool :=
 match l[i]? with
 | some x=>q x&&(match i with
   | 0=>true
   | j+1=>match l[j]? with
     | some y=>decide (c y x<0)
     | none=>true)
 | none=>true
theorem c1p {α:Type}(c:α->α->Int)(q:α->Bool)(l:List α):(List.range l.length).all (b1L c q l)=(asc c l&&l.all q):=by
 rw [Bool.eq_iff_iff,Bool.and_eq_true,b6c,List.all_eq_true,List.all_eq_true]
 constructor
 ·intro h
  refine ⟨fun i h1 hi=>?_,fun x hx=>?_⟩
  ·obtain ⟨j,rfl⟩:∃ m,i=m+1:=⟨i-1,by omega⟩
   have:=h (j+1) (by simpa using hi)
   unfold b1L at this
   rw [List.getElem?_eq_getElem hi] at this
   simp only [Bool.and_eq_true] at this
   have h2:=this.2
   rw [List.getElem?_eq_getElem (show j<l.length by omega)] at h2
   simpa using h2
  ·obtain ⟨i,hi,rfl⟩:=List.getElem_of_mem hx
   have:=h i (by simpa using hi)
   unfold b1L at this
   rw [List.getElem?_eq_getElem hi] at this
   simp only [Bool.and_eq_true] at this
   exact this.1
 ·intro ⟨h1,h2⟩ i hi
  have hi:i<l.length:=by simpa using hi
  unfold b1L
  rw [List.getElem?_eq_getElem hi]
  simp only [Bool.and_eq_true]
  refine ⟨h2 _ (List.getElem_mem hi),?_⟩
  cases i with
  | zero=>rfl
  | succ j =>
    simp only
    rw [List.getElem?_eq_getElem (show j<l.length by omega)]
    have:=h1 (j+1) (by omega) hi
    simpa using this
theorem b6b {α β:Type}{step:Int->Option (Fl Int (Sum Unit β))}(c:α->α->Int)(q:α->Bool)(l:List α)(b:β)
 (hst:∀ (i:Nat) (x:α),l[i]?=some x->step (i:Int)=some (if b1L c q l i=true then .next ((i+1:Nat):Int) else .done (.inr b)))
 (hend:step (l.length:Int)=some (.done (.inl ()))):y4 step (l.length+1) 0=some (if (asc c l&&l.all q)=true then .inl () else .inr b):=by
 have:=a2d (step:=step) (List.range l.length) (b1L c q l) (fun i=>(i:Int)) () b (fun i x hx=>by
  have hi:i<l.length:=by have:=(List.getElem?_eq_some_iff.1 hx).1; simpa using this
  have e:x=i:=by
   rw [List.getElem?_range hi] at hx
   cases hx; rfl
  subst e
  exact hst x _ (List.getElem?_eq_getElem hi)) (by rw [List.length_range]; exact hend)
 rw [List.length_range,c1p] at this
 exact this
theorem b2s {α:Type}(c:α->α->Int)(q:α->Bool)(l:List α)(i:Nat)(x:α)(hx:l[i]?=some x)(hl:l.length<=4194304){o:Option (Fl Int (Sum Unit Bool))}
 (h0:q x=false->o=some (.done (.inr false)))
 (h1:q x=true->i=0->o=some (.next (w64 ((i:Int)+1))))
 (h2:q x=true->∀ j y,i=j+1->l[j]?=some y->idx l (w64 ((i:Int)-1))=some y->o=some (if c y x<0 then .next (w64 ((i:Int)+1)) else .done (.inr false))) :
 o=some (if b1L c q l i=true then .next ((i+1:Nat):Int) else .done (.inr false)):=by
 have hi:i<l.length:=(List.getElem?_eq_some_iff.1 hx).1
 have hw:=w7 i (by omega)
 unfold b1L
 rw [hx]
 cases hq:q x
 ·rw [h0 hq]; simp [hq]
 ·cases i with
  | zero=>rw [h1 hq rfl,hw]; simp [hq]
  | succ j =>
    have hy:=List.getElem?_eq_getElem (show j<l.length by omega)
    have hj:w64 (((j+1:Nat):Int)-1)=(j:Int):=by rw [W1 (by omega) (by omega)]; omega
    rw [h2 hq j _ rfl hy (by rw [hj]; exact k7 hy),hw]
    simp only [hy]
    by_cases hc:c l[j] x<0<;>simp [hq,hc]
theorem c4r (a b:ByteArray):a17 a b=decide (cS a b<0):=by
 rcases a6u a b with ⟨h,_,e⟩ | ⟨h,_,e⟩ | ⟨h,_,e⟩<;>simp [h,e]
theorem c1M (i:Nat):decide (0<(((i+1:Nat)):Int))=true:=decide_eq_true (by omega)
theorem c1Y (l:List Val):(bif ((l.length:Int)==2) then Option.bind (idx l 1) fun x=>Option.bind (bif (x.Kind==5) then some true else Option.bind (idx l 1) fun y=>some (y.Kind==7)) fun q=>some q else some false)=some (b4Z l):=by
 unfold b4Z
 match l with
 | []=>rfl
 | [_]=>rfl
 | [x,t] =>
   have e2:((([x,t]:List Val).length:Int)==2)=true:=rfl
   rw [e2]
   have:idx [x,t] 1=some t:=rfl
   simp only [cond_true,this,Option.bind_some]
   cases t.Kind==5<;>rfl
 | _::_::_::r =>
   rename_i a b c
   have:((((a::b::c::r:List Val)).length:Int)==2)=false:=by simp; omega
   rw [this]; rfl
theorem c14 (fuel:Nat)(v:Val)(hf:2*Z5 v<=fuel+2)(hb:Z5 v<=4194304):a4y fuel v=some (a3b v):=by
 have he:=a5b v
 have hs:=a6M v.Labels
 have hk:=a99 v.Keys
 have hn:=a5y v.Entries
 have l1:y4 (a3n v) (v.Labels.length+1) 0=some (if (asc cS v.Labels&&v.Labels.all a4Y)=true then .inl () else .inr false):=by
  refine b6b cS a4Y v.Labels false ?_ ?_
  ·intro i x hx
   have hi:i<v.Labels.length:=(List.getElem?_eq_some_iff.1 hx).1
   unfold a3n
   simp only [a0w,Y1]
   rw [if_pos (by simp; omega),k7 hx]
   simp only [Option.bind_some,b8F]
   refine b2s cS a4Y v.Labels i x hx (by omega) (fun h=>by rw [h]; rfl) (fun h h0=>by subst h0; rw [h]; rfl) (fun h j y hj hy hiy=>?_)
   subst hj
   rw [h,hiy,c1M]
   simp only [Bool.not_true,Bool.false_eq_true,if_false,if_true,Option.bind_some]
   rw [c4r]
   by_cases hc:cS y x<0<;>simp [hc]
  ·unfold a3n
   simp
 have l2:y4 (a3o v) (v.Keys.length+1) 0=some (if (asc cK v.Keys&&v.Keys.all a0f)=true then .inl () else .inr false):=by
  refine b6b cK a0f v.Keys false ?_ ?_
  ·intro i x hx
   have hi:i<v.Keys.length:=(List.getElem?_eq_some_iff.1 hx).1
   unfold a3o
   simp only [a0w,Y1]
   rw [if_pos (by simp; omega),k7 hx]
   simp only [Option.bind_some,b3W]
   refine b2s cK a0f v.Keys i x hx (by omega) (fun h=>by rw [h]; rfl) (fun h h0=>by subst h0; rw [h]; rfl) (fun h j y hj hy hiy=>?_)
   subst hj
   rw [h,hiy,c1M]
   simp only [Bool.not_true,Bool.false_eq_true,if_false,if_true,Option.bind_some,a8k]
   by_cases hc:cK y x<0
   ·have:¬ 0<=cK y x:=by omega
    simp [hc,this]
   ·have:0<=cK y x:=by omega
    simp [hc,this]
  ·unfold a3o
   simp
 have l3:y4 (a3r v fuel) (v.Entries.length+1) 0=some (if (asc cE v.Entries&&v.Entries.all (a2T v.Int_))=true then .inl () else .inr false):=by
  refine b6b cE (a2T v.Int_) v.Entries false ?_ ?_
  ·intro i x hx
   have hi:i<v.Entries.length:=(List.getElem?_eq_some_iff.1 hx).1
   have hm:=a2l (List.mem_of_getElem? hx)
   have hbe:=a3i x
   unfold a3r a2G
   simp only [a0w,Y1]
   rw [if_pos (by simp; omega),k7 hx]
   simp only [Option.bind_some]
   rw [show Val.mk 0 0 (⟨#[]⟩:ByteArray) ([]:List Val) ([]:List Key) ([]:List Ent) ([]:List ByteArray)=a5F from rfl,(a4i fuel).1 x.Result a5F (by omega) (by omega)]
   simp only [Option.bind_some]
   have hq:(Option.bind (if ((x.Args.length:Int) != v.Int_)=true then some true else Option.bind (if x.Fails=true then some (!(cV x.Result a5F==0)) else some false) fun q=>some q) fun q=>some q)=some (!(a2T v.Int_ x)):=by
    unfold a2T
    have e0:((x.Args.length:Int) != v.Int_)=!((x.Args.length:Int)==v.Int_):=rfl
    rw [e0]
    cases ((x.Args.length:Int)==v.Int_)<;>cases x.Fails<;>cases (cV x.Result a5F==0)<;>rfl
   rw [a3L] at hq
   simp only [a3L] at hq ⊢
   rw [hq]
   simp only [Option.bind_some]
   refine b2s cE (a2T v.Int_) v.Entries i x hx (by omega) (fun h=>by rw [h]; rfl) (fun h h0=>by subst h0; rw [h]; rfl) (fun h j y hj hy hiy=>?_)
   subst hj
   have hmy:=a2l (List.mem_of_getElem? hy)
   have hc:Z3 fuel y x=some (cE y x):=(a4i fuel).2.2 y x (by omega) (by omega)
   rw [h,hiy,c1M]
   simp only [Bool.not_true,Bool.false_eq_true,if_false,if_true,Option.bind_some,hc]
   by_cases hc:cE y x<0
   ·have:¬ 0<=cE y x:=by omega
    simp [hc,this]
   ·have:0<=cE y x:=by omega
    simp [hc,this]
  ·unfold a3r
   simp
 unfold a4y
 simp only [J3,a3L]
 rw [l1,l2,l3,b1H]
 have hcons:=c1Y v.Kids
 simp only [a3L] at hcons
 rw [hcons]
 simp only [Option.bind_some,b9G]
 unfold a3b a1r
 cases hlab:(asc cS v.Labels&&v.Labels.all a4Y)
 ·rfl
 have h6:decide ((v.Kids.length:Int)<=4)=decide (v.Kids.length<=4):=by
  by_cases h:v.Kids.length<=4
  ·simp [h]; omega
  ·simp [h]; omega
 have hm:b8v v=(decide (v.Keys.length=v.Kids.length)&&(asc cK v.Keys&&v.Keys.all a0f)):=by
  unfold b8v
  by_cases h:v.Keys.length=v.Kids.length<;>simp [h]
 have hm2:((v.Keys.length:Int)==(v.Kids.length:Int))=decide (v.Keys.length=v.Kids.length):=by
  by_cases h:v.Keys.length=v.Kids.length
  ·simp [h]
  ·simp [h]; omega
 have hfu:b77 v=(!decide (v.Int_<0)&&!decide (4<v.Int_)&&(asc cE v.Entries&&v.Entries.all (a2T v.Int_))):=by
  unfold b77
  by_cases h1:v.Int_<0<;>by_cases h2:4<v.Int_
  ·omega
  ·have:¬ 0<=v.Int_:=by omega
   simp [h1,this]
  ·have:¬ v.Int_<=4:=by omega
   simp [h2,this]
  ·have a:0<=v.Int_:=by omega
   have b:v.Int_<=4:=by omega
   simp [h1,h2,a,b]
 have hi:(v.Int_ != 0)=!(v.Int_==0):=rfl
 rw [hm2,hi,h6]
 simp only [k9,if_true]
 unfold a29 a5q
 rw [hm,hfu]
 generalize (asc cE v.Entries&&v.Entries.all (a2T v.Int_))=f
 generalize (asc cK v.Keys&&v.Keys.all a0f)=k
 generalize decide (v.Keys.length=v.Kids.length)=m
 generalize decide (v.Int_<0)=p
 generalize decide (4<v.Int_)=r
 generalize V4 v.Text ⟨#[]⟩=t
 generalize v.Keys.isEmpty=y
 generalize v.Entries.isEmpty=e
 generalize v.Kids.isEmpty=d
 generalize (v.Int_==0)=i
 generalize a3H v.Text=a
 generalize decide ((v.Text.size:Int)<=64)=z
 generalize b4Z v.Kids=c
 generalize decide (0<=v.Int_)=g
 generalize decide (v.Kids.length<=4)=n
 by_cases hk:v.Kind=1\/v.Kind=2\/v.Kind=3\/v.Kind=4\/v.Kind=5\/v.Kind=6\/v.Kind=7\/v.Kind=8\/v.Kind=9
 ·rcases hk with h | h | h | h | h | h | h | h | h<;>rw [h]<;>cases i<;>cases t<;>cases d<;>cases y<;>cases e<;>simp
  all_goals first
   | rfl
   | (cases k<;>cases m<;>simp)
   | (cases p<;>cases r<;>cases f<;>simp)
 ·simp only [not_or] at hk
  obtain ⟨h1,h2,h3,h4,h5,h6',h7,h8,h9⟩:=hk
  have e1:(v.Kind==1)=false:=by simpa using h1
  have e2:(v.Kind==2)=false:=by simpa using h2
  have e3:(v.Kind==3)=false:=by simpa using h3
  have e4:(v.Kind==4)=false:=by simpa using h4
  have e5:(v.Kind==5)=false:=by simpa using h5
  have e6:(v.Kind==6)=false:=by simpa using h6'
  have e7:(v.Kind==7)=false:=by simpa using h7
  have e8:(v.Kind==8)=false:=by simpa using h8
  have e9:(v.Kind==9)=false:=by simpa using h9
  simp only [bne,e1,e2,e3,e4,e5,e6,e7,e8,e9,if_neg h1,if_neg h2,if_neg h3,if_neg h4,if_neg h5,if_neg h6',if_neg h7,if_neg h8,if_neg h9]
  cases i<;>cases t<;>cases d<;>cases y<;>cases e<;>rfl
theorem b5y:∀ (k:Nat) (v:Val),2*Z5 v<=k->Z5 v<=4194304->a0g k v=some (vOK v)
 | 0,v,h,_=>by have:=b5x v; omega
 | k+1,v,h,hb=>by
   have he:=a5b v
   have hv:=a9s v.Kids
   have hn:=a5y v.Entries
   have hrec:∀ x,Z5 x<Z5 v->a0g k x=some (vOK x):=fun x hx=>b5y k x (by omega) (by omega)
   show a4R k (a0g k) v=_
   unfold a4R
   rw [c14 k v (by omega) hb,c9n,a45,a78]
   simp only [Option.bind_some,J3]
   have l1:y4 (a2W v (a0g k)) (v.Kids.length+1) 0=some (if v.Kids.all vOK=true then .inl () else .inr false):=by
    refine a2d v.Kids vOK (fun i=>(i:Int)) () false ?_ ?_
    ·intro i x hx
     have hi:i<v.Kids.length:=(List.getElem?_eq_some_iff.1 hx).1
     have hm:=a4u (List.mem_of_getElem? hx)
     unfold a2W
     simp only [Y1]
     rw [show decide ((i:Int)<(v.Kids.length:Int))=true by simp; omega,k7 hx]
     simp only [cond_true,Option.bind_some]
     rw [hrec x (by omega),w7 i (by omega)]
     exact b2w _ _
    ·unfold a2W
     simp
   have l2:y4 (a2K v (a0g k)) (v.Entries.length+1) 0=some (if v.Entries.all eOK=true then .inl () else .inr false):=by
    refine a2d v.Entries eOK (fun i=>(i:Int)) () false ?_ ?_
    ·intro i x hx
     have hi:i<v.Entries.length:=(List.getElem?_eq_some_iff.1 hx).1
     have hm:=a2l (List.mem_of_getElem? hx)
     have hbe:=a3i x
     have hal:=a9s x.Args
     unfold a2K
     simp only [Y1,J3]
     rw [show decide ((i:Int)<(v.Entries.length:Int))=true by simp; omega,k7 hx]
     simp only [cond_true,Option.bind_some]
     have l3:y4 (a2U (a0g k) x) (x.Args.length+1) 0=some (if x.Args.all vOK=true then .inl () else .inr false):=by
      refine a2d x.Args vOK (fun i=>(i:Int)) () false ?_ ?_
      ·intro j y hy
       have hj:j<x.Args.length:=(List.getElem?_eq_some_iff.1 hy).1
       have hmy:=a4u (List.mem_of_getElem? hy)
       unfold a2U
       simp only [Y1]
       rw [show decide ((j:Int)<(x.Args.length:Int))=true by simp; omega,k7 hy]
       simp only [cond_true,Option.bind_some]
       rw [hrec y (by omega),w7 j (by omega)]
       exact b2w _ _
      ·unfold a2U
       simp
     rw [l3,hrec x.Result (by omega),c1C,a45,w7 i (by omega)]
     simp only [Option.bind_some]
     cases x.Args.all vOK<;>cases x.Fails<;>cases vOK x.Result<;>rfl
    ·unfold a2K
     simp
   rw [l1,l2]
   cases a3b v<;>cases v.Kids.all vOK<;>cases v.Entries.all eOK<;>rfl
end Go.Pl
end
section
namespace Go.Pl
open Go Go.RowKit Go.Sx Go.Qx
def inR (N:Nat)(k:Int):Bool:=decide (0<=k)&&decide (k<(N:Int))
def a5H (N:Nat)(l:List Api_Field):Bool:=asc cK (l.map (·.Key_))&&(l.all (fun f=>a0f f.Key_)&&l.all fun f=>inR N f.Node)
def a3Z (N:Nat)(x:Api_TypeNode):Bool :=
 if x.Kind=3 then x.Kids.isEmpty&&decide (x.Lo<=x.Hi) else if x.Kind=4 then x.Kids.isEmpty&&decide ((x.Text.size:Int)<=64) else
 if x.Kind=6 then x.Kids.isEmpty&&a3H x.Text else if x.Kind=19 then x.Kids.isEmpty&&a4Y x.Text else
 if x.Kind=1\/x.Kind=2\/x.Kind=5\/x.Kind=7\/x.Kind=8\/x.Kind=9\/x.Kind=11\/x.Kind=15 then x.Kids.isEmpty else
 if x.Kind=10 then decide ((x.Kids.length:Int)<=4) else if x.Kind=12 then (x.Kids.length:Int)==2 else
 if x.Kind=14 then decide (1<=(x.Kids.length:Int))&&decide ((x.Kids.length:Int)<=5) else
 if x.Kind=16\/x.Kind=17 then decide (1<=(x.Kids.length:Int)) else if x.Kind=18 then (x.Kids.length:Int)==1 else
 if x.Kind=13 then a5H N x.Fields&&(x.Kids.isEmpty&&(inR N x.Rest.1&&inR N x.Rest.2)) else false
def a4U (r:Int×Int):Bool:=r.1==0&&r.2==0
def W7 (N:Nat)(x:Api_TypeNode):Bool :=
 x.Kids.all (inR N)&&((x.Kind==3||(x.Lo==0&&x.Hi==0))&&((x.Kind==4||x.Kind==6||x.Kind==19||V4 x.Text ⟨#[]⟩)&&((x.Kind==13||(x.Fields.isEmpty&&a4U x.Rest))&&a3Z N x)))
theorem c0A {α:Type}(l:List α):((l.length:Int)==0)=l.isEmpty:=by cases l<;>simp<;>omega
theorem c0n (r:Int×Int):a50 r (0,0)=a4U r:=by unfold a50 a4U; simp
theorem a90 (t:Api_Type)(k:Int):a0h t k=some (inR t.Nodes.length k):=by
 unfold a0h inR
 cases decide (0<=k)<;>rfl
theorem Q1 {i n:Nat}(h:i<n):decide ((i:Int)<(n:Int))=true:=decide_eq_true (by omega)
theorem c76 (q:Api_Field->Bool)(l:List Api_Field):(List.range l.length).all (b1L (fun a b=>cK a.Key_ b.Key_) q l)=(asc cK (l.map (·.Key_))&&l.all q):=by
 rw [c1p]
 congr 1
 rw [Bool.eq_iff_iff,b6c,b6c]
 constructor
 ·intro h i h1 hi
  have:=h i h1 (by simpa using hi)
  simpa using this
 ·intro h i h1 hi
  have:=h i h1 (by simpa using hi)
  simpa using this
theorem c1P {step:Int->Option (Fl Int (Sum Unit Bool))}(q:Api_Field->Bool)(l:List Api_Field)
 (hst:∀ (i:Nat) (x:Api_Field),l[i]?=some x->step (i:Int)=some (if b1L (fun a b=>cK a.Key_ b.Key_) q l i=true then .next ((i+1:Nat):Int) else .done (.inr false)))
 (hend:step (l.length:Int)=some (.done (.inl ()))):y4 step (l.length+1) 0=some (if (asc cK (l.map (·.Key_))&&l.all q)=true then .inl () else .inr false):=by
 have:=b6b (step:=step) (fun a b:Api_Field=>cK a.Key_ b.Key_) q l false hst hend
 rw [<- c1p,c76] at this
 exact this
theorem c1a (t:Api_Type)(x:Api_TypeNode)(hk:x.Kids.length<=4194304)(hf:x.Fields.length<=4194304):a4r t x=some (W7 t.Nodes.length x):=by
 have l1:y4 (a3q t x) (x.Kids.length+1) 0=some (if x.Kids.all (inR t.Nodes.length)=true then .inl () else .inr false):=by
  refine a2d x.Kids (inR t.Nodes.length) (fun i=>(i:Int)) () false ?_ ?_
  ·intro i k hx
   have hi:i<x.Kids.length:=(List.getElem?_eq_some_iff.1 hx).1
   unfold a3q
   rw [Q1 hi,k7 hx]
   simp only [cond_true,Option.bind_some,a90,Y1]
   rw [w7 i (by omega)]
   exact b2w _ _
  ·unfold a3q
   simp
 have l2:y4 (a3p t x) (x.Fields.length+1) 0=some (if (asc cK (x.Fields.map (·.Key_))&&x.Fields.all fun f=>inR t.Nodes.length f.Node&&a0f f.Key_)=true then .inl () else .inr false):=by
  refine c1P (fun f=>inR t.Nodes.length f.Node&&a0f f.Key_) x.Fields ?_ ?_
  ·intro i f hx
   have hi:i<x.Fields.length:=(List.getElem?_eq_some_iff.1 hx).1
   unfold a3p
   rw [Q1 hi,k7 hx]
   simp only [cond_true,Option.bind_some,a90,b3W,Y1,a3L]
   have hq:(Option.bind (bif !inR t.Nodes.length f.Node then some true else some (!a0f f.Key_)) fun q=>some q)=some (!(inR t.Nodes.length f.Node&&a0f f.Key_)):=by
    cases inR t.Nodes.length f.Node<;>cases a0f f.Key_<;>rfl
   rw [a3L] at hq
   rw [hq]
   simp only [Option.bind_some]
   refine b2s (fun a b:Api_Field=>cK a.Key_ b.Key_) (fun f=>inR t.Nodes.length f.Node&&a0f f.Key_) x.Fields i f hx (by omega) (fun h=>by rw [h]; rfl) (fun h h0=>by subst h0; rw [h]; rfl) (fun h j y hj hy hiy=>?_)
   subst hj
   rw [h,hiy,c1M]
   simp only [Bool.not_true,cond_false,cond_true,Option.bind_some,a8k]
   by_cases hc:cK y.Key_ f.Key_<0
   ·have:¬ 0<=cK y.Key_ f.Key_:=by omega
    simp [hc,this]
   ·have:0<=cK y.Key_ f.Key_:=by omega
    simp [hc,this]
  ·unfold a3p
   simp
 unfold a4r
 simp only [J3,a3L,a90,c0n,b1H,b8F,c0A,b9G]
 rw [l1,l2]
 unfold W7
 cases x.Kids.all (inR t.Nodes.length)
 ·rfl
 simp only [Option.bind_some,if_true,k9]
 have hF:(asc cK (x.Fields.map (·.Key_))&&x.Fields.all fun f=>inR t.Nodes.length f.Node&&a0f f.Key_)=a5H t.Nodes.length x.Fields:=by
  unfold a5H
  congr 1
  rw [Bool.eq_iff_iff,Bool.and_eq_true,List.all_eq_true,List.all_eq_true,List.all_eq_true]
  simp only [Bool.and_eq_true]
  exact ⟨fun h=>⟨fun f hf=>(h f hf).2,fun f hf=>(h f hf).1⟩,fun h f hf=>⟨h.2 f hf,h.1 f hf⟩⟩
 rw [hF]
 unfold a3Z
 simp only [bne]
 generalize a5H t.Nodes.length x.Fields=A
 generalize inR t.Nodes.length x.Rest.1=B
 generalize inR t.Nodes.length x.Rest.2=C
 generalize a4U x.Rest=D
 generalize x.Fields.isEmpty=E
 generalize V4 x.Text ⟨#[]⟩=G
 generalize (x.Lo==0)=H
 generalize (x.Hi==0)=J
 generalize x.Kids.isEmpty=M
 generalize a3H x.Text=O
 generalize a4Y x.Text=Q
 generalize decide (x.Lo<=x.Hi)=R
 generalize decide ((x.Text.size:Int)<=64)=T
 generalize decide ((x.Kids.length:Int)<=4)=U
 generalize ((x.Kids.length:Int)==2)=V
 generalize ((x.Kids.length:Int)==1)=W
 generalize decide (1<=(x.Kids.length:Int))=X
 generalize decide ((x.Kids.length:Int)<=5)=Y
 by_cases hk:x.Kind=1\/x.Kind=2\/x.Kind=3\/x.Kind=4\/x.Kind=5\/x.Kind=6\/x.Kind=7\/x.Kind=8\/x.Kind=9\/x.Kind=10\/x.Kind=11\/x.Kind=12\/x.Kind=13\/x.Kind=14\/x.Kind=15\/x.Kind=16\/x.Kind=17\/x.Kind=18\/x.Kind=19
 ·rcases hk with h | h | h | h | h | h | h | h | h | h | h | h | h | h | h | h | h | h | h<;>rw [h]<;>cases G<;>cases H<;>cases J<;>cases E<;>cases D<;>simp
  all_goals first
   | rfl
   | (cases M<;>rfl)
   | (cases X<;>rfl)
   | (cases A<;>cases M<;>cases B<;>rfl)
 ·simp only [not_or] at hk
  obtain ⟨h1,h2,h3,h4,h5,h6,h7,h8,h9,h10,h11,h12,h13,h14,h15,h16,h17,h18,h19⟩:=hk
  have e:∀ {n:Int},¬ x.Kind=n->(x.Kind==n)=false:=fun h=>by simpa using h
  simp only [e h1,e h2,e h3,e h4,e h5,e h6,e h7,e h8,e h9,e h10,e h11,e h12,e h13,e h14,e h15,e h16,e h17,e h18,e h19,if_neg h3,if_neg h4,if_neg h6,if_neg h19,if_neg h10,if_neg h12,if_neg h14,if_neg h18,if_neg h13,h1,h2,h5,h7,h8,h9,h11,h15,h16,h17,or_self,if_false]
  cases G<;>cases H<;>cases J<;>cases E<;>cases D<;>rfl
end Go.Pl
namespace Go.Pl
open Go Go.RowKit Go.Sx Go.Qx
def b5e (x:Api_TypeNode):Bool :=
 (x.Kind==3||(x.Lo==0&&x.Hi==0))&&((x.Kind==4||x.Kind==6||x.Kind==19||V4 x.Text ⟨#[]⟩) &&
   ((x.Kind==10||x.Kind==12||x.Kind==14||x.Kind==16||x.Kind==17||x.Kind==18||x.Kids.isEmpty)&&(x.Kind==13||(x.Fields.isEmpty&&a4U x.Rest))))
def b7O (l:List Api_Field):Bool:=asc cK (l.map (·.Key_))&&l.all fun f=>a0f f.Key_
def b4V (x:Api_TypeNode):Bool :=
 if x.Kind=3 then decide (x.Lo<=x.Hi) else if x.Kind=4 then decide ((x.Text.size:Int)<=64) else
 if x.Kind=6 then a3H x.Text else if x.Kind=19 then a4Y x.Text else
 if x.Kind=1\/x.Kind=2\/x.Kind=5\/x.Kind=7\/x.Kind=8\/x.Kind=9\/x.Kind=11\/x.Kind=15 then true else
 if x.Kind=10 then decide ((x.Kids.length:Int)<=4) else if x.Kind=12 then (x.Kids.length:Int)==2 else
 if x.Kind=14 then decide (1<=(x.Kids.length:Int))&&decide ((x.Kids.length:Int)<=5) else
 if x.Kind=16\/x.Kind=17 then decide (1<=(x.Kids.length:Int)) else if x.Kind=18 then (x.Kids.length:Int)==1 else
 if x.Kind=13 then b7O x.Fields else false
def a4K (x:Api_TypeNode):List Int:=x.Kids++x.Fields.map (·.Node)++(if x.Kind=13 then [x.Rest.1,x.Rest.2] else [])
theorem a9i (k:Int):(k=1\/k=2\/k=3\/k=4\/k=5\/k=6\/k=7\/k=8\/k=9\/k=10\/k=11\/k=12\/k=13\/k=14\/k=15\/k=16\/k=17\/k=18\/k=19)\/∀ n:Int,1<=n->n<=19->(k==n)=false:=by
 by_cases h:1<=k/\k<=19
 ·left; omega
 ·right
  intro n h1 h2
  have:k≠n:=by omega
  simpa using this
theorem c52 (x:Api_TypeNode):a3P x=some (b5e x):=by
 unfold a3P b5e
 simp only [a3L,c0n,c0A]
 generalize a4U x.Rest=D
 generalize x.Fields.isEmpty=E
 generalize V4 x.Text ⟨#[]⟩=G
 generalize (x.Lo==0)=H
 generalize (x.Hi==0)=J
 generalize x.Kids.isEmpty=M
 rcases a9i x.Kind with h | h
 ·rcases h with h | h | h | h | h | h | h | h | h | h | h | h | h | h | h | h | h | h | h<;>rw [h]<;>cases G<;>cases H<;>cases J<;>cases E<;>cases D<;>cases M<;>rfl
 ·simp only [h 3 (by omega) (by omega),h 4 (by omega) (by omega),h 6 (by omega) (by omega),h 19 (by omega) (by omega),h 10 (by omega) (by omega),h 12 (by omega) (by omega),h 14 (by omega) (by omega),h 16 (by omega) (by omega),h 17 (by omega) (by omega),h 18 (by omega) (by omega),h 13 (by omega) (by omega)]
  cases G<;>cases H<;>cases J<;>cases E<;>cases D<;>cases M<;>rfl
theorem c4L (l:List Api_Field)(hl:l.length<=4194304):a2P l=some (b7O l):=by
 have l2:y4 (a14 l) (l.length+1) 0=some (if (asc cK (l.map (·.Key_))&&l.all fun f=>a0f f.Key_)=true then .inl () else .inr false):=by
  refine c1P (fun f=>a0f f.Key_) l ?_ ?_
  ·intro i f hx
   have hi:i<l.length:=(List.getElem?_eq_some_iff.1 hx).1
   unfold a14
   rw [Q1 hi,k7 hx]
   simp only [cond_true,Option.bind_some,c9k,Y1,a3L]
   refine b2s (fun a b:Api_Field=>cK a.Key_ b.Key_) (fun f=>a0f f.Key_) l i f hx (by omega) (fun h=>by rw [h]; rfl) (fun h h0=>by subst h0; rw [h]; rfl) (fun h j y hj hy hiy=>?_)
   subst hj
   rw [h,hiy,c1M]
   simp only [Bool.not_true,cond_false,cond_true,Option.bind_some,c2j]
   by_cases hc:cK y.Key_ f.Key_<0
   ·have:¬ 0<=cK y.Key_ f.Key_:=by omega
    simp [hc,this]
   ·have:0<=cK y.Key_ f.Key_:=by omega
    simp [hc,this]
  ·unfold a14
   simp
 unfold a2P b7O
 rw [J3,l2]
 cases (asc cK (l.map (·.Key_))&&l.all fun f=>a0f f.Key_)<;>rfl
theorem c6i (x:Api_TypeNode)(hf:x.Fields.length<=4194304):a3M x=some (b4V x):=by
 unfold a3M b4V
 simp only [a3L,c2t,c8u,c4L x.Fields hf]
 generalize b7O x.Fields=A
 generalize a3H x.Text=O
 generalize a4Y x.Text=Q
 generalize decide (x.Lo<=x.Hi)=R
 generalize decide ((x.Text.size:Int)<=64)=T
 generalize decide ((x.Kids.length:Int)<=4)=U
 generalize ((x.Kids.length:Int)==2)=V
 generalize ((x.Kids.length:Int)==1)=W
 generalize decide (1<=(x.Kids.length:Int))=X
 generalize decide ((x.Kids.length:Int)<=5)=Y
 rcases a9i x.Kind with h | h
 ·rcases h with h | h | h | h | h | h | h | h | h | h | h | h | h | h | h | h | h | h | h<;>rw [h]<;>first | rfl | (cases X<;>rfl)
 ·have e:∀ n:Int,1<=n->n<=19->¬ x.Kind=n:=fun n h1 h2=>by simpa using h n h1 h2
  simp only [h 1 (by omega) (by omega),h 2 (by omega) (by omega),h 5 (by omega) (by omega),h 7 (by omega) (by omega),h 8 (by omega) (by omega),h 9 (by omega) (by omega),h 11 (by omega) (by omega),h 15 (by omega) (by omega),h 3 (by omega) (by omega),h 4 (by omega) (by omega),h 6 (by omega) (by omega),h 19 (by omega) (by omega),h 10 (by omega) (by omega),h 12 (by omega) (by omega),h 14 (by omega) (by omega),h 16 (by omega) (by omega),h 17 (by omega) (by omega),h 18 (by omega) (by omega),h 13 (by omega) (by omega),
   e 1 (by omega) (by omega),e 2 (by omega) (by omega),e 5 (by omega) (by omega),e 7 (by omega) (by omega),e 8 (by omega) (by omega),e 9 (by omega) (by omega),e 11 (by omega) (by omega),e 15 (by omega) (by omega),e 3 (by omega) (by omega),e 4 (by omega) (by omega),e 6 (by omega) (by omega),e 19 (by omega) (by omega),e 10 (by omega) (by omega),e 12 (by omega) (by omega),e 14 (by omega) (by omega),e 16 (by omega) (by omega),e 17 (by omega) (by omega),e 18 (by omega) (by omega),e 13 (by omega) (by omega),or_self,if_false]
  rfl
theorem c2u {α β:Type}(f:α->β):∀ (l:List α) (s:List β),l.foldl (fun s x=>s++[f x]) s=s++l.map f
 | [],s=>by simp
 | x::r,s=>by rw [List.foldl_cons,c2u f r]; simp
theorem c5Q (x:Api_TypeNode)(hk:x.Kids.length<=1100000)(hf:x.Fields.length<=1100000):a5A x=some (a4K x):=by
 unfold a5A a4G a4K
 rw [J4 (by omega)]
 simp only [Option.bind_some,J3]
 have key:=b5w (σ:=List Int) (step:=a1Y x) x.Fields (fun s i=>(s,(i:Int))) (fun s f=>s++[f.Node]) (fun i s=>s.length<=x.Kids.length+i) (fun s=>s)
  ?_ ?_ x.Kids (by simp) _ (Nat.le_refl _)
 ·have e:y4 (a1Y x) (x.Fields.length+1) (x.Kids,0)=y4 (a1Y x) (x.Fields.length+1) (x.Kids,((0:Nat):Int)):=rfl
  rw [e,key,c2u]
  simp only [Option.bind_some]
  by_cases h:x.Kind=13
  ·rw [show (x.Kind==13)=true by simpa using h,if_pos h,J4 (by simp only [List.length_append,List.length_map,List.length_cons,List.length_nil]; omega)]
   rfl
  ·rw [show (x.Kind==13)=false by simpa using h,if_neg h,List.append_nil]
   rfl
 ·intro i s f hx hI
  have hi:i<x.Fields.length:=(List.getElem?_eq_some_iff.1 hx).1
  refine ⟨?_,by simp only [List.length_append,List.length_cons,List.length_nil]; omega⟩
  unfold a1Y
  simp only [Y1]
  rw [Q1 hi,k7 hx]
  simp only [cond_true,Option.bind_some]
  rw [J4 (by simp only [List.length_cons,List.length_nil]; omega),w7 i (by omega)]
  rfl
 ·intro s _
  unfold a1Y
  simp
theorem c4x (N:Nat)(x:Api_TypeNode):(b5e x&&(b4V x&&(a4K x).all (inR N)))=W7 N x:=by
 unfold b5e b4V W7 a3Z a4K a5H b7O
 simp only [List.all_append,List.all_map]
 have hE:x.Fields.isEmpty=true->x.Fields=[]:=List.isEmpty_iff.1
 have hM:x.Kids.isEmpty=true->x.Kids=[]:=List.isEmpty_iff.1
 rcases a9i x.Kind with h | h
 ·have hK:x.Kids.isEmpty=true->x.Kids.all (inR N)=true:=fun e=>by rw [hM e]; rfl
  have hF:x.Fields.isEmpty=true->(x.Fields.all (inR N∘fun f=>f.Node))=true:=fun e=>by rw [hE e]; rfl
  have hcomp:(x.Fields.all fun f=>inR N f.Node)=x.Fields.all (inR N∘fun f=>f.Node):=rfl
  rw [hcomp]
  generalize x.Fields.all (inR N∘fun f=>f.Node)=a1 at hF
  generalize x.Kids.all (inR N)=a2 at hK
  generalize x.Fields.isEmpty=E at hF
  generalize x.Kids.isEmpty=M at hK
  generalize a4U x.Rest=D
  generalize V4 x.Text ⟨#[]⟩=G
  generalize (x.Lo==0)=H
  generalize (x.Hi==0)=J
  rcases h with h | h | h | h | h | h | h | h | h | h | h | h | h | h | h | h | h | h | h<;>rw [h]<;>simp <;>
   cases G<;>cases H<;>cases J<;>cases E<;>cases D<;>cases M<;>simp_all
  all_goals first
   | (simp only [Bool.and_assoc]; done)
   | (cases a2<;>simp; done)
 ·have e:∀ n:Int,1<=n->n<=19->¬ x.Kind=n:=fun n h1 h2=>by simpa using h n h1 h2
  simp only [e 1 (by omega) (by omega),e 2 (by omega) (by omega),e 5 (by omega) (by omega),e 7 (by omega) (by omega),e 8 (by omega) (by omega),e 9 (by omega) (by omega),e 11 (by omega) (by omega),e 15 (by omega) (by omega),e 3 (by omega) (by omega),e 4 (by omega) (by omega),e 6 (by omega) (by omega),e 19 (by omega) (by omega),e 10 (by omega) (by omega),e 12 (by omega) (by omega),e 14 (by omega) (by omega),e 16 (by omega) (by omega),e 17 (by omega) (by omega),e 18 (by omega) (by omega),e 13 (by omega) (by omega),or_self,if_false]
  simp
end Go.Pl
namespace Go.Pl
open Go Go.RowKit Go.Sx Go.Qx
def isB (x:Api_TypeNode):Bool:=x.Kind==16||x.Kind==17||x.Kind==18
def c9c (ns:List Api_TypeNode):Prop:=∀ (i:Nat) (x:Api_TypeNode),ns[i]?=some x->isB x=true->∀ k∈x.Kids,(i:Int)<k
def a3w (ns:List Api_TypeNode):Bool:=ns.all (W7 ns.length)
theorem c9y (x:Api_TypeNode):a3Q x.Kind=some (isB x):=by
 unfold a3Q isB
 cases (x.Kind==16)<;>cases (x.Kind==17)<;>rfl
theorem b9n (x:Api_TypeNode):a3k x=some (isB x):=by
 unfold a3k isB
 cases (x.Kind==16)<;>cases (x.Kind==17)<;>rfl
theorem a3R {N:Nat}{x:Api_TypeNode}(h:W7 N x=true):∀ k∈x.Kids,inR N k=true:=by
 unfold W7 at h
 simp only [Bool.and_eq_true] at h
 exact List.all_eq_true.1 h.1
theorem a1X {N:Nat}{k:Int}(h:inR N k=true):∃ j:Nat,k=(j:Int)/\j<N:=by
 unfold inR at h
 simp only [Bool.and_eq_true,decide_eq_true_eq] at h
 exact ⟨k.toNat,by omega,by omega⟩
def Rk (ns:List Api_TypeNode)(r:Nat->Nat):Prop:=∀ (i:Nat) (x:Api_TypeNode),ns[i]?=some x->isB x=true->∀ k∈x.Kids,r k.toNat<r i
def Acy (ns:List Api_TypeNode):Prop:=∃ r,Rk ns r
open Classical in
noncomputable def a4m (ns:List Api_TypeNode):Bool:=decide (Acy ns)
theorem b0q {ns:List Api_TypeNode}:a4m ns=true↔Acy ns:=by
 unfold a4m
 classical exact decide_eq_true_iff
theorem c9c.acy {ns:List Api_TypeNode}(h:c9c ns)(hT:a3w ns=true):a4m ns=true :=
 b0q.2 ⟨fun i=>ns.length-i,fun i x hx hb k hk=>by
  obtain ⟨j,rfl,hj⟩:=a1X (a3R (List.all_eq_true.1 hT x (List.mem_of_getElem? hx)) k hk)
  have:=h i x hx hb _ hk
  show ns.length-((j:Int)).toNat<ns.length-i
  rw [Int.toNat_natCast]
  omega⟩
def Gd (ns:List Api_TypeNode)(D:Nat->Prop):Prop:=∃ r:Nat->Nat,∀ (i:Nat) (x:Api_TypeNode),D i->ns[i]?=some x->isB x=true->∀ k∈x.Kids,D k.toNat/\r k.toNat<r i
theorem c2r (r:Nat->Nat):∀ (l:List Int) (k:Int),k∈l->r k.toNat<=(l.map fun k=>r k.toNat).sum
 | [],_,h=>by cases h
 | y::l,k,h=>by
   rw [List.map_cons,List.sum_cons]
   rcases List.mem_cons.1 h with rfl | h
   ·omega
   ·have:=c2r r l k h; omega
theorem Gd.add {ns:List Api_TypeNode}{D D':Nat->Prop}(h:Gd ns D){i:Nat}{x:Api_TypeNode}(hx:ns[i]?=some x)(hk:isB x=true->∀ k∈x.Kids,D k.toNat)(hD:∀ j,D' j↔D j\/j=i):Gd ns D':=by
 obtain ⟨r,hr⟩:=h
 by_cases hi:D i
 ·have e:∀ j,D' j↔D j:=fun j=>(hD j).trans ⟨fun h=>h.elim id (fun h=>by rw [h]; exact hi),.inl⟩
  exact ⟨r,fun j y h1 h2 h3 k h4=>by
   obtain ⟨k1,k2⟩:=hr j y ((e j).1 h1) h2 h3 k h4
   exact ⟨(e _).2 k1,k2⟩⟩
 ·refine ⟨fun j=>if j=i then 1+(x.Kids.map fun k=>r k.toNat).sum else r j,fun j y h1 h2 h3 k h4=>?_⟩
  by_cases hj:j=i
  ·subst hj
   rw [hx] at h2
   cases h2
   have hDk:=hk h3 k h4
   have hne:k.toNat≠j:=fun e=>hi (e▸hDk)
   refine ⟨(hD _).2 (.inl hDk),?_⟩
   simp only [if_neg hne,if_true]
   have:=c2r r x.Kids k h4
   omega
  ·obtain ⟨k1,k2⟩:=hr j y (((hD j).1 h1).resolve_right hj) h2 h3 k h4
   have hne:k.toNat≠i:=fun e=>hi (e▸k1)
   refine ⟨(hD _).2 (.inl k1),?_⟩
   simp only [if_neg hne,if_neg hj]
   exact k2
theorem Gd.acy {ns:List Api_TypeNode}{D:Nat->Prop}(h:Gd ns D)(hD:∀ j,j<ns.length->D j):Acy ns:=by
 obtain ⟨r,hr⟩:=h
 exact ⟨r,fun i x hx hb k hk=>(hr i x (hD i (List.getElem?_eq_some_iff.1 hx).1) hx hb k hk).2⟩
theorem Acy.small {ns:List Api_TypeNode}(h:Acy ns)(hT:a3w ns=true):∃ r,Rk ns r/\∀ i,i<ns.length->r i<ns.length:=by
 obtain ⟨r,hr⟩:=h
 have mono:∀ (l:List Nat) (a b:Nat),a<=b->(l.countP fun j=>decide (j<a))<=l.countP fun j=>decide (j<b):=fun l a b hab =>
  List.countP_mono_left fun x _ hx=>by simp at hx ⊢; omega
 have strict:∀ (l:List Nat) (a b:Nat),a<b->a∈l->(l.countP fun j=>decide (j<a))<l.countP fun j=>decide (j<b):=by
  intro l
  induction l with
  | nil=>intro a b _ h; cases h
  | cons y l ih =>
    intro a b hab hm
    rw [List.countP_cons,List.countP_cons]
    rcases List.mem_cons.1 hm with rfl | hm
    ·have:=mono l a b (by omega)
     simp only [Nat.lt_irrefl,decide_false,hab,decide_true,if_true]
     simp
     omega
    ·have h1:=ih a b hab hm
     by_cases h2:y<a
     ·simp only [h2,show y<b by omega,decide_true,if_true]; omega
     ·simp only [h2,decide_false]
      by_cases h3:y<b<;>simp [h3]<;>omega
 have hlt:∀ (l:List Nat) (a:Nat),a∈l->(l.countP fun j=>decide (j<a))<l.length:=fun l a hm=>by
  have h1:=strict l a (a+1) (by omega) hm
  have h2:(l.countP fun j=>decide (j<a+1))<=l.length:=List.countP_le_length
  omega
 refine ⟨fun i=>((List.range ns.length).map r).countP fun j=>decide (j<r i),fun i x hx hb k hk=>?_,fun i hi=>?_⟩
 ·obtain ⟨j,rfl,hj⟩:=a1X (a3R (List.all_eq_true.1 hT x (List.mem_of_getElem? hx)) k hk)
  exact strict _ _ _ (hr i x hx hb _ hk) (List.mem_map.2 ⟨j,by simpa using hj,by simp⟩)
 ·have:=hlt ((List.range ns.length).map r) (r i) (List.mem_map.2 ⟨i,by simpa using hi,rfl⟩)
  simpa using this
def DF (ns:List Api_TypeNode)(st:List Int)(j:Nat):Prop:=st[j]?=some 2\/∃ x,ns[j]?=some x/\isB x=false
theorem c2O:∀ (l:List Int) (i:Nat),l[i]?=some 0->(l.set i 1).count 0+1=l.count 0
 | [],i,h=>by simp at h
 | x::l,0,h=>by
   have:x=0:=by simpa using h
   subst this
   simp
 | x::l,i+1,h=>by
   have:=c2O l i (by simpa using h)
   rw [List.set_cons_succ,List.count_cons,List.count_cons]
   omega
theorem c4k:∀ (l:List Int) (i:Nat),(l.set i 2).count 0<=l.count 0
 | [],i=>by simp
 | x::l,0=>by
   rw [List.set_cons_zero,List.count_cons,List.count_cons]
   simp
 | x::l,i+1=>by
   have:=c4k l i
   rw [List.set_cons_succ,List.count_cons,List.count_cons]
   omega
structure DfsR (ns:List Api_TypeNode)(st st':List Int):Prop where
 len:st'.length=ns.length
 val:∀ (j:Nat) e,st'[j]?=some e->e=0\/e=1\/e=2
 gd:Gd ns (DF ns st')
 opn:∀ j:Nat,st'[j]?=some 1↔st[j]?=some 1
 don:∀ j:Nat,st[j]?=some 2->st'[j]?=some 2
 zer:st'.count 0<=st.count 0
theorem c8T (t:Api_Type)(hT:a3w t.Nodes=true)(hk:∀ x∈t.Nodes,x.Kids.length<=1100000) :
 ∀ (fuel i:Nat) (st:List Int),st.count 0<fuel->i<t.Nodes.length->DfsR t.Nodes st st ->
  ∃ b st',Y7 fuel (i:Int) st t ()=some (b,st')/\(b=true->DfsR t.Nodes st st'/\DF t.Nodes st' i)/\(b=false->∀ r,Rk t.Nodes r->(∀ o:Nat,st[o]?=some 1->r i<r o)->False):=by
 intro fuel
 induction fuel with
 | zero=>intro i st h1; omega
 | succ f ih =>
   intro i st h1 h2 hS
   show ∃ b st',a24 f (Y7 f) (i:Int) st t ()=some (b,st')/\_
   have h3:=hS.len
   have hi:i<st.length:=by omega
   have hst:=List.getElem?_eq_getElem hi
   have hn:=List.getElem?_eq_getElem h2
   generalize st[i]=e at hst
   generalize hx:t.Nodes[i]=x at hn
   have hxm:x∈t.Nodes:=List.mem_of_getElem? hn
   unfold a24
   simp only [k7 hst,k7 hn,Int.toNat_natCast,hst,Option.bind_some,c9y,J3,Y1]
   by_cases hq:e=0/\isB x=true
   ·obtain ⟨he,hb⟩:=hq
    subst he
    rw [hb]
    simp only [bne_self_eq_false,cond_false,Bool.not_true,Option.bind_some]
    have hke:=hk x hxm
    have hz:=c2O st i hst
    have hset:∀ j:Nat,(st.set i 1)[j]?=some 1↔st[j]?=some 1\/j=i:=fun j=>by
     by_cases e:i=j
     ·subst e; rw [List.getElem?_set_self hi]; simp
     ·rw [List.getElem?_set_ne e]; exact ⟨.inl,fun h=>h.resolve_right (Ne.symm e)⟩
    have hset2:∀ j:Nat,(st.set i 1)[j]?=some 2↔st[j]?=some 2:=fun j=>by
     by_cases e:i=j
     ·subst e; rw [List.getElem?_set_self hi,hst]; simp
     ·rw [List.getElem?_set_ne e]
    have hS1:DfsR t.Nodes (st.set i 1) (st.set i 1):=by
     refine ⟨by simpa using h3,fun j e hj=>?_,?_,fun _=>Iff.rfl,fun _ h=>h,Nat.le_refl _⟩
     ·by_cases e1:i=j
      ·subst e1; rw [List.getElem?_set_self hi] at hj; simp at hj; omega
      ·rw [List.getElem?_set_ne e1] at hj; exact hS.val j e hj
     ·have e:∀ j,DF t.Nodes (st.set i 1) j↔DF t.Nodes st j:=fun j=>or_congr (hset2 j) Iff.rfl
      obtain ⟨r,hr⟩:=hS.gd
      exact ⟨r,fun j y a1 a2 a3 k a4=>by
       obtain ⟨k1,k2⟩:=hr j y ((e j).1 a1) a2 a3 k a4
       exact ⟨(e _).2 k1,k2⟩⟩
    have key:∀ (m a k:Nat) (s:List Int),a+m=x.Kids.length->m+1<=k->DfsR t.Nodes (st.set i 1) s->(∀ (q:Nat) (y:Int),q<a->x.Kids[q]?=some y->DF t.Nodes s y.toNat) ->
     (∃ s',y4 (Z9 t x (Y7 f)) k ((a:Int),s)=some (.inl s')/\DfsR t.Nodes (st.set i 1) s'/\∀ y∈x.Kids,DF t.Nodes s' y.toNat) \/
     ∃ s',y4 (Z9 t x (Y7 f)) k ((a:Int),s)=some (.inr (false,s'))/\∀ r,Rk t.Nodes r->(∀ o:Nat,st[o]?=some 1->r i<r o)->False:=by
     intro m
     induction m with
     | zero =>
       intro a k s b1 b2 b3 b4
       obtain ⟨k,rfl⟩:∃ m,k=m+1:=⟨k-1,by omega⟩
       have e:a=x.Kids.length:=by omega
       subst e
       have:Z9 t x (Y7 f) ((x.Kids.length:Int),s)=some (.done (.inl s)):=by
        unfold Z9
        simp
       exact .inl ⟨s,by simp only [y4,this,Option.bind_some],b3,fun y hy=>by
        obtain ⟨q,hq,e⟩:=List.getElem_of_mem hy
        exact b4 q y hq (by rw [List.getElem?_eq_getElem hq,e])⟩
     | succ m ihm =>
       intro a k s b1 b2 b3 b4
       obtain ⟨k,rfl⟩:∃ m,k=m+1:=⟨k-1,by omega⟩
       have ha:a<x.Kids.length:=by omega
       have hka:=List.getElem?_eq_getElem ha
       have hkm:=List.getElem_mem ha
       obtain ⟨j,hj1,hj3⟩:=a1X (a3R (List.all_eq_true.1 hT x hxm) _ hkm)
       obtain ⟨b,s',c1,c2,c3⟩:=ih j s (by have:=b3.zer; omega) hj3 ⟨b3.len,b3.val,b3.gd,fun _=>Iff.rfl,fun _ h=>h,Nat.le_refl _⟩
       cases b with
       | true =>
         obtain ⟨c4,c5⟩:=c2 rfl
         have:Z9 t x (Y7 f) ((a:Int),s)=some (.next (((a+1:Nat):Int),s')):=by
          unfold Z9
          rw [Q1 ha,k7 hka,hj1]
          simp only [cond_true,Option.bind_some,Y1]
          rw [c1,w7 a (by omega)]
          rfl
         simp only [y4,this,Option.bind_some]
         refine ihm (a+1) k s' (by omega) (by omega) ⟨c4.len,c4.val,c4.gd,fun q=>(c4.opn q).trans (b3.opn q),fun q hq=>c4.don q (b3.don q hq),Nat.le_trans c4.zer b3.zer⟩ (fun q y hq hy=>?_)
         by_cases hqa:q=a
         ·subst hqa
          rw [hka] at hy
          cases hy
          rw [hj1,Int.toNat_natCast]
          exact c5
         ·exact (b4 q y (by omega) hy).imp (fun h=>c4.don _ h) id
       | false =>
         have:Z9 t x (Y7 f) ((a:Int),s)=some (.done (.inr (false,s'))):=by
          unfold Z9
          rw [Q1 ha,k7 hka,hj1]
          simp only [cond_true,Option.bind_some,Y1]
          rw [c1]
          rfl
         refine .inr ⟨s',by simp only [y4,this,Option.bind_some],fun r hr ho=>c3 rfl r hr fun o hopn=>?_⟩
         have hrk:r j<r i:=by
          have:=hr i x hn hb _ hkm
          rwa [hj1,Int.toNat_natCast] at this
         rcases (hset o).1 ((b3.opn o).1 hopn) with h | rfl
         ·exact Nat.lt_trans hrk (ho o h)
         ·exact hrk
    have e0:y4 (Z9 t x (Y7 f)) (x.Kids.length+1) (0,st.set i 1)=y4 (Z9 t x (Y7 f)) (x.Kids.length+1) (((0:Nat):Int),st.set i 1):=rfl
    rw [e0]
    rcases key x.Kids.length 0 (x.Kids.length+1) (st.set i 1) (by omega) (Nat.le_refl _) hS1 (fun q y hq=>by omega) with ⟨s',c1,c2,c3⟩ | ⟨s',c1,c2⟩
    ·rw [c1]
     have hi':i<s'.length:=by rw [c2.len]; exact h2
     have hs':=List.getElem?_eq_getElem hi'
     have hs1:s'[i]?=some 1:=(c2.opn i).2 ((hset i).2 (.inr rfl))
     simp only [Option.bind_some,k9,k7 hs',hs']
     refine ⟨true,s'.set i 2,rfl,fun _=>⟨⟨by simpa using c2.len,fun j e hj=>?_,?_,fun j=>?_,fun j hj=>?_,?_⟩,.inl (List.getElem?_set_self hi')⟩,fun h=>by cases h⟩
     ·by_cases e1:i=j
      ·subst e1; rw [List.getElem?_set_self hi'] at hj; simp at hj; omega
      ·rw [List.getElem?_set_ne e1] at hj; exact c2.val j e hj
     ·refine Gd.add c2.gd hn (fun _=>c3) fun j=>?_
      unfold DF
      by_cases e1:i=j
      ·subst e1; rw [List.getElem?_set_self hi']; simp
      ·rw [List.getElem?_set_ne e1]; exact ⟨.inl,fun h=>h.resolve_right (Ne.symm e1)⟩
     ·by_cases e1:i=j
      ·subst e1; rw [List.getElem?_set_self hi',hst]; simp
      ·rw [List.getElem?_set_ne e1]
       exact (c2.opn j).trans ((hset j).trans ⟨fun h=>h.resolve_right (Ne.symm e1),.inl⟩)
     ·have h2':=c2.don j ((hset2 j).2 hj)
      by_cases e1:i=j
      ·subst e1; rw [List.getElem?_set_self hi']
      ·rw [List.getElem?_set_ne e1]; exact h2'
     ·have a1:=c4k s' i
      have a2:=c2.zer
      omega
    ·rw [c1]
     exact ⟨false,s',rfl,(fun h=>by cases h),fun _=>c2⟩
   ·by_cases he1:e=1
    ·subst he1
     exact ⟨false,st,by cases isB x<;>rfl,(fun h=>by cases h),fun _ r _ ho=>Nat.lt_irrefl _ (ho i hst)⟩
    ·refine ⟨true,st,?_,fun _=>⟨hS,?_⟩,fun h=>by cases h⟩
     ·by_cases he:e=0
      ·subst he
       have hb:isB x=false:=by
        cases hb:isB x with
        | true=>exact absurd ⟨rfl,hb⟩ hq
        | false=>rfl
       rw [hb]
       rfl
      ·have e2:(e != 0)=true:=by simpa using he
       have e3:(e != 1)=true:=by simpa using he1
       rw [e2,e3]
       rfl
     ·rcases hS.val i e hst with rfl | rfl | rfl
      ·right
       refine ⟨x,hn,?_⟩
       cases hb:isB x with
       | true=>exact absurd ⟨rfl,hb⟩ hq
       | false=>rfl
      ·exact absurd rfl he1
      ·exact .inl hst
theorem c5Z (t:Api_Type)(hT:a3w t.Nodes=true)(hk:∀ x∈t.Nodes,x.Kids.length<=1100000)(hN:t.Nodes.length<=1100000)(fuel:Nat)(hf:t.Nodes.length+1<=fuel):a2J fuel t=some (a4m t.Nodes):=by
 unfold a2J a5g
 have e0:(decide (0<=(t.Nodes.length:Int))&&decide ((t.Nodes.length:Int)<=(t.Nodes.length:Int))&&decide ((t.Nodes.length:Int)*((8:Nat):Int)<=140737488355328))=true:=by
  simp; omega
 rw [e0]
 simp only [cond_true,Option.bind_some,J3]
 have key:∀ (m a k:Nat) (s:List Int),a+m=t.Nodes.length->m+1<=k->DfsR t.Nodes s s->(∀ j:Nat,s[j]?≠some 1)->(∀ j,j<a->DF t.Nodes s j) ->
  (∃ s',y4 (Y9 t fuel) k ((a:Int),s)=some (.inl s')/\a4m t.Nodes=true)\/∃ s',y4 (Y9 t fuel) k ((a:Int),s)=some (.inr (false,s'))/\a4m t.Nodes=false:=by
  intro m
  induction m with
  | zero =>
    intro a k s b1 b2 b3 b4 b5
    obtain ⟨k,rfl⟩:∃ m,k=m+1:=⟨k-1,by omega⟩
    have e:a=t.Nodes.length:=by omega
    subst e
    have:Y9 t fuel ((t.Nodes.length:Int),s)=some (.done (.inl s)):=by
     unfold Y9
     simp
    exact .inl ⟨s,by simp only [y4,this,Option.bind_some],b0q.2 (b3.gd.acy b5)⟩
  | succ m ih =>
    intro a k s b1 b2 b3 b4 b5
    obtain ⟨k,rfl⟩:∃ m,k=m+1:=⟨k-1,by omega⟩
    have hz:s.count 0<=t.Nodes.length:=by rw [<- b3.len]; exact List.count_le_length
    obtain ⟨b,s',c1,c2,c3⟩:=c8T t hT hk fuel a s (by omega) (by omega) b3
    cases b with
    | true =>
      obtain ⟨c4,c5⟩:=c2 rfl
      have:Y9 t fuel ((a:Int),s)=some (.next (((a+1:Nat):Int),s')):=by
       unfold Y9
       rw [Q1 (show a<t.Nodes.length by omega)]
       simp only [cond_true,Option.bind_some,Y1]
       rw [c1,w7 a (by omega)]
       rfl
      simp only [y4,this,Option.bind_some]
      refine ih (a+1) k s' (by omega) (by omega) ⟨c4.len,c4.val,c4.gd,fun _=>Iff.rfl,fun _ h=>h,Nat.le_refl _⟩ (fun j h=>b4 j ((c4.opn j).1 h)) (fun j hj=>?_)
      by_cases h:j=a
      ·rw [h]; exact c5
      ·exact (b5 j (by omega)).imp (fun h=>c4.don _ h) id
    | false =>
      have:Y9 t fuel ((a:Int),s)=some (.done (.inr (false,s'))):=by
       unfold Y9
       rw [Q1 (show a<t.Nodes.length by omega)]
       simp only [cond_true,Option.bind_some,Y1]
       rw [c1]
       rfl
      refine .inr ⟨s',by simp only [y4,this,Option.bind_some],?_⟩
      cases hA:a4m t.Nodes with
      | false=>rfl
      | true =>
        obtain ⟨r,hr⟩:=b0q.1 hA
        exact (c3 rfl r hr fun o ho=>absurd ho (b4 o)).elim
 have hrep:∀ (j:Nat) (e:Int),(List.replicate t.Nodes.length (0:Int))[j]?=some e->e=0:=fun j e h=>by
  rw [List.getElem?_replicate] at h
  split at h
  ·simpa using h.symm
  ·cases h
 have hS:DfsR t.Nodes (List.replicate t.Nodes.length (0:Int)) (List.replicate t.Nodes.length (0:Int)) :=
  ⟨by simp,fun j e h=>.inl (hrep j e h),⟨fun _=>0,fun i x hi hx hb=>by
   rcases hi with hi | ⟨y,hy,hyb⟩
   ·have:=hrep i 2 hi; omega
   ·rw [hx] at hy; cases hy; rw [hb] at hyb; cases hyb⟩,fun _=>Iff.rfl,fun _ h=>h,Nat.le_refl _⟩
 have e':∀ s,y4 (Y9 t fuel) (t.Nodes.length+1) (0,s)=y4 (Y9 t fuel) (t.Nodes.length+1) (((0:Nat):Int),s):=fun _=>rfl
 rw [e']
 rcases key t.Nodes.length 0 (t.Nodes.length+1) (List.replicate t.Nodes.length (0:Int)) (by omega) (Nat.le_refl _) hS (fun j h=>by have:=hrep j 1 h; omega) (fun j hj=>by omega) with ⟨s',e,hA⟩ | ⟨s',e,hA⟩
 ·rw [e,hA]; rfl
 ·rw [e,hA]; rfl
theorem c9a (t:Api_Type)(hk:∀ x∈t.Nodes,x.Kids.length<=1100000/\x.Fields.length<=1100000)(hN:t.Nodes.length<=1100000)(fuel:Nat)(hf:t.Nodes.length+1<=fuel):a0E fuel t=some (if inR t.Nodes.length t.Root&&a3w t.Nodes then (if a4m t.Nodes then 0 else 3) else 1):=by
 have l2:y4 (a2j t) (t.Nodes.length+1) 0=some (if t.Nodes.all (W7 t.Nodes.length)=true then .inl () else .inr 1):=by
  refine a2d t.Nodes (W7 t.Nodes.length) (fun i=>(i:Int)) () 1 ?_ ?_
  ·intro i x hx
   have hi:i<t.Nodes.length:=(List.getElem?_eq_some_iff.1 hx).1
   obtain ⟨hk1,hk2⟩:=hk x (List.mem_of_getElem? hx)
   unfold a2j
   rw [Q1 hi,k7 hx]
   simp only [cond_true,Option.bind_some,c52,c6i x (by omega),Y1,J3]
   rw [<- c4x,w7 i (by omega)]
   cases b5e x
   ·rfl
   cases b4V x
   ·rfl
   simp only [Bool.not_true,cond_false,Option.bind_some,Bool.true_and]
   rw [c5Q x hk1 hk2]
   simp only [Option.bind_some]
   have he:(a4K x).length<=4194304:=by
    unfold a4K
    simp only [List.length_append,List.length_map]
    split<;>simp<;>omega
   have l1:y4 (a2k t (a4K x)) ((a4K x).length+1) 0=some (if (a4K x).all (inR t.Nodes.length)=true then .inl () else .inr 1):=by
    refine a2d (a4K x) (inR t.Nodes.length) (fun i=>(i:Int)) () 1 ?_ ?_
    ·intro j y hy
     have hj:j<(a4K x).length:=(List.getElem?_eq_some_iff.1 hy).1
     unfold a2k
     rw [Q1 hj,k7 hy]
     simp only [cond_true,Option.bind_some,Y1]
     rw [w7 j (by omega)]
     unfold inR
     by_cases h1:y<0
     ·have a1:decide (y<0)=true:=by simpa using h1
      have a2:decide (0<=y)=false:=by simp; omega
      rw [a1,a2]; rfl
     ·have a1:decide (y<0)=false:=by simpa using h1
      have a2:decide (0<=y)=true:=by simp; omega
      rw [a1,a2]
      by_cases h2:y<(t.Nodes.length:Int)
      ·have a3:decide ((t.Nodes.length:Int)<=y)=false:=by simp; omega
       have a4:decide (y<(t.Nodes.length:Int))=true:=by simpa using h2
       rw [a3,a4]; rfl
      ·have a3:decide ((t.Nodes.length:Int)<=y)=true:=by simp; omega
       have a4:decide (y<(t.Nodes.length:Int))=false:=by simpa using h2
       rw [a3,a4]; rfl
    ·unfold a2k
     simp
   rw [l1]
   cases (a4K x).all (inR t.Nodes.length)<;>rfl
  ·unfold a2j
   simp
 unfold a0E
 rw [J3,l2]
 have hq:(Option.bind (bif decide (t.Root<0) then some true else some (decide ((t.Nodes.length:Int)<=t.Root))) fun q=>some q)=some (!inR t.Nodes.length t.Root):=by
  unfold inR
  by_cases h1:t.Root<0
  ·have a1:decide (t.Root<0)=true:=by simpa using h1
   have a2:decide (0<=t.Root)=false:=by simp; omega
   rw [a1,a2]; rfl
  ·have a1:decide (t.Root<0)=false:=by simpa using h1
   have a2:decide (0<=t.Root)=true:=by simp; omega
   rw [a1,a2]
   by_cases h2:t.Root<(t.Nodes.length:Int)
   ·have a3:decide ((t.Nodes.length:Int)<=t.Root)=false:=by simp; omega
    have a4:decide (t.Root<(t.Nodes.length:Int))=true:=by simpa using h2
    rw [a3,a4]; rfl
   ·have a3:decide ((t.Nodes.length:Int)<=t.Root)=true:=by simp; omega
    have a4:decide (t.Root<(t.Nodes.length:Int))=false:=by simpa using h2
    rw [a3,a4]; rfl
 rw [a3L] at hq
 rw [hq]
 simp only [Option.bind_some]
 cases inR t.Nodes.length t.Root
 ·rfl
 show _=some (if a3w t.Nodes=true then (if a4m t.Nodes then (0:Int) else 3) else 1)
 cases hA:a3w t.Nodes with
 | true =>
   have hA':t.Nodes.all (W7 t.Nodes.length)=true:=hA
   rw [hA']
   simp only [Bool.not_true,cond_false,if_true,Option.bind_some,k9]
   rw [c5Z t hA (fun x hx=>(hk x hx).1) hN fuel hf]
   cases a4m t.Nodes<;>rfl
 | false =>
   have hA':t.Nodes.all (W7 t.Nodes.length)=false:=hA
   rw [hA']
   rfl
end Go.Pl
namespace Go.Pl
open Go Go.RowKit Go.Sx Go.Qx
theorem c7W (t:Api_Type)(D:List Bool)(i fuel:Nat)(x:Api_TypeNode)(hx:t.Nodes[i]?=some x)(hD:D.length=t.Nodes.length)(hT:a3w t.Nodes=true)(hk:x.Kids.length<=1100000)(hf:x.Kids.length+1<=fuel) :
 ∃ A,y4 (Q4 t (D,(i:Int))) fuel (D,true,0)=some (D,A)/\((isB x=true->∀ k∈x.Kids,D[k.toNat]?=some true)↔A=true):=by
 have hxm:x∈t.Nodes:=List.mem_of_getElem? hx
 have hkr:=a3R (List.all_eq_true.1 hT x hxm)
 have hix:=k7 hx
 cases hb:isB x with
 | false =>
   obtain ⟨k,rfl⟩:∃ m,fuel=m+1:=⟨fuel-1,by omega⟩
   have:Q4 t (D,(i:Int)) (D,true,0)=some (.done (D,true)):=by
    unfold Q4
    simp only [hix,Option.bind_some,b9n,hb]
    rfl
   exact ⟨true,by simp only [y4,this,Option.bind_some],fun _=>rfl,fun _ h=>by cases h⟩
 | true =>
   have key:∀ (m a k:Nat) (A:Bool),a+m=x.Kids.length->m+1<=k ->
    ∃ A',y4 (Q4 t (D,(i:Int))) k (D,A,(a:Int))=some (D,A')/\((A=true/\∀ (q:Nat) (y:Int),a<=q->x.Kids[q]?=some y->D[y.toNat]?=some true)↔A'=true):=by
    intro m
    induction m with
    | zero =>
      intro a k A b1 b2
      obtain ⟨k,rfl⟩:∃ m,k=m+1:=⟨k-1,by omega⟩
      have e:a=x.Kids.length:=by omega
      subst e
      have:Q4 t (D,(i:Int)) (D,A,(x.Kids.length:Int))=some (.done (D,A)):=by
       unfold Q4
       simp only [hix,Option.bind_some,b9n,hb,cond_true]
       simp
      exact ⟨A,by simp only [y4,this,Option.bind_some],fun h=>h.1,fun h=>⟨h,fun q y h1 h2=>by have:=(List.getElem?_eq_some_iff.1 h2).1; omega⟩⟩
    | succ m ih =>
      intro a k A b1 b2
      obtain ⟨k,rfl⟩:∃ m,k=m+1:=⟨k-1,by omega⟩
      have ha:a<x.Kids.length:=by omega
      have hka:=List.getElem?_eq_getElem ha
      have hkm:=List.getElem_mem ha
      obtain ⟨j,hj,hj2⟩:=a1X (hkr _ hkm)
      have hDj:=List.getElem?_eq_getElem (show j<D.length by omega)
      obtain ⟨A',c1,c2⟩:=ih (a+1) k (bif A then D[j] else false) (by omega) (by omega)
      have:Q4 t (D,(i:Int)) (D,A,(a:Int))=some (.next (D,(bif A then D[j] else false),((a+1:Nat):Int))):=by
       unfold Q4
       simp only [hix,Option.bind_some,b9n,hb,cond_true,Q1 ha,k7 hka,hj,k7 hDj,Int.toNat_natCast,hDj,Y1]
       rw [w7 a (by omega)]
       cases A<;>rfl
      simp only [y4,this,Option.bind_some]
      refine ⟨A',c1,Iff.trans ⟨fun ⟨hA,hall⟩=>⟨?_,fun q y hq hy=>hall q y (by omega) hy⟩,fun ⟨hA,hall⟩=>?_⟩ c2⟩
      ·have hq:=hall a _ (Nat.le_refl _) hka
       rw [hj,Int.toNat_natCast,hDj] at hq
       subst hA
       simpa using hq
      ·cases A with
       | false=>cases hA
       | true =>
         refine ⟨rfl,fun q y hq hy=>?_⟩
         by_cases e:q=a
         ·subst e
          rw [hka] at hy
          cases hy
          rw [hj,Int.toNat_natCast,hDj]
          simpa using hA
         ·exact hall q y (by omega) hy
   obtain ⟨A,c1,c2⟩:=key x.Kids.length 0 fuel true (by omega) hf
   refine ⟨A,c1,Iff.trans ⟨fun h=>⟨rfl,fun q y _ hy=>h rfl y (List.mem_of_getElem? hy)⟩,fun h _ y hy=>?_⟩ c2⟩
   obtain ⟨q,hq,e⟩:=List.getElem_of_mem hy
   exact h.2 q y (Nat.zero_le _) (by rw [List.getElem?_eq_getElem hq,e])
def trD (D:List Bool)(j:Nat):Prop:=D[j]?=some true
theorem c6J (t:Api_Type)(hT:a3w t.Nodes=true)(hk:∀ x∈t.Nodes,x.Kids.length<=1100000)(hN:t.Nodes.length<=1100000)(fuel:Nat)(hf:1100001<=fuel)(r:Nat->Nat)(q:Nat) :
 ∀ (m a k:Nat) (D:List Bool),a+m=t.Nodes.length->m+1<=k->D.length=t.Nodes.length->Gd t.Nodes (trD D)->(Rk t.Nodes r->(∀ j,j<t.Nodes.length->r j<q->D[j]?=some true)/\∀ j,j<a->r j<q+1->D[j]?=some true) ->
  ∃ D',y4 (V9 t fuel) k (D,(a:Int))=some D'/\D'.length=t.Nodes.length/\Gd t.Nodes (trD D')/\(Rk t.Nodes r->∀ j,j<t.Nodes.length->r j<q+1->D'[j]?=some true):=by
 intro m
 induction m with
 | zero =>
   intro a k D b1 b2 b3 b4 b5
   obtain ⟨k,rfl⟩:∃ m,k=m+1:=⟨k-1,by omega⟩
   have e:a=t.Nodes.length:=by omega
   subst e
   have:V9 t fuel (D,(t.Nodes.length:Int))=some (.done D):=by
    unfold V9
    simp
   exact ⟨D,by simp only [y4,this,Option.bind_some],b3,b4,fun hr=>(b5 hr).2⟩
 | succ m ih =>
   intro a k D b1 b2 b3 b4 b5
   obtain ⟨k,rfl⟩:∃ m,k=m+1:=⟨k-1,by omega⟩
   have ha:a<t.Nodes.length:=by omega
   have hn:=List.getElem?_eq_getElem ha
   generalize hx:t.Nodes[a]=x at hn
   have hxm:x∈t.Nodes:=List.mem_of_getElem? hn
   have hkx:=hk x hxm
   obtain ⟨A,c1,c2⟩:=c7W t D a fuel x hn b3 hT hkx (by omega)
   have haD:a<D.length:=by omega
   have hDa:=List.getElem?_eq_getElem haD
   generalize D[a]=e at hDa
   have step:V9 t fuel (D,(a:Int))=some (.next (D.set a (e||A),((a+1:Nat):Int))):=by
    unfold V9
    simp only
    rw [Q1 ha,c1]
    simp only [cond_true,Option.bind_some,k7 hDa,Int.toNat_natCast,hDa,Y1]
    rw [w7 a (by omega)]
    cases e<;>rfl
   simp only [y4,step,Option.bind_some]
   have hset:∀ j,D[j]?=some true->(D.set a (e||A))[j]?=some true:=fun j hj=>by
    by_cases h:a=j
    ·subst h
     rw [List.getElem?_set_self haD]
     rw [hDa] at hj
     cases hj
     rfl
    ·rw [List.getElem?_set_ne h]; exact hj
   refine ih (a+1) k (D.set a (e||A)) (by omega) (by omega) (by simpa using b3) ?_ (fun hr=>⟨fun j hj h=>hset j ((b5 hr).1 j hj h),fun j hj h=>?_⟩)
   ·cases hA:A with
    | false =>
      have:D.set a (e||false)=D:=by
       apply List.ext_getElem?
       intro j
       by_cases h:a=j
       ·subst h; rw [List.getElem?_set_self haD,hDa,Bool.or_false]
       ·rw [List.getElem?_set_ne h]
      rw [this]; exact b4
    | true =>
      refine Gd.add b4 hn (fun hb k hk=>c2.2 hA hb k hk) fun j=>?_
      unfold trD
      by_cases h:a=j
      ·subst h; rw [List.getElem?_set_self haD]; simp
      ·rw [List.getElem?_set_ne h]; exact ⟨.inl,fun h1=>h1.resolve_right (Ne.symm h)⟩
   ·by_cases e1:j=a
    ·subst e1
     rw [List.getElem?_set_self haD]
     have hA:A=true:=c2.1 fun hb kk hkk=>by
      obtain ⟨i,rfl,hi⟩:=a1X (a3R (List.all_eq_true.1 hT x hxm) kk hkk)
      have:=hr j x hn hb _ hkk
      rw [Int.toNat_natCast] at this ⊢
      exact (b5 hr).1 i hi (by omega)
     rw [hA]
     simp
    ·exact hset j ((b5 hr).2 j (by omega) h)
theorem c79 (t:Api_Type)(hk:∀ x∈t.Nodes,x.Kids.length<=1100000/\x.Fields.length<=1100000)(hN:t.Nodes.length<=1100000)(fuel:Nat)(hf:1100001<=fuel):a2p fuel t=some (if inR t.Nodes.length t.Root&&a3w t.Nodes then (if a4m t.Nodes then 0 else 3) else 1):=by
 have l1:y4 (a1C t) (t.Nodes.length+1) 0=some (if t.Nodes.all (W7 t.Nodes.length)=true then .inl () else .inr 1):=by
  refine a2d t.Nodes (W7 t.Nodes.length) (fun i=>(i:Int)) () 1 ?_ ?_
  ·intro i x hx
   have hi:i<t.Nodes.length:=(List.getElem?_eq_some_iff.1 hx).1
   obtain ⟨hk1,hk2⟩:=hk x (List.mem_of_getElem? hx)
   unfold a1C
   rw [Q1 hi,k7 hx]
   simp only [cond_true,Option.bind_some,Y1]
   rw [c1a t x (by omega) (by omega),w7 i (by omega)]
   cases W7 t.Nodes.length x<;>rfl
  ·unfold a1C
   simp
 unfold a2p
 rw [a90,J3,l1]
 simp only [Option.bind_some]
 cases inR t.Nodes.length t.Root
 ·rfl
 show _=some (if a3w t.Nodes=true then (if a4m t.Nodes then (0:Int) else 3) else 1)
 cases hA:a3w t.Nodes with
 | false =>
   have hA':t.Nodes.all (W7 t.Nodes.length)=false:=hA
   rw [hA']
   rfl
 | true =>
   have hA':t.Nodes.all (W7 t.Nodes.length)=true:=hA
   rw [hA']
   simp only [Bool.not_true,cond_false,if_true,Option.bind_some,k9]
   have e0:a5g (t.Nodes.length:Int) (t.Nodes.length:Int) 1=some t.Nodes.length:=by
    unfold a5g
    have:(decide (0<=(t.Nodes.length:Int))&&decide ((t.Nodes.length:Int)<=(t.Nodes.length:Int))&&decide ((t.Nodes.length:Int)*((1:Nat):Int)<=140737488355328))=true:=by
     simp; omega
    rw [this]
    simp
   rw [e0]
   simp only [Option.bind_some]
   obtain ⟨r,hrr⟩:∃ r,a4m t.Nodes=true->Rk t.Nodes r/\∀ i,i<t.Nodes.length->r i<t.Nodes.length:=by
    cases hA2:a4m t.Nodes with
    | false=>exact ⟨fun _=>0,fun h=>by cases h⟩
    | true =>
      obtain ⟨r,h⟩:=(b0q.1 hA2).small hA
      exact ⟨r,fun _=>h⟩
   have key:∀ (m q k:Nat) (D:List Bool),q+m=t.Nodes.length->m+1<=k->D.length=t.Nodes.length->Gd t.Nodes (trD D)->(Rk t.Nodes r->∀ j,j<t.Nodes.length->r j<q->D[j]?=some true) ->
    ∃ D',y4 (V8 t fuel) k (D,(q:Int))=some D'/\D'.length=t.Nodes.length/\Gd t.Nodes (trD D')/\(Rk t.Nodes r->∀ j,j<t.Nodes.length->r j<t.Nodes.length->D'[j]?=some true):=by
    intro m
    induction m with
    | zero =>
      intro q k D b1 b2 b3 b4 b5
      obtain ⟨k,rfl⟩:∃ m,k=m+1:=⟨k-1,by omega⟩
      have e:q=t.Nodes.length:=by omega
      subst e
      have:V8 t fuel (D,(t.Nodes.length:Int))=some (.done D):=by
       unfold V8
       simp
      exact ⟨D,by simp only [y4,this,Option.bind_some],b3,b4,b5⟩
    | succ m ih =>
      intro q k D b1 b2 b3 b4 b5
      obtain ⟨k,rfl⟩:∃ m,k=m+1:=⟨k-1,by omega⟩
      obtain ⟨D',c1,c2,c3,c4⟩:=c6J t hA (fun x hx=>(hk x hx).1) hN fuel hf r q t.Nodes.length 0 (t.Nodes.length+1) D (by omega) (Nat.le_refl _) b3 b4 (fun hr=>⟨b5 hr,fun j hj=>by omega⟩)
      have c1':y4 (V9 t fuel) (t.Nodes.length+1) (D,0)=some D':=c1
      have step:V8 t fuel (D,(q:Int))=some (.next (D',((q+1:Nat):Int))):=by
       unfold V8
       simp only
       rw [Q1 (show q<t.Nodes.length by omega),J3,c1']
       simp only [cond_true,Option.bind_some,Y1]
       rw [w7 q (by omega)]
      simp only [y4,step,Option.bind_some]
      exact ih (q+1) k D' (by omega) (by omega) c2 c3 c4
   have hrep:∀ (j:Nat),(List.replicate t.Nodes.length false)[j]?≠some true:=fun j h=>by
    rw [List.getElem?_replicate] at h
    split at h<;>cases h
   obtain ⟨D,c1,c2,c3,c4⟩:=key t.Nodes.length 0 (t.Nodes.length+1) (List.replicate t.Nodes.length false) (by omega) (Nat.le_refl _) (by simp) ⟨fun _=>0,fun i x hi=>absurd hi (hrep i)⟩ (fun _ j hj h=>by omega)
   have c1':y4 (V8 t fuel) (t.Nodes.length+1) (List.replicate t.Nodes.length false,0)=some D:=c1
   rw [c1']
   simp only [Option.bind_some]
   have hall:D.all (fun b=>b)=a4m t.Nodes:=by
    rw [Bool.eq_iff_iff,List.all_eq_true]
    constructor
    ·intro h
     refine b0q.2 (c3.acy fun j hj=>?_)
     have hj':j<D.length:=by omega
     unfold trD
     rw [List.getElem?_eq_getElem hj',h _ (List.getElem_mem hj')]
    ·intro h b hb
     obtain ⟨j,hj,rfl⟩:=List.getElem_of_mem hb
     have:=c4 (hrr h).1 j (by omega) ((hrr h).2 j (by omega))
     rw [List.getElem?_eq_getElem hj] at this
     simpa using this
   have l5:=a2d (step:=a0K) D (fun b=>b) (fun i=>(D,(i:Int))) D ((3:Int),D) (fun i x hx=>by
    have hi:i<D.length:=(List.getElem?_eq_some_iff.1 hx).1
    unfold a0K
    simp only
    rw [Q1 hi,k7 hx]
    simp only [cond_true,Option.bind_some,Int.toNat_natCast,hx,Y1]
    rw [w7 i (by omega)]
    cases x<;>rfl) (by
    unfold a0K
    simp)
   rw [hall] at l5
   have l5':y4 a0K (D.length+1) (D,0)=some (if a4m t.Nodes=true then .inl D else .inr ((3:Int),D)):=l5
   rw [J3,l5']
   cases a4m t.Nodes<;>rfl
end Go.Pl
end

/- Part 3. -/
import Derived.Test.YthpckkffhbifnaaGreatDoorK2
import Derived.KernelRfl
import Derived.Lib.Bytealg
section
namespace Go.Qx
open Go Go.RowKit Go.Sx
set_option maxRecDepth 100000
structure Api_Ref where
 Name:ByteArray
 Arity:Int
structure Api_Field where
 Key_:Key
 Node:Int
 Optional:Bool
structure Api_TypeNode where
 Kind:Int
 Lo:Int
 Hi:Int
 Text:ByteArray
 Kids:List Int
 Fields:List Api_Field
 Rest:Int×Int
structure Api_Type where
 Nodes:List Api_TypeNode
 Root:Int
structure Api_Signature where
 Ref:Api_Ref
 Type_:Api_Type
structure Api_Interface where
 Module:ByteArray
 Checked:Bool
 Signatures:List Api_Signature
structure Semtypebase_Source where
 L:List Int
 At:Int
structure Summary_writer where
 b:List Int
structure Summary_reader where
 s:ByteArray
 at_:Int
 code:Int
structure Semtypeprog_Callee where
 Module:ByteArray
 Name:ByteArray
 Params:List Int
 Result:Int
structure Api_Arrow where
 Params:List Api_Type
 Result:Api_Type
structure Semtyperef18_token where
 Kind:Int
 Text:ByteArray
def a23 (x y:Api_Ref):Bool:=((j7 x.Name y.Name)&&((x.Arity==y.Arity)&&true))
def a3v (x y:Int×Int):Bool:=((x.1==y.1)&&((x.2==y.2)&&true))
def b4x (x y:Key):Bool:=((x.Kind==y.Kind)&&((j7 x.Text y.Text)&&true))
def a5S (x y:Api_Field):Bool:=(((x.Key_.Kind==y.Key_.Kind)&&((j7 x.Key_.Text y.Key_.Text)&&true))&&((x.Node==y.Node)&&((x.Optional==y.Optional)&&true)))
def y0 (s:Semtypebase_Source)(n_1:Int):Option (Int×Semtypebase_Source) :=
 Option.bind (bif decide (n_1<1)
 then (some true)
 else (some (decide ((s.L.length:Int)<=s.At)))) fun q1 =>
 bif q1
 then (some (0,s))
 else (Option.bind (idx s.L s.At) fun e2 =>
 Option.bind (b5N e2 n_1) fun d3 =>
 bif decide (d3<0)
 then (some (wr .i64 (d3+n_1),Semtypebase_Source.mk s.L (wr .i64 (s.At+1))))
 else (some (d3,Semtypebase_Source.mk s.L (wr .i64 (s.At+1)))))
def a0j (x6:Int×(ByteArray×ByteArray×(List Int)×Int)×Semtypebase_Source):Option (Fl (Int×(ByteArray×ByteArray×(List Int)×Int)×Semtypebase_Source) ((ByteArray×ByteArray×(List Int)×Int)×Semtypebase_Source)) :=
 bif decide (0<x6.1)
 then (Option.bind (y0 x6.2.2 8) fun r7 =>
 Option.bind (Y0 (x6.2.1.2.2.1.length+([r7.1]:List Int).length) 8) fun _ =>
 some (.next (wr .i64 (x6.1-1),(x6.2.1.1,x6.2.1.2.1,x6.2.1.2.2.1++([r7.1]:List Int),x6.2.1.2.2.2),r7.2)))
 else (some (.done ((x6.2.1.1,x6.2.1.2.1,x6.2.1.2.2.1,x6.2.1.2.2.2),x6.2.2)))
def J4 (module:ByteArray)(n_2:Int)(x1:(List Semtypeprog_Callee)×Int×(Semtypebase_Source×(List Semtypeprog_Callee)×Int×Bool×Int)):Option (Fl ((List Semtypeprog_Callee)×Int×(Semtypebase_Source×(List Semtypeprog_Callee)×Int×Bool×Int)) ((List Semtypeprog_Callee)×(Semtypebase_Source×(List Semtypeprog_Callee)×Int×Bool×Int))) :=
 bif decide (x1.2.1<n_2)
 then (Option.bind (idx ([(⟨#[102]⟩:ByteArray),(⟨#[103]⟩:ByteArray),(⟨#[104]⟩:ByteArray)]:List ByteArray) x1.2.1) fun _ =>
 Option.bind (([(⟨#[102]⟩:ByteArray),(⟨#[103]⟩:ByteArray),(⟨#[104]⟩:ByteArray)]:List ByteArray)[x1.2.1.toNat]?) fun e3 =>
 Option.bind (y0 x1.2.2.1 8) fun r4 =>
 Option.bind (y0 r4.2 3) fun r5 =>
 Option.bind (z8 a0j (r5.1.toNat+2) (r5.1,(module,e3,[],r4.1),r5.2)) fun b9 =>
 Option.bind (Y0 (x1.1.length+([Semtypeprog_Callee.mk b9.1.1 b9.1.2.1 b9.1.2.2.1 b9.1.2.2.2]:List Semtypeprog_Callee).length) 64) fun _ =>
 some (.next (x1.1++([Semtypeprog_Callee.mk b9.1.1 b9.1.2.1 b9.1.2.2.1 b9.1.2.2.2]:List Semtypeprog_Callee),wr .i64 (x1.2.1+1),(b9.2,x1.2.2.2.1,x1.2.2.2.2.1,x1.2.2.2.2.2.1,x1.2.2.2.2.2.2))))
 else (some (.done (x1.1,(x1.2.2.1,x1.2.2.2.1,x1.2.2.2.2.1,x1.2.2.2.2.2.1,x1.2.2.2.2.2.2))))
def a1J (m:Semtypebase_Source×(List Semtypeprog_Callee)×Int×Bool×Int)(module:ByteArray)(n_2:Int):Option ((List Semtypeprog_Callee)×(Semtypebase_Source×(List Semtypeprog_Callee)×Int×Bool×Int)) :=
 Option.bind (z8 (J4 module n_2) (n_2.toNat+1) ([],0,(m.1,m.2.1,m.2.2.1,m.2.2.2.1,m.2.2.2.2))) fun b11 =>
 some (b11.1,(b11.2.1,b11.2.2.1,b11.2.2.2.1,b11.2.2.2.2.1,b11.2.2.2.2.2))
def a0A (m:Semtypebase_Source×(List Semtypeprog_Callee)×Int×Bool×Int)(module:ByteArray)(n_2:Int):Option ((List Semtypeprog_Callee)×(Semtypebase_Source×(List Semtypeprog_Callee)×Int×Bool×Int)) :=
 Option.bind (a1J (m.1,m.2.1,m.2.2.1,m.2.2.2.1,m.2.2.2.2) module n_2) fun r1 =>
 some (r1.1,(r1.2.1,r1.2.2.1,r1.2.2.2.1,r1.2.2.2.2.1,r1.2.2.2.2.2))
def a4o (a:ByteArray)(b:ByteArray):Option Int :=
 bif a2m a b
 then (some (-1))
 else (bif !(a2m a b||j7 a b)
 then (some 1)
 else (some 0))
def a40 (a:Api_Ref)(b:Api_Ref):Option Bool :=
 Option.bind (a4o a.Name b.Name) fun r1 =>
 Option.bind (bif decide (r1<0)
 then (some true)
 else (Option.bind (bif r1==0
 then (some (decide (a.Arity<b.Arity)))
 else (some false)) fun q2 =>
 some q2)) fun q3 =>
 some q3
def b0L (l:List Api_Ref)(x:Api_Ref)(x1:(List Api_Ref)×Bool×Int):Option (Fl ((List Api_Ref)×Bool×Int) (Sum ((List Api_Ref)×Bool) (List Api_Ref))) :=
 bif decide (x1.2.2<(l.length:Int))
 then (Option.bind (idx l x1.2.2) fun e2 =>
 bif a23 e2 x
 then (some (.done (.inr l)))
 else (Option.bind (bif !x1.2.1
 then (Option.bind (a40 x e2) fun r3 =>
 some r3)
 else (some false)) fun q4 =>
 Option.bind (bif q4
 then (Option.bind (Y0 (x1.1.length+([x]:List Api_Ref).length) 24) fun _ =>
 some (x1.1++([x]:List Api_Ref),true))
 else (some (x1.1,x1.2.1))) fun b6 =>
 Option.bind (Y0 (b6.1.length+([e2]:List Api_Ref).length) 24) fun _ =>
 some (.next (b6.1++([e2]:List Api_Ref),b6.2,wr .i64 (x1.2.2+1)))))
 else (some (.done (.inl (x1.1,x1.2.1))))
def a5Q (l:List Api_Ref)(x:Api_Ref):Option (List Api_Ref) :=
 Option.bind (z8 (b0L l x) ((l.length:Int).toNat+1) ([],false,0)) fun b8 =>
 Q3 (fun x9 =>
 bif !x9.2
 then (Option.bind (Y0 (x9.1.length+([x]:List Api_Ref).length) 24) fun _ =>
 some (x9.1++([x]:List Api_Ref)))
 else (some x9.1)) (fun y10 =>
 some y10) b8
def a9y (l:List Api_Ref)(x1:(List Api_Ref)×Int):Option (Fl ((List Api_Ref)×Int) (List Api_Ref)) :=
 bif decide (x1.2<(l.length:Int))
 then (Option.bind (idx l x1.2) fun e2 =>
 Option.bind (a5Q x1.1 e2) fun r3 =>
 some (.next (r3,wr .i64 (x1.2+1))))
 else (some (.done x1.1))
def a0s (l:List Api_Ref):Option (List Api_Ref) :=
 Option.bind (z8 (a9y l) ((l.length:Int).toNat+1) (([]:List Api_Ref),0)) fun b4 =>
 some b4
def a5N (sort:Int):Option ByteArray :=
 Option.bind (idx ([(⟨#[105,110,116]⟩:ByteArray),(⟨#[58,116,114,117,101,32,111,114,32,58,102,97,108,115,101]⟩:ByteArray),(⟨#[97,116,111,109]⟩:ByteArray),(⟨#[108,105,115,116,40,105,110,116,41]⟩:ByteArray),(⟨#[123,97,116,111,109,44,32,105,110,116,125]⟩:ByteArray),(⟨#[40,105,110,116,41,32,45,62,32,105,110,116]⟩:ByteArray),(⟨#[37,123,97,58,32,105,110,116,44,32,97,116,111,109,32,61,62,32,97,110,121,44,32,115,116,114,105,110,103,32,61,62,32,97,110,121,125]⟩:ByteArray),(⟨#[97,110,121]⟩:ByteArray)]:List ByteArray) sort) fun _ =>
 Option.bind (([(⟨#[105,110,116]⟩:ByteArray),(⟨#[58,116,114,117,101,32,111,114,32,58,102,97,108,115,101]⟩:ByteArray),(⟨#[97,116,111,109]⟩:ByteArray),(⟨#[108,105,115,116,40,105,110,116,41]⟩:ByteArray),(⟨#[123,97,116,111,109,44,32,105,110,116,125]⟩:ByteArray),(⟨#[40,105,110,116,41,32,45,62,32,105,110,116]⟩:ByteArray),(⟨#[37,123,97,58,32,105,110,116,44,32,97,116,111,109,32,61,62,32,97,110,121,44,32,115,116,114,105,110,103,32,61,62,32,97,110,121,125]⟩:ByteArray),(⟨#[97,110,121]⟩:ByteArray)]:List ByteArray)[sort.toNat]?) fun e2 =>
 some e2
def a3f (c:Int):Option Bool :=
 Option.bind (bif decide (97<=c)
 then (some (decide (c<=122)))
 else (some false)) fun q1 =>
 Option.bind (bif q1
 then (some true)
 else (Option.bind (bif decide (65<=c)
 then (some (decide (c<=90)))
 else (some false)) fun q2 =>
 some q2)) fun q3 =>
 some q3
def a0e (c:Int):Option Bool :=
 Option.bind (bif decide (48<=c)
 then (some (decide (c<=57)))
 else (some false)) fun q1 =>
 some q1
def b2G (d:ByteArray)(x5:Int):Option (Fl Int Int) :=
 Option.bind (bif decide (x5<(d.size:Int))
 then (Option.bind (a1f d x5) fun e6 =>
 Option.bind (a3f (e6.toNat:Int)) fun r7 =>
 Option.bind (bif r7
 then (some true)
 else (Option.bind (a1f d x5) fun e8 =>
 Option.bind (a0e (e8.toNat:Int)) fun r9 =>
 some r9)) fun q10 =>
 Option.bind (bif q10
 then (some true)
 else (Option.bind (a1f d x5) fun e11 =>
 some ((e11.toNat:Int)==95))) fun q12 =>
 some q12)
 else (some false)) fun q13 =>
 bif q13
 then (some (.next (wr .i64 (x5+1))))
 else (some (.done x5))
def b2I (d:ByteArray)(x23:Int):Option (Fl Int Int) :=
 Option.bind (bif decide (x23<(d.size:Int))
 then (Option.bind (a1f d x23) fun e24 =>
 Option.bind (a0e (e24.toNat:Int)) fun r25 =>
 some r25)
 else (some false)) fun q26 =>
 bif q26
 then (some (.next (wr .i64 (x23+1))))
 else (some (.done x23))
def b1W (d:ByteArray)(x34:Int):Option (Fl Int Int) :=
 Option.bind (bif decide (x34<(d.size:Int))
 then (Option.bind (a1f d x34) fun e35 =>
 Option.bind (a0e (e35.toNat:Int)) fun r36 =>
 some r36)
 else (some false)) fun q37 =>
 bif q37
 then (some (.next (wr .i64 (x34+1))))
 else (some (.done x34))
def b2K (d:ByteArray)(x41:Int):Option (Fl Int Int) :=
 Option.bind (bif decide (x41<(d.size:Int))
 then (Option.bind (a1f d x41) fun e42 =>
 some ((e42.toNat:Int) != 34))
 else (some false)) fun q43 =>
 bif q43
 then (Option.bind (a1f d x41) fun e44 =>
 Option.bind (bif (e44.toNat:Int)==92
 then (some (wr .i64 (x41+1)))
 else (some x41)) fun b45 =>
 some (.next (wr .i64 (b45+1))))
 else (some (.done x41))
def b2h (d:ByteArray)(x1:(List Semtyperef18_token)×Int):Option (Fl ((List Semtyperef18_token)×Int) (Sum (List Semtyperef18_token) ((List Semtyperef18_token)×Bool))) :=
 bif decide (x1.2<(d.size:Int))
 then (Option.bind (a1f d x1.2) fun e2 =>
 Option.bind (bif (e2.toNat:Int)==32
 then (some true)
 else (some ((e2.toNat:Int)==10))) fun q3 =>
 bif q3
 then (some (.next (x1.1,wr .i64 (x1.2+1))))
 else (Option.bind (a3f (e2.toNat:Int)) fun r4 =>
 bif r4
 then (Option.bind (z8 (b2G d) ((d.size:Int).toNat+1) (wr .i64 (x1.2+1))) fun b14 =>
 Option.bind (a2v d x1.2 b14) fun t15 =>
 Option.bind (Y0 (x1.1.length+([Semtyperef18_token.mk 0 t15]:List Semtyperef18_token).length) 24) fun _ =>
 some (.next (x1.1++([Semtyperef18_token.mk 0 t15]:List Semtyperef18_token),b14)))
 else (Option.bind (a0e (e2.toNat:Int)) fun r17 =>
 Option.bind (bif r17
 then (some true)
 else (Option.bind (bif (e2.toNat:Int)==45
 then (some (decide ((wr .i64 (x1.2+1))<(d.size:Int))))
 else (some false)) fun q18 =>
 Option.bind (bif q18
 then (Option.bind (a1f d (wr .i64 (x1.2+1))) fun e19 =>
 Option.bind (a0e (e19.toNat:Int)) fun r20 =>
 some r20)
 else (some false)) fun q21 =>
 some q21)) fun q22 =>
 bif q22
 then (Option.bind (z8 (b2I d) ((d.size:Int).toNat+1) (wr .i64 (x1.2+1))) fun b27 =>
 Option.bind (a2v d x1.2 b27) fun t28 =>
 Option.bind (Y0 (x1.1.length+([Semtyperef18_token.mk 1 t28]:List Semtyperef18_token).length) 24) fun _ =>
 some (.next (x1.1++([Semtyperef18_token.mk 1 t28]:List Semtyperef18_token),b27)))
 else (Option.bind (bif (e2.toNat:Int)==36
 then (some (decide ((wr .i64 (x1.2+1))<(d.size:Int))))
 else (some false)) fun q30 =>
 Option.bind (bif q30
 then (Option.bind (a1f d (wr .i64 (x1.2+1))) fun e31 =>
 Option.bind (a0e (e31.toNat:Int)) fun r32 =>
 some r32)
 else (some false)) fun q33 =>
 bif q33
 then (Option.bind (z8 (b1W d) ((d.size:Int).toNat+1) (wr .i64 (x1.2+1))) fun b38 =>
 Option.bind (a2v d x1.2 b38) fun t39 =>
 Option.bind (Y0 (x1.1.length+([Semtyperef18_token.mk 3 t39]:List Semtyperef18_token).length) 24) fun _ =>
 some (.next (x1.1++([Semtyperef18_token.mk 3 t39]:List Semtyperef18_token),b38)))
 else (bif (e2.toNat:Int)==34
 then (Option.bind (z8 (b2K d) ((d.size:Int).toNat+1) (wr .i64 (x1.2+1))) fun b46 =>
 bif decide ((d.size:Int)<=b46)
 then (some (.done (.inr ([],false))))
 else (Option.bind (a2v d x1.2 (wr .i64 (b46+1))) fun _ =>
 none))
 else (Option.bind (bif decide ((wr .i64 (x1.2+1))<(d.size:Int))
 then (Option.bind (a2v d x1.2 (wr .i64 ((wr .i64 (x1.2+1))+1))) fun t48 =>
 Option.bind (bif j7 t48 (⟨#[46,46]⟩:ByteArray)
 then (some true)
 else (Option.bind (a2v d x1.2 (wr .i64 ((wr .i64 (x1.2+1))+1))) fun t49 =>
 some (j7 t49 (⟨#[45,62]⟩:ByteArray)))) fun q50 =>
 Option.bind (bif q50
 then (some true)
 else (Option.bind (a2v d x1.2 (wr .i64 ((wr .i64 (x1.2+1))+1))) fun t51 =>
 some (j7 t51 (⟨#[61,62]⟩:ByteArray)))) fun q52 =>
 Option.bind (bif q52
 then (some true)
 else (Option.bind (a2v d x1.2 (wr .i64 ((wr .i64 (x1.2+1))+1))) fun t53 =>
 some (j7 t53 (⟨#[37,123]⟩:ByteArray)))) fun q54 =>
 some q54)
 else (some false)) fun q55 =>
 bif q55
 then (Option.bind (a2v d x1.2 (wr .i64 ((wr .i64 (x1.2+1))+1))) fun t56 =>
 Option.bind (Y0 (x1.1.length+([Semtyperef18_token.mk 4 t56]:List Semtyperef18_token).length) 24) fun _ =>
 some (.next (x1.1++([Semtyperef18_token.mk 4 t56]:List Semtyperef18_token),wr .i64 ((wr .i64 (x1.2+1))+1))))
 else (Option.bind (bif (e2.toNat:Int)==123
 then (some true)
 else (some ((e2.toNat:Int)==125))) fun q58 =>
 Option.bind (bif q58
 then (some true)
 else (some ((e2.toNat:Int)==91))) fun q59 =>
 Option.bind (bif q59
 then (some true)
 else (some ((e2.toNat:Int)==93))) fun q60 =>
 Option.bind (bif q60
 then (some true)
 else (some ((e2.toNat:Int)==40))) fun q61 =>
 Option.bind (bif q61
 then (some true)
 else (some ((e2.toNat:Int)==41))) fun q62 =>
 Option.bind (bif q62
 then (some true)
 else (some ((e2.toNat:Int)==124))) fun q63 =>
 Option.bind (bif q63
 then (some true)
 else (some ((e2.toNat:Int)==44))) fun q64 =>
 Option.bind (bif q64
 then (some true)
 else (some ((e2.toNat:Int)==58))) fun q65 =>
 Option.bind (bif q65
 then (some true)
 else (some ((e2.toNat:Int)==63))) fun q66 =>
 Option.bind (bif q66
 then (some true)
 else (some ((e2.toNat:Int)==61))) fun q67 =>
 bif q67
 then (Option.bind (a2v d x1.2 (wr .i64 (x1.2+1))) fun t68 =>
 Option.bind (Y0 (x1.1.length+([Semtyperef18_token.mk 4 t68]:List Semtyperef18_token).length) 24) fun _ =>
 some (.next (x1.1++([Semtyperef18_token.mk 4 t68]:List Semtyperef18_token),wr .i64 (x1.2+1))))
 else (some (.done (.inr ([],false)))))))))))
 else (some (.done (.inl x1.1)))
def a7Q (d:ByteArray):Option ((List Semtyperef18_token)×Bool) :=
 Option.bind (z8 (b2h d) ((d.size:Int).toNat+1) ([],0)) fun b70 =>
 Q3 (fun x71 =>
 some (x71,true)) (fun y72 =>
 some (y72.1,y72.2)) b70
def K3 (p:(List Semtyperef18_token)×Int×Bool×Bool×Bool×Int×(List Api_TypeNode)×Int×(List ByteArray)×(List Int)×(List Bool)×(List ByteArray)):Option (Semtyperef18_token×((List Semtyperef18_token)×Int×Bool×Bool×Bool×Int×(List Api_TypeNode)×Int×(List ByteArray)×(List Int)×(List Bool)×(List ByteArray))) :=
 bif decide (p.2.1<(p.1.length:Int))
 then (Option.bind (idx p.1 p.2.1) fun e1 =>
 some (e1,(p.1,p.2.1,p.2.2.1,p.2.2.2.1,p.2.2.2.2.1,p.2.2.2.2.2.1,p.2.2.2.2.2.2.1,p.2.2.2.2.2.2.2.1,p.2.2.2.2.2.2.2.2.1,p.2.2.2.2.2.2.2.2.2.1,p.2.2.2.2.2.2.2.2.2.2.1,p.2.2.2.2.2.2.2.2.2.2.2)))
 else (some (Semtyperef18_token.mk 5 (⟨#[]⟩:ByteArray),(p.1,p.2.1,p.2.2.1,p.2.2.2.1,p.2.2.2.2.1,p.2.2.2.2.2.1,p.2.2.2.2.2.2.1,p.2.2.2.2.2.2.2.1,p.2.2.2.2.2.2.2.2.1,p.2.2.2.2.2.2.2.2.2.1,p.2.2.2.2.2.2.2.2.2.2.1,p.2.2.2.2.2.2.2.2.2.2.2)))
def a5Z (b3:Bool×((List Semtyperef18_token)×Int×Bool×Bool×Bool×Int×(List Api_TypeNode)×Int×(List ByteArray)×(List Int)×(List Bool)×(List ByteArray)))(x4:Int×Int):Option (Fl (Int×Int) (Sum Unit Bool)) :=
 bif decide (x4.2<(b3.2.1.length:Int))
 then (Option.bind (Option.bind (idx b3.2.1 x4.2) fun e5 =>
 bif e5.Kind != 4
 then (some (.inl x4.1))
 else (Option.bind (idx b3.2.1 x4.2) fun e6 =>
 Option.bind (bif j7 e6.Text (⟨#[40]⟩:ByteArray)
 then (some (j7 e6.Text (⟨#[40]⟩:ByteArray)))
 else (bif j7 e6.Text (⟨#[91]⟩:ByteArray)
 then (some (j7 e6.Text (⟨#[91]⟩:ByteArray)))
 else (bif j7 e6.Text (⟨#[123]⟩:ByteArray)
 then (some (j7 e6.Text (⟨#[123]⟩:ByteArray)))
 else (some (j7 e6.Text (⟨#[37,123]⟩:ByteArray)))))) fun b7 =>
 bif b7
 then (some (.inl (wr .i64 (x4.1+1))))
 else (Option.bind (bif j7 e6.Text (⟨#[41]⟩:ByteArray)
 then (some (j7 e6.Text (⟨#[41]⟩:ByteArray)))
 else (bif j7 e6.Text (⟨#[93]⟩:ByteArray)
 then (some (j7 e6.Text (⟨#[93]⟩:ByteArray)))
 else (some (j7 e6.Text (⟨#[125]⟩:ByteArray))))) fun b8 =>
 bif b8
 then (bif (wr .i64 (x4.1-1))==0
 then (Option.bind (bif decide ((wr .i64 (x4.2+1))<(b3.2.1.length:Int))
 then (Option.bind (idx b3.2.1 (wr .i64 (x4.2+1))) fun e9 =>
 some (e9.Kind==4))
 else (some false)) fun q10 =>
 Option.bind (bif q10
 then (Option.bind (idx b3.2.1 (wr .i64 (x4.2+1))) fun e11 =>
 some (j7 e11.Text (⟨#[45,62]⟩:ByteArray)))
 else (some false)) fun q12 =>
 some (.inr q12))
 else (some (.inl (wr .i64 (x4.1-1)))))
 else (some (.inl x4.1))))) fun b13 =>
 Q3 (fun x14 =>
 some (.next (x14,wr .i64 (x4.2+1)))) (fun y15 =>
 some (.done (.inr y15))) b13)
 else (some (.done (.inl ())))
def a3k (d:(List Semtyperef18_token)×Int×Bool×Bool×Bool×Int×(List Api_TypeNode)×Int×(List ByteArray)×(List Int)×(List Bool)×(List ByteArray)):Option (Bool×((List Semtyperef18_token)×Int×Bool×Bool×Bool×Int×(List Api_TypeNode)×Int×(List ByteArray)×(List Int)×(List Bool)×(List ByteArray))) :=
 Option.bind (bif d.2.2.1
 then (some (true,(d.1,d.2.1,d.2.2.1,d.2.2.2.1,d.2.2.2.2.1,d.2.2.2.2.2.1,d.2.2.2.2.2.2.1,d.2.2.2.2.2.2.2.1,d.2.2.2.2.2.2.2.2.1,d.2.2.2.2.2.2.2.2.2.1,d.2.2.2.2.2.2.2.2.2.2.1,d.2.2.2.2.2.2.2.2.2.2.2)))
 else (Option.bind (K3 (d.1,d.2.1,d.2.2.1,d.2.2.2.1,d.2.2.2.2.1,d.2.2.2.2.2.1,d.2.2.2.2.2.2.1,d.2.2.2.2.2.2.2.1,d.2.2.2.2.2.2.2.2.1,d.2.2.2.2.2.2.2.2.2.1,d.2.2.2.2.2.2.2.2.2.2.1,d.2.2.2.2.2.2.2.2.2.2.2)) fun r1 =>
 bif r1.1.Kind != 4
 then (some (true,(r1.2.1,r1.2.2.1,r1.2.2.2.1,r1.2.2.2.2.1,r1.2.2.2.2.2.1,r1.2.2.2.2.2.2.1,r1.2.2.2.2.2.2.2.1,r1.2.2.2.2.2.2.2.2.1,r1.2.2.2.2.2.2.2.2.2.1,r1.2.2.2.2.2.2.2.2.2.2.1,r1.2.2.2.2.2.2.2.2.2.2.2.1,r1.2.2.2.2.2.2.2.2.2.2.2.2)))
 else (Option.bind (K3 (r1.2.1,r1.2.2.1,r1.2.2.2.1,r1.2.2.2.2.1,r1.2.2.2.2.2.1,r1.2.2.2.2.2.2.1,r1.2.2.2.2.2.2.2.1,r1.2.2.2.2.2.2.2.2.1,r1.2.2.2.2.2.2.2.2.2.1,r1.2.2.2.2.2.2.2.2.2.2.1,r1.2.2.2.2.2.2.2.2.2.2.2.1,r1.2.2.2.2.2.2.2.2.2.2.2.2)) fun r2 =>
 some (!(j7 r2.1.Text (⟨#[40]⟩:ByteArray)),(r2.2.1,r2.2.2.1,r2.2.2.2.1,r2.2.2.2.2.1,r2.2.2.2.2.2.1,r2.2.2.2.2.2.2.1,r2.2.2.2.2.2.2.2.1,r2.2.2.2.2.2.2.2.2.1,r2.2.2.2.2.2.2.2.2.2.1,r2.2.2.2.2.2.2.2.2.2.2.1,r2.2.2.2.2.2.2.2.2.2.2.2.1,r2.2.2.2.2.2.2.2.2.2.2.2.2))))) fun b3 =>
 bif b3.1
 then (some (false,(b3.2.1,b3.2.2.1,b3.2.2.2.1,b3.2.2.2.2.1,b3.2.2.2.2.2.1,b3.2.2.2.2.2.2.1,b3.2.2.2.2.2.2.2.1,b3.2.2.2.2.2.2.2.2.1,b3.2.2.2.2.2.2.2.2.2.1,b3.2.2.2.2.2.2.2.2.2.2.1,b3.2.2.2.2.2.2.2.2.2.2.2.1,b3.2.2.2.2.2.2.2.2.2.2.2.2)))
 else (Option.bind (z8 (a5Z b3) ((b3.2.1.length:Int).toNat+1) (0,b3.2.2.1)) fun (b16:Sum Unit Bool) =>
 Q3 (fun _ =>
 some (false,(b3.2.1,b3.2.2.1,b3.2.2.2.1,b3.2.2.2.2.1,b3.2.2.2.2.2.1,b3.2.2.2.2.2.2.1,b3.2.2.2.2.2.2.2.1,b3.2.2.2.2.2.2.2.2.1,b3.2.2.2.2.2.2.2.2.2.1,b3.2.2.2.2.2.2.2.2.2.2.1,b3.2.2.2.2.2.2.2.2.2.2.2.1,b3.2.2.2.2.2.2.2.2.2.2.2.2))) (fun y18 =>
 some (y18,(b3.2.1,b3.2.2.1,b3.2.2.2.1,b3.2.2.2.2.1,b3.2.2.2.2.2.1,b3.2.2.2.2.2.2.1,b3.2.2.2.2.2.2.2.1,b3.2.2.2.2.2.2.2.2.1,b3.2.2.2.2.2.2.2.2.2.1,b3.2.2.2.2.2.2.2.2.2.2.1,b3.2.2.2.2.2.2.2.2.2.2.2.1,b3.2.2.2.2.2.2.2.2.2.2.2.2))) b16)
def Z3 (p:(List Semtyperef18_token)×Int×Bool×Bool×Bool×Int×(List Api_TypeNode)×Int×(List ByteArray)×(List Int)×(List Bool)×(List ByteArray))(kind:Int)(s:ByteArray):Option (Bool×((List Semtyperef18_token)×Int×Bool×Bool×Bool×Int×(List Api_TypeNode)×Int×(List ByteArray)×(List Int)×(List Bool)×(List ByteArray))) :=
 Option.bind (K3 (p.1,p.2.1,p.2.2.1,p.2.2.2.1,p.2.2.2.2.1,p.2.2.2.2.2.1,p.2.2.2.2.2.2.1,p.2.2.2.2.2.2.2.1,p.2.2.2.2.2.2.2.2.1,p.2.2.2.2.2.2.2.2.2.1,p.2.2.2.2.2.2.2.2.2.2.1,p.2.2.2.2.2.2.2.2.2.2.2)) fun r1 =>
 Option.bind (bif r1.2.2.2.1
 then (some true)
 else (some (r1.1.Kind != kind))) fun q2 =>
 Option.bind (bif q2
 then (some true)
 else (some (!(j7 r1.1.Text s)))) fun q3 =>
 bif q3
 then (some (false,(r1.2.1,r1.2.2.1,r1.2.2.2.1,r1.2.2.2.2.1,r1.2.2.2.2.2.1,r1.2.2.2.2.2.2.1,r1.2.2.2.2.2.2.2.1,r1.2.2.2.2.2.2.2.2.1,r1.2.2.2.2.2.2.2.2.2.1,r1.2.2.2.2.2.2.2.2.2.2.1,r1.2.2.2.2.2.2.2.2.2.2.2.1,r1.2.2.2.2.2.2.2.2.2.2.2.2)))
 else (some (true,(r1.2.1,wr .i64 (r1.2.2.1+1),r1.2.2.2.1,r1.2.2.2.2.1,r1.2.2.2.2.2.1,r1.2.2.2.2.2.2.1,r1.2.2.2.2.2.2.2.1,r1.2.2.2.2.2.2.2.2.1,r1.2.2.2.2.2.2.2.2.2.1,r1.2.2.2.2.2.2.2.2.2.2.1,r1.2.2.2.2.2.2.2.2.2.2.2.1,r1.2.2.2.2.2.2.2.2.2.2.2.2)))
def y2 (p:(List Semtyperef18_token)×Int×Bool×Bool×Bool×Int×(List Api_TypeNode)×Int×(List ByteArray)×(List Int)×(List Bool)×(List ByteArray))(n_1:Api_TypeNode):Option (Int×((List Semtyperef18_token)×Int×Bool×Bool×Bool×Int×(List Api_TypeNode)×Int×(List ByteArray)×(List Int)×(List Bool)×(List ByteArray))) :=
 Option.bind (Y0 (p.2.2.2.2.2.2.1.length+([n_1]:List Api_TypeNode).length) 104) fun _ =>
 some (wr .i64 (((p.2.2.2.2.2.2.1++([n_1]:List Api_TypeNode)).length:Int)-1),(p.1,p.2.1,p.2.2.1,p.2.2.2.1,p.2.2.2.2.1,p.2.2.2.2.2.1,p.2.2.2.2.2.2.1++([n_1]:List Api_TypeNode),p.2.2.2.2.2.2.2.1,p.2.2.2.2.2.2.2.2.1,p.2.2.2.2.2.2.2.2.2.1,p.2.2.2.2.2.2.2.2.2.2.1,p.2.2.2.2.2.2.2.2.2.2.2))
def Y6 (p:(List Semtyperef18_token)×Int×Bool×Bool×Bool×Int×(List Api_TypeNode)×Int×(List ByteArray)×(List Int)×(List Bool)×(List ByteArray))(s:ByteArray):Option ((List Semtyperef18_token)×Int×Bool×Bool×Bool×Int×(List Api_TypeNode)×Int×(List ByteArray)×(List Int)×(List Bool)×(List ByteArray)) :=
 Option.bind (Z3 (p.1,p.2.1,p.2.2.1,p.2.2.2.1,p.2.2.2.2.1,p.2.2.2.2.2.1,p.2.2.2.2.2.2.1,p.2.2.2.2.2.2.2.1,p.2.2.2.2.2.2.2.2.1,p.2.2.2.2.2.2.2.2.2.1,p.2.2.2.2.2.2.2.2.2.2.1,p.2.2.2.2.2.2.2.2.2.2.2) 4 s) fun r1 =>
 bif !r1.1
 then (some (r1.2.1,r1.2.2.1,true,r1.2.2.2.2.1,r1.2.2.2.2.2.1,r1.2.2.2.2.2.2.1,r1.2.2.2.2.2.2.2.1,r1.2.2.2.2.2.2.2.2.1,r1.2.2.2.2.2.2.2.2.2.1,r1.2.2.2.2.2.2.2.2.2.2.1,r1.2.2.2.2.2.2.2.2.2.2.2.1,r1.2.2.2.2.2.2.2.2.2.2.2.2))
 else (some (r1.2.1,r1.2.2.1,r1.2.2.2.1,r1.2.2.2.2.1,r1.2.2.2.2.2.1,r1.2.2.2.2.2.2.1,r1.2.2.2.2.2.2.2.1,r1.2.2.2.2.2.2.2.2.1,r1.2.2.2.2.2.2.2.2.2.1,r1.2.2.2.2.2.2.2.2.2.2.1,r1.2.2.2.2.2.2.2.2.2.2.2.1,r1.2.2.2.2.2.2.2.2.2.2.2.2))
def a34 (c:Int):Option Bool :=
 Option.bind (bif decide (97<=c)
 then (some (decide (c<=122)))
 else (some false)) fun q1 =>
 some q1
def a7P (c:Int):Option Bool :=
 Option.bind (bif decide (48<=c)
 then (some (decide (c<=57)))
 else (some false)) fun q1 =>
 some q1
def b02 (s:ByteArray)(x5:Int):Option (Fl Int (Sum Unit Bool)) :=
 bif decide (x5<(s.size:Int))
 then (Option.bind (a1f s x5) fun e6 =>
 Option.bind (a34 (e6.toNat:Int)) fun r7 =>
 Option.bind (bif !r7
 then (Option.bind (a1f s x5) fun e8 =>
 Option.bind (a7P (e8.toNat:Int)) fun r9 =>
 some (!r9))
 else (some false)) fun q10 =>
 Option.bind (bif q10
 then (Option.bind (a1f s x5) fun e11 =>
 some ((e11.toNat:Int) != 95))
 else (some false)) fun q12 =>
 bif q12
 then (some (.done (.inr false)))
 else (some (.next (wr .i64 (x5+1)))))
 else (some (.done (.inl ())))
def a2g (s:ByteArray):Option Bool :=
 Option.bind (bif decide ((s.size:Int)<1)
 then (some true)
 else (some (decide (16<(s.size:Int))))) fun q1 =>
 Option.bind (bif q1
 then (some true)
 else (Option.bind (a1f s 0) fun e2 =>
 Option.bind (a34 (e2.toNat:Int)) fun r3 =>
 some (!r3))) fun q4 =>
 bif q4
 then (some false)
 else (Option.bind (z8 (b02 s) ((s.size:Int).toNat+1) 1) fun b13 =>
 Q3 (fun _ =>
 some true) (fun y15 =>
 some y15) b13)
def a2X (k:Key):Option Bool :=
 Option.bind (bif k.Kind==0
 then (Option.bind (a2g k.Text) fun r1 =>
 some r1)
 else (some false)) fun q2 =>
 Option.bind (bif q2
 then (some true)
 else (Option.bind (bif k.Kind==1
 then (some (decide ((k.Text.size:Int)<=64)))
 else (some false)) fun q3 =>
 some q3)) fun q4 =>
 some q4
def a7O (a:Int)(b:Int):Option Int :=
 bif decide (a<b)
 then (some (-1))
 else (bif decide (b<a)
 then (some 1)
 else (some 0))
def a17 (a:Key)(b:Key):Option Int :=
 bif a.Kind != b.Kind
 then (Option.bind (a7O a.Kind b.Kind) fun r1 =>
 some r1)
 else (Option.bind (a4o a.Text b.Text) fun r2 =>
 some r2)
def a5V (l:List Api_Field)(f:Api_Field)(x1:Int):Option (Fl Int Int) :=
 Option.bind (bif decide (x1<(l.length:Int))
 then (Option.bind (idx l x1) fun e2 =>
 Option.bind (a17 e2.Key_ f.Key_) fun r3 =>
 some (decide (r3<0)))
 else (some false)) fun q4 =>
 bif q4
 then (some (.next (wr .i64 (x1+1))))
 else (some (.done x1))
def a3j (p:(List Semtyperef18_token)×Int×Bool×Bool×Bool×Int×(List Api_TypeNode)×Int×(List ByteArray)×(List Int)×(List Bool)×(List ByteArray))(l:List Api_Field)(f:Api_Field):Option ((List Api_Field)×((List Semtyperef18_token)×Int×Bool×Bool×Bool×Int×(List Api_TypeNode)×Int×(List ByteArray)×(List Int)×(List Bool)×(List ByteArray))) :=
 Option.bind (z8 (a5V l f) ((l.length:Int).toNat+1) 0) fun b5 =>
 Option.bind (bif decide (b5<(l.length:Int))
 then (Option.bind (idx l b5) fun e6 =>
 some (b4x e6.Key_ f.Key_))
 else (some false)) fun q7 =>
 Option.bind (bif q7
 then (some (p.1,p.2.1,p.2.2.1,true,p.2.2.2.2.1,p.2.2.2.2.2.1,p.2.2.2.2.2.2.1,p.2.2.2.2.2.2.2.1,p.2.2.2.2.2.2.2.2.1,p.2.2.2.2.2.2.2.2.2.1,p.2.2.2.2.2.2.2.2.2.2.1,p.2.2.2.2.2.2.2.2.2.2.2))
 else (some (p.1,p.2.1,p.2.2.1,p.2.2.2.1,p.2.2.2.2.1,p.2.2.2.2.2.1,p.2.2.2.2.2.2.1,p.2.2.2.2.2.2.2.1,p.2.2.2.2.2.2.2.2.1,p.2.2.2.2.2.2.2.2.2.1,p.2.2.2.2.2.2.2.2.2.2.1,p.2.2.2.2.2.2.2.2.2.2.2))) fun b8 =>
 Option.bind (cut l 0 b5) fun y9 =>
 Option.bind (Y0 (0+y9.length) 40) fun _ =>
 Option.bind (Y0 (y9.length+([f]:List Api_Field).length) 40) fun _ =>
 Option.bind (cut l b5 (l.length:Int)) fun y12 =>
 Option.bind (Y0 ((y9++([f]:List Api_Field)).length+y12.length) 40) fun _ =>
 some ((y9++([f]:List Api_Field))++y12,(b8.1,b8.2.1,b8.2.2.1,b8.2.2.2.1,b8.2.2.2.2.1,b8.2.2.2.2.2.1,b8.2.2.2.2.2.2.1,b8.2.2.2.2.2.2.2.1,b8.2.2.2.2.2.2.2.2.1,b8.2.2.2.2.2.2.2.2.2.1,b8.2.2.2.2.2.2.2.2.2.2.1,b8.2.2.2.2.2.2.2.2.2.2.2))
def a6K (rec_semtyperef18_typer_prefix:((List Semtyperef18_token)×Int×Bool×Bool×Bool×Int×(List Api_TypeNode)×Int×(List ByteArray)×(List Int)×(List Bool)×(List ByteArray))->Option (Int×((List Semtyperef18_token)×Int×Bool×Bool×Bool×Int×(List Api_TypeNode)×Int×(List ByteArray)×(List Int)×(List Bool)×(List ByteArray))))(x2:(List Int)×((List Semtyperef18_token)×Int×Bool×Bool×Bool×Int×(List Api_TypeNode)×Int×(List ByteArray)×(List Int)×(List Bool)×(List ByteArray))):Option (Fl ((List Int)×((List Semtyperef18_token)×Int×Bool×Bool×Bool×Int×(List Api_TypeNode)×Int×(List ByteArray)×(List Int)×(List Bool)×(List ByteArray))) ((List Int)×((List Semtyperef18_token)×Int×Bool×Bool×Bool×Int×(List Api_TypeNode)×Int×(List ByteArray)×(List Int)×(List Bool)×(List ByteArray)))) :=
 Option.bind (Z3 (x2.2.1,x2.2.2.1,x2.2.2.2.1,x2.2.2.2.2.1,x2.2.2.2.2.2.1,x2.2.2.2.2.2.2.1,x2.2.2.2.2.2.2.2.1,x2.2.2.2.2.2.2.2.2.1,x2.2.2.2.2.2.2.2.2.2.1,x2.2.2.2.2.2.2.2.2.2.2.1,x2.2.2.2.2.2.2.2.2.2.2.2.1,x2.2.2.2.2.2.2.2.2.2.2.2.2) 0 (⟨#[97,110,100]⟩:ByteArray)) fun r3 =>
 bif r3.1
 then (Option.bind (rec_semtyperef18_typer_prefix (r3.2.1,r3.2.2.1,r3.2.2.2.1,r3.2.2.2.2.1,r3.2.2.2.2.2.1,r3.2.2.2.2.2.2.1,r3.2.2.2.2.2.2.2.1,r3.2.2.2.2.2.2.2.2.1,r3.2.2.2.2.2.2.2.2.2.1,r3.2.2.2.2.2.2.2.2.2.2.1,r3.2.2.2.2.2.2.2.2.2.2.2.1,r3.2.2.2.2.2.2.2.2.2.2.2.2)) fun r4 =>
 Option.bind (Y0 (x2.1.length+([r4.1]:List Int).length) 8) fun _ =>
 some (.next (x2.1++([r4.1]:List Int),(r4.2.1,r4.2.2.1,r4.2.2.2.1,r4.2.2.2.2.1,r4.2.2.2.2.2.1,r4.2.2.2.2.2.2.1,r4.2.2.2.2.2.2.2.1,r4.2.2.2.2.2.2.2.2.1,r4.2.2.2.2.2.2.2.2.2.1,r4.2.2.2.2.2.2.2.2.2.2.1,r4.2.2.2.2.2.2.2.2.2.2.2.1,r4.2.2.2.2.2.2.2.2.2.2.2.2))))
 else (some (.done (x2.1,(r3.2.1,r3.2.2.1,r3.2.2.2.1,r3.2.2.2.2.1,r3.2.2.2.2.2.1,r3.2.2.2.2.2.2.1,r3.2.2.2.2.2.2.2.1,r3.2.2.2.2.2.2.2.2.1,r3.2.2.2.2.2.2.2.2.2.1,r3.2.2.2.2.2.2.2.2.2.2.1,r3.2.2.2.2.2.2.2.2.2.2.2.1,r3.2.2.2.2.2.2.2.2.2.2.2.2))))
def a5r (rec_semtyperef18_typer_read:((List Semtyperef18_token)×Int×Bool×Bool×Bool×Int×(List Api_TypeNode)×Int×(List ByteArray)×(List Int)×(List Bool)×(List ByteArray))->Option (Int×((List Semtyperef18_token)×Int×Bool×Bool×Bool×Int×(List Api_TypeNode)×Int×(List ByteArray)×(List Int)×(List Bool)×(List ByteArray))))(x2:Bool×((List Semtyperef18_token)×Int×Bool×Bool×Bool×Int×(List Api_TypeNode)×Int×(List ByteArray)×(List Int)×(List Bool)×(List ByteArray))×(Int×Int×Int×ByteArray×(List Int)×(List Api_Field)×Int×Int)×(Bool×Bool)):Option (Fl (Bool×((List Semtyperef18_token)×Int×Bool×Bool×Bool×Int×(List Api_TypeNode)×Int×(List ByteArray)×(List Int)×(List Bool)×(List ByteArray))×(Int×Int×Int×ByteArray×(List Int)×(List Api_Field)×Int×Int)×(Bool×Bool)) (Sum (((List Semtyperef18_token)×Int×Bool×Bool×Bool×Int×(List Api_TypeNode)×Int×(List ByteArray)×(List Int)×(List Bool)×(List ByteArray))×(Int×Int×Int×ByteArray×(List Int)×(List Api_Field)×Int×Int)×(Bool×Bool)) (Int×((List Semtyperef18_token)×Int×Bool×Bool×Bool×Int×(List Api_TypeNode)×Int×(List ByteArray)×(List Int)×(List Bool)×(List ByteArray))×(Int×Int×Int×ByteArray×(List Int)×(List Api_Field)×Int×Int)×(Bool×Bool)))) :=
 Option.bind (bif !x2.1
 then (some (!x2.2.1.2.2.1))
 else (some false)) fun q3 =>
 bif q3
 then (Option.bind (K3 (x2.2.1.1,x2.2.1.2.1,x2.2.1.2.2.1,x2.2.1.2.2.2.1,x2.2.1.2.2.2.2.1,x2.2.1.2.2.2.2.2.1,x2.2.1.2.2.2.2.2.2.1,x2.2.1.2.2.2.2.2.2.2.1,x2.2.1.2.2.2.2.2.2.2.2.1,x2.2.1.2.2.2.2.2.2.2.2.2.1,x2.2.1.2.2.2.2.2.2.2.2.2.2.1,x2.2.1.2.2.2.2.2.2.2.2.2.2.2)) fun r4 =>
 Option.bind (Option.bind (bif r4.1.Kind==0
 then (Option.bind (bif j7 r4.1.Text (⟨#[97,116,111,109]⟩:ByteArray)
 then (some true)
 else (some (j7 r4.1.Text (⟨#[115,116,114,105,110,103]⟩:ByteArray)))) fun q5 =>
 some q5)
 else (some false)) fun q6 =>
 bif q6
 then (Option.bind (Z3 (r4.2.1,wr .i64 (r4.2.2.1+1),r4.2.2.2.1,r4.2.2.2.2.1,r4.2.2.2.2.2.1,r4.2.2.2.2.2.2.1,r4.2.2.2.2.2.2.2.1,r4.2.2.2.2.2.2.2.2.1,r4.2.2.2.2.2.2.2.2.2.1,r4.2.2.2.2.2.2.2.2.2.2.1,r4.2.2.2.2.2.2.2.2.2.2.2.1,r4.2.2.2.2.2.2.2.2.2.2.2.2) 4 (⟨#[61,62]⟩:ByteArray)) fun r7 =>
 some (r7.1,(r7.2.1,r7.2.2.1,r7.2.2.2.1,r7.2.2.2.2.1,r7.2.2.2.2.2.1,r7.2.2.2.2.2.2.1,r7.2.2.2.2.2.2.2.1,r7.2.2.2.2.2.2.2.2.1,r7.2.2.2.2.2.2.2.2.2.1,r7.2.2.2.2.2.2.2.2.2.2.1,r7.2.2.2.2.2.2.2.2.2.2.2.1,r7.2.2.2.2.2.2.2.2.2.2.2.2)))
 else (some (false,(r4.2.1,wr .i64 (r4.2.2.1+1),r4.2.2.2.1,r4.2.2.2.2.1,r4.2.2.2.2.2.1,r4.2.2.2.2.2.2.1,r4.2.2.2.2.2.2.2.1,r4.2.2.2.2.2.2.2.2.1,r4.2.2.2.2.2.2.2.2.2.1,r4.2.2.2.2.2.2.2.2.2.2.1,r4.2.2.2.2.2.2.2.2.2.2.2.1,r4.2.2.2.2.2.2.2.2.2.2.2.2)))) fun b8 =>
 Option.bind (bif b8.1
 then (Option.bind (bif j7 r4.1.Text (⟨#[115,116,114,105,110,103]⟩:ByteArray)
 then (some 1)
 else (some 0)) fun (b9:Int) =>
 Option.bind (bif b8.2.2.2.2.1
 then (some true)
 else (bif b9==0
 then (some x2.2.2.2.1)
 else (bif b9==1
 then (some x2.2.2.2.2)
 else (none)))) fun q10 =>
 Option.bind (bif b9==0
 then (some (true,x2.2.2.2.2))
 else (bif b9==1
 then (some (x2.2.2.2.1,true))
 else (none))) fun b11 =>
 Option.bind (rec_semtyperef18_typer_read (b8.2.1,b8.2.2.1,b8.2.2.2.1,q10,b8.2.2.2.2.2.1,b8.2.2.2.2.2.2.1,b8.2.2.2.2.2.2.2.1,b8.2.2.2.2.2.2.2.2.1,b8.2.2.2.2.2.2.2.2.2.1,b8.2.2.2.2.2.2.2.2.2.2.1,b8.2.2.2.2.2.2.2.2.2.2.2.1,b8.2.2.2.2.2.2.2.2.2.2.2.2)) fun r12 =>
 bif b9==0
 then (some (.inl ((r12.2.1,r12.2.2.1,r12.2.2.2.1,r12.2.2.2.2.1,r12.2.2.2.2.2.1,r12.2.2.2.2.2.2.1,r12.2.2.2.2.2.2.2.1,r12.2.2.2.2.2.2.2.2.1,r12.2.2.2.2.2.2.2.2.2.1,r12.2.2.2.2.2.2.2.2.2.2.1,r12.2.2.2.2.2.2.2.2.2.2.2.1,r12.2.2.2.2.2.2.2.2.2.2.2.2),(x2.2.2.1.1,x2.2.2.1.2.1,x2.2.2.1.2.2.1,x2.2.2.1.2.2.2.1,x2.2.2.1.2.2.2.2.1,x2.2.2.1.2.2.2.2.2.1,r12.1,x2.2.2.1.2.2.2.2.2.2.2),b11)))
 else (bif b9==1
 then (some (.inl ((r12.2.1,r12.2.2.1,r12.2.2.2.1,r12.2.2.2.2.1,r12.2.2.2.2.2.1,r12.2.2.2.2.2.2.1,r12.2.2.2.2.2.2.2.1,r12.2.2.2.2.2.2.2.2.1,r12.2.2.2.2.2.2.2.2.2.1,r12.2.2.2.2.2.2.2.2.2.2.1,r12.2.2.2.2.2.2.2.2.2.2.2.1,r12.2.2.2.2.2.2.2.2.2.2.2.2),(x2.2.2.1.1,x2.2.2.1.2.1,x2.2.2.1.2.2.1,x2.2.2.1.2.2.2.1,x2.2.2.1.2.2.2.2.1,x2.2.2.1.2.2.2.2.2.1,x2.2.2.1.2.2.2.2.2.2.1,r12.1),b11)))
 else (none)))
 else (Option.bind (bif r4.1.Kind==2
 then (some (Key.mk 1 r4.1.Text))
 else (some (Key.mk 0 r4.1.Text))) fun b13 =>
 Option.bind (bif r4.1.Kind != 0
 then (some (r4.1.Kind != 2))
 else (some false)) fun q14 =>
 Option.bind (bif q14
 then (some true)
 else (Option.bind (a2X b13) fun r15 =>
 some (!r15))) fun q16 =>
 bif q16
 then (some (.inr (0,(b8.2.1,b8.2.2.1,true,b8.2.2.2.2.1,b8.2.2.2.2.2.1,b8.2.2.2.2.2.2.1,b8.2.2.2.2.2.2.2.1,b8.2.2.2.2.2.2.2.2.1,b8.2.2.2.2.2.2.2.2.2.1,b8.2.2.2.2.2.2.2.2.2.2.1,b8.2.2.2.2.2.2.2.2.2.2.2.1,b8.2.2.2.2.2.2.2.2.2.2.2.2),(x2.2.2.1.1,x2.2.2.1.2.1,x2.2.2.1.2.2.1,x2.2.2.1.2.2.2.1,x2.2.2.1.2.2.2.2.1,x2.2.2.1.2.2.2.2.2.1,x2.2.2.1.2.2.2.2.2.2.1,x2.2.2.1.2.2.2.2.2.2.2),x2.2.2.2)))
 else (Option.bind (Z3 (b8.2.1,b8.2.2.1,b8.2.2.2.1,b8.2.2.2.2.1,b8.2.2.2.2.2.1,b8.2.2.2.2.2.2.1,b8.2.2.2.2.2.2.2.1,b8.2.2.2.2.2.2.2.2.1,b8.2.2.2.2.2.2.2.2.2.1,b8.2.2.2.2.2.2.2.2.2.2.1,b8.2.2.2.2.2.2.2.2.2.2.2.1,b8.2.2.2.2.2.2.2.2.2.2.2.2) 4 (⟨#[63]⟩:ByteArray)) fun r17 =>
 Option.bind (Y6 (r17.2.1,r17.2.2.1,r17.2.2.2.1,r17.2.2.2.2.1,r17.2.2.2.2.2.1,r17.2.2.2.2.2.2.1,r17.2.2.2.2.2.2.2.1,r17.2.2.2.2.2.2.2.2.1,r17.2.2.2.2.2.2.2.2.2.1,r17.2.2.2.2.2.2.2.2.2.2.1,r17.2.2.2.2.2.2.2.2.2.2.2.1,r17.2.2.2.2.2.2.2.2.2.2.2.2) (⟨#[58]⟩:ByteArray)) fun r18 =>
 Option.bind (rec_semtyperef18_typer_read (r18.1,r18.2.1,r18.2.2.1,r18.2.2.2.1,r18.2.2.2.2.1,r18.2.2.2.2.2.1,r18.2.2.2.2.2.2.1,r18.2.2.2.2.2.2.2.1,r18.2.2.2.2.2.2.2.2.1,r18.2.2.2.2.2.2.2.2.2.1,r18.2.2.2.2.2.2.2.2.2.2.1,r18.2.2.2.2.2.2.2.2.2.2.2)) fun r19 =>
 Option.bind (a3j (r19.2.1,r19.2.2.1,r19.2.2.2.1,r19.2.2.2.2.1,r19.2.2.2.2.2.1,r19.2.2.2.2.2.2.1,r19.2.2.2.2.2.2.2.1,r19.2.2.2.2.2.2.2.2.1,r19.2.2.2.2.2.2.2.2.2.1,r19.2.2.2.2.2.2.2.2.2.2.1,r19.2.2.2.2.2.2.2.2.2.2.2.1,r19.2.2.2.2.2.2.2.2.2.2.2.2) x2.2.2.1.2.2.2.2.2.1 (Api_Field.mk b13 r19.1 r17.1)) fun r20 =>
 some (.inl ((r20.2.1,r20.2.2.1,r20.2.2.2.1,r20.2.2.2.2.1,r20.2.2.2.2.2.1,r20.2.2.2.2.2.2.1,r20.2.2.2.2.2.2.2.1,r20.2.2.2.2.2.2.2.2.1,r20.2.2.2.2.2.2.2.2.2.1,r20.2.2.2.2.2.2.2.2.2.2.1,r20.2.2.2.2.2.2.2.2.2.2.2.1,r20.2.2.2.2.2.2.2.2.2.2.2.2),(x2.2.2.1.1,x2.2.2.1.2.1,x2.2.2.1.2.2.1,x2.2.2.1.2.2.2.1,x2.2.2.1.2.2.2.2.1,r20.1,x2.2.2.1.2.2.2.2.2.2.1,x2.2.2.1.2.2.2.2.2.2.2),x2.2.2.2))))) fun (b21:Sum (((List Semtyperef18_token)×Int×Bool×Bool×Bool×Int×(List Api_TypeNode)×Int×(List ByteArray)×(List Int)×(List Bool)×(List ByteArray))×(Int×Int×Int×ByteArray×(List Int)×(List Api_Field)×Int×Int)×(Bool×Bool)) (Int×((List Semtyperef18_token)×Int×Bool×Bool×Bool×Int×(List Api_TypeNode)×Int×(List ByteArray)×(List Int)×(List Bool)×(List ByteArray))×(Int×Int×Int×ByteArray×(List Int)×(List Api_Field)×Int×Int)×(Bool×Bool))) =>
 Q3 (fun x22 =>
 Option.bind (Z3 (x22.1.1,x22.1.2.1,x22.1.2.2.1,x22.1.2.2.2.1,x22.1.2.2.2.2.1,x22.1.2.2.2.2.2.1,x22.1.2.2.2.2.2.2.1,x22.1.2.2.2.2.2.2.2.1,x22.1.2.2.2.2.2.2.2.2.1,x22.1.2.2.2.2.2.2.2.2.2.1,x22.1.2.2.2.2.2.2.2.2.2.2.1,x22.1.2.2.2.2.2.2.2.2.2.2.2) 4 (⟨#[125]⟩:ByteArray)) fun r24 =>
 bif !r24.1
 then (Option.bind (Y6 (r24.2.1,r24.2.2.1,r24.2.2.2.1,r24.2.2.2.2.1,r24.2.2.2.2.2.1,r24.2.2.2.2.2.2.1,r24.2.2.2.2.2.2.2.1,r24.2.2.2.2.2.2.2.2.1,r24.2.2.2.2.2.2.2.2.2.1,r24.2.2.2.2.2.2.2.2.2.2.1,r24.2.2.2.2.2.2.2.2.2.2.2.1,r24.2.2.2.2.2.2.2.2.2.2.2.2) (⟨#[44]⟩:ByteArray)) fun r25 =>
 some (.next (r24.1,(r25.1,r25.2.1,r25.2.2.1,r25.2.2.2.1,r25.2.2.2.2.1,r25.2.2.2.2.2.1,r25.2.2.2.2.2.2.1,r25.2.2.2.2.2.2.2.1,r25.2.2.2.2.2.2.2.2.1,r25.2.2.2.2.2.2.2.2.2.1,r25.2.2.2.2.2.2.2.2.2.2.1,r25.2.2.2.2.2.2.2.2.2.2.2),(x22.2.1.1,x22.2.1.2.1,x22.2.1.2.2.1,x22.2.1.2.2.2.1,x22.2.1.2.2.2.2.1,x22.2.1.2.2.2.2.2.1,x22.2.1.2.2.2.2.2.2.1,x22.2.1.2.2.2.2.2.2.2),x22.2.2)))
 else (some (.next (r24.1,(r24.2.1,r24.2.2.1,r24.2.2.2.1,r24.2.2.2.2.1,r24.2.2.2.2.2.1,r24.2.2.2.2.2.2.1,r24.2.2.2.2.2.2.2.1,r24.2.2.2.2.2.2.2.2.1,r24.2.2.2.2.2.2.2.2.2.1,r24.2.2.2.2.2.2.2.2.2.2.1,r24.2.2.2.2.2.2.2.2.2.2.2.1,r24.2.2.2.2.2.2.2.2.2.2.2.2),(x22.2.1.1,x22.2.1.2.1,x22.2.1.2.2.1,x22.2.1.2.2.2.1,x22.2.1.2.2.2.2.1,x22.2.1.2.2.2.2.2.1,x22.2.1.2.2.2.2.2.2.1,x22.2.1.2.2.2.2.2.2.2),x22.2.2)))) (fun y23 =>
 some (.done (.inr (y23.1,(y23.2.1.1,y23.2.1.2.1,y23.2.1.2.2.1,y23.2.1.2.2.2.1,y23.2.1.2.2.2.2.1,y23.2.1.2.2.2.2.2.1,y23.2.1.2.2.2.2.2.2.1,y23.2.1.2.2.2.2.2.2.2.1,y23.2.1.2.2.2.2.2.2.2.2.1,y23.2.1.2.2.2.2.2.2.2.2.2.1,y23.2.1.2.2.2.2.2.2.2.2.2.2.1,y23.2.1.2.2.2.2.2.2.2.2.2.2.2),(y23.2.2.1.1,y23.2.2.1.2.1,y23.2.2.1.2.2.1,y23.2.2.1.2.2.2.1,y23.2.2.1.2.2.2.2.1,y23.2.2.1.2.2.2.2.2.1,y23.2.2.1.2.2.2.2.2.2.1,y23.2.2.1.2.2.2.2.2.2.2),y23.2.2.2)))) b21)
 else (some (.done (.inl ((x2.2.1.1,x2.2.1.2.1,x2.2.1.2.2.1,x2.2.1.2.2.2.1,x2.2.1.2.2.2.2.1,x2.2.1.2.2.2.2.2.1,x2.2.1.2.2.2.2.2.2.1,x2.2.1.2.2.2.2.2.2.2.1,x2.2.1.2.2.2.2.2.2.2.2.1,x2.2.1.2.2.2.2.2.2.2.2.2.1,x2.2.1.2.2.2.2.2.2.2.2.2.2.1,x2.2.1.2.2.2.2.2.2.2.2.2.2.2),(x2.2.2.1.1,x2.2.2.1.2.1,x2.2.2.1.2.2.1,x2.2.2.1.2.2.2.1,x2.2.2.1.2.2.2.2.1,x2.2.2.1.2.2.2.2.2.1,x2.2.2.1.2.2.2.2.2.2.1,x2.2.2.1.2.2.2.2.2.2.2),x2.2.2.2))))
def a5B (x27:((List Semtyperef18_token)×Int×Bool×Bool×Bool×Int×(List Api_TypeNode)×Int×(List ByteArray)×(List Int)×(List Bool)×(List ByteArray))×(Int×Int×Int×ByteArray×(List Int)×(List Api_Field)×Int×Int)×(Bool×Bool))(x30:Int×((List Semtyperef18_token)×Int×Bool×Bool×Bool×Int×(List Api_TypeNode)×Int×(List ByteArray)×(List Int)×(List Bool)×(List ByteArray))×(Int×Int×Int×ByteArray×(List Int)×(List Api_Field)×Int×Int)):Option (Fl (Int×((List Semtyperef18_token)×Int×Bool×Bool×Bool×Int×(List Api_TypeNode)×Int×(List ByteArray)×(List Int)×(List Bool)×(List ByteArray))×(Int×Int×Int×ByteArray×(List Int)×(List Api_Field)×Int×Int)) (((List Semtyperef18_token)×Int×Bool×Bool×Bool×Int×(List Api_TypeNode)×Int×(List ByteArray)×(List Int)×(List Bool)×(List ByteArray))×(Int×Int×Int×ByteArray×(List Int)×(List Api_Field)×Int×Int))) :=
 bif decide (x30.1<2)
 then (Option.bind (Option.bind (bif x30.1==0
 then (some (!x27.2.2.1))
 else (bif x30.1==1
 then (some (!x27.2.2.2))
 else (none))) fun b31 =>
 bif b31
 then (Option.bind (y2 (x30.2.1.1,x30.2.1.2.1,x30.2.1.2.2.1,x30.2.1.2.2.2.1,x30.2.1.2.2.2.2.1,x30.2.1.2.2.2.2.2.1,x30.2.1.2.2.2.2.2.2.1,x30.2.1.2.2.2.2.2.2.2.1,x30.2.1.2.2.2.2.2.2.2.2.1,x30.2.1.2.2.2.2.2.2.2.2.2.1,x30.2.1.2.2.2.2.2.2.2.2.2.2.1,x30.2.1.2.2.2.2.2.2.2.2.2.2.2) (Api_TypeNode.mk 1 0 0 (⟨#[]⟩:ByteArray) ([]:List Int) ([]:List Api_Field) (0,0))) fun r32 =>
 bif x30.1==0
 then (some ((r32.2.1,r32.2.2.1,r32.2.2.2.1,r32.2.2.2.2.1,r32.2.2.2.2.2.1,r32.2.2.2.2.2.2.1,r32.2.2.2.2.2.2.2.1,r32.2.2.2.2.2.2.2.2.1,r32.2.2.2.2.2.2.2.2.2.1,r32.2.2.2.2.2.2.2.2.2.2.1,r32.2.2.2.2.2.2.2.2.2.2.2.1,r32.2.2.2.2.2.2.2.2.2.2.2.2),(x30.2.2.1,x30.2.2.2.1,x30.2.2.2.2.1,x30.2.2.2.2.2.1,x30.2.2.2.2.2.2.1,x30.2.2.2.2.2.2.2.1,r32.1,x30.2.2.2.2.2.2.2.2.2)))
 else (bif x30.1==1
 then (some ((r32.2.1,r32.2.2.1,r32.2.2.2.1,r32.2.2.2.2.1,r32.2.2.2.2.2.1,r32.2.2.2.2.2.2.1,r32.2.2.2.2.2.2.2.1,r32.2.2.2.2.2.2.2.2.1,r32.2.2.2.2.2.2.2.2.2.1,r32.2.2.2.2.2.2.2.2.2.2.1,r32.2.2.2.2.2.2.2.2.2.2.2.1,r32.2.2.2.2.2.2.2.2.2.2.2.2),(x30.2.2.1,x30.2.2.2.1,x30.2.2.2.2.1,x30.2.2.2.2.2.1,x30.2.2.2.2.2.2.1,x30.2.2.2.2.2.2.2.1,x30.2.2.2.2.2.2.2.2.1,r32.1)))
 else (none)))
 else (some ((x30.2.1.1,x30.2.1.2.1,x30.2.1.2.2.1,x30.2.1.2.2.2.1,x30.2.1.2.2.2.2.1,x30.2.1.2.2.2.2.2.1,x30.2.1.2.2.2.2.2.2.1,x30.2.1.2.2.2.2.2.2.2.1,x30.2.1.2.2.2.2.2.2.2.2.1,x30.2.1.2.2.2.2.2.2.2.2.2.1,x30.2.1.2.2.2.2.2.2.2.2.2.2.1,x30.2.1.2.2.2.2.2.2.2.2.2.2.2),(x30.2.2.1,x30.2.2.2.1,x30.2.2.2.2.1,x30.2.2.2.2.2.1,x30.2.2.2.2.2.2.1,x30.2.2.2.2.2.2.2.1,x30.2.2.2.2.2.2.2.2.1,x30.2.2.2.2.2.2.2.2.2)))) fun b33 =>
 some (.next (wr .i64 (x30.1+1),(b33.1.1,b33.1.2.1,b33.1.2.2.1,b33.1.2.2.2.1,b33.1.2.2.2.2.1,b33.1.2.2.2.2.2.1,b33.1.2.2.2.2.2.2.1,b33.1.2.2.2.2.2.2.2.1,b33.1.2.2.2.2.2.2.2.2.1,b33.1.2.2.2.2.2.2.2.2.2.1,b33.1.2.2.2.2.2.2.2.2.2.2.1,b33.1.2.2.2.2.2.2.2.2.2.2.2),(b33.2.1,b33.2.2.1,b33.2.2.2.1,b33.2.2.2.2.1,b33.2.2.2.2.2.1,b33.2.2.2.2.2.2.1,b33.2.2.2.2.2.2.2.1,b33.2.2.2.2.2.2.2.2))))
 else (some (.done ((x30.2.1.1,x30.2.1.2.1,x30.2.1.2.2.1,x30.2.1.2.2.2.1,x30.2.1.2.2.2.2.1,x30.2.1.2.2.2.2.2.1,x30.2.1.2.2.2.2.2.2.1,x30.2.1.2.2.2.2.2.2.2.1,x30.2.1.2.2.2.2.2.2.2.2.1,x30.2.1.2.2.2.2.2.2.2.2.2.1,x30.2.1.2.2.2.2.2.2.2.2.2.2.1,x30.2.1.2.2.2.2.2.2.2.2.2.2.2),(x30.2.2.1,x30.2.2.2.1,x30.2.2.2.2.1,x30.2.2.2.2.2.1,x30.2.2.2.2.2.2.1,x30.2.2.2.2.2.2.2.1,x30.2.2.2.2.2.2.2.2.1,x30.2.2.2.2.2.2.2.2.2))))
def a65 (stop:ByteArray)(rec_semtyperef18_typer_read:((List Semtyperef18_token)×Int×Bool×Bool×Bool×Int×(List Api_TypeNode)×Int×(List ByteArray)×(List Int)×(List Bool)×(List ByteArray))->Option (Int×((List Semtyperef18_token)×Int×Bool×Bool×Bool×Int×(List Api_TypeNode)×Int×(List ByteArray)×(List Int)×(List Bool)×(List ByteArray))))(x2:(List Int)×((List Semtyperef18_token)×Int×Bool×Bool×Bool×Int×(List Api_TypeNode)×Int×(List ByteArray)×(List Int)×(List Bool)×(List ByteArray))):Option (Fl ((List Int)×((List Semtyperef18_token)×Int×Bool×Bool×Bool×Int×(List Api_TypeNode)×Int×(List ByteArray)×(List Int)×(List Bool)×(List ByteArray))) (Sum ((List Semtyperef18_token)×Int×Bool×Bool×Bool×Int×(List Api_TypeNode)×Int×(List ByteArray)×(List Int)×(List Bool)×(List ByteArray)) ((List Int)×((List Semtyperef18_token)×Int×Bool×Bool×Bool×Int×(List Api_TypeNode)×Int×(List ByteArray)×(List Int)×(List Bool)×(List ByteArray))))) :=
 bif !x2.2.2.2.1
 then (Option.bind (rec_semtyperef18_typer_read (x2.2.1,x2.2.2.1,x2.2.2.2.1,x2.2.2.2.2.1,x2.2.2.2.2.2.1,x2.2.2.2.2.2.2.1,x2.2.2.2.2.2.2.2.1,x2.2.2.2.2.2.2.2.2.1,x2.2.2.2.2.2.2.2.2.2.1,x2.2.2.2.2.2.2.2.2.2.2.1,x2.2.2.2.2.2.2.2.2.2.2.2.1,x2.2.2.2.2.2.2.2.2.2.2.2.2)) fun r3 =>
 Option.bind (Y0 (x2.1.length+([r3.1]:List Int).length) 8) fun _ =>
 Option.bind (Z3 (r3.2.1,r3.2.2.1,r3.2.2.2.1,r3.2.2.2.2.1,r3.2.2.2.2.2.1,r3.2.2.2.2.2.2.1,r3.2.2.2.2.2.2.2.1,r3.2.2.2.2.2.2.2.2.1,r3.2.2.2.2.2.2.2.2.2.1,r3.2.2.2.2.2.2.2.2.2.2.1,r3.2.2.2.2.2.2.2.2.2.2.2.1,r3.2.2.2.2.2.2.2.2.2.2.2.2) 4 stop) fun r5 =>
 bif r5.1
 then (some (.done (.inr (x2.1++([r3.1]:List Int),(r5.2.1,r5.2.2.1,r5.2.2.2.1,r5.2.2.2.2.1,r5.2.2.2.2.2.1,r5.2.2.2.2.2.2.1,r5.2.2.2.2.2.2.2.1,r5.2.2.2.2.2.2.2.2.1,r5.2.2.2.2.2.2.2.2.2.1,r5.2.2.2.2.2.2.2.2.2.2.1,r5.2.2.2.2.2.2.2.2.2.2.2.1,r5.2.2.2.2.2.2.2.2.2.2.2.2)))))
 else (Option.bind (Y6 (r5.2.1,r5.2.2.1,r5.2.2.2.1,r5.2.2.2.2.1,r5.2.2.2.2.2.1,r5.2.2.2.2.2.2.1,r5.2.2.2.2.2.2.2.1,r5.2.2.2.2.2.2.2.2.1,r5.2.2.2.2.2.2.2.2.2.1,r5.2.2.2.2.2.2.2.2.2.2.1,r5.2.2.2.2.2.2.2.2.2.2.2.1,r5.2.2.2.2.2.2.2.2.2.2.2.2) (⟨#[44]⟩:ByteArray)) fun r6 =>
 some (.next (x2.1++([r3.1]:List Int),(r6.1,r6.2.1,r6.2.2.1,r6.2.2.2.1,r6.2.2.2.2.1,r6.2.2.2.2.2.1,r6.2.2.2.2.2.2.1,r6.2.2.2.2.2.2.2.1,r6.2.2.2.2.2.2.2.2.1,r6.2.2.2.2.2.2.2.2.2.1,r6.2.2.2.2.2.2.2.2.2.2.1,r6.2.2.2.2.2.2.2.2.2.2.2)))))
 else (some (.done (.inl (x2.2.1,x2.2.2.1,x2.2.2.2.1,x2.2.2.2.2.1,x2.2.2.2.2.2.1,x2.2.2.2.2.2.2.1,x2.2.2.2.2.2.2.2.1,x2.2.2.2.2.2.2.2.2.1,x2.2.2.2.2.2.2.2.2.2.1,x2.2.2.2.2.2.2.2.2.2.2.1,x2.2.2.2.2.2.2.2.2.2.2.2.1,x2.2.2.2.2.2.2.2.2.2.2.2.2))))
def a7b (rec_semtyperef18_typer_inter:((List Semtyperef18_token)×Int×Bool×Bool×Bool×Int×(List Api_TypeNode)×Int×(List ByteArray)×(List Int)×(List Bool)×(List ByteArray))->Option (Int×((List Semtyperef18_token)×Int×Bool×Bool×Bool×Int×(List Api_TypeNode)×Int×(List ByteArray)×(List Int)×(List Bool)×(List ByteArray))))(x2:(List Int)×((List Semtyperef18_token)×Int×Bool×Bool×Bool×Int×(List Api_TypeNode)×Int×(List ByteArray)×(List Int)×(List Bool)×(List ByteArray))):Option (Fl ((List Int)×((List Semtyperef18_token)×Int×Bool×Bool×Bool×Int×(List Api_TypeNode)×Int×(List ByteArray)×(List Int)×(List Bool)×(List ByteArray))) ((List Int)×((List Semtyperef18_token)×Int×Bool×Bool×Bool×Int×(List Api_TypeNode)×Int×(List ByteArray)×(List Int)×(List Bool)×(List ByteArray)))) :=
 Option.bind (Z3 (x2.2.1,x2.2.2.1,x2.2.2.2.1,x2.2.2.2.2.1,x2.2.2.2.2.2.1,x2.2.2.2.2.2.2.1,x2.2.2.2.2.2.2.2.1,x2.2.2.2.2.2.2.2.2.1,x2.2.2.2.2.2.2.2.2.2.1,x2.2.2.2.2.2.2.2.2.2.2.1,x2.2.2.2.2.2.2.2.2.2.2.2.1,x2.2.2.2.2.2.2.2.2.2.2.2.2) 0 (⟨#[111,114]⟩:ByteArray)) fun r3 =>
 bif r3.1
 then (Option.bind (rec_semtyperef18_typer_inter (r3.2.1,r3.2.2.1,r3.2.2.2.1,r3.2.2.2.2.1,r3.2.2.2.2.2.1,r3.2.2.2.2.2.2.1,r3.2.2.2.2.2.2.2.1,r3.2.2.2.2.2.2.2.2.1,r3.2.2.2.2.2.2.2.2.2.1,r3.2.2.2.2.2.2.2.2.2.2.1,r3.2.2.2.2.2.2.2.2.2.2.2.1,r3.2.2.2.2.2.2.2.2.2.2.2.2)) fun r4 =>
 Option.bind (Y0 (x2.1.length+([r4.1]:List Int).length) 8) fun _ =>
 some (.next (x2.1++([r4.1]:List Int),(r4.2.1,r4.2.2.1,r4.2.2.2.1,r4.2.2.2.2.1,r4.2.2.2.2.2.1,r4.2.2.2.2.2.2.1,r4.2.2.2.2.2.2.2.1,r4.2.2.2.2.2.2.2.2.1,r4.2.2.2.2.2.2.2.2.2.1,r4.2.2.2.2.2.2.2.2.2.2.1,r4.2.2.2.2.2.2.2.2.2.2.2.1,r4.2.2.2.2.2.2.2.2.2.2.2.2))))
 else (some (.done (x2.1,(r3.2.1,r3.2.2.1,r3.2.2.2.1,r3.2.2.2.2.1,r3.2.2.2.2.2.1,r3.2.2.2.2.2.2.1,r3.2.2.2.2.2.2.2.1,r3.2.2.2.2.2.2.2.2.1,r3.2.2.2.2.2.2.2.2.2.1,r3.2.2.2.2.2.2.2.2.2.2.1,r3.2.2.2.2.2.2.2.2.2.2.2.1,r3.2.2.2.2.2.2.2.2.2.2.2.2))))
def a5u (_:Nat)(_:((List Semtyperef18_token)×Int×Bool×Bool×Bool×Int×(List Api_TypeNode)×Int×(List ByteArray)×(List Int)×(List Bool)×(List ByteArray))->ByteArray->Option (Int×((List Semtyperef18_token)×Int×Bool×Bool×Bool×Int×(List Api_TypeNode)×Int×(List ByteArray)×(List Int)×(List Bool)×(List ByteArray))))(_:((List Semtyperef18_token)×Int×Bool×Bool×Bool×Int×(List Api_TypeNode)×Int×(List ByteArray)×(List Int)×(List Bool)×(List ByteArray))->Option (Int×((List Semtyperef18_token)×Int×Bool×Bool×Bool×Int×(List Api_TypeNode)×Int×(List ByteArray)×(List Int)×(List Bool)×(List ByteArray))))(rec_semtyperef18_typer_mapping:((List Semtyperef18_token)×Int×Bool×Bool×Bool×Int×(List Api_TypeNode)×Int×(List ByteArray)×(List Int)×(List Bool)×(List ByteArray))->Option (Int×((List Semtyperef18_token)×Int×Bool×Bool×Bool×Int×(List Api_TypeNode)×Int×(List ByteArray)×(List Int)×(List Bool)×(List ByteArray))))(_:((List Semtyperef18_token)×Int×Bool×Bool×Bool×Int×(List Api_TypeNode)×Int×(List ByteArray)×(List Int)×(List Bool)×(List ByteArray))->Option (Int×((List Semtyperef18_token)×Int×Bool×Bool×Bool×Int×(List Api_TypeNode)×Int×(List ByteArray)×(List Int)×(List Bool)×(List ByteArray))))(rec_semtyperef18_typer_read:((List Semtyperef18_token)×Int×Bool×Bool×Bool×Int×(List Api_TypeNode)×Int×(List ByteArray)×(List Int)×(List Bool)×(List ByteArray))->Option (Int×((List Semtyperef18_token)×Int×Bool×Bool×Bool×Int×(List Api_TypeNode)×Int×(List ByteArray)×(List Int)×(List Bool)×(List ByteArray))))(_:((List Semtyperef18_token)×Int×Bool×Bool×Bool×Int×(List Api_TypeNode)×Int×(List ByteArray)×(List Int)×(List Bool)×(List ByteArray))->Option (Int×((List Semtyperef18_token)×Int×Bool×Bool×Bool×Int×(List Api_TypeNode)×Int×(List ByteArray)×(List Int)×(List Bool)×(List ByteArray))))(rec_semtyperef18_typer_types:((List Semtyperef18_token)×Int×Bool×Bool×Bool×Int×(List Api_TypeNode)×Int×(List ByteArray)×(List Int)×(List Bool)×(List ByteArray))->ByteArray->Option ((List Int)×((List Semtyperef18_token)×Int×Bool×Bool×Bool×Int×(List Api_TypeNode)×Int×(List ByteArray)×(List Int)×(List Bool)×(List ByteArray))))(_:((List Semtyperef18_token)×Int×Bool×Bool×Bool×Int×(List Api_TypeNode)×Int×(List ByteArray)×(List Int)×(List Bool)×(List ByteArray))->Option (Int×((List Semtyperef18_token)×Int×Bool×Bool×Bool×Int×(List Api_TypeNode)×Int×(List ByteArray)×(List Int)×(List Bool)×(List ByteArray))))(_:((List Semtyperef18_token)×Int×Bool×Bool×Bool×Int×(List Api_TypeNode)×Int×(List ByteArray)×(List Int)×(List Bool)×(List ByteArray))->ByteArray->Option (Int×((List Semtyperef18_token)×Int×Bool×Bool×Bool×Int×(List Api_TypeNode)×Int×(List ByteArray)×(List Int)×(List Bool)×(List ByteArray))))(d:(List Semtyperef18_token)×Int×Bool×Bool×Bool×Int×(List Api_TypeNode)×Int×(List ByteArray)×(List Int)×(List Bool)×(List ByteArray))(t:ByteArray):Option (Int×((List Semtyperef18_token)×Int×Bool×Bool×Bool×Int×(List Api_TypeNode)×Int×(List ByteArray)×(List Int)×(List Bool)×(List ByteArray))) :=
 bif j7 t (⟨#[58]⟩:ByteArray)
 then (Option.bind (K3 (d.1,d.2.1,d.2.2.1,d.2.2.2.1,d.2.2.2.2.1,d.2.2.2.2.2.1,d.2.2.2.2.2.2.1,d.2.2.2.2.2.2.2.1,d.2.2.2.2.2.2.2.2.1,d.2.2.2.2.2.2.2.2.2.1,d.2.2.2.2.2.2.2.2.2.2.1,d.2.2.2.2.2.2.2.2.2.2.2)) fun r1 =>
 Option.bind (bif r1.1.Kind != 0
 then (some true)
 else (Option.bind (a2g r1.1.Text) fun r2 =>
 some (!r2))) fun q3 =>
 bif q3
 then (some (0,(r1.2.1,wr .i64 (r1.2.2.1+1),true,r1.2.2.2.2.1,r1.2.2.2.2.2.1,r1.2.2.2.2.2.2.1,r1.2.2.2.2.2.2.2.1,r1.2.2.2.2.2.2.2.2.1,r1.2.2.2.2.2.2.2.2.2.1,r1.2.2.2.2.2.2.2.2.2.2.1,r1.2.2.2.2.2.2.2.2.2.2.2.1,r1.2.2.2.2.2.2.2.2.2.2.2.2)))
 else (Option.bind (y2 (r1.2.1,wr .i64 (r1.2.2.1+1),r1.2.2.2.1,r1.2.2.2.2.1,r1.2.2.2.2.2.1,r1.2.2.2.2.2.2.1,r1.2.2.2.2.2.2.2.1,r1.2.2.2.2.2.2.2.2.1,r1.2.2.2.2.2.2.2.2.2.1,r1.2.2.2.2.2.2.2.2.2.2.1,r1.2.2.2.2.2.2.2.2.2.2.2.1,r1.2.2.2.2.2.2.2.2.2.2.2.2) (Api_TypeNode.mk 6 0 0 r1.1.Text ([]:List Int) ([]:List Api_Field) (0,0))) fun r4 =>
 some (r4.1,(r4.2.1,r4.2.2.1,r4.2.2.2.1,r4.2.2.2.2.1,r4.2.2.2.2.2.1,r4.2.2.2.2.2.2.1,r4.2.2.2.2.2.2.2.1,r4.2.2.2.2.2.2.2.2.1,r4.2.2.2.2.2.2.2.2.2.1,r4.2.2.2.2.2.2.2.2.2.2.1,r4.2.2.2.2.2.2.2.2.2.2.2.1,r4.2.2.2.2.2.2.2.2.2.2.2.2))))
 else (bif j7 t (⟨#[40]⟩:ByteArray)
 then (Option.bind (rec_semtyperef18_typer_read (d.1,d.2.1,d.2.2.1,d.2.2.2.1,d.2.2.2.2.1,d.2.2.2.2.2.1,d.2.2.2.2.2.2.1,d.2.2.2.2.2.2.2.1,d.2.2.2.2.2.2.2.2.1,d.2.2.2.2.2.2.2.2.2.1,d.2.2.2.2.2.2.2.2.2.2.1,d.2.2.2.2.2.2.2.2.2.2.2)) fun r5 =>
 Option.bind (Y6 (r5.2.1,r5.2.2.1,r5.2.2.2.1,r5.2.2.2.2.1,r5.2.2.2.2.2.1,r5.2.2.2.2.2.2.1,r5.2.2.2.2.2.2.2.1,r5.2.2.2.2.2.2.2.2.1,r5.2.2.2.2.2.2.2.2.2.1,r5.2.2.2.2.2.2.2.2.2.2.1,r5.2.2.2.2.2.2.2.2.2.2.2.1,r5.2.2.2.2.2.2.2.2.2.2.2.2) (⟨#[41]⟩:ByteArray)) fun r6 =>
 some (r5.1,(r6.1,r6.2.1,r6.2.2.1,r6.2.2.2.1,r6.2.2.2.2.1,r6.2.2.2.2.2.1,r6.2.2.2.2.2.2.1,r6.2.2.2.2.2.2.2.1,r6.2.2.2.2.2.2.2.2.1,r6.2.2.2.2.2.2.2.2.2.1,r6.2.2.2.2.2.2.2.2.2.2.1,r6.2.2.2.2.2.2.2.2.2.2.2)))
 else (bif j7 t (⟨#[123]⟩:ByteArray)
 then (Option.bind (rec_semtyperef18_typer_types (d.1,d.2.1,d.2.2.1,d.2.2.2.1,d.2.2.2.2.1,d.2.2.2.2.2.1,d.2.2.2.2.2.2.1,d.2.2.2.2.2.2.2.1,d.2.2.2.2.2.2.2.2.1,d.2.2.2.2.2.2.2.2.2.1,d.2.2.2.2.2.2.2.2.2.2.1,d.2.2.2.2.2.2.2.2.2.2.2) (⟨#[125]⟩:ByteArray)) fun r7 =>
 Option.bind (bif r7.2.2.2.2.2.1
 then (some true)
 else (some (decide (4<(r7.1.length:Int))))) fun q8 =>
 Option.bind (y2 (r7.2.1,r7.2.2.1,r7.2.2.2.1,r7.2.2.2.2.1,q8,r7.2.2.2.2.2.2.1,r7.2.2.2.2.2.2.2.1,r7.2.2.2.2.2.2.2.2.1,r7.2.2.2.2.2.2.2.2.2.1,r7.2.2.2.2.2.2.2.2.2.2.1,r7.2.2.2.2.2.2.2.2.2.2.2.1,r7.2.2.2.2.2.2.2.2.2.2.2.2) (Api_TypeNode.mk 10 0 0 (⟨#[]⟩:ByteArray) r7.1 ([]:List Api_Field) (0,0))) fun r9 =>
 some (r9.1,(r9.2.1,r9.2.2.1,r9.2.2.2.1,r9.2.2.2.2.1,r9.2.2.2.2.2.1,r9.2.2.2.2.2.2.1,r9.2.2.2.2.2.2.2.1,r9.2.2.2.2.2.2.2.2.1,r9.2.2.2.2.2.2.2.2.2.1,r9.2.2.2.2.2.2.2.2.2.2.1,r9.2.2.2.2.2.2.2.2.2.2.2.1,r9.2.2.2.2.2.2.2.2.2.2.2.2)))
 else (bif j7 t (⟨#[91]⟩:ByteArray)
 then (Option.bind (Z3 (d.1,d.2.1,d.2.2.1,d.2.2.2.1,d.2.2.2.2.1,d.2.2.2.2.2.1,d.2.2.2.2.2.2.1,d.2.2.2.2.2.2.2.1,d.2.2.2.2.2.2.2.2.1,d.2.2.2.2.2.2.2.2.2.1,d.2.2.2.2.2.2.2.2.2.2.1,d.2.2.2.2.2.2.2.2.2.2.2) 4 (⟨#[93]⟩:ByteArray)) fun r10 =>
 bif r10.1
 then (Option.bind (y2 (r10.2.1,r10.2.2.1,r10.2.2.2.1,r10.2.2.2.2.1,r10.2.2.2.2.2.1,r10.2.2.2.2.2.2.1,r10.2.2.2.2.2.2.2.1,r10.2.2.2.2.2.2.2.2.1,r10.2.2.2.2.2.2.2.2.2.1,r10.2.2.2.2.2.2.2.2.2.2.1,r10.2.2.2.2.2.2.2.2.2.2.2.1,r10.2.2.2.2.2.2.2.2.2.2.2.2) (Api_TypeNode.mk 9 0 0 (⟨#[]⟩:ByteArray) ([]:List Int) ([]:List Api_Field) (0,0))) fun r11 =>
 some (r11.1,(r11.2.1,r11.2.2.1,r11.2.2.2.1,r11.2.2.2.2.1,r11.2.2.2.2.2.1,r11.2.2.2.2.2.2.1,r11.2.2.2.2.2.2.2.1,r11.2.2.2.2.2.2.2.2.1,r11.2.2.2.2.2.2.2.2.2.1,r11.2.2.2.2.2.2.2.2.2.2.1,r11.2.2.2.2.2.2.2.2.2.2.2.1,r11.2.2.2.2.2.2.2.2.2.2.2.2)))
 else (Option.bind (rec_semtyperef18_typer_read (r10.2.1,r10.2.2.1,r10.2.2.2.1,r10.2.2.2.2.1,r10.2.2.2.2.2.1,r10.2.2.2.2.2.2.1,r10.2.2.2.2.2.2.2.1,r10.2.2.2.2.2.2.2.2.1,r10.2.2.2.2.2.2.2.2.2.1,r10.2.2.2.2.2.2.2.2.2.2.1,r10.2.2.2.2.2.2.2.2.2.2.2.1,r10.2.2.2.2.2.2.2.2.2.2.2.2)) fun r12 =>
 Option.bind (Y6 (r12.2.1,r12.2.2.1,r12.2.2.2.1,r12.2.2.2.2.1,r12.2.2.2.2.2.1,r12.2.2.2.2.2.2.1,r12.2.2.2.2.2.2.2.1,r12.2.2.2.2.2.2.2.2.1,r12.2.2.2.2.2.2.2.2.2.1,r12.2.2.2.2.2.2.2.2.2.2.1,r12.2.2.2.2.2.2.2.2.2.2.2.1,r12.2.2.2.2.2.2.2.2.2.2.2.2) (⟨#[124]⟩:ByteArray)) fun r13 =>
 Option.bind (rec_semtyperef18_typer_read (r13.1,r13.2.1,r13.2.2.1,r13.2.2.2.1,r13.2.2.2.2.1,r13.2.2.2.2.2.1,r13.2.2.2.2.2.2.1,r13.2.2.2.2.2.2.2.1,r13.2.2.2.2.2.2.2.2.1,r13.2.2.2.2.2.2.2.2.2.1,r13.2.2.2.2.2.2.2.2.2.2.1,r13.2.2.2.2.2.2.2.2.2.2.2)) fun r14 =>
 Option.bind (Y6 (r14.2.1,r14.2.2.1,r14.2.2.2.1,r14.2.2.2.2.1,r14.2.2.2.2.2.1,r14.2.2.2.2.2.2.1,r14.2.2.2.2.2.2.2.1,r14.2.2.2.2.2.2.2.2.1,r14.2.2.2.2.2.2.2.2.2.1,r14.2.2.2.2.2.2.2.2.2.2.1,r14.2.2.2.2.2.2.2.2.2.2.2.1,r14.2.2.2.2.2.2.2.2.2.2.2.2) (⟨#[93]⟩:ByteArray)) fun r15 =>
 Option.bind (y2 (r15.1,r15.2.1,r15.2.2.1,r15.2.2.2.1,r15.2.2.2.2.1,r15.2.2.2.2.2.1,r15.2.2.2.2.2.2.1,r15.2.2.2.2.2.2.2.1,r15.2.2.2.2.2.2.2.2.1,r15.2.2.2.2.2.2.2.2.2.1,r15.2.2.2.2.2.2.2.2.2.2.1,r15.2.2.2.2.2.2.2.2.2.2.2) (Api_TypeNode.mk 12 0 0 (⟨#[]⟩:ByteArray) ([r12.1,r14.1]:List Int) ([]:List Api_Field) (0,0))) fun r16 =>
 some (r16.1,(r16.2.1,r16.2.2.1,r16.2.2.2.1,r16.2.2.2.2.1,r16.2.2.2.2.2.1,r16.2.2.2.2.2.2.1,r16.2.2.2.2.2.2.2.1,r16.2.2.2.2.2.2.2.2.1,r16.2.2.2.2.2.2.2.2.2.1,r16.2.2.2.2.2.2.2.2.2.2.1,r16.2.2.2.2.2.2.2.2.2.2.2.1,r16.2.2.2.2.2.2.2.2.2.2.2.2))))
 else (bif j7 t (⟨#[37,123]⟩:ByteArray)
 then (Option.bind (rec_semtyperef18_typer_mapping (d.1,d.2.1,d.2.2.1,d.2.2.2.1,d.2.2.2.2.1,d.2.2.2.2.2.1,d.2.2.2.2.2.2.1,d.2.2.2.2.2.2.2.1,d.2.2.2.2.2.2.2.2.1,d.2.2.2.2.2.2.2.2.2.1,d.2.2.2.2.2.2.2.2.2.2.1,d.2.2.2.2.2.2.2.2.2.2.2)) fun r17 =>
 some (r17.1,(r17.2.1,r17.2.2.1,r17.2.2.2.1,r17.2.2.2.2.1,r17.2.2.2.2.2.1,r17.2.2.2.2.2.2.1,r17.2.2.2.2.2.2.2.1,r17.2.2.2.2.2.2.2.2.1,r17.2.2.2.2.2.2.2.2.2.1,r17.2.2.2.2.2.2.2.2.2.2.1,r17.2.2.2.2.2.2.2.2.2.2.2.1,r17.2.2.2.2.2.2.2.2.2.2.2.2)))
 else (some (0,(d.1,d.2.1,true,d.2.2.2.1,d.2.2.2.2.1,d.2.2.2.2.2.1,d.2.2.2.2.2.2.1,d.2.2.2.2.2.2.2.1,d.2.2.2.2.2.2.2.2.1,d.2.2.2.2.2.2.2.2.2.1,d.2.2.2.2.2.2.2.2.2.2.1,d.2.2.2.2.2.2.2.2.2.2.2)))))))
def a7w (n:Nat)(_:((List Semtyperef18_token)×Int×Bool×Bool×Bool×Int×(List Api_TypeNode)×Int×(List ByteArray)×(List Int)×(List Bool)×(List ByteArray))->ByteArray->Option (Int×((List Semtyperef18_token)×Int×Bool×Bool×Bool×Int×(List Api_TypeNode)×Int×(List ByteArray)×(List Int)×(List Bool)×(List ByteArray))))(_:((List Semtyperef18_token)×Int×Bool×Bool×Bool×Int×(List Api_TypeNode)×Int×(List ByteArray)×(List Int)×(List Bool)×(List ByteArray))->Option (Int×((List Semtyperef18_token)×Int×Bool×Bool×Bool×Int×(List Api_TypeNode)×Int×(List ByteArray)×(List Int)×(List Bool)×(List ByteArray))))(_:((List Semtyperef18_token)×Int×Bool×Bool×Bool×Int×(List Api_TypeNode)×Int×(List ByteArray)×(List Int)×(List Bool)×(List ByteArray))->Option (Int×((List Semtyperef18_token)×Int×Bool×Bool×Bool×Int×(List Api_TypeNode)×Int×(List ByteArray)×(List Int)×(List Bool)×(List ByteArray))))(rec_semtyperef18_typer_prefix:((List Semtyperef18_token)×Int×Bool×Bool×Bool×Int×(List Api_TypeNode)×Int×(List ByteArray)×(List Int)×(List Bool)×(List ByteArray))->Option (Int×((List Semtyperef18_token)×Int×Bool×Bool×Bool×Int×(List Api_TypeNode)×Int×(List ByteArray)×(List Int)×(List Bool)×(List ByteArray))))(_:((List Semtyperef18_token)×Int×Bool×Bool×Bool×Int×(List Api_TypeNode)×Int×(List ByteArray)×(List Int)×(List Bool)×(List ByteArray))->Option (Int×((List Semtyperef18_token)×Int×Bool×Bool×Bool×Int×(List Api_TypeNode)×Int×(List ByteArray)×(List Int)×(List Bool)×(List ByteArray))))(_:((List Semtyperef18_token)×Int×Bool×Bool×Bool×Int×(List Api_TypeNode)×Int×(List ByteArray)×(List Int)×(List Bool)×(List ByteArray))->Option (Int×((List Semtyperef18_token)×Int×Bool×Bool×Bool×Int×(List Api_TypeNode)×Int×(List ByteArray)×(List Int)×(List Bool)×(List ByteArray))))(_:((List Semtyperef18_token)×Int×Bool×Bool×Bool×Int×(List Api_TypeNode)×Int×(List ByteArray)×(List Int)×(List Bool)×(List ByteArray))->ByteArray->Option ((List Int)×((List Semtyperef18_token)×Int×Bool×Bool×Bool×Int×(List Api_TypeNode)×Int×(List ByteArray)×(List Int)×(List Bool)×(List ByteArray))))(_:((List Semtyperef18_token)×Int×Bool×Bool×Bool×Int×(List Api_TypeNode)×Int×(List ByteArray)×(List Int)×(List Bool)×(List ByteArray))->Option (Int×((List Semtyperef18_token)×Int×Bool×Bool×Bool×Int×(List Api_TypeNode)×Int×(List ByteArray)×(List Int)×(List Bool)×(List ByteArray))))(_:((List Semtyperef18_token)×Int×Bool×Bool×Bool×Int×(List Api_TypeNode)×Int×(List ByteArray)×(List Int)×(List Bool)×(List ByteArray))->ByteArray->Option (Int×((List Semtyperef18_token)×Int×Bool×Bool×Bool×Int×(List Api_TypeNode)×Int×(List ByteArray)×(List Int)×(List Bool)×(List ByteArray))))(p:(List Semtyperef18_token)×Int×Bool×Bool×Bool×Int×(List Api_TypeNode)×Int×(List ByteArray)×(List Int)×(List Bool)×(List ByteArray)):Option (Int×((List Semtyperef18_token)×Int×Bool×Bool×Bool×Int×(List Api_TypeNode)×Int×(List ByteArray)×(List Int)×(List Bool)×(List ByteArray))) :=
 Option.bind (rec_semtyperef18_typer_prefix (p.1,p.2.1,p.2.2.1,p.2.2.2.1,p.2.2.2.2.1,p.2.2.2.2.2.1,p.2.2.2.2.2.2.1,p.2.2.2.2.2.2.2.1,p.2.2.2.2.2.2.2.2.1,p.2.2.2.2.2.2.2.2.2.1,p.2.2.2.2.2.2.2.2.2.2.1,p.2.2.2.2.2.2.2.2.2.2.2)) fun r1 =>
 Option.bind (z8 (a6K rec_semtyperef18_typer_prefix) n (([r1.1]:List Int),(r1.2.1,r1.2.2.1,r1.2.2.2.1,r1.2.2.2.2.1,r1.2.2.2.2.2.1,r1.2.2.2.2.2.2.1,r1.2.2.2.2.2.2.2.1,r1.2.2.2.2.2.2.2.2.1,r1.2.2.2.2.2.2.2.2.2.1,r1.2.2.2.2.2.2.2.2.2.2.1,r1.2.2.2.2.2.2.2.2.2.2.2.1,r1.2.2.2.2.2.2.2.2.2.2.2.2))) fun b6 =>
 bif (b6.1.length:Int)==1
 then (Option.bind (idx b6.1 0) fun _ =>
 Option.bind (b6.1[(0:Int).toNat]?) fun e8 =>
 some (e8,(b6.2.1,b6.2.2.1,b6.2.2.2.1,b6.2.2.2.2.1,b6.2.2.2.2.2.1,b6.2.2.2.2.2.2.1,b6.2.2.2.2.2.2.2.1,b6.2.2.2.2.2.2.2.2.1,b6.2.2.2.2.2.2.2.2.2.1,b6.2.2.2.2.2.2.2.2.2.2.1,b6.2.2.2.2.2.2.2.2.2.2.2.1,b6.2.2.2.2.2.2.2.2.2.2.2.2)))
 else (Option.bind (y2 (b6.2.1,b6.2.2.1,b6.2.2.2.1,b6.2.2.2.2.1,b6.2.2.2.2.2.1,b6.2.2.2.2.2.2.1,b6.2.2.2.2.2.2.2.1,b6.2.2.2.2.2.2.2.2.1,b6.2.2.2.2.2.2.2.2.2.1,b6.2.2.2.2.2.2.2.2.2.2.1,b6.2.2.2.2.2.2.2.2.2.2.2.1,b6.2.2.2.2.2.2.2.2.2.2.2.2) (Api_TypeNode.mk 17 0 0 (⟨#[]⟩:ByteArray) b6.1 ([]:List Api_Field) (0,0))) fun r9 =>
 some (r9.1,(r9.2.1,r9.2.2.1,r9.2.2.2.1,r9.2.2.2.2.1,r9.2.2.2.2.2.1,r9.2.2.2.2.2.2.1,r9.2.2.2.2.2.2.2.1,r9.2.2.2.2.2.2.2.2.1,r9.2.2.2.2.2.2.2.2.2.1,r9.2.2.2.2.2.2.2.2.2.2.1,r9.2.2.2.2.2.2.2.2.2.2.2.1,r9.2.2.2.2.2.2.2.2.2.2.2.2)))
def a5X (n:Nat)(_:((List Semtyperef18_token)×Int×Bool×Bool×Bool×Int×(List Api_TypeNode)×Int×(List ByteArray)×(List Int)×(List Bool)×(List ByteArray))->ByteArray->Option (Int×((List Semtyperef18_token)×Int×Bool×Bool×Bool×Int×(List Api_TypeNode)×Int×(List ByteArray)×(List Int)×(List Bool)×(List ByteArray))))(_:((List Semtyperef18_token)×Int×Bool×Bool×Bool×Int×(List Api_TypeNode)×Int×(List ByteArray)×(List Int)×(List Bool)×(List ByteArray))->Option (Int×((List Semtyperef18_token)×Int×Bool×Bool×Bool×Int×(List Api_TypeNode)×Int×(List ByteArray)×(List Int)×(List Bool)×(List ByteArray))))(_:((List Semtyperef18_token)×Int×Bool×Bool×Bool×Int×(List Api_TypeNode)×Int×(List ByteArray)×(List Int)×(List Bool)×(List ByteArray))->Option (Int×((List Semtyperef18_token)×Int×Bool×Bool×Bool×Int×(List Api_TypeNode)×Int×(List ByteArray)×(List Int)×(List Bool)×(List ByteArray))))(_:((List Semtyperef18_token)×Int×Bool×Bool×Bool×Int×(List Api_TypeNode)×Int×(List ByteArray)×(List Int)×(List Bool)×(List ByteArray))->Option (Int×((List Semtyperef18_token)×Int×Bool×Bool×Bool×Int×(List Api_TypeNode)×Int×(List ByteArray)×(List Int)×(List Bool)×(List ByteArray))))(rec_semtyperef18_typer_read:((List Semtyperef18_token)×Int×Bool×Bool×Bool×Int×(List Api_TypeNode)×Int×(List ByteArray)×(List Int)×(List Bool)×(List ByteArray))->Option (Int×((List Semtyperef18_token)×Int×Bool×Bool×Bool×Int×(List Api_TypeNode)×Int×(List ByteArray)×(List Int)×(List Bool)×(List ByteArray))))(_:((List Semtyperef18_token)×Int×Bool×Bool×Bool×Int×(List Api_TypeNode)×Int×(List ByteArray)×(List Int)×(List Bool)×(List ByteArray))->Option (Int×((List Semtyperef18_token)×Int×Bool×Bool×Bool×Int×(List Api_TypeNode)×Int×(List ByteArray)×(List Int)×(List Bool)×(List ByteArray))))(_:((List Semtyperef18_token)×Int×Bool×Bool×Bool×Int×(List Api_TypeNode)×Int×(List ByteArray)×(List Int)×(List Bool)×(List ByteArray))->ByteArray->Option ((List Int)×((List Semtyperef18_token)×Int×Bool×Bool×Bool×Int×(List Api_TypeNode)×Int×(List ByteArray)×(List Int)×(List Bool)×(List ByteArray))))(_:((List Semtyperef18_token)×Int×Bool×Bool×Bool×Int×(List Api_TypeNode)×Int×(List ByteArray)×(List Int)×(List Bool)×(List ByteArray))->Option (Int×((List Semtyperef18_token)×Int×Bool×Bool×Bool×Int×(List Api_TypeNode)×Int×(List ByteArray)×(List Int)×(List Bool)×(List ByteArray))))(_:((List Semtyperef18_token)×Int×Bool×Bool×Bool×Int×(List Api_TypeNode)×Int×(List ByteArray)×(List Int)×(List Bool)×(List ByteArray))->ByteArray->Option (Int×((List Semtyperef18_token)×Int×Bool×Bool×Bool×Int×(List Api_TypeNode)×Int×(List ByteArray)×(List Int)×(List Bool)×(List ByteArray))))(d:(List Semtyperef18_token)×Int×Bool×Bool×Bool×Int×(List Api_TypeNode)×Int×(List ByteArray)×(List Int)×(List Bool)×(List ByteArray)):Option (Int×((List Semtyperef18_token)×Int×Bool×Bool×Bool×Int×(List Api_TypeNode)×Int×(List ByteArray)×(List Int)×(List Bool)×(List ByteArray))) :=
 Option.bind (Z3 (d.1,d.2.1,d.2.2.1,d.2.2.2.1,d.2.2.2.2.1,d.2.2.2.2.2.1,d.2.2.2.2.2.2.1,d.2.2.2.2.2.2.2.1,d.2.2.2.2.2.2.2.2.1,d.2.2.2.2.2.2.2.2.2.1,d.2.2.2.2.2.2.2.2.2.2.1,d.2.2.2.2.2.2.2.2.2.2.2) 4 (⟨#[125]⟩:ByteArray)) fun r1 =>
 Option.bind (z8 (a5r rec_semtyperef18_typer_read) n (r1.1,(r1.2.1,r1.2.2.1,r1.2.2.2.1,r1.2.2.2.2.1,r1.2.2.2.2.2.1,r1.2.2.2.2.2.2.1,r1.2.2.2.2.2.2.2.1,r1.2.2.2.2.2.2.2.2.1,r1.2.2.2.2.2.2.2.2.2.1,r1.2.2.2.2.2.2.2.2.2.2.1,r1.2.2.2.2.2.2.2.2.2.2.2.1,r1.2.2.2.2.2.2.2.2.2.2.2.2),(13,0,0,(⟨#[]⟩:ByteArray),[],[],0,0),(false,false))) fun b26 =>
 Q3 (fun x27 =>
 Option.bind (bif x27.1.2.2.2.2.1
 then (some true)
 else (some (decide (8<(x27.2.1.2.2.2.2.2.1.length:Int))))) fun q29 =>
 Option.bind (z8 (a5B x27) ((2:Int).toNat+1) (0,(x27.1.1,x27.1.2.1,x27.1.2.2.1,x27.1.2.2.2.1,q29,x27.1.2.2.2.2.2.1,x27.1.2.2.2.2.2.2.1,x27.1.2.2.2.2.2.2.2.1,x27.1.2.2.2.2.2.2.2.2.1,x27.1.2.2.2.2.2.2.2.2.2.1,x27.1.2.2.2.2.2.2.2.2.2.2.1,x27.1.2.2.2.2.2.2.2.2.2.2.2),(x27.2.1.1,x27.2.1.2.1,x27.2.1.2.2.1,x27.2.1.2.2.2.1,x27.2.1.2.2.2.2.1,x27.2.1.2.2.2.2.2.1,x27.2.1.2.2.2.2.2.2.1,x27.2.1.2.2.2.2.2.2.2))) fun b34 =>
 Option.bind (y2 (b34.1.1,b34.1.2.1,b34.1.2.2.1,b34.1.2.2.2.1,b34.1.2.2.2.2.1,b34.1.2.2.2.2.2.1,b34.1.2.2.2.2.2.2.1,b34.1.2.2.2.2.2.2.2.1,b34.1.2.2.2.2.2.2.2.2.1,b34.1.2.2.2.2.2.2.2.2.2.1,b34.1.2.2.2.2.2.2.2.2.2.2.1,b34.1.2.2.2.2.2.2.2.2.2.2.2) (Api_TypeNode.mk b34.2.1 b34.2.2.1 b34.2.2.2.1 b34.2.2.2.2.1 b34.2.2.2.2.2.1 b34.2.2.2.2.2.2.1 (b34.2.2.2.2.2.2.2.1,b34.2.2.2.2.2.2.2.2))) fun r35 =>
 some (r35.1,(r35.2.1,r35.2.2.1,r35.2.2.2.1,r35.2.2.2.2.1,r35.2.2.2.2.2.1,r35.2.2.2.2.2.2.1,r35.2.2.2.2.2.2.2.1,r35.2.2.2.2.2.2.2.2.1,r35.2.2.2.2.2.2.2.2.2.1,r35.2.2.2.2.2.2.2.2.2.2.1,r35.2.2.2.2.2.2.2.2.2.2.2.1,r35.2.2.2.2.2.2.2.2.2.2.2.2))) (fun y28 =>
 some (y28.1,(y28.2.1.1,y28.2.1.2.1,y28.2.1.2.2.1,y28.2.1.2.2.2.1,y28.2.1.2.2.2.2.1,y28.2.1.2.2.2.2.2.1,y28.2.1.2.2.2.2.2.2.1,y28.2.1.2.2.2.2.2.2.2.1,y28.2.1.2.2.2.2.2.2.2.2.1,y28.2.1.2.2.2.2.2.2.2.2.2.1,y28.2.1.2.2.2.2.2.2.2.2.2.2.1,y28.2.1.2.2.2.2.2.2.2.2.2.2.2))) b26
def a64 (_:Nat)(_:((List Semtyperef18_token)×Int×Bool×Bool×Bool×Int×(List Api_TypeNode)×Int×(List ByteArray)×(List Int)×(List Bool)×(List ByteArray))->ByteArray->Option (Int×((List Semtyperef18_token)×Int×Bool×Bool×Bool×Int×(List Api_TypeNode)×Int×(List ByteArray)×(List Int)×(List Bool)×(List ByteArray))))(_:((List Semtyperef18_token)×Int×Bool×Bool×Bool×Int×(List Api_TypeNode)×Int×(List ByteArray)×(List Int)×(List Bool)×(List ByteArray))->Option (Int×((List Semtyperef18_token)×Int×Bool×Bool×Bool×Int×(List Api_TypeNode)×Int×(List ByteArray)×(List Int)×(List Bool)×(List ByteArray))))(_:((List Semtyperef18_token)×Int×Bool×Bool×Bool×Int×(List Api_TypeNode)×Int×(List ByteArray)×(List Int)×(List Bool)×(List ByteArray))->Option (Int×((List Semtyperef18_token)×Int×Bool×Bool×Bool×Int×(List Api_TypeNode)×Int×(List ByteArray)×(List Int)×(List Bool)×(List ByteArray))))(rec_semtyperef18_typer_prefix:((List Semtyperef18_token)×Int×Bool×Bool×Bool×Int×(List Api_TypeNode)×Int×(List ByteArray)×(List Int)×(List Bool)×(List ByteArray))->Option (Int×((List Semtyperef18_token)×Int×Bool×Bool×Bool×Int×(List Api_TypeNode)×Int×(List ByteArray)×(List Int)×(List Bool)×(List ByteArray))))(_:((List Semtyperef18_token)×Int×Bool×Bool×Bool×Int×(List Api_TypeNode)×Int×(List ByteArray)×(List Int)×(List Bool)×(List ByteArray))->Option (Int×((List Semtyperef18_token)×Int×Bool×Bool×Bool×Int×(List Api_TypeNode)×Int×(List ByteArray)×(List Int)×(List Bool)×(List ByteArray))))(rec_semtyperef18_typer_simple:((List Semtyperef18_token)×Int×Bool×Bool×Bool×Int×(List Api_TypeNode)×Int×(List ByteArray)×(List Int)×(List Bool)×(List ByteArray))->Option (Int×((List Semtyperef18_token)×Int×Bool×Bool×Bool×Int×(List Api_TypeNode)×Int×(List ByteArray)×(List Int)×(List Bool)×(List ByteArray))))(_:((List Semtyperef18_token)×Int×Bool×Bool×Bool×Int×(List Api_TypeNode)×Int×(List ByteArray)×(List Int)×(List Bool)×(List ByteArray))->ByteArray->Option ((List Int)×((List Semtyperef18_token)×Int×Bool×Bool×Bool×Int×(List Api_TypeNode)×Int×(List ByteArray)×(List Int)×(List Bool)×(List ByteArray))))(_:((List Semtyperef18_token)×Int×Bool×Bool×Bool×Int×(List Api_TypeNode)×Int×(List ByteArray)×(List Int)×(List Bool)×(List ByteArray))->Option (Int×((List Semtyperef18_token)×Int×Bool×Bool×Bool×Int×(List Api_TypeNode)×Int×(List ByteArray)×(List Int)×(List Bool)×(List ByteArray))))(_:((List Semtyperef18_token)×Int×Bool×Bool×Bool×Int×(List Api_TypeNode)×Int×(List ByteArray)×(List Int)×(List Bool)×(List ByteArray))->ByteArray->Option (Int×((List Semtyperef18_token)×Int×Bool×Bool×Bool×Int×(List Api_TypeNode)×Int×(List ByteArray)×(List Int)×(List Bool)×(List ByteArray))))(p:(List Semtyperef18_token)×Int×Bool×Bool×Bool×Int×(List Api_TypeNode)×Int×(List ByteArray)×(List Int)×(List Bool)×(List ByteArray)):Option (Int×((List Semtyperef18_token)×Int×Bool×Bool×Bool×Int×(List Api_TypeNode)×Int×(List ByteArray)×(List Int)×(List Bool)×(List ByteArray))) :=
 bif p.2.2.1
 then (some (0,(p.1,p.2.1,p.2.2.1,p.2.2.2.1,p.2.2.2.2.1,p.2.2.2.2.2.1,p.2.2.2.2.2.2.1,p.2.2.2.2.2.2.2.1,p.2.2.2.2.2.2.2.2.1,p.2.2.2.2.2.2.2.2.2.1,p.2.2.2.2.2.2.2.2.2.2.1,p.2.2.2.2.2.2.2.2.2.2.2)))
 else (Option.bind (Z3 (p.1,p.2.1,p.2.2.1,p.2.2.2.1,p.2.2.2.2.1,p.2.2.2.2.2.1,p.2.2.2.2.2.2.1,p.2.2.2.2.2.2.2.1,p.2.2.2.2.2.2.2.2.1,p.2.2.2.2.2.2.2.2.2.1,p.2.2.2.2.2.2.2.2.2.2.1,p.2.2.2.2.2.2.2.2.2.2.2) 0 (⟨#[110,111,116]⟩:ByteArray)) fun r1 =>
 bif r1.1
 then (Option.bind (rec_semtyperef18_typer_prefix (r1.2.1,r1.2.2.1,r1.2.2.2.1,r1.2.2.2.2.1,r1.2.2.2.2.2.1,r1.2.2.2.2.2.2.1,r1.2.2.2.2.2.2.2.1,r1.2.2.2.2.2.2.2.2.1,r1.2.2.2.2.2.2.2.2.2.1,r1.2.2.2.2.2.2.2.2.2.2.1,r1.2.2.2.2.2.2.2.2.2.2.2.1,r1.2.2.2.2.2.2.2.2.2.2.2.2)) fun r2 =>
 Option.bind (y2 (r2.2.1,r2.2.2.1,r2.2.2.2.1,r2.2.2.2.2.1,r2.2.2.2.2.2.1,r2.2.2.2.2.2.2.1,r2.2.2.2.2.2.2.2.1,r2.2.2.2.2.2.2.2.2.1,r2.2.2.2.2.2.2.2.2.2.1,r2.2.2.2.2.2.2.2.2.2.2.1,r2.2.2.2.2.2.2.2.2.2.2.2.1,r2.2.2.2.2.2.2.2.2.2.2.2.2) (Api_TypeNode.mk 18 0 0 (⟨#[]⟩:ByteArray) ([r2.1]:List Int) ([]:List Api_Field) (0,0))) fun r3 =>
 some (r3.1,(r3.2.1,r3.2.2.1,r3.2.2.2.1,r3.2.2.2.2.1,r3.2.2.2.2.2.1,r3.2.2.2.2.2.2.1,r3.2.2.2.2.2.2.2.1,r3.2.2.2.2.2.2.2.2.1,r3.2.2.2.2.2.2.2.2.2.1,r3.2.2.2.2.2.2.2.2.2.2.1,r3.2.2.2.2.2.2.2.2.2.2.2.1,r3.2.2.2.2.2.2.2.2.2.2.2.2)))
 else (Option.bind (rec_semtyperef18_typer_simple (r1.2.1,r1.2.2.1,r1.2.2.2.1,r1.2.2.2.2.1,r1.2.2.2.2.2.1,r1.2.2.2.2.2.2.1,r1.2.2.2.2.2.2.2.1,r1.2.2.2.2.2.2.2.2.1,r1.2.2.2.2.2.2.2.2.2.1,r1.2.2.2.2.2.2.2.2.2.2.1,r1.2.2.2.2.2.2.2.2.2.2.2.1,r1.2.2.2.2.2.2.2.2.2.2.2.2)) fun r4 =>
 some (r4.1,(r4.2.1,r4.2.2.1,r4.2.2.2.1,r4.2.2.2.2.1,r4.2.2.2.2.2.1,r4.2.2.2.2.2.2.1,r4.2.2.2.2.2.2.2.1,r4.2.2.2.2.2.2.2.2.1,r4.2.2.2.2.2.2.2.2.2.1,r4.2.2.2.2.2.2.2.2.2.2.1,r4.2.2.2.2.2.2.2.2.2.2.2.1,r4.2.2.2.2.2.2.2.2.2.2.2.2))))
def a8a (_:Nat)(_:((List Semtyperef18_token)×Int×Bool×Bool×Bool×Int×(List Api_TypeNode)×Int×(List ByteArray)×(List Int)×(List Bool)×(List ByteArray))->ByteArray->Option (Int×((List Semtyperef18_token)×Int×Bool×Bool×Bool×Int×(List Api_TypeNode)×Int×(List ByteArray)×(List Int)×(List Bool)×(List ByteArray))))(_:((List Semtyperef18_token)×Int×Bool×Bool×Bool×Int×(List Api_TypeNode)×Int×(List ByteArray)×(List Int)×(List Bool)×(List ByteArray))->Option (Int×((List Semtyperef18_token)×Int×Bool×Bool×Bool×Int×(List Api_TypeNode)×Int×(List ByteArray)×(List Int)×(List Bool)×(List ByteArray))))(_:((List Semtyperef18_token)×Int×Bool×Bool×Bool×Int×(List Api_TypeNode)×Int×(List ByteArray)×(List Int)×(List Bool)×(List ByteArray))->Option (Int×((List Semtyperef18_token)×Int×Bool×Bool×Bool×Int×(List Api_TypeNode)×Int×(List ByteArray)×(List Int)×(List Bool)×(List ByteArray))))(_:((List Semtyperef18_token)×Int×Bool×Bool×Bool×Int×(List Api_TypeNode)×Int×(List ByteArray)×(List Int)×(List Bool)×(List ByteArray))->Option (Int×((List Semtyperef18_token)×Int×Bool×Bool×Bool×Int×(List Api_TypeNode)×Int×(List ByteArray)×(List Int)×(List Bool)×(List ByteArray))))(rec_semtyperef18_typer_read:((List Semtyperef18_token)×Int×Bool×Bool×Bool×Int×(List Api_TypeNode)×Int×(List ByteArray)×(List Int)×(List Bool)×(List ByteArray))->Option (Int×((List Semtyperef18_token)×Int×Bool×Bool×Bool×Int×(List Api_TypeNode)×Int×(List ByteArray)×(List Int)×(List Bool)×(List ByteArray))))(_:((List Semtyperef18_token)×Int×Bool×Bool×Bool×Int×(List Api_TypeNode)×Int×(List ByteArray)×(List Int)×(List Bool)×(List ByteArray))->Option (Int×((List Semtyperef18_token)×Int×Bool×Bool×Bool×Int×(List Api_TypeNode)×Int×(List ByteArray)×(List Int)×(List Bool)×(List ByteArray))))(rec_semtyperef18_typer_types:((List Semtyperef18_token)×Int×Bool×Bool×Bool×Int×(List Api_TypeNode)×Int×(List ByteArray)×(List Int)×(List Bool)×(List ByteArray))->ByteArray->Option ((List Int)×((List Semtyperef18_token)×Int×Bool×Bool×Bool×Int×(List Api_TypeNode)×Int×(List ByteArray)×(List Int)×(List Bool)×(List ByteArray))))(rec_semtyperef18_typer_union:((List Semtyperef18_token)×Int×Bool×Bool×Bool×Int×(List Api_TypeNode)×Int×(List ByteArray)×(List Int)×(List Bool)×(List ByteArray))->Option (Int×((List Semtyperef18_token)×Int×Bool×Bool×Bool×Int×(List Api_TypeNode)×Int×(List ByteArray)×(List Int)×(List Bool)×(List ByteArray))))(_:((List Semtyperef18_token)×Int×Bool×Bool×Bool×Int×(List Api_TypeNode)×Int×(List ByteArray)×(List Int)×(List Bool)×(List ByteArray))->ByteArray->Option (Int×((List Semtyperef18_token)×Int×Bool×Bool×Bool×Int×(List Api_TypeNode)×Int×(List ByteArray)×(List Int)×(List Bool)×(List ByteArray))))(p:(List Semtyperef18_token)×Int×Bool×Bool×Bool×Int×(List Api_TypeNode)×Int×(List ByteArray)×(List Int)×(List Bool)×(List ByteArray)):Option (Int×((List Semtyperef18_token)×Int×Bool×Bool×Bool×Int×(List Api_TypeNode)×Int×(List ByteArray)×(List Int)×(List Bool)×(List ByteArray))) :=
 Option.bind (a3k (p.1,p.2.1,p.2.2.1,p.2.2.2.1,p.2.2.2.2.1,p.2.2.2.2.2.1,p.2.2.2.2.2.2.1,p.2.2.2.2.2.2.2.1,p.2.2.2.2.2.2.2.2.1,p.2.2.2.2.2.2.2.2.2.1,p.2.2.2.2.2.2.2.2.2.2.1,p.2.2.2.2.2.2.2.2.2.2.2)) fun r1 =>
 bif !r1.1
 then (Option.bind (rec_semtyperef18_typer_union (r1.2.1,r1.2.2.1,r1.2.2.2.1,r1.2.2.2.2.1,r1.2.2.2.2.2.1,r1.2.2.2.2.2.2.1,r1.2.2.2.2.2.2.2.1,r1.2.2.2.2.2.2.2.2.1,r1.2.2.2.2.2.2.2.2.2.1,r1.2.2.2.2.2.2.2.2.2.2.1,r1.2.2.2.2.2.2.2.2.2.2.2.1,r1.2.2.2.2.2.2.2.2.2.2.2.2)) fun r2 =>
 some (r2.1,(r2.2.1,r2.2.2.1,r2.2.2.2.1,r2.2.2.2.2.1,r2.2.2.2.2.2.1,r2.2.2.2.2.2.2.1,r2.2.2.2.2.2.2.2.1,r2.2.2.2.2.2.2.2.2.1,r2.2.2.2.2.2.2.2.2.2.1,r2.2.2.2.2.2.2.2.2.2.2.1,r2.2.2.2.2.2.2.2.2.2.2.2.1,r2.2.2.2.2.2.2.2.2.2.2.2.2)))
 else (Option.bind (Y6 (r1.2.1,r1.2.2.1,r1.2.2.2.1,r1.2.2.2.2.1,r1.2.2.2.2.2.1,r1.2.2.2.2.2.2.1,r1.2.2.2.2.2.2.2.1,r1.2.2.2.2.2.2.2.2.1,r1.2.2.2.2.2.2.2.2.2.1,r1.2.2.2.2.2.2.2.2.2.2.1,r1.2.2.2.2.2.2.2.2.2.2.2.1,r1.2.2.2.2.2.2.2.2.2.2.2.2) (⟨#[40]⟩:ByteArray)) fun r3 =>
 Option.bind (rec_semtyperef18_typer_types (r3.1,r3.2.1,r3.2.2.1,r3.2.2.2.1,r3.2.2.2.2.1,r3.2.2.2.2.2.1,r3.2.2.2.2.2.2.1,r3.2.2.2.2.2.2.2.1,r3.2.2.2.2.2.2.2.2.1,r3.2.2.2.2.2.2.2.2.2.1,r3.2.2.2.2.2.2.2.2.2.2.1,r3.2.2.2.2.2.2.2.2.2.2.2) (⟨#[41]⟩:ByteArray)) fun r4 =>
 Option.bind (Y6 (r4.2.1,r4.2.2.1,r4.2.2.2.1,r4.2.2.2.2.1,r4.2.2.2.2.2.1,r4.2.2.2.2.2.2.1,r4.2.2.2.2.2.2.2.1,r4.2.2.2.2.2.2.2.2.1,r4.2.2.2.2.2.2.2.2.2.1,r4.2.2.2.2.2.2.2.2.2.2.1,r4.2.2.2.2.2.2.2.2.2.2.2.1,r4.2.2.2.2.2.2.2.2.2.2.2.2) (⟨#[45,62]⟩:ByteArray)) fun r5 =>
 Option.bind (bif r5.2.2.2.2.1
 then (some true)
 else (some (decide (4<(r4.1.length:Int))))) fun q6 =>
 Option.bind (rec_semtyperef18_typer_read (r5.1,r5.2.1,r5.2.2.1,r5.2.2.2.1,q6,wr .i64 (r5.2.2.2.2.2.1+2),r5.2.2.2.2.2.2.1,r5.2.2.2.2.2.2.2.1,r5.2.2.2.2.2.2.2.2.1,r5.2.2.2.2.2.2.2.2.2.1,r5.2.2.2.2.2.2.2.2.2.2.1,r5.2.2.2.2.2.2.2.2.2.2.2)) fun r7 =>
 Option.bind (Y0 (r4.1.length+([r7.1]:List Int).length) 8) fun _ =>
 Option.bind (y2 (r7.2.1,r7.2.2.1,r7.2.2.2.1,r7.2.2.2.2.1,r7.2.2.2.2.2.1,r7.2.2.2.2.2.2.1,r7.2.2.2.2.2.2.2.1,r7.2.2.2.2.2.2.2.2.1,r7.2.2.2.2.2.2.2.2.2.1,r7.2.2.2.2.2.2.2.2.2.2.1,r7.2.2.2.2.2.2.2.2.2.2.2.1,r7.2.2.2.2.2.2.2.2.2.2.2.2) (Api_TypeNode.mk 14 0 0 (⟨#[]⟩:ByteArray) (r4.1++([r7.1]:List Int)) ([]:List Api_Field) (0,0))) fun r9 =>
 some (r9.1,(r9.2.1,r9.2.2.1,r9.2.2.2.1,r9.2.2.2.2.1,r9.2.2.2.2.2.1,r9.2.2.2.2.2.2.1,r9.2.2.2.2.2.2.2.1,r9.2.2.2.2.2.2.2.2.1,r9.2.2.2.2.2.2.2.2.2.1,r9.2.2.2.2.2.2.2.2.2.2.1,r9.2.2.2.2.2.2.2.2.2.2.2.1,r9.2.2.2.2.2.2.2.2.2.2.2.2)))
def a61 (_:Nat)(rec_semtyperef18_typer_compound:((List Semtyperef18_token)×Int×Bool×Bool×Bool×Int×(List Api_TypeNode)×Int×(List ByteArray)×(List Int)×(List Bool)×(List ByteArray))->ByteArray->Option (Int×((List Semtyperef18_token)×Int×Bool×Bool×Bool×Int×(List Api_TypeNode)×Int×(List ByteArray)×(List Int)×(List Bool)×(List ByteArray))))(_:((List Semtyperef18_token)×Int×Bool×Bool×Bool×Int×(List Api_TypeNode)×Int×(List ByteArray)×(List Int)×(List Bool)×(List ByteArray))->Option (Int×((List Semtyperef18_token)×Int×Bool×Bool×Bool×Int×(List Api_TypeNode)×Int×(List ByteArray)×(List Int)×(List Bool)×(List ByteArray))))(_:((List Semtyperef18_token)×Int×Bool×Bool×Bool×Int×(List Api_TypeNode)×Int×(List ByteArray)×(List Int)×(List Bool)×(List ByteArray))->Option (Int×((List Semtyperef18_token)×Int×Bool×Bool×Bool×Int×(List Api_TypeNode)×Int×(List ByteArray)×(List Int)×(List Bool)×(List ByteArray))))(_:((List Semtyperef18_token)×Int×Bool×Bool×Bool×Int×(List Api_TypeNode)×Int×(List ByteArray)×(List Int)×(List Bool)×(List ByteArray))->Option (Int×((List Semtyperef18_token)×Int×Bool×Bool×Bool×Int×(List Api_TypeNode)×Int×(List ByteArray)×(List Int)×(List Bool)×(List ByteArray))))(_:((List Semtyperef18_token)×Int×Bool×Bool×Bool×Int×(List Api_TypeNode)×Int×(List ByteArray)×(List Int)×(List Bool)×(List ByteArray))->Option (Int×((List Semtyperef18_token)×Int×Bool×Bool×Bool×Int×(List Api_TypeNode)×Int×(List ByteArray)×(List Int)×(List Bool)×(List ByteArray))))(_:((List Semtyperef18_token)×Int×Bool×Bool×Bool×Int×(List Api_TypeNode)×Int×(List ByteArray)×(List Int)×(List Bool)×(List ByteArray))->Option (Int×((List Semtyperef18_token)×Int×Bool×Bool×Bool×Int×(List Api_TypeNode)×Int×(List ByteArray)×(List Int)×(List Bool)×(List ByteArray))))(_:((List Semtyperef18_token)×Int×Bool×Bool×Bool×Int×(List Api_TypeNode)×Int×(List ByteArray)×(List Int)×(List Bool)×(List ByteArray))->ByteArray->Option ((List Int)×((List Semtyperef18_token)×Int×Bool×Bool×Bool×Int×(List Api_TypeNode)×Int×(List ByteArray)×(List Int)×(List Bool)×(List ByteArray))))(_:((List Semtyperef18_token)×Int×Bool×Bool×Bool×Int×(List Api_TypeNode)×Int×(List ByteArray)×(List Int)×(List Bool)×(List ByteArray))->Option (Int×((List Semtyperef18_token)×Int×Bool×Bool×Bool×Int×(List Api_TypeNode)×Int×(List ByteArray)×(List Int)×(List Bool)×(List ByteArray))))(rec_semtyperef18_typer_word:((List Semtyperef18_token)×Int×Bool×Bool×Bool×Int×(List Api_TypeNode)×Int×(List ByteArray)×(List Int)×(List Bool)×(List ByteArray))->ByteArray->Option (Int×((List Semtyperef18_token)×Int×Bool×Bool×Bool×Int×(List Api_TypeNode)×Int×(List ByteArray)×(List Int)×(List Bool)×(List ByteArray))))(d:(List Semtyperef18_token)×Int×Bool×Bool×Bool×Int×(List Api_TypeNode)×Int×(List ByteArray)×(List Int)×(List Bool)×(List ByteArray)):Option (Int×((List Semtyperef18_token)×Int×Bool×Bool×Bool×Int×(List Api_TypeNode)×Int×(List ByteArray)×(List Int)×(List Bool)×(List ByteArray))) :=
 Option.bind (K3 (d.1,d.2.1,d.2.2.1,d.2.2.2.1,d.2.2.2.2.1,d.2.2.2.2.2.1,d.2.2.2.2.2.2.1,d.2.2.2.2.2.2.2.1,d.2.2.2.2.2.2.2.2.1,d.2.2.2.2.2.2.2.2.2.1,d.2.2.2.2.2.2.2.2.2.2.1,d.2.2.2.2.2.2.2.2.2.2.2)) fun r1 =>
 bif r1.1.Kind==1
 then (none)
 else (bif r1.1.Kind==2
 then (Option.bind (bif r1.2.2.2.2.2.1
 then (some true)
 else (some (decide (64<(r1.1.Text.size:Int))))) fun q2 =>
 Option.bind (y2 (r1.2.1,wr .i64 (r1.2.2.1+1),r1.2.2.2.1,r1.2.2.2.2.1,q2,wr .i64 (r1.2.2.2.2.2.2.1+1),r1.2.2.2.2.2.2.2.1,r1.2.2.2.2.2.2.2.2.1,r1.2.2.2.2.2.2.2.2.2.1,r1.2.2.2.2.2.2.2.2.2.2.1,r1.2.2.2.2.2.2.2.2.2.2.2.1,r1.2.2.2.2.2.2.2.2.2.2.2.2) (Api_TypeNode.mk 4 0 0 r1.1.Text ([]:List Int) ([]:List Api_Field) (0,0))) fun r3 =>
 some (r3.1,(r3.2.1,r3.2.2.1,r3.2.2.2.1,r3.2.2.2.2.1,r3.2.2.2.2.2.1,r3.2.2.2.2.2.2.1,r3.2.2.2.2.2.2.2.1,r3.2.2.2.2.2.2.2.2.1,r3.2.2.2.2.2.2.2.2.2.1,r3.2.2.2.2.2.2.2.2.2.2.1,r3.2.2.2.2.2.2.2.2.2.2.2.1,r3.2.2.2.2.2.2.2.2.2.2.2.2)))
 else (bif r1.1.Kind==3
 then (none)
 else (bif r1.1.Kind==0
 then (Option.bind (rec_semtyperef18_typer_word (r1.2.1,wr .i64 (r1.2.2.1+1),r1.2.2.2.1,r1.2.2.2.2.1,r1.2.2.2.2.2.1,wr .i64 (r1.2.2.2.2.2.2.1+1),r1.2.2.2.2.2.2.2.1,r1.2.2.2.2.2.2.2.2.1,r1.2.2.2.2.2.2.2.2.2.1,r1.2.2.2.2.2.2.2.2.2.2.1,r1.2.2.2.2.2.2.2.2.2.2.2.1,r1.2.2.2.2.2.2.2.2.2.2.2.2) r1.1.Text) fun r4 =>
 some (r4.1,(r4.2.1,r4.2.2.1,r4.2.2.2.1,r4.2.2.2.2.1,r4.2.2.2.2.2.1,r4.2.2.2.2.2.2.1,r4.2.2.2.2.2.2.2.1,r4.2.2.2.2.2.2.2.2.1,r4.2.2.2.2.2.2.2.2.2.1,r4.2.2.2.2.2.2.2.2.2.2.1,r4.2.2.2.2.2.2.2.2.2.2.2.1,r4.2.2.2.2.2.2.2.2.2.2.2.2)))
 else (bif r1.1.Kind==4
 then (Option.bind (rec_semtyperef18_typer_compound (r1.2.1,wr .i64 (r1.2.2.1+1),r1.2.2.2.1,r1.2.2.2.2.1,r1.2.2.2.2.2.1,wr .i64 (r1.2.2.2.2.2.2.1+1),r1.2.2.2.2.2.2.2.1,r1.2.2.2.2.2.2.2.2.1,r1.2.2.2.2.2.2.2.2.2.1,r1.2.2.2.2.2.2.2.2.2.2.1,r1.2.2.2.2.2.2.2.2.2.2.2.1,r1.2.2.2.2.2.2.2.2.2.2.2.2) r1.1.Text) fun r5 =>
 some (r5.1,(r5.2.1,r5.2.2.1,r5.2.2.2.1,r5.2.2.2.2.1,r5.2.2.2.2.2.1,r5.2.2.2.2.2.2.1,r5.2.2.2.2.2.2.2.1,r5.2.2.2.2.2.2.2.2.1,r5.2.2.2.2.2.2.2.2.2.1,r5.2.2.2.2.2.2.2.2.2.2.1,r5.2.2.2.2.2.2.2.2.2.2.2.1,r5.2.2.2.2.2.2.2.2.2.2.2.2)))
 else (some (0,(r1.2.1,wr .i64 (r1.2.2.1+1),true,r1.2.2.2.2.1,r1.2.2.2.2.2.1,wr .i64 (r1.2.2.2.2.2.2.1+1),r1.2.2.2.2.2.2.2.1,r1.2.2.2.2.2.2.2.2.1,r1.2.2.2.2.2.2.2.2.2.1,r1.2.2.2.2.2.2.2.2.2.2.1,r1.2.2.2.2.2.2.2.2.2.2.2.1,r1.2.2.2.2.2.2.2.2.2.2.2.2)))))))
def a7v (n:Nat)(_:((List Semtyperef18_token)×Int×Bool×Bool×Bool×Int×(List Api_TypeNode)×Int×(List ByteArray)×(List Int)×(List Bool)×(List ByteArray))->ByteArray->Option (Int×((List Semtyperef18_token)×Int×Bool×Bool×Bool×Int×(List Api_TypeNode)×Int×(List ByteArray)×(List Int)×(List Bool)×(List ByteArray))))(_:((List Semtyperef18_token)×Int×Bool×Bool×Bool×Int×(List Api_TypeNode)×Int×(List ByteArray)×(List Int)×(List Bool)×(List ByteArray))->Option (Int×((List Semtyperef18_token)×Int×Bool×Bool×Bool×Int×(List Api_TypeNode)×Int×(List ByteArray)×(List Int)×(List Bool)×(List ByteArray))))(_:((List Semtyperef18_token)×Int×Bool×Bool×Bool×Int×(List Api_TypeNode)×Int×(List ByteArray)×(List Int)×(List Bool)×(List ByteArray))->Option (Int×((List Semtyperef18_token)×Int×Bool×Bool×Bool×Int×(List Api_TypeNode)×Int×(List ByteArray)×(List Int)×(List Bool)×(List ByteArray))))(_:((List Semtyperef18_token)×Int×Bool×Bool×Bool×Int×(List Api_TypeNode)×Int×(List ByteArray)×(List Int)×(List Bool)×(List ByteArray))->Option (Int×((List Semtyperef18_token)×Int×Bool×Bool×Bool×Int×(List Api_TypeNode)×Int×(List ByteArray)×(List Int)×(List Bool)×(List ByteArray))))(rec_semtyperef18_typer_read:((List Semtyperef18_token)×Int×Bool×Bool×Bool×Int×(List Api_TypeNode)×Int×(List ByteArray)×(List Int)×(List Bool)×(List ByteArray))->Option (Int×((List Semtyperef18_token)×Int×Bool×Bool×Bool×Int×(List Api_TypeNode)×Int×(List ByteArray)×(List Int)×(List Bool)×(List ByteArray))))(_:((List Semtyperef18_token)×Int×Bool×Bool×Bool×Int×(List Api_TypeNode)×Int×(List ByteArray)×(List Int)×(List Bool)×(List ByteArray))->Option (Int×((List Semtyperef18_token)×Int×Bool×Bool×Bool×Int×(List Api_TypeNode)×Int×(List ByteArray)×(List Int)×(List Bool)×(List ByteArray))))(_:((List Semtyperef18_token)×Int×Bool×Bool×Bool×Int×(List Api_TypeNode)×Int×(List ByteArray)×(List Int)×(List Bool)×(List ByteArray))->ByteArray->Option ((List Int)×((List Semtyperef18_token)×Int×Bool×Bool×Bool×Int×(List Api_TypeNode)×Int×(List ByteArray)×(List Int)×(List Bool)×(List ByteArray))))(_:((List Semtyperef18_token)×Int×Bool×Bool×Bool×Int×(List Api_TypeNode)×Int×(List ByteArray)×(List Int)×(List Bool)×(List ByteArray))->Option (Int×((List Semtyperef18_token)×Int×Bool×Bool×Bool×Int×(List Api_TypeNode)×Int×(List ByteArray)×(List Int)×(List Bool)×(List ByteArray))))(_:((List Semtyperef18_token)×Int×Bool×Bool×Bool×Int×(List Api_TypeNode)×Int×(List ByteArray)×(List Int)×(List Bool)×(List ByteArray))->ByteArray->Option (Int×((List Semtyperef18_token)×Int×Bool×Bool×Bool×Int×(List Api_TypeNode)×Int×(List ByteArray)×(List Int)×(List Bool)×(List ByteArray))))(p:(List Semtyperef18_token)×Int×Bool×Bool×Bool×Int×(List Api_TypeNode)×Int×(List ByteArray)×(List Int)×(List Bool)×(List ByteArray))(stop:ByteArray):Option ((List Int)×((List Semtyperef18_token)×Int×Bool×Bool×Bool×Int×(List Api_TypeNode)×Int×(List ByteArray)×(List Int)×(List Bool)×(List ByteArray))) :=
 Option.bind (Z3 (p.1,p.2.1,p.2.2.1,p.2.2.2.1,p.2.2.2.2.1,p.2.2.2.2.2.1,p.2.2.2.2.2.2.1,p.2.2.2.2.2.2.2.1,p.2.2.2.2.2.2.2.2.1,p.2.2.2.2.2.2.2.2.2.1,p.2.2.2.2.2.2.2.2.2.2.1,p.2.2.2.2.2.2.2.2.2.2.2) 4 stop) fun r1 =>
 bif r1.1
 then (some ([],(r1.2.1,r1.2.2.1,r1.2.2.2.1,r1.2.2.2.2.1,r1.2.2.2.2.2.1,r1.2.2.2.2.2.2.1,r1.2.2.2.2.2.2.2.1,r1.2.2.2.2.2.2.2.2.1,r1.2.2.2.2.2.2.2.2.2.1,r1.2.2.2.2.2.2.2.2.2.2.1,r1.2.2.2.2.2.2.2.2.2.2.2.1,r1.2.2.2.2.2.2.2.2.2.2.2.2)))
 else (Option.bind (z8 (a65 stop rec_semtyperef18_typer_read) n ([],(r1.2.1,r1.2.2.1,r1.2.2.2.1,r1.2.2.2.2.1,r1.2.2.2.2.2.1,r1.2.2.2.2.2.2.1,r1.2.2.2.2.2.2.2.1,r1.2.2.2.2.2.2.2.2.1,r1.2.2.2.2.2.2.2.2.2.1,r1.2.2.2.2.2.2.2.2.2.2.1,r1.2.2.2.2.2.2.2.2.2.2.2.1,r1.2.2.2.2.2.2.2.2.2.2.2.2))) fun b7 =>
 Q3 (fun x8 =>
 some ([],(x8.1,x8.2.1,x8.2.2.1,x8.2.2.2.1,x8.2.2.2.2.1,x8.2.2.2.2.2.1,x8.2.2.2.2.2.2.1,x8.2.2.2.2.2.2.2.1,x8.2.2.2.2.2.2.2.2.1,x8.2.2.2.2.2.2.2.2.2.1,x8.2.2.2.2.2.2.2.2.2.2.1,x8.2.2.2.2.2.2.2.2.2.2.2))) (fun y9 =>
 some (y9.1,(y9.2.1,y9.2.2.1,y9.2.2.2.1,y9.2.2.2.2.1,y9.2.2.2.2.2.1,y9.2.2.2.2.2.2.1,y9.2.2.2.2.2.2.2.1,y9.2.2.2.2.2.2.2.2.1,y9.2.2.2.2.2.2.2.2.2.1,y9.2.2.2.2.2.2.2.2.2.2.1,y9.2.2.2.2.2.2.2.2.2.2.2.1,y9.2.2.2.2.2.2.2.2.2.2.2.2))) b7)
def a7L (n:Nat)(_:((List Semtyperef18_token)×Int×Bool×Bool×Bool×Int×(List Api_TypeNode)×Int×(List ByteArray)×(List Int)×(List Bool)×(List ByteArray))->ByteArray->Option (Int×((List Semtyperef18_token)×Int×Bool×Bool×Bool×Int×(List Api_TypeNode)×Int×(List ByteArray)×(List Int)×(List Bool)×(List ByteArray))))(rec_semtyperef18_typer_inter:((List Semtyperef18_token)×Int×Bool×Bool×Bool×Int×(List Api_TypeNode)×Int×(List ByteArray)×(List Int)×(List Bool)×(List ByteArray))->Option (Int×((List Semtyperef18_token)×Int×Bool×Bool×Bool×Int×(List Api_TypeNode)×Int×(List ByteArray)×(List Int)×(List Bool)×(List ByteArray))))(_:((List Semtyperef18_token)×Int×Bool×Bool×Bool×Int×(List Api_TypeNode)×Int×(List ByteArray)×(List Int)×(List Bool)×(List ByteArray))->Option (Int×((List Semtyperef18_token)×Int×Bool×Bool×Bool×Int×(List Api_TypeNode)×Int×(List ByteArray)×(List Int)×(List Bool)×(List ByteArray))))(_:((List Semtyperef18_token)×Int×Bool×Bool×Bool×Int×(List Api_TypeNode)×Int×(List ByteArray)×(List Int)×(List Bool)×(List ByteArray))->Option (Int×((List Semtyperef18_token)×Int×Bool×Bool×Bool×Int×(List Api_TypeNode)×Int×(List ByteArray)×(List Int)×(List Bool)×(List ByteArray))))(_:((List Semtyperef18_token)×Int×Bool×Bool×Bool×Int×(List Api_TypeNode)×Int×(List ByteArray)×(List Int)×(List Bool)×(List ByteArray))->Option (Int×((List Semtyperef18_token)×Int×Bool×Bool×Bool×Int×(List Api_TypeNode)×Int×(List ByteArray)×(List Int)×(List Bool)×(List ByteArray))))(_:((List Semtyperef18_token)×Int×Bool×Bool×Bool×Int×(List Api_TypeNode)×Int×(List ByteArray)×(List Int)×(List Bool)×(List ByteArray))->Option (Int×((List Semtyperef18_token)×Int×Bool×Bool×Bool×Int×(List Api_TypeNode)×Int×(List ByteArray)×(List Int)×(List Bool)×(List ByteArray))))(_:((List Semtyperef18_token)×Int×Bool×Bool×Bool×Int×(List Api_TypeNode)×Int×(List ByteArray)×(List Int)×(List Bool)×(List ByteArray))->ByteArray->Option ((List Int)×((List Semtyperef18_token)×Int×Bool×Bool×Bool×Int×(List Api_TypeNode)×Int×(List ByteArray)×(List Int)×(List Bool)×(List ByteArray))))(_:((List Semtyperef18_token)×Int×Bool×Bool×Bool×Int×(List Api_TypeNode)×Int×(List ByteArray)×(List Int)×(List Bool)×(List ByteArray))->Option (Int×((List Semtyperef18_token)×Int×Bool×Bool×Bool×Int×(List Api_TypeNode)×Int×(List ByteArray)×(List Int)×(List Bool)×(List ByteArray))))(_:((List Semtyperef18_token)×Int×Bool×Bool×Bool×Int×(List Api_TypeNode)×Int×(List ByteArray)×(List Int)×(List Bool)×(List ByteArray))->ByteArray->Option (Int×((List Semtyperef18_token)×Int×Bool×Bool×Bool×Int×(List Api_TypeNode)×Int×(List ByteArray)×(List Int)×(List Bool)×(List ByteArray))))(p:(List Semtyperef18_token)×Int×Bool×Bool×Bool×Int×(List Api_TypeNode)×Int×(List ByteArray)×(List Int)×(List Bool)×(List ByteArray)):Option (Int×((List Semtyperef18_token)×Int×Bool×Bool×Bool×Int×(List Api_TypeNode)×Int×(List ByteArray)×(List Int)×(List Bool)×(List ByteArray))) :=
 Option.bind (rec_semtyperef18_typer_inter (p.1,p.2.1,p.2.2.1,p.2.2.2.1,p.2.2.2.2.1,p.2.2.2.2.2.1,p.2.2.2.2.2.2.1,p.2.2.2.2.2.2.2.1,p.2.2.2.2.2.2.2.2.1,p.2.2.2.2.2.2.2.2.2.1,p.2.2.2.2.2.2.2.2.2.2.1,p.2.2.2.2.2.2.2.2.2.2.2)) fun r1 =>
 Option.bind (z8 (a7b rec_semtyperef18_typer_inter) n (([r1.1]:List Int),(r1.2.1,r1.2.2.1,r1.2.2.2.1,r1.2.2.2.2.1,r1.2.2.2.2.2.1,r1.2.2.2.2.2.2.1,r1.2.2.2.2.2.2.2.1,r1.2.2.2.2.2.2.2.2.1,r1.2.2.2.2.2.2.2.2.2.1,r1.2.2.2.2.2.2.2.2.2.2.1,r1.2.2.2.2.2.2.2.2.2.2.2.1,r1.2.2.2.2.2.2.2.2.2.2.2.2))) fun b6 =>
 bif (b6.1.length:Int)==1
 then (Option.bind (idx b6.1 0) fun _ =>
 Option.bind (b6.1[(0:Int).toNat]?) fun e8 =>
 some (e8,(b6.2.1,b6.2.2.1,b6.2.2.2.1,b6.2.2.2.2.1,b6.2.2.2.2.2.1,b6.2.2.2.2.2.2.1,b6.2.2.2.2.2.2.2.1,b6.2.2.2.2.2.2.2.2.1,b6.2.2.2.2.2.2.2.2.2.1,b6.2.2.2.2.2.2.2.2.2.2.1,b6.2.2.2.2.2.2.2.2.2.2.2.1,b6.2.2.2.2.2.2.2.2.2.2.2.2)))
 else (Option.bind (y2 (b6.2.1,b6.2.2.1,b6.2.2.2.1,b6.2.2.2.2.1,b6.2.2.2.2.2.1,b6.2.2.2.2.2.2.1,b6.2.2.2.2.2.2.2.1,b6.2.2.2.2.2.2.2.2.1,b6.2.2.2.2.2.2.2.2.2.1,b6.2.2.2.2.2.2.2.2.2.2.1,b6.2.2.2.2.2.2.2.2.2.2.2.1,b6.2.2.2.2.2.2.2.2.2.2.2.2) (Api_TypeNode.mk 16 0 0 (⟨#[]⟩:ByteArray) b6.1 ([]:List Api_Field) (0,0))) fun r9 =>
 some (r9.1,(r9.2.1,r9.2.2.1,r9.2.2.2.1,r9.2.2.2.2.1,r9.2.2.2.2.2.1,r9.2.2.2.2.2.2.1,r9.2.2.2.2.2.2.2.1,r9.2.2.2.2.2.2.2.2.1,r9.2.2.2.2.2.2.2.2.2.1,r9.2.2.2.2.2.2.2.2.2.2.1,r9.2.2.2.2.2.2.2.2.2.2.2.1,r9.2.2.2.2.2.2.2.2.2.2.2.2)))
def a74 (_:Nat)(_:((List Semtyperef18_token)×Int×Bool×Bool×Bool×Int×(List Api_TypeNode)×Int×(List ByteArray)×(List Int)×(List Bool)×(List ByteArray))->ByteArray->Option (Int×((List Semtyperef18_token)×Int×Bool×Bool×Bool×Int×(List Api_TypeNode)×Int×(List ByteArray)×(List Int)×(List Bool)×(List ByteArray))))(_:((List Semtyperef18_token)×Int×Bool×Bool×Bool×Int×(List Api_TypeNode)×Int×(List ByteArray)×(List Int)×(List Bool)×(List ByteArray))->Option (Int×((List Semtyperef18_token)×Int×Bool×Bool×Bool×Int×(List Api_TypeNode)×Int×(List ByteArray)×(List Int)×(List Bool)×(List ByteArray))))(_:((List Semtyperef18_token)×Int×Bool×Bool×Bool×Int×(List Api_TypeNode)×Int×(List ByteArray)×(List Int)×(List Bool)×(List ByteArray))->Option (Int×((List Semtyperef18_token)×Int×Bool×Bool×Bool×Int×(List Api_TypeNode)×Int×(List ByteArray)×(List Int)×(List Bool)×(List ByteArray))))(_:((List Semtyperef18_token)×Int×Bool×Bool×Bool×Int×(List Api_TypeNode)×Int×(List ByteArray)×(List Int)×(List Bool)×(List ByteArray))->Option (Int×((List Semtyperef18_token)×Int×Bool×Bool×Bool×Int×(List Api_TypeNode)×Int×(List ByteArray)×(List Int)×(List Bool)×(List ByteArray))))(rec_semtyperef18_typer_read:((List Semtyperef18_token)×Int×Bool×Bool×Bool×Int×(List Api_TypeNode)×Int×(List ByteArray)×(List Int)×(List Bool)×(List ByteArray))->Option (Int×((List Semtyperef18_token)×Int×Bool×Bool×Bool×Int×(List Api_TypeNode)×Int×(List ByteArray)×(List Int)×(List Bool)×(List ByteArray))))(_:((List Semtyperef18_token)×Int×Bool×Bool×Bool×Int×(List Api_TypeNode)×Int×(List ByteArray)×(List Int)×(List Bool)×(List ByteArray))->Option (Int×((List Semtyperef18_token)×Int×Bool×Bool×Bool×Int×(List Api_TypeNode)×Int×(List ByteArray)×(List Int)×(List Bool)×(List ByteArray))))(_:((List Semtyperef18_token)×Int×Bool×Bool×Bool×Int×(List Api_TypeNode)×Int×(List ByteArray)×(List Int)×(List Bool)×(List ByteArray))->ByteArray->Option ((List Int)×((List Semtyperef18_token)×Int×Bool×Bool×Bool×Int×(List Api_TypeNode)×Int×(List ByteArray)×(List Int)×(List Bool)×(List ByteArray))))(_:((List Semtyperef18_token)×Int×Bool×Bool×Bool×Int×(List Api_TypeNode)×Int×(List ByteArray)×(List Int)×(List Bool)×(List ByteArray))->Option (Int×((List Semtyperef18_token)×Int×Bool×Bool×Bool×Int×(List Api_TypeNode)×Int×(List ByteArray)×(List Int)×(List Bool)×(List ByteArray))))(_:((List Semtyperef18_token)×Int×Bool×Bool×Bool×Int×(List Api_TypeNode)×Int×(List ByteArray)×(List Int)×(List Bool)×(List ByteArray))->ByteArray->Option (Int×((List Semtyperef18_token)×Int×Bool×Bool×Bool×Int×(List Api_TypeNode)×Int×(List ByteArray)×(List Int)×(List Bool)×(List ByteArray))))(d:(List Semtyperef18_token)×Int×Bool×Bool×Bool×Int×(List Api_TypeNode)×Int×(List ByteArray)×(List Int)×(List Bool)×(List ByteArray))(t:ByteArray):Option (Int×((List Semtyperef18_token)×Int×Bool×Bool×Bool×Int×(List Api_TypeNode)×Int×(List ByteArray)×(List Int)×(List Bool)×(List ByteArray))) :=
 bif j7 t (⟨#[110,111,110,101]⟩:ByteArray)
 then (Option.bind (y2 (d.1,d.2.1,d.2.2.1,d.2.2.2.1,d.2.2.2.2.1,d.2.2.2.2.2.1,d.2.2.2.2.2.2.1,d.2.2.2.2.2.2.2.1,d.2.2.2.2.2.2.2.2.1,d.2.2.2.2.2.2.2.2.2.1,d.2.2.2.2.2.2.2.2.2.2.1,d.2.2.2.2.2.2.2.2.2.2.2) (Api_TypeNode.mk 1 0 0 (⟨#[]⟩:ByteArray) ([]:List Int) ([]:List Api_Field) (0,0))) fun r1 =>
 some (r1.1,(r1.2.1,r1.2.2.1,r1.2.2.2.1,r1.2.2.2.2.1,r1.2.2.2.2.2.1,r1.2.2.2.2.2.2.1,r1.2.2.2.2.2.2.2.1,r1.2.2.2.2.2.2.2.2.1,r1.2.2.2.2.2.2.2.2.2.1,r1.2.2.2.2.2.2.2.2.2.2.1,r1.2.2.2.2.2.2.2.2.2.2.2.1,r1.2.2.2.2.2.2.2.2.2.2.2.2)))
 else (bif j7 t (⟨#[97,110,121]⟩:ByteArray)
 then (Option.bind (y2 (d.1,d.2.1,d.2.2.1,d.2.2.2.1,d.2.2.2.2.1,d.2.2.2.2.2.1,d.2.2.2.2.2.2.1,d.2.2.2.2.2.2.2.1,d.2.2.2.2.2.2.2.2.1,d.2.2.2.2.2.2.2.2.2.1,d.2.2.2.2.2.2.2.2.2.2.1,d.2.2.2.2.2.2.2.2.2.2.2) (Api_TypeNode.mk 2 0 0 (⟨#[]⟩:ByteArray) ([]:List Int) ([]:List Api_Field) (0,0))) fun r2 =>
 some (r2.1,(r2.2.1,r2.2.2.1,r2.2.2.2.1,r2.2.2.2.2.1,r2.2.2.2.2.2.1,r2.2.2.2.2.2.2.1,r2.2.2.2.2.2.2.2.1,r2.2.2.2.2.2.2.2.2.1,r2.2.2.2.2.2.2.2.2.2.1,r2.2.2.2.2.2.2.2.2.2.2.1,r2.2.2.2.2.2.2.2.2.2.2.2.1,r2.2.2.2.2.2.2.2.2.2.2.2.2)))
 else (bif j7 t (⟨#[105,110,116]⟩:ByteArray)
 then (Option.bind (y2 (d.1,d.2.1,d.2.2.1,d.2.2.2.1,d.2.2.2.2.1,d.2.2.2.2.2.1,d.2.2.2.2.2.2.1,d.2.2.2.2.2.2.2.1,d.2.2.2.2.2.2.2.2.1,d.2.2.2.2.2.2.2.2.2.1,d.2.2.2.2.2.2.2.2.2.2.1,d.2.2.2.2.2.2.2.2.2.2.2) (Api_TypeNode.mk 3 (-9223372036854775808) 9223372036854775807 (⟨#[]⟩:ByteArray) ([]:List Int) ([]:List Api_Field) (0,0))) fun r3 =>
 some (r3.1,(r3.2.1,r3.2.2.1,r3.2.2.2.1,r3.2.2.2.2.1,r3.2.2.2.2.2.1,r3.2.2.2.2.2.2.1,r3.2.2.2.2.2.2.2.1,r3.2.2.2.2.2.2.2.2.1,r3.2.2.2.2.2.2.2.2.2.1,r3.2.2.2.2.2.2.2.2.2.2.1,r3.2.2.2.2.2.2.2.2.2.2.2.1,r3.2.2.2.2.2.2.2.2.2.2.2.2)))
 else (bif j7 t (⟨#[115,116,114,105,110,103]⟩:ByteArray)
 then (Option.bind (y2 (d.1,d.2.1,d.2.2.1,d.2.2.2.1,d.2.2.2.2.1,d.2.2.2.2.2.1,d.2.2.2.2.2.2.1,d.2.2.2.2.2.2.2.1,d.2.2.2.2.2.2.2.2.1,d.2.2.2.2.2.2.2.2.2.1,d.2.2.2.2.2.2.2.2.2.2.1,d.2.2.2.2.2.2.2.2.2.2.2) (Api_TypeNode.mk 5 0 0 (⟨#[]⟩:ByteArray) ([]:List Int) ([]:List Api_Field) (0,0))) fun r4 =>
 some (r4.1,(r4.2.1,r4.2.2.1,r4.2.2.2.1,r4.2.2.2.2.1,r4.2.2.2.2.2.1,r4.2.2.2.2.2.2.1,r4.2.2.2.2.2.2.2.1,r4.2.2.2.2.2.2.2.2.1,r4.2.2.2.2.2.2.2.2.2.1,r4.2.2.2.2.2.2.2.2.2.2.1,r4.2.2.2.2.2.2.2.2.2.2.2.1,r4.2.2.2.2.2.2.2.2.2.2.2.2)))
 else (bif j7 t (⟨#[97,116,111,109]⟩:ByteArray)
 then (Option.bind (y2 (d.1,d.2.1,d.2.2.1,d.2.2.2.1,d.2.2.2.2.1,d.2.2.2.2.2.1,d.2.2.2.2.2.2.1,d.2.2.2.2.2.2.2.1,d.2.2.2.2.2.2.2.2.1,d.2.2.2.2.2.2.2.2.2.1,d.2.2.2.2.2.2.2.2.2.2.1,d.2.2.2.2.2.2.2.2.2.2.2) (Api_TypeNode.mk 7 0 0 (⟨#[]⟩:ByteArray) ([]:List Int) ([]:List Api_Field) (0,0))) fun r5 =>
 some (r5.1,(r5.2.1,r5.2.2.1,r5.2.2.2.1,r5.2.2.2.2.1,r5.2.2.2.2.2.1,r5.2.2.2.2.2.2.1,r5.2.2.2.2.2.2.2.1,r5.2.2.2.2.2.2.2.2.1,r5.2.2.2.2.2.2.2.2.2.1,r5.2.2.2.2.2.2.2.2.2.2.1,r5.2.2.2.2.2.2.2.2.2.2.2.1,r5.2.2.2.2.2.2.2.2.2.2.2.2)))
 else (bif j7 t (⟨#[112,105,100]⟩:ByteArray)
 then (Option.bind (y2 (d.1,d.2.1,d.2.2.1,d.2.2.2.1,d.2.2.2.2.1,d.2.2.2.2.2.1,d.2.2.2.2.2.2.1,d.2.2.2.2.2.2.2.1,d.2.2.2.2.2.2.2.2.1,d.2.2.2.2.2.2.2.2.2.1,d.2.2.2.2.2.2.2.2.2.2.1,d.2.2.2.2.2.2.2.2.2.2.2) (Api_TypeNode.mk 8 0 0 (⟨#[]⟩:ByteArray) ([]:List Int) ([]:List Api_Field) (0,0))) fun r6 =>
 some (r6.1,(r6.2.1,r6.2.2.1,r6.2.2.2.1,r6.2.2.2.2.1,r6.2.2.2.2.2.1,r6.2.2.2.2.2.2.1,r6.2.2.2.2.2.2.2.1,r6.2.2.2.2.2.2.2.2.1,r6.2.2.2.2.2.2.2.2.2.1,r6.2.2.2.2.2.2.2.2.2.2.1,r6.2.2.2.2.2.2.2.2.2.2.2.1,r6.2.2.2.2.2.2.2.2.2.2.2.2)))
 else (bif j7 t (⟨#[116,117,112,108,101]⟩:ByteArray)
 then (Option.bind (y2 (d.1,d.2.1,d.2.2.1,d.2.2.2.1,d.2.2.2.2.1,d.2.2.2.2.2.1,d.2.2.2.2.2.2.1,d.2.2.2.2.2.2.2.1,d.2.2.2.2.2.2.2.2.1,d.2.2.2.2.2.2.2.2.2.1,d.2.2.2.2.2.2.2.2.2.2.1,d.2.2.2.2.2.2.2.2.2.2.2) (Api_TypeNode.mk 11 0 0 (⟨#[]⟩:ByteArray) ([]:List Int) ([]:List Api_Field) (0,0))) fun r7 =>
 some (r7.1,(r7.2.1,r7.2.2.1,r7.2.2.2.1,r7.2.2.2.2.1,r7.2.2.2.2.2.1,r7.2.2.2.2.2.2.1,r7.2.2.2.2.2.2.2.1,r7.2.2.2.2.2.2.2.2.1,r7.2.2.2.2.2.2.2.2.2.1,r7.2.2.2.2.2.2.2.2.2.2.1,r7.2.2.2.2.2.2.2.2.2.2.2.1,r7.2.2.2.2.2.2.2.2.2.2.2.2)))
 else (bif j7 t (⟨#[102,117,110]⟩:ByteArray)
 then (Option.bind (y2 (d.1,d.2.1,d.2.2.1,d.2.2.2.1,d.2.2.2.2.1,d.2.2.2.2.2.1,d.2.2.2.2.2.2.1,d.2.2.2.2.2.2.2.1,d.2.2.2.2.2.2.2.2.1,d.2.2.2.2.2.2.2.2.2.1,d.2.2.2.2.2.2.2.2.2.2.1,d.2.2.2.2.2.2.2.2.2.2.2) (Api_TypeNode.mk 15 0 0 (⟨#[]⟩:ByteArray) ([]:List Int) ([]:List Api_Field) (0,0))) fun r8 =>
 some (r8.1,(r8.2.1,r8.2.2.1,r8.2.2.2.1,r8.2.2.2.2.1,r8.2.2.2.2.2.1,r8.2.2.2.2.2.2.1,r8.2.2.2.2.2.2.2.1,r8.2.2.2.2.2.2.2.2.1,r8.2.2.2.2.2.2.2.2.2.1,r8.2.2.2.2.2.2.2.2.2.2.1,r8.2.2.2.2.2.2.2.2.2.2.2.1,r8.2.2.2.2.2.2.2.2.2.2.2.2)))
 else (bif j7 t (⟨#[108,105,115,116]⟩:ByteArray)
 then (Option.bind (Y6 (d.1,d.2.1,d.2.2.1,d.2.2.2.1,d.2.2.2.2.1,d.2.2.2.2.2.1,d.2.2.2.2.2.2.1,d.2.2.2.2.2.2.2.1,d.2.2.2.2.2.2.2.2.1,d.2.2.2.2.2.2.2.2.2.1,d.2.2.2.2.2.2.2.2.2.2.1,d.2.2.2.2.2.2.2.2.2.2.2) (⟨#[40]⟩:ByteArray)) fun r9 =>
 Option.bind (rec_semtyperef18_typer_read (r9.1,r9.2.1,r9.2.2.1,r9.2.2.2.1,r9.2.2.2.2.1,r9.2.2.2.2.2.1,r9.2.2.2.2.2.2.1,r9.2.2.2.2.2.2.2.1,r9.2.2.2.2.2.2.2.2.1,r9.2.2.2.2.2.2.2.2.2.1,r9.2.2.2.2.2.2.2.2.2.2.1,r9.2.2.2.2.2.2.2.2.2.2.2)) fun r10 =>
 Option.bind (Y6 (r10.2.1,r10.2.2.1,r10.2.2.2.1,r10.2.2.2.2.1,r10.2.2.2.2.2.1,r10.2.2.2.2.2.2.1,r10.2.2.2.2.2.2.2.1,r10.2.2.2.2.2.2.2.2.1,r10.2.2.2.2.2.2.2.2.2.1,r10.2.2.2.2.2.2.2.2.2.2.1,r10.2.2.2.2.2.2.2.2.2.2.2.1,r10.2.2.2.2.2.2.2.2.2.2.2.2) (⟨#[41]⟩:ByteArray)) fun r11 =>
 Option.bind (y2 (r11.1,r11.2.1,r11.2.2.1,r11.2.2.2.1,r11.2.2.2.2.1,r11.2.2.2.2.2.1,r11.2.2.2.2.2.2.1,r11.2.2.2.2.2.2.2.1,r11.2.2.2.2.2.2.2.2.1,r11.2.2.2.2.2.2.2.2.2.1,r11.2.2.2.2.2.2.2.2.2.2.1,r11.2.2.2.2.2.2.2.2.2.2.2) (Api_TypeNode.mk 9 0 0 (⟨#[]⟩:ByteArray) ([]:List Int) ([]:List Api_Field) (0,0))) fun r12 =>
 Option.bind (y2 (r12.2.1,r12.2.2.1,r12.2.2.2.1,r12.2.2.2.2.1,r12.2.2.2.2.2.1,r12.2.2.2.2.2.2.1,r12.2.2.2.2.2.2.2.1,r12.2.2.2.2.2.2.2.2.1,r12.2.2.2.2.2.2.2.2.2.1,r12.2.2.2.2.2.2.2.2.2.2.1,r12.2.2.2.2.2.2.2.2.2.2.2.1,r12.2.2.2.2.2.2.2.2.2.2.2.2) (Api_TypeNode.mk 12 0 0 (⟨#[]⟩:ByteArray) ([r10.1,wr .i64 (r12.1+2)]:List Int) ([]:List Api_Field) (0,0))) fun r13 =>
 Option.bind (y2 (r13.2.1,r13.2.2.1,r13.2.2.2.1,r13.2.2.2.2.1,r13.2.2.2.2.2.1,r13.2.2.2.2.2.2.1,r13.2.2.2.2.2.2.2.1,r13.2.2.2.2.2.2.2.2.1,r13.2.2.2.2.2.2.2.2.2.1,r13.2.2.2.2.2.2.2.2.2.2.1,r13.2.2.2.2.2.2.2.2.2.2.2.1,r13.2.2.2.2.2.2.2.2.2.2.2.2) (Api_TypeNode.mk 16 0 0 (⟨#[]⟩:ByteArray) ([r12.1,r13.1]:List Int) ([]:List Api_Field) (0,0))) fun r14 =>
 some (r14.1,(r14.2.1,r14.2.2.1,r14.2.2.2.1,r14.2.2.2.2.1,r14.2.2.2.2.2.1,r14.2.2.2.2.2.2.1,r14.2.2.2.2.2.2.2.1,r14.2.2.2.2.2.2.2.2.1,r14.2.2.2.2.2.2.2.2.2.1,r14.2.2.2.2.2.2.2.2.2.2.1,r14.2.2.2.2.2.2.2.2.2.2.2.1,r14.2.2.2.2.2.2.2.2.2.2.2.2)))
 else (none)))))))))
def z7:Nat->(((List Semtyperef18_token)×Int×Bool×Bool×Bool×Int×(List Api_TypeNode)×Int×(List ByteArray)×(List Int)×(List Bool)×(List ByteArray))->ByteArray->Option (Int×((List Semtyperef18_token)×Int×Bool×Bool×Bool×Int×(List Api_TypeNode)×Int×(List ByteArray)×(List Int)×(List Bool)×(List ByteArray))))×(((List Semtyperef18_token)×Int×Bool×Bool×Bool×Int×(List Api_TypeNode)×Int×(List ByteArray)×(List Int)×(List Bool)×(List ByteArray))->Option (Int×((List Semtyperef18_token)×Int×Bool×Bool×Bool×Int×(List Api_TypeNode)×Int×(List ByteArray)×(List Int)×(List Bool)×(List ByteArray))))×(((List Semtyperef18_token)×Int×Bool×Bool×Bool×Int×(List Api_TypeNode)×Int×(List ByteArray)×(List Int)×(List Bool)×(List ByteArray))->Option (Int×((List Semtyperef18_token)×Int×Bool×Bool×Bool×Int×(List Api_TypeNode)×Int×(List ByteArray)×(List Int)×(List Bool)×(List ByteArray))))×(((List Semtyperef18_token)×Int×Bool×Bool×Bool×Int×(List Api_TypeNode)×Int×(List ByteArray)×(List Int)×(List Bool)×(List ByteArray))->Option (Int×((List Semtyperef18_token)×Int×Bool×Bool×Bool×Int×(List Api_TypeNode)×Int×(List ByteArray)×(List Int)×(List Bool)×(List ByteArray))))×(((List Semtyperef18_token)×Int×Bool×Bool×Bool×Int×(List Api_TypeNode)×Int×(List ByteArray)×(List Int)×(List Bool)×(List ByteArray))->Option (Int×((List Semtyperef18_token)×Int×Bool×Bool×Bool×Int×(List Api_TypeNode)×Int×(List ByteArray)×(List Int)×(List Bool)×(List ByteArray))))×(((List Semtyperef18_token)×Int×Bool×Bool×Bool×Int×(List Api_TypeNode)×Int×(List ByteArray)×(List Int)×(List Bool)×(List ByteArray))->Option (Int×((List Semtyperef18_token)×Int×Bool×Bool×Bool×Int×(List Api_TypeNode)×Int×(List ByteArray)×(List Int)×(List Bool)×(List ByteArray))))×(((List Semtyperef18_token)×Int×Bool×Bool×Bool×Int×(List Api_TypeNode)×Int×(List ByteArray)×(List Int)×(List Bool)×(List ByteArray))->ByteArray->Option ((List Int)×((List Semtyperef18_token)×Int×Bool×Bool×Bool×Int×(List Api_TypeNode)×Int×(List ByteArray)×(List Int)×(List Bool)×(List ByteArray))))×(((List Semtyperef18_token)×Int×Bool×Bool×Bool×Int×(List Api_TypeNode)×Int×(List ByteArray)×(List Int)×(List Bool)×(List ByteArray))->Option (Int×((List Semtyperef18_token)×Int×Bool×Bool×Bool×Int×(List Api_TypeNode)×Int×(List ByteArray)×(List Int)×(List Bool)×(List ByteArray))))×(((List Semtyperef18_token)×Int×Bool×Bool×Bool×Int×(List Api_TypeNode)×Int×(List ByteArray)×(List Int)×(List Bool)×(List ByteArray))->ByteArray->Option (Int×((List Semtyperef18_token)×Int×Bool×Bool×Bool×Int×(List Api_TypeNode)×Int×(List ByteArray)×(List Int)×(List Bool)×(List ByteArray))))
 | 0=>(fun _ _=>none,fun _=>none,fun _=>none,fun _=>none,fun _=>none,fun _=>none,fun _ _=>none,fun _=>none,fun _ _=>none)
 | n+1=>(a5u n ((z7 n).1) ((z7 n).2.1) ((z7 n).2.2.1) ((z7 n).2.2.2.1) ((z7 n).2.2.2.2.1) ((z7 n).2.2.2.2.2.1) ((z7 n).2.2.2.2.2.2.1) ((z7 n).2.2.2.2.2.2.2.1) ((z7 n).2.2.2.2.2.2.2.2),a7w n ((z7 n).1) ((z7 n).2.1) ((z7 n).2.2.1) ((z7 n).2.2.2.1) ((z7 n).2.2.2.2.1) ((z7 n).2.2.2.2.2.1) ((z7 n).2.2.2.2.2.2.1) ((z7 n).2.2.2.2.2.2.2.1) ((z7 n).2.2.2.2.2.2.2.2),a5X n ((z7 n).1) ((z7 n).2.1) ((z7 n).2.2.1) ((z7 n).2.2.2.1) ((z7 n).2.2.2.2.1) ((z7 n).2.2.2.2.2.1) ((z7 n).2.2.2.2.2.2.1) ((z7 n).2.2.2.2.2.2.2.1) ((z7 n).2.2.2.2.2.2.2.2),a64 n ((z7 n).1) ((z7 n).2.1) ((z7 n).2.2.1) ((z7 n).2.2.2.1) ((z7 n).2.2.2.2.1) ((z7 n).2.2.2.2.2.1) ((z7 n).2.2.2.2.2.2.1) ((z7 n).2.2.2.2.2.2.2.1) ((z7 n).2.2.2.2.2.2.2.2),a8a n ((z7 n).1) ((z7 n).2.1) ((z7 n).2.2.1) ((z7 n).2.2.2.1) ((z7 n).2.2.2.2.1) ((z7 n).2.2.2.2.2.1) ((z7 n).2.2.2.2.2.2.1) ((z7 n).2.2.2.2.2.2.2.1) ((z7 n).2.2.2.2.2.2.2.2),a61 n ((z7 n).1) ((z7 n).2.1) ((z7 n).2.2.1) ((z7 n).2.2.2.1) ((z7 n).2.2.2.2.1) ((z7 n).2.2.2.2.2.1) ((z7 n).2.2.2.2.2.2.1) ((z7 n).2.2.2.2.2.2.2.1) ((z7 n).2.2.2.2.2.2.2.2),a7v n ((z7 n).1) ((z7 n).2.1) ((z7 n).2.2.1) ((z7 n).2.2.2.1) ((z7 n).2.2.2.2.1) ((z7 n).2.2.2.2.2.1) ((z7 n).2.2.2.2.2.2.1) ((z7 n).2.2.2.2.2.2.2.1) ((z7 n).2.2.2.2.2.2.2.2),a7L n ((z7 n).1) ((z7 n).2.1) ((z7 n).2.2.1) ((z7 n).2.2.2.1) ((z7 n).2.2.2.2.1) ((z7 n).2.2.2.2.2.1) ((z7 n).2.2.2.2.2.2.1) ((z7 n).2.2.2.2.2.2.2.1) ((z7 n).2.2.2.2.2.2.2.2),a74 n ((z7 n).1) ((z7 n).2.1) ((z7 n).2.2.1) ((z7 n).2.2.2.1) ((z7 n).2.2.2.2.1) ((z7 n).2.2.2.2.2.1) ((z7 n).2.2.2.2.2.2.1) ((z7 n).2.2.2.2.2.2.2.1) ((z7 n).2.2.2.2.2.2.2.2))
def a7a (n:Nat):((List Semtyperef18_token)×Int×Bool×Bool×Bool×Int×(List Api_TypeNode)×Int×(List ByteArray)×(List Int)×(List Bool)×(List ByteArray))->ByteArray->Option (Int×((List Semtyperef18_token)×Int×Bool×Bool×Bool×Int×(List Api_TypeNode)×Int×(List ByteArray)×(List Int)×(List Bool)×(List ByteArray))):=(z7 n).1
def a9x (n:Nat):((List Semtyperef18_token)×Int×Bool×Bool×Bool×Int×(List Api_TypeNode)×Int×(List ByteArray)×(List Int)×(List Bool)×(List ByteArray))->Option (Int×((List Semtyperef18_token)×Int×Bool×Bool×Bool×Int×(List Api_TypeNode)×Int×(List ByteArray)×(List Int)×(List Bool)×(List ByteArray))):=(z7 n).2.1
def a7B (n:Nat):((List Semtyperef18_token)×Int×Bool×Bool×Bool×Int×(List Api_TypeNode)×Int×(List ByteArray)×(List Int)×(List Bool)×(List ByteArray))->Option (Int×((List Semtyperef18_token)×Int×Bool×Bool×Bool×Int×(List Api_TypeNode)×Int×(List ByteArray)×(List Int)×(List Bool)×(List ByteArray))):=(z7 n).2.2.1
def a8v (n:Nat):((List Semtyperef18_token)×Int×Bool×Bool×Bool×Int×(List Api_TypeNode)×Int×(List ByteArray)×(List Int)×(List Bool)×(List ByteArray))->Option (Int×((List Semtyperef18_token)×Int×Bool×Bool×Bool×Int×(List Api_TypeNode)×Int×(List ByteArray)×(List Int)×(List Bool)×(List ByteArray))):=(z7 n).2.2.2.1
def a3Y (n:Nat):((List Semtyperef18_token)×Int×Bool×Bool×Bool×Int×(List Api_TypeNode)×Int×(List ByteArray)×(List Int)×(List Bool)×(List ByteArray))->Option (Int×((List Semtyperef18_token)×Int×Bool×Bool×Bool×Int×(List Api_TypeNode)×Int×(List ByteArray)×(List Int)×(List Bool)×(List ByteArray))):=(z7 n).2.2.2.2.1
def a8q (n:Nat):((List Semtyperef18_token)×Int×Bool×Bool×Bool×Int×(List Api_TypeNode)×Int×(List ByteArray)×(List Int)×(List Bool)×(List ByteArray))->Option (Int×((List Semtyperef18_token)×Int×Bool×Bool×Bool×Int×(List Api_TypeNode)×Int×(List ByteArray)×(List Int)×(List Bool)×(List ByteArray))):=(z7 n).2.2.2.2.2.1
def a8T (n:Nat):((List Semtyperef18_token)×Int×Bool×Bool×Bool×Int×(List Api_TypeNode)×Int×(List ByteArray)×(List Int)×(List Bool)×(List ByteArray))->ByteArray->Option ((List Int)×((List Semtyperef18_token)×Int×Bool×Bool×Bool×Int×(List Api_TypeNode)×Int×(List ByteArray)×(List Int)×(List Bool)×(List ByteArray))):=(z7 n).2.2.2.2.2.2.1
def a8W (n:Nat):((List Semtyperef18_token)×Int×Bool×Bool×Bool×Int×(List Api_TypeNode)×Int×(List ByteArray)×(List Int)×(List Bool)×(List ByteArray))->Option (Int×((List Semtyperef18_token)×Int×Bool×Bool×Bool×Int×(List Api_TypeNode)×Int×(List ByteArray)×(List Int)×(List Bool)×(List ByteArray))):=(z7 n).2.2.2.2.2.2.2.1
def a9Y (n:Nat):((List Semtyperef18_token)×Int×Bool×Bool×Bool×Int×(List Api_TypeNode)×Int×(List ByteArray)×(List Int)×(List Bool)×(List ByteArray))->ByteArray->Option (Int×((List Semtyperef18_token)×Int×Bool×Bool×Bool×Int×(List Api_TypeNode)×Int×(List ByteArray)×(List Int)×(List Bool)×(List ByteArray))):=(z7 n).2.2.2.2.2.2.2.2
def a5I (p:(List Semtyperef18_token)×Int×Bool×Bool×Bool×Int×(List Api_TypeNode)×Int×(List ByteArray)×(List Int)×(List Bool)×(List ByteArray))(x1:Int×Int):Option (Fl (Int×Int) Int) :=
 Option.bind (bif decide (x1.1<0)
 then (some (decide (x1.2<=(p.2.2.2.2.2.2.2.2.1.length:Int))))
 else (some false)) fun q2 =>
 bif q2
 then (Option.bind (idx p.2.2.2.2.2.2.2.2.2.1 (wr .i64 ((-1)-x1.1))) fun e3 =>
 some (.next (e3,wr .i64 (x1.2+1))))
 else (some (.done x1.1))
def J0 (p:(List Semtyperef18_token)×Int×Bool×Bool×Bool×Int×(List Api_TypeNode)×Int×(List ByteArray)×(List Int)×(List Bool)×(List ByteArray))(k:Int):Option (Int×Bool×((List Semtyperef18_token)×Int×Bool×Bool×Bool×Int×(List Api_TypeNode)×Int×(List ByteArray)×(List Int)×(List Bool)×(List ByteArray))) :=
 Option.bind (z8 (a5I p) ((0:Int).toNat+1) (k,0)) fun b4 =>
 some (b4,decide (0<=b4),(p.1,p.2.1,p.2.2.1,p.2.2.2.1,p.2.2.2.2.1,p.2.2.2.2.2.1,p.2.2.2.2.2.2.1,p.2.2.2.2.2.2.2.1,p.2.2.2.2.2.2.2.2.1,p.2.2.2.2.2.2.2.2.2.1,p.2.2.2.2.2.2.2.2.2.2.1,p.2.2.2.2.2.2.2.2.2.2.2))
def a0U (t:Api_Type)(k:Int):Option Bool :=
 Option.bind (bif decide (0<=k)
 then (some (decide (k<(t.Nodes.length:Int))))
 else (some false)) fun q1 =>
 some q1
def b2Z (d:Api_Type)(t:Api_TypeNode)(x1:Int):Option (Fl Int (Sum Unit Bool)) :=
 bif decide (x1<(t.Kids.length:Int))
 then (Option.bind (idx t.Kids x1) fun e2 =>
 Option.bind (a0U d e2) fun r3 =>
 bif !r3
 then (some (.done (.inr false)))
 else (some (.next (wr .i64 (x1+1)))))
 else (some (.done (.inl ())))
def b3i (d:Api_Type)(t:Api_TypeNode)(x23:Int):Option (Fl Int (Sum Unit Bool)) :=
 bif decide (x23<(t.Fields.length:Int))
 then (Option.bind (idx t.Fields x23) fun e24 =>
 Option.bind (a0U d e24.Node) fun r25 =>
 Option.bind (bif !r25
 then (some true)
 else (Option.bind (a2X e24.Key_) fun r26 =>
 some (!r26))) fun q27 =>
 Option.bind (bif q27
 then (some true)
 else (Option.bind (bif decide (0<x23)
 then (Option.bind (idx t.Fields (wr .i64 (x23-1))) fun e28 =>
 Option.bind (a17 e28.Key_ e24.Key_) fun r29 =>
 some (decide (0<=r29)))
 else (some false)) fun q30 =>
 some q30)) fun q31 =>
 bif q31
 then (some (.done (.inr false)))
 else (some (.next (wr .i64 (x23+1)))))
 else (some (.done (.inl ())))
def a9c (d:Api_Type)(t:Api_TypeNode):Option Bool :=
 Option.bind (z8 (b2Z d t) ((t.Kids.length:Int).toNat+1) 0) fun b4 =>
 Q3 (fun _ =>
 Option.bind (bif t.Kind==4
 then (some true)
 else (some (t.Kind==6))) fun q7 =>
 Option.bind (bif q7
 then (some true)
 else (some (t.Kind==19))) fun q8 =>
 Option.bind (bif !(t.Kind==3)
 then (Option.bind (bif t.Lo != 0
 then (some true)
 else (some (t.Hi != 0))) fun q9 =>
 some q9)
 else (some false)) fun q10 =>
 Option.bind (bif q10
 then (some true)
 else (Option.bind (bif !q8
 then (some (!(j7 t.Text (⟨#[]⟩:ByteArray))))
 else (some false)) fun q11 =>
 some q11)) fun q12 =>
 bif q12
 then (some false)
 else (Option.bind (bif t.Kind != 13
 then (Option.bind (bif decide (0<(t.Fields.length:Int))
 then (some true)
 else (some (!(a3v t.Rest (0,0))))) fun q13 =>
 some q13)
 else (some false)) fun q14 =>
 bif q14
 then (some false)
 else (bif t.Kind==3
 then (Option.bind (bif (t.Kids.length:Int)==0
 then (some (decide (t.Lo<=t.Hi)))
 else (some false)) fun q15 =>
 some q15)
 else (bif t.Kind==4
 then (Option.bind (bif (t.Kids.length:Int)==0
 then (some (decide ((t.Text.size:Int)<=64)))
 else (some false)) fun q16 =>
 some q16)
 else (bif t.Kind==6
 then (Option.bind (bif (t.Kids.length:Int)==0
 then (Option.bind (a2g t.Text) fun r17 =>
 some r17)
 else (some false)) fun q18 =>
 some q18)
 else (bif t.Kind==19
 then (Option.bind (bif (t.Kids.length:Int)==0
 then (none)
 else (some false)) fun q19 =>
 some q19)
 else (Option.bind (bif t.Kind==1
 then (some (t.Kind==1))
 else (bif t.Kind==2
 then (some (t.Kind==2))
 else (bif t.Kind==5
 then (some (t.Kind==5))
 else (bif t.Kind==7
 then (some (t.Kind==7))
 else (bif t.Kind==8
 then (some (t.Kind==8))
 else (bif t.Kind==9
 then (some (t.Kind==9))
 else (bif t.Kind==11
 then (some (t.Kind==11))
 else (some (t.Kind==15))))))))) fun b20 =>
 bif b20
 then (some ((t.Kids.length:Int)==0))
 else (bif t.Kind==10
 then (some (decide ((t.Kids.length:Int)<=4)))
 else (bif t.Kind==12
 then (some ((t.Kids.length:Int)==2))
 else (bif t.Kind==14
 then (Option.bind (bif decide (1<=(t.Kids.length:Int))
 then (some (decide ((t.Kids.length:Int)<=5)))
 else (some false)) fun q21 =>
 some q21)
 else (Option.bind (bif t.Kind==16
 then (some (t.Kind==16))
 else (some (t.Kind==17))) fun b22 =>
 bif b22
 then (some (decide (1<=(t.Kids.length:Int))))
 else (bif t.Kind==18
 then (some ((t.Kids.length:Int)==1))
 else (bif t.Kind==13
 then (Option.bind (z8 (b3i d t) ((t.Fields.length:Int).toNat+1) 0) fun b32 =>
 Q3 (fun _ =>
 Option.bind (bif (t.Kids.length:Int)==0
 then (Option.bind (a0U d t.Rest.1) fun r35 =>
 some r35)
 else (some false)) fun q36 =>
 Option.bind (bif q36
 then (Option.bind (a0U d t.Rest.2) fun r37 =>
 some r37)
 else (some false)) fun q38 =>
 some q38) (fun y34 =>
 some y34) b32)
 else (some false)))))))))))))) (fun y6 =>
 some y6) b4
def a5M (n_0:Api_TypeNode):Option Bool :=
 Option.bind (bif n_0.Kind==16
 then (some true)
 else (some (n_0.Kind==17))) fun q1 =>
 Option.bind (bif q1
 then (some true)
 else (some (n_0.Kind==18))) fun q2 =>
 some q2
def a8j (d:Api_Type)(x2:Int):Option (Fl Int (Sum Unit Int)) :=
 bif decide (x2<(d.Nodes.length:Int))
 then (Option.bind (idx d.Nodes x2) fun e3 =>
 Option.bind (a9c d e3) fun r4 =>
 bif !r4
 then (some (.done (.inr 1)))
 else (some (.next (wr .i64 (x2+1)))))
 else (some (.done (.inl ())))
def a8x (d:Api_Type)(x10:(List Bool)×Int)(x11:(List Bool)×Bool×Int):Option (Fl ((List Bool)×Bool×Int) ((List Bool)×Bool)) :=
 Option.bind (idx d.Nodes x10.2) fun e12 =>
 Option.bind (a5M e12) fun r13 =>
 Option.bind (bif r13
 then (Option.bind (idx d.Nodes x10.2) fun e14 =>
 some (decide (x11.2.2<(e14.Kids.length:Int))))
 else (some false)) fun q15 =>
 bif q15
 then (Option.bind (bif x11.2.1
 then (Option.bind (idx d.Nodes x10.2) fun e16 =>
 Option.bind (idx e16.Kids x11.2.2) fun e17 =>
 Option.bind (idx x11.1 e17) fun _ =>
 Option.bind (x11.1[e17.toNat]?) fun e19 =>
 some e19)
 else (some false)) fun q20 =>
 some (.next (x11.1,q20,wr .i64 (x11.2.2+1))))
 else (some (.done (x11.1,x11.2.1)))
def a77 (d:Api_Type)(n:Nat)(x10:(List Bool)×Int):Option (Fl ((List Bool)×Int) (List Bool)) :=
 bif decide (x10.2<(d.Nodes.length:Int))
 then (Option.bind (z8 (a8x d x10) n (x10.1,true,0)) fun b21 =>
 Option.bind (idx b21.1 x10.2) fun _ =>
 Option.bind (b21.1[x10.2.toNat]?) fun e23 =>
 Option.bind (bif e23
 then (some true)
 else (some b21.2)) fun q24 =>
 Option.bind (idx b21.1 x10.2) fun _ =>
 Option.bind (b21.1[x10.2.toNat]?) fun _ =>
 some (.next (b21.1.set x10.2.toNat q24,wr .i64 (x10.2+1))))
 else (some (.done x10.1))
def a8u (d:Api_Type)(n:Nat)(x9:(List Bool)×Int):Option (Fl ((List Bool)×Int) (List Bool)) :=
 bif decide (x9.2<(d.Nodes.length:Int))
 then (Option.bind (z8 (a77 d n) ((d.Nodes.length:Int).toNat+1) (x9.1,0)) fun b27 =>
 some (.next (b27,wr .i64 (x9.2+1))))
 else (some (.done x9.1))
def a70 (x29:(List Bool)×Int):Option (Fl ((List Bool)×Int) (Sum (List Bool) (Int×(List Bool)))) :=
 bif decide (x29.2<(x29.1.length:Int))
 then (Option.bind (idx x29.1 x29.2) fun _ =>
 Option.bind (x29.1[x29.2.toNat]?) fun e31 =>
 bif !e31
 then (some (.done (.inr (3,x29.1))))
 else (some (.next (x29.1,wr .i64 (x29.2+1)))))
 else (some (.done (.inl x29.1)))
def a39 (n:Nat)(d:Api_Type):Option Int :=
 Option.bind (a0U d d.Root) fun r1 =>
 bif !r1
 then (some 1)
 else (Option.bind (z8 (a8j d) ((d.Nodes.length:Int).toNat+1) 0) fun b5 =>
 Q3 (fun _ =>
 Option.bind (a81 (d.Nodes.length:Int) (d.Nodes.length:Int) 1) fun m8 =>
 Option.bind (z8 (a8u d n) ((d.Nodes.length:Int).toNat+1) (List.replicate m8 (false:Bool),0)) fun b28 =>
 Option.bind (z8 a70 ((b28.length:Int).toNat+1) (b28,0)) fun b32 =>
 Q3 (fun _ =>
 some 0) (fun y34 =>
 some y34.1) b32) (fun y7 =>
 some y7) b5)
def a6p (x1:Bool×Int×((List Semtyperef18_token)×Int×Bool×Bool×Bool×Int×(List Api_TypeNode)×Int×(List ByteArray)×(List Int)×(List Bool)×(List ByteArray))):Option (Fl (Bool×Int×((List Semtyperef18_token)×Int×Bool×Bool×Bool×Int×(List Api_TypeNode)×Int×(List ByteArray)×(List Int)×(List Bool)×(List ByteArray))) (Bool×((List Semtyperef18_token)×Int×Bool×Bool×Bool×Int×(List Api_TypeNode)×Int×(List ByteArray)×(List Int)×(List Bool)×(List ByteArray)))) :=
 bif decide (x1.2.1<(x1.2.2.2.2.2.2.2.2.2.2.2.1.length:Int))
 then (Option.bind (idx x1.2.2.2.2.2.2.2.2.2.2.2.1 x1.2.1) fun e2 =>
 Option.bind (J0 (x1.2.2.1,x1.2.2.2.1,x1.2.2.2.2.1,x1.2.2.2.2.2.1,x1.2.2.2.2.2.2.1,x1.2.2.2.2.2.2.2.1,x1.2.2.2.2.2.2.2.2.1,x1.2.2.2.2.2.2.2.2.2.1,x1.2.2.2.2.2.2.2.2.2.2.1,x1.2.2.2.2.2.2.2.2.2.2.2.1,x1.2.2.2.2.2.2.2.2.2.2.2.2.1,x1.2.2.2.2.2.2.2.2.2.2.2.2.2) e2) fun r3 =>
 Option.bind (bif x1.1
 then (some r3.2.1)
 else (some false)) fun q4 =>
 some (.next (q4,wr .i64 (x1.2.1+1),(r3.2.2.1,r3.2.2.2.1,r3.2.2.2.2.1,r3.2.2.2.2.2.1,r3.2.2.2.2.2.2.1,r3.2.2.2.2.2.2.2.1,r3.2.2.2.2.2.2.2.2.1,r3.2.2.2.2.2.2.2.2.2.1,r3.2.2.2.2.2.2.2.2.2.2.1,r3.2.2.2.2.2.2.2.2.2.2.2.1,r3.2.2.2.2.2.2.2.2.2.2.2.2.1,r3.2.2.2.2.2.2.2.2.2.2.2.2.2))))
 else (some (.done (x1.1,(x1.2.2.1,x1.2.2.2.1,x1.2.2.2.2.1,x1.2.2.2.2.2.1,x1.2.2.2.2.2.2.1,x1.2.2.2.2.2.2.2.1,x1.2.2.2.2.2.2.2.2.1,x1.2.2.2.2.2.2.2.2.2.1,x1.2.2.2.2.2.2.2.2.2.2.1,x1.2.2.2.2.2.2.2.2.2.2.2.1,x1.2.2.2.2.2.2.2.2.2.2.2.2.1,x1.2.2.2.2.2.2.2.2.2.2.2.2.2))))
def a6v (e8:Api_TypeNode)(x9:Int×((List Semtyperef18_token)×Int×Bool×Bool×Bool×Int×(List Api_TypeNode)×Int×(List ByteArray)×(List Int)×(List Bool)×(List ByteArray))):Option (Fl (Int×((List Semtyperef18_token)×Int×Bool×Bool×Bool×Int×(List Api_TypeNode)×Int×(List ByteArray)×(List Int)×(List Bool)×(List ByteArray))) ((List Semtyperef18_token)×Int×Bool×Bool×Bool×Int×(List Api_TypeNode)×Int×(List ByteArray)×(List Int)×(List Bool)×(List ByteArray))) :=
 bif decide (x9.1<(e8.Kids.length:Int))
 then (Option.bind (idx e8.Kids x9.1) fun e10 =>
 Option.bind (J0 (x9.2.1,x9.2.2.1,x9.2.2.2.1,x9.2.2.2.2.1,x9.2.2.2.2.2.1,x9.2.2.2.2.2.2.1,x9.2.2.2.2.2.2.2.1,x9.2.2.2.2.2.2.2.2.1,x9.2.2.2.2.2.2.2.2.2.1,x9.2.2.2.2.2.2.2.2.2.2.1,x9.2.2.2.2.2.2.2.2.2.2.2.1,x9.2.2.2.2.2.2.2.2.2.2.2.2) e10) fun r11 =>
 Option.bind (idx e8.Kids x9.1) fun e12 =>
 bif r11.1==e12
 then (some (.next (wr .i64 (x9.1+1),(r11.2.2.1,r11.2.2.2.1,r11.2.2.2.2.1,r11.2.2.2.2.2.1,r11.2.2.2.2.2.2.1,r11.2.2.2.2.2.2.2.1,r11.2.2.2.2.2.2.2.2.1,r11.2.2.2.2.2.2.2.2.2.1,r11.2.2.2.2.2.2.2.2.2.2.1,r11.2.2.2.2.2.2.2.2.2.2.2.1,r11.2.2.2.2.2.2.2.2.2.2.2.2.1,r11.2.2.2.2.2.2.2.2.2.2.2.2.2))))
 else (none))
 else (some (.done (x9.2.1,x9.2.2.1,x9.2.2.2.1,x9.2.2.2.2.1,x9.2.2.2.2.2.1,x9.2.2.2.2.2.2.1,x9.2.2.2.2.2.2.2.1,x9.2.2.2.2.2.2.2.2.1,x9.2.2.2.2.2.2.2.2.2.1,x9.2.2.2.2.2.2.2.2.2.2.1,x9.2.2.2.2.2.2.2.2.2.2.2.1,x9.2.2.2.2.2.2.2.2.2.2.2.2)))
def a6e (e8:Api_TypeNode)(x14:Int×((List Semtyperef18_token)×Int×Bool×Bool×Bool×Int×(List Api_TypeNode)×Int×(List ByteArray)×(List Int)×(List Bool)×(List ByteArray))):Option (Fl (Int×((List Semtyperef18_token)×Int×Bool×Bool×Bool×Int×(List Api_TypeNode)×Int×(List ByteArray)×(List Int)×(List Bool)×(List ByteArray))) ((List Semtyperef18_token)×Int×Bool×Bool×Bool×Int×(List Api_TypeNode)×Int×(List ByteArray)×(List Int)×(List Bool)×(List ByteArray))) :=
 bif decide (x14.1<(e8.Fields.length:Int))
 then (Option.bind (idx e8.Fields x14.1) fun e15 =>
 Option.bind (J0 (x14.2.1,x14.2.2.1,x14.2.2.2.1,x14.2.2.2.2.1,x14.2.2.2.2.2.1,x14.2.2.2.2.2.2.1,x14.2.2.2.2.2.2.2.1,x14.2.2.2.2.2.2.2.2.1,x14.2.2.2.2.2.2.2.2.2.1,x14.2.2.2.2.2.2.2.2.2.2.1,x14.2.2.2.2.2.2.2.2.2.2.2.1,x14.2.2.2.2.2.2.2.2.2.2.2.2) e15.Node) fun r16 =>
 Option.bind (idx e8.Fields x14.1) fun e17 =>
 bif r16.1==e17.Node
 then (some (.next (wr .i64 (x14.1+1),(r16.2.2.1,r16.2.2.2.1,r16.2.2.2.2.1,r16.2.2.2.2.2.1,r16.2.2.2.2.2.2.1,r16.2.2.2.2.2.2.2.1,r16.2.2.2.2.2.2.2.2.1,r16.2.2.2.2.2.2.2.2.2.1,r16.2.2.2.2.2.2.2.2.2.2.1,r16.2.2.2.2.2.2.2.2.2.2.2.1,r16.2.2.2.2.2.2.2.2.2.2.2.2.1,r16.2.2.2.2.2.2.2.2.2.2.2.2.2))))
 else (none))
 else (some (.done (x14.2.1,x14.2.2.1,x14.2.2.2.1,x14.2.2.2.2.1,x14.2.2.2.2.2.1,x14.2.2.2.2.2.2.1,x14.2.2.2.2.2.2.2.1,x14.2.2.2.2.2.2.2.2.1,x14.2.2.2.2.2.2.2.2.2.1,x14.2.2.2.2.2.2.2.2.2.2.1,x14.2.2.2.2.2.2.2.2.2.2.2.1,x14.2.2.2.2.2.2.2.2.2.2.2.2)))
def a6E (x19:Int×((List Semtyperef18_token)×Int×Bool×Bool×Bool×Int×(List Api_TypeNode)×Int×(List ByteArray)×(List Int)×(List Bool)×(List ByteArray))×Api_TypeNode):Option (Fl (Int×((List Semtyperef18_token)×Int×Bool×Bool×Bool×Int×(List Api_TypeNode)×Int×(List ByteArray)×(List Int)×(List Bool)×(List ByteArray))×Api_TypeNode) (((List Semtyperef18_token)×Int×Bool×Bool×Bool×Int×(List Api_TypeNode)×Int×(List ByteArray)×(List Int)×(List Bool)×(List ByteArray))×Api_TypeNode)) :=
 Option.bind (bif x19.2.2.Kind==13
 then (some (decide (x19.1<2)))
 else (some false)) fun q20 =>
 bif q20
 then (Option.bind (bif x19.1==0
 then (Option.bind (J0 (x19.2.1.1,x19.2.1.2.1,x19.2.1.2.2.1,x19.2.1.2.2.2.1,x19.2.1.2.2.2.2.1,x19.2.1.2.2.2.2.2.1,x19.2.1.2.2.2.2.2.2.1,x19.2.1.2.2.2.2.2.2.2.1,x19.2.1.2.2.2.2.2.2.2.2.1,x19.2.1.2.2.2.2.2.2.2.2.2.1,x19.2.1.2.2.2.2.2.2.2.2.2.2.1,x19.2.1.2.2.2.2.2.2.2.2.2.2.2) x19.2.2.Rest.1) fun r21 =>
 bif x19.1==0
 then (some ((r21.2.2.1,r21.2.2.2.1,r21.2.2.2.2.1,r21.2.2.2.2.2.1,r21.2.2.2.2.2.2.1,r21.2.2.2.2.2.2.2.1,r21.2.2.2.2.2.2.2.2.1,r21.2.2.2.2.2.2.2.2.2.1,r21.2.2.2.2.2.2.2.2.2.2.1,r21.2.2.2.2.2.2.2.2.2.2.2.1,r21.2.2.2.2.2.2.2.2.2.2.2.2.1,r21.2.2.2.2.2.2.2.2.2.2.2.2.2),Api_TypeNode.mk x19.2.2.Kind x19.2.2.Lo x19.2.2.Hi x19.2.2.Text x19.2.2.Kids x19.2.2.Fields (r21.1,x19.2.2.Rest.2)))
 else (bif x19.1==1
 then (some ((r21.2.2.1,r21.2.2.2.1,r21.2.2.2.2.1,r21.2.2.2.2.2.1,r21.2.2.2.2.2.2.1,r21.2.2.2.2.2.2.2.1,r21.2.2.2.2.2.2.2.2.1,r21.2.2.2.2.2.2.2.2.2.1,r21.2.2.2.2.2.2.2.2.2.2.1,r21.2.2.2.2.2.2.2.2.2.2.2.1,r21.2.2.2.2.2.2.2.2.2.2.2.2.1,r21.2.2.2.2.2.2.2.2.2.2.2.2.2),Api_TypeNode.mk x19.2.2.Kind x19.2.2.Lo x19.2.2.Hi x19.2.2.Text x19.2.2.Kids x19.2.2.Fields (x19.2.2.Rest.1,r21.1)))
 else (none)))
 else (bif x19.1==1
 then (Option.bind (J0 (x19.2.1.1,x19.2.1.2.1,x19.2.1.2.2.1,x19.2.1.2.2.2.1,x19.2.1.2.2.2.2.1,x19.2.1.2.2.2.2.2.1,x19.2.1.2.2.2.2.2.2.1,x19.2.1.2.2.2.2.2.2.2.1,x19.2.1.2.2.2.2.2.2.2.2.1,x19.2.1.2.2.2.2.2.2.2.2.2.1,x19.2.1.2.2.2.2.2.2.2.2.2.2.1,x19.2.1.2.2.2.2.2.2.2.2.2.2.2) x19.2.2.Rest.2) fun r22 =>
 bif x19.1==0
 then (some ((r22.2.2.1,r22.2.2.2.1,r22.2.2.2.2.1,r22.2.2.2.2.2.1,r22.2.2.2.2.2.2.1,r22.2.2.2.2.2.2.2.1,r22.2.2.2.2.2.2.2.2.1,r22.2.2.2.2.2.2.2.2.2.1,r22.2.2.2.2.2.2.2.2.2.2.1,r22.2.2.2.2.2.2.2.2.2.2.2.1,r22.2.2.2.2.2.2.2.2.2.2.2.2.1,r22.2.2.2.2.2.2.2.2.2.2.2.2.2),Api_TypeNode.mk x19.2.2.Kind x19.2.2.Lo x19.2.2.Hi x19.2.2.Text x19.2.2.Kids x19.2.2.Fields (r22.1,x19.2.2.Rest.2)))
 else (bif x19.1==1
 then (some ((r22.2.2.1,r22.2.2.2.1,r22.2.2.2.2.1,r22.2.2.2.2.2.1,r22.2.2.2.2.2.2.1,r22.2.2.2.2.2.2.2.1,r22.2.2.2.2.2.2.2.2.1,r22.2.2.2.2.2.2.2.2.2.1,r22.2.2.2.2.2.2.2.2.2.2.1,r22.2.2.2.2.2.2.2.2.2.2.2.1,r22.2.2.2.2.2.2.2.2.2.2.2.2.1,r22.2.2.2.2.2.2.2.2.2.2.2.2.2),Api_TypeNode.mk x19.2.2.Kind x19.2.2.Lo x19.2.2.Hi x19.2.2.Text x19.2.2.Kids x19.2.2.Fields (x19.2.2.Rest.1,r22.1)))
 else (none)))
 else (none))) fun b23 =>
 some (.next (wr .i64 (x19.1+1),(b23.1.1,b23.1.2.1,b23.1.2.2.1,b23.1.2.2.2.1,b23.1.2.2.2.2.1,b23.1.2.2.2.2.2.1,b23.1.2.2.2.2.2.2.1,b23.1.2.2.2.2.2.2.2.1,b23.1.2.2.2.2.2.2.2.2.1,b23.1.2.2.2.2.2.2.2.2.2.1,b23.1.2.2.2.2.2.2.2.2.2.2.1,b23.1.2.2.2.2.2.2.2.2.2.2.2),b23.2)))
 else (some (.done ((x19.2.1.1,x19.2.1.2.1,x19.2.1.2.2.1,x19.2.1.2.2.2.1,x19.2.1.2.2.2.2.1,x19.2.1.2.2.2.2.2.1,x19.2.1.2.2.2.2.2.2.1,x19.2.1.2.2.2.2.2.2.2.1,x19.2.1.2.2.2.2.2.2.2.2.1,x19.2.1.2.2.2.2.2.2.2.2.2.1,x19.2.1.2.2.2.2.2.2.2.2.2.2.1,x19.2.1.2.2.2.2.2.2.2.2.2.2.2),x19.2.2)))
def a5W (x7:Int×((List Semtyperef18_token)×Int×Bool×Bool×Bool×Int×(List Api_TypeNode)×Int×(List ByteArray)×(List Int)×(List Bool)×(List ByteArray))×((List Api_TypeNode)×Int)):Option (Fl (Int×((List Semtyperef18_token)×Int×Bool×Bool×Bool×Int×(List Api_TypeNode)×Int×(List ByteArray)×(List Int)×(List Bool)×(List ByteArray))×((List Api_TypeNode)×Int)) (((List Semtyperef18_token)×Int×Bool×Bool×Bool×Int×(List Api_TypeNode)×Int×(List ByteArray)×(List Int)×(List Bool)×(List ByteArray))×((List Api_TypeNode)×Int))) :=
 bif decide (x7.1<(x7.2.1.2.2.2.2.2.2.1.length:Int))
 then (Option.bind (idx x7.2.1.2.2.2.2.2.2.1 x7.1) fun e8 =>
 Option.bind (z8 (a6v e8) ((e8.Kids.length:Int).toNat+1) (0,(x7.2.1.1,x7.2.1.2.1,x7.2.1.2.2.1,x7.2.1.2.2.2.1,x7.2.1.2.2.2.2.1,x7.2.1.2.2.2.2.2.1,x7.2.1.2.2.2.2.2.2.1,x7.2.1.2.2.2.2.2.2.2.1,x7.2.1.2.2.2.2.2.2.2.2.1,x7.2.1.2.2.2.2.2.2.2.2.2.1,x7.2.1.2.2.2.2.2.2.2.2.2.2.1,x7.2.1.2.2.2.2.2.2.2.2.2.2.2))) fun b13 =>
 Option.bind (z8 (a6e e8) ((e8.Fields.length:Int).toNat+1) (0,(b13.1,b13.2.1,b13.2.2.1,b13.2.2.2.1,b13.2.2.2.2.1,b13.2.2.2.2.2.1,b13.2.2.2.2.2.2.1,b13.2.2.2.2.2.2.2.1,b13.2.2.2.2.2.2.2.2.1,b13.2.2.2.2.2.2.2.2.2.1,b13.2.2.2.2.2.2.2.2.2.2.1,b13.2.2.2.2.2.2.2.2.2.2.2))) fun b18 =>
 Option.bind (z8 a6E ((2:Int).toNat+1) (0,(b18.1,b18.2.1,b18.2.2.1,b18.2.2.2.1,b18.2.2.2.2.1,b18.2.2.2.2.2.1,b18.2.2.2.2.2.2.1,b18.2.2.2.2.2.2.2.1,b18.2.2.2.2.2.2.2.2.1,b18.2.2.2.2.2.2.2.2.2.1,b18.2.2.2.2.2.2.2.2.2.2.1,b18.2.2.2.2.2.2.2.2.2.2.2),e8)) fun b24 =>
 Option.bind (Y0 (x7.2.2.1.length+([b24.2]:List Api_TypeNode).length) 104) fun _ =>
 some (.next (wr .i64 (x7.1+1),(b24.1.1,b24.1.2.1,b24.1.2.2.1,b24.1.2.2.2.1,b24.1.2.2.2.2.1,b24.1.2.2.2.2.2.1,b24.1.2.2.2.2.2.2.1,b24.1.2.2.2.2.2.2.2.1,b24.1.2.2.2.2.2.2.2.2.1,b24.1.2.2.2.2.2.2.2.2.2.1,b24.1.2.2.2.2.2.2.2.2.2.2.1,b24.1.2.2.2.2.2.2.2.2.2.2.2),(x7.2.2.1++([b24.2]:List Api_TypeNode),x7.2.2.2))))
 else (some (.done ((x7.2.1.1,x7.2.1.2.1,x7.2.1.2.2.1,x7.2.1.2.2.2.1,x7.2.1.2.2.2.2.1,x7.2.1.2.2.2.2.2.1,x7.2.1.2.2.2.2.2.2.1,x7.2.1.2.2.2.2.2.2.2.1,x7.2.1.2.2.2.2.2.2.2.2.1,x7.2.1.2.2.2.2.2.2.2.2.2.1,x7.2.1.2.2.2.2.2.2.2.2.2.2.1,x7.2.1.2.2.2.2.2.2.2.2.2.2.2),(x7.2.2.1,x7.2.2.2))))
def a3p (n:Nat)(d:(List Semtyperef18_token)×Int×Bool×Bool×Bool×Int×(List Api_TypeNode)×Int×(List ByteArray)×(List Int)×(List Bool)×(List ByteArray))(t:Int):Option (Api_Type×Int×((List Semtyperef18_token)×Int×Bool×Bool×Bool×Int×(List Api_TypeNode)×Int×(List ByteArray)×(List Int)×(List Bool)×(List ByteArray))) :=
 Option.bind (z8 a6p n (true,0,(d.1,d.2.1,d.2.2.1,d.2.2.2.1,d.2.2.2.2.1,d.2.2.2.2.2.1,d.2.2.2.2.2.2.1,d.2.2.2.2.2.2.2.1,d.2.2.2.2.2.2.2.2.1,d.2.2.2.2.2.2.2.2.2.1,d.2.2.2.2.2.2.2.2.2.2.1,d.2.2.2.2.2.2.2.2.2.2.2))) fun b5 =>
 bif !b5.1
 then (some (Api_Type.mk ([]:List Api_TypeNode) 0,3,(b5.2.1,b5.2.2.1,b5.2.2.2.1,b5.2.2.2.2.1,b5.2.2.2.2.2.1,b5.2.2.2.2.2.2.1,b5.2.2.2.2.2.2.2.1,b5.2.2.2.2.2.2.2.2.1,b5.2.2.2.2.2.2.2.2.2.1,b5.2.2.2.2.2.2.2.2.2.2.1,b5.2.2.2.2.2.2.2.2.2.2.2.1,b5.2.2.2.2.2.2.2.2.2.2.2.2)))
 else (Option.bind (J0 (b5.2.1,b5.2.2.1,b5.2.2.2.1,b5.2.2.2.2.1,b5.2.2.2.2.2.1,b5.2.2.2.2.2.2.1,b5.2.2.2.2.2.2.2.1,b5.2.2.2.2.2.2.2.2.1,b5.2.2.2.2.2.2.2.2.2.1,b5.2.2.2.2.2.2.2.2.2.2.1,b5.2.2.2.2.2.2.2.2.2.2.2.1,b5.2.2.2.2.2.2.2.2.2.2.2.2) t) fun r6 =>
 Option.bind (z8 a5W n (0,(r6.2.2.1,r6.2.2.2.1,r6.2.2.2.2.1,r6.2.2.2.2.2.1,r6.2.2.2.2.2.2.1,r6.2.2.2.2.2.2.2.1,r6.2.2.2.2.2.2.2.2.1,r6.2.2.2.2.2.2.2.2.2.1,r6.2.2.2.2.2.2.2.2.2.2.1,r6.2.2.2.2.2.2.2.2.2.2.2.1,r6.2.2.2.2.2.2.2.2.2.2.2.2.1,r6.2.2.2.2.2.2.2.2.2.2.2.2.2),([],r6.1))) fun b26 =>
 Option.bind (a39 n (Api_Type.mk b26.2.1 b26.2.2)) fun r27 =>
 bif r27 != 0
 then (some (Api_Type.mk ([]:List Api_TypeNode) 0,3,(b26.1.1,b26.1.2.1,b26.1.2.2.1,b26.1.2.2.2.1,b26.1.2.2.2.2.1,b26.1.2.2.2.2.2.1,b26.1.2.2.2.2.2.2.1,b26.1.2.2.2.2.2.2.2.1,b26.1.2.2.2.2.2.2.2.2.1,b26.1.2.2.2.2.2.2.2.2.2.1,b26.1.2.2.2.2.2.2.2.2.2.2.1,b26.1.2.2.2.2.2.2.2.2.2.2.2)))
 else (some (Api_Type.mk b26.2.1 b26.2.2,0,(b26.1.1,b26.1.2.1,b26.1.2.2.1,b26.1.2.2.2.1,b26.1.2.2.2.2.1,b26.1.2.2.2.2.2.1,b26.1.2.2.2.2.2.2.1,b26.1.2.2.2.2.2.2.2.1,b26.1.2.2.2.2.2.2.2.2.1,b26.1.2.2.2.2.2.2.2.2.2.1,b26.1.2.2.2.2.2.2.2.2.2.2.1,b26.1.2.2.2.2.2.2.2.2.2.2.2))))
def a71 (r3:Bool×((List Semtyperef18_token)×Int×Bool×Bool×Bool×Int×(List Api_TypeNode)×Int×(List ByteArray)×(List Int)×(List Bool)×(List ByteArray)))(x5:Int×((List Api_TypeNode)×Int)):Option (Fl (Int×((List Api_TypeNode)×Int)) (Sum ((List Api_TypeNode)×Int) (Int×((List Api_TypeNode)×Int)))) :=
 bif decide (x5.1<(r3.2.2.2.2.2.2.2.2.2.2.2.1.length:Int))
 then (Option.bind (idx r3.2.2.2.2.2.2.2.2.2.2.2.1 x5.1) fun e6 =>
 bif !e6
 then (some (.done (.inr (7,([],0)))))
 else (some (.next (wr .i64 (x5.1+1),(x5.2.1,x5.2.2)))))
 else (some (.done (.inl (x5.2.1,x5.2.2))))
def a4i (n:Nat)(d:ByteArray):Option (Api_Type×Int) :=
 Option.bind (a7Q d) fun r1 =>
 bif !r1.2
 then (some (Api_Type.mk ([]:List Api_TypeNode) 0,5))
 else (Option.bind (a3Y n (r1.1,0,false,false,false,0,[],0,([]:List ByteArray),([]:List Int),([]:List Bool),([]:List ByteArray))) fun r2 =>
 Option.bind (Z3 (r2.2.1,r2.2.2.1,r2.2.2.2.1,r2.2.2.2.2.1,r2.2.2.2.2.2.1,r2.2.2.2.2.2.2.1,r2.2.2.2.2.2.2.2.1,r2.2.2.2.2.2.2.2.2.1,r2.2.2.2.2.2.2.2.2.2.1,r2.2.2.2.2.2.2.2.2.2.2.1,r2.2.2.2.2.2.2.2.2.2.2.2.1,r2.2.2.2.2.2.2.2.2.2.2.2.2) 0 (⟨#[119,104,101,114,101]⟩:ByteArray)) fun r3 =>
 bif r3.1
 then (none)
 else (Option.bind (bif r3.2.2.2.1
 then (some true)
 else (some (decide (r3.2.2.1<(r1.1.length:Int))))) fun q4 =>
 bif q4
 then (some (Api_Type.mk ([]:List Api_TypeNode) 0,5))
 else (bif r3.2.2.2.2.1
 then (some (Api_Type.mk ([]:List Api_TypeNode) 0,6))
 else (Option.bind (z8 (a71 r3) ((r3.2.2.2.2.2.2.2.2.2.2.2.1.length:Int).toNat+1) (0,([],0))) fun (b7:Sum ((List Api_TypeNode)×Int) (Int×((List Api_TypeNode)×Int))) =>
 Q3 (fun _ =>
 Option.bind (bif r3.2.2.2.2.2.1
 then (some true)
 else (some (decide (60<r3.2.2.2.2.2.2.1)))) fun q10 =>
 Option.bind (bif q10
 then (some true)
 else (some (decide (8<(r3.2.2.2.2.2.2.2.2.2.2.2.2.length:Int))))) fun q11 =>
 bif q11
 then (some (Api_Type.mk ([]:List Api_TypeNode) 0,2))
 else (Option.bind (a3p n (r3.2.1,r3.2.2.1,r3.2.2.2.1,r3.2.2.2.2.1,r3.2.2.2.2.2.1,r3.2.2.2.2.2.2.1,r3.2.2.2.2.2.2.2.1,r3.2.2.2.2.2.2.2.2.1,r3.2.2.2.2.2.2.2.2.2.1,r3.2.2.2.2.2.2.2.2.2.2.1,r3.2.2.2.2.2.2.2.2.2.2.2.1,r3.2.2.2.2.2.2.2.2.2.2.2.2) r2.1) fun r12 =>
 some (r12.1,r12.2.1))) (fun y9 =>
 some (Api_Type.mk y9.2.1 y9.2.2,y9.1)) b7))))
def J6 (n:Nat)(sort:Int):Option Api_Type :=
 Option.bind (a5N sort) fun r1 =>
 Option.bind (a4i n r1) fun r2 =>
 some r2.1
def a8O (x3:(List Api_TypeNode)×Int×(Int×Int×Int×ByteArray×(List Int)×(List Api_Field)×Int×Int))(e8:Api_TypeNode)(x9:(List Int)×Int):Option (Fl ((List Int)×Int) (List Int)) :=
 bif decide (x9.2<(e8.Kids.length:Int))
 then (Option.bind (idx e8.Kids x9.2) fun e10 =>
 Option.bind (Y0 (x9.1.length+([wr .i64 (e10+(x3.1.length:Int))]:List Int).length) 8) fun _ =>
 some (.next (x9.1++([wr .i64 (e10+(x3.1.length:Int))]:List Int),wr .i64 (x9.2+1))))
 else (some (.done x9.1))
def a8M (x3:(List Api_TypeNode)×Int×(Int×Int×Int×ByteArray×(List Int)×(List Api_Field)×Int×Int))(e8:Api_TypeNode)(x13:(List Api_Field)×Int):Option (Fl ((List Api_Field)×Int) (List Api_Field)) :=
 bif decide (x13.2<(e8.Fields.length:Int))
 then (Option.bind (idx e8.Fields x13.2) fun e14 =>
 Option.bind (Y0 (x13.1.length+([Api_Field.mk e14.Key_ (wr .i64 (e14.Node+(x3.1.length:Int))) e14.Optional]:List Api_Field).length) 40) fun _ =>
 some (.next (x13.1++([Api_Field.mk e14.Key_ (wr .i64 (e14.Node+(x3.1.length:Int))) e14.Optional]:List Api_Field),wr .i64 (x13.2+1))))
 else (some (.done x13.1))
def a3B (x3:(List Api_TypeNode)×Int×(Int×Int×Int×ByteArray×(List Int)×(List Api_Field)×Int×Int))(r5:Api_Type)(x7:(List Api_TypeNode)×Int):Option (Fl ((List Api_TypeNode)×Int) (List Api_TypeNode)) :=
 bif decide (x7.2<(r5.Nodes.length:Int))
 then (Option.bind (idx r5.Nodes x7.2) fun e8 =>
 Option.bind (z8 (a8O x3 e8) ((e8.Kids.length:Int).toNat+1) ([],0)) fun b12 =>
 Option.bind (z8 (a8M x3 e8) ((e8.Fields.length:Int).toNat+1) ([],0)) fun b16 =>
 Option.bind (bif e8.Kind==13
 then (some (Api_TypeNode.mk e8.Kind e8.Lo e8.Hi e8.Text e8.Kids e8.Fields (wr .i64 (e8.Rest.1+(x3.1.length:Int)),wr .i64 (e8.Rest.2+(x3.1.length:Int)))))
 else (some e8)) fun b17 =>
 Option.bind (Y0 (x7.1.length+([Api_TypeNode.mk b17.Kind b17.Lo b17.Hi b17.Text b12 b16 b17.Rest]:List Api_TypeNode).length) 104) fun _ =>
 some (.next (x7.1++([Api_TypeNode.mk b17.Kind b17.Lo b17.Hi b17.Text b12 b16 b17.Rest]:List Api_TypeNode),wr .i64 (x7.2+1))))
 else (some (.done x7.1))
def a1S (d:Semtypeprog_Callee)(n:Nat)(x3:(List Api_TypeNode)×Int×(Int×Int×Int×ByteArray×(List Int)×(List Api_Field)×Int×Int)):Option (Fl ((List Api_TypeNode)×Int×(Int×Int×Int×ByteArray×(List Int)×(List Api_Field)×Int×Int)) ((List Api_TypeNode)×(Int×Int×Int×ByteArray×(List Int)×(List Api_Field)×Int×Int))) :=
 bif decide (x3.2.1<((d.Params++([d.Result]:List Int)).length:Int))
 then (Option.bind (idx (d.Params++([d.Result]:List Int)) x3.2.1) fun e4 =>
 Option.bind (J6 n e4) fun r5 =>
 Option.bind (Y0 (x3.2.2.2.2.2.2.1.length+([wr .i64 ((x3.1.length:Int)+r5.Root)]:List Int).length) 8) fun _ =>
 Option.bind (z8 (a3B x3 r5) ((r5.Nodes.length:Int).toNat+1) (x3.1,0)) fun b19 =>
 some (.next (b19,wr .i64 (x3.2.1+1),(x3.2.2.1,x3.2.2.2.1,x3.2.2.2.2.1,x3.2.2.2.2.2.1,x3.2.2.2.2.2.2.1++([wr .i64 ((x3.1.length:Int)+r5.Root)]:List Int),x3.2.2.2.2.2.2.2.1,x3.2.2.2.2.2.2.2.2.1,x3.2.2.2.2.2.2.2.2.2))))
 else (some (.done (x3.1,(x3.2.2.1,x3.2.2.2.1,x3.2.2.2.2.1,x3.2.2.2.2.2.1,x3.2.2.2.2.2.2.1,x3.2.2.2.2.2.2.2.1,x3.2.2.2.2.2.2.2.2.1,x3.2.2.2.2.2.2.2.2.2))))
def a0w (n:Nat)(d:Semtypeprog_Callee):Option Api_Signature :=
 Option.bind (Y0 (0+d.Params.length) 8) fun _ =>
 Option.bind (Y0 (d.Params.length+([d.Result]:List Int).length) 8) fun _ =>
 Option.bind (z8 (a1S d n) (((d.Params++([d.Result]:List Int)).length:Int).toNat+1) (([Api_TypeNode.mk 0 0 0 (⟨#[]⟩:ByteArray) ([]:List Int) ([]:List Api_Field) (0,0)]:List Api_TypeNode),0,(14,0,0,(⟨#[]⟩:ByteArray),[],[],0,0))) fun b20 =>
 Option.bind (idx b20.1 0) fun _ =>
 Option.bind (b20.1[(0:Int).toNat]?) fun _ =>
 some (Api_Signature.mk (Api_Ref.mk d.Name (d.Params.length:Int)) (Api_Type.mk (b20.1.set ((0:Int).toNat) (Api_TypeNode.mk b20.2.1 b20.2.2.1 b20.2.2.2.1 b20.2.2.2.2.1 b20.2.2.2.2.2.1 b20.2.2.2.2.2.2.1 (b20.2.2.2.2.2.2.2.1,b20.2.2.2.2.2.2.2.2))) 0))
def V3 (a2_2:List Semtypeprog_Callee)(x1:(List Api_Ref)×Int):Option (Fl ((List Api_Ref)×Int) (List Api_Ref)) :=
 bif decide (x1.2<(a2_2.length:Int))
 then (Option.bind (idx a2_2 x1.2) fun e2 =>
 Option.bind (Y0 (x1.1.length+([Api_Ref.mk e2.Name (e2.Params.length:Int)]:List Api_Ref).length) 24) fun _ =>
 some (.next (x1.1++([Api_Ref.mk e2.Name (e2.Params.length:Int)]:List Api_Ref),wr .i64 (x1.2+1))))
 else (some (.done x1.1))
def J7 (a2_2:List Semtypeprog_Callee)(e7:Api_Ref)(n:Nat)(x8:Int×(ByteArray×Bool×(List Api_Signature))):Option (Fl (Int×(ByteArray×Bool×(List Api_Signature))) (ByteArray×Bool×(List Api_Signature))) :=
 bif decide (x8.1<(a2_2.length:Int))
 then (Option.bind (idx a2_2 x8.1) fun e9 =>
 Option.bind (a0w n e9) fun r10 =>
 Option.bind (bif a23 r10.Ref e7
 then (Option.bind (bif (x8.2.2.2.length:Int)==0
 then (some true)
 else (Option.bind (idx x8.2.2.2 (wr .i64 ((x8.2.2.2.length:Int)-1))) fun e11 =>
 some (!(a23 e11.Ref e7)))) fun q12 =>
 some q12)
 else (some false)) fun q13 =>
 bif q13
 then (Option.bind (Y0 (x8.2.2.2.length+([r10]:List Api_Signature).length) 56) fun _ =>
 some (.next (wr .i64 (x8.1+1),(x8.2.1,x8.2.2.1,x8.2.2.2++([r10]:List Api_Signature)))))
 else (some (.next (wr .i64 (x8.1+1),(x8.2.1,x8.2.2.1,x8.2.2.2)))))
 else (some (.done (x8.2.1,x8.2.2.1,x8.2.2.2)))
def V7 (a2_2:List Semtypeprog_Callee)(r5:List Api_Ref)(n:Nat)(x6:Int×(ByteArray×Bool×(List Api_Signature))):Option (Fl (Int×(ByteArray×Bool×(List Api_Signature))) (ByteArray×Bool×(List Api_Signature))) :=
 bif decide (x6.1<(r5.length:Int))
 then (Option.bind (idx r5 x6.1) fun e7 =>
 Option.bind (z8 (J7 a2_2 e7 n) ((a2_2.length:Int).toNat+1) (0,(x6.2.1,x6.2.2.1,x6.2.2.2))) fun b15 =>
 some (.next (wr .i64 (x6.1+1),(b15.1,b15.2.1,b15.2.2))))
 else (some (.done (x6.2.1,x6.2.2.1,x6.2.2.2)))
def a1q (n:Nat)(d:ByteArray)(t:Bool)(a2_2:List Semtypeprog_Callee):Option (ByteArray×Bool×(List Api_Signature)) :=
 Option.bind (z8 (V3 a2_2) ((a2_2.length:Int).toNat+1) ([],0)) fun b4 =>
 Option.bind (a0s b4) fun r5 =>
 Option.bind (z8 (V7 a2_2 r5 n) ((r5.length:Int).toNat+1) (0,(d,t,[]))) fun b16 =>
 some (b16.1,b16.2.1,b16.2.2)
def a0m (s:Semtypebase_Source):Option (ByteArray×Semtypebase_Source) :=
 Option.bind (y0 s 4) fun r1 =>
 Option.bind (idx ([(⟨#[97]⟩:ByteArray),(⟨#[98]⟩:ByteArray),(⟨#[111,107]⟩:ByteArray),(⟨#[101,114,114,111,114]⟩:ByteArray)]:List ByteArray) r1.1) fun _ =>
 Option.bind (([(⟨#[97]⟩:ByteArray),(⟨#[98]⟩:ByteArray),(⟨#[111,107]⟩:ByteArray),(⟨#[101,114,114,111,114]⟩:ByteArray)]:List ByteArray)[r1.1.toNat]?) fun e3 =>
 some (e3,r1.2)
def a02 (s:Semtypebase_Source):Option (ByteArray×Semtypebase_Source) :=
 Option.bind (y0 s 4) fun r1 =>
 Option.bind (idx ([(⟨#[]⟩:ByteArray),(⟨#[115]⟩:ByteArray),(⟨#[120,32,121]⟩:ByteArray),(⟨#[97]⟩:ByteArray)]:List ByteArray) r1.1) fun _ =>
 Option.bind (([(⟨#[]⟩:ByteArray),(⟨#[115]⟩:ByteArray),(⟨#[120,32,121]⟩:ByteArray),(⟨#[97]⟩:ByteArray)]:List ByteArray)[r1.1.toNat]?) fun e3 =>
 some (e3,r1.2)
def a0R (s:Semtypebase_Source):Option (ByteArray×Semtypebase_Source) :=
 Option.bind (y0 s 3) fun r1 =>
 Option.bind (idx ([(⟨#[65]⟩:ByteArray),(⟨#[66]⟩:ByteArray),(⟨#[67]⟩:ByteArray)]:List ByteArray) r1.1) fun _ =>
 Option.bind (([(⟨#[65]⟩:ByteArray),(⟨#[66]⟩:ByteArray),(⟨#[67]⟩:ByteArray)]:List ByteArray)[r1.1.toNat]?) fun e3 =>
 some (e3,r1.2)
def X7 (from_:Int)(n_3:Int)(x1:Int×(List Int)×Semtypebase_Source):Option (Fl (Int×(List Int)×Semtypebase_Source) ((List Int)×Semtypebase_Source)) :=
 bif decide (0<x1.1)
 then (Option.bind (y0 x1.2.2 (wr .i64 (n_3-from_))) fun r2 =>
 Option.bind (Y0 (x1.2.1.length+([wr .i64 (from_+r2.1)]:List Int).length) 8) fun _ =>
 some (.next (wr .i64 (x1.1-1),x1.2.1++([wr .i64 (from_+r2.1)]:List Int),r2.2)))
 else (some (.done (x1.2.1,x1.2.2)))
def y4 (s:Semtypebase_Source)(many:Int)(from_:Int)(n_3:Int):Option ((List Int)×Semtypebase_Source) :=
 Option.bind (z8 (X7 from_ n_3) (many.toNat+2) (many,[],s)) fun b4 =>
 some (b4.1,b4.2)
def J2 (n_1:Int)(x3:Int×Semtypebase_Source×(Int×Int×Int×ByteArray×(List Int)×(List Api_Field)×Int×Int)):Option (Fl (Int×Semtypebase_Source×(Int×Int×Int×ByteArray×(List Int)×(List Api_Field)×Int×Int)) (Semtypebase_Source×(Int×Int×Int×ByteArray×(List Int)×(List Api_Field)×Int×Int))) :=
 bif decide (x3.1<3)
 then (Option.bind (Option.bind (y0 x3.2.1 2) fun r4 =>
 bif r4.1==1
 then (Option.bind (idx ([Key.mk 0 (⟨#[97]⟩:ByteArray),Key.mk 0 (⟨#[98]⟩:ByteArray),Key.mk 1 (⟨#[115]⟩:ByteArray)]:List Key) x3.1) fun e5 =>
 Option.bind (y0 r4.2 n_1) fun r6 =>
 Option.bind (y0 r6.2 2) fun r7 =>
 Option.bind (Y0 (x3.2.2.2.2.2.2.2.1.length+([Api_Field.mk e5 r6.1 (r7.1==1)]:List Api_Field).length) 40) fun _ =>
 some (r7.2,(x3.2.2.1,x3.2.2.2.1,x3.2.2.2.2.1,x3.2.2.2.2.2.1,x3.2.2.2.2.2.2.1,x3.2.2.2.2.2.2.2.1++([Api_Field.mk e5 r6.1 (r7.1==1)]:List Api_Field),x3.2.2.2.2.2.2.2.2.1,x3.2.2.2.2.2.2.2.2.2)))
 else (some (r4.2,(x3.2.2.1,x3.2.2.2.1,x3.2.2.2.2.1,x3.2.2.2.2.2.1,x3.2.2.2.2.2.2.1,x3.2.2.2.2.2.2.2.1,x3.2.2.2.2.2.2.2.2.1,x3.2.2.2.2.2.2.2.2.2)))) fun b9 =>
 some (.next (wr .i64 (x3.1+1),b9.1,(b9.2.1,b9.2.2.1,b9.2.2.2.1,b9.2.2.2.2.1,b9.2.2.2.2.2.1,b9.2.2.2.2.2.2.1,b9.2.2.2.2.2.2.2.1,b9.2.2.2.2.2.2.2.2))))
 else (some (.done (x3.2.1,(x3.2.2.1,x3.2.2.2.1,x3.2.2.2.2.1,x3.2.2.2.2.2.1,x3.2.2.2.2.2.2.1,x3.2.2.2.2.2.2.2.1,x3.2.2.2.2.2.2.2.2.1,x3.2.2.2.2.2.2.2.2.2))))
def a0r (s:Semtypebase_Source)(n_1:Int):Option (Api_TypeNode×Semtypebase_Source) :=
 Option.bind (y0 s n_1) fun r1 =>
 Option.bind (y0 r1.2 n_1) fun r2 =>
 Option.bind (z8 (J2 n_1) ((3:Int).toNat+1) (0,r2.2,(13,0,0,(⟨#[]⟩:ByteArray),[],[],r1.1,r2.1))) fun b10 =>
 some (Api_TypeNode.mk b10.2.1 b10.2.2.1 b10.2.2.2.1 b10.2.2.2.2.1 b10.2.2.2.2.2.1 b10.2.2.2.2.2.2.1 (b10.2.2.2.2.2.2.2.1,b10.2.2.2.2.2.2.2.2),b10.1)
def a06 (d:Semtypebase_Source)(t:Int)(a2_2:Int):Option (Api_TypeNode×Semtypebase_Source) :=
 Option.bind (bif t==(wr .i64 (a2_2-1))
 then (some 14)
 else (some 18)) fun (b1:Int) =>
 Option.bind (y0 d b1) fun r2 =>
 bif r2.1==0
 then (Option.bind (y0 r2.2 5) fun r3 =>
 Option.bind (idx ([(-9223372036854775808),0,1,2,9223372036854775807]:List Int) r3.1) fun _ =>
 Option.bind (([(-9223372036854775808),0,1,2,9223372036854775807]:List Int)[r3.1.toNat]?) fun e5 =>
 Option.bind (y0 r3.2 (wr .i64 (5-r3.1))) fun r6 =>
 Option.bind (idx ([(-9223372036854775808),0,1,2,9223372036854775807]:List Int) (wr .i64 (r3.1+r6.1))) fun _ =>
 Option.bind (([(-9223372036854775808),0,1,2,9223372036854775807]:List Int)[(wr .i64 (r3.1+r6.1)).toNat]?) fun e8 =>
 some (Api_TypeNode.mk 3 e5 e8 (⟨#[]⟩:ByteArray) ([]:List Int) ([]:List Api_Field) (0,0),r6.2))
 else (bif r2.1==1
 then (Option.bind (a0m r2.2) fun r9 =>
 some (Api_TypeNode.mk 6 0 0 r9.1 ([]:List Int) ([]:List Api_Field) (0,0),r9.2))
 else (bif r2.1==2
 then (some (Api_TypeNode.mk 7 0 0 (⟨#[]⟩:ByteArray) ([]:List Int) ([]:List Api_Field) (0,0),r2.2))
 else (bif r2.1==3
 then (Option.bind (a02 r2.2) fun r10 =>
 some (Api_TypeNode.mk 4 0 0 r10.1 ([]:List Int) ([]:List Api_Field) (0,0),r10.2))
 else (bif r2.1==4
 then (Option.bind (y0 r2.2 4) fun r11 =>
 Option.bind (idx ([5,8,11,15]:List Int) r11.1) fun _ =>
 Option.bind (([5,8,11,15]:List Int)[r11.1.toNat]?) fun e13 =>
 some (Api_TypeNode.mk e13 0 0 (⟨#[]⟩:ByteArray) ([]:List Int) ([]:List Api_Field) (0,0),r11.2))
 else (bif r2.1==5
 then (some (Api_TypeNode.mk 9 0 0 (⟨#[]⟩:ByteArray) ([]:List Int) ([]:List Api_Field) (0,0),r2.2))
 else (bif r2.1==6
 then (Option.bind (y0 r2.2 2) fun r14 =>
 Option.bind (idx ([2,1]:List Int) r14.1) fun _ =>
 Option.bind (([2,1]:List Int)[r14.1.toNat]?) fun e16 =>
 some (Api_TypeNode.mk e16 0 0 (⟨#[]⟩:ByteArray) ([]:List Int) ([]:List Api_Field) (0,0),r14.2))
 else (bif r2.1==7
 then (Option.bind (a0R r2.2) fun r17 =>
 some (Api_TypeNode.mk 19 0 0 r17.1 ([]:List Int) ([]:List Api_Field) (0,0),r17.2))
 else (Option.bind (bif r2.1==8
 then (some (r2.1==8))
 else (some (r2.1==9))) fun b18 =>
 bif b18
 then (Option.bind (y0 r2.2 3) fun r19 =>
 Option.bind (y4 r19.2 r19.1 0 a2_2) fun r20 =>
 some (Api_TypeNode.mk 10 0 0 (⟨#[]⟩:ByteArray) r20.1 ([]:List Api_Field) (0,0),r20.2))
 else (bif r2.1==10
 then (Option.bind (y4 r2.2 2 0 a2_2) fun r21 =>
 some (Api_TypeNode.mk 12 0 0 (⟨#[]⟩:ByteArray) r21.1 ([]:List Api_Field) (0,0),r21.2))
 else (bif r2.1==11
 then (Option.bind (a0r r2.2 a2_2) fun r22 =>
 some (r22.1,r22.2))
 else (Option.bind (bif r2.1==12
 then (some (r2.1==12))
 else (some (r2.1==13))) fun b23 =>
 bif b23
 then (Option.bind (y0 r2.2 3) fun r24 =>
 Option.bind (y4 r24.2 (wr .i64 (1+r24.1)) 0 a2_2) fun r25 =>
 some (Api_TypeNode.mk 14 0 0 (⟨#[]⟩:ByteArray) r25.1 ([]:List Api_Field) (0,0),r25.2))
 else (bif r2.1==14
 then (Option.bind (y4 r2.2 1 (wr .i64 (t+1)) a2_2) fun r26 =>
 some (Api_TypeNode.mk 18 0 0 (⟨#[]⟩:ByteArray) r26.1 ([]:List Api_Field) (0,0),r26.2))
 else (bif r2.1==15
 then (Option.bind (y4 r2.2 2 (wr .i64 (t+1)) a2_2) fun r27 =>
 some (Api_TypeNode.mk 17 0 0 (⟨#[]⟩:ByteArray) r27.1 ([]:List Api_Field) (0,0),r27.2))
 else (Option.bind (y0 r2.2 2) fun r28 =>
 Option.bind (y4 r28.2 (wr .i64 (2+r28.1)) (wr .i64 (t+1)) a2_2) fun r29 =>
 some (Api_TypeNode.mk 16 0 0 (⟨#[]⟩:ByteArray) r29.1 ([]:List Api_Field) (0,0),r29.2)))))))))))))))
def W3 (n_1:Int)(x1:Int×Semtypebase_Source×((List Api_TypeNode)×Int)):Option (Fl (Int×Semtypebase_Source×((List Api_TypeNode)×Int)) (Semtypebase_Source×((List Api_TypeNode)×Int))) :=
 bif decide (x1.1<(max n_1 1))
 then (Option.bind (a06 x1.2.1 x1.1 (max n_1 1)) fun r2 =>
 Option.bind (Y0 (x1.2.2.1.length+([r2.1]:List Api_TypeNode).length) 104) fun _ =>
 some (.next (wr .i64 (x1.1+1),r2.2,(x1.2.2.1++([r2.1]:List Api_TypeNode),x1.2.2.2))))
 else (some (.done (x1.2.1,(x1.2.2.1,x1.2.2.2))))
def a04 (s:Semtypebase_Source)(n_1:Int):Option (Api_Type×Semtypebase_Source) :=
 Option.bind (z8 (W3 n_1) ((max n_1 1).toNat+1) (0,s,([],0))) fun b4 =>
 some (Api_Type.mk b4.2.1 b4.2.2,b4.1)
def a1B (n:Nat)(l:List Int):Option Api_Interface :=
 Option.bind (y0 (Semtypebase_Source.mk (l.take 50) 0) 3) fun r1 =>
 Option.bind (idx ([(⟨#[109]⟩:ByteArray),(⟨#[97]⟩:ByteArray),(⟨#[120,49]⟩:ByteArray)]:List ByteArray) r1.1) fun _ =>
 Option.bind (([(⟨#[109]⟩:ByteArray),(⟨#[97]⟩:ByteArray),(⟨#[120,49]⟩:ByteArray)]:List ByteArray)[r1.1.toNat]?) fun e3 =>
 Option.bind (y0 r1.2 2) fun r4 =>
 Option.bind (y0 r4.2 3) fun r5 =>
 Option.bind (a0A (r5.2,([]:List Semtypeprog_Callee),0,false,0) (⟨#[]⟩:ByteArray) (wr .i64 (1+r5.1))) fun r6 =>
 Option.bind (a1q n e3 (r4.1==0) r6.1) fun r7 =>
 Option.bind (y0 r6.2.1 3) fun r8 =>
 bif r8.1==1
 then (Option.bind (y0 r8.2 4) fun r9 =>
 Option.bind (y0 (Semtypebase_Source.mk l 0) 6) fun r10 =>
 Option.bind (a04 r10.2 (wr .i64 (1+r10.1))) fun r11 =>
 Option.bind (Y0 (r7.2.2.length+([Api_Signature.mk (Api_Ref.mk (⟨#[122]⟩:ByteArray) r9.1) r11.1]:List Api_Signature).length) 56) fun _ =>
 some (Api_Interface.mk r7.1 true (r7.2.2++([Api_Signature.mk (Api_Ref.mk (⟨#[122]⟩:ByteArray) r9.1) r11.1]:List Api_Signature))))
 else (some (Api_Interface.mk r7.1 r7.2.1 r7.2.2))
def a5e (s:ByteArray)(other:Int->Option Bool)(x5:Int):Option (Fl Int (Sum Unit Bool)) :=
 bif decide (x5<(s.size:Int))
 then (Option.bind (a1f s x5) fun e6 =>
 Option.bind (other (e6.toNat:Int)) fun r7 =>
 bif !r7
 then (some (.done (.inr false)))
 else (some (.next (wr .i64 (x5+1)))))
 else (some (.done (.inl ())))
def a3C (s:ByteArray)(first:Int->Option Bool)(other:Int->Option Bool):Option Bool :=
 Option.bind (bif decide ((s.size:Int)<1)
 then (some true)
 else (some (decide (16<(s.size:Int))))) fun q1 =>
 Option.bind (bif q1
 then (some true)
 else (Option.bind (a1f s 0) fun e2 =>
 Option.bind (first (e2.toNat:Int)) fun r3 =>
 some (!r3))) fun q4 =>
 bif q4
 then (some false)
 else (Option.bind (z8 (a5e s other) ((s.size:Int).toNat+1) 1) fun b8 =>
 Q3 (fun _ =>
 some true) (fun y10 =>
 some y10) b8)
def a2a (c:Int):Option Bool :=
 Option.bind (bif decide (97<=c)
 then (some (decide (c<=122)))
 else (some false)) fun q1 =>
 some q1
def a3b (c:Int):Option Bool :=
 Option.bind (bif decide (48<=c)
 then (some (decide (c<=57)))
 else (some false)) fun q1 =>
 some q1
def a5T (c:Int):Option Bool :=
 Option.bind (a2a c) fun r1 =>
 Option.bind (bif r1
 then (some true)
 else (Option.bind (a3b c) fun r2 =>
 some r2)) fun q3 =>
 Option.bind (bif q3
 then (some true)
 else (some (c==95))) fun q4 =>
 some q4
def a2J (s:ByteArray):Option Bool :=
 Option.bind (a3C s (fun z1 =>
 Option.bind (a2a z1) fun r2 =>
 some r2) (fun z3 =>
 Option.bind (a5T z3) fun r4 =>
 some r4)) fun r5 =>
 some r5
def b1e (s:ByteArray):Option Bool :=
 some ((a5R (K7 (K7 (K7 (K7 (K7 (K7 (K7 (K7 (K7 (K7 (K7 (K7 (K7 (K7 (K7 (K7 (K7 (K7 (K7 (K7 (K7 (K7 (K7 (K7 (K7 (K7 (K7 (K7 ([]:List (ByteArray×Bool)) (⟨#[109,111,100,117,108,101]⟩:ByteArray) true) (⟨#[105,109,112,111,114,116]⟩:ByteArray) true) (⟨#[101,120,112,111,114,116]⟩:ByteArray) true) (⟨#[115,105,103]⟩:ByteArray) true) (⟨#[119,104,101,110]⟩:ByteArray) true) (⟨#[99,97,115,101]⟩:ByteArray) true) (⟨#[111,102]⟩:ByteArray) true) (⟨#[101,110,100]⟩:ByteArray) true) (⟨#[116,114,121]⟩:ByteArray) true) (⟨#[99,97,116,99,104]⟩:ByteArray) true) (⟨#[114,97,105,115,101]⟩:ByteArray) true) (⟨#[97,115,115,101,114,116]⟩:ByteArray) true) (⟨#[115,112,97,119,110]⟩:ByteArray) true) (⟨#[115,101,108,102]⟩:ByteArray) true) (⟨#[115,101,110,100]⟩:ByteArray) true) (⟨#[114,101,99,101,105,118,101]⟩:ByteArray) true) (⟨#[97,102,116,101,114]⟩:ByteArray) true) (⟨#[108,101,116]⟩:ByteArray) true) (⟨#[105,110]⟩:ByteArray) true) (⟨#[102,117,110]⟩:ByteArray) true) (⟨#[97,112,112,108,121]⟩:ByteArray) true) (⟨#[112,117,116]⟩:ByteArray) true) (⟨#[103,101,116]⟩:ByteArray) true) (⟨#[97,110,100]⟩:ByteArray) true) (⟨#[111,114]⟩:ByteArray) true) (⟨#[110,111,116]⟩:ByteArray) true) (⟨#[100,105,118]⟩:ByteArray) true) (⟨#[114,101,109]⟩:ByteArray) true) s).getD false)
def a0H (s:ByteArray):Option Bool :=
 Option.bind (a2J s) fun r1 =>
 Option.bind (bif r1
 then (Option.bind (b1e s) fun r2 =>
 some (!r2))
 else (some false)) fun q3 =>
 some q3
def a2r (d:Api_TypeNode):Option Bool :=
 Option.bind (bif d.Kind==3
 then (some (true,false,false,false))
 else (Option.bind (bif d.Kind==4
 then (some (d.Kind==4))
 else (bif d.Kind==6
 then (some (d.Kind==6))
 else (some (d.Kind==19)))) fun b1 =>
 bif b1
 then (some (false,true,false,false))
 else (Option.bind (bif d.Kind==10
 then (some (d.Kind==10))
 else (bif d.Kind==12
 then (some (d.Kind==12))
 else (bif d.Kind==14
 then (some (d.Kind==14))
 else (bif d.Kind==16
 then (some (d.Kind==16))
 else (bif d.Kind==17
 then (some (d.Kind==17))
 else (some (d.Kind==18))))))) fun b2 =>
 bif b2
 then (some (false,false,true,false))
 else (bif d.Kind==13
 then (some (false,false,false,true))
 else (some (false,false,false,false)))))) fun b3 =>
 Option.bind (bif b3.1
 then (some true)
 else (Option.bind (bif d.Lo==0
 then (some (d.Hi==0))
 else (some false)) fun q4 =>
 some q4)) fun q5 =>
 Option.bind (bif q5
 then (Option.bind (bif b3.2.1
 then (some true)
 else (some (j7 d.Text (⟨#[]⟩:ByteArray)))) fun q6 =>
 some q6)
 else (some false)) fun q7 =>
 Option.bind (bif q7
 then (Option.bind (bif b3.2.2.1
 then (some true)
 else (some ((d.Kids.length:Int)==0))) fun q8 =>
 some q8)
 else (some false)) fun q9 =>
 Option.bind (bif q9
 then (Option.bind (bif b3.2.2.2
 then (some true)
 else (Option.bind (bif (d.Fields.length:Int)==0
 then (some (a3v d.Rest (0,0)))
 else (some false)) fun q10 =>
 some q10)) fun q11 =>
 some q11)
 else (some false)) fun q12 =>
 some q12
def a26 (c:Int):Option Bool :=
 Option.bind (bif decide (65<=c)
 then (some (decide (c<=90)))
 else (some false)) fun q1 =>
 some q1
def a3H (c:Int):Option Bool :=
 Option.bind (a2a c) fun r1 =>
 Option.bind (bif r1
 then (some true)
 else (Option.bind (a26 c) fun r2 =>
 some r2)) fun q3 =>
 Option.bind (bif q3
 then (some true)
 else (Option.bind (a3b c) fun r4 =>
 some r4)) fun q5 =>
 Option.bind (bif q5
 then (some true)
 else (some (c==95))) fun q6 =>
 some q6
def a2T (s:ByteArray):Option Bool :=
 Option.bind (a3C s (fun z1 =>
 Option.bind (a26 z1) fun r2 =>
 some r2) (fun z3 =>
 Option.bind (a3H z3) fun r4 =>
 some r4)) fun r5 =>
 some r5
def a3M (k:Key):Option Bool :=
 bif k.Kind==0
 then (Option.bind (a2J k.Text) fun r1 =>
 some r1)
 else (bif k.Kind==1
 then (some (decide ((k.Text.size:Int)<=64)))
 else (some false))
def a29 (x:Int):Option Bool :=
 some (x != x)
def a0O (x:Int)(y:Int):Option Int :=
 Option.bind (a29 x) fun r1 =>
 Option.bind (a29 y) fun r2 =>
 bif r1
 then (bif r2
 then (some 0)
 else (some (-1)))
 else (bif r2
 then (some 1)
 else (bif decide (x<y)
 then (some (-1))
 else (bif decide (y<x)
 then (some 1)
 else (some 0))))
def a0F (a:ByteArray)(b:ByteArray):Option Int :=
 Option.bind (b9k a b) fun r1 =>
 some r1
def a3q (a:ByteArray)(b:ByteArray):Option Int :=
 Option.bind (a0F a b) fun r1 =>
 some r1
def a2C (a:Key)(b:Key):Option Int :=
 Option.bind (a0O a.Kind b.Kind) fun r1 =>
 bif r1 != 0
 then (some r1)
 else (Option.bind (a3q a.Text b.Text) fun r2 =>
 some r2)
def a05 (l:List Api_Field)(x1:Int):Option (Fl Int (Sum Unit Bool)) :=
 bif decide (x1<(l.length:Int))
 then (Option.bind (idx l x1) fun e2 =>
 Option.bind (a3M e2.Key_) fun r3 =>
 Option.bind (bif !r3
 then (some true)
 else (Option.bind (bif decide (0<x1)
 then (Option.bind (idx l (wr .i64 (x1-1))) fun e4 =>
 Option.bind (a2C e4.Key_ e2.Key_) fun r5 =>
 some (decide (0<=r5)))
 else (some false)) fun q6 =>
 some q6)) fun q7 =>
 bif q7
 then (some (.done (.inr false)))
 else (some (.next (wr .i64 (x1+1)))))
 else (some (.done (.inl ())))
def a1K (l:List Api_Field):Option Bool :=
 Option.bind (z8 (a05 l) ((l.length:Int).toNat+1) 0) fun b8 =>
 Q3 (fun _ =>
 some true) (fun y10 =>
 some y10) b8
def a2i (d:Api_TypeNode):Option Bool :=
 Option.bind (bif d.Kind==1
 then (some (d.Kind==1))
 else (bif d.Kind==2
 then (some (d.Kind==2))
 else (bif d.Kind==5
 then (some (d.Kind==5))
 else (bif d.Kind==7
 then (some (d.Kind==7))
 else (bif d.Kind==8
 then (some (d.Kind==8))
 else (bif d.Kind==9
 then (some (d.Kind==9))
 else (bif d.Kind==11
 then (some (d.Kind==11))
 else (some (d.Kind==15))))))))) fun b1 =>
 bif b1
 then (some true)
 else (bif d.Kind==3
 then (some (decide (d.Lo<=d.Hi)))
 else (bif d.Kind==4
 then (some (decide ((d.Text.size:Int)<=64)))
 else (bif d.Kind==6
 then (Option.bind (a2J d.Text) fun r2 =>
 some r2)
 else (bif d.Kind==19
 then (Option.bind (a2T d.Text) fun r3 =>
 some r3)
 else (bif d.Kind==10
 then (some (decide ((d.Kids.length:Int)<=4)))
 else (bif d.Kind==12
 then (some ((d.Kids.length:Int)==2))
 else (bif d.Kind==13
 then (Option.bind (a1K d.Fields) fun r4 =>
 some r4)
 else (bif d.Kind==14
 then (Option.bind (bif decide (1<=(d.Kids.length:Int))
 then (some (decide ((d.Kids.length:Int)<=5)))
 else (some false)) fun q5 =>
 some q5)
 else (Option.bind (bif d.Kind==16
 then (some (d.Kind==16))
 else (some (d.Kind==17))) fun b6 =>
 bif b6
 then (some (decide (1<=(d.Kids.length:Int))))
 else (bif d.Kind==18
 then (some ((d.Kids.length:Int)==1))
 else (some false)))))))))))
def a0V (n_0:Api_TypeNode)(x2:(List Int)×Int):Option (Fl ((List Int)×Int) (List Int)) :=
 bif decide (x2.2<(n_0.Fields.length:Int))
 then (Option.bind (idx n_0.Fields x2.2) fun e3 =>
 Option.bind (Y0 (x2.1.length+([e3.Node]:List Int).length) 8) fun _ =>
 some (.next (x2.1++([e3.Node]:List Int),wr .i64 (x2.2+1))))
 else (some (.done x2.1))
def a2I (n_0:Api_TypeNode):Option (List Int) :=
 Option.bind (a4b 8 n_0.Kids) fun r1 =>
 Option.bind (z8 (a0V n_0) ((n_0.Fields.length:Int).toNat+1) (r1,0)) fun b5 =>
 bif n_0.Kind==13
 then (Option.bind (Y0 (b5.length+([n_0.Rest.1,n_0.Rest.2]:List Int).length) 8) fun _ =>
 some (b5++([n_0.Rest.1,n_0.Rest.2]:List Int)))
 else (some b5)
def a2d (kind:Int):Option Bool :=
 Option.bind (bif kind==16
 then (some true)
 else (some (kind==17))) fun q1 =>
 Option.bind (bif q1
 then (some true)
 else (some (kind==18))) fun q2 =>
 some q2
def Z5 (a2_2:Api_Type)(e10:Api_TypeNode)(rec_typeexpr_contractive_1:Int->(List Int)->Api_Type->Unit->Option (Bool×(List Int)))(x11:Int×(List Int)):Option (Fl (Int×(List Int)) (Sum (List Int) (Bool×(List Int)))) :=
 bif decide (x11.1<(e10.Kids.length:Int))
 then (Option.bind (idx e10.Kids x11.1) fun e12 =>
 Option.bind (rec_typeexpr_contractive_1 e12 x11.2 a2_2 ()) fun r13 =>
 bif !r13.1
 then (some (.done (.inr (false,r13.2))))
 else (some (.next (wr .i64 (x11.1+1),r13.2))))
 else (some (.done (.inl x11.2)))
def a1U (_:Nat)(rec_typeexpr_contractive_1:Int->(List Int)->Api_Type->Unit->Option (Bool×(List Int)))(i:Int)(a1_1:List Int)(a2_2:Api_Type)(_:Unit):Option (Bool×(List Int)) :=
 Option.bind (idx a1_1 i) fun _ =>
 Option.bind (a1_1[i.toNat]?) fun e2 =>
 Option.bind (bif e2 != 0
 then (some true)
 else (Option.bind (idx a2_2.Nodes i) fun e3 =>
 Option.bind (a2d e3.Kind) fun r4 =>
 some (!r4))) fun q5 =>
 bif q5
 then (Option.bind (idx a1_1 i) fun _ =>
 Option.bind (a1_1[i.toNat]?) fun e7 =>
 some (e7 != 1,a1_1))
 else (Option.bind (idx a1_1 i) fun _ =>
 Option.bind (a1_1[i.toNat]?) fun _ =>
 Option.bind (idx a2_2.Nodes i) fun e10 =>
 Option.bind (z8 (Z5 a2_2 e10 rec_typeexpr_contractive_1) ((e10.Kids.length:Int).toNat+1) (0,a1_1.set i.toNat 1)) fun (b14:Sum (List Int) (Bool×(List Int))) =>
 Q3 (fun x15 =>
 Option.bind (idx x15 i) fun _ =>
 Option.bind (x15[i.toNat]?) fun _ =>
 some (true,x15.set i.toNat 2)) (fun y16 =>
 some (y16.1,y16.2)) b14)
def Y3:Nat->Int->(List Int)->Api_Type->Unit->Option (Bool×(List Int))
 | 0=>fun _ _ _ _=>none
 | n+1=>a1U n (Y3 n)
def Y5 (t:Api_Type)(n:Nat)(x2:Int×(List Int)):Option (Fl (Int×(List Int)) (Sum (List Int) (Bool×(List Int)))) :=
 bif decide (x2.1<(t.Nodes.length:Int))
 then (Option.bind (Y3 n x2.1 x2.2 t ()) fun r3 =>
 bif !r3.1
 then (some (.done (.inr (false,r3.2))))
 else (some (.next (wr .i64 (x2.1+1),r3.2))))
 else (some (.done (.inl x2.2)))
def a1G (n:Nat)(t:Api_Type):Option Bool :=
 Option.bind (a81 (t.Nodes.length:Int) (t.Nodes.length:Int) 8) fun m1 =>
 Option.bind (z8 (Y5 t n) ((t.Nodes.length:Int).toNat+1) (0,List.replicate m1 (0:Int))) fun (b4:Sum (List Int) (Bool×(List Int))) =>
 Q3 (fun _ =>
 some true) (fun y6 =>
 some y6.1) b4
def a1i (t:Api_Type)(r7:List Int)(x8:Int):Option (Fl Int (Sum Unit Int)) :=
 bif decide (x8<(r7.length:Int))
 then (Option.bind (idx r7 x8) fun e9 =>
 Option.bind (bif decide (e9<0)
 then (some true)
 else (some (decide ((t.Nodes.length:Int)<=e9)))) fun q10 =>
 bif q10
 then (some (.done (.inr 1)))
 else (some (.next (wr .i64 (x8+1)))))
 else (some (.done (.inl ())))
def a1j (t:Api_Type)(x2:Int):Option (Fl Int (Sum Unit Int)) :=
 bif decide (x2<(t.Nodes.length:Int))
 then (Option.bind (idx t.Nodes x2) fun e3 =>
 Option.bind (a2r e3) fun r4 =>
 Option.bind (bif !r4
 then (some true)
 else (Option.bind (a2i e3) fun r5 =>
 some (!r5))) fun q6 =>
 bif q6
 then (some (.done (.inr 1)))
 else (Option.bind (a2I e3) fun r7 =>
 Option.bind (z8 (a1i t r7) ((r7.length:Int).toNat+1) 0) fun b11 =>
 Q3 (fun _ =>
 some (.next (wr .i64 (x2+1)))) (fun y13 =>
 some (.done (.inr y13))) b11))
 else (some (.done (.inl ())))
def J8 (n:Nat)(t:Api_Type):Option Int :=
 Option.bind (bif decide (t.Root<0)
 then (some true)
 else (some (decide ((t.Nodes.length:Int)<=t.Root)))) fun q1 =>
 bif q1
 then (some 1)
 else (Option.bind (z8 (a1j t) ((t.Nodes.length:Int).toNat+1) 0) fun b14 =>
 Q3 (fun _ =>
 Option.bind (a1G n t) fun r17 =>
 bif !r17
 then (some 3)
 else (some 0)) (fun y16 =>
 some y16) b14)
def a20 (x:ByteArray):Option Bool :=
 some (!(j7 x x))
def a2q (x:ByteArray)(y:ByteArray):Option Int :=
 Option.bind (a20 x) fun r1 =>
 Option.bind (a20 y) fun r2 =>
 bif r1
 then (bif r2
 then (some 0)
 else (some (-1)))
 else (bif r2
 then (some 1)
 else (bif a2m x y
 then (some (-1))
 else (bif !(a2m x y||j7 x y)
 then (some 1)
 else (some 0))))
def a2b (vals:List Int)(x1:Int):Option (Fl Int (Sum Unit Int)) :=
 bif decide (x1<(vals.length:Int))
 then (Option.bind (idx vals x1) fun e2 =>
 bif e2 != 0
 then (some (.done (.inr e2)))
 else (some (.next (wr .i64 (x1+1)))))
 else (some (.done (.inl ())))
def a8n (vals:List Int):Option Int :=
 Option.bind (z8 (a2b vals) ((vals.length:Int).toNat+1) 0) fun b3 =>
 Q3 (fun _ =>
 some 0) (fun y5 =>
 some y5) b3
def a3u (a:Api_Signature)(b:Api_Signature):Option Int :=
 Option.bind (a2q a.Ref.Name b.Ref.Name) fun r1 =>
 Option.bind (a0O a.Ref.Arity b.Ref.Arity) fun r2 =>
 Option.bind (a8n ([r1,r2]:List Int)) fun r3 =>
 some r3
def a99 (n_0:Api_TypeNode):Option Api_Type :=
 some (Api_Type.mk ([n_0]:List Api_TypeNode) 0)
def a7M:Option Api_Type :=
 Option.bind (a99 (Api_TypeNode.mk 1 0 0 (⟨#[]⟩:ByteArray) ([]:List Int) ([]:List Api_Field) (0,0))) fun r1 =>
 some r1
def a3O (n:Nat)(t:Api_Type):Option Api_Type :=
 Option.bind (J8 n t) fun r1 =>
 bif r1 != 0
 then (Option.bind (a7M) fun r2 =>
 some r2)
 else (some t)
def b2W (t:Int)(r1:List Int)(x2:Int×(Int×Int×Int×ByteArray×(List Int)×(List Api_Field)×Int×Int)):Option (Fl (Int×(Int×Int×Int×ByteArray×(List Int)×(List Api_Field)×Int×Int)) (Int×Int×Int×ByteArray×(List Int)×(List Api_Field)×Int×Int)) :=
 bif decide (x2.1<(r1.length:Int))
 then (Option.bind (idx x2.2.2.2.2.2.1 x2.1) fun _ =>
 Option.bind (x2.2.2.2.2.2.1[x2.1.toNat]?) fun e4 =>
 Option.bind (idx x2.2.2.2.2.2.1 x2.1) fun _ =>
 Option.bind (x2.2.2.2.2.2.1[x2.1.toNat]?) fun _ =>
 some (.next (wr .i64 (x2.1+1),(x2.2.1,x2.2.2.1,x2.2.2.2.1,x2.2.2.2.2.1,x2.2.2.2.2.2.1.set x2.1.toNat (wr .i64 (e4+t)),x2.2.2.2.2.2.2.1,x2.2.2.2.2.2.2.2.1,x2.2.2.2.2.2.2.2.2))))
 else (some (.done (x2.2.1,x2.2.2.1,x2.2.2.2.1,x2.2.2.2.2.1,x2.2.2.2.2.2.1,x2.2.2.2.2.2.2.1,x2.2.2.2.2.2.2.2.1,x2.2.2.2.2.2.2.2.2)))
def b3e (t:Int)(r8:List Api_Field)(x9:Int×(Int×Int×Int×ByteArray×(List Int)×(List Api_Field)×Int×Int)):Option (Fl (Int×(Int×Int×Int×ByteArray×(List Int)×(List Api_Field)×Int×Int)) (Int×Int×Int×ByteArray×(List Int)×(List Api_Field)×Int×Int)) :=
 bif decide (x9.1<(r8.length:Int))
 then (Option.bind (idx x9.2.2.2.2.2.2.1 x9.1) fun _ =>
 Option.bind (x9.2.2.2.2.2.2.1[x9.1.toNat]?) fun e11 =>
 Option.bind (idx x9.2.2.2.2.2.2.1 x9.1) fun _ =>
 Option.bind (x9.2.2.2.2.2.2.1[x9.1.toNat]?) fun e13 =>
 some (.next (wr .i64 (x9.1+1),(x9.2.1,x9.2.2.1,x9.2.2.2.1,x9.2.2.2.2.1,x9.2.2.2.2.2.1,x9.2.2.2.2.2.2.1.set x9.1.toNat (Api_Field.mk e13.Key_ (wr .i64 (e11.Node+t)) e13.Optional),x9.2.2.2.2.2.2.2.1,x9.2.2.2.2.2.2.2.2))))
 else (some (.done (x9.2.1,x9.2.2.1,x9.2.2.2.1,x9.2.2.2.2.1,x9.2.2.2.2.2.1,x9.2.2.2.2.2.2.1,x9.2.2.2.2.2.2.2.1,x9.2.2.2.2.2.2.2.2)))
def a4t (d:Api_TypeNode)(t:Int):Option (Int×Int×Int×ByteArray×(List Int)×(List Api_Field)×Int×Int) :=
 Option.bind (a4b 8 d.Kids) fun r1 =>
 Option.bind (z8 (b2W t r1) ((r1.length:Int).toNat+1) (0,(d.Kind,d.Lo,d.Hi,d.Text,r1,d.Fields,d.Rest.1,d.Rest.2))) fun b7 =>
 Option.bind (a4b 40 b7.2.2.2.2.2.1) fun r8 =>
 Option.bind (z8 (b3e t r8) ((r8.length:Int).toNat+1) (0,(b7.1,b7.2.1,b7.2.2.1,b7.2.2.2.1,b7.2.2.2.2.1,r8,b7.2.2.2.2.2.2.1,b7.2.2.2.2.2.2.2))) fun b14 =>
 bif b14.1==13
 then (some (b14.1,b14.2.1,b14.2.2.1,b14.2.2.2.1,b14.2.2.2.2.1,b14.2.2.2.2.2.1,wr .i64 (b14.2.2.2.2.2.2.1+t),wr .i64 (b14.2.2.2.2.2.2.2+t)))
 else (some (b14.1,b14.2.1,b14.2.2.1,b14.2.2.2.1,b14.2.2.2.2.1,b14.2.2.2.2.2.1,b14.2.2.2.2.2.2.1,b14.2.2.2.2.2.2.2))
def b5c (nodes:List Api_TypeNode)(r1:Api_Type)(x2:(List Api_TypeNode)×Int):Option (Fl ((List Api_TypeNode)×Int) (List Api_TypeNode)) :=
 bif decide (x2.2<(r1.Nodes.length:Int))
 then (Option.bind (idx r1.Nodes x2.2) fun e3 =>
 Option.bind (a4t e3 (nodes.length:Int)) fun r4 =>
 Option.bind (Y0 (x2.1.length+([Api_TypeNode.mk r4.1 r4.2.1 r4.2.2.1 r4.2.2.2.1 r4.2.2.2.2.1 r4.2.2.2.2.2.1 (r4.2.2.2.2.2.2.1,r4.2.2.2.2.2.2.2)]:List Api_TypeNode).length) 104) fun _ =>
 some (.next (x2.1++([Api_TypeNode.mk r4.1 r4.2.1 r4.2.2.1 r4.2.2.2.1 r4.2.2.2.2.1 r4.2.2.2.2.2.1 (r4.2.2.2.2.2.2.1,r4.2.2.2.2.2.2.2)]:List Api_TypeNode),wr .i64 (x2.2+1))))
 else (some (.done x2.1))
def b0Z (n:Nat)(nodes:List Api_TypeNode)(t:Api_Type):Option ((List Api_TypeNode)×Int) :=
 Option.bind (a3O n t) fun r1 =>
 Option.bind (z8 (b5c nodes r1) ((r1.Nodes.length:Int).toNat+1) (nodes,0)) fun b6 =>
 some (b6,wr .i64 (r1.Root+(nodes.length:Int)))
def a4c (n:Nat)(t:Api_Type)(node:Int):Option Api_Type :=
 Option.bind (J8 n t) fun r1 =>
 Option.bind (bif r1 != 0
 then (some true)
 else (some (decide (node<0)))) fun q2 =>
 Option.bind (bif q2
 then (some true)
 else (some (decide ((t.Nodes.length:Int)<=node)))) fun q3 =>
 bif q3
 then (Option.bind (a7M) fun r4 =>
 some r4)
 else (Option.bind (b0Z n ([]) t) fun r5 =>
 some (Api_Type.mk r5.1 node))
def b09 (a2_2:Api_Type)(r6:List Int)(rec_typeexpr_reached_1:Int->(List Bool)->Api_Type->Unit->Option (List Bool))(x7:Int×(List Bool)):Option (Fl (Int×(List Bool)) (List Bool)) :=
 bif decide (x7.1<(r6.length:Int))
 then (Option.bind (idx r6 x7.1) fun e8 =>
 Option.bind (rec_typeexpr_reached_1 e8 x7.2 a2_2 ()) fun r9 =>
 some (.next (wr .i64 (x7.1+1),r9)))
 else (some (.done x7.2))
def b2f (_:Nat)(rec_typeexpr_reached_1:Int->(List Bool)->Api_Type->Unit->Option (List Bool))(i:Int)(a1_1:List Bool)(a2_2:Api_Type)(_:Unit):Option (List Bool) :=
 Option.bind (idx a1_1 i) fun _ =>
 Option.bind (a1_1[i.toNat]?) fun e2 =>
 bif e2
 then (some a1_1)
 else (Option.bind (idx a1_1 i) fun _ =>
 Option.bind (a1_1[i.toNat]?) fun _ =>
 Option.bind (idx a2_2.Nodes i) fun e5 =>
 Option.bind (a2I e5) fun r6 =>
 Option.bind (z8 (b09 a2_2 r6 rec_typeexpr_reached_1) ((r6.length:Int).toNat+1) (0,a1_1.set i.toNat true)) fun b10 =>
 some b10)
def a3I:Nat->Int->(List Bool)->Api_Type->Unit->Option (List Bool)
 | 0=>fun _ _ _ _=>none
 | n+1=>b2f n (a3I n)
def a4I (n:Nat)(t:Api_Type):Option (List Bool) :=
 Option.bind (a81 (t.Nodes.length:Int) (t.Nodes.length:Int) 1) fun m1 =>
 Option.bind (a3I n t.Root (List.replicate m1 (false:Bool)) t ()) fun r2 =>
 some r2
def b43 (r3:List Bool)(x4:(List Int)×(List Int)×Int):Option (Fl ((List Int)×(List Int)×Int) ((List Int)×(List Int))) :=
 bif decide (x4.2.2<(r3.length:Int))
 then (Option.bind (idx r3 x4.2.2) fun e5 =>
 bif e5
 then (Option.bind (idx x4.1 x4.2.2) fun _ =>
 Option.bind (x4.1[x4.2.2.toNat]?) fun _ =>
 Option.bind (Y0 (x4.2.1.length+([x4.2.2]:List Int).length) 8) fun _ =>
 some (.next (x4.1.set x4.2.2.toNat (x4.2.1.length:Int),x4.2.1++([x4.2.2]:List Int),wr .i64 (x4.2.2+1))))
 else (some (.next (x4.1,x4.2.1,wr .i64 (x4.2.2+1)))))
 else (some (.done (x4.1,x4.2.1)))
def b5b (r14:Int×Int×Int×ByteArray×(List Int)×(List Api_Field)×Int×Int)(x15:(List Int)×Int×(Int×Int×Int×ByteArray×(List Int)×(List Api_Field)×Int×Int)):Option (Fl ((List Int)×Int×(Int×Int×Int×ByteArray×(List Int)×(List Api_Field)×Int×Int)) ((List Int)×(Int×Int×Int×ByteArray×(List Int)×(List Api_Field)×Int×Int))) :=
 bif decide (x15.2.1<(r14.2.2.2.2.1.length:Int))
 then (Option.bind (idx x15.2.2.2.2.2.2.1 x15.2.1) fun _ =>
 Option.bind (x15.2.2.2.2.2.2.1[x15.2.1.toNat]?) fun e17 =>
 Option.bind (idx x15.1 e17) fun _ =>
 Option.bind (x15.1[e17.toNat]?) fun e19 =>
 Option.bind (idx x15.2.2.2.2.2.2.1 x15.2.1) fun _ =>
 Option.bind (x15.2.2.2.2.2.2.1[x15.2.1.toNat]?) fun _ =>
 some (.next (x15.1,wr .i64 (x15.2.1+1),(x15.2.2.1,x15.2.2.2.1,x15.2.2.2.2.1,x15.2.2.2.2.2.1,x15.2.2.2.2.2.2.1.set x15.2.1.toNat e19,x15.2.2.2.2.2.2.2.1,x15.2.2.2.2.2.2.2.2.1,x15.2.2.2.2.2.2.2.2.2))))
 else (some (.done (x15.1,(x15.2.2.1,x15.2.2.2.1,x15.2.2.2.2.1,x15.2.2.2.2.2.1,x15.2.2.2.2.2.2.1,x15.2.2.2.2.2.2.2.1,x15.2.2.2.2.2.2.2.2.1,x15.2.2.2.2.2.2.2.2.2))))
def b40 (b22:(List Int)×(Int×Int×Int×ByteArray×(List Int)×(List Api_Field)×Int×Int))(x23:(List Int)×Int×(Int×Int×Int×ByteArray×(List Int)×(List Api_Field)×Int×Int)):Option (Fl ((List Int)×Int×(Int×Int×Int×ByteArray×(List Int)×(List Api_Field)×Int×Int)) ((List Int)×(Int×Int×Int×ByteArray×(List Int)×(List Api_Field)×Int×Int))) :=
 bif decide (x23.2.1<(b22.2.2.2.2.2.2.1.length:Int))
 then (Option.bind (idx x23.2.2.2.2.2.2.2.1 x23.2.1) fun _ =>
 Option.bind (x23.2.2.2.2.2.2.2.1[x23.2.1.toNat]?) fun e25 =>
 Option.bind (idx x23.1 e25.Node) fun _ =>
 Option.bind (x23.1[e25.Node.toNat]?) fun e27 =>
 Option.bind (idx x23.2.2.2.2.2.2.2.1 x23.2.1) fun _ =>
 Option.bind (x23.2.2.2.2.2.2.2.1[x23.2.1.toNat]?) fun e29 =>
 some (.next (x23.1,wr .i64 (x23.2.1+1),(x23.2.2.1,x23.2.2.2.1,x23.2.2.2.2.1,x23.2.2.2.2.2.1,x23.2.2.2.2.2.2.1,x23.2.2.2.2.2.2.2.1.set x23.2.1.toNat (Api_Field.mk e29.Key_ e27 e29.Optional),x23.2.2.2.2.2.2.2.2.1,x23.2.2.2.2.2.2.2.2.2))))
 else (some (.done (x23.1,(x23.2.2.1,x23.2.2.2.1,x23.2.2.2.2.1,x23.2.2.2.2.2.1,x23.2.2.2.2.2.2.1,x23.2.2.2.2.2.2.2.1,x23.2.2.2.2.2.2.2.2.1,x23.2.2.2.2.2.2.2.2.2))))
def b47 (r1:Api_Type)(b9:(List Int)×(List Int))(x10:(List Int)×(List Api_TypeNode)×(List Int)×Int):Option (Fl ((List Int)×(List Api_TypeNode)×(List Int)×Int) ((List Int)×(List Api_TypeNode)×(List Int))) :=
 bif decide (x10.2.2.2<(b9.2.length:Int))
 then (Option.bind (idx x10.2.2.1 x10.2.2.2) fun _ =>
 Option.bind (x10.2.2.1[x10.2.2.2.toNat]?) fun e12 =>
 Option.bind (idx r1.Nodes e12) fun e13 =>
 Option.bind (a4t e13 0) fun r14 =>
 Option.bind (z8 (b5b r14) ((r14.2.2.2.2.1.length:Int).toNat+1) (x10.1,0,(r14.1,r14.2.1,r14.2.2.1,r14.2.2.2.1,r14.2.2.2.2.1,r14.2.2.2.2.2.1,r14.2.2.2.2.2.2.1,r14.2.2.2.2.2.2.2))) fun b22 =>
 Option.bind (z8 (b40 b22) ((b22.2.2.2.2.2.2.1.length:Int).toNat+1) (b22.1,0,(b22.2.1,b22.2.2.1,b22.2.2.2.1,b22.2.2.2.2.1,b22.2.2.2.2.2.1,b22.2.2.2.2.2.2.1,b22.2.2.2.2.2.2.2.1,b22.2.2.2.2.2.2.2.2))) fun b30 =>
 Option.bind (bif b30.2.1==13
 then (Option.bind (idx b30.1 b30.2.2.2.2.2.2.2.1) fun _ =>
 Option.bind (b30.1[b30.2.2.2.2.2.2.2.1.toNat]?) fun e32 =>
 Option.bind (idx b30.1 b30.2.2.2.2.2.2.2.2) fun _ =>
 Option.bind (b30.1[b30.2.2.2.2.2.2.2.2.toNat]?) fun e34 =>
 some (b30.1,(b30.2.1,b30.2.2.1,b30.2.2.2.1,b30.2.2.2.2.1,b30.2.2.2.2.2.1,b30.2.2.2.2.2.2.1,e32,e34)))
 else (some (b30.1,(b30.2.1,b30.2.2.1,b30.2.2.2.1,b30.2.2.2.2.1,b30.2.2.2.2.2.1,b30.2.2.2.2.2.2.1,b30.2.2.2.2.2.2.2.1,b30.2.2.2.2.2.2.2.2)))) fun b35 =>
 Option.bind (Y0 (x10.2.1.length+([Api_TypeNode.mk b35.2.1 b35.2.2.1 b35.2.2.2.1 b35.2.2.2.2.1 b35.2.2.2.2.2.1 b35.2.2.2.2.2.2.1 (b35.2.2.2.2.2.2.2.1,b35.2.2.2.2.2.2.2.2)]:List Api_TypeNode).length) 104) fun _ =>
 some (.next (b35.1,x10.2.1++([Api_TypeNode.mk b35.2.1 b35.2.2.1 b35.2.2.2.1 b35.2.2.2.2.1 b35.2.2.2.2.2.1 b35.2.2.2.2.2.2.1 (b35.2.2.2.2.2.2.2.1,b35.2.2.2.2.2.2.2.2)]:List Api_TypeNode),x10.2.2.1,wr .i64 (x10.2.2.2+1))))
 else (some (.done (x10.1,x10.2.1,x10.2.2.1)))
def a3T (n:Nat)(d:Api_Type):Option Api_Type :=
 Option.bind (a3O n d) fun r1 =>
 Option.bind (a81 (r1.Nodes.length:Int) (r1.Nodes.length:Int) 8) fun m2 =>
 Option.bind (a4I n r1) fun r3 =>
 Option.bind (z8 (b43 r3) ((r3.length:Int).toNat+1) (List.replicate m2 (0:Int),[],0)) fun b9 =>
 Option.bind (z8 (b47 r1 b9) ((b9.2.length:Int).toNat+1) (b9.1,[],b9.2,0)) fun b37 =>
 Option.bind (idx b37.1 r1.Root) fun _ =>
 Option.bind (b37.1[r1.Root.toNat]?) fun e39 =>
 some (Api_Type.mk b37.2.1 e39)
def b2n (n:Nat)(s:Api_Type)(node:Int):Option Api_Type :=
 Option.bind (a4c n s node) fun r1 =>
 Option.bind (a3T n r1) fun r2 =>
 some r2
def b7t (s:Api_Type)(n:Nat)(y6:List Int)(x7:Int×((List Api_Type)×(List Api_TypeNode)×Int)):Option (Fl (Int×((List Api_Type)×(List Api_TypeNode)×Int)) ((List Api_Type)×(List Api_TypeNode)×Int)) :=
 bif decide (x7.1<(y6.length:Int))
 then (Option.bind (idx y6 x7.1) fun e8 =>
 Option.bind (b2n n s e8) fun r9 =>
 Option.bind (Y0 (x7.2.1.length+([r9]:List Api_Type).length) 32) fun _ =>
 some (.next (wr .i64 (x7.1+1),(x7.2.1++([r9]:List Api_Type),x7.2.2.1,x7.2.2.2))))
 else (some (.done (x7.2.1,x7.2.2.1,x7.2.2.2)))
def b0l (n:Nat)(s:Api_Type)(node:Int)(arity:Int):Option (Api_Arrow×Bool) :=
 Option.bind (idx s.Nodes node) fun e1 =>
 Option.bind (idx s.Nodes node) fun e2 =>
 Option.bind (bif e2.Kind != 14
 then (some true)
 else (some ((e1.Kids.length:Int) != (wr .i64 (arity+1))))) fun q3 =>
 bif q3
 then (some (Api_Arrow.mk ([]:List Api_Type) (Api_Type.mk ([]:List Api_TypeNode) 0),false))
 else (Option.bind (idx e1.Kids arity) fun e4 =>
 Option.bind (b2n n s e4) fun r5 =>
 Option.bind (cut e1.Kids 0 arity) fun y6 =>
 Option.bind (z8 (b7t s n y6) ((y6.length:Int).toNat+1) (0,([],r5.Nodes,r5.Root))) fun b11 =>
 some (Api_Arrow.mk b11.1 (Api_Type.mk b11.2.1 b11.2.2),true))
def a4T (x1:(List ByteArray)×Int)(x16:(Int×Int)×List ByteArray):Option (Fl ((Int×Int)×List ByteArray) (Int×List ByteArray)) :=
 bif decide (x16.1.2<((x16.2.drop x1.2.toNat).length:Int))
 then (Option.bind (idx (x16.2.drop x1.2.toNat) x16.1.2) fun _ =>
 Option.bind (x16.2[(x1.2.toNat+x16.1.2.toNat)]?) fun e18 =>
 Option.bind (idx (x16.2.drop x1.2.toNat) (wr .i64 (x16.1.2-1))) fun _ =>
 Option.bind (x16.2[(x1.2.toNat+(wr .i64 (x16.1.2-1)).toNat)]?) fun e20 =>
 bif !(j7 e18 e20)
 then (Option.bind (idx (x16.2.drop x1.2.toNat) x16.1.2) fun _ =>
 Option.bind (x16.2[(x1.2.toNat+x16.1.2.toNat)]?) fun e22 =>
 Option.bind (idx x16.2 x16.1.1) fun _ =>
 Option.bind (x16.2[x16.1.1.toNat]?) fun _ =>
 some (.next ((wr .i64 (x16.1.1+1),wr .i64 (x16.1.2+1)),x16.2.set x16.1.1.toNat e22)))
 else (some (.next ((x16.1.1,wr .i64 (x16.1.2+1)),x16.2))))
 else (some (.done (x16.1.1,x16.2)))
def a4Q (x1:(List ByteArray)×Int):Option (Fl ((List ByteArray)×Int) (Sum (List ByteArray) (List ByteArray))) :=
 bif decide (x1.2<(x1.1.length:Int))
 then (Option.bind (idx x1.1 x1.2) fun _ =>
 Option.bind (x1.1[x1.2.toNat]?) fun e3 =>
 Option.bind (idx x1.1 (wr .i64 (x1.2-1))) fun _ =>
 Option.bind (x1.1[(wr .i64 (x1.2-1)).toNat]?) fun e5 =>
 bif j7 e3 e5
 then (Option.bind (idx x1.1 x1.2) fun _ =>
 Option.bind (z8 (a4T x1) (((x1.1.drop x1.2.toNat).length:Int).toNat+1) ((x1.2,1),x1.1)) fun b25 =>
 Option.bind (idx b25.2 b25.1) fun _ =>
 bif Nat.blt b25.1.toNat b25.2.length
 then (Option.bind (cut (b25.2.take b25.1.toNat++List.replicate (b25.2.length-b25.1.toNat) ((⟨#[]⟩:ByteArray):ByteArray)) 0 b25.1) fun y27 =>
 some (.done (.inr y27)))
 else (none))
 else (some (.next (x1.1,wr .i64 (x1.2+1)))))
 else (some (.done (.inl x1.1)))
def a2F (s:List ByteArray):Option (List ByteArray) :=
 bif decide ((s.length:Int)<2)
 then (some s)
 else (Option.bind (z8 a4Q ((s.length:Int).toNat+1) (s,1)) fun b28 =>
 Q3 (fun x29 =>
 some x29) (fun y30 =>
 some y30) b28)
def a3m (s:List ByteArray):Option (List ByteArray) :=
 bif (s.length:Int)==(s.length:Int)&&(s.length:Int)==(s.length:Int)
 then (some s)
 else (none)
def b05 (r1:Api_Type)(r2:List Bool)(x3:(List ByteArray)×Int):Option (Fl ((List ByteArray)×Int) (List ByteArray)) :=
 bif decide (x3.2<(r2.length:Int))
 then (Option.bind (idx r2 x3.2) fun e4 =>
 Option.bind (bif e4
 then (Option.bind (idx r1.Nodes x3.2) fun e5 =>
 some (e5.Kind==19))
 else (some false)) fun q6 =>
 bif q6
 then (Option.bind (idx r1.Nodes x3.2) fun e7 =>
 Option.bind (Y0 (x3.1.length+([e7.Text]:List ByteArray).length) 16) fun _ =>
 some (.next (x3.1++([e7.Text]:List ByteArray),wr .i64 (x3.2+1))))
 else (some (.next (x3.1,wr .i64 (x3.2+1)))))
 else (some (.done x3.1))
def a66 (n:Nat)(t:Api_Type):Option (List ByteArray) :=
 Option.bind (a3O n t) fun r1 =>
 Option.bind (a4I n r1) fun r2 =>
 Option.bind (z8 (b05 r1 r2) ((r2.length:Int).toNat+1) ([],0)) fun b9 =>
 Option.bind (c0v b9) fun r10 =>
 Option.bind (a2F r10.2) fun r11 =>
 Option.bind (a3m r11) fun r12 =>
 some r12
def a2B (n:Nat)(t:Api_Type):Option Bool :=
 Option.bind (a66 n t) fun r1 =>
 some ((r1.length:Int)==0)
def b6l (d:Api_Type)(t:Int)(n:Nat)(e6:Api_TypeNode)(x7:(List Api_Arrow)×Int):Option (Fl ((List Api_Arrow)×Int) (Sum (List Api_Arrow) ((List Api_Arrow)×Bool))) :=
 bif decide (x7.2<(e6.Kids.length:Int))
 then (Option.bind (idx e6.Kids x7.2) fun e8 =>
 Option.bind (b0l n d e8 t) fun r9 =>
 bif !r9.2
 then (some (.done (.inr ([],false))))
 else (Option.bind (Y0 (x7.1.length+([r9.1]:List Api_Arrow).length) 56) fun _ =>
 some (.next (x7.1++([r9.1]:List Api_Arrow),wr .i64 (x7.2+1)))))
 else (some (.done (.inl x7.1)))
def b3r (n:Nat)(d:Api_Type)(t:Int):Option ((List Api_Arrow)×Bool) :=
 Option.bind (J8 n d) fun r1 =>
 bif r1 != 0
 then (some ([],false))
 else (Option.bind (b0l n d d.Root t) fun r2 =>
 bif r2.2
 then (some (([r2.1]:List Api_Arrow),true))
 else (Option.bind (idx d.Nodes d.Root) fun e3 =>
 Option.bind (bif e3.Kind != 17
 then (some true)
 else (Option.bind (a2B n d) fun r4 =>
 some (!r4))) fun q5 =>
 bif q5
 then (some ([],false))
 else (Option.bind (idx d.Nodes d.Root) fun e6 =>
 Option.bind (z8 (b6l d t n e6) ((e6.Kids.length:Int).toNat+1) ([],0)) fun b11 =>
 Q3 (fun x12 =>
 some (x12,true)) (fun y13 =>
 some (y13.1,y13.2)) b11)))
def a6Z (s:List Int)(f:Int->Option Bool)(x1:Int):Option (Fl Int (Sum Unit Int)) :=
 bif decide (x1<(s.length:Int))
 then (Option.bind (idx s x1) fun e2 =>
 Option.bind (f e2) fun r3 =>
 bif r3
 then (some (.done (.inr x1)))
 else (some (.next (wr .i64 (x1+1)))))
 else (some (.done (.inl ())))
def a3E (s:List Int)(f:Int->Option Bool):Option Int :=
 Option.bind (z8 (a6Z s f) ((s.length:Int).toNat+1) 0) fun b4 =>
 Q3 (fun _ =>
 some (-1)) (fun y6 =>
 some y6) b4
def a2Q (s:List Int)(f:Int->Option Bool):Option Bool :=
 Option.bind (a3E s f) fun r1 =>
 some (decide (0<=r1))
def a2s (s:List Api_TypeNode)(f:Api_TypeNode->Option Bool)(x1:Int):Option (Fl Int (Sum Unit Int)) :=
 bif decide (x1<(s.length:Int))
 then (Option.bind (idx s x1) fun e2 =>
 Option.bind (f e2) fun r3 =>
 bif r3
 then (some (.done (.inr x1)))
 else (some (.next (wr .i64 (x1+1)))))
 else (some (.done (.inl ())))
def a0x (s:List Api_TypeNode)(f:Api_TypeNode->Option Bool):Option Int :=
 Option.bind (z8 (a2s s f) ((s.length:Int).toNat+1) 0) fun b4 =>
 Q3 (fun _ =>
 some (-1)) (fun y6 =>
 some y6) b4
def a0n (s:List Api_TypeNode)(f:Api_TypeNode->Option Bool):Option Bool :=
 Option.bind (a0x s f) fun r1 =>
 some (decide (0<=r1))
def b3L (n_0:Api_TypeNode):Option Bool :=
 some (n_0.Kind==14)
def a8t (n:Nat)(t:Api_Type)(node:Int):Option Bool :=
 Option.bind (a4c n t node) fun r1 =>
 Option.bind (a3T n r1) fun r2 =>
 Option.bind (a0n r2.Nodes (fun z3 =>
 Option.bind (b3L z3) fun r4 =>
 some r4)) fun r5 =>
 some (!r5)
def a9n (n:Nat)(k:Int)(a1_1:Api_Type):Option Bool :=
 Option.bind (a8t n a1_1 k) fun r1 =>
 some (!r1)
def b1j (n:Nat)(t:Api_Type)(kids:List Int):Option Bool :=
 Option.bind (a2Q kids (fun z1 =>
 Option.bind (a9n n z1 t) fun r2 =>
 some r2)) fun r3 =>
 some (!r3)
def b71 (t:Api_Type)(kids:List Int)(x1:Int)(e2:Int)(n:Nat)(x4:Int):Option (Fl Int (Sum Unit Bool)) :=
 bif decide (x4<(kids.length:Int))
 then (Option.bind (idx kids x4) fun e5 =>
 Option.bind (bif x1 != x4
 then (Option.bind (a4c n t e2) fun _ =>
 Option.bind (a4c n t e5) fun _ =>
 none)
 else (some false)) fun q8 =>
 bif q8
 then (some (.done (.inr false)))
 else (some (.next (wr .i64 (x4+1)))))
 else (some (.done (.inl ())))
def b74 (t:Api_Type)(kids:List Int)(n:Nat)(x1:Int):Option (Fl Int (Sum Unit Bool)) :=
 bif decide (x1<(kids.length:Int))
 then (Option.bind (idx kids x1) fun e2 =>
 Option.bind (a8t n t e2) fun r3 =>
 bif r3
 then (some (.next (wr .i64 (x1+1))))
 else (Option.bind (z8 (b71 t kids x1 e2 n) ((kids.length:Int).toNat+1) 0) fun b9 =>
 Q3 (fun _ =>
 some (.next (wr .i64 (x1+1)))) (fun y11 =>
 some (.done (.inr y11))) b9))
 else (some (.done (.inl ())))
def b6k (n:Nat)(t:Api_Type)(kids:List Int):Option Bool :=
 Option.bind (z8 (b74 t kids n) ((kids.length:Int).toNat+1) 0) fun b12 =>
 Q3 (fun _ =>
 some true) (fun y14 =>
 some y14) b12
def b5z (n:Nat)(r4:Api_Type)(x5:Int):Option (Fl Int (Sum Unit Bool)) :=
 bif decide (x5<(r4.Nodes.length:Int))
 then (Option.bind (idx r4.Nodes x5) fun e6 =>
 Option.bind (bif e6.Kind==18
 then (some (e6.Kind==18))
 else (some (e6.Kind==17))) fun b7 =>
 bif b7
 then (Option.bind (b1j n r4 e6.Kids) fun r8 =>
 bif !r8
 then (some (.done (.inr false)))
 else (some (.next (wr .i64 (x5+1)))))
 else (bif e6.Kind==16
 then (Option.bind (b6k n r4 e6.Kids) fun r9 =>
 bif !r9
 then (some (.done (.inr false)))
 else (some (.next (wr .i64 (x5+1)))))
 else (some (.next (wr .i64 (x5+1))))))
 else (some (.done (.inl ())))
def b2S (n:Nat)(t:Api_Type):Option Bool :=
 Option.bind (J8 n t) fun r1 =>
 Option.bind (bif r1 != 0
 then (some true)
 else (Option.bind (a2B n t) fun r2 =>
 some (!r2))) fun q3 =>
 bif q3
 then (some false)
 else (Option.bind (a3T n t) fun r4 =>
 Option.bind (z8 (b5z n r4) ((r4.Nodes.length:Int).toNat+1) 0) fun b10 =>
 Q3 (fun _ =>
 some true) (fun y12 =>
 some y12) b10)
def a2z (s:List Api_Type):Option (List Api_Type) :=
 bif (s.length:Int)==(s.length:Int)&&(s.length:Int)==(s.length:Int)
 then (some s)
 else (none)
def b5L (n:Nat)(e8:Api_Arrow)(r9:List Api_Type)(x11:Int):Option (Fl Int (Sum Unit Bool)) :=
 bif decide (x11<((r9++([e8.Result]:List Api_Type)).length:Int))
 then (Option.bind (idx (r9++([e8.Result]:List Api_Type)) x11) fun e12 =>
 Option.bind (a8t n e12 e12.Root) fun r13 =>
 bif !r13
 then (some (.done (.inr false)))
 else (some (.next (wr .i64 (x11+1)))))
 else (some (.done (.inl ())))
def b5S (n:Nat)(r1:(List Api_Arrow)×Bool)(x7:Int):Option (Fl Int (Sum Unit Bool)) :=
 bif decide (x7<(r1.1.length:Int))
 then (Option.bind (idx r1.1 x7) fun e8 =>
 Option.bind (a2z e8.Params) fun r9 =>
 Option.bind (Y0 (r9.length+([e8.Result]:List Api_Type).length) 32) fun _ =>
 Option.bind (z8 (b5L n e8 r9) (((r9++([e8.Result]:List Api_Type)).length:Int).toNat+1) 0) fun b14 =>
 Q3 (fun _ =>
 some (.next (wr .i64 (x7+1)))) (fun y16 =>
 some (.done (.inr y16))) b14)
 else (some (.done (.inl ())))
def a0Y (n:Nat)(s:Api_Type)(arity:Int):Option Bool :=
 Option.bind (b3r n s arity) fun r1 =>
 Option.bind (bif !r1.2
 then (some true)
 else (Option.bind (a2B n s) fun r2 =>
 some (!r2))) fun q3 =>
 bif q3
 then (some false)
 else (Option.bind (idx s.Nodes s.Root) fun e4 =>
 Option.bind (bif e4.Kind==14
 then (Option.bind (b2S n s) fun r5 =>
 some r5)
 else (some false)) fun q6 =>
 bif q6
 then (some true)
 else (Option.bind (z8 (b5S n r1) ((r1.1.length:Int).toNat+1) 0) fun b17 =>
 Q3 (fun _ =>
 some true) (fun y19 =>
 some y19) b17))
def a1A (d:Api_Interface)(n:Nat)(x3:Int):Option (Fl Int (Sum Unit Bool)) :=
 bif decide (x3<(d.Signatures.length:Int))
 then (Option.bind (idx d.Signatures x3) fun e4 =>
 Option.bind (a0H e4.Ref.Name) fun r5 =>
 Option.bind (bif !r5
 then (some true)
 else (some (decide (e4.Ref.Arity<0)))) fun q6 =>
 Option.bind (bif q6
 then (some true)
 else (some (decide (4<e4.Ref.Arity)))) fun q7 =>
 Option.bind (bif q7
 then (some true)
 else (Option.bind (J8 n e4.Type_) fun r8 =>
 some (r8 != 0))) fun q9 =>
 bif q9
 then (some (.done (.inr false)))
 else (Option.bind (bif decide (0<x3)
 then (Option.bind (idx d.Signatures (wr .i64 (x3-1))) fun e10 =>
 Option.bind (a3u e10 e4) fun r11 =>
 some (decide (0<=r11)))
 else (some false)) fun q12 =>
 Option.bind (bif q12
 then (some true)
 else (Option.bind (bif !d.Checked
 then (Option.bind (a0Y n e4.Type_ e4.Ref.Arity) fun r13 =>
 some (!r13))
 else (some false)) fun q14 =>
 some q14)) fun q15 =>
 bif q15
 then (some (.done (.inr false)))
 else (some (.next (wr .i64 (x3+1))))))
 else (some (.done (.inl ())))
def a1E (n:Nat)(d:Api_Interface):Option Bool :=
 Option.bind (a0H d.Module) fun r1 =>
 Option.bind (bif !r1
 then (some true)
 else (some (decide (10<(d.Signatures.length:Int))))) fun q2 =>
 bif q2
 then (some false)
 else (Option.bind (z8 (a1A d n) ((d.Signatures.length:Int).toNat+1) 0) fun b16 =>
 Q3 (fun _ =>
 some true) (fun y18 =>
 some y18) b16)
def a0B (x3:Int×(List Int)):Option (Fl (Int×(List Int)) (Int×(List Int))) :=
 bif decide (128<=x3.1)
 then (Option.bind (Y0 (x3.2.length+([bOr .u8 (wr .u8 x3.1) 128]:List Int).length) 1) fun _ =>
 Option.bind (a2t .u64 x3.1 7) fun d5 =>
 some (.next (d5,x3.2++([bOr .u8 (wr .u8 x3.1) 128]:List Int))))
 else (some (.done (x3.1,x3.2)))
def Y2 (w:List Int)(n_1:Int):Option (List Int) :=
 Option.bind (b0C .u64 (wr .u64 n_1) 1) fun d1 =>
 Option.bind (a2t .i64 n_1 63) fun d2 =>
 Option.bind (z8 a0B ((a6m .u64 d1 (wr .u64 d2)).toNat+2) (a6m .u64 d1 (wr .u64 d2),w)) fun b6 =>
 Option.bind (Y0 (b6.2.length+([wr .u8 b6.1]:List Int).length) 1) fun _ =>
 some (b6.2++([wr .u8 b6.1]:List Int))
def W8 (w:List Int)(s:ByteArray):Option (List Int) :=
 Option.bind (Y2 w (s.size:Int)) fun r1 =>
 Option.bind (Y0 (r1.length+(a3F s).length) 1) fun _ =>
 some (r1++(a3F s))
def a0N (w:List Int)(ok:Bool):Option (List Int) :=
 bif ok
 then (Option.bind (Y0 (w.length+([1]:List Int).length) 1) fun _ =>
 some (w++([1]:List Int)))
 else (Option.bind (Y0 (w.length+([0]:List Int).length) 1) fun _ =>
 some (w++([0]:List Int)))
def Y7 (w:List Int)(n_1:Int):Option (List Int) :=
 Option.bind (Y2 w n_1) fun r1 =>
 some r1
def b3a (l:List Int)(x2:Int×(List Int)):Option (Fl (Int×(List Int)) (List Int)) :=
 bif decide (x2.1<(l.length:Int))
 then (Option.bind (idx l x2.1) fun e3 =>
 Option.bind (Y7 x2.2 e3) fun r4 =>
 some (.next (wr .i64 (x2.1+1),r4)))
 else (some (.done x2.2))
def a4q (w:List Int)(l:List Int)(_:Unit):Option (List Int) :=
 Option.bind (Y2 w (l.length:Int)) fun r1 =>
 Option.bind (z8 (b3a l) ((l.length:Int).toNat+1) (0,r1)) fun b5 =>
 some b5
def a0E (w:List Int)(f:Api_Field):Option (List Int) :=
 Option.bind (Y7 w f.Key_.Kind) fun r1 =>
 Option.bind (W8 r1 f.Key_.Text) fun r2 =>
 Option.bind (Y7 r2 f.Node) fun r3 =>
 Option.bind (a0N r3 f.Optional) fun r4 =>
 some r4
def a8i (l:List Api_Field)(x2:Int×(List Int)):Option (Fl (Int×(List Int)) (List Int)) :=
 bif decide (x2.1<(l.length:Int))
 then (Option.bind (idx l x2.1) fun e3 =>
 Option.bind (a0E x2.2 e3) fun r4 =>
 some (.next (wr .i64 (x2.1+1),r4)))
 else (some (.done x2.2))
def a2x (w:List Int)(l:List Api_Field)(_:Unit):Option (List Int) :=
 Option.bind (Y2 w (l.length:Int)) fun r1 =>
 Option.bind (z8 (a8i l) ((l.length:Int).toNat+1) (0,r1)) fun b5 =>
 some b5
def a09 (w:List Int)(n_1:Api_TypeNode):Option (List Int) :=
 Option.bind (Y7 w n_1.Kind) fun r1 =>
 Option.bind (Y2 r1 n_1.Lo) fun r2 =>
 Option.bind (Y2 r2 n_1.Hi) fun r3 =>
 Option.bind (W8 r3 n_1.Text) fun r4 =>
 Option.bind (a4q r4 n_1.Kids ()) fun r5 =>
 Option.bind (a2x r5 n_1.Fields ()) fun r6 =>
 Option.bind (Y7 r6 n_1.Rest.1) fun r7 =>
 Option.bind (Y7 r7 n_1.Rest.2) fun r8 =>
 some r8
def a54 (l:List Api_TypeNode)(x2:Int×(List Int)):Option (Fl (Int×(List Int)) (List Int)) :=
 bif decide (x2.1<(l.length:Int))
 then (Option.bind (idx l x2.1) fun e3 =>
 Option.bind (a09 x2.2 e3) fun r4 =>
 some (.next (wr .i64 (x2.1+1),r4)))
 else (some (.done x2.2))
def a1I (w:List Int)(l:List Api_TypeNode)(_:Unit):Option (List Int) :=
 Option.bind (Y2 w (l.length:Int)) fun r1 =>
 Option.bind (z8 (a54 l) ((l.length:Int).toNat+1) (0,r1)) fun b5 =>
 some b5
def a2e (w:List Int)(t:Api_Type):Option (List Int) :=
 Option.bind (a1I w t.Nodes ()) fun r1 =>
 Option.bind (Y7 r1 t.Root) fun r2 =>
 some r2
def a0b (w:List Int)(s:Api_Signature):Option (List Int) :=
 Option.bind (W8 w s.Ref.Name) fun r1 =>
 Option.bind (Y7 r1 s.Ref.Arity) fun r2 =>
 Option.bind (a2e r2 s.Type_) fun r3 =>
 some r3
def a5t (l:List Api_Signature)(x2:Int×(List Int)):Option (Fl (Int×(List Int)) (List Int)) :=
 bif decide (x2.1<(l.length:Int))
 then (Option.bind (idx l x2.1) fun e3 =>
 Option.bind (a0b x2.2 e3) fun r4 =>
 some (.next (wr .i64 (x2.1+1),r4)))
 else (some (.done x2.2))
def a1x (w:List Int)(l:List Api_Signature)(_:Unit):Option (List Int) :=
 Option.bind (Y2 w (l.length:Int)) fun r1 =>
 Option.bind (z8 (a5t l) ((l.length:Int).toNat+1) (0,r1)) fun b5 =>
 some b5
def a1Z (w:List Int)(i:Api_Interface):Option (List Int) :=
 Option.bind (W8 w i.Module) fun r1 =>
 Option.bind (a0N r1 i.Checked) fun r2 =>
 Option.bind (a1x r2 i.Signatures ()) fun r3 =>
 some r3
def a3y (s:ByteArray):Option ByteArray :=
 Option.bind (b3X s) fun r1 =>
 Option.bind (a2t .u32 r1 8) fun d2 =>
 Option.bind (a2t .u32 r1 16) fun d3 =>
 Option.bind (a2t .u32 r1 24) fun d4 =>
 Option.bind (a6M s (a2O ([wr .u8 r1,wr .u8 d2,wr .u8 d3,wr .u8 d4]:List Int))) fun t5 =>
 some t5
def a1b (n:Nat)(i:Api_Interface):Option (ByteArray×Int) :=
 Option.bind (a1E n i) fun r1 =>
 bif !r1
 then (some ((⟨#[]⟩:ByteArray),1))
 else (Option.bind (a1Z ([]) i) fun r2 =>
 Option.bind (a3y (a2O r2)) fun r3 =>
 some (r3,0))
def a44 (s:ByteArray):Option (ByteArray×Int) :=
 bif decide ((s.size:Int)<4)
 then (some ((⟨#[]⟩:ByteArray),26))
 else (Option.bind (a2v s 0 (wr .i64 ((s.size:Int)-4))) fun t1 =>
 Option.bind (a3y t1) fun r2 =>
 bif !(j7 r2 s)
 then (some ((⟨#[]⟩:ByteArray),25))
 else (some (t1,0)))
def X1 (r:Summary_reader)(code:Int):Option Summary_reader :=
 bif r.code==0
 then (some (Summary_reader.mk r.s r.at_ code))
 else (some r)
def a07 (r:Summary_reader):Option (Int×Summary_reader) :=
 Option.bind (bif r.code != 0
 then (some true)
 else (some (decide ((r.s.size:Int)<=r.at_)))) fun q1 =>
 bif q1
 then (Option.bind (X1 r 26) fun r2 =>
 some (0,r2))
 else (Option.bind (a1f r.s (wr .i64 ((wr .i64 (r.at_+1))-1))) fun e3 =>
 some ((e3.toNat:Int),Summary_reader.mk r.s (wr .i64 (r.at_+1)) r.code))
def Q6 (x1:Int×Int×Summary_reader):Option (Fl (Int×Int×Summary_reader) (Int×Summary_reader)) :=
 Option.bind (a07 x1.2.2) fun r2 =>
 Option.bind (bif x1.2.1==63
 then (some (decide (1<r2.1)))
 else (some false)) fun q3 =>
 Option.bind (bif q3
 then (some true)
 else (Option.bind (bif decide (0<x1.2.1)
 then (some (r2.1==0))
 else (some false)) fun q4 =>
 some q4)) fun q5 =>
 Option.bind (bif q5
 then (Option.bind (X1 r2.2 5) fun r6 =>
 some r6)
 else (some r2.2)) fun b7 =>
 bif b7.code != 0
 then (some (.done (0,b7)))
 else (Option.bind (b0C .u64 (wr .u64 (b0j .u8 r2.1 127)) x1.2.1) fun d8 =>
 bif decide (r2.1<128)
 then (Option.bind (a2t .u64 (bOr .u64 x1.1 d8) 1) fun d9 =>
 some (.done (a6m .i64 (wr .i64 d9) (wr .i64 (0-(wr .i64 (b0j .u64 (bOr .u64 x1.1 d8) 1)))),b7)))
 else (some (.next (bOr .u64 x1.1 d8,wr .i64 (x1.2.1+7),b7))))
def W6 (n:Nat)(r:Summary_reader):Option (Int×Summary_reader) :=
 Option.bind (z8 Q6 n (0,0,r)) fun b10 =>
 some (b10.1,b10.2)
def Z7 (n:Nat)(r:Summary_reader):Option (Int×Summary_reader) :=
 Option.bind (W6 n r) fun r1 =>
 some (r1.1,r1.2)
def Q9 (n:Nat)(r:Summary_reader):Option (Int×Summary_reader) :=
 Option.bind (Z7 n r) fun r1 =>
 Option.bind (bif decide (r1.1<0)
 then (Option.bind (X1 r1.2 5) fun r2 =>
 some r2)
 else (some r1.2)) fun b3 =>
 bif b3.code != 0
 then (some (0,b3))
 else (some (r1.1,b3))
def V0 (n:Nat)(r:Summary_reader):Option (ByteArray×Summary_reader) :=
 Option.bind (Q9 n r) fun r1 =>
 bif decide ((wr .i64 ((r1.2.s.size:Int)-r1.2.at_))<r1.1)
 then (Option.bind (X1 r1.2 26) fun r2 =>
 some ((⟨#[]⟩:ByteArray),r2))
 else (Option.bind (a2v r1.2.s (wr .i64 ((wr .i64 (r1.2.at_+r1.1))-r1.1)) (wr .i64 (r1.2.at_+r1.1))) fun t3 =>
 some (t3,Summary_reader.mk r1.2.s (wr .i64 (r1.2.at_+r1.1)) r1.2.code))
def a0M (r:Summary_reader):Option (Bool×Summary_reader) :=
 Option.bind (a07 r) fun r1 =>
 Option.bind (bif decide (1<r1.1)
 then (Option.bind (X1 r1.2 5) fun r2 =>
 some r2)
 else (some r1.2)) fun b3 =>
 some (r1.1==1,b3)
def a9z (n:Nat)(x2:(List Int)×Int×Summary_reader):Option (Fl ((List Int)×Int×Summary_reader) ((List Int)×Summary_reader)) :=
 Option.bind (bif decide (0<x2.2.1)
 then (some (x2.2.2.code==0))
 else (some false)) fun q3 =>
 bif q3
 then (Option.bind (Z7 n x2.2.2) fun r4 =>
 Option.bind (Y0 (x2.1.length+([r4.1]:List Int).length) 8) fun _ =>
 some (.next (x2.1++([r4.1]:List Int),wr .i64 (x2.2.1-1),r4.2)))
 else (some (.done (x2.1,x2.2.2)))
def a2W (n:Nat)(r:Summary_reader)(_:Unit):Option ((List Int)×Summary_reader) :=
 Option.bind (Q9 n r) fun r1 =>
 Option.bind (z8 (a9z n) (r1.1.toNat+2) ([],r1.1,r1.2)) fun b6 =>
 some (b6.1,b6.2)
def a0J (n:Nat)(r:Summary_reader):Option (Api_Field×Summary_reader) :=
 Option.bind (Z7 n r) fun r1 =>
 Option.bind (V0 n r1.2) fun r2 =>
 Option.bind (Z7 n r2.2) fun r3 =>
 Option.bind (a0M r3.2) fun r4 =>
 some (Api_Field.mk (Key.mk r1.1 r2.1) r3.1 r4.1,r4.2)
def a5A (n:Nat)(x2:(List Api_Field)×Int×Summary_reader):Option (Fl ((List Api_Field)×Int×Summary_reader) ((List Api_Field)×Summary_reader)) :=
 Option.bind (bif decide (0<x2.2.1)
 then (some (x2.2.2.code==0))
 else (some false)) fun q3 =>
 bif q3
 then (Option.bind (a0J n x2.2.2) fun r4 =>
 Option.bind (Y0 (x2.1.length+([r4.1]:List Api_Field).length) 40) fun _ =>
 some (.next (x2.1++([r4.1]:List Api_Field),wr .i64 (x2.2.1-1),r4.2)))
 else (some (.done (x2.1,x2.2.2)))
def a1z (n:Nat)(r:Summary_reader)(_:Unit):Option ((List Api_Field)×Summary_reader) :=
 Option.bind (Q9 n r) fun r1 =>
 Option.bind (z8 (a5A n) (r1.1.toNat+2) ([],r1.1,r1.2)) fun b6 =>
 some (b6.1,b6.2)
def a08 (n:Nat)(r:Summary_reader):Option (Api_TypeNode×Summary_reader) :=
 Option.bind (Z7 n r) fun r1 =>
 Option.bind (W6 n r1.2) fun r2 =>
 Option.bind (W6 n r2.2) fun r3 =>
 Option.bind (V0 n r3.2) fun r4 =>
 Option.bind (a2W n r4.2 ()) fun r5 =>
 Option.bind (a1z n r5.2 ()) fun r6 =>
 Option.bind (Z7 n r6.2) fun r7 =>
 Option.bind (Z7 n r7.2) fun r8 =>
 some (Api_TypeNode.mk r1.1 r2.1 r3.1 r4.1 r5.1 r6.1 (r7.1,r8.1),r8.2)
def a4z (n:Nat)(x2:(List Api_TypeNode)×Int×Summary_reader):Option (Fl ((List Api_TypeNode)×Int×Summary_reader) ((List Api_TypeNode)×Summary_reader)) :=
 Option.bind (bif decide (0<x2.2.1)
 then (some (x2.2.2.code==0))
 else (some false)) fun q3 =>
 bif q3
 then (Option.bind (a08 n x2.2.2) fun r4 =>
 Option.bind (Y0 (x2.1.length+([r4.1]:List Api_TypeNode).length) 104) fun _ =>
 some (.next (x2.1++([r4.1]:List Api_TypeNode),wr .i64 (x2.2.1-1),r4.2)))
 else (some (.done (x2.1,x2.2.2)))
def a00 (n:Nat)(r:Summary_reader)(_:Unit):Option ((List Api_TypeNode)×Summary_reader) :=
 Option.bind (Q9 n r) fun r1 =>
 Option.bind (z8 (a4z n) (r1.1.toNat+2) ([],r1.1,r1.2)) fun b6 =>
 some (b6.1,b6.2)
def a2f (n:Nat)(r:Summary_reader):Option (Api_Type×Summary_reader) :=
 Option.bind (a00 n r ()) fun r1 =>
 Option.bind (Z7 n r1.2) fun r2 =>
 some (Api_Type.mk r1.1 r2.1,r2.2)
def X8 (n:Nat)(r:Summary_reader):Option (Api_Signature×Summary_reader) :=
 Option.bind (V0 n r) fun r1 =>
 Option.bind (Z7 n r1.2) fun r2 =>
 Option.bind (a2f n r2.2) fun r3 =>
 some (Api_Signature.mk (Api_Ref.mk r1.1 r2.1) r3.1,r3.2)
def a4a (n:Nat)(x2:(List Api_Signature)×Int×Summary_reader):Option (Fl ((List Api_Signature)×Int×Summary_reader) ((List Api_Signature)×Summary_reader)) :=
 Option.bind (bif decide (0<x2.2.1)
 then (some (x2.2.2.code==0))
 else (some false)) fun q3 =>
 bif q3
 then (Option.bind (X8 n x2.2.2) fun r4 =>
 Option.bind (Y0 (x2.1.length+([r4.1]:List Api_Signature).length) 56) fun _ =>
 some (.next (x2.1++([r4.1]:List Api_Signature),wr .i64 (x2.2.1-1),r4.2)))
 else (some (.done (x2.1,x2.2.2)))
def a0K (n:Nat)(r:Summary_reader)(_:Unit):Option ((List Api_Signature)×Summary_reader) :=
 Option.bind (Q9 n r) fun r1 =>
 Option.bind (z8 (a4a n) (r1.1.toNat+2) ([],r1.1,r1.2)) fun b6 =>
 some (b6.1,b6.2)
def a13 (n:Nat)(r:Summary_reader):Option (Api_Interface×Summary_reader) :=
 Option.bind (V0 n r) fun r1 =>
 Option.bind (a0M r1.2) fun r2 =>
 Option.bind (a0K n r2.2 ()) fun r3 =>
 some (Api_Interface.mk r1.1 r2.1 r3.1,r3.2)
def a3e (r:Summary_reader):Option (Int×Summary_reader) :=
 Option.bind (bif decide (r.at_<(r.s.size:Int))
 then (Option.bind (X1 r 5) fun r1 =>
 some r1)
 else (some r)) fun b2 =>
 some (b2.code,b2)
def a1Q (n:Nat)(s:ByteArray):Option (Api_Interface×Int) :=
 Option.bind (a44 s) fun r1 =>
 bif r1.2 != 0
 then (some (Api_Interface.mk (⟨#[]⟩:ByteArray) false ([]:List Api_Signature),r1.2))
 else (Option.bind (a13 n (Summary_reader.mk r1.1 0 0)) fun r2 =>
 Option.bind (a3e r2.2) fun r3 =>
 bif r3.1 != 0
 then (some (Api_Interface.mk (⟨#[]⟩:ByteArray) false ([]:List Api_Signature),r3.1))
 else (Option.bind (a1E n r2.1) fun r4 =>
 bif !r4
 then (some (Api_Interface.mk (⟨#[]⟩:ByteArray) false ([]:List Api_Signature),1))
 else (some (r2.1,0))))
def X3 (e3:Api_TypeNode)(e4:Api_TypeNode)(x11:Int):Option (Fl Int (Sum Unit Bool)) :=
 bif decide (x11<(e3.Kids.length:Int))
 then (Option.bind (idx e3.Kids x11) fun e12 =>
 Option.bind (idx e4.Kids x11) fun e13 =>
 bif e12 != e13
 then (some (.done (.inr false)))
 else (some (.next (wr .i64 (x11+1)))))
 else (some (.done (.inl ())))
def X2 (e3:Api_TypeNode)(e4:Api_TypeNode)(x17:Int):Option (Fl Int (Sum Unit Bool)) :=
 bif decide (x17<(e3.Fields.length:Int))
 then (Option.bind (idx e3.Fields x17) fun e18 =>
 Option.bind (idx e4.Fields x17) fun e19 =>
 bif !(a5S e18 e19)
 then (some (.done (.inr false)))
 else (some (.next (wr .i64 (x17+1)))))
 else (some (.done (.inl ())))
def K8 (d:Api_Type)(t:Api_Type)(x2:Int):Option (Fl Int (Sum Unit Bool)) :=
 bif decide (x2<(d.Nodes.length:Int))
 then (Option.bind (idx d.Nodes x2) fun e3 =>
 Option.bind (idx t.Nodes x2) fun e4 =>
 Option.bind (bif e3.Kind != e4.Kind
 then (some true)
 else (some (e3.Lo != e4.Lo))) fun q5 =>
 Option.bind (bif q5
 then (some true)
 else (some (e3.Hi != e4.Hi))) fun q6 =>
 Option.bind (bif q6
 then (some true)
 else (some (!(j7 e3.Text e4.Text)))) fun q7 =>
 Option.bind (bif q7
 then (some true)
 else (some (!(a3v e3.Rest e4.Rest)))) fun q8 =>
 Option.bind (bif q8
 then (some true)
 else (some ((e3.Kids.length:Int) != (e4.Kids.length:Int)))) fun q9 =>
 Option.bind (bif q9
 then (some true)
 else (some ((e3.Fields.length:Int) != (e4.Fields.length:Int)))) fun q10 =>
 bif q10
 then (some (.done (.inr false)))
 else (Option.bind (z8 (X3 e3 e4) ((e3.Kids.length:Int).toNat+1) 0) fun b14 =>
 Q3 (fun _ =>
 Option.bind (z8 (X2 e3 e4) ((e3.Fields.length:Int).toNat+1) 0) fun b20 =>
 Q3 (fun _ =>
 some (.next (wr .i64 (x2+1)))) (fun y22 =>
 some (.done (.inr y22))) b20) (fun y16 =>
 some (.done (.inr y16))) b14))
 else (some (.done (.inl ())))
def a1l (d:Api_Type)(t:Api_Type):Option Bool :=
 Option.bind (bif (d.Nodes.length:Int) != (t.Nodes.length:Int)
 then (some true)
 else (some (d.Root != t.Root))) fun q1 =>
 bif q1
 then (some false)
 else (Option.bind (z8 (K8 d t) ((d.Nodes.length:Int).toNat+1) 0) fun b23 =>
 Q3 (fun _ =>
 some true) (fun y25 =>
 some y25) b23)
def V8 (a:List Api_Signature)(b:List Api_Signature)(x1:Int):Option (Fl Int (Sum Unit Bool)) :=
 bif decide (x1<(a.length:Int))
 then (Option.bind (idx a x1) fun e2 =>
 Option.bind (idx b x1) fun e3 =>
 Option.bind (bif !(a23 e2.Ref e3.Ref)
 then (some true)
 else (Option.bind (idx a x1) fun e4 =>
 Option.bind (idx b x1) fun e5 =>
 Option.bind (a1l e4.Type_ e5.Type_) fun r6 =>
 some (!r6))) fun q7 =>
 bif q7
 then (some (.done (.inr false)))
 else (some (.next (wr .i64 (x1+1)))))
 else (some (.done (.inl ())))
def a1o (a:List Api_Signature)(b:List Api_Signature):Option Bool :=
 bif (a.length:Int) != (b.length:Int)
 then (some false)
 else (Option.bind (z8 (V8 a b) ((a.length:Int).toNat+1) 0) fun b8 =>
 Q3 (fun _ =>
 some true) (fun y10 =>
 some y10) b8)
def a1m (a:Api_Interface)(b:Api_Interface):Option Bool :=
 Option.bind (bif j7 a.Module b.Module
 then (some (a.Checked==b.Checked))
 else (some false)) fun q1 =>
 Option.bind (bif q1
 then (Option.bind (a1o a.Signatures b.Signatures) fun r2 =>
 some r2)
 else (some false)) fun q3 =>
 some q3
def a3t (n:Nat):Option Bool :=
 Option.bind (a1b n (Api_Interface.mk (⟨#[109]⟩:ByteArray) true ([]:List Api_Signature))) fun r1 =>
 Option.bind (a1Q n r1.1) fun r2 =>
 Option.bind (b3X (⟨#[49,50,51,52,53,54,55,56,57]⟩:ByteArray)) fun r3 =>
 Option.bind (bif r3==3808858755
 then (some (r1.2==0))
 else (some false)) fun q4 =>
 Option.bind (bif q4
 then (some ((r1.1.size:Int)==8))
 else (some false)) fun q5 =>
 Option.bind (bif q5
 then (some (r2.2==0))
 else (some false)) fun q6 =>
 Option.bind (bif q6
 then (some (j7 r2.1.Module (⟨#[109]⟩:ByteArray)))
 else (some false)) fun q7 =>
 Option.bind (bif q7
 then (some r2.1.Checked)
 else (some false)) fun q8 =>
 some q8
def a0I (n:Nat)(l:List Int)(m:List Int):Option Bool :=
 Option.bind (a1B n l) fun r1 =>
 Option.bind (a1B n m) fun r2 =>
 Option.bind (a1b n r1) fun r3 =>
 Option.bind (a1b n r2) fun r4 =>
 Option.bind (a1Q n r3.1) fun r5 =>
 Option.bind (bif r3.2 != 0
 then (some true)
 else (Option.bind (bif r5.2==0
 then (Option.bind (a1m r1 r5.1) fun r6 =>
 some r6)
 else (some false)) fun q7 =>
 some q7)) fun q8 =>
 Option.bind (bif q8
 then (Option.bind (bif r3.2 != 0
 then (some true)
 else (some (r4.2 != 0))) fun q9 =>
 Option.bind (bif q9
 then (some true)
 else (Option.bind (a1m r1 r2) fun r10 =>
 some ((j7 r3.1 r4.1)==r10))) fun q11 =>
 some q11)
 else (some false)) fun q12 =>
 Option.bind (bif q12
 then (Option.bind (a3t n) fun r13 =>
 some r13)
 else (some false)) fun q14 =>
 some q14
end Go.Qx
end
section
namespace Go.Pl
open Go Go.RowKit Go.Sx Go.Qx
theorem a0L (x:Int):wr .i64 x=w64 x:=rfl
theorem b3H {α:Type}(b:Bool)(x y:α):(bif b then x else y)=if b=true then x else y:=by cases b<;>rfl
theorem b2a {α:Type}(o:Option α):(Option.bind o fun x=>some x)=o:=by cases o<;>rfl
theorem b00 {α:Type}(l:List α):((l.length:Int)).toNat=l.length:=by omega
theorem c4A (s:ByteArray):((s.size:Int)).toNat=s.size:=by omega
theorem K9 {x:Int}(h1 : -9223372036854775808<=x)(h2:x<=9223372036854775807):w64 x=x:=by
 unfold w64
 rw [IntKind.wrap_i64]
 omega
theorem K1 {α:Type}{xs:List α}{i:Nat}{x:α}(h:xs[i]?=some x):idx xs (i:Int)=some x:=by
 unfold idx
 rw [if_pos (by omega)]
 simpa using h
theorem a8C {n bytes:Nat}(h:n*bytes<=140737488355328):Y0 n bytes=some ():=by unfold Y0; rw [if_pos h]
theorem c2z {σ α St β:Type}{step:St->Option (Fl St β)}(xs:List α)(pack:σ->Nat->St)(F:σ->α->σ)(I:Nat->σ->Prop)(D:σ->β)
 (hstep:∀ i s x,xs[i]?=some x->I i s->step (pack s i)=some (.next (pack (F s x) (i+1)))/\I (i+1) (F s x))
 (hend:∀ s,I xs.length s->step (pack s xs.length)=some (.done (D s))) (s0:σ) (h0:I 0 s0) (k:Nat) (hk:xs.length+1<=k) :
 z8 step k (pack s0 0)=some (D (xs.foldl F s0)):=by
 have key:∀ (n i:Nat) (s:σ) (k:Nat),i+n=xs.length->n+1<=k->I i s->z8 step k (pack s i)=some (D ((xs.drop i).foldl F s)):=by
  intro n
  induction n with
  | zero =>
    intro i s k hi hk hI
    have e:i=xs.length:=by omega
    subst e
    obtain ⟨k,rfl⟩:∃ m,k=m+1:=⟨k-1,by omega⟩
    simp [z8,hend s hI]
  | succ n ih =>
    intro i s k hi hk hI
    have hlt:i<xs.length:=by omega
    obtain ⟨k,rfl⟩:∃ m,k=m+1:=⟨k-1,by omega⟩
    obtain ⟨h1,h2⟩:=hstep i s xs[i] (List.getElem?_eq_getElem hlt) hI
    rw [List.drop_eq_getElem_cons hlt,List.foldl_cons]
    simp only [z8,h1,Option.bind_some]
    exact ih (i+1) _ k (by omega) (by omega) h2
 have:=key xs.length 0 s0 k (by omega) hk h0
 simpa using this
def b7g (s:ByteArray):Nat:=s.size+1
def b9O:List ByteArray->Nat
 | []=>0
 | s::r=>b7g s+b9O r
def c0o (k:Key):Nat:=1+b7g k.Text+1
end Go.Pl
namespace Go.Pl
open Go Go.RowKit Go.Sx Go.Qx
end Go.Pl
end
section
namespace Go.Pl
open Go Go.RowKit Go.Sx Go.Qx
def tn (x y:Int):Int:=if x=0 then y else x
def cI (x y:Int):Int:=if x<y then -1 else if y<x then 1 else 0
theorem c41 (x:Int):tn 0 x=x:=by simp [tn]
theorem b9i (x y:Int):(x<y/\cI x y = -1)\/(y<x/\cI x y=1)\/(x=y/\cI x y=0):=by
 unfold cI
 by_cases h:x<y
 ·left; simp [h]
 ·by_cases h2:y<x
  ·right; left; simp [h,h2]
  ·right; right; simp [h,h2]; omega
def cBs:List UInt8->List UInt8->Int
 | [],[]=>0
 | [],_::_ => -1
 | _::_,[]=>1
 | x::xs,y::ys=>tn (cI x.toNat y.toNat) (cBs xs ys)
def cS (a b:ByteArray):Int:=cBs a.data.toList b.data.toList
def cK (a b:Key):Int:=tn (cI a.Kind b.Kind) (cS a.Text b.Text)
end Go.Pl
namespace Go.Pl
open Go Go.RowKit Go.Sx Go.Qx
theorem c0D (a b:Int):a0O a b=some (cI a b):=by
 unfold a0O a29
 simp only [b3H,bne_self_eq_false,Option.bind_some,Bool.false_eq_true,if_false]
 rcases b9i a b with ⟨h,e⟩ | ⟨h,e⟩ | ⟨h,e⟩
 ·rw [if_pos (by simpa using h),e]
 ·rw [if_neg (by simp; omega),if_pos (by simpa using h),e]
 ·rw [if_neg (by simp; omega),if_neg (by simp; omega),e]
theorem c0m:∀ a b:List UInt8,Lib.compareBytes a b=cBs a b
 | [],[]=>rfl
 | [],_::_=>rfl
 | _::_,[]=>rfl
 | x::xs,y::ys=>by
   have ih:=c0m xs ys
   simp only [Lib.compareBytes,cBs,UInt8.lt_iff_toNat_lt]
   rcases b9i (x.toNat:Int) (y.toNat:Int) with ⟨h,e⟩ | ⟨h,e⟩ | ⟨h,e⟩
   ·rw [if_pos (by omega),e]; rfl
   ·rw [if_neg (by omega),if_pos (by omega),e]; rfl
   ·rw [if_neg (by omega),if_neg (by omega),e,c41,ih]
theorem c1e (a b:ByteArray):a3q a b=some (cS a b):=by
 unfold a3q a0F b9k b39
 rw [c0m]; rfl
theorem c63 {x y:Int}{o:Option Int}(h:o=some y):(bif (x != 0) then some x else o)=some (tn x y):=by
 rw [b3H]
 unfold tn
 by_cases hx:x=0
 ·subst hx; simp [h]
 ·simp [hx]
theorem b9X (a b:Key):a2C a b=some (cK a b):=by
 unfold a2C
 rw [c0D]
 simp only [Option.bind_some]
 exact c63 (by rw [c1e]; rfl)
end Go.Pl
end
section
namespace Go.Pl
open Go Go.RowKit Go.Sx Go.Qx
theorem c3H {step:Int->Option (Fl Int (Sum Unit Bool))}(n:Nat)(p:Nat->Bool)
 (hst:∀ i:Nat,i<n->step (i:Int)=some (if p i=true then .next ((i+1:Nat):Int) else .done (.inr false)))
 (hend:∀ i:Nat,n<=i->step (i:Int)=some (.done (.inl ()))) (i0:Nat) (b:Bool) (hb:b=true↔∀ i,i0<=i->i<n->p i=true) :
 Option.bind (z8 step (n+1) (i0:Int)) (Q3 (fun _=>some true) (fun r=>some r))=some b:=by
 have fin:∀ (i k:Nat),n<=i->(∀ j,i0<=j->j<i->j<n->p j=true)->Option.bind (z8 step (k+1) (i:Int)) (Q3 (fun _=>some true) (fun r=>some r))=some b:=by
  intro i k h1 h4
  simp only [z8,hend i h1,Option.bind_some,Q3]
  have:b=true:=hb.2 fun j a c=>h4 j a (by omega) c
  rw [this]
 have key:∀ (m i k:Nat),n<=i+m->m+1<=k->i0<=i->(∀ j,i0<=j->j<i->j<n->p j=true)->Option.bind (z8 step k (i:Int)) (Q3 (fun _=>some true) (fun r=>some r))=some b:=by
  intro m
  induction m with
  | zero =>
    intro i k h1 h2 h3 h4
    obtain ⟨k,rfl⟩:∃ m,k=m+1:=⟨k-1,by omega⟩
    exact fin i k (by omega) h4
  | succ m ih =>
    intro i k h1 h2 h3 h4
    obtain ⟨k,rfl⟩:∃ m,k=m+1:=⟨k-1,by omega⟩
    by_cases hlt:i<n
    ·simp only [z8,hst i hlt]
     cases hp:p i
     ·simp only [Bool.false_eq_true,if_false,Option.bind_some,Q3]
      have:b=false:=by
       cases b
       ·rfl
       ·have:=hb.1 rfl i h3 hlt
        rw [hp] at this; cases this
      rw [this]
     ·simp only [if_true,Option.bind_some]
      refine ih (i+1) k (by omega) (by omega) (by omega) (fun j a c d=>?_)
      by_cases e:j<i
      ·exact h4 j a e d
      ·have:j=i:=by omega
       subst this; exact hp
    ·exact fin i k (by omega) h4
 exact key n i0 (n+1) (by omega) (by omega) (Nat.le_refl _) (fun j a c=>by omega)
theorem a2y (i:Nat)(h:i<=4611686018427387904):w64 ((i:Int)+1)=((i+1:Nat):Int):=by rw [K9 (by omega) (by omega)]; rfl
theorem c4E (b:Bool)(x:Int):(bif (!b) then some (Fl.done (Sum.inr false)) else some (Fl.next x))=some (if b=true then Fl.next x else (Fl.done (Sum.inr false):Fl Int (Sum Unit Bool))):=by cases b<;>rfl
def asc {α:Type}(c:α->α->Int):List α->Bool
 | x::y::r=>decide (c x y<0)&&asc c (y::r)
 | _=>true
theorem b4R {α:Type}(c:α->α->Int):∀ xs:List α,asc c xs=true↔∀ i,1<=i->(hi:i<xs.length)->c xs[i-1] xs[i]<0
 | []=>by simp [asc]
 | [x]=>by
   simp only [asc,true_iff]
   intro i h1 hi
   simp at hi; omega
 | x::y::r=>by
   have ih:=b4R c (y::r)
   simp only [asc,Bool.and_eq_true,decide_eq_true_eq,ih]
   constructor
   ·intro ⟨h1,h2⟩ i hi hl
    obtain ⟨i,rfl⟩:∃ m,i=m+1:=⟨i-1,by omega⟩
    cases i with
    | zero=>exact h1
    | succ i=>exact h2 (i+1) (by omega) (by simpa using hl)
   ·intro h
    refine ⟨h 1 (by omega) (by simp),fun i hi hl=>?_⟩
    obtain ⟨i,rfl⟩:∃ m,i=m+1:=⟨i-1,by omega⟩
    have:=h (i+2) (by omega) (by simpa using hl)
    simpa using this
def b2M (c:UInt8):Bool:=decide (97<=(c.toNat:Int))&&decide ((c.toNat:Int)<=122)
def upC (c:UInt8):Bool:=decide (65<=(c.toNat:Int))&&decide ((c.toNat:Int)<=90)
def b4h (c:UInt8):Bool:=decide (48<=(c.toNat:Int))&&decide ((c.toNat:Int)<=57)
def b6z (f g:UInt8->Bool)(s:ByteArray):Bool :=
 match s.data.toList with
 | []=>false
 | c::r=>decide (r.length<=15)&&f c&&r.all g
def b1Y (s:ByteArray):Bool:=b6z upC (fun c=>b2M c||upC c||b4h c||(c.toNat:Int)==95) s
def a80 (s:ByteArray):Bool:=b6z b2M (fun c=>b2M c||b4h c||(c.toNat:Int)==95) s
theorem b9I (c:UInt8):a2a (c.toNat:Int)=some (b2M c):=by
 unfold a2a b2M
 cases decide (97<=(c.toNat:Int))<;>simp
theorem c38 (c:UInt8):a26 (c.toNat:Int)=some (upC c):=by
 unfold a26 upC
 cases decide (65<=(c.toNat:Int))<;>simp
theorem c1H (c:UInt8):a3b (c.toNat:Int)=some (b4h c):=by
 unfold a3b b4h
 cases decide (48<=(c.toNat:Int))<;>simp
theorem c0i {s:ByteArray}{i:Nat}{c:UInt8}(h:s.data.toList[i]?=some c):a1f s (i:Int)=some c:=by
 unfold a1f
 rw [if_pos (by omega)]
 obtain ⟨hi,e⟩:=List.getElem?_eq_some_iff.1 h
 have hs:i<s.size:=by simpa using hi
 show s[((i:Int)).toNat]?=some c
 rw [Int.toNat_natCast,getElem?_pos s i hs]
 show some s.data[i]=some c
 simpa using e
theorem c1F (s:ByteArray):s.size=s.data.toList.length:=by simp
theorem c0s {a1 a2:Int->Option Bool}{f g:UInt8->Bool}(h1:∀ c:UInt8,a1 (c.toNat:Int)=some (f c))(h2:∀ c:UInt8,a2 (c.toNat:Int)=some (g c))(s:ByteArray):a3C s a1 a2=some (b6z f g s):=by
 unfold a3C b6z
 simp only [b3H,c4A]
 have hsz:=c1F s
 cases hs:s.data.toList with
 | nil =>
   rw [hs] at hsz
   rw [hsz]
   simp
 | cons c r =>
   rw [hs] at hsz
   simp only [List.length_cons] at hsz
   have e1:decide ((s.size:Int)<1)=false:=by simp; omega
   rw [e1]
   simp only [Bool.false_eq_true,if_false,Option.bind_some]
   by_cases hb:16<(s.size:Int)
   ·rw [if_pos (by simpa using hb)]
    have:decide (r.length<=15)=false:=by simp; omega
    rw [this]; rfl
   ·rw [if_neg (by simpa using hb)]
    have e2:decide (r.length<=15)=true:=by simp; omega
    have e3:a1f s 0=some c:=c0i (i:=0) (by rw [hs]; rfl)
    rw [e2,e3]
    simp only [Option.bind_some,h1,Bool.true_and]
    cases f c
    ·rfl
    ·simp only [Bool.not_true,Bool.false_eq_true,if_false,Bool.true_and]
     refine c3H s.size (fun i=>match s.data.toList[i]? with | some x=>g x | none=>true) ?_ ?_ 1 (r.all g) ?_
     ·intro i hi
      have hi':i<s.data.toList.length:=by rw [hs]; simp; omega
      unfold a5e
      rw [b3H,if_pos (by simp; omega),c0i (List.getElem?_eq_getElem hi')]
      simp only [Option.bind_some,h2]
      rw [List.getElem?_eq_getElem hi',a0L,a2y i (by omega)]
      exact c4E _ _
     ·intro i hi
      unfold a5e
      rw [b3H,if_neg (by simp; omega)]
     ·rw [hs,List.all_eq_true]
      constructor
      ·intro h i h1 hi
       obtain ⟨i,rfl⟩:∃ m,i=m+1:=⟨i-1,by omega⟩
       have hr:i<r.length:=by omega
       simp only [List.getElem?_cons_succ,List.getElem?_eq_getElem hr]
       exact h _ (List.getElem_mem hr)
      ·intro h x hx
       obtain ⟨i,hi,rfl⟩:=List.getElem_of_mem hx
       have:=h (i+1) (by omega) (by omega)
       simpa only [List.getElem?_cons_succ,List.getElem?_eq_getElem hi] using this
theorem c55 (s:ByteArray):a2T s=some (b1Y s):=by
 unfold a2T
 simp only [b2a]
 rw [c0s c38 (g:=fun c=>b2M c||upC c||b4h c||(c.toNat:Int)==95) (fun c=>by
  unfold a3H
  rw [b9I,c38,c1H]
  simp only [Option.bind_some]
  cases b2M c<;>cases upC c<;>cases b4h c<;>simp)]
 rfl
theorem c0f (s:ByteArray):a2J s=some (a80 s):=by
 unfold a2J
 simp only [b2a]
 rw [c0s b9I (g:=fun c=>b2M c||b4h c||(c.toNat:Int)==95) (fun c=>by
  unfold a5T
  rw [b9I,c1H]
  simp only [Option.bind_some]
  cases b2M c<;>cases b4h c<;>simp)]
 rfl
def c3x (l:List ByteArray):Bool:=asc cS l&&l.all b1Y
def a8h (k:Key):Bool:=if k.Kind=0 then a80 k.Text else if k.Kind=1 then decide ((k.Text.size:Int)<=64) else false
theorem c6b (k:Key):a3M k=some (a8h k):=by
 unfold a3M a8h
 rw [c0f]
 simp only [b3H,beq_iff_eq,b2a]
 by_cases h:k.Kind=0
 ·simp [h]
 ·by_cases h1:k.Kind=1
  ·simp [h1]
  ·simp [h,h1]
end Go.Pl
end
section
namespace Go.Pl
open Go Go.RowKit Go.Sx Go.Qx
theorem b5E {α σ τ β:Type}{step:σ->Option (Fl σ (Sum τ β))}(xs:List α)(p:α->Bool)(pk:Nat->σ)(d:τ)(b:β)
 (hst:∀ (i:Nat) (x:α),xs[i]?=some x->step (pk i)=some (if p x=true then .next (pk (i+1)) else .done (.inr b)))
 (hend:step (pk xs.length)=some (.done (.inl d))):z8 step (xs.length+1) (pk 0)=some (if xs.all p=true then .inl d else .inr b):=by
 have key:∀ (m i k:Nat),i+m=xs.length->m+1<=k->z8 step k (pk i)=some (if (xs.drop i).all p=true then .inl d else .inr b):=by
  intro m
  induction m with
  | zero =>
    intro i k h1 h2
    obtain ⟨k,rfl⟩:∃ m,k=m+1:=⟨k-1,by omega⟩
    have e:i=xs.length:=by omega
    subst e
    simp [z8,hend]
  | succ m ih =>
    intro i k h1 h2
    obtain ⟨k,rfl⟩:∃ m,k=m+1:=⟨k-1,by omega⟩
    have hlt:i<xs.length:=by omega
    have hs:=hst i xs[i] (List.getElem?_eq_getElem hlt)
    rw [List.drop_eq_getElem_cons hlt,List.all_cons]
    by_cases hp:p xs[i]=true
    ·rw [if_pos hp] at hs
     simp only [z8,hs,Option.bind_some,ih (i+1) k (by omega) (by omega),hp,Bool.true_and]
    ·rw [if_neg hp] at hs
     simp [z8,hs,hp]
 have:=key xs.length 0 (xs.length+1) (by omega) (Nat.le_refl _)
 simpa using this
end Go.Pl
end
section
namespace Go.Pl
open Go Go.RowKit Go.Sx Go.Qx
end Go.Pl
namespace Go.Pl
open Go Go.RowKit Go.Sx Go.Qx
end Go.Pl
end
section
namespace Go.Pl
open Go Go.RowKit Go.Sx Go.Qx
theorem b89:j7 (⟨#[]⟩:ByteArray) ⟨#[]⟩=true:=by simp [j7]
structure OS (L:List Int)(s:Semtypebase_Source):Prop where
 l:s.L=L
 lo:0<=s.At
 hi:s.At<=(L.length:Int)
section
variable {L:List Int}
theorem J9 (hL:L.length<=4194304){s:Semtypebase_Source}(h:OS L s){n:Int}(h1:1<=n)(h2:n<=1000):∃ x t,y0 s n=some (x,t)/\OS L t/\0<=x/\x<n:=by
 obtain ⟨hl,lo,hi⟩:=h
 unfold y0
 have e1:decide (n<1)=false:=by simp; omega
 rw [e1,hl]
 by_cases he:(L.length:Int)<=s.At
 ·have e2:decide ((L.length:Int)<=s.At)=true:=by simpa using he
  rw [e2]
  exact ⟨0,s,rfl,⟨hl,lo,hi⟩,by omega,by omega⟩
 ·have e2:decide ((L.length:Int)<=s.At)=false:=by simpa using he
  rw [e2]
  simp only [cond_false,Option.bind_some]
  have hlt:s.At.toNat<L.length:=by omega
  have e:idx L s.At=some L[s.At.toNat]:=by
   have:=K1 (List.getElem?_eq_getElem hlt)
   rwa [show ((s.At.toNat:Nat):Int)=s.At by omega] at this
  rw [e]
  simp only [Option.bind_some]
  have hq:b5N L[s.At.toNat] n=some (L[s.At.toNat].tmod n):=by unfold b5N; rw [if_neg (by omega)]
  rw [hq]
  simp only [Option.bind_some,a0L]
  have b1:=Int.tmod_lt_of_pos L[s.At.toNat] (show 0<n by omega)
  have b2:=Int.lt_tmod_of_pos L[s.At.toNat] (show 0<n by omega)
  have hw:w64 (s.At+1)=s.At+1:=K9 (by omega) (by omega)
  have hos:OS L (Semtypebase_Source.mk L (w64 (s.At+1))):=⟨rfl,by show 0<=w64 (s.At+1); omega,by show w64 (s.At+1)<=_; omega⟩
  by_cases hn:L[s.At.toNat].tmod n<0
  ·rw [b3H,if_pos (by simpa using hn),K9 (x:=L[s.At.toNat].tmod n+n) (by omega) (by omega)]
   exact ⟨_,_,rfl,hos,by omega,by omega⟩
  ·rw [b3H,if_neg (by simpa using hn)]
   exact ⟨_,_,rfl,hos,by omega,by omega⟩
theorem b7l {α:Type}(l:List α){x:Int}(h0:0<=x)(h1:x<(l.length:Int)):∃ t,idx l x=some t/\l[x.toNat]?=some t/\t∈l:=by
 have hlt:x.toNat<l.length:=by omega
 have:=K1 (List.getElem?_eq_getElem hlt)
 rw [show ((x.toNat:Nat):Int)=x by omega] at this
 exact ⟨_,this,List.getElem?_eq_getElem hlt,List.getElem_mem hlt⟩
abbrev c1u:List ByteArray:=[⟨#[65]⟩,⟨#[66]⟩,⟨#[67]⟩]
abbrev b8X:List ByteArray:=[⟨#[97]⟩,⟨#[98]⟩,⟨#[111,107]⟩,⟨#[101,114,114,111,114]⟩]
abbrev b9h:List ByteArray:=[⟨#[]⟩,⟨#[115]⟩,⟨#[120,32,121]⟩,⟨#[97]⟩]
theorem c3B (hL:L.length<=4194304){s:Semtypebase_Source}(h:OS L s):∃ x t,a0R s=some (x,t)/\OS L t/\x∈c1u:=by
 obtain ⟨n,t,e,ht,a,b⟩:=J9 hL h (n:=3) (by omega) (by omega)
 obtain ⟨x,ex,eg,hx⟩:=b7l c1u a (by simpa using b)
 exact ⟨x,t,by unfold a0R; rw [e]; simp only [Option.bind_some]; rw [ex,eg]; rfl,ht,hx⟩
theorem b9V (hL:L.length<=4194304){s:Semtypebase_Source}(h:OS L s):∃ x t,a0m s=some (x,t)/\OS L t/\x∈b8X:=by
 obtain ⟨n,t,e,ht,a,b⟩:=J9 hL h (n:=4) (by omega) (by omega)
 obtain ⟨x,ex,eg,hx⟩:=b7l b8X a (by simpa using b)
 exact ⟨x,t,by unfold a0m; rw [e]; simp only [Option.bind_some]; rw [ex,eg]; rfl,ht,hx⟩
theorem c4G (hL:L.length<=4194304){s:Semtypebase_Source}(h:OS L s):∃ x t,a02 s=some (x,t)/\OS L t/\x∈b9h:=by
 obtain ⟨n,t,e,ht,a,b⟩:=J9 hL h (n:=4) (by omega) (by omega)
 obtain ⟨x,ex,eg,hx⟩:=b7l b9h a (by simpa using b)
 exact ⟨x,t,by unfold a02; rw [e]; simp only [Option.bind_some]; rw [ex,eg]; rfl,ht,hx⟩
def chk (o:Option (List ByteArray)):Bool :=
 match o with
 | some l=>c3x l&&decide (b9O l<=4)
 | none=>false
theorem c0V:b8X.all (fun x=>a80 x&&decide (x.size<=5))=true:=by kernel_rfl
theorem c1b:b9h.all (fun x=>decide (x.size<=5))=true:=by kernel_rfl
theorem c3N {γ σ τ:Type}{step:σ->Option (Fl σ τ)}(pack:γ->Int->Semtypebase_Source->σ)(out:γ->Semtypebase_Source->τ)(Inv:Nat->γ->Prop)(J:Nat)
 (hst:∀ (j n:Nat) (g:γ) (s:Semtypebase_Source),j<J->n<=J->Inv j g->OS L s->∃ g' s',step (pack g ((n+1:Nat):Int) s)=some (.next (pack g' (n:Int) s'))/\OS L s'/\Inv (j+1) g')
 (hend:∀ g s,step (pack g 0 s)=some (.done (out g s))) :
 ∀ (n j k:Nat) (g:γ) (s:Semtypebase_Source),j+n<=J->n+1<=k->Inv j g->OS L s->∃ g' s',z8 step k (pack g (n:Int) s)=some (out g' s')/\OS L s'/\Inv (j+n) g':=by
 intro n
 induction n with
 | zero =>
   intro j k g s _ hk hI hs
   obtain ⟨k,rfl⟩:∃ m,k=m+1:=⟨k-1,by omega⟩
   exact ⟨g,s,by have:=hend g s; simp [z8,this],hs,hI⟩
 | succ n ih =>
   intro j k g s hJ hk hI hs
   obtain ⟨k,rfl⟩:∃ m,k=m+1:=⟨k-1,by omega⟩
   obtain ⟨g1,s1,e,hs1,hI1⟩:=hst j n g s (by omega) (by omega) hI hs
   obtain ⟨g2,s2,e2,hs2,hI2⟩:=ih (j+1) k g1 s1 (by omega) (by omega) hI1 hs1
   refine ⟨g2,s2,?_,hs2,by rw [show j+(n+1)=j+1+n by omega]; exact hI2⟩
   simp only [z8,e,Option.bind_some]
   exact e2
def hb:Nat->Nat
 | 0=>32
 | h+1=>64+8*hb h
end
end Go.Pl
namespace Go.Pl
open Go Go.RowKit Go.Sx Go.Qx
section
variable {L:List Int}
end
end Go.Pl
end
section
namespace Go.Pl
open Go Go.RowKit Go.Sx Go.Qx
def b0R {α:Type}(c:α->α->Int)(q:α->Bool)(l:List α)(i:Nat):Bool :=
 match l[i]? with
 | some x=>q x&&(match i with
   | 0=>true
   | j+1=>match l[j]? with
     | some y=>decide (c y x<0)
     | none=>true)
 | none=>true
theorem b86 {α:Type}(c:α->α->Int)(q:α->Bool)(l:List α):(List.range l.length).all (b0R c q l)=(asc c l&&l.all q):=by
 rw [Bool.eq_iff_iff,Bool.and_eq_true,b4R,List.all_eq_true,List.all_eq_true]
 constructor
 ·intro h
  refine ⟨fun i h1 hi=>?_,fun x hx=>?_⟩
  ·obtain ⟨j,rfl⟩:∃ m,i=m+1:=⟨i-1,by omega⟩
   have:=h (j+1) (by simpa using hi)
   unfold b0R at this
   rw [List.getElem?_eq_getElem hi] at this
   simp only [Bool.and_eq_true] at this
   have h2:=this.2
   rw [List.getElem?_eq_getElem (show j<l.length by omega)] at h2
   simpa using h2
  ·obtain ⟨i,hi,rfl⟩:=List.getElem_of_mem hx
   have:=h i (by simpa using hi)
   unfold b0R at this
   rw [List.getElem?_eq_getElem hi] at this
   simp only [Bool.and_eq_true] at this
   exact this.1
 ·intro ⟨h1,h2⟩ i hi
  have hi:i<l.length:=by simpa using hi
  unfold b0R
  rw [List.getElem?_eq_getElem hi]
  simp only [Bool.and_eq_true]
  refine ⟨h2 _ (List.getElem_mem hi),?_⟩
  cases i with
  | zero=>rfl
  | succ j =>
    simp only
    rw [List.getElem?_eq_getElem (show j<l.length by omega)]
    have:=h1 (j+1) (by omega) hi
    simpa using this
theorem c4v {α β:Type}{step:Int->Option (Fl Int (Sum Unit β))}(c:α->α->Int)(q:α->Bool)(l:List α)(b:β)
 (hst:∀ (i:Nat) (x:α),l[i]?=some x->step (i:Int)=some (if b0R c q l i=true then .next ((i+1:Nat):Int) else .done (.inr b)))
 (hend:step (l.length:Int)=some (.done (.inl ()))):z8 step (l.length+1) 0=some (if (asc c l&&l.all q)=true then .inl () else .inr b):=by
 have:=b5E (step:=step) (List.range l.length) (b0R c q l) (fun i=>(i:Int)) () b (fun i x hx=>by
  have hi:i<l.length:=by have:=(List.getElem?_eq_some_iff.1 hx).1; simpa using this
  have e:x=i:=by
   rw [List.getElem?_range hi] at hx
   cases hx; rfl
  subst e
  exact hst x _ (List.getElem?_eq_getElem hi)) (by rw [List.length_range]; exact hend)
 rw [List.length_range,b86] at this
 exact this
theorem c4D {α:Type}(c:α->α->Int)(q:α->Bool)(l:List α)(i:Nat)(x:α)(hx:l[i]?=some x)(hl:l.length<=4194304){o:Option (Fl Int (Sum Unit Bool))}
 (h0:q x=false->o=some (.done (.inr false)))
 (h1:q x=true->i=0->o=some (.next (w64 ((i:Int)+1))))
 (h2:q x=true->∀ j y,i=j+1->l[j]?=some y->idx l (w64 ((i:Int)-1))=some y->o=some (if c y x<0 then .next (w64 ((i:Int)+1)) else .done (.inr false))) :
 o=some (if b0R c q l i=true then .next ((i+1:Nat):Int) else .done (.inr false)):=by
 have hi:i<l.length:=(List.getElem?_eq_some_iff.1 hx).1
 have hw:=a2y i (by omega)
 unfold b0R
 rw [hx]
 cases hq:q x
 ·rw [h0 hq]; simp [hq]
 ·cases i with
  | zero=>rw [h1 hq rfl,hw]; simp [hq]
  | succ j =>
    have hy:=List.getElem?_eq_getElem (show j<l.length by omega)
    have hj:w64 (((j+1:Nat):Int)-1)=(j:Int):=by rw [K9 (by omega) (by omega)]; omega
    rw [h2 hq j _ rfl hy (by rw [hj]; exact K1 hy),hw]
    simp only [hy]
    by_cases hc:c l[j] x<0<;>simp [hq,hc]
theorem c7A (i:Nat):decide (0<(((i+1:Nat)):Int))=true:=decide_eq_true (by omega)
end Go.Pl
end
section
namespace Go.Pl
open Go Go.RowKit Go.Sx Go.Qx
def inR (N:Nat)(k:Int):Bool:=decide (0<=k)&&decide (k<(N:Int))
def a8B (N:Nat)(l:List Api_Field):Bool:=asc cK (l.map (·.Key_))&&(l.all (fun f=>a8h f.Key_)&&l.all fun f=>inR N f.Node)
def a4k (N:Nat)(x:Api_TypeNode):Bool :=
 if x.Kind=3 then x.Kids.isEmpty&&decide (x.Lo<=x.Hi) else if x.Kind=4 then x.Kids.isEmpty&&decide ((x.Text.size:Int)<=64) else
 if x.Kind=6 then x.Kids.isEmpty&&a80 x.Text else if x.Kind=19 then x.Kids.isEmpty&&b1Y x.Text else
 if x.Kind=1\/x.Kind=2\/x.Kind=5\/x.Kind=7\/x.Kind=8\/x.Kind=9\/x.Kind=11\/x.Kind=15 then x.Kids.isEmpty else
 if x.Kind=10 then decide ((x.Kids.length:Int)<=4) else if x.Kind=12 then (x.Kids.length:Int)==2 else
 if x.Kind=14 then decide (1<=(x.Kids.length:Int))&&decide ((x.Kids.length:Int)<=5) else
 if x.Kind=16\/x.Kind=17 then decide (1<=(x.Kids.length:Int)) else if x.Kind=18 then (x.Kids.length:Int)==1 else
 if x.Kind=13 then a8B N x.Fields&&(x.Kids.isEmpty&&(inR N x.Rest.1&&inR N x.Rest.2)) else false
def a3g (r:Int×Int):Bool:=r.1==0&&r.2==0
def a1t (N:Nat)(x:Api_TypeNode):Bool :=
 x.Kids.all (inR N)&&((x.Kind==3||(x.Lo==0&&x.Hi==0))&&((x.Kind==4||x.Kind==6||x.Kind==19||j7 x.Text ⟨#[]⟩)&&((x.Kind==13||(x.Fields.isEmpty&&a3g x.Rest))&&a4k N x)))
theorem c1q {α:Type}(l:List α):((l.length:Int)==0)=l.isEmpty:=by cases l<;>simp<;>omega
theorem c3R (r:Int×Int):a3v r (0,0)=a3g r:=by unfold a3v a3g; simp
theorem a3L {i n:Nat}(h:i<n):decide ((i:Int)<(n:Int))=true:=decide_eq_true (by omega)
theorem c45 (q:Api_Field->Bool)(l:List Api_Field):(List.range l.length).all (b0R (fun a b=>cK a.Key_ b.Key_) q l)=(asc cK (l.map (·.Key_))&&l.all q):=by
 rw [b86]
 congr 1
 rw [Bool.eq_iff_iff,b4R,b4R]
 constructor
 ·intro h i h1 hi
  have:=h i h1 (by simpa using hi)
  simpa using this
 ·intro h i h1 hi
  have:=h i h1 (by simpa using hi)
  simpa using this
theorem c3v {step:Int->Option (Fl Int (Sum Unit Bool))}(q:Api_Field->Bool)(l:List Api_Field)
 (hst:∀ (i:Nat) (x:Api_Field),l[i]?=some x->step (i:Int)=some (if b0R (fun a b=>cK a.Key_ b.Key_) q l i=true then .next ((i+1:Nat):Int) else .done (.inr false)))
 (hend:step (l.length:Int)=some (.done (.inl ()))):z8 step (l.length+1) 0=some (if (asc cK (l.map (·.Key_))&&l.all q)=true then .inl () else .inr false):=by
 have:=c4v (step:=step) (fun a b:Api_Field=>cK a.Key_ b.Key_) q l false hst hend
 rw [<- b86,c45] at this
 exact this
end Go.Pl
namespace Go.Pl
open Go Go.RowKit Go.Sx Go.Qx
def b3z (x:Api_TypeNode):Bool :=
 (x.Kind==3||(x.Lo==0&&x.Hi==0))&&((x.Kind==4||x.Kind==6||x.Kind==19||j7 x.Text ⟨#[]⟩) &&
   ((x.Kind==10||x.Kind==12||x.Kind==14||x.Kind==16||x.Kind==17||x.Kind==18||x.Kids.isEmpty)&&(x.Kind==13||(x.Fields.isEmpty&&a3g x.Rest))))
def b6s (l:List Api_Field):Bool:=asc cK (l.map (·.Key_))&&l.all fun f=>a8h f.Key_
def b3T (x:Api_TypeNode):Bool :=
 if x.Kind=3 then decide (x.Lo<=x.Hi) else if x.Kind=4 then decide ((x.Text.size:Int)<=64) else
 if x.Kind=6 then a80 x.Text else if x.Kind=19 then b1Y x.Text else
 if x.Kind=1\/x.Kind=2\/x.Kind=5\/x.Kind=7\/x.Kind=8\/x.Kind=9\/x.Kind=11\/x.Kind=15 then true else
 if x.Kind=10 then decide ((x.Kids.length:Int)<=4) else if x.Kind=12 then (x.Kids.length:Int)==2 else
 if x.Kind=14 then decide (1<=(x.Kids.length:Int))&&decide ((x.Kids.length:Int)<=5) else
 if x.Kind=16\/x.Kind=17 then decide (1<=(x.Kids.length:Int)) else if x.Kind=18 then (x.Kids.length:Int)==1 else
 if x.Kind=13 then b6s x.Fields else false
def a3a (x:Api_TypeNode):List Int:=x.Kids++x.Fields.map (·.Node)++(if x.Kind=13 then [x.Rest.1,x.Rest.2] else [])
theorem a8c (k:Int):(k=1\/k=2\/k=3\/k=4\/k=5\/k=6\/k=7\/k=8\/k=9\/k=10\/k=11\/k=12\/k=13\/k=14\/k=15\/k=16\/k=17\/k=18\/k=19)\/∀ n:Int,1<=n->n<=19->(k==n)=false:=by
 by_cases h:1<=k/\k<=19
 ·left; omega
 ·right
  intro n h1 h2
  have:k≠n:=by omega
  simpa using this
theorem c3L (x:Api_TypeNode):a2r x=some (b3z x):=by
 unfold a2r b3z
 simp only [b2a,c3R,c1q]
 generalize a3g x.Rest=D
 generalize x.Fields.isEmpty=E
 generalize j7 x.Text ⟨#[]⟩=G
 generalize (x.Lo==0)=H
 generalize (x.Hi==0)=J
 generalize x.Kids.isEmpty=M
 rcases a8c x.Kind with h | h
 ·rcases h with h | h | h | h | h | h | h | h | h | h | h | h | h | h | h | h | h | h | h<;>rw [h]<;>cases G<;>cases H<;>cases J<;>cases E<;>cases D<;>cases M<;>rfl
 ·simp only [h 3 (by omega) (by omega),h 4 (by omega) (by omega),h 6 (by omega) (by omega),h 19 (by omega) (by omega),h 10 (by omega) (by omega),h 12 (by omega) (by omega),h 14 (by omega) (by omega),h 16 (by omega) (by omega),h 17 (by omega) (by omega),h 18 (by omega) (by omega),h 13 (by omega) (by omega)]
  cases G<;>cases H<;>cases J<;>cases E<;>cases D<;>cases M<;>rfl
theorem c1D (l:List Api_Field)(hl:l.length<=4194304):a1K l=some (b6s l):=by
 have l2:z8 (a05 l) (l.length+1) 0=some (if (asc cK (l.map (·.Key_))&&l.all fun f=>a8h f.Key_)=true then .inl () else .inr false):=by
  refine c3v (fun f=>a8h f.Key_) l ?_ ?_
  ·intro i f hx
   have hi:i<l.length:=(List.getElem?_eq_some_iff.1 hx).1
   unfold a05
   rw [a3L hi,K1 hx]
   simp only [cond_true,Option.bind_some,c6b,a0L,b2a]
   refine c4D (fun a b:Api_Field=>cK a.Key_ b.Key_) (fun f=>a8h f.Key_) l i f hx (by omega) (fun h=>by rw [h]; rfl) (fun h h0=>by subst h0; rw [h]; rfl) (fun h j y hj hy hiy=>?_)
   subst hj
   rw [h,hiy,c7A]
   simp only [Bool.not_true,cond_false,cond_true,Option.bind_some,b9X]
   by_cases hc:cK y.Key_ f.Key_<0
   ·have:¬ 0<=cK y.Key_ f.Key_:=by omega
    simp [hc,this]
   ·have:0<=cK y.Key_ f.Key_:=by omega
    simp [hc,this]
  ·unfold a05
   simp
 unfold a1K b6s
 rw [b00,l2]
 cases (asc cK (l.map (·.Key_))&&l.all fun f=>a8h f.Key_)<;>rfl
theorem c3O (x:Api_TypeNode)(hf:x.Fields.length<=4194304):a2i x=some (b3T x):=by
 unfold a2i b3T
 simp only [b2a,c0f,c55,c1D x.Fields hf]
 generalize b6s x.Fields=A
 generalize a80 x.Text=O
 generalize b1Y x.Text=Q
 generalize decide (x.Lo<=x.Hi)=R
 generalize decide ((x.Text.size:Int)<=64)=T
 generalize decide ((x.Kids.length:Int)<=4)=U
 generalize ((x.Kids.length:Int)==2)=V
 generalize ((x.Kids.length:Int)==1)=W
 generalize decide (1<=(x.Kids.length:Int))=X
 generalize decide ((x.Kids.length:Int)<=5)=Y
 rcases a8c x.Kind with h | h
 ·rcases h with h | h | h | h | h | h | h | h | h | h | h | h | h | h | h | h | h | h | h<;>rw [h]<;>first | rfl | (cases X<;>rfl)
 ·have e:∀ n:Int,1<=n->n<=19->¬ x.Kind=n:=fun n h1 h2=>by simpa using h n h1 h2
  simp only [h 1 (by omega) (by omega),h 2 (by omega) (by omega),h 5 (by omega) (by omega),h 7 (by omega) (by omega),h 8 (by omega) (by omega),h 9 (by omega) (by omega),h 11 (by omega) (by omega),h 15 (by omega) (by omega),h 3 (by omega) (by omega),h 4 (by omega) (by omega),h 6 (by omega) (by omega),h 19 (by omega) (by omega),h 10 (by omega) (by omega),h 12 (by omega) (by omega),h 14 (by omega) (by omega),h 16 (by omega) (by omega),h 17 (by omega) (by omega),h 18 (by omega) (by omega),h 13 (by omega) (by omega),
   e 1 (by omega) (by omega),e 2 (by omega) (by omega),e 5 (by omega) (by omega),e 7 (by omega) (by omega),e 8 (by omega) (by omega),e 9 (by omega) (by omega),e 11 (by omega) (by omega),e 15 (by omega) (by omega),e 3 (by omega) (by omega),e 4 (by omega) (by omega),e 6 (by omega) (by omega),e 19 (by omega) (by omega),e 10 (by omega) (by omega),e 12 (by omega) (by omega),e 14 (by omega) (by omega),e 16 (by omega) (by omega),e 17 (by omega) (by omega),e 18 (by omega) (by omega),e 13 (by omega) (by omega),or_self,if_false]
  rfl
theorem c0p {α β:Type}(f:α->β):∀ (l:List α) (s:List β),l.foldl (fun s x=>s++[f x]) s=s++l.map f
 | [],s=>by simp
 | x::r,s=>by rw [List.foldl_cons,c0p f r]; simp
theorem c2U (x:Api_TypeNode)(hk:x.Kids.length<=1100000)(hf:x.Fields.length<=1100000):a2I x=some (a3a x):=by
 unfold a2I a4b a3a
 rw [a8C (by omega)]
 simp only [Option.bind_some,b00]
 have key:=c2z (σ:=List Int) (step:=a0V x) x.Fields (fun s i=>(s,(i:Int))) (fun s f=>s++[f.Node]) (fun i s=>s.length<=x.Kids.length+i) (fun s=>s)
  ?_ ?_ x.Kids (by simp) _ (Nat.le_refl _)
 ·have e:z8 (a0V x) (x.Fields.length+1) (x.Kids,0)=z8 (a0V x) (x.Fields.length+1) (x.Kids,((0:Nat):Int)):=rfl
  rw [e,key,c0p]
  simp only [Option.bind_some]
  by_cases h:x.Kind=13
  ·rw [show (x.Kind==13)=true by simpa using h,if_pos h,a8C (by simp only [List.length_append,List.length_map,List.length_cons,List.length_nil]; omega)]
   rfl
  ·rw [show (x.Kind==13)=false by simpa using h,if_neg h,List.append_nil]
   rfl
 ·intro i s f hx hI
  have hi:i<x.Fields.length:=(List.getElem?_eq_some_iff.1 hx).1
  refine ⟨?_,by simp only [List.length_append,List.length_cons,List.length_nil]; omega⟩
  unfold a0V
  simp only [a0L]
  rw [a3L hi,K1 hx]
  simp only [cond_true,Option.bind_some]
  rw [a8C (by simp only [List.length_cons,List.length_nil]; omega),a2y i (by omega)]
  rfl
 ·intro s _
  unfold a0V
  simp
theorem c1N (N:Nat)(x:Api_TypeNode):(b3z x&&(b3T x&&(a3a x).all (inR N)))=a1t N x:=by
 unfold b3z b3T a1t a4k a3a a8B b6s
 simp only [List.all_append,List.all_map]
 have hE:x.Fields.isEmpty=true->x.Fields=[]:=List.isEmpty_iff.1
 have hM:x.Kids.isEmpty=true->x.Kids=[]:=List.isEmpty_iff.1
 rcases a8c x.Kind with h | h
 ·have hK:x.Kids.isEmpty=true->x.Kids.all (inR N)=true:=fun e=>by rw [hM e]; rfl
  have hF:x.Fields.isEmpty=true->(x.Fields.all (inR N∘fun f=>f.Node))=true:=fun e=>by rw [hE e]; rfl
  have hcomp:(x.Fields.all fun f=>inR N f.Node)=x.Fields.all (inR N∘fun f=>f.Node):=rfl
  rw [hcomp]
  generalize x.Fields.all (inR N∘fun f=>f.Node)=a1 at hF
  generalize x.Kids.all (inR N)=a2 at hK
  generalize x.Fields.isEmpty=E at hF
  generalize x.Kids.isEmpty=M at hK
  generalize a3g x.Rest=D
  generalize j7 x.Text ⟨#[]⟩=G
  generalize (x.Lo==0)=H
  generalize (x.Hi==0)=J
  rcases h with h | h | h | h | h | h | h | h | h | h | h | h | h | h | h | h | h | h | h<;>rw [h]<;>simp <;>
   cases G<;>cases H<;>cases J<;>cases E<;>cases D<;>cases M<;>simp_all
  all_goals first
   | (simp only [Bool.and_assoc]; done)
   | (cases a2<;>simp; done)
 ·have e:∀ n:Int,1<=n->n<=19->¬ x.Kind=n:=fun n h1 h2=>by simpa using h n h1 h2
  simp only [e 1 (by omega) (by omega),e 2 (by omega) (by omega),e 5 (by omega) (by omega),e 7 (by omega) (by omega),e 8 (by omega) (by omega),e 9 (by omega) (by omega),e 11 (by omega) (by omega),e 15 (by omega) (by omega),e 3 (by omega) (by omega),e 4 (by omega) (by omega),e 6 (by omega) (by omega),e 19 (by omega) (by omega),e 10 (by omega) (by omega),e 12 (by omega) (by omega),e 14 (by omega) (by omega),e 16 (by omega) (by omega),e 17 (by omega) (by omega),e 18 (by omega) (by omega),e 13 (by omega) (by omega),or_self,if_false]
  simp
end Go.Pl
namespace Go.Pl
open Go Go.RowKit Go.Sx Go.Qx
def isB (x:Api_TypeNode):Bool:=x.Kind==16||x.Kind==17||x.Kind==18
def c5K (ns:List Api_TypeNode):Prop:=∀ (i:Nat) (x:Api_TypeNode),ns[i]?=some x->isB x=true->∀ k∈x.Kids,(i:Int)<k
def b7a (ns:List Api_TypeNode):Bool:=ns.all (a1t ns.length)
theorem c5g (x:Api_TypeNode):a2d x.Kind=some (isB x):=by
 unfold a2d isB
 cases (x.Kind==16)<;>cases (x.Kind==17)<;>rfl
theorem b59 {N:Nat}{x:Api_TypeNode}(h:a1t N x=true):∀ k∈x.Kids,inR N k=true:=by
 unfold a1t at h
 simp only [Bool.and_eq_true] at h
 exact List.all_eq_true.1 h.1
theorem c0b {N:Nat}{k:Int}(h:inR N k=true):∃ j:Nat,k=(j:Int)/\j<N:=by
 unfold inR at h
 simp only [Bool.and_eq_true,decide_eq_true_eq] at h
 exact ⟨k.toNat,by omega,by omega⟩
def Rk (ns:List Api_TypeNode)(r:Nat->Nat):Prop:=∀ (i:Nat) (x:Api_TypeNode),ns[i]?=some x->isB x=true->∀ k∈x.Kids,r k.toNat<r i
def Acy (ns:List Api_TypeNode):Prop:=∃ r,Rk ns r
open Classical in
noncomputable def b0f (ns:List Api_TypeNode):Bool:=decide (Acy ns)
theorem b5v {ns:List Api_TypeNode}:b0f ns=true↔Acy ns:=by
 unfold b0f
 classical exact decide_eq_true_iff
theorem c5K.acy {ns:List Api_TypeNode}(h:c5K ns)(hT:b7a ns=true):b0f ns=true :=
 b5v.2 ⟨fun i=>ns.length-i,fun i x hx hb k hk=>by
  obtain ⟨j,rfl,hj⟩:=c0b (b59 (List.all_eq_true.1 hT x (List.mem_of_getElem? hx)) k hk)
  have:=h i x hx hb _ hk
  show ns.length-((j:Int)).toNat<ns.length-i
  rw [Int.toNat_natCast]
  omega⟩
def Gd (ns:List Api_TypeNode)(D:Nat->Prop):Prop:=∃ r:Nat->Nat,∀ (i:Nat) (x:Api_TypeNode),D i->ns[i]?=some x->isB x=true->∀ k∈x.Kids,D k.toNat/\r k.toNat<r i
theorem c0l (r:Nat->Nat):∀ (l:List Int) (k:Int),k∈l->r k.toNat<=(l.map fun k=>r k.toNat).sum
 | [],_,h=>by cases h
 | y::l,k,h=>by
   rw [List.map_cons,List.sum_cons]
   rcases List.mem_cons.1 h with rfl | h
   ·omega
   ·have:=c0l r l k h; omega
theorem Gd.add {ns:List Api_TypeNode}{D D':Nat->Prop}(h:Gd ns D){i:Nat}{x:Api_TypeNode}(hx:ns[i]?=some x)(hk:isB x=true->∀ k∈x.Kids,D k.toNat)(hD:∀ j,D' j↔D j\/j=i):Gd ns D':=by
 obtain ⟨r,hr⟩:=h
 by_cases hi:D i
 ·have e:∀ j,D' j↔D j:=fun j=>(hD j).trans ⟨fun h=>h.elim id (fun h=>by rw [h]; exact hi),.inl⟩
  exact ⟨r,fun j y h1 h2 h3 k h4=>by
   obtain ⟨k1,k2⟩:=hr j y ((e j).1 h1) h2 h3 k h4
   exact ⟨(e _).2 k1,k2⟩⟩
 ·refine ⟨fun j=>if j=i then 1+(x.Kids.map fun k=>r k.toNat).sum else r j,fun j y h1 h2 h3 k h4=>?_⟩
  by_cases hj:j=i
  ·subst hj
   rw [hx] at h2
   cases h2
   have hDk:=hk h3 k h4
   have hne:k.toNat≠j:=fun e=>hi (e▸hDk)
   refine ⟨(hD _).2 (.inl hDk),?_⟩
   simp only [if_neg hne,if_true]
   have:=c0l r x.Kids k h4
   omega
  ·obtain ⟨k1,k2⟩:=hr j y (((hD j).1 h1).resolve_right hj) h2 h3 k h4
   have hne:k.toNat≠i:=fun e=>hi (e▸k1)
   refine ⟨(hD _).2 (.inl k1),?_⟩
   simp only [if_neg hne,if_neg hj]
   exact k2
theorem Gd.acy {ns:List Api_TypeNode}{D:Nat->Prop}(h:Gd ns D)(hD:∀ j,j<ns.length->D j):Acy ns:=by
 obtain ⟨r,hr⟩:=h
 exact ⟨r,fun i x hx hb k hk=>(hr i x (hD i (List.getElem?_eq_some_iff.1 hx).1) hx hb k hk).2⟩
def DF (ns:List Api_TypeNode)(st:List Int)(j:Nat):Prop:=st[j]?=some 2\/∃ x,ns[j]?=some x/\isB x=false
theorem c0r:∀ (l:List Int) (i:Nat),l[i]?=some 0->(l.set i 1).count 0+1=l.count 0
 | [],i,h=>by simp at h
 | x::l,0,h=>by
   have:x=0:=by simpa using h
   subst this
   simp
 | x::l,i+1,h=>by
   have:=c0r l i (by simpa using h)
   rw [List.set_cons_succ,List.count_cons,List.count_cons]
   omega
theorem c2f:∀ (l:List Int) (i:Nat),(l.set i 2).count 0<=l.count 0
 | [],i=>by simp
 | x::l,0=>by
   rw [List.set_cons_zero,List.count_cons,List.count_cons]
   simp
 | x::l,i+1=>by
   have:=c2f l i
   rw [List.set_cons_succ,List.count_cons,List.count_cons]
   omega
structure DfsR (ns:List Api_TypeNode)(st st':List Int):Prop where
 len:st'.length=ns.length
 val:∀ (j:Nat) e,st'[j]?=some e->e=0\/e=1\/e=2
 gd:Gd ns (DF ns st')
 opn:∀ j:Nat,st'[j]?=some 1↔st[j]?=some 1
 don:∀ j:Nat,st[j]?=some 2->st'[j]?=some 2
 zer:st'.count 0<=st.count 0
theorem c5E (t:Api_Type)(hT:b7a t.Nodes=true)(hk:∀ x∈t.Nodes,x.Kids.length<=1100000) :
 ∀ (fuel i:Nat) (st:List Int),st.count 0<fuel->i<t.Nodes.length->DfsR t.Nodes st st ->
  ∃ b st',Y3 fuel (i:Int) st t ()=some (b,st')/\(b=true->DfsR t.Nodes st st'/\DF t.Nodes st' i)/\(b=false->∀ r,Rk t.Nodes r->(∀ o:Nat,st[o]?=some 1->r i<r o)->False):=by
 intro fuel
 induction fuel with
 | zero=>intro i st h1; omega
 | succ f ih =>
   intro i st h1 h2 hS
   show ∃ b st',a1U f (Y3 f) (i:Int) st t ()=some (b,st')/\_
   have h3:=hS.len
   have hi:i<st.length:=by omega
   have hst:=List.getElem?_eq_getElem hi
   have hn:=List.getElem?_eq_getElem h2
   generalize st[i]=e at hst
   generalize hx:t.Nodes[i]=x at hn
   have hxm:x∈t.Nodes:=List.mem_of_getElem? hn
   unfold a1U
   simp only [K1 hst,K1 hn,Int.toNat_natCast,hst,Option.bind_some,c5g,b00,a0L]
   by_cases hq:e=0/\isB x=true
   ·obtain ⟨he,hb⟩:=hq
    subst he
    rw [hb]
    simp only [bne_self_eq_false,cond_false,Bool.not_true,Option.bind_some]
    have hke:=hk x hxm
    have hz:=c0r st i hst
    have hset:∀ j:Nat,(st.set i 1)[j]?=some 1↔st[j]?=some 1\/j=i:=fun j=>by
     by_cases e:i=j
     ·subst e; rw [List.getElem?_set_self hi]; simp
     ·rw [List.getElem?_set_ne e]; exact ⟨.inl,fun h=>h.resolve_right (Ne.symm e)⟩
    have hset2:∀ j:Nat,(st.set i 1)[j]?=some 2↔st[j]?=some 2:=fun j=>by
     by_cases e:i=j
     ·subst e; rw [List.getElem?_set_self hi,hst]; simp
     ·rw [List.getElem?_set_ne e]
    have hS1:DfsR t.Nodes (st.set i 1) (st.set i 1):=by
     refine ⟨by simpa using h3,fun j e hj=>?_,?_,fun _=>Iff.rfl,fun _ h=>h,Nat.le_refl _⟩
     ·by_cases e1:i=j
      ·subst e1; rw [List.getElem?_set_self hi] at hj; simp at hj; omega
      ·rw [List.getElem?_set_ne e1] at hj; exact hS.val j e hj
     ·have e:∀ j,DF t.Nodes (st.set i 1) j↔DF t.Nodes st j:=fun j=>or_congr (hset2 j) Iff.rfl
      obtain ⟨r,hr⟩:=hS.gd
      exact ⟨r,fun j y a1 a2 a3 k a4=>by
       obtain ⟨k1,k2⟩:=hr j y ((e j).1 a1) a2 a3 k a4
       exact ⟨(e _).2 k1,k2⟩⟩
    have key:∀ (m a k:Nat) (s:List Int),a+m=x.Kids.length->m+1<=k->DfsR t.Nodes (st.set i 1) s->(∀ (q:Nat) (y:Int),q<a->x.Kids[q]?=some y->DF t.Nodes s y.toNat) ->
     (∃ s',z8 (Z5 t x (Y3 f)) k ((a:Int),s)=some (.inl s')/\DfsR t.Nodes (st.set i 1) s'/\∀ y∈x.Kids,DF t.Nodes s' y.toNat) \/
     ∃ s',z8 (Z5 t x (Y3 f)) k ((a:Int),s)=some (.inr (false,s'))/\∀ r,Rk t.Nodes r->(∀ o:Nat,st[o]?=some 1->r i<r o)->False:=by
     intro m
     induction m with
     | zero =>
       intro a k s b1 b2 b3 b4
       obtain ⟨k,rfl⟩:∃ m,k=m+1:=⟨k-1,by omega⟩
       have e:a=x.Kids.length:=by omega
       subst e
       have:Z5 t x (Y3 f) ((x.Kids.length:Int),s)=some (.done (.inl s)):=by
        unfold Z5
        simp
       exact .inl ⟨s,by simp only [z8,this,Option.bind_some],b3,fun y hy=>by
        obtain ⟨q,hq,e⟩:=List.getElem_of_mem hy
        exact b4 q y hq (by rw [List.getElem?_eq_getElem hq,e])⟩
     | succ m ihm =>
       intro a k s b1 b2 b3 b4
       obtain ⟨k,rfl⟩:∃ m,k=m+1:=⟨k-1,by omega⟩
       have ha:a<x.Kids.length:=by omega
       have hka:=List.getElem?_eq_getElem ha
       have hkm:=List.getElem_mem ha
       obtain ⟨j,hj1,hj3⟩:=c0b (b59 (List.all_eq_true.1 hT x hxm) _ hkm)
       obtain ⟨b,s',c1,c2,c3⟩:=ih j s (by have:=b3.zer; omega) hj3 ⟨b3.len,b3.val,b3.gd,fun _=>Iff.rfl,fun _ h=>h,Nat.le_refl _⟩
       cases b with
       | true =>
         obtain ⟨c4,c5⟩:=c2 rfl
         have:Z5 t x (Y3 f) ((a:Int),s)=some (.next (((a+1:Nat):Int),s')):=by
          unfold Z5
          rw [a3L ha,K1 hka,hj1]
          simp only [cond_true,Option.bind_some,a0L]
          rw [c1,a2y a (by omega)]
          rfl
         simp only [z8,this,Option.bind_some]
         refine ihm (a+1) k s' (by omega) (by omega) ⟨c4.len,c4.val,c4.gd,fun q=>(c4.opn q).trans (b3.opn q),fun q hq=>c4.don q (b3.don q hq),Nat.le_trans c4.zer b3.zer⟩ (fun q y hq hy=>?_)
         by_cases hqa:q=a
         ·subst hqa
          rw [hka] at hy
          cases hy
          rw [hj1,Int.toNat_natCast]
          exact c5
         ·exact (b4 q y (by omega) hy).imp (fun h=>c4.don _ h) id
       | false =>
         have:Z5 t x (Y3 f) ((a:Int),s)=some (.done (.inr (false,s'))):=by
          unfold Z5
          rw [a3L ha,K1 hka,hj1]
          simp only [cond_true,Option.bind_some,a0L]
          rw [c1]
          rfl
         refine .inr ⟨s',by simp only [z8,this,Option.bind_some],fun r hr ho=>c3 rfl r hr fun o hopn=>?_⟩
         have hrk:r j<r i:=by
          have:=hr i x hn hb _ hkm
          rwa [hj1,Int.toNat_natCast] at this
         rcases (hset o).1 ((b3.opn o).1 hopn) with h | rfl
         ·exact Nat.lt_trans hrk (ho o h)
         ·exact hrk
    have e0:z8 (Z5 t x (Y3 f)) (x.Kids.length+1) (0,st.set i 1)=z8 (Z5 t x (Y3 f)) (x.Kids.length+1) (((0:Nat):Int),st.set i 1):=rfl
    rw [e0]
    rcases key x.Kids.length 0 (x.Kids.length+1) (st.set i 1) (by omega) (Nat.le_refl _) hS1 (fun q y hq=>by omega) with ⟨s',c1,c2,c3⟩ | ⟨s',c1,c2⟩
    ·rw [c1]
     have hi':i<s'.length:=by rw [c2.len]; exact h2
     have hs':=List.getElem?_eq_getElem hi'
     have hs1:s'[i]?=some 1:=(c2.opn i).2 ((hset i).2 (.inr rfl))
     simp only [Option.bind_some,Q3,K1 hs',hs']
     refine ⟨true,s'.set i 2,rfl,fun _=>⟨⟨by simpa using c2.len,fun j e hj=>?_,?_,fun j=>?_,fun j hj=>?_,?_⟩,.inl (List.getElem?_set_self hi')⟩,fun h=>by cases h⟩
     ·by_cases e1:i=j
      ·subst e1; rw [List.getElem?_set_self hi'] at hj; simp at hj; omega
      ·rw [List.getElem?_set_ne e1] at hj; exact c2.val j e hj
     ·refine Gd.add c2.gd hn (fun _=>c3) fun j=>?_
      unfold DF
      by_cases e1:i=j
      ·subst e1; rw [List.getElem?_set_self hi']; simp
      ·rw [List.getElem?_set_ne e1]; exact ⟨.inl,fun h=>h.resolve_right (Ne.symm e1)⟩
     ·by_cases e1:i=j
      ·subst e1; rw [List.getElem?_set_self hi',hst]; simp
      ·rw [List.getElem?_set_ne e1]
       exact (c2.opn j).trans ((hset j).trans ⟨fun h=>h.resolve_right (Ne.symm e1),.inl⟩)
     ·have h2':=c2.don j ((hset2 j).2 hj)
      by_cases e1:i=j
      ·subst e1; rw [List.getElem?_set_self hi']
      ·rw [List.getElem?_set_ne e1]; exact h2'
     ·have a1:=c2f s' i
      have a2:=c2.zer
      omega
    ·rw [c1]
     exact ⟨false,s',rfl,(fun h=>by cases h),fun _=>c2⟩
   ·by_cases he1:e=1
    ·subst he1
     exact ⟨false,st,by cases isB x<;>rfl,(fun h=>by cases h),fun _ r _ ho=>Nat.lt_irrefl _ (ho i hst)⟩
    ·refine ⟨true,st,?_,fun _=>⟨hS,?_⟩,fun h=>by cases h⟩
     ·by_cases he:e=0
      ·subst he
       have hb:isB x=false:=by
        cases hb:isB x with
        | true=>exact absurd ⟨rfl,hb⟩ hq
        | false=>rfl
       rw [hb]
       rfl
      ·have e2:(e != 0)=true:=by simpa using he
       have e3:(e != 1)=true:=by simpa using he1
       rw [e2,e3]
       rfl
     ·rcases hS.val i e hst with rfl | rfl | rfl
      ·right
       refine ⟨x,hn,?_⟩
       cases hb:isB x with
       | true=>exact absurd ⟨rfl,hb⟩ hq
       | false=>rfl
      ·exact absurd rfl he1
      ·exact .inl hst
theorem c3h (t:Api_Type)(hT:b7a t.Nodes=true)(hk:∀ x∈t.Nodes,x.Kids.length<=1100000)(hN:t.Nodes.length<=1100000)(fuel:Nat)(hf:t.Nodes.length+1<=fuel):a1G fuel t=some (b0f t.Nodes):=by
 unfold a1G a81
 have e0:(decide (0<=(t.Nodes.length:Int))&&decide ((t.Nodes.length:Int)<=(t.Nodes.length:Int))&&decide ((t.Nodes.length:Int)*((8:Nat):Int)<=140737488355328))=true:=by
  simp; omega
 rw [e0]
 simp only [cond_true,Option.bind_some,b00]
 have key:∀ (m a k:Nat) (s:List Int),a+m=t.Nodes.length->m+1<=k->DfsR t.Nodes s s->(∀ j:Nat,s[j]?≠some 1)->(∀ j,j<a->DF t.Nodes s j) ->
  (∃ s',z8 (Y5 t fuel) k ((a:Int),s)=some (.inl s')/\b0f t.Nodes=true)\/∃ s',z8 (Y5 t fuel) k ((a:Int),s)=some (.inr (false,s'))/\b0f t.Nodes=false:=by
  intro m
  induction m with
  | zero =>
    intro a k s b1 b2 b3 b4 b5
    obtain ⟨k,rfl⟩:∃ m,k=m+1:=⟨k-1,by omega⟩
    have e:a=t.Nodes.length:=by omega
    subst e
    have:Y5 t fuel ((t.Nodes.length:Int),s)=some (.done (.inl s)):=by
     unfold Y5
     simp
    exact .inl ⟨s,by simp only [z8,this,Option.bind_some],b5v.2 (b3.gd.acy b5)⟩
  | succ m ih =>
    intro a k s b1 b2 b3 b4 b5
    obtain ⟨k,rfl⟩:∃ m,k=m+1:=⟨k-1,by omega⟩
    have hz:s.count 0<=t.Nodes.length:=by rw [<- b3.len]; exact List.count_le_length
    obtain ⟨b,s',c1,c2,c3⟩:=c5E t hT hk fuel a s (by omega) (by omega) b3
    cases b with
    | true =>
      obtain ⟨c4,c5⟩:=c2 rfl
      have:Y5 t fuel ((a:Int),s)=some (.next (((a+1:Nat):Int),s')):=by
       unfold Y5
       rw [a3L (show a<t.Nodes.length by omega)]
       simp only [cond_true,Option.bind_some,a0L]
       rw [c1,a2y a (by omega)]
       rfl
      simp only [z8,this,Option.bind_some]
      refine ih (a+1) k s' (by omega) (by omega) ⟨c4.len,c4.val,c4.gd,fun _=>Iff.rfl,fun _ h=>h,Nat.le_refl _⟩ (fun j h=>b4 j ((c4.opn j).1 h)) (fun j hj=>?_)
      by_cases h:j=a
      ·rw [h]; exact c5
      ·exact (b5 j (by omega)).imp (fun h=>c4.don _ h) id
    | false =>
      have:Y5 t fuel ((a:Int),s)=some (.done (.inr (false,s'))):=by
       unfold Y5
       rw [a3L (show a<t.Nodes.length by omega)]
       simp only [cond_true,Option.bind_some,a0L]
       rw [c1]
       rfl
      refine .inr ⟨s',by simp only [z8,this,Option.bind_some],?_⟩
      cases hA:b0f t.Nodes with
      | false=>rfl
      | true =>
        obtain ⟨r,hr⟩:=b5v.1 hA
        exact (c3 rfl r hr fun o ho=>absurd ho (b4 o)).elim
 have hrep:∀ (j:Nat) (e:Int),(List.replicate t.Nodes.length (0:Int))[j]?=some e->e=0:=fun j e h=>by
  rw [List.getElem?_replicate] at h
  split at h
  ·simpa using h.symm
  ·cases h
 have hS:DfsR t.Nodes (List.replicate t.Nodes.length (0:Int)) (List.replicate t.Nodes.length (0:Int)) :=
  ⟨by simp,fun j e h=>.inl (hrep j e h),⟨fun _=>0,fun i x hi hx hb=>by
   rcases hi with hi | ⟨y,hy,hyb⟩
   ·have:=hrep i 2 hi; omega
   ·rw [hx] at hy; cases hy; rw [hb] at hyb; cases hyb⟩,fun _=>Iff.rfl,fun _ h=>h,Nat.le_refl _⟩
 have e':∀ s,z8 (Y5 t fuel) (t.Nodes.length+1) (0,s)=z8 (Y5 t fuel) (t.Nodes.length+1) (((0:Nat):Int),s):=fun _=>rfl
 rw [e']
 rcases key t.Nodes.length 0 (t.Nodes.length+1) (List.replicate t.Nodes.length (0:Int)) (by omega) (Nat.le_refl _) hS (fun j h=>by have:=hrep j 1 h; omega) (fun j hj=>by omega) with ⟨s',e,hA⟩ | ⟨s',e,hA⟩
 ·rw [e,hA]; rfl
 ·rw [e,hA]; rfl
theorem c57 (t:Api_Type)(hk:∀ x∈t.Nodes,x.Kids.length<=1100000/\x.Fields.length<=1100000)(hN:t.Nodes.length<=1100000)(fuel:Nat)(hf:t.Nodes.length+1<=fuel):J8 fuel t=some (if inR t.Nodes.length t.Root&&b7a t.Nodes then (if b0f t.Nodes then 0 else 3) else 1):=by
 have l2:z8 (a1j t) (t.Nodes.length+1) 0=some (if t.Nodes.all (a1t t.Nodes.length)=true then .inl () else .inr 1):=by
  refine b5E t.Nodes (a1t t.Nodes.length) (fun i=>(i:Int)) () 1 ?_ ?_
  ·intro i x hx
   have hi:i<t.Nodes.length:=(List.getElem?_eq_some_iff.1 hx).1
   obtain ⟨hk1,hk2⟩:=hk x (List.mem_of_getElem? hx)
   unfold a1j
   rw [a3L hi,K1 hx]
   simp only [cond_true,Option.bind_some,c3L,c3O x (by omega),a0L,b00]
   rw [<- c1N,a2y i (by omega)]
   cases b3z x
   ·rfl
   cases b3T x
   ·rfl
   simp only [Bool.not_true,cond_false,Option.bind_some,Bool.true_and]
   rw [c2U x hk1 hk2]
   simp only [Option.bind_some]
   have he:(a3a x).length<=4194304:=by
    unfold a3a
    simp only [List.length_append,List.length_map]
    split<;>simp<;>omega
   have l1:z8 (a1i t (a3a x)) ((a3a x).length+1) 0=some (if (a3a x).all (inR t.Nodes.length)=true then .inl () else .inr 1):=by
    refine b5E (a3a x) (inR t.Nodes.length) (fun i=>(i:Int)) () 1 ?_ ?_
    ·intro j y hy
     have hj:j<(a3a x).length:=(List.getElem?_eq_some_iff.1 hy).1
     unfold a1i
     rw [a3L hj,K1 hy]
     simp only [cond_true,Option.bind_some,a0L]
     rw [a2y j (by omega)]
     unfold inR
     by_cases h1:y<0
     ·have a1:decide (y<0)=true:=by simpa using h1
      have a2:decide (0<=y)=false:=by simp; omega
      rw [a1,a2]; rfl
     ·have a1:decide (y<0)=false:=by simpa using h1
      have a2:decide (0<=y)=true:=by simp; omega
      rw [a1,a2]
      by_cases h2:y<(t.Nodes.length:Int)
      ·have a3:decide ((t.Nodes.length:Int)<=y)=false:=by simp; omega
       have a4:decide (y<(t.Nodes.length:Int))=true:=by simpa using h2
       rw [a3,a4]; rfl
      ·have a3:decide ((t.Nodes.length:Int)<=y)=true:=by simp; omega
       have a4:decide (y<(t.Nodes.length:Int))=false:=by simpa using h2
       rw [a3,a4]; rfl
    ·unfold a1i
     simp
   rw [l1]
   cases (a3a x).all (inR t.Nodes.length)<;>rfl
  ·unfold a1j
   simp
 unfold J8
 rw [b00,l2]
 have hq:(Option.bind (bif decide (t.Root<0) then some true else some (decide ((t.Nodes.length:Int)<=t.Root))) fun q=>some q)=some (!inR t.Nodes.length t.Root):=by
  unfold inR
  by_cases h1:t.Root<0
  ·have a1:decide (t.Root<0)=true:=by simpa using h1
   have a2:decide (0<=t.Root)=false:=by simp; omega
   rw [a1,a2]; rfl
  ·have a1:decide (t.Root<0)=false:=by simpa using h1
   have a2:decide (0<=t.Root)=true:=by simp; omega
   rw [a1,a2]
   by_cases h2:t.Root<(t.Nodes.length:Int)
   ·have a3:decide ((t.Nodes.length:Int)<=t.Root)=false:=by simp; omega
    have a4:decide (t.Root<(t.Nodes.length:Int))=true:=by simpa using h2
    rw [a3,a4]; rfl
   ·have a3:decide ((t.Nodes.length:Int)<=t.Root)=true:=by simp; omega
    have a4:decide (t.Root<(t.Nodes.length:Int))=false:=by simpa using h2
    rw [a3,a4]; rfl
 rw [b2a] at hq
 rw [hq]
 simp only [Option.bind_some]
 cases inR t.Nodes.length t.Root
 ·rfl
 show _=some (if b7a t.Nodes=true then (if b0f t.Nodes then (0:Int) else 3) else 1)
 cases hA:b7a t.Nodes with
 | true =>
   have hA':t.Nodes.all (a1t t.Nodes.length)=true:=hA
   rw [hA']
   simp only [Bool.not_true,cond_false,if_true,Option.bind_some,Q3]
   rw [c3h t hA (fun x hx=>(hk x hx).1) hN fuel hf]
   cases b0f t.Nodes<;>rfl
 | false =>
   have hA':t.Nodes.all (a1t t.Nodes.length)=false:=hA
   rw [hA']
   rfl
end Go.Pl
namespace Go.Pl
open Go Go.RowKit Go.Sx Go.Qx
end Go.Pl
end
section
namespace Go.Pl
open Go Go.RowKit Go.Sx Go.Qx
structure GN (N i:Nat)(x:Api_TypeNode):Prop where
 ok:a1t N x=true
 ord:isB x=true->∀ k∈x.Kids,(i:Int)<k
 kids:x.Kids.length<=4
 text:x.Text.size<=5
 flds:x.Fields.length<=3
 keys:∀ f∈x.Fields,c0o f.Key_<=8
 rng : -9223372036854775808<=x.Lo/\x.Lo<=9223372036854775807 /\ -9223372036854775808<=x.Hi/\x.Hi<=9223372036854775807
theorem b2x {N M:Nat}(h:N<=M){k:Int}(hk:inR N k=true):inR M k=true:=by
 unfold inR at *
 simp only [Bool.and_eq_true,decide_eq_true_eq] at *
 omega
theorem b9E {α:Type}{p q:α->Bool}{l:List α}(h:∀ x,p x=true->q x=true)(k:l.all p=true):l.all q=true:=List.all_eq_true.2 fun x hx=>h x (List.all_eq_true.1 k x hx)
theorem c0K {N M:Nat}(h:N<=M){x:Api_TypeNode}(hx:a1t N x=true):a1t M x=true:=by
 unfold a1t at *
 simp only [Bool.and_eq_true] at *
 refine ⟨b9E (fun k=>b2x h) hx.1,hx.2.1,hx.2.2.1,hx.2.2.2.1,?_⟩
 have hk:=hx.2.2.2.2
 unfold a4k at *
 split<;>rename_i h3
 ·rwa [if_pos h3] at hk
 rw [if_neg h3] at hk
 split<;>rename_i h4
 ·rwa [if_pos h4] at hk
 rw [if_neg h4] at hk
 split<;>rename_i h6
 ·rwa [if_pos h6] at hk
 rw [if_neg h6] at hk
 split<;>rename_i h19
 ·rwa [if_pos h19] at hk
 rw [if_neg h19] at hk
 split<;>rename_i hs
 ·rwa [if_pos hs] at hk
 rw [if_neg hs] at hk
 split<;>rename_i h10
 ·rwa [if_pos h10] at hk
 rw [if_neg h10] at hk
 split<;>rename_i h12
 ·rwa [if_pos h12] at hk
 rw [if_neg h12] at hk
 split<;>rename_i h14
 ·rwa [if_pos h14] at hk
 rw [if_neg h14] at hk
 split<;>rename_i h16
 ·rwa [if_pos h16] at hk
 rw [if_neg h16] at hk
 split<;>rename_i h18
 ·rwa [if_pos h18] at hk
 rw [if_neg h18] at hk
 split<;>rename_i h13
 ·rw [if_pos h13] at hk
  unfold a8B at *
  simp only [Bool.and_eq_true] at *
  exact ⟨⟨hk.1.1,hk.1.2.1,b9E (fun f=>b2x h) hk.1.2.2⟩,hk.2.1,b2x h hk.2.2.1,b2x h hk.2.2.2⟩
 ·rwa [if_neg h13] at hk
theorem GN.mono {N M i:Nat}{x:Api_TypeNode}(h:GN N i x)(k:N<=M):GN M i x:=⟨c0K k h.ok,h.ord,h.kids,h.text,h.flds,h.keys,h.rng⟩
abbrev b6W (k:Int)(l:List Int):Api_TypeNode:=Api_TypeNode.mk k 0 0 (⟨#[]⟩:ByteArray) l ([]:List Api_Field) (0,0)
abbrev c7u (k:Int)(s:ByteArray):Api_TypeNode:=Api_TypeNode.mk k 0 0 s ([]:List Int) ([]:List Api_Field) (0,0)
theorem a9a {N i:Nat}{k:Int}{l:List Int}(hl:l.all (inR N)=true)(h4:l.length<=4)(hk:a4k N (b6W k l)=true)(ho:k=16\/k=17\/k=18->∀ x∈l,(i:Int)<x):GN N i (b6W k l):=by
 refine ⟨?_,fun hb=>ho ?_,h4,by show (⟨#[]⟩:ByteArray).size<=5; decide,by show (0:Nat)<=3; omega,(fun f hf=>by cases hf),by show (-9223372036854775808:Int)<=0/\(0:Int)<=9223372036854775807/\(-9223372036854775808:Int)<=0/\(0:Int)<=9223372036854775807; decide⟩
 ·unfold a1t
  rw [hk]
  simp [hl,b89,a3g]
 ·unfold isB at hb
  simp at hb
  omega
theorem b8U {N i:Nat}{k:Int}{s:ByteArray}(hs:s.size<=5)(hk:(k=4)\/(k=6/\a80 s=true)\/(k=19/\b1Y s=true)):GN N i (c7u k s):=by
 refine ⟨?_,fun hb=>?_,by show (0:Nat)<=4; omega,hs,by show (0:Nat)<=3; omega,(fun f hf=>by cases hf),by show (-9223372036854775808:Int)<=0/\(0:Int)<=9223372036854775807/\(-9223372036854775808:Int)<=0/\(0:Int)<=9223372036854775807; decide⟩
 ·have h64:(s.size:Int)<=64:=by omega
  rcases hk with rfl | ⟨rfl,h⟩ | ⟨rfl,h⟩
  ·simp [a1t,a4k,a3g,h64]
  ·simp [a1t,a4k,a3g,h]
  ·simp [a1t,a4k,a3g,h]
 ·intro x hx; cases hx
section
variable {L:List Int}
theorem c5c {γ σ τ:Type}{step:σ->Option (Fl σ τ)}(pack:γ->Int->Semtypebase_Source->σ)(out:γ->Semtypebase_Source->τ)(Inv:Nat->γ->Prop)(J:Nat)
 (hst:∀ (j:Nat) (g:γ) (s:Semtypebase_Source),j<J->Inv j g->OS L s->∃ g' s',step (pack g (j:Int) s)=some (.next (pack g' ((j+1:Nat):Int) s'))/\OS L s'/\Inv (j+1) g')
 (hend:∀ g s,step (pack g (J:Int) s)=some (.done (out g s))) :
 ∀ (n j k:Nat) (g:γ) (s:Semtypebase_Source),j+n=J->n+1<=k->Inv j g->OS L s->∃ g' s',z8 step k (pack g (j:Int) s)=some (out g' s')/\OS L s'/\Inv J g':=by
 intro n
 induction n with
 | zero =>
   intro j k g s hJ hk hI hs
   obtain ⟨k,rfl⟩:∃ m,k=m+1:=⟨k-1,by omega⟩
   have e:j=J:=by omega
   subst e
   exact ⟨g,s,by have:=hend g s; simp [z8,this],hs,hI⟩
 | succ n ih =>
   intro j k g s hJ hk hI hs
   obtain ⟨k,rfl⟩:∃ m,k=m+1:=⟨k-1,by omega⟩
   obtain ⟨g1,s1,e,hs1,hI1⟩:=hst j g s (by omega) hI hs
   obtain ⟨g2,s2,e2,hs2,hI2⟩:=ih (j+1) k g1 s1 (by omega) (by omega) hI1 hs1
   refine ⟨g2,s2,?_,hs2,hI2⟩
   simp only [z8,e,Option.bind_some]
   exact e2
theorem b9Y (hL:L.length<=4194304){s:Semtypebase_Source}(h:OS L s)(m i N:Nat)(hm:m<=4)(hi:i<N)(hN:N<=100) :
 ∃ l t,y4 s (m:Int) (i:Int) (N:Int)=some (l,t)/\OS L t/\l.length=m/\∀ k∈l,(i:Int)<=k/\k<(N:Int):=by
 unfold y4
 obtain ⟨g,s',e,hs',h1,h2⟩:=c3N (γ:=List Int) (L:=L) (step:=X7 (i:Int) (N:Int)) (fun g j s=>(j,g,s)) (fun g s=>(g,s)) (fun j g=>g.length=j/\∀ k∈g,(i:Int)<=k/\k<(N:Int)) m
  (fun j n g s hj hn hI hs=>by
    obtain ⟨x,t,e,ht,a,b⟩:=J9 hL hs (n:=w64 ((N:Int)-(i:Int))) (by rw [K9 (by omega) (by omega)]; omega) (by rw [K9 (by omega) (by omega)]; omega)
    rw [K9 (by omega) (by omega)] at b
    have hw:w64 ((i:Int)+x)=(i:Int)+x:=K9 (by omega) (by omega)
    refine ⟨g++[(i:Int)+x],t,?_,ht,?_,?_⟩
    ·unfold X7
     simp only [a0L]
     rw [show decide (0<((n+1:Nat):Int))=true from decide_eq_true (by omega),e]
     simp only [cond_true,Option.bind_some,hw]
     rw [a8C (by simp only [List.length_cons,List.length_nil]; have:=hI.1; omega),show w64 (((n+1:Nat):Int)-1)=(n:Int) by rw [K9 (by omega) (by omega)]; omega]
     rfl
    ·simp [hI.1]
    ·intro k hk
     rcases List.mem_append.1 hk with hk | hk
     ·exact hI.2 k hk
     ·rw [List.mem_singleton.1 hk]; omega) (fun g s=>by
    unfold X7
    rfl) m 0 ((m:Int).toNat+2) [] s (by omega) (by omega) ⟨rfl,fun k hk=>by cases hk⟩ h
 rw [e]
 exact ⟨g,s',rfl,hs',by simpa using h1,h2⟩
theorem b6o {N:Nat}{k:Int}(h0:0<=k)(h1:k<(N:Int)):inR N k=true:=by
 unfold inR
 simp [h0,h1]
theorem a8A {N i:Nat}{l:List Int}(h:∀ k∈l,(i:Int)<=k/\k<(N:Int)):l.all (inR N)=true:=List.all_eq_true.2 fun k hk=>by
 have:=h k hk
 exact b6o (by omega) this.2
abbrev c6k:Key:=Key.mk 0 ⟨#[97]⟩
abbrev c5T:Key:=Key.mk 0 ⟨#[98]⟩
abbrev c5M:Key:=Key.mk 1 ⟨#[115]⟩
abbrev c7J:Type:=Int×Int×Int×ByteArray×(List Int)×(List Api_Field)×Int×Int
abbrev b63 (F:List Api_Field)(a b:Int):c7J:=(13,0,0,(⟨#[]⟩:ByteArray),[],F,a,b)
theorem b3k (hL:L.length<=4194304){s:Semtypebase_Source}(h:OS L s)(N j:Nat)(hN:1<=N)(hN2:N<=100)(hj:j<3)(K:Key)(hK:[c6k,c5T,c5M][j]?=some K)(F:List Api_Field)(hF:F.length<=j)(a b:Int) :
 ∃ O t,J2 (N:Int) ((j:Int),s,b63 F a b)=some (.next (((j+1:Nat):Int),t,b63 (F++O) a b))/\OS L t/\(O=[]\/∃ n o,O=[Api_Field.mk K n o]/\inR N n=true):=by
 obtain ⟨x,t,e,ht,_,_⟩:=J9 hL h (n:=2) (by omega) (by omega)
 unfold J2
 simp only [a0L]
 rw [show decide ((j:Int)<3)=true from decide_eq_true (by omega),e]
 simp only [cond_true,Option.bind_some]
 rw [a2y j (by omega)]
 cases hx:x==1
 ·exact ⟨[],t,by simp only [cond_false,Option.bind_some,List.append_nil],ht,.inl rfl⟩
 ·simp only [cond_true]
  rw [K1 hK]
  obtain ⟨n,t2,e2,ht2,n0,n1⟩:=J9 hL ht (n:=(N:Int)) (by omega) (by omega)
  obtain ⟨o,t3,e3,ht3,_,_⟩:=J9 hL ht2 (n:=2) (by omega) (by omega)
  simp only [Option.bind_some,e2,e3]
  rw [a8C (by simp only [List.length_cons,List.length_nil]; omega)]
  exact ⟨[Api_Field.mk K n (o==1)],t3,rfl,ht3,.inr ⟨n,_,rfl,b6o n0 n1⟩⟩
theorem b95 (hL:L.length<=4194304){s:Semtypebase_Source}(h:OS L s)(N i:Nat)(hN:1<=N)(hN2:N<=100):∃ x t,a0r s (N:Int)=some (x,t)/\OS L t/\GN N i x:=by
 obtain ⟨a,t1,e1,ht1,a0,a1⟩:=J9 hL h (n:=(N:Int)) (by omega) (by omega)
 obtain ⟨b,t2,e2,ht2,b0,b1⟩:=J9 hL ht1 (n:=(N:Int)) (by omega) (by omega)
 obtain ⟨O0,t3,e3,ht3,h0⟩:=b3k hL ht2 N 0 hN hN2 (by omega) c6k rfl [] (by simp) a b
 have l0:O0.length<=1:=by rcases h0 with rfl | ⟨n,o,rfl,_⟩<;>simp
 obtain ⟨O1,t4,e4,ht4,h1⟩:=b3k hL ht3 N 1 hN hN2 (by omega) c5T rfl ([]++O0) (by simpa using l0) a b
 have l1:O1.length<=1:=by rcases h1 with rfl | ⟨n,o,rfl,_⟩<;>simp
 obtain ⟨O2,t5,e5,ht5,h2⟩:=b3k hL ht4 N 2 hN hN2 (by omega) c5M rfl (([]++O0)++O1) (by simp; omega) a b
 have e6:J2 (N:Int) (((2+1:Nat):Int),t5,b63 ((([]++O0)++O1)++O2) a b)=some (.done (t5,b63 ((([]++O0)++O1)++O2) a b)):=rfl
 refine ⟨Api_TypeNode.mk 13 0 0 (⟨#[]⟩:ByteArray) [] (O0++O1++O2) (a,b),t5,?_,ht5,?_⟩
 ·unfold a0r
  rw [e1]
  simp only [Option.bind_some]
  rw [e2]
  simp only [Option.bind_some]
  have ei:z8 (J2 (N:Int)) ((3:Int).toNat+1) (0,t2,(13,0,0,(⟨#[]⟩:ByteArray),[],[],a,b))=some (t5,b63 ((([]++O0)++O1)++O2) a b):=by
   show z8 (J2 (N:Int)) (3+1) (((0:Nat):Int),t2,b63 [] a b)=_
   simp only [z8,e3,e4,e5,e6,Option.bind_some]
  rw [ei]
  rfl
 ·refine ⟨?_,fun hb=>absurd hb (show ¬ (false=true) by simp),by show (0:Nat)<=4; omega,by show (⟨#[]⟩:ByteArray).size<=5; decide,?_,?_,by show (-9223372036854775808:Int)<=0/\(0:Int)<=9223372036854775807/\(-9223372036854775808:Int)<=0/\(0:Int)<=9223372036854775807; decide⟩
  ·have ha:=b6o (N:=N) a0 a1
   have hb:=b6o (N:=N) b0 b1
   have hF:a8B N (O0++O1++O2)=true:=by
    unfold a8B
    rw [Bool.and_eq_true,Bool.and_eq_true]
    refine ⟨?_,?_,?_⟩
    ·rcases h0 with rfl | ⟨n,o,rfl,_⟩<;>rcases h1 with rfl | ⟨n',o',rfl,_⟩<;>rcases h2 with rfl | ⟨n'',o'',rfl,_⟩<;>kernel_rfl
    ·rcases h0 with rfl | ⟨n,o,rfl,_⟩<;>rcases h1 with rfl | ⟨n',o',rfl,_⟩<;>rcases h2 with rfl | ⟨n'',o'',rfl,_⟩<;>kernel_rfl
    ·rcases h0 with rfl | ⟨n,o,rfl,q0⟩<;>rcases h1 with rfl | ⟨n',o',rfl,q1⟩<;>rcases h2 with rfl | ⟨n'',o'',rfl,q2⟩<;>simp_all
   unfold a1t a4k
   simp only [hF,ha,hb,b89]
   simp
  ·show (O0++O1++O2).length<=3
   have l2:O2.length<=1:=by rcases h2 with rfl | ⟨n,o,rfl,_⟩<;>simp
   simp only [List.length_append]
   omega
  ·intro f hf
   have hf:f∈O0++O1++O2:=hf
   have one:∀ {O:List Api_Field} {K:Key},(O=[]\/∃ n o,O=[Api_Field.mk K n o]/\inR N n=true)->f∈O->f.Key_=K:=fun hO hm=>by
    rcases hO with rfl | ⟨n,o,rfl,_⟩
    ·cases hm
    ·rw [List.mem_singleton.1 hm]
   rcases List.mem_append.1 hf with hf | hf
   ·rcases List.mem_append.1 hf with hf | hf
    ·rw [one h0 hf]; decide
    ·rw [one h1 hf]; decide
   ·rw [one h2 hf]; decide
end
end Go.Pl
namespace Go.Pl
open Go Go.RowKit Go.Sx Go.Qx
theorem b6H {N i:Nat}{k:Int}(hk:k=1\/k=2\/k=5\/k=7\/k=8\/k=9\/k=11\/k=15):GN N i (b6W k []) :=
 a9a rfl (by simp) (by rcases hk with rfl | rfl | rfl | rfl | rfl | rfl | rfl | rfl<;>rfl) (fun _ x hx=>by cases hx)
theorem c5k {N i:Nat}{lo hi:Int}(h:lo<=hi)(h2 : -9223372036854775808<=lo/\lo<=9223372036854775807 /\ -9223372036854775808<=hi/\hi<=9223372036854775807):GN N i (Api_TypeNode.mk 3 lo hi (⟨#[]⟩:ByteArray) ([]:List Int) ([]:List Api_Field) (0,0)) :=
 ⟨by simp [a1t,a4k,a3g,b89,h],(fun _ x hx=>by cases hx),(by show (0:Nat)<=4; omega),(by show (⟨#[]⟩:ByteArray).size<=5; decide),(by show (0:Nat)<=3; omega),(fun f hf=>by cases hf),h2⟩
theorem c2m:c1u.all (fun x=>b1Y x&&decide (x.size<=5))=true:=by kernel_rfl
section
variable {L:List Int}
theorem b8T {x:Int}(h:0<=x):∃ m:Nat,x=(m:Int):=⟨x.toNat,by omega⟩
theorem c2V (hL:L.length<=4194304){s:Semtypebase_Source}(h:OS L s)(N i:Nat)(hi:i<N)(hN2:N<=100):∃ x t,a06 s (i:Int) (N:Int)=some (x,t)/\OS L t/\GN N i x:=by
 have hw:w64 ((N:Int)-1)=(N:Int)-1:=K9 (by omega) (by omega)
 have hwi:=a2y i (by omega)
 obtain ⟨b,hb,hlast,hb18⟩:∃ b:Int,(bif ((i:Int)==(wr .i64 ((N:Int)-1))) then (some 14:Option Int) else some 18)=some b/\(14<b->i+1<N)/\(b=14\/b=18):=by
  by_cases e:i+1=N
  ·refine ⟨14,?_,fun h=>by omega,.inl rfl⟩
   have:((i:Int)==(N:Int)-1)=true:=by simp; omega
   simp only [a0L,hw,this,cond_true]
  ·refine ⟨18,?_,fun _=>by omega,.inr rfl⟩
   have:((i:Int)==(N:Int)-1)=false:=by simp; omega
   simp only [a0L,hw,this,cond_false]
 unfold a06
 rw [hb]
 simp only [Option.bind_some]
 obtain ⟨c,t,e,ht,c0,c1⟩:=J9 hL h (n:=b) (by omega) (by omega)
 rw [e]
 simp only [Option.bind_some]
 have ix:∀ {s:Semtypebase_Source},OS L s->∀ (m f:Nat),m<=4->f<N->∃ l t,y4 s (m:Int) (f:Int) (N:Int)=some (l,t)/\OS L t/\l.length=m/\∀ k∈l,(f:Int)<=k/\k<(N:Int):=fun hs m f hm hf=>b9Y hL hs m f N hm hf hN2
 have hc:c=0\/c=1\/c=2\/c=3\/c=4\/c=5\/c=6\/c=7\/c=8\/c=9\/c=10\/c=11\/c=12\/c=13\/c=14\/c=15\/c=16\/c=17:=by omega
 have tup:∀ {s:Semtypebase_Source},OS L s->∃ x t,(Option.bind (y0 s 3) fun r19=>Option.bind (y4 r19.2 r19.1 0 (N:Int)) fun r20=>some (b6W 10 r20.1,r20.2))=some (x,t)/\OS L t/\GN N i x:=fun hs=>by
  obtain ⟨m,t2,e2,ht2,m0,m1⟩:=J9 hL hs (n:=3) (by omega) (by omega)
  obtain ⟨m,rfl⟩:=b8T m0
  obtain ⟨l,t3,e3,ht3,hl,hr⟩:=ix ht2 m 0 (by omega) (by omega)
  rw [e2]
  simp only [Option.bind_some]
  have e3':y4 t2 (m:Int) 0 (N:Int)=some (l,t3):=e3
  rw [e3']
  refine ⟨_,t3,rfl,ht3,a9a (l:=l) (a8A hr) (show l.length<=4 by omega) ?_ (fun h=>by omega)⟩
  show decide ((l.length:Int)<=4)=true
  exact decide_eq_true (by omega)
 have fun_:∀ {s:Semtypebase_Source},OS L s->∃ x t,(Option.bind (y0 s 3) fun r24=>Option.bind (y4 r24.2 (w64 (1+r24.1)) 0 (N:Int)) fun r25=>some (b6W 14 r25.1,r25.2))=some (x,t)/\OS L t/\GN N i x:=fun hs=>by
  obtain ⟨m,t2,e2,ht2,m0,m1⟩:=J9 hL hs (n:=3) (by omega) (by omega)
  obtain ⟨m,rfl⟩:=b8T m0
  obtain ⟨l,t3,e3,ht3,hl,hr⟩:=ix ht2 (m+1) 0 (by omega) (by omega)
  rw [e2]
  simp only [Option.bind_some]
  have e3':y4 t2 (w64 (1+(m:Int))) 0 (N:Int)=some (l,t3):=by
   rw [K9 (by omega) (by omega),show 1+(m:Int)=((m+1:Nat):Int) by omega]
   exact e3
  rw [e3']
  refine ⟨_,t3,rfl,ht3,a9a (l:=l) (a8A hr) (show l.length<=4 by omega) ?_ (fun h=>by omega)⟩
  show (decide (1<=(l.length:Int))&&decide ((l.length:Int)<=5))=true
  rw [Bool.and_eq_true]
  exact ⟨decide_eq_true (by omega),decide_eq_true (by omega)⟩
 have uni:i+1<N->∀ {s:Semtypebase_Source},OS L s->∃ x t,(Option.bind (y0 s 2) fun r28=>Option.bind (y4 r28.2 (w64 (2+r28.1)) (w64 ((i:Int)+1)) (N:Int)) fun r29=>some (b6W 16 r29.1,r29.2))=some (x,t)/\OS L t/\GN N i x:=fun hlt s hs=>by
  obtain ⟨m,t2,e2,ht2,m0,m1⟩:=J9 hL hs (n:=2) (by omega) (by omega)
  obtain ⟨m,rfl⟩:=b8T m0
  obtain ⟨l,t3,e3,ht3,hl,hr⟩:=ix ht2 (m+2) (i+1) (by omega) hlt
  rw [e2]
  simp only [Option.bind_some]
  have e3':y4 t2 (w64 (2+(m:Int))) (w64 ((i:Int)+1)) (N:Int)=some (l,t3):=by
   rw [K9 (x:=2+(m:Int)) (by omega) (by omega),hwi,show 2+(m:Int)=((m+2:Nat):Int) by omega]
   exact e3
  rw [e3']
  refine ⟨_,t3,rfl,ht3,a9a (l:=l) (a8A hr) (show l.length<=4 by omega) ?_ (fun _ x hx=>by have:=hr x hx; omega)⟩
  show decide (1<=(l.length:Int))=true
  exact decide_eq_true (by omega)
 rcases hc with rfl | rfl | rfl | rfl | rfl | rfl | rfl | rfl | rfl | rfl | rfl | rfl | rfl | rfl | rfl | rfl | rfl | rfl<;>simp only [Int.reduceBEq,cond_true,cond_false,Option.bind_some,a0L]
 ·obtain ⟨a,t2,e2,ht2,a0,a1⟩:=J9 hL ht (n:=5) (by omega) (by omega)
  obtain ⟨d,t3,e3,ht3,d0,d1⟩:=J9 hL ht2 (n:=w64 (5-a)) (by rw [K9 (by omega) (by omega)]; omega) (by rw [K9 (by omega) (by omega)]; omega)
  rw [K9 (x:=5-a) (by omega) (by omega)] at d1
  rw [e2]
  simp only [Option.bind_some]
  rw [e3]
  simp only [Option.bind_some]
  rw [K9 (x:=a+d) (by omega) (by omega)]
  have ha:a=0\/a=1\/a=2\/a=3\/a=4:=by omega
  have hd:d=0\/d=1\/d=2\/d=3\/d=4:=by omega
  rcases ha with rfl | rfl | rfl | rfl | rfl<;>rcases hd with rfl | rfl | rfl | rfl | rfl<;>first | (exfalso; omega) | exact ⟨_,t3,rfl,ht3,c5k (by decide) (by decide)⟩
 ·obtain ⟨x,t2,e2,ht2,hx⟩:=b9V hL ht
  have hf:=List.all_eq_true.1 c0V x hx
  simp only [Bool.and_eq_true,decide_eq_true_eq] at hf
  rw [e2]
  exact ⟨_,t2,rfl,ht2,b8U hf.2 (.inr (.inl ⟨rfl,hf.1⟩))⟩
 ·exact ⟨_,t,rfl,ht,b6H (by omega)⟩
 ·obtain ⟨x,t2,e2,ht2,hx⟩:=c4G hL ht
  have hf:=List.all_eq_true.1 c1b x hx
  simp only [decide_eq_true_eq] at hf
  rw [e2]
  exact ⟨_,t2,rfl,ht2,b8U hf (.inl rfl)⟩
 ·obtain ⟨a,t2,e2,ht2,a0,a1⟩:=J9 hL ht (n:=4) (by omega) (by omega)
  rw [e2]
  have ha:a=0\/a=1\/a=2\/a=3:=by omega
  rcases ha with rfl | rfl | rfl | rfl<;>exact ⟨_,t2,rfl,ht2,b6H (by omega)⟩
 ·exact ⟨_,t,rfl,ht,b6H (by omega)⟩
 ·obtain ⟨a,t2,e2,ht2,a0,a1⟩:=J9 hL ht (n:=2) (by omega) (by omega)
  rw [e2]
  have ha:a=0\/a=1:=by omega
  rcases ha with rfl | rfl<;>exact ⟨_,t2,rfl,ht2,b6H (by omega)⟩
 ·obtain ⟨x,t2,e2,ht2,hx⟩:=c3B hL ht
  have hf:=List.all_eq_true.1 c2m x hx
  simp only [Bool.and_eq_true,decide_eq_true_eq] at hf
  rw [e2]
  exact ⟨_,t2,rfl,ht2,b8U hf.2 (.inr (.inr ⟨rfl,hf.1⟩))⟩
 ·exact tup ht
 ·exact tup ht
 ·obtain ⟨l,t3,e3,ht3,hl,hr⟩:=ix ht 2 0 (by omega) (by omega)
  have e3':y4 t 2 0 (N:Int)=some (l,t3):=e3
  rw [e3']
  refine ⟨_,t3,rfl,ht3,a9a (l:=l) (a8A hr) (show l.length<=4 by omega) ?_ (fun h=>by omega)⟩
  show ((l.length:Int)==2)=true
  simp [hl]
 ·obtain ⟨x,t2,e2,ht2,hg⟩:=b95 hL ht N i (by omega) hN2
  rw [e2]
  exact ⟨x,t2,rfl,ht2,hg⟩
 ·exact fun_ ht
 ·exact fun_ ht
 ·have hlt:=hlast (by omega)
  obtain ⟨l,t3,e3,ht3,hl,hr⟩:=ix ht 1 (i+1) (by omega) hlt
  have e3':y4 t 1 (w64 ((i:Int)+1)) (N:Int)=some (l,t3):=by rw [hwi]; exact e3
  rw [e3']
  refine ⟨_,t3,rfl,ht3,a9a (l:=l) (a8A hr) (show l.length<=4 by omega) ?_ (fun _ x hx=>by have:=hr x hx; omega)⟩
  show ((l.length:Int)==1)=true
  simp [hl]
 ·have hlt:=hlast (by omega)
  obtain ⟨l,t3,e3,ht3,hl,hr⟩:=ix ht 2 (i+1) (by omega) hlt
  have e3':y4 t 2 (w64 ((i:Int)+1)) (N:Int)=some (l,t3):=by rw [hwi]; exact e3
  rw [e3']
  refine ⟨_,t3,rfl,ht3,a9a (l:=l) (a8A hr) (show l.length<=4 by omega) ?_ (fun _ x hx=>by have:=hr x hx; omega)⟩
  show decide (1<=(l.length:Int))=true
  exact decide_eq_true (by omega)
 ·exact uni (hlast (by omega)) ht
 ·exact uni (hlast (by omega)) ht
def GNs (N:Nat)(ns:List Api_TypeNode):Prop:=∀ (i:Nat) (x:Api_TypeNode),ns[i]?=some x->GN N i x
theorem GNs.snoc {N:Nat}{ns:List Api_TypeNode}{x:Api_TypeNode}(h:GNs N ns)(hx:GN N ns.length x):GNs N (ns++[x]):=fun i y hy=>by
 by_cases hi:i<ns.length
 ·rw [List.getElem?_append_left hi] at hy
  exact h i y hy
 ·have hlt:=(List.getElem?_eq_some_iff.1 hy).1
  simp only [List.length_append,List.length_cons,List.length_nil] at hlt
  have e:i=ns.length:=by omega
  subst e
  simp at hy
  subst hy
  exact hx
theorem c2M (hL:L.length<=4194304){s:Semtypebase_Source}(h:OS L s)(N:Nat)(hN:1<=N)(hN2:N<=100):∃ ns t,a04 s (N:Int)=some (Api_Type.mk ns 0,t)/\OS L t/\ns.length=N/\GNs N ns:=by
 unfold a04
 have hmax:max (N:Int) 1=(N:Int):=by omega
 rw [hmax,Int.toNat_natCast]
 obtain ⟨g,s',e,hs',h1,h2⟩:=c5c (γ:=List Api_TypeNode) (L:=L) (step:=W3 (N:Int)) (fun g j s=>(j,s,(g,0))) (fun g s=>(s,(g,0))) (fun j g=>g.length=j/\GNs N g) N
  (fun j g s hj hI hs=>by
    obtain ⟨x,t,e,ht,hx⟩:=c2V hL hs N j hj hN2
    refine ⟨g++[x],t,?_,ht,by simp [hI.1],hI.2.snoc (by rw [hI.1]; exact hx)⟩
    unfold W3
    simp only [a0L,hmax]
    rw [a3L hj,e]
    simp only [cond_true,Option.bind_some]
    rw [a8C (by simp only [List.length_cons,List.length_nil]; have:=hI.1; omega),a2y j (by omega)]
    rfl) (fun g s=>by
    unfold W3
    simp [hmax]) N 0 (N+1) [] s (by omega) (Nat.le_refl _) ⟨rfl,fun i x hx=>by simp at hx⟩ h
 have e':z8 (W3 (N:Int)) (N+1) (0,s,([],0))=some (s',(g,0)):=e
 rw [e']
 exact ⟨g,s',rfl,hs',h1,h2⟩
end
end Go.Pl
end
section
namespace Go.Pl
open Go Go.RowKit Go.Sx Go.Qx
end Go.Pl
end
section
namespace Go.Qx
open Go Go.RowKit Go.Sx
def zig (k:Int):Nat:=if 0<=k then (2*k).toNat else (-2*k-1).toNat
def a15:Nat->Nat->List Int
 | 0,z=>[(z:Int)]
 | f+1,z=>if z<128 then [(z:Int)] else ((z%128+128:Nat):Int)::a15 f (z / 128)
theorem wrU (n:Int):wr .u64 n=n%18446744073709551616:=rfl
theorem c5a (n:Int):wr .u8 n=n%256:=rfl
theorem wrI (n:Int):wr .i64 n=(n+9223372036854775808)%18446744073709551616-9223372036854775808:=by
 unfold wr IntKind.wrap
 simp only [show IntKind.signed .i64=true from rfl,show IntKind.bits .i64=64 from rfl,Bool.true_and,decide_eq_true_eq]
 rw [show ((2:Int)^64)=18446744073709551616 from by decide,show ((2:Int)^(64-1))=9223372036854775808 from by decide]
 split<;>omega
theorem b3B {k:Int}(h : -9223372036854775808<=k/\k<=9223372036854775807):zig k<18446744073709551616:=by
 unfold zig; split<;>omega
theorem c6i {k:Int}(h : -9223372036854775808<=k/\k<=9223372036854775807):∃ a c,b0C .u64 (wr .u64 k) 1=some a/\a2t .i64 k 63=some c/\a6m .u64 a (wr .u64 c)=(zig k:Int):=by
 refine ⟨wr .u64 (wr .u64 k*2),if 0<=k then 0 else -1,?_,?_,?_⟩
 ·unfold b0C
  rw [if_neg (by omega)]
  rfl
 ·unfold a2t
  rw [if_neg (by omega)]
  have e:(2:Int)^(min (63:Int).toNat (IntKind.bits .i64))=9223372036854775808:=by decide
  rw [e]
  congr 1
  rw [Int.fdiv_eq_ediv_of_nonneg _ (by decide)]
  split<;>omega
 ·unfold zig
  split
  ·rename_i hk
   have e:wr .u64 (wr .u64 k*2)=((2*k).toNat:Int):=by rw [wrU,wrU]; omega
   rw [e]
   show IntKind.wrap .u64 (((BitVec.ofInt 64 ((2*k).toNat:Int)) ^^^ BitVec.ofInt 64 (wr .u64 0)).toNat:Int)=_
   have e2:BitVec.ofInt 64 (wr .u64 0)=0#64:=by decide
   rw [e2,BitVec.xor_zero,BitVec.toNat_ofInt]
   show ((_:Nat):Int)%18446744073709551616=_
   omega
  ·rename_i hk
   have e:wr .u64 (wr .u64 k*2)=((2*k+18446744073709551616).toNat:Int):=by rw [wrU,wrU]; omega
   rw [e]
   show IntKind.wrap .u64 (((BitVec.ofInt 64 ((2*k+18446744073709551616).toNat:Int)) ^^^ BitVec.ofInt 64 (wr .u64 (-1))).toNat:Int)=_
   have e2:BitVec.ofInt 64 (wr .u64 (-1))=BitVec.allOnes 64:=by decide
   rw [e2,BitVec.xor_allOnes,BitVec.toNat_not,BitVec.toNat_ofInt]
   show ((_:Nat):Int)%18446744073709551616=_
   omega
theorem c7a (z:Nat):bOr .u8 (wr .u8 (z:Int)) 128=((z%128+128:Nat):Int):=by
 have h:∀ x,x<256->x ||| 128=x%128+128:=by decide +kernel
 show IntKind.wrap .u8 (((BitVec.ofInt 8 (wr .u8 (z:Int))) ||| BitVec.ofInt 8 128).toNat:Int)=_
 have e:BitVec.ofInt 8 (wr .u8 (z:Int))=BitVec.ofNat 8 (z%256):=by
  apply BitVec.eq_of_toNat_eq
  rw [c5a,BitVec.toNat_ofInt,BitVec.toNat_ofNat]
  omega
 have e2:BitVec.ofInt 8 128=BitVec.ofNat 8 128:=by decide
 rw [e,e2,BitVec.toNat_or,BitVec.toNat_ofNat,BitVec.toNat_ofNat]
 rw [show z%256%2^8=z%256 from by omega,show 128%2^8=128 from rfl,h _ (Nat.mod_lt _ (by omega))]
 show ((_:Nat):Int)%256=_
 omega
theorem c7r (z:Nat):a2t .u64 (z:Int) 7=some ((z / 128:Nat):Int):=by
 unfold a2t
 rw [if_neg (by omega)]
 have e:(2:Int)^(min (7:Int).toNat (IntKind.bits .u64))=128:=by decide
 rw [e,Int.fdiv_eq_ediv_of_nonneg _ (by decide)]
 congr 1
theorem c1T {c:Nat}(hc:c<256):b0j .u8 (c:Int) 127=((c%128:Nat):Int):=by
 have h:∀ x,x<256->x &&& 127=x%128:=by decide +kernel
 show IntKind.wrap .u8 (((BitVec.ofInt 8 (c:Int)) &&& BitVec.ofInt 8 127).toNat:Int)=_
 have e:BitVec.ofInt 8 (c:Int)=BitVec.ofNat 8 c:=by
  apply BitVec.eq_of_toNat_eq
  rw [BitVec.toNat_ofInt,BitVec.toNat_ofNat]
  omega
 have e2:BitVec.ofInt 8 127=BitVec.ofNat 8 127:=by decide
 rw [e,e2,BitVec.toNat_and,BitVec.toNat_ofNat,BitVec.toNat_ofNat,show c%2^8=c from by omega,show 127%2^8=127 from rfl,h _ hc]
 show ((_:Nat):Int)%256=_
 omega
theorem b8P {z w s:Nat}(hz:z<2^s)(hs:s<=63)(hw:w*2^s+z<18446744073709551616):∃ a,b0C .u64 (wr .u64 (w:Int)) (s:Int)=some a/\bOr .u64 (z:Int) a=((w*2^s+z:Nat):Int):=by
 have hp:0<2^s:=Nat.two_pow_pos s
 have hw1:w*2^s<18446744073709551616:=by omega
 have hw2:w<18446744073709551616:=Nat.lt_of_le_of_lt (Nat.le_mul_of_pos_right w hp) hw1
 refine ⟨((w*2^s:Nat):Int),?_,?_⟩
 ·unfold b0C
  rw [if_neg (by omega)]
  have e0:IntKind.bits .u64=64:=rfl
  have e:min (s:Int).toNat (IntKind.bits .u64)=s:=by rw [e0]; omega
  rw [e]
  congr 1
  have e1:wr .u64 (w:Int)=(w:Int):=by rw [wrU]; omega
  rw [e1]
  have e2:(w:Int)*2^s=((w*2^s:Nat):Int):=by simp
  rw [e2]
  show ((_:Nat):Int)%18446744073709551616=_
  omega
 ·show IntKind.wrap .u64 (((BitVec.ofInt 64 (z:Int)) ||| BitVec.ofInt 64 ((w*2^s:Nat):Int)).toNat:Int)=_
  rw [BitVec.toNat_or,BitVec.toNat_ofInt,BitVec.toNat_ofInt]
  have e1:((z:Int)%((2^64:Nat):Int)).toNat=z:=by omega
  have e2:((((w*2^s:Nat):Int))%((2^64:Nat):Int)).toNat=w*2^s:=by omega
  rw [e1,e2,Nat.or_comm,<- Nat.shiftLeft_eq,<- Nat.shiftLeft_add_eq_or_of_lt hz,Nat.shiftLeft_eq]
  show ((_:Nat):Int)%18446744073709551616=_
  omega
theorem c6J {k:Int}(h : -9223372036854775808<=k/\k<=9223372036854775807):∃ a,a2t .u64 (zig k:Int) 1=some a/\a6m .i64 (wr .i64 a) (wr .i64 (0-wr .i64 (b0j .u64 (zig k:Int) 1)))=k:=by
 have hz:=b3B h
 refine ⟨((zig k / 2:Nat):Int),?_,?_⟩
 ·unfold a2t
  rw [if_neg (by omega)]
  have e:(2:Int)^(min (1:Int).toNat (IntKind.bits .u64))=2:=by decide
  rw [e,Int.fdiv_eq_ediv_of_nonneg _ (by decide)]
  congr 1
 ·have e1:b0j .u64 (zig k:Int) 1=((zig k%2:Nat):Int):=by
   show IntKind.wrap .u64 (((BitVec.ofInt 64 (zig k:Int)) &&& BitVec.ofInt 64 1).toNat:Int)=_
   have e2:BitVec.ofInt 64 1=BitVec.ofNat 64 1:=by decide
   rw [e2,BitVec.toNat_and,BitVec.toNat_ofInt,BitVec.toNat_ofNat]
   have e3:((zig k:Int)%((2^64:Nat):Int)).toNat=zig k:=by omega
   rw [e3,show 1%2^64=1 from rfl,Nat.and_one_is_mod]
   show ((_:Nat):Int)%18446744073709551616=_
   omega
  rw [e1]
  have hd:wr .i64 ((zig k / 2:Nat):Int)=((zig k / 2:Nat):Int):=by rw [wrI]; omega
  have hm:wr .i64 ((zig k%2:Nat):Int)=((zig k%2:Nat):Int):=by rw [wrI]; omega
  rw [hd,hm]
  by_cases hk:0<=k
  ·have e3:zig k=(2*k).toNat:=by unfold zig; rw [if_pos hk]
   have e4:zig k%2=0:=by omega
   have e5:((zig k / 2:Nat):Int)=k:=by omega
   rw [e4,e5]
   show IntKind.wrap .i64 (((BitVec.ofInt 64 k) ^^^ BitVec.ofInt 64 (wr .i64 (0-((0:Nat):Int)))).toNat:Int)=_
   have e6:BitVec.ofInt 64 (wr .i64 (0-((0:Nat):Int)))=0#64:=by decide
   rw [e6,BitVec.xor_zero,BitVec.toNat_ofInt]
   show wr .i64 _=_
   rw [wrI]
   omega
  ·have e3:zig k=(-2*k-1).toNat:=by unfold zig; rw [if_neg hk]
   have e4:zig k%2=1:=by omega
   have e5:((zig k / 2:Nat):Int) = -k-1:=by omega
   rw [e4,e5]
   show IntKind.wrap .i64 (((BitVec.ofInt 64 (-k-1)) ^^^ BitVec.ofInt 64 (wr .i64 (0-((1:Nat):Int)))).toNat:Int)=_
   have e6:BitVec.ofInt 64 (wr .i64 (0-((1:Nat):Int)))=BitVec.allOnes 64:=by decide
   rw [e6,BitVec.xor_allOnes,BitVec.toNat_not,BitVec.toNat_ofInt]
   show wr .i64 _=_
   rw [wrI]
   omega
end Go.Qx
end
section
namespace Go.Qx
open Go Go.RowKit Go.Sx
def c1n (v:BitVec 32):List Int:=[wr .u8 (nB v),wr .u8 (nB (v >>> 8)),wr .u8 (nB (v >>> 16)),wr .u8 (nB (v >>> 24))]
def a4X (s:ByteArray):BitVec 32:=(~~~ (b2i s.data.toList (BitVec.allOnes 32)))
theorem c4n {n:Int}(h0:0<=n)(h1:n<256):((UInt8.ofNat n.toNat).toNat:Int)=n:=by
 rw [UInt8.toNat_ofNat']
 omega
def a0X (s:ByteArray):ByteArray:=s++a2O (c1n (a4X s))
theorem c4J (s:ByteArray)(a b:Nat):(s.extract a b).data.toList=(s.data.toList.take b).drop a:=by
 rw [ByteArray.data_extract,Array.toList_extract,List.extract_eq_drop_take']
end Go.Qx
end
section
namespace Go.Pl
open Go Go.RowKit Go.Sx Go.Qx
theorem c5U {s:ByteArray}(hs:s.size<=1000000):b3X s=some (nB (a4X s)):=by
 unfold b3X
 rw [Nat.ble_eq_true_of_le hs]
 rfl
theorem b7Q (v:BitVec 32):(a2O (c1n v)).size=4:=rfl
theorem c0y {s:ByteArray}(hs:s.size<=1000000):a3y s=some (a0X s):=by
 have h8:a2t .u32 (nB (a4X s)) 8=some (nB (a4X s >>> 8)):=b4y _ 8 (by omega)
 have h16:a2t .u32 (nB (a4X s)) 16=some (nB (a4X s >>> 16)):=b4y _ 16 (by omega)
 have h24:a2t .u32 (nB (a4X s)) 24=some (nB (a4X s >>> 24)):=b4y _ 24 (by omega)
 have ha:a6M s (a2O (c1n (a4X s)))=some (a0X s):=by
  unfold a6M
  rw [b7Q,if_pos (by omega)]
  rfl
 unfold a3y
 rw [c5U hs]
 simp only [Option.bind_some,h8,h16,h24]
 rw [show a6M s (a2O ([wr .u8 (nB (a4X s)),wr .u8 (nB (a4X s >>> 8)),wr .u8 (nB (a4X s >>> 16)),wr .u8 (nB (a4X s >>> 24))]:List Int))=some (a0X s) from ha]
 rfl
theorem c5e {s:ByteArray}{k:Nat}(hk:k<=s.size):a2v s 0 (k:Int)=some (s.extract 0 k):=by
 unfold a2v
 rw [if_pos ⟨by omega,by omega,by omega⟩]
 rfl
theorem c6p {s:ByteArray}(h:s.size<=1000000):wr .i64 ((s.size:Int)-4)=(s.size:Int)-4:=by
 rw [a0L,K9 (by omega) (by omega)]
theorem b91 (s:ByteArray):(a0X s).size=s.size+4:=by
 unfold a0X
 rw [ByteArray.size_append,b7Q]
end Go.Pl
end

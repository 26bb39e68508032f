/- Part 5. -/
import Derived.Test.YtldcbllenafgjaaGreatDoorK2
import Derived.Test.YtldcbllenafgjaaGreatDoorK3
import Derived.Test.YtldcbllenafgjaaGreatDoorK4
import Derived.BigCall
import Derived.ChangeArms
import Derived.KernelRfl
import Derived.OpenShut
import Derived.Shelf.Lays
import Derived.Shelf.SlLaysF0
import Derived.Shelf.Strings.Builder1
import Derived.Test.YtldcbllenafgjaaGreatDoorProg
import Derived.Test.YtldcbllenafgjaaGreatDoorRows
import Derived.WalkKit
section
namespace Go.Pl
open Go Go.RowKit Go.Sx Go.Qx
section
variable {T:Api_Type}
def spI (T:Api_Type)(e:Api_Goal)(n:Int):Bool:=(e.Pos.all fun i=>!isK T 3 i||inI T i n)&&e.Neg.all fun i=>!isK T 3 i||!inI T i n
def spN (T:Api_Type)(e:Api_Goal)(k:Int)(s:ByteArray):Bool:=(e.Pos.all fun i=>!isK T k i||isT T i s)&&e.Neg.all fun i=>!isK T k i||!isT T i s
def i64 (n:Int):Prop := -9223372036854775808<=n/\n<=9223372036854775807
structure LineZ (T:Api_Type)(e:Api_Goal)(K A:Int)(l:Api_Line):Prop where
 kind:l.Kind=K
 ar:l.Arity=A
 op:b2C T e K A=true
 ints1:K=1->VR l.Ints/\l.Ints≠[]/\(∀ n,i64 n->a0o l.Ints n=spI T e n)/\l.Ints.length<=1024
 ints0:K≠1->l.Ints=[]
 nam1:K=2\/K=3->asc cS l.Names.List_=true/\(l.Names.Cofinite=true\/l.Names.List_≠[])/\(∀ s,a3T l.Names s=spN T e (lkK K) s)/\l.Names.List_.length<=100
 nam0:K≠2->K≠3->l.Names=Api_Names.mk false []
 pos:l.Pos=ofZ T K A (skK K) e.Pos
 neg:l.Neg=ofZ T K A (skK K) e.Neg
 ev:e.Neg.any (isK T (ekK K))=false
def c1C (T:Api_Type)(e:Api_Goal)(K A:Int):Prop :=
 b2C T e K A=false\/e.Neg.any (isK T (ekK K))=true\/(K=1/\∀ n,i64 n->spI T e n=false)\/((K=2\/K=3)/\∀ s,spN T e (lkK K) s=false)
theorem d28 (hT:GT T){i:Int}(h:a0C T i=true):isK T 0 i=false:=by
 obtain ⟨j,_,_,_,_,hk⟩:=a94 hT h
 unfold isK
 rw [beq_eq_false_iff_ne]
 omega
theorem of0 (hT:GT T){l:List Int}(h:l.all (a0C T)=true)(K A:Int):ofZ T K A 0 l=[]:=by
 unfold ofZ
 rw [List.filter_eq_nil_iff]
 intro i hi
 rw [d28 hT (List.all_eq_true.1 h i hi)]
 simp
theorem ev0 (hT:GT T){l:List Int}(h:l.all (a0C T)=true):l.any (isK T 0)=false:=by
 rw [List.any_eq_false]
 intro i hi
 rw [d28 hT (List.all_eq_true.1 h i hi)]
 simp
theorem d34 (hT:GT T){L:Bool}{e:Api_Goal}(he:NG T L e)(K A:Int)(hK:K=1\/K=2\/K=3\/K=4\/K=5\/K=6\/K=7\/K=8\/K=9)(n:Nat)(hn:5000000<=n) :
 ∃ l ok,a9F n T e (Core_Sort.mk K A)=some (l,ok)/\(ok=true->LineZ T e K A l)/\(ok=false->c1C T e K A):=by
 obtain ⟨l1,l2⟩:=he.lens hT
 have hp:=he.pos
 have hq:=he.neg
 unfold a9F
 rw [d3T hT hp (by omega) K A]
 simp only [Option.bind_some]
 cases ho:b2C T e K A with
 | false =>
   exact ⟨_,false,rfl,(fun h=>by cases h),fun _=>.inl ho⟩
 | true =>
   simp only [Bool.not_true,cond_false]
   have hN:=fun k=>c95 hT hp hq l1 l2 k n hn
   have hI:=d3V hT hp hq l1 l2
   have hH:=fun k=>d1K hT hq (by omega:e.Neg.length<=1000) k
   have hP:=fun k=>d29 hT hp (by omega:e.Pos.length<=1000) K A k
   have hQ:=fun k=>d29 hT hq (by omega:e.Neg.length<=1000) K A k
   have p0:=fun K A=>of0 hT hp K A
   have q0:=fun K A=>of0 hT hq K A
   have v0:=ev0 hT hq
   have nam:∀ (K':Int) (m:Api_Names),(∀ s,a3T m s=spN T e (lkK K') s)->(K'=2\/K'=3)->m.Cofinite=false->m.List_.length=0->c1C T e K' A:=fun K' m hm hK' hc hl=>by
    refine .inr (.inr (.inr ⟨hK',fun s=>?_⟩))
    rw [<- hm s]
    unfold a3T inL
    rw [hc,List.eq_nil_of_length_eq_zero hl]
    rfl
   rcases hK with rfl | rfl | rfl | rfl | rfl | rfl | rfl | rfl | rfl<;>simp only [Int.reduceBEq,cond_true,cond_false,Option.bind_some]
   ·obtain ⟨m,m1,m2,m3⟩:=hI
    rw [m1]
    refine ⟨_,_,rfl,fun h=>⟨rfl,rfl,ho,fun _=>⟨m2,?_,fun n hn=>(m3 n hn.1 hn.2).1,(m3 0 (by omega) (by omega)).2⟩,fun h=>absurd rfl h,(fun h=>by omega),fun _ _=>rfl,(p0 1 A).symm,(q0 1 A).symm,v0⟩,fun h=>?_⟩
    ·intro e0
     have h0:decide (0<(m.length:Int))=true:=h
     have e0':m=[]:=e0
     rw [e0'] at h0
     simp at h0
    ·have h0:decide (0<(m.length:Int))=false:=h
     have:m=[]:=List.eq_nil_of_length_eq_zero (by simpa using h0)
     refine .inr (.inr (.inl ⟨rfl,fun n hn=>?_⟩))
     have:=(m3 n hn.1 hn.2).1
     rw [‹m=[]›] at this
     exact this.symm
   ·obtain ⟨m,m1,m2,m3,m4⟩:=hN 4
    rw [m1,hH 5]
    simp only [Option.bind_some]
    cases hv:e.Neg.any (isK T 5) with
    | true=>exact ⟨_,false,rfl,(fun h=>by cases h),fun _=>.inr (.inl hv)⟩
    | false =>
      have fin:∀ l:Api_Line,l=Api_Line.mk 2 A [] (Api_Names.mk m.Cofinite m.List_) [] [] [] []->(m.Cofinite=true\/m.List_≠[])->LineZ T e 2 A l:=fun l hl hne=>by
       subst hl
       exact ⟨rfl,rfl,ho,(fun h=>by omega),fun _=>rfl,fun _=>⟨m2,hne,m3,m4⟩,fun h=>absurd rfl h,(p0 2 A).symm,(q0 2 A).symm,hv⟩
      simp only [Bool.not_false,cond_true]
      cases hc:m.Cofinite with
      | true=>exact ⟨_,true,rfl,fun _=>fin _ (by rw [hc]) (.inl hc),fun h=>by cases h⟩
      | false =>
        refine ⟨_,_,rfl,fun h=>fin _ (by rw [hc]) (.inr fun e0=>?_),fun h=>nam 2 m m3 (.inl rfl) hc ?_⟩
        ·have h0:decide (0<(m.List_.length:Int))=true:=h
         rw [e0] at h0
         simp at h0
        ·have h0:decide (0<(m.List_.length:Int))=false:=h
         rw [decide_eq_false_iff_not] at h0
         omega
   ·obtain ⟨m,m1,m2,m3,m4⟩:=hN 6
    rw [m1,hH 7]
    simp only [Option.bind_some]
    cases hv:e.Neg.any (isK T 7) with
    | true=>exact ⟨_,false,rfl,(fun h=>by cases h),fun _=>.inr (.inl hv)⟩
    | false =>
      have fin:∀ l:Api_Line,l=Api_Line.mk 3 A [] (Api_Names.mk m.Cofinite m.List_) [] [] [] []->(m.Cofinite=true\/m.List_≠[])->LineZ T e 3 A l:=fun l hl hne=>by
       subst hl
       exact ⟨rfl,rfl,ho,(fun h=>by omega),fun _=>rfl,fun _=>⟨m2,hne,m3,m4⟩,fun _ h=>absurd rfl h,(p0 3 A).symm,(q0 3 A).symm,hv⟩
      simp only [Bool.not_false,cond_true]
      cases hc:m.Cofinite with
      | true=>exact ⟨_,true,rfl,fun _=>fin _ (by rw [hc]) (.inl hc),fun h=>by cases h⟩
      | false =>
        refine ⟨_,_,rfl,fun h=>fin _ (by rw [hc]) (.inr fun e0=>?_),fun h=>nam 3 m m3 (.inr rfl) hc ?_⟩
        ·have h0:decide (0<(m.List_.length:Int))=true:=h
         rw [e0] at h0
         simp at h0
        ·have h0:decide (0<(m.List_.length:Int))=false:=h
         rw [decide_eq_false_iff_not] at h0
         omega
   ·rw [hH 8]
    simp only [Option.bind_some,onEnd]
    cases hv:e.Neg.any (isK T 8) with
    | true=>exact ⟨_,false,rfl,(fun h=>by cases h),fun _=>.inr (.inl hv)⟩
    | false=>exact ⟨_,true,rfl,fun _=>⟨rfl,rfl,ho,(fun h=>by omega),fun _=>rfl,(fun h=>by omega),fun _ _=>rfl,(p0 4 A).symm,(q0 4 A).symm,hv⟩,fun h=>by cases h⟩
   ·rw [hH 9]
    simp only [Option.bind_some,onEnd]
    cases hv:e.Neg.any (isK T 9) with
    | true=>exact ⟨_,false,rfl,(fun h=>by cases h),fun _=>.inr (.inl hv)⟩
    | false=>exact ⟨_,true,rfl,fun _=>⟨rfl,rfl,ho,(fun h=>by omega),fun _=>rfl,(fun h=>by omega),fun _ _=>rfl,(p0 5 A).symm,(q0 5 A).symm,hv⟩,fun h=>by cases h⟩
   ·simp only [onEnd]
    rw [hP 10,hQ 10,hH 11]
    simp only [Option.bind_some,Int.reduceBEq,cond_false]
    cases hv:e.Neg.any (isK T 11) with
    | true=>exact ⟨_,false,rfl,(fun h=>by cases h),fun _=>.inr (.inl hv)⟩
    | false=>exact ⟨_,true,rfl,fun _=>⟨rfl,rfl,ho,(fun h=>by omega),fun _=>rfl,(fun h=>by omega),fun _ _=>rfl,rfl,rfl,hv⟩,fun h=>by cases h⟩
   ·simp only [onEnd]
    rw [hP 12,hQ 12]
    simp only [Option.bind_some,Int.reduceBEq,cond_true]
    exact ⟨_,true,rfl,fun _=>⟨rfl,rfl,ho,(fun h=>by omega),fun _=>rfl,(fun h=>by omega),fun _ _=>rfl,rfl,rfl,v0⟩,fun h=>by cases h⟩
   ·simp only [onEnd]
    rw [hP 13,hQ 13]
    simp only [Option.bind_some,Int.reduceBEq,cond_true]
    exact ⟨_,true,rfl,fun _=>⟨rfl,rfl,ho,(fun h=>by omega),fun _=>rfl,(fun h=>by omega),fun _ _=>rfl,rfl,rfl,v0⟩,fun h=>by cases h⟩
   ·simp only [onEnd]
    rw [hP 14,hQ 14,hH 15]
    simp only [Option.bind_some,Int.reduceBEq,cond_false]
    cases hv:e.Neg.any (isK T 15) with
    | true=>exact ⟨_,false,rfl,(fun h=>by cases h),fun _=>.inr (.inl hv)⟩
    | false=>exact ⟨_,true,rfl,fun _=>⟨rfl,rfl,ho,(fun h=>by omega),fun _=>rfl,(fun h=>by omega),fun _ _=>rfl,rfl,rfl,hv⟩,fun h=>by cases h⟩
def a2y:List Core_Sort:=[Core_Sort.mk 1 0,Core_Sort.mk 2 0,Core_Sort.mk 3 0,Core_Sort.mk 4 0,Core_Sort.mk 5 0,Core_Sort.mk 7 0,Core_Sort.mk 8 0,Core_Sort.mk 6 0,Core_Sort.mk 9 0,Core_Sort.mk 6 1,Core_Sort.mk 9 1,Core_Sort.mk 6 2,Core_Sort.mk 9 2,Core_Sort.mk 6 3,Core_Sort.mk 9 3,Core_Sort.mk 6 4,Core_Sort.mk 9 4]
theorem d13:b70=some a2y:=by kernel_rfl
theorem c21 {s:Core_Sort}(h:s∈a2y):(s.Kind=1\/s.Kind=2\/s.Kind=3\/s.Kind=4\/s.Kind=5\/s.Kind=6\/s.Kind=7\/s.Kind=8\/s.Kind=9)/\(s.Kind=6\/s.Kind=9\/s.Arity=0):=by
 unfold a2y at h
 simp only [List.mem_cons,List.not_mem_nil,or_false] at h
 rcases h with rfl | rfl | rfl | rfl | rfl | rfl | rfl | rfl | rfl | rfl | rfl | rfl | rfl | rfl | rfl | rfl | rfl<;>simp
theorem d0P {K A:Int}(h:((K=1\/K=2\/K=3\/K=4\/K=5\/K=7\/K=8)/\A=0)\/((K=6\/K=9)/\0<=A/\A<=4)):Core_Sort.mk K A∈a2y:=by
 rcases h with ⟨h,rfl⟩ | ⟨h,h0,h4⟩
 ·rcases h with rfl | rfl | rfl | rfl | rfl | rfl | rfl<;>simp [a2y]
 ·have hA:A=0\/A=1\/A=2\/A=3\/A=4:=by omega
  rcases h with rfl | rfl<;>rcases hA with rfl | rfl | rfl | rfl | rfl<;>simp [a2y]
def c1Q (l:Api_Line)(a b:List ByteArray):Api_Line:=Api_Line.mk l.Kind l.Arity l.Ints l.Names l.Pos l.Neg a b
def a9p (T:Api_Type)(e:Api_Goal):Bool:=!b7i e.Pos e.Neg&&!b00 (srS (a0b T e.Pos)) (srS (a0b T e.Neg))
def Mk (T:Api_Type)(e:Api_Goal)(l:Api_Line):Prop:=a9p T e=true/\∃ (s:Core_Sort) (l0:Api_Line),s∈a2y/\LineZ T e s.Kind s.Arity l0/\l=c1Q l0 (srS (a0b T e.Pos)) (srS (a0b T e.Neg))
structure LinesZ (T:Api_Type)(out:List Api_Goal)(ls:List Api_Line):Prop where
 len:ls.length<=17*out.length
 src:∀ l∈ls,∃ e∈out,Mk T e l
 all:∀ e∈out,a9p T e=true->∀ s∈a2y,(∃ l∈ls,∃ l0,LineZ T e s.Kind s.Arity l0/\l=c1Q l0 (srS (a0b T e.Pos)) (srS (a0b T e.Neg)))\/c1C T e s.Kind s.Arity
theorem b8d (l:List Int):(srS (a0b T l)).length<=l.length:=by
 refine Nat.le_trans (a71 _) ?_
 unfold a0b
 rw [List.length_map]
 exact List.length_filter_le _ _
theorem d0Y (hT:GT T){L:Bool}{e:Api_Goal}(he:NG T L e)(ha:a9p T e=true)(n:Nat)(hn:5000000<=n)(s0:List Api_Line)(h0:s0.length<=20000000) :
 ∃ ls,iter (a4M T n e (srS (a0b T e.Pos)) (srS (a0b T e.Neg)) a2y) ((a2y.length:Int).toNat+1) (s0,0)=some (s0++ls)/\ls.length<=17/\(∀ l∈ls,Mk T e l) /\
  ∀ s∈a2y,(∃ l∈ls,∃ l0,LineZ T e s.Kind s.Arity l0/\l=c1Q l0 (srS (a0b T e.Pos)) (srS (a0b T e.Neg)))\/c1C T e s.Kind s.Arity:=by
 obtain ⟨l1,l2⟩:=he.lens hT
 have v1:=b8d (T:=T) e.Pos
 have v2:=b8d (T:=T) e.Neg
 have hlen:a2y.length=17:=rfl
 obtain ⟨s,e1,k1,k2,k3⟩:=b0K (σ:=List Api_Line) (step:=a4M T n e (srS (a0b T e.Pos)) (srS (a0b T e.Neg)) a2y) a2y (fun s i=>(s0++s,(i:Int))) (fun i s=>s.length<=i/\(∀ l∈s,Mk T e l) /\
  ∀ q∈a2y.take i,(∃ l∈s,∃ l0,LineZ T e q.Kind q.Arity l0/\l=c1Q l0 (srS (a0b T e.Pos)) (srS (a0b T e.Neg)))\/c1C T e q.Kind q.Arity) (fun s=>s0++s)
  (fun i s q hx ⟨i1,i2,i3⟩=>by
    have hlt:i<a2y.length:=(List.getElem?_eq_some_iff.1 hx).1
    have hq:=List.mem_of_getElem? hx
    obtain ⟨l,ok,o1,o2,o3⟩:=d34 hT he q.Kind q.Arity (c21 hq).1 n hn
    unfold a4M
    simp only
    rw [w9 hlt,j6 hx]
    simp only [cond_true,Option.bind_some]
    have o1':a9F n T e q=some (l,ok):=o1
    rw [o1',a5x i (by omega)]
    simp only [Option.bind_some]
    cases ok with
    | false =>
      refine ⟨s,rfl,by omega,i2,fun q' hq'=>?_⟩
      rw [a1k hx] at hq'
      rcases List.mem_append.1 hq' with hq' | hq'
      ·exact i3 q' hq'
      ·rw [List.mem_singleton] at hq'; subst hq'
       exact .inr (o3 rfl)
    | true =>
      have hl:=o2 rfl
      simp only [cond_true]
      unfold a0v
      rw [Y2 (by omega),Y2 (by omega)]
      simp only [Option.bind_some]
      rw [Y2 (by simp only [List.length_append,List.length_cons,List.length_nil]; omega)]
      refine ⟨s++[c1Q l (srS (a0b T e.Pos)) (srS (a0b T e.Neg))],by rw [<- List.append_assoc]; rfl,by simp only [List.length_append,List.length_cons,List.length_nil]; omega,fun l' hl'=>?_,fun q' hq'=>?_⟩
      ·rcases List.mem_append.1 hl' with hl' | hl'
       ·exact i2 l' hl'
       ·rw [List.mem_singleton] at hl'; subst hl'
        exact ⟨ha,q,l,hq,hl,rfl⟩
      ·rw [a1k hx] at hq'
       rcases List.mem_append.1 hq' with hq' | hq'
       ·rcases i3 q' hq' with ⟨l',a,b⟩ | h
        ·exact .inl ⟨l',by simp [a],b⟩
        ·exact .inr h
       ·rw [List.mem_singleton] at hq'; subst hq'
        exact .inl ⟨_,List.mem_append_right _ (List.mem_singleton.2 rfl),l,hl,rfl⟩) (fun s _=>by
    unfold a4M
    simp) [] ⟨by simp,by simp,by simp⟩ _ (Nat.le_refl _)
 refine ⟨s,?_,by omega,k2,fun q hq=>k3 q (by rw [List.take_length]; exact hq)⟩
 have e1':iter (a4M T n e (srS (a0b T e.Pos)) (srS (a0b T e.Neg)) a2y) (a2y.length+1) (s0++[],0)=_:=e1
 rw [List.append_nil] at e1'
 exact e1'
theorem c9B (hT:GT T){L:Bool}(out:List Api_Goal)(hg:∀ e∈out,NG T L e)(hl:out.length<=1048576)(n:Nat)(hn:5000000<=n) :
 ∃ ls,iter (a6h T n out) ((out.length:Int).toNat+1) ([],0)=some ls/\LinesZ T out ls:=by
 rw [Z5]
 obtain ⟨s,e1,k1,k2,k3⟩:=b0K (σ:=List Api_Line) (step:=a6h T n out) out (fun s i=>(s,(i:Int))) (fun i s=>s.length<=17*i/\(∀ l∈s,∃ e∈out,Mk T e l) /\
  ∀ e∈out.take i,a9p T e=true->∀ q∈a2y,(∃ l∈s,∃ l0,LineZ T e q.Kind q.Arity l0/\l=c1Q l0 (srS (a0b T e.Pos)) (srS (a0b T e.Neg)))\/c1C T e q.Kind q.Arity) (fun s=>s)
  (fun i s e hx ⟨i1,i2,i3⟩=>by
    have hlt:i<out.length:=(List.getElem?_eq_some_iff.1 hx).1
    have hm:=List.mem_of_getElem? hx
    have he:=hg e hm
    obtain ⟨l1,l2⟩:=he.lens hT
    have v1:=b8d (T:=T) e.Pos
    have v2:=b8d (T:=T) e.Neg
    unfold a6h
    simp only
    rw [w9 hlt,j6 hx]
    simp only [cond_true,Option.bind_some]
    rw [c6B e.Pos (by omega) fun i hi=>b0D (List.all_eq_true.1 he.pos i hi),c6B e.Neg (by omega) fun i hi=>b0D (List.all_eq_true.1 he.neg i hi),a5x i (by omega)]
    simp only [Option.bind_some]
    rw [d3S e.Pos e.Neg (by omega) (by omega),c5y _ _ (by omega) (by omega)]
    simp only [Option.bind_some]
    have hb:(bif b7i e.Pos e.Neg then some true else some (b00 (srS (a0b T e.Pos)) (srS (a0b T e.Neg))))=some (!a9p T e):=by
     unfold a9p
     cases b7i e.Pos e.Neg<;>cases b00 (srS (a0b T e.Pos)) (srS (a0b T e.Neg))<;>rfl
    rw [hb]
    simp only [Option.bind_some]
    cases ha:a9p T e with
    | false =>
      refine ⟨s,rfl,by omega,i2,fun e' he' ha'=>?_⟩
      rw [a1k hx] at he'
      rcases List.mem_append.1 he' with he' | he'
      ·exact i3 e' he' ha'
      ·rw [List.mem_singleton] at he'; subst he'
       rw [ha] at ha'; cases ha'
    | true =>
      simp only [Bool.not_true,cond_false]
      rw [d13]
      simp only [Option.bind_some]
      obtain ⟨ls,a1,a2,a3,a4⟩:=d0Y hT he ha n hn s (by omega)
      rw [a1]
      refine ⟨s++ls,rfl,by rw [List.length_append]; omega,fun l hl=>?_,fun e' he' ha' q hq=>?_⟩
      ·rcases List.mem_append.1 hl with hl | hl
       ·exact i2 l hl
       ·exact ⟨e,hm,a3 l hl⟩
      ·rw [a1k hx] at he'
       rcases List.mem_append.1 he' with he' | he'
       ·rcases i3 e' he' ha' q hq with ⟨l',a,b⟩ | h
        ·exact .inl ⟨l',by simp [a],b⟩
        ·exact .inr h
       ·rw [List.mem_singleton] at he'; subst he'
        rcases a4 q hq with ⟨l',a,b⟩ | h
        ·exact .inl ⟨l',by simp [a],b⟩
        ·exact .inr h) (fun s _=>by
    unfold a6h
    simp) [] ⟨by simp,by simp,by simp⟩ _ (Nat.le_refl _)
 exact ⟨s,e1,k1,k2,fun e he=>k3 e (by rw [List.take_length]; exact he)⟩
theorem d2m (hT:GT T)(hN:T.Nodes.length<=8)(hr:inR T.Nodes.length T.Root=true)(g:Api_Goal)(hg:gIn T.Nodes.length g=true)(hl:g.Pos.length+g.Neg.length<=10) :
 ∃ c out,ExpZ T g out/\∀ n,c<=n->∃ ls,a8K n T g=some ls/\LinesZ T out ls:=by
 obtain ⟨c,out,h1,h2⟩:=c4R hT hN g hg hl
 refine ⟨max c 5000000,out,h2,fun n hn=>?_⟩
 obtain ⟨ls,h3,h4⟩:=c9B hT out h2.ng h2.len n (by omega)
 refine ⟨ls,?_,h4⟩
 unfold a8K
 rw [wf0 hT hr n (by omega),b87 g (by omega) (by omega),hg]
 simp only [Option.bind_some,bne_self_eq_false,cond_false,Bool.not_true]
 rw [h1 n (by omega)]
 simp only [Option.bind_some]
 rw [h3]
 rfl
end
end Go.Pl
end
section
namespace Go.Pl
open Go Go.RowKit Go.Sx Go.Qx
section
variable {T:Api_Type}{v:Val}
def c1U (v:Val)(L:Bool):Bool:=!L||(v.Kind==5||v.Kind==7)
def gA (T:Api_Type)(v:Val)(g:Api_Goal):Bool:=gIn T.Nodes.length g&&(c1U v g.Lists&&gM T v g)
theorem c7d (hT:GT T)(ho:vOK v=true)(hb:j8 v<=2097152)(p q:List Int)(hp:p.all (inR T.Nodes.length)=true)(hq:q.all (inR T.Nodes.length)=true)(h1:p.length<=1000000)(h2:q.length<=1000000)(f:Nat)(hf:200000000<=f) :
 a8v f v T p q=some (p.all (Z7 T v)&&q.all fun k=>!Z7 T v k):=by
 unfold a8v
 rw [a6L p _ (fun k=>!Z7 T v k) (by omega) fun k hk=>by
  unfold b1z
  simp only [K4]
  rw [(c8P hT ho hb f hf (List.all_eq_true.1 hp k hk)).1]
  rfl]
 simp only [Option.bind_some]
 rw [a8e]
 cases hp:p.all (Z7 T v)
 ·rfl
 ·simp only [cond_true]
  rw [a6L q _ (fun k=>Z7 T v k) (by omega) fun k hk=>by
   unfold b1P
   simp only [K4]
   exact (c8P hT ho hb f hf (List.all_eq_true.1 hq k hk)).1]
  simp only [Option.bind_some,Bool.true_and]
  congr 1
  rw [<- a8e]
  simp
theorem c2i (hT:GT T)(hr:inR T.Nodes.length T.Root=true)(ho:vOK v=true)(hb:j8 v<=2097152)(g:Api_Goal)(h1:g.Pos.length<=1000000)(h2:g.Neg.length<=1000000)(f:Nat)(hf:200000000<=f) :
 a4W f v T g=some (gA T v g):=by
 unfold a4W gA
 rw [b5P f v (by omega) (by omega),ho,wf0 hT hr f (by omega),b87 g h1 h2]
 simp only [if_true,Option.bind_some,bne_self_eq_false,cond_false]
 cases hg:gIn T.Nodes.length g with
 | false=>rfl
 | true =>
   have hg':=hg
   unfold gIn at hg'
   simp only [Bool.and_eq_true] at hg'
   simp only [Bool.not_true,cond_false]
   rw [c7d hT ho hb g.Pos g.Neg hg'.1 hg'.2 h1 h2 f hf]
   unfold c1U gM
   cases g.Lists with
   | false=>rfl
   | true =>
     simp only [cond_true,Option.bind_some,bne,Bool.not_true,Bool.false_or]
     cases v.Kind==5<;>cases v.Kind==7<;>rfl
theorem c7A (hT:GT T)(hr:inR T.Nodes.length T.Root=true)(ho:vOK v=true)(hb:j8 v<=2097152)(g:Api_Goal)(h1:g.Pos.length<=1000000)(h2:g.Neg.length<=1000000)(f:Nat)(hf:200000000<=f) :
 a1C f v T g=some (gA T v g):=by
 unfold a1C gA
 rw [a90 f v (by omega) (by omega),ho,d6C hT hr f (by omega),c3f g h1 h2]
 simp only [Option.bind_some,beq_self_eq_true,cond_true,K4]
 cases hg:gIn T.Nodes.length g with
 | false=>rfl
 | true =>
   have hg':=hg
   unfold gIn at hg'
   simp only [Bool.and_eq_true] at hg'
   simp only [cond_true,K4]
   unfold a7E
   have l1:=a5D (step:=a30 v T g f) g.Pos (Z7 T v) false (fun i k hk=>by
    have hi:i<g.Pos.length:=(List.getElem?_eq_some_iff.1 hk).1
    unfold a30
    simp only [Z3]
    rw [w9 hi,j6 hk]
    simp only [cond_true,Option.bind_some]
    rw [(c8P hT ho hb f hf (List.all_eq_true.1 hg'.1 k (List.mem_of_getElem? hk))).2,j9 i (by omega)]
    exact a4P _ _) (by
    unfold a30
    simp)
   have l2:=a5D (step:=a35 v T g f) g.Neg (fun k=>!Z7 T v k) false (fun i k hk=>by
    have hi:i<g.Neg.length:=(List.getElem?_eq_some_iff.1 hk).1
    unfold a35
    simp only [Z3]
    rw [w9 hi,j6 hk]
    simp only [cond_true,Option.bind_some]
    rw [(c8P hT ho hb f hf (List.all_eq_true.1 hg'.2 k (List.mem_of_getElem? hk))).2,j9 i (by omega)]
    simp only [Option.bind_some]
    cases Z7 T v k<;>rfl) (by
    unfold a35
    simp)
   simp only [Z5]
   rw [l1]
   unfold gM c1U
   cases hp:g.Pos.all (Z7 T v)
   ·simp [onEnd]
   ·simp only [if_true,Option.bind_some,onEnd]
    rw [l2]
    cases hq:g.Neg.all fun k=>!Z7 T v k
    ·simp [onEnd]
    ·simp only [if_true,Option.bind_some,onEnd,K4]
     cases g.Lists<;>cases v.Kind==5<;>cases v.Kind==7<;>rfl
def b2G (T:Api_Type)(v:Val)(l:Api_Line):Bool :=
 if v.Kind=1 then a0o l.Ints v.Int_ else if v.Kind=2\/v.Kind=3 then a3T l.Names v.Text else if v.Kind=6 then ((v.Kids.length:Int)==l.Arity)&&gM T v (g0 l.Pos l.Neg) else
 if v.Kind=9 then (v.Int_==l.Arity)&&gM T v (g0 l.Pos l.Neg) else if v.Kind=7\/v.Kind=8 then gM T v (g0 l.Pos l.Neg) else true
def c5X (v:Val)(l:Api_Line):Bool:=(l.Vars.all fun s=>inL v.Labels s)&&l.NotVars.all fun s=>!inL v.Labels s
def a6w (T:Api_Type)(v:Val)(l:Api_Line):Bool:=v.Kind==l.Kind&&(c5X v l&&b2G T v l)
theorem c1f (v:Val)(s:ByteArray)(hl:v.Labels.length<=4194304):a2W v s=some (inL v.Labels s):=by
 unfold a2W
 have l1:=a5D (step:=a3h v s) v.Labels (fun y=>!Z6 y s) true (fun i k hk=>by
  have hi:i<v.Labels.length:=(List.getElem?_eq_some_iff.1 hk).1
  unfold a3h
  simp only [Z3]
  rw [w9 hi,j6 hk]
  simp only [cond_true,Option.bind_some]
  rw [j9 i (by omega)]
  cases Z6 k s<;>rfl) (by
  unfold a3h
  simp)
 rw [Z5,l1]
 unfold inL
 rw [<- a8e]
 simp only [Bool.not_not]
 cases v.Labels.any fun y=>Z6 y s<;>rfl
theorem c4I (l:List Api_Range)(n:Int)(hl:l.length<=4194304):a5y l n=some (a0o l n)/\a5X l n=some (a0o l n):=by
 have hx:∀ r:Api_Range,a5n r n=(decide (r.Lo<=n)&&decide (n<=r.Hi)):=fun r=>rfl
 constructor
 ·unfold a5y
  have l1:=a5D (step:=a34 l n) l (fun y=>!a5n y n) true (fun i k hk=>by
   have hi:i<l.length:=(List.getElem?_eq_some_iff.1 hk).1
   unfold a34
   simp only [Z3]
   rw [w9 hi,j6 hk]
   simp only [cond_true,Option.bind_some]
   rw [j9 i (by omega),hx]
   cases decide (k.Lo<=n)<;>cases decide (n<=k.Hi)<;>rfl) (by
   unfold a34
   simp)
  rw [Z5,l1]
  unfold a0o
  rw [<- a8e]
  simp only [Bool.not_not]
  cases l.any fun r=>a5n r n<;>rfl
 ·unfold a5X
  have l1:=a5D (step:=a4G l n) l (fun y=>!a5n y n) true (fun i k hk=>by
   have hi:i<l.length:=(List.getElem?_eq_some_iff.1 hk).1
   unfold a4G
   simp only [Z3]
   rw [w9 hi,j6 hk]
   simp only [cond_true,Option.bind_some]
   rw [j9 i (by omega),hx]
   cases decide (k.Lo<=n)<;>cases decide (n<=k.Hi)<;>rfl) (by
   unfold a4G
   simp)
  rw [Z5,l1]
  unfold a0o
  rw [<- a8e]
  simp only [Bool.not_not]
  cases l.any fun r=>a5n r n<;>rfl
theorem c3c (a:Api_Names)(s:ByteArray)(hl:a.List_.length<=4194304):a5f a s=some (a3T a s)/\a5Z a s=some (a3T a s):=by
 constructor
 ·unfold a5f a8p
  have l1:=a5D (step:=a4B a.List_ s) a.List_ (fun y=>!Z6 y s) true (fun i k hk=>by
   have hi:i<a.List_.length:=(List.getElem?_eq_some_iff.1 hk).1
   unfold a4B
   simp only [Z3]
   rw [w9 hi,j6 hk]
   simp only [cond_true,Option.bind_some]
   rw [j9 i (by omega)]
   cases Z6 k s<;>rfl) (by
   unfold a4B
   simp)
  rw [Z5,l1]
  unfold a3T inL
  rw [<- a8e]
  simp only [Bool.not_not]
  cases a.List_.any fun y=>Z6 y s<;>rfl
 ·unfold a5Z
  rw [b2L a.List_ s hl]
  rfl
theorem c1k (v:Val)(l:Api_Line)(hv:v.Labels.length<=4194304)(h1:l.Vars.length<=4194304)(h2:l.NotVars.length<=4194304) :
 iter (a2C v l) (l.Vars.length+1) 0=some (if (l.Vars.all fun s=>inL v.Labels s)=true then .inl () else .inr false) /\
 iter (a2u v l) (l.NotVars.length+1) 0=some (if (l.NotVars.all fun s=>!inL v.Labels s)=true then .inl () else .inr false) /\
 iter (a5I v l) (l.Vars.length+1) 0=some (if (l.Vars.all fun s=>inL v.Labels s)=true then .inl () else .inr false):=by
 refine ⟨a5D (step:=a2C v l) l.Vars (fun s=>inL v.Labels s) false (fun i k hk=>?_) ?_,a5D (step:=a2u v l) l.NotVars (fun s=>!inL v.Labels s) false (fun i k hk=>?_) ?_,a5D (step:=a5I v l) l.Vars (fun s=>inL v.Labels s) false (fun i k hk=>?_) ?_⟩
 ·have hi:i<l.Vars.length:=(List.getElem?_eq_some_iff.1 hk).1
  unfold a2C
  simp only [Z3]
  rw [w9 hi,j6 hk]
  simp only [cond_true,Option.bind_some]
  rw [c1f v k hv,j9 i (by omega)]
  simp only [Option.bind_some]
  cases inL v.Labels k<;>rfl
 ·unfold a2C
  simp
 ·have hi:i<l.NotVars.length:=(List.getElem?_eq_some_iff.1 hk).1
  unfold a2u
  simp only [Z3]
  rw [w9 hi,j6 hk]
  simp only [cond_true,Option.bind_some]
  rw [c1f v k hv,j9 i (by omega)]
  simp only [Option.bind_some]
  cases inL v.Labels k<;>rfl
 ·unfold a2u
  simp
 ·have hi:i<l.Vars.length:=(List.getElem?_eq_some_iff.1 hk).1
  unfold a5I
  simp only [Z3]
  rw [w9 hi,j6 hk]
  simp only [cond_true,Option.bind_some]
  rw [b2L v.Labels k hv,j9 i (by omega)]
  simp only [Option.bind_some]
  unfold inL
  cases v.Labels.any fun y=>Z6 y k<;>rfl
 ·unfold a5I
  simp
structure ShL (l:Api_Line):Prop where
 ints:l.Ints.length<=1000000
 names:l.Names.List_.length<=1000000
 pos:l.Pos.length<=1000000
 neg:l.Neg.length<=1000000
 vars:l.Vars.length<=1000000
 nots:l.NotVars.length<=1000000
theorem c2G (v:Val):v.Labels.length<=j8 v:=by
 have:=a1a v
 have:=a3W v.Labels
 omega
theorem b50 (ho:vOK v=true):(v.Kind=1\/v.Kind=2\/v.Kind=3\/v.Kind=4\/v.Kind=5\/v.Kind=6\/v.Kind=7\/v.Kind=8\/v.Kind=9)/\(v.Kind=6->v.Kids.length<=4)/\(v.Kind=9->0<=v.Int_/\v.Int_<=4):=by
 rw [b9l] at ho
 simp only [Bool.and_eq_true] at ho
 have h:=ho.1
 unfold a2f at h
 simp only [Bool.and_eq_true] at h
 have hk:=h.2.2
 unfold a4h at hk
 by_cases h1:v.Kind=1
 ·exact ⟨by omega,by omega,by omega⟩
 rw [if_neg h1] at hk
 by_cases h2:v.Kind=2
 ·exact ⟨by omega,by omega,by omega⟩
 rw [if_neg h2] at hk
 by_cases h3:v.Kind=3
 ·exact ⟨by omega,by omega,by omega⟩
 rw [if_neg h3] at hk
 by_cases h4:v.Kind=4
 ·exact ⟨by omega,by omega,by omega⟩
 rw [if_neg h4] at hk
 by_cases h5:v.Kind=5
 ·exact ⟨by omega,by omega,by omega⟩
 rw [if_neg h5] at hk
 by_cases h6:v.Kind=6
 ·rw [if_pos h6] at hk
  exact ⟨by omega,fun _=>by simpa using hk,by omega⟩
 rw [if_neg h6] at hk
 by_cases h7:v.Kind=7
 ·exact ⟨by omega,by omega,by omega⟩
 rw [if_neg h7] at hk
 by_cases h8:v.Kind=8
 ·exact ⟨by omega,by omega,by omega⟩
 rw [if_neg h8] at hk
 by_cases h9:v.Kind=9
 ·rw [if_pos h9] at hk
  unfold b2y at hk
  simp only [Bool.and_eq_true,decide_eq_true_eq] at hk
  exact ⟨by omega,by omega,fun _=>⟨hk.1.1,hk.1.2⟩⟩
 rw [if_neg h9] at hk
 cases hk
theorem c9A (hT:GT T)(hr:inR T.Nodes.length T.Root=true)(ho:vOK v=true)(hb:j8 v<=2097152)(l:Api_Line)(hs:ShL l)(hg:gIn T.Nodes.length (g0 l.Pos l.Neg)=true)(f:Nat)(hf:200000000<=f) :
 a3R f v T l=some (a6w T v l):=by
 obtain ⟨s1,s2,s3,s4,s5,s6⟩:=hs
 have hlab:=c2G v
 obtain ⟨a1,a2,_⟩:=c1k v l (by omega) (by omega) (by omega)
 unfold a3R a6w c5X
 simp only [Z5]
 rw [a1,a2]
 cases hk:v.Kind==l.Kind with
 | false=>simp only [bne,hk,Bool.not_false,cond_true]; rfl
 | true =>
   simp only [bne,hk,Bool.not_true,cond_false,Option.bind_some,Bool.true_and]
   cases l.Vars.all fun s=>inL v.Labels s with
   | false=>simp [onEnd]
   | true =>
     simp only [if_true,onEnd,Option.bind_some,Bool.true_and]
     cases l.NotVars.all fun s=>!inL v.Labels s with
     | false=>simp [onEnd]
     | true =>
       simp only [if_true,onEnd,Bool.true_and,K4]
       have hG:=c7A hT hr ho hb (g0 l.Pos l.Neg) s3 s4 f hf
       unfold gA at hG
       rw [hg] at hG
       have hG':a1C f v T (Api_Goal.mk l.Pos l.Neg false)=some (gM T v (g0 l.Pos l.Neg)):=hG
       rw [hG',(c4I l.Ints v.Int_ (by omega)).1,(c3c l.Names v.Text (by omega)).1]
       unfold b2G
       obtain ⟨hK,_⟩:=b50 ho
       rcases hK with h | h | h | h | h | h | h | h | h<;>simp only [h]<;>simp
       ·cases (v.Kids.length:Int)==l.Arity<;>rfl
       ·cases v.Int_==l.Arity<;>rfl
theorem d0N (hT:GT T)(hr:inR T.Nodes.length T.Root=true)(ho:vOK v=true)(hb:j8 v<=2097152)(l:Api_Line)(hs:ShL l)(f:Nat)(hf:200000000<=f) :
 a3O f v T l=some (gIn T.Nodes.length (g0 l.Pos l.Neg)&&a6w T v l):=by
 obtain ⟨s1,s2,s3,s4,s5,s6⟩:=hs
 have hlab:=c2G v
 obtain ⟨_,_,a3⟩:=c1k v l (by omega) (by omega) (by omega)
 unfold a3O
 have hex:=b87 (T:=T) (g0 l.Pos l.Neg) s3 s4
 have hex':a5U T (Api_Goal.mk l.Pos l.Neg false)=_:=hex
 rw [b5P f v (by omega) (by omega),ho,wf0 hT hr f (by omega),hex']
 simp only [if_true,Option.bind_some,bne_self_eq_false,cond_false]
 cases hg:gIn T.Nodes.length (g0 l.Pos l.Neg) with
 | false=>rfl
 | true =>
   have hg':=hg
   unfold gIn at hg'
   simp only [Bool.and_eq_true] at hg'
   simp only [Bool.not_true,cond_false,Bool.true_and,Z5]
   have hbase:a9C v l=some (v.Kind==l.Kind&&(if v.Kind=1 then a0o l.Ints v.Int_ else if v.Kind=2\/v.Kind=3 then a3T l.Names v.Text else if v.Kind=6 then ((v.Kids.length:Int)==l.Arity) else if v.Kind=9 then (v.Int_==l.Arity) else true)):=by
    unfold a9C
    cases hk:v.Kind==l.Kind with
    | false=>simp only [bne,hk,Bool.not_false,cond_true]; rfl
    | true =>
      have e:l.Kind=v.Kind:=by rw [beq_iff_eq] at hk; exact hk.symm
      simp only [bne,hk,Bool.not_true,cond_false,e,Bool.true_and]
      rw [(c4I l.Ints v.Int_ (by omega)).2,(c3c l.Names v.Text (by omega)).2]
      obtain ⟨hK,_⟩:=b50 ho
      rcases hK with h | h | h | h | h | h | h | h | h<;>simp only [h]<;>simp
   rw [hbase,a3]
   have hmeet:=c5y l.NotVars v.Labels (by omega) (by omega)
   have hms:(!b00 l.NotVars v.Labels)=l.NotVars.all fun s=>!inL v.Labels s:=by
    unfold b00
    have h:=a8e (fun s=>!inL v.Labels s) l.NotVars
    simp only [Bool.not_not] at h
    exact h
   rw [hmeet,c7d hT ho hb l.Pos l.Neg hg'.1 hg'.2 s3 s4 f hf]
   have hgM:(l.Pos.all (Z7 T v)&&l.Neg.all fun k=>!Z7 T v k)=gM T v (g0 l.Pos l.Neg):=rfl
   rw [hgM]
   unfold a6w c5X b2G
   rw [<- hms]
   cases hk:v.Kind==l.Kind with
   | false=>rfl
   | true =>
     have e:l.Kind=v.Kind:=by rw [beq_iff_eq] at hk; exact hk.symm
     simp only [e,Bool.true_and]
     generalize (l.Vars.all fun s=>inL v.Labels s)=A
     generalize b00 l.NotVars v.Labels=B
     generalize gM T v (g0 l.Pos l.Neg)=G
     obtain ⟨hK,_⟩:=b50 ho
     rcases hK with h | h | h | h | h | h | h | h | h<;>simp only [h]<;>simp
     ·cases a0o l.Ints v.Int_<;>cases A<;>cases B<;>rfl
     ·cases a3T l.Names v.Text<;>cases A<;>cases B<;>rfl
     ·cases a3T l.Names v.Text<;>cases A<;>cases B<;>rfl
     ·cases A<;>cases B<;>rfl
     ·cases A<;>cases B<;>rfl
     ·cases (v.Kids.length:Int)==l.Arity<;>cases A<;>cases B<;>cases G<;>rfl
     ·cases A<;>cases B<;>cases G<;>rfl
     ·cases A<;>cases B<;>cases G<;>rfl
     ·cases v.Int_==l.Arity<;>cases A<;>cases B<;>cases G<;>rfl
end
end Go.Pl
end
section
namespace Go.Pl
open Go Go.RowKit Go.Sx Go.Qx
section
variable {T:Api_Type}{v:Val}
theorem d1B (hT:GT T)(ho:vOK v=true)(hb:j8 v<=4194304):Boo T (Z7 T v):=by
 have key:∀ i,inR T.Nodes.length i=true->Z7 T v i=unM (Z7 T) v (ndT T i):=fun i hi=>by
  obtain ⟨j,rfl,_,e,_⟩:=a6n hi
  exact b0N hT e ho hb
 refine ⟨fun i hi hk=>?_,fun i hi hk=>?_,fun i hi hk=>?_,fun i hi hk=>?_,fun i hi hk=>?_⟩<;>rw [key i hi]<;>unfold unM<;>simp [hk]
theorem c4k (hT:GT T)(ho:vOK v=true)(hb:j8 v<=4194304){i:Int}(hi:a0C T i=true):Z7 T v i=unM (Z7 T) v (ndT T i):=by
 obtain ⟨j,rfl,_,e,_⟩:=a6n (b0D hi)
 exact b0N hT e ho hb
theorem b2Y (hT:GT T)(ho:vOK v=true)(hb:j8 v<=4194304){i:Int}(hi:a0C T i=true)(hk:(ndT T i).Kind=19):Z7 T v i=inL v.Labels (ndT T i).Text:=by
 rw [c4k hT ho hb hi]
 unfold unM inL
 simp [hk]
theorem b0E {l:List Int}{s:ByteArray}:s∈srS (a0b T l)↔∃ i∈l,(ndT T i).Kind=19/\(ndT T i).Text=s:=by
 rw [c8g]
 unfold a0b
 simp only [List.mem_map,List.mem_filter,beq_iff_eq]
 constructor
 ·rintro ⟨i,⟨a,b⟩,c⟩; exact ⟨i,a,b,c⟩
 ·rintro ⟨i,a,b,c⟩; exact ⟨i,⟨a,b⟩,c⟩
theorem c9V {p q:List Int}:b7i p q=true↔∃ i,i∈p/\i∈q:=by
 unfold b7i
 simp only [List.any_eq_true,beq_iff_eq]
 constructor
 ·rintro ⟨x,hx,y,hy,rfl⟩; exact ⟨x,hx,hy⟩
 ·rintro ⟨x,hx,hy⟩; exact ⟨x,hx,x,hy,rfl⟩
theorem d1c {p q:List ByteArray}:b00 p q=true↔∃ i,i∈p/\i∈q:=by
 unfold b00
 simp only [List.any_eq_true,b4z]
 constructor
 ·rintro ⟨x,hx,y,hy,rfl⟩; exact ⟨y,hx,hy⟩
 ·rintro ⟨x,hx,hy⟩; exact ⟨x,hx,x,hy,rfl⟩
def IOK (v:Val):Prop:=v.Kind=1->i64 v.Int_
def c1Y (T:Api_Type)(v:Val)(e:Api_Goal):Bool:=c1U v e.Lists&&(e.Pos.all (Z7 T v)&&e.Neg.all fun k=>!Z7 T v k)
theorem b6c (hT:GT T)(ho:vOK v=true)(hb:j8 v<=4194304){i:Int}(hi:a0C T i=true)(hk:(ndT T i).Kind=lkK v.Kind):Z7 T v i=if v.Kind=1 then inI T i v.Int_ else isT T i v.Text:=by
 rw [c4k hT ho hb hi]
 have h0:(ndT T i).Kind≠0:=by
  obtain ⟨j,_,_,_,_,hK⟩:=a94 hT hi
  omega
 unfold lkK at hk
 unfold unM inI isT
 by_cases h1:v.Kind=1
 ·simp [h1] at hk
  simp [h1,hk]
 ·rw [if_neg h1] at hk
  by_cases h2:v.Kind=2
  ·simp [h2] at hk
   simp [h2,hk,c0b]
  ·rw [if_neg h2] at hk
   by_cases h3:v.Kind=3
   ·simp [h3] at hk
    simp [h3,hk,c0b]
   ·rw [if_neg h3] at hk
    exact absurd hk h0
theorem d27 (p q:List Int):gM T v (g0 p q)=true↔(∀ i∈p,Z7 T v i=true)/\∀ i∈q,Z7 T v i=false:=by
 unfold gM
 simp
theorem c86 (hT:GT T)(ho:vOK v=true)(hb:j8 v<=4194304)(hI:IOK v){L:Bool}{e:Api_Goal}(he:NG T L e){l:Api_Line}(hl:Mk T e l)(h:a6w T v l=true):c1Y T v e=true:=by
 obtain ⟨_,s,l0,hs,hZ,rfl⟩:=hl
 have hp:=List.all_eq_true.1 he.pos
 have hq:=List.all_eq_true.1 he.neg
 unfold a6w c5X at h
 simp only [Bool.and_eq_true,List.all_eq_true,beq_iff_eq] at h
 obtain ⟨hk,⟨hv,hn⟩,hbody⟩:=h
 have hk':v.Kind=s.Kind:=by rw [hk]; exact hZ.kind
 obtain ⟨hKs,hAs⟩:=c21 hs
 have hbl:b2G T v l0=true:=hbody
 have hA:s.Arity=arV v:=by
  unfold arV
  unfold b2G at hbl
  by_cases h6:v.Kind=6
  ·rw [if_pos h6]
   simp [h6] at hbl
   rw [<- hZ.ar]; exact hbl.1.symm
  ·rw [if_neg h6]
   by_cases h9:v.Kind=9
   ·rw [if_pos h9]
    simp [h9] at hbl
    rw [<- hZ.ar]; exact hbl.1.symm
   ·rw [if_neg h9]
    omega
 have hop:=hZ.op
 unfold b2C at hop
 simp only [Bool.and_eq_true,List.all_eq_true,Bool.or_eq_true] at hop
 rw [<- hk',hA] at hop
 have hspl:=c7m hT ho hb (p:=e.Pos) (q:=e.Neg) he.pos he.neg
 have hsk:(∀ i∈ofZ T v.Kind (arV v) (skK v.Kind) e.Pos,Z7 T v i=true)/\∀ i∈ofZ T v.Kind (arV v) (skK v.Kind) e.Neg,Z7 T v i=false:=by
  have e1:ofZ T v.Kind (arV v) (skK v.Kind) e.Pos=l0.Pos:=by rw [hZ.pos,<- hk',hA]
  have e2:ofZ T v.Kind (arV v) (skK v.Kind) e.Neg=l0.Neg:=by rw [hZ.neg,<- hk',hA]
  rw [e1,e2,<- d27]
  unfold b2G at hbl
  obtain ⟨hK,_⟩:=b50 ho
  by_cases h6:v.Kind=6
  ·simp [h6] at hbl; exact hbl.2
  by_cases h9:v.Kind=9
  ·simp [h9] at hbl; exact hbl.2
  by_cases h7:v.Kind=7
  ·simp [h7] at hbl; exact hbl
  by_cases h8:v.Kind=8
  ·simp [h8] at hbl; exact hbl
  have h0:skK v.Kind=0:=by unfold skK; rw [if_neg h6,if_neg h7,if_neg h8,if_neg h9]
  rw [<- e1,<- e2,h0,of0 hT he.pos,of0 hT he.neg]
  rfl
 have hlk:(∀ i∈e.Pos,(ndT T i).Kind=lkK v.Kind->Z7 T v i=true)/\∀ i∈e.Neg,(ndT T i).Kind=lkK v.Kind->Z7 T v i=false:=by
  have fin:(if v.Kind=1 then spI T e v.Int_ else if v.Kind=2\/v.Kind=3 then spN T e (lkK v.Kind) v.Text else true)=true:=by
   unfold b2G at hbl
   by_cases h1:v.Kind=1
   ·rw [if_pos h1] at hbl ⊢
    rw [<- (hZ.ints1 (by rw [<- hk']; exact h1)).2.2.1 v.Int_ (hI h1)]
    exact hbl
   ·rw [if_neg h1] at hbl ⊢
    by_cases h2:v.Kind=2\/v.Kind=3
    ·rw [if_pos h2] at hbl ⊢
     have:=(hZ.nam1 (by rw [<- hk']; exact h2)).2.2.1 v.Text
     rw [<- hk'] at this
     rw [<- this]
     exact hbl
    ·rw [if_neg h2]
  have get:∀ i,a0C T i=true->(ndT T i).Kind=lkK v.Kind->v.Kind=1\/v.Kind=2\/v.Kind=3:=fun i hi hk=>by
   have h0:(ndT T i).Kind≠0:=by
    obtain ⟨j,_,_,_,_,hK⟩:=a94 hT hi
    omega
   unfold lkK at hk
   by_cases h1:v.Kind=1
   ·exact .inl h1
   by_cases h2:v.Kind=2
   ·exact .inr (.inl h2)
   by_cases h3:v.Kind=3
   ·exact .inr (.inr h3)
   rw [if_neg h1,if_neg h2,if_neg h3] at hk
   exact absurd hk h0
  constructor
  ·intro i hi hki
   rw [b6c hT ho hb (hp i hi) hki]
   by_cases h1:v.Kind=1
   ·rw [if_pos h1] at fin ⊢
    unfold spI at fin
    simp only [Bool.and_eq_true,List.all_eq_true] at fin
    have:=fin.1 i hi
    unfold isK at this
    unfold lkK at hki
    rw [if_pos h1] at hki
    simpa [hki] using this
   ·rw [if_neg h1] at fin ⊢
    have h23:v.Kind=2\/v.Kind=3:=by have:=get i (hp i hi) hki; omega
    rw [if_pos h23] at fin
    unfold spN at fin
    simp only [Bool.and_eq_true,List.all_eq_true] at fin
    have:=fin.1 i hi
    unfold isK at this
    simpa [hki] using this
  ·intro i hi hki
   rw [b6c hT ho hb (hq i hi) hki]
   by_cases h1:v.Kind=1
   ·rw [if_pos h1] at fin ⊢
    unfold spI at fin
    simp only [Bool.and_eq_true,List.all_eq_true] at fin
    have:=fin.2 i hi
    unfold isK at this
    unfold lkK at hki
    rw [if_pos h1] at hki
    simpa [hki] using this
   ·rw [if_neg h1] at fin ⊢
    have h23:v.Kind=2\/v.Kind=3:=by have:=get i (hq i hi) hki; omega
    rw [if_pos h23] at fin
    unfold spN at fin
    simp only [Bool.and_eq_true,List.all_eq_true] at fin
    have:=fin.2 i hi
    unfold isK at this
    simpa [hki] using this
 have hmem:=hspl.2 ⟨⟨fun i hi hk=>by
  rw [b2Y hT ho hb (hp i hi) hk]
  exact hv _ (b0E.2 ⟨i,hi,hk,rfl⟩),fun i hi hk=>by
  rw [b2Y hT ho hb (hq i hi) hk]
  have:=hn _ (b0E.2 ⟨i,hi,hk,rfl⟩)
  simpa using this⟩,fun i hi=>by
  rcases hop.2 i hi with h | h
  ·unfold isK at h
   exact .inl (by simpa using h)
  ·exact .inr h,hlk,hsk,fun i hi hk=>by
  have:=hZ.ev
  rw [List.any_eq_false] at this
  have:=this i hi
  unfold isK at this
  rw [<- hk'] at this
  simp [hk] at this⟩
 unfold c1Y c1U
 rw [hmem.1,hmem.2]
 have h1:=hop.1
 cases hL:e.Lists with
 | false=>rfl
 | true =>
   rw [hL] at h1
   simp only [bne,Bool.true_and,Bool.not_eq_true',Bool.and_eq_false_iff,Bool.not_eq_false'] at h1
   simp only [Bool.not_true,Bool.false_or,Bool.and_true,Bool.or_eq_true]
   exact h1
theorem c5c (hT:GT T)(ho:vOK v=true)(hb:j8 v<=4194304)(hI:IOK v){L:Bool}{e:Api_Goal}(he:NG T L e)(hm:c1Y T v e=true) :
 a9p T e=true/\Core_Sort.mk v.Kind (arV v)∈a2y/\¬ c1C T e v.Kind (arV v)/\∀ l0,LineZ T e v.Kind (arV v) l0->a6w T v (c1Q l0 (srS (a0b T e.Pos)) (srS (a0b T e.Neg)))=true:=by
 have hp:=List.all_eq_true.1 he.pos
 have hq:=List.all_eq_true.1 he.neg
 unfold c1Y at hm
 simp only [Bool.and_eq_true] at hm
 obtain ⟨hlis,hpos,hneg⟩:=hm
 obtain ⟨⟨v1,v2⟩,op,⟨k1,k2⟩,⟨s1,s2⟩,ev⟩:=(c7m hT ho hb he.pos he.neg).1 ⟨hpos,hneg⟩
 have hP:=List.all_eq_true.1 hpos
 have hQ:∀ i∈e.Neg,Z7 T v i=false:=fun i hi=>by simpa using List.all_eq_true.1 hneg i hi
 obtain ⟨hK,hK6,hK9⟩:=b50 ho
 have hopen:b2C T e v.Kind (arV v)=true:=by
  unfold b2C
  simp only [Bool.and_eq_true,List.all_eq_true,Bool.or_eq_true]
  refine ⟨?_,fun i hi=>?_⟩
  ·unfold c1U at hlis
   simp only [bne]
   revert hlis
   generalize e.Lists=a
   generalize (v.Kind==5)=b
   generalize (v.Kind==7)=c
   revert a b c
   decide
  ·rcases op i hi with h | h
   ·exact .inl (by unfold isK; simp [h])
   ·exact .inr h
 have hspI:v.Kind=1->spI T e v.Int_=true:=fun h1=>by
  unfold spI
  simp only [Bool.and_eq_true,List.all_eq_true,Bool.or_eq_true]
  have hl:lkK v.Kind=3:=by unfold lkK; rw [if_pos h1]
  refine ⟨fun i hi=>?_,fun i hi=>?_⟩
  ·cases hk:isK T 3 i with
   | false=>exact .inl rfl
   | true =>
     have hk3:(ndT T i).Kind=lkK v.Kind:=by rw [hl]; unfold isK at hk; simpa using hk
     have:=k1 i hi hk3
     rw [b6c hT ho hb (hp i hi) hk3,if_pos h1] at this
     exact .inr this
  ·cases hk:isK T 3 i with
   | false=>exact .inl rfl
   | true =>
     have hk3:(ndT T i).Kind=lkK v.Kind:=by rw [hl]; unfold isK at hk; simpa using hk
     have:=k2 i hi hk3
     rw [b6c hT ho hb (hq i hi) hk3,if_pos h1] at this
     exact .inr (by rw [this]; rfl)
 have hspN:v.Kind=2\/v.Kind=3->spN T e (lkK v.Kind) v.Text=true:=fun h23=>by
  have h1:¬ v.Kind=1:=by omega
  unfold spN
  simp only [Bool.and_eq_true,List.all_eq_true,Bool.or_eq_true]
  refine ⟨fun i hi=>?_,fun i hi=>?_⟩
  ·cases hk:isK T (lkK v.Kind) i with
   | false=>exact .inl rfl
   | true =>
     have hk3:(ndT T i).Kind=lkK v.Kind:=by unfold isK at hk; simpa using hk
     have:=k1 i hi hk3
     rw [b6c hT ho hb (hp i hi) hk3,if_neg h1] at this
     exact .inr this
  ·cases hk:isK T (lkK v.Kind) i with
   | false=>exact .inl rfl
   | true =>
     have hk3:(ndT T i).Kind=lkK v.Kind:=by unfold isK at hk; simpa using hk
     have:=k2 i hi hk3
     rw [b6c hT ho hb (hq i hi) hk3,if_neg h1] at this
     exact .inr (by rw [this]; rfl)
 have hev:e.Neg.any (isK T (ekK v.Kind))=false:=by
  rw [List.any_eq_false]
  intro i hi
  unfold isK
  simp [ev i hi]
 refine ⟨?_,?_,?_,fun l0 hZ=>?_⟩
 ·unfold a9p
  rw [Bool.and_eq_true]
  constructor
  ·cases h:b7i e.Pos e.Neg with
   | false=>rfl
   | true =>
     obtain ⟨i,h1,h2⟩:=c9V.1 h
     have:=hQ i h2
     rw [hP i h1] at this
     cases this
  ·cases h:b00 (srS (a0b T e.Pos)) (srS (a0b T e.Neg)) with
   | false=>rfl
   | true =>
     obtain ⟨s,h1,h2⟩:=d1c.1 h
     obtain ⟨i,a1,a2,a3⟩:=b0E.1 h1
     obtain ⟨j,b1,b2,b3⟩:=b0E.1 h2
     have c1:=v1 i a1 a2
     have c2:=v2 j b1 b2
     rw [b2Y hT ho hb (hp i a1) a2,a3] at c1
     rw [b2Y hT ho hb (hq j b1) b2,b3,c1] at c2
     cases c2
 ·refine d0P ?_
  unfold arV
  by_cases h6:v.Kind=6
  ·rw [if_pos h6]; have:=hK6 h6; omega
  ·rw [if_neg h6]
   by_cases h9:v.Kind=9
   ·rw [if_pos h9]; have:=hK9 h9; omega
   ·rw [if_neg h9]; omega
 ·rintro (h | h | ⟨h1,h⟩ | ⟨h1,h⟩)
  ·rw [hopen] at h; cases h
  ·rw [hev] at h; cases h
  ·have:=hspI h1
   rw [h v.Int_ (hI h1)] at this
   cases this
  ·have:=hspN h1
   rw [h v.Text] at this
   cases this
 ·unfold a6w c5X
  simp only [Bool.and_eq_true,List.all_eq_true,beq_iff_eq]
  refine ⟨hZ.kind.symm,⟨fun s hs=>?_,fun s hs=>?_⟩,?_⟩
  ·obtain ⟨i,a1,a2,a3⟩:=b0E.1 hs
   have c1:=v1 i a1 a2
   rw [b2Y hT ho hb (hp i a1) a2,a3] at c1
   exact c1
  ·obtain ⟨j,b1,b2,b3⟩:=b0E.1 hs
   have c2:=v2 j b1 b2
   rw [b2Y hT ho hb (hq j b1) b2,b3] at c2
   rw [c2]; rfl
  ·have hgm:gM T v (g0 l0.Pos l0.Neg)=true:=by
    rw [d27,hZ.pos,hZ.neg]
    exact ⟨s1,s2⟩
   show b2G T v l0=true
   unfold b2G
   by_cases h1:v.Kind=1
   ·rw [if_pos h1,(hZ.ints1 h1).2.2.1 v.Int_ (hI h1)]
    exact hspI h1
   rw [if_neg h1]
   by_cases h23:v.Kind=2\/v.Kind=3
   ·rw [if_pos h23,(hZ.nam1 h23).2.2.1 v.Text]
    exact hspN h23
   rw [if_neg h23,hZ.ar,hgm]
   unfold arV
   by_cases h6:v.Kind=6
   ·simp [h6]
   by_cases h9:v.Kind=9
   ·simp [h9]
   simp [h6,h9]
theorem d2w (hT:GT T)(ho:vOK v=true)(hb:j8 v<=4194304)(hI:IOK v){g:Api_Goal}(hg:gIn T.Nodes.length g=true){out:List Api_Goal}(hE:ExpZ T g out){ls:List Api_Line}(hL:LinesZ T out ls):ls.any (a6w T v)=gA T v g:=by
 have hmem:=hE.mem _ (d1B hT ho hb)
 rw [Bool.eq_iff_iff,List.any_eq_true]
 unfold gA
 rw [hg,Bool.true_and,Bool.and_eq_true]
 constructor
 ·rintro ⟨l,hl,h⟩
  obtain ⟨e,he,hM⟩:=hL.src l hl
  have hN:=hE.ng e he
  have h2:=c86 hT ho hb hI hN hM h
  unfold c1Y at h2
  rw [Bool.and_eq_true,hN.lists] at h2
  refine ⟨h2.1,?_⟩
  unfold gM
  rw [<- hmem,List.any_eq_true]
  exact ⟨e,he,h2.2⟩
 ·rintro ⟨h1,h2⟩
  unfold gM at h2
  rw [<- hmem,List.any_eq_true] at h2
  obtain ⟨e,he,h3⟩:=h2
  have hN:=hE.ng e he
  have hm:c1Y T v e=true:=by
   unfold c1Y
   rw [hN.lists,h1,Bool.true_and]
   exact h3
  obtain ⟨c1,c2,c3,c4⟩:=c5c hT ho hb hI hN hm
  rcases hL.all e he c1 _ c2 with ⟨l,hl,l0,hZ,rfl⟩ | h
  ·exact ⟨_,hl,c4 l0 hZ⟩
  ·exact absurd h c3
end
end Go.Pl
end
section
namespace Go.Pl
open Go Go.RowKit Go.Sx Go.Qx
def Pst {α:Type}(o:Option α)(Q:α->Prop):Prop:=∀ r,o=some r->Q r
theorem Pst.bind {α β:Type}{o:Option α}{f:α->Option β}{P:α->Prop}{Q:β->Prop}(h1:Pst o P)(h2:∀ x,P x->Pst (f x) Q):Pst (Option.bind o f) Q:=fun r h=>by
 cases o with
 | none=>cases h
 | some x=>exact h2 x (h1 x rfl) r h
theorem Pst.any {α:Type}{o:Option α}:Pst o fun _=>True:=fun _ _=>trivial
theorem Pst.cond {α:Type}{b:Bool}{x y:Option α}{Q:α->Prop}(h1:Pst x Q)(h2:Pst y Q):Pst (bif b then x else y) Q:=by cases b; exact h2; exact h1
theorem Pst.ret {α:Type}{x:α}{Q:α->Prop}(h:Q x):Pst (some x) Q:=fun r e=>by rw [<- Option.some.inj e]; exact h
theorem Pst.none {α:Type}{Q:α->Prop}:Pst (none:Option α) Q:=fun r e=>by cases e
theorem Pst.onEnd {α β γ:Type}{f:α->Option γ}{g:β->Option γ}{s:Sum α β}{Q:γ->Prop}(h1:∀ x,s=.inl x->Pst (f x) Q)(h2:∀ y,s=.inr y->Pst (g y) Q):Pst (onEnd f g s) Q:=by
 cases s with
 | inl x=>exact h1 x rfl
 | inr y=>exact h2 y rfl
theorem Pst.iter {St β:Type}{step:St->Option (Fl St β)}{J:St->Prop}{Q:β->Prop}(hs:∀ s,J s->Pst (step s) fun r=>match r with | .next s'=>J s' | .done b=>Q b):∀ (k:Nat) (s:St),J s->Pst (iter step k s) Q
 | 0,_,_=>fun r h=>by cases h
 | k+1,s,hJ=>by
   intro r h
   simp only [Go.Sx.iter] at h
   cases hst:step s with
   | none=>rw [hst] at h; cases h
   | some x =>
     have:=hs s hJ x hst
     rw [hst] at h
     cases x with
     | next s'=>exact Pst.iter hs k s' this r h
     | done b=>simp only [Option.bind_some] at h; rw [<- Option.some.inj h]; exact this
abbrev V1 (r:Val×Semtypebase_Source):Prop:=IOK r.1
theorem a2r {v:Val}(h:v.Kind≠1):IOK v:=fun e=>absurd e h
theorem c1N {v w:Val}(h1:w.Kind=v.Kind)(h2:w.Int_=v.Int_)(h:IOK v):IOK w:=fun e=>by rw [h2]; exact h (by rw [<- h1]; exact e)
theorem c7L (s:Semtypebase_Source):Pst (a0u s) fun r=>i64 r.1:=by
 unfold a0u
 refine Pst.bind Pst.any fun r _=>Pst.bind (P:=fun _=>True) Pst.any fun x _=>Pst.bind (P:=i64) (fun y hy=>?_) fun y hy=>Pst.ret hy
 have hm:=List.mem_of_getElem? hy
 simp only [List.mem_cons,List.not_mem_nil,or_false] at hm
 unfold i64
 omega
theorem b1y (s:Semtypebase_Source):Pst (Q9 s) V1:=by
 unfold Q9
 refine Pst.bind Pst.any fun r _=>Pst.cond ?_ (Pst.cond ?_ (Pst.cond ?_ (Pst.cond ?_ (Pst.cond ?_ ?_))))
 ·exact Pst.bind (c7L _) fun x hx=>Pst.bind (P:=fun v=>v.Int_=x.1) (fun v hv=>by unfold a17 at hv; rw [<- Option.some.inj hv]; rfl) fun v hv=>Pst.ret fun _=>by rw [hv]; exact hx
 ·exact Pst.bind Pst.any fun x _=>Pst.bind (P:=fun v=>v.Kind≠1) (fun v hv=>by unfold a3s at hv; rw [<- Option.some.inj hv]; exact (by decide:(3:Int)≠1)) fun v hv=>Pst.ret (a2r hv)
 ·exact Pst.bind Pst.any fun x _=>Pst.bind (P:=fun v=>v.Kind≠1) (fun v hv=>by unfold a2D at hv; rw [<- Option.some.inj hv]; exact (by decide:(2:Int)≠1)) fun v hv=>Pst.ret (a2r hv)
 ·exact Pst.bind Pst.any fun x _=>Pst.bind (P:=fun v=>v.Kind≠1) (fun v hv=>by unfold a5F at hv; rw [<- Option.some.inj hv]; exact (by decide:(4:Int)≠1)) fun v hv=>Pst.ret (a2r hv)
 ·exact Pst.bind (P:=fun v=>v.Kind≠1) (fun v hv=>by unfold W2 at hv; rw [<- Option.some.inj hv]; exact (by decide:(5:Int)≠1)) fun v hv=>Pst.ret (a2r hv)
 ·refine Pst.bind (P:=fun v=>v.Kind≠1) ?_ fun v hv=>Pst.ret (a2r hv)
  unfold a12
  exact Pst.bind Pst.any fun x _=>Pst.ret (by decide:(6:Int)≠1)
theorem c5u (ks:List Key)(l:List Val):Pst (a1p ks l) fun r=>r.1.Kind≠1:=by
 unfold a1p
 refine Pst.cond (Pst.ret (by decide)) ?_
 refine Pst.bind (P:=fun b=>match b with | .inl x=>x.1=0 | .inr y=>y.2.1=0) (Pst.iter (J:=fun x=>x.2.1=0) (fun s hJ=>?_) _ _ rfl) fun b hb=>Pst.onEnd (fun x hx=>?_) (fun y hy=>Pst.ret ?_)
 ·unfold a1F
  exact Pst.cond (Pst.bind Pst.any fun _ _=>Pst.bind Pst.any fun _ _=>Pst.cond (Pst.ret rfl) (Pst.ret hJ)) (Pst.ret hJ)
 ·subst hx
  refine Pst.bind (P:=fun b=>match b with | .inl x=>x.2.1=8 | .inr y=>y.2.1.1=0) (Pst.iter (J:=fun x=>x.2.1.1=0/\x.2.2.1=8) (fun s hJ=>?_) _ _ ⟨hb,rfl⟩) fun b hb=>Pst.onEnd (fun x hx=>Pst.ret ?_) (fun y hy=>Pst.ret ?_)
  ·unfold a0Y
   refine Pst.cond (Pst.bind Pst.any fun _ _=>Pst.bind Pst.any fun _ _=>Pst.cond (Pst.ret rfl) ?_) (Pst.ret hJ.2)
   exact Pst.bind Pst.any fun _ _=>Pst.bind Pst.any fun _ _=>Pst.bind Pst.any fun _ _=>Pst.bind Pst.any fun _ _=>Pst.bind Pst.any fun _ _=>Pst.bind Pst.any fun _ _=>Pst.bind Pst.any fun _ _=>Pst.bind Pst.any fun _ _=>Pst.bind Pst.any fun _ _=>Pst.bind Pst.any fun _ _=>Pst.bind Pst.any fun _ _=>Pst.bind Pst.any fun _ _=>Pst.ret hJ
  ·subst hx
   show x.2.1≠1
   have hb':x.2.1=8:=hb
   omega
  ·subst hy
   show y.2.1.1≠1
   have hb':y.2.1.1=0:=hb
   omega
 ·subst hy
  show y.2.1≠1
  have hb':y.2.1=0:=hb
  omega
theorem b8q (n:Nat)(a:Int)(l:List Ent):Pst (a08 n a l) fun r=>r.1.Kind≠1:=by
 unfold a08
 refine Pst.bind Pst.any fun _ _=>Pst.cond (Pst.ret (by decide)) ?_
 refine Pst.bind (P:=fun b=>match b with | .inl x=>True | .inr y=>y.2.1=0) (Pst.iter (J:=fun x=>x.2.1=0) (fun s hJ=>?_) _ _ rfl) fun b hb=>Pst.onEnd (fun x hx=>?_) (fun y hy=>Pst.ret ?_)
 ·unfold a0j
  exact Pst.cond (Pst.bind Pst.any fun _ _=>Pst.bind Pst.any fun _ _=>Pst.bind Pst.any fun _ _=>Pst.cond (Pst.ret rfl) (Pst.ret hJ)) (Pst.ret trivial)
 ·exact Pst.bind Pst.any fun _ _=>Pst.ret (by decide:(9:Int)≠1)
 ·subst hy
  show y.2.1≠1
  have hb':y.2.1=0:=hb
  omega
theorem c9x:∀ (n:Nat) (s:Semtypebase_Source) (h:Int),Pst ((y9 n).2.1 s h) V1
 | 0,_,_=>Pst.none
 | n+1,s,h=>by
   show Pst (W6 n (y9 n).1 (y9 n).2.1 (y9 n).2.2 s h) V1
   unfold W6
   refine Pst.cond (Pst.bind (b1y _) fun r hr=>Pst.ret hr) (Pst.bind Pst.any fun r _=>?_)
   refine Pst.bind (P:=fun b=>match b with | .inl _=>True | .inr y=>y.2.1≠1) ?_ fun b hb=>Pst.onEnd (fun x hx=>Pst.bind (b1y _) fun r hr=>Pst.ret hr) (fun y hy=>Pst.ret ?_)
   ·refine Pst.cond ?_ (Pst.cond ?_ (Pst.cond ?_ (Pst.cond ?_ (Pst.ret trivial))))
    ·refine Pst.bind Pst.any fun _ _=>Pst.bind Pst.any fun _ _=>Pst.bind (P:=fun v=>v.Kind≠1) ?_ fun v hv=>Pst.ret hv
     unfold a12
     exact Pst.bind Pst.any fun x _=>Pst.ret (by decide:(6:Int)≠1)
    ·refine Pst.bind Pst.any fun _ _=>Pst.bind Pst.any fun _ _=>Pst.bind Pst.any fun _ _=>Pst.bind Pst.any fun _ _=>Pst.bind Pst.any fun _ _=>Pst.bind (P:=fun v=>v.Kind≠1) ?_ fun v hv=>Pst.ret hv
     unfold a42
     exact Pst.ret (by decide:(7:Int)≠1)
    ·exact Pst.bind Pst.any fun _ _=>Pst.bind Pst.any fun _ _=>Pst.bind (c5u _ _) fun v hv=>Pst.cond (Pst.ret hv) (Pst.ret trivial)
    ·exact Pst.bind Pst.any fun _ _=>Pst.bind Pst.any fun _ _=>Pst.bind Pst.any fun _ _=>Pst.bind (b8q _ _ _) fun v hv=>Pst.cond (Pst.ret hv) (Pst.ret trivial)
   ·subst hy
    exact a2r hb
theorem c8U (n:Nat)(s:Semtypebase_Source)(h:Int):Pst (a1D n s h) V1:=by
 cases n with
 | zero=>exact Pst.none
 | succ n =>
   show Pst (a1d n (y9 n).1 (y9 n).2.1 (y9 n).2.2 s h) V1
   unfold a1d
   exact Pst.bind (c9x n s h) fun r hr=>Pst.bind Pst.any fun l _=>Pst.ret (c1N rfl rfl hr)
theorem d0R (t:Api_Type)(x:Api_TypeNode)(k:Nat)(v:Val)(hv:IOK v):Pst (iter (J8 t x) k (0,v)) IOK:=by
 refine Pst.iter (J:=fun s=>IOK s.2) (fun s hJ=>?_) k (0,v) hv
 unfold J8
 refine Pst.cond (Pst.bind (P:=IOK) ?_ fun w hw=>Pst.ret hw) (Pst.ret hJ)
 refine Pst.bind Pst.any fun _ _=>Pst.bind Pst.any fun _ _=>Pst.cond ?_ (Pst.ret hJ)
 exact Pst.bind Pst.any fun _ _=>Pst.bind Pst.any fun _ _=>Pst.bind Pst.any fun _ _=>Pst.bind Pst.any fun _ _=>Pst.bind Pst.any fun _ _=>Pst.ret (c1N rfl rfl hJ)
theorem c4p {t:Api_Type}(hT:GT t):∀ n:Nat,(∀ s k h,Pst ((z7 n).1 s t k h) V1)/\(∀ s k h,Pst ((z7 n).2.1 s t k h) V1) /\
 (∀ s x h,Pst ((z7 n).2.2.1 s t x h) V1)/\∀ s x h,Pst ((z7 n).2.2.2 s t x h) V1
 | 0=>⟨fun _ _ _=>Pst.none,fun _ _ _=>Pst.none,fun _ _ _=>Pst.none,fun _ _ _=>Pst.none⟩
 | n+1=>by
   obtain ⟨i1,i2,i3,i4⟩:=c4p hT n
   refine ⟨fun s k h=>?_,fun s k h=>?_,fun s x h=>?_,fun s x h=>?_⟩
   ·show Pst (a1q n (z7 n).1 (z7 n).2.1 (z7 n).2.2.1 (z7 n).2.2.2 s t k h) V1
    unfold a1q
    exact Pst.bind (i2 s k h) fun r hr=>Pst.bind Pst.any fun _ _=>Pst.cond (Pst.bind (b1y _) fun q hq=>Pst.ret hq) (Pst.ret hr)
   ·show Pst (X5 n (z7 n).1 (z7 n).2.1 (z7 n).2.2.1 (z7 n).2.2.2 s t k h) V1
    unfold X5
    refine Pst.bind Pst.any fun _ _=>Pst.bind Pst.any fun _ _=>Pst.cond (Pst.bind (b1y _) fun r hr=>Pst.ret hr) ?_
    refine Pst.bind (P:=fun x=>x∈t.Nodes) (fun x hx=>?_) fun x hx=>?_
    ·unfold idx at hx
     split at hx
     ·exact List.mem_of_getElem? hx
     ·cases hx
    have st:∀ (w:ByteArray) (s:Semtypebase_Source),Pst (Option.bind (a2D w) fun r=>some (r,s)) V1:=fun w s=>Pst.ret (a2r (by decide:(2:Int)≠1))
    have at_:∀ (w:ByteArray) (s:Semtypebase_Source),Pst (Option.bind (a3s w) fun r=>some (r,s)) V1:=fun w s=>Pst.ret (a2r (by decide:(3:Int)≠1))
    have pd:∀ (w:Int) (s:Semtypebase_Source),Pst (Option.bind (a5F w) fun r=>some (r,s)) V1:=fun w s=>Pst.ret (a2r (by decide:(4:Int)≠1))
    have nl:∀ (s:Semtypebase_Source),Pst (Option.bind (W2) fun r=>some (r,s)) V1:=fun s=>Pst.ret (a2r (by decide:(5:Int)≠1))
    refine Pst.cond ?_ (Pst.cond (st _ _) (Pst.cond (Pst.bind Pst.any fun _ _=>st _ _) (Pst.cond (at_ _ _) (Pst.cond (Pst.bind Pst.any fun _ _=>at_ _ _) (Pst.cond (Pst.bind Pst.any fun _ _=>pd _ _) (Pst.cond (nl _) ?_))))))
    ·obtain ⟨j,hj,rfl⟩:=List.getElem_of_mem hx
     have hg:=(hT.nodes j _ (List.getElem?_eq_getElem hj)).rng
     refine Pst.bind Pst.any fun d5 _=>Pst.bind Pst.any fun d6 _=>Pst.bind Pst.any fun r _=>Pst.bind (P:=fun _=>True) Pst.any fun _ _=>Pst.bind (P:=i64) (fun y hy=>?_) fun y hy=>Pst.ret fun _=>hy
     have hm:=List.mem_of_getElem? hy
     simp only [List.mem_cons,List.not_mem_nil,or_false] at hm
     rcases hm with rfl | rfl | rfl
     ·exact ⟨hg.1,hg.2.1⟩
     ·exact ⟨hg.2.2.1,hg.2.2.2⟩
     ·generalize t.Nodes[j].Lo+wr .i64 (d5-d6)=z
      unfold i64 wr
      rw [IntKind.wrap_i64]
      omega
    ·refine Pst.bind Pst.any fun _ _=>Pst.cond ?_ (Pst.cond ?_ (Pst.cond ?_ (Pst.cond ?_ (Pst.cond ?_ (Pst.cond ?_ ?_)))))
     ·refine Pst.bind Pst.any fun b _=>Pst.bind (P:=fun y=>y.1≠1) ?_ fun y hy=>Pst.ret (a2r hy)
      exact Pst.cond (Pst.bind Pst.any fun _ _=>Pst.bind Pst.any fun _ _=>Pst.cond (Pst.bind Pst.any fun _ _=>Pst.bind Pst.any fun _ _=>Pst.bind Pst.any fun _ _=>Pst.ret (by decide:(7:Int)≠1)) (Pst.ret (by decide:(7:Int)≠1))) (Pst.ret (by decide:(6:Int)≠1))
     ·exact Pst.bind (i4 _ _ _) fun r hr=>Pst.ret hr
     ·exact Pst.bind (i3 _ _ _) fun r hr=>Pst.ret hr
     ·exact Pst.bind Pst.any fun _ _=>Pst.bind Pst.any fun _ _=>Pst.bind (i2 _ _ _) fun r hr=>Pst.ret hr
     ·exact Pst.bind Pst.any fun _ _=>Pst.bind Pst.any fun _ _=>Pst.bind (i2 _ _ _) fun r hr=>Pst.bind (d0R t x _ _ hr) fun w hw=>Pst.ret hw
     ·refine Pst.bind (b1y _) fun r hr=>Pst.bind (P:=IOK) ?_ fun w hw=>Pst.ret hw
      unfold a3L
      exact Pst.bind Pst.any fun _ _=>Pst.ret (c1N rfl rfl hr)
     ·exact Pst.bind (c8U n _ _) fun r hr=>Pst.ret hr
   ·show Pst (X9 n (z7 n).1 (z7 n).2.1 (z7 n).2.2.1 (z7 n).2.2.2 s t x h) V1
    unfold X9
    exact Pst.bind Pst.any fun _ _=>Pst.bind Pst.any fun _ _=>Pst.bind (b8q _ _ _) fun r hr=>Pst.cond (Pst.ret (a2r (by decide:(5:Int)≠1))) (Pst.ret (a2r hr))
   ·show Pst (a0J n (z7 n).1 (z7 n).2.1 (z7 n).2.2.1 (z7 n).2.2.2 s t x h) V1
    unfold a0J
    exact Pst.bind Pst.any fun _ _=>Pst.bind Pst.any fun _ _=>Pst.bind Pst.any fun _ _=>Pst.bind (c5u _ _) fun r hr=>Pst.cond (Pst.ret (a2r (by decide:(5:Int)≠1))) (Pst.ret (a2r hr))
end Go.Pl
end
section
namespace Go.Pl
open Go Go.RowKit Go.Sx Go.Qx
theorem c5V (l:List (List Int))(hl:l.length<=1000):a5Y l=some (l.all fun x=>!decide (80<(x.length:Int))):=by
 have l1:=X2 (step:=a2T l) l (fun x=>!decide (80<(x.length:Int))) (fun i=>(i:Int)) () false (fun i x hx=>by
  have hi:i<l.length:=(List.getElem?_eq_some_iff.1 hx).1
  unfold a2T
  rw [w9 hi,j6 hx]
  simp only [cond_true,Option.bind_some,Z3]
  rw [j9 i (by omega)]
  cases decide (80<(x.length:Int))<;>rfl) (by
  unfold a2T
  simp)
 have l1':iter (a2T l) (l.length+1) 0=_:=l1
 unfold a5Y
 rw [Z5,l1']
 cases l.all fun x=>!decide (80<(x.length:Int))<;>rfl
structure DT (T:Api_Type):Prop where
 gt:GT T
 one:1<=T.Nodes.length
 len:T.Nodes.length<=7
 root:inR T.Nodes.length T.Root=true
structure DV (v:Val):Prop where
 ok:vOK v=true
 bulk:j8 v<=1638300
 int:IOK v
theorem os0 (L:List Int):OS L (Semtypebase_Source.mk L 0):=⟨rfl,by show (0:Int)<=0; omega,by show (0:Int)<=_; omega⟩
theorem d2x (l:List Int)(hl:l.length<=4194304):∃ T,DT T/\∀ m:List Int,m.length<=4194304->∀ n,10000000<=n->∃ v,a56 n l m=some (T,v)/\DV v:=by
 obtain ⟨x,t1,e1,h1,x0,x1⟩:=Q7 hl (os0 l) (n:=7) (by omega) (by omega)
 obtain ⟨x,rfl⟩:=b3i x0
 obtain ⟨ns,t2,e2,h2,hlen,hns⟩:=d1V hl h1 (x+1) (by omega) (by omega)
 have hgt:GT (Api_Type.mk ns 0):=⟨by show ns.length<=10; omega,by show GNs ns.length ns; rw [hlen]; exact hns⟩
 have hDT:DT (Api_Type.mk ns 0):=⟨hgt,by show 1<=ns.length; omega,by show ns.length<=7; omega,b92 (show (0:Int)<=0 by omega) (by show (0:Int)<(ns.length:Int); omega)⟩
 refine ⟨_,hDT,fun m hm n hn=>?_⟩
 obtain ⟨k,t3,e3,h3,k0,k1⟩:=Q7 hm (os0 m) (n:=(ns.length:Int)) (by omega) (by omega)
 obtain ⟨k,rfl⟩:=b3i k0
 obtain ⟨v,u,e4,_,hv,hb⟩:=d36 hm hgt n hn 4 (Nat.le_refl 4) k t3 (by show k<ns.length; omega) h3
 have hI:IOK v:=(c4p hgt n).1 t3 (k:Int) ((4:Nat):Int) (v,u) e4
 refine ⟨v,?_,hv,hb,hI⟩
 unfold a56
 rw [e1]
 simp only [Option.bind_some]
 rw [show wr .i64 (1+(x:Int))=((x+1:Nat):Int) by rw [Z3,J7 (by omega) (by omega)]; omega]
 rw [show a1W t1 ((x+1:Nat):Int)=some (Api_Type.mk ns 0,t2) from e2]
 simp only [Option.bind_some]
 rw [e3]
 simp only [Option.bind_some]
 have e4':a3n n t3 (Api_Type.mk ns 0) (k:Int) 4=some (v,u):=e4
 rw [e4']
 rfl
section
variable {L:List Int}{T:Api_Type}
end
end Go.Pl
end
section
namespace Go.Pl
open Go Go.RowKit Go.Sx Go.Qx
theorem c10 {σ τ:Type}{step:σ×Int->Option (Fl (σ×Int) τ)}(n:Nat)(hst:∀ (j:Nat) (s:σ),j<n->∃ s',step (s,(j:Int))=some (.next (s',((j+1:Nat):Int))))(hend:∀ s,∃ r,step (s,(n:Int))=some (.done r))(s:σ):∃ r,iter step (n+1) (s,0)=some r:=by
 have key:∀ (m a k:Nat) (s:σ),a+m=n->m+1<=k->∃ r,iter step k (s,(a:Int))=some r:=by
  intro m
  induction m with
  | zero =>
    intro a k s h1 h2
    obtain ⟨k,rfl⟩:∃ m,k=m+1:=⟨k-1,by omega⟩
    have e:a=n:=by omega
    subst e
    obtain ⟨r,hr⟩:=hend s
    exact ⟨r,by simp only [iter,hr,Option.bind_some]⟩
  | succ m ih =>
    intro a k s h1 h2
    obtain ⟨k,rfl⟩:∃ m,k=m+1:=⟨k-1,by omega⟩
    obtain ⟨s',hs⟩:=hst a s (by omega)
    simp only [iter,hs,Option.bind_some]
    exact ih (a+1) k s' (by omega) (by omega)
 exact key n 0 (n+1) s (by omega) (Nat.le_refl _)
theorem c3j:∀ (k:Nat) (v:Val),2*j8 v<=k->j8 v<=4194304->∃ n,a0A k v=some n
 | 0,v,h,_=>by have:=a7W v; omega
 | k+1,v,h,hb=>by
   have hbe:=a1a v
   have hvl:=a1S v.Kids
   have hel:=a2Q v.Entries
   have hrec:∀ x,j8 x<j8 v->∃ n,a0A k x=some n:=fun x hx=>c3j k x (by omega) (by omega)
   show ∃ n,a7g k (a0A k) v=some n
   unfold a7g
   simp only [Z5]
   obtain ⟨r1,e1⟩:=c10 (step:=a4E v (a0A k)) v.Kids.length (fun j s hj=>by
    have ex:=List.getElem?_eq_getElem hj
    have hm:=a0D (List.getElem_mem hj)
    obtain ⟨n,en⟩:=hrec _ (show j8 v.Kids[j]<j8 v by omega)
    unfold a4E
    simp only [Z3]
    rw [w9 hj,j6 ex]
    simp only [cond_true,Option.bind_some]
    rw [en,j9 j (by omega)]
    exact ⟨_,rfl⟩) (fun s=>by
    unfold a4E
    simp) (1:Int)
   rw [e1]
   simp only [Option.bind_some]
   obtain ⟨r2,e2⟩:=c10 (step:=a4H v (a0A k)) v.Entries.length (fun j s hj=>by
    have ex:=List.getElem?_eq_getElem hj
    have hm:=X4 (List.getElem_mem hj)
    generalize v.Entries[j]=e at ex hm
    have hbe2:=a1m e
    have hal:=a1S e.Args
    obtain ⟨r3,e3⟩:=c10 (step:=a4r (a0A k) e) e.Args.length (fun i s hi=>by
     have ey:=List.getElem?_eq_getElem hi
     have hmy:=a0D (List.getElem_mem hi)
     obtain ⟨n,en⟩:=hrec _ (show j8 e.Args[i]<j8 v by omega)
     unfold a4r
     simp only [Z3]
     rw [w9 hi,j6 ey]
     simp only [cond_true,Option.bind_some]
     rw [en,j9 i (by omega)]
     exact ⟨_,rfl⟩) (fun s=>by
     unfold a4r
     simp) s
    obtain ⟨n,en⟩:=hrec e.Result (by omega)
    unfold a4H
    simp only [Z3,Z5]
    rw [w9 hj,j6 ex]
    simp only [cond_true,Option.bind_some]
    rw [e3,en,j9 j (by omega)]
    simp only [Option.bind_some]
    cases e.Fails<;>exact ⟨_,rfl⟩) (fun s=>by
    unfold a4H
    simp) r1
   exact ⟨r2,by rw [e2]; rfl⟩
end Go.Pl
end
section
namespace Go.Pl
open Go Go.RowKit Go.Sx Go.Qx
def d5j:List Api_TypeNode:=[b3W 16 [1,2],Api_TypeNode.mk 3 0 9 (⟨#[]⟩:ByteArray) ([]:List Int) ([]:List Api_Field) (0,0),b3W 9 []]
def b44:Api_Type:=Api_Type.mk d5j 0
theorem b3N:GT b44:=by
 refine ⟨by decide,fun i x hx=>?_⟩
 match i,hx with
 | 0,hx =>
   cases hx
   exact b1c (l:=[1,2]) (by decide) (by decide) (by decide) (fun _ x hx=>by
    simp only [List.mem_cons,List.not_mem_nil,or_false] at hx
    rcases hx with rfl | rfl<;>decide)
 | 1,hx =>
   cases hx
   exact d0O (by decide) (by decide)
 | 2,hx =>
   cases hx
   exact b9M (by decide)
 | i+3,hx=>simp [b44,d5j] at hx
theorem d3C (n:Int):Z7 b44 (Val.mk 1 n (⟨#[]⟩:ByteArray) [] [] [] []) 0=(decide (0<=n)&&decide (n<=9)):=by
 have ho:=c3U n
 have hb:j8 (Val.mk 1 n (⟨#[]⟩:ByteArray) [] [] [] [])<=4194304:=by rw [V2]; simp [a2Y,k8,v7,Z0]
 have e0:=b0N b3N (k:=0) (x:=b3W 16 [1,2]) rfl ho hb
 have e1:=b0N b3N (k:=1) (x:=Api_TypeNode.mk 3 0 9 (⟨#[]⟩:ByteArray) ([]:List Int) ([]:List Api_Field) (0,0)) rfl ho hb
 have e2:=b0N b3N (k:=2) (x:=b3W 9 []) rfl ho hb
 have e0':Z7 b44 (Val.mk 1 n (⟨#[]⟩:ByteArray) [] [] [] []) 0=_:=e0
 have e1':Z7 b44 (Val.mk 1 n (⟨#[]⟩:ByteArray) [] [] [] []) 1=_:=e1
 have e2':Z7 b44 (Val.mk 1 n (⟨#[]⟩:ByteArray) [] [] [] []) 2=_:=e2
 rw [e0']
 unfold unM
 simp [b3W,e1',e2']
 unfold unM
 simp [Val.Kind,Val.Int_]
 rfl
theorem c74 (n:Int)(h:i64 n):vOK (Val.mk 1 n (⟨#[]⟩:ByteArray) [] [] [] [])=true/\j8 (Val.mk 1 n (⟨#[]⟩:ByteArray) [] [] [] [])<=100/\IOK (Val.mk 1 n (⟨#[]⟩:ByteArray) [] [] [] []) :=
 ⟨c3U n,by rw [V2]; simp [a2Y,k8,v7,Z0],fun _=>h⟩
theorem c9U (n:Int):gA b44 (Val.mk 1 n (⟨#[]⟩:ByteArray) [] [] [] []) (g0 [0] [])=(decide (0<=n)&&decide (n<=9)):=by
 unfold gA c1U gM
 simp [d3C]
 intro _ _
 decide
theorem d0L:∃ c,∀ n,c<=n->a4l n=some true:=by
 have hr:inR b44.Nodes.length b44.Root=true:=by decide
 obtain ⟨c,out,hE,hL⟩:=d2m b3N (by decide) hr (g0 [0] []) (by decide) (by decide)
 refine ⟨max c 200000000,fun n hn=>?_⟩
 obtain ⟨ls,e1,hZ⟩:=hL n (by omega)
 obtain ⟨a1,a2,a3⟩:=c74 3 ⟨by decide,by decide⟩
 obtain ⟨b1,b2,b3⟩:=c74 10 ⟨by decide,by decide⟩
 have hc:=d2w b3N a1 (by omega) a3 (by decide) hE hZ
 rw [c9U] at hc
 have hc':ls.any (a6w b44 (Val.mk 1 3 (⟨#[]⟩:ByteArray) [] [] [] []))=true:=hc
 have hpos:decide (0<(ls.length:Int))=true:=by
  cases ls with
  | nil=>cases hc'
  | cons x r=>simp
 have g3:=c2i b3N hr a1 (by omega) (g0 [0] []) (by decide) (by decide) n (by omega)
 have g10:=c2i b3N hr b1 (by omega) (g0 [0] []) (by decide) (by decide) n (by omega)
 rw [c9U] at g3 g10
 have hN:a9U (Api_Goal.mk ([2,1,2]:List Int) ([]:List Int) false)=some (Api_Goal.mk (srt [2,1,2]) (srt []) false):=by
  unfold a9U
  rw [c0h [2,1,2] [] false (by decide) (by decide)]
  rfl
 unfold a4l
 have e1':a8K n (Api_Type.mk ([Api_TypeNode.mk 16 0 0 (⟨#[]⟩:ByteArray) ([1,2]:List Int) ([]:List Api_Field) (0,0),Api_TypeNode.mk 3 0 9 (⟨#[]⟩:ByteArray) ([]:List Int) ([]:List Api_Field) (0,0),Api_TypeNode.mk 9 0 0 (⟨#[]⟩:ByteArray) ([]:List Int) ([]:List Api_Field) (0,0)]:List Api_TypeNode) 0) (Api_Goal.mk ([0]:List Int) ([]:List Int) false)=some ls:=e1
 rw [e1']
 simp only [Option.bind_some]
 rw [hpos]
 have v3:a17 3=some (Val.mk 1 3 (⟨#[]⟩:ByteArray) [] [] [] []):=rfl
 have v10:a17 10=some (Val.mk 1 10 (⟨#[]⟩:ByteArray) [] [] [] []):=rfl
 rw [v3,v10]
 simp only [cond_true,Option.bind_some,K4]
 have g3':a4W n (Val.mk 1 3 (⟨#[]⟩:ByteArray) [] [] [] []) (Api_Type.mk ([Api_TypeNode.mk 16 0 0 (⟨#[]⟩:ByteArray) ([1,2]:List Int) ([]:List Api_Field) (0,0),Api_TypeNode.mk 3 0 9 (⟨#[]⟩:ByteArray) ([]:List Int) ([]:List Api_Field) (0,0),Api_TypeNode.mk 9 0 0 (⟨#[]⟩:ByteArray) ([]:List Int) ([]:List Api_Field) (0,0)]:List Api_TypeNode) 0) (Api_Goal.mk ([0]:List Int) ([]:List Int) false)=some true:=g3
 have g10':a4W n (Val.mk 1 10 (⟨#[]⟩:ByteArray) [] [] [] []) (Api_Type.mk ([Api_TypeNode.mk 16 0 0 (⟨#[]⟩:ByteArray) ([1,2]:List Int) ([]:List Api_Field) (0,0),Api_TypeNode.mk 3 0 9 (⟨#[]⟩:ByteArray) ([]:List Int) ([]:List Api_Field) (0,0),Api_TypeNode.mk 9 0 0 (⟨#[]⟩:ByteArray) ([]:List Int) ([]:List Api_Field) (0,0)]:List Api_TypeNode) 0) (Api_Goal.mk ([0]:List Int) ([]:List Int) false)=some false:=g10
 rw [g3',g10',hN]
 rfl
end Go.Pl
end
section
namespace Go.Pl
open Go Go.RowKit Go.Sx Go.Qx
theorem c1H (d t:List Int)(x:Api_Line)(raw:Val)(h1:d.length<=4194304)(h2:t.length<=4194304)(h3:j8 raw<=1048576):∃ n,a0H n d t x raw=some true:=by
 obtain ⟨c,hc⟩:=d0L
 refine ⟨max c 200000000,?_⟩
 have ha:=hc (max c 200000000) (by omega)
 generalize hn:max c 200000000=n at ha
 have hn2:200000000<=n:=by omega
 unfold a0H
 rw [c5V _ (by simp),ha]
 simp only [Option.bind_some]
 generalize (List.all [d,t] fun x=>!decide (80<(x.length:Int)))=s
 cases s with
 | false=>rfl
 | true =>
   simp only [Bool.not_true,cond_false,Option.bind_some]
   by_cases q1:8<(x.Pos.length:Int)
   ·rw [decide_eq_true q1]; rfl
   by_cases q2:8<(x.Neg.length:Int)
   ·rw [decide_eq_false q1,decide_eq_true q2]; rfl
   by_cases q3:20<(x.Ints.length:Int)
   ·rw [decide_eq_false q1,decide_eq_false q2,decide_eq_true q3]; rfl
   by_cases q4:20<(x.Names.List_.length:Int)
   ·rw [decide_eq_false q1,decide_eq_false q2,decide_eq_false q3,decide_eq_true q4]; rfl
   by_cases q5:8<(x.Vars.length:Int)
   ·rw [decide_eq_false q1,decide_eq_false q2,decide_eq_false q3,decide_eq_false q4,decide_eq_true q5]; rfl
   by_cases q6:8<(x.NotVars.length:Int)
   ·rw [decide_eq_false q1,decide_eq_false q2,decide_eq_false q3,decide_eq_false q4,decide_eq_false q5,decide_eq_true q6]; rfl
   rw [decide_eq_false q1,decide_eq_false q2,decide_eq_false q3,decide_eq_false q4,decide_eq_false q5,decide_eq_false q6]
   simp only [cond_false,Option.bind_some]
   obtain ⟨k,hk⟩:=c3j n raw (by omega) (by omega)
   rw [hk]
   simp only [Option.bind_some]
   by_cases q7:40<k
   ·rw [decide_eq_true q7]; rfl
   rw [decide_eq_false q7]
   simp only [cond_false,Option.bind_some]
   obtain ⟨T,hT,hv⟩:=d2x d h1
   obtain ⟨v,e1,hV⟩:=hv t h2 n (by omega)
   have hb:=hV.bulk
   rw [e1]
   simp only [Option.bind_some]
   have hS:ShL (Api_Line.mk v.Kind x.Arity x.Ints x.Names x.Pos x.Neg x.Vars x.NotVars):=⟨by show x.Ints.length<=1000000; omega,by show x.Names.List_.length<=1000000; omega,by show x.Pos.length<=1000000; omega,by show x.Neg.length<=1000000; omega,by show x.Vars.length<=1000000; omega,by show x.NotVars.length<=1000000; omega⟩
   have hix:=c3f (T:=T) (g0 x.Pos x.Neg) (by show x.Pos.length<=1000000; omega) (by show x.Neg.length<=1000000; omega)
   have hix':a2d T (Api_Goal.mk x.Pos x.Neg false)=_:=hix
   rw [hix',d0N hT.gt hT.root hV.ok (by omega) _ hS n hn2,a90 n raw (by omega) (by omega)]
   simp only [Option.bind_some]
   have hraw:vOK raw=false->a3O n raw T (Api_Line.mk v.Kind x.Arity x.Ints x.Names x.Pos x.Neg x.Vars x.NotVars)=some false:=fun h=>by
    unfold a3O
    rw [b5P n raw (by omega) (by omega),h]
    rfl
   have fin:(Option.bind (bif vOK raw then some true else (Option.bind (a3O n raw T (Api_Line.mk v.Kind x.Arity x.Ints x.Names x.Pos x.Neg x.Vars x.NotVars)) fun r17=>some (!r17))) fun q18=>some q18)=some true:=by
    cases h:vOK raw with
    | true=>rfl
    | false=>rw [hraw h]; rfl
   have mid:(bif gIn T.Nodes.length (g0 x.Pos x.Neg) then (Option.bind (a3R n v T (Api_Line.mk v.Kind x.Arity x.Ints x.Names x.Pos x.Neg x.Vars x.NotVars)) fun r14=>some r14) else some false)=some (gIn T.Nodes.length (g0 x.Pos x.Neg)&&a6w T v (Api_Line.mk v.Kind x.Arity x.Ints x.Names x.Pos x.Neg x.Vars x.NotVars)):=by
    cases hg:gIn T.Nodes.length (g0 x.Pos x.Neg) with
    | false=>rfl
    | true =>
      rw [c9A hT.gt hT.root hV.ok (by omega) _ hS hg n hn2]
      rfl
   rw [mid]
   simp only [Option.bind_some,beq_self_eq_true,cond_true]
   rw [fin]
   rfl
theorem b9F (d t:List Int)(x:Api_Line)(raw:Val)(h3:j8 raw<=1048576):∃ n,a0H n d t x raw=some true:=by
 by_cases h:d.length<=80/\t.length<=80
 ·exact c1H d t x raw (by have:=h.1; omega) (by have:=h.2; omega) h3
 ·obtain ⟨c,hc⟩:=d0L
  refine ⟨c,?_⟩
  have ha:=hc c (Nat.le_refl _)
  have hs:(List.all [d,t] fun x:List Int=>!decide (80<(x.length:Int)))=false:=by
   rw [Bool.eq_false_iff]
   intro ha
   simp at ha
   omega
  unfold a0H
  rw [c5V _ (by simp),hs]
  simp only [Option.bind_some,Bool.not_false,cond_true,K4]
  exact ha
end Go.Pl
end
section
namespace Go.Proofs
open Go.Shelf
set_option maxRecDepth 100000
def Tryz.lay231_ren:Go.Shelf.Ren:=⟨fun | 6=>231 | 15=>140 | 14=>248 | 28=>194 | 29=>195 | 20=>262 | 21=>263 | 22=>264 | 23=>265 | 24=>266 | 25=>267 | 26=>268 | 27=>269 | 46=>272 | 47=>226 | 48=>227 | 49=>273 | 50=>274 | 57=>275 | n=>n,fun | 22=>49 | 24=>126 | 25=>237 | 3=>3 | 39=>165 | 0=>0 | 53=>204 | 55=>206 | 4=>4 | 46=>196 | 45=>195 | 50=>201 | 5=>5 | 9=>9 | 66=>230 | 70=>234 | 76=>245 | 77=>246 | n=>n,fun | n=>n⟩
theorem Tryz.lay231:Go.Proofs.SlLaysF0.n6 Tryz.prog Tryz.lay231_ren:={
 mixed:=by kernel_rfl
 f6:=⟨Tryz.f231.name,by decide,Tryz.func231.trans (congrArg some (by kernel_rfl))⟩
 f14:=⟨Tryz.f248.name,by decide,Tryz.func248.trans (congrArg some (by kernel_rfl))⟩
 f15:=Tryz.func140.trans (congrArg some (by kernel_rfl))
 f20:=⟨Tryz.f262.name,by decide,Tryz.func262.trans (congrArg some (by kernel_rfl))⟩
 f21:=⟨Tryz.f263.name,by decide,Tryz.func263.trans (congrArg some (by kernel_rfl))⟩
 f22:=⟨Tryz.f264.name,by decide,Tryz.func264.trans (congrArg some (by kernel_rfl))⟩
 f23:=⟨Tryz.f265.name,by decide,Tryz.func265.trans (congrArg some (by kernel_rfl))⟩
 f24:=⟨Tryz.f266.name,by decide,Tryz.func266.trans (congrArg some (by kernel_rfl))⟩
 f25:=⟨Tryz.f267.name,by decide,Tryz.func267.trans (congrArg some (by kernel_rfl))⟩
 f26:=⟨Tryz.f268.name,by decide,Tryz.func268.trans (congrArg some (by kernel_rfl))⟩
 f27:=⟨Tryz.f269.name,by decide,Tryz.func269.trans (congrArg some (by kernel_rfl))⟩
 f28:=Tryz.func194.trans (congrArg some (by kernel_rfl))
 f29:=Tryz.func195.trans (congrArg some (by kernel_rfl))
 f46:=⟨Tryz.f272.name,by decide,Tryz.func272.trans (congrArg some (by kernel_rfl))⟩
 f47:=Tryz.func226.trans (congrArg some (by kernel_rfl))
 f48:=Tryz.func227.trans (congrArg some (by kernel_rfl))
 f49:=⟨Tryz.f273.name,by decide,Tryz.func273.trans (congrArg some (by kernel_rfl))⟩
 f50:=⟨Tryz.f274.name,by decide,Tryz.func274.trans (congrArg some (by kernel_rfl))⟩
 f57:=⟨Tryz.f275.name,by decide,Tryz.func275.trans (congrArg some (by kernel_rfl))⟩
 t0:=Tryz.underlying0
 a0:=Tryz.isAgg0
 z0:=Tryz.sizeOf0
 v0:=Tryz.zeroValue0
 t3:=Tryz.underlying3
 a3:=Tryz.isAgg3
 z3:=Tryz.sizeOf3
 v3:=Tryz.zeroValue3
 t4:=Tryz.underlying4
 a4:=Tryz.isAgg4
 z4:=Tryz.sizeOf4
 v4:=Tryz.zeroValue4
 t5:=Tryz.underlying5
 a5:=Tryz.isAgg5
 z5:=Tryz.sizeOf5
 v5:=Tryz.zeroValue5
 t9:=Tryz.underlying9
 a9:=Tryz.isAgg9
 z9:=Tryz.sizeOf9
 v9:=Tryz.zeroValue9
 t22:=Tryz.underlying49
 a22:=Tryz.isAgg49
 z22:=Tryz.sizeOf49
 v22:=Tryz.zeroValue49
 t25:=Tryz.underlying237
 a25:=Tryz.isAgg237
 z25:=Tryz.sizeOf237
 v25:=Tryz.zeroValue237
 t39:=Tryz.underlying165
 a39:=Tryz.isAgg165
 z39:=Tryz.sizeOf165
 v39:=Tryz.zeroValue165
 t45:=Tryz.underlying195
 a45:=Tryz.isAgg195
 z45:=Tryz.sizeOf195
 v45:=Tryz.zeroValue195
 t46:=Tryz.underlying196
 a46:=Tryz.isAgg196
 z46:=Tryz.sizeOf196
 v46:=Tryz.zeroValue196
 t50:=Tryz.underlying201
 a50:=Tryz.isAgg201
 z50:=Tryz.sizeOf201
 v50:=Tryz.zeroValue201
 t53:=Tryz.underlying204
 a53:=Tryz.isAgg204
 z53:=Tryz.sizeOf204
 v53:=Tryz.zeroValue204
 t55:=Tryz.underlying206
 a55:=Tryz.isAgg206
 z55:=Tryz.sizeOf206
 v55:=Tryz.zeroValue206
 t66:=Tryz.underlying230
 a66:=Tryz.isAgg230
 z66:=Tryz.sizeOf230
 v66:=Tryz.zeroValue230
 t70:=Tryz.underlying234
 a70:=Tryz.isAgg234
 z70:=Tryz.sizeOf234
 v70:=Tryz.zeroValue234
 t76:=Tryz.underlying245
 a76:=Tryz.isAgg245
 z76:=Tryz.sizeOf245
 v76:=Tryz.zeroValue245
 t77:=Tryz.underlying246
 a77:=Tryz.isAgg246
 z77:=Tryz.sizeOf246
 v77:=Tryz.zeroValue246 }
def Tryz.lay137_ren:Go.Shelf.Ren:=⟨fun | 171=>137 | 243=>184 | 246=>224 | 283=>243 | 284=>244 | 285=>245 | 286=>246 | 129=>195 | 317=>258 | 318=>259 | 319=>260 | 320=>261 | 337=>270 | 338=>271 | n=>n,fun | 3=>3 | 9=>9 | 2=>2 | 4=>4 | 171=>241 | 0=>0 | 53=>206 | 37=>154 | 5=>5 | 173=>243 | 212=>256 | 51=>204 | 20=>20 | 213=>257 | 46=>165 | 232=>265 | 233=>266 | n=>n,fun | 17=>1 | 18=>2 | 19=>3 | n=>n⟩
theorem Tryz.lay137:Go.Proofs.Lays.n171 Tryz.prog Tryz.lay137_ren:={
 mixed:=by kernel_rfl
 f129:=Tryz.func195.trans (congrArg some (by kernel_rfl))
 f171:=Tryz.func137.trans (congrArg some (by kernel_rfl))
 f243:=Tryz.func184.trans (congrArg some (by kernel_rfl))
 f246:=Tryz.func224.trans (congrArg some (by kernel_rfl))
 f283:=Tryz.func243.trans (congrArg some (by kernel_rfl))
 f284:=Tryz.func244.trans (congrArg some (by kernel_rfl))
 f285:=Tryz.func245.trans (congrArg some (by kernel_rfl))
 f286:=Tryz.func246.trans (congrArg some (by kernel_rfl))
 f317:=Tryz.func258.trans (congrArg some (by kernel_rfl))
 f318:=Tryz.func259.trans (congrArg some (by kernel_rfl))
 f319:=Tryz.func260.trans (congrArg some (by kernel_rfl))
 f320:=Tryz.func261.trans (congrArg some (by kernel_rfl))
 f337:=Tryz.func270.trans (congrArg some (by kernel_rfl))
 f338:=Tryz.func271.trans (congrArg some (by kernel_rfl))
 t0:=Tryz.underlying0
 a0:=Tryz.isAgg0
 z0:=Tryz.sizeOf0
 v0:=Tryz.zeroValue0
 t2:=Tryz.underlying2
 a2:=Tryz.isAgg2
 z2:=Tryz.sizeOf2
 v2:=Tryz.zeroValue2
 t3:=Tryz.underlying3
 a3:=Tryz.isAgg3
 z3:=Tryz.sizeOf3
 v3:=Tryz.zeroValue3
 t4:=Tryz.underlying4
 a4:=Tryz.isAgg4
 z4:=Tryz.sizeOf4
 v4:=Tryz.zeroValue4
 t5:=Tryz.underlying5
 a5:=Tryz.isAgg5
 z5:=Tryz.sizeOf5
 v5:=Tryz.zeroValue5
 t9:=Tryz.underlying9
 a9:=Tryz.isAgg9
 z9:=Tryz.sizeOf9
 v9:=Tryz.zeroValue9
 t20:=Tryz.underlying20
 a20:=Tryz.isAgg20
 z20:=Tryz.sizeOf20
 v20:=Tryz.zeroValue20
 t37:=Tryz.underlying154
 a37:=Tryz.isAgg154
 z37:=Tryz.sizeOf154
 v37:=Tryz.zeroValue154
 t46:=Tryz.underlying165
 a46:=Tryz.isAgg165
 z46:=Tryz.sizeOf165
 v46:=Tryz.zeroValue165
 t51:=Tryz.underlying204
 a51:=Tryz.isAgg204
 z51:=Tryz.sizeOf204
 v51:=Tryz.zeroValue204
 t53:=Tryz.underlying206
 a53:=Tryz.isAgg206
 z53:=Tryz.sizeOf206
 v53:=Tryz.zeroValue206
 t171:=Tryz.underlying241
 a171:=Tryz.isAgg241
 z171:=Tryz.sizeOf241
 v171:=Tryz.zeroValue241
 t173:=Tryz.underlying243
 a173:=Tryz.isAgg243
 z173:=Tryz.sizeOf243
 v173:=Tryz.zeroValue243
 t212:=Tryz.underlying256
 a212:=Tryz.isAgg256
 z212:=Tryz.sizeOf256
 v212:=Tryz.zeroValue256
 t213:=Tryz.underlying257
 a213:=Tryz.isAgg257
 z213:=Tryz.sizeOf257
 t232:=Tryz.underlying265
 a232:=Tryz.isAgg265
 z232:=Tryz.sizeOf265
 v232:=Tryz.zeroValue265
 t233:=Tryz.underlying266
 a233:=Tryz.isAgg266
 z233:=Tryz.sizeOf266
 v233:=Tryz.zeroValue266
 g17:=by kernel_rfl
 g18:=by kernel_rfl
 g19:=by kernel_rfl }
def Tryz.lay114_ren:Go.Shelf.Ren:=⟨fun | 189=>114 | 125=>140 | 257=>164 | 128=>194 | 129=>195 | 294=>206 | 295=>207 | 296=>208 | 297=>209 | 298=>210 | 299=>211 | 216=>212 | 300=>213 | 301=>214 | 328=>235 | 329=>226 | 330=>227 | 331=>236 | 332=>237 | 215=>238 | 343=>251 | n=>n,fun | 28=>22 | 3=>3 | 46=>165 | 0=>0 | 51=>204 | 53=>206 | 4=>4 | 183=>196 | 182=>195 | 131=>201 | 5=>5 | 9=>9 | 218=>230 | 222=>234 | 228=>245 | 229=>246 | n=>n,fun | n=>n⟩
theorem Tryz.lay114:Go.Proofs.Lays.n189 Tryz.prog Tryz.lay114_ren:={
 mixed:=by kernel_rfl
 f125:=Tryz.func140.trans (congrArg some (by kernel_rfl))
 f128:=Tryz.func194.trans (congrArg some (by kernel_rfl))
 f129:=Tryz.func195.trans (congrArg some (by kernel_rfl))
 f189:=Tryz.func114.trans (congrArg some (by kernel_rfl))
 f215:=Tryz.func238.trans (congrArg some (by kernel_rfl))
 f216:=Tryz.func212.trans (congrArg some (by kernel_rfl))
 f257:=Tryz.func164.trans (congrArg some (by kernel_rfl))
 f294:=Tryz.func206.trans (congrArg some (by kernel_rfl))
 f295:=Tryz.func207.trans (congrArg some (by kernel_rfl))
 f296:=Tryz.func208.trans (congrArg some (by kernel_rfl))
 f297:=Tryz.func209.trans (congrArg some (by kernel_rfl))
 f298:=Tryz.func210.trans (congrArg some (by kernel_rfl))
 f299:=Tryz.func211.trans (congrArg some (by kernel_rfl))
 f300:=Tryz.func213.trans (congrArg some (by kernel_rfl))
 f301:=Tryz.func214.trans (congrArg some (by kernel_rfl))
 f328:=Tryz.func235.trans (congrArg some (by kernel_rfl))
 f329:=Tryz.func226.trans (congrArg some (by kernel_rfl))
 f330:=Tryz.func227.trans (congrArg some (by kernel_rfl))
 f331:=Tryz.func236.trans (congrArg some (by kernel_rfl))
 f332:=Tryz.func237.trans (congrArg some (by kernel_rfl))
 f343:=Tryz.func251.trans (congrArg some (by kernel_rfl))
 t0:=Tryz.underlying0
 a0:=Tryz.isAgg0
 z0:=Tryz.sizeOf0
 v0:=Tryz.zeroValue0
 t3:=Tryz.underlying3
 a3:=Tryz.isAgg3
 z3:=Tryz.sizeOf3
 v3:=Tryz.zeroValue3
 t4:=Tryz.underlying4
 a4:=Tryz.isAgg4
 z4:=Tryz.sizeOf4
 v4:=Tryz.zeroValue4
 t5:=Tryz.underlying5
 a5:=Tryz.isAgg5
 z5:=Tryz.sizeOf5
 v5:=Tryz.zeroValue5
 t9:=Tryz.underlying9
 a9:=Tryz.isAgg9
 z9:=Tryz.sizeOf9
 v9:=Tryz.zeroValue9
 t28:=Tryz.underlying22
 a28:=Tryz.isAgg22
 z28:=Tryz.sizeOf22
 v28:=Tryz.zeroValue22
 t46:=Tryz.underlying165
 a46:=Tryz.isAgg165
 z46:=Tryz.sizeOf165
 v46:=Tryz.zeroValue165
 t51:=Tryz.underlying204
 a51:=Tryz.isAgg204
 z51:=Tryz.sizeOf204
 v51:=Tryz.zeroValue204
 t53:=Tryz.underlying206
 a53:=Tryz.isAgg206
 z53:=Tryz.sizeOf206
 v53:=Tryz.zeroValue206
 t131:=Tryz.underlying201
 a131:=Tryz.isAgg201
 z131:=Tryz.sizeOf201
 v131:=Tryz.zeroValue201
 t182:=Tryz.underlying195
 a182:=Tryz.isAgg195
 z182:=Tryz.sizeOf195
 v182:=Tryz.zeroValue195
 t183:=Tryz.underlying196
 a183:=Tryz.isAgg196
 z183:=Tryz.sizeOf196
 v183:=Tryz.zeroValue196
 t218:=Tryz.underlying230
 a218:=Tryz.isAgg230
 z218:=Tryz.sizeOf230
 v218:=Tryz.zeroValue230
 t222:=Tryz.underlying234
 a222:=Tryz.isAgg234
 z222:=Tryz.sizeOf234
 v222:=Tryz.zeroValue234
 t228:=Tryz.underlying245
 a228:=Tryz.isAgg245
 z228:=Tryz.sizeOf245
 v228:=Tryz.zeroValue245
 t229:=Tryz.underlying246
 a229:=Tryz.isAgg246
 z229:=Tryz.sizeOf246
 v229:=Tryz.zeroValue246 }
def Tryz.lay76_ren:Go.Shelf.Ren:=⟨fun | 190=>76 | 125=>140 | 258=>139 | 128=>194 | 129=>195 | 302=>185 | 303=>186 | 304=>187 | 305=>188 | 306=>189 | 307=>190 | 308=>191 | 309=>192 | 310=>193 | 333=>225 | 329=>226 | 330=>227 | 334=>228 | 335=>229 | 336=>230 | 344=>247 | n=>n,fun | 31=>31 | 9=>9 | 3=>3 | 46=>165 | 0=>0 | 51=>204 | 53=>206 | 4=>4 | 183=>196 | 182=>195 | 131=>201 | 5=>5 | 218=>230 | 222=>234 | 228=>245 | 229=>246 | n=>n,fun | n=>n⟩
theorem Tryz.lay76:Go.Proofs.Lays.n190 Tryz.prog Tryz.lay76_ren:={
 mixed:=by kernel_rfl
 f125:=Tryz.func140.trans (congrArg some (by kernel_rfl))
 f128:=Tryz.func194.trans (congrArg some (by kernel_rfl))
 f129:=Tryz.func195.trans (congrArg some (by kernel_rfl))
 f190:=Tryz.func76.trans (congrArg some (by kernel_rfl))
 f258:=Tryz.func139.trans (congrArg some (by kernel_rfl))
 f302:=Tryz.func185.trans (congrArg some (by kernel_rfl))
 f303:=Tryz.func186.trans (congrArg some (by kernel_rfl))
 f304:=Tryz.func187.trans (congrArg some (by kernel_rfl))
 f305:=Tryz.func188.trans (congrArg some (by kernel_rfl))
 f306:=Tryz.func189.trans (congrArg some (by kernel_rfl))
 f307:=Tryz.func190.trans (congrArg some (by kernel_rfl))
 f308:=Tryz.func191.trans (congrArg some (by kernel_rfl))
 f309:=Tryz.func192.trans (congrArg some (by kernel_rfl))
 f310:=Tryz.func193.trans (congrArg some (by kernel_rfl))
 f329:=Tryz.func226.trans (congrArg some (by kernel_rfl))
 f330:=Tryz.func227.trans (congrArg some (by kernel_rfl))
 f333:=Tryz.func225.trans (congrArg some (by kernel_rfl))
 f334:=Tryz.func228.trans (congrArg some (by kernel_rfl))
 f335:=Tryz.func229.trans (congrArg some (by kernel_rfl))
 f336:=Tryz.func230.trans (congrArg some (by kernel_rfl))
 f344:=Tryz.func247.trans (congrArg some (by kernel_rfl))
 t0:=Tryz.underlying0
 a0:=Tryz.isAgg0
 z0:=Tryz.sizeOf0
 v0:=Tryz.zeroValue0
 t3:=Tryz.underlying3
 a3:=Tryz.isAgg3
 z3:=Tryz.sizeOf3
 v3:=Tryz.zeroValue3
 t4:=Tryz.underlying4
 a4:=Tryz.isAgg4
 z4:=Tryz.sizeOf4
 v4:=Tryz.zeroValue4
 t5:=Tryz.underlying5
 a5:=Tryz.isAgg5
 z5:=Tryz.sizeOf5
 v5:=Tryz.zeroValue5
 t9:=Tryz.underlying9
 a9:=Tryz.isAgg9
 z9:=Tryz.sizeOf9
 v9:=Tryz.zeroValue9
 t31:=Tryz.underlying31
 a31:=Tryz.isAgg31
 z31:=Tryz.sizeOf31
 v31:=Tryz.zeroValue31
 t46:=Tryz.underlying165
 a46:=Tryz.isAgg165
 z46:=Tryz.sizeOf165
 v46:=Tryz.zeroValue165
 t51:=Tryz.underlying204
 a51:=Tryz.isAgg204
 z51:=Tryz.sizeOf204
 v51:=Tryz.zeroValue204
 t53:=Tryz.underlying206
 a53:=Tryz.isAgg206
 z53:=Tryz.sizeOf206
 v53:=Tryz.zeroValue206
 t131:=Tryz.underlying201
 a131:=Tryz.isAgg201
 z131:=Tryz.sizeOf201
 v131:=Tryz.zeroValue201
 t182:=Tryz.underlying195
 a182:=Tryz.isAgg195
 z182:=Tryz.sizeOf195
 v182:=Tryz.zeroValue195
 t183:=Tryz.underlying196
 a183:=Tryz.isAgg196
 z183:=Tryz.sizeOf196
 v183:=Tryz.zeroValue196
 t218:=Tryz.underlying230
 a218:=Tryz.isAgg230
 z218:=Tryz.sizeOf230
 v218:=Tryz.zeroValue230
 t222:=Tryz.underlying234
 a222:=Tryz.isAgg234
 z222:=Tryz.sizeOf234
 v222:=Tryz.zeroValue234
 t228:=Tryz.underlying245
 a228:=Tryz.isAgg245
 z228:=Tryz.sizeOf245
 v228:=Tryz.zeroValue245
 t229:=Tryz.underlying246
 a229:=Tryz.isAgg246
 z229:=Tryz.sizeOf246
 v229:=Tryz.zeroValue246 }
end Go.Proofs
end
section
namespace Go.Qx
open Go Go.RowKit Go.Sx
set_option maxRecDepth 100000
abbrev b9I (v:Api_Field):Key×Int×Bool:=(v.Key_,v.Node,v.Optional)
abbrev c7g (x:Key×Int×Bool):Api_Field:=⟨x.1,x.2.1,x.2.2⟩
@[reducible] def a6l:Rp Api_Field:=a8T b9I (Z9 (rpKey) (Z9 (rpK .i64) (rpBool)))
abbrev b4L (v:Api_TypeNode):Int×Int×Int×ByteArray×(List Int)×(List Api_Field)×(Int×Int):=(v.Kind,v.Lo,v.Hi,v.Text,v.Kids,v.Fields,v.Rest)
abbrev c2m (x:Int×Int×Int×ByteArray×(List Int)×(List Api_Field)×(Int×Int)):Api_TypeNode:=⟨x.1,x.2.1,x.2.2.1,x.2.2.2.1,x.2.2.2.2.1,x.2.2.2.2.2.1,x.2.2.2.2.2.2⟩
@[reducible] def a32:Rp Api_TypeNode:=a8T b4L (Z9 (rpK .i64) (Z9 (rpK .i64) (Z9 (rpK .i64) (Z9 (rpStr) (Z9 (@rpList _ (rpK .i64)) (Z9 (@rpList _ (a6l)) (Z9 (rpK .i64) (rpK .i64))))))))
abbrev c09 (v:Api_Type):(List Api_TypeNode)×Int:=(v.Nodes,v.Root)
abbrev c7P (x:(List Api_TypeNode)×Int):Api_Type:=⟨x.1,x.2⟩
@[reducible] def b43:Rp Api_Type:=a8T c09 (Z9 (@rpList _ (a32)) (rpK .i64))
abbrev c1i (v:Api_Goal):(List Int)×(List Int)×Bool:=(v.Pos,v.Neg,v.Lists)
abbrev c7q (x:(List Int)×(List Int)×Bool):Api_Goal:=⟨x.1,x.2.1,x.2.2⟩
@[reducible] def b5f:Rp Api_Goal:=a8T c1i (Z9 (@rpList _ (rpK .i64)) (Z9 (@rpList _ (rpK .i64)) (rpBool)))
abbrev a9e (v:Semtypebase_Source):(List Int)×Int:=(v.L,v.At)
abbrev b56 (x:(List Int)×Int):Semtypebase_Source:=⟨x.1,x.2⟩
@[reducible] def a6B:Rp Semtypebase_Source:=a8T a9e (Z9 (@rpList _ (rpK .i64)) (rpK .i64))
abbrev b9Y (v:Api_Names):Bool×(List ByteArray):=(v.Cofinite,v.List_)
abbrev c6c (x:Bool×(List ByteArray)):Api_Names:=⟨x.1,x.2⟩
@[reducible] def a1c:Rp Api_Names:=a8T b9Y (Z9 (rpBool) (@rpList _ (rpStr)))
abbrev b9a (v:Api_Range):Int×Int:=(v.Lo,v.Hi)
abbrev c7a (x:Int×Int):Api_Range:=⟨x.1,x.2⟩
@[reducible] def a1e:Rp Api_Range:=a8T b9a (Z9 (rpK .i64) (rpK .i64))
abbrev c1d (v:Api_Line):Int×Int×(List Api_Range)×Api_Names×(List Int)×(List Int)×(List ByteArray)×(List ByteArray):=(v.Kind,v.Arity,v.Ints,v.Names,v.Pos,v.Neg,v.Vars,v.NotVars)
abbrev c7I (x:Int×Int×(List Api_Range)×Api_Names×(List Int)×(List Int)×(List ByteArray)×(List ByteArray)):Api_Line:=⟨x.1,x.2.1,x.2.2.1,x.2.2.2.1,x.2.2.2.2.1,x.2.2.2.2.2.1,x.2.2.2.2.2.2.1,x.2.2.2.2.2.2.2⟩
@[reducible] def a8F:Rp Api_Line:=a8T c1d (Z9 (rpK .i64) (Z9 (rpK .i64) (Z9 (@rpList _ (a1e)) (Z9 (a1c) (Z9 (@rpList _ (rpK .i64)) (Z9 (@rpList _ (rpK .i64)) (Z9 (@rpList _ (rpStr)) (@rpList _ (rpStr)))))))))
abbrev b9z (v:Core_Sort):Int×Int:=(v.Kind,v.Arity)
abbrev c6k (x:Int×Int):Core_Sort:=⟨x.1,x.2⟩
@[reducible] def b3J:Rp Core_Sort:=a8T b9z (Z9 (rpK .i64) (rpK .i64))
abbrev b80 (v:Core_pair):(List Int)×(List Int)×(List Int)×(List Int):=(v.pos,v.neg,v.finalPos,v.finalNeg)
abbrev c5U (x:(List Int)×(List Int)×(List Int)×(List Int)):Core_pair:=⟨x.1,x.2.1,x.2.2.1,x.2.2.2⟩
@[reducible] def b3h:Rp Core_pair:=a8T b80 (Z9 (@rpList _ (rpK .i64)) (Z9 (@rpList _ (rpK .i64)) (Z9 (@rpList _ (rpK .i64)) (@rpList _ (rpK .i64)))))
abbrev b8o (v:Value_used):Bool×Bool×Bool×Bool×Bool:=(v.number,v.text_,v.kids,v.keys,v.entries)
abbrev c5d (x:Bool×Bool×Bool×Bool×Bool):Value_used:=⟨x.1,x.2.1,x.2.2.1,x.2.2.2.1,x.2.2.2.2⟩
@[reducible] def b1N:Rp Value_used:=a8T b8o (Z9 (rpBool) (Z9 (rpBool) (Z9 (rpBool) (Z9 (rpBool) (rpBool)))))
abbrev b09 (v:Literals_normal):Api_Names:=v.Names
abbrev b9K (x:Api_Names):Literals_normal:=⟨x⟩
@[reducible] def a7A:Rp Literals_normal:=a8T b09 (a1c)
def tyL:List TE:=[⟨2,Int,rpK .i64⟩,
 ⟨3,Int,rpK .i64⟩,
 ⟨4,Bool,rpBool⟩,
 ⟨9,ByteArray,rpStr⟩,
 ⟨22,List Int,@rpList _ (rpK .i64)⟩,
 ⟨25,List Api_TypeNode,@rpList _ (a32)⟩,
 ⟨27,Api_Type,b43⟩,
 ⟨28,List Val,@rpList _ (rpVal)⟩,
 ⟨29,List Key,@rpList _ (rpKey)⟩,
 ⟨30,List Ent,@rpList _ (rpEnt)⟩,
 ⟨31,List ByteArray,@rpList _ (rpStr)⟩,
 ⟨33,Val,rpVal⟩,
 ⟨37,Api_Goal,b5f⟩,
 ⟨40,Semtypebase_Source,a6B⟩,
 ⟨49,List Api_Range,@rpList _ (a1e)⟩,
 ⟨51,Api_Names,a1c⟩,
 ⟨53,Api_Line,a8F⟩,
 ⟨62,List Api_Field,@rpList _ (a6l)⟩,
 ⟨63,Int×Int,Z9 (rpK .i64) (rpK .i64)⟩,
 ⟨65,Api_TypeNode,a32⟩,
 ⟨82,Core_Sort,b3J⟩,
 ⟨97,Ent,rpEnt⟩,
 ⟨111,Core_pair,b3h⟩,
 ⟨126,Api_Range,a1e⟩,
 ⟨130,Key,rpKey⟩,
 ⟨148,Api_Field,a6l⟩,
 ⟨185,Value_used,b1N⟩,
 ⟨208,Literals_normal,a7A⟩]
abbrev I (E:TypeId):Type:=(c8T tyL E).α
instance rI (E:TypeId):Rp (I E):=(c8T tyL E).rp
def c7x:Fd I (I 27) inferInstance:=(a6F (rg:=b43) (K7 (a2O 65:Fd I (List Api_TypeNode) (@rpList _ (a32))) ((a4z .i64:Fd I Int (rpK .i64)))) c09 c7P (fun _=>rfl) (fun _ _ _=>Iff.rfl):Fd I Api_Type b43)
def d0m:Fd I (I 33) inferInstance:=(a6F (rg:=rpVal) (K7 (a4z .i64:Fd I Int (rpK .i64)) (K7 (a4z .i64:Fd I Int (rpK .i64)) (K7 (c5m:Fd I ByteArray (rpStr)) (K7 (a2O 33:Fd I (List Val) (@rpList _ (rpVal))) (K7 (a2O 130:Fd I (List Key) (@rpList _ (rpKey))) (K7 (a2O 97:Fd I (List Ent) (@rpList _ (rpEnt))) ((a2O 9:Fd I (List ByteArray) (@rpList _ (rpStr)))))))))) Val.to Val.of (fun _=>rfl) Val.cells_to:Fd I Val rpVal)
def c7w:Fd I (I 37) inferInstance:=(a6F (rg:=b5f) (K7 (a2O 3:Fd I (List Int) (@rpList _ (rpK .i64))) (K7 (a2O 3:Fd I (List Int) (@rpList _ (rpK .i64))) ((a8L:Fd I Bool (rpBool))))) c1i c7q (fun _=>rfl) (fun _ _ _=>Iff.rfl):Fd I Api_Goal b5f)
def b53:Fd I (I 40) inferInstance:=(a6F (rg:=a6B) (K7 (a2O 3:Fd I (List Int) (@rpList _ (rpK .i64))) ((a4z .i64:Fd I Int (rpK .i64)))) a9e b56 (fun _=>rfl) (fun _ _ _=>Iff.rfl):Fd I Semtypebase_Source a6B)
def b3x:Fd I (I 51) inferInstance:=(a6F (rg:=a1c) (K7 (a8L:Fd I Bool (rpBool)) ((a2O 9:Fd I (List ByteArray) (@rpList _ (rpStr))))) b9Y c6c (fun _=>rfl) (fun _ _ _=>Iff.rfl):Fd I Api_Names a1c)
def c7K:Fd I (I 53) inferInstance:=(a6F (rg:=a8F) (K7 (a4z .i64:Fd I Int (rpK .i64)) (K7 (a4z .i64:Fd I Int (rpK .i64)) (K7 (a2O 126:Fd I (List Api_Range) (@rpList _ (a1e))) (K7 (c2C 51 b3x:Fd I Api_Names (a1c)) (K7 (a2O 3:Fd I (List Int) (@rpList _ (rpK .i64))) (K7 (a2O 3:Fd I (List Int) (@rpList _ (rpK .i64))) (K7 (a2O 9:Fd I (List ByteArray) (@rpList _ (rpStr))) ((a2O 9:Fd I (List ByteArray) (@rpList _ (rpStr))))))))))) c1d c7I (fun _=>rfl) (fun _ _ _=>Iff.rfl):Fd I Api_Line a8F)
def d0e:Fd I (I 63) inferInstance:=(K7 (a4z .i64:Fd I Int (rpK .i64)) ((a4z .i64:Fd I Int (rpK .i64))):Fd I (Int×Int) (Z9 (rpK .i64) (rpK .i64)))
def c2z:Fd I (I 65) inferInstance:=(a6F (rg:=a32) (K7 (a4z .i64:Fd I Int (rpK .i64)) (K7 (a4z .i64:Fd I Int (rpK .i64)) (K7 (a4z .i64:Fd I Int (rpK .i64)) (K7 (c5m:Fd I ByteArray (rpStr)) (K7 (a2O 3:Fd I (List Int) (@rpList _ (rpK .i64))) (K7 (a2O 148:Fd I (List Api_Field) (@rpList _ (a6l))) ((c2C 63 d0e:Fd I (Int×Int) (Z9 (rpK .i64) (rpK .i64)))))))))) b4L c2m (fun _=>rfl) (fun _ _ _=>Iff.rfl):Fd I Api_TypeNode a32)
def c5R:Fd I (I 82) inferInstance:=(a6F (rg:=b3J) (K7 (a4z .i64:Fd I Int (rpK .i64)) ((a4z .i64:Fd I Int (rpK .i64)))) b9z c6k (fun _=>rfl) (fun _ _ _=>Iff.rfl):Fd I Core_Sort b3J)
def d4t:Fd I (I 97) inferInstance:=(a6F (rg:=rpEnt) (K7 (a2O 33:Fd I (List Val) (@rpList _ (rpVal))) (K7 (a8L:Fd I Bool (rpBool)) ((c2C 33 d0m:Fd I Val (rpVal))))) Ent.to Ent.of (fun _=>rfl) Ent.cells_to:Fd I Ent rpEnt)
def c6p:Fd I (I 111) inferInstance:=(a6F (rg:=b3h) (K7 (a2O 3:Fd I (List Int) (@rpList _ (rpK .i64))) (K7 (a2O 3:Fd I (List Int) (@rpList _ (rpK .i64))) (K7 (a2O 3:Fd I (List Int) (@rpList _ (rpK .i64))) ((a2O 3:Fd I (List Int) (@rpList _ (rpK .i64))))))) b80 c5U (fun _=>rfl) (fun _ _ _=>Iff.rfl):Fd I Core_pair b3h)
def c7h:Fd I (I 126) inferInstance:=(a6F (rg:=a1e) (K7 (a4z .i64:Fd I Int (rpK .i64)) ((a4z .i64:Fd I Int (rpK .i64)))) b9a c7a (fun _=>rfl) (fun _ _ _=>Iff.rfl):Fd I Api_Range a1e)
def d0i:Fd I (I 130) inferInstance:=(a6F (rg:=rpKey) (K7 (a4z .i64:Fd I Int (rpK .i64)) ((c5m:Fd I ByteArray (rpStr)))) Key.to Key.of (fun _=>rfl) Key.cells_to:Fd I Key rpKey)
def c6m:Fd I (I 148) inferInstance:=(a6F (rg:=a6l) (K7 (c2C 130 d0i:Fd I Key (rpKey)) (K7 (a4z .i64:Fd I Int (rpK .i64)) ((a8L:Fd I Bool (rpBool))))) b9I c7g (fun _=>rfl) (fun _ _ _=>Iff.rfl):Fd I Api_Field a6l)
def c46:Fd I (I 185) inferInstance:=(a6F (rg:=b1N) (K7 (a8L:Fd I Bool (rpBool)) (K7 (a8L:Fd I Bool (rpBool)) (K7 (a8L:Fd I Bool (rpBool)) (K7 (a8L:Fd I Bool (rpBool)) ((a8L:Fd I Bool (rpBool))))))) b8o c5d (fun _=>rfl) (fun _ _ _=>Iff.rfl):Fd I Value_used b1N)
def b84:Fd I (I 208) inferInstance:=(a6F (rg:=a7A) ((c2C 51 b3x:Fd I Api_Names (a1c))) b09 b9K (fun _=>rfl) (fun _ _ _=>Iff.rfl):Fd I Literals_normal a7A)
def feL:List (FE I):=[⟨2,a4z .i64⟩,
 ⟨3,a4z .i64⟩,
 ⟨4,a8L⟩,
 ⟨9,c5m⟩,
 ⟨22,a2O 3⟩,
 ⟨25,a2O 65⟩,
 ⟨27,c7x⟩,
 ⟨28,a2O 33⟩,
 ⟨29,a2O 130⟩,
 ⟨30,a2O 97⟩,
 ⟨31,a2O 9⟩,
 ⟨33,d0m⟩,
 ⟨37,c7w⟩,
 ⟨40,b53⟩,
 ⟨49,a2O 126⟩,
 ⟨51,b3x⟩,
 ⟨53,c7K⟩,
 ⟨62,a2O 148⟩,
 ⟨63,d0e⟩,
 ⟨65,c2z⟩,
 ⟨82,c5R⟩,
 ⟨97,d4t⟩,
 ⟨111,c6p⟩,
 ⟨126,c7h⟩,
 ⟨130,d0i⟩,
 ⟨148,c6m⟩,
 ⟨185,c46⟩,
 ⟨208,b84⟩]
def d4s:TabL I where
 sz:=[(27,2),(33,7),(37,3),(51,2),(53,9),(63,2),(65,8),(82,2),(97,9),(111,4),(126,2),(130,2),(148,4),(185,5),(208,2)]
 one:=[(2,()),(3,()),(4,()),(9,()),(22,()),(25,()),(28,()),(29,()),(30,()),(31,()),(49,()),(62,()),(106,())]
 fld:=[(27,[(0,25),(1,3)]),(33,[(0,3),(1,2),(2,9),(3,28),(4,29),(5,30),(6,31)]),(37,[(0,22),(1,22),(2,4)]),(40,[(0,22),(1,3)]),(51,[(0,4),(1,31)]),(53,[(0,3),(1,3),(2,49),(3,51),(5,22),(6,22),(7,31),(8,31)]),(65,[(0,3),(1,2),(2,2),(3,9),(4,22),(5,62),(6,63)]),(82,[(0,3),(1,3)]),(97,[(0,28),(1,4),(2,33)]),(111,[(0,22),(1,22),(2,22),(3,22)]),(126,[(0,2),(1,2)]),(130,[(0,3),(1,9)]),(148,[(0,130),(2,3),(3,4)]),(185,[(0,4),(1,4),(2,4),(3,4),(4,4)]),(208,[(0,51)])]
 el:=[(22,3),(25,65),(28,33),(29,130),(30,97),(31,9),(46,53),(49,126),(61,22),(62,148),(75,37),(79,82),(108,4),(112,111),(134,2)]
 str:=[(9,())]
 bool:=[(4,())]
 ik:=[(3,.i64),(165,.u64)]
 fe:=feL
 inf:=[(2,1,8,[.int .i64 0]),(3,1,8,[.int .i64 0]),(4,1,1,[.bool false]),(9,1,16,[.str ⟨#[]⟩]),(22,1,24,[.nl 3]),(25,1,24,[.nl 65]),(27,2,32,[.nl 65,.int .i64 0]),(28,1,24,[.nl 33]),(29,1,24,[.nl 130]),(31,1,24,[.nl 9]),(33,7,128,[.int .i64 0,.int .i64 0,.str ⟨#[]⟩,.nl 33,.nl 130,.nl 97,.nl 9]),(37,3,56,[.nl 3,.nl 3,.bool false]),(40,2,32,[.nl 3,.int .i64 0]),(49,1,24,[.nl 126]),(51,2,32,[.bool false,.nl 9]),(53,9,168,[.int .i64 0,.int .i64 0,.nl 126,.bool false,.nl 9,.nl 3,.nl 3,.nl 9,.nl 9]),(62,1,24,[.nl 148]),(63,2,16,[.int .i64 0,.int .i64 0]),(65,8,104,[.int .i64 0,.int .i64 0,.int .i64 0,.str ⟨#[]⟩,.nl 3,.nl 148,.int .i64 0,.int .i64 0]),(82,2,16,[.int .i64 0,.int .i64 0]),(97,9,160,[.nl 33,.bool false,.int .i64 0,.int .i64 0,.str ⟨#[]⟩,.nl 33,.nl 130,.nl 97,.nl 9]),(106,1,8,[.any]),(111,4,96,[.nl 3,.nl 3,.nl 3,.nl 3]),(126,2,16,[.int .i64 0,.int .i64 0]),(130,2,24,[.int .i64 0,.str ⟨#[]⟩]),(148,4,40,[.int .i64 0,.str ⟨#[]⟩,.int .i64 0,.bool false]),(185,5,5,[.bool false,.bool false,.bool false,.bool false,.bool false]),(208,2,32,[.bool false,.nl 9])]
 st:=[(27,[(0,1),(1,1)]),(33,[(0,1),(1,1),(2,1),(3,1),(4,1),(5,1),(6,1)]),(37,[(0,1),(1,1),(2,1)]),(40,[(0,1),(1,1)]),(51,[(0,1),(1,1)]),(53,[(0,1),(1,1),(2,1),(3,2),(5,1),(6,1),(7,1),(8,1)]),(63,[(0,1),(1,1)]),(65,[(0,1),(1,1),(2,1),(3,1),(4,1),(5,1),(6,2)]),(82,[(0,1),(1,1)]),(111,[(0,1),(1,1),(2,1),(3,1)]),(126,[(0,1),(1,1)]),(130,[(0,1),(1,1)]),(148,[(0,2),(2,1),(3,1)]),(185,[(0,1),(1,1),(2,1),(3,1),(4,1)]),(208,[(0,2)])]
 eq:=[(63,c6n feL 63 b38),(130,c6n feL 130 a57)]
 arr:=[(63,3,2,1)]
 mp:=[(113,.bool)]
 fb:=[(66,()),(68,()),(79,()),(82,()),(129,()),(130,()),(143,()),(151,()),(171,()),(172,()),(174,()),(175,()),(177,()),(216,()),(219,()),(232,()),(241,())]
abbrev tb:Tab I:=d2H d4s
theorem ti2:K0 Go.Proofs.Tryz.prog 2 (.int .i64 0) 1 8:=J3 (by kernel_rfl)
theorem ti3:K0 Go.Proofs.Tryz.prog 3 (.int .i64 0) 1 8:=J3 (by kernel_rfl)
theorem ti4:K0 Go.Proofs.Tryz.prog 4 (.bool false) 1 1:=J3 (by kernel_rfl)
theorem ti9:K0 Go.Proofs.Tryz.prog 9 (.string ⟨#[]⟩) 1 16:=J3 (by kernel_rfl)
theorem d4H:K0 Go.Proofs.Tryz.prog 22 (.slice none 0 0) 1 24:=J3 (by kernel_rfl)
theorem d6E:K0 Go.Proofs.Tryz.prog 25 (.slice none 0 0) 1 24:=J3 (by kernel_rfl)
theorem d6o:K0 Go.Proofs.Tryz.prog 27 (.agg #[.slice none 0 0,.int .i64 0]) 2 32:=J3 (by kernel_rfl)
theorem d6m:K0 Go.Proofs.Tryz.prog 28 (.slice none 0 0) 1 24:=J3 (by kernel_rfl)
theorem d6A:K0 Go.Proofs.Tryz.prog 29 (.slice none 0 0) 1 24:=J3 (by kernel_rfl)
theorem d6D:K0 Go.Proofs.Tryz.prog 31 (.slice none 0 0) 1 24:=J3 (by kernel_rfl)
theorem d5e:K0 Go.Proofs.Tryz.prog 33 (.agg #[.int .i64 0,.int .i64 0,.string ⟨#[]⟩,.slice none 0 0,.slice none 0 0,.slice none 0 0,.slice none 0 0]) 7 128:=J3 (by kernel_rfl)
theorem d5k:K0 Go.Proofs.Tryz.prog 37 (.agg #[.slice none 0 0,.slice none 0 0,.bool false]) 3 56:=J3 (by kernel_rfl)
theorem d6l:K0 Go.Proofs.Tryz.prog 40 (.agg #[.slice none 0 0,.int .i64 0]) 2 32:=J3 (by kernel_rfl)
theorem d6v:K0 Go.Proofs.Tryz.prog 49 (.slice none 0 0) 1 24:=J3 (by kernel_rfl)
theorem d6x:K0 Go.Proofs.Tryz.prog 51 (.agg #[.bool false,.slice none 0 0]) 2 32:=J3 (by kernel_rfl)
theorem d4X:K0 Go.Proofs.Tryz.prog 53 (.agg #[.int .i64 0,.int .i64 0,.slice none 0 0,.bool false,.slice none 0 0,.slice none 0 0,.slice none 0 0,.slice none 0 0,.slice none 0 0]) 9 168:=J3 (by kernel_rfl)
theorem d6K:K0 Go.Proofs.Tryz.prog 62 (.slice none 0 0) 1 24:=J3 (by kernel_rfl)
theorem d6i:K0 Go.Proofs.Tryz.prog 63 (.agg #[.int .i64 0,.int .i64 0]) 2 16:=J3 (by kernel_rfl)
theorem d4K:K0 Go.Proofs.Tryz.prog 65 (.agg #[.int .i64 0,.int .i64 0,.int .i64 0,.string ⟨#[]⟩,.slice none 0 0,.slice none 0 0,.int .i64 0,.int .i64 0]) 8 104:=J3 (by kernel_rfl)
theorem d4P:K0 Go.Proofs.Tryz.prog 82 (.agg #[.int .i64 0,.int .i64 0]) 2 16:=J3 (by kernel_rfl)
theorem d49:K0 Go.Proofs.Tryz.prog 97 (.agg #[.slice none 0 0,.bool false,.int .i64 0,.int .i64 0,.string ⟨#[]⟩,.slice none 0 0,.slice none 0 0,.slice none 0 0,.slice none 0 0]) 9 160:=J3 (by kernel_rfl)
theorem d5D:K0 Go.Proofs.Tryz.prog 106 (.nilFunc) 1 8:=J3 (by kernel_rfl)
theorem d2C:K0 Go.Proofs.Tryz.prog 111 (.agg #[.slice none 0 0,.slice none 0 0,.slice none 0 0,.slice none 0 0]) 4 96:=J3 (by kernel_rfl)
theorem d2K:K0 Go.Proofs.Tryz.prog 126 (.agg #[.int .i64 0,.int .i64 0]) 2 16:=J3 (by kernel_rfl)
theorem d21:K0 Go.Proofs.Tryz.prog 130 (.agg #[.int .i64 0,.string ⟨#[]⟩]) 2 24:=J3 (by kernel_rfl)
theorem d2U:K0 Go.Proofs.Tryz.prog 148 (.agg #[.int .i64 0,.string ⟨#[]⟩,.int .i64 0,.bool false]) 4 40:=J3 (by kernel_rfl)
theorem d5H:K0 Go.Proofs.Tryz.prog 185 (.agg #[.bool false,.bool false,.bool false,.bool false,.bool false]) 5 5:=J3 (by kernel_rfl)
theorem d51:K0 Go.Proofs.Tryz.prog 208 (.agg #[.bool false,.slice none 0 0]) 2 32:=J3 (by kernel_rfl)
theorem to2:a2K Go.Proofs.Tryz.prog 2:=⟨_,Go.Proofs.Tryz.underlying2,rfl,by kernel_rfl⟩
theorem to3:a2K Go.Proofs.Tryz.prog 3:=⟨_,Go.Proofs.Tryz.underlying3,rfl,by kernel_rfl⟩
theorem to4:a2K Go.Proofs.Tryz.prog 4:=⟨_,Go.Proofs.Tryz.underlying4,rfl,by kernel_rfl⟩
theorem to9:a2K Go.Proofs.Tryz.prog 9:=⟨_,Go.Proofs.Tryz.underlying9,rfl,by kernel_rfl⟩
theorem d6F:a2K Go.Proofs.Tryz.prog 22:=⟨_,Go.Proofs.Tryz.underlying22,rfl,by kernel_rfl⟩
theorem d6M:a2K Go.Proofs.Tryz.prog 25:=⟨_,Go.Proofs.Tryz.underlying25,rfl,by kernel_rfl⟩
theorem d6y:a2K Go.Proofs.Tryz.prog 28:=⟨_,Go.Proofs.Tryz.underlying28,rfl,by kernel_rfl⟩
theorem d6H:a2K Go.Proofs.Tryz.prog 29:=⟨_,Go.Proofs.Tryz.underlying29,rfl,by kernel_rfl⟩
theorem d6t:a2K Go.Proofs.Tryz.prog 30:=⟨_,Go.Proofs.Tryz.underlying30,rfl,by kernel_rfl⟩
theorem d6w:a2K Go.Proofs.Tryz.prog 31:=⟨_,Go.Proofs.Tryz.underlying31,rfl,by kernel_rfl⟩
theorem d6G:a2K Go.Proofs.Tryz.prog 49:=⟨_,Go.Proofs.Tryz.underlying49,rfl,by kernel_rfl⟩
theorem d6q:a2K Go.Proofs.Tryz.prog 62:=⟨_,Go.Proofs.Tryz.underlying62,rfl,by kernel_rfl⟩
theorem d5F:a2K Go.Proofs.Tryz.prog 106:=⟨_,Go.Proofs.Tryz.underlying106,rfl,by kernel_rfl⟩
theorem d6s {σ:S}{x y:Int×Int}{cs ds:List Value}(h:(rI 63).cells σ x cs)(k:(rI 63).cells σ y ds):Sx.EqAt Go.Proofs.Tryz.prog 2 63 (.agg cs.toArray) (.agg ds.toArray) (b38 x y):=by
 obtain ⟨_,_,rfl,rfl,rfl⟩:=h
 obtain ⟨_,_,rfl,rfl,rfl⟩:=k
 exact d2c Go.Proofs.Tryz.underlying63 ti3 (c4P (a6K to3 rfl) (a6K to3 rfl) (c1x Go.Proofs.Tryz.underlying3) (c4P (a6K to3 rfl) (a6K to3 rfl) (c1x Go.Proofs.Tryz.underlying3) d2h))
theorem d6b {σ:S}{x y:Key}{cs ds:List Value}(h:(rI 130).cells σ x cs)(k:(rI 130).cells σ y ds):Sx.EqAt Go.Proofs.Tryz.prog 2 130 (.agg cs.toArray) (.agg ds.toArray) (a57 x y):=by
 obtain ⟨_,_,rfl,rfl,rfl⟩:=h
 obtain ⟨_,_,rfl,rfl,rfl⟩:=k
 exact c7G Go.Proofs.Tryz.underlying130 (by kernel_rfl) (c4L (by decide) (a6K to3 rfl) (a6K to3 rfl) (c1x Go.Proofs.Tryz.underlying3) (c4L (by decide) (a6K to9 rfl) (a6K to9 rfl) (d1m Go.Proofs.Tryz.underlying9) d1G))
theorem eqT (T:TypeId)(g:I T->I T->Bool){K:Nat}(h:∀ {σ:S} {x y:I T} {cs ds:List Value},Rp.cells σ x cs->Rp.cells σ y ds->Sx.EqAt Go.Proofs.Tryz.prog K T (.agg cs.toArray) (.agg ds.toArray) (g x y))(hg:Go.Proofs.Tryz.prog.eqGuardType (Go.Proofs.Tryz.prog).depth T=false)(hK:Nat.ble K 10000=true)
 {X:Cxt} {c:Cx} {σ:S} {ls ms:List (PV I)} {r:Bool} {cs ds:List Value} (h1:c6n feL T g ls ms=some r) (h2:RG X c σ ls cs) (h3:RG X c σ ms ds) :
 Go.Proofs.Tryz.prog.eqGuardType (Go.Proofs.Tryz.prog).depth T=false/\∃ j,Nat.ble j 10000=true/\Sx.EqAt Go.Proofs.Tryz.prog j T (.agg cs.toArray) (.agg ds.toArray) r:=by
 obtain ⟨x,y,k1,k2,rfl⟩:=d3N h1 h2 h3
 exact ⟨hg,K,hK,h k1 k2⟩
theorem d4T:TabLOk Go.Proofs.Tryz.prog d4s where
 sz:=⟨⟨_,Go.Proofs.Tryz.underlying27,rfl,by kernel_rfl⟩,⟨⟨_,Go.Proofs.Tryz.underlying33,rfl,by kernel_rfl⟩,⟨⟨_,Go.Proofs.Tryz.underlying37,rfl,by kernel_rfl⟩,⟨⟨_,Go.Proofs.Tryz.underlying51,rfl,by kernel_rfl⟩,⟨⟨_,Go.Proofs.Tryz.underlying53,rfl,by kernel_rfl⟩,⟨⟨_,Go.Proofs.Tryz.underlying63,rfl,by kernel_rfl⟩,⟨⟨_,Go.Proofs.Tryz.underlying65,rfl,by kernel_rfl⟩,⟨⟨_,Go.Proofs.Tryz.underlying82,rfl,by kernel_rfl⟩,⟨⟨_,Go.Proofs.Tryz.underlying97,rfl,by kernel_rfl⟩,⟨⟨_,Go.Proofs.Tryz.underlying111,rfl,by kernel_rfl⟩,⟨⟨_,Go.Proofs.Tryz.underlying126,rfl,by kernel_rfl⟩,⟨⟨_,Go.Proofs.Tryz.underlying130,rfl,by kernel_rfl⟩,⟨⟨_,Go.Proofs.Tryz.underlying148,rfl,by kernel_rfl⟩,⟨⟨_,Go.Proofs.Tryz.underlying185,rfl,by kernel_rfl⟩,⟨⟨_,Go.Proofs.Tryz.underlying208,rfl,by kernel_rfl⟩,trivial⟩⟩⟩⟩⟩⟩⟩⟩⟩⟩⟩⟩⟩⟩⟩
 one:=⟨to2,⟨to3,⟨to4,⟨to9,⟨d6F,⟨d6M,⟨d6y,⟨d6H,⟨d6t,⟨d6w,⟨d6G,⟨d6q,⟨d5F,trivial⟩⟩⟩⟩⟩⟩⟩⟩⟩⟩⟩⟩⟩
 fld:=⟨⟨⟨_,_,Go.Proofs.Tryz.underlying27,rfl,rfl,by kernel_rfl⟩,⟨⟨_,_,Go.Proofs.Tryz.underlying27,rfl,rfl⟩,⟨⟨_,_,Go.Proofs.Tryz.underlying27,rfl,rfl,by kernel_rfl⟩,⟨⟨_,_,Go.Proofs.Tryz.underlying27,rfl,rfl⟩,trivial⟩⟩⟩⟩,⟨⟨⟨_,_,Go.Proofs.Tryz.underlying33,rfl,rfl,by kernel_rfl⟩,⟨⟨_,_,Go.Proofs.Tryz.underlying33,rfl,rfl⟩,⟨⟨_,_,Go.Proofs.Tryz.underlying33,rfl,rfl,by kernel_rfl⟩,⟨⟨_,_,Go.Proofs.Tryz.underlying33,rfl,rfl⟩,⟨⟨_,_,Go.Proofs.Tryz.underlying33,rfl,rfl,by kernel_rfl⟩,⟨⟨_,_,Go.Proofs.Tryz.underlying33,rfl,rfl⟩,⟨⟨_,_,Go.Proofs.Tryz.underlying33,rfl,rfl,by kernel_rfl⟩,⟨⟨_,_,Go.Proofs.Tryz.underlying33,rfl,rfl⟩,⟨⟨_,_,Go.Proofs.Tryz.underlying33,rfl,rfl,by kernel_rfl⟩,⟨⟨_,_,Go.Proofs.Tryz.underlying33,rfl,rfl⟩,⟨⟨_,_,Go.Proofs.Tryz.underlying33,rfl,rfl,by kernel_rfl⟩,⟨⟨_,_,Go.Proofs.Tryz.underlying33,rfl,rfl⟩,⟨⟨_,_,Go.Proofs.Tryz.underlying33,rfl,rfl,by kernel_rfl⟩,⟨⟨_,_,Go.Proofs.Tryz.underlying33,rfl,rfl⟩,trivial⟩⟩⟩⟩⟩⟩⟩⟩⟩⟩⟩⟩⟩⟩,⟨⟨⟨_,_,Go.Proofs.Tryz.underlying37,rfl,rfl,by kernel_rfl⟩,⟨⟨_,_,Go.Proofs.Tryz.underlying37,rfl,rfl⟩,⟨⟨_,_,Go.Proofs.Tryz.underlying37,rfl,rfl,by kernel_rfl⟩,⟨⟨_,_,Go.Proofs.Tryz.underlying37,rfl,rfl⟩,⟨⟨_,_,Go.Proofs.Tryz.underlying37,rfl,rfl,by kernel_rfl⟩,⟨⟨_,_,Go.Proofs.Tryz.underlying37,rfl,rfl⟩,trivial⟩⟩⟩⟩⟩⟩,⟨⟨⟨_,_,Go.Proofs.Tryz.underlying40,rfl,rfl,by kernel_rfl⟩,⟨⟨_,_,Go.Proofs.Tryz.underlying40,rfl,rfl⟩,⟨⟨_,_,Go.Proofs.Tryz.underlying40,rfl,rfl,by kernel_rfl⟩,⟨⟨_,_,Go.Proofs.Tryz.underlying40,rfl,rfl⟩,trivial⟩⟩⟩⟩,⟨⟨⟨_,_,Go.Proofs.Tryz.underlying51,rfl,rfl,by kernel_rfl⟩,⟨⟨_,_,Go.Proofs.Tryz.underlying51,rfl,rfl⟩,⟨⟨_,_,Go.Proofs.Tryz.underlying51,rfl,rfl,by kernel_rfl⟩,⟨⟨_,_,Go.Proofs.Tryz.underlying51,rfl,rfl⟩,trivial⟩⟩⟩⟩,⟨⟨⟨_,_,Go.Proofs.Tryz.underlying53,rfl,rfl,by kernel_rfl⟩,⟨⟨_,_,Go.Proofs.Tryz.underlying53,rfl,rfl⟩,⟨⟨_,_,Go.Proofs.Tryz.underlying53,rfl,rfl,by kernel_rfl⟩,⟨⟨_,_,Go.Proofs.Tryz.underlying53,rfl,rfl⟩,⟨⟨_,_,Go.Proofs.Tryz.underlying53,rfl,rfl,by kernel_rfl⟩,⟨⟨_,_,Go.Proofs.Tryz.underlying53,rfl,rfl⟩,⟨⟨_,_,Go.Proofs.Tryz.underlying53,rfl,rfl,by kernel_rfl⟩,⟨⟨_,_,Go.Proofs.Tryz.underlying53,rfl,rfl⟩,⟨⟨_,_,Go.Proofs.Tryz.underlying53,rfl,rfl,by kernel_rfl⟩,⟨⟨_,_,Go.Proofs.Tryz.underlying53,rfl,rfl⟩,⟨⟨_,_,Go.Proofs.Tryz.underlying53,rfl,rfl,by kernel_rfl⟩,⟨⟨_,_,Go.Proofs.Tryz.underlying53,rfl,rfl⟩,⟨⟨_,_,Go.Proofs.Tryz.underlying53,rfl,rfl,by kernel_rfl⟩,⟨⟨_,_,Go.Proofs.Tryz.underlying53,rfl,rfl⟩,⟨⟨_,_,Go.Proofs.Tryz.underlying53,rfl,rfl,by kernel_rfl⟩,⟨⟨_,_,Go.Proofs.Tryz.underlying53,rfl,rfl⟩,trivial⟩⟩⟩⟩⟩⟩⟩⟩⟩⟩⟩⟩⟩⟩⟩⟩,⟨⟨⟨_,_,Go.Proofs.Tryz.underlying65,rfl,rfl,by kernel_rfl⟩,⟨⟨_,_,Go.Proofs.Tryz.underlying65,rfl,rfl⟩,⟨⟨_,_,Go.Proofs.Tryz.underlying65,rfl,rfl,by kernel_rfl⟩,⟨⟨_,_,Go.Proofs.Tryz.underlying65,rfl,rfl⟩,⟨⟨_,_,Go.Proofs.Tryz.underlying65,rfl,rfl,by kernel_rfl⟩,⟨⟨_,_,Go.Proofs.Tryz.underlying65,rfl,rfl⟩,⟨⟨_,_,Go.Proofs.Tryz.underlying65,rfl,rfl,by kernel_rfl⟩,⟨⟨_,_,Go.Proofs.Tryz.underlying65,rfl,rfl⟩,⟨⟨_,_,Go.Proofs.Tryz.underlying65,rfl,rfl,by kernel_rfl⟩,⟨⟨_,_,Go.Proofs.Tryz.underlying65,rfl,rfl⟩,⟨⟨_,_,Go.Proofs.Tryz.underlying65,rfl,rfl,by kernel_rfl⟩,⟨⟨_,_,Go.Proofs.Tryz.underlying65,rfl,rfl⟩,⟨⟨_,_,Go.Proofs.Tryz.underlying65,rfl,rfl,by kernel_rfl⟩,⟨⟨_,_,Go.Proofs.Tryz.underlying65,rfl,rfl⟩,trivial⟩⟩⟩⟩⟩⟩⟩⟩⟩⟩⟩⟩⟩⟩,⟨⟨⟨_,_,Go.Proofs.Tryz.underlying82,rfl,rfl,by kernel_rfl⟩,⟨⟨_,_,Go.Proofs.Tryz.underlying82,rfl,rfl⟩,⟨⟨_,_,Go.Proofs.Tryz.underlying82,rfl,rfl,by kernel_rfl⟩,⟨⟨_,_,Go.Proofs.Tryz.underlying82,rfl,rfl⟩,trivial⟩⟩⟩⟩,⟨⟨⟨_,_,Go.Proofs.Tryz.underlying97,rfl,rfl,by kernel_rfl⟩,⟨⟨_,_,Go.Proofs.Tryz.underlying97,rfl,rfl⟩,⟨⟨_,_,Go.Proofs.Tryz.underlying97,rfl,rfl,by kernel_rfl⟩,⟨⟨_,_,Go.Proofs.Tryz.underlying97,rfl,rfl⟩,⟨⟨_,_,Go.Proofs.Tryz.underlying97,rfl,rfl,by kernel_rfl⟩,⟨⟨_,_,Go.Proofs.Tryz.underlying97,rfl,rfl⟩,trivial⟩⟩⟩⟩⟩⟩,⟨⟨⟨_,_,Go.Proofs.Tryz.underlying111,rfl,rfl,by kernel_rfl⟩,⟨⟨_,_,Go.Proofs.Tryz.underlying111,rfl,rfl⟩,⟨⟨_,_,Go.Proofs.Tryz.underlying111,rfl,rfl,by kernel_rfl⟩,⟨⟨_,_,Go.Proofs.Tryz.underlying111,rfl,rfl⟩,⟨⟨_,_,Go.Proofs.Tryz.underlying111,rfl,rfl,by kernel_rfl⟩,⟨⟨_,_,Go.Proofs.Tryz.underlying111,rfl,rfl⟩,⟨⟨_,_,Go.Proofs.Tryz.underlying111,rfl,rfl,by kernel_rfl⟩,⟨⟨_,_,Go.Proofs.Tryz.underlying111,rfl,rfl⟩,trivial⟩⟩⟩⟩⟩⟩⟩⟩,⟨⟨⟨_,_,Go.Proofs.Tryz.underlying126,rfl,rfl,by kernel_rfl⟩,⟨⟨_,_,Go.Proofs.Tryz.underlying126,rfl,rfl⟩,⟨⟨_,_,Go.Proofs.Tryz.underlying126,rfl,rfl,by kernel_rfl⟩,⟨⟨_,_,Go.Proofs.Tryz.underlying126,rfl,rfl⟩,trivial⟩⟩⟩⟩,⟨⟨⟨_,_,Go.Proofs.Tryz.underlying130,rfl,rfl,by kernel_rfl⟩,⟨⟨_,_,Go.Proofs.Tryz.underlying130,rfl,rfl⟩,⟨⟨_,_,Go.Proofs.Tryz.underlying130,rfl,rfl,by kernel_rfl⟩,⟨⟨_,_,Go.Proofs.Tryz.underlying130,rfl,rfl⟩,trivial⟩⟩⟩⟩,⟨⟨⟨_,_,Go.Proofs.Tryz.underlying148,rfl,rfl,by kernel_rfl⟩,⟨⟨_,_,Go.Proofs.Tryz.underlying148,rfl,rfl⟩,⟨⟨_,_,Go.Proofs.Tryz.underlying148,rfl,rfl,by kernel_rfl⟩,⟨⟨_,_,Go.Proofs.Tryz.underlying148,rfl,rfl⟩,⟨⟨_,_,Go.Proofs.Tryz.underlying148,rfl,rfl,by kernel_rfl⟩,⟨⟨_,_,Go.Proofs.Tryz.underlying148,rfl,rfl⟩,trivial⟩⟩⟩⟩⟩⟩,⟨⟨⟨_,_,Go.Proofs.Tryz.underlying185,rfl,rfl,by kernel_rfl⟩,⟨⟨_,_,Go.Proofs.Tryz.underlying185,rfl,rfl⟩,⟨⟨_,_,Go.Proofs.Tryz.underlying185,rfl,rfl,by kernel_rfl⟩,⟨⟨_,_,Go.Proofs.Tryz.underlying185,rfl,rfl⟩,⟨⟨_,_,Go.Proofs.Tryz.underlying185,rfl,rfl,by kernel_rfl⟩,⟨⟨_,_,Go.Proofs.Tryz.underlying185,rfl,rfl⟩,⟨⟨_,_,Go.Proofs.Tryz.underlying185,rfl,rfl,by kernel_rfl⟩,⟨⟨_,_,Go.Proofs.Tryz.underlying185,rfl,rfl⟩,⟨⟨_,_,Go.Proofs.Tryz.underlying185,rfl,rfl,by kernel_rfl⟩,⟨⟨_,_,Go.Proofs.Tryz.underlying185,rfl,rfl⟩,trivial⟩⟩⟩⟩⟩⟩⟩⟩⟩⟩,⟨⟨⟨_,_,Go.Proofs.Tryz.underlying208,rfl,rfl,by kernel_rfl⟩,⟨⟨_,_,Go.Proofs.Tryz.underlying208,rfl,rfl⟩,trivial⟩⟩,trivial⟩⟩⟩⟩⟩⟩⟩⟩⟩⟩⟩⟩⟩⟩⟩
 el:=⟨⟨Go.Proofs.Tryz.underlying22,_,_,ti3,rfl,by decide⟩,⟨⟨Go.Proofs.Tryz.underlying25,_,_,d4K,rfl,by decide⟩,⟨⟨Go.Proofs.Tryz.underlying28,_,_,d5e,rfl,by decide⟩,⟨⟨Go.Proofs.Tryz.underlying29,_,_,d21,rfl,by decide⟩,⟨⟨Go.Proofs.Tryz.underlying30,_,_,d49,rfl,by decide⟩,⟨⟨Go.Proofs.Tryz.underlying31,_,_,ti9,rfl,by decide⟩,⟨⟨Go.Proofs.Tryz.underlying46,_,_,d4X,rfl,by decide⟩,⟨⟨Go.Proofs.Tryz.underlying49,_,_,d2K,rfl,by decide⟩,⟨⟨Go.Proofs.Tryz.underlying61,_,_,d4H,rfl,by decide⟩,⟨⟨Go.Proofs.Tryz.underlying62,_,_,d2U,rfl,by decide⟩,⟨⟨Go.Proofs.Tryz.underlying75,_,_,d5k,rfl,by decide⟩,⟨⟨Go.Proofs.Tryz.underlying79,_,_,d4P,rfl,by decide⟩,⟨⟨Go.Proofs.Tryz.underlying108,_,_,ti4,rfl,by decide⟩,⟨⟨Go.Proofs.Tryz.underlying112,_,_,d2C,rfl,by decide⟩,⟨⟨Go.Proofs.Tryz.underlying134,_,_,ti2,rfl,by decide⟩,trivial⟩⟩⟩⟩⟩⟩⟩⟩⟩⟩⟩⟩⟩⟩⟩
 str:=⟨Go.Proofs.Tryz.underlying9,trivial⟩
 bool:=⟨Go.Proofs.Tryz.underlying4,trivial⟩
 ik:=⟨Go.Proofs.Tryz.underlying3,⟨Go.Proofs.Tryz.underlying165,trivial⟩⟩
 inf:=⟨⟨_,ti2,fun X c σ=>RG.cns rfl a2F (RG.nl)⟩,⟨⟨_,ti3,fun X c σ=>RG.cns rfl a2F (RG.nl)⟩,⟨⟨_,ti4,fun X c σ=>RG.cns rfl a65 (RG.nl)⟩,⟨⟨_,ti9,fun X c σ=>RG.cns rfl c0z (RG.nl)⟩,⟨⟨_,d4H,fun X c σ=>RG.cns rfl a1I (RG.nl)⟩,⟨⟨_,d6E,fun X c σ=>RG.cns rfl a1I (RG.nl)⟩,⟨⟨_,d6o,fun X c σ=>RG.cns rfl a1I (RG.cns rfl a2F (RG.nl))⟩,⟨⟨_,d6m,fun X c σ=>RG.cns rfl a1I (RG.nl)⟩,⟨⟨_,d6A,fun X c σ=>RG.cns rfl a1I (RG.nl)⟩,⟨⟨_,d6D,fun X c σ=>RG.cns rfl a1I (RG.nl)⟩,⟨⟨_,d5e,fun X c σ=>RG.cns rfl a2F (RG.cns rfl a2F (RG.cns rfl c0z (RG.cns rfl a1I (RG.cns rfl a1I (RG.cns rfl a1I (RG.cns rfl a1I (RG.nl)))))))⟩,⟨⟨_,d5k,fun X c σ=>RG.cns rfl a1I (RG.cns rfl a1I (RG.cns rfl a65 (RG.nl)))⟩,⟨⟨_,d6l,fun X c σ=>RG.cns rfl a1I (RG.cns rfl a2F (RG.nl))⟩,⟨⟨_,d6v,fun X c σ=>RG.cns rfl a1I (RG.nl)⟩,⟨⟨_,d6x,fun X c σ=>RG.cns rfl a65 (RG.cns rfl a1I (RG.nl))⟩,⟨⟨_,d4X,fun X c σ=>RG.cns rfl a2F (RG.cns rfl a2F (RG.cns rfl a1I (RG.cns rfl a65 (RG.cns rfl a1I (RG.cns rfl a1I (RG.cns rfl a1I (RG.cns rfl a1I (RG.cns rfl a1I (RG.nl)))))))))⟩,⟨⟨_,d6K,fun X c σ=>RG.cns rfl a1I (RG.nl)⟩,⟨⟨_,d6i,fun X c σ=>RG.cns rfl a2F (RG.cns rfl a2F (RG.nl))⟩,⟨⟨_,d4K,fun X c σ=>RG.cns rfl a2F (RG.cns rfl a2F (RG.cns rfl a2F (RG.cns rfl c0z (RG.cns rfl a1I (RG.cns rfl a1I (RG.cns rfl a2F (RG.cns rfl a2F (RG.nl))))))))⟩,⟨⟨_,d4P,fun X c σ=>RG.cns rfl a2F (RG.cns rfl a2F (RG.nl))⟩,⟨⟨_,d49,fun X c σ=>RG.cns rfl a1I (RG.cns rfl a65 (RG.cns rfl a2F (RG.cns rfl a2F (RG.cns rfl c0z (RG.cns rfl a1I (RG.cns rfl a1I (RG.cns rfl a1I (RG.cns rfl a1I (RG.nl)))))))))⟩,⟨⟨_,d5D,fun X c σ=>RG.cns rfl d56 (RG.nl)⟩,⟨⟨_,d2C,fun X c σ=>RG.cns rfl a1I (RG.cns rfl a1I (RG.cns rfl a1I (RG.cns rfl a1I (RG.nl))))⟩,⟨⟨_,d2K,fun X c σ=>RG.cns rfl a2F (RG.cns rfl a2F (RG.nl))⟩,⟨⟨_,d21,fun X c σ=>RG.cns rfl a2F (RG.cns rfl c0z (RG.nl))⟩,⟨⟨_,d2U,fun X c σ=>RG.cns rfl a2F (RG.cns rfl c0z (RG.cns rfl a2F (RG.cns rfl a65 (RG.nl))))⟩,⟨⟨_,d5H,fun X c σ=>RG.cns rfl a65 (RG.cns rfl a65 (RG.cns rfl a65 (RG.cns rfl a65 (RG.cns rfl a65 (RG.nl)))))⟩,⟨⟨_,d51,fun X c σ=>RG.cns rfl a65 (RG.cns rfl a1I (RG.nl))⟩,trivial⟩⟩⟩⟩⟩⟩⟩⟩⟩⟩⟩⟩⟩⟩⟩⟩⟩⟩⟩⟩⟩⟩⟩⟩⟩⟩⟩⟩
 st:=⟨.inl ⟨_,Go.Proofs.Tryz.underlying27,by kernel_rfl⟩,⟨.inl ⟨_,Go.Proofs.Tryz.underlying33,by kernel_rfl⟩,⟨.inl ⟨_,Go.Proofs.Tryz.underlying37,by kernel_rfl⟩,⟨.inl ⟨_,Go.Proofs.Tryz.underlying40,by kernel_rfl⟩,⟨.inl ⟨_,Go.Proofs.Tryz.underlying51,by kernel_rfl⟩,⟨.inl ⟨_,Go.Proofs.Tryz.underlying53,by kernel_rfl⟩,⟨.inr (d4B Go.Proofs.Tryz.underlying63 ti3 rfl),⟨.inl ⟨_,Go.Proofs.Tryz.underlying65,by kernel_rfl⟩,⟨.inl ⟨_,Go.Proofs.Tryz.underlying82,by kernel_rfl⟩,⟨.inl ⟨_,Go.Proofs.Tryz.underlying111,by kernel_rfl⟩,⟨.inl ⟨_,Go.Proofs.Tryz.underlying126,by kernel_rfl⟩,⟨.inl ⟨_,Go.Proofs.Tryz.underlying130,by kernel_rfl⟩,⟨.inl ⟨_,Go.Proofs.Tryz.underlying148,by kernel_rfl⟩,⟨.inl ⟨_,Go.Proofs.Tryz.underlying185,by kernel_rfl⟩,⟨.inl ⟨_,Go.Proofs.Tryz.underlying208,by kernel_rfl⟩,trivial⟩⟩⟩⟩⟩⟩⟩⟩⟩⟩⟩⟩⟩⟩⟩
 eq:=⟨fun X c σ ls ms r cs ds h1 h2 h3=>eqT 63 b38 (fun h k=>d6s h k) (by kernel_rfl) (by decide) h1 h2 h3,⟨fun X c σ ls ms r cs ds h1 h2 h3=>eqT 130 a57 (fun h k=>d6b h k) (by kernel_rfl) (by decide) h1 h2 h3,trivial⟩⟩
 arr:=⟨⟨Go.Proofs.Tryz.underlying63,by kernel_rfl⟩,trivial⟩
 mp:=⟨⟨_,_,_,_,_,Go.Proofs.Tryz.underlying113,Go.Proofs.Tryz.underlying9,ti4,fun x h σ=>by cases h; exact rfl⟩,trivial⟩
 fb:=⟨⟨_,_,Go.Proofs.Tryz.func66,rfl,by kernel_rfl⟩,⟨⟨_,_,Go.Proofs.Tryz.func68,rfl,by kernel_rfl⟩,⟨⟨_,_,Go.Proofs.Tryz.func79,rfl,by kernel_rfl⟩,⟨⟨_,_,Go.Proofs.Tryz.func82,rfl,by kernel_rfl⟩,⟨⟨_,_,Go.Proofs.Tryz.func129,rfl,by kernel_rfl⟩,⟨⟨_,_,Go.Proofs.Tryz.func130,rfl,by kernel_rfl⟩,⟨⟨_,_,Go.Proofs.Tryz.func143,rfl,by kernel_rfl⟩,⟨⟨_,_,Go.Proofs.Tryz.func151,rfl,by kernel_rfl⟩,⟨⟨_,_,Go.Proofs.Tryz.func171,rfl,by kernel_rfl⟩,⟨⟨_,_,Go.Proofs.Tryz.func172,rfl,by kernel_rfl⟩,⟨⟨_,_,Go.Proofs.Tryz.func174,rfl,by kernel_rfl⟩,⟨⟨_,_,Go.Proofs.Tryz.func175,rfl,by kernel_rfl⟩,⟨⟨_,_,Go.Proofs.Tryz.func177,rfl,by kernel_rfl⟩,⟨⟨_,_,Go.Proofs.Tryz.func216,rfl,by kernel_rfl⟩,⟨⟨_,_,Go.Proofs.Tryz.func219,rfl,by kernel_rfl⟩,⟨⟨_,_,Go.Proofs.Tryz.func232,rfl,by kernel_rfl⟩,⟨⟨_,_,Go.Proofs.Tryz.func241,rfl,by kernel_rfl⟩,trivial⟩⟩⟩⟩⟩⟩⟩⟩⟩⟩⟩⟩⟩⟩⟩⟩⟩
theorem b2n:TabOk Go.Proofs.Tryz.prog tb:=d12 d4T
theorem mixed:(Go.Proofs.Tryz.prog).follows .mixedOrders=true:=by kernel_rfl
end Go.Qx
end
section
namespace Go.Qx
open Go Go.RowKit Go.Sx
structure Bw (B:Nat)(w w':World):Prop where
 below:Below B w w'
 drawn:w.drawn<=w'.drawn
theorem Bw.refl (B:Nat)(w:World):Bw B w w:=⟨Below.refl B w,Nat.le_refl _⟩
theorem Bw.trans {B:Nat}{a b c:World}(h:Bw B a b)(k:Bw B b c):Bw B a c:=⟨h.below.trans k.below,Nat.le_trans h.drawn k.drawn⟩
theorem Bw.setCells {B b:Nat}(hb:B<=b)(o:Nat)(vs:List Value)(w:World):Bw B w (w.setCells b o vs):=by
 obtain ⟨r1,r2,r3⟩:=b1K b vs o w
 exact ⟨⟨r1,r2,r3,Nat.le_of_eq (b1C b vs o w).symm,fun k hk=>a4N b vs o w k (by omega)⟩,Nat.le_of_eq (b0j b vs o w).symm⟩
section
variable {P:Program}{ops:Array Oper}{Q:Exit->Act->World->Prop}{n:Nat}{F:Fr}{rest:List Oper}{d:Option Nat}{ty:TypeId}{pos:String}{aft:Array Edge}{w:World}
theorem c17 {T T':TypeId}{x y:Operand}{b:Nat}{cs:List Value}(hb:w.heap[b]?=some (.cells cs.toArray T' (0,0)))(o:Nat)(v:Value)(hx:ev F x=.pointer (some ⟨b,o,none⟩))(hy:ev F y=v)
 (hkx:Q1 n x=true) (hky:Q1 n y=true) (hv:v.cells.toList=[v]) (hT:(P.info? T).map (·.size)=some 1) (h1:v.oneCell'=true) (hl:o<cs.length)
 (h:wpList P ops Q rest (fr n (K5 F d undef)) (w.setCells b o [v])) :
 wpList P ops Q (⟨d,.store T x y,ty,pos,aft,none⟩::rest) (fr n F) w:=by
 have hsz:v.cells.size=1:=by rw [<- Array.length_toList,hv]; rfl
 refine c5F rfl (w.setCells b o [v]) ?_ h
 show Sem.run P (do Instr.storeAt T ((fr n F).eval x) ((fr n F).eval y); pure Next.skip) w=_
 rw [Z2 hkx,Z2 hky,hx,hy]
 have hst:=run_storeCells_cells (P:=P) b o [v] 0 w (fun j hj=>by
  have hj0:j=0:=by simp at hj; omega
  subst hj0
  simp only [World.cell?,hb,Nat.add_zero]
  simp [List.getElem?_eq_getElem hl]) (fun j hj=>by simp [World.frozen?,hb]) (fun u hu=>by simp at hu; subst hu; exact h1)
 simp only [Nat.add_zero] at hst
 simp only [Instr.storeAt,Instr.sureAddr,storeVar,Sem.run_bind,Sem.run_pure,Result.andThen_ok,Go.Sx.run_sizeOf hT,hsz,ne_eq,not_true_eq_false,if_false,hv,hst]
theorem c4O {x y:Operand}{t u:TypeId}{a b v:Value}{w':World}(hx:ev F x=a)(hy:ev F y=b)(hkx:Q1 n x=true)(hky:Q1 n y=true)(hr:(Builtin.append_ #[t,u] ty #[a,b]).run P w=.ok v w')
 (h:wpList P ops Q rest (fr n (K5 F d v)) w'):wpList P ops Q (⟨d,.call ⟨.builtin .append,#[x,y],#[t,u]⟩,ty,pos,aft,none⟩::rest) (fr n F) w :=
 J5 rfl v w' (by
  simp [execOp,resolve,invoke,builtin,Z2 hkx,Z2 hky,hx,hy,hr]) h
theorem c2r {src dst:TypeId}{x:Operand}{a v:Value}(hx:ev F x=a)(hkx:Q1 n x=true)(hr:(convert src dst a).run P w=.ok v w)(h:wpList P ops Q rest (fr n (K5 F d v)) w) :
 wpList P ops Q (⟨d,.convert src dst x,ty,pos,aft,none⟩::rest) (fr n F) w:=c4x a v hx hkx hr h
theorem c1R {f:FuncId}{fn:Func}{c:Code}{vs:List Value}{R:Ending->World->Prop}(nt:Nat)(hf:P.funcs[f]?=some fn)(hb:fn.body=some c)(hn:fn.ntmps=nt)(hle:Nat.ble vs.length nt=true)
 (h:c.wp P (bodyPost P fn R) (fr nt (a9v vs)) w):Calls P f vs.toArray w R:=by
 refine calls_of_wp hf hb ?_
 have hle':=Nat.le_of_ble_eq_true hle
 have e:(⟨vs.toArray++Array.replicate (fn.ntmps-vs.toArray.size) undef,[]⟩:Act)=fr nt (a9v vs):=by
  rw [hn]
  simp only [fr]
  congr 1
  apply Array.ext
  ·simp; omega
  ·intro i h1 h2
   simp only [Array.getElem_ofFn,a9v,Array.getElem_append]
   split
   ·rename_i hi; simp at hi; simp [List.getD,List.getElem?_eq_getElem hi]
   ·rename_i hi; simp at hi; simp [List.getD,List.getElem?_eq_none hi]
 rw [e]
 exact h
theorem d25 {fn:Func}{R:Ending->World->Prop}(hr:fn.results=#[])(h:R (.returned (.tuple #[])) w):bodyPost P fn R .normal (fr n F) w :=
 ⟨rfl,.tuple #[],by
  rw [b2q,hr]
  simp only [List.mapM_toArray,List.mapM_nil,Sem.run_bind,Sem.run_map,Result.andThen_ok,Sem.run_pure]
  rfl,h⟩
theorem d54 {fn:Func}{R:Ending->World->Prop}{t:Nat}(v:Value)(hr:fn.results=#[.tmp t])(ht:Nat.blt t n=true)(hv:F t=v)(h:R (.returned v) w):bodyPost P fn R .ret (fr n F) w :=
 ⟨rfl,v,by
  have e1:=b3w (P:=P) (w:=w) (r:=.tmp t) (v:=v) ⟨ht,hv⟩
  rw [b2q,hr]
  simp only [List.mapM_toArray,List.mapM_cons,List.mapM_nil,Sem.run_bind,Sem.run_map,e1,Result.andThen_ok,Sem.run_pure]
  rfl,h⟩
theorem d6a {fn:Func}{R:Ending->World->Prop}{t u:Nat}(v x:Value)(hr:fn.results=#[.tmp t,.tmp u])(ht:Nat.blt t n=true)(hu:Nat.blt u n=true)(hv:F t=v)(hx:F u=x)(h:R (.returned (.tuple #[v,x])) w):bodyPost P fn R .ret (fr n F) w :=
 ⟨rfl,.tuple #[v,x],by
  have e1:=b3w (P:=P) (w:=w) (r:=.tmp t) (v:=v) ⟨ht,hv⟩
  have e2:=b3w (P:=P) (w:=w) (r:=.tmp u) (v:=x) ⟨hu,hx⟩
  rw [b2q,hr]
  simp only [List.mapM_toArray,List.mapM_cons,List.mapM_nil,Sem.run_bind,Sem.run_map,e1,e2,Result.andThen_ok,Sem.run_pure]
  rfl,h⟩
theorem d22 {T E:TypeId}{x y:Operand}{p:Option Addr}(hT:P.underlying T=some (.pointer E)) :
 Y0 P w (do eqGuard .eql T x y (.pointer p) (.pointer none); binOp .eql T (.pointer p) (.pointer none)) (.bool p.isNone):=by
 have h:∀ d:Nat,(Op.equalIn (d+1) T (.pointer p) (.pointer none)).run P w=.ok p.isNone w:=fun d=>by
  cases p<;>simp [Op.equalIn,run_underlying hT]
 show Sem.run P (do eqGuard .eql T x y (.pointer p) (.pointer none); pure (Value.bool (<- Op.equalIn 10000 T (.pointer p) (.pointer none)))) w=_
 have hg:eqGuard .eql T x y (.pointer p) (.pointer none)=pure ():=rfl
 rw [hg]
 simp only [Sem.run_bind,Sem.run_pure,Result.andThen_ok,h 9999]
theorem d3H {T E:TypeId}{x y:Operand}{a:Addr}{j:TypeInfo}(hT:P.underlying T=some (.pointer E))(hj:P.info? E=some j) :
 Y0 P w (do eqGuard .neq T x y (.pointer (some a)) (.pointer (some a)); binOp .neq T (.pointer (some a)) (.pointer (some a))) (.bool false):=by
 have hg:eqGuard .neq T x y (.pointer (some a)) (.pointer (some a))=pure ():=rfl
 show Sem.run P (do eqGuard .neq T x y (.pointer (some a)) (.pointer (some a)); binOp .neq T (.pointer (some a)) (.pointer (some a))) w=_
 rw [hg]
 simp only [Sem.run_bind,Sem.run_pure,Result.andThen_ok]
 exact Lib.run_neq_ptr_same w a hT hj
theorem a9a {f:FuncId}{xs:List Operand}{ats:Array TypeId}(vs:List Value){R:Ending->World->Prop}(hvs:xs.map (ev F)=vs)(hk:xs.all (Q1 n)=true)(hb:a2a P f)(hc:Calls P f vs.toArray w R)
 (hR:∀ e w',R e w'->∃ v,e=.returned v/\wpList P ops Q rest (fr n (K5 F d v)) w') :
 wpList P ops Q (⟨d,.call ⟨.value (.func f),xs.toArray,ats⟩,ty,pos,aft,none⟩::rest) (fr n F) w:=by
 subst hvs
 refine b08 (σ:=⟨w,fun _=>(0,0)⟩) (E:=fun _=>True) (R:=fun v τ=>wpList P ops Q rest (fr n (K5 F d v)) τ.w) rfl (.inl ⟨hb,hc.mono fun e w' h=>?_⟩) (c14 hk w) (fun v τ _ h=>h)
 obtain ⟨v,e1,h2⟩:=hR e w' h
 exact ⟨v,⟨w',fun _=>(0,0)⟩,e1,rfl,trivial,h2⟩
theorem Bw.grown {B:Nat}{w w':World}{v:Value}(h:w.grownBy w' v.ownBlock)(hd:w.drawn<=w'.drawn)(hv:∀ g,v.ownBlock=some g->B<=g)(hB:B<=w.heap.size):Bw B w w' :=
 ⟨⟨h.os,h.tape,h.output,h.size,fun k hk=>h.block k (by omega) (fun e=>by have:=hv k e.symm; omega)⟩,hd⟩
theorem c3b {B:Nat}{T:TypeId}{s n:Nat}{v:Value}{xs:List Value}(h:w.ownsRow B T s v n xs):∀ g,v.ownBlock=some g->B<=g:=by
 intro g hg
 rcases h.2 with ⟨rfl,_⟩ | ⟨g',cap,cur,rfl,hb,_⟩
 ·cases hg
 ·cases hg; exact hb
theorem d2o {T E:TypeId}{i:TypeInfo}{z v:Value}{x:Operand}(hu:P.underlying T=some (.slice E))(hi:P.info? E=some i)(hz:i.zero=some z)(hs:i.size=1)(hzs:z.cells.size=1)(hx:ev F x=v)(hk:Q1 n x=true)(hv:v.cells.toList=[v])(hv2:v.cells.size=1)
 (h:wpList P ops Q rest (fr n (K5 F d (.slice (some ⟨w.heap.size,0,none⟩) 1 1))) (w.alloc (.cells #[v] E))) :
 wpList P ops Q (⟨d,.buildSlice T 1 #[(0,x)],ty,pos,aft,none⟩::rest) (fr n F) w:=by
 refine J5 rfl (.slice (some ⟨w.heap.size,0,none⟩) 1 1) (w.alloc (.cells #[v] E)) ?_ h
 have hfill:=c15 1 (Nat.zero_lt_one) [v] 0 (((Array.range 1).map (z.cells[·%z.cells.size]!)).toList) (by simp) (by simp [hv2])
 simp only [Nat.zero_mul,List.take_zero,List.nil_append,Array.toArray_toList] at hfill
 show Sem.run P (do pure (Next.value (<- Instr.buildSlice T 1 (#[(0,x)].map fun (i,x)=>(i,(fr n F).eval x))))) w=_
 have he:(#[((0:Nat),x)].map fun (i,x)=>(i,(fr n F).eval x))=#[(0,v)]:=by simp [Z2 hk,hx]
 rw [he]
 have hrun:(Instr.buildSlice T 1 #[(0,v)]).run P w=.ok (.slice (some ⟨w.heap.size,0,none⟩) 1 1) (w.alloc (.cells #[v] E)):=by
  unfold Instr.buildSlice
  simp only [List.zipIdx_cons,List.zipIdx_nil,List.map_cons,List.map_nil] at hfill
  rw [<- hs] at hfill
  simp only [Sem.run_bind,run_underlying hu,Result.andThen_ok,sizeOf,typeInfo,run_program,hi,Sem.run_pure,hs,Nat.one_mul,if_neg (show ¬ (1:Nat)>2^24 by decide),if_neg (show ¬ (1:Nat)=0 by decide),zeroValue,hz,newRow,run_newObj]
  rw [hs] at hfill
  simp only [hfill,Sem.run_pure,Result.andThen_ok,Sem.run_bind,run_newObj]
  simp [hv]
 rw [Sem.run_bind,hrun]
 rfl
end
end Go.Qx
end
section
namespace Go.Qx
open Go Go.RowKit Go.Sx
set_option maxHeartbeats 1600000
set_option maxRecDepth 100000
abbrev J9 (b:Nat):Value:=.pointer (some ⟨b,0,none⟩)
theorem c61:b2S Go.Proofs.Tryz.prog 156 0 0:=⟨_,_,Go.Proofs.Tryz.underlying156,rfl,rfl,by kernel_rfl⟩
theorem c3n:b2S Go.Proofs.Tryz.prog 156 1 1:=⟨_,_,Go.Proofs.Tryz.underlying156,rfl,rfl,by kernel_rfl⟩
theorem c59:a2K Go.Proofs.Tryz.prog 153:=⟨_,Go.Proofs.Tryz.underlying153,rfl,by kernel_rfl⟩
theorem c5N:a2K Go.Proofs.Tryz.prog 154:=⟨_,Go.Proofs.Tryz.underlying154,rfl,by kernel_rfl⟩
theorem d2u (x:Value)(w:World):(callFunc 223 [x].toArray).run Go.Proofs.Tryz.prog w=.ok (.value x) w:=by
 have hn:Extern.findNext Go.Proofs.Tryz.f223=none:=by kernel_rfl
 have he:Extern.find Go.Proofs.Tryz.f223=some Extern.AbiNoEscape.same:=by kernel_rfl
 rw [run_callFunc_extern Go.Proofs.Tryz.func223 (by kernel_rfl) (by kernel_rfl) hn he]
 rfl
theorem d24 {b B:Nat}{bs:List Value}{p:Value}{w:World}(hp:p=.pointer none\/p=J9 b)(h:Lib.BuilderAt 156 5 B b p bs w) :
 Calls Go.Proofs.Tryz.prog 183 [J9 b].toArray w fun e w'=>e=.returned (.tuple #[])/\Lib.BuilderAt 156 5 B b (J9 b) bs w'/\Bw B w w':=by
 obtain ⟨j,hj,hjs⟩:∃ j,Go.Proofs.Tryz.prog.info? 156=some j/\j.size=2:=Option.map_eq_some_iff.1 (by kernel_rfl)
 obtain ⟨hB,v,hb,hown,hne⟩:=h
 have c0:w.cell? ⟨b,0,none⟩=some p:=by simp [World.cell?,hb]
 refine c1R 20 Go.Proofs.Tryz.func183 rfl rfl rfl ?_
 refine wp_seq (wp_region_lit ?_)
 refine a1V (J9 b) rfl rfl ?_
 refine a3A ⟨b,0,none⟩ rfl rfl ?_
 refine a1i b 0 0 0 rfl rfl c61 rfl ?_
 refine a4m b 0 p rfl rfl (a3P c59 c0) ?_
 rcases hp with rfl | rfl
 ·refine a9T (.pointer none) (.pointer none) (.bool true) rfl rfl rfl rfl (d22 Go.Proofs.Tryz.underlying153) ?_
  refine wpList_nil (a0i ?_)
  refine c0e rfl rfl rfl (wp_region_lit ?_)
  refine a1V (J9 b) rfl rfl ?_
  refine a1V (J9 b) rfl rfl ?_
  have hsh:w.shape? b=some (156,2):=by simp [World.shape?,hb]
  refine c2r rfl rfl (Lib.run_to_unsafe (e:=156) (cells:=2) w ⟨b,0,none⟩ Go.Proofs.Tryz.underlying153 Go.Proofs.Tryz.underlying227 hj (by rw [hjs]; decide) hsh (Nat.zero_lt_succ 1)) ?_
  refine d3j [J9 b] (J9 b) rfl rfl (d2u _ w) ?_
  refine c2r rfl rfl (Lib.run_from_unsafe (e:=156) (cells:=2) w ⟨b,0,none⟩ Go.Proofs.Tryz.underlying227 Go.Proofs.Tryz.underlying153 hj hsh (by kernel_rfl)) ?_
  refine a3A ⟨b,0,none⟩ rfl rfl ?_
  refine a1i b 0 0 0 rfl rfl c61 rfl ?_
  refine c17 (cs:=[.pointer none,v]) hb 0 (J9 b) rfl rfl rfl rfl rfl (by kernel_rfl) rfl (Nat.zero_lt_succ 1) ?_
  refine wpList_nil (d25 rfl ⟨rfl,⟨hB,v,?_,?_,hne⟩,Bw.setCells hB 0 _ w⟩)
  ·have:=a7a b 156 [J9 b] 0 w [.pointer none,v] hb (Nat.le_succ 1)
   exact this
  ·obtain ⟨h1,h2⟩:=hown
   refine ⟨h1,h2.imp id fun ⟨g,cap,cur,e,hg,hh,r⟩=>⟨g,cap,cur,e,hg,?_,r⟩⟩
   rw [a4N b _ 0 w g (by rintro rfl; rw [e] at hne; exact hne rfl)]
   exact hh
 ·refine a9T (J9 b) (.pointer none) (.bool false) rfl rfl rfl rfl (d22 Go.Proofs.Tryz.underlying153) ?_
  refine wpList_nil (a0i ?_)
  refine b2Z rfl rfl rfl (wp_seq (wp_region_lit ?_))
  refine a1V (J9 b) rfl rfl ?_
  refine a3A ⟨b,0,none⟩ rfl rfl ?_
  refine a1i b 0 0 0 rfl rfl c61 rfl ?_
  refine a4m b 0 (J9 b) rfl rfl (a3P c59 c0) ?_
  refine a1V (J9 b) rfl rfl ?_
  refine a9T (J9 b) (J9 b) (.bool false) rfl rfl rfl rfl (d3H Go.Proofs.Tryz.underlying153 hj) ?_
  refine wpList_nil (a0i ?_)
  refine b2Z rfl rfl rfl (wp_skip (d25 rfl ⟨rfl,⟨hB,v,hb,hown,hne⟩,Bw.refl B w⟩))
theorem d2T:a2a Go.Proofs.Tryz.prog 183:=⟨_,_,Go.Proofs.Tryz.func183,rfl,by kernel_rfl⟩
theorem c9e {b B:Nat}{bs:List Value}{w:World}(h:Lib.IsBuilder 156 5 B b bs w):∃ p,(p=.pointer none\/p=J9 b)/\Lib.BuilderAt 156 5 B b p bs w :=
 h.elim (fun h=>⟨_,.inl rfl,h⟩) (fun h=>⟨_,.inr rfl,h⟩)
theorem d4j {b B:Nat}{cs:List Value}{w w':World}{v v':Value}(hB:B<=b)(hb:w.heap[b]?=some (.cells #[J9 b,v] 156 (0,0)))(hne:v.ownBlock≠some b)(hg:w.grownBy w' v.ownBlock)(hown:w'.ownsRow B 5 1 v' cs.length cs)(hne':v'.ownBlock≠some b) :
 w'.heap[b]?=some (.cells #[J9 b,v] 156 (0,0))/\Lib.BuilderAt 156 5 B b (J9 b) cs (w'.setCells b 1 [v']):=by
 have hlt:b<w.heap.size:=(Array.getElem?_eq_some_iff.1 hb).1
 have h1:w'.heap[b]?=some (.cells #[J9 b,v] 156 (0,0)):=by rw [hg.block b hlt fun e=>hne e.symm]; exact hb
 refine ⟨h1,hB,v',?_,?_,hne'⟩
 ·exact a7a b 156 [v'] 1 w' [J9 b,v] h1 (Nat.le_refl 2)
 ·obtain ⟨a1,a2⟩:=hown
  refine ⟨a1,a2.imp id fun ⟨g,cap,cur,e,hg,hh,r⟩=>⟨g,cap,cur,e,hg,?_,r⟩⟩
  rw [a4N b _ 1 w' g (by rintro rfl; rw [e] at hne'; exact hne' rfl)]
  exact hh
theorem d0M {b B:Nat}{T:TypeId}{cs:List Value}{w w':World}{v v':Value}{n:Nat}(hlt:b<w.heap.size)(hb:w.heap[b]?=some (.cells #[J9 b,v] 156 (0,0)))(hne:v.ownBlock≠some b)(hg:w.grownBy w' v.ownBlock)(hown:w'.ownsRow B 5 1 v' n cs):v'.ownBlock≠some b:=by
 intro e
 rcases hown.2 with ⟨rfl,_⟩ | ⟨g,cap,cur,rfl,_,hh,_⟩
 ·cases e
 ·cases e
  rw [hg.block g hlt fun e=>hne e.symm,hb] at hh
  cases hh
theorem bws {b B:Nat}{bs:List Value}{s:ByteArray}{w:World}(h:Lib.IsBuilder 156 5 B b bs w)(hlen:bs.length+s.size<=1000000000)(hBw:B<=w.heap.size) :
 Calls Go.Proofs.Tryz.prog 136 [J9 b,.string s].toArray w fun e w'=>(∃ v,e=.returned v)/\Lib.BuilderAt 156 5 B b (J9 b) (bs++Lib.strCells s) w'/\Bw B w w':=by
 obtain ⟨p,hp,h⟩:=c9e h
 obtain ⟨i,hi,hz⟩:∃ i,Go.Proofs.Tryz.prog.info? 5=some i/\(i.zero,i.size,i.bytes)=(some (.int .u8 0),1,1):=Option.map_eq_some_iff.1 (by kernel_rfl)
 simp only [Prod.mk.injEq] at hz
 refine c1R 19 Go.Proofs.Tryz.func136 rfl rfl rfl ?_
 refine wp_seq (wp_region_lit ?_)
 refine a3x (.int .i64 0) rfl rfl ?_
 refine a3x .nilIface rfl rfl ?_
 refine wpList_nil (a0i (wp_seq (wp_region_lit ?_)))
 refine a1V (J9 b) rfl rfl ?_
 refine a9a [J9 b] rfl rfl d2T (d24 hp h) ?_
 rintro e w1 ⟨rfl,hat,hbw⟩
 refine ⟨_,rfl,?_⟩
 refine wpList_nil (a0i (wp_seq (wp_region_lit ?_)))
 obtain ⟨hB,v,hb,hown,hne⟩:=hat
 have c1:w1.cell? ⟨b,1,none⟩=some v:=by simp [World.cell?,hb]
 have hlt:b<w1.heap.size:=(Array.getElem?_eq_some_iff.1 hb).1
 refine a1V (J9 b) rfl rfl ?_
 refine a1V (J9 b) rfl rfl ?_
 refine a3A ⟨b,0,none⟩ rfl rfl ?_
 refine a1i b 0 1 1 rfl rfl c3n rfl ?_
 refine a4m b 1 v rfl rfl (a3P c5N c1) ?_
 refine a1V (.string s) rfl rfl ?_
 obtain ⟨v',w2,hr,hown',hg,_⟩:=Lib.run_append_own_string (P:=Go.Proofs.Tryz.prog) (w:=w1) B 154 9 154 5 i Go.Proofs.Tryz.underlying154 Go.Proofs.Tryz.underlying9 hi hz.1 hz.2.1 hz.2.2 v bs.length bs hown s (by unfold maxLen; omega) (by omega) (Nat.le_trans hBw hbw.below.size)
 refine c4O rfl rfl rfl rfl hr ?_
 have hd:=b4F _ hr
 have hl:bs.length+s.size=(bs++Lib.strCells s).length:=by rw [List.length_append,Lib.strCells_length]
 rw [hl] at hown'
 have hne':=d0M (T:=5) hlt hb hne hg hown'
 obtain ⟨hb2,hat2⟩:=d4j hB hb hne hg hown' hne'
 refine a3A ⟨b,0,none⟩ rfl rfl ?_
 refine a1i b 0 1 1 rfl rfl c3n rfl ?_
 have hv1:v'.cells.toList=[v']/\v'.oneCell'=true:=by
  rcases hown'.2 with ⟨rfl,_⟩ | ⟨g,cap,cur,rfl,_⟩
  ·exact ⟨rfl,rfl⟩
  ·exact ⟨rfl,rfl⟩
 refine c17 (cs:=[J9 b,v]) hb2 1 v' rfl rfl rfl rfl hv1.1 (by kernel_rfl) hv1.2 (Nat.lt_succ_self 1) ?_
 refine wpList_nil (a0i (wp_seq (wp_region_lit ?_)))
 refine a1V (.string s) rfl rfl ?_
 refine c6s s rfl rfl Go.Proofs.Tryz.underlying9 ?_
 refine a3x (.int .i64 (s.size:Int)) rfl rfl ?_
 refine a3x .nilIface rfl rfl ?_
 refine wpList_nil (a0i (wp_ret (d6a (.int .i64 (s.size:Int)) .nilIface rfl rfl rfl rfl rfl ⟨⟨_,rfl⟩,hat2,?_⟩)))
 exact hbw.trans ((Bw.grown hg hd (c3b hown) (Nat.le_trans hBw hbw.below.size)).trans (Bw.setCells hB 1 _ w2))
theorem bwb {b B:Nat}{bs:List Value}{c:Int}{w:World}(h:Lib.IsBuilder 156 5 B b bs w)(hlen:bs.length+1<=1000000000)(hBw:B<=w.heap.size) :
 Calls Go.Proofs.Tryz.prog 135 [J9 b,.int .u8 c].toArray w fun e w'=>(∃ v,e=.returned v)/\Lib.BuilderAt 156 5 B b (J9 b) (bs++[.int .u8 c]) w'/\Bw B w w':=by
 obtain ⟨p,hp,h⟩:=c9e h
 obtain ⟨i,hi,hz⟩:∃ i,Go.Proofs.Tryz.prog.info? 5=some i/\(i.zero,i.size,i.bytes)=(some (.int .u8 0),1,1):=Option.map_eq_some_iff.1 (by kernel_rfl)
 simp only [Prod.mk.injEq] at hz
 refine c1R 17 Go.Proofs.Tryz.func135 rfl rfl rfl ?_
 refine wp_seq (wp_region_lit ?_)
 refine a3x .nilIface rfl rfl ?_
 refine wpList_nil (a0i (wp_seq (wp_region_lit ?_)))
 refine a1V (J9 b) rfl rfl ?_
 refine a9a [J9 b] rfl rfl d2T (d24 hp h) ?_
 rintro e w1 ⟨rfl,hat,hbw⟩
 refine ⟨_,rfl,?_⟩
 refine wpList_nil (a0i (wp_seq (wp_region_lit ?_)))
 obtain ⟨hB,v,hb,hown,hne⟩:=hat
 have c1:w1.cell? ⟨b,1,none⟩=some v:=by simp [World.cell?,hb]
 have hlt:b<w1.heap.size:=(Array.getElem?_eq_some_iff.1 hb).1
 refine a1V (J9 b) rfl rfl ?_
 refine a1V (J9 b) rfl rfl ?_
 refine a3A ⟨b,0,none⟩ rfl rfl ?_
 refine a1i b 0 1 1 rfl rfl c3n rfl ?_
 refine a4m b 1 v rfl rfl (a3P c5N c1) ?_
 refine a1V (.int .u8 c) rfl rfl ?_
 refine d2o (v:=.int .u8 c) Go.Proofs.Tryz.underlying154 hi hz.1 hz.2.1 rfl rfl rfl rfl rfl ?_
 have hbw1:Bw B w1 (w1.alloc (.cells #[.int .u8 c] 5)):=⟨(Below.refl _ _).alloc (Nat.le_trans hBw hbw.below.size) _,Nat.le_refl _⟩
 have hb1:(w1.alloc (.cells #[.int .u8 c] 5)).heap[b]?=some (.cells #[J9 b,v] 156 (0,0)):=by rw [heap_alloc_old _ _ hlt]; exact hb
 have hown1:(w1.alloc (.cells #[.int .u8 c] 5)).ownsRow B 5 1 v bs.length bs:=by
  obtain ⟨a1,a2⟩:=hown
  refine ⟨a1,a2.imp id fun ⟨g,cap,cur,e,hg,hh,r⟩=>⟨g,cap,cur,e,hg,?_,r⟩⟩
  rw [heap_alloc_old _ _ (Array.getElem?_eq_some_iff.1 hh).1]
  exact hh
 have hlt1:b<(w1.alloc (.cells #[.int .u8 c] 5)).heap.size:=(Array.getElem?_eq_some_iff.1 hb1).1
 have hBw1:=Nat.le_trans (Nat.le_trans hBw hbw.below.size) hbw1.below.size
 obtain ⟨v',w2,hr,hown',hg,_⟩:=run_append_own (P:=Go.Proofs.Tryz.prog) (w:=w1.alloc (.cells #[.int .u8 c] 5)) B 154 154 5 i (.int .u8 0) 1 1 Go.Proofs.Tryz.underlying154 hi hz.1 hz.2.1 hz.2.2 rfl Nat.zero_lt_one v bs.length bs hown1 ⟨w1.heap.size,0,none⟩ 1 1 [.int .u8 c] rfl (fun j u hj=>by
  have hj0:j=0:=by
   rcases j with _ | j
   ·rfl
   ·simp at hj
  subst hj0
  simp at hj
  subst hj
  rw [show (Addr.add ⟨w1.heap.size,0,none⟩ 0:Addr)=⟨w1.heap.size,0,none⟩ from rfl,World.cell?,heap_alloc_new]
  rfl) (fun u hu=>by simp at hu; subst hu; rfl) (by unfold maxLen; omega) (by omega) hBw1
 refine c4O rfl rfl rfl rfl hr ?_
 have hd:=b4F _ hr
 rw [show bs.length+1=(bs++[Value.int .u8 c]).length by simp] at hown'
 have hne':=d0M (T:=5) hlt1 hb1 hne hg hown'
 obtain ⟨hb2,hat2⟩:=d4j hB hb1 hne hg hown' hne'
 refine a3A ⟨b,0,none⟩ rfl rfl ?_
 refine a1i b 0 1 1 rfl rfl c3n rfl ?_
 have hv1:v'.cells.toList=[v']/\v'.oneCell'=true:=by
  rcases hown'.2 with ⟨rfl,_⟩ | ⟨g,cap,cur,rfl,_⟩
  ·exact ⟨rfl,rfl⟩
  ·exact ⟨rfl,rfl⟩
 refine c17 (cs:=[J9 b,v]) hb2 1 v' rfl rfl rfl rfl hv1.1 (by kernel_rfl) hv1.2 (Nat.lt_succ_self 1) ?_
 refine wpList_nil (a0i (wp_seq (wp_region_lit ?_)))
 refine a3x .nilIface rfl rfl ?_
 refine wpList_nil (a0i (wp_ret (d54 .nilIface rfl rfl rfl ⟨⟨_,rfl⟩,hat2,?_⟩)))
 exact hbw.trans (hbw1.trans ((Bw.grown hg hd (c3b hown1) hBw1).trans (Bw.setCells hB 1 _ w2)))
end Go.Qx
end
section
namespace Go.Proofs
open Go.RowKit
set_option maxRecDepth 100000
set_option maxHeartbeats 4000000 in
theorem Tryz.bstr1 {b g cap:Nat}{cur:Array Value}{p:Value}{l:List UInt8}{w:World}(hb:w.heap[b]?=some (.cells #[p,.slice (some ⟨g,0,none⟩) l.length cap] 156 (0,0)))(hg:w.heap[g]?=some (.cells cur 5 (0,0)))
 (h0:l≠[]) (hnc:l.length<=cap) (hcs:cur.size=cap) (hcm:l.length<=1000000000) (hc:∀ (j:Nat) (x:UInt8),l[j]?=some x->cur[j]?=some (Value.int IntKind.u8 (x.toNat:Int))) :
 Calls Tryz.prog 138 #[.pointer (some ⟨b,0,none⟩)] w fun e w'=>e=.returned (.string ⟨l.toArray⟩)/\w'=w.drew.freeze ⟨g,0,none⟩ l.length:=by
 have hl0:l.length≠0:=by simpa using h0
 have hb':w.drew.heap[b]?=some (.cells #[p,.slice (some ⟨g,0,none⟩) l.length cap] 156 (0,0)):=hb
 have hg':w.drew.heap[g]?=some (.cells cur 5 (0,0)):=hg
 have c1:w.drew.cell? ⟨b,1,none⟩=some (.slice (some ⟨g,0,none⟩) l.length cap):=by simp [World.cell?,hb']
 have hSD:(Builtin.unsafeSliceData_ #[154] 193 #[.slice (some ⟨g,0,none⟩) l.length cap]).run Tryz.prog w.drew=.ok (.pointer (some ⟨g,0,none⟩)) w.drew :=
  Lib.run_unsafeSliceData_row _ _ _ _ _ _ (by omega)
 have hUS:(Builtin.unsafeString_ #[193,3] 9 #[.pointer (some ⟨g,0,none⟩),.int .i64 l.length]).run Tryz.prog w.drew=.ok (.string ⟨l.toArray⟩) (w.drew.freeze ⟨g,0,none⟩ l.length) :=
  Lib.run_unsafeString_row w.drew 193 3 9 5 Tryz.underlying193 (by kernel_rfl) g cur.size (by simp [World.shape?,hg']) l h0 (by omega) (by omega) (fun j x hx=>by
   have:=hc j x hx
   have e:((⟨g,0,none⟩:Addr).add j)=⟨g,j,none⟩:=by rcases j with _ | j<;>simp [Addr.add]
   rw [e]
   simp [World.cell?,hg',this])
 go_enter Tryz.func138,Tryz.ntmps138
 go_wp2
 go_region
 all_goals (go_wp2; go_ret; exact ⟨rfl,rfl⟩)
set_option maxHeartbeats 4000000 in
theorem Tryz.bstr0 {b:Nat}{p:Value}{w:World}(hb:w.heap[b]?=some (.cells #[p,.slice none 0 0] 156 (0,0))) :
 Calls Tryz.prog 138 #[.pointer (some ⟨b,0,none⟩)] w fun e w'=>e=.returned (.string ⟨#[]⟩)/\w'=w.drew:=by
 have hb':w.drew.heap[b]?=some (.cells #[p,.slice none 0 0] 156 (0,0)):=hb
 have c1:w.drew.cell? ⟨b,1,none⟩=some (.slice none 0 0):=by simp [World.cell?,hb']
 have hSD:(Builtin.unsafeSliceData_ #[154] 193 #[.slice none 0 0]).run Tryz.prog w.drew=.ok (.pointer none) w.drew:=Lib.run_unsafeSliceData_nil _ _ _ _ _
 have hUS:(Builtin.unsafeString_ #[193,3] 9 #[.pointer none,.int .i64 0]).run Tryz.prog w.drew=.ok (.string .empty) w.drew:=Lib.run_unsafeString_none _ _ _ _ _
 go_enter Tryz.func138,Tryz.ntmps138
 go_wp2
 go_region
 all_goals (go_wp2; go_ret; exact ⟨rfl,rfl⟩)
end Go.Proofs
end
section
namespace Go.Qx
open Go Go.RowKit Go.Sx
set_option maxHeartbeats 1600000
set_option maxRecDepth 100000
abbrev RK (r:Row I):Prop:=j5 Go.Proofs.Tryz.prog r
abbrev RO (r:Rio I):Prop:=b4C Go.Proofs.Tryz.prog r
def mkH (a:List (Nat×List (List Nat)))(b c:List (Nat×List Nat))(j:List (Nat×JH))(l:List (Nat×LH I))(k:List (Nat×KH I))(ns:List (Nat×NH I)):Hints I :=
 ⟨fun i=>(asc a i).getD [],fun i=>(asc b i).getD [],fun i=>(asc c i).getD [],asc j,asc l,asc k,asc ns⟩
def Y4:Hints I:=mkH [] [] [] [] [] [] []
structure En where
 ans:Ans I
 ok:EntOk Go.Proofs.Tryz.prog ans
def enL:List En->List (Ans I)
 | []=>[]
 | e::r=>e.ans::enL r
theorem c56:∀ l:List En,c8J Go.Proofs.Tryz.prog (enL l)
 | []=>trivial
 | e::r=>⟨e.ok,c56 r⟩
def eR {r:Row I}(h:RK r):En:=⟨d4g tb r,d3I b2n h⟩
def eO {r:Rio I}(h:RO r):En:=⟨d4m tb r,d3A b2n h⟩
def eS {r:Row I}(T f j:Nat)(is:List Nat)(h:b1a Go.Proofs.Tryz.prog r (c0C T f j is)):En:=⟨d2O tb r (c37 T f j is),c67 b2n h (fun _ _ _ _ _ _ _ _ _ hO h hc hv=>c9i hO h hc hv)⟩
theorem okR {r:Row I}(l:List En){fn:Func}(nt:Nat)(H:Hints I)(rl:List ResultVar)(hf:(Go.Proofs.Tryz.prog).funcs[r.f]?=some fn)
 (h : (fn.body, fn.name == "runtime.NumGoroutine", fn.ntmps, fn.results.toList, Nat.ble r.ps.length nt, a4j H (c89 fn) 1, r.run) = (some (c89 fn), false, nt, rl, true, true, c1W r.ps (d3e tb (c2h (enL l) 3) H (c89 fn) nt r.ps r.rs rl))) : RK r := by
 simp only [Prod.mk.injEq] at h
 obtain ⟨h1,h2,h3,h4,h5,h6,h7⟩:=h
 exact d4b b2n (c2a (c56 l) 3) mixed nt hf h1 h2 h3 h4 h5 h6 h7
def d3h:Row I:=⟨252,[.d (.str),.d (.str)],[.k (.d (.int .i64))],c6V⟩
theorem d4Q:j5 Go.Proofs.Tryz.prog d3h:=d43 Go.Proofs.Tryz.func252 (by kernel_rfl) rfl (by kernel_rfl) (by kernel_rfl)
def d5n:Row I:=⟨64,[.d (.sl 3)],[.k (.row 3 false)],a0v 8⟩
theorem c5t:j5 Go.Proofs.Tryz.prog d5n:=a7B b2n mixed Go.Proofs.Tryz.func64 (by kernel_rfl) (by kernel_rfl) (by kernel_rfl) Go.Proofs.Tryz.underlying22 rfl (by kernel_rfl) (fun _=>by kernel_rfl)
def d3k:Rio I:=⟨114,3,[],[],c39⟩
theorem d4F:b4C Go.Proofs.Tryz.prog d3k:=c92 (I:=I) (E:=3) Go.Proofs.Tryz.lay114 114 (by kernel_rfl) (fun x=>x) Iff.rfl ⟨_,_,Go.Proofs.Tryz.func114,rfl,by kernel_rfl⟩
def d4o:Rio I:=⟨76,9,[],[],b2O⟩
theorem d2Y:b4C Go.Proofs.Tryz.prog d4o:=c9Y (I:=I) (E:=9) Go.Proofs.Tryz.lay76 76 (by kernel_rfl) (fun x=>x) Iff.rfl ⟨_,_,Go.Proofs.Tryz.func76,rfl,by kernel_rfl⟩
noncomputable def d32:Rio I:=⟨231,126,[.fn [.dat 126,.dat 126] [.k (.d (.int .i64))]],[],b7V⟩
theorem d4u:b4C Go.Proofs.Tryz.prog d32:=d0S Go.Proofs.Tryz.lay231 231 (by kernel_rfl) (by kernel_rfl) Go.Proofs.Tryz.underlying126 (by kernel_rfl)
def d4l:Row I:=⟨42,[.d (.sl 9)],[.k (.row 9 false)],a0v 16⟩
theorem c9j:j5 Go.Proofs.Tryz.prog d4l:=a7B b2n mixed Go.Proofs.Tryz.func42 (by kernel_rfl) (by kernel_rfl) (by kernel_rfl) Go.Proofs.Tryz.underlying31 rfl (by kernel_rfl) (fun _=>by kernel_rfl)
def d3E:Row I:=⟨169,[.d (.sl 33)],[.k (.row 33 false)],a0v 128⟩
theorem d4E:j5 Go.Proofs.Tryz.prog d3E:=a7B b2n mixed Go.Proofs.Tryz.func169 (by kernel_rfl) (by kernel_rfl) (by kernel_rfl) Go.Proofs.Tryz.underlying28 rfl (by kernel_rfl) (fun _=>by kernel_rfl)
def b8W:Hints I:=mkH [] [] [] [] [(26,⟨65532,[],[],[(3,.k (.d (.int .i64)))],[((.exit 0),[]),(.ret,[(2,.k (.d (.bool)))])],bnd tb (.len (.slot 0)) 1⟩)] [] []
def b6a:Row I:=⟨7,[.d (.sl 22)],[.k (.d (.bool))],a5Y⟩
theorem b8l:RK (b6a) :=
 okR [] 16 b8W [.tmp 2] Go.Proofs.Tryz.func7 (by kernel_rfl)
def b7y:Hints I:=mkH [] [] [] [(29,⟨16776824,[],[],[(.normal,[(3,.k (.d (.bool))),(4,.k (.d (.bool))),(5,.k (.d (.bool))),(6,.k (.d (.bool)))])]⟩),
 (941,⟨26624,[],[],[(.normal,[(11,.k (.d (.bool)))])]⟩),
 (3773,⟨4096000,[],[],[(.normal,[(15,.k (.d (.bool)))])]⟩)] [] [] []
def b5x:Row I:=⟨60,[.d (.dat 65)],[.k (.d (.bool))],a5B⟩
theorem b6F:RK (b5x) :=
 okR [] 67 b7y [.tmp 2] Go.Proofs.Tryz.func60 (by kernel_rfl)
def c3S:Hints I:=mkH [] [] [] [] [(58,⟨34351349952,[],[],[(7,.k (.d (.int .i64)))],[((.exit 0),[]),(.ret,[(6,.k (.d (.bool)))])],bnd tb (.len (.slot 0)) 1⟩)] [] []
def c1n:Row I:=⟨170,[.d (.str),.fn [.int .u8] [.k (.d (.bool))],.fn [.int .u8] [.k (.d (.bool))]],[.k (.d (.bool))],a7Q⟩
theorem b4B:RK (c1n) :=
 okR [] 35 c3S [.tmp 6] Go.Proofs.Tryz.func170 (by kernel_rfl)
def c00:Row I:=⟨171,[.d (.int .u8)],[.k (.d (.bool))],a5w⟩
theorem a84:RK (c00) :=
 okR [] 9 Y4 [.tmp 2] Go.Proofs.Tryz.func171 (by kernel_rfl)
def c0R:Row I:=⟨173,[.d (.int .u8)],[.k (.d (.bool))],a62⟩
theorem b3y:RK (c0R) :=
 okR [] 9 Y4 [.tmp 2] Go.Proofs.Tryz.func173 (by kernel_rfl)
def b9N:Row I:=⟨172,[.d (.int .u8)],[.k (.d (.bool))],b0r⟩
theorem c01:RK (b9N) :=
 okR [eR a84,eR b3y] 13 Y4 [.tmp 2] Go.Proofs.Tryz.func172 (by kernel_rfl)
def c1I:Row I:=⟨119,[.d (.str)],[.k (.d (.bool))],a6z⟩
theorem a9H:RK (c1I) :=
 okR [eR b4B,eR a84,eR c01] 5 Y4 [.tmp 2] Go.Proofs.Tryz.func119 (by kernel_rfl)
def c06:Row I:=⟨174,[.d (.int .u8)],[.k (.d (.bool))],a67⟩
theorem b3m:RK (c06) :=
 okR [] 9 Y4 [.tmp 2] Go.Proofs.Tryz.func174 (by kernel_rfl)
def b5z:Row I:=⟨175,[.d (.int .u8)],[.k (.d (.bool))],a7S⟩
theorem b6g:RK (b5z) :=
 okR [eR a84,eR b3m,eR b3y] 17 Y4 [.tmp 2] Go.Proofs.Tryz.func175 (by kernel_rfl)
def b7a:Row I:=⟨120,[.d (.str)],[.k (.d (.bool))],a3t⟩
theorem b0i:RK (b7a) :=
 okR [eR b4B,eR b3m,eR b6g] 5 Y4 [.tmp 2] Go.Proofs.Tryz.func120 (by kernel_rfl)
def b9v:Row I:=⟨176,[.d (.dat 130)],[.k (.d (.bool))],a4Q⟩
theorem b2d:RK (b9v) :=
 okR [eR a9H] 16 Y4 [.tmp 2] Go.Proofs.Tryz.func176 (by kernel_rfl)
def c0Q:Row I:=⟨238,[.d (.int .i64)],[.k (.d (.bool))],a8R⟩
theorem c1G:RK (c0Q) :=
 okR [] 6 Y4 [.tmp 2] Go.Proofs.Tryz.func238 (by kernel_rfl)
def b8X:Row I:=⟨221,[.d (.int .i64),.d (.int .i64)],[.k (.d (.int .i64))],a0U⟩
theorem a2E:RK (b8X) :=
 okR [eR c1G] 20 Y4 [.tmp 4] Go.Proofs.Tryz.func221 (by kernel_rfl)
def a8q:Row I:=⟨239,[.d (.str),.d (.str)],[.k (.d (.int .i64))],a2V⟩
theorem a8B:RK (a8q) :=
 okR [eR d4Q] 8 Y4 [.tmp 4] Go.Proofs.Tryz.func239 (by kernel_rfl)
def b8y:Row I:=⟨216,[.d (.str),.d (.str)],[.k (.d (.int .i64))],a0l⟩
theorem a7D:RK (b8y) :=
 okR [eR a8B] 8 Y4 [.tmp 4] Go.Proofs.Tryz.func216 (by kernel_rfl)
def b6n:Row I:=⟨177,[.d (.dat 130),.d (.dat 130)],[.k (.d (.int .i64))],a0g⟩
theorem a6P:RK (b6n) :=
 okR [eR a2E,eR a7D] 19 Y4 [.tmp 4] Go.Proofs.Tryz.func177 (by kernel_rfl)
def b46:Hints I:=mkH [(4,[[],[0],[0,1],[0,1,2],[0,1,2,3],[0,1,2,3,4],[0,1,2,3,4,5],[0,1,2,3,4,5,6],[0,1,2,3,4,5,6,7],[0,1,2,3,4,5,6,7],[0,1,2,3,4,5,6,7,9],[0,1,2,3,4,5,6,7,8,9,10],[0,1,2,3,4,5,6,7,8,9,10,11],[0,1,2,3,4,5,6,7,8,9,10,11,12],[0,1,2,3,4,5,6,7],[0,1,2,3,4,5,6,7,14],[0,1,2,3,4,5,6,7,8,9,10,11,12,13,14,15],[0,1,2,3,4,5,6,7,8,9,10,11,12,13,14,15,16],[0,1,2,3,4,5,6,7,8,9,10,11,12,13,14,15,16,17],[0,1,2,3,4,5,6,7,8,9,10,11,12,13,14,15,16,17,18]])] [] [] [] [(26,⟨8589934492,[],[],[(7,.k (.d (.int .i64)))],[((.exit 0),[]),(.ret,[(2,.k (.d (.bool)))])],bnd tb (.slot 6) 1⟩)] [] []
def b24:Row I:=⟨121,[.d (.sl 148)],[.k (.d (.bool))],a4J⟩
theorem b4s:RK (b24) :=
 okR [eR b2d,eR a6P] 33 b46 [.tmp 2] Go.Proofs.Tryz.func121 (by kernel_rfl)
def b8g:Hints I:=mkH [] [] [] [(105,⟨16288,[],[],[(.normal,[(5,.k (.d (.bool)))])]⟩),
 (28311549,⟨368934881474191032320,[],[],[(.normal,[(66,.k (.d (.bool)))])]⟩)] [] [] []
def b5t:Row I:=⟨61,[.d (.dat 65)],[.k (.d (.bool))],a5A⟩
theorem b6x:RK (b5t) :=
 okR [eR a9H,eR b0i,eR b4s] 79 b8g [.tmp 2] Go.Proofs.Tryz.func61 (by kernel_rfl)
def c1P:Hints I:=mkH [] [] [] [] [(58,⟨4190248,[],[],[(3,.k (.row 3 false)),(12,.k (.d (.int .i64)))],[((.exit 0),[(3,.k (.row 3 false))])],bnd tb (.slot 11) 1⟩)] [] []
def b9q:Row I:=⟨62,[.d (.dat 65)],[.k (.row 3 false)],a7Z⟩
theorem c0U:RK (b9q) :=
 okR [eR c5t] 35 c1P [.tmp 2] Go.Proofs.Tryz.func62 (by kernel_rfl)
def b5O:Row I:=⟨123,[.d (.int .i64)],[.k (.d (.bool))],a5H⟩
theorem b6H:RK (b5O) :=
 okR [] 13 Y4 [.tmp 2] Go.Proofs.Tryz.func123 (by kernel_rfl)
def b3F (_:Nat):Hints I:=mkH [] [] [] [] [(122,⟨140462610448544,[],[(1,.k (.row 3 false))],[(38,.k (.d (.int .i64)))],[((.exit 0),[]),(.ret,[(5,.k (.d (.bool)))])],bnd tb (.slot 37) 1⟩)] [] []
def a4a (n:Nat):Row I:=⟨122,[.d (.int .i64),.var 22 (.k (.row 3 false)) true,.var 27 (.k (.d (.dat 27))) false,.var 106 (.k (.d .any)) false],[.k (.d (.bool))],Q8 n⟩
theorem b1B (n:Nat)(h_typeexpr_contractive_1:b1a Go.Proofs.Tryz.prog (a4a n) (c0C 106 122 3 [1,2,3])):b1a Go.Proofs.Tryz.prog (a4a (n+1)) (c0C 106 122 3 [1,2,3]) :=
 d3y b2n (c2a (c56 [eR b6H,eS 106 122 3 [1,2,3] h_typeexpr_contractive_1]) 3) mixed 50 (s0:=fun a=>d23 106 122 3 3 [1,2,3] (b5N tb 50 [.d (.int .i64),.var 22 (.k (.row 3 false)) true,.var 27 (.k (.d (.dat 27))) false,.var 106 (.k (.d .any)) false] a)) (fn:=Go.Proofs.Tryz.f122) (cd:=c89 Go.Proofs.Tryz.f122) (H:=(b3F n)) (rl:=[.tmp 5]) (fun X c σ a vs F h hv hC=>d1j rfl rfl rfl h hv hC) Go.Proofs.Tryz.func122 (by kernel_rfl) (by kernel_rfl) (by kernel_rfl) (by kernel_rfl) (by kernel_rfl) (by kernel_rfl) (by kernel_rfl)
theorem a7o:∀ n:Nat,b1a Go.Proofs.Tryz.prog (a4a n) (c0C 106 122 3 [1,2,3])
 | 0=>d0y (Q4 (by kernel_rfl))
 | n+1=>b1B n (a7o n)
def b4U (_:Nat):Hints I:=mkH [] [] [] [] [(250,⟨4177956,[],[(3,.k (.row 3 false))],[(14,.k (.d (.int .i64)))],[((.exit 0),[]),(.ret,[(2,.k (.d (.bool)))])],bnd tb (.slot 13) 1⟩)] [] []
def b3P (n:Nat):Row I:=⟨63,[.d (.dat 27)],[.k (.d (.bool))],a4A n⟩
theorem b4j (n:Nat):RK (b3P n) :=
 okR [eS 106 122 3 [1,2,3] (a7o n)] 22 (b4U n) [.tmp 2] Go.Proofs.Tryz.func63 (by kernel_rfl)
def b59 (_:Nat):Hints I:=mkH [] [] [] [] [(58,⟨2251799811588180,[],[],[(21,.k (.d (.int .i64)))],[((.exit 0),[]),(.ret,[(2,.k (.d (.int .i64)))])],bnd tb (.slot 20) 1⟩),
 (29902,⟨1125831187365956,[34],[],[(36,.k (.d (.int .i64)))],[((.exit 2),[]),(.ret,[(2,.k (.d (.int .i64)))])],bnd tb (.slot 35) 1⟩)] [] []
def b4e (n:Nat):Row I:=⟨29,[.d (.dat 27)],[.k (.d (.int .i64))],a0z n⟩
theorem a5N (n:Nat):RK (b4e n) :=
 okR [eR b6F,eR b6x,eR c0U,eR (b4j n)] 54 (b59 n) [.tmp 2] Go.Proofs.Tryz.func29 (by kernel_rfl)
def c4T:Hints I:=mkH [(1,[[],[0],[0,1],[],[3],[0,1,2,3,4],[0,1,2,3,4,5],[]])] [] [] [] [(26,⟨268419152,[12],[],[(14,.k (.d (.int .i64)))],[((.exit 0),[]),(.ret,[(4,.k (.d (.bool)))])],bnd tb (.slot 13) 1⟩)] [] []
def c2R:Row I:=⟨30,[.d (.dat 27),.d (.dat 37)],[.k (.d (.bool))],a5U⟩
theorem b0l:RK (c2R) :=
 okR [eR c5t] 28 c4T [.tmp 4] Go.Proofs.Tryz.func30 (by kernel_rfl)
def b3u:Hints I:=mkH [(6,[[],[],[0,1],[0,1,2],[],[],[5],[4,5,6],[4,5,6,7],[0,1,2,3,4,5,6,7,8]]),(11,[[],[],[0,1],[0,1,2],[],[],[5],[4,5,6],[4,5,6,7],[0,1,2,3,4,5,6,7,8]])] [] [] [] [(58,⟨1152921504606846012,[],[],[(0,.k (.row 3 false)),(3,.k (.d (.int .i64)))],[((.exit 0),[(0,.k (.row 3 false))]),(.ret,[(2,.k (.row 3 false))])],bnd tb (.len (.slot 0)) 1⟩)] [(59690,⟨18014397972611112,0,3,[(3,.k (.d (.int .i64))),(5,.k (.d (.int .i64)))],[((.exit 2),[(3,.k (.d (.int .i64)))])],bnd tb (.len (.slot 4)) 1⟩)] []
def b1T:Row I:=⟨116,[.row 3 false],[.k (.row 3 false)],a3G⟩
theorem b2J:RK (b1T) :=
 okR [] 61 b3u [.tmp 2] Go.Proofs.Tryz.func116 (by kernel_rfl)
def b4p:Row I:=⟨115,[.d (.sl 3)],[.k (.row 3 true)],a7f⟩
theorem b5a:RK (b4p) :=
 okR [] 9 Y4 [.tmp 2] Go.Proofs.Tryz.func115 (by kernel_rfl)
def c2k:Row I:=⟨58,[.d (.sl 3)],[.k (.row 3 true)],a5M⟩
theorem b6p:RK (c2k) :=
 okR [eR c5t,eO d4F,eR b2J,eR b5a] 11 Y4 [.tmp 2] Go.Proofs.Tryz.func58 (by kernel_rfl)
def c0P:Hints I:=mkH [(1,[[],[0],[0,1],[],[3],[0,1,2,3,4],[],[6],[0,1,2,3,4,5,6,7],[],[9],[0,1,2,3,4,5,6,7,8,9,10],[0,1,2,3,4,5,6,7,8,9,10,11],[0,1,2,3,4,5,6,7,8,9,10,11,12]])] [] [] [] [] [] []
def b8w:Row I:=⟨73,[.d (.dat 111)],[.lvs [.row 3 false,.row 3 false,.row 3 false,.row 3 false]],a5E⟩
theorem b1j:RK (b8w) :=
 okR [eR c5t] 16 c0P [.cell 2 111] Go.Proofs.Tryz.func73 (by kernel_rfl)
def b8r:Hints I:=mkH [] [] [] [(29901,⟨4293918720,[],[(10,.lvs [.row 3 false,.row 3 false,.row 3 false,.row 3 false])],[(.normal,[])]⟩)] [(58,⟨137438946944,[],[],[(7,.k (.row 111 false)),(13,.k (.d (.int .i64)))],[((.exit 0),[(7,.k (.row 111 false))])],bnd tb (.slot 12) 1⟩)] [] []
def b6N:Row I:=⟨134,[.d (.dat 111),.d (.sl 3),.d (.bool)],[.k (.row 111 false)],a11⟩
theorem b7H:RK (b6N) :=
 okR [eR b1j] 38 b8r [.tmp 6] Go.Proofs.Tryz.func134 (by kernel_rfl)
def b8O:Hints I:=mkH [(14,[[],[0],[],[2],[2,3],[2,3,4],[2,3,4,5],[0,1,2,3,4,5,6],[0,1,2,3,4,5,6,7],[0,1,2,3,4,5,6,7,8]]),(30,[[],[0],[],[2],[2,3],[2,3,4],[2,3,4,5],[0,1,2,3,4,5,6],[0,1,2,3,4,5,6,7],[0,1,2,3,4,5,6,7,8]])] [] [] [(509,⟨170141183455517471574545782616287608848,[],[(2,.lvs [.d (.sl 3),.d (.sl 3),.d (.sl 3),.d (.sl 3)])],[(.normal,[]),(.ret,[(4,.k (.row 111 false))])]⟩),
 (1757,⟨590295810341525782544,[],[(2,.lvs [.d (.sl 3),.d (.sl 3),.d (.sl 3),.d (.sl 3)])],[(.normal,[]),(.ret,[(4,.k (.row 111 false))])]⟩)] [] [] []
def b54:Row I:=⟨74,[.val (.lvs [.row 3 false,.row 3 false,.row 3 false,.row 3 false]),.d (.dat 27)],[.k (.row 111 false)],a4o⟩
theorem b7d:RK (b54) :=
 okR [eR b7H] 129 b8O [.tmp 4] Go.Proofs.Tryz.func74 (by kernel_rfl)
def c5b:Hints I:=mkH [(1,[[],[0],[0,1],[],[3],[0,1,2,3,4],[],[6],[0,1,2,3,4,5,6,7],[0,1,2,3,4,5,6,7,8]])] [] [] [] [] [] []
def c3k:Row I:=⟨27,[.d (.dat 37)],[.k (.d (.dat 37))],a7c⟩
theorem b0t:RK (c3k) :=
 okR [eR b6p] 12 c5b [.cell 2 37] Go.Proofs.Tryz.func27 (by kernel_rfl)
def d0c:Row I:=⟨75,[.d (.dat 37)],[.k (.d (.str))],b2R⟩
def b2F (c:UInt8)(xs:List Int)(q:Nat×List UInt8):Option (Fl (Nat×List UInt8) (List UInt8)):=match xs[q.1]? with
 | some n=>(a89 c q.2 n).map fun b=>.next (q.1+1,b)
 | none=>some (.done q.2)
theorem b7S {c:UInt8}{xs:List Int}:∀ (m i:Nat) {b r:List UInt8},xs.length-i=m->i<=xs.length->a7J c (xs.drop i) b=some r->iter (b2F c xs) (m+1) (i,b)=some r
 | 0,i,b,r,hm,hi,h=>by
   have e:i=xs.length:=by omega
   subst e
   rw [List.drop_length] at h
   cases h
   simp [iter,b2F]
 | m+1,i,b,r,hm,hi,h=>by
   have hlt:i<xs.length:=by omega
   rw [List.drop_eq_getElem_cons hlt] at h
   obtain ⟨b',h1,h2⟩:=bind_some h
   have:=b7S m (i+1) (by omega) (by omega) h2
   simp only [iter,b2F,List.getElem?_eq_getElem hlt,h1,Option.map_some]
   exact this
theorem d5m {P:Program}{w:World}{T:TypeId}{x y:Operand}{s t:ByteArray}(h:s.size+t.size<=1000000) :
 Y0 P w (do eqGuard .add T x y (.string s) (.string t); binOp .add T (.string s) (.string t)) (.string (s++t)):=by
 simp [Y0,eqGuard_at_string,binOp,Op.stringOp]
 omega
theorem d5K:a2a Go.Proofs.Tryz.prog 135:=⟨_,_,Go.Proofs.Tryz.func135,rfl,by kernel_rfl⟩
theorem d3c:a2a Go.Proofs.Tryz.prog 136:=⟨_,_,Go.Proofs.Tryz.func136,rfl,by kernel_rfl⟩
theorem d3d:a2a Go.Proofs.Tryz.prog 137:=⟨_,_,Go.Proofs.Tryz.func137,rfl,by kernel_rfl⟩
theorem d5W:a2a Go.Proofs.Tryz.prog 138:=⟨_,_,Go.Proofs.Tryz.func138,rfl,by kernel_rfl⟩
theorem c8e {n:Nat}(h:n<100)(w:World):Calls Go.Proofs.Tryz.prog 137 [Value.int .i64 (n:Int)].toArray w fun e w'=>e=.returned (.string ⟨(a3N n).toArray⟩)/\w'=w:=by
 have:=Go.Proofs.Any.strconv_Itoa_small Go.Proofs.Tryz.lay137 n h w
 rw [<- d0Q h] at this
 exact this
def c0p (σ:S):Nat->Nat×Nat:=fun b=>if b<σ.N then σ.L b else (0,0)
theorem b9g {σ:S}{w:World}(h:Bw σ.N σ.w w):Wext σ ⟨w,c0p σ⟩ :=
 ⟨h.below.size,fun b hb=>by simp [c0p,hb],fun b o v ho hc=>(a2p (h.below.block b (a5v hc)) o).trans hc,h.drawn⟩
theorem c4j (l m:List UInt8):Lib.byteCells (l++m)=Lib.byteCells l++Lib.byteCells m:=by simp [Lib.byteCells]
theorem c1j (l:List UInt8):Lib.strCells ⟨l.toArray⟩=Lib.byteCells l:=by simp [Lib.strCells,Lib.byteCells]
theorem b8f (n:Nat):(a3N n).length<=2:=by
 unfold a3N
 cases Nat.blt n 10<;>simp
theorem d2I {P:Program}{w:World}{T:TypeId}{x y:Operand}{c:UInt8}{l:List UInt8}(h:l.length<=2) :
 Y0 P w (do eqGuard .add T x y (.string ⟨#[c]⟩) (.string ⟨l.toArray⟩); binOp .add T (.string ⟨#[c]⟩) (.string ⟨l.toArray⟩)) (.string ⟨(c::l).toArray⟩):=by
 have:=d5m (P:=P) (w:=w) (T:=T) (x:=x) (y:=y) (s:=⟨#[c]⟩) (t:=⟨l.toArray⟩) (by simp [ByteArray.size]; omega)
 have e:(⟨#[c]⟩++⟨l.toArray⟩:ByteArray)=⟨(c::l).toArray⟩:=by
  apply ByteArray.ext
  simp
 rw [e] at this
 exact this
theorem c7u {c:UInt8}{b r:List UInt8}{n:Int}(h:a89 c b n=some r):r.length<=1000003/\b.length<=r.length:=by
 unfold a89 at h
 obtain ⟨hc,h⟩:=k7 h
 cases h
 simp only [Bool.and_eq_true] at hc
 have:=Nat.le_of_ble_eq_true hc.2
 have:=b8f n.toNat
 simp
 omega
theorem b35 {c:UInt8}:∀ {xs:List Int} {b r:List UInt8},a7J c xs b=some r->b.length<=1000003->r.length<=1000003
 | [],b,r,h,hb=>by cases h; exact hb
 | n::xs,b,r,h,hb=>by
   obtain ⟨b',h1,h2⟩:=bind_some h
   exact b35 h2 (c7u h1).1
theorem c7j (w:World)(a:Addr)(n:Nat):(w.freeze a n).drawn=w.drawn:=by unfold World.freeze; split<;>rfl
theorem d6g {b B:Nat}{l:List UInt8}{w:World}(h:Lib.IsBuilder 156 5 B b (Lib.byteCells l) w)(hn:l=[]->w.heap[b]?=some (.cells #[.pointer none,.slice none 0 0] 156 (0,0)))(hl:l.length<=1000003) :
 Calls Go.Proofs.Tryz.prog 138 [J9 b].toArray w fun e w'=>e=.returned (.string ⟨l.toArray⟩)/\Bw B w w':=by
 have hdrew:Bw B w w.drew:=⟨(Below.refl B w).drew,Nat.le_succ _⟩
 by_cases h0:l=[]
 ·subst h0
  exact (Go.Proofs.Tryz.bstr0 (hn rfl)).mono fun e w' ⟨h1,h2⟩=>⟨h1,by subst h2; exact hdrew⟩
 ·obtain ⟨p,_,hB,v,hb,hown,hne⟩:=c9e h
  rw [Lib.byteCells_length] at hown
  rcases hown.2 with ⟨_,hz⟩ | ⟨g,cap,cur,rfl,hbg,hg,hnc,hcm,hcs,htake⟩
  ·exact absurd (List.length_eq_zero_iff.1 hz) h0
  ·refine (Go.Proofs.Tryz.bstr1 (l:=l) hb hg h0 hnc (by simpa using hcs) (by omega) fun j x hx=>?_).mono fun e w' ⟨h1,h2⟩=>⟨h1,?_⟩
   ·have h3:(Lib.byteCells l)[j]?=some (.int .u8 x.toNat):=by simp [Lib.byteCells,hx]
    rw [<- htake,List.getElem?_take] at h3
    split at h3
    ·rw [<- Array.getElem?_toList]; exact h3
    ·cases h3
   ·subst h2
    exact hdrew.trans ⟨Lib.below_freeze (Below.refl B w.drew) (p:=⟨g,0,none⟩) hbg _,Nat.le_of_eq (c7j _ _ _).symm⟩
theorem c6U {i:Nat}(h:i<9223372036854775807):wr .i64 ((i:Int)+1)=((i+1:Nat):Int):=by
 show IntKind.i64.wrap ((i:Int)+1)=_
 rw [IntKind.wrap_i64]
 omega
theorem c2J:j5 Go.Proofs.Tryz.prog d0c:=by
 refine c6b b2n 38 Go.Proofs.Tryz.func75 rfl (by kernel_rfl) rfl rfl rfl fun X c σ F Q a res hX hrel happ hk=>?_
 have happ:b2R a.1=some res:=happ
 obtain ⟨g,hg,happ⟩:=bind_some happ
 obtain ⟨b1,hb1,happ⟩:=bind_some happ
 obtain ⟨b2,hb2,happ⟩:=bind_some happ
 have h0:=hrel.frame 0 (.dat 37 a.1) rfl
 simp only [RV] at h0
 obtain ⟨cs,hF0,hcs⟩:=h0
 refine wp_seq (wp_region_lit ?_)
 refine d26 (B:=σ.N) 0 (Nat.le_refl _) (.agg cs.toArray) cs hF0 rfl rfl fun τ1 bx hx1 hblk=>?_
 refine a3x (.string ⟨#[]⟩) rfl rfl ?_
 refine wpList_nil (a0i (wp_seq (wp_region_lit ?_)))
 have hcs1:Rp.cells τ1 a.1 cs:=Rp.mono hx1.wext hcs
 have hl3:cs.length=3:=Rp.len (self:=rI 37) hcs
 have t37:c0n Go.Proofs.Tryz.prog 37 3:=⟨_,Go.Proofs.Tryz.underlying37,rfl,by kernel_rfl⟩
 refine a4m bx 0 (.agg cs.toArray) rfl rfl (c4H (hl3▸t37) (fun j v hv=>by rw [Nat.zero_add,hblk.cell]; exact hv)) ?_
 have hcall:=b0t τ1 (a.1,()) [.agg cs.toArray] [] g ⟨_,_,[],[],rfl,rfl,⟨⟨cs,rfl,hcs1⟩,rfl⟩,rfl,rfl⟩ List.nodup_nil hg
 refine b08 (o := ⟨some 9, .call ⟨.value (.func 27), #[.tmp 8], #[37]⟩, 37, "core.go:142", #[⟨0, .data⟩], none⟩) rfl hcall (c14 (xs := [.tmp 8]) rfl τ1.w) fun v9 τ2 st2 hpost => ?_
 obtain ⟨ws,us,pls',hpost⟩:=hpost
 obtain ⟨v,hws,⟨cs',hv,hcs2⟩,-⟩:=hpost.tt
 have hlen:=hpost.len
 have hret:=hpost.ret
 obtain ⟨rfl,rfl⟩:ws=[v]/\us=[]:=by
  rcases ws with _ | ⟨u,ws⟩
  ·cases hlen
  ·rcases ws with _ | ⟨u',ws⟩
   ·simp at hws; exact ⟨by rw [hws.1],hws.2⟩
   ·cases hlen
 have hret:v9=v:=hret
 subst hret
 subst hv
 have hl3':cs'.length=3:=Rp.len (self:=rI 37) hcs2
 have hne1:¬ bx∈ows ([]:List Pl):=fun h=>by cases h
 obtain ⟨k1,k2⟩:=st2.block bx hblk.lt hne1
 have hbl:(τ1.L bx)=(0,0):=hblk.2.2
 have hblk2:Blk σ.N 0 ⟨τ2.w,fun k=>if k=bx then (0,0) else τ2.L k⟩ bx 37 cs:=⟨hblk.1,k1.trans hblk.2.1,by simp⟩
 have hw2:Wext τ2 ⟨τ2.w,fun k=>if k=bx then (0,0) else τ2.L k⟩:=⟨Nat.le_refl _,fun k _=>by
  by_cases e:k=bx
  ·subst e; rw [k2,hbl]; exact Nat.zero_le _
  ·simp [e],fun _ _ _ _ h=>h,Nat.le_refl _⟩
 have hall:cs'.all (·.oneCell')=true:=List.all_eq_true.2 fun u hu=>Rp.one (self:=rI 37) hcs2 u hu
 refine c0N (σ:=⟨τ2.w,fun k=>if k=bx then (0,0) else τ2.L k⟩) hblk2 0 (.agg cs'.toArray) cs' cs' rfl rfl rfl rfl rfl (by rw [hl3']; kernel_rfl) hall (by rw [hl3',hl3]; rfl) (by rw [List.take_zero,Nat.zero_add,hl3',<- hl3,List.drop_length]; simp) fun τ3 hm3 hblk3=>?_
 have hcs3:=Rp.mono (self:=rI 37) (hw2.trans hm3.wext) hcs2
 refine wpList_nil (a0i (wp_seq (wp_region_lit ?_)))
 refine c7X (B:=τ3.N) 0 (Nat.le_refl _) (.agg #[.pointer none,.slice none 0 0]) [.pointer none,.slice none 0 0] (J3 (T:=156) (size:=2) (bytes:=32) (by kernel_rfl)) rfl fun τ4 b hx4 hb4=>?_
 have h4:Bw τ3.N τ3.w τ4.w:=⟨hx4.below,hx4.drawn⟩
 have hbuild:Lib.IsBuilder 156 5 τ3.N b [] τ4.w:=.inl ⟨hb4.1,.slice none 0 0,hb4.2.1,World.ownsRow_nil _ _ _ _,by simp [Value.ownBlock]⟩
 obtain ⟨cc1,cr1,e1,⟨A1,k1c,ec1,hs1⟩,cc2,cr2,e2,⟨A2,k2c,ec2,hs2⟩,hc3⟩:=hcs3
 have hcs':cs'=[.slice A1 g.Pos.length k1c,.slice A2 g.Neg.length k2c,.bool g.Lists]:=by
  have hc3:cr2=[.bool g.Lists]:=hc3
  rw [e1,e2,ec1,ec2,hc3]; rfl
 have hbxw:∀ w,Bw τ3.N τ3.w w->∀ i,w.cell? ⟨bx,i,none⟩=cs'[i]?:=fun w h i=>by rw [a2p (h.below.block bx hblk3.lt)]; exact hblk3.cell i
 have t22:a2K Go.Proofs.Tryz.prog 22:=⟨_,Go.Proofs.Tryz.underlying22,rfl,by kernel_rfl⟩
 have t3:a2K Go.Proofs.Tryz.prog 3:=⟨_,Go.Proofs.Tryz.underlying3,rfl,by kernel_rfl⟩
 have t4:a2K Go.Proofs.Tryz.prog 4:=⟨_,Go.Proofs.Tryz.underlying4,rfl,by kernel_rfl⟩
 refine wpList_nil (a0i (c2b (fun a w=>∃ F',a=fr 38 F'/\F' 1=.pointer (some ⟨bx,0,none⟩)/\F' 3=J9 b/\Bw τ3.N τ3.w w/\Lib.IsBuilder 156 5 τ3.N b (Lib.byteCells (bif g.Lists then [108] else []:List UInt8)) w/\((bif g.Lists then [108] else []:List UInt8)=[]->w.heap[b]?=some (.cells #[.pointer none,.slice none 0 0] 156 (0,0)))) ?_ ?_))
 ·refine wp_seq (wp_region_lit ?_)
  refine a1i bx 0 2 2 rfl rfl (⟨_,_,Go.Proofs.Tryz.underlying37,rfl,rfl,by kernel_rfl⟩) rfl ?_
  refine a4m bx 2 (.bool g.Lists) rfl rfl (a3P t4 ((hbxw τ4.w h4 2).trans (by rw [hcs']; rfl))) ?_
  refine wpList_nil (a0i ?_)
  rcases hL:g.Lists with _ | _
  ·refine b2Z (c:=false) (by rw [<- hL]; rfl) rfl rfl (wp_skip ?_)
   exact ⟨rfl,_,rfl,rfl,rfl,h4,hbuild,fun _=>hb4.2.1⟩
  ·refine c0e (c:=true) (by rw [<- hL]; rfl) rfl rfl (wp_region_lit ?_)
   refine a9a [J9 b,.int .u8 108] rfl rfl d5K (bwb hbuild (by decide) h4.below.size) ?_
   rintro e w5 ⟨⟨v,rfl⟩,hat,hbw5⟩
   exact ⟨_,rfl,wpList_nil ⟨rfl,_,rfl,rfl,rfl,h4.trans hbw5,.inr hat,fun h=>by simp at h⟩⟩
 rintro a0 w0 h0
 refine c2b (fun a w=>∃ F',a=fr 38 F'/\F' 1=.pointer (some ⟨bx,0,none⟩)/\F' 3=J9 b/\Bw τ3.N τ3.w w/\Lib.IsBuilder 156 5 τ3.N b (Lib.byteCells b1) w/\(b1=[]->w.heap[b]?=some (.cells #[.pointer none,.slice none 0 0] 156 (0,0)))) ?_ ?_
 ·revert a0 w0 h0
  rintro a1 w1 ⟨F1,rfl,f1,f3,hbw1,hbd1,hn1⟩
  refine wp_seq (wp_region_lit ?_)
  refine a1i bx 0 0 0 f1 rfl (⟨_,_,Go.Proofs.Tryz.underlying37,rfl,rfl,by kernel_rfl⟩) rfl ?_
  refine a4m bx 0 (.slice A1 g.Pos.length k1c) rfl rfl (a3P t22 ((hbxw w1 hbw1 0).trans (by rw [hcs']; rfl))) ?_
  refine b2p A1 g.Pos.length k1c rfl rfl Go.Proofs.Tryz.underlying22 ?_
  refine a1V (.int .i64 0) rfl rfl ?_
  refine wpList_nil (a0i (wp_block ?_))
  refine wp_mono (b5V (step:=b2F 43 g.Pos) (fun q a w=>∃ F',a=fr 38 F'/\F' 1=.pointer (some ⟨bx,0,none⟩)/\F' 3=J9 b/\F' 14=.slice A1 g.Pos.length k1c/\F' 15=.int .i64 (g.Pos.length:Int)/\F' 16=.int .i64 (q.1:Int)/\Bw τ3.N τ3.w w/\Lib.IsBuilder 156 5 τ3.N b (Lib.byteCells q.2) w/\(q.2=[]->w.heap[b]?=some (.cells #[.pointer none,.slice none 0 0] 156 (0,0)))/\q.1<=g.Pos.length) (fun r e a w=>e=.exit 0/\∃ F',a=fr 38 F'/\F' 1=.pointer (some ⟨bx,0,none⟩)/\F' 3=J9 b/\Bw τ3.N τ3.w w/\Lib.IsBuilder 156 5 τ3.N b (Lib.byteCells r) w/\(r=[]->w.heap[b]?=some (.cells #[.pointer none,.slice none 0 0] 156 (0,0)))) (by rintro _ _ _ ⟨h,_⟩; cases h) ?_ _ (0,(bif g.Lists then [108] else [])) b1 _ _ (b7S (g.Pos.length-0) 0 rfl (Nat.zero_le _) hb1) ⟨_,rfl,f1,f3,rfl,rfl,rfl,hbw1,hbd1,fun h=>hn1 h,Nat.zero_le _⟩) ?_
  ·rintro ⟨i,bs⟩ fl a2 w2 hst ⟨F2,rfl,g1,g3,g14,g15,g16,hbw2,hbd2,hn2,hi⟩
   refine wp_seq (wp_region_lit ?_)
   refine a9T (.int .i64 (i:Int)) (.int .i64 (g.Pos.length:Int)) (.bool (decide ((i:Int)<(g.Pos.length:Int)))) g16 g15 rfl rfl c8M ?_
   refine wpList_nil (a0i (wp_seq ?_))
   rcases hx:(g.Pos)[i]? with _ | n
   ·simp only [b2F,hx] at hst
    cases hst
    have hge:(g.Pos).length<=i:=List.getElem?_eq_none_iff.1 hx
    refine b2Z rfl (decide_eq_false (by omega)) rfl (wp_exit ?_)
    exact c72 ⟨rfl,_,rfl,g1,g3,hbw2,hbd2,hn2⟩
   ·simp only [b2F,hx,Option.map_eq_some_iff] at hst
    obtain ⟨bs',hit,rfl⟩:=hst
    have hlt:i<(g.Pos).length:=(List.getElem?_eq_some_iff.1 hx).1
    unfold a89 at hit
    obtain ⟨hcond,hit⟩:=k7 hit
    cases hit
    simp only [Bool.and_eq_true,decide_eq_true_eq] at hcond
    obtain ⟨⟨n0,n1⟩,nl⟩:=hcond
    have nl:bs.length<=1000000:=Nat.le_of_ble_eq_true nl
    refine c0e rfl (decide_eq_true (by omega)) rfl (wp_skip (a0i (wp_seq (wp_block (wp_seq (wp_region_lit ?_))))))
    refine b5v (σ:=⟨w2,c0p τ3⟩) (hs1.mono (b9g hbw2)) (show idx g.Pos (i:Int)=some n by simp [idx,hx]) g14 g16 rfl rfl Go.Proofs.Tryz.underlying22 (by kernel_rfl) fun bb o ccs hc hse=>?_
    have hc:ccs=[.int .i64 n]:=hc
    subst hc
    refine a4m bb o (.int .i64 n) rfl rfl (a3P t3 (hse.2 0 _ rfl)) ?_
    refine a3x (.int .i64 n) rfl rfl ?_
    refine wpList_nil (a0i (wp_region_lit ?_))
    refine a1V (.int .i64 n) rfl rfl ?_
    have hn:((n.toNat:Nat):Int)=n:=by omega
    refine a9a [.int .i64 n] rfl rfl d3d (by have:=c8e (n:=n.toNat) (by omega) w2; rw [hn] at this; exact this) ?_
    rintro e w3 ⟨rfl,rfl⟩
    refine ⟨_,rfl,?_⟩
    have hdl:(a3N n.toNat).length<=2:=b8f _
    refine a9T (.string ⟨#[43]⟩) (.string ⟨(a3N n.toNat).toArray⟩) (.string ⟨(43::a3N n.toNat).toArray⟩) rfl rfl rfl rfl (d2I hdl) ?_
    have hsz:(⟨(43::a3N n.toNat).toArray⟩:ByteArray).size<=3:=by simp [ByteArray.size]; omega
    refine a9a [J9 b,.string ⟨(43::a3N n.toNat).toArray⟩] (by rw [List.map_cons,List.map_cons,List.map_nil]; exact congrArg (·::_) g3) rfl d3c (bws hbd2 (by show (Lib.byteCells bs).length+_<=_; rw [Lib.byteCells_length]; omega) hbw2.below.size) ?_
    rintro e w4 ⟨⟨v,rfl⟩,hat,hbw4⟩
    refine ⟨_,rfl,?_⟩
    refine wpList_nil (d40 (a0i (wp_region_lit ?_)))
    refine a9T (.int .i64 (i:Int)) (.int .i64 1) (.int .i64 (wr .i64 ((i:Int)+1))) g16 rfl rfl rfl c8Q ?_
    refine a1V (.int .i64 (wr .i64 ((i:Int)+1))) rfl rfl ?_
    have hwr:wr .i64 ((i:Int)+1)=((i+1:Nat):Int):=c6U (by have l1:(g.Pos).length<=k1c:=hs1.1; have l2:k1c<=maxLen:=hs1.2.1; unfold maxLen at l2; omega)
    refine wpList_nil ⟨rfl,_,rfl,g1,g3,g14,g15,congrArg _ hwr,hbw2.trans hbw4,.inr ?_,fun h=>by simp at h,hlt⟩
    rw [c1j,<- c4j] at hat
    exact hat
  ·rintro r e a2 ⟨rfl,F2,rfl,g1,g3,hbw2,hbd2,hn2⟩
   exact d4L ⟨rfl,F2,rfl,g1,g3,hbw2,hbd2,hn2⟩
 rintro a5 w5 h5
 refine c2b (fun a w=>∃ F',a=fr 38 F'/\F' 1=.pointer (some ⟨bx,0,none⟩)/\F' 3=J9 b/\Bw τ3.N τ3.w w/\Lib.IsBuilder 156 5 τ3.N b (Lib.byteCells b2) w/\(b2=[]->w.heap[b]?=some (.cells #[.pointer none,.slice none 0 0] 156 (0,0)))) ?_ ?_
 ·revert a5 w5 h5
  rintro a1 w1 ⟨F1,rfl,f1,f3,hbw1,hbd1,hn1⟩
  refine wp_seq (wp_region_lit ?_)
  refine a1i bx 0 1 1 f1 rfl (⟨_,_,Go.Proofs.Tryz.underlying37,rfl,rfl,by kernel_rfl⟩) rfl ?_
  refine a4m bx 1 (.slice A2 g.Neg.length k2c) rfl rfl (a3P t22 ((hbxw w1 hbw1 1).trans (by rw [hcs']; rfl))) ?_
  refine b2p A2 g.Neg.length k2c rfl rfl Go.Proofs.Tryz.underlying22 ?_
  refine a1V (.int .i64 0) rfl rfl ?_
  refine wpList_nil (a0i (wp_block ?_))
  refine wp_mono (b5V (step:=b2F 45 g.Neg) (fun q a w=>∃ F',a=fr 38 F'/\F' 1=.pointer (some ⟨bx,0,none⟩)/\F' 3=J9 b/\F' 26=.slice A2 g.Neg.length k2c/\F' 27=.int .i64 (g.Neg.length:Int)/\F' 28=.int .i64 (q.1:Int)/\Bw τ3.N τ3.w w/\Lib.IsBuilder 156 5 τ3.N b (Lib.byteCells q.2) w/\(q.2=[]->w.heap[b]?=some (.cells #[.pointer none,.slice none 0 0] 156 (0,0)))/\q.1<=g.Neg.length) (fun r e a w=>e=.exit 2/\∃ F',a=fr 38 F'/\F' 1=.pointer (some ⟨bx,0,none⟩)/\F' 3=J9 b/\Bw τ3.N τ3.w w/\Lib.IsBuilder 156 5 τ3.N b (Lib.byteCells r) w/\(r=[]->w.heap[b]?=some (.cells #[.pointer none,.slice none 0 0] 156 (0,0)))) (by rintro _ _ _ ⟨h,_⟩; cases h) ?_ _ (0,b1) b2 _ _ (b7S (g.Neg.length-0) 0 rfl (Nat.zero_le _) hb2) ⟨_,rfl,f1,f3,rfl,rfl,rfl,hbw1,hbd1,fun h=>hn1 h,Nat.zero_le _⟩) ?_
  ·rintro ⟨i,bs⟩ fl a2 w2 hst ⟨F2,rfl,g1,g3,g14,g15,g16,hbw2,hbd2,hn2,hi⟩
   refine wp_seq (wp_region_lit ?_)
   refine a9T (.int .i64 (i:Int)) (.int .i64 (g.Neg.length:Int)) (.bool (decide ((i:Int)<(g.Neg.length:Int)))) g16 g15 rfl rfl c8M ?_
   refine wpList_nil (a0i (wp_seq ?_))
   rcases hx:(g.Neg)[i]? with _ | n
   ·simp only [b2F,hx] at hst
    cases hst
    have hge:(g.Neg).length<=i:=List.getElem?_eq_none_iff.1 hx
    refine b2Z rfl (decide_eq_false (by omega)) rfl (wp_exit ?_)
    exact c72 ⟨rfl,_,rfl,g1,g3,hbw2,hbd2,hn2⟩
   ·simp only [b2F,hx,Option.map_eq_some_iff] at hst
    obtain ⟨bs',hit,rfl⟩:=hst
    have hlt:i<(g.Neg).length:=(List.getElem?_eq_some_iff.1 hx).1
    unfold a89 at hit
    obtain ⟨hcond,hit⟩:=k7 hit
    cases hit
    simp only [Bool.and_eq_true,decide_eq_true_eq] at hcond
    obtain ⟨⟨n0,n1⟩,nl⟩:=hcond
    have nl:bs.length<=1000000:=Nat.le_of_ble_eq_true nl
    refine c0e rfl (decide_eq_true (by omega)) rfl (wp_skip (a0i (wp_seq (wp_block (wp_seq (wp_region_lit ?_))))))
    refine b5v (σ:=⟨w2,c0p τ3⟩) (hs2.mono (b9g hbw2)) (show idx g.Neg (i:Int)=some n by simp [idx,hx]) g14 g16 rfl rfl Go.Proofs.Tryz.underlying22 (by kernel_rfl) fun bb o ccs hc hse=>?_
    have hc:ccs=[.int .i64 n]:=hc
    subst hc
    refine a4m bb o (.int .i64 n) rfl rfl (a3P t3 (hse.2 0 _ rfl)) ?_
    refine a3x (.int .i64 n) rfl rfl ?_
    refine wpList_nil (a0i (wp_region_lit ?_))
    refine a1V (.int .i64 n) rfl rfl ?_
    have hn:((n.toNat:Nat):Int)=n:=by omega
    refine a9a [.int .i64 n] rfl rfl d3d (by have:=c8e (n:=n.toNat) (by omega) w2; rw [hn] at this; exact this) ?_
    rintro e w3 ⟨rfl,rfl⟩
    refine ⟨_,rfl,?_⟩
    have hdl:(a3N n.toNat).length<=2:=b8f _
    refine a9T (.string ⟨#[45]⟩) (.string ⟨(a3N n.toNat).toArray⟩) (.string ⟨(45::a3N n.toNat).toArray⟩) rfl rfl rfl rfl (d2I hdl) ?_
    have hsz:(⟨(45::a3N n.toNat).toArray⟩:ByteArray).size<=3:=by simp [ByteArray.size]; omega
    refine a9a [J9 b,.string ⟨(45::a3N n.toNat).toArray⟩] (by rw [List.map_cons,List.map_cons,List.map_nil]; exact congrArg (·::_) g3) rfl d3c (bws hbd2 (by show (Lib.byteCells bs).length+_<=_; rw [Lib.byteCells_length]; omega) hbw2.below.size) ?_
    rintro e w4 ⟨⟨v,rfl⟩,hat,hbw4⟩
    refine ⟨_,rfl,?_⟩
    refine wpList_nil (d40 (a0i (wp_region_lit ?_)))
    refine a9T (.int .i64 (i:Int)) (.int .i64 1) (.int .i64 (wr .i64 ((i:Int)+1))) g16 rfl rfl rfl c8Q ?_
    refine a1V (.int .i64 (wr .i64 ((i:Int)+1))) rfl rfl ?_
    have hwr:wr .i64 ((i:Int)+1)=((i+1:Nat):Int):=c6U (by have l1:(g.Neg).length<=k2c:=hs2.1; have l2:k2c<=maxLen:=hs2.2.1; unfold maxLen at l2; omega)
    refine wpList_nil ⟨rfl,_,rfl,g1,g3,g14,g15,congrArg _ hwr,hbw2.trans hbw4,.inr ?_,fun h=>by simp at h,hlt⟩
    rw [c1j,<- c4j] at hat
    exact hat
  ·rintro r e a2 ⟨rfl,F2,rfl,g1,g3,hbw2,hbd2,hn2⟩
   exact d4L ⟨rfl,F2,rfl,g1,g3,hbw2,hbd2,hn2⟩
 rintro a6 w6 ⟨F6,rfl,f1,f3,hbw6,hbd6,hn6⟩
 refine wp_seq (wp_region_lit ?_)
 refine a9a [J9 b] (congrArg (·::_) f3) rfl d5W (d6g hbd6 hn6 (b35 hb2 (b35 hb1 (by cases g.Lists<;>decide)))) ?_
 rintro e w7 ⟨rfl,hbw7⟩
 refine ⟨_,rfl,?_⟩
 refine a3x (.string ⟨b2.toArray⟩) rfl rfl ?_
 refine wpList_nil (a0i (wp_ret ?_))
 have hb7:Bw τ3.N τ3.w w7:=hbw6.trans hbw7
 have hr:(⟨b2.toArray⟩:ByteArray)=res:=Option.some.inj happ
 have hA:Bw σ.N σ.w τ1.w:=⟨hx1.below,hx1.drawn⟩
 have hB:Bw σ.N τ1.w τ2.w:=⟨⟨st2.os,st2.tape,st2.output,st2.wext.size,fun k hk=>(st2.block k (Nat.lt_of_lt_of_le hk hx1.below.size) (fun h=>by cases h)).1⟩,st2.wext.drawn⟩
 have hC:Bw σ.N τ2.w τ3.w:=⟨⟨hm3.os,hm3.tape,hm3.output,hm3.wext.size,fun k hk=>(hm3.block k (Nat.lt_of_lt_of_le hk (hA.trans hB).below.size) (.inl hk)).1⟩,hm3.wext.drawn⟩
 have hD:Bw σ.N τ3.w w7:=⟨hb7.below.mono ((hA.trans hB).trans hC).below.size,hb7.drawn⟩
 have hE:=((hA.trans hB).trans hC).trans hD
 subst hr
 refine hk .ret ⟨38,fun i=>bif Nat.beq i 2 then some (.str ⟨b2.toArray⟩) else none,fun _=>none,0⟩ c ⟨w7,c0p σ⟩ _ ?_ (Cx.le_refl c) ⟨rfl,(fun i p hp=>?_),(fun l o ho=>by cases ho),(fun _ _ _ _ _ ⟨_,h⟩=>by cases h),(fun _ _ _ ⟨_,h⟩=>by cases h),(fun l _=>hrel.nom l rfl),Nat.le_trans hrel.base hE.below.size,noN.nests fun _ _ _ _ _ _ h=>by cases h⟩
  ⟨b9g hE,hE.below.os,hE.below.tape,hE.below.output,fun k hk _=>⟨hE.below.block k hk,by simp [c0p,hk]⟩⟩
 ·rfl
 ·have hp:(bif Nat.beq i 2 then some (PV.str ⟨b2.toArray⟩) else none)=some p:=hp
  obtain ⟨hi,hp⟩:=k7 hp
  cases hp
  have:=Nat.eq_of_beq_eq_true hi
  subst this
  simp only [RV]
  rfl
theorem d5s:j5 Go.Proofs.Tryz.prog d0c:=c2J
def c0Y (n:Nat):Hints I:=mkH [(1,[[],[0],[0,1],[],[3],[0,1,2,3,4],[0,1,2,3,4,5],[0,1,2,3,4,5,6],[0,1,2,3,4,5,6,7]])] [] [] [] [(124,⟨295147905179351779232,[],[],[(5,.k (.row 111 false)),(6,.k (.map 113 (.bool))),(7,.k (.row 37 false))],[((.exit 0),[(6,.k (.map 113 (.bool))),(7,.k (.row 37 false))])],fun _=>some n⟩)] [] []
def b8V (n:Nat):Row I:=⟨36,[.d (.dat 27),.d (.dat 37)],[.k (.row 37 false)],a7s n⟩
theorem b9j (n:Nat):RK (b8V n) :=
 okR [eR b6p,eR b1j,eR b7d,eR b0t,eR d5s] 69 (c0Y n) [.tmp 4] Go.Proofs.Tryz.func36 (by kernel_rfl)
def a9K:Hints I:=mkH [(6,[[],[],[0,1],[0,1,2],[],[],[5],[4,5,6],[4,5,6,7],[0,1,2,3,4,5,6,7,8]]),(11,[[],[],[0,1],[0,1,2],[],[],[5],[4,5,6],[4,5,6,7],[0,1,2,3,4,5,6,7,8]])] [] [] [] [(58,⟨1152921504606846012,[],[],[(0,.k (.row 9 false)),(3,.k (.d (.int .i64)))],[((.exit 0),[(0,.k (.row 9 false))]),(.ret,[(2,.k (.row 9 false))])],bnd tb (.len (.slot 0)) 1⟩)] [(59690,⟨18014397972611112,0,9,[(3,.k (.d (.int .i64))),(5,.k (.d (.int .i64)))],[((.exit 2),[(3,.k (.d (.int .i64)))])],bnd tb (.len (.slot 4)) 1⟩)] []
def a8W:Row I:=⟨78,[.row 9 false],[.k (.row 9 false)],V3⟩
theorem a5m:RK (a8W) :=
 okR [] 61 a9K [.tmp 2] Go.Proofs.Tryz.func78 (by kernel_rfl)
def b0d:Row I:=⟨77,[.d (.sl 9)],[.k (.row 9 true)],a1s⟩
theorem a6j:RK (b0d) :=
 okR [] 9 Y4 [.tmp 2] Go.Proofs.Tryz.func77 (by kernel_rfl)
def c55:Hints I:=mkH [] [] [] [] [(58,⟨2147482784,[],[],[(5,.k (.row 9 false)),(10,.k (.d (.int .i64)))],[((.exit 0),[(5,.k (.row 9 false))])],bnd tb (.slot 9) 1⟩)] [] []
def c4h:Row I:=⟨37,[.d (.dat 27),.d (.sl 3)],[.k (.row 9 true)],a91⟩
theorem c4X:RK (c4h) :=
 okR [eO d2Y,eR a5m,eR a6j] 36 c55 [.tmp 4] Go.Proofs.Tryz.func37 (by kernel_rfl)
def b1Q:Hints I:=mkH [] [] [] [] [(26,⟨524080,[],[],[(8,.k (.d (.int .i64)))],[((.exit 0),[]),(.ret,[(4,.k (.d (.int .i64)))])],bnd tb (.slot 7) 1⟩)] [] []
def b0C:Row I:=⟨124,[.d (.sl 3),.fn [.int .i64] [.k (.d (.bool))]],[.k (.d (.int .i64))],a4X⟩
theorem b03:RK (b0C) :=
 okR [] 19 b1Q [.tmp 4] Go.Proofs.Tryz.func124 (by kernel_rfl)
def a9n:Row I:=⟨65,[.d (.sl 3),.fn [.int .i64] [.k (.d (.bool))]],[.k (.d (.bool))],Z8⟩
theorem a0p:RK (a9n) :=
 okR [eR b03] 9 Y4 [.tmp 4] Go.Proofs.Tryz.func65 (by kernel_rfl)
def b5B:Hints I:=mkH [] [] [] [] [(26,⟨524080,[],[],[(8,.k (.d (.int .i64)))],[((.exit 0),[]),(.ret,[(4,.k (.d (.int .i64)))])],bnd tb (.slot 7) 1⟩)] [] []
def b3t:Row I:=⟨141,[.d (.sl 3),.d (.int .i64)],[.k (.d (.int .i64))],a6N⟩
theorem b4g:RK (b3t) :=
 okR [] 19 b5B [.tmp 4] Go.Proofs.Tryz.func141 (by kernel_rfl)
def b07:Row I:=⟨80,[.d (.sl 3),.d (.int .i64)],[.k (.d (.bool))],a3j⟩
theorem b1L:RK (b07) :=
 okR [eR b4g] 9 Y4 [.tmp 4] Go.Proofs.Tryz.func80 (by kernel_rfl)
def b8S:Row I:=⟨79,[.d (.int .i64),.var 22 (.k (.d (.sl 3))) false],[.k (.d (.bool))],a9R⟩
theorem b98:RK (b8S) :=
 okR [eR b1L] 7 Y4 [.tmp 3] Go.Proofs.Tryz.func79 (by kernel_rfl)
def c0T:Row I:=⟨38,[.d (.sl 3),.d (.sl 3)],[.k (.d (.bool))],a8P⟩
theorem c1D:RK (c0T) :=
 okR [eR a0p,eR b98] 8 Y4 [.tmp 4] Go.Proofs.Tryz.func38 (by kernel_rfl)
def a85:Hints I:=mkH [] [] [] [] [(26,⟨524080,[],[],[(8,.k (.d (.int .i64)))],[((.exit 0),[]),(.ret,[(4,.k (.d (.int .i64)))])],bnd tb (.slot 7) 1⟩)] [] []
def a8u:Row I:=⟨142,[.d (.sl 9),.fn [.str] [.k (.d (.bool))]],[.k (.d (.int .i64))],a2U⟩
theorem a8w:RK (a8u) :=
 okR [] 19 a85 [.tmp 4] Go.Proofs.Tryz.func142 (by kernel_rfl)
def a7x:Row I:=⟨81,[.d (.sl 9),.fn [.str] [.k (.d (.bool))]],[.k (.d (.bool))],a0T⟩
theorem a7P:RK (a7x) :=
 okR [eR a8w] 9 Y4 [.tmp 4] Go.Proofs.Tryz.func81 (by kernel_rfl)
def b0v:Hints I:=mkH [] [] [] [] [(26,⟨524080,[],[],[(8,.k (.d (.int .i64)))],[((.exit 0),[]),(.ret,[(4,.k (.d (.int .i64)))])],bnd tb (.slot 7) 1⟩)] [] []
def a9E:Row I:=⟨92,[.d (.sl 9),.d (.str)],[.k (.d (.int .i64))],a4c⟩
theorem b0e:RK (a9E) :=
 okR [] 19 b0v [.tmp 4] Go.Proofs.Tryz.func92 (by kernel_rfl)
def a8A:Row I:=⟨52,[.d (.sl 9),.d (.str)],[.k (.d (.bool))],K9⟩
theorem a05:RK (a8A) :=
 okR [eR b0e] 9 Y4 [.tmp 4] Go.Proofs.Tryz.func52 (by kernel_rfl)
def b5M:Row I:=⟨82,[.d (.str),.var 31 (.k (.d (.sl 9))) false],[.k (.d (.bool))],a7M⟩
theorem b66:RK (b5M) :=
 okR [eR a05] 7 Y4 [.tmp 3] Go.Proofs.Tryz.func82 (by kernel_rfl)
def b8k:Row I:=⟨39,[.d (.sl 9),.d (.sl 9)],[.k (.d (.bool))],a4Y⟩
theorem b0h:RK (b8k) :=
 okR [eR a7P,eR b66] 8 Y4 [.tmp 4] Go.Proofs.Tryz.func39 (by kernel_rfl)
def c7l:Hints I:=mkH [] [] [] [] [(58,⟨4192262,[],[],[(1,.k (.row 82 false)),(2,.k (.d (.int .i64)))],[((.exit 0),[(1,.k (.row 82 false))])],bnd tb (.cst 4) 2⟩)] [] []
def c3J:Row I:=⟨40,[],[.k (.row 82 false)],b70⟩
theorem c41:RK (c3J) :=
 okR [] 23 c7l [.tmp 0] Go.Proofs.Tryz.func40 (by kernel_rfl)
def c2d:Hints I:=mkH [] [] [] [(429,⟨20480,[],[],[(.normal,[(12,.k (.d (.bool)))])]⟩),
 (1725,⟨1310720,[],[],[(.normal,[(18,.k (.d (.bool)))])]⟩)] [] [] []
def b9x:Row I:=⟨144,[.d (.dat 82),.d (.dat 65)],[.k (.d (.bool))],a6v⟩
theorem b2g:RK (b9x) :=
 okR [] 81 c2d [.tmp 4] Go.Proofs.Tryz.func144 (by kernel_rfl)
def b9R:Hints I:=mkH [(1,[[],[0],[],[0,1,2],[0,1,2,3],[0,1,2,3,4],[0,1,2,3,4,5],[0,1,2,3,4,5,6],[0,1,2,3,4,5,6,7],[0,1,2,3,4,5,6,7],[0,1,2,3,4,5,6,7,9],[0,1,2,3,4,5,6,7],[0,1,2,3,4,5,6,7,9,10,11],[0,1,2,3,4,5,6,7,9,10,11,12],[0,1,2,3,4,5,6,7,8,9,10,11,12,13],[0,1,2,3,4,5,6,7,8,9,10,11,12,13,14],[0,1,2,3,4,5,6,7,8,9,10,11,12,13,14,15],[0,1,2,3,4,5,6,7,8,9,10,11,12,13,14,15,16]])] [] [] [] [] [] []
def b8a:Row I:=⟨143,[.d (.int .i64),.var 27 (.k (.d (.dat 27))) false,.var 82 (.k (.d (.dat 82))) false],[.k (.d (.bool))],a43⟩
theorem b8R:RK (b8a) :=
 okR [eR b2g] 22 b9R [.tmp 4] Go.Proofs.Tryz.func143 (by kernel_rfl)
def b83:Row I:=⟨83,[.d (.dat 82),.d (.dat 27),.d (.dat 37)],[.k (.d (.bool))],a72⟩
theorem c04:RK (b83) :=
 okR [eR a0p,eR b8R] 24 Y4 [.tmp 6] Go.Proofs.Tryz.func83 (by kernel_rfl)
def c0X:Row I:=⟨145,[],[.k (.row 126 false)],b1A⟩
theorem c1M:RK (c0X) :=
 okR [] 3 Y4 [.tmp 0] Go.Proofs.Tryz.func145 (by kernel_rfl)
def b8v:Row I:=⟨249,[.d (.int .i64)],[.k (.d (.bool))],a5C⟩
theorem b9p:RK (b8v) :=
 okR [] 6 Y4 [.tmp 2] Go.Proofs.Tryz.func249 (by kernel_rfl)
def b6y:Row I:=⟨233,[.d (.int .i64),.d (.int .i64)],[.k (.d (.int .i64))],a1Y⟩
theorem a92:RK (b6y) :=
 okR [eR b9p] 20 Y4 [.tmp 4] Go.Proofs.Tryz.func233 (by kernel_rfl)
def b3n:Row I:=⟨232,[.d (.dat 126),.d (.dat 126)],[.k (.d (.int .i64))],a2Z⟩
theorem b4o:RK (b3n) :=
 okR [eR a92] 10 Y4 [.tmp 4] Go.Proofs.Tryz.func232 (by kernel_rfl)
def b7l:Hints I:=mkH [(14,[[],[0],[0,1],[0,1,2],[0,1,2],[0,1,2,3,4],[0,1,2,3,4,5],[0,1,2,3,4,5,6],[0,1,2,3,4,5,6,7],[0,1,2,3,4,5,6,7,8],[0,1,2,3,4,5,6,7,8,9],[0,1,2,3,4,5,6,7,8,9,10],[0,1,2,3,4,5,6,7,8,9],[0,1,2,3,4,5,6,7,8,9],[0,1,2,3,4,5,6,7,8,9,12,13],[0,1,2,3,4,5,6,7,8,9,12,13,14],[0,1,2,3,4,5,6,7,8,9,12,13,14,15],[0,1,2,3,4,5,6,7,8,9,12,13,14,15,16],[0,1,2,3,4,5,6,7,8,9,10,11,12,13,14,15,16,17],[0,1,2,3,4,5,6,7,8,9,10,11,12,13,14,15,16,17,18],[0,1,2,3,4,5,6,7,8,9,10,11,12,13,14,15,16,17,18,19]]),(15,[[],[],[],[],[2,3],[2,3,4],[2,3,4,5],[],[7],[2,3,4,5,6,7,8],[0,1,2,3,4,5,6,7,8,9],[0,1,2,3,4,5,6,7,8,9,10],[0,1,2,3,4,5,6,7,8,9,10,11]])] [] [] [] [(58,⟨67104808,[],[],[(3,.k (.row 126 false)),(12,.k (.d (.int .i64)))],[((.exit 0),[(3,.k (.row 126 false))])],bnd tb (.slot 11) 1⟩),
 (506,⟨37778931862956087968576,[],[],[(6,.k (.row 126 false)),(28,.k (.row 126 false)),(30,.k (.d (.int .i64)))],[((.exit 2),[(6,.k (.row 126 false)),(28,.k (.row 126 false))])],bnd tb (.slot 29) 1⟩)] [] []
noncomputable def b5r:Row I:=⟨196,[.d (.sl 126)],[.k (.row 126 false)],a0X⟩
theorem a9g:RK (b5r) :=
 okR [eO d4u,eR b4o] 76 b7l [.tmp 2] Go.Proofs.Tryz.func196 (by kernel_rfl)
def b8m:Hints I:=mkH [] [] [] [] [(58,⟨1099511620256,[11],[],[(5,.k (.row 126 false)),(13,.k (.d (.int .i64)))],[((.exit 0),[(5,.k (.row 126 false))])],bnd tb (.slot 12) 1⟩),
 (14950,⟨549754765856,[18],[],[(5,.k (.row 126 false)),(20,.k (.d (.int .i64)))],[((.exit 2),[(5,.k (.row 126 false))])],bnd tb (.slot 19) 1⟩)] [] []
noncomputable def b5q:Row I:=⟨146,[.d (.sl 126),.d (.sl 126)],[.k (.row 126 false)],a3Y⟩
theorem b6d:RK (b5q) :=
 okR [eR a9g] 42 b8m [.tmp 4] Go.Proofs.Tryz.func146 (by kernel_rfl)
def b55:Hints I:=mkH [] [] [] [(31333,⟨66846728,[],[],[(.normal,[(3,.k (.row 126 false))])]⟩)] [(122,⟨17179868252,[8],[],[(3,.k (.row 126 false)),(4,.k (.d (.int .i64))),(10,.k (.d (.int .i64)))],[((.exit 0),[(3,.k (.row 126 false)),(4,.k (.d (.int .i64)))]),(.ret,[(2,.k (.row 126 false))])],bnd tb (.slot 9) 1⟩)] [] []
noncomputable def b4u:Row I:=⟨147,[.d (.sl 126)],[.k (.row 126 false)],a5d⟩
theorem b45:RK (b4u) :=
 okR [eR a9g] 39 b55 [.tmp 2] Go.Proofs.Tryz.func147 (by kernel_rfl)
def c69:Hints I:=mkH [] [] [] [] [(58,⟨137438888352,[],[],[(5,.k (.row 126 false)),(16,.k (.d (.int .i64)))],[((.exit 0),[(5,.k (.row 126 false))])],bnd tb (.slot 15) 1⟩),
 (122,⟨4611684918915763232,[],[],[(5,.k (.row 126 false)),(40,.k (.d (.int .i64)))],[((.exit 2),[(5,.k (.row 126 false))])],bnd tb (.slot 39) 1⟩)] [] []
noncomputable def c3z:Row I:=⟨84,[.d (.dat 27),.d (.dat 37)],[.k (.row 126 false)],b2u⟩
theorem c4S:RK (c3z) :=
 okR [eR c1M,eR b6d,eR b45] 63 c69 [.tmp 4] Go.Proofs.Tryz.func84 (by kernel_rfl)
def b77:Hints I:=mkH [(3,[[],[0],[],[2],[2,3],[0,1,2,3,4],[0,1,2,3,4,5],[0,1,2,3,4,5,6]])] [] [] [] [] [] []
def b5y:Row I:=⟨197,[.d (.dat 51)],[.k (.d (.dat 208))],a1G⟩
theorem a6d:RK (b5y) :=
 okR [eR c9j,eO d2Y,eR a5m,eR a6j] 16 b77 [.cell 2 208] Go.Proofs.Tryz.func197 (by kernel_rfl)
def b6m:Row I:=⟨148,[.d (.sl 9)],[.k (.d (.dat 51))],a3a⟩
theorem a9r:RK (b6m) :=
 okR [eR a6d] 7 Y4 [.cell 2 51] Go.Proofs.Tryz.func148 (by kernel_rfl)
def b8H:Row I:=⟨150,[.d (.sl 9)],[.k (.d (.dat 51))],a2N⟩
theorem b1v:RK (b8H) :=
 okR [eR a6d] 7 Y4 [.cell 2 51] Go.Proofs.Tryz.func150 (by kernel_rfl)
def b5u:Hints I:=mkH [(1,[[],[0],[0,1],[0,1,2],[],[4],[4,5],[0,1,2,3,4,5,6],[0,1,2,3,4,5,6,7]])] [] [] [] [] [] []
def b3E:Row I:=⟨198,[.d (.dat 208),.d (.dat 208)],[.k (.row 9 false)],a4u⟩
theorem b4r:RK (b3E) :=
 okR [eR c9j] 13 b5u [.tmp 4] Go.Proofs.Tryz.func198 (by kernel_rfl)
def b79:Row I:=⟨230,[.d (.str)],[.k (.d (.bool))],a6T⟩
theorem b8Q:RK (b79) :=
 okR [] 6 Y4 [.tmp 2] Go.Proofs.Tryz.func230 (by kernel_rfl)
def b8u:Row I:=⟨191,[.d (.str),.d (.str)],[.k (.d (.bool))],a7n⟩
theorem b9b:RK (b8u) :=
 okR [eR b8Q] 17 Y4 [.tmp 4] Go.Proofs.Tryz.func191 (by kernel_rfl)
def b4n:Row I:=⟨250,[.d (.str)],[.k (.d (.bool))],a5b⟩
theorem b5R:RK (b4n) :=
 okR [] 6 Y4 [.tmp 2] Go.Proofs.Tryz.func250 (by kernel_rfl)
def a8g (n:Nat):Hints I:=mkH [] [] [] [] [(60,⟨2147476352,[],[],[(7,.k (.d (.int .i64))),(8,.k (.d (.int .i64)))],[((.exit 0),[(7,.k (.d (.int .i64)))])],fun _=>some n⟩)] [] []
def a7w (n:Nat):Row I:=⟨234,[.d (.sl 9),.d (.str)],[.k (.d (.int .i64)),.k (.d (.bool))],a0V n⟩
theorem a7V (n:Nat):RK (a7w n) :=
 okR [eR b9b,eR b5R] 54 (a8g n) [.tmp 4,.tmp 5] Go.Proofs.Tryz.func234 (by kernel_rfl)
def b4k (n:Nat):Row I:=⟨200,[.d (.dat 208),.d (.str)],[.k (.d (.bool))],a3q n⟩
theorem a8N (n:Nat):RK (b4k n) :=
 okR [eR (a7V n)] 16 Y4 [.tmp 4] Go.Proofs.Tryz.func200 (by kernel_rfl)
def b4a (_:Nat):Hints I:=mkH [] [] [] [] [(58,⟨33550496,[],[],[(5,.k (.row 9 false)),(12,.k (.d (.int .i64)))],[((.exit 0),[(5,.k (.row 9 false))])],bnd tb (.slot 11) 1⟩)] [] []
def b2w (n:Nat):Row I:=⟨199,[.d (.dat 208),.d (.dat 208)],[.k (.row 9 false)],a2s n⟩
theorem b3C (n:Nat):RK (b2w n) :=
 okR [eR (a8N n)] 26 (b4a n) [.tmp 4] Go.Proofs.Tryz.func199 (by kernel_rfl)
def b7U (_:Nat):Hints I:=mkH [(1,[[],[0],[],[0,1,2],[],[],[0,1,2,3,4,5],[0,1,2,3,4,5,6]])] [] [] [] [(250,⟨576320014815068800,[],[],[(7,.k (.row 9 false)),(47,.k (.d (.int .i64)))],[((.exit 1),[(7,.k (.row 9 false))])],bnd tb (.slot 46) 1⟩)] [] []
def b5E (n:Nat):Row I:=⟨149,[.d (.dat 51),.d (.dat 51)],[.k (.d (.dat 51))],a3S n⟩
theorem b6s (n:Nat):RK (b5E n) :=
 okR [eR a6d,eR b4r,eR a9r,eR (b3C n),eR b1v,eR (a8N n)] 61 (b7U n) [.cell 4 51] Go.Proofs.Tryz.func149 (by kernel_rfl)
def c4W (_:Nat):Hints I:=mkH [(7,[[],[],[1],[1,2],[1,2,3],[0,1,2,3,4],[0,1,2,3,4,5]]),(14,[[],[],[1],[1,2],[1,2,3],[0,1,2,3,4],[0,1,2,3,4,5]])] [] [] [] [(58,⟨274877646336,[],[(7,.k (.d (.dat 51)))],[(18,.k (.d (.int .i64)))],[((.exit 0),[])],bnd tb (.slot 17) 1⟩),
 (122,⟨2305840810190450688,[],[(7,.k (.d (.dat 51)))],[(41,.k (.d (.int .i64)))],[((.exit 2),[])],bnd tb (.slot 40) 1⟩)] [] []
def c2P (n:Nat):Row I:=⟨85,[.d (.dat 27),.d (.dat 37),.d (.int .i64)],[.k (.d (.dat 51))],a8E n⟩
theorem c3x (n:Nat):RK (c2P n) :=
 okR [eR a9r,eR b1v,eR (b6s n)] 62 (c4W n) [.cell 6 51] Go.Proofs.Tryz.func85 (by kernel_rfl)
def c4Z:Hints I:=mkH [(1,[[],[0],[],[0,1,2],[0,1,2,3],[0,1,2,3,4],[],[0,1,2,3,4,5,6],[0,1,2,3,4,5,6,7]])] [] [] [] [] [] []
def c2I:Row I:=⟨151,[.d (.int .i64),.var 27 (.k (.d (.dat 27))) false,.var 3 (.k (.d (.int .i64))) false],[.k (.d (.bool))],b47⟩
theorem c3O:RK (c2I) :=
 okR [] 13 c4Z [.tmp 4] Go.Proofs.Tryz.func151 (by kernel_rfl)
def c47:Row I:=⟨86,[.d (.dat 27),.d (.sl 3),.d (.int .i64)],[.k (.d (.bool))],a6D⟩
theorem c7i:RK (c47) :=
 okR [eR a0p,eR c3O] 10 Y4 [.tmp 6] Go.Proofs.Tryz.func86 (by kernel_rfl)
def c3N:Hints I:=mkH [(5,[[],[0],[],[0,1,2],[0,1,2,3],[0,1,2,3,4],[],[0,1,2,3,4,5,6],[0,1,2,3,4,5,6,7],[0,1,2,3,4,5,6,7,8],[0,1,2,3,4,5,6,7,8],[0,1,2,3,4,5,6,7,8,10],[0,1,2,3,4,5,6,7,8],[0,1,2,3,4,5,6,7,8,10,11,12],[0,1,2,3,4,5,6,7,8,10,11,12,13],[0,1,2,3,4,5,6,7,8,9,10,11,12,13,14],[0,1,2,3,4,5,6,7,8,9,10,11,12,13,14,15]])] [] [] [] [(58,⟨1099511613952,[],[],[(9,.k (.row 3 false)),(14,.k (.d (.int .i64)))],[((.exit 0),[(9,.k (.row 3 false))])],bnd tb (.slot 13) 1⟩)] [] []
def c1X:Row I:=⟨87,[.d (.dat 82),.d (.dat 27),.d (.sl 3),.d (.int .i64)],[.k (.row 3 false)],a7L⟩
theorem c2V:RK (c1X) :=
 okR [eR b2g] 41 c3N [.tmp 8] Go.Proofs.Tryz.func87 (by kernel_rfl)
def c6Z (_:Nat):Hints I:=mkH [(8,[[],[],[1],[1,2],[1,2,3],[0],[0,1,2,3,4,5]]),(11,[[],[],[],[2],[1,2,3],[1,2,3,4],[1,2,3,4,5],[1,2,3,4,5,6],[1,2,3,4,5,6,7],[1,2,3,4,5,6,7,8],[1,2,3,4,5,6,7,8,9],[1,2,3,4,5,6,7,8,9,10],[1,2,3,4,5,6,7,8,9,10,11],[1,2,3,4,5,6,7,8,9,10,11,12],[1,2,3,4,5,6,7,8,9,10,11,12,13],[1,2,3,4,5,6,7,8,9,10,11,12,13,14],[1,2,3,4,5,6,7,8,9,10,11,12,13,14,15],[1,2,3,4,5,6,7,8,9,10,11,12,13,14,15,16],[0,1,2,3,4,5,6,7,8,9,10],[0,1,2,3,4,5,6,7,8,9,10,11,12,13,14,15,16,17,18]]),(14,[[],[],[],[2],[1,2,3],[1,2,3,4],[1,2,3,4,5],[1,2,3,4,5,6],[1,2,3,4,5,6,7],[1,2,3,4,5,6,7,8],[1,2,3,4,5,6,7,8,9],[1,2,3,4,5,6,7,8,9,10],[1,2,3,4,5,6,7,8,9,10,11],[1,2,3,4,5,6,7,8,9,10,11,12],[1,2,3,4,5,6,7,8,9,10,11,12,13],[1,2,3,4,5,6,7,8,9,10,11,12,13,14],[1,2,3,4,5,6,7,8,9,10,11,12,13,14,15],[1,2,3,4,5,6,7,8,9,10,11,12,13,14,15,16],[0,1,2,3,4,5,6,7,8,9,10],[0,1,2,3,4,5,6,7,8,9,10,11,12,13,14,15,16,17,18]]),(16,[[],[],[],[2],[1,2,3],[1,2,3,4],[0,1,2,3,4],[0,1,2,3,4,5,6]]),(18,[[],[],[],[2],[1,2,3],[1,2,3,4],[0,1,2,3,4],[0,1,2,3,4,5,6]]),(27,[[],[],[],[2],[],[0,1,2,3,4],[],[],[],[8],[],[0,1,2,3,4,5,6,7,8,9,10],[0,1,2,3,4,5],[0,1,2,3,4,5,6,7,8,9,10,11,12],[0,1,2,3,4,5,6,7,8,9,10,11,12,13],[0,1,2,3,4,5,6,7,8,9,10,11,12,13,14]]),(28,[[],[],[1],[1,2],[1,2,3],[1,2,3],[1,2,3,5],[1,2,3],[1,2,3,4,5,6,7],[1,2,3,4,5,6,7,8],[1,2,3,4,5,6,7,8,9],[0,1,2,3,4,5,6,7,8],[0,1,2,3,4,5,6,7,8,9,10,11]])] [(11,[47,51]),(14,[71,75]),(28,[124])] [] [(125,⟨162259276829213363391577993512576,[],[(6,.lvs [.d (.int .i64),.d (.int .i64),.d (.sl 126),.d (.bool),.d (.sl 9),.d (.sl 3),.d (.sl 3),.d (.sl 9),.d (.sl 9)]),(8,.lvs [.d (.int .i64),.d (.int .i64),.d (.sl 126),.d (.bool),.d (.sl 9),.d (.sl 3),.d (.sl 3),.d (.sl 9),.d (.sl 9)])],[(.normal,[(9,.k (.d (.int .i64))),(10,.k (.d (.int .i64)))]),(.ret,[(7,.k (.d (.bool)))])]⟩)] [] [] []
noncomputable def c4b (n:Nat):Row I:=⟨41,[.d (.dat 27),.d (.dat 37),.d (.dat 82)],[.k (.d (.dat 53)),.k (.d (.bool))],a9F n⟩
theorem c42 (n:Nat):RK (c4b n) :=
 okR [eR c04,eR c4S,eR (c3x n),eR c7i,eR c2V] 132 (c6Z n) [.cell 6 53,.tmp 7] Go.Proofs.Tryz.func41 (by kernel_rfl)
def c4V (_:Nat):Hints I:=mkH [(7,[[],[],[1],[0,1,2],[],[],[5],[0,1,2,3,4,5,6],[0,1,2,3,4,5,6,7],[0,1,2,3,4,5,6,7,8]])] [] [] [] [(122,⟨37778931862957027507104,[25],[],[(5,.k (.row 53 false)),(27,.k (.d (.int .i64)))],[((.exit 0),[(5,.k (.row 53 false))])],bnd tb (.slot 26) 1⟩),
 (125342,⟨18889463679678767183904,[49],[],[(5,.k (.row 53 false)),(51,.k (.d (.int .i64)))],[((.exit 2),[(5,.k (.row 53 false))])],bnd tb (.slot 50) 1⟩)] [] []
noncomputable def c2O (n:Nat):Row I:=⟨16,[.d (.dat 27),.d (.dat 37)],[.k (.row 53 false)],a8K n⟩
theorem c3F (n:Nat):RK (c2O n) :=
 okR [eR (a5N n),eR b0l,eR (b9j n),eR c4X,eR c1D,eR b0h,eR c41,eR (c42 n),eR c9j] 76 (c4V n) [.tmp 4] Go.Proofs.Tryz.func16 (by kernel_rfl)
def b8D:Row I:=⟨23,[.d (.int .i64)],[.k (.d (.dat 33))],a17⟩
theorem a7H:RK (b8D) :=
 okR [] 5 Y4 [.cell 2 33] Go.Proofs.Tryz.func23 (by kernel_rfl)
def c60:Hints I:=mkH [] [] [] [(105,⟨160,[],[],[(.normal,[(5,.k (.d (.bool)))])]⟩),
 (429,⟨2560,[],[],[(.normal,[(9,.k (.d (.bool)))])]⟩),
 (6909,⟨327680,[],[],[(.normal,[(16,.k (.d (.bool)))])]⟩)] [] [] []
def c4g:Row I:=⟨165,[.d (.int .i64)],[.k (.d (.dat 185)),.k (.d (.bool))],a75⟩
theorem c5a:RK (c4g) :=
 okR [] 27 c60 [.cell 2 185,.tmp 3] Go.Proofs.Tryz.func165 (by kernel_rfl)
def b37:Hints I:=mkH [(4,[[],[],[],[2],[1,2,3],[1,2,3,4],[],[],[6,7],[6,7,8],[0,1,2,3,4,5,6,7,8,9],[0,1,2,3,4,5,6,7,8,9,10]])] [] [] [] [(26,⟨16777200,[],[],[(5,.k (.d (.int .i64)))],[((.exit 0),[]),(.ret,[(4,.k (.d (.bool)))])],bnd tb (.len (.slot 0)) 1⟩)] [] []
def b1E:Row I:=⟨215,[.d (.sl 9),.fn [.str,.str] [.k (.d (.int .i64))]],[.k (.d (.bool))],a5P⟩
theorem b2h:RK (b1E) :=
 okR [] 24 b37 [.tmp 4] Go.Proofs.Tryz.func215 (by kernel_rfl)
def b8A:Hints I:=mkH [] [] [] [] [(58,⟨261140,[],[],[(10,.k (.d (.int .i64)))],[((.exit 0),[]),(.ret,[(2,.k (.d (.bool)))])],bnd tb (.slot 9) 1⟩)] [] []
def b6e:Row I:=⟨166,[.d (.sl 9)],[.k (.d (.bool))],a54⟩
theorem b7s:RK (b6e) :=
 okR [eR b2h,eR a7D,eR b0i] 18 b8A [.tmp 2] Go.Proofs.Tryz.func166 (by kernel_rfl)
def b2K:Hints I:=mkH [(4,[[],[],[],[2],[1,2,3],[1,2,3,4],[],[],[6,7],[6,7,8],[0,1,2,3,4,5,6,7,8,9],[0,1,2,3,4,5,6,7,8,9,10]])] [] [] [] [(26,⟨16777200,[],[],[(5,.k (.d (.int .i64)))],[((.exit 0),[]),(.ret,[(4,.k (.d (.bool)))])],bnd tb (.len (.slot 0)) 1⟩)] [] []
def b1u:Row I:=⟨217,[.d (.sl 130),.fn [.dat 130,.dat 130] [.k (.d (.int .i64))]],[.k (.d (.bool))],a5p⟩
theorem b1Z:RK (b1u) :=
 okR [] 24 b2K [.tmp 4] Go.Proofs.Tryz.func217 (by kernel_rfl)
def c1s:Hints I:=mkH [] [] [] [] [(58,⟨534773780,[],[],[(21,.k (.d (.int .i64)))],[((.exit 0),[]),(.ret,[(2,.k (.d (.bool)))])],bnd tb (.slot 20) 1⟩)] [] []
def b86:Row I:=⟨167,[.d (.dat 33)],[.k (.d (.bool))],a73⟩
theorem c05:RK (b86) :=
 okR [eR b1Z,eR a6P,eR b2d] 29 c1s [.tmp 2] Go.Proofs.Tryz.func167 (by kernel_rfl)
def b1t:Hints I:=mkH [(4,[[],[],[],[2],[1,2,3],[1,2,3,4],[],[],[6,7],[6,7,8],[0,1,2,3,4,5,6,7,8,9],[0,1,2,3,4,5,6,7,8,9,10]])] [] [] [] [(26,⟨16777200,[],[],[(5,.k (.d (.int .i64)))],[((.exit 0),[]),(.ret,[(4,.k (.d (.bool)))])],bnd tb (.len (.slot 0)) 1⟩)] [] []
def a99:Row I:=⟨218,[.d (.sl 97),.fn [.dat 97,.dat 97] [.k (.d (.int .i64))]],[.k (.d (.bool))],a4s⟩
theorem b0o:RK (a99) :=
 okR [] 24 b1t [.tmp 4] Go.Proofs.Tryz.func218 (by kernel_rfl)
def a9u:Hints I:=mkH [(7,[[],[],[],[1,2],[1,2,3],[],[],[5,6],[5,6,7],[0,1,2,3,4,5,6,7,8],[0,1,2,3,4,5,6,7,8,9]])] [] [] [] [(58,⟨137437905728,[],[],[(20,.k (.d (.int .i64)))],[((.exit 0),[]),(.ret,[(6,.k (.d (.int .i64)))])],bnd tb (.slot 19) 1⟩)] [] []
def a80:Row I:=⟨253,[.d (.sl 33),.d (.sl 33),.fn [.dat 33,.dat 33] [.k (.d (.int .i64))]],[.k (.d (.int .i64))],a3y⟩
theorem a9m:RK (a80) :=
 okR [eR a2E] 37 a9u [.tmp 6] Go.Proofs.Tryz.func253 (by kernel_rfl)
def b0w:Hints I:=mkH [(7,[[],[],[],[1,2],[1,2,3],[],[],[5,6],[5,6,7],[0,1,2,3,4,5,6,7,8],[0,1,2,3,4,5,6,7,8,9]])] [] [] [] [(58,⟨137437905728,[],[],[(20,.k (.d (.int .i64)))],[((.exit 0),[]),(.ret,[(6,.k (.d (.int .i64)))])],bnd tb (.slot 19) 1⟩)] [] []
def a95:Row I:=⟨254,[.d (.sl 130),.d (.sl 130),.fn [.dat 130,.dat 130] [.k (.d (.int .i64))]],[.k (.d (.int .i64))],a38⟩
theorem b0a:RK (a95) :=
 okR [eR a2E] 37 b0w [.tmp 6] Go.Proofs.Tryz.func254 (by kernel_rfl)
def a9z:Hints I:=mkH [(7,[[],[],[],[1,2],[1,2,3],[],[],[5,6],[5,6,7],[0,1,2,3,4,5,6,7,8],[0,1,2,3,4,5,6,7,8,9]])] [] [] [] [(58,⟨137437905728,[],[],[(20,.k (.d (.int .i64)))],[((.exit 0),[]),(.ret,[(6,.k (.d (.int .i64)))])],bnd tb (.slot 19) 1⟩)] [] []
def a81:Row I:=⟨255,[.d (.sl 97),.d (.sl 97),.fn [.dat 97,.dat 97] [.k (.d (.int .i64))]],[.k (.d (.int .i64))],a3v⟩
theorem a9l:RK (a81) :=
 okR [eR a2E] 37 a9z [.tmp 6] Go.Proofs.Tryz.func255 (by kernel_rfl)
def b1s:Hints I:=mkH [(7,[[],[],[],[1,2],[1,2,3],[],[],[5,6],[5,6,7],[0,1,2,3,4,5,6,7,8],[0,1,2,3,4,5,6,7,8,9]])] [] [] [] [(58,⟨137437905728,[],[],[(20,.k (.d (.int .i64)))],[((.exit 0),[]),(.ret,[(6,.k (.d (.int .i64)))])],bnd tb (.slot 19) 1⟩)] [] []
def a96:Row I:=⟨256,[.d (.sl 9),.d (.sl 9),.fn [.str,.str] [.k (.d (.int .i64))]],[.k (.d (.int .i64))],a4t⟩
theorem b0U:RK (a96) :=
 okR [eR a2E] 37 b1s [.tmp 6] Go.Proofs.Tryz.func256 (by kernel_rfl)
def a3e (n:Nat):Row I:=⟨241,[.d (.dat 33),.d (.dat 33)],[.k (.d (.int .i64))],a3g n⟩
def a0I (n:Nat):Row I:=⟨219,[.d (.dat 97),.d (.dat 97)],[.k (.d (.int .i64))],V5 n⟩
def a1X (n:Nat):Row I:=⟨240,[.d (.sl 33),.d (.sl 33)],[.k (.d (.int .i64))],a3p n⟩
theorem c03 (n:Nat)(_:j5 Go.Proofs.Tryz.prog (a3e n))(h_value_compareEntries:j5 Go.Proofs.Tryz.prog (a0I n))(h_value_compareValues:j5 Go.Proofs.Tryz.prog (a1X n)):RK (a3e (n+1)) :=
 okR [eR a2E,eR a92,eR a7D,eR b0a,eR a6P,eR h_value_compareValues,eR a9l,eR h_value_compareEntries,eR b0U] 64 Y4 [.tmp 4] Go.Proofs.Tryz.func241 (by kernel_rfl)
theorem b3k (n:Nat)(h_value_Compare:j5 Go.Proofs.Tryz.prog (a3e n))(_:j5 Go.Proofs.Tryz.prog (a0I n))(h_value_compareValues:j5 Go.Proofs.Tryz.prog (a1X n)):RK (a0I (n+1)) :=
 okR [eR h_value_compareValues,eR h_value_Compare] 26 Y4 [.tmp 4] Go.Proofs.Tryz.func219 (by kernel_rfl)
theorem b4i (n:Nat)(h_value_Compare:j5 Go.Proofs.Tryz.prog (a3e n))(_:j5 Go.Proofs.Tryz.prog (a0I n))(_:j5 Go.Proofs.Tryz.prog (a1X n)):RK (a1X (n+1)) :=
 okR [eR a9m,eR h_value_Compare] 8 Y4 [.tmp 4] Go.Proofs.Tryz.func240 (by kernel_rfl)
theorem a6H:∀ n:Nat,j5 Go.Proofs.Tryz.prog (a3e n)/\j5 Go.Proofs.Tryz.prog (a0I n)/\j5 Go.Proofs.Tryz.prog (a1X n)
 | 0=>⟨Q4 (by kernel_rfl),Q4 (by kernel_rfl),Q4 (by kernel_rfl)⟩
 | n+1=>by
   obtain ⟨h0,h1,h2⟩:=a6H n
   exact ⟨c03 n h0 h1 h2,b3k n h0 h1 h2,b4i n h0 h1 h2⟩
theorem c1S (n:Nat):j5 Go.Proofs.Tryz.prog (a3e n):=(a6H n).1
theorem b4q (n:Nat):j5 Go.Proofs.Tryz.prog (a0I n):=(a6H n).2.1
def c2u (n:Nat):Row I:=⟨257,[.d (.dat 33),.d (.dat 33)],[.k (.d (.bool))],b5J n⟩
theorem c3L (n:Nat):RK (c2u n) :=
 okR [eR (c1S n)] 9 Y4 [.tmp 4] Go.Proofs.Tryz.func257 (by kernel_rfl)
def c1L (n:Nat):Row I:=⟨242,[.d (.dat 33)],[.k (.d (.bool))],b3f n⟩
theorem c2Z (n:Nat):RK (c1L n) :=
 okR [eR (c3L n)] 6 Y4 [.tmp 2] Go.Proofs.Tryz.func242 (by kernel_rfl)
def b7K (n:Nat):Row I:=⟨220,[.d (.dat 97),.d (.int .i64)],[.k (.d (.bool))],a4Z n⟩
theorem b8M (n:Nat):RK (b7K n) :=
 okR [eR (c2Z n)] 20 Y4 [.tmp 4] Go.Proofs.Tryz.func220 (by kernel_rfl)
def b6l (_:Nat):Hints I:=mkH [] [] [] [] [(58,⟨4290773012,[],[],[(22,.k (.d (.int .i64)))],[((.exit 0),[]),(.ret,[(2,.k (.d (.bool)))])],bnd tb (.slot 21) 1⟩)] [] []
def b4t (n:Nat):Row I:=⟨168,[.d (.dat 33)],[.k (.d (.bool))],a49 n⟩
theorem b4S (n:Nat):RK (b4t n) :=
 okR [eR b0o,eR (b4q n),eR (b8M n)] 32 (b6l n) [.tmp 2] Go.Proofs.Tryz.func168 (by kernel_rfl)
def b8C (n:Nat):Row I:=⟨117,[.d (.dat 33)],[.k (.d (.bool))],a7p n⟩
theorem b9V (n:Nat):RK (b8C n) :=
 okR [eR c5a,eR b7s,eR a9H,eR c05,eR (b4S n)] 124 Y4 [.tmp 2] Go.Proofs.Tryz.func117 (by kernel_rfl)
def c43:Hints I:=mkH [] [] [] [] [(58,⟨536866856,[],[],[(3,.k (.row 33 false)),(12,.k (.d (.int .i64)))],[((.exit 0),[(3,.k (.row 33 false))])],bnd tb (.slot 11) 1⟩)] [] []
def c2D:Row I:=⟨118,[.d (.dat 33)],[.k (.row 33 false)],b0X⟩
theorem c3w:RK (c2D) :=
 okR [eR d4E] 30 c43 [.tmp 2] Go.Proofs.Tryz.func118 (by kernel_rfl)
def c0Z (_:Nat):Hints I:=mkH [] [] [] [] [(58,⟨522260,[9],[],[(11,.k (.d (.int .i64)))],[((.exit 0),[]),(.ret,[(2,.k (.d (.bool)))])],bnd tb (.slot 10) 1⟩)] [] []
def a7e (n:Nat):Row I:=⟨59,[.d (.dat 33)],[.k (.d (.bool))],a2S n⟩
theorem b8x (n:Nat)(h_value_validTree:j5 Go.Proofs.Tryz.prog (a7e n)):RK (a7e (n+1)) :=
 okR [eR (b9V n),eR c3w,eR h_value_validTree] 19 (c0Z n) [.tmp 2] Go.Proofs.Tryz.func59 (by kernel_rfl)
theorem b04:∀ n:Nat,j5 Go.Proofs.Tryz.prog (a7e n)
 | 0=>Q4 (by kernel_rfl)
 | n+1=>b8x n (b04 n)
def b9W (n:Nat):Row I:=⟨28,[.d (.dat 33)],[.k (.d (.int .i64))],a6k n⟩
theorem b2e (n:Nat):RK (b9W n) :=
 okR [eR (b04 n)] 6 Y4 [.tmp 2] Go.Proofs.Tryz.func28 (by kernel_rfl)
def c2X:Row I:=⟨125,[.d (.int .i64)],[.k (.d (.int .i64))],c1e⟩
theorem c3Y:RK (c2X) :=
 okR [] 14 Y4 [.tmp 2] Go.Proofs.Tryz.func125 (by kernel_rfl)
def a9D:Hints I:=mkH [(4,[[],[],[],[1,2],[1,2,3],[0,1,2,3,4]])] [] [] [] [(26,⟨524080,[],[],[(8,.k (.d (.int .i64)))],[((.exit 0),[]),(.ret,[(4,.k (.d (.int .i64)))])],bnd tb (.slot 7) 1⟩)] [] []
def a8X:Row I:=⟨222,[.d (.sl 130),.d (.dat 130)],[.k (.d (.int .i64))],a3w⟩
theorem a9o:RK (a8X) :=
 okR [] 19 a9D [.tmp 4] Go.Proofs.Tryz.func222 (by kernel_rfl)
def a8k:Row I:=⟨178,[.d (.sl 130),.d (.dat 130)],[.k (.d (.bool))],a1g⟩
theorem a8o:RK (a8k) :=
 okR [eR a9o] 9 Y4 [.tmp 4] Go.Proofs.Tryz.func178 (by kernel_rfl)
def d1d:Hints I:=mkH [] [] [] [] [(26,⟨2096208,[],[],[(10,.k (.d (.int .i64)))],[((.exit 0),[]),(.ret,[(4,.k (.d (.int .i64)))])],bnd tb (.slot 9) 1⟩)] [] []
def c7B:Row I:=⟨179,[.d (.dat 65),.d (.dat 130)],[.k (.d (.int .i64))],c0s⟩
theorem c85:RK (c7B) :=
 okR [] 26 d1d [.tmp 4] Go.Proofs.Tryz.func179 (by kernel_rfl)
def c8G (_:Nat):Hints I:=mkH [(6,[[],[],[],[],[2,3],[2,3,4],[0,1,2,3,4,5],[0,1,2,3,4,5,6]])] [] [] [] [(58,⟨1073676736,[],[],[(16,.k (.d (.int .i64)))],[((.exit 0),[]),(.ret,[(6,.k (.d (.bool)))])],bnd tb (.slot 15) 1⟩)] [] []
def a21 (n:Nat):Row I:=⟨126,[.d (.sl 33),.d (.dat 27),.d (.sl 3)],[.k (.d (.bool))],a5Q n⟩
def b8z (_:Nat):Hints I:=mkH [(2,[[],[0],[],[],[3],[],[3,4,5],[0,1,2,3,4,5,6],[0,1,2,3,4,5,6,7],[0,1,2,3,4,5,6,7,8],[0,1,2,3,4,5,6,7,8,9],[0,1,2,3,4,5,6,7,8,9,10],[0,1,2,3,4,5,6,7,8,9,10,11],[0,1,2,3,4,5,6,7,8,9,10,11,12],[0,1,2,3,4,5,6,7,8,9,10,11,12,13],[0,1,2,3,4,5,6,7,8,9,10,11,12,13,14],[0,1,2,3,4,5,6,7,8,9,10,11,12,13],[0,1,2,3,4,5,6,7,8,9,10,11,12,13],[0,1,2,3,4,5,6,7,8,9,10,11,12,13,17],[0,1,2,3,4,5,6,7,8,9,10,11,12,13],[0,1,2,3,4,5,6,7,8,9,10,11,12,13,17,18,19],[0,1,2,3,4,5,6,7,8,9,10,11,12,13,17,18,19,20],[0,1,2,3,4,5,6,7,8,9,10,11,12,13,14,15,16,17,18,19,20,21],[0,1,2,3,4,5,6,7,8,9,10,11,12,13,14,15,16,17,18,19,20,21,22],[0,1,2,3,4,5,6,7,8,9,10,11,12,13,14,15,16,17,18,19,20,21,22,23],[0,1,2,3,4,5,6,7,8,9,10,11,12,13,14,15,16,17,18,19,20,21,22,23,24]])] [] [] [] [] [] []
def W4 (n:Nat):Row I:=⟨180,[.d (.dat 97),.d (.dat 27),.d (.dat 65)],[.k (.d (.bool))],W8 n⟩
def b82 (_:Nat):Hints I:=mkH [] [] [] [] [(58,⟨536346944,[],[],[(19,.k (.d (.int .i64)))],[((.exit 0),[]),(.ret,[(6,.k (.d (.bool)))])],bnd tb (.slot 18) 1⟩)] [] []
def X6 (n:Nat):Row I:=⟨128,[.d (.dat 33),.d (.dat 27),.d (.dat 65)],[.k (.d (.bool))],a0q n⟩
def c9J (_:Nat):Hints I:=mkH [(17,[[],[0],[],[2],[2,3],[0,1,2,3,4],[0,1,2,3,4,5]]),(31,[[],[],[],[2],[2,3],[2,3,4],[0,1,2,3,4,5],[0,1,2,3,4,5,6],[0,1,2,3,4,5,6,7]])] [] [] [(60413,⟨144115188075855872000,[],[],[(.normal,[(60,.k (.d (.bool)))])]⟩)] [] [] []
def a2g (n:Nat):Row I:=⟨67,[.d (.dat 33),.d (.dat 27),.d (.int .i64)],[.k (.d (.bool))],a0e n⟩
def a1K (n:Nat):Row I:=⟨129,[.d (.int .i64),.var 33 (.k (.d (.dat 33))) false,.var 27 (.k (.d (.dat 27))) false],[.k (.d (.bool))],a3I n⟩
def a1P (n:Nat):Row I:=⟨130,[.d (.int .i64),.var 33 (.k (.d (.dat 33))) false,.var 27 (.k (.d (.dat 27))) false],[.k (.d (.bool))],a3H n⟩
def c45 (_:Nat):Hints I:=mkH [(10,[[],[0],[],[0,1,2],[0,1,2,3],[],[],[],[6,7],[0,1,2,3,4,5,6,7,8],[0,1,2,3,4,5,6,7,8,9]])] [] [] [] [(26,⟨1073725760,[],[],[(14,.k (.d (.int .i64)))],[((.exit 0),[]),(.ret,[(6,.k (.d (.bool)))])],bnd tb (.slot 13) 1⟩),
 (58,⟨1125891316909632,[],[],[(33,.k (.d (.int .i64)))],[((.exit 2),[]),(.ret,[(6,.k (.d (.bool)))])],bnd tb (.slot 32) 1⟩)] [] []
def a1w (n:Nat):Row I:=⟨127,[.d (.dat 33),.d (.dat 27),.d (.dat 65)],[.k (.d (.bool))],a2J n⟩
theorem c7o (n:Nat)(_:j5 Go.Proofs.Tryz.prog (a21 n))(_:j5 Go.Proofs.Tryz.prog (W4 n))(_:j5 Go.Proofs.Tryz.prog (X6 n))(h_core_Has:j5 Go.Proofs.Tryz.prog (a2g n))(_:j5 Go.Proofs.Tryz.prog (a1K n))(_:j5 Go.Proofs.Tryz.prog (a1P n))(_:j5 Go.Proofs.Tryz.prog (a1w n)):RK (a21 (n+1)) :=
 okR [eR h_core_Has] 30 (c8G n) [.tmp 6] Go.Proofs.Tryz.func126 (by kernel_rfl)
theorem b61 (n:Nat)(h_core_all:j5 Go.Proofs.Tryz.prog (a21 n))(_:j5 Go.Proofs.Tryz.prog (W4 n))(_:j5 Go.Proofs.Tryz.prog (X6 n))(h_core_Has:j5 Go.Proofs.Tryz.prog (a2g n))(_:j5 Go.Proofs.Tryz.prog (a1K n))(_:j5 Go.Proofs.Tryz.prog (a1P n))(_:j5 Go.Proofs.Tryz.prog (a1w n)):RK (W4 (n+1)) :=
 okR [eR h_core_all,eR h_core_Has] 37 (b8z n) [.tmp 6] Go.Proofs.Tryz.func180 (by kernel_rfl)
theorem b7t (n:Nat)(_:j5 Go.Proofs.Tryz.prog (a21 n))(h_core_EntryAllowed:j5 Go.Proofs.Tryz.prog (W4 n))(_:j5 Go.Proofs.Tryz.prog (X6 n))(_:j5 Go.Proofs.Tryz.prog (a2g n))(_:j5 Go.Proofs.Tryz.prog (a1K n))(_:j5 Go.Proofs.Tryz.prog (a1P n))(_:j5 Go.Proofs.Tryz.prog (a1w n)):RK (X6 (n+1)) :=
 okR [eR h_core_EntryAllowed] 29 (b82 n) [.tmp 6] Go.Proofs.Tryz.func128 (by kernel_rfl)
theorem c6q (n:Nat)(h_core_all:j5 Go.Proofs.Tryz.prog (a21 n))(_:j5 Go.Proofs.Tryz.prog (W4 n))(h_core_functionHas:j5 Go.Proofs.Tryz.prog (X6 n))(h_core_Has:j5 Go.Proofs.Tryz.prog (a2g n))(h_core_Has_1:j5 Go.Proofs.Tryz.prog (a1K n))(h_core_Has_2:j5 Go.Proofs.Tryz.prog (a1P n))(h_core_mapHas:j5 Go.Proofs.Tryz.prog (a1w n)):RK (a2g (n+1)) :=
 okR [eR c3Y,eR h_core_all,eR h_core_mapHas,eR h_core_functionHas,eR a0p,eR h_core_Has_1,eR h_core_Has_2,eR h_core_Has,eR a05] 151 (c9J n) [.tmp 6] Go.Proofs.Tryz.func67 (by kernel_rfl)
theorem c36 (n:Nat)(_:j5 Go.Proofs.Tryz.prog (a21 n))(_:j5 Go.Proofs.Tryz.prog (W4 n))(_:j5 Go.Proofs.Tryz.prog (X6 n))(h_core_Has:j5 Go.Proofs.Tryz.prog (a2g n))(_:j5 Go.Proofs.Tryz.prog (a1K n))(_:j5 Go.Proofs.Tryz.prog (a1P n))(_:j5 Go.Proofs.Tryz.prog (a1w n)):RK (a1K (n+1)) :=
 okR [eR h_core_Has] 9 Y4 [.tmp 4] Go.Proofs.Tryz.func129 (by kernel_rfl)
theorem c3Q (n:Nat)(_:j5 Go.Proofs.Tryz.prog (a21 n))(_:j5 Go.Proofs.Tryz.prog (W4 n))(_:j5 Go.Proofs.Tryz.prog (X6 n))(h_core_Has:j5 Go.Proofs.Tryz.prog (a2g n))(_:j5 Go.Proofs.Tryz.prog (a1K n))(_:j5 Go.Proofs.Tryz.prog (a1P n))(_:j5 Go.Proofs.Tryz.prog (a1w n)):RK (a1P (n+1)) :=
 okR [eR h_core_Has] 10 Y4 [.tmp 4] Go.Proofs.Tryz.func130 (by kernel_rfl)
theorem c3g (n:Nat)(_:j5 Go.Proofs.Tryz.prog (a21 n))(_:j5 Go.Proofs.Tryz.prog (W4 n))(_:j5 Go.Proofs.Tryz.prog (X6 n))(h_core_Has:j5 Go.Proofs.Tryz.prog (a2g n))(_:j5 Go.Proofs.Tryz.prog (a1K n))(_:j5 Go.Proofs.Tryz.prog (a1P n))(_:j5 Go.Proofs.Tryz.prog (a1w n)):RK (a1w (n+1)) :=
 okR [eR a8o,eR c85,eR h_core_Has] 50 (c45 n) [.tmp 6] Go.Proofs.Tryz.func127 (by kernel_rfl)
theorem b4A:∀ n:Nat,j5 Go.Proofs.Tryz.prog (a21 n)/\j5 Go.Proofs.Tryz.prog (W4 n)/\j5 Go.Proofs.Tryz.prog (X6 n)/\j5 Go.Proofs.Tryz.prog (a2g n)/\j5 Go.Proofs.Tryz.prog (a1K n)/\j5 Go.Proofs.Tryz.prog (a1P n)/\j5 Go.Proofs.Tryz.prog (a1w n)
 | 0=>⟨Q4 (by kernel_rfl),Q4 (by kernel_rfl),Q4 (by kernel_rfl),Q4 (by kernel_rfl),Q4 (by kernel_rfl),Q4 (by kernel_rfl),Q4 (by kernel_rfl)⟩
 | n+1=>by
   obtain ⟨h0,h1,h2,h3,h4,h5,h6⟩:=b4A n
   exact ⟨c7o n h0 h1 h2 h3 h4 h5 h6,b61 n h0 h1 h2 h3 h4 h5 h6,b7t n h0 h1 h2 h3 h4 h5 h6,c6q n h0 h1 h2 h3 h4 h5 h6,c36 n h0 h1 h2 h3 h4 h5 h6,c3Q n h0 h1 h2 h3 h4 h5 h6,c3g n h0 h1 h2 h3 h4 h5 h6⟩
theorem c07 (n:Nat):j5 Go.Proofs.Tryz.prog (a2g n):=(b4A n).2.2.2.1
def c0V (n:Nat):Row I:=⟨66,[.d (.int .i64),.var 33 (.k (.d (.dat 33))) false,.var 27 (.k (.d (.dat 27))) false],[.k (.d (.bool))],b1z n⟩
theorem c1t (n:Nat):RK (c0V n) :=
 okR [eR (c07 n)] 10 Y4 [.tmp 4] Go.Proofs.Tryz.func66 (by kernel_rfl)
def c0W (n:Nat):Row I:=⟨68,[.d (.int .i64),.var 33 (.k (.d (.dat 33))) false,.var 27 (.k (.d (.dat 27))) false],[.k (.d (.bool))],b1P n⟩
theorem c12 (n:Nat):RK (c0W n) :=
 okR [eR (c07 n)] 9 Y4 [.tmp 4] Go.Proofs.Tryz.func68 (by kernel_rfl)
def c2K (n:Nat):Row I:=⟨31,[.d (.dat 33),.d (.dat 27),.d (.sl 3),.d (.sl 3)],[.k (.d (.bool))],a8v n⟩
theorem b6q (n:Nat):RK (c2K n) :=
 okR [eR a0p,eR (c1t n),eR (c12 n)] 19 Y4 [.tmp 8] Go.Proofs.Tryz.func31 (by kernel_rfl)
def c1m (n:Nat):Row I:=⟨12,[.d (.dat 33),.d (.dat 27),.d (.dat 37)],[.k (.d (.bool))],a4W n⟩
theorem c2g (n:Nat):RK (c1m n) :=
 okR [eR (b2e n),eR (a5N n),eR b0l,eR (b6q n)] 40 Y4 [.tmp 6] Go.Proofs.Tryz.func12 (by kernel_rfl)
def c2f:Row I:=⟨11,[.d (.dat 37)],[.k (.d (.dat 37))],a9U⟩
theorem c2o:RK (c2f) :=
 okR [eR b0t] 5 Y4 [.cell 2 37] Go.Proofs.Tryz.func11 (by kernel_rfl)
def b8s (_:Nat):Hints I:=mkH [(4,[[],[0],[0,1],[0,1,2],[0,1,2,3],[0,1,2,3],[0,1,2,3],[0,1,2,3,4,5,6],[0,1,2,3,4,5,6,7],[0,1,2,3,4,5,6,7,8],[0,1,2,3,4,5,6,7,8,9],[0,1,2,3,4,5,6,7,8,9],[0,1,2,3,4,5,6,7,8,9],[0,1,2,3,4,5,6,7,8,9,10,11,12],[0,1,2,3,4,5,6,7,8,9,10,11,12,13],[0,1,2,3,4,5,6,7,8,9,10,11,12,13,14],[0,1,2,3,4,5,6,7,8,9,10,11,12,13,14,15],[0,1,2,3,4,5,6,7,8,9,10,11,12,13,14,15,16],[0,1,2,3,4,5,6,7,8,9,10,11,12,13,14,15,16,17],[0,1,2,3,4,5,6,7,8,9,10,11,12,13,14,15,16,17,18],[0,1,2,3,4,5,6,7,8,9,10,11,12,13,14,15,16,17,18,19],[0,1,2,3,4,5,6,7,8,9,10,11,12,13,14,15,16,17,18,19,20],[0,1,2,3,4,5,6,7,8,9,10,11,12,13,14,15,16,17,18,19,20,21],[0,1,2,3,4,5,6,7,8,9,10,11,12,13,14,15,16,17,18,19,20,21,22],[0,1,2,3,4,5,6,7,8,9,10,11,12,13,14,15,16,17,18,19,20,21,22,23]])] [(4,[31])] [] [] [] [] []
noncomputable def b68 (n:Nat):Row I:=⟨8,[],[.k (.d (.bool))],a4l n⟩
theorem b7p (n:Nat):RK (b68 n) :=
 okR [eR (c3F n),eR a7H,eR (c2g n),eR c2o] 39 (b8s n) [.tmp 0] Go.Proofs.Tryz.func8 (by kernel_rfl)
def b2I:Hints I:=mkH [(1,[[],[0],[0,1],[0,1,2],[0,1,2,3],[0,1,2,3,4],[0,1,2,3,4,5],[0,1,2],[0,1,2,7],[0,1,2,7,8],[0,1,2,7,8,9],[0,1,2,7,8,9,10],[0,1,2,3,4,5,6,7,8,9,10,11],[0,1,2,3,4,5,6,7,8,9,10,11,12]]),(3,[[],[0],[0,1],[0,1,2],[],[4],[4,5],[4,5,6],[0,1,2,3,4,5,6,7],[0,1,2,3,4,5,6,7,8],[],[0,1,2,3,4,5,6,7,8,9,10],[0,1,2,3,4,5,6,7,8,9,10,11]])] [] [] [] [] [] []
def b1l:Row I:=⟨25,[.var 40 (.k (.d (.dat 40))) true,.d (.int .i64)],[.k (.d (.int .i64))],z8⟩
theorem Z1:RK (b1l) :=
 okR [] 46 b2I [.tmp 4] Go.Proofs.Tryz.func25 (by kernel_rfl)
def a9k:Row I:=⟨98,[.var 40 (.k (.d (.dat 40))) true],[.k (.d (.str))],V8⟩
theorem a1v:RK (a9k) :=
 okR [eR Z1] 8 Y4 [.tmp 2] Go.Proofs.Tryz.func98 (by kernel_rfl)
def b1r:Row I:=⟨99,[.var 40 (.k (.d (.dat 40))) true],[.k (.d (.str))],a0k⟩
theorem a2n:RK (b1r) :=
 okR [eR Z1] 8 Y4 [.tmp 2] Go.Proofs.Tryz.func99 (by kernel_rfl)
def b0T:Row I:=⟨100,[.var 40 (.k (.d (.dat 40))) true],[.k (.d (.str))],a0N⟩
theorem a6C:RK (b0T) :=
 okR [eR Z1] 8 Y4 [.tmp 2] Go.Proofs.Tryz.func100 (by kernel_rfl)
def b0L:Hints I:=mkH [] [] [] [] [(28,⟨16776706,[],[(0,.k (.d (.dat 40)))],[(1,.k (.d (.int .i64))),(9,.k (.row 3 false))],[((.exit 0),[(9,.k (.row 3 false))])],bnd tb (.slot 1) 2⟩)] [] []
def a9M:Row I:=⟨101,[.var 40 (.k (.d (.dat 40))) true,.d (.int .i64),.d (.int .i64),.d (.int .i64)],[.k (.row 3 false)],k9⟩
theorem b0b:RK (a9M) :=
 okR [eR Z1] 25 b0L [.tmp 8] Go.Proofs.Tryz.func101 (by kernel_rfl)
def b0M:Hints I:=mkH [(7,[[],[0],[],[],[2,3],[2,3,4],[],[],[6,7],[],[6,7,8,9],[6,7,8,9,10],[2,3,4,5,6,7,8,9,10,11],[2,3,4,5,6,7,8,9,10,11,12],[0,1,2,3,4,5,6,7,8,9,10,11,12,13],[0,1,2,3,4,5,6,7,8,9,10,11,12,13,14],[0,1,2,3,4,5,6,7,8,9,10,11,12,13,14,15]])] [] [] [(978,⟨8796076244992,[],[(0,.k (.d (.dat 40))),(5,.lvs [.d (.int .i64),.d (.int .i64),.d (.int .i64),.d (.str),.row 3 false,.row 148 false,.d (.int .i64),.d (.int .i64)])],[(.normal,[])]⟩)] [(122,⟨8796091973760,[6],[(0,.k (.d (.dat 40))),(5,.lvs [.d (.int .i64),.d (.int .i64),.d (.int .i64),.d (.str),.row 3 false,.row 148 false,.d (.int .i64),.d (.int .i64)])],[(7,.k (.d (.int .i64)))],[((.exit 0),[])],bnd tb (.cst 3) 1⟩)] [] []
def a9V:Row I:=⟨102,[.var 40 (.k (.d (.dat 40))) true,.d (.int .i64)],[.k (.d (.dat 65))],a2q⟩
theorem a97:RK (a9V) :=
 okR [eR Z1] 44 b0M [.cell 4 65] Go.Proofs.Tryz.func102 (by kernel_rfl)
def b2z:Hints I:=mkH [(8,[[],[],[0,1],[0,1,2],[],[],[],[],[7],[6,7,8],[5,6,7,8,9],[4,5,6,7,8,9,10],[4,5,6,7,8,9,10,11],[0,1,2,3,4,5,6,7,8,9,10,11,12],[0,1,2,3,4,5,6,7,8,9,10,11,12,13]])] [] [] [(29,⟨128,[],[],[(.normal,[(7,.k (.d (.int .i64)))])]⟩),
 (32243709,⟨47223664828696452136960,[],[],[(.normal,[(73,.k (.d (.bool)))])]⟩),
 (2063597565,⟨49517601571415210995964968960,[],[],[(.normal,[(93,.k (.d (.bool)))])]⟩)] [] [] []
def b05:Row I:=⟨55,[.var 40 (.k (.d (.dat 40))) true,.d (.int .i64),.d (.int .i64)],[.k (.d (.dat 65))],a3i⟩
theorem b1M:RK (b05) :=
 okR [eR Z1,eR a1v,eR a2n,eR a6C,eR b0b,eR a97] 128 b2z [.cell 6 65] Go.Proofs.Tryz.func55 (by kernel_rfl)
def b2s:Hints I:=mkH [(6,[[],[0],[],[],[],[2,3,4],[2,3,4,5],[0,1,2,3,4,5,6],[0,1,2,3,4,5,6,7],[0,1,2,3,4,5,6,7,8]])] [] [] [] [(122,⟨16776256,[],[(0,.k (.d (.dat 40))),(5,.lvs [.row 65 false,.d (.int .i64)])],[(6,.k (.d (.int .i64)))],[((.exit 0),[])],bnd tb (.slot 1) 1⟩)] [] []
def b1n:Row I:=⟨24,[.var 40 (.k (.d (.dat 40))) true,.d (.int .i64)],[.k (.d (.dat 27))],a1W⟩
theorem b1F:RK (b1n) :=
 okR [eR b1M] 25 b2s [.cell 4 27] Go.Proofs.Tryz.func24 (by kernel_rfl)
def a98:Row I:=⟨112,[.var 40 (.k (.d (.dat 40))) true],[.k (.d (.int .i64))],a0u⟩
theorem b0s:RK (a98) :=
 okR [eR Z1] 8 Y4 [.tmp 2] Go.Proofs.Tryz.func112 (by kernel_rfl)
def b75:Row I:=⟨104,[.d (.str)],[.k (.d (.dat 33))],a3s⟩
theorem b0g:RK (b75) :=
 okR [] 5 Y4 [.cell 2 33] Go.Proofs.Tryz.func104 (by kernel_rfl)
def b5F:Row I:=⟨103,[.d (.str)],[.k (.d (.dat 33))],a2D⟩
theorem a87:RK (b5F) :=
 okR [] 5 Y4 [.cell 2 33] Go.Proofs.Tryz.func103 (by kernel_rfl)
def b8T:Row I:=⟨105,[.d (.int .i64)],[.k (.d (.dat 33))],a5F⟩
theorem b1p:RK (b8T) :=
 okR [] 5 Y4 [.cell 2 33] Go.Proofs.Tryz.func105 (by kernel_rfl)
def b8F:Row I:=⟨106,[],[.k (.d (.dat 33))],W2⟩
theorem a3V:RK (b8F) :=
 okR [] 2 Y4 [.cell 0 33] Go.Proofs.Tryz.func106 (by kernel_rfl)
def b5A:Row I:=⟨163,[.d (.sl 33)],[.k (.row 33 false)],a1E⟩
theorem a9b:RK (b5A) :=
 okR [] 5 Y4 [.tmp 2] Go.Proofs.Tryz.func163 (by kernel_rfl)
def b6M:Row I:=⟨113,[.d (.sl 33)],[.k (.d (.dat 33))],a12⟩
theorem a9X:RK (b6M) :=
 okR [eR a9b] 6 Y4 [.cell 2 33] Go.Proofs.Tryz.func113 (by kernel_rfl)
def b1i:Row I:=⟨57,[.var 40 (.k (.d (.dat 40))) true],[.k (.d (.dat 33))],Q9⟩
theorem a4f:RK (b1i) :=
 okR [eR Z1,eR b0s,eR a7H,eR a1v,eR b0g,eR a2n,eR a87,eR b1p,eR a3V,eR a9X] 29 Y4 [.cell 2 33] Go.Proofs.Tryz.func57 (by kernel_rfl)
def b6r:Row I:=⟨153,[.d (.int .u8)],[.k (.d (.bool))],a29⟩
theorem a9Y:RK (b6r) :=
 okR [] 9 Y4 [.tmp 2] Go.Proofs.Tryz.func153 (by kernel_rfl)
def b6W:Row I:=⟨154,[.d (.int .u8)],[.k (.d (.bool))],a4g⟩
theorem a9P:RK (b6W) :=
 okR [] 9 Y4 [.tmp 2] Go.Proofs.Tryz.func154 (by kernel_rfl)
def b72:Hints I:=mkH [] [] [] [] [(58,⟨4398046248972,[],[],[(3,.k (.d (.int .i64)))],[((.exit 0),[]),(.ret,[(2,.k (.d (.bool)))])],bnd tb (.len (.slot 0)) 1⟩)] [] []
def b5G:Row I:=⟨93,[.d (.str)],[.k (.d (.bool))],a2v⟩
theorem a6b:RK (b5G) :=
 okR [eR a9Y,eR a9P] 42 b72 [.tmp 2] Go.Proofs.Tryz.func93 (by kernel_rfl)
def b3d:Row I:=⟨94,[.d (.dat 130)],[.k (.d (.bool))],a1T⟩
theorem a5s:RK (b3d) :=
 okR [eR a6b] 22 Y4 [.tmp 2] Go.Proofs.Tryz.func94 (by kernel_rfl)
def b5X:Row I:=⟨155,[.d (.int .i64),.d (.int .i64)],[.k (.d (.int .i64))],a3b⟩
theorem a6X:RK (b5X) :=
 okR [] 11 Y4 [.tmp 4] Go.Proofs.Tryz.func155 (by kernel_rfl)
def b7X:Row I:=⟨156,[.d (.str),.d (.str)],[.k (.d (.int .i64))],a1H⟩
theorem b0f:RK (b7X) :=
 okR [] 11 Y4 [.tmp 4] Go.Proofs.Tryz.func156 (by kernel_rfl)
def b1k:Row I:=⟨95,[.d (.dat 130),.d (.dat 130)],[.k (.d (.int .i64))],W7⟩
theorem a2o:RK (b1k) :=
 okR [eR a6X,eR b0f] 20 Y4 [.tmp 4] Go.Proofs.Tryz.func95 (by kernel_rfl)
def c0S:Hints I:=mkH [(13,[[],[],[1],[1,2],[0,1,2,3],[0,1,2,3,4],[0,1,2,3,4,5],[0,1,2,3,4,5,6],[0,1,2,3,4,5],[0,1,2,3,4,5,6,7,8],[0,1,2,3,4,5,6,7,8,9],[0,1,2,3,4,5],[0,1,2,3,4,5],[0,1,2,3,4,5,11,12],[0,1,2,3,4,5,11,12,13],[0,1,2,3,4,5,6,7,8,9,10,11,12,13,14],[0,1,2,3,4,5,6,7,8,9,10,11,12,13,14,15],[0,1,2,3,4,5,6,7,8,9,10,11,12,13,14,15,16]]),(15,[[],[],[1],[1,2],[0,1,2,3],[0,1,2,3,4],[0,1,2,3,4,5],[0,1,2,3,4,5,6],[0,1,2,3,4,5],[0,1,2,3,4,5,6,7,8],[0,1,2,3,4,5,6,7,8,9],[0,1,2,3,4,5],[0,1,2,3,4,5],[0,1,2,3,4,5,11,12],[0,1,2,3,4,5,11,12,13],[0,1,2,3,4,5,6,7,8,9,10,11,12,13,14],[0,1,2,3,4,5,6,7,8,9,10,11,12,13,14,15]]),(17,[[],[0],[],[0,1,2],[0,1,2,3],[],[5],[],[5,6,7],[0,1,2,3,4,5,6,7,8],[0,1,2,3,4,5,6,7,8,9],[0,1,2,3,4,5,6,7,8,9,10]]),(18,[[],[],[],[1,2],[1,2,3],[1,2,3,4],[0,1,2,3,4,5],[],[7],[],[7,8,9],[0,1,2,3,4,5,6,7,8,9,10],[0,1,2,3,4,5,6,7,8,9,10,11],[0,1,2,3,4,5,6,7,8,9,10,11,12]]),(19,[[],[],[],[1,2],[1,2,3],[1,2,3,4],[0,1,2,3,4,5],[],[7],[],[7,8,9],[0,1,2,3,4,5,6,7,8,9,10],[0,1,2,3,4,5,6,7,8,9,10,11],[0,1,2,3,4,5,6,7,8,9,10,11,12]])] [] [] [] [(58,⟨2147221600,[],[(4,.lvs [.d (.int .i64),.d (.int .i64),.d (.str),.row 33 false,.row 130 false,.row 97 false,.row 9 false])],[(6,.k (.d (.int .i64)))],[((.exit 0),[]),(.ret,[(5,.k (.d (.int .i64)))])],bnd tb (.len (.slot 0)) 1⟩),
 (250,⟨5192296858534827628530492034256672,[7],[(4,.lvs [.d (.int .i64),.d (.int .i64),.d (.str),.row 33 false,.row 130 false,.row 97 false,.row 9 false]),(7,.lvs [.d (.int .i64),.d (.int .i64),.d (.str),.d (.sl 33),.d (.sl 130),.row 97 true,.row 9 true])],[(8,.k (.d (.int .i64)))],[((.exit 2),[]),(.ret,[(5,.k (.d (.int .i64)))])],bnd tb (.len (.slot 0)) 1⟩),
 (32036,⟨288230101273805312,[7],[],[(9,.k (.d (.int .i64)))],[((.exit 4),[(9,.k (.d (.int .i64)))])],bnd tb (.len (.ld 29 (.fld 33 4 (.slot 7)))) 1⟩)] [] []
def b8E:Row I:=⟨159,[.d (.sl 130),.d (.sl 33)],[.k (.d (.dat 33)),.k (.d (.int .i64))],a1p⟩
theorem b1d:RK (b8E) :=
 okR [eR a5s,eR a2o,eR a9b] 113 c0S [.cell 4 33,.tmp 5] Go.Proofs.Tryz.func159 (by kernel_rfl)
def b6J:Row I:=⟨201,[.d (.int .i64),.d (.int .i64)],[.k (.d (.int .i64))],a0B⟩
theorem a9y:RK (b6J) :=
 okR [eR a6X] 8 Y4 [.tmp 4] Go.Proofs.Tryz.func201 (by kernel_rfl)
def b6G (_:Nat):Hints I:=mkH [(12,[[],[0],[],[0,1,2],[0,1,2,3],[],[5],[],[5,6,7],[5,6,7,8],[0,1,2,3,4,5,6,7,8,9],[0,1,2,3,4,5,6,7,8,9,10]]),(23,[[],[0],[],[0,1,2],[0,1,2,3],[],[5],[],[5,6,7],[5,6,7,8],[0,1,2,3,4,5,6,7,8,9],[0,1,2,3,4,5,6,7,8,9,10]]),(31,[[],[0],[],[0,1,2],[0,1,2,3],[],[5],[],[5,6,7],[5,6,7,8],[0,1,2,3,4,5,6,7,8,9],[0,1,2,3,4,5,6,7,8,9,10]])] [] [] [] [(506,⟨151115655394234608910448,[],[],[(5,.k (.d (.int .i64)))],[((.exit 0),[]),(.ret,[(4,.k (.d (.int .i64)))])],bnd tb (.len (.ld 29 (.fld 33 4 (.slot 2)))) 1⟩),
 (8186,⟨1329227361959615758789106311928742672,[],[],[(8,.k (.d (.int .i64)))],[((.exit 2),[]),(.ret,[(4,.k (.d (.int .i64)))])],bnd tb (.len (.ld 30 (.fld 33 5 (.slot 2)))) 1⟩),
 (32762,⟨45671904388519233253803489366408968731082361872,[],[],[(10,.k (.d (.int .i64)))],[((.exit 4),[]),(.ret,[(4,.k (.d (.int .i64)))])],bnd tb (.len (.ld 31 (.fld 33 6 (.slot 2)))) 1⟩)] [] []
def a00 (n:Nat):Row I:=⟨157,[.d (.dat 33),.d (.dat 33)],[.k (.d (.int .i64))],a0x n⟩
def b8n (_:Nat):Hints I:=mkH [(6,[[],[],[0,1],[0,1,2],[],[],[4,5],[4,5,6],[0,1,2,3,4,5,6,7],[0,1,2,3,4,5,6,7,8]])] [] [] [] [(58,⟨34359607408,[],[],[(5,.k (.d (.int .i64)))],[((.exit 0),[]),(.ret,[(4,.k (.d (.int .i64)))])],bnd tb (.len (.slot 0)) 1⟩)] [] []
def a2m (n:Nat):Row I:=⟨158,[.d (.sl 33),.d (.sl 33)],[.k (.d (.int .i64))],a3X n⟩
def W1 (n:Nat):Row I:=⟨97,[.d (.dat 97),.d (.dat 97)],[.k (.d (.int .i64))],Y5 n⟩
theorem b4f (n:Nat)(_:j5 Go.Proofs.Tryz.prog (a00 n))(h_semtyperef1_values:j5 Go.Proofs.Tryz.prog (a2m n))(h_semtyperef1_CompareEntries:j5 Go.Proofs.Tryz.prog (W1 n)):RK (a00 (n+1)) :=
 okR [eR a9y,eR a6X,eR b0f,eR a2o,eR h_semtyperef1_values,eR h_semtyperef1_CompareEntries] 155 (b6G n) [.tmp 4] Go.Proofs.Tryz.func157 (by kernel_rfl)
theorem b4T (n:Nat)(h_semtyperef1_Compare:j5 Go.Proofs.Tryz.prog (a00 n))(_:j5 Go.Proofs.Tryz.prog (a2m n))(_:j5 Go.Proofs.Tryz.prog (W1 n)):RK (a2m (n+1)) :=
 okR [eR a9y,eR h_semtyperef1_Compare] 35 (b8n n) [.tmp 4] Go.Proofs.Tryz.func158 (by kernel_rfl)
theorem a9s (n:Nat)(h_semtyperef1_Compare:j5 Go.Proofs.Tryz.prog (a00 n))(h_semtyperef1_values:j5 Go.Proofs.Tryz.prog (a2m n))(_:j5 Go.Proofs.Tryz.prog (W1 n)):RK (W1 (n+1)) :=
 okR [eR h_semtyperef1_values,eR h_semtyperef1_Compare] 26 Y4 [.tmp 4] Go.Proofs.Tryz.func97 (by kernel_rfl)
theorem a4d:∀ n:Nat,j5 Go.Proofs.Tryz.prog (a00 n)/\j5 Go.Proofs.Tryz.prog (a2m n)/\j5 Go.Proofs.Tryz.prog (W1 n)
 | 0=>⟨Q4 (by kernel_rfl),Q4 (by kernel_rfl),Q4 (by kernel_rfl)⟩
 | n+1=>by
   obtain ⟨h0,h1,h2⟩:=a4d n
   exact ⟨b4f n h0 h1 h2,b4T n h0 h1 h2,a9s n h0 h1 h2⟩
theorem b4X (n:Nat):j5 Go.Proofs.Tryz.prog (a00 n):=(a4d n).1
theorem a5V (n:Nat):j5 Go.Proofs.Tryz.prog (W1 n):=(a4d n).2.2
def b6A (n:Nat):Row I:=⟨96,[.d (.dat 33),.d (.dat 33)],[.k (.d (.bool))],a4n n⟩
theorem a9L (n:Nat):RK (b6A n) :=
 okR [eR (b4X n)] 9 Y4 [.tmp 4] Go.Proofs.Tryz.func96 (by kernel_rfl)
def b6O (_:Nat):Hints I:=mkH [(6,[[],[],[1],[0,1,2],[0,1,2,3],[0,1,2,3,4],[0,1,2,3,4],[0,1,2,3,4,5,6],[0,1,2,3,4,5,6,7],[0,1,2,3,4],[0,1,2,3,4],[0,1,2,3,4,9,10],[0,1,2,3,4,9,10,11],[0,1,2,3,4,5,6,7,8,9,10,11,12],[0,1,2,3,4,5,6,7,8,9,10,11,12,13],[0,1,2,3,4,5,6,7,8,9,10,11,12,13,14]]),(8,[[],[],[1],[0,1,2],[0,1,2,3],[0,1,2,3,4],[0,1,2,3,4],[0,1,2,3,4,5,6],[0,1,2,3,4,5,6,7],[0,1,2,3,4],[0,1,2,3,4],[0,1,2,3,4,9,10],[0,1,2,3,4,9,10,11],[0,1,2,3,4,5,6,7,8,9,10,11,12],[0,1,2,3,4,5,6,7,8,9,10,11,12,13],[0,1,2,3,4,5,6,7,8,9,10,11,12,13,14]]),(10,[[],[],[],[1,2],[1,2,3],[1,2,3,4],[0,1,2,3,4,5],[],[],[7,8],[0,1,2,3,4,5,6,7,8,9],[0,1,2,3,4,5,6,7,8,9,10]])] [] [] [(466,⟨4611686018427379816,[],[],[(.normal,[(3,.k (.d (.sl 97)))])]⟩)] [(58,⟨4611686018427387896,[],[],[(3,.k (.d (.sl 97))),(4,.k (.d (.int .i64)))],[((.exit 0),[(3,.k (.d (.sl 97)))])],bnd tb (.len (.slot 0)) 1⟩),
 (7460,⟨2147475488,[3],[],[(5,.k (.d (.int .i64)))],[((.exit 2),[(5,.k (.d (.int .i64)))])],bnd tb (.len (.slot 3)) 1⟩)] [] []
def b4c (n:Nat):Row I:=⟨202,[.bor 97],[.k (.d (.sl 97))],a48 n⟩
theorem b4Q (n:Nat):RK (b4c n) :=
 okR [eR (a5V n)] 63 (b6O n) [.tmp 2] Go.Proofs.Tryz.func202 (by kernel_rfl)
def b5k (_:Nat):Hints I:=mkH [] [] [] [] [(58,⟨70368744161376,[],[(4,.lvs [.d (.int .i64),.d (.int .i64),.d (.str),.row 33 false,.row 130 false,.row 97 false,.row 9 false])],[(6,.k (.d (.int .i64)))],[((.exit 0),[]),(.ret,[(5,.k (.d (.int .i64)))])],bnd tb (.len (.slot 1)) 1⟩)] [] []
def b3e (n:Nat):Row I:=⟨160,[.d (.int .i64),.bor 97],[.k (.d (.dat 33)),.k (.d (.int .i64))],a08 n⟩
theorem a8m (n:Nat):RK (b3e n) :=
 okR [eR (a9L n),eR (b4Q n)] 50 (b5k n) [.cell 4 33,.tmp 5] Go.Proofs.Tryz.func160 (by kernel_rfl)
def b7L:Hints I:=mkH [(6,[[],[],[1],[0,1,2],[0,1,2,3],[0,1,2,3,4],[0,1,2,3,4],[0,1,2,3,4,5,6],[0,1,2,3,4,5,6,7],[0,1,2,3,4],[0,1,2,3,4],[0,1,2,3,4,9,10],[0,1,2,3,4,9,10,11],[0,1,2,3,4,5,6,7,8,9,10,11,12],[0,1,2,3,4,5,6,7,8,9,10,11,12,13]]),(8,[[],[],[1],[0,1,2],[0,1,2,3],[0,1,2,3,4],[0,1,2,3,4],[0,1,2,3,4,5,6],[0,1,2,3,4,5,6,7],[0,1,2,3,4],[0,1,2,3,4],[0,1,2,3,4,9,10],[0,1,2,3,4,9,10,11],[0,1,2,3,4,5,6,7,8,9,10,11,12],[0,1,2,3,4,5,6,7,8,9,10,11,12,13]]),(10,[[],[],[],[1,2],[1,2,3],[1,2,3,4],[0,1,2,3,4,5],[],[],[7,8],[0,1,2,3,4,5,6,7,8,9],[0,1,2,3,4,5,6,7,8,9,10]])] [] [] [(466,⟨1152921504606838888,[],[],[(.normal,[(3,.k (.d (.sl 9)))])]⟩)] [(58,⟨1152921504606846968,[],[],[(3,.k (.d (.sl 9))),(4,.k (.d (.int .i64)))],[((.exit 0),[(3,.k (.d (.sl 9)))])],bnd tb (.len (.slot 0)) 1⟩),
 (7460,⟨1073733664,[3],[],[(5,.k (.d (.int .i64)))],[((.exit 2),[(5,.k (.d (.int .i64)))])],bnd tb (.len (.slot 3)) 1⟩)] [] []
def b5T:Row I:=⟨109,[.d (.sl 9)],[.k (.d (.sl 9))],a0n⟩
theorem a6t:RK (b5T) :=
 okR [] 61 b7L [.tmp 2] Go.Proofs.Tryz.func109 (by kernel_rfl)
def b1J:Row I:=⟨110,[.d (.dat 33),.d (.sl 9)],[.k (.d (.dat 33))],a3L⟩
theorem b2E:RK (b1J) :=
 okR [eR a6t] 9 Y4 [.cell 4 33] Go.Proofs.Tryz.func110 (by kernel_rfl)
def b7n:Row I:=⟨203,[.d (.dat 33),.d (.dat 33)],[.k (.d (.dat 33))],a42⟩
theorem b8U:RK (b7n) :=
 okR [] 9 Y4 [.cell 4 33] Go.Proofs.Tryz.func203 (by kernel_rfl)
def b1b:Hints I:=mkH [] [] [] [(29,⟨1048456,[],[(0,.k (.d (.dat 40)))],[(.normal,[(3,.k (.row 9 false))])]⟩)] [] [] []
def b0c:Row I:=⟨162,[.var 40 (.k (.d (.dat 40))) true],[.k (.d (.sl 9))],a1t⟩
theorem a6x:RK (b0c) :=
 okR [eR Z1,eR a6C,eR a6t] 22 b1b [.tmp 2] Go.Proofs.Tryz.func162 (by kernel_rfl)
def b1V:Row I:=⟨204,[.var 40 (.k (.d (.dat 40))) true],[.k (.d (.dat 130))],a3B⟩
theorem b2M:RK (b1V) :=
 okR [eR Z1,eR a1v,eR a2n] 12 Y4 [.cell 2 130] Go.Proofs.Tryz.func204 (by kernel_rfl)
def a0a (n:Nat):Row I:=⟨111,[.var 40 (.k (.d (.dat 40))) true,.d (.int .i64)],[.k (.d (.dat 33))],a1D n⟩
def b1R (_:Nat):Hints I:=mkH [(16,[[],[],[1],[0,1,2],[],[0,1,2,3,4],[0,1,2,3,4,5]])] [(13,[46])] [] [(29,⟨5316911983139663491615228241104863200,[],[(0,.k (.d (.dat 40))),(4,.lvs [.d (.int .i64),.d (.int .i64),.d (.str),.d (.sl 33),.d (.sl 130),.d (.sl 97),.d (.sl 9)])],[(.normal,[]),(.ret,[])]⟩),
 (7540,⟨2234207627640832,[],[(0,.k (.d (.dat 40)))],[(.normal,[(50,.k (.d (.bool)))])]⟩),
 (7541,⟨141863388262170624,[],[(0,.k (.d (.dat 40))),(7,.k (.d (.dat 33)))],[(.normal,[])]⟩)] [(3754,⟨549487378528,[],[(0,.k (.d (.dat 40)))],[(5,.k (.row 33 false)),(6,.k (.d (.int .i64)))],[((.exit 1),[(5,.k (.row 33 false))])],bnd tb (.slot 6) 2⟩),
 (120794,⟨77370071863715549769893632,[],[(0,.k (.d (.dat 40)))],[(8,.k (.row 130 false)),(9,.k (.row 33 false)),(10,.k (.d (.int .i64)))],[((.exit 3),[(8,.k (.row 130 false)),(9,.k (.row 33 false))])],bnd tb (.slot 10) 2⟩),
 (483290,⟨10382058415869198798257999252078592,[],[(0,.k (.d (.dat 40)))],[(14,.k (.row 97 false)),(15,.k (.d (.int .i64)))],[((.exit 5),[(14,.k (.row 97 false))])],bnd tb (.slot 15) 2⟩)] [] []
def a0K (n:Nat):Row I:=⟨161,[.var 40 (.k (.d (.dat 40))) true,.d (.int .i64)],[.k (.d (.dat 33))],b3M n⟩
def b2c (_:Nat):Hints I:=mkH [(4,[[],[0],[],[],[2,3],[2,3,4],[0,1,2,3,4,5],[0,1,2,3,4,5,6],[0,1,2,3,4,5,6,7]])] [] [] [] [(28,⟨1048322,[],[(0,.k (.d (.dat 40))),(7,.lvs [.row 33 false,.d (.bool),.d (.int .i64),.d (.int .i64),.d (.str),.row 33 false,.row 130 false,.row 97 false,.row 9 false])],[(1,.k (.d (.int .i64)))],[((.exit 0),[])],bnd tb (.slot 1) 2⟩)] [] []
def a0Q (n:Nat):Row I:=⟨205,[.var 40 (.k (.d (.dat 40))) true,.d (.int .i64),.d (.int .i64)],[.k (.d (.dat 97))],b3L n⟩
theorem b0O (n:Nat)(_:j5 Go.Proofs.Tryz.prog (a0a n))(h_semtypebase_Source_value:j5 Go.Proofs.Tryz.prog (a0K n))(_:j5 Go.Proofs.Tryz.prog (a0Q n)):RK (a0a (n+1)) :=
 okR [eR h_semtypebase_Source_value,eR a6x] 13 Y4 [.cell 4 33] Go.Proofs.Tryz.func111 (by kernel_rfl)
theorem b0B (n:Nat)(h_semtypebase_Source_Value:j5 Go.Proofs.Tryz.prog (a0a n))(_:j5 Go.Proofs.Tryz.prog (a0K n))(h_semtypebase_Source_entry:j5 Go.Proofs.Tryz.prog (a0Q n)):RK (a0K (n+1)) :=
 okR [eR a4f,eR Z1,eR h_semtypebase_Source_Value,eR a9X,eR a3V,eR b8U,eR a6x,eR b2M,eR b1d,eR h_semtypebase_Source_entry,eR (a8m n)] 124 (b1R n) [.cell 4 33] Go.Proofs.Tryz.func161 (by kernel_rfl)
theorem b0y (n:Nat)(h_semtypebase_Source_Value:j5 Go.Proofs.Tryz.prog (a0a n))(_:j5 Go.Proofs.Tryz.prog (a0K n))(_:j5 Go.Proofs.Tryz.prog (a0Q n)):RK (a0Q (n+1)) :=
 okR [eR h_semtypebase_Source_Value,eR Z1] 30 (b2c n) [.cell 6 97] Go.Proofs.Tryz.func205 (by kernel_rfl)
theorem a5k:∀ n:Nat,j5 Go.Proofs.Tryz.prog (a0a n)/\j5 Go.Proofs.Tryz.prog (a0K n)/\j5 Go.Proofs.Tryz.prog (a0Q n)
 | 0=>⟨Q4 (by kernel_rfl),Q4 (by kernel_rfl),Q4 (by kernel_rfl)⟩
 | n+1=>by
   obtain ⟨h0,h1,h2⟩:=a5k n
   exact ⟨b0O n h0 h1 h2,b0B n h0 h1 h2,b0y n h0 h1 h2⟩
theorem b1h (n:Nat):j5 Go.Proofs.Tryz.prog (a0a n):=(a5k n).1
def b65:Row I:=⟨152,[.d (.int .u8)],[.k (.d (.bool))],a4k⟩
theorem b7h:RK (b65) :=
 okR [] 9 Y4 [.tmp 2] Go.Proofs.Tryz.func152 (by kernel_rfl)
def b3O:Hints I:=mkH [] [] [] [] [(58,⟨562949953159180,[],[],[(3,.k (.d (.int .i64)))],[((.exit 0),[]),(.ret,[(2,.k (.d (.bool)))])],bnd tb (.len (.slot 0)) 1⟩)] [] []
def b1O:Row I:=⟨88,[.d (.str)],[.k (.d (.bool))],a2i⟩
theorem a7v:RK (b1O) :=
 okR [eR b7h,eR a9Y,eR a9P] 49 b3O [.tmp 2] Go.Proofs.Tryz.func88 (by kernel_rfl)
def b85 (_:Nat):Hints I:=mkH [(4,[[],[0],[],[0,1,2],[0,1,2,3],[0,1,2,3,4],[0,1,2,3,4,5],[0,1,2,3,4,5,6],[0,1,2,3,4,5,6,7],[0,1,2,3,4,5,6,7,8],[0,1,2,3,4,5,6,7,8,9],[0,1,2,3,4,5,6,7,8,9,10],[0,1,2,3,4,5,6,7,8,9,10,11],[0,1,2,3,4,5,6,7,8,9,10],[0,1,2,3,4,5,6,7,8,9,10,13],[0,1,2,3,4,5,6,7,8,9,10,11,12,13,14],[0,1,2,3,4,5,6,7,8,9,10,11,12,13,14,15],[0,1,2,3,4,5,6,7,8,9,10],[0,1,2,3,4,5,6,7,8,9,10,17],[0,1,2,3,4,5,6,7,8,9,10],[0,1,2,3,4,5,6,7,8,9,10,17,18,19],[0,1,2,3,4,5,6,7,8,9,10,17,18,19,20],[0,1,2,3,4,5,6,7,8,9,10,11,12,13,14,15,16,17,18,19,20,21],[0,1,2,3,4,5,6,7,8,9,10,11,12,13,14,15,16,17,18,19,20,21,22],[0,1,2,3,4,5,6,7,8,9,10,11,12,13,14,15,16,17,18,19,20,21,22,23]]),(29,[[],[0],[],[0,1,2],[0,1,2,3],[0,1,2,3,4],[0,1,2,3,4,5],[0,1,2,3,4,5,6],[0,1,2,3,4,5,6,7],[0,1,2,3,4,5,6,7,8],[0,1,2,3,4,5,6,7,8,9],[0,1,2,3,4,5,6,7,8,9,10],[0,1,2,3,4,5,6,7,8,9,10,11],[0,1,2,3,4,5,6,7,8,9,10],[0,1,2,3,4,5,6,7,8,9,10,13],[0,1,2,3,4,5,6,7,8,9,10,11,12,13,14],[0,1,2,3,4,5,6,7,8,9,10,11,12,13,14,15],[0,1,2,3,4,5,6,7,8,9,10],[0,1,2,3,4,5,6,7,8,9,10,17],[0,1,2,3,4,5,6,7,8,9,10],[0,1,2,3,4,5,6,7,8,9,10,17,18,19],[0,1,2,3,4,5,6,7,8,9,10,17,18,19,20],[0,1,2,3,4,5,6,7,8,9,10,11,12,13,14,15,16,17,18,19,20,21],[0,1,2,3,4,5,6,7,8,9,10,11,12,13,14,15,16,17,18,19,20,21,22],[0,1,2,3,4,5,6,7,8,9,10,11,12,13,14,15,16,17,18,19,20,21,22,23],[0,1,2,3,4,5,6,7,8,9,10,11,12,13,14,15,16,17,18,19,20,21,22,23,24]]),(39,[[],[0],[0,1],[],[3],[0,1,2,3,4],[0,1,2,3,4,5],[0,1,2,3,4,5,6],[0,1,2,3,4,5,6,7],[0,1,2,3,4,5,6,7,8],[0,1,2,3,4,5,6,7,8,9],[0,1,2,3,4,5,6,7,8,9,10],[0,1,2,3,4,5,6,7,8,9],[0,1,2,3,4,5,6,7,8,9,10,11,12],[0,1,2,3,4,5,6,7,8,9,10,11,12,13],[0,1,2,3,4,5,6,7,8,9,10,11,12,13,14],[0,1,2,3,4,5,6,7,8,9,10,11,12,13,14,15],[0,1,2,3,4,5,6,7,8,9,10,11,12,13,14,15,16],[0,1,2,3,4,5,6,7,8,9,10,11,12,13,14,15,16,17],[0,1,2,3,4,5,6,7,8,9,10,11,12,13,14,15,16,17,18],[0,1,2,3,4,5,6,7,8,9,10,11,12,13,14,15,16,17,18,19],[0,1,2,3,4,5,6,7,8,9,10,11,12,13,14,15,16,17,18,19,20],[0,1,2,3,4,5,6,7,8,9,10,11,12,13,14,15,16,17,18,19,20,21],[0,1,2,3,4,5,6,7,8,9,10,11,12,13,14,15,16,17,18,19,20],[0,1,2,3,4,5,6,7,8,9,10,11,12,13,14,15,16,17,18,19,20,23],[0,1,2,3,4,5,6,7,8,9,10,11,12,13,14,15,16,17,18,19,20,21,22,23,24],[0,1,2,3,4,5,6,7,8,9,10,11,12,13,14,15,16,17,18,19,20,21,22,23,24,25],[0,1,2,3,4,5,6,7,8,9,10,11,12,13,14,15,16,17,18,19,20],[0,1,2,3,4,5,6,7,8,9,10,11,12,13,14,15,16,17,18,19,20,21,22,23,24,25,26,27],[0,1,2,3,4,5,6,7,8,9,10,11,12,13,14,15,16,17,18,19,20,21,22,23,24,25,26,27,28],[0,1,2,3,4,5,6,7,8,9,10,11,12,13,14,15,16,17,18,19,20,21,22,23,24,25,26,27,28,29],[0,1,2,3,4,5,6,7,8,9,10,11,12,13,14,15,16,17,18,19,20,21,22,23,24,25,26,27,28,29,30]])] [] [] [(4073,⟨425352958651173079329218259289710264320,[],[],[(.normal,[(126,.k (.d (.bool)))])]⟩)] [(26,⟨4398046510092,[],[],[(3,.k (.d (.int .i64)))],[((.exit 0),[]),(.ret,[(2,.k (.d (.bool)))])],bnd tb (.len (.ld 31 (.fld 33 6 (.slot 1)))) 1⟩),
 (133562354,⟨411376139282411024886683268815639281647236804420309368268914820,[],[],[(7,.k (.d (.int .i64)))],[((.exit 3),[]),(.ret,[(2,.k (.d (.bool)))])],bnd tb (.len (.ld 29 (.fld 33 4 (.slot 1)))) 1⟩),
 (1068498922,⟨948568795032040353016559207911582007103813675119580226322391447047862150789858052,[],[],[(8,.k (.d (.int .i64)))],[((.exit 5),[]),(.ret,[(2,.k (.d (.bool)))])],bnd tb (.len (.ld 30 (.fld 33 5 (.slot 1)))) 1⟩)] [] []
def b7C (n:Nat):Row I:=⟨54,[.d (.dat 33)],[.k (.d (.bool))],a6W n⟩
theorem b8G (n:Nat):RK (b7C n) :=
 okR [eR a7v,eR a6b,eR a5s,eR a2o,eR (a9L n),eR (a5V n)] 269 (b85 n) [.tmp 2] Go.Proofs.Tryz.func54 (by kernel_rfl)
def b8L (_:Nat):Hints I:=mkH [] [] [] [] [(58,⟨16776204,[],[],[(3,.k (.d (.int .i64)))],[((.exit 0),[]),(.ret,[(2,.k (.d (.bool)))])],bnd tb (.len (.ld 28 (.fld 33 3 (.slot 1)))) 1⟩),
 (122,⟨576460752286646388,[],[],[(4,.k (.d (.int .i64)))],[((.exit 2),[]),(.ret,[(2,.k (.d (.bool)))])],bnd tb (.len (.ld 30 (.fld 33 5 (.slot 1)))) 1⟩),
 (31306,⟨1125831187365956,[],[],[(6,.k (.d (.int .i64)))],[((.exit 4),[]),(.ret,[(2,.k (.d (.bool)))])],bnd tb (.len (.ld 28 (.fld 97 0 (.slot 5)))) 1⟩)] [] []
def a6y (n:Nat):Row I:=⟨22,[.d (.dat 33)],[.k (.d (.bool))],X0 n⟩
theorem b62 (n:Nat)(h_semtyperef1_Valid:j5 Go.Proofs.Tryz.prog (a6y n)):RK (a6y (n+1)) :=
 okR [eR (b8G n),eR h_semtyperef1_Valid] 59 (b8L n) [.tmp 2] Go.Proofs.Tryz.func22 (by kernel_rfl)
theorem a4p:∀ n:Nat,j5 Go.Proofs.Tryz.prog (a6y n)
 | 0=>Q4 (by kernel_rfl)
 | n+1=>b62 n (a4p n)
def V9 (n:Nat):Row I:=⟨26,[.var 40 (.k (.d (.dat 40))) true,.d (.dat 27),.d (.int .i64),.d (.int .i64)],[.k (.d (.dat 33))],a3n n⟩
def b2j (_:Nat):Hints I:=mkH [(7,[[],[0],[],[2],[],[4],[],[6],[6,7],[],[9],[9,10],[6,7,8,9,10,11],[4,5,6,7,8,9,10,11,12],[0,1,2,3,4,5,6,7,8,9,10,11,12,13],[],[15],[0,1,2,3,4,5,6,7,8,9,10,11,12,13,14,15,16],[0,1,2,3,4,5,6,7,8,9,10,11,12,13,14,15,16,17],[0,1,2,3,4,5,6,7,8,9,10,11,12,13,14,15,16,17,18],[0,1,2,3,4,5,6,7,8,9,10,11,12,13,14,15,16,17,18,19]]),(25,[[],[0],[],[],[],[4],[],[4,5,6],[4,5,6,7],[],[9],[2,3,4,5,6,7,8,9,10],[2,3,4,5,6,7,8,9,10,11],[0,1,2,3,4,5,6,7,8,9,10,11,12],[0,1,2,3,4,5,6,7,8,9,10,11,12,13],[0,1,2,3,4,5,6,7,8,9,10,11,12,13,14]]),(30,[[],[0],[],[0,1,2],[0,1,2,3]]),(37,[[],[],[],[2],[],[],[5],[5,6],[4,5,6,7],[2,3,4,5,6,7,8],[2,3,4,5,6,7,8,9],[],[0,1,2,3,4,5,6,7,8,9,10,11],[0,1,2,3,4,5,6,7,8,9,10,11,12]]),(39,[[],[],[],[2],[],[],[5],[5,6],[4,5,6,7],[2,3,4,5,6,7,8],[2,3,4,5,6,7,8,9],[],[0,1,2,3,4,5,6,7,8,9,10,11],[0,1,2,3,4,5,6,7,8,9,10,11,12]]),(43,[[],[0],[],[2],[],[2,3,4],[2,3,4,5],[0,1,2,3,4,5,6],[0,1,2,3,4,5,6,7],[0,1,2,3,4,5,6,7,8],[0,1,2,3,4,5,6,7,8,9]]),(44,[[],[0],[0,1],[],[3],[],[5],[],[5,6,7],[5,6,7,8],[3,4,5,6,7,8,9],[3,4,5,6,7,8,9,10],[3,4,5,6,7,8,9,10,11],[3,4,5,6,7,8,9,10,11,12],[0,1,2,3,4,5,6,7,8,9,10,11,12,13],[0,1,2,3,4,5,6,7,8,9,10,11,12,13,14],[0,1,2,3,4,5,6,7,8,9,10,11,12,13,14,15],[0,1,2,3,4,5,6,7,8,9,10,11,12,13,14,15,16]]),(47,[[],[0],[],[2],[2,3],[0,1,2,3,4],[0,1,2,3,4,5]])] [] [] [(16449533,⟨386856262276681335905976320,[],[],[(.normal,[(86,.k (.d (.bool)))])]⟩),
 (263192557,⟨85029053355366337244815407887308292096,[],[(10,.lvs [.d (.int .i64),.d (.int .i64),.d (.str),.row 33 false,.row 130 false,.row 97 false,.row 9 false])],[(.normal,[])]⟩),
 (539018395474,⟨102844034449451492418213359320247649773843695697413960913387520,[],[(10,.k (.d (.dat 33)))],[(.normal,[])]⟩)] [(131596274,⟨2596147810297394171575110715049984,[],[(0,.k (.d (.dat 40))),(10,.lvs [.d (.int .i64),.d (.int .i64),.d (.str),.row 33 false,.row 130 false,.row 97 false,.row 9 false])],[(11,.k (.d (.int .i64)))],[((.exit 1),[])],bnd tb (.len (.ld 22 (.fld 65 4 (.slot 9)))) 1⟩),
 (67377299434,⟨102844034829582222281431884733353260024018043977843391611277312,[],[(10,.k (.d (.dat 33)))],[(12,.k (.d (.int .i64)))],[((.exit 3),[])],bnd tb (.len (.ld 22 (.fld 65 4 (.slot 9)))) 1⟩)] [] []
def a0f (n:Nat):Row I:=⟨56,[.var 40 (.k (.d (.dat 40))) true,.d (.dat 27),.d (.int .i64),.d (.int .i64)],[.k (.d (.dat 33))],b4v n⟩
def a8G (_:Nat):Hints I:=mkH [(10,[[],[0],[],[],[],[4],[],[4,5,6],[4,5,6,7],[],[9],[2,3,4,5,6,7,8,9,10],[2,3,4,5,6,7,8,9,10,11],[0,1,2,3,4,5,6,7,8,9,10,11,12],[0,1,2,3,4,5,6,7,8,9,10,11,12,13],[0,1,2,3,4,5,6,7,8,9,10,11,12,13,14]]),(13,[[],[],[],[2],[],[2,3,4],[2,3,4,5],[],[7],[0,1,2,3,4,5,6,7,8],[0,1,2,3,4,5,6,7,8,9],[0,1,2,3,4,5,6,7,8,9,10]])] [] [] [(31309,⟨2305280059260272640,[],[(0,.k (.d (.dat 40))),(12,.lvs [.row 33 false,.d (.bool),.d (.int .i64),.d (.int .i64),.d (.str),.d (.sl 33),.d (.sl 130),.d (.sl 97),.d (.sl 9)])],[(.normal,[])]⟩)] [(122,⟨36893488147414923776,[],[(0,.k (.d (.dat 40)))],[(9,.k (.row 97 false)),(11,.k (.d (.int .i64)))],[((.exit 0),[(9,.k (.row 97 false))])],bnd tb (.slot 11) 2⟩),
 (31306,⟨70368677076992,[],[(0,.k (.d (.dat 40))),(12,.lvs [.row 33 false,.d (.bool),.d (.int .i64),.d (.int .i64),.d (.str),.row 33 false,.row 130 false,.row 97 false,.row 9 false])],[(13,.k (.d (.int .i64)))],[((.exit 2),[])],bnd tb (.slot 10) 1⟩)] [] []
def K3 (n:Nat):Row I:=⟨108,[.var 40 (.k (.d (.dat 40))) true,.d (.dat 27),.d (.dat 65),.d (.int .i64)],[.k (.d (.dat 33))],a9j n⟩
def b0k (_:Nat):Hints I:=mkH [(8,[[],[],[],[],[3],[],[3,4,5],[3,4,5,6],[3,4,5,6,7],[],[9],[1,2,3,4,5,6,7,8,9,10],[1,2,3,4,5,6,7,8,9,10,11],[0,1,2,3,4,5,6,7,8,9,10,11,12],[0,1,2,3,4,5,6,7,8,9,10,11,12,13]]),(12,[[],[],[],[],[3],[],[3,4,5],[3,4,5,6],[],[8],[1,2,3,4,5,6,7,8,9],[1,2,3,4,5,6,7,8,9,10],[0,1,2,3,4,5,6,7,8,9,10,11],[0,1,2,3,4,5,6,7,8,9,10,11,12]])] [(6,[28])] [] [(125,⟨604462333346562283935232,[],[(0,.k (.d (.dat 40)))],[(.normal,[(9,.k (.row 130 false)),(10,.k (.row 33 false))])]⟩),
 (978,⟨72057594033735168,[],[(0,.k (.d (.dat 40)))],[(.normal,[(9,.k (.row 130 false)),(10,.k (.row 33 false))])]⟩),
 (7824,⟨8585740288,[],[(0,.k (.d (.dat 40)))],[(.normal,[(32,.k (.d (.bool)))])]⟩)] [(122,⟨72057594037898752,[],[(0,.k (.d (.dat 40)))],[(9,.k (.row 130 false)),(10,.k (.row 33 false)),(11,.k (.d (.int .i64)))],[((.exit 0),[(9,.k (.row 130 false)),(10,.k (.row 33 false))])],bnd tb (.len (.ld 62 (.fld 65 5 (.slot 6)))) 1⟩)] [] []
def W3 (n:Nat):Row I:=⟨107,[.var 40 (.k (.d (.dat 40))) true,.d (.dat 27),.d (.dat 65),.d (.int .i64)],[.k (.d (.dat 33))],b1H n⟩
theorem b1w (n:Nat)(_:j5 Go.Proofs.Tryz.prog (V9 n))(h_semtypebase_Source_near:j5 Go.Proofs.Tryz.prog (a0f n))(_:j5 Go.Proofs.Tryz.prog (K3 n))(_:j5 Go.Proofs.Tryz.prog (W3 n)):RK (V9 (n+1)) :=
 okR [eR h_semtypebase_Source_near,eR (a4p n),eR a4f] 21 Y4 [.cell 8 33] Go.Proofs.Tryz.func26 (by kernel_rfl)
theorem b1x (n:Nat)(h_semtypebase_Source_Near:j5 Go.Proofs.Tryz.prog (V9 n))(h_semtypebase_Source_near:j5 Go.Proofs.Tryz.prog (a0f n))(h_semtypebase_Source_nearFunction:j5 Go.Proofs.Tryz.prog (K3 n))(h_semtypebase_Source_nearMap:j5 Go.Proofs.Tryz.prog (W3 n)):RK (a0f (n+1)) :=
 okR [eR a4f,eR Z1,eR a7H,eR a87,eR a2n,eR b0g,eR a1v,eR b1p,eR a3V,eR h_semtypebase_Source_Near,eR h_semtypebase_Source_nearMap,eR h_semtypebase_Source_nearFunction,eR h_semtypebase_Source_near,eR a6t,eR b2E,eR (b1h n)] 217 (b2j n) [.cell 8 33] Go.Proofs.Tryz.func56 (by kernel_rfl)
theorem a8l (n:Nat)(h_semtypebase_Source_Near:j5 Go.Proofs.Tryz.prog (V9 n))(_:j5 Go.Proofs.Tryz.prog (a0f n))(_:j5 Go.Proofs.Tryz.prog (K3 n))(_:j5 Go.Proofs.Tryz.prog (W3 n)):RK (K3 (n+1)) :=
 okR [eR Z1,eR h_semtypebase_Source_Near,eR (a8m n),eR a3V] 75 (a8G n) [.cell 8 33] Go.Proofs.Tryz.func108 (by kernel_rfl)
theorem a9J (n:Nat)(h_semtypebase_Source_Near:j5 Go.Proofs.Tryz.prog (V9 n))(_:j5 Go.Proofs.Tryz.prog (a0f n))(_:j5 Go.Proofs.Tryz.prog (K3 n))(_:j5 Go.Proofs.Tryz.prog (W3 n)):RK (W3 (n+1)) :=
 okR [eR Z1,eR h_semtypebase_Source_Near,eR b1d,eR a3V] 89 (b0k n) [.cell 8 33] Go.Proofs.Tryz.func107 (by kernel_rfl)
theorem a5z:∀ n:Nat,j5 Go.Proofs.Tryz.prog (V9 n)/\j5 Go.Proofs.Tryz.prog (a0f n)/\j5 Go.Proofs.Tryz.prog (K3 n)/\j5 Go.Proofs.Tryz.prog (W3 n)
 | 0=>⟨Q4 (by kernel_rfl),Q4 (by kernel_rfl),Q4 (by kernel_rfl),Q4 (by kernel_rfl)⟩
 | n+1=>by
   obtain ⟨h0,h1,h2,h3⟩:=a5z n
   exact ⟨b1w n h0 h1 h2 h3,b1x n h0 h1 h2 h3,a8l n h0 h1 h2 h3,a9J n h0 h1 h2 h3⟩
theorem b1I (n:Nat):j5 Go.Proofs.Tryz.prog (V9 n):=(a5z n).1
def b8B (_:Nat):Hints I:=mkH [(5,[[],[],[],[],[1,2,3],[0,1,2,3,4],[0,1,2,3,4,5]])] [] [] [] [] [] []
def b67 (n:Nat):Row I:=⟨9,[.d (.sl 3),.d (.sl 3)],[.k (.d (.dat 27)),.k (.d (.dat 33))],a56 n⟩
theorem b7j (n:Nat):RK (b67 n) :=
 okR [eR Z1,eR b1F,eR (b1I n)] 31 (b8B n) [.cell 4 27,.cell 5 33] Go.Proofs.Tryz.func9 (by kernel_rfl)
def b64:Row I:=⟨53,[.d (.dat 27),.d (.int .i64)],[.k (.d (.bool))],a0E⟩
theorem a6O:RK (b64) :=
 okR [] 14 Y4 [.tmp 4] Go.Proofs.Tryz.func53 (by kernel_rfl)
def b9J:Hints I:=mkH [(4,[[],[],[1],[],[1,2,3],[1,2,3,4],[0,1,2,3,4,5],[0,1,2,3,4,5,6]]),(47,[[],[],[1],[0,1,2],[0,1,2,3],[0,1,2,3,4],[0,1,2,3,4,5],[0,1,2,3,4,5,6],[0,1,2,3,4,5,6,7],[0,1,2,3,4,5,6,7,8],[0,1,2,3,4,5,6,7,8,9],[0,1,2,3,4,5,6,7,8,9,10],[0,1,2,3,4,5,6,7,8,9,10,11],[0,1,2,3,4,5,6,7,8,9,10,11,12],[0,1,2,3,4,5,6,7,8,9,10,11,12,13],[0,1,2,3,4,5,6,7,8,9,10,11,12,13,14],[0,1,2,3,4,5,6,7,8,9,10,11,12,13,14,15],[0,1,2,3,4,5,6,7,8,9,10,11,12,13,14],[0,1,2,3,4,5,6,7,8,9,10,11,12,13,14,17],[0,1,2,3,4,5,6,7,8,9,10,11,12,13,14,15,16,17,18],[0,1,2,3,4,5,6,7,8,9,10,11,12,13,14,15,16,17,18,19],[0,1,2,3,4,5,6,7,8,9,10,11,12,13,14,15,16,17,18,19,20],[0,1,2,3,4,5,6,7,8,9,10,11,12,13,14],[0,1,2,3,4,5,6,7,8,9,10,11,12,13,14,22],[0,1,2,3,4,5,6,7,8,9,10,11,12,13,14,15,16,17,18,19,20,21,22,23],[0,1,2,3,4,5,6,7,8,9,10,11,12,13,14,15,16,17,18,19,20,21,22,23,24],[0,1,2,3,4,5,6,7,8,9,10,11,12,13,14,15,16,17,18,19,20,21,22,23,24,25],[0,1,2,3,4,5,6,7,8,9,10,11,12,13,14,15,16,17,18,19,20,21,22,23,24,25,26]])] [] [] [(2092029,⟨2706308199418088717232151174730781556736,[],[],[(.normal,[(122,.k (.d (.bool)))])]⟩),
 (535560189,⟨3568119231764899702645714923623737840956866560,[],[],[(.normal,[(149,.k (.d (.bool)))])]⟩)] [(26,⟨67106864,[],[],[(5,.k (.d (.int .i64)))],[((.exit 0),[]),(.ret,[(4,.k (.d (.bool)))])],bnd tb (.len (.ld 22 (.fld 65 4 (.slot 3)))) 1⟩),
 (68551704562,⟨1606938044257528773904631189422958917689486710763136902759952,[],[],[(9,.k (.d (.int .i64)))],[((.exit 3),[]),(.ret,[(4,.k (.d (.bool)))])],bnd tb (.len (.ld 62 (.fld 65 5 (.slot 3)))) 1⟩)] [] []
def b7P:Row I:=⟨69,[.d (.dat 27),.d (.dat 65)],[.k (.d (.bool))],a6Z⟩
theorem b8t:RK (b7P) :=
 okR [eR a6O,eR a6b,eR a7v,eR a5s,eR a2o] 216 b9J [.tmp 4] Go.Proofs.Tryz.func69 (by kernel_rfl)
def b4h:Row I:=⟨70,[.d (.dat 65)],[.k (.d (.bool))],a5a⟩
theorem b5c:RK (b4h) :=
 okR [] 16 Y4 [.tmp 2] Go.Proofs.Tryz.func70 (by kernel_rfl)
def b3A (n:Nat):Hints I:=mkH [(6,[[],[],[1],[],[1,2,3],[1,2,3,4],[0,1,2,3,4,5],[0,1,2,3,4,5,6]])] [] [] [] [(58,⟨1073709068,[],[],[(3,.k (.d (.int .i64)))],[((.exit 0),[]),(.ret,[(2,.k (.d (.int .i64)))])],bnd tb (.len (.ld 25 (.fld 27 0 (.slot 1)))) 1⟩),
 (250,⟨4951760157141521082416628192,[],[],[(4,.k (.row 4 false)),(5,.k (.d (.int .i64)))],[((.exit 2),[(4,.k (.row 4 false))])],bnd tb (.len (.ld 25 (.fld 27 0 (.slot 1)))) 1⟩),
 (506,⟨10136253041668693690874029146628,[],[],[(4,.k (.row 4 false)),(9,.k (.d (.int .i64)))],[((.exit 8),[(4,.k (.row 4 false))]),(.ret,[(2,.k (.d (.int .i64))),(4,.k (.row 4 false))])],bnd tb (.len (.slot 4)) 1⟩),
 (16018,⟨4951760157141518900573241792,[],[],[(4,.k (.row 4 false)),(6,.k (.d (.int .i64)))],[((.exit 4),[(4,.k (.row 4 false))])],bnd tb (.len (.ld 25 (.fld 27 0 (.slot 1)))) 1⟩),
 (4100682,⟨4835703278177041722114432,[],[],[(4,.k (.row 4 false)),(7,.k (.d (.bool))),(8,.k (.d (.int .i64)))],[((.exit 6),[(4,.k (.row 4 false)),(7,.k (.d (.bool)))])],fun _=>some n⟩)] [] []
def b1U (n:Nat):Row I:=⟨32,[.d (.dat 27)],[.k (.d (.int .i64))],a1j n⟩
theorem b2i (n:Nat):RK (b1U n) :=
 okR [eR a6O,eR b8t,eR b5c] 103 (b3A n) [.tmp 2] Go.Proofs.Tryz.func32 (by kernel_rfl)
def b5Y:Hints I:=mkH [(1,[[],[0],[0,1],[],[3],[0,1,2,3,4],[0,1,2,3,4,5]]),(5,[[],[],[],[1,2],[1,2,3],[0,1,2,3,4],[0,1,2,3,4,5]])] [] [] [] [(58,⟨67100752,[5],[],[(6,.k (.d (.int .i64)))],[((.exit 0),[]),(.ret,[(4,.k (.d (.bool)))])],bnd tb (.len (.slot 5)) 1⟩)] [] []
def b4d:Row I:=⟨21,[.d (.dat 27),.d (.dat 37)],[.k (.d (.bool))],a2d⟩
theorem a8I:RK (b4d) :=
 okR [eR a6O] 26 b5Y [.tmp 4] Go.Proofs.Tryz.func21 (by kernel_rfl)
def c02:Hints I:=mkH [(4,[[],[0],[],[0,1,2],[0,1,2,3],[],[0,1,2,3,4,5]])] [] [] [] [(26,⟨2097136,[],[],[(5,.k (.d (.int .i64)))],[((.exit 0),[]),(.ret,[(4,.k (.d (.int .i64)))])],bnd tb (.len (.ld 29 (.fld 33 4 (.slot 2)))) 1⟩)] [] []
def b8P:Row I:=⟨181,[.d (.dat 33),.d (.dat 130)],[.k (.d (.int .i64))],a7l⟩
theorem b9T:RK (b8P) :=
 okR [] 21 c02 [.tmp 4] Go.Proofs.Tryz.func181 (by kernel_rfl)
def b8N:Hints I:=mkH [(4,[[],[0],[],[0,1,2],[0,1,2,3],[0,1,2,3,4],[],[0,1,2,3,4,5,6]])] [] [] [] [(26,⟨4194288,[],[],[(5,.k (.d (.int .i64)))],[((.exit 0),[]),(.ret,[(4,.k (.d (.int .i64)))])],bnd tb (.len (.ld 62 (.fld 65 5 (.slot 2)))) 1⟩)] [] []
def b5W:Row I:=⟨182,[.d (.dat 65),.d (.dat 130)],[.k (.d (.int .i64))],a27⟩
theorem b7k:RK (b5W) :=
 okR [] 22 b8N [.tmp 4] Go.Proofs.Tryz.func182 (by kernel_rfl)
def b5b (_:Nat):Hints I:=mkH [(8,[[],[0],[],[],[3],[],[3,4,5],[0,1,2,3,4,5,6],[0,1,2,3,4,5,6,7],[0,1,2,3,4,5,6,7,8],[0,1,2,3,4,5,6,7,8,9],[0,1,2,3,4,5,6,7,8,9,10],[0,1,2,3,4,5,6,7,8,9,10,11],[0,1,2,3,4,5,6,7,8,9,10,11,12],[0,1,2,3,4,5,6,7,8,9,10,11],[0,1,2,3,4,5,6,7,8,9,10,11],[0,1,2,3,4,5,6,7,8,9,10,11,15],[0,1,2,3,4,5,6,7,8,9,10,11],[0,1,2,3,4,5,6,7,8,9,10,11,15,16,17],[0,1,2,3,4,5,6,7,8,9,10,11,15,16,17,18],[0,1,2,3,4,5,6,7,8,9,10,11,12,13,14,15,16,17,18,19],[0,1,2,3,4,5,6,7,8,9,10,11,12,13,14,15,16,17,18,19,20],[0,1,2,3,4,5,6,7,8,9,10,11,12,13,14,15,16,17,18,19,20,21],[0,1,2,3,4,5,6,7,8,9,10,11,12,13,14,15,16,17,18,19,20,21,22]])] [] [] [] [(122,⟨18014398509220672,[],[],[(8,.k (.d (.int .i64)))],[((.exit 0),[]),(.ret,[(6,.k (.d (.bool)))])],bnd tb (.len (.ld 30 (.fld 33 5 (.slot 3)))) 1⟩)] [] []
def a0L (n:Nat):Row I:=⟨133,[.d (.dat 33),.d (.dat 27),.d (.dat 65)],[.k (.d (.bool))],a03 n⟩
def b6X (_:Nat):Hints I:=mkH [(4,[[],[0],[],[0,1,2],[0,1,2,3],[0,1,2,3,4],[0,1,2,3,4,5],[0,1,2,3,4,5,6],[0,1,2,3,4,5,6,7],[0,1,2,3,4,5,6,7],[0,1,2,3,4,5,6,7,9],[0,1,2,3,4,5,6,7],[0,1,2,3,4,5,6,7,9,10,11],[0,1,2,3,4,5,6,7,9,10,11,12],[0,1,2,3,4,5,6,7,9,10,11,12,13],[0,1,2,3,4,5,6,7,8,9,10,11,12,13,14],[0,1,2,3,4,5,6,7,8,9,10,11,12,13,14,15],[0,1,2,3,4,5,6,7,8,9,10,11,12,13,14,15,16]]),(9,[[],[],[1],[],[1,2,3],[1,2,3,4],[0,1,2,3,4,5],[0,1,2,3,4,5,6]]),(13,[[],[0],[],[0,1,2],[0,1,2,3],[],[],[0,1,2,3,4,5,6],[0,1,2,3,4,5,6,7]])] [] [] [(3730,⟨575334852396581888,[],[],[(.normal,[(10,.k (.d (.int .i64)))])]⟩),
 (14925,⟨145268109580462720000,[],[],[(.normal,[(10,.k (.d (.int .i64)))])]⟩)] [(26,⟨68719474880,[],[],[(7,.k (.d (.int .i64)))],[((.exit 0),[]),(.ret,[(6,.k (.d (.bool)))])],bnd tb (.len (.ld 62 (.fld 65 5 (.slot 5)))) 1⟩),
 (58,⟨75557863725845603944256,[],[],[(8,.k (.d (.int .i64)))],[((.exit 2),[]),(.ret,[(6,.k (.d (.bool)))])],bnd tb (.len (.ld 29 (.fld 33 4 (.slot 3)))) 1⟩)] [] []
def a02 (n:Nat):Row I:=⟨132,[.d (.dat 33),.d (.dat 27),.d (.dat 65)],[.k (.d (.bool))],a1n n⟩
def b78 (_:Nat):Hints I:=mkH [(35,[[],[],[],[2],[],[2,3,4],[2,3,4,5],[0,1,2,3,4,5,6]]),(42,[[],[],[],[2],[],[2,3,4],[2,3,4,5],[0,1,2,3,4,5,6],[0,1,2,3,4,5,6,7]]),(46,[[],[],[],[2],[2,3],[2,3,4],[0,1,2,3,4,5],[0,1,2,3,4,5,6],[0,1,2,3,4,5,6,7]]),(51,[[],[0],[],[0,1,2],[0,1,2,3],[],[5],[0,1,2,3,4,5,6]])] [] [] [] [(506806140914,⟨365364258960126464239350440319934430733230145856,[],[],[(8,.k (.d (.int .i64)))],[((.exit 1),[]),(.ret,[(6,.k (.d (.bool)))])],bnd tb (.len (.ld 22 (.fld 65 4 (.slot 7)))) 1⟩),
 (2027224563698,⟨95779509802480722744478485512061607693151539203932736,[],[],[(9,.k (.d (.int .i64)))],[((.exit 3),[]),(.ret,[(6,.k (.d (.bool)))])],bnd tb (.len (.ld 22 (.fld 65 4 (.slot 7)))) 1⟩),
 (16217796509690,⟨12855112035213460536787957001890350341026617553047063680255040,[],[],[(10,.k (.d (.int .i64)))],[((.exit 5),[]),(.ret,[(6,.k (.d (.bool)))])],bnd tb (.len (.ld 31 (.fld 33 6 (.slot 3)))) 1⟩)] [] []
end Go.Qx
end
section
namespace Go.Qx
open Go Go.RowKit Go.Sx
set_option maxHeartbeats 1600000
set_option maxRecDepth 100000
def a0s (n:Nat):Row I:=⟨71,[.d (.dat 33),.d (.dat 27),.d (.int .i64)],[.k (.d (.bool))],w8 n⟩
def b6z (_:Nat):Hints I:=mkH [(6,[[],[],[0,1],[0,1,2],[],[],[],[5,6],[5,6,7],[0,1,2,3,4,5,6,7,8],[0,1,2,3,4,5,6,7,8,9]])] [] [] [] [(58,⟨1073733824,[],[],[(7,.k (.d (.int .i64)))],[((.exit 0),[]),(.ret,[(6,.k (.d (.bool)))])],bnd tb (.len (.slot 0)) 1⟩)] [] []
def a0Z (n:Nat):Row I:=⟨131,[.d (.sl 33),.d (.dat 27),.d (.sl 3)],[.k (.d (.bool))],a0y n⟩
theorem b3R (n:Nat)(_:j5 Go.Proofs.Tryz.prog (a0L n))(_:j5 Go.Proofs.Tryz.prog (a02 n))(h_semtyperef7_member:j5 Go.Proofs.Tryz.prog (a0s n))(h_semtyperef7_members:j5 Go.Proofs.Tryz.prog (a0Z n)):RK (a0L (n+1)) :=
 okR [eR h_semtyperef7_members,eR h_semtyperef7_member] 54 (b5b n) [.tmp 6] Go.Proofs.Tryz.func133 (by kernel_rfl)
theorem b4m (n:Nat)(_:j5 Go.Proofs.Tryz.prog (a0L n))(_:j5 Go.Proofs.Tryz.prog (a02 n))(h_semtyperef7_member:j5 Go.Proofs.Tryz.prog (a0s n))(_:j5 Go.Proofs.Tryz.prog (a0Z n)):RK (a02 (n+1)) :=
 okR [eR b9T,eR b7k,eR h_semtyperef7_member] 76 (b6X n) [.tmp 6] Go.Proofs.Tryz.func132 (by kernel_rfl)
theorem b5Q (n:Nat)(h_semtyperef7_function:j5 Go.Proofs.Tryz.prog (a0L n))(h_semtyperef7_mapping:j5 Go.Proofs.Tryz.prog (a02 n))(h_semtyperef7_member:j5 Go.Proofs.Tryz.prog (a0s n))(h_semtyperef7_members:j5 Go.Proofs.Tryz.prog (a0Z n)):RK (a0s (n+1)) :=
 okR [eR h_semtyperef7_members,eR h_semtyperef7_mapping,eR h_semtyperef7_function,eR h_semtyperef7_member] 203 (b78 n) [.tmp 6] Go.Proofs.Tryz.func71 (by kernel_rfl)
theorem b4w (n:Nat)(_:j5 Go.Proofs.Tryz.prog (a0L n))(_:j5 Go.Proofs.Tryz.prog (a02 n))(h_semtyperef7_member:j5 Go.Proofs.Tryz.prog (a0s n))(_:j5 Go.Proofs.Tryz.prog (a0Z n)):RK (a0Z (n+1)) :=
 okR [eR h_semtyperef7_member] 30 (b6z n) [.tmp 6] Go.Proofs.Tryz.func131 (by kernel_rfl)
theorem a6E:∀ n:Nat,j5 Go.Proofs.Tryz.prog (a0L n)/\j5 Go.Proofs.Tryz.prog (a02 n)/\j5 Go.Proofs.Tryz.prog (a0s n)/\j5 Go.Proofs.Tryz.prog (a0Z n)
 | 0=>⟨Q4 (by kernel_rfl),Q4 (by kernel_rfl),Q4 (by kernel_rfl),Q4 (by kernel_rfl)⟩
 | n+1=>by
   obtain ⟨h0,h1,h2,h3⟩:=a6E n
   exact ⟨b3R n h0 h1 h2 h3,b4m n h0 h1 h2 h3,b5Q n h0 h1 h2 h3,b4w n h0 h1 h2 h3⟩
theorem b6t (n:Nat):j5 Go.Proofs.Tryz.prog (a0s n):=(a6E n).2.2.1
def b7T (_:Nat):Hints I:=mkH [(4,[[],[],[],[2],[],[2,3,4],[2,3,4,5],[0,1,2,3,4,5,6],[0,1,2,3,4,5,6,7]]),(9,[[],[],[],[2],[],[2,3,4],[2,3,4,5],[0,1,2,3,4,5,6]])] [] [] [] [(26,⟨33554112,[],[],[(7,.k (.d (.int .i64)))],[((.exit 0),[]),(.ret,[(6,.k (.d (.bool)))])],bnd tb (.len (.ld 22 (.fld 37 0 (.slot 5)))) 1⟩),
 (58,⟨1099478073664,[],[],[(8,.k (.d (.int .i64)))],[((.exit 2),[]),(.ret,[(6,.k (.d (.bool)))])],bnd tb (.len (.ld 22 (.fld 37 1 (.slot 5)))) 1⟩)] [] []
def b4R (n:Nat):Row I:=⟨33,[.d (.dat 33),.d (.dat 27),.d (.dat 37)],[.k (.d (.bool))],a7E n⟩
theorem b6I (n:Nat):RK (b4R n) :=
 okR [eR (b6t n)] 53 (b7T n) [.tmp 6] Go.Proofs.Tryz.func33 (by kernel_rfl)
def b5H (n:Nat):Row I:=⟨13,[.d (.dat 33),.d (.dat 27),.d (.dat 37)],[.k (.d (.bool))],a1C n⟩
theorem b6E (n:Nat):RK (b5H n) :=
 okR [eR (a4p n),eR (b2i n),eR a8I,eR (b6I n)] 25 Y4 [.tmp 6] Go.Proofs.Tryz.func13 (by kernel_rfl)
def b8J (_:Nat):Hints I:=mkH [] [] [] [(978,⟨288230375077970120,[],[],[(.normal,[(3,.k (.d (.int .i64)))])]⟩)] [(58,⟨8388376,[],[],[(3,.k (.d (.int .i64))),(4,.k (.d (.int .i64)))],[((.exit 0),[(3,.k (.d (.int .i64)))])],bnd tb (.len (.ld 28 (.fld 33 3 (.slot 1)))) 1⟩),
 (122,⟨288230376143323368,[],[],[(3,.k (.d (.int .i64))),(5,.k (.d (.int .i64)))],[((.exit 2),[(3,.k (.d (.int .i64)))])],bnd tb (.len (.ld 30 (.fld 33 5 (.slot 1)))) 1⟩),
 (31306,⟨1125865547104392,[],[],[(3,.k (.d (.int .i64))),(7,.k (.d (.int .i64)))],[((.exit 4),[(3,.k (.d (.int .i64)))])],bnd tb (.len (.ld 28 (.fld 97 0 (.slot 6)))) 1⟩)] [] []
def a59 (n:Nat):Row I:=⟨20,[.d (.dat 33)],[.k (.d (.int .i64))],a0A n⟩
theorem b57 (n:Nat)(h_semtyperef1_Nodes:j5 Go.Proofs.Tryz.prog (a59 n)):RK (a59 (n+1)) :=
 okR [eR h_semtyperef1_Nodes] 59 (b8J n) [.tmp 2] Go.Proofs.Tryz.func20 (by kernel_rfl)
theorem a9w:∀ n:Nat,j5 Go.Proofs.Tryz.prog (a59 n)
 | 0=>Q4 (by kernel_rfl)
 | n+1=>b57 n (a9w n)
def b8I:Hints I:=mkH [] [] [] [] [(26,⟨16776784,[],[],[(9,.k (.d (.int .i64)))],[((.exit 0),[]),(.ret,[(4,.k (.d (.bool)))])],bnd tb (.slot 8) 1⟩)] [] []
def b6w:Row I:=⟨90,[.d (.sl 126),.d (.int .i64)],[.k (.d (.bool))],a5X⟩
theorem b7g:RK (b6w) :=
 okR [] 24 b8I [.tmp 4] Go.Proofs.Tryz.func90 (by kernel_rfl)
def b8Y:Hints I:=mkH [(1,[[],[0],[],[0,1,2],[],[4],[0,1,2,3,4,5],[0,1,2,3,4,5,6]])] [] [] [] [] [] []
def b6V:Row I:=⟨91,[.d (.dat 51),.d (.str)],[.k (.d (.bool))],a5Z⟩
theorem b7E:RK (b6V) :=
 okR [eR a05] 12 b8Y [.tmp 4] Go.Proofs.Tryz.func91 (by kernel_rfl)
def c3G:Hints I:=mkH [] [] [] [(941,⟨2621440,[],[],[(.normal,[(19,.k (.d (.bool)))])]⟩)] [] [] []
def c1E:Row I:=⟨51,[.d (.dat 33),.d (.dat 53)],[.k (.d (.bool))],a9C⟩
theorem c2n:RK (c1E) :=
 okR [eR b7g,eR b7E] 42 c3G [.tmp 4] Go.Proofs.Tryz.func51 (by kernel_rfl)
def c3V (_:Nat):Hints I:=mkH [] [] [] [(1001,⟨261208778387488768,[],[],[(.normal,[(53,.k (.d (.bool)))])]⟩)] [(58,⟨70300024701248,[],[],[(36,.k (.d (.int .i64)))],[((.exit 0),[]),(.ret,[(6,.k (.d (.bool)))])],bnd tb (.slot 35) 1⟩)] [] []
def c1O (n:Nat):Row I:=⟨19,[.d (.dat 33),.d (.dat 27),.d (.dat 53)],[.k (.d (.bool))],a3O n⟩
theorem c2t (n:Nat):RK (c1O n) :=
 okR [eR (b2e n),eR (a5N n),eR b0l,eR c2n,eR a05,eR b0h,eR (b6q n)] 65 (c3V n) [.tmp 6] Go.Proofs.Tryz.func19 (by kernel_rfl)
def b5d:Hints I:=mkH [] [] [] [] [(26,⟨1048560,[],[],[(5,.k (.d (.int .i64)))],[((.exit 0),[]),(.ret,[(4,.k (.d (.bool)))])],bnd tb (.len (.ld 31 (.fld 33 6 (.slot 2)))) 1⟩)] [] []
def b3b:Row I:=⟨48,[.d (.dat 33),.d (.str)],[.k (.d (.bool))],a2W⟩
theorem b4l:RK (b3b) :=
 okR [] 20 b5d [.tmp 4] Go.Proofs.Tryz.func48 (by kernel_rfl)
def b7O:Hints I:=mkH [] [] [] [] [(26,⟨268435440,[],[],[(5,.k (.d (.int .i64)))],[((.exit 0),[]),(.ret,[(4,.k (.d (.bool)))])],bnd tb (.len (.slot 0)) 1⟩)] [] []
def b5S:Row I:=⟨49,[.d (.sl 126),.d (.int .i64)],[.k (.d (.bool))],a5y⟩
theorem b6L:RK (b5S) :=
 okR [] 28 b7O [.tmp 4] Go.Proofs.Tryz.func49 (by kernel_rfl)
def b8K:Hints I:=mkH [] [] [] [] [(26,⟨262128,[],[],[(5,.k (.d (.int .i64)))],[((.exit 0),[]),(.ret,[(4,.k (.d (.bool)))])],bnd tb (.len (.slot 0)) 1⟩)] [] []
def b6Z:Row I:=⟨89,[.d (.sl 9),.d (.str)],[.k (.d (.bool))],a8p⟩
theorem b7v:RK (b6Z) :=
 okR [] 18 b8K [.tmp 4] Go.Proofs.Tryz.func89 (by kernel_rfl)
def b6h:Hints I:=mkH [(1,[[],[0],[],[0,1,2],[],[4],[0,1,2,3,4,5],[0,1,2,3,4,5,6]])] [] [] [] [] [] []
def b4b:Row I:=⟨50,[.d (.dat 51),.d (.str)],[.k (.d (.bool))],a5f⟩
theorem b5K:RK (b4b) :=
 okR [eR b7v] 12 b6h [.tmp 4] Go.Proofs.Tryz.func50 (by kernel_rfl)
def b8c (_:Nat):Hints I:=mkH [(6,[[],[],[1],[],[1,2,3],[1,2,3,4],[0,1,2,3,4,5],[0,1,2,3,4,5,6]]),(11,[[],[],[1],[],[1,2,3],[1,2,3,4],[0,1,2,3,4,5]])] [] [] [(4013,⟨22517998136852480,[],[],[(.normal,[(52,.k (.d (.bool)))])]⟩),
 (257021,⟨198070406285660843983859875840,[],[],[(.normal,[(95,.k (.d (.bool)))])]⟩)] [(58,⟨536854720,[],[],[(7,.k (.d (.int .i64)))],[((.exit 0),[]),(.ret,[(6,.k (.d (.bool)))])],bnd tb (.len (.ld 31 (.fld 53 6 (.slot 5)))) 1⟩),
 (122,⟨8795556151616,[],[],[(8,.k (.d (.int .i64)))],[((.exit 2),[]),(.ret,[(6,.k (.d (.bool)))])],bnd tb (.len (.ld 31 (.fld 53 7 (.slot 5)))) 1⟩)] [] []
def b5w (n:Nat):Row I:=⟨18,[.d (.dat 33),.d (.dat 27),.d (.dat 53)],[.k (.d (.bool))],a3R n⟩
theorem b6j (n:Nat):RK (b5w n) :=
 okR [eR b4l,eR b6L,eR b5K,eR (b6E n)] 106 (b8c n) [.tmp 6] Go.Proofs.Tryz.func18 (by kernel_rfl)
noncomputable def b0n (n:Nat):Row I:=⟨6,[.d (.sl 3),.d (.sl 3),.d (.dat 53),.d (.dat 33)],[.k (.d (.bool))],a0H n⟩
theorem b1e (n:Nat):RK (b0n n) :=
 okR [eR b8l,eR (a9w n),eR (b7p n),eR (b7j n),eR a8I,eR (c2t n),eR (b6j n),eR (a4p n)] 102 Y4 [.tmp 8] Go.Proofs.Tryz.func6 (by kernel_rfl)
end Go.Qx
end
section
namespace Go.Pl
open Go Go.RowKit Go.Sx Go.Qx Go.Proofs.YtldcbllenafgjaaGreatDoor
def a3u (w:World):S:=⟨w,fun b=>match w.heap[b]? with | some (.cells c _ _)=>(c.size,0) | _=>(0,0)⟩
theorem c9a {w:World}{b o:Nat}{cs:List Value}(hn:cs≠[])(h:w.rangeAt b o cs):a4i (a3u w) b o cs:=by
 refine ⟨?_,h⟩
 have hl:0<cs.length:=List.length_pos_iff.2 hn
 have hj:=h (cs.length-1) _ (List.getElem?_eq_getElem (by omega))
 unfold World.cell? at hj
 simp only at hj
 split at hj
 ·rename_i c e f hb
  have h2:o+(cs.length-1)<c.size:=by
   simp only [Option.isSome_none,Bool.false_eq_true,if_false] at hj
   exact (Array.getElem?_eq_some_iff.1 hj).1
  show o+cs.length<=(match w.heap[b]? with | some (.cells c _ _)=>(c.size,0) | _=>(0,0)).1
  rw [hb]
  show o+cs.length<=c.size
  omega
 ·cases hj
theorem c9G {w:World}{base:Nat}{a:Addr}{n:Nat}{cs:List Value}(h:w.cells? base a n=some cs) :
 cs.length=n/\∀ (i:Nat) (v:Value),cs[i]?=some v->w.cell? (a.add i)=some v:=by
 unfold World.cells? at h
 split at h
 ·have hl:cs.length=n:=by simpa using mapM_some_length h
  refine ⟨hl,fun i v hv=>?_⟩
  have hi:i<n:=by have:=(List.getElem?_eq_some_iff.1 hv).1; omega
  have:=mapM_some_get h i i (by simp [hi])
  rw [this,hv]
 ·cases h
theorem d33 (a:Addr)(x j:Nat):(a.add x).add j=a.add (x+j):=by
 unfold Addr.add
 by_cases hx:x=0
 ·subst hx; simp
 ·by_cases hj:j=0
  ·subst hj; simp [hx]
  ·rw [if_neg hj,if_neg hx,if_neg (by omega),Nat.add_assoc]
theorem d0p {w:World}{a:Addr}{v:Value}(h:w.cell? a=some v):a.spot=none:=by
 unfold World.cell? at h
 split at h
 ·split at h
  ·cases h
  ·rename_i hs; simpa using hs
 ·cases h
section
variable {H:Type}{enc:TypeId×Value->H}{P:Program}{w:World}{base:Nat}{spare:Nat->Bool}{held:Bool}
theorem a3D {α:Type} [Rp α] {fuel:Nat}{t e:TypeId}{cs:List Value}{x:DataW H×List MemPlace}(ht:P.underlying t=some (.slice e))(hc:P.cellsOf e=Rp.sz α)(bk:α->Nat)
 (hrd:∀ (n:Nat) (cs:List Value) (x:DataW H×List MemPlace),n<fuel->DataW.trod enc P w base spare held n e cs=some x->∃ d:α,Rp.cells (a3u w) d cs/\bk d<=Rows.uptoBulk x.1)
 (h:DataW.trod enc P w base spare held fuel t cs=some x) :
 ∃ (ds:List α) (A:Option Addr) (c:Nat),cs=[.slice A ds.length c]/\Sl (a3u w) ds A c/\(ds.map bk).sum+1<=Rows.uptoBulk x.1:=by
 rcases DataW.trod_slice ht h with ⟨rfl,rfl⟩ | ⟨a,len,cap,elems,rest,n,rfl,rfl,rfl,hb,hl,hm,hle,hget,-,-⟩
 ·exact ⟨[],none,0,rfl,Sl.nil_ _ _ _ (Nat.zero_le _),by simp [Rows.uptoBulk]⟩
 have key:∀ (m i:Nat),i+m=len->∃ (ds:List α) (cs:List Value),ds.length=m/\V6 (a3u w) ds cs /\
  (∀ (j:Nat) (v:Value),cs[j]?=some v->w.cell? (a.add (i*Rp.sz α+j))=some v)/\(ds.map bk).sum<=Rows.uptoBulkAll ((elems.drop i).map (·.1)):=by
  intro m
  induction m with
  | zero=>intro i _; exact ⟨[],[],rfl,rfl,fun j v hv=>by simp at hv,by simp⟩
  | succ m ih =>
    intro i hi
    obtain ⟨ds,cs,h1,h2,h3,h4⟩:=ih (i+1) (by omega)
    have hlt:i<elems.length:=by omega
    have hg:=hget i (by omega)
    rw [List.getElem?_eq_getElem hlt,Option.bind_eq_some_iff] at hg
    obtain ⟨cs0,hcs,htr⟩:=hg
    obtain ⟨d,hd,hbk⟩:=hrd n cs0 _ (by omega) htr
    obtain ⟨hcl,hci⟩:=c9G hcs
    rw [hc] at hcl hci
    refine ⟨d::ds,cs0++cs,by simp [h1],⟨cs0,cs,rfl,hd,h2⟩,?_,?_⟩
    ·intro j v hv
     by_cases hj:j<Rp.sz α
     ·rw [List.getElem?_append_left (by omega)] at hv
      rw [<- d33]
      exact hci j v hv
     ·rw [List.getElem?_append_right (by omega)] at hv
      have:=h3 _ v hv
      rw [hcl,Nat.add_mul,Nat.one_mul] at this
      have e:i*Rp.sz α+Rp.sz α+(j-Rp.sz α)=i*Rp.sz α+j:=by omega
      rw [e] at this
      exact this
    ·rw [List.drop_eq_getElem_cons hlt]
     simp only [List.map_cons,List.sum_cons,Rows.uptoBulkAll]
     omega
 obtain ⟨ds,cs,h1,h2,h3,h4⟩:=key len 0 (by omega)
 simp only [Nat.zero_mul,Nat.zero_add,List.drop_zero] at h3 h4
 refine ⟨ds,some a,cap,by rw [h1],⟨by omega,hm,cs,h2,fun hn=>?_⟩,by simp only [Rows.uptoBulk]; omega⟩
 have hne:=h2.ne_nil hn
 cases cs with
 | nil=>exact absurd rfl hne
 | cons v0 r =>
   have h0:=h3 0 v0 rfl
   have hs:a.spot=none:=d0p (by simpa [Addr.add] using h0)
   obtain ⟨b,o,sp⟩:=a
   simp only at hs
   subst hs
   refine ⟨b,o,rfl,c9a (by simp) ?_⟩
   intro j v hv
   have:=h3 j v hv
   unfold Addr.add at this
   by_cases hj:j=0
   ·subst hj; simpa using this
   ·rw [if_neg hj] at this
    exact this
end
theorem d5l {α:Type}{l:List α}(h:l.length=2):∃ a b,l=[a,b]:=by
 match l,h with
 | [a,b],_=>exact ⟨a,b,rfl⟩
theorem c7Z (s:ByteArray):s.data.toList.length=s.size:=Array.length_toList
theorem b8Z:∀ l:List Key,v7 l=(l.map a36).sum
 | []=>rfl
 | x::r=>by simp only [v7,List.map_cons,List.sum_cons,b8Z r]
theorem b9y:∀ l:List ByteArray,J6 l=(l.map a01).sum
 | []=>rfl
 | x::r=>by simp only [J6,List.map_cons,List.sum_cons,b9y r]
end Go.Pl
end
section
namespace Go.Pl
open Go Go.RowKit Go.Sx Go.Qx
def a61 (_:Int):Nat:=1
def b3X (l:List Int):Nat:=(l.map a61).sum+1
def a9Z (v:Api_Range):Nat:=a61 v.Lo+a61 v.Hi+1
def b60 (l:List Api_Range):Nat:=(l.map a9Z).sum+1
def c3t (_:Bool):Nat:=1
def b7F (l:List ByteArray):Nat:=(l.map a01).sum+1
def b3K (v:Api_Names):Nat:=c3t v.Cofinite+b7F v.List_+1
def b4W (v:Api_Line):Nat:=a61 v.Kind+a61 v.Arity+b60 v.Ints+b3K v.Names+b3X v.Pos+b3X v.Neg+b7F v.Vars+b7F v.NotVars+1
end Go.Pl
end
section
namespace Go.Pl
open Go Go.RowKit Go.Sx Go.Qx Go.Proofs.YtldcbllenafgjaaGreatDoor
theorem d6k {α:Type}{l:List α}(h:l.length=3):∃ a b c,l=[a,b,c]:=by
 match l,h with
 | [a,b,c],_=>exact ⟨a,b,c,rfl⟩
theorem d46 {α:Type}{l:List α}(h:l.length=7):∃ a b c d e f g,l=[a,b,c,d,e,f,g]:=by
 match l,h with
 | [a,b,c,d,e,f,g],_=>exact ⟨a,b,c,d,e,f,g,rfl⟩
theorem d6p {α:Type}{l:List α}(h:l.length=9):∃ a b r,l=a::b::r/\r.length=7:=by
 match l,h with
 | a::b::r,h=>exact ⟨a,b,r,rfl,by simpa using h⟩
theorem c80:∀ l:List Val,k8 l=(l.map j8).sum
 | []=>rfl
 | x::r=>by simp only [k8,List.map_cons,List.sum_cons,c80 r]
theorem d2W:∀ l:List Ent,Z0 l=(l.map a2R).sum
 | []=>rfl
 | x::r=>by simp only [Z0,List.map_cons,List.sum_cons,d2W r]
theorem c33:Go.Proofs.Tryz.prog.cellsOf 33=7:=by kernel_rfl
theorem d4N:Go.Proofs.Tryz.prog.cellsOf 130=2:=by kernel_rfl
theorem c97:Go.Proofs.Tryz.prog.cellsOf 97=9:=by kernel_rfl
theorem c9:Go.Proofs.Tryz.prog.cellsOf 9=1:=by kernel_rfl
theorem c2:Go.Proofs.Tryz.prog.cellsOf 2=1:=by kernel_rfl
theorem c4:Go.Proofs.Tryz.prog.cellsOf 4=1:=by kernel_rfl
theorem c28:Go.Proofs.Tryz.prog.cellsOf 28=1:=by kernel_rfl
theorem c29:Go.Proofs.Tryz.prog.cellsOf 29=1:=by kernel_rfl
theorem c30:Go.Proofs.Tryz.prog.cellsOf 30=1:=by kernel_rfl
theorem c31:Go.Proofs.Tryz.prog.cellsOf 31=1:=by kernel_rfl
theorem c3:Go.Proofs.Tryz.prog.cellsOf 3=1:=by kernel_rfl
theorem c22:Go.Proofs.Tryz.prog.cellsOf 22=1:=by kernel_rfl
section
variable {H:Type}{enc:TypeId×Value->H}{w:World}{base:Nat}{spare:Nat->Bool}{held:Bool}
theorem c1K {n:Nat}{cs:List Value}{x:DataW H×List MemPlace}(h:DataW.trod enc Go.Proofs.Tryz.prog w base spare held n 9 cs=some x) :
 ∃ d:ByteArray,Rp.cells (a3u w) d cs/\a01 d<=Rows.uptoBulk x.1:=by
 obtain ⟨s,rfl,rfl,_⟩:=DataW.trod_string Go.Proofs.Tryz.underlying9 h
 refine ⟨s,rfl,?_⟩
 simp only [Rows.uptoBulk,a01]
 have:s.data.toList.length=s.size:=c7Z s
 omega
theorem d1g {n:Nat}{cs:List Value}{x:DataW H×List MemPlace}(h:DataW.trod enc Go.Proofs.Tryz.prog w base spare held n 130 cs=some x) :
 ∃ d:Key,Rp.cells (a3u w) d cs/\a36 d<=Rows.uptoBulk x.1:=by
 obtain ⟨xs,n,rfl,rfl,hl,hx,hf⟩:=DataW.trod_struct Go.Proofs.Tryz.underlying130 h
 rw [d4N] at hl
 have hx:xs.length=2:=hx
 obtain ⟨v0,v1,rfl⟩:=d5l hl
 obtain ⟨x0,x1,rfl⟩:=d5l hx
 have f0:DataW.trod enc Go.Proofs.Tryz.prog w base spare held n 3 (([v0,v1].drop 0).take (Go.Proofs.Tryz.prog.cellsOf 3))=[x0,x1][0]?:=hf 0 _ rfl
 have f1:DataW.trod enc Go.Proofs.Tryz.prog w base spare held n 9 (([v0,v1].drop 1).take (Go.Proofs.Tryz.prog.cellsOf 9))=[x0,x1][1]?:=hf 1 _ rfl
 rw [c3] at f0
 rw [c9] at f1
 obtain ⟨k,e0,rfl,_⟩:=DataW.trod_int Go.Proofs.Tryz.underlying3 (x:=x0) f0
 obtain ⟨s,e1,hb⟩:=c1K (x:=x1) f1
 obtain rfl:v0=.int .i64 k:=by simpa using e0
 have e1':[v1]=[Value.string s]:=e1
 obtain rfl:v1=.string s:=by simpa using e1'
 refine ⟨⟨k,s⟩,rfl,?_⟩
 simp only [a36,Rows.uptoBulk,Rows.uptoBulkAll,List.map_cons,List.map_nil]
 omega
theorem d16:∀ n:Nat,(∀ cs x,DataW.trod enc Go.Proofs.Tryz.prog w base spare held n 33 cs=some x->∃ d:Val,Rp.cells (a3u w) d cs/\j8 d<=Rows.uptoBulk x.1) /\
 (∀ cs x,DataW.trod enc Go.Proofs.Tryz.prog w base spare held n 97 cs=some x->∃ d:Ent,Rp.cells (a3u w) d cs/\a2R d<=Rows.uptoBulk x.1):=by
 intro n
 induction n using Nat.strongRecOn with
 | _ n ih =>
 refine ⟨?_,?_⟩
 ·intro cs x h
  obtain ⟨xs,m,rfl,rfl,hl,hx,hf⟩:=DataW.trod_struct Go.Proofs.Tryz.underlying33 h
  rw [c33] at hl
  have hx:xs.length=7:=hx
  obtain ⟨v0,v1,v2,v3,v4,v5,v6,rfl⟩:=d46 hl
  obtain ⟨x0,x1,x2,x3,x4,x5,x6,rfl⟩:=d46 hx
  have f0:DataW.trod enc Go.Proofs.Tryz.prog w base spare held m 3 (([v0,v1,v2,v3,v4,v5,v6].drop 0).take (Go.Proofs.Tryz.prog.cellsOf 3))=[x0,x1,x2,x3,x4,x5,x6][0]?:=hf 0 _ rfl
  have f1:DataW.trod enc Go.Proofs.Tryz.prog w base spare held m 2 (([v0,v1,v2,v3,v4,v5,v6].drop 1).take (Go.Proofs.Tryz.prog.cellsOf 2))=[x0,x1,x2,x3,x4,x5,x6][1]?:=hf 1 _ rfl
  have f2:DataW.trod enc Go.Proofs.Tryz.prog w base spare held m 9 (([v0,v1,v2,v3,v4,v5,v6].drop 2).take (Go.Proofs.Tryz.prog.cellsOf 9))=[x0,x1,x2,x3,x4,x5,x6][2]?:=hf 2 _ rfl
  have f3:DataW.trod enc Go.Proofs.Tryz.prog w base spare held m 28 (([v0,v1,v2,v3,v4,v5,v6].drop 3).take (Go.Proofs.Tryz.prog.cellsOf 28))=[x0,x1,x2,x3,x4,x5,x6][3]?:=hf 3 _ rfl
  have f4:DataW.trod enc Go.Proofs.Tryz.prog w base spare held m 29 (([v0,v1,v2,v3,v4,v5,v6].drop 4).take (Go.Proofs.Tryz.prog.cellsOf 29))=[x0,x1,x2,x3,x4,x5,x6][4]?:=hf 4 _ rfl
  have f5:DataW.trod enc Go.Proofs.Tryz.prog w base spare held m 30 (([v0,v1,v2,v3,v4,v5,v6].drop 5).take (Go.Proofs.Tryz.prog.cellsOf 30))=[x0,x1,x2,x3,x4,x5,x6][5]?:=hf 5 _ rfl
  have f6:DataW.trod enc Go.Proofs.Tryz.prog w base spare held m 31 (([v0,v1,v2,v3,v4,v5,v6].drop 6).take (Go.Proofs.Tryz.prog.cellsOf 31))=[x0,x1,x2,x3,x4,x5,x6][6]?:=hf 6 _ rfl
  rw [c3] at f0
  rw [c2] at f1
  rw [c9] at f2
  rw [c28] at f3
  rw [c29] at f4
  rw [c30] at f5
  rw [c31] at f6
  obtain ⟨k,e0,rfl,_⟩:=DataW.trod_int Go.Proofs.Tryz.underlying3 (x:=x0) f0
  obtain ⟨i,e1,rfl,_⟩:=DataW.trod_int Go.Proofs.Tryz.underlying2 (x:=x1) f1
  obtain ⟨s,e2,hb2⟩:=c1K (x:=x2) f2
  obtain ⟨kids,A3,n3,e3,s3,hb3⟩:=a3D (x:=x3) Go.Proofs.Tryz.underlying28 c33 j8 (fun n cs x hn h=>(ih n (by omega)).1 cs x h) f3
  obtain ⟨keys,A4,n4,e4,s4,hb4⟩:=a3D (x:=x4) Go.Proofs.Tryz.underlying29 d4N a36 (fun n cs x hn h=>d1g h) f4
  obtain ⟨ents,A5,n5,e5,s5,hb5⟩:=a3D (x:=x5) Go.Proofs.Tryz.underlying30 c97 a2R (fun n cs x hn h=>(ih n (by omega)).2 cs x h) f5
  obtain ⟨labs,A6,n6,e6,s6,hb6⟩:=a3D (x:=x6) Go.Proofs.Tryz.underlying31 c9 a01 (fun n cs x hn h=>c1K h) f6
  have e2':[v2]=[Value.string s]:=e2
  obtain rfl:v0=.int .i64 k:=by simpa using e0
  obtain rfl:v1=.int .i64 i:=by simpa using e1
  obtain rfl:v2=.string s:=by simpa using e2'
  obtain rfl:v3=.slice A3 kids.length n3:=by simpa using e3
  obtain rfl:v4=.slice A4 keys.length n4:=by simpa using e4
  obtain rfl:v5=.slice A5 ents.length n5:=by simpa using e5
  obtain rfl:v6=.slice A6 labs.length n6:=by simpa using e6
  refine ⟨.mk k i s kids keys ents labs,Val.cells_iff.2 ⟨A3,n3,A4,n4,A5,n5,A6,n6,rfl,s3,s4,s5,s6⟩,?_⟩
  simp only [j8,Rows.uptoBulk,Rows.uptoBulkAll,List.map_cons,List.map_nil,c80,d2W,b8Z,b9y]
  omega
 ·intro cs x h
  obtain ⟨xs,m,rfl,rfl,hl,hx,hf⟩:=DataW.trod_struct Go.Proofs.Tryz.underlying97 h
  rw [c97] at hl
  have hx:xs.length=3:=hx
  obtain ⟨x0,x1,x2,rfl⟩:=d6k hx
  obtain ⟨v0,v1,r,rfl,hr⟩:=d6p hl
  have f0:DataW.trod enc Go.Proofs.Tryz.prog w base spare held m 28 (((v0::v1::r).drop 0).take (Go.Proofs.Tryz.prog.cellsOf 28))=[x0,x1,x2][0]?:=hf 0 _ rfl
  have f1:DataW.trod enc Go.Proofs.Tryz.prog w base spare held m 4 (((v0::v1::r).drop 1).take (Go.Proofs.Tryz.prog.cellsOf 4))=[x0,x1,x2][1]?:=hf 1 _ rfl
  have f2:DataW.trod enc Go.Proofs.Tryz.prog w base spare held m 33 (((v0::v1::r).drop 2).take (Go.Proofs.Tryz.prog.cellsOf 33))=[x0,x1,x2][2]?:=hf 2 _ rfl
  rw [c28] at f0
  rw [c4] at f1
  rw [c33] at f2
  have f2':DataW.trod enc Go.Proofs.Tryz.prog w base spare held m 33 (r.take 7)=some x2:=f2
  rw [List.take_of_length_le (by omega)] at f2'
  obtain ⟨args,A3,n3,e3,s3,hb3⟩:=a3D (x:=x0) Go.Proofs.Tryz.underlying28 c33 j8 (fun n cs x hn h=>(ih n (by omega)).1 cs x h) f0
  obtain ⟨b,e1,rfl⟩:=DataW.trod_bool Go.Proofs.Tryz.underlying4 (x:=x1) f1
  obtain ⟨res,hres,hb2⟩:=(ih m (by omega)).1 _ _ f2'
  obtain rfl:v0=.slice A3 args.length n3:=by simpa using e3
  obtain rfl:v1=.bool b:=by simpa using e1
  obtain ⟨A1,n1,A4,n4,A5,n5,A6,n6,rfl,q3,q4,q5,q6⟩:=Val.cells_iff.1 hres
  refine ⟨.mk args b res,Ent.cells_iff.2 ⟨A3,n3,A1,n1,A4,n4,A5,n5,A6,n6,rfl,s3,q3,q4,q5,q6⟩,?_⟩
  simp only [a2R,Rows.uptoBulk,Rows.uptoBulkAll,List.map_cons,List.map_nil,c80]
  omega
end
end Go.Pl
namespace Go.Pl
open Go Go.RowKit Go.Sx Go.Qx Go.Proofs.YtldcbllenafgjaaGreatDoor
theorem d5b:Go.Proofs.Tryz.prog.cellsOf 126=2:=by kernel_rfl
theorem c49:Go.Proofs.Tryz.prog.cellsOf 49=1:=by kernel_rfl
theorem c51:Go.Proofs.Tryz.prog.cellsOf 51=2:=by kernel_rfl
theorem c53:Go.Proofs.Tryz.prog.cellsOf 53=9:=by kernel_rfl
theorem rdP {α β:Type}(ra:Rp α)(rb:Rp β){σ:S}{cs:List Value}{a:α}{b:β}(o s:Nat)(h1:ra.cells σ a ((cs.drop o).take s))(h2:rb.cells σ b (cs.drop (o+s))):(Z9 ra rb).cells σ (a,b) (cs.drop o) :=
 ⟨_,_,by rw [<- List.drop_drop]; exact (List.take_append_drop s (cs.drop o)).symm,h1,h2⟩
theorem rdE {α:Type}(ra:Rp α){σ:S}{cs:List Value}{a:α}(o s:Nat)(hl:cs.length=o+s)(h1:ra.cells σ a ((cs.drop o).take s)):ra.cells σ a (cs.drop o):=by
 rwa [List.take_of_length_le (by rw [List.length_drop]; omega)] at h1
theorem ln2 {α:Type}{l:List α}(h:l.length=2):∃ a0 a1,l=[a0,a1]:=by
 match l,h with
 | [a0,a1],_=>exact ⟨a0,a1,rfl⟩
theorem ln8 {α:Type}{l:List α}(h:l.length=8):∃ a0 a1 a2 a3 a4 a5 a6 a7,l=[a0,a1,a2,a3,a4,a5,a6,a7]:=by
 match l,h with
 | [a0,a1,a2,a3,a4,a5,a6,a7],_=>exact ⟨a0,a1,a2,a3,a4,a5,a6,a7,rfl⟩
section
variable {H:Type}{enc:TypeId×Value->H}{w:World}{base:Nat}{spare:Nat->Bool}{held:Bool}
theorem c7p {n:Nat}{cs:List Value}{x:DataW H×List MemPlace}(h:DataW.trod enc Go.Proofs.Tryz.prog w base spare held n 3 cs=some x):∃ d:Int,(rpK .i64).cells (a3u w) d cs/\a61 d<=Rows.uptoBulk x.1:=by
 obtain ⟨k,e0,rfl,_⟩:=DataW.trod_int Go.Proofs.Tryz.underlying3 h
 exact ⟨k,e0,by simp [a61,Rows.uptoBulk]⟩
theorem d3a {n:Nat}{cs:List Value}{x:DataW H×List MemPlace}(h:DataW.trod enc Go.Proofs.Tryz.prog w base spare held n 22 cs=some x):∃ d:List Int,(@rpList _ (rpK .i64)).cells (a3u w) d cs/\b3X d<=Rows.uptoBulk x.1:=by
 obtain ⟨ds,A,c,e,hs,hb⟩:=@a3D _ _ _ _ _ _ _ Int (rpK .i64) _ _ _ _ _ Go.Proofs.Tryz.underlying22 c3 a61 (fun n cs x _ h=>c7p h) h
 exact ⟨ds,⟨A,c,e,hs⟩,hb⟩
theorem d4r {n:Nat}{cs:List Value}{x:DataW H×List MemPlace}(h:DataW.trod enc Go.Proofs.Tryz.prog w base spare held n 2 cs=some x):∃ d:Int,(rpK .i64).cells (a3u w) d cs/\a61 d<=Rows.uptoBulk x.1:=by
 obtain ⟨k,e0,rfl,_⟩:=DataW.trod_int Go.Proofs.Tryz.underlying2 h
 exact ⟨k,e0,by simp [a61,Rows.uptoBulk]⟩
theorem d4p {n:Nat}{cs:List Value}{x:DataW H×List MemPlace}(h:DataW.trod enc Go.Proofs.Tryz.prog w base spare held n 126 cs=some x):∃ d:Api_Range,(a1e).cells (a3u w) d cs/\a9Z d<=Rows.uptoBulk x.1:=by
 obtain ⟨xs,m,rfl,rfl,hl,hx,hf⟩:=DataW.trod_struct Go.Proofs.Tryz.underlying126 h
 rw [d5b] at hl
 have hx:xs.length=2:=hx
 obtain ⟨x0,x1,rfl⟩:=ln2 hx
 have f0:DataW.trod enc Go.Proofs.Tryz.prog w base spare held m 2 ((cs.drop 0).take (Go.Proofs.Tryz.prog.cellsOf 2))=[x0,x1][0]?:=hf 0 _ rfl
 rw [c2] at f0
 obtain ⟨d0,e0,b0⟩:=d4r (x:=x0) f0
 have f1:DataW.trod enc Go.Proofs.Tryz.prog w base spare held m 2 ((cs.drop 1).take (Go.Proofs.Tryz.prog.cellsOf 2))=[x0,x1][1]?:=hf 1 _ rfl
 rw [c2] at f1
 obtain ⟨d1,e1,b1⟩:=d4r (x:=x1) f1
 refine ⟨⟨d0,d1⟩,rdP (rpK .i64) (rpK .i64) 0 1 e0 (rdE (rpK .i64) 1 1 hl e1),?_⟩
 simp only [a9Z,Rows.uptoBulk,Rows.uptoBulkAll,List.map_cons,List.map_nil]
 omega
theorem d5E {n:Nat}{cs:List Value}{x:DataW H×List MemPlace}(h:DataW.trod enc Go.Proofs.Tryz.prog w base spare held n 49 cs=some x):∃ d:List Api_Range,(@rpList _ (a1e)).cells (a3u w) d cs/\b60 d<=Rows.uptoBulk x.1:=by
 obtain ⟨ds,A,c,e,hs,hb⟩:=@a3D _ _ _ _ _ _ _ Api_Range (a1e) _ _ _ _ _ Go.Proofs.Tryz.underlying49 d5b a9Z (fun n cs x _ h=>d4p h) h
 exact ⟨ds,⟨A,c,e,hs⟩,hb⟩
theorem d6N {n:Nat}{cs:List Value}{x:DataW H×List MemPlace}(h:DataW.trod enc Go.Proofs.Tryz.prog w base spare held n 4 cs=some x):∃ d:Bool,(rpBool).cells (a3u w) d cs/\c3t d<=Rows.uptoBulk x.1:=by
 obtain ⟨k,e0,rfl⟩:=DataW.trod_bool Go.Proofs.Tryz.underlying4 h
 exact ⟨k,e0,by simp [c3t,Rows.uptoBulk]⟩
theorem d6B {n:Nat}{cs:List Value}{x:DataW H×List MemPlace}(h:DataW.trod enc Go.Proofs.Tryz.prog w base spare held n 9 cs=some x):∃ d:ByteArray,(rpStr).cells (a3u w) d cs/\a01 d<=Rows.uptoBulk x.1:=by
 obtain ⟨s,rfl,rfl,_⟩:=DataW.trod_string Go.Proofs.Tryz.underlying9 h
 refine ⟨s,rfl,?_⟩
 simp only [Rows.uptoBulk,a01]
 have:s.data.toList.length=s.size:=c7Z s
 omega
theorem c8Y {n:Nat}{cs:List Value}{x:DataW H×List MemPlace}(h:DataW.trod enc Go.Proofs.Tryz.prog w base spare held n 31 cs=some x):∃ d:List ByteArray,(@rpList _ (rpStr)).cells (a3u w) d cs/\b7F d<=Rows.uptoBulk x.1:=by
 obtain ⟨ds,A,c,e,hs,hb⟩:=@a3D _ _ _ _ _ _ _ ByteArray (rpStr) _ _ _ _ _ Go.Proofs.Tryz.underlying31 c9 a01 (fun n cs x _ h=>d6B h) h
 exact ⟨ds,⟨A,c,e,hs⟩,hb⟩
theorem d5t {n:Nat}{cs:List Value}{x:DataW H×List MemPlace}(h:DataW.trod enc Go.Proofs.Tryz.prog w base spare held n 51 cs=some x):∃ d:Api_Names,(a1c).cells (a3u w) d cs/\b3K d<=Rows.uptoBulk x.1:=by
 obtain ⟨xs,m,rfl,rfl,hl,hx,hf⟩:=DataW.trod_struct Go.Proofs.Tryz.underlying51 h
 rw [c51] at hl
 have hx:xs.length=2:=hx
 obtain ⟨x0,x1,rfl⟩:=ln2 hx
 have f0:DataW.trod enc Go.Proofs.Tryz.prog w base spare held m 4 ((cs.drop 0).take (Go.Proofs.Tryz.prog.cellsOf 4))=[x0,x1][0]?:=hf 0 _ rfl
 rw [c4] at f0
 obtain ⟨d0,e0,b0⟩:=d6N (x:=x0) f0
 have f1:DataW.trod enc Go.Proofs.Tryz.prog w base spare held m 31 ((cs.drop 1).take (Go.Proofs.Tryz.prog.cellsOf 31))=[x0,x1][1]?:=hf 1 _ rfl
 rw [c31] at f1
 obtain ⟨d1,e1,b1⟩:=c8Y (x:=x1) f1
 refine ⟨⟨d0,d1⟩,rdP (rpBool) (@rpList _ (rpStr)) 0 1 e0 (rdE (@rpList _ (rpStr)) 1 1 hl e1),?_⟩
 simp only [b3K,Rows.uptoBulk,Rows.uptoBulkAll,List.map_cons,List.map_nil]
 omega
theorem d5u {n:Nat}{cs:List Value}{x:DataW H×List MemPlace}(h:DataW.trod enc Go.Proofs.Tryz.prog w base spare held n 53 cs=some x):∃ d:Api_Line,(a8F).cells (a3u w) d cs/\b4W d<=Rows.uptoBulk x.1:=by
 obtain ⟨xs,m,rfl,rfl,hl,hx,hf⟩:=DataW.trod_struct Go.Proofs.Tryz.underlying53 h
 rw [c53] at hl
 have hx:xs.length=8:=hx
 obtain ⟨x0,x1,x2,x3,x4,x5,x6,x7,rfl⟩:=ln8 hx
 have f0:DataW.trod enc Go.Proofs.Tryz.prog w base spare held m 3 ((cs.drop 0).take (Go.Proofs.Tryz.prog.cellsOf 3))=[x0,x1,x2,x3,x4,x5,x6,x7][0]?:=hf 0 _ rfl
 rw [c3] at f0
 obtain ⟨d0,e0,b0⟩:=c7p (x:=x0) f0
 have f1:DataW.trod enc Go.Proofs.Tryz.prog w base spare held m 3 ((cs.drop 1).take (Go.Proofs.Tryz.prog.cellsOf 3))=[x0,x1,x2,x3,x4,x5,x6,x7][1]?:=hf 1 _ rfl
 rw [c3] at f1
 obtain ⟨d1,e1,b1⟩:=c7p (x:=x1) f1
 have f2:DataW.trod enc Go.Proofs.Tryz.prog w base spare held m 49 ((cs.drop 2).take (Go.Proofs.Tryz.prog.cellsOf 49))=[x0,x1,x2,x3,x4,x5,x6,x7][2]?:=hf 2 _ rfl
 rw [c49] at f2
 obtain ⟨d2,e2,b2⟩:=d5E (x:=x2) f2
 have f3:DataW.trod enc Go.Proofs.Tryz.prog w base spare held m 51 ((cs.drop 3).take (Go.Proofs.Tryz.prog.cellsOf 51))=[x0,x1,x2,x3,x4,x5,x6,x7][3]?:=hf 3 _ rfl
 rw [c51] at f3
 obtain ⟨d3,e3,b3⟩:=d5t (x:=x3) f3
 have f4:DataW.trod enc Go.Proofs.Tryz.prog w base spare held m 22 ((cs.drop 5).take (Go.Proofs.Tryz.prog.cellsOf 22))=[x0,x1,x2,x3,x4,x5,x6,x7][4]?:=hf 4 _ rfl
 rw [c22] at f4
 obtain ⟨d4,e4,b4⟩:=d3a (x:=x4) f4
 have f5:DataW.trod enc Go.Proofs.Tryz.prog w base spare held m 22 ((cs.drop 6).take (Go.Proofs.Tryz.prog.cellsOf 22))=[x0,x1,x2,x3,x4,x5,x6,x7][5]?:=hf 5 _ rfl
 rw [c22] at f5
 obtain ⟨d5,e5,b5⟩:=d3a (x:=x5) f5
 have f6:DataW.trod enc Go.Proofs.Tryz.prog w base spare held m 31 ((cs.drop 7).take (Go.Proofs.Tryz.prog.cellsOf 31))=[x0,x1,x2,x3,x4,x5,x6,x7][6]?:=hf 6 _ rfl
 rw [c31] at f6
 obtain ⟨d6,e6,b6⟩:=c8Y (x:=x6) f6
 have f7:DataW.trod enc Go.Proofs.Tryz.prog w base spare held m 31 ((cs.drop 8).take (Go.Proofs.Tryz.prog.cellsOf 31))=[x0,x1,x2,x3,x4,x5,x6,x7][7]?:=hf 7 _ rfl
 rw [c31] at f7
 obtain ⟨d7,e7,b7⟩:=c8Y (x:=x7) f7
 refine ⟨⟨d0,d1,d2,d3,d4,d5,d6,d7⟩,rdP (rpK .i64) (Z9 (rpK .i64) (Z9 (@rpList _ (a1e)) (Z9 (a1c) (Z9 (@rpList _ (rpK .i64)) (Z9 (@rpList _ (rpK .i64)) (Z9 (@rpList _ (rpStr)) (@rpList _ (rpStr)))))))) 0 1 e0 (rdP (rpK .i64) (Z9 (@rpList _ (a1e)) (Z9 (a1c) (Z9 (@rpList _ (rpK .i64)) (Z9 (@rpList _ (rpK .i64)) (Z9 (@rpList _ (rpStr)) (@rpList _ (rpStr))))))) 1 1 e1 (rdP (@rpList _ (a1e)) (Z9 (a1c) (Z9 (@rpList _ (rpK .i64)) (Z9 (@rpList _ (rpK .i64)) (Z9 (@rpList _ (rpStr)) (@rpList _ (rpStr)))))) 2 1 e2 (rdP (a1c) (Z9 (@rpList _ (rpK .i64)) (Z9 (@rpList _ (rpK .i64)) (Z9 (@rpList _ (rpStr)) (@rpList _ (rpStr))))) 3 2 e3 (rdP (@rpList _ (rpK .i64)) (Z9 (@rpList _ (rpK .i64)) (Z9 (@rpList _ (rpStr)) (@rpList _ (rpStr)))) 5 1 e4 (rdP (@rpList _ (rpK .i64)) (Z9 (@rpList _ (rpStr)) (@rpList _ (rpStr))) 6 1 e5 (rdP (@rpList _ (rpStr)) (@rpList _ (rpStr)) 7 1 e6 (rdE (@rpList _ (rpStr)) 8 1 hl e7))))))),?_⟩
 simp only [b4W,Rows.uptoBulk,Rows.uptoBulkAll,List.map_cons,List.map_nil]
 omega
theorem d5x {n:Nat}{cs:List Value}{x:DataW H×List MemPlace}(h:DataW.trod enc Go.Proofs.Tryz.prog w base spare held n 33 cs=some x):∃ d:Val,(rpVal).cells (a3u w) d cs/\j8 d<=Rows.uptoBulk x.1:=by
 exact (d16 n).1 _ _ h
end
end Go.Pl
end

/- Part 5. -/
import Derived.Test.YtldcbllenafgjaaGreatDoorK2
import Derived.Test.YtldcbllenafgjaaGreatDoorK3
import Derived.Test.YtldcbllenafgjaaGreatDoorK4
import Derived.BigCall
import Derived.ChangeArms
import Derived.KernelRfl
import Derived.OpenShut
import Derived.Shelf.Lays
import Derived.Shelf.SlLaysF0
import Derived.Shelf.Strings.Builder1
import Derived.Test.YtldcbllenafgjaaGreatDoorProg
import Derived.Test.YtldcbllenafgjaaGreatDoorRows
import Derived.WalkKit
section
namespace Go.Pl
open Go Go.RowKit Go.Sx Go.Qx
section
variable {T:Api_Type}
def spI (T:Api_Type)(e:Api_Goal)(n:Int):Bool:=(e.Pos.all fun i=>!isK T 3 i||inI T i n)&&e.Neg.all fun i=>!isK T 3 i||!inI T i n
def spN (T:Api_Type)(e:Api_Goal)(k:Int)(s:ByteArray):Bool:=(e.Pos.all fun i=>!isK T k i||isT T i s)&&e.Neg.all fun i=>!isK T k i||!isT T i s
def i64 (n:Int):Prop := -9223372036854775808<=n/\n<=9223372036854775807
structure LineZ (T:Api_Type)(e:Api_Goal)(K A:Int)(l:Api_Line):Prop where
 kind:l.Kind=K
 ar:l.Arity=A
 op:b2u T e K A=true
 ints1:K=1->VR l.Ints/\l.Ints≠[]/\(∀ n,i64 n->a04 l.Ints n=spI T e n)/\l.Ints.length<=1024
 ints0:K≠1->l.Ints=[]
 nam1:K=2\/K=3->asc cS l.Names.List_=true/\(l.Names.Cofinite=true\/l.Names.List_≠[])/\(∀ s,a5L l.Names s=spN T e (lkK K) s)/\l.Names.List_.length<=100
 nam0:K≠2->K≠3->l.Names=Api_Names.mk false []
 pos:l.Pos=ofZ T K A (skK K) e.Pos
 neg:l.Neg=ofZ T K A (skK K) e.Neg
 ev:e.Neg.any (isK T (ekK K))=false
def c1v (T:Api_Type)(e:Api_Goal)(K A:Int):Prop :=
 b2u T e K A=false\/e.Neg.any (isK T (ekK K))=true\/(K=1/\∀ n,i64 n->spI T e n=false)\/((K=2\/K=3)/\∀ s,spN T e (lkK K) s=false)
theorem d17 (hT:GT T){i:Int}(h:a0y T i=true):isK T 0 i=false:=by
 obtain ⟨j,_,_,_,_,hk⟩:=a9w hT h
 unfold isK
 rw [beq_eq_false_iff_ne]
 omega
theorem of0 (hT:GT T){l:List Int}(h:l.all (a0y T)=true)(K A:Int):ofZ T K A 0 l=[]:=by
 unfold ofZ
 rw [List.filter_eq_nil_iff]
 intro i hi
 rw [d17 hT (List.all_eq_true.1 h i hi)]
 simp
theorem ev0 (hT:GT T){l:List Int}(h:l.all (a0y T)=true):l.any (isK T 0)=false:=by
 rw [List.any_eq_false]
 intro i hi
 rw [d17 hT (List.all_eq_true.1 h i hi)]
 simp
theorem d3l (hT:GT T){L:Bool}{e:Api_Goal}(he:NG T L e)(K A:Int)(hK:K=1\/K=2\/K=3\/K=4\/K=5\/K=6\/K=7\/K=8\/K=9)(n:Nat)(hn:5000000<=n) :
 ∃ l ok,a9j n T e (Core_Sort.mk K A)=some (l,ok)/\(ok=true->LineZ T e K A l)/\(ok=false->c1v T e K A):=by
 obtain ⟨l1,l2⟩:=he.lens hT
 have hp:=he.pos
 have hq:=he.neg
 unfold a9j
 rw [d2L hT hp (by omega) K A]
 simp only [Option.bind_some]
 cases ho:b2u T e K A with
 | false =>
   exact ⟨_,false,rfl,(fun h=>by cases h),fun _=>.inl ho⟩
 | true =>
   simp only [Bool.not_true,cond_false]
   have hN:=fun k=>c9q hT hp hq l1 l2 k n hn
   have hI:=d22 hT hp hq l1 l2
   have hH:=fun k=>d1o hT hq (by omega:e.Neg.length<=1000) k
   have hP:=fun k=>d2a hT hp (by omega:e.Pos.length<=1000) K A k
   have hQ:=fun k=>d2a hT hq (by omega:e.Neg.length<=1000) K A k
   have p0:=fun K A=>of0 hT hp K A
   have q0:=fun K A=>of0 hT hq K A
   have v0:=ev0 hT hq
   have nam:∀ (K':Int) (m:Api_Names),(∀ s,a5L m s=spN T e (lkK K') s)->(K'=2\/K'=3)->m.Cofinite=false->m.List_.length=0->c1v T e K' A:=fun K' m hm hK' hc hl=>by
    refine .inr (.inr (.inr ⟨hK',fun s=>?_⟩))
    rw [<- hm s]
    unfold a5L inL
    rw [hc,List.eq_nil_of_length_eq_zero hl]
    rfl
   rcases hK with rfl | rfl | rfl | rfl | rfl | rfl | rfl | rfl | rfl<;>simp only [Int.reduceBEq,cond_true,cond_false,Option.bind_some]
   ·obtain ⟨m,m1,m2,m3⟩:=hI
    rw [m1]
    refine ⟨_,_,rfl,fun h=>⟨rfl,rfl,ho,fun _=>⟨m2,?_,fun n hn=>(m3 n hn.1 hn.2).1,(m3 0 (by omega) (by omega)).2⟩,fun h=>absurd rfl h,(fun h=>by omega),fun _ _=>rfl,(p0 1 A).symm,(q0 1 A).symm,v0⟩,fun h=>?_⟩
    ·intro e0
     have h0:decide (0<(m.length:Int))=true:=h
     have e0':m=[]:=e0
     rw [e0'] at h0
     simp at h0
    ·have h0:decide (0<(m.length:Int))=false:=h
     have:m=[]:=List.eq_nil_of_length_eq_zero (by simpa using h0)
     refine .inr (.inr (.inl ⟨rfl,fun n hn=>?_⟩))
     have:=(m3 n hn.1 hn.2).1
     rw [‹m=[]›] at this
     exact this.symm
   ·obtain ⟨m,m1,m2,m3,m4⟩:=hN 4
    rw [m1,hH 5]
    simp only [Option.bind_some]
    cases hv:e.Neg.any (isK T 5) with
    | true=>exact ⟨_,false,rfl,(fun h=>by cases h),fun _=>.inr (.inl hv)⟩
    | false =>
      have fin:∀ l:Api_Line,l=Api_Line.mk 2 A [] (Api_Names.mk m.Cofinite m.List_) [] [] [] []->(m.Cofinite=true\/m.List_≠[])->LineZ T e 2 A l:=fun l hl hne=>by
       subst hl
       exact ⟨rfl,rfl,ho,(fun h=>by omega),fun _=>rfl,fun _=>⟨m2,hne,m3,m4⟩,fun h=>absurd rfl h,(p0 2 A).symm,(q0 2 A).symm,hv⟩
      simp only [Bool.not_false,cond_true]
      cases hc:m.Cofinite with
      | true=>exact ⟨_,true,rfl,fun _=>fin _ (by rw [hc]) (.inl hc),fun h=>by cases h⟩
      | false =>
        refine ⟨_,_,rfl,fun h=>fin _ (by rw [hc]) (.inr fun e0=>?_),fun h=>nam 2 m m3 (.inl rfl) hc ?_⟩
        ·have h0:decide (0<(m.List_.length:Int))=true:=h
         rw [e0] at h0
         simp at h0
        ·have h0:decide (0<(m.List_.length:Int))=false:=h
         rw [decide_eq_false_iff_not] at h0
         omega
   ·obtain ⟨m,m1,m2,m3,m4⟩:=hN 6
    rw [m1,hH 7]
    simp only [Option.bind_some]
    cases hv:e.Neg.any (isK T 7) with
    | true=>exact ⟨_,false,rfl,(fun h=>by cases h),fun _=>.inr (.inl hv)⟩
    | false =>
      have fin:∀ l:Api_Line,l=Api_Line.mk 3 A [] (Api_Names.mk m.Cofinite m.List_) [] [] [] []->(m.Cofinite=true\/m.List_≠[])->LineZ T e 3 A l:=fun l hl hne=>by
       subst hl
       exact ⟨rfl,rfl,ho,(fun h=>by omega),fun _=>rfl,fun _=>⟨m2,hne,m3,m4⟩,fun _ h=>absurd rfl h,(p0 3 A).symm,(q0 3 A).symm,hv⟩
      simp only [Bool.not_false,cond_true]
      cases hc:m.Cofinite with
      | true=>exact ⟨_,true,rfl,fun _=>fin _ (by rw [hc]) (.inl hc),fun h=>by cases h⟩
      | false =>
        refine ⟨_,_,rfl,fun h=>fin _ (by rw [hc]) (.inr fun e0=>?_),fun h=>nam 3 m m3 (.inr rfl) hc ?_⟩
        ·have h0:decide (0<(m.List_.length:Int))=true:=h
         rw [e0] at h0
         simp at h0
        ·have h0:decide (0<(m.List_.length:Int))=false:=h
         rw [decide_eq_false_iff_not] at h0
         omega
   ·rw [hH 8]
    simp only [Option.bind_some,onEnd]
    cases hv:e.Neg.any (isK T 8) with
    | true=>exact ⟨_,false,rfl,(fun h=>by cases h),fun _=>.inr (.inl hv)⟩
    | false=>exact ⟨_,true,rfl,fun _=>⟨rfl,rfl,ho,(fun h=>by omega),fun _=>rfl,(fun h=>by omega),fun _ _=>rfl,(p0 4 A).symm,(q0 4 A).symm,hv⟩,fun h=>by cases h⟩
   ·rw [hH 9]
    simp only [Option.bind_some,onEnd]
    cases hv:e.Neg.any (isK T 9) with
    | true=>exact ⟨_,false,rfl,(fun h=>by cases h),fun _=>.inr (.inl hv)⟩
    | false=>exact ⟨_,true,rfl,fun _=>⟨rfl,rfl,ho,(fun h=>by omega),fun _=>rfl,(fun h=>by omega),fun _ _=>rfl,(p0 5 A).symm,(q0 5 A).symm,hv⟩,fun h=>by cases h⟩
   ·simp only [onEnd]
    rw [hP 10,hQ 10,hH 11]
    simp only [Option.bind_some,Int.reduceBEq,cond_false]
    cases hv:e.Neg.any (isK T 11) with
    | true=>exact ⟨_,false,rfl,(fun h=>by cases h),fun _=>.inr (.inl hv)⟩
    | false=>exact ⟨_,true,rfl,fun _=>⟨rfl,rfl,ho,(fun h=>by omega),fun _=>rfl,(fun h=>by omega),fun _ _=>rfl,rfl,rfl,hv⟩,fun h=>by cases h⟩
   ·simp only [onEnd]
    rw [hP 12,hQ 12]
    simp only [Option.bind_some,Int.reduceBEq,cond_true]
    exact ⟨_,true,rfl,fun _=>⟨rfl,rfl,ho,(fun h=>by omega),fun _=>rfl,(fun h=>by omega),fun _ _=>rfl,rfl,rfl,v0⟩,fun h=>by cases h⟩
   ·simp only [onEnd]
    rw [hP 13,hQ 13]
    simp only [Option.bind_some,Int.reduceBEq,cond_true]
    exact ⟨_,true,rfl,fun _=>⟨rfl,rfl,ho,(fun h=>by omega),fun _=>rfl,(fun h=>by omega),fun _ _=>rfl,rfl,rfl,v0⟩,fun h=>by cases h⟩
   ·simp only [onEnd]
    rw [hP 14,hQ 14,hH 15]
    simp only [Option.bind_some,Int.reduceBEq,cond_false]
    cases hv:e.Neg.any (isK T 15) with
    | true=>exact ⟨_,false,rfl,(fun h=>by cases h),fun _=>.inr (.inl hv)⟩
    | false=>exact ⟨_,true,rfl,fun _=>⟨rfl,rfl,ho,(fun h=>by omega),fun _=>rfl,(fun h=>by omega),fun _ _=>rfl,rfl,rfl,hv⟩,fun h=>by cases h⟩
def a2z:List Core_Sort:=[Core_Sort.mk 1 0,Core_Sort.mk 2 0,Core_Sort.mk 3 0,Core_Sort.mk 4 0,Core_Sort.mk 5 0,Core_Sort.mk 7 0,Core_Sort.mk 8 0,Core_Sort.mk 6 0,Core_Sort.mk 9 0,Core_Sort.mk 6 1,Core_Sort.mk 9 1,Core_Sort.mk 6 2,Core_Sort.mk 9 2,Core_Sort.mk 6 3,Core_Sort.mk 9 3,Core_Sort.mk 6 4,Core_Sort.mk 9 4]
theorem d1n:b7C=some a2z:=by kernel_rfl
theorem c1P {s:Core_Sort}(h:s∈a2z):(s.Kind=1\/s.Kind=2\/s.Kind=3\/s.Kind=4\/s.Kind=5\/s.Kind=6\/s.Kind=7\/s.Kind=8\/s.Kind=9)/\(s.Kind=6\/s.Kind=9\/s.Arity=0):=by
 unfold a2z at h
 simp only [List.mem_cons,List.not_mem_nil,or_false] at h
 rcases h with rfl | rfl | rfl | rfl | rfl | rfl | rfl | rfl | rfl | rfl | rfl | rfl | rfl | rfl | rfl | rfl | rfl<;>simp
theorem c9Y {K A:Int}(h:((K=1\/K=2\/K=3\/K=4\/K=5\/K=7\/K=8)/\A=0)\/((K=6\/K=9)/\0<=A/\A<=4)):Core_Sort.mk K A∈a2z:=by
 rcases h with ⟨h,rfl⟩ | ⟨h,h0,h4⟩
 ·rcases h with rfl | rfl | rfl | rfl | rfl | rfl | rfl<;>simp [a2z]
 ·have hA:A=0\/A=1\/A=2\/A=3\/A=4:=by omega
  rcases h with rfl | rfl<;>rcases hA with rfl | rfl | rfl | rfl | rfl<;>simp [a2z]
def c0Y (l:Api_Line)(a b:List ByteArray):Api_Line:=Api_Line.mk l.Kind l.Arity l.Ints l.Names l.Pos l.Neg a b
def a9q (T:Api_Type)(e:Api_Goal):Bool:=!b7u e.Pos e.Neg&&!b7n (srS (X8 T e.Pos)) (srS (X8 T e.Neg))
def Mk (T:Api_Type)(e:Api_Goal)(l:Api_Line):Prop:=a9q T e=true/\∃ (s:Core_Sort) (l0:Api_Line),s∈a2z/\LineZ T e s.Kind s.Arity l0/\l=c0Y l0 (srS (X8 T e.Pos)) (srS (X8 T e.Neg))
structure LinesZ (T:Api_Type)(out:List Api_Goal)(ls:List Api_Line):Prop where
 len:ls.length<=17*out.length
 src:∀ l∈ls,∃ e∈out,Mk T e l
 all:∀ e∈out,a9q T e=true->∀ s∈a2z,(∃ l∈ls,∃ l0,LineZ T e s.Kind s.Arity l0/\l=c0Y l0 (srS (X8 T e.Pos)) (srS (X8 T e.Neg)))\/c1v T e s.Kind s.Arity
theorem b6Y (l:List Int):(srS (X8 T l)).length<=l.length:=by
 refine Nat.le_trans (a7O _) ?_
 unfold X8
 rw [List.length_map]
 exact List.length_filter_le _ _
theorem c9w (hT:GT T){L:Bool}{e:Api_Goal}(he:NG T L e)(ha:a9q T e=true)(n:Nat)(hn:5000000<=n)(s0:List Api_Line)(h0:s0.length<=20000000) :
 ∃ ls,iter (a4A T n e (srS (X8 T e.Pos)) (srS (X8 T e.Neg)) a2z) ((a2z.length:Int).toNat+1) (s0,0)=some (s0++ls)/\ls.length<=17/\(∀ l∈ls,Mk T e l) /\
  ∀ s∈a2z,(∃ l∈ls,∃ l0,LineZ T e s.Kind s.Arity l0/\l=c0Y l0 (srS (X8 T e.Pos)) (srS (X8 T e.Neg)))\/c1v T e s.Kind s.Arity:=by
 obtain ⟨l1,l2⟩:=he.lens hT
 have v1:=b6Y (T:=T) e.Pos
 have v2:=b6Y (T:=T) e.Neg
 have hlen:a2z.length=17:=rfl
 obtain ⟨s,e1,k1,k2,k3⟩:=b0v (σ:=List Api_Line) (step:=a4A T n e (srS (X8 T e.Pos)) (srS (X8 T e.Neg)) a2z) a2z (fun s i=>(s0++s,(i:Int))) (fun i s=>s.length<=i/\(∀ l∈s,Mk T e l) /\
  ∀ q∈a2z.take i,(∃ l∈s,∃ l0,LineZ T e q.Kind q.Arity l0/\l=c0Y l0 (srS (X8 T e.Pos)) (srS (X8 T e.Neg)))\/c1v T e q.Kind q.Arity) (fun s=>s0++s)
  (fun i s q hx ⟨i1,i2,i3⟩=>by
    have hlt:i<a2z.length:=(List.getElem?_eq_some_iff.1 hx).1
    have hq:=List.mem_of_getElem? hx
    obtain ⟨l,ok,o1,o2,o3⟩:=d3l hT he q.Kind q.Arity (c1P hq).1 n hn
    unfold a4A
    simp only
    rw [Z3 hlt,j6 hx]
    simp only [cond_true,Option.bind_some]
    have o1':a9j n T e q=some (l,ok):=o1
    rw [o1',a5l i (by omega)]
    simp only [Option.bind_some]
    cases ok with
    | false =>
      refine ⟨s,rfl,by omega,i2,fun q' hq'=>?_⟩
      rw [a1e hx] at hq'
      rcases List.mem_append.1 hq' with hq' | hq'
      ·exact i3 q' hq'
      ·rw [List.mem_singleton] at hq'; subst hq'
       exact .inr (o3 rfl)
    | true =>
      have hl:=o2 rfl
      simp only [cond_true]
      unfold a0v
      rw [Z9 (by omega),Z9 (by omega)]
      simp only [Option.bind_some]
      rw [Z9 (by simp only [List.length_append,List.length_cons,List.length_nil]; omega)]
      refine ⟨s++[c0Y l (srS (X8 T e.Pos)) (srS (X8 T e.Neg))],by rw [<- List.append_assoc]; rfl,by simp only [List.length_append,List.length_cons,List.length_nil]; omega,fun l' hl'=>?_,fun q' hq'=>?_⟩
      ·rcases List.mem_append.1 hl' with hl' | hl'
       ·exact i2 l' hl'
       ·rw [List.mem_singleton] at hl'; subst hl'
        exact ⟨ha,q,l,hq,hl,rfl⟩
      ·rw [a1e hx] at hq'
       rcases List.mem_append.1 hq' with hq' | hq'
       ·rcases i3 q' hq' with ⟨l',a,b⟩ | h
        ·exact .inl ⟨l',by simp [a],b⟩
        ·exact .inr h
       ·rw [List.mem_singleton] at hq'; subst hq'
        exact .inl ⟨_,List.mem_append_right _ (List.mem_singleton.2 rfl),l,hl,rfl⟩) (fun s _=>by
    unfold a4A
    simp) [] ⟨by simp,by simp,by simp⟩ _ (Nat.le_refl _)
 refine ⟨s,?_,by omega,k2,fun q hq=>k3 q (by rw [List.take_length]; exact hq)⟩
 have e1':iter (a4A T n e (srS (X8 T e.Pos)) (srS (X8 T e.Neg)) a2z) (a2z.length+1) (s0++[],0)=_:=e1
 rw [List.append_nil] at e1'
 exact e1'
theorem c8s (hT:GT T){L:Bool}(out:List Api_Goal)(hg:∀ e∈out,NG T L e)(hl:out.length<=1048576)(n:Nat)(hn:5000000<=n) :
 ∃ ls,iter (a5P T n out) ((out.length:Int).toNat+1) ([],0)=some ls/\LinesZ T out ls:=by
 rw [Z8]
 obtain ⟨s,e1,k1,k2,k3⟩:=b0v (σ:=List Api_Line) (step:=a5P T n out) out (fun s i=>(s,(i:Int))) (fun i s=>s.length<=17*i/\(∀ l∈s,∃ e∈out,Mk T e l) /\
  ∀ e∈out.take i,a9q T e=true->∀ q∈a2z,(∃ l∈s,∃ l0,LineZ T e q.Kind q.Arity l0/\l=c0Y l0 (srS (X8 T e.Pos)) (srS (X8 T e.Neg)))\/c1v T e q.Kind q.Arity) (fun s=>s)
  (fun i s e hx ⟨i1,i2,i3⟩=>by
    have hlt:i<out.length:=(List.getElem?_eq_some_iff.1 hx).1
    have hm:=List.mem_of_getElem? hx
    have he:=hg e hm
    obtain ⟨l1,l2⟩:=he.lens hT
    have v1:=b6Y (T:=T) e.Pos
    have v2:=b6Y (T:=T) e.Neg
    unfold a5P
    simp only
    rw [Z3 hlt,j6 hx]
    simp only [cond_true,Option.bind_some]
    rw [c46 e.Pos (by omega) fun i hi=>b0d (List.all_eq_true.1 he.pos i hi),c46 e.Neg (by omega) fun i hi=>b0d (List.all_eq_true.1 he.neg i hi),a5l i (by omega)]
    simp only [Option.bind_some]
    rw [d3j e.Pos e.Neg (by omega) (by omega),d1p _ _ (by omega) (by omega)]
    simp only [Option.bind_some]
    have hb:(bif b7u e.Pos e.Neg then some true else some (b7n (srS (X8 T e.Pos)) (srS (X8 T e.Neg))))=some (!a9q T e):=by
     unfold a9q
     cases b7u e.Pos e.Neg<;>cases b7n (srS (X8 T e.Pos)) (srS (X8 T e.Neg))<;>rfl
    rw [hb]
    simp only [Option.bind_some]
    cases ha:a9q T e with
    | false =>
      refine ⟨s,rfl,by omega,i2,fun e' he' ha'=>?_⟩
      rw [a1e hx] at he'
      rcases List.mem_append.1 he' with he' | he'
      ·exact i3 e' he' ha'
      ·rw [List.mem_singleton] at he'; subst he'
       rw [ha] at ha'; cases ha'
    | true =>
      simp only [Bool.not_true,cond_false]
      rw [d1n]
      simp only [Option.bind_some]
      obtain ⟨ls,a1,a2,a3,a4⟩:=c9w hT he ha n hn s (by omega)
      rw [a1]
      refine ⟨s++ls,rfl,by rw [List.length_append]; omega,fun l hl=>?_,fun e' he' ha' q hq=>?_⟩
      ·rcases List.mem_append.1 hl with hl | hl
       ·exact i2 l hl
       ·exact ⟨e,hm,a3 l hl⟩
      ·rw [a1e hx] at he'
       rcases List.mem_append.1 he' with he' | he'
       ·rcases i3 e' he' ha' q hq with ⟨l',a,b⟩ | h
        ·exact .inl ⟨l',by simp [a],b⟩
        ·exact .inr h
       ·rw [List.mem_singleton] at he'; subst he'
        rcases a4 q hq with ⟨l',a,b⟩ | h
        ·exact .inl ⟨l',by simp [a],b⟩
        ·exact .inr h) (fun s _=>by
    unfold a5P
    simp) [] ⟨by simp,by simp,by simp⟩ _ (Nat.le_refl _)
 exact ⟨s,e1,k1,k2,fun e he=>k3 e (by rw [List.take_length]; exact he)⟩
theorem d07 (hT:GT T)(hN:T.Nodes.length<=8)(hr:inR T.Nodes.length T.Root=true)(g:Api_Goal)(hg:gIn T.Nodes.length g=true)(hl:g.Pos.length+g.Neg.length<=10) :
 ∃ c out,ExpZ T g out/\∀ n,c<=n->∃ ls,a8p n T g=some ls/\LinesZ T out ls:=by
 obtain ⟨c,out,h1,h2⟩:=c4q hT hN g hg hl
 refine ⟨max c 5000000,out,h2,fun n hn=>?_⟩
 obtain ⟨ls,h3,h4⟩:=c8s hT out h2.ng h2.len n (by omega)
 refine ⟨ls,?_,h4⟩
 unfold a8p
 rw [wf0 hT hr n (by omega),c3V g (by omega) (by omega),hg]
 simp only [Option.bind_some,bne_self_eq_false,cond_false,Bool.not_true]
 rw [h1 n (by omega)]
 simp only [Option.bind_some]
 rw [h3]
 rfl
end
end Go.Pl
end
section
namespace Go.Pl
open Go Go.RowKit Go.Sx Go.Qx
section
variable {T:Api_Type}{v:Val}
def c1r (v:Val)(L:Bool):Bool:=!L||(v.Kind==5||v.Kind==7)
def gA (T:Api_Type)(v:Val)(g:Api_Goal):Bool:=gIn T.Nodes.length g&&(c1r v g.Lists&&gM T v g)
theorem d1I (hT:GT T)(ho:vOK v=true)(hb:k7 v<=2097152)(p q:List Int)(hp:p.all (inR T.Nodes.length)=true)(hq:q.all (inR T.Nodes.length)=true)(h1:p.length<=1000000)(h2:q.length<=1000000)(f:Nat)(hf:200000000<=f) :
 b0D f v T p q=some (p.all (Z7 T v)&&q.all fun k=>!Z7 T v k):=by
 unfold b0D
 rw [a6J p _ (fun k=>!Z7 T v k) (by omega) fun k hk=>by
  unfold b1i
  simp only [K6]
  rw [(c8E hT ho hb f hf (List.all_eq_true.1 hp k hk)).1]
  rfl]
 simp only [Option.bind_some]
 rw [c0n]
 cases hp:p.all (Z7 T v)
 ·rfl
 ·simp only [cond_true]
  rw [a6J q _ (fun k=>Z7 T v k) (by omega) fun k hk=>by
   unfold b1G
   simp only [K6]
   exact (c8E hT ho hb f hf (List.all_eq_true.1 hq k hk)).1]
  simp only [Option.bind_some,Bool.true_and]
  congr 1
  rw [<- c0n]
  simp
theorem b2j (hT:GT T)(hr:inR T.Nodes.length T.Root=true)(ho:vOK v=true)(hb:k7 v<=2097152)(g:Api_Goal)(h1:g.Pos.length<=1000000)(h2:g.Neg.length<=1000000)(f:Nat)(hf:200000000<=f) :
 a2V f v T g=some (gA T v g):=by
 unfold a2V gA
 rw [c67 f v (by omega) (by omega),ho,wf0 hT hr f (by omega),c3V g h1 h2]
 simp only [if_true,Option.bind_some,bne_self_eq_false,cond_false]
 cases hg:gIn T.Nodes.length g with
 | false=>rfl
 | true =>
   have hg':=hg
   unfold gIn at hg'
   simp only [Bool.and_eq_true] at hg'
   simp only [Bool.not_true,cond_false]
   rw [d1I hT ho hb g.Pos g.Neg hg'.1 hg'.2 h1 h2 f hf]
   unfold c1r gM
   cases g.Lists with
   | false=>rfl
   | true =>
     simp only [cond_true,Option.bind_some,bne,Bool.not_true,Bool.false_or]
     cases v.Kind==5<;>cases v.Kind==7<;>rfl
theorem c0U (hT:GT T)(hr:inR T.Nodes.length T.Root=true)(ho:vOK v=true)(hb:k7 v<=2097152)(g:Api_Goal)(h1:g.Pos.length<=1000000)(h2:g.Neg.length<=1000000)(f:Nat)(hf:200000000<=f) :
 a3N f v T g=some (gA T v g):=by
 unfold a3N gA
 rw [b3k f v (by omega) (by omega),ho,d5e hT hr f (by omega),c8c g h1 h2]
 simp only [Option.bind_some,beq_self_eq_true,cond_true,K6]
 cases hg:gIn T.Nodes.length g with
 | false=>rfl
 | true =>
   have hg':=hg
   unfold gIn at hg'
   simp only [Bool.and_eq_true] at hg'
   simp only [cond_true,K6]
   unfold a7v
   have l1:=b9z (step:=a3V v T g f) g.Pos (Z7 T v) false (fun i k hk=>by
    have hi:i<g.Pos.length:=(List.getElem?_eq_some_iff.1 hk).1
    unfold a3V
    simp only [Z4]
    rw [Z3 hi,j6 hk]
    simp only [cond_true,Option.bind_some]
    rw [(c8E hT ho hb f hf (List.all_eq_true.1 hg'.1 k (List.mem_of_getElem? hk))).2,j9 i (by omega)]
    exact a3S _ _) (by
    unfold a3V
    simp)
   have l2:=b9z (step:=a3T v T g f) g.Neg (fun k=>!Z7 T v k) false (fun i k hk=>by
    have hi:i<g.Neg.length:=(List.getElem?_eq_some_iff.1 hk).1
    unfold a3T
    simp only [Z4]
    rw [Z3 hi,j6 hk]
    simp only [cond_true,Option.bind_some]
    rw [(c8E hT ho hb f hf (List.all_eq_true.1 hg'.2 k (List.mem_of_getElem? hk))).2,j9 i (by omega)]
    simp only [Option.bind_some]
    cases Z7 T v k<;>rfl) (by
    unfold a3T
    simp)
   simp only [Z8]
   rw [l1]
   unfold gM c1r
   cases hp:g.Pos.all (Z7 T v)
   ·simp [onEnd]
   ·simp only [if_true,Option.bind_some,onEnd]
    rw [l2]
    cases hq:g.Neg.all fun k=>!Z7 T v k
    ·simp [onEnd]
    ·simp only [if_true,Option.bind_some,onEnd,K6]
     cases g.Lists<;>cases v.Kind==5<;>cases v.Kind==7<;>rfl
def b7T (T:Api_Type)(v:Val)(l:Api_Line):Bool :=
 if v.Kind=1 then a04 l.Ints v.Int_ else if v.Kind=2\/v.Kind=3 then a5L l.Names v.Text else if v.Kind=6 then ((v.Kids.length:Int)==l.Arity)&&gM T v (g0 l.Pos l.Neg) else
 if v.Kind=9 then (v.Int_==l.Arity)&&gM T v (g0 l.Pos l.Neg) else if v.Kind=7\/v.Kind=8 then gM T v (g0 l.Pos l.Neg) else true
def d0J (v:Val)(l:Api_Line):Bool:=(l.Vars.all fun s=>inL v.Labels s)&&l.NotVars.all fun s=>!inL v.Labels s
def b2D (T:Api_Type)(v:Val)(l:Api_Line):Bool:=v.Kind==l.Kind&&(d0J v l&&b7T T v l)
theorem c7C (ho:vOK v=true):(v.Kind=1\/v.Kind=2\/v.Kind=3\/v.Kind=4\/v.Kind=5\/v.Kind=6\/v.Kind=7\/v.Kind=8\/v.Kind=9)/\(v.Kind=6->v.Kids.length<=4)/\(v.Kind=9->0<=v.Int_/\v.Int_<=4):=by
 rw [b9O] at ho
 simp only [Bool.and_eq_true] at ho
 have h:=ho.1
 unfold a2g at h
 simp only [Bool.and_eq_true] at h
 have hk:=h.2.2
 unfold a4a at hk
 by_cases h1:v.Kind=1
 ·exact ⟨by omega,by omega,by omega⟩
 rw [if_neg h1] at hk
 by_cases h2:v.Kind=2
 ·exact ⟨by omega,by omega,by omega⟩
 rw [if_neg h2] at hk
 by_cases h3:v.Kind=3
 ·exact ⟨by omega,by omega,by omega⟩
 rw [if_neg h3] at hk
 by_cases h4:v.Kind=4
 ·exact ⟨by omega,by omega,by omega⟩
 rw [if_neg h4] at hk
 by_cases h5:v.Kind=5
 ·exact ⟨by omega,by omega,by omega⟩
 rw [if_neg h5] at hk
 by_cases h6:v.Kind=6
 ·rw [if_pos h6] at hk
  exact ⟨by omega,fun _=>by simpa using hk,by omega⟩
 rw [if_neg h6] at hk
 by_cases h7:v.Kind=7
 ·exact ⟨by omega,by omega,by omega⟩
 rw [if_neg h7] at hk
 by_cases h8:v.Kind=8
 ·exact ⟨by omega,by omega,by omega⟩
 rw [if_neg h8] at hk
 by_cases h9:v.Kind=9
 ·rw [if_pos h9] at hk
  unfold b2f at hk
  simp only [Bool.and_eq_true,decide_eq_true_eq] at hk
  exact ⟨by omega,by omega,fun _=>⟨hk.1.1,hk.1.2⟩⟩
 rw [if_neg h9] at hk
 cases hk
end
end Go.Pl
end
section
namespace Go.Pl
open Go Go.RowKit Go.Sx Go.Qx
section
variable {T:Api_Type}{v:Val}
theorem d0D (hT:GT T)(ho:vOK v=true)(hb:k7 v<=4194304):Boo T (Z7 T v):=by
 have key:∀ i,inR T.Nodes.length i=true->Z7 T v i=unM (Z7 T) v (ndT T i):=fun i hi=>by
  obtain ⟨j,rfl,_,e,_⟩:=a6b hi
  exact b0w hT e ho hb
 refine ⟨fun i hi hk=>?_,fun i hi hk=>?_,fun i hi hk=>?_,fun i hi hk=>?_,fun i hi hk=>?_⟩<;>rw [key i hi]<;>unfold unM<;>simp [hk]
theorem c4b (hT:GT T)(ho:vOK v=true)(hb:k7 v<=4194304){i:Int}(hi:a0y T i=true):Z7 T v i=unM (Z7 T) v (ndT T i):=by
 obtain ⟨j,rfl,_,e,_⟩:=a6b (b0d hi)
 exact b0w hT e ho hb
theorem b2x (hT:GT T)(ho:vOK v=true)(hb:k7 v<=4194304){i:Int}(hi:a0y T i=true)(hk:(ndT T i).Kind=19):Z7 T v i=inL v.Labels (ndT T i).Text:=by
 rw [c4b hT ho hb hi]
 unfold unM inL
 simp [hk]
theorem b0u {l:List Int}{s:ByteArray}:s∈srS (X8 T l)↔∃ i∈l,(ndT T i).Kind=19/\(ndT T i).Text=s:=by
 rw [c7w]
 unfold X8
 simp only [List.mem_map,List.mem_filter,beq_iff_eq]
 constructor
 ·rintro ⟨i,⟨a,b⟩,c⟩; exact ⟨i,a,b,c⟩
 ·rintro ⟨i,a,b,c⟩; exact ⟨i,⟨a,b⟩,c⟩
theorem c9a {p q:List Int}:b7u p q=true↔∃ i,i∈p/\i∈q:=by
 unfold b7u
 simp only [List.any_eq_true,beq_iff_eq]
 constructor
 ·rintro ⟨x,hx,y,hy,rfl⟩; exact ⟨x,hx,hy⟩
 ·rintro ⟨x,hx,hy⟩; exact ⟨x,hx,x,hy,rfl⟩
theorem c9e {p q:List ByteArray}:b7n p q=true↔∃ i,i∈p/\i∈q:=by
 unfold b7n
 simp only [List.any_eq_true,b4y]
 constructor
 ·rintro ⟨x,hx,y,hy,rfl⟩; exact ⟨y,hx,hy⟩
 ·rintro ⟨x,hx,hy⟩; exact ⟨x,hx,x,hy,rfl⟩
def IOK (v:Val):Prop:=v.Kind=1->i64 v.Int_
def c1H (T:Api_Type)(v:Val)(e:Api_Goal):Bool:=c1r v e.Lists&&(e.Pos.all (Z7 T v)&&e.Neg.all fun k=>!Z7 T v k)
theorem b6v (hT:GT T)(ho:vOK v=true)(hb:k7 v<=4194304){i:Int}(hi:a0y T i=true)(hk:(ndT T i).Kind=lkK v.Kind):Z7 T v i=if v.Kind=1 then inI T i v.Int_ else isT T i v.Text:=by
 rw [c4b hT ho hb hi]
 have h0:(ndT T i).Kind≠0:=by
  obtain ⟨j,_,_,_,_,hK⟩:=a9w hT hi
  omega
 unfold lkK at hk
 unfold unM inI isT
 by_cases h1:v.Kind=1
 ·simp [h1] at hk
  simp [h1,hk]
 ·rw [if_neg h1] at hk
  by_cases h2:v.Kind=2
  ·simp [h2] at hk
   simp [h2,hk,b83]
  ·rw [if_neg h2] at hk
   by_cases h3:v.Kind=3
   ·simp [h3] at hk
    simp [h3,hk,b83]
   ·rw [if_neg h3] at hk
    exact absurd hk h0
theorem d13 (p q:List Int):gM T v (g0 p q)=true↔(∀ i∈p,Z7 T v i=true)/\∀ i∈q,Z7 T v i=false:=by
 unfold gM
 simp
theorem c7V (hT:GT T)(ho:vOK v=true)(hb:k7 v<=4194304)(hI:IOK v){L:Bool}{e:Api_Goal}(he:NG T L e){l:Api_Line}(hl:Mk T e l)(h:b2D T v l=true):c1H T v e=true:=by
 obtain ⟨_,s,l0,hs,hZ,rfl⟩:=hl
 have hp:=List.all_eq_true.1 he.pos
 have hq:=List.all_eq_true.1 he.neg
 unfold b2D d0J at h
 simp only [Bool.and_eq_true,List.all_eq_true,beq_iff_eq] at h
 obtain ⟨hk,⟨hv,hn⟩,hbody⟩:=h
 have hk':v.Kind=s.Kind:=by rw [hk]; exact hZ.kind
 obtain ⟨hKs,hAs⟩:=c1P hs
 have hbl:b7T T v l0=true:=hbody
 have hA:s.Arity=arV v:=by
  unfold arV
  unfold b7T at hbl
  by_cases h6:v.Kind=6
  ·rw [if_pos h6]
   simp [h6] at hbl
   rw [<- hZ.ar]; exact hbl.1.symm
  ·rw [if_neg h6]
   by_cases h9:v.Kind=9
   ·rw [if_pos h9]
    simp [h9] at hbl
    rw [<- hZ.ar]; exact hbl.1.symm
   ·rw [if_neg h9]
    omega
 have hop:=hZ.op
 unfold b2u at hop
 simp only [Bool.and_eq_true,List.all_eq_true,Bool.or_eq_true] at hop
 rw [<- hk',hA] at hop
 have hspl:=c5H hT ho hb (p:=e.Pos) (q:=e.Neg) he.pos he.neg
 have hsk:(∀ i∈ofZ T v.Kind (arV v) (skK v.Kind) e.Pos,Z7 T v i=true)/\∀ i∈ofZ T v.Kind (arV v) (skK v.Kind) e.Neg,Z7 T v i=false:=by
  have e1:ofZ T v.Kind (arV v) (skK v.Kind) e.Pos=l0.Pos:=by rw [hZ.pos,<- hk',hA]
  have e2:ofZ T v.Kind (arV v) (skK v.Kind) e.Neg=l0.Neg:=by rw [hZ.neg,<- hk',hA]
  rw [e1,e2,<- d13]
  unfold b7T at hbl
  obtain ⟨hK,_⟩:=c7C ho
  by_cases h6:v.Kind=6
  ·simp [h6] at hbl; exact hbl.2
  by_cases h9:v.Kind=9
  ·simp [h9] at hbl; exact hbl.2
  by_cases h7:v.Kind=7
  ·simp [h7] at hbl; exact hbl
  by_cases h8:v.Kind=8
  ·simp [h8] at hbl; exact hbl
  have h0:skK v.Kind=0:=by unfold skK; rw [if_neg h6,if_neg h7,if_neg h8,if_neg h9]
  rw [<- e1,<- e2,h0,of0 hT he.pos,of0 hT he.neg]
  rfl
 have hlk:(∀ i∈e.Pos,(ndT T i).Kind=lkK v.Kind->Z7 T v i=true)/\∀ i∈e.Neg,(ndT T i).Kind=lkK v.Kind->Z7 T v i=false:=by
  have fin:(if v.Kind=1 then spI T e v.Int_ else if v.Kind=2\/v.Kind=3 then spN T e (lkK v.Kind) v.Text else true)=true:=by
   unfold b7T at hbl
   by_cases h1:v.Kind=1
   ·rw [if_pos h1] at hbl ⊢
    rw [<- (hZ.ints1 (by rw [<- hk']; exact h1)).2.2.1 v.Int_ (hI h1)]
    exact hbl
   ·rw [if_neg h1] at hbl ⊢
    by_cases h2:v.Kind=2\/v.Kind=3
    ·rw [if_pos h2] at hbl ⊢
     have:=(hZ.nam1 (by rw [<- hk']; exact h2)).2.2.1 v.Text
     rw [<- hk'] at this
     rw [<- this]
     exact hbl
    ·rw [if_neg h2]
  have get:∀ i,a0y T i=true->(ndT T i).Kind=lkK v.Kind->v.Kind=1\/v.Kind=2\/v.Kind=3:=fun i hi hk=>by
   have h0:(ndT T i).Kind≠0:=by
    obtain ⟨j,_,_,_,_,hK⟩:=a9w hT hi
    omega
   unfold lkK at hk
   by_cases h1:v.Kind=1
   ·exact .inl h1
   by_cases h2:v.Kind=2
   ·exact .inr (.inl h2)
   by_cases h3:v.Kind=3
   ·exact .inr (.inr h3)
   rw [if_neg h1,if_neg h2,if_neg h3] at hk
   exact absurd hk h0
  constructor
  ·intro i hi hki
   rw [b6v hT ho hb (hp i hi) hki]
   by_cases h1:v.Kind=1
   ·rw [if_pos h1] at fin ⊢
    unfold spI at fin
    simp only [Bool.and_eq_true,List.all_eq_true] at fin
    have:=fin.1 i hi
    unfold isK at this
    unfold lkK at hki
    rw [if_pos h1] at hki
    simpa [hki] using this
   ·rw [if_neg h1] at fin ⊢
    have h23:v.Kind=2\/v.Kind=3:=by have:=get i (hp i hi) hki; omega
    rw [if_pos h23] at fin
    unfold spN at fin
    simp only [Bool.and_eq_true,List.all_eq_true] at fin
    have:=fin.1 i hi
    unfold isK at this
    simpa [hki] using this
  ·intro i hi hki
   rw [b6v hT ho hb (hq i hi) hki]
   by_cases h1:v.Kind=1
   ·rw [if_pos h1] at fin ⊢
    unfold spI at fin
    simp only [Bool.and_eq_true,List.all_eq_true] at fin
    have:=fin.2 i hi
    unfold isK at this
    unfold lkK at hki
    rw [if_pos h1] at hki
    simpa [hki] using this
   ·rw [if_neg h1] at fin ⊢
    have h23:v.Kind=2\/v.Kind=3:=by have:=get i (hq i hi) hki; omega
    rw [if_pos h23] at fin
    unfold spN at fin
    simp only [Bool.and_eq_true,List.all_eq_true] at fin
    have:=fin.2 i hi
    unfold isK at this
    simpa [hki] using this
 have hmem:=hspl.2 ⟨⟨fun i hi hk=>by
  rw [b2x hT ho hb (hp i hi) hk]
  exact hv _ (b0u.2 ⟨i,hi,hk,rfl⟩),fun i hi hk=>by
  rw [b2x hT ho hb (hq i hi) hk]
  have:=hn _ (b0u.2 ⟨i,hi,hk,rfl⟩)
  simpa using this⟩,fun i hi=>by
  rcases hop.2 i hi with h | h
  ·unfold isK at h
   exact .inl (by simpa using h)
  ·exact .inr h,hlk,hsk,fun i hi hk=>by
  have:=hZ.ev
  rw [List.any_eq_false] at this
  have:=this i hi
  unfold isK at this
  rw [<- hk'] at this
  simp [hk] at this⟩
 unfold c1H c1r
 rw [hmem.1,hmem.2]
 have h1:=hop.1
 cases hL:e.Lists with
 | false=>rfl
 | true =>
   rw [hL] at h1
   simp only [bne,Bool.true_and,Bool.not_eq_true',Bool.and_eq_false_iff,Bool.not_eq_false'] at h1
   simp only [Bool.not_true,Bool.false_or,Bool.and_true,Bool.or_eq_true]
   exact h1
theorem c4v (hT:GT T)(ho:vOK v=true)(hb:k7 v<=4194304)(hI:IOK v){L:Bool}{e:Api_Goal}(he:NG T L e)(hm:c1H T v e=true) :
 a9q T e=true/\Core_Sort.mk v.Kind (arV v)∈a2z/\¬ c1v T e v.Kind (arV v)/\∀ l0,LineZ T e v.Kind (arV v) l0->b2D T v (c0Y l0 (srS (X8 T e.Pos)) (srS (X8 T e.Neg)))=true:=by
 have hp:=List.all_eq_true.1 he.pos
 have hq:=List.all_eq_true.1 he.neg
 unfold c1H at hm
 simp only [Bool.and_eq_true] at hm
 obtain ⟨hlis,hpos,hneg⟩:=hm
 obtain ⟨⟨v1,v2⟩,op,⟨k1,k2⟩,⟨s1,s2⟩,ev⟩:=(c5H hT ho hb he.pos he.neg).1 ⟨hpos,hneg⟩
 have hP:=List.all_eq_true.1 hpos
 have hQ:∀ i∈e.Neg,Z7 T v i=false:=fun i hi=>by simpa using List.all_eq_true.1 hneg i hi
 obtain ⟨hK,hK6,hK9⟩:=c7C ho
 have hopen:b2u T e v.Kind (arV v)=true:=by
  unfold b2u
  simp only [Bool.and_eq_true,List.all_eq_true,Bool.or_eq_true]
  refine ⟨?_,fun i hi=>?_⟩
  ·unfold c1r at hlis
   simp only [bne]
   revert hlis
   generalize e.Lists=a
   generalize (v.Kind==5)=b
   generalize (v.Kind==7)=c
   revert a b c
   decide
  ·rcases op i hi with h | h
   ·exact .inl (by unfold isK; simp [h])
   ·exact .inr h
 have hspI:v.Kind=1->spI T e v.Int_=true:=fun h1=>by
  unfold spI
  simp only [Bool.and_eq_true,List.all_eq_true,Bool.or_eq_true]
  have hl:lkK v.Kind=3:=by unfold lkK; rw [if_pos h1]
  refine ⟨fun i hi=>?_,fun i hi=>?_⟩
  ·cases hk:isK T 3 i with
   | false=>exact .inl rfl
   | true =>
     have hk3:(ndT T i).Kind=lkK v.Kind:=by rw [hl]; unfold isK at hk; simpa using hk
     have:=k1 i hi hk3
     rw [b6v hT ho hb (hp i hi) hk3,if_pos h1] at this
     exact .inr this
  ·cases hk:isK T 3 i with
   | false=>exact .inl rfl
   | true =>
     have hk3:(ndT T i).Kind=lkK v.Kind:=by rw [hl]; unfold isK at hk; simpa using hk
     have:=k2 i hi hk3
     rw [b6v hT ho hb (hq i hi) hk3,if_pos h1] at this
     exact .inr (by rw [this]; rfl)
 have hspN:v.Kind=2\/v.Kind=3->spN T e (lkK v.Kind) v.Text=true:=fun h23=>by
  have h1:¬ v.Kind=1:=by omega
  unfold spN
  simp only [Bool.and_eq_true,List.all_eq_true,Bool.or_eq_true]
  refine ⟨fun i hi=>?_,fun i hi=>?_⟩
  ·cases hk:isK T (lkK v.Kind) i with
   | false=>exact .inl rfl
   | true =>
     have hk3:(ndT T i).Kind=lkK v.Kind:=by unfold isK at hk; simpa using hk
     have:=k1 i hi hk3
     rw [b6v hT ho hb (hp i hi) hk3,if_neg h1] at this
     exact .inr this
  ·cases hk:isK T (lkK v.Kind) i with
   | false=>exact .inl rfl
   | true =>
     have hk3:(ndT T i).Kind=lkK v.Kind:=by unfold isK at hk; simpa using hk
     have:=k2 i hi hk3
     rw [b6v hT ho hb (hq i hi) hk3,if_neg h1] at this
     exact .inr (by rw [this]; rfl)
 have hev:e.Neg.any (isK T (ekK v.Kind))=false:=by
  rw [List.any_eq_false]
  intro i hi
  unfold isK
  simp [ev i hi]
 refine ⟨?_,?_,?_,fun l0 hZ=>?_⟩
 ·unfold a9q
  rw [Bool.and_eq_true]
  constructor
  ·cases h:b7u e.Pos e.Neg with
   | false=>rfl
   | true =>
     obtain ⟨i,h1,h2⟩:=c9a.1 h
     have:=hQ i h2
     rw [hP i h1] at this
     cases this
  ·cases h:b7n (srS (X8 T e.Pos)) (srS (X8 T e.Neg)) with
   | false=>rfl
   | true =>
     obtain ⟨s,h1,h2⟩:=c9e.1 h
     obtain ⟨i,a1,a2,a3⟩:=b0u.1 h1
     obtain ⟨j,b1,b2,b3⟩:=b0u.1 h2
     have c1:=v1 i a1 a2
     have c2:=v2 j b1 b2
     rw [b2x hT ho hb (hp i a1) a2,a3] at c1
     rw [b2x hT ho hb (hq j b1) b2,b3,c1] at c2
     cases c2
 ·refine c9Y ?_
  unfold arV
  by_cases h6:v.Kind=6
  ·rw [if_pos h6]; have:=hK6 h6; omega
  ·rw [if_neg h6]
   by_cases h9:v.Kind=9
   ·rw [if_pos h9]; have:=hK9 h9; omega
   ·rw [if_neg h9]; omega
 ·rintro (h | h | ⟨h1,h⟩ | ⟨h1,h⟩)
  ·rw [hopen] at h; cases h
  ·rw [hev] at h; cases h
  ·have:=hspI h1
   rw [h v.Int_ (hI h1)] at this
   cases this
  ·have:=hspN h1
   rw [h v.Text] at this
   cases this
 ·unfold b2D d0J
  simp only [Bool.and_eq_true,List.all_eq_true,beq_iff_eq]
  refine ⟨hZ.kind.symm,⟨fun s hs=>?_,fun s hs=>?_⟩,?_⟩
  ·obtain ⟨i,a1,a2,a3⟩:=b0u.1 hs
   have c1:=v1 i a1 a2
   rw [b2x hT ho hb (hp i a1) a2,a3] at c1
   exact c1
  ·obtain ⟨j,b1,b2,b3⟩:=b0u.1 hs
   have c2:=v2 j b1 b2
   rw [b2x hT ho hb (hq j b1) b2,b3] at c2
   rw [c2]; rfl
  ·have hgm:gM T v (g0 l0.Pos l0.Neg)=true:=by
    rw [d13,hZ.pos,hZ.neg]
    exact ⟨s1,s2⟩
   show b7T T v l0=true
   unfold b7T
   by_cases h1:v.Kind=1
   ·rw [if_pos h1,(hZ.ints1 h1).2.2.1 v.Int_ (hI h1)]
    exact hspI h1
   rw [if_neg h1]
   by_cases h23:v.Kind=2\/v.Kind=3
   ·rw [if_pos h23,(hZ.nam1 h23).2.2.1 v.Text]
    exact hspN h23
   rw [if_neg h23,hZ.ar,hgm]
   unfold arV
   by_cases h6:v.Kind=6
   ·simp [h6]
   by_cases h9:v.Kind=9
   ·simp [h9]
   simp [h6,h9]
theorem d0u (hT:GT T)(ho:vOK v=true)(hb:k7 v<=4194304)(hI:IOK v){g:Api_Goal}(hg:gIn T.Nodes.length g=true){out:List Api_Goal}(hE:ExpZ T g out){ls:List Api_Line}(hL:LinesZ T out ls):ls.any (b2D T v)=gA T v g:=by
 have hmem:=hE.mem _ (d0D hT ho hb)
 rw [Bool.eq_iff_iff,List.any_eq_true]
 unfold gA
 rw [hg,Bool.true_and,Bool.and_eq_true]
 constructor
 ·rintro ⟨l,hl,h⟩
  obtain ⟨e,he,hM⟩:=hL.src l hl
  have hN:=hE.ng e he
  have h2:=c7V hT ho hb hI hN hM h
  unfold c1H at h2
  rw [Bool.and_eq_true,hN.lists] at h2
  refine ⟨h2.1,?_⟩
  unfold gM
  rw [<- hmem,List.any_eq_true]
  exact ⟨e,he,h2.2⟩
 ·rintro ⟨h1,h2⟩
  unfold gM at h2
  rw [<- hmem,List.any_eq_true] at h2
  obtain ⟨e,he,h3⟩:=h2
  have hN:=hE.ng e he
  have hm:c1H T v e=true:=by
   unfold c1H
   rw [hN.lists,h1,Bool.true_and]
   exact h3
  obtain ⟨c1,c2,c3,c4⟩:=c4v hT ho hb hI hN hm
  rcases hL.all e he c1 _ c2 with ⟨l,hl,l0,hZ,rfl⟩ | h
  ·exact ⟨_,hl,c4 l0 hZ⟩
  ·exact absurd h c3
end
end Go.Pl
end
section
namespace Go.Pl
open Go Go.RowKit Go.Sx Go.Qx
def Pst {α:Type}(o:Option α)(Q:α->Prop):Prop:=∀ r,o=some r->Q r
theorem Pst.bind {α β:Type}{o:Option α}{f:α->Option β}{P:α->Prop}{Q:β->Prop}(h1:Pst o P)(h2:∀ x,P x->Pst (f x) Q):Pst (Option.bind o f) Q:=fun r h=>by
 cases o with
 | none=>cases h
 | some x=>exact h2 x (h1 x rfl) r h
theorem Pst.any {α:Type}{o:Option α}:Pst o fun _=>True:=fun _ _=>trivial
theorem Pst.cond {α:Type}{b:Bool}{x y:Option α}{Q:α->Prop}(h1:Pst x Q)(h2:Pst y Q):Pst (bif b then x else y) Q:=by cases b; exact h2; exact h1
theorem Pst.ret {α:Type}{x:α}{Q:α->Prop}(h:Q x):Pst (some x) Q:=fun r e=>by rw [<- Option.some.inj e]; exact h
theorem Pst.none {α:Type}{Q:α->Prop}:Pst (none:Option α) Q:=fun r e=>by cases e
theorem Pst.onEnd {α β γ:Type}{f:α->Option γ}{g:β->Option γ}{s:Sum α β}{Q:γ->Prop}(h1:∀ x,s=.inl x->Pst (f x) Q)(h2:∀ y,s=.inr y->Pst (g y) Q):Pst (onEnd f g s) Q:=by
 cases s with
 | inl x=>exact h1 x rfl
 | inr y=>exact h2 y rfl
theorem Pst.iter {St β:Type}{step:St->Option (Fl St β)}{J:St->Prop}{Q:β->Prop}(hs:∀ s,J s->Pst (step s) fun r=>match r with | .next s'=>J s' | .done b=>Q b):∀ (k:Nat) (s:St),J s->Pst (iter step k s) Q
 | 0,_,_=>fun r h=>by cases h
 | k+1,s,hJ=>by
   intro r h
   simp only [Go.Sx.iter] at h
   cases hst:step s with
   | none=>rw [hst] at h; cases h
   | some x =>
     have:=hs s hJ x hst
     rw [hst] at h
     cases x with
     | next s'=>exact Pst.iter hs k s' this r h
     | done b=>simp only [Option.bind_some] at h; rw [<- Option.some.inj h]; exact this
abbrev V1 (r:Val×Semtypebase_Source):Prop:=IOK r.1
theorem a2n {v:Val}(h:v.Kind≠1):IOK v:=fun e=>absurd e h
theorem c1x {v w:Val}(h1:w.Kind=v.Kind)(h2:w.Int_=v.Int_)(h:IOK v):IOK w:=fun e=>by rw [h2]; exact h (by rw [<- h1]; exact e)
theorem c6N (s:Semtypebase_Source):Pst (a0r s) fun r=>i64 r.1:=by
 unfold a0r
 refine Pst.bind Pst.any fun r _=>Pst.bind (P:=fun _=>True) Pst.any fun x _=>Pst.bind (P:=i64) (fun y hy=>?_) fun y hy=>Pst.ret hy
 have hm:=List.mem_of_getElem? hy
 simp only [List.mem_cons,List.not_mem_nil,or_false] at hm
 unfold i64
 omega
theorem b07 (s:Semtypebase_Source):Pst (Q9 s) V1:=by
 unfold Q9
 refine Pst.bind Pst.any fun r _=>Pst.cond ?_ (Pst.cond ?_ (Pst.cond ?_ (Pst.cond ?_ (Pst.cond ?_ ?_))))
 ·exact Pst.bind (c6N _) fun x hx=>Pst.bind (P:=fun v=>v.Int_=x.1) (fun v hv=>by unfold a11 at hv; rw [<- Option.some.inj hv]; rfl) fun v hv=>Pst.ret fun _=>by rw [hv]; exact hx
 ·exact Pst.bind Pst.any fun x _=>Pst.bind (P:=fun v=>v.Kind≠1) (fun v hv=>by unfold a3n at hv; rw [<- Option.some.inj hv]; exact (by decide:(3:Int)≠1)) fun v hv=>Pst.ret (a2n hv)
 ·exact Pst.bind Pst.any fun x _=>Pst.bind (P:=fun v=>v.Kind≠1) (fun v hv=>by unfold a2q at hv; rw [<- Option.some.inj hv]; exact (by decide:(2:Int)≠1)) fun v hv=>Pst.ret (a2n hv)
 ·exact Pst.bind Pst.any fun x _=>Pst.bind (P:=fun v=>v.Kind≠1) (fun v hv=>by unfold a5q at hv; rw [<- Option.some.inj hv]; exact (by decide:(4:Int)≠1)) fun v hv=>Pst.ret (a2n hv)
 ·exact Pst.bind (P:=fun v=>v.Kind≠1) (fun v hv=>by unfold W3 at hv; rw [<- Option.some.inj hv]; exact (by decide:(5:Int)≠1)) fun v hv=>Pst.ret (a2n hv)
 ·refine Pst.bind (P:=fun v=>v.Kind≠1) ?_ fun v hv=>Pst.ret (a2n hv)
  unfold a1U
  exact Pst.bind Pst.any fun x _=>Pst.ret (by decide:(6:Int)≠1)
theorem c45 (ks:List Key)(l:List Val):Pst (a1n ks l) fun r=>r.1.Kind≠1:=by
 unfold a1n
 refine Pst.cond (Pst.ret (by decide)) ?_
 refine Pst.bind (P:=fun b=>match b with | .inl x=>x.1=0 | .inr y=>y.2.1=0) (Pst.iter (J:=fun x=>x.2.1=0) (fun s hJ=>?_) _ _ rfl) fun b hb=>Pst.onEnd (fun x hx=>?_) (fun y hy=>Pst.ret ?_)
 ·unfold a1z
  exact Pst.cond (Pst.bind Pst.any fun _ _=>Pst.bind Pst.any fun _ _=>Pst.cond (Pst.ret rfl) (Pst.ret hJ)) (Pst.ret hJ)
 ·subst hx
  refine Pst.bind (P:=fun b=>match b with | .inl x=>x.2.1=8 | .inr y=>y.2.1.1=0) (Pst.iter (J:=fun x=>x.2.1.1=0/\x.2.2.1=8) (fun s hJ=>?_) _ _ ⟨hb,rfl⟩) fun b hb=>Pst.onEnd (fun x hx=>Pst.ret ?_) (fun y hy=>Pst.ret ?_)
  ·unfold a0T
   refine Pst.cond (Pst.bind Pst.any fun _ _=>Pst.bind Pst.any fun _ _=>Pst.cond (Pst.ret rfl) ?_) (Pst.ret hJ.2)
   exact Pst.bind Pst.any fun _ _=>Pst.bind Pst.any fun _ _=>Pst.bind Pst.any fun _ _=>Pst.bind Pst.any fun _ _=>Pst.bind Pst.any fun _ _=>Pst.bind Pst.any fun _ _=>Pst.bind Pst.any fun _ _=>Pst.bind Pst.any fun _ _=>Pst.bind Pst.any fun _ _=>Pst.bind Pst.any fun _ _=>Pst.bind Pst.any fun _ _=>Pst.bind Pst.any fun _ _=>Pst.ret hJ
  ·subst hx
   show x.2.1≠1
   have hb':x.2.1=8:=hb
   omega
  ·subst hy
   show y.2.1.1≠1
   have hb':y.2.1.1=0:=hb
   omega
 ·subst hy
  show y.2.1≠1
  have hb':y.2.1=0:=hb
  omega
theorem b72 (n:Nat)(a:Int)(l:List Ent):Pst (a01 n a l) fun r=>r.1.Kind≠1:=by
 unfold a01
 refine Pst.bind Pst.any fun _ _=>Pst.cond (Pst.ret (by decide)) ?_
 refine Pst.bind (P:=fun b=>match b with | .inl x=>True | .inr y=>y.2.1=0) (Pst.iter (J:=fun x=>x.2.1=0) (fun s hJ=>?_) _ _ rfl) fun b hb=>Pst.onEnd (fun x hx=>?_) (fun y hy=>Pst.ret ?_)
 ·unfold a0j
  exact Pst.cond (Pst.bind Pst.any fun _ _=>Pst.bind Pst.any fun _ _=>Pst.bind Pst.any fun _ _=>Pst.cond (Pst.ret rfl) (Pst.ret hJ)) (Pst.ret trivial)
 ·exact Pst.bind Pst.any fun _ _=>Pst.ret (by decide:(9:Int)≠1)
 ·subst hy
  show y.2.1≠1
  have hb':y.2.1=0:=hb
  omega
theorem c8L:∀ (n:Nat) (s:Semtypebase_Source) (h:Int),Pst ((y9 n).2.1 s h) V1
 | 0,_,_=>Pst.none
 | n+1,s,h=>by
   show Pst (W4 n (y9 n).1 (y9 n).2.1 (y9 n).2.2 s h) V1
   unfold W4
   refine Pst.cond (Pst.bind (b07 _) fun r hr=>Pst.ret hr) (Pst.bind Pst.any fun r _=>?_)
   refine Pst.bind (P:=fun b=>match b with | .inl _=>True | .inr y=>y.2.1≠1) ?_ fun b hb=>Pst.onEnd (fun x hx=>Pst.bind (b07 _) fun r hr=>Pst.ret hr) (fun y hy=>Pst.ret ?_)
   ·refine Pst.cond ?_ (Pst.cond ?_ (Pst.cond ?_ (Pst.cond ?_ (Pst.ret trivial))))
    ·refine Pst.bind Pst.any fun _ _=>Pst.bind Pst.any fun _ _=>Pst.bind (P:=fun v=>v.Kind≠1) ?_ fun v hv=>Pst.ret hv
     unfold a1U
     exact Pst.bind Pst.any fun x _=>Pst.ret (by decide:(6:Int)≠1)
    ·refine Pst.bind Pst.any fun _ _=>Pst.bind Pst.any fun _ _=>Pst.bind Pst.any fun _ _=>Pst.bind Pst.any fun _ _=>Pst.bind Pst.any fun _ _=>Pst.bind (P:=fun v=>v.Kind≠1) ?_ fun v hv=>Pst.ret hv
     unfold a4N
     exact Pst.ret (by decide:(7:Int)≠1)
    ·exact Pst.bind Pst.any fun _ _=>Pst.bind Pst.any fun _ _=>Pst.bind (c45 _ _) fun v hv=>Pst.cond (Pst.ret hv) (Pst.ret trivial)
    ·exact Pst.bind Pst.any fun _ _=>Pst.bind Pst.any fun _ _=>Pst.bind Pst.any fun _ _=>Pst.bind (b72 _ _ _) fun v hv=>Pst.cond (Pst.ret hv) (Pst.ret trivial)
   ·subst hy
    exact a2n hb
theorem c8M (n:Nat)(s:Semtypebase_Source)(h:Int):Pst (a1y n s h) V1:=by
 cases n with
 | zero=>exact Pst.none
 | succ n =>
   show Pst (a03 n (y9 n).1 (y9 n).2.1 (y9 n).2.2 s h) V1
   unfold a03
   exact Pst.bind (c8L n s h) fun r hr=>Pst.bind Pst.any fun l _=>Pst.ret (c1x rfl rfl hr)
theorem c9h (t:Api_Type)(x:Api_TypeNode)(k:Nat)(v:Val)(hv:IOK v):Pst (iter (J7 t x) k (0,v)) IOK:=by
 refine Pst.iter (J:=fun s=>IOK s.2) (fun s hJ=>?_) k (0,v) hv
 unfold J7
 refine Pst.cond (Pst.bind (P:=IOK) ?_ fun w hw=>Pst.ret hw) (Pst.ret hJ)
 refine Pst.bind Pst.any fun _ _=>Pst.bind Pst.any fun _ _=>Pst.cond ?_ (Pst.ret hJ)
 exact Pst.bind Pst.any fun _ _=>Pst.bind Pst.any fun _ _=>Pst.bind Pst.any fun _ _=>Pst.bind Pst.any fun _ _=>Pst.bind Pst.any fun _ _=>Pst.ret (c1x rfl rfl hJ)
theorem c39 {t:Api_Type}(hT:GT t):∀ n:Nat,(∀ s k h,Pst ((z7 n).1 s t k h) V1)/\(∀ s k h,Pst ((z7 n).2.1 s t k h) V1) /\
 (∀ s x h,Pst ((z7 n).2.2.1 s t x h) V1)/\∀ s x h,Pst ((z7 n).2.2.2 s t x h) V1
 | 0=>⟨fun _ _ _=>Pst.none,fun _ _ _=>Pst.none,fun _ _ _=>Pst.none,fun _ _ _=>Pst.none⟩
 | n+1=>by
   obtain ⟨i1,i2,i3,i4⟩:=c39 hT n
   refine ⟨fun s k h=>?_,fun s k h=>?_,fun s x h=>?_,fun s x h=>?_⟩
   ·show Pst (a1l n (z7 n).1 (z7 n).2.1 (z7 n).2.2.1 (z7 n).2.2.2 s t k h) V1
    unfold a1l
    exact Pst.bind (i2 s k h) fun r hr=>Pst.bind Pst.any fun _ _=>Pst.cond (Pst.bind (b07 _) fun q hq=>Pst.ret hq) (Pst.ret hr)
   ·show Pst (X0 n (z7 n).1 (z7 n).2.1 (z7 n).2.2.1 (z7 n).2.2.2 s t k h) V1
    unfold X0
    refine Pst.bind Pst.any fun _ _=>Pst.bind Pst.any fun _ _=>Pst.cond (Pst.bind (b07 _) fun r hr=>Pst.ret hr) ?_
    refine Pst.bind (P:=fun x=>x∈t.Nodes) (fun x hx=>?_) fun x hx=>?_
    ·unfold idx at hx
     split at hx
     ·exact List.mem_of_getElem? hx
     ·cases hx
    have st:∀ (w:ByteArray) (s:Semtypebase_Source),Pst (Option.bind (a2q w) fun r=>some (r,s)) V1:=fun w s=>Pst.ret (a2n (by decide:(2:Int)≠1))
    have at_:∀ (w:ByteArray) (s:Semtypebase_Source),Pst (Option.bind (a3n w) fun r=>some (r,s)) V1:=fun w s=>Pst.ret (a2n (by decide:(3:Int)≠1))
    have pd:∀ (w:Int) (s:Semtypebase_Source),Pst (Option.bind (a5q w) fun r=>some (r,s)) V1:=fun w s=>Pst.ret (a2n (by decide:(4:Int)≠1))
    have nl:∀ (s:Semtypebase_Source),Pst (Option.bind (W3) fun r=>some (r,s)) V1:=fun s=>Pst.ret (a2n (by decide:(5:Int)≠1))
    refine Pst.cond ?_ (Pst.cond (st _ _) (Pst.cond (Pst.bind Pst.any fun _ _=>st _ _) (Pst.cond (at_ _ _) (Pst.cond (Pst.bind Pst.any fun _ _=>at_ _ _) (Pst.cond (Pst.bind Pst.any fun _ _=>pd _ _) (Pst.cond (nl _) ?_))))))
    ·obtain ⟨j,hj,rfl⟩:=List.getElem_of_mem hx
     have hg:=(hT.nodes j _ (List.getElem?_eq_getElem hj)).rng
     refine Pst.bind Pst.any fun d5 _=>Pst.bind Pst.any fun d6 _=>Pst.bind Pst.any fun r _=>Pst.bind (P:=fun _=>True) Pst.any fun _ _=>Pst.bind (P:=i64) (fun y hy=>?_) fun y hy=>Pst.ret fun _=>hy
     have hm:=List.mem_of_getElem? hy
     simp only [List.mem_cons,List.not_mem_nil,or_false] at hm
     rcases hm with rfl | rfl | rfl
     ·exact ⟨hg.1,hg.2.1⟩
     ·exact ⟨hg.2.2.1,hg.2.2.2⟩
     ·generalize t.Nodes[j].Lo+wr .i64 (d5-d6)=z
      unfold i64 wr
      rw [IntKind.wrap_i64]
      omega
    ·refine Pst.bind Pst.any fun _ _=>Pst.cond ?_ (Pst.cond ?_ (Pst.cond ?_ (Pst.cond ?_ (Pst.cond ?_ (Pst.cond ?_ ?_)))))
     ·refine Pst.bind Pst.any fun b _=>Pst.bind (P:=fun y=>y.1≠1) ?_ fun y hy=>Pst.ret (a2n hy)
      exact Pst.cond (Pst.bind Pst.any fun _ _=>Pst.bind Pst.any fun _ _=>Pst.cond (Pst.bind Pst.any fun _ _=>Pst.bind Pst.any fun _ _=>Pst.bind Pst.any fun _ _=>Pst.ret (by decide:(7:Int)≠1)) (Pst.ret (by decide:(7:Int)≠1))) (Pst.ret (by decide:(6:Int)≠1))
     ·exact Pst.bind (i4 _ _ _) fun r hr=>Pst.ret hr
     ·exact Pst.bind (i3 _ _ _) fun r hr=>Pst.ret hr
     ·exact Pst.bind Pst.any fun _ _=>Pst.bind Pst.any fun _ _=>Pst.bind (i2 _ _ _) fun r hr=>Pst.ret hr
     ·exact Pst.bind Pst.any fun _ _=>Pst.bind Pst.any fun _ _=>Pst.bind (i2 _ _ _) fun r hr=>Pst.bind (c9h t x _ _ hr) fun w hw=>Pst.ret hw
     ·refine Pst.bind (b07 _) fun r hr=>Pst.bind (P:=IOK) ?_ fun w hw=>Pst.ret hw
      unfold a3D
      exact Pst.bind Pst.any fun _ _=>Pst.ret (c1x rfl rfl hr)
     ·exact Pst.bind (c8M n _ _) fun r hr=>Pst.ret hr
   ·show Pst (X5 n (z7 n).1 (z7 n).2.1 (z7 n).2.2.1 (z7 n).2.2.2 s t x h) V1
    unfold X5
    exact Pst.bind Pst.any fun _ _=>Pst.bind Pst.any fun _ _=>Pst.bind (b72 _ _ _) fun r hr=>Pst.cond (Pst.ret (a2n (by decide:(5:Int)≠1))) (Pst.ret (a2n hr))
   ·show Pst (a0G n (z7 n).1 (z7 n).2.1 (z7 n).2.2.1 (z7 n).2.2.2 s t x h) V1
    unfold a0G
    exact Pst.bind Pst.any fun _ _=>Pst.bind Pst.any fun _ _=>Pst.bind Pst.any fun _ _=>Pst.bind (c45 _ _) fun r hr=>Pst.cond (Pst.ret (a2n (by decide:(5:Int)≠1))) (Pst.ret (a2n hr))
end Go.Pl
end
section
namespace Go.Pl
open Go Go.RowKit Go.Sx Go.Qx
theorem c41 (l:List (List Int))(hl:l.length<=1000):a5J l=some (l.all fun x=>!decide (80<(x.length:Int))):=by
 have l1:=X3 (step:=a2Q l) l (fun x=>!decide (80<(x.length:Int))) (fun i=>(i:Int)) () false (fun i x hx=>by
  have hi:i<l.length:=(List.getElem?_eq_some_iff.1 hx).1
  unfold a2Q
  rw [Z3 hi,j6 hx]
  simp only [cond_true,Option.bind_some,Z4]
  rw [j9 i (by omega)]
  cases decide (80<(x.length:Int))<;>rfl) (by
  unfold a2Q
  simp)
 have l1':iter (a2Q l) (l.length+1) 0=_:=l1
 unfold a5J
 rw [Z8,l1']
 cases l.all fun x=>!decide (80<(x.length:Int))<;>rfl
structure DT (T:Api_Type):Prop where
 gt:GT T
 one:1<=T.Nodes.length
 len:T.Nodes.length<=7
 root:inR T.Nodes.length T.Root=true
structure DV (v:Val):Prop where
 ok:vOK v=true
 bulk:k7 v<=1638300
 int:IOK v
theorem os0 (L:List Int):OS L (Semtypebase_Source.mk L 0):=⟨rfl,by show (0:Int)<=0; omega,by show (0:Int)<=_; omega⟩
theorem d1j (l:List Int)(hl:l.length<=4194304):∃ T,DT T/\∀ m:List Int,m.length<=4194304->∀ n,10000000<=n->∃ v,a5K n l m=some (T,v)/\DV v:=by
 obtain ⟨x,t1,e1,h1,x0,x1⟩:=Y5 hl (os0 l) (n:=7) (by omega) (by omega)
 obtain ⟨x,rfl⟩:=a9E x0
 obtain ⟨ns,t2,e2,h2,hlen,hns⟩:=d00 hl h1 (x+1) (by omega) (by omega)
 have hgt:GT (Api_Type.mk ns 0):=⟨by show ns.length<=10; omega,by show GNs ns.length ns; rw [hlen]; exact hns⟩
 have hDT:DT (Api_Type.mk ns 0):=⟨hgt,by show 1<=ns.length; omega,by show ns.length<=7; omega,b3t (show (0:Int)<=0 by omega) (by show (0:Int)<(ns.length:Int); omega)⟩
 refine ⟨_,hDT,fun m hm n hn=>?_⟩
 obtain ⟨k,t3,e3,h3,k0,k1⟩:=Y5 hm (os0 m) (n:=(ns.length:Int)) (by omega) (by omega)
 obtain ⟨k,rfl⟩:=a9E k0
 obtain ⟨v,u,e4,_,hv,hb⟩:=d25 hm hgt n hn 4 (Nat.le_refl 4) k t3 (by show k<ns.length; omega) h3
 have hI:IOK v:=(c39 hgt n).1 t3 (k:Int) ((4:Nat):Int) (v,u) e4
 refine ⟨v,?_,hv,hb,hI⟩
 unfold a5K
 rw [e1]
 simp only [Option.bind_some]
 rw [show wr .i64 (1+(x:Int))=((x+1:Nat):Int) by rw [Z4,Q7 (by omega) (by omega)]; omega]
 rw [show a1S t1 ((x+1:Nat):Int)=some (Api_Type.mk ns 0,t2) from e2]
 simp only [Option.bind_some]
 rw [e3]
 simp only [Option.bind_some]
 have e4':a3e n t3 (Api_Type.mk ns 0) (k:Int) 4=some (v,u):=e4
 rw [e4']
 rfl
section
variable {L:List Int}{T:Api_Type}
theorem d24 (hL:L.length<=4194304)(hT:DT T){s:Semtypebase_Source}(hs:OS L s)(m:Nat)(hm:m<=4) :
 ∃ a t,iter (a06 T) ((m:Int).toNat+2) ((m:Int),s,([],[],false))=some (t,(a,[],false))/\OS L t/\a.length=m/\a.all (inR T.Nodes.length)=true:=by
 have h1:=hT.one
 have h7:=hT.len
 obtain ⟨g,u,e,hu,i1,i2⟩:=a7l (γ:=List Int) (L:=L) (step:=a06 T) (fun g n s=>(n,s,(g,([]:List Int),false))) (fun g s=>(s,(g,([]:List Int),false))) (fun j g=>g.length=j/\g.all (inR T.Nodes.length)=true) m
  (fun j n g s hj hn hI hs=>by
    obtain ⟨x,t,e,ht,x0,x1⟩:=Y5 hL hs (n:=(T.Nodes.length:Int)) (by omega) (by omega)
    refine ⟨g++[x],t,?_,ht,by simp [hI.1],by rw [List.all_append,hI.2]; simp only [List.all_cons,List.all_nil,Bool.and_true,Bool.true_and]; exact b3t x0 x1⟩
    unfold a06
    simp only
    rw [show decide (0<((n+1:Nat):Int))=true from decide_eq_true (by omega),e]
    simp only [cond_true,Option.bind_some]
    rw [Z9 (by simp only [List.length_cons,List.length_nil]; have:=hI.1; omega),show wr .i64 (((n+1:Nat):Int)-1)=(n:Int) by rw [Z4,Q7 (by omega) (by omega)]; omega]
    rfl) (fun g s=>by
    unfold a06
    rfl) m 0 ((m:Int).toNat+2) [] s (by omega) (by omega) ⟨rfl,rfl⟩ hs
 exact ⟨g,u,e,hu,by omega,i2⟩
theorem d2U (hL:L.length<=4194304)(hT:DT T){s:Semtypebase_Source}(hs:OS L s)(p:List Int)(m:Nat)(hm:m<=4) :
 ∃ a t,iter (a08 T) ((m:Int).toNat+2) ((m:Int),s,(p,[],false))=some (t,(p,a,false))/\OS L t/\a.length=m/\a.all (inR T.Nodes.length)=true:=by
 have h1:=hT.one
 have h7:=hT.len
 obtain ⟨g,u,e,hu,i1,i2⟩:=a7l (γ:=List Int) (L:=L) (step:=a08 T) (fun g n s=>(n,s,(p,g,false))) (fun g s=>(s,(p,g,false))) (fun j g=>g.length=j/\g.all (inR T.Nodes.length)=true) m
  (fun j n g s hj hn hI hs=>by
    obtain ⟨x,t,e,ht,x0,x1⟩:=Y5 hL hs (n:=(T.Nodes.length:Int)) (by omega) (by omega)
    refine ⟨g++[x],t,?_,ht,by simp [hI.1],by rw [List.all_append,hI.2]; simp only [List.all_cons,List.all_nil,Bool.and_true,Bool.true_and]; exact b3t x0 x1⟩
    unfold a08
    simp only
    rw [show decide (0<((n+1:Nat):Int))=true from decide_eq_true (by omega),e]
    simp only [cond_true,Option.bind_some]
    rw [Z9 (by simp only [List.length_cons,List.length_nil]; have:=hI.1; omega),show wr .i64 (((n+1:Nat):Int)-1)=(n:Int) by rw [Z4,Q7 (by omega) (by omega)]; omega]
    rfl) (fun g s=>by
    unfold a08
    rfl) m 0 ((m:Int).toNat+2) [] s (by omega) (by omega) ⟨rfl,rfl⟩ hs
 exact ⟨g,u,e,hu,by omega,i2⟩
structure DG (T:Api_Type)(g:Api_Goal):Prop where
 ix:gIn T.Nodes.length g=true
 pos:g.Pos.length<=2
 neg:g.Neg.length<=2
 sp:srt g.Pos=g.Pos
 sn:srt g.Neg=g.Neg
theorem d0T (hL:L.length<=4194304)(hT:DT T){s:Semtypebase_Source}(hs:OS L s):∃ g t,a3j s T=some (g,t)/\OS L t/\DG T g:=by
 obtain ⟨x,t1,e1,h1,x0,x1⟩:=Y5 hL hs (n:=2) (by omega) (by omega)
 obtain ⟨x,rfl⟩:=a9E x0
 obtain ⟨a,t2,e2,h2,la,ia⟩:=d24 hL hT h1 (x+1) (by omega)
 obtain ⟨y,t3,e3,h3,y0,y1⟩:=Y5 hL h2 (n:=3) (by omega) (by omega)
 obtain ⟨y,rfl⟩:=a9E y0
 obtain ⟨b,t4,e4,h4,lb,ib⟩:=d2U hL hT h3 a y (by omega)
 obtain ⟨z,t5,e5,h5,z0,z1⟩:=Y5 hL h4 (n:=8) (by omega) (by omega)
 have sa:=b2y a
 have sb:=b2y b
 refine ⟨Api_Goal.mk (srt a) (srt b) (z==1),t5,?_,h5,?_,by show (srt a).length<=2; omega,by show (srt b).length<=2; omega,b90 a,b90 b⟩
 ·unfold a3j
  rw [e1]
  simp only [Option.bind_some]
  rw [show wr .i64 (1+(x:Int))=((x+1:Nat):Int) by rw [Z4,Q7 (by omega) (by omega)]; omega,e2]
  simp only [Option.bind_some]
  rw [e3]
  simp only [Option.bind_some]
  rw [e4]
  simp only [Option.bind_some]
  rw [e5]
  simp only [Option.bind_some]
  rw [c2H a b _ (by omega) (by omega)]
  rfl
 ·show gIn T.Nodes.length (Api_Goal.mk (srt a) (srt b) (z==1))=true
  unfold gIn
  simp only [b6r,ia,ib,Bool.and_self]
end
end Go.Pl
end
section
namespace Go.Pl
open Go Go.RowKit Go.Sx Go.Qx
end Go.Pl
end
section
namespace Go.Pl
open Go Go.RowKit Go.Sx Go.Qx
def d3K:List Api_TypeNode:=[b3B 16 [1,2],Api_TypeNode.mk 3 0 9 (⟨#[]⟩:ByteArray) ([]:List Int) ([]:List Api_Field) (0,0),b3B 9 []]
def b5o:Api_Type:=Api_Type.mk d3K 0
theorem b3c:GT b5o:=by
 refine ⟨by decide,fun i x hx=>?_⟩
 match i,hx with
 | 0,hx =>
   cases hx
   exact b0G (l:=[1,2]) (by decide) (by decide) (by decide) (fun _ x hx=>by
    simp only [List.mem_cons,List.not_mem_nil,or_false] at hx
    rcases hx with rfl | rfl<;>decide)
 | 1,hx =>
   cases hx
   exact c9u (by decide) (by decide)
 | 2,hx =>
   cases hx
   exact b9i (by decide)
 | i+3,hx=>simp [b5o,d3K] at hx
theorem d3m (n:Int):Z7 b5o (Val.mk 1 n (⟨#[]⟩:ByteArray) [] [] [] []) 0=(decide (0<=n)&&decide (n<=9)):=by
 have ho:=c3w n
 have hb:k7 (Val.mk 1 n (⟨#[]⟩:ByteArray) [] [] [] [])<=4194304:=by rw [V0]; simp [a2R,k8,w8,Z0]
 have e0:=b0w b3c (k:=0) (x:=b3B 16 [1,2]) rfl ho hb
 have e1:=b0w b3c (k:=1) (x:=Api_TypeNode.mk 3 0 9 (⟨#[]⟩:ByteArray) ([]:List Int) ([]:List Api_Field) (0,0)) rfl ho hb
 have e2:=b0w b3c (k:=2) (x:=b3B 9 []) rfl ho hb
 have e0':Z7 b5o (Val.mk 1 n (⟨#[]⟩:ByteArray) [] [] [] []) 0=_:=e0
 have e1':Z7 b5o (Val.mk 1 n (⟨#[]⟩:ByteArray) [] [] [] []) 1=_:=e1
 have e2':Z7 b5o (Val.mk 1 n (⟨#[]⟩:ByteArray) [] [] [] []) 2=_:=e2
 rw [e0']
 unfold unM
 simp [b3B,e1',e2']
 unfold unM
 simp [Val.Kind,Val.Int_]
 rfl
theorem c7q (n:Int)(h:i64 n):vOK (Val.mk 1 n (⟨#[]⟩:ByteArray) [] [] [] [])=true/\k7 (Val.mk 1 n (⟨#[]⟩:ByteArray) [] [] [] [])<=100/\IOK (Val.mk 1 n (⟨#[]⟩:ByteArray) [] [] [] []) :=
 ⟨c3w n,by rw [V0]; simp [a2R,k8,w8,Z0],fun _=>h⟩
theorem c9B (n:Int):gA b5o (Val.mk 1 n (⟨#[]⟩:ByteArray) [] [] [] []) (g0 [0] [])=(decide (0<=n)&&decide (n<=9)):=by
 unfold gA c1r gM
 simp [d3m]
 intro _ _
 decide
theorem c9g:∃ c,∀ n,c<=n->a4f n=some true:=by
 have hr:inR b5o.Nodes.length b5o.Root=true:=by decide
 obtain ⟨c,out,hE,hL⟩:=d07 b3c (by decide) hr (g0 [0] []) (by decide) (by decide)
 refine ⟨max c 200000000,fun n hn=>?_⟩
 obtain ⟨ls,e1,hZ⟩:=hL n (by omega)
 obtain ⟨a1,a2,a3⟩:=c7q 3 ⟨by decide,by decide⟩
 obtain ⟨b1,b2,b3⟩:=c7q 10 ⟨by decide,by decide⟩
 have hc:=d0u b3c a1 (by omega) a3 (by decide) hE hZ
 rw [c9B] at hc
 have hc':ls.any (b2D b5o (Val.mk 1 3 (⟨#[]⟩:ByteArray) [] [] [] []))=true:=hc
 have hpos:decide (0<(ls.length:Int))=true:=by
  cases ls with
  | nil=>cases hc'
  | cons x r=>simp
 have g3:=b2j b3c hr a1 (by omega) (g0 [0] []) (by decide) (by decide) n (by omega)
 have g10:=b2j b3c hr b1 (by omega) (g0 [0] []) (by decide) (by decide) n (by omega)
 rw [c9B] at g3 g10
 have hN:a4S (Api_Goal.mk ([2,1,2]:List Int) ([]:List Int) false)=some (Api_Goal.mk (srt [2,1,2]) (srt []) false):=by
  unfold a4S
  rw [b4j [2,1,2] [] false (by decide) (by decide)]
  rfl
 unfold a4f
 have e1':a8p n (Api_Type.mk ([Api_TypeNode.mk 16 0 0 (⟨#[]⟩:ByteArray) ([1,2]:List Int) ([]:List Api_Field) (0,0),Api_TypeNode.mk 3 0 9 (⟨#[]⟩:ByteArray) ([]:List Int) ([]:List Api_Field) (0,0),Api_TypeNode.mk 9 0 0 (⟨#[]⟩:ByteArray) ([]:List Int) ([]:List Api_Field) (0,0)]:List Api_TypeNode) 0) (Api_Goal.mk ([0]:List Int) ([]:List Int) false)=some ls:=e1
 rw [e1']
 simp only [Option.bind_some]
 rw [hpos]
 have v3:a11 3=some (Val.mk 1 3 (⟨#[]⟩:ByteArray) [] [] [] []):=rfl
 have v10:a11 10=some (Val.mk 1 10 (⟨#[]⟩:ByteArray) [] [] [] []):=rfl
 rw [v3,v10]
 simp only [cond_true,Option.bind_some,K6]
 have g3':a2V n (Val.mk 1 3 (⟨#[]⟩:ByteArray) [] [] [] []) (Api_Type.mk ([Api_TypeNode.mk 16 0 0 (⟨#[]⟩:ByteArray) ([1,2]:List Int) ([]:List Api_Field) (0,0),Api_TypeNode.mk 3 0 9 (⟨#[]⟩:ByteArray) ([]:List Int) ([]:List Api_Field) (0,0),Api_TypeNode.mk 9 0 0 (⟨#[]⟩:ByteArray) ([]:List Int) ([]:List Api_Field) (0,0)]:List Api_TypeNode) 0) (Api_Goal.mk ([0]:List Int) ([]:List Int) false)=some true:=g3
 have g10':a2V n (Val.mk 1 10 (⟨#[]⟩:ByteArray) [] [] [] []) (Api_Type.mk ([Api_TypeNode.mk 16 0 0 (⟨#[]⟩:ByteArray) ([1,2]:List Int) ([]:List Api_Field) (0,0),Api_TypeNode.mk 3 0 9 (⟨#[]⟩:ByteArray) ([]:List Int) ([]:List Api_Field) (0,0),Api_TypeNode.mk 9 0 0 (⟨#[]⟩:ByteArray) ([]:List Int) ([]:List Api_Field) (0,0)]:List Api_TypeNode) 0) (Api_Goal.mk ([0]:List Int) ([]:List Int) false)=some false:=g10
 rw [g3',g10',hN]
 rfl
end Go.Pl
end
section
namespace Go.Pl
open Go Go.RowKit Go.Sx Go.Qx
theorem c3h (d t p q:List Int)(b:Bool)(h1:d.length<=4194304)(h2:t.length<=4194304):∃ n,a1b n d t p q b=some true:=by
 obtain ⟨c,hc⟩:=c9g
 refine ⟨max c 200000000,?_⟩
 have ha:=hc (max c 200000000) (by omega)
 generalize hn:max c 200000000=n at ha
 have hn2:200000000<=n:=by omega
 unfold a1b
 rw [c41 _ (by simp),ha]
 simp only [Option.bind_some]
 generalize (List.all [d,t] fun x=>!decide (80<(x.length:Int)))=s
 cases s with
 | false=>rfl
 | true =>
   simp only [Bool.not_true,cond_false,Option.bind_some]
   by_cases hp:6<(p.length:Int)
   ·rw [decide_eq_true hp]; rfl
   by_cases hq:6<(q.length:Int)
   ·rw [decide_eq_false hp,decide_eq_true hq]; rfl
   rw [decide_eq_false hp,decide_eq_false hq]
   simp only [cond_false,Option.bind_some]
   obtain ⟨T,hT,hv⟩:=d1j d h1
   obtain ⟨v,e1,hV⟩:=hv t h2 n (by omega)
   rw [e1]
   simp only [Option.bind_some]
   rw [Z9 (by omega),Z9 (by omega)]
   simp only [Option.bind_some]
   obtain ⟨g,u,e2,_,hG⟩:=d0T (L:=q++p) (by rw [List.length_append]; omega) hT (os0 _)
   have hb:=hV.bulk
   have g1:=hG.pos
   have g2:=hG.neg
   rw [e2]
   simp only [Option.bind_some]
   have hN:a4S (Api_Goal.mk p q b)=some (Api_Goal.mk (srt p) (srt q) b):=by
    unfold a4S
    rw [b4j p q b (by omega) (by omega)]
    rfl
   have s1:=b2y p
   have s2:=b2y q
   rw [hN,b2j hT.gt hT.root hV.ok (by omega) (Api_Goal.mk p q b) (by show p.length<=1000000; omega) (by show q.length<=1000000; omega) n hn2,c0U hT.gt hT.root hV.ok (by omega) (Api_Goal.mk p q b) (by show p.length<=1000000; omega) (by show q.length<=1000000; omega) n hn2,
    b2j hT.gt hT.root hV.ok (by omega) g (by omega) (by omega) n hn2,c0U hT.gt hT.root hV.ok (by omega) g (by omega) (by omega) n hn2,c2H p q b (by omega) (by omega)]
   simp only [Option.bind_some,beq_self_eq_true,cond_true]
   rw [c82 _ _ (by show (srt p).length<=4194304; omega) (by show (srt q).length<=4194304; omega)]
   simp
theorem c0Z (d t p q:List Int)(b:Bool):∃ n,a1b n d t p q b=some true:=by
 by_cases h:d.length<=80/\t.length<=80
 ·exact c3h d t p q b (by have:=h.1; omega) (by have:=h.2; omega)
 ·obtain ⟨c,hc⟩:=c9g
  refine ⟨c,?_⟩
  have ha:=hc c (Nat.le_refl _)
  have hs:(List.all [d,t] fun x:List Int=>!decide (80<(x.length:Int)))=false:=by
   rw [Bool.eq_false_iff]
   intro ha
   simp at ha
   omega
  unfold a1b
  rw [c41 _ (by simp),hs]
  simp only [Option.bind_some,Bool.not_false,cond_true,K6]
  exact ha
end Go.Pl
end
section
namespace Go.Proofs
open Go.Shelf
set_option maxRecDepth 100000
def Tryz.lay231_ren:Go.Shelf.Ren:=⟨fun | 6=>231 | 15=>140 | 14=>248 | 28=>194 | 29=>195 | 20=>262 | 21=>263 | 22=>264 | 23=>265 | 24=>266 | 25=>267 | 26=>268 | 27=>269 | 46=>272 | 47=>226 | 48=>227 | 49=>273 | 50=>274 | 57=>275 | n=>n,fun | 22=>49 | 24=>126 | 25=>237 | 3=>3 | 39=>165 | 0=>0 | 53=>204 | 55=>206 | 4=>4 | 46=>196 | 45=>195 | 50=>201 | 5=>5 | 9=>9 | 66=>230 | 70=>234 | 76=>245 | 77=>246 | n=>n,fun | n=>n⟩
theorem Tryz.lay231:Go.Proofs.SlLaysF0.n6 Tryz.prog Tryz.lay231_ren:={
 mixed:=by kernel_rfl
 f6:=⟨Tryz.f231.name,by decide,Tryz.func231.trans (congrArg some (by kernel_rfl))⟩
 f14:=⟨Tryz.f248.name,by decide,Tryz.func248.trans (congrArg some (by kernel_rfl))⟩
 f15:=Tryz.func140.trans (congrArg some (by kernel_rfl))
 f20:=⟨Tryz.f262.name,by decide,Tryz.func262.trans (congrArg some (by kernel_rfl))⟩
 f21:=⟨Tryz.f263.name,by decide,Tryz.func263.trans (congrArg some (by kernel_rfl))⟩
 f22:=⟨Tryz.f264.name,by decide,Tryz.func264.trans (congrArg some (by kernel_rfl))⟩
 f23:=⟨Tryz.f265.name,by decide,Tryz.func265.trans (congrArg some (by kernel_rfl))⟩
 f24:=⟨Tryz.f266.name,by decide,Tryz.func266.trans (congrArg some (by kernel_rfl))⟩
 f25:=⟨Tryz.f267.name,by decide,Tryz.func267.trans (congrArg some (by kernel_rfl))⟩
 f26:=⟨Tryz.f268.name,by decide,Tryz.func268.trans (congrArg some (by kernel_rfl))⟩
 f27:=⟨Tryz.f269.name,by decide,Tryz.func269.trans (congrArg some (by kernel_rfl))⟩
 f28:=Tryz.func194.trans (congrArg some (by kernel_rfl))
 f29:=Tryz.func195.trans (congrArg some (by kernel_rfl))
 f46:=⟨Tryz.f272.name,by decide,Tryz.func272.trans (congrArg some (by kernel_rfl))⟩
 f47:=Tryz.func226.trans (congrArg some (by kernel_rfl))
 f48:=Tryz.func227.trans (congrArg some (by kernel_rfl))
 f49:=⟨Tryz.f273.name,by decide,Tryz.func273.trans (congrArg some (by kernel_rfl))⟩
 f50:=⟨Tryz.f274.name,by decide,Tryz.func274.trans (congrArg some (by kernel_rfl))⟩
 f57:=⟨Tryz.f275.name,by decide,Tryz.func275.trans (congrArg some (by kernel_rfl))⟩
 t0:=Tryz.underlying0
 a0:=Tryz.isAgg0
 z0:=Tryz.sizeOf0
 v0:=Tryz.zeroValue0
 t3:=Tryz.underlying3
 a3:=Tryz.isAgg3
 z3:=Tryz.sizeOf3
 v3:=Tryz.zeroValue3
 t4:=Tryz.underlying4
 a4:=Tryz.isAgg4
 z4:=Tryz.sizeOf4
 v4:=Tryz.zeroValue4
 t5:=Tryz.underlying5
 a5:=Tryz.isAgg5
 z5:=Tryz.sizeOf5
 v5:=Tryz.zeroValue5
 t9:=Tryz.underlying9
 a9:=Tryz.isAgg9
 z9:=Tryz.sizeOf9
 v9:=Tryz.zeroValue9
 t22:=Tryz.underlying49
 a22:=Tryz.isAgg49
 z22:=Tryz.sizeOf49
 v22:=Tryz.zeroValue49
 t25:=Tryz.underlying237
 a25:=Tryz.isAgg237
 z25:=Tryz.sizeOf237
 v25:=Tryz.zeroValue237
 t39:=Tryz.underlying165
 a39:=Tryz.isAgg165
 z39:=Tryz.sizeOf165
 v39:=Tryz.zeroValue165
 t45:=Tryz.underlying195
 a45:=Tryz.isAgg195
 z45:=Tryz.sizeOf195
 v45:=Tryz.zeroValue195
 t46:=Tryz.underlying196
 a46:=Tryz.isAgg196
 z46:=Tryz.sizeOf196
 v46:=Tryz.zeroValue196
 t50:=Tryz.underlying201
 a50:=Tryz.isAgg201
 z50:=Tryz.sizeOf201
 v50:=Tryz.zeroValue201
 t53:=Tryz.underlying204
 a53:=Tryz.isAgg204
 z53:=Tryz.sizeOf204
 v53:=Tryz.zeroValue204
 t55:=Tryz.underlying206
 a55:=Tryz.isAgg206
 z55:=Tryz.sizeOf206
 v55:=Tryz.zeroValue206
 t66:=Tryz.underlying230
 a66:=Tryz.isAgg230
 z66:=Tryz.sizeOf230
 v66:=Tryz.zeroValue230
 t70:=Tryz.underlying234
 a70:=Tryz.isAgg234
 z70:=Tryz.sizeOf234
 v70:=Tryz.zeroValue234
 t76:=Tryz.underlying245
 a76:=Tryz.isAgg245
 z76:=Tryz.sizeOf245
 v76:=Tryz.zeroValue245
 t77:=Tryz.underlying246
 a77:=Tryz.isAgg246
 z77:=Tryz.sizeOf246
 v77:=Tryz.zeroValue246 }
def Tryz.lay137_ren:Go.Shelf.Ren:=⟨fun | 171=>137 | 243=>184 | 246=>224 | 283=>243 | 284=>244 | 285=>245 | 286=>246 | 129=>195 | 317=>258 | 318=>259 | 319=>260 | 320=>261 | 337=>270 | 338=>271 | n=>n,fun | 3=>3 | 9=>9 | 2=>2 | 4=>4 | 171=>241 | 0=>0 | 53=>206 | 37=>154 | 5=>5 | 173=>243 | 212=>256 | 51=>204 | 20=>20 | 213=>257 | 46=>165 | 232=>265 | 233=>266 | n=>n,fun | 17=>1 | 18=>2 | 19=>3 | n=>n⟩
theorem Tryz.lay137:Go.Proofs.Lays.n171 Tryz.prog Tryz.lay137_ren:={
 mixed:=by kernel_rfl
 f129:=Tryz.func195.trans (congrArg some (by kernel_rfl))
 f171:=Tryz.func137.trans (congrArg some (by kernel_rfl))
 f243:=Tryz.func184.trans (congrArg some (by kernel_rfl))
 f246:=Tryz.func224.trans (congrArg some (by kernel_rfl))
 f283:=Tryz.func243.trans (congrArg some (by kernel_rfl))
 f284:=Tryz.func244.trans (congrArg some (by kernel_rfl))
 f285:=Tryz.func245.trans (congrArg some (by kernel_rfl))
 f286:=Tryz.func246.trans (congrArg some (by kernel_rfl))
 f317:=Tryz.func258.trans (congrArg some (by kernel_rfl))
 f318:=Tryz.func259.trans (congrArg some (by kernel_rfl))
 f319:=Tryz.func260.trans (congrArg some (by kernel_rfl))
 f320:=Tryz.func261.trans (congrArg some (by kernel_rfl))
 f337:=Tryz.func270.trans (congrArg some (by kernel_rfl))
 f338:=Tryz.func271.trans (congrArg some (by kernel_rfl))
 t0:=Tryz.underlying0
 a0:=Tryz.isAgg0
 z0:=Tryz.sizeOf0
 v0:=Tryz.zeroValue0
 t2:=Tryz.underlying2
 a2:=Tryz.isAgg2
 z2:=Tryz.sizeOf2
 v2:=Tryz.zeroValue2
 t3:=Tryz.underlying3
 a3:=Tryz.isAgg3
 z3:=Tryz.sizeOf3
 v3:=Tryz.zeroValue3
 t4:=Tryz.underlying4
 a4:=Tryz.isAgg4
 z4:=Tryz.sizeOf4
 v4:=Tryz.zeroValue4
 t5:=Tryz.underlying5
 a5:=Tryz.isAgg5
 z5:=Tryz.sizeOf5
 v5:=Tryz.zeroValue5
 t9:=Tryz.underlying9
 a9:=Tryz.isAgg9
 z9:=Tryz.sizeOf9
 v9:=Tryz.zeroValue9
 t20:=Tryz.underlying20
 a20:=Tryz.isAgg20
 z20:=Tryz.sizeOf20
 v20:=Tryz.zeroValue20
 t37:=Tryz.underlying154
 a37:=Tryz.isAgg154
 z37:=Tryz.sizeOf154
 v37:=Tryz.zeroValue154
 t46:=Tryz.underlying165
 a46:=Tryz.isAgg165
 z46:=Tryz.sizeOf165
 v46:=Tryz.zeroValue165
 t51:=Tryz.underlying204
 a51:=Tryz.isAgg204
 z51:=Tryz.sizeOf204
 v51:=Tryz.zeroValue204
 t53:=Tryz.underlying206
 a53:=Tryz.isAgg206
 z53:=Tryz.sizeOf206
 v53:=Tryz.zeroValue206
 t171:=Tryz.underlying241
 a171:=Tryz.isAgg241
 z171:=Tryz.sizeOf241
 v171:=Tryz.zeroValue241
 t173:=Tryz.underlying243
 a173:=Tryz.isAgg243
 z173:=Tryz.sizeOf243
 v173:=Tryz.zeroValue243
 t212:=Tryz.underlying256
 a212:=Tryz.isAgg256
 z212:=Tryz.sizeOf256
 v212:=Tryz.zeroValue256
 t213:=Tryz.underlying257
 a213:=Tryz.isAgg257
 z213:=Tryz.sizeOf257
 t232:=Tryz.underlying265
 a232:=Tryz.isAgg265
 z232:=Tryz.sizeOf265
 v232:=Tryz.zeroValue265
 t233:=Tryz.underlying266
 a233:=Tryz.isAgg266
 z233:=Tryz.sizeOf266
 v233:=Tryz.zeroValue266
 g17:=by kernel_rfl
 g18:=by kernel_rfl
 g19:=by kernel_rfl }
def Tryz.lay114_ren:Go.Shelf.Ren:=⟨fun | 189=>114 | 125=>140 | 257=>164 | 128=>194 | 129=>195 | 294=>206 | 295=>207 | 296=>208 | 297=>209 | 298=>210 | 299=>211 | 216=>212 | 300=>213 | 301=>214 | 328=>235 | 329=>226 | 330=>227 | 331=>236 | 332=>237 | 215=>238 | 343=>251 | n=>n,fun | 28=>22 | 3=>3 | 46=>165 | 0=>0 | 51=>204 | 53=>206 | 4=>4 | 183=>196 | 182=>195 | 131=>201 | 5=>5 | 9=>9 | 218=>230 | 222=>234 | 228=>245 | 229=>246 | n=>n,fun | n=>n⟩
theorem Tryz.lay114:Go.Proofs.Lays.n189 Tryz.prog Tryz.lay114_ren:={
 mixed:=by kernel_rfl
 f125:=Tryz.func140.trans (congrArg some (by kernel_rfl))
 f128:=Tryz.func194.trans (congrArg some (by kernel_rfl))
 f129:=Tryz.func195.trans (congrArg some (by kernel_rfl))
 f189:=Tryz.func114.trans (congrArg some (by kernel_rfl))
 f215:=Tryz.func238.trans (congrArg some (by kernel_rfl))
 f216:=Tryz.func212.trans (congrArg some (by kernel_rfl))
 f257:=Tryz.func164.trans (congrArg some (by kernel_rfl))
 f294:=Tryz.func206.trans (congrArg some (by kernel_rfl))
 f295:=Tryz.func207.trans (congrArg some (by kernel_rfl))
 f296:=Tryz.func208.trans (congrArg some (by kernel_rfl))
 f297:=Tryz.func209.trans (congrArg some (by kernel_rfl))
 f298:=Tryz.func210.trans (congrArg some (by kernel_rfl))
 f299:=Tryz.func211.trans (congrArg some (by kernel_rfl))
 f300:=Tryz.func213.trans (congrArg some (by kernel_rfl))
 f301:=Tryz.func214.trans (congrArg some (by kernel_rfl))
 f328:=Tryz.func235.trans (congrArg some (by kernel_rfl))
 f329:=Tryz.func226.trans (congrArg some (by kernel_rfl))
 f330:=Tryz.func227.trans (congrArg some (by kernel_rfl))
 f331:=Tryz.func236.trans (congrArg some (by kernel_rfl))
 f332:=Tryz.func237.trans (congrArg some (by kernel_rfl))
 f343:=Tryz.func251.trans (congrArg some (by kernel_rfl))
 t0:=Tryz.underlying0
 a0:=Tryz.isAgg0
 z0:=Tryz.sizeOf0
 v0:=Tryz.zeroValue0
 t3:=Tryz.underlying3
 a3:=Tryz.isAgg3
 z3:=Tryz.sizeOf3
 v3:=Tryz.zeroValue3
 t4:=Tryz.underlying4
 a4:=Tryz.isAgg4
 z4:=Tryz.sizeOf4
 v4:=Tryz.zeroValue4
 t5:=Tryz.underlying5
 a5:=Tryz.isAgg5
 z5:=Tryz.sizeOf5
 v5:=Tryz.zeroValue5
 t9:=Tryz.underlying9
 a9:=Tryz.isAgg9
 z9:=Tryz.sizeOf9
 v9:=Tryz.zeroValue9
 t28:=Tryz.underlying22
 a28:=Tryz.isAgg22
 z28:=Tryz.sizeOf22
 v28:=Tryz.zeroValue22
 t46:=Tryz.underlying165
 a46:=Tryz.isAgg165
 z46:=Tryz.sizeOf165
 v46:=Tryz.zeroValue165
 t51:=Tryz.underlying204
 a51:=Tryz.isAgg204
 z51:=Tryz.sizeOf204
 v51:=Tryz.zeroValue204
 t53:=Tryz.underlying206
 a53:=Tryz.isAgg206
 z53:=Tryz.sizeOf206
 v53:=Tryz.zeroValue206
 t131:=Tryz.underlying201
 a131:=Tryz.isAgg201
 z131:=Tryz.sizeOf201
 v131:=Tryz.zeroValue201
 t182:=Tryz.underlying195
 a182:=Tryz.isAgg195
 z182:=Tryz.sizeOf195
 v182:=Tryz.zeroValue195
 t183:=Tryz.underlying196
 a183:=Tryz.isAgg196
 z183:=Tryz.sizeOf196
 v183:=Tryz.zeroValue196
 t218:=Tryz.underlying230
 a218:=Tryz.isAgg230
 z218:=Tryz.sizeOf230
 v218:=Tryz.zeroValue230
 t222:=Tryz.underlying234
 a222:=Tryz.isAgg234
 z222:=Tryz.sizeOf234
 v222:=Tryz.zeroValue234
 t228:=Tryz.underlying245
 a228:=Tryz.isAgg245
 z228:=Tryz.sizeOf245
 v228:=Tryz.zeroValue245
 t229:=Tryz.underlying246
 a229:=Tryz.isAgg246
 z229:=Tryz.sizeOf246
 v229:=Tryz.zeroValue246 }
def Tryz.lay76_ren:Go.Shelf.Ren:=⟨fun | 190=>76 | 125=>140 | 258=>139 | 128=>194 | 129=>195 | 302=>185 | 303=>186 | 304=>187 | 305=>188 | 306=>189 | 307=>190 | 308=>191 | 309=>192 | 310=>193 | 333=>225 | 329=>226 | 330=>227 | 334=>228 | 335=>229 | 336=>230 | 344=>247 | n=>n,fun | 31=>31 | 9=>9 | 3=>3 | 46=>165 | 0=>0 | 51=>204 | 53=>206 | 4=>4 | 183=>196 | 182=>195 | 131=>201 | 5=>5 | 218=>230 | 222=>234 | 228=>245 | 229=>246 | n=>n,fun | n=>n⟩
theorem Tryz.lay76:Go.Proofs.Lays.n190 Tryz.prog Tryz.lay76_ren:={
 mixed:=by kernel_rfl
 f125:=Tryz.func140.trans (congrArg some (by kernel_rfl))
 f128:=Tryz.func194.trans (congrArg some (by kernel_rfl))
 f129:=Tryz.func195.trans (congrArg some (by kernel_rfl))
 f190:=Tryz.func76.trans (congrArg some (by kernel_rfl))
 f258:=Tryz.func139.trans (congrArg some (by kernel_rfl))
 f302:=Tryz.func185.trans (congrArg some (by kernel_rfl))
 f303:=Tryz.func186.trans (congrArg some (by kernel_rfl))
 f304:=Tryz.func187.trans (congrArg some (by kernel_rfl))
 f305:=Tryz.func188.trans (congrArg some (by kernel_rfl))
 f306:=Tryz.func189.trans (congrArg some (by kernel_rfl))
 f307:=Tryz.func190.trans (congrArg some (by kernel_rfl))
 f308:=Tryz.func191.trans (congrArg some (by kernel_rfl))
 f309:=Tryz.func192.trans (congrArg some (by kernel_rfl))
 f310:=Tryz.func193.trans (congrArg some (by kernel_rfl))
 f329:=Tryz.func226.trans (congrArg some (by kernel_rfl))
 f330:=Tryz.func227.trans (congrArg some (by kernel_rfl))
 f333:=Tryz.func225.trans (congrArg some (by kernel_rfl))
 f334:=Tryz.func228.trans (congrArg some (by kernel_rfl))
 f335:=Tryz.func229.trans (congrArg some (by kernel_rfl))
 f336:=Tryz.func230.trans (congrArg some (by kernel_rfl))
 f344:=Tryz.func247.trans (congrArg some (by kernel_rfl))
 t0:=Tryz.underlying0
 a0:=Tryz.isAgg0
 z0:=Tryz.sizeOf0
 v0:=Tryz.zeroValue0
 t3:=Tryz.underlying3
 a3:=Tryz.isAgg3
 z3:=Tryz.sizeOf3
 v3:=Tryz.zeroValue3
 t4:=Tryz.underlying4
 a4:=Tryz.isAgg4
 z4:=Tryz.sizeOf4
 v4:=Tryz.zeroValue4
 t5:=Tryz.underlying5
 a5:=Tryz.isAgg5
 z5:=Tryz.sizeOf5
 v5:=Tryz.zeroValue5
 t9:=Tryz.underlying9
 a9:=Tryz.isAgg9
 z9:=Tryz.sizeOf9
 v9:=Tryz.zeroValue9
 t31:=Tryz.underlying31
 a31:=Tryz.isAgg31
 z31:=Tryz.sizeOf31
 v31:=Tryz.zeroValue31
 t46:=Tryz.underlying165
 a46:=Tryz.isAgg165
 z46:=Tryz.sizeOf165
 v46:=Tryz.zeroValue165
 t51:=Tryz.underlying204
 a51:=Tryz.isAgg204
 z51:=Tryz.sizeOf204
 v51:=Tryz.zeroValue204
 t53:=Tryz.underlying206
 a53:=Tryz.isAgg206
 z53:=Tryz.sizeOf206
 v53:=Tryz.zeroValue206
 t131:=Tryz.underlying201
 a131:=Tryz.isAgg201
 z131:=Tryz.sizeOf201
 v131:=Tryz.zeroValue201
 t182:=Tryz.underlying195
 a182:=Tryz.isAgg195
 z182:=Tryz.sizeOf195
 v182:=Tryz.zeroValue195
 t183:=Tryz.underlying196
 a183:=Tryz.isAgg196
 z183:=Tryz.sizeOf196
 v183:=Tryz.zeroValue196
 t218:=Tryz.underlying230
 a218:=Tryz.isAgg230
 z218:=Tryz.sizeOf230
 v218:=Tryz.zeroValue230
 t222:=Tryz.underlying234
 a222:=Tryz.isAgg234
 z222:=Tryz.sizeOf234
 v222:=Tryz.zeroValue234
 t228:=Tryz.underlying245
 a228:=Tryz.isAgg245
 z228:=Tryz.sizeOf245
 v228:=Tryz.zeroValue245
 t229:=Tryz.underlying246
 a229:=Tryz.isAgg246
 z229:=Tryz.sizeOf246
 v229:=Tryz.zeroValue246 }
end Go.Proofs
end
section
namespace Go.Qx
open Go Go.RowKit Go.Sx
set_option maxRecDepth 100000
abbrev b9j (v:Api_Field):Key×Int×Bool:=(v.Key_,v.Node,v.Optional)
abbrev c5V (x:Key×Int×Bool):Api_Field:=⟨x.1,x.2.1,x.2.2⟩
@[reducible] def a5R:Rp Api_Field:=a8A b9j (J6 (rpKey) (J6 (rpK .i64) (rpBool)))
abbrev b4l (v:Api_TypeNode):Int×Int×Int×ByteArray×(List Int)×(List Api_Field)×(Int×Int):=(v.Kind,v.Lo,v.Hi,v.Text,v.Kids,v.Fields,v.Rest)
abbrev c2I (x:Int×Int×Int×ByteArray×(List Int)×(List Api_Field)×(Int×Int)):Api_TypeNode:=⟨x.1,x.2.1,x.2.2.1,x.2.2.2.1,x.2.2.2.2.1,x.2.2.2.2.2.1,x.2.2.2.2.2.2⟩
@[reducible] def a3Y:Rp Api_TypeNode:=a8A b4l (J6 (rpK .i64) (J6 (rpK .i64) (J6 (rpK .i64) (J6 (rpStr) (J6 (@rpList _ (rpK .i64)) (J6 (@rpList _ (a5R)) (J6 (rpK .i64) (rpK .i64))))))))
abbrev c0P (v:Api_Type):(List Api_TypeNode)×Int:=(v.Nodes,v.Root)
abbrev c6K (x:(List Api_TypeNode)×Int):Api_Type:=⟨x.1,x.2⟩
@[reducible] def b43:Rp Api_Type:=a8A c0P (J6 (@rpList _ (a3Y)) (rpK .i64))
abbrev c0S (v:Api_Goal):(List Int)×(List Int)×Bool:=(v.Pos,v.Neg,v.Lists)
abbrev c6O (x:(List Int)×(List Int)×Bool):Api_Goal:=⟨x.1,x.2.1,x.2.2⟩
@[reducible] def b5E:Rp Api_Goal:=a8A c0S (J6 (@rpList _ (rpK .i64)) (J6 (@rpList _ (rpK .i64)) (rpBool)))
abbrev a8X (v:Semtypebase_Source):(List Int)×Int:=(v.L,v.At)
abbrev b6l (x:(List Int)×Int):Semtypebase_Source:=⟨x.1,x.2⟩
@[reducible] def a6i:Rp Semtypebase_Source:=a8A a8X (J6 (@rpList _ (rpK .i64)) (rpK .i64))
abbrev b84 (v:Api_Names):Bool×(List ByteArray):=(v.Cofinite,v.List_)
abbrev c5m (x:Bool×(List ByteArray)):Api_Names:=⟨x.1,x.2⟩
@[reducible] def a4I:Rp Api_Names:=a8A b84 (J6 (rpBool) (@rpList _ (rpStr)))
abbrev b9E (v:Api_Range):Int×Int:=(v.Lo,v.Hi)
abbrev c5g (x:Int×Int):Api_Range:=⟨x.1,x.2⟩
@[reducible] def a5V:Rp Api_Range:=a8A b9E (J6 (rpK .i64) (rpK .i64))
abbrev c0V (v:Api_Line):Int×Int×(List Api_Range)×Api_Names×(List Int)×(List Int)×(List ByteArray)×(List ByteArray):=(v.Kind,v.Arity,v.Ints,v.Names,v.Pos,v.Neg,v.Vars,v.NotVars)
abbrev c61 (x:Int×Int×(List Api_Range)×Api_Names×(List Int)×(List Int)×(List ByteArray)×(List ByteArray)):Api_Line:=⟨x.1,x.2.1,x.2.2.1,x.2.2.2.1,x.2.2.2.2.1,x.2.2.2.2.2.1,x.2.2.2.2.2.2.1,x.2.2.2.2.2.2.2⟩
@[reducible] def b4J:Rp Api_Line:=a8A c0V (J6 (rpK .i64) (J6 (rpK .i64) (J6 (@rpList _ (a5V)) (J6 (a4I) (J6 (@rpList _ (rpK .i64)) (J6 (@rpList _ (rpK .i64)) (J6 (@rpList _ (rpStr)) (@rpList _ (rpStr)))))))))
abbrev b8Q (v:Core_Sort):Int×Int:=(v.Kind,v.Arity)
abbrev c44 (x:Int×Int):Core_Sort:=⟨x.1,x.2⟩
@[reducible] def b3s:Rp Core_Sort:=a8A b8Q (J6 (rpK .i64) (rpK .i64))
abbrev b9k (v:Core_pair):(List Int)×(List Int)×(List Int)×(List Int):=(v.pos,v.neg,v.finalPos,v.finalNeg)
abbrev c6t (x:(List Int)×(List Int)×(List Int)×(List Int)):Core_pair:=⟨x.1,x.2.1,x.2.2.1,x.2.2.2⟩
@[reducible] def b3z:Rp Core_pair:=a8A b9k (J6 (@rpList _ (rpK .i64)) (J6 (@rpList _ (rpK .i64)) (J6 (@rpList _ (rpK .i64)) (@rpList _ (rpK .i64)))))
abbrev b73 (v:Value_used):Bool×Bool×Bool×Bool×Bool:=(v.number,v.text_,v.kids,v.keys,v.entries)
abbrev c4r (x:Bool×Bool×Bool×Bool×Bool):Value_used:=⟨x.1,x.2.1,x.2.2.1,x.2.2.2.1,x.2.2.2.2⟩
@[reducible] def b1H:Rp Value_used:=a8A b73 (J6 (rpBool) (J6 (rpBool) (J6 (rpBool) (J6 (rpBool) (rpBool)))))
abbrev b03 (v:Literals_normal):Api_Names:=v.Names
abbrev b9K (x:Api_Names):Literals_normal:=⟨x⟩
@[reducible] def a7F:Rp Literals_normal:=a8A b03 (a4I)
def tyL:List TE:=[⟨2,Int,rpK .i64⟩,
 ⟨3,Int,rpK .i64⟩,
 ⟨4,Bool,rpBool⟩,
 ⟨9,ByteArray,rpStr⟩,
 ⟨22,List Int,@rpList _ (rpK .i64)⟩,
 ⟨25,List Api_TypeNode,@rpList _ (a3Y)⟩,
 ⟨27,Api_Type,b43⟩,
 ⟨28,List Val,@rpList _ (rpVal)⟩,
 ⟨29,List Key,@rpList _ (rpKey)⟩,
 ⟨30,List Ent,@rpList _ (rpEnt)⟩,
 ⟨31,List ByteArray,@rpList _ (rpStr)⟩,
 ⟨33,Val,rpVal⟩,
 ⟨37,Api_Goal,b5E⟩,
 ⟨40,Semtypebase_Source,a6i⟩,
 ⟨49,List Api_Range,@rpList _ (a5V)⟩,
 ⟨51,Api_Names,a4I⟩,
 ⟨53,Api_Line,b4J⟩,
 ⟨62,List Api_Field,@rpList _ (a5R)⟩,
 ⟨63,Int×Int,J6 (rpK .i64) (rpK .i64)⟩,
 ⟨65,Api_TypeNode,a3Y⟩,
 ⟨82,Core_Sort,b3s⟩,
 ⟨97,Ent,rpEnt⟩,
 ⟨111,Core_pair,b3z⟩,
 ⟨126,Api_Range,a5V⟩,
 ⟨130,Key,rpKey⟩,
 ⟨148,Api_Field,a5R⟩,
 ⟨185,Value_used,b1H⟩,
 ⟨208,Literals_normal,a7F⟩]
abbrev I (E:TypeId):Type:=(c8u tyL E).α
instance rI (E:TypeId):Rp (I E):=(c8u tyL E).rp
def c6P:Fd I (I 27) inferInstance:=(a6B (rg:=b43) (K7 (a2T 65:Fd I (List Api_TypeNode) (@rpList _ (a3Y))) ((a4u .i64:Fd I Int (rpK .i64)))) c0P c6K (fun _=>rfl) (fun _ _ _=>Iff.rfl):Fd I Api_Type b43)
def c9m:Fd I (I 33) inferInstance:=(a6B (rg:=rpVal) (K7 (a4u .i64:Fd I Int (rpK .i64)) (K7 (a4u .i64:Fd I Int (rpK .i64)) (K7 (c4A:Fd I ByteArray (rpStr)) (K7 (a2T 33:Fd I (List Val) (@rpList _ (rpVal))) (K7 (a2T 130:Fd I (List Key) (@rpList _ (rpKey))) (K7 (a2T 97:Fd I (List Ent) (@rpList _ (rpEnt))) ((a2T 9:Fd I (List ByteArray) (@rpList _ (rpStr)))))))))) Val.to Val.of (fun _=>rfl) Val.cells_to:Fd I Val rpVal)
def c6W:Fd I (I 37) inferInstance:=(a6B (rg:=b5E) (K7 (a2T 3:Fd I (List Int) (@rpList _ (rpK .i64))) (K7 (a2T 3:Fd I (List Int) (@rpList _ (rpK .i64))) ((a8e:Fd I Bool (rpBool))))) c0S c6O (fun _=>rfl) (fun _ _ _=>Iff.rfl):Fd I Api_Goal b5E)
def b5Y:Fd I (I 40) inferInstance:=(a6B (rg:=a6i) (K7 (a2T 3:Fd I (List Int) (@rpList _ (rpK .i64))) ((a4u .i64:Fd I Int (rpK .i64)))) a8X b6l (fun _=>rfl) (fun _ _ _=>Iff.rfl):Fd I Semtypebase_Source a6i)
def b3v:Fd I (I 51) inferInstance:=(a6B (rg:=a4I) (K7 (a8e:Fd I Bool (rpBool)) ((a2T 9:Fd I (List ByteArray) (@rpList _ (rpStr))))) b84 c5m (fun _=>rfl) (fun _ _ _=>Iff.rfl):Fd I Api_Names a4I)
def c6X:Fd I (I 53) inferInstance:=(a6B (rg:=b4J) (K7 (a4u .i64:Fd I Int (rpK .i64)) (K7 (a4u .i64:Fd I Int (rpK .i64)) (K7 (a2T 126:Fd I (List Api_Range) (@rpList _ (a5V))) (K7 (c1X 51 b3v:Fd I Api_Names (a4I)) (K7 (a2T 3:Fd I (List Int) (@rpList _ (rpK .i64))) (K7 (a2T 3:Fd I (List Int) (@rpList _ (rpK .i64))) (K7 (a2T 9:Fd I (List ByteArray) (@rpList _ (rpStr))) ((a2T 9:Fd I (List ByteArray) (@rpList _ (rpStr))))))))))) c0V c61 (fun _=>rfl) (fun _ _ _=>Iff.rfl):Fd I Api_Line b4J)
def d0c:Fd I (I 63) inferInstance:=(K7 (a4u .i64:Fd I Int (rpK .i64)) ((a4u .i64:Fd I Int (rpK .i64))):Fd I (Int×Int) (J6 (rpK .i64) (rpK .i64)))
def c2O:Fd I (I 65) inferInstance:=(a6B (rg:=a3Y) (K7 (a4u .i64:Fd I Int (rpK .i64)) (K7 (a4u .i64:Fd I Int (rpK .i64)) (K7 (a4u .i64:Fd I Int (rpK .i64)) (K7 (c4A:Fd I ByteArray (rpStr)) (K7 (a2T 3:Fd I (List Int) (@rpList _ (rpK .i64))) (K7 (a2T 148:Fd I (List Api_Field) (@rpList _ (a5R))) ((c1X 63 d0c:Fd I (Int×Int) (J6 (rpK .i64) (rpK .i64)))))))))) b4l c2I (fun _=>rfl) (fun _ _ _=>Iff.rfl):Fd I Api_TypeNode a3Y)
def c6k:Fd I (I 82) inferInstance:=(a6B (rg:=b3s) (K7 (a4u .i64:Fd I Int (rpK .i64)) ((a4u .i64:Fd I Int (rpK .i64)))) b8Q c44 (fun _=>rfl) (fun _ _ _=>Iff.rfl):Fd I Core_Sort b3s)
def d4d:Fd I (I 97) inferInstance:=(a6B (rg:=rpEnt) (K7 (a2T 33:Fd I (List Val) (@rpList _ (rpVal))) (K7 (a8e:Fd I Bool (rpBool)) ((c1X 33 c9m:Fd I Val (rpVal))))) Ent.to Ent.of (fun _=>rfl) Ent.cells_to:Fd I Ent rpEnt)
def c5L:Fd I (I 111) inferInstance:=(a6B (rg:=b3z) (K7 (a2T 3:Fd I (List Int) (@rpList _ (rpK .i64))) (K7 (a2T 3:Fd I (List Int) (@rpList _ (rpK .i64))) (K7 (a2T 3:Fd I (List Int) (@rpList _ (rpK .i64))) ((a2T 3:Fd I (List Int) (@rpList _ (rpK .i64))))))) b9k c6t (fun _=>rfl) (fun _ _ _=>Iff.rfl):Fd I Core_pair b3z)
def c6u:Fd I (I 126) inferInstance:=(a6B (rg:=a5V) (K7 (a4u .i64:Fd I Int (rpK .i64)) ((a4u .i64:Fd I Int (rpK .i64)))) b9E c5g (fun _=>rfl) (fun _ _ _=>Iff.rfl):Fd I Api_Range a5V)
def d0k:Fd I (I 130) inferInstance:=(a6B (rg:=rpKey) (K7 (a4u .i64:Fd I Int (rpK .i64)) ((c4A:Fd I ByteArray (rpStr)))) Key.to Key.of (fun _=>rfl) Key.cells_to:Fd I Key rpKey)
def c5k:Fd I (I 148) inferInstance:=(a6B (rg:=a5R) (K7 (c1X 130 d0k:Fd I Key (rpKey)) (K7 (a4u .i64:Fd I Int (rpK .i64)) ((a8e:Fd I Bool (rpBool))))) b9j c5V (fun _=>rfl) (fun _ _ _=>Iff.rfl):Fd I Api_Field a5R)
def c4l:Fd I (I 185) inferInstance:=(a6B (rg:=b1H) (K7 (a8e:Fd I Bool (rpBool)) (K7 (a8e:Fd I Bool (rpBool)) (K7 (a8e:Fd I Bool (rpBool)) (K7 (a8e:Fd I Bool (rpBool)) ((a8e:Fd I Bool (rpBool))))))) b73 c4r (fun _=>rfl) (fun _ _ _=>Iff.rfl):Fd I Value_used b1H)
def b9G:Fd I (I 208) inferInstance:=(a6B (rg:=a7F) ((c1X 51 b3v:Fd I Api_Names (a4I))) b03 b9K (fun _=>rfl) (fun _ _ _=>Iff.rfl):Fd I Literals_normal a7F)
def feL:List (FE I):=[⟨2,a4u .i64⟩,
 ⟨3,a4u .i64⟩,
 ⟨4,a8e⟩,
 ⟨9,c4A⟩,
 ⟨22,a2T 3⟩,
 ⟨25,a2T 65⟩,
 ⟨27,c6P⟩,
 ⟨28,a2T 33⟩,
 ⟨29,a2T 130⟩,
 ⟨30,a2T 97⟩,
 ⟨31,a2T 9⟩,
 ⟨33,c9m⟩,
 ⟨37,c6W⟩,
 ⟨40,b5Y⟩,
 ⟨49,a2T 126⟩,
 ⟨51,b3v⟩,
 ⟨53,c6X⟩,
 ⟨62,a2T 148⟩,
 ⟨63,d0c⟩,
 ⟨65,c2O⟩,
 ⟨82,c6k⟩,
 ⟨97,d4d⟩,
 ⟨111,c5L⟩,
 ⟨126,c6u⟩,
 ⟨130,d0k⟩,
 ⟨148,c5k⟩,
 ⟨185,c4l⟩,
 ⟨208,b9G⟩]
def d3E:TabL I where
 sz:=[(27,2),(33,7),(37,3),(51,2),(53,9),(63,2),(65,8),(82,2),(97,9),(111,4),(126,2),(130,2),(148,4),(185,5),(208,2)]
 one:=[(2,()),(3,()),(4,()),(9,()),(22,()),(25,()),(28,()),(29,()),(30,()),(31,()),(49,()),(62,()),(106,())]
 fld:=[(27,[(0,25),(1,3)]),(33,[(0,3),(1,2),(2,9),(3,28),(4,29),(5,30),(6,31)]),(37,[(0,22),(1,22),(2,4)]),(40,[(0,22),(1,3)]),(51,[(0,4),(1,31)]),(53,[(0,3),(1,3),(2,49),(3,51),(5,22),(6,22),(7,31),(8,31)]),(65,[(0,3),(1,2),(2,2),(3,9),(4,22),(5,62),(6,63)]),(82,[(0,3),(1,3)]),(97,[(0,28),(1,4),(2,33)]),(111,[(0,22),(1,22),(2,22),(3,22)]),(126,[(0,2),(1,2)]),(130,[(0,3),(1,9)]),(148,[(0,130),(2,3),(3,4)]),(185,[(0,4),(1,4),(2,4),(3,4),(4,4)]),(208,[(0,51)])]
 el:=[(22,3),(25,65),(28,33),(29,130),(30,97),(31,9),(46,53),(49,126),(61,22),(62,148),(75,37),(79,82),(108,4),(112,111),(134,2)]
 str:=[(9,())]
 bool:=[(4,())]
 ik:=[(3,.i64),(165,.u64)]
 fe:=feL
 inf:=[(2,1,8,[.int .i64 0]),(3,1,8,[.int .i64 0]),(4,1,1,[.bool false]),(9,1,16,[.str ⟨#[]⟩]),(22,1,24,[.nl 3]),(25,1,24,[.nl 65]),(27,2,32,[.nl 65,.int .i64 0]),(28,1,24,[.nl 33]),(29,1,24,[.nl 130]),(31,1,24,[.nl 9]),(33,7,128,[.int .i64 0,.int .i64 0,.str ⟨#[]⟩,.nl 33,.nl 130,.nl 97,.nl 9]),(37,3,56,[.nl 3,.nl 3,.bool false]),(40,2,32,[.nl 3,.int .i64 0]),(49,1,24,[.nl 126]),(51,2,32,[.bool false,.nl 9]),(53,9,168,[.int .i64 0,.int .i64 0,.nl 126,.bool false,.nl 9,.nl 3,.nl 3,.nl 9,.nl 9]),(62,1,24,[.nl 148]),(63,2,16,[.int .i64 0,.int .i64 0]),(65,8,104,[.int .i64 0,.int .i64 0,.int .i64 0,.str ⟨#[]⟩,.nl 3,.nl 148,.int .i64 0,.int .i64 0]),(82,2,16,[.int .i64 0,.int .i64 0]),(97,9,160,[.nl 33,.bool false,.int .i64 0,.int .i64 0,.str ⟨#[]⟩,.nl 33,.nl 130,.nl 97,.nl 9]),(106,1,8,[.any]),(111,4,96,[.nl 3,.nl 3,.nl 3,.nl 3]),(126,2,16,[.int .i64 0,.int .i64 0]),(130,2,24,[.int .i64 0,.str ⟨#[]⟩]),(148,4,40,[.int .i64 0,.str ⟨#[]⟩,.int .i64 0,.bool false]),(185,5,5,[.bool false,.bool false,.bool false,.bool false,.bool false]),(208,2,32,[.bool false,.nl 9])]
 st:=[(27,[(0,1),(1,1)]),(33,[(0,1),(1,1),(2,1),(3,1),(4,1),(5,1),(6,1)]),(37,[(0,1),(1,1),(2,1)]),(40,[(0,1),(1,1)]),(51,[(0,1),(1,1)]),(53,[(0,1),(1,1),(2,1),(3,2),(5,1),(6,1),(7,1),(8,1)]),(63,[(0,1),(1,1)]),(65,[(0,1),(1,1),(2,1),(3,1),(4,1),(5,1),(6,2)]),(82,[(0,1),(1,1)]),(111,[(0,1),(1,1),(2,1),(3,1)]),(126,[(0,1),(1,1)]),(130,[(0,1),(1,1)]),(148,[(0,2),(2,1),(3,1)]),(185,[(0,1),(1,1),(2,1),(3,1),(4,1)]),(208,[(0,2)])]
 eq:=[(63,c56 feL 63 b3G),(130,c56 feL 130 a6a)]
 arr:=[(63,3,2,1)]
 mp:=[(113,.bool)]
 fb:=[(66,()),(68,()),(79,()),(82,()),(129,()),(130,()),(143,()),(151,()),(171,()),(172,()),(174,()),(175,()),(177,()),(216,()),(219,()),(232,()),(241,())]
abbrev tb:Tab I:=d12 d3E
theorem ti2:J9 Go.Proofs.Tryz.prog 2 (.int .i64 0) 1 8:=J3 (by kernel_rfl)
theorem ti3:J9 Go.Proofs.Tryz.prog 3 (.int .i64 0) 1 8:=J3 (by kernel_rfl)
theorem ti4:J9 Go.Proofs.Tryz.prog 4 (.bool false) 1 1:=J3 (by kernel_rfl)
theorem ti9:J9 Go.Proofs.Tryz.prog 9 (.string ⟨#[]⟩) 1 16:=J3 (by kernel_rfl)
theorem d3t:J9 Go.Proofs.Tryz.prog 22 (.slice none 0 0) 1 24:=J3 (by kernel_rfl)
theorem d5D:J9 Go.Proofs.Tryz.prog 25 (.slice none 0 0) 1 24:=J3 (by kernel_rfl)
theorem d5H:J9 Go.Proofs.Tryz.prog 27 (.agg #[.slice none 0 0,.int .i64 0]) 2 32:=J3 (by kernel_rfl)
theorem d5I:J9 Go.Proofs.Tryz.prog 28 (.slice none 0 0) 1 24:=J3 (by kernel_rfl)
theorem d5y:J9 Go.Proofs.Tryz.prog 29 (.slice none 0 0) 1 24:=J3 (by kernel_rfl)
theorem d5j:J9 Go.Proofs.Tryz.prog 31 (.slice none 0 0) 1 24:=J3 (by kernel_rfl)
theorem d32:J9 Go.Proofs.Tryz.prog 33 (.agg #[.int .i64 0,.int .i64 0,.string ⟨#[]⟩,.slice none 0 0,.slice none 0 0,.slice none 0 0,.slice none 0 0]) 7 128:=J3 (by kernel_rfl)
theorem d4n:J9 Go.Proofs.Tryz.prog 37 (.agg #[.slice none 0 0,.slice none 0 0,.bool false]) 3 56:=J3 (by kernel_rfl)
theorem d5w:J9 Go.Proofs.Tryz.prog 40 (.agg #[.slice none 0 0,.int .i64 0]) 2 32:=J3 (by kernel_rfl)
theorem d5C:J9 Go.Proofs.Tryz.prog 49 (.slice none 0 0) 1 24:=J3 (by kernel_rfl)
theorem d5v:J9 Go.Proofs.Tryz.prog 51 (.agg #[.bool false,.slice none 0 0]) 2 32:=J3 (by kernel_rfl)
theorem d4k:J9 Go.Proofs.Tryz.prog 53 (.agg #[.int .i64 0,.int .i64 0,.slice none 0 0,.bool false,.slice none 0 0,.slice none 0 0,.slice none 0 0,.slice none 0 0,.slice none 0 0]) 9 168:=J3 (by kernel_rfl)
theorem d5z:J9 Go.Proofs.Tryz.prog 62 (.slice none 0 0) 1 24:=J3 (by kernel_rfl)
theorem d5f:J9 Go.Proofs.Tryz.prog 63 (.agg #[.int .i64 0,.int .i64 0]) 2 16:=J3 (by kernel_rfl)
theorem d4q:J9 Go.Proofs.Tryz.prog 65 (.agg #[.int .i64 0,.int .i64 0,.int .i64 0,.string ⟨#[]⟩,.slice none 0 0,.slice none 0 0,.int .i64 0,.int .i64 0]) 8 104:=J3 (by kernel_rfl)
theorem d34:J9 Go.Proofs.Tryz.prog 82 (.agg #[.int .i64 0,.int .i64 0]) 2 16:=J3 (by kernel_rfl)
theorem d4u:J9 Go.Proofs.Tryz.prog 97 (.agg #[.slice none 0 0,.bool false,.int .i64 0,.int .i64 0,.string ⟨#[]⟩,.slice none 0 0,.slice none 0 0,.slice none 0 0,.slice none 0 0]) 9 160:=J3 (by kernel_rfl)
theorem d4I:J9 Go.Proofs.Tryz.prog 106 (.nilFunc) 1 8:=J3 (by kernel_rfl)
theorem d2n:J9 Go.Proofs.Tryz.prog 111 (.agg #[.slice none 0 0,.slice none 0 0,.slice none 0 0,.slice none 0 0]) 4 96:=J3 (by kernel_rfl)
theorem d1T:J9 Go.Proofs.Tryz.prog 126 (.agg #[.int .i64 0,.int .i64 0]) 2 16:=J3 (by kernel_rfl)
theorem d1R:J9 Go.Proofs.Tryz.prog 130 (.agg #[.int .i64 0,.string ⟨#[]⟩]) 2 24:=J3 (by kernel_rfl)
theorem d2c:J9 Go.Proofs.Tryz.prog 148 (.agg #[.int .i64 0,.string ⟨#[]⟩,.int .i64 0,.bool false]) 4 40:=J3 (by kernel_rfl)
theorem d5a:J9 Go.Proofs.Tryz.prog 185 (.agg #[.bool false,.bool false,.bool false,.bool false,.bool false]) 5 5:=J3 (by kernel_rfl)
theorem d4Z:J9 Go.Proofs.Tryz.prog 208 (.agg #[.bool false,.slice none 0 0]) 2 32:=J3 (by kernel_rfl)
theorem to2:a2H Go.Proofs.Tryz.prog 2:=⟨_,Go.Proofs.Tryz.underlying2,rfl,by kernel_rfl⟩
theorem to3:a2H Go.Proofs.Tryz.prog 3:=⟨_,Go.Proofs.Tryz.underlying3,rfl,by kernel_rfl⟩
theorem to4:a2H Go.Proofs.Tryz.prog 4:=⟨_,Go.Proofs.Tryz.underlying4,rfl,by kernel_rfl⟩
theorem to9:a2H Go.Proofs.Tryz.prog 9:=⟨_,Go.Proofs.Tryz.underlying9,rfl,by kernel_rfl⟩
theorem d5t:a2H Go.Proofs.Tryz.prog 22:=⟨_,Go.Proofs.Tryz.underlying22,rfl,by kernel_rfl⟩
theorem d5F:a2H Go.Proofs.Tryz.prog 25:=⟨_,Go.Proofs.Tryz.underlying25,rfl,by kernel_rfl⟩
theorem d5B:a2H Go.Proofs.Tryz.prog 28:=⟨_,Go.Proofs.Tryz.underlying28,rfl,by kernel_rfl⟩
theorem d5d:a2H Go.Proofs.Tryz.prog 29:=⟨_,Go.Proofs.Tryz.underlying29,rfl,by kernel_rfl⟩
theorem d5E:a2H Go.Proofs.Tryz.prog 30:=⟨_,Go.Proofs.Tryz.underlying30,rfl,by kernel_rfl⟩
theorem d5p:a2H Go.Proofs.Tryz.prog 31:=⟨_,Go.Proofs.Tryz.underlying31,rfl,by kernel_rfl⟩
theorem d5s:a2H Go.Proofs.Tryz.prog 49:=⟨_,Go.Proofs.Tryz.underlying49,rfl,by kernel_rfl⟩
theorem d5i:a2H Go.Proofs.Tryz.prog 62:=⟨_,Go.Proofs.Tryz.underlying62,rfl,by kernel_rfl⟩
theorem d4Y:a2H Go.Proofs.Tryz.prog 106:=⟨_,Go.Proofs.Tryz.underlying106,rfl,by kernel_rfl⟩
theorem d5x {σ:S}{x y:Int×Int}{cs ds:List Value}(h:(rI 63).cells σ x cs)(k:(rI 63).cells σ y ds):Sx.EqAt Go.Proofs.Tryz.prog 2 63 (.agg cs.toArray) (.agg ds.toArray) (b3G x y):=by
 obtain ⟨_,_,rfl,rfl,rfl⟩:=h
 obtain ⟨_,_,rfl,rfl,rfl⟩:=k
 exact d0Z Go.Proofs.Tryz.underlying63 ti3 (c32 (a6u to3 rfl) (a6u to3 rfl) (c1z Go.Proofs.Tryz.underlying3) (c32 (a6u to3 rfl) (a6u to3 rfl) (c1z Go.Proofs.Tryz.underlying3) d0R))
theorem d4W {σ:S}{x y:Key}{cs ds:List Value}(h:(rI 130).cells σ x cs)(k:(rI 130).cells σ y ds):Sx.EqAt Go.Proofs.Tryz.prog 2 130 (.agg cs.toArray) (.agg ds.toArray) (a6a x y):=by
 obtain ⟨_,_,rfl,rfl,rfl⟩:=h
 obtain ⟨_,_,rfl,rfl,rfl⟩:=k
 exact c6M Go.Proofs.Tryz.underlying130 (by kernel_rfl) (c31 (by decide) (a6u to3 rfl) (a6u to3 rfl) (c1z Go.Proofs.Tryz.underlying3) (c31 (by decide) (a6u to9 rfl) (a6u to9 rfl) (d1w Go.Proofs.Tryz.underlying9) d1k))
theorem eqT (T:TypeId)(g:I T->I T->Bool){K:Nat}(h:∀ {σ:S} {x y:I T} {cs ds:List Value},Rp.cells σ x cs->Rp.cells σ y ds->Sx.EqAt Go.Proofs.Tryz.prog K T (.agg cs.toArray) (.agg ds.toArray) (g x y))(hg:Go.Proofs.Tryz.prog.eqGuardType (Go.Proofs.Tryz.prog).depth T=false)(hK:Nat.ble K 10000=true)
 {X:Cxt} {c:Cx} {σ:S} {ls ms:List (PV I)} {r:Bool} {cs ds:List Value} (h1:c56 feL T g ls ms=some r) (h2:RG X c σ ls cs) (h3:RG X c σ ms ds) :
 Go.Proofs.Tryz.prog.eqGuardType (Go.Proofs.Tryz.prog).depth T=false/\∃ j,Nat.ble j 10000=true/\Sx.EqAt Go.Proofs.Tryz.prog j T (.agg cs.toArray) (.agg ds.toArray) r:=by
 obtain ⟨x,y,k1,k2,rfl⟩:=d2R h1 h2 h3
 exact ⟨hg,K,hK,h k1 k2⟩
theorem d31:TabLOk Go.Proofs.Tryz.prog d3E where
 sz:=⟨⟨_,Go.Proofs.Tryz.underlying27,rfl,by kernel_rfl⟩,⟨⟨_,Go.Proofs.Tryz.underlying33,rfl,by kernel_rfl⟩,⟨⟨_,Go.Proofs.Tryz.underlying37,rfl,by kernel_rfl⟩,⟨⟨_,Go.Proofs.Tryz.underlying51,rfl,by kernel_rfl⟩,⟨⟨_,Go.Proofs.Tryz.underlying53,rfl,by kernel_rfl⟩,⟨⟨_,Go.Proofs.Tryz.underlying63,rfl,by kernel_rfl⟩,⟨⟨_,Go.Proofs.Tryz.underlying65,rfl,by kernel_rfl⟩,⟨⟨_,Go.Proofs.Tryz.underlying82,rfl,by kernel_rfl⟩,⟨⟨_,Go.Proofs.Tryz.underlying97,rfl,by kernel_rfl⟩,⟨⟨_,Go.Proofs.Tryz.underlying111,rfl,by kernel_rfl⟩,⟨⟨_,Go.Proofs.Tryz.underlying126,rfl,by kernel_rfl⟩,⟨⟨_,Go.Proofs.Tryz.underlying130,rfl,by kernel_rfl⟩,⟨⟨_,Go.Proofs.Tryz.underlying148,rfl,by kernel_rfl⟩,⟨⟨_,Go.Proofs.Tryz.underlying185,rfl,by kernel_rfl⟩,⟨⟨_,Go.Proofs.Tryz.underlying208,rfl,by kernel_rfl⟩,trivial⟩⟩⟩⟩⟩⟩⟩⟩⟩⟩⟩⟩⟩⟩⟩
 one:=⟨to2,⟨to3,⟨to4,⟨to9,⟨d5t,⟨d5F,⟨d5B,⟨d5d,⟨d5E,⟨d5p,⟨d5s,⟨d5i,⟨d4Y,trivial⟩⟩⟩⟩⟩⟩⟩⟩⟩⟩⟩⟩⟩
 fld:=⟨⟨⟨_,_,Go.Proofs.Tryz.underlying27,rfl,rfl,by kernel_rfl⟩,⟨⟨_,_,Go.Proofs.Tryz.underlying27,rfl,rfl⟩,⟨⟨_,_,Go.Proofs.Tryz.underlying27,rfl,rfl,by kernel_rfl⟩,⟨⟨_,_,Go.Proofs.Tryz.underlying27,rfl,rfl⟩,trivial⟩⟩⟩⟩,⟨⟨⟨_,_,Go.Proofs.Tryz.underlying33,rfl,rfl,by kernel_rfl⟩,⟨⟨_,_,Go.Proofs.Tryz.underlying33,rfl,rfl⟩,⟨⟨_,_,Go.Proofs.Tryz.underlying33,rfl,rfl,by kernel_rfl⟩,⟨⟨_,_,Go.Proofs.Tryz.underlying33,rfl,rfl⟩,⟨⟨_,_,Go.Proofs.Tryz.underlying33,rfl,rfl,by kernel_rfl⟩,⟨⟨_,_,Go.Proofs.Tryz.underlying33,rfl,rfl⟩,⟨⟨_,_,Go.Proofs.Tryz.underlying33,rfl,rfl,by kernel_rfl⟩,⟨⟨_,_,Go.Proofs.Tryz.underlying33,rfl,rfl⟩,⟨⟨_,_,Go.Proofs.Tryz.underlying33,rfl,rfl,by kernel_rfl⟩,⟨⟨_,_,Go.Proofs.Tryz.underlying33,rfl,rfl⟩,⟨⟨_,_,Go.Proofs.Tryz.underlying33,rfl,rfl,by kernel_rfl⟩,⟨⟨_,_,Go.Proofs.Tryz.underlying33,rfl,rfl⟩,⟨⟨_,_,Go.Proofs.Tryz.underlying33,rfl,rfl,by kernel_rfl⟩,⟨⟨_,_,Go.Proofs.Tryz.underlying33,rfl,rfl⟩,trivial⟩⟩⟩⟩⟩⟩⟩⟩⟩⟩⟩⟩⟩⟩,⟨⟨⟨_,_,Go.Proofs.Tryz.underlying37,rfl,rfl,by kernel_rfl⟩,⟨⟨_,_,Go.Proofs.Tryz.underlying37,rfl,rfl⟩,⟨⟨_,_,Go.Proofs.Tryz.underlying37,rfl,rfl,by kernel_rfl⟩,⟨⟨_,_,Go.Proofs.Tryz.underlying37,rfl,rfl⟩,⟨⟨_,_,Go.Proofs.Tryz.underlying37,rfl,rfl,by kernel_rfl⟩,⟨⟨_,_,Go.Proofs.Tryz.underlying37,rfl,rfl⟩,trivial⟩⟩⟩⟩⟩⟩,⟨⟨⟨_,_,Go.Proofs.Tryz.underlying40,rfl,rfl,by kernel_rfl⟩,⟨⟨_,_,Go.Proofs.Tryz.underlying40,rfl,rfl⟩,⟨⟨_,_,Go.Proofs.Tryz.underlying40,rfl,rfl,by kernel_rfl⟩,⟨⟨_,_,Go.Proofs.Tryz.underlying40,rfl,rfl⟩,trivial⟩⟩⟩⟩,⟨⟨⟨_,_,Go.Proofs.Tryz.underlying51,rfl,rfl,by kernel_rfl⟩,⟨⟨_,_,Go.Proofs.Tryz.underlying51,rfl,rfl⟩,⟨⟨_,_,Go.Proofs.Tryz.underlying51,rfl,rfl,by kernel_rfl⟩,⟨⟨_,_,Go.Proofs.Tryz.underlying51,rfl,rfl⟩,trivial⟩⟩⟩⟩,⟨⟨⟨_,_,Go.Proofs.Tryz.underlying53,rfl,rfl,by kernel_rfl⟩,⟨⟨_,_,Go.Proofs.Tryz.underlying53,rfl,rfl⟩,⟨⟨_,_,Go.Proofs.Tryz.underlying53,rfl,rfl,by kernel_rfl⟩,⟨⟨_,_,Go.Proofs.Tryz.underlying53,rfl,rfl⟩,⟨⟨_,_,Go.Proofs.Tryz.underlying53,rfl,rfl,by kernel_rfl⟩,⟨⟨_,_,Go.Proofs.Tryz.underlying53,rfl,rfl⟩,⟨⟨_,_,Go.Proofs.Tryz.underlying53,rfl,rfl,by kernel_rfl⟩,⟨⟨_,_,Go.Proofs.Tryz.underlying53,rfl,rfl⟩,⟨⟨_,_,Go.Proofs.Tryz.underlying53,rfl,rfl,by kernel_rfl⟩,⟨⟨_,_,Go.Proofs.Tryz.underlying53,rfl,rfl⟩,⟨⟨_,_,Go.Proofs.Tryz.underlying53,rfl,rfl,by kernel_rfl⟩,⟨⟨_,_,Go.Proofs.Tryz.underlying53,rfl,rfl⟩,⟨⟨_,_,Go.Proofs.Tryz.underlying53,rfl,rfl,by kernel_rfl⟩,⟨⟨_,_,Go.Proofs.Tryz.underlying53,rfl,rfl⟩,⟨⟨_,_,Go.Proofs.Tryz.underlying53,rfl,rfl,by kernel_rfl⟩,⟨⟨_,_,Go.Proofs.Tryz.underlying53,rfl,rfl⟩,trivial⟩⟩⟩⟩⟩⟩⟩⟩⟩⟩⟩⟩⟩⟩⟩⟩,⟨⟨⟨_,_,Go.Proofs.Tryz.underlying65,rfl,rfl,by kernel_rfl⟩,⟨⟨_,_,Go.Proofs.Tryz.underlying65,rfl,rfl⟩,⟨⟨_,_,Go.Proofs.Tryz.underlying65,rfl,rfl,by kernel_rfl⟩,⟨⟨_,_,Go.Proofs.Tryz.underlying65,rfl,rfl⟩,⟨⟨_,_,Go.Proofs.Tryz.underlying65,rfl,rfl,by kernel_rfl⟩,⟨⟨_,_,Go.Proofs.Tryz.underlying65,rfl,rfl⟩,⟨⟨_,_,Go.Proofs.Tryz.underlying65,rfl,rfl,by kernel_rfl⟩,⟨⟨_,_,Go.Proofs.Tryz.underlying65,rfl,rfl⟩,⟨⟨_,_,Go.Proofs.Tryz.underlying65,rfl,rfl,by kernel_rfl⟩,⟨⟨_,_,Go.Proofs.Tryz.underlying65,rfl,rfl⟩,⟨⟨_,_,Go.Proofs.Tryz.underlying65,rfl,rfl,by kernel_rfl⟩,⟨⟨_,_,Go.Proofs.Tryz.underlying65,rfl,rfl⟩,⟨⟨_,_,Go.Proofs.Tryz.underlying65,rfl,rfl,by kernel_rfl⟩,⟨⟨_,_,Go.Proofs.Tryz.underlying65,rfl,rfl⟩,trivial⟩⟩⟩⟩⟩⟩⟩⟩⟩⟩⟩⟩⟩⟩,⟨⟨⟨_,_,Go.Proofs.Tryz.underlying82,rfl,rfl,by kernel_rfl⟩,⟨⟨_,_,Go.Proofs.Tryz.underlying82,rfl,rfl⟩,⟨⟨_,_,Go.Proofs.Tryz.underlying82,rfl,rfl,by kernel_rfl⟩,⟨⟨_,_,Go.Proofs.Tryz.underlying82,rfl,rfl⟩,trivial⟩⟩⟩⟩,⟨⟨⟨_,_,Go.Proofs.Tryz.underlying97,rfl,rfl,by kernel_rfl⟩,⟨⟨_,_,Go.Proofs.Tryz.underlying97,rfl,rfl⟩,⟨⟨_,_,Go.Proofs.Tryz.underlying97,rfl,rfl,by kernel_rfl⟩,⟨⟨_,_,Go.Proofs.Tryz.underlying97,rfl,rfl⟩,⟨⟨_,_,Go.Proofs.Tryz.underlying97,rfl,rfl,by kernel_rfl⟩,⟨⟨_,_,Go.Proofs.Tryz.underlying97,rfl,rfl⟩,trivial⟩⟩⟩⟩⟩⟩,⟨⟨⟨_,_,Go.Proofs.Tryz.underlying111,rfl,rfl,by kernel_rfl⟩,⟨⟨_,_,Go.Proofs.Tryz.underlying111,rfl,rfl⟩,⟨⟨_,_,Go.Proofs.Tryz.underlying111,rfl,rfl,by kernel_rfl⟩,⟨⟨_,_,Go.Proofs.Tryz.underlying111,rfl,rfl⟩,⟨⟨_,_,Go.Proofs.Tryz.underlying111,rfl,rfl,by kernel_rfl⟩,⟨⟨_,_,Go.Proofs.Tryz.underlying111,rfl,rfl⟩,⟨⟨_,_,Go.Proofs.Tryz.underlying111,rfl,rfl,by kernel_rfl⟩,⟨⟨_,_,Go.Proofs.Tryz.underlying111,rfl,rfl⟩,trivial⟩⟩⟩⟩⟩⟩⟩⟩,⟨⟨⟨_,_,Go.Proofs.Tryz.underlying126,rfl,rfl,by kernel_rfl⟩,⟨⟨_,_,Go.Proofs.Tryz.underlying126,rfl,rfl⟩,⟨⟨_,_,Go.Proofs.Tryz.underlying126,rfl,rfl,by kernel_rfl⟩,⟨⟨_,_,Go.Proofs.Tryz.underlying126,rfl,rfl⟩,trivial⟩⟩⟩⟩,⟨⟨⟨_,_,Go.Proofs.Tryz.underlying130,rfl,rfl,by kernel_rfl⟩,⟨⟨_,_,Go.Proofs.Tryz.underlying130,rfl,rfl⟩,⟨⟨_,_,Go.Proofs.Tryz.underlying130,rfl,rfl,by kernel_rfl⟩,⟨⟨_,_,Go.Proofs.Tryz.underlying130,rfl,rfl⟩,trivial⟩⟩⟩⟩,⟨⟨⟨_,_,Go.Proofs.Tryz.underlying148,rfl,rfl,by kernel_rfl⟩,⟨⟨_,_,Go.Proofs.Tryz.underlying148,rfl,rfl⟩,⟨⟨_,_,Go.Proofs.Tryz.underlying148,rfl,rfl,by kernel_rfl⟩,⟨⟨_,_,Go.Proofs.Tryz.underlying148,rfl,rfl⟩,⟨⟨_,_,Go.Proofs.Tryz.underlying148,rfl,rfl,by kernel_rfl⟩,⟨⟨_,_,Go.Proofs.Tryz.underlying148,rfl,rfl⟩,trivial⟩⟩⟩⟩⟩⟩,⟨⟨⟨_,_,Go.Proofs.Tryz.underlying185,rfl,rfl,by kernel_rfl⟩,⟨⟨_,_,Go.Proofs.Tryz.underlying185,rfl,rfl⟩,⟨⟨_,_,Go.Proofs.Tryz.underlying185,rfl,rfl,by kernel_rfl⟩,⟨⟨_,_,Go.Proofs.Tryz.underlying185,rfl,rfl⟩,⟨⟨_,_,Go.Proofs.Tryz.underlying185,rfl,rfl,by kernel_rfl⟩,⟨⟨_,_,Go.Proofs.Tryz.underlying185,rfl,rfl⟩,⟨⟨_,_,Go.Proofs.Tryz.underlying185,rfl,rfl,by kernel_rfl⟩,⟨⟨_,_,Go.Proofs.Tryz.underlying185,rfl,rfl⟩,⟨⟨_,_,Go.Proofs.Tryz.underlying185,rfl,rfl,by kernel_rfl⟩,⟨⟨_,_,Go.Proofs.Tryz.underlying185,rfl,rfl⟩,trivial⟩⟩⟩⟩⟩⟩⟩⟩⟩⟩,⟨⟨⟨_,_,Go.Proofs.Tryz.underlying208,rfl,rfl,by kernel_rfl⟩,⟨⟨_,_,Go.Proofs.Tryz.underlying208,rfl,rfl⟩,trivial⟩⟩,trivial⟩⟩⟩⟩⟩⟩⟩⟩⟩⟩⟩⟩⟩⟩⟩
 el:=⟨⟨Go.Proofs.Tryz.underlying22,_,_,ti3,rfl,by decide⟩,⟨⟨Go.Proofs.Tryz.underlying25,_,_,d4q,rfl,by decide⟩,⟨⟨Go.Proofs.Tryz.underlying28,_,_,d32,rfl,by decide⟩,⟨⟨Go.Proofs.Tryz.underlying29,_,_,d1R,rfl,by decide⟩,⟨⟨Go.Proofs.Tryz.underlying30,_,_,d4u,rfl,by decide⟩,⟨⟨Go.Proofs.Tryz.underlying31,_,_,ti9,rfl,by decide⟩,⟨⟨Go.Proofs.Tryz.underlying46,_,_,d4k,rfl,by decide⟩,⟨⟨Go.Proofs.Tryz.underlying49,_,_,d1T,rfl,by decide⟩,⟨⟨Go.Proofs.Tryz.underlying61,_,_,d3t,rfl,by decide⟩,⟨⟨Go.Proofs.Tryz.underlying62,_,_,d2c,rfl,by decide⟩,⟨⟨Go.Proofs.Tryz.underlying75,_,_,d4n,rfl,by decide⟩,⟨⟨Go.Proofs.Tryz.underlying79,_,_,d34,rfl,by decide⟩,⟨⟨Go.Proofs.Tryz.underlying108,_,_,ti4,rfl,by decide⟩,⟨⟨Go.Proofs.Tryz.underlying112,_,_,d2n,rfl,by decide⟩,⟨⟨Go.Proofs.Tryz.underlying134,_,_,ti2,rfl,by decide⟩,trivial⟩⟩⟩⟩⟩⟩⟩⟩⟩⟩⟩⟩⟩⟩⟩
 str:=⟨Go.Proofs.Tryz.underlying9,trivial⟩
 bool:=⟨Go.Proofs.Tryz.underlying4,trivial⟩
 ik:=⟨Go.Proofs.Tryz.underlying3,⟨Go.Proofs.Tryz.underlying165,trivial⟩⟩
 inf:=⟨⟨_,ti2,fun X c σ=>RG.cns rfl a2C (RG.nl)⟩,⟨⟨_,ti3,fun X c σ=>RG.cns rfl a2C (RG.nl)⟩,⟨⟨_,ti4,fun X c σ=>RG.cns rfl a6Q (RG.nl)⟩,⟨⟨_,ti9,fun X c σ=>RG.cns rfl c0o (RG.nl)⟩,⟨⟨_,d3t,fun X c σ=>RG.cns rfl a1E (RG.nl)⟩,⟨⟨_,d5D,fun X c σ=>RG.cns rfl a1E (RG.nl)⟩,⟨⟨_,d5H,fun X c σ=>RG.cns rfl a1E (RG.cns rfl a2C (RG.nl))⟩,⟨⟨_,d5I,fun X c σ=>RG.cns rfl a1E (RG.nl)⟩,⟨⟨_,d5y,fun X c σ=>RG.cns rfl a1E (RG.nl)⟩,⟨⟨_,d5j,fun X c σ=>RG.cns rfl a1E (RG.nl)⟩,⟨⟨_,d32,fun X c σ=>RG.cns rfl a2C (RG.cns rfl a2C (RG.cns rfl c0o (RG.cns rfl a1E (RG.cns rfl a1E (RG.cns rfl a1E (RG.cns rfl a1E (RG.nl)))))))⟩,⟨⟨_,d4n,fun X c σ=>RG.cns rfl a1E (RG.cns rfl a1E (RG.cns rfl a6Q (RG.nl)))⟩,⟨⟨_,d5w,fun X c σ=>RG.cns rfl a1E (RG.cns rfl a2C (RG.nl))⟩,⟨⟨_,d5C,fun X c σ=>RG.cns rfl a1E (RG.nl)⟩,⟨⟨_,d5v,fun X c σ=>RG.cns rfl a6Q (RG.cns rfl a1E (RG.nl))⟩,⟨⟨_,d4k,fun X c σ=>RG.cns rfl a2C (RG.cns rfl a2C (RG.cns rfl a1E (RG.cns rfl a6Q (RG.cns rfl a1E (RG.cns rfl a1E (RG.cns rfl a1E (RG.cns rfl a1E (RG.cns rfl a1E (RG.nl)))))))))⟩,⟨⟨_,d5z,fun X c σ=>RG.cns rfl a1E (RG.nl)⟩,⟨⟨_,d5f,fun X c σ=>RG.cns rfl a2C (RG.cns rfl a2C (RG.nl))⟩,⟨⟨_,d4q,fun X c σ=>RG.cns rfl a2C (RG.cns rfl a2C (RG.cns rfl a2C (RG.cns rfl c0o (RG.cns rfl a1E (RG.cns rfl a1E (RG.cns rfl a2C (RG.cns rfl a2C (RG.nl))))))))⟩,⟨⟨_,d34,fun X c σ=>RG.cns rfl a2C (RG.cns rfl a2C (RG.nl))⟩,⟨⟨_,d4u,fun X c σ=>RG.cns rfl a1E (RG.cns rfl a6Q (RG.cns rfl a2C (RG.cns rfl a2C (RG.cns rfl c0o (RG.cns rfl a1E (RG.cns rfl a1E (RG.cns rfl a1E (RG.cns rfl a1E (RG.nl)))))))))⟩,⟨⟨_,d4I,fun X c σ=>RG.cns rfl d4Q (RG.nl)⟩,⟨⟨_,d2n,fun X c σ=>RG.cns rfl a1E (RG.cns rfl a1E (RG.cns rfl a1E (RG.cns rfl a1E (RG.nl))))⟩,⟨⟨_,d1T,fun X c σ=>RG.cns rfl a2C (RG.cns rfl a2C (RG.nl))⟩,⟨⟨_,d1R,fun X c σ=>RG.cns rfl a2C (RG.cns rfl c0o (RG.nl))⟩,⟨⟨_,d2c,fun X c σ=>RG.cns rfl a2C (RG.cns rfl c0o (RG.cns rfl a2C (RG.cns rfl a6Q (RG.nl))))⟩,⟨⟨_,d5a,fun X c σ=>RG.cns rfl a6Q (RG.cns rfl a6Q (RG.cns rfl a6Q (RG.cns rfl a6Q (RG.cns rfl a6Q (RG.nl)))))⟩,⟨⟨_,d4Z,fun X c σ=>RG.cns rfl a6Q (RG.cns rfl a1E (RG.nl))⟩,trivial⟩⟩⟩⟩⟩⟩⟩⟩⟩⟩⟩⟩⟩⟩⟩⟩⟩⟩⟩⟩⟩⟩⟩⟩⟩⟩⟩⟩
 st:=⟨.inl ⟨_,Go.Proofs.Tryz.underlying27,by kernel_rfl⟩,⟨.inl ⟨_,Go.Proofs.Tryz.underlying33,by kernel_rfl⟩,⟨.inl ⟨_,Go.Proofs.Tryz.underlying37,by kernel_rfl⟩,⟨.inl ⟨_,Go.Proofs.Tryz.underlying40,by kernel_rfl⟩,⟨.inl ⟨_,Go.Proofs.Tryz.underlying51,by kernel_rfl⟩,⟨.inl ⟨_,Go.Proofs.Tryz.underlying53,by kernel_rfl⟩,⟨.inr (d3Q Go.Proofs.Tryz.underlying63 ti3 rfl),⟨.inl ⟨_,Go.Proofs.Tryz.underlying65,by kernel_rfl⟩,⟨.inl ⟨_,Go.Proofs.Tryz.underlying82,by kernel_rfl⟩,⟨.inl ⟨_,Go.Proofs.Tryz.underlying111,by kernel_rfl⟩,⟨.inl ⟨_,Go.Proofs.Tryz.underlying126,by kernel_rfl⟩,⟨.inl ⟨_,Go.Proofs.Tryz.underlying130,by kernel_rfl⟩,⟨.inl ⟨_,Go.Proofs.Tryz.underlying148,by kernel_rfl⟩,⟨.inl ⟨_,Go.Proofs.Tryz.underlying185,by kernel_rfl⟩,⟨.inl ⟨_,Go.Proofs.Tryz.underlying208,by kernel_rfl⟩,trivial⟩⟩⟩⟩⟩⟩⟩⟩⟩⟩⟩⟩⟩⟩⟩
 eq:=⟨fun X c σ ls ms r cs ds h1 h2 h3=>eqT 63 b3G (fun h k=>d5x h k) (by kernel_rfl) (by decide) h1 h2 h3,⟨fun X c σ ls ms r cs ds h1 h2 h3=>eqT 130 a6a (fun h k=>d4W h k) (by kernel_rfl) (by decide) h1 h2 h3,trivial⟩⟩
 arr:=⟨⟨Go.Proofs.Tryz.underlying63,by kernel_rfl⟩,trivial⟩
 mp:=⟨⟨_,_,_,_,_,Go.Proofs.Tryz.underlying113,Go.Proofs.Tryz.underlying9,ti4,fun x h σ=>by cases h; exact rfl⟩,trivial⟩
 fb:=⟨⟨_,_,Go.Proofs.Tryz.func66,rfl,by kernel_rfl⟩,⟨⟨_,_,Go.Proofs.Tryz.func68,rfl,by kernel_rfl⟩,⟨⟨_,_,Go.Proofs.Tryz.func79,rfl,by kernel_rfl⟩,⟨⟨_,_,Go.Proofs.Tryz.func82,rfl,by kernel_rfl⟩,⟨⟨_,_,Go.Proofs.Tryz.func129,rfl,by kernel_rfl⟩,⟨⟨_,_,Go.Proofs.Tryz.func130,rfl,by kernel_rfl⟩,⟨⟨_,_,Go.Proofs.Tryz.func143,rfl,by kernel_rfl⟩,⟨⟨_,_,Go.Proofs.Tryz.func151,rfl,by kernel_rfl⟩,⟨⟨_,_,Go.Proofs.Tryz.func171,rfl,by kernel_rfl⟩,⟨⟨_,_,Go.Proofs.Tryz.func172,rfl,by kernel_rfl⟩,⟨⟨_,_,Go.Proofs.Tryz.func174,rfl,by kernel_rfl⟩,⟨⟨_,_,Go.Proofs.Tryz.func175,rfl,by kernel_rfl⟩,⟨⟨_,_,Go.Proofs.Tryz.func177,rfl,by kernel_rfl⟩,⟨⟨_,_,Go.Proofs.Tryz.func216,rfl,by kernel_rfl⟩,⟨⟨_,_,Go.Proofs.Tryz.func219,rfl,by kernel_rfl⟩,⟨⟨_,_,Go.Proofs.Tryz.func232,rfl,by kernel_rfl⟩,⟨⟨_,_,Go.Proofs.Tryz.func241,rfl,by kernel_rfl⟩,trivial⟩⟩⟩⟩⟩⟩⟩⟩⟩⟩⟩⟩⟩⟩⟩⟩⟩
theorem b2m:TabOk Go.Proofs.Tryz.prog tb:=d1h d31
theorem mixed:(Go.Proofs.Tryz.prog).follows .mixedOrders=true:=by kernel_rfl
end Go.Qx
end
section
namespace Go.Qx
open Go Go.RowKit Go.Sx
structure Bw (B:Nat)(w w':World):Prop where
 below:Below B w w'
 drawn:w.drawn<=w'.drawn
theorem Bw.refl (B:Nat)(w:World):Bw B w w:=⟨Below.refl B w,Nat.le_refl _⟩
theorem Bw.trans {B:Nat}{a b c:World}(h:Bw B a b)(k:Bw B b c):Bw B a c:=⟨h.below.trans k.below,Nat.le_trans h.drawn k.drawn⟩
theorem Bw.setCells {B b:Nat}(hb:B<=b)(o:Nat)(vs:List Value)(w:World):Bw B w (w.setCells b o vs):=by
 obtain ⟨r1,r2,r3⟩:=b1m b vs o w
 exact ⟨⟨r1,r2,r3,Nat.le_of_eq (b1r b vs o w).symm,fun k hk=>a4D b vs o w k (by omega)⟩,Nat.le_of_eq (a96 b vs o w).symm⟩
section
variable {P:Program}{ops:Array Oper}{Q:Exit->Act->World->Prop}{n:Nat}{F:Fr}{rest:List Oper}{d:Option Nat}{ty:TypeId}{pos:String}{aft:Array Edge}{w:World}
theorem c1a {T T':TypeId}{x y:Operand}{b:Nat}{cs:List Value}(hb:w.heap[b]?=some (.cells cs.toArray T' (0,0)))(o:Nat)(v:Value)(hx:ev F x=.pointer (some ⟨b,o,none⟩))(hy:ev F y=v)
 (hkx:Q1 n x=true) (hky:Q1 n y=true) (hv:v.cells.toList=[v]) (hT:(P.info? T).map (·.size)=some 1) (h1:v.oneCell'=true) (hl:o<cs.length)
 (h:wpList P ops Q rest (fr n (K4 F d undef)) (w.setCells b o [v])) :
 wpList P ops Q (⟨d,.store T x y,ty,pos,aft,none⟩::rest) (fr n F) w:=by
 have hsz:v.cells.size=1:=by rw [<- Array.length_toList,hv]; rfl
 refine c5F rfl (w.setCells b o [v]) ?_ h
 show Sem.run P (do Instr.storeAt T ((fr n F).eval x) ((fr n F).eval y); pure Next.skip) w=_
 rw [Z1 hkx,Z1 hky,hx,hy]
 have hst:=run_storeCells_cells (P:=P) b o [v] 0 w (fun j hj=>by
  have hj0:j=0:=by simp at hj; omega
  subst hj0
  simp only [World.cell?,hb,Nat.add_zero]
  simp [List.getElem?_eq_getElem hl]) (fun j hj=>by simp [World.frozen?,hb]) (fun u hu=>by simp at hu; subst hu; exact h1)
 simp only [Nat.add_zero] at hst
 simp only [Instr.storeAt,Instr.sureAddr,storeVar,Sem.run_bind,Sem.run_pure,Result.andThen_ok,Go.Sx.run_sizeOf hT,hsz,ne_eq,not_true_eq_false,if_false,hv,hst]
theorem c3S {x y:Operand}{t u:TypeId}{a b v:Value}{w':World}(hx:ev F x=a)(hy:ev F y=b)(hkx:Q1 n x=true)(hky:Q1 n y=true)(hr:(Builtin.append_ #[t,u] ty #[a,b]).run P w=.ok v w')
 (h:wpList P ops Q rest (fr n (K4 F d v)) w'):wpList P ops Q (⟨d,.call ⟨.builtin .append,#[x,y],#[t,u]⟩,ty,pos,aft,none⟩::rest) (fr n F) w :=
 J5 rfl v w' (by
  simp [execOp,resolve,invoke,builtin,Z1 hkx,Z1 hky,hx,hy,hr]) h
theorem c2x {src dst:TypeId}{x:Operand}{a v:Value}(hx:ev F x=a)(hkx:Q1 n x=true)(hr:(convert src dst a).run P w=.ok v w)(h:wpList P ops Q rest (fr n (K4 F d v)) w) :
 wpList P ops Q (⟨d,.convert src dst x,ty,pos,aft,none⟩::rest) (fr n F) w:=c3M a v hx hkx hr h
theorem c1c {f:FuncId}{fn:Func}{c:Code}{vs:List Value}{R:Ending->World->Prop}(nt:Nat)(hf:P.funcs[f]?=some fn)(hb:fn.body=some c)(hn:fn.ntmps=nt)(hle:Nat.ble vs.length nt=true)
 (h:c.wp P (bodyPost P fn R) (fr nt (a9r vs)) w):Calls P f vs.toArray w R:=by
 refine calls_of_wp hf hb ?_
 have hle':=Nat.le_of_ble_eq_true hle
 have e:(⟨vs.toArray++Array.replicate (fn.ntmps-vs.toArray.size) undef,[]⟩:Act)=fr nt (a9r vs):=by
  rw [hn]
  simp only [fr]
  congr 1
  apply Array.ext
  ·simp; omega
  ·intro i h1 h2
   simp only [Array.getElem_ofFn,a9r,Array.getElem_append]
   split
   ·rename_i hi; simp at hi; simp [List.getD,List.getElem?_eq_getElem hi]
   ·rename_i hi; simp at hi; simp [List.getD,List.getElem?_eq_none hi]
 rw [e]
 exact h
theorem d19 {fn:Func}{R:Ending->World->Prop}(hr:fn.results=#[])(h:R (.returned (.tuple #[])) w):bodyPost P fn R .normal (fr n F) w :=
 ⟨rfl,.tuple #[],by
  rw [b2t,hr]
  simp only [List.mapM_toArray,List.mapM_nil,Sem.run_bind,Sem.run_map,Result.andThen_ok,Sem.run_pure]
  rfl,h⟩
theorem d4B {fn:Func}{R:Ending->World->Prop}{t:Nat}(v:Value)(hr:fn.results=#[.tmp t])(ht:Nat.blt t n=true)(hv:F t=v)(h:R (.returned v) w):bodyPost P fn R .ret (fr n F) w :=
 ⟨rfl,v,by
  have e1:=b3p (P:=P) (w:=w) (r:=.tmp t) (v:=v) ⟨ht,hv⟩
  rw [b2t,hr]
  simp only [List.mapM_toArray,List.mapM_cons,List.mapM_nil,Sem.run_bind,Sem.run_map,e1,Result.andThen_ok,Sem.run_pure]
  rfl,h⟩
theorem d5c {fn:Func}{R:Ending->World->Prop}{t u:Nat}(v x:Value)(hr:fn.results=#[.tmp t,.tmp u])(ht:Nat.blt t n=true)(hu:Nat.blt u n=true)(hv:F t=v)(hx:F u=x)(h:R (.returned (.tuple #[v,x])) w):bodyPost P fn R .ret (fr n F) w :=
 ⟨rfl,.tuple #[v,x],by
  have e1:=b3p (P:=P) (w:=w) (r:=.tmp t) (v:=v) ⟨ht,hv⟩
  have e2:=b3p (P:=P) (w:=w) (r:=.tmp u) (v:=x) ⟨hu,hx⟩
  rw [b2t,hr]
  simp only [List.mapM_toArray,List.mapM_cons,List.mapM_nil,Sem.run_bind,Sem.run_map,e1,e2,Result.andThen_ok,Sem.run_pure]
  rfl,h⟩
theorem d10 {T E:TypeId}{x y:Operand}{p:Option Addr}(hT:P.underlying T=some (.pointer E)) :
 Y0 P w (do eqGuard .eql T x y (.pointer p) (.pointer none); binOp .eql T (.pointer p) (.pointer none)) (.bool p.isNone):=by
 have h:∀ d:Nat,(Op.equalIn (d+1) T (.pointer p) (.pointer none)).run P w=.ok p.isNone w:=fun d=>by
  cases p<;>simp [Op.equalIn,run_underlying hT]
 show Sem.run P (do eqGuard .eql T x y (.pointer p) (.pointer none); pure (Value.bool (<- Op.equalIn 10000 T (.pointer p) (.pointer none)))) w=_
 have hg:eqGuard .eql T x y (.pointer p) (.pointer none)=pure ():=rfl
 rw [hg]
 simp only [Sem.run_bind,Sem.run_pure,Result.andThen_ok,h 9999]
theorem d2K {T E:TypeId}{x y:Operand}{a:Addr}{j:TypeInfo}(hT:P.underlying T=some (.pointer E))(hj:P.info? E=some j) :
 Y0 P w (do eqGuard .neq T x y (.pointer (some a)) (.pointer (some a)); binOp .neq T (.pointer (some a)) (.pointer (some a))) (.bool false):=by
 have hg:eqGuard .neq T x y (.pointer (some a)) (.pointer (some a))=pure ():=rfl
 show Sem.run P (do eqGuard .neq T x y (.pointer (some a)) (.pointer (some a)); binOp .neq T (.pointer (some a)) (.pointer (some a))) w=_
 rw [hg]
 simp only [Sem.run_bind,Sem.run_pure,Result.andThen_ok]
 exact Lib.run_neq_ptr_same w a hT hj
theorem a81 {f:FuncId}{xs:List Operand}{ats:Array TypeId}(vs:List Value){R:Ending->World->Prop}(hvs:xs.map (ev F)=vs)(hk:xs.all (Q1 n)=true)(hb:a16 P f)(hc:Calls P f vs.toArray w R)
 (hR:∀ e w',R e w'->∃ v,e=.returned v/\wpList P ops Q rest (fr n (K4 F d v)) w') :
 wpList P ops Q (⟨d,.call ⟨.value (.func f),xs.toArray,ats⟩,ty,pos,aft,none⟩::rest) (fr n F) w:=by
 subst hvs
 refine b04 (σ:=⟨w,fun _=>(0,0)⟩) (E:=fun _=>True) (R:=fun v τ=>wpList P ops Q rest (fr n (K4 F d v)) τ.w) rfl (.inl ⟨hb,hc.mono fun e w' h=>?_⟩) (c1I hk w) (fun v τ _ h=>h)
 obtain ⟨v,e1,h2⟩:=hR e w' h
 exact ⟨v,⟨w',fun _=>(0,0)⟩,e1,rfl,trivial,h2⟩
theorem Bw.grown {B:Nat}{w w':World}{v:Value}(h:w.grownBy w' v.ownBlock)(hd:w.drawn<=w'.drawn)(hv:∀ g,v.ownBlock=some g->B<=g)(hB:B<=w.heap.size):Bw B w w' :=
 ⟨⟨h.os,h.tape,h.output,h.size,fun k hk=>h.block k (by omega) (fun e=>by have:=hv k e.symm; omega)⟩,hd⟩
theorem c1S {B:Nat}{T:TypeId}{s n:Nat}{v:Value}{xs:List Value}(h:w.ownsRow B T s v n xs):∀ g,v.ownBlock=some g->B<=g:=by
 intro g hg
 rcases h.2 with ⟨rfl,_⟩ | ⟨g',cap,cur,rfl,hb,_⟩
 ·cases hg
 ·cases hg; exact hb
theorem d1K {T E:TypeId}{i:TypeInfo}{z v:Value}{x:Operand}(hu:P.underlying T=some (.slice E))(hi:P.info? E=some i)(hz:i.zero=some z)(hs:i.size=1)(hzs:z.cells.size=1)(hx:ev F x=v)(hk:Q1 n x=true)(hv:v.cells.toList=[v])(hv2:v.cells.size=1)
 (h:wpList P ops Q rest (fr n (K4 F d (.slice (some ⟨w.heap.size,0,none⟩) 1 1))) (w.alloc (.cells #[v] E))) :
 wpList P ops Q (⟨d,.buildSlice T 1 #[(0,x)],ty,pos,aft,none⟩::rest) (fr n F) w:=by
 refine J5 rfl (.slice (some ⟨w.heap.size,0,none⟩) 1 1) (w.alloc (.cells #[v] E)) ?_ h
 have hfill:=c1A 1 (Nat.zero_lt_one) [v] 0 (((Array.range 1).map (z.cells[·%z.cells.size]!)).toList) (by simp) (by simp [hv2])
 simp only [Nat.zero_mul,List.take_zero,List.nil_append,Array.toArray_toList] at hfill
 show Sem.run P (do pure (Next.value (<- Instr.buildSlice T 1 (#[(0,x)].map fun (i,x)=>(i,(fr n F).eval x))))) w=_
 have he:(#[((0:Nat),x)].map fun (i,x)=>(i,(fr n F).eval x))=#[(0,v)]:=by simp [Z1 hk,hx]
 rw [he]
 have hrun:(Instr.buildSlice T 1 #[(0,v)]).run P w=.ok (.slice (some ⟨w.heap.size,0,none⟩) 1 1) (w.alloc (.cells #[v] E)):=by
  unfold Instr.buildSlice
  simp only [List.zipIdx_cons,List.zipIdx_nil,List.map_cons,List.map_nil] at hfill
  rw [<- hs] at hfill
  simp only [Sem.run_bind,run_underlying hu,Result.andThen_ok,sizeOf,typeInfo,run_program,hi,Sem.run_pure,hs,Nat.one_mul,if_neg (show ¬ (1:Nat)>2^24 by decide),if_neg (show ¬ (1:Nat)=0 by decide),zeroValue,hz,newRow,run_newObj]
  rw [hs] at hfill
  simp only [hfill,Sem.run_pure,Result.andThen_ok,Sem.run_bind,run_newObj]
  simp [hv]
 rw [Sem.run_bind,hrun]
 rfl
end
end Go.Qx
end
section
namespace Go.Qx
open Go Go.RowKit Go.Sx
set_option maxHeartbeats 1600000
set_option maxRecDepth 100000
abbrev J8 (b:Nat):Value:=.pointer (some ⟨b,0,none⟩)
theorem c5n:b2K Go.Proofs.Tryz.prog 156 0 0:=⟨_,_,Go.Proofs.Tryz.underlying156,rfl,rfl,by kernel_rfl⟩
theorem c2m:b2K Go.Proofs.Tryz.prog 156 1 1:=⟨_,_,Go.Proofs.Tryz.underlying156,rfl,rfl,by kernel_rfl⟩
theorem c5G:a2H Go.Proofs.Tryz.prog 153:=⟨_,Go.Proofs.Tryz.underlying153,rfl,by kernel_rfl⟩
theorem c5j:a2H Go.Proofs.Tryz.prog 154:=⟨_,Go.Proofs.Tryz.underlying154,rfl,by kernel_rfl⟩
theorem d0G (x:Value)(w:World):(callFunc 223 [x].toArray).run Go.Proofs.Tryz.prog w=.ok (.value x) w:=by
 have hn:Extern.findNext Go.Proofs.Tryz.f223=none:=by kernel_rfl
 have he:Extern.find Go.Proofs.Tryz.f223=some Extern.AbiNoEscape.same:=by kernel_rfl
 rw [run_callFunc_extern Go.Proofs.Tryz.func223 (by kernel_rfl) (by kernel_rfl) hn he]
 rfl
theorem d16 {b B:Nat}{bs:List Value}{p:Value}{w:World}(hp:p=.pointer none\/p=J8 b)(h:Lib.BuilderAt 156 5 B b p bs w) :
 Calls Go.Proofs.Tryz.prog 183 [J8 b].toArray w fun e w'=>e=.returned (.tuple #[])/\Lib.BuilderAt 156 5 B b (J8 b) bs w'/\Bw B w w':=by
 obtain ⟨j,hj,hjs⟩:∃ j,Go.Proofs.Tryz.prog.info? 156=some j/\j.size=2:=Option.map_eq_some_iff.1 (by kernel_rfl)
 obtain ⟨hB,v,hb,hown,hne⟩:=h
 have c0:w.cell? ⟨b,0,none⟩=some p:=by simp [World.cell?,hb]
 refine c1c 20 Go.Proofs.Tryz.func183 rfl rfl rfl ?_
 refine wp_seq (wp_region_lit ?_)
 refine a1R (J8 b) rfl rfl ?_
 refine a3F ⟨b,0,none⟩ rfl rfl ?_
 refine a1c b 0 0 0 rfl rfl c5n rfl ?_
 refine a4e b 0 p rfl rfl (a3Q c5G c0) ?_
 rcases hp with rfl | rfl
 ·refine a9o (.pointer none) (.pointer none) (.bool true) rfl rfl rfl rfl (d10 Go.Proofs.Tryz.underlying153) ?_
  refine wpList_nil (a0h ?_)
  refine b88 rfl rfl rfl (wp_region_lit ?_)
  refine a1R (J8 b) rfl rfl ?_
  refine a1R (J8 b) rfl rfl ?_
  have hsh:w.shape? b=some (156,2):=by simp [World.shape?,hb]
  refine c2x rfl rfl (Lib.run_to_unsafe (e:=156) (cells:=2) w ⟨b,0,none⟩ Go.Proofs.Tryz.underlying153 Go.Proofs.Tryz.underlying227 hj (by rw [hjs]; decide) hsh (Nat.zero_lt_succ 1)) ?_
  refine d3o [J8 b] (J8 b) rfl rfl (d0G _ w) ?_
  refine c2x rfl rfl (Lib.run_from_unsafe (e:=156) (cells:=2) w ⟨b,0,none⟩ Go.Proofs.Tryz.underlying227 Go.Proofs.Tryz.underlying153 hj hsh (by kernel_rfl)) ?_
  refine a3F ⟨b,0,none⟩ rfl rfl ?_
  refine a1c b 0 0 0 rfl rfl c5n rfl ?_
  refine c1a (cs:=[.pointer none,v]) hb 0 (J8 b) rfl rfl rfl rfl rfl (by kernel_rfl) rfl (Nat.zero_lt_succ 1) ?_
  refine wpList_nil (d19 rfl ⟨rfl,⟨hB,v,?_,?_,hne⟩,Bw.setCells hB 0 _ w⟩)
  ·have:=a6P b 156 [J8 b] 0 w [.pointer none,v] hb (Nat.le_succ 1)
   exact this
  ·obtain ⟨h1,h2⟩:=hown
   refine ⟨h1,h2.imp id fun ⟨g,cap,cur,e,hg,hh,r⟩=>⟨g,cap,cur,e,hg,?_,r⟩⟩
   rw [a4D b _ 0 w g (by rintro rfl; rw [e] at hne; exact hne rfl)]
   exact hh
 ·refine a9o (J8 b) (.pointer none) (.bool false) rfl rfl rfl rfl (d10 Go.Proofs.Tryz.underlying153) ?_
  refine wpList_nil (a0h ?_)
  refine b2F rfl rfl rfl (wp_seq (wp_region_lit ?_))
  refine a1R (J8 b) rfl rfl ?_
  refine a3F ⟨b,0,none⟩ rfl rfl ?_
  refine a1c b 0 0 0 rfl rfl c5n rfl ?_
  refine a4e b 0 (J8 b) rfl rfl (a3Q c5G c0) ?_
  refine a1R (J8 b) rfl rfl ?_
  refine a9o (J8 b) (J8 b) (.bool false) rfl rfl rfl rfl (d2K Go.Proofs.Tryz.underlying153 hj) ?_
  refine wpList_nil (a0h ?_)
  refine b2F rfl rfl rfl (wp_skip (d19 rfl ⟨rfl,⟨hB,v,hb,hown,hne⟩,Bw.refl B w⟩))
theorem d2j:a16 Go.Proofs.Tryz.prog 183:=⟨_,_,Go.Proofs.Tryz.func183,rfl,by kernel_rfl⟩
theorem c8t {b B:Nat}{bs:List Value}{w:World}(h:Lib.IsBuilder 156 5 B b bs w):∃ p,(p=.pointer none\/p=J8 b)/\Lib.BuilderAt 156 5 B b p bs w :=
 h.elim (fun h=>⟨_,.inl rfl,h⟩) (fun h=>⟨_,.inr rfl,h⟩)
theorem d3u {b B:Nat}{cs:List Value}{w w':World}{v v':Value}(hB:B<=b)(hb:w.heap[b]?=some (.cells #[J8 b,v] 156 (0,0)))(hne:v.ownBlock≠some b)(hg:w.grownBy w' v.ownBlock)(hown:w'.ownsRow B 5 1 v' cs.length cs)(hne':v'.ownBlock≠some b) :
 w'.heap[b]?=some (.cells #[J8 b,v] 156 (0,0))/\Lib.BuilderAt 156 5 B b (J8 b) cs (w'.setCells b 1 [v']):=by
 have hlt:b<w.heap.size:=(Array.getElem?_eq_some_iff.1 hb).1
 have h1:w'.heap[b]?=some (.cells #[J8 b,v] 156 (0,0)):=by rw [hg.block b hlt fun e=>hne e.symm]; exact hb
 refine ⟨h1,hB,v',?_,?_,hne'⟩
 ·exact a6P b 156 [v'] 1 w' [J8 b,v] h1 (Nat.le_refl 2)
 ·obtain ⟨a1,a2⟩:=hown
  refine ⟨a1,a2.imp id fun ⟨g,cap,cur,e,hg,hh,r⟩=>⟨g,cap,cur,e,hg,?_,r⟩⟩
  rw [a4D b _ 1 w' g (by rintro rfl; rw [e] at hne'; exact hne' rfl)]
  exact hh
theorem c87 {b B:Nat}{T:TypeId}{cs:List Value}{w w':World}{v v':Value}{n:Nat}(hlt:b<w.heap.size)(hb:w.heap[b]?=some (.cells #[J8 b,v] 156 (0,0)))(hne:v.ownBlock≠some b)(hg:w.grownBy w' v.ownBlock)(hown:w'.ownsRow B 5 1 v' n cs):v'.ownBlock≠some b:=by
 intro e
 rcases hown.2 with ⟨rfl,_⟩ | ⟨g,cap,cur,rfl,_,hh,_⟩
 ·cases e
 ·cases e
  rw [hg.block g hlt fun e=>hne e.symm,hb] at hh
  cases hh
theorem bws {b B:Nat}{bs:List Value}{s:ByteArray}{w:World}(h:Lib.IsBuilder 156 5 B b bs w)(hlen:bs.length+s.size<=1000000000)(hBw:B<=w.heap.size) :
 Calls Go.Proofs.Tryz.prog 136 [J8 b,.string s].toArray w fun e w'=>(∃ v,e=.returned v)/\Lib.BuilderAt 156 5 B b (J8 b) (bs++Lib.strCells s) w'/\Bw B w w':=by
 obtain ⟨p,hp,h⟩:=c8t h
 obtain ⟨i,hi,hz⟩:∃ i,Go.Proofs.Tryz.prog.info? 5=some i/\(i.zero,i.size,i.bytes)=(some (.int .u8 0),1,1):=Option.map_eq_some_iff.1 (by kernel_rfl)
 simp only [Prod.mk.injEq] at hz
 refine c1c 19 Go.Proofs.Tryz.func136 rfl rfl rfl ?_
 refine wp_seq (wp_region_lit ?_)
 refine a3r (.int .i64 0) rfl rfl ?_
 refine a3r .nilIface rfl rfl ?_
 refine wpList_nil (a0h (wp_seq (wp_region_lit ?_)))
 refine a1R (J8 b) rfl rfl ?_
 refine a81 [J8 b] rfl rfl d2j (d16 hp h) ?_
 rintro e w1 ⟨rfl,hat,hbw⟩
 refine ⟨_,rfl,?_⟩
 refine wpList_nil (a0h (wp_seq (wp_region_lit ?_)))
 obtain ⟨hB,v,hb,hown,hne⟩:=hat
 have c1:w1.cell? ⟨b,1,none⟩=some v:=by simp [World.cell?,hb]
 have hlt:b<w1.heap.size:=(Array.getElem?_eq_some_iff.1 hb).1
 refine a1R (J8 b) rfl rfl ?_
 refine a1R (J8 b) rfl rfl ?_
 refine a3F ⟨b,0,none⟩ rfl rfl ?_
 refine a1c b 0 1 1 rfl rfl c2m rfl ?_
 refine a4e b 1 v rfl rfl (a3Q c5j c1) ?_
 refine a1R (.string s) rfl rfl ?_
 obtain ⟨v',w2,hr,hown',hg,_⟩:=Lib.run_append_own_string (P:=Go.Proofs.Tryz.prog) (w:=w1) B 154 9 154 5 i Go.Proofs.Tryz.underlying154 Go.Proofs.Tryz.underlying9 hi hz.1 hz.2.1 hz.2.2 v bs.length bs hown s (by unfold maxLen; omega) (by omega) (Nat.le_trans hBw hbw.below.size)
 refine c3S rfl rfl rfl rfl hr ?_
 have hd:=b4w _ hr
 have hl:bs.length+s.size=(bs++Lib.strCells s).length:=by rw [List.length_append,Lib.strCells_length]
 rw [hl] at hown'
 have hne':=c87 (T:=5) hlt hb hne hg hown'
 obtain ⟨hb2,hat2⟩:=d3u hB hb hne hg hown' hne'
 refine a3F ⟨b,0,none⟩ rfl rfl ?_
 refine a1c b 0 1 1 rfl rfl c2m rfl ?_
 have hv1:v'.cells.toList=[v']/\v'.oneCell'=true:=by
  rcases hown'.2 with ⟨rfl,_⟩ | ⟨g,cap,cur,rfl,_⟩
  ·exact ⟨rfl,rfl⟩
  ·exact ⟨rfl,rfl⟩
 refine c1a (cs:=[J8 b,v]) hb2 1 v' rfl rfl rfl rfl hv1.1 (by kernel_rfl) hv1.2 (Nat.lt_succ_self 1) ?_
 refine wpList_nil (a0h (wp_seq (wp_region_lit ?_)))
 refine a1R (.string s) rfl rfl ?_
 refine c6r s rfl rfl Go.Proofs.Tryz.underlying9 ?_
 refine a3r (.int .i64 (s.size:Int)) rfl rfl ?_
 refine a3r .nilIface rfl rfl ?_
 refine wpList_nil (a0h (wp_ret (d5c (.int .i64 (s.size:Int)) .nilIface rfl rfl rfl rfl rfl ⟨⟨_,rfl⟩,hat2,?_⟩)))
 exact hbw.trans ((Bw.grown hg hd (c1S hown) (Nat.le_trans hBw hbw.below.size)).trans (Bw.setCells hB 1 _ w2))
theorem bwb {b B:Nat}{bs:List Value}{c:Int}{w:World}(h:Lib.IsBuilder 156 5 B b bs w)(hlen:bs.length+1<=1000000000)(hBw:B<=w.heap.size) :
 Calls Go.Proofs.Tryz.prog 135 [J8 b,.int .u8 c].toArray w fun e w'=>(∃ v,e=.returned v)/\Lib.BuilderAt 156 5 B b (J8 b) (bs++[.int .u8 c]) w'/\Bw B w w':=by
 obtain ⟨p,hp,h⟩:=c8t h
 obtain ⟨i,hi,hz⟩:∃ i,Go.Proofs.Tryz.prog.info? 5=some i/\(i.zero,i.size,i.bytes)=(some (.int .u8 0),1,1):=Option.map_eq_some_iff.1 (by kernel_rfl)
 simp only [Prod.mk.injEq] at hz
 refine c1c 17 Go.Proofs.Tryz.func135 rfl rfl rfl ?_
 refine wp_seq (wp_region_lit ?_)
 refine a3r .nilIface rfl rfl ?_
 refine wpList_nil (a0h (wp_seq (wp_region_lit ?_)))
 refine a1R (J8 b) rfl rfl ?_
 refine a81 [J8 b] rfl rfl d2j (d16 hp h) ?_
 rintro e w1 ⟨rfl,hat,hbw⟩
 refine ⟨_,rfl,?_⟩
 refine wpList_nil (a0h (wp_seq (wp_region_lit ?_)))
 obtain ⟨hB,v,hb,hown,hne⟩:=hat
 have c1:w1.cell? ⟨b,1,none⟩=some v:=by simp [World.cell?,hb]
 have hlt:b<w1.heap.size:=(Array.getElem?_eq_some_iff.1 hb).1
 refine a1R (J8 b) rfl rfl ?_
 refine a1R (J8 b) rfl rfl ?_
 refine a3F ⟨b,0,none⟩ rfl rfl ?_
 refine a1c b 0 1 1 rfl rfl c2m rfl ?_
 refine a4e b 1 v rfl rfl (a3Q c5j c1) ?_
 refine a1R (.int .u8 c) rfl rfl ?_
 refine d1K (v:=.int .u8 c) Go.Proofs.Tryz.underlying154 hi hz.1 hz.2.1 rfl rfl rfl rfl rfl ?_
 have hbw1:Bw B w1 (w1.alloc (.cells #[.int .u8 c] 5)):=⟨(Below.refl _ _).alloc (Nat.le_trans hBw hbw.below.size) _,Nat.le_refl _⟩
 have hb1:(w1.alloc (.cells #[.int .u8 c] 5)).heap[b]?=some (.cells #[J8 b,v] 156 (0,0)):=by rw [heap_alloc_old _ _ hlt]; exact hb
 have hown1:(w1.alloc (.cells #[.int .u8 c] 5)).ownsRow B 5 1 v bs.length bs:=by
  obtain ⟨a1,a2⟩:=hown
  refine ⟨a1,a2.imp id fun ⟨g,cap,cur,e,hg,hh,r⟩=>⟨g,cap,cur,e,hg,?_,r⟩⟩
  rw [heap_alloc_old _ _ (Array.getElem?_eq_some_iff.1 hh).1]
  exact hh
 have hlt1:b<(w1.alloc (.cells #[.int .u8 c] 5)).heap.size:=(Array.getElem?_eq_some_iff.1 hb1).1
 have hBw1:=Nat.le_trans (Nat.le_trans hBw hbw.below.size) hbw1.below.size
 obtain ⟨v',w2,hr,hown',hg,_⟩:=run_append_own (P:=Go.Proofs.Tryz.prog) (w:=w1.alloc (.cells #[.int .u8 c] 5)) B 154 154 5 i (.int .u8 0) 1 1 Go.Proofs.Tryz.underlying154 hi hz.1 hz.2.1 hz.2.2 rfl Nat.zero_lt_one v bs.length bs hown1 ⟨w1.heap.size,0,none⟩ 1 1 [.int .u8 c] rfl (fun j u hj=>by
  have hj0:j=0:=by
   rcases j with _ | j
   ·rfl
   ·simp at hj
  subst hj0
  simp at hj
  subst hj
  rw [show (Addr.add ⟨w1.heap.size,0,none⟩ 0:Addr)=⟨w1.heap.size,0,none⟩ from rfl,World.cell?,heap_alloc_new]
  rfl) (fun u hu=>by simp at hu; subst hu; rfl) (by unfold maxLen; omega) (by omega) hBw1
 refine c3S rfl rfl rfl rfl hr ?_
 have hd:=b4w _ hr
 rw [show bs.length+1=(bs++[Value.int .u8 c]).length by simp] at hown'
 have hne':=c87 (T:=5) hlt1 hb1 hne hg hown'
 obtain ⟨hb2,hat2⟩:=d3u hB hb1 hne hg hown' hne'
 refine a3F ⟨b,0,none⟩ rfl rfl ?_
 refine a1c b 0 1 1 rfl rfl c2m rfl ?_
 have hv1:v'.cells.toList=[v']/\v'.oneCell'=true:=by
  rcases hown'.2 with ⟨rfl,_⟩ | ⟨g,cap,cur,rfl,_⟩
  ·exact ⟨rfl,rfl⟩
  ·exact ⟨rfl,rfl⟩
 refine c1a (cs:=[J8 b,v]) hb2 1 v' rfl rfl rfl rfl hv1.1 (by kernel_rfl) hv1.2 (Nat.lt_succ_self 1) ?_
 refine wpList_nil (a0h (wp_seq (wp_region_lit ?_)))
 refine a3r .nilIface rfl rfl ?_
 refine wpList_nil (a0h (wp_ret (d4B .nilIface rfl rfl rfl ⟨⟨_,rfl⟩,hat2,?_⟩)))
 exact hbw.trans (hbw1.trans ((Bw.grown hg hd (c1S hown1) hBw1).trans (Bw.setCells hB 1 _ w2)))
end Go.Qx
end
section
namespace Go.Proofs
open Go.RowKit
set_option maxRecDepth 100000
set_option maxHeartbeats 4000000 in
theorem Tryz.bstr1 {b g cap:Nat}{cur:Array Value}{p:Value}{l:List UInt8}{w:World}(hb:w.heap[b]?=some (.cells #[p,.slice (some ⟨g,0,none⟩) l.length cap] 156 (0,0)))(hg:w.heap[g]?=some (.cells cur 5 (0,0)))
 (h0:l≠[]) (hnc:l.length<=cap) (hcs:cur.size=cap) (hcm:l.length<=1000000000) (hc:∀ (j:Nat) (x:UInt8),l[j]?=some x->cur[j]?=some (Value.int IntKind.u8 (x.toNat:Int))) :
 Calls Tryz.prog 138 #[.pointer (some ⟨b,0,none⟩)] w fun e w'=>e=.returned (.string ⟨l.toArray⟩)/\w'=w.drew.freeze ⟨g,0,none⟩ l.length:=by
 have hl0:l.length≠0:=by simpa using h0
 have hb':w.drew.heap[b]?=some (.cells #[p,.slice (some ⟨g,0,none⟩) l.length cap] 156 (0,0)):=hb
 have hg':w.drew.heap[g]?=some (.cells cur 5 (0,0)):=hg
 have c1:w.drew.cell? ⟨b,1,none⟩=some (.slice (some ⟨g,0,none⟩) l.length cap):=by simp [World.cell?,hb']
 have hSD:(Builtin.unsafeSliceData_ #[154] 193 #[.slice (some ⟨g,0,none⟩) l.length cap]).run Tryz.prog w.drew=.ok (.pointer (some ⟨g,0,none⟩)) w.drew :=
  Lib.run_unsafeSliceData_row _ _ _ _ _ _ (by omega)
 have hUS:(Builtin.unsafeString_ #[193,3] 9 #[.pointer (some ⟨g,0,none⟩),.int .i64 l.length]).run Tryz.prog w.drew=.ok (.string ⟨l.toArray⟩) (w.drew.freeze ⟨g,0,none⟩ l.length) :=
  Lib.run_unsafeString_row w.drew 193 3 9 5 Tryz.underlying193 (by kernel_rfl) g cur.size (by simp [World.shape?,hg']) l h0 (by omega) (by omega) (fun j x hx=>by
   have:=hc j x hx
   have e:((⟨g,0,none⟩:Addr).add j)=⟨g,j,none⟩:=by rcases j with _ | j<;>simp [Addr.add]
   rw [e]
   simp [World.cell?,hg',this])
 go_enter Tryz.func138,Tryz.ntmps138
 go_wp2
 go_region
 all_goals (go_wp2; go_ret; exact ⟨rfl,rfl⟩)
set_option maxHeartbeats 4000000 in
theorem Tryz.bstr0 {b:Nat}{p:Value}{w:World}(hb:w.heap[b]?=some (.cells #[p,.slice none 0 0] 156 (0,0))) :
 Calls Tryz.prog 138 #[.pointer (some ⟨b,0,none⟩)] w fun e w'=>e=.returned (.string ⟨#[]⟩)/\w'=w.drew:=by
 have hb':w.drew.heap[b]?=some (.cells #[p,.slice none 0 0] 156 (0,0)):=hb
 have c1:w.drew.cell? ⟨b,1,none⟩=some (.slice none 0 0):=by simp [World.cell?,hb']
 have hSD:(Builtin.unsafeSliceData_ #[154] 193 #[.slice none 0 0]).run Tryz.prog w.drew=.ok (.pointer none) w.drew:=Lib.run_unsafeSliceData_nil _ _ _ _ _
 have hUS:(Builtin.unsafeString_ #[193,3] 9 #[.pointer none,.int .i64 0]).run Tryz.prog w.drew=.ok (.string .empty) w.drew:=Lib.run_unsafeString_none _ _ _ _ _
 go_enter Tryz.func138,Tryz.ntmps138
 go_wp2
 go_region
 all_goals (go_wp2; go_ret; exact ⟨rfl,rfl⟩)
end Go.Proofs
end
section
namespace Go.Qx
open Go Go.RowKit Go.Sx
set_option maxHeartbeats 1600000
set_option maxRecDepth 100000
abbrev RK (r:Row I):Prop:=j5 Go.Proofs.Tryz.prog r
abbrev RO (r:Rio I):Prop:=b4s Go.Proofs.Tryz.prog r
def mkH (a:List (Nat×List (List Nat)))(b c:List (Nat×List Nat))(j:List (Nat×JH))(l:List (Nat×LH I))(k:List (Nat×KH I))(ns:List (Nat×NH I)):Hints I :=
 ⟨fun i=>(asc a i).getD [],fun i=>(asc b i).getD [],fun i=>(asc c i).getD [],asc j,asc l,asc k,asc ns⟩
def Y3:Hints I:=mkH [] [] [] [] [] [] []
structure En where
 ans:Ans I
 ok:EntOk Go.Proofs.Tryz.prog ans
def enL:List En->List (Ans I)
 | []=>[]
 | e::r=>e.ans::enL r
theorem c6c:∀ l:List En,c8K Go.Proofs.Tryz.prog (enL l)
 | []=>trivial
 | e::r=>⟨e.ok,c6c r⟩
def eR {r:Row I}(h:RK r):En:=⟨d4v tb r,d3a b2m h⟩
def eO {r:Rio I}(h:RO r):En:=⟨d3O tb r,d2S b2m h⟩
def eS {r:Row I}(T f j:Nat)(is:List Nat)(h:b0H Go.Proofs.Tryz.prog r (b93 T f j is)):En:=⟨d2b tb r (c2W T f j is),c6j b2m h (fun _ _ _ _ _ _ _ _ _ hO h hc hv=>c7X hO h hc hv)⟩
theorem okR {r:Row I}(l:List En){fn:Func}(nt:Nat)(H:Hints I)(rl:List ResultVar)(hf:(Go.Proofs.Tryz.prog).funcs[r.f]?=some fn)
 (h : (fn.body, fn.name == "runtime.NumGoroutine", fn.ntmps, fn.results.toList, Nat.ble r.ps.length nt, a38 H (c8B fn) 1, r.run) = (some (c8B fn), false, nt, rl, true, true, c08 r.ps (d14 tb (c2i (enL l) 3) H (c8B fn) nt r.ps r.rs rl))) : RK r := by
 simp only [Prod.mk.injEq] at h
 obtain ⟨h1,h2,h3,h4,h5,h6,h7⟩:=h
 exact d3v b2m (c1G (c6c l) 3) mixed nt hf h1 h2 h3 h4 h5 h6 h7
def d23:Row I:=⟨252,[.d (.str),.d (.str)],[.k (.d (.int .i64))],c42⟩
theorem d4j:j5 Go.Proofs.Tryz.prog d23:=d4c Go.Proofs.Tryz.func252 (by kernel_rfl) rfl (by kernel_rfl) (by kernel_rfl)
def d4b:Row I:=⟨64,[.d (.sl 3)],[.k (.row 3 false)],a0v 8⟩
theorem c4K:j5 Go.Proofs.Tryz.prog d4b:=a7n b2m mixed Go.Proofs.Tryz.func64 (by kernel_rfl) (by kernel_rfl) (by kernel_rfl) Go.Proofs.Tryz.underlying22 rfl (by kernel_rfl) (fun _=>by kernel_rfl)
def d2Q:Rio I:=⟨114,3,[],[],c3g⟩
theorem d3U:b4s Go.Proofs.Tryz.prog d2Q:=c9c (I:=I) (E:=3) Go.Proofs.Tryz.lay114 114 (by kernel_rfl) (fun x=>x) Iff.rfl ⟨_,_,Go.Proofs.Tryz.func114,rfl,by kernel_rfl⟩
def d4o:Rio I:=⟨76,9,[],[],b2A⟩
theorem d1Q:b4s Go.Proofs.Tryz.prog d4o:=c9d (I:=I) (E:=9) Go.Proofs.Tryz.lay76 76 (by kernel_rfl) (fun x=>x) Iff.rfl ⟨_,_,Go.Proofs.Tryz.func76,rfl,by kernel_rfl⟩
noncomputable def d2Z:Rio I:=⟨231,126,[.fn [.dat 126,.dat 126] [.k (.d (.int .i64))]],[],b7y⟩
theorem d4l:b4s Go.Proofs.Tryz.prog d2Z:=c9I Go.Proofs.Tryz.lay231 231 (by kernel_rfl) (by kernel_rfl) Go.Proofs.Tryz.underlying126 (by kernel_rfl)
def d3z:Row I:=⟨42,[.d (.sl 9)],[.k (.row 9 false)],a0v 16⟩
theorem c8o:j5 Go.Proofs.Tryz.prog d3z:=a7n b2m mixed Go.Proofs.Tryz.func42 (by kernel_rfl) (by kernel_rfl) (by kernel_rfl) Go.Proofs.Tryz.underlying31 rfl (by kernel_rfl) (fun _=>by kernel_rfl)
def d3f:Row I:=⟨169,[.d (.sl 33)],[.k (.row 33 false)],a0v 128⟩
theorem d3M:j5 Go.Proofs.Tryz.prog d3f:=a7n b2m mixed Go.Proofs.Tryz.func169 (by kernel_rfl) (by kernel_rfl) (by kernel_rfl) Go.Proofs.Tryz.underlying28 rfl (by kernel_rfl) (fun _=>by kernel_rfl)
def b8x:Hints I:=mkH [] [] [] [] [(26,⟨65532,[],[],[(3,.k (.d (.int .i64)))],[((.exit 0),[]),(.ret,[(2,.k (.d (.bool)))])],bnd tb (.len (.slot 0)) 1⟩)] [] []
def b6y:Row I:=⟨7,[.d (.sl 22)],[.k (.d (.bool))],a5J⟩
theorem b7N:RK (b6y) :=
 okR [] 16 b8x [.tmp 2] Go.Proofs.Tryz.func7 (by kernel_rfl)
def b7m:Hints I:=mkH [] [] [] [(29,⟨16776824,[],[],[(.normal,[(3,.k (.d (.bool))),(4,.k (.d (.bool))),(5,.k (.d (.bool))),(6,.k (.d (.bool)))])]⟩),
 (941,⟨26624,[],[],[(.normal,[(11,.k (.d (.bool)))])]⟩),
 (3773,⟨4096000,[],[],[(.normal,[(15,.k (.d (.bool)))])]⟩)] [] [] []
def b5s:Row I:=⟨60,[.d (.dat 65)],[.k (.d (.bool))],a5x⟩
theorem b6i:RK (b5s) :=
 okR [] 67 b7m [.tmp 2] Go.Proofs.Tryz.func60 (by kernel_rfl)
def c26:Hints I:=mkH [] [] [] [] [(58,⟨34351349952,[],[],[(7,.k (.d (.int .i64)))],[((.exit 0),[]),(.ret,[(6,.k (.d (.bool)))])],bnd tb (.len (.slot 0)) 1⟩)] [] []
def c1f:Row I:=⟨170,[.d (.str),.fn [.int .u8] [.k (.d (.bool))],.fn [.int .u8] [.k (.d (.bool))]],[.k (.d (.bool))],a7w⟩
theorem b4r:RK (c1f) :=
 okR [] 35 c26 [.tmp 6] Go.Proofs.Tryz.func170 (by kernel_rfl)
def c0v:Row I:=⟨171,[.d (.int .u8)],[.k (.d (.bool))],a5j⟩
theorem a8D:RK (c0v) :=
 okR [] 9 Y3 [.tmp 2] Go.Proofs.Tryz.func171 (by kernel_rfl)
def c0r:Row I:=⟨173,[.d (.int .u8)],[.k (.d (.bool))],a6L⟩
theorem b3H:RK (c0r) :=
 okR [] 9 Y3 [.tmp 2] Go.Proofs.Tryz.func173 (by kernel_rfl)
def b8H:Row I:=⟨172,[.d (.int .u8)],[.k (.d (.bool))],b0r⟩
theorem c0q:RK (b8H) :=
 okR [eR a8D,eR b3H] 13 Y3 [.tmp 2] Go.Proofs.Tryz.func172 (by kernel_rfl)
def c1K:Row I:=⟨119,[.d (.str)],[.k (.d (.bool))],a6f⟩
theorem a9K:RK (c1K) :=
 okR [eR b4r,eR a8D,eR c0q] 5 Y3 [.tmp 2] Go.Proofs.Tryz.func119 (by kernel_rfl)
def c0F:Row I:=⟨174,[.d (.int .u8)],[.k (.d (.bool))],a6N⟩
theorem b3Q:RK (c0F) :=
 okR [] 9 Y3 [.tmp 2] Go.Proofs.Tryz.func174 (by kernel_rfl)
def b5n:Row I:=⟨175,[.d (.int .u8)],[.k (.d (.bool))],a7C⟩
theorem b6w:RK (b5n) :=
 okR [eR a8D,eR b3Q,eR b3H] 17 Y3 [.tmp 2] Go.Proofs.Tryz.func175 (by kernel_rfl)
def b7I:Row I:=⟨120,[.d (.str)],[.k (.d (.bool))],a3p⟩
theorem a9X:RK (b7I) :=
 okR [eR b4r,eR b3Q,eR b6w] 5 Y3 [.tmp 2] Go.Proofs.Tryz.func120 (by kernel_rfl)
def b9S:Row I:=⟨176,[.d (.dat 130)],[.k (.d (.bool))],a4B⟩
theorem b1K:RK (b9S) :=
 okR [eR a9K] 16 Y3 [.tmp 2] Go.Proofs.Tryz.func176 (by kernel_rfl)
def c0G:Row I:=⟨238,[.d (.int .i64)],[.k (.d (.bool))],a8B⟩
theorem c1g:RK (c0G) :=
 okR [] 6 Y3 [.tmp 2] Go.Proofs.Tryz.func238 (by kernel_rfl)
def b8y:Row I:=⟨221,[.d (.int .i64),.d (.int .i64)],[.k (.d (.int .i64))],a0Q⟩
theorem a2t:RK (b8y) :=
 okR [eR c1g] 20 Y3 [.tmp 4] Go.Proofs.Tryz.func221 (by kernel_rfl)
def a79:Row I:=⟨239,[.d (.str),.d (.str)],[.k (.d (.int .i64))],a2I⟩
theorem a8t:RK (a79) :=
 okR [eR d4j] 8 Y3 [.tmp 4] Go.Proofs.Tryz.func239 (by kernel_rfl)
def b75:Row I:=⟨216,[.d (.str),.d (.str)],[.k (.d (.int .i64))],a0l⟩
theorem a7h:RK (b75) :=
 okR [eR a8t] 8 Y3 [.tmp 4] Go.Proofs.Tryz.func216 (by kernel_rfl)
def b6p:Row I:=⟨177,[.d (.dat 130),.d (.dat 130)],[.k (.d (.int .i64))],a0f⟩
theorem a6w:RK (b6p) :=
 okR [eR a2t,eR a7h] 19 Y3 [.tmp 4] Go.Proofs.Tryz.func177 (by kernel_rfl)
def b5G:Hints I:=mkH [(4,[[],[0],[0,1],[0,1,2],[0,1,2,3],[0,1,2,3,4],[0,1,2,3,4,5],[0,1,2,3,4,5,6],[0,1,2,3,4,5,6,7],[0,1,2,3,4,5,6,7],[0,1,2,3,4,5,6,7,9],[0,1,2,3,4,5,6,7,8,9,10],[0,1,2,3,4,5,6,7,8,9,10,11],[0,1,2,3,4,5,6,7,8,9,10,11,12],[0,1,2,3,4,5,6,7],[0,1,2,3,4,5,6,7,14],[0,1,2,3,4,5,6,7,8,9,10,11,12,13,14,15],[0,1,2,3,4,5,6,7,8,9,10,11,12,13,14,15,16],[0,1,2,3,4,5,6,7,8,9,10,11,12,13,14,15,16,17],[0,1,2,3,4,5,6,7,8,9,10,11,12,13,14,15,16,17,18]])] [] [] [] [(26,⟨8589934492,[],[],[(7,.k (.d (.int .i64)))],[((.exit 0),[]),(.ret,[(2,.k (.d (.bool)))])],bnd tb (.slot 6) 1⟩)] [] []
def b3I:Row I:=⟨121,[.d (.sl 148)],[.k (.d (.bool))],a4q⟩
theorem b3R:RK (b3I) :=
 okR [eR b1K,eR a6w] 33 b5G [.tmp 2] Go.Proofs.Tryz.func121 (by kernel_rfl)
def b6T:Hints I:=mkH [] [] [] [(105,⟨16288,[],[],[(.normal,[(5,.k (.d (.bool)))])]⟩),
 (28311549,⟨368934881474191032320,[],[],[(.normal,[(66,.k (.d (.bool)))])]⟩)] [] [] []
def b5u:Row I:=⟨61,[.d (.dat 65)],[.k (.d (.bool))],a5s⟩
theorem b5P:RK (b5u) :=
 okR [eR a9K,eR a9X,eR b3R] 79 b6T [.tmp 2] Go.Proofs.Tryz.func61 (by kernel_rfl)
def c05:Hints I:=mkH [] [] [] [] [(58,⟨4190248,[],[],[(3,.k (.row 3 false)),(12,.k (.d (.int .i64)))],[((.exit 0),[(3,.k (.row 3 false))])],bnd tb (.slot 11) 1⟩)] [] []
def b8G:Row I:=⟨62,[.d (.dat 65)],[.k (.row 3 false)],a7P⟩
theorem c0t:RK (b8G) :=
 okR [eR c4K] 35 c05 [.tmp 2] Go.Proofs.Tryz.func62 (by kernel_rfl)
def b5k:Row I:=⟨123,[.d (.int .i64)],[.k (.d (.bool))],a5p⟩
theorem b6e:RK (b5k) :=
 okR [] 13 Y3 [.tmp 2] Go.Proofs.Tryz.func123 (by kernel_rfl)
def b2Z (_:Nat):Hints I:=mkH [] [] [] [] [(122,⟨140462610448544,[],[(1,.k (.row 3 false))],[(38,.k (.d (.int .i64)))],[((.exit 0),[]),(.ret,[(5,.k (.d (.bool)))])],bnd tb (.slot 37) 1⟩)] [] []
def a35 (n:Nat):Row I:=⟨122,[.d (.int .i64),.var 22 (.k (.row 3 false)) true,.var 27 (.k (.d (.dat 27))) false,.var 106 (.k (.d .any)) false],[.k (.d (.bool))],Q6 n⟩
theorem b1q (n:Nat)(h_typeexpr_contractive_1:b0H Go.Proofs.Tryz.prog (a35 n) (b93 106 122 3 [1,2,3])):b0H Go.Proofs.Tryz.prog (a35 (n+1)) (b93 106 122 3 [1,2,3]) :=
 d2u b2m (c1G (c6c [eR b6e,eS 106 122 3 [1,2,3] h_typeexpr_contractive_1]) 3) mixed 50 (s0:=fun a=>d1W 106 122 3 3 [1,2,3] (b44 tb 50 [.d (.int .i64),.var 22 (.k (.row 3 false)) true,.var 27 (.k (.d (.dat 27))) false,.var 106 (.k (.d .any)) false] a)) (fn:=Go.Proofs.Tryz.f122) (cd:=c8B Go.Proofs.Tryz.f122) (H:=(b2Z n)) (rl:=[.tmp 5]) (fun X c σ a vs F h hv hC=>d1d rfl rfl rfl h hv hC) Go.Proofs.Tryz.func122 (by kernel_rfl) (by kernel_rfl) (by kernel_rfl) (by kernel_rfl) (by kernel_rfl) (by kernel_rfl) (by kernel_rfl)
theorem a7c:∀ n:Nat,b0H Go.Proofs.Tryz.prog (a35 n) (b93 106 122 3 [1,2,3])
 | 0=>c9D (Q8 (by kernel_rfl))
 | n+1=>b1q n (a7c n)
def b45 (_:Nat):Hints I:=mkH [] [] [] [] [(250,⟨4177956,[],[(3,.k (.row 3 false))],[(14,.k (.d (.int .i64)))],[((.exit 0),[]),(.ret,[(2,.k (.d (.bool)))])],bnd tb (.slot 13) 1⟩)] [] []
def b2X (n:Nat):Row I:=⟨63,[.d (.dat 27)],[.k (.d (.bool))],a4n n⟩
theorem b3Y (n:Nat):RK (b2X n) :=
 okR [eS 106 122 3 [1,2,3] (a7c n)] 22 (b45 n) [.tmp 2] Go.Proofs.Tryz.func63 (by kernel_rfl)
def b5Q (_:Nat):Hints I:=mkH [] [] [] [] [(58,⟨2251799811588180,[],[],[(21,.k (.d (.int .i64)))],[((.exit 0),[]),(.ret,[(2,.k (.d (.int .i64)))])],bnd tb (.slot 20) 1⟩),
 (29902,⟨1125831187365956,[34],[],[(36,.k (.d (.int .i64)))],[((.exit 2),[]),(.ret,[(2,.k (.d (.int .i64)))])],bnd tb (.slot 35) 1⟩)] [] []
def b3S (n:Nat):Row I:=⟨29,[.d (.dat 27)],[.k (.d (.int .i64))],a1g n⟩
theorem a8r (n:Nat):RK (b3S n) :=
 okR [eR b6i,eR b5P,eR c0t,eR (b3Y n)] 54 (b5Q n) [.tmp 2] Go.Proofs.Tryz.func29 (by kernel_rfl)
def c4d:Hints I:=mkH [(1,[[],[0],[0,1],[],[3],[0,1,2,3,4],[0,1,2,3,4,5],[]])] [] [] [] [(26,⟨268419152,[12],[],[(14,.k (.d (.int .i64)))],[((.exit 0),[]),(.ret,[(4,.k (.d (.bool)))])],bnd tb (.slot 13) 1⟩)] [] []
def c10:Row I:=⟨30,[.d (.dat 27),.d (.dat 37)],[.k (.d (.bool))],a8m⟩
theorem b6b:RK (c10) :=
 okR [eR c4K] 28 c4d [.tmp 4] Go.Proofs.Tryz.func30 (by kernel_rfl)
def b3C:Hints I:=mkH [(6,[[],[],[0,1],[0,1,2],[],[],[5],[4,5,6],[4,5,6,7],[0,1,2,3,4,5,6,7,8]]),(11,[[],[],[0,1],[0,1,2],[],[],[5],[4,5,6],[4,5,6,7],[0,1,2,3,4,5,6,7,8]])] [] [] [] [(58,⟨1152921504606846012,[],[],[(0,.k (.row 3 false)),(3,.k (.d (.int .i64)))],[((.exit 0),[(0,.k (.row 3 false))]),(.ret,[(2,.k (.row 3 false))])],bnd tb (.len (.slot 0)) 1⟩)] [(59690,⟨18014397972611112,0,3,[(3,.k (.d (.int .i64))),(5,.k (.d (.int .i64)))],[((.exit 2),[(3,.k (.d (.int .i64)))])],bnd tb (.len (.slot 4)) 1⟩)] []
def b1h:Row I:=⟨116,[.row 3 false],[.k (.row 3 false)],a3H⟩
theorem b1R:RK (b1h) :=
 okR [] 61 b3C [.tmp 2] Go.Proofs.Tryz.func116 (by kernel_rfl)
def b3W:Row I:=⟨115,[.d (.sl 3)],[.k (.row 3 true)],a60⟩
theorem b5c:RK (b3W) :=
 okR [] 9 Y3 [.tmp 2] Go.Proofs.Tryz.func115 (by kernel_rfl)
def c2n:Row I:=⟨58,[.d (.sl 3)],[.k (.row 3 true)],a5y⟩
theorem b5S:RK (c2n) :=
 okR [eR c4K,eO d3U,eR b1R,eR b5c] 11 Y3 [.tmp 2] Go.Proofs.Tryz.func58 (by kernel_rfl)
def c0z:Hints I:=mkH [(1,[[],[0],[0,1],[],[3],[0,1,2,3,4],[],[6],[0,1,2,3,4,5,6,7],[],[9],[0,1,2,3,4,5,6,7,8,9,10],[0,1,2,3,4,5,6,7,8,9,10,11],[0,1,2,3,4,5,6,7,8,9,10,11,12]])] [] [] [] [] [] []
def b8j:Row I:=⟨73,[.d (.dat 111)],[.lvs [.row 3 false,.row 3 false,.row 3 false,.row 3 false]],a5v⟩
theorem b0V:RK (b8j) :=
 okR [eR c4K] 16 c0z [.cell 2 111] Go.Proofs.Tryz.func73 (by kernel_rfl)
def b76:Hints I:=mkH [] [] [] [(29901,⟨4293918720,[],[(10,.lvs [.row 3 false,.row 3 false,.row 3 false,.row 3 false])],[(.normal,[])]⟩)] [(58,⟨137438946944,[],[],[(7,.k (.row 111 false)),(13,.k (.d (.int .i64)))],[((.exit 0),[(7,.k (.row 111 false))])],bnd tb (.slot 12) 1⟩)] [] []
def b6m:Row I:=⟨134,[.d (.dat 111),.d (.sl 3),.d (.bool)],[.k (.row 111 false)],a1X⟩
theorem b6W:RK (b6m) :=
 okR [eR b0V] 38 b76 [.tmp 6] Go.Proofs.Tryz.func134 (by kernel_rfl)
def b8A:Hints I:=mkH [(14,[[],[0],[],[2],[2,3],[2,3,4],[2,3,4,5],[0,1,2,3,4,5,6],[0,1,2,3,4,5,6,7],[0,1,2,3,4,5,6,7,8]]),(30,[[],[0],[],[2],[2,3],[2,3,4],[2,3,4,5],[0,1,2,3,4,5,6],[0,1,2,3,4,5,6,7],[0,1,2,3,4,5,6,7,8]])] [] [] [(509,⟨170141183455517471574545782616287608848,[],[(2,.lvs [.d (.sl 3),.d (.sl 3),.d (.sl 3),.d (.sl 3)])],[(.normal,[]),(.ret,[(4,.k (.row 111 false))])]⟩),
 (1757,⟨590295810341525782544,[],[(2,.lvs [.d (.sl 3),.d (.sl 3),.d (.sl 3),.d (.sl 3)])],[(.normal,[]),(.ret,[(4,.k (.row 111 false))])]⟩)] [] [] []
def b6K:Row I:=⟨74,[.val (.lvs [.row 3 false,.row 3 false,.row 3 false,.row 3 false]),.d (.dat 27)],[.k (.row 111 false)],a4g⟩
theorem b7G:RK (b6K) :=
 okR [eR b6W] 129 b8A [.tmp 4] Go.Proofs.Tryz.func74 (by kernel_rfl)
def c4e:Hints I:=mkH [(1,[[],[0],[0,1],[],[3],[0,1,2,3,4],[],[6],[0,1,2,3,4,5,6,7],[0,1,2,3,4,5,6,7,8]])] [] [] [] [] [] []
def c15:Row I:=⟨27,[.d (.dat 37)],[.k (.d (.dat 37))],a6V⟩
theorem b0x:RK (c15) :=
 okR [eR b5S] 12 c4e [.cell 2 37] Go.Proofs.Tryz.func27 (by kernel_rfl)
def c9j:Row I:=⟨75,[.d (.dat 37)],[.k (.d (.str))],b2I⟩
def b1Z (c:UInt8)(xs:List Int)(q:Nat×List UInt8):Option (Fl (Nat×List UInt8) (List UInt8)):=match xs[q.1]? with
 | some n=>(a80 c q.2 n).map fun b=>.next (q.1+1,b)
 | none=>some (.done q.2)
theorem b7W {c:UInt8}{xs:List Int}:∀ (m i:Nat) {b r:List UInt8},xs.length-i=m->i<=xs.length->a7G c (xs.drop i) b=some r->iter (b1Z c xs) (m+1) (i,b)=some r
 | 0,i,b,r,hm,hi,h=>by
   have e:i=xs.length:=by omega
   subst e
   rw [List.drop_length] at h
   cases h
   simp [iter,b1Z]
 | m+1,i,b,r,hm,hi,h=>by
   have hlt:i<xs.length:=by omega
   rw [List.drop_eq_getElem_cons hlt] at h
   obtain ⟨b',h1,h2⟩:=bind_some h
   have:=b7W m (i+1) (by omega) (by omega) h2
   simp only [iter,b1Z,List.getElem?_eq_getElem hlt,h1,Option.map_some]
   exact this
theorem d3q {P:Program}{w:World}{T:TypeId}{x y:Operand}{s t:ByteArray}(h:s.size+t.size<=1000000) :
 Y0 P w (do eqGuard .add T x y (.string s) (.string t); binOp .add T (.string s) (.string t)) (.string (s++t)):=by
 simp [Y0,eqGuard_at_string,binOp,Op.stringOp]
 omega
theorem d4L:a16 Go.Proofs.Tryz.prog 135:=⟨_,_,Go.Proofs.Tryz.func135,rfl,by kernel_rfl⟩
theorem d1U:a16 Go.Proofs.Tryz.prog 136:=⟨_,_,Go.Proofs.Tryz.func136,rfl,by kernel_rfl⟩
theorem d11:a16 Go.Proofs.Tryz.prog 137:=⟨_,_,Go.Proofs.Tryz.func137,rfl,by kernel_rfl⟩
theorem d4T:a16 Go.Proofs.Tryz.prog 138:=⟨_,_,Go.Proofs.Tryz.func138,rfl,by kernel_rfl⟩
theorem c7l {n:Nat}(h:n<100)(w:World):Calls Go.Proofs.Tryz.prog 137 [Value.int .i64 (n:Int)].toArray w fun e w'=>e=.returned (.string ⟨(a3O n).toArray⟩)/\w'=w:=by
 have:=Go.Proofs.Any.strconv_Itoa_small Go.Proofs.Tryz.lay137 n h w
 rw [<- d0l h] at this
 exact this
def b9V (σ:S):Nat->Nat×Nat:=fun b=>if b<σ.N then σ.L b else (0,0)
theorem b8P {σ:S}{w:World}(h:Bw σ.N σ.w w):Wext σ ⟨w,b9V σ⟩ :=
 ⟨h.below.size,fun b hb=>by simp [b9V,hb],fun b o v ho hc=>(a2m (h.below.block b (a5m hc)) o).trans hc,h.drawn⟩
theorem c3G (l m:List UInt8):Lib.byteCells (l++m)=Lib.byteCells l++Lib.byteCells m:=by simp [Lib.byteCells]
theorem c0T (l:List UInt8):Lib.strCells ⟨l.toArray⟩=Lib.byteCells l:=by simp [Lib.strCells,Lib.byteCells]
theorem b6M (n:Nat):(a3O n).length<=2:=by
 unfold a3O
 cases Nat.blt n 10<;>simp
theorem d2k {P:Program}{w:World}{T:TypeId}{x y:Operand}{c:UInt8}{l:List UInt8}(h:l.length<=2) :
 Y0 P w (do eqGuard .add T x y (.string ⟨#[c]⟩) (.string ⟨l.toArray⟩); binOp .add T (.string ⟨#[c]⟩) (.string ⟨l.toArray⟩)) (.string ⟨(c::l).toArray⟩):=by
 have:=d3q (P:=P) (w:=w) (T:=T) (x:=x) (y:=y) (s:=⟨#[c]⟩) (t:=⟨l.toArray⟩) (by simp [ByteArray.size]; omega)
 have e:(⟨#[c]⟩++⟨l.toArray⟩:ByteArray)=⟨(c::l).toArray⟩:=by
  apply ByteArray.ext
  simp
 rw [e] at this
 exact this
theorem c6U {c:UInt8}{b r:List UInt8}{n:Int}(h:a80 c b n=some r):r.length<=1000003/\b.length<=r.length:=by
 unfold a80 at h
 obtain ⟨hc,h⟩:=j8 h
 cases h
 simp only [Bool.and_eq_true] at hc
 have:=Nat.le_of_ble_eq_true hc.2
 have:=b6M n.toNat
 simp
 omega
theorem b3n {c:UInt8}:∀ {xs:List Int} {b r:List UInt8},a7G c xs b=some r->b.length<=1000003->r.length<=1000003
 | [],b,r,h,hb=>by cases h; exact hb
 | n::xs,b,r,h,hb=>by
   obtain ⟨b',h1,h2⟩:=bind_some h
   exact b3n h2 (c6U h1).1
theorem c5W (w:World)(a:Addr)(n:Nat):(w.freeze a n).drawn=w.drawn:=by unfold World.freeze; split<;>rfl
theorem d5J {b B:Nat}{l:List UInt8}{w:World}(h:Lib.IsBuilder 156 5 B b (Lib.byteCells l) w)(hn:l=[]->w.heap[b]?=some (.cells #[.pointer none,.slice none 0 0] 156 (0,0)))(hl:l.length<=1000003) :
 Calls Go.Proofs.Tryz.prog 138 [J8 b].toArray w fun e w'=>e=.returned (.string ⟨l.toArray⟩)/\Bw B w w':=by
 have hdrew:Bw B w w.drew:=⟨(Below.refl B w).drew,Nat.le_succ _⟩
 by_cases h0:l=[]
 ·subst h0
  exact (Go.Proofs.Tryz.bstr0 (hn rfl)).mono fun e w' ⟨h1,h2⟩=>⟨h1,by subst h2; exact hdrew⟩
 ·obtain ⟨p,_,hB,v,hb,hown,hne⟩:=c8t h
  rw [Lib.byteCells_length] at hown
  rcases hown.2 with ⟨_,hz⟩ | ⟨g,cap,cur,rfl,hbg,hg,hnc,hcm,hcs,htake⟩
  ·exact absurd (List.length_eq_zero_iff.1 hz) h0
  ·refine (Go.Proofs.Tryz.bstr1 (l:=l) hb hg h0 hnc (by simpa using hcs) (by omega) fun j x hx=>?_).mono fun e w' ⟨h1,h2⟩=>⟨h1,?_⟩
   ·have h3:(Lib.byteCells l)[j]?=some (.int .u8 x.toNat):=by simp [Lib.byteCells,hx]
    rw [<- htake,List.getElem?_take] at h3
    split at h3
    ·rw [<- Array.getElem?_toList]; exact h3
    ·cases h3
   ·subst h2
    exact hdrew.trans ⟨Lib.below_freeze (Below.refl B w.drew) (p:=⟨g,0,none⟩) hbg _,Nat.le_of_eq (c5W _ _ _).symm⟩
theorem c5Z {i:Nat}(h:i<9223372036854775807):wr .i64 ((i:Int)+1)=((i+1:Nat):Int):=by
 show IntKind.i64.wrap ((i:Int)+1)=_
 rw [IntKind.wrap_i64]
 omega
theorem c14:j5 Go.Proofs.Tryz.prog c9j:=by
 refine c6w b2m 38 Go.Proofs.Tryz.func75 rfl (by kernel_rfl) rfl rfl rfl fun X c σ F Q a res hX hrel happ hk=>?_
 have happ:b2I a.1=some res:=happ
 obtain ⟨g,hg,happ⟩:=bind_some happ
 obtain ⟨b1,hb1,happ⟩:=bind_some happ
 obtain ⟨b2,hb2,happ⟩:=bind_some happ
 have h0:=hrel.frame 0 (.dat 37 a.1) rfl
 simp only [RV] at h0
 obtain ⟨cs,hF0,hcs⟩:=h0
 refine wp_seq (wp_region_lit ?_)
 refine d2p (B:=σ.N) 0 (Nat.le_refl _) (.agg cs.toArray) cs hF0 rfl rfl fun τ1 bx hx1 hblk=>?_
 refine a3r (.string ⟨#[]⟩) rfl rfl ?_
 refine wpList_nil (a0h (wp_seq (wp_region_lit ?_)))
 have hcs1:Rp.cells τ1 a.1 cs:=Rp.mono hx1.wext hcs
 have hl3:cs.length=3:=Rp.len (self:=rI 37) hcs
 have t37:c0l Go.Proofs.Tryz.prog 37 3:=⟨_,Go.Proofs.Tryz.underlying37,rfl,by kernel_rfl⟩
 refine a4e bx 0 (.agg cs.toArray) rfl rfl (c30 (hl3▸t37) (fun j v hv=>by rw [Nat.zero_add,hblk.cell]; exact hv)) ?_
 have hcall:=b0x τ1 (a.1,()) [.agg cs.toArray] [] g ⟨_,_,[],[],rfl,rfl,⟨⟨cs,rfl,hcs1⟩,rfl⟩,rfl,rfl⟩ List.nodup_nil hg
 refine b04 (o := ⟨some 9, .call ⟨.value (.func 27), #[.tmp 8], #[37]⟩, 37, "core.go:142", #[⟨0, .data⟩], none⟩) rfl hcall (c1I (xs := [.tmp 8]) rfl τ1.w) fun v9 τ2 st2 hpost => ?_
 obtain ⟨ws,us,pls',hpost⟩:=hpost
 obtain ⟨v,hws,⟨cs',hv,hcs2⟩,-⟩:=hpost.tt
 have hlen:=hpost.len
 have hret:=hpost.ret
 obtain ⟨rfl,rfl⟩:ws=[v]/\us=[]:=by
  rcases ws with _ | ⟨u,ws⟩
  ·cases hlen
  ·rcases ws with _ | ⟨u',ws⟩
   ·simp at hws; exact ⟨by rw [hws.1],hws.2⟩
   ·cases hlen
 have hret:v9=v:=hret
 subst hret
 subst hv
 have hl3':cs'.length=3:=Rp.len (self:=rI 37) hcs2
 have hne1:¬ bx∈ows ([]:List Pl):=fun h=>by cases h
 obtain ⟨k1,k2⟩:=st2.block bx hblk.lt hne1
 have hbl:(τ1.L bx)=(0,0):=hblk.2.2
 have hblk2:Blk σ.N 0 ⟨τ2.w,fun k=>if k=bx then (0,0) else τ2.L k⟩ bx 37 cs:=⟨hblk.1,k1.trans hblk.2.1,by simp⟩
 have hw2:Wext τ2 ⟨τ2.w,fun k=>if k=bx then (0,0) else τ2.L k⟩:=⟨Nat.le_refl _,fun k _=>by
  by_cases e:k=bx
  ·subst e; rw [k2,hbl]; exact Nat.zero_le _
  ·simp [e],fun _ _ _ _ h=>h,Nat.le_refl _⟩
 have hall:cs'.all (·.oneCell')=true:=List.all_eq_true.2 fun u hu=>Rp.one (self:=rI 37) hcs2 u hu
 refine b9U (σ:=⟨τ2.w,fun k=>if k=bx then (0,0) else τ2.L k⟩) hblk2 0 (.agg cs'.toArray) cs' cs' rfl rfl rfl rfl rfl (by rw [hl3']; kernel_rfl) hall (by rw [hl3',hl3]; rfl) (by rw [List.take_zero,Nat.zero_add,hl3',<- hl3,List.drop_length]; simp) fun τ3 hm3 hblk3=>?_
 have hcs3:=Rp.mono (self:=rI 37) (hw2.trans hm3.wext) hcs2
 refine wpList_nil (a0h (wp_seq (wp_region_lit ?_)))
 refine c7v (B:=τ3.N) 0 (Nat.le_refl _) (.agg #[.pointer none,.slice none 0 0]) [.pointer none,.slice none 0 0] (J3 (T:=156) (size:=2) (bytes:=32) (by kernel_rfl)) rfl fun τ4 b hx4 hb4=>?_
 have h4:Bw τ3.N τ3.w τ4.w:=⟨hx4.below,hx4.drawn⟩
 have hbuild:Lib.IsBuilder 156 5 τ3.N b [] τ4.w:=.inl ⟨hb4.1,.slice none 0 0,hb4.2.1,World.ownsRow_nil _ _ _ _,by simp [Value.ownBlock]⟩
 obtain ⟨cc1,cr1,e1,⟨A1,k1c,ec1,hs1⟩,cc2,cr2,e2,⟨A2,k2c,ec2,hs2⟩,hc3⟩:=hcs3
 have hcs':cs'=[.slice A1 g.Pos.length k1c,.slice A2 g.Neg.length k2c,.bool g.Lists]:=by
  have hc3:cr2=[.bool g.Lists]:=hc3
  rw [e1,e2,ec1,ec2,hc3]; rfl
 have hbxw:∀ w,Bw τ3.N τ3.w w->∀ i,w.cell? ⟨bx,i,none⟩=cs'[i]?:=fun w h i=>by rw [a2m (h.below.block bx hblk3.lt)]; exact hblk3.cell i
 have t22:a2H Go.Proofs.Tryz.prog 22:=⟨_,Go.Proofs.Tryz.underlying22,rfl,by kernel_rfl⟩
 have t3:a2H Go.Proofs.Tryz.prog 3:=⟨_,Go.Proofs.Tryz.underlying3,rfl,by kernel_rfl⟩
 have t4:a2H Go.Proofs.Tryz.prog 4:=⟨_,Go.Proofs.Tryz.underlying4,rfl,by kernel_rfl⟩
 refine wpList_nil (a0h (c1C (fun a w=>∃ F',a=fr 38 F'/\F' 1=.pointer (some ⟨bx,0,none⟩)/\F' 3=J8 b/\Bw τ3.N τ3.w w/\Lib.IsBuilder 156 5 τ3.N b (Lib.byteCells (bif g.Lists then [108] else []:List UInt8)) w/\((bif g.Lists then [108] else []:List UInt8)=[]->w.heap[b]?=some (.cells #[.pointer none,.slice none 0 0] 156 (0,0)))) ?_ ?_))
 ·refine wp_seq (wp_region_lit ?_)
  refine a1c bx 0 2 2 rfl rfl (⟨_,_,Go.Proofs.Tryz.underlying37,rfl,rfl,by kernel_rfl⟩) rfl ?_
  refine a4e bx 2 (.bool g.Lists) rfl rfl (a3Q t4 ((hbxw τ4.w h4 2).trans (by rw [hcs']; rfl))) ?_
  refine wpList_nil (a0h ?_)
  rcases hL:g.Lists with _ | _
  ·refine b2F (c:=false) (by rw [<- hL]; rfl) rfl rfl (wp_skip ?_)
   exact ⟨rfl,_,rfl,rfl,rfl,h4,hbuild,fun _=>hb4.2.1⟩
  ·refine b88 (c:=true) (by rw [<- hL]; rfl) rfl rfl (wp_region_lit ?_)
   refine a81 [J8 b,.int .u8 108] rfl rfl d4L (bwb hbuild (by decide) h4.below.size) ?_
   rintro e w5 ⟨⟨v,rfl⟩,hat,hbw5⟩
   exact ⟨_,rfl,wpList_nil ⟨rfl,_,rfl,rfl,rfl,h4.trans hbw5,.inr hat,fun h=>by simp at h⟩⟩
 rintro a0 w0 h0
 refine c1C (fun a w=>∃ F',a=fr 38 F'/\F' 1=.pointer (some ⟨bx,0,none⟩)/\F' 3=J8 b/\Bw τ3.N τ3.w w/\Lib.IsBuilder 156 5 τ3.N b (Lib.byteCells b1) w/\(b1=[]->w.heap[b]?=some (.cells #[.pointer none,.slice none 0 0] 156 (0,0)))) ?_ ?_
 ·revert a0 w0 h0
  rintro a1 w1 ⟨F1,rfl,f1,f3,hbw1,hbd1,hn1⟩
  refine wp_seq (wp_region_lit ?_)
  refine a1c bx 0 0 0 f1 rfl (⟨_,_,Go.Proofs.Tryz.underlying37,rfl,rfl,by kernel_rfl⟩) rfl ?_
  refine a4e bx 0 (.slice A1 g.Pos.length k1c) rfl rfl (a3Q t22 ((hbxw w1 hbw1 0).trans (by rw [hcs']; rfl))) ?_
  refine b2b A1 g.Pos.length k1c rfl rfl Go.Proofs.Tryz.underlying22 ?_
  refine a1R (.int .i64 0) rfl rfl ?_
  refine wpList_nil (a0h (wp_block ?_))
  refine wp_mono (b6H (step:=b1Z 43 g.Pos) (fun q a w=>∃ F',a=fr 38 F'/\F' 1=.pointer (some ⟨bx,0,none⟩)/\F' 3=J8 b/\F' 14=.slice A1 g.Pos.length k1c/\F' 15=.int .i64 (g.Pos.length:Int)/\F' 16=.int .i64 (q.1:Int)/\Bw τ3.N τ3.w w/\Lib.IsBuilder 156 5 τ3.N b (Lib.byteCells q.2) w/\(q.2=[]->w.heap[b]?=some (.cells #[.pointer none,.slice none 0 0] 156 (0,0)))/\q.1<=g.Pos.length) (fun r e a w=>e=.exit 0/\∃ F',a=fr 38 F'/\F' 1=.pointer (some ⟨bx,0,none⟩)/\F' 3=J8 b/\Bw τ3.N τ3.w w/\Lib.IsBuilder 156 5 τ3.N b (Lib.byteCells r) w/\(r=[]->w.heap[b]?=some (.cells #[.pointer none,.slice none 0 0] 156 (0,0)))) (by rintro _ _ _ ⟨h,_⟩; cases h) ?_ _ (0,(bif g.Lists then [108] else [])) b1 _ _ (b7W (g.Pos.length-0) 0 rfl (Nat.zero_le _) hb1) ⟨_,rfl,f1,f3,rfl,rfl,rfl,hbw1,hbd1,fun h=>hn1 h,Nat.zero_le _⟩) ?_
  ·rintro ⟨i,bs⟩ fl a2 w2 hst ⟨F2,rfl,g1,g3,g14,g15,g16,hbw2,hbd2,hn2,hi⟩
   refine wp_seq (wp_region_lit ?_)
   refine a9o (.int .i64 (i:Int)) (.int .i64 (g.Pos.length:Int)) (.bool (decide ((i:Int)<(g.Pos.length:Int)))) g16 g15 rfl rfl c76 ?_
   refine wpList_nil (a0h (wp_seq ?_))
   rcases hx:(g.Pos)[i]? with _ | n
   ·simp only [b1Z,hx] at hst
    cases hst
    have hge:(g.Pos).length<=i:=List.getElem?_eq_none_iff.1 hx
    refine b2F rfl (decide_eq_false (by omega)) rfl (wp_exit ?_)
    exact c7O ⟨rfl,_,rfl,g1,g3,hbw2,hbd2,hn2⟩
   ·simp only [b1Z,hx,Option.map_eq_some_iff] at hst
    obtain ⟨bs',hit,rfl⟩:=hst
    have hlt:i<(g.Pos).length:=(List.getElem?_eq_some_iff.1 hx).1
    unfold a80 at hit
    obtain ⟨hcond,hit⟩:=j8 hit
    cases hit
    simp only [Bool.and_eq_true,decide_eq_true_eq] at hcond
    obtain ⟨⟨n0,n1⟩,nl⟩:=hcond
    have nl:bs.length<=1000000:=Nat.le_of_ble_eq_true nl
    refine b88 rfl (decide_eq_true (by omega)) rfl (wp_skip (a0h (wp_seq (wp_block (wp_seq (wp_region_lit ?_))))))
    refine b5q (σ:=⟨w2,b9V τ3⟩) (hs1.mono (b8P hbw2)) (show idx g.Pos (i:Int)=some n by simp [idx,hx]) g14 g16 rfl rfl Go.Proofs.Tryz.underlying22 (by kernel_rfl) fun bb o ccs hc hse=>?_
    have hc:ccs=[.int .i64 n]:=hc
    subst hc
    refine a4e bb o (.int .i64 n) rfl rfl (a3Q t3 (hse.2 0 _ rfl)) ?_
    refine a3r (.int .i64 n) rfl rfl ?_
    refine wpList_nil (a0h (wp_region_lit ?_))
    refine a1R (.int .i64 n) rfl rfl ?_
    have hn:((n.toNat:Nat):Int)=n:=by omega
    refine a81 [.int .i64 n] rfl rfl d11 (by have:=c7l (n:=n.toNat) (by omega) w2; rw [hn] at this; exact this) ?_
    rintro e w3 ⟨rfl,rfl⟩
    refine ⟨_,rfl,?_⟩
    have hdl:(a3O n.toNat).length<=2:=b6M _
    refine a9o (.string ⟨#[43]⟩) (.string ⟨(a3O n.toNat).toArray⟩) (.string ⟨(43::a3O n.toNat).toArray⟩) rfl rfl rfl rfl (d2k hdl) ?_
    have hsz:(⟨(43::a3O n.toNat).toArray⟩:ByteArray).size<=3:=by simp [ByteArray.size]; omega
    refine a81 [J8 b,.string ⟨(43::a3O n.toNat).toArray⟩] (by rw [List.map_cons,List.map_cons,List.map_nil]; exact congrArg (·::_) g3) rfl d1U (bws hbd2 (by show (Lib.byteCells bs).length+_<=_; rw [Lib.byteCells_length]; omega) hbw2.below.size) ?_
    rintro e w4 ⟨⟨v,rfl⟩,hat,hbw4⟩
    refine ⟨_,rfl,?_⟩
    refine wpList_nil (d37 (a0h (wp_region_lit ?_)))
    refine a9o (.int .i64 (i:Int)) (.int .i64 1) (.int .i64 (wr .i64 ((i:Int)+1))) g16 rfl rfl rfl c8Y ?_
    refine a1R (.int .i64 (wr .i64 ((i:Int)+1))) rfl rfl ?_
    have hwr:wr .i64 ((i:Int)+1)=((i+1:Nat):Int):=c5Z (by have l1:(g.Pos).length<=k1c:=hs1.1; have l2:k1c<=maxLen:=hs1.2.1; unfold maxLen at l2; omega)
    refine wpList_nil ⟨rfl,_,rfl,g1,g3,g14,g15,congrArg _ hwr,hbw2.trans hbw4,.inr ?_,fun h=>by simp at h,hlt⟩
    rw [c0T,<- c3G] at hat
    exact hat
  ·rintro r e a2 ⟨rfl,F2,rfl,g1,g3,hbw2,hbd2,hn2⟩
   exact d3F ⟨rfl,F2,rfl,g1,g3,hbw2,hbd2,hn2⟩
 rintro a5 w5 h5
 refine c1C (fun a w=>∃ F',a=fr 38 F'/\F' 1=.pointer (some ⟨bx,0,none⟩)/\F' 3=J8 b/\Bw τ3.N τ3.w w/\Lib.IsBuilder 156 5 τ3.N b (Lib.byteCells b2) w/\(b2=[]->w.heap[b]?=some (.cells #[.pointer none,.slice none 0 0] 156 (0,0)))) ?_ ?_
 ·revert a5 w5 h5
  rintro a1 w1 ⟨F1,rfl,f1,f3,hbw1,hbd1,hn1⟩
  refine wp_seq (wp_region_lit ?_)
  refine a1c bx 0 1 1 f1 rfl (⟨_,_,Go.Proofs.Tryz.underlying37,rfl,rfl,by kernel_rfl⟩) rfl ?_
  refine a4e bx 1 (.slice A2 g.Neg.length k2c) rfl rfl (a3Q t22 ((hbxw w1 hbw1 1).trans (by rw [hcs']; rfl))) ?_
  refine b2b A2 g.Neg.length k2c rfl rfl Go.Proofs.Tryz.underlying22 ?_
  refine a1R (.int .i64 0) rfl rfl ?_
  refine wpList_nil (a0h (wp_block ?_))
  refine wp_mono (b6H (step:=b1Z 45 g.Neg) (fun q a w=>∃ F',a=fr 38 F'/\F' 1=.pointer (some ⟨bx,0,none⟩)/\F' 3=J8 b/\F' 26=.slice A2 g.Neg.length k2c/\F' 27=.int .i64 (g.Neg.length:Int)/\F' 28=.int .i64 (q.1:Int)/\Bw τ3.N τ3.w w/\Lib.IsBuilder 156 5 τ3.N b (Lib.byteCells q.2) w/\(q.2=[]->w.heap[b]?=some (.cells #[.pointer none,.slice none 0 0] 156 (0,0)))/\q.1<=g.Neg.length) (fun r e a w=>e=.exit 2/\∃ F',a=fr 38 F'/\F' 1=.pointer (some ⟨bx,0,none⟩)/\F' 3=J8 b/\Bw τ3.N τ3.w w/\Lib.IsBuilder 156 5 τ3.N b (Lib.byteCells r) w/\(r=[]->w.heap[b]?=some (.cells #[.pointer none,.slice none 0 0] 156 (0,0)))) (by rintro _ _ _ ⟨h,_⟩; cases h) ?_ _ (0,b1) b2 _ _ (b7W (g.Neg.length-0) 0 rfl (Nat.zero_le _) hb2) ⟨_,rfl,f1,f3,rfl,rfl,rfl,hbw1,hbd1,fun h=>hn1 h,Nat.zero_le _⟩) ?_
  ·rintro ⟨i,bs⟩ fl a2 w2 hst ⟨F2,rfl,g1,g3,g14,g15,g16,hbw2,hbd2,hn2,hi⟩
   refine wp_seq (wp_region_lit ?_)
   refine a9o (.int .i64 (i:Int)) (.int .i64 (g.Neg.length:Int)) (.bool (decide ((i:Int)<(g.Neg.length:Int)))) g16 g15 rfl rfl c76 ?_
   refine wpList_nil (a0h (wp_seq ?_))
   rcases hx:(g.Neg)[i]? with _ | n
   ·simp only [b1Z,hx] at hst
    cases hst
    have hge:(g.Neg).length<=i:=List.getElem?_eq_none_iff.1 hx
    refine b2F rfl (decide_eq_false (by omega)) rfl (wp_exit ?_)
    exact c7O ⟨rfl,_,rfl,g1,g3,hbw2,hbd2,hn2⟩
   ·simp only [b1Z,hx,Option.map_eq_some_iff] at hst
    obtain ⟨bs',hit,rfl⟩:=hst
    have hlt:i<(g.Neg).length:=(List.getElem?_eq_some_iff.1 hx).1
    unfold a80 at hit
    obtain ⟨hcond,hit⟩:=j8 hit
    cases hit
    simp only [Bool.and_eq_true,decide_eq_true_eq] at hcond
    obtain ⟨⟨n0,n1⟩,nl⟩:=hcond
    have nl:bs.length<=1000000:=Nat.le_of_ble_eq_true nl
    refine b88 rfl (decide_eq_true (by omega)) rfl (wp_skip (a0h (wp_seq (wp_block (wp_seq (wp_region_lit ?_))))))
    refine b5q (σ:=⟨w2,b9V τ3⟩) (hs2.mono (b8P hbw2)) (show idx g.Neg (i:Int)=some n by simp [idx,hx]) g14 g16 rfl rfl Go.Proofs.Tryz.underlying22 (by kernel_rfl) fun bb o ccs hc hse=>?_
    have hc:ccs=[.int .i64 n]:=hc
    subst hc
    refine a4e bb o (.int .i64 n) rfl rfl (a3Q t3 (hse.2 0 _ rfl)) ?_
    refine a3r (.int .i64 n) rfl rfl ?_
    refine wpList_nil (a0h (wp_region_lit ?_))
    refine a1R (.int .i64 n) rfl rfl ?_
    have hn:((n.toNat:Nat):Int)=n:=by omega
    refine a81 [.int .i64 n] rfl rfl d11 (by have:=c7l (n:=n.toNat) (by omega) w2; rw [hn] at this; exact this) ?_
    rintro e w3 ⟨rfl,rfl⟩
    refine ⟨_,rfl,?_⟩
    have hdl:(a3O n.toNat).length<=2:=b6M _
    refine a9o (.string ⟨#[45]⟩) (.string ⟨(a3O n.toNat).toArray⟩) (.string ⟨(45::a3O n.toNat).toArray⟩) rfl rfl rfl rfl (d2k hdl) ?_
    have hsz:(⟨(45::a3O n.toNat).toArray⟩:ByteArray).size<=3:=by simp [ByteArray.size]; omega
    refine a81 [J8 b,.string ⟨(45::a3O n.toNat).toArray⟩] (by rw [List.map_cons,List.map_cons,List.map_nil]; exact congrArg (·::_) g3) rfl d1U (bws hbd2 (by show (Lib.byteCells bs).length+_<=_; rw [Lib.byteCells_length]; omega) hbw2.below.size) ?_
    rintro e w4 ⟨⟨v,rfl⟩,hat,hbw4⟩
    refine ⟨_,rfl,?_⟩
    refine wpList_nil (d37 (a0h (wp_region_lit ?_)))
    refine a9o (.int .i64 (i:Int)) (.int .i64 1) (.int .i64 (wr .i64 ((i:Int)+1))) g16 rfl rfl rfl c8Y ?_
    refine a1R (.int .i64 (wr .i64 ((i:Int)+1))) rfl rfl ?_
    have hwr:wr .i64 ((i:Int)+1)=((i+1:Nat):Int):=c5Z (by have l1:(g.Neg).length<=k2c:=hs2.1; have l2:k2c<=maxLen:=hs2.2.1; unfold maxLen at l2; omega)
    refine wpList_nil ⟨rfl,_,rfl,g1,g3,g14,g15,congrArg _ hwr,hbw2.trans hbw4,.inr ?_,fun h=>by simp at h,hlt⟩
    rw [c0T,<- c3G] at hat
    exact hat
  ·rintro r e a2 ⟨rfl,F2,rfl,g1,g3,hbw2,hbd2,hn2⟩
   exact d3F ⟨rfl,F2,rfl,g1,g3,hbw2,hbd2,hn2⟩
 rintro a6 w6 ⟨F6,rfl,f1,f3,hbw6,hbd6,hn6⟩
 refine wp_seq (wp_region_lit ?_)
 refine a81 [J8 b] (congrArg (·::_) f3) rfl d4T (d5J hbd6 hn6 (b3n hb2 (b3n hb1 (by cases g.Lists<;>decide)))) ?_
 rintro e w7 ⟨rfl,hbw7⟩
 refine ⟨_,rfl,?_⟩
 refine a3r (.string ⟨b2.toArray⟩) rfl rfl ?_
 refine wpList_nil (a0h (wp_ret ?_))
 have hb7:Bw τ3.N τ3.w w7:=hbw6.trans hbw7
 have hr:(⟨b2.toArray⟩:ByteArray)=res:=Option.some.inj happ
 have hA:Bw σ.N σ.w τ1.w:=⟨hx1.below,hx1.drawn⟩
 have hB:Bw σ.N τ1.w τ2.w:=⟨⟨st2.os,st2.tape,st2.output,st2.wext.size,fun k hk=>(st2.block k (Nat.lt_of_lt_of_le hk hx1.below.size) (fun h=>by cases h)).1⟩,st2.wext.drawn⟩
 have hC:Bw σ.N τ2.w τ3.w:=⟨⟨hm3.os,hm3.tape,hm3.output,hm3.wext.size,fun k hk=>(hm3.block k (Nat.lt_of_lt_of_le hk (hA.trans hB).below.size) (.inl hk)).1⟩,hm3.wext.drawn⟩
 have hD:Bw σ.N τ3.w w7:=⟨hb7.below.mono ((hA.trans hB).trans hC).below.size,hb7.drawn⟩
 have hE:=((hA.trans hB).trans hC).trans hD
 subst hr
 refine hk .ret ⟨38,fun i=>bif Nat.beq i 2 then some (.str ⟨b2.toArray⟩) else none,fun _=>none,0⟩ c ⟨w7,b9V σ⟩ _ ?_ (Cx.le_refl c) ⟨rfl,(fun i p hp=>?_),(fun l o ho=>by cases ho),(fun _ _ _ _ _ ⟨_,h⟩=>by cases h),(fun _ _ _ ⟨_,h⟩=>by cases h),(fun l _=>hrel.nom l rfl),Nat.le_trans hrel.base hE.below.size,noN.nests fun _ _ _ _ _ _ h=>by cases h⟩
  ⟨b8P hE,hE.below.os,hE.below.tape,hE.below.output,fun k hk _=>⟨hE.below.block k hk,by simp [b9V,hk]⟩⟩
 ·rfl
 ·have hp:(bif Nat.beq i 2 then some (PV.str ⟨b2.toArray⟩) else none)=some p:=hp
  obtain ⟨hi,hp⟩:=j8 hp
  cases hp
  have:=Nat.eq_of_beq_eq_true hi
  subst this
  simp only [RV]
  rfl
theorem d4z:j5 Go.Proofs.Tryz.prog c9j:=c14
def c0I (n:Nat):Hints I:=mkH [(1,[[],[0],[0,1],[],[3],[0,1,2,3,4],[0,1,2,3,4,5],[0,1,2,3,4,5,6],[0,1,2,3,4,5,6,7]])] [] [] [] [(124,⟨295147905179351779232,[],[],[(5,.k (.row 111 false)),(6,.k (.map 113 (.bool))),(7,.k (.row 37 false))],[((.exit 0),[(6,.k (.map 113 (.bool))),(7,.k (.row 37 false))])],fun _=>some n⟩)] [] []
def b8d (n:Nat):Row I:=⟨36,[.d (.dat 27),.d (.dat 37)],[.k (.row 37 false)],a69 n⟩
theorem b9t (n:Nat):RK (b8d n) :=
 okR [eR b5S,eR b0V,eR b7G,eR b0x,eR d4z] 69 (c0I n) [.tmp 4] Go.Proofs.Tryz.func36 (by kernel_rfl)
def a9L:Hints I:=mkH [(6,[[],[],[0,1],[0,1,2],[],[],[5],[4,5,6],[4,5,6,7],[0,1,2,3,4,5,6,7,8]]),(11,[[],[],[0,1],[0,1,2],[],[],[5],[4,5,6],[4,5,6,7],[0,1,2,3,4,5,6,7,8]])] [] [] [] [(58,⟨1152921504606846012,[],[],[(0,.k (.row 9 false)),(3,.k (.d (.int .i64)))],[((.exit 0),[(0,.k (.row 9 false))]),(.ret,[(2,.k (.row 9 false))])],bnd tb (.len (.slot 0)) 1⟩)] [(59690,⟨18014397972611112,0,9,[(3,.k (.d (.int .i64))),(5,.k (.d (.int .i64)))],[((.exit 2),[(3,.k (.d (.int .i64)))])],bnd tb (.len (.slot 4)) 1⟩)] []
def a8H:Row I:=⟨78,[.row 9 false],[.k (.row 9 false)],V2⟩
theorem a5c:RK (a8H) :=
 okR [] 61 a9L [.tmp 2] Go.Proofs.Tryz.func78 (by kernel_rfl)
def a9U:Row I:=⟨77,[.d (.sl 9)],[.k (.row 9 true)],a1q⟩
theorem a5S:RK (a9U) :=
 okR [] 9 Y3 [.tmp 2] Go.Proofs.Tryz.func77 (by kernel_rfl)
def c4S:Hints I:=mkH [] [] [] [] [(58,⟨2147482784,[],[],[(5,.k (.row 9 false)),(10,.k (.d (.int .i64)))],[((.exit 0),[(5,.k (.row 9 false))])],bnd tb (.slot 9) 1⟩)] [] []
def c3i:Row I:=⟨37,[.d (.dat 27),.d (.sl 3)],[.k (.row 9 true)],a9l⟩
theorem c4x:RK (c3i) :=
 okR [eO d1Q,eR a5c,eR a5S] 36 c4S [.tmp 4] Go.Proofs.Tryz.func37 (by kernel_rfl)
def b1s:Hints I:=mkH [] [] [] [] [(26,⟨524080,[],[],[(8,.k (.d (.int .i64)))],[((.exit 0),[]),(.ret,[(4,.k (.d (.int .i64)))])],bnd tb (.slot 7) 1⟩)] [] []
def a94:Row I:=⟨124,[.d (.sl 3),.fn [.int .i64] [.k (.d (.bool))]],[.k (.d (.int .i64))],a4P⟩
theorem b0M:RK (a94) :=
 okR [] 19 b1s [.tmp 4] Go.Proofs.Tryz.func124 (by kernel_rfl)
def a85:Row I:=⟨65,[.d (.sl 3),.fn [.int .i64] [.k (.d (.bool))]],[.k (.d (.bool))],Z6⟩
theorem a0n:RK (a85) :=
 okR [eR b0M] 9 Y3 [.tmp 4] Go.Proofs.Tryz.func65 (by kernel_rfl)
def b4L:Hints I:=mkH [] [] [] [] [(26,⟨524080,[],[],[(8,.k (.d (.int .i64)))],[((.exit 0),[]),(.ret,[(4,.k (.d (.int .i64)))])],bnd tb (.slot 7) 1⟩)] [] []
def b3l:Row I:=⟨141,[.d (.sl 3),.d (.int .i64)],[.k (.d (.int .i64))],a6r⟩
theorem b4e:RK (b3l) :=
 okR [] 19 b4L [.tmp 4] Go.Proofs.Tryz.func141 (by kernel_rfl)
def b0N:Row I:=⟨80,[.d (.sl 3),.d (.int .i64)],[.k (.d (.bool))],a3d⟩
theorem b1f:RK (b0N) :=
 okR [eR b4e] 9 Y3 [.tmp 4] Go.Proofs.Tryz.func80 (by kernel_rfl)
def b8t:Row I:=⟨79,[.d (.int .i64),.var 22 (.k (.d (.sl 3))) false],[.k (.d (.bool))],a9d⟩
theorem b9M:RK (b8t) :=
 okR [eR b1f] 7 Y3 [.tmp 3] Go.Proofs.Tryz.func79 (by kernel_rfl)
def c0B:Row I:=⟨38,[.d (.sl 3),.d (.sl 3)],[.k (.d (.bool))],a8w⟩
theorem c1b:RK (c0B) :=
 okR [eR a0n,eR b9M] 8 Y3 [.tmp 4] Go.Proofs.Tryz.func38 (by kernel_rfl)
def a8M:Hints I:=mkH [] [] [] [] [(26,⟨524080,[],[],[(8,.k (.d (.int .i64)))],[((.exit 0),[]),(.ret,[(4,.k (.d (.int .i64)))])],bnd tb (.slot 7) 1⟩)] [] []
def a75:Row I:=⟨142,[.d (.sl 9),.fn [.str] [.k (.d (.bool))]],[.k (.d (.int .i64))],a2O⟩
theorem a8f:RK (a75) :=
 okR [] 19 a8M [.tmp 4] Go.Proofs.Tryz.func142 (by kernel_rfl)
def a7f:Row I:=⟨81,[.d (.sl 9),.fn [.str] [.k (.d (.bool))]],[.k (.d (.bool))],a0P⟩
theorem a7p:RK (a7f) :=
 okR [eR a8f] 9 Y3 [.tmp 4] Go.Proofs.Tryz.func81 (by kernel_rfl)
def a95:Hints I:=mkH [] [] [] [] [(26,⟨524080,[],[],[(8,.k (.d (.int .i64)))],[((.exit 0),[]),(.ret,[(4,.k (.d (.int .i64)))])],bnd tb (.slot 7) 1⟩)] [] []
def a9J:Row I:=⟨92,[.d (.sl 9),.d (.str)],[.k (.d (.int .i64))],a36⟩
theorem a9O:RK (a9J) :=
 okR [] 19 a95 [.tmp 4] Go.Proofs.Tryz.func92 (by kernel_rfl)
def a8u:Row I:=⟨52,[.d (.sl 9),.d (.str)],[.k (.d (.bool))],a0t⟩
theorem a4J:RK (a8u) :=
 okR [eR a9O] 9 Y3 [.tmp 4] Go.Proofs.Tryz.func52 (by kernel_rfl)
def b4X:Row I:=⟨82,[.d (.str),.var 31 (.k (.d (.sl 9))) false],[.k (.d (.bool))],a7D⟩
theorem b6h:RK (b4X) :=
 okR [eR a4J] 7 Y3 [.tmp 3] Go.Proofs.Tryz.func82 (by kernel_rfl)
def b7F:Row I:=⟨39,[.d (.sl 9),.d (.sl 9)],[.k (.d (.bool))],a6H⟩
theorem b8f:RK (b7F) :=
 okR [eR a7p,eR b6h] 8 Y3 [.tmp 4] Go.Proofs.Tryz.func39 (by kernel_rfl)
def c51:Hints I:=mkH [] [] [] [] [(58,⟨4192262,[],[],[(1,.k (.row 82 false)),(2,.k (.d (.int .i64)))],[((.exit 0),[(1,.k (.row 82 false))])],bnd tb (.cst 4) 2⟩)] [] []
def c25:Row I:=⟨40,[],[.k (.row 82 false)],b7C⟩
theorem c4s:RK (c25) :=
 okR [] 23 c51 [.tmp 0] Go.Proofs.Tryz.func40 (by kernel_rfl)
def c1D:Hints I:=mkH [] [] [] [(429,⟨20480,[],[],[(.normal,[(12,.k (.d (.bool)))])]⟩),
 (1725,⟨1310720,[],[],[(.normal,[(18,.k (.d (.bool)))])]⟩)] [] [] []
def b9P:Row I:=⟨144,[.d (.dat 82),.d (.dat 65)],[.k (.d (.bool))],a5O⟩
theorem b1J:RK (b9P) :=
 okR [] 81 c1D [.tmp 4] Go.Proofs.Tryz.func144 (by kernel_rfl)
def b8F:Hints I:=mkH [(1,[[],[0],[],[0,1,2],[0,1,2,3],[0,1,2,3,4],[0,1,2,3,4,5],[0,1,2,3,4,5,6],[0,1,2,3,4,5,6,7],[0,1,2,3,4,5,6,7],[0,1,2,3,4,5,6,7,9],[0,1,2,3,4,5,6,7],[0,1,2,3,4,5,6,7,9,10,11],[0,1,2,3,4,5,6,7,9,10,11,12],[0,1,2,3,4,5,6,7,8,9,10,11,12,13],[0,1,2,3,4,5,6,7,8,9,10,11,12,13,14],[0,1,2,3,4,5,6,7,8,9,10,11,12,13,14,15],[0,1,2,3,4,5,6,7,8,9,10,11,12,13,14,15,16]])] [] [] [] [] [] []
def b7A:Row I:=⟨143,[.d (.int .i64),.var 27 (.k (.d (.dat 27))) false,.var 82 (.k (.d (.dat 82))) false],[.k (.d (.bool))],a4M⟩
theorem b79:RK (b7A) :=
 okR [eR b1J] 22 b8F [.tmp 4] Go.Proofs.Tryz.func143 (by kernel_rfl)
def b9R:Row I:=⟨83,[.d (.dat 82),.d (.dat 27),.d (.dat 37)],[.k (.d (.bool))],a7U⟩
theorem c0A:RK (b9R) :=
 okR [eR a0n,eR b79] 24 Y3 [.tmp 6] Go.Proofs.Tryz.func83 (by kernel_rfl)
def c0s:Row I:=⟨145,[],[.k (.row 126 false)],b1l⟩
theorem c1t:RK (c0s) :=
 okR [] 3 Y3 [.tmp 0] Go.Proofs.Tryz.func145 (by kernel_rfl)
def b8u:Row I:=⟨249,[.d (.int .i64)],[.k (.d (.bool))],a5n⟩
theorem b9n:RK (b8u) :=
 okR [] 6 Y3 [.tmp 2] Go.Proofs.Tryz.func249 (by kernel_rfl)
def b6C:Row I:=⟨233,[.d (.int .i64),.d (.int .i64)],[.k (.d (.int .i64))],a1V⟩
theorem a9v:RK (b6C) :=
 okR [eR b9n] 20 Y3 [.tmp 4] Go.Proofs.Tryz.func233 (by kernel_rfl)
def b2S:Row I:=⟨232,[.d (.dat 126),.d (.dat 126)],[.k (.d (.int .i64))],a2L⟩
theorem b4h:RK (b2S) :=
 okR [eR a9v] 10 Y3 [.tmp 4] Go.Proofs.Tryz.func232 (by kernel_rfl)
def b6O:Hints I:=mkH [(14,[[],[0],[0,1],[0,1,2],[0,1,2],[0,1,2,3,4],[0,1,2,3,4,5],[0,1,2,3,4,5,6],[0,1,2,3,4,5,6,7],[0,1,2,3,4,5,6,7,8],[0,1,2,3,4,5,6,7,8,9],[0,1,2,3,4,5,6,7,8,9,10],[0,1,2,3,4,5,6,7,8,9],[0,1,2,3,4,5,6,7,8,9],[0,1,2,3,4,5,6,7,8,9,12,13],[0,1,2,3,4,5,6,7,8,9,12,13,14],[0,1,2,3,4,5,6,7,8,9,12,13,14,15],[0,1,2,3,4,5,6,7,8,9,12,13,14,15,16],[0,1,2,3,4,5,6,7,8,9,10,11,12,13,14,15,16,17],[0,1,2,3,4,5,6,7,8,9,10,11,12,13,14,15,16,17,18],[0,1,2,3,4,5,6,7,8,9,10,11,12,13,14,15,16,17,18,19]]),(15,[[],[],[],[],[2,3],[2,3,4],[2,3,4,5],[],[7],[2,3,4,5,6,7,8],[0,1,2,3,4,5,6,7,8,9],[0,1,2,3,4,5,6,7,8,9,10],[0,1,2,3,4,5,6,7,8,9,10,11]])] [] [] [] [(58,⟨67104808,[],[],[(3,.k (.row 126 false)),(12,.k (.d (.int .i64)))],[((.exit 0),[(3,.k (.row 126 false))])],bnd tb (.slot 11) 1⟩),
 (506,⟨37778931862956087968576,[],[],[(6,.k (.row 126 false)),(28,.k (.row 126 false)),(30,.k (.d (.int .i64)))],[((.exit 2),[(6,.k (.row 126 false)),(28,.k (.row 126 false))])],bnd tb (.slot 29) 1⟩)] [] []
noncomputable def b5j:Row I:=⟨196,[.d (.sl 126)],[.k (.row 126 false)],a0S⟩
theorem a82:RK (b5j) :=
 okR [eO d4l,eR b4h] 76 b6O [.tmp 2] Go.Proofs.Tryz.func196 (by kernel_rfl)
def b7w:Hints I:=mkH [] [] [] [] [(58,⟨1099511620256,[11],[],[(5,.k (.row 126 false)),(13,.k (.d (.int .i64)))],[((.exit 0),[(5,.k (.row 126 false))])],bnd tb (.slot 12) 1⟩),
 (14950,⟨549754765856,[18],[],[(5,.k (.row 126 false)),(20,.k (.d (.int .i64)))],[((.exit 2),[(5,.k (.row 126 false))])],bnd tb (.slot 19) 1⟩)] [] []
noncomputable def b5x:Row I:=⟨146,[.d (.sl 126),.d (.sl 126)],[.k (.row 126 false)],a3P⟩
theorem b5T:RK (b5x) :=
 okR [eR a82] 42 b7w [.tmp 4] Go.Proofs.Tryz.func146 (by kernel_rfl)
def b6F:Hints I:=mkH [] [] [] [(31333,⟨66846728,[],[],[(.normal,[(3,.k (.row 126 false))])]⟩)] [(122,⟨17179868252,[8],[],[(3,.k (.row 126 false)),(4,.k (.d (.int .i64))),(10,.k (.d (.int .i64)))],[((.exit 0),[(3,.k (.row 126 false)),(4,.k (.d (.int .i64)))]),(.ret,[(2,.k (.row 126 false))])],bnd tb (.slot 9) 1⟩)] [] []
noncomputable def b4f:Row I:=⟨147,[.d (.sl 126)],[.k (.row 126 false)],a4W⟩
theorem b5y:RK (b4f) :=
 okR [eR a82] 39 b6F [.tmp 2] Go.Proofs.Tryz.func147 (by kernel_rfl)
def c5O:Hints I:=mkH [] [] [] [] [(58,⟨137438888352,[],[],[(5,.k (.row 126 false)),(16,.k (.d (.int .i64)))],[((.exit 0),[(5,.k (.row 126 false))])],bnd tb (.slot 15) 1⟩),
 (122,⟨4611684918915763232,[],[],[(5,.k (.row 126 false)),(40,.k (.d (.int .i64)))],[((.exit 2),[(5,.k (.row 126 false))])],bnd tb (.slot 39) 1⟩)] [] []
noncomputable def c3D:Row I:=⟨84,[.d (.dat 27),.d (.dat 37)],[.k (.row 126 false)],b1Y⟩
theorem c4f:RK (c3D) :=
 okR [eR c1t,eR b5T,eR b5y] 63 c5O [.tmp 4] Go.Proofs.Tryz.func84 (by kernel_rfl)
def b6R:Hints I:=mkH [(3,[[],[0],[],[2],[2,3],[0,1,2,3,4],[0,1,2,3,4,5],[0,1,2,3,4,5,6]])] [] [] [] [] [] []
def b41:Row I:=⟨197,[.d (.dat 51)],[.k (.d (.dat 208))],a1D⟩
theorem a5T:RK (b41) :=
 okR [eR c8o,eO d1Q,eR a5c,eR a5S] 16 b6R [.cell 2 208] Go.Proofs.Tryz.func197 (by kernel_rfl)
def b6k:Row I:=⟨148,[.d (.sl 9)],[.k (.d (.dat 51))],a23⟩
theorem a9c:RK (b6k) :=
 okR [eR a5T] 7 Y3 [.cell 2 51] Go.Proofs.Tryz.func148 (by kernel_rfl)
def b8h:Row I:=⟨150,[.d (.sl 9)],[.k (.d (.dat 51))],a2K⟩
theorem b01:RK (b8h) :=
 okR [eR a5T] 7 Y3 [.cell 2 51] Go.Proofs.Tryz.func150 (by kernel_rfl)
def b5v:Hints I:=mkH [(1,[[],[0],[0,1],[0,1,2],[],[4],[4,5],[0,1,2,3,4,5,6],[0,1,2,3,4,5,6,7]])] [] [] [] [] [] []
def b3q:Row I:=⟨198,[.d (.dat 208),.d (.dat 208)],[.k (.row 9 false)],a4p⟩
theorem b4c:RK (b3q) :=
 okR [eR c8o] 13 b5v [.tmp 4] Go.Proofs.Tryz.func198 (by kernel_rfl)
def b7E:Row I:=⟨230,[.d (.str)],[.k (.d (.bool))],a6v⟩
theorem b8o:RK (b7E) :=
 okR [] 6 Y3 [.tmp 2] Go.Proofs.Tryz.func230 (by kernel_rfl)
def b8z:Row I:=⟨191,[.d (.str),.d (.str)],[.k (.d (.bool))],a64⟩
theorem b8N:RK (b8z) :=
 okR [eR b8o] 17 Y3 [.tmp 4] Go.Proofs.Tryz.func191 (by kernel_rfl)
def b4d:Row I:=⟨250,[.d (.str)],[.k (.d (.bool))],a48⟩
theorem b5e:RK (b4d) :=
 okR [] 6 Y3 [.tmp 2] Go.Proofs.Tryz.func250 (by kernel_rfl)
def a7M (n:Nat):Hints I:=mkH [] [] [] [] [(60,⟨2147476352,[],[],[(7,.k (.d (.int .i64))),(8,.k (.d (.int .i64)))],[((.exit 0),[(7,.k (.d (.int .i64)))])],fun _=>some n⟩)] [] []
def a7g (n:Nat):Row I:=⟨234,[.d (.sl 9),.d (.str)],[.k (.d (.int .i64)),.k (.d (.bool))],a0O n⟩
theorem a7i (n:Nat):RK (a7g n) :=
 okR [eR b8N,eR b5e] 54 (a7M n) [.tmp 4,.tmp 5] Go.Proofs.Tryz.func234 (by kernel_rfl)
def b37 (n:Nat):Row I:=⟨200,[.d (.dat 208),.d (.str)],[.k (.d (.bool))],a3l n⟩
theorem a8n (n:Nat):RK (b37 n) :=
 okR [eR (a7i n)] 16 Y3 [.tmp 4] Go.Proofs.Tryz.func200 (by kernel_rfl)
def b3U (_:Nat):Hints I:=mkH [] [] [] [] [(58,⟨33550496,[],[],[(5,.k (.row 9 false)),(12,.k (.d (.int .i64)))],[((.exit 0),[(5,.k (.row 9 false))])],bnd tb (.slot 11) 1⟩)] [] []
def b2o (n:Nat):Row I:=⟨199,[.d (.dat 208),.d (.dat 208)],[.k (.row 9 false)],a2o n⟩
theorem b2P (n:Nat):RK (b2o n) :=
 okR [eR (a8n n)] 26 (b3U n) [.tmp 4] Go.Proofs.Tryz.func199 (by kernel_rfl)
def b7B (_:Nat):Hints I:=mkH [(1,[[],[0],[],[0,1,2],[],[],[0,1,2,3,4,5],[0,1,2,3,4,5,6]])] [] [] [] [(250,⟨576320014815068800,[],[],[(7,.k (.row 9 false)),(47,.k (.d (.int .i64)))],[((.exit 1),[(7,.k (.row 9 false))])],bnd tb (.slot 46) 1⟩)] [] []
def b5i (n:Nat):Row I:=⟨149,[.d (.dat 51),.d (.dat 51)],[.k (.d (.dat 51))],a3L n⟩
theorem b5I (n:Nat):RK (b5i n) :=
 okR [eR a5T,eR b4c,eR a9c,eR (b2P n),eR b01,eR (a8n n)] 61 (b7B n) [.cell 4 51] Go.Proofs.Tryz.func149 (by kernel_rfl)
def c4u (_:Nat):Hints I:=mkH [(7,[[],[],[1],[1,2],[1,2,3],[0,1,2,3,4],[0,1,2,3,4,5]]),(14,[[],[],[1],[1,2],[1,2,3],[0,1,2,3,4],[0,1,2,3,4,5]])] [] [] [] [(58,⟨274877646336,[],[(7,.k (.d (.dat 51)))],[(18,.k (.d (.int .i64)))],[((.exit 0),[])],bnd tb (.slot 17) 1⟩),
 (122,⟨2305840810190450688,[],[(7,.k (.d (.dat 51)))],[(41,.k (.d (.int .i64)))],[((.exit 2),[])],bnd tb (.slot 40) 1⟩)] [] []
def c1W (n:Nat):Row I:=⟨85,[.d (.dat 27),.d (.dat 37),.d (.int .i64)],[.k (.d (.dat 51))],a8q n⟩
theorem c28 (n:Nat):RK (c1W n) :=
 okR [eR a9c,eR b01,eR (b5I n)] 62 (c4u n) [.cell 6 51] Go.Proofs.Tryz.func85 (by kernel_rfl)
def c4k:Hints I:=mkH [(1,[[],[0],[],[0,1,2],[0,1,2,3],[0,1,2,3,4],[],[0,1,2,3,4,5,6],[0,1,2,3,4,5,6,7]])] [] [] [] [] [] []
def c2K:Row I:=⟨151,[.d (.int .i64),.var 27 (.k (.d (.dat 27))) false,.var 3 (.k (.d (.int .i64))) false],[.k (.d (.bool))],b4F⟩
theorem c3o:RK (c2K) :=
 okR [] 13 c4k [.tmp 4] Go.Proofs.Tryz.func151 (by kernel_rfl)
def c4y:Row I:=⟨86,[.d (.dat 27),.d (.sl 3),.d (.int .i64)],[.k (.d (.bool))],a6l⟩
theorem c5I:RK (c4y) :=
 okR [eR a0n,eR c3o] 10 Y3 [.tmp 6] Go.Proofs.Tryz.func86 (by kernel_rfl)
def c27:Hints I:=mkH [(5,[[],[0],[],[0,1,2],[0,1,2,3],[0,1,2,3,4],[],[0,1,2,3,4,5,6],[0,1,2,3,4,5,6,7],[0,1,2,3,4,5,6,7,8],[0,1,2,3,4,5,6,7,8],[0,1,2,3,4,5,6,7,8,10],[0,1,2,3,4,5,6,7,8],[0,1,2,3,4,5,6,7,8,10,11,12],[0,1,2,3,4,5,6,7,8,10,11,12,13],[0,1,2,3,4,5,6,7,8,9,10,11,12,13,14],[0,1,2,3,4,5,6,7,8,9,10,11,12,13,14,15]])] [] [] [] [(58,⟨1099511613952,[],[],[(9,.k (.row 3 false)),(14,.k (.d (.int .i64)))],[((.exit 0),[(9,.k (.row 3 false))])],bnd tb (.slot 13) 1⟩)] [] []
def c1L:Row I:=⟨87,[.d (.dat 82),.d (.dat 27),.d (.sl 3),.d (.int .i64)],[.k (.row 3 false)],a7A⟩
theorem c2G:RK (c1L) :=
 okR [eR b1J] 41 c27 [.tmp 8] Go.Proofs.Tryz.func87 (by kernel_rfl)
def c6E (_:Nat):Hints I:=mkH [(8,[[],[],[1],[1,2],[1,2,3],[0],[0,1,2,3,4,5]]),(11,[[],[],[],[2],[1,2,3],[1,2,3,4],[1,2,3,4,5],[1,2,3,4,5,6],[1,2,3,4,5,6,7],[1,2,3,4,5,6,7,8],[1,2,3,4,5,6,7,8,9],[1,2,3,4,5,6,7,8,9,10],[1,2,3,4,5,6,7,8,9,10,11],[1,2,3,4,5,6,7,8,9,10,11,12],[1,2,3,4,5,6,7,8,9,10,11,12,13],[1,2,3,4,5,6,7,8,9,10,11,12,13,14],[1,2,3,4,5,6,7,8,9,10,11,12,13,14,15],[1,2,3,4,5,6,7,8,9,10,11,12,13,14,15,16],[0,1,2,3,4,5,6,7,8,9,10],[0,1,2,3,4,5,6,7,8,9,10,11,12,13,14,15,16,17,18]]),(14,[[],[],[],[2],[1,2,3],[1,2,3,4],[1,2,3,4,5],[1,2,3,4,5,6],[1,2,3,4,5,6,7],[1,2,3,4,5,6,7,8],[1,2,3,4,5,6,7,8,9],[1,2,3,4,5,6,7,8,9,10],[1,2,3,4,5,6,7,8,9,10,11],[1,2,3,4,5,6,7,8,9,10,11,12],[1,2,3,4,5,6,7,8,9,10,11,12,13],[1,2,3,4,5,6,7,8,9,10,11,12,13,14],[1,2,3,4,5,6,7,8,9,10,11,12,13,14,15],[1,2,3,4,5,6,7,8,9,10,11,12,13,14,15,16],[0,1,2,3,4,5,6,7,8,9,10],[0,1,2,3,4,5,6,7,8,9,10,11,12,13,14,15,16,17,18]]),(16,[[],[],[],[2],[1,2,3],[1,2,3,4],[0,1,2,3,4],[0,1,2,3,4,5,6]]),(18,[[],[],[],[2],[1,2,3],[1,2,3,4],[0,1,2,3,4],[0,1,2,3,4,5,6]]),(27,[[],[],[],[2],[],[0,1,2,3,4],[],[],[],[8],[],[0,1,2,3,4,5,6,7,8,9,10],[0,1,2,3,4,5],[0,1,2,3,4,5,6,7,8,9,10,11,12],[0,1,2,3,4,5,6,7,8,9,10,11,12,13],[0,1,2,3,4,5,6,7,8,9,10,11,12,13,14]]),(28,[[],[],[1],[1,2],[1,2,3],[1,2,3],[1,2,3,5],[1,2,3],[1,2,3,4,5,6,7],[1,2,3,4,5,6,7,8],[1,2,3,4,5,6,7,8,9],[0,1,2,3,4,5,6,7,8],[0,1,2,3,4,5,6,7,8,9,10,11]])] [(11,[47,51]),(14,[71,75]),(28,[124])] [] [(125,⟨162259276829213363391577993512576,[],[(6,.lvs [.d (.int .i64),.d (.int .i64),.d (.sl 126),.d (.bool),.d (.sl 9),.d (.sl 3),.d (.sl 3),.d (.sl 9),.d (.sl 9)]),(8,.lvs [.d (.int .i64),.d (.int .i64),.d (.sl 126),.d (.bool),.d (.sl 9),.d (.sl 3),.d (.sl 3),.d (.sl 9),.d (.sl 9)])],[(.normal,[(9,.k (.d (.int .i64))),(10,.k (.d (.int .i64)))]),(.ret,[(7,.k (.d (.bool)))])]⟩)] [] [] []
noncomputable def c3A (n:Nat):Row I:=⟨41,[.d (.dat 27),.d (.dat 37),.d (.dat 82)],[.k (.d (.dat 53)),.k (.d (.bool))],a9j n⟩
theorem c4t (n:Nat):RK (c3A n) :=
 okR [eR c0A,eR c4f,eR (c28 n),eR c5I,eR c2G] 132 (c6E n) [.cell 6 53,.tmp 7] Go.Proofs.Tryz.func41 (by kernel_rfl)
def c4w (_:Nat):Hints I:=mkH [(7,[[],[],[1],[0,1,2],[],[],[5],[0,1,2,3,4,5,6],[0,1,2,3,4,5,6,7],[0,1,2,3,4,5,6,7,8]])] [] [] [] [(122,⟨37778931862957027507104,[25],[],[(5,.k (.row 53 false)),(27,.k (.d (.int .i64)))],[((.exit 0),[(5,.k (.row 53 false))])],bnd tb (.slot 26) 1⟩),
 (125342,⟨18889463679678767183904,[49],[],[(5,.k (.row 53 false)),(51,.k (.d (.int .i64)))],[((.exit 2),[(5,.k (.row 53 false))])],bnd tb (.slot 50) 1⟩)] [] []
noncomputable def c11 (n:Nat):Row I:=⟨16,[.d (.dat 27),.d (.dat 37)],[.k (.row 53 false)],a8p n⟩
theorem c3m (n:Nat):RK (c11 n) :=
 okR [eR (a8r n),eR b6b,eR (b9t n),eR c4x,eR c1b,eR b8f,eR c4s,eR (c4t n),eR c8o] 76 (c4w n) [.tmp 4] Go.Proofs.Tryz.func16 (by kernel_rfl)
def b8s:Row I:=⟨23,[.d (.int .i64)],[.k (.d (.dat 33))],a11⟩
theorem a7E:RK (b8s) :=
 okR [] 5 Y3 [.cell 2 33] Go.Proofs.Tryz.func23 (by kernel_rfl)
def c50:Hints I:=mkH [] [] [] [(105,⟨160,[],[],[(.normal,[(5,.k (.d (.bool)))])]⟩),
 (429,⟨2560,[],[],[(.normal,[(9,.k (.d (.bool)))])]⟩),
 (6909,⟨327680,[],[],[(.normal,[(16,.k (.d (.bool)))])]⟩)] [] [] []
def c3p:Row I:=⟨165,[.d (.int .i64)],[.k (.d (.dat 185)),.k (.d (.bool))],a7T⟩
theorem c4m:RK (c3p) :=
 okR [] 27 c50 [.cell 2 185,.tmp 3] Go.Proofs.Tryz.func165 (by kernel_rfl)
def b2N:Hints I:=mkH [(4,[[],[],[],[2],[1,2,3],[1,2,3,4],[],[],[6,7],[6,7,8],[0,1,2,3,4,5,6,7,8,9],[0,1,2,3,4,5,6,7,8,9,10]])] [] [] [] [(26,⟨16777200,[],[],[(5,.k (.d (.int .i64)))],[((.exit 0),[]),(.ret,[(4,.k (.d (.bool)))])],bnd tb (.len (.slot 0)) 1⟩)] [] []
def b1w:Row I:=⟨215,[.d (.sl 9),.fn [.str,.str] [.k (.d (.int .i64))]],[.k (.d (.bool))],a5z⟩
theorem b2s:RK (b1w) :=
 okR [] 24 b2N [.tmp 4] Go.Proofs.Tryz.func215 (by kernel_rfl)
def b8n:Hints I:=mkH [] [] [] [] [(58,⟨261140,[],[],[(10,.k (.d (.int .i64)))],[((.exit 0),[]),(.ret,[(2,.k (.d (.bool)))])],bnd tb (.slot 9) 1⟩)] [] []
def b6u:Row I:=⟨166,[.d (.sl 9)],[.k (.d (.bool))],a5H⟩
theorem b7r:RK (b6u) :=
 okR [eR b2s,eR a7h,eR a9X] 18 b8n [.tmp 2] Go.Proofs.Tryz.func166 (by kernel_rfl)
def b1P:Hints I:=mkH [(4,[[],[],[],[2],[1,2,3],[1,2,3,4],[],[],[6,7],[6,7,8],[0,1,2,3,4,5,6,7,8,9],[0,1,2,3,4,5,6,7,8,9,10]])] [] [] [] [(26,⟨16777200,[],[],[(5,.k (.d (.int .i64)))],[((.exit 0),[]),(.ret,[(4,.k (.d (.bool)))])],bnd tb (.len (.slot 0)) 1⟩)] [] []
def b0X:Row I:=⟨217,[.d (.sl 130),.fn [.dat 130,.dat 130] [.k (.d (.int .i64))]],[.k (.d (.bool))],a5f⟩
theorem b1o:RK (b0X) :=
 okR [] 24 b1P [.tmp 4] Go.Proofs.Tryz.func217 (by kernel_rfl)
def c0X:Hints I:=mkH [] [] [] [] [(58,⟨534773780,[],[],[(21,.k (.d (.int .i64)))],[((.exit 0),[]),(.ret,[(2,.k (.d (.bool)))])],bnd tb (.slot 20) 1⟩)] [] []
def b8T:Row I:=⟨167,[.d (.dat 33)],[.k (.d (.bool))],a7W⟩
theorem c0D:RK (b8T) :=
 okR [eR b1o,eR a6w,eR b1K] 29 c0X [.tmp 2] Go.Proofs.Tryz.func167 (by kernel_rfl)
def b0U:Hints I:=mkH [(4,[[],[],[],[2],[1,2,3],[1,2,3,4],[],[],[6,7],[6,7,8],[0,1,2,3,4,5,6,7,8,9],[0,1,2,3,4,5,6,7,8,9,10]])] [] [] [] [(26,⟨16777200,[],[],[(5,.k (.d (.int .i64)))],[((.exit 0),[]),(.ret,[(4,.k (.d (.bool)))])],bnd tb (.len (.slot 0)) 1⟩)] [] []
def a9R:Row I:=⟨218,[.d (.sl 97),.fn [.dat 97,.dat 97] [.k (.d (.int .i64))]],[.k (.d (.bool))],a4m⟩
theorem b0t:RK (a9R) :=
 okR [] 24 b0U [.tmp 4] Go.Proofs.Tryz.func218 (by kernel_rfl)
def a89:Hints I:=mkH [(7,[[],[],[],[1,2],[1,2,3],[],[],[5,6],[5,6,7],[0,1,2,3,4,5,6,7,8],[0,1,2,3,4,5,6,7,8,9]])] [] [] [] [(58,⟨137437905728,[],[],[(20,.k (.d (.int .i64)))],[((.exit 0),[]),(.ret,[(6,.k (.d (.int .i64)))])],bnd tb (.slot 19) 1⟩)] [] []
def a8F:Row I:=⟨253,[.d (.sl 33),.d (.sl 33),.fn [.dat 33,.dat 33] [.k (.d (.int .i64))]],[.k (.d (.int .i64))],a3t⟩
theorem a87:RK (a8F) :=
 okR [eR a2t] 37 a89 [.tmp 6] Go.Proofs.Tryz.func253 (by kernel_rfl)
def b0s:Hints I:=mkH [(7,[[],[],[],[1,2],[1,2,3],[],[],[5,6],[5,6,7],[0,1,2,3,4,5,6,7,8],[0,1,2,3,4,5,6,7,8,9]])] [] [] [] [(58,⟨137437905728,[],[],[(20,.k (.d (.int .i64)))],[((.exit 0),[]),(.ret,[(6,.k (.d (.int .i64)))])],bnd tb (.slot 19) 1⟩)] [] []
def a9g:Row I:=⟨254,[.d (.sl 130),.d (.sl 130),.fn [.dat 130,.dat 130] [.k (.d (.int .i64))]],[.k (.d (.int .i64))],a3Z⟩
theorem a9T:RK (a9g) :=
 okR [eR a2t] 37 b0s [.tmp 6] Go.Proofs.Tryz.func254 (by kernel_rfl)
def a9p:Hints I:=mkH [(7,[[],[],[],[1,2],[1,2,3],[],[],[5,6],[5,6,7],[0,1,2,3,4,5,6,7,8],[0,1,2,3,4,5,6,7,8,9]])] [] [] [] [(58,⟨137437905728,[],[],[(20,.k (.d (.int .i64)))],[((.exit 0),[]),(.ret,[(6,.k (.d (.int .i64)))])],bnd tb (.slot 19) 1⟩)] [] []
def a8E:Row I:=⟨255,[.d (.sl 97),.d (.sl 97),.fn [.dat 97,.dat 97] [.k (.d (.int .i64))]],[.k (.d (.int .i64))],a3s⟩
theorem a88:RK (a8E) :=
 okR [eR a2t] 37 a9p [.tmp 6] Go.Proofs.Tryz.func255 (by kernel_rfl)
def b0I:Hints I:=mkH [(7,[[],[],[],[1,2],[1,2,3],[],[],[5,6],[5,6,7],[0,1,2,3,4,5,6,7,8],[0,1,2,3,4,5,6,7,8,9]])] [] [] [] [(58,⟨137437905728,[],[],[(20,.k (.d (.int .i64)))],[((.exit 0),[]),(.ret,[(6,.k (.d (.int .i64)))])],bnd tb (.slot 19) 1⟩)] [] []
def a9S:Row I:=⟨256,[.d (.sl 9),.d (.sl 9),.fn [.str,.str] [.k (.d (.int .i64))]],[.k (.d (.int .i64))],a4t⟩
theorem b0q:RK (a9S) :=
 okR [eR a2t] 37 b0I [.tmp 6] Go.Proofs.Tryz.func256 (by kernel_rfl)
def a2X (n:Nat):Row I:=⟨241,[.d (.dat 33),.d (.dat 33)],[.k (.d (.int .i64))],a3b n⟩
def a0B (n:Nat):Row I:=⟨219,[.d (.dat 97),.d (.dat 97)],[.k (.d (.int .i64))],V4 n⟩
def a1Q (n:Nat):Row I:=⟨240,[.d (.sl 33),.d (.sl 33)],[.k (.d (.int .i64))],a3k n⟩
theorem c0E (n:Nat)(_:j5 Go.Proofs.Tryz.prog (a2X n))(h_value_compareEntries:j5 Go.Proofs.Tryz.prog (a0B n))(h_value_compareValues:j5 Go.Proofs.Tryz.prog (a1Q n)):RK (a2X (n+1)) :=
 okR [eR a2t,eR a9v,eR a7h,eR a9T,eR a6w,eR h_value_compareValues,eR a88,eR h_value_compareEntries,eR b0q] 64 Y3 [.tmp 4] Go.Proofs.Tryz.func241 (by kernel_rfl)
theorem b2W (n:Nat)(h_value_Compare:j5 Go.Proofs.Tryz.prog (a2X n))(_:j5 Go.Proofs.Tryz.prog (a0B n))(h_value_compareValues:j5 Go.Proofs.Tryz.prog (a1Q n)):RK (a0B (n+1)) :=
 okR [eR h_value_compareValues,eR h_value_Compare] 26 Y3 [.tmp 4] Go.Proofs.Tryz.func219 (by kernel_rfl)
theorem b4g (n:Nat)(h_value_Compare:j5 Go.Proofs.Tryz.prog (a2X n))(_:j5 Go.Proofs.Tryz.prog (a0B n))(_:j5 Go.Proofs.Tryz.prog (a1Q n)):RK (a1Q (n+1)) :=
 okR [eR a87,eR h_value_Compare] 8 Y3 [.tmp 4] Go.Proofs.Tryz.func240 (by kernel_rfl)
theorem a6n:∀ n:Nat,j5 Go.Proofs.Tryz.prog (a2X n)/\j5 Go.Proofs.Tryz.prog (a0B n)/\j5 Go.Proofs.Tryz.prog (a1Q n)
 | 0=>⟨Q8 (by kernel_rfl),Q8 (by kernel_rfl),Q8 (by kernel_rfl)⟩
 | n+1=>by
   obtain ⟨h0,h1,h2⟩:=a6n n
   exact ⟨c0E n h0 h1 h2,b2W n h0 h1 h2,b4g n h0 h1 h2⟩
theorem c1n (n:Nat):j5 Go.Proofs.Tryz.prog (a2X n):=(a6n n).1
theorem b3X (n:Nat):j5 Go.Proofs.Tryz.prog (a0B n):=(a6n n).2.1
def c2u (n:Nat):Row I:=⟨257,[.d (.dat 33),.d (.dat 33)],[.k (.d (.bool))],b4V n⟩
theorem c2X (n:Nat):RK (c2u n) :=
 okR [eR (c1n n)] 9 Y3 [.tmp 4] Go.Proofs.Tryz.func257 (by kernel_rfl)
def c1d (n:Nat):Row I:=⟨242,[.d (.dat 33)],[.k (.d (.bool))],b3f n⟩
theorem c2c (n:Nat):RK (c1d n) :=
 okR [eR (c2X n)] 6 Y3 [.tmp 2] Go.Proofs.Tryz.func242 (by kernel_rfl)
def b7H (n:Nat):Row I:=⟨220,[.d (.dat 97),.d (.int .i64)],[.k (.d (.bool))],a4G n⟩
theorem b77 (n:Nat):RK (b7H n) :=
 okR [eR (c2c n)] 20 Y3 [.tmp 4] Go.Proofs.Tryz.func220 (by kernel_rfl)
def b6x (_:Nat):Hints I:=mkH [] [] [] [] [(58,⟨4290773012,[],[],[(22,.k (.d (.int .i64)))],[((.exit 0),[]),(.ret,[(2,.k (.d (.bool)))])],bnd tb (.slot 21) 1⟩)] [] []
def b38 (n:Nat):Row I:=⟨168,[.d (.dat 33)],[.k (.d (.bool))],a47 n⟩
theorem b5p (n:Nat):RK (b38 n) :=
 okR [eR b0t,eR (b3X n),eR (b77 n)] 32 (b6x n) [.tmp 2] Go.Proofs.Tryz.func168 (by kernel_rfl)
def b8r (n:Nat):Row I:=⟨117,[.d (.dat 33)],[.k (.d (.bool))],a62 n⟩
theorem b9g (n:Nat):RK (b8r n) :=
 okR [eR c4m,eR b7r,eR a9K,eR c0D,eR (b5p n)] 124 Y3 [.tmp 2] Go.Proofs.Tryz.func117 (by kernel_rfl)
def c4i:Hints I:=mkH [] [] [] [] [(58,⟨536866856,[],[],[(3,.k (.row 33 false)),(12,.k (.d (.int .i64)))],[((.exit 0),[(3,.k (.row 33 false))])],bnd tb (.slot 11) 1⟩)] [] []
def c1R:Row I:=⟨118,[.d (.dat 33)],[.k (.row 33 false)],b0E⟩
theorem c3c:RK (c1R) :=
 okR [eR d3M] 30 c4i [.tmp 2] Go.Proofs.Tryz.func118 (by kernel_rfl)
def c0w (_:Nat):Hints I:=mkH [] [] [] [] [(58,⟨522260,[9],[],[(11,.k (.d (.int .i64)))],[((.exit 0),[]),(.ret,[(2,.k (.d (.bool)))])],bnd tb (.slot 10) 1⟩)] [] []
def a6Y (n:Nat):Row I:=⟨59,[.d (.dat 33)],[.k (.d (.bool))],a2U n⟩
theorem b8p (n:Nat)(h_value_validTree:j5 Go.Proofs.Tryz.prog (a6Y n)):RK (a6Y (n+1)) :=
 okR [eR (b9g n),eR c3c,eR h_value_validTree] 19 (c0w n) [.tmp 2] Go.Proofs.Tryz.func59 (by kernel_rfl)
theorem b0Y:∀ n:Nat,j5 Go.Proofs.Tryz.prog (a6Y n)
 | 0=>Q8 (by kernel_rfl)
 | n+1=>b8p n (b0Y n)
def b9B (n:Nat):Row I:=⟨28,[.d (.dat 33)],[.k (.d (.int .i64))],a73 n⟩
theorem c0C (n:Nat):RK (b9B n) :=
 okR [eR (b0Y n)] 6 Y3 [.tmp 2] Go.Proofs.Tryz.func28 (by kernel_rfl)
def c18:Row I:=⟨125,[.d (.int .i64)],[.k (.d (.int .i64))],c0Q⟩
theorem c2Q:RK (c18) :=
 okR [] 14 Y3 [.tmp 2] Go.Proofs.Tryz.func125 (by kernel_rfl)
def a9u:Hints I:=mkH [(4,[[],[],[],[1,2],[1,2,3],[0,1,2,3,4]])] [] [] [] [(26,⟨524080,[],[],[(8,.k (.d (.int .i64)))],[((.exit 0),[]),(.ret,[(4,.k (.d (.int .i64)))])],bnd tb (.slot 7) 1⟩)] [] []
def a8K:Row I:=⟨222,[.d (.sl 130),.d (.dat 130)],[.k (.d (.int .i64))],a3o⟩
theorem a84:RK (a8K) :=
 okR [] 19 a9u [.tmp 4] Go.Proofs.Tryz.func222 (by kernel_rfl)
def a7R:Row I:=⟨178,[.d (.sl 130),.d (.dat 130)],[.k (.d (.bool))],a09⟩
theorem a8b:RK (a7R) :=
 okR [eR a84] 9 Y3 [.tmp 4] Go.Proofs.Tryz.func178 (by kernel_rfl)
def d0f:Hints I:=mkH [] [] [] [] [(26,⟨2096208,[],[],[(10,.k (.d (.int .i64)))],[((.exit 0),[]),(.ret,[(4,.k (.d (.int .i64)))])],bnd tb (.slot 9) 1⟩)] [] []
def c6J:Row I:=⟨179,[.d (.dat 65),.d (.dat 130)],[.k (.d (.int .i64))],b91⟩
theorem c8f:RK (c6J) :=
 okR [] 26 d0f [.tmp 4] Go.Proofs.Tryz.func179 (by kernel_rfl)
def c73 (_:Nat):Hints I:=mkH [(6,[[],[],[],[],[2,3],[2,3,4],[0,1,2,3,4,5],[0,1,2,3,4,5,6]])] [] [] [] [(58,⟨1073676736,[],[],[(16,.k (.d (.int .i64)))],[((.exit 0),[]),(.ret,[(6,.k (.d (.bool)))])],bnd tb (.slot 15) 1⟩)] [] []
def a2N (n:Nat):Row I:=⟨126,[.d (.sl 33),.d (.dat 27),.d (.sl 3)],[.k (.d (.bool))],a5A n⟩
def b8m (_:Nat):Hints I:=mkH [(2,[[],[0],[],[],[3],[],[3,4,5],[0,1,2,3,4,5,6],[0,1,2,3,4,5,6,7],[0,1,2,3,4,5,6,7,8],[0,1,2,3,4,5,6,7,8,9],[0,1,2,3,4,5,6,7,8,9,10],[0,1,2,3,4,5,6,7,8,9,10,11],[0,1,2,3,4,5,6,7,8,9,10,11,12],[0,1,2,3,4,5,6,7,8,9,10,11,12,13],[0,1,2,3,4,5,6,7,8,9,10,11,12,13,14],[0,1,2,3,4,5,6,7,8,9,10,11,12,13],[0,1,2,3,4,5,6,7,8,9,10,11,12,13],[0,1,2,3,4,5,6,7,8,9,10,11,12,13,17],[0,1,2,3,4,5,6,7,8,9,10,11,12,13],[0,1,2,3,4,5,6,7,8,9,10,11,12,13,17,18,19],[0,1,2,3,4,5,6,7,8,9,10,11,12,13,17,18,19,20],[0,1,2,3,4,5,6,7,8,9,10,11,12,13,14,15,16,17,18,19,20,21],[0,1,2,3,4,5,6,7,8,9,10,11,12,13,14,15,16,17,18,19,20,21,22],[0,1,2,3,4,5,6,7,8,9,10,11,12,13,14,15,16,17,18,19,20,21,22,23],[0,1,2,3,4,5,6,7,8,9,10,11,12,13,14,15,16,17,18,19,20,21,22,23,24]])] [] [] [] [] [] []
def W2 (n:Nat):Row I:=⟨180,[.d (.dat 97),.d (.dat 27),.d (.dat 65)],[.k (.d (.bool))],W7 n⟩
def b8U (_:Nat):Hints I:=mkH [] [] [] [] [(58,⟨536346944,[],[],[(19,.k (.d (.int .i64)))],[((.exit 0),[]),(.ret,[(6,.k (.d (.bool)))])],bnd tb (.slot 18) 1⟩)] [] []
def X4 (n:Nat):Row I:=⟨128,[.d (.dat 33),.d (.dat 27),.d (.dat 65)],[.k (.d (.bool))],a0o n⟩
def c72 (_:Nat):Hints I:=mkH [(17,[[],[0],[],[2],[2,3],[0,1,2,3,4],[0,1,2,3,4,5]]),(31,[[],[],[],[2],[2,3],[2,3,4],[0,1,2,3,4,5],[0,1,2,3,4,5,6],[0,1,2,3,4,5,6,7]])] [] [] [(60413,⟨144115188075855872000,[],[],[(.normal,[(60,.k (.d (.bool)))])]⟩)] [] [] []
def a2c (n:Nat):Row I:=⟨67,[.d (.dat 33),.d (.dat 27),.d (.int .i64)],[.k (.d (.bool))],a0b n⟩
def a1F (n:Nat):Row I:=⟨129,[.d (.int .i64),.var 33 (.k (.d (.dat 33))) false,.var 27 (.k (.d (.dat 27))) false],[.k (.d (.bool))],a3E n⟩
def a1O (n:Nat):Row I:=⟨130,[.d (.int .i64),.var 33 (.k (.d (.dat 33))) false,.var 27 (.k (.d (.dat 27))) false],[.k (.d (.bool))],a3A n⟩
def c4g (_:Nat):Hints I:=mkH [(10,[[],[0],[],[0,1,2],[0,1,2,3],[],[],[],[6,7],[0,1,2,3,4,5,6,7,8],[0,1,2,3,4,5,6,7,8,9]])] [] [] [] [(26,⟨1073725760,[],[],[(14,.k (.d (.int .i64)))],[((.exit 0),[]),(.ret,[(6,.k (.d (.bool)))])],bnd tb (.slot 13) 1⟩),
 (58,⟨1125891316909632,[],[],[(33,.k (.d (.int .i64)))],[((.exit 2),[]),(.ret,[(6,.k (.d (.bool)))])],bnd tb (.slot 32) 1⟩)] [] []
def a1o (n:Nat):Row I:=⟨127,[.d (.dat 33),.d (.dat 27),.d (.dat 65)],[.k (.d (.bool))],a2E n⟩
theorem c5R (n:Nat)(_:j5 Go.Proofs.Tryz.prog (a2N n))(_:j5 Go.Proofs.Tryz.prog (W2 n))(_:j5 Go.Proofs.Tryz.prog (X4 n))(h_core_Has:j5 Go.Proofs.Tryz.prog (a2c n))(_:j5 Go.Proofs.Tryz.prog (a1F n))(_:j5 Go.Proofs.Tryz.prog (a1O n))(_:j5 Go.Proofs.Tryz.prog (a1o n)):RK (a2N (n+1)) :=
 okR [eR h_core_Has] 30 (c73 n) [.tmp 6] Go.Proofs.Tryz.func126 (by kernel_rfl)
theorem b6L (n:Nat)(h_core_all:j5 Go.Proofs.Tryz.prog (a2N n))(_:j5 Go.Proofs.Tryz.prog (W2 n))(_:j5 Go.Proofs.Tryz.prog (X4 n))(h_core_Has:j5 Go.Proofs.Tryz.prog (a2c n))(_:j5 Go.Proofs.Tryz.prog (a1F n))(_:j5 Go.Proofs.Tryz.prog (a1O n))(_:j5 Go.Proofs.Tryz.prog (a1o n)):RK (W2 (n+1)) :=
 okR [eR h_core_all,eR h_core_Has] 37 (b8m n) [.tmp 6] Go.Proofs.Tryz.func180 (by kernel_rfl)
theorem b7k (n:Nat)(_:j5 Go.Proofs.Tryz.prog (a2N n))(h_core_EntryAllowed:j5 Go.Proofs.Tryz.prog (W2 n))(_:j5 Go.Proofs.Tryz.prog (X4 n))(_:j5 Go.Proofs.Tryz.prog (a2c n))(_:j5 Go.Proofs.Tryz.prog (a1F n))(_:j5 Go.Proofs.Tryz.prog (a1O n))(_:j5 Go.Proofs.Tryz.prog (a1o n)):RK (X4 (n+1)) :=
 okR [eR h_core_EntryAllowed] 29 (b8U n) [.tmp 6] Go.Proofs.Tryz.func128 (by kernel_rfl)
theorem c6v (n:Nat)(h_core_all:j5 Go.Proofs.Tryz.prog (a2N n))(_:j5 Go.Proofs.Tryz.prog (W2 n))(h_core_functionHas:j5 Go.Proofs.Tryz.prog (X4 n))(h_core_Has:j5 Go.Proofs.Tryz.prog (a2c n))(h_core_Has_1:j5 Go.Proofs.Tryz.prog (a1F n))(h_core_Has_2:j5 Go.Proofs.Tryz.prog (a1O n))(h_core_mapHas:j5 Go.Proofs.Tryz.prog (a1o n)):RK (a2c (n+1)) :=
 okR [eR c2Q,eR h_core_all,eR h_core_mapHas,eR h_core_functionHas,eR a0n,eR h_core_Has_1,eR h_core_Has_2,eR h_core_Has,eR a4J] 151 (c72 n) [.tmp 6] Go.Proofs.Tryz.func67 (by kernel_rfl)
theorem c2Y (n:Nat)(_:j5 Go.Proofs.Tryz.prog (a2N n))(_:j5 Go.Proofs.Tryz.prog (W2 n))(_:j5 Go.Proofs.Tryz.prog (X4 n))(h_core_Has:j5 Go.Proofs.Tryz.prog (a2c n))(_:j5 Go.Proofs.Tryz.prog (a1F n))(_:j5 Go.Proofs.Tryz.prog (a1O n))(_:j5 Go.Proofs.Tryz.prog (a1o n)):RK (a1F (n+1)) :=
 okR [eR h_core_Has] 9 Y3 [.tmp 4] Go.Proofs.Tryz.func129 (by kernel_rfl)
theorem c3d (n:Nat)(_:j5 Go.Proofs.Tryz.prog (a2N n))(_:j5 Go.Proofs.Tryz.prog (W2 n))(_:j5 Go.Proofs.Tryz.prog (X4 n))(h_core_Has:j5 Go.Proofs.Tryz.prog (a2c n))(_:j5 Go.Proofs.Tryz.prog (a1F n))(_:j5 Go.Proofs.Tryz.prog (a1O n))(_:j5 Go.Proofs.Tryz.prog (a1o n)):RK (a1O (n+1)) :=
 okR [eR h_core_Has] 10 Y3 [.tmp 4] Go.Proofs.Tryz.func130 (by kernel_rfl)
theorem c2l (n:Nat)(_:j5 Go.Proofs.Tryz.prog (a2N n))(_:j5 Go.Proofs.Tryz.prog (W2 n))(_:j5 Go.Proofs.Tryz.prog (X4 n))(h_core_Has:j5 Go.Proofs.Tryz.prog (a2c n))(_:j5 Go.Proofs.Tryz.prog (a1F n))(_:j5 Go.Proofs.Tryz.prog (a1O n))(_:j5 Go.Proofs.Tryz.prog (a1o n)):RK (a1o (n+1)) :=
 okR [eR a8b,eR c8f,eR h_core_Has] 50 (c4g n) [.tmp 6] Go.Proofs.Tryz.func127 (by kernel_rfl)
theorem b4A:∀ n:Nat,j5 Go.Proofs.Tryz.prog (a2N n)/\j5 Go.Proofs.Tryz.prog (W2 n)/\j5 Go.Proofs.Tryz.prog (X4 n)/\j5 Go.Proofs.Tryz.prog (a2c n)/\j5 Go.Proofs.Tryz.prog (a1F n)/\j5 Go.Proofs.Tryz.prog (a1O n)/\j5 Go.Proofs.Tryz.prog (a1o n)
 | 0=>⟨Q8 (by kernel_rfl),Q8 (by kernel_rfl),Q8 (by kernel_rfl),Q8 (by kernel_rfl),Q8 (by kernel_rfl),Q8 (by kernel_rfl),Q8 (by kernel_rfl)⟩
 | n+1=>by
   obtain ⟨h0,h1,h2,h3,h4,h5,h6⟩:=b4A n
   exact ⟨c5R n h0 h1 h2 h3 h4 h5 h6,b6L n h0 h1 h2 h3 h4 h5 h6,b7k n h0 h1 h2 h3 h4 h5 h6,c6v n h0 h1 h2 h3 h4 h5 h6,c2Y n h0 h1 h2 h3 h4 h5 h6,c3d n h0 h1 h2 h3 h4 h5 h6,c2l n h0 h1 h2 h3 h4 h5 h6⟩
theorem c0M (n:Nat):j5 Go.Proofs.Tryz.prog (a2c n):=(b4A n).2.2.2.1
def c0y (n:Nat):Row I:=⟨66,[.d (.int .i64),.var 33 (.k (.d (.dat 33))) false,.var 27 (.k (.d (.dat 27))) false],[.k (.d (.bool))],b1i n⟩
theorem c1p (n:Nat):RK (c0y n) :=
 okR [eR (c0M n)] 10 Y3 [.tmp 4] Go.Proofs.Tryz.func66 (by kernel_rfl)
def c0H (n:Nat):Row I:=⟨68,[.d (.int .i64),.var 33 (.k (.d (.dat 33))) false,.var 27 (.k (.d (.dat 27))) false],[.k (.d (.bool))],b1G n⟩
theorem c00 (n:Nat):RK (c0H n) :=
 okR [eR (c0M n)] 9 Y3 [.tmp 4] Go.Proofs.Tryz.func68 (by kernel_rfl)
def c1Y (n:Nat):Row I:=⟨31,[.d (.dat 33),.d (.dat 27),.d (.sl 3),.d (.sl 3)],[.k (.d (.bool))],b0D n⟩
theorem c29 (n:Nat):RK (c1Y n) :=
 okR [eR a0n,eR (c1p n),eR (c00 n)] 19 Y3 [.tmp 8] Go.Proofs.Tryz.func31 (by kernel_rfl)
def c1h (n:Nat):Row I:=⟨12,[.d (.dat 33),.d (.dat 27),.d (.dat 37)],[.k (.d (.bool))],a2V n⟩
theorem b4z (n:Nat):RK (c1h n) :=
 okR [eR (c0C n),eR (a8r n),eR b6b,eR (c29 n)] 40 Y3 [.tmp 6] Go.Proofs.Tryz.func12 (by kernel_rfl)
def c1s:Row I:=⟨11,[.d (.dat 37)],[.k (.d (.dat 37))],a4S⟩
theorem b4B:RK (c1s) :=
 okR [eR b0x] 5 Y3 [.cell 2 37] Go.Proofs.Tryz.func11 (by kernel_rfl)
def b8e (_:Nat):Hints I:=mkH [(4,[[],[0],[0,1],[0,1,2],[0,1,2,3],[0,1,2,3],[0,1,2,3],[0,1,2,3,4,5,6],[0,1,2,3,4,5,6,7],[0,1,2,3,4,5,6,7,8],[0,1,2,3,4,5,6,7,8,9],[0,1,2,3,4,5,6,7,8,9],[0,1,2,3,4,5,6,7,8,9],[0,1,2,3,4,5,6,7,8,9,10,11,12],[0,1,2,3,4,5,6,7,8,9,10,11,12,13],[0,1,2,3,4,5,6,7,8,9,10,11,12,13,14],[0,1,2,3,4,5,6,7,8,9,10,11,12,13,14,15],[0,1,2,3,4,5,6,7,8,9,10,11,12,13,14,15,16],[0,1,2,3,4,5,6,7,8,9,10,11,12,13,14,15,16,17],[0,1,2,3,4,5,6,7,8,9,10,11,12,13,14,15,16,17,18],[0,1,2,3,4,5,6,7,8,9,10,11,12,13,14,15,16,17,18,19],[0,1,2,3,4,5,6,7,8,9,10,11,12,13,14,15,16,17,18,19,20],[0,1,2,3,4,5,6,7,8,9,10,11,12,13,14,15,16,17,18,19,20,21],[0,1,2,3,4,5,6,7,8,9,10,11,12,13,14,15,16,17,18,19,20,21,22],[0,1,2,3,4,5,6,7,8,9,10,11,12,13,14,15,16,17,18,19,20,21,22,23]])] [(4,[31])] [] [] [] [] []
noncomputable def b56 (n:Nat):Row I:=⟨8,[],[.k (.d (.bool))],a4f n⟩
theorem b7c (n:Nat):RK (b56 n) :=
 okR [eR (c3m n),eR a7E,eR (b4z n),eR b4B] 39 (b8e n) [.tmp 0] Go.Proofs.Tryz.func8 (by kernel_rfl)
def b2k:Hints I:=mkH [(1,[[],[0],[0,1],[0,1,2],[0,1,2,3],[0,1,2,3,4],[0,1,2,3,4,5],[0,1,2],[0,1,2,7],[0,1,2,7,8],[0,1,2,7,8,9],[0,1,2,7,8,9,10],[0,1,2,3,4,5,6,7,8,9,10,11],[0,1,2,3,4,5,6,7,8,9,10,11,12]]),(3,[[],[0],[0,1],[0,1,2],[],[4],[4,5],[4,5,6],[0,1,2,3,4,5,6,7],[0,1,2,3,4,5,6,7,8],[],[0,1,2,3,4,5,6,7,8,9,10],[0,1,2,3,4,5,6,7,8,9,10,11]])] [] [] [] [] [] []
def b1a:Row I:=⟨25,[.var 40 (.k (.d (.dat 40))) true,.d (.int .i64)],[.k (.d (.int .i64))],z8⟩
theorem w9:RK (b1a) :=
 okR [] 46 b2k [.tmp 4] Go.Proofs.Tryz.func25 (by kernel_rfl)
def a86:Row I:=⟨98,[.var 40 (.k (.d (.dat 40))) true],[.k (.d (.str))],V8⟩
theorem a1p:RK (a86) :=
 okR [eR w9] 8 Y3 [.tmp 2] Go.Proofs.Tryz.func98 (by kernel_rfl)
def b1b:Row I:=⟨99,[.var 40 (.k (.d (.dat 40))) true],[.k (.d (.str))],a0k⟩
theorem a2j:RK (b1b) :=
 okR [eR w9] 8 Y3 [.tmp 2] Go.Proofs.Tryz.func99 (by kernel_rfl)
def a97:Row I:=⟨100,[.var 40 (.k (.d (.dat 40))) true],[.k (.d (.str))],a0D⟩
theorem a6j:RK (a97) :=
 okR [eR w9] 8 Y3 [.tmp 2] Go.Proofs.Tryz.func100 (by kernel_rfl)
def b0a:Hints I:=mkH [] [] [] [] [(28,⟨16776706,[],[(0,.k (.d (.dat 40)))],[(1,.k (.d (.int .i64))),(9,.k (.row 3 false))],[((.exit 0),[(9,.k (.row 3 false))])],bnd tb (.slot 1) 2⟩)] [] []
def a9G:Row I:=⟨101,[.var 40 (.k (.d (.dat 40))) true,.d (.int .i64),.d (.int .i64),.d (.int .i64)],[.k (.row 3 false)],k9⟩
theorem a9N:RK (a9G) :=
 okR [eR w9] 25 b0a [.tmp 8] Go.Proofs.Tryz.func101 (by kernel_rfl)
def b0b:Hints I:=mkH [(7,[[],[0],[],[],[2,3],[2,3,4],[],[],[6,7],[],[6,7,8,9],[6,7,8,9,10],[2,3,4,5,6,7,8,9,10,11],[2,3,4,5,6,7,8,9,10,11,12],[0,1,2,3,4,5,6,7,8,9,10,11,12,13],[0,1,2,3,4,5,6,7,8,9,10,11,12,13,14],[0,1,2,3,4,5,6,7,8,9,10,11,12,13,14,15]])] [] [] [(978,⟨8796076244992,[],[(0,.k (.d (.dat 40))),(5,.lvs [.d (.int .i64),.d (.int .i64),.d (.int .i64),.d (.str),.row 3 false,.row 148 false,.d (.int .i64),.d (.int .i64)])],[(.normal,[])]⟩)] [(122,⟨8796091973760,[6],[(0,.k (.d (.dat 40))),(5,.lvs [.d (.int .i64),.d (.int .i64),.d (.int .i64),.d (.str),.row 3 false,.row 148 false,.d (.int .i64),.d (.int .i64)])],[(7,.k (.d (.int .i64)))],[((.exit 0),[])],bnd tb (.cst 3) 1⟩)] [] []
def a9x:Row I:=⟨102,[.var 40 (.k (.d (.dat 40))) true,.d (.int .i64)],[.k (.d (.dat 65))],a2k⟩
theorem a9Q:RK (a9x) :=
 okR [eR w9] 44 b0b [.cell 4 65] Go.Proofs.Tryz.func102 (by kernel_rfl)
def b1O:Hints I:=mkH [(8,[[],[],[0,1],[0,1,2],[],[],[],[],[7],[6,7,8],[5,6,7,8,9],[4,5,6,7,8,9,10],[4,5,6,7,8,9,10,11],[0,1,2,3,4,5,6,7,8,9,10,11,12],[0,1,2,3,4,5,6,7,8,9,10,11,12,13]])] [] [] [(29,⟨128,[],[],[(.normal,[(7,.k (.d (.int .i64)))])]⟩),
 (32243709,⟨47223664828696452136960,[],[],[(.normal,[(73,.k (.d (.bool)))])]⟩),
 (2063597565,⟨49517601571415210995964968960,[],[],[(.normal,[(93,.k (.d (.bool)))])]⟩)] [] [] []
def b05:Row I:=⟨55,[.var 40 (.k (.d (.dat 40))) true,.d (.int .i64),.d (.int .i64)],[.k (.d (.dat 65))],a3f⟩
theorem b1c:RK (b05) :=
 okR [eR w9,eR a1p,eR a2j,eR a6j,eR a9N,eR a9Q] 128 b1O [.cell 6 65] Go.Proofs.Tryz.func55 (by kernel_rfl)
def b2r:Hints I:=mkH [(6,[[],[0],[],[],[],[2,3,4],[2,3,4,5],[0,1,2,3,4,5,6],[0,1,2,3,4,5,6,7],[0,1,2,3,4,5,6,7,8]])] [] [] [] [(122,⟨16776256,[],[(0,.k (.d (.dat 40))),(5,.lvs [.row 65 false,.d (.int .i64)])],[(6,.k (.d (.int .i64)))],[((.exit 0),[])],bnd tb (.slot 1) 1⟩)] [] []
def b0W:Row I:=⟨24,[.var 40 (.k (.d (.dat 40))) true,.d (.int .i64)],[.k (.d (.dat 27))],a1S⟩
theorem b1I:RK (b0W) :=
 okR [eR b1c] 25 b2r [.cell 4 27] Go.Proofs.Tryz.func24 (by kernel_rfl)
def a9P:Row I:=⟨112,[.var 40 (.k (.d (.dat 40))) true],[.k (.d (.int .i64))],a0r⟩
theorem b0f:RK (a9P) :=
 okR [eR w9] 8 Y3 [.tmp 2] Go.Proofs.Tryz.func112 (by kernel_rfl)
def b60:Row I:=⟨104,[.d (.str)],[.k (.d (.dat 33))],a3n⟩
theorem a9W:RK (b60) :=
 okR [] 5 Y3 [.cell 2 33] Go.Proofs.Tryz.func104 (by kernel_rfl)
def b5h:Row I:=⟨103,[.d (.str)],[.k (.d (.dat 33))],a2q⟩
theorem a8Q:RK (b5h) :=
 okR [] 5 Y3 [.cell 2 33] Go.Proofs.Tryz.func103 (by kernel_rfl)
def b78:Row I:=⟨105,[.d (.int .i64)],[.k (.d (.dat 33))],a5q⟩
theorem b0S:RK (b78) :=
 okR [] 5 Y3 [.cell 2 33] Go.Proofs.Tryz.func105 (by kernel_rfl)
def b8B:Row I:=⟨106,[],[.k (.d (.dat 33))],W3⟩
theorem a3K:RK (b8B) :=
 okR [] 2 Y3 [.cell 0 33] Go.Proofs.Tryz.func106 (by kernel_rfl)
def b4T:Row I:=⟨163,[.d (.sl 33)],[.k (.row 33 false)],a1x⟩
theorem a8R:RK (b4T) :=
 okR [] 5 Y3 [.tmp 2] Go.Proofs.Tryz.func163 (by kernel_rfl)
def b5O:Row I:=⟨113,[.d (.sl 33)],[.k (.d (.dat 33))],a1U⟩
theorem a9A:RK (b5O) :=
 okR [eR a8R] 6 Y3 [.cell 2 33] Go.Proofs.Tryz.func113 (by kernel_rfl)
def b0Q:Row I:=⟨57,[.var 40 (.k (.d (.dat 40))) true],[.k (.d (.dat 33))],Q9⟩
theorem a33:RK (b0Q) :=
 okR [eR w9,eR b0f,eR a7E,eR a1p,eR a9W,eR a2j,eR a8Q,eR b0S,eR a3K,eR a9A] 29 Y3 [.cell 2 33] Go.Proofs.Tryz.func57 (by kernel_rfl)
def b6t:Row I:=⟨153,[.d (.int .u8)],[.k (.d (.bool))],a2Z⟩
theorem a9H:RK (b6t) :=
 okR [] 9 Y3 [.tmp 2] Go.Proofs.Tryz.func153 (by kernel_rfl)
def b59:Row I:=⟨154,[.d (.int .u8)],[.k (.d (.bool))],a4b⟩
theorem a9h:RK (b59) :=
 okR [] 9 Y3 [.tmp 2] Go.Proofs.Tryz.func154 (by kernel_rfl)
def b7z:Hints I:=mkH [] [] [] [] [(58,⟨4398046248972,[],[],[(3,.k (.d (.int .i64)))],[((.exit 0),[]),(.ret,[(2,.k (.d (.bool)))])],bnd tb (.len (.slot 0)) 1⟩)] [] []
def b5g:Row I:=⟨93,[.d (.str)],[.k (.d (.bool))],a2s⟩
theorem a6h:RK (b5g) :=
 okR [eR a9H,eR a9h] 42 b7z [.tmp 2] Go.Proofs.Tryz.func93 (by kernel_rfl)
def b3K:Row I:=⟨94,[.d (.dat 130)],[.k (.d (.bool))],a1P⟩
theorem a5i:RK (b3K) :=
 okR [eR a6h] 22 Y3 [.tmp 2] Go.Proofs.Tryz.func94 (by kernel_rfl)
def b6A:Row I:=⟨155,[.d (.int .i64),.d (.int .i64)],[.k (.d (.int .i64))],a27⟩
theorem a6A:RK (b6A) :=
 okR [] 11 Y3 [.tmp 4] Go.Proofs.Tryz.func155 (by kernel_rfl)
def b7J:Row I:=⟨156,[.d (.str),.d (.str)],[.k (.d (.int .i64))],a1A⟩
theorem a9V:RK (b7J) :=
 okR [] 11 Y3 [.tmp 4] Go.Proofs.Tryz.func156 (by kernel_rfl)
def b02:Row I:=⟨95,[.d (.dat 130),.d (.dat 130)],[.k (.d (.int .i64))],W6⟩
theorem a2l:RK (b02) :=
 okR [eR a6A,eR a9V] 20 Y3 [.tmp 4] Go.Proofs.Tryz.func95 (by kernel_rfl)
def c0u:Hints I:=mkH [(13,[[],[],[1],[1,2],[0,1,2,3],[0,1,2,3,4],[0,1,2,3,4,5],[0,1,2,3,4,5,6],[0,1,2,3,4,5],[0,1,2,3,4,5,6,7,8],[0,1,2,3,4,5,6,7,8,9],[0,1,2,3,4,5],[0,1,2,3,4,5],[0,1,2,3,4,5,11,12],[0,1,2,3,4,5,11,12,13],[0,1,2,3,4,5,6,7,8,9,10,11,12,13,14],[0,1,2,3,4,5,6,7,8,9,10,11,12,13,14,15],[0,1,2,3,4,5,6,7,8,9,10,11,12,13,14,15,16]]),(15,[[],[],[1],[1,2],[0,1,2,3],[0,1,2,3,4],[0,1,2,3,4,5],[0,1,2,3,4,5,6],[0,1,2,3,4,5],[0,1,2,3,4,5,6,7,8],[0,1,2,3,4,5,6,7,8,9],[0,1,2,3,4,5],[0,1,2,3,4,5],[0,1,2,3,4,5,11,12],[0,1,2,3,4,5,11,12,13],[0,1,2,3,4,5,6,7,8,9,10,11,12,13,14],[0,1,2,3,4,5,6,7,8,9,10,11,12,13,14,15]]),(17,[[],[0],[],[0,1,2],[0,1,2,3],[],[5],[],[5,6,7],[0,1,2,3,4,5,6,7,8],[0,1,2,3,4,5,6,7,8,9],[0,1,2,3,4,5,6,7,8,9,10]]),(18,[[],[],[],[1,2],[1,2,3],[1,2,3,4],[0,1,2,3,4,5],[],[7],[],[7,8,9],[0,1,2,3,4,5,6,7,8,9,10],[0,1,2,3,4,5,6,7,8,9,10,11],[0,1,2,3,4,5,6,7,8,9,10,11,12]]),(19,[[],[],[],[1,2],[1,2,3],[1,2,3,4],[0,1,2,3,4,5],[],[7],[],[7,8,9],[0,1,2,3,4,5,6,7,8,9,10],[0,1,2,3,4,5,6,7,8,9,10,11],[0,1,2,3,4,5,6,7,8,9,10,11,12]])] [] [] [] [(58,⟨2147221600,[],[(4,.lvs [.d (.int .i64),.d (.int .i64),.d (.str),.row 33 false,.row 130 false,.row 97 false,.row 9 false])],[(6,.k (.d (.int .i64)))],[((.exit 0),[]),(.ret,[(5,.k (.d (.int .i64)))])],bnd tb (.len (.slot 0)) 1⟩),
 (250,⟨5192296858534827628530492034256672,[7],[(4,.lvs [.d (.int .i64),.d (.int .i64),.d (.str),.row 33 false,.row 130 false,.row 97 false,.row 9 false]),(7,.lvs [.d (.int .i64),.d (.int .i64),.d (.str),.d (.sl 33),.d (.sl 130),.row 97 true,.row 9 true])],[(8,.k (.d (.int .i64)))],[((.exit 2),[]),(.ret,[(5,.k (.d (.int .i64)))])],bnd tb (.len (.slot 0)) 1⟩),
 (32036,⟨288230101273805312,[7],[],[(9,.k (.d (.int .i64)))],[((.exit 4),[(9,.k (.d (.int .i64)))])],bnd tb (.len (.ld 29 (.fld 33 4 (.slot 7)))) 1⟩)] [] []
def b8i:Row I:=⟨159,[.d (.sl 130),.d (.sl 33)],[.k (.d (.dat 33)),.k (.d (.int .i64))],a1n⟩
theorem b0L:RK (b8i) :=
 okR [eR a5i,eR a2l,eR a8R] 113 c0u [.cell 4 33,.tmp 5] Go.Proofs.Tryz.func159 (by kernel_rfl)
def b6f:Row I:=⟨201,[.d (.int .i64),.d (.int .i64)],[.k (.d (.int .i64))],a0z⟩
theorem a9F:RK (b6f) :=
 okR [eR a6A] 8 Y3 [.tmp 4] Go.Proofs.Tryz.func201 (by kernel_rfl)
def b6n (_:Nat):Hints I:=mkH [(12,[[],[0],[],[0,1,2],[0,1,2,3],[],[5],[],[5,6,7],[5,6,7,8],[0,1,2,3,4,5,6,7,8,9],[0,1,2,3,4,5,6,7,8,9,10]]),(23,[[],[0],[],[0,1,2],[0,1,2,3],[],[5],[],[5,6,7],[5,6,7,8],[0,1,2,3,4,5,6,7,8,9],[0,1,2,3,4,5,6,7,8,9,10]]),(31,[[],[0],[],[0,1,2],[0,1,2,3],[],[5],[],[5,6,7],[5,6,7,8],[0,1,2,3,4,5,6,7,8,9],[0,1,2,3,4,5,6,7,8,9,10]])] [] [] [] [(506,⟨151115655394234608910448,[],[],[(5,.k (.d (.int .i64)))],[((.exit 0),[]),(.ret,[(4,.k (.d (.int .i64)))])],bnd tb (.len (.ld 29 (.fld 33 4 (.slot 2)))) 1⟩),
 (8186,⟨1329227361959615758789106311928742672,[],[],[(8,.k (.d (.int .i64)))],[((.exit 2),[]),(.ret,[(4,.k (.d (.int .i64)))])],bnd tb (.len (.ld 30 (.fld 33 5 (.slot 2)))) 1⟩),
 (32762,⟨45671904388519233253803489366408968731082361872,[],[],[(10,.k (.d (.int .i64)))],[((.exit 4),[]),(.ret,[(4,.k (.d (.int .i64)))])],bnd tb (.len (.ld 31 (.fld 33 6 (.slot 2)))) 1⟩)] [] []
def a0W (n:Nat):Row I:=⟨157,[.d (.dat 33),.d (.dat 33)],[.k (.d (.int .i64))],a0x n⟩
def b7D (_:Nat):Hints I:=mkH [(6,[[],[],[0,1],[0,1,2],[],[],[4,5],[4,5,6],[0,1,2,3,4,5,6,7],[0,1,2,3,4,5,6,7,8]])] [] [] [] [(58,⟨34359607408,[],[],[(5,.k (.d (.int .i64)))],[((.exit 0),[]),(.ret,[(4,.k (.d (.int .i64)))])],bnd tb (.len (.slot 0)) 1⟩)] [] []
def a2d (n:Nat):Row I:=⟨158,[.d (.sl 33),.d (.sl 33)],[.k (.d (.int .i64))],a3M n⟩
def W1 (n:Nat):Row I:=⟨97,[.d (.dat 97),.d (.dat 97)],[.k (.d (.int .i64))],Y4 n⟩
theorem b3V (n:Nat)(_:j5 Go.Proofs.Tryz.prog (a0W n))(h_semtyperef1_values:j5 Go.Proofs.Tryz.prog (a2d n))(h_semtyperef1_CompareEntries:j5 Go.Proofs.Tryz.prog (W1 n)):RK (a0W (n+1)) :=
 okR [eR a9F,eR a6A,eR a9V,eR a2l,eR h_semtyperef1_values,eR h_semtyperef1_CompareEntries] 155 (b6n n) [.tmp 4] Go.Proofs.Tryz.func157 (by kernel_rfl)
theorem b4Z (n:Nat)(h_semtyperef1_Compare:j5 Go.Proofs.Tryz.prog (a0W n))(_:j5 Go.Proofs.Tryz.prog (a2d n))(_:j5 Go.Proofs.Tryz.prog (W1 n)):RK (a2d (n+1)) :=
 okR [eR a9F,eR h_semtyperef1_Compare] 35 (b7D n) [.tmp 4] Go.Proofs.Tryz.func158 (by kernel_rfl)
theorem a9D (n:Nat)(h_semtyperef1_Compare:j5 Go.Proofs.Tryz.prog (a0W n))(h_semtyperef1_values:j5 Go.Proofs.Tryz.prog (a2d n))(_:j5 Go.Proofs.Tryz.prog (W1 n)):RK (W1 (n+1)) :=
 okR [eR h_semtyperef1_values,eR h_semtyperef1_Compare] 26 Y3 [.tmp 4] Go.Proofs.Tryz.func97 (by kernel_rfl)
theorem a34:∀ n:Nat,j5 Go.Proofs.Tryz.prog (a0W n)/\j5 Go.Proofs.Tryz.prog (a2d n)/\j5 Go.Proofs.Tryz.prog (W1 n)
 | 0=>⟨Q8 (by kernel_rfl),Q8 (by kernel_rfl),Q8 (by kernel_rfl)⟩
 | n+1=>by
   obtain ⟨h0,h1,h2⟩:=a34 n
   exact ⟨b3V n h0 h1 h2,b4Z n h0 h1 h2,a9D n h0 h1 h2⟩
theorem b4E (n:Nat):j5 Go.Proofs.Tryz.prog (a0W n):=(a34 n).1
theorem a5G (n:Nat):j5 Go.Proofs.Tryz.prog (W1 n):=(a34 n).2.2
def b5M (n:Nat):Row I:=⟨96,[.d (.dat 33),.d (.dat 33)],[.k (.d (.bool))],a4d n⟩
theorem a9n (n:Nat):RK (b5M n) :=
 okR [eR (b4E n)] 9 Y3 [.tmp 4] Go.Proofs.Tryz.func96 (by kernel_rfl)
def b6J (_:Nat):Hints I:=mkH [(6,[[],[],[1],[0,1,2],[0,1,2,3],[0,1,2,3,4],[0,1,2,3,4],[0,1,2,3,4,5,6],[0,1,2,3,4,5,6,7],[0,1,2,3,4],[0,1,2,3,4],[0,1,2,3,4,9,10],[0,1,2,3,4,9,10,11],[0,1,2,3,4,5,6,7,8,9,10,11,12],[0,1,2,3,4,5,6,7,8,9,10,11,12,13],[0,1,2,3,4,5,6,7,8,9,10,11,12,13,14]]),(8,[[],[],[1],[0,1,2],[0,1,2,3],[0,1,2,3,4],[0,1,2,3,4],[0,1,2,3,4,5,6],[0,1,2,3,4,5,6,7],[0,1,2,3,4],[0,1,2,3,4],[0,1,2,3,4,9,10],[0,1,2,3,4,9,10,11],[0,1,2,3,4,5,6,7,8,9,10,11,12],[0,1,2,3,4,5,6,7,8,9,10,11,12,13],[0,1,2,3,4,5,6,7,8,9,10,11,12,13,14]]),(10,[[],[],[],[1,2],[1,2,3],[1,2,3,4],[0,1,2,3,4,5],[],[],[7,8],[0,1,2,3,4,5,6,7,8,9],[0,1,2,3,4,5,6,7,8,9,10]])] [] [] [(466,⟨4611686018427379816,[],[],[(.normal,[(3,.k (.d (.sl 97)))])]⟩)] [(58,⟨4611686018427387896,[],[],[(3,.k (.d (.sl 97))),(4,.k (.d (.int .i64)))],[((.exit 0),[(3,.k (.d (.sl 97)))])],bnd tb (.len (.slot 0)) 1⟩),
 (7460,⟨2147475488,[3],[],[(5,.k (.d (.int .i64)))],[((.exit 2),[(5,.k (.d (.int .i64)))])],bnd tb (.len (.slot 3)) 1⟩)] [] []
def b3T (n:Nat):Row I:=⟨202,[.bor 97],[.k (.d (.sl 97))],a4V n⟩
theorem b4W (n:Nat):RK (b3T n) :=
 okR [eR (a5G n)] 63 (b6J n) [.tmp 2] Go.Proofs.Tryz.func202 (by kernel_rfl)
def b4O (_:Nat):Hints I:=mkH [] [] [] [] [(58,⟨70368744161376,[],[(4,.lvs [.d (.int .i64),.d (.int .i64),.d (.str),.row 33 false,.row 130 false,.row 97 false,.row 9 false])],[(6,.k (.d (.int .i64)))],[((.exit 0),[]),(.ret,[(5,.k (.d (.int .i64)))])],bnd tb (.len (.slot 1)) 1⟩)] [] []
def b3D (n:Nat):Row I:=⟨160,[.d (.int .i64),.bor 97],[.k (.d (.dat 33)),.k (.d (.int .i64))],a01 n⟩
theorem a74 (n:Nat):RK (b3D n) :=
 okR [eR (a9n n),eR (b4W n)] 50 (b4O n) [.cell 4 33,.tmp 5] Go.Proofs.Tryz.func160 (by kernel_rfl)
def b7Q:Hints I:=mkH [(6,[[],[],[1],[0,1,2],[0,1,2,3],[0,1,2,3,4],[0,1,2,3,4],[0,1,2,3,4,5,6],[0,1,2,3,4,5,6,7],[0,1,2,3,4],[0,1,2,3,4],[0,1,2,3,4,9,10],[0,1,2,3,4,9,10,11],[0,1,2,3,4,5,6,7,8,9,10,11,12],[0,1,2,3,4,5,6,7,8,9,10,11,12,13]]),(8,[[],[],[1],[0,1,2],[0,1,2,3],[0,1,2,3,4],[0,1,2,3,4],[0,1,2,3,4,5,6],[0,1,2,3,4,5,6,7],[0,1,2,3,4],[0,1,2,3,4],[0,1,2,3,4,9,10],[0,1,2,3,4,9,10,11],[0,1,2,3,4,5,6,7,8,9,10,11,12],[0,1,2,3,4,5,6,7,8,9,10,11,12,13]]),(10,[[],[],[],[1,2],[1,2,3],[1,2,3,4],[0,1,2,3,4,5],[],[],[7,8],[0,1,2,3,4,5,6,7,8,9],[0,1,2,3,4,5,6,7,8,9,10]])] [] [] [(466,⟨1152921504606838888,[],[],[(.normal,[(3,.k (.d (.sl 9)))])]⟩)] [(58,⟨1152921504606846968,[],[],[(3,.k (.d (.sl 9))),(4,.k (.d (.int .i64)))],[((.exit 0),[(3,.k (.d (.sl 9)))])],bnd tb (.len (.slot 0)) 1⟩),
 (7460,⟨1073733664,[3],[],[(5,.k (.d (.int .i64)))],[((.exit 2),[(5,.k (.d (.int .i64)))])],bnd tb (.len (.slot 3)) 1⟩)] [] []
def b5A:Row I:=⟨109,[.d (.sl 9)],[.k (.d (.sl 9))],a0m⟩
theorem a52:RK (b5A) :=
 okR [] 61 b7Q [.tmp 2] Go.Proofs.Tryz.func109 (by kernel_rfl)
def b1t:Row I:=⟨110,[.d (.dat 33),.d (.sl 9)],[.k (.d (.dat 33))],a3D⟩
theorem b1X:RK (b1t) :=
 okR [eR a52] 9 Y3 [.cell 4 33] Go.Proofs.Tryz.func110 (by kernel_rfl)
def b7q:Row I:=⟨203,[.d (.dat 33),.d (.dat 33)],[.k (.d (.dat 33))],a4N⟩
theorem b8q:RK (b7q) :=
 okR [] 9 Y3 [.cell 4 33] Go.Proofs.Tryz.func203 (by kernel_rfl)
def b0Z:Hints I:=mkH [] [] [] [(29,⟨1048456,[],[(0,.k (.d (.dat 40)))],[(.normal,[(3,.k (.row 9 false))])]⟩)] [] [] []
def a9M:Row I:=⟨162,[.var 40 (.k (.d (.dat 40))) true],[.k (.d (.sl 9))],a1r⟩
theorem a5Y:RK (a9M) :=
 okR [eR w9,eR a6j,eR a52] 22 b0Z [.tmp 2] Go.Proofs.Tryz.func162 (by kernel_rfl)
def b1B:Row I:=⟨204,[.var 40 (.k (.d (.dat 40))) true],[.k (.d (.dat 130))],a3w⟩
theorem b2q:RK (b1B) :=
 okR [eR w9,eR a1p,eR a2j] 12 Y3 [.cell 2 130] Go.Proofs.Tryz.func204 (by kernel_rfl)
def X7 (n:Nat):Row I:=⟨111,[.var 40 (.k (.d (.dat 40))) true,.d (.int .i64)],[.k (.d (.dat 33))],a1y n⟩
def b1z (_:Nat):Hints I:=mkH [(16,[[],[],[1],[0,1,2],[],[0,1,2,3,4],[0,1,2,3,4,5]])] [(13,[46])] [] [(29,⟨5316911983139663491615228241104863200,[],[(0,.k (.d (.dat 40))),(4,.lvs [.d (.int .i64),.d (.int .i64),.d (.str),.d (.sl 33),.d (.sl 130),.d (.sl 97),.d (.sl 9)])],[(.normal,[]),(.ret,[])]⟩),
 (7540,⟨2234207627640832,[],[(0,.k (.d (.dat 40)))],[(.normal,[(50,.k (.d (.bool)))])]⟩),
 (7541,⟨141863388262170624,[],[(0,.k (.d (.dat 40))),(7,.k (.d (.dat 33)))],[(.normal,[])]⟩)] [(3754,⟨549487378528,[],[(0,.k (.d (.dat 40)))],[(5,.k (.row 33 false)),(6,.k (.d (.int .i64)))],[((.exit 1),[(5,.k (.row 33 false))])],bnd tb (.slot 6) 2⟩),
 (120794,⟨77370071863715549769893632,[],[(0,.k (.d (.dat 40)))],[(8,.k (.row 130 false)),(9,.k (.row 33 false)),(10,.k (.d (.int .i64)))],[((.exit 3),[(8,.k (.row 130 false)),(9,.k (.row 33 false))])],bnd tb (.slot 10) 2⟩),
 (483290,⟨10382058415869198798257999252078592,[],[(0,.k (.d (.dat 40)))],[(14,.k (.row 97 false)),(15,.k (.d (.int .i64)))],[((.exit 5),[(14,.k (.row 97 false))])],bnd tb (.slot 15) 2⟩)] [] []
def a0L (n:Nat):Row I:=⟨161,[.var 40 (.k (.d (.dat 40))) true,.d (.int .i64)],[.k (.d (.dat 33))],b3g n⟩
def b1y (_:Nat):Hints I:=mkH [(4,[[],[0],[],[],[2,3],[2,3,4],[0,1,2,3,4,5],[0,1,2,3,4,5,6],[0,1,2,3,4,5,6,7]])] [] [] [] [(28,⟨1048322,[],[(0,.k (.d (.dat 40))),(7,.lvs [.row 33 false,.d (.bool),.d (.int .i64),.d (.int .i64),.d (.str),.row 33 false,.row 130 false,.row 97 false,.row 9 false])],[(1,.k (.d (.int .i64)))],[((.exit 0),[])],bnd tb (.slot 1) 2⟩)] [] []
def a0C (n:Nat):Row I:=⟨205,[.var 40 (.k (.d (.dat 40))) true,.d (.int .i64),.d (.int .i64)],[.k (.d (.dat 97))],b3L n⟩
theorem b0e (n:Nat)(_:j5 Go.Proofs.Tryz.prog (X7 n))(h_semtypebase_Source_value:j5 Go.Proofs.Tryz.prog (a0L n))(_:j5 Go.Proofs.Tryz.prog (a0C n)):RK (X7 (n+1)) :=
 okR [eR h_semtypebase_Source_value,eR a5Y] 13 Y3 [.cell 4 33] Go.Proofs.Tryz.func111 (by kernel_rfl)
theorem a98 (n:Nat)(h_semtypebase_Source_Value:j5 Go.Proofs.Tryz.prog (X7 n))(_:j5 Go.Proofs.Tryz.prog (a0L n))(h_semtypebase_Source_entry:j5 Go.Proofs.Tryz.prog (a0C n)):RK (a0L (n+1)) :=
 okR [eR a33,eR w9,eR h_semtypebase_Source_Value,eR a9A,eR a3K,eR b8q,eR a5Y,eR b2q,eR b0L,eR h_semtypebase_Source_entry,eR (a74 n)] 124 (b1z n) [.cell 4 33] Go.Proofs.Tryz.func161 (by kernel_rfl)
theorem a9Z (n:Nat)(h_semtypebase_Source_Value:j5 Go.Proofs.Tryz.prog (X7 n))(_:j5 Go.Proofs.Tryz.prog (a0L n))(_:j5 Go.Proofs.Tryz.prog (a0C n)):RK (a0C (n+1)) :=
 okR [eR h_semtypebase_Source_Value,eR w9] 30 (b1y n) [.cell 6 97] Go.Proofs.Tryz.func205 (by kernel_rfl)
theorem a49:∀ n:Nat,j5 Go.Proofs.Tryz.prog (X7 n)/\j5 Go.Proofs.Tryz.prog (a0L n)/\j5 Go.Proofs.Tryz.prog (a0C n)
 | 0=>⟨Q8 (by kernel_rfl),Q8 (by kernel_rfl),Q8 (by kernel_rfl)⟩
 | n+1=>by
   obtain ⟨h0,h1,h2⟩:=a49 n
   exact ⟨b0e n h0 h1 h2,a98 n h0 h1 h2,a9Z n h0 h1 h2⟩
theorem b0T (n:Nat):j5 Go.Proofs.Tryz.prog (X7 n):=(a49 n).1
def b6z:Row I:=⟨152,[.d (.int .u8)],[.k (.d (.bool))],a4c⟩
theorem b61:RK (b6z) :=
 okR [] 9 Y3 [.tmp 2] Go.Proofs.Tryz.func152 (by kernel_rfl)
def b2V:Hints I:=mkH [] [] [] [] [(58,⟨562949953159180,[],[],[(3,.k (.d (.int .i64)))],[((.exit 0),[]),(.ret,[(2,.k (.d (.bool)))])],bnd tb (.len (.slot 0)) 1⟩)] [] []
def b1v:Row I:=⟨88,[.d (.str)],[.k (.d (.bool))],a2i⟩
theorem a7b:RK (b1v) :=
 okR [eR b61,eR a9H,eR a9h] 49 b2V [.tmp 2] Go.Proofs.Tryz.func88 (by kernel_rfl)
def b9H (_:Nat):Hints I:=mkH [(4,[[],[0],[],[0,1,2],[0,1,2,3],[0,1,2,3,4],[0,1,2,3,4,5],[0,1,2,3,4,5,6],[0,1,2,3,4,5,6,7],[0,1,2,3,4,5,6,7,8],[0,1,2,3,4,5,6,7,8,9],[0,1,2,3,4,5,6,7,8,9,10],[0,1,2,3,4,5,6,7,8,9,10,11],[0,1,2,3,4,5,6,7,8,9,10],[0,1,2,3,4,5,6,7,8,9,10,13],[0,1,2,3,4,5,6,7,8,9,10,11,12,13,14],[0,1,2,3,4,5,6,7,8,9,10,11,12,13,14,15],[0,1,2,3,4,5,6,7,8,9,10],[0,1,2,3,4,5,6,7,8,9,10,17],[0,1,2,3,4,5,6,7,8,9,10],[0,1,2,3,4,5,6,7,8,9,10,17,18,19],[0,1,2,3,4,5,6,7,8,9,10,17,18,19,20],[0,1,2,3,4,5,6,7,8,9,10,11,12,13,14,15,16,17,18,19,20,21],[0,1,2,3,4,5,6,7,8,9,10,11,12,13,14,15,16,17,18,19,20,21,22],[0,1,2,3,4,5,6,7,8,9,10,11,12,13,14,15,16,17,18,19,20,21,22,23]]),(29,[[],[0],[],[0,1,2],[0,1,2,3],[0,1,2,3,4],[0,1,2,3,4,5],[0,1,2,3,4,5,6],[0,1,2,3,4,5,6,7],[0,1,2,3,4,5,6,7,8],[0,1,2,3,4,5,6,7,8,9],[0,1,2,3,4,5,6,7,8,9,10],[0,1,2,3,4,5,6,7,8,9,10,11],[0,1,2,3,4,5,6,7,8,9,10],[0,1,2,3,4,5,6,7,8,9,10,13],[0,1,2,3,4,5,6,7,8,9,10,11,12,13,14],[0,1,2,3,4,5,6,7,8,9,10,11,12,13,14,15],[0,1,2,3,4,5,6,7,8,9,10],[0,1,2,3,4,5,6,7,8,9,10,17],[0,1,2,3,4,5,6,7,8,9,10],[0,1,2,3,4,5,6,7,8,9,10,17,18,19],[0,1,2,3,4,5,6,7,8,9,10,17,18,19,20],[0,1,2,3,4,5,6,7,8,9,10,11,12,13,14,15,16,17,18,19,20,21],[0,1,2,3,4,5,6,7,8,9,10,11,12,13,14,15,16,17,18,19,20,21,22],[0,1,2,3,4,5,6,7,8,9,10,11,12,13,14,15,16,17,18,19,20,21,22,23],[0,1,2,3,4,5,6,7,8,9,10,11,12,13,14,15,16,17,18,19,20,21,22,23,24]]),(39,[[],[0],[0,1],[],[3],[0,1,2,3,4],[0,1,2,3,4,5],[0,1,2,3,4,5,6],[0,1,2,3,4,5,6,7],[0,1,2,3,4,5,6,7,8],[0,1,2,3,4,5,6,7,8,9],[0,1,2,3,4,5,6,7,8,9,10],[0,1,2,3,4,5,6,7,8,9],[0,1,2,3,4,5,6,7,8,9,10,11,12],[0,1,2,3,4,5,6,7,8,9,10,11,12,13],[0,1,2,3,4,5,6,7,8,9,10,11,12,13,14],[0,1,2,3,4,5,6,7,8,9,10,11,12,13,14,15],[0,1,2,3,4,5,6,7,8,9,10,11,12,13,14,15,16],[0,1,2,3,4,5,6,7,8,9,10,11,12,13,14,15,16,17],[0,1,2,3,4,5,6,7,8,9,10,11,12,13,14,15,16,17,18],[0,1,2,3,4,5,6,7,8,9,10,11,12,13,14,15,16,17,18,19],[0,1,2,3,4,5,6,7,8,9,10,11,12,13,14,15,16,17,18,19,20],[0,1,2,3,4,5,6,7,8,9,10,11,12,13,14,15,16,17,18,19,20,21],[0,1,2,3,4,5,6,7,8,9,10,11,12,13,14,15,16,17,18,19,20],[0,1,2,3,4,5,6,7,8,9,10,11,12,13,14,15,16,17,18,19,20,23],[0,1,2,3,4,5,6,7,8,9,10,11,12,13,14,15,16,17,18,19,20,21,22,23,24],[0,1,2,3,4,5,6,7,8,9,10,11,12,13,14,15,16,17,18,19,20,21,22,23,24,25],[0,1,2,3,4,5,6,7,8,9,10,11,12,13,14,15,16,17,18,19,20],[0,1,2,3,4,5,6,7,8,9,10,11,12,13,14,15,16,17,18,19,20,21,22,23,24,25,26,27],[0,1,2,3,4,5,6,7,8,9,10,11,12,13,14,15,16,17,18,19,20,21,22,23,24,25,26,27,28],[0,1,2,3,4,5,6,7,8,9,10,11,12,13,14,15,16,17,18,19,20,21,22,23,24,25,26,27,28,29],[0,1,2,3,4,5,6,7,8,9,10,11,12,13,14,15,16,17,18,19,20,21,22,23,24,25,26,27,28,29,30]])] [] [] [(4073,⟨425352958651173079329218259289710264320,[],[],[(.normal,[(126,.k (.d (.bool)))])]⟩)] [(26,⟨4398046510092,[],[],[(3,.k (.d (.int .i64)))],[((.exit 0),[]),(.ret,[(2,.k (.d (.bool)))])],bnd tb (.len (.ld 31 (.fld 33 6 (.slot 1)))) 1⟩),
 (133562354,⟨411376139282411024886683268815639281647236804420309368268914820,[],[],[(7,.k (.d (.int .i64)))],[((.exit 3),[]),(.ret,[(2,.k (.d (.bool)))])],bnd tb (.len (.ld 29 (.fld 33 4 (.slot 1)))) 1⟩),
 (1068498922,⟨948568795032040353016559207911582007103813675119580226322391447047862150789858052,[],[],[(8,.k (.d (.int .i64)))],[((.exit 5),[]),(.ret,[(2,.k (.d (.bool)))])],bnd tb (.len (.ld 30 (.fld 33 5 (.slot 1)))) 1⟩)] [] []
def b71 (n:Nat):Row I:=⟨54,[.d (.dat 33)],[.k (.d (.bool))],a6D n⟩
theorem b8g (n:Nat):RK (b71 n) :=
 okR [eR a7b,eR a6h,eR a5i,eR a2l,eR (a9n n),eR (a5G n)] 269 (b9H n) [.tmp 2] Go.Proofs.Tryz.func54 (by kernel_rfl)
def b8l (_:Nat):Hints I:=mkH [] [] [] [] [(58,⟨16776204,[],[],[(3,.k (.d (.int .i64)))],[((.exit 0),[]),(.ret,[(2,.k (.d (.bool)))])],bnd tb (.len (.ld 28 (.fld 33 3 (.slot 1)))) 1⟩),
 (122,⟨576460752286646388,[],[],[(4,.k (.d (.int .i64)))],[((.exit 2),[]),(.ret,[(2,.k (.d (.bool)))])],bnd tb (.len (.ld 30 (.fld 33 5 (.slot 1)))) 1⟩),
 (31306,⟨1125831187365956,[],[],[(6,.k (.d (.int .i64)))],[((.exit 4),[]),(.ret,[(2,.k (.d (.bool)))])],bnd tb (.len (.ld 28 (.fld 97 0 (.slot 5)))) 1⟩)] [] []
def a6e (n:Nat):Row I:=⟨22,[.d (.dat 33)],[.k (.d (.bool))],a0e n⟩
theorem b6D (n:Nat)(h_semtyperef1_Valid:j5 Go.Proofs.Tryz.prog (a6e n)):RK (a6e (n+1)) :=
 okR [eR (b8g n),eR h_semtyperef1_Valid] 59 (b8l n) [.tmp 2] Go.Proofs.Tryz.func22 (by kernel_rfl)
theorem a6m:∀ n:Nat,j5 Go.Proofs.Tryz.prog (a6e n)
 | 0=>Q8 (by kernel_rfl)
 | n+1=>b6D n (a6m n)
def V7 (n:Nat):Row I:=⟨26,[.var 40 (.k (.d (.dat 40))) true,.d (.dat 27),.d (.int .i64),.d (.int .i64)],[.k (.d (.dat 33))],a3e n⟩
def b2h (_:Nat):Hints I:=mkH [(7,[[],[0],[],[2],[],[4],[],[6],[6,7],[],[9],[9,10],[6,7,8,9,10,11],[4,5,6,7,8,9,10,11,12],[0,1,2,3,4,5,6,7,8,9,10,11,12,13],[],[15],[0,1,2,3,4,5,6,7,8,9,10,11,12,13,14,15,16],[0,1,2,3,4,5,6,7,8,9,10,11,12,13,14,15,16,17],[0,1,2,3,4,5,6,7,8,9,10,11,12,13,14,15,16,17,18],[0,1,2,3,4,5,6,7,8,9,10,11,12,13,14,15,16,17,18,19]]),(25,[[],[0],[],[],[],[4],[],[4,5,6],[4,5,6,7],[],[9],[2,3,4,5,6,7,8,9,10],[2,3,4,5,6,7,8,9,10,11],[0,1,2,3,4,5,6,7,8,9,10,11,12],[0,1,2,3,4,5,6,7,8,9,10,11,12,13],[0,1,2,3,4,5,6,7,8,9,10,11,12,13,14]]),(30,[[],[0],[],[0,1,2],[0,1,2,3]]),(37,[[],[],[],[2],[],[],[5],[5,6],[4,5,6,7],[2,3,4,5,6,7,8],[2,3,4,5,6,7,8,9],[],[0,1,2,3,4,5,6,7,8,9,10,11],[0,1,2,3,4,5,6,7,8,9,10,11,12]]),(39,[[],[],[],[2],[],[],[5],[5,6],[4,5,6,7],[2,3,4,5,6,7,8],[2,3,4,5,6,7,8,9],[],[0,1,2,3,4,5,6,7,8,9,10,11],[0,1,2,3,4,5,6,7,8,9,10,11,12]]),(43,[[],[0],[],[2],[],[2,3,4],[2,3,4,5],[0,1,2,3,4,5,6],[0,1,2,3,4,5,6,7],[0,1,2,3,4,5,6,7,8],[0,1,2,3,4,5,6,7,8,9]]),(44,[[],[0],[0,1],[],[3],[],[5],[],[5,6,7],[5,6,7,8],[3,4,5,6,7,8,9],[3,4,5,6,7,8,9,10],[3,4,5,6,7,8,9,10,11],[3,4,5,6,7,8,9,10,11,12],[0,1,2,3,4,5,6,7,8,9,10,11,12,13],[0,1,2,3,4,5,6,7,8,9,10,11,12,13,14],[0,1,2,3,4,5,6,7,8,9,10,11,12,13,14,15],[0,1,2,3,4,5,6,7,8,9,10,11,12,13,14,15,16]]),(47,[[],[0],[],[2],[2,3],[0,1,2,3,4],[0,1,2,3,4,5]])] [] [] [(16449533,⟨386856262276681335905976320,[],[],[(.normal,[(86,.k (.d (.bool)))])]⟩),
 (263192557,⟨85029053355366337244815407887308292096,[],[(10,.lvs [.d (.int .i64),.d (.int .i64),.d (.str),.row 33 false,.row 130 false,.row 97 false,.row 9 false])],[(.normal,[])]⟩),
 (539018395474,⟨102844034449451492418213359320247649773843695697413960913387520,[],[(10,.k (.d (.dat 33)))],[(.normal,[])]⟩)] [(131596274,⟨2596147810297394171575110715049984,[],[(0,.k (.d (.dat 40))),(10,.lvs [.d (.int .i64),.d (.int .i64),.d (.str),.row 33 false,.row 130 false,.row 97 false,.row 9 false])],[(11,.k (.d (.int .i64)))],[((.exit 1),[])],bnd tb (.len (.ld 22 (.fld 65 4 (.slot 9)))) 1⟩),
 (67377299434,⟨102844034829582222281431884733353260024018043977843391611277312,[],[(10,.k (.d (.dat 33)))],[(12,.k (.d (.int .i64)))],[((.exit 3),[])],bnd tb (.len (.ld 22 (.fld 65 4 (.slot 9)))) 1⟩)] [] []
def a0d (n:Nat):Row I:=⟨56,[.var 40 (.k (.d (.dat 40))) true,.d (.dat 27),.d (.int .i64),.d (.int .i64)],[.k (.d (.dat 33))],b4i n⟩
def a8v (_:Nat):Hints I:=mkH [(10,[[],[0],[],[],[],[4],[],[4,5,6],[4,5,6,7],[],[9],[2,3,4,5,6,7,8,9,10],[2,3,4,5,6,7,8,9,10,11],[0,1,2,3,4,5,6,7,8,9,10,11,12],[0,1,2,3,4,5,6,7,8,9,10,11,12,13],[0,1,2,3,4,5,6,7,8,9,10,11,12,13,14]]),(13,[[],[],[],[2],[],[2,3,4],[2,3,4,5],[],[7],[0,1,2,3,4,5,6,7,8],[0,1,2,3,4,5,6,7,8,9],[0,1,2,3,4,5,6,7,8,9,10]])] [] [] [(31309,⟨2305280059260272640,[],[(0,.k (.d (.dat 40))),(12,.lvs [.row 33 false,.d (.bool),.d (.int .i64),.d (.int .i64),.d (.str),.d (.sl 33),.d (.sl 130),.d (.sl 97),.d (.sl 9)])],[(.normal,[])]⟩)] [(122,⟨36893488147414923776,[],[(0,.k (.d (.dat 40)))],[(9,.k (.row 97 false)),(11,.k (.d (.int .i64)))],[((.exit 0),[(9,.k (.row 97 false))])],bnd tb (.slot 11) 2⟩),
 (31306,⟨70368677076992,[],[(0,.k (.d (.dat 40))),(12,.lvs [.row 33 false,.d (.bool),.d (.int .i64),.d (.int .i64),.d (.str),.row 33 false,.row 130 false,.row 97 false,.row 9 false])],[(13,.k (.d (.int .i64)))],[((.exit 2),[])],bnd tb (.slot 10) 1⟩)] [] []
def K3 (n:Nat):Row I:=⟨108,[.var 40 (.k (.d (.dat 40))) true,.d (.dat 27),.d (.dat 65),.d (.int .i64)],[.k (.d (.dat 33))],a83 n⟩
def a92 (_:Nat):Hints I:=mkH [(8,[[],[],[],[],[3],[],[3,4,5],[3,4,5,6],[3,4,5,6,7],[],[9],[1,2,3,4,5,6,7,8,9,10],[1,2,3,4,5,6,7,8,9,10,11],[0,1,2,3,4,5,6,7,8,9,10,11,12],[0,1,2,3,4,5,6,7,8,9,10,11,12,13]]),(12,[[],[],[],[],[3],[],[3,4,5],[3,4,5,6],[],[8],[1,2,3,4,5,6,7,8,9],[1,2,3,4,5,6,7,8,9,10],[0,1,2,3,4,5,6,7,8,9,10,11],[0,1,2,3,4,5,6,7,8,9,10,11,12]])] [(6,[28])] [] [(125,⟨604462333346562283935232,[],[(0,.k (.d (.dat 40)))],[(.normal,[(9,.k (.row 130 false)),(10,.k (.row 33 false))])]⟩),
 (978,⟨72057594033735168,[],[(0,.k (.d (.dat 40)))],[(.normal,[(9,.k (.row 130 false)),(10,.k (.row 33 false))])]⟩),
 (7824,⟨8585740288,[],[(0,.k (.d (.dat 40)))],[(.normal,[(32,.k (.d (.bool)))])]⟩)] [(122,⟨72057594037898752,[],[(0,.k (.d (.dat 40)))],[(9,.k (.row 130 false)),(10,.k (.row 33 false)),(11,.k (.d (.int .i64)))],[((.exit 0),[(9,.k (.row 130 false)),(10,.k (.row 33 false))])],bnd tb (.len (.ld 62 (.fld 65 5 (.slot 6)))) 1⟩)] [] []
def W0 (n:Nat):Row I:=⟨107,[.var 40 (.k (.d (.dat 40))) true,.d (.dat 27),.d (.dat 65),.d (.int .i64)],[.k (.d (.dat 33))],b1x n⟩
theorem b0J (n:Nat)(_:j5 Go.Proofs.Tryz.prog (V7 n))(h_semtypebase_Source_near:j5 Go.Proofs.Tryz.prog (a0d n))(_:j5 Go.Proofs.Tryz.prog (K3 n))(_:j5 Go.Proofs.Tryz.prog (W0 n)):RK (V7 (n+1)) :=
 okR [eR h_semtypebase_Source_near,eR (a6m n),eR a33] 21 Y3 [.cell 8 33] Go.Proofs.Tryz.func26 (by kernel_rfl)
theorem b0K (n:Nat)(h_semtypebase_Source_Near:j5 Go.Proofs.Tryz.prog (V7 n))(h_semtypebase_Source_near:j5 Go.Proofs.Tryz.prog (a0d n))(h_semtypebase_Source_nearFunction:j5 Go.Proofs.Tryz.prog (K3 n))(h_semtypebase_Source_nearMap:j5 Go.Proofs.Tryz.prog (W0 n)):RK (a0d (n+1)) :=
 okR [eR a33,eR w9,eR a7E,eR a8Q,eR a2j,eR a9W,eR a1p,eR b0S,eR a3K,eR h_semtypebase_Source_Near,eR h_semtypebase_Source_nearMap,eR h_semtypebase_Source_nearFunction,eR h_semtypebase_Source_near,eR a52,eR b1X,eR (b0T n)] 217 (b2h n) [.cell 8 33] Go.Proofs.Tryz.func56 (by kernel_rfl)
theorem a7K (n:Nat)(h_semtypebase_Source_Near:j5 Go.Proofs.Tryz.prog (V7 n))(_:j5 Go.Proofs.Tryz.prog (a0d n))(_:j5 Go.Proofs.Tryz.prog (K3 n))(_:j5 Go.Proofs.Tryz.prog (W0 n)):RK (K3 (n+1)) :=
 okR [eR w9,eR h_semtypebase_Source_Near,eR (a74 n),eR a3K] 75 (a8v n) [.cell 8 33] Go.Proofs.Tryz.func108 (by kernel_rfl)
theorem a9i (n:Nat)(h_semtypebase_Source_Near:j5 Go.Proofs.Tryz.prog (V7 n))(_:j5 Go.Proofs.Tryz.prog (a0d n))(_:j5 Go.Proofs.Tryz.prog (K3 n))(_:j5 Go.Proofs.Tryz.prog (W0 n)):RK (W0 (n+1)) :=
 okR [eR w9,eR h_semtypebase_Source_Near,eR b0L,eR a3K] 89 (a92 n) [.cell 8 33] Go.Proofs.Tryz.func107 (by kernel_rfl)
theorem a5t:∀ n:Nat,j5 Go.Proofs.Tryz.prog (V7 n)/\j5 Go.Proofs.Tryz.prog (a0d n)/\j5 Go.Proofs.Tryz.prog (K3 n)/\j5 Go.Proofs.Tryz.prog (W0 n)
 | 0=>⟨Q8 (by kernel_rfl),Q8 (by kernel_rfl),Q8 (by kernel_rfl),Q8 (by kernel_rfl)⟩
 | n+1=>by
   obtain ⟨h0,h1,h2,h3⟩:=a5t n
   exact ⟨b0J n h0 h1 h2 h3,b0K n h0 h1 h2 h3,a7K n h0 h1 h2 h3,a9i n h0 h1 h2 h3⟩
theorem b1g (n:Nat):j5 Go.Proofs.Tryz.prog (V7 n):=(a5t n).1
def b8v (_:Nat):Hints I:=mkH [(5,[[],[],[],[],[1,2,3],[0,1,2,3,4],[0,1,2,3,4,5]])] [] [] [] [] [] []
def b6d (n:Nat):Row I:=⟨9,[.d (.sl 3),.d (.sl 3)],[.k (.d (.dat 27)),.k (.d (.dat 33))],a5K n⟩
theorem b6V (n:Nat):RK (b6d n) :=
 okR [eR w9,eR b1I,eR (b1g n)] 31 (b8v n) [.cell 4 27,.cell 5 33] Go.Proofs.Tryz.func9 (by kernel_rfl)
def b9D:Hints I:=mkH [(7,[[],[],[1],[0,1,2],[],[],[4,5],[0,1,2,3,4,5,6],[0,1,2,3,4,5,6,7]])] [] [] [] [(28,⟨2097056,[],[],[(5,.k (.d (.int .i64)))],[((.exit 0),[(5,.k (.d (.int .i64)))])],bnd tb (.len (.slot 0)) 1⟩)] [] []
def b7p:Row I:=⟨72,[.d (.sl 3),.d (.int .i64)],[.k (.d (.sl 3))],a6C⟩
theorem b8w:RK (b7p) :=
 okR [] 46 b9D [.tmp 4] Go.Proofs.Tryz.func72 (by kernel_rfl)
def b9w:Hints I:=mkH [] [] [] [] [(58,⟨131064,[],[],[(3,.k (.d (.sl 3))),(4,.k (.d (.int .i64)))],[((.exit 0),[(3,.k (.d (.sl 3)))])],bnd tb (.len (.slot 0)) 1⟩)] [] []
def b64:Row I:=⟨35,[.d (.sl 3)],[.k (.d (.sl 3))],a4E⟩
theorem b8b:RK (b64) :=
 okR [eR b8w] 18 b9w [.tmp 2] Go.Proofs.Tryz.func35 (by kernel_rfl)
def b7v:Hints I:=mkH [(1,[[],[0],[0,1],[],[3],[0,1,2,3,4],[],[6],[0,1,2,3,4,5,6,7],[0,1,2,3,4,5,6,7,8]])] [] [] [] [] [] []
def b4Q:Row I:=⟨15,[.d (.dat 37)],[.k (.d (.dat 37))],a3J⟩
theorem a8S:RK (b4Q) :=
 okR [eR b8b] 12 b7v [.cell 2 37] Go.Proofs.Tryz.func15 (by kernel_rfl)
def b2l:Hints I:=mkH [(5,[[],[0],[],[],[3],[3,4],[2,3,4,5],[2,3,4,5,6],[0,1,2,3,4,5,6,7],[0,1,2,3,4,5,6,7,8],[0,1,2,3,4,5,6,7,8,9]]),(9,[[],[0],[],[],[3],[3,4],[2,3,4,5],[2,3,4,5,6],[0,1,2,3,4,5,6,7],[0,1,2,3,4,5,6,7,8],[0,1,2,3,4,5,6,7,8,9]])] [] [] [] [(58,⟨67104832,[],[(0,.k (.d (.dat 40))),(5,.lvs [.row 3 false,.row 3 false,.d (.bool)])],[(6,.k (.d (.int .i64)))],[((.exit 0),[])],bnd tb (.slot 6) 2⟩),
 (122,⟨4397778075776,[],[(0,.k (.d (.dat 40))),(5,.lvs [.row 3 false,.row 3 false,.d (.bool)])],[(7,.k (.d (.int .i64)))],[((.exit 2),[])],bnd tb (.slot 7) 2⟩)] [] []
def b06:Row I:=⟨10,[.var 40 (.k (.d (.dat 40))) true,.d (.dat 27)],[.k (.d (.dat 37))],a3j⟩
theorem b1k:RK (b06) :=
 okR [eR w9,eR a8S] 48 b2l [.cell 4 37] Go.Proofs.Tryz.func10 (by kernel_rfl)
def b5U:Row I:=⟨53,[.d (.dat 27),.d (.int .i64)],[.k (.d (.bool))],a0A⟩
theorem a6G:RK (b5U) :=
 okR [] 14 Y3 [.tmp 4] Go.Proofs.Tryz.func53 (by kernel_rfl)
def b9h:Hints I:=mkH [(4,[[],[],[1],[],[1,2,3],[1,2,3,4],[0,1,2,3,4,5],[0,1,2,3,4,5,6]]),(47,[[],[],[1],[0,1,2],[0,1,2,3],[0,1,2,3,4],[0,1,2,3,4,5],[0,1,2,3,4,5,6],[0,1,2,3,4,5,6,7],[0,1,2,3,4,5,6,7,8],[0,1,2,3,4,5,6,7,8,9],[0,1,2,3,4,5,6,7,8,9,10],[0,1,2,3,4,5,6,7,8,9,10,11],[0,1,2,3,4,5,6,7,8,9,10,11,12],[0,1,2,3,4,5,6,7,8,9,10,11,12,13],[0,1,2,3,4,5,6,7,8,9,10,11,12,13,14],[0,1,2,3,4,5,6,7,8,9,10,11,12,13,14,15],[0,1,2,3,4,5,6,7,8,9,10,11,12,13,14],[0,1,2,3,4,5,6,7,8,9,10,11,12,13,14,17],[0,1,2,3,4,5,6,7,8,9,10,11,12,13,14,15,16,17,18],[0,1,2,3,4,5,6,7,8,9,10,11,12,13,14,15,16,17,18,19],[0,1,2,3,4,5,6,7,8,9,10,11,12,13,14,15,16,17,18,19,20],[0,1,2,3,4,5,6,7,8,9,10,11,12,13,14],[0,1,2,3,4,5,6,7,8,9,10,11,12,13,14,22],[0,1,2,3,4,5,6,7,8,9,10,11,12,13,14,15,16,17,18,19,20,21,22,23],[0,1,2,3,4,5,6,7,8,9,10,11,12,13,14,15,16,17,18,19,20,21,22,23,24],[0,1,2,3,4,5,6,7,8,9,10,11,12,13,14,15,16,17,18,19,20,21,22,23,24,25],[0,1,2,3,4,5,6,7,8,9,10,11,12,13,14,15,16,17,18,19,20,21,22,23,24,25,26]])] [] [] [(2092029,⟨2706308199418088717232151174730781556736,[],[],[(.normal,[(122,.k (.d (.bool)))])]⟩),
 (535560189,⟨3568119231764899702645714923623737840956866560,[],[],[(.normal,[(149,.k (.d (.bool)))])]⟩)] [(26,⟨67106864,[],[],[(5,.k (.d (.int .i64)))],[((.exit 0),[]),(.ret,[(4,.k (.d (.bool)))])],bnd tb (.len (.ld 22 (.fld 65 4 (.slot 3)))) 1⟩),
 (68551704562,⟨1606938044257528773904631189422958917689486710763136902759952,[],[],[(9,.k (.d (.int .i64)))],[((.exit 3),[]),(.ret,[(4,.k (.d (.bool)))])],bnd tb (.len (.ld 62 (.fld 65 5 (.slot 3)))) 1⟩)] [] []
def b63:Row I:=⟨69,[.d (.dat 27),.d (.dat 65)],[.k (.d (.bool))],a6z⟩
theorem b8k:RK (b63) :=
 okR [eR a6G,eR a6h,eR a7b,eR a5i,eR a2l] 216 b9h [.tmp 4] Go.Proofs.Tryz.func69 (by kernel_rfl)
def b4a:Row I:=⟨70,[.d (.dat 65)],[.k (.d (.bool))],a4U⟩
theorem b4P:RK (b4a) :=
 okR [] 16 Y3 [.tmp 2] Go.Proofs.Tryz.func70 (by kernel_rfl)
def b3b (n:Nat):Hints I:=mkH [(6,[[],[],[1],[],[1,2,3],[1,2,3,4],[0,1,2,3,4,5],[0,1,2,3,4,5,6]])] [] [] [] [(58,⟨1073709068,[],[],[(3,.k (.d (.int .i64)))],[((.exit 0),[]),(.ret,[(2,.k (.d (.int .i64)))])],bnd tb (.len (.ld 25 (.fld 27 0 (.slot 1)))) 1⟩),
 (250,⟨4951760157141521082416628192,[],[],[(4,.k (.row 4 false)),(5,.k (.d (.int .i64)))],[((.exit 2),[(4,.k (.row 4 false))])],bnd tb (.len (.ld 25 (.fld 27 0 (.slot 1)))) 1⟩),
 (506,⟨10136253041668693690874029146628,[],[],[(4,.k (.row 4 false)),(9,.k (.d (.int .i64)))],[((.exit 8),[(4,.k (.row 4 false))]),(.ret,[(2,.k (.d (.int .i64))),(4,.k (.row 4 false))])],bnd tb (.len (.slot 4)) 1⟩),
 (16018,⟨4951760157141518900573241792,[],[],[(4,.k (.row 4 false)),(6,.k (.d (.int .i64)))],[((.exit 4),[(4,.k (.row 4 false))])],bnd tb (.len (.ld 25 (.fld 27 0 (.slot 1)))) 1⟩),
 (4100682,⟨4835703278177041722114432,[],[],[(4,.k (.row 4 false)),(7,.k (.d (.bool))),(8,.k (.d (.int .i64)))],[((.exit 6),[(4,.k (.row 4 false)),(7,.k (.d (.bool)))])],fun _=>some n⟩)] [] []
def b1C (n:Nat):Row I:=⟨32,[.d (.dat 27)],[.k (.d (.int .i64))],a1d n⟩
theorem b1V (n:Nat):RK (b1C n) :=
 okR [eR a6G,eR b8k,eR b4P] 103 (b3b n) [.tmp 2] Go.Proofs.Tryz.func32 (by kernel_rfl)
def b5J:Hints I:=mkH [(1,[[],[0],[0,1],[],[3],[0,1,2,3,4],[0,1,2,3,4,5]]),(5,[[],[],[],[1,2],[1,2,3],[0,1,2,3,4],[0,1,2,3,4,5]])] [] [] [] [(58,⟨67100752,[5],[],[(6,.k (.d (.int .i64)))],[((.exit 0),[]),(.ret,[(4,.k (.d (.bool)))])],bnd tb (.len (.slot 5)) 1⟩)] [] []
def b35:Row I:=⟨21,[.d (.dat 27),.d (.dat 37)],[.k (.d (.bool))],a4X⟩
theorem b5w:RK (b35) :=
 okR [eR a6G] 26 b5J [.tmp 4] Go.Proofs.Tryz.func21 (by kernel_rfl)
def c0x:Hints I:=mkH [(4,[[],[0],[],[0,1,2],[0,1,2,3],[],[0,1,2,3,4,5]])] [] [] [] [(26,⟨2097136,[],[],[(5,.k (.d (.int .i64)))],[((.exit 0),[]),(.ret,[(4,.k (.d (.int .i64)))])],bnd tb (.len (.ld 29 (.fld 33 4 (.slot 2)))) 1⟩)] [] []
def b8a:Row I:=⟨181,[.d (.dat 33),.d (.dat 130)],[.k (.d (.int .i64))],a7a⟩
theorem b9d:RK (b8a) :=
 okR [] 21 c0x [.tmp 4] Go.Proofs.Tryz.func181 (by kernel_rfl)
def b8c:Hints I:=mkH [(4,[[],[0],[],[0,1,2],[0,1,2,3],[0,1,2,3,4],[],[0,1,2,3,4,5,6]])] [] [] [] [(26,⟨4194288,[],[],[(5,.k (.d (.int .i64)))],[((.exit 0),[]),(.ret,[(4,.k (.d (.int .i64)))])],bnd tb (.len (.ld 62 (.fld 65 5 (.slot 2)))) 1⟩)] [] []
def b53:Row I:=⟨182,[.d (.dat 65),.d (.dat 130)],[.k (.d (.int .i64))],a26⟩
theorem b7R:RK (b53) :=
 okR [] 22 b8c [.tmp 4] Go.Proofs.Tryz.func182 (by kernel_rfl)
def b4N (_:Nat):Hints I:=mkH [(8,[[],[0],[],[],[3],[],[3,4,5],[0,1,2,3,4,5,6],[0,1,2,3,4,5,6,7],[0,1,2,3,4,5,6,7,8],[0,1,2,3,4,5,6,7,8,9],[0,1,2,3,4,5,6,7,8,9,10],[0,1,2,3,4,5,6,7,8,9,10,11],[0,1,2,3,4,5,6,7,8,9,10,11,12],[0,1,2,3,4,5,6,7,8,9,10,11],[0,1,2,3,4,5,6,7,8,9,10,11],[0,1,2,3,4,5,6,7,8,9,10,11,15],[0,1,2,3,4,5,6,7,8,9,10,11],[0,1,2,3,4,5,6,7,8,9,10,11,15,16,17],[0,1,2,3,4,5,6,7,8,9,10,11,15,16,17,18],[0,1,2,3,4,5,6,7,8,9,10,11,12,13,14,15,16,17,18,19],[0,1,2,3,4,5,6,7,8,9,10,11,12,13,14,15,16,17,18,19,20],[0,1,2,3,4,5,6,7,8,9,10,11,12,13,14,15,16,17,18,19,20,21],[0,1,2,3,4,5,6,7,8,9,10,11,12,13,14,15,16,17,18,19,20,21,22]])] [] [] [] [(122,⟨18014398509220672,[],[],[(8,.k (.d (.int .i64)))],[((.exit 0),[]),(.ret,[(6,.k (.d (.bool)))])],bnd tb (.len (.ld 30 (.fld 33 5 (.slot 3)))) 1⟩)] [] []
def a0K (n:Nat):Row I:=⟨133,[.d (.dat 33),.d (.dat 27),.d (.dat 65)],[.k (.d (.bool))],a0Y n⟩
def b6E (_:Nat):Hints I:=mkH [(4,[[],[0],[],[0,1,2],[0,1,2,3],[0,1,2,3,4],[0,1,2,3,4,5],[0,1,2,3,4,5,6],[0,1,2,3,4,5,6,7],[0,1,2,3,4,5,6,7],[0,1,2,3,4,5,6,7,9],[0,1,2,3,4,5,6,7],[0,1,2,3,4,5,6,7,9,10,11],[0,1,2,3,4,5,6,7,9,10,11,12],[0,1,2,3,4,5,6,7,9,10,11,12,13],[0,1,2,3,4,5,6,7,8,9,10,11,12,13,14],[0,1,2,3,4,5,6,7,8,9,10,11,12,13,14,15],[0,1,2,3,4,5,6,7,8,9,10,11,12,13,14,15,16]]),(9,[[],[],[1],[],[1,2,3],[1,2,3,4],[0,1,2,3,4,5],[0,1,2,3,4,5,6]]),(13,[[],[0],[],[0,1,2],[0,1,2,3],[],[],[0,1,2,3,4,5,6],[0,1,2,3,4,5,6,7]])] [] [] [(3730,⟨575334852396581888,[],[],[(.normal,[(10,.k (.d (.int .i64)))])]⟩),
 (14925,⟨145268109580462720000,[],[],[(.normal,[(10,.k (.d (.int .i64)))])]⟩)] [(26,⟨68719474880,[],[],[(7,.k (.d (.int .i64)))],[((.exit 0),[]),(.ret,[(6,.k (.d (.bool)))])],bnd tb (.len (.ld 62 (.fld 65 5 (.slot 5)))) 1⟩),
 (58,⟨75557863725845603944256,[],[],[(8,.k (.d (.int .i64)))],[((.exit 2),[]),(.ret,[(6,.k (.d (.bool)))])],bnd tb (.len (.ld 29 (.fld 33 4 (.slot 3)))) 1⟩)] [] []
def a0U (n:Nat):Row I:=⟨132,[.d (.dat 33),.d (.dat 27),.d (.dat 65)],[.k (.d (.bool))],a1f n⟩
def b7M (_:Nat):Hints I:=mkH [(35,[[],[],[],[2],[],[2,3,4],[2,3,4,5],[0,1,2,3,4,5,6]]),(42,[[],[],[],[2],[],[2,3,4],[2,3,4,5],[0,1,2,3,4,5,6],[0,1,2,3,4,5,6,7]]),(46,[[],[],[],[2],[2,3],[2,3,4],[0,1,2,3,4,5],[0,1,2,3,4,5,6],[0,1,2,3,4,5,6,7]]),(51,[[],[0],[],[0,1,2],[0,1,2,3],[],[5],[0,1,2,3,4,5,6]])] [] [] [] [(506806140914,⟨365364258960126464239350440319934430733230145856,[],[],[(8,.k (.d (.int .i64)))],[((.exit 1),[]),(.ret,[(6,.k (.d (.bool)))])],bnd tb (.len (.ld 22 (.fld 65 4 (.slot 7)))) 1⟩),
 (2027224563698,⟨95779509802480722744478485512061607693151539203932736,[],[],[(9,.k (.d (.int .i64)))],[((.exit 3),[]),(.ret,[(6,.k (.d (.bool)))])],bnd tb (.len (.ld 22 (.fld 65 4 (.slot 7)))) 1⟩),
 (16217796509690,⟨12855112035213460536787957001890350341026617553047063680255040,[],[],[(10,.k (.d (.int .i64)))],[((.exit 5),[]),(.ret,[(6,.k (.d (.bool)))])],bnd tb (.len (.ld 31 (.fld 33 6 (.slot 3)))) 1⟩)] [] []
end Go.Qx
end
section
namespace Go.Qx
open Go Go.RowKit Go.Sx
set_option maxHeartbeats 1600000
set_option maxRecDepth 100000
def a0p (n:Nat):Row I:=⟨71,[.d (.dat 33),.d (.dat 27),.d (.int .i64)],[.k (.d (.bool))],v8 n⟩
def b58 (_:Nat):Hints I:=mkH [(6,[[],[],[0,1],[0,1,2],[],[],[],[5,6],[5,6,7],[0,1,2,3,4,5,6,7,8],[0,1,2,3,4,5,6,7,8,9]])] [] [] [] [(58,⟨1073733824,[],[],[(7,.k (.d (.int .i64)))],[((.exit 0),[]),(.ret,[(6,.k (.d (.bool)))])],bnd tb (.len (.slot 0)) 1⟩)] [] []
def a0V (n:Nat):Row I:=⟨131,[.d (.sl 33),.d (.dat 27),.d (.sl 3)],[.k (.d (.bool))],a0w n⟩
theorem b3A (n:Nat)(_:j5 Go.Proofs.Tryz.prog (a0K n))(_:j5 Go.Proofs.Tryz.prog (a0U n))(h_semtyperef7_member:j5 Go.Proofs.Tryz.prog (a0p n))(h_semtyperef7_members:j5 Go.Proofs.Tryz.prog (a0V n)):RK (a0K (n+1)) :=
 okR [eR h_semtyperef7_members,eR h_semtyperef7_member] 54 (b4N n) [.tmp 6] Go.Proofs.Tryz.func133 (by kernel_rfl)
theorem b4b (n:Nat)(_:j5 Go.Proofs.Tryz.prog (a0K n))(_:j5 Go.Proofs.Tryz.prog (a0U n))(h_semtyperef7_member:j5 Go.Proofs.Tryz.prog (a0p n))(_:j5 Go.Proofs.Tryz.prog (a0V n)):RK (a0U (n+1)) :=
 okR [eR b9d,eR b7R,eR h_semtyperef7_member] 76 (b6E n) [.tmp 6] Go.Proofs.Tryz.func132 (by kernel_rfl)
theorem b5D (n:Nat)(h_semtyperef7_function:j5 Go.Proofs.Tryz.prog (a0K n))(h_semtyperef7_mapping:j5 Go.Proofs.Tryz.prog (a0U n))(h_semtyperef7_member:j5 Go.Proofs.Tryz.prog (a0p n))(h_semtyperef7_members:j5 Go.Proofs.Tryz.prog (a0V n)):RK (a0p (n+1)) :=
 okR [eR h_semtyperef7_members,eR h_semtyperef7_mapping,eR h_semtyperef7_function,eR h_semtyperef7_member] 203 (b7M n) [.tmp 6] Go.Proofs.Tryz.func71 (by kernel_rfl)
theorem b3Z (n:Nat)(_:j5 Go.Proofs.Tryz.prog (a0K n))(_:j5 Go.Proofs.Tryz.prog (a0U n))(h_semtyperef7_member:j5 Go.Proofs.Tryz.prog (a0p n))(_:j5 Go.Proofs.Tryz.prog (a0V n)):RK (a0V (n+1)) :=
 okR [eR h_semtyperef7_member] 30 (b58 n) [.tmp 6] Go.Proofs.Tryz.func131 (by kernel_rfl)
theorem a6k:∀ n:Nat,j5 Go.Proofs.Tryz.prog (a0K n)/\j5 Go.Proofs.Tryz.prog (a0U n)/\j5 Go.Proofs.Tryz.prog (a0p n)/\j5 Go.Proofs.Tryz.prog (a0V n)
 | 0=>⟨Q8 (by kernel_rfl),Q8 (by kernel_rfl),Q8 (by kernel_rfl),Q8 (by kernel_rfl)⟩
 | n+1=>by
   obtain ⟨h0,h1,h2,h3⟩:=a6k n
   exact ⟨b3A n h0 h1 h2 h3,b4b n h0 h1 h2 h3,b5D n h0 h1 h2 h3,b3Z n h0 h1 h2 h3⟩
theorem b5N (n:Nat):j5 Go.Proofs.Tryz.prog (a0p n):=(a6k n).2.2.1
def b62 (_:Nat):Hints I:=mkH [(4,[[],[],[],[2],[],[2,3,4],[2,3,4,5],[0,1,2,3,4,5,6],[0,1,2,3,4,5,6,7]]),(9,[[],[],[],[2],[],[2,3,4],[2,3,4,5],[0,1,2,3,4,5,6]])] [] [] [] [(26,⟨33554112,[],[],[(7,.k (.d (.int .i64)))],[((.exit 0),[]),(.ret,[(6,.k (.d (.bool)))])],bnd tb (.len (.ld 22 (.fld 37 0 (.slot 5)))) 1⟩),
 (58,⟨1099478073664,[],[],[(8,.k (.d (.int .i64)))],[((.exit 2),[]),(.ret,[(6,.k (.d (.bool)))])],bnd tb (.len (.ld 22 (.fld 37 1 (.slot 5)))) 1⟩)] [] []
def b4I (n:Nat):Row I:=⟨33,[.d (.dat 33),.d (.dat 27),.d (.dat 37)],[.k (.d (.bool))],a7v n⟩
theorem b50 (n:Nat):RK (b4I n) :=
 okR [eR (b5N n)] 53 (b62 n) [.tmp 6] Go.Proofs.Tryz.func33 (by kernel_rfl)
def b4G (n:Nat):Row I:=⟨13,[.d (.dat 33),.d (.dat 27),.d (.dat 37)],[.k (.d (.bool))],a3N n⟩
theorem b6g (n:Nat):RK (b4G n) :=
 okR [eR (a6m n),eR (b1V n),eR b5w,eR (b50 n)] 25 Y3 [.tmp 6] Go.Proofs.Tryz.func13 (by kernel_rfl)
def b36:Hints I:=mkH [(6,[[],[],[0,1],[0,1,2],[],[],[4,5],[4,5,6],[0,1,2,3,4,5,6,7]])] [] [] [] [(58,⟨67106864,[],[],[(5,.k (.d (.int .i64)))],[((.exit 0),[]),(.ret,[(4,.k (.d (.bool)))])],bnd tb (.len (.slot 0)) 1⟩)] [] []
def b2e:Row I:=⟨34,[.d (.sl 3),.d (.sl 3)],[.k (.d (.bool))],a2r⟩
theorem b3E:RK (b2e) :=
 okR [] 26 b36 [.tmp 4] Go.Proofs.Tryz.func34 (by kernel_rfl)
def b1u:Row I:=⟨14,[.d (.dat 37),.d (.dat 37)],[.k (.d (.bool))],a3I⟩
theorem b2i:RK (b1u) :=
 okR [eR b3E] 24 Y3 [.tmp 4] Go.Proofs.Tryz.func14 (by kernel_rfl)
def b3h (_:Nat):Hints I:=mkH [(8,[[],[],[],[0,1,2],[],[],[],[0,1,2,3,4,5,6],[0,1,2,3,4,5,6,7],[0,1,2,3,4,5,6,7,8],[0,1,2,3,4,5,6,7,8,9],[0,1,2,3,4,5,6,7,8,9],[0,1,2,3,4,5,6,7,8,9],[0,1,2,3,4,5,6,7,8,9,10,11,12],[0,1,2,3,4,5,6,7,8,9],[0,1,2,3,4,5,6,7,8,9],[0,1,2,3,4,5,6,7,8,9],[0,1,2,3,4,5,6,7,8,9,10,11,12,13,14,15,16],[0,1,2,3,4,5,6,7,8,9,10,11,12,13,14,15,16,17],[0,1,2,3,4,5,6,7,8,9,10,11,12,13,14,15,16,17,18],[0,1,2,3,4,5,6,7,8,9,10,11,12,13,14,15,16,17,18,19],[0,1,2,3,4,5,6,7,8,9,10,11,12,13,14,15,16,17,18,19,20],[0,1,2,3,4,5,6,7,8,9,10,11,12,13,14,15,16,17,18,19,20],[0,1,2,3,4,5,6,7,8,9,10,11,12,13,14,15,16,17,18,19,20,22],[0,1,2,3,4,5,6,7,8,9,10,11,12,13,14,15,16,17,18,19,20,21,22,23],[0,1,2,3,4,5,6,7,8,9,10,11,12,13,14,15,16,17,18,19,20,21,22,23,24],[0,1,2,3,4,5,6,7,8,9,10,11,12,13,14,15,16,17,18,19,20,21,22,23,24,25],[0,1,2,3,4,5,6,7,8,9,10,11,12,13,14,15,16,17,18,19,20,21,22,23,24,25,26],[0,1,2,3,4,5,6,7,8,9,10,11,12,13,14,15,16,17,18,19,20,21,22,23,24,25,26,27],[0,1,2,3,4,5,6,7,8,9,10,11,12,13,14,15,16,17,18,19,20,21,22,23,24,25,26,27,28]])] [] [] [] [] [] []
noncomputable def b1j (n:Nat):Row I:=⟨3,[.d (.sl 3),.d (.sl 3),.d (.sl 3),.d (.sl 3),.d (.bool)],[.k (.d (.bool))],a1b n⟩
theorem b2g (n:Nat):RK (b1j n) :=
 okR [eR b7N,eR (b7c n),eR (b6V n),eR b1k,eR b4B,eR (b4z n),eR (b6g n),eR a8S,eR b2i] 83 (b3h n) [.tmp 10] Go.Proofs.Tryz.func3 (by kernel_rfl)
end Go.Qx
end
section
namespace Go.Pl
open Go Go.RowKit Go.Sx Go.Qx Go.Proofs.YtldcbllenafgjaaGreatDoor
def b0c (w:World):S:=⟨w,fun b=>match w.heap[b]? with | some (.cells c _ _)=>(c.size,0) | _=>(0,0)⟩
theorem c7T {w:World}{b o:Nat}{cs:List Value}(hn:cs≠[])(h:w.rangeAt b o cs):a4h (b0c w) b o cs:=by
 refine ⟨?_,h⟩
 have hl:0<cs.length:=List.length_pos_iff.2 hn
 have hj:=h (cs.length-1) _ (List.getElem?_eq_getElem (by omega))
 unfold World.cell? at hj
 simp only at hj
 split at hj
 ·rename_i c e f hb
  have h2:o+(cs.length-1)<c.size:=by
   simp only [Option.isSome_none,Bool.false_eq_true,if_false] at hj
   exact (Array.getElem?_eq_some_iff.1 hj).1
  show o+cs.length<=(match w.heap[b]? with | some (.cells c _ _)=>(c.size,0) | _=>(0,0)).1
  rw [hb]
  show o+cs.length<=c.size
  omega
 ·cases hj
theorem c8a {w:World}{base:Nat}{a:Addr}{n:Nat}{cs:List Value}(h:w.cells? base a n=some cs) :
 cs.length=n/\∀ (i:Nat) (v:Value),cs[i]?=some v->w.cell? (a.add i)=some v:=by
 unfold World.cells? at h
 split at h
 ·have hl:cs.length=n:=by simpa using mapM_some_length h
  refine ⟨hl,fun i v hv=>?_⟩
  have hi:i<n:=by have:=(List.getElem?_eq_some_iff.1 hv).1; omega
  have:=mapM_some_get h i i (by simp [hi])
  rw [this,hv]
 ·cases h
theorem d2O (a:Addr)(x j:Nat):(a.add x).add j=a.add (x+j):=by
 unfold Addr.add
 by_cases hx:x=0
 ·subst hx; simp
 ·by_cases hj:j=0
  ·subst hj; simp [hx]
  ·rw [if_neg hj,if_neg hx,if_neg (by omega),Nat.add_assoc]
theorem c9z {w:World}{a:Addr}{v:Value}(h:w.cell? a=some v):a.spot=none:=by
 unfold World.cell? at h
 split at h
 ·split at h
  ·cases h
  ·rename_i hs; simpa using hs
 ·cases h
section
variable {H:Type}{enc:TypeId×Value->H}{P:Program}{w:World}{base:Nat}{spare:Nat->Bool}{held:Bool}
theorem b1N {α:Type} [Rp α] {fuel:Nat}{t e:TypeId}{cs:List Value}{x:DataW H×List MemPlace}(ht:P.underlying t=some (.slice e))(hc:P.cellsOf e=Rp.sz α)(bk:α->Nat)
 (hrd:∀ (n:Nat) (cs:List Value) (x:DataW H×List MemPlace),n<fuel->DataW.trod enc P w base spare held n e cs=some x->∃ d:α,Rp.cells (b0c w) d cs/\bk d<=Rows.uptoBulk x.1)
 (h:DataW.trod enc P w base spare held fuel t cs=some x) :
 ∃ (ds:List α) (A:Option Addr) (c:Nat),cs=[.slice A ds.length c]/\Sl (b0c w) ds A c/\(ds.map bk).sum+1<=Rows.uptoBulk x.1:=by
 rcases DataW.trod_slice ht h with ⟨rfl,rfl⟩ | ⟨a,len,cap,elems,rest,n,rfl,rfl,rfl,hb,hl,hm,hle,hget,-,-⟩
 ·exact ⟨[],none,0,rfl,Sl.nil_ _ _ _ (Nat.zero_le _),by simp [Rows.uptoBulk]⟩
 have key:∀ (m i:Nat),i+m=len->∃ (ds:List α) (cs:List Value),ds.length=m/\V5 (b0c w) ds cs /\
  (∀ (j:Nat) (v:Value),cs[j]?=some v->w.cell? (a.add (i*Rp.sz α+j))=some v)/\(ds.map bk).sum<=Rows.uptoBulkAll ((elems.drop i).map (·.1)):=by
  intro m
  induction m with
  | zero=>intro i _; exact ⟨[],[],rfl,rfl,fun j v hv=>by simp at hv,by simp⟩
  | succ m ih =>
    intro i hi
    obtain ⟨ds,cs,h1,h2,h3,h4⟩:=ih (i+1) (by omega)
    have hlt:i<elems.length:=by omega
    have hg:=hget i (by omega)
    rw [List.getElem?_eq_getElem hlt,Option.bind_eq_some_iff] at hg
    obtain ⟨cs0,hcs,htr⟩:=hg
    obtain ⟨d,hd,hbk⟩:=hrd n cs0 _ (by omega) htr
    obtain ⟨hcl,hci⟩:=c8a hcs
    rw [hc] at hcl hci
    refine ⟨d::ds,cs0++cs,by simp [h1],⟨cs0,cs,rfl,hd,h2⟩,?_,?_⟩
    ·intro j v hv
     by_cases hj:j<Rp.sz α
     ·rw [List.getElem?_append_left (by omega)] at hv
      rw [<- d2O]
      exact hci j v hv
     ·rw [List.getElem?_append_right (by omega)] at hv
      have:=h3 _ v hv
      rw [hcl,Nat.add_mul,Nat.one_mul] at this
      have e:i*Rp.sz α+Rp.sz α+(j-Rp.sz α)=i*Rp.sz α+j:=by omega
      rw [e] at this
      exact this
    ·rw [List.drop_eq_getElem_cons hlt]
     simp only [List.map_cons,List.sum_cons,Rows.uptoBulkAll]
     omega
 obtain ⟨ds,cs,h1,h2,h3,h4⟩:=key len 0 (by omega)
 simp only [Nat.zero_mul,Nat.zero_add,List.drop_zero] at h3 h4
 refine ⟨ds,some a,cap,by rw [h1],⟨by omega,hm,cs,h2,fun hn=>?_⟩,by simp only [Rows.uptoBulk]; omega⟩
 have hne:=h2.ne_nil hn
 cases cs with
 | nil=>exact absurd rfl hne
 | cons v0 r =>
   have h0:=h3 0 v0 rfl
   have hs:a.spot=none:=c9z (by simpa [Addr.add] using h0)
   obtain ⟨b,o,sp⟩:=a
   simp only at hs
   subst hs
   refine ⟨b,o,rfl,c7T (by simp) ?_⟩
   intro j v hv
   have:=h3 j v hv
   unfold Addr.add at this
   by_cases hj:j=0
   ·subst hj; simpa using this
   ·rw [if_neg hj] at this
    exact this
end
theorem d1D {α:Type}{l:List α}(h:l.length=2):∃ a b,l=[a,b]:=by
 match l,h with
 | [a,b],_=>exact ⟨a,b,rfl⟩
end Go.Pl
end
section
namespace Go.Pl
open Go Go.RowKit Go.Sx Go.Qx
def b3x (_:Int):Nat:=1
def b7d (l:List Int):Nat:=(l.map b3x).sum+1
end Go.Pl
end
section
namespace Go.Pl
open Go Go.RowKit Go.Sx Go.Qx Go.Proofs.YtldcbllenafgjaaGreatDoor
theorem c3:Go.Proofs.Tryz.prog.cellsOf 3=1:=by kernel_rfl
theorem c4:Go.Proofs.Tryz.prog.cellsOf 4=1:=by kernel_rfl
section
variable {H:Type}{enc:TypeId×Value->H}{w:World}{base:Nat}{spare:Nat->Bool}{held:Bool}
theorem c8U {n:Nat}{cs:List Value}{x:DataW H×List MemPlace}(h:DataW.trod enc Go.Proofs.Tryz.prog w base spare held n 3 cs=some x):∃ d:Int,(rpK .i64).cells (b0c w) d cs/\b3x d<=Rows.uptoBulk x.1:=by
 obtain ⟨k,e0,rfl,_⟩:=DataW.trod_int Go.Proofs.Tryz.underlying3 h
 exact ⟨k,e0,by simp [b3x,Rows.uptoBulk]⟩
end
end Go.Pl
end

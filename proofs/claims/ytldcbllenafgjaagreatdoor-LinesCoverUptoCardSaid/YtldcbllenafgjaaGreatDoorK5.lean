/- Part 5. -/
import Derived.Test.YtldcbllenafgjaaGreatDoorK2
import Derived.Test.YtldcbllenafgjaaGreatDoorK3
import Derived.Test.YtldcbllenafgjaaGreatDoorK4
import Derived.BigCall
import Derived.ChangeArms
import Derived.KernelRfl
import Derived.OpenShut
import Derived.Shelf.Lays
import Derived.Shelf.SlLaysF0
import Derived.Shelf.Strings.Builder1
import Derived.Test.YtldcbllenafgjaaGreatDoorProg
import Derived.Test.YtldcbllenafgjaaGreatDoorRows
import Derived.WalkKit
section
namespace Go.Pl
open Go Go.RowKit Go.Sx Go.Qx
section
variable {T:Api_Type}
def spI (T:Api_Type)(e:Api_Goal)(n:Int):Bool:=(e.Pos.all fun i=>!isK T 3 i||inI T i n)&&e.Neg.all fun i=>!isK T 3 i||!inI T i n
def spN (T:Api_Type)(e:Api_Goal)(k:Int)(s:ByteArray):Bool:=(e.Pos.all fun i=>!isK T k i||isT T i s)&&e.Neg.all fun i=>!isK T k i||!isT T i s
def i64 (n:Int):Prop := -9223372036854775808<=n/\n<=9223372036854775807
structure LineZ (T:Api_Type)(e:Api_Goal)(K A:Int)(l:Api_Line):Prop where
 kind:l.Kind=K
 ar:l.Arity=A
 op:b2z T e K A=true
 ints1:K=1->VR l.Ints/\l.Ints≠[]/\(∀ n,i64 n->a0o l.Ints n=spI T e n)/\l.Ints.length<=1024
 ints0:K≠1->l.Ints=[]
 nam1:K=2\/K=3->asc cS l.Names.List_=true/\(l.Names.Cofinite=true\/l.Names.List_≠[])/\(∀ s,a3O l.Names s=spN T e (lkK K) s)/\l.Names.List_.length<=100
 nam0:K≠2->K≠3->l.Names=Api_Names.mk false []
 pos:l.Pos=ofZ T K A (skK K) e.Pos
 neg:l.Neg=ofZ T K A (skK K) e.Neg
 ev:e.Neg.any (isK T (ekK K))=false
def c1z (T:Api_Type)(e:Api_Goal)(K A:Int):Prop :=
 b2z T e K A=false\/e.Neg.any (isK T (ekK K))=true\/(K=1/\∀ n,i64 n->spI T e n=false)\/((K=2\/K=3)/\∀ s,spN T e (lkK K) s=false)
theorem d2K (hT:GT T){i:Int}(h:a0w T i=true):isK T 0 i=false:=by
 obtain ⟨j,_,_,_,_,hk⟩:=a9r hT h
 unfold isK
 rw [beq_eq_false_iff_ne]
 omega
theorem of0 (hT:GT T){l:List Int}(h:l.all (a0w T)=true)(K A:Int):ofZ T K A 0 l=[]:=by
 unfold ofZ
 rw [List.filter_eq_nil_iff]
 intro i hi
 rw [d2K hT (List.all_eq_true.1 h i hi)]
 simp
theorem ev0 (hT:GT T){l:List Int}(h:l.all (a0w T)=true):l.any (isK T 0)=false:=by
 rw [List.any_eq_false]
 intro i hi
 rw [d2K hT (List.all_eq_true.1 h i hi)]
 simp
theorem d3J (hT:GT T){L:Bool}{e:Api_Goal}(he:NG T L e)(K A:Int)(hK:K=1\/K=2\/K=3\/K=4\/K=5\/K=6\/K=7\/K=8\/K=9)(n:Nat)(hn:5000000<=n) :
 ∃ l ok,a9F n T e (Core_Sort.mk K A)=some (l,ok)/\(ok=true->LineZ T e K A l)/\(ok=false->c1z T e K A):=by
 obtain ⟨l1,l2⟩:=he.lens hT
 have hp:=he.pos
 have hq:=he.neg
 unfold a9F
 rw [d3L hT hp (by omega) K A]
 simp only [Option.bind_some]
 cases ho:b2z T e K A with
 | false =>
   exact ⟨_,false,rfl,(fun h=>by cases h),fun _=>.inl ho⟩
 | true =>
   simp only [Bool.not_true,cond_false]
   have hN:=fun k=>d0M hT hp hq l1 l2 k n hn
   have hI:=d3m hT hp hq l1 l2
   have hH:=fun k=>d1V hT hq (by omega:e.Neg.length<=1000) k
   have hP:=fun k=>d26 hT hp (by omega:e.Pos.length<=1000) K A k
   have hQ:=fun k=>d26 hT hq (by omega:e.Neg.length<=1000) K A k
   have p0:=fun K A=>of0 hT hp K A
   have q0:=fun K A=>of0 hT hq K A
   have v0:=ev0 hT hq
   have nam:∀ (K':Int) (m:Api_Names),(∀ s,a3O m s=spN T e (lkK K') s)->(K'=2\/K'=3)->m.Cofinite=false->m.List_.length=0->c1z T e K' A:=fun K' m hm hK' hc hl=>by
    refine .inr (.inr (.inr ⟨hK',fun s=>?_⟩))
    rw [<- hm s]
    unfold a3O inL
    rw [hc,List.eq_nil_of_length_eq_zero hl]
    rfl
   rcases hK with rfl | rfl | rfl | rfl | rfl | rfl | rfl | rfl | rfl<;>simp only [Int.reduceBEq,cond_true,cond_false,Option.bind_some]
   ·obtain ⟨m,m1,m2,m3⟩:=hI
    rw [m1]
    refine ⟨_,_,rfl,fun h=>⟨rfl,rfl,ho,fun _=>⟨m2,?_,fun n hn=>(m3 n hn.1 hn.2).1,(m3 0 (by omega) (by omega)).2⟩,fun h=>absurd rfl h,(fun h=>by omega),fun _ _=>rfl,(p0 1 A).symm,(q0 1 A).symm,v0⟩,fun h=>?_⟩
    ·intro e0
     have h0:decide (0<(m.length:Int))=true:=h
     have e0':m=[]:=e0
     rw [e0'] at h0
     simp at h0
    ·have h0:decide (0<(m.length:Int))=false:=h
     have:m=[]:=List.eq_nil_of_length_eq_zero (by simpa using h0)
     refine .inr (.inr (.inl ⟨rfl,fun n hn=>?_⟩))
     have:=(m3 n hn.1 hn.2).1
     rw [‹m=[]›] at this
     exact this.symm
   ·obtain ⟨m,m1,m2,m3,m4⟩:=hN 4
    rw [m1,hH 5]
    simp only [Option.bind_some]
    cases hv:e.Neg.any (isK T 5) with
    | true=>exact ⟨_,false,rfl,(fun h=>by cases h),fun _=>.inr (.inl hv)⟩
    | false =>
      have fin:∀ l:Api_Line,l=Api_Line.mk 2 A [] (Api_Names.mk m.Cofinite m.List_) [] [] [] []->(m.Cofinite=true\/m.List_≠[])->LineZ T e 2 A l:=fun l hl hne=>by
       subst hl
       exact ⟨rfl,rfl,ho,(fun h=>by omega),fun _=>rfl,fun _=>⟨m2,hne,m3,m4⟩,fun h=>absurd rfl h,(p0 2 A).symm,(q0 2 A).symm,hv⟩
      simp only [Bool.not_false,cond_true]
      cases hc:m.Cofinite with
      | true=>exact ⟨_,true,rfl,fun _=>fin _ (by rw [hc]) (.inl hc),fun h=>by cases h⟩
      | false =>
        refine ⟨_,_,rfl,fun h=>fin _ (by rw [hc]) (.inr fun e0=>?_),fun h=>nam 2 m m3 (.inl rfl) hc ?_⟩
        ·have h0:decide (0<(m.List_.length:Int))=true:=h
         rw [e0] at h0
         simp at h0
        ·have h0:decide (0<(m.List_.length:Int))=false:=h
         rw [decide_eq_false_iff_not] at h0
         omega
   ·obtain ⟨m,m1,m2,m3,m4⟩:=hN 6
    rw [m1,hH 7]
    simp only [Option.bind_some]
    cases hv:e.Neg.any (isK T 7) with
    | true=>exact ⟨_,false,rfl,(fun h=>by cases h),fun _=>.inr (.inl hv)⟩
    | false =>
      have fin:∀ l:Api_Line,l=Api_Line.mk 3 A [] (Api_Names.mk m.Cofinite m.List_) [] [] [] []->(m.Cofinite=true\/m.List_≠[])->LineZ T e 3 A l:=fun l hl hne=>by
       subst hl
       exact ⟨rfl,rfl,ho,(fun h=>by omega),fun _=>rfl,fun _=>⟨m2,hne,m3,m4⟩,fun _ h=>absurd rfl h,(p0 3 A).symm,(q0 3 A).symm,hv⟩
      simp only [Bool.not_false,cond_true]
      cases hc:m.Cofinite with
      | true=>exact ⟨_,true,rfl,fun _=>fin _ (by rw [hc]) (.inl hc),fun h=>by cases h⟩
      | false =>
        refine ⟨_,_,rfl,fun h=>fin _ (by rw [hc]) (.inr fun e0=>?_),fun h=>nam 3 m m3 (.inr rfl) hc ?_⟩
        ·have h0:decide (0<(m.List_.length:Int))=true:=h
         rw [e0] at h0
         simp at h0
        ·have h0:decide (0<(m.List_.length:Int))=false:=h
         rw [decide_eq_false_iff_not] at h0
         omega
   ·rw [hH 8]
    simp only [Option.bind_some,onEnd]
    cases hv:e.Neg.any (isK T 8) with
    | true=>exact ⟨_,false,rfl,(fun h=>by cases h),fun _=>.inr (.inl hv)⟩
    | false=>exact ⟨_,true,rfl,fun _=>⟨rfl,rfl,ho,(fun h=>by omega),fun _=>rfl,(fun h=>by omega),fun _ _=>rfl,(p0 4 A).symm,(q0 4 A).symm,hv⟩,fun h=>by cases h⟩
   ·rw [hH 9]
    simp only [Option.bind_some,onEnd]
    cases hv:e.Neg.any (isK T 9) with
    | true=>exact ⟨_,false,rfl,(fun h=>by cases h),fun _=>.inr (.inl hv)⟩
    | false=>exact ⟨_,true,rfl,fun _=>⟨rfl,rfl,ho,(fun h=>by omega),fun _=>rfl,(fun h=>by omega),fun _ _=>rfl,(p0 5 A).symm,(q0 5 A).symm,hv⟩,fun h=>by cases h⟩
   ·simp only [onEnd]
    rw [hP 10,hQ 10,hH 11]
    simp only [Option.bind_some,Int.reduceBEq,cond_false]
    cases hv:e.Neg.any (isK T 11) with
    | true=>exact ⟨_,false,rfl,(fun h=>by cases h),fun _=>.inr (.inl hv)⟩
    | false=>exact ⟨_,true,rfl,fun _=>⟨rfl,rfl,ho,(fun h=>by omega),fun _=>rfl,(fun h=>by omega),fun _ _=>rfl,rfl,rfl,hv⟩,fun h=>by cases h⟩
   ·simp only [onEnd]
    rw [hP 12,hQ 12]
    simp only [Option.bind_some,Int.reduceBEq,cond_true]
    exact ⟨_,true,rfl,fun _=>⟨rfl,rfl,ho,(fun h=>by omega),fun _=>rfl,(fun h=>by omega),fun _ _=>rfl,rfl,rfl,v0⟩,fun h=>by cases h⟩
   ·simp only [onEnd]
    rw [hP 13,hQ 13]
    simp only [Option.bind_some,Int.reduceBEq,cond_true]
    exact ⟨_,true,rfl,fun _=>⟨rfl,rfl,ho,(fun h=>by omega),fun _=>rfl,(fun h=>by omega),fun _ _=>rfl,rfl,rfl,v0⟩,fun h=>by cases h⟩
   ·simp only [onEnd]
    rw [hP 14,hQ 14,hH 15]
    simp only [Option.bind_some,Int.reduceBEq,cond_false]
    cases hv:e.Neg.any (isK T 15) with
    | true=>exact ⟨_,false,rfl,(fun h=>by cases h),fun _=>.inr (.inl hv)⟩
    | false=>exact ⟨_,true,rfl,fun _=>⟨rfl,rfl,ho,(fun h=>by omega),fun _=>rfl,(fun h=>by omega),fun _ _=>rfl,rfl,rfl,hv⟩,fun h=>by cases h⟩
def a2r:List Core_Sort:=[Core_Sort.mk 1 0,Core_Sort.mk 2 0,Core_Sort.mk 3 0,Core_Sort.mk 4 0,Core_Sort.mk 5 0,Core_Sort.mk 7 0,Core_Sort.mk 8 0,Core_Sort.mk 6 0,Core_Sort.mk 9 0,Core_Sort.mk 6 1,Core_Sort.mk 9 1,Core_Sort.mk 6 2,Core_Sort.mk 9 2,Core_Sort.mk 6 3,Core_Sort.mk 9 3,Core_Sort.mk 6 4,Core_Sort.mk 9 4]
theorem d2h:b7o=some a2r:=by kernel_rfl
theorem c3h {s:Core_Sort}(h:s∈a2r):(s.Kind=1\/s.Kind=2\/s.Kind=3\/s.Kind=4\/s.Kind=5\/s.Kind=6\/s.Kind=7\/s.Kind=8\/s.Kind=9)/\(s.Kind=6\/s.Kind=9\/s.Arity=0):=by
 unfold a2r at h
 simp only [List.mem_cons,List.not_mem_nil,or_false] at h
 rcases h with rfl | rfl | rfl | rfl | rfl | rfl | rfl | rfl | rfl | rfl | rfl | rfl | rfl | rfl | rfl | rfl | rfl<;>simp
theorem d0R {K A:Int}(h:((K=1\/K=2\/K=3\/K=4\/K=5\/K=7\/K=8)/\A=0)\/((K=6\/K=9)/\0<=A/\A<=4)):Core_Sort.mk K A∈a2r:=by
 rcases h with ⟨h,rfl⟩ | ⟨h,h0,h4⟩
 ·rcases h with rfl | rfl | rfl | rfl | rfl | rfl | rfl<;>simp [a2r]
 ·have hA:A=0\/A=1\/A=2\/A=3\/A=4:=by omega
  rcases h with rfl | rfl<;>rcases hA with rfl | rfl | rfl | rfl | rfl<;>simp [a2r]
def c1L (l:Api_Line)(a b:List ByteArray):Api_Line:=Api_Line.mk l.Kind l.Arity l.Ints l.Names l.Pos l.Neg a b
def a9P (T:Api_Type)(e:Api_Goal):Bool:=!b78 e.Pos e.Neg&&!b00 (srS (W8 T e.Pos)) (srS (W8 T e.Neg))
def Mk (T:Api_Type)(e:Api_Goal)(l:Api_Line):Prop:=a9P T e=true/\∃ (s:Core_Sort) (l0:Api_Line),s∈a2r/\LineZ T e s.Kind s.Arity l0/\l=c1L l0 (srS (W8 T e.Pos)) (srS (W8 T e.Neg))
structure LinesZ (T:Api_Type)(out:List Api_Goal)(ls:List Api_Line):Prop where
 len:ls.length<=17*out.length
 src:∀ l∈ls,∃ e∈out,Mk T e l
 all:∀ e∈out,a9P T e=true->∀ s∈a2r,(∃ l∈ls,∃ l0,LineZ T e s.Kind s.Arity l0/\l=c1L l0 (srS (W8 T e.Pos)) (srS (W8 T e.Neg)))\/c1z T e s.Kind s.Arity
theorem b0A (l:List Int):(srS (W8 T l)).length<=l.length:=by
 refine Nat.le_trans (a78 _) ?_
 unfold W8
 rw [List.length_map]
 exact List.length_filter_le _ _
theorem c9J (hT:GT T){L:Bool}{e:Api_Goal}(he:NG T L e)(ha:a9P T e=true)(n:Nat)(hn:5000000<=n)(s0:List Api_Line)(h0:s0.length<=20000000) :
 ∃ ls,iter (a4M T n e (srS (W8 T e.Pos)) (srS (W8 T e.Neg)) a2r) ((a2r.length:Int).toNat+1) (s0,0)=some (s0++ls)/\ls.length<=17/\(∀ l∈ls,Mk T e l) /\
  ∀ s∈a2r,(∃ l∈ls,∃ l0,LineZ T e s.Kind s.Arity l0/\l=c1L l0 (srS (W8 T e.Pos)) (srS (W8 T e.Neg)))\/c1z T e s.Kind s.Arity:=by
 obtain ⟨l1,l2⟩:=he.lens hT
 have v1:=b0A (T:=T) e.Pos
 have v2:=b0A (T:=T) e.Neg
 have hlen:a2r.length=17:=rfl
 obtain ⟨s,e1,k1,k2,k3⟩:=b0E (σ:=List Api_Line) (step:=a4M T n e (srS (W8 T e.Pos)) (srS (W8 T e.Neg)) a2r) a2r (fun s i=>(s0++s,(i:Int))) (fun i s=>s.length<=i/\(∀ l∈s,Mk T e l) /\
  ∀ q∈a2r.take i,(∃ l∈s,∃ l0,LineZ T e q.Kind q.Arity l0/\l=c1L l0 (srS (W8 T e.Pos)) (srS (W8 T e.Neg)))\/c1z T e q.Kind q.Arity) (fun s=>s0++s)
  (fun i s q hx ⟨i1,i2,i3⟩=>by
    have hlt:i<a2r.length:=(List.getElem?_eq_some_iff.1 hx).1
    have hq:=List.mem_of_getElem? hx
    obtain ⟨l,ok,o1,o2,o3⟩:=d3J hT he q.Kind q.Arity (c3h hq).1 n hn
    unfold a4M
    simp only
    rw [w9 hlt,j6 hx]
    simp only [cond_true,Option.bind_some]
    have o1':a9F n T e q=some (l,ok):=o1
    rw [o1',a4J i (by omega)]
    simp only [Option.bind_some]
    cases ok with
    | false =>
      refine ⟨s,rfl,by omega,i2,fun q' hq'=>?_⟩
      rw [a1i hx] at hq'
      rcases List.mem_append.1 hq' with hq' | hq'
      ·exact i3 q' hq'
      ·rw [List.mem_singleton] at hq'; subst hq'
       exact .inr (o3 rfl)
    | true =>
      have hl:=o2 rfl
      simp only [cond_true]
      unfold a0y
      rw [Y0 (by omega),Y0 (by omega)]
      simp only [Option.bind_some]
      rw [Y0 (by simp only [List.length_append,List.length_cons,List.length_nil]; omega)]
      refine ⟨s++[c1L l (srS (W8 T e.Pos)) (srS (W8 T e.Neg))],by rw [<- List.append_assoc]; rfl,by simp only [List.length_append,List.length_cons,List.length_nil]; omega,fun l' hl'=>?_,fun q' hq'=>?_⟩
      ·rcases List.mem_append.1 hl' with hl' | hl'
       ·exact i2 l' hl'
       ·rw [List.mem_singleton] at hl'; subst hl'
        exact ⟨ha,q,l,hq,hl,rfl⟩
      ·rw [a1i hx] at hq'
       rcases List.mem_append.1 hq' with hq' | hq'
       ·rcases i3 q' hq' with ⟨l',a,b⟩ | h
        ·exact .inl ⟨l',by simp [a],b⟩
        ·exact .inr h
       ·rw [List.mem_singleton] at hq'; subst hq'
        exact .inl ⟨_,List.mem_append_right _ (List.mem_singleton.2 rfl),l,hl,rfl⟩) (fun s _=>by
    unfold a4M
    simp) [] ⟨by simp,by simp,by simp⟩ _ (Nat.le_refl _)
 refine ⟨s,?_,by omega,k2,fun q hq=>k3 q (by rw [List.take_length]; exact hq)⟩
 have e1':iter (a4M T n e (srS (W8 T e.Pos)) (srS (W8 T e.Neg)) a2r) (a2r.length+1) (s0++[],0)=_:=e1
 rw [List.append_nil] at e1'
 exact e1'
theorem c9B (hT:GT T){L:Bool}(out:List Api_Goal)(hg:∀ e∈out,NG T L e)(hl:out.length<=1048576)(n:Nat)(hn:5000000<=n) :
 ∃ ls,iter (a6i T n out) ((out.length:Int).toNat+1) ([],0)=some ls/\LinesZ T out ls:=by
 rw [Z5]
 obtain ⟨s,e1,k1,k2,k3⟩:=b0E (σ:=List Api_Line) (step:=a6i T n out) out (fun s i=>(s,(i:Int))) (fun i s=>s.length<=17*i/\(∀ l∈s,∃ e∈out,Mk T e l) /\
  ∀ e∈out.take i,a9P T e=true->∀ q∈a2r,(∃ l∈s,∃ l0,LineZ T e q.Kind q.Arity l0/\l=c1L l0 (srS (W8 T e.Pos)) (srS (W8 T e.Neg)))\/c1z T e q.Kind q.Arity) (fun s=>s)
  (fun i s e hx ⟨i1,i2,i3⟩=>by
    have hlt:i<out.length:=(List.getElem?_eq_some_iff.1 hx).1
    have hm:=List.mem_of_getElem? hx
    have he:=hg e hm
    obtain ⟨l1,l2⟩:=he.lens hT
    have v1:=b0A (T:=T) e.Pos
    have v2:=b0A (T:=T) e.Neg
    unfold a6i
    simp only
    rw [w9 hlt,j6 hx]
    simp only [cond_true,Option.bind_some]
    rw [c5w e.Pos (by omega) fun i hi=>a83 (List.all_eq_true.1 he.pos i hi),c5w e.Neg (by omega) fun i hi=>a83 (List.all_eq_true.1 he.neg i hi),a4J i (by omega)]
    simp only [Option.bind_some]
    rw [d3I e.Pos e.Neg (by omega) (by omega),c6B _ _ (by omega) (by omega)]
    simp only [Option.bind_some]
    have hb:(bif b78 e.Pos e.Neg then some true else some (b00 (srS (W8 T e.Pos)) (srS (W8 T e.Neg))))=some (!a9P T e):=by
     unfold a9P
     cases b78 e.Pos e.Neg<;>cases b00 (srS (W8 T e.Pos)) (srS (W8 T e.Neg))<;>rfl
    rw [hb]
    simp only [Option.bind_some]
    cases ha:a9P T e with
    | false =>
      refine ⟨s,rfl,by omega,i2,fun e' he' ha'=>?_⟩
      rw [a1i hx] at he'
      rcases List.mem_append.1 he' with he' | he'
      ·exact i3 e' he' ha'
      ·rw [List.mem_singleton] at he'; subst he'
       rw [ha] at ha'; cases ha'
    | true =>
      simp only [Bool.not_true,cond_false]
      rw [d2h]
      simp only [Option.bind_some]
      obtain ⟨ls,a1,a2,a3,a4⟩:=c9J hT he ha n hn s (by omega)
      rw [a1]
      refine ⟨s++ls,rfl,by rw [List.length_append]; omega,fun l hl=>?_,fun e' he' ha' q hq=>?_⟩
      ·rcases List.mem_append.1 hl with hl | hl
       ·exact i2 l hl
       ·exact ⟨e,hm,a3 l hl⟩
      ·rw [a1i hx] at he'
       rcases List.mem_append.1 he' with he' | he'
       ·rcases i3 e' he' ha' q hq with ⟨l',a,b⟩ | h
        ·exact .inl ⟨l',by simp [a],b⟩
        ·exact .inr h
       ·rw [List.mem_singleton] at he'; subst he'
        rcases a4 q hq with ⟨l',a,b⟩ | h
        ·exact .inl ⟨l',by simp [a],b⟩
        ·exact .inr h) (fun s _=>by
    unfold a6i
    simp) [] ⟨by simp,by simp,by simp⟩ _ (Nat.le_refl _)
 exact ⟨s,e1,k1,k2,fun e he=>k3 e (by rw [List.take_length]; exact he)⟩
theorem c6f (hT:GT T)(hN:T.Nodes.length<=8)(hr:inR T.Nodes.length T.Root=true)(g:Api_Goal)(hg:gIn T.Nodes.length g=true)(hl:g.Pos.length+g.Neg.length<=10) :
 ∃ c out,ExpZ T g out/\∀ n,c<=n->∃ ls,a7d n T g=some ls/\LinesZ T out ls:=by
 obtain ⟨c,out,h1,h2⟩:=c44 hT hN g hg hl
 refine ⟨max c 5000000,out,h2,fun n hn=>?_⟩
 obtain ⟨ls,h3,h4⟩:=c9B hT out h2.ng h2.len n (by omega)
 refine ⟨ls,?_,h4⟩
 unfold a7d
 rw [wf0 hT hr n (by omega),b9q g (by omega) (by omega),hg]
 simp only [Option.bind_some,bne_self_eq_false,cond_false,Bool.not_true]
 rw [h1 n (by omega)]
 simp only [Option.bind_some]
 rw [h3]
 rfl
end
end Go.Pl
end
section
namespace Go.Pl
open Go Go.RowKit Go.Sx Go.Qx
section
variable {T:Api_Type}{v:Val}
def c2j (v:Val)(L:Bool):Bool:=!L||(v.Kind==5||v.Kind==7)
def gA (T:Api_Type)(v:Val)(g:Api_Goal):Bool:=gIn T.Nodes.length g&&(c2j v g.Lists&&gM T v g)
theorem c54 (hT:GT T)(ho:vOK v=true)(hb:k7 v<=2097152)(p q:List Int)(hp:p.all (inR T.Nodes.length)=true)(hq:q.all (inR T.Nodes.length)=true)(h1:p.length<=1000000)(h2:q.length<=1000000)(f:Nat)(hf:200000000<=f) :
 a8D f v T p q=some (p.all (Z7 T v)&&q.all fun k=>!Z7 T v k):=by
 unfold a8D
 rw [a6I p _ (fun k=>!Z7 T v k) (by omega) fun k hk=>by
  unfold b1P
  simp only [K1]
  rw [(c9r hT ho hb f hf (List.all_eq_true.1 hp k hk)).1]
  rfl]
 simp only [Option.bind_some]
 rw [a72]
 cases hp:p.all (Z7 T v)
 ·rfl
 ·simp only [cond_true]
  rw [a6I q _ (fun k=>Z7 T v k) (by omega) fun k hk=>by
   unfold b1O
   simp only [K1]
   exact (c9r hT ho hb f hf (List.all_eq_true.1 hq k hk)).1]
  simp only [Option.bind_some,Bool.true_and]
  congr 1
  rw [<- a72]
  simp
theorem c21 (hT:GT T)(hr:inR T.Nodes.length T.Root=true)(ho:vOK v=true)(hb:k7 v<=2097152)(g:Api_Goal)(h1:g.Pos.length<=1000000)(h2:g.Neg.length<=1000000)(f:Nat)(hf:200000000<=f) :
 a4Z f v T g=some (gA T v g):=by
 unfold a4Z gA
 rw [c1h f v (by omega) (by omega),ho,wf0 hT hr f (by omega),b9q g h1 h2]
 simp only [if_true,Option.bind_some,bne_self_eq_false,cond_false]
 cases hg:gIn T.Nodes.length g with
 | false=>rfl
 | true =>
   have hg':=hg
   unfold gIn at hg'
   simp only [Bool.and_eq_true] at hg'
   simp only [Bool.not_true,cond_false]
   rw [c54 hT ho hb g.Pos g.Neg hg'.1 hg'.2 h1 h2 f hf]
   unfold c2j gM
   cases g.Lists with
   | false=>rfl
   | true =>
     simp only [cond_true,Option.bind_some,bne,Bool.not_true,Bool.false_or]
     cases v.Kind==5<;>cases v.Kind==7<;>rfl
theorem c1q (hT:GT T)(hr:inR T.Nodes.length T.Root=true)(ho:vOK v=true)(hb:k7 v<=2097152)(g:Api_Goal)(h1:g.Pos.length<=1000000)(h2:g.Neg.length<=1000000)(f:Nat)(hf:200000000<=f) :
 a0W f v T g=some (gA T v g):=by
 unfold a0W gA
 rw [b3g f v (by omega) (by omega),ho,d6h hT hr f (by omega),c9j g h1 h2]
 simp only [Option.bind_some,beq_self_eq_true,cond_true,K1]
 cases hg:gIn T.Nodes.length g with
 | false=>rfl
 | true =>
   have hg':=hg
   unfold gIn at hg'
   simp only [Bool.and_eq_true] at hg'
   simp only [cond_true,K1]
   unfold a7R
   have l1:=a5K (step:=a35 v T g f) g.Pos (Z7 T v) false (fun i k hk=>by
    have hi:i<g.Pos.length:=(List.getElem?_eq_some_iff.1 hk).1
    unfold a35
    simp only [Z2]
    rw [w9 hi,j6 hk]
    simp only [cond_true,Option.bind_some]
    rw [(c9r hT ho hb f hf (List.all_eq_true.1 hg'.1 k (List.mem_of_getElem? hk))).2,j8 i (by omega)]
    exact a4I _ _) (by
    unfold a35
    simp)
   have l2:=a5K (step:=a3Y v T g f) g.Neg (fun k=>!Z7 T v k) false (fun i k hk=>by
    have hi:i<g.Neg.length:=(List.getElem?_eq_some_iff.1 hk).1
    unfold a3Y
    simp only [Z2]
    rw [w9 hi,j6 hk]
    simp only [cond_true,Option.bind_some]
    rw [(c9r hT ho hb f hf (List.all_eq_true.1 hg'.2 k (List.mem_of_getElem? hk))).2,j8 i (by omega)]
    simp only [Option.bind_some]
    cases Z7 T v k<;>rfl) (by
    unfold a3Y
    simp)
   simp only [Z5]
   rw [l1]
   unfold gM c2j
   cases hp:g.Pos.all (Z7 T v)
   ·simp [onEnd]
   ·simp only [if_true,Option.bind_some,onEnd]
    rw [l2]
    cases hq:g.Neg.all fun k=>!Z7 T v k
    ·simp [onEnd]
    ·simp only [if_true,Option.bind_some,onEnd,K1]
     cases g.Lists<;>cases v.Kind==5<;>cases v.Kind==7<;>rfl
def b2p (T:Api_Type)(v:Val)(l:Api_Line):Bool :=
 if v.Kind=1 then a0o l.Ints v.Int_ else if v.Kind=2\/v.Kind=3 then a3O l.Names v.Text else if v.Kind=6 then ((v.Kids.length:Int)==l.Arity)&&gM T v (g0 l.Pos l.Neg) else
 if v.Kind=9 then (v.Int_==l.Arity)&&gM T v (g0 l.Pos l.Neg) else if v.Kind=7\/v.Kind=8 then gM T v (g0 l.Pos l.Neg) else true
def c5C (v:Val)(l:Api_Line):Bool:=(l.Vars.all fun s=>inL v.Labels s)&&l.NotVars.all fun s=>!inL v.Labels s
def a2E (T:Api_Type)(v:Val)(l:Api_Line):Bool:=v.Kind==l.Kind&&(c5C v l&&b2p T v l)
theorem c1l (v:Val)(s:ByteArray)(hl:v.Labels.length<=4194304):a2N v s=some (inL v.Labels s):=by
 unfold a2N
 have l1:=a5K (step:=a3k v s) v.Labels (fun y=>!Z6 y s) true (fun i k hk=>by
  have hi:i<v.Labels.length:=(List.getElem?_eq_some_iff.1 hk).1
  unfold a3k
  simp only [Z2]
  rw [w9 hi,j6 hk]
  simp only [cond_true,Option.bind_some]
  rw [j8 i (by omega)]
  cases Z6 k s<;>rfl) (by
  unfold a3k
  simp)
 rw [Z5,l1]
 unfold inL
 rw [<- a72]
 simp only [Bool.not_not]
 cases v.Labels.any fun y=>Z6 y s<;>rfl
theorem c4o (l:List Api_Range)(n:Int)(hl:l.length<=4194304):a5A l n=some (a0o l n)/\a5Z l n=some (a0o l n):=by
 have hx:∀ r:Api_Range,a5q r n=(decide (r.Lo<=n)&&decide (n<=r.Hi)):=fun r=>rfl
 constructor
 ·unfold a5A
  have l1:=a5K (step:=a30 l n) l (fun y=>!a5q y n) true (fun i k hk=>by
   have hi:i<l.length:=(List.getElem?_eq_some_iff.1 hk).1
   unfold a30
   simp only [Z2]
   rw [w9 hi,j6 hk]
   simp only [cond_true,Option.bind_some]
   rw [j8 i (by omega),hx]
   cases decide (k.Lo<=n)<;>cases decide (n<=k.Hi)<;>rfl) (by
   unfold a30
   simp)
  rw [Z5,l1]
  unfold a0o
  rw [<- a72]
  simp only [Bool.not_not]
  cases l.any fun r=>a5q r n<;>rfl
 ·unfold a5Z
  have l1:=a5K (step:=a4s l n) l (fun y=>!a5q y n) true (fun i k hk=>by
   have hi:i<l.length:=(List.getElem?_eq_some_iff.1 hk).1
   unfold a4s
   simp only [Z2]
   rw [w9 hi,j6 hk]
   simp only [cond_true,Option.bind_some]
   rw [j8 i (by omega),hx]
   cases decide (k.Lo<=n)<;>cases decide (n<=k.Hi)<;>rfl) (by
   unfold a4s
   simp)
  rw [Z5,l1]
  unfold a0o
  rw [<- a72]
  simp only [Bool.not_not]
  cases l.any fun r=>a5q r n<;>rfl
theorem c3q (a:Api_Names)(s:ByteArray)(hl:a.List_.length<=4194304):a5d a s=some (a3O a s)/\a5Y a s=some (a3O a s):=by
 constructor
 ·unfold a5d a8o
  have l1:=a5K (step:=a4o a.List_ s) a.List_ (fun y=>!Z6 y s) true (fun i k hk=>by
   have hi:i<a.List_.length:=(List.getElem?_eq_some_iff.1 hk).1
   unfold a4o
   simp only [Z2]
   rw [w9 hi,j6 hk]
   simp only [cond_true,Option.bind_some]
   rw [j8 i (by omega)]
   cases Z6 k s<;>rfl) (by
   unfold a4o
   simp)
  rw [Z5,l1]
  unfold a3O inL
  rw [<- a72]
  simp only [Bool.not_not]
  cases a.List_.any fun y=>Z6 y s<;>rfl
 ·unfold a5Y
  rw [b2F a.List_ s hl]
  rfl
theorem c1e (v:Val)(l:Api_Line)(hv:v.Labels.length<=4194304)(h1:l.Vars.length<=4194304)(h2:l.NotVars.length<=4194304) :
 iter (a2z v l) (l.Vars.length+1) 0=some (if (l.Vars.all fun s=>inL v.Labels s)=true then .inl () else .inr false) /\
 iter (a2D v l) (l.NotVars.length+1) 0=some (if (l.NotVars.all fun s=>!inL v.Labels s)=true then .inl () else .inr false) /\
 iter (a5x v l) (l.Vars.length+1) 0=some (if (l.Vars.all fun s=>inL v.Labels s)=true then .inl () else .inr false):=by
 refine ⟨a5K (step:=a2z v l) l.Vars (fun s=>inL v.Labels s) false (fun i k hk=>?_) ?_,a5K (step:=a2D v l) l.NotVars (fun s=>!inL v.Labels s) false (fun i k hk=>?_) ?_,a5K (step:=a5x v l) l.Vars (fun s=>inL v.Labels s) false (fun i k hk=>?_) ?_⟩
 ·have hi:i<l.Vars.length:=(List.getElem?_eq_some_iff.1 hk).1
  unfold a2z
  simp only [Z2]
  rw [w9 hi,j6 hk]
  simp only [cond_true,Option.bind_some]
  rw [c1l v k hv,j8 i (by omega)]
  simp only [Option.bind_some]
  cases inL v.Labels k<;>rfl
 ·unfold a2z
  simp
 ·have hi:i<l.NotVars.length:=(List.getElem?_eq_some_iff.1 hk).1
  unfold a2D
  simp only [Z2]
  rw [w9 hi,j6 hk]
  simp only [cond_true,Option.bind_some]
  rw [c1l v k hv,j8 i (by omega)]
  simp only [Option.bind_some]
  cases inL v.Labels k<;>rfl
 ·unfold a2D
  simp
 ·have hi:i<l.Vars.length:=(List.getElem?_eq_some_iff.1 hk).1
  unfold a5x
  simp only [Z2]
  rw [w9 hi,j6 hk]
  simp only [cond_true,Option.bind_some]
  rw [b2F v.Labels k hv,j8 i (by omega)]
  simp only [Option.bind_some]
  unfold inL
  cases v.Labels.any fun y=>Z6 y k<;>rfl
 ·unfold a5x
  simp
structure ShL (l:Api_Line):Prop where
 ints:l.Ints.length<=1000000
 names:l.Names.List_.length<=1000000
 pos:l.Pos.length<=1000000
 neg:l.Neg.length<=1000000
 vars:l.Vars.length<=1000000
 nots:l.NotVars.length<=1000000
theorem c3f (v:Val):v.Labels.length<=k7 v:=by
 have:=a1k v
 have:=a3Q v.Labels
 omega
theorem b54 (ho:vOK v=true):(v.Kind=1\/v.Kind=2\/v.Kind=3\/v.Kind=4\/v.Kind=5\/v.Kind=6\/v.Kind=7\/v.Kind=8\/v.Kind=9)/\(v.Kind=6->v.Kids.length<=4)/\(v.Kind=9->0<=v.Int_/\v.Int_<=4):=by
 rw [b9F] at ho
 simp only [Bool.and_eq_true] at ho
 have h:=ho.1
 unfold a2e at h
 simp only [Bool.and_eq_true] at h
 have hk:=h.2.2
 unfold a4j at hk
 by_cases h1:v.Kind=1
 ·exact ⟨by omega,by omega,by omega⟩
 rw [if_neg h1] at hk
 by_cases h2:v.Kind=2
 ·exact ⟨by omega,by omega,by omega⟩
 rw [if_neg h2] at hk
 by_cases h3:v.Kind=3
 ·exact ⟨by omega,by omega,by omega⟩
 rw [if_neg h3] at hk
 by_cases h4:v.Kind=4
 ·exact ⟨by omega,by omega,by omega⟩
 rw [if_neg h4] at hk
 by_cases h5:v.Kind=5
 ·exact ⟨by omega,by omega,by omega⟩
 rw [if_neg h5] at hk
 by_cases h6:v.Kind=6
 ·rw [if_pos h6] at hk
  exact ⟨by omega,fun _=>by simpa using hk,by omega⟩
 rw [if_neg h6] at hk
 by_cases h7:v.Kind=7
 ·exact ⟨by omega,by omega,by omega⟩
 rw [if_neg h7] at hk
 by_cases h8:v.Kind=8
 ·exact ⟨by omega,by omega,by omega⟩
 rw [if_neg h8] at hk
 by_cases h9:v.Kind=9
 ·rw [if_pos h9] at hk
  unfold b2y at hk
  simp only [Bool.and_eq_true,decide_eq_true_eq] at hk
  exact ⟨by omega,by omega,fun _=>⟨hk.1.1,hk.1.2⟩⟩
 rw [if_neg h9] at hk
 cases hk
theorem c8T (hT:GT T)(hr:inR T.Nodes.length T.Root=true)(ho:vOK v=true)(hb:k7 v<=2097152)(l:Api_Line)(hs:ShL l)(hg:gIn T.Nodes.length (g0 l.Pos l.Neg)=true)(f:Nat)(hf:200000000<=f) :
 a3T f v T l=some (a2E T v l):=by
 obtain ⟨s1,s2,s3,s4,s5,s6⟩:=hs
 have hlab:=c3f v
 obtain ⟨a1,a2,_⟩:=c1e v l (by omega) (by omega) (by omega)
 unfold a3T a2E c5C
 simp only [Z5]
 rw [a1,a2]
 cases hk:v.Kind==l.Kind with
 | false=>simp only [bne,hk,Bool.not_false,cond_true]; rfl
 | true =>
   simp only [bne,hk,Bool.not_true,cond_false,Option.bind_some,Bool.true_and]
   cases l.Vars.all fun s=>inL v.Labels s with
   | false=>simp [onEnd]
   | true =>
     simp only [if_true,onEnd,Option.bind_some,Bool.true_and]
     cases l.NotVars.all fun s=>!inL v.Labels s with
     | false=>simp [onEnd]
     | true =>
       simp only [if_true,onEnd,Bool.true_and,K1]
       have hG:=c1q hT hr ho hb (g0 l.Pos l.Neg) s3 s4 f hf
       unfold gA at hG
       rw [hg] at hG
       have hG':a0W f v T (Api_Goal.mk l.Pos l.Neg false)=some (gM T v (g0 l.Pos l.Neg)):=hG
       rw [hG',(c4o l.Ints v.Int_ (by omega)).1,(c3q l.Names v.Text (by omega)).1]
       unfold b2p
       obtain ⟨hK,_⟩:=b54 ho
       rcases hK with h | h | h | h | h | h | h | h | h<;>simp only [h]<;>simp
       ·cases (v.Kids.length:Int)==l.Arity<;>rfl
       ·cases v.Int_==l.Arity<;>rfl
theorem d0d (hT:GT T)(hr:inR T.Nodes.length T.Root=true)(ho:vOK v=true)(hb:k7 v<=2097152)(l:Api_Line)(hs:ShL l)(f:Nat)(hf:200000000<=f) :
 a7W f v T l=some (gIn T.Nodes.length (g0 l.Pos l.Neg)&&a2E T v l):=by
 obtain ⟨s1,s2,s3,s4,s5,s6⟩:=hs
 have hlab:=c3f v
 obtain ⟨_,_,a3⟩:=c1e v l (by omega) (by omega) (by omega)
 unfold a7W
 have hex:=b9q (T:=T) (g0 l.Pos l.Neg) s3 s4
 have hex':a5L T (Api_Goal.mk l.Pos l.Neg false)=_:=hex
 rw [c1h f v (by omega) (by omega),ho,wf0 hT hr f (by omega),hex']
 simp only [if_true,Option.bind_some,bne_self_eq_false,cond_false]
 cases hg:gIn T.Nodes.length (g0 l.Pos l.Neg) with
 | false=>rfl
 | true =>
   have hg':=hg
   unfold gIn at hg'
   simp only [Bool.and_eq_true] at hg'
   simp only [Bool.not_true,cond_false,Bool.true_and,Z5]
   have hbase:a93 v l=some (v.Kind==l.Kind&&(if v.Kind=1 then a0o l.Ints v.Int_ else if v.Kind=2\/v.Kind=3 then a3O l.Names v.Text else if v.Kind=6 then ((v.Kids.length:Int)==l.Arity) else if v.Kind=9 then (v.Int_==l.Arity) else true)):=by
    unfold a93
    cases hk:v.Kind==l.Kind with
    | false=>simp only [bne,hk,Bool.not_false,cond_true]; rfl
    | true =>
      have e:l.Kind=v.Kind:=by rw [beq_iff_eq] at hk; exact hk.symm
      simp only [bne,hk,Bool.not_true,cond_false,e,Bool.true_and]
      rw [(c4o l.Ints v.Int_ (by omega)).2,(c3q l.Names v.Text (by omega)).2]
      obtain ⟨hK,_⟩:=b54 ho
      rcases hK with h | h | h | h | h | h | h | h | h<;>simp only [h]<;>simp
   rw [hbase,a3]
   have hmeet:=c6B l.NotVars v.Labels (by omega) (by omega)
   have hms:(!b00 l.NotVars v.Labels)=l.NotVars.all fun s=>!inL v.Labels s:=by
    unfold b00
    have h:=a72 (fun s=>!inL v.Labels s) l.NotVars
    simp only [Bool.not_not] at h
    exact h
   rw [hmeet,c54 hT ho hb l.Pos l.Neg hg'.1 hg'.2 s3 s4 f hf]
   have hgM:(l.Pos.all (Z7 T v)&&l.Neg.all fun k=>!Z7 T v k)=gM T v (g0 l.Pos l.Neg):=rfl
   rw [hgM]
   unfold a2E c5C b2p
   rw [<- hms]
   cases hk:v.Kind==l.Kind with
   | false=>rfl
   | true =>
     have e:l.Kind=v.Kind:=by rw [beq_iff_eq] at hk; exact hk.symm
     simp only [e,Bool.true_and]
     generalize (l.Vars.all fun s=>inL v.Labels s)=A
     generalize b00 l.NotVars v.Labels=B
     generalize gM T v (g0 l.Pos l.Neg)=G
     obtain ⟨hK,_⟩:=b54 ho
     rcases hK with h | h | h | h | h | h | h | h | h<;>simp only [h]<;>simp
     ·cases a0o l.Ints v.Int_<;>cases A<;>cases B<;>rfl
     ·cases a3O l.Names v.Text<;>cases A<;>cases B<;>rfl
     ·cases a3O l.Names v.Text<;>cases A<;>cases B<;>rfl
     ·cases A<;>cases B<;>rfl
     ·cases A<;>cases B<;>rfl
     ·cases (v.Kids.length:Int)==l.Arity<;>cases A<;>cases B<;>cases G<;>rfl
     ·cases A<;>cases B<;>cases G<;>rfl
     ·cases A<;>cases B<;>cases G<;>rfl
     ·cases v.Int_==l.Arity<;>cases A<;>cases B<;>cases G<;>rfl
end
end Go.Pl
end
section
namespace Go.Pl
open Go Go.RowKit Go.Sx Go.Qx
section
variable {T:Api_Type}{v:Val}
theorem d1i (hT:GT T)(ho:vOK v=true)(hb:k7 v<=4194304):Boo T (Z7 T v):=by
 have key:∀ i,inR T.Nodes.length i=true->Z7 T v i=unM (Z7 T) v (ndT T i):=fun i hi=>by
  obtain ⟨j,rfl,_,e,_⟩:=a6s hi
  exact b0l hT e ho hb
 refine ⟨fun i hi hk=>?_,fun i hi hk=>?_,fun i hi hk=>?_,fun i hi hk=>?_,fun i hi hk=>?_⟩<;>rw [key i hi]<;>unfold unM<;>simp [hk]
theorem c4D (hT:GT T)(ho:vOK v=true)(hb:k7 v<=4194304){i:Int}(hi:a0w T i=true):Z7 T v i=unM (Z7 T) v (ndT T i):=by
 obtain ⟨j,rfl,_,e,_⟩:=a6s (a83 hi)
 exact b0l hT e ho hb
theorem b2S (hT:GT T)(ho:vOK v=true)(hb:k7 v<=4194304){i:Int}(hi:a0w T i=true)(hk:(ndT T i).Kind=19):Z7 T v i=inL v.Labels (ndT T i).Text:=by
 rw [c4D hT ho hb hi]
 unfold unM inL
 simp [hk]
theorem b0n {l:List Int}{s:ByteArray}:s∈srS (W8 T l)↔∃ i∈l,(ndT T i).Kind=19/\(ndT T i).Text=s:=by
 rw [c8y]
 unfold W8
 simp only [List.mem_map,List.mem_filter,beq_iff_eq]
 constructor
 ·rintro ⟨i,⟨a,b⟩,c⟩; exact ⟨i,a,b,c⟩
 ·rintro ⟨i,a,b,c⟩; exact ⟨i,⟨a,b⟩,c⟩
theorem d08 {p q:List Int}:b78 p q=true↔∃ i,i∈p/\i∈q:=by
 unfold b78
 simp only [List.any_eq_true,beq_iff_eq]
 constructor
 ·rintro ⟨x,hx,y,hy,rfl⟩; exact ⟨x,hx,hy⟩
 ·rintro ⟨x,hx,hy⟩; exact ⟨x,hx,x,hy,rfl⟩
theorem d0f {p q:List ByteArray}:b00 p q=true↔∃ i,i∈p/\i∈q:=by
 unfold b00
 simp only [List.any_eq_true,b4Q]
 constructor
 ·rintro ⟨x,hx,y,hy,rfl⟩; exact ⟨y,hx,hy⟩
 ·rintro ⟨x,hx,hy⟩; exact ⟨x,hx,x,hy,rfl⟩
def IOK (v:Val):Prop:=v.Kind=1->i64 v.Int_
def c1M (T:Api_Type)(v:Val)(e:Api_Goal):Bool:=c2j v e.Lists&&(e.Pos.all (Z7 T v)&&e.Neg.all fun k=>!Z7 T v k)
theorem b6G (hT:GT T)(ho:vOK v=true)(hb:k7 v<=4194304){i:Int}(hi:a0w T i=true)(hk:(ndT T i).Kind=lkK v.Kind):Z7 T v i=if v.Kind=1 then inI T i v.Int_ else isT T i v.Text:=by
 rw [c4D hT ho hb hi]
 have h0:(ndT T i).Kind≠0:=by
  obtain ⟨j,_,_,_,_,hK⟩:=a9r hT hi
  omega
 unfold lkK at hk
 unfold unM inI isT
 by_cases h1:v.Kind=1
 ·simp [h1] at hk
  simp [h1,hk]
 ·rw [if_neg h1] at hk
  by_cases h2:v.Kind=2
  ·simp [h2] at hk
   simp [h2,hk,b9v]
  ·rw [if_neg h2] at hk
   by_cases h3:v.Kind=3
   ·simp [h3] at hk
    simp [h3,hk,b9v]
   ·rw [if_neg h3] at hk
    exact absurd hk h0
theorem d2H (p q:List Int):gM T v (g0 p q)=true↔(∀ i∈p,Z7 T v i=true)/\∀ i∈q,Z7 T v i=false:=by
 unfold gM
 simp
theorem c9e (hT:GT T)(ho:vOK v=true)(hb:k7 v<=4194304)(hI:IOK v){L:Bool}{e:Api_Goal}(he:NG T L e){l:Api_Line}(hl:Mk T e l)(h:a2E T v l=true):c1M T v e=true:=by
 obtain ⟨_,s,l0,hs,hZ,rfl⟩:=hl
 have hp:=List.all_eq_true.1 he.pos
 have hq:=List.all_eq_true.1 he.neg
 unfold a2E c5C at h
 simp only [Bool.and_eq_true,List.all_eq_true,beq_iff_eq] at h
 obtain ⟨hk,⟨hv,hn⟩,hbody⟩:=h
 have hk':v.Kind=s.Kind:=by rw [hk]; exact hZ.kind
 obtain ⟨hKs,hAs⟩:=c3h hs
 have hbl:b2p T v l0=true:=hbody
 have hA:s.Arity=arV v:=by
  unfold arV
  unfold b2p at hbl
  by_cases h6:v.Kind=6
  ·rw [if_pos h6]
   simp [h6] at hbl
   rw [<- hZ.ar]; exact hbl.1.symm
  ·rw [if_neg h6]
   by_cases h9:v.Kind=9
   ·rw [if_pos h9]
    simp [h9] at hbl
    rw [<- hZ.ar]; exact hbl.1.symm
   ·rw [if_neg h9]
    omega
 have hop:=hZ.op
 unfold b2z at hop
 simp only [Bool.and_eq_true,List.all_eq_true,Bool.or_eq_true] at hop
 rw [<- hk',hA] at hop
 have hspl:=c6L hT ho hb (p:=e.Pos) (q:=e.Neg) he.pos he.neg
 have hsk:(∀ i∈ofZ T v.Kind (arV v) (skK v.Kind) e.Pos,Z7 T v i=true)/\∀ i∈ofZ T v.Kind (arV v) (skK v.Kind) e.Neg,Z7 T v i=false:=by
  have e1:ofZ T v.Kind (arV v) (skK v.Kind) e.Pos=l0.Pos:=by rw [hZ.pos,<- hk',hA]
  have e2:ofZ T v.Kind (arV v) (skK v.Kind) e.Neg=l0.Neg:=by rw [hZ.neg,<- hk',hA]
  rw [e1,e2,<- d2H]
  unfold b2p at hbl
  obtain ⟨hK,_⟩:=b54 ho
  by_cases h6:v.Kind=6
  ·simp [h6] at hbl; exact hbl.2
  by_cases h9:v.Kind=9
  ·simp [h9] at hbl; exact hbl.2
  by_cases h7:v.Kind=7
  ·simp [h7] at hbl; exact hbl
  by_cases h8:v.Kind=8
  ·simp [h8] at hbl; exact hbl
  have h0:skK v.Kind=0:=by unfold skK; rw [if_neg h6,if_neg h7,if_neg h8,if_neg h9]
  rw [<- e1,<- e2,h0,of0 hT he.pos,of0 hT he.neg]
  rfl
 have hlk:(∀ i∈e.Pos,(ndT T i).Kind=lkK v.Kind->Z7 T v i=true)/\∀ i∈e.Neg,(ndT T i).Kind=lkK v.Kind->Z7 T v i=false:=by
  have fin:(if v.Kind=1 then spI T e v.Int_ else if v.Kind=2\/v.Kind=3 then spN T e (lkK v.Kind) v.Text else true)=true:=by
   unfold b2p at hbl
   by_cases h1:v.Kind=1
   ·rw [if_pos h1] at hbl ⊢
    rw [<- (hZ.ints1 (by rw [<- hk']; exact h1)).2.2.1 v.Int_ (hI h1)]
    exact hbl
   ·rw [if_neg h1] at hbl ⊢
    by_cases h2:v.Kind=2\/v.Kind=3
    ·rw [if_pos h2] at hbl ⊢
     have:=(hZ.nam1 (by rw [<- hk']; exact h2)).2.2.1 v.Text
     rw [<- hk'] at this
     rw [<- this]
     exact hbl
    ·rw [if_neg h2]
  have get:∀ i,a0w T i=true->(ndT T i).Kind=lkK v.Kind->v.Kind=1\/v.Kind=2\/v.Kind=3:=fun i hi hk=>by
   have h0:(ndT T i).Kind≠0:=by
    obtain ⟨j,_,_,_,_,hK⟩:=a9r hT hi
    omega
   unfold lkK at hk
   by_cases h1:v.Kind=1
   ·exact .inl h1
   by_cases h2:v.Kind=2
   ·exact .inr (.inl h2)
   by_cases h3:v.Kind=3
   ·exact .inr (.inr h3)
   rw [if_neg h1,if_neg h2,if_neg h3] at hk
   exact absurd hk h0
  constructor
  ·intro i hi hki
   rw [b6G hT ho hb (hp i hi) hki]
   by_cases h1:v.Kind=1
   ·rw [if_pos h1] at fin ⊢
    unfold spI at fin
    simp only [Bool.and_eq_true,List.all_eq_true] at fin
    have:=fin.1 i hi
    unfold isK at this
    unfold lkK at hki
    rw [if_pos h1] at hki
    simpa [hki] using this
   ·rw [if_neg h1] at fin ⊢
    have h23:v.Kind=2\/v.Kind=3:=by have:=get i (hp i hi) hki; omega
    rw [if_pos h23] at fin
    unfold spN at fin
    simp only [Bool.and_eq_true,List.all_eq_true] at fin
    have:=fin.1 i hi
    unfold isK at this
    simpa [hki] using this
  ·intro i hi hki
   rw [b6G hT ho hb (hq i hi) hki]
   by_cases h1:v.Kind=1
   ·rw [if_pos h1] at fin ⊢
    unfold spI at fin
    simp only [Bool.and_eq_true,List.all_eq_true] at fin
    have:=fin.2 i hi
    unfold isK at this
    unfold lkK at hki
    rw [if_pos h1] at hki
    simpa [hki] using this
   ·rw [if_neg h1] at fin ⊢
    have h23:v.Kind=2\/v.Kind=3:=by have:=get i (hq i hi) hki; omega
    rw [if_pos h23] at fin
    unfold spN at fin
    simp only [Bool.and_eq_true,List.all_eq_true] at fin
    have:=fin.2 i hi
    unfold isK at this
    simpa [hki] using this
 have hmem:=hspl.2 ⟨⟨fun i hi hk=>by
  rw [b2S hT ho hb (hp i hi) hk]
  exact hv _ (b0n.2 ⟨i,hi,hk,rfl⟩),fun i hi hk=>by
  rw [b2S hT ho hb (hq i hi) hk]
  have:=hn _ (b0n.2 ⟨i,hi,hk,rfl⟩)
  simpa using this⟩,fun i hi=>by
  rcases hop.2 i hi with h | h
  ·unfold isK at h
   exact .inl (by simpa using h)
  ·exact .inr h,hlk,hsk,fun i hi hk=>by
  have:=hZ.ev
  rw [List.any_eq_false] at this
  have:=this i hi
  unfold isK at this
  rw [<- hk'] at this
  simp [hk] at this⟩
 unfold c1M c2j
 rw [hmem.1,hmem.2]
 have h1:=hop.1
 cases hL:e.Lists with
 | false=>rfl
 | true =>
   rw [hL] at h1
   simp only [bne,Bool.true_and,Bool.not_eq_true',Bool.and_eq_false_iff,Bool.not_eq_false'] at h1
   simp only [Bool.not_true,Bool.false_or,Bool.and_true,Bool.or_eq_true]
   exact h1
theorem c43 (hT:GT T)(ho:vOK v=true)(hb:k7 v<=4194304)(hI:IOK v){L:Bool}{e:Api_Goal}(he:NG T L e)(hm:c1M T v e=true) :
 a9P T e=true/\Core_Sort.mk v.Kind (arV v)∈a2r/\¬ c1z T e v.Kind (arV v)/\∀ l0,LineZ T e v.Kind (arV v) l0->a2E T v (c1L l0 (srS (W8 T e.Pos)) (srS (W8 T e.Neg)))=true:=by
 have hp:=List.all_eq_true.1 he.pos
 have hq:=List.all_eq_true.1 he.neg
 unfold c1M at hm
 simp only [Bool.and_eq_true] at hm
 obtain ⟨hlis,hpos,hneg⟩:=hm
 obtain ⟨⟨v1,v2⟩,op,⟨k1,k2⟩,⟨s1,s2⟩,ev⟩:=(c6L hT ho hb he.pos he.neg).1 ⟨hpos,hneg⟩
 have hP:=List.all_eq_true.1 hpos
 have hQ:∀ i∈e.Neg,Z7 T v i=false:=fun i hi=>by simpa using List.all_eq_true.1 hneg i hi
 obtain ⟨hK,hK6,hK9⟩:=b54 ho
 have hopen:b2z T e v.Kind (arV v)=true:=by
  unfold b2z
  simp only [Bool.and_eq_true,List.all_eq_true,Bool.or_eq_true]
  refine ⟨?_,fun i hi=>?_⟩
  ·unfold c2j at hlis
   simp only [bne]
   revert hlis
   generalize e.Lists=a
   generalize (v.Kind==5)=b
   generalize (v.Kind==7)=c
   revert a b c
   decide
  ·rcases op i hi with h | h
   ·exact .inl (by unfold isK; simp [h])
   ·exact .inr h
 have hspI:v.Kind=1->spI T e v.Int_=true:=fun h1=>by
  unfold spI
  simp only [Bool.and_eq_true,List.all_eq_true,Bool.or_eq_true]
  have hl:lkK v.Kind=3:=by unfold lkK; rw [if_pos h1]
  refine ⟨fun i hi=>?_,fun i hi=>?_⟩
  ·cases hk:isK T 3 i with
   | false=>exact .inl rfl
   | true =>
     have hk3:(ndT T i).Kind=lkK v.Kind:=by rw [hl]; unfold isK at hk; simpa using hk
     have:=k1 i hi hk3
     rw [b6G hT ho hb (hp i hi) hk3,if_pos h1] at this
     exact .inr this
  ·cases hk:isK T 3 i with
   | false=>exact .inl rfl
   | true =>
     have hk3:(ndT T i).Kind=lkK v.Kind:=by rw [hl]; unfold isK at hk; simpa using hk
     have:=k2 i hi hk3
     rw [b6G hT ho hb (hq i hi) hk3,if_pos h1] at this
     exact .inr (by rw [this]; rfl)
 have hspN:v.Kind=2\/v.Kind=3->spN T e (lkK v.Kind) v.Text=true:=fun h23=>by
  have h1:¬ v.Kind=1:=by omega
  unfold spN
  simp only [Bool.and_eq_true,List.all_eq_true,Bool.or_eq_true]
  refine ⟨fun i hi=>?_,fun i hi=>?_⟩
  ·cases hk:isK T (lkK v.Kind) i with
   | false=>exact .inl rfl
   | true =>
     have hk3:(ndT T i).Kind=lkK v.Kind:=by unfold isK at hk; simpa using hk
     have:=k1 i hi hk3
     rw [b6G hT ho hb (hp i hi) hk3,if_neg h1] at this
     exact .inr this
  ·cases hk:isK T (lkK v.Kind) i with
   | false=>exact .inl rfl
   | true =>
     have hk3:(ndT T i).Kind=lkK v.Kind:=by unfold isK at hk; simpa using hk
     have:=k2 i hi hk3
     rw [b6G hT ho hb (hq i hi) hk3,if_neg h1] at this
     exact .inr (by rw [this]; rfl)
 have hev:e.Neg.any (isK T (ekK v.Kind))=false:=by
  rw [List.any_eq_false]
  intro i hi
  unfold isK
  simp [ev i hi]
 refine ⟨?_,?_,?_,fun l0 hZ=>?_⟩
 ·unfold a9P
  rw [Bool.and_eq_true]
  constructor
  ·cases h:b78 e.Pos e.Neg with
   | false=>rfl
   | true =>
     obtain ⟨i,h1,h2⟩:=d08.1 h
     have:=hQ i h2
     rw [hP i h1] at this
     cases this
  ·cases h:b00 (srS (W8 T e.Pos)) (srS (W8 T e.Neg)) with
   | false=>rfl
   | true =>
     obtain ⟨s,h1,h2⟩:=d0f.1 h
     obtain ⟨i,a1,a2,a3⟩:=b0n.1 h1
     obtain ⟨j,b1,b2,b3⟩:=b0n.1 h2
     have c1:=v1 i a1 a2
     have c2:=v2 j b1 b2
     rw [b2S hT ho hb (hp i a1) a2,a3] at c1
     rw [b2S hT ho hb (hq j b1) b2,b3,c1] at c2
     cases c2
 ·refine d0R ?_
  unfold arV
  by_cases h6:v.Kind=6
  ·rw [if_pos h6]; have:=hK6 h6; omega
  ·rw [if_neg h6]
   by_cases h9:v.Kind=9
   ·rw [if_pos h9]; have:=hK9 h9; omega
   ·rw [if_neg h9]; omega
 ·rintro (h | h | ⟨h1,h⟩ | ⟨h1,h⟩)
  ·rw [hopen] at h; cases h
  ·rw [hev] at h; cases h
  ·have:=hspI h1
   rw [h v.Int_ (hI h1)] at this
   cases this
  ·have:=hspN h1
   rw [h v.Text] at this
   cases this
 ·unfold a2E c5C
  simp only [Bool.and_eq_true,List.all_eq_true,beq_iff_eq]
  refine ⟨hZ.kind.symm,⟨fun s hs=>?_,fun s hs=>?_⟩,?_⟩
  ·obtain ⟨i,a1,a2,a3⟩:=b0n.1 hs
   have c1:=v1 i a1 a2
   rw [b2S hT ho hb (hp i a1) a2,a3] at c1
   exact c1
  ·obtain ⟨j,b1,b2,b3⟩:=b0n.1 hs
   have c2:=v2 j b1 b2
   rw [b2S hT ho hb (hq j b1) b2,b3] at c2
   rw [c2]; rfl
  ·have hgm:gM T v (g0 l0.Pos l0.Neg)=true:=by
    rw [d2H,hZ.pos,hZ.neg]
    exact ⟨s1,s2⟩
   show b2p T v l0=true
   unfold b2p
   by_cases h1:v.Kind=1
   ·rw [if_pos h1,(hZ.ints1 h1).2.2.1 v.Int_ (hI h1)]
    exact hspI h1
   rw [if_neg h1]
   by_cases h23:v.Kind=2\/v.Kind=3
   ·rw [if_pos h23,(hZ.nam1 h23).2.2.1 v.Text]
    exact hspN h23
   rw [if_neg h23,hZ.ar,hgm]
   unfold arV
   by_cases h6:v.Kind=6
   ·simp [h6]
   by_cases h9:v.Kind=9
   ·simp [h9]
   simp [h6,h9]
theorem c5G (hT:GT T)(ho:vOK v=true)(hb:k7 v<=4194304)(hI:IOK v){g:Api_Goal}(hg:gIn T.Nodes.length g=true){out:List Api_Goal}(hE:ExpZ T g out){ls:List Api_Line}(hL:LinesZ T out ls):ls.any (a2E T v)=gA T v g:=by
 have hmem:=hE.mem _ (d1i hT ho hb)
 rw [Bool.eq_iff_iff,List.any_eq_true]
 unfold gA
 rw [hg,Bool.true_and,Bool.and_eq_true]
 constructor
 ·rintro ⟨l,hl,h⟩
  obtain ⟨e,he,hM⟩:=hL.src l hl
  have hN:=hE.ng e he
  have h2:=c9e hT ho hb hI hN hM h
  unfold c1M at h2
  rw [Bool.and_eq_true,hN.lists] at h2
  refine ⟨h2.1,?_⟩
  unfold gM
  rw [<- hmem,List.any_eq_true]
  exact ⟨e,he,h2.2⟩
 ·rintro ⟨h1,h2⟩
  unfold gM at h2
  rw [<- hmem,List.any_eq_true] at h2
  obtain ⟨e,he,h3⟩:=h2
  have hN:=hE.ng e he
  have hm:c1M T v e=true:=by
   unfold c1M
   rw [hN.lists,h1,Bool.true_and]
   exact h3
  obtain ⟨c1,c2,c3,c4⟩:=c43 hT ho hb hI hN hm
  rcases hL.all e he c1 _ c2 with ⟨l,hl,l0,hZ,rfl⟩ | h
  ·exact ⟨_,hl,c4 l0 hZ⟩
  ·exact absurd h c3
end
end Go.Pl
end
section
namespace Go.Pl
open Go Go.RowKit Go.Sx Go.Qx
def Pst {α:Type}(o:Option α)(Q:α->Prop):Prop:=∀ r,o=some r->Q r
theorem Pst.bind {α β:Type}{o:Option α}{f:α->Option β}{P:α->Prop}{Q:β->Prop}(h1:Pst o P)(h2:∀ x,P x->Pst (f x) Q):Pst (Option.bind o f) Q:=fun r h=>by
 cases o with
 | none=>cases h
 | some x=>exact h2 x (h1 x rfl) r h
theorem Pst.any {α:Type}{o:Option α}:Pst o fun _=>True:=fun _ _=>trivial
theorem Pst.cond {α:Type}{b:Bool}{x y:Option α}{Q:α->Prop}(h1:Pst x Q)(h2:Pst y Q):Pst (bif b then x else y) Q:=by cases b; exact h2; exact h1
theorem Pst.ret {α:Type}{x:α}{Q:α->Prop}(h:Q x):Pst (some x) Q:=fun r e=>by rw [<- Option.some.inj e]; exact h
theorem Pst.none {α:Type}{Q:α->Prop}:Pst (none:Option α) Q:=fun r e=>by cases e
theorem Pst.onEnd {α β γ:Type}{f:α->Option γ}{g:β->Option γ}{s:Sum α β}{Q:γ->Prop}(h1:∀ x,s=.inl x->Pst (f x) Q)(h2:∀ y,s=.inr y->Pst (g y) Q):Pst (onEnd f g s) Q:=by
 cases s with
 | inl x=>exact h1 x rfl
 | inr y=>exact h2 y rfl
theorem Pst.iter {St β:Type}{step:St->Option (Fl St β)}{J:St->Prop}{Q:β->Prop}(hs:∀ s,J s->Pst (step s) fun r=>match r with | .next s'=>J s' | .done b=>Q b):∀ (k:Nat) (s:St),J s->Pst (iter step k s) Q
 | 0,_,_=>fun r h=>by cases h
 | k+1,s,hJ=>by
   intro r h
   simp only [Go.Sx.iter] at h
   cases hst:step s with
   | none=>rw [hst] at h; cases h
   | some x =>
     have:=hs s hJ x hst
     rw [hst] at h
     cases x with
     | next s'=>exact Pst.iter hs k s' this r h
     | done b=>simp only [Option.bind_some] at h; rw [<- Option.some.inj h]; exact this
abbrev V1 (r:Val×Semtypebase_Source):Prop:=IOK r.1
theorem a2q {v:Val}(h:v.Kind≠1):IOK v:=fun e=>absurd e h
theorem c1K {v w:Val}(h1:w.Kind=v.Kind)(h2:w.Int_=v.Int_)(h:IOK v):IOK w:=fun e=>by rw [h2]; exact h (by rw [<- h1]; exact e)
theorem c7N (s:Semtypebase_Source):Pst (a0u s) fun r=>i64 r.1:=by
 unfold a0u
 refine Pst.bind Pst.any fun r _=>Pst.bind (P:=fun _=>True) Pst.any fun x _=>Pst.bind (P:=i64) (fun y hy=>?_) fun y hy=>Pst.ret hy
 have hm:=List.mem_of_getElem? hy
 simp only [List.mem_cons,List.not_mem_nil,or_false] at hm
 unfold i64
 omega
theorem b1w (s:Semtypebase_Source):Pst (J0 s) V1:=by
 unfold J0
 refine Pst.bind Pst.any fun r _=>Pst.cond ?_ (Pst.cond ?_ (Pst.cond ?_ (Pst.cond ?_ (Pst.cond ?_ ?_))))
 ·exact Pst.bind (c7N _) fun x hx=>Pst.bind (P:=fun v=>v.Int_=x.1) (fun v hv=>by unfold a16 at hv; rw [<- Option.some.inj hv]; rfl) fun v hv=>Pst.ret fun _=>by rw [hv]; exact hx
 ·exact Pst.bind Pst.any fun x _=>Pst.bind (P:=fun v=>v.Kind≠1) (fun v hv=>by unfold a3v at hv; rw [<- Option.some.inj hv]; exact (by decide:(3:Int)≠1)) fun v hv=>Pst.ret (a2q hv)
 ·exact Pst.bind Pst.any fun x _=>Pst.bind (P:=fun v=>v.Kind≠1) (fun v hv=>by unfold a2t at hv; rw [<- Option.some.inj hv]; exact (by decide:(2:Int)≠1)) fun v hv=>Pst.ret (a2q hv)
 ·exact Pst.bind Pst.any fun x _=>Pst.bind (P:=fun v=>v.Kind≠1) (fun v hv=>by unfold a5J at hv; rw [<- Option.some.inj hv]; exact (by decide:(4:Int)≠1)) fun v hv=>Pst.ret (a2q hv)
 ·exact Pst.bind (P:=fun v=>v.Kind≠1) (fun v hv=>by unfold W4 at hv; rw [<- Option.some.inj hv]; exact (by decide:(5:Int)≠1)) fun v hv=>Pst.ret (a2q hv)
 ·refine Pst.bind (P:=fun v=>v.Kind≠1) ?_ fun v hv=>Pst.ret (a2q hv)
  unfold a1Y
  exact Pst.bind Pst.any fun x _=>Pst.ret (by decide:(6:Int)≠1)
theorem c6w (ks:List Key)(l:List Val):Pst (a1r ks l) fun r=>r.1.Kind≠1:=by
 unfold a1r
 refine Pst.cond (Pst.ret (by decide)) ?_
 refine Pst.bind (P:=fun b=>match b with | .inl x=>x.1=0 | .inr y=>y.2.1=0) (Pst.iter (J:=fun x=>x.2.1=0) (fun s hJ=>?_) _ _ rfl) fun b hb=>Pst.onEnd (fun x hx=>?_) (fun y hy=>Pst.ret ?_)
 ·unfold a1C
  exact Pst.cond (Pst.bind Pst.any fun _ _=>Pst.bind Pst.any fun _ _=>Pst.cond (Pst.ret rfl) (Pst.ret hJ)) (Pst.ret hJ)
 ·subst hx
  refine Pst.bind (P:=fun b=>match b with | .inl x=>x.2.1=8 | .inr y=>y.2.1.1=0) (Pst.iter (J:=fun x=>x.2.1.1=0/\x.2.2.1=8) (fun s hJ=>?_) _ _ ⟨hb,rfl⟩) fun b hb=>Pst.onEnd (fun x hx=>Pst.ret ?_) (fun y hy=>Pst.ret ?_)
  ·unfold a0V
   refine Pst.cond (Pst.bind Pst.any fun _ _=>Pst.bind Pst.any fun _ _=>Pst.cond (Pst.ret rfl) ?_) (Pst.ret hJ.2)
   exact Pst.bind Pst.any fun _ _=>Pst.bind Pst.any fun _ _=>Pst.bind Pst.any fun _ _=>Pst.bind Pst.any fun _ _=>Pst.bind Pst.any fun _ _=>Pst.bind Pst.any fun _ _=>Pst.bind Pst.any fun _ _=>Pst.bind Pst.any fun _ _=>Pst.bind Pst.any fun _ _=>Pst.bind Pst.any fun _ _=>Pst.bind Pst.any fun _ _=>Pst.bind Pst.any fun _ _=>Pst.ret hJ
  ·subst hx
   show x.2.1≠1
   have hb':x.2.1=8:=hb
   omega
  ·subst hy
   show y.2.1.1≠1
   have hb':y.2.1.1=0:=hb
   omega
 ·subst hy
  show y.2.1≠1
  have hb':y.2.1=0:=hb
  omega
theorem b8w (n:Nat)(a:Int)(l:List Ent):Pst (a04 n a l) fun r=>r.1.Kind≠1:=by
 unfold a04
 refine Pst.bind Pst.any fun _ _=>Pst.cond (Pst.ret (by decide)) ?_
 refine Pst.bind (P:=fun b=>match b with | .inl x=>True | .inr y=>y.2.1=0) (Pst.iter (J:=fun x=>x.2.1=0) (fun s hJ=>?_) _ _ rfl) fun b hb=>Pst.onEnd (fun x hx=>?_) (fun y hy=>Pst.ret ?_)
 ·unfold a0l
  exact Pst.cond (Pst.bind Pst.any fun _ _=>Pst.bind Pst.any fun _ _=>Pst.bind Pst.any fun _ _=>Pst.cond (Pst.ret rfl) (Pst.ret hJ)) (Pst.ret trivial)
 ·exact Pst.bind Pst.any fun _ _=>Pst.ret (by decide:(9:Int)≠1)
 ·subst hy
  show y.2.1≠1
  have hb':y.2.1=0:=hb
  omega
theorem c8Z:∀ (n:Nat) (s:Semtypebase_Source) (h:Int),Pst ((y9 n).2.1 s h) V1
 | 0,_,_=>Pst.none
 | n+1,s,h=>by
   show Pst (W5 n (y9 n).1 (y9 n).2.1 (y9 n).2.2 s h) V1
   unfold W5
   refine Pst.cond (Pst.bind (b1w _) fun r hr=>Pst.ret hr) (Pst.bind Pst.any fun r _=>?_)
   refine Pst.bind (P:=fun b=>match b with | .inl _=>True | .inr y=>y.2.1≠1) ?_ fun b hb=>Pst.onEnd (fun x hx=>Pst.bind (b1w _) fun r hr=>Pst.ret hr) (fun y hy=>Pst.ret ?_)
   ·refine Pst.cond ?_ (Pst.cond ?_ (Pst.cond ?_ (Pst.cond ?_ (Pst.ret trivial))))
    ·refine Pst.bind Pst.any fun _ _=>Pst.bind Pst.any fun _ _=>Pst.bind (P:=fun v=>v.Kind≠1) ?_ fun v hv=>Pst.ret hv
     unfold a1Y
     exact Pst.bind Pst.any fun x _=>Pst.ret (by decide:(6:Int)≠1)
    ·refine Pst.bind Pst.any fun _ _=>Pst.bind Pst.any fun _ _=>Pst.bind Pst.any fun _ _=>Pst.bind Pst.any fun _ _=>Pst.bind Pst.any fun _ _=>Pst.bind (P:=fun v=>v.Kind≠1) ?_ fun v hv=>Pst.ret hv
     unfold a4Q
     exact Pst.ret (by decide:(7:Int)≠1)
    ·exact Pst.bind Pst.any fun _ _=>Pst.bind Pst.any fun _ _=>Pst.bind (c6w _ _) fun v hv=>Pst.cond (Pst.ret hv) (Pst.ret trivial)
    ·exact Pst.bind Pst.any fun _ _=>Pst.bind Pst.any fun _ _=>Pst.bind Pst.any fun _ _=>Pst.bind (b8w _ _ _) fun v hv=>Pst.cond (Pst.ret hv) (Pst.ret trivial)
   ·subst hy
    exact a2q hb
theorem c8G (n:Nat)(s:Semtypebase_Source)(h:Int):Pst (a1F n s h) V1:=by
 cases n with
 | zero=>exact Pst.none
 | succ n =>
   show Pst (a1b n (y9 n).1 (y9 n).2.1 (y9 n).2.2 s h) V1
   unfold a1b
   exact Pst.bind (c8Z n s h) fun r hr=>Pst.bind Pst.any fun l _=>Pst.ret (c1K rfl rfl hr)
theorem d0w (t:Api_Type)(x:Api_TypeNode)(k:Nat)(v:Val)(hv:IOK v):Pst (iter (J7 t x) k (0,v)) IOK:=by
 refine Pst.iter (J:=fun s=>IOK s.2) (fun s hJ=>?_) k (0,v) hv
 unfold J7
 refine Pst.cond (Pst.bind (P:=IOK) ?_ fun w hw=>Pst.ret hw) (Pst.ret hJ)
 refine Pst.bind Pst.any fun _ _=>Pst.bind Pst.any fun _ _=>Pst.cond ?_ (Pst.ret hJ)
 exact Pst.bind Pst.any fun _ _=>Pst.bind Pst.any fun _ _=>Pst.bind Pst.any fun _ _=>Pst.bind Pst.any fun _ _=>Pst.bind Pst.any fun _ _=>Pst.ret (c1K rfl rfl hJ)
theorem c4Q {t:Api_Type}(hT:GT t):∀ n:Nat,(∀ s k h,Pst ((z7 n).1 s t k h) V1)/\(∀ s k h,Pst ((z7 n).2.1 s t k h) V1) /\
 (∀ s x h,Pst ((z7 n).2.2.1 s t x h) V1)/\∀ s x h,Pst ((z7 n).2.2.2 s t x h) V1
 | 0=>⟨fun _ _ _=>Pst.none,fun _ _ _=>Pst.none,fun _ _ _=>Pst.none,fun _ _ _=>Pst.none⟩
 | n+1=>by
   obtain ⟨i1,i2,i3,i4⟩:=c4Q hT n
   refine ⟨fun s k h=>?_,fun s k h=>?_,fun s x h=>?_,fun s x h=>?_⟩
   ·show Pst (a1q n (z7 n).1 (z7 n).2.1 (z7 n).2.2.1 (z7 n).2.2.2 s t k h) V1
    unfold a1q
    exact Pst.bind (i2 s k h) fun r hr=>Pst.bind Pst.any fun _ _=>Pst.cond (Pst.bind (b1w _) fun q hq=>Pst.ret hq) (Pst.ret hr)
   ·show Pst (X7 n (z7 n).1 (z7 n).2.1 (z7 n).2.2.1 (z7 n).2.2.2 s t k h) V1
    unfold X7
    refine Pst.bind Pst.any fun _ _=>Pst.bind Pst.any fun _ _=>Pst.cond (Pst.bind (b1w _) fun r hr=>Pst.ret hr) ?_
    refine Pst.bind (P:=fun x=>x∈t.Nodes) (fun x hx=>?_) fun x hx=>?_
    ·unfold idx at hx
     split at hx
     ·exact List.mem_of_getElem? hx
     ·cases hx
    have st:∀ (w:ByteArray) (s:Semtypebase_Source),Pst (Option.bind (a2t w) fun r=>some (r,s)) V1:=fun w s=>Pst.ret (a2q (by decide:(2:Int)≠1))
    have at_:∀ (w:ByteArray) (s:Semtypebase_Source),Pst (Option.bind (a3v w) fun r=>some (r,s)) V1:=fun w s=>Pst.ret (a2q (by decide:(3:Int)≠1))
    have pd:∀ (w:Int) (s:Semtypebase_Source),Pst (Option.bind (a5J w) fun r=>some (r,s)) V1:=fun w s=>Pst.ret (a2q (by decide:(4:Int)≠1))
    have nl:∀ (s:Semtypebase_Source),Pst (Option.bind (W4) fun r=>some (r,s)) V1:=fun s=>Pst.ret (a2q (by decide:(5:Int)≠1))
    refine Pst.cond ?_ (Pst.cond (st _ _) (Pst.cond (Pst.bind Pst.any fun _ _=>st _ _) (Pst.cond (at_ _ _) (Pst.cond (Pst.bind Pst.any fun _ _=>at_ _ _) (Pst.cond (Pst.bind Pst.any fun _ _=>pd _ _) (Pst.cond (nl _) ?_))))))
    ·obtain ⟨j,hj,rfl⟩:=List.getElem_of_mem hx
     have hg:=(hT.nodes j _ (List.getElem?_eq_getElem hj)).rng
     refine Pst.bind Pst.any fun d5 _=>Pst.bind Pst.any fun d6 _=>Pst.bind Pst.any fun r _=>Pst.bind (P:=fun _=>True) Pst.any fun _ _=>Pst.bind (P:=i64) (fun y hy=>?_) fun y hy=>Pst.ret fun _=>hy
     have hm:=List.mem_of_getElem? hy
     simp only [List.mem_cons,List.not_mem_nil,or_false] at hm
     rcases hm with rfl | rfl | rfl
     ·exact ⟨hg.1,hg.2.1⟩
     ·exact ⟨hg.2.2.1,hg.2.2.2⟩
     ·generalize t.Nodes[j].Lo+wr .i64 (d5-d6)=z
      unfold i64 wr
      rw [IntKind.wrap_i64]
      omega
    ·refine Pst.bind Pst.any fun _ _=>Pst.cond ?_ (Pst.cond ?_ (Pst.cond ?_ (Pst.cond ?_ (Pst.cond ?_ (Pst.cond ?_ ?_)))))
     ·refine Pst.bind Pst.any fun b _=>Pst.bind (P:=fun y=>y.1≠1) ?_ fun y hy=>Pst.ret (a2q hy)
      exact Pst.cond (Pst.bind Pst.any fun _ _=>Pst.bind Pst.any fun _ _=>Pst.cond (Pst.bind Pst.any fun _ _=>Pst.bind Pst.any fun _ _=>Pst.bind Pst.any fun _ _=>Pst.ret (by decide:(7:Int)≠1)) (Pst.ret (by decide:(7:Int)≠1))) (Pst.ret (by decide:(6:Int)≠1))
     ·exact Pst.bind (i4 _ _ _) fun r hr=>Pst.ret hr
     ·exact Pst.bind (i3 _ _ _) fun r hr=>Pst.ret hr
     ·exact Pst.bind Pst.any fun _ _=>Pst.bind Pst.any fun _ _=>Pst.bind (i2 _ _ _) fun r hr=>Pst.ret hr
     ·exact Pst.bind Pst.any fun _ _=>Pst.bind Pst.any fun _ _=>Pst.bind (i2 _ _ _) fun r hr=>Pst.bind (d0w t x _ _ hr) fun w hw=>Pst.ret hw
     ·refine Pst.bind (b1w _) fun r hr=>Pst.bind (P:=IOK) ?_ fun w hw=>Pst.ret hw
      unfold a3E
      exact Pst.bind Pst.any fun _ _=>Pst.ret (c1K rfl rfl hr)
     ·exact Pst.bind (c8G n _ _) fun r hr=>Pst.ret hr
   ·show Pst (X9 n (z7 n).1 (z7 n).2.1 (z7 n).2.2.1 (z7 n).2.2.2 s t x h) V1
    unfold X9
    exact Pst.bind Pst.any fun _ _=>Pst.bind Pst.any fun _ _=>Pst.bind (b8w _ _ _) fun r hr=>Pst.cond (Pst.ret (a2q (by decide:(5:Int)≠1))) (Pst.ret (a2q hr))
   ·show Pst (a0I n (z7 n).1 (z7 n).2.1 (z7 n).2.2.1 (z7 n).2.2.2 s t x h) V1
    unfold a0I
    exact Pst.bind Pst.any fun _ _=>Pst.bind Pst.any fun _ _=>Pst.bind Pst.any fun _ _=>Pst.bind (c6w _ _) fun r hr=>Pst.cond (Pst.ret (a2q (by decide:(5:Int)≠1))) (Pst.ret (a2q hr))
end Go.Pl
end
section
namespace Go.Pl
open Go Go.RowKit Go.Sx Go.Qx
theorem c7n (l:List (List Int))(hl:l.length<=1000):a54 l=some (l.all fun x=>!decide (80<(x.length:Int))):=by
 have l1:=X3 (step:=a2O l) l (fun x=>!decide (80<(x.length:Int))) (fun i=>(i:Int)) () false (fun i x hx=>by
  have hi:i<l.length:=(List.getElem?_eq_some_iff.1 hx).1
  unfold a2O
  rw [w9 hi,j6 hx]
  simp only [cond_true,Option.bind_some,Z2]
  rw [j8 i (by omega)]
  cases decide (80<(x.length:Int))<;>rfl) (by
  unfold a2O
  simp)
 have l1':iter (a2O l) (l.length+1) 0=_:=l1
 unfold a54
 rw [Z5,l1']
 cases l.all fun x=>!decide (80<(x.length:Int))<;>rfl
structure DT (T:Api_Type):Prop where
 gt:GT T
 one:1<=T.Nodes.length
 len:T.Nodes.length<=7
 root:inR T.Nodes.length T.Root=true
structure DV (v:Val):Prop where
 ok:vOK v=true
 bulk:k7 v<=1638300
 int:IOK v
theorem os0 (L:List Int):OS L (Semtypebase_Source.mk L 0):=⟨rfl,by show (0:Int)<=0; omega,by show (0:Int)<=_; omega⟩
theorem d2d (l:List Int)(hl:l.length<=4194304):∃ T,DT T/\∀ m:List Int,m.length<=4194304->∀ n,10000000<=n->∃ v,a52 n l m=some (T,v)/\DV v:=by
 obtain ⟨x,t1,e1,h1,x0,x1⟩:=Y5 hl (os0 l) (n:=7) (by omega) (by omega)
 obtain ⟨x,rfl⟩:=a92 x0
 obtain ⟨ns,t2,e2,h2,hlen,hns⟩:=d1Q hl h1 (x+1) (by omega) (by omega)
 have hgt:GT (Api_Type.mk ns 0):=⟨by show ns.length<=10; omega,by show GNs ns.length ns; rw [hlen]; exact hns⟩
 have hDT:DT (Api_Type.mk ns 0):=⟨hgt,by show 1<=ns.length; omega,by show ns.length<=7; omega,b35 (show (0:Int)<=0 by omega) (by show (0:Int)<(ns.length:Int); omega)⟩
 refine ⟨_,hDT,fun m hm n hn=>?_⟩
 obtain ⟨k,t3,e3,h3,k0,k1⟩:=Y5 hm (os0 m) (n:=(ns.length:Int)) (by omega) (by omega)
 obtain ⟨k,rfl⟩:=a92 k0
 obtain ⟨v,u,e4,_,hv,hb⟩:=d3Q hm hgt n hn 4 (Nat.le_refl 4) k t3 (by show k<ns.length; omega) h3
 have hI:IOK v:=(c4Q hgt n).1 t3 (k:Int) ((4:Nat):Int) (v,u) e4
 refine ⟨v,?_,hv,hb,hI⟩
 unfold a52
 rw [e1]
 simp only [Option.bind_some]
 rw [show wr .i64 (1+(x:Int))=((x+1:Nat):Int) by rw [Z2,Q7 (by omega) (by omega)]; omega]
 rw [show a1U t1 ((x+1:Nat):Int)=some (Api_Type.mk ns 0,t2) from e2]
 simp only [Option.bind_some]
 rw [e3]
 simp only [Option.bind_some]
 have e4':a3j n t3 (Api_Type.mk ns 0) (k:Int) 4=some (v,u):=e4
 rw [e4']
 rfl
section
variable {L:List Int}{T:Api_Type}
theorem d3H (hL:L.length<=4194304)(hT:DT T){s:Semtypebase_Source}(hs:OS L s)(m:Nat)(hm:m<=4) :
 ∃ a t,iter (a09 T) ((m:Int).toNat+2) ((m:Int),s,([],[],false))=some (t,(a,[],false))/\OS L t/\a.length=m/\a.all (inR T.Nodes.length)=true:=by
 have h1:=hT.one
 have h7:=hT.len
 obtain ⟨g,u,e,hu,i1,i2⟩:=a7I (γ:=List Int) (L:=L) (step:=a09 T) (fun g n s=>(n,s,(g,([]:List Int),false))) (fun g s=>(s,(g,([]:List Int),false))) (fun j g=>g.length=j/\g.all (inR T.Nodes.length)=true) m
  (fun j n g s hj hn hI hs=>by
    obtain ⟨x,t,e,ht,x0,x1⟩:=Y5 hL hs (n:=(T.Nodes.length:Int)) (by omega) (by omega)
    refine ⟨g++[x],t,?_,ht,by simp [hI.1],by rw [List.all_append,hI.2]; simp only [List.all_cons,List.all_nil,Bool.and_true,Bool.true_and]; exact b35 x0 x1⟩
    unfold a09
    simp only
    rw [show decide (0<((n+1:Nat):Int))=true from decide_eq_true (by omega),e]
    simp only [cond_true,Option.bind_some]
    rw [Y0 (by simp only [List.length_cons,List.length_nil]; have:=hI.1; omega),show wr .i64 (((n+1:Nat):Int)-1)=(n:Int) by rw [Z2,Q7 (by omega) (by omega)]; omega]
    rfl) (fun g s=>by
    unfold a09
    rfl) m 0 ((m:Int).toNat+2) [] s (by omega) (by omega) ⟨rfl,rfl⟩ hs
 exact ⟨g,u,e,hu,by omega,i2⟩
theorem d3Y (hL:L.length<=4194304)(hT:DT T){s:Semtypebase_Source}(hs:OS L s)(p:List Int)(m:Nat)(hm:m<=4) :
 ∃ a t,iter (a1c T) ((m:Int).toNat+2) ((m:Int),s,(p,[],false))=some (t,(p,a,false))/\OS L t/\a.length=m/\a.all (inR T.Nodes.length)=true:=by
 have h1:=hT.one
 have h7:=hT.len
 obtain ⟨g,u,e,hu,i1,i2⟩:=a7I (γ:=List Int) (L:=L) (step:=a1c T) (fun g n s=>(n,s,(p,g,false))) (fun g s=>(s,(p,g,false))) (fun j g=>g.length=j/\g.all (inR T.Nodes.length)=true) m
  (fun j n g s hj hn hI hs=>by
    obtain ⟨x,t,e,ht,x0,x1⟩:=Y5 hL hs (n:=(T.Nodes.length:Int)) (by omega) (by omega)
    refine ⟨g++[x],t,?_,ht,by simp [hI.1],by rw [List.all_append,hI.2]; simp only [List.all_cons,List.all_nil,Bool.and_true,Bool.true_and]; exact b35 x0 x1⟩
    unfold a1c
    simp only
    rw [show decide (0<((n+1:Nat):Int))=true from decide_eq_true (by omega),e]
    simp only [cond_true,Option.bind_some]
    rw [Y0 (by simp only [List.length_cons,List.length_nil]; have:=hI.1; omega),show wr .i64 (((n+1:Nat):Int)-1)=(n:Int) by rw [Z2,Q7 (by omega) (by omega)]; omega]
    rfl) (fun g s=>by
    unfold a1c
    rfl) m 0 ((m:Int).toNat+2) [] s (by omega) (by omega) ⟨rfl,rfl⟩ hs
 exact ⟨g,u,e,hu,by omega,i2⟩
structure DG (T:Api_Type)(g:Api_Goal):Prop where
 ix:gIn T.Nodes.length g=true
 pos:g.Pos.length<=2
 neg:g.Neg.length<=2
 sp:srt g.Pos=g.Pos
 sn:srt g.Neg=g.Neg
theorem d2o (hL:L.length<=4194304)(hT:DT T){s:Semtypebase_Source}(hs:OS L s):∃ g t,a3h s T=some (g,t)/\OS L t/\DG T g:=by
 obtain ⟨x,t1,e1,h1,x0,x1⟩:=Y5 hL hs (n:=2) (by omega) (by omega)
 obtain ⟨x,rfl⟩:=a92 x0
 obtain ⟨a,t2,e2,h2,la,ia⟩:=d3H hL hT h1 (x+1) (by omega)
 obtain ⟨y,t3,e3,h3,y0,y1⟩:=Y5 hL h2 (n:=3) (by omega) (by omega)
 obtain ⟨y,rfl⟩:=a92 y0
 obtain ⟨b,t4,e4,h4,lb,ib⟩:=d3Y hL hT h3 a y (by omega)
 obtain ⟨z,t5,e5,h5,z0,z1⟩:=Y5 hL h4 (n:=8) (by omega) (by omega)
 have sa:=c0I a
 have sb:=c0I b
 refine ⟨Api_Goal.mk (srt a) (srt b) (z==1),t5,?_,h5,?_,by show (srt a).length<=2; omega,by show (srt b).length<=2; omega,c0H a,c0H b⟩
 ·unfold a3h
  rw [e1]
  simp only [Option.bind_some]
  rw [show wr .i64 (1+(x:Int))=((x+1:Nat):Int) by rw [Z2,Q7 (by omega) (by omega)]; omega,e2]
  simp only [Option.bind_some]
  rw [e3]
  simp only [Option.bind_some]
  rw [e4]
  simp only [Option.bind_some]
  rw [e5]
  simp only [Option.bind_some]
  rw [c9u a b _ (by omega) (by omega)]
  rfl
 ·show gIn T.Nodes.length (Api_Goal.mk (srt a) (srt b) (z==1))=true
  unfold gIn
  simp only [b6H,ia,ib,Bool.and_self]
end
end Go.Pl
end
section
namespace Go.Pl
open Go Go.RowKit Go.Sx Go.Qx
end Go.Pl
end
section
namespace Go.Pl
open Go Go.RowKit Go.Sx Go.Qx
def d4m:List Api_TypeNode:=[b3G 16 [1,2],Api_TypeNode.mk 3 0 9 (⟨#[]⟩:ByteArray) ([]:List Int) ([]:List Api_Field) (0,0),b3G 9 []]
def b4U:Api_Type:=Api_Type.mk d4m 0
theorem b3H:GT b4U:=by
 refine ⟨by decide,fun i x hx=>?_⟩
 match i,hx with
 | 0,hx =>
   cases hx
   exact b04 (l:=[1,2]) (by decide) (by decide) (by decide) (fun _ x hx=>by
    simp only [List.mem_cons,List.not_mem_nil,or_false] at hx
    rcases hx with rfl | rfl<;>decide)
 | 1,hx =>
   cases hx
   exact d00 (by decide) (by decide)
 | 2,hx =>
   cases hx
   exact c0l (by decide)
 | i+3,hx=>simp [b4U,d4m] at hx
theorem d31 (n:Int):Z7 b4U (Val.mk 1 n (⟨#[]⟩:ByteArray) [] [] [] []) 0=(decide (0<=n)&&decide (n<=9)):=by
 have ho:=c4d n
 have hb:k7 (Val.mk 1 n (⟨#[]⟩:ByteArray) [] [] [] [])<=4194304:=by rw [V3]; simp [a2U,k8,w8,Z1]
 have e0:=b0l b3H (k:=0) (x:=b3G 16 [1,2]) rfl ho hb
 have e1:=b0l b3H (k:=1) (x:=Api_TypeNode.mk 3 0 9 (⟨#[]⟩:ByteArray) ([]:List Int) ([]:List Api_Field) (0,0)) rfl ho hb
 have e2:=b0l b3H (k:=2) (x:=b3G 9 []) rfl ho hb
 have e0':Z7 b4U (Val.mk 1 n (⟨#[]⟩:ByteArray) [] [] [] []) 0=_:=e0
 have e1':Z7 b4U (Val.mk 1 n (⟨#[]⟩:ByteArray) [] [] [] []) 1=_:=e1
 have e2':Z7 b4U (Val.mk 1 n (⟨#[]⟩:ByteArray) [] [] [] []) 2=_:=e2
 rw [e0']
 unfold unM
 simp [b3G,e1',e2']
 unfold unM
 simp [Val.Kind,Val.Int_]
 rfl
theorem c7V (n:Int)(h:i64 n):vOK (Val.mk 1 n (⟨#[]⟩:ByteArray) [] [] [] [])=true/\k7 (Val.mk 1 n (⟨#[]⟩:ByteArray) [] [] [] [])<=100/\IOK (Val.mk 1 n (⟨#[]⟩:ByteArray) [] [] [] []) :=
 ⟨c4d n,by rw [V3]; simp [a2U,k8,w8,Z1],fun _=>h⟩
theorem c90 (n:Int):gA b4U (Val.mk 1 n (⟨#[]⟩:ByteArray) [] [] [] []) (g0 [0] [])=(decide (0<=n)&&decide (n<=9)):=by
 unfold gA c2j gM
 simp [d31]
 intro _ _
 decide
theorem d0H:∃ c,∀ n,c<=n->a24 n=some true:=by
 have hr:inR b4U.Nodes.length b4U.Root=true:=by decide
 obtain ⟨c,out,hE,hL⟩:=c6f b3H (by decide) hr (g0 [0] []) (by decide) (by decide)
 refine ⟨max c 200000000,fun n hn=>?_⟩
 obtain ⟨ls,e1,hZ⟩:=hL n (by omega)
 obtain ⟨a1,a2,a3⟩:=c7V 3 ⟨by decide,by decide⟩
 obtain ⟨b1,b2,b3⟩:=c7V 10 ⟨by decide,by decide⟩
 have hc:=c5G b3H a1 (by omega) a3 (by decide) hE hZ
 rw [c90] at hc
 have hc':ls.any (a2E b4U (Val.mk 1 3 (⟨#[]⟩:ByteArray) [] [] [] []))=true:=hc
 have hpos:decide (0<(ls.length:Int))=true:=by
  cases ls with
  | nil=>cases hc'
  | cons x r=>simp
 have g3:=c21 b3H hr a1 (by omega) (g0 [0] []) (by decide) (by decide) n (by omega)
 have g10:=c21 b3H hr b1 (by omega) (g0 [0] []) (by decide) (by decide) n (by omega)
 rw [c90] at g3 g10
 have hN:a9w (Api_Goal.mk ([2,1,2]:List Int) ([]:List Int) false)=some (Api_Goal.mk (srt [2,1,2]) (srt []) false):=by
  unfold a9w
  rw [b96 [2,1,2] [] false (by decide) (by decide)]
  rfl
 unfold a24
 have e1':a7d n (Api_Type.mk ([Api_TypeNode.mk 16 0 0 (⟨#[]⟩:ByteArray) ([1,2]:List Int) ([]:List Api_Field) (0,0),Api_TypeNode.mk 3 0 9 (⟨#[]⟩:ByteArray) ([]:List Int) ([]:List Api_Field) (0,0),Api_TypeNode.mk 9 0 0 (⟨#[]⟩:ByteArray) ([]:List Int) ([]:List Api_Field) (0,0)]:List Api_TypeNode) 0) (Api_Goal.mk ([0]:List Int) ([]:List Int) false)=some ls:=e1
 rw [e1']
 simp only [Option.bind_some]
 rw [hpos]
 have v3:a16 3=some (Val.mk 1 3 (⟨#[]⟩:ByteArray) [] [] [] []):=rfl
 have v10:a16 10=some (Val.mk 1 10 (⟨#[]⟩:ByteArray) [] [] [] []):=rfl
 rw [v3,v10]
 simp only [cond_true,Option.bind_some,K1]
 have g3':a4Z n (Val.mk 1 3 (⟨#[]⟩:ByteArray) [] [] [] []) (Api_Type.mk ([Api_TypeNode.mk 16 0 0 (⟨#[]⟩:ByteArray) ([1,2]:List Int) ([]:List Api_Field) (0,0),Api_TypeNode.mk 3 0 9 (⟨#[]⟩:ByteArray) ([]:List Int) ([]:List Api_Field) (0,0),Api_TypeNode.mk 9 0 0 (⟨#[]⟩:ByteArray) ([]:List Int) ([]:List Api_Field) (0,0)]:List Api_TypeNode) 0) (Api_Goal.mk ([0]:List Int) ([]:List Int) false)=some true:=g3
 have g10':a4Z n (Val.mk 1 10 (⟨#[]⟩:ByteArray) [] [] [] []) (Api_Type.mk ([Api_TypeNode.mk 16 0 0 (⟨#[]⟩:ByteArray) ([1,2]:List Int) ([]:List Api_Field) (0,0),Api_TypeNode.mk 3 0 9 (⟨#[]⟩:ByteArray) ([]:List Int) ([]:List Api_Field) (0,0),Api_TypeNode.mk 9 0 0 (⟨#[]⟩:ByteArray) ([]:List Int) ([]:List Api_Field) (0,0)]:List Api_TypeNode) 0) (Api_Goal.mk ([0]:List Int) ([]:List Int) false)=some false:=g10
 rw [g3',g10',hN]
 rfl
end Go.Pl
end
section
namespace Go.Pl
open Go Go.RowKit Go.Sx Go.Qx
section
variable {T:Api_Type}
theorem d0U (K A k:Int)(l:List Int):(ofZ T K A k l).length<=l.length:=by unfold ofZ; exact List.length_filter_le _ _
theorem d18 (hT:GT T){L:Bool}{e:Api_Goal}(he:NG T L e){l:Api_Line}(h:Mk T e l):ShL l/\gIn T.Nodes.length (g0 l.Pos l.Neg)=true:=by
 obtain ⟨_,s,l0,hs,hZ,rfl⟩:=h
 obtain ⟨l1,l2⟩:=he.lens hT
 have v1:=b0A (T:=T) e.Pos
 have v2:=b0A (T:=T) e.Neg
 have o1:=d0U (T:=T) s.Kind s.Arity (skK s.Kind) e.Pos
 have o2:=d0U (T:=T) s.Kind s.Arity (skK s.Kind) e.Neg
 have hin:∀ l:List Int,l.all (a0w T)=true->(ofZ T s.Kind s.Arity (skK s.Kind) l).all (inR T.Nodes.length)=true:=fun l hl=>List.all_eq_true.2 fun x hx=>a83 (List.all_eq_true.1 hl x (List.mem_filter.1 hx).1)
 refine ⟨⟨?_,?_,?_,?_,?_,?_⟩,?_⟩
 ·show l0.Ints.length<=1000000
  by_cases h1:s.Kind=1
  ·have:=(hZ.ints1 h1).2.2.2; omega
  ·rw [hZ.ints0 h1]; simp
 ·show l0.Names.List_.length<=1000000
  by_cases h2:s.Kind=2\/s.Kind=3
  ·have:=(hZ.nam1 h2).2.2.2; omega
  ·rw [hZ.nam0 (by omega) (by omega)]; simp
 ·show l0.Pos.length<=1000000
  rw [hZ.pos]; omega
 ·show l0.Neg.length<=1000000
  rw [hZ.neg]; omega
 ·show (srS (W8 T e.Pos)).length<=1000000
  omega
 ·show (srS (W8 T e.Neg)).length<=1000000
  omega
 ·show gIn T.Nodes.length (g0 l0.Pos l0.Neg)=true
  unfold gIn
  simp only [hZ.pos,hZ.neg,hin _ he.pos,hin _ he.neg,Bool.and_self]
end
theorem c86 {T:Api_Type}{v:Val}(n:Nat)(ls:List Api_Line)(hl:ls.length<=4194304)(h1:∀ l∈ls,a3T n v T l=some (a2E T v l))(h2:∀ l∈ls,a7W n v T l=some (a2E T v l)) :
 iter (X5 n (T,v) ls) ((ls.length:Int).toNat+1) (false,0)=some (.inl (ls.any (a2E T v))):=by
 have key:=a2x (σ:=Bool) (step:=X5 n (T,v) ls) ls (fun b i=>(b,(i:Int))) (fun b l=>b||a2E T v l) (fun _ _=>True) (fun b=>.inl b)
  (fun i b l hx _=>by
    have hi:i<ls.length:=(List.getElem?_eq_some_iff.1 hx).1
    refine ⟨?_,trivial⟩
    unfold X5
    simp only
    rw [w9 hi,j6 hx,a4J i (by omega)]
    simp only [cond_true,Option.bind_some]
    rw [h1 l (List.mem_of_getElem? hx),h2 l (List.mem_of_getElem? hx)]
    simp only [Option.bind_some,bne_self_eq_false,cond_false]
    cases b<;>cases a2E T v l<;>rfl) (fun b _=>by
    unfold X5
    simp) false trivial _ (Nat.le_refl _)
 have e:iter (X5 n (T,v) ls) (ls.length+1) (false,0)=iter (X5 n (T,v) ls) (ls.length+1) (false,((0:Nat):Int)):=rfl
 have ef:∀ (l:List Api_Line) (b:Bool),l.foldl (fun b l=>b||a2E T v l) b=(b||l.any (a2E T v)):=by
  intro l
  induction l with
  | nil=>intro b; simp
  | cons x r ih=>intro b; rw [List.foldl_cons,ih]; simp [Bool.or_assoc]
 rw [Z5,e,key,ef]
 simp
theorem c4e (d t g:List Int)(h1:d.length<=4194304)(h2:t.length<=4194304)(h3:g.length<=4194304):∃ n,a1h n d t g=some true:=by
 obtain ⟨c,hc⟩:=d0H
 obtain ⟨T,hT,hv⟩:=d2d d h1
 obtain ⟨q,u,e2,_,hG⟩:=d2o (L:=g) h3 hT (os0 _)
 have g1:=hG.pos
 have g2:=hG.neg
 obtain ⟨c2,out,hE,hL⟩:=c6f hT.gt (by have:=hT.len; omega) hT.root q hG.ix (by omega)
 refine ⟨max (max c c2) 200000000,?_⟩
 have ha:=hc (max (max c c2) 200000000) (by omega)
 obtain ⟨ls,e3,hZ⟩:=hL (max (max c c2) 200000000) (by omega)
 generalize hn:max (max c c2) 200000000=n at ha e3
 have hn2:200000000<=n:=by omega
 unfold a1h
 rw [c7n _ (by simp),ha]
 simp only [Option.bind_some]
 generalize (List.all [d,t,g] fun x=>!decide (80<(x.length:Int)))=s
 cases s with
 | false=>rfl
 | true =>
   obtain ⟨v,e1,hV⟩:=hv t h2 n (by omega)
   have hb:=hV.bulk
   simp only [Bool.not_true,cond_false,Option.bind_some]
   rw [e1]
   simp only [Option.bind_some]
   rw [e2]
   simp only [Option.bind_some]
   rw [e3]
   simp only [Option.bind_some,K1]
   by_cases hlen:2000<(ls.length:Int)
   ·rw [decide_eq_true hlen]; rfl
   rw [decide_eq_false hlen]
   simp only [cond_false]
   have hsh:∀ l∈ls,ShL l/\gIn T.Nodes.length (g0 l.Pos l.Neg)=true:=fun l hl=>by
    obtain ⟨e,he,hM⟩:=hZ.src l hl
    exact d18 hT.gt (hE.ng e he) hM
   rw [c86 n ls (by omega) (fun l hl=>c8T hT.gt hT.root hV.ok (by omega) l (hsh l hl).1 (hsh l hl).2 n hn2) (fun l hl=>by
    rw [d0d hT.gt hT.root hV.ok (by omega) l (hsh l hl).1 n hn2,(hsh l hl).2]
    rfl)]
   simp only [Option.bind_some,onEnd]
   rw [c1q hT.gt hT.root hV.ok (by omega) q (by omega) (by omega) n hn2,c5G hT.gt hV.ok (by omega) hV.int hG.ix hE hZ]
   simp
theorem c1X (d t g:List Int):∃ n,a1h n d t g=some true:=by
 by_cases h:d.length<=80/\t.length<=80/\g.length<=80
 ·exact c4e d t g (by have:=h.1; omega) (by have:=h.2.1; omega) (by have:=h.2.2; omega)
 ·obtain ⟨c,hc⟩:=d0H
  refine ⟨c,?_⟩
  have ha:=hc c (Nat.le_refl _)
  have hs:(List.all [d,t,g] fun x:List Int=>!decide (80<(x.length:Int)))=false:=by
   rw [Bool.eq_false_iff]
   intro ha
   simp at ha
   omega
  unfold a1h
  rw [c7n _ (by simp),hs]
  simp only [Option.bind_some,Bool.not_false,cond_true,K1]
  exact ha
end Go.Pl
end
section
namespace Go.Proofs
open Go.Shelf
set_option maxRecDepth 100000
def Tryz.lay231_ren:Go.Shelf.Ren:=⟨fun | 6=>231 | 15=>140 | 14=>248 | 28=>194 | 29=>195 | 20=>262 | 21=>263 | 22=>264 | 23=>265 | 24=>266 | 25=>267 | 26=>268 | 27=>269 | 46=>272 | 47=>226 | 48=>227 | 49=>273 | 50=>274 | 57=>275 | n=>n,fun | 22=>49 | 24=>126 | 25=>237 | 3=>3 | 39=>165 | 0=>0 | 53=>204 | 55=>206 | 4=>4 | 46=>196 | 45=>195 | 50=>201 | 5=>5 | 9=>9 | 66=>230 | 70=>234 | 76=>245 | 77=>246 | n=>n,fun | n=>n⟩
theorem Tryz.lay231:Go.Proofs.SlLaysF0.n6 Tryz.prog Tryz.lay231_ren:={
 mixed:=by kernel_rfl
 f6:=⟨Tryz.f231.name,by decide,Tryz.func231.trans (congrArg some (by kernel_rfl))⟩
 f14:=⟨Tryz.f248.name,by decide,Tryz.func248.trans (congrArg some (by kernel_rfl))⟩
 f15:=Tryz.func140.trans (congrArg some (by kernel_rfl))
 f20:=⟨Tryz.f262.name,by decide,Tryz.func262.trans (congrArg some (by kernel_rfl))⟩
 f21:=⟨Tryz.f263.name,by decide,Tryz.func263.trans (congrArg some (by kernel_rfl))⟩
 f22:=⟨Tryz.f264.name,by decide,Tryz.func264.trans (congrArg some (by kernel_rfl))⟩
 f23:=⟨Tryz.f265.name,by decide,Tryz.func265.trans (congrArg some (by kernel_rfl))⟩
 f24:=⟨Tryz.f266.name,by decide,Tryz.func266.trans (congrArg some (by kernel_rfl))⟩
 f25:=⟨Tryz.f267.name,by decide,Tryz.func267.trans (congrArg some (by kernel_rfl))⟩
 f26:=⟨Tryz.f268.name,by decide,Tryz.func268.trans (congrArg some (by kernel_rfl))⟩
 f27:=⟨Tryz.f269.name,by decide,Tryz.func269.trans (congrArg some (by kernel_rfl))⟩
 f28:=Tryz.func194.trans (congrArg some (by kernel_rfl))
 f29:=Tryz.func195.trans (congrArg some (by kernel_rfl))
 f46:=⟨Tryz.f272.name,by decide,Tryz.func272.trans (congrArg some (by kernel_rfl))⟩
 f47:=Tryz.func226.trans (congrArg some (by kernel_rfl))
 f48:=Tryz.func227.trans (congrArg some (by kernel_rfl))
 f49:=⟨Tryz.f273.name,by decide,Tryz.func273.trans (congrArg some (by kernel_rfl))⟩
 f50:=⟨Tryz.f274.name,by decide,Tryz.func274.trans (congrArg some (by kernel_rfl))⟩
 f57:=⟨Tryz.f275.name,by decide,Tryz.func275.trans (congrArg some (by kernel_rfl))⟩
 t0:=Tryz.underlying0
 a0:=Tryz.isAgg0
 z0:=Tryz.sizeOf0
 v0:=Tryz.zeroValue0
 t3:=Tryz.underlying3
 a3:=Tryz.isAgg3
 z3:=Tryz.sizeOf3
 v3:=Tryz.zeroValue3
 t4:=Tryz.underlying4
 a4:=Tryz.isAgg4
 z4:=Tryz.sizeOf4
 v4:=Tryz.zeroValue4
 t5:=Tryz.underlying5
 a5:=Tryz.isAgg5
 z5:=Tryz.sizeOf5
 v5:=Tryz.zeroValue5
 t9:=Tryz.underlying9
 a9:=Tryz.isAgg9
 z9:=Tryz.sizeOf9
 v9:=Tryz.zeroValue9
 t22:=Tryz.underlying49
 a22:=Tryz.isAgg49
 z22:=Tryz.sizeOf49
 v22:=Tryz.zeroValue49
 t25:=Tryz.underlying237
 a25:=Tryz.isAgg237
 z25:=Tryz.sizeOf237
 v25:=Tryz.zeroValue237
 t39:=Tryz.underlying165
 a39:=Tryz.isAgg165
 z39:=Tryz.sizeOf165
 v39:=Tryz.zeroValue165
 t45:=Tryz.underlying195
 a45:=Tryz.isAgg195
 z45:=Tryz.sizeOf195
 v45:=Tryz.zeroValue195
 t46:=Tryz.underlying196
 a46:=Tryz.isAgg196
 z46:=Tryz.sizeOf196
 v46:=Tryz.zeroValue196
 t50:=Tryz.underlying201
 a50:=Tryz.isAgg201
 z50:=Tryz.sizeOf201
 v50:=Tryz.zeroValue201
 t53:=Tryz.underlying204
 a53:=Tryz.isAgg204
 z53:=Tryz.sizeOf204
 v53:=Tryz.zeroValue204
 t55:=Tryz.underlying206
 a55:=Tryz.isAgg206
 z55:=Tryz.sizeOf206
 v55:=Tryz.zeroValue206
 t66:=Tryz.underlying230
 a66:=Tryz.isAgg230
 z66:=Tryz.sizeOf230
 v66:=Tryz.zeroValue230
 t70:=Tryz.underlying234
 a70:=Tryz.isAgg234
 z70:=Tryz.sizeOf234
 v70:=Tryz.zeroValue234
 t76:=Tryz.underlying245
 a76:=Tryz.isAgg245
 z76:=Tryz.sizeOf245
 v76:=Tryz.zeroValue245
 t77:=Tryz.underlying246
 a77:=Tryz.isAgg246
 z77:=Tryz.sizeOf246
 v77:=Tryz.zeroValue246 }
def Tryz.lay137_ren:Go.Shelf.Ren:=⟨fun | 171=>137 | 243=>184 | 246=>224 | 283=>243 | 284=>244 | 285=>245 | 286=>246 | 129=>195 | 317=>258 | 318=>259 | 319=>260 | 320=>261 | 337=>270 | 338=>271 | n=>n,fun | 3=>3 | 9=>9 | 2=>2 | 4=>4 | 171=>241 | 0=>0 | 53=>206 | 37=>154 | 5=>5 | 173=>243 | 212=>256 | 51=>204 | 20=>20 | 213=>257 | 46=>165 | 232=>265 | 233=>266 | n=>n,fun | 17=>1 | 18=>2 | 19=>3 | n=>n⟩
theorem Tryz.lay137:Go.Proofs.Lays.n171 Tryz.prog Tryz.lay137_ren:={
 mixed:=by kernel_rfl
 f129:=Tryz.func195.trans (congrArg some (by kernel_rfl))
 f171:=Tryz.func137.trans (congrArg some (by kernel_rfl))
 f243:=Tryz.func184.trans (congrArg some (by kernel_rfl))
 f246:=Tryz.func224.trans (congrArg some (by kernel_rfl))
 f283:=Tryz.func243.trans (congrArg some (by kernel_rfl))
 f284:=Tryz.func244.trans (congrArg some (by kernel_rfl))
 f285:=Tryz.func245.trans (congrArg some (by kernel_rfl))
 f286:=Tryz.func246.trans (congrArg some (by kernel_rfl))
 f317:=Tryz.func258.trans (congrArg some (by kernel_rfl))
 f318:=Tryz.func259.trans (congrArg some (by kernel_rfl))
 f319:=Tryz.func260.trans (congrArg some (by kernel_rfl))
 f320:=Tryz.func261.trans (congrArg some (by kernel_rfl))
 f337:=Tryz.func270.trans (congrArg some (by kernel_rfl))
 f338:=Tryz.func271.trans (congrArg some (by kernel_rfl))
 t0:=Tryz.underlying0
 a0:=Tryz.isAgg0
 z0:=Tryz.sizeOf0
 v0:=Tryz.zeroValue0
 t2:=Tryz.underlying2
 a2:=Tryz.isAgg2
 z2:=Tryz.sizeOf2
 v2:=Tryz.zeroValue2
 t3:=Tryz.underlying3
 a3:=Tryz.isAgg3
 z3:=Tryz.sizeOf3
 v3:=Tryz.zeroValue3
 t4:=Tryz.underlying4
 a4:=Tryz.isAgg4
 z4:=Tryz.sizeOf4
 v4:=Tryz.zeroValue4
 t5:=Tryz.underlying5
 a5:=Tryz.isAgg5
 z5:=Tryz.sizeOf5
 v5:=Tryz.zeroValue5
 t9:=Tryz.underlying9
 a9:=Tryz.isAgg9
 z9:=Tryz.sizeOf9
 v9:=Tryz.zeroValue9
 t20:=Tryz.underlying20
 a20:=Tryz.isAgg20
 z20:=Tryz.sizeOf20
 v20:=Tryz.zeroValue20
 t37:=Tryz.underlying154
 a37:=Tryz.isAgg154
 z37:=Tryz.sizeOf154
 v37:=Tryz.zeroValue154
 t46:=Tryz.underlying165
 a46:=Tryz.isAgg165
 z46:=Tryz.sizeOf165
 v46:=Tryz.zeroValue165
 t51:=Tryz.underlying204
 a51:=Tryz.isAgg204
 z51:=Tryz.sizeOf204
 v51:=Tryz.zeroValue204
 t53:=Tryz.underlying206
 a53:=Tryz.isAgg206
 z53:=Tryz.sizeOf206
 v53:=Tryz.zeroValue206
 t171:=Tryz.underlying241
 a171:=Tryz.isAgg241
 z171:=Tryz.sizeOf241
 v171:=Tryz.zeroValue241
 t173:=Tryz.underlying243
 a173:=Tryz.isAgg243
 z173:=Tryz.sizeOf243
 v173:=Tryz.zeroValue243
 t212:=Tryz.underlying256
 a212:=Tryz.isAgg256
 z212:=Tryz.sizeOf256
 v212:=Tryz.zeroValue256
 t213:=Tryz.underlying257
 a213:=Tryz.isAgg257
 z213:=Tryz.sizeOf257
 t232:=Tryz.underlying265
 a232:=Tryz.isAgg265
 z232:=Tryz.sizeOf265
 v232:=Tryz.zeroValue265
 t233:=Tryz.underlying266
 a233:=Tryz.isAgg266
 z233:=Tryz.sizeOf266
 v233:=Tryz.zeroValue266
 g17:=by kernel_rfl
 g18:=by kernel_rfl
 g19:=by kernel_rfl }
def Tryz.lay114_ren:Go.Shelf.Ren:=⟨fun | 189=>114 | 125=>140 | 257=>164 | 128=>194 | 129=>195 | 294=>206 | 295=>207 | 296=>208 | 297=>209 | 298=>210 | 299=>211 | 216=>212 | 300=>213 | 301=>214 | 328=>235 | 329=>226 | 330=>227 | 331=>236 | 332=>237 | 215=>238 | 343=>251 | n=>n,fun | 28=>22 | 3=>3 | 46=>165 | 0=>0 | 51=>204 | 53=>206 | 4=>4 | 183=>196 | 182=>195 | 131=>201 | 5=>5 | 9=>9 | 218=>230 | 222=>234 | 228=>245 | 229=>246 | n=>n,fun | n=>n⟩
theorem Tryz.lay114:Go.Proofs.Lays.n189 Tryz.prog Tryz.lay114_ren:={
 mixed:=by kernel_rfl
 f125:=Tryz.func140.trans (congrArg some (by kernel_rfl))
 f128:=Tryz.func194.trans (congrArg some (by kernel_rfl))
 f129:=Tryz.func195.trans (congrArg some (by kernel_rfl))
 f189:=Tryz.func114.trans (congrArg some (by kernel_rfl))
 f215:=Tryz.func238.trans (congrArg some (by kernel_rfl))
 f216:=Tryz.func212.trans (congrArg some (by kernel_rfl))
 f257:=Tryz.func164.trans (congrArg some (by kernel_rfl))
 f294:=Tryz.func206.trans (congrArg some (by kernel_rfl))
 f295:=Tryz.func207.trans (congrArg some (by kernel_rfl))
 f296:=Tryz.func208.trans (congrArg some (by kernel_rfl))
 f297:=Tryz.func209.trans (congrArg some (by kernel_rfl))
 f298:=Tryz.func210.trans (congrArg some (by kernel_rfl))
 f299:=Tryz.func211.trans (congrArg some (by kernel_rfl))
 f300:=Tryz.func213.trans (congrArg some (by kernel_rfl))
 f301:=Tryz.func214.trans (congrArg some (by kernel_rfl))
 f328:=Tryz.func235.trans (congrArg some (by kernel_rfl))
 f329:=Tryz.func226.trans (congrArg some (by kernel_rfl))
 f330:=Tryz.func227.trans (congrArg some (by kernel_rfl))
 f331:=Tryz.func236.trans (congrArg some (by kernel_rfl))
 f332:=Tryz.func237.trans (congrArg some (by kernel_rfl))
 f343:=Tryz.func251.trans (congrArg some (by kernel_rfl))
 t0:=Tryz.underlying0
 a0:=Tryz.isAgg0
 z0:=Tryz.sizeOf0
 v0:=Tryz.zeroValue0
 t3:=Tryz.underlying3
 a3:=Tryz.isAgg3
 z3:=Tryz.sizeOf3
 v3:=Tryz.zeroValue3
 t4:=Tryz.underlying4
 a4:=Tryz.isAgg4
 z4:=Tryz.sizeOf4
 v4:=Tryz.zeroValue4
 t5:=Tryz.underlying5
 a5:=Tryz.isAgg5
 z5:=Tryz.sizeOf5
 v5:=Tryz.zeroValue5
 t9:=Tryz.underlying9
 a9:=Tryz.isAgg9
 z9:=Tryz.sizeOf9
 v9:=Tryz.zeroValue9
 t28:=Tryz.underlying22
 a28:=Tryz.isAgg22
 z28:=Tryz.sizeOf22
 v28:=Tryz.zeroValue22
 t46:=Tryz.underlying165
 a46:=Tryz.isAgg165
 z46:=Tryz.sizeOf165
 v46:=Tryz.zeroValue165
 t51:=Tryz.underlying204
 a51:=Tryz.isAgg204
 z51:=Tryz.sizeOf204
 v51:=Tryz.zeroValue204
 t53:=Tryz.underlying206
 a53:=Tryz.isAgg206
 z53:=Tryz.sizeOf206
 v53:=Tryz.zeroValue206
 t131:=Tryz.underlying201
 a131:=Tryz.isAgg201
 z131:=Tryz.sizeOf201
 v131:=Tryz.zeroValue201
 t182:=Tryz.underlying195
 a182:=Tryz.isAgg195
 z182:=Tryz.sizeOf195
 v182:=Tryz.zeroValue195
 t183:=Tryz.underlying196
 a183:=Tryz.isAgg196
 z183:=Tryz.sizeOf196
 v183:=Tryz.zeroValue196
 t218:=Tryz.underlying230
 a218:=Tryz.isAgg230
 z218:=Tryz.sizeOf230
 v218:=Tryz.zeroValue230
 t222:=Tryz.underlying234
 a222:=Tryz.isAgg234
 z222:=Tryz.sizeOf234
 v222:=Tryz.zeroValue234
 t228:=Tryz.underlying245
 a228:=Tryz.isAgg245
 z228:=Tryz.sizeOf245
 v228:=Tryz.zeroValue245
 t229:=Tryz.underlying246
 a229:=Tryz.isAgg246
 z229:=Tryz.sizeOf246
 v229:=Tryz.zeroValue246 }
def Tryz.lay76_ren:Go.Shelf.Ren:=⟨fun | 190=>76 | 125=>140 | 258=>139 | 128=>194 | 129=>195 | 302=>185 | 303=>186 | 304=>187 | 305=>188 | 306=>189 | 307=>190 | 308=>191 | 309=>192 | 310=>193 | 333=>225 | 329=>226 | 330=>227 | 334=>228 | 335=>229 | 336=>230 | 344=>247 | n=>n,fun | 31=>31 | 9=>9 | 3=>3 | 46=>165 | 0=>0 | 51=>204 | 53=>206 | 4=>4 | 183=>196 | 182=>195 | 131=>201 | 5=>5 | 218=>230 | 222=>234 | 228=>245 | 229=>246 | n=>n,fun | n=>n⟩
theorem Tryz.lay76:Go.Proofs.Lays.n190 Tryz.prog Tryz.lay76_ren:={
 mixed:=by kernel_rfl
 f125:=Tryz.func140.trans (congrArg some (by kernel_rfl))
 f128:=Tryz.func194.trans (congrArg some (by kernel_rfl))
 f129:=Tryz.func195.trans (congrArg some (by kernel_rfl))
 f190:=Tryz.func76.trans (congrArg some (by kernel_rfl))
 f258:=Tryz.func139.trans (congrArg some (by kernel_rfl))
 f302:=Tryz.func185.trans (congrArg some (by kernel_rfl))
 f303:=Tryz.func186.trans (congrArg some (by kernel_rfl))
 f304:=Tryz.func187.trans (congrArg some (by kernel_rfl))
 f305:=Tryz.func188.trans (congrArg some (by kernel_rfl))
 f306:=Tryz.func189.trans (congrArg some (by kernel_rfl))
 f307:=Tryz.func190.trans (congrArg some (by kernel_rfl))
 f308:=Tryz.func191.trans (congrArg some (by kernel_rfl))
 f309:=Tryz.func192.trans (congrArg some (by kernel_rfl))
 f310:=Tryz.func193.trans (congrArg some (by kernel_rfl))
 f329:=Tryz.func226.trans (congrArg some (by kernel_rfl))
 f330:=Tryz.func227.trans (congrArg some (by kernel_rfl))
 f333:=Tryz.func225.trans (congrArg some (by kernel_rfl))
 f334:=Tryz.func228.trans (congrArg some (by kernel_rfl))
 f335:=Tryz.func229.trans (congrArg some (by kernel_rfl))
 f336:=Tryz.func230.trans (congrArg some (by kernel_rfl))
 f344:=Tryz.func247.trans (congrArg some (by kernel_rfl))
 t0:=Tryz.underlying0
 a0:=Tryz.isAgg0
 z0:=Tryz.sizeOf0
 v0:=Tryz.zeroValue0
 t3:=Tryz.underlying3
 a3:=Tryz.isAgg3
 z3:=Tryz.sizeOf3
 v3:=Tryz.zeroValue3
 t4:=Tryz.underlying4
 a4:=Tryz.isAgg4
 z4:=Tryz.sizeOf4
 v4:=Tryz.zeroValue4
 t5:=Tryz.underlying5
 a5:=Tryz.isAgg5
 z5:=Tryz.sizeOf5
 v5:=Tryz.zeroValue5
 t9:=Tryz.underlying9
 a9:=Tryz.isAgg9
 z9:=Tryz.sizeOf9
 v9:=Tryz.zeroValue9
 t31:=Tryz.underlying31
 a31:=Tryz.isAgg31
 z31:=Tryz.sizeOf31
 v31:=Tryz.zeroValue31
 t46:=Tryz.underlying165
 a46:=Tryz.isAgg165
 z46:=Tryz.sizeOf165
 v46:=Tryz.zeroValue165
 t51:=Tryz.underlying204
 a51:=Tryz.isAgg204
 z51:=Tryz.sizeOf204
 v51:=Tryz.zeroValue204
 t53:=Tryz.underlying206
 a53:=Tryz.isAgg206
 z53:=Tryz.sizeOf206
 v53:=Tryz.zeroValue206
 t131:=Tryz.underlying201
 a131:=Tryz.isAgg201
 z131:=Tryz.sizeOf201
 v131:=Tryz.zeroValue201
 t182:=Tryz.underlying195
 a182:=Tryz.isAgg195
 z182:=Tryz.sizeOf195
 v182:=Tryz.zeroValue195
 t183:=Tryz.underlying196
 a183:=Tryz.isAgg196
 z183:=Tryz.sizeOf196
 v183:=Tryz.zeroValue196
 t218:=Tryz.underlying230
 a218:=Tryz.isAgg230
 z218:=Tryz.sizeOf230
 v218:=Tryz.zeroValue230
 t222:=Tryz.underlying234
 a222:=Tryz.isAgg234
 z222:=Tryz.sizeOf234
 v222:=Tryz.zeroValue234
 t228:=Tryz.underlying245
 a228:=Tryz.isAgg245
 z228:=Tryz.sizeOf245
 v228:=Tryz.zeroValue245
 t229:=Tryz.underlying246
 a229:=Tryz.isAgg246
 z229:=Tryz.sizeOf246
 v229:=Tryz.zeroValue246 }
end Go.Proofs
end
section
namespace Go.Qx
open Go Go.RowKit Go.Sx
set_option maxRecDepth 100000
abbrev c0a (v:Api_Field):Key×Int×Bool:=(v.Key_,v.Node,v.Optional)
abbrev c5V (x:Key×Int×Bool):Api_Field:=⟨x.1,x.2.1,x.2.2⟩
@[reducible] def a6q:Rp Api_Field:=a8N c0a (J6 (rpKey) (J6 (rpK .i64) (rpBool)))
abbrev b4N (v:Api_TypeNode):Int×Int×Int×ByteArray×(List Int)×(List Api_Field)×(Int×Int):=(v.Kind,v.Lo,v.Hi,v.Text,v.Kids,v.Fields,v.Rest)
abbrev c3a (x:Int×Int×Int×ByteArray×(List Int)×(List Api_Field)×(Int×Int)):Api_TypeNode:=⟨x.1,x.2.1,x.2.2.1,x.2.2.2.1,x.2.2.2.2.1,x.2.2.2.2.2.1,x.2.2.2.2.2.2⟩
@[reducible] def a33:Rp Api_TypeNode:=a8N b4N (J6 (rpK .i64) (J6 (rpK .i64) (J6 (rpK .i64) (J6 (rpStr) (J6 (@rpList _ (rpK .i64)) (J6 (@rpList _ (a6q)) (J6 (rpK .i64) (rpK .i64))))))))
abbrev c1s (v:Api_Type):(List Api_TypeNode)×Int:=(v.Nodes,v.Root)
abbrev c7q (x:(List Api_TypeNode)×Int):Api_Type:=⟨x.1,x.2⟩
@[reducible] def b5A:Rp Api_Type:=a8N c1s (J6 (@rpList _ (a33)) (rpK .i64))
abbrev c1m (v:Api_Goal):(List Int)×(List Int)×Bool:=(v.Pos,v.Neg,v.Lists)
abbrev c7B (x:(List Int)×(List Int)×Bool):Api_Goal:=⟨x.1,x.2.1,x.2.2⟩
@[reducible] def b5z:Rp Api_Goal:=a8N c1m (J6 (@rpList _ (rpK .i64)) (J6 (@rpList _ (rpK .i64)) (rpBool)))
abbrev a9j (v:Semtypebase_Source):(List Int)×Int:=(v.L,v.At)
abbrev b6k (x:(List Int)×Int):Semtypebase_Source:=⟨x.1,x.2⟩
@[reducible] def a6u:Rp Semtypebase_Source:=a8N a9j (J6 (@rpList _ (rpK .i64)) (rpK .i64))
abbrev b9p (v:Api_Names):Bool×(List ByteArray):=(v.Cofinite,v.List_)
abbrev c6i (x:Bool×(List ByteArray)):Api_Names:=⟨x.1,x.2⟩
@[reducible] def a4X:Rp Api_Names:=a8N b9p (J6 (rpBool) (@rpList _ (rpStr)))
abbrev b9h (v:Api_Range):Int×Int:=(v.Lo,v.Hi)
abbrev c6Q (x:Int×Int):Api_Range:=⟨x.1,x.2⟩
@[reducible] def a6v:Rp Api_Range:=a8N b9h (J6 (rpK .i64) (rpK .i64))
abbrev c1t (v:Api_Line):Int×Int×(List Api_Range)×Api_Names×(List Int)×(List Int)×(List ByteArray)×(List ByteArray):=(v.Kind,v.Arity,v.Ints,v.Names,v.Pos,v.Neg,v.Vars,v.NotVars)
abbrev c7J (x:Int×Int×(List Api_Range)×Api_Names×(List Int)×(List Int)×(List ByteArray)×(List ByteArray)):Api_Line:=⟨x.1,x.2.1,x.2.2.1,x.2.2.2.1,x.2.2.2.2.1,x.2.2.2.2.2.1,x.2.2.2.2.2.2.1,x.2.2.2.2.2.2.2⟩
@[reducible] def b5x:Rp Api_Line:=a8N c1t (J6 (rpK .i64) (J6 (rpK .i64) (J6 (@rpList _ (a6v)) (J6 (a4X) (J6 (@rpList _ (rpK .i64)) (J6 (@rpList _ (rpK .i64)) (J6 (@rpList _ (rpStr)) (@rpList _ (rpStr)))))))))
abbrev b9n (v:Core_Sort):Int×Int:=(v.Kind,v.Arity)
abbrev c6z (x:Int×Int):Core_Sort:=⟨x.1,x.2⟩
@[reducible] def b3K:Rp Core_Sort:=a8N b9n (J6 (rpK .i64) (rpK .i64))
abbrev b9r (v:Core_pair):(List Int)×(List Int)×(List Int)×(List Int):=(v.pos,v.neg,v.finalPos,v.finalNeg)
abbrev c5B (x:(List Int)×(List Int)×(List Int)×(List Int)):Core_pair:=⟨x.1,x.2.1,x.2.2.1,x.2.2.2⟩
@[reducible] def b3B:Rp Core_pair:=a8N b9r (J6 (@rpList _ (rpK .i64)) (J6 (@rpList _ (rpK .i64)) (J6 (@rpList _ (rpK .i64)) (@rpList _ (rpK .i64)))))
abbrev b8x (v:Value_used):Bool×Bool×Bool×Bool×Bool:=(v.number,v.text_,v.kids,v.keys,v.entries)
abbrev c4Z (x:Bool×Bool×Bool×Bool×Bool):Value_used:=⟨x.1,x.2.1,x.2.2.1,x.2.2.2.1,x.2.2.2.2⟩
@[reducible] def b1T:Rp Value_used:=a8N b8x (J6 (rpBool) (J6 (rpBool) (J6 (rpBool) (J6 (rpBool) (rpBool)))))
abbrev b1s (v:Literals_normal):Api_Names:=v.Names
abbrev b90 (x:Api_Names):Literals_normal:=⟨x⟩
@[reducible] def a7y:Rp Literals_normal:=a8N b1s (a4X)
def tyL:List TE:=[⟨2,Int,rpK .i64⟩,
 ⟨3,Int,rpK .i64⟩,
 ⟨4,Bool,rpBool⟩,
 ⟨9,ByteArray,rpStr⟩,
 ⟨22,List Int,@rpList _ (rpK .i64)⟩,
 ⟨25,List Api_TypeNode,@rpList _ (a33)⟩,
 ⟨27,Api_Type,b5A⟩,
 ⟨28,List Val,@rpList _ (rpVal)⟩,
 ⟨29,List Key,@rpList _ (rpKey)⟩,
 ⟨30,List Ent,@rpList _ (rpEnt)⟩,
 ⟨31,List ByteArray,@rpList _ (rpStr)⟩,
 ⟨33,Val,rpVal⟩,
 ⟨37,Api_Goal,b5z⟩,
 ⟨40,Semtypebase_Source,a6u⟩,
 ⟨49,List Api_Range,@rpList _ (a6v)⟩,
 ⟨51,Api_Names,a4X⟩,
 ⟨53,Api_Line,b5x⟩,
 ⟨62,List Api_Field,@rpList _ (a6q)⟩,
 ⟨63,Int×Int,J6 (rpK .i64) (rpK .i64)⟩,
 ⟨65,Api_TypeNode,a33⟩,
 ⟨82,Core_Sort,b3K⟩,
 ⟨97,Ent,rpEnt⟩,
 ⟨111,Core_pair,b3B⟩,
 ⟨126,Api_Range,a6v⟩,
 ⟨130,Key,rpKey⟩,
 ⟨148,Api_Field,a6q⟩,
 ⟨185,Value_used,b1T⟩,
 ⟨208,Literals_normal,a7y⟩]
abbrev I (E:TypeId):Type:=(c83 tyL E).α
instance rI (E:TypeId):Rp (I E):=(c83 tyL E).rp
def c7u:Fd I (I 27) inferInstance:=(a6L (rg:=b5A) (K6 (a2W 65:Fd I (List Api_TypeNode) (@rpList _ (a33))) ((a4z .i64:Fd I Int (rpK .i64)))) c1s c7q (fun _=>rfl) (fun _ _ _=>Iff.rfl):Fd I Api_Type b5A)
def d0y:Fd I (I 33) inferInstance:=(a6L (rg:=rpVal) (K6 (a4z .i64:Fd I Int (rpK .i64)) (K6 (a4z .i64:Fd I Int (rpK .i64)) (K6 (c5j:Fd I ByteArray (rpStr)) (K6 (a2W 33:Fd I (List Val) (@rpList _ (rpVal))) (K6 (a2W 130:Fd I (List Key) (@rpList _ (rpKey))) (K6 (a2W 97:Fd I (List Ent) (@rpList _ (rpEnt))) ((a2W 9:Fd I (List ByteArray) (@rpList _ (rpStr)))))))))) Val.to Val.of (fun _=>rfl) Val.cells_to:Fd I Val rpVal)
def c7C:Fd I (I 37) inferInstance:=(a6L (rg:=b5z) (K6 (a2W 3:Fd I (List Int) (@rpList _ (rpK .i64))) (K6 (a2W 3:Fd I (List Int) (@rpList _ (rpK .i64))) ((a8I:Fd I Bool (rpBool))))) c1m c7B (fun _=>rfl) (fun _ _ _=>Iff.rfl):Fd I Api_Goal b5z)
def b6Y:Fd I (I 40) inferInstance:=(a6L (rg:=a6u) (K6 (a2W 3:Fd I (List Int) (@rpList _ (rpK .i64))) ((a4z .i64:Fd I Int (rpK .i64)))) a9j b6k (fun _=>rfl) (fun _ _ _=>Iff.rfl):Fd I Semtypebase_Source a6u)
def b3T:Fd I (I 51) inferInstance:=(a6L (rg:=a4X) (K6 (a8I:Fd I Bool (rpBool)) ((a2W 9:Fd I (List ByteArray) (@rpList _ (rpStr))))) b9p c6i (fun _=>rfl) (fun _ _ _=>Iff.rfl):Fd I Api_Names a4X)
def c7F:Fd I (I 53) inferInstance:=(a6L (rg:=b5x) (K6 (a4z .i64:Fd I Int (rpK .i64)) (K6 (a4z .i64:Fd I Int (rpK .i64)) (K6 (a2W 126:Fd I (List Api_Range) (@rpList _ (a6v))) (K6 (c3k 51 b3T:Fd I Api_Names (a4X)) (K6 (a2W 3:Fd I (List Int) (@rpList _ (rpK .i64))) (K6 (a2W 3:Fd I (List Int) (@rpList _ (rpK .i64))) (K6 (a2W 9:Fd I (List ByteArray) (@rpList _ (rpStr))) ((a2W 9:Fd I (List ByteArray) (@rpList _ (rpStr))))))))))) c1t c7J (fun _=>rfl) (fun _ _ _=>Iff.rfl):Fd I Api_Line b5x)
def c9T:Fd I (I 63) inferInstance:=(K6 (a4z .i64:Fd I Int (rpK .i64)) ((a4z .i64:Fd I Int (rpK .i64))):Fd I (Int×Int) (J6 (rpK .i64) (rpK .i64)))
def c2L:Fd I (I 65) inferInstance:=(a6L (rg:=a33) (K6 (a4z .i64:Fd I Int (rpK .i64)) (K6 (a4z .i64:Fd I Int (rpK .i64)) (K6 (a4z .i64:Fd I Int (rpK .i64)) (K6 (c5j:Fd I ByteArray (rpStr)) (K6 (a2W 3:Fd I (List Int) (@rpList _ (rpK .i64))) (K6 (a2W 148:Fd I (List Api_Field) (@rpList _ (a6q))) ((c3k 63 c9T:Fd I (Int×Int) (J6 (rpK .i64) (rpK .i64)))))))))) b4N c3a (fun _=>rfl) (fun _ _ _=>Iff.rfl):Fd I Api_TypeNode a33)
def c5U:Fd I (I 82) inferInstance:=(a6L (rg:=b3K) (K6 (a4z .i64:Fd I Int (rpK .i64)) ((a4z .i64:Fd I Int (rpK .i64)))) b9n c6z (fun _=>rfl) (fun _ _ _=>Iff.rfl):Fd I Core_Sort b3K)
def d4R:Fd I (I 97) inferInstance:=(a6L (rg:=rpEnt) (K6 (a2W 33:Fd I (List Val) (@rpList _ (rpVal))) (K6 (a8I:Fd I Bool (rpBool)) ((c3k 33 d0y:Fd I Val (rpVal))))) Ent.to Ent.of (fun _=>rfl) Ent.cells_to:Fd I Ent rpEnt)
def c52:Fd I (I 111) inferInstance:=(a6L (rg:=b3B) (K6 (a2W 3:Fd I (List Int) (@rpList _ (rpK .i64))) (K6 (a2W 3:Fd I (List Int) (@rpList _ (rpK .i64))) (K6 (a2W 3:Fd I (List Int) (@rpList _ (rpK .i64))) ((a2W 3:Fd I (List Int) (@rpList _ (rpK .i64))))))) b9r c5B (fun _=>rfl) (fun _ _ _=>Iff.rfl):Fd I Core_pair b3B)
def c6y:Fd I (I 126) inferInstance:=(a6L (rg:=a6v) (K6 (a4z .i64:Fd I Int (rpK .i64)) ((a4z .i64:Fd I Int (rpK .i64)))) b9h c6Q (fun _=>rfl) (fun _ _ _=>Iff.rfl):Fd I Api_Range a6v)
def c94:Fd I (I 130) inferInstance:=(a6L (rg:=rpKey) (K6 (a4z .i64:Fd I Int (rpK .i64)) ((c5j:Fd I ByteArray (rpStr)))) Key.to Key.of (fun _=>rfl) Key.cells_to:Fd I Key rpKey)
def c7f:Fd I (I 148) inferInstance:=(a6L (rg:=a6q) (K6 (c3k 130 c94:Fd I Key (rpKey)) (K6 (a4z .i64:Fd I Int (rpK .i64)) ((a8I:Fd I Bool (rpBool))))) c0a c5V (fun _=>rfl) (fun _ _ _=>Iff.rfl):Fd I Api_Field a6q)
def c4S:Fd I (I 185) inferInstance:=(a6L (rg:=b1T) (K6 (a8I:Fd I Bool (rpBool)) (K6 (a8I:Fd I Bool (rpBool)) (K6 (a8I:Fd I Bool (rpBool)) (K6 (a8I:Fd I Bool (rpBool)) ((a8I:Fd I Bool (rpBool))))))) b8x c4Z (fun _=>rfl) (fun _ _ _=>Iff.rfl):Fd I Value_used b1T)
def b9S:Fd I (I 208) inferInstance:=(a6L (rg:=a7y) ((c3k 51 b3T:Fd I Api_Names (a4X))) b1s b90 (fun _=>rfl) (fun _ _ _=>Iff.rfl):Fd I Literals_normal a7y)
def feL:List (FE I):=[⟨2,a4z .i64⟩,
 ⟨3,a4z .i64⟩,
 ⟨4,a8I⟩,
 ⟨9,c5j⟩,
 ⟨22,a2W 3⟩,
 ⟨25,a2W 65⟩,
 ⟨27,c7u⟩,
 ⟨28,a2W 33⟩,
 ⟨29,a2W 130⟩,
 ⟨30,a2W 97⟩,
 ⟨31,a2W 9⟩,
 ⟨33,d0y⟩,
 ⟨37,c7C⟩,
 ⟨40,b6Y⟩,
 ⟨49,a2W 126⟩,
 ⟨51,b3T⟩,
 ⟨53,c7F⟩,
 ⟨62,a2W 148⟩,
 ⟨63,c9T⟩,
 ⟨65,c2L⟩,
 ⟨82,c5U⟩,
 ⟨97,d4R⟩,
 ⟨111,c52⟩,
 ⟨126,c6y⟩,
 ⟨130,c94⟩,
 ⟨148,c7f⟩,
 ⟨185,c4S⟩,
 ⟨208,b9S⟩]
def d5e:TabL I where
 sz:=[(27,2),(33,7),(37,3),(51,2),(53,9),(63,2),(65,8),(82,2),(97,9),(111,4),(126,2),(130,2),(148,4),(185,5),(208,2)]
 one:=[(2,()),(3,()),(4,()),(9,()),(22,()),(25,()),(28,()),(29,()),(30,()),(31,()),(49,()),(62,()),(106,())]
 fld:=[(27,[(0,25),(1,3)]),(33,[(0,3),(1,2),(2,9),(3,28),(4,29),(5,30),(6,31)]),(37,[(0,22),(1,22),(2,4)]),(40,[(0,22),(1,3)]),(51,[(0,4),(1,31)]),(53,[(0,3),(1,3),(2,49),(3,51),(5,22),(6,22),(7,31),(8,31)]),(65,[(0,3),(1,2),(2,2),(3,9),(4,22),(5,62),(6,63)]),(82,[(0,3),(1,3)]),(97,[(0,28),(1,4),(2,33)]),(111,[(0,22),(1,22),(2,22),(3,22)]),(126,[(0,2),(1,2)]),(130,[(0,3),(1,9)]),(148,[(0,130),(2,3),(3,4)]),(185,[(0,4),(1,4),(2,4),(3,4),(4,4)]),(208,[(0,51)])]
 el:=[(22,3),(25,65),(28,33),(29,130),(30,97),(31,9),(46,53),(49,126),(61,22),(62,148),(75,37),(79,82),(108,4),(112,111),(134,2)]
 str:=[(9,())]
 bool:=[(4,())]
 ik:=[(3,.i64),(165,.u64)]
 fe:=feL
 inf:=[(2,1,8,[.int .i64 0]),(3,1,8,[.int .i64 0]),(4,1,1,[.bool false]),(9,1,16,[.str ⟨#[]⟩]),(22,1,24,[.nl 3]),(25,1,24,[.nl 65]),(27,2,32,[.nl 65,.int .i64 0]),(28,1,24,[.nl 33]),(29,1,24,[.nl 130]),(31,1,24,[.nl 9]),(33,7,128,[.int .i64 0,.int .i64 0,.str ⟨#[]⟩,.nl 33,.nl 130,.nl 97,.nl 9]),(37,3,56,[.nl 3,.nl 3,.bool false]),(40,2,32,[.nl 3,.int .i64 0]),(49,1,24,[.nl 126]),(51,2,32,[.bool false,.nl 9]),(53,9,168,[.int .i64 0,.int .i64 0,.nl 126,.bool false,.nl 9,.nl 3,.nl 3,.nl 9,.nl 9]),(62,1,24,[.nl 148]),(63,2,16,[.int .i64 0,.int .i64 0]),(65,8,104,[.int .i64 0,.int .i64 0,.int .i64 0,.str ⟨#[]⟩,.nl 3,.nl 148,.int .i64 0,.int .i64 0]),(82,2,16,[.int .i64 0,.int .i64 0]),(97,9,160,[.nl 33,.bool false,.int .i64 0,.int .i64 0,.str ⟨#[]⟩,.nl 33,.nl 130,.nl 97,.nl 9]),(106,1,8,[.any]),(111,4,96,[.nl 3,.nl 3,.nl 3,.nl 3]),(126,2,16,[.int .i64 0,.int .i64 0]),(130,2,24,[.int .i64 0,.str ⟨#[]⟩]),(148,4,40,[.int .i64 0,.str ⟨#[]⟩,.int .i64 0,.bool false]),(185,5,5,[.bool false,.bool false,.bool false,.bool false,.bool false]),(208,2,32,[.bool false,.nl 9])]
 st:=[(27,[(0,1),(1,1)]),(33,[(0,1),(1,1),(2,1),(3,1),(4,1),(5,1),(6,1)]),(37,[(0,1),(1,1),(2,1)]),(40,[(0,1),(1,1)]),(51,[(0,1),(1,1)]),(53,[(0,1),(1,1),(2,1),(3,2),(5,1),(6,1),(7,1),(8,1)]),(63,[(0,1),(1,1)]),(65,[(0,1),(1,1),(2,1),(3,1),(4,1),(5,1),(6,2)]),(82,[(0,1),(1,1)]),(111,[(0,1),(1,1),(2,1),(3,1)]),(126,[(0,1),(1,1)]),(130,[(0,1),(1,1)]),(148,[(0,2),(2,1),(3,1)]),(185,[(0,1),(1,1),(2,1),(3,1),(4,1)]),(208,[(0,2)])]
 eq:=[(63,c7l feL 63 b3l),(130,c7l feL 130 a6y)]
 arr:=[(63,3,2,1)]
 mp:=[(113,.bool)]
 fb:=[(66,()),(68,()),(79,()),(82,()),(129,()),(130,()),(143,()),(151,()),(171,()),(172,()),(174,()),(175,()),(177,()),(216,()),(219,()),(232,()),(241,())]
abbrev tb:Tab I:=d2D d5e
theorem ti2:J9 Go.Proofs.Tryz.prog 2 (.int .i64 0) 1 8:=J3 (by kernel_rfl)
theorem ti3:J9 Go.Proofs.Tryz.prog 3 (.int .i64 0) 1 8:=J3 (by kernel_rfl)
theorem ti4:J9 Go.Proofs.Tryz.prog 4 (.bool false) 1 1:=J3 (by kernel_rfl)
theorem ti9:J9 Go.Proofs.Tryz.prog 9 (.string ⟨#[]⟩) 1 16:=J3 (by kernel_rfl)
theorem d4U:J9 Go.Proofs.Tryz.prog 22 (.slice none 0 0) 1 24:=J3 (by kernel_rfl)
theorem d6g:J9 Go.Proofs.Tryz.prog 25 (.slice none 0 0) 1 24:=J3 (by kernel_rfl)
theorem d57:J9 Go.Proofs.Tryz.prog 27 (.agg #[.slice none 0 0,.int .i64 0]) 2 32:=J3 (by kernel_rfl)
theorem d5X:J9 Go.Proofs.Tryz.prog 28 (.slice none 0 0) 1 24:=J3 (by kernel_rfl)
theorem d6c:J9 Go.Proofs.Tryz.prog 29 (.slice none 0 0) 1 24:=J3 (by kernel_rfl)
theorem d52:J9 Go.Proofs.Tryz.prog 31 (.slice none 0 0) 1 24:=J3 (by kernel_rfl)
theorem d4y:J9 Go.Proofs.Tryz.prog 33 (.agg #[.int .i64 0,.int .i64 0,.string ⟨#[]⟩,.slice none 0 0,.slice none 0 0,.slice none 0 0,.slice none 0 0]) 7 128:=J3 (by kernel_rfl)
theorem d47:J9 Go.Proofs.Tryz.prog 37 (.agg #[.slice none 0 0,.slice none 0 0,.bool false]) 3 56:=J3 (by kernel_rfl)
theorem d6n:J9 Go.Proofs.Tryz.prog 40 (.agg #[.slice none 0 0,.int .i64 0]) 2 32:=J3 (by kernel_rfl)
theorem d5Z:J9 Go.Proofs.Tryz.prog 49 (.slice none 0 0) 1 24:=J3 (by kernel_rfl)
theorem d51:J9 Go.Proofs.Tryz.prog 51 (.agg #[.bool false,.slice none 0 0]) 2 32:=J3 (by kernel_rfl)
theorem d46:J9 Go.Proofs.Tryz.prog 53 (.agg #[.int .i64 0,.int .i64 0,.slice none 0 0,.bool false,.slice none 0 0,.slice none 0 0,.slice none 0 0,.slice none 0 0,.slice none 0 0]) 9 168:=J3 (by kernel_rfl)
theorem d5V:J9 Go.Proofs.Tryz.prog 62 (.slice none 0 0) 1 24:=J3 (by kernel_rfl)
theorem d6f:J9 Go.Proofs.Tryz.prog 63 (.agg #[.int .i64 0,.int .i64 0]) 2 16:=J3 (by kernel_rfl)
theorem d38:J9 Go.Proofs.Tryz.prog 65 (.agg #[.int .i64 0,.int .i64 0,.int .i64 0,.string ⟨#[]⟩,.slice none 0 0,.slice none 0 0,.int .i64 0,.int .i64 0]) 8 104:=J3 (by kernel_rfl)
theorem d5c:J9 Go.Proofs.Tryz.prog 82 (.agg #[.int .i64 0,.int .i64 0]) 2 16:=J3 (by kernel_rfl)
theorem d4A:J9 Go.Proofs.Tryz.prog 97 (.agg #[.slice none 0 0,.bool false,.int .i64 0,.int .i64 0,.string ⟨#[]⟩,.slice none 0 0,.slice none 0 0,.slice none 0 0,.slice none 0 0]) 9 160:=J3 (by kernel_rfl)
theorem d5s:J9 Go.Proofs.Tryz.prog 106 (.nilFunc) 1 8:=J3 (by kernel_rfl)
theorem d20:J9 Go.Proofs.Tryz.prog 111 (.agg #[.slice none 0 0,.slice none 0 0,.slice none 0 0,.slice none 0 0]) 4 96:=J3 (by kernel_rfl)
theorem d2O:J9 Go.Proofs.Tryz.prog 126 (.agg #[.int .i64 0,.int .i64 0]) 2 16:=J3 (by kernel_rfl)
theorem d2J:J9 Go.Proofs.Tryz.prog 130 (.agg #[.int .i64 0,.string ⟨#[]⟩]) 2 24:=J3 (by kernel_rfl)
theorem d24:J9 Go.Proofs.Tryz.prog 148 (.agg #[.int .i64 0,.string ⟨#[]⟩,.int .i64 0,.bool false]) 4 40:=J3 (by kernel_rfl)
theorem d5A:J9 Go.Proofs.Tryz.prog 185 (.agg #[.bool false,.bool false,.bool false,.bool false,.bool false]) 5 5:=J3 (by kernel_rfl)
theorem d5P:J9 Go.Proofs.Tryz.prog 208 (.agg #[.bool false,.slice none 0 0]) 2 32:=J3 (by kernel_rfl)
theorem to2:a2Y Go.Proofs.Tryz.prog 2:=⟨_,Go.Proofs.Tryz.underlying2,rfl,by kernel_rfl⟩
theorem to3:a2Y Go.Proofs.Tryz.prog 3:=⟨_,Go.Proofs.Tryz.underlying3,rfl,by kernel_rfl⟩
theorem to4:a2Y Go.Proofs.Tryz.prog 4:=⟨_,Go.Proofs.Tryz.underlying4,rfl,by kernel_rfl⟩
theorem to9:a2Y Go.Proofs.Tryz.prog 9:=⟨_,Go.Proofs.Tryz.underlying9,rfl,by kernel_rfl⟩
theorem d50:a2Y Go.Proofs.Tryz.prog 22:=⟨_,Go.Proofs.Tryz.underlying22,rfl,by kernel_rfl⟩
theorem d53:a2Y Go.Proofs.Tryz.prog 25:=⟨_,Go.Proofs.Tryz.underlying25,rfl,by kernel_rfl⟩
theorem d6e:a2Y Go.Proofs.Tryz.prog 28:=⟨_,Go.Proofs.Tryz.underlying28,rfl,by kernel_rfl⟩
theorem d6a:a2Y Go.Proofs.Tryz.prog 29:=⟨_,Go.Proofs.Tryz.underlying29,rfl,by kernel_rfl⟩
theorem d5Y:a2Y Go.Proofs.Tryz.prog 30:=⟨_,Go.Proofs.Tryz.underlying30,rfl,by kernel_rfl⟩
theorem d6o:a2Y Go.Proofs.Tryz.prog 31:=⟨_,Go.Proofs.Tryz.underlying31,rfl,by kernel_rfl⟩
theorem d54:a2Y Go.Proofs.Tryz.prog 49:=⟨_,Go.Proofs.Tryz.underlying49,rfl,by kernel_rfl⟩
theorem d5W:a2Y Go.Proofs.Tryz.prog 62:=⟨_,Go.Proofs.Tryz.underlying62,rfl,by kernel_rfl⟩
theorem d5N:a2Y Go.Proofs.Tryz.prog 106:=⟨_,Go.Proofs.Tryz.underlying106,rfl,by kernel_rfl⟩
theorem d6i {σ:S}{x y:Int×Int}{cs ds:List Value}(h:(rI 63).cells σ x cs)(k:(rI 63).cells σ y ds):Sx.EqAt Go.Proofs.Tryz.prog 2 63 (.agg cs.toArray) (.agg ds.toArray) (b3l x y):=by
 obtain ⟨_,_,rfl,rfl,rfl⟩:=h
 obtain ⟨_,_,rfl,rfl,rfl⟩:=k
 exact d1d Go.Proofs.Tryz.underlying63 ti3 (c4m (a6E to3 rfl) (a6E to3 rfl) (c17 Go.Proofs.Tryz.underlying3) (c4m (a6E to3 rfl) (a6E to3 rfl) (c17 Go.Proofs.Tryz.underlying3) d1h))
theorem d5O {σ:S}{x y:Key}{cs ds:List Value}(h:(rI 130).cells σ x cs)(k:(rI 130).cells σ y ds):Sx.EqAt Go.Proofs.Tryz.prog 2 130 (.agg cs.toArray) (.agg ds.toArray) (a6y x y):=by
 obtain ⟨_,_,rfl,rfl,rfl⟩:=h
 obtain ⟨_,_,rfl,rfl,rfl⟩:=k
 exact c7t Go.Proofs.Tryz.underlying130 (by kernel_rfl) (c4k (by decide) (a6E to3 rfl) (a6E to3 rfl) (c17 Go.Proofs.Tryz.underlying3) (c4k (by decide) (a6E to9 rfl) (a6E to9 rfl) (d1s Go.Proofs.Tryz.underlying9) d1N))
theorem eqT (T:TypeId)(g:I T->I T->Bool){K:Nat}(h:∀ {σ:S} {x y:I T} {cs ds:List Value},Rp.cells σ x cs->Rp.cells σ y ds->Sx.EqAt Go.Proofs.Tryz.prog K T (.agg cs.toArray) (.agg ds.toArray) (g x y))(hg:Go.Proofs.Tryz.prog.eqGuardType (Go.Proofs.Tryz.prog).depth T=false)(hK:Nat.ble K 10000=true)
 {X:Cxt} {c:Cx} {σ:S} {ls ms:List (PV I)} {r:Bool} {cs ds:List Value} (h1:c7l feL T g ls ms=some r) (h2:RG X c σ ls cs) (h3:RG X c σ ms ds) :
 Go.Proofs.Tryz.prog.eqGuardType (Go.Proofs.Tryz.prog).depth T=false/\∃ j,Nat.ble j 10000=true/\Sx.EqAt Go.Proofs.Tryz.prog j T (.agg cs.toArray) (.agg ds.toArray) r:=by
 obtain ⟨x,y,k1,k2,rfl⟩:=d3A h1 h2 h3
 exact ⟨hg,K,hK,h k1 k2⟩
theorem d4j:TabLOk Go.Proofs.Tryz.prog d5e where
 sz:=⟨⟨_,Go.Proofs.Tryz.underlying27,rfl,by kernel_rfl⟩,⟨⟨_,Go.Proofs.Tryz.underlying33,rfl,by kernel_rfl⟩,⟨⟨_,Go.Proofs.Tryz.underlying37,rfl,by kernel_rfl⟩,⟨⟨_,Go.Proofs.Tryz.underlying51,rfl,by kernel_rfl⟩,⟨⟨_,Go.Proofs.Tryz.underlying53,rfl,by kernel_rfl⟩,⟨⟨_,Go.Proofs.Tryz.underlying63,rfl,by kernel_rfl⟩,⟨⟨_,Go.Proofs.Tryz.underlying65,rfl,by kernel_rfl⟩,⟨⟨_,Go.Proofs.Tryz.underlying82,rfl,by kernel_rfl⟩,⟨⟨_,Go.Proofs.Tryz.underlying97,rfl,by kernel_rfl⟩,⟨⟨_,Go.Proofs.Tryz.underlying111,rfl,by kernel_rfl⟩,⟨⟨_,Go.Proofs.Tryz.underlying126,rfl,by kernel_rfl⟩,⟨⟨_,Go.Proofs.Tryz.underlying130,rfl,by kernel_rfl⟩,⟨⟨_,Go.Proofs.Tryz.underlying148,rfl,by kernel_rfl⟩,⟨⟨_,Go.Proofs.Tryz.underlying185,rfl,by kernel_rfl⟩,⟨⟨_,Go.Proofs.Tryz.underlying208,rfl,by kernel_rfl⟩,trivial⟩⟩⟩⟩⟩⟩⟩⟩⟩⟩⟩⟩⟩⟩⟩
 one:=⟨to2,⟨to3,⟨to4,⟨to9,⟨d50,⟨d53,⟨d6e,⟨d6a,⟨d5Y,⟨d6o,⟨d54,⟨d5W,⟨d5N,trivial⟩⟩⟩⟩⟩⟩⟩⟩⟩⟩⟩⟩⟩
 fld:=⟨⟨⟨_,_,Go.Proofs.Tryz.underlying27,rfl,rfl,by kernel_rfl⟩,⟨⟨_,_,Go.Proofs.Tryz.underlying27,rfl,rfl⟩,⟨⟨_,_,Go.Proofs.Tryz.underlying27,rfl,rfl,by kernel_rfl⟩,⟨⟨_,_,Go.Proofs.Tryz.underlying27,rfl,rfl⟩,trivial⟩⟩⟩⟩,⟨⟨⟨_,_,Go.Proofs.Tryz.underlying33,rfl,rfl,by kernel_rfl⟩,⟨⟨_,_,Go.Proofs.Tryz.underlying33,rfl,rfl⟩,⟨⟨_,_,Go.Proofs.Tryz.underlying33,rfl,rfl,by kernel_rfl⟩,⟨⟨_,_,Go.Proofs.Tryz.underlying33,rfl,rfl⟩,⟨⟨_,_,Go.Proofs.Tryz.underlying33,rfl,rfl,by kernel_rfl⟩,⟨⟨_,_,Go.Proofs.Tryz.underlying33,rfl,rfl⟩,⟨⟨_,_,Go.Proofs.Tryz.underlying33,rfl,rfl,by kernel_rfl⟩,⟨⟨_,_,Go.Proofs.Tryz.underlying33,rfl,rfl⟩,⟨⟨_,_,Go.Proofs.Tryz.underlying33,rfl,rfl,by kernel_rfl⟩,⟨⟨_,_,Go.Proofs.Tryz.underlying33,rfl,rfl⟩,⟨⟨_,_,Go.Proofs.Tryz.underlying33,rfl,rfl,by kernel_rfl⟩,⟨⟨_,_,Go.Proofs.Tryz.underlying33,rfl,rfl⟩,⟨⟨_,_,Go.Proofs.Tryz.underlying33,rfl,rfl,by kernel_rfl⟩,⟨⟨_,_,Go.Proofs.Tryz.underlying33,rfl,rfl⟩,trivial⟩⟩⟩⟩⟩⟩⟩⟩⟩⟩⟩⟩⟩⟩,⟨⟨⟨_,_,Go.Proofs.Tryz.underlying37,rfl,rfl,by kernel_rfl⟩,⟨⟨_,_,Go.Proofs.Tryz.underlying37,rfl,rfl⟩,⟨⟨_,_,Go.Proofs.Tryz.underlying37,rfl,rfl,by kernel_rfl⟩,⟨⟨_,_,Go.Proofs.Tryz.underlying37,rfl,rfl⟩,⟨⟨_,_,Go.Proofs.Tryz.underlying37,rfl,rfl,by kernel_rfl⟩,⟨⟨_,_,Go.Proofs.Tryz.underlying37,rfl,rfl⟩,trivial⟩⟩⟩⟩⟩⟩,⟨⟨⟨_,_,Go.Proofs.Tryz.underlying40,rfl,rfl,by kernel_rfl⟩,⟨⟨_,_,Go.Proofs.Tryz.underlying40,rfl,rfl⟩,⟨⟨_,_,Go.Proofs.Tryz.underlying40,rfl,rfl,by kernel_rfl⟩,⟨⟨_,_,Go.Proofs.Tryz.underlying40,rfl,rfl⟩,trivial⟩⟩⟩⟩,⟨⟨⟨_,_,Go.Proofs.Tryz.underlying51,rfl,rfl,by kernel_rfl⟩,⟨⟨_,_,Go.Proofs.Tryz.underlying51,rfl,rfl⟩,⟨⟨_,_,Go.Proofs.Tryz.underlying51,rfl,rfl,by kernel_rfl⟩,⟨⟨_,_,Go.Proofs.Tryz.underlying51,rfl,rfl⟩,trivial⟩⟩⟩⟩,⟨⟨⟨_,_,Go.Proofs.Tryz.underlying53,rfl,rfl,by kernel_rfl⟩,⟨⟨_,_,Go.Proofs.Tryz.underlying53,rfl,rfl⟩,⟨⟨_,_,Go.Proofs.Tryz.underlying53,rfl,rfl,by kernel_rfl⟩,⟨⟨_,_,Go.Proofs.Tryz.underlying53,rfl,rfl⟩,⟨⟨_,_,Go.Proofs.Tryz.underlying53,rfl,rfl,by kernel_rfl⟩,⟨⟨_,_,Go.Proofs.Tryz.underlying53,rfl,rfl⟩,⟨⟨_,_,Go.Proofs.Tryz.underlying53,rfl,rfl,by kernel_rfl⟩,⟨⟨_,_,Go.Proofs.Tryz.underlying53,rfl,rfl⟩,⟨⟨_,_,Go.Proofs.Tryz.underlying53,rfl,rfl,by kernel_rfl⟩,⟨⟨_,_,Go.Proofs.Tryz.underlying53,rfl,rfl⟩,⟨⟨_,_,Go.Proofs.Tryz.underlying53,rfl,rfl,by kernel_rfl⟩,⟨⟨_,_,Go.Proofs.Tryz.underlying53,rfl,rfl⟩,⟨⟨_,_,Go.Proofs.Tryz.underlying53,rfl,rfl,by kernel_rfl⟩,⟨⟨_,_,Go.Proofs.Tryz.underlying53,rfl,rfl⟩,⟨⟨_,_,Go.Proofs.Tryz.underlying53,rfl,rfl,by kernel_rfl⟩,⟨⟨_,_,Go.Proofs.Tryz.underlying53,rfl,rfl⟩,trivial⟩⟩⟩⟩⟩⟩⟩⟩⟩⟩⟩⟩⟩⟩⟩⟩,⟨⟨⟨_,_,Go.Proofs.Tryz.underlying65,rfl,rfl,by kernel_rfl⟩,⟨⟨_,_,Go.Proofs.Tryz.underlying65,rfl,rfl⟩,⟨⟨_,_,Go.Proofs.Tryz.underlying65,rfl,rfl,by kernel_rfl⟩,⟨⟨_,_,Go.Proofs.Tryz.underlying65,rfl,rfl⟩,⟨⟨_,_,Go.Proofs.Tryz.underlying65,rfl,rfl,by kernel_rfl⟩,⟨⟨_,_,Go.Proofs.Tryz.underlying65,rfl,rfl⟩,⟨⟨_,_,Go.Proofs.Tryz.underlying65,rfl,rfl,by kernel_rfl⟩,⟨⟨_,_,Go.Proofs.Tryz.underlying65,rfl,rfl⟩,⟨⟨_,_,Go.Proofs.Tryz.underlying65,rfl,rfl,by kernel_rfl⟩,⟨⟨_,_,Go.Proofs.Tryz.underlying65,rfl,rfl⟩,⟨⟨_,_,Go.Proofs.Tryz.underlying65,rfl,rfl,by kernel_rfl⟩,⟨⟨_,_,Go.Proofs.Tryz.underlying65,rfl,rfl⟩,⟨⟨_,_,Go.Proofs.Tryz.underlying65,rfl,rfl,by kernel_rfl⟩,⟨⟨_,_,Go.Proofs.Tryz.underlying65,rfl,rfl⟩,trivial⟩⟩⟩⟩⟩⟩⟩⟩⟩⟩⟩⟩⟩⟩,⟨⟨⟨_,_,Go.Proofs.Tryz.underlying82,rfl,rfl,by kernel_rfl⟩,⟨⟨_,_,Go.Proofs.Tryz.underlying82,rfl,rfl⟩,⟨⟨_,_,Go.Proofs.Tryz.underlying82,rfl,rfl,by kernel_rfl⟩,⟨⟨_,_,Go.Proofs.Tryz.underlying82,rfl,rfl⟩,trivial⟩⟩⟩⟩,⟨⟨⟨_,_,Go.Proofs.Tryz.underlying97,rfl,rfl,by kernel_rfl⟩,⟨⟨_,_,Go.Proofs.Tryz.underlying97,rfl,rfl⟩,⟨⟨_,_,Go.Proofs.Tryz.underlying97,rfl,rfl,by kernel_rfl⟩,⟨⟨_,_,Go.Proofs.Tryz.underlying97,rfl,rfl⟩,⟨⟨_,_,Go.Proofs.Tryz.underlying97,rfl,rfl,by kernel_rfl⟩,⟨⟨_,_,Go.Proofs.Tryz.underlying97,rfl,rfl⟩,trivial⟩⟩⟩⟩⟩⟩,⟨⟨⟨_,_,Go.Proofs.Tryz.underlying111,rfl,rfl,by kernel_rfl⟩,⟨⟨_,_,Go.Proofs.Tryz.underlying111,rfl,rfl⟩,⟨⟨_,_,Go.Proofs.Tryz.underlying111,rfl,rfl,by kernel_rfl⟩,⟨⟨_,_,Go.Proofs.Tryz.underlying111,rfl,rfl⟩,⟨⟨_,_,Go.Proofs.Tryz.underlying111,rfl,rfl,by kernel_rfl⟩,⟨⟨_,_,Go.Proofs.Tryz.underlying111,rfl,rfl⟩,⟨⟨_,_,Go.Proofs.Tryz.underlying111,rfl,rfl,by kernel_rfl⟩,⟨⟨_,_,Go.Proofs.Tryz.underlying111,rfl,rfl⟩,trivial⟩⟩⟩⟩⟩⟩⟩⟩,⟨⟨⟨_,_,Go.Proofs.Tryz.underlying126,rfl,rfl,by kernel_rfl⟩,⟨⟨_,_,Go.Proofs.Tryz.underlying126,rfl,rfl⟩,⟨⟨_,_,Go.Proofs.Tryz.underlying126,rfl,rfl,by kernel_rfl⟩,⟨⟨_,_,Go.Proofs.Tryz.underlying126,rfl,rfl⟩,trivial⟩⟩⟩⟩,⟨⟨⟨_,_,Go.Proofs.Tryz.underlying130,rfl,rfl,by kernel_rfl⟩,⟨⟨_,_,Go.Proofs.Tryz.underlying130,rfl,rfl⟩,⟨⟨_,_,Go.Proofs.Tryz.underlying130,rfl,rfl,by kernel_rfl⟩,⟨⟨_,_,Go.Proofs.Tryz.underlying130,rfl,rfl⟩,trivial⟩⟩⟩⟩,⟨⟨⟨_,_,Go.Proofs.Tryz.underlying148,rfl,rfl,by kernel_rfl⟩,⟨⟨_,_,Go.Proofs.Tryz.underlying148,rfl,rfl⟩,⟨⟨_,_,Go.Proofs.Tryz.underlying148,rfl,rfl,by kernel_rfl⟩,⟨⟨_,_,Go.Proofs.Tryz.underlying148,rfl,rfl⟩,⟨⟨_,_,Go.Proofs.Tryz.underlying148,rfl,rfl,by kernel_rfl⟩,⟨⟨_,_,Go.Proofs.Tryz.underlying148,rfl,rfl⟩,trivial⟩⟩⟩⟩⟩⟩,⟨⟨⟨_,_,Go.Proofs.Tryz.underlying185,rfl,rfl,by kernel_rfl⟩,⟨⟨_,_,Go.Proofs.Tryz.underlying185,rfl,rfl⟩,⟨⟨_,_,Go.Proofs.Tryz.underlying185,rfl,rfl,by kernel_rfl⟩,⟨⟨_,_,Go.Proofs.Tryz.underlying185,rfl,rfl⟩,⟨⟨_,_,Go.Proofs.Tryz.underlying185,rfl,rfl,by kernel_rfl⟩,⟨⟨_,_,Go.Proofs.Tryz.underlying185,rfl,rfl⟩,⟨⟨_,_,Go.Proofs.Tryz.underlying185,rfl,rfl,by kernel_rfl⟩,⟨⟨_,_,Go.Proofs.Tryz.underlying185,rfl,rfl⟩,⟨⟨_,_,Go.Proofs.Tryz.underlying185,rfl,rfl,by kernel_rfl⟩,⟨⟨_,_,Go.Proofs.Tryz.underlying185,rfl,rfl⟩,trivial⟩⟩⟩⟩⟩⟩⟩⟩⟩⟩,⟨⟨⟨_,_,Go.Proofs.Tryz.underlying208,rfl,rfl,by kernel_rfl⟩,⟨⟨_,_,Go.Proofs.Tryz.underlying208,rfl,rfl⟩,trivial⟩⟩,trivial⟩⟩⟩⟩⟩⟩⟩⟩⟩⟩⟩⟩⟩⟩⟩
 el:=⟨⟨Go.Proofs.Tryz.underlying22,_,_,ti3,rfl,by decide⟩,⟨⟨Go.Proofs.Tryz.underlying25,_,_,d38,rfl,by decide⟩,⟨⟨Go.Proofs.Tryz.underlying28,_,_,d4y,rfl,by decide⟩,⟨⟨Go.Proofs.Tryz.underlying29,_,_,d2J,rfl,by decide⟩,⟨⟨Go.Proofs.Tryz.underlying30,_,_,d4A,rfl,by decide⟩,⟨⟨Go.Proofs.Tryz.underlying31,_,_,ti9,rfl,by decide⟩,⟨⟨Go.Proofs.Tryz.underlying46,_,_,d46,rfl,by decide⟩,⟨⟨Go.Proofs.Tryz.underlying49,_,_,d2O,rfl,by decide⟩,⟨⟨Go.Proofs.Tryz.underlying61,_,_,d4U,rfl,by decide⟩,⟨⟨Go.Proofs.Tryz.underlying62,_,_,d24,rfl,by decide⟩,⟨⟨Go.Proofs.Tryz.underlying75,_,_,d47,rfl,by decide⟩,⟨⟨Go.Proofs.Tryz.underlying79,_,_,d5c,rfl,by decide⟩,⟨⟨Go.Proofs.Tryz.underlying108,_,_,ti4,rfl,by decide⟩,⟨⟨Go.Proofs.Tryz.underlying112,_,_,d20,rfl,by decide⟩,⟨⟨Go.Proofs.Tryz.underlying134,_,_,ti2,rfl,by decide⟩,trivial⟩⟩⟩⟩⟩⟩⟩⟩⟩⟩⟩⟩⟩⟩⟩
 str:=⟨Go.Proofs.Tryz.underlying9,trivial⟩
 bool:=⟨Go.Proofs.Tryz.underlying4,trivial⟩
 ik:=⟨Go.Proofs.Tryz.underlying3,⟨Go.Proofs.Tryz.underlying165,trivial⟩⟩
 inf:=⟨⟨_,ti2,fun X c σ=>RG.cns rfl a2H (RG.nl)⟩,⟨⟨_,ti3,fun X c σ=>RG.cns rfl a2H (RG.nl)⟩,⟨⟨_,ti4,fun X c σ=>RG.cns rfl a65 (RG.nl)⟩,⟨⟨_,ti9,fun X c σ=>RG.cns rfl c0M (RG.nl)⟩,⟨⟨_,d4U,fun X c σ=>RG.cns rfl a1M (RG.nl)⟩,⟨⟨_,d6g,fun X c σ=>RG.cns rfl a1M (RG.nl)⟩,⟨⟨_,d57,fun X c σ=>RG.cns rfl a1M (RG.cns rfl a2H (RG.nl))⟩,⟨⟨_,d5X,fun X c σ=>RG.cns rfl a1M (RG.nl)⟩,⟨⟨_,d6c,fun X c σ=>RG.cns rfl a1M (RG.nl)⟩,⟨⟨_,d52,fun X c σ=>RG.cns rfl a1M (RG.nl)⟩,⟨⟨_,d4y,fun X c σ=>RG.cns rfl a2H (RG.cns rfl a2H (RG.cns rfl c0M (RG.cns rfl a1M (RG.cns rfl a1M (RG.cns rfl a1M (RG.cns rfl a1M (RG.nl)))))))⟩,⟨⟨_,d47,fun X c σ=>RG.cns rfl a1M (RG.cns rfl a1M (RG.cns rfl a65 (RG.nl)))⟩,⟨⟨_,d6n,fun X c σ=>RG.cns rfl a1M (RG.cns rfl a2H (RG.nl))⟩,⟨⟨_,d5Z,fun X c σ=>RG.cns rfl a1M (RG.nl)⟩,⟨⟨_,d51,fun X c σ=>RG.cns rfl a65 (RG.cns rfl a1M (RG.nl))⟩,⟨⟨_,d46,fun X c σ=>RG.cns rfl a2H (RG.cns rfl a2H (RG.cns rfl a1M (RG.cns rfl a65 (RG.cns rfl a1M (RG.cns rfl a1M (RG.cns rfl a1M (RG.cns rfl a1M (RG.cns rfl a1M (RG.nl)))))))))⟩,⟨⟨_,d5V,fun X c σ=>RG.cns rfl a1M (RG.nl)⟩,⟨⟨_,d6f,fun X c σ=>RG.cns rfl a2H (RG.cns rfl a2H (RG.nl))⟩,⟨⟨_,d38,fun X c σ=>RG.cns rfl a2H (RG.cns rfl a2H (RG.cns rfl a2H (RG.cns rfl c0M (RG.cns rfl a1M (RG.cns rfl a1M (RG.cns rfl a2H (RG.cns rfl a2H (RG.nl))))))))⟩,⟨⟨_,d5c,fun X c σ=>RG.cns rfl a2H (RG.cns rfl a2H (RG.nl))⟩,⟨⟨_,d4A,fun X c σ=>RG.cns rfl a1M (RG.cns rfl a65 (RG.cns rfl a2H (RG.cns rfl a2H (RG.cns rfl c0M (RG.cns rfl a1M (RG.cns rfl a1M (RG.cns rfl a1M (RG.cns rfl a1M (RG.nl)))))))))⟩,⟨⟨_,d5s,fun X c σ=>RG.cns rfl d5r (RG.nl)⟩,⟨⟨_,d20,fun X c σ=>RG.cns rfl a1M (RG.cns rfl a1M (RG.cns rfl a1M (RG.cns rfl a1M (RG.nl))))⟩,⟨⟨_,d2O,fun X c σ=>RG.cns rfl a2H (RG.cns rfl a2H (RG.nl))⟩,⟨⟨_,d2J,fun X c σ=>RG.cns rfl a2H (RG.cns rfl c0M (RG.nl))⟩,⟨⟨_,d24,fun X c σ=>RG.cns rfl a2H (RG.cns rfl c0M (RG.cns rfl a2H (RG.cns rfl a65 (RG.nl))))⟩,⟨⟨_,d5A,fun X c σ=>RG.cns rfl a65 (RG.cns rfl a65 (RG.cns rfl a65 (RG.cns rfl a65 (RG.cns rfl a65 (RG.nl)))))⟩,⟨⟨_,d5P,fun X c σ=>RG.cns rfl a65 (RG.cns rfl a1M (RG.nl))⟩,trivial⟩⟩⟩⟩⟩⟩⟩⟩⟩⟩⟩⟩⟩⟩⟩⟩⟩⟩⟩⟩⟩⟩⟩⟩⟩⟩⟩⟩
 st:=⟨.inl ⟨_,Go.Proofs.Tryz.underlying27,by kernel_rfl⟩,⟨.inl ⟨_,Go.Proofs.Tryz.underlying33,by kernel_rfl⟩,⟨.inl ⟨_,Go.Proofs.Tryz.underlying37,by kernel_rfl⟩,⟨.inl ⟨_,Go.Proofs.Tryz.underlying40,by kernel_rfl⟩,⟨.inl ⟨_,Go.Proofs.Tryz.underlying51,by kernel_rfl⟩,⟨.inl ⟨_,Go.Proofs.Tryz.underlying53,by kernel_rfl⟩,⟨.inr (d4V Go.Proofs.Tryz.underlying63 ti3 rfl),⟨.inl ⟨_,Go.Proofs.Tryz.underlying65,by kernel_rfl⟩,⟨.inl ⟨_,Go.Proofs.Tryz.underlying82,by kernel_rfl⟩,⟨.inl ⟨_,Go.Proofs.Tryz.underlying111,by kernel_rfl⟩,⟨.inl ⟨_,Go.Proofs.Tryz.underlying126,by kernel_rfl⟩,⟨.inl ⟨_,Go.Proofs.Tryz.underlying130,by kernel_rfl⟩,⟨.inl ⟨_,Go.Proofs.Tryz.underlying148,by kernel_rfl⟩,⟨.inl ⟨_,Go.Proofs.Tryz.underlying185,by kernel_rfl⟩,⟨.inl ⟨_,Go.Proofs.Tryz.underlying208,by kernel_rfl⟩,trivial⟩⟩⟩⟩⟩⟩⟩⟩⟩⟩⟩⟩⟩⟩⟩
 eq:=⟨fun X c σ ls ms r cs ds h1 h2 h3=>eqT 63 b3l (fun h k=>d6i h k) (by kernel_rfl) (by decide) h1 h2 h3,⟨fun X c σ ls ms r cs ds h1 h2 h3=>eqT 130 a6y (fun h k=>d5O h k) (by kernel_rfl) (by decide) h1 h2 h3,trivial⟩⟩
 arr:=⟨⟨Go.Proofs.Tryz.underlying63,by kernel_rfl⟩,trivial⟩
 mp:=⟨⟨_,_,_,_,_,Go.Proofs.Tryz.underlying113,Go.Proofs.Tryz.underlying9,ti4,fun x h σ=>by cases h; exact rfl⟩,trivial⟩
 fb:=⟨⟨_,_,Go.Proofs.Tryz.func66,rfl,by kernel_rfl⟩,⟨⟨_,_,Go.Proofs.Tryz.func68,rfl,by kernel_rfl⟩,⟨⟨_,_,Go.Proofs.Tryz.func79,rfl,by kernel_rfl⟩,⟨⟨_,_,Go.Proofs.Tryz.func82,rfl,by kernel_rfl⟩,⟨⟨_,_,Go.Proofs.Tryz.func129,rfl,by kernel_rfl⟩,⟨⟨_,_,Go.Proofs.Tryz.func130,rfl,by kernel_rfl⟩,⟨⟨_,_,Go.Proofs.Tryz.func143,rfl,by kernel_rfl⟩,⟨⟨_,_,Go.Proofs.Tryz.func151,rfl,by kernel_rfl⟩,⟨⟨_,_,Go.Proofs.Tryz.func171,rfl,by kernel_rfl⟩,⟨⟨_,_,Go.Proofs.Tryz.func172,rfl,by kernel_rfl⟩,⟨⟨_,_,Go.Proofs.Tryz.func174,rfl,by kernel_rfl⟩,⟨⟨_,_,Go.Proofs.Tryz.func175,rfl,by kernel_rfl⟩,⟨⟨_,_,Go.Proofs.Tryz.func177,rfl,by kernel_rfl⟩,⟨⟨_,_,Go.Proofs.Tryz.func216,rfl,by kernel_rfl⟩,⟨⟨_,_,Go.Proofs.Tryz.func219,rfl,by kernel_rfl⟩,⟨⟨_,_,Go.Proofs.Tryz.func232,rfl,by kernel_rfl⟩,⟨⟨_,_,Go.Proofs.Tryz.func241,rfl,by kernel_rfl⟩,trivial⟩⟩⟩⟩⟩⟩⟩⟩⟩⟩⟩⟩⟩⟩⟩⟩⟩
theorem b2B:TabOk Go.Proofs.Tryz.prog tb:=d1P d4j
theorem mixed:(Go.Proofs.Tryz.prog).follows .mixedOrders=true:=by kernel_rfl
end Go.Qx
end
section
namespace Go.Qx
open Go Go.RowKit Go.Sx
structure Bw (B:Nat)(w w':World):Prop where
 below:Below B w w'
 drawn:w.drawn<=w'.drawn
theorem Bw.refl (B:Nat)(w:World):Bw B w w:=⟨Below.refl B w,Nat.le_refl _⟩
theorem Bw.trans {B:Nat}{a b c:World}(h:Bw B a b)(k:Bw B b c):Bw B a c:=⟨h.below.trans k.below,Nat.le_trans h.drawn k.drawn⟩
theorem Bw.setCells {B b:Nat}(hb:B<=b)(o:Nat)(vs:List Value)(w:World):Bw B w (w.setCells b o vs):=by
 obtain ⟨r1,r2,r3⟩:=b1R b vs o w
 exact ⟨⟨r1,r2,r3,Nat.le_of_eq (b1K b vs o w).symm,fun k hk=>a4G b vs o w k (by omega)⟩,Nat.le_of_eq (b0J b vs o w).symm⟩
section
variable {P:Program}{ops:Array Oper}{Q:Exit->Act->World->Prop}{n:Nat}{F:Fr}{rest:List Oper}{d:Option Nat}{ty:TypeId}{pos:String}{aft:Array Edge}{w:World}
theorem c1G {T T':TypeId}{x y:Operand}{b:Nat}{cs:List Value}(hb:w.heap[b]?=some (.cells cs.toArray T' (0,0)))(o:Nat)(v:Value)(hx:ev F x=.pointer (some ⟨b,o,none⟩))(hy:ev F y=v)
 (hkx:Q1 n x=true) (hky:Q1 n y=true) (hv:v.cells.toList=[v]) (hT:(P.info? T).map (·.size)=some 1) (h1:v.oneCell'=true) (hl:o<cs.length)
 (h:wpList P ops Q rest (fr n (K5 F d undef)) (w.setCells b o [v])) :
 wpList P ops Q (⟨d,.store T x y,ty,pos,aft,none⟩::rest) (fr n F) w:=by
 have hsz:v.cells.size=1:=by rw [<- Array.length_toList,hv]; rfl
 refine c7o rfl (w.setCells b o [v]) ?_ h
 show Sem.run P (do Instr.storeAt T ((fr n F).eval x) ((fr n F).eval y); pure Next.skip) w=_
 rw [Z3 hkx,Z3 hky,hx,hy]
 have hst:=run_storeCells_cells (P:=P) b o [v] 0 w (fun j hj=>by
  have hj0:j=0:=by simp at hj; omega
  subst hj0
  simp only [World.cell?,hb,Nat.add_zero]
  simp [List.getElem?_eq_getElem hl]) (fun j hj=>by simp [World.frozen?,hb]) (fun u hu=>by simp at hu; subst hu; exact h1)
 simp only [Nat.add_zero] at hst
 simp only [Instr.storeAt,Instr.sureAddr,storeVar,Sem.run_bind,Sem.run_pure,Result.andThen_ok,Go.Sx.run_sizeOf hT,hsz,ne_eq,not_true_eq_false,if_false,hv,hst]
theorem c4F {x y:Operand}{t u:TypeId}{a b v:Value}{w':World}(hx:ev F x=a)(hy:ev F y=b)(hkx:Q1 n x=true)(hky:Q1 n y=true)(hr:(Builtin.append_ #[t,u] ty #[a,b]).run P w=.ok v w')
 (h:wpList P ops Q rest (fr n (K5 F d v)) w'):wpList P ops Q (⟨d,.call ⟨.builtin .append,#[x,y],#[t,u]⟩,ty,pos,aft,none⟩::rest) (fr n F) w :=
 J5 rfl v w' (by
  simp [execOp,resolve,invoke,builtin,Z3 hkx,Z3 hky,hx,hy,hr]) h
theorem c2u {src dst:TypeId}{x:Operand}{a v:Value}(hx:ev F x=a)(hkx:Q1 n x=true)(hr:(convert src dst a).run P w=.ok v w)(h:wpList P ops Q rest (fr n (K5 F d v)) w) :
 wpList P ops Q (⟨d,.convert src dst x,ty,pos,aft,none⟩::rest) (fr n F) w:=c4G a v hx hkx hr h
theorem c14 {f:FuncId}{fn:Func}{c:Code}{vs:List Value}{R:Ending->World->Prop}(nt:Nat)(hf:P.funcs[f]?=some fn)(hb:fn.body=some c)(hn:fn.ntmps=nt)(hle:Nat.ble vs.length nt=true)
 (h:c.wp P (bodyPost P fn R) (fr nt (a9C vs)) w):Calls P f vs.toArray w R:=by
 refine calls_of_wp hf hb ?_
 have hle':=Nat.le_of_ble_eq_true hle
 have e:(⟨vs.toArray++Array.replicate (fn.ntmps-vs.toArray.size) undef,[]⟩:Act)=fr nt (a9C vs):=by
  rw [hn]
  simp only [fr]
  congr 1
  apply Array.ext
  ·simp; omega
  ·intro i h1 h2
   simp only [Array.getElem_ofFn,a9C,Array.getElem_append]
   split
   ·rename_i hi; simp at hi; simp [List.getD,List.getElem?_eq_getElem hi]
   ·rename_i hi; simp at hi; simp [List.getD,List.getElem?_eq_none hi]
 rw [e]
 exact h
theorem d2G {fn:Func}{R:Ending->World->Prop}(hr:fn.results=#[])(h:R (.returned (.tuple #[])) w):bodyPost P fn R .normal (fr n F) w :=
 ⟨rfl,.tuple #[],by
  rw [b2t,hr]
  simp only [List.mapM_toArray,List.mapM_nil,Sem.run_bind,Sem.run_map,Result.andThen_ok,Sem.run_pure]
  rfl,h⟩
theorem d5S {fn:Func}{R:Ending->World->Prop}{t:Nat}(v:Value)(hr:fn.results=#[.tmp t])(ht:Nat.blt t n=true)(hv:F t=v)(h:R (.returned v) w):bodyPost P fn R .ret (fr n F) w :=
 ⟨rfl,v,by
  have e1:=b38 (P:=P) (w:=w) (r:=.tmp t) (v:=v) ⟨ht,hv⟩
  rw [b2t,hr]
  simp only [List.mapM_toArray,List.mapM_cons,List.mapM_nil,Sem.run_bind,Sem.run_map,e1,Result.andThen_ok,Sem.run_pure]
  rfl,h⟩
theorem d5u {fn:Func}{R:Ending->World->Prop}{t u:Nat}(v x:Value)(hr:fn.results=#[.tmp t,.tmp u])(ht:Nat.blt t n=true)(hu:Nat.blt u n=true)(hv:F t=v)(hx:F u=x)(h:R (.returned (.tuple #[v,x])) w):bodyPost P fn R .ret (fr n F) w :=
 ⟨rfl,.tuple #[v,x],by
  have e1:=b38 (P:=P) (w:=w) (r:=.tmp t) (v:=v) ⟨ht,hv⟩
  have e2:=b38 (P:=P) (w:=w) (r:=.tmp u) (v:=x) ⟨hu,hx⟩
  rw [b2t,hr]
  simp only [List.mapM_toArray,List.mapM_cons,List.mapM_nil,Sem.run_bind,Sem.run_map,e1,e2,Result.andThen_ok,Sem.run_pure]
  rfl,h⟩
theorem d2C {T E:TypeId}{x y:Operand}{p:Option Addr}(hT:P.underlying T=some (.pointer E)) :
 Y1 P w (do eqGuard .eql T x y (.pointer p) (.pointer none); binOp .eql T (.pointer p) (.pointer none)) (.bool p.isNone):=by
 have h:∀ d:Nat,(Op.equalIn (d+1) T (.pointer p) (.pointer none)).run P w=.ok p.isNone w:=fun d=>by
  cases p<;>simp [Op.equalIn,run_underlying hT]
 show Sem.run P (do eqGuard .eql T x y (.pointer p) (.pointer none); pure (Value.bool (<- Op.equalIn 10000 T (.pointer p) (.pointer none)))) w=_
 have hg:eqGuard .eql T x y (.pointer p) (.pointer none)=pure ():=rfl
 rw [hg]
 simp only [Sem.run_bind,Sem.run_pure,Result.andThen_ok,h 9999]
theorem d3k {T E:TypeId}{x y:Operand}{a:Addr}{j:TypeInfo}(hT:P.underlying T=some (.pointer E))(hj:P.info? E=some j) :
 Y1 P w (do eqGuard .neq T x y (.pointer (some a)) (.pointer (some a)); binOp .neq T (.pointer (some a)) (.pointer (some a))) (.bool false):=by
 have hg:eqGuard .neq T x y (.pointer (some a)) (.pointer (some a))=pure ():=rfl
 show Sem.run P (do eqGuard .neq T x y (.pointer (some a)) (.pointer (some a)); binOp .neq T (.pointer (some a)) (.pointer (some a))) w=_
 rw [hg]
 simp only [Sem.run_bind,Sem.run_pure,Result.andThen_ok]
 exact Lib.run_neq_ptr_same w a hT hj
theorem a9d {f:FuncId}{xs:List Operand}{ats:Array TypeId}(vs:List Value){R:Ending->World->Prop}(hvs:xs.map (ev F)=vs)(hk:xs.all (Q1 n)=true)(hb:a2b P f)(hc:Calls P f vs.toArray w R)
 (hR:∀ e w',R e w'->∃ v,e=.returned v/\wpList P ops Q rest (fr n (K5 F d v)) w') :
 wpList P ops Q (⟨d,.call ⟨.value (.func f),xs.toArray,ats⟩,ty,pos,aft,none⟩::rest) (fr n F) w:=by
 subst hvs
 refine b03 (σ:=⟨w,fun _=>(0,0)⟩) (E:=fun _=>True) (R:=fun v τ=>wpList P ops Q rest (fr n (K5 F d v)) τ.w) rfl (.inl ⟨hb,hc.mono fun e w' h=>?_⟩) (c2l hk w) (fun v τ _ h=>h)
 obtain ⟨v,e1,h2⟩:=hR e w' h
 exact ⟨v,⟨w',fun _=>(0,0)⟩,e1,rfl,trivial,h2⟩
theorem Bw.grown {B:Nat}{w w':World}{v:Value}(h:w.grownBy w' v.ownBlock)(hd:w.drawn<=w'.drawn)(hv:∀ g,v.ownBlock=some g->B<=g)(hB:B<=w.heap.size):Bw B w w' :=
 ⟨⟨h.os,h.tape,h.output,h.size,fun k hk=>h.block k (by omega) (fun e=>by have:=hv k e.symm; omega)⟩,hd⟩
theorem c2z {B:Nat}{T:TypeId}{s n:Nat}{v:Value}{xs:List Value}(h:w.ownsRow B T s v n xs):∀ g,v.ownBlock=some g->B<=g:=by
 intro g hg
 rcases h.2 with ⟨rfl,_⟩ | ⟨g',cap,cur,rfl,hb,_⟩
 ·cases hg
 ·cases hg; exact hb
theorem d1z {T E:TypeId}{i:TypeInfo}{z v:Value}{x:Operand}(hu:P.underlying T=some (.slice E))(hi:P.info? E=some i)(hz:i.zero=some z)(hs:i.size=1)(hzs:z.cells.size=1)(hx:ev F x=v)(hk:Q1 n x=true)(hv:v.cells.toList=[v])(hv2:v.cells.size=1)
 (h:wpList P ops Q rest (fr n (K5 F d (.slice (some ⟨w.heap.size,0,none⟩) 1 1))) (w.alloc (.cells #[v] E))) :
 wpList P ops Q (⟨d,.buildSlice T 1 #[(0,x)],ty,pos,aft,none⟩::rest) (fr n F) w:=by
 refine J5 rfl (.slice (some ⟨w.heap.size,0,none⟩) 1 1) (w.alloc (.cells #[v] E)) ?_ h
 have hfill:=c1T 1 (Nat.zero_lt_one) [v] 0 (((Array.range 1).map (z.cells[·%z.cells.size]!)).toList) (by simp) (by simp [hv2])
 simp only [Nat.zero_mul,List.take_zero,List.nil_append,Array.toArray_toList] at hfill
 show Sem.run P (do pure (Next.value (<- Instr.buildSlice T 1 (#[(0,x)].map fun (i,x)=>(i,(fr n F).eval x))))) w=_
 have he:(#[((0:Nat),x)].map fun (i,x)=>(i,(fr n F).eval x))=#[(0,v)]:=by simp [Z3 hk,hx]
 rw [he]
 have hrun:(Instr.buildSlice T 1 #[(0,v)]).run P w=.ok (.slice (some ⟨w.heap.size,0,none⟩) 1 1) (w.alloc (.cells #[v] E)):=by
  unfold Instr.buildSlice
  simp only [List.zipIdx_cons,List.zipIdx_nil,List.map_cons,List.map_nil] at hfill
  rw [<- hs] at hfill
  simp only [Sem.run_bind,run_underlying hu,Result.andThen_ok,sizeOf,typeInfo,run_program,hi,Sem.run_pure,hs,Nat.one_mul,if_neg (show ¬ (1:Nat)>2^24 by decide),if_neg (show ¬ (1:Nat)=0 by decide),zeroValue,hz,newRow,run_newObj]
  rw [hs] at hfill
  simp only [hfill,Sem.run_pure,Result.andThen_ok,Sem.run_bind,run_newObj]
  simp [hv]
 rw [Sem.run_bind,hrun]
 rfl
end
end Go.Qx
end
section
namespace Go.Qx
open Go Go.RowKit Go.Sx
set_option maxHeartbeats 1600000
set_option maxRecDepth 100000
abbrev J8 (b:Nat):Value:=.pointer (some ⟨b,0,none⟩)
theorem c5y:b24 Go.Proofs.Tryz.prog 156 0 0:=⟨_,_,Go.Proofs.Tryz.underlying156,rfl,rfl,by kernel_rfl⟩
theorem c2y:b24 Go.Proofs.Tryz.prog 156 1 1:=⟨_,_,Go.Proofs.Tryz.underlying156,rfl,rfl,by kernel_rfl⟩
theorem c6v:a2Y Go.Proofs.Tryz.prog 153:=⟨_,Go.Proofs.Tryz.underlying153,rfl,by kernel_rfl⟩
theorem c6q:a2Y Go.Proofs.Tryz.prog 154:=⟨_,Go.Proofs.Tryz.underlying154,rfl,by kernel_rfl⟩
theorem d1l (x:Value)(w:World):(callFunc 223 [x].toArray).run Go.Proofs.Tryz.prog w=.ok (.value x) w:=by
 have hn:Extern.findNext Go.Proofs.Tryz.f223=none:=by kernel_rfl
 have he:Extern.find Go.Proofs.Tryz.f223=some Extern.AbiNoEscape.same:=by kernel_rfl
 rw [run_callFunc_extern Go.Proofs.Tryz.func223 (by kernel_rfl) (by kernel_rfl) hn he]
 rfl
theorem d2B {b B:Nat}{bs:List Value}{p:Value}{w:World}(hp:p=.pointer none\/p=J8 b)(h:Lib.BuilderAt 156 5 B b p bs w) :
 Calls Go.Proofs.Tryz.prog 183 [J8 b].toArray w fun e w'=>e=.returned (.tuple #[])/\Lib.BuilderAt 156 5 B b (J8 b) bs w'/\Bw B w w':=by
 obtain ⟨j,hj,hjs⟩:∃ j,Go.Proofs.Tryz.prog.info? 156=some j/\j.size=2:=Option.map_eq_some_iff.1 (by kernel_rfl)
 obtain ⟨hB,v,hb,hown,hne⟩:=h
 have c0:w.cell? ⟨b,0,none⟩=some p:=by simp [World.cell?,hb]
 refine c14 20 Go.Proofs.Tryz.func183 rfl rfl rfl ?_
 refine wp_seq (wp_region_lit ?_)
 refine a1V (J8 b) rfl rfl ?_
 refine a3L ⟨b,0,none⟩ rfl rfl ?_
 refine a1f b 0 0 0 rfl rfl c5y rfl ?_
 refine a4m b 0 p rfl rfl (a3S c6v c0) ?_
 rcases hp with rfl | rfl
 ·refine a9Z (.pointer none) (.pointer none) (.bool true) rfl rfl rfl rfl (d2C Go.Proofs.Tryz.underlying153) ?_
  refine wpList_nil (a0i ?_)
  refine b9M rfl rfl rfl (wp_region_lit ?_)
  refine a1V (J8 b) rfl rfl ?_
  refine a1V (J8 b) rfl rfl ?_
  have hsh:w.shape? b=some (156,2):=by simp [World.shape?,hb]
  refine c2u rfl rfl (Lib.run_to_unsafe (e:=156) (cells:=2) w ⟨b,0,none⟩ Go.Proofs.Tryz.underlying153 Go.Proofs.Tryz.underlying227 hj (by rw [hjs]; decide) hsh (Nat.zero_lt_succ 1)) ?_
  refine d3B [J8 b] (J8 b) rfl rfl (d1l _ w) ?_
  refine c2u rfl rfl (Lib.run_from_unsafe (e:=156) (cells:=2) w ⟨b,0,none⟩ Go.Proofs.Tryz.underlying227 Go.Proofs.Tryz.underlying153 hj hsh (by kernel_rfl)) ?_
  refine a3L ⟨b,0,none⟩ rfl rfl ?_
  refine a1f b 0 0 0 rfl rfl c5y rfl ?_
  refine c1G (cs:=[.pointer none,v]) hb 0 (J8 b) rfl rfl rfl rfl rfl (by kernel_rfl) rfl (Nat.zero_lt_succ 1) ?_
  refine wpList_nil (d2G rfl ⟨rfl,⟨hB,v,?_,?_,hne⟩,Bw.setCells hB 0 _ w⟩)
  ·have:=a60 b 156 [J8 b] 0 w [.pointer none,v] hb (Nat.le_succ 1)
   exact this
  ·obtain ⟨h1,h2⟩:=hown
   refine ⟨h1,h2.imp id fun ⟨g,cap,cur,e,hg,hh,r⟩=>⟨g,cap,cur,e,hg,?_,r⟩⟩
   rw [a4G b _ 0 w g (by rintro rfl; rw [e] at hne; exact hne rfl)]
   exact hh
 ·refine a9Z (J8 b) (.pointer none) (.bool false) rfl rfl rfl rfl (d2C Go.Proofs.Tryz.underlying153) ?_
  refine wpList_nil (a0i ?_)
  refine b2Y rfl rfl rfl (wp_seq (wp_region_lit ?_))
  refine a1V (J8 b) rfl rfl ?_
  refine a3L ⟨b,0,none⟩ rfl rfl ?_
  refine a1f b 0 0 0 rfl rfl c5y rfl ?_
  refine a4m b 0 (J8 b) rfl rfl (a3S c6v c0) ?_
  refine a1V (J8 b) rfl rfl ?_
  refine a9Z (J8 b) (J8 b) (.bool false) rfl rfl rfl rfl (d3k Go.Proofs.Tryz.underlying153 hj) ?_
  refine wpList_nil (a0i ?_)
  refine b2Y rfl rfl rfl (wp_skip (d2G rfl ⟨rfl,⟨hB,v,hb,hown,hne⟩,Bw.refl B w⟩))
theorem d2y:a2b Go.Proofs.Tryz.prog 183:=⟨_,_,Go.Proofs.Tryz.func183,rfl,by kernel_rfl⟩
theorem c9F {b B:Nat}{bs:List Value}{w:World}(h:Lib.IsBuilder 156 5 B b bs w):∃ p,(p=.pointer none\/p=J8 b)/\Lib.BuilderAt 156 5 B b p bs w :=
 h.elim (fun h=>⟨_,.inl rfl,h⟩) (fun h=>⟨_,.inr rfl,h⟩)
theorem d4B {b B:Nat}{cs:List Value}{w w':World}{v v':Value}(hB:B<=b)(hb:w.heap[b]?=some (.cells #[J8 b,v] 156 (0,0)))(hne:v.ownBlock≠some b)(hg:w.grownBy w' v.ownBlock)(hown:w'.ownsRow B 5 1 v' cs.length cs)(hne':v'.ownBlock≠some b) :
 w'.heap[b]?=some (.cells #[J8 b,v] 156 (0,0))/\Lib.BuilderAt 156 5 B b (J8 b) cs (w'.setCells b 1 [v']):=by
 have hlt:b<w.heap.size:=(Array.getElem?_eq_some_iff.1 hb).1
 have h1:w'.heap[b]?=some (.cells #[J8 b,v] 156 (0,0)):=by rw [hg.block b hlt fun e=>hne e.symm]; exact hb
 refine ⟨h1,hB,v',?_,?_,hne'⟩
 ·exact a60 b 156 [v'] 1 w' [J8 b,v] h1 (Nat.le_refl 2)
 ·obtain ⟨a1,a2⟩:=hown
  refine ⟨a1,a2.imp id fun ⟨g,cap,cur,e,hg,hh,r⟩=>⟨g,cap,cur,e,hg,?_,r⟩⟩
  rw [a4G b _ 1 w' g (by rintro rfl; rw [e] at hne'; exact hne' rfl)]
  exact hh
theorem c9U {b B:Nat}{T:TypeId}{cs:List Value}{w w':World}{v v':Value}{n:Nat}(hlt:b<w.heap.size)(hb:w.heap[b]?=some (.cells #[J8 b,v] 156 (0,0)))(hne:v.ownBlock≠some b)(hg:w.grownBy w' v.ownBlock)(hown:w'.ownsRow B 5 1 v' n cs):v'.ownBlock≠some b:=by
 intro e
 rcases hown.2 with ⟨rfl,_⟩ | ⟨g,cap,cur,rfl,_,hh,_⟩
 ·cases e
 ·cases e
  rw [hg.block g hlt fun e=>hne e.symm,hb] at hh
  cases hh
theorem bws {b B:Nat}{bs:List Value}{s:ByteArray}{w:World}(h:Lib.IsBuilder 156 5 B b bs w)(hlen:bs.length+s.size<=1000000000)(hBw:B<=w.heap.size) :
 Calls Go.Proofs.Tryz.prog 136 [J8 b,.string s].toArray w fun e w'=>(∃ v,e=.returned v)/\Lib.BuilderAt 156 5 B b (J8 b) (bs++Lib.strCells s) w'/\Bw B w w':=by
 obtain ⟨p,hp,h⟩:=c9F h
 obtain ⟨i,hi,hz⟩:∃ i,Go.Proofs.Tryz.prog.info? 5=some i/\(i.zero,i.size,i.bytes)=(some (.int .u8 0),1,1):=Option.map_eq_some_iff.1 (by kernel_rfl)
 simp only [Prod.mk.injEq] at hz
 refine c14 19 Go.Proofs.Tryz.func136 rfl rfl rfl ?_
 refine wp_seq (wp_region_lit ?_)
 refine a3z (.int .i64 0) rfl rfl ?_
 refine a3z .nilIface rfl rfl ?_
 refine wpList_nil (a0i (wp_seq (wp_region_lit ?_)))
 refine a1V (J8 b) rfl rfl ?_
 refine a9d [J8 b] rfl rfl d2y (d2B hp h) ?_
 rintro e w1 ⟨rfl,hat,hbw⟩
 refine ⟨_,rfl,?_⟩
 refine wpList_nil (a0i (wp_seq (wp_region_lit ?_)))
 obtain ⟨hB,v,hb,hown,hne⟩:=hat
 have c1:w1.cell? ⟨b,1,none⟩=some v:=by simp [World.cell?,hb]
 have hlt:b<w1.heap.size:=(Array.getElem?_eq_some_iff.1 hb).1
 refine a1V (J8 b) rfl rfl ?_
 refine a1V (J8 b) rfl rfl ?_
 refine a3L ⟨b,0,none⟩ rfl rfl ?_
 refine a1f b 0 1 1 rfl rfl c2y rfl ?_
 refine a4m b 1 v rfl rfl (a3S c6q c1) ?_
 refine a1V (.string s) rfl rfl ?_
 obtain ⟨v',w2,hr,hown',hg,_⟩:=Lib.run_append_own_string (P:=Go.Proofs.Tryz.prog) (w:=w1) B 154 9 154 5 i Go.Proofs.Tryz.underlying154 Go.Proofs.Tryz.underlying9 hi hz.1 hz.2.1 hz.2.2 v bs.length bs hown s (by unfold maxLen; omega) (by omega) (Nat.le_trans hBw hbw.below.size)
 refine c4F rfl rfl rfl rfl hr ?_
 have hd:=b4A _ hr
 have hl:bs.length+s.size=(bs++Lib.strCells s).length:=by rw [List.length_append,Lib.strCells_length]
 rw [hl] at hown'
 have hne':=c9U (T:=5) hlt hb hne hg hown'
 obtain ⟨hb2,hat2⟩:=d4B hB hb hne hg hown' hne'
 refine a3L ⟨b,0,none⟩ rfl rfl ?_
 refine a1f b 0 1 1 rfl rfl c2y rfl ?_
 have hv1:v'.cells.toList=[v']/\v'.oneCell'=true:=by
  rcases hown'.2 with ⟨rfl,_⟩ | ⟨g,cap,cur,rfl,_⟩
  ·exact ⟨rfl,rfl⟩
  ·exact ⟨rfl,rfl⟩
 refine c1G (cs:=[J8 b,v]) hb2 1 v' rfl rfl rfl rfl hv1.1 (by kernel_rfl) hv1.2 (Nat.lt_succ_self 1) ?_
 refine wpList_nil (a0i (wp_seq (wp_region_lit ?_)))
 refine a1V (.string s) rfl rfl ?_
 refine c7b s rfl rfl Go.Proofs.Tryz.underlying9 ?_
 refine a3z (.int .i64 (s.size:Int)) rfl rfl ?_
 refine a3z .nilIface rfl rfl ?_
 refine wpList_nil (a0i (wp_ret (d5u (.int .i64 (s.size:Int)) .nilIface rfl rfl rfl rfl rfl ⟨⟨_,rfl⟩,hat2,?_⟩)))
 exact hbw.trans ((Bw.grown hg hd (c2z hown) (Nat.le_trans hBw hbw.below.size)).trans (Bw.setCells hB 1 _ w2))
theorem bwb {b B:Nat}{bs:List Value}{c:Int}{w:World}(h:Lib.IsBuilder 156 5 B b bs w)(hlen:bs.length+1<=1000000000)(hBw:B<=w.heap.size) :
 Calls Go.Proofs.Tryz.prog 135 [J8 b,.int .u8 c].toArray w fun e w'=>(∃ v,e=.returned v)/\Lib.BuilderAt 156 5 B b (J8 b) (bs++[.int .u8 c]) w'/\Bw B w w':=by
 obtain ⟨p,hp,h⟩:=c9F h
 obtain ⟨i,hi,hz⟩:∃ i,Go.Proofs.Tryz.prog.info? 5=some i/\(i.zero,i.size,i.bytes)=(some (.int .u8 0),1,1):=Option.map_eq_some_iff.1 (by kernel_rfl)
 simp only [Prod.mk.injEq] at hz
 refine c14 17 Go.Proofs.Tryz.func135 rfl rfl rfl ?_
 refine wp_seq (wp_region_lit ?_)
 refine a3z .nilIface rfl rfl ?_
 refine wpList_nil (a0i (wp_seq (wp_region_lit ?_)))
 refine a1V (J8 b) rfl rfl ?_
 refine a9d [J8 b] rfl rfl d2y (d2B hp h) ?_
 rintro e w1 ⟨rfl,hat,hbw⟩
 refine ⟨_,rfl,?_⟩
 refine wpList_nil (a0i (wp_seq (wp_region_lit ?_)))
 obtain ⟨hB,v,hb,hown,hne⟩:=hat
 have c1:w1.cell? ⟨b,1,none⟩=some v:=by simp [World.cell?,hb]
 have hlt:b<w1.heap.size:=(Array.getElem?_eq_some_iff.1 hb).1
 refine a1V (J8 b) rfl rfl ?_
 refine a1V (J8 b) rfl rfl ?_
 refine a3L ⟨b,0,none⟩ rfl rfl ?_
 refine a1f b 0 1 1 rfl rfl c2y rfl ?_
 refine a4m b 1 v rfl rfl (a3S c6q c1) ?_
 refine a1V (.int .u8 c) rfl rfl ?_
 refine d1z (v:=.int .u8 c) Go.Proofs.Tryz.underlying154 hi hz.1 hz.2.1 rfl rfl rfl rfl rfl ?_
 have hbw1:Bw B w1 (w1.alloc (.cells #[.int .u8 c] 5)):=⟨(Below.refl _ _).alloc (Nat.le_trans hBw hbw.below.size) _,Nat.le_refl _⟩
 have hb1:(w1.alloc (.cells #[.int .u8 c] 5)).heap[b]?=some (.cells #[J8 b,v] 156 (0,0)):=by rw [heap_alloc_old _ _ hlt]; exact hb
 have hown1:(w1.alloc (.cells #[.int .u8 c] 5)).ownsRow B 5 1 v bs.length bs:=by
  obtain ⟨a1,a2⟩:=hown
  refine ⟨a1,a2.imp id fun ⟨g,cap,cur,e,hg,hh,r⟩=>⟨g,cap,cur,e,hg,?_,r⟩⟩
  rw [heap_alloc_old _ _ (Array.getElem?_eq_some_iff.1 hh).1]
  exact hh
 have hlt1:b<(w1.alloc (.cells #[.int .u8 c] 5)).heap.size:=(Array.getElem?_eq_some_iff.1 hb1).1
 have hBw1:=Nat.le_trans (Nat.le_trans hBw hbw.below.size) hbw1.below.size
 obtain ⟨v',w2,hr,hown',hg,_⟩:=run_append_own (P:=Go.Proofs.Tryz.prog) (w:=w1.alloc (.cells #[.int .u8 c] 5)) B 154 154 5 i (.int .u8 0) 1 1 Go.Proofs.Tryz.underlying154 hi hz.1 hz.2.1 hz.2.2 rfl Nat.zero_lt_one v bs.length bs hown1 ⟨w1.heap.size,0,none⟩ 1 1 [.int .u8 c] rfl (fun j u hj=>by
  have hj0:j=0:=by
   rcases j with _ | j
   ·rfl
   ·simp at hj
  subst hj0
  simp at hj
  subst hj
  rw [show (Addr.add ⟨w1.heap.size,0,none⟩ 0:Addr)=⟨w1.heap.size,0,none⟩ from rfl,World.cell?,heap_alloc_new]
  rfl) (fun u hu=>by simp at hu; subst hu; rfl) (by unfold maxLen; omega) (by omega) hBw1
 refine c4F rfl rfl rfl rfl hr ?_
 have hd:=b4A _ hr
 rw [show bs.length+1=(bs++[Value.int .u8 c]).length by simp] at hown'
 have hne':=c9U (T:=5) hlt1 hb1 hne hg hown'
 obtain ⟨hb2,hat2⟩:=d4B hB hb1 hne hg hown' hne'
 refine a3L ⟨b,0,none⟩ rfl rfl ?_
 refine a1f b 0 1 1 rfl rfl c2y rfl ?_
 have hv1:v'.cells.toList=[v']/\v'.oneCell'=true:=by
  rcases hown'.2 with ⟨rfl,_⟩ | ⟨g,cap,cur,rfl,_⟩
  ·exact ⟨rfl,rfl⟩
  ·exact ⟨rfl,rfl⟩
 refine c1G (cs:=[J8 b,v]) hb2 1 v' rfl rfl rfl rfl hv1.1 (by kernel_rfl) hv1.2 (Nat.lt_succ_self 1) ?_
 refine wpList_nil (a0i (wp_seq (wp_region_lit ?_)))
 refine a3z .nilIface rfl rfl ?_
 refine wpList_nil (a0i (wp_ret (d5S .nilIface rfl rfl rfl ⟨⟨_,rfl⟩,hat2,?_⟩)))
 exact hbw.trans (hbw1.trans ((Bw.grown hg hd (c2z hown1) hBw1).trans (Bw.setCells hB 1 _ w2)))
end Go.Qx
end
section
namespace Go.Proofs
open Go.RowKit
set_option maxRecDepth 100000
set_option maxHeartbeats 4000000 in
theorem Tryz.bstr1 {b g cap:Nat}{cur:Array Value}{p:Value}{l:List UInt8}{w:World}(hb:w.heap[b]?=some (.cells #[p,.slice (some ⟨g,0,none⟩) l.length cap] 156 (0,0)))(hg:w.heap[g]?=some (.cells cur 5 (0,0)))
 (h0:l≠[]) (hnc:l.length<=cap) (hcs:cur.size=cap) (hcm:l.length<=1000000000) (hc:∀ (j:Nat) (x:UInt8),l[j]?=some x->cur[j]?=some (Value.int IntKind.u8 (x.toNat:Int))) :
 Calls Tryz.prog 138 #[.pointer (some ⟨b,0,none⟩)] w fun e w'=>e=.returned (.string ⟨l.toArray⟩)/\w'=w.drew.freeze ⟨g,0,none⟩ l.length:=by
 have hl0:l.length≠0:=by simpa using h0
 have hb':w.drew.heap[b]?=some (.cells #[p,.slice (some ⟨g,0,none⟩) l.length cap] 156 (0,0)):=hb
 have hg':w.drew.heap[g]?=some (.cells cur 5 (0,0)):=hg
 have c1:w.drew.cell? ⟨b,1,none⟩=some (.slice (some ⟨g,0,none⟩) l.length cap):=by simp [World.cell?,hb']
 have hSD:(Builtin.unsafeSliceData_ #[154] 193 #[.slice (some ⟨g,0,none⟩) l.length cap]).run Tryz.prog w.drew=.ok (.pointer (some ⟨g,0,none⟩)) w.drew :=
  Lib.run_unsafeSliceData_row _ _ _ _ _ _ (by omega)
 have hUS:(Builtin.unsafeString_ #[193,3] 9 #[.pointer (some ⟨g,0,none⟩),.int .i64 l.length]).run Tryz.prog w.drew=.ok (.string ⟨l.toArray⟩) (w.drew.freeze ⟨g,0,none⟩ l.length) :=
  Lib.run_unsafeString_row w.drew 193 3 9 5 Tryz.underlying193 (by kernel_rfl) g cur.size (by simp [World.shape?,hg']) l h0 (by omega) (by omega) (fun j x hx=>by
   have:=hc j x hx
   have e:((⟨g,0,none⟩:Addr).add j)=⟨g,j,none⟩:=by rcases j with _ | j<;>simp [Addr.add]
   rw [e]
   simp [World.cell?,hg',this])
 go_enter Tryz.func138,Tryz.ntmps138
 go_wp2
 go_region
 all_goals (go_wp2; go_ret; exact ⟨rfl,rfl⟩)
set_option maxHeartbeats 4000000 in
theorem Tryz.bstr0 {b:Nat}{p:Value}{w:World}(hb:w.heap[b]?=some (.cells #[p,.slice none 0 0] 156 (0,0))) :
 Calls Tryz.prog 138 #[.pointer (some ⟨b,0,none⟩)] w fun e w'=>e=.returned (.string ⟨#[]⟩)/\w'=w.drew:=by
 have hb':w.drew.heap[b]?=some (.cells #[p,.slice none 0 0] 156 (0,0)):=hb
 have c1:w.drew.cell? ⟨b,1,none⟩=some (.slice none 0 0):=by simp [World.cell?,hb']
 have hSD:(Builtin.unsafeSliceData_ #[154] 193 #[.slice none 0 0]).run Tryz.prog w.drew=.ok (.pointer none) w.drew:=Lib.run_unsafeSliceData_nil _ _ _ _ _
 have hUS:(Builtin.unsafeString_ #[193,3] 9 #[.pointer none,.int .i64 0]).run Tryz.prog w.drew=.ok (.string .empty) w.drew:=Lib.run_unsafeString_none _ _ _ _ _
 go_enter Tryz.func138,Tryz.ntmps138
 go_wp2
 go_region
 all_goals (go_wp2; go_ret; exact ⟨rfl,rfl⟩)
end Go.Proofs
end
section
namespace Go.Qx
open Go Go.RowKit Go.Sx
set_option maxHeartbeats 1600000
set_option maxRecDepth 100000
abbrev RK (r:Row I):Prop:=j5 Go.Proofs.Tryz.prog r
abbrev RO (r:Rio I):Prop:=b4P Go.Proofs.Tryz.prog r
def mkH (a:List (Nat×List (List Nat)))(b c:List (Nat×List Nat))(j:List (Nat×JH))(l:List (Nat×LH I))(k:List (Nat×KH I))(ns:List (Nat×NH I)):Hints I :=
 ⟨fun i=>(asc a i).getD [],fun i=>(asc b i).getD [],fun i=>(asc c i).getD [],asc j,asc l,asc k,asc ns⟩
def Y3:Hints I:=mkH [] [] [] [] [] [] []
structure En where
 ans:Ans I
 ok:EntOk Go.Proofs.Tryz.prog ans
def enL:List En->List (Ans I)
 | []=>[]
 | e::r=>e.ans::enL r
theorem c5L:∀ l:List En,c9y Go.Proofs.Tryz.prog (enL l)
 | []=>trivial
 | e::r=>⟨e.ok,c5L r⟩
def eR {r:Row I}(h:RK r):En:=⟨d4J tb r,d3w b2B h⟩
def eO {r:Rio I}(h:RO r):En:=⟨d4w tb r,d3T b2B h⟩
def eS {r:Row I}(T f j:Nat)(is:List Nat)(h:b1j Go.Proofs.Tryz.prog r (c0F T f j is)):En:=⟨d27 tb r (c35 T f j is),c5v b2B h (fun _ _ _ _ _ _ _ _ _ hO h hc hv=>c8F hO h hc hv)⟩
theorem okR {r:Row I}(l:List En){fn:Func}(nt:Nat)(H:Hints I)(rl:List ResultVar)(hf:(Go.Proofs.Tryz.prog).funcs[r.f]?=some fn)
 (h : (fn.body, fn.name == "runtime.NumGoroutine", fn.ntmps, fn.results.toList, Nat.ble r.ps.length nt, a4h H (c8Q fn) 1, r.run) = (some (c8Q fn), false, nt, rl, true, true, c1v r.ps (d28 tb (c29 (enL l) 3) H (c8Q fn) nt r.ps r.rs rl))) : RK r := by
 simp only [Prod.mk.injEq] at h
 obtain ⟨h1,h2,h3,h4,h5,h6,h7⟩:=h
 exact d4i b2B (c2m (c5L l) 3) mixed nt hf h1 h2 h3 h4 h5 h6 h7
def d36:Row I:=⟨252,[.d (.str),.d (.str)],[.k (.d (.int .i64))],c56⟩
theorem d4C:j5 Go.Proofs.Tryz.prog d36:=d42 Go.Proofs.Tryz.func252 (by kernel_rfl) rfl (by kernel_rfl) (by kernel_rfl)
def d4O:Row I:=⟨64,[.d (.sl 3)],[.k (.row 3 false)],a0y 8⟩
theorem c5g:j5 Go.Proofs.Tryz.prog d4O:=a7C b2B mixed Go.Proofs.Tryz.func64 (by kernel_rfl) (by kernel_rfl) (by kernel_rfl) Go.Proofs.Tryz.underlying22 rfl (by kernel_rfl) (fun _=>by kernel_rfl)
def d34:Rio I:=⟨114,3,[],[],c3Y⟩
theorem d43:b4P Go.Proofs.Tryz.prog d34:=d03 (I:=I) (E:=3) Go.Proofs.Tryz.lay114 114 (by kernel_rfl) (fun x=>x) Iff.rfl ⟨_,_,Go.Proofs.Tryz.func114,rfl,by kernel_rfl⟩
def d39:Rio I:=⟨76,9,[],[],b2W⟩
theorem d2L:b4P Go.Proofs.Tryz.prog d39:=c93 (I:=I) (E:=9) Go.Proofs.Tryz.lay76 76 (by kernel_rfl) (fun x=>x) Iff.rfl ⟨_,_,Go.Proofs.Tryz.func76,rfl,by kernel_rfl⟩
noncomputable def d3q:Rio I:=⟨231,126,[.fn [.dat 126,.dat 126] [.k (.d (.int .i64))]],[],b7O⟩
theorem d4K:b4P Go.Proofs.Tryz.prog d3q:=d0A Go.Proofs.Tryz.lay231 231 (by kernel_rfl) (by kernel_rfl) Go.Proofs.Tryz.underlying126 (by kernel_rfl)
def d4u:Row I:=⟨42,[.d (.sl 9)],[.k (.row 9 false)],a0y 16⟩
theorem c8X:j5 Go.Proofs.Tryz.prog d4u:=a7C b2B mixed Go.Proofs.Tryz.func42 (by kernel_rfl) (by kernel_rfl) (by kernel_rfl) Go.Proofs.Tryz.underlying31 rfl (by kernel_rfl) (fun _=>by kernel_rfl)
def d3W:Row I:=⟨169,[.d (.sl 33)],[.k (.row 33 false)],a0y 128⟩
theorem d4M:j5 Go.Proofs.Tryz.prog d3W:=a7C b2B mixed Go.Proofs.Tryz.func169 (by kernel_rfl) (by kernel_rfl) (by kernel_rfl) Go.Proofs.Tryz.underlying28 rfl (by kernel_rfl) (fun _=>by kernel_rfl)
def b8A:Hints I:=mkH [] [] [] [] [(26,⟨65532,[],[],[(3,.k (.d (.int .i64)))],[((.exit 0),[]),(.ret,[(2,.k (.d (.bool)))])],bnd tb (.len (.slot 0)) 1⟩)] [] []
def b53:Row I:=⟨7,[.d (.sl 22)],[.k (.d (.bool))],a54⟩
theorem b7S:RK (b53) :=
 okR [] 16 b8A [.tmp 2] Go.Proofs.Tryz.func7 (by kernel_rfl)
def b7w:Hints I:=mkH [] [] [] [(29,⟨16776824,[],[],[(.normal,[(3,.k (.d (.bool))),(4,.k (.d (.bool))),(5,.k (.d (.bool))),(6,.k (.d (.bool)))])]⟩),
 (941,⟨26624,[],[],[(.normal,[(11,.k (.d (.bool)))])]⟩),
 (3773,⟨4096000,[],[],[(.normal,[(15,.k (.d (.bool)))])]⟩)] [] [] []
def b5O:Row I:=⟨60,[.d (.dat 65)],[.k (.d (.bool))],a5H⟩
theorem b6W:RK (b5O) :=
 okR [] 67 b7w [.tmp 2] Go.Proofs.Tryz.func60 (by kernel_rfl)
def c31:Hints I:=mkH [] [] [] [] [(58,⟨34351349952,[],[],[(7,.k (.d (.int .i64)))],[((.exit 0),[]),(.ret,[(6,.k (.d (.bool)))])],bnd tb (.len (.slot 0)) 1⟩)] [] []
def c1I:Row I:=⟨170,[.d (.str),.fn [.int .u8] [.k (.d (.bool))],.fn [.int .u8] [.k (.d (.bool))]],[.k (.d (.bool))],a7X⟩
theorem b4J:RK (c1I) :=
 okR [] 35 c31 [.tmp 6] Go.Proofs.Tryz.func170 (by kernel_rfl)
def c1b:Row I:=⟨171,[.d (.int .u8)],[.k (.d (.bool))],a5u⟩
theorem a81:RK (c1b) :=
 okR [] 9 Y3 [.tmp 2] Go.Proofs.Tryz.func171 (by kernel_rfl)
def c01:Row I:=⟨173,[.d (.int .u8)],[.k (.d (.bool))],a67⟩
theorem b3u:RK (c01) :=
 okR [] 9 Y3 [.tmp 2] Go.Proofs.Tryz.func173 (by kernel_rfl)
def c0o:Row I:=⟨172,[.d (.int .u8)],[.k (.d (.bool))],b0k⟩
theorem c07:RK (c0o) :=
 okR [eR a81,eR b3u] 13 Y3 [.tmp 2] Go.Proofs.Tryz.func172 (by kernel_rfl)
def c1S:Row I:=⟨119,[.d (.str)],[.k (.d (.bool))],a6o⟩
theorem a9Y:RK (c1S) :=
 okR [eR b4J,eR a81,eR c07] 5 Y3 [.tmp 2] Go.Proofs.Tryz.func119 (by kernel_rfl)
def c06:Row I:=⟨174,[.d (.int .u8)],[.k (.d (.bool))],a63⟩
theorem b4a:RK (c06) :=
 okR [] 9 Y3 [.tmp 2] Go.Proofs.Tryz.func174 (by kernel_rfl)
def b5E:Row I:=⟨175,[.d (.int .u8)],[.k (.d (.bool))],a7U⟩
theorem b58:RK (b5E) :=
 okR [eR a81,eR b4a,eR b3u] 17 Y3 [.tmp 2] Go.Proofs.Tryz.func175 (by kernel_rfl)
def b7q:Row I:=⟨120,[.d (.str)],[.k (.d (.bool))],a3t⟩
theorem b0e:RK (b7q) :=
 okR [eR b4J,eR b4a,eR b58] 5 Y3 [.tmp 2] Go.Proofs.Tryz.func120 (by kernel_rfl)
def b9P:Row I:=⟨176,[.d (.dat 130)],[.k (.d (.bool))],a4H⟩
theorem b2g:RK (b9P) :=
 okR [eR a9Y] 16 Y3 [.tmp 2] Go.Proofs.Tryz.func176 (by kernel_rfl)
def c1d:Row I:=⟨238,[.d (.int .i64)],[.k (.d (.bool))],a8R⟩
theorem c1F:RK (c1d) :=
 okR [] 6 Y3 [.tmp 2] Go.Proofs.Tryz.func238 (by kernel_rfl)
def b8I:Row I:=⟨221,[.d (.int .i64),.d (.int .i64)],[.k (.d (.int .i64))],a0Q⟩
theorem a2F:RK (b8I) :=
 okR [eR c1F] 20 Y3 [.tmp 4] Go.Proofs.Tryz.func221 (by kernel_rfl)
def a8p:Row I:=⟨239,[.d (.str),.d (.str)],[.k (.d (.int .i64))],a21⟩
theorem a8L:RK (a8p) :=
 okR [eR d4C] 8 Y3 [.tmp 4] Go.Proofs.Tryz.func239 (by kernel_rfl)
def b82:Row I:=⟨216,[.d (.str),.d (.str)],[.k (.d (.int .i64))],a0p⟩
theorem a7S:RK (b82) :=
 okR [eR a8L] 8 Y3 [.tmp 4] Go.Proofs.Tryz.func216 (by kernel_rfl)
def b55:Row I:=⟨177,[.d (.dat 130),.d (.dat 130)],[.k (.d (.int .i64))],a0g⟩
theorem a6G:RK (b55) :=
 okR [eR a2F,eR a7S] 19 Y3 [.tmp 4] Go.Proofs.Tryz.func177 (by kernel_rfl)
def b5e:Hints I:=mkH [(4,[[],[0],[0,1],[0,1,2],[0,1,2,3],[0,1,2,3,4],[0,1,2,3,4,5],[0,1,2,3,4,5,6],[0,1,2,3,4,5,6,7],[0,1,2,3,4,5,6,7],[0,1,2,3,4,5,6,7,9],[0,1,2,3,4,5,6,7,8,9,10],[0,1,2,3,4,5,6,7,8,9,10,11],[0,1,2,3,4,5,6,7,8,9,10,11,12],[0,1,2,3,4,5,6,7],[0,1,2,3,4,5,6,7,14],[0,1,2,3,4,5,6,7,8,9,10,11,12,13,14,15],[0,1,2,3,4,5,6,7,8,9,10,11,12,13,14,15,16],[0,1,2,3,4,5,6,7,8,9,10,11,12,13,14,15,16,17],[0,1,2,3,4,5,6,7,8,9,10,11,12,13,14,15,16,17,18]])] [] [] [] [(26,⟨8589934492,[],[],[(7,.k (.d (.int .i64)))],[((.exit 0),[]),(.ret,[(2,.k (.d (.bool)))])],bnd tb (.slot 6) 1⟩)] [] []
def b3V:Row I:=⟨121,[.d (.sl 148)],[.k (.d (.bool))],a4t⟩
theorem b4n:RK (b3V) :=
 okR [eR b2g,eR a6G] 33 b5e [.tmp 2] Go.Proofs.Tryz.func121 (by kernel_rfl)
def b8g:Hints I:=mkH [] [] [] [(105,⟨16288,[],[],[(.normal,[(5,.k (.d (.bool)))])]⟩),
 (28311549,⟨368934881474191032320,[],[],[(.normal,[(66,.k (.d (.bool)))])]⟩)] [] [] []
def b5K:Row I:=⟨61,[.d (.dat 65)],[.k (.d (.bool))],a5z⟩
theorem b6c:RK (b5K) :=
 okR [eR a9Y,eR b0e,eR b4n] 79 b8g [.tmp 2] Go.Proofs.Tryz.func61 (by kernel_rfl)
def c1Q:Hints I:=mkH [] [] [] [] [(58,⟨4190248,[],[],[(3,.k (.row 3 false)),(12,.k (.d (.int .i64)))],[((.exit 0),[(3,.k (.row 3 false))])],bnd tb (.slot 11) 1⟩)] [] []
def b9Q:Row I:=⟨62,[.d (.dat 65)],[.k (.row 3 false)],a79⟩
theorem c0X:RK (b9Q) :=
 okR [eR c5g] 35 c1Q [.tmp 2] Go.Proofs.Tryz.func62 (by kernel_rfl)
def b5a:Row I:=⟨123,[.d (.int .i64)],[.k (.d (.bool))],a5y⟩
theorem b6Q:RK (b5a) :=
 okR [] 13 Y3 [.tmp 2] Go.Proofs.Tryz.func123 (by kernel_rfl)
def b4c (_:Nat):Hints I:=mkH [] [] [] [] [(122,⟨140462610448544,[],[(1,.k (.row 3 false))],[(38,.k (.d (.int .i64)))],[((.exit 0),[]),(.ret,[(5,.k (.d (.bool)))])],bnd tb (.slot 37) 1⟩)] [] []
def a4b (n:Nat):Row I:=⟨122,[.d (.int .i64),.var 22 (.k (.row 3 false)) true,.var 27 (.k (.d (.dat 27))) false,.var 106 (.k (.d .any)) false],[.k (.d (.bool))],Q6 n⟩
theorem b1N (n:Nat)(h_typeexpr_contractive_1:b1j Go.Proofs.Tryz.prog (a4b n) (c0F 106 122 3 [1,2,3])):b1j Go.Proofs.Tryz.prog (a4b (n+1)) (c0F 106 122 3 [1,2,3]) :=
 d3f b2B (c2m (c5L [eR b6Q,eS 106 122 3 [1,2,3] h_typeexpr_contractive_1]) 3) mixed 50 (s0:=fun a=>d21 106 122 3 3 [1,2,3] (b5p tb 50 [.d (.int .i64),.var 22 (.k (.row 3 false)) true,.var 27 (.k (.d (.dat 27))) false,.var 106 (.k (.d .any)) false] a)) (fn:=Go.Proofs.Tryz.f122) (cd:=c8Q Go.Proofs.Tryz.f122) (H:=(b4c n)) (rl:=[.tmp 5]) (fun X c σ a vs F h hv hC=>d16 rfl rfl rfl h hv hC) Go.Proofs.Tryz.func122 (by kernel_rfl) (by kernel_rfl) (by kernel_rfl) (by kernel_rfl) (by kernel_rfl) (by kernel_rfl) (by kernel_rfl)
theorem a7l:∀ n:Nat,b1j Go.Proofs.Tryz.prog (a4b n) (c0F 106 122 3 [1,2,3])
 | 0=>d0x (Q8 (by kernel_rfl))
 | n+1=>b1N n (a7l n)
def b5X (_:Nat):Hints I:=mkH [] [] [] [] [(250,⟨4177956,[],[(3,.k (.row 3 false))],[(14,.k (.d (.int .i64)))],[((.exit 0),[]),(.ret,[(2,.k (.d (.bool)))])],bnd tb (.slot 13) 1⟩)] [] []
def b3v (n:Nat):Row I:=⟨63,[.d (.dat 27)],[.k (.d (.bool))],a4C n⟩
theorem b4x (n:Nat):RK (b3v n) :=
 okR [eS 106 122 3 [1,2,3] (a7l n)] 22 (b5X n) [.tmp 2] Go.Proofs.Tryz.func63 (by kernel_rfl)
def b6R (_:Nat):Hints I:=mkH [] [] [] [] [(58,⟨2251799811588180,[],[],[(21,.k (.d (.int .i64)))],[((.exit 0),[]),(.ret,[(2,.k (.d (.int .i64)))])],bnd tb (.slot 20) 1⟩),
 (29902,⟨1125831187365956,[34],[],[(36,.k (.d (.int .i64)))],[((.exit 2),[]),(.ret,[(2,.k (.d (.int .i64)))])],bnd tb (.slot 35) 1⟩)] [] []
def b4q (n:Nat):Row I:=⟨29,[.d (.dat 27)],[.k (.d (.int .i64))],a0A n⟩
theorem a5Q (n:Nat):RK (b4q n) :=
 okR [eR b6W,eR b6c,eR c0X,eR (b4x n)] 54 (b6R n) [.tmp 2] Go.Proofs.Tryz.func29 (by kernel_rfl)
def c4X:Hints I:=mkH [(1,[[],[0],[0,1],[],[3],[0,1,2,3,4],[0,1,2,3,4,5],[]])] [] [] [] [(26,⟨268419152,[12],[],[(14,.k (.d (.int .i64)))],[((.exit 0),[]),(.ret,[(4,.k (.d (.bool)))])],bnd tb (.slot 13) 1⟩)] [] []
def c2Z:Row I:=⟨30,[.d (.dat 27),.d (.dat 37)],[.k (.d (.bool))],a5L⟩
theorem b0z:RK (c2Z) :=
 okR [eR c5g] 28 c4X [.tmp 4] Go.Proofs.Tryz.func30 (by kernel_rfl)
def b3f:Hints I:=mkH [(6,[[],[],[0,1],[0,1,2],[],[],[5],[4,5,6],[4,5,6,7],[0,1,2,3,4,5,6,7,8]]),(11,[[],[],[0,1],[0,1,2],[],[],[5],[4,5,6],[4,5,6,7],[0,1,2,3,4,5,6,7,8]])] [] [] [] [(58,⟨1152921504606846012,[],[],[(0,.k (.row 3 false)),(3,.k (.d (.int .i64)))],[((.exit 0),[(0,.k (.row 3 false))]),(.ret,[(2,.k (.row 3 false))])],bnd tb (.len (.slot 0)) 1⟩)] [(59690,⟨18014397972611112,0,3,[(3,.k (.d (.int .i64))),(5,.k (.d (.int .i64)))],[((.exit 2),[(3,.k (.d (.int .i64)))])],bnd tb (.len (.slot 4)) 1⟩)] []
def b2c:Row I:=⟨116,[.row 3 false],[.k (.row 3 false)],a3I⟩
theorem b2H:RK (b2c) :=
 okR [] 61 b3f [.tmp 2] Go.Proofs.Tryz.func116 (by kernel_rfl)
def b4t:Row I:=⟨115,[.d (.sl 3)],[.k (.row 3 true)],a7j⟩
theorem b4V:RK (b4t) :=
 okR [] 9 Y3 [.tmp 2] Go.Proofs.Tryz.func115 (by kernel_rfl)
def c20:Row I:=⟨58,[.d (.sl 3)],[.k (.row 3 true)],a5N⟩
theorem b6b:RK (c20) :=
 okR [eR c5g,eO d43,eR b2H,eR b4V] 11 Y3 [.tmp 2] Go.Proofs.Tryz.func58 (by kernel_rfl)
def c02:Hints I:=mkH [(1,[[],[0],[0,1],[],[3],[0,1,2,3,4],[],[6],[0,1,2,3,4,5,6,7],[],[9],[0,1,2,3,4,5,6,7,8,9,10],[0,1,2,3,4,5,6,7,8,9,10,11],[0,1,2,3,4,5,6,7,8,9,10,11,12]])] [] [] [] [] [] []
def b8V:Row I:=⟨73,[.d (.dat 111)],[.lvs [.row 3 false,.row 3 false,.row 3 false,.row 3 false]],a5B⟩
theorem b09:RK (b8V) :=
 okR [eR c5g] 16 c02 [.cell 2 111] Go.Proofs.Tryz.func73 (by kernel_rfl)
def b84:Hints I:=mkH [] [] [] [(29901,⟨4293918720,[],[(10,.lvs [.row 3 false,.row 3 false,.row 3 false,.row 3 false])],[(.normal,[])]⟩)] [(58,⟨137438946944,[],[],[(7,.k (.row 111 false)),(13,.k (.d (.int .i64)))],[((.exit 0),[(7,.k (.row 111 false))])],bnd tb (.slot 12) 1⟩)] [] []
def b7b:Row I:=⟨134,[.d (.dat 111),.d (.sl 3),.d (.bool)],[.k (.row 111 false)],a1W⟩
theorem b7i:RK (b7b) :=
 okR [eR b09] 38 b84 [.tmp 6] Go.Proofs.Tryz.func134 (by kernel_rfl)
def b8T:Hints I:=mkH [(14,[[],[0],[],[2],[2,3],[2,3,4],[2,3,4,5],[0,1,2,3,4,5,6],[0,1,2,3,4,5,6,7],[0,1,2,3,4,5,6,7,8]]),(30,[[],[0],[],[2],[2,3],[2,3,4],[2,3,4,5],[0,1,2,3,4,5,6],[0,1,2,3,4,5,6,7],[0,1,2,3,4,5,6,7,8]])] [] [] [(509,⟨170141183455517471574545782616287608848,[],[(2,.lvs [.d (.sl 3),.d (.sl 3),.d (.sl 3),.d (.sl 3)])],[(.normal,[]),(.ret,[(4,.k (.row 111 false))])]⟩),
 (1757,⟨590295810341525782544,[],[(2,.lvs [.d (.sl 3),.d (.sl 3),.d (.sl 3),.d (.sl 3)])],[(.normal,[]),(.ret,[(4,.k (.row 111 false))])]⟩)] [] [] []
def b6l:Row I:=⟨74,[.val (.lvs [.row 3 false,.row 3 false,.row 3 false,.row 3 false]),.d (.dat 27)],[.k (.row 111 false)],a4g⟩
theorem b7l:RK (b6l) :=
 okR [eR b7i] 129 b8T [.tmp 4] Go.Proofs.Tryz.func74 (by kernel_rfl)
def c49:Hints I:=mkH [(1,[[],[0],[0,1],[],[3],[0,1,2,3,4],[],[6],[0,1,2,3,4,5,6,7],[0,1,2,3,4,5,6,7,8]])] [] [] [] [] [] []
def c2w:Row I:=⟨27,[.d (.dat 37)],[.k (.d (.dat 37))],a7e⟩
theorem b0j:RK (c2w) :=
 okR [eR b6b] 12 c49 [.cell 2 37] Go.Proofs.Tryz.func27 (by kernel_rfl)
def c9L:Row I:=⟨75,[.d (.dat 37)],[.k (.d (.str))],b2T⟩
def b2v (c:UInt8)(xs:List Int)(q:Nat×List UInt8):Option (Fl (Nat×List UInt8) (List UInt8)):=match xs[q.1]? with
 | some n=>(a9h c q.2 n).map fun b=>.next (q.1+1,b)
 | none=>some (.done q.2)
theorem b79 {c:UInt8}{xs:List Int}:∀ (m i:Nat) {b r:List UInt8},xs.length-i=m->i<=xs.length->a7T c (xs.drop i) b=some r->iter (b2v c xs) (m+1) (i,b)=some r
 | 0,i,b,r,hm,hi,h=>by
   have e:i=xs.length:=by omega
   subst e
   rw [List.drop_length] at h
   cases h
   simp [iter,b2v]
 | m+1,i,b,r,hm,hi,h=>by
   have hlt:i<xs.length:=by omega
   rw [List.drop_eq_getElem_cons hlt] at h
   obtain ⟨b',h1,h2⟩:=bind_some h
   have:=b79 m (i+1) (by omega) (by omega) h2
   simp only [iter,b2v,List.getElem?_eq_getElem hlt,h1,Option.map_some]
   exact this
theorem d4G {P:Program}{w:World}{T:TypeId}{x y:Operand}{s t:ByteArray}(h:s.size+t.size<=1000000) :
 Y1 P w (do eqGuard .add T x y (.string s) (.string t); binOp .add T (.string s) (.string t)) (.string (s++t)):=by
 simp [Y1,eqGuard_at_string,binOp,Op.stringOp]
 omega
theorem d5K:a2b Go.Proofs.Tryz.prog 135:=⟨_,_,Go.Proofs.Tryz.func135,rfl,by kernel_rfl⟩
theorem d2S:a2b Go.Proofs.Tryz.prog 136:=⟨_,_,Go.Proofs.Tryz.func136,rfl,by kernel_rfl⟩
theorem d2W:a2b Go.Proofs.Tryz.prog 137:=⟨_,_,Go.Proofs.Tryz.func137,rfl,by kernel_rfl⟩
theorem d5l:a2b Go.Proofs.Tryz.prog 138:=⟨_,_,Go.Proofs.Tryz.func138,rfl,by kernel_rfl⟩
theorem c8s {n:Nat}(h:n<100)(w:World):Calls Go.Proofs.Tryz.prog 137 [Value.int .i64 (n:Int)].toArray w fun e w'=>e=.returned (.string ⟨(a3X n).toArray⟩)/\w'=w:=by
 have:=Go.Proofs.Any.strconv_Itoa_small Go.Proofs.Tryz.lay137 n h w
 rw [<- d0T h] at this
 exact this
def c0B (σ:S):Nat->Nat×Nat:=fun b=>if b<σ.N then σ.L b else (0,0)
theorem b9T {σ:S}{w:World}(h:Bw σ.N σ.w w):Wext σ ⟨w,c0B σ⟩ :=
 ⟨h.below.size,fun b hb=>by simp [c0B,hb],fun b o v ho hc=>(a2m (h.below.block b (a5v hc)) o).trans hc,h.drawn⟩
theorem c4M (l m:List UInt8):Lib.byteCells (l++m)=Lib.byteCells l++Lib.byteCells m:=by simp [Lib.byteCells]
theorem c1o (l:List UInt8):Lib.strCells ⟨l.toArray⟩=Lib.byteCells l:=by simp [Lib.strCells,Lib.byteCells]
theorem b7e (n:Nat):(a3X n).length<=2:=by
 unfold a3X
 cases Nat.blt n 10<;>simp
theorem d2N {P:Program}{w:World}{T:TypeId}{x y:Operand}{c:UInt8}{l:List UInt8}(h:l.length<=2) :
 Y1 P w (do eqGuard .add T x y (.string ⟨#[c]⟩) (.string ⟨l.toArray⟩); binOp .add T (.string ⟨#[c]⟩) (.string ⟨l.toArray⟩)) (.string ⟨(c::l).toArray⟩):=by
 have:=d4G (P:=P) (w:=w) (T:=T) (x:=x) (y:=y) (s:=⟨#[c]⟩) (t:=⟨l.toArray⟩) (by simp [ByteArray.size]; omega)
 have e:(⟨#[c]⟩++⟨l.toArray⟩:ByteArray)=⟨(c::l).toArray⟩:=by
  apply ByteArray.ext
  simp
 rw [e] at this
 exact this
theorem c7K {c:UInt8}{b r:List UInt8}{n:Int}(h:a9h c b n=some r):r.length<=1000003/\b.length<=r.length:=by
 unfold a9h at h
 obtain ⟨hc,h⟩:=j9 h
 cases h
 simp only [Bool.and_eq_true] at hc
 have:=Nat.le_of_ble_eq_true hc.2
 have:=b7e n.toNat
 simp
 omega
theorem b3j {c:UInt8}:∀ {xs:List Int} {b r:List UInt8},a7T c xs b=some r->b.length<=1000003->r.length<=1000003
 | [],b,r,h,hb=>by cases h; exact hb
 | n::xs,b,r,h,hb=>by
   obtain ⟨b',h1,h2⟩:=bind_some h
   exact b3j h2 (c7K h1).1
theorem c6O (w:World)(a:Addr)(n:Nat):(w.freeze a n).drawn=w.drawn:=by unfold World.freeze; split<;>rfl
theorem d6d {b B:Nat}{l:List UInt8}{w:World}(h:Lib.IsBuilder 156 5 B b (Lib.byteCells l) w)(hn:l=[]->w.heap[b]?=some (.cells #[.pointer none,.slice none 0 0] 156 (0,0)))(hl:l.length<=1000003) :
 Calls Go.Proofs.Tryz.prog 138 [J8 b].toArray w fun e w'=>e=.returned (.string ⟨l.toArray⟩)/\Bw B w w':=by
 have hdrew:Bw B w w.drew:=⟨(Below.refl B w).drew,Nat.le_succ _⟩
 by_cases h0:l=[]
 ·subst h0
  exact (Go.Proofs.Tryz.bstr0 (hn rfl)).mono fun e w' ⟨h1,h2⟩=>⟨h1,by subst h2; exact hdrew⟩
 ·obtain ⟨p,_,hB,v,hb,hown,hne⟩:=c9F h
  rw [Lib.byteCells_length] at hown
  rcases hown.2 with ⟨_,hz⟩ | ⟨g,cap,cur,rfl,hbg,hg,hnc,hcm,hcs,htake⟩
  ·exact absurd (List.length_eq_zero_iff.1 hz) h0
  ·refine (Go.Proofs.Tryz.bstr1 (l:=l) hb hg h0 hnc (by simpa using hcs) (by omega) fun j x hx=>?_).mono fun e w' ⟨h1,h2⟩=>⟨h1,?_⟩
   ·have h3:(Lib.byteCells l)[j]?=some (.int .u8 x.toNat):=by simp [Lib.byteCells,hx]
    rw [<- htake,List.getElem?_take] at h3
    split at h3
    ·rw [<- Array.getElem?_toList]; exact h3
    ·cases h3
   ·subst h2
    exact hdrew.trans ⟨Lib.below_freeze (Below.refl B w.drew) (p:=⟨g,0,none⟩) hbg _,Nat.le_of_eq (c6O _ _ _).symm⟩
theorem c6T {i:Nat}(h:i<9223372036854775807):wr .i64 ((i:Int)+1)=((i+1:Nat):Int):=by
 show IntKind.i64.wrap ((i:Int)+1)=_
 rw [IntKind.wrap_i64]
 omega
theorem c3g:j5 Go.Proofs.Tryz.prog c9L:=by
 refine c6I b2B 38 Go.Proofs.Tryz.func75 rfl (by kernel_rfl) rfl rfl rfl fun X c σ F Q a res hX hrel happ hk=>?_
 have happ:b2T a.1=some res:=happ
 obtain ⟨g,hg,happ⟩:=bind_some happ
 obtain ⟨b1,hb1,happ⟩:=bind_some happ
 obtain ⟨b2,hb2,happ⟩:=bind_some happ
 have h0:=hrel.frame 0 (.dat 37 a.1) rfl
 simp only [RV] at h0
 obtain ⟨cs,hF0,hcs⟩:=h0
 refine wp_seq (wp_region_lit ?_)
 refine d2T (B:=σ.N) 0 (Nat.le_refl _) (.agg cs.toArray) cs hF0 rfl rfl fun τ1 bx hx1 hblk=>?_
 refine a3z (.string ⟨#[]⟩) rfl rfl ?_
 refine wpList_nil (a0i (wp_seq (wp_region_lit ?_)))
 have hcs1:Rp.cells τ1 a.1 cs:=Rp.mono hx1.wext hcs
 have hl3:cs.length=3:=Rp.len (self:=rI 37) hcs
 have t37:c0r Go.Proofs.Tryz.prog 37 3:=⟨_,Go.Proofs.Tryz.underlying37,rfl,by kernel_rfl⟩
 refine a4m bx 0 (.agg cs.toArray) rfl rfl (c4P (hl3▸t37) (fun j v hv=>by rw [Nat.zero_add,hblk.cell]; exact hv)) ?_
 have hcall:=b0j τ1 (a.1,()) [.agg cs.toArray] [] g ⟨_,_,[],[],rfl,rfl,⟨⟨cs,rfl,hcs1⟩,rfl⟩,rfl,rfl⟩ List.nodup_nil hg
 refine b03 (o := ⟨some 9, .call ⟨.value (.func 27), #[.tmp 8], #[37]⟩, 37, "core.go:142", #[⟨0, .data⟩], none⟩) rfl hcall (c2l (xs := [.tmp 8]) rfl τ1.w) fun v9 τ2 st2 hpost => ?_
 obtain ⟨ws,us,pls',hpost⟩:=hpost
 obtain ⟨v,hws,⟨cs',hv,hcs2⟩,-⟩:=hpost.tt
 have hlen:=hpost.len
 have hret:=hpost.ret
 obtain ⟨rfl,rfl⟩:ws=[v]/\us=[]:=by
  rcases ws with _ | ⟨u,ws⟩
  ·cases hlen
  ·rcases ws with _ | ⟨u',ws⟩
   ·simp at hws; exact ⟨by rw [hws.1],hws.2⟩
   ·cases hlen
 have hret:v9=v:=hret
 subst hret
 subst hv
 have hl3':cs'.length=3:=Rp.len (self:=rI 37) hcs2
 have hne1:¬ bx∈ows ([]:List Pl):=fun h=>by cases h
 obtain ⟨k1,k2⟩:=st2.block bx hblk.lt hne1
 have hbl:(τ1.L bx)=(0,0):=hblk.2.2
 have hblk2:Blk σ.N 0 ⟨τ2.w,fun k=>if k=bx then (0,0) else τ2.L k⟩ bx 37 cs:=⟨hblk.1,k1.trans hblk.2.1,by simp⟩
 have hw2:Wext τ2 ⟨τ2.w,fun k=>if k=bx then (0,0) else τ2.L k⟩:=⟨Nat.le_refl _,fun k _=>by
  by_cases e:k=bx
  ·subst e; rw [k2,hbl]; exact Nat.zero_le _
  ·simp [e],fun _ _ _ _ h=>h,Nat.le_refl _⟩
 have hall:cs'.all (·.oneCell')=true:=List.all_eq_true.2 fun u hu=>Rp.one (self:=rI 37) hcs2 u hu
 refine c0R (σ:=⟨τ2.w,fun k=>if k=bx then (0,0) else τ2.L k⟩) hblk2 0 (.agg cs'.toArray) cs' cs' rfl rfl rfl rfl rfl (by rw [hl3']; kernel_rfl) hall (by rw [hl3',hl3]; rfl) (by rw [List.take_zero,Nat.zero_add,hl3',<- hl3,List.drop_length]; simp) fun τ3 hm3 hblk3=>?_
 have hcs3:=Rp.mono (self:=rI 37) (hw2.trans hm3.wext) hcs2
 refine wpList_nil (a0i (wp_seq (wp_region_lit ?_)))
 refine c8b (B:=τ3.N) 0 (Nat.le_refl _) (.agg #[.pointer none,.slice none 0 0]) [.pointer none,.slice none 0 0] (J3 (T:=156) (size:=2) (bytes:=32) (by kernel_rfl)) rfl fun τ4 b hx4 hb4=>?_
 have h4:Bw τ3.N τ3.w τ4.w:=⟨hx4.below,hx4.drawn⟩
 have hbuild:Lib.IsBuilder 156 5 τ3.N b [] τ4.w:=.inl ⟨hb4.1,.slice none 0 0,hb4.2.1,World.ownsRow_nil _ _ _ _,by simp [Value.ownBlock]⟩
 obtain ⟨cc1,cr1,e1,⟨A1,k1c,ec1,hs1⟩,cc2,cr2,e2,⟨A2,k2c,ec2,hs2⟩,hc3⟩:=hcs3
 have hcs':cs'=[.slice A1 g.Pos.length k1c,.slice A2 g.Neg.length k2c,.bool g.Lists]:=by
  have hc3:cr2=[.bool g.Lists]:=hc3
  rw [e1,e2,ec1,ec2,hc3]; rfl
 have hbxw:∀ w,Bw τ3.N τ3.w w->∀ i,w.cell? ⟨bx,i,none⟩=cs'[i]?:=fun w h i=>by rw [a2m (h.below.block bx hblk3.lt)]; exact hblk3.cell i
 have t22:a2Y Go.Proofs.Tryz.prog 22:=⟨_,Go.Proofs.Tryz.underlying22,rfl,by kernel_rfl⟩
 have t3:a2Y Go.Proofs.Tryz.prog 3:=⟨_,Go.Proofs.Tryz.underlying3,rfl,by kernel_rfl⟩
 have t4:a2Y Go.Proofs.Tryz.prog 4:=⟨_,Go.Proofs.Tryz.underlying4,rfl,by kernel_rfl⟩
 refine wpList_nil (a0i (c1P (fun a w=>∃ F',a=fr 38 F'/\F' 1=.pointer (some ⟨bx,0,none⟩)/\F' 3=J8 b/\Bw τ3.N τ3.w w/\Lib.IsBuilder 156 5 τ3.N b (Lib.byteCells (bif g.Lists then [108] else []:List UInt8)) w/\((bif g.Lists then [108] else []:List UInt8)=[]->w.heap[b]?=some (.cells #[.pointer none,.slice none 0 0] 156 (0,0)))) ?_ ?_))
 ·refine wp_seq (wp_region_lit ?_)
  refine a1f bx 0 2 2 rfl rfl (⟨_,_,Go.Proofs.Tryz.underlying37,rfl,rfl,by kernel_rfl⟩) rfl ?_
  refine a4m bx 2 (.bool g.Lists) rfl rfl (a3S t4 ((hbxw τ4.w h4 2).trans (by rw [hcs']; rfl))) ?_
  refine wpList_nil (a0i ?_)
  rcases hL:g.Lists with _ | _
  ·refine b2Y (c:=false) (by rw [<- hL]; rfl) rfl rfl (wp_skip ?_)
   exact ⟨rfl,_,rfl,rfl,rfl,h4,hbuild,fun _=>hb4.2.1⟩
  ·refine b9M (c:=true) (by rw [<- hL]; rfl) rfl rfl (wp_region_lit ?_)
   refine a9d [J8 b,.int .u8 108] rfl rfl d5K (bwb hbuild (by decide) h4.below.size) ?_
   rintro e w5 ⟨⟨v,rfl⟩,hat,hbw5⟩
   exact ⟨_,rfl,wpList_nil ⟨rfl,_,rfl,rfl,rfl,h4.trans hbw5,.inr hat,fun h=>by simp at h⟩⟩
 rintro a0 w0 h0
 refine c1P (fun a w=>∃ F',a=fr 38 F'/\F' 1=.pointer (some ⟨bx,0,none⟩)/\F' 3=J8 b/\Bw τ3.N τ3.w w/\Lib.IsBuilder 156 5 τ3.N b (Lib.byteCells b1) w/\(b1=[]->w.heap[b]?=some (.cells #[.pointer none,.slice none 0 0] 156 (0,0)))) ?_ ?_
 ·revert a0 w0 h0
  rintro a1 w1 ⟨F1,rfl,f1,f3,hbw1,hbd1,hn1⟩
  refine wp_seq (wp_region_lit ?_)
  refine a1f bx 0 0 0 f1 rfl (⟨_,_,Go.Proofs.Tryz.underlying37,rfl,rfl,by kernel_rfl⟩) rfl ?_
  refine a4m bx 0 (.slice A1 g.Pos.length k1c) rfl rfl (a3S t22 ((hbxw w1 hbw1 0).trans (by rw [hcs']; rfl))) ?_
  refine b2J A1 g.Pos.length k1c rfl rfl Go.Proofs.Tryz.underlying22 ?_
  refine a1V (.int .i64 0) rfl rfl ?_
  refine wpList_nil (a0i (wp_block ?_))
  refine wp_mono (b59 (step:=b2v 43 g.Pos) (fun q a w=>∃ F',a=fr 38 F'/\F' 1=.pointer (some ⟨bx,0,none⟩)/\F' 3=J8 b/\F' 14=.slice A1 g.Pos.length k1c/\F' 15=.int .i64 (g.Pos.length:Int)/\F' 16=.int .i64 (q.1:Int)/\Bw τ3.N τ3.w w/\Lib.IsBuilder 156 5 τ3.N b (Lib.byteCells q.2) w/\(q.2=[]->w.heap[b]?=some (.cells #[.pointer none,.slice none 0 0] 156 (0,0)))/\q.1<=g.Pos.length) (fun r e a w=>e=.exit 0/\∃ F',a=fr 38 F'/\F' 1=.pointer (some ⟨bx,0,none⟩)/\F' 3=J8 b/\Bw τ3.N τ3.w w/\Lib.IsBuilder 156 5 τ3.N b (Lib.byteCells r) w/\(r=[]->w.heap[b]?=some (.cells #[.pointer none,.slice none 0 0] 156 (0,0)))) (by rintro _ _ _ ⟨h,_⟩; cases h) ?_ _ (0,(bif g.Lists then [108] else [])) b1 _ _ (b79 (g.Pos.length-0) 0 rfl (Nat.zero_le _) hb1) ⟨_,rfl,f1,f3,rfl,rfl,rfl,hbw1,hbd1,fun h=>hn1 h,Nat.zero_le _⟩) ?_
  ·rintro ⟨i,bs⟩ fl a2 w2 hst ⟨F2,rfl,g1,g3,g14,g15,g16,hbw2,hbd2,hn2,hi⟩
   refine wp_seq (wp_region_lit ?_)
   refine a9Z (.int .i64 (i:Int)) (.int .i64 (g.Pos.length:Int)) (.bool (decide ((i:Int)<(g.Pos.length:Int)))) g16 g15 rfl rfl c82 ?_
   refine wpList_nil (a0i (wp_seq ?_))
   rcases hx:(g.Pos)[i]? with _ | n
   ·simp only [b2v,hx] at hst
    cases hst
    have hge:(g.Pos).length<=i:=List.getElem?_eq_none_iff.1 hx
    refine b2Y rfl (decide_eq_false (by omega)) rfl (wp_exit ?_)
    exact c8l ⟨rfl,_,rfl,g1,g3,hbw2,hbd2,hn2⟩
   ·simp only [b2v,hx,Option.map_eq_some_iff] at hst
    obtain ⟨bs',hit,rfl⟩:=hst
    have hlt:i<(g.Pos).length:=(List.getElem?_eq_some_iff.1 hx).1
    unfold a9h at hit
    obtain ⟨hcond,hit⟩:=j9 hit
    cases hit
    simp only [Bool.and_eq_true,decide_eq_true_eq] at hcond
    obtain ⟨⟨n0,n1⟩,nl⟩:=hcond
    have nl:bs.length<=1000000:=Nat.le_of_ble_eq_true nl
    refine b9M rfl (decide_eq_true (by omega)) rfl (wp_skip (a0i (wp_seq (wp_block (wp_seq (wp_region_lit ?_))))))
    refine b4X (σ:=⟨w2,c0B τ3⟩) (hs1.mono (b9T hbw2)) (show idx g.Pos (i:Int)=some n by simp [idx,hx]) g14 g16 rfl rfl Go.Proofs.Tryz.underlying22 (by kernel_rfl) fun bb o ccs hc hse=>?_
    have hc:ccs=[.int .i64 n]:=hc
    subst hc
    refine a4m bb o (.int .i64 n) rfl rfl (a3S t3 (hse.2 0 _ rfl)) ?_
    refine a3z (.int .i64 n) rfl rfl ?_
    refine wpList_nil (a0i (wp_region_lit ?_))
    refine a1V (.int .i64 n) rfl rfl ?_
    have hn:((n.toNat:Nat):Int)=n:=by omega
    refine a9d [.int .i64 n] rfl rfl d2W (by have:=c8s (n:=n.toNat) (by omega) w2; rw [hn] at this; exact this) ?_
    rintro e w3 ⟨rfl,rfl⟩
    refine ⟨_,rfl,?_⟩
    have hdl:(a3X n.toNat).length<=2:=b7e _
    refine a9Z (.string ⟨#[43]⟩) (.string ⟨(a3X n.toNat).toArray⟩) (.string ⟨(43::a3X n.toNat).toArray⟩) rfl rfl rfl rfl (d2N hdl) ?_
    have hsz:(⟨(43::a3X n.toNat).toArray⟩:ByteArray).size<=3:=by simp [ByteArray.size]; omega
    refine a9d [J8 b,.string ⟨(43::a3X n.toNat).toArray⟩] (by rw [List.map_cons,List.map_cons,List.map_nil]; exact congrArg (·::_) g3) rfl d2S (bws hbd2 (by show (Lib.byteCells bs).length+_<=_; rw [Lib.byteCells_length]; omega) hbw2.below.size) ?_
    rintro e w4 ⟨⟨v,rfl⟩,hat,hbw4⟩
    refine ⟨_,rfl,?_⟩
    refine wpList_nil (d4W (a0i (wp_region_lit ?_)))
    refine a9Z (.int .i64 (i:Int)) (.int .i64 1) (.int .i64 (wr .i64 ((i:Int)+1))) g16 rfl rfl rfl c9s ?_
    refine a1V (.int .i64 (wr .i64 ((i:Int)+1))) rfl rfl ?_
    have hwr:wr .i64 ((i:Int)+1)=((i+1:Nat):Int):=c6T (by have l1:(g.Pos).length<=k1c:=hs1.1; have l2:k1c<=maxLen:=hs1.2.1; unfold maxLen at l2; omega)
    refine wpList_nil ⟨rfl,_,rfl,g1,g3,g14,g15,congrArg _ hwr,hbw2.trans hbw4,.inr ?_,fun h=>by simp at h,hlt⟩
    rw [c1o,<- c4M] at hat
    exact hat
  ·rintro r e a2 ⟨rfl,F2,rfl,g1,g3,hbw2,hbd2,hn2⟩
   exact d45 ⟨rfl,F2,rfl,g1,g3,hbw2,hbd2,hn2⟩
 rintro a5 w5 h5
 refine c1P (fun a w=>∃ F',a=fr 38 F'/\F' 1=.pointer (some ⟨bx,0,none⟩)/\F' 3=J8 b/\Bw τ3.N τ3.w w/\Lib.IsBuilder 156 5 τ3.N b (Lib.byteCells b2) w/\(b2=[]->w.heap[b]?=some (.cells #[.pointer none,.slice none 0 0] 156 (0,0)))) ?_ ?_
 ·revert a5 w5 h5
  rintro a1 w1 ⟨F1,rfl,f1,f3,hbw1,hbd1,hn1⟩
  refine wp_seq (wp_region_lit ?_)
  refine a1f bx 0 1 1 f1 rfl (⟨_,_,Go.Proofs.Tryz.underlying37,rfl,rfl,by kernel_rfl⟩) rfl ?_
  refine a4m bx 1 (.slice A2 g.Neg.length k2c) rfl rfl (a3S t22 ((hbxw w1 hbw1 1).trans (by rw [hcs']; rfl))) ?_
  refine b2J A2 g.Neg.length k2c rfl rfl Go.Proofs.Tryz.underlying22 ?_
  refine a1V (.int .i64 0) rfl rfl ?_
  refine wpList_nil (a0i (wp_block ?_))
  refine wp_mono (b59 (step:=b2v 45 g.Neg) (fun q a w=>∃ F',a=fr 38 F'/\F' 1=.pointer (some ⟨bx,0,none⟩)/\F' 3=J8 b/\F' 26=.slice A2 g.Neg.length k2c/\F' 27=.int .i64 (g.Neg.length:Int)/\F' 28=.int .i64 (q.1:Int)/\Bw τ3.N τ3.w w/\Lib.IsBuilder 156 5 τ3.N b (Lib.byteCells q.2) w/\(q.2=[]->w.heap[b]?=some (.cells #[.pointer none,.slice none 0 0] 156 (0,0)))/\q.1<=g.Neg.length) (fun r e a w=>e=.exit 2/\∃ F',a=fr 38 F'/\F' 1=.pointer (some ⟨bx,0,none⟩)/\F' 3=J8 b/\Bw τ3.N τ3.w w/\Lib.IsBuilder 156 5 τ3.N b (Lib.byteCells r) w/\(r=[]->w.heap[b]?=some (.cells #[.pointer none,.slice none 0 0] 156 (0,0)))) (by rintro _ _ _ ⟨h,_⟩; cases h) ?_ _ (0,b1) b2 _ _ (b79 (g.Neg.length-0) 0 rfl (Nat.zero_le _) hb2) ⟨_,rfl,f1,f3,rfl,rfl,rfl,hbw1,hbd1,fun h=>hn1 h,Nat.zero_le _⟩) ?_
  ·rintro ⟨i,bs⟩ fl a2 w2 hst ⟨F2,rfl,g1,g3,g14,g15,g16,hbw2,hbd2,hn2,hi⟩
   refine wp_seq (wp_region_lit ?_)
   refine a9Z (.int .i64 (i:Int)) (.int .i64 (g.Neg.length:Int)) (.bool (decide ((i:Int)<(g.Neg.length:Int)))) g16 g15 rfl rfl c82 ?_
   refine wpList_nil (a0i (wp_seq ?_))
   rcases hx:(g.Neg)[i]? with _ | n
   ·simp only [b2v,hx] at hst
    cases hst
    have hge:(g.Neg).length<=i:=List.getElem?_eq_none_iff.1 hx
    refine b2Y rfl (decide_eq_false (by omega)) rfl (wp_exit ?_)
    exact c8l ⟨rfl,_,rfl,g1,g3,hbw2,hbd2,hn2⟩
   ·simp only [b2v,hx,Option.map_eq_some_iff] at hst
    obtain ⟨bs',hit,rfl⟩:=hst
    have hlt:i<(g.Neg).length:=(List.getElem?_eq_some_iff.1 hx).1
    unfold a9h at hit
    obtain ⟨hcond,hit⟩:=j9 hit
    cases hit
    simp only [Bool.and_eq_true,decide_eq_true_eq] at hcond
    obtain ⟨⟨n0,n1⟩,nl⟩:=hcond
    have nl:bs.length<=1000000:=Nat.le_of_ble_eq_true nl
    refine b9M rfl (decide_eq_true (by omega)) rfl (wp_skip (a0i (wp_seq (wp_block (wp_seq (wp_region_lit ?_))))))
    refine b4X (σ:=⟨w2,c0B τ3⟩) (hs2.mono (b9T hbw2)) (show idx g.Neg (i:Int)=some n by simp [idx,hx]) g14 g16 rfl rfl Go.Proofs.Tryz.underlying22 (by kernel_rfl) fun bb o ccs hc hse=>?_
    have hc:ccs=[.int .i64 n]:=hc
    subst hc
    refine a4m bb o (.int .i64 n) rfl rfl (a3S t3 (hse.2 0 _ rfl)) ?_
    refine a3z (.int .i64 n) rfl rfl ?_
    refine wpList_nil (a0i (wp_region_lit ?_))
    refine a1V (.int .i64 n) rfl rfl ?_
    have hn:((n.toNat:Nat):Int)=n:=by omega
    refine a9d [.int .i64 n] rfl rfl d2W (by have:=c8s (n:=n.toNat) (by omega) w2; rw [hn] at this; exact this) ?_
    rintro e w3 ⟨rfl,rfl⟩
    refine ⟨_,rfl,?_⟩
    have hdl:(a3X n.toNat).length<=2:=b7e _
    refine a9Z (.string ⟨#[45]⟩) (.string ⟨(a3X n.toNat).toArray⟩) (.string ⟨(45::a3X n.toNat).toArray⟩) rfl rfl rfl rfl (d2N hdl) ?_
    have hsz:(⟨(45::a3X n.toNat).toArray⟩:ByteArray).size<=3:=by simp [ByteArray.size]; omega
    refine a9d [J8 b,.string ⟨(45::a3X n.toNat).toArray⟩] (by rw [List.map_cons,List.map_cons,List.map_nil]; exact congrArg (·::_) g3) rfl d2S (bws hbd2 (by show (Lib.byteCells bs).length+_<=_; rw [Lib.byteCells_length]; omega) hbw2.below.size) ?_
    rintro e w4 ⟨⟨v,rfl⟩,hat,hbw4⟩
    refine ⟨_,rfl,?_⟩
    refine wpList_nil (d4W (a0i (wp_region_lit ?_)))
    refine a9Z (.int .i64 (i:Int)) (.int .i64 1) (.int .i64 (wr .i64 ((i:Int)+1))) g16 rfl rfl rfl c9s ?_
    refine a1V (.int .i64 (wr .i64 ((i:Int)+1))) rfl rfl ?_
    have hwr:wr .i64 ((i:Int)+1)=((i+1:Nat):Int):=c6T (by have l1:(g.Neg).length<=k2c:=hs2.1; have l2:k2c<=maxLen:=hs2.2.1; unfold maxLen at l2; omega)
    refine wpList_nil ⟨rfl,_,rfl,g1,g3,g14,g15,congrArg _ hwr,hbw2.trans hbw4,.inr ?_,fun h=>by simp at h,hlt⟩
    rw [c1o,<- c4M] at hat
    exact hat
  ·rintro r e a2 ⟨rfl,F2,rfl,g1,g3,hbw2,hbd2,hn2⟩
   exact d45 ⟨rfl,F2,rfl,g1,g3,hbw2,hbd2,hn2⟩
 rintro a6 w6 ⟨F6,rfl,f1,f3,hbw6,hbd6,hn6⟩
 refine wp_seq (wp_region_lit ?_)
 refine a9d [J8 b] (congrArg (·::_) f3) rfl d5l (d6d hbd6 hn6 (b3j hb2 (b3j hb1 (by cases g.Lists<;>decide)))) ?_
 rintro e w7 ⟨rfl,hbw7⟩
 refine ⟨_,rfl,?_⟩
 refine a3z (.string ⟨b2.toArray⟩) rfl rfl ?_
 refine wpList_nil (a0i (wp_ret ?_))
 have hb7:Bw τ3.N τ3.w w7:=hbw6.trans hbw7
 have hr:(⟨b2.toArray⟩:ByteArray)=res:=Option.some.inj happ
 have hA:Bw σ.N σ.w τ1.w:=⟨hx1.below,hx1.drawn⟩
 have hB:Bw σ.N τ1.w τ2.w:=⟨⟨st2.os,st2.tape,st2.output,st2.wext.size,fun k hk=>(st2.block k (Nat.lt_of_lt_of_le hk hx1.below.size) (fun h=>by cases h)).1⟩,st2.wext.drawn⟩
 have hC:Bw σ.N τ2.w τ3.w:=⟨⟨hm3.os,hm3.tape,hm3.output,hm3.wext.size,fun k hk=>(hm3.block k (Nat.lt_of_lt_of_le hk (hA.trans hB).below.size) (.inl hk)).1⟩,hm3.wext.drawn⟩
 have hD:Bw σ.N τ3.w w7:=⟨hb7.below.mono ((hA.trans hB).trans hC).below.size,hb7.drawn⟩
 have hE:=((hA.trans hB).trans hC).trans hD
 subst hr
 refine hk .ret ⟨38,fun i=>bif Nat.beq i 2 then some (.str ⟨b2.toArray⟩) else none,fun _=>none,0⟩ c ⟨w7,c0B σ⟩ _ ?_ (Cx.le_refl c) ⟨rfl,(fun i p hp=>?_),(fun l o ho=>by cases ho),(fun _ _ _ _ _ ⟨_,h⟩=>by cases h),(fun _ _ _ ⟨_,h⟩=>by cases h),(fun l _=>hrel.nom l rfl),Nat.le_trans hrel.base hE.below.size,noN.nests fun _ _ _ _ _ _ h=>by cases h⟩
  ⟨b9T hE,hE.below.os,hE.below.tape,hE.below.output,fun k hk _=>⟨hE.below.block k hk,by simp [c0B,hk]⟩⟩
 ·rfl
 ·have hp:(bif Nat.beq i 2 then some (PV.str ⟨b2.toArray⟩) else none)=some p:=hp
  obtain ⟨hi,hp⟩:=j9 hp
  cases hp
  have:=Nat.eq_of_beq_eq_true hi
  subst this
  simp only [RV]
  rfl
theorem d5w:j5 Go.Proofs.Tryz.prog c9L:=c3g
def c1c (n:Nat):Hints I:=mkH [(1,[[],[0],[0,1],[],[3],[0,1,2,3,4],[0,1,2,3,4,5],[0,1,2,3,4,5,6],[0,1,2,3,4,5,6,7]])] [] [] [] [(124,⟨295147905179351779232,[],[],[(5,.k (.row 111 false)),(6,.k (.map 113 (.bool))),(7,.k (.row 37 false))],[((.exit 0),[(6,.k (.map 113 (.bool))),(7,.k (.row 37 false))])],fun _=>some n⟩)] [] []
def b8W (n:Nat):Row I:=⟨36,[.d (.dat 27),.d (.dat 37)],[.k (.row 37 false)],a7m n⟩
theorem b93 (n:Nat):RK (b8W n) :=
 okR [eR b6b,eR b09,eR b7l,eR b0j,eR d5w] 69 (c1c n) [.tmp 4] Go.Proofs.Tryz.func36 (by kernel_rfl)
def a9I:Hints I:=mkH [(6,[[],[],[0,1],[0,1,2],[],[],[5],[4,5,6],[4,5,6,7],[0,1,2,3,4,5,6,7,8]]),(11,[[],[],[0,1],[0,1,2],[],[],[5],[4,5,6],[4,5,6,7],[0,1,2,3,4,5,6,7,8]])] [] [] [] [(58,⟨1152921504606846012,[],[],[(0,.k (.row 9 false)),(3,.k (.d (.int .i64)))],[((.exit 0),[(0,.k (.row 9 false))]),(.ret,[(2,.k (.row 9 false))])],bnd tb (.len (.slot 0)) 1⟩)] [(59690,⟨18014397972611112,0,9,[(3,.k (.d (.int .i64))),(5,.k (.d (.int .i64)))],[((.exit 2),[(3,.k (.d (.int .i64)))])],bnd tb (.len (.slot 4)) 1⟩)] []
def a8X:Row I:=⟨78,[.row 9 false],[.k (.row 9 false)],V2⟩
theorem a5i:RK (a8X) :=
 okR [] 61 a9I [.tmp 2] Go.Proofs.Tryz.func78 (by kernel_rfl)
def a99:Row I:=⟨77,[.d (.sl 9)],[.k (.row 9 true)],a1v⟩
theorem a6m:RK (a99) :=
 okR [] 9 Y3 [.tmp 2] Go.Proofs.Tryz.func77 (by kernel_rfl)
def c6M:Hints I:=mkH [] [] [] [] [(58,⟨2147482784,[],[],[(5,.k (.row 9 false)),(10,.k (.d (.int .i64)))],[((.exit 0),[(5,.k (.row 9 false))])],bnd tb (.slot 9) 1⟩)] [] []
def c3Q:Row I:=⟨37,[.d (.dat 27),.d (.sl 3)],[.k (.row 9 true)],a9z⟩
theorem c4W:RK (c3Q) :=
 okR [eO d2L,eR a5i,eR a6m] 36 c6M [.tmp 4] Go.Proofs.Tryz.func37 (by kernel_rfl)
def b1H:Hints I:=mkH [] [] [] [] [(26,⟨524080,[],[],[(8,.k (.d (.int .i64)))],[((.exit 0),[]),(.ret,[(4,.k (.d (.int .i64)))])],bnd tb (.slot 7) 1⟩)] [] []
def b0H:Row I:=⟨124,[.d (.sl 3),.fn [.int .i64] [.k (.d (.bool))]],[.k (.d (.int .i64))],a4W⟩
theorem b07:RK (b0H) :=
 okR [] 19 b1H [.tmp 4] Go.Proofs.Tryz.func124 (by kernel_rfl)
def a9k:Row I:=⟨65,[.d (.sl 3),.fn [.int .i64] [.k (.d (.bool))]],[.k (.d (.bool))],Z9⟩
theorem a0q:RK (a9k) :=
 okR [eR b07] 9 Y3 [.tmp 4] Go.Proofs.Tryz.func65 (by kernel_rfl)
def b5J:Hints I:=mkH [] [] [] [] [(26,⟨524080,[],[],[(8,.k (.d (.int .i64)))],[((.exit 0),[]),(.ret,[(4,.k (.d (.int .i64)))])],bnd tb (.slot 7) 1⟩)] [] []
def b3E:Row I:=⟨141,[.d (.sl 3),.d (.int .i64)],[.k (.d (.int .i64))],a6N⟩
theorem b4z:RK (b3E) :=
 okR [] 19 b5J [.tmp 4] Go.Proofs.Tryz.func141 (by kernel_rfl)
def b1r:Row I:=⟨80,[.d (.sl 3),.d (.int .i64)],[.k (.d (.bool))],a3l⟩
theorem b1B:RK (b1r) :=
 okR [eR b4z] 9 Y3 [.tmp 4] Go.Proofs.Tryz.func80 (by kernel_rfl)
def b8J:Row I:=⟨79,[.d (.int .i64),.var 22 (.k (.d (.sl 3))) false],[.k (.d (.bool))],a9S⟩
theorem c0h:RK (b8J) :=
 okR [eR b1B] 7 Y3 [.tmp 3] Go.Proofs.Tryz.func79 (by kernel_rfl)
def c0Y:Row I:=⟨38,[.d (.sl 3),.d (.sl 3)],[.k (.d (.bool))],a8M⟩
theorem c1H:RK (c0Y) :=
 okR [eR a0q,eR c0h] 8 Y3 [.tmp 4] Go.Proofs.Tryz.func38 (by kernel_rfl)
def a8U:Hints I:=mkH [] [] [] [] [(26,⟨524080,[],[],[(8,.k (.d (.int .i64)))],[((.exit 0),[]),(.ret,[(4,.k (.d (.int .i64)))])],bnd tb (.slot 7) 1⟩)] [] []
def a8v:Row I:=⟨142,[.d (.sl 9),.fn [.str] [.k (.d (.bool))]],[.k (.d (.int .i64))],a2Q⟩
theorem a8E:RK (a8v) :=
 okR [] 19 a8U [.tmp 4] Go.Proofs.Tryz.func142 (by kernel_rfl)
def a7w:Row I:=⟨81,[.d (.sl 9),.fn [.str] [.k (.d (.bool))]],[.k (.d (.bool))],a0R⟩
theorem a7A:RK (a7w) :=
 okR [eR a8E] 9 Y3 [.tmp 4] Go.Proofs.Tryz.func81 (by kernel_rfl)
def b0S:Hints I:=mkH [] [] [] [] [(26,⟨524080,[],[],[(8,.k (.d (.int .i64)))],[((.exit 0),[]),(.ret,[(4,.k (.d (.int .i64)))])],bnd tb (.slot 7) 1⟩)] [] []
def a9y:Row I:=⟨92,[.d (.sl 9),.d (.str)],[.k (.d (.int .i64))],a4c⟩
theorem a98:RK (a9y) :=
 okR [] 19 b0S [.tmp 4] Go.Proofs.Tryz.func92 (by kernel_rfl)
def a8w:Row I:=⟨52,[.d (.sl 9),.d (.str)],[.k (.d (.bool))],K9⟩
theorem a07:RK (a8w) :=
 okR [eR a98] 9 Y3 [.tmp 4] Go.Proofs.Tryz.func52 (by kernel_rfl)
def b5d:Row I:=⟨82,[.d (.str),.var 31 (.k (.d (.sl 9))) false],[.k (.d (.bool))],a7D⟩
theorem b6w:RK (b5d) :=
 okR [eR a07] 7 Y3 [.tmp 3] Go.Proofs.Tryz.func82 (by kernel_rfl)
def b7U:Row I:=⟨39,[.d (.sl 9),.d (.sl 9)],[.k (.d (.bool))],a40⟩
theorem b0g:RK (b7U) :=
 okR [eR a7A,eR b6w] 8 Y3 [.tmp 4] Go.Proofs.Tryz.func39 (by kernel_rfl)
def c6W:Hints I:=mkH [] [] [] [] [(58,⟨4192262,[],[],[(1,.k (.row 82 false)),(2,.k (.d (.int .i64)))],[((.exit 0),[(1,.k (.row 82 false))])],bnd tb (.cst 4) 2⟩)] [] []
def c30:Row I:=⟨40,[],[.k (.row 82 false)],b7o⟩
theorem c4T:RK (c30) :=
 okR [] 23 c6W [.tmp 0] Go.Proofs.Tryz.func40 (by kernel_rfl)
def c2c:Hints I:=mkH [] [] [] [(429,⟨20480,[],[],[(.normal,[(12,.k (.d (.bool)))])]⟩),
 (1725,⟨1310720,[],[],[(.normal,[(18,.k (.d (.bool)))])]⟩)] [] [] []
def c0b:Row I:=⟨144,[.d (.dat 82),.d (.dat 65)],[.k (.d (.bool))],a6p⟩
theorem b2d:RK (c0b) :=
 okR [] 81 c2c [.tmp 4] Go.Proofs.Tryz.func144 (by kernel_rfl)
def b9V:Hints I:=mkH [(1,[[],[0],[],[0,1,2],[0,1,2,3],[0,1,2,3,4],[0,1,2,3,4,5],[0,1,2,3,4,5,6],[0,1,2,3,4,5,6,7],[0,1,2,3,4,5,6,7],[0,1,2,3,4,5,6,7,9],[0,1,2,3,4,5,6,7],[0,1,2,3,4,5,6,7,9,10,11],[0,1,2,3,4,5,6,7,9,10,11,12],[0,1,2,3,4,5,6,7,8,9,10,11,12,13],[0,1,2,3,4,5,6,7,8,9,10,11,12,13,14],[0,1,2,3,4,5,6,7,8,9,10,11,12,13,14,15],[0,1,2,3,4,5,6,7,8,9,10,11,12,13,14,15,16]])] [] [] [] [] [] []
def b7E:Row I:=⟨143,[.d (.int .i64),.var 27 (.k (.d (.dat 27))) false,.var 82 (.k (.d (.dat 82))) false],[.k (.d (.bool))],a4O⟩
theorem b8y:RK (b7E) :=
 okR [eR b2d] 22 b9V [.tmp 4] Go.Proofs.Tryz.func143 (by kernel_rfl)
def b92:Row I:=⟨83,[.d (.dat 82),.d (.dat 27),.d (.dat 37)],[.k (.d (.bool))],a75⟩
theorem c0W:RK (b92) :=
 okR [eR a0q,eR b8y] 24 Y3 [.tmp 6] Go.Proofs.Tryz.func83 (by kernel_rfl)
def c03:Row I:=⟨145,[],[.k (.row 126 false)],b1x⟩
theorem c1Y:RK (c03) :=
 okR [] 3 Y3 [.tmp 0] Go.Proofs.Tryz.func145 (by kernel_rfl)
def b8U:Row I:=⟨249,[.d (.int .i64)],[.k (.d (.bool))],a5C⟩
theorem b9U:RK (b8U) :=
 okR [] 6 Y3 [.tmp 2] Go.Proofs.Tryz.func249 (by kernel_rfl)
def b57:Row I:=⟨233,[.d (.int .i64),.d (.int .i64)],[.k (.d (.int .i64))],a10⟩
theorem a90:RK (b57) :=
 okR [eR b9U] 20 Y3 [.tmp 4] Go.Proofs.Tryz.func233 (by kernel_rfl)
def b3m:Row I:=⟨232,[.d (.dat 126),.d (.dat 126)],[.k (.d (.int .i64))],a2V⟩
theorem b4r:RK (b3m) :=
 okR [eR a90] 10 Y3 [.tmp 4] Go.Proofs.Tryz.func232 (by kernel_rfl)
def b7t:Hints I:=mkH [(14,[[],[0],[0,1],[0,1,2],[0,1,2],[0,1,2,3,4],[0,1,2,3,4,5],[0,1,2,3,4,5,6],[0,1,2,3,4,5,6,7],[0,1,2,3,4,5,6,7,8],[0,1,2,3,4,5,6,7,8,9],[0,1,2,3,4,5,6,7,8,9,10],[0,1,2,3,4,5,6,7,8,9],[0,1,2,3,4,5,6,7,8,9],[0,1,2,3,4,5,6,7,8,9,12,13],[0,1,2,3,4,5,6,7,8,9,12,13,14],[0,1,2,3,4,5,6,7,8,9,12,13,14,15],[0,1,2,3,4,5,6,7,8,9,12,13,14,15,16],[0,1,2,3,4,5,6,7,8,9,10,11,12,13,14,15,16,17],[0,1,2,3,4,5,6,7,8,9,10,11,12,13,14,15,16,17,18],[0,1,2,3,4,5,6,7,8,9,10,11,12,13,14,15,16,17,18,19]]),(15,[[],[],[],[],[2,3],[2,3,4],[2,3,4,5],[],[7],[2,3,4,5,6,7,8],[0,1,2,3,4,5,6,7,8,9],[0,1,2,3,4,5,6,7,8,9,10],[0,1,2,3,4,5,6,7,8,9,10,11]])] [] [] [] [(58,⟨67104808,[],[],[(3,.k (.row 126 false)),(12,.k (.d (.int .i64)))],[((.exit 0),[(3,.k (.row 126 false))])],bnd tb (.slot 11) 1⟩),
 (506,⟨37778931862956087968576,[],[],[(6,.k (.row 126 false)),(28,.k (.row 126 false)),(30,.k (.d (.int .i64)))],[((.exit 2),[(6,.k (.row 126 false)),(28,.k (.row 126 false))])],bnd tb (.slot 29) 1⟩)] [] []
noncomputable def b5R:Row I:=⟨196,[.d (.sl 126)],[.k (.row 126 false)],a0X⟩
theorem a9f:RK (b5R) :=
 okR [eO d4K,eR b4r] 76 b7t [.tmp 2] Go.Proofs.Tryz.func196 (by kernel_rfl)
def b7z:Hints I:=mkH [] [] [] [] [(58,⟨1099511620256,[11],[],[(5,.k (.row 126 false)),(13,.k (.d (.int .i64)))],[((.exit 0),[(5,.k (.row 126 false))])],bnd tb (.slot 12) 1⟩),
 (14950,⟨549754765856,[18],[],[(5,.k (.row 126 false)),(20,.k (.d (.int .i64)))],[((.exit 2),[(5,.k (.row 126 false))])],bnd tb (.slot 19) 1⟩)] [] []
noncomputable def b5Q:Row I:=⟨146,[.d (.sl 126),.d (.sl 126)],[.k (.row 126 false)],a3R⟩
theorem b66:RK (b5Q) :=
 okR [eR a9f] 42 b7z [.tmp 4] Go.Proofs.Tryz.func146 (by kernel_rfl)
def b6K:Hints I:=mkH [] [] [] [(31333,⟨66846728,[],[],[(.normal,[(3,.k (.row 126 false))])]⟩)] [(122,⟨17179868252,[8],[],[(3,.k (.row 126 false)),(4,.k (.d (.int .i64))),(10,.k (.d (.int .i64)))],[((.exit 0),[(3,.k (.row 126 false)),(4,.k (.d (.int .i64)))]),(.ret,[(2,.k (.row 126 false))])],bnd tb (.slot 9) 1⟩)] [] []
noncomputable def b4f:Row I:=⟨147,[.d (.sl 126)],[.k (.row 126 false)],a5a⟩
theorem b5t:RK (b4f) :=
 okR [eR a9f] 39 b6K [.tmp 2] Go.Proofs.Tryz.func147 (by kernel_rfl)
def c5Q:Hints I:=mkH [] [] [] [] [(58,⟨137438888352,[],[],[(5,.k (.row 126 false)),(16,.k (.d (.int .i64)))],[((.exit 0),[(5,.k (.row 126 false))])],bnd tb (.slot 15) 1⟩),
 (122,⟨4611684918915763232,[],[],[(5,.k (.row 126 false)),(40,.k (.d (.int .i64)))],[((.exit 2),[(5,.k (.row 126 false))])],bnd tb (.slot 39) 1⟩)] [] []
noncomputable def c4j:Row I:=⟨84,[.d (.dat 27),.d (.dat 37)],[.k (.row 126 false)],b2O⟩
theorem c40:RK (c4j) :=
 okR [eR c1Y,eR b66,eR b5t] 63 c5Q [.tmp 4] Go.Proofs.Tryz.func84 (by kernel_rfl)
def b7x:Hints I:=mkH [(3,[[],[0],[],[2],[2,3],[0,1,2,3,4],[0,1,2,3,4,5],[0,1,2,3,4,5,6]])] [] [] [] [] [] []
def b5c:Row I:=⟨197,[.d (.dat 51)],[.k (.d (.dat 208))],a1D⟩
theorem a6x:RK (b5c) :=
 okR [eR c8X,eO d2L,eR a5i,eR a6m] 16 b7x [.cell 2 208] Go.Proofs.Tryz.func197 (by kernel_rfl)
def b6L:Row I:=⟨148,[.d (.sl 9)],[.k (.d (.dat 51))],a3b⟩
theorem a9V:RK (b6L) :=
 okR [eR a6x] 7 Y3 [.cell 2 51] Go.Proofs.Tryz.func148 (by kernel_rfl)
def b8F:Row I:=⟨150,[.d (.sl 9)],[.k (.d (.dat 51))],a23⟩
theorem b06:RK (b8F) :=
 okR [eR a6x] 7 Y3 [.cell 2 51] Go.Proofs.Tryz.func150 (by kernel_rfl)
def b45:Hints I:=mkH [(1,[[],[0],[0,1],[0,1,2],[],[4],[4,5],[0,1,2,3,4,5,6],[0,1,2,3,4,5,6,7]])] [] [] [] [] [] []
def b3i:Row I:=⟨198,[.d (.dat 208),.d (.dat 208)],[.k (.row 9 false)],a4n⟩
theorem b4p:RK (b3i) :=
 okR [eR c8X] 13 b45 [.tmp 4] Go.Proofs.Tryz.func198 (by kernel_rfl)
def b7K:Row I:=⟨230,[.d (.str)],[.k (.d (.bool))],a6Q⟩
theorem b8Y:RK (b7K) :=
 okR [] 6 Y3 [.tmp 2] Go.Proofs.Tryz.func230 (by kernel_rfl)
def b86:Row I:=⟨191,[.d (.str),.d (.str)],[.k (.d (.bool))],a7s⟩
theorem c0k:RK (b86) :=
 okR [eR b8Y] 17 Y3 [.tmp 4] Go.Proofs.Tryz.func191 (by kernel_rfl)
def b4s:Row I:=⟨250,[.d (.str)],[.k (.d (.bool))],a5g⟩
theorem b44:RK (b4s) :=
 okR [] 6 Y3 [.tmp 2] Go.Proofs.Tryz.func250 (by kernel_rfl)
def a8g (n:Nat):Hints I:=mkH [] [] [] [] [(60,⟨2147476352,[],[],[(7,.k (.d (.int .i64))),(8,.k (.d (.int .i64)))],[((.exit 0),[(7,.k (.d (.int .i64)))])],fun _=>some n⟩)] [] []
def a7x (n:Nat):Row I:=⟨234,[.d (.sl 9),.d (.str)],[.k (.d (.int .i64)),.k (.d (.bool))],a0S n⟩
theorem a7G (n:Nat):RK (a7x n) :=
 okR [eR c0k,eR b44] 54 (a8g n) [.tmp 4,.tmp 5] Go.Proofs.Tryz.func234 (by kernel_rfl)
def b4u (n:Nat):Row I:=⟨200,[.d (.dat 208),.d (.str)],[.k (.d (.bool))],a3r n⟩
theorem a8B (n:Nat):RK (b4u n) :=
 okR [eR (a7G n)] 16 Y3 [.tmp 4] Go.Proofs.Tryz.func200 (by kernel_rfl)
def b4i (_:Nat):Hints I:=mkH [] [] [] [] [(58,⟨33550496,[],[],[(5,.k (.row 9 false)),(12,.k (.d (.int .i64)))],[((.exit 0),[(5,.k (.row 9 false))])],bnd tb (.slot 11) 1⟩)] [] []
def b2r (n:Nat):Row I:=⟨199,[.d (.dat 208),.d (.dat 208)],[.k (.row 9 false)],a2s n⟩
theorem b3W (n:Nat):RK (b2r n) :=
 okR [eR (a8B n)] 26 (b4i n) [.tmp 4] Go.Proofs.Tryz.func199 (by kernel_rfl)
def b7n (_:Nat):Hints I:=mkH [(1,[[],[0],[],[0,1,2],[],[],[0,1,2,3,4,5],[0,1,2,3,4,5,6]])] [] [] [] [(250,⟨576320014815068800,[],[],[(7,.k (.row 9 false)),(47,.k (.d (.int .i64)))],[((.exit 1),[(7,.k (.row 9 false))])],bnd tb (.slot 46) 1⟩)] [] []
def b42 (n:Nat):Row I:=⟨149,[.d (.dat 51),.d (.dat 51)],[.k (.d (.dat 51))],a3V n⟩
theorem b6h (n:Nat):RK (b42 n) :=
 okR [eR a6x,eR b4p,eR a9V,eR (b3W n),eR b06,eR (a8B n)] 61 (b7n n) [.cell 4 51] Go.Proofs.Tryz.func149 (by kernel_rfl)
def c41 (_:Nat):Hints I:=mkH [(7,[[],[],[1],[1,2],[1,2,3],[0,1,2,3,4],[0,1,2,3,4,5]]),(14,[[],[],[1],[1,2],[1,2,3],[0,1,2,3,4],[0,1,2,3,4,5]])] [] [] [] [(58,⟨274877646336,[],[(7,.k (.d (.dat 51)))],[(18,.k (.d (.int .i64)))],[((.exit 0),[])],bnd tb (.slot 17) 1⟩),
 (122,⟨2305840810190450688,[],[(7,.k (.d (.dat 51)))],[(41,.k (.d (.int .i64)))],[((.exit 2),[])],bnd tb (.slot 40) 1⟩)] [] []
def c3m (n:Nat):Row I:=⟨85,[.d (.dat 27),.d (.dat 37),.d (.int .i64)],[.k (.d (.dat 51))],a8H n⟩
theorem c3P (n:Nat):RK (c3m n) :=
 okR [eR a9V,eR b06,eR (b6h n)] 62 (c41 n) [.cell 6 51] Go.Proofs.Tryz.func85 (by kernel_rfl)
def c46:Hints I:=mkH [(1,[[],[0],[],[0,1,2],[0,1,2,3],[0,1,2,3,4],[],[0,1,2,3,4,5,6],[0,1,2,3,4,5,6,7]])] [] [] [] [] [] []
def c2q:Row I:=⟨151,[.d (.int .i64),.var 27 (.k (.d (.dat 27))) false,.var 3 (.k (.d (.int .i64))) false],[.k (.d (.bool))],b5S⟩
theorem c38:RK (c2q) :=
 okR [] 13 c46 [.tmp 4] Go.Proofs.Tryz.func151 (by kernel_rfl)
def c42:Row I:=⟨86,[.d (.dat 27),.d (.sl 3),.d (.int .i64)],[.k (.d (.bool))],a6A⟩
theorem c5z:RK (c42) :=
 okR [eR a0q,eR c38] 10 Y3 [.tmp 6] Go.Proofs.Tryz.func86 (by kernel_rfl)
def c3J:Hints I:=mkH [(5,[[],[0],[],[0,1,2],[0,1,2,3],[0,1,2,3,4],[],[0,1,2,3,4,5,6],[0,1,2,3,4,5,6,7],[0,1,2,3,4,5,6,7,8],[0,1,2,3,4,5,6,7,8],[0,1,2,3,4,5,6,7,8,10],[0,1,2,3,4,5,6,7,8],[0,1,2,3,4,5,6,7,8,10,11,12],[0,1,2,3,4,5,6,7,8,10,11,12,13],[0,1,2,3,4,5,6,7,8,9,10,11,12,13,14],[0,1,2,3,4,5,6,7,8,9,10,11,12,13,14,15]])] [] [] [] [(58,⟨1099511613952,[],[],[(9,.k (.row 3 false)),(14,.k (.d (.int .i64)))],[((.exit 0),[(9,.k (.row 3 false))])],bnd tb (.slot 13) 1⟩)] [] []
def c11:Row I:=⟨87,[.d (.dat 82),.d (.dat 27),.d (.sl 3),.d (.int .i64)],[.k (.row 3 false)],a7H⟩
theorem c2v:RK (c11) :=
 okR [eR b2d] 41 c3J [.tmp 8] Go.Proofs.Tryz.func87 (by kernel_rfl)
def c6p (_:Nat):Hints I:=mkH [(8,[[],[],[1],[1,2],[1,2,3],[0],[0,1,2,3,4,5]]),(11,[[],[],[],[2],[1,2,3],[1,2,3,4],[1,2,3,4,5],[1,2,3,4,5,6],[1,2,3,4,5,6,7],[1,2,3,4,5,6,7,8],[1,2,3,4,5,6,7,8,9],[1,2,3,4,5,6,7,8,9,10],[1,2,3,4,5,6,7,8,9,10,11],[1,2,3,4,5,6,7,8,9,10,11,12],[1,2,3,4,5,6,7,8,9,10,11,12,13],[1,2,3,4,5,6,7,8,9,10,11,12,13,14],[1,2,3,4,5,6,7,8,9,10,11,12,13,14,15],[1,2,3,4,5,6,7,8,9,10,11,12,13,14,15,16],[0,1,2,3,4,5,6,7,8,9,10],[0,1,2,3,4,5,6,7,8,9,10,11,12,13,14,15,16,17,18]]),(14,[[],[],[],[2],[1,2,3],[1,2,3,4],[1,2,3,4,5],[1,2,3,4,5,6],[1,2,3,4,5,6,7],[1,2,3,4,5,6,7,8],[1,2,3,4,5,6,7,8,9],[1,2,3,4,5,6,7,8,9,10],[1,2,3,4,5,6,7,8,9,10,11],[1,2,3,4,5,6,7,8,9,10,11,12],[1,2,3,4,5,6,7,8,9,10,11,12,13],[1,2,3,4,5,6,7,8,9,10,11,12,13,14],[1,2,3,4,5,6,7,8,9,10,11,12,13,14,15],[1,2,3,4,5,6,7,8,9,10,11,12,13,14,15,16],[0,1,2,3,4,5,6,7,8,9,10],[0,1,2,3,4,5,6,7,8,9,10,11,12,13,14,15,16,17,18]]),(16,[[],[],[],[2],[1,2,3],[1,2,3,4],[0,1,2,3,4],[0,1,2,3,4,5,6]]),(18,[[],[],[],[2],[1,2,3],[1,2,3,4],[0,1,2,3,4],[0,1,2,3,4,5,6]]),(27,[[],[],[],[2],[],[0,1,2,3,4],[],[],[],[8],[],[0,1,2,3,4,5,6,7,8,9,10],[0,1,2,3,4,5],[0,1,2,3,4,5,6,7,8,9,10,11,12],[0,1,2,3,4,5,6,7,8,9,10,11,12,13],[0,1,2,3,4,5,6,7,8,9,10,11,12,13,14]]),(28,[[],[],[1],[1,2],[1,2,3],[1,2,3],[1,2,3,5],[1,2,3],[1,2,3,4,5,6,7],[1,2,3,4,5,6,7,8],[1,2,3,4,5,6,7,8,9],[0,1,2,3,4,5,6,7,8],[0,1,2,3,4,5,6,7,8,9,10,11]])] [(11,[47,51]),(14,[71,75]),(28,[124])] [] [(125,⟨162259276829213363391577993512576,[],[(6,.lvs [.d (.int .i64),.d (.int .i64),.d (.sl 126),.d (.bool),.d (.sl 9),.d (.sl 3),.d (.sl 3),.d (.sl 9),.d (.sl 9)]),(8,.lvs [.d (.int .i64),.d (.int .i64),.d (.sl 126),.d (.bool),.d (.sl 9),.d (.sl 3),.d (.sl 3),.d (.sl 9),.d (.sl 9)])],[(.normal,[(9,.k (.d (.int .i64))),(10,.k (.d (.int .i64)))]),(.ret,[(7,.k (.d (.bool)))])]⟩)] [] [] []
noncomputable def c3A (n:Nat):Row I:=⟨41,[.d (.dat 27),.d (.dat 37),.d (.dat 82)],[.k (.d (.dat 53)),.k (.d (.bool))],a9F n⟩
theorem c5a (n:Nat):RK (c3A n) :=
 okR [eR c0W,eR c40,eR (c3P n),eR c5z,eR c2v] 132 (c6p n) [.cell 6 53,.tmp 7] Go.Proofs.Tryz.func41 (by kernel_rfl)
def c5d (_:Nat):Hints I:=mkH [(7,[[],[],[1],[0,1,2],[],[],[5],[0,1,2,3,4,5,6],[0,1,2,3,4,5,6,7],[0,1,2,3,4,5,6,7,8]])] [] [] [] [(122,⟨37778931862957027507104,[25],[],[(5,.k (.row 53 false)),(27,.k (.d (.int .i64)))],[((.exit 0),[(5,.k (.row 53 false))])],bnd tb (.slot 26) 1⟩),
 (125342,⟨18889463679678767183904,[49],[],[(5,.k (.row 53 false)),(51,.k (.d (.int .i64)))],[((.exit 2),[(5,.k (.row 53 false))])],bnd tb (.slot 50) 1⟩)] [] []
noncomputable def c2O (n:Nat):Row I:=⟨16,[.d (.dat 27),.d (.dat 37)],[.k (.row 53 false)],a7d n⟩
theorem b6e (n:Nat):RK (c2O n) :=
 okR [eR (a5Q n),eR b0z,eR (b93 n),eR c4W,eR c1H,eR b0g,eR c4T,eR (c5a n),eR c8X] 76 (c5d n) [.tmp 4] Go.Proofs.Tryz.func16 (by kernel_rfl)
def b8L:Row I:=⟨23,[.d (.int .i64)],[.k (.d (.dat 33))],a16⟩
theorem a7K:RK (b8L) :=
 okR [] 5 Y3 [.cell 2 33] Go.Proofs.Tryz.func23 (by kernel_rfl)
def c5K:Hints I:=mkH [] [] [] [(105,⟨160,[],[],[(.normal,[(5,.k (.d (.bool)))])]⟩),
 (429,⟨2560,[],[],[(.normal,[(9,.k (.d (.bool)))])]⟩),
 (6909,⟨327680,[],[],[(.normal,[(16,.k (.d (.bool)))])]⟩)] [] [] []
def c3T:Row I:=⟨165,[.d (.int .i64)],[.k (.d (.dat 185)),.k (.d (.bool))],a8f⟩
theorem c48:RK (c3T) :=
 okR [] 27 c5K [.cell 2 185,.tmp 3] Go.Proofs.Tryz.func165 (by kernel_rfl)
def b3e:Hints I:=mkH [(4,[[],[],[],[2],[1,2,3],[1,2,3,4],[],[],[6,7],[6,7,8],[0,1,2,3,4,5,6,7,8,9],[0,1,2,3,4,5,6,7,8,9,10]])] [] [] [] [(26,⟨16777200,[],[],[(5,.k (.d (.int .i64)))],[((.exit 0),[]),(.ret,[(4,.k (.d (.bool)))])],bnd tb (.len (.slot 0)) 1⟩)] [] []
def b1Z:Row I:=⟨215,[.d (.sl 9),.fn [.str,.str] [.k (.d (.int .i64))]],[.k (.d (.bool))],a5T⟩
theorem b2K:RK (b1Z) :=
 okR [] 24 b3e [.tmp 4] Go.Proofs.Tryz.func215 (by kernel_rfl)
def b8G:Hints I:=mkH [] [] [] [] [(58,⟨261140,[],[],[(10,.k (.d (.int .i64)))],[((.exit 0),[]),(.ret,[(2,.k (.d (.bool)))])],bnd tb (.slot 9) 1⟩)] [] []
def b6g:Row I:=⟨166,[.d (.sl 9)],[.k (.d (.bool))],a5X⟩
theorem b7p:RK (b6g) :=
 okR [eR b2K,eR a7S,eR b0e] 18 b8G [.tmp 2] Go.Proofs.Tryz.func166 (by kernel_rfl)
def b2A:Hints I:=mkH [(4,[[],[],[],[2],[1,2,3],[1,2,3,4],[],[],[6,7],[6,7,8],[0,1,2,3,4,5,6,7,8,9],[0,1,2,3,4,5,6,7,8,9,10]])] [] [] [] [(26,⟨16777200,[],[],[(5,.k (.d (.int .i64)))],[((.exit 0),[]),(.ret,[(4,.k (.d (.bool)))])],bnd tb (.len (.slot 0)) 1⟩)] [] []
def b1b:Row I:=⟨217,[.d (.sl 130),.fn [.dat 130,.dat 130] [.k (.d (.int .i64))]],[.k (.d (.bool))],a5s⟩
theorem b1I:RK (b1b) :=
 okR [] 24 b2A [.tmp 4] Go.Proofs.Tryz.func217 (by kernel_rfl)
def c1J:Hints I:=mkH [] [] [] [] [(58,⟨534773780,[],[],[(21,.k (.d (.int .i64)))],[((.exit 0),[]),(.ret,[(2,.k (.d (.bool)))])],bnd tb (.slot 20) 1⟩)] [] []
def c0c:Row I:=⟨167,[.d (.dat 33)],[.k (.d (.bool))],a8k⟩
theorem c0Z:RK (c0c) :=
 okR [eR b1I,eR a6G,eR b2g] 29 c1J [.tmp 2] Go.Proofs.Tryz.func167 (by kernel_rfl)
def b1i:Hints I:=mkH [(4,[[],[],[],[2],[1,2,3],[1,2,3,4],[],[],[6,7],[6,7,8],[0,1,2,3,4,5,6,7,8,9],[0,1,2,3,4,5,6,7,8,9,10]])] [] [] [] [(26,⟨16777200,[],[],[(5,.k (.d (.int .i64)))],[((.exit 0),[]),(.ret,[(4,.k (.d (.bool)))])],bnd tb (.len (.slot 0)) 1⟩)] [] []
def a96:Row I:=⟨218,[.d (.sl 97),.fn [.dat 97,.dat 97] [.k (.d (.int .i64))]],[.k (.d (.bool))],a4r⟩
theorem b0P:RK (a96) :=
 okR [] 24 b1i [.tmp 4] Go.Proofs.Tryz.func218 (by kernel_rfl)
def a94:Hints I:=mkH [(7,[[],[],[],[1,2],[1,2,3],[],[],[5,6],[5,6,7],[0,1,2,3,4,5,6,7,8],[0,1,2,3,4,5,6,7,8,9]])] [] [] [] [(58,⟨137437905728,[],[],[(20,.k (.d (.int .i64)))],[((.exit 0),[]),(.ret,[(6,.k (.d (.int .i64)))])],bnd tb (.slot 19) 1⟩)] [] []
def a8Y:Row I:=⟨253,[.d (.sl 33),.d (.sl 33),.fn [.dat 33,.dat 33] [.k (.d (.int .i64))]],[.k (.d (.int .i64))],a3u⟩
theorem a9m:RK (a8Y) :=
 okR [eR a2F] 37 a94 [.tmp 6] Go.Proofs.Tryz.func253 (by kernel_rfl)
def b0u:Hints I:=mkH [(7,[[],[],[],[1,2],[1,2,3],[],[],[5,6],[5,6,7],[0,1,2,3,4,5,6,7,8],[0,1,2,3,4,5,6,7,8,9]])] [] [] [] [(58,⟨137437905728,[],[],[(20,.k (.d (.int .i64)))],[((.exit 0),[]),(.ret,[(6,.k (.d (.int .i64)))])],bnd tb (.slot 19) 1⟩)] [] []
def a9X:Row I:=⟨254,[.d (.sl 130),.d (.sl 130),.fn [.dat 130,.dat 130] [.k (.d (.int .i64))]],[.k (.d (.int .i64))],a4e⟩
theorem b0c:RK (a9X) :=
 okR [eR a2F] 37 b0u [.tmp 6] Go.Proofs.Tryz.func254 (by kernel_rfl)
def a9q:Hints I:=mkH [(7,[[],[],[],[1,2],[1,2,3],[],[],[5,6],[5,6,7],[0,1,2,3,4,5,6,7,8],[0,1,2,3,4,5,6,7,8,9]])] [] [] [] [(58,⟨137437905728,[],[],[(20,.k (.d (.int .i64)))],[((.exit 0),[]),(.ret,[(6,.k (.d (.int .i64)))])],bnd tb (.slot 19) 1⟩)] [] []
def a8Z:Row I:=⟨255,[.d (.sl 97),.d (.sl 97),.fn [.dat 97,.dat 97] [.k (.d (.int .i64))]],[.k (.d (.int .i64))],a3x⟩
theorem a9p:RK (a8Z) :=
 okR [eR a2F] 37 a9q [.tmp 6] Go.Proofs.Tryz.func255 (by kernel_rfl)
def b1o:Hints I:=mkH [(7,[[],[],[],[1,2],[1,2,3],[],[],[5,6],[5,6,7],[0,1,2,3,4,5,6,7,8],[0,1,2,3,4,5,6,7,8,9]])] [] [] [] [(58,⟨137437905728,[],[],[(20,.k (.d (.int .i64)))],[((.exit 0),[]),(.ret,[(6,.k (.d (.int .i64)))])],bnd tb (.slot 19) 1⟩)] [] []
def b0d:Row I:=⟨256,[.d (.sl 9),.d (.sl 9),.fn [.str,.str] [.k (.d (.int .i64))]],[.k (.d (.int .i64))],a4v⟩
theorem b0v:RK (b0d) :=
 okR [eR a2F] 37 b1o [.tmp 6] Go.Proofs.Tryz.func256 (by kernel_rfl)
def a26 (n:Nat):Row I:=⟨241,[.d (.dat 33),.d (.dat 33)],[.k (.d (.int .i64))],a3g n⟩
def a0N (n:Nat):Row I:=⟨219,[.d (.dat 97),.d (.dat 97)],[.k (.d (.int .i64))],V6 n⟩
def a1T (n:Nat):Row I:=⟨240,[.d (.sl 33),.d (.sl 33)],[.k (.d (.int .i64))],a3q n⟩
theorem c04 (n:Nat)(_:j5 Go.Proofs.Tryz.prog (a26 n))(h_value_compareEntries:j5 Go.Proofs.Tryz.prog (a0N n))(h_value_compareValues:j5 Go.Proofs.Tryz.prog (a1T n)):RK (a26 (n+1)) :=
 okR [eR a2F,eR a90,eR a7S,eR b0c,eR a6G,eR h_value_compareValues,eR a9p,eR h_value_compareEntries,eR b0v] 64 Y3 [.tmp 4] Go.Proofs.Tryz.func241 (by kernel_rfl)
theorem b3M (n:Nat)(h_value_Compare:j5 Go.Proofs.Tryz.prog (a26 n))(_:j5 Go.Proofs.Tryz.prog (a0N n))(h_value_compareValues:j5 Go.Proofs.Tryz.prog (a1T n)):RK (a0N (n+1)) :=
 okR [eR h_value_compareValues,eR h_value_Compare] 26 Y3 [.tmp 4] Go.Proofs.Tryz.func219 (by kernel_rfl)
theorem b4m (n:Nat)(h_value_Compare:j5 Go.Proofs.Tryz.prog (a26 n))(_:j5 Go.Proofs.Tryz.prog (a0N n))(_:j5 Go.Proofs.Tryz.prog (a1T n)):RK (a1T (n+1)) :=
 okR [eR a9m,eR h_value_Compare] 8 Y3 [.tmp 4] Go.Proofs.Tryz.func240 (by kernel_rfl)
theorem a6J:∀ n:Nat,j5 Go.Proofs.Tryz.prog (a26 n)/\j5 Go.Proofs.Tryz.prog (a0N n)/\j5 Go.Proofs.Tryz.prog (a1T n)
 | 0=>⟨Q8 (by kernel_rfl),Q8 (by kernel_rfl),Q8 (by kernel_rfl)⟩
 | n+1=>by
   obtain ⟨h0,h1,h2⟩:=a6J n
   exact ⟨c04 n h0 h1 h2,b3M n h0 h1 h2,b4m n h0 h1 h2⟩
theorem c1A (n:Nat):j5 Go.Proofs.Tryz.prog (a26 n):=(a6J n).1
theorem b4g (n:Nat):j5 Go.Proofs.Tryz.prog (a0N n):=(a6J n).2.1
def c3i (n:Nat):Row I:=⟨257,[.d (.dat 33),.d (.dat 33)],[.k (.d (.bool))],b5M n⟩
theorem c4f (n:Nat):RK (c3i n) :=
 okR [eR (c1A n)] 9 Y3 [.tmp 4] Go.Proofs.Tryz.func257 (by kernel_rfl)
def c16 (n:Nat):Row I:=⟨242,[.d (.dat 33)],[.k (.d (.bool))],b3C n⟩
theorem c3t (n:Nat):RK (c16 n) :=
 okR [eR (c4f n)] 6 Y3 [.tmp 2] Go.Proofs.Tryz.func242 (by kernel_rfl)
def b7M (n:Nat):Row I:=⟨220,[.d (.dat 97),.d (.int .i64)],[.k (.d (.bool))],a4P n⟩
theorem b8P (n:Nat):RK (b7M n) :=
 okR [eR (c3t n)] 20 Y3 [.tmp 4] Go.Proofs.Tryz.func220 (by kernel_rfl)
def b6r (_:Nat):Hints I:=mkH [] [] [] [] [(58,⟨4290773012,[],[],[(22,.k (.d (.int .i64)))],[((.exit 0),[]),(.ret,[(2,.k (.d (.bool)))])],bnd tb (.slot 21) 1⟩)] [] []
def b4l (n:Nat):Row I:=⟨168,[.d (.dat 33)],[.k (.d (.bool))],a5f n⟩
theorem b5v (n:Nat):RK (b4l n) :=
 okR [eR b0P,eR (b4g n),eR (b8P n)] 32 (b6r n) [.tmp 2] Go.Proofs.Tryz.func168 (by kernel_rfl)
def b8N (n:Nat):Row I:=⟨117,[.d (.dat 33)],[.k (.d (.bool))],a7o n⟩
theorem b9s (n:Nat):RK (b8N n) :=
 okR [eR c48,eR b7p,eR a9Y,eR c0Z,eR (b5v n)] 124 Y3 [.tmp 2] Go.Proofs.Tryz.func117 (by kernel_rfl)
def c4Y:Hints I:=mkH [] [] [] [] [(58,⟨536866856,[],[],[(3,.k (.row 33 false)),(12,.k (.d (.int .i64)))],[((.exit 0),[(3,.k (.row 33 false))])],bnd tb (.slot 11) 1⟩)] [] []
def c2r:Row I:=⟨118,[.d (.dat 33)],[.k (.row 33 false)],b0X⟩
theorem c33:RK (c2r) :=
 okR [eR d4M] 30 c4Y [.tmp 2] Go.Proofs.Tryz.func118 (by kernel_rfl)
def c05 (_:Nat):Hints I:=mkH [] [] [] [] [(58,⟨522260,[9],[],[(11,.k (.d (.int .i64)))],[((.exit 0),[]),(.ret,[(2,.k (.d (.bool)))])],bnd tb (.slot 10) 1⟩)] [] []
def a7g (n:Nat):Row I:=⟨59,[.d (.dat 33)],[.k (.d (.bool))],a2S n⟩
theorem b85 (n:Nat)(h_value_validTree:j5 Go.Proofs.Tryz.prog (a7g n)):RK (a7g (n+1)) :=
 okR [eR (b9s n),eR c33,eR h_value_validTree] 19 (c05 n) [.tmp 2] Go.Proofs.Tryz.func59 (by kernel_rfl)
theorem b1d:∀ n:Nat,j5 Go.Proofs.Tryz.prog (a7g n)
 | 0=>Q8 (by kernel_rfl)
 | n+1=>b85 n (b1d n)
def b9u (n:Nat):Row I:=⟨28,[.d (.dat 33)],[.k (.d (.int .i64))],a6c n⟩
theorem b2f (n:Nat):RK (b9u n) :=
 okR [eR (b1d n)] 6 Y3 [.tmp 2] Go.Proofs.Tryz.func28 (by kernel_rfl)
def c2Y:Row I:=⟨125,[.d (.int .i64)],[.k (.d (.int .i64))],c1i⟩
theorem c3D:RK (c2Y) :=
 okR [] 14 Y3 [.tmp 2] Go.Proofs.Tryz.func125 (by kernel_rfl)
def a9L:Hints I:=mkH [(4,[[],[],[],[1,2],[1,2,3],[0,1,2,3,4]])] [] [] [] [(26,⟨524080,[],[],[(8,.k (.d (.int .i64)))],[((.exit 0),[]),(.ret,[(4,.k (.d (.int .i64)))])],bnd tb (.slot 7) 1⟩)] [] []
def a8T:Row I:=⟨222,[.d (.sl 130),.d (.dat 130)],[.k (.d (.int .i64))],a3w⟩
theorem a9o:RK (a8T) :=
 okR [] 19 a9L [.tmp 4] Go.Proofs.Tryz.func222 (by kernel_rfl)
def a8a:Row I:=⟨178,[.d (.sl 130),.d (.dat 130)],[.k (.d (.bool))],a1d⟩
theorem a8u:RK (a8a) :=
 okR [eR a9o] 9 Y3 [.tmp 4] Go.Proofs.Tryz.func178 (by kernel_rfl)
def c9X:Hints I:=mkH [] [] [] [] [(26,⟨2096208,[],[],[(10,.k (.d (.int .i64)))],[((.exit 0),[]),(.ret,[(4,.k (.d (.int .i64)))])],bnd tb (.slot 9) 1⟩)] [] []
def c7A:Row I:=⟨179,[.d (.dat 65),.d (.dat 130)],[.k (.d (.int .i64))],c0K⟩
theorem c9v:RK (c7A) :=
 okR [] 26 c9X [.tmp 4] Go.Proofs.Tryz.func179 (by kernel_rfl)
def c81 (_:Nat):Hints I:=mkH [(6,[[],[],[],[],[2,3],[2,3,4],[0,1,2,3,4,5],[0,1,2,3,4,5,6]])] [] [] [] [(58,⟨1073676736,[],[],[(16,.k (.d (.int .i64)))],[((.exit 0),[]),(.ret,[(6,.k (.d (.bool)))])],bnd tb (.slot 15) 1⟩)] [] []
def a2R (n:Nat):Row I:=⟨126,[.d (.sl 33),.d (.dat 27),.d (.sl 3)],[.k (.d (.bool))],a5P n⟩
def b83 (_:Nat):Hints I:=mkH [(2,[[],[0],[],[],[3],[],[3,4,5],[0,1,2,3,4,5,6],[0,1,2,3,4,5,6,7],[0,1,2,3,4,5,6,7,8],[0,1,2,3,4,5,6,7,8,9],[0,1,2,3,4,5,6,7,8,9,10],[0,1,2,3,4,5,6,7,8,9,10,11],[0,1,2,3,4,5,6,7,8,9,10,11,12],[0,1,2,3,4,5,6,7,8,9,10,11,12,13],[0,1,2,3,4,5,6,7,8,9,10,11,12,13,14],[0,1,2,3,4,5,6,7,8,9,10,11,12,13],[0,1,2,3,4,5,6,7,8,9,10,11,12,13],[0,1,2,3,4,5,6,7,8,9,10,11,12,13,17],[0,1,2,3,4,5,6,7,8,9,10,11,12,13],[0,1,2,3,4,5,6,7,8,9,10,11,12,13,17,18,19],[0,1,2,3,4,5,6,7,8,9,10,11,12,13,17,18,19,20],[0,1,2,3,4,5,6,7,8,9,10,11,12,13,14,15,16,17,18,19,20,21],[0,1,2,3,4,5,6,7,8,9,10,11,12,13,14,15,16,17,18,19,20,21,22],[0,1,2,3,4,5,6,7,8,9,10,11,12,13,14,15,16,17,18,19,20,21,22,23],[0,1,2,3,4,5,6,7,8,9,10,11,12,13,14,15,16,17,18,19,20,21,22,23,24]])] [] [] [] [] [] []
def W1 (n:Nat):Row I:=⟨180,[.d (.dat 97),.d (.dat 27),.d (.dat 65)],[.k (.d (.bool))],X0 n⟩
def b9O (_:Nat):Hints I:=mkH [] [] [] [] [(58,⟨536346944,[],[],[(19,.k (.d (.int .i64)))],[((.exit 0),[]),(.ret,[(6,.k (.d (.bool)))])],bnd tb (.slot 18) 1⟩)] [] []
def X2 (n:Nat):Row I:=⟨128,[.d (.dat 33),.d (.dat 27),.d (.dat 65)],[.k (.d (.bool))],a0s n⟩
def c9q (_:Nat):Hints I:=mkH [(17,[[],[0],[],[2],[2,3],[0,1,2,3,4],[0,1,2,3,4,5]]),(31,[[],[],[],[2],[2,3],[2,3,4],[0,1,2,3,4,5],[0,1,2,3,4,5,6],[0,1,2,3,4,5,6,7]])] [] [] [(60413,⟨144115188075855872000,[],[],[(.normal,[(60,.k (.d (.bool)))])]⟩)] [] [] []
def a2j (n:Nat):Row I:=⟨67,[.d (.dat 33),.d (.dat 27),.d (.int .i64)],[.k (.d (.bool))],a0d n⟩
def a1J (n:Nat):Row I:=⟨129,[.d (.int .i64),.var 33 (.k (.d (.dat 33))) false,.var 27 (.k (.d (.dat 27))) false],[.k (.d (.bool))],a3B n⟩
def a1O (n:Nat):Row I:=⟨130,[.d (.int .i64),.var 33 (.k (.d (.dat 33))) false,.var 27 (.k (.d (.dat 27))) false],[.k (.d (.bool))],a3D n⟩
def c5c (_:Nat):Hints I:=mkH [(10,[[],[0],[],[0,1,2],[0,1,2,3],[],[],[],[6,7],[0,1,2,3,4,5,6,7,8],[0,1,2,3,4,5,6,7,8,9]])] [] [] [] [(26,⟨1073725760,[],[],[(14,.k (.d (.int .i64)))],[((.exit 0),[]),(.ret,[(6,.k (.d (.bool)))])],bnd tb (.slot 13) 1⟩),
 (58,⟨1125891316909632,[],[],[(33,.k (.d (.int .i64)))],[((.exit 2),[]),(.ret,[(6,.k (.d (.bool)))])],bnd tb (.slot 32) 1⟩)] [] []
def a1u (n:Nat):Row I:=⟨127,[.d (.dat 33),.d (.dat 27),.d (.dat 65)],[.k (.d (.bool))],a2K n⟩
theorem c6c (n:Nat)(_:j5 Go.Proofs.Tryz.prog (a2R n))(_:j5 Go.Proofs.Tryz.prog (W1 n))(_:j5 Go.Proofs.Tryz.prog (X2 n))(h_core_Has:j5 Go.Proofs.Tryz.prog (a2j n))(_:j5 Go.Proofs.Tryz.prog (a1J n))(_:j5 Go.Proofs.Tryz.prog (a1O n))(_:j5 Go.Proofs.Tryz.prog (a1u n)):RK (a2R (n+1)) :=
 okR [eR h_core_Has] 30 (c81 n) [.tmp 6] Go.Proofs.Tryz.func126 (by kernel_rfl)
theorem b6I (n:Nat)(h_core_all:j5 Go.Proofs.Tryz.prog (a2R n))(_:j5 Go.Proofs.Tryz.prog (W1 n))(_:j5 Go.Proofs.Tryz.prog (X2 n))(h_core_Has:j5 Go.Proofs.Tryz.prog (a2j n))(_:j5 Go.Proofs.Tryz.prog (a1J n))(_:j5 Go.Proofs.Tryz.prog (a1O n))(_:j5 Go.Proofs.Tryz.prog (a1u n)):RK (W1 (n+1)) :=
 okR [eR h_core_all,eR h_core_Has] 37 (b83 n) [.tmp 6] Go.Proofs.Tryz.func180 (by kernel_rfl)
theorem b8i (n:Nat)(_:j5 Go.Proofs.Tryz.prog (a2R n))(h_core_EntryAllowed:j5 Go.Proofs.Tryz.prog (W1 n))(_:j5 Go.Proofs.Tryz.prog (X2 n))(_:j5 Go.Proofs.Tryz.prog (a2j n))(_:j5 Go.Proofs.Tryz.prog (a1J n))(_:j5 Go.Proofs.Tryz.prog (a1O n))(_:j5 Go.Proofs.Tryz.prog (a1u n)):RK (X2 (n+1)) :=
 okR [eR h_core_EntryAllowed] 29 (b9O n) [.tmp 6] Go.Proofs.Tryz.func128 (by kernel_rfl)
theorem c7d (n:Nat)(h_core_all:j5 Go.Proofs.Tryz.prog (a2R n))(_:j5 Go.Proofs.Tryz.prog (W1 n))(h_core_functionHas:j5 Go.Proofs.Tryz.prog (X2 n))(h_core_Has:j5 Go.Proofs.Tryz.prog (a2j n))(h_core_Has_1:j5 Go.Proofs.Tryz.prog (a1J n))(h_core_Has_2:j5 Go.Proofs.Tryz.prog (a1O n))(h_core_mapHas:j5 Go.Proofs.Tryz.prog (a1u n)):RK (a2j (n+1)) :=
 okR [eR c3D,eR h_core_all,eR h_core_mapHas,eR h_core_functionHas,eR a0q,eR h_core_Has_1,eR h_core_Has_2,eR h_core_Has,eR a07] 151 (c9q n) [.tmp 6] Go.Proofs.Tryz.func67 (by kernel_rfl)
theorem c3V (n:Nat)(_:j5 Go.Proofs.Tryz.prog (a2R n))(_:j5 Go.Proofs.Tryz.prog (W1 n))(_:j5 Go.Proofs.Tryz.prog (X2 n))(h_core_Has:j5 Go.Proofs.Tryz.prog (a2j n))(_:j5 Go.Proofs.Tryz.prog (a1J n))(_:j5 Go.Proofs.Tryz.prog (a1O n))(_:j5 Go.Proofs.Tryz.prog (a1u n)):RK (a1J (n+1)) :=
 okR [eR h_core_Has] 9 Y3 [.tmp 4] Go.Proofs.Tryz.func129 (by kernel_rfl)
theorem c3I (n:Nat)(_:j5 Go.Proofs.Tryz.prog (a2R n))(_:j5 Go.Proofs.Tryz.prog (W1 n))(_:j5 Go.Proofs.Tryz.prog (X2 n))(h_core_Has:j5 Go.Proofs.Tryz.prog (a2j n))(_:j5 Go.Proofs.Tryz.prog (a1J n))(_:j5 Go.Proofs.Tryz.prog (a1O n))(_:j5 Go.Proofs.Tryz.prog (a1u n)):RK (a1O (n+1)) :=
 okR [eR h_core_Has] 10 Y3 [.tmp 4] Go.Proofs.Tryz.func130 (by kernel_rfl)
theorem c3c (n:Nat)(_:j5 Go.Proofs.Tryz.prog (a2R n))(_:j5 Go.Proofs.Tryz.prog (W1 n))(_:j5 Go.Proofs.Tryz.prog (X2 n))(h_core_Has:j5 Go.Proofs.Tryz.prog (a2j n))(_:j5 Go.Proofs.Tryz.prog (a1J n))(_:j5 Go.Proofs.Tryz.prog (a1O n))(_:j5 Go.Proofs.Tryz.prog (a1u n)):RK (a1u (n+1)) :=
 okR [eR a8u,eR c9v,eR h_core_Has] 50 (c5c n) [.tmp 6] Go.Proofs.Tryz.func127 (by kernel_rfl)
theorem b4E:∀ n:Nat,j5 Go.Proofs.Tryz.prog (a2R n)/\j5 Go.Proofs.Tryz.prog (W1 n)/\j5 Go.Proofs.Tryz.prog (X2 n)/\j5 Go.Proofs.Tryz.prog (a2j n)/\j5 Go.Proofs.Tryz.prog (a1J n)/\j5 Go.Proofs.Tryz.prog (a1O n)/\j5 Go.Proofs.Tryz.prog (a1u n)
 | 0=>⟨Q8 (by kernel_rfl),Q8 (by kernel_rfl),Q8 (by kernel_rfl),Q8 (by kernel_rfl),Q8 (by kernel_rfl),Q8 (by kernel_rfl),Q8 (by kernel_rfl)⟩
 | n+1=>by
   obtain ⟨h0,h1,h2,h3,h4,h5,h6⟩:=b4E n
   exact ⟨c6c n h0 h1 h2 h3 h4 h5 h6,b6I n h0 h1 h2 h3 h4 h5 h6,b8i n h0 h1 h2 h3 h4 h5 h6,c7d n h0 h1 h2 h3 h4 h5 h6,c3V n h0 h1 h2 h3 h4 h5 h6,c3I n h0 h1 h2 h3 h4 h5 h6,c3c n h0 h1 h2 h3 h4 h5 h6⟩
theorem c1f (n:Nat):j5 Go.Proofs.Tryz.prog (a2j n):=(b4E n).2.2.2.1
def c08 (n:Nat):Row I:=⟨66,[.d (.int .i64),.var 33 (.k (.d (.dat 33))) false,.var 27 (.k (.d (.dat 27))) false],[.k (.d (.bool))],b1P n⟩
theorem c18 (n:Nat):RK (c08 n) :=
 okR [eR (c1f n)] 10 Y3 [.tmp 4] Go.Proofs.Tryz.func66 (by kernel_rfl)
def c00 (n:Nat):Row I:=⟨68,[.d (.int .i64),.var 33 (.k (.d (.dat 33))) false,.var 27 (.k (.d (.dat 27))) false],[.k (.d (.bool))],b1O n⟩
theorem c1B (n:Nat):RK (c00 n) :=
 okR [eR (c1f n)] 9 Y3 [.tmp 4] Go.Proofs.Tryz.func68 (by kernel_rfl)
def c3b (n:Nat):Row I:=⟨31,[.d (.dat 33),.d (.dat 27),.d (.sl 3),.d (.sl 3)],[.k (.d (.bool))],a8D n⟩
theorem b6Z (n:Nat):RK (c3b n) :=
 okR [eR a0q,eR (c18 n),eR (c1B n)] 19 Y3 [.tmp 8] Go.Proofs.Tryz.func31 (by kernel_rfl)
def c2f (n:Nat):Row I:=⟨12,[.d (.dat 33),.d (.dat 27),.d (.dat 37)],[.k (.d (.bool))],a4Z n⟩
theorem c2s (n:Nat):RK (c2f n) :=
 okR [eR (b2f n),eR (a5Q n),eR b0z,eR (b6Z n)] 40 Y3 [.tmp 6] Go.Proofs.Tryz.func12 (by kernel_rfl)
def c2e:Row I:=⟨11,[.d (.dat 37)],[.k (.d (.dat 37))],a9w⟩
theorem c2F:RK (c2e) :=
 okR [eR b0j] 5 Y3 [.cell 2 37] Go.Proofs.Tryz.func11 (by kernel_rfl)
def b8E (_:Nat):Hints I:=mkH [(4,[[],[0],[0,1],[0,1,2],[0,1,2,3],[0,1,2,3],[0,1,2,3],[0,1,2,3,4,5,6],[0,1,2,3,4,5,6,7],[0,1,2,3,4,5,6,7,8],[0,1,2,3,4,5,6,7,8,9],[0,1,2,3,4,5,6,7,8,9],[0,1,2,3,4,5,6,7,8,9],[0,1,2,3,4,5,6,7,8,9,10,11,12],[0,1,2,3,4,5,6,7,8,9,10,11,12,13],[0,1,2,3,4,5,6,7,8,9,10,11,12,13,14],[0,1,2,3,4,5,6,7,8,9,10,11,12,13,14,15],[0,1,2,3,4,5,6,7,8,9,10,11,12,13,14,15,16],[0,1,2,3,4,5,6,7,8,9,10,11,12,13,14,15,16,17],[0,1,2,3,4,5,6,7,8,9,10,11,12,13,14,15,16,17,18],[0,1,2,3,4,5,6,7,8,9,10,11,12,13,14,15,16,17,18,19],[0,1,2,3,4,5,6,7,8,9,10,11,12,13,14,15,16,17,18,19,20],[0,1,2,3,4,5,6,7,8,9,10,11,12,13,14,15,16,17,18,19,20,21],[0,1,2,3,4,5,6,7,8,9,10,11,12,13,14,15,16,17,18,19,20,21,22],[0,1,2,3,4,5,6,7,8,9,10,11,12,13,14,15,16,17,18,19,20,21,22,23]])] [(4,[31])] [] [] [] [] []
noncomputable def b60 (n:Nat):Row I:=⟨8,[],[.k (.d (.bool))],a24 n⟩
theorem b75 (n:Nat):RK (b60 n) :=
 okR [eR (b6e n),eR a7K,eR (c2s n),eR c2F] 39 (b8E n) [.tmp 0] Go.Proofs.Tryz.func8 (by kernel_rfl)
def b2u:Hints I:=mkH [(1,[[],[0],[0,1],[0,1,2],[0,1,2,3],[0,1,2,3,4],[0,1,2,3,4,5],[0,1,2],[0,1,2,7],[0,1,2,7,8],[0,1,2,7,8,9],[0,1,2,7,8,9,10],[0,1,2,3,4,5,6,7,8,9,10,11],[0,1,2,3,4,5,6,7,8,9,10,11,12]]),(3,[[],[0],[0,1],[0,1,2],[],[4],[4,5],[4,5,6],[0,1,2,3,4,5,6,7],[0,1,2,3,4,5,6,7,8],[],[0,1,2,3,4,5,6,7,8,9,10],[0,1,2,3,4,5,6,7,8,9,10,11]])] [] [] [] [] [] []
def b1a:Row I:=⟨25,[.var 40 (.k (.d (.dat 40))) true,.d (.int .i64)],[.k (.d (.int .i64))],z8⟩
theorem Z0:RK (b1a) :=
 okR [] 46 b2u [.tmp 4] Go.Proofs.Tryz.func25 (by kernel_rfl)
def a9l:Row I:=⟨98,[.var 40 (.k (.d (.dat 40))) true],[.k (.d (.str))],V9⟩
theorem a1p:RK (a9l) :=
 okR [eR Z0] 8 Y3 [.tmp 2] Go.Proofs.Tryz.func98 (by kernel_rfl)
def b1q:Row I:=⟨99,[.var 40 (.k (.d (.dat 40))) true],[.k (.d (.str))],a0m⟩
theorem a2n:RK (b1q) :=
 okR [eR Z0] 8 Y3 [.tmp 2] Go.Proofs.Tryz.func99 (by kernel_rfl)
def b0N:Row I:=⟨100,[.var 40 (.k (.d (.dat 40))) true],[.k (.d (.str))],a0O⟩
theorem a6B:RK (b0N) :=
 okR [eR Z0] 8 Y3 [.tmp 2] Go.Proofs.Tryz.func100 (by kernel_rfl)
def b0w:Hints I:=mkH [] [] [] [] [(28,⟨16776706,[],[(0,.k (.d (.dat 40)))],[(1,.k (.d (.int .i64))),(9,.k (.row 3 false))],[((.exit 0),[(9,.k (.row 3 false))])],bnd tb (.slot 1) 2⟩)] [] []
def a9D:Row I:=⟨101,[.var 40 (.k (.d (.dat 40))) true,.d (.int .i64),.d (.int .i64),.d (.int .i64)],[.k (.row 3 false)],k9⟩
theorem a97:RK (a9D) :=
 okR [eR Z0] 25 b0w [.tmp 8] Go.Proofs.Tryz.func101 (by kernel_rfl)
def b0r:Hints I:=mkH [(7,[[],[0],[],[],[2,3],[2,3,4],[],[],[6,7],[],[6,7,8,9],[6,7,8,9,10],[2,3,4,5,6,7,8,9,10,11],[2,3,4,5,6,7,8,9,10,11,12],[0,1,2,3,4,5,6,7,8,9,10,11,12,13],[0,1,2,3,4,5,6,7,8,9,10,11,12,13,14],[0,1,2,3,4,5,6,7,8,9,10,11,12,13,14,15]])] [] [] [(978,⟨8796076244992,[],[(0,.k (.d (.dat 40))),(5,.lvs [.d (.int .i64),.d (.int .i64),.d (.int .i64),.d (.str),.row 3 false,.row 148 false,.d (.int .i64),.d (.int .i64)])],[(.normal,[])]⟩)] [(122,⟨8796091973760,[6],[(0,.k (.d (.dat 40))),(5,.lvs [.d (.int .i64),.d (.int .i64),.d (.int .i64),.d (.str),.row 3 false,.row 148 false,.d (.int .i64),.d (.int .i64)])],[(7,.k (.d (.int .i64)))],[((.exit 0),[])],bnd tb (.cst 3) 1⟩)] [] []
def a9U:Row I:=⟨102,[.var 40 (.k (.d (.dat 40))) true,.d (.int .i64)],[.k (.d (.dat 65))],a2p⟩
theorem a95:RK (a9U) :=
 okR [eR Z0] 44 b0r [.cell 4 65] Go.Proofs.Tryz.func102 (by kernel_rfl)
def b2x:Hints I:=mkH [(8,[[],[],[0,1],[0,1,2],[],[],[],[],[7],[6,7,8],[5,6,7,8,9],[4,5,6,7,8,9,10],[4,5,6,7,8,9,10,11],[0,1,2,3,4,5,6,7,8,9,10,11,12],[0,1,2,3,4,5,6,7,8,9,10,11,12,13]])] [] [] [(29,⟨128,[],[],[(.normal,[(7,.k (.d (.int .i64)))])]⟩),
 (32243709,⟨47223664828696452136960,[],[],[(.normal,[(73,.k (.d (.bool)))])]⟩),
 (2063597565,⟨49517601571415210995964968960,[],[],[(.normal,[(93,.k (.d (.bool)))])]⟩)] [] [] []
def b08:Row I:=⟨55,[.var 40 (.k (.d (.dat 40))) true,.d (.int .i64),.d (.int .i64)],[.k (.d (.dat 65))],a3i⟩
theorem b1M:RK (b08) :=
 okR [eR Z0,eR a1p,eR a2n,eR a6B,eR a97,eR a95] 128 b2x [.cell 6 65] Go.Proofs.Tryz.func55 (by kernel_rfl)
def b2m:Hints I:=mkH [(6,[[],[0],[],[],[],[2,3,4],[2,3,4,5],[0,1,2,3,4,5,6],[0,1,2,3,4,5,6,7],[0,1,2,3,4,5,6,7,8]])] [] [] [] [(122,⟨16776256,[],[(0,.k (.d (.dat 40))),(5,.lvs [.row 65 false,.d (.int .i64)])],[(6,.k (.d (.int .i64)))],[((.exit 0),[])],bnd tb (.slot 1) 1⟩)] [] []
def b1k:Row I:=⟨24,[.var 40 (.k (.d (.dat 40))) true,.d (.int .i64)],[.k (.d (.dat 27))],a1U⟩
theorem b2a:RK (b1k) :=
 okR [eR b1M] 25 b2m [.cell 4 27] Go.Proofs.Tryz.func24 (by kernel_rfl)
def b0b:Row I:=⟨112,[.var 40 (.k (.d (.dat 40))) true],[.k (.d (.int .i64))],a0u⟩
theorem b0D:RK (b0b) :=
 okR [eR Z0] 8 Y3 [.tmp 2] Go.Proofs.Tryz.func112 (by kernel_rfl)
def b7m:Row I:=⟨104,[.d (.str)],[.k (.d (.dat 33))],a3v⟩
theorem b0h:RK (b7m) :=
 okR [] 5 Y3 [.cell 2 33] Go.Proofs.Tryz.func104 (by kernel_rfl)
def b40:Row I:=⟨103,[.d (.str)],[.k (.d (.dat 33))],a2t⟩
theorem a85:RK (b40) :=
 okR [] 5 Y3 [.cell 2 33] Go.Proofs.Tryz.func103 (by kernel_rfl)
def b8C:Row I:=⟨105,[.d (.int .i64)],[.k (.d (.dat 33))],a5J⟩
theorem b1h:RK (b8C) :=
 okR [] 5 Y3 [.cell 2 33] Go.Proofs.Tryz.func105 (by kernel_rfl)
def b8B:Row I:=⟨106,[],[.k (.d (.dat 33))],W4⟩
theorem a3W:RK (b8B) :=
 okR [] 2 Y3 [.cell 0 33] Go.Proofs.Tryz.func106 (by kernel_rfl)
def b5w:Row I:=⟨163,[.d (.sl 33)],[.k (.row 33 false)],a1G⟩
theorem a9i:RK (b5w) :=
 okR [] 5 Y3 [.tmp 2] Go.Proofs.Tryz.func163 (by kernel_rfl)
def b6D:Row I:=⟨113,[.d (.sl 33)],[.k (.d (.dat 33))],a1Y⟩
theorem a9x:RK (b6D) :=
 okR [eR a9i] 6 Y3 [.cell 2 33] Go.Proofs.Tryz.func113 (by kernel_rfl)
def b1e:Row I:=⟨57,[.var 40 (.k (.d (.dat 40))) true],[.k (.d (.dat 33))],J0⟩
theorem a36:RK (b1e) :=
 okR [eR Z0,eR b0D,eR a7K,eR a1p,eR b0h,eR a2n,eR a85,eR b1h,eR a3W,eR a9x] 29 Y3 [.cell 2 33] Go.Proofs.Tryz.func57 (by kernel_rfl)
def b6a:Row I:=⟨153,[.d (.int .u8)],[.k (.d (.bool))],a27⟩
theorem a91:RK (b6a) :=
 okR [] 9 Y3 [.tmp 2] Go.Proofs.Tryz.func153 (by kernel_rfl)
def b6E:Row I:=⟨154,[.d (.int .u8)],[.k (.d (.bool))],a4f⟩
theorem a9u:RK (b6E) :=
 okR [] 9 Y3 [.tmp 2] Go.Proofs.Tryz.func154 (by kernel_rfl)
def b7D:Hints I:=mkH [] [] [] [] [(58,⟨4398046248972,[],[],[(3,.k (.d (.int .i64)))],[((.exit 0),[]),(.ret,[(2,.k (.d (.bool)))])],bnd tb (.len (.slot 0)) 1⟩)] [] []
def b5g:Row I:=⟨93,[.d (.str)],[.k (.d (.bool))],a2u⟩
theorem a56:RK (b5g) :=
 okR [eR a91,eR a9u] 42 b7D [.tmp 2] Go.Proofs.Tryz.func93 (by kernel_rfl)
def b3P:Row I:=⟨94,[.d (.dat 130)],[.k (.d (.bool))],a1Q⟩
theorem a5o:RK (b3P) :=
 okR [eR a56] 22 Y3 [.tmp 2] Go.Proofs.Tryz.func94 (by kernel_rfl)
def b67:Row I:=⟨155,[.d (.int .i64),.d (.int .i64)],[.k (.d (.int .i64))],a3c⟩
theorem a6S:RK (b67) :=
 okR [] 11 Y3 [.tmp 4] Go.Proofs.Tryz.func155 (by kernel_rfl)
def b7B:Row I:=⟨156,[.d (.str),.d (.str)],[.k (.d (.int .i64))],a1B⟩
theorem b0f:RK (b7B) :=
 okR [] 11 Y3 [.tmp 4] Go.Proofs.Tryz.func156 (by kernel_rfl)
def b02:Row I:=⟨95,[.d (.dat 130),.d (.dat 130)],[.k (.d (.int .i64))],W7⟩
theorem a2o:RK (b02) :=
 okR [eR a6S,eR b0f] 20 Y3 [.tmp 4] Go.Proofs.Tryz.func95 (by kernel_rfl)
def c09:Hints I:=mkH [(13,[[],[],[1],[1,2],[0,1,2,3],[0,1,2,3,4],[0,1,2,3,4,5],[0,1,2,3,4,5,6],[0,1,2,3,4,5],[0,1,2,3,4,5,6,7,8],[0,1,2,3,4,5,6,7,8,9],[0,1,2,3,4,5],[0,1,2,3,4,5],[0,1,2,3,4,5,11,12],[0,1,2,3,4,5,11,12,13],[0,1,2,3,4,5,6,7,8,9,10,11,12,13,14],[0,1,2,3,4,5,6,7,8,9,10,11,12,13,14,15],[0,1,2,3,4,5,6,7,8,9,10,11,12,13,14,15,16]]),(15,[[],[],[1],[1,2],[0,1,2,3],[0,1,2,3,4],[0,1,2,3,4,5],[0,1,2,3,4,5,6],[0,1,2,3,4,5],[0,1,2,3,4,5,6,7,8],[0,1,2,3,4,5,6,7,8,9],[0,1,2,3,4,5],[0,1,2,3,4,5],[0,1,2,3,4,5,11,12],[0,1,2,3,4,5,11,12,13],[0,1,2,3,4,5,6,7,8,9,10,11,12,13,14],[0,1,2,3,4,5,6,7,8,9,10,11,12,13,14,15]]),(17,[[],[0],[],[0,1,2],[0,1,2,3],[],[5],[],[5,6,7],[0,1,2,3,4,5,6,7,8],[0,1,2,3,4,5,6,7,8,9],[0,1,2,3,4,5,6,7,8,9,10]]),(18,[[],[],[],[1,2],[1,2,3],[1,2,3,4],[0,1,2,3,4,5],[],[7],[],[7,8,9],[0,1,2,3,4,5,6,7,8,9,10],[0,1,2,3,4,5,6,7,8,9,10,11],[0,1,2,3,4,5,6,7,8,9,10,11,12]]),(19,[[],[],[],[1,2],[1,2,3],[1,2,3,4],[0,1,2,3,4,5],[],[7],[],[7,8,9],[0,1,2,3,4,5,6,7,8,9,10],[0,1,2,3,4,5,6,7,8,9,10,11],[0,1,2,3,4,5,6,7,8,9,10,11,12]])] [] [] [] [(58,⟨2147221600,[],[(4,.lvs [.d (.int .i64),.d (.int .i64),.d (.str),.row 33 false,.row 130 false,.row 97 false,.row 9 false])],[(6,.k (.d (.int .i64)))],[((.exit 0),[]),(.ret,[(5,.k (.d (.int .i64)))])],bnd tb (.len (.slot 0)) 1⟩),
 (250,⟨5192296858534827628530492034256672,[7],[(4,.lvs [.d (.int .i64),.d (.int .i64),.d (.str),.row 33 false,.row 130 false,.row 97 false,.row 9 false]),(7,.lvs [.d (.int .i64),.d (.int .i64),.d (.str),.d (.sl 33),.d (.sl 130),.row 97 true,.row 9 true])],[(8,.k (.d (.int .i64)))],[((.exit 2),[]),(.ret,[(5,.k (.d (.int .i64)))])],bnd tb (.len (.slot 0)) 1⟩),
 (32036,⟨288230101273805312,[7],[],[(9,.k (.d (.int .i64)))],[((.exit 4),[(9,.k (.d (.int .i64)))])],bnd tb (.len (.ld 29 (.fld 33 4 (.slot 7)))) 1⟩)] [] []
def b80:Row I:=⟨159,[.d (.sl 130),.d (.sl 33)],[.k (.d (.dat 33)),.k (.d (.int .i64))],a1r⟩
theorem b1g:RK (b80) :=
 okR [eR a5o,eR a2o,eR a9i] 113 c09 [.cell 4 33,.tmp 5] Go.Proofs.Tryz.func159 (by kernel_rfl)
def b6x:Row I:=⟨201,[.d (.int .i64),.d (.int .i64)],[.k (.d (.int .i64))],a0D⟩
theorem a9M:RK (b6x) :=
 okR [eR a6S] 8 Y3 [.tmp 4] Go.Proofs.Tryz.func201 (by kernel_rfl)
def b6q (_:Nat):Hints I:=mkH [(12,[[],[0],[],[0,1,2],[0,1,2,3],[],[5],[],[5,6,7],[5,6,7,8],[0,1,2,3,4,5,6,7,8,9],[0,1,2,3,4,5,6,7,8,9,10]]),(23,[[],[0],[],[0,1,2],[0,1,2,3],[],[5],[],[5,6,7],[5,6,7,8],[0,1,2,3,4,5,6,7,8,9],[0,1,2,3,4,5,6,7,8,9,10]]),(31,[[],[0],[],[0,1,2],[0,1,2,3],[],[5],[],[5,6,7],[5,6,7,8],[0,1,2,3,4,5,6,7,8,9],[0,1,2,3,4,5,6,7,8,9,10]])] [] [] [] [(506,⟨151115655394234608910448,[],[],[(5,.k (.d (.int .i64)))],[((.exit 0),[]),(.ret,[(4,.k (.d (.int .i64)))])],bnd tb (.len (.ld 29 (.fld 33 4 (.slot 2)))) 1⟩),
 (8186,⟨1329227361959615758789106311928742672,[],[],[(8,.k (.d (.int .i64)))],[((.exit 2),[]),(.ret,[(4,.k (.d (.int .i64)))])],bnd tb (.len (.ld 30 (.fld 33 5 (.slot 2)))) 1⟩),
 (32762,⟨45671904388519233253803489366408968731082361872,[],[],[(10,.k (.d (.int .i64)))],[((.exit 4),[]),(.ret,[(4,.k (.d (.int .i64)))])],bnd tb (.len (.ld 31 (.fld 33 6 (.slot 2)))) 1⟩)] [] []
def a0Y (n:Nat):Row I:=⟨157,[.d (.dat 33),.d (.dat 33)],[.k (.d (.int .i64))],a0B n⟩
def b8a (_:Nat):Hints I:=mkH [(6,[[],[],[0,1],[0,1,2],[],[],[4,5],[4,5,6],[0,1,2,3,4,5,6,7],[0,1,2,3,4,5,6,7,8]])] [] [] [] [(58,⟨34359607408,[],[],[(5,.k (.d (.int .i64)))],[((.exit 0),[]),(.ret,[(4,.k (.d (.int .i64)))])],bnd tb (.len (.slot 0)) 1⟩)] [] []
def a2c (n:Nat):Row I:=⟨158,[.d (.sl 33),.d (.sl 33)],[.k (.d (.int .i64))],a3P n⟩
def W3 (n:Nat):Row I:=⟨97,[.d (.dat 97),.d (.dat 97)],[.k (.d (.int .i64))],Y4 n⟩
theorem b4h (n:Nat)(_:j5 Go.Proofs.Tryz.prog (a0Y n))(h_semtyperef1_values:j5 Go.Proofs.Tryz.prog (a2c n))(h_semtyperef1_CompareEntries:j5 Go.Proofs.Tryz.prog (W3 n)):RK (a0Y (n+1)) :=
 okR [eR a9M,eR a6S,eR b0f,eR a2o,eR h_semtyperef1_values,eR h_semtyperef1_CompareEntries] 155 (b6q n) [.tmp 4] Go.Proofs.Tryz.func157 (by kernel_rfl)
theorem b5o (n:Nat)(h_semtyperef1_Compare:j5 Go.Proofs.Tryz.prog (a0Y n))(_:j5 Go.Proofs.Tryz.prog (a2c n))(_:j5 Go.Proofs.Tryz.prog (W3 n)):RK (a2c (n+1)) :=
 okR [eR a9M,eR h_semtyperef1_Compare] 35 (b8a n) [.tmp 4] Go.Proofs.Tryz.func158 (by kernel_rfl)
theorem a9B (n:Nat)(h_semtyperef1_Compare:j5 Go.Proofs.Tryz.prog (a0Y n))(h_semtyperef1_values:j5 Go.Proofs.Tryz.prog (a2c n))(_:j5 Go.Proofs.Tryz.prog (W3 n)):RK (W3 (n+1)) :=
 okR [eR h_semtyperef1_values,eR h_semtyperef1_Compare] 26 Y3 [.tmp 4] Go.Proofs.Tryz.func97 (by kernel_rfl)
theorem a38:∀ n:Nat,j5 Go.Proofs.Tryz.prog (a0Y n)/\j5 Go.Proofs.Tryz.prog (a2c n)/\j5 Go.Proofs.Tryz.prog (W3 n)
 | 0=>⟨Q8 (by kernel_rfl),Q8 (by kernel_rfl),Q8 (by kernel_rfl)⟩
 | n+1=>by
   obtain ⟨h0,h1,h2⟩:=a38 n
   exact ⟨b4h n h0 h1 h2,b5o n h0 h1 h2,a9B n h0 h1 h2⟩
theorem b5F (n:Nat):j5 Go.Proofs.Tryz.prog (a0Y n):=(a38 n).1
theorem a5V (n:Nat):j5 Go.Proofs.Tryz.prog (W3 n):=(a38 n).2.2
def b6T (n:Nat):Row I:=⟨96,[.d (.dat 33),.d (.dat 33)],[.k (.d (.bool))],a4k n⟩
theorem a9T (n:Nat):RK (b6T n) :=
 okR [eR (b5F n)] 9 Y3 [.tmp 4] Go.Proofs.Tryz.func96 (by kernel_rfl)
def b6u (_:Nat):Hints I:=mkH [(6,[[],[],[1],[0,1,2],[0,1,2,3],[0,1,2,3,4],[0,1,2,3,4],[0,1,2,3,4,5,6],[0,1,2,3,4,5,6,7],[0,1,2,3,4],[0,1,2,3,4],[0,1,2,3,4,9,10],[0,1,2,3,4,9,10,11],[0,1,2,3,4,5,6,7,8,9,10,11,12],[0,1,2,3,4,5,6,7,8,9,10,11,12,13],[0,1,2,3,4,5,6,7,8,9,10,11,12,13,14]]),(8,[[],[],[1],[0,1,2],[0,1,2,3],[0,1,2,3,4],[0,1,2,3,4],[0,1,2,3,4,5,6],[0,1,2,3,4,5,6,7],[0,1,2,3,4],[0,1,2,3,4],[0,1,2,3,4,9,10],[0,1,2,3,4,9,10,11],[0,1,2,3,4,5,6,7,8,9,10,11,12],[0,1,2,3,4,5,6,7,8,9,10,11,12,13],[0,1,2,3,4,5,6,7,8,9,10,11,12,13,14]]),(10,[[],[],[],[1,2],[1,2,3],[1,2,3,4],[0,1,2,3,4,5],[],[],[7,8],[0,1,2,3,4,5,6,7,8,9],[0,1,2,3,4,5,6,7,8,9,10]])] [] [] [(466,⟨4611686018427379816,[],[],[(.normal,[(3,.k (.d (.sl 97)))])]⟩)] [(58,⟨4611686018427387896,[],[],[(3,.k (.d (.sl 97))),(4,.k (.d (.int .i64)))],[((.exit 0),[(3,.k (.d (.sl 97)))])],bnd tb (.len (.slot 0)) 1⟩),
 (7460,⟨2147475488,[3],[],[(5,.k (.d (.int .i64)))],[((.exit 2),[(5,.k (.d (.int .i64)))])],bnd tb (.len (.slot 3)) 1⟩)] [] []
def b4v (n:Nat):Row I:=⟨202,[.bor 97],[.k (.d (.sl 97))],a49 n⟩
theorem b5N (n:Nat):RK (b4v n) :=
 okR [eR (a5V n)] 63 (b6u n) [.tmp 2] Go.Proofs.Tryz.func202 (by kernel_rfl)
def b4T (_:Nat):Hints I:=mkH [] [] [] [] [(58,⟨70368744161376,[],[(4,.lvs [.d (.int .i64),.d (.int .i64),.d (.str),.row 33 false,.row 130 false,.row 97 false,.row 9 false])],[(6,.k (.d (.int .i64)))],[((.exit 0),[]),(.ret,[(5,.k (.d (.int .i64)))])],bnd tb (.len (.slot 1)) 1⟩)] [] []
def b3b (n:Nat):Row I:=⟨160,[.d (.int .i64),.bor 97],[.k (.d (.dat 33)),.k (.d (.int .i64))],a04 n⟩
theorem a8n (n:Nat):RK (b3b n) :=
 okR [eR (a9T n),eR (b5N n)] 50 (b4T n) [.cell 4 33,.tmp 5] Go.Proofs.Tryz.func160 (by kernel_rfl)
def b7s:Hints I:=mkH [(6,[[],[],[1],[0,1,2],[0,1,2,3],[0,1,2,3,4],[0,1,2,3,4],[0,1,2,3,4,5,6],[0,1,2,3,4,5,6,7],[0,1,2,3,4],[0,1,2,3,4],[0,1,2,3,4,9,10],[0,1,2,3,4,9,10,11],[0,1,2,3,4,5,6,7,8,9,10,11,12],[0,1,2,3,4,5,6,7,8,9,10,11,12,13]]),(8,[[],[],[1],[0,1,2],[0,1,2,3],[0,1,2,3,4],[0,1,2,3,4],[0,1,2,3,4,5,6],[0,1,2,3,4,5,6,7],[0,1,2,3,4],[0,1,2,3,4],[0,1,2,3,4,9,10],[0,1,2,3,4,9,10,11],[0,1,2,3,4,5,6,7,8,9,10,11,12],[0,1,2,3,4,5,6,7,8,9,10,11,12,13]]),(10,[[],[],[],[1,2],[1,2,3],[1,2,3,4],[0,1,2,3,4,5],[],[],[7,8],[0,1,2,3,4,5,6,7,8,9],[0,1,2,3,4,5,6,7,8,9,10]])] [] [] [(466,⟨1152921504606838888,[],[],[(.normal,[(3,.k (.d (.sl 9)))])]⟩)] [(58,⟨1152921504606846968,[],[],[(3,.k (.d (.sl 9))),(4,.k (.d (.int .i64)))],[((.exit 0),[(3,.k (.d (.sl 9)))])],bnd tb (.len (.slot 0)) 1⟩),
 (7460,⟨1073733664,[3],[],[(5,.k (.d (.int .i64)))],[((.exit 2),[(5,.k (.d (.int .i64)))])],bnd tb (.len (.slot 3)) 1⟩)] [] []
def b5l:Row I:=⟨109,[.d (.sl 9)],[.k (.d (.sl 9))],a0n⟩
theorem a6t:RK (b5l) :=
 okR [] 61 b7s [.tmp 2] Go.Proofs.Tryz.func109 (by kernel_rfl)
def b1W:Row I:=⟨110,[.d (.dat 33),.d (.sl 9)],[.k (.d (.dat 33))],a3E⟩
theorem b2D:RK (b1W) :=
 okR [eR a6t] 9 Y3 [.cell 4 33] Go.Proofs.Tryz.func110 (by kernel_rfl)
def b7N:Row I:=⟨203,[.d (.dat 33),.d (.dat 33)],[.k (.d (.dat 33))],a4Q⟩
theorem b8H:RK (b7N) :=
 okR [] 9 Y3 [.cell 4 33] Go.Proofs.Tryz.func203 (by kernel_rfl)
def b1n:Hints I:=mkH [] [] [] [(29,⟨1048456,[],[(0,.k (.d (.dat 40)))],[(.normal,[(3,.k (.row 9 false))])]⟩)] [] [] []
def b0a:Row I:=⟨162,[.var 40 (.k (.d (.dat 40))) true],[.k (.d (.sl 9))],a1t⟩
theorem a6w:RK (b0a) :=
 okR [eR Z0,eR a6B,eR a6t] 22 b1n [.tmp 2] Go.Proofs.Tryz.func162 (by kernel_rfl)
def b1E:Row I:=⟨204,[.var 40 (.k (.d (.dat 40))) true],[.k (.d (.dat 130))],a3M⟩
theorem b2G:RK (b1E) :=
 okR [eR Z0,eR a1p,eR a2n] 12 Y3 [.cell 2 130] Go.Proofs.Tryz.func204 (by kernel_rfl)
def a0a (n:Nat):Row I:=⟨111,[.var 40 (.k (.d (.dat 40))) true,.d (.int .i64)],[.k (.d (.dat 33))],a1F n⟩
def b1X (_:Nat):Hints I:=mkH [(16,[[],[],[1],[0,1,2],[],[0,1,2,3,4],[0,1,2,3,4,5]])] [(13,[46])] [] [(29,⟨5316911983139663491615228241104863200,[],[(0,.k (.d (.dat 40))),(4,.lvs [.d (.int .i64),.d (.int .i64),.d (.str),.d (.sl 33),.d (.sl 130),.d (.sl 97),.d (.sl 9)])],[(.normal,[]),(.ret,[])]⟩),
 (7540,⟨2234207627640832,[],[(0,.k (.d (.dat 40)))],[(.normal,[(50,.k (.d (.bool)))])]⟩),
 (7541,⟨141863388262170624,[],[(0,.k (.d (.dat 40))),(7,.k (.d (.dat 33)))],[(.normal,[])]⟩)] [(3754,⟨549487378528,[],[(0,.k (.d (.dat 40)))],[(5,.k (.row 33 false)),(6,.k (.d (.int .i64)))],[((.exit 1),[(5,.k (.row 33 false))])],bnd tb (.slot 6) 2⟩),
 (120794,⟨77370071863715549769893632,[],[(0,.k (.d (.dat 40)))],[(8,.k (.row 130 false)),(9,.k (.row 33 false)),(10,.k (.d (.int .i64)))],[((.exit 3),[(8,.k (.row 130 false)),(9,.k (.row 33 false))])],bnd tb (.slot 10) 2⟩),
 (483290,⟨10382058415869198798257999252078592,[],[(0,.k (.d (.dat 40)))],[(14,.k (.row 97 false)),(15,.k (.d (.int .i64)))],[((.exit 5),[(14,.k (.row 97 false))])],bnd tb (.slot 15) 2⟩)] [] []
def a0G (n:Nat):Row I:=⟨161,[.var 40 (.k (.d (.dat 40))) true,.d (.int .i64)],[.k (.d (.dat 33))],b3h n⟩
def b1D (_:Nat):Hints I:=mkH [(4,[[],[0],[],[],[2,3],[2,3,4],[0,1,2,3,4,5],[0,1,2,3,4,5,6],[0,1,2,3,4,5,6,7]])] [] [] [] [(28,⟨1048322,[],[(0,.k (.d (.dat 40))),(7,.lvs [.row 33 false,.d (.bool),.d (.int .i64),.d (.int .i64),.d (.str),.row 33 false,.row 130 false,.row 97 false,.row 9 false])],[(1,.k (.d (.int .i64)))],[((.exit 0),[])],bnd tb (.slot 1) 2⟩)] [] []
def a0L (n:Nat):Row I:=⟨205,[.var 40 (.k (.d (.dat 40))) true,.d (.int .i64),.d (.int .i64)],[.k (.d (.dat 97))],b3U n⟩
theorem b0x (n:Nat)(_:j5 Go.Proofs.Tryz.prog (a0a n))(h_semtypebase_Source_value:j5 Go.Proofs.Tryz.prog (a0G n))(_:j5 Go.Proofs.Tryz.prog (a0L n)):RK (a0a (n+1)) :=
 okR [eR h_semtypebase_Source_value,eR a6w] 13 Y3 [.cell 4 33] Go.Proofs.Tryz.func111 (by kernel_rfl)
theorem b0o (n:Nat)(h_semtypebase_Source_Value:j5 Go.Proofs.Tryz.prog (a0a n))(_:j5 Go.Proofs.Tryz.prog (a0G n))(h_semtypebase_Source_entry:j5 Go.Proofs.Tryz.prog (a0L n)):RK (a0G (n+1)) :=
 okR [eR a36,eR Z0,eR h_semtypebase_Source_Value,eR a9x,eR a3W,eR b8H,eR a6w,eR b2G,eR b1g,eR h_semtypebase_Source_entry,eR (a8n n)] 124 (b1X n) [.cell 4 33] Go.Proofs.Tryz.func161 (by kernel_rfl)
theorem b0F (n:Nat)(h_semtypebase_Source_Value:j5 Go.Proofs.Tryz.prog (a0a n))(_:j5 Go.Proofs.Tryz.prog (a0G n))(_:j5 Go.Proofs.Tryz.prog (a0L n)):RK (a0L (n+1)) :=
 okR [eR h_semtypebase_Source_Value,eR Z0] 30 (b1D n) [.cell 6 97] Go.Proofs.Tryz.func205 (by kernel_rfl)
theorem a5j:∀ n:Nat,j5 Go.Proofs.Tryz.prog (a0a n)/\j5 Go.Proofs.Tryz.prog (a0G n)/\j5 Go.Proofs.Tryz.prog (a0L n)
 | 0=>⟨Q8 (by kernel_rfl),Q8 (by kernel_rfl),Q8 (by kernel_rfl)⟩
 | n+1=>by
   obtain ⟨h0,h1,h2⟩:=a5j n
   exact ⟨b0x n h0 h1 h2,b0o n h0 h1 h2,b0F n h0 h1 h2⟩
theorem b1t (n:Nat):j5 Go.Proofs.Tryz.prog (a0a n):=(a5j n).1
def b6o:Row I:=⟨152,[.d (.int .u8)],[.k (.d (.bool))],a4i⟩
theorem b7F:RK (b6o) :=
 okR [] 9 Y3 [.tmp 2] Go.Proofs.Tryz.func152 (by kernel_rfl)
def b37:Hints I:=mkH [] [] [] [] [(58,⟨562949953159180,[],[],[(3,.k (.d (.int .i64)))],[((.exit 0),[]),(.ret,[(2,.k (.d (.bool)))])],bnd tb (.len (.slot 0)) 1⟩)] [] []
def b1z:Row I:=⟨88,[.d (.str)],[.k (.d (.bool))],a2g⟩
theorem a7v:RK (b1z) :=
 okR [eR b7F,eR a91,eR a9u] 49 b37 [.tmp 2] Go.Proofs.Tryz.func88 (by kernel_rfl)
def b94 (_:Nat):Hints I:=mkH [(4,[[],[0],[],[0,1,2],[0,1,2,3],[0,1,2,3,4],[0,1,2,3,4,5],[0,1,2,3,4,5,6],[0,1,2,3,4,5,6,7],[0,1,2,3,4,5,6,7,8],[0,1,2,3,4,5,6,7,8,9],[0,1,2,3,4,5,6,7,8,9,10],[0,1,2,3,4,5,6,7,8,9,10,11],[0,1,2,3,4,5,6,7,8,9,10],[0,1,2,3,4,5,6,7,8,9,10,13],[0,1,2,3,4,5,6,7,8,9,10,11,12,13,14],[0,1,2,3,4,5,6,7,8,9,10,11,12,13,14,15],[0,1,2,3,4,5,6,7,8,9,10],[0,1,2,3,4,5,6,7,8,9,10,17],[0,1,2,3,4,5,6,7,8,9,10],[0,1,2,3,4,5,6,7,8,9,10,17,18,19],[0,1,2,3,4,5,6,7,8,9,10,17,18,19,20],[0,1,2,3,4,5,6,7,8,9,10,11,12,13,14,15,16,17,18,19,20,21],[0,1,2,3,4,5,6,7,8,9,10,11,12,13,14,15,16,17,18,19,20,21,22],[0,1,2,3,4,5,6,7,8,9,10,11,12,13,14,15,16,17,18,19,20,21,22,23]]),(29,[[],[0],[],[0,1,2],[0,1,2,3],[0,1,2,3,4],[0,1,2,3,4,5],[0,1,2,3,4,5,6],[0,1,2,3,4,5,6,7],[0,1,2,3,4,5,6,7,8],[0,1,2,3,4,5,6,7,8,9],[0,1,2,3,4,5,6,7,8,9,10],[0,1,2,3,4,5,6,7,8,9,10,11],[0,1,2,3,4,5,6,7,8,9,10],[0,1,2,3,4,5,6,7,8,9,10,13],[0,1,2,3,4,5,6,7,8,9,10,11,12,13,14],[0,1,2,3,4,5,6,7,8,9,10,11,12,13,14,15],[0,1,2,3,4,5,6,7,8,9,10],[0,1,2,3,4,5,6,7,8,9,10,17],[0,1,2,3,4,5,6,7,8,9,10],[0,1,2,3,4,5,6,7,8,9,10,17,18,19],[0,1,2,3,4,5,6,7,8,9,10,17,18,19,20],[0,1,2,3,4,5,6,7,8,9,10,11,12,13,14,15,16,17,18,19,20,21],[0,1,2,3,4,5,6,7,8,9,10,11,12,13,14,15,16,17,18,19,20,21,22],[0,1,2,3,4,5,6,7,8,9,10,11,12,13,14,15,16,17,18,19,20,21,22,23],[0,1,2,3,4,5,6,7,8,9,10,11,12,13,14,15,16,17,18,19,20,21,22,23,24]]),(39,[[],[0],[0,1],[],[3],[0,1,2,3,4],[0,1,2,3,4,5],[0,1,2,3,4,5,6],[0,1,2,3,4,5,6,7],[0,1,2,3,4,5,6,7,8],[0,1,2,3,4,5,6,7,8,9],[0,1,2,3,4,5,6,7,8,9,10],[0,1,2,3,4,5,6,7,8,9],[0,1,2,3,4,5,6,7,8,9,10,11,12],[0,1,2,3,4,5,6,7,8,9,10,11,12,13],[0,1,2,3,4,5,6,7,8,9,10,11,12,13,14],[0,1,2,3,4,5,6,7,8,9,10,11,12,13,14,15],[0,1,2,3,4,5,6,7,8,9,10,11,12,13,14,15,16],[0,1,2,3,4,5,6,7,8,9,10,11,12,13,14,15,16,17],[0,1,2,3,4,5,6,7,8,9,10,11,12,13,14,15,16,17,18],[0,1,2,3,4,5,6,7,8,9,10,11,12,13,14,15,16,17,18,19],[0,1,2,3,4,5,6,7,8,9,10,11,12,13,14,15,16,17,18,19,20],[0,1,2,3,4,5,6,7,8,9,10,11,12,13,14,15,16,17,18,19,20,21],[0,1,2,3,4,5,6,7,8,9,10,11,12,13,14,15,16,17,18,19,20],[0,1,2,3,4,5,6,7,8,9,10,11,12,13,14,15,16,17,18,19,20,23],[0,1,2,3,4,5,6,7,8,9,10,11,12,13,14,15,16,17,18,19,20,21,22,23,24],[0,1,2,3,4,5,6,7,8,9,10,11,12,13,14,15,16,17,18,19,20,21,22,23,24,25],[0,1,2,3,4,5,6,7,8,9,10,11,12,13,14,15,16,17,18,19,20],[0,1,2,3,4,5,6,7,8,9,10,11,12,13,14,15,16,17,18,19,20,21,22,23,24,25,26,27],[0,1,2,3,4,5,6,7,8,9,10,11,12,13,14,15,16,17,18,19,20,21,22,23,24,25,26,27,28],[0,1,2,3,4,5,6,7,8,9,10,11,12,13,14,15,16,17,18,19,20,21,22,23,24,25,26,27,28,29],[0,1,2,3,4,5,6,7,8,9,10,11,12,13,14,15,16,17,18,19,20,21,22,23,24,25,26,27,28,29,30]])] [] [] [(4073,⟨425352958651173079329218259289710264320,[],[],[(.normal,[(126,.k (.d (.bool)))])]⟩)] [(26,⟨4398046510092,[],[],[(3,.k (.d (.int .i64)))],[((.exit 0),[]),(.ret,[(2,.k (.d (.bool)))])],bnd tb (.len (.ld 31 (.fld 33 6 (.slot 1)))) 1⟩),
 (133562354,⟨411376139282411024886683268815639281647236804420309368268914820,[],[],[(7,.k (.d (.int .i64)))],[((.exit 3),[]),(.ret,[(2,.k (.d (.bool)))])],bnd tb (.len (.ld 29 (.fld 33 4 (.slot 1)))) 1⟩),
 (1068498922,⟨948568795032040353016559207911582007103813675119580226322391447047862150789858052,[],[],[(8,.k (.d (.int .i64)))],[((.exit 5),[]),(.ret,[(2,.k (.d (.bool)))])],bnd tb (.len (.ld 30 (.fld 33 5 (.slot 1)))) 1⟩)] [] []
def b8l (n:Nat):Row I:=⟨54,[.d (.dat 33)],[.k (.d (.bool))],a6T n⟩
theorem b8O (n:Nat):RK (b8l n) :=
 okR [eR a7v,eR a56,eR a5o,eR a2o,eR (a9T n),eR (a5V n)] 269 (b94 n) [.tmp 2] Go.Proofs.Tryz.func54 (by kernel_rfl)
def b8Q (_:Nat):Hints I:=mkH [] [] [] [] [(58,⟨16776204,[],[],[(3,.k (.d (.int .i64)))],[((.exit 0),[]),(.ret,[(2,.k (.d (.bool)))])],bnd tb (.len (.ld 28 (.fld 33 3 (.slot 1)))) 1⟩),
 (122,⟨576460752286646388,[],[],[(4,.k (.d (.int .i64)))],[((.exit 2),[]),(.ret,[(2,.k (.d (.bool)))])],bnd tb (.len (.ld 30 (.fld 33 5 (.slot 1)))) 1⟩),
 (31306,⟨1125831187365956,[],[],[(6,.k (.d (.int .i64)))],[((.exit 4),[]),(.ret,[(2,.k (.d (.bool)))])],bnd tb (.len (.ld 28 (.fld 97 0 (.slot 5)))) 1⟩)] [] []
def a6b (n:Nat):Row I:=⟨22,[.d (.dat 33)],[.k (.d (.bool))],a0h n⟩
theorem b7a (n:Nat)(h_semtyperef1_Valid:j5 Go.Proofs.Tryz.prog (a6b n)):RK (a6b (n+1)) :=
 okR [eR (b8O n),eR h_semtyperef1_Valid] 59 (b8Q n) [.tmp 2] Go.Proofs.Tryz.func22 (by kernel_rfl)
theorem a6D:∀ n:Nat,j5 Go.Proofs.Tryz.prog (a6b n)
 | 0=>Q8 (by kernel_rfl)
 | n+1=>b7a n (a6D n)
def V8 (n:Nat):Row I:=⟨26,[.var 40 (.k (.d (.dat 40))) true,.d (.dat 27),.d (.int .i64),.d (.int .i64)],[.k (.d (.dat 33))],a3j n⟩
def b2n (_:Nat):Hints I:=mkH [(7,[[],[0],[],[2],[],[4],[],[6],[6,7],[],[9],[9,10],[6,7,8,9,10,11],[4,5,6,7,8,9,10,11,12],[0,1,2,3,4,5,6,7,8,9,10,11,12,13],[],[15],[0,1,2,3,4,5,6,7,8,9,10,11,12,13,14,15,16],[0,1,2,3,4,5,6,7,8,9,10,11,12,13,14,15,16,17],[0,1,2,3,4,5,6,7,8,9,10,11,12,13,14,15,16,17,18],[0,1,2,3,4,5,6,7,8,9,10,11,12,13,14,15,16,17,18,19]]),(25,[[],[0],[],[],[],[4],[],[4,5,6],[4,5,6,7],[],[9],[2,3,4,5,6,7,8,9,10],[2,3,4,5,6,7,8,9,10,11],[0,1,2,3,4,5,6,7,8,9,10,11,12],[0,1,2,3,4,5,6,7,8,9,10,11,12,13],[0,1,2,3,4,5,6,7,8,9,10,11,12,13,14]]),(30,[[],[0],[],[0,1,2],[0,1,2,3]]),(37,[[],[],[],[2],[],[],[5],[5,6],[4,5,6,7],[2,3,4,5,6,7,8],[2,3,4,5,6,7,8,9],[],[0,1,2,3,4,5,6,7,8,9,10,11],[0,1,2,3,4,5,6,7,8,9,10,11,12]]),(39,[[],[],[],[2],[],[],[5],[5,6],[4,5,6,7],[2,3,4,5,6,7,8],[2,3,4,5,6,7,8,9],[],[0,1,2,3,4,5,6,7,8,9,10,11],[0,1,2,3,4,5,6,7,8,9,10,11,12]]),(43,[[],[0],[],[2],[],[2,3,4],[2,3,4,5],[0,1,2,3,4,5,6],[0,1,2,3,4,5,6,7],[0,1,2,3,4,5,6,7,8],[0,1,2,3,4,5,6,7,8,9]]),(44,[[],[0],[0,1],[],[3],[],[5],[],[5,6,7],[5,6,7,8],[3,4,5,6,7,8,9],[3,4,5,6,7,8,9,10],[3,4,5,6,7,8,9,10,11],[3,4,5,6,7,8,9,10,11,12],[0,1,2,3,4,5,6,7,8,9,10,11,12,13],[0,1,2,3,4,5,6,7,8,9,10,11,12,13,14],[0,1,2,3,4,5,6,7,8,9,10,11,12,13,14,15],[0,1,2,3,4,5,6,7,8,9,10,11,12,13,14,15,16]]),(47,[[],[0],[],[2],[2,3],[0,1,2,3,4],[0,1,2,3,4,5]])] [] [] [(16449533,⟨386856262276681335905976320,[],[],[(.normal,[(86,.k (.d (.bool)))])]⟩),
 (263192557,⟨85029053355366337244815407887308292096,[],[(10,.lvs [.d (.int .i64),.d (.int .i64),.d (.str),.row 33 false,.row 130 false,.row 97 false,.row 9 false])],[(.normal,[])]⟩),
 (539018395474,⟨102844034449451492418213359320247649773843695697413960913387520,[],[(10,.k (.d (.dat 33)))],[(.normal,[])]⟩)] [(131596274,⟨2596147810297394171575110715049984,[],[(0,.k (.d (.dat 40))),(10,.lvs [.d (.int .i64),.d (.int .i64),.d (.str),.row 33 false,.row 130 false,.row 97 false,.row 9 false])],[(11,.k (.d (.int .i64)))],[((.exit 1),[])],bnd tb (.len (.ld 22 (.fld 65 4 (.slot 9)))) 1⟩),
 (67377299434,⟨102844034829582222281431884733353260024018043977843391611277312,[],[(10,.k (.d (.dat 33)))],[(12,.k (.d (.int .i64)))],[((.exit 3),[])],bnd tb (.len (.ld 22 (.fld 65 4 (.slot 9)))) 1⟩)] [] []
def a0f (n:Nat):Row I:=⟨56,[.var 40 (.k (.d (.dat 40))) true,.d (.dat 27),.d (.int .i64),.d (.int .i64)],[.k (.d (.dat 33))],b4d n⟩
def a8K (_:Nat):Hints I:=mkH [(10,[[],[0],[],[],[],[4],[],[4,5,6],[4,5,6,7],[],[9],[2,3,4,5,6,7,8,9,10],[2,3,4,5,6,7,8,9,10,11],[0,1,2,3,4,5,6,7,8,9,10,11,12],[0,1,2,3,4,5,6,7,8,9,10,11,12,13],[0,1,2,3,4,5,6,7,8,9,10,11,12,13,14]]),(13,[[],[],[],[2],[],[2,3,4],[2,3,4,5],[],[7],[0,1,2,3,4,5,6,7,8],[0,1,2,3,4,5,6,7,8,9],[0,1,2,3,4,5,6,7,8,9,10]])] [] [] [(31309,⟨2305280059260272640,[],[(0,.k (.d (.dat 40))),(12,.lvs [.row 33 false,.d (.bool),.d (.int .i64),.d (.int .i64),.d (.str),.d (.sl 33),.d (.sl 130),.d (.sl 97),.d (.sl 9)])],[(.normal,[])]⟩)] [(122,⟨36893488147414923776,[],[(0,.k (.d (.dat 40)))],[(9,.k (.row 97 false)),(11,.k (.d (.int .i64)))],[((.exit 0),[(9,.k (.row 97 false))])],bnd tb (.slot 11) 2⟩),
 (31306,⟨70368677076992,[],[(0,.k (.d (.dat 40))),(12,.lvs [.row 33 false,.d (.bool),.d (.int .i64),.d (.int .i64),.d (.str),.row 33 false,.row 130 false,.row 97 false,.row 9 false])],[(13,.k (.d (.int .i64)))],[((.exit 2),[])],bnd tb (.slot 10) 1⟩)] [] []
def K4 (n:Nat):Row I:=⟨108,[.var 40 (.k (.d (.dat 40))) true,.d (.dat 27),.d (.dat 65),.d (.int .i64)],[.k (.d (.dat 33))],a9n n⟩
def b0K (_:Nat):Hints I:=mkH [(8,[[],[],[],[],[3],[],[3,4,5],[3,4,5,6],[3,4,5,6,7],[],[9],[1,2,3,4,5,6,7,8,9,10],[1,2,3,4,5,6,7,8,9,10,11],[0,1,2,3,4,5,6,7,8,9,10,11,12],[0,1,2,3,4,5,6,7,8,9,10,11,12,13]]),(12,[[],[],[],[],[3],[],[3,4,5],[3,4,5,6],[],[8],[1,2,3,4,5,6,7,8,9],[1,2,3,4,5,6,7,8,9,10],[0,1,2,3,4,5,6,7,8,9,10,11],[0,1,2,3,4,5,6,7,8,9,10,11,12]])] [(6,[28])] [] [(125,⟨604462333346562283935232,[],[(0,.k (.d (.dat 40)))],[(.normal,[(9,.k (.row 130 false)),(10,.k (.row 33 false))])]⟩),
 (978,⟨72057594033735168,[],[(0,.k (.d (.dat 40)))],[(.normal,[(9,.k (.row 130 false)),(10,.k (.row 33 false))])]⟩),
 (7824,⟨8585740288,[],[(0,.k (.d (.dat 40)))],[(.normal,[(32,.k (.d (.bool)))])]⟩)] [(122,⟨72057594037898752,[],[(0,.k (.d (.dat 40)))],[(9,.k (.row 130 false)),(10,.k (.row 33 false)),(11,.k (.d (.int .i64)))],[((.exit 0),[(9,.k (.row 130 false)),(10,.k (.row 33 false))])],bnd tb (.len (.ld 62 (.fld 65 5 (.slot 6)))) 1⟩)] [] []
def W2 (n:Nat):Row I:=⟨107,[.var 40 (.k (.d (.dat 40))) true,.d (.dat 27),.d (.dat 65),.d (.int .i64)],[.k (.d (.dat 33))],b1Q n⟩
theorem b05 (n:Nat)(_:j5 Go.Proofs.Tryz.prog (V8 n))(h_semtypebase_Source_near:j5 Go.Proofs.Tryz.prog (a0f n))(_:j5 Go.Proofs.Tryz.prog (K4 n))(_:j5 Go.Proofs.Tryz.prog (W2 n)):RK (V8 (n+1)) :=
 okR [eR h_semtypebase_Source_near,eR (a6D n),eR a36] 21 Y3 [.cell 8 33] Go.Proofs.Tryz.func26 (by kernel_rfl)
theorem b1m (n:Nat)(h_semtypebase_Source_Near:j5 Go.Proofs.Tryz.prog (V8 n))(h_semtypebase_Source_near:j5 Go.Proofs.Tryz.prog (a0f n))(h_semtypebase_Source_nearFunction:j5 Go.Proofs.Tryz.prog (K4 n))(h_semtypebase_Source_nearMap:j5 Go.Proofs.Tryz.prog (W2 n)):RK (a0f (n+1)) :=
 okR [eR a36,eR Z0,eR a7K,eR a85,eR a2n,eR b0h,eR a1p,eR b1h,eR a3W,eR h_semtypebase_Source_Near,eR h_semtypebase_Source_nearMap,eR h_semtypebase_Source_nearFunction,eR h_semtypebase_Source_near,eR a6t,eR b2D,eR (b1t n)] 217 (b2n n) [.cell 8 33] Go.Proofs.Tryz.func56 (by kernel_rfl)
theorem a8j (n:Nat)(h_semtypebase_Source_Near:j5 Go.Proofs.Tryz.prog (V8 n))(_:j5 Go.Proofs.Tryz.prog (a0f n))(_:j5 Go.Proofs.Tryz.prog (K4 n))(_:j5 Go.Proofs.Tryz.prog (W2 n)):RK (K4 (n+1)) :=
 okR [eR Z0,eR h_semtypebase_Source_Near,eR (a8n n),eR a3W] 75 (a8K n) [.cell 8 33] Go.Proofs.Tryz.func108 (by kernel_rfl)
theorem a9t (n:Nat)(h_semtypebase_Source_Near:j5 Go.Proofs.Tryz.prog (V8 n))(_:j5 Go.Proofs.Tryz.prog (a0f n))(_:j5 Go.Proofs.Tryz.prog (K4 n))(_:j5 Go.Proofs.Tryz.prog (W2 n)):RK (W2 (n+1)) :=
 okR [eR Z0,eR h_semtypebase_Source_Near,eR b1g,eR a3W] 89 (b0K n) [.cell 8 33] Go.Proofs.Tryz.func107 (by kernel_rfl)
theorem a5F:∀ n:Nat,j5 Go.Proofs.Tryz.prog (V8 n)/\j5 Go.Proofs.Tryz.prog (a0f n)/\j5 Go.Proofs.Tryz.prog (K4 n)/\j5 Go.Proofs.Tryz.prog (W2 n)
 | 0=>⟨Q8 (by kernel_rfl),Q8 (by kernel_rfl),Q8 (by kernel_rfl),Q8 (by kernel_rfl)⟩
 | n+1=>by
   obtain ⟨h0,h1,h2,h3⟩:=a5F n
   exact ⟨b05 n h0 h1 h2 h3,b1m n h0 h1 h2 h3,a8j n h0 h1 h2 h3,a9t n h0 h1 h2 h3⟩
theorem b1y (n:Nat):j5 Go.Proofs.Tryz.prog (V8 n):=(a5F n).1
def b8X (_:Nat):Hints I:=mkH [(5,[[],[],[],[],[1,2,3],[0,1,2,3,4],[0,1,2,3,4,5]])] [] [] [] [] [] []
def b6B (n:Nat):Row I:=⟨9,[.d (.sl 3),.d (.sl 3)],[.k (.d (.dat 27)),.k (.d (.dat 33))],a52 n⟩
theorem b7y (n:Nat):RK (b6B n) :=
 okR [eR Z0,eR b2a,eR (b1y n)] 31 (b8X n) [.cell 4 27,.cell 5 33] Go.Proofs.Tryz.func9 (by kernel_rfl)
def b87:Hints I:=mkH [(7,[[],[],[1],[0,1,2],[],[],[4,5],[0,1,2,3,4,5,6],[0,1,2,3,4,5,6,7]])] [] [] [] [(28,⟨2097056,[],[],[(5,.k (.d (.int .i64)))],[((.exit 0),[(5,.k (.d (.int .i64)))])],bnd tb (.len (.slot 0)) 1⟩)] [] []
def b7X:Row I:=⟨72,[.d (.sl 3),.d (.int .i64)],[.k (.d (.sl 3))],a6K⟩
theorem b8S:RK (b7X) :=
 okR [] 46 b87 [.tmp 4] Go.Proofs.Tryz.func72 (by kernel_rfl)
def b9g:Hints I:=mkH [] [] [] [] [(58,⟨131064,[],[],[(3,.k (.d (.sl 3))),(4,.k (.d (.int .i64)))],[((.exit 0),[(3,.k (.d (.sl 3)))])],bnd tb (.len (.slot 0)) 1⟩)] [] []
def b8d:Row I:=⟨35,[.d (.sl 3)],[.k (.d (.sl 3))],a4Y⟩
theorem b8K:RK (b8d) :=
 okR [eR b8S] 18 b9g [.tmp 2] Go.Proofs.Tryz.func35 (by kernel_rfl)
def b8j:Hints I:=mkH [(1,[[],[0],[0,1],[],[3],[0,1,2,3,4],[],[6],[0,1,2,3,4,5,6,7],[0,1,2,3,4,5,6,7,8]])] [] [] [] [] [] []
def b5i:Row I:=⟨15,[.d (.dat 37)],[.k (.d (.dat 37))],a5E⟩
theorem b6M:RK (b5i) :=
 okR [eR b8K] 12 b8j [.cell 2 37] Go.Proofs.Tryz.func15 (by kernel_rfl)
def b2j:Hints I:=mkH [(5,[[],[0],[],[],[3],[3,4],[2,3,4,5],[2,3,4,5,6],[0,1,2,3,4,5,6,7],[0,1,2,3,4,5,6,7,8],[0,1,2,3,4,5,6,7,8,9]]),(9,[[],[0],[],[],[3],[3,4],[2,3,4,5],[2,3,4,5,6],[0,1,2,3,4,5,6,7],[0,1,2,3,4,5,6,7,8],[0,1,2,3,4,5,6,7,8,9]])] [] [] [] [(58,⟨67104832,[],[(0,.k (.d (.dat 40))),(5,.lvs [.row 3 false,.row 3 false,.d (.bool)])],[(6,.k (.d (.int .i64)))],[((.exit 0),[])],bnd tb (.slot 6) 2⟩),
 (122,⟨4397778075776,[],[(0,.k (.d (.dat 40))),(5,.lvs [.row 3 false,.row 3 false,.d (.bool)])],[(7,.k (.d (.int .i64)))],[((.exit 2),[])],bnd tb (.slot 7) 2⟩)] [] []
def b1v:Row I:=⟨10,[.var 40 (.k (.d (.dat 40))) true,.d (.dat 27)],[.k (.d (.dat 37))],a3h⟩
theorem b1G:RK (b1v) :=
 okR [eR Z0,eR b6M] 48 b2j [.cell 4 37] Go.Proofs.Tryz.func10 (by kernel_rfl)
def b7c:Row I:=⟨53,[.d (.dat 27),.d (.int .i64)],[.k (.d (.bool))],a0C⟩
theorem a6M:RK (b7c) :=
 okR [] 14 Y3 [.tmp 4] Go.Proofs.Tryz.func53 (by kernel_rfl)
def b9e:Hints I:=mkH [(4,[[],[],[1],[],[1,2,3],[1,2,3,4],[0,1,2,3,4,5],[0,1,2,3,4,5,6]]),(47,[[],[],[1],[0,1,2],[0,1,2,3],[0,1,2,3,4],[0,1,2,3,4,5],[0,1,2,3,4,5,6],[0,1,2,3,4,5,6,7],[0,1,2,3,4,5,6,7,8],[0,1,2,3,4,5,6,7,8,9],[0,1,2,3,4,5,6,7,8,9,10],[0,1,2,3,4,5,6,7,8,9,10,11],[0,1,2,3,4,5,6,7,8,9,10,11,12],[0,1,2,3,4,5,6,7,8,9,10,11,12,13],[0,1,2,3,4,5,6,7,8,9,10,11,12,13,14],[0,1,2,3,4,5,6,7,8,9,10,11,12,13,14,15],[0,1,2,3,4,5,6,7,8,9,10,11,12,13,14],[0,1,2,3,4,5,6,7,8,9,10,11,12,13,14,17],[0,1,2,3,4,5,6,7,8,9,10,11,12,13,14,15,16,17,18],[0,1,2,3,4,5,6,7,8,9,10,11,12,13,14,15,16,17,18,19],[0,1,2,3,4,5,6,7,8,9,10,11,12,13,14,15,16,17,18,19,20],[0,1,2,3,4,5,6,7,8,9,10,11,12,13,14],[0,1,2,3,4,5,6,7,8,9,10,11,12,13,14,22],[0,1,2,3,4,5,6,7,8,9,10,11,12,13,14,15,16,17,18,19,20,21,22,23],[0,1,2,3,4,5,6,7,8,9,10,11,12,13,14,15,16,17,18,19,20,21,22,23,24],[0,1,2,3,4,5,6,7,8,9,10,11,12,13,14,15,16,17,18,19,20,21,22,23,24,25],[0,1,2,3,4,5,6,7,8,9,10,11,12,13,14,15,16,17,18,19,20,21,22,23,24,25,26]])] [] [] [(2092029,⟨2706308199418088717232151174730781556736,[],[],[(.normal,[(122,.k (.d (.bool)))])]⟩),
 (535560189,⟨3568119231764899702645714923623737840956866560,[],[],[(.normal,[(149,.k (.d (.bool)))])]⟩)] [(26,⟨67106864,[],[],[(5,.k (.d (.int .i64)))],[((.exit 0),[]),(.ret,[(4,.k (.d (.bool)))])],bnd tb (.len (.ld 22 (.fld 65 4 (.slot 3)))) 1⟩),
 (68551704562,⟨1606938044257528773904631189422958917689486710763136902759952,[],[],[(9,.k (.d (.int .i64)))],[((.exit 3),[]),(.ret,[(4,.k (.d (.bool)))])],bnd tb (.len (.ld 62 (.fld 65 5 (.slot 3)))) 1⟩)] [] []
def b7P:Row I:=⟨69,[.d (.dat 27),.d (.dat 65)],[.k (.d (.bool))],a6F⟩
theorem b8D:RK (b7P) :=
 okR [eR a6M,eR a56,eR a7v,eR a5o,eR a2o] 216 b9e [.tmp 4] Go.Proofs.Tryz.func69 (by kernel_rfl)
def b4j:Row I:=⟨70,[.d (.dat 65)],[.k (.d (.bool))],a43⟩
theorem b5Y:RK (b4j) :=
 okR [] 16 Y3 [.tmp 2] Go.Proofs.Tryz.func70 (by kernel_rfl)
def b3s (n:Nat):Hints I:=mkH [(6,[[],[],[1],[],[1,2,3],[1,2,3,4],[0,1,2,3,4,5],[0,1,2,3,4,5,6]])] [] [] [] [(58,⟨1073709068,[],[],[(3,.k (.d (.int .i64)))],[((.exit 0),[]),(.ret,[(2,.k (.d (.int .i64)))])],bnd tb (.len (.ld 25 (.fld 27 0 (.slot 1)))) 1⟩),
 (250,⟨4951760157141521082416628192,[],[],[(4,.k (.row 4 false)),(5,.k (.d (.int .i64)))],[((.exit 2),[(4,.k (.row 4 false))])],bnd tb (.len (.ld 25 (.fld 27 0 (.slot 1)))) 1⟩),
 (506,⟨10136253041668693690874029146628,[],[],[(4,.k (.row 4 false)),(9,.k (.d (.int .i64)))],[((.exit 8),[(4,.k (.row 4 false))]),(.ret,[(2,.k (.d (.int .i64))),(4,.k (.row 4 false))])],bnd tb (.len (.slot 4)) 1⟩),
 (16018,⟨4951760157141518900573241792,[],[],[(4,.k (.row 4 false)),(6,.k (.d (.int .i64)))],[((.exit 4),[(4,.k (.row 4 false))])],bnd tb (.len (.ld 25 (.fld 27 0 (.slot 1)))) 1⟩),
 (4100682,⟨4835703278177041722114432,[],[],[(4,.k (.row 4 false)),(7,.k (.d (.bool))),(8,.k (.d (.int .i64)))],[((.exit 6),[(4,.k (.row 4 false)),(7,.k (.d (.bool)))])],fun _=>some n⟩)] [] []
def b1S (n:Nat):Row I:=⟨32,[.d (.dat 27)],[.k (.d (.int .i64))],a1g n⟩
theorem b2L (n:Nat):RK (b1S n) :=
 okR [eR a6M,eR b8D,eR b5Y] 103 (b3s n) [.tmp 2] Go.Proofs.Tryz.func32 (by kernel_rfl)
def b65:Hints I:=mkH [(1,[[],[0],[0,1],[],[3],[0,1,2,3,4],[0,1,2,3,4,5]]),(5,[[],[],[],[1,2],[1,2,3],[0,1,2,3,4],[0,1,2,3,4,5]])] [] [] [] [(58,⟨67100752,[5],[],[(6,.k (.d (.int .i64)))],[((.exit 0),[]),(.ret,[(4,.k (.d (.bool)))])],bnd tb (.len (.slot 5)) 1⟩)] [] []
def b4o:Row I:=⟨21,[.d (.dat 27),.d (.dat 37)],[.k (.d (.bool))],a48⟩
theorem b5W:RK (b4o) :=
 okR [eR a6M] 26 b65 [.tmp 4] Go.Proofs.Tryz.func21 (by kernel_rfl)
def c1a:Hints I:=mkH [(4,[[],[0],[],[0,1,2],[0,1,2,3],[],[0,1,2,3,4,5]])] [] [] [] [(26,⟨2097136,[],[],[(5,.k (.d (.int .i64)))],[((.exit 0),[]),(.ret,[(4,.k (.d (.int .i64)))])],bnd tb (.len (.ld 29 (.fld 33 4 (.slot 2)))) 1⟩)] [] []
def b8z:Row I:=⟨181,[.d (.dat 33),.d (.dat 130)],[.k (.d (.int .i64))],a7p⟩
theorem c0d:RK (b8z) :=
 okR [] 21 c1a [.tmp 4] Go.Proofs.Tryz.func181 (by kernel_rfl)
def b8Z:Hints I:=mkH [(4,[[],[0],[],[0,1,2],[0,1,2,3],[0,1,2,3,4],[],[0,1,2,3,4,5,6]])] [] [] [] [(26,⟨4194288,[],[],[(5,.k (.d (.int .i64)))],[((.exit 0),[]),(.ret,[(4,.k (.d (.int .i64)))])],bnd tb (.len (.ld 62 (.fld 65 5 (.slot 2)))) 1⟩)] [] []
def b6v:Row I:=⟨182,[.d (.dat 65),.d (.dat 130)],[.k (.d (.int .i64))],a3a⟩
theorem b8p:RK (b6v) :=
 okR [] 22 b8Z [.tmp 4] Go.Proofs.Tryz.func182 (by kernel_rfl)
def b5C (_:Nat):Hints I:=mkH [(8,[[],[0],[],[],[3],[],[3,4,5],[0,1,2,3,4,5,6],[0,1,2,3,4,5,6,7],[0,1,2,3,4,5,6,7,8],[0,1,2,3,4,5,6,7,8,9],[0,1,2,3,4,5,6,7,8,9,10],[0,1,2,3,4,5,6,7,8,9,10,11],[0,1,2,3,4,5,6,7,8,9,10,11,12],[0,1,2,3,4,5,6,7,8,9,10,11],[0,1,2,3,4,5,6,7,8,9,10,11],[0,1,2,3,4,5,6,7,8,9,10,11,15],[0,1,2,3,4,5,6,7,8,9,10,11],[0,1,2,3,4,5,6,7,8,9,10,11,15,16,17],[0,1,2,3,4,5,6,7,8,9,10,11,15,16,17,18],[0,1,2,3,4,5,6,7,8,9,10,11,12,13,14,15,16,17,18,19],[0,1,2,3,4,5,6,7,8,9,10,11,12,13,14,15,16,17,18,19,20],[0,1,2,3,4,5,6,7,8,9,10,11,12,13,14,15,16,17,18,19,20,21],[0,1,2,3,4,5,6,7,8,9,10,11,12,13,14,15,16,17,18,19,20,21,22]])] [] [] [] [(122,⟨18014398509220672,[],[],[(8,.k (.d (.int .i64)))],[((.exit 0),[]),(.ret,[(6,.k (.d (.bool)))])],bnd tb (.len (.ld 30 (.fld 33 5 (.slot 3)))) 1⟩)] [] []
def a0J (n:Nat):Row I:=⟨133,[.d (.dat 33),.d (.dat 27),.d (.dat 65)],[.k (.d (.bool))],a06 n⟩
def b6N (_:Nat):Hints I:=mkH [(4,[[],[0],[],[0,1,2],[0,1,2,3],[0,1,2,3,4],[0,1,2,3,4,5],[0,1,2,3,4,5,6],[0,1,2,3,4,5,6,7],[0,1,2,3,4,5,6,7],[0,1,2,3,4,5,6,7,9],[0,1,2,3,4,5,6,7],[0,1,2,3,4,5,6,7,9,10,11],[0,1,2,3,4,5,6,7,9,10,11,12],[0,1,2,3,4,5,6,7,9,10,11,12,13],[0,1,2,3,4,5,6,7,8,9,10,11,12,13,14],[0,1,2,3,4,5,6,7,8,9,10,11,12,13,14,15],[0,1,2,3,4,5,6,7,8,9,10,11,12,13,14,15,16]]),(9,[[],[],[1],[],[1,2,3],[1,2,3,4],[0,1,2,3,4,5],[0,1,2,3,4,5,6]]),(13,[[],[0],[],[0,1,2],[0,1,2,3],[],[],[0,1,2,3,4,5,6],[0,1,2,3,4,5,6,7]])] [] [] [(3730,⟨575334852396581888,[],[],[(.normal,[(10,.k (.d (.int .i64)))])]⟩),
 (14925,⟨145268109580462720000,[],[],[(.normal,[(10,.k (.d (.int .i64)))])]⟩)] [(26,⟨68719474880,[],[],[(7,.k (.d (.int .i64)))],[((.exit 0),[]),(.ret,[(6,.k (.d (.bool)))])],bnd tb (.len (.ld 62 (.fld 65 5 (.slot 5)))) 1⟩),
 (58,⟨75557863725845603944256,[],[],[(8,.k (.d (.int .i64)))],[((.exit 2),[]),(.ret,[(6,.k (.d (.bool)))])],bnd tb (.len (.ld 29 (.fld 33 4 (.slot 3)))) 1⟩)] [] []
def a0Z (n:Nat):Row I:=⟨132,[.d (.dat 33),.d (.dat 27),.d (.dat 65)],[.k (.d (.bool))],a1j n⟩
def b71 (_:Nat):Hints I:=mkH [(35,[[],[],[],[2],[],[2,3,4],[2,3,4,5],[0,1,2,3,4,5,6]]),(42,[[],[],[],[2],[],[2,3,4],[2,3,4,5],[0,1,2,3,4,5,6],[0,1,2,3,4,5,6,7]]),(46,[[],[],[],[2],[2,3],[2,3,4],[0,1,2,3,4,5],[0,1,2,3,4,5,6],[0,1,2,3,4,5,6,7]]),(51,[[],[0],[],[0,1,2],[0,1,2,3],[],[5],[0,1,2,3,4,5,6]])] [] [] [] [(506806140914,⟨365364258960126464239350440319934430733230145856,[],[],[(8,.k (.d (.int .i64)))],[((.exit 1),[]),(.ret,[(6,.k (.d (.bool)))])],bnd tb (.len (.ld 22 (.fld 65 4 (.slot 7)))) 1⟩),
 (2027224563698,⟨95779509802480722744478485512061607693151539203932736,[],[],[(9,.k (.d (.int .i64)))],[((.exit 3),[]),(.ret,[(6,.k (.d (.bool)))])],bnd tb (.len (.ld 22 (.fld 65 4 (.slot 7)))) 1⟩),
 (16217796509690,⟨12855112035213460536787957001890350341026617553047063680255040,[],[],[(10,.k (.d (.int .i64)))],[((.exit 5),[]),(.ret,[(6,.k (.d (.bool)))])],bnd tb (.len (.ld 31 (.fld 33 6 (.slot 3)))) 1⟩)] [] []
end Go.Qx
end
section
namespace Go.Qx
open Go Go.RowKit Go.Sx
set_option maxHeartbeats 1600000
set_option maxRecDepth 100000
def a0r (n:Nat):Row I:=⟨71,[.d (.dat 33),.d (.dat 27),.d (.int .i64)],[.k (.d (.bool))],v8 n⟩
def b6U (_:Nat):Hints I:=mkH [(6,[[],[],[0,1],[0,1,2],[],[],[],[5,6],[5,6,7],[0,1,2,3,4,5,6,7,8],[0,1,2,3,4,5,6,7,8,9]])] [] [] [] [(58,⟨1073733824,[],[],[(7,.k (.d (.int .i64)))],[((.exit 0),[]),(.ret,[(6,.k (.d (.bool)))])],bnd tb (.len (.slot 0)) 1⟩)] [] []
def a00 (n:Nat):Row I:=⟨131,[.d (.sl 33),.d (.dat 27),.d (.sl 3)],[.k (.d (.bool))],a0z n⟩
theorem b3X (n:Nat)(_:j5 Go.Proofs.Tryz.prog (a0J n))(_:j5 Go.Proofs.Tryz.prog (a0Z n))(h_semtyperef7_member:j5 Go.Proofs.Tryz.prog (a0r n))(h_semtyperef7_members:j5 Go.Proofs.Tryz.prog (a00 n)):RK (a0J (n+1)) :=
 okR [eR h_semtyperef7_members,eR h_semtyperef7_member] 54 (b5C n) [.tmp 6] Go.Proofs.Tryz.func133 (by kernel_rfl)
theorem b4k (n:Nat)(_:j5 Go.Proofs.Tryz.prog (a0J n))(_:j5 Go.Proofs.Tryz.prog (a0Z n))(h_semtyperef7_member:j5 Go.Proofs.Tryz.prog (a0r n))(_:j5 Go.Proofs.Tryz.prog (a00 n)):RK (a0Z (n+1)) :=
 okR [eR c0d,eR b8p,eR h_semtyperef7_member] 76 (b6N n) [.tmp 6] Go.Proofs.Tryz.func132 (by kernel_rfl)
theorem b5P (n:Nat)(h_semtyperef7_function:j5 Go.Proofs.Tryz.prog (a0J n))(h_semtyperef7_mapping:j5 Go.Proofs.Tryz.prog (a0Z n))(h_semtyperef7_member:j5 Go.Proofs.Tryz.prog (a0r n))(h_semtyperef7_members:j5 Go.Proofs.Tryz.prog (a00 n)):RK (a0r (n+1)) :=
 okR [eR h_semtyperef7_members,eR h_semtyperef7_mapping,eR h_semtyperef7_function,eR h_semtyperef7_member] 203 (b71 n) [.tmp 6] Go.Proofs.Tryz.func71 (by kernel_rfl)
theorem b4w (n:Nat)(_:j5 Go.Proofs.Tryz.prog (a0J n))(_:j5 Go.Proofs.Tryz.prog (a0Z n))(h_semtyperef7_member:j5 Go.Proofs.Tryz.prog (a0r n))(_:j5 Go.Proofs.Tryz.prog (a00 n)):RK (a00 (n+1)) :=
 okR [eR h_semtyperef7_member] 30 (b6U n) [.tmp 6] Go.Proofs.Tryz.func131 (by kernel_rfl)
theorem a6C:∀ n:Nat,j5 Go.Proofs.Tryz.prog (a0J n)/\j5 Go.Proofs.Tryz.prog (a0Z n)/\j5 Go.Proofs.Tryz.prog (a0r n)/\j5 Go.Proofs.Tryz.prog (a00 n)
 | 0=>⟨Q8 (by kernel_rfl),Q8 (by kernel_rfl),Q8 (by kernel_rfl),Q8 (by kernel_rfl)⟩
 | n+1=>by
   obtain ⟨h0,h1,h2,h3⟩:=a6C n
   exact ⟨b3X n h0 h1 h2 h3,b4k n h0 h1 h2 h3,b5P n h0 h1 h2 h3,b4w n h0 h1 h2 h3⟩
theorem b64 (n:Nat):j5 Go.Proofs.Tryz.prog (a0r n):=(a6C n).2.2.1
def b77 (_:Nat):Hints I:=mkH [(4,[[],[],[],[2],[],[2,3,4],[2,3,4,5],[0,1,2,3,4,5,6],[0,1,2,3,4,5,6,7]]),(9,[[],[],[],[2],[],[2,3,4],[2,3,4,5],[0,1,2,3,4,5,6]])] [] [] [] [(26,⟨33554112,[],[],[(7,.k (.d (.int .i64)))],[((.exit 0),[]),(.ret,[(6,.k (.d (.bool)))])],bnd tb (.len (.ld 22 (.fld 37 0 (.slot 5)))) 1⟩),
 (58,⟨1099478073664,[],[],[(8,.k (.d (.int .i64)))],[((.exit 2),[]),(.ret,[(6,.k (.d (.bool)))])],bnd tb (.len (.ld 22 (.fld 37 1 (.slot 5)))) 1⟩)] [] []
def b5q (n:Nat):Row I:=⟨33,[.d (.dat 33),.d (.dat 27),.d (.dat 37)],[.k (.d (.bool))],a7R n⟩
theorem b51 (n:Nat):RK (b5q n) :=
 okR [eR (b64 n)] 53 (b77 n) [.tmp 6] Go.Proofs.Tryz.func33 (by kernel_rfl)
def b5T (n:Nat):Row I:=⟨13,[.d (.dat 33),.d (.dat 27),.d (.dat 37)],[.k (.d (.bool))],a0W n⟩
theorem a9e (n:Nat):RK (b5T n) :=
 okR [eR (a6D n),eR (b2L n),eR b5W,eR (b51 n)] 25 Y3 [.tmp 6] Go.Proofs.Tryz.func13 (by kernel_rfl)
def b8R:Hints I:=mkH [] [] [] [] [(26,⟨16776784,[],[],[(9,.k (.d (.int .i64)))],[((.exit 0),[]),(.ret,[(4,.k (.d (.bool)))])],bnd tb (.slot 8) 1⟩)] [] []
def b6V:Row I:=⟨90,[.d (.sl 126),.d (.int .i64)],[.k (.d (.bool))],a5Z⟩
theorem b8u:RK (b6V) :=
 okR [] 24 b8R [.tmp 4] Go.Proofs.Tryz.func90 (by kernel_rfl)
def b8M:Hints I:=mkH [(1,[[],[0],[],[0,1,2],[],[4],[0,1,2,3,4,5],[0,1,2,3,4,5,6]])] [] [] [] [] [] []
def b6i:Row I:=⟨91,[.d (.dat 51),.d (.str)],[.k (.d (.bool))],a5Y⟩
theorem b7T:RK (b6i) :=
 okR [eR a07] 12 b8M [.tmp 4] Go.Proofs.Tryz.func91 (by kernel_rfl)
def c32:Hints I:=mkH [] [] [] [(941,⟨2621440,[],[],[(.normal,[(19,.k (.d (.bool)))])]⟩)] [] [] []
def c12:Row I:=⟨51,[.d (.dat 33),.d (.dat 53)],[.k (.d (.bool))],a93⟩
theorem c2N:RK (c12) :=
 okR [eR b8u,eR b7T] 42 c32 [.tmp 4] Go.Proofs.Tryz.func51 (by kernel_rfl)
def c3H (_:Nat):Hints I:=mkH [] [] [] [(1001,⟨261208778387488768,[],[],[(.normal,[(53,.k (.d (.bool)))])]⟩)] [(58,⟨70300024701248,[],[],[(36,.k (.d (.int .i64)))],[((.exit 0),[]),(.ret,[(6,.k (.d (.bool)))])],bnd tb (.slot 35) 1⟩)] [] []
def c2d (n:Nat):Row I:=⟨19,[.d (.dat 33),.d (.dat 27),.d (.dat 53)],[.k (.d (.bool))],a7W n⟩
theorem c3d (n:Nat):RK (c2d n) :=
 okR [eR (b2f n),eR (a5Q n),eR b0z,eR c2N,eR a07,eR b0g,eR (b6Z n)] 65 (c3H n) [.tmp 6] Go.Proofs.Tryz.func19 (by kernel_rfl)
def b5h:Hints I:=mkH [] [] [] [] [(26,⟨1048560,[],[],[(5,.k (.d (.int .i64)))],[((.exit 0),[]),(.ret,[(4,.k (.d (.bool)))])],bnd tb (.len (.ld 31 (.fld 33 6 (.slot 2)))) 1⟩)] [] []
def b3w:Row I:=⟨48,[.d (.dat 33),.d (.str)],[.k (.d (.bool))],a2N⟩
theorem b4e:RK (b3w) :=
 okR [] 20 b5h [.tmp 4] Go.Proofs.Tryz.func48 (by kernel_rfl)
def b7g:Hints I:=mkH [] [] [] [] [(26,⟨268435440,[],[],[(5,.k (.d (.int .i64)))],[((.exit 0),[]),(.ret,[(4,.k (.d (.bool)))])],bnd tb (.len (.slot 0)) 1⟩)] [] []
def b4Z:Row I:=⟨49,[.d (.sl 126),.d (.int .i64)],[.k (.d (.bool))],a5A⟩
theorem b61:RK (b4Z) :=
 okR [] 28 b7g [.tmp 4] Go.Proofs.Tryz.func49 (by kernel_rfl)
def b81:Hints I:=mkH [] [] [] [] [(26,⟨262128,[],[],[(5,.k (.d (.int .i64)))],[((.exit 0),[]),(.ret,[(4,.k (.d (.bool)))])],bnd tb (.len (.slot 0)) 1⟩)] [] []
def b6n:Row I:=⟨89,[.d (.sl 9),.d (.str)],[.k (.d (.bool))],a8o⟩
theorem b7Q:RK (b6n) :=
 okR [] 18 b81 [.tmp 4] Go.Proofs.Tryz.func89 (by kernel_rfl)
def b6P:Hints I:=mkH [(1,[[],[0],[],[0,1,2],[],[4],[0,1,2,3,4,5],[0,1,2,3,4,5,6]])] [] [] [] [] [] []
def b4y:Row I:=⟨50,[.d (.dat 51),.d (.str)],[.k (.d (.bool))],a5d⟩
theorem b5m:RK (b4y) :=
 okR [eR b7Q] 12 b6P [.tmp 4] Go.Proofs.Tryz.func50 (by kernel_rfl)
def b76 (_:Nat):Hints I:=mkH [(6,[[],[],[1],[],[1,2,3],[1,2,3,4],[0,1,2,3,4,5],[0,1,2,3,4,5,6]]),(11,[[],[],[1],[],[1,2,3],[1,2,3,4],[0,1,2,3,4,5]])] [] [] [(4013,⟨22517998136852480,[],[],[(.normal,[(52,.k (.d (.bool)))])]⟩),
 (257021,⟨198070406285660843983859875840,[],[],[(.normal,[(95,.k (.d (.bool)))])]⟩)] [(58,⟨536854720,[],[],[(7,.k (.d (.int .i64)))],[((.exit 0),[]),(.ret,[(6,.k (.d (.bool)))])],bnd tb (.len (.ld 31 (.fld 53 6 (.slot 5)))) 1⟩),
 (122,⟨8795556151616,[],[],[(8,.k (.d (.int .i64)))],[((.exit 2),[]),(.ret,[(6,.k (.d (.bool)))])],bnd tb (.len (.ld 31 (.fld 53 7 (.slot 5)))) 1⟩)] [] []
def b5y (n:Nat):Row I:=⟨18,[.d (.dat 33),.d (.dat 27),.d (.dat 53)],[.k (.d (.bool))],a3T n⟩
theorem b6J (n:Nat):RK (b5y n) :=
 okR [eR b4e,eR b61,eR b5m,eR (a9e n)] 106 (b76 n) [.tmp 6] Go.Proofs.Tryz.func18 (by kernel_rfl)
def b3k (_:Nat):Hints I:=mkH [(13,[[],[],[],[],[2,3],[2,3,4],[0,1,2,3,4,5],[0,1,2,3,4,5,6]]),(14,[[],[],[],[],[2,3],[2,3,4],[0,1,2,3,4,5],[],[0,1,2,3,4,5,6,7]])] [] [] [] [(4090,⟨147573950390653186112,[11],[],[(12,.k (.d (.bool))),(13,.k (.d (.int .i64)))],[((.exit 0),[(12,.k (.d (.bool)))]),(.ret,[(6,.k (.d (.bool)))])],bnd tb (.len (.slot 11)) 1⟩)] [] []
noncomputable def b1U (n:Nat):Row I:=⟨5,[.d (.sl 3),.d (.sl 3),.d (.sl 3)],[.k (.d (.bool))],a1h n⟩
theorem b2l (n:Nat):RK (b1U n) :=
 okR [eR b7S,eR (b75 n),eR (b7y n),eR b1G,eR (b6e n),eR (b6J n),eR (c3d n),eR (a9e n)] 76 (b3k n) [.tmp 6] Go.Proofs.Tryz.func5 (by kernel_rfl)
end Go.Qx
end
section
namespace Go.Pl
open Go Go.RowKit Go.Sx Go.Qx Go.Proofs.YtldcbllenafgjaaGreatDoor
def b0t (w:World):S:=⟨w,fun b=>match w.heap[b]? with | some (.cells c _ _)=>(c.size,0) | _=>(0,0)⟩
theorem c9E {w:World}{b o:Nat}{cs:List Value}(hn:cs≠[])(h:w.rangeAt b o cs):a4l (b0t w) b o cs:=by
 refine ⟨?_,h⟩
 have hl:0<cs.length:=List.length_pos_iff.2 hn
 have hj:=h (cs.length-1) _ (List.getElem?_eq_getElem (by omega))
 unfold World.cell? at hj
 simp only at hj
 split at hj
 ·rename_i c e f hb
  have h2:o+(cs.length-1)<c.size:=by
   simp only [Option.isSome_none,Bool.false_eq_true,if_false] at hj
   exact (Array.getElem?_eq_some_iff.1 hj).1
  show o+cs.length<=(match w.heap[b]? with | some (.cells c _ _)=>(c.size,0) | _=>(0,0)).1
  rw [hb]
  show o+cs.length<=c.size
  omega
 ·cases hj
theorem c8O {w:World}{base:Nat}{a:Addr}{n:Nat}{cs:List Value}(h:w.cells? base a n=some cs) :
 cs.length=n/\∀ (i:Nat) (v:Value),cs[i]?=some v->w.cell? (a.add i)=some v:=by
 unfold World.cells? at h
 split at h
 ·have hl:cs.length=n:=by simpa using mapM_some_length h
  refine ⟨hl,fun i v hv=>?_⟩
  have hi:i<n:=by have:=(List.getElem?_eq_some_iff.1 hv).1; omega
  have:=mapM_some_get h i i (by simp [hi])
  rw [this,hv]
 ·cases h
theorem d3G (a:Addr)(x j:Nat):(a.add x).add j=a.add (x+j):=by
 unfold Addr.add
 by_cases hx:x=0
 ·subst hx; simp
 ·by_cases hj:j=0
  ·subst hj; simp [hx]
  ·rw [if_neg hj,if_neg hx,if_neg (by omega),Nat.add_assoc]
theorem d0g {w:World}{a:Addr}{v:Value}(h:w.cell? a=some v):a.spot=none:=by
 unfold World.cell? at h
 split at h
 ·split at h
  ·cases h
  ·rename_i hs; simpa using hs
 ·cases h
section
variable {H:Type}{enc:TypeId×Value->H}{P:Program}{w:World}{base:Nat}{spare:Nat->Bool}{held:Bool}
theorem b8s {α:Type} [Rp α] {fuel:Nat}{t e:TypeId}{cs:List Value}{x:DataW H×List MemPlace}(ht:P.underlying t=some (.slice e))(hc:P.cellsOf e=Rp.sz α)(bk:α->Nat)
 (hrd:∀ (n:Nat) (cs:List Value) (x:DataW H×List MemPlace),n<fuel->DataW.trod enc P w base spare held n e cs=some x->∃ d:α,Rp.cells (b0t w) d cs/\bk d<=Rows.uptoBulk x.1)
 (h:DataW.trod enc P w base spare held fuel t cs=some x) :
 ∃ (ds:List α) (A:Option Addr) (c:Nat),cs=[.slice A ds.length c]/\Sl (b0t w) ds A c/\(ds.map bk).sum+1<=Rows.uptoBulk x.1:=by
 rcases DataW.trod_slice ht h with ⟨rfl,rfl⟩ | ⟨a,len,cap,elems,rest,n,rfl,rfl,rfl,hb,hl,hm,hle,hget,-,-⟩
 ·exact ⟨[],none,0,rfl,Sl.nil_ _ _ _ (Nat.zero_le _),by simp [Rows.uptoBulk]⟩
 have key:∀ (m i:Nat),i+m=len->∃ (ds:List α) (cs:List Value),ds.length=m/\V5 (b0t w) ds cs /\
  (∀ (j:Nat) (v:Value),cs[j]?=some v->w.cell? (a.add (i*Rp.sz α+j))=some v)/\(ds.map bk).sum<=Rows.uptoBulkAll ((elems.drop i).map (·.1)):=by
  intro m
  induction m with
  | zero=>intro i _; exact ⟨[],[],rfl,rfl,fun j v hv=>by simp at hv,by simp⟩
  | succ m ih =>
    intro i hi
    obtain ⟨ds,cs,h1,h2,h3,h4⟩:=ih (i+1) (by omega)
    have hlt:i<elems.length:=by omega
    have hg:=hget i (by omega)
    rw [List.getElem?_eq_getElem hlt,Option.bind_eq_some_iff] at hg
    obtain ⟨cs0,hcs,htr⟩:=hg
    obtain ⟨d,hd,hbk⟩:=hrd n cs0 _ (by omega) htr
    obtain ⟨hcl,hci⟩:=c8O hcs
    rw [hc] at hcl hci
    refine ⟨d::ds,cs0++cs,by simp [h1],⟨cs0,cs,rfl,hd,h2⟩,?_,?_⟩
    ·intro j v hv
     by_cases hj:j<Rp.sz α
     ·rw [List.getElem?_append_left (by omega)] at hv
      rw [<- d3G]
      exact hci j v hv
     ·rw [List.getElem?_append_right (by omega)] at hv
      have:=h3 _ v hv
      rw [hcl,Nat.add_mul,Nat.one_mul] at this
      have e:i*Rp.sz α+Rp.sz α+(j-Rp.sz α)=i*Rp.sz α+j:=by omega
      rw [e] at this
      exact this
    ·rw [List.drop_eq_getElem_cons hlt]
     simp only [List.map_cons,List.sum_cons,Rows.uptoBulkAll]
     omega
 obtain ⟨ds,cs,h1,h2,h3,h4⟩:=key len 0 (by omega)
 simp only [Nat.zero_mul,Nat.zero_add,List.drop_zero] at h3 h4
 refine ⟨ds,some a,cap,by rw [h1],⟨by omega,hm,cs,h2,fun hn=>?_⟩,by simp only [Rows.uptoBulk]; omega⟩
 have hne:=h2.ne_nil hn
 cases cs with
 | nil=>exact absurd rfl hne
 | cons v0 r =>
   have h0:=h3 0 v0 rfl
   have hs:a.spot=none:=d0g (by simpa [Addr.add] using h0)
   obtain ⟨b,o,sp⟩:=a
   simp only at hs
   subst hs
   refine ⟨b,o,rfl,c9E (by simp) ?_⟩
   intro j v hv
   have:=h3 j v hv
   unfold Addr.add at this
   by_cases hj:j=0
   ·subst hj; simpa using this
   ·rw [if_neg hj] at this
    exact this
end
theorem d1r {α:Type}{l:List α}(h:l.length=2):∃ a b,l=[a,b]:=by
 match l,h with
 | [a,b],_=>exact ⟨a,b,rfl⟩
end Go.Pl
end
section
namespace Go.Pl
open Go Go.RowKit Go.Sx Go.Qx
def b6p (_:Int):Nat:=1
def c2b (l:List Int):Nat:=(l.map b6p).sum+1
end Go.Pl
end
section
namespace Go.Pl
open Go Go.RowKit Go.Sx Go.Qx Go.Proofs.YtldcbllenafgjaaGreatDoor
theorem c3:Go.Proofs.Tryz.prog.cellsOf 3=1:=by kernel_rfl
section
variable {H:Type}{enc:TypeId×Value->H}{w:World}{base:Nat}{spare:Nat->Bool}{held:Bool}
theorem d2t {n:Nat}{cs:List Value}{x:DataW H×List MemPlace}(h:DataW.trod enc Go.Proofs.Tryz.prog w base spare held n 3 cs=some x):∃ d:Int,(rpK .i64).cells (b0t w) d cs/\b6p d<=Rows.uptoBulk x.1:=by
 obtain ⟨k,e0,rfl,_⟩:=DataW.trod_int Go.Proofs.Tryz.underlying3 h
 exact ⟨k,e0,by simp [b6p,Rows.uptoBulk]⟩
end
end Go.Pl
end

/- Part 5. -/
import Derived.Test.YtldcbllenafgjaaGreatDoorK2
import Derived.Test.YtldcbllenafgjaaGreatDoorK3
import Derived.Test.YtldcbllenafgjaaGreatDoorK4
import Derived.BigCall
import Derived.ChangeArms
import Derived.KernelRfl
import Derived.OpenShut
import Derived.Shelf.Lays
import Derived.Shelf.SlLaysF0
import Derived.Shelf.Strings.Builder1
import Derived.Test.YtldcbllenafgjaaGreatDoorProg
import Derived.Test.YtldcbllenafgjaaGreatDoorRows
import Derived.WalkKit
section
namespace Go.Pl
open Go Go.RowKit Go.Sx Go.Qx
section
variable {T:Api_Type}{v:Val}
theorem d00 (hT:GT T)(ho:vOK v=true)(hb:j9 v<=4194304):Boo T (Z8 T v):=by
 have key:∀ i,inR T.Nodes.length i=true->Z8 T v i=unM (Z8 T) v (ndT T i):=fun i hi=>by
  obtain ⟨j,rfl,_,e,_⟩:=a4B hi
  exact b0o hT e ho hb
 refine ⟨fun i hi hk=>?_,fun i hi hk=>?_,fun i hi hk=>?_,fun i hi hk=>?_,fun i hi hk=>?_⟩<;>rw [key i hi]<;>unfold unM<;>simp [hk]
theorem c3o (hT:GT T)(ho:vOK v=true)(hb:j9 v<=4194304){i:Int}(hi:a0c T i=true):Z8 T v i=unM (Z8 T) v (ndT T i):=by
 obtain ⟨j,rfl,_,e,_⟩:=a4B (a6q hi)
 exact b0o hT e ho hb
theorem b2w (hT:GT T)(ho:vOK v=true)(hb:j9 v<=4194304){i:Int}(hi:a0c T i=true)(hk:(ndT T i).Kind=19):Z8 T v i=inL v.Labels (ndT T i).Text:=by
 rw [c3o hT ho hb hi]
 unfold unM inL
 simp [hk]
theorem a8z {l:List Int}{s:ByteArray}:s∈srS (Z9 T l)↔∃ i∈l,(ndT T i).Kind=19/\(ndT T i).Text=s:=by
 rw [c65]
 unfold Z9
 simp only [List.mem_map,List.mem_filter,beq_iff_eq]
 constructor
 ·rintro ⟨i,⟨a,b⟩,c⟩; exact ⟨i,a,b,c⟩
 ·rintro ⟨i,a,b,c⟩; exact ⟨i,⟨a,b⟩,c⟩
theorem b3V {p q:List Int}:a87 p q=true↔∃ i,i∈p/\i∈q:=by
 unfold a87
 simp only [List.any_eq_true,beq_iff_eq]
 constructor
 ·rintro ⟨x,hx,y,hy,rfl⟩; exact ⟨x,hx,hy⟩
 ·rintro ⟨x,hx,hy⟩; exact ⟨x,hx,x,hy,rfl⟩
theorem c3A {p q:List ByteArray}:b2j p q=true↔∃ i,i∈p/\i∈q:=by
 unfold b2j
 simp only [List.any_eq_true,b0I]
 constructor
 ·rintro ⟨x,hx,y,hy,rfl⟩; exact ⟨y,hx,hy⟩
 ·rintro ⟨x,hx,hy⟩; exact ⟨x,hx,x,hy,rfl⟩
def IOK (v:Val):Prop:=v.Kind=1->i64 v.Int_
def c0F (T:Api_Type)(v:Val)(e:Api_Goal):Bool:=c2T v e.Lists&&(e.Pos.all (Z8 T v)&&e.Neg.all fun k=>!Z8 T v k)
theorem b5W (hT:GT T)(ho:vOK v=true)(hb:j9 v<=4194304){i:Int}(hi:a0c T i=true)(hk:(ndT T i).Kind=lkK v.Kind):Z8 T v i=if v.Kind=1 then inI T i v.Int_ else isT T i v.Text:=by
 rw [c3o hT ho hb hi]
 have h0:(ndT T i).Kind≠0:=by
  obtain ⟨j,_,_,_,_,hK⟩:=a7B hT hi
  omega
 unfold lkK at hk
 unfold unM inI isT
 by_cases h1:v.Kind=1
 ·simp [h1] at hk
  simp [h1,hk]
 ·rw [if_neg h1] at hk
  by_cases h2:v.Kind=2
  ·simp [h2] at hk
   simp [h2,hk,b9e]
  ·rw [if_neg h2] at hk
   by_cases h3:v.Kind=3
   ·simp [h3] at hk
    simp [h3,hk,b9e]
   ·rw [if_neg h3] at hk
    exact absurd hk h0
theorem d1B (p q:List Int):gM T v (g0 p q)=true↔(∀ i∈p,Z8 T v i=true)/\∀ i∈q,Z8 T v i=false:=by
 unfold gM
 simp
theorem c8q (hT:GT T)(ho:vOK v=true)(hb:j9 v<=4194304)(hI:IOK v){L:Bool}{e:Api_Goal}(he:NG T L e){l:Api_Line}(hl:Mk T e l)(h:b2t T v l=true):c0F T v e=true:=by
 obtain ⟨_,s,l0,hs,hZ,rfl⟩:=hl
 have hp:=List.all_eq_true.1 he.pos
 have hq:=List.all_eq_true.1 he.neg
 unfold b2t c93 at h
 simp only [Bool.and_eq_true,List.all_eq_true,beq_iff_eq] at h
 obtain ⟨hk,⟨hv,hn⟩,hbody⟩:=h
 have hk':v.Kind=s.Kind:=by rw [hk]; exact hZ.kind
 obtain ⟨hKs,hAs⟩:=b64 hs
 have hbl:b6H T v l0=true:=hbody
 have hA:s.Arity=arV v:=by
  unfold arV
  unfold b6H at hbl
  by_cases h6:v.Kind=6
  ·rw [if_pos h6]
   simp [h6] at hbl
   rw [<- hZ.ar]; exact hbl.1.symm
  ·rw [if_neg h6]
   by_cases h9:v.Kind=9
   ·rw [if_pos h9]
    simp [h9] at hbl
    rw [<- hZ.ar]; exact hbl.1.symm
   ·rw [if_neg h9]
    omega
 have hop:=hZ.op
 unfold b2a at hop
 simp only [Bool.and_eq_true,List.all_eq_true,Bool.or_eq_true] at hop
 rw [<- hk',hA] at hop
 have hspl:=c5O hT ho hb (p:=e.Pos) (q:=e.Neg) he.pos he.neg
 have hsk:(∀ i∈ofZ T v.Kind (arV v) (skK v.Kind) e.Pos,Z8 T v i=true)/\∀ i∈ofZ T v.Kind (arV v) (skK v.Kind) e.Neg,Z8 T v i=false:=by
  have e1:ofZ T v.Kind (arV v) (skK v.Kind) e.Pos=l0.Pos:=by rw [hZ.pos,<- hk',hA]
  have e2:ofZ T v.Kind (arV v) (skK v.Kind) e.Neg=l0.Neg:=by rw [hZ.neg,<- hk',hA]
  rw [e1,e2,<- d1B]
  unfold b6H at hbl
  obtain ⟨hK,_⟩:=c7a ho
  by_cases h6:v.Kind=6
  ·simp [h6] at hbl; exact hbl.2
  by_cases h9:v.Kind=9
  ·simp [h9] at hbl; exact hbl.2
  by_cases h7:v.Kind=7
  ·simp [h7] at hbl; exact hbl
  by_cases h8:v.Kind=8
  ·simp [h8] at hbl; exact hbl
  have h0:skK v.Kind=0:=by unfold skK; rw [if_neg h6,if_neg h7,if_neg h8,if_neg h9]
  rw [<- e1,<- e2,h0,of0 hT he.pos,of0 hT he.neg]
  rfl
 have hlk:(∀ i∈e.Pos,(ndT T i).Kind=lkK v.Kind->Z8 T v i=true)/\∀ i∈e.Neg,(ndT T i).Kind=lkK v.Kind->Z8 T v i=false:=by
  have fin:(if v.Kind=1 then spI T e v.Int_ else if v.Kind=2\/v.Kind=3 then spN T e (lkK v.Kind) v.Text else true)=true:=by
   unfold b6H at hbl
   by_cases h1:v.Kind=1
   ·rw [if_pos h1] at hbl ⊢
    rw [<- (hZ.ints1 (by rw [<- hk']; exact h1)).2.2.1 v.Int_ (hI h1)]
    exact hbl
   ·rw [if_neg h1] at hbl ⊢
    by_cases h2:v.Kind=2\/v.Kind=3
    ·rw [if_pos h2] at hbl ⊢
     have:=(hZ.nam1 (by rw [<- hk']; exact h2)).2.2.1 v.Text
     rw [<- hk'] at this
     rw [<- this]
     exact hbl
    ·rw [if_neg h2]
  have get:∀ i,a0c T i=true->(ndT T i).Kind=lkK v.Kind->v.Kind=1\/v.Kind=2\/v.Kind=3:=fun i hi hk=>by
   have h0:(ndT T i).Kind≠0:=by
    obtain ⟨j,_,_,_,_,hK⟩:=a7B hT hi
    omega
   unfold lkK at hk
   by_cases h1:v.Kind=1
   ·exact .inl h1
   by_cases h2:v.Kind=2
   ·exact .inr (.inl h2)
   by_cases h3:v.Kind=3
   ·exact .inr (.inr h3)
   rw [if_neg h1,if_neg h2,if_neg h3] at hk
   exact absurd hk h0
  constructor
  ·intro i hi hki
   rw [b5W hT ho hb (hp i hi) hki]
   by_cases h1:v.Kind=1
   ·rw [if_pos h1] at fin ⊢
    unfold spI at fin
    simp only [Bool.and_eq_true,List.all_eq_true] at fin
    have:=fin.1 i hi
    unfold isK at this
    unfold lkK at hki
    rw [if_pos h1] at hki
    simpa [hki] using this
   ·rw [if_neg h1] at fin ⊢
    have h23:v.Kind=2\/v.Kind=3:=by have:=get i (hp i hi) hki; omega
    rw [if_pos h23] at fin
    unfold spN at fin
    simp only [Bool.and_eq_true,List.all_eq_true] at fin
    have:=fin.1 i hi
    unfold isK at this
    simpa [hki] using this
  ·intro i hi hki
   rw [b5W hT ho hb (hq i hi) hki]
   by_cases h1:v.Kind=1
   ·rw [if_pos h1] at fin ⊢
    unfold spI at fin
    simp only [Bool.and_eq_true,List.all_eq_true] at fin
    have:=fin.2 i hi
    unfold isK at this
    unfold lkK at hki
    rw [if_pos h1] at hki
    simpa [hki] using this
   ·rw [if_neg h1] at fin ⊢
    have h23:v.Kind=2\/v.Kind=3:=by have:=get i (hq i hi) hki; omega
    rw [if_pos h23] at fin
    unfold spN at fin
    simp only [Bool.and_eq_true,List.all_eq_true] at fin
    have:=fin.2 i hi
    unfold isK at this
    simpa [hki] using this
 have hmem:=hspl.2 ⟨⟨fun i hi hk=>by
  rw [b2w hT ho hb (hp i hi) hk]
  exact hv _ (a8z.2 ⟨i,hi,hk,rfl⟩),fun i hi hk=>by
  rw [b2w hT ho hb (hq i hi) hk]
  have:=hn _ (a8z.2 ⟨i,hi,hk,rfl⟩)
  simpa using this⟩,fun i hi=>by
  rcases hop.2 i hi with h | h
  ·unfold isK at h
   exact .inl (by simpa using h)
  ·exact .inr h,hlk,hsk,fun i hi hk=>by
  have:=hZ.ev
  rw [List.any_eq_false] at this
  have:=this i hi
  unfold isK at this
  rw [<- hk'] at this
  simp [hk] at this⟩
 unfold c0F c2T
 rw [hmem.1,hmem.2]
 have h1:=hop.1
 cases hL:e.Lists with
 | false=>rfl
 | true =>
   rw [hL] at h1
   simp only [bne,Bool.true_and,Bool.not_eq_true',Bool.and_eq_false_iff,Bool.not_eq_false'] at h1
   simp only [Bool.not_true,Bool.false_or,Bool.and_true,Bool.or_eq_true]
   exact h1
theorem c3O (hT:GT T)(ho:vOK v=true)(hb:j9 v<=4194304)(hI:IOK v){L:Bool}{e:Api_Goal}(he:NG T L e)(hm:c0F T v e=true) :
 a8j T e=true/\Core_Sort.mk v.Kind (arV v)∈a1Q/\¬ c0E T e v.Kind (arV v)/\∀ l0,LineZ T e v.Kind (arV v) l0->b2t T v (a4E l0 (srS (Z9 T e.Pos)) (srS (Z9 T e.Neg)))=true:=by
 have hp:=List.all_eq_true.1 he.pos
 have hq:=List.all_eq_true.1 he.neg
 unfold c0F at hm
 simp only [Bool.and_eq_true] at hm
 obtain ⟨hlis,hpos,hneg⟩:=hm
 obtain ⟨⟨v1,v2⟩,op,⟨k1,k2⟩,⟨s1,s2⟩,ev⟩:=(c5O hT ho hb he.pos he.neg).1 ⟨hpos,hneg⟩
 have hP:=List.all_eq_true.1 hpos
 have hQ:∀ i∈e.Neg,Z8 T v i=false:=fun i hi=>by simpa using List.all_eq_true.1 hneg i hi
 obtain ⟨hK,hK6,hK9⟩:=c7a ho
 have hopen:b2a T e v.Kind (arV v)=true:=by
  unfold b2a
  simp only [Bool.and_eq_true,List.all_eq_true,Bool.or_eq_true]
  refine ⟨?_,fun i hi=>?_⟩
  ·unfold c2T at hlis
   simp only [bne]
   revert hlis
   generalize e.Lists=a
   generalize (v.Kind==5)=b
   generalize (v.Kind==7)=c
   revert a b c
   decide
  ·rcases op i hi with h | h
   ·exact .inl (by unfold isK; simp [h])
   ·exact .inr h
 have hspI:v.Kind=1->spI T e v.Int_=true:=fun h1=>by
  unfold spI
  simp only [Bool.and_eq_true,List.all_eq_true,Bool.or_eq_true]
  have hl:lkK v.Kind=3:=by unfold lkK; rw [if_pos h1]
  refine ⟨fun i hi=>?_,fun i hi=>?_⟩
  ·cases hk:isK T 3 i with
   | false=>exact .inl rfl
   | true =>
     have hk3:(ndT T i).Kind=lkK v.Kind:=by rw [hl]; unfold isK at hk; simpa using hk
     have:=k1 i hi hk3
     rw [b5W hT ho hb (hp i hi) hk3,if_pos h1] at this
     exact .inr this
  ·cases hk:isK T 3 i with
   | false=>exact .inl rfl
   | true =>
     have hk3:(ndT T i).Kind=lkK v.Kind:=by rw [hl]; unfold isK at hk; simpa using hk
     have:=k2 i hi hk3
     rw [b5W hT ho hb (hq i hi) hk3,if_pos h1] at this
     exact .inr (by rw [this]; rfl)
 have hspN:v.Kind=2\/v.Kind=3->spN T e (lkK v.Kind) v.Text=true:=fun h23=>by
  have h1:¬ v.Kind=1:=by omega
  unfold spN
  simp only [Bool.and_eq_true,List.all_eq_true,Bool.or_eq_true]
  refine ⟨fun i hi=>?_,fun i hi=>?_⟩
  ·cases hk:isK T (lkK v.Kind) i with
   | false=>exact .inl rfl
   | true =>
     have hk3:(ndT T i).Kind=lkK v.Kind:=by unfold isK at hk; simpa using hk
     have:=k1 i hi hk3
     rw [b5W hT ho hb (hp i hi) hk3,if_neg h1] at this
     exact .inr this
  ·cases hk:isK T (lkK v.Kind) i with
   | false=>exact .inl rfl
   | true =>
     have hk3:(ndT T i).Kind=lkK v.Kind:=by unfold isK at hk; simpa using hk
     have:=k2 i hi hk3
     rw [b5W hT ho hb (hq i hi) hk3,if_neg h1] at this
     exact .inr (by rw [this]; rfl)
 have hev:e.Neg.any (isK T (ekK v.Kind))=false:=by
  rw [List.any_eq_false]
  intro i hi
  unfold isK
  simp [ev i hi]
 refine ⟨?_,?_,?_,fun l0 hZ=>?_⟩
 ·unfold a8j
  rw [Bool.and_eq_true]
  constructor
  ·cases h:a87 e.Pos e.Neg with
   | false=>rfl
   | true =>
     obtain ⟨i,h1,h2⟩:=b3V.1 h
     have:=hQ i h2
     rw [hP i h1] at this
     cases this
  ·cases h:b2j (srS (Z9 T e.Pos)) (srS (Z9 T e.Neg)) with
   | false=>rfl
   | true =>
     obtain ⟨s,h1,h2⟩:=c3A.1 h
     obtain ⟨i,a1,a2,a3⟩:=a8z.1 h1
     obtain ⟨j,b1,b2,b3⟩:=a8z.1 h2
     have c1:=v1 i a1 a2
     have c2:=v2 j b1 b2
     rw [b2w hT ho hb (hp i a1) a2,a3] at c1
     rw [b2w hT ho hb (hq j b1) b2,b3,c1] at c2
     cases c2
 ·refine c9d ?_
  unfold arV
  by_cases h6:v.Kind=6
  ·rw [if_pos h6]; have:=hK6 h6; omega
  ·rw [if_neg h6]
   by_cases h9:v.Kind=9
   ·rw [if_pos h9]; have:=hK9 h9; omega
   ·rw [if_neg h9]; omega
 ·rintro (h | h | ⟨h1,h⟩ | ⟨h1,h⟩)
  ·rw [hopen] at h; cases h
  ·rw [hev] at h; cases h
  ·have:=hspI h1
   rw [h v.Int_ (hI h1)] at this
   cases this
  ·have:=hspN h1
   rw [h v.Text] at this
   cases this
 ·unfold b2t c93
  simp only [Bool.and_eq_true,List.all_eq_true,beq_iff_eq]
  refine ⟨hZ.kind.symm,⟨fun s hs=>?_,fun s hs=>?_⟩,?_⟩
  ·obtain ⟨i,a1,a2,a3⟩:=a8z.1 hs
   have c1:=v1 i a1 a2
   rw [b2w hT ho hb (hp i a1) a2,a3] at c1
   exact c1
  ·obtain ⟨j,b1,b2,b3⟩:=a8z.1 hs
   have c2:=v2 j b1 b2
   rw [b2w hT ho hb (hq j b1) b2,b3] at c2
   rw [c2]; rfl
  ·have hgm:gM T v (g0 l0.Pos l0.Neg)=true:=by
    rw [d1B,hZ.pos,hZ.neg]
    exact ⟨s1,s2⟩
   show b6H T v l0=true
   unfold b6H
   by_cases h1:v.Kind=1
   ·rw [if_pos h1,(hZ.ints1 h1).2.2.1 v.Int_ (hI h1)]
    exact hspI h1
   rw [if_neg h1]
   by_cases h23:v.Kind=2\/v.Kind=3
   ·rw [if_pos h23,(hZ.nam1 h23).2.2.1 v.Text]
    exact hspN h23
   rw [if_neg h23,hZ.ar,hgm]
   unfold arV
   by_cases h6:v.Kind=6
   ·simp [h6]
   by_cases h9:v.Kind=9
   ·simp [h9]
   simp [h6,h9]
theorem d0f (hT:GT T)(ho:vOK v=true)(hb:j9 v<=4194304)(hI:IOK v){g:Api_Goal}(hg:gIn T.Nodes.length g=true){out:List Api_Goal}(hE:ExpZ T g out){ls:List Api_Line}(hL:LinesZ T out ls):ls.any (b2t T v)=gA T v g:=by
 have hmem:=hE.mem _ (d00 hT ho hb)
 rw [Bool.eq_iff_iff,List.any_eq_true]
 unfold gA
 rw [hg,Bool.true_and,Bool.and_eq_true]
 constructor
 ·rintro ⟨l,hl,h⟩
  obtain ⟨e,he,hM⟩:=hL.src l hl
  have hN:=hE.ng e he
  have h2:=c8q hT ho hb hI hN hM h
  unfold c0F at h2
  rw [Bool.and_eq_true,hN.lists] at h2
  refine ⟨h2.1,?_⟩
  unfold gM
  rw [<- hmem,List.any_eq_true]
  exact ⟨e,he,h2.2⟩
 ·rintro ⟨h1,h2⟩
  unfold gM at h2
  rw [<- hmem,List.any_eq_true] at h2
  obtain ⟨e,he,h3⟩:=h2
  have hN:=hE.ng e he
  have hm:c0F T v e=true:=by
   unfold c0F
   rw [hN.lists,h1,Bool.true_and]
   exact h3
  obtain ⟨c1,c2,c3,c4⟩:=c3O hT ho hb hI hN hm
  rcases hL.all e he c1 _ c2 with ⟨l,hl,l0,hZ,rfl⟩ | h
  ·exact ⟨_,hl,c4 l0 hZ⟩
  ·exact absurd h c3
end
end Go.Pl
end
section
namespace Go.Pl
open Go Go.RowKit Go.Sx Go.Qx
def Pst {α:Type}(o:Option α)(Q:α->Prop):Prop:=∀ r,o=some r->Q r
theorem Pst.bind {α β:Type}{o:Option α}{f:α->Option β}{P:α->Prop}{Q:β->Prop}(h1:Pst o P)(h2:∀ x,P x->Pst (f x) Q):Pst (Option.bind o f) Q:=fun r h=>by
 cases o with
 | none=>cases h
 | some x=>exact h2 x (h1 x rfl) r h
theorem Pst.any {α:Type}{o:Option α}:Pst o fun _=>True:=fun _ _=>trivial
theorem Pst.cond {α:Type}{b:Bool}{x y:Option α}{Q:α->Prop}(h1:Pst x Q)(h2:Pst y Q):Pst (bif b then x else y) Q:=by cases b; exact h2; exact h1
theorem Pst.ret {α:Type}{x:α}{Q:α->Prop}(h:Q x):Pst (some x) Q:=fun r e=>by rw [<- Option.some.inj e]; exact h
theorem Pst.none {α:Type}{Q:α->Prop}:Pst (none:Option α) Q:=fun r e=>by cases e
theorem Pst.onEnd {α β γ:Type}{f:α->Option γ}{g:β->Option γ}{s:Sum α β}{Q:γ->Prop}(h1:∀ x,s=.inl x->Pst (f x) Q)(h2:∀ y,s=.inr y->Pst (g y) Q):Pst (onEnd f g s) Q:=by
 cases s with
 | inl x=>exact h1 x rfl
 | inr y=>exact h2 y rfl
theorem Pst.iter {St β:Type}{step:St->Option (Fl St β)}{J:St->Prop}{Q:β->Prop}(hs:∀ s,J s->Pst (step s) fun r=>match r with | .next s'=>J s' | .done b=>Q b):∀ (k:Nat) (s:St),J s->Pst (iter step k s) Q
 | 0,_,_=>fun r h=>by cases h
 | k+1,s,hJ=>by
   intro r h
   simp only [Go.Sx.iter] at h
   cases hst:step s with
   | none=>rw [hst] at h; cases h
   | some x =>
     have:=hs s hJ x hst
     rw [hst] at h
     cases x with
     | next s'=>exact Pst.iter hs k s' this r h
     | done b=>simp only [Option.bind_some] at h; rw [<- Option.some.inj h]; exact this
abbrev V1 (r:Val×Semtypebase_Source):Prop:=IOK r.1
theorem a2k {v:Val}(h:v.Kind≠1):IOK v:=fun e=>absurd e h
theorem c0D {v w:Val}(h1:w.Kind=v.Kind)(h2:w.Int_=v.Int_)(h:IOK v):IOK w:=fun e=>by rw [h2]; exact h (by rw [<- h1]; exact e)
theorem c6t (s:Semtypebase_Source):Pst (a0m s) fun r=>i64 r.1:=by
 unfold a0m
 refine Pst.bind Pst.any fun r _=>Pst.bind (P:=fun _=>True) Pst.any fun x _=>Pst.bind (P:=i64) (fun y hy=>?_) fun y hy=>Pst.ret hy
 have hm:=List.mem_of_getElem? hy
 simp only [List.mem_cons,List.not_mem_nil,or_false] at hm
 unfold i64
 omega
theorem b0B (s:Semtypebase_Source):Pst (Q9 s) V1:=by
 unfold Q9
 refine Pst.bind Pst.any fun r _=>Pst.cond ?_ (Pst.cond ?_ (Pst.cond ?_ (Pst.cond ?_ (Pst.cond ?_ ?_))))
 ·exact Pst.bind (c6t _) fun x hx=>Pst.bind (P:=fun v=>v.Int_=x.1) (fun v hv=>by unfold a1Y at hv; rw [<- Option.some.inj hv]; rfl) fun v hv=>Pst.ret fun _=>by rw [hv]; exact hx
 ·exact Pst.bind Pst.any fun x _=>Pst.bind (P:=fun v=>v.Kind≠1) (fun v hv=>by unfold a3r at hv; rw [<- Option.some.inj hv]; exact (by decide:(3:Int)≠1)) fun v hv=>Pst.ret (a2k hv)
 ·exact Pst.bind Pst.any fun x _=>Pst.bind (P:=fun v=>v.Kind≠1) (fun v hv=>by unfold a2p at hv; rw [<- Option.some.inj hv]; exact (by decide:(2:Int)≠1)) fun v hv=>Pst.ret (a2k hv)
 ·exact Pst.bind Pst.any fun x _=>Pst.bind (P:=fun v=>v.Kind≠1) (fun v hv=>by unfold a5g at hv; rw [<- Option.some.inj hv]; exact (by decide:(4:Int)≠1)) fun v hv=>Pst.ret (a2k hv)
 ·exact Pst.bind (P:=fun v=>v.Kind≠1) (fun v hv=>by unfold V9 at hv; rw [<- Option.some.inj hv]; exact (by decide:(5:Int)≠1)) fun v hv=>Pst.ret (a2k hv)
 ·refine Pst.bind (P:=fun v=>v.Kind≠1) ?_ fun v hv=>Pst.ret (a2k hv)
  unfold a1V
  exact Pst.bind Pst.any fun x _=>Pst.ret (by decide:(6:Int)≠1)
theorem c4U (ks:List Key)(l:List Val):Pst (a1e ks l) fun r=>r.1.Kind≠1:=by
 unfold a1e
 refine Pst.cond (Pst.ret (by decide)) ?_
 refine Pst.bind (P:=fun b=>match b with | .inl x=>x.1=0 | .inr y=>y.2.1=0) (Pst.iter (J:=fun x=>x.2.1=0) (fun s hJ=>?_) _ _ rfl) fun b hb=>Pst.onEnd (fun x hx=>?_) (fun y hy=>Pst.ret ?_)
 ·unfold a1t
  exact Pst.cond (Pst.bind Pst.any fun _ _=>Pst.bind Pst.any fun _ _=>Pst.cond (Pst.ret rfl) (Pst.ret hJ)) (Pst.ret hJ)
 ·subst hx
  refine Pst.bind (P:=fun b=>match b with | .inl x=>x.2.1=8 | .inr y=>y.2.1.1=0) (Pst.iter (J:=fun x=>x.2.1.1=0/\x.2.2.1=8) (fun s hJ=>?_) _ _ ⟨hb,rfl⟩) fun b hb=>Pst.onEnd (fun x hx=>Pst.ret ?_) (fun y hy=>Pst.ret ?_)
  ·unfold a0J
   refine Pst.cond (Pst.bind Pst.any fun _ _=>Pst.bind Pst.any fun _ _=>Pst.cond (Pst.ret rfl) ?_) (Pst.ret hJ.2)
   exact Pst.bind Pst.any fun _ _=>Pst.bind Pst.any fun _ _=>Pst.bind Pst.any fun _ _=>Pst.bind Pst.any fun _ _=>Pst.bind Pst.any fun _ _=>Pst.bind Pst.any fun _ _=>Pst.bind Pst.any fun _ _=>Pst.bind Pst.any fun _ _=>Pst.bind Pst.any fun _ _=>Pst.bind Pst.any fun _ _=>Pst.bind Pst.any fun _ _=>Pst.bind Pst.any fun _ _=>Pst.ret hJ
  ·subst hx
   show x.2.1≠1
   have hb':x.2.1=8:=hb
   omega
  ·subst hy
   show y.2.1.1≠1
   have hb':y.2.1.1=0:=hb
   omega
 ·subst hy
  show y.2.1≠1
  have hb':y.2.1=0:=hb
  omega
theorem b7w (n:Nat)(a:Int)(l:List Ent):Pst (a0R n a l) fun r=>r.1.Kind≠1:=by
 unfold a0R
 refine Pst.bind Pst.any fun _ _=>Pst.cond (Pst.ret (by decide)) ?_
 refine Pst.bind (P:=fun b=>match b with | .inl x=>True | .inr y=>y.2.1=0) (Pst.iter (J:=fun x=>x.2.1=0) (fun s hJ=>?_) _ _ rfl) fun b hb=>Pst.onEnd (fun x hx=>?_) (fun y hy=>Pst.ret ?_)
 ·unfold a0f
  exact Pst.cond (Pst.bind Pst.any fun _ _=>Pst.bind Pst.any fun _ _=>Pst.bind Pst.any fun _ _=>Pst.cond (Pst.ret rfl) (Pst.ret hJ)) (Pst.ret trivial)
 ·exact Pst.bind Pst.any fun _ _=>Pst.ret (by decide:(9:Int)≠1)
 ·subst hy
  show y.2.1≠1
  have hb':y.2.1=0:=hb
  omega
theorem c7G:∀ (n:Nat) (s:Semtypebase_Source) (h:Int),Pst ((y9 n).2.1 s h) V1
 | 0,_,_=>Pst.none
 | n+1,s,h=>by
   show Pst (W4 n (y9 n).1 (y9 n).2.1 (y9 n).2.2 s h) V1
   unfold W4
   refine Pst.cond (Pst.bind (b0B _) fun r hr=>Pst.ret hr) (Pst.bind Pst.any fun r _=>?_)
   refine Pst.bind (P:=fun b=>match b with | .inl _=>True | .inr y=>y.2.1≠1) ?_ fun b hb=>Pst.onEnd (fun x hx=>Pst.bind (b0B _) fun r hr=>Pst.ret hr) (fun y hy=>Pst.ret ?_)
   ·refine Pst.cond ?_ (Pst.cond ?_ (Pst.cond ?_ (Pst.cond ?_ (Pst.ret trivial))))
    ·refine Pst.bind Pst.any fun _ _=>Pst.bind Pst.any fun _ _=>Pst.bind (P:=fun v=>v.Kind≠1) ?_ fun v hv=>Pst.ret hv
     unfold a1V
     exact Pst.bind Pst.any fun x _=>Pst.ret (by decide:(6:Int)≠1)
    ·refine Pst.bind Pst.any fun _ _=>Pst.bind Pst.any fun _ _=>Pst.bind Pst.any fun _ _=>Pst.bind Pst.any fun _ _=>Pst.bind Pst.any fun _ _=>Pst.bind (P:=fun v=>v.Kind≠1) ?_ fun v hv=>Pst.ret hv
     unfold a4J
     exact Pst.ret (by decide:(7:Int)≠1)
    ·exact Pst.bind Pst.any fun _ _=>Pst.bind Pst.any fun _ _=>Pst.bind (c4U _ _) fun v hv=>Pst.cond (Pst.ret hv) (Pst.ret trivial)
    ·exact Pst.bind Pst.any fun _ _=>Pst.bind Pst.any fun _ _=>Pst.bind Pst.any fun _ _=>Pst.bind (b7w _ _ _) fun v hv=>Pst.cond (Pst.ret hv) (Pst.ret trivial)
   ·subst hy
    exact a2k hb
theorem c73 (n:Nat)(s:Semtypebase_Source)(h:Int):Pst (a1z n s h) V1:=by
 cases n with
 | zero=>exact Pst.none
 | succ n =>
   show Pst (a02 n (y9 n).1 (y9 n).2.1 (y9 n).2.2 s h) V1
   unfold a02
   exact Pst.bind (c7G n s h) fun r hr=>Pst.bind Pst.any fun l _=>Pst.ret (c0D rfl rfl hr)
theorem c8G (t:Api_Type)(x:Api_TypeNode)(k:Nat)(v:Val)(hv:IOK v):Pst (iter (J7 t x) k (0,v)) IOK:=by
 refine Pst.iter (J:=fun s=>IOK s.2) (fun s hJ=>?_) k (0,v) hv
 unfold J7
 refine Pst.cond (Pst.bind (P:=IOK) ?_ fun w hw=>Pst.ret hw) (Pst.ret hJ)
 refine Pst.bind Pst.any fun _ _=>Pst.bind Pst.any fun _ _=>Pst.cond ?_ (Pst.ret hJ)
 exact Pst.bind Pst.any fun _ _=>Pst.bind Pst.any fun _ _=>Pst.bind Pst.any fun _ _=>Pst.bind Pst.any fun _ _=>Pst.bind Pst.any fun _ _=>Pst.ret (c0D rfl rfl hJ)
theorem c3l {t:Api_Type}(hT:GT t):∀ n:Nat,(∀ s k h,Pst ((z7 n).1 s t k h) V1)/\(∀ s k h,Pst ((z7 n).2.1 s t k h) V1) /\
 (∀ s x h,Pst ((z7 n).2.2.1 s t x h) V1)/\∀ s x h,Pst ((z7 n).2.2.2 s t x h) V1
 | 0=>⟨fun _ _ _=>Pst.none,fun _ _ _=>Pst.none,fun _ _ _=>Pst.none,fun _ _ _=>Pst.none⟩
 | n+1=>by
   obtain ⟨i1,i2,i3,i4⟩:=c3l hT n
   refine ⟨fun s k h=>?_,fun s k h=>?_,fun s x h=>?_,fun s x h=>?_⟩
   ·show Pst (a1f n (z7 n).1 (z7 n).2.1 (z7 n).2.2.1 (z7 n).2.2.2 s t k h) V1
    unfold a1f
    exact Pst.bind (i2 s k h) fun r hr=>Pst.bind Pst.any fun _ _=>Pst.cond (Pst.bind (b0B _) fun q hq=>Pst.ret hq) (Pst.ret hr)
   ·show Pst (W8 n (z7 n).1 (z7 n).2.1 (z7 n).2.2.1 (z7 n).2.2.2 s t k h) V1
    unfold W8
    refine Pst.bind Pst.any fun _ _=>Pst.bind Pst.any fun _ _=>Pst.cond (Pst.bind (b0B _) fun r hr=>Pst.ret hr) ?_
    refine Pst.bind (P:=fun x=>x∈t.Nodes) (fun x hx=>?_) fun x hx=>?_
    ·unfold idx at hx
     split at hx
     ·exact List.mem_of_getElem? hx
     ·cases hx
    have st:∀ (w:ByteArray) (s:Semtypebase_Source),Pst (Option.bind (a2p w) fun r=>some (r,s)) V1:=fun w s=>Pst.ret (a2k (by decide:(2:Int)≠1))
    have at_:∀ (w:ByteArray) (s:Semtypebase_Source),Pst (Option.bind (a3r w) fun r=>some (r,s)) V1:=fun w s=>Pst.ret (a2k (by decide:(3:Int)≠1))
    have pd:∀ (w:Int) (s:Semtypebase_Source),Pst (Option.bind (a5g w) fun r=>some (r,s)) V1:=fun w s=>Pst.ret (a2k (by decide:(4:Int)≠1))
    have nl:∀ (s:Semtypebase_Source),Pst (Option.bind (V9) fun r=>some (r,s)) V1:=fun s=>Pst.ret (a2k (by decide:(5:Int)≠1))
    refine Pst.cond ?_ (Pst.cond (st _ _) (Pst.cond (Pst.bind Pst.any fun _ _=>st _ _) (Pst.cond (at_ _ _) (Pst.cond (Pst.bind Pst.any fun _ _=>at_ _ _) (Pst.cond (Pst.bind Pst.any fun _ _=>pd _ _) (Pst.cond (nl _) ?_))))))
    ·obtain ⟨j,hj,rfl⟩:=List.getElem_of_mem hx
     have hg:=(hT.nodes j _ (List.getElem?_eq_getElem hj)).rng
     refine Pst.bind Pst.any fun d5 _=>Pst.bind Pst.any fun d6 _=>Pst.bind Pst.any fun r _=>Pst.bind (P:=fun _=>True) Pst.any fun _ _=>Pst.bind (P:=i64) (fun y hy=>?_) fun y hy=>Pst.ret fun _=>hy
     have hm:=List.mem_of_getElem? hy
     simp only [List.mem_cons,List.not_mem_nil,or_false] at hm
     rcases hm with rfl | rfl | rfl
     ·exact ⟨hg.1,hg.2.1⟩
     ·exact ⟨hg.2.2.1,hg.2.2.2⟩
     ·generalize t.Nodes[j].Lo+wr .i64 (d5-d6)=z
      unfold i64 wr
      rw [IntKind.wrap_i64]
      omega
    ·refine Pst.bind Pst.any fun _ _=>Pst.cond ?_ (Pst.cond ?_ (Pst.cond ?_ (Pst.cond ?_ (Pst.cond ?_ (Pst.cond ?_ ?_)))))
     ·refine Pst.bind Pst.any fun b _=>Pst.bind (P:=fun y=>y.1≠1) ?_ fun y hy=>Pst.ret (a2k hy)
      exact Pst.cond (Pst.bind Pst.any fun _ _=>Pst.bind Pst.any fun _ _=>Pst.cond (Pst.bind Pst.any fun _ _=>Pst.bind Pst.any fun _ _=>Pst.bind Pst.any fun _ _=>Pst.ret (by decide:(7:Int)≠1)) (Pst.ret (by decide:(7:Int)≠1))) (Pst.ret (by decide:(6:Int)≠1))
     ·exact Pst.bind (i4 _ _ _) fun r hr=>Pst.ret hr
     ·exact Pst.bind (i3 _ _ _) fun r hr=>Pst.ret hr
     ·exact Pst.bind Pst.any fun _ _=>Pst.bind Pst.any fun _ _=>Pst.bind (i2 _ _ _) fun r hr=>Pst.ret hr
     ·exact Pst.bind Pst.any fun _ _=>Pst.bind Pst.any fun _ _=>Pst.bind (i2 _ _ _) fun r hr=>Pst.bind (c8G t x _ _ hr) fun w hw=>Pst.ret hw
     ·refine Pst.bind (b0B _) fun r hr=>Pst.bind (P:=IOK) ?_ fun w hw=>Pst.ret hw
      unfold a3E
      exact Pst.bind Pst.any fun _ _=>Pst.ret (c0D rfl rfl hr)
     ·exact Pst.bind (c73 n _ _) fun r hr=>Pst.ret hr
   ·show Pst (X0 n (z7 n).1 (z7 n).2.1 (z7 n).2.2.1 (z7 n).2.2.2 s t x h) V1
    unfold X0
    exact Pst.bind Pst.any fun _ _=>Pst.bind Pst.any fun _ _=>Pst.bind (b7w _ _ _) fun r hr=>Pst.cond (Pst.ret (a2k (by decide:(5:Int)≠1))) (Pst.ret (a2k hr))
   ·show Pst (a0t n (z7 n).1 (z7 n).2.1 (z7 n).2.2.1 (z7 n).2.2.2 s t x h) V1
    unfold a0t
    exact Pst.bind Pst.any fun _ _=>Pst.bind Pst.any fun _ _=>Pst.bind Pst.any fun _ _=>Pst.bind (c4U _ _) fun r hr=>Pst.cond (Pst.ret (a2k (by decide:(5:Int)≠1))) (Pst.ret (a2k hr))
end Go.Pl
end
section
namespace Go.Pl
open Go Go.RowKit Go.Sx Go.Qx
theorem c5o (l:List (List Int))(hl:l.length<=1000):a5C l=some (l.all fun x=>!decide (80<(x.length:Int))):=by
 have l1:=a0P (step:=a2O l) l (fun x=>!decide (80<(x.length:Int))) (fun i=>(i:Int)) () false (fun i x hx=>by
  have hi:i<l.length:=(List.getElem?_eq_some_iff.1 hx).1
  unfold a2O
  rw [Z3 hi,j5 hx]
  simp only [cond_true,Option.bind_some,Y1]
  rw [k8 i (by omega)]
  cases decide (80<(x.length:Int))<;>rfl) (by
  unfold a2O
  simp)
 have l1':iter (a2O l) (l.length+1) 0=_:=l1
 unfold a5C
 rw [Y2,l1']
 cases l.all fun x=>!decide (80<(x.length:Int))<;>rfl
structure DT (T:Api_Type):Prop where
 gt:GT T
 one:1<=T.Nodes.length
 len:T.Nodes.length<=7
 root:inR T.Nodes.length T.Root=true
structure DV (v:Val):Prop where
 ok:vOK v=true
 bulk:j9 v<=1638300
 int:IOK v
theorem os0 (L:List Int):OS L (Semtypebase_Source.mk L 0):=⟨rfl,by show (0:Int)<=0; omega,by show (0:Int)<=_; omega⟩
theorem d0B (l:List Int)(hl:l.length<=4194304):∃ T,DT T/\∀ m:List Int,m.length<=4194304->∀ n,10000000<=n->∃ v,a5z n l m=some (T,v)/\DV v:=by
 obtain ⟨x,t1,e1,h1,x0,x1⟩:=Y6 hl (os0 l) (n:=7) (by omega) (by omega)
 obtain ⟨x,rfl⟩:=a9a x0
 obtain ⟨ns,t2,e2,h2,hlen,hns⟩:=d0k hl h1 (x+1) (by omega) (by omega)
 have hgt:GT (Api_Type.mk ns 0):=⟨by show ns.length<=10; omega,by show GNs ns.length ns; rw [hlen]; exact hns⟩
 have hDT:DT (Api_Type.mk ns 0):=⟨hgt,by show 1<=ns.length; omega,by show ns.length<=7; omega,b3a (show (0:Int)<=0 by omega) (by show (0:Int)<(ns.length:Int); omega)⟩
 refine ⟨_,hDT,fun m hm n hn=>?_⟩
 obtain ⟨k,t3,e3,h3,k0,k1⟩:=Y6 hm (os0 m) (n:=(ns.length:Int)) (by omega) (by omega)
 obtain ⟨k,rfl⟩:=a9a k0
 obtain ⟨v,u,e4,_,hv,hb⟩:=d2d hm hgt n hn 4 (Nat.le_refl 4) k t3 (by show k<ns.length; omega) h3
 have hI:IOK v:=(c3l hgt n).1 t3 (k:Int) ((4:Nat):Int) (v,u) e4
 refine ⟨v,?_,hv,hb,hI⟩
 unfold a5z
 rw [e1]
 simp only [Option.bind_some]
 rw [show wr .i64 (1+(x:Int))=((x+1:Nat):Int) by rw [Y1,Q8 (by omega) (by omega)]; omega]
 rw [show a1N t1 ((x+1:Nat):Int)=some (Api_Type.mk ns 0,t2) from e2]
 simp only [Option.bind_some]
 rw [e3]
 simp only [Option.bind_some]
 have e4':a3b n t3 (Api_Type.mk ns 0) (k:Int) 4=some (v,u):=e4
 rw [e4']
 rfl
section
variable {L:List Int}{T:Api_Type}
theorem d2Y (hL:L.length<=4194304)(hT:DT T){s:Semtypebase_Source}(hs:OS L s)(m:Nat)(hm:m<=4) :
 ∃ a t,iter (a00 T) ((m:Int).toNat+2) ((m:Int),s,([],[],false))=some (t,(a,[],false))/\OS L t/\a.length=m/\a.all (inR T.Nodes.length)=true:=by
 have h1:=hT.one
 have h7:=hT.len
 obtain ⟨g,u,e,hu,i1,i2⟩:=a7l (γ:=List Int) (L:=L) (step:=a00 T) (fun g n s=>(n,s,(g,([]:List Int),false))) (fun g s=>(s,(g,([]:List Int),false))) (fun j g=>g.length=j/\g.all (inR T.Nodes.length)=true) m
  (fun j n g s hj hn hI hs=>by
    obtain ⟨x,t,e,ht,x0,x1⟩:=Y6 hL hs (n:=(T.Nodes.length:Int)) (by omega) (by omega)
    refine ⟨g++[x],t,?_,ht,by simp [hI.1],by rw [List.all_append,hI.2]; simp only [List.all_cons,List.all_nil,Bool.and_true,Bool.true_and]; exact b3a x0 x1⟩
    unfold a00
    simp only
    rw [show decide (0<((n+1:Nat):Int))=true from decide_eq_true (by omega),e]
    simp only [cond_true,Option.bind_some]
    rw [Z6 (by simp only [List.length_cons,List.length_nil]; have:=hI.1; omega),show wr .i64 (((n+1:Nat):Int)-1)=(n:Int) by rw [Y1,Q8 (by omega) (by omega)]; omega]
    rfl) (fun g s=>by
    unfold a00
    rfl) m 0 ((m:Int).toNat+2) [] s (by omega) (by omega) ⟨rfl,rfl⟩ hs
 exact ⟨g,u,e,hu,by omega,i2⟩
theorem d2x (hL:L.length<=4194304)(hT:DT T){s:Semtypebase_Source}(hs:OS L s)(p:List Int)(m:Nat)(hm:m<=4) :
 ∃ a t,iter (a0Z T) ((m:Int).toNat+2) ((m:Int),s,(p,[],false))=some (t,(p,a,false))/\OS L t/\a.length=m/\a.all (inR T.Nodes.length)=true:=by
 have h1:=hT.one
 have h7:=hT.len
 obtain ⟨g,u,e,hu,i1,i2⟩:=a7l (γ:=List Int) (L:=L) (step:=a0Z T) (fun g n s=>(n,s,(p,g,false))) (fun g s=>(s,(p,g,false))) (fun j g=>g.length=j/\g.all (inR T.Nodes.length)=true) m
  (fun j n g s hj hn hI hs=>by
    obtain ⟨x,t,e,ht,x0,x1⟩:=Y6 hL hs (n:=(T.Nodes.length:Int)) (by omega) (by omega)
    refine ⟨g++[x],t,?_,ht,by simp [hI.1],by rw [List.all_append,hI.2]; simp only [List.all_cons,List.all_nil,Bool.and_true,Bool.true_and]; exact b3a x0 x1⟩
    unfold a0Z
    simp only
    rw [show decide (0<((n+1:Nat):Int))=true from decide_eq_true (by omega),e]
    simp only [cond_true,Option.bind_some]
    rw [Z6 (by simp only [List.length_cons,List.length_nil]; have:=hI.1; omega),show wr .i64 (((n+1:Nat):Int)-1)=(n:Int) by rw [Y1,Q8 (by omega) (by omega)]; omega]
    rfl) (fun g s=>by
    unfold a0Z
    rfl) m 0 ((m:Int).toNat+2) [] s (by omega) (by omega) ⟨rfl,rfl⟩ hs
 exact ⟨g,u,e,hu,by omega,i2⟩
structure DG (T:Api_Type)(g:Api_Goal):Prop where
 ix:gIn T.Nodes.length g=true
 pos:g.Pos.length<=2
 neg:g.Neg.length<=2
 sp:srt g.Pos=g.Pos
 sn:srt g.Neg=g.Neg
theorem d0E (hL:L.length<=4194304)(hT:DT T){s:Semtypebase_Source}(hs:OS L s):∃ g t,a3f s T=some (g,t)/\OS L t/\DG T g:=by
 obtain ⟨x,t1,e1,h1,x0,x1⟩:=Y6 hL hs (n:=2) (by omega) (by omega)
 obtain ⟨x,rfl⟩:=a9a x0
 obtain ⟨a,t2,e2,h2,la,ia⟩:=d2Y hL hT h1 (x+1) (by omega)
 obtain ⟨y,t3,e3,h3,y0,y1⟩:=Y6 hL h2 (n:=3) (by omega) (by omega)
 obtain ⟨y,rfl⟩:=a9a y0
 obtain ⟨b,t4,e4,h4,lb,ib⟩:=d2x hL hT h3 a y (by omega)
 obtain ⟨z,t5,e5,h5,z0,z1⟩:=Y6 hL h4 (n:=8) (by omega) (by omega)
 have sa:=b9y a
 have sb:=b9y b
 refine ⟨Api_Goal.mk (srt a) (srt b) (z==1),t5,?_,h5,?_,by show (srt a).length<=2; omega,by show (srt b).length<=2; omega,b9D a,b9D b⟩
 ·unfold a3f
  rw [e1]
  simp only [Option.bind_some]
  rw [show wr .i64 (1+(x:Int))=((x+1:Nat):Int) by rw [Y1,Q8 (by omega) (by omega)]; omega,e2]
  simp only [Option.bind_some]
  rw [e3]
  simp only [Option.bind_some]
  rw [e4]
  simp only [Option.bind_some]
  rw [e5]
  simp only [Option.bind_some]
  rw [c74 a b _ (by omega) (by omega)]
  rfl
 ·show gIn T.Nodes.length (Api_Goal.mk (srt a) (srt b) (z==1))=true
  unfold gIn
  simp only [b58,ia,ib,Bool.and_self]
end
end Go.Pl
end
section
namespace Go.Pl
open Go Go.RowKit Go.Sx Go.Qx
end Go.Pl
end
section
namespace Go.Pl
open Go Go.RowKit Go.Sx Go.Qx
def d26:List Api_TypeNode:=[b3w 16 [1,2],Api_TypeNode.mk 3 0 9 (⟨#[]⟩:ByteArray) ([]:List Int) ([]:List Api_Field) (0,0),b3w 9 []]
def b4Q:Api_Type:=Api_Type.mk d26 0
theorem b3u:GT b4Q:=by
 refine ⟨by decide,fun i x hx=>?_⟩
 match i,hx with
 | 0,hx =>
   cases hx
   exact b0D (l:=[1,2]) (by decide) (by decide) (by decide) (fun _ x hx=>by
    simp only [List.mem_cons,List.not_mem_nil,or_false] at hx
    rcases hx with rfl | rfl<;>decide)
 | 1,hx =>
   cases hx
   exact c9t (by decide) (by decide)
 | 2,hx =>
   cases hx
   exact b8b (by decide)
 | i+3,hx=>simp [b4Q,d26] at hx
theorem d2j (n:Int):Z8 b4Q (Val.mk 1 n (⟨#[]⟩:ByteArray) [] [] [] []) 0=(decide (0<=n)&&decide (n<=9)):=by
 have ho:=c2x n
 have hb:j9 (Val.mk 1 n (⟨#[]⟩:ByteArray) [] [] [] [])<=4194304:=by rw [K8]; simp [a2H,k7,v8,w9]
 have e0:=b0o b3u (k:=0) (x:=b3w 16 [1,2]) rfl ho hb
 have e1:=b0o b3u (k:=1) (x:=Api_TypeNode.mk 3 0 9 (⟨#[]⟩:ByteArray) ([]:List Int) ([]:List Api_Field) (0,0)) rfl ho hb
 have e2:=b0o b3u (k:=2) (x:=b3w 9 []) rfl ho hb
 have e0':Z8 b4Q (Val.mk 1 n (⟨#[]⟩:ByteArray) [] [] [] []) 0=_:=e0
 have e1':Z8 b4Q (Val.mk 1 n (⟨#[]⟩:ByteArray) [] [] [] []) 1=_:=e1
 have e2':Z8 b4Q (Val.mk 1 n (⟨#[]⟩:ByteArray) [] [] [] []) 2=_:=e2
 rw [e0']
 unfold unM
 simp [b3w,e1',e2']
 unfold unM
 simp [Val.Kind,Val.Int_]
 rfl
theorem c6Z (n:Int)(h:i64 n):vOK (Val.mk 1 n (⟨#[]⟩:ByteArray) [] [] [] [])=true/\j9 (Val.mk 1 n (⟨#[]⟩:ByteArray) [] [] [] [])<=100/\IOK (Val.mk 1 n (⟨#[]⟩:ByteArray) [] [] [] []) :=
 ⟨c2x n,by rw [K8]; simp [a2H,k7,v8,w9],fun _=>h⟩
theorem c8Z (n:Int):gA b4Q (Val.mk 1 n (⟨#[]⟩:ByteArray) [] [] [] []) (g0 [0] [])=(decide (0<=n)&&decide (n<=9)):=by
 unfold gA c2T gM
 simp [d2j]
 intro _ _
 decide
theorem c9w:∃ c,∀ n,c<=n->a23 n=some true:=by
 have hr:inR b4Q.Nodes.length b4Q.Root=true:=by decide
 obtain ⟨c,out,hE,hL⟩:=c4N b3u (by decide) hr (g0 [0] []) (by decide) (by decide)
 refine ⟨max c 200000000,fun n hn=>?_⟩
 obtain ⟨ls,e1,hZ⟩:=hL n (by omega)
 obtain ⟨a1,a2,a3⟩:=c6Z 3 ⟨by decide,by decide⟩
 obtain ⟨b1,b2,b3⟩:=c6Z 10 ⟨by decide,by decide⟩
 have hc:=d0f b3u a1 (by omega) a3 (by decide) hE hZ
 rw [c8Z] at hc
 have hc':ls.any (b2t b4Q (Val.mk 1 3 (⟨#[]⟩:ByteArray) [] [] [] []))=true:=hc
 have hpos:decide (0<(ls.length:Int))=true:=by
  cases ls with
  | nil=>cases hc'
  | cons x r=>simp
 have g3:=c2f b3u hr a1 (by omega) (g0 [0] []) (by decide) (by decide) n (by omega)
 have g10:=c2f b3u hr b1 (by omega) (g0 [0] []) (by decide) (by decide) n (by omega)
 rw [c8Z] at g3 g10
 have hN:a9b (Api_Goal.mk ([2,1,2]:List Int) ([]:List Int) false)=some (Api_Goal.mk (srt [2,1,2]) (srt []) false):=by
  unfold a9b
  rw [b9f [2,1,2] [] false (by decide) (by decide)]
  rfl
 unfold a23
 have e1':a6J n (Api_Type.mk ([Api_TypeNode.mk 16 0 0 (⟨#[]⟩:ByteArray) ([1,2]:List Int) ([]:List Api_Field) (0,0),Api_TypeNode.mk 3 0 9 (⟨#[]⟩:ByteArray) ([]:List Int) ([]:List Api_Field) (0,0),Api_TypeNode.mk 9 0 0 (⟨#[]⟩:ByteArray) ([]:List Int) ([]:List Api_Field) (0,0)]:List Api_TypeNode) 0) (Api_Goal.mk ([0]:List Int) ([]:List Int) false)=some ls:=e1
 rw [e1']
 simp only [Option.bind_some]
 rw [hpos]
 have v3:a1Y 3=some (Val.mk 1 3 (⟨#[]⟩:ByteArray) [] [] [] []):=rfl
 have v10:a1Y 10=some (Val.mk 1 10 (⟨#[]⟩:ByteArray) [] [] [] []):=rfl
 rw [v3,v10]
 simp only [cond_true,Option.bind_some,V2]
 have g3':a4M n (Val.mk 1 3 (⟨#[]⟩:ByteArray) [] [] [] []) (Api_Type.mk ([Api_TypeNode.mk 16 0 0 (⟨#[]⟩:ByteArray) ([1,2]:List Int) ([]:List Api_Field) (0,0),Api_TypeNode.mk 3 0 9 (⟨#[]⟩:ByteArray) ([]:List Int) ([]:List Api_Field) (0,0),Api_TypeNode.mk 9 0 0 (⟨#[]⟩:ByteArray) ([]:List Int) ([]:List Api_Field) (0,0)]:List Api_TypeNode) 0) (Api_Goal.mk ([0]:List Int) ([]:List Int) false)=some true:=g3
 have g10':a4M n (Val.mk 1 10 (⟨#[]⟩:ByteArray) [] [] [] []) (Api_Type.mk ([Api_TypeNode.mk 16 0 0 (⟨#[]⟩:ByteArray) ([1,2]:List Int) ([]:List Api_Field) (0,0),Api_TypeNode.mk 3 0 9 (⟨#[]⟩:ByteArray) ([]:List Int) ([]:List Api_Field) (0,0),Api_TypeNode.mk 9 0 0 (⟨#[]⟩:ByteArray) ([]:List Int) ([]:List Api_Field) (0,0)]:List Api_TypeNode) 0) (Api_Goal.mk ([0]:List Int) ([]:List Int) false)=some false:=g10
 rw [g3',g10',hN]
 rfl
end Go.Pl
end
section
namespace Go.Pl
open Go Go.RowKit Go.Sx Go.Qx
section
variable {T:Api_Type}
theorem c1Z (K A k:Int)(l:List Int):(ofZ T K A k l).length<=l.length:=by unfold ofZ; exact List.length_filter_le _ _
theorem d02 (hT:GT T){L:Bool}{e:Api_Goal}(he:NG T L e){l:Api_Line}(h:Mk T e l):ShL l/\gIn T.Nodes.length (g0 l.Pos l.Neg)=true:=by
 obtain ⟨_,s,l0,hs,hZ,rfl⟩:=h
 obtain ⟨l1,l2⟩:=he.lens hT
 have v1:=a6h (T:=T) e.Pos
 have v2:=a6h (T:=T) e.Neg
 have o1:=c1Z (T:=T) s.Kind s.Arity (skK s.Kind) e.Pos
 have o2:=c1Z (T:=T) s.Kind s.Arity (skK s.Kind) e.Neg
 have hin:∀ l:List Int,l.all (a0c T)=true->(ofZ T s.Kind s.Arity (skK s.Kind) l).all (inR T.Nodes.length)=true:=fun l hl=>List.all_eq_true.2 fun x hx=>a6q (List.all_eq_true.1 hl x (List.mem_filter.1 hx).1)
 refine ⟨⟨?_,?_,?_,?_,?_,?_⟩,?_⟩
 ·show l0.Ints.length<=1000000
  by_cases h1:s.Kind=1
  ·have:=(hZ.ints1 h1).2.2.2; omega
  ·rw [hZ.ints0 h1]; simp
 ·show l0.Names.List_.length<=1000000
  by_cases h2:s.Kind=2\/s.Kind=3
  ·have:=(hZ.nam1 h2).2.2.2; omega
  ·rw [hZ.nam0 (by omega) (by omega)]; simp
 ·show l0.Pos.length<=1000000
  rw [hZ.pos]; omega
 ·show l0.Neg.length<=1000000
  rw [hZ.neg]; omega
 ·show (srS (Z9 T e.Pos)).length<=1000000
  omega
 ·show (srS (Z9 T e.Neg)).length<=1000000
  omega
 ·show gIn T.Nodes.length (g0 l0.Pos l0.Neg)=true
  unfold gIn
  simp only [hZ.pos,hZ.neg,hin _ he.pos,hin _ he.neg,Bool.and_self]
end
end Go.Pl
end
section
namespace Go.Pl
open Go Go.RowKit Go.Sx Go.Qx
theorem a8f {β:Type}{step:Int->Option (Fl Int β)}(a n:Nat)(r:β)(hs:∀ i,i<n->step ((a+i:Nat):Int)=some (.next ((a+i+1:Nat):Int)))(he:step ((a+n:Nat):Int)=some (.done r))(k:Nat)(hk:n+1<=k):iter step k (a:Int)=some r:=by
 have h:=d0N (step:=step) (fun i=>((a+i:Nat):Int)) n r hs he k hk
 exact h
theorem c3w (l:List Int)(hl:l.length<=1000)(h:l.Pairwise fun a b=>a<b):a1x l=some true:=by
 unfold a1x
 have e:iter (a2m l) ((l.length:Int).toNat+1) ((1:Nat):Int)=some (.inl ()):=by
  refine a8f 1 (l.length-1) _ (fun i hi=>?_) ?_ _ (by rw [Int.toNat_natCast]; omega)
  ·have h1:1+i<l.length:=by omega
   have h0:i<l.length:=by omega
   unfold a2m
   rw [Z3 h1,show wr .i64 (((1+i:Nat):Int)-1)=(i:Int) by rw [a8n (by omega) (by omega)]; omega,j5 (List.getElem?_eq_getElem h0),j5 (List.getElem?_eq_getElem h1),a0M (1+i) (by omega)]
   simp only [cond_true,Option.bind_some]
   have:=List.pairwise_iff_getElem.1 h i (1+i) h0 h1 (by omega)
   rw [show decide (l[1+i]<=l[i])=false from decide_eq_false (by omega)]
   rfl
  ·unfold a2m
   rw [show decide (((1+(l.length-1):Nat):Int)<(l.length:Int))=false from decide_eq_false (by omega)]
   rfl
 have e':iter (a2m l) ((l.length:Int).toNat+1) 1=some (.inl ()):=e
 rw [e']
 rfl
theorem c9h (l:List ByteArray)(hl:l.length<=1000)(h:asc cS l=true)(hv:∀ s∈l,a6j s=true):a07 l=some true:=by
 have hp:=(CmpOk.asc_pw (c:=cS) a83 l).1 h
 unfold a07
 have e:iter (a2G l) ((l.length:Int).toNat+1) ((0:Nat):Int)=some (.inl ()):=by
  refine a8f 0 l.length _ (fun i hi=>?_) ?_ _ (by rw [Int.toNat_natCast]; omega)
  ·have h0:0+i<l.length:=by omega
   unfold a2G
   rw [Z3 h0,j5 (List.getElem?_eq_getElem h0),a0M (0+i) (by omega)]
   simp only [cond_true,Option.bind_some]
   rw [c1D,hv _ (List.getElem_mem h0)]
   simp only [Option.bind_some,Bool.not_true,cond_false]
   by_cases hz:i=0
   ·subst hz
    rw [show decide (0<((0+0:Nat):Int))=false from rfl]
    rfl
   ·rw [show decide (0<((0+i:Nat):Int))=true from decide_eq_true (by omega)]
    have h1:i-1<l.length:=by omega
    rw [show wr .i64 (((0+i:Nat):Int)-1)=((i-1:Nat):Int) by rw [a8n (by omega) (by omega)]; omega,j5 (List.getElem?_eq_getElem h1)]
    simp only [cond_true,Option.bind_some]
    have:=List.pairwise_iff_getElem.1 hp (i-1) (0+i) h1 h0 (by omega)
    rw [b7f,decide_eq_true this]
    rfl
  ·unfold a2G
   rw [show decide (((0+l.length:Nat):Int)<(l.length:Int))=false from decide_eq_false (by omega)]
   rfl
 have e':iter (a2G l) ((l.length:Int).toNat+1) 0=some (.inl ()):=e
 rw [e']
 rfl
theorem c2O (l:List Api_Range)(hl:l.length<=2000)(h:VR l):a1P l=some true:=by
 unfold a1P
 have e:iter (a01 l) ((l.length:Int).toNat+1) ((0:Nat):Int)=some (.inl ()):=by
  refine a8f 0 l.length _ (fun i hi=>?_) ?_ _ (by rw [Int.toNat_natCast]; omega)
  ·have h0:0+i<l.length:=by omega
   have hle:=h.le _ (List.getElem_mem h0)
   have hi2:=h.i _ (List.getElem_mem h0)
   unfold a01
   rw [Z3 h0,j5 (List.getElem?_eq_getElem h0),a0M (0+i) (by omega)]
   simp only [cond_true,Option.bind_some]
   rw [show decide (l[0+i].Hi<l[0+i].Lo)=false from decide_eq_false (by omega)]
   simp only [cond_false]
   by_cases hz:i=0
   ·subst hz
    rw [show decide (0<((0+0:Nat):Int))=false from rfl]
    rfl
   ·rw [show decide (0<((0+i:Nat):Int))=true from decide_eq_true (by omega)]
    have h1:i-1<l.length:=by omega
    rw [show wr .i64 (((0+i:Nat):Int)-1)=((i-1:Nat):Int) by rw [a8n (by omega) (by omega)]; omega,j5 (List.getElem?_eq_getElem h1)]
    simp only [cond_true,Option.bind_some]
    have hg:=List.pairwise_iff_getElem.1 h.gap (i-1) (0+i) h1 h0 (by omega)
    have hi1:=h.i _ (List.getElem_mem h1)
    unfold rI at hi1 hi2
    generalize l[i-1]=a at hg hi1
    generalize l[0+i]=b at hg hi2 hle
    rw [show (a.Hi==9223372036854775807)=false by simp; omega,a8n (x:=a.Hi+1) (by omega) (by omega),show decide (b.Lo<=a.Hi+1)=false from decide_eq_false (by omega)]
    rfl
  ·unfold a01
   rw [show decide (((0+l.length:Nat):Int)<(l.length:Int))=false from decide_eq_false (by omega)]
   rfl
 have e':iter (a01 l) ((l.length:Int).toNat+1) 0=some (.inl ()):=e
 rw [e']
 rfl
theorem c3Q (s:Api_Names)(hl:s.List_.length<=1000)(h:asc cS s.List_=true):a05 s=some true:=by
 have hp:=(CmpOk.asc_pw (c:=cS) a83 s.List_).1 h
 generalize hls:s.List_=l at hl hp
 unfold a05
 rw [hls]
 have e:iter (a1l s) ((l.length:Int).toNat+1) ((1:Nat):Int)=some (.inl ()):=by
  refine a8f 1 (l.length-1) _ (fun i hi=>?_) ?_ _ (by rw [Int.toNat_natCast]; omega)
  ·have h1:1+i<l.length:=by omega
   have h0:i<l.length:=by omega
   unfold a1l
   rw [hls,Z3 h1,show wr .i64 (((1+i:Nat):Int)-1)=(i:Int) by rw [a8n (by omega) (by omega)]; omega,j5 (List.getElem?_eq_getElem h0),j5 (List.getElem?_eq_getElem h1),a0M (1+i) (by omega)]
   simp only [cond_true,Option.bind_some]
   have:=List.pairwise_iff_getElem.1 hp i (1+i) h0 h1 (by omega)
   rw [b7f,decide_eq_true this]
   rfl
  ·unfold a1l
   rw [hls,show decide (((1+(l.length-1):Nat):Int)<(l.length:Int))=false from decide_eq_false (by omega)]
   rfl
 have e':iter (a1l s) ((l.length:Int).toNat+1) 1=some (.inl ()):=e
 rw [e']
 rfl
section
variable {T:Api_Type}
theorem c1k (hT:GT T){l:List Int}(hl:l.length<=10)(hb:l.all (a0c T)=true):a07 (srS (Z9 T l))=some true:=by
 have:=a6h (T:=T) l
 refine c9h _ (by omega) (a7I _) fun s hs=>?_
 obtain ⟨i,hi,hk,rfl⟩:=a8z.1 hs
 obtain ⟨j,_,_,e,_⟩:=a4B (a6q (List.all_eq_true.1 hb i hi))
 have hn:=(hT.nodes j _ e).ok
 unfold X3 a2T at hn
 simp only [hk,Bool.and_eq_true] at hn
 have h2:=hn
 simp at h2
 simp_all
theorem c6n {p q:List ByteArray}(l:Api_Line)(hv:l.Vars=p)(hn:l.NotVars=q)(h1:p.length<=1000)(h2:q.length<=1000)(h:b2j p q=false):iter (a2u l) ((l.Vars.length:Int).toNat+1) 0=some (.inl ()):=by
 have e:iter (a2u l) ((l.Vars.length:Int).toNat+1) ((0:Nat):Int)=some (.inl ()):=by
  rw [hv]
  refine a8f 0 p.length _ (fun i hi=>?_) ?_ _ (by rw [Int.toNat_natCast]; omega)
  ·have h0:0+i<p.length:=by omega
   unfold a2u
   rw [hv,hn,Z3 h0,a0M (0+i) (by omega)]
   have e1:iter (a2q l ((0+i:Nat):Int)) ((q.length:Int).toNat+1) ((0:Nat):Int)=some (.inl ()):=by
    refine a8f 0 q.length _ (fun j hj=>?_) ?_ _ (by rw [Int.toNat_natCast]; omega)
    ·have g0:0+j<q.length:=by omega
     unfold a2q
     rw [hv,hn,Z3 g0,j5 (List.getElem?_eq_getElem h0),j5 (List.getElem?_eq_getElem g0),a0M (0+j) (by omega)]
     simp only [cond_true,Option.bind_some]
     have hne:Y0 p[0+i] q[0+j]=false:=by
      rw [Bool.eq_false_iff]
      intro he
      have:=(b0I _ _).1 he
      have:b2j p q=true:=c3A.2 ⟨p[0+i],List.getElem_mem h0,by rw [this]; exact List.getElem_mem g0⟩
      rw [h] at this
      cases this
     rw [hne]
     rfl
    ·unfold a2q
     rw [hn,show decide (((0+q.length:Nat):Int)<(q.length:Int))=false from decide_eq_false (by omega)]
     rfl
   have e1':iter (a2q l ((0+i:Nat):Int)) ((q.length:Int).toNat+1) 0=some (.inl ()):=e1
   rw [e1']
   rfl
  ·unfold a2u
   rw [hv,show decide (((0+p.length:Nat):Int)<(p.length:Int))=false from decide_eq_false (by omega)]
   rfl
 exact e
theorem c6e (l:Api_Line)(h1:l.Pos.length<=1000)(h2:l.Neg.length<=1000)(h:a87 l.Pos l.Neg=false):iter (a2t l) ((l.Pos.length:Int).toNat+1) 0=some (.inl ()):=by
 have e:iter (a2t l) ((l.Pos.length:Int).toNat+1) ((0:Nat):Int)=some (.inl ()):=by
  refine a8f 0 l.Pos.length _ (fun i hi=>?_) ?_ _ (by rw [Int.toNat_natCast]; omega)
  ·have h0:0+i<l.Pos.length:=by omega
   unfold a2t
   rw [Z3 h0,a0M (0+i) (by omega)]
   have e1:iter (a2r l ((0+i:Nat):Int)) ((l.Neg.length:Int).toNat+1) ((0:Nat):Int)=some (.inl ()):=by
    refine a8f 0 l.Neg.length _ (fun j hj=>?_) ?_ _ (by rw [Int.toNat_natCast]; omega)
    ·have g0:0+j<l.Neg.length:=by omega
     unfold a2r
     rw [Z3 g0,j5 (List.getElem?_eq_getElem h0),j5 (List.getElem?_eq_getElem g0),a0M (0+j) (by omega)]
     simp only [cond_true,Option.bind_some]
     have hne:(l.Pos[0+i]==l.Neg[0+j])=false:=by
      rw [Bool.eq_false_iff]
      intro he
      have he2:=beq_iff_eq.1 he
      have:a87 l.Pos l.Neg=true:=b3V.2 ⟨l.Pos[0+i],List.getElem_mem h0,by rw [he2]; exact List.getElem_mem g0⟩
      rw [h] at this
      cases this
     rw [hne]
     rfl
    ·unfold a2r
     rw [show decide (((0+l.Neg.length:Nat):Int)<(l.Neg.length:Int))=false from decide_eq_false (by omega)]
     rfl
   have e1':iter (a2r l ((0+i:Nat):Int)) ((l.Neg.length:Int).toNat+1) 0=some (.inl ()):=e1
   rw [e1']
   rfl
  ·unfold a2t
   rw [show decide (((0+l.Pos.length:Nat):Int)<(l.Pos.length:Int))=false from decide_eq_false (by omega)]
   rfl
 exact e
theorem c7w (l:Api_Line)(K A:Int)(hK:l.Kind=K)(hA:l.Arity=A)(h0 : -10<=A/\A<=10){x:Api_TypeNode}(hk:x.Kind=skK K)(hk0:x.Kind≠0)(hf:b4G K A x=true):a1d x l=some true:=by
 unfold a1d
 rw [hK,hA]
 unfold skK at hk
 unfold b4G at hf
 by_cases h6:K=6
 ·subst h6
  simp at hk
  simp [hk] at hf ⊢
  omega
 by_cases h7:K=7
 ·subst h7
  simp at hk
  simp [hk]
 by_cases h8:K=8
 ·subst h8
  simp at hk
  simp [hk]
 by_cases h9:K=9
 ·subst h9
  simp at hk
  rw [a8n (x:=A+1) (by omega) (by omega)]
  simp [hk] at hf ⊢
  omega
 rw [if_neg h6,if_neg h7,if_neg h8,if_neg h9] at hk
 exact absurd hk hk0
theorem c6m (l:Api_Line)(h1:(l.Pos++l.Neg).length<=1000)(h:∀ i∈l.Pos++l.Neg,inR T.Nodes.length i=true/\a1d (ndT T i) l=some true):iter (a2v T l) (((l.Pos++l.Neg).length:Int).toNat+1) 0=some (.inl ()):=by
 have e:iter (a2v T l) (((l.Pos++l.Neg).length:Int).toNat+1) ((0:Nat):Int)=some (.inl ()):=by
  refine a8f 0 (l.Pos++l.Neg).length _ (fun i hi=>?_) ?_ _ (by rw [Int.toNat_natCast]; omega)
  ·have h0:0+i<(l.Pos++l.Neg).length:=by omega
   obtain ⟨a,b⟩:=h _ (List.getElem_mem h0)
   obtain ⟨j,ej,hj,_,ei⟩:=a4B a
   unfold a2v
   rw [Z3 h0,j5 (List.getElem?_eq_getElem h0),a0M (0+i) (by omega)]
   simp only [cond_true,Option.bind_some]
   rw [ei]
   simp only [Option.bind_some]
   rw [b,ej,show decide ((j:Int)<0)=false from decide_eq_false (by omega),show decide ((T.Nodes.length:Int)<=(j:Int))=false from decide_eq_false (by omega)]
   rfl
  ·unfold a2v
   rw [show decide (((0+(l.Pos++l.Neg).length:Nat):Int)<((l.Pos++l.Neg).length:Int))=false from decide_eq_false (by omega)]
   rfl
 exact e
theorem d1I {l:List Int}(h:srt l=l)(K A k:Int):(ofZ T K A k l).Pairwise fun a b=>a<b:=(b8l h).filter _
theorem c6B {s:Core_Sort}(h:s∈a1Q):0<=s.Arity/\s.Arity<=4:=by
 unfold a1Q at h
 simp only [List.mem_cons,List.not_mem_nil,or_false] at h
 rcases h with rfl | rfl | rfl | rfl | rfl | rfl | rfl | rfl | rfl | rfl | rfl | rfl | rfl | rfl | rfl | rfl | rfl<;>simp
theorem c9P (hT:GT T){L:Bool}{e:Api_Goal}(he:NG T L e){l:Api_Line}(h:Mk T e l):a5h T l=some true:=by
 obtain ⟨sh,_⟩:=d02 hT he h
 obtain ⟨ha,s,l0,hs,hZ,rfl⟩:=h
 obtain ⟨l1,l2⟩:=he.lens hT
 have v1:=a6h (T:=T) e.Pos
 have v2:=a6h (T:=T) e.Neg
 have o1:=c1Z (T:=T) s.Kind s.Arity (skK s.Kind) e.Pos
 have o2:=c1Z (T:=T) s.Kind s.Arity (skK s.Kind) e.Neg
 rw [<- hZ.pos] at o1
 rw [<- hZ.neg] at o2
 obtain ⟨hK,hA0⟩:=b64 hs
 have hA4:=c6B hs
 unfold a8j at ha
 rw [Bool.and_eq_true,Bool.not_eq_true',Bool.not_eq_true'] at ha
 have hpw1:l0.Pos.Pairwise fun a b=>a<b:=by rw [hZ.pos]; exact d1I he.sp _ _ _
 have hpw2:l0.Neg.Pairwise fun a b=>a<b:=by rw [hZ.neg]; exact d1I he.sn _ _ _
 have hmeet:a87 l0.Pos l0.Neg=false:=by
  rw [Bool.eq_false_iff]
  intro hm
  obtain ⟨i,i1,i2⟩:=b3V.1 hm
  rw [hZ.pos] at i1
  rw [hZ.neg] at i2
  have:a87 e.Pos e.Neg=true:=b3V.2 ⟨i,(List.mem_filter.1 i1).1,(List.mem_filter.1 i2).1⟩
  rw [ha.1] at this
  cases this
 have hmatch:∀ i∈l0.Pos++l0.Neg,inR T.Nodes.length i=true/\a1d (ndT T i) (a4E l0 (srS (Z9 T e.Pos)) (srS (Z9 T e.Neg)))=some true:=fun i hi=>by
  have key:∀ p:List Int,p.all (a0c T)=true->i∈ofZ T s.Kind s.Arity (skK s.Kind) p->_:=fun p hp hi=>by
   have hm:=List.mem_filter.1 hi
   have hb:=List.all_eq_true.1 hp i hm.1
   rw [Bool.and_eq_true] at hm
   have hk:(ndT T i).Kind=skK s.Kind:=by have:=hm.2.1; unfold isK at this; simpa using this
   have h0:(ndT T i).Kind≠0:=by
    obtain ⟨j,_,_,_,_,hK⟩:=a7B hT hb
    omega
   exact (⟨a6q hb,c7w _ s.Kind s.Arity hZ.kind hZ.ar (by omega) hk h0 hm.2.2⟩:inR T.Nodes.length i=true/\a1d (ndT T i) (a4E l0 (srS (Z9 T e.Pos)) (srS (Z9 T e.Neg)))=some true)
  rcases List.mem_append.1 hi with hi | hi
  ·rw [hZ.pos] at hi
   exact key e.Pos he.pos hi
  ·rw [hZ.neg] at hi
   exact key e.Neg he.neg hi
 unfold a5h
 have r1:a1x (a4E l0 (srS (Z9 T e.Pos)) (srS (Z9 T e.Neg))).Pos=some true:=c3w l0.Pos (by omega) hpw1
 have r2:a1x (a4E l0 (srS (Z9 T e.Pos)) (srS (Z9 T e.Neg))).Neg=some true:=c3w l0.Neg (by omega) hpw2
 have r3:a07 (a4E l0 (srS (Z9 T e.Pos)) (srS (Z9 T e.Neg))).Vars=some true:=c1k hT l1 he.pos
 have r4:a07 (a4E l0 (srS (Z9 T e.Pos)) (srS (Z9 T e.Neg))).NotVars=some true:=c1k hT l2 he.neg
 have r5:=c6n (p:=srS (Z9 T e.Pos)) (q:=srS (Z9 T e.Neg)) (a4E l0 (srS (Z9 T e.Pos)) (srS (Z9 T e.Neg))) rfl rfl (by omega) (by omega) ha.2
 have r6:=c6e (a4E l0 (srS (Z9 T e.Pos)) (srS (Z9 T e.Neg))) (by show l0.Pos.length<=1000; omega) (by show l0.Neg.length<=1000; omega) hmeet
 have r7:=c6m (T:=T) (a4E l0 (srS (Z9 T e.Pos)) (srS (Z9 T e.Neg))) (by show (l0.Pos++l0.Neg).length<=1000; rw [List.length_append]; omega) hmatch
 have r8:a05 (a4E l0 (srS (Z9 T e.Pos)) (srS (Z9 T e.Neg))).Names=some true:=by
  show a05 l0.Names=some true
  by_cases h2:s.Kind=2\/s.Kind=3
  ·obtain ⟨a,b,c,d⟩:=hZ.nam1 h2
   exact c3Q _ (by omega) a
  ·rw [hZ.nam0 (by omega) (by omega)]
   rfl
 rw [r1,r2,r3,r4,r5,r6,r7,r8]
 have kk:(a4E l0 (srS (Z9 T e.Pos)) (srS (Z9 T e.Neg))).Kind=s.Kind:=hZ.kind
 have ka:(a4E l0 (srS (Z9 T e.Pos)) (srS (Z9 T e.Neg))).Arity=s.Arity:=hZ.ar
 have kp:(a4E l0 (srS (Z9 T e.Pos)) (srS (Z9 T e.Neg))).Pos=l0.Pos:=rfl
 have kn:(a4E l0 (srS (Z9 T e.Pos)) (srS (Z9 T e.Neg))).Neg=l0.Neg:=rfl
 have ki:(a4E l0 (srS (Z9 T e.Pos)) (srS (Z9 T e.Neg))).Ints=l0.Ints:=rfl
 have km:(a4E l0 (srS (Z9 T e.Pos)) (srS (Z9 T e.Neg))).Names=l0.Names:=rfl
 rw [kk,ka,kp,kn,ki,km]
 rw [show decide (s.Kind<1)=false from decide_eq_false (by omega),show decide (9<s.Kind)=false from decide_eq_false (by omega)]
 simp only [cond_false,Option.bind_some,Bool.not_true,onEnd]
 have c1:(Option.bind (bif s.Kind != 6 then (some (s.Kind != 9):Option Bool) else some false) fun q20=>Option.bind (bif q20 then (some (s.Arity != 0):Option Bool) else some false) fun q21 =>
  Option.bind (bif q21 then (some true:Option Bool) else (Option.bind (bif decide (s.Kind<6) then (some (decide (0<wr .i64 ((l0.Pos.length:Int)+(l0.Neg.length:Int)))):Option Bool) else some false) fun q22=>some q22)) fun q23=>some q23)=some false:=by
  have h1:(s.Kind != 6&&s.Kind != 9&&s.Arity != 0)=false:=by
   rw [Bool.eq_false_iff]
   intro hh
   simp at hh
   omega
  have h2:(decide (s.Kind<6)&&decide (0<wr .i64 ((l0.Pos.length:Int)+(l0.Neg.length:Int))))=false:=by
   rw [Bool.eq_false_iff]
   intro hh
   rw [Bool.and_eq_true,decide_eq_true_eq,decide_eq_true_eq,a8n (by omega) (by omega)] at hh
   have h0:skK s.Kind=0:=by unfold skK; rw [if_neg (by omega),if_neg (by omega),if_neg (by omega),if_neg (by omega)]
   have p0:l0.Pos=[]:=by rw [hZ.pos,h0]; exact of0 hT he.pos _ _
   have n0:l0.Neg=[]:=by rw [hZ.neg,h0]; exact of0 hT he.neg _ _
   rw [p0,n0] at hh
   simp at hh
  revert h1 h2
  cases s.Kind != 6<;>cases s.Kind != 9<;>cases s.Arity != 0<;>cases decide (s.Kind<6)<;>cases decide (0<wr .i64 ((l0.Pos.length:Int)+(l0.Neg.length:Int)))<;>simp
 have c1':∀ (X:Option Bool),(Option.bind (bif s.Kind != 6 then (some (s.Kind != 9):Option Bool) else some false) fun q20=>Option.bind (bif q20 then (some (s.Arity != 0):Option Bool) else some false) fun q21 =>
  Option.bind (bif q21 then (some true:Option Bool) else (Option.bind (bif decide (s.Kind<6) then (some (decide (0<wr .i64 ((l0.Pos.length:Int)+(l0.Neg.length:Int)))):Option Bool) else some false) fun q22=>some q22)) fun q23=>bif q23 then some false else X)=X:=fun X=>by
  revert c1
  cases s.Kind != 6<;>cases s.Kind != 9<;>cases s.Arity != 0<;>cases decide (s.Kind<6)<;>cases decide (0<wr .i64 ((l0.Pos.length:Int)+(l0.Neg.length:Int)))<;>simp
 rw [c1',Z6 (by omega),Z6 (by omega)]
 simp only [Option.bind_some]
 have c2:(Option.bind (bif decide (0<(l0.Ints.length:Int)) then (Option.bind (a1P l0.Ints) fun r47=>some r47) else some false) fun q=>some q)=some (s.Kind==1)/\((s.Kind==1)||((l0.Ints.length:Int)==0))=true:=by
  by_cases h1:s.Kind=1
  ·obtain ⟨a,b,c,d⟩:=hZ.ints1 h1
   have hpos:0<l0.Ints.length:=List.length_pos_iff.2 b
   rw [show decide (0<(l0.Ints.length:Int))=true from decide_eq_true (by omega),c2O _ (by omega) a,h1]
   exact ⟨rfl,rfl⟩
  ·have h0:(s.Kind==1)=false:=by simp [h1]
   rw [hZ.ints0 h1,h0]
   exact ⟨rfl,rfl⟩
 have c3:(bif l0.Names.Cofinite then some true else some (decide (0<(l0.Names.List_.length:Int))))=some (s.Kind==2||s.Kind==3)/\((s.Kind==2||s.Kind==3)||((l0.Names.List_.length:Int)==0))=true:=by
  by_cases h2:s.Kind=2\/s.Kind=3
  ·obtain ⟨a,b,c,d⟩:=hZ.nam1 h2
   have e2:(s.Kind==2||s.Kind==3)=true:=by simpa using h2
   rw [e2]
   refine ⟨?_,rfl⟩
   rcases b with b | b
   ·rw [b]; rfl
   ·have hpos:0<l0.Names.List_.length:=List.length_pos_iff.2 b
    rw [show decide (0<(l0.Names.List_.length:Int))=true from decide_eq_true (by omega)]
    cases l0.Names.Cofinite<;>rfl
  ·have e2:(s.Kind==2||s.Kind==3)=false:=by simpa using h2
   rw [hZ.nam0 (by omega) (by omega),e2]
   exact ⟨rfl,rfl⟩
 obtain ⟨c2a,c2b⟩:=c2
 obtain ⟨c3a,c3b⟩:=c3
 rw [V2] at c2a
 rw [c2a]
 simp only [Option.bind_some,cond_true,V2]
 rw [c3a]
 simp only [Option.bind_some,beq_self_eq_true,cond_true]
 revert c2b c3b
 cases s.Kind==1<;>cases s.Kind==2<;>cases s.Kind==3<;>cases ((l0.Ints.length:Int)==0)<;>cases ((l0.Names.List_.length:Int)==0)<;>simp
end
theorem c1J (l m:List Int)(h1:l.length<=4194304)(h2:m.length<=4194304):∃ n,a0N n l m=some true:=by
 obtain ⟨c,hc⟩:=c9w
 obtain ⟨T,hT,hv⟩:=d0B l h1
 obtain ⟨q,u,e2,_,hG⟩:=d0E (L:=m) h2 hT (os0 _)
 have g1:=hG.pos
 have g2:=hG.neg
 obtain ⟨c2,out,hE,hL⟩:=c4N hT.gt (by have:=hT.len; omega) hT.root q hG.ix (by omega)
 refine ⟨max (max c c2) 200000000,?_⟩
 have ha:=hc (max (max c c2) 200000000) (by omega)
 obtain ⟨ls,e3,hZ⟩:=hL (max (max c c2) 200000000) (by omega)
 generalize hn:max (max c c2) 200000000=n at ha e3
 unfold a0N
 rw [c5o _ (by simp),ha]
 simp only [Option.bind_some]
 generalize (List.all [l,m] fun x=>!decide (80<(x.length:Int)))=s
 cases s with
 | false=>rfl
 | true =>
   obtain ⟨v,e1,hV⟩:=hv [] (by simp) n (by omega)
   simp only [Bool.not_true,cond_false,Option.bind_some]
   rw [e1]
   simp only [Option.bind_some]
   rw [e2]
   simp only [Option.bind_some]
   rw [e3]
   simp only [Option.bind_some]
   by_cases hlen:2000<(ls.length:Int)
   ·rw [decide_eq_true hlen]; rfl
   rw [decide_eq_false hlen]
   simp only [cond_false]
   have e:iter (a0V (T,v) ls) ((ls.length:Int).toNat+1) ((0:Nat):Int)=some (.inl ()):=by
    refine a8f 0 ls.length _ (fun i hi=>?_) ?_ _ (by rw [Int.toNat_natCast]; omega)
    ·have h0:0+i<ls.length:=by omega
     unfold a0V
     rw [Z3 h0,j5 (List.getElem?_eq_getElem h0),a0M (0+i) (by omega)]
     simp only [cond_true,Option.bind_some]
     obtain ⟨e,he,hM⟩:=hZ.src _ (List.getElem_mem h0)
     rw [c9P hT.gt (hE.ng e he) hM]
     rfl
    ·unfold a0V
     rw [show decide (((0+ls.length:Nat):Int)<(ls.length:Int))=false from decide_eq_false (by omega)]
     rfl
   have e':iter (a0V (T,v) ls) ((ls.length:Int).toNat+1) 0=some (.inl ()):=e
   rw [e']
   rfl
theorem b90 (l m:List Int):∃ n,a0N n l m=some true:=by
 by_cases h:l.length<=80/\m.length<=80
 ·exact c1J l m (by have:=h.1; omega) (by have:=h.2; omega)
 ·obtain ⟨c,hc⟩:=c9w
  refine ⟨c,?_⟩
  have ha:=hc c (Nat.le_refl _)
  have hs:(List.all [l,m] fun x:List Int=>!decide (80<(x.length:Int)))=false:=by
   rw [Bool.eq_false_iff]
   intro ha
   simp at ha
   omega
  unfold a0N
  rw [c5o _ (by simp),hs]
  simp only [Option.bind_some,Bool.not_false,cond_true,V2]
  exact ha
end Go.Pl
end
section
namespace Go.Proofs
open Go.Shelf
set_option maxRecDepth 100000
def Tryz.lay231_ren:Go.Shelf.Ren:=⟨fun | 6=>231 | 15=>140 | 14=>248 | 28=>194 | 29=>195 | 20=>262 | 21=>263 | 22=>264 | 23=>265 | 24=>266 | 25=>267 | 26=>268 | 27=>269 | 46=>272 | 47=>226 | 48=>227 | 49=>273 | 50=>274 | 57=>275 | n=>n,fun | 22=>49 | 24=>126 | 25=>237 | 3=>3 | 39=>165 | 0=>0 | 53=>204 | 55=>206 | 4=>4 | 46=>196 | 45=>195 | 50=>201 | 5=>5 | 9=>9 | 66=>230 | 70=>234 | 76=>245 | 77=>246 | n=>n,fun | n=>n⟩
theorem Tryz.lay231:Go.Proofs.SlLaysF0.n6 Tryz.prog Tryz.lay231_ren:={
 mixed:=by kernel_rfl
 f6:=⟨Tryz.f231.name,by decide,Tryz.func231.trans (congrArg some (by kernel_rfl))⟩
 f14:=⟨Tryz.f248.name,by decide,Tryz.func248.trans (congrArg some (by kernel_rfl))⟩
 f15:=Tryz.func140.trans (congrArg some (by kernel_rfl))
 f20:=⟨Tryz.f262.name,by decide,Tryz.func262.trans (congrArg some (by kernel_rfl))⟩
 f21:=⟨Tryz.f263.name,by decide,Tryz.func263.trans (congrArg some (by kernel_rfl))⟩
 f22:=⟨Tryz.f264.name,by decide,Tryz.func264.trans (congrArg some (by kernel_rfl))⟩
 f23:=⟨Tryz.f265.name,by decide,Tryz.func265.trans (congrArg some (by kernel_rfl))⟩
 f24:=⟨Tryz.f266.name,by decide,Tryz.func266.trans (congrArg some (by kernel_rfl))⟩
 f25:=⟨Tryz.f267.name,by decide,Tryz.func267.trans (congrArg some (by kernel_rfl))⟩
 f26:=⟨Tryz.f268.name,by decide,Tryz.func268.trans (congrArg some (by kernel_rfl))⟩
 f27:=⟨Tryz.f269.name,by decide,Tryz.func269.trans (congrArg some (by kernel_rfl))⟩
 f28:=Tryz.func194.trans (congrArg some (by kernel_rfl))
 f29:=Tryz.func195.trans (congrArg some (by kernel_rfl))
 f46:=⟨Tryz.f272.name,by decide,Tryz.func272.trans (congrArg some (by kernel_rfl))⟩
 f47:=Tryz.func226.trans (congrArg some (by kernel_rfl))
 f48:=Tryz.func227.trans (congrArg some (by kernel_rfl))
 f49:=⟨Tryz.f273.name,by decide,Tryz.func273.trans (congrArg some (by kernel_rfl))⟩
 f50:=⟨Tryz.f274.name,by decide,Tryz.func274.trans (congrArg some (by kernel_rfl))⟩
 f57:=⟨Tryz.f275.name,by decide,Tryz.func275.trans (congrArg some (by kernel_rfl))⟩
 t0:=Tryz.underlying0
 a0:=Tryz.isAgg0
 z0:=Tryz.sizeOf0
 v0:=Tryz.zeroValue0
 t3:=Tryz.underlying3
 a3:=Tryz.isAgg3
 z3:=Tryz.sizeOf3
 v3:=Tryz.zeroValue3
 t4:=Tryz.underlying4
 a4:=Tryz.isAgg4
 z4:=Tryz.sizeOf4
 v4:=Tryz.zeroValue4
 t5:=Tryz.underlying5
 a5:=Tryz.isAgg5
 z5:=Tryz.sizeOf5
 v5:=Tryz.zeroValue5
 t9:=Tryz.underlying9
 a9:=Tryz.isAgg9
 z9:=Tryz.sizeOf9
 v9:=Tryz.zeroValue9
 t22:=Tryz.underlying49
 a22:=Tryz.isAgg49
 z22:=Tryz.sizeOf49
 v22:=Tryz.zeroValue49
 t25:=Tryz.underlying237
 a25:=Tryz.isAgg237
 z25:=Tryz.sizeOf237
 v25:=Tryz.zeroValue237
 t39:=Tryz.underlying165
 a39:=Tryz.isAgg165
 z39:=Tryz.sizeOf165
 v39:=Tryz.zeroValue165
 t45:=Tryz.underlying195
 a45:=Tryz.isAgg195
 z45:=Tryz.sizeOf195
 v45:=Tryz.zeroValue195
 t46:=Tryz.underlying196
 a46:=Tryz.isAgg196
 z46:=Tryz.sizeOf196
 v46:=Tryz.zeroValue196
 t50:=Tryz.underlying201
 a50:=Tryz.isAgg201
 z50:=Tryz.sizeOf201
 v50:=Tryz.zeroValue201
 t53:=Tryz.underlying204
 a53:=Tryz.isAgg204
 z53:=Tryz.sizeOf204
 v53:=Tryz.zeroValue204
 t55:=Tryz.underlying206
 a55:=Tryz.isAgg206
 z55:=Tryz.sizeOf206
 v55:=Tryz.zeroValue206
 t66:=Tryz.underlying230
 a66:=Tryz.isAgg230
 z66:=Tryz.sizeOf230
 v66:=Tryz.zeroValue230
 t70:=Tryz.underlying234
 a70:=Tryz.isAgg234
 z70:=Tryz.sizeOf234
 v70:=Tryz.zeroValue234
 t76:=Tryz.underlying245
 a76:=Tryz.isAgg245
 z76:=Tryz.sizeOf245
 v76:=Tryz.zeroValue245
 t77:=Tryz.underlying246
 a77:=Tryz.isAgg246
 z77:=Tryz.sizeOf246
 v77:=Tryz.zeroValue246 }
def Tryz.lay137_ren:Go.Shelf.Ren:=⟨fun | 171=>137 | 243=>184 | 246=>224 | 283=>243 | 284=>244 | 285=>245 | 286=>246 | 129=>195 | 317=>258 | 318=>259 | 319=>260 | 320=>261 | 337=>270 | 338=>271 | n=>n,fun | 3=>3 | 9=>9 | 2=>2 | 4=>4 | 171=>241 | 0=>0 | 53=>206 | 37=>154 | 5=>5 | 173=>243 | 212=>256 | 51=>204 | 20=>20 | 213=>257 | 46=>165 | 232=>265 | 233=>266 | n=>n,fun | 17=>1 | 18=>2 | 19=>3 | n=>n⟩
theorem Tryz.lay137:Go.Proofs.Lays.n171 Tryz.prog Tryz.lay137_ren:={
 mixed:=by kernel_rfl
 f129:=Tryz.func195.trans (congrArg some (by kernel_rfl))
 f171:=Tryz.func137.trans (congrArg some (by kernel_rfl))
 f243:=Tryz.func184.trans (congrArg some (by kernel_rfl))
 f246:=Tryz.func224.trans (congrArg some (by kernel_rfl))
 f283:=Tryz.func243.trans (congrArg some (by kernel_rfl))
 f284:=Tryz.func244.trans (congrArg some (by kernel_rfl))
 f285:=Tryz.func245.trans (congrArg some (by kernel_rfl))
 f286:=Tryz.func246.trans (congrArg some (by kernel_rfl))
 f317:=Tryz.func258.trans (congrArg some (by kernel_rfl))
 f318:=Tryz.func259.trans (congrArg some (by kernel_rfl))
 f319:=Tryz.func260.trans (congrArg some (by kernel_rfl))
 f320:=Tryz.func261.trans (congrArg some (by kernel_rfl))
 f337:=Tryz.func270.trans (congrArg some (by kernel_rfl))
 f338:=Tryz.func271.trans (congrArg some (by kernel_rfl))
 t0:=Tryz.underlying0
 a0:=Tryz.isAgg0
 z0:=Tryz.sizeOf0
 v0:=Tryz.zeroValue0
 t2:=Tryz.underlying2
 a2:=Tryz.isAgg2
 z2:=Tryz.sizeOf2
 v2:=Tryz.zeroValue2
 t3:=Tryz.underlying3
 a3:=Tryz.isAgg3
 z3:=Tryz.sizeOf3
 v3:=Tryz.zeroValue3
 t4:=Tryz.underlying4
 a4:=Tryz.isAgg4
 z4:=Tryz.sizeOf4
 v4:=Tryz.zeroValue4
 t5:=Tryz.underlying5
 a5:=Tryz.isAgg5
 z5:=Tryz.sizeOf5
 v5:=Tryz.zeroValue5
 t9:=Tryz.underlying9
 a9:=Tryz.isAgg9
 z9:=Tryz.sizeOf9
 v9:=Tryz.zeroValue9
 t20:=Tryz.underlying20
 a20:=Tryz.isAgg20
 z20:=Tryz.sizeOf20
 v20:=Tryz.zeroValue20
 t37:=Tryz.underlying154
 a37:=Tryz.isAgg154
 z37:=Tryz.sizeOf154
 v37:=Tryz.zeroValue154
 t46:=Tryz.underlying165
 a46:=Tryz.isAgg165
 z46:=Tryz.sizeOf165
 v46:=Tryz.zeroValue165
 t51:=Tryz.underlying204
 a51:=Tryz.isAgg204
 z51:=Tryz.sizeOf204
 v51:=Tryz.zeroValue204
 t53:=Tryz.underlying206
 a53:=Tryz.isAgg206
 z53:=Tryz.sizeOf206
 v53:=Tryz.zeroValue206
 t171:=Tryz.underlying241
 a171:=Tryz.isAgg241
 z171:=Tryz.sizeOf241
 v171:=Tryz.zeroValue241
 t173:=Tryz.underlying243
 a173:=Tryz.isAgg243
 z173:=Tryz.sizeOf243
 v173:=Tryz.zeroValue243
 t212:=Tryz.underlying256
 a212:=Tryz.isAgg256
 z212:=Tryz.sizeOf256
 v212:=Tryz.zeroValue256
 t213:=Tryz.underlying257
 a213:=Tryz.isAgg257
 z213:=Tryz.sizeOf257
 t232:=Tryz.underlying265
 a232:=Tryz.isAgg265
 z232:=Tryz.sizeOf265
 v232:=Tryz.zeroValue265
 t233:=Tryz.underlying266
 a233:=Tryz.isAgg266
 z233:=Tryz.sizeOf266
 v233:=Tryz.zeroValue266
 g17:=by kernel_rfl
 g18:=by kernel_rfl
 g19:=by kernel_rfl }
def Tryz.lay114_ren:Go.Shelf.Ren:=⟨fun | 189=>114 | 125=>140 | 257=>164 | 128=>194 | 129=>195 | 294=>206 | 295=>207 | 296=>208 | 297=>209 | 298=>210 | 299=>211 | 216=>212 | 300=>213 | 301=>214 | 328=>235 | 329=>226 | 330=>227 | 331=>236 | 332=>237 | 215=>238 | 343=>251 | n=>n,fun | 28=>22 | 3=>3 | 46=>165 | 0=>0 | 51=>204 | 53=>206 | 4=>4 | 183=>196 | 182=>195 | 131=>201 | 5=>5 | 9=>9 | 218=>230 | 222=>234 | 228=>245 | 229=>246 | n=>n,fun | n=>n⟩
theorem Tryz.lay114:Go.Proofs.Lays.n189 Tryz.prog Tryz.lay114_ren:={
 mixed:=by kernel_rfl
 f125:=Tryz.func140.trans (congrArg some (by kernel_rfl))
 f128:=Tryz.func194.trans (congrArg some (by kernel_rfl))
 f129:=Tryz.func195.trans (congrArg some (by kernel_rfl))
 f189:=Tryz.func114.trans (congrArg some (by kernel_rfl))
 f215:=Tryz.func238.trans (congrArg some (by kernel_rfl))
 f216:=Tryz.func212.trans (congrArg some (by kernel_rfl))
 f257:=Tryz.func164.trans (congrArg some (by kernel_rfl))
 f294:=Tryz.func206.trans (congrArg some (by kernel_rfl))
 f295:=Tryz.func207.trans (congrArg some (by kernel_rfl))
 f296:=Tryz.func208.trans (congrArg some (by kernel_rfl))
 f297:=Tryz.func209.trans (congrArg some (by kernel_rfl))
 f298:=Tryz.func210.trans (congrArg some (by kernel_rfl))
 f299:=Tryz.func211.trans (congrArg some (by kernel_rfl))
 f300:=Tryz.func213.trans (congrArg some (by kernel_rfl))
 f301:=Tryz.func214.trans (congrArg some (by kernel_rfl))
 f328:=Tryz.func235.trans (congrArg some (by kernel_rfl))
 f329:=Tryz.func226.trans (congrArg some (by kernel_rfl))
 f330:=Tryz.func227.trans (congrArg some (by kernel_rfl))
 f331:=Tryz.func236.trans (congrArg some (by kernel_rfl))
 f332:=Tryz.func237.trans (congrArg some (by kernel_rfl))
 f343:=Tryz.func251.trans (congrArg some (by kernel_rfl))
 t0:=Tryz.underlying0
 a0:=Tryz.isAgg0
 z0:=Tryz.sizeOf0
 v0:=Tryz.zeroValue0
 t3:=Tryz.underlying3
 a3:=Tryz.isAgg3
 z3:=Tryz.sizeOf3
 v3:=Tryz.zeroValue3
 t4:=Tryz.underlying4
 a4:=Tryz.isAgg4
 z4:=Tryz.sizeOf4
 v4:=Tryz.zeroValue4
 t5:=Tryz.underlying5
 a5:=Tryz.isAgg5
 z5:=Tryz.sizeOf5
 v5:=Tryz.zeroValue5
 t9:=Tryz.underlying9
 a9:=Tryz.isAgg9
 z9:=Tryz.sizeOf9
 v9:=Tryz.zeroValue9
 t28:=Tryz.underlying22
 a28:=Tryz.isAgg22
 z28:=Tryz.sizeOf22
 v28:=Tryz.zeroValue22
 t46:=Tryz.underlying165
 a46:=Tryz.isAgg165
 z46:=Tryz.sizeOf165
 v46:=Tryz.zeroValue165
 t51:=Tryz.underlying204
 a51:=Tryz.isAgg204
 z51:=Tryz.sizeOf204
 v51:=Tryz.zeroValue204
 t53:=Tryz.underlying206
 a53:=Tryz.isAgg206
 z53:=Tryz.sizeOf206
 v53:=Tryz.zeroValue206
 t131:=Tryz.underlying201
 a131:=Tryz.isAgg201
 z131:=Tryz.sizeOf201
 v131:=Tryz.zeroValue201
 t182:=Tryz.underlying195
 a182:=Tryz.isAgg195
 z182:=Tryz.sizeOf195
 v182:=Tryz.zeroValue195
 t183:=Tryz.underlying196
 a183:=Tryz.isAgg196
 z183:=Tryz.sizeOf196
 v183:=Tryz.zeroValue196
 t218:=Tryz.underlying230
 a218:=Tryz.isAgg230
 z218:=Tryz.sizeOf230
 v218:=Tryz.zeroValue230
 t222:=Tryz.underlying234
 a222:=Tryz.isAgg234
 z222:=Tryz.sizeOf234
 v222:=Tryz.zeroValue234
 t228:=Tryz.underlying245
 a228:=Tryz.isAgg245
 z228:=Tryz.sizeOf245
 v228:=Tryz.zeroValue245
 t229:=Tryz.underlying246
 a229:=Tryz.isAgg246
 z229:=Tryz.sizeOf246
 v229:=Tryz.zeroValue246 }
def Tryz.lay76_ren:Go.Shelf.Ren:=⟨fun | 190=>76 | 125=>140 | 258=>139 | 128=>194 | 129=>195 | 302=>185 | 303=>186 | 304=>187 | 305=>188 | 306=>189 | 307=>190 | 308=>191 | 309=>192 | 310=>193 | 333=>225 | 329=>226 | 330=>227 | 334=>228 | 335=>229 | 336=>230 | 344=>247 | n=>n,fun | 31=>31 | 9=>9 | 3=>3 | 46=>165 | 0=>0 | 51=>204 | 53=>206 | 4=>4 | 183=>196 | 182=>195 | 131=>201 | 5=>5 | 218=>230 | 222=>234 | 228=>245 | 229=>246 | n=>n,fun | n=>n⟩
theorem Tryz.lay76:Go.Proofs.Lays.n190 Tryz.prog Tryz.lay76_ren:={
 mixed:=by kernel_rfl
 f125:=Tryz.func140.trans (congrArg some (by kernel_rfl))
 f128:=Tryz.func194.trans (congrArg some (by kernel_rfl))
 f129:=Tryz.func195.trans (congrArg some (by kernel_rfl))
 f190:=Tryz.func76.trans (congrArg some (by kernel_rfl))
 f258:=Tryz.func139.trans (congrArg some (by kernel_rfl))
 f302:=Tryz.func185.trans (congrArg some (by kernel_rfl))
 f303:=Tryz.func186.trans (congrArg some (by kernel_rfl))
 f304:=Tryz.func187.trans (congrArg some (by kernel_rfl))
 f305:=Tryz.func188.trans (congrArg some (by kernel_rfl))
 f306:=Tryz.func189.trans (congrArg some (by kernel_rfl))
 f307:=Tryz.func190.trans (congrArg some (by kernel_rfl))
 f308:=Tryz.func191.trans (congrArg some (by kernel_rfl))
 f309:=Tryz.func192.trans (congrArg some (by kernel_rfl))
 f310:=Tryz.func193.trans (congrArg some (by kernel_rfl))
 f329:=Tryz.func226.trans (congrArg some (by kernel_rfl))
 f330:=Tryz.func227.trans (congrArg some (by kernel_rfl))
 f333:=Tryz.func225.trans (congrArg some (by kernel_rfl))
 f334:=Tryz.func228.trans (congrArg some (by kernel_rfl))
 f335:=Tryz.func229.trans (congrArg some (by kernel_rfl))
 f336:=Tryz.func230.trans (congrArg some (by kernel_rfl))
 f344:=Tryz.func247.trans (congrArg some (by kernel_rfl))
 t0:=Tryz.underlying0
 a0:=Tryz.isAgg0
 z0:=Tryz.sizeOf0
 v0:=Tryz.zeroValue0
 t3:=Tryz.underlying3
 a3:=Tryz.isAgg3
 z3:=Tryz.sizeOf3
 v3:=Tryz.zeroValue3
 t4:=Tryz.underlying4
 a4:=Tryz.isAgg4
 z4:=Tryz.sizeOf4
 v4:=Tryz.zeroValue4
 t5:=Tryz.underlying5
 a5:=Tryz.isAgg5
 z5:=Tryz.sizeOf5
 v5:=Tryz.zeroValue5
 t9:=Tryz.underlying9
 a9:=Tryz.isAgg9
 z9:=Tryz.sizeOf9
 v9:=Tryz.zeroValue9
 t31:=Tryz.underlying31
 a31:=Tryz.isAgg31
 z31:=Tryz.sizeOf31
 v31:=Tryz.zeroValue31
 t46:=Tryz.underlying165
 a46:=Tryz.isAgg165
 z46:=Tryz.sizeOf165
 v46:=Tryz.zeroValue165
 t51:=Tryz.underlying204
 a51:=Tryz.isAgg204
 z51:=Tryz.sizeOf204
 v51:=Tryz.zeroValue204
 t53:=Tryz.underlying206
 a53:=Tryz.isAgg206
 z53:=Tryz.sizeOf206
 v53:=Tryz.zeroValue206
 t131:=Tryz.underlying201
 a131:=Tryz.isAgg201
 z131:=Tryz.sizeOf201
 v131:=Tryz.zeroValue201
 t182:=Tryz.underlying195
 a182:=Tryz.isAgg195
 z182:=Tryz.sizeOf195
 v182:=Tryz.zeroValue195
 t183:=Tryz.underlying196
 a183:=Tryz.isAgg196
 z183:=Tryz.sizeOf196
 v183:=Tryz.zeroValue196
 t218:=Tryz.underlying230
 a218:=Tryz.isAgg230
 z218:=Tryz.sizeOf230
 v218:=Tryz.zeroValue230
 t222:=Tryz.underlying234
 a222:=Tryz.isAgg234
 z222:=Tryz.sizeOf234
 v222:=Tryz.zeroValue234
 t228:=Tryz.underlying245
 a228:=Tryz.isAgg245
 z228:=Tryz.sizeOf245
 v228:=Tryz.zeroValue245
 t229:=Tryz.underlying246
 a229:=Tryz.isAgg246
 z229:=Tryz.sizeOf246
 v229:=Tryz.zeroValue246 }
end Go.Proofs
end
section
namespace Go.Qx
open Go Go.RowKit Go.Sx
set_option maxRecDepth 100000
abbrev b8K (v:Api_Field):Key×Int×Bool:=(v.Key_,v.Node,v.Optional)
abbrev c48 (x:Key×Int×Bool):Api_Field:=⟨x.1,x.2.1,x.2.2⟩
@[reducible] def a5W:Rp Api_Field:=a8m b8K (J6 (rpKey) (J6 (rpK .i64) (rpBool)))
abbrev b37 (v:Api_TypeNode):Int×Int×Int×ByteArray×(List Int)×(List Api_Field)×(Int×Int):=(v.Kind,v.Lo,v.Hi,v.Text,v.Kids,v.Fields,v.Rest)
abbrev c11 (x:Int×Int×Int×ByteArray×(List Int)×(List Api_Field)×(Int×Int)):Api_TypeNode:=⟨x.1,x.2.1,x.2.2.1,x.2.2.2.1,x.2.2.2.2.1,x.2.2.2.2.2.1,x.2.2.2.2.2.2⟩
@[reducible] def a3P:Rp Api_TypeNode:=a8m b37 (J6 (rpK .i64) (J6 (rpK .i64) (J6 (rpK .i64) (J6 (rpStr) (J6 (@rpList _ (rpK .i64)) (J6 (@rpList _ (a5W)) (J6 (rpK .i64) (rpK .i64))))))))
abbrev c0g (v:Api_Type):(List Api_TypeNode)×Int:=(v.Nodes,v.Root)
abbrev c6C (x:(List Api_TypeNode)×Int):Api_Type:=⟨x.1,x.2⟩
@[reducible] def b4p:Rp Api_Type:=a8m c0g (J6 (@rpList _ (a3P)) (rpK .i64))
abbrev c0b (v:Api_Goal):(List Int)×(List Int)×Bool:=(v.Pos,v.Neg,v.Lists)
abbrev c6v (x:(List Int)×(List Int)×Bool):Api_Goal:=⟨x.1,x.2.1,x.2.2⟩
@[reducible] def b4Z:Rp Api_Goal:=a8m c0b (J6 (@rpList _ (rpK .i64)) (J6 (@rpList _ (rpK .i64)) (rpBool)))
abbrev a8M (v:Semtypebase_Source):(List Int)×Int:=(v.L,v.At)
abbrev b6f (x:(List Int)×Int):Semtypebase_Source:=⟨x.1,x.2⟩
@[reducible] def a5Z:Rp Semtypebase_Source:=a8m a8M (J6 (@rpList _ (rpK .i64)) (rpK .i64))
abbrev b8I (v:Api_Names):Bool×(List ByteArray):=(v.Cofinite,v.List_)
abbrev c4x (x:Bool×(List ByteArray)):Api_Names:=⟨x.1,x.2⟩
@[reducible] def a4A:Rp Api_Names:=a8m b8I (J6 (rpBool) (@rpList _ (rpStr)))
abbrev b75 (v:Api_Range):Int×Int:=(v.Lo,v.Hi)
abbrev c45 (x:Int×Int):Api_Range:=⟨x.1,x.2⟩
@[reducible] def a5D:Rp Api_Range:=a8m b75 (J6 (rpK .i64) (rpK .i64))
abbrev c0l (v:Api_Line):Int×Int×(List Api_Range)×Api_Names×(List Int)×(List Int)×(List ByteArray)×(List ByteArray):=(v.Kind,v.Arity,v.Ints,v.Names,v.Pos,v.Neg,v.Vars,v.NotVars)
abbrev c6j (x:Int×Int×(List Api_Range)×Api_Names×(List Int)×(List Int)×(List ByteArray)×(List ByteArray)):Api_Line:=⟨x.1,x.2.1,x.2.2.1,x.2.2.2.1,x.2.2.2.2.1,x.2.2.2.2.2.1,x.2.2.2.2.2.2.1,x.2.2.2.2.2.2.2⟩
@[reducible] def b5a:Rp Api_Line:=a8m c0l (J6 (rpK .i64) (J6 (rpK .i64) (J6 (@rpList _ (a5D)) (J6 (a4A) (J6 (@rpList _ (rpK .i64)) (J6 (@rpList _ (rpK .i64)) (J6 (@rpList _ (rpStr)) (@rpList _ (rpStr)))))))))
abbrev b8S (v:Core_Sort):Int×Int:=(v.Kind,v.Arity)
abbrev c5y (x:Int×Int):Core_Sort:=⟨x.1,x.2⟩
@[reducible] def b2I:Rp Core_Sort:=a8m b8S (J6 (rpK .i64) (rpK .i64))
abbrev b8C (v:Core_pair):(List Int)×(List Int)×(List Int)×(List Int):=(v.pos,v.neg,v.finalPos,v.finalNeg)
abbrev c5U (x:(List Int)×(List Int)×(List Int)×(List Int)):Core_pair:=⟨x.1,x.2.1,x.2.2.1,x.2.2.2⟩
@[reducible] def b2V:Rp Core_pair:=a8m b8C (J6 (@rpList _ (rpK .i64)) (J6 (@rpList _ (rpK .i64)) (J6 (@rpList _ (rpK .i64)) (@rpList _ (rpK .i64)))))
abbrev b7x (v:Value_used):Bool×Bool×Bool×Bool×Bool:=(v.number,v.text_,v.kids,v.keys,v.entries)
abbrev c3W (x:Bool×Bool×Bool×Bool×Bool):Value_used:=⟨x.1,x.2.1,x.2.2.1,x.2.2.2.1,x.2.2.2.2⟩
@[reducible] def b1q:Rp Value_used:=a8m b7x (J6 (rpBool) (J6 (rpBool) (J6 (rpBool) (J6 (rpBool) (rpBool)))))
abbrev b0U (v:Literals_normal):Api_Names:=v.Names
abbrev b73 (x:Api_Names):Literals_normal:=⟨x⟩
@[reducible] def a7e:Rp Literals_normal:=a8m b0U (a4A)
def tyL:List TE:=[⟨2,Int,rpK .i64⟩,
 ⟨3,Int,rpK .i64⟩,
 ⟨4,Bool,rpBool⟩,
 ⟨9,ByteArray,rpStr⟩,
 ⟨22,List Int,@rpList _ (rpK .i64)⟩,
 ⟨25,List Api_TypeNode,@rpList _ (a3P)⟩,
 ⟨27,Api_Type,b4p⟩,
 ⟨28,List Val,@rpList _ (rpVal)⟩,
 ⟨29,List Key,@rpList _ (rpKey)⟩,
 ⟨30,List Ent,@rpList _ (rpEnt)⟩,
 ⟨31,List ByteArray,@rpList _ (rpStr)⟩,
 ⟨33,Val,rpVal⟩,
 ⟨37,Api_Goal,b4Z⟩,
 ⟨40,Semtypebase_Source,a5Z⟩,
 ⟨49,List Api_Range,@rpList _ (a5D)⟩,
 ⟨51,Api_Names,a4A⟩,
 ⟨53,Api_Line,b5a⟩,
 ⟨62,List Api_Field,@rpList _ (a5W)⟩,
 ⟨63,Int×Int,J6 (rpK .i64) (rpK .i64)⟩,
 ⟨65,Api_TypeNode,a3P⟩,
 ⟨82,Core_Sort,b2I⟩,
 ⟨97,Ent,rpEnt⟩,
 ⟨111,Core_pair,b2V⟩,
 ⟨126,Api_Range,a5D⟩,
 ⟨130,Key,rpKey⟩,
 ⟨148,Api_Field,a5W⟩,
 ⟨185,Value_used,b1q⟩,
 ⟨208,Literals_normal,a7e⟩]
abbrev I (E:TypeId):Type:=(c7P tyL E).α
instance rI (E:TypeId):Rp (I E):=(c7P tyL E).rp
def c6z:Fd I (I 27) inferInstance:=(a6s (rg:=b4p) (K6 (a2J 65:Fd I (List Api_TypeNode) (@rpList _ (a3P))) ((a4f .i64:Fd I Int (rpK .i64)))) c0g c6C (fun _=>rfl) (fun _ _ _=>Iff.rfl):Fd I Api_Type b4p)
def c8H:Fd I (I 33) inferInstance:=(a6s (rg:=rpVal) (K6 (a4f .i64:Fd I Int (rpK .i64)) (K6 (a4f .i64:Fd I Int (rpK .i64)) (K6 (c4n:Fd I ByteArray (rpStr)) (K6 (a2J 33:Fd I (List Val) (@rpList _ (rpVal))) (K6 (a2J 130:Fd I (List Key) (@rpList _ (rpKey))) (K6 (a2J 97:Fd I (List Ent) (@rpList _ (rpEnt))) ((a2J 9:Fd I (List ByteArray) (@rpList _ (rpStr)))))))))) Val.to Val.of (fun _=>rfl) Val.cells_to:Fd I Val rpVal)
def c6i:Fd I (I 37) inferInstance:=(a6s (rg:=b4Z) (K6 (a2J 3:Fd I (List Int) (@rpList _ (rpK .i64))) (K6 (a2J 3:Fd I (List Int) (@rpList _ (rpK .i64))) ((a79:Fd I Bool (rpBool))))) c0b c6v (fun _=>rfl) (fun _ _ _=>Iff.rfl):Fd I Api_Goal b4Z)
def b6i:Fd I (I 40) inferInstance:=(a6s (rg:=a5Z) (K6 (a2J 3:Fd I (List Int) (@rpList _ (rpK .i64))) ((a4f .i64:Fd I Int (rpK .i64)))) a8M b6f (fun _=>rfl) (fun _ _ _=>Iff.rfl):Fd I Semtypebase_Source a5Z)
def b3e:Fd I (I 51) inferInstance:=(a6s (rg:=a4A) (K6 (a79:Fd I Bool (rpBool)) ((a2J 9:Fd I (List ByteArray) (@rpList _ (rpStr))))) b8I c4x (fun _=>rfl) (fun _ _ _=>Iff.rfl):Fd I Api_Names a4A)
def c6u:Fd I (I 53) inferInstance:=(a6s (rg:=b5a) (K6 (a4f .i64:Fd I Int (rpK .i64)) (K6 (a4f .i64:Fd I Int (rpK .i64)) (K6 (a2J 126:Fd I (List Api_Range) (@rpList _ (a5D))) (K6 (c1v 51 b3e:Fd I Api_Names (a4A)) (K6 (a2J 3:Fd I (List Int) (@rpList _ (rpK .i64))) (K6 (a2J 3:Fd I (List Int) (@rpList _ (rpK .i64))) (K6 (a2J 9:Fd I (List ByteArray) (@rpList _ (rpStr))) ((a2J 9:Fd I (List ByteArray) (@rpList _ (rpStr))))))))))) c0l c6j (fun _=>rfl) (fun _ _ _=>Iff.rfl):Fd I Api_Line b5a)
def c85:Fd I (I 63) inferInstance:=(K6 (a4f .i64:Fd I Int (rpK .i64)) ((a4f .i64:Fd I Int (rpK .i64))):Fd I (Int×Int) (J6 (rpK .i64) (rpK .i64)))
def c1l:Fd I (I 65) inferInstance:=(a6s (rg:=a3P) (K6 (a4f .i64:Fd I Int (rpK .i64)) (K6 (a4f .i64:Fd I Int (rpK .i64)) (K6 (a4f .i64:Fd I Int (rpK .i64)) (K6 (c4n:Fd I ByteArray (rpStr)) (K6 (a2J 3:Fd I (List Int) (@rpList _ (rpK .i64))) (K6 (a2J 148:Fd I (List Api_Field) (@rpList _ (a5W))) ((c1v 63 c85:Fd I (Int×Int) (J6 (rpK .i64) (rpK .i64)))))))))) b37 c11 (fun _=>rfl) (fun _ _ _=>Iff.rfl):Fd I Api_TypeNode a3P)
def c53:Fd I (I 82) inferInstance:=(a6s (rg:=b2I) (K6 (a4f .i64:Fd I Int (rpK .i64)) ((a4f .i64:Fd I Int (rpK .i64)))) b8S c5y (fun _=>rfl) (fun _ _ _=>Iff.rfl):Fd I Core_Sort b2I)
def d3Z:Fd I (I 97) inferInstance:=(a6s (rg:=rpEnt) (K6 (a2J 33:Fd I (List Val) (@rpList _ (rpVal))) (K6 (a79:Fd I Bool (rpBool)) ((c1v 33 c8H:Fd I Val (rpVal))))) Ent.to Ent.of (fun _=>rfl) Ent.cells_to:Fd I Ent rpEnt)
def c5Z:Fd I (I 111) inferInstance:=(a6s (rg:=b2V) (K6 (a2J 3:Fd I (List Int) (@rpList _ (rpK .i64))) (K6 (a2J 3:Fd I (List Int) (@rpList _ (rpK .i64))) (K6 (a2J 3:Fd I (List Int) (@rpList _ (rpK .i64))) ((a2J 3:Fd I (List Int) (@rpList _ (rpK .i64))))))) b8C c5U (fun _=>rfl) (fun _ _ _=>Iff.rfl):Fd I Core_pair b2V)
def c5X:Fd I (I 126) inferInstance:=(a6s (rg:=a5D) (K6 (a4f .i64:Fd I Int (rpK .i64)) ((a4f .i64:Fd I Int (rpK .i64)))) b75 c45 (fun _=>rfl) (fun _ _ _=>Iff.rfl):Fd I Api_Range a5D)
def c8F:Fd I (I 130) inferInstance:=(a6s (rg:=rpKey) (K6 (a4f .i64:Fd I Int (rpK .i64)) ((c4n:Fd I ByteArray (rpStr)))) Key.to Key.of (fun _=>rfl) Key.cells_to:Fd I Key rpKey)
def c5c:Fd I (I 148) inferInstance:=(a6s (rg:=a5W) (K6 (c1v 130 c8F:Fd I Key (rpKey)) (K6 (a4f .i64:Fd I Int (rpK .i64)) ((a79:Fd I Bool (rpBool))))) b8K c48 (fun _=>rfl) (fun _ _ _=>Iff.rfl):Fd I Api_Field a5W)
def c39:Fd I (I 185) inferInstance:=(a6s (rg:=b1q) (K6 (a79:Fd I Bool (rpBool)) (K6 (a79:Fd I Bool (rpBool)) (K6 (a79:Fd I Bool (rpBool)) (K6 (a79:Fd I Bool (rpBool)) ((a79:Fd I Bool (rpBool))))))) b7x c3W (fun _=>rfl) (fun _ _ _=>Iff.rfl):Fd I Value_used b1q)
def b8q:Fd I (I 208) inferInstance:=(a6s (rg:=a7e) ((c1v 51 b3e:Fd I Api_Names (a4A))) b0U b73 (fun _=>rfl) (fun _ _ _=>Iff.rfl):Fd I Literals_normal a7e)
def feL:List (FE I):=[⟨2,a4f .i64⟩,
 ⟨3,a4f .i64⟩,
 ⟨4,a79⟩,
 ⟨9,c4n⟩,
 ⟨22,a2J 3⟩,
 ⟨25,a2J 65⟩,
 ⟨27,c6z⟩,
 ⟨28,a2J 33⟩,
 ⟨29,a2J 130⟩,
 ⟨30,a2J 97⟩,
 ⟨31,a2J 9⟩,
 ⟨33,c8H⟩,
 ⟨37,c6i⟩,
 ⟨40,b6i⟩,
 ⟨49,a2J 126⟩,
 ⟨51,b3e⟩,
 ⟨53,c6u⟩,
 ⟨62,a2J 148⟩,
 ⟨63,c85⟩,
 ⟨65,c1l⟩,
 ⟨82,c53⟩,
 ⟨97,d3Z⟩,
 ⟨111,c5Z⟩,
 ⟨126,c5X⟩,
 ⟨130,c8F⟩,
 ⟨148,c5c⟩,
 ⟨185,c39⟩,
 ⟨208,b8q⟩]
def d3Y:TabL I where
 sz:=[(27,2),(33,7),(37,3),(51,2),(53,9),(63,2),(65,8),(82,2),(97,9),(111,4),(126,2),(130,2),(148,4),(185,5),(208,2)]
 one:=[(2,()),(3,()),(4,()),(9,()),(22,()),(25,()),(28,()),(29,()),(30,()),(31,()),(49,()),(62,()),(106,())]
 fld:=[(27,[(0,25),(1,3)]),(33,[(0,3),(1,2),(2,9),(3,28),(4,29),(5,30),(6,31)]),(37,[(0,22),(1,22),(2,4)]),(40,[(0,22),(1,3)]),(51,[(0,4),(1,31)]),(53,[(0,3),(1,3),(2,49),(3,51),(5,22),(6,22),(7,31),(8,31)]),(65,[(0,3),(1,2),(2,2),(3,9),(4,22),(5,62),(6,63)]),(82,[(0,3),(1,3)]),(97,[(0,28),(1,4),(2,33)]),(111,[(0,22),(1,22),(2,22),(3,22)]),(126,[(0,2),(1,2)]),(130,[(0,3),(1,9)]),(148,[(0,130),(2,3),(3,4)]),(185,[(0,4),(1,4),(2,4),(3,4),(4,4)]),(208,[(0,51)])]
 el:=[(22,3),(25,65),(28,33),(29,130),(30,97),(31,9),(46,53),(49,126),(61,22),(62,148),(75,37),(79,82),(108,4),(112,111),(134,2)]
 str:=[(9,())]
 bool:=[(4,())]
 ik:=[(3,.i64),(165,.u64)]
 fe:=feL
 inf:=[(2,1,8,[.int .i64 0]),(3,1,8,[.int .i64 0]),(4,1,1,[.bool false]),(9,1,16,[.str ⟨#[]⟩]),(22,1,24,[.nl 3]),(25,1,24,[.nl 65]),(27,2,32,[.nl 65,.int .i64 0]),(28,1,24,[.nl 33]),(29,1,24,[.nl 130]),(31,1,24,[.nl 9]),(33,7,128,[.int .i64 0,.int .i64 0,.str ⟨#[]⟩,.nl 33,.nl 130,.nl 97,.nl 9]),(37,3,56,[.nl 3,.nl 3,.bool false]),(40,2,32,[.nl 3,.int .i64 0]),(49,1,24,[.nl 126]),(51,2,32,[.bool false,.nl 9]),(53,9,168,[.int .i64 0,.int .i64 0,.nl 126,.bool false,.nl 9,.nl 3,.nl 3,.nl 9,.nl 9]),(62,1,24,[.nl 148]),(63,2,16,[.int .i64 0,.int .i64 0]),(65,8,104,[.int .i64 0,.int .i64 0,.int .i64 0,.str ⟨#[]⟩,.nl 3,.nl 148,.int .i64 0,.int .i64 0]),(82,2,16,[.int .i64 0,.int .i64 0]),(97,9,160,[.nl 33,.bool false,.int .i64 0,.int .i64 0,.str ⟨#[]⟩,.nl 33,.nl 130,.nl 97,.nl 9]),(106,1,8,[.any]),(111,4,96,[.nl 3,.nl 3,.nl 3,.nl 3]),(126,2,16,[.int .i64 0,.int .i64 0]),(130,2,24,[.int .i64 0,.str ⟨#[]⟩]),(148,4,40,[.int .i64 0,.str ⟨#[]⟩,.int .i64 0,.bool false]),(185,5,5,[.bool false,.bool false,.bool false,.bool false,.bool false]),(208,2,32,[.bool false,.nl 9])]
 st:=[(27,[(0,1),(1,1)]),(33,[(0,1),(1,1),(2,1),(3,1),(4,1),(5,1),(6,1)]),(37,[(0,1),(1,1),(2,1)]),(40,[(0,1),(1,1)]),(51,[(0,1),(1,1)]),(53,[(0,1),(1,1),(2,1),(3,2),(5,1),(6,1),(7,1),(8,1)]),(63,[(0,1),(1,1)]),(65,[(0,1),(1,1),(2,1),(3,1),(4,1),(5,1),(6,2)]),(82,[(0,1),(1,1)]),(111,[(0,1),(1,1),(2,1),(3,1)]),(126,[(0,1),(1,1)]),(130,[(0,1),(1,1)]),(148,[(0,2),(2,1),(3,1)]),(185,[(0,1),(1,1),(2,1),(3,1),(4,1)]),(208,[(0,2)])]
 eq:=[(63,c58 feL 63 b5F),(130,c58 feL 130 a5Q)]
 arr:=[(63,3,2,1)]
 mp:=[(113,.bool)]
 fb:=[(66,()),(68,()),(79,()),(82,()),(129,()),(130,()),(143,()),(151,()),(171,()),(172,()),(174,()),(175,()),(177,()),(216,()),(219,()),(232,()),(241,())]
abbrev tb:Tab I:=d1q d3Y
theorem ti2:J9 Go.Proofs.Tryz.prog 2 (.int .i64 0) 1 8:=J3 (by kernel_rfl)
theorem ti3:J9 Go.Proofs.Tryz.prog 3 (.int .i64 0) 1 8:=J3 (by kernel_rfl)
theorem ti4:J9 Go.Proofs.Tryz.prog 4 (.bool false) 1 1:=J3 (by kernel_rfl)
theorem ti9:J9 Go.Proofs.Tryz.prog 9 (.string ⟨#[]⟩) 1 16:=J3 (by kernel_rfl)
theorem d21:J9 Go.Proofs.Tryz.prog 22 (.slice none 0 0) 1 24:=J3 (by kernel_rfl)
theorem d45:J9 Go.Proofs.Tryz.prog 25 (.slice none 0 0) 1 24:=J3 (by kernel_rfl)
theorem d5h:J9 Go.Proofs.Tryz.prog 27 (.agg #[.slice none 0 0,.int .i64 0]) 2 32:=J3 (by kernel_rfl)
theorem d5b:J9 Go.Proofs.Tryz.prog 28 (.slice none 0 0) 1 24:=J3 (by kernel_rfl)
theorem d4R:J9 Go.Proofs.Tryz.prog 29 (.slice none 0 0) 1 24:=J3 (by kernel_rfl)
theorem d44:J9 Go.Proofs.Tryz.prog 31 (.slice none 0 0) 1 24:=J3 (by kernel_rfl)
theorem d3b:J9 Go.Proofs.Tryz.prog 33 (.agg #[.int .i64 0,.int .i64 0,.string ⟨#[]⟩,.slice none 0 0,.slice none 0 0,.slice none 0 0,.slice none 0 0]) 7 128:=J3 (by kernel_rfl)
theorem d3r:J9 Go.Proofs.Tryz.prog 37 (.agg #[.slice none 0 0,.slice none 0 0,.bool false]) 3 56:=J3 (by kernel_rfl)
theorem d40:J9 Go.Proofs.Tryz.prog 40 (.agg #[.slice none 0 0,.int .i64 0]) 2 32:=J3 (by kernel_rfl)
theorem d4Q:J9 Go.Proofs.Tryz.prog 49 (.slice none 0 0) 1 24:=J3 (by kernel_rfl)
theorem d5a:J9 Go.Proofs.Tryz.prog 51 (.agg #[.bool false,.slice none 0 0]) 2 32:=J3 (by kernel_rfl)
theorem d3W:J9 Go.Proofs.Tryz.prog 53 (.agg #[.int .i64 0,.int .i64 0,.slice none 0 0,.bool false,.slice none 0 0,.slice none 0 0,.slice none 0 0,.slice none 0 0,.slice none 0 0]) 9 168:=J3 (by kernel_rfl)
theorem d4V:J9 Go.Proofs.Tryz.prog 62 (.slice none 0 0) 1 24:=J3 (by kernel_rfl)
theorem d48:J9 Go.Proofs.Tryz.prog 63 (.agg #[.int .i64 0,.int .i64 0]) 2 16:=J3 (by kernel_rfl)
theorem d31:J9 Go.Proofs.Tryz.prog 65 (.agg #[.int .i64 0,.int .i64 0,.int .i64 0,.string ⟨#[]⟩,.slice none 0 0,.slice none 0 0,.int .i64 0,.int .i64 0]) 8 104:=J3 (by kernel_rfl)
theorem d3t:J9 Go.Proofs.Tryz.prog 82 (.agg #[.int .i64 0,.int .i64 0]) 2 16:=J3 (by kernel_rfl)
theorem d3v:J9 Go.Proofs.Tryz.prog 97 (.agg #[.slice none 0 0,.bool false,.int .i64 0,.int .i64 0,.string ⟨#[]⟩,.slice none 0 0,.slice none 0 0,.slice none 0 0,.slice none 0 0]) 9 160:=J3 (by kernel_rfl)
theorem d4q:J9 Go.Proofs.Tryz.prog 106 (.nilFunc) 1 8:=J3 (by kernel_rfl)
theorem d1H:J9 Go.Proofs.Tryz.prog 111 (.agg #[.slice none 0 0,.slice none 0 0,.slice none 0 0,.slice none 0 0]) 4 96:=J3 (by kernel_rfl)
theorem d1K:J9 Go.Proofs.Tryz.prog 126 (.agg #[.int .i64 0,.int .i64 0]) 2 16:=J3 (by kernel_rfl)
theorem d1w:J9 Go.Proofs.Tryz.prog 130 (.agg #[.int .i64 0,.string ⟨#[]⟩]) 2 24:=J3 (by kernel_rfl)
theorem d12:J9 Go.Proofs.Tryz.prog 148 (.agg #[.int .i64 0,.string ⟨#[]⟩,.int .i64 0,.bool false]) 4 40:=J3 (by kernel_rfl)
theorem d4B:J9 Go.Proofs.Tryz.prog 185 (.agg #[.bool false,.bool false,.bool false,.bool false,.bool false]) 5 5:=J3 (by kernel_rfl)
theorem d4s:J9 Go.Proofs.Tryz.prog 208 (.agg #[.bool false,.slice none 0 0]) 2 32:=J3 (by kernel_rfl)
theorem to2:a2S Go.Proofs.Tryz.prog 2:=⟨_,Go.Proofs.Tryz.underlying2,rfl,by kernel_rfl⟩
theorem to3:a2S Go.Proofs.Tryz.prog 3:=⟨_,Go.Proofs.Tryz.underlying3,rfl,by kernel_rfl⟩
theorem to4:a2S Go.Proofs.Tryz.prog 4:=⟨_,Go.Proofs.Tryz.underlying4,rfl,by kernel_rfl⟩
theorem to9:a2S Go.Proofs.Tryz.prog 9:=⟨_,Go.Proofs.Tryz.underlying9,rfl,by kernel_rfl⟩
theorem d5i:a2S Go.Proofs.Tryz.prog 22:=⟨_,Go.Proofs.Tryz.underlying22,rfl,by kernel_rfl⟩
theorem d41:a2S Go.Proofs.Tryz.prog 25:=⟨_,Go.Proofs.Tryz.underlying25,rfl,by kernel_rfl⟩
theorem d5j:a2S Go.Proofs.Tryz.prog 28:=⟨_,Go.Proofs.Tryz.underlying28,rfl,by kernel_rfl⟩
theorem d5e:a2S Go.Proofs.Tryz.prog 29:=⟨_,Go.Proofs.Tryz.underlying29,rfl,by kernel_rfl⟩
theorem d4X:a2S Go.Proofs.Tryz.prog 30:=⟨_,Go.Proofs.Tryz.underlying30,rfl,by kernel_rfl⟩
theorem d49:a2S Go.Proofs.Tryz.prog 31:=⟨_,Go.Proofs.Tryz.underlying31,rfl,by kernel_rfl⟩
theorem d4P:a2S Go.Proofs.Tryz.prog 49:=⟨_,Go.Proofs.Tryz.underlying49,rfl,by kernel_rfl⟩
theorem d5c:a2S Go.Proofs.Tryz.prog 62:=⟨_,Go.Proofs.Tryz.underlying62,rfl,by kernel_rfl⟩
theorem d4m:a2S Go.Proofs.Tryz.prog 106:=⟨_,Go.Proofs.Tryz.underlying106,rfl,by kernel_rfl⟩
theorem d4Z {σ:S}{x y:Int×Int}{cs ds:List Value}(h:(rI 63).cells σ x cs)(k:(rI 63).cells σ y ds):Sx.EqAt Go.Proofs.Tryz.prog 2 63 (.agg cs.toArray) (.agg ds.toArray) (b5F x y):=by
 obtain ⟨_,_,rfl,rfl,rfl⟩:=h
 obtain ⟨_,_,rfl,rfl,rfl⟩:=k
 exact d0p Go.Proofs.Tryz.underlying63 ti3 (c3L (a6b to3 rfl) (a6b to3 rfl) (c0K Go.Proofs.Tryz.underlying3) (c3L (a6b to3 rfl) (a6b to3 rfl) (c0K Go.Proofs.Tryz.underlying3) c97))
theorem d4w {σ:S}{x y:Key}{cs ds:List Value}(h:(rI 130).cells σ x cs)(k:(rI 130).cells σ y ds):Sx.EqAt Go.Proofs.Tryz.prog 2 130 (.agg cs.toArray) (.agg ds.toArray) (a5Q x y):=by
 obtain ⟨_,_,rfl,rfl,rfl⟩:=h
 obtain ⟨_,_,rfl,rfl,rfl⟩:=k
 exact c6F Go.Proofs.Tryz.underlying130 (by kernel_rfl) (c3y (by decide) (a6b to3 rfl) (a6b to3 rfl) (c0K Go.Proofs.Tryz.underlying3) (c3y (by decide) (a6b to9 rfl) (a6b to9 rfl) (d0L Go.Proofs.Tryz.underlying9) d1h))
theorem eqT (T:TypeId)(g:I T->I T->Bool){K:Nat}(h:∀ {σ:S} {x y:I T} {cs ds:List Value},Rp.cells σ x cs->Rp.cells σ y ds->Sx.EqAt Go.Proofs.Tryz.prog K T (.agg cs.toArray) (.agg ds.toArray) (g x y))(hg:Go.Proofs.Tryz.prog.eqGuardType (Go.Proofs.Tryz.prog).depth T=false)(hK:Nat.ble K 10000=true)
 {X:Cxt} {c:Cx} {σ:S} {ls ms:List (PV I)} {r:Bool} {cs ds:List Value} (h1:c58 feL T g ls ms=some r) (h2:RG X c σ ls cs) (h3:RG X c σ ms ds) :
 Go.Proofs.Tryz.prog.eqGuardType (Go.Proofs.Tryz.prog).depth T=false/\∃ j,Nat.ble j 10000=true/\Sx.EqAt Go.Proofs.Tryz.prog j T (.agg cs.toArray) (.agg ds.toArray) r:=by
 obtain ⟨x,y,k1,k2,rfl⟩:=d2V h1 h2 h3
 exact ⟨hg,K,hK,h k1 k2⟩
theorem d20:TabLOk Go.Proofs.Tryz.prog d3Y where
 sz:=⟨⟨_,Go.Proofs.Tryz.underlying27,rfl,by kernel_rfl⟩,⟨⟨_,Go.Proofs.Tryz.underlying33,rfl,by kernel_rfl⟩,⟨⟨_,Go.Proofs.Tryz.underlying37,rfl,by kernel_rfl⟩,⟨⟨_,Go.Proofs.Tryz.underlying51,rfl,by kernel_rfl⟩,⟨⟨_,Go.Proofs.Tryz.underlying53,rfl,by kernel_rfl⟩,⟨⟨_,Go.Proofs.Tryz.underlying63,rfl,by kernel_rfl⟩,⟨⟨_,Go.Proofs.Tryz.underlying65,rfl,by kernel_rfl⟩,⟨⟨_,Go.Proofs.Tryz.underlying82,rfl,by kernel_rfl⟩,⟨⟨_,Go.Proofs.Tryz.underlying97,rfl,by kernel_rfl⟩,⟨⟨_,Go.Proofs.Tryz.underlying111,rfl,by kernel_rfl⟩,⟨⟨_,Go.Proofs.Tryz.underlying126,rfl,by kernel_rfl⟩,⟨⟨_,Go.Proofs.Tryz.underlying130,rfl,by kernel_rfl⟩,⟨⟨_,Go.Proofs.Tryz.underlying148,rfl,by kernel_rfl⟩,⟨⟨_,Go.Proofs.Tryz.underlying185,rfl,by kernel_rfl⟩,⟨⟨_,Go.Proofs.Tryz.underlying208,rfl,by kernel_rfl⟩,trivial⟩⟩⟩⟩⟩⟩⟩⟩⟩⟩⟩⟩⟩⟩⟩
 one:=⟨to2,⟨to3,⟨to4,⟨to9,⟨d5i,⟨d41,⟨d5j,⟨d5e,⟨d4X,⟨d49,⟨d4P,⟨d5c,⟨d4m,trivial⟩⟩⟩⟩⟩⟩⟩⟩⟩⟩⟩⟩⟩
 fld:=⟨⟨⟨_,_,Go.Proofs.Tryz.underlying27,rfl,rfl,by kernel_rfl⟩,⟨⟨_,_,Go.Proofs.Tryz.underlying27,rfl,rfl⟩,⟨⟨_,_,Go.Proofs.Tryz.underlying27,rfl,rfl,by kernel_rfl⟩,⟨⟨_,_,Go.Proofs.Tryz.underlying27,rfl,rfl⟩,trivial⟩⟩⟩⟩,⟨⟨⟨_,_,Go.Proofs.Tryz.underlying33,rfl,rfl,by kernel_rfl⟩,⟨⟨_,_,Go.Proofs.Tryz.underlying33,rfl,rfl⟩,⟨⟨_,_,Go.Proofs.Tryz.underlying33,rfl,rfl,by kernel_rfl⟩,⟨⟨_,_,Go.Proofs.Tryz.underlying33,rfl,rfl⟩,⟨⟨_,_,Go.Proofs.Tryz.underlying33,rfl,rfl,by kernel_rfl⟩,⟨⟨_,_,Go.Proofs.Tryz.underlying33,rfl,rfl⟩,⟨⟨_,_,Go.Proofs.Tryz.underlying33,rfl,rfl,by kernel_rfl⟩,⟨⟨_,_,Go.Proofs.Tryz.underlying33,rfl,rfl⟩,⟨⟨_,_,Go.Proofs.Tryz.underlying33,rfl,rfl,by kernel_rfl⟩,⟨⟨_,_,Go.Proofs.Tryz.underlying33,rfl,rfl⟩,⟨⟨_,_,Go.Proofs.Tryz.underlying33,rfl,rfl,by kernel_rfl⟩,⟨⟨_,_,Go.Proofs.Tryz.underlying33,rfl,rfl⟩,⟨⟨_,_,Go.Proofs.Tryz.underlying33,rfl,rfl,by kernel_rfl⟩,⟨⟨_,_,Go.Proofs.Tryz.underlying33,rfl,rfl⟩,trivial⟩⟩⟩⟩⟩⟩⟩⟩⟩⟩⟩⟩⟩⟩,⟨⟨⟨_,_,Go.Proofs.Tryz.underlying37,rfl,rfl,by kernel_rfl⟩,⟨⟨_,_,Go.Proofs.Tryz.underlying37,rfl,rfl⟩,⟨⟨_,_,Go.Proofs.Tryz.underlying37,rfl,rfl,by kernel_rfl⟩,⟨⟨_,_,Go.Proofs.Tryz.underlying37,rfl,rfl⟩,⟨⟨_,_,Go.Proofs.Tryz.underlying37,rfl,rfl,by kernel_rfl⟩,⟨⟨_,_,Go.Proofs.Tryz.underlying37,rfl,rfl⟩,trivial⟩⟩⟩⟩⟩⟩,⟨⟨⟨_,_,Go.Proofs.Tryz.underlying40,rfl,rfl,by kernel_rfl⟩,⟨⟨_,_,Go.Proofs.Tryz.underlying40,rfl,rfl⟩,⟨⟨_,_,Go.Proofs.Tryz.underlying40,rfl,rfl,by kernel_rfl⟩,⟨⟨_,_,Go.Proofs.Tryz.underlying40,rfl,rfl⟩,trivial⟩⟩⟩⟩,⟨⟨⟨_,_,Go.Proofs.Tryz.underlying51,rfl,rfl,by kernel_rfl⟩,⟨⟨_,_,Go.Proofs.Tryz.underlying51,rfl,rfl⟩,⟨⟨_,_,Go.Proofs.Tryz.underlying51,rfl,rfl,by kernel_rfl⟩,⟨⟨_,_,Go.Proofs.Tryz.underlying51,rfl,rfl⟩,trivial⟩⟩⟩⟩,⟨⟨⟨_,_,Go.Proofs.Tryz.underlying53,rfl,rfl,by kernel_rfl⟩,⟨⟨_,_,Go.Proofs.Tryz.underlying53,rfl,rfl⟩,⟨⟨_,_,Go.Proofs.Tryz.underlying53,rfl,rfl,by kernel_rfl⟩,⟨⟨_,_,Go.Proofs.Tryz.underlying53,rfl,rfl⟩,⟨⟨_,_,Go.Proofs.Tryz.underlying53,rfl,rfl,by kernel_rfl⟩,⟨⟨_,_,Go.Proofs.Tryz.underlying53,rfl,rfl⟩,⟨⟨_,_,Go.Proofs.Tryz.underlying53,rfl,rfl,by kernel_rfl⟩,⟨⟨_,_,Go.Proofs.Tryz.underlying53,rfl,rfl⟩,⟨⟨_,_,Go.Proofs.Tryz.underlying53,rfl,rfl,by kernel_rfl⟩,⟨⟨_,_,Go.Proofs.Tryz.underlying53,rfl,rfl⟩,⟨⟨_,_,Go.Proofs.Tryz.underlying53,rfl,rfl,by kernel_rfl⟩,⟨⟨_,_,Go.Proofs.Tryz.underlying53,rfl,rfl⟩,⟨⟨_,_,Go.Proofs.Tryz.underlying53,rfl,rfl,by kernel_rfl⟩,⟨⟨_,_,Go.Proofs.Tryz.underlying53,rfl,rfl⟩,⟨⟨_,_,Go.Proofs.Tryz.underlying53,rfl,rfl,by kernel_rfl⟩,⟨⟨_,_,Go.Proofs.Tryz.underlying53,rfl,rfl⟩,trivial⟩⟩⟩⟩⟩⟩⟩⟩⟩⟩⟩⟩⟩⟩⟩⟩,⟨⟨⟨_,_,Go.Proofs.Tryz.underlying65,rfl,rfl,by kernel_rfl⟩,⟨⟨_,_,Go.Proofs.Tryz.underlying65,rfl,rfl⟩,⟨⟨_,_,Go.Proofs.Tryz.underlying65,rfl,rfl,by kernel_rfl⟩,⟨⟨_,_,Go.Proofs.Tryz.underlying65,rfl,rfl⟩,⟨⟨_,_,Go.Proofs.Tryz.underlying65,rfl,rfl,by kernel_rfl⟩,⟨⟨_,_,Go.Proofs.Tryz.underlying65,rfl,rfl⟩,⟨⟨_,_,Go.Proofs.Tryz.underlying65,rfl,rfl,by kernel_rfl⟩,⟨⟨_,_,Go.Proofs.Tryz.underlying65,rfl,rfl⟩,⟨⟨_,_,Go.Proofs.Tryz.underlying65,rfl,rfl,by kernel_rfl⟩,⟨⟨_,_,Go.Proofs.Tryz.underlying65,rfl,rfl⟩,⟨⟨_,_,Go.Proofs.Tryz.underlying65,rfl,rfl,by kernel_rfl⟩,⟨⟨_,_,Go.Proofs.Tryz.underlying65,rfl,rfl⟩,⟨⟨_,_,Go.Proofs.Tryz.underlying65,rfl,rfl,by kernel_rfl⟩,⟨⟨_,_,Go.Proofs.Tryz.underlying65,rfl,rfl⟩,trivial⟩⟩⟩⟩⟩⟩⟩⟩⟩⟩⟩⟩⟩⟩,⟨⟨⟨_,_,Go.Proofs.Tryz.underlying82,rfl,rfl,by kernel_rfl⟩,⟨⟨_,_,Go.Proofs.Tryz.underlying82,rfl,rfl⟩,⟨⟨_,_,Go.Proofs.Tryz.underlying82,rfl,rfl,by kernel_rfl⟩,⟨⟨_,_,Go.Proofs.Tryz.underlying82,rfl,rfl⟩,trivial⟩⟩⟩⟩,⟨⟨⟨_,_,Go.Proofs.Tryz.underlying97,rfl,rfl,by kernel_rfl⟩,⟨⟨_,_,Go.Proofs.Tryz.underlying97,rfl,rfl⟩,⟨⟨_,_,Go.Proofs.Tryz.underlying97,rfl,rfl,by kernel_rfl⟩,⟨⟨_,_,Go.Proofs.Tryz.underlying97,rfl,rfl⟩,⟨⟨_,_,Go.Proofs.Tryz.underlying97,rfl,rfl,by kernel_rfl⟩,⟨⟨_,_,Go.Proofs.Tryz.underlying97,rfl,rfl⟩,trivial⟩⟩⟩⟩⟩⟩,⟨⟨⟨_,_,Go.Proofs.Tryz.underlying111,rfl,rfl,by kernel_rfl⟩,⟨⟨_,_,Go.Proofs.Tryz.underlying111,rfl,rfl⟩,⟨⟨_,_,Go.Proofs.Tryz.underlying111,rfl,rfl,by kernel_rfl⟩,⟨⟨_,_,Go.Proofs.Tryz.underlying111,rfl,rfl⟩,⟨⟨_,_,Go.Proofs.Tryz.underlying111,rfl,rfl,by kernel_rfl⟩,⟨⟨_,_,Go.Proofs.Tryz.underlying111,rfl,rfl⟩,⟨⟨_,_,Go.Proofs.Tryz.underlying111,rfl,rfl,by kernel_rfl⟩,⟨⟨_,_,Go.Proofs.Tryz.underlying111,rfl,rfl⟩,trivial⟩⟩⟩⟩⟩⟩⟩⟩,⟨⟨⟨_,_,Go.Proofs.Tryz.underlying126,rfl,rfl,by kernel_rfl⟩,⟨⟨_,_,Go.Proofs.Tryz.underlying126,rfl,rfl⟩,⟨⟨_,_,Go.Proofs.Tryz.underlying126,rfl,rfl,by kernel_rfl⟩,⟨⟨_,_,Go.Proofs.Tryz.underlying126,rfl,rfl⟩,trivial⟩⟩⟩⟩,⟨⟨⟨_,_,Go.Proofs.Tryz.underlying130,rfl,rfl,by kernel_rfl⟩,⟨⟨_,_,Go.Proofs.Tryz.underlying130,rfl,rfl⟩,⟨⟨_,_,Go.Proofs.Tryz.underlying130,rfl,rfl,by kernel_rfl⟩,⟨⟨_,_,Go.Proofs.Tryz.underlying130,rfl,rfl⟩,trivial⟩⟩⟩⟩,⟨⟨⟨_,_,Go.Proofs.Tryz.underlying148,rfl,rfl,by kernel_rfl⟩,⟨⟨_,_,Go.Proofs.Tryz.underlying148,rfl,rfl⟩,⟨⟨_,_,Go.Proofs.Tryz.underlying148,rfl,rfl,by kernel_rfl⟩,⟨⟨_,_,Go.Proofs.Tryz.underlying148,rfl,rfl⟩,⟨⟨_,_,Go.Proofs.Tryz.underlying148,rfl,rfl,by kernel_rfl⟩,⟨⟨_,_,Go.Proofs.Tryz.underlying148,rfl,rfl⟩,trivial⟩⟩⟩⟩⟩⟩,⟨⟨⟨_,_,Go.Proofs.Tryz.underlying185,rfl,rfl,by kernel_rfl⟩,⟨⟨_,_,Go.Proofs.Tryz.underlying185,rfl,rfl⟩,⟨⟨_,_,Go.Proofs.Tryz.underlying185,rfl,rfl,by kernel_rfl⟩,⟨⟨_,_,Go.Proofs.Tryz.underlying185,rfl,rfl⟩,⟨⟨_,_,Go.Proofs.Tryz.underlying185,rfl,rfl,by kernel_rfl⟩,⟨⟨_,_,Go.Proofs.Tryz.underlying185,rfl,rfl⟩,⟨⟨_,_,Go.Proofs.Tryz.underlying185,rfl,rfl,by kernel_rfl⟩,⟨⟨_,_,Go.Proofs.Tryz.underlying185,rfl,rfl⟩,⟨⟨_,_,Go.Proofs.Tryz.underlying185,rfl,rfl,by kernel_rfl⟩,⟨⟨_,_,Go.Proofs.Tryz.underlying185,rfl,rfl⟩,trivial⟩⟩⟩⟩⟩⟩⟩⟩⟩⟩,⟨⟨⟨_,_,Go.Proofs.Tryz.underlying208,rfl,rfl,by kernel_rfl⟩,⟨⟨_,_,Go.Proofs.Tryz.underlying208,rfl,rfl⟩,trivial⟩⟩,trivial⟩⟩⟩⟩⟩⟩⟩⟩⟩⟩⟩⟩⟩⟩⟩
 el:=⟨⟨Go.Proofs.Tryz.underlying22,_,_,ti3,rfl,by decide⟩,⟨⟨Go.Proofs.Tryz.underlying25,_,_,d31,rfl,by decide⟩,⟨⟨Go.Proofs.Tryz.underlying28,_,_,d3b,rfl,by decide⟩,⟨⟨Go.Proofs.Tryz.underlying29,_,_,d1w,rfl,by decide⟩,⟨⟨Go.Proofs.Tryz.underlying30,_,_,d3v,rfl,by decide⟩,⟨⟨Go.Proofs.Tryz.underlying31,_,_,ti9,rfl,by decide⟩,⟨⟨Go.Proofs.Tryz.underlying46,_,_,d3W,rfl,by decide⟩,⟨⟨Go.Proofs.Tryz.underlying49,_,_,d1K,rfl,by decide⟩,⟨⟨Go.Proofs.Tryz.underlying61,_,_,d21,rfl,by decide⟩,⟨⟨Go.Proofs.Tryz.underlying62,_,_,d12,rfl,by decide⟩,⟨⟨Go.Proofs.Tryz.underlying75,_,_,d3r,rfl,by decide⟩,⟨⟨Go.Proofs.Tryz.underlying79,_,_,d3t,rfl,by decide⟩,⟨⟨Go.Proofs.Tryz.underlying108,_,_,ti4,rfl,by decide⟩,⟨⟨Go.Proofs.Tryz.underlying112,_,_,d1H,rfl,by decide⟩,⟨⟨Go.Proofs.Tryz.underlying134,_,_,ti2,rfl,by decide⟩,trivial⟩⟩⟩⟩⟩⟩⟩⟩⟩⟩⟩⟩⟩⟩⟩
 str:=⟨Go.Proofs.Tryz.underlying9,trivial⟩
 bool:=⟨Go.Proofs.Tryz.underlying4,trivial⟩
 ik:=⟨Go.Proofs.Tryz.underlying3,⟨Go.Proofs.Tryz.underlying165,trivial⟩⟩
 inf:=⟨⟨_,ti2,fun X c σ=>RG.cns rfl a2A (RG.nl)⟩,⟨⟨_,ti3,fun X c σ=>RG.cns rfl a2A (RG.nl)⟩,⟨⟨_,ti4,fun X c σ=>RG.cns rfl a6C (RG.nl)⟩,⟨⟨_,ti9,fun X c σ=>RG.cns rfl b9p (RG.nl)⟩,⟨⟨_,d21,fun X c σ=>RG.cns rfl a1K (RG.nl)⟩,⟨⟨_,d45,fun X c σ=>RG.cns rfl a1K (RG.nl)⟩,⟨⟨_,d5h,fun X c σ=>RG.cns rfl a1K (RG.cns rfl a2A (RG.nl))⟩,⟨⟨_,d5b,fun X c σ=>RG.cns rfl a1K (RG.nl)⟩,⟨⟨_,d4R,fun X c σ=>RG.cns rfl a1K (RG.nl)⟩,⟨⟨_,d44,fun X c σ=>RG.cns rfl a1K (RG.nl)⟩,⟨⟨_,d3b,fun X c σ=>RG.cns rfl a2A (RG.cns rfl a2A (RG.cns rfl b9p (RG.cns rfl a1K (RG.cns rfl a1K (RG.cns rfl a1K (RG.cns rfl a1K (RG.nl)))))))⟩,⟨⟨_,d3r,fun X c σ=>RG.cns rfl a1K (RG.cns rfl a1K (RG.cns rfl a6C (RG.nl)))⟩,⟨⟨_,d40,fun X c σ=>RG.cns rfl a1K (RG.cns rfl a2A (RG.nl))⟩,⟨⟨_,d4Q,fun X c σ=>RG.cns rfl a1K (RG.nl)⟩,⟨⟨_,d5a,fun X c σ=>RG.cns rfl a6C (RG.cns rfl a1K (RG.nl))⟩,⟨⟨_,d3W,fun X c σ=>RG.cns rfl a2A (RG.cns rfl a2A (RG.cns rfl a1K (RG.cns rfl a6C (RG.cns rfl a1K (RG.cns rfl a1K (RG.cns rfl a1K (RG.cns rfl a1K (RG.cns rfl a1K (RG.nl)))))))))⟩,⟨⟨_,d4V,fun X c σ=>RG.cns rfl a1K (RG.nl)⟩,⟨⟨_,d48,fun X c σ=>RG.cns rfl a2A (RG.cns rfl a2A (RG.nl))⟩,⟨⟨_,d31,fun X c σ=>RG.cns rfl a2A (RG.cns rfl a2A (RG.cns rfl a2A (RG.cns rfl b9p (RG.cns rfl a1K (RG.cns rfl a1K (RG.cns rfl a2A (RG.cns rfl a2A (RG.nl))))))))⟩,⟨⟨_,d3t,fun X c σ=>RG.cns rfl a2A (RG.cns rfl a2A (RG.nl))⟩,⟨⟨_,d3v,fun X c σ=>RG.cns rfl a1K (RG.cns rfl a6C (RG.cns rfl a2A (RG.cns rfl a2A (RG.cns rfl b9p (RG.cns rfl a1K (RG.cns rfl a1K (RG.cns rfl a1K (RG.cns rfl a1K (RG.nl)))))))))⟩,⟨⟨_,d4q,fun X c σ=>RG.cns rfl d4t (RG.nl)⟩,⟨⟨_,d1H,fun X c σ=>RG.cns rfl a1K (RG.cns rfl a1K (RG.cns rfl a1K (RG.cns rfl a1K (RG.nl))))⟩,⟨⟨_,d1K,fun X c σ=>RG.cns rfl a2A (RG.cns rfl a2A (RG.nl))⟩,⟨⟨_,d1w,fun X c σ=>RG.cns rfl a2A (RG.cns rfl b9p (RG.nl))⟩,⟨⟨_,d12,fun X c σ=>RG.cns rfl a2A (RG.cns rfl b9p (RG.cns rfl a2A (RG.cns rfl a6C (RG.nl))))⟩,⟨⟨_,d4B,fun X c σ=>RG.cns rfl a6C (RG.cns rfl a6C (RG.cns rfl a6C (RG.cns rfl a6C (RG.cns rfl a6C (RG.nl)))))⟩,⟨⟨_,d4s,fun X c σ=>RG.cns rfl a6C (RG.cns rfl a1K (RG.nl))⟩,trivial⟩⟩⟩⟩⟩⟩⟩⟩⟩⟩⟩⟩⟩⟩⟩⟩⟩⟩⟩⟩⟩⟩⟩⟩⟩⟩⟩⟩
 st:=⟨.inl ⟨_,Go.Proofs.Tryz.underlying27,by kernel_rfl⟩,⟨.inl ⟨_,Go.Proofs.Tryz.underlying33,by kernel_rfl⟩,⟨.inl ⟨_,Go.Proofs.Tryz.underlying37,by kernel_rfl⟩,⟨.inl ⟨_,Go.Proofs.Tryz.underlying40,by kernel_rfl⟩,⟨.inl ⟨_,Go.Proofs.Tryz.underlying51,by kernel_rfl⟩,⟨.inl ⟨_,Go.Proofs.Tryz.underlying53,by kernel_rfl⟩,⟨.inr (d3j Go.Proofs.Tryz.underlying63 ti3 rfl),⟨.inl ⟨_,Go.Proofs.Tryz.underlying65,by kernel_rfl⟩,⟨.inl ⟨_,Go.Proofs.Tryz.underlying82,by kernel_rfl⟩,⟨.inl ⟨_,Go.Proofs.Tryz.underlying111,by kernel_rfl⟩,⟨.inl ⟨_,Go.Proofs.Tryz.underlying126,by kernel_rfl⟩,⟨.inl ⟨_,Go.Proofs.Tryz.underlying130,by kernel_rfl⟩,⟨.inl ⟨_,Go.Proofs.Tryz.underlying148,by kernel_rfl⟩,⟨.inl ⟨_,Go.Proofs.Tryz.underlying185,by kernel_rfl⟩,⟨.inl ⟨_,Go.Proofs.Tryz.underlying208,by kernel_rfl⟩,trivial⟩⟩⟩⟩⟩⟩⟩⟩⟩⟩⟩⟩⟩⟩⟩
 eq:=⟨fun X c σ ls ms r cs ds h1 h2 h3=>eqT 63 b5F (fun h k=>d4Z h k) (by kernel_rfl) (by decide) h1 h2 h3,⟨fun X c σ ls ms r cs ds h1 h2 h3=>eqT 130 a5Q (fun h k=>d4w h k) (by kernel_rfl) (by decide) h1 h2 h3,trivial⟩⟩
 arr:=⟨⟨Go.Proofs.Tryz.underlying63,by kernel_rfl⟩,trivial⟩
 mp:=⟨⟨_,_,_,_,_,Go.Proofs.Tryz.underlying113,Go.Proofs.Tryz.underlying9,ti4,fun x h σ=>by cases h; exact rfl⟩,trivial⟩
 fb:=⟨⟨_,_,Go.Proofs.Tryz.func66,rfl,by kernel_rfl⟩,⟨⟨_,_,Go.Proofs.Tryz.func68,rfl,by kernel_rfl⟩,⟨⟨_,_,Go.Proofs.Tryz.func79,rfl,by kernel_rfl⟩,⟨⟨_,_,Go.Proofs.Tryz.func82,rfl,by kernel_rfl⟩,⟨⟨_,_,Go.Proofs.Tryz.func129,rfl,by kernel_rfl⟩,⟨⟨_,_,Go.Proofs.Tryz.func130,rfl,by kernel_rfl⟩,⟨⟨_,_,Go.Proofs.Tryz.func143,rfl,by kernel_rfl⟩,⟨⟨_,_,Go.Proofs.Tryz.func151,rfl,by kernel_rfl⟩,⟨⟨_,_,Go.Proofs.Tryz.func171,rfl,by kernel_rfl⟩,⟨⟨_,_,Go.Proofs.Tryz.func172,rfl,by kernel_rfl⟩,⟨⟨_,_,Go.Proofs.Tryz.func174,rfl,by kernel_rfl⟩,⟨⟨_,_,Go.Proofs.Tryz.func175,rfl,by kernel_rfl⟩,⟨⟨_,_,Go.Proofs.Tryz.func177,rfl,by kernel_rfl⟩,⟨⟨_,_,Go.Proofs.Tryz.func216,rfl,by kernel_rfl⟩,⟨⟨_,_,Go.Proofs.Tryz.func219,rfl,by kernel_rfl⟩,⟨⟨_,_,Go.Proofs.Tryz.func232,rfl,by kernel_rfl⟩,⟨⟨_,_,Go.Proofs.Tryz.func241,rfl,by kernel_rfl⟩,trivial⟩⟩⟩⟩⟩⟩⟩⟩⟩⟩⟩⟩⟩⟩⟩⟩⟩
theorem b1R:TabOk Go.Proofs.Tryz.prog tb:=d0W d20
theorem mixed:(Go.Proofs.Tryz.prog).follows .mixedOrders=true:=by kernel_rfl
end Go.Qx
end
section
namespace Go.Qx
open Go Go.RowKit Go.Sx
structure Bw (B:Nat)(w w':World):Prop where
 below:Below B w w'
 drawn:w.drawn<=w'.drawn
theorem Bw.refl (B:Nat)(w:World):Bw B w w:=⟨Below.refl B w,Nat.le_refl _⟩
theorem Bw.trans {B:Nat}{a b c:World}(h:Bw B a b)(k:Bw B b c):Bw B a c:=⟨h.below.trans k.below,Nat.le_trans h.drawn k.drawn⟩
theorem Bw.setCells {B b:Nat}(hb:B<=b)(o:Nat)(vs:List Value)(w:World):Bw B w (w.setCells b o vs):=by
 obtain ⟨r1,r2,r3⟩:=b1n b vs o w
 exact ⟨⟨r1,r2,r3,Nat.le_of_eq (b1v b vs o w).symm,fun k hk=>a4u b vs o w k (by omega)⟩,Nat.le_of_eq (a91 b vs o w).symm⟩
section
variable {P:Program}{ops:Array Oper}{Q:Exit->Act->World->Prop}{n:Nat}{F:Fr}{rest:List Oper}{d:Option Nat}{ty:TypeId}{pos:String}{aft:Array Edge}{w:World}
theorem c0J {T T':TypeId}{x y:Operand}{b:Nat}{cs:List Value}(hb:w.heap[b]?=some (.cells cs.toArray T' (0,0)))(o:Nat)(v:Value)(hx:ev F x=.pointer (some ⟨b,o,none⟩))(hy:ev F y=v)
 (hkx:Q2 n x=true) (hky:Q2 n y=true) (hv:v.cells.toList=[v]) (hT:(P.info? T).map (·.size)=some 1) (h1:v.oneCell'=true) (hl:o<cs.length)
 (h:wpList P ops Q rest (fr n (K3 F d undef)) (w.setCells b o [v])) :
 wpList P ops Q (⟨d,.store T x y,ty,pos,aft,none⟩::rest) (fr n F) w:=by
 have hsz:v.cells.size=1:=by rw [<- Array.length_toList,hv]; rfl
 refine c5v rfl (w.setCells b o [v]) ?_ h
 show Sem.run P (do Instr.storeAt T ((fr n F).eval x) ((fr n F).eval y); pure Next.skip) w=_
 rw [Z1 hkx,Z1 hky,hx,hy]
 have hst:=run_storeCells_cells (P:=P) b o [v] 0 w (fun j hj=>by
  have hj0:j=0:=by simp at hj; omega
  subst hj0
  simp only [World.cell?,hb,Nat.add_zero]
  simp [List.getElem?_eq_getElem hl]) (fun j hj=>by simp [World.frozen?,hb]) (fun u hu=>by simp at hu; subst hu; exact h1)
 simp only [Nat.add_zero] at hst
 simp only [Instr.storeAt,Instr.sureAddr,storeVar,Sem.run_bind,Sem.run_pure,Result.andThen_ok,Go.Sx.run_sizeOf hT,hsz,ne_eq,not_true_eq_false,if_false,hv,hst]
theorem c3f {x y:Operand}{t u:TypeId}{a b v:Value}{w':World}(hx:ev F x=a)(hy:ev F y=b)(hkx:Q2 n x=true)(hky:Q2 n y=true)(hr:(Builtin.append_ #[t,u] ty #[a,b]).run P w=.ok v w')
 (h:wpList P ops Q rest (fr n (K3 F d v)) w'):wpList P ops Q (⟨d,.call ⟨.builtin .append,#[x,y],#[t,u]⟩,ty,pos,aft,none⟩::rest) (fr n F) w :=
 J5 rfl v w' (by
  simp [execOp,resolve,invoke,builtin,Z1 hkx,Z1 hky,hx,hy,hr]) h
theorem c1t {src dst:TypeId}{x:Operand}{a v:Value}(hx:ev F x=a)(hkx:Q2 n x=true)(hr:(convert src dst a).run P w=.ok v w)(h:wpList P ops Q rest (fr n (K3 F d v)) w) :
 wpList P ops Q (⟨d,.convert src dst x,ty,pos,aft,none⟩::rest) (fr n F) w:=c3I a v hx hkx hr h
theorem c0r {f:FuncId}{fn:Func}{c:Code}{vs:List Value}{R:Ending->World->Prop}(nt:Nat)(hf:P.funcs[f]?=some fn)(hb:fn.body=some c)(hn:fn.ntmps=nt)(hle:Nat.ble vs.length nt=true)
 (h:c.wp P (bodyPost P fn R) (fr nt (a85 vs)) w):Calls P f vs.toArray w R:=by
 refine calls_of_wp hf hb ?_
 have hle':=Nat.le_of_ble_eq_true hle
 have e:(⟨vs.toArray++Array.replicate (fn.ntmps-vs.toArray.size) undef,[]⟩:Act)=fr nt (a85 vs):=by
  rw [hn]
  simp only [fr]
  congr 1
  apply Array.ext
  ·simp; omega
  ·intro i h1 h2
   simp only [Array.getElem_ofFn,a85,Array.getElem_append]
   split
   ·rename_i hi; simp at hi; simp [List.getD,List.getElem?_eq_getElem hi]
   ·rename_i hi; simp at hi; simp [List.getD,List.getElem?_eq_none hi]
 rw [e]
 exact h
theorem d10 {fn:Func}{R:Ending->World->Prop}(hr:fn.results=#[])(h:R (.returned (.tuple #[])) w):bodyPost P fn R .normal (fr n F) w :=
 ⟨rfl,.tuple #[],by
  rw [b1H,hr]
  simp only [List.mapM_toArray,List.mapM_nil,Sem.run_bind,Sem.run_map,Result.andThen_ok,Sem.run_pure]
  rfl,h⟩
theorem d4a {fn:Func}{R:Ending->World->Prop}{t:Nat}(v:Value)(hr:fn.results=#[.tmp t])(ht:Nat.blt t n=true)(hv:F t=v)(h:R (.returned v) w):bodyPost P fn R .ret (fr n F) w :=
 ⟨rfl,v,by
  have e1:=b2N (P:=P) (w:=w) (r:=.tmp t) (v:=v) ⟨ht,hv⟩
  rw [b1H,hr]
  simp only [List.mapM_toArray,List.mapM_cons,List.mapM_nil,Sem.run_bind,Sem.run_map,e1,Result.andThen_ok,Sem.run_pure]
  rfl,h⟩
theorem d4k {fn:Func}{R:Ending->World->Prop}{t u:Nat}(v x:Value)(hr:fn.results=#[.tmp t,.tmp u])(ht:Nat.blt t n=true)(hu:Nat.blt u n=true)(hv:F t=v)(hx:F u=x)(h:R (.returned (.tuple #[v,x])) w):bodyPost P fn R .ret (fr n F) w :=
 ⟨rfl,.tuple #[v,x],by
  have e1:=b2N (P:=P) (w:=w) (r:=.tmp t) (v:=v) ⟨ht,hv⟩
  have e2:=b2N (P:=P) (w:=w) (r:=.tmp u) (v:=x) ⟨hu,hx⟩
  rw [b1H,hr]
  simp only [List.mapM_toArray,List.mapM_cons,List.mapM_nil,Sem.run_bind,Sem.run_map,e1,e2,Result.andThen_ok,Sem.run_pure]
  rfl,h⟩
theorem d1y {T E:TypeId}{x y:Operand}{p:Option Addr}(hT:P.underlying T=some (.pointer E)) :
 Z7 P w (do eqGuard .eql T x y (.pointer p) (.pointer none); binOp .eql T (.pointer p) (.pointer none)) (.bool p.isNone):=by
 have h:∀ d:Nat,(Op.equalIn (d+1) T (.pointer p) (.pointer none)).run P w=.ok p.isNone w:=fun d=>by
  cases p<;>simp [Op.equalIn,run_underlying hT]
 show Sem.run P (do eqGuard .eql T x y (.pointer p) (.pointer none); pure (Value.bool (<- Op.equalIn 10000 T (.pointer p) (.pointer none)))) w=_
 have hg:eqGuard .eql T x y (.pointer p) (.pointer none)=pure ():=rfl
 rw [hg]
 simp only [Sem.run_bind,Sem.run_pure,Result.andThen_ok,h 9999]
theorem d2J {T E:TypeId}{x y:Operand}{a:Addr}{j:TypeInfo}(hT:P.underlying T=some (.pointer E))(hj:P.info? E=some j) :
 Z7 P w (do eqGuard .neq T x y (.pointer (some a)) (.pointer (some a)); binOp .neq T (.pointer (some a)) (.pointer (some a))) (.bool false):=by
 have hg:eqGuard .neq T x y (.pointer (some a)) (.pointer (some a))=pure ():=rfl
 show Sem.run P (do eqGuard .neq T x y (.pointer (some a)) (.pointer (some a)); binOp .neq T (.pointer (some a)) (.pointer (some a))) w=_
 rw [hg]
 simp only [Sem.run_bind,Sem.run_pure,Result.andThen_ok]
 exact Lib.run_neq_ptr_same w a hT hj
theorem a8R {f:FuncId}{xs:List Operand}{ats:Array TypeId}(vs:List Value){R:Ending->World->Prop}(hvs:xs.map (ev F)=vs)(hk:xs.all (Q2 n)=true)(hb:a13 P f)(hc:Calls P f vs.toArray w R)
 (hR:∀ e w',R e w'->∃ v,e=.returned v/\wpList P ops Q rest (fr n (K3 F d v)) w') :
 wpList P ops Q (⟨d,.call ⟨.value (.func f),xs.toArray,ats⟩,ty,pos,aft,none⟩::rest) (fr n F) w:=by
 subst hvs
 refine b02 (σ:=⟨w,fun _=>(0,0)⟩) (E:=fun _=>True) (R:=fun v τ=>wpList P ops Q rest (fr n (K3 F d v)) τ.w) rfl (.inl ⟨hb,hc.mono fun e w' h=>?_⟩) (c0v hk w) (fun v τ _ h=>h)
 obtain ⟨v,e1,h2⟩:=hR e w' h
 exact ⟨v,⟨w',fun _=>(0,0)⟩,e1,rfl,trivial,h2⟩
theorem Bw.grown {B:Nat}{w w':World}{v:Value}(h:w.grownBy w' v.ownBlock)(hd:w.drawn<=w'.drawn)(hv:∀ g,v.ownBlock=some g->B<=g)(hB:B<=w.heap.size):Bw B w w' :=
 ⟨⟨h.os,h.tape,h.output,h.size,fun k hk=>h.block k (by omega) (fun e=>by have:=hv k e.symm; omega)⟩,hd⟩
theorem c1m {B:Nat}{T:TypeId}{s n:Nat}{v:Value}{xs:List Value}(h:w.ownsRow B T s v n xs):∀ g,v.ownBlock=some g->B<=g:=by
 intro g hg
 rcases h.2 with ⟨rfl,_⟩ | ⟨g',cap,cur,rfl,hb,_⟩
 ·cases hg
 ·cases hg; exact hb
theorem d0v {T E:TypeId}{i:TypeInfo}{z v:Value}{x:Operand}(hu:P.underlying T=some (.slice E))(hi:P.info? E=some i)(hz:i.zero=some z)(hs:i.size=1)(hzs:z.cells.size=1)(hx:ev F x=v)(hk:Q2 n x=true)(hv:v.cells.toList=[v])(hv2:v.cells.size=1)
 (h:wpList P ops Q rest (fr n (K3 F d (.slice (some ⟨w.heap.size,0,none⟩) 1 1))) (w.alloc (.cells #[v] E))) :
 wpList P ops Q (⟨d,.buildSlice T 1 #[(0,x)],ty,pos,aft,none⟩::rest) (fr n F) w:=by
 refine J5 rfl (.slice (some ⟨w.heap.size,0,none⟩) 1 1) (w.alloc (.cells #[v] E)) ?_ h
 have hfill:=c06 1 (Nat.zero_lt_one) [v] 0 (((Array.range 1).map (z.cells[·%z.cells.size]!)).toList) (by simp) (by simp [hv2])
 simp only [Nat.zero_mul,List.take_zero,List.nil_append,Array.toArray_toList] at hfill
 show Sem.run P (do pure (Next.value (<- Instr.buildSlice T 1 (#[(0,x)].map fun (i,x)=>(i,(fr n F).eval x))))) w=_
 have he:(#[((0:Nat),x)].map fun (i,x)=>(i,(fr n F).eval x))=#[(0,v)]:=by simp [Z1 hk,hx]
 rw [he]
 have hrun:(Instr.buildSlice T 1 #[(0,v)]).run P w=.ok (.slice (some ⟨w.heap.size,0,none⟩) 1 1) (w.alloc (.cells #[v] E)):=by
  unfold Instr.buildSlice
  simp only [List.zipIdx_cons,List.zipIdx_nil,List.map_cons,List.map_nil] at hfill
  rw [<- hs] at hfill
  simp only [Sem.run_bind,run_underlying hu,Result.andThen_ok,sizeOf,typeInfo,run_program,hi,Sem.run_pure,hs,Nat.one_mul,if_neg (show ¬ (1:Nat)>2^24 by decide),if_neg (show ¬ (1:Nat)=0 by decide),zeroValue,hz,newRow,run_newObj]
  rw [hs] at hfill
  simp only [hfill,Sem.run_pure,Result.andThen_ok,Sem.run_bind,run_newObj]
  simp [hv]
 rw [Sem.run_bind,hrun]
 rfl
end
end Go.Qx
end
section
namespace Go.Qx
open Go Go.RowKit Go.Sx
set_option maxHeartbeats 1600000
set_option maxRecDepth 100000
abbrev J8 (b:Nat):Value:=.pointer (some ⟨b,0,none⟩)
theorem c4I:b2s Go.Proofs.Tryz.prog 156 0 0:=⟨_,_,Go.Proofs.Tryz.underlying156,rfl,rfl,by kernel_rfl⟩
theorem c1O:b2s Go.Proofs.Tryz.prog 156 1 1:=⟨_,_,Go.Proofs.Tryz.underlying156,rfl,rfl,by kernel_rfl⟩
theorem c4D:a2S Go.Proofs.Tryz.prog 153:=⟨_,Go.Proofs.Tryz.underlying153,rfl,by kernel_rfl⟩
theorem c4T:a2S Go.Proofs.Tryz.prog 154:=⟨_,Go.Proofs.Tryz.underlying154,rfl,by kernel_rfl⟩
theorem d0t (x:Value)(w:World):(callFunc 223 [x].toArray).run Go.Proofs.Tryz.prog w=.ok (.value x) w:=by
 have hn:Extern.findNext Go.Proofs.Tryz.f223=none:=by kernel_rfl
 have he:Extern.find Go.Proofs.Tryz.f223=some Extern.AbiNoEscape.same:=by kernel_rfl
 rw [run_callFunc_extern Go.Proofs.Tryz.func223 (by kernel_rfl) (by kernel_rfl) hn he]
 rfl
theorem d1E {b B:Nat}{bs:List Value}{p:Value}{w:World}(hp:p=.pointer none\/p=J8 b)(h:Lib.BuilderAt 156 5 B b p bs w) :
 Calls Go.Proofs.Tryz.prog 183 [J8 b].toArray w fun e w'=>e=.returned (.tuple #[])/\Lib.BuilderAt 156 5 B b (J8 b) bs w'/\Bw B w w':=by
 obtain ⟨j,hj,hjs⟩:∃ j,Go.Proofs.Tryz.prog.info? 156=some j/\j.size=2:=Option.map_eq_some_iff.1 (by kernel_rfl)
 obtain ⟨hB,v,hb,hown,hne⟩:=h
 have c0:w.cell? ⟨b,0,none⟩=some p:=by simp [World.cell?,hb]
 refine c0r 20 Go.Proofs.Tryz.func183 rfl rfl rfl ?_
 refine wp_seq (wp_region_lit ?_)
 refine a1M (J8 b) rfl rfl ?_
 refine a3B ⟨b,0,none⟩ rfl rfl ?_
 refine a06 b 0 0 0 rfl rfl c4I rfl ?_
 refine a35 b 0 p rfl rfl (a3L c4D c0) ?_
 rcases hp with rfl | rfl
 ·refine a9j (.pointer none) (.pointer none) (.bool true) rfl rfl rfl rfl (d1y Go.Proofs.Tryz.underlying153) ?_
  refine wpList_nil (X9 ?_)
  refine b8k rfl rfl rfl (wp_region_lit ?_)
  refine a1M (J8 b) rfl rfl ?_
  refine a1M (J8 b) rfl rfl ?_
  have hsh:w.shape? b=some (156,2):=by simp [World.shape?,hb]
  refine c1t rfl rfl (Lib.run_to_unsafe (e:=156) (cells:=2) w ⟨b,0,none⟩ Go.Proofs.Tryz.underlying153 Go.Proofs.Tryz.underlying227 hj (by rw [hjs]; decide) hsh (Nat.zero_lt_succ 1)) ?_
  refine d17 [J8 b] (J8 b) rfl rfl (d0t _ w) ?_
  refine c1t rfl rfl (Lib.run_from_unsafe (e:=156) (cells:=2) w ⟨b,0,none⟩ Go.Proofs.Tryz.underlying227 Go.Proofs.Tryz.underlying153 hj hsh (by kernel_rfl)) ?_
  refine a3B ⟨b,0,none⟩ rfl rfl ?_
  refine a06 b 0 0 0 rfl rfl c4I rfl ?_
  refine c0J (cs:=[.pointer none,v]) hb 0 (J8 b) rfl rfl rfl rfl rfl (by kernel_rfl) rfl (Nat.zero_lt_succ 1) ?_
  refine wpList_nil (d10 rfl ⟨rfl,⟨hB,v,?_,?_,hne⟩,Bw.setCells hB 0 _ w⟩)
  ·have:=a6D b 156 [J8 b] 0 w [.pointer none,v] hb (Nat.le_succ 1)
   exact this
  ·obtain ⟨h1,h2⟩:=hown
   refine ⟨h1,h2.imp id fun ⟨g,cap,cur,e,hg,hh,r⟩=>⟨g,cap,cur,e,hg,?_,r⟩⟩
   rw [a4u b _ 0 w g (by rintro rfl; rw [e] at hne; exact hne rfl)]
   exact hh
 ·refine a9j (J8 b) (.pointer none) (.bool false) rfl rfl rfl rfl (d1y Go.Proofs.Tryz.underlying153) ?_
  refine wpList_nil (X9 ?_)
  refine b2r rfl rfl rfl (wp_seq (wp_region_lit ?_))
  refine a1M (J8 b) rfl rfl ?_
  refine a3B ⟨b,0,none⟩ rfl rfl ?_
  refine a06 b 0 0 0 rfl rfl c4I rfl ?_
  refine a35 b 0 (J8 b) rfl rfl (a3L c4D c0) ?_
  refine a1M (J8 b) rfl rfl ?_
  refine a9j (J8 b) (J8 b) (.bool false) rfl rfl rfl rfl (d2J Go.Proofs.Tryz.underlying153 hj) ?_
  refine wpList_nil (X9 ?_)
  refine b2r rfl rfl rfl (wp_skip (d10 rfl ⟨rfl,⟨hB,v,hb,hown,hne⟩,Bw.refl B w⟩))
theorem d11:a13 Go.Proofs.Tryz.prog 183:=⟨_,_,Go.Proofs.Tryz.func183,rfl,by kernel_rfl⟩
theorem c7D {b B:Nat}{bs:List Value}{w:World}(h:Lib.IsBuilder 156 5 B b bs w):∃ p,(p=.pointer none\/p=J8 b)/\Lib.BuilderAt 156 5 B b p bs w :=
 h.elim (fun h=>⟨_,.inl rfl,h⟩) (fun h=>⟨_,.inr rfl,h⟩)
theorem d3e {b B:Nat}{cs:List Value}{w w':World}{v v':Value}(hB:B<=b)(hb:w.heap[b]?=some (.cells #[J8 b,v] 156 (0,0)))(hne:v.ownBlock≠some b)(hg:w.grownBy w' v.ownBlock)(hown:w'.ownsRow B 5 1 v' cs.length cs)(hne':v'.ownBlock≠some b) :
 w'.heap[b]?=some (.cells #[J8 b,v] 156 (0,0))/\Lib.BuilderAt 156 5 B b (J8 b) cs (w'.setCells b 1 [v']):=by
 have hlt:b<w.heap.size:=(Array.getElem?_eq_some_iff.1 hb).1
 have h1:w'.heap[b]?=some (.cells #[J8 b,v] 156 (0,0)):=by rw [hg.block b hlt fun e=>hne e.symm]; exact hb
 refine ⟨h1,hB,v',?_,?_,hne'⟩
 ·exact a6D b 156 [v'] 1 w' [J8 b,v] h1 (Nat.le_refl 2)
 ·obtain ⟨a1,a2⟩:=hown
  refine ⟨a1,a2.imp id fun ⟨g,cap,cur,e,hg,hh,r⟩=>⟨g,cap,cur,e,hg,?_,r⟩⟩
  rw [a4u b _ 1 w' g (by rintro rfl; rw [e] at hne'; exact hne' rfl)]
  exact hh
theorem c9U {b B:Nat}{T:TypeId}{cs:List Value}{w w':World}{v v':Value}{n:Nat}(hlt:b<w.heap.size)(hb:w.heap[b]?=some (.cells #[J8 b,v] 156 (0,0)))(hne:v.ownBlock≠some b)(hg:w.grownBy w' v.ownBlock)(hown:w'.ownsRow B 5 1 v' n cs):v'.ownBlock≠some b:=by
 intro e
 rcases hown.2 with ⟨rfl,_⟩ | ⟨g,cap,cur,rfl,_,hh,_⟩
 ·cases e
 ·cases e
  rw [hg.block g hlt fun e=>hne e.symm,hb] at hh
  cases hh
theorem bws {b B:Nat}{bs:List Value}{s:ByteArray}{w:World}(h:Lib.IsBuilder 156 5 B b bs w)(hlen:bs.length+s.size<=1000000000)(hBw:B<=w.heap.size) :
 Calls Go.Proofs.Tryz.prog 136 [J8 b,.string s].toArray w fun e w'=>(∃ v,e=.returned v)/\Lib.BuilderAt 156 5 B b (J8 b) (bs++Lib.strCells s) w'/\Bw B w w':=by
 obtain ⟨p,hp,h⟩:=c7D h
 obtain ⟨i,hi,hz⟩:∃ i,Go.Proofs.Tryz.prog.info? 5=some i/\(i.zero,i.size,i.bytes)=(some (.int .u8 0),1,1):=Option.map_eq_some_iff.1 (by kernel_rfl)
 simp only [Prod.mk.injEq] at hz
 refine c0r 19 Go.Proofs.Tryz.func136 rfl rfl rfl ?_
 refine wp_seq (wp_region_lit ?_)
 refine a3m (.int .i64 0) rfl rfl ?_
 refine a3m .nilIface rfl rfl ?_
 refine wpList_nil (X9 (wp_seq (wp_region_lit ?_)))
 refine a1M (J8 b) rfl rfl ?_
 refine a8R [J8 b] rfl rfl d11 (d1E hp h) ?_
 rintro e w1 ⟨rfl,hat,hbw⟩
 refine ⟨_,rfl,?_⟩
 refine wpList_nil (X9 (wp_seq (wp_region_lit ?_)))
 obtain ⟨hB,v,hb,hown,hne⟩:=hat
 have c1:w1.cell? ⟨b,1,none⟩=some v:=by simp [World.cell?,hb]
 have hlt:b<w1.heap.size:=(Array.getElem?_eq_some_iff.1 hb).1
 refine a1M (J8 b) rfl rfl ?_
 refine a1M (J8 b) rfl rfl ?_
 refine a3B ⟨b,0,none⟩ rfl rfl ?_
 refine a06 b 0 1 1 rfl rfl c1O rfl ?_
 refine a35 b 1 v rfl rfl (a3L c4T c1) ?_
 refine a1M (.string s) rfl rfl ?_
 obtain ⟨v',w2,hr,hown',hg,_⟩:=Lib.run_append_own_string (P:=Go.Proofs.Tryz.prog) (w:=w1) B 154 9 154 5 i Go.Proofs.Tryz.underlying154 Go.Proofs.Tryz.underlying9 hi hz.1 hz.2.1 hz.2.2 v bs.length bs hown s (by unfold maxLen; omega) (by omega) (Nat.le_trans hBw hbw.below.size)
 refine c3f rfl rfl rfl rfl hr ?_
 have hd:=b3X _ hr
 have hl:bs.length+s.size=(bs++Lib.strCells s).length:=by rw [List.length_append,Lib.strCells_length]
 rw [hl] at hown'
 have hne':=c9U (T:=5) hlt hb hne hg hown'
 obtain ⟨hb2,hat2⟩:=d3e hB hb hne hg hown' hne'
 refine a3B ⟨b,0,none⟩ rfl rfl ?_
 refine a06 b 0 1 1 rfl rfl c1O rfl ?_
 have hv1:v'.cells.toList=[v']/\v'.oneCell'=true:=by
  rcases hown'.2 with ⟨rfl,_⟩ | ⟨g,cap,cur,rfl,_⟩
  ·exact ⟨rfl,rfl⟩
  ·exact ⟨rfl,rfl⟩
 refine c0J (cs:=[J8 b,v]) hb2 1 v' rfl rfl rfl rfl hv1.1 (by kernel_rfl) hv1.2 (Nat.lt_succ_self 1) ?_
 refine wpList_nil (X9 (wp_seq (wp_region_lit ?_)))
 refine a1M (.string s) rfl rfl ?_
 refine c4J s rfl rfl Go.Proofs.Tryz.underlying9 ?_
 refine a3m (.int .i64 (s.size:Int)) rfl rfl ?_
 refine a3m .nilIface rfl rfl ?_
 refine wpList_nil (X9 (wp_ret (d4k (.int .i64 (s.size:Int)) .nilIface rfl rfl rfl rfl rfl ⟨⟨_,rfl⟩,hat2,?_⟩)))
 exact hbw.trans ((Bw.grown hg hd (c1m hown) (Nat.le_trans hBw hbw.below.size)).trans (Bw.setCells hB 1 _ w2))
theorem bwb {b B:Nat}{bs:List Value}{c:Int}{w:World}(h:Lib.IsBuilder 156 5 B b bs w)(hlen:bs.length+1<=1000000000)(hBw:B<=w.heap.size) :
 Calls Go.Proofs.Tryz.prog 135 [J8 b,.int .u8 c].toArray w fun e w'=>(∃ v,e=.returned v)/\Lib.BuilderAt 156 5 B b (J8 b) (bs++[.int .u8 c]) w'/\Bw B w w':=by
 obtain ⟨p,hp,h⟩:=c7D h
 obtain ⟨i,hi,hz⟩:∃ i,Go.Proofs.Tryz.prog.info? 5=some i/\(i.zero,i.size,i.bytes)=(some (.int .u8 0),1,1):=Option.map_eq_some_iff.1 (by kernel_rfl)
 simp only [Prod.mk.injEq] at hz
 refine c0r 17 Go.Proofs.Tryz.func135 rfl rfl rfl ?_
 refine wp_seq (wp_region_lit ?_)
 refine a3m .nilIface rfl rfl ?_
 refine wpList_nil (X9 (wp_seq (wp_region_lit ?_)))
 refine a1M (J8 b) rfl rfl ?_
 refine a8R [J8 b] rfl rfl d11 (d1E hp h) ?_
 rintro e w1 ⟨rfl,hat,hbw⟩
 refine ⟨_,rfl,?_⟩
 refine wpList_nil (X9 (wp_seq (wp_region_lit ?_)))
 obtain ⟨hB,v,hb,hown,hne⟩:=hat
 have c1:w1.cell? ⟨b,1,none⟩=some v:=by simp [World.cell?,hb]
 have hlt:b<w1.heap.size:=(Array.getElem?_eq_some_iff.1 hb).1
 refine a1M (J8 b) rfl rfl ?_
 refine a1M (J8 b) rfl rfl ?_
 refine a3B ⟨b,0,none⟩ rfl rfl ?_
 refine a06 b 0 1 1 rfl rfl c1O rfl ?_
 refine a35 b 1 v rfl rfl (a3L c4T c1) ?_
 refine a1M (.int .u8 c) rfl rfl ?_
 refine d0v (v:=.int .u8 c) Go.Proofs.Tryz.underlying154 hi hz.1 hz.2.1 rfl rfl rfl rfl rfl ?_
 have hbw1:Bw B w1 (w1.alloc (.cells #[.int .u8 c] 5)):=⟨(Below.refl _ _).alloc (Nat.le_trans hBw hbw.below.size) _,Nat.le_refl _⟩
 have hb1:(w1.alloc (.cells #[.int .u8 c] 5)).heap[b]?=some (.cells #[J8 b,v] 156 (0,0)):=by rw [heap_alloc_old _ _ hlt]; exact hb
 have hown1:(w1.alloc (.cells #[.int .u8 c] 5)).ownsRow B 5 1 v bs.length bs:=by
  obtain ⟨a1,a2⟩:=hown
  refine ⟨a1,a2.imp id fun ⟨g,cap,cur,e,hg,hh,r⟩=>⟨g,cap,cur,e,hg,?_,r⟩⟩
  rw [heap_alloc_old _ _ (Array.getElem?_eq_some_iff.1 hh).1]
  exact hh
 have hlt1:b<(w1.alloc (.cells #[.int .u8 c] 5)).heap.size:=(Array.getElem?_eq_some_iff.1 hb1).1
 have hBw1:=Nat.le_trans (Nat.le_trans hBw hbw.below.size) hbw1.below.size
 obtain ⟨v',w2,hr,hown',hg,_⟩:=run_append_own (P:=Go.Proofs.Tryz.prog) (w:=w1.alloc (.cells #[.int .u8 c] 5)) B 154 154 5 i (.int .u8 0) 1 1 Go.Proofs.Tryz.underlying154 hi hz.1 hz.2.1 hz.2.2 rfl Nat.zero_lt_one v bs.length bs hown1 ⟨w1.heap.size,0,none⟩ 1 1 [.int .u8 c] rfl (fun j u hj=>by
  have hj0:j=0:=by
   rcases j with _ | j
   ·rfl
   ·simp at hj
  subst hj0
  simp at hj
  subst hj
  rw [show (Addr.add ⟨w1.heap.size,0,none⟩ 0:Addr)=⟨w1.heap.size,0,none⟩ from rfl,World.cell?,heap_alloc_new]
  rfl) (fun u hu=>by simp at hu; subst hu; rfl) (by unfold maxLen; omega) (by omega) hBw1
 refine c3f rfl rfl rfl rfl hr ?_
 have hd:=b3X _ hr
 rw [show bs.length+1=(bs++[Value.int .u8 c]).length by simp] at hown'
 have hne':=c9U (T:=5) hlt1 hb1 hne hg hown'
 obtain ⟨hb2,hat2⟩:=d3e hB hb1 hne hg hown' hne'
 refine a3B ⟨b,0,none⟩ rfl rfl ?_
 refine a06 b 0 1 1 rfl rfl c1O rfl ?_
 have hv1:v'.cells.toList=[v']/\v'.oneCell'=true:=by
  rcases hown'.2 with ⟨rfl,_⟩ | ⟨g,cap,cur,rfl,_⟩
  ·exact ⟨rfl,rfl⟩
  ·exact ⟨rfl,rfl⟩
 refine c0J (cs:=[J8 b,v]) hb2 1 v' rfl rfl rfl rfl hv1.1 (by kernel_rfl) hv1.2 (Nat.lt_succ_self 1) ?_
 refine wpList_nil (X9 (wp_seq (wp_region_lit ?_)))
 refine a3m .nilIface rfl rfl ?_
 refine wpList_nil (X9 (wp_ret (d4a .nilIface rfl rfl rfl ⟨⟨_,rfl⟩,hat2,?_⟩)))
 exact hbw.trans (hbw1.trans ((Bw.grown hg hd (c1m hown1) hBw1).trans (Bw.setCells hB 1 _ w2)))
end Go.Qx
end
section
namespace Go.Proofs
open Go.RowKit
set_option maxRecDepth 100000
set_option maxHeartbeats 4000000 in
theorem Tryz.bstr1 {b g cap:Nat}{cur:Array Value}{p:Value}{l:List UInt8}{w:World}(hb:w.heap[b]?=some (.cells #[p,.slice (some ⟨g,0,none⟩) l.length cap] 156 (0,0)))(hg:w.heap[g]?=some (.cells cur 5 (0,0)))
 (h0:l≠[]) (hnc:l.length<=cap) (hcs:cur.size=cap) (hcm:l.length<=1000000000) (hc:∀ (j:Nat) (x:UInt8),l[j]?=some x->cur[j]?=some (Value.int IntKind.u8 (x.toNat:Int))) :
 Calls Tryz.prog 138 #[.pointer (some ⟨b,0,none⟩)] w fun e w'=>e=.returned (.string ⟨l.toArray⟩)/\w'=w.drew.freeze ⟨g,0,none⟩ l.length:=by
 have hl0:l.length≠0:=by simpa using h0
 have hb':w.drew.heap[b]?=some (.cells #[p,.slice (some ⟨g,0,none⟩) l.length cap] 156 (0,0)):=hb
 have hg':w.drew.heap[g]?=some (.cells cur 5 (0,0)):=hg
 have c1:w.drew.cell? ⟨b,1,none⟩=some (.slice (some ⟨g,0,none⟩) l.length cap):=by simp [World.cell?,hb']
 have hSD:(Builtin.unsafeSliceData_ #[154] 193 #[.slice (some ⟨g,0,none⟩) l.length cap]).run Tryz.prog w.drew=.ok (.pointer (some ⟨g,0,none⟩)) w.drew :=
  Lib.run_unsafeSliceData_row _ _ _ _ _ _ (by omega)
 have hUS:(Builtin.unsafeString_ #[193,3] 9 #[.pointer (some ⟨g,0,none⟩),.int .i64 l.length]).run Tryz.prog w.drew=.ok (.string ⟨l.toArray⟩) (w.drew.freeze ⟨g,0,none⟩ l.length) :=
  Lib.run_unsafeString_row w.drew 193 3 9 5 Tryz.underlying193 (by kernel_rfl) g cur.size (by simp [World.shape?,hg']) l h0 (by omega) (by omega) (fun j x hx=>by
   have:=hc j x hx
   have e:((⟨g,0,none⟩:Addr).add j)=⟨g,j,none⟩:=by rcases j with _ | j<;>simp [Addr.add]
   rw [e]
   simp [World.cell?,hg',this])
 go_enter Tryz.func138,Tryz.ntmps138
 go_wp2
 go_region
 all_goals (go_wp2; go_ret; exact ⟨rfl,rfl⟩)
set_option maxHeartbeats 4000000 in
theorem Tryz.bstr0 {b:Nat}{p:Value}{w:World}(hb:w.heap[b]?=some (.cells #[p,.slice none 0 0] 156 (0,0))) :
 Calls Tryz.prog 138 #[.pointer (some ⟨b,0,none⟩)] w fun e w'=>e=.returned (.string ⟨#[]⟩)/\w'=w.drew:=by
 have hb':w.drew.heap[b]?=some (.cells #[p,.slice none 0 0] 156 (0,0)):=hb
 have c1:w.drew.cell? ⟨b,1,none⟩=some (.slice none 0 0):=by simp [World.cell?,hb']
 have hSD:(Builtin.unsafeSliceData_ #[154] 193 #[.slice none 0 0]).run Tryz.prog w.drew=.ok (.pointer none) w.drew:=Lib.run_unsafeSliceData_nil _ _ _ _ _
 have hUS:(Builtin.unsafeString_ #[193,3] 9 #[.pointer none,.int .i64 0]).run Tryz.prog w.drew=.ok (.string .empty) w.drew:=Lib.run_unsafeString_none _ _ _ _ _
 go_enter Tryz.func138,Tryz.ntmps138
 go_wp2
 go_region
 all_goals (go_wp2; go_ret; exact ⟨rfl,rfl⟩)
end Go.Proofs
end
section
namespace Go.Qx
open Go Go.RowKit Go.Sx
set_option maxHeartbeats 1600000
set_option maxRecDepth 100000
abbrev RK (r:Row I):Prop:=j6 Go.Proofs.Tryz.prog r
abbrev RO (r:Rio I):Prop:=b35 Go.Proofs.Tryz.prog r
def mkH (a:List (Nat×List (List Nat)))(b c:List (Nat×List Nat))(j:List (Nat×JH))(l:List (Nat×LH I))(k:List (Nat×KH I))(ns:List (Nat×NH I)):Hints I :=
 ⟨fun i=>(asc a i).getD [],fun i=>(asc b i).getD [],fun i=>(asc c i).getD [],asc j,asc l,asc k,asc ns⟩
def Y5:Hints I:=mkH [] [] [] [] [] [] []
structure En where
 ans:Ans I
 ok:EntOk Go.Proofs.Tryz.prog ans
def enL:List En->List (Ans I)
 | []=>[]
 | e::r=>e.ans::enL r
theorem c5g:∀ l:List En,c7X Go.Proofs.Tryz.prog (enL l)
 | []=>trivial
 | e::r=>⟨e.ok,c5g r⟩
def eR {r:Row I}(h:RK r):En:=⟨d30 tb r,d2P b1R h⟩
def eO {r:Rio I}(h:RO r):En:=⟨d3B tb r,d13 b1R h⟩
def eS {r:Row I}(T f j:Nat)(is:List Nat)(h:b0G Go.Proofs.Tryz.prog r (b9v T f j is)):En:=⟨d1N tb r (c24 T f j is),c5C b1R h (fun _ _ _ _ _ _ _ _ _ hO h hc hv=>c7u hO h hc hv)⟩
theorem okR {r:Row I}(l:List En){fn:Func}(nt:Nat)(H:Hints I)(rl:List ResultVar)(hf:(Go.Proofs.Tryz.prog).funcs[r.f]?=some fn)
 (h : (fn.body, fn.name == "runtime.NumGoroutine", fn.ntmps, fn.results.toList, Nat.ble r.ps.length nt, a4b H (c79 fn) 1, r.run) = (some (c79 fn), false, nt, rl, true, true, c0Q r.ps (d1Z tb (c1S (enL l) 3) H (c79 fn) nt r.ps r.rs rl))) : RK r := by
 simp only [Prod.mk.injEq] at h
 obtain ⟨h1,h2,h3,h4,h5,h6,h7⟩:=h
 exact d3J b1R (c08 (c5g l) 3) mixed nt hf h1 h2 h3 h4 h5 h6 h7
def d2v:Row I:=⟨252,[.d (.str),.d (.str)],[.k (.d (.int .i64))],c55⟩
theorem d3F:j6 Go.Proofs.Tryz.prog d2v:=d3w Go.Proofs.Tryz.func252 (by kernel_rfl) rfl (by kernel_rfl) (by kernel_rfl)
def d3Q:Row I:=⟨64,[.d (.sl 3)],[.k (.row 3 false)],a0n 8⟩
theorem c4b:j6 Go.Proofs.Tryz.prog d3Q:=a68 b1R mixed Go.Proofs.Tryz.func64 (by kernel_rfl) (by kernel_rfl) (by kernel_rfl) Go.Proofs.Tryz.underlying22 rfl (by kernel_rfl) (fun _=>by kernel_rfl)
def d19:Rio I:=⟨114,3,[],[],c20⟩
theorem d3g:b35 Go.Proofs.Tryz.prog d19:=c89 (I:=I) (E:=3) Go.Proofs.Tryz.lay114 114 (by kernel_rfl) (fun x=>x) Iff.rfl ⟨_,_,Go.Proofs.Tryz.func114,rfl,by kernel_rfl⟩
def d3P:Rio I:=⟨76,9,[],[],b2z⟩
theorem d1V:b35 Go.Proofs.Tryz.prog d3P:=c9H (I:=I) (E:=9) Go.Proofs.Tryz.lay76 76 (by kernel_rfl) (fun x=>x) Iff.rfl ⟨_,_,Go.Proofs.Tryz.func76,rfl,by kernel_rfl⟩
noncomputable def d2C:Rio I:=⟨231,126,[.fn [.dat 126,.dat 126] [.k (.d (.int .i64))]],[],b6v⟩
theorem d24:b35 Go.Proofs.Tryz.prog d2C:=c9k Go.Proofs.Tryz.lay231 231 (by kernel_rfl) (by kernel_rfl) Go.Proofs.Tryz.underlying126 (by kernel_rfl)
def d3E:Row I:=⟨42,[.d (.sl 9)],[.k (.row 9 false)],a0n 16⟩
theorem c7Q:j6 Go.Proofs.Tryz.prog d3E:=a68 b1R mixed Go.Proofs.Tryz.func42 (by kernel_rfl) (by kernel_rfl) (by kernel_rfl) Go.Proofs.Tryz.underlying31 rfl (by kernel_rfl) (fun _=>by kernel_rfl)
def d15:Row I:=⟨169,[.d (.sl 33)],[.k (.row 33 false)],a0n 128⟩
theorem d3x:j6 Go.Proofs.Tryz.prog d15:=a68 b1R mixed Go.Proofs.Tryz.func169 (by kernel_rfl) (by kernel_rfl) (by kernel_rfl) Go.Proofs.Tryz.underlying28 rfl (by kernel_rfl) (fun _=>by kernel_rfl)
def b7X:Hints I:=mkH [] [] [] [] [(26,⟨65532,[],[],[(3,.k (.d (.int .i64)))],[((.exit 0),[]),(.ret,[(2,.k (.d (.bool)))])],bnd tb (.len (.slot 0)) 1⟩)] [] []
def b5O:Row I:=⟨7,[.d (.sl 22)],[.k (.d (.bool))],a5C⟩
theorem b7u:RK (b5O) :=
 okR [] 16 b7X [.tmp 2] Go.Proofs.Tryz.func7 (by kernel_rfl)
def b6S:Hints I:=mkH [] [] [] [(29,⟨16776824,[],[],[(.normal,[(3,.k (.d (.bool))),(4,.k (.d (.bool))),(5,.k (.d (.bool))),(6,.k (.d (.bool)))])]⟩),
 (941,⟨26624,[],[],[(.normal,[(11,.k (.d (.bool)))])]⟩),
 (3773,⟨4096000,[],[],[(.normal,[(15,.k (.d (.bool)))])]⟩)] [] [] []
def b45:Row I:=⟨60,[.d (.dat 65)],[.k (.d (.bool))],a5f⟩
theorem b54:RK (b45) :=
 okR [] 67 b6S [.tmp 2] Go.Proofs.Tryz.func60 (by kernel_rfl)
def c2I:Hints I:=mkH [] [] [] [] [(58,⟨34351349952,[],[],[(7,.k (.d (.int .i64)))],[((.exit 0),[]),(.ret,[(6,.k (.d (.bool)))])],bnd tb (.len (.slot 0)) 1⟩)] [] []
def c07:Row I:=⟨170,[.d (.str),.fn [.int .u8] [.k (.d (.bool))],.fn [.int .u8] [.k (.d (.bool))]],[.k (.d (.bool))],a7o⟩
theorem b3T:RK (c07) :=
 okR [] 35 c2I [.tmp 6] Go.Proofs.Tryz.func170 (by kernel_rfl)
def b92:Row I:=⟨171,[.d (.int .u8)],[.k (.d (.bool))],a5b⟩
theorem a8x:RK (b92) :=
 okR [] 9 Y5 [.tmp 2] Go.Proofs.Tryz.func171 (by kernel_rfl)
def b9Y:Row I:=⟨173,[.d (.int .u8)],[.k (.d (.bool))],a6A⟩
theorem b2P:RK (b9Y) :=
 okR [] 9 Y5 [.tmp 2] Go.Proofs.Tryz.func173 (by kernel_rfl)
def b8U:Row I:=⟨172,[.d (.int .u8)],[.k (.d (.bool))],b0a⟩
theorem b91:RK (b8U) :=
 okR [eR a8x,eR b2P] 13 Y5 [.tmp 2] Go.Proofs.Tryz.func172 (by kernel_rfl)
def c04:Row I:=⟨119,[.d (.str)],[.k (.d (.bool))],a5E⟩
theorem a9i:RK (c04) :=
 okR [eR b3T,eR a8x,eR b91] 5 Y5 [.tmp 2] Go.Proofs.Tryz.func119 (by kernel_rfl)
def b99:Row I:=⟨174,[.d (.int .u8)],[.k (.d (.bool))],a6B⟩
theorem b2W:RK (b99) :=
 okR [] 9 Y5 [.tmp 2] Go.Proofs.Tryz.func174 (by kernel_rfl)
def b4r:Row I:=⟨175,[.d (.int .u8)],[.k (.d (.bool))],a7d⟩
theorem b5M:RK (b4r) :=
 okR [eR a8x,eR b2W,eR b2P] 17 Y5 [.tmp 2] Go.Proofs.Tryz.func175 (by kernel_rfl)
def b65:Row I:=⟨120,[.d (.str)],[.k (.d (.bool))],a3p⟩
theorem a9R:RK (b65) :=
 okR [eR b3T,eR b2W,eR b5M] 5 Y5 [.tmp 2] Go.Proofs.Tryz.func120 (by kernel_rfl)
def b8h:Row I:=⟨176,[.d (.dat 130)],[.k (.d (.bool))],a4v⟩
theorem b1E:RK (b8h) :=
 okR [eR a9i] 16 Y5 [.tmp 2] Go.Proofs.Tryz.func176 (by kernel_rfl)
def b96:Row I:=⟨238,[.d (.int .i64)],[.k (.d (.bool))],a8r⟩
theorem c09:RK (b96) :=
 okR [] 6 Y5 [.tmp 2] Go.Proofs.Tryz.func238 (by kernel_rfl)
def b7V:Row I:=⟨221,[.d (.int .i64),.d (.int .i64)],[.k (.d (.int .i64))],a0F⟩
theorem a2y:RK (b7V) :=
 okR [eR c09] 20 Y5 [.tmp 4] Go.Proofs.Tryz.func221 (by kernel_rfl)
def a7U:Row I:=⟨239,[.d (.str),.d (.str)],[.k (.d (.int .i64))],a2F⟩
theorem a75:RK (a7U) :=
 okR [eR d3F] 8 Y5 [.tmp 4] Go.Proofs.Tryz.func239 (by kernel_rfl)
def b7M:Row I:=⟨216,[.d (.str),.d (.str)],[.k (.d (.int .i64))],a0i⟩
theorem a64:RK (b7M) :=
 okR [eR a75] 8 Y5 [.tmp 4] Go.Proofs.Tryz.func216 (by kernel_rfl)
def b5X:Row I:=⟨177,[.d (.dat 130),.d (.dat 130)],[.k (.d (.int .i64))],X8⟩
theorem a6k:RK (b5X) :=
 okR [eR a2y,eR a64] 19 Y5 [.tmp 4] Go.Proofs.Tryz.func177 (by kernel_rfl)
def b4w:Hints I:=mkH [(4,[[],[0],[0,1],[0,1,2],[0,1,2,3],[0,1,2,3,4],[0,1,2,3,4,5],[0,1,2,3,4,5,6],[0,1,2,3,4,5,6,7],[0,1,2,3,4,5,6,7],[0,1,2,3,4,5,6,7,9],[0,1,2,3,4,5,6,7,8,9,10],[0,1,2,3,4,5,6,7,8,9,10,11],[0,1,2,3,4,5,6,7,8,9,10,11,12],[0,1,2,3,4,5,6,7],[0,1,2,3,4,5,6,7,14],[0,1,2,3,4,5,6,7,8,9,10,11,12,13,14,15],[0,1,2,3,4,5,6,7,8,9,10,11,12,13,14,15,16],[0,1,2,3,4,5,6,7,8,9,10,11,12,13,14,15,16,17],[0,1,2,3,4,5,6,7,8,9,10,11,12,13,14,15,16,17,18]])] [] [] [] [(26,⟨8589934492,[],[],[(7,.k (.d (.int .i64)))],[((.exit 0),[]),(.ret,[(2,.k (.d (.bool)))])],bnd tb (.slot 6) 1⟩)] [] []
def b3k:Row I:=⟨121,[.d (.sl 148)],[.k (.d (.bool))],a4i⟩
theorem b3O:RK (b3k) :=
 okR [eR b1E,eR a6k] 33 b4w [.tmp 2] Go.Proofs.Tryz.func121 (by kernel_rfl)
def b6L:Hints I:=mkH [] [] [] [(105,⟨16288,[],[],[(.normal,[(5,.k (.d (.bool)))])]⟩),
 (28311549,⟨368934881474191032320,[],[],[(.normal,[(66,.k (.d (.bool)))])]⟩)] [] [] []
def b4i:Row I:=⟨61,[.d (.dat 65)],[.k (.d (.bool))],a5m⟩
theorem b5A:RK (b4i) :=
 okR [eR a9i,eR a9R,eR b3O] 79 b6L [.tmp 2] Go.Proofs.Tryz.func61 (by kernel_rfl)
def c0M:Hints I:=mkH [] [] [] [] [(58,⟨4190248,[],[],[(3,.k (.row 3 false)),(12,.k (.d (.int .i64)))],[((.exit 0),[(3,.k (.row 3 false))])],bnd tb (.slot 11) 1⟩)] [] []
def b9h:Row I:=⟨62,[.d (.dat 65)],[.k (.row 3 false)],a7J⟩
theorem b9X:RK (b9h) :=
 okR [eR c4b] 35 c0M [.tmp 2] Go.Proofs.Tryz.func62 (by kernel_rfl)
def b4U:Row I:=⟨123,[.d (.int .i64)],[.k (.d (.bool))],a5p⟩
theorem b5s:RK (b4U) :=
 okR [] 13 Y5 [.tmp 2] Go.Proofs.Tryz.func123 (by kernel_rfl)
def b2F (_:Nat):Hints I:=mkH [] [] [] [] [(122,⟨140462610448544,[],[(1,.k (.row 3 false))],[(38,.k (.d (.int .i64)))],[((.exit 0),[]),(.ret,[(5,.k (.d (.bool)))])],bnd tb (.slot 37) 1⟩)] [] []
def a3V (n:Nat):Row I:=⟨122,[.d (.int .i64),.var 22 (.k (.row 3 false)) true,.var 27 (.k (.d (.dat 27))) false,.var 106 (.k (.d .any)) false],[.k (.d (.bool))],Q7 n⟩
theorem b1i (n:Nat)(h_typeexpr_contractive_1:b0G Go.Proofs.Tryz.prog (a3V n) (b9v 106 122 3 [1,2,3])):b0G Go.Proofs.Tryz.prog (a3V (n+1)) (b9v 106 122 3 [1,2,3]) :=
 d2r b1R (c08 (c5g [eR b5s,eS 106 122 3 [1,2,3] h_typeexpr_contractive_1]) 3) mixed 50 (s0:=fun a=>d1S 106 122 3 3 [1,2,3] (b47 tb 50 [.d (.int .i64),.var 22 (.k (.row 3 false)) true,.var 27 (.k (.d (.dat 27))) false,.var 106 (.k (.d .any)) false] a)) (fn:=Go.Proofs.Tryz.f122) (cd:=c79 Go.Proofs.Tryz.f122) (H:=(b2F n)) (rl:=[.tmp 5]) (fun X c σ a vs F h hv hC=>d1i rfl rfl rfl h hv hC) Go.Proofs.Tryz.func122 (by kernel_rfl) (by kernel_rfl) (by kernel_rfl) (by kernel_rfl) (by kernel_rfl) (by kernel_rfl) (by kernel_rfl)
theorem a6S:∀ n:Nat,b0G Go.Proofs.Tryz.prog (a3V n) (b9v 106 122 3 [1,2,3])
 | 0=>c8U (K5 (by kernel_rfl))
 | n+1=>b1i n (a6S n)
def b4g (_:Nat):Hints I:=mkH [] [] [] [] [(250,⟨4177956,[],[(3,.k (.row 3 false))],[(14,.k (.d (.int .i64)))],[((.exit 0),[]),(.ret,[(2,.k (.d (.bool)))])],bnd tb (.slot 13) 1⟩)] [] []
def b3g (n:Nat):Row I:=⟨63,[.d (.dat 27)],[.k (.d (.bool))],a4m n⟩
theorem b3K (n:Nat):RK (b3g n) :=
 okR [eS 106 122 3 [1,2,3] (a6S n)] 22 (b4g n) [.tmp 2] Go.Proofs.Tryz.func63 (by kernel_rfl)
def b6d (_:Nat):Hints I:=mkH [] [] [] [] [(58,⟨2251799811588180,[],[],[(21,.k (.d (.int .i64)))],[((.exit 0),[]),(.ret,[(2,.k (.d (.int .i64)))])],bnd tb (.slot 20) 1⟩),
 (29902,⟨1125831187365956,[34],[],[(36,.k (.d (.int .i64)))],[((.exit 2),[]),(.ret,[(2,.k (.d (.int .i64)))])],bnd tb (.slot 35) 1⟩)] [] []
def b3I (n:Nat):Row I:=⟨29,[.d (.dat 27)],[.k (.d (.int .i64))],a09 n⟩
theorem a8k (n:Nat):RK (b3I n) :=
 okR [eR b54,eR b5A,eR b9X,eR (b3K n)] 54 (b6d n) [.tmp 2] Go.Proofs.Tryz.func29 (by kernel_rfl)
def c3P:Hints I:=mkH [(1,[[],[0],[0,1],[],[3],[0,1,2,3,4],[0,1,2,3,4,5],[]])] [] [] [] [(26,⟨268419152,[12],[],[(14,.k (.d (.int .i64)))],[((.exit 0),[]),(.ret,[(4,.k (.d (.bool)))])],bnd tb (.slot 13) 1⟩)] [] []
def c2c:Row I:=⟨30,[.d (.dat 27),.d (.dat 37)],[.k (.d (.bool))],a71⟩
theorem b51:RK (c2c) :=
 okR [eR c4b] 28 c3P [.tmp 4] Go.Proofs.Tryz.func30 (by kernel_rfl)
def b2U:Hints I:=mkH [(6,[[],[],[0,1],[0,1,2],[],[],[5],[4,5,6],[4,5,6,7],[0,1,2,3,4,5,6,7,8]]),(11,[[],[],[0,1],[0,1,2],[],[],[5],[4,5,6],[4,5,6,7],[0,1,2,3,4,5,6,7,8]])] [] [] [] [(58,⟨1152921504606846012,[],[],[(0,.k (.row 3 false)),(3,.k (.d (.int .i64)))],[((.exit 0),[(0,.k (.row 3 false))]),(.ret,[(2,.k (.row 3 false))])],bnd tb (.len (.slot 0)) 1⟩)] [(59690,⟨18014397972611112,0,3,[(3,.k (.d (.int .i64))),(5,.k (.d (.int .i64)))],[((.exit 2),[(3,.k (.d (.int .i64)))])],bnd tb (.len (.slot 4)) 1⟩)] []
def b1c:Row I:=⟨116,[.row 3 false],[.k (.row 3 false)],a3y⟩
theorem b1I:RK (b1c) :=
 okR [] 61 b2U [.tmp 2] Go.Proofs.Tryz.func116 (by kernel_rfl)
def b3J:Row I:=⟨115,[.d (.sl 3)],[.k (.row 3 true)],a6Q⟩
theorem b4X:RK (b3J) :=
 okR [] 9 Y5 [.tmp 2] Go.Proofs.Tryz.func115 (by kernel_rfl)
def c1E:Row I:=⟨58,[.d (.sl 3)],[.k (.row 3 true)],a5q⟩
theorem b5D:RK (c1E) :=
 okR [eR c4b,eO d3g,eR b1I,eR b4X] 11 Y5 [.tmp 2] Go.Proofs.Tryz.func58 (by kernel_rfl)
def b9W:Hints I:=mkH [(1,[[],[0],[0,1],[],[3],[0,1,2,3,4],[],[6],[0,1,2,3,4,5,6,7],[],[9],[0,1,2,3,4,5,6,7,8,9,10],[0,1,2,3,4,5,6,7,8,9,10,11],[0,1,2,3,4,5,6,7,8,9,10,11,12]])] [] [] [] [] [] []
def b71:Row I:=⟨73,[.d (.dat 111)],[.lvs [.row 3 false,.row 3 false,.row 3 false,.row 3 false]],a5j⟩
theorem b0J:RK (b71) :=
 okR [eR c4b] 16 b9W [.cell 2 111] Go.Proofs.Tryz.func73 (by kernel_rfl)
def b7C:Hints I:=mkH [] [] [] [(29901,⟨4293918720,[],[(10,.lvs [.row 3 false,.row 3 false,.row 3 false,.row 3 false])],[(.normal,[])]⟩)] [(58,⟨137438946944,[],[],[(7,.k (.row 111 false)),(13,.k (.d (.int .i64)))],[((.exit 0),[(7,.k (.row 111 false))])],bnd tb (.slot 12) 1⟩)] [] []
def b6a:Row I:=⟨134,[.d (.dat 111),.d (.sl 3),.d (.bool)],[.k (.row 111 false)],a1W⟩
theorem b6l:RK (b6a) :=
 okR [eR b0J] 38 b7C [.tmp 6] Go.Proofs.Tryz.func134 (by kernel_rfl)
def b7z:Hints I:=mkH [(14,[[],[0],[],[2],[2,3],[2,3,4],[2,3,4,5],[0,1,2,3,4,5,6],[0,1,2,3,4,5,6,7],[0,1,2,3,4,5,6,7,8]]),(30,[[],[0],[],[2],[2,3],[2,3,4],[2,3,4,5],[0,1,2,3,4,5,6],[0,1,2,3,4,5,6,7],[0,1,2,3,4,5,6,7,8]])] [] [] [(509,⟨170141183455517471574545782616287608848,[],[(2,.lvs [.d (.sl 3),.d (.sl 3),.d (.sl 3),.d (.sl 3)])],[(.normal,[]),(.ret,[(4,.k (.row 111 false))])]⟩),
 (1757,⟨590295810341525782544,[],[(2,.lvs [.d (.sl 3),.d (.sl 3),.d (.sl 3),.d (.sl 3)])],[(.normal,[]),(.ret,[(4,.k (.row 111 false))])]⟩)] [] [] []
def b5Y:Row I:=⟨74,[.val (.lvs [.row 3 false,.row 3 false,.row 3 false,.row 3 false]),.d (.dat 27)],[.k (.row 111 false)],a38⟩
theorem b6w:RK (b5Y) :=
 okR [eR b6l] 129 b7z [.tmp 4] Go.Proofs.Tryz.func74 (by kernel_rfl)
def c3Y:Hints I:=mkH [(1,[[],[0],[0,1],[],[3],[0,1,2,3,4],[],[6],[0,1,2,3,4,5,6,7],[0,1,2,3,4,5,6,7,8]])] [] [] [] [] [] []
def c2d:Row I:=⟨27,[.d (.dat 37)],[.k (.d (.dat 37))],a6L⟩
theorem a97:RK (c2d) :=
 okR [eR b5D] 12 c3Y [.cell 2 37] Go.Proofs.Tryz.func27 (by kernel_rfl)
def c83:Row I:=⟨75,[.d (.dat 37)],[.k (.d (.str))],b2u⟩
def b1Z (c:UInt8)(xs:List Int)(q:Nat×List UInt8):Option (Fl (Nat×List UInt8) (List UInt8)):=match xs[q.1]? with
 | some n=>(a8S c q.2 n).map fun b=>.next (q.1+1,b)
 | none=>some (.done q.2)
theorem b6C {c:UInt8}{xs:List Int}:∀ (m i:Nat) {b r:List UInt8},xs.length-i=m->i<=xs.length->a7n c (xs.drop i) b=some r->iter (b1Z c xs) (m+1) (i,b)=some r
 | 0,i,b,r,hm,hi,h=>by
   have e:i=xs.length:=by omega
   subst e
   rw [List.drop_length] at h
   cases h
   simp [iter,b1Z]
 | m+1,i,b,r,hm,hi,h=>by
   have hlt:i<xs.length:=by omega
   rw [List.drop_eq_getElem_cons hlt] at h
   obtain ⟨b',h1,h2⟩:=bind_some h
   have:=b6C m (i+1) (by omega) (by omega) h2
   simp only [iter,b1Z,List.getElem?_eq_getElem hlt,h1,Option.map_some]
   exact this
theorem d3T {P:Program}{w:World}{T:TypeId}{x y:Operand}{s t:ByteArray}(h:s.size+t.size<=1000000) :
 Z7 P w (do eqGuard .add T x y (.string s) (.string t); binOp .add T (.string s) (.string t)) (.string (s++t)):=by
 simp [Z7,eqGuard_at_string,binOp,Op.stringOp]
 omega
theorem d4i:a13 Go.Proofs.Tryz.prog 135:=⟨_,_,Go.Proofs.Tryz.func135,rfl,by kernel_rfl⟩
theorem d1R:a13 Go.Proofs.Tryz.prog 136:=⟨_,_,Go.Proofs.Tryz.func136,rfl,by kernel_rfl⟩
theorem d1Y:a13 Go.Proofs.Tryz.prog 137:=⟨_,_,Go.Proofs.Tryz.func137,rfl,by kernel_rfl⟩
theorem d4y:a13 Go.Proofs.Tryz.prog 138:=⟨_,_,Go.Proofs.Tryz.func138,rfl,by kernel_rfl⟩
theorem c6V {n:Nat}(h:n<100)(w:World):Calls Go.Proofs.Tryz.prog 137 [Value.int .i64 (n:Int)].toArray w fun e w'=>e=.returned (.string ⟨(a3K n).toArray⟩)/\w'=w:=by
 have:=Go.Proofs.Any.strconv_Itoa_small Go.Proofs.Tryz.lay137 n h w
 rw [<- c9N h] at this
 exact this
def b9M (σ:S):Nat->Nat×Nat:=fun b=>if b<σ.N then σ.L b else (0,0)
theorem b8x {σ:S}{w:World}(h:Bw σ.N σ.w w):Wext σ ⟨w,b9M σ⟩ :=
 ⟨h.below.size,fun b hb=>by simp [b9M,hb],fun b o v ho hc=>(a2j (h.below.block b (a49 hc)) o).trans hc,h.drawn⟩
theorem c3d (l m:List UInt8):Lib.byteCells (l++m)=Lib.byteCells l++Lib.byteCells m:=by simp [Lib.byteCells]
theorem c0f (l:List UInt8):Lib.strCells ⟨l.toArray⟩=Lib.byteCells l:=by simp [Lib.strCells,Lib.byteCells]
theorem b61 (n:Nat):(a3K n).length<=2:=by
 unfold a3K
 cases Nat.blt n 10<;>simp
theorem d1F {P:Program}{w:World}{T:TypeId}{x y:Operand}{c:UInt8}{l:List UInt8}(h:l.length<=2) :
 Z7 P w (do eqGuard .add T x y (.string ⟨#[c]⟩) (.string ⟨l.toArray⟩); binOp .add T (.string ⟨#[c]⟩) (.string ⟨l.toArray⟩)) (.string ⟨(c::l).toArray⟩):=by
 have:=d3T (P:=P) (w:=w) (T:=T) (x:=x) (y:=y) (s:=⟨#[c]⟩) (t:=⟨l.toArray⟩) (by simp [ByteArray.size]; omega)
 have e:(⟨#[c]⟩++⟨l.toArray⟩:ByteArray)=⟨(c::l).toArray⟩:=by
  apply ByteArray.ext
  simp
 rw [e] at this
 exact this
theorem c6h {c:UInt8}{b r:List UInt8}{n:Int}(h:a8S c b n=some r):r.length<=1000003/\b.length<=r.length:=by
 unfold a8S at h
 obtain ⟨hc,h⟩:=j8 h
 cases h
 simp only [Bool.and_eq_true] at hc
 have:=Nat.le_of_ble_eq_true hc.2
 have:=b61 n.toNat
 simp
 omega
theorem b3i {c:UInt8}:∀ {xs:List Int} {b r:List UInt8},a7n c xs b=some r->b.length<=1000003->r.length<=1000003
 | [],b,r,h,hb=>by cases h; exact hb
 | n::xs,b,r,h,hb=>by
   obtain ⟨b',h1,h2⟩:=bind_some h
   exact b3i h2 (c6h h1).1
theorem c5K (w:World)(a:Addr)(n:Nat):(w.freeze a n).drawn=w.drawn:=by unfold World.freeze; split<;>rfl
theorem d47 {b B:Nat}{l:List UInt8}{w:World}(h:Lib.IsBuilder 156 5 B b (Lib.byteCells l) w)(hn:l=[]->w.heap[b]?=some (.cells #[.pointer none,.slice none 0 0] 156 (0,0)))(hl:l.length<=1000003) :
 Calls Go.Proofs.Tryz.prog 138 [J8 b].toArray w fun e w'=>e=.returned (.string ⟨l.toArray⟩)/\Bw B w w':=by
 have hdrew:Bw B w w.drew:=⟨(Below.refl B w).drew,Nat.le_succ _⟩
 by_cases h0:l=[]
 ·subst h0
  exact (Go.Proofs.Tryz.bstr0 (hn rfl)).mono fun e w' ⟨h1,h2⟩=>⟨h1,by subst h2; exact hdrew⟩
 ·obtain ⟨p,_,hB,v,hb,hown,hne⟩:=c7D h
  rw [Lib.byteCells_length] at hown
  rcases hown.2 with ⟨_,hz⟩ | ⟨g,cap,cur,rfl,hbg,hg,hnc,hcm,hcs,htake⟩
  ·exact absurd (List.length_eq_zero_iff.1 hz) h0
  ·refine (Go.Proofs.Tryz.bstr1 (l:=l) hb hg h0 hnc (by simpa using hcs) (by omega) fun j x hx=>?_).mono fun e w' ⟨h1,h2⟩=>⟨h1,?_⟩
   ·have h3:(Lib.byteCells l)[j]?=some (.int .u8 x.toNat):=by simp [Lib.byteCells,hx]
    rw [<- htake,List.getElem?_take] at h3
    split at h3
    ·rw [<- Array.getElem?_toList]; exact h3
    ·cases h3
   ·subst h2
    exact hdrew.trans ⟨Lib.below_freeze (Below.refl B w.drew) (p:=⟨g,0,none⟩) hbg _,Nat.le_of_eq (c5K _ _ _).symm⟩
theorem c4S {i:Nat}(h:i<9223372036854775807):wr .i64 ((i:Int)+1)=((i+1:Nat):Int):=by
 show IntKind.i64.wrap ((i:Int)+1)=_
 rw [IntKind.wrap_i64]
 omega
theorem c1y:j6 Go.Proofs.Tryz.prog c83:=by
 refine c51 b1R 38 Go.Proofs.Tryz.func75 rfl (by kernel_rfl) rfl rfl rfl fun X c σ F Q a res hX hrel happ hk=>?_
 have happ:b2u a.1=some res:=happ
 obtain ⟨g,hg,happ⟩:=bind_some happ
 obtain ⟨b1,hb1,happ⟩:=bind_some happ
 obtain ⟨b2,hb2,happ⟩:=bind_some happ
 have h0:=hrel.frame 0 (.dat 37 a.1) rfl
 simp only [RV] at h0
 obtain ⟨cs,hF0,hcs⟩:=h0
 refine wp_seq (wp_region_lit ?_)
 refine d1O (B:=σ.N) 0 (Nat.le_refl _) (.agg cs.toArray) cs hF0 rfl rfl fun τ1 bx hx1 hblk=>?_
 refine a3m (.string ⟨#[]⟩) rfl rfl ?_
 refine wpList_nil (X9 (wp_seq (wp_region_lit ?_)))
 have hcs1:Rp.cells τ1 a.1 cs:=Rp.mono hx1.wext hcs
 have hl3:cs.length=3:=Rp.len (self:=rI 37) hcs
 have t37:b9H Go.Proofs.Tryz.prog 37 3:=⟨_,Go.Proofs.Tryz.underlying37,rfl,by kernel_rfl⟩
 refine a35 bx 0 (.agg cs.toArray) rfl rfl (c3m (hl3▸t37) (fun j v hv=>by rw [Nat.zero_add,hblk.cell]; exact hv)) ?_
 have hcall:=a97 τ1 (a.1,()) [.agg cs.toArray] [] g ⟨_,_,[],[],rfl,rfl,⟨⟨cs,rfl,hcs1⟩,rfl⟩,rfl,rfl⟩ List.nodup_nil hg
 refine b02 (o := ⟨some 9, .call ⟨.value (.func 27), #[.tmp 8], #[37]⟩, 37, "core.go:142", #[⟨0, .data⟩], none⟩) rfl hcall (c0v (xs := [.tmp 8]) rfl τ1.w) fun v9 τ2 st2 hpost => ?_
 obtain ⟨ws,us,pls',hpost⟩:=hpost
 obtain ⟨v,hws,⟨cs',hv,hcs2⟩,-⟩:=hpost.tt
 have hlen:=hpost.len
 have hret:=hpost.ret
 obtain ⟨rfl,rfl⟩:ws=[v]/\us=[]:=by
  rcases ws with _ | ⟨u,ws⟩
  ·cases hlen
  ·rcases ws with _ | ⟨u',ws⟩
   ·simp at hws; exact ⟨by rw [hws.1],hws.2⟩
   ·cases hlen
 have hret:v9=v:=hret
 subst hret
 subst hv
 have hl3':cs'.length=3:=Rp.len (self:=rI 37) hcs2
 have hne1:¬ bx∈ows ([]:List Pl):=fun h=>by cases h
 obtain ⟨k1,k2⟩:=st2.block bx hblk.lt hne1
 have hbl:(τ1.L bx)=(0,0):=hblk.2.2
 have hblk2:Blk σ.N 0 ⟨τ2.w,fun k=>if k=bx then (0,0) else τ2.L k⟩ bx 37 cs:=⟨hblk.1,k1.trans hblk.2.1,by simp⟩
 have hw2:Wext τ2 ⟨τ2.w,fun k=>if k=bx then (0,0) else τ2.L k⟩:=⟨Nat.le_refl _,fun k _=>by
  by_cases e:k=bx
  ·subst e; rw [k2,hbl]; exact Nat.zero_le _
  ·simp [e],fun _ _ _ _ h=>h,Nat.le_refl _⟩
 have hall:cs'.all (·.oneCell')=true:=List.all_eq_true.2 fun u hu=>Rp.one (self:=rI 37) hcs2 u hu
 refine b9B (σ:=⟨τ2.w,fun k=>if k=bx then (0,0) else τ2.L k⟩) hblk2 0 (.agg cs'.toArray) cs' cs' rfl rfl rfl rfl rfl (by rw [hl3']; kernel_rfl) hall (by rw [hl3',hl3]; rfl) (by rw [List.take_zero,Nat.zero_add,hl3',<- hl3,List.drop_length]; simp) fun τ3 hm3 hblk3=>?_
 have hcs3:=Rp.mono (self:=rI 37) (hw2.trans hm3.wext) hcs2
 refine wpList_nil (X9 (wp_seq (wp_region_lit ?_)))
 refine c7i (B:=τ3.N) 0 (Nat.le_refl _) (.agg #[.pointer none,.slice none 0 0]) [.pointer none,.slice none 0 0] (J3 (T:=156) (size:=2) (bytes:=32) (by kernel_rfl)) rfl fun τ4 b hx4 hb4=>?_
 have h4:Bw τ3.N τ3.w τ4.w:=⟨hx4.below,hx4.drawn⟩
 have hbuild:Lib.IsBuilder 156 5 τ3.N b [] τ4.w:=.inl ⟨hb4.1,.slice none 0 0,hb4.2.1,World.ownsRow_nil _ _ _ _,by simp [Value.ownBlock]⟩
 obtain ⟨cc1,cr1,e1,⟨A1,k1c,ec1,hs1⟩,cc2,cr2,e2,⟨A2,k2c,ec2,hs2⟩,hc3⟩:=hcs3
 have hcs':cs'=[.slice A1 g.Pos.length k1c,.slice A2 g.Neg.length k2c,.bool g.Lists]:=by
  have hc3:cr2=[.bool g.Lists]:=hc3
  rw [e1,e2,ec1,ec2,hc3]; rfl
 have hbxw:∀ w,Bw τ3.N τ3.w w->∀ i,w.cell? ⟨bx,i,none⟩=cs'[i]?:=fun w h i=>by rw [a2j (h.below.block bx hblk3.lt)]; exact hblk3.cell i
 have t22:a2S Go.Proofs.Tryz.prog 22:=⟨_,Go.Proofs.Tryz.underlying22,rfl,by kernel_rfl⟩
 have t3:a2S Go.Proofs.Tryz.prog 3:=⟨_,Go.Proofs.Tryz.underlying3,rfl,by kernel_rfl⟩
 have t4:a2S Go.Proofs.Tryz.prog 4:=⟨_,Go.Proofs.Tryz.underlying4,rfl,by kernel_rfl⟩
 refine wpList_nil (X9 (c0s (fun a w=>∃ F',a=fr 38 F'/\F' 1=.pointer (some ⟨bx,0,none⟩)/\F' 3=J8 b/\Bw τ3.N τ3.w w/\Lib.IsBuilder 156 5 τ3.N b (Lib.byteCells (bif g.Lists then [108] else []:List UInt8)) w/\((bif g.Lists then [108] else []:List UInt8)=[]->w.heap[b]?=some (.cells #[.pointer none,.slice none 0 0] 156 (0,0)))) ?_ ?_))
 ·refine wp_seq (wp_region_lit ?_)
  refine a06 bx 0 2 2 rfl rfl (⟨_,_,Go.Proofs.Tryz.underlying37,rfl,rfl,by kernel_rfl⟩) rfl ?_
  refine a35 bx 2 (.bool g.Lists) rfl rfl (a3L t4 ((hbxw τ4.w h4 2).trans (by rw [hcs']; rfl))) ?_
  refine wpList_nil (X9 ?_)
  rcases hL:g.Lists with _ | _
  ·refine b2r (c:=false) (by rw [<- hL]; rfl) rfl rfl (wp_skip ?_)
   exact ⟨rfl,_,rfl,rfl,rfl,h4,hbuild,fun _=>hb4.2.1⟩
  ·refine b8k (c:=true) (by rw [<- hL]; rfl) rfl rfl (wp_region_lit ?_)
   refine a8R [J8 b,.int .u8 108] rfl rfl d4i (bwb hbuild (by decide) h4.below.size) ?_
   rintro e w5 ⟨⟨v,rfl⟩,hat,hbw5⟩
   exact ⟨_,rfl,wpList_nil ⟨rfl,_,rfl,rfl,rfl,h4.trans hbw5,.inr hat,fun h=>by simp at h⟩⟩
 rintro a0 w0 h0
 refine c0s (fun a w=>∃ F',a=fr 38 F'/\F' 1=.pointer (some ⟨bx,0,none⟩)/\F' 3=J8 b/\Bw τ3.N τ3.w w/\Lib.IsBuilder 156 5 τ3.N b (Lib.byteCells b1) w/\(b1=[]->w.heap[b]?=some (.cells #[.pointer none,.slice none 0 0] 156 (0,0)))) ?_ ?_
 ·revert a0 w0 h0
  rintro a1 w1 ⟨F1,rfl,f1,f3,hbw1,hbd1,hn1⟩
  refine wp_seq (wp_region_lit ?_)
  refine a06 bx 0 0 0 f1 rfl (⟨_,_,Go.Proofs.Tryz.underlying37,rfl,rfl,by kernel_rfl⟩) rfl ?_
  refine a35 bx 0 (.slice A1 g.Pos.length k1c) rfl rfl (a3L t22 ((hbxw w1 hbw1 0).trans (by rw [hcs']; rfl))) ?_
  refine b2m A1 g.Pos.length k1c rfl rfl Go.Proofs.Tryz.underlying22 ?_
  refine a1M (.int .i64 0) rfl rfl ?_
  refine wpList_nil (X9 (wp_block ?_))
  refine wp_mono (b5E (step:=b1Z 43 g.Pos) (fun q a w=>∃ F',a=fr 38 F'/\F' 1=.pointer (some ⟨bx,0,none⟩)/\F' 3=J8 b/\F' 14=.slice A1 g.Pos.length k1c/\F' 15=.int .i64 (g.Pos.length:Int)/\F' 16=.int .i64 (q.1:Int)/\Bw τ3.N τ3.w w/\Lib.IsBuilder 156 5 τ3.N b (Lib.byteCells q.2) w/\(q.2=[]->w.heap[b]?=some (.cells #[.pointer none,.slice none 0 0] 156 (0,0)))/\q.1<=g.Pos.length) (fun r e a w=>e=.exit 0/\∃ F',a=fr 38 F'/\F' 1=.pointer (some ⟨bx,0,none⟩)/\F' 3=J8 b/\Bw τ3.N τ3.w w/\Lib.IsBuilder 156 5 τ3.N b (Lib.byteCells r) w/\(r=[]->w.heap[b]?=some (.cells #[.pointer none,.slice none 0 0] 156 (0,0)))) (by rintro _ _ _ ⟨h,_⟩; cases h) ?_ _ (0,(bif g.Lists then [108] else [])) b1 _ _ (b6C (g.Pos.length-0) 0 rfl (Nat.zero_le _) hb1) ⟨_,rfl,f1,f3,rfl,rfl,rfl,hbw1,hbd1,fun h=>hn1 h,Nat.zero_le _⟩) ?_
  ·rintro ⟨i,bs⟩ fl a2 w2 hst ⟨F2,rfl,g1,g3,g14,g15,g16,hbw2,hbd2,hn2,hi⟩
   refine wp_seq (wp_region_lit ?_)
   refine a9j (.int .i64 (i:Int)) (.int .i64 (g.Pos.length:Int)) (.bool (decide ((i:Int)<(g.Pos.length:Int)))) g16 g15 rfl rfl c7L ?_
   refine wpList_nil (X9 (wp_seq ?_))
   rcases hx:(g.Pos)[i]? with _ | n
   ·simp only [b1Z,hx] at hst
    cases hst
    have hge:(g.Pos).length<=i:=List.getElem?_eq_none_iff.1 hx
    refine b2r rfl (decide_eq_false (by omega)) rfl (wp_exit ?_)
    exact c7c ⟨rfl,_,rfl,g1,g3,hbw2,hbd2,hn2⟩
   ·simp only [b1Z,hx,Option.map_eq_some_iff] at hst
    obtain ⟨bs',hit,rfl⟩:=hst
    have hlt:i<(g.Pos).length:=(List.getElem?_eq_some_iff.1 hx).1
    unfold a8S at hit
    obtain ⟨hcond,hit⟩:=j8 hit
    cases hit
    simp only [Bool.and_eq_true,decide_eq_true_eq] at hcond
    obtain ⟨⟨n0,n1⟩,nl⟩:=hcond
    have nl:bs.length<=1000000:=Nat.le_of_ble_eq_true nl
    refine b8k rfl (decide_eq_true (by omega)) rfl (wp_skip (X9 (wp_seq (wp_block (wp_seq (wp_region_lit ?_))))))
    refine b4j (σ:=⟨w2,b9M τ3⟩) (hs1.mono (b8x hbw2)) (show idx g.Pos (i:Int)=some n by simp [idx,hx]) g14 g16 rfl rfl Go.Proofs.Tryz.underlying22 (by kernel_rfl) fun bb o ccs hc hse=>?_
    have hc:ccs=[.int .i64 n]:=hc
    subst hc
    refine a35 bb o (.int .i64 n) rfl rfl (a3L t3 (hse.2 0 _ rfl)) ?_
    refine a3m (.int .i64 n) rfl rfl ?_
    refine wpList_nil (X9 (wp_region_lit ?_))
    refine a1M (.int .i64 n) rfl rfl ?_
    have hn:((n.toNat:Nat):Int)=n:=by omega
    refine a8R [.int .i64 n] rfl rfl d1Y (by have:=c6V (n:=n.toNat) (by omega) w2; rw [hn] at this; exact this) ?_
    rintro e w3 ⟨rfl,rfl⟩
    refine ⟨_,rfl,?_⟩
    have hdl:(a3K n.toNat).length<=2:=b61 _
    refine a9j (.string ⟨#[43]⟩) (.string ⟨(a3K n.toNat).toArray⟩) (.string ⟨(43::a3K n.toNat).toArray⟩) rfl rfl rfl rfl (d1F hdl) ?_
    have hsz:(⟨(43::a3K n.toNat).toArray⟩:ByteArray).size<=3:=by simp [ByteArray.size]; omega
    refine a8R [J8 b,.string ⟨(43::a3K n.toNat).toArray⟩] (by rw [List.map_cons,List.map_cons,List.map_nil]; exact congrArg (·::_) g3) rfl d1R (bws hbd2 (by show (Lib.byteCells bs).length+_<=_; rw [Lib.byteCells_length]; omega) hbw2.below.size) ?_
    rintro e w4 ⟨⟨v,rfl⟩,hat,hbw4⟩
    refine ⟨_,rfl,?_⟩
    refine wpList_nil (d34 (X9 (wp_region_lit ?_)))
    refine a9j (.int .i64 (i:Int)) (.int .i64 1) (.int .i64 (wr .i64 ((i:Int)+1))) g16 rfl rfl rfl c8b ?_
    refine a1M (.int .i64 (wr .i64 ((i:Int)+1))) rfl rfl ?_
    have hwr:wr .i64 ((i:Int)+1)=((i+1:Nat):Int):=c4S (by have l1:(g.Pos).length<=k1c:=hs1.1; have l2:k1c<=maxLen:=hs1.2.1; unfold maxLen at l2; omega)
    refine wpList_nil ⟨rfl,_,rfl,g1,g3,g14,g15,congrArg _ hwr,hbw2.trans hbw4,.inr ?_,fun h=>by simp at h,hlt⟩
    rw [c0f,<- c3d] at hat
    exact hat
  ·rintro r e a2 ⟨rfl,F2,rfl,g1,g3,hbw2,hbd2,hn2⟩
   exact d2Z ⟨rfl,F2,rfl,g1,g3,hbw2,hbd2,hn2⟩
 rintro a5 w5 h5
 refine c0s (fun a w=>∃ F',a=fr 38 F'/\F' 1=.pointer (some ⟨bx,0,none⟩)/\F' 3=J8 b/\Bw τ3.N τ3.w w/\Lib.IsBuilder 156 5 τ3.N b (Lib.byteCells b2) w/\(b2=[]->w.heap[b]?=some (.cells #[.pointer none,.slice none 0 0] 156 (0,0)))) ?_ ?_
 ·revert a5 w5 h5
  rintro a1 w1 ⟨F1,rfl,f1,f3,hbw1,hbd1,hn1⟩
  refine wp_seq (wp_region_lit ?_)
  refine a06 bx 0 1 1 f1 rfl (⟨_,_,Go.Proofs.Tryz.underlying37,rfl,rfl,by kernel_rfl⟩) rfl ?_
  refine a35 bx 1 (.slice A2 g.Neg.length k2c) rfl rfl (a3L t22 ((hbxw w1 hbw1 1).trans (by rw [hcs']; rfl))) ?_
  refine b2m A2 g.Neg.length k2c rfl rfl Go.Proofs.Tryz.underlying22 ?_
  refine a1M (.int .i64 0) rfl rfl ?_
  refine wpList_nil (X9 (wp_block ?_))
  refine wp_mono (b5E (step:=b1Z 45 g.Neg) (fun q a w=>∃ F',a=fr 38 F'/\F' 1=.pointer (some ⟨bx,0,none⟩)/\F' 3=J8 b/\F' 26=.slice A2 g.Neg.length k2c/\F' 27=.int .i64 (g.Neg.length:Int)/\F' 28=.int .i64 (q.1:Int)/\Bw τ3.N τ3.w w/\Lib.IsBuilder 156 5 τ3.N b (Lib.byteCells q.2) w/\(q.2=[]->w.heap[b]?=some (.cells #[.pointer none,.slice none 0 0] 156 (0,0)))/\q.1<=g.Neg.length) (fun r e a w=>e=.exit 2/\∃ F',a=fr 38 F'/\F' 1=.pointer (some ⟨bx,0,none⟩)/\F' 3=J8 b/\Bw τ3.N τ3.w w/\Lib.IsBuilder 156 5 τ3.N b (Lib.byteCells r) w/\(r=[]->w.heap[b]?=some (.cells #[.pointer none,.slice none 0 0] 156 (0,0)))) (by rintro _ _ _ ⟨h,_⟩; cases h) ?_ _ (0,b1) b2 _ _ (b6C (g.Neg.length-0) 0 rfl (Nat.zero_le _) hb2) ⟨_,rfl,f1,f3,rfl,rfl,rfl,hbw1,hbd1,fun h=>hn1 h,Nat.zero_le _⟩) ?_
  ·rintro ⟨i,bs⟩ fl a2 w2 hst ⟨F2,rfl,g1,g3,g14,g15,g16,hbw2,hbd2,hn2,hi⟩
   refine wp_seq (wp_region_lit ?_)
   refine a9j (.int .i64 (i:Int)) (.int .i64 (g.Neg.length:Int)) (.bool (decide ((i:Int)<(g.Neg.length:Int)))) g16 g15 rfl rfl c7L ?_
   refine wpList_nil (X9 (wp_seq ?_))
   rcases hx:(g.Neg)[i]? with _ | n
   ·simp only [b1Z,hx] at hst
    cases hst
    have hge:(g.Neg).length<=i:=List.getElem?_eq_none_iff.1 hx
    refine b2r rfl (decide_eq_false (by omega)) rfl (wp_exit ?_)
    exact c7c ⟨rfl,_,rfl,g1,g3,hbw2,hbd2,hn2⟩
   ·simp only [b1Z,hx,Option.map_eq_some_iff] at hst
    obtain ⟨bs',hit,rfl⟩:=hst
    have hlt:i<(g.Neg).length:=(List.getElem?_eq_some_iff.1 hx).1
    unfold a8S at hit
    obtain ⟨hcond,hit⟩:=j8 hit
    cases hit
    simp only [Bool.and_eq_true,decide_eq_true_eq] at hcond
    obtain ⟨⟨n0,n1⟩,nl⟩:=hcond
    have nl:bs.length<=1000000:=Nat.le_of_ble_eq_true nl
    refine b8k rfl (decide_eq_true (by omega)) rfl (wp_skip (X9 (wp_seq (wp_block (wp_seq (wp_region_lit ?_))))))
    refine b4j (σ:=⟨w2,b9M τ3⟩) (hs2.mono (b8x hbw2)) (show idx g.Neg (i:Int)=some n by simp [idx,hx]) g14 g16 rfl rfl Go.Proofs.Tryz.underlying22 (by kernel_rfl) fun bb o ccs hc hse=>?_
    have hc:ccs=[.int .i64 n]:=hc
    subst hc
    refine a35 bb o (.int .i64 n) rfl rfl (a3L t3 (hse.2 0 _ rfl)) ?_
    refine a3m (.int .i64 n) rfl rfl ?_
    refine wpList_nil (X9 (wp_region_lit ?_))
    refine a1M (.int .i64 n) rfl rfl ?_
    have hn:((n.toNat:Nat):Int)=n:=by omega
    refine a8R [.int .i64 n] rfl rfl d1Y (by have:=c6V (n:=n.toNat) (by omega) w2; rw [hn] at this; exact this) ?_
    rintro e w3 ⟨rfl,rfl⟩
    refine ⟨_,rfl,?_⟩
    have hdl:(a3K n.toNat).length<=2:=b61 _
    refine a9j (.string ⟨#[45]⟩) (.string ⟨(a3K n.toNat).toArray⟩) (.string ⟨(45::a3K n.toNat).toArray⟩) rfl rfl rfl rfl (d1F hdl) ?_
    have hsz:(⟨(45::a3K n.toNat).toArray⟩:ByteArray).size<=3:=by simp [ByteArray.size]; omega
    refine a8R [J8 b,.string ⟨(45::a3K n.toNat).toArray⟩] (by rw [List.map_cons,List.map_cons,List.map_nil]; exact congrArg (·::_) g3) rfl d1R (bws hbd2 (by show (Lib.byteCells bs).length+_<=_; rw [Lib.byteCells_length]; omega) hbw2.below.size) ?_
    rintro e w4 ⟨⟨v,rfl⟩,hat,hbw4⟩
    refine ⟨_,rfl,?_⟩
    refine wpList_nil (d34 (X9 (wp_region_lit ?_)))
    refine a9j (.int .i64 (i:Int)) (.int .i64 1) (.int .i64 (wr .i64 ((i:Int)+1))) g16 rfl rfl rfl c8b ?_
    refine a1M (.int .i64 (wr .i64 ((i:Int)+1))) rfl rfl ?_
    have hwr:wr .i64 ((i:Int)+1)=((i+1:Nat):Int):=c4S (by have l1:(g.Neg).length<=k2c:=hs2.1; have l2:k2c<=maxLen:=hs2.2.1; unfold maxLen at l2; omega)
    refine wpList_nil ⟨rfl,_,rfl,g1,g3,g14,g15,congrArg _ hwr,hbw2.trans hbw4,.inr ?_,fun h=>by simp at h,hlt⟩
    rw [c0f,<- c3d] at hat
    exact hat
  ·rintro r e a2 ⟨rfl,F2,rfl,g1,g3,hbw2,hbd2,hn2⟩
   exact d2Z ⟨rfl,F2,rfl,g1,g3,hbw2,hbd2,hn2⟩
 rintro a6 w6 ⟨F6,rfl,f1,f3,hbw6,hbd6,hn6⟩
 refine wp_seq (wp_region_lit ?_)
 refine a8R [J8 b] (congrArg (·::_) f3) rfl d4y (d47 hbd6 hn6 (b3i hb2 (b3i hb1 (by cases g.Lists<;>decide)))) ?_
 rintro e w7 ⟨rfl,hbw7⟩
 refine ⟨_,rfl,?_⟩
 refine a3m (.string ⟨b2.toArray⟩) rfl rfl ?_
 refine wpList_nil (X9 (wp_ret ?_))
 have hb7:Bw τ3.N τ3.w w7:=hbw6.trans hbw7
 have hr:(⟨b2.toArray⟩:ByteArray)=res:=Option.some.inj happ
 have hA:Bw σ.N σ.w τ1.w:=⟨hx1.below,hx1.drawn⟩
 have hB:Bw σ.N τ1.w τ2.w:=⟨⟨st2.os,st2.tape,st2.output,st2.wext.size,fun k hk=>(st2.block k (Nat.lt_of_lt_of_le hk hx1.below.size) (fun h=>by cases h)).1⟩,st2.wext.drawn⟩
 have hC:Bw σ.N τ2.w τ3.w:=⟨⟨hm3.os,hm3.tape,hm3.output,hm3.wext.size,fun k hk=>(hm3.block k (Nat.lt_of_lt_of_le hk (hA.trans hB).below.size) (.inl hk)).1⟩,hm3.wext.drawn⟩
 have hD:Bw σ.N τ3.w w7:=⟨hb7.below.mono ((hA.trans hB).trans hC).below.size,hb7.drawn⟩
 have hE:=((hA.trans hB).trans hC).trans hD
 subst hr
 refine hk .ret ⟨38,fun i=>bif Nat.beq i 2 then some (.str ⟨b2.toArray⟩) else none,fun _=>none,0⟩ c ⟨w7,b9M σ⟩ _ ?_ (Cx.le_refl c) ⟨rfl,(fun i p hp=>?_),(fun l o ho=>by cases ho),(fun _ _ _ _ _ ⟨_,h⟩=>by cases h),(fun _ _ _ ⟨_,h⟩=>by cases h),(fun l _=>hrel.nom l rfl),Nat.le_trans hrel.base hE.below.size,noN.nests fun _ _ _ _ _ _ h=>by cases h⟩
  ⟨b8x hE,hE.below.os,hE.below.tape,hE.below.output,fun k hk _=>⟨hE.below.block k hk,by simp [b9M,hk]⟩⟩
 ·rfl
 ·have hp:(bif Nat.beq i 2 then some (PV.str ⟨b2.toArray⟩) else none)=some p:=hp
  obtain ⟨hi,hp⟩:=j8 hp
  cases hp
  have:=Nat.eq_of_beq_eq_true hi
  subst this
  simp only [RV]
  rfl
theorem d4N:j6 Go.Proofs.Tryz.prog c83:=c1y
def b9U (n:Nat):Hints I:=mkH [(1,[[],[0],[0,1],[],[3],[0,1,2,3,4],[0,1,2,3,4,5],[0,1,2,3,4,5,6],[0,1,2,3,4,5,6,7]])] [] [] [] [(124,⟨295147905179351779232,[],[],[(5,.k (.row 111 false)),(6,.k (.map 113 (.bool))),(7,.k (.row 37 false))],[((.exit 0),[(6,.k (.map 113 (.bool))),(7,.k (.row 37 false))])],fun _=>some n⟩)] [] []
def b7Q (n:Nat):Row I:=⟨36,[.d (.dat 27),.d (.dat 37)],[.k (.row 37 false)],a6V n⟩
theorem b86 (n:Nat):RK (b7Q n) :=
 okR [eR b5D,eR b0J,eR b6w,eR a97,eR d4N] 69 (b9U n) [.tmp 4] Go.Proofs.Tryz.func36 (by kernel_rfl)
def a88:Hints I:=mkH [(6,[[],[],[0,1],[0,1,2],[],[],[5],[4,5,6],[4,5,6,7],[0,1,2,3,4,5,6,7,8]]),(11,[[],[],[0,1],[0,1,2],[],[],[5],[4,5,6],[4,5,6,7],[0,1,2,3,4,5,6,7,8]])] [] [] [] [(58,⟨1152921504606846012,[],[],[(0,.k (.row 9 false)),(3,.k (.d (.int .i64)))],[((.exit 0),[(0,.k (.row 9 false))]),(.ret,[(2,.k (.row 9 false))])],bnd tb (.len (.slot 0)) 1⟩)] [(59690,⟨18014397972611112,0,9,[(3,.k (.d (.int .i64))),(5,.k (.d (.int .i64)))],[((.exit 2),[(3,.k (.d (.int .i64)))])],bnd tb (.len (.slot 4)) 1⟩)] []
def a8w:Row I:=⟨78,[.row 9 false],[.k (.row 9 false)],K9⟩
theorem a4Y:RK (a8w) :=
 okR [] 61 a88 [.tmp 2] Go.Proofs.Tryz.func78 (by kernel_rfl)
def a9K:Row I:=⟨77,[.d (.sl 9)],[.k (.row 9 true)],a1g⟩
theorem a5M:RK (a9K) :=
 okR [] 9 Y5 [.tmp 2] Go.Proofs.Tryz.func77 (by kernel_rfl)
def c4y:Hints I:=mkH [] [] [] [] [(58,⟨2147482784,[],[],[(5,.k (.row 9 false)),(10,.k (.d (.int .i64)))],[((.exit 0),[(5,.k (.row 9 false))])],bnd tb (.slot 9) 1⟩)] [] []
def c2H:Row I:=⟨37,[.d (.dat 27),.d (.sl 3)],[.k (.row 9 true)],a9w⟩
theorem c37:RK (c2H) :=
 okR [eO d1V,eR a4Y,eR a5M] 36 c4y [.tmp 4] Go.Proofs.Tryz.func37 (by kernel_rfl)
def b1e:Hints I:=mkH [] [] [] [] [(26,⟨524080,[],[],[(8,.k (.d (.int .i64)))],[((.exit 0),[]),(.ret,[(4,.k (.d (.int .i64)))])],bnd tb (.slot 7) 1⟩)] [] []
def b0d:Row I:=⟨124,[.d (.sl 3),.fn [.int .i64] [.k (.d (.bool))]],[.k (.d (.int .i64))],a4L⟩
theorem b0Y:RK (b0d) :=
 okR [] 19 b1e [.tmp 4] Go.Proofs.Tryz.func124 (by kernel_rfl)
def a8U:Row I:=⟨65,[.d (.sl 3),.fn [.int .i64] [.k (.d (.bool))]],[.k (.d (.bool))],Z5⟩
theorem a0g:RK (a8U) :=
 okR [eR b0Y] 9 Y5 [.tmp 4] Go.Proofs.Tryz.func65 (by kernel_rfl)
def b4J:Hints I:=mkH [] [] [] [] [(26,⟨524080,[],[],[(8,.k (.d (.int .i64)))],[((.exit 0),[]),(.ret,[(4,.k (.d (.int .i64)))])],bnd tb (.slot 7) 1⟩)] [] []
def b2Q:Row I:=⟨141,[.d (.sl 3),.d (.int .i64)],[.k (.d (.int .i64))],a6x⟩
theorem b3H:RK (b2Q) :=
 okR [] 19 b4J [.tmp 4] Go.Proofs.Tryz.func141 (by kernel_rfl)
def b0L:Row I:=⟨80,[.d (.sl 3),.d (.int .i64)],[.k (.d (.bool))],a3c⟩
theorem b1s:RK (b0L) :=
 okR [eR b3H] 9 Y5 [.tmp 4] Go.Proofs.Tryz.func80 (by kernel_rfl)
def b7H:Row I:=⟨79,[.d (.int .i64),.var 22 (.k (.d (.sl 3))) false],[.k (.d (.bool))],a9E⟩
theorem b8E:RK (b7H) :=
 okR [eR b1s] 7 Y5 [.tmp 3] Go.Proofs.Tryz.func79 (by kernel_rfl)
def b94:Row I:=⟨38,[.d (.sl 3),.d (.sl 3)],[.k (.d (.bool))],a8s⟩
theorem c0T:RK (b94) :=
 okR [eR a0g,eR b8E] 8 Y5 [.tmp 4] Go.Proofs.Tryz.func38 (by kernel_rfl)
def a8D:Hints I:=mkH [] [] [] [] [(26,⟨524080,[],[],[(8,.k (.d (.int .i64)))],[((.exit 0),[]),(.ret,[(4,.k (.d (.int .i64)))])],bnd tb (.slot 7) 1⟩)] [] []
def a7Z:Row I:=⟨142,[.d (.sl 9),.fn [.str] [.k (.d (.bool))]],[.k (.d (.int .i64))],a2Q⟩
theorem a8a:RK (a7Z) :=
 okR [] 19 a8D [.tmp 4] Go.Proofs.Tryz.func142 (by kernel_rfl)
def a63:Row I:=⟨81,[.d (.sl 9),.fn [.str] [.k (.d (.bool))]],[.k (.d (.bool))],a0H⟩
theorem a7p:RK (a63) :=
 okR [eR a8a] 9 Y5 [.tmp 4] Go.Proofs.Tryz.func81 (by kernel_rfl)
def b0h:Hints I:=mkH [] [] [] [] [(26,⟨524080,[],[],[(8,.k (.d (.int .i64)))],[((.exit 0),[]),(.ret,[(4,.k (.d (.int .i64)))])],bnd tb (.slot 7) 1⟩)] [] []
def a80:Row I:=⟨92,[.d (.sl 9),.d (.str)],[.k (.d (.int .i64))],a30⟩
theorem a9J:RK (a80) :=
 okR [] 19 b0h [.tmp 4] Go.Proofs.Tryz.func92 (by kernel_rfl)
def a8b:Row I:=⟨52,[.d (.sl 9),.d (.str)],[.k (.d (.bool))],a0p⟩
theorem a4C:RK (a8b) :=
 okR [eR a9J] 9 Y5 [.tmp 4] Go.Proofs.Tryz.func52 (by kernel_rfl)
def b4R:Row I:=⟨82,[.d (.str),.var 31 (.k (.d (.sl 9))) false],[.k (.d (.bool))],a7r⟩
theorem b5r:RK (b4R) :=
 okR [eR a4C] 7 Y5 [.tmp 3] Go.Proofs.Tryz.func82 (by kernel_rfl)
def b6R:Row I:=⟨39,[.d (.sl 9),.d (.sl 9)],[.k (.d (.bool))],a6c⟩
theorem b7R:RK (b6R) :=
 okR [eR a7p,eR b5r] 8 Y5 [.tmp 4] Go.Proofs.Tryz.func39 (by kernel_rfl)
def c57:Hints I:=mkH [] [] [] [] [(58,⟨4192262,[],[],[(1,.k (.row 82 false)),(2,.k (.d (.int .i64)))],[((.exit 0),[(1,.k (.row 82 false))])],bnd tb (.cst 4) 2⟩)] [] []
def c2V:Row I:=⟨40,[],[.k (.row 82 false)],b6J⟩
theorem c32:RK (c2V) :=
 okR [] 23 c57 [.tmp 0] Go.Proofs.Tryz.func40 (by kernel_rfl)
def c0p:Hints I:=mkH [] [] [] [(429,⟨20480,[],[],[(.normal,[(12,.k (.d (.bool)))])]⟩),
 (1725,⟨1310720,[],[],[(.normal,[(18,.k (.d (.bool)))])]⟩)] [] [] []
def b8f:Row I:=⟨144,[.d (.dat 82),.d (.dat 65)],[.k (.d (.bool))],a52⟩
theorem b1F:RK (b8f) :=
 okR [] 81 c0p [.tmp 4] Go.Proofs.Tryz.func144 (by kernel_rfl)
def b87:Hints I:=mkH [(1,[[],[0],[],[0,1,2],[0,1,2,3],[0,1,2,3,4],[0,1,2,3,4,5],[0,1,2,3,4,5,6],[0,1,2,3,4,5,6,7],[0,1,2,3,4,5,6,7],[0,1,2,3,4,5,6,7,9],[0,1,2,3,4,5,6,7],[0,1,2,3,4,5,6,7,9,10,11],[0,1,2,3,4,5,6,7,9,10,11,12],[0,1,2,3,4,5,6,7,8,9,10,11,12,13],[0,1,2,3,4,5,6,7,8,9,10,11,12,13,14],[0,1,2,3,4,5,6,7,8,9,10,11,12,13,14,15],[0,1,2,3,4,5,6,7,8,9,10,11,12,13,14,15,16]])] [] [] [] [] [] []
def b6o:Row I:=⟨143,[.d (.int .i64),.var 27 (.k (.d (.dat 27))) false,.var 82 (.k (.d (.dat 82))) false],[.k (.d (.bool))],a4O⟩
theorem b7I:RK (b6o) :=
 okR [eR b1F] 22 b87 [.tmp 4] Go.Proofs.Tryz.func143 (by kernel_rfl)
def b79:Row I:=⟨83,[.d (.dat 82),.d (.dat 27),.d (.dat 37)],[.k (.d (.bool))],a7E⟩
theorem b95:RK (b79) :=
 okR [eR a0g,eR b7I] 24 Y5 [.tmp 6] Go.Proofs.Tryz.func83 (by kernel_rfl)
def b93:Row I:=⟨145,[],[.k (.row 126 false)],b1f⟩
theorem c0P:RK (b93) :=
 okR [] 3 Y5 [.tmp 0] Go.Proofs.Tryz.func145 (by kernel_rfl)
def b7N:Row I:=⟨249,[.d (.int .i64)],[.k (.d (.bool))],a5d⟩
theorem b8M:RK (b7N) :=
 okR [] 6 Y5 [.tmp 2] Go.Proofs.Tryz.func249 (by kernel_rfl)
def b5C:Row I:=⟨233,[.d (.int .i64),.d (.int .i64)],[.k (.d (.int .i64))],a1S⟩
theorem a9n:RK (b5C) :=
 okR [eR b8M] 20 Y5 [.tmp 4] Go.Proofs.Tryz.func233 (by kernel_rfl)
def b2C:Row I:=⟨232,[.d (.dat 126),.d (.dat 126)],[.k (.d (.int .i64))],a2U⟩
theorem b3y:RK (b2C) :=
 okR [eR a9n] 10 Y5 [.tmp 4] Go.Proofs.Tryz.func232 (by kernel_rfl)
def b6P:Hints I:=mkH [(14,[[],[0],[0,1],[0,1,2],[0,1,2],[0,1,2,3,4],[0,1,2,3,4,5],[0,1,2,3,4,5,6],[0,1,2,3,4,5,6,7],[0,1,2,3,4,5,6,7,8],[0,1,2,3,4,5,6,7,8,9],[0,1,2,3,4,5,6,7,8,9,10],[0,1,2,3,4,5,6,7,8,9],[0,1,2,3,4,5,6,7,8,9],[0,1,2,3,4,5,6,7,8,9,12,13],[0,1,2,3,4,5,6,7,8,9,12,13,14],[0,1,2,3,4,5,6,7,8,9,12,13,14,15],[0,1,2,3,4,5,6,7,8,9,12,13,14,15,16],[0,1,2,3,4,5,6,7,8,9,10,11,12,13,14,15,16,17],[0,1,2,3,4,5,6,7,8,9,10,11,12,13,14,15,16,17,18],[0,1,2,3,4,5,6,7,8,9,10,11,12,13,14,15,16,17,18,19]]),(15,[[],[],[],[],[2,3],[2,3,4],[2,3,4,5],[],[7],[2,3,4,5,6,7,8],[0,1,2,3,4,5,6,7,8,9],[0,1,2,3,4,5,6,7,8,9,10],[0,1,2,3,4,5,6,7,8,9,10,11]])] [] [] [] [(58,⟨67104808,[],[],[(3,.k (.row 126 false)),(12,.k (.d (.int .i64)))],[((.exit 0),[(3,.k (.row 126 false))])],bnd tb (.slot 11) 1⟩),
 (506,⟨37778931862956087968576,[],[],[(6,.k (.row 126 false)),(28,.k (.row 126 false)),(30,.k (.d (.int .i64)))],[((.exit 2),[(6,.k (.row 126 false)),(28,.k (.row 126 false))])],bnd tb (.slot 29) 1⟩)] [] []
noncomputable def b4e:Row I:=⟨196,[.d (.sl 126)],[.k (.row 126 false)],a0K⟩
theorem a8T:RK (b4e) :=
 okR [eO d24,eR b3y] 76 b6P [.tmp 2] Go.Proofs.Tryz.func196 (by kernel_rfl)
def b6U:Hints I:=mkH [] [] [] [] [(58,⟨1099511620256,[11],[],[(5,.k (.row 126 false)),(13,.k (.d (.int .i64)))],[((.exit 0),[(5,.k (.row 126 false))])],bnd tb (.slot 12) 1⟩),
 (14950,⟨549754765856,[18],[],[(5,.k (.row 126 false)),(20,.k (.d (.int .i64)))],[((.exit 2),[(5,.k (.row 126 false))])],bnd tb (.slot 19) 1⟩)] [] []
noncomputable def b4H:Row I:=⟨146,[.d (.sl 126),.d (.sl 126)],[.k (.row 126 false)],a3J⟩
theorem b5G:RK (b4H) :=
 okR [eR a8T] 42 b6U [.tmp 4] Go.Proofs.Tryz.func146 (by kernel_rfl)
def b5x:Hints I:=mkH [] [] [] [(31333,⟨66846728,[],[],[(.normal,[(3,.k (.row 126 false))])]⟩)] [(122,⟨17179868252,[8],[],[(3,.k (.row 126 false)),(4,.k (.d (.int .i64))),(10,.k (.d (.int .i64)))],[((.exit 0),[(3,.k (.row 126 false)),(4,.k (.d (.int .i64)))]),(.ret,[(2,.k (.row 126 false))])],bnd tb (.slot 9) 1⟩)] [] []
noncomputable def b3B:Row I:=⟨147,[.d (.sl 126)],[.k (.row 126 false)],a4U⟩
theorem b4P:RK (b3B) :=
 okR [eR a8T] 39 b5x [.tmp 2] Go.Proofs.Tryz.func147 (by kernel_rfl)
def c4M:Hints I:=mkH [] [] [] [] [(58,⟨137438888352,[],[],[(5,.k (.row 126 false)),(16,.k (.d (.int .i64)))],[((.exit 0),[(5,.k (.row 126 false))])],bnd tb (.slot 15) 1⟩),
 (122,⟨4611684918915763232,[],[],[(5,.k (.row 126 false)),(40,.k (.d (.int .i64)))],[((.exit 2),[(5,.k (.row 126 false))])],bnd tb (.slot 39) 1⟩)] [] []
noncomputable def c2A:Row I:=⟨84,[.d (.dat 27),.d (.dat 37)],[.k (.row 126 false)],b2d⟩
theorem c30:RK (c2A) :=
 okR [eR c0P,eR b5G,eR b4P] 63 c4M [.tmp 4] Go.Proofs.Tryz.func84 (by kernel_rfl)
def b6A:Hints I:=mkH [(3,[[],[0],[],[2],[2,3],[0,1,2,3,4],[0,1,2,3,4,5],[0,1,2,3,4,5,6]])] [] [] [] [] [] []
def b4K:Row I:=⟨197,[.d (.dat 51)],[.k (.d (.dat 208))],a1s⟩
theorem a5G:RK (b4K) :=
 okR [eR c7Q,eO d1V,eR a4Y,eR a5M] 16 b6A [.cell 2 208] Go.Proofs.Tryz.func197 (by kernel_rfl)
def b5i:Row I:=⟨148,[.d (.sl 9)],[.k (.d (.dat 51))],a2W⟩
theorem a9c:RK (b5i) :=
 okR [eR a5G] 7 Y5 [.cell 2 51] Go.Proofs.Tryz.func148 (by kernel_rfl)
def b7Y:Row I:=⟨150,[.d (.sl 9)],[.k (.d (.dat 51))],a2E⟩
theorem b0C:RK (b7Y) :=
 okR [eR a5G] 7 Y5 [.cell 2 51] Go.Proofs.Tryz.func150 (by kernel_rfl)
def b43:Hints I:=mkH [(1,[[],[0],[0,1],[0,1,2],[],[4],[4,5],[0,1,2,3,4,5,6],[0,1,2,3,4,5,6,7]])] [] [] [] [] [] []
def b2E:Row I:=⟨198,[.d (.dat 208),.d (.dat 208)],[.k (.row 9 false)],a4e⟩
theorem b3z:RK (b2E) :=
 okR [eR c7Q] 13 b43 [.tmp 4] Go.Proofs.Tryz.func198 (by kernel_rfl)
def b7g:Row I:=⟨230,[.d (.str)],[.k (.d (.bool))],a6n⟩
theorem b7E:RK (b7g) :=
 okR [] 6 Y5 [.tmp 2] Go.Proofs.Tryz.func230 (by kernel_rfl)
def b7A:Row I:=⟨191,[.d (.str),.d (.str)],[.k (.d (.bool))],a60⟩
theorem b8G:RK (b7A) :=
 okR [eR b7E] 17 Y5 [.tmp 4] Go.Proofs.Tryz.func191 (by kernel_rfl)
def b3N:Row I:=⟨250,[.d (.str)],[.k (.d (.bool))],a4R⟩
theorem b4x:RK (b3N) :=
 okR [] 6 Y5 [.tmp 2] Go.Proofs.Tryz.func250 (by kernel_rfl)
def a7F (n:Nat):Hints I:=mkH [] [] [] [] [(60,⟨2147476352,[],[],[(7,.k (.d (.int .i64))),(8,.k (.d (.int .i64)))],[((.exit 0),[(7,.k (.d (.int .i64)))])],fun _=>some n⟩)] [] []
def a62 (n:Nat):Row I:=⟨234,[.d (.sl 9),.d (.str)],[.k (.d (.int .i64)),.k (.d (.bool))],a0G n⟩
theorem a7q (n:Nat):RK (a62 n) :=
 okR [eR b8G,eR b4x] 54 (a7F n) [.tmp 4,.tmp 5] Go.Proofs.Tryz.func234 (by kernel_rfl)
def b3M (n:Nat):Row I:=⟨200,[.d (.dat 208),.d (.str)],[.k (.d (.bool))],a3l n⟩
theorem a8g (n:Nat):RK (b3M n) :=
 okR [eR (a7q n)] 16 Y5 [.tmp 4] Go.Proofs.Tryz.func200 (by kernel_rfl)
def b3A (_:Nat):Hints I:=mkH [] [] [] [] [(58,⟨33550496,[],[],[(5,.k (.row 9 false)),(12,.k (.d (.int .i64)))],[((.exit 0),[(5,.k (.row 9 false))])],bnd tb (.slot 11) 1⟩)] [] []
def b2b (n:Nat):Row I:=⟨199,[.d (.dat 208),.d (.dat 208)],[.k (.row 9 false)],a2w n⟩
theorem b3o (n:Nat):RK (b2b n) :=
 okR [eR (a8g n)] 26 (b3A n) [.tmp 4] Go.Proofs.Tryz.func199 (by kernel_rfl)
def b7p (_:Nat):Hints I:=mkH [(1,[[],[0],[],[0,1,2],[],[],[0,1,2,3,4,5],[0,1,2,3,4,5,6]])] [] [] [] [(250,⟨576320014815068800,[],[],[(7,.k (.row 9 false)),(47,.k (.d (.int .i64)))],[((.exit 1),[(7,.k (.row 9 false))])],bnd tb (.slot 46) 1⟩)] [] []
def b4L (n:Nat):Row I:=⟨149,[.d (.dat 51),.d (.dat 51)],[.k (.d (.dat 51))],a3M n⟩
theorem b5J (n:Nat):RK (b4L n) :=
 okR [eR a5G,eR b3z,eR a9c,eR (b3o n),eR b0C,eR (a8g n)] 61 (b7p n) [.cell 4 51] Go.Proofs.Tryz.func149 (by kernel_rfl)
def c3R (_:Nat):Hints I:=mkH [(7,[[],[],[1],[1,2],[1,2,3],[0,1,2,3,4],[0,1,2,3,4,5]]),(14,[[],[],[1],[1,2],[1,2,3],[0,1,2,3,4],[0,1,2,3,4,5]])] [] [] [] [(58,⟨274877646336,[],[(7,.k (.d (.dat 51)))],[(18,.k (.d (.int .i64)))],[((.exit 0),[])],bnd tb (.slot 17) 1⟩),
 (122,⟨2305840810190450688,[],[(7,.k (.d (.dat 51)))],[(41,.k (.d (.int .i64)))],[((.exit 2),[])],bnd tb (.slot 40) 1⟩)] [] []
def c1F (n:Nat):Row I:=⟨85,[.d (.dat 27),.d (.dat 37),.d (.int .i64)],[.k (.d (.dat 51))],a8l n⟩
theorem c2F (n:Nat):RK (c1F n) :=
 okR [eR a9c,eR b0C,eR (b5J n)] 62 (c3R n) [.cell 6 51] Go.Proofs.Tryz.func85 (by kernel_rfl)
def c3Z:Hints I:=mkH [(1,[[],[0],[],[0,1,2],[0,1,2,3],[0,1,2,3,4],[],[0,1,2,3,4,5,6],[0,1,2,3,4,5,6,7]])] [] [] [] [] [] []
def c19:Row I:=⟨151,[.d (.int .i64),.var 27 (.k (.d (.dat 27))) false,.var 3 (.k (.d (.int .i64))) false],[.k (.d (.bool))],b5c⟩
theorem c2n:RK (c19) :=
 okR [] 13 c3Z [.tmp 4] Go.Proofs.Tryz.func151 (by kernel_rfl)
def c38:Row I:=⟨86,[.d (.dat 27),.d (.sl 3),.d (.int .i64)],[.k (.d (.bool))],a6a⟩
theorem c5p:RK (c38) :=
 okR [eR a0g,eR c2n] 10 Y5 [.tmp 6] Go.Proofs.Tryz.func86 (by kernel_rfl)
def c2R:Hints I:=mkH [(5,[[],[0],[],[0,1,2],[0,1,2,3],[0,1,2,3,4],[],[0,1,2,3,4,5,6],[0,1,2,3,4,5,6,7],[0,1,2,3,4,5,6,7,8],[0,1,2,3,4,5,6,7,8],[0,1,2,3,4,5,6,7,8,10],[0,1,2,3,4,5,6,7,8],[0,1,2,3,4,5,6,7,8,10,11,12],[0,1,2,3,4,5,6,7,8,10,11,12,13],[0,1,2,3,4,5,6,7,8,9,10,11,12,13,14],[0,1,2,3,4,5,6,7,8,9,10,11,12,13,14,15]])] [] [] [] [(58,⟨1099511613952,[],[],[(9,.k (.row 3 false)),(14,.k (.d (.int .i64)))],[((.exit 0),[(9,.k (.row 3 false))])],bnd tb (.slot 13) 1⟩)] [] []
def c0I:Row I:=⟨87,[.d (.dat 82),.d (.dat 27),.d (.sl 3),.d (.int .i64)],[.k (.row 3 false)],a7b⟩
theorem c1g:RK (c0I) :=
 okR [eR b1F] 41 c2R [.tmp 8] Go.Proofs.Tryz.func87 (by kernel_rfl)
def c4Q (_:Nat):Hints I:=mkH [(8,[[],[],[1],[1,2],[1,2,3],[0],[0,1,2,3,4,5]]),(11,[[],[],[],[2],[1,2,3],[1,2,3,4],[1,2,3,4,5],[1,2,3,4,5,6],[1,2,3,4,5,6,7],[1,2,3,4,5,6,7,8],[1,2,3,4,5,6,7,8,9],[1,2,3,4,5,6,7,8,9,10],[1,2,3,4,5,6,7,8,9,10,11],[1,2,3,4,5,6,7,8,9,10,11,12],[1,2,3,4,5,6,7,8,9,10,11,12,13],[1,2,3,4,5,6,7,8,9,10,11,12,13,14],[1,2,3,4,5,6,7,8,9,10,11,12,13,14,15],[1,2,3,4,5,6,7,8,9,10,11,12,13,14,15,16],[0,1,2,3,4,5,6,7,8,9,10],[0,1,2,3,4,5,6,7,8,9,10,11,12,13,14,15,16,17,18]]),(14,[[],[],[],[2],[1,2,3],[1,2,3,4],[1,2,3,4,5],[1,2,3,4,5,6],[1,2,3,4,5,6,7],[1,2,3,4,5,6,7,8],[1,2,3,4,5,6,7,8,9],[1,2,3,4,5,6,7,8,9,10],[1,2,3,4,5,6,7,8,9,10,11],[1,2,3,4,5,6,7,8,9,10,11,12],[1,2,3,4,5,6,7,8,9,10,11,12,13],[1,2,3,4,5,6,7,8,9,10,11,12,13,14],[1,2,3,4,5,6,7,8,9,10,11,12,13,14,15],[1,2,3,4,5,6,7,8,9,10,11,12,13,14,15,16],[0,1,2,3,4,5,6,7,8,9,10],[0,1,2,3,4,5,6,7,8,9,10,11,12,13,14,15,16,17,18]]),(16,[[],[],[],[2],[1,2,3],[1,2,3,4],[0,1,2,3,4],[0,1,2,3,4,5,6]]),(18,[[],[],[],[2],[1,2,3],[1,2,3,4],[0,1,2,3,4],[0,1,2,3,4,5,6]]),(27,[[],[],[],[2],[],[0,1,2,3,4],[],[],[],[8],[],[0,1,2,3,4,5,6,7,8,9,10],[0,1,2,3,4,5],[0,1,2,3,4,5,6,7,8,9,10,11,12],[0,1,2,3,4,5,6,7,8,9,10,11,12,13],[0,1,2,3,4,5,6,7,8,9,10,11,12,13,14]]),(28,[[],[],[1],[1,2],[1,2,3],[1,2,3],[1,2,3,5],[1,2,3],[1,2,3,4,5,6,7],[1,2,3,4,5,6,7,8],[1,2,3,4,5,6,7,8,9],[0,1,2,3,4,5,6,7,8],[0,1,2,3,4,5,6,7,8,9,10,11]])] [(11,[47,51]),(14,[71,75]),(28,[124])] [] [(125,⟨162259276829213363391577993512576,[],[(6,.lvs [.d (.int .i64),.d (.int .i64),.d (.sl 126),.d (.bool),.d (.sl 9),.d (.sl 3),.d (.sl 3),.d (.sl 9),.d (.sl 9)]),(8,.lvs [.d (.int .i64),.d (.int .i64),.d (.sl 126),.d (.bool),.d (.sl 9),.d (.sl 3),.d (.sl 3),.d (.sl 9),.d (.sl 9)])],[(.normal,[(9,.k (.d (.int .i64))),(10,.k (.d (.int .i64)))]),(.ret,[(7,.k (.d (.bool)))])]⟩)] [] [] []
noncomputable def c28 (n:Nat):Row I:=⟨41,[.d (.dat 27),.d (.dat 37),.d (.dat 82)],[.k (.d (.dat 53)),.k (.d (.bool))],a9t n⟩
theorem c3N (n:Nat):RK (c28 n) :=
 okR [eR b95,eR c30,eR (c2F n),eR c5p,eR c1g] 132 (c4Q n) [.cell 6 53,.tmp 7] Go.Proofs.Tryz.func41 (by kernel_rfl)
def c3X (_:Nat):Hints I:=mkH [(7,[[],[],[1],[0,1,2],[],[],[5],[0,1,2,3,4,5,6],[0,1,2,3,4,5,6,7],[0,1,2,3,4,5,6,7,8]])] [] [] [] [(122,⟨37778931862957027507104,[25],[],[(5,.k (.row 53 false)),(27,.k (.d (.int .i64)))],[((.exit 0),[(5,.k (.row 53 false))])],bnd tb (.slot 26) 1⟩),
 (125342,⟨18889463679678767183904,[49],[],[(5,.k (.row 53 false)),(51,.k (.d (.int .i64)))],[((.exit 2),[(5,.k (.row 53 false))])],bnd tb (.slot 50) 1⟩)] [] []
noncomputable def c2e (n:Nat):Row I:=⟨16,[.d (.dat 27),.d (.dat 37)],[.k (.row 53 false)],a6J n⟩
theorem b5N (n:Nat):RK (c2e n) :=
 okR [eR (a8k n),eR b51,eR (b86 n),eR c37,eR c0T,eR b7R,eR c32,eR (c3N n),eR c7Q] 76 (c3X n) [.tmp 4] Go.Proofs.Tryz.func16 (by kernel_rfl)
def b7G:Row I:=⟨23,[.d (.int .i64)],[.k (.d (.dat 33))],a1Y⟩
theorem a69:RK (b7G) :=
 okR [] 5 Y5 [.cell 2 33] Go.Proofs.Tryz.func23 (by kernel_rfl)
def c4W:Hints I:=mkH [] [] [] [(105,⟨160,[],[],[(.normal,[(5,.k (.d (.bool)))])]⟩),
 (429,⟨2560,[],[],[(.normal,[(9,.k (.d (.bool)))])]⟩),
 (6909,⟨327680,[],[],[(.normal,[(16,.k (.d (.bool)))])]⟩)] [] [] []
def c2v:Row I:=⟨165,[.d (.int .i64)],[.k (.d (.dat 185)),.k (.d (.bool))],a7u⟩
theorem c33:RK (c2v) :=
 okR [] 27 c4W [.cell 2 185,.tmp 3] Go.Proofs.Tryz.func165 (by kernel_rfl)
def b27:Hints I:=mkH [(4,[[],[],[],[2],[1,2,3],[1,2,3,4],[],[],[6,7],[6,7,8],[0,1,2,3,4,5,6,7,8,9],[0,1,2,3,4,5,6,7,8,9,10]])] [] [] [] [(26,⟨16777200,[],[],[(5,.k (.d (.int .i64)))],[((.exit 0),[]),(.ret,[(4,.k (.d (.bool)))])],bnd tb (.len (.slot 0)) 1⟩)] [] []
def b07:Row I:=⟨215,[.d (.sl 9),.fn [.str,.str] [.k (.d (.int .i64))]],[.k (.d (.bool))],a5u⟩
theorem b2h:RK (b07) :=
 okR [] 24 b27 [.tmp 4] Go.Proofs.Tryz.func215 (by kernel_rfl)
def b72:Hints I:=mkH [] [] [] [] [(58,⟨261140,[],[],[(10,.k (.d (.int .i64)))],[((.exit 0),[]),(.ret,[(2,.k (.d (.bool)))])],bnd tb (.slot 9) 1⟩)] [] []
def b5m:Row I:=⟨166,[.d (.sl 9)],[.k (.d (.bool))],a5A⟩
theorem b6I:RK (b5m) :=
 okR [eR b2h,eR a64,eR a9R] 18 b72 [.tmp 2] Go.Proofs.Tryz.func166 (by kernel_rfl)
def b2l:Hints I:=mkH [(4,[[],[],[],[2],[1,2,3],[1,2,3,4],[],[],[6,7],[6,7,8],[0,1,2,3,4,5,6,7,8,9],[0,1,2,3,4,5,6,7,8,9,10]])] [] [] [] [(26,⟨16777200,[],[],[(5,.k (.d (.int .i64)))],[((.exit 0),[]),(.ret,[(4,.k (.d (.bool)))])],bnd tb (.len (.slot 0)) 1⟩)] [] []
def b0T:Row I:=⟨217,[.d (.sl 130),.fn [.dat 130,.dat 130] [.k (.d (.int .i64))]],[.k (.d (.bool))],a44⟩
theorem b08:RK (b0T) :=
 okR [] 24 b2l [.tmp 4] Go.Proofs.Tryz.func217 (by kernel_rfl)
def c0Z:Hints I:=mkH [] [] [] [] [(58,⟨534773780,[],[],[(21,.k (.d (.int .i64)))],[((.exit 0),[]),(.ret,[(2,.k (.d (.bool)))])],bnd tb (.slot 20) 1⟩)] [] []
def b85:Row I:=⟨167,[.d (.dat 33)],[.k (.d (.bool))],a7M⟩
theorem b9Z:RK (b85) :=
 okR [eR b08,eR a6k,eR b1E] 29 c0Z [.tmp 2] Go.Proofs.Tryz.func167 (by kernel_rfl)
def b0W:Hints I:=mkH [(4,[[],[],[],[2],[1,2,3],[1,2,3,4],[],[],[6,7],[6,7,8],[0,1,2,3,4,5,6,7,8,9],[0,1,2,3,4,5,6,7,8,9,10]])] [] [] [] [(26,⟨16777200,[],[],[(5,.k (.d (.int .i64)))],[((.exit 0),[]),(.ret,[(4,.k (.d (.bool)))])],bnd tb (.len (.slot 0)) 1⟩)] [] []
def a9H:Row I:=⟨218,[.d (.sl 97),.fn [.dat 97,.dat 97] [.k (.d (.int .i64))]],[.k (.d (.bool))],a4q⟩
theorem b0g:RK (a9H) :=
 okR [] 24 b0W [.tmp 4] Go.Proofs.Tryz.func218 (by kernel_rfl)
def a9v:Hints I:=mkH [(7,[[],[],[],[1,2],[1,2,3],[],[],[5,6],[5,6,7],[0,1,2,3,4,5,6,7,8],[0,1,2,3,4,5,6,7,8,9]])] [] [] [] [(58,⟨137437905728,[],[],[(20,.k (.d (.int .i64)))],[((.exit 0),[]),(.ret,[(6,.k (.d (.int .i64)))])],bnd tb (.slot 19) 1⟩)] [] []
def a8y:Row I:=⟨253,[.d (.sl 33),.d (.sl 33),.fn [.dat 33,.dat 33] [.k (.d (.int .i64))]],[.k (.d (.int .i64))],a3q⟩
theorem a8V:RK (a8y) :=
 okR [eR a2y] 37 a9v [.tmp 6] Go.Proofs.Tryz.func253 (by kernel_rfl)
def a9W:Hints I:=mkH [(7,[[],[],[],[1,2],[1,2,3],[],[],[5,6],[5,6,7],[0,1,2,3,4,5,6,7,8],[0,1,2,3,4,5,6,7,8,9]])] [] [] [] [(58,⟨137437905728,[],[],[(20,.k (.d (.int .i64)))],[((.exit 0),[]),(.ret,[(6,.k (.d (.int .i64)))])],bnd tb (.slot 19) 1⟩)] [] []
def a9e:Row I:=⟨254,[.d (.sl 130),.d (.sl 130),.fn [.dat 130,.dat 130] [.k (.d (.int .i64))]],[.k (.d (.int .i64))],a3W⟩
theorem a9I:RK (a9e) :=
 okR [eR a2y] 37 a9W [.tmp 6] Go.Proofs.Tryz.func254 (by kernel_rfl)
def a9m:Hints I:=mkH [(7,[[],[],[],[1,2],[1,2,3],[],[],[5,6],[5,6,7],[0,1,2,3,4,5,6,7,8],[0,1,2,3,4,5,6,7,8,9]])] [] [] [] [(58,⟨137437905728,[],[],[(20,.k (.d (.int .i64)))],[((.exit 0),[]),(.ret,[(6,.k (.d (.int .i64)))])],bnd tb (.slot 19) 1⟩)] [] []
def a8v:Row I:=⟨255,[.d (.sl 97),.d (.sl 97),.fn [.dat 97,.dat 97] [.k (.d (.int .i64))]],[.k (.d (.int .i64))],a3o⟩
theorem a8W:RK (a8v) :=
 okR [eR a2y] 37 a9m [.tmp 6] Go.Proofs.Tryz.func255 (by kernel_rfl)
def b0X:Hints I:=mkH [(7,[[],[],[],[1,2],[1,2,3],[],[],[5,6],[5,6,7],[0,1,2,3,4,5,6,7,8],[0,1,2,3,4,5,6,7,8,9]])] [] [] [] [(58,⟨137437905728,[],[],[(20,.k (.d (.int .i64)))],[((.exit 0),[]),(.ret,[(6,.k (.d (.int .i64)))])],bnd tb (.slot 19) 1⟩)] [] []
def a9G:Row I:=⟨256,[.d (.sl 9),.d (.sl 9),.fn [.str,.str] [.k (.d (.int .i64))]],[.k (.d (.int .i64))],a4g⟩
theorem a98:RK (a9G) :=
 okR [eR a2y] 37 b0X [.tmp 6] Go.Proofs.Tryz.func256 (by kernel_rfl)
def a24 (n:Nat):Row I:=⟨241,[.d (.dat 33),.d (.dat 33)],[.k (.d (.int .i64))],a3a n⟩
def a0y (n:Nat):Row I:=⟨219,[.d (.dat 97),.d (.dat 97)],[.k (.d (.int .i64))],V4 n⟩
def a1O (n:Nat):Row I:=⟨240,[.d (.sl 33),.d (.sl 33)],[.k (.d (.int .i64))],a3j n⟩
theorem b9S (n:Nat)(_:j6 Go.Proofs.Tryz.prog (a24 n))(h_value_compareEntries:j6 Go.Proofs.Tryz.prog (a0y n))(h_value_compareValues:j6 Go.Proofs.Tryz.prog (a1O n)):RK (a24 (n+1)) :=
 okR [eR a2y,eR a9n,eR a64,eR a9I,eR a6k,eR h_value_compareValues,eR a8W,eR h_value_compareEntries,eR a98] 64 Y5 [.tmp 4] Go.Proofs.Tryz.func241 (by kernel_rfl)
theorem b2O (n:Nat)(h_value_Compare:j6 Go.Proofs.Tryz.prog (a24 n))(_:j6 Go.Proofs.Tryz.prog (a0y n))(h_value_compareValues:j6 Go.Proofs.Tryz.prog (a1O n)):RK (a0y (n+1)) :=
 okR [eR h_value_compareValues,eR h_value_Compare] 26 Y5 [.tmp 4] Go.Proofs.Tryz.func219 (by kernel_rfl)
theorem b3L (n:Nat)(h_value_Compare:j6 Go.Proofs.Tryz.prog (a24 n))(_:j6 Go.Proofs.Tryz.prog (a0y n))(_:j6 Go.Proofs.Tryz.prog (a1O n)):RK (a1O (n+1)) :=
 okR [eR a8V,eR h_value_Compare] 8 Y5 [.tmp 4] Go.Proofs.Tryz.func240 (by kernel_rfl)
theorem a6e:∀ n:Nat,j6 Go.Proofs.Tryz.prog (a24 n)/\j6 Go.Proofs.Tryz.prog (a0y n)/\j6 Go.Proofs.Tryz.prog (a1O n)
 | 0=>⟨K5 (by kernel_rfl),K5 (by kernel_rfl),K5 (by kernel_rfl)⟩
 | n+1=>by
   obtain ⟨h0,h1,h2⟩:=a6e n
   exact ⟨b9S n h0 h1 h2,b2O n h0 h1 h2,b3L n h0 h1 h2⟩
theorem c0S (n:Nat):j6 Go.Proofs.Tryz.prog (a24 n):=(a6e n).1
theorem b3P (n:Nat):j6 Go.Proofs.Tryz.prog (a0y n):=(a6e n).2.1
def c1c (n:Nat):Row I:=⟨257,[.d (.dat 33),.d (.dat 33)],[.k (.d (.bool))],b4f n⟩
theorem c2X (n:Nat):RK (c1c n) :=
 okR [eR (c0S n)] 9 Y5 [.tmp 4] Go.Proofs.Tryz.func257 (by kernel_rfl)
def c0V (n:Nat):Row I:=⟨242,[.d (.dat 33)],[.k (.d (.bool))],b3t n⟩
theorem c1x (n:Nat):RK (c0V n) :=
 okR [eR (c2X n)] 6 Y5 [.tmp 2] Go.Proofs.Tryz.func242 (by kernel_rfl)
def b6u (n:Nat):Row I:=⟨220,[.d (.dat 97),.d (.int .i64)],[.k (.d (.bool))],a4G n⟩
theorem b7T (n:Nat):RK (b6u n) :=
 okR [eR (c1x n)] 20 Y5 [.tmp 4] Go.Proofs.Tryz.func220 (by kernel_rfl)
def b5P (_:Nat):Hints I:=mkH [] [] [] [] [(58,⟨4290773012,[],[],[(22,.k (.d (.int .i64)))],[((.exit 0),[]),(.ret,[(2,.k (.d (.bool)))])],bnd tb (.slot 21) 1⟩)] [] []
def b3C (n:Nat):Row I:=⟨168,[.d (.dat 33)],[.k (.d (.bool))],a4Q n⟩
theorem b4S (n:Nat):RK (b3C n) :=
 okR [eR b0g,eR (b3P n),eR (b7T n)] 32 (b5P n) [.tmp 2] Go.Proofs.Tryz.func168 (by kernel_rfl)
def b7K (n:Nat):Row I:=⟨117,[.d (.dat 33)],[.k (.d (.bool))],a6W n⟩
theorem b84 (n:Nat):RK (b7K n) :=
 okR [eR c33,eR b6I,eR a9i,eR b9Z,eR (b4S n)] 124 Y5 [.tmp 2] Go.Proofs.Tryz.func117 (by kernel_rfl)
def c3U:Hints I:=mkH [] [] [] [] [(58,⟨536866856,[],[],[(3,.k (.row 33 false)),(12,.k (.d (.int .i64)))],[((.exit 0),[(3,.k (.row 33 false))])],bnd tb (.slot 11) 1⟩)] [] []
def c18:Row I:=⟨118,[.d (.dat 33)],[.k (.row 33 false)],b0u⟩
theorem c2y:RK (c18) :=
 okR [eR d3x] 30 c3U [.tmp 2] Go.Proofs.Tryz.func118 (by kernel_rfl)
def c0a (_:Nat):Hints I:=mkH [] [] [] [] [(58,⟨522260,[9],[],[(11,.k (.d (.int .i64)))],[((.exit 0),[]),(.ret,[(2,.k (.d (.bool)))])],bnd tb (.slot 10) 1⟩)] [] []
def a6O (n:Nat):Row I:=⟨59,[.d (.dat 33)],[.k (.d (.bool))],a2P n⟩
theorem b7Z (n:Nat)(h_value_validTree:j6 Go.Proofs.Tryz.prog (a6O n)):RK (a6O (n+1)) :=
 okR [eR (b84 n),eR c2y,eR h_value_validTree] 19 (c0a n) [.tmp 2] Go.Proofs.Tryz.func59 (by kernel_rfl)
theorem b0E:∀ n:Nat,j6 Go.Proofs.Tryz.prog (a6O n)
 | 0=>K5 (by kernel_rfl)
 | n+1=>b7Z n (b0E n)
def b8L (n:Nat):Row I:=⟨28,[.d (.dat 33)],[.k (.d (.int .i64))],a7x n⟩
theorem b98 (n:Nat):RK (b8L n) :=
 okR [eR (b0E n)] 6 Y5 [.tmp 2] Go.Proofs.Tryz.func28 (by kernel_rfl)
def c2i:Row I:=⟨125,[.d (.int .i64)],[.k (.d (.int .i64))],c0i⟩
theorem c2P:RK (c2i) :=
 okR [] 14 Y5 [.tmp 2] Go.Proofs.Tryz.func125 (by kernel_rfl)
def a9z:Hints I:=mkH [(4,[[],[],[],[1,2],[1,2,3],[0,1,2,3,4]])] [] [] [] [(26,⟨524080,[],[],[(8,.k (.d (.int .i64)))],[((.exit 0),[]),(.ret,[(4,.k (.d (.int .i64)))])],bnd tb (.slot 7) 1⟩)] [] []
def a8F:Row I:=⟨222,[.d (.sl 130),.d (.dat 130)],[.k (.d (.int .i64))],a3s⟩
theorem a8Z:RK (a8F) :=
 okR [] 19 a9z [.tmp 4] Go.Proofs.Tryz.func222 (by kernel_rfl)
def a7w:Row I:=⟨178,[.d (.sl 130),.d (.dat 130)],[.k (.d (.bool))],a04⟩
theorem a7X:RK (a7w) :=
 okR [eR a8Z] 9 Y5 [.tmp 4] Go.Proofs.Tryz.func178 (by kernel_rfl)
def c9Z:Hints I:=mkH [] [] [] [] [(26,⟨2096208,[],[],[(10,.k (.d (.int .i64)))],[((.exit 0),[]),(.ret,[(4,.k (.d (.int .i64)))])],bnd tb (.slot 9) 1⟩)] [] []
def c6g:Row I:=⟨179,[.d (.dat 65),.d (.dat 130)],[.k (.d (.int .i64))],b9A⟩
theorem c7T:RK (c6g) :=
 okR [] 26 c9Z [.tmp 4] Go.Proofs.Tryz.func179 (by kernel_rfl)
def c8c (_:Nat):Hints I:=mkH [(6,[[],[],[],[],[2,3],[2,3,4],[0,1,2,3,4,5],[0,1,2,3,4,5,6]])] [] [] [] [(58,⟨1073676736,[],[],[(16,.k (.d (.int .i64)))],[((.exit 0),[]),(.ret,[(6,.k (.d (.bool)))])],bnd tb (.slot 15) 1⟩)] [] []
def a2M (n:Nat):Row I:=⟨126,[.d (.sl 33),.d (.dat 27),.d (.sl 3)],[.k (.d (.bool))],a5v n⟩
def b7S (_:Nat):Hints I:=mkH [(2,[[],[0],[],[],[3],[],[3,4,5],[0,1,2,3,4,5,6],[0,1,2,3,4,5,6,7],[0,1,2,3,4,5,6,7,8],[0,1,2,3,4,5,6,7,8,9],[0,1,2,3,4,5,6,7,8,9,10],[0,1,2,3,4,5,6,7,8,9,10,11],[0,1,2,3,4,5,6,7,8,9,10,11,12],[0,1,2,3,4,5,6,7,8,9,10,11,12,13],[0,1,2,3,4,5,6,7,8,9,10,11,12,13,14],[0,1,2,3,4,5,6,7,8,9,10,11,12,13],[0,1,2,3,4,5,6,7,8,9,10,11,12,13],[0,1,2,3,4,5,6,7,8,9,10,11,12,13,17],[0,1,2,3,4,5,6,7,8,9,10,11,12,13],[0,1,2,3,4,5,6,7,8,9,10,11,12,13,17,18,19],[0,1,2,3,4,5,6,7,8,9,10,11,12,13,17,18,19,20],[0,1,2,3,4,5,6,7,8,9,10,11,12,13,14,15,16,17,18,19,20,21],[0,1,2,3,4,5,6,7,8,9,10,11,12,13,14,15,16,17,18,19,20,21,22],[0,1,2,3,4,5,6,7,8,9,10,11,12,13,14,15,16,17,18,19,20,21,22,23],[0,1,2,3,4,5,6,7,8,9,10,11,12,13,14,15,16,17,18,19,20,21,22,23,24]])] [] [] [] [] [] []
def W2 (n:Nat):Row I:=⟨180,[.d (.dat 97),.d (.dat 27),.d (.dat 65)],[.k (.d (.bool))],W5 n⟩
def b8J (_:Nat):Hints I:=mkH [] [] [] [] [(58,⟨536346944,[],[],[(19,.k (.d (.int .i64)))],[((.exit 0),[]),(.ret,[(6,.k (.d (.bool)))])],bnd tb (.slot 18) 1⟩)] [] []
def W9 (n:Nat):Row I:=⟨128,[.d (.dat 33),.d (.dat 27),.d (.dat 65)],[.k (.d (.bool))],a0j n⟩
def c7W (_:Nat):Hints I:=mkH [(17,[[],[0],[],[2],[2,3],[0,1,2,3,4],[0,1,2,3,4,5]]),(31,[[],[],[],[2],[2,3],[2,3,4],[0,1,2,3,4,5],[0,1,2,3,4,5,6],[0,1,2,3,4,5,6,7]])] [] [] [(60413,⟨144115188075855872000,[],[],[(.normal,[(60,.k (.d (.bool)))])]⟩)] [] [] []
def a2c (n:Nat):Row I:=⟨67,[.d (.dat 33),.d (.dat 27),.d (.int .i64)],[.k (.d (.bool))],X5 n⟩
def a1D (n:Nat):Row I:=⟨129,[.d (.int .i64),.var 33 (.k (.d (.dat 33))) false,.var 27 (.k (.d (.dat 27))) false],[.k (.d (.bool))],a3z n⟩
def a1E (n:Nat):Row I:=⟨130,[.d (.int .i64),.var 33 (.k (.d (.dat 33))) false,.var 27 (.k (.d (.dat 27))) false],[.k (.d (.bool))],a3u n⟩
def c36 (_:Nat):Hints I:=mkH [(10,[[],[0],[],[0,1,2],[0,1,2,3],[],[],[],[6,7],[0,1,2,3,4,5,6,7,8],[0,1,2,3,4,5,6,7,8,9]])] [] [] [] [(26,⟨1073725760,[],[],[(14,.k (.d (.int .i64)))],[((.exit 0),[]),(.ret,[(6,.k (.d (.bool)))])],bnd tb (.slot 13) 1⟩),
 (58,⟨1125891316909632,[],[],[(33,.k (.d (.int .i64)))],[((.exit 2),[]),(.ret,[(6,.k (.d (.bool)))])],bnd tb (.slot 32) 1⟩)] [] []
def a1k (n:Nat):Row I:=⟨127,[.d (.dat 33),.d (.dat 27),.d (.dat 65)],[.k (.d (.bool))],a2D n⟩
theorem c5S (n:Nat)(_:j6 Go.Proofs.Tryz.prog (a2M n))(_:j6 Go.Proofs.Tryz.prog (W2 n))(_:j6 Go.Proofs.Tryz.prog (W9 n))(h_core_Has:j6 Go.Proofs.Tryz.prog (a2c n))(_:j6 Go.Proofs.Tryz.prog (a1D n))(_:j6 Go.Proofs.Tryz.prog (a1E n))(_:j6 Go.Proofs.Tryz.prog (a1k n)):RK (a2M (n+1)) :=
 okR [eR h_core_Has] 30 (c8c n) [.tmp 6] Go.Proofs.Tryz.func126 (by kernel_rfl)
theorem b57 (n:Nat)(h_core_all:j6 Go.Proofs.Tryz.prog (a2M n))(_:j6 Go.Proofs.Tryz.prog (W2 n))(_:j6 Go.Proofs.Tryz.prog (W9 n))(h_core_Has:j6 Go.Proofs.Tryz.prog (a2c n))(_:j6 Go.Proofs.Tryz.prog (a1D n))(_:j6 Go.Proofs.Tryz.prog (a1E n))(_:j6 Go.Proofs.Tryz.prog (a1k n)):RK (W2 (n+1)) :=
 okR [eR h_core_all,eR h_core_Has] 37 (b7S n) [.tmp 6] Go.Proofs.Tryz.func180 (by kernel_rfl)
theorem b6B (n:Nat)(_:j6 Go.Proofs.Tryz.prog (a2M n))(h_core_EntryAllowed:j6 Go.Proofs.Tryz.prog (W2 n))(_:j6 Go.Proofs.Tryz.prog (W9 n))(_:j6 Go.Proofs.Tryz.prog (a2c n))(_:j6 Go.Proofs.Tryz.prog (a1D n))(_:j6 Go.Proofs.Tryz.prog (a1E n))(_:j6 Go.Proofs.Tryz.prog (a1k n)):RK (W9 (n+1)) :=
 okR [eR h_core_EntryAllowed] 29 (b8J n) [.tmp 6] Go.Proofs.Tryz.func128 (by kernel_rfl)
theorem c4z (n:Nat)(h_core_all:j6 Go.Proofs.Tryz.prog (a2M n))(_:j6 Go.Proofs.Tryz.prog (W2 n))(h_core_functionHas:j6 Go.Proofs.Tryz.prog (W9 n))(h_core_Has:j6 Go.Proofs.Tryz.prog (a2c n))(h_core_Has_1:j6 Go.Proofs.Tryz.prog (a1D n))(h_core_Has_2:j6 Go.Proofs.Tryz.prog (a1E n))(h_core_mapHas:j6 Go.Proofs.Tryz.prog (a1k n)):RK (a2c (n+1)) :=
 okR [eR c2P,eR h_core_all,eR h_core_mapHas,eR h_core_functionHas,eR a0g,eR h_core_Has_1,eR h_core_Has_2,eR h_core_Has,eR a4C] 151 (c7W n) [.tmp 6] Go.Proofs.Tryz.func67 (by kernel_rfl)
theorem c2E (n:Nat)(_:j6 Go.Proofs.Tryz.prog (a2M n))(_:j6 Go.Proofs.Tryz.prog (W2 n))(_:j6 Go.Proofs.Tryz.prog (W9 n))(h_core_Has:j6 Go.Proofs.Tryz.prog (a2c n))(_:j6 Go.Proofs.Tryz.prog (a1D n))(_:j6 Go.Proofs.Tryz.prog (a1E n))(_:j6 Go.Proofs.Tryz.prog (a1k n)):RK (a1D (n+1)) :=
 okR [eR h_core_Has] 9 Y5 [.tmp 4] Go.Proofs.Tryz.func129 (by kernel_rfl)
theorem c2w (n:Nat)(_:j6 Go.Proofs.Tryz.prog (a2M n))(_:j6 Go.Proofs.Tryz.prog (W2 n))(_:j6 Go.Proofs.Tryz.prog (W9 n))(h_core_Has:j6 Go.Proofs.Tryz.prog (a2c n))(_:j6 Go.Proofs.Tryz.prog (a1D n))(_:j6 Go.Proofs.Tryz.prog (a1E n))(_:j6 Go.Proofs.Tryz.prog (a1k n)):RK (a1E (n+1)) :=
 okR [eR h_core_Has] 10 Y5 [.tmp 4] Go.Proofs.Tryz.func130 (by kernel_rfl)
theorem c13 (n:Nat)(_:j6 Go.Proofs.Tryz.prog (a2M n))(_:j6 Go.Proofs.Tryz.prog (W2 n))(_:j6 Go.Proofs.Tryz.prog (W9 n))(h_core_Has:j6 Go.Proofs.Tryz.prog (a2c n))(_:j6 Go.Proofs.Tryz.prog (a1D n))(_:j6 Go.Proofs.Tryz.prog (a1E n))(_:j6 Go.Proofs.Tryz.prog (a1k n)):RK (a1k (n+1)) :=
 okR [eR a7X,eR c7T,eR h_core_Has] 50 (c36 n) [.tmp 6] Go.Proofs.Tryz.func127 (by kernel_rfl)
theorem b3Z:∀ n:Nat,j6 Go.Proofs.Tryz.prog (a2M n)/\j6 Go.Proofs.Tryz.prog (W2 n)/\j6 Go.Proofs.Tryz.prog (W9 n)/\j6 Go.Proofs.Tryz.prog (a2c n)/\j6 Go.Proofs.Tryz.prog (a1D n)/\j6 Go.Proofs.Tryz.prog (a1E n)/\j6 Go.Proofs.Tryz.prog (a1k n)
 | 0=>⟨K5 (by kernel_rfl),K5 (by kernel_rfl),K5 (by kernel_rfl),K5 (by kernel_rfl),K5 (by kernel_rfl),K5 (by kernel_rfl),K5 (by kernel_rfl)⟩
 | n+1=>by
   obtain ⟨h0,h1,h2,h3,h4,h5,h6⟩:=b3Z n
   exact ⟨c5S n h0 h1 h2 h3 h4 h5 h6,b57 n h0 h1 h2 h3 h4 h5 h6,b6B n h0 h1 h2 h3 h4 h5 h6,c4z n h0 h1 h2 h3 h4 h5 h6,c2E n h0 h1 h2 h3 h4 h5 h6,c2w n h0 h1 h2 h3 h4 h5 h6,c13 n h0 h1 h2 h3 h4 h5 h6⟩
theorem c0j (n:Nat):j6 Go.Proofs.Tryz.prog (a2c n):=(b3Z n).2.2.2.1
def b9T (n:Nat):Row I:=⟨66,[.d (.int .i64),.var 33 (.k (.d (.dat 33))) false,.var 27 (.k (.d (.dat 27))) false],[.k (.d (.bool))],b1y n⟩
theorem c0u (n:Nat):RK (b9T n) :=
 okR [eR (c0j n)] 10 Y5 [.tmp 4] Go.Proofs.Tryz.func66 (by kernel_rfl)
def b97 (n:Nat):Row I:=⟨68,[.d (.int .i64),.var 33 (.k (.d (.dat 33))) false,.var 27 (.k (.d (.dat 27))) false],[.k (.d (.bool))],b1d n⟩
theorem c0z (n:Nat):RK (b97 n) :=
 okR [eR (c0j n)] 9 Y5 [.tmp 4] Go.Proofs.Tryz.func68 (by kernel_rfl)
def c15 (n:Nat):Row I:=⟨31,[.d (.dat 33),.d (.dat 27),.d (.sl 3),.d (.sl 3)],[.k (.d (.bool))],b0r n⟩
theorem c2Q (n:Nat):RK (c15 n) :=
 okR [eR a0g,eR (c0u n),eR (c0z n)] 19 Y5 [.tmp 8] Go.Proofs.Tryz.func31 (by kernel_rfl)
def c01 (n:Nat):Row I:=⟨12,[.d (.dat 33),.d (.dat 27),.d (.dat 37)],[.k (.d (.bool))],a4M n⟩
theorem c1W (n:Nat):RK (c01 n) :=
 okR [eR (b98 n),eR (a8k n),eR b51,eR (c2Q n)] 40 Y5 [.tmp 6] Go.Proofs.Tryz.func12 (by kernel_rfl)
def c0o:Row I:=⟨11,[.d (.dat 37)],[.k (.d (.dat 37))],a9b⟩
theorem c1N:RK (c0o) :=
 okR [eR a97] 5 Y5 [.cell 2 37] Go.Proofs.Tryz.func11 (by kernel_rfl)
def b7U (_:Nat):Hints I:=mkH [(4,[[],[0],[0,1],[0,1,2],[0,1,2,3],[0,1,2,3],[0,1,2,3],[0,1,2,3,4,5,6],[0,1,2,3,4,5,6,7],[0,1,2,3,4,5,6,7,8],[0,1,2,3,4,5,6,7,8,9],[0,1,2,3,4,5,6,7,8,9],[0,1,2,3,4,5,6,7,8,9],[0,1,2,3,4,5,6,7,8,9,10,11,12],[0,1,2,3,4,5,6,7,8,9,10,11,12,13],[0,1,2,3,4,5,6,7,8,9,10,11,12,13,14],[0,1,2,3,4,5,6,7,8,9,10,11,12,13,14,15],[0,1,2,3,4,5,6,7,8,9,10,11,12,13,14,15,16],[0,1,2,3,4,5,6,7,8,9,10,11,12,13,14,15,16,17],[0,1,2,3,4,5,6,7,8,9,10,11,12,13,14,15,16,17,18],[0,1,2,3,4,5,6,7,8,9,10,11,12,13,14,15,16,17,18,19],[0,1,2,3,4,5,6,7,8,9,10,11,12,13,14,15,16,17,18,19,20],[0,1,2,3,4,5,6,7,8,9,10,11,12,13,14,15,16,17,18,19,20,21],[0,1,2,3,4,5,6,7,8,9,10,11,12,13,14,15,16,17,18,19,20,21,22],[0,1,2,3,4,5,6,7,8,9,10,11,12,13,14,15,16,17,18,19,20,21,22,23]])] [(4,[31])] [] [] [] [] []
noncomputable def b5w (n:Nat):Row I:=⟨8,[],[.k (.d (.bool))],a23 n⟩
theorem b7m (n:Nat):RK (b5w n) :=
 okR [eR (b5N n),eR a69,eR (c1W n),eR c1N] 39 (b7U n) [.tmp 0] Go.Proofs.Tryz.func8 (by kernel_rfl)
def b1X:Hints I:=mkH [(1,[[],[0],[0,1],[0,1,2],[0,1,2,3],[0,1,2,3,4],[0,1,2,3,4,5],[0,1,2],[0,1,2,7],[0,1,2,7,8],[0,1,2,7,8,9],[0,1,2,7,8,9,10],[0,1,2,3,4,5,6,7,8,9,10,11],[0,1,2,3,4,5,6,7,8,9,10,11,12]]),(3,[[],[0],[0,1],[0,1,2],[],[4],[4,5],[4,5,6],[0,1,2,3,4,5,6,7],[0,1,2,3,4,5,6,7,8],[],[0,1,2,3,4,5,6,7,8,9,10],[0,1,2,3,4,5,6,7,8,9,10,11]])] [] [] [] [] [] []
def b06:Row I:=⟨25,[.var 40 (.k (.d (.dat 40))) true,.d (.int .i64)],[.k (.d (.int .i64))],z8⟩
theorem w8:RK (b06) :=
 okR [] 46 b1X [.tmp 4] Go.Proofs.Tryz.func25 (by kernel_rfl)
def a8X:Row I:=⟨98,[.var 40 (.k (.d (.dat 40))) true],[.k (.d (.str))],V6⟩
theorem a1h:RK (a8X) :=
 okR [eR w8] 8 Y5 [.tmp 2] Go.Proofs.Tryz.func98 (by kernel_rfl)
def b0R:Row I:=⟨99,[.var 40 (.k (.d (.dat 40))) true],[.k (.d (.str))],a0d⟩
theorem a2h:RK (b0R) :=
 okR [eR w8] 8 Y5 [.tmp 2] Go.Proofs.Tryz.func99 (by kernel_rfl)
def a9V:Row I:=⟨100,[.var 40 (.k (.d (.dat 40))) true],[.k (.d (.str))],a0D⟩
theorem a59:RK (a9V) :=
 okR [eR w8] 8 Y5 [.tmp 2] Go.Proofs.Tryz.func100 (by kernel_rfl)
def b0q:Hints I:=mkH [] [] [] [] [(28,⟨16776706,[],[(0,.k (.d (.dat 40)))],[(1,.k (.d (.int .i64))),(9,.k (.row 3 false))],[((.exit 0),[(9,.k (.row 3 false))])],bnd tb (.slot 1) 2⟩)] [] []
def a9C:Row I:=⟨101,[.var 40 (.k (.d (.dat 40))) true,.d (.int .i64),.d (.int .i64),.d (.int .i64)],[.k (.row 3 false)],k9⟩
theorem a9M:RK (a9C) :=
 okR [eR w8] 25 b0q [.tmp 8] Go.Proofs.Tryz.func101 (by kernel_rfl)
def b0n:Hints I:=mkH [(7,[[],[0],[],[],[2,3],[2,3,4],[],[],[6,7],[],[6,7,8,9],[6,7,8,9,10],[2,3,4,5,6,7,8,9,10,11],[2,3,4,5,6,7,8,9,10,11,12],[0,1,2,3,4,5,6,7,8,9,10,11,12,13],[0,1,2,3,4,5,6,7,8,9,10,11,12,13,14],[0,1,2,3,4,5,6,7,8,9,10,11,12,13,14,15]])] [] [] [(978,⟨8796076244992,[],[(0,.k (.d (.dat 40))),(5,.lvs [.d (.int .i64),.d (.int .i64),.d (.int .i64),.d (.str),.row 3 false,.row 148 false,.d (.int .i64),.d (.int .i64)])],[(.normal,[])]⟩)] [(122,⟨8796091973760,[6],[(0,.k (.d (.dat 40))),(5,.lvs [.d (.int .i64),.d (.int .i64),.d (.int .i64),.d (.str),.row 3 false,.row 148 false,.d (.int .i64),.d (.int .i64)])],[(7,.k (.d (.int .i64)))],[((.exit 0),[])],bnd tb (.cst 3) 1⟩)] [] []
def a9k:Row I:=⟨102,[.var 40 (.k (.d (.dat 40))) true,.d (.int .i64)],[.k (.d (.dat 65))],a2i⟩
theorem a9N:RK (a9k) :=
 okR [eR w8] 44 b0n [.cell 4 65] Go.Proofs.Tryz.func102 (by kernel_rfl)
def b2i:Hints I:=mkH [(8,[[],[],[0,1],[0,1,2],[],[],[],[],[7],[6,7,8],[5,6,7,8,9],[4,5,6,7,8,9,10],[4,5,6,7,8,9,10,11],[0,1,2,3,4,5,6,7,8,9,10,11,12],[0,1,2,3,4,5,6,7,8,9,10,11,12,13]])] [] [] [(29,⟨128,[],[],[(.normal,[(7,.k (.d (.int .i64)))])]⟩),
 (32243709,⟨47223664828696452136960,[],[],[(.normal,[(73,.k (.d (.bool)))])]⟩),
 (2063597565,⟨49517601571415210995964968960,[],[],[(.normal,[(93,.k (.d (.bool)))])]⟩)] [] [] []
def b0V:Row I:=⟨55,[.var 40 (.k (.d (.dat 40))) true,.d (.int .i64),.d (.int .i64)],[.k (.d (.dat 65))],a3i⟩
theorem b1w:RK (b0V) :=
 okR [eR w8,eR a1h,eR a2h,eR a59,eR a9M,eR a9N] 128 b2i [.cell 6 65] Go.Proofs.Tryz.func55 (by kernel_rfl)
def b2k:Hints I:=mkH [(6,[[],[0],[],[],[],[2,3,4],[2,3,4,5],[0,1,2,3,4,5,6],[0,1,2,3,4,5,6,7],[0,1,2,3,4,5,6,7,8]])] [] [] [] [(122,⟨16776256,[],[(0,.k (.d (.dat 40))),(5,.lvs [.row 65 false,.d (.int .i64)])],[(6,.k (.d (.int .i64)))],[((.exit 0),[])],bnd tb (.slot 1) 1⟩)] [] []
def b0z:Row I:=⟨24,[.var 40 (.k (.d (.dat 40))) true,.d (.int .i64)],[.k (.d (.dat 27))],a1N⟩
theorem b1x:RK (b0z) :=
 okR [eR b1w] 25 b2k [.cell 4 27] Go.Proofs.Tryz.func24 (by kernel_rfl)
def a9O:Row I:=⟨112,[.var 40 (.k (.d (.dat 40))) true],[.k (.d (.int .i64))],a0m⟩
theorem b0e:RK (a9O) :=
 okR [eR w8] 8 Y5 [.tmp 2] Go.Proofs.Tryz.func112 (by kernel_rfl)
def b7h:Row I:=⟨104,[.d (.str)],[.k (.d (.dat 33))],a3r⟩
theorem a9Q:RK (b7h) :=
 okR [] 5 Y5 [.cell 2 33] Go.Proofs.Tryz.func104 (by kernel_rfl)
def b4h:Row I:=⟨103,[.d (.str)],[.k (.d (.dat 33))],a2p⟩
theorem a8L:RK (b4h) :=
 okR [] 5 Y5 [.cell 2 33] Go.Proofs.Tryz.func103 (by kernel_rfl)
def b7L:Row I:=⟨105,[.d (.int .i64)],[.k (.d (.dat 33))],a5g⟩
theorem b0A:RK (b7L) :=
 okR [] 5 Y5 [.cell 2 33] Go.Proofs.Tryz.func105 (by kernel_rfl)
def b70:Row I:=⟨106,[],[.k (.d (.dat 33))],V9⟩
theorem a3O:RK (b70) :=
 okR [] 2 Y5 [.cell 0 33] Go.Proofs.Tryz.func106 (by kernel_rfl)
def b41:Row I:=⟨163,[.d (.sl 33)],[.k (.row 33 false)],a1u⟩
theorem a8I:RK (b41) :=
 okR [] 5 Y5 [.tmp 2] Go.Proofs.Tryz.func163 (by kernel_rfl)
def b5U:Row I:=⟨113,[.d (.sl 33)],[.k (.d (.dat 33))],a1V⟩
theorem a9l:RK (b5U) :=
 okR [eR a8I] 6 Y5 [.cell 2 33] Go.Proofs.Tryz.func113 (by kernel_rfl)
def b0H:Row I:=⟨57,[.var 40 (.k (.d (.dat 40))) true],[.k (.d (.dat 33))],Q9⟩
theorem a3Z:RK (b0H) :=
 okR [eR w8,eR b0e,eR a69,eR a1h,eR a9Q,eR a2h,eR a8L,eR b0A,eR a3O,eR a9l] 29 Y5 [.cell 2 33] Go.Proofs.Tryz.func57 (by kernel_rfl)
def b6h:Row I:=⟨153,[.d (.int .u8)],[.k (.d (.bool))],a21⟩
theorem a9D:RK (b6h) :=
 okR [] 9 Y5 [.tmp 2] Go.Proofs.Tryz.func153 (by kernel_rfl)
def b5p:Row I:=⟨154,[.d (.int .u8)],[.k (.d (.bool))],a32⟩
theorem a9q:RK (b5p) :=
 okR [] 9 Y5 [.tmp 2] Go.Proofs.Tryz.func154 (by kernel_rfl)
def b66:Hints I:=mkH [] [] [] [] [(58,⟨4398046248972,[],[],[(3,.k (.d (.int .i64)))],[((.exit 0),[]),(.ret,[(2,.k (.d (.bool)))])],bnd tb (.len (.slot 0)) 1⟩)] [] []
def b4k:Row I:=⟨93,[.d (.str)],[.k (.d (.bool))],a3I⟩
theorem a8K:RK (b4k) :=
 okR [eR a9D,eR a9q] 42 b66 [.tmp 2] Go.Proofs.Tryz.func93 (by kernel_rfl)
def b2G:Row I:=⟨94,[.d (.dat 130)],[.k (.d (.bool))],a2I⟩
theorem a7S:RK (b2G) :=
 okR [eR a8K] 22 Y5 [.tmp 2] Go.Proofs.Tryz.func94 (by kernel_rfl)
def b6g:Row I:=⟨155,[.d (.int .i64),.d (.int .i64)],[.k (.d (.int .i64))],a2Y⟩
theorem a6t:RK (b6g) :=
 okR [] 11 Y5 [.tmp 4] Go.Proofs.Tryz.func155 (by kernel_rfl)
def b6F:Row I:=⟨156,[.d (.str),.d (.str)],[.k (.d (.int .i64))],a1w⟩
theorem a9P:RK (b6F) :=
 okR [] 11 Y5 [.tmp 4] Go.Proofs.Tryz.func156 (by kernel_rfl)
def b0O:Row I:=⟨95,[.d (.dat 130),.d (.dat 130)],[.k (.d (.int .i64))],a0e⟩
theorem a3X:RK (b0O) :=
 okR [eR a6t,eR a9P] 20 Y5 [.tmp 4] Go.Proofs.Tryz.func95 (by kernel_rfl)
def b9V:Hints I:=mkH [(13,[[],[],[1],[1,2],[0,1,2,3],[0,1,2,3,4],[0,1,2,3,4,5],[0,1,2,3,4,5,6],[0,1,2,3,4,5],[0,1,2,3,4,5,6,7,8],[0,1,2,3,4,5,6,7,8,9],[0,1,2,3,4,5],[0,1,2,3,4,5],[0,1,2,3,4,5,11,12],[0,1,2,3,4,5,11,12,13],[0,1,2,3,4,5,6,7,8,9,10,11,12,13,14],[0,1,2,3,4,5,6,7,8,9,10,11,12,13,14,15],[0,1,2,3,4,5,6,7,8,9,10,11,12,13,14,15,16]]),(15,[[],[],[1],[1,2],[0,1,2,3],[0,1,2,3,4],[0,1,2,3,4,5],[0,1,2,3,4,5,6],[0,1,2,3,4,5],[0,1,2,3,4,5,6,7,8],[0,1,2,3,4,5,6,7,8,9],[0,1,2,3,4,5],[0,1,2,3,4,5],[0,1,2,3,4,5,11,12],[0,1,2,3,4,5,11,12,13],[0,1,2,3,4,5,6,7,8,9,10,11,12,13,14],[0,1,2,3,4,5,6,7,8,9,10,11,12,13,14,15]]),(17,[[],[0],[],[0,1,2],[0,1,2,3],[],[5],[],[5,6,7],[0,1,2,3,4,5,6,7,8],[0,1,2,3,4,5,6,7,8,9],[0,1,2,3,4,5,6,7,8,9,10]]),(18,[[],[],[],[1,2],[1,2,3],[1,2,3,4],[0,1,2,3,4,5],[],[7],[],[7,8,9],[0,1,2,3,4,5,6,7,8,9,10],[0,1,2,3,4,5,6,7,8,9,10,11],[0,1,2,3,4,5,6,7,8,9,10,11,12]]),(19,[[],[],[],[1,2],[1,2,3],[1,2,3,4],[0,1,2,3,4,5],[],[7],[],[7,8,9],[0,1,2,3,4,5,6,7,8,9,10],[0,1,2,3,4,5,6,7,8,9,10,11],[0,1,2,3,4,5,6,7,8,9,10,11,12]])] [] [] [] [(58,⟨2147221600,[],[(4,.lvs [.d (.int .i64),.d (.int .i64),.d (.str),.row 33 false,.row 130 false,.row 97 false,.row 9 false])],[(6,.k (.d (.int .i64)))],[((.exit 0),[]),(.ret,[(5,.k (.d (.int .i64)))])],bnd tb (.len (.slot 0)) 1⟩),
 (250,⟨5192296858534827628530492034256672,[7],[(4,.lvs [.d (.int .i64),.d (.int .i64),.d (.str),.row 33 false,.row 130 false,.row 97 false,.row 9 false]),(7,.lvs [.d (.int .i64),.d (.int .i64),.d (.str),.d (.sl 33),.d (.sl 130),.row 97 true,.row 9 true])],[(8,.k (.d (.int .i64)))],[((.exit 2),[]),(.ret,[(5,.k (.d (.int .i64)))])],bnd tb (.len (.slot 0)) 1⟩),
 (32036,⟨288230101273805312,[7],[],[(9,.k (.d (.int .i64)))],[((.exit 4),[(9,.k (.d (.int .i64)))])],bnd tb (.len (.ld 29 (.fld 33 4 (.slot 7)))) 1⟩)] [] []
def b7W:Row I:=⟨159,[.d (.sl 130),.d (.sl 33)],[.k (.d (.dat 33)),.k (.d (.int .i64))],a1e⟩
theorem b0y:RK (b7W) :=
 okR [eR a7S,eR a3X,eR a8I] 113 b9V [.cell 4 33,.tmp 5] Go.Proofs.Tryz.func159 (by kernel_rfl)
def b50:Row I:=⟨201,[.d (.int .i64),.d (.int .i64)],[.k (.d (.int .i64))],a0r⟩
theorem a9p:RK (b50) :=
 okR [eR a6t] 8 Y5 [.tmp 4] Go.Proofs.Tryz.func201 (by kernel_rfl)
def b6b (_:Nat):Hints I:=mkH [(12,[[],[0],[],[0,1,2],[0,1,2,3],[],[5],[],[5,6,7],[5,6,7,8],[0,1,2,3,4,5,6,7,8,9],[0,1,2,3,4,5,6,7,8,9,10]]),(23,[[],[0],[],[0,1,2],[0,1,2,3],[],[5],[],[5,6,7],[5,6,7,8],[0,1,2,3,4,5,6,7,8,9],[0,1,2,3,4,5,6,7,8,9,10]]),(31,[[],[0],[],[0,1,2],[0,1,2,3],[],[5],[],[5,6,7],[5,6,7,8],[0,1,2,3,4,5,6,7,8,9],[0,1,2,3,4,5,6,7,8,9,10]])] [] [] [] [(506,⟨151115655394234608910448,[],[],[(5,.k (.d (.int .i64)))],[((.exit 0),[]),(.ret,[(4,.k (.d (.int .i64)))])],bnd tb (.len (.ld 29 (.fld 33 4 (.slot 2)))) 1⟩),
 (8186,⟨1329227361959615758789106311928742672,[],[],[(8,.k (.d (.int .i64)))],[((.exit 2),[]),(.ret,[(4,.k (.d (.int .i64)))])],bnd tb (.len (.ld 30 (.fld 33 5 (.slot 2)))) 1⟩),
 (32762,⟨45671904388519233253803489366408968731082361872,[],[],[(10,.k (.d (.int .i64)))],[((.exit 4),[]),(.ret,[(4,.k (.d (.int .i64)))])],bnd tb (.len (.ld 31 (.fld 33 6 (.slot 2)))) 1⟩)] [] []
def a0L (n:Nat):Row I:=⟨157,[.d (.dat 33),.d (.dat 33)],[.k (.d (.int .i64))],a0q n⟩
def b6T (_:Nat):Hints I:=mkH [(6,[[],[],[0,1],[0,1,2],[],[],[4,5],[4,5,6],[0,1,2,3,4,5,6,7],[0,1,2,3,4,5,6,7,8]])] [] [] [] [(58,⟨34359607408,[],[],[(5,.k (.d (.int .i64)))],[((.exit 0),[]),(.ret,[(4,.k (.d (.int .i64)))])],bnd tb (.len (.slot 0)) 1⟩)] [] []
def a19 (n:Nat):Row I:=⟨158,[.d (.sl 33),.d (.sl 33)],[.k (.d (.int .i64))],a3N n⟩
def W1 (n:Nat):Row I:=⟨97,[.d (.dat 97),.d (.dat 97)],[.k (.d (.int .i64))],Y4 n⟩
theorem b3D (n:Nat)(_:j6 Go.Proofs.Tryz.prog (a0L n))(h_semtyperef1_values:j6 Go.Proofs.Tryz.prog (a19 n))(h_semtyperef1_CompareEntries:j6 Go.Proofs.Tryz.prog (W1 n)):RK (a0L (n+1)) :=
 okR [eR a9p,eR a6t,eR a9P,eR a3X,eR h_semtyperef1_values,eR h_semtyperef1_CompareEntries] 155 (b6b n) [.tmp 4] Go.Proofs.Tryz.func157 (by kernel_rfl)
theorem b4o (n:Nat)(h_semtyperef1_Compare:j6 Go.Proofs.Tryz.prog (a0L n))(_:j6 Go.Proofs.Tryz.prog (a19 n))(_:j6 Go.Proofs.Tryz.prog (W1 n)):RK (a19 (n+1)) :=
 okR [eR a9p,eR h_semtyperef1_Compare] 35 (b6T n) [.tmp 4] Go.Proofs.Tryz.func158 (by kernel_rfl)
theorem a82 (n:Nat)(h_semtyperef1_Compare:j6 Go.Proofs.Tryz.prog (a0L n))(h_semtyperef1_values:j6 Go.Proofs.Tryz.prog (a19 n))(_:j6 Go.Proofs.Tryz.prog (W1 n)):RK (W1 (n+1)) :=
 okR [eR h_semtyperef1_values,eR h_semtyperef1_Compare] 26 Y5 [.tmp 4] Go.Proofs.Tryz.func97 (by kernel_rfl)
theorem a3T:∀ n:Nat,j6 Go.Proofs.Tryz.prog (a0L n)/\j6 Go.Proofs.Tryz.prog (a19 n)/\j6 Go.Proofs.Tryz.prog (W1 n)
 | 0=>⟨K5 (by kernel_rfl),K5 (by kernel_rfl),K5 (by kernel_rfl)⟩
 | n+1=>by
   obtain ⟨h0,h1,h2⟩:=a3T n
   exact ⟨b3D n h0 h1 h2,b4o n h0 h1 h2,a82 n h0 h1 h2⟩
theorem b4Y (n:Nat):j6 Go.Proofs.Tryz.prog (a0L n):=(a3T n).1
theorem a5x (n:Nat):j6 Go.Proofs.Tryz.prog (W1 n):=(a3T n).2.2
def b5n (n:Nat):Row I:=⟨96,[.d (.dat 33),.d (.dat 33)],[.k (.d (.bool))],a33 n⟩
theorem a9d (n:Nat):RK (b5n n) :=
 okR [eR (b4Y n)] 9 Y5 [.tmp 4] Go.Proofs.Tryz.func96 (by kernel_rfl)
def b6c (_:Nat):Hints I:=mkH [(6,[[],[],[1],[0,1,2],[0,1,2,3],[0,1,2,3,4],[0,1,2,3,4],[0,1,2,3,4,5,6],[0,1,2,3,4,5,6,7],[0,1,2,3,4],[0,1,2,3,4],[0,1,2,3,4,9,10],[0,1,2,3,4,9,10,11],[0,1,2,3,4,5,6,7,8,9,10,11,12],[0,1,2,3,4,5,6,7,8,9,10,11,12,13],[0,1,2,3,4,5,6,7,8,9,10,11,12,13,14]]),(8,[[],[],[1],[0,1,2],[0,1,2,3],[0,1,2,3,4],[0,1,2,3,4],[0,1,2,3,4,5,6],[0,1,2,3,4,5,6,7],[0,1,2,3,4],[0,1,2,3,4],[0,1,2,3,4,9,10],[0,1,2,3,4,9,10,11],[0,1,2,3,4,5,6,7,8,9,10,11,12],[0,1,2,3,4,5,6,7,8,9,10,11,12,13],[0,1,2,3,4,5,6,7,8,9,10,11,12,13,14]]),(10,[[],[],[],[1,2],[1,2,3],[1,2,3,4],[0,1,2,3,4,5],[],[],[7,8],[0,1,2,3,4,5,6,7,8,9],[0,1,2,3,4,5,6,7,8,9,10]])] [] [] [(466,⟨4611686018427379816,[],[],[(.normal,[(3,.k (.d (.sl 97)))])]⟩)] [(58,⟨4611686018427387896,[],[],[(3,.k (.d (.sl 97))),(4,.k (.d (.int .i64)))],[((.exit 0),[(3,.k (.d (.sl 97)))])],bnd tb (.len (.slot 0)) 1⟩),
 (7460,⟨2147475488,[3],[],[(5,.k (.d (.int .i64)))],[((.exit 2),[(5,.k (.d (.int .i64)))])],bnd tb (.len (.slot 3)) 1⟩)] [] []
def b3G (n:Nat):Row I:=⟨202,[.bor 97],[.k (.d (.sl 97))],a4T n⟩
theorem b46 (n:Nat):RK (b3G n) :=
 okR [eR (a5x n)] 63 (b6c n) [.tmp 2] Go.Proofs.Tryz.func202 (by kernel_rfl)
def b4y (_:Nat):Hints I:=mkH [] [] [] [] [(58,⟨70368744161376,[],[(4,.lvs [.d (.int .i64),.d (.int .i64),.d (.str),.row 33 false,.row 130 false,.row 97 false,.row 9 false])],[(6,.k (.d (.int .i64)))],[((.exit 0),[]),(.ret,[(5,.k (.d (.int .i64)))])],bnd tb (.len (.slot 1)) 1⟩)] [] []
def b3b (n:Nat):Row I:=⟨160,[.d (.int .i64),.bor 97],[.k (.d (.dat 33)),.k (.d (.int .i64))],a0R n⟩
theorem a7R (n:Nat):RK (b3b n) :=
 okR [eR (a9d n),eR (b46 n)] 50 (b4y n) [.cell 4 33,.tmp 5] Go.Proofs.Tryz.func160 (by kernel_rfl)
def b6Z:Hints I:=mkH [(6,[[],[],[1],[0,1,2],[0,1,2,3],[0,1,2,3,4],[0,1,2,3,4],[0,1,2,3,4,5,6],[0,1,2,3,4,5,6,7],[0,1,2,3,4],[0,1,2,3,4],[0,1,2,3,4,9,10],[0,1,2,3,4,9,10,11],[0,1,2,3,4,5,6,7,8,9,10,11,12],[0,1,2,3,4,5,6,7,8,9,10,11,12,13]]),(8,[[],[],[1],[0,1,2],[0,1,2,3],[0,1,2,3,4],[0,1,2,3,4],[0,1,2,3,4,5,6],[0,1,2,3,4,5,6,7],[0,1,2,3,4],[0,1,2,3,4],[0,1,2,3,4,9,10],[0,1,2,3,4,9,10,11],[0,1,2,3,4,5,6,7,8,9,10,11,12],[0,1,2,3,4,5,6,7,8,9,10,11,12,13]]),(10,[[],[],[],[1,2],[1,2,3],[1,2,3,4],[0,1,2,3,4,5],[],[],[7,8],[0,1,2,3,4,5,6,7,8,9],[0,1,2,3,4,5,6,7,8,9,10]])] [] [] [(466,⟨1152921504606838888,[],[],[(.normal,[(3,.k (.d (.sl 9)))])]⟩)] [(58,⟨1152921504606846968,[],[],[(3,.k (.d (.sl 9))),(4,.k (.d (.int .i64)))],[((.exit 0),[(3,.k (.d (.sl 9)))])],bnd tb (.len (.slot 0)) 1⟩),
 (7460,⟨1073733664,[3],[],[(5,.k (.d (.int .i64)))],[((.exit 2),[(5,.k (.d (.int .i64)))])],bnd tb (.len (.slot 3)) 1⟩)] [] []
def b42:Row I:=⟨109,[.d (.sl 9)],[.k (.d (.sl 9))],a0h⟩
theorem a5K:RK (b42) :=
 okR [] 61 b6Z [.tmp 2] Go.Proofs.Tryz.func109 (by kernel_rfl)
def b1o:Row I:=⟨110,[.d (.dat 33),.d (.sl 9)],[.k (.d (.dat 33))],a3E⟩
theorem b1M:RK (b1o) :=
 okR [eR a5K] 9 Y5 [.cell 4 33] Go.Proofs.Tryz.func110 (by kernel_rfl)
def b6j:Row I:=⟨203,[.d (.dat 33),.d (.dat 33)],[.k (.d (.dat 33))],a4J⟩
theorem b7y:RK (b6j) :=
 okR [] 9 Y5 [.cell 4 33] Go.Proofs.Tryz.func203 (by kernel_rfl)
def b0M:Hints I:=mkH [] [] [] [(29,⟨1048456,[],[(0,.k (.d (.dat 40)))],[(.normal,[(3,.k (.row 9 false))])]⟩)] [] [] []
def a9L:Row I:=⟨162,[.var 40 (.k (.d (.dat 40))) true],[.k (.d (.sl 9))],a1m⟩
theorem a5J:RK (a9L) :=
 okR [eR w8,eR a59,eR a5K] 22 b0M [.tmp 2] Go.Proofs.Tryz.func162 (by kernel_rfl)
def b1h:Row I:=⟨204,[.var 40 (.k (.d (.dat 40))) true],[.k (.d (.dat 130))],a3F⟩
theorem b1U:RK (b1h) :=
 okR [eR w8,eR a1h,eR a2h] 12 Y5 [.cell 2 130] Go.Proofs.Tryz.func204 (by kernel_rfl)
def X2 (n:Nat):Row I:=⟨111,[.var 40 (.k (.d (.dat 40))) true,.d (.int .i64)],[.k (.d (.dat 33))],a1z n⟩
def b1m (_:Nat):Hints I:=mkH [(16,[[],[],[1],[0,1,2],[],[0,1,2,3,4],[0,1,2,3,4,5]])] [(13,[46])] [] [(29,⟨5316911983139663491615228241104863200,[],[(0,.k (.d (.dat 40))),(4,.lvs [.d (.int .i64),.d (.int .i64),.d (.str),.d (.sl 33),.d (.sl 130),.d (.sl 97),.d (.sl 9)])],[(.normal,[]),(.ret,[])]⟩),
 (7540,⟨2234207627640832,[],[(0,.k (.d (.dat 40)))],[(.normal,[(50,.k (.d (.bool)))])]⟩),
 (7541,⟨141863388262170624,[],[(0,.k (.d (.dat 40))),(7,.k (.d (.dat 33)))],[(.normal,[])]⟩)] [(3754,⟨549487378528,[],[(0,.k (.d (.dat 40)))],[(5,.k (.row 33 false)),(6,.k (.d (.int .i64)))],[((.exit 1),[(5,.k (.row 33 false))])],bnd tb (.slot 6) 2⟩),
 (120794,⟨77370071863715549769893632,[],[(0,.k (.d (.dat 40)))],[(8,.k (.row 130 false)),(9,.k (.row 33 false)),(10,.k (.d (.int .i64)))],[((.exit 3),[(8,.k (.row 130 false)),(9,.k (.row 33 false))])],bnd tb (.slot 10) 2⟩),
 (483290,⟨10382058415869198798257999252078592,[],[(0,.k (.d (.dat 40)))],[(14,.k (.row 97 false)),(15,.k (.d (.int .i64)))],[((.exit 5),[(14,.k (.row 97 false))])],bnd tb (.slot 15) 2⟩)] [] []
def a0C (n:Nat):Row I:=⟨161,[.var 40 (.k (.d (.dat 40))) true,.d (.int .i64)],[.k (.d (.dat 33))],b2K n⟩
def b1z (_:Nat):Hints I:=mkH [(4,[[],[0],[],[],[2,3],[2,3,4],[0,1,2,3,4,5],[0,1,2,3,4,5,6],[0,1,2,3,4,5,6,7]])] [] [] [] [(28,⟨1048322,[],[(0,.k (.d (.dat 40))),(7,.lvs [.row 33 false,.d (.bool),.d (.int .i64),.d (.int .i64),.d (.str),.row 33 false,.row 130 false,.row 97 false,.row 9 false])],[(1,.k (.d (.int .i64)))],[((.exit 0),[])],bnd tb (.slot 1) 2⟩)] [] []
def a0v (n:Nat):Row I:=⟨205,[.var 40 (.k (.d (.dat 40))) true,.d (.int .i64),.d (.int .i64)],[.k (.d (.dat 97))],b3v n⟩
theorem a9X (n:Nat)(_:j6 Go.Proofs.Tryz.prog (X2 n))(h_semtypebase_Source_value:j6 Go.Proofs.Tryz.prog (a0C n))(_:j6 Go.Proofs.Tryz.prog (a0v n)):RK (X2 (n+1)) :=
 okR [eR h_semtypebase_Source_value,eR a5J] 13 Y5 [.cell 4 33] Go.Proofs.Tryz.func111 (by kernel_rfl)
theorem b0i (n:Nat)(h_semtypebase_Source_Value:j6 Go.Proofs.Tryz.prog (X2 n))(_:j6 Go.Proofs.Tryz.prog (a0C n))(h_semtypebase_Source_entry:j6 Go.Proofs.Tryz.prog (a0v n)):RK (a0C (n+1)) :=
 okR [eR a3Z,eR w8,eR h_semtypebase_Source_Value,eR a9l,eR a3O,eR b7y,eR a5J,eR b1U,eR b0y,eR h_semtypebase_Source_entry,eR (a7R n)] 124 (b1m n) [.cell 4 33] Go.Proofs.Tryz.func161 (by kernel_rfl)
theorem a96 (n:Nat)(h_semtypebase_Source_Value:j6 Go.Proofs.Tryz.prog (X2 n))(_:j6 Go.Proofs.Tryz.prog (a0C n))(_:j6 Go.Proofs.Tryz.prog (a0v n)):RK (a0v (n+1)) :=
 okR [eR h_semtypebase_Source_Value,eR w8] 30 (b1z n) [.cell 6 97] Go.Proofs.Tryz.func205 (by kernel_rfl)
theorem a4Z:∀ n:Nat,j6 Go.Proofs.Tryz.prog (X2 n)/\j6 Go.Proofs.Tryz.prog (a0C n)/\j6 Go.Proofs.Tryz.prog (a0v n)
 | 0=>⟨K5 (by kernel_rfl),K5 (by kernel_rfl),K5 (by kernel_rfl)⟩
 | n+1=>by
   obtain ⟨h0,h1,h2⟩:=a4Z n
   exact ⟨a9X n h0 h1 h2,b0i n h0 h1 h2,a96 n h0 h1 h2⟩
theorem b0N (n:Nat):j6 Go.Proofs.Tryz.prog (X2 n):=(a4Z n).1
def b5T:Row I:=⟨152,[.d (.int .u8)],[.k (.d (.bool))],a4c⟩
theorem b6y:RK (b5T) :=
 okR [] 9 Y5 [.tmp 2] Go.Proofs.Tryz.func152 (by kernel_rfl)
def b3l:Hints I:=mkH [] [] [] [] [(58,⟨562949953159180,[],[],[(3,.k (.d (.int .i64)))],[((.exit 0),[]),(.ret,[(2,.k (.d (.bool)))])],bnd tb (.len (.slot 0)) 1⟩)] [] []
def b1r:Row I:=⟨88,[.d (.str)],[.k (.d (.bool))],a17⟩
theorem a6T:RK (b1r) :=
 okR [eR b6y,eR a9D,eR a9q] 49 b3l [.tmp 2] Go.Proofs.Tryz.func88 (by kernel_rfl)
def b8a (_:Nat):Hints I:=mkH [(4,[[],[0],[],[0,1,2],[0,1,2,3],[0,1,2,3,4],[0,1,2,3,4,5],[0,1,2,3,4,5,6],[0,1,2,3,4,5,6,7],[0,1,2,3,4,5,6,7,8],[0,1,2,3,4,5,6,7,8,9],[0,1,2,3,4,5,6,7,8,9,10],[0,1,2,3,4,5,6,7,8,9,10,11],[0,1,2,3,4,5,6,7,8,9,10],[0,1,2,3,4,5,6,7,8,9,10,13],[0,1,2,3,4,5,6,7,8,9,10,11,12,13,14],[0,1,2,3,4,5,6,7,8,9,10,11,12,13,14,15],[0,1,2,3,4,5,6,7,8,9,10],[0,1,2,3,4,5,6,7,8,9,10,17],[0,1,2,3,4,5,6,7,8,9,10],[0,1,2,3,4,5,6,7,8,9,10,17,18,19],[0,1,2,3,4,5,6,7,8,9,10,17,18,19,20],[0,1,2,3,4,5,6,7,8,9,10,11,12,13,14,15,16,17,18,19,20,21],[0,1,2,3,4,5,6,7,8,9,10,11,12,13,14,15,16,17,18,19,20,21,22],[0,1,2,3,4,5,6,7,8,9,10,11,12,13,14,15,16,17,18,19,20,21,22,23]]),(29,[[],[0],[],[0,1,2],[0,1,2,3],[0,1,2,3,4],[0,1,2,3,4,5],[0,1,2,3,4,5,6],[0,1,2,3,4,5,6,7],[0,1,2,3,4,5,6,7,8],[0,1,2,3,4,5,6,7,8,9],[0,1,2,3,4,5,6,7,8,9,10],[0,1,2,3,4,5,6,7,8,9,10,11],[0,1,2,3,4,5,6,7,8,9,10],[0,1,2,3,4,5,6,7,8,9,10,13],[0,1,2,3,4,5,6,7,8,9,10,11,12,13,14],[0,1,2,3,4,5,6,7,8,9,10,11,12,13,14,15],[0,1,2,3,4,5,6,7,8,9,10],[0,1,2,3,4,5,6,7,8,9,10,17],[0,1,2,3,4,5,6,7,8,9,10],[0,1,2,3,4,5,6,7,8,9,10,17,18,19],[0,1,2,3,4,5,6,7,8,9,10,17,18,19,20],[0,1,2,3,4,5,6,7,8,9,10,11,12,13,14,15,16,17,18,19,20,21],[0,1,2,3,4,5,6,7,8,9,10,11,12,13,14,15,16,17,18,19,20,21,22],[0,1,2,3,4,5,6,7,8,9,10,11,12,13,14,15,16,17,18,19,20,21,22,23],[0,1,2,3,4,5,6,7,8,9,10,11,12,13,14,15,16,17,18,19,20,21,22,23,24]]),(39,[[],[0],[0,1],[],[3],[0,1,2,3,4],[0,1,2,3,4,5],[0,1,2,3,4,5,6],[0,1,2,3,4,5,6,7],[0,1,2,3,4,5,6,7,8],[0,1,2,3,4,5,6,7,8,9],[0,1,2,3,4,5,6,7,8,9,10],[0,1,2,3,4,5,6,7,8,9],[0,1,2,3,4,5,6,7,8,9,10,11,12],[0,1,2,3,4,5,6,7,8,9,10,11,12,13],[0,1,2,3,4,5,6,7,8,9,10,11,12,13,14],[0,1,2,3,4,5,6,7,8,9,10,11,12,13,14,15],[0,1,2,3,4,5,6,7,8,9,10,11,12,13,14,15,16],[0,1,2,3,4,5,6,7,8,9,10,11,12,13,14,15,16,17],[0,1,2,3,4,5,6,7,8,9,10,11,12,13,14,15,16,17,18],[0,1,2,3,4,5,6,7,8,9,10,11,12,13,14,15,16,17,18,19],[0,1,2,3,4,5,6,7,8,9,10,11,12,13,14,15,16,17,18,19,20],[0,1,2,3,4,5,6,7,8,9,10,11,12,13,14,15,16,17,18,19,20,21],[0,1,2,3,4,5,6,7,8,9,10,11,12,13,14,15,16,17,18,19,20],[0,1,2,3,4,5,6,7,8,9,10,11,12,13,14,15,16,17,18,19,20,23],[0,1,2,3,4,5,6,7,8,9,10,11,12,13,14,15,16,17,18,19,20,21,22,23,24],[0,1,2,3,4,5,6,7,8,9,10,11,12,13,14,15,16,17,18,19,20,21,22,23,24,25],[0,1,2,3,4,5,6,7,8,9,10,11,12,13,14,15,16,17,18,19,20],[0,1,2,3,4,5,6,7,8,9,10,11,12,13,14,15,16,17,18,19,20,21,22,23,24,25,26,27],[0,1,2,3,4,5,6,7,8,9,10,11,12,13,14,15,16,17,18,19,20,21,22,23,24,25,26,27,28],[0,1,2,3,4,5,6,7,8,9,10,11,12,13,14,15,16,17,18,19,20,21,22,23,24,25,26,27,28,29],[0,1,2,3,4,5,6,7,8,9,10,11,12,13,14,15,16,17,18,19,20,21,22,23,24,25,26,27,28,29,30]])] [] [] [(4073,⟨425352958651173079329218259289710264320,[],[],[(.normal,[(126,.k (.d (.bool)))])]⟩)] [(26,⟨4398046510092,[],[],[(3,.k (.d (.int .i64)))],[((.exit 0),[]),(.ret,[(2,.k (.d (.bool)))])],bnd tb (.len (.ld 31 (.fld 33 6 (.slot 1)))) 1⟩),
 (133562354,⟨411376139282411024886683268815639281647236804420309368268914820,[],[],[(7,.k (.d (.int .i64)))],[((.exit 3),[]),(.ret,[(2,.k (.d (.bool)))])],bnd tb (.len (.ld 29 (.fld 33 4 (.slot 1)))) 1⟩),
 (1068498922,⟨948568795032040353016559207911582007103813675119580226322391447047862150789858052,[],[],[(8,.k (.d (.int .i64)))],[((.exit 5),[]),(.ret,[(2,.k (.d (.bool)))])],bnd tb (.len (.ld 30 (.fld 33 5 (.slot 1)))) 1⟩)] [] []
def b62 (n:Nat):Row I:=⟨54,[.d (.dat 33)],[.k (.d (.bool))],a6v n⟩
theorem b7J (n:Nat):RK (b62 n) :=
 okR [eR a6T,eR a8K,eR a7S,eR a3X,eR (a9d n),eR (a5x n)] 269 (b8a n) [.tmp 2] Go.Proofs.Tryz.func54 (by kernel_rfl)
def b7B (_:Nat):Hints I:=mkH [] [] [] [] [(58,⟨16776204,[],[],[(3,.k (.d (.int .i64)))],[((.exit 0),[]),(.ret,[(2,.k (.d (.bool)))])],bnd tb (.len (.ld 28 (.fld 33 3 (.slot 1)))) 1⟩),
 (122,⟨576460752286646388,[],[],[(4,.k (.d (.int .i64)))],[((.exit 2),[]),(.ret,[(2,.k (.d (.bool)))])],bnd tb (.len (.ld 30 (.fld 33 5 (.slot 1)))) 1⟩),
 (31306,⟨1125831187365956,[],[],[(6,.k (.d (.int .i64)))],[((.exit 4),[]),(.ret,[(2,.k (.d (.bool)))])],bnd tb (.len (.ld 28 (.fld 97 0 (.slot 5)))) 1⟩)] [] []
def a5X (n:Nat):Row I:=⟨22,[.d (.dat 33)],[.k (.d (.bool))],a0s n⟩
theorem b5K (n:Nat)(h_semtyperef1_Valid:j6 Go.Proofs.Tryz.prog (a5X n)):RK (a5X (n+1)) :=
 okR [eR (b7J n),eR h_semtyperef1_Valid] 59 (b7B n) [.tmp 2] Go.Proofs.Tryz.func22 (by kernel_rfl)
theorem a9s:∀ n:Nat,j6 Go.Proofs.Tryz.prog (a5X n)
 | 0=>K5 (by kernel_rfl)
 | n+1=>b5K n (a9s n)
def V7 (n:Nat):Row I:=⟨26,[.var 40 (.k (.d (.dat 40))) true,.d (.dat 27),.d (.int .i64),.d (.int .i64)],[.k (.d (.dat 33))],a3b n⟩
def b1T (_:Nat):Hints I:=mkH [(7,[[],[0],[],[2],[],[4],[],[6],[6,7],[],[9],[9,10],[6,7,8,9,10,11],[4,5,6,7,8,9,10,11,12],[0,1,2,3,4,5,6,7,8,9,10,11,12,13],[],[15],[0,1,2,3,4,5,6,7,8,9,10,11,12,13,14,15,16],[0,1,2,3,4,5,6,7,8,9,10,11,12,13,14,15,16,17],[0,1,2,3,4,5,6,7,8,9,10,11,12,13,14,15,16,17,18],[0,1,2,3,4,5,6,7,8,9,10,11,12,13,14,15,16,17,18,19]]),(25,[[],[0],[],[],[],[4],[],[4,5,6],[4,5,6,7],[],[9],[2,3,4,5,6,7,8,9,10],[2,3,4,5,6,7,8,9,10,11],[0,1,2,3,4,5,6,7,8,9,10,11,12],[0,1,2,3,4,5,6,7,8,9,10,11,12,13],[0,1,2,3,4,5,6,7,8,9,10,11,12,13,14]]),(30,[[],[0],[],[0,1,2],[0,1,2,3]]),(37,[[],[],[],[2],[],[],[5],[5,6],[4,5,6,7],[2,3,4,5,6,7,8],[2,3,4,5,6,7,8,9],[],[0,1,2,3,4,5,6,7,8,9,10,11],[0,1,2,3,4,5,6,7,8,9,10,11,12]]),(39,[[],[],[],[2],[],[],[5],[5,6],[4,5,6,7],[2,3,4,5,6,7,8],[2,3,4,5,6,7,8,9],[],[0,1,2,3,4,5,6,7,8,9,10,11],[0,1,2,3,4,5,6,7,8,9,10,11,12]]),(43,[[],[0],[],[2],[],[2,3,4],[2,3,4,5],[0,1,2,3,4,5,6],[0,1,2,3,4,5,6,7],[0,1,2,3,4,5,6,7,8],[0,1,2,3,4,5,6,7,8,9]]),(44,[[],[0],[0,1],[],[3],[],[5],[],[5,6,7],[5,6,7,8],[3,4,5,6,7,8,9],[3,4,5,6,7,8,9,10],[3,4,5,6,7,8,9,10,11],[3,4,5,6,7,8,9,10,11,12],[0,1,2,3,4,5,6,7,8,9,10,11,12,13],[0,1,2,3,4,5,6,7,8,9,10,11,12,13,14],[0,1,2,3,4,5,6,7,8,9,10,11,12,13,14,15],[0,1,2,3,4,5,6,7,8,9,10,11,12,13,14,15,16]]),(47,[[],[0],[],[2],[2,3],[0,1,2,3,4],[0,1,2,3,4,5]])] [] [] [(16449533,⟨386856262276681335905976320,[],[],[(.normal,[(86,.k (.d (.bool)))])]⟩),
 (263192557,⟨85029053355366337244815407887308292096,[],[(10,.lvs [.d (.int .i64),.d (.int .i64),.d (.str),.row 33 false,.row 130 false,.row 97 false,.row 9 false])],[(.normal,[])]⟩),
 (539018395474,⟨102844034449451492418213359320247649773843695697413960913387520,[],[(10,.k (.d (.dat 33)))],[(.normal,[])]⟩)] [(131596274,⟨2596147810297394171575110715049984,[],[(0,.k (.d (.dat 40))),(10,.lvs [.d (.int .i64),.d (.int .i64),.d (.str),.row 33 false,.row 130 false,.row 97 false,.row 9 false])],[(11,.k (.d (.int .i64)))],[((.exit 1),[])],bnd tb (.len (.ld 22 (.fld 65 4 (.slot 9)))) 1⟩),
 (67377299434,⟨102844034829582222281431884733353260024018043977843391611277312,[],[(10,.k (.d (.dat 33)))],[(12,.k (.d (.int .i64)))],[((.exit 3),[])],bnd tb (.len (.ld 22 (.fld 65 4 (.slot 9)))) 1⟩)] [] []
def X7 (n:Nat):Row I:=⟨56,[.var 40 (.k (.d (.dat 40))) true,.d (.dat 27),.d (.int .i64),.d (.int .i64)],[.k (.d (.dat 33))],b3E n⟩
def a8h (_:Nat):Hints I:=mkH [(10,[[],[0],[],[],[],[4],[],[4,5,6],[4,5,6,7],[],[9],[2,3,4,5,6,7,8,9,10],[2,3,4,5,6,7,8,9,10,11],[0,1,2,3,4,5,6,7,8,9,10,11,12],[0,1,2,3,4,5,6,7,8,9,10,11,12,13],[0,1,2,3,4,5,6,7,8,9,10,11,12,13,14]]),(13,[[],[],[],[2],[],[2,3,4],[2,3,4,5],[],[7],[0,1,2,3,4,5,6,7,8],[0,1,2,3,4,5,6,7,8,9],[0,1,2,3,4,5,6,7,8,9,10]])] [] [] [(31309,⟨2305280059260272640,[],[(0,.k (.d (.dat 40))),(12,.lvs [.row 33 false,.d (.bool),.d (.int .i64),.d (.int .i64),.d (.str),.d (.sl 33),.d (.sl 130),.d (.sl 97),.d (.sl 9)])],[(.normal,[])]⟩)] [(122,⟨36893488147414923776,[],[(0,.k (.d (.dat 40)))],[(9,.k (.row 97 false)),(11,.k (.d (.int .i64)))],[((.exit 0),[(9,.k (.row 97 false))])],bnd tb (.slot 11) 2⟩),
 (31306,⟨70368677076992,[],[(0,.k (.d (.dat 40))),(12,.lvs [.row 33 false,.d (.bool),.d (.int .i64),.d (.int .i64),.d (.str),.row 33 false,.row 130 false,.row 97 false,.row 9 false])],[(13,.k (.d (.int .i64)))],[((.exit 2),[])],bnd tb (.slot 10) 1⟩)] [] []
def K2 (n:Nat):Row I:=⟨108,[.var 40 (.k (.d (.dat 40))) true,.d (.dat 27),.d (.dat 65),.d (.int .i64)],[.k (.d (.dat 33))],a8Y n⟩
def b0b (_:Nat):Hints I:=mkH [(8,[[],[],[],[],[3],[],[3,4,5],[3,4,5,6],[3,4,5,6,7],[],[9],[1,2,3,4,5,6,7,8,9,10],[1,2,3,4,5,6,7,8,9,10,11],[0,1,2,3,4,5,6,7,8,9,10,11,12],[0,1,2,3,4,5,6,7,8,9,10,11,12,13]]),(12,[[],[],[],[],[3],[],[3,4,5],[3,4,5,6],[],[8],[1,2,3,4,5,6,7,8,9],[1,2,3,4,5,6,7,8,9,10],[0,1,2,3,4,5,6,7,8,9,10,11],[0,1,2,3,4,5,6,7,8,9,10,11,12]])] [(6,[28])] [] [(125,⟨604462333346562283935232,[],[(0,.k (.d (.dat 40)))],[(.normal,[(9,.k (.row 130 false)),(10,.k (.row 33 false))])]⟩),
 (978,⟨72057594033735168,[],[(0,.k (.d (.dat 40)))],[(.normal,[(9,.k (.row 130 false)),(10,.k (.row 33 false))])]⟩),
 (7824,⟨8585740288,[],[(0,.k (.d (.dat 40)))],[(.normal,[(32,.k (.d (.bool)))])]⟩)] [(122,⟨72057594037898752,[],[(0,.k (.d (.dat 40)))],[(9,.k (.row 130 false)),(10,.k (.row 33 false)),(11,.k (.d (.int .i64)))],[((.exit 0),[(9,.k (.row 130 false)),(10,.k (.row 33 false))])],bnd tb (.len (.ld 62 (.fld 65 5 (.slot 6)))) 1⟩)] [] []
def W0 (n:Nat):Row I:=⟨107,[.var 40 (.k (.d (.dat 40))) true,.d (.dat 27),.d (.dat 65),.d (.int .i64)],[.k (.d (.dat 33))],b1B n⟩
theorem b0F (n:Nat)(_:j6 Go.Proofs.Tryz.prog (V7 n))(h_semtypebase_Source_near:j6 Go.Proofs.Tryz.prog (X7 n))(_:j6 Go.Proofs.Tryz.prog (K2 n))(_:j6 Go.Proofs.Tryz.prog (W0 n)):RK (V7 (n+1)) :=
 okR [eR h_semtypebase_Source_near,eR (a9s n),eR a3Z] 21 Y5 [.cell 8 33] Go.Proofs.Tryz.func26 (by kernel_rfl)
theorem b05 (n:Nat)(h_semtypebase_Source_Near:j6 Go.Proofs.Tryz.prog (V7 n))(h_semtypebase_Source_near:j6 Go.Proofs.Tryz.prog (X7 n))(h_semtypebase_Source_nearFunction:j6 Go.Proofs.Tryz.prog (K2 n))(h_semtypebase_Source_nearMap:j6 Go.Proofs.Tryz.prog (W0 n)):RK (X7 (n+1)) :=
 okR [eR a3Z,eR w8,eR a69,eR a8L,eR a2h,eR a9Q,eR a1h,eR b0A,eR a3O,eR h_semtypebase_Source_Near,eR h_semtypebase_Source_nearMap,eR h_semtypebase_Source_nearFunction,eR h_semtypebase_Source_near,eR a5K,eR b1M,eR (b0N n)] 217 (b1T n) [.cell 8 33] Go.Proofs.Tryz.func56 (by kernel_rfl)
theorem a7z (n:Nat)(h_semtypebase_Source_Near:j6 Go.Proofs.Tryz.prog (V7 n))(_:j6 Go.Proofs.Tryz.prog (X7 n))(_:j6 Go.Proofs.Tryz.prog (K2 n))(_:j6 Go.Proofs.Tryz.prog (W0 n)):RK (K2 (n+1)) :=
 okR [eR w8,eR h_semtypebase_Source_Near,eR (a7R n),eR a3O] 75 (a8h n) [.cell 8 33] Go.Proofs.Tryz.func108 (by kernel_rfl)
theorem a9g (n:Nat)(h_semtypebase_Source_Near:j6 Go.Proofs.Tryz.prog (V7 n))(_:j6 Go.Proofs.Tryz.prog (X7 n))(_:j6 Go.Proofs.Tryz.prog (K2 n))(_:j6 Go.Proofs.Tryz.prog (W0 n)):RK (W0 (n+1)) :=
 okR [eR w8,eR h_semtypebase_Source_Near,eR b0y,eR a3O] 89 (b0b n) [.cell 8 33] Go.Proofs.Tryz.func107 (by kernel_rfl)
theorem a5o:∀ n:Nat,j6 Go.Proofs.Tryz.prog (V7 n)/\j6 Go.Proofs.Tryz.prog (X7 n)/\j6 Go.Proofs.Tryz.prog (K2 n)/\j6 Go.Proofs.Tryz.prog (W0 n)
 | 0=>⟨K5 (by kernel_rfl),K5 (by kernel_rfl),K5 (by kernel_rfl),K5 (by kernel_rfl)⟩
 | n+1=>by
   obtain ⟨h0,h1,h2,h3⟩:=a5o n
   exact ⟨b0F n h0 h1 h2 h3,b05 n h0 h1 h2 h3,a7z n h0 h1 h2 h3,a9g n h0 h1 h2 h3⟩
theorem b1k (n:Nat):j6 Go.Proofs.Tryz.prog (V7 n):=(a5o n).1
def b7D (_:Nat):Hints I:=mkH [(5,[[],[],[],[],[1,2,3],[0,1,2,3,4],[0,1,2,3,4,5]])] [] [] [] [] [] []
def b5k (n:Nat):Row I:=⟨9,[.d (.sl 3),.d (.sl 3)],[.k (.d (.dat 27)),.k (.d (.dat 33))],a5z n⟩
theorem b7l (n:Nat):RK (b5k n) :=
 okR [eR w8,eR b1x,eR (b1k n)] 31 (b7D n) [.cell 4 27,.cell 5 33] Go.Proofs.Tryz.func9 (by kernel_rfl)
def b8v:Hints I:=mkH [(7,[[],[],[1],[0,1,2],[],[],[4,5],[0,1,2,3,4,5,6],[0,1,2,3,4,5,6,7]])] [] [] [] [(28,⟨2097056,[],[],[(5,.k (.d (.int .i64)))],[((.exit 0),[(5,.k (.d (.int .i64)))])],bnd tb (.len (.slot 0)) 1⟩)] [] []
def b7j:Row I:=⟨72,[.d (.sl 3),.d (.int .i64)],[.k (.d (.sl 3))],a6f⟩
theorem b7F:RK (b7j) :=
 okR [] 46 b8v [.tmp 4] Go.Proofs.Tryz.func72 (by kernel_rfl)
def b8Y:Hints I:=mkH [] [] [] [] [(58,⟨131064,[],[],[(3,.k (.d (.sl 3))),(4,.k (.d (.int .i64)))],[((.exit 0),[(3,.k (.d (.sl 3)))])],bnd tb (.len (.slot 0)) 1⟩)] [] []
def b60:Row I:=⟨35,[.d (.sl 3)],[.k (.d (.sl 3))],a4y⟩
theorem b7P:RK (b60) :=
 okR [eR b7F] 18 b8Y [.tmp 2] Go.Proofs.Tryz.func35 (by kernel_rfl)
def b7k:Hints I:=mkH [(1,[[],[0],[0,1],[],[3],[0,1,2,3,4],[],[6],[0,1,2,3,4,5,6,7],[0,1,2,3,4,5,6,7,8]])] [] [] [] [] [] []
def b5e:Row I:=⟨15,[.d (.dat 37)],[.k (.d (.dat 37))],a5i⟩
theorem b5h:RK (b5e) :=
 okR [eR b7P] 12 b7k [.cell 2 37] Go.Proofs.Tryz.func15 (by kernel_rfl)
def b2g:Hints I:=mkH [(5,[[],[0],[],[],[3],[3,4],[2,3,4,5],[2,3,4,5,6],[0,1,2,3,4,5,6,7],[0,1,2,3,4,5,6,7,8],[0,1,2,3,4,5,6,7,8,9]]),(9,[[],[0],[],[],[3],[3,4],[2,3,4,5],[2,3,4,5,6],[0,1,2,3,4,5,6,7],[0,1,2,3,4,5,6,7,8],[0,1,2,3,4,5,6,7,8,9]])] [] [] [] [(58,⟨67104832,[],[(0,.k (.d (.dat 40))),(5,.lvs [.row 3 false,.row 3 false,.d (.bool)])],[(6,.k (.d (.int .i64)))],[((.exit 0),[])],bnd tb (.slot 6) 2⟩),
 (122,⟨4397778075776,[],[(0,.k (.d (.dat 40))),(5,.lvs [.row 3 false,.row 3 false,.d (.bool)])],[(7,.k (.d (.int .i64)))],[((.exit 2),[])],bnd tb (.slot 7) 2⟩)] [] []
def b03:Row I:=⟨10,[.var 40 (.k (.d (.dat 40))) true,.d (.dat 27)],[.k (.d (.dat 37))],a3f⟩
theorem b1u:RK (b03) :=
 okR [eR w8,eR b5h] 48 b2g [.cell 4 37] Go.Proofs.Tryz.func10 (by kernel_rfl)
end Go.Qx
end
section
namespace Go.Qx
open Go Go.RowKit Go.Sx
set_option maxHeartbeats 1600000
set_option maxRecDepth 100000
def b6D:Hints I:=mkH [(4,[[],[],[1],[0,1,2],[0,1,2,3],[],[],[5,6],[5,6,7],[0,1,2,3,4,5,6,7,8]])] [] [] [] [(26,⟨1048572,[],[],[(3,.k (.d (.int .i64)))],[((.exit 0),[]),(.ret,[(2,.k (.d (.bool)))])],bnd tb (.len (.slot 0)) 1⟩)] [] []
def b5g:Row I:=⟨43,[.d (.sl 3)],[.k (.d (.bool))],a1x⟩
theorem b5j:RK (b5g) :=
 okR [] 20 b6D [.tmp 2] Go.Proofs.Tryz.func43 (by kernel_rfl)
def b7O:Hints I:=mkH [(4,[[],[],[0,1],[0,1,2],[0,1,2,3],[0,1,2,3,4],[0,1,2,3,4,5],[0,1,2,3,4,5,6],[0,1,2,3,4,5,6,7],[0,1,2,3,4,5,6,7,8],[0,1,2,3,4,5,6,7,8,9],[0,1,2,3,4,5,6,7,8,9],[0,1,2,3,4,5,6,7,8,9,11],[0,1,2,3,4,5,6,7,8,9,10,11,12],[0,1,2,3,4,5,6,7,8,9,10,11,12,13],[0,1,2,3,4,5,6,7,8,9],[0,1,2,3,4,5,6,7,8,9],[0,1,2,3,4,5,6,7,8,9,15,16],[0,1,2,3,4,5,6,7,8,9,15,16,17],[0,1,2,3,4,5,6,7,8,9,10,11,12,13,14,15,16,17,18],[0,1,2,3,4,5,6,7,8,9,10,11,12,13,14,15,16,17,18,19],[0,1,2,3,4,5,6,7,8,9,10,11,12,13,14,15,16,17,18,19,20]])] [] [] [] [(26,⟨4294967292,[],[],[(3,.k (.d (.int .i64)))],[((.exit 0),[]),(.ret,[(2,.k (.d (.bool)))])],bnd tb (.len (.slot 0)) 1⟩)] [] []
def b5l:Row I:=⟨44,[.d (.sl 9)],[.k (.d (.bool))],a07⟩
theorem b7a:RK (b5l) :=
 okR [eR a6T] 32 b7O [.tmp 2] Go.Proofs.Tryz.func44 (by kernel_rfl)
def b3F:Row I:=⟨45,[.d (.dat 65),.d (.dat 53)],[.k (.d (.bool))],a1d⟩
theorem b4F:RK (b3F) :=
 okR [] 44 Y5 [.tmp 4] Go.Proofs.Tryz.func45 (by kernel_rfl)
def b1W:Hints I:=mkH [(4,[[],[],[0,1],[0,1,2],[0,1,2,3],[],[],[5,6],[5,6,7],[5,6,7,8],[0,1,2,3,4,5,6,7,8,9],[0,1,2,3,4,5,6,7,8,9,10],[0,1,2,3,4,5,6,7,8,9,10,11],[0,1,2,3,4,5,6,7,8,9,10,11,12],[0,1,2,3,4,5,6,7,8,9,10,11,12,13],[0,1,2,3,4,5,6,7,8,9,10,11,12,13,14],[0,1,2,3,4,5,6,7,8,9,10,11,12,13,14],[0,1,2,3,4,5,6,7,8,9,10,11,12,13,14,16],[0,1,2,3,4,5,6,7,8,9,10,11,12,13,14,15,16,17],[0,1,2,3,4,5,6,7,8,9,10,11,12,13,14,15,16,17,18],[0,1,2,3,4,5,6,7,8,9,10,11,12,13,14,15,16,17,18,19],[0,1,2,3,4,5,6,7,8,9,10,11,12,13,14,15,16,17,18,19,20],[0,1,2,3,4,5,6,7,8,9,10,11,12,13,14,15,16,17,18,19,20,21],[0,1,2,3,4,5,6,7,8,9,10,11,12,13,14,15,16,17,18,19,20,21,22],[0,1,2,3,4,5,6,7,8,9,10,11,12,13,14,15,16,17,18,19,20,21,22],[0,1,2,3,4,5,6,7,8,9,10,11,12,13,14,15,16,17,18,19,20,21,22,23,24],[0,1,2,3,4,5,6,7,8,9,10,11,12,13,14,15,16,17,18,19,20,21,22,23,24,25],[0,1,2,3,4,5,6,7,8,9,10,11,12,13,14,15,16,17,18,19,20,21,22,23,24,25,26],[0,1,2,3,4,5,6,7,8,9,10,11,12,13,14,15,16,17,18,19,20,21,22],[0,1,2,3,4,5,6,7,8,9,10,11,12,13,14,15,16,17,18,19,20,21,22],[0,1,2,3,4,5,6,7,8,9,10,11,12,13,14,15,16,17,18,19,20,21,22,29],[0,1,2,3,4,5,6,7,8,9,10,11,12,13,14,15,16,17,18,19,20,21,22,28,29,30],[0,1,2,3,4,5,6,7,8,9,10,11,12,13,14,15,16,17,18,19,20,21,22,28,29,30,31],[0,1,2,3,4,5,6,7,8,9,10,11,12,13,14,15,16,17,18,19,20,21,22,28,29,30,31,32],[0,1,2,3,4,5,6,7,8,9,10,11,12,13,14,15,16,17,18,19,20,21,22,28,29,30,31,32,33],[0,1,2,3,4,5,6,7,8,9,10,11,12,13,14,15,16,17,18,19,20,21,22,23,24,25,26,27,28,29,30,31,32,33,34],[0,1,2,3,4,5,6,7,8,9,10,11,12,13,14,15,16,17,18,19,20,21,22,23,24,25,26,27,28,29,30,31,32,33,34,35],[0,1,2,3,4,5,6,7,8,9,10,11,12,13,14,15,16,17,18,19,20,21,22,23,24,25,26,27,28,29,30,31,32,33,34,35,36],[0,1,2,3,4,5,6,7,8,9,10,11,12,13,14,15,16,17,18,19,20,21,22,23,24,25,26,27,28,29,30,31,32,33,34,35,36,37]])] [] [] [] [(26,⟨562949953421308,[],[],[(3,.k (.d (.int .i64)))],[((.exit 0),[]),(.ret,[(2,.k (.d (.bool)))])],bnd tb (.len (.slot 0)) 1⟩)] [] []
def b0P:Row I:=⟨46,[.d (.sl 126)],[.k (.d (.bool))],a1P⟩
theorem b1A:RK (b0P) :=
 okR [] 49 b1W [.tmp 2] Go.Proofs.Tryz.func46 (by kernel_rfl)
def b2S:Hints I:=mkH [(4,[[],[0],[],[2],[0,1,2,3],[0,1,2,3,4],[],[6],[],[6,7,8],[6,7,8,9],[0,1,2,3,4,5,6,7,8,9,10]])] [] [] [] [(26,⟨8388604,[],[],[(3,.k (.d (.int .i64)))],[((.exit 0),[]),(.ret,[(2,.k (.d (.bool)))])],bnd tb (.len (.ld 31 (.fld 51 1 (.slot 1)))) 1⟩)] [] []
def b1b:Row I:=⟨47,[.d (.dat 51)],[.k (.d (.bool))],a05⟩
theorem b1J:RK (b1b) :=
 okR [] 23 b2S [.tmp 2] Go.Proofs.Tryz.func47 (by kernel_rfl)
def b6O:Hints I:=mkH [(9,[[],[0],[],[0,1,2],[0,1,2,3],[],[5],[],[5,6,7],[5,6,7,8],[0,1,2,3,4,5,6,7,8,9]]),(19,[[],[0],[],[0,1,2],[0,1,2,3],[],[5],[],[5,6,7],[5,6,7,8],[0,1,2,3,4,5,6,7,8,9]]),(21,[[],[0],[0,1],[],[3],[0,1,2,3,4],[0,1,2,3,4,5]]),(25,[[],[],[0,1],[0,1,2],[0,1,2,3],[0,1,2,3,4],[0,1,2,3,4,5],[0,1,2,3,4,5],[0,1,2,3,4,5,6,7],[0,1,2,3,4,5,6,7,8],[0,1,2,3,4,5],[0,1,2,3,4,5,10],[0,1,2,3,4,5,10,11],[0,1,2,3,4,5,6,7,8,9,10,11,12],[0,1,2,3,4,5,6,7,8,9,10,11,12,13],[0,1,2,3,4,5,6,7,8,9,10,11,12,13,14],[0,1,2,3,4,5,6,7,8,9,10,11,12,13,14,15],[0,1,2,3,4,5,6,7,8,9,10,11,12,13,14,15,16],[0,1,2,3,4,5,6,7,8,9,10,11,12,13,14,15],[0,1,2,3,4,5,6,7,8,9,10,11,12,13,14,15],[0,1,2,3,4,5,6,7,8,9,10,11,12,13,14,15,18,19],[0,1,2,3,4,5,6,7,8,9,10,11,12,13,14,15,18,19,20],[0,1,2,3,4,5,6,7,8,9,10,11,12,13,14,15,16,17,18,19,20,21],[0,1,2,3,4,5,6,7,8,9,10,11,12,13,14,15,16,17,18,19,20,21,22],[0,1,2,3,4,5,6,7,8,9,10,11,12,13,14,15],[0,1,2,3,4,5,6,7,8,9,10,11,12,13,14,15,16,17,18,19,20,21,22,23,24],[0,1,2,3,4,5,6,7,8,9,10,11,12,13,14,15,16,17,18,19,20,21,22,23,24,25],[0,1,2,3,4,5,6,7,8,9,10,11,12,13,14,15,16,17,18,19,20,21,22,23,24,25,26]])] [] [] [] [(58,⟨1180591585533039214704,[],[],[(5,.k (.d (.int .i64)))],[((.exit 0),[]),(.ret,[(4,.k (.d (.bool)))])],bnd tb (.len (.ld 31 (.fld 53 6 (.slot 3)))) 1⟩),
 (250,⟨10633823649366676926173106108066955664,[],[],[(7,.k (.d (.int .i64)))],[((.exit 4),[]),(.ret,[(4,.k (.d (.bool)))])],bnd tb (.len (.ld 22 (.fld 53 4 (.slot 3)))) 1⟩),
 (1018,⟨11692013097966658611787601734803514942383923921936,[9],[],[(10,.k (.d (.int .i64)))],[((.exit 8),[]),(.ret,[(4,.k (.d (.bool)))])],bnd tb (.len (.slot 9)) 1⟩),
 (3730,⟨1180587117117783933008,[],[],[(6,.k (.d (.int .i64)))],[((.exit 2),[]),(.ret,[(4,.k (.d (.bool)))])],bnd tb (.len (.ld 31 (.fld 53 7 (.slot 3)))) 1⟩),
 (16018,⟨10633783401460119679889608587740184848,[],[],[(8,.k (.d (.int .i64)))],[((.exit 6),[]),(.ret,[(4,.k (.d (.bool)))])],bnd tb (.len (.ld 22 (.fld 53 5 (.slot 3)))) 1⟩)] [] []
def b4A:Row I:=⟨17,[.d (.dat 27),.d (.dat 53)],[.k (.d (.bool))],a5h⟩
theorem b5y:RK (b4A) :=
 okR [eR b5j,eR b7a,eR b4F,eR b1A,eR b1J] 225 b6O [.tmp 4] Go.Proofs.Tryz.func17 (by kernel_rfl)
def b1K (_:Nat):Hints I:=mkH [(5,[[],[],[],[1,2],[0,1,2,3],[0,1,2,3,4]]),(11,[[],[],[],[1,2],[1,2,3],[0,1,2,3,4],[0,1,2,3,4,5]])] [] [] [] [(1018,⟨70360154243600,[8],[],[(9,.k (.d (.int .i64)))],[((.exit 0),[]),(.ret,[(4,.k (.d (.bool)))])],bnd tb (.len (.slot 8)) 1⟩)] [] []
noncomputable def b0S (n:Nat):Row I:=⟨4,[.d (.sl 3),.d (.sl 3)],[.k (.d (.bool))],a0N n⟩
theorem b1C (n:Nat):RK (b0S n) :=
 okR [eR b7u,eR (b7m n),eR (b7l n),eR b1u,eR (b5N n),eR b5y] 47 (b1K n) [.tmp 4] Go.Proofs.Tryz.func4 (by kernel_rfl)
end Go.Qx
end
section
namespace Go.Pl
open Go Go.RowKit Go.Sx Go.Qx Go.Proofs.YtldcbllenafgjaaGreatDoor
def a9Y (w:World):S:=⟨w,fun b=>match w.heap[b]? with | some (.cells c _ _)=>(c.size,0) | _=>(0,0)⟩
theorem c7Y {w:World}{b o:Nat}{cs:List Value}(hn:cs≠[])(h:w.rangeAt b o cs):a34 (a9Y w) b o cs:=by
 refine ⟨?_,h⟩
 have hl:0<cs.length:=List.length_pos_iff.2 hn
 have hj:=h (cs.length-1) _ (List.getElem?_eq_getElem (by omega))
 unfold World.cell? at hj
 simp only at hj
 split at hj
 ·rename_i c e f hb
  have h2:o+(cs.length-1)<c.size:=by
   simp only [Option.isSome_none,Bool.false_eq_true,if_false] at hj
   exact (Array.getElem?_eq_some_iff.1 hj).1
  show o+cs.length<=(match w.heap[b]? with | some (.cells c _ _)=>(c.size,0) | _=>(0,0)).1
  rw [hb]
  show o+cs.length<=c.size
  omega
 ·cases hj
theorem c8k {w:World}{base:Nat}{a:Addr}{n:Nat}{cs:List Value}(h:w.cells? base a n=some cs) :
 cs.length=n/\∀ (i:Nat) (v:Value),cs[i]?=some v->w.cell? (a.add i)=some v:=by
 unfold World.cells? at h
 split at h
 ·have hl:cs.length=n:=by simpa using mapM_some_length h
  refine ⟨hl,fun i v hv=>?_⟩
  have hi:i<n:=by have:=(List.getElem?_eq_some_iff.1 hv).1; omega
  have:=mapM_some_get h i i (by simp [hi])
  rw [this,hv]
 ·cases h
theorem d2k (a:Addr)(x j:Nat):(a.add x).add j=a.add (x+j):=by
 unfold Addr.add
 by_cases hx:x=0
 ·subst hx; simp
 ·by_cases hj:j=0
  ·subst hj; simp [hx]
  ·rw [if_neg hj,if_neg hx,if_neg (by omega),Nat.add_assoc]
theorem c9B {w:World}{a:Addr}{v:Value}(h:w.cell? a=some v):a.spot=none:=by
 unfold World.cell? at h
 split at h
 ·split at h
  ·cases h
  ·rename_i hs; simpa using hs
 ·cases h
section
variable {H:Type}{enc:TypeId×Value->H}{P:Program}{w:World}{base:Nat}{spare:Nat->Bool}{held:Bool}
theorem c1T {α:Type} [Rp α] {fuel:Nat}{t e:TypeId}{cs:List Value}{x:DataW H×List MemPlace}(ht:P.underlying t=some (.slice e))(hc:P.cellsOf e=Rp.sz α)(bk:α->Nat)
 (hrd:∀ (n:Nat) (cs:List Value) (x:DataW H×List MemPlace),n<fuel->DataW.trod enc P w base spare held n e cs=some x->∃ d:α,Rp.cells (a9Y w) d cs/\bk d<=Rows.uptoBulk x.1)
 (h:DataW.trod enc P w base spare held fuel t cs=some x) :
 ∃ (ds:List α) (A:Option Addr) (c:Nat),cs=[.slice A ds.length c]/\Sl (a9Y w) ds A c/\(ds.map bk).sum+1<=Rows.uptoBulk x.1:=by
 rcases DataW.trod_slice ht h with ⟨rfl,rfl⟩ | ⟨a,len,cap,elems,rest,n,rfl,rfl,rfl,hb,hl,hm,hle,hget,-,-⟩
 ·exact ⟨[],none,0,rfl,Sl.nil_ _ _ _ (Nat.zero_le _),by simp [Rows.uptoBulk]⟩
 have key:∀ (m i:Nat),i+m=len->∃ (ds:List α) (cs:List Value),ds.length=m/\V3 (a9Y w) ds cs /\
  (∀ (j:Nat) (v:Value),cs[j]?=some v->w.cell? (a.add (i*Rp.sz α+j))=some v)/\(ds.map bk).sum<=Rows.uptoBulkAll ((elems.drop i).map (·.1)):=by
  intro m
  induction m with
  | zero=>intro i _; exact ⟨[],[],rfl,rfl,fun j v hv=>by simp at hv,by simp⟩
  | succ m ih =>
    intro i hi
    obtain ⟨ds,cs,h1,h2,h3,h4⟩:=ih (i+1) (by omega)
    have hlt:i<elems.length:=by omega
    have hg:=hget i (by omega)
    rw [List.getElem?_eq_getElem hlt,Option.bind_eq_some_iff] at hg
    obtain ⟨cs0,hcs,htr⟩:=hg
    obtain ⟨d,hd,hbk⟩:=hrd n cs0 _ (by omega) htr
    obtain ⟨hcl,hci⟩:=c8k hcs
    rw [hc] at hcl hci
    refine ⟨d::ds,cs0++cs,by simp [h1],⟨cs0,cs,rfl,hd,h2⟩,?_,?_⟩
    ·intro j v hv
     by_cases hj:j<Rp.sz α
     ·rw [List.getElem?_append_left (by omega)] at hv
      rw [<- d2k]
      exact hci j v hv
     ·rw [List.getElem?_append_right (by omega)] at hv
      have:=h3 _ v hv
      rw [hcl,Nat.add_mul,Nat.one_mul] at this
      have e:i*Rp.sz α+Rp.sz α+(j-Rp.sz α)=i*Rp.sz α+j:=by omega
      rw [e] at this
      exact this
    ·rw [List.drop_eq_getElem_cons hlt]
     simp only [List.map_cons,List.sum_cons,Rows.uptoBulkAll]
     omega
 obtain ⟨ds,cs,h1,h2,h3,h4⟩:=key len 0 (by omega)
 simp only [Nat.zero_mul,Nat.zero_add,List.drop_zero] at h3 h4
 refine ⟨ds,some a,cap,by rw [h1],⟨by omega,hm,cs,h2,fun hn=>?_⟩,by simp only [Rows.uptoBulk]; omega⟩
 have hne:=h2.ne_nil hn
 cases cs with
 | nil=>exact absurd rfl hne
 | cons v0 r =>
   have h0:=h3 0 v0 rfl
   have hs:a.spot=none:=c9B (by simpa [Addr.add] using h0)
   obtain ⟨b,o,sp⟩:=a
   simp only at hs
   subst hs
   refine ⟨b,o,rfl,c7Y (by simp) ?_⟩
   intro j v hv
   have:=h3 j v hv
   unfold Addr.add at this
   by_cases hj:j=0
   ·subst hj; simpa using this
   ·rw [if_neg hj] at this
    exact this
end
end Go.Pl
end
section
namespace Go.Pl
open Go Go.RowKit Go.Sx Go.Qx
def b8t (_:Int):Nat:=1
def c4E (l:List Int):Nat:=(l.map b8t).sum+1
end Go.Pl
end
section
namespace Go.Pl
open Go Go.RowKit Go.Sx Go.Qx Go.Proofs.YtldcbllenafgjaaGreatDoor
theorem c3:Go.Proofs.Tryz.prog.cellsOf 3=1:=by kernel_rfl
section
variable {H:Type}{enc:TypeId×Value->H}{w:World}{base:Nat}{spare:Nat->Bool}{held:Bool}
theorem d3D {n:Nat}{cs:List Value}{x:DataW H×List MemPlace}(h:DataW.trod enc Go.Proofs.Tryz.prog w base spare held n 3 cs=some x):∃ d:Int,(rpK .i64).cells (a9Y w) d cs/\b8t d<=Rows.uptoBulk x.1:=by
 obtain ⟨k,e0,rfl,_⟩:=DataW.trod_int Go.Proofs.Tryz.underlying3 h
 exact ⟨k,e0,by simp [b8t,Rows.uptoBulk]⟩
end
end Go.Pl
end
